/- The machine's table of misses: where a line stands, or would. -/
import Derived.Test.YtjmlficbnljiaaaDoorMisA
namespace Go.Proofs.YtjmlficbnljiaaaDoor
open Go.RowKit

/-- By rising lines, each of 0 to 31. -/
structure Srt (l : List Mis) : Prop where
  up : ∀ (i j : Nat) (e f : Mis), i < j → l[i]? = some e → l[j]? = some f → e.line < f.line
  inb : ∀ e ∈ l, 0 ≤ e.line ∧ e.line ≤ 31

set_option maxHeartbeats 400000 in
theorem at_fn (e : Mis) (line : Int) (w : World) (h0 : 0 ≤ e.line) (h1 : e.line ≤ 31) (h2 : 0 ≤ line) (h3 : line ≤ 31) :
    Calls Tryd.prog 73 #[e.val, .int .i64 line] w fun r w' => r = .returned (.int .i64 (e.line - line)) ∧ Below w.heap.size w w' := by
  unfold Mis.val
  go_enter Tryd.func73, Tryd.ntmps73
  go_wp2
  go_ret
  exact ⟨rfl, (Below.refl _ _).alloc (Nat.le_refl _) _⟩
theorem callFunc_at : ∀ args w, (callFunc 73 args).run Tryd.prog w = .ok (.enter 73 args) w := fun _ _ => by kernel_rfl

/-- Where a line stands, or would. -/
def StandsAt (l : List Mis) (line : Int) (i : Nat) : Prop := i ≤ l.length ∧ (∀ (q : Nat) (e : Mis), q < i → l[q]? = some e → e.line < line) ∧ ∀ (q : Nat) (e : Mis), i ≤ q → l[q]? = some e → line ≤ e.line

theorem stands_none {l : List Mis} {line : Int} {i : Nat} (h : StandsAt l line i) (hi : i = l.length) : l.any (isMis line) = false := by
  rw [Bool.eq_false_iff]
  intro hc
  obtain ⟨e, he, hp⟩ := List.any_eq_true.1 hc
  obtain ⟨q, hq, rfl⟩ := List.getElem_of_mem he
  have := h.2.1 q _ (by omega) (List.getElem?_eq_getElem hq)
  simp [isMis] at hp
  omega
theorem stands_any {l : List Mis} {line : Int} {i : Nat} {e : Mis} (h : StandsAt l line i) (hs : Srt l) (he : l[i]? = some e) : l.any (isMis line) = isMis line e := by
  by_cases hp : isMis line e = true
  · rw [hp]; exact List.any_eq_true.2 ⟨e, List.mem_of_getElem? he, hp⟩
  · have hp' : isMis line e = false := by simpa using hp
    rw [hp', Bool.eq_false_iff]
    intro hc
    obtain ⟨f, hf, hq⟩ := List.any_eq_true.1 hc
    obtain ⟨q, hql, rfl⟩ := List.getElem_of_mem hf
    simp [isMis] at hq hp
    have h1 := h.2.2 i e (Nat.le_refl _) he
    rcases Nat.lt_trichotomy q i with hlt | heq | hlt
    · have := h.2.1 q _ hlt (List.getElem?_eq_getElem hql); omega
    · subst heq
      rw [List.getElem?_eq_getElem hql] at he
      cases he
      exact hp hq
    · have := hs.up i q e _ hlt he (List.getElem?_eq_getElem hql); omega

set_option maxHeartbeats 1600000 in
set_option maxRecDepth 10000 in
theorem search_mis (line : Int) (a : Option Addr) (g c : Nat) (l : List Mis) (w : World) (hlen : l.length ≤ 8) (hm : MisAt w a g l) (hs : Srt l) (h2 : 0 ≤ line) (h3 : line ≤ 31) :
   Calls Tryd.prog 72 #[.slice a l.length c, .int .i64 line, .func (.func 73) #[] #[]] w fun r w' => (∃ i : Nat, StandsAt l line i ∧ r = .returned (.tuple #[.int .i64 i, .bool (l.any (isMis line))])) ∧ Below w.heap.size w w' := by
  have HA := Lib.hid hm
  have HS := Lib.hid hs
  clear hm hs
  have hcf := callFunc_at
  go_enter Tryd.func72, Tryd.ntmps72
  go_wp2
  go_loopw [9, 10] (fun vi vj wr => ∃ i j : Nat, i ≤ j ∧ j ≤ l.length ∧ vi = .int .i64 i ∧ vj = .int .i64 j ∧ Below w.heap.size w wr ∧ (∀ (q : Nat) (e : Mis), q < i → l[q]? = some e → e.line < line) ∧ ∀ (q : Nat) (e : Mis), j ≤ q → l[q]? = some e → line ≤ e.line) (fun vi vj _ => (intOf vj).toNat - (intOf vi).toNat)
  case atStart => exact ⟨0, l.length, by omega, by omega, rfl, rfl, Below.refl _ _, fun q e hq => by omega, fun q e hq he => by rw [List.getElem?_eq_none (by omega)] at he; cases he⟩
  case round =>
    obtain ⟨i, j, hij, hjl, rfl, rfl, hB, hlo, hhi⟩ := hrel
    have HLO := Lib.hid hlo
    have HHI := Lib.hid hhi
    clear hlo hhi
    by_cases hlt : i < j
    · obtain ⟨m, hm⟩ : ∃ m : Nat, ((i : Int) + (j : Int)) / 2 = m := ⟨(i + j) / 2, by omega⟩
      have hm1 : i ≤ m := by omega
      have hm2 : m < j := by omega
      have hm3 : m < l.length := by omega
      obtain ⟨e, he⟩ : ∃ e, l[m]? = some e := ⟨_, List.getElem?_eq_getElem hm3⟩
      have HE := Lib.hid he; clear he
      have hb := HS.out.inb e (List.mem_of_getElem? HE.out)
      obtain ⟨b0, b1⟩ := hb
      obtain rfl := HA.out.addr (by rintro rfl; simp at hm3)
      obtain ⟨c0, c1⟩ := (HA.out.below hB (Nat.le_refl _)).two HE.out
      by_cases hc : e.line < line
      · have hc0 : e.line - line < 0 := by omega
        go_wp2_with fail
        refine (at_fn e line _ b0 b1 h2 h3).mono ?_; rintro r w2 ⟨rfl, hB2⟩
        have HB3 := Lib.hid (hB.trans (hB2.mono hB.size))
        clear hB2 c0 c1
        go_wp2_with fail
        go_roundw
        case rel =>
          refine ⟨m + 1, j, by omega, hjl, by go_num, rfl, HB3.out, ?_, HHI.out⟩
          intro q f hq hf
          by_cases hqm : q = m
          · subst hqm
            have h1 := HE.out
            rw [hf] at h1
            cases h1
            exact hc
          · exact Int.lt_trans (HS.out.up q m f e (by omega) hf HE.out) hc
        case measure => simp [intOf]; omega
      · have hc0 : ¬ e.line - line < 0 := by omega
        go_wp2_with fail
        refine (at_fn e line _ b0 b1 h2 h3).mono ?_; rintro r w2 ⟨rfl, hB2⟩
        have HB3 := Lib.hid (hB.trans (hB2.mono hB.size))
        clear hB2 c0 c1
        go_wp2_with fail
        go_roundw
        case rel =>
          refine ⟨i, m, by omega, by omega, rfl, rfl, HB3.out, HLO.out, ?_⟩
          intro q f hq hf
          by_cases hqm : q = m
          · subst hqm
            have h1 := HE.out
            rw [hf] at h1
            cases h1
            omega
          · have := HS.out.up m q e f (by omega) HE.out hf
            omega
        case measure => simp [intOf]; omega
    · obtain rfl : i = j := by omega
      have HST : Hid (StandsAt l line i) := Lib.hid ⟨hjl, HLO.out, HHI.out⟩
      by_cases hil : i < l.length
      · obtain ⟨e, he⟩ : ∃ e, l[i]? = some e := ⟨_, List.getElem?_eq_getElem hil⟩
        have HE := Lib.hid he; clear he
        have hb := HS.out.inb e (List.mem_of_getElem? HE.out)
        obtain ⟨b0, b1⟩ := hb
        obtain rfl := HA.out.addr (by rintro rfl; simp at hil)
        obtain ⟨c0, c1⟩ := (HA.out.below hB (Nat.le_refl _)).two HE.out
        have HAny := Lib.hid (stands_any HST.out HS.out HE.out)
        go_wp2_with fail
        refine (at_fn e line _ b0 b1 h2 h3).mono ?_; rintro r w2 ⟨rfl, hB2⟩
        have HB3 := Lib.hid (hB.trans (hB2.mono hB.size))
        clear hB2 c0 c1
        go_wp2_with fail
        go_ret2
        refine ⟨⟨i, HST.out, ?_⟩, HB3.out⟩
        rw [HAny.out]
        have : (e.line - line == 0) = isMis line e := by
          unfold isMis
          rw [Bool.eq_iff_iff]; simp; omega
        rw [this]
        rfl
      · have hil2 : i = l.length := by omega
        have HAny : Hid (l.any (isMis line) = false) := Lib.hid (stands_none HST.out hil2)
        clear hil2
        go_wp2_with fail
        go_ret2
        refine ⟨⟨i, HST.out, ?_⟩, hB⟩
        rw [HAny.out]
        rfl

set_option maxHeartbeats 800000 in
set_option maxRecDepth 10000 in
theorem at_any {w : World} {T B : Nat} {most : Int} {v : Value} {l : List Mis} (h : TabAt w T B 114 85 most v l) (hl : l.length ≤ 8) (hs : Srt l) (line : Int) (h2 : 0 ≤ line) (h3 : line ≤ 31) :
    Calls Tryd.prog 55 #[.pointer (some ⟨T, 0, none⟩), .int .i64 line] w fun r w' => (∃ i : Nat, StandsAt l line i ∧ r = .returned (.tuple #[.int .i64 i, .bool (l.any (isMis line))])) ∧ Below w.heap.size w w' := by
  obtain ⟨a, c, g, rfl, hm, -⟩ := MisAt.of_own h.row
  obtain ⟨c0, c1⟩ := h.c0
  have HC := Lib.hid (search_mis line a g c l w hl hm hs h2 h3)
  clear h hm hs
  go_enter Tryd.func55, Tryd.ntmps55
  go_wp2_with fail
  refine HC.out.mono ?_; rintro r w2 ⟨⟨i, HI, rfl⟩, hB2⟩
  have HI2 := Lib.hid HI
  clear HI
  go_wp2_with fail
  go_ret2
  exact ⟨⟨i, HI2.out, rfl⟩, hB2⟩
end Go.Proofs.YtjmlficbnljiaaaDoor
