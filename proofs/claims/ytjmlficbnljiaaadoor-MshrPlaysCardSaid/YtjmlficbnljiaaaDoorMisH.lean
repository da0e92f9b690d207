/- The machine's table of misses: Add, List; Same over misses. -/
import Derived.Test.YtjmlficbnljiaaaDoorMisB
import Derived.Test.YtjmlficbnljiaaaDoorMisG
import Derived.Test.YtjmlficbnljiaaaDoorEq
namespace Go.Proofs.YtjmlficbnljiaaaDoor
open Go.RowKit

/-- Where a line stands, or would. -/
def mPos (l : List Mis) (line : Int) : Nat := (l.takeWhile fun e => decide (e.line < line)).length
theorem stands_pos : ∀ {l : List Mis} {line : Int} {i : Nat}, StandsAt l line i → i = mPos l line
  | [], line, i, h => by have := h.1; simp at this; subst this; rfl
  | e :: l, line, i, h => by
    unfold mPos
    rw [List.takeWhile_cons]
    by_cases hc : e.line < line
    · rw [decide_eq_true hc, if_pos rfl]
      rcases i with _ | i
      · exact absurd (h.2.2 0 e (Nat.le_refl _) rfl) (by omega)
      · have : StandsAt l line i := ⟨by have := h.1; simp at this; omega, fun q f hq hf => h.2.1 (q + 1) f (by omega) (by simpa using hf), fun q f hq hf => h.2.2 (q + 1) f (by omega) (by simpa using hf)⟩
        rw [List.length_cons, stands_pos this]; rfl
    · rw [decide_eq_false hc]
      rcases i with _ | i
      · rfl
      · exact absurd (h.2.1 0 e (by omega) rfl) hc

def badMis (line kind : Int) : Prop := line < 0 ∨ 31 < line ∨ kind < 1 ∨ 4 < kind
instance (line kind : Int) : Decidable (badMis line kind) := by unfold badMis; infer_instance
/-- Add of a miss: its code, what is under way then. -/
def mAdd (most : Int) (l : List Mis) (line kind : Int) : Nat × List Mis :=
  if badMis line kind then (1, l) else if l.any (isMis line) = true then (7, l) else if most ≤ l.length then (6, l) else (0, insAt l (mPos l line) ⟨line, kind⟩)

variable {w : World} {T B : Nat} {most : Int} {v : Value} {l : List Mis}

set_option maxHeartbeats 1600000 in
set_option maxRecDepth 10000 in
theorem MAdd_bad (line kind : Int) (hb : badMis line kind) (p : Nat → Addr) (hg : Glob w p) :
    Calls Tryd.prog 28 #[.pointer (some ⟨T, 0, none⟩), .int .i64 line, .int .i64 kind] w fun r w' => r = .returned (errV opMAdd line (sentV (p 1))) ∧ w = w' := by
  have hArg := hg.cell 1 (by omega) (by omega)
  simp only [gIx] at hArg
  clear hg
  unfold badMis at hb
  by_cases h1 : line < 0
  · go_enter Tryd.func28, Tryd.ntmps28
    go_wp2_with fail
    refine (fault_Wrap _ _ _ _ _).mono ?_; rintro r w2 ⟨rfl, rfl⟩
    go_wp2_with fail
    go_ret
    exact ⟨rfl, rfl⟩
  · by_cases h2 : 32 ≤ line
    · go_enter Tryd.func28, Tryd.ntmps28
      go_wp2_with fail
      refine (fault_Wrap _ _ _ _ _).mono ?_; rintro r w2 ⟨rfl, rfl⟩
      go_wp2_with fail
      go_ret
      exact ⟨rfl, rfl⟩
    · by_cases h3 : kind < 1
      · go_enter Tryd.func28, Tryd.ntmps28
        go_wp2_with fail
        refine (fault_Wrap _ _ _ _ _).mono ?_; rintro r w2 ⟨rfl, rfl⟩
        go_wp2_with fail
        go_ret
        exact ⟨rfl, rfl⟩
      · have h4 : 4 < kind := by omega
        go_enter Tryd.func28, Tryd.ntmps28
        go_wp2_with fail
        refine (fault_Wrap _ _ _ _ _).mono ?_; rintro r w2 ⟨rfl, rfl⟩
        go_wp2_with fail
        go_ret
        exact ⟨rfl, rfl⟩

set_option maxHeartbeats 3200000 in
set_option maxRecDepth 10000 in
theorem MAdd_good (h : TabAt w T B 114 85 most v l) (hl : l.length ≤ 8) (hs : Srt l) (line kind : Int) (hnb : ¬ badMis line kind) (p : Nat → Addr) (hg : Glob w p) :
    Calls Tryd.prog 28 #[.pointer (some ⟨T, 0, none⟩), .int .i64 line, .int .i64 kind] w fun r w' => r = .returned (codeErr p opMAdd line (mAdd most l line kind).1) ∧ ∃ v', TabStep w w' T B 114 85 most v v' (mAdd most l line kind).2 := by
  have hA : (mAdd most l line kind) = if l.any (isMis line) = true then (7, l) else if most ≤ l.length then (6, l) else (0, insAt l (mPos l line) ⟨line, kind⟩) := by unfold mAdd; rw [if_neg hnb]
  rw [hA]
  clear hA
  unfold badMis at hnb
  have n0 : ¬ line < 0 := by omega
  have n1 : line < 32 := by omega
  have n2 : ¬ kind < 1 := by omega
  have n3 : kind ≤ 4 := by omega
  have HAT := Lib.hid (at_any h hl hs line (by omega) (by omega))
  have HT := Lib.hid h
  have HG := Lib.hid hg
  clear h hs hg hnb
  cases hany : l.any (isMis line) with
  | true =>
    rw [hany] at HAT
    rw [if_pos rfl]
    clear hany
    go_enter Tryd.func28, Tryd.ntmps28
    go_wp2_with fail
    refine HAT.out.mono ?_; rintro r w2 ⟨⟨i, hi, rfl⟩, hB2⟩
    have hBusy := (HG.out.below hB2 (Nat.le_refl _)).cell 7 (by omega) (by omega)
    simp only [gIx] at hBusy
    have HB2 := Lib.hid hB2
    clear hB2 hi
    go_wp2_with fail
    refine (fault_Wrap _ _ _ _ _).mono ?_; rintro r w3 ⟨rfl, rfl⟩
    go_wp2_with fail
    go_ret
    exact ⟨by simp [codeErr, opMAdd], v, .same HT.out HB2.out⟩
  | false =>
    rw [hany] at HAT
    rw [if_neg (by simp)]
    clear hany
    by_cases hfull : most ≤ l.length
    · rw [if_pos hfull]
      have hd : decide (most ≤ (l.length : Int)) = true := decide_eq_true hfull
      have HD := Lib.hid hd
      clear hd hfull
      go_enter Tryd.func28, Tryd.ntmps28
      go_wp2_with fail
      refine HAT.out.mono ?_; rintro r w2 ⟨⟨i, hi, rfl⟩, hB2⟩
      have HB2 := Lib.hid hB2
      have HT2 := Lib.hid (HT.out.below hB2)
      clear hB2 hi
      go_wp2_with fail
      refine (MFull_any HT2.out hl).mono ?_; rintro r w3 ⟨rfl, hB3⟩
      rw [HD.out]
      have hB4 := HB2.out.trans (hB3.mono HB2.out.size)
      have hFull := (HG.out.below hB4 (Nat.le_refl _)).cell 6 (by omega) (by omega)
      simp only [gIx] at hFull
      have HB4 := Lib.hid hB4
      clear hB3 hB4
      go_wp2_with fail
      refine (fault_Wrap _ _ _ _ _).mono ?_; rintro r w3 ⟨rfl, rfl⟩
      go_wp2_with fail
      go_ret
      exact ⟨by simp [codeErr, opMAdd], v, .same HT.out HB4.out⟩
    · rw [if_neg hfull]
      have hd : decide (most ≤ (l.length : Int)) = false := decide_eq_false hfull
      have HD := Lib.hid hd
      clear hd hfull
      go_enter Tryd.func28, Tryd.ntmps28
      go_wp2_with fail
      refine HAT.out.mono ?_; rintro r w2 ⟨⟨i, hi, rfl⟩, hB2⟩
      have HB2 := Lib.hid hB2
      have HT2 := Lib.hid (HT.out.below hB2)
      have HI := Lib.hid hi
      clear hB2 hi
      go_wp2_with fail
      refine (MFull_any HT2.out hl).mono ?_; rintro r w3 ⟨rfl, hB3⟩
      rw [HD.out]
      have HB4 := Lib.hid (HB2.out.trans (hB3.mono HB2.out.size))
      have HT3 := Lib.hid (HT2.out.below hB3)
      clear hB3
      have c1 := HT3.out.c0.2
      go_wp2_with fail
      have HT4 := Lib.hid (HT3.out.below ((Below.refl w3.heap.size w3).alloc (Nat.le_refl _) (.cells #[.int .i64 line, .int .i64 kind] 85)))
      have hTl := HT3.out.t.lt
      refine (insert_any HT4.out.row hl (Nat.le_trans HT4.out.ge (Nat.le_of_lt HT4.out.t.lt)) i HI.out.1 ⟨line, kind⟩ w3.heap.size (Blk.new w3 #[.int .i64 line, .int .i64 kind] 85) (fun g hg e => by have := (HT3.out.row.lt g hg).2; omega)).mono ?_
      rintro r w5 ⟨v', rfl, hrow, hF, hnew⟩
      obtain ⟨a', c', g', rfl, -⟩ := MisAt.of_own (l := insAt l i ⟨line, kind⟩) (by rw [insAt_length _ _ _ HI.out.1]; exact hrow)
      obtain ⟨len, hlen⟩ : ∃ len, (insAt l i ⟨line, kind⟩).length = len := ⟨_, rfl⟩
      rw [hlen] at hrow hnew ⊢
      clear hlen
      have hT5 := HT4.out.t.fr hF HT4.out.ne
      have hfr := hT5.free 1
      have hc5 := hT5.cell 1
      have HT5 := Lib.hid hT5
      have HR := Lib.hid hrow
      have HF := Lib.hid hF
      have HN := Lib.hid hnew
      clear hT5 hrow hF hnew c1
      go_wp2_with fail
      go_ret
      have hz4 := HB4.out.size
      have hne : (Value.slice a' len c').ownBlock ≠ some T := fun e => by
        rcases HN.out T e with h | h
        · exact HT4.out.ne h
        · simp at h; omega
      refine ⟨by simp [codeErr], .slice a' len c', ⟨?_, ?_, hne, HT4.out.ge⟩, ?_, ?_⟩
      · simpa using HT5.out.set 1 (.slice a' len c')
      · rw [← stands_pos HI.out, insAt_length _ _ _ HI.out.1]
        exact ownsRow_far (S := fun q => q = T) HR.out (fr_set (.inl rfl) (Fr.refl _ _)) (fun g hg e => hne (by rw [hg, e]))
      · exact fr_set (.inl (.inl rfl)) ((Fr.of_below (HB4.out.trans (((Below.refl w3.heap.size w3).alloc (Nat.le_refl _) (.cells #[.int .i64 line, .int .i64 kind] 85)).mono hz4))).trans HF.out (fun _ _ h => h) (fun q _ h => .inr h))
      · intro g hg
        rcases HN.out g hg with h | h
        · exact .inl h
        · simp at h; exact .inr (by omega)

theorem MAdd_any (h : TabAt w T B 114 85 most v l) (hl : l.length ≤ 8) (hs : Srt l) (line kind : Int) (p : Nat → Addr) (hg : Glob w p) :
    Calls Tryd.prog 28 #[.pointer (some ⟨T, 0, none⟩), .int .i64 line, .int .i64 kind] w fun r w' => r = .returned (codeErr p opMAdd line (mAdd most l line kind).1) ∧ ∃ v', TabStep w w' T B 114 85 most v v' (mAdd most l line kind).2 := by
  by_cases hb : badMis line kind
  · have e : mAdd most l line kind = (1, l) := by unfold mAdd; rw [if_pos hb]
    rw [e]
    refine (MAdd_bad line kind hb p hg).mono ?_
    rintro r w' ⟨rfl, rfl⟩
    exact ⟨by simp [codeErr], v, .same h (Below.refl _ _)⟩
  · exact MAdd_good h hl hs line kind hb p hg

theorem own_empty {tE : TypeId} {b : Nat} (hb : Blk w b tE []) (hB : B ≤ b) : w.ownsRow B tE 2 (.slice (some ⟨b, 0, none⟩) 0 0) 0 [] :=
  ⟨by simp, .inr ⟨b, 0, #[], rfl, hB, hb, Nat.le_refl _, Nat.zero_le _, by simp, by simp⟩⟩

set_option maxHeartbeats 1600000 in
set_option maxRecDepth 10000 in
theorem clone_mis (h : w.ownsRow B 85 2 v l.length (flat Mis.cells l)) (hl : l.length ≤ 8) :
    Calls Tryd.prog 59 #[v] w fun r w' => ∃ v', r = .returned v' ∧ w'.ownsRow w.heap.size 85 2 v' l.length (flat Mis.cells l) ∧ Below w.heap.size w w' := by
  obtain ⟨i0, hi, hz0, hz1, hz2⟩ := info_parts infoMis
  obtain ⟨a, c, g, rfl, -, hg, -⟩ := MisAt.of_own h
  have heq := fun W => Lib.run_eql_slice_nil (P := Tryd.prog) W 79 85 a l.length c 0 0 Tryd.underlying79
  have HO := Lib.hid h
  clear h
  cases a with
  | none =>
    have hn : l = [] := by
      rcases HO.out.2 with ⟨-, h0⟩ | ⟨g, cap, cur, e, -⟩
      · exact List.eq_nil_of_length_eq_zero h0
      · cases e
    subst hn
    simp only [Option.isNone_none, List.length_nil] at heq
    clear hg
    go_enter Tryd.func59, Tryd.ntmps59
    go_wp2_with fail
    go_ret
    exact ⟨_, rfl, World.ownsRow_nil _ _ _ _, Below.refl _ _⟩
  | some ad =>
    obtain ⟨e, -⟩ := hg ad.block rfl
    cases e
    simp only [Option.isNone_some] at heq
    clear hg
    have HB1 : Hid (Below w.heap.size w (w.alloc (.cells #[] 85))) := Lib.hid ((Below.refl _ _).alloc (Nat.le_refl _) _)
    have HE := Lib.hid (own_empty (w := w.alloc (.cells #[] 85)) (B := w.heap.size) (Blk.new w #[] 85) (Nat.le_refl _))
    have HC := Lib.hid ((HO.out.alloc (.cells #[] 85)).cells (g := g) rfl)
    have H1 := Lib.hid (mis_one l)
    have HL := Lib.hid (flat_length Mis.cells_length l)
    go_enter Tryd.func59, Tryd.ntmps59
    go_wp2_with (at_builtin; refine wpList_append_own_at _ rfl _ _ 79 rfl w.heap.size 85 i0 _ 2 16 Tryd.underlying79 hi hz0 hz1 hz2 rfl (by decide) _ _ _ rfl HE.out ⟨g, 0, none⟩ l.length c (flat Mis.cells l) rfl HL.out HC.out H1.out ?c3 ?c4 ?c5 ?_)
    case c3 => unfold maxLen; omega
    case c4 => omega
    case c5 => simp
    intro v' w2 hown2 hgrow _ _
    have hB2 := HB1.out.trans (below_grown (B := w.heap.size) hgrow (by simp) (fun q hq => by cases hq; exact Nat.le_refl _))
    have HB2 := Lib.hid hB2
    have HO2 := Lib.hid hown2
    clear hB2 hown2 hgrow
    go_wp2_with fail
    go_ret
    exact ⟨v', rfl, by simpa using HO2.out, HB2.out⟩

set_option maxHeartbeats 800000 in
theorem MList_any (h : TabAt w T B 114 85 most v l) (hl : l.length ≤ 8) :
    Calls Tryd.prog 36 #[.pointer (some ⟨T, 0, none⟩)] w fun r w' => ∃ v', r = .returned v' ∧ w'.ownsRow w.heap.size 85 2 v' l.length (flat Mis.cells l) ∧ Below w.heap.size w w' := by
  obtain ⟨c0, c1⟩ := h.c0
  have HC := Lib.hid (clone_mis h.row hl)
  clear h
  go_enter Tryd.func36, Tryd.ntmps36
  go_wp2_with fail
  refine HC.out.mono ?_; rintro r w2 ⟨v', rfl, ho, hB⟩
  have HO := Lib.hid ho
  clear ho
  go_wp2_with fail
  go_ret
  exact ⟨v', rfl, HO.out, hB⟩

theorem mis_ext (e f : Mis) : decide (e = f) = (decide (e.line = f.line) && decide (e.kind = f.kind)) := by
  rw [Bool.eq_iff_iff]
  obtain ⟨a0, a1⟩ := e
  obtain ⟨b0, b1⟩ := f
  simp
theorem eqIn_mis (d : Nat) (e f : Mis) (w : World) :
    (Op.equalIn (d + 4) 85 e.val f.val).run Tryd.prog w = .ok (decide (e = f)) w := by
  have hf0 : ∀ fs, Tryd.prog.underlying 85 = some (.struct fs) → Tryd.prog.fieldsOf 85 = fs := fun fs h => by simp [Program.fieldsOf, h]
  have hf := hf0 _ Tryd.underlying85
  have hu : Tryd.prog.underlying 85 = some (.struct (Tryd.prog.fieldsOf 85)) := by rw [hf]; exact Tryd.underlying85
  have hi : ∀ a b : Int, (Op.equalIn (d + 3) 3 (.int .i64 a) (.int .i64 b)).run Tryd.prog w = .ok (a == b) w := fun a b => run_equalIn_int w (d + 2) 3 .i64 .i64 a b Tryd.underlying3
  rw [mis_ext]
  unfold Mis.val
  rw [show d + 4 = (d + 3) + 1 from rfl, run_equalIn_struct w (d + 3) 85 _ _ hu Tryd.stoodInHeld85, hf]
  simp only [Op.eqFields, part]
  simp [hi]
  by_cases h0 : e.line = f.line <;> by_cases h1 : e.kind = f.kind <;> simp [h0, h1]
theorem neq_mis (e f : Mis) (w : World) : (binOp .neq 85 e.val f.val).run Tryd.prog w = .ok (.bool (!decide (e = f))) w := by
  have h := eqIn_mis 9996 e f w
  unfold Mis.val at *
  rw [run_neq_struct, h]
  rfl

set_option maxHeartbeats 1600000 in
set_option maxRecDepth 10000 in
theorem Same_mis (w : World) (a b : Option Addr) (g h' c d : Nat) (l m : List Mis) (hl : MisAt w a g l) (hm : MisAt w b h' m) (hll : l.length ≤ 1000) (hlm : l = m) :
    Calls Tryd.prog 35 #[.slice a l.length c, .slice b m.length d] w fun e w' => e = .returned (.bool true) ∧ Below w.heap.size w w' := by
  subst hlm
  by_cases hn : l = []
  · subst hn
    go_enter Tryd.func35, Tryd.ntmps35
    go_wp2
    refine wp_loop_rounds 1 ?_
    rw [rounds_succ]
    go_wp2
    go_ret
    exact ⟨rfl, Below.refl _ _⟩
  · obtain rfl := hl.addr hn
    obtain rfl := hm.addr hn
    have HL := Lib.hid hl
    have HM := Lib.hid hm
    clear hl hm hn
    go_enter Tryd.func35, Tryd.ntmps35
    go_wp2
    go_loopw [5] (fun i wr => ∃ k : Nat, k ≤ l.length ∧ i = .int .i64 k ∧ Below w.heap.size w wr) (fun i _ => l.length - (intOf i).toNat)
    case atStart => exact ⟨0, Nat.zero_le _, rfl, Below.refl _ _⟩
    case round =>
      obtain ⟨k, hk, rfl, hB⟩ := hrel
      have HB := Lib.hid hB
      clear hB
      by_cases hlt : k < l.length
      · obtain ⟨e, he⟩ : ∃ e, l[k]? = some e := ⟨_, List.getElem?_eq_getElem hlt⟩
        obtain ⟨c0, c1⟩ := (HL.out.below HB.out (Nat.le_refl _)).two he
        obtain ⟨d0, d1⟩ := (HM.out.below HB.out (Nat.le_refl _)).two he
        have hne := fun W => neq_mis e e W
        simp only [Mis.val, decide_true, Bool.not_true] at hne
        clear he
        go_wp2_with fail
        go_quiet (fail)
        have hB4 := below_drewN HB.out nq
        generalize wr.drewN nq = w4 at *
        have HB4 := Lib.hid hB4
        clear hB4 c0 c1 d0 d1
        go_wp2_with fail
        go_roundw
        case rel => exact ⟨k + 1, by omega, by go_num, HB4.out⟩
        case measure => first | (simp [intOf]; done) | (simp [intOf]; omega)
      · obtain rfl : k = l.length := by omega
        go_wp2_with fail
        go_ret
        exact ⟨rfl, HB.out⟩
end Go.Proofs.YtjmlficbnljiaaaDoor
