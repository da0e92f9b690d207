/- The two tables side by side in memory; what each call does to them. -/
import Derived.Test.YtjmlficbnljiaaaDoorMisS
namespace Go.Proofs.YtjmlficbnljiaaaDoor
open Go.RowKit

abbrev MTab (W : World) (T B : Nat) (most : Int) (v : Value) (l : List Mis) : Prop := TabAt W T B 114 85 most v l
abbrev RTab (W : World) (T B : Nat) (most : Int) (v : Value) (l : List Mis) : Prop := TabAt W T B 82 84 most v l

/-- Since w: the machine's table at T, the document's at R; no block in both. -/
structure MPlay (w W : World) (T R : Nat) (most : Int) (v u : Value) (l m : List Mis) : Prop where
  below : Below w.heap.size w W
  tab : MTab W T w.heap.size most v l
  ref : RTab W R w.heap.size most u m
  apart : ∀ q, tabBlocks T v q → ¬ tabBlocks R u q

variable {w W W' : World} {T R : Nat} {most : Int} {v v' u u' : Value} {l l' m m' : List Mis}

theorem MPlay.then (h : MPlay w W T R most v u l m) (hb : Below W.heap.size W W') : MPlay w W' T R most v u l m :=
  ⟨h.below.trans (hb.mono h.below.size), h.tab.below hb, h.ref.below hb, h.apart⟩
theorem MPlay.tabS (h : MPlay w W T R most v u l m) (hs : TabStep W W' T w.heap.size 114 85 most v v' l') : MPlay w W' T R most v' u l' m :=
  ⟨h.below.trans (hs.fr.below (fun q hq => (h.tab.lt hq).2) h.below.size), hs.at_, h.ref.fr hs.fr (fun q hq ht => h.apart q ht hq), fun q hq hr => by
    rcases hq with rfl | hq
    · exact h.apart _ (.inl rfl) hr
    · rcases hs.new q hq with ho | hn
      · exact h.apart q (.inr ho) hr
      · exact absurd (h.ref.lt hr).1 (by omega)⟩
theorem MPlay.refS (h : MPlay w W T R most v u l m) (hs : TabStep W W' R w.heap.size 82 84 most u u' m') : MPlay w W' T R most v u' l m' :=
  ⟨h.below.trans (hs.fr.below (fun q hq => (h.ref.lt hq).2) h.below.size), h.tab.fr hs.fr (fun q hq ht => h.apart q hq ht), hs.at_, fun q hq hr => by
    rcases hr with rfl | hr
    · exact h.apart _ hq (.inl rfl)
    · rcases hs.new q hr with ho | hn
      · exact h.apart q hq (.inr ho)
      · exact absurd (h.tab.lt hq).1 (by omega)⟩

/-- The same, with the ask's own block, which is in neither. -/
structure MJoint (w W : World) (T R : Nat) (most : Int) (v u : Value) (l m : List Mis) (Q : Nat) (qc : List Value) : Prop where
  mem : MPlay w W T R most v u l m
  q : Blk W Q 73 qc
  nt : ¬ tabBlocks T v Q
  nr : ¬ tabBlocks R u Q

variable {Q : Nat} {qc : List Value}
theorem MJoint.then (h : MJoint w W T R most v u l m Q qc) (hb : Below W.heap.size W W') : MJoint w W' T R most v u l m Q qc := ⟨h.mem.then hb, h.q.below hb h.q.lt, h.nt, h.nr⟩
theorem MJoint.drew (h : MJoint w W T R most v u l m Q qc) : MJoint w W.drew T R most v u l m Q qc := h.then (Below.refl _ _).drew
theorem MJoint.tabS (h : MJoint w W T R most v u l m Q qc) (hs : TabStep W W' T w.heap.size 114 85 most v v' l') : MJoint w W' T R most v' u l' m Q qc :=
  ⟨h.mem.tabS hs, h.q.fr hs.fr h.nt, fun x => by
    rcases x with x | x
    · exact h.nt (.inl x)
    · rcases hs.new Q x with ho | hn
      · exact h.nt (.inr ho)
      · exact absurd h.q.lt (by omega), h.nr⟩
theorem MJoint.refS (h : MJoint w W T R most v u l m Q qc) (hs : TabStep W W' R w.heap.size 82 84 most u u' m') : MJoint w W' T R most v u' l m' Q qc :=
  ⟨h.mem.refS hs, h.q.fr hs.fr h.nr, h.nt, fun x => by
    rcases x with x | x
    · exact h.nr (.inl x)
    · rcases hs.new Q x with ho | hn
      · exact h.nr (.inr ho)
      · exact absurd h.q.lt (by omega)⟩

/-- What holds of what is under way. -/
structure MInv (most : Int) (l : List Mis) : Prop where
  srt : Srt l
  le : (l.length : Int) ≤ most
  most : most ≤ 8
theorem MInv.len (h : MInv most l) : l.length ≤ 8 := by have := h.le; have := h.most; omega
theorem MInv.nil (h : 1 ≤ most) (h8 : most ≤ 8) : MInv most [] := ⟨⟨fun i j e f _ he => by simp at he, fun e he => by cases he⟩, by simp; omega, h8⟩

theorem srt_sub {l l' : List Mis} (h : Srt l) (hs : l'.Sublist l) : Srt l' := by
  refine ⟨?_, fun e he => h.inb e (hs.subset he)⟩
  have hp : l.Pairwise fun e f => e.line < f.line := by
    rw [List.pairwise_iff_getElem]
    intro i j hi hj hlt
    exact h.up i j _ _ hlt (List.getElem?_eq_getElem hi) (List.getElem?_eq_getElem hj)
  have hp' := hp.sublist hs
  intro i j e f hlt he hf
  rw [List.pairwise_iff_getElem] at hp'
  obtain ⟨hi, rfl⟩ := List.getElem?_eq_some_iff.1 he
  obtain ⟨hj, rfl⟩ := List.getElem?_eq_some_iff.1 hf
  exact hp' i j hi hj hlt
theorem MInv.drop (h : MInv most l) (line : Int) : MInv most (mDrop l line) := by
  unfold mDrop
  split
  · exact h
  · have hs := List.eraseIdx_sublist l (idxOf (isMis line) l).toNat
    have := hs.length_le
    have hle := h.le
    exact ⟨srt_sub h.srt hs, by omega, h.most⟩
theorem pos_stands {l : List Mis} {line : Int} (h : Srt l) : StandsAt l line (mPos l line) := by
  unfold mPos
  have hsub := List.takeWhile_prefix (fun e : Mis => decide (e.line < line)) (l := l)
  refine ⟨hsub.length_le, ?_, ?_⟩
  · intro q e hq he
    have h1 : (l.takeWhile fun e => decide (e.line < line))[q]? = some e := by
      obtain ⟨t, ht⟩ := hsub
      rw [← ht, List.getElem?_append_left hq] at he
      exact he
    have := List.all_eq_true.1 (List.all_takeWhile (p := fun e : Mis => decide (e.line < line)) (l := l)) e (List.mem_of_getElem? h1)
    simpa using this
  · intro q e hq he
    have hd : ∃ f, (l.dropWhile fun e => decide (e.line < line)).head? = some f ∧ l[(l.takeWhile fun e => decide (e.line < line)).length]? = some f := by
      have hql : q < l.length := (List.getElem?_eq_some_iff.1 he).1
      refine ⟨l[(l.takeWhile fun e => decide (e.line < line)).length]'(by omega), ?_, List.getElem?_eq_getElem (by omega)⟩
      have e1 : l = (l.takeWhile fun e => decide (e.line < line)) ++ (l.dropWhile fun e => decide (e.line < line)) := (List.takeWhile_append_dropWhile).symm
      have e2 : l[(l.takeWhile fun e => decide (e.line < line)).length]? = (l.dropWhile fun e => decide (e.line < line)).head? := by
        conv => lhs; rw [e1]
        rw [List.getElem?_append_right (by simp)]
        simp [List.head?_eq_getElem?]
      rw [← e2, List.getElem?_eq_getElem (by omega)]
    obtain ⟨f, hf1, hf2⟩ := hd
    have hnf : ¬ f.line < line := by
      have := List.head?_dropWhile_not (fun e : Mis => decide (e.line < line)) l
      rw [hf1] at this
      simpa using this
    by_cases hqe : q = (l.takeWhile fun e => decide (e.line < line)).length
    · rw [hqe, hf2] at he; cases he; omega
    · have := h.up _ q f e (by omega) hf2 he; omega
theorem srt_ins {l : List Mis} {line kind : Int} (h : Srt l) (h0 : 0 ≤ line) (h1 : line ≤ 31) (hn : l.any (isMis line) = false) : Srt (insAt l (mPos l line) ⟨line, kind⟩) := by
  obtain ⟨hp, hlo, hhi⟩ := pos_stands (line := line) h
  have hall : ∀ (q : Nat) (e : Mis), l[q]? = some e → e.line ≠ line := by
    intro q e he heq
    have : l.any (isMis line) = true := List.any_eq_true.2 ⟨e, List.mem_of_getElem? he, by simp [isMis, heq]⟩
    rw [hn] at this; cases this
  have hpl : l.Pairwise fun e f => e.line < f.line := by
    rw [List.pairwise_iff_getElem]
    intro i j hi hj hlt
    exact h.up i j _ _ hlt (List.getElem?_eq_getElem hi) (List.getElem?_eq_getElem hj)
  have hP : (insAt l (mPos l line) ⟨line, kind⟩).Pairwise fun e f => e.line < f.line := by
    unfold insAt
    rw [List.pairwise_append]
    refine ⟨hpl.sublist (List.take_sublist _ _), ?_, ?_⟩
    · rw [List.pairwise_cons]
      refine ⟨?_, hpl.sublist (List.drop_sublist _ _)⟩
      intro f hf
      obtain ⟨q, hq, rfl⟩ := List.getElem_of_mem hf
      rw [List.length_drop] at hq
      have he : l[mPos l line + q]? = some (l.drop (mPos l line))[q] := by rw [List.getElem_drop]; exact List.getElem?_eq_getElem (by omega)
      have := hhi _ _ (by omega) he
      have := hall _ _ he
      simp only
      omega
    · intro e he f hf
      obtain ⟨q, hq, rfl⟩ := List.getElem_of_mem he
      rw [List.length_take] at hq
      have heq : l[q]? = some (l.take (mPos l line))[q] := by rw [List.getElem_take]; exact List.getElem?_eq_getElem (by omega)
      have h3 := hlo q _ (by omega) heq
      rcases List.mem_cons.1 hf with rfl | hf
      · exact h3
      · obtain ⟨r, hr, rfl⟩ := List.getElem_of_mem hf
        rw [List.length_drop] at hr
        have hfq : l[mPos l line + r]? = some (l.drop (mPos l line))[r] := by rw [List.getElem_drop]; exact List.getElem?_eq_getElem (by omega)
        have := hhi _ _ (by omega) hfq
        omega
  refine ⟨fun i j e f hlt he hf => ?_, fun e he => ?_⟩
  · rw [List.pairwise_iff_getElem] at hP
    obtain ⟨hi, rfl⟩ := List.getElem?_eq_some_iff.1 he
    obtain ⟨hj, rfl⟩ := List.getElem?_eq_some_iff.1 hf
    exact hP i j hi hj hlt
  · unfold insAt at he
    rcases List.mem_append.1 he with he | he
    · exact h.inb e (List.mem_of_mem_take he)
    · rcases List.mem_cons.1 he with rfl | he
      · exact ⟨h0, h1⟩
      · exact h.inb e (List.mem_of_mem_drop he)
theorem MInv.add (h : MInv most l) (line kind : Int) : MInv most (mAdd most l line kind).2 ∧ (mAdd most l line kind).1 ≤ 10 := by
  unfold mAdd
  by_cases hb : badMis line kind
  · rw [if_pos hb]; exact ⟨h, by simp⟩
  · rw [if_neg hb]
    by_cases ha : l.any (isMis line) = true
    · rw [if_pos ha]; exact ⟨h, by simp⟩
    · rw [if_neg ha]
      by_cases hf : most ≤ l.length
      · rw [if_pos hf]; exact ⟨h, by simp⟩
      · rw [if_neg hf]
        unfold badMis at hb
        refine ⟨⟨srt_ins h.srt (by omega) (by omega) (by simpa using ha), ?_, h.most⟩, by simp⟩
        have := insAt_length l (mPos l line) ⟨line, kind⟩ (pos_stands (line := line) h.srt).1
        simp only
        rw [this]
        omega
end Go.Proofs.YtjmlficbnljiaaaDoor
