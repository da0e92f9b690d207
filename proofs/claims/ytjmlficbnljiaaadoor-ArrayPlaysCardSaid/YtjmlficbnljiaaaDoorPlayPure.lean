/- The array against the document's own array: the plain law behind assentlaw6.ArrayPlays. No walk stands here. -/
import Derived.Test.YtjmlficbnljiaaaDoorRefX
import Derived.Test.YtjmlficbnljiaaaDoorList
namespace Go.Proofs.YtjmlficbnljiaaaDoor

def pl (e : Ent) : Ent := if e.state = 0 then Ent.gone else e
def plSet (x : SetM) : SetM := ⟨x.bits, x.ways.map pl⟩

/-- The two arrays tell the same. -/
structure Rel (l m : List (Nat × SetM)) : Prop where
  val : m.map (·.2) = l.map fun x => plSet x.2
  lined : ∀ x ∈ l, ∀ e ∈ x.2.ways, e.state ≠ 0 → 0 ≤ e.line ∧ e.line ≤ 31

theorem Rel.len {l m : List (Nat × SetM)} (h : Rel l m) : m.length = l.length := by
  have := congrArg List.length h.val
  simpa using this
theorem Rel.get {l m : List (Nat × SetM)} (h : Rel l m) {i : Nat} {x : Nat × SetM} (hx : l[i]? = some x) : ∃ y, m[i]? = some y ∧ y.2 = plSet x.2 := by
  have h1 : (m.map (·.2))[i]? = (l.map fun x => plSet x.2)[i]? := by rw [h.val]
  rw [List.getElem?_map, List.getElem?_map, hx] at h1
  simp only [Option.map_some, Option.map_eq_some_iff] at h1
  obtain ⟨y, hy, e⟩ := h1
  exact ⟨y, hy, e⟩
theorem Rel.none {l m : List (Nat × SetM)} (h : Rel l m) {line : Int} (hs : arrSet l line = Option.none) : arrSet m line = Option.none := by
  unfold arrSet at *
  rw [h.len]
  split at hs
  · rename_i hl
    rw [if_pos hl]
    rw [Option.map_eq_none_iff, List.getElem?_eq_none_iff] at hs ⊢
    rw [h.len]; exact hs
  · rename_i hl; rw [if_neg hl]
theorem Rel.some {l m : List (Nat × SetM)} (h : Rel l m) {line : Int} {i : Nat} {x : Nat × SetM} (hs : arrSet l line = Option.some (i, x)) : ∃ y, arrSet m line = Option.some (i, y) ∧ y.2 = plSet x.2 ∧ m[i]? = Option.some y := by
  unfold arrSet at *
  rw [h.len]
  split at hs
  · rename_i hl
    rw [if_pos hl]
    simp only [Option.map_eq_some_iff, Prod.mk.injEq] at hs
    obtain ⟨z, hz, rfl, rfl⟩ := hs
    obtain ⟨y, hy, e⟩ := h.get hz
    exact ⟨y, by rw [hy]; rfl, e, hy⟩
  · cases hs

theorem idxOf_congr {α : Type} {p q : α → Bool} {l : List α} (h : ∀ a ∈ l, p a = q a) : idxOf p l = idxOf q l := by
  have : l.findIdx p = l.findIdx q := by
    induction l with
    | nil => rfl
    | cons a l ih =>
      rw [List.findIdx_cons, List.findIdx_cons, h a (List.mem_cons_self ..), ih fun b hb => h b (List.mem_cons_of_mem _ hb)]
  unfold idxOf
  rw [this]
theorem idxOf_map {α β : Type} (f : α → β) (p : β → Bool) (l : List α) : idxOf p (l.map f) = idxOf (fun a => p (f a)) l := by
  unfold idxOf
  rw [List.findIdx_map, List.length_map]
  rfl

theorem isR_pl {line : Int} (h0 : 0 ≤ line) (e : Ent) : isR line (pl e) = isLine line e := by
  unfold pl
  by_cases hs : e.state = 0
  · rw [if_pos hs]
    simp [isR, isLine, hs, Ent.gone]; omega
  · rw [if_neg hs]
    simp [isR, isLine, hs]
theorem idx_line {line : Int} (h0 : 0 ≤ line) (l : List Ent) : idxOf (isR line) (l.map pl) = idxOf (isLine line) l := by
  rw [idxOf_map]
  exact idxOf_congr fun a _ => isR_pl h0 a
theorem isRFree_pl {e : Ent} (h : e.state ≠ 0 → 0 ≤ e.line ∧ e.line ≤ 31) : isRFree (pl e) = isFree e := by
  unfold pl
  by_cases hs : e.state = 0
  · rw [if_pos hs]
    simp [isRFree, isFree, hs, Ent.gone]
  · rw [if_neg hs]
    have h1 := h hs
    have e1 : isRFree e = false := by simp [isRFree, h1.1]
    have e2 : isFree e = false := by simp [isFree, hs]
    rw [e1, e2]
theorem idx_free {l : List Ent} (h : ∀ e ∈ l, e.state ≠ 0 → 0 ≤ e.line ∧ e.line ≤ 31) : idxOf isRFree (l.map pl) = idxOf isFree l := by
  rw [idxOf_map]
  exact idxOf_congr fun a ha => isRFree_pl (h a ha)

theorem Rel.getEq {l m : List (Nat × SetM)} (h : Rel l m) (line : Int) : rGet m line = arrGet l line := by
  unfold rGet arrGet
  cases hs : arrSet l line with
  | none => rw [h.none hs]; rfl
  | some p =>
    obtain ⟨i, x⟩ := p
    obtain ⟨y, hy, e, -⟩ := h.some hs
    obtain ⟨h0, h1, -, -⟩ := arrSet_some hs
    rw [hy]
    simp only [Option.bind_some, e, plSet]
    rw [List.find?_map]
    have : (isR line ∘ pl) = isLine line := by funext a; exact isR_pl h0 a
    rw [this]
    cases hf : x.2.ways.find? (isLine line) with
    | none => rfl
    | some a =>
      have := List.find?_some hf
      have hst : a.state ≠ 0 := ((by simpa [isLine] using this : ¬ a.state = 0 ∧ a.line = line)).1
      simp [pl, hst]

/-- A set anew on both sides. -/
theorem Rel.set {l m : List (Nat × SetM)} (h : Rel l m) {i : Nat} {x' y' : Nat × SetM} (he : y'.2 = plSet x'.2) (hl : ∀ e ∈ x'.2.ways, e.state ≠ 0 → 0 ≤ e.line ∧ e.line ≤ 31) : Rel (l.set i x') (m.set i y') := by
  refine ⟨?_, fun z hz => ?_⟩
  · rw [List.map_set, List.map_set, h.val, he]
  · rcases List.mem_or_eq_of_mem_set hz with hz | rfl
    · exact h.lined z hz
    · exact hl
theorem Rel.way {l m : List (Nat × SetM)} (h : Rel l m) {i j : Nat} {x y : Nat × SetM} (hx : x ∈ l) (e : y.2 = plSet x.2) (a b : Ent) (hab : pl a = b) (hl : a.state ≠ 0 → 0 ≤ a.line ∧ a.line ≤ 31) : Rel (l.set i (wayUp x j a)) (m.set i (wayUp y j b)) := by
  refine h.set ?_ ?_
  · show (⟨y.2.bits, y.2.ways.set j b⟩ : SetM) = ⟨x.2.bits, (x.2.ways.set j a).map pl⟩
    rw [e, List.map_set, hab]
    rfl
  · intro c hc hs
    rcases List.mem_or_eq_of_mem_set hc with hc | rfl
    · exact h.lined x hx c hc hs
    · exact hl hs

theorem Rel.drop {l m : List (Nat × SetM)} (h : Rel l m) (line : Int) : Rel (arrDrop l line) (rDrop m line) := by
  unfold arrDrop rDrop
  cases hs : arrSet l line with
  | none => rw [h.none hs]; exact h
  | some p =>
    obtain ⟨i, x⟩ := p
    obtain ⟨y, hy, e, -⟩ := h.some hs
    obtain ⟨h0, h1, -, hx⟩ := arrSet_some hs
    rw [hy]
    have ei : idxOf (isR line) y.2.ways = idxOf (isLine line) x.2.ways := by rw [e]; exact idx_line h0 _
    simp only [ei]
    by_cases hn : idxOf (isLine line) x.2.ways < 0
    · rw [if_pos hn, if_pos hn]; exact h
    · rw [if_neg hn, if_neg hn]
      exact h.way (List.mem_of_getElem? hx) e Ent.zero Ent.gone rfl (fun hc => absurd rfl hc)

theorem Rel.touch {l m : List (Nat × SetM)} (h : Rel l m) (line : Int) : Rel (arrTouch l line) (rTouch m line) := by
  unfold arrTouch rTouch
  cases hs : arrSet l line with
  | none => rw [h.none hs]; exact h
  | some p =>
    obtain ⟨i, x⟩ := p
    obtain ⟨y, hy, e, -⟩ := h.some hs
    obtain ⟨h0, h1, -, hx⟩ := arrSet_some hs
    rw [hy]
    have ei : idxOf (isR line) y.2.ways = idxOf (isLine line) x.2.ways := by rw [e]; exact idx_line h0 _
    simp only [ei]
    by_cases hn : idxOf (isLine line) x.2.ways < 0
    · rw [if_pos hn, if_pos hn]; exact h
    · rw [if_neg hn, if_neg hn]
      refine h.set ?_ (h.lined x (List.mem_of_getElem? hx))
      show (⟨touchM y.2.bits y.2.ways.length _, y.2.ways⟩ : SetM) = ⟨touchM x.2.bits x.2.ways.length _, x.2.ways.map pl⟩
      rw [e]
      simp [plSet]

theorem Rel.put {l m : List (Nat × SetM)} (h : Rel l m) (a : Ent) : (rPut m a).1 = (arrPut l a).1 ∧ Rel (arrPut l a).2 (rPut m a).2 := by
  unfold arrPut rPut
  cases hs : arrSet l a.line with
  | none => rw [h.none hs]; exact ⟨rfl, h⟩
  | some p =>
    obtain ⟨i, x⟩ := p
    obtain ⟨y, hy, e, -⟩ := h.some hs
    obtain ⟨h0, h1, -, hx⟩ := arrSet_some hs
    have hm := List.mem_of_getElem? hx
    rw [hy]
    have ei : idxOf (isR a.line) y.2.ways = idxOf (isLine a.line) x.2.ways := by rw [e]; exact idx_line h0 _
    have ef : idxOf isRFree y.2.ways = idxOf isFree x.2.ways := by rw [e]; exact idx_free (h.lined x hm)
    simp only [ei, ef]
    by_cases hb : a.Bad
    · rw [if_pos hb, if_pos hb]; exact ⟨rfl, h⟩
    · rw [if_neg hb, if_neg hb]
      have hst : a.state ≠ 0 := by unfold Ent.Bad at hb; omega
      have hpl : pl a = a := by unfold pl; rw [if_neg hst]
      by_cases hn : 0 ≤ idxOf (isLine a.line) x.2.ways
      · rw [if_pos hn, if_pos hn]
        exact ⟨rfl, h.way hm e a a hpl (fun _ => ⟨h0, h1⟩)⟩
      · rw [if_neg hn, if_neg hn]
        by_cases hf : idxOf isFree x.2.ways < 0
        · rw [if_pos hf, if_pos hf]; exact ⟨rfl, h⟩
        · rw [if_neg hf, if_neg hf]
          exact ⟨rfl, h.way hm e a a hpl (fun _ => ⟨h0, h1⟩)⟩

theorem any_idx {α : Type} (p : α → Bool) (l : List α) : l.any p = decide (0 ≤ idxOf p l) := by
  by_cases h : 0 ≤ idxOf p l
  · obtain ⟨a, ha, hp⟩ := idxOf_pos h
    rw [decide_eq_true h]
    exact List.any_eq_true.2 ⟨a, List.mem_of_getElem? ha, hp⟩
  · rw [decide_eq_false h, ← Bool.not_eq_true, List.any_eq_true]
    rintro ⟨a, ha, hp⟩
    have h2 := idxOf_neg (p := p) (l := l) (by omega) a ha
    rw [h2] at hp
    cases hp
theorem any_or {α : Type} (p q : α → Bool) (l : List α) : (l.any fun a => p a || q a) = (l.any p || l.any q) := by
  induction l with
  | nil => rfl
  | cons a l ih => simp only [List.any_cons, ih]; cases p a <;> cases q a <;> cases l.any p <;> cases l.any q <;> rfl

theorem Rel.room {l m : List (Nat × SetM)} (h : Rel l m) (line : Int) : rRoom m line = arrRoom l line := by
  unfold arrRoom rRoom
  cases hs : arrSet l line with
  | none => rw [h.none hs]
  | some p =>
    obtain ⟨i, x⟩ := p
    obtain ⟨y, hy, e, -⟩ := h.some hs
    obtain ⟨h0, h1, -, hx⟩ := arrSet_some hs
    have hm := List.mem_of_getElem? hx
    rw [hy]
    have ei : idxOf (isR line) y.2.ways = idxOf (isLine line) x.2.ways := by rw [e]; exact idx_line h0 _
    have ef : idxOf isRFree y.2.ways = idxOf isFree x.2.ways := by rw [e]; exact idx_free (h.lined x hm)
    show rHas line y.2 = _
    unfold rHas
    rw [any_or, any_idx, any_idx, ei, ef, Bool.or_comm]

theorem Rel.victim {l m : List (Nat × SetM)} (h : Rel l m) (line : Int) (pins : List Int) : rVictim m line pins = arrVictim l line pins := by
  have hr := h.room line
  unfold rRoom arrRoom at hr
  unfold rVictim arrVictim
  cases hs : arrSet l line with
  | none => rw [h.none hs]
  | some p =>
    obtain ⟨i, x⟩ := p
    obtain ⟨y, hy, e, -⟩ := h.some hs
    obtain ⟨h0, h1, -, hx⟩ := arrSet_some hs
    have hm := List.mem_of_getElem? hx
    rw [hs, hy] at hr
    rw [hy]
    simp only at hr ⊢
    rw [hr]
    by_cases hc : 0 ≤ idxOf (isLine line) x.2.ways ∨ 0 ≤ idxOf isFree x.2.ways
    · rw [if_pos hc, if_pos]
      rcases hc with hc | hc <;> simp [hc]
    · rw [if_neg hc, if_neg]
      · have hw : x.2.ways.map pl = x.2.ways := by
          have hf := idxOf_neg (p := isFree) (l := x.2.ways) (by omega)
          conv => rhs; rw [← List.map_id x.2.ways]
          apply List.map_congr_left
          intro a ha
          have h2 := hf a ha
          have h3 : ¬ a.state = 0 := by simpa [isFree] using h2
          simp [pl, h3]
        rw [e]
        have : plSet x.2 = x.2 := by
          unfold plSet; rw [hw]
        rw [this]
      · simp; omega

def rThere (e : Ent) : Bool := decide (0 ≤ e.line)
def rList (m : List (Nat × SetM)) : List Ent := m.flatMap fun y => y.2.ways.filter rThere
theorem filter_pl {l : List Ent} (h : ∀ e ∈ l, e.state ≠ 0 → 0 ≤ e.line ∧ e.line ≤ 31) : (l.map pl).filter rThere = l.filter isThere := by
  induction l with
  | nil => rfl
  | cons a l ih =>
    have ih' := ih fun e he => h e (List.mem_cons_of_mem _ he)
    have ha := h a (List.mem_cons_self ..)
    simp only [List.map_cons, List.filter_cons, ih']
    by_cases hs : a.state = 0
    · simp [pl, hs, rThere, isThere, Ent.gone]
    · have := (ha hs).1
      simp [pl, hs, rThere, isThere, this]
theorem Rel.list {l m : List (Nat × SetM)} (h : Rel l m) : rList m = arrList l := by
  have e1 : rList m = (m.map (·.2)).flatMap fun s => s.ways.filter rThere := by simp [rList, List.flatMap_map]
  have e2 : arrList l = (l.map (·.2)).flatMap fun s => s.ways.filter isThere := by simp [arrList, List.flatMap_map]
  rw [e1, h.val, arrList]
  rw [List.flatMap_map]
  have hl := h.lined
  clear e1 e2 h
  induction l with
  | nil => rfl
  | cons x l ih =>
    simp only [List.flatMap_cons]
    rw [ih fun z hz => hl z (List.mem_cons_of_mem _ hz)]
    congr 1
    exact filter_pl (hl x (List.mem_cons_self ..))

/-- Both new. -/
theorem Rel.new {l m : List (Nat × SetM)} {n k : Nat} (hl : l.map (·.2) = List.replicate n ⟨0, List.replicate k Ent.zero⟩) (hm : m.map (·.2) = List.replicate n ⟨0, List.replicate k Ent.gone⟩) : Rel l m := by
  refine ⟨?_, fun x hx e he hs => ?_⟩
  · have : (l.map fun x => plSet x.2) = (l.map (·.2)).map plSet := by simp
    rw [this, hl, hm, List.map_replicate]
    simp [plSet, pl, Ent.zero]
  · have : x.2 ∈ l.map (·.2) := List.mem_map_of_mem hx
    rw [hl] at this
    have := List.eq_of_mem_replicate this
    rw [this] at he
    have := List.eq_of_mem_replicate he
    subst this
    exact absurd rfl hs
end Go.Proofs.YtjmlficbnljiaaaDoor
