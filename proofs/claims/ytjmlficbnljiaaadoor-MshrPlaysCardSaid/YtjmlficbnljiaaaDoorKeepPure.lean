/- What the array keeps: the plain law behind assentlaw6.ArrayKeeps. No walk stands here. -/
import Derived.Test.YtjmlficbnljiaaaDoorArrAny
namespace Go.Proofs.YtjmlficbnljiaaaDoor

/-- No line stands twice in a set. -/
def Uniq (l : List Ent) : Prop := ∀ (j j' : Nat) (e e' : Ent), l[j]? = some e → l[j']? = some e' → e.state ≠ 0 → e'.state ≠ 0 → e.line = e'.line → j = j'

theorem isLine_iff (k : Int) (e : Ent) : isLine k e = true ↔ e.state ≠ 0 ∧ e.line = k := by simp [isLine]

theorem find_some {l : List Ent} (hu : Uniq l) {k : Int} {j : Nat} {e : Ent} (he : l[j]? = some e) (hs : e.state ≠ 0) (hl : e.line = k) : l.find? (isLine k) = some e := by
  obtain ⟨hj, rfl⟩ := List.getElem?_eq_some_iff.1 he
  rw [List.find?_eq_some_iff_getElem]
  refine ⟨(isLine_iff _ _).2 ⟨hs, hl⟩, j, hj, rfl, fun j' hj' => ?_⟩
  cases h : isLine k l[j'] with
  | false => rfl
  | true =>
    obtain ⟨h1, h2⟩ := (isLine_iff _ _).1 h
    have := hu j' j _ _ (List.getElem?_eq_getElem (by omega)) he h1 hs (h2.trans hl.symm)
    omega
theorem find_none {l : List Ent} {k : Int} (h : ∀ (j : Nat) (e : Ent), l[j]? = some e → e.state ≠ 0 → e.line ≠ k) : l.find? (isLine k) = none := by
  rw [List.find?_eq_none]
  intro e he
  obtain ⟨j, hj, rfl⟩ := List.getElem_of_mem he
  intro hc
  obtain ⟨h1, h2⟩ := (isLine_iff _ _).1 hc
  exact h j _ (List.getElem?_eq_getElem hj) h1 h2
theorem find_some' {l : List Ent} {k : Int} {e : Ent} (h : l.find? (isLine k) = some e) : ∃ j : Nat, l[j]? = some e ∧ e.state ≠ 0 ∧ e.line = k := by
  have h1 := List.find?_some h
  obtain ⟨j, hj, rfl⟩ := List.getElem_of_mem (List.mem_of_find?_eq_some h)
  obtain ⟨h2, h3⟩ := (isLine_iff _ _).1 h1
  exact ⟨j, List.getElem?_eq_getElem hj, h2, h3⟩
theorem find_none' {l : List Ent} {k : Int} (h : l.find? (isLine k) = none) {j : Nat} {e : Ent} (he : l[j]? = some e) (hs : e.state ≠ 0) : e.line ≠ k := by
  intro hc
  have := List.find?_eq_none.1 h e (List.mem_of_getElem? he)
  exact this ((isLine_iff _ _).2 ⟨hs, hc⟩)

theorem uniq_set {l : List Ent} (hu : Uniq l) {j : Nat} {e : Ent} (h : e.state ≠ 0 → ∀ (j' : Nat) (e' : Ent), l[j']? = some e' → e'.state ≠ 0 → e'.line = e.line → j' = j) : Uniq (l.set j e) := by
  intro a b x y hx hy sx sy hxy
  rw [List.getElem?_set] at hx hy
  by_cases ha : j = a
  · subst ha
    by_cases hb : j = b
    · exact hb
    · rw [if_neg hb] at hy
      rw [if_pos rfl] at hx
      split at hx
      · cases hx
        exact (h sx b y hy sy hxy.symm).symm
      · cases hx
  · rw [if_neg ha] at hx
    by_cases hb : j = b
    · subst hb
      rw [if_pos rfl] at hy
      split at hy
      · cases hy
        exact h sy a x hx sx hxy
      · cases hy
    · rw [if_neg hb] at hy
      exact hu a b x y hx hy sx sy hxy

/-- What is found, behind a way set anew: the way held that line, or nothing. -/
theorem find_set {l : List Ent} (hu : Uniq l) {j : Nat} {e : Ent} (hj : j < l.length) (L : Int)
    (hold : ∀ o, l[j]? = some o → o.state ≠ 0 → o.line = L) (hnew : e.state ≠ 0 → e.line = L)
    (honly : ∀ (j' : Nat) (e' : Ent), l[j']? = some e' → e'.state ≠ 0 → e'.line = L → j' = j) (k : Int) :
    (l.set j e).find? (isLine k) = if k = L then (if e.state ≠ 0 then some e else none) else l.find? (isLine k) := by
  have hu' : Uniq (l.set j e) := uniq_set hu fun hs j' e' h1 h2 h3 => honly j' e' h1 h2 (h3.trans (hnew hs))
  by_cases hk : k = L
  · subst hk
    rw [if_pos rfl]
    by_cases hs : e.state ≠ 0
    · rw [if_pos hs]
      exact find_some hu' (j := j) (by simp [hj]) hs (hnew hs)
    · rw [if_neg hs]
      refine find_none fun j' e' h1 h2 h3 => ?_
      rw [List.getElem?_set] at h1
      by_cases hjj : j = j'
      · subst hjj
        rw [if_pos rfl, if_pos hj] at h1
        cases h1
        exact hs h2
      · rw [if_neg hjj] at h1
        exact hjj (honly j' e' h1 h2 h3).symm
  · rw [if_neg hk]
    cases hf : l.find? (isLine k) with
    | some o =>
      obtain ⟨a, h1, h2, h3⟩ := find_some' hf
      refine find_some hu' (j := a) ?_ h2 h3
      rw [List.getElem?_set, if_neg ?_]
      · exact h1
      · rintro rfl
        exact hk (h3.symm.trans (hold o h1 h2))
    | none =>
      refine find_none fun j' e' h1 h2 h3 => ?_
      rw [List.getElem?_set] at h1
      by_cases hjj : j = j'
      · subst hjj
        rw [if_pos rfl, if_pos hj] at h1
        cases h1
        exact hk (h3.symm.trans (hnew h2))
      · rw [if_neg hjj] at h1
        exact find_none' hf h1 h2 h3

/-- An array of eight sets of eight ways, as the law makes it. -/
structure WF (m : List (Nat × SetM)) : Prop where
  n : m.length = 8
  k : ∀ (i : Nat) (x : Nat × SetM), m[i]? = some x → x.2.ways.length = 8
  own : ∀ (i : Nat) (x : Nat × SetM), m[i]? = some x → ∀ (j : Nat) (e : Ent), x.2.ways[j]? = some e → e.state ≠ 0 → ∃ L : Nat, e.line = L ∧ L ≤ 31 ∧ L % 8 = i
  uniq : ∀ (i : Nat) (x : Nat × SetM), m[i]? = some x → Uniq x.2.ways

theorem WF.set {m : List (Nat × SetM)} (h : WF m) (L : Nat) (hL : L ≤ 31) : ∃ x, m[L % 8]? = some x ∧ arrSet m L = some (L % 8, x) := by
  have hn := h.n
  have h8 : L % 8 < m.length := by rw [hn]; exact Nat.mod_lt _ (by omega)
  refine ⟨m[L % 8], List.getElem?_eq_getElem h8, ?_⟩
  unfold arrSet
  rw [if_pos ⟨by omega, by omega⟩, hn, Int.toNat_natCast, List.getElem?_eq_getElem h8]
  rfl
theorem WF.get {m : List (Nat × SetM)} (h : WF m) {L : Nat} (hL : L ≤ 31) {x : Nat × SetM} (hx : m[L % 8]? = some x) : arrGet m L = x.2.ways.find? (isLine L) := by
  obtain ⟨y, hy, e⟩ := h.set L hL
  rw [hx] at hy; cases hy
  simp [arrGet, e]

/-- A set with a way anew. -/
theorem WF.up {m : List (Nat × SetM)} (h : WF m) {L : Nat} (hL : L ≤ 31) {x : Nat × SetM} (hx : m[L % 8]? = some x) {j : Nat} (hj : j < x.2.ways.length) {e : Ent}
    (hold : ∀ o, x.2.ways[j]? = some o → o.state ≠ 0 → o.line = L) (hnew : e.state ≠ 0 → e.line = L)
    (honly : ∀ (j' : Nat) (e' : Ent), x.2.ways[j']? = some e' → e'.state ≠ 0 → e'.line = L → j' = j) :
    WF (m.set (L % 8) (wayUp x j e)) ∧ ∀ k : Nat, k ≤ 31 → arrGet (m.set (L % 8) (wayUp x j e)) k = if k = L then (if e.state ≠ 0 then some e else none) else arrGet m k := by
  have hn := h.n
  have h8 : L % 8 < m.length := by rw [hn]; exact Nat.mod_lt _ (by omega)
  have hw : WF (m.set (L % 8) (wayUp x j e)) := by
    have key : ∀ (i : Nat) (y : Nat × SetM), (m.set (L % 8) (wayUp x j e))[i]? = some y → (i = L % 8 ∧ y = wayUp x j e) ∨ m[i]? = some y := by
      intro i y hy
      rw [List.getElem?_set] at hy
      by_cases hi : L % 8 = i
      · subst hi
        rw [if_pos rfl, if_pos h8] at hy
        cases hy
        exact .inl ⟨rfl, rfl⟩
      · rw [if_neg hi] at hy
        exact .inr hy
    refine ⟨by simpa using hn, fun i y hy => ?_, fun i y hy => ?_, fun i y hy => ?_⟩
    · rcases key i y hy with ⟨rfl, rfl⟩ | hy
      · simpa [wayUp] using h.k _ x hx
      · exact h.k i y hy
    · rcases key i y hy with ⟨rfl, rfl⟩ | hy
      · intro a o ho hs
        have ho' : (x.2.ways.set j e)[a]? = some o := ho
        rw [List.getElem?_set] at ho'
        split at ho'
        · cases ho'
          exact ⟨L, hnew hs, hL, rfl⟩
        · exact h.own _ x hx a o ho' hs
      · exact h.own i y hy
    · rcases key i y hy with ⟨rfl, rfl⟩ | hy
      · exact uniq_set (h.uniq _ x hx) (fun hs j' e' h1 h2 h3 => honly j' e' h1 h2 (h3.trans (hnew hs)))
      · exact h.uniq i y hy
  refine ⟨hw, fun k hk => ?_⟩
  by_cases hi : k % 8 = L % 8
  · have h1 : (m.set (L % 8) (wayUp x j e))[k % 8]? = some (wayUp x j e) := by rw [hi]; simp [h8]
    rw [hw.get hk h1, h.get hk (by rw [hi]; exact hx)]
    have := find_set (h.uniq _ x hx) hj L hold hnew honly k
    simp only [wayUp]
    rw [this]
    by_cases hkL : k = L
    · subst hkL; simp
    · rw [if_neg hkL, if_neg (by omega)]
  · obtain ⟨y, hy, _⟩ := h.set k hk
    have h1 : (m.set (L % 8) (wayUp x j e))[k % 8]? = some y := by rw [List.getElem?_set, if_neg (fun e => hi e.symm)]; exact hy
    rw [hw.get hk h1, h.get hk hy, if_neg (by rintro rfl; exact hi rfl)]

/-- Where the line isn't in its set, a way of it is free. -/
theorem WF.free {m : List (Nat × SetM)} (h : WF m) {L : Nat} {x : Nat × SetM} (hx : m[L % 8]? = some x) : 0 ≤ idxOf isFree x.2.ways := by
  rcases (show 0 ≤ idxOf isFree x.2.ways ∨ idxOf isFree x.2.ways < 0 by omega) with hf | hf
  · exact hf
  · exfalso
    have hk := h.k _ x hx
    have hall : ∀ j : Nat, j < 8 → ∃ (e : Ent) (M : Nat), x.2.ways[j]? = some e ∧ e.state ≠ 0 ∧ e.line = M ∧ M / 8 < 4 ∧ M % 8 = L % 8 := by
      intro j hj
      have hj' : j < x.2.ways.length := by omega
      have hs : (x.2.ways[j]).state ≠ 0 := by
        have := idxOf_neg hf _ (List.getElem_mem hj')
        simpa [isFree] using this
      obtain ⟨M, h1, h2, h3⟩ := h.own _ x hx j _ (List.getElem?_eq_getElem hj') hs
      exact ⟨_, M, List.getElem?_eq_getElem hj', hs, h1, by omega, h3⟩
    have hne : ∀ j j' : Nat, j < 8 → j' < 8 → ∀ (e e' : Ent) (M M' : Nat), x.2.ways[j]? = some e → x.2.ways[j']? = some e' → e.state ≠ 0 → e'.state ≠ 0 → e.line = M → e'.line = M' → M % 8 = L % 8 → M' % 8 = L % 8 → M / 8 = M' / 8 → j = j' := by
      intro j j' _ _ e e' M M' h1 h2 s1 s2 l1 l2 m1 m2 hd
      exact h.uniq _ x hx j j' e e' h1 h2 s1 s2 (by rw [l1, l2]; congr 1; omega)
    obtain ⟨e0, M0, a0, b0, c0, d0, f0⟩ := hall 0 (by omega)
    obtain ⟨e1, M1, a1, b1, c1, d1, f1⟩ := hall 1 (by omega)
    obtain ⟨e2, M2, a2, b2, c2, d2, f2⟩ := hall 2 (by omega)
    obtain ⟨e3, M3, a3, b3, c3, d3, f3⟩ := hall 3 (by omega)
    obtain ⟨e4, M4, a4, b4, c4, d4, f4⟩ := hall 4 (by omega)
    have pig : ∀ a b c d e : Fin 4, a = b ∨ a = c ∨ a = d ∨ a = e ∨ b = c ∨ b = d ∨ b = e ∨ c = d ∨ c = e ∨ d = e := by decide +kernel
    have := pig ⟨M0 / 8, d0⟩ ⟨M1 / 8, d1⟩ ⟨M2 / 8, d2⟩ ⟨M3 / 8, d3⟩ ⟨M4 / 8, d4⟩
    simp only [Fin.mk.injEq] at this
    rcases this with q | q | q | q | q | q | q | q | q | q
    · have := hne 0 1 (by omega) (by omega) _ _ _ _ a0 a1 b0 b1 c0 c1 f0 f1 q; omega
    · have := hne 0 2 (by omega) (by omega) _ _ _ _ a0 a2 b0 b2 c0 c2 f0 f2 q; omega
    · have := hne 0 3 (by omega) (by omega) _ _ _ _ a0 a3 b0 b3 c0 c3 f0 f3 q; omega
    · have := hne 0 4 (by omega) (by omega) _ _ _ _ a0 a4 b0 b4 c0 c4 f0 f4 q; omega
    · have := hne 1 2 (by omega) (by omega) _ _ _ _ a1 a2 b1 b2 c1 c2 f1 f2 q; omega
    · have := hne 1 3 (by omega) (by omega) _ _ _ _ a1 a3 b1 b3 c1 c3 f1 f3 q; omega
    · have := hne 1 4 (by omega) (by omega) _ _ _ _ a1 a4 b1 b4 c1 c4 f1 f4 q; omega
    · have := hne 2 3 (by omega) (by omega) _ _ _ _ a2 a3 b2 b3 c2 c3 f2 f3 q; omega
    · have := hne 2 4 (by omega) (by omega) _ _ _ _ a2 a4 b2 b4 c2 c4 f2 f4 q; omega
    · have := hne 3 4 (by omega) (by omega) _ _ _ _ a3 a4 b3 b4 c3 c4 f3 f4 q; omega

theorem wf_drop {m : List (Nat × SetM)} (h : WF m) {L : Nat} (hL : L ≤ 31) : WF (arrDrop m L) ∧ ∀ k : Nat, k ≤ 31 → arrGet (arrDrop m L) k = if k = L then none else arrGet m k := by
  obtain ⟨x, hx, hs⟩ := h.set L hL
  have hg := h.get hL hx
  unfold arrDrop
  simp only [hs]
  rw [find_idxOf] at hg
  by_cases hn : idxOf (isLine (L : Int)) x.2.ways < 0
  · rw [if_pos hn] at hg ⊢
    refine ⟨h, fun k hk => ?_⟩
    by_cases hkL : k = L
    · subst hkL; rw [if_pos rfl, hg]
    · rw [if_neg hkL]
  · rw [if_neg hn]
    obtain ⟨e, he, hp⟩ := idxOf_pos (p := isLine (L : Int)) (l := x.2.ways) (by omega)
    obtain ⟨hp1, hp2⟩ := (isLine_iff _ _).1 hp
    have hlt := idxOf_lt (isLine (L : Int)) x.2.ways
    have := h.up hL hx (j := (idxOf (isLine (L : Int)) x.2.ways).toNat) (by omega) (e := Ent.zero)
      (fun o ho _ => by rw [he] at ho; cases ho; exact hp2) (fun hc => absurd rfl hc)
      (fun j' e' h1 h2 h3 => h.uniq _ x hx j' _ e' e h1 he h2 hp1 (h3.trans hp2.symm))
    refine ⟨this.1, fun k hk => ?_⟩
    rw [this.2 k hk]
    simp [Ent.zero]

theorem wf_put {m : List (Nat × SetM)} (h : WF m) {e : Ent} {L : Nat} (hL : L ≤ 31) (hl : e.line = L) (hb : ¬ e.Bad) :
    (arrPut m e).1 = 0 ∧ WF (arrPut m e).2 ∧ ∀ k : Nat, k ≤ 31 → arrGet (arrPut m e).2 k = if k = L then some e else arrGet m k := by
  obtain ⟨x, hx, hs⟩ := h.set L hL
  have hst : e.state ≠ 0 := by unfold Ent.Bad at hb; omega
  unfold arrPut
  simp only [hl, hs, if_neg hb]
  by_cases hn : 0 ≤ idxOf (isLine (L : Int)) x.2.ways
  · simp only [if_pos hn]
    obtain ⟨o, ho, hp⟩ := idxOf_pos (p := isLine (L : Int)) (l := x.2.ways) hn
    obtain ⟨hp1, hp2⟩ := (isLine_iff _ _).1 hp
    have hlt := idxOf_lt (isLine (L : Int)) x.2.ways
    have := h.up hL hx (j := (idxOf (isLine (L : Int)) x.2.ways).toNat) (by omega) (e := e)
      (fun o' ho' _ => by rw [ho] at ho'; cases ho'; exact hp2) (fun _ => hl)
      (fun j' e' h1 h2 h3 => h.uniq _ x hx j' _ e' o h1 ho h2 hp1 (h3.trans hp2.symm))
    refine ⟨trivial, this.1, fun k hk => ?_⟩
    rw [this.2 k hk, if_pos hst]
  · simp only [if_neg hn]
    have hf := h.free hx
    simp only [if_neg (show ¬ idxOf isFree x.2.ways < 0 by omega)]
    obtain ⟨o, ho, hp⟩ := idxOf_pos (p := isFree) (l := x.2.ways) hf
    have hp1 : o.state = 0 := by simpa [isFree] using hp
    have hlt := idxOf_lt isFree x.2.ways
    have hno := idxOf_neg (p := isLine (L : Int)) (l := x.2.ways) (by omega)
    have := h.up hL hx (j := (idxOf isFree x.2.ways).toNat) (by omega) (e := e)
      (fun o' ho' hs' => by rw [ho] at ho'; cases ho'; exact absurd hp1 hs') (fun _ => hl)
      (fun j' e' h1 h2 h3 => by
        have := hno e' (List.mem_of_getElem? h1)
        rw [(isLine_iff _ _).2 ⟨h2, h3⟩] at this; cases this)
    refine ⟨trivial, this.1, fun k hk => ?_⟩
    rw [this.2 k hk, if_pos hst]

theorem wf_touch {m : List (Nat × SetM)} (h : WF m) {L : Nat} (hL : L ≤ 31) : WF (arrTouch m L) ∧ ∀ k : Nat, k ≤ 31 → arrGet (arrTouch m L) k = arrGet m k := by
  obtain ⟨x, hx, hs⟩ := h.set L hL
  unfold arrTouch
  simp only [hs]
  split
  · exact ⟨h, fun _ _ => rfl⟩
  · have h8 : L % 8 < m.length := (List.getElem?_eq_some_iff.1 hx).1
    generalize touchM x.2.bits x.2.ways.length (idxOf (isLine (L : Int)) x.2.ways) = b
    have key : ∀ (i : Nat) (y : Nat × SetM), (m.set (L % 8) (bitsUp x b))[i]? = some y → ∃ z, m[i]? = some z ∧ y.2.ways = z.2.ways := by
      intro i y hy
      rw [List.getElem?_set] at hy
      by_cases hi : L % 8 = i
      · subst hi
        rw [if_pos rfl, if_pos h8] at hy
        cases hy
        exact ⟨x, hx, rfl⟩
      · rw [if_neg hi] at hy
        exact ⟨y, hy, rfl⟩
    have hw : WF (m.set (L % 8) (bitsUp x b)) := by
      refine ⟨by simpa using h.n, fun i y hy => ?_, fun i y hy => ?_, fun i y hy => ?_⟩ <;> obtain ⟨z, hz, e⟩ := key i y hy <;> rw [e]
      · exact h.k i z hz
      · exact h.own i z hz
      · exact h.uniq i z hz
    refine ⟨hw, fun k hk => ?_⟩
    obtain ⟨y, hy, _⟩ := hw.set k hk
    obtain ⟨z, hz, e⟩ := key _ _ hy
    rw [hw.get hk hy, h.get hk hz, e]
theorem wf_new {l : List (Nat × SetM)} (h : l.map (·.2) = List.replicate 8 ⟨0, List.replicate 8 Ent.zero⟩) : WF l ∧ ∀ k : Nat, k ≤ 31 → arrGet l k = none := by
  have key : ∀ (i : Nat) (y : Nat × SetM), l[i]? = some y → y.2 = ⟨0, List.replicate 8 Ent.zero⟩ := by
    intro i y hy
    have := congrArg (fun m => m[i]?) h
    simp only [List.getElem?_map, hy, Option.map_some, List.getElem?_replicate] at this
    split at this
    · simpa using this
    · cases this
  have hz : ∀ (j : Nat) (e : Ent), (List.replicate 8 Ent.zero)[j]? = some e → e.state = 0 := by
    intro j e he
    rw [List.getElem?_replicate] at he
    split at he
    · cases he; rfl
    · cases he
  have hw : WF l := by
    refine ⟨by simpa using congrArg List.length h, fun i y hy => by rw [key i y hy]; rfl, fun i y hy j e he hs => ?_, fun i y hy j j' e e' he he' hs => ?_⟩
    · rw [key i y hy] at he; exact absurd (hz j e he) hs
    · rw [key i y hy] at he; exact absurd (hz j e he) hs
  refine ⟨hw, fun k hk => ?_⟩
  obtain ⟨y, hy, _⟩ := hw.set k hk
  rw [hw.get hk hy, key _ _ hy]
  rfl
end Go.Proofs.YtjmlficbnljiaaaDoor
