/- What the condition on the package variables gives a walk: ten sentinels, all different, and errors' own handle; a world that meets it. -/
import Derived.Test.YtjmlficbnljiaaaDoorKeep
import Derived.Test.YtjmlficbnljiaaaDoorRows
import Derived.ProofKit
import Derived.ChangeOld
import Derived.ChangeSame
import Derived.ChangeVars
import Derived.ChangeArms
import Derived.JoinedOf
import Derived.RowKit
import Derived.RowKitTokens
import Derived.LaidLaws
import Derived.LaidHandle
namespace Go.Proofs.YtjmlficbnljiaaaDoor
open Go.ChangeShapes Go.WideShapes Go.RowKit

theorem own_knob : ownKnob Tryd.prog.godebug = none := by kernel_rfl
theorem laid_out : laidOutB Tryd.prog = true := by kernel_rfl

abbrev sentD (t : List UInt8) : DataW Unit := .iface "*errors.errorString" (.ptr (.agg [.lit (.string t)]))

theorem star_es : "*" ++ "errors.errorString" = "*errors.errorString" := by decide
theorem row_es (u : TypeId) (h : Tryd.prog.typeName? 3 u = some "*errors.errorString") : u = 161 :=
  typeName_ptr_named (nm := "errors.errorString") (by rw [star_es]; kernel_rfl) (by kernel_rfl) (by decide) u (by rw [star_es]; exact h)

theorem es_cells : Tryd.prog.cellsOf 181 = 1 := by kernel_rfl
theorem str_cells : Tryd.prog.cellsOf 9 = 1 := by kernel_rfl
theorem es_iface : ∃ ms, Tryd.prog.underlying 25 = some (.interface ms) := ⟨_, Tryd.underlying25⟩

set_option maxRecDepth 100000 in
/-- Sentinels met one after the other. -/
theorem sents_of_vars {W : World} : ∀ (l : List (String × Nat × List UInt8)) (ps : List MemPlace),
    (∀ x ∈ l, Tryd.prog.globalNamed x.1 = some x.2.1 ∧ (Tryd.prog.globals[x.2.1]?).map (·.type) = some 25) →
    DataW.LaidVars Tryd.prog W (l.map fun x => (x.1, sentD x.2.2)) ps →
    (∀ b off, MemPlace.cell b off ∈ ps → (∃ c t, W.heap[b]? = some (.cells c t (0, 0))) ∧ ∀ u v, W.cell? ⟨b, off, none⟩ = some (.iface u v) → Value.okWide Tryd.prog W .any 0 u v) →
    ∃ az : List Addr, az.length = l.length ∧ (∀ (i : Nat) (x : String × Nat × List UInt8) (a : Addr), l[i]? = some x → az[i]? = some a → W.cell? ⟨x.2.1, 0, none⟩ = some (sentV a)) ∧
      (∀ a ∈ az, ∃ c t, W.heap[a.block]? = some (.cells c t (0, 0))) ∧ (az.map fun a => MemPlace.cell a.block a.off).Sublist ps
  | [], ps, _, h, _ => ⟨[], rfl, fun i x a hx => by simp at hx, fun a ha => by simp at ha, List.nil_sublist _⟩
  | x :: l, ps, hn, h, hr => by
    obtain ⟨g, t, cs, fuel, p, q, hg, ht, hv, hd, hl, e⟩ := h
    obtain ⟨hg1, ht1⟩ := hn x (List.mem_cons_self ..)
    obtain rfl := Option.some.inj (hg1.symm.trans hg)
    obtain rfl := Option.some.inj (ht1.symm.trans ht)
    subst e
    obtain ⟨l0⟩ := cs
    obtain ⟨ms, hi⟩ := es_iface
    have ok0 : ∀ u v, l0 = [.iface u v] → Value.okWide Tryd.prog W .any 0 u v := fun u v e => by
      subst e
      exact (hr x.2.1 0 (by simp [MemPlace.row])).2 u v (by simpa using World.var?_cell hg hv 0)
    obtain ⟨a, s, rfl, hc, hs, hz, rfl⟩ := errorString_of_trod hi row_es Tryd.underlying161 Tryd.underlying181 rfl rfl Tryd.underlying9 es_cells str_cells hd ok0
    obtain ⟨az, hlen, hcell, hblk, hsub⟩ := sents_of_vars l q (fun y hy => hn y (List.mem_cons_of_mem _ hy)) hl (fun b off hb => hr b off (List.mem_append_right _ hb))
    refine ⟨a :: az, by simp [hlen], ?_, ?_, ?_⟩
    · intro i y b hy hb
      rcases i with _ | i
      · simp only [List.getElem?_cons_zero, Option.some.injEq] at hy hb
        subst hy; subst hb
        simpa using World.var?_cell hg hv 0
      · simp only [List.getElem?_cons_succ] at hy hb
        exact hcell i y b hy hb
    · intro b hb
      rcases List.mem_cons.1 hb with rfl | hb
      · exact (hr b.block b.off (by simp [MemPlace.row])).1
      · exact hblk b hb
    · have e1 : MemPlace.row a 1 = [MemPlace.cell a.block a.off] := by simp [MemPlace.row]
      rw [e1]
      simp only [List.map_cons]
      exact (List.Sublist.append (l₁ := [MemPlace.cell a.block a.off]) (List.sublist_append_right _ _) hsub)

/-- The list of the rows. -/
def laidL : List (String × DataW Unit) := Rows.arrayKeepsRow.laid
theorem laid_plays : Rows.arrayPlaysRow.laid = laidL := rfl
theorem laid_mshr : Rows.mshrPlaysRow.laid = laidL := rfl

def sentL : List (String × Nat × List UInt8) := [
  ("assent/api.ErrArg", 0, [97, 110, 32, 97, 114, 103, 117, 109, 101, 110, 116, 32, 116, 104, 97, 116, 32, 99, 97, 110, 39, 116, 32, 98, 101]),
  ("assent/api.ErrLong", 3, [116, 111, 111, 32, 108, 111, 110, 103]),
  ("assent/api.ErrShort", 4, [116, 111, 111, 32, 115, 104, 111, 114, 116]),
  ("assent/api.ErrForm", 5, [110, 111, 116, 32, 105, 110, 32, 102, 111, 114, 109]),
  ("assent/api.ErrTail", 6, [115, 111, 109, 101, 116, 104, 105, 110, 103, 32, 108, 101, 102, 116, 32, 111, 118, 101, 114]),
  ("assent/api.ErrFull", 1, [110, 111, 32, 114, 111, 111, 109]),
  ("assent/api.ErrBusy", 2, [117, 110, 100, 101, 114, 32, 119, 97, 121]),
  ("assent/api.ErrNone", 7, [116, 104, 101, 114, 101, 32, 105, 115, 32, 110, 111, 110, 101]),
  ("assent/api.ErrOrder", 8, [110, 111, 116, 32, 105, 110, 32, 111, 114, 100, 101, 114]),
  ("assent/api.ErrValue", 9, [97, 110, 111, 116, 104, 101, 114, 32, 118, 97, 108, 117, 101])]

theorem et_named : Tryd.prog.globalNamed "errors.errorType" = some 10 := by kernel_rfl
theorem rtype_row : (Tryd.prog.cutTypes.find? (·.1 == "internal/reflectlite.rtype")).map (·.2) = some 144 := by kernel_rfl
theorem types_size : ∃ n, Tryd.prog.types.size = n ∧ ((List.range n).filter fun t => Tryd.prog.rowNamed t [101, 114, 114, 111, 114]) = [25] := ⟨_, rfl, by kernel_rfl⟩

theorem sentL_named : ∀ x ∈ sentL, Tryd.prog.globalNamed x.1 = some x.2.1 ∧ (Tryd.prog.globals[x.2.1]?).map (·.type) = some 25 := by
  intro x hx
  simp only [sentL, List.mem_cons, List.not_mem_nil, or_false] at hx
  rcases hx with rfl | rfl | rfl | rfl | rfl | rfl | rfl | rfl | rfl | rfl <;> exact ⟨by kernel_rfl, by kernel_rfl⟩

theorem laid_parts {W : World} (h : laidMetH Tryd.prog laidL W) : laidMet Tryd.prog (sentL.map fun x => (x.1, sentD x.2.2)) W ∧ handlesMet Tryd.prog [("errors.errorType", Rows.laid_errors_errorType)] W := h

theorem glob_of_laid {W : World} (h : laidMetH Tryd.prog laidL W) : ∃ p, Glob W p := by
  obtain ⟨⟨ps, hv, hnd, hr⟩, hh⟩ := laid_parts h
  obtain ⟨az, hlen, hcell, hblk, hsub⟩ := sents_of_vars sentL ps sentL_named hv hr
  have hlen' : az.length = 10 := hlen
  refine ⟨fun c => az.getD (c - 1) ⟨0, 0, none⟩, ?_, ?_, ?_, ?_⟩
  · intro c h1 h2
    have ha : az[c - 1]? = some (az.getD (c - 1) ⟨0, 0, none⟩) := by
      rw [List.getElem?_eq_getElem (by omega)]; simp [List.getD, List.getElem?_eq_getElem (show c - 1 < az.length by omega)]
    rcases (show c = 1 ∨ c = 2 ∨ c = 3 ∨ c = 4 ∨ c = 5 ∨ c = 6 ∨ c = 7 ∨ c = 8 ∨ c = 9 ∨ c = 10 by omega) with rfl | rfl | rfl | rfl | rfl | rfl | rfl | rfl | rfl | rfl <;>
      exact hcell _ _ _ rfl ha
  · intro c h1 h2
    refine hblk _ ?_
    have : az.getD (c - 1) ⟨0, 0, none⟩ = az[c - 1]'(by omega) := by simp [List.getD, List.getElem?_eq_getElem (show c - 1 < az.length by omega)]
    rw [this]
    exact List.getElem_mem _
  · intro c d h1 h2 h3 h4 he
    have hnd' : (az.map fun a => MemPlace.cell a.block a.off).Nodup := hnd.sublist hsub
    have e1 : az.getD (c - 1) ⟨0, 0, none⟩ = az[c - 1]'(by omega) := by simp [List.getD, List.getElem?_eq_getElem (show c - 1 < az.length by omega)]
    have e2 : az.getD (d - 1) ⟨0, 0, none⟩ = az[d - 1]'(by omega) := by simp [List.getD, List.getElem?_eq_getElem (show d - 1 < az.length by omega)]
    rw [e1, e2] at he
    have hpw := List.pairwise_iff_getElem.1 hnd'
    rcases Nat.lt_trichotomy (c - 1) (d - 1) with hlt | heq | hlt
    · have hne := hpw (c - 1) (d - 1) (by rw [List.length_map]; omega) (by rw [List.length_map]; omega) hlt
      rw [List.getElem_map, List.getElem_map, he] at hne
      exact absurd rfl hne
    · omega
    · have hne := hpw (d - 1) (c - 1) (by rw [List.length_map]; omega) (by rw [List.length_map]; omega) hlt
      rw [List.getElem_map, List.getElem_map, he] at hne
      exact absurd rfl hne
  · obtain ⟨name, u, ty, e1, e2, e3, e4, e5⟩ := hh _ (List.mem_singleton.2 rfl)
    have en : name = [101, 114, 114, 111, 114] := (Option.some.inj e1).symm
    subst en
    obtain rfl := Option.some.inj (rtype_row.symm.trans e2)
    obtain ⟨n, hn, hone⟩ := types_size
    have hm : ty ∈ (List.range n).filter fun t => Tryd.prog.rowNamed t [101, 114, 114, 111, 114] := List.mem_filter.2 ⟨List.mem_range.2 (by rw [← hn]; exact e3), e4⟩
    rw [hone] at hm
    obtain rfl := List.mem_singleton.1 hm
    have hh' : typeHandle Tryd.prog 25 = .pointer (some ⟨11, 25, none⟩) := by kernel_rfl
    rw [hh'] at e5
    simpa using World.var?_cell et_named e5 0

/-- A world that meets the condition: the settled one, ten texts more, the eleven variables laid. -/
noncomputable def lowB : Nat := (World.holding Tryd.prog default ⟨#[], #[], []⟩).heap.size
def textB (i : Nat) : ByteArray := ⟨((sentL.map (·.2.2)).getD i []).toArray⟩
noncomputable def laidCell (g : Nat) : Value :=
  if g = 10 then .iface 144 (.agg #[.pointer (some ⟨11, 25, none⟩)])
  else .iface 161 (.pointer (some ⟨lowB + (sentL.map (·.2.1)).idxOf g, 0, none⟩))
noncomputable def setG (h : Array Obj) (g : Nat) : Array Obj := h.modify g fun
  | .cells _ t frozen => .cells #[laidCell g] t frozen
  | o => o
noncomputable def laidWorld (os : Os) : World :=
  let w0 := World.holding Tryd.prog os ⟨((List.range 10).map fun i => Obj.cells #[.string (textB i)] 181).toArray, #[], []⟩
  { w0 with heap := (List.range 11).foldl setG w0.heap }
theorem laidWorld_met (os : Os) (args : Array Value) : laidMetH Tryd.prog laidL ((laidWorld os).forCall (fun _ _ => 0) ⟨#[], args, []⟩).memory :=
  laidMetH_of_parts (laidMet_of_run' 8 (by kernel_rfl) (by kernel_rfl)) (by kernel_rfl)
end Go.Proofs.YtjmlficbnljiaaaDoor
