/- A table of misses: its model, how it lies in memory (the machine's own, and the document's), laws on copying rows of structs. -/
import Derived.Test.YtjmlficbnljiaaaDoorArrAny
import Derived.Test.YtjmlficbnljiaaaDoorList
import Derived.Lib.Overlaps
import Derived.Lib.AppendZeros
import Derived.Lib.SliceRun
import Derived.Laws.IdiomCopy
namespace Go.Proofs.YtjmlficbnljiaaaDoor
open Go.RowKit

structure Mis where
  (line kind : Int)
  deriving DecidableEq

def Mis.cells (m : Mis) : List Value := [.int .i64 m.line, .int .i64 m.kind]
theorem Mis.cells_length (m : Mis) : m.cells.length = 2 := rfl
def Mis.val (m : Mis) : Value := .agg #[.int .i64 m.line, .int .i64 m.kind]
def Mis.zero : Mis := ⟨0, 0⟩

theorem mis_one (l : List Mis) : ∀ u ∈ flat Mis.cells l, u.oneCell' = true := by
  intro u hu
  simp only [flat, List.mem_flatMap] at hu
  obtain ⟨m, -, hm⟩ := hu
  simp [Mis.cells] at hm
  rcases hm with rfl | rfl <;> rfl

/-- The machine's table: its struct at T, the slice v that it holds, which owns the row of l. -/
structure TabAt (w : World) (T B : Nat) (tT tE : TypeId) (most : Int) (v : Value) (l : List Mis) : Prop where
  t : Blk w T tT [.int .i64 most, v]
  row : w.ownsRow B tE 2 v l.length (flat Mis.cells l)
  ne : v.ownBlock ≠ some T
  ge : B ≤ T

def tabBlocks (T : Nat) (v : Value) (q : Nat) : Prop := q = T ∨ v.ownBlock = some q

variable {w w' : World} {T B : Nat} {tT tE : TypeId} {most : Int} {v v' : Value} {l l' : List Mis}

theorem TabAt.lt (h : TabAt w T B tT tE most v l) {q : Nat} (hq : tabBlocks T v q) : q < w.heap.size ∧ B ≤ q := by
  rcases hq with rfl | hq
  · exact ⟨h.t.lt, h.ge⟩
  · exact ⟨(h.row.lt q hq).2, (h.row.lt q hq).1⟩
theorem ownsRow_far {S : Nat → Prop} {w w' : World} {B : Nat} {e : TypeId} {s n : Nat} {v : Value} {xs : List Value} (h : w.ownsRow B e s v n xs) (hf : Fr S w w') (hn : ∀ g, v.ownBlock = some g → ¬ S g) : w'.ownsRow B e s v n xs := by
  refine ⟨h.1, ?_⟩
  rcases h.2 with h2 | ⟨g, cap, cur, h1, h2, h3, h4⟩
  · exact .inl h2
  · exact .inr ⟨g, cap, cur, h1, h2, by rw [hf.block g (lt_of_block h3) (hn g (by rw [h1]; rfl))]; exact h3, h4⟩
theorem TabAt.fr (h : TabAt w T B tT tE most v l) {S : Nat → Prop} (hf : Fr S w w') (hS : ∀ q, tabBlocks T v q → ¬ S q) : TabAt w' T B tT tE most v l :=
  ⟨h.t.fr hf (hS _ (.inl rfl)), ownsRow_far h.row hf (fun _ hg => hS _ (.inr hg)), h.ne, h.ge⟩
theorem TabAt.below (h : TabAt w T B tT tE most v l) (hf : Below w.heap.size w w') : TabAt w' T B tT tE most v l :=
  h.fr (S := fun _ => False) (Fr.of_below hf) (fun _ _ x => x)
theorem TabAt.c0 (h : TabAt w T B tT tE most v l) : w.cell? ⟨T, 0, none⟩ = some (.int .i64 most) ∧ w.cell? ⟨T, 1, none⟩ = some v := ⟨h.t.cell 0, h.t.cell 1⟩

/-- What a call that changes a table owes. -/
structure TabStep (w w' : World) (T B : Nat) (tT tE : TypeId) (most : Int) (v v' : Value) (l' : List Mis) : Prop where
  at_ : TabAt w' T B tT tE most v' l'
  fr : Fr (tabBlocks T v) w w'
  new : ∀ g, v'.ownBlock = some g → v.ownBlock = some g ∨ w.heap.size ≤ g
theorem TabStep.same (h : TabAt w T B tT tE most v l) (hb : Below w.heap.size w w') : TabStep w w' T B tT tE most v v l := ⟨h.below hb, Fr.of_below hb, fun _ hg => .inl hg⟩

/-- A row of misses in memory: the slice's words, its cells. -/
structure MisAt (w : World) (a : Option Addr) (g : Nat) (l : List Mis) : Prop where
  addr : l ≠ [] → a = some ⟨g, 0, none⟩
  cell : ∀ (i : Nat) (e : Mis), l[i]? = some e → ∀ j, j < 2 → w.cell? ⟨g, i * 2 + j, none⟩ = e.cells[j]?
  lt : l ≠ [] → g < w.heap.size
theorem MisAt.below {a : Option Addr} {g B : Nat} (h : MisAt w a g l) (hb : Below B w w') (hB : w.heap.size ≤ B) : MisAt w' a g l :=
  ⟨h.addr, fun i e he j hj => by
    have h1 := h.cell i e he j hj
    obtain ⟨v, hv⟩ : ∃ v, e.cells[j]? = some v := ⟨_, List.getElem?_eq_getElem (by rw [Mis.cells_length]; exact hj)⟩
    rw [hv] at h1 ⊢
    exact cell_below hb h1 (Nat.lt_of_lt_of_le (h.lt (by rintro rfl; simp at he)) hB), fun hn => Nat.lt_of_lt_of_le (h.lt hn) hb.size⟩
theorem MisAt.two {a : Option Addr} {g : Nat} (h : MisAt w a g l) {i : Nat} {e : Mis} (he : l[i]? = some e) :
    w.cell? ⟨g, i * 2, none⟩ = some (.int .i64 e.line) ∧ w.cell? ⟨g, i * 2 + 1, none⟩ = some (.int .i64 e.kind) := ⟨h.cell i e he 0 (by omega), h.cell i e he 1 (by omega)⟩
theorem MisAt.of_own (h : w.ownsRow B tE 2 v l.length (flat Mis.cells l)) : ∃ a c g, v = .slice a l.length c ∧ MisAt w a g l ∧ (∀ q, v.ownBlock = some q → a = some ⟨g, 0, none⟩ ∧ q = g) ∧ l.length ≤ c ∧ c ≤ maxLen := by
  rcases h.2 with ⟨hv, hn⟩ | ⟨g, cap, cur, hv, hb, hg, hc, hm, -⟩
  · have : l = [] := List.eq_nil_of_length_eq_zero hn
    subst this
    exact ⟨none, 0, 0, hv, ⟨fun h => absurd rfl h, fun i e he => by simp at he, fun h => absurd rfl h⟩, (fun q hq => by rw [hv] at hq; cases hq), Nat.le_refl _, Nat.zero_le _⟩
  · refine ⟨some ⟨g, 0, none⟩, cap, g, hv, ⟨fun _ => rfl, fun i e he j hj => ?_, fun _ => lt_of_block hg⟩, (fun q hq => ⟨rfl, by rw [hv] at hq; exact (Option.some.inj hq).symm⟩), hc, hm⟩
    have h1 := flat_get Mis.cells_length he hj
    obtain ⟨u, hu⟩ : ∃ v, e.cells[j]? = some v := ⟨_, List.getElem?_eq_getElem (by rw [Mis.cells_length]; exact hj)⟩
    rw [hu] at h1
    have := h.cells (by rw [hv]; rfl) _ _ h1
    rw [add_zero_at] at this
    rw [this, hu]

theorem infoMis : (Tryd.prog.info? 85).map (fun i => (i.zero, i.size, i.bytes)) = some (some Mis.zero.val, 2, 16) := by kernel_rfl
theorem infoRMis : (Tryd.prog.info? 84).map (fun i => (i.zero, i.size, i.bytes)) = some (some Mis.zero.val, 2, 16) := by kernel_rfl

/-- 'copy' of rows of structs: all is read before anything is written. -/
theorem run_copy_rows {P : Program} (w : World) (dT sT ty elem : TypeId) (s : Nat) (b o dLen dCap : Nat) (a : Addr) (sLen sCap : Nat) (cs : List Value)
    (hu : P.underlying dT = some (.slice elem)) (hs : (P.info? elem).map (·.size) = some s) (hn : cs.length = Nat.min sLen dLen * s)
    (hsrc : ∀ j v, cs[j]? = some v → w.cell? (a.add j) = some v) (hc : ∀ j, j < cs.length → (w.cell? ⟨b, o + j, none⟩).isSome = true) (hf : ∀ j, j < cs.length → w.frozen? ⟨b, o + j, none⟩ = false) (h1 : ∀ v ∈ cs, v.oneCell' = true) :
    (Builtin.copy_ #[dT, sT] ty #[.slice (some ⟨b, o, none⟩) dLen dCap, .slice (some a) sLen sCap]).run P w = .ok (goInt (Nat.min sLen dLen)) (w.setCells b o cs) := by
  have hl := run_loadCells_list (P := P) w a cs hsrc
  have hst := run_storeCells_cells (P := P) b o cs 0 w (by simpa using hc) (by simpa using hf) h1
  rw [hn] at hl
  cases hq : P.info? elem with
  | none => simp [hq] at hs
  | some i =>
    have hi : i.size = s := by simpa [hq] using hs
    simp [Builtin.copy_, run_underlying hu, Builtin.lenOf, Builtin.firstCells, sizeOf, typeInfo, hq, hi, hl, hst]
end Go.Proofs.YtjmlficbnljiaaaDoor
