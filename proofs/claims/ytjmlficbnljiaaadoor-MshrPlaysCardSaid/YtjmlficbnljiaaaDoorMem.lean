/- What is used throughout: blocks told whole, frames, rows of structs in a block. No program stands here. -/
import Derived.WalkKit
import Derived.OneCell
import Derived.Lib.Hide
import Derived.Deep.Draws
namespace Go.Proofs.YtjmlficbnljiaaaDoor
open Go.RowKit

theorem ret_int {k : IntKind} {a b : Int} (h : a = b) : Ending.returned (.int k a) = .returned (.int k b) := by rw [h]
theorem ret_bool {a b : Bool} (h : a = b) : Ending.returned (.bool a) = .returned (.bool b) := by rw [h]

/-- Block b, of elements of type t, is just the list l; it may be written. -/
def Blk (w : World) (b : Nat) (t : TypeId) (l : List Value) : Prop := w.heap[b]? = some (.cells l.toArray t (0, 0))

theorem Blk.cell {w : World} {b : Nat} {t : TypeId} {l : List Value} (h : Blk w b t l) (o : Nat) : w.cell? ⟨b, o, none⟩ = l[o]? := by
  have h' : w.heap[b]? = some (.cells l.toArray t (0, 0)) := h
  simp [World.cell?, h']
theorem Blk.free {w : World} {b : Nat} {t : TypeId} {l : List Value} (h : Blk w b t l) (o : Nat) : w.frozen? ⟨b, o, none⟩ = false := by
  have h' : w.heap[b]? = some (.cells l.toArray t (0, 0)) := h
  simp [World.frozen?, h']
theorem Blk.lt {w : World} {b : Nat} {t : TypeId} {l : List Value} (h : Blk w b t l) : b < w.heap.size := lt_of_block h
theorem Blk.set {w : World} {b : Nat} {t : TypeId} {l : List Value} (h : Blk w b t l) (o : Nat) (v : Value) : Blk (w.setCell ⟨b, o, none⟩ v) b t (l.set o v) := by
  have h' : w.heap[b]? = some (.cells l.toArray t (0, 0)) := h
  have := heap_setCell_same w b o l.toArray t v h'
  simpa [Blk] using this
theorem Blk.other {w : World} {b : Nat} {t : TypeId} {l : List Value} (h : Blk w b t l) {a : Addr} (ha : b ≠ a.block) (v : Value) : Blk (w.setCell a v) b t l := by
  have h' : w.heap[b]? = some (.cells l.toArray t (0, 0)) := h
  simpa [Blk, heap_setCell_other w a b v ha] using h'
theorem Blk.alloc {w : World} {b : Nat} {t : TypeId} {l : List Value} (h : Blk w b t l) (o : Obj) : Blk (w.alloc o) b t l := by
  have h' : w.heap[b]? = some (.cells l.toArray t (0, 0)) := h
  show (w.alloc o).heap[b]? = _
  rw [Below.heap_alloc _ _ _ (lt_of_block h')]; exact h'
theorem Blk.drew {w : World} {b : Nat} {t : TypeId} {l : List Value} (h : Blk w b t l) : Blk w.drew b t l := h
theorem Blk.new (w : World) (c : Array Value) (t : TypeId) : Blk (w.alloc (.cells c t)) w.heap.size t c.toList := by
  simpa [Blk] using heap_alloc_new w (.cells c t)

/-- Behind a call: what is in none of the blocks of S, and was there, is as it was. -/
structure Fr (S : Nat → Prop) (w w' : World) : Prop where
  os : w'.os = w.os
  tape : w'.tape = w.tape
  output : w'.output = w.output
  size : w.heap.size ≤ w'.heap.size
  block : ∀ k, k < w.heap.size → ¬ S k → w'.heap[k]? = w.heap[k]?

theorem Fr.refl (S : Nat → Prop) (w : World) : Fr S w w := ⟨rfl, rfl, rfl, Nat.le_refl _, fun _ _ _ => rfl⟩
theorem Fr.trans {S S' T : Nat → Prop} {a b c : World} (h : Fr S a b) (h' : Fr S' b c) (hS : ∀ k, k < a.heap.size → S k → T k) (hS' : ∀ k, k < a.heap.size → S' k → T k) : Fr T a c :=
  ⟨h'.os.trans h.os, h'.tape.trans h.tape, h'.output.trans h.output, Nat.le_trans h.size h'.size,
   fun k hk hn => (h'.block k (Nat.lt_of_lt_of_le hk h.size) (fun x => hn (hS' k hk x))).trans (h.block k hk (fun x => hn (hS k hk x)))⟩
theorem Fr.mono {S T : Nat → Prop} {a b : World} (h : Fr S a b) (hS : ∀ k, k < a.heap.size → S k → T k) : Fr T a b :=
  ⟨h.os, h.tape, h.output, h.size, fun k hk hn => h.block k hk (fun x => hn (hS k hk x))⟩
theorem Fr.then {S : Nat → Prop} {a b c : World} (h : Fr S a b) (h' : Fr S b c) : Fr S a c := h.trans h' (fun _ _ x => x) (fun _ _ x => x)
theorem Fr.of_below {S : Nat → Prop} {w w' : World} (h : Below w.heap.size w w') : Fr S w w' := ⟨h.os, h.tape, h.output, h.size, fun k hk _ => h.block k hk⟩
theorem Fr.below {S : Nat → Prop} {B : Nat} {w w' : World} (h : Fr S w w') (hS : ∀ k, S k → B ≤ k) (hB : B ≤ w.heap.size) : Below B w w' :=
  ⟨h.os, h.tape, h.output, h.size, fun k hk => h.block k (by omega) (fun x => by have := hS k x; omega)⟩
theorem Fr.then_below {S : Nat → Prop} {a b c : World} (h : Fr S a b) (h' : Below b.heap.size b c) : Fr S a c := h.then (Fr.of_below h')
theorem Fr.drew {S : Nat → Prop} {a w : World} (h : Fr S a w) : Fr S a w.drew := ⟨h.os, h.tape, h.output, h.size, h.block⟩
theorem Fr.alloc {S : Nat → Prop} {a w : World} (h : Fr S a w) (o : Obj) : Fr S a (w.alloc o) := h.then_below ((Below.refl _ _).alloc (Nat.le_refl _) o)
theorem Fr.set {S : Nat → Prop} {a w : World} (h : Fr S a w) {p : Addr} (hp : S p.block ∨ a.heap.size ≤ p.block) (v : Value) : Fr S a (w.setCell p v) :=
  ⟨h.os, h.tape, h.output, by simpa [World.setCell] using h.size, fun k hk hn => by
    rw [heap_setCell_other w p k v (by rintro rfl; rcases hp with hp | hp <;> first | exact hn hp | omega)]
    exact h.block k hk hn⟩
theorem Blk.fr {S : Nat → Prop} {w w' : World} {b : Nat} {t : TypeId} {l : List Value} (h : Blk w b t l) (hf : Fr S w w') (hn : ¬ S b) : Blk w' b t l := by
  have h' : w.heap[b]? = some (.cells l.toArray t (0, 0)) := h
  simpa [Blk, hf.block b h.lt hn] using h'
theorem Blk.below {B : Nat} {w w' : World} {b : Nat} {t : TypeId} {l : List Value} (h : Blk w b t l) (hf : Below B w w') (hn : b < B) : Blk w' b t l := by
  have h' : w.heap[b]? = some (.cells l.toArray t (0, 0)) := h
  simpa [Blk, hf.block b hn] using h'
theorem Fr.cell {S : Nat → Prop} {w w' : World} (hf : Fr S w w') {p : Addr} {v : Value} (h : w.cell? p = some v) (hn : ¬ S p.block) : w'.cell? p = some v := by
  rw [← h]; exact World.cell?_of_block (w := w) (hf.block p.block (block_lt_of_cell h) hn)
theorem cell_below {B : Nat} {w w' : World} (hf : Below B w w') {p : Addr} {v : Value} (h : w.cell? p = some v) (hn : p.block < B) : w'.cell? p = some v := by
  rw [hf.cell hn]; exact h

theorem below_drewN {B : Nat} {a w : World} (h : Below B a w) (n : Nat) : Below B a (w.drewN n) := ⟨h.os, h.tape, h.output, h.size, h.block⟩
theorem fr_drewN {S : Nat → Prop} {a w : World} (h : Fr S a w) (n : Nat) : Fr S a (w.drewN n) := ⟨h.os, h.tape, h.output, h.size, h.block⟩
theorem below_set {B : Nat} {a w : World} {b o : Nat} {v : Value} (hb : B ≤ b) (h : Below B a w) : Below B a (w.setCell ⟨b, o, none⟩ v) := h.setCell hb v
theorem fr_set {S : Nat → Prop} {a w : World} {b o : Nat} {v : Value} (hb : S b ∨ a.heap.size ≤ b) (h : Fr S a w) : Fr S a (w.setCell ⟨b, o, none⟩ v) := h.set hb v

/-- Rows of one length, one behind the other. -/
def flat {α : Type} (f : α → List Value) (l : List α) : List Value := l.flatMap f

theorem flat_length {α : Type} {f : α → List Value} {s : Nat} (hf : ∀ a, (f a).length = s) (l : List α) : (flat f l).length = l.length * s := by
  induction l with
  | nil => simp [flat]
  | cons a l ih => simp only [flat, List.flatMap_cons, List.length_append, List.length_cons] at *; rw [ih, hf]; rw [Nat.add_mul]; omega
theorem flat_get {α : Type} {f : α → List Value} {s : Nat} (hf : ∀ a, (f a).length = s) {l : List α} {i k : Nat} {a : α} (h : l[i]? = some a) (hk : k < s) : (flat f l)[i * s + k]? = (f a)[k]? := by
  induction l generalizing i with
  | nil => simp at h
  | cons b l ih =>
    simp only [flat, List.flatMap_cons] at *
    cases i with
    | zero =>
      simp at h; subst h
      rw [Nat.zero_mul, Nat.zero_add, List.getElem?_append_left (by rw [hf]; exact hk)]
    | succ i =>
      have h' : l[i]? = some a := by simpa using h
      rw [List.getElem?_append_right (by rw [hf, Nat.add_mul]; omega), hf, show (i + 1) * s + k - s = i * s + k by rw [Nat.add_mul]; omega]
      exact ih h'
theorem flat_set {α : Type} {f : α → List Value} {s : Nat} (hf : ∀ a, (f a).length = s) {l : List α} {i k : Nat} {a a' : α} {v : Value} (h : l[i]? = some a) (hk : k < s) (hv : (f a).set k v = f a') :
    (flat f l).set (i * s + k) v = flat f (l.set i a') := by
  induction l generalizing i with
  | nil => simp at h
  | cons b l ih =>
    simp only [flat, List.flatMap_cons] at *
    cases i with
    | zero =>
      simp at h; subst h
      rw [Nat.zero_mul, Nat.zero_add, List.set_append_left _ _ (by rw [hf]; exact hk), hv]
      simp
    | succ i =>
      have h' : l[i]? = some a := by simpa using h
      rw [List.set_append_right _ _ (by rw [hf, Nat.add_mul]; omega), hf, show (i + 1) * s + k - s = i * s + k by rw [Nat.add_mul]; omega, ih h']
      simp
theorem flat_same {α : Type} {f : α → List Value} {l : List α} {i : Nat} {a a' : α} (h : l[i]? = some a) (hv : f a' = f a) : flat f (l.set i a') = flat f l := by
  induction l generalizing i with
  | nil => rfl
  | cons b l ih =>
    cases i with
    | zero => simp at h; subst h; simp [flat, hv]
    | succ i =>
      have := ih (i := i) (by simpa using h)
      simp only [flat] at this
      simp [flat, this]
/-- A row written cell by cell. -/
def setRow (l : List Value) (o : Nat) : List Value → List Value
  | [] => l
  | v :: vs => setRow (l.set o v) (o + 1) vs
theorem setRow_spec (vs : List Value) : ∀ (l : List Value) (o : Nat), o + vs.length ≤ l.length → setRow l o vs = l.take o ++ (vs ++ l.drop (o + vs.length)) := by
  induction vs with
  | nil => intro l o h; simp [setRow]
  | cons v vs ih =>
    intro l o h
    simp only [List.length_cons] at h
    rw [setRow, ih _ _ (by simp; omega)]
    rw [List.take_set, List.drop_set_of_lt (by omega), List.take_succ_eq_append_getElem (by omega), List.set_append_right _ _ (by simp; omega)]
    simp [Nat.min_eq_left (show o ≤ l.length by omega)]
    congr 1; omega
theorem flat_append {α : Type} (f : α → List Value) (l m : List α) : flat f (l ++ m) = flat f l ++ flat f m := by simp [flat]
theorem flat_take {α : Type} {f : α → List Value} {s : Nat} (hf : ∀ a, (f a).length = s) (l : List α) (i : Nat) (hi : i ≤ l.length) : (flat f l).take (i * s) = flat f (l.take i) := by
  have h : flat f l = flat f (l.take i) ++ flat f (l.drop i) := by rw [← flat_append, List.take_append_drop]
  rw [h, List.take_append_of_le_length (by rw [flat_length hf]; simp [Nat.min_eq_left hi]), List.take_of_length_le (by rw [flat_length hf]; simp [Nat.min_eq_left hi])]
theorem flat_drop {α : Type} {f : α → List Value} {s : Nat} (hf : ∀ a, (f a).length = s) (l : List α) (i : Nat) (hi : i ≤ l.length) : (flat f l).drop (i * s) = flat f (l.drop i) := by
  have h : flat f l = flat f (l.take i) ++ flat f (l.drop i) := by rw [← flat_append, List.take_append_drop]
  rw [h, List.drop_append_of_le_length (by rw [flat_length hf]; simp [Nat.min_eq_left hi]), List.drop_of_length_le (by rw [flat_length hf]; simp [Nat.min_eq_left hi])]
  simp
theorem flat_setRow {α : Type} {f : α → List Value} {s : Nat} (hf : ∀ a, (f a).length = s) {l : List α} {i : Nat} (hi : i < l.length) (a : α) : setRow (flat f l) (i * s) (f a) = flat f (l.set i a) := by
  rw [setRow_spec _ _ _ (by rw [hf, flat_length hf, ← Nat.succ_mul]; exact Nat.mul_le_mul_right _ hi), hf, flat_take hf l i (by omega),
    show i * s + s = (i + 1) * s by rw [Nat.add_mul]; omega, flat_drop hf l (i + 1) (by omega), List.set_eq_take_append_cons_drop, if_pos hi]
  simp [flat]
end Go.Proofs.YtjmlficbnljiaaaDoor
