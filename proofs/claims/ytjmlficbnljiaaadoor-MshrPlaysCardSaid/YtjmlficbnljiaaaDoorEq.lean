/- '==' on two entries: as the model's entries are equal. -/
import Derived.Test.YtjmlficbnljiaaaDoorArr
import Derived.Laws.StructEq
import Derived.ChangeKeysEq
namespace Go.Proofs.YtjmlficbnljiaaaDoor
open Go.RowKit

theorem info_u32 : ∃ i, Tryd.prog.info? 28 = some i := by
  have h : (Tryd.prog.info? 28).isSome = true := by kernel_rfl
  exact Option.isSome_iff_exists.1 h
theorem cells_u32 : Tryd.prog.cellsOf 28 = 1 := by kernel_rfl
theorem agg_u32 (w : World) : (isAgg 28).run Tryd.prog w = .ok false w := by kernel_rfl
theorem agg_int (w : World) : (isAgg 3).run Tryd.prog w = .ok false w := by kernel_rfl
theorem agg_bool (w : World) : (isAgg 4).run Tryd.prog w = .ok false w := by kernel_rfl
theorem agg_line (w : World) : (isAgg 30).run Tryd.prog w = .ok true w := by kernel_rfl
theorem size_line (w : World) : (sizeOf 30).run Tryd.prog w = .ok 4 w := by kernel_rfl

theorem eq_line (d : Nat) (a0 a1 a2 a3 b0 b1 b2 b3 : Int) (w : World) :
    (Op.equalIn (d + 2) 30 (.agg #[.int .u32 a0, .int .u32 a1, .int .u32 a2, .int .u32 a3]) (.agg #[.int .u32 b0, .int .u32 b1, .int .u32 b2, .int .u32 b3])).run Tryd.prog w
      = .ok (decide (a0 = b0) && (decide (a1 = b1) && (decide (a2 = b2) && decide (a3 = b3)))) w := by
  obtain ⟨i, hi⟩ := info_u32
  have hu := Tryd.underlying30
  rw [show d + 2 = (d + 1) + 1 from rfl, run_equalIn_array w (d + 1) _ _ hu hi, cells_u32]
  have he : ∀ a b : Int, (Op.equalIn (d + 1) 28 (.int .u32 a) (.int .u32 b)).run Tryd.prog w = .ok (a == b) w := fun a b => run_equalIn_int w d 28 .u32 .u32 a b Tryd.underlying28
  simp only [List.range, List.range.loop, Op.eqItems, Sem.run_bind, part, agg_u32, Result.andThen_ok]
  simp [he]
  by_cases h0 : a0 = b0 <;> by_cases h1 : a1 = b1 <;> by_cases h2 : a2 = b2 <;> by_cases h3 : a3 = b3 <;> simp [h0, h1, h2, h3, he]

theorem ent_ext (e f : Ent) : decide (e = f) = (decide (e.line = f.line) && (decide (e.state = f.state) && (decide (e.mode = f.mode) && (decide (e.epoch = f.epoch) && ((decide (e.d0 = f.d0) && (decide (e.d1 = f.d1) && (decide (e.d2 = f.d2) && decide (e.d3 = f.d3)))) && ((e.held == f.held) && (e.fresh == f.fresh))))))) := by
  rw [Bool.eq_iff_iff]
  obtain ⟨a0, a1, a2, a3, a4, a5, a6, a7, a8, a9⟩ := e
  obtain ⟨b0, b1, b2, b3, b4, b5, b6, b7, b8, b9⟩ := f
  simp
  intros
  simp only [and_assoc]

theorem eqIn_ent (d : Nat) (e f : Ent) (w : World) :
    (Op.equalIn (d + 4) 32 e.val f.val).run Tryd.prog w = .ok (decide (e = f)) w := by
  have hf0 : ∀ fs, Tryd.prog.underlying 32 = some (.struct fs) → Tryd.prog.fieldsOf 32 = fs := fun fs h => by simp [Program.fieldsOf, h]
  have hf := hf0 _ Tryd.underlying32
  have hu : Tryd.prog.underlying 32 = some (.struct (Tryd.prog.fieldsOf 32)) := by rw [hf]; exact Tryd.underlying32
  have hi : ∀ a b : Int, (Op.equalIn (d + 3) 3 (.int .i64 a) (.int .i64 b)).run Tryd.prog w = .ok (a == b) w := fun a b => run_equalIn_int w (d + 2) 3 .i64 .i64 a b Tryd.underlying3
  have hb : ∀ a b : Bool, (Op.equalIn (d + 3) 4 (.bool a) (.bool b)).run Tryd.prog w = .ok (a == b) w := fun a b => run_equalIn_bool' w (d + 2) 4 a b Tryd.underlying4
  have hl := fun a0 a1 a2 a3 b0 b1 b2 b3 => eq_line (d + 1) a0 a1 a2 a3 b0 b1 b2 b3 w
  rw [ent_ext]
  unfold Ent.val
  rw [show d + 4 = (d + 3) + 1 from rfl, run_equalIn_struct w (d + 3) 32 _ _ hu Tryd.stoodInHeld32, hf]
  simp only [Op.eqFields, Sem.run_bind, part, agg_int, agg_bool, agg_line, size_line, Result.andThen_ok]
  simp [hi, hb, hl]
  by_cases h0 : e.line = f.line <;> by_cases h1 : e.state = f.state <;> by_cases h2 : e.mode = f.mode <;> by_cases h3 : e.epoch = f.epoch <;> simp [h0, h1, h2, h3, hi, hb, hl]
  cases hd : (decide (e.d0 = f.d0) && (decide (e.d1 = f.d1) && (decide (e.d2 = f.d2) && decide (e.d3 = f.d3))))
  · simp [hb]
    intro q0 q1 q2 q3
    simp [q0, q1, q2, q3] at hd
  · simp [hb]
    simp only [Bool.and_eq_true, decide_eq_true_eq] at hd
    rw [if_neg (fun hc => hc hd.1 hd.2.1 hd.2.2.1 hd.2.2.2)]
    by_cases h4 : e.held = f.held <;> by_cases h5 : e.fresh = f.fresh <;> simp [h4, h5]

theorem neq_ent (e f : Ent) (w : World) : (binOp .neq 32 e.val f.val).run Tryd.prog w = .ok (.bool (!decide (e = f))) w := by
  have h := eqIn_ent 9996 e f w
  unfold Ent.val at *
  rw [run_neq_struct, h]
  rfl
theorem eql_ent (e f : Ent) (w : World) : (binOp .eql 32 e.val f.val).run Tryd.prog w = .ok (.bool (decide (e = f))) w := by
  have h := eqIn_ent 9996 e f w
  unfold Ent.val at *
  rw [run_eql_struct, h]
  rfl

theorem eqIn_ref (d : Nat) (e f : Ent) (w : World) :
    (Op.equalIn (d + 4) 50 e.val f.val).run Tryd.prog w = .ok (decide (e = f)) w := by
  have hf0 : ∀ fs, Tryd.prog.underlying 50 = some (.struct fs) → Tryd.prog.fieldsOf 50 = fs := fun fs h => by simp [Program.fieldsOf, h]
  have hf := hf0 _ Tryd.underlying50
  have hu : Tryd.prog.underlying 50 = some (.struct (Tryd.prog.fieldsOf 50)) := by rw [hf]; exact Tryd.underlying50
  have hi : ∀ a b : Int, (Op.equalIn (d + 3) 3 (.int .i64 a) (.int .i64 b)).run Tryd.prog w = .ok (a == b) w := fun a b => run_equalIn_int w (d + 2) 3 .i64 .i64 a b Tryd.underlying3
  have hb : ∀ a b : Bool, (Op.equalIn (d + 3) 4 (.bool a) (.bool b)).run Tryd.prog w = .ok (a == b) w := fun a b => run_equalIn_bool' w (d + 2) 4 a b Tryd.underlying4
  have hl := fun a0 a1 a2 a3 b0 b1 b2 b3 => eq_line (d + 1) a0 a1 a2 a3 b0 b1 b2 b3 w
  rw [ent_ext]
  unfold Ent.val
  rw [show d + 4 = (d + 3) + 1 from rfl, run_equalIn_struct w (d + 3) 50 _ _ hu Tryd.stoodInHeld50, hf]
  simp only [Op.eqFields, Sem.run_bind, part, agg_int, agg_bool, agg_line, size_line, Result.andThen_ok]
  simp [hi, hb, hl]
  by_cases h0 : e.line = f.line <;> by_cases h1 : e.state = f.state <;> by_cases h2 : e.mode = f.mode <;> by_cases h3 : e.epoch = f.epoch <;> simp [h0, h1, h2, h3, hi, hb, hl]
  cases hd : (decide (e.d0 = f.d0) && (decide (e.d1 = f.d1) && (decide (e.d2 = f.d2) && decide (e.d3 = f.d3))))
  · simp [hb]
    intro q0 q1 q2 q3
    simp [q0, q1, q2, q3] at hd
  · simp [hb]
    simp only [Bool.and_eq_true, decide_eq_true_eq] at hd
    rw [if_neg (fun hc => hc hd.1 hd.2.1 hd.2.2.1 hd.2.2.2)]
    by_cases h4 : e.held = f.held <;> by_cases h5 : e.fresh = f.fresh <;> simp [h4, h5]

theorem neq_ref (e f : Ent) (w : World) : (binOp .neq 50 e.val f.val).run Tryd.prog w = .ok (.bool (!decide (e = f))) w := by
  have h := eqIn_ref 9996 e f w
  unfold Ent.val at *
  rw [run_neq_struct, h]
  rfl
theorem eql_ref (e f : Ent) (w : World) : (binOp .eql 50 e.val f.val).run Tryd.prog w = .ok (.bool (decide (e = f))) w := by
  have h := eqIn_ref 9996 e f w
  unfold Ent.val at *
  rw [run_eql_struct, h]
  rfl


end Go.Proofs.YtjmlficbnljiaaaDoor
