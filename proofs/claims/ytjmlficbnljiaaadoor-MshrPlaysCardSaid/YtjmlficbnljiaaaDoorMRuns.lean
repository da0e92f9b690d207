/- assentlaw7.MshrRuns: the closed sentence returns true. -/
import Derived.Test.YtjmlficbnljiaaaDoorMisJ
namespace Go.Proofs.YtjmlficbnljiaaaDoor
open Go.RowKit

theorem TabStep.below' {w w' : World} {T B : Nat} {tT tE : TypeId} {most : Int} {v v' : Value} {l l' : List Mis} (h : TabAt w T B tT tE most v l) (hs : TabStep w w' T B tT tE most v v' l') (hB : B ≤ w.heap.size) : Below B w w' :=
  hs.fr.below (fun _ hq => (h.lt hq).2) hB
theorem srt_nil : Srt [] := ⟨fun i j e f _ he => by simp at he, fun e he => by cases he⟩
theorem srt_one (line kind : Int) (h0 : 0 ≤ line) (h1 : line ≤ 31) : Srt [⟨line, kind⟩] :=
  ⟨fun i j e f hlt he hf => by
    have h2 := (List.getElem?_eq_some_iff.1 hf).1
    simp at h2; omega, fun e he => by rw [List.mem_singleton.1 he]; exact ⟨h0, h1⟩⟩

set_option maxHeartbeats 3200000 in
set_option maxRecDepth 20000 in
theorem mshr_runs (w : World) (p : Nat → Addr) (hg : Glob w p) :
    Calls Tryd.prog 38 #[] w fun e w' => e = .returned (.bool true) ∧ Below w.heap.size w w' := by
  have HG := Lib.hid hg
  clear hg
  go_enter Tryd.func38, Tryd.ntmps38
  go_wp2_with fail
  refine (MNew_ok 1 (by omega) (by omega) w).mono ?_; rintro r w1 ⟨T, rfl, hB1, hT1⟩
  have HB1 := Lib.hid hB1
  have HT1 := Lib.hid hT1
  have HC := Lib.hid (MAdd_any hT1 (by simp) srt_nil 3 1 p (HG.out.below hB1 (Nat.le_refl _)))
  clear hB1 hT1
  go_wp2_with fail
  refine HC.out.mono ?_; rintro r w2 ⟨rfl, v2, hS2⟩
  rw [show mAdd 1 [] 3 1 = (0, [⟨3, 1⟩]) from rfl] at hS2 ⊢
  simp only [codeErr, if_true]
  have HB2 := Lib.hid (HB1.out.trans (hS2.below' HT1.out HB1.out.size))
  have HT2 := Lib.hid hS2.at_
  clear hS2 HC
  have HC := Lib.hid (MAdd_any HT2.out (by simp) (srt_one 3 1 (by omega) (by omega)) 3 2 p (HG.out.below HB2.out (Nat.le_refl _)))
  go_wp2_with fail
  refine HC.out.mono ?_; rintro r w3 ⟨rfl, v3, hS3⟩
  rw [show mAdd 1 [⟨3, 1⟩] 3 2 = (7, [⟨3, 1⟩]) from rfl] at hS3 ⊢
  have HB3 := Lib.hid (HB2.out.trans (hS3.below' HT2.out HB2.out.size))
  have HT3 := Lib.hid hS3.at_
  clear hS3 HC
  have HC := Lib.hid (MAdd_any HT3.out (by simp) (srt_one 3 1 (by omega) (by omega)) 4 1 p (HG.out.below HB3.out (Nat.le_refl _)))
  go_wp2_with fail
  refine HC.out.mono ?_; rintro r w4 ⟨rfl, v4, hS4⟩
  rw [show mAdd 1 [⟨3, 1⟩] 4 1 = (6, [⟨3, 1⟩]) from rfl] at hS4 ⊢
  have HB4 := Lib.hid (HB3.out.trans (hS4.below' HT3.out HB3.out.size))
  have HT4 := Lib.hid hS4.at_
  clear hS4 HC
  have HC := Lib.hid (MGet_any HT4.out (by simp) 3)
  go_wp2_with fail
  refine HC.out.mono ?_; rintro r w5 ⟨rfl, hB5⟩
  rw [show mGet [⟨3, 1⟩] 3 = some ⟨3, 1⟩ from rfl]
  simp only [Option.getD_some, Option.isSome_some]
  have HB5 := Lib.hid (HB4.out.trans (hB5.mono HB4.out.size))
  have HT5 := Lib.hid (HT4.out.below hB5)
  clear hB5 HC
  have HC := Lib.hid (MFull_any HT5.out (by simp))
  go_wp2_with fail
  refine HC.out.mono ?_; rintro r w6 ⟨rfl, hB6⟩
  simp only [List.length_cons, List.length_nil]
  have HB6 := Lib.hid (HB5.out.trans (hB6.mono HB5.out.size))
  have HT6 := Lib.hid (HT5.out.below hB6)
  clear hB6 HC
  have HC := Lib.hid (keep_Is opMAdd 3 7 (by omega) w6 p (HG.out.below HB6.out (Nat.le_refl _)))
  go_wp2_with fail
  refine HC.out.mono ?_; rintro r w7 ⟨rfl, hB7⟩
  have HB7 := Lib.hid (HB6.out.trans (hB7.mono HB6.out.size))
  have HT7 := Lib.hid (HT6.out.below hB7)
  clear hB7 HC
  have HC := Lib.hid (keep_Is opMAdd 4 6 (by omega) w7 p (HG.out.below HB7.out (Nat.le_refl _)))
  go_wp2_with fail
  refine HC.out.mono ?_; rintro r w8 ⟨rfl, hB8⟩
  have HB8 := Lib.hid (HB7.out.trans (hB8.mono HB7.out.size))
  have HT8 := Lib.hid (HT7.out.below hB8)
  clear hB8 HC
  have HC := Lib.hid (MDrop_any HT8.out (by simp) 3)
  go_wp2_with fail
  refine HC.out.mono ?_; rintro r w9 ⟨rfl, v9, hS9⟩
  rw [show mGet [⟨3, 1⟩] 3 = some ⟨3, 1⟩ from rfl]
  rw [show mDrop [⟨3, 1⟩] 3 = [] from rfl] at hS9
  simp only [Option.isSome_some]
  have HB9 := Lib.hid (HB8.out.trans (hS9.below' HT8.out HB8.out.size))
  have HT9 := Lib.hid hS9.at_
  clear hS9 HC
  have HC := Lib.hid (MList_any HT9.out (by simp))
  go_wp2_with fail
  refine HC.out.mono ?_; rintro r wa ⟨va, rfl, ho, hBa⟩
  obtain ⟨a, c, rfl⟩ := own_shape ho
  have HBa := Lib.hid (HB9.out.trans (hBa.mono HB9.out.size))
  clear ho hBa HC
  go_wp2_with fail
  go_ret
  exact ⟨rfl, HBa.out⟩
end Go.Proofs.YtjmlficbnljiaaaDoor
