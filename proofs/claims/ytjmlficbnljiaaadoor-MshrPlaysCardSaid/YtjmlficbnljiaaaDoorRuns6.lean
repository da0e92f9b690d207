/- assentlaw6.ArrayRuns: it answers true. -/
import Derived.Test.YtjmlficbnljiaaaDoorArrAny
namespace Go.Proofs.YtjmlficbnljiaaaDoor
open Go.RowKit

theorem ArrStep.below {w w' : World} {A S B : Nat} {l l' : List (Nat × SetM)} (h : ArrStep w w' A S l l') (hb : ∀ k, arrBlocks A S l k → B ≤ k) (hB : B ≤ w.heap.size) : Below B w w' := h.fr.below hb hB
theorem ArrStep.blocks {w w' : World} {A S B : Nat} {l l' : List (Nat × SetM)} (h : ArrStep w w' A S l l') (hb : ∀ k, arrBlocks A S l k → B ≤ k) : ∀ k, arrBlocks A S l' k → B ≤ k :=
  fun k hk => hb k ((arrBlocks_map h.map k).1 hk)

def ofM (line : Int) : Ent := ⟨line, 1, 0, 0, 0, 0, 0, 0, false, false⟩

set_option maxHeartbeats 800000 in
theorem of_any (line : Int) (w : World) :
    Calls Tryd.prog 44 #[.int .i64 line] w fun e w' => e = .returned (ofM line).val ∧ Below w.heap.size w w' := by
  go_enter Tryd.func44, Tryd.ntmps44
  go_wp2_with fail
  refine bodyPost_ret (v := (ofM line).val) (by simp [results, Tryd.results44, go_sem, Ent.val, ofM]) rfl ⟨rfl, ?_⟩
  exact (Below.refl _ _).alloc (Nat.le_refl _) _

/-- The states of chapter 6's runs. -/
def r0 (b : Nat) : List (Nat × SetM) := [(b, ⟨0, [Ent.zero, Ent.zero]⟩)]
def r1 (b : Nat) : List (Nat × SetM) := [(b, ⟨0, [ofM 1, Ent.zero]⟩)]
def r2 (b : Nat) : List (Nat × SetM) := [(b, ⟨0, [ofM 1, ofM 2]⟩)]
def r3 (b : Nat) : List (Nat × SetM) := [(b, ⟨1, [ofM 1, ofM 2]⟩)]
def r4 (b : Nat) : List (Nat × SetM) := [(b, ⟨1, [ofM 1, Ent.zero]⟩)]
theorem rput1 (b : Nat) : arrPut (r0 b) (ofM 1) = (0, r1 b) := by kernel_rfl
theorem rput2 (b : Nat) : arrPut (r1 b) (ofM 2) = (0, r2 b) := by kernel_rfl
theorem rput3 (b : Nat) : arrPut (r2 b) (ofM 3) = (6, r2 b) := by kernel_rfl
theorem rtouch (b : Nat) : arrTouch (r2 b) 1 = r3 b := by kernel_rfl
theorem rvic0 (b : Nat) : arrVictim (r3 b) 3 [] = 2 := by kernel_rfl
theorem rvic1 (b : Nat) : arrVictim (r3 b) 3 [2] = 1 := by kernel_rfl
theorem rdrop (b : Nat) : arrDrop (r3 b) 2 = r4 b := by kernel_rfl
theorem rroom (b : Nat) : arrRoom (r4 b) 3 = true := by kernel_rfl

theorem ints_nil (w : World) : IntsAt w none 0 0 [] := ⟨fun h => absurd rfl h, fun i x h => by simp at h, fun h => absurd rfl h⟩

theorem new_list {l : List (Nat × SetM)} {n : Nat} {s : SetM} (h : l.map (·.2) = List.replicate n s) : ∃ bs : List Nat, bs.length = n ∧ l = bs.map fun b => (b, s) := by
  refine ⟨l.map (·.1), by simpa using congrArg List.length h, ?_⟩
  apply List.ext_getElem?
  intro i
  have hi := congrArg (fun m => m[i]?) h
  simp only [List.getElem?_map, List.getElem?_replicate] at hi
  simp only [List.getElem?_map]
  cases hl : l[i]? with
  | none => rfl
  | some x =>
    rw [hl] at hi
    simp only [Option.map_some] at hi
    split at hi
    · simp only [Option.some.injEq] at hi
      simp [← hi]
    · cases hi

theorem new_ok {l : List (Nat × SetM)} {n k : Nat} (hn : pow8 n) (hk : pow8 k) (h : l.map (·.2) = List.replicate n ⟨0, List.replicate k Ent.zero⟩) : ArrOk l := by
  obtain ⟨bs, hl, rfl⟩ := new_list h
  refine ⟨by simpa [hl] using hn, fun x hx => ?_, fun x hx => ?_⟩ <;> obtain ⟨b, _, rfl⟩ := List.mem_map.1 hx
  · simpa using hk
  · simp

set_option maxHeartbeats 3200000 in
set_option maxRecDepth 20000 in
theorem array_runs (w : World) (p : Nat → Addr) (hg : Glob w p) :
    Calls Tryd.prog 12 #[] w fun e w' => e = .returned (.bool true) ∧ Below w.heap.size w w' := by
  have HG := Lib.hid hg; clear hg
  have HN := Lib.hid (New_ok 1 2 (by unfold pow8; omega) (by unfold pow8; omega))
  go_enter Tryd.func12, Tryd.ntmps12
  go_wp2_with fail
  refine (HN.out w).mono ?_
  rintro r w1 ⟨A, S, l, rfl, hA, hB, hb, hl⟩
  have hok := new_ok (by unfold pow8; omega) (by unfold pow8; omega) hl
  obtain ⟨bs, hbl, rfl⟩ := new_list hl
  obtain ⟨b, rfl⟩ : ∃ b, bs = [b] := by
    match bs, hbl with
    | [b], _ => exact ⟨b, rfl⟩
  have HA := Lib.hid (show ArrAt w1 A S (r0 b) from hA)
  have HO := Lib.hid (show ArrOk (r0 b) from hok)
  have HBL := Lib.hid (show ∀ k, arrBlocks A S (r0 b) k → w.heap.size ≤ k from hb)
  have HB := Lib.hid hB
  clear hA hok hb hB hl hbl
  go_wp2_with fail
  refine (of_any 1 _).mono ?_; rintro r w2 ⟨rfl, hB2⟩
  have HA2 := Lib.hid (HA.out.below hB2)
  have HB2 := Lib.hid (HB.out.trans (hB2.mono HB.out.size)); clear hB2 HA
  go_wp2_with fail
  refine (Put_any HA2.out HO.out (ofM 1) p (HG.out.below HB2.out (Nat.le_refl _))).mono ?_
  rintro r w3 ⟨rfl, hS⟩
  rw [rput1] at hS
  have HB3 := Lib.hid (HB2.out.trans (hS.below HBL.out HB2.out.size))
  have HBL3 := Lib.hid (hS.blocks HBL.out)
  have HA3 := Lib.hid hS.at_
  have HO3 := Lib.hid hS.ok
  clear hS HA2 HO HBL HB
  rw [rput1]
  simp only [codeErr, if_true]
  go_wp2_with fail
  refine (of_any 2 _).mono ?_; rintro r w4 ⟨rfl, hB4⟩
  have HA4 := Lib.hid (HA3.out.below hB4)
  have HB4 := Lib.hid (HB3.out.trans (hB4.mono HB3.out.size)); clear hB4 HA3 HB2
  go_wp2_with fail
  refine (Put_any HA4.out HO3.out (ofM 2) p (HG.out.below HB4.out (Nat.le_refl _))).mono ?_
  rintro r w5 ⟨rfl, hS⟩
  rw [rput2] at hS
  have HB5 := Lib.hid (HB4.out.trans (hS.below HBL3.out HB4.out.size))
  have HBL5 := Lib.hid (hS.blocks HBL3.out)
  have HA5 := Lib.hid hS.at_
  have HO5 := Lib.hid hS.ok
  clear hS HA4 HO3 HBL3 HB3
  rw [rput2]
  simp only [codeErr, if_true]
  go_wp2_with fail
  refine (of_any 3 _).mono ?_; rintro r w6 ⟨rfl, hB6⟩
  have HA6 := Lib.hid (HA5.out.below hB6)
  have HB6 := Lib.hid (HB5.out.trans (hB6.mono HB5.out.size)); clear hB6 HA5 HB4
  go_wp2_with fail
  refine (Put_any HA6.out HO5.out (ofM 3) p (HG.out.below HB6.out (Nat.le_refl _))).mono ?_
  rintro r w7 ⟨rfl, hS⟩
  rw [rput3] at hS
  have HB7 := Lib.hid (HB6.out.trans (hS.below HBL5.out HB6.out.size))
  have HA7 := Lib.hid hS.at_
  clear hS HA6 HB5
  rw [rput3]
  have HCE : codeErr p opPut (ofM 3).line 6 = errV opPut 3 (sentV (p 6)) := by simp [codeErr, ofM]
  simp only []
  rw [HCE]
  clear HCE
  go_wp2_with fail
  refine (Touch_any HA7.out HO5.out 1).mono ?_
  rintro r w8 ⟨rfl, hS⟩
  rw [rtouch] at hS
  have HB8 := Lib.hid (HB7.out.trans (hS.below HBL5.out HB7.out.size))
  have HBL8 := Lib.hid (hS.blocks HBL5.out)
  have HA8 := Lib.hid hS.at_
  have HO8 := Lib.hid hS.ok
  clear hS HA7 HB6 HO5 HBL5
  go_wp2_with fail
  refine (Victim_all HA8.out HO8.out 3 none 0 0 0 [] (ints_nil _) (by simp)).mono ?_
  rintro r w9 ⟨rfl, hB9⟩
  rw [rvic0]
  have HA9 := Lib.hid (HA8.out.below hB9)
  have HB9 := Lib.hid (HB8.out.trans (hB9.mono HB8.out.size)); clear hB9 HA8 HB7
  go_wp2_with fail
  have hI : IntsAt (w9.alloc (.cells #[.int .i64 2] 3)) (some ⟨w9.heap.size, 0, none⟩) w9.heap.size 0 [2] := by
    refine ⟨fun _ => rfl, fun i x h => ?_, fun _ => by simp⟩
    match i, h with
    | 0, h => simp at h; subst h; simp
  have HI := Lib.hid hI; clear hI
  have hAl : Below w9.heap.size w9 (w9.alloc (.cells #[.int .i64 2] 3)) := (Below.refl _ _).alloc (Nat.le_refl _) _
  have HA10 := Lib.hid (HA9.out.below hAl)
  have HB10 := Lib.hid (HB9.out.trans (hAl.mono HB9.out.size))
  clear hAl HA9 HB8
  refine (Victim_all HA10.out HO8.out 3 _ w9.heap.size 0 1 [2] HI.out (by simp)).mono ?_
  rintro r w10 ⟨rfl, hB10⟩
  rw [rvic1]
  have HA11 := Lib.hid (HA10.out.below hB10)
  have HB11 := Lib.hid (HB10.out.trans (hB10.mono HB10.out.size)); clear hB10 HA10 HB9 HI
  go_wp2_with fail
  refine (Drop_any HA11.out HO8.out 2).mono ?_
  rintro r w11 ⟨rfl, hS⟩
  rw [rdrop] at hS
  have HB12 := Lib.hid (HB11.out.trans (hS.below HBL8.out HB11.out.size))
  have HA12 := Lib.hid hS.at_
  have HO12 := Lib.hid hS.ok
  clear hS HA11 HB10 HO8 HBL8
  go_wp2_with fail
  refine (keep_Is_code opPut 3 6 (by omega) (by omega) _ p (HG.out.below HB12.out (Nat.le_refl _))).mono ?_
  rintro r w12 ⟨rfl, hB12⟩
  have HA13 := Lib.hid (HA12.out.below hB12)
  have HB13 := Lib.hid (HB12.out.trans (hB12.mono HB12.out.size)); clear hB12 HA12 HB11
  go_wp2_with fail
  refine (Room_any HA13.out HO12.out 3).mono ?_
  rintro r w13 ⟨rfl, hB13⟩
  rw [rroom]
  have HB14 := Lib.hid (HB13.out.trans (hB13.mono HB13.out.size)); clear hB13 HA13 HB12
  go_wp2_with fail
  go_ret
  exact ⟨rfl, HB14.out⟩
end Go.Proofs.YtjmlficbnljiaaaDoor
