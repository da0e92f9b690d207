/- The array's List: all entries that are there, set by set, way by way, in a list of its own. -/
import Derived.Test.YtjmlficbnljiaaaDoorArrAny
import Derived.OwnWalk
import Derived.Laws.AppendOwn
import Derived.Maps.AppendAt
namespace Go.Proofs.YtjmlficbnljiaaaDoor
open Go.RowKit

def isThere (e : Ent) : Bool := e.state != 0
def arrList (l : List (Nat × SetM)) : List Ent := l.flatMap fun x => x.2.ways.filter isThere

theorem infoEnt : (Tryd.prog.info? 32).map (fun i => (i.zero, i.size, i.bytes)) = some (some Ent.zero.val, 10, 56) := by kernel_rfl

theorem filter_len (l : List Ent) : (l.filter isThere).length ≤ l.length := List.length_filter_le _ _
theorem arrList_len {l : List (Nat × SetM)} (ok : ArrOk l) : (arrList l).length ≤ 64 := by
  have h : ∀ (m : List (Nat × SetM)), (∀ x ∈ m, x.2.ways.length ≤ 8) → (arrList m).length ≤ m.length * 8 := by
    intro m hm
    induction m with
    | nil => simp [arrList]
    | cons x m ih =>
      have h1 := ih (fun y hy => hm y (List.mem_cons_of_mem _ hy))
      have h2 := hm x (List.mem_cons_self ..)
      have h3 := filter_len x.2.ways
      simp only [arrList, List.flatMap_cons, List.length_append, List.length_cons] at *
      omega
  have h8 := ok.n.le
  have := h l (fun x hx => (ok.k x hx).le)
  omega

theorem ownsRow_below {w w' : World} {B B' : Nat} {e : TypeId} {s n : Nat} {v : Value} {xs : List Value} (h : w.ownsRow B e s v n xs) (hb : Below B' w w') (hB : w.heap.size ≤ B') : w'.ownsRow B e s v n xs := by
  refine ⟨h.1, ?_⟩
  rcases h.2 with h2 | ⟨g, cap, cur, h1, h2, h3, h4⟩
  · exact .inl h2
  · exact .inr ⟨g, cap, cur, h1, h2, by rw [hb.block g (Nat.lt_of_lt_of_le (lt_of_block h3) hB)]; exact h3, h4⟩
theorem below_grown {w w' : World} {B : Nat} {v : Value} (hg : w.grownBy w' v.ownBlock) (hB : B ≤ w.heap.size) (hv : ∀ k, v.ownBlock = some k → B ≤ k) : Below B w w' :=
  ⟨hg.os, hg.tape, hg.output, hg.size, fun k hk => hg.block k (by omega) (fun e => by have := hv k e.symm; omega)⟩

theorem add_zero_at (b q : Nat) : (⟨b, 0, none⟩ : Addr).add q = ⟨b, q, none⟩ := by
  unfold Addr.add
  split <;> simp_all
theorem filter_step {α : Type} {p : α → Bool} {l : List α} {j : Nat} {e : α} (h : l[j]? = some e) : (l.take (j + 1)).filter p = (l.take j).filter p ++ (if p e then [e] else []) := by
  rw [List.take_add_one, h, List.filter_append]
  by_cases hp : p e <;> simp [hp]
theorem arrList_take (l : List (Nat × SetM)) (k : Nat) : (arrList (l.take k)).length ≤ (arrList l).length := by
  have : arrList l = arrList (l.take k) ++ arrList (l.drop k) := by simp only [arrList]; rw [← List.flatMap_append, List.take_append_drop]
  rw [this]; simp

set_option maxHeartbeats 1600000 in
set_option maxRecDepth 10000 in
theorem List_any {w : World} {A S : Nat} {l : List (Nat × SetM)} (h : ArrAt w A S l) (ok : ArrOk l) :
    Calls Tryd.prog 24 #[.pointer (some ⟨A, 0, none⟩)] w fun r w' => (∃ v, r = .returned v ∧ w'.ownsRow w.heap.size 32 10 v (arrList l).length (flat Ent.cells (arrList l))) ∧ Below w.heap.size w w' := by
  obtain ⟨i0, hi, hz0, hz1, hz2⟩ := info_parts infoEnt
  have HA := Lib.hid h
  have c0 := h.head
  have OK := Lib.hid ok
  have hn8 := ok.n.le
  clear h ok
  go_enter Tryd.func24, Tryd.ntmps24
  go_wp2_with fail
  go_loopw [3, 13] (fun v i wr => ∃ k : Nat, k ≤ l.length ∧ i = .int .i64 k ∧ wr.ownsRow w.heap.size 32 10 v (arrList (l.take k)).length (flat Ent.cells (arrList (l.take k))) ∧ Below w.heap.size w wr) (fun _ i _ => l.length - (intOf i).toNat)
  case atStart => exact ⟨0, Nat.zero_le _, rfl, by simpa [arrList, flat] using World.ownsRow_nil _ _ _ _, Below.refl _ _⟩
  case round =>
    obtain ⟨k, hk, rfl, hown, hB⟩ := hrel
    have HO := Lib.hid hown; clear hown
    have HB := Lib.hid hB; clear hB
    by_cases hlt : k < l.length
    · obtain ⟨x, hx⟩ : ∃ x, l[k]? = some x := ⟨_, List.getElem?_eq_getElem hlt⟩
      have HX := Lib.hid hx; clear hx
      have hm : x ∈ l := List.mem_of_getElem? HX.out
      have hk8 := (OK.out.k x hm).le
      have cb := (HA.out.below HB.out).bits HX.out
      have cs := (HA.out.below HB.out).slice HX.out
      go_wp2_with fail
      have hB1 : Below w.heap.size w (wr.alloc (.cells #[.int .u8 x.2.bits, .slice (some ⟨x.1, 0, none⟩) x.2.ways.length x.2.ways.length] 95)) := HB.out.alloc HB.out.size _
      have hO1 := HO.out.alloc (.cells #[.int .u8 x.2.bits, .slice (some ⟨x.1, 0, none⟩) x.2.ways.length x.2.ways.length] 95)
      generalize wr.alloc (.cells #[.int .u8 x.2.bits, .slice (some ⟨x.1, 0, none⟩) x.2.ways.length x.2.ways.length] 95) = w1 at *
      have HB1 := Lib.hid hB1
      have HO1 := Lib.hid hO1
      clear hB1 hO1 cb cs
      go_loopw [3, 20] (fun v i wq => ∃ j : Nat, j ≤ x.2.ways.length ∧ i = .int .i64 j ∧ wq.ownsRow w.heap.size 32 10 v (arrList (l.take k) ++ (x.2.ways.take j).filter isThere).length (flat Ent.cells (arrList (l.take k) ++ (x.2.ways.take j).filter isThere)) ∧ Below w.heap.size w wq) (fun _ i _ => x.2.ways.length - (intOf i).toNat)
      case atStart => exact ⟨0, Nat.zero_le _, rfl, by simpa using HO1.out, HB1.out⟩
      case round =>
        obtain ⟨j, hj, rfl, hown, hB⟩ := hrel
        clear HO HB HO1 HB1
        have HO := Lib.hid hown; clear hown
        have HB := Lib.hid hB; clear hB
        by_cases hlj : j < x.2.ways.length
        · obtain ⟨e, he⟩ : ∃ e, x.2.ways[j]? = some e := ⟨_, List.getElem?_eq_getElem hlj⟩
          have HE := Lib.hid he; clear he
          obtain ⟨c0, c1, c2, c3, c4, c5, c6, c7, c8, c9⟩ := ent_cells ((HA.out.below HB.out).ways x hm) HE.out
          by_cases hs : e.state = 0
          · have HS := Lib.hid hs
            go_wp2_with fail
            go_roundw
            case rel =>
              refine ⟨j + 1, by omega, by go_num, ?_, HB.out.alloc HB.out.size _⟩
              rw [filter_step HE.out, show isThere e = false by simp [isThere, HS.out], if_neg (by simp)]
              simpa using HO.out.alloc _
            case measure => simp [intOf]; omega
          · have HS := Lib.hid hs
            have hd : (e.state == 0) = false := by simpa using hs
            have hlen : (arrList (l.take k) ++ (x.2.ways.take j).filter isThere).length ≤ 1000 := by
              have h1 := arrList_len OK.out
              have h2 := arrList_take l k
              have h3 := filter_len (x.2.ways.take j)
              simp only [List.length_append, List.length_take] at *
              omega
            clear hs
            go_wp2_with (at_builtin; refine wpList_append_own_at _ rfl _ _ 61 rfl w.heap.size 32 i0 _ 10 56 Tryd.underlying61 hi hz0 hz1 hz2 rfl (by decide) _ _ _ rfl ((HO.out.alloc (entObj e)).alloc (entObj e)) ⟨wr.heap.size + 1, 0, none⟩ 1 1 e.cells rfl rfl ?c1 ?c2 ?c3 ?c4 ?c5 ?_)
            case c1 =>
              intro q u hq
              have h1 := (entObj_new (wr.alloc (entObj e)) e).cell q
              rw [hq, show (wr.alloc (entObj e)).heap.size = wr.heap.size + 1 by simp] at h1
              rw [add_zero_at]
              exact h1
            case c2 => intro u hu; simp [Ent.cells] at hu; rcases hu with rfl | rfl | rfl | rfl | rfl | rfl | rfl | rfl | rfl | rfl <;> rfl
            case c3 => unfold maxLen; omega
            case c4 => omega
            case c5 => have := HB.out.size; simp; omega
            intro v' w2 hown2 hgrow _ _
            have hB2 := (((HB.out.alloc HB.out.size (entObj e)).alloc (by have := HB.out.size; simp; omega) (entObj e)).trans (below_grown hgrow (by have := HB.out.size; simp; omega) (fun g hg => (((HO.out.alloc (entObj e)).alloc (entObj e)).lt g hg).1)))
            have HO2 := Lib.hid hown2
            have HB2 := Lib.hid hB2
            clear hown2 hgrow hB2
            go_wp2_with fail
            go_roundw
            case rel =>
              refine ⟨j + 1, by omega, by go_num, ?_, HB2.out⟩
              rw [filter_step HE.out, show isThere e = true by simpa [isThere] using HS.out, if_pos rfl, ← List.append_assoc, flat_append]
              simpa [flat, Nat.add_assoc] using HO2.out
            case measure => simp [intOf]; omega
        · obtain rfl : j = x.2.ways.length := by omega
          go_wp2_with fail
          go_roundw
          case rel =>
            refine ⟨k + 1, by omega, by go_num, ?_, HB.out⟩
            have e1 : arrList (l.take (k + 1)) = arrList (l.take k) ++ (x.2.ways.take x.2.ways.length).filter isThere := by
              rw [List.take_add_one, HX.out]
              simp [arrList]
            rw [e1]
            exact HO.out
          case measure => simp [intOf]; omega
    · obtain rfl : k = l.length := by omega
      go_wp2_with fail
      go_ret
      have := HO.out
      rw [List.take_length] at this
      exact ⟨⟨_, rfl, this⟩, HB.out⟩
end Go.Proofs.YtjmlficbnljiaaaDoor
