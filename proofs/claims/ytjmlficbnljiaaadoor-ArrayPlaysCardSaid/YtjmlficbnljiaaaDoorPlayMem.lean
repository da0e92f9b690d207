/- The two arrays of assentlaw6.ArrayPlays side by side in memory. -/
import Derived.Test.YtjmlficbnljiaaaDoorPlayPure
import Derived.Test.YtjmlficbnljiaaaDoorSame
import Derived.Test.YtjmlficbnljiaaaDoorKeeps
namespace Go.Proofs.YtjmlficbnljiaaaDoor
open Go.RowKit

/-- Since w: the array at A, S with the sets l; the document's array at R, E, B with the sets m; all in new blocks, no block in both. -/
structure PlayMem (w w' : World) (A S R E B cE k : Nat) (l m : List (Nat × SetM)) : Prop where
  below : Below w.heap.size w w'
  at_ : ArrAt w' A S l
  ok : ArrOk l
  ref : RefAt w' R E B cE k m
  bl : ∀ q, arrBlocks A S l q → w.heap.size ≤ q
  br : ∀ q, refBlocks R E B m q → w.heap.size ≤ q
  apart : ∀ q, arrBlocks A S l q → ¬ refBlocks R E B m q

variable {w w1 w2 : World} {A S R E B cE k : Nat} {l l' m m' : List (Nat × SetM)}

theorem PlayMem.fr (h : PlayMem w w1 A S R E B cE k l m) {T : Nat → Prop} (hf : Fr T w1 w2) (hT : ∀ q, T q → w1.heap.size ≤ q) : PlayMem w w2 A S R E B cE k l m :=
  ⟨h.below.trans (hf.below (fun q hq => Nat.le_trans h.below.size (hT q hq)) h.below.size), h.at_.fr hf (fun q hq ht => Nat.not_le_of_lt (h.at_.lt hq) (hT q ht)), h.ok, h.ref.fr hf (fun q hq ht => Nat.not_le_of_lt (h.ref.lt hq) (hT q ht)), h.bl, h.br, h.apart⟩
theorem PlayMem.then (h : PlayMem w w1 A S R E B cE k l m) (hb : Below w1.heap.size w1 w2) : PlayMem w w2 A S R E B cE k l m :=
  h.fr (T := fun _ => False) (Fr.of_below hb) (fun _ h => h.elim)
theorem PlayMem.arr (h : PlayMem w w1 A S R E B cE k l m) (hs : ArrStep w1 w2 A S l l') : PlayMem w w2 A S R E B cE k l' m :=
  ⟨h.below.trans (hs.below h.bl h.below.size), hs.at_, hs.ok, h.ref.fr hs.fr (fun q hq hl => h.apart q hl hq), fun q hq => h.bl q ((arrBlocks_map hs.map q).1 hq), h.br, fun q hq => h.apart q ((arrBlocks_map hs.map q).1 hq)⟩
theorem PlayMem.doc (h : PlayMem w w1 A S R E B cE k l m) (hs : RefStep w1 w2 R E B cE k m m') : PlayMem w w2 A S R E B cE k l m' :=
  ⟨h.below.trans (hs.fr.below h.br h.below.size), h.at_.fr hs.fr (fun q hq hr => h.apart q hq hr), h.ok, hs.at_, h.bl, fun q hq => h.br q ((refBlocks_map hs.map q).1 hq), fun q hq hr => h.apart q hq ((refBlocks_map hs.map q).1 hr)⟩
end Go.Proofs.YtjmlficbnljiaaaDoor
