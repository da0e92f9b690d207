/- The walk of assentlaw7.MshrPlays: whatever is asked, the table and the document's own answer the same. -/
import Derived.Test.YtjmlficbnljiaaaDoorMSplitK1
import Derived.Test.YtjmlficbnljiaaaDoorMSplitK2
import Derived.Test.YtjmlficbnljiaaaDoorMSplitK3
import Derived.Test.YtjmlficbnljiaaaDoorMSplitK4
import Derived.Test.YtjmlficbnljiaaaDoorMSplitK5
namespace Go.Proofs.YtjmlficbnljiaaaDoor
open Go.RowKit

theorem mshr_plays (w : World) (p : Nat → Addr) (hg : Glob w p) (most : Int) (a : Option Addr) (b o c : Nat) (l : List Ask7) (hl : Asks7At w a b o l) (hll : l.length ≤ 140737488351232) :
    Calls Tryd.prog 5 #[.int .i64 most, .slice a l.length c] w fun e w' => e = .returned (.bool true) ∧ Below w.heap.size w w' := by
  by_cases hm : most < 1 ∨ 8 < most
  · exact mplays_bad w p (Lib.hid hg) most hm a c l hll
  · exact mplays_split.imp ⟨mplays_part1⟩ ⟨mplays_part2⟩ ⟨mplays_part3⟩ ⟨mplays_part4⟩ ⟨mplays_part5⟩ w p hg most (by omega) (by omega) a b o c l hl hll
end Go.Proofs.YtjmlficbnljiaaaDoor
