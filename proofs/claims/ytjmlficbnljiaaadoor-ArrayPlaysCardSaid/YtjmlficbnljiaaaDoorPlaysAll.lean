/- The walk of assentlaw6.ArrayPlays: whatever is asked, the array and the document's own answer the same. -/
import Derived.Test.YtjmlficbnljiaaaDoorPlaysK1
import Derived.Test.YtjmlficbnljiaaaDoorPlaysK2
import Derived.Test.YtjmlficbnljiaaaDoorPlaysK3
import Derived.Test.YtjmlficbnljiaaaDoorPlaysK4
import Derived.Test.YtjmlficbnljiaaaDoorPlaysK5
import Derived.Test.YtjmlficbnljiaaaDoorPlaysK6
import Derived.Test.YtjmlficbnljiaaaDoorPlaysK7
namespace Go.Proofs.YtjmlficbnljiaaaDoor
open Go.RowKit

theorem array_plays (w : World) (p : Nat → Addr) (hg : Glob w p) (sets ways : Int) (a : Option Addr) (b o c : Nat) (l : List AskM) (hl : AsksAt w a b o l) (hp : PinsAt w l) (hll : l.length ≤ 140737488351232) :
    Calls Tryd.prog 4 #[.int .i64 sets, .int .i64 ways, .slice a l.length c] w fun e w' => e = .returned (.bool true) ∧ Below w.heap.size w w' :=
  plays_split.imp ⟨plays_part1⟩ ⟨plays_part2⟩ ⟨plays_part3⟩ ⟨plays_part4⟩ ⟨plays_part5⟩ ⟨plays_part6⟩ ⟨plays_part7⟩ w p hg sets ways a b o c l hl hp hll
end Go.Proofs.YtjmlficbnljiaaaDoor
