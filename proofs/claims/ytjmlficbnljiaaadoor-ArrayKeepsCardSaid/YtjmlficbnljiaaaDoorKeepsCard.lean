/- ArrayKeeps: the tied card: for every list of asks and every line the law returns true and leaves the arguments as they read, where the ten error variables and errors.errorType read as the program's text lays them. -/
import Derived.Test.YtjmlficbnljiaaaDoorKeepsRow
import Derived.Test.YtjmlficbnljiaaaDoorTie
import Derived.Test.YtjmlficbnljiaaaDoorCards
import Derived.SevenTiedAt
namespace Go.Proofs.YtjmlficbnljiaaaDoor
open Go

theorem arrayKeeps_card : Rows.ArrayKeepsCardSaid :=
  Claim7.holds_tied_plain_at .later [] [.handle, .sentinel, .sentinel, .sentinel, .sentinel, .sentinel, .sentinel, .sentinel, .sentinel, .sentinel, .sentinel] true (true, "5dc18e614de88e3956590f8c3470e776174228250a475b4fab41e95cd1d06422") true
    arrayKeeps_holds (fun _ h => by cases h) (by kernel_rfl) (fun _ h => by cases h) arrayKeeps_row_tie rfl ⟨rfl, rfl⟩ (by kernel_rfl) rfl
    (fun f fn hf hfn => by
      obtain rfl : f = 3 := Option.some.inj ((show Tryd.prog.funcNamed "assent/assentlaw6.ArrayKeeps" = some 3 by kernel_rfl).symm.trans hf) |>.symm
      obtain rfl : fn = Tryd.f3 := (Option.some.inj (Tryd.func3.symm.trans hfn)).symm
      exact ⟨by kernel_rfl, fun j t ht => by
        rw [Tryd.params3] at ht
        have h2 : t = 22 ∨ t = 3 := by
          rcases j with _ | _ | j
          · exact Or.inl (by simpa using ht.symm)
          · exact Or.inr (by simpa using ht.symm)
          · simp at ht
        rcases h2 with rfl | rfl
        · exact (show Tryd.prog.wantsStandIn 22 = false by kernel_rfl)
        · exact (show Tryd.prog.wantsStandIn 3 = false by kernel_rfl)⟩)
    (by kernel_rfl)
#print axioms arrayKeeps_card
end Go.Proofs.YtjmlficbnljiaaaDoor
