/- MshrPlays: the tied card: for every bound and every list of asks the law returns true and leaves the arguments as they read, where the ten error variables and errors.errorType read as the program's text lays them. -/
import Derived.Test.YtjmlficbnljiaaaDoorMRow
import Derived.Test.YtjmlficbnljiaaaDoorTie
import Derived.Test.YtjmlficbnljiaaaDoorCards
import Derived.SevenTiedAt
namespace Go.Proofs.YtjmlficbnljiaaaDoor
open Go

theorem mshrPlays_card : Rows.MshrPlaysCardSaid :=
  Claim7.holds_tied_plain_at .later [] [.handle, .sentinel, .sentinel, .sentinel, .sentinel, .sentinel, .sentinel, .sentinel, .sentinel, .sentinel, .sentinel] true (true, "5dc18e614de88e3956590f8c3470e776174228250a475b4fab41e95cd1d06422") true
    mshrPlays_holds (fun _ h => by cases h) (by kernel_rfl) (fun _ h => by cases h) mshrPlays_row_tie rfl ⟨rfl, rfl⟩ (by kernel_rfl) rfl
    (fun f fn hf hfn => by
      obtain rfl : f = 5 := Option.some.inj ((show Tryd.prog.funcNamed "assent/assentlaw7.MshrPlays" = some 5 by kernel_rfl).symm.trans hf) |>.symm
      obtain rfl : fn = Tryd.f5 := (Option.some.inj (Tryd.func5.symm.trans hfn)).symm
      exact ⟨by kernel_rfl, fun j t ht => by
        rw [Tryd.params5] at ht
        have h2 : t = 65 ∨ t = 3 := by
          rcases j with _ | _ | j
          · exact Or.inr (by simpa using ht.symm)
          · exact Or.inl (by simpa using ht.symm)
          · simp at ht
        rcases h2 with rfl | rfl
        · exact (show Tryd.prog.wantsStandIn 65 = false by kernel_rfl)
        · exact (show Tryd.prog.wantsStandIn 3 = false by kernel_rfl)⟩)
    (by kernel_rfl)
#print axioms mshrPlays_card
end Go.Proofs.YtjmlficbnljiaaaDoor
