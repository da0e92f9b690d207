/-
  DERIVED. GIVEN WITH THE SEED: THE CARDS: each row of YtjmlficbnljiaaaDoorRows.lean that lists a variable, with what it lists TIED to the program's text (the seventh form; the later family's looks); each row that meets fmt, with fmt's text TOLD by the authors' own Lean function (tested against real Go, not proved from fmt's source: count such statements apart). THE CARD IS WHAT COUNTS. Prove the row's statement (the work); the ties are given (YtjmlficbnljiaaaDoorTie.lean); close each card by the builder's one call (the guide's Derived/Test/ToyasCard.lean, 'card_holds'). Laid BY PROGRAM, IN A SANDBOX (cutbox-door.mjs). By AI agents, Wed Nov 11 2026. No macro, syntax, notation, axiom, sorry.
-/
import Derived.Test.YtjmlficbnljiaaaDoorRows
import GoSem.ClaimSeven
namespace Go.Proofs.YtjmlficbnljiaaaDoor
namespace Rows

/-- THE TIED CARD OF 'assentlaw6.ArrayKeeps'. -/
def arrayKeepsCard : Claim7 := { stood := { row := arrayKeepsRow, standIns := [], harness := (true, "5dc18e614de88e3956590f8c3470e776174228250a475b4fab41e95cd1d06422"), looks := true }, kinds := [], alts := [], laidByText := true, laidKinds := [.handle, .sentinel, .sentinel, .sentinel, .sentinel, .sentinel, .sentinel, .sentinel, .sentinel, .sentinel, .sentinel], laidTests := true, laidLooks := .later }
def ArrayKeepsCardSaid : Prop := Claim7.holds Tryd.pinned (.plain (OpenSpec.ofChange arrayKeepsSpec)) arrayKeepsCard

/-- THE TIED CARD OF 'assentlaw6.ArrayPlays'. -/
def arrayPlaysCard : Claim7 := { stood := { row := arrayPlaysRow, standIns := [], harness := (true, "5dc18e614de88e3956590f8c3470e776174228250a475b4fab41e95cd1d06422"), looks := true }, kinds := [], alts := [], laidByText := true, laidKinds := [.handle, .sentinel, .sentinel, .sentinel, .sentinel, .sentinel, .sentinel, .sentinel, .sentinel, .sentinel, .sentinel], laidTests := true, laidLooks := .later }
def ArrayPlaysCardSaid : Prop := Claim7.holds Tryd.pinned (.plain (OpenSpec.ofChange arrayPlaysSpec)) arrayPlaysCard

/-- THE TIED CARD OF 'assentlaw7.MshrPlays'. -/
def mshrPlaysCard : Claim7 := { stood := { row := mshrPlaysRow, standIns := [], harness := (true, "5dc18e614de88e3956590f8c3470e776174228250a475b4fab41e95cd1d06422"), looks := true }, kinds := [], alts := [], laidByText := true, laidKinds := [.handle, .sentinel, .sentinel, .sentinel, .sentinel, .sentinel, .sentinel, .sentinel, .sentinel, .sentinel, .sentinel], laidTests := true, laidLooks := .later }
def MshrPlaysCardSaid : Prop := Claim7.holds Tryd.pinned (.plain (OpenSpec.ofChange mshrPlaysSpec)) mshrPlaysCard

/-- THE SECOND FORM's CARD OF 'assentlaw6.ArrayKeeps'. -/
def arrayKeepsUptoCard : Claim7 := { stood := { row := arrayKeepsUptoRow, standIns := [], harness := (true, "5dc18e614de88e3956590f8c3470e776174228250a475b4fab41e95cd1d06422"), looks := true }, kinds := [], alts := [], laidByText := true, laidKinds := [.handle, .sentinel, .sentinel, .sentinel, .sentinel, .sentinel, .sentinel, .sentinel, .sentinel, .sentinel, .sentinel], laidTests := true, laidLooks := .later }
def ArrayKeepsUptoCardSaid : Prop := Claim7.holds Tryd.pinned (.plain (OpenSpec.upto arrayKeepsSpec)) arrayKeepsUptoCard

/-- THE SECOND FORM's CARD OF 'assentlaw6.ArrayPlays'. -/
def arrayPlaysUptoCard : Claim7 := { stood := { row := arrayPlaysUptoRow, standIns := [], harness := (true, "5dc18e614de88e3956590f8c3470e776174228250a475b4fab41e95cd1d06422"), looks := true }, kinds := [], alts := [], laidByText := true, laidKinds := [.handle, .sentinel, .sentinel, .sentinel, .sentinel, .sentinel, .sentinel, .sentinel, .sentinel, .sentinel, .sentinel], laidTests := true, laidLooks := .later }
def ArrayPlaysUptoCardSaid : Prop := Claim7.holds Tryd.pinned (.plain (OpenSpec.upto arrayPlaysSpec)) arrayPlaysUptoCard

/-- THE SECOND FORM's CARD OF 'assentlaw7.MshrPlays'. -/
def mshrPlaysUptoCard : Claim7 := { stood := { row := mshrPlaysUptoRow, standIns := [], harness := (true, "5dc18e614de88e3956590f8c3470e776174228250a475b4fab41e95cd1d06422"), looks := true }, kinds := [], alts := [], laidByText := true, laidKinds := [.handle, .sentinel, .sentinel, .sentinel, .sentinel, .sentinel, .sentinel, .sentinel, .sentinel, .sentinel, .sentinel], laidTests := true, laidLooks := .later }
def MshrPlaysUptoCardSaid : Prop := Claim7.holds Tryd.pinned (.plain (OpenSpec.upto mshrPlaysSpec)) mshrPlaysUptoCard
end Rows
end Go.Proofs.YtjmlficbnljiaaaDoor
