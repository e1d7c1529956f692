/-
  DERIVED. GIVEN WITH THE SEED: THE CARDS: each row of YtjgnpaifdbanjaaDoorRows.lean that lists a variable, with what it lists TIED to the program's text (the seventh form; the later family's looks); each row that meets fmt, with fmt's text TOLD by the authors' own Lean function (tested against real Go, not proved from fmt's source: count such statements apart). THE CARD IS WHAT COUNTS. Prove the row's statement (the work); the ties are given (YtjgnpaifdbanjaaDoorTie.lean); close each card by the builder's one call (the guide's Derived/Test/ToyasCard.lean, 'card_holds'). Laid BY PROGRAM, IN A SANDBOX (cutbox-door.mjs). By AI agents, Wed Nov 11 2026. No macro, syntax, notation, axiom, sorry.
-/
import Derived.Test.YtjgnpaifdbanjaaDoorRows
import GoSem.ClaimSeven
namespace Go.Proofs.YtjgnpaifdbanjaaDoor
namespace Rows

/-- THE TIED CARD OF 'calamuslaw13.LexRound'. -/
def lexRoundCard : Claim7 := { stood := { row := lexRoundRow, standIns := [], harness := (true, "4e413196359aeba2d3590c15632a50446b65693d7f2dee9f702647c289ef773d"), looks := true }, kinds := [], alts := [], laidByText := true, laidKinds := [.data, .data, .data, .data, .sentinel, .sentinel, .pinned], laidTests := true, laidLooks := .later }
def LexRoundCardSaid : Prop := Claim7.holds Tryd.pinned (.plain (OpenSpec.ofChange lexRoundSpec)) lexRoundCard

/-- THE TIED CARD OF 'calamuslaw13.LexBlanks'. -/
def lexBlanksCard : Claim7 := { stood := { row := lexBlanksRow, standIns := [], harness := (true, "4e413196359aeba2d3590c15632a50446b65693d7f2dee9f702647c289ef773d"), looks := true }, kinds := [], alts := [], laidByText := true, laidKinds := [.data, .data, .data, .data, .sentinel, .sentinel, .pinned], laidTests := true, laidLooks := .later }
def LexBlanksCardSaid : Prop := Claim7.holds Tryd.pinned (.plain (OpenSpec.ofChange lexBlanksSpec)) lexBlanksCard

/-- THE TIED CARD OF 'calamuslaw13.LexJoins'. -/
def lexJoinsCard : Claim7 := { stood := { row := lexJoinsRow, standIns := [], harness := (true, "4e413196359aeba2d3590c15632a50446b65693d7f2dee9f702647c289ef773d"), looks := true }, kinds := [], alts := [], laidByText := true, laidKinds := [.data, .data, .data, .data, .sentinel, .sentinel, .pinned], laidTests := true, laidLooks := .later }
def LexJoinsCardSaid : Prop := Claim7.holds Tryd.pinned (.plain (OpenSpec.ofChange lexJoinsSpec)) lexJoinsCard

/-- THE SECOND FORM's CARD OF 'calamuslaw13.LexRound'. -/
def lexRoundUptoCard : Claim7 := { stood := { row := lexRoundUptoRow, standIns := [], harness := (true, "4e413196359aeba2d3590c15632a50446b65693d7f2dee9f702647c289ef773d"), looks := true }, kinds := [], alts := [], laidByText := true, laidKinds := [.data, .data, .data, .data, .sentinel, .sentinel, .pinned], laidTests := true, laidLooks := .later }
def LexRoundUptoCardSaid : Prop := Claim7.holds Tryd.pinned (.plain (OpenSpec.upto lexRoundSpec)) lexRoundUptoCard

/-- THE SECOND FORM's CARD OF 'calamuslaw13.LexBlanks'. -/
def lexBlanksUptoCard : Claim7 := { stood := { row := lexBlanksUptoRow, standIns := [], harness := (true, "4e413196359aeba2d3590c15632a50446b65693d7f2dee9f702647c289ef773d"), looks := true }, kinds := [], alts := [], laidByText := true, laidKinds := [.data, .data, .data, .data, .sentinel, .sentinel, .pinned], laidTests := true, laidLooks := .later }
def LexBlanksUptoCardSaid : Prop := Claim7.holds Tryd.pinned (.plain (OpenSpec.upto lexBlanksSpec)) lexBlanksUptoCard

/-- THE SECOND FORM's CARD OF 'calamuslaw13.LexJoins'. -/
def lexJoinsUptoCard : Claim7 := { stood := { row := lexJoinsUptoRow, standIns := [], harness := (true, "4e413196359aeba2d3590c15632a50446b65693d7f2dee9f702647c289ef773d"), looks := true }, kinds := [], alts := [], laidByText := true, laidKinds := [.data, .data, .data, .data, .sentinel, .sentinel, .pinned], laidTests := true, laidLooks := .later }
def LexJoinsUptoCardSaid : Prop := Claim7.holds Tryd.pinned (.plain (OpenSpec.upto lexJoinsSpec)) lexJoinsUptoCard
end Rows
end Go.Proofs.YtjgnpaifdbanjaaDoor
