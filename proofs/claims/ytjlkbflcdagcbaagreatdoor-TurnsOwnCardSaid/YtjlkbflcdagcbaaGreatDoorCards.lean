/-
  DERIVED. GIVEN WITH THE SEED: THE CARDS: each row of YtjlkbflcdagcbaaGreatDoorRows.lean that lists a variable, with what it lists TIED to the program's text (the seventh form; the later family's looks); each row that meets fmt, with fmt's text TOLD by the authors' own Lean function (tested against real Go, not proved from fmt's source: count such statements apart). THE CARD IS WHAT COUNTS. Prove the row's statement (the work); the ties are given (YtjlkbflcdagcbaaGreatDoorTie.lean); close each card by the builder's one call (the guide's Derived/Test/ToyasCard.lean, 'card_holds'). Laid BY PROGRAM, IN A SANDBOX (cutbox-door.mjs). By AI agents, Wed Nov 11 2026. No macro, syntax, notation, axiom, sorry.
-/
import Derived.Test.YtjlkbflcdagcbaaGreatDoorRows
import GoSem.ClaimSeven
namespace Go.Proofs.YtjlkbflcdagcbaaGreatDoor
namespace Rows

/-- THE TIED CARD OF 'casketlaw17.TurnsOwn'. -/
def turnsOwnCard : Claim7 := { stood := { row := turnsOwnRow, standIns := [], harness := (true, "0814606615715aada46aa574b85a0fc41b5b2340bf1ee99f84259a9a70318ede"), looks := true }, kinds := [], alts := [], laidByText := true, laidKinds := [.data, .data, .data, .sentinel, .sentinel], laidTests := true, laidLooks := .later }
def TurnsOwnCardSaid : Prop := Claim7.holds Tryz.pinned (.plain (OpenSpec.ofChange turnsOwnSpec)) turnsOwnCard

/-- THE SECOND FORM's CARD OF 'casketlaw17.TurnsOwn'. -/
def turnsOwnUptoCard : Claim7 := { stood := { row := turnsOwnUptoRow, standIns := [], harness := (true, "0814606615715aada46aa574b85a0fc41b5b2340bf1ee99f84259a9a70318ede"), looks := true }, kinds := [], alts := [], laidByText := true, laidKinds := [.data, .data, .data, .sentinel, .sentinel], laidTests := true, laidLooks := .later }
def TurnsOwnUptoCardSaid : Prop := Claim7.holds Tryz.pinned (.plain (OpenSpec.upto turnsOwnSpec)) turnsOwnUptoCard
end Rows
end Go.Proofs.YtjlkbflcdagcbaaGreatDoor
