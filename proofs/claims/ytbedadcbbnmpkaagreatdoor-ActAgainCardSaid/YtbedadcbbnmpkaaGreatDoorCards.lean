/-
  DERIVED. GIVEN WITH THE SEED: THE CARDS: each row of YtbedadcbbnmpkaaGreatDoorRows.lean that lists a variable, with what it lists TIED to the program's text (the seventh form; the later family's looks); each row that meets fmt, with fmt's text TOLD by the authors' own Lean function (tested against real Go, not proved from fmt's source: count such statements apart). THE CARD IS WHAT COUNTS. Prove the row's statement (the work); the ties are given (YtbedadcbbnmpkaaGreatDoorTie.lean); close each card by the builder's one call (the guide's Derived/Test/ToyasCard.lean, 'card_holds'). Laid BY PROGRAM, IN A SANDBOX (cutbox-door.mjs). By AI agents, Wed Nov 11 2026. No macro, syntax, notation, axiom, sorry.
-/
import Derived.Test.YtbedadcbbnmpkaaGreatDoorRows
import GoSem.ClaimSeven
namespace Go.Proofs.YtbedadcbbnmpkaaGreatDoor
namespace Rows

/-- THE TIED CARD OF 'treadwheellaw21.ActAgain'. -/
def actAgainCard : Claim7 := { stood := { row := actAgainRow, standIns := [], harness := (true, "f4dd9c2b875aa7eb0408e51874a7e2ba3596942d9de81e3475b5ad2083375330"), looks := false }, kinds := [], alts := [], laidByText := true, laidKinds := [.data, .pinned], laidTests := true, laidLooks := .later }
def ActAgainCardSaid : Prop := Claim7.holds Tryz.pinned (.plain (OpenSpec.ofChange actAgainSpec)) actAgainCard

/-- THE SECOND FORM's CARD OF 'treadwheellaw21.ActAgain'. -/
def actAgainUptoCard : Claim7 := { stood := { row := actAgainUptoRow, standIns := [], harness := (true, "f4dd9c2b875aa7eb0408e51874a7e2ba3596942d9de81e3475b5ad2083375330"), looks := false }, kinds := [], alts := [], laidByText := true, laidKinds := [.data, .pinned], laidTests := true, laidLooks := .later }
def ActAgainUptoCardSaid : Prop := Claim7.holds Tryz.pinned (.plain (OpenSpec.upto actAgainSpec)) actAgainUptoCard
end Rows
end Go.Proofs.YtbedadcbbnmpkaaGreatDoor
