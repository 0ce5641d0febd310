/-
  DERIVED. GIVEN WITH THE SEED: THE CARDS: each row of YtgnjjfdfoibdiaaGreatDoorRows.lean that lists a variable, with what it lists TIED to the program's text (the seventh form; the later family's looks); each row that meets fmt, with fmt's text TOLD by the authors' own Lean function (tested against real Go, not proved from fmt's source: count such statements apart). THE CARD IS WHAT COUNTS. Prove the row's statement (the work); the ties are given (YtgnjjfdfoibdiaaGreatDoorTie.lean); close each card by the builder's one call (the guide's Derived/Test/ToyasCard.lean, 'card_holds'). Laid BY PROGRAM, IN A SANDBOX (cutbox-door.mjs). By AI agents, Wed Nov 11 2026. No macro, syntax, notation, axiom, sorry.
-/
import Derived.Test.YtgnjjfdfoibdiaaGreatDoorRows
import GoSem.ClaimSeven
namespace Go.Proofs.YtgnjjfdfoibdiaaGreatDoor
namespace Rows

/-- THE TIED CARD OF 'farriertop.WholeUsers'. -/
def wholeUsersCard : Claim7 := { stood := { row := wholeUsersRow, standIns := [], harness := (true, "637972f0dd40a1dab0841b16398cf5fd59e7d4a5c4751ab4b1198be4f4678b18"), looks := true }, kinds := [], alts := [], laidByText := true, laidKinds := [.data, .data, .data, .data, .sentinel, .sentinel, .pinned], laidTests := true, laidLooks := .later }
def WholeUsersCardSaid : Prop := Claim7.holds Tryz.pinned (.plain (OpenSpec.ofChange wholeUsersSpec)) wholeUsersCard

/-- THE SECOND FORM's CARD OF 'farriertop.WholeUsers'. -/
def wholeUsersUptoCard : Claim7 := { stood := { row := wholeUsersUptoRow, standIns := [], harness := (true, "637972f0dd40a1dab0841b16398cf5fd59e7d4a5c4751ab4b1198be4f4678b18"), looks := true }, kinds := [], alts := [], laidByText := true, laidKinds := [.data, .data, .data, .data, .sentinel, .sentinel, .pinned], laidTests := true, laidLooks := .later }
def WholeUsersUptoCardSaid : Prop := Claim7.holds Tryz.pinned (.plain (OpenSpec.upto wholeUsersSpec)) wholeUsersUptoCard
end Rows
end Go.Proofs.YtgnjjfdfoibdiaaGreatDoor
