/-
  DERIVED. GIVEN WITH THE SEED: THE CARDS: each row of YtjbhbpieccloeaaGreatDoorRows.lean that lists a variable, with what it lists TIED to the program's text (the seventh form; the later family's looks); each row that meets fmt, with fmt's text TOLD by the authors' own Lean function (tested against real Go, not proved from fmt's source: count such statements apart). THE CARD IS WHAT COUNTS. Prove the row's statement (the work); the ties are given (YtjbhbpieccloeaaGreatDoorTie.lean); close each card by the builder's one call (the guide's Derived/Test/ToyasCard.lean, 'card_holds'). Laid BY PROGRAM, IN A SANDBOX (cutbox-door.mjs). By AI agents, Wed Nov 11 2026. No macro, syntax, notation, axiom, sorry.
-/
import Derived.Test.YtjbhbpieccloeaaGreatDoorRows
import GoSem.ClaimSeven
namespace Go.Proofs.YtjbhbpieccloeaaGreatDoor
namespace Rows

/-- THE TIED CARD OF 'faultlinetop.WholeRepair'. -/
def wholeRepairCard : Claim7 := { stood := { row := wholeRepairRow, standIns := [], harness := (true, "c24f38eda2c9327fbd2812647fc0ae9218cb1253b0f6a3c8036e074cf5fe15bd"), looks := true }, kinds := [], alts := [], laidByText := true, laidKinds := [.data, .data], laidTests := true, laidLooks := .later }
def WholeRepairCardSaid : Prop := Claim7.holds Tryz.pinned (.plain (OpenSpec.ofChange wholeRepairSpec)) wholeRepairCard

/-- THE SECOND FORM's CARD OF 'faultlinetop.WholeRepair'. -/
def wholeRepairUptoCard : Claim7 := { stood := { row := wholeRepairUptoRow, standIns := [], harness := (true, "c24f38eda2c9327fbd2812647fc0ae9218cb1253b0f6a3c8036e074cf5fe15bd"), looks := true }, kinds := [], alts := [], laidByText := true, laidKinds := [.data, .data], laidTests := true, laidLooks := .later }
def WholeRepairUptoCardSaid : Prop := Claim7.holds Tryz.pinned (.plain (OpenSpec.upto wholeRepairSpec)) wholeRepairUptoCard
end Rows
end Go.Proofs.YtjbhbpieccloeaaGreatDoor
