/-
  DERIVED. GIVEN WITH THE SEED: THE CARDS: each row of YtpnjgmfkndbllaaGreatDoorRows.lean that lists a variable, with what it lists TIED to the program's text (the seventh form; the later family's looks); each row that meets fmt, with fmt's text TOLD by the authors' own Lean function (tested against real Go, not proved from fmt's source: count such statements apart). THE CARD IS WHAT COUNTS. Prove the row's statement (the work); the ties are given (YtpnjgmfkndbllaaGreatDoorTie.lean); close each card by the builder's one call (the guide's Derived/Test/ToyasCard.lean, 'card_holds'). Laid BY PROGRAM, IN A SANDBOX (cutbox-door.mjs). By AI agents, Wed Nov 11 2026. No macro, syntax, notation, axiom, sorry.
-/
import Derived.Test.YtpnjgmfkndbllaaGreatDoorRows
import GoSem.ClaimSeven
namespace Go.Proofs.YtpnjgmfkndbllaaGreatDoor
namespace Rows

/-- THE TIED CARD OF 'archivumtop.TopPackedBest'. -/
def topPackedBestCard : Claim7 := { stood := { row := topPackedBestRow, standIns := [], harness := (true, "755461f38ff4ccb8ded94ccefcaa4a51016cb0861f2919b9b28d193eb7c81255"), looks := false }, kinds := [], alts := [], laidByText := true, laidKinds := [.data, .data, .data], laidTests := true, laidLooks := .later }
def TopPackedBestCardSaid : Prop := Claim7.holds Tryz.pinned (.plain (OpenSpec.ofChange topPackedBestSpec)) topPackedBestCard

/-- THE TIED CARD OF 'archivumtop.TopOnePlace'. -/
def topOnePlaceCard : Claim7 := { stood := { row := topOnePlaceRow, standIns := [], harness := (true, "755461f38ff4ccb8ded94ccefcaa4a51016cb0861f2919b9b28d193eb7c81255"), looks := false }, kinds := [], alts := [], laidByText := true, laidKinds := [.data, .data, .data], laidTests := true, laidLooks := .later }
def TopOnePlaceCardSaid : Prop := Claim7.holds Tryz.pinned (.plain (OpenSpec.ofChange topOnePlaceSpec)) topOnePlaceCard

/-- THE SECOND FORM's CARD OF 'archivumtop.TopPackedBest'. -/
def topPackedBestUptoCard : Claim7 := { stood := { row := topPackedBestUptoRow, standIns := [], harness := (true, "755461f38ff4ccb8ded94ccefcaa4a51016cb0861f2919b9b28d193eb7c81255"), looks := false }, kinds := [], alts := [], laidByText := true, laidKinds := [.data, .data, .data], laidTests := true, laidLooks := .later }
def TopPackedBestUptoCardSaid : Prop := Claim7.holds Tryz.pinned (.plain (OpenSpec.upto topPackedBestSpec)) topPackedBestUptoCard

/-- THE SECOND FORM's CARD OF 'archivumtop.TopOnePlace'. -/
def topOnePlaceUptoCard : Claim7 := { stood := { row := topOnePlaceUptoRow, standIns := [], harness := (true, "755461f38ff4ccb8ded94ccefcaa4a51016cb0861f2919b9b28d193eb7c81255"), looks := false }, kinds := [], alts := [], laidByText := true, laidKinds := [.data, .data, .data], laidTests := true, laidLooks := .later }
def TopOnePlaceUptoCardSaid : Prop := Claim7.holds Tryz.pinned (.plain (OpenSpec.upto topOnePlaceSpec)) topOnePlaceUptoCard
end Rows
end Go.Proofs.YtpnjgmfkndbllaaGreatDoor
