/-
  DERIVED. GIVEN WITH THE SEED: THE CARDS: each row of YtjkhnhichalenaaGreatDoorRows.lean that lists a variable, with what it lists TIED to the program's text (the seventh form; the later family's looks); each row that meets fmt, with fmt's text TOLD by the authors' own Lean function (tested against real Go, not proved from fmt's source: count such statements apart). THE CARD IS WHAT COUNTS. Prove the row's statement (the work); the ties are given (YtjkhnhichalenaaGreatDoorTie.lean); close each card by the builder's one call (the guide's Derived/Test/ToyasCard.lean, 'card_holds'). Laid BY PROGRAM, IN A SANDBOX (cutbox-door.mjs). By AI agents, Wed Nov 11 2026. No macro, syntax, notation, axiom, sorry.
-/
import Derived.Test.YtjkhnhichalenaaGreatDoorRows
import GoSem.ClaimSeven
namespace Go.Proofs.YtjkhnhichalenaaGreatDoor
namespace Rows

/-- THE TIED CARD OF 'sphragislaw18.FaceFull'. -/
def faceFullCard : Claim7 := { stood := { row := faceFullRow, standIns := [], harness := (true, "18043fb141bfc7ac6b1492d230ab3848bb52539a0ef145a4a3e43af1c3af2d4f"), looks := false }, kinds := [], alts := [], laidByText := true, laidKinds := [.data, .data, .data], laidTests := true, laidLooks := .later }
def FaceFullCardSaid : Prop := Claim7.holds Tryz.pinned (.plain (OpenSpec.ofChange faceFullSpec)) faceFullCard

/-- THE TIED CARD OF 'sphragislaw18.FaceAborts'. -/
def faceAbortsCard : Claim7 := { stood := { row := faceAbortsRow, standIns := [], harness := (true, "18043fb141bfc7ac6b1492d230ab3848bb52539a0ef145a4a3e43af1c3af2d4f"), looks := false }, kinds := [], alts := [], laidByText := true, laidKinds := [.data, .data, .data], laidTests := true, laidLooks := .later }
def FaceAbortsCardSaid : Prop := Claim7.holds Tryz.pinned (.plain (OpenSpec.ofChange faceAbortsSpec)) faceAbortsCard

/-- THE TIED CARD OF 'sphragislaw18.FaceNone'. -/
def faceNoneCard : Claim7 := { stood := { row := faceNoneRow, standIns := [], harness := (true, "18043fb141bfc7ac6b1492d230ab3848bb52539a0ef145a4a3e43af1c3af2d4f"), looks := false }, kinds := [], alts := [], laidByText := true, laidKinds := [.data, .data, .data], laidTests := true, laidLooks := .later }
def FaceNoneCardSaid : Prop := Claim7.holds Tryz.pinned (.plain (OpenSpec.ofChange faceNoneSpec)) faceNoneCard

/-- THE SECOND FORM's CARD OF 'sphragislaw18.FaceFull'. -/
def faceFullUptoCard : Claim7 := { stood := { row := faceFullUptoRow, standIns := [], harness := (true, "18043fb141bfc7ac6b1492d230ab3848bb52539a0ef145a4a3e43af1c3af2d4f"), looks := false }, kinds := [], alts := [], laidByText := true, laidKinds := [.data, .data, .data], laidTests := true, laidLooks := .later }
def FaceFullUptoCardSaid : Prop := Claim7.holds Tryz.pinned (.plain (OpenSpec.upto faceFullSpec)) faceFullUptoCard

/-- THE SECOND FORM's CARD OF 'sphragislaw18.FaceAborts'. -/
def faceAbortsUptoCard : Claim7 := { stood := { row := faceAbortsUptoRow, standIns := [], harness := (true, "18043fb141bfc7ac6b1492d230ab3848bb52539a0ef145a4a3e43af1c3af2d4f"), looks := false }, kinds := [], alts := [], laidByText := true, laidKinds := [.data, .data, .data], laidTests := true, laidLooks := .later }
def FaceAbortsUptoCardSaid : Prop := Claim7.holds Tryz.pinned (.plain (OpenSpec.upto faceAbortsSpec)) faceAbortsUptoCard

/-- THE SECOND FORM's CARD OF 'sphragislaw18.FaceNone'. -/
def faceNoneUptoCard : Claim7 := { stood := { row := faceNoneUptoRow, standIns := [], harness := (true, "18043fb141bfc7ac6b1492d230ab3848bb52539a0ef145a4a3e43af1c3af2d4f"), looks := false }, kinds := [], alts := [], laidByText := true, laidKinds := [.data, .data, .data], laidTests := true, laidLooks := .later }
def FaceNoneUptoCardSaid : Prop := Claim7.holds Tryz.pinned (.plain (OpenSpec.upto faceNoneSpec)) faceNoneUptoCard
end Rows
end Go.Proofs.YtjkhnhichalenaaGreatDoor
