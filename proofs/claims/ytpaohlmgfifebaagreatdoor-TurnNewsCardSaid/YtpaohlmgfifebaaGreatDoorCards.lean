/-
  DERIVED. GIVEN WITH THE SEED: THE CARDS: each row of YtpaohlmgfifebaaGreatDoorRows.lean that lists a variable, with what it lists TIED to the program's text (the seventh form; the later family's looks); each row that meets fmt, with fmt's text TOLD by the authors' own Lean function (tested against real Go, not proved from fmt's source: count such statements apart). THE CARD IS WHAT COUNTS. Prove the row's statement (the work); the ties are given (YtpaohlmgfifebaaGreatDoorTie.lean); close each card by the builder's one call (the guide's Derived/Test/ToyasCard.lean, 'card_holds'). Laid BY PROGRAM, IN A SANDBOX (cutbox-door.mjs). By AI agents, Wed Nov 11 2026. No macro, syntax, notation, axiom, sorry.
-/
import Derived.Test.YtpaohlmgfifebaaGreatDoorRows
import GoSem.ClaimSeven
namespace Go.Proofs.YtpaohlmgfifebaaGreatDoor
namespace Rows

/-- THE TIED CARD OF 'sphragislaw18.FaceWhole'. -/
def faceWholeCard : Claim7 := { stood := { row := faceWholeRow, standIns := [], harness := (true, "1d0861edcc90db2f6037716553301d5c5d58809fe9c89b7a07872eafb48b7f23"), looks := false }, kinds := [], alts := [], laidByText := true, laidKinds := [.data, .data, .data], laidTests := true, laidLooks := .later }
def FaceWholeCardSaid : Prop := Claim7.holds Tryz.pinned (.plain (OpenSpec.ofChange faceWholeSpec)) faceWholeCard

/-- THE TIED CARD OF 'sphragislaw18.FaceAlone'. -/
def faceAloneCard : Claim7 := { stood := { row := faceAloneRow, standIns := [], harness := (true, "1d0861edcc90db2f6037716553301d5c5d58809fe9c89b7a07872eafb48b7f23"), looks := false }, kinds := [], alts := [], laidByText := true, laidKinds := [.data, .data, .data], laidTests := true, laidLooks := .later }
def FaceAloneCardSaid : Prop := Claim7.holds Tryz.pinned (.plain (OpenSpec.ofChange faceAloneSpec)) faceAloneCard

/-- THE TIED CARD OF 'sphragislaw17.TurnNews'. -/
def turnNewsCard : Claim7 := { stood := { row := turnNewsRow, standIns := [], harness := (true, "1d0861edcc90db2f6037716553301d5c5d58809fe9c89b7a07872eafb48b7f23"), looks := false }, kinds := [], alts := [], laidByText := true, laidKinds := [.data, .data, .data], laidTests := true, laidLooks := .later }
def TurnNewsCardSaid : Prop := Claim7.holds Tryz.pinned (.plain (OpenSpec.ofChange turnNewsSpec)) turnNewsCard

/-- THE TIED CARD OF 'sphragislaw17.TurnNone'. -/
def turnNoneCard : Claim7 := { stood := { row := turnNoneRow, standIns := [], harness := (true, "1d0861edcc90db2f6037716553301d5c5d58809fe9c89b7a07872eafb48b7f23"), looks := false }, kinds := [], alts := [], laidByText := true, laidKinds := [.data, .data, .data], laidTests := true, laidLooks := .later }
def TurnNoneCardSaid : Prop := Claim7.holds Tryz.pinned (.plain (OpenSpec.ofChange turnNoneSpec)) turnNoneCard

/-- THE SECOND FORM's CARD OF 'sphragislaw18.FaceWhole'. -/
def faceWholeUptoCard : Claim7 := { stood := { row := faceWholeUptoRow, standIns := [], harness := (true, "1d0861edcc90db2f6037716553301d5c5d58809fe9c89b7a07872eafb48b7f23"), looks := false }, kinds := [], alts := [], laidByText := true, laidKinds := [.data, .data, .data], laidTests := true, laidLooks := .later }
def FaceWholeUptoCardSaid : Prop := Claim7.holds Tryz.pinned (.plain (OpenSpec.upto faceWholeSpec)) faceWholeUptoCard

/-- THE SECOND FORM's CARD OF 'sphragislaw18.FaceAlone'. -/
def faceAloneUptoCard : Claim7 := { stood := { row := faceAloneUptoRow, standIns := [], harness := (true, "1d0861edcc90db2f6037716553301d5c5d58809fe9c89b7a07872eafb48b7f23"), looks := false }, kinds := [], alts := [], laidByText := true, laidKinds := [.data, .data, .data], laidTests := true, laidLooks := .later }
def FaceAloneUptoCardSaid : Prop := Claim7.holds Tryz.pinned (.plain (OpenSpec.upto faceAloneSpec)) faceAloneUptoCard

/-- THE SECOND FORM's CARD OF 'sphragislaw17.TurnNews'. -/
def turnNewsUptoCard : Claim7 := { stood := { row := turnNewsUptoRow, standIns := [], harness := (true, "1d0861edcc90db2f6037716553301d5c5d58809fe9c89b7a07872eafb48b7f23"), looks := false }, kinds := [], alts := [], laidByText := true, laidKinds := [.data, .data, .data], laidTests := true, laidLooks := .later }
def TurnNewsUptoCardSaid : Prop := Claim7.holds Tryz.pinned (.plain (OpenSpec.upto turnNewsSpec)) turnNewsUptoCard

/-- THE SECOND FORM's CARD OF 'sphragislaw17.TurnNone'. -/
def turnNoneUptoCard : Claim7 := { stood := { row := turnNoneUptoRow, standIns := [], harness := (true, "1d0861edcc90db2f6037716553301d5c5d58809fe9c89b7a07872eafb48b7f23"), looks := false }, kinds := [], alts := [], laidByText := true, laidKinds := [.data, .data, .data], laidTests := true, laidLooks := .later }
def TurnNoneUptoCardSaid : Prop := Claim7.holds Tryz.pinned (.plain (OpenSpec.upto turnNoneSpec)) turnNoneUptoCard
end Rows
end Go.Proofs.YtpaohlmgfifebaaGreatDoor
