/-
  DERIVED. GIVEN WITH THE SEED: THE CARDS: each row of YtnpnmdbleopikaaDoorRows.lean that lists a variable, with what it lists TIED to the program's text (the seventh form; the later family's looks); each row that meets fmt, with fmt's text TOLD by the authors' own Lean function (tested against real Go, not proved from fmt's source: count such statements apart). THE CARD IS WHAT COUNTS. Prove the row's statement (the work); the ties are given (YtnpnmdbleopikaaDoorTie.lean); close each card by the builder's one call (the guide's Derived/Test/ToyasCard.lean, 'card_holds'). Laid BY PROGRAM, IN A SANDBOX (cutbox-door.mjs). By AI agents, Wed Nov 11 2026. No macro, syntax, notation, axiom, sorry.
-/
import Derived.Test.YtnpnmdbleopikaaDoorRows
import GoSem.ClaimSeven
namespace Go.Proofs.YtnpnmdbleopikaaDoor
namespace Rows

/-- THE TIED CARD OF 'sphragislaw06.SealHeads'. -/
def sealHeadsCard : Claim7 := { stood := { row := sealHeadsRow, standIns := [], harness := (true, "2acb227aaa5a44fc51366278b97b8e1d60178a74e26cf6b3f8ee0bcf7b22d278"), looks := false }, kinds := [], alts := [], laidByText := true, laidKinds := [.data, .data], laidTests := true, laidLooks := .later }
def SealHeadsCardSaid : Prop := Claim7.holds Tryd.pinned (.plain (OpenSpec.ofChange sealHeadsSpec)) sealHeadsCard

/-- THE TIED CARD OF 'sphragislaw06.SealSeals'. -/
def sealSealsCard : Claim7 := { stood := { row := sealSealsRow, standIns := [], harness := (true, "2acb227aaa5a44fc51366278b97b8e1d60178a74e26cf6b3f8ee0bcf7b22d278"), looks := false }, kinds := [], alts := [], laidByText := true, laidKinds := [.data, .data, .data], laidTests := true, laidLooks := .later }
def SealSealsCardSaid : Prop := Claim7.holds Tryd.pinned (.plain (OpenSpec.ofChange sealSealsSpec)) sealSealsCard

/-- THE TIED CARD OF 'sphragislaw06.SealOpens'. -/
def sealOpensCard : Claim7 := { stood := { row := sealOpensRow, standIns := [], harness := (true, "2acb227aaa5a44fc51366278b97b8e1d60178a74e26cf6b3f8ee0bcf7b22d278"), looks := false }, kinds := [], alts := [], laidByText := true, laidKinds := [.data, .data, .data], laidTests := true, laidLooks := .later }
def SealOpensCardSaid : Prop := Claim7.holds Tryd.pinned (.plain (OpenSpec.ofChange sealOpensSpec)) sealOpensCard

/-- THE TIED CARD OF 'sphragislaw06.SealBack'. -/
def sealBackCard : Claim7 := { stood := { row := sealBackRow, standIns := [], harness := (true, "2acb227aaa5a44fc51366278b97b8e1d60178a74e26cf6b3f8ee0bcf7b22d278"), looks := false }, kinds := [], alts := [], laidByText := true, laidKinds := [.data, .data], laidTests := true, laidLooks := .later }
def SealBackCardSaid : Prop := Claim7.holds Tryd.pinned (.plain (OpenSpec.ofChange sealBackSpec)) sealBackCard

/-- THE TIED CARD OF 'sphragislaw06.SealSame'. -/
def sealSameCard : Claim7 := { stood := { row := sealSameRow, standIns := [], harness := (true, "2acb227aaa5a44fc51366278b97b8e1d60178a74e26cf6b3f8ee0bcf7b22d278"), looks := false }, kinds := [], alts := [], laidByText := true, laidKinds := [.data, .data], laidTests := true, laidLooks := .later }
def SealSameCardSaid : Prop := Claim7.holds Tryd.pinned (.plain (OpenSpec.ofChange sealSameSpec)) sealSameCard

/-- THE TIED CARD OF 'sphragislaw06.SealTurns'. -/
def sealTurnsCard : Claim7 := { stood := { row := sealTurnsRow, standIns := [], harness := (true, "2acb227aaa5a44fc51366278b97b8e1d60178a74e26cf6b3f8ee0bcf7b22d278"), looks := false }, kinds := [], alts := [], laidByText := true, laidKinds := [.data, .data], laidTests := true, laidLooks := .later }
def SealTurnsCardSaid : Prop := Claim7.holds Tryd.pinned (.plain (OpenSpec.ofChange sealTurnsSpec)) sealTurnsCard

/-- THE TIED CARD OF 'sphragislaw06.SealRings'. -/
def sealRingsCard : Claim7 := { stood := { row := sealRingsRow, standIns := [], harness := (true, "2acb227aaa5a44fc51366278b97b8e1d60178a74e26cf6b3f8ee0bcf7b22d278"), looks := false }, kinds := [], alts := [], laidByText := true, laidKinds := [.data, .data], laidTests := true, laidLooks := .later }
def SealRingsCardSaid : Prop := Claim7.holds Tryd.pinned (.plain (OpenSpec.ofChange sealRingsSpec)) sealRingsCard

/-- THE SECOND FORM's CARD OF 'sphragislaw06.SealHeads'. -/
def sealHeadsUptoCard : Claim7 := { stood := { row := sealHeadsUptoRow, standIns := [], harness := (true, "2acb227aaa5a44fc51366278b97b8e1d60178a74e26cf6b3f8ee0bcf7b22d278"), looks := false }, kinds := [], alts := [], laidByText := true, laidKinds := [.data, .data], laidTests := true, laidLooks := .later }
def SealHeadsUptoCardSaid : Prop := Claim7.holds Tryd.pinned (.plain (OpenSpec.upto sealHeadsSpec)) sealHeadsUptoCard

/-- THE SECOND FORM's CARD OF 'sphragislaw06.SealSeals'. -/
def sealSealsUptoCard : Claim7 := { stood := { row := sealSealsUptoRow, standIns := [], harness := (true, "2acb227aaa5a44fc51366278b97b8e1d60178a74e26cf6b3f8ee0bcf7b22d278"), looks := false }, kinds := [], alts := [], laidByText := true, laidKinds := [.data, .data, .data], laidTests := true, laidLooks := .later }
def SealSealsUptoCardSaid : Prop := Claim7.holds Tryd.pinned (.plain (OpenSpec.upto sealSealsSpec)) sealSealsUptoCard

/-- THE SECOND FORM's CARD OF 'sphragislaw06.SealOpens'. -/
def sealOpensUptoCard : Claim7 := { stood := { row := sealOpensUptoRow, standIns := [], harness := (true, "2acb227aaa5a44fc51366278b97b8e1d60178a74e26cf6b3f8ee0bcf7b22d278"), looks := false }, kinds := [], alts := [], laidByText := true, laidKinds := [.data, .data, .data], laidTests := true, laidLooks := .later }
def SealOpensUptoCardSaid : Prop := Claim7.holds Tryd.pinned (.plain (OpenSpec.upto sealOpensSpec)) sealOpensUptoCard

/-- THE SECOND FORM's CARD OF 'sphragislaw06.SealBack'. -/
def sealBackUptoCard : Claim7 := { stood := { row := sealBackUptoRow, standIns := [], harness := (true, "2acb227aaa5a44fc51366278b97b8e1d60178a74e26cf6b3f8ee0bcf7b22d278"), looks := false }, kinds := [], alts := [], laidByText := true, laidKinds := [.data, .data], laidTests := true, laidLooks := .later }
def SealBackUptoCardSaid : Prop := Claim7.holds Tryd.pinned (.plain (OpenSpec.upto sealBackSpec)) sealBackUptoCard

/-- THE SECOND FORM's CARD OF 'sphragislaw06.SealSame'. -/
def sealSameUptoCard : Claim7 := { stood := { row := sealSameUptoRow, standIns := [], harness := (true, "2acb227aaa5a44fc51366278b97b8e1d60178a74e26cf6b3f8ee0bcf7b22d278"), looks := false }, kinds := [], alts := [], laidByText := true, laidKinds := [.data, .data], laidTests := true, laidLooks := .later }
def SealSameUptoCardSaid : Prop := Claim7.holds Tryd.pinned (.plain (OpenSpec.upto sealSameSpec)) sealSameUptoCard

/-- THE SECOND FORM's CARD OF 'sphragislaw06.SealTurns'. -/
def sealTurnsUptoCard : Claim7 := { stood := { row := sealTurnsUptoRow, standIns := [], harness := (true, "2acb227aaa5a44fc51366278b97b8e1d60178a74e26cf6b3f8ee0bcf7b22d278"), looks := false }, kinds := [], alts := [], laidByText := true, laidKinds := [.data, .data], laidTests := true, laidLooks := .later }
def SealTurnsUptoCardSaid : Prop := Claim7.holds Tryd.pinned (.plain (OpenSpec.upto sealTurnsSpec)) sealTurnsUptoCard

/-- THE SECOND FORM's CARD OF 'sphragislaw06.SealRings'. -/
def sealRingsUptoCard : Claim7 := { stood := { row := sealRingsUptoRow, standIns := [], harness := (true, "2acb227aaa5a44fc51366278b97b8e1d60178a74e26cf6b3f8ee0bcf7b22d278"), looks := false }, kinds := [], alts := [], laidByText := true, laidKinds := [.data, .data], laidTests := true, laidLooks := .later }
def SealRingsUptoCardSaid : Prop := Claim7.holds Tryd.pinned (.plain (OpenSpec.upto sealRingsSpec)) sealRingsUptoCard
end Rows
end Go.Proofs.YtnpnmdbleopikaaDoor
