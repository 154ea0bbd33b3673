/-
  DERIVED. GIVEN WITH THE SEED: THE CARDS: each row of YtkibffdipniemaaGreatDoorRows.lean that lists a variable, with what it lists TIED to the program's text (the seventh form; the later family's looks); each row that meets fmt, with fmt's text TOLD by the authors' own Lean function (tested against real Go, not proved from fmt's source: count such statements apart). THE CARD IS WHAT COUNTS. Prove the row's statement (the work); the ties are given (YtkibffdipniemaaGreatDoorTie.lean); close each card by the builder's one call (the guide's Derived/Test/ToyasCard.lean, 'card_holds'). Laid BY PROGRAM, IN A SANDBOX (cutbox-door.mjs). By AI agents, Wed Nov 11 2026. No macro, syntax, notation, axiom, sorry.
-/
import Derived.Test.YtkibffdipniemaaGreatDoorRows
import GoSem.ClaimSeven
namespace Go.Proofs.YtkibffdipniemaaGreatDoor
namespace Rows

/-- THE TIED CARD OF 'sphragislaw14.GroveOdd'. -/
def groveOddCard : Claim7 := { stood := { row := groveOddRow, standIns := [], harness := (true, "8dbdd2a11275097ff30bcd89a8e46f865ea55f1d4e3d845721285b6f579db3db"), looks := false }, kinds := [], alts := [], laidByText := true, laidKinds := [.data, .data, .data], laidTests := true, laidLooks := .later }
def GroveOddCardSaid : Prop := Claim7.holds Tryz.pinned (.plain (OpenSpec.ofChange groveOddSpec)) groveOddCard

/-- THE TIED CARD OF 'sphragislaw14.GroveBack'. -/
def groveBackCard : Claim7 := { stood := { row := groveBackRow, standIns := [], harness := (true, "8dbdd2a11275097ff30bcd89a8e46f865ea55f1d4e3d845721285b6f579db3db"), looks := false }, kinds := [], alts := [], laidByText := true, laidKinds := [.data, .data], laidTests := true, laidLooks := .later }
def GroveBackCardSaid : Prop := Claim7.holds Tryz.pinned (.plain (OpenSpec.ofChange groveBackSpec)) groveBackCard

/-- THE TIED CARD OF 'sphragislaw14.GroveAgain'. -/
def groveAgainCard : Claim7 := { stood := { row := groveAgainRow, standIns := [], harness := (true, "8dbdd2a11275097ff30bcd89a8e46f865ea55f1d4e3d845721285b6f579db3db"), looks := false }, kinds := [], alts := [], laidByText := true, laidKinds := [.data, .data], laidTests := true, laidLooks := .later }
def GroveAgainCardSaid : Prop := Claim7.holds Tryz.pinned (.plain (OpenSpec.ofChange groveAgainSpec)) groveAgainCard

/-- THE TIED CARD OF 'sphragislaw14.GroveNone'. -/
def groveNoneCard : Claim7 := { stood := { row := groveNoneRow, standIns := [], harness := (true, "8dbdd2a11275097ff30bcd89a8e46f865ea55f1d4e3d845721285b6f579db3db"), looks := false }, kinds := [], alts := [], laidByText := true, laidKinds := [.data, .data], laidTests := true, laidLooks := .later }
def GroveNoneCardSaid : Prop := Claim7.holds Tryz.pinned (.plain (OpenSpec.ofChange groveNoneSpec)) groveNoneCard

/-- THE TIED CARD OF 'sphragislaw14.GroveFull'. -/
def groveFullCard : Claim7 := { stood := { row := groveFullRow, standIns := [], harness := (true, "8dbdd2a11275097ff30bcd89a8e46f865ea55f1d4e3d845721285b6f579db3db"), looks := false }, kinds := [], alts := [], laidByText := true, laidKinds := [.data, .data], laidTests := true, laidLooks := .later }
def GroveFullCardSaid : Prop := Claim7.holds Tryz.pinned (.plain (OpenSpec.ofChange groveFullSpec)) groveFullCard

/-- THE TIED CARD OF 'sphragislaw14.GroveFew'. -/
def groveFewCard : Claim7 := { stood := { row := groveFewRow, standIns := [], harness := (true, "8dbdd2a11275097ff30bcd89a8e46f865ea55f1d4e3d845721285b6f579db3db"), looks := false }, kinds := [], alts := [], laidByText := true, laidKinds := [.data, .data], laidTests := true, laidLooks := .later }
def GroveFewCardSaid : Prop := Claim7.holds Tryz.pinned (.plain (OpenSpec.ofChange groveFewSpec)) groveFewCard

/-- THE TIED CARD OF 'sphragislaw14.GroveSaves'. -/
def groveSavesCard : Claim7 := { stood := { row := groveSavesRow, standIns := [], harness := (true, "8dbdd2a11275097ff30bcd89a8e46f865ea55f1d4e3d845721285b6f579db3db"), looks := false }, kinds := [], alts := [], laidByText := true, laidKinds := [.data, .data, .data], laidTests := true, laidLooks := .later }
def GroveSavesCardSaid : Prop := Claim7.holds Tryz.pinned (.plain (OpenSpec.ofChange groveSavesSpec)) groveSavesCard

/-- THE TIED CARD OF 'sphragislaw14.GroveLoads'. -/
def groveLoadsCard : Claim7 := { stood := { row := groveLoadsRow, standIns := [], harness := (true, "8dbdd2a11275097ff30bcd89a8e46f865ea55f1d4e3d845721285b6f579db3db"), looks := false }, kinds := [], alts := [], laidByText := true, laidKinds := [.data, .data, .data], laidTests := true, laidLooks := .later }
def GroveLoadsCardSaid : Prop := Claim7.holds Tryz.pinned (.plain (OpenSpec.ofChange groveLoadsSpec)) groveLoadsCard

/-- THE SECOND FORM's CARD OF 'sphragislaw14.GroveOdd'. -/
def groveOddUptoCard : Claim7 := { stood := { row := groveOddUptoRow, standIns := [], harness := (true, "8dbdd2a11275097ff30bcd89a8e46f865ea55f1d4e3d845721285b6f579db3db"), looks := false }, kinds := [], alts := [], laidByText := true, laidKinds := [.data, .data, .data], laidTests := true, laidLooks := .later }
def GroveOddUptoCardSaid : Prop := Claim7.holds Tryz.pinned (.plain (OpenSpec.upto groveOddSpec)) groveOddUptoCard

/-- THE SECOND FORM's CARD OF 'sphragislaw14.GroveBack'. -/
def groveBackUptoCard : Claim7 := { stood := { row := groveBackUptoRow, standIns := [], harness := (true, "8dbdd2a11275097ff30bcd89a8e46f865ea55f1d4e3d845721285b6f579db3db"), looks := false }, kinds := [], alts := [], laidByText := true, laidKinds := [.data, .data], laidTests := true, laidLooks := .later }
def GroveBackUptoCardSaid : Prop := Claim7.holds Tryz.pinned (.plain (OpenSpec.upto groveBackSpec)) groveBackUptoCard

/-- THE SECOND FORM's CARD OF 'sphragislaw14.GroveAgain'. -/
def groveAgainUptoCard : Claim7 := { stood := { row := groveAgainUptoRow, standIns := [], harness := (true, "8dbdd2a11275097ff30bcd89a8e46f865ea55f1d4e3d845721285b6f579db3db"), looks := false }, kinds := [], alts := [], laidByText := true, laidKinds := [.data, .data], laidTests := true, laidLooks := .later }
def GroveAgainUptoCardSaid : Prop := Claim7.holds Tryz.pinned (.plain (OpenSpec.upto groveAgainSpec)) groveAgainUptoCard

/-- THE SECOND FORM's CARD OF 'sphragislaw14.GroveNone'. -/
def groveNoneUptoCard : Claim7 := { stood := { row := groveNoneUptoRow, standIns := [], harness := (true, "8dbdd2a11275097ff30bcd89a8e46f865ea55f1d4e3d845721285b6f579db3db"), looks := false }, kinds := [], alts := [], laidByText := true, laidKinds := [.data, .data], laidTests := true, laidLooks := .later }
def GroveNoneUptoCardSaid : Prop := Claim7.holds Tryz.pinned (.plain (OpenSpec.upto groveNoneSpec)) groveNoneUptoCard

/-- THE SECOND FORM's CARD OF 'sphragislaw14.GroveFull'. -/
def groveFullUptoCard : Claim7 := { stood := { row := groveFullUptoRow, standIns := [], harness := (true, "8dbdd2a11275097ff30bcd89a8e46f865ea55f1d4e3d845721285b6f579db3db"), looks := false }, kinds := [], alts := [], laidByText := true, laidKinds := [.data, .data], laidTests := true, laidLooks := .later }
def GroveFullUptoCardSaid : Prop := Claim7.holds Tryz.pinned (.plain (OpenSpec.upto groveFullSpec)) groveFullUptoCard

/-- THE SECOND FORM's CARD OF 'sphragislaw14.GroveFew'. -/
def groveFewUptoCard : Claim7 := { stood := { row := groveFewUptoRow, standIns := [], harness := (true, "8dbdd2a11275097ff30bcd89a8e46f865ea55f1d4e3d845721285b6f579db3db"), looks := false }, kinds := [], alts := [], laidByText := true, laidKinds := [.data, .data], laidTests := true, laidLooks := .later }
def GroveFewUptoCardSaid : Prop := Claim7.holds Tryz.pinned (.plain (OpenSpec.upto groveFewSpec)) groveFewUptoCard

/-- THE SECOND FORM's CARD OF 'sphragislaw14.GroveSaves'. -/
def groveSavesUptoCard : Claim7 := { stood := { row := groveSavesUptoRow, standIns := [], harness := (true, "8dbdd2a11275097ff30bcd89a8e46f865ea55f1d4e3d845721285b6f579db3db"), looks := false }, kinds := [], alts := [], laidByText := true, laidKinds := [.data, .data, .data], laidTests := true, laidLooks := .later }
def GroveSavesUptoCardSaid : Prop := Claim7.holds Tryz.pinned (.plain (OpenSpec.upto groveSavesSpec)) groveSavesUptoCard

/-- THE SECOND FORM's CARD OF 'sphragislaw14.GroveLoads'. -/
def groveLoadsUptoCard : Claim7 := { stood := { row := groveLoadsUptoRow, standIns := [], harness := (true, "8dbdd2a11275097ff30bcd89a8e46f865ea55f1d4e3d845721285b6f579db3db"), looks := false }, kinds := [], alts := [], laidByText := true, laidKinds := [.data, .data, .data], laidTests := true, laidLooks := .later }
def GroveLoadsUptoCardSaid : Prop := Claim7.holds Tryz.pinned (.plain (OpenSpec.upto groveLoadsSpec)) groveLoadsUptoCard
end Rows
end Go.Proofs.YtkibffdipniemaaGreatDoor
