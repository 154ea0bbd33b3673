/-
  DERIVED. GIVEN WITH THE SEED: THE CARDS: each row of YtddjneafgddlcaaDoorRows.lean that lists a variable, with what it lists TIED to the program's text (the seventh form; the later family's looks); each row that meets fmt, with fmt's text TOLD by the authors' own Lean function (tested against real Go, not proved from fmt's source: count such statements apart). THE CARD IS WHAT COUNTS. Prove the row's statement (the work); the ties are given (YtddjneafgddlcaaDoorTie.lean); close each card by the builder's one call (the guide's Derived/Test/ToyasCard.lean, 'card_holds'). Laid BY PROGRAM, IN A SANDBOX (cutbox-door.mjs). By AI agents, Wed Nov 11 2026. No macro, syntax, notation, axiom, sorry.
-/
import Derived.Test.YtddjneafgddlcaaDoorRows
import GoSem.ClaimSeven
namespace Go.Proofs.YtddjneafgddlcaaDoor
namespace Rows

/-- THE TIED CARD OF 'sphragislaw13.VaultNews'. -/
def vaultNewsCard : Claim7 := { stood := { row := vaultNewsRow, standIns := [], harness := (true, "2402e697f125dc0e38378386e07f544ca281aa529eb0a4560a960bea975ac348"), looks := false }, kinds := [], alts := [], laidByText := true, laidKinds := [.data, .data], laidTests := true, laidLooks := .later }
def VaultNewsCardSaid : Prop := Claim7.holds Tryd.pinned (.plain (OpenSpec.ofChange vaultNewsSpec)) vaultNewsCard

/-- THE TIED CARD OF 'sphragislaw13.VaultMoves'. -/
def vaultMovesCard : Claim7 := { stood := { row := vaultMovesRow, standIns := [], harness := (true, "2402e697f125dc0e38378386e07f544ca281aa529eb0a4560a960bea975ac348"), looks := false }, kinds := [], alts := [], laidByText := true, laidKinds := [.data, .data], laidTests := true, laidLooks := .later }
def VaultMovesCardSaid : Prop := Claim7.holds Tryd.pinned (.plain (OpenSpec.ofChange vaultMovesSpec)) vaultMovesCard

/-- THE TIED CARD OF 'sphragislaw13.VaultNumbers'. -/
def vaultNumbersCard : Claim7 := { stood := { row := vaultNumbersRow, standIns := [], harness := (true, "2402e697f125dc0e38378386e07f544ca281aa529eb0a4560a960bea975ac348"), looks := false }, kinds := [], alts := [], laidByText := true, laidKinds := [.data, .data], laidTests := true, laidLooks := .later }
def VaultNumbersCardSaid : Prop := Claim7.holds Tryd.pinned (.plain (OpenSpec.ofChange vaultNumbersSpec)) vaultNumbersCard

/-- THE TIED CARD OF 'sphragislaw13.VaultKeeps'. -/
def vaultKeepsCard : Claim7 := { stood := { row := vaultKeepsRow, standIns := [], harness := (true, "2402e697f125dc0e38378386e07f544ca281aa529eb0a4560a960bea975ac348"), looks := false }, kinds := [], alts := [], laidByText := true, laidKinds := [.data, .data], laidTests := true, laidLooks := .later }
def VaultKeepsCardSaid : Prop := Claim7.holds Tryd.pinned (.plain (OpenSpec.ofChange vaultKeepsSpec)) vaultKeepsCard

/-- THE TIED CARD OF 'sphragislaw13.VaultTurns'. -/
def vaultTurnsCard : Claim7 := { stood := { row := vaultTurnsRow, standIns := [], harness := (true, "2402e697f125dc0e38378386e07f544ca281aa529eb0a4560a960bea975ac348"), looks := false }, kinds := [], alts := [], laidByText := true, laidKinds := [.data, .data], laidTests := true, laidLooks := .later }
def VaultTurnsCardSaid : Prop := Claim7.holds Tryd.pinned (.plain (OpenSpec.ofChange vaultTurnsSpec)) vaultTurnsCard

/-- THE TIED CARD OF 'sphragislaw13.VaultNone'. -/
def vaultNoneCard : Claim7 := { stood := { row := vaultNoneRow, standIns := [], harness := (true, "2402e697f125dc0e38378386e07f544ca281aa529eb0a4560a960bea975ac348"), looks := false }, kinds := [], alts := [], laidByText := true, laidKinds := [.data, .data], laidTests := true, laidLooks := .later }
def VaultNoneCardSaid : Prop := Claim7.holds Tryd.pinned (.plain (OpenSpec.ofChange vaultNoneSpec)) vaultNoneCard

/-- THE SECOND FORM's CARD OF 'sphragislaw13.VaultNews'. -/
def vaultNewsUptoCard : Claim7 := { stood := { row := vaultNewsUptoRow, standIns := [], harness := (true, "2402e697f125dc0e38378386e07f544ca281aa529eb0a4560a960bea975ac348"), looks := false }, kinds := [], alts := [], laidByText := true, laidKinds := [.data, .data], laidTests := true, laidLooks := .later }
def VaultNewsUptoCardSaid : Prop := Claim7.holds Tryd.pinned (.plain (OpenSpec.upto vaultNewsSpec)) vaultNewsUptoCard

/-- THE SECOND FORM's CARD OF 'sphragislaw13.VaultMoves'. -/
def vaultMovesUptoCard : Claim7 := { stood := { row := vaultMovesUptoRow, standIns := [], harness := (true, "2402e697f125dc0e38378386e07f544ca281aa529eb0a4560a960bea975ac348"), looks := false }, kinds := [], alts := [], laidByText := true, laidKinds := [.data, .data], laidTests := true, laidLooks := .later }
def VaultMovesUptoCardSaid : Prop := Claim7.holds Tryd.pinned (.plain (OpenSpec.upto vaultMovesSpec)) vaultMovesUptoCard

/-- THE SECOND FORM's CARD OF 'sphragislaw13.VaultNumbers'. -/
def vaultNumbersUptoCard : Claim7 := { stood := { row := vaultNumbersUptoRow, standIns := [], harness := (true, "2402e697f125dc0e38378386e07f544ca281aa529eb0a4560a960bea975ac348"), looks := false }, kinds := [], alts := [], laidByText := true, laidKinds := [.data, .data], laidTests := true, laidLooks := .later }
def VaultNumbersUptoCardSaid : Prop := Claim7.holds Tryd.pinned (.plain (OpenSpec.upto vaultNumbersSpec)) vaultNumbersUptoCard

/-- THE SECOND FORM's CARD OF 'sphragislaw13.VaultKeeps'. -/
def vaultKeepsUptoCard : Claim7 := { stood := { row := vaultKeepsUptoRow, standIns := [], harness := (true, "2402e697f125dc0e38378386e07f544ca281aa529eb0a4560a960bea975ac348"), looks := false }, kinds := [], alts := [], laidByText := true, laidKinds := [.data, .data], laidTests := true, laidLooks := .later }
def VaultKeepsUptoCardSaid : Prop := Claim7.holds Tryd.pinned (.plain (OpenSpec.upto vaultKeepsSpec)) vaultKeepsUptoCard

/-- THE SECOND FORM's CARD OF 'sphragislaw13.VaultTurns'. -/
def vaultTurnsUptoCard : Claim7 := { stood := { row := vaultTurnsUptoRow, standIns := [], harness := (true, "2402e697f125dc0e38378386e07f544ca281aa529eb0a4560a960bea975ac348"), looks := false }, kinds := [], alts := [], laidByText := true, laidKinds := [.data, .data], laidTests := true, laidLooks := .later }
def VaultTurnsUptoCardSaid : Prop := Claim7.holds Tryd.pinned (.plain (OpenSpec.upto vaultTurnsSpec)) vaultTurnsUptoCard

/-- THE SECOND FORM's CARD OF 'sphragislaw13.VaultNone'. -/
def vaultNoneUptoCard : Claim7 := { stood := { row := vaultNoneUptoRow, standIns := [], harness := (true, "2402e697f125dc0e38378386e07f544ca281aa529eb0a4560a960bea975ac348"), looks := false }, kinds := [], alts := [], laidByText := true, laidKinds := [.data, .data], laidTests := true, laidLooks := .later }
def VaultNoneUptoCardSaid : Prop := Claim7.holds Tryd.pinned (.plain (OpenSpec.upto vaultNoneSpec)) vaultNoneUptoCard
end Rows
end Go.Proofs.YtddjneafgddlcaaDoor
