/-
  No cell of these rows narrows 'for every input' (looked for: loops, veiled, ifaces, maps, wideKeys, modest, calm, conditions, laid).
  DERIVED. THE GIVEN ROWS OF THIS SEAT. 7 by the template 'for every input the law returns true; each argument reads behind the call as it read before'; 0 by the template 'total and deterministic' (their statements: YtmnmepaopodblaaTotals.lean).
  GIVEN WITH THE SEED: the statements are not yours to turn. If you find one false, say at which input.
  Laid BY PROGRAM, IN A SANDBOX (cutbox-rows.mjs): the forced cells as the released guide's own fill.sh prints them over the translation 99e9af1f1648bd0f… (all of the seat's roots in one cut). By AI agents, Wed Nov 11 2026. No macro, syntax, notation, axiom, sorry.
-/
import Derived.Test.YtmnmepaopodblaaChecked
import GoSem.Claim
import GoSem.ClaimJoined
import GoSem.ClaimMapViews
import Derived.JoinedTies
import Derived.KernelRfl
namespace Go.Proofs.Ytmnmepaopodblaa
/- THE CELL 'sum', in the pinned program and in every row, IS THE sha256 OF THE DUMP (.gsa) THAT YtmnmepaopodblaaProg.lean LOADS. Nothing in Lean hashes anything: it is a label: what it is worth is what the hold of that sum in a sandbox is worth. -/
noncomputable def Try.pinned : Pinned := { name := "ytmnmepaopodblaa", sum := "99e9af1f1648bd0fd239ce0049d239717f07e19ff9eda621c38fdb5824876107", checked := Try.checked }
namespace Rows
def none {H : Type} : Left H := { results := [], args := [] }

/-- 'sphragislaw07.DeviceKeeps': WHATEVER THE INPUT: true; the input reads as it did. -/
def deviceKeepsSpec : ChangeSpec := { name := "deviceKeeps", fn := fun _ => fun
  | [d1, d2, d3] => { results := [.lit (.bool true)], args := [d1, d2, d3] }
  | _ => none }
def deviceKeepsRow : OpenClaim := { program := "ytmnmepaopodblaa", sum := "99e9af1f1648bd0fd239ce0049d239717f07e19ff9eda621c38fdb5824876107", func := "sphragis/sphragislaw07.DeviceKeeps", spec := "deviceKeeps", inPlace := ["internal/abi.NoEscape", "internal/bytealg.MakeNoZero"], unfollowed := true, recurses := true, apart := false }
def DeviceKeepsSaid : Prop := deviceKeepsRow.holds Try.pinned (OpenSpec.ofChange deviceKeepsSpec)

/-- ITS FALSE NEIGHBOUR: 'it returns false'. Refute it at one input. -/
def deviceKeepsWrong : ChangeSpec := { name := "deviceKeeps", fn := fun _ => fun
  | [d1, d2, d3] => { results := [.lit (.bool false)], args := [d1, d2, d3] }
  | _ => none }
def DeviceKeepsWrongFalsely : Prop := deviceKeepsRow.holds Try.pinned (OpenSpec.ofChange deviceKeepsWrong)

/-- 'sphragislaw07.DeviceCuts': WHATEVER THE INPUT: true; the input reads as it did. -/
def deviceCutsSpec : ChangeSpec := { name := "deviceCuts", fn := fun _ => fun
  | [d1, d2] => { results := [.lit (.bool true)], args := [d1, d2] }
  | _ => none }
def deviceCutsRow : OpenClaim := { program := "ytmnmepaopodblaa", sum := "99e9af1f1648bd0fd239ce0049d239717f07e19ff9eda621c38fdb5824876107", func := "sphragis/sphragislaw07.DeviceCuts", spec := "deviceCuts", inPlace := ["internal/abi.NoEscape", "internal/bytealg.MakeNoZero"], unfollowed := true, recurses := true, apart := false }
def DeviceCutsSaid : Prop := deviceCutsRow.holds Try.pinned (OpenSpec.ofChange deviceCutsSpec)

/-- ITS FALSE NEIGHBOUR: 'it returns false'. Refute it at one input. -/
def deviceCutsWrong : ChangeSpec := { name := "deviceCuts", fn := fun _ => fun
  | [d1, d2] => { results := [.lit (.bool false)], args := [d1, d2] }
  | _ => none }
def DeviceCutsWrongFalsely : Prop := deviceCutsRow.holds Try.pinned (OpenSpec.ofChange deviceCutsWrong)

/-- 'sphragislaw07.DeviceParts': WHATEVER THE INPUT: true; the input reads as it did. -/
def devicePartsSpec : ChangeSpec := { name := "deviceParts", fn := fun _ => fun
  | [d1, d2, d3] => { results := [.lit (.bool true)], args := [d1, d2, d3] }
  | _ => none }
def devicePartsRow : OpenClaim := { program := "ytmnmepaopodblaa", sum := "99e9af1f1648bd0fd239ce0049d239717f07e19ff9eda621c38fdb5824876107", func := "sphragis/sphragislaw07.DeviceParts", spec := "deviceParts", inPlace := ["internal/abi.NoEscape", "internal/bytealg.MakeNoZero"], unfollowed := true, recurses := true, apart := false }
def DevicePartsSaid : Prop := devicePartsRow.holds Try.pinned (OpenSpec.ofChange devicePartsSpec)

/-- ITS FALSE NEIGHBOUR: 'it returns false'. Refute it at one input. -/
def devicePartsWrong : ChangeSpec := { name := "deviceParts", fn := fun _ => fun
  | [d1, d2, d3] => { results := [.lit (.bool false)], args := [d1, d2, d3] }
  | _ => none }
def DevicePartsWrongFalsely : Prop := devicePartsRow.holds Try.pinned (OpenSpec.ofChange devicePartsWrong)

/-- 'sphragislaw07.DeviceBad': WHATEVER THE INPUT: true; the input reads as it did. -/
def deviceBadSpec : ChangeSpec := { name := "deviceBad", fn := fun _ => fun
  | [d1, d2] => { results := [.lit (.bool true)], args := [d1, d2] }
  | _ => none }
def deviceBadRow : OpenClaim := { program := "ytmnmepaopodblaa", sum := "99e9af1f1648bd0fd239ce0049d239717f07e19ff9eda621c38fdb5824876107", func := "sphragis/sphragislaw07.DeviceBad", spec := "deviceBad", inPlace := ["internal/abi.NoEscape", "internal/bytealg.MakeNoZero"], unfollowed := true, recurses := true, apart := false }
def DeviceBadSaid : Prop := deviceBadRow.holds Try.pinned (OpenSpec.ofChange deviceBadSpec)

/-- ITS FALSE NEIGHBOUR: 'it returns false'. Refute it at one input. -/
def deviceBadWrong : ChangeSpec := { name := "deviceBad", fn := fun _ => fun
  | [d1, d2] => { results := [.lit (.bool false)], args := [d1, d2] }
  | _ => none }
def DeviceBadWrongFalsely : Prop := deviceBadRow.holds Try.pinned (OpenSpec.ofChange deviceBadWrong)

/-- 'sphragislaw07.DeviceCounts': WHATEVER THE INPUT: true; the input reads as it did. -/
def deviceCountsSpec : ChangeSpec := { name := "deviceCounts", fn := fun _ => fun
  | [d] => { results := [.lit (.bool true)], args := [d] }
  | _ => none }
def deviceCountsRow : OpenClaim := { program := "ytmnmepaopodblaa", sum := "99e9af1f1648bd0fd239ce0049d239717f07e19ff9eda621c38fdb5824876107", func := "sphragis/sphragislaw07.DeviceCounts", spec := "deviceCounts", inPlace := ["internal/abi.NoEscape", "internal/bytealg.MakeNoZero"], unfollowed := true, recurses := true, apart := false }
def DeviceCountsSaid : Prop := deviceCountsRow.holds Try.pinned (OpenSpec.ofChange deviceCountsSpec)

/-- ITS FALSE NEIGHBOUR: 'it returns false'. Refute it at one input. -/
def deviceCountsWrong : ChangeSpec := { name := "deviceCounts", fn := fun _ => fun
  | [d] => { results := [.lit (.bool false)], args := [d] }
  | _ => none }
def DeviceCountsWrongFalsely : Prop := deviceCountsRow.holds Try.pinned (OpenSpec.ofChange deviceCountsWrong)

/-- 'sphragislaw07.DeviceDoes': WHATEVER THE INPUT: true; the input reads as it did. -/
def deviceDoesSpec : ChangeSpec := { name := "deviceDoes", fn := fun _ => fun
  | [d1, d2] => { results := [.lit (.bool true)], args := [d1, d2] }
  | _ => none }
def deviceDoesRow : OpenClaim := { program := "ytmnmepaopodblaa", sum := "99e9af1f1648bd0fd239ce0049d239717f07e19ff9eda621c38fdb5824876107", func := "sphragis/sphragislaw07.DeviceDoes", spec := "deviceDoes", inPlace := ["internal/abi.NoEscape", "internal/bytealg.MakeNoZero"], unfollowed := true, recurses := true, apart := false }
def DeviceDoesSaid : Prop := deviceDoesRow.holds Try.pinned (OpenSpec.ofChange deviceDoesSpec)

/-- ITS FALSE NEIGHBOUR: 'it returns false'. Refute it at one input. -/
def deviceDoesWrong : ChangeSpec := { name := "deviceDoes", fn := fun _ => fun
  | [d1, d2] => { results := [.lit (.bool false)], args := [d1, d2] }
  | _ => none }
def DeviceDoesWrongFalsely : Prop := deviceDoesRow.holds Try.pinned (OpenSpec.ofChange deviceDoesWrong)

/-- 'sphragislaw07.DeviceNone': WHATEVER THE INPUT: true; the input reads as it did. -/
def deviceNoneSpec : ChangeSpec := { name := "deviceNone", fn := fun _ => fun
  | [d1, d2, d3] => { results := [.lit (.bool true)], args := [d1, d2, d3] }
  | _ => none }
def deviceNoneRow : OpenClaim := { program := "ytmnmepaopodblaa", sum := "99e9af1f1648bd0fd239ce0049d239717f07e19ff9eda621c38fdb5824876107", func := "sphragis/sphragislaw07.DeviceNone", spec := "deviceNone", inPlace := ["internal/abi.NoEscape", "internal/bytealg.MakeNoZero"], unfollowed := true, recurses := true, apart := false }
def DeviceNoneSaid : Prop := deviceNoneRow.holds Try.pinned (OpenSpec.ofChange deviceNoneSpec)

/-- ITS FALSE NEIGHBOUR: 'it returns false'. Refute it at one input. -/
def deviceNoneWrong : ChangeSpec := { name := "deviceNone", fn := fun _ => fun
  | [d1, d2, d3] => { results := [.lit (.bool false)], args := [d1, d2, d3] }
  | _ => none }
def DeviceNoneWrongFalsely : Prop := deviceNoneRow.holds Try.pinned (OpenSpec.ofChange deviceNoneWrong)

/- THE SECOND FORM. 'bulk': how many values and letters a reading holds, each counted each time it is reached (what is shared counts as often as it is met; a slice's spare places count too). A statement '..UptoSaid' is the law's where the arguments, and the package variables that the reading takes, are together of bulk at most 1048576: NARROWER than '..Said'. Prove '..Said' where nothing that the law and all that it calls make is longer than what came in: it says more and counts as full. Else prove '..UptoSaid'. A law counts once. -/
mutual
def uptoBulk {H : Type} : DataW H → Nat
  | .lit (.string bytes) => bytes.length + 1
  | .lit _ => 1
  | .nil => 1
  | .ptr d => uptoBulk d + 1
  | .slice elems spare => uptoBulkAll elems + uptoBulkAll spare + 1
  | .agg parts => uptoBulkAll parts + 1
  | .iface _ d => uptoBulk d + 1
  | .map entries => uptoBulkEntries entries + 1
  | .held _ => 1
def uptoBulkAll {H : Type} : List (DataW H) → Nat
  | [] => 0
  | d :: r => uptoBulk d + uptoBulkAll r
def uptoBulkEntries {H : Type} : List (Lit × DataW H) → Nat
  | [] => 0
  | x :: r => uptoBulkEntry x + uptoBulkEntries r
def uptoBulkEntry {H : Type} : Lit × DataW H → Nat
  | (.string bytes, d) => bytes.length + uptoBulk d + 1
  | (_, d) => uptoBulk d + 1
 end
def uptoSmall : (H : Type) → List (DataW H) → Bool := fun _ ds => decide (uptoBulkAll ds ≤ 1048576)
def OpenSpec.upto (s : _root_.Go.ChangeSpec) : _root_.Go.OpenSpec := { _root_.Go.OpenSpec.ofChange s with cond := some uptoSmall }

/-- 'sphragislaw07.DeviceKeeps', WHERE WHAT IT READS IS OF BULK AT MOST 1048576: true; the input reads as it did. -/
def deviceKeepsUptoRow : OpenClaim := { program := "ytmnmepaopodblaa", sum := "99e9af1f1648bd0fd239ce0049d239717f07e19ff9eda621c38fdb5824876107", func := "sphragis/sphragislaw07.DeviceKeeps", spec := "deviceKeeps", inPlace := ["internal/abi.NoEscape", "internal/bytealg.MakeNoZero"], unfollowed := true, recurses := true, apart := false, narrowed := true }
def DeviceKeepsUptoSaid : Prop := deviceKeepsUptoRow.holds Try.pinned (OpenSpec.upto deviceKeepsSpec)

/-- 'sphragislaw07.DeviceCuts', WHERE WHAT IT READS IS OF BULK AT MOST 1048576: true; the input reads as it did. -/
def deviceCutsUptoRow : OpenClaim := { program := "ytmnmepaopodblaa", sum := "99e9af1f1648bd0fd239ce0049d239717f07e19ff9eda621c38fdb5824876107", func := "sphragis/sphragislaw07.DeviceCuts", spec := "deviceCuts", inPlace := ["internal/abi.NoEscape", "internal/bytealg.MakeNoZero"], unfollowed := true, recurses := true, apart := false, narrowed := true }
def DeviceCutsUptoSaid : Prop := deviceCutsUptoRow.holds Try.pinned (OpenSpec.upto deviceCutsSpec)

/-- 'sphragislaw07.DeviceParts', WHERE WHAT IT READS IS OF BULK AT MOST 1048576: true; the input reads as it did. -/
def devicePartsUptoRow : OpenClaim := { program := "ytmnmepaopodblaa", sum := "99e9af1f1648bd0fd239ce0049d239717f07e19ff9eda621c38fdb5824876107", func := "sphragis/sphragislaw07.DeviceParts", spec := "deviceParts", inPlace := ["internal/abi.NoEscape", "internal/bytealg.MakeNoZero"], unfollowed := true, recurses := true, apart := false, narrowed := true }
def DevicePartsUptoSaid : Prop := devicePartsUptoRow.holds Try.pinned (OpenSpec.upto devicePartsSpec)

/-- 'sphragislaw07.DeviceBad', WHERE WHAT IT READS IS OF BULK AT MOST 1048576: true; the input reads as it did. -/
def deviceBadUptoRow : OpenClaim := { program := "ytmnmepaopodblaa", sum := "99e9af1f1648bd0fd239ce0049d239717f07e19ff9eda621c38fdb5824876107", func := "sphragis/sphragislaw07.DeviceBad", spec := "deviceBad", inPlace := ["internal/abi.NoEscape", "internal/bytealg.MakeNoZero"], unfollowed := true, recurses := true, apart := false, narrowed := true }
def DeviceBadUptoSaid : Prop := deviceBadUptoRow.holds Try.pinned (OpenSpec.upto deviceBadSpec)

/-- 'sphragislaw07.DeviceCounts', WHERE WHAT IT READS IS OF BULK AT MOST 1048576: true; the input reads as it did. -/
def deviceCountsUptoRow : OpenClaim := { program := "ytmnmepaopodblaa", sum := "99e9af1f1648bd0fd239ce0049d239717f07e19ff9eda621c38fdb5824876107", func := "sphragis/sphragislaw07.DeviceCounts", spec := "deviceCounts", inPlace := ["internal/abi.NoEscape", "internal/bytealg.MakeNoZero"], unfollowed := true, recurses := true, apart := false, narrowed := true }
def DeviceCountsUptoSaid : Prop := deviceCountsUptoRow.holds Try.pinned (OpenSpec.upto deviceCountsSpec)

/-- 'sphragislaw07.DeviceDoes', WHERE WHAT IT READS IS OF BULK AT MOST 1048576: true; the input reads as it did. -/
def deviceDoesUptoRow : OpenClaim := { program := "ytmnmepaopodblaa", sum := "99e9af1f1648bd0fd239ce0049d239717f07e19ff9eda621c38fdb5824876107", func := "sphragis/sphragislaw07.DeviceDoes", spec := "deviceDoes", inPlace := ["internal/abi.NoEscape", "internal/bytealg.MakeNoZero"], unfollowed := true, recurses := true, apart := false, narrowed := true }
def DeviceDoesUptoSaid : Prop := deviceDoesUptoRow.holds Try.pinned (OpenSpec.upto deviceDoesSpec)

/-- 'sphragislaw07.DeviceNone', WHERE WHAT IT READS IS OF BULK AT MOST 1048576: true; the input reads as it did. -/
def deviceNoneUptoRow : OpenClaim := { program := "ytmnmepaopodblaa", sum := "99e9af1f1648bd0fd239ce0049d239717f07e19ff9eda621c38fdb5824876107", func := "sphragis/sphragislaw07.DeviceNone", spec := "deviceNone", inPlace := ["internal/abi.NoEscape", "internal/bytealg.MakeNoZero"], unfollowed := true, recurses := true, apart := false, narrowed := true }
def DeviceNoneUptoSaid : Prop := deviceNoneUptoRow.holds Try.pinned (OpenSpec.upto deviceNoneSpec)

end Rows
end Go.Proofs.Ytmnmepaopodblaa
