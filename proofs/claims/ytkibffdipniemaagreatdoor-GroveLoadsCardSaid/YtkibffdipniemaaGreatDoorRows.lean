/-
  NARROWER THAN 'FOR EVERY INPUT', by the rows' own cells (each row's printed sentence says how): GroveOdd: laid · GroveBack: laid · GroveAgain: laid · GroveNone: laid · GroveFull: laid · GroveFew: laid · GroveSaves: laid · GroveLoads: laid.
  DERIVED. THE GIVEN ROWS OF THIS SEAT. 8 by the template 'for every input the law returns true; each argument reads behind the call as it read before'; 0 by the template 'total and deterministic' (their statements: YtkibffdipniemaaGreatDoorTotals.lean).
  GIVEN WITH THE SEED: the statements are not yours to turn. If you find one false, say at which input.
  Laid BY PROGRAM, IN A SANDBOX (cutbox-rows.mjs): the forced cells as the released guide's own fill.sh prints them over the translation 2813bee19d3e538f… (all of the seat's roots in one cut). By AI agents, Wed Nov 11 2026. No macro, syntax, notation, axiom, sorry.
-/
import Derived.Test.YtkibffdipniemaaGreatDoorChecked
import GoSem.Claim
import GoSem.ClaimJoined
import GoSem.ClaimMapViews
import Derived.JoinedTies
import Derived.KernelRfl
namespace Go.Proofs.YtkibffdipniemaaGreatDoor
/- THE CELL 'sum', in the pinned program and in every row, IS THE sha256 OF THE DUMP (.gsa) THAT YtkibffdipniemaaGreatDoorProg.lean LOADS. Nothing in Lean hashes anything: it is a label: what it is worth is what the hold of that sum in a sandbox is worth. -/
noncomputable def Tryz.pinned : Pinned := { name := "ytkibffdipniemaagreatdoor", sum := "2813bee19d3e538fe1a8ead40b281986223c1915785d1c10cca76248f25b9f81", checked := Tryz.checked }
namespace Rows
def none {H : Type} : Left H := { results := [], args := [] }

/- WHAT THE LISTED PACKAGE-LEVEL VARIABLES READ AS WHEN THE CALL BEGINS. Each datum BY PROGRAM (the guide's laid-datum.mjs) off the statement by which the dump's own 'gosem.cut.vars' lays the variable. In a bare row this is a premise. The card (YtkibffdipniemaaGreatDoorCards.lean) ties it to the program's text. -/
def laid_sphragis_sphragisref02_table {H : Type} : DataW H := .agg [.lit (.int .u32 1116352408), .lit (.int .u32 1899447441), .lit (.int .u32 3049323471), .lit (.int .u32 3921009573), .lit (.int .u32 961987163), .lit (.int .u32 1508970993), .lit (.int .u32 2453635748), .lit (.int .u32 2870763221), .lit (.int .u32 3624381080), .lit (.int .u32 310598401), .lit (.int .u32 607225278), .lit (.int .u32 1426881987), .lit (.int .u32 1925078388), .lit (.int .u32 2162078206), .lit (.int .u32 2614888103), .lit (.int .u32 3248222580), .lit (.int .u32 3835390401), .lit (.int .u32 4022224774), .lit (.int .u32 264347078), .lit (.int .u32 604807628), .lit (.int .u32 770255983), .lit (.int .u32 1249150122), .lit (.int .u32 1555081692), .lit (.int .u32 1996064986), .lit (.int .u32 2554220882), .lit (.int .u32 2821834349), .lit (.int .u32 2952996808), .lit (.int .u32 3210313671), .lit (.int .u32 3336571891), .lit (.int .u32 3584528711), .lit (.int .u32 113926993), .lit (.int .u32 338241895), .lit (.int .u32 666307205), .lit (.int .u32 773529912), .lit (.int .u32 1294757372), .lit (.int .u32 1396182291), .lit (.int .u32 1695183700), .lit (.int .u32 1986661051), .lit (.int .u32 2177026350), .lit (.int .u32 2456956037), .lit (.int .u32 2730485921), .lit (.int .u32 2820302411), .lit (.int .u32 3259730800), .lit (.int .u32 3345764771), .lit (.int .u32 3516065817), .lit (.int .u32 3600352804), .lit (.int .u32 4094571909), .lit (.int .u32 275423344), .lit (.int .u32 430227734), .lit (.int .u32 506948616), .lit (.int .u32 659060556), .lit (.int .u32 883997877), .lit (.int .u32 958139571), .lit (.int .u32 1322822218), .lit (.int .u32 1537002063), .lit (.int .u32 1747873779), .lit (.int .u32 1955562222), .lit (.int .u32 2024104815), .lit (.int .u32 2227730452), .lit (.int .u32 2361852424), .lit (.int .u32 2428436474), .lit (.int .u32 2756734187), .lit (.int .u32 3204031479), .lit (.int .u32 3329325298)]
def laid_sphragis_sha_first {H : Type} : DataW H := .agg [.lit (.int .u32 1779033703), .lit (.int .u32 3144134277), .lit (.int .u32 1013904242), .lit (.int .u32 2773480762), .lit (.int .u32 1359893119), .lit (.int .u32 2600822924), .lit (.int .u32 528734635), .lit (.int .u32 1541459225)]
def laid_sphragis_sha_constants {H : Type} : DataW H := .agg [.lit (.int .u32 1116352408), .lit (.int .u32 1899447441), .lit (.int .u32 3049323471), .lit (.int .u32 3921009573), .lit (.int .u32 961987163), .lit (.int .u32 1508970993), .lit (.int .u32 2453635748), .lit (.int .u32 2870763221), .lit (.int .u32 3624381080), .lit (.int .u32 310598401), .lit (.int .u32 607225278), .lit (.int .u32 1426881987), .lit (.int .u32 1925078388), .lit (.int .u32 2162078206), .lit (.int .u32 2614888103), .lit (.int .u32 3248222580), .lit (.int .u32 3835390401), .lit (.int .u32 4022224774), .lit (.int .u32 264347078), .lit (.int .u32 604807628), .lit (.int .u32 770255983), .lit (.int .u32 1249150122), .lit (.int .u32 1555081692), .lit (.int .u32 1996064986), .lit (.int .u32 2554220882), .lit (.int .u32 2821834349), .lit (.int .u32 2952996808), .lit (.int .u32 3210313671), .lit (.int .u32 3336571891), .lit (.int .u32 3584528711), .lit (.int .u32 113926993), .lit (.int .u32 338241895), .lit (.int .u32 666307205), .lit (.int .u32 773529912), .lit (.int .u32 1294757372), .lit (.int .u32 1396182291), .lit (.int .u32 1695183700), .lit (.int .u32 1986661051), .lit (.int .u32 2177026350), .lit (.int .u32 2456956037), .lit (.int .u32 2730485921), .lit (.int .u32 2820302411), .lit (.int .u32 3259730800), .lit (.int .u32 3345764771), .lit (.int .u32 3516065817), .lit (.int .u32 3600352804), .lit (.int .u32 4094571909), .lit (.int .u32 275423344), .lit (.int .u32 430227734), .lit (.int .u32 506948616), .lit (.int .u32 659060556), .lit (.int .u32 883997877), .lit (.int .u32 958139571), .lit (.int .u32 1322822218), .lit (.int .u32 1537002063), .lit (.int .u32 1747873779), .lit (.int .u32 1955562222), .lit (.int .u32 2024104815), .lit (.int .u32 2227730452), .lit (.int .u32 2361852424), .lit (.int .u32 2428436474), .lit (.int .u32 2756734187), .lit (.int .u32 3204031479), .lit (.int .u32 3329325298)]

/-- 'sphragislaw14.GroveOdd': WHATEVER THE INPUT: true; the input reads as it did. -/
def groveOddSpec : ChangeSpec := { name := "groveOdd", fn := fun _ => fun
  | [d] => { results := [.lit (.bool true)], args := [d] }
  | _ => none }
def groveOddRow : OpenClaim := { program := "ytkibffdipniemaagreatdoor", sum := "2813bee19d3e538fe1a8ead40b281986223c1915785d1c10cca76248f25b9f81", func := "sphragis/sphragislaw14.GroveOdd", spec := "groveOdd", inPlace := ["internal/abi.NoEscape", "internal/bytealg.MakeNoZero"], unfollowed := true, recurses := true, named := ["sphragis/sha.first", "sphragis/sha.constants", "sphragis/sphragisref02.table"], apart := false, laid := [("sphragis/sphragisref02.table", laid_sphragis_sphragisref02_table), ("sphragis/sha.first", laid_sphragis_sha_first), ("sphragis/sha.constants", laid_sphragis_sha_constants)] }
def GroveOddSaid : Prop := groveOddRow.holds Tryz.pinned (OpenSpec.ofChange groveOddSpec)

/-- ITS FALSE NEIGHBOUR: 'it returns false'. Refute it at one input. -/
def groveOddWrong : ChangeSpec := { name := "groveOdd", fn := fun _ => fun
  | [d] => { results := [.lit (.bool false)], args := [d] }
  | _ => none }
def GroveOddWrongFalsely : Prop := groveOddRow.holds Tryz.pinned (OpenSpec.ofChange groveOddWrong)

/-- 'sphragislaw14.GroveBack': WHATEVER THE INPUT: true; the input reads as it did. -/
def groveBackSpec : ChangeSpec := { name := "groveBack", fn := fun _ => fun
  | [d] => { results := [.lit (.bool true)], args := [d] }
  | _ => none }
def groveBackRow : OpenClaim := { program := "ytkibffdipniemaagreatdoor", sum := "2813bee19d3e538fe1a8ead40b281986223c1915785d1c10cca76248f25b9f81", func := "sphragis/sphragislaw14.GroveBack", spec := "groveBack", inPlace := ["internal/abi.NoEscape", "internal/bytealg.MakeNoZero"], unfollowed := true, recurses := true, named := ["sphragis/sha.first", "sphragis/sha.constants"], apart := false, laid := [("sphragis/sha.first", laid_sphragis_sha_first), ("sphragis/sha.constants", laid_sphragis_sha_constants)] }
def GroveBackSaid : Prop := groveBackRow.holds Tryz.pinned (OpenSpec.ofChange groveBackSpec)

/-- ITS FALSE NEIGHBOUR: 'it returns false'. Refute it at one input. -/
def groveBackWrong : ChangeSpec := { name := "groveBack", fn := fun _ => fun
  | [d] => { results := [.lit (.bool false)], args := [d] }
  | _ => none }
def GroveBackWrongFalsely : Prop := groveBackRow.holds Tryz.pinned (OpenSpec.ofChange groveBackWrong)

/-- 'sphragislaw14.GroveAgain': WHATEVER THE INPUT: true; the input reads as it did. -/
def groveAgainSpec : ChangeSpec := { name := "groveAgain", fn := fun _ => fun
  | [d1, d2] => { results := [.lit (.bool true)], args := [d1, d2] }
  | _ => none }
def groveAgainRow : OpenClaim := { program := "ytkibffdipniemaagreatdoor", sum := "2813bee19d3e538fe1a8ead40b281986223c1915785d1c10cca76248f25b9f81", func := "sphragis/sphragislaw14.GroveAgain", spec := "groveAgain", inPlace := ["internal/abi.NoEscape", "internal/bytealg.MakeNoZero"], unfollowed := true, recurses := true, named := ["sphragis/sha.first", "sphragis/sha.constants"], apart := false, laid := [("sphragis/sha.first", laid_sphragis_sha_first), ("sphragis/sha.constants", laid_sphragis_sha_constants)] }
def GroveAgainSaid : Prop := groveAgainRow.holds Tryz.pinned (OpenSpec.ofChange groveAgainSpec)

/-- ITS FALSE NEIGHBOUR: 'it returns false'. Refute it at one input. -/
def groveAgainWrong : ChangeSpec := { name := "groveAgain", fn := fun _ => fun
  | [d1, d2] => { results := [.lit (.bool false)], args := [d1, d2] }
  | _ => none }
def GroveAgainWrongFalsely : Prop := groveAgainRow.holds Tryz.pinned (OpenSpec.ofChange groveAgainWrong)

/-- 'sphragislaw14.GroveNone': WHATEVER THE INPUT: true; the input reads as it did. -/
def groveNoneSpec : ChangeSpec := { name := "groveNone", fn := fun _ => fun
  | [d1, d2] => { results := [.lit (.bool true)], args := [d1, d2] }
  | _ => none }
def groveNoneRow : OpenClaim := { program := "ytkibffdipniemaagreatdoor", sum := "2813bee19d3e538fe1a8ead40b281986223c1915785d1c10cca76248f25b9f81", func := "sphragis/sphragislaw14.GroveNone", spec := "groveNone", inPlace := ["internal/abi.NoEscape", "internal/bytealg.MakeNoZero"], unfollowed := true, recurses := true, named := ["sphragis/sha.first", "sphragis/sha.constants"], apart := false, laid := [("sphragis/sha.first", laid_sphragis_sha_first), ("sphragis/sha.constants", laid_sphragis_sha_constants)] }
def GroveNoneSaid : Prop := groveNoneRow.holds Tryz.pinned (OpenSpec.ofChange groveNoneSpec)

/-- ITS FALSE NEIGHBOUR: 'it returns false'. Refute it at one input. -/
def groveNoneWrong : ChangeSpec := { name := "groveNone", fn := fun _ => fun
  | [d1, d2] => { results := [.lit (.bool false)], args := [d1, d2] }
  | _ => none }
def GroveNoneWrongFalsely : Prop := groveNoneRow.holds Tryz.pinned (OpenSpec.ofChange groveNoneWrong)

/-- 'sphragislaw14.GroveFull': WHATEVER THE INPUT: true; the input reads as it did. -/
def groveFullSpec : ChangeSpec := { name := "groveFull", fn := fun _ => fun
  | [d1, d2] => { results := [.lit (.bool true)], args := [d1, d2] }
  | _ => none }
def groveFullRow : OpenClaim := { program := "ytkibffdipniemaagreatdoor", sum := "2813bee19d3e538fe1a8ead40b281986223c1915785d1c10cca76248f25b9f81", func := "sphragis/sphragislaw14.GroveFull", spec := "groveFull", inPlace := ["internal/abi.NoEscape", "internal/bytealg.MakeNoZero"], unfollowed := true, recurses := true, named := ["sphragis/sha.first", "sphragis/sha.constants"], apart := false, laid := [("sphragis/sha.first", laid_sphragis_sha_first), ("sphragis/sha.constants", laid_sphragis_sha_constants)] }
def GroveFullSaid : Prop := groveFullRow.holds Tryz.pinned (OpenSpec.ofChange groveFullSpec)

/-- ITS FALSE NEIGHBOUR: 'it returns false'. Refute it at one input. -/
def groveFullWrong : ChangeSpec := { name := "groveFull", fn := fun _ => fun
  | [d1, d2] => { results := [.lit (.bool false)], args := [d1, d2] }
  | _ => none }
def GroveFullWrongFalsely : Prop := groveFullRow.holds Tryz.pinned (OpenSpec.ofChange groveFullWrong)

/-- 'sphragislaw14.GroveFew': WHATEVER THE INPUT: true; the input reads as it did. -/
def groveFewSpec : ChangeSpec := { name := "groveFew", fn := fun _ => fun
  | [d] => { results := [.lit (.bool true)], args := [d] }
  | _ => none }
def groveFewRow : OpenClaim := { program := "ytkibffdipniemaagreatdoor", sum := "2813bee19d3e538fe1a8ead40b281986223c1915785d1c10cca76248f25b9f81", func := "sphragis/sphragislaw14.GroveFew", spec := "groveFew", inPlace := ["internal/abi.NoEscape", "internal/bytealg.MakeNoZero"], unfollowed := true, recurses := true, named := ["sphragis/sha.first", "sphragis/sha.constants"], apart := false, laid := [("sphragis/sha.first", laid_sphragis_sha_first), ("sphragis/sha.constants", laid_sphragis_sha_constants)] }
def GroveFewSaid : Prop := groveFewRow.holds Tryz.pinned (OpenSpec.ofChange groveFewSpec)

/-- ITS FALSE NEIGHBOUR: 'it returns false'. Refute it at one input. -/
def groveFewWrong : ChangeSpec := { name := "groveFew", fn := fun _ => fun
  | [d] => { results := [.lit (.bool false)], args := [d] }
  | _ => none }
def GroveFewWrongFalsely : Prop := groveFewRow.holds Tryz.pinned (OpenSpec.ofChange groveFewWrong)

/-- 'sphragislaw14.GroveSaves': WHATEVER THE INPUT: true; the input reads as it did. -/
def groveSavesSpec : ChangeSpec := { name := "groveSaves", fn := fun _ => fun
  | [d1, d2, d3] => { results := [.lit (.bool true)], args := [d1, d2, d3] }
  | _ => none }
def groveSavesRow : OpenClaim := { program := "ytkibffdipniemaagreatdoor", sum := "2813bee19d3e538fe1a8ead40b281986223c1915785d1c10cca76248f25b9f81", func := "sphragis/sphragislaw14.GroveSaves", spec := "groveSaves", inPlace := ["internal/abi.NoEscape", "internal/bytealg.MakeNoZero"], unfollowed := true, recurses := true, named := ["sphragis/sha.first", "sphragis/sha.constants", "sphragis/sphragisref02.table"], apart := false, laid := [("sphragis/sphragisref02.table", laid_sphragis_sphragisref02_table), ("sphragis/sha.first", laid_sphragis_sha_first), ("sphragis/sha.constants", laid_sphragis_sha_constants)] }
def GroveSavesSaid : Prop := groveSavesRow.holds Tryz.pinned (OpenSpec.ofChange groveSavesSpec)

/-- ITS FALSE NEIGHBOUR: 'it returns false'. Refute it at one input. -/
def groveSavesWrong : ChangeSpec := { name := "groveSaves", fn := fun _ => fun
  | [d1, d2, d3] => { results := [.lit (.bool false)], args := [d1, d2, d3] }
  | _ => none }
def GroveSavesWrongFalsely : Prop := groveSavesRow.holds Tryz.pinned (OpenSpec.ofChange groveSavesWrong)

/-- 'sphragislaw14.GroveLoads': WHATEVER THE INPUT: true; the input reads as it did. -/
def groveLoadsSpec : ChangeSpec := { name := "groveLoads", fn := fun _ => fun
  | [d1, d2, d3, d4] => { results := [.lit (.bool true)], args := [d1, d2, d3, d4] }
  | _ => none }
def groveLoadsRow : OpenClaim := { program := "ytkibffdipniemaagreatdoor", sum := "2813bee19d3e538fe1a8ead40b281986223c1915785d1c10cca76248f25b9f81", func := "sphragis/sphragislaw14.GroveLoads", spec := "groveLoads", inPlace := ["internal/abi.NoEscape", "internal/bytealg.MakeNoZero"], unfollowed := true, recurses := true, named := ["sphragis/sha.first", "sphragis/sha.constants", "sphragis/sphragisref02.table"], apart := false, laid := [("sphragis/sphragisref02.table", laid_sphragis_sphragisref02_table), ("sphragis/sha.first", laid_sphragis_sha_first), ("sphragis/sha.constants", laid_sphragis_sha_constants)] }
def GroveLoadsSaid : Prop := groveLoadsRow.holds Tryz.pinned (OpenSpec.ofChange groveLoadsSpec)

/-- ITS FALSE NEIGHBOUR: 'it returns false'. Refute it at one input. -/
def groveLoadsWrong : ChangeSpec := { name := "groveLoads", fn := fun _ => fun
  | [d1, d2, d3, d4] => { results := [.lit (.bool false)], args := [d1, d2, d3, d4] }
  | _ => none }
def GroveLoadsWrongFalsely : Prop := groveLoadsRow.holds Tryz.pinned (OpenSpec.ofChange groveLoadsWrong)

/- THE SECOND FORM. 'bulk': how many values and letters a reading holds, each counted each time it is reached (what is shared counts as often as it is met; a slice's spare places count too). A statement '..UptoSaid' is the law's where the arguments, and the package variables that the reading takes, are together of bulk at most 1048576: NARROWER than '..Said'. Prove '..Said' where nothing that the law and all that it calls make is longer than what came in: it says more and counts as full. Else prove '..UptoSaid'. A law counts once. -/
mutual
def uptoBulk {H : Type} : DataW H → Nat
  | .lit (.string bytes) => bytes.length + 1
  | .lit _ => 1
  | .nil => 1
  | .ptr d => uptoBulk d + 1
  | .slice elems spare => uptoBulkAll elems + uptoBulkAll spare + 1
  | .agg parts => uptoBulkAll parts + 1
  | .iface _ d => uptoBulk d + 1
  | .map entries => uptoBulkEntries entries + 1
  | .held _ => 1
def uptoBulkAll {H : Type} : List (DataW H) → Nat
  | [] => 0
  | d :: r => uptoBulk d + uptoBulkAll r
def uptoBulkEntries {H : Type} : List (Lit × DataW H) → Nat
  | [] => 0
  | x :: r => uptoBulkEntry x + uptoBulkEntries r
def uptoBulkEntry {H : Type} : Lit × DataW H → Nat
  | (.string bytes, d) => bytes.length + uptoBulk d + 1
  | (_, d) => uptoBulk d + 1
 end
def uptoSmall : (H : Type) → List (DataW H) → Bool := fun _ ds => decide (uptoBulkAll ds ≤ 1048576)
def OpenSpec.upto (s : _root_.Go.ChangeSpec) : _root_.Go.OpenSpec := { _root_.Go.OpenSpec.ofChange s with cond := some uptoSmall }

/-- 'sphragislaw14.GroveOdd', WHERE WHAT IT READS IS OF BULK AT MOST 1048576: true; the input reads as it did. -/
def groveOddUptoRow : OpenClaim := { program := "ytkibffdipniemaagreatdoor", sum := "2813bee19d3e538fe1a8ead40b281986223c1915785d1c10cca76248f25b9f81", func := "sphragis/sphragislaw14.GroveOdd", spec := "groveOdd", inPlace := ["internal/abi.NoEscape", "internal/bytealg.MakeNoZero"], unfollowed := true, recurses := true, named := ["sphragis/sha.first", "sphragis/sha.constants", "sphragis/sphragisref02.table"], apart := false, laid := [("sphragis/sphragisref02.table", laid_sphragis_sphragisref02_table), ("sphragis/sha.first", laid_sphragis_sha_first), ("sphragis/sha.constants", laid_sphragis_sha_constants)], narrowed := true }
def GroveOddUptoSaid : Prop := groveOddUptoRow.holds Tryz.pinned (OpenSpec.upto groveOddSpec)

/-- 'sphragislaw14.GroveBack', WHERE WHAT IT READS IS OF BULK AT MOST 1048576: true; the input reads as it did. -/
def groveBackUptoRow : OpenClaim := { program := "ytkibffdipniemaagreatdoor", sum := "2813bee19d3e538fe1a8ead40b281986223c1915785d1c10cca76248f25b9f81", func := "sphragis/sphragislaw14.GroveBack", spec := "groveBack", inPlace := ["internal/abi.NoEscape", "internal/bytealg.MakeNoZero"], unfollowed := true, recurses := true, named := ["sphragis/sha.first", "sphragis/sha.constants"], apart := false, laid := [("sphragis/sha.first", laid_sphragis_sha_first), ("sphragis/sha.constants", laid_sphragis_sha_constants)], narrowed := true }
def GroveBackUptoSaid : Prop := groveBackUptoRow.holds Tryz.pinned (OpenSpec.upto groveBackSpec)

/-- 'sphragislaw14.GroveAgain', WHERE WHAT IT READS IS OF BULK AT MOST 1048576: true; the input reads as it did. -/
def groveAgainUptoRow : OpenClaim := { program := "ytkibffdipniemaagreatdoor", sum := "2813bee19d3e538fe1a8ead40b281986223c1915785d1c10cca76248f25b9f81", func := "sphragis/sphragislaw14.GroveAgain", spec := "groveAgain", inPlace := ["internal/abi.NoEscape", "internal/bytealg.MakeNoZero"], unfollowed := true, recurses := true, named := ["sphragis/sha.first", "sphragis/sha.constants"], apart := false, laid := [("sphragis/sha.first", laid_sphragis_sha_first), ("sphragis/sha.constants", laid_sphragis_sha_constants)], narrowed := true }
def GroveAgainUptoSaid : Prop := groveAgainUptoRow.holds Tryz.pinned (OpenSpec.upto groveAgainSpec)

/-- 'sphragislaw14.GroveNone', WHERE WHAT IT READS IS OF BULK AT MOST 1048576: true; the input reads as it did. -/
def groveNoneUptoRow : OpenClaim := { program := "ytkibffdipniemaagreatdoor", sum := "2813bee19d3e538fe1a8ead40b281986223c1915785d1c10cca76248f25b9f81", func := "sphragis/sphragislaw14.GroveNone", spec := "groveNone", inPlace := ["internal/abi.NoEscape", "internal/bytealg.MakeNoZero"], unfollowed := true, recurses := true, named := ["sphragis/sha.first", "sphragis/sha.constants"], apart := false, laid := [("sphragis/sha.first", laid_sphragis_sha_first), ("sphragis/sha.constants", laid_sphragis_sha_constants)], narrowed := true }
def GroveNoneUptoSaid : Prop := groveNoneUptoRow.holds Tryz.pinned (OpenSpec.upto groveNoneSpec)

/-- 'sphragislaw14.GroveFull', WHERE WHAT IT READS IS OF BULK AT MOST 1048576: true; the input reads as it did. -/
def groveFullUptoRow : OpenClaim := { program := "ytkibffdipniemaagreatdoor", sum := "2813bee19d3e538fe1a8ead40b281986223c1915785d1c10cca76248f25b9f81", func := "sphragis/sphragislaw14.GroveFull", spec := "groveFull", inPlace := ["internal/abi.NoEscape", "internal/bytealg.MakeNoZero"], unfollowed := true, recurses := true, named := ["sphragis/sha.first", "sphragis/sha.constants"], apart := false, laid := [("sphragis/sha.first", laid_sphragis_sha_first), ("sphragis/sha.constants", laid_sphragis_sha_constants)], narrowed := true }
def GroveFullUptoSaid : Prop := groveFullUptoRow.holds Tryz.pinned (OpenSpec.upto groveFullSpec)

/-- 'sphragislaw14.GroveFew', WHERE WHAT IT READS IS OF BULK AT MOST 1048576: true; the input reads as it did. -/
def groveFewUptoRow : OpenClaim := { program := "ytkibffdipniemaagreatdoor", sum := "2813bee19d3e538fe1a8ead40b281986223c1915785d1c10cca76248f25b9f81", func := "sphragis/sphragislaw14.GroveFew", spec := "groveFew", inPlace := ["internal/abi.NoEscape", "internal/bytealg.MakeNoZero"], unfollowed := true, recurses := true, named := ["sphragis/sha.first", "sphragis/sha.constants"], apart := false, laid := [("sphragis/sha.first", laid_sphragis_sha_first), ("sphragis/sha.constants", laid_sphragis_sha_constants)], narrowed := true }
def GroveFewUptoSaid : Prop := groveFewUptoRow.holds Tryz.pinned (OpenSpec.upto groveFewSpec)

/-- 'sphragislaw14.GroveSaves', WHERE WHAT IT READS IS OF BULK AT MOST 1048576: true; the input reads as it did. -/
def groveSavesUptoRow : OpenClaim := { program := "ytkibffdipniemaagreatdoor", sum := "2813bee19d3e538fe1a8ead40b281986223c1915785d1c10cca76248f25b9f81", func := "sphragis/sphragislaw14.GroveSaves", spec := "groveSaves", inPlace := ["internal/abi.NoEscape", "internal/bytealg.MakeNoZero"], unfollowed := true, recurses := true, named := ["sphragis/sha.first", "sphragis/sha.constants", "sphragis/sphragisref02.table"], apart := false, laid := [("sphragis/sphragisref02.table", laid_sphragis_sphragisref02_table), ("sphragis/sha.first", laid_sphragis_sha_first), ("sphragis/sha.constants", laid_sphragis_sha_constants)], narrowed := true }
def GroveSavesUptoSaid : Prop := groveSavesUptoRow.holds Tryz.pinned (OpenSpec.upto groveSavesSpec)

/-- 'sphragislaw14.GroveLoads', WHERE WHAT IT READS IS OF BULK AT MOST 1048576: true; the input reads as it did. -/
def groveLoadsUptoRow : OpenClaim := { program := "ytkibffdipniemaagreatdoor", sum := "2813bee19d3e538fe1a8ead40b281986223c1915785d1c10cca76248f25b9f81", func := "sphragis/sphragislaw14.GroveLoads", spec := "groveLoads", inPlace := ["internal/abi.NoEscape", "internal/bytealg.MakeNoZero"], unfollowed := true, recurses := true, named := ["sphragis/sha.first", "sphragis/sha.constants", "sphragis/sphragisref02.table"], apart := false, laid := [("sphragis/sphragisref02.table", laid_sphragis_sphragisref02_table), ("sphragis/sha.first", laid_sphragis_sha_first), ("sphragis/sha.constants", laid_sphragis_sha_constants)], narrowed := true }
def GroveLoadsUptoSaid : Prop := groveLoadsUptoRow.holds Tryz.pinned (OpenSpec.upto groveLoadsSpec)

end Rows
end Go.Proofs.YtkibffdipniemaaGreatDoor
