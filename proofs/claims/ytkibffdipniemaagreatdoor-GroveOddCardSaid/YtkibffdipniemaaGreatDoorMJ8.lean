/- The texts RGroveOdd, one behind the other: walks of the program, and plain laws of what it computes. Conditions: as each theorem says. -/
import Derived.Test.YtkibffdipniemaaGreatDoorMJ1
import Derived.Test.YtkibffdipniemaaGreatDoorMJ2
import Derived.Test.YtkibffdipniemaaGreatDoorMJ3
import Derived.Test.YtkibffdipniemaaGreatDoorMJ4
import Derived.Test.YtkibffdipniemaaGreatDoorMJ5
import Derived.Test.YtkibffdipniemaaGreatDoorMJ6
import Derived.Test.YtkibffdipniemaaGreatDoorMJ7
import Derived.Test.YtkibffdipniemaaGreatDoorCards
import Derived.Test.YtkibffdipniemaaGreatDoorTie

set_option linter.unusedVariables false
set_option linter.unusedSimpArgs false
set_option maxHeartbeats 4000000
set_option maxRecDepth 100000
namespace Go.Proofs.YtkibffdipniemaaGreatDoor
open Go
/- THE CARD OF GroveOdd. No condition beyond the row's. -/
namespace rGroveOdd
open Go Go.ChangeShapes Go.WideShapes Go.ChangeAt Go.RowKit
theorem kS(G:Type)(enc:TypeId×Value→G)(W:World)(base:Nat)(args:Array Value)(ds gs:List (DataW G))(before:List MemPlace)
(hval:∀(j:Nat) t v,Tryz.f3.params[j]? = some t→args[j]? = some v→Value.okWide Tryz.prog W .any base t v)
(hW:DataW.Whole enc Tryz.prog Tryz.f3.params.toList Rows.groveOddSpec.vars false W args.toList ds gs before)(hL:laidMetH Tryz.prog Rows.groveOddRow.laid W):
  Calls Tryz.prog 3 args W fun e W'=>∃v,e=.returned v∧Rows.groveOddSpec.post enc Tryz.prog Tryz.f3 false true false false W args v W':=by
 have hW':=hW
 obtain⟨p,q,hA0,hV,rfl,hfz,hnd⟩:=hW
 have hA:DataW.TrodAll enc Tryz.prog W 0 (fun _=>true) true Tryz.f3.params.toList args.toList ds p:=hA0
 rw[Tryz.params3]at hA hval
 obtain⟨v0,vs0,d0,ds0,p0,q0,hargs,rfl,rfl,h0,r0⟩:=trodAll_cons hA
 obtain⟨rfl,rfl,rfl⟩:=trodAll_nil r0
 obtain rfl:args=[v0].toArray:=by rw[←hargs]
 obtain⟨rfl,rfl⟩:=trodVars_none hV
 obtain⟨l0,hk0⟩:=eT Tryz.underlying22 Tryz.underlying9 ne (hval 0 22 v0 rfl rfl) h0
 obtain⟨hS,hT⟩:=kM hL
 have hc:=sU (K:=(· < W.heap.size)) (w0:=W) (H:=[]) (du RB l0 rfl) hS hT hk0
 refine gV hc ?_
 rintro v W' ⟨M,rfl,rfl⟩ hb
 exact gt kG zK rfl zK Tryz.underlying4 hW' rfl rfl rfl hb
theorem kN(os:Os):laidMet Tryz.prog Rows.groveOddRow.laid ((di os).forCall (fun _ _=>0) ⟨#[],#[zN],[]⟩).memory:=
 laidMet_of_run' 8 zK zK
theorem sE(os:Os){H:Type}(enc:TypeId×Value→H):∃places,DataW.whole enc Tryz.prog ((di os).forCall (fun _ _=>0) ⟨#[],#[zN],[]⟩).memory Tryz.f3.params.toList Rows.groveOddSpec.vars false (#[zN]:Array Value).toList 8=some ([.nil],[],places):=
 ⟨[],by kernel_rfl⟩
theorem qG(os:Os)(started:os.Started)(H:Type)(enc:TypeId×Value→H)(F:Stop.Interp):
  ReturnsInHanded {} Tryz.checked os 3 .any ((OpenSpec.ofChange Rows.groveOddSpec).preRow enc Tryz.prog Tryz.f3 Rows.groveOddRow.domain false Rows.groveOddRow.laid) (((OpenSpec.ofChange Rows.groveOddSpec).at F).post enc Tryz.prog Tryz.f3 false true false false):=by
 obtain⟨places,hx⟩:=sE os enc
 refine returnsInHanded_of_row (C:=Tryz.checked) (s:=OpenSpec.ofChange Rows.groveOddSpec) uJ started zK Tryz.func3
  (witness_row_at (enc:=enc) (C:=Tryz.checked) false (di os) #[zN] rfl zK zK zK
   (OpenSpec.preRow_of_cond 8 hx zK (fun k hk=>by cases hk) zK (kN os))) ?_
 intro W base args ds gs before hval hW _ _ _ hL _ _
 exact kS H enc W base args ds gs before hval hW hL
theorem uP:Rows.GroveOddSaid:=
 OpenClaim.holds_of_cond 3 Tryz.f3 rfl rfl rfl rfl rfl rfl rfl ⟨rfl,rfl,rfl,rfl,rfl⟩ rfl rfl rfl rfl rfl zK Tryz.func3 zK
  (of_decide_eq_true zK) (by unfold Func.isWrapper;first | (rw[if_pos (by decide +kernel)];kernel_rfl) | (rw[if_neg (by decide +kernel)];exact⟨rfl,rfl⟩))
  (fun os started H enc _ F=>by rw[OpenClaim.pre_eq_preRow];exact qG os started H enc F)
theorem gm(f:FuncId)(fn:Func)(hf:Tryz.pinned.checked.prog.funcNamed "sphragis/sphragislaw14.GroveOdd" = some f) (hfn:Tryz.pinned.checked.prog.funcs[f]? = some fn):
  false=Tryz.pinned.checked.prog.looks []∧∀(j:Nat) t,fn.params[j]? = some t→Tryz.pinned.checked.prog.wantsStandIn t=false:=by
 obtain rfl:f=3:=zI ((show Tryz.prog.funcNamed "sphragis/sphragislaw14.GroveOdd" = some 3 by kernel_rfl).symm.trans hf) |>.symm
 obtain rfl:fn=Tryz.f3:=(zI (Tryz.func3.symm.trans hfn)).symm
 refine⟨by kernel_rfl,fun j t ht=>?_⟩
 rw[Tryz.params3]at ht
 have hm:t=22:=by simpa using Array.mem_of_getElem? ht
 rcases hm with rfl<;>exact(show _=false by kernel_rfl)
theorem card:Rows.GroveOddCardSaid:=
 Claim7.holds_tied_plain_at .later [] _ _ _ _ uP (fun _ h=>by cases h) zK (fun _ h=>by cases h) groveOdd_row_tie rfl ⟨rfl,rfl⟩ zK rfl gm zK
end rGroveOdd
end Go.Proofs.YtkibffdipniemaaGreatDoor
