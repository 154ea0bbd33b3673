/- The texts RGroveLoads, one behind the other: walks of the program, and plain laws of what it computes. Conditions: as each theorem says. -/
import Derived.Test.YtkibffdipniemaaGreatDoorMK1
import Derived.Test.YtkibffdipniemaaGreatDoorMK2
import Derived.Test.YtkibffdipniemaaGreatDoorMK3
import Derived.Test.YtkibffdipniemaaGreatDoorMK4
import Derived.Test.YtkibffdipniemaaGreatDoorMK5
import Derived.Test.YtkibffdipniemaaGreatDoorMK6
import Derived.Test.YtkibffdipniemaaGreatDoorMK7
import Derived.Test.YtkibffdipniemaaGreatDoorCards
import Derived.Test.YtkibffdipniemaaGreatDoorTie

set_option linter.unusedVariables false
set_option linter.unusedSimpArgs false
set_option maxHeartbeats 4000000
set_option maxRecDepth 100000
namespace Go.Proofs.YtkibffdipniemaaGreatDoor
open Go
/- THE CARD OF GroveLoads. No condition beyond the row's. -/
namespace rGroveLoads
open Go Go.ChangeShapes Go.WideShapes Go.ChangeAt Go.RowKit
theorem lg(G:Type)(enc:TypeId×Value→G)(W:World)(base:Nat)(args:Array Value)(ds gs:List (DataW G))(before:List MemPlace)
(hval:∀(j:Nat) t v,Tryz.f10.params[j]? = some t→args[j]? = some v→Value.okWide Tryz.prog W .any base t v)
(hW:DataW.Whole enc Tryz.prog Tryz.f10.params.toList Rows.groveLoadsSpec.vars false W args.toList ds gs before)(hL:laidMetH Tryz.prog Rows.groveLoadsRow.laid W):
  Calls Tryz.prog 10 args W fun e W'=>∃v,e=.returned v∧Rows.groveLoadsSpec.post enc Tryz.prog Tryz.f10 false true false false W args v W':=by
 have hW':=hW
 obtain⟨p,q,hA0,hV,rfl,hfz,hnd⟩:=hW
 have hA:DataW.TrodAll enc Tryz.prog W 0 (fun _=>true) true Tryz.f10.params.toList args.toList ds p:=hA0
 rw[Tryz.params10]at hA hval
 obtain⟨v0,vs0,d0,ds0,p0,q0,hargs,rfl,rfl,h0,r0⟩:=trodAll_cons hA
 obtain⟨v1,vs1,d1,ds1,p1,q1,rfl,rfl,rfl,h1,r1⟩:=trodAll_cons r0
 obtain⟨v2,vs2,d2,ds2,p2,q2,rfl,rfl,rfl,h2,r2⟩:=trodAll_cons r1
 obtain⟨v3,vs3,d3,ds3,p3,q3,rfl,rfl,rfl,h3,r3⟩:=trodAll_cons r2
 obtain⟨rfl,rfl,rfl⟩:=trodAll_nil r3
 obtain rfl:args=[v0,v1,v2,v3].toArray:=by rw[←hargs]
 obtain⟨rfl,rfl⟩:=trodVars_none hV
 obtain⟨l0,hk0⟩:=iM (hval 0 35 v0 rfl rfl) h0
 obtain⟨z1,rfl,wf1⟩:=bh (k:=.i64) zK (hval 1 3 v1 rfl rfl) h1
 obtain⟨z2,rfl,wf2⟩:=bh (k:=.i64) zK (hval 2 3 v2 rfl rfl) h2
 obtain⟨s3,rfl,rfl,rfl,hm3⟩:=Go.ChangeMaps.open_string Tryz.underlying9 (hval 3 9 v3 rfl rfl) h3
 obtain⟨hS,hT⟩:=mh hL
 have hc:=vE (K:=(· < W.heap.size)) (w0:=W) (H:=[]) (aM Ri l0 z1 z2 s3.data.toList rfl) hS hT hk0
 rw[←kn]at hc
 refine jl hc ?_
 rintro v W' ⟨M,rfl,rfl⟩ hb
 exact iv lY zK rfl zK Tryz.underlying4 hW' rfl rfl rfl hb
theorem mD(os:Os):laidMet Tryz.prog Rows.groveLoadsRow.laid ((dA os).forCall (fun _ _=>0) ⟨#[],#[zN,.int .i64 0,.int .i64 0,.string ⟨#[]⟩],[]⟩).memory:=
 laidMet_of_run' 8 zK zK
theorem ti(os:Os){H:Type}(enc:TypeId×Value→H):∃places,DataW.whole enc Tryz.prog ((dA os).forCall (fun _ _=>0) ⟨#[],#[zN,.int .i64 0,.int .i64 0,.string ⟨#[]⟩],[]⟩).memory Tryz.f10.params.toList Rows.groveLoadsSpec.vars false (#[zN,.int .i64 0,.int .i64 0,.string ⟨#[]⟩]:Array Value).toList 8=some ([.nil,.lit (.int .i64 0),.lit (.int .i64 0),.lit (.string [])],[],places):=
 ⟨[],by kernel_rfl⟩
theorem sW(os:Os)(started:os.Started)(H:Type)(enc:TypeId×Value→H)(F:Stop.Interp):
  ReturnsInHanded {} Tryz.checked os 10 .any ((OpenSpec.ofChange Rows.groveLoadsSpec).preRow enc Tryz.prog Tryz.f10 Rows.groveLoadsRow.domain false Rows.groveLoadsRow.laid) (((OpenSpec.ofChange Rows.groveLoadsSpec).at F).post enc Tryz.prog Tryz.f10 false true false false):=by
 obtain⟨places,hx⟩:=ti os enc
 refine returnsInHanded_of_row (C:=Tryz.checked) (s:=OpenSpec.ofChange Rows.groveLoadsSpec) vq started zK Tryz.func10
  (witness_row_at (enc:=enc) (C:=Tryz.checked) false (dA os) #[zN,.int .i64 0,.int .i64 0,.string ⟨#[]⟩] rfl zK zK zK
   (OpenSpec.preRow_of_cond 8 hx zK (fun k hk=>by cases hk) zK (mD os))) ?_
 intro W base args ds gs before hval hW _ _ _ hL _ _
 exact lg H enc W base args ds gs before hval hW hL
theorem vy:Rows.GroveLoadsSaid:=
 OpenClaim.holds_of_cond 10 Tryz.f10 rfl rfl rfl rfl rfl rfl rfl ⟨rfl,rfl,rfl,rfl,rfl⟩ rfl rfl rfl rfl rfl zK Tryz.func10 zK
  (of_decide_eq_true zK) (by unfold Func.isWrapper;first | (rw[if_pos (by decide +kernel)];kernel_rfl) | (rw[if_neg (by decide +kernel)];exact⟨rfl,rfl⟩))
  (fun os started H enc _ F=>by rw[OpenClaim.pre_eq_preRow];exact sW os started H enc F)
theorem i7(f:FuncId)(fn:Func)(hf:Tryz.pinned.checked.prog.funcNamed "sphragis/sphragislaw14.GroveLoads" = some f) (hfn:Tryz.pinned.checked.prog.funcs[f]? = some fn):
  false=Tryz.pinned.checked.prog.looks []∧∀(j:Nat) t,fn.params[j]? = some t→Tryz.pinned.checked.prog.wantsStandIn t=false:=by
 obtain rfl:f=10:=zI ((show Tryz.prog.funcNamed "sphragis/sphragislaw14.GroveLoads" = some 10 by kernel_rfl).symm.trans hf) |>.symm
 obtain rfl:fn=Tryz.f10:=(zI (Tryz.func10.symm.trans hfn)).symm
 refine⟨by kernel_rfl,fun j t ht=>?_⟩
 rw[Tryz.params10]at ht
 have hm:t=35∨t=3∨t=9:=by simpa using Array.mem_of_getElem? ht
 rcases hm with rfl | rfl | rfl<;>exact(show _=false by kernel_rfl)
theorem card:Rows.GroveLoadsCardSaid:=
 Claim7.holds_tied_plain_at .later [] _ _ _ _ vy (fun _ h=>by cases h) zK (fun _ h=>by cases h) groveLoads_row_tie rfl ⟨rfl,rfl⟩ zK rfl i7 zK
end rGroveLoads
end Go.Proofs.YtkibffdipniemaaGreatDoor
