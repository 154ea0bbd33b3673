/- The texts RFaceFull, one behind the other: walks of the program, and plain laws of what it computes. Conditions: as each theorem says. -/
import Derived.Test.YtjkhnhichalenaaGreatDoorXA1
import Derived.Test.YtjkhnhichalenaaGreatDoorXA2
import Derived.Test.YtjkhnhichalenaaGreatDoorXA3
import Derived.Test.YtjkhnhichalenaaGreatDoorXA4
import Derived.Test.YtjkhnhichalenaaGreatDoorXA5
import Derived.Test.YtjkhnhichalenaaGreatDoorXA6
import Derived.Test.YtjkhnhichalenaaGreatDoorCards
import Derived.Test.YtjkhnhichalenaaGreatDoorTie

set_option linter.unusedVariables false
set_option linter.unusedSimpArgs false
set_option maxHeartbeats 4000000
set_option maxRecDepth 100000
namespace Go.Proofs.YtjkhnhichalenaaGreatDoor
open Go
/- THE CARD OF FaceFull. No condition beyond the row's. -/
namespace rFaceFull
open Go Go.ChangeShapes Go.WideShapes Go.ChangeAt Go.RowKit
theorem hQ(G:Type)(enc:TypeId×Value→G)(W:World)(base:Nat)(args:Array Value)(ds gs:List (DataW G))(before:List MemPlace)
(hval:∀(j:Nat) t v,Tryz.f3.params[j]? = some t→args[j]? = some v→Value.okWide Tryz.prog W .any base t v)
(hW:DataW.Whole enc Tryz.prog Tryz.f3.params.toList Rows.faceFullSpec.vars false W args.toList ds gs before)(hL:laidMetH Tryz.prog Rows.faceFullRow.laid W):
  Calls Tryz.prog 3 args W fun e W'=>∃v,e=.returned v∧Rows.faceFullSpec.post enc Tryz.prog Tryz.f3 false true false false W args v W':=by
 have hW':=hW
 obtain⟨p,q,hA0,hV,rfl,hfz,hnd⟩:=hW
 have hA:DataW.TrodAll enc Tryz.prog W 0 (fun _=>true) true Tryz.f3.params.toList args.toList ds p:=hA0
 rw[Tryz.params3]at hA hval
 obtain⟨v0,vs0,d0,ds0,p0,q0,hargs,rfl,rfl,h0,r0⟩:=trodAll_cons hA
 obtain⟨rfl,rfl,rfl⟩:=trodAll_nil r0
 obtain rfl:args=[v0].toArray:=by rw[←hargs]
 obtain⟨rfl,rfl⟩:=trodVars_none hV
 obtain⟨z0,rfl,wf0⟩:=iU (k:=.i64) zK (hval 0 3 v0 rfl rfl) h0
 obtain⟨hS,hT⟩:=ip hL
 have hc:=UH (K:=(· < W.heap.size)) (w0:=W) (H:=[]) (cf Qc z0 rfl) hS hT
 refine d9 hc ?_
 rintro v W' ⟨M,rfl,rfl⟩ hb
 exact eY iI zK rfl zK Tryz.underlying4 hW' rfl rfl rfl hb
theorem iJ(os:Os):laidMet Tryz.prog Rows.faceFullRow.laid ((aP os).forCall (fun _ _=>0) ⟨#[],#[.int .i64 0],[]⟩).memory:=
 laidMet_of_run' 8 zK zK
theorem qf(os:Os){H:Type}(enc:TypeId×Value→H):∃places,DataW.whole enc Tryz.prog ((aP os).forCall (fun _ _=>0) ⟨#[],#[.int .i64 0],[]⟩).memory Tryz.f3.params.toList Rows.faceFullSpec.vars false (#[.int .i64 0]:Array Value).toList 8=some ([.lit (.int .i64 0)],[],places):=
 ⟨[],by kernel_rfl⟩
theorem lifted(os:Os)(started:os.Started)(H:Type)(enc:TypeId×Value→H)(F:Stop.Interp):
  ReturnsInHanded {} Tryz.checked os 3 .any ((OpenSpec.ofChange Rows.faceFullSpec).preRow enc Tryz.prog Tryz.f3 Rows.faceFullRow.domain false Rows.faceFullRow.laid) (((OpenSpec.ofChange Rows.faceFullSpec).at F).post enc Tryz.prog Tryz.f3 false true false false):=by
 obtain⟨places,hx⟩:=qf os enc
 refine returnsInHanded_of_row (C:=Tryz.checked) (s:=OpenSpec.ofChange Rows.faceFullSpec) ra started zK Tryz.func3
  (witness_row_at (enc:=enc) (C:=Tryz.checked) false (aP os) #[.int .i64 0] rfl zK zK zK
   (OpenSpec.preRow_of_cond 8 hx zK (fun k hk=>by cases hk) zK (iJ os))) ?_
 intro W base args ds gs before hval hW _ _ _ hL _ _
 exact hQ H enc W base args ds gs before hval hW hL
theorem k2:laidOutB Tryz.prog=true:=zK
theorem k3:mapsRowed Tryz.prog=true:=zK
theorem sP:(Rows.faceFullRow.inPlace==Tryz.prog.inPlace 3)=true:=zK
theorem sQ:(Rows.faceFullRow.unfollowed==Tryz.prog.unfollowed 3)=true:=zK
theorem sR:(Rows.faceFullRow.recurses==Tryz.prog.recurses 3)=true:=zK
theorem sS:(Rows.faceFullRow.named==Tryz.prog.varsNamed 3)=true:=zK
theorem sT:(Rows.faceFullRow.plainKeys==Tryz.prog.plainKeys)=true:=zK
theorem sU:Tryz.prog.stopsHeard=true:=zK
theorem sV:Tryz.prog.mayEnter=true:=zK
theorem sW:(Rows.faceFullRow.lifted==Tryz.prog.liftsFinal)=true:=zK
theorem sX:(Tryz.prog.make==some Rows.faceFullRow.make)=true:=zK
theorem closed:joinedFacts Tryz.prog 3 Tryz.f3 (OpenSpec.ofChange Rows.faceFullSpec).bare Rows.faceFullRow=true:=by
 simp only[joinedFacts,Bool.and_eq_true]
 exact⟨⟨⟨⟨⟨⟨⟨⟨⟨⟨⟨⟨⟨⟨⟨⟨⟨⟨⟨⟨⟨⟨⟨⟨⟨⟨⟨⟨⟨⟨⟨by kernel_rfl,k2⟩,k3⟩,by kernel_rfl⟩,by kernel_rfl⟩,by kernel_rfl⟩,by kernel_rfl⟩,by kernel_rfl⟩,by kernel_rfl⟩,sP⟩,sQ⟩,sR⟩,sS⟩,by kernel_rfl⟩,by kernel_rfl⟩,by kernel_rfl⟩,by kernel_rfl⟩,by kernel_rfl⟩,by kernel_rfl⟩,by kernel_rfl⟩,by kernel_rfl⟩,by kernel_rfl⟩,sT⟩,by kernel_rfl⟩,sU⟩,sV⟩,sW⟩,sX⟩,by kernel_rfl⟩,by kernel_rfl⟩,by kernel_rfl⟩,by kernel_rfl⟩
theorem sH:joinedFacts Tryz.pinned.checked.prog 3 Tryz.f3 (OpenSpec.ofChange Rows.faceFullSpec).bare Rows.faceFullRow=true:=by
 rw[show Tryz.pinned.checked.prog=Tryz.prog from rfl]
 exact closed
theorem sA:Rows.FaceFullSaid:=
 OpenClaim.holds_of_cond 3 Tryz.f3 rfl rfl rfl rfl rfl rfl rfl ⟨rfl,rfl,rfl,rfl,rfl⟩ rfl rfl rfl rfl rfl zK Tryz.func3 sH
  (of_decide_eq_true zK) (by unfold Func.isWrapper;first | (rw[if_pos (by decide +kernel)];kernel_rfl) | (rw[if_neg (by decide +kernel)];exact⟨rfl,rfl⟩))
  (fun os started H enc _ F=>by rw[OpenClaim.pre_eq_preRow];exact lifted os started H enc F)
theorem eX(f:FuncId)(fn:Func)(hf:Tryz.pinned.checked.prog.funcNamed "sphragis/sphragislaw18.FaceFull" = some f) (hfn:Tryz.pinned.checked.prog.funcs[f]? = some fn):
  false=Tryz.pinned.checked.prog.looks []∧∀(j:Nat) t,fn.params[j]? = some t→Tryz.pinned.checked.prog.wantsStandIn t=false:=by
 obtain rfl:f=3:=zI ((show Tryz.prog.funcNamed "sphragis/sphragislaw18.FaceFull" = some 3 by kernel_rfl).symm.trans hf) |>.symm
 obtain rfl:fn=Tryz.f3:=(zI (Tryz.func3.symm.trans hfn)).symm
 refine⟨by kernel_rfl,fun j t ht=>?_⟩
 rw[Tryz.params3]at ht
 have hm:t=3:=by simpa using Array.mem_of_getElem? ht
 rcases hm with rfl<;>exact(show _=false by kernel_rfl)
theorem card:Rows.FaceFullCardSaid:=
 Claim7.holds_tied_plain_at .later [] _ _ _ _ sA (fun _ h=>by cases h) zK (fun _ h=>by cases h) faceFull_row_tie rfl ⟨rfl,rfl⟩ zK rfl eX zK
end rFaceFull
end Go.Proofs.YtjkhnhichalenaaGreatDoor
