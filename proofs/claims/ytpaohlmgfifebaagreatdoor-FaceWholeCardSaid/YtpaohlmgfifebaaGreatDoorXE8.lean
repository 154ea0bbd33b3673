/- The texts RFaceWhole, one behind the other: walks of the program, and plain laws of what it computes. Conditions: as each theorem says. -/
import Derived.Test.YtpaohlmgfifebaaGreatDoorXE1
import Derived.Test.YtpaohlmgfifebaaGreatDoorXE2
import Derived.Test.YtpaohlmgfifebaaGreatDoorXE3
import Derived.Test.YtpaohlmgfifebaaGreatDoorXE4
import Derived.Test.YtpaohlmgfifebaaGreatDoorXE5
import Derived.Test.YtpaohlmgfifebaaGreatDoorXE6
import Derived.Test.YtpaohlmgfifebaaGreatDoorXE7
import Derived.Test.YtpaohlmgfifebaaGreatDoorCards
import Derived.Test.YtpaohlmgfifebaaGreatDoorTie

set_option linter.unusedVariables false
set_option linter.unusedSimpArgs false
set_option maxHeartbeats 4000000
set_option maxRecDepth 100000
namespace Go.Proofs.YtpaohlmgfifebaaGreatDoor
open Go
/- THE CARD OF FaceWhole. No condition beyond the row's. -/
namespace rFaceWhole
open Go Go.ChangeShapes Go.WideShapes Go.ChangeAt Go.RowKit
theorem mV(G:Type)(enc:TypeId×Value→G)(W:World)(base:Nat)(args:Array Value)(ds gs:List (DataW G))(before:List MemPlace)
(hval:∀(j:Nat) t v,Tryz.f3.params[j]? = some t→args[j]? = some v→Value.okWide Tryz.prog W .any base t v)
(hW:DataW.Whole enc Tryz.prog Tryz.f3.params.toList Rows.faceWholeSpec.vars false W args.toList ds gs before)(hL:laidMetH Tryz.prog Rows.faceWholeRow.laid W):
  Calls Tryz.prog 3 args W fun e W'=>∃v,e=.returned v∧Rows.faceWholeSpec.post enc Tryz.prog Tryz.f3 false true false false W args v W':=by
 have hW':=hW
 obtain⟨p,q,hA0,hV,rfl,hfz,hnd⟩:=hW
 have hA:DataW.TrodAll enc Tryz.prog W 0 (fun _=>true) true Tryz.f3.params.toList args.toList ds p:=hA0
 rw[Tryz.params3]at hA hval
 obtain⟨v0,vs0,d0,ds0,p0,q0,hargs,rfl,rfl,h0,r0⟩:=trodAll_cons hA
 obtain⟨rfl,rfl,rfl⟩:=trodAll_nil r0
 obtain rfl:args=[v0].toArray:=by rw[←hargs]
 obtain⟨rfl,rfl⟩:=trodVars_none hV
 obtain⟨l0,hk0⟩:=jW (hval 0 22 v0 rfl rfl) h0
 obtain⟨hS,hT⟩:=nS hL
 have hc:=Vl (K:=(· < W.heap.size)) (w0:=W) (H:=[]) (eW Sq l0 rfl zD) hS hT hk0
 refine jD hc ?_
 rintro v W' ⟨M,rfl,rfl⟩ hb
 exact ji mj zK rfl zK Tryz.underlying4 hW' rfl rfl rfl hb
theorem ml(os:Os):laidMet Tryz.prog Rows.faceWholeRow.laid ((eM os).forCall (fun _ _=>0) ⟨#[],#[zN],[]⟩).memory:=
 laidMet_of_run' 8 zK zK
theorem wZ(os:Os){H:Type}(enc:TypeId×Value→H):∃places,DataW.whole enc Tryz.prog ((eM os).forCall (fun _ _=>0) ⟨#[],#[zN],[]⟩).memory Tryz.f3.params.toList Rows.faceWholeSpec.vars false (#[zN]:Array Value).toList 8=some ([.nil],[],places):=
 ⟨[],by kernel_rfl⟩
theorem lifted(os:Os)(started:os.Started)(H:Type)(enc:TypeId×Value→H)(F:Stop.Interp):
  ReturnsInHanded {} Tryz.checked os 3 .any ((OpenSpec.ofChange Rows.faceWholeSpec).preRow enc Tryz.prog Tryz.f3 Rows.faceWholeRow.domain false Rows.faceWholeRow.laid) (((OpenSpec.ofChange Rows.faceWholeSpec).at F).post enc Tryz.prog Tryz.f3 false true false false):=by
 obtain⟨places,hx⟩:=wZ os enc
 refine returnsInHanded_of_row (C:=Tryz.checked) (s:=OpenSpec.ofChange Rows.faceWholeSpec) xa started zK Tryz.func3
  (witness_row_at (enc:=enc) (C:=Tryz.checked) false (eM os) #[zN] rfl zK zK zK
   (OpenSpec.preRow_of_cond 8 hx zK (fun k hk=>by cases hk) zK (ml os))) ?_
 intro W base args ds gs before hval hW _ _ _ hL _ _
 exact mV H enc W base args ds gs before hval hW hL
theorem k2:laidOutB Tryz.prog=true:=zK
theorem k3:mapsRowed Tryz.prog=true:=zK
theorem yE:(Rows.faceWholeRow.inPlace==Tryz.prog.inPlace 3)=true:=zK
theorem yF:(Rows.faceWholeRow.unfollowed==Tryz.prog.unfollowed 3)=true:=zK
theorem yG:(Rows.faceWholeRow.recurses==Tryz.prog.recurses 3)=true:=zK
theorem yH:(Rows.faceWholeRow.named==Tryz.prog.varsNamed 3)=true:=zK
theorem yI:(Rows.faceWholeRow.plainKeys==Tryz.prog.plainKeys)=true:=zK
theorem yJ:Tryz.prog.stopsHeard=true:=zK
theorem yK:Tryz.prog.mayEnter=true:=zK
theorem yL:(Rows.faceWholeRow.lifted==Tryz.prog.liftsFinal)=true:=zK
theorem yM:(Tryz.prog.make==some Rows.faceWholeRow.make)=true:=zK
theorem closed:joinedFacts Tryz.prog 3 Tryz.f3 (OpenSpec.ofChange Rows.faceWholeSpec).bare Rows.faceWholeRow=true:=by
 simp only[joinedFacts,Bool.and_eq_true]
 exact⟨⟨⟨⟨⟨⟨⟨⟨⟨⟨⟨⟨⟨⟨⟨⟨⟨⟨⟨⟨⟨⟨⟨⟨⟨⟨⟨⟨⟨⟨⟨by kernel_rfl,k2⟩,k3⟩,by kernel_rfl⟩,by kernel_rfl⟩,by kernel_rfl⟩,by kernel_rfl⟩,by kernel_rfl⟩,by kernel_rfl⟩,yE⟩,yF⟩,yG⟩,yH⟩,by kernel_rfl⟩,by kernel_rfl⟩,by kernel_rfl⟩,by kernel_rfl⟩,by kernel_rfl⟩,by kernel_rfl⟩,by kernel_rfl⟩,by kernel_rfl⟩,by kernel_rfl⟩,yI⟩,by kernel_rfl⟩,yJ⟩,yK⟩,yL⟩,yM⟩,by kernel_rfl⟩,by kernel_rfl⟩,by kernel_rfl⟩,by kernel_rfl⟩
theorem xv:joinedFacts Tryz.pinned.checked.prog 3 Tryz.f3 (OpenSpec.ofChange Rows.faceWholeSpec).bare Rows.faceWholeRow=true:=by
 rw[show Tryz.pinned.checked.prog=Tryz.prog from rfl]
 exact closed
theorem xo:Rows.FaceWholeSaid:=
 OpenClaim.holds_of_cond 3 Tryz.f3 rfl rfl rfl rfl rfl rfl rfl ⟨rfl,rfl,rfl,rfl,rfl⟩ rfl rfl rfl rfl rfl zK Tryz.func3 xv
  (of_decide_eq_true zK) (by unfold Func.isWrapper;first | (rw[if_pos (by decide +kernel)];kernel_rfl) | (rw[if_neg (by decide +kernel)];exact⟨rfl,rfl⟩))
  (fun os started H enc _ F=>by rw[OpenClaim.pre_eq_preRow];exact lifted os started H enc F)
theorem jh(f:FuncId)(fn:Func)(hf:Tryz.pinned.checked.prog.funcNamed "sphragis/sphragislaw18.FaceWhole" = some f) (hfn:Tryz.pinned.checked.prog.funcs[f]? = some fn):
  false=Tryz.pinned.checked.prog.looks []∧∀(j:Nat) t,fn.params[j]? = some t→Tryz.pinned.checked.prog.wantsStandIn t=false:=by
 obtain rfl:f=3:=zI ((show Tryz.prog.funcNamed "sphragis/sphragislaw18.FaceWhole" = some 3 by kernel_rfl).symm.trans hf) |>.symm
 obtain rfl:fn=Tryz.f3:=(zI (Tryz.func3.symm.trans hfn)).symm
 refine⟨by kernel_rfl,fun j t ht=>?_⟩
 rw[Tryz.params3]at ht
 have hm:t=22:=by simpa using Array.mem_of_getElem? ht
 rcases hm with rfl<;>exact(show _=false by kernel_rfl)
theorem card:Rows.FaceWholeCardSaid:=
 Claim7.holds_tied_plain_at .later [] _ _ _ _ xo (fun _ h=>by cases h) zK (fun _ h=>by cases h) faceWhole_row_tie rfl ⟨rfl,rfl⟩ zK rfl jh zK
end rFaceWhole
end Go.Proofs.YtpaohlmgfifebaaGreatDoor
