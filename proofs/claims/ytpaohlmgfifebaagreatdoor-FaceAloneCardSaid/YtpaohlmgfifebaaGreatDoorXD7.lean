/- The texts RFaceAlone, one behind the other: walks of the program, and plain laws of what it computes. Conditions: as each theorem says. -/
import Derived.Test.YtpaohlmgfifebaaGreatDoorXD1
import Derived.Test.YtpaohlmgfifebaaGreatDoorXD2
import Derived.Test.YtpaohlmgfifebaaGreatDoorXD3
import Derived.Test.YtpaohlmgfifebaaGreatDoorXD4
import Derived.Test.YtpaohlmgfifebaaGreatDoorXD5
import Derived.Test.YtpaohlmgfifebaaGreatDoorXD6
import Derived.Test.YtpaohlmgfifebaaGreatDoorCards
import Derived.Test.YtpaohlmgfifebaaGreatDoorTie

set_option linter.unusedVariables false
set_option linter.unusedSimpArgs false
set_option maxHeartbeats 4000000
set_option maxRecDepth 100000
namespace Go.Proofs.YtpaohlmgfifebaaGreatDoor
open Go
/- THE CARD OF FaceAlone. No condition beyond the row's. -/
namespace rFaceAlone
open Go Go.ChangeShapes Go.WideShapes Go.ChangeAt Go.RowKit
theorem ji(G:Type)(enc:TypeId×Value→G)(W:World)(base:Nat)(args:Array Value)(ds gs:List (DataW G))(before:List MemPlace)
(hval:∀(j:Nat) t v,Tryz.f4.params[j]? = some t→args[j]? = some v→Value.okWide Tryz.prog W .any base t v)
(hW:DataW.Whole enc Tryz.prog Tryz.f4.params.toList Rows.faceAloneSpec.vars false W args.toList ds gs before)(hL:laidMetH Tryz.prog Rows.faceAloneRow.laid W):
  Calls Tryz.prog 4 args W fun e W'=>∃v,e=.returned v∧Rows.faceAloneSpec.post enc Tryz.prog Tryz.f4 false true false false W args v W':=by
 have hW':=hW
 obtain⟨p,q,hA0,hV,rfl,hfz,hnd⟩:=hW
 have hA:DataW.TrodAll enc Tryz.prog W 0 (fun _=>true) true Tryz.f4.params.toList args.toList ds p:=hA0
 rw[Tryz.params4]at hA hval
 obtain⟨v0,vs0,d0,ds0,p0,q0,hargs,rfl,rfl,h0,r0⟩:=trodAll_cons hA
 obtain⟨rfl,rfl,rfl⟩:=trodAll_nil r0
 obtain rfl:args=[v0].toArray:=by rw[←hargs]
 obtain⟨rfl,rfl⟩:=trodVars_none hV
 obtain⟨l0,hk0⟩:=gD (hval 0 22 v0 rfl rfl) h0
 obtain⟨hS,hT⟩:=kQ hL
 have hc:=UA (K:=(· < W.heap.size)) (w0:=W) (H:=[]) (bu Q9 l0 rfl) hS hT hk0
 refine fp hc ?_
 rintro v W' ⟨M,rfl,rfl⟩ hb
 exact gN ju zK rfl zK Tryz.underlying4 hW' rfl rfl rfl hb
theorem jv(os:Os):laidMet Tryz.prog Rows.faceAloneRow.laid ((bZ os).forCall (fun _ _=>0) ⟨#[],#[zN],[]⟩).memory:=
 laidMet_of_run' 8 zK zK
theorem tB(os:Os){H:Type}(enc:TypeId×Value→H):∃places,DataW.whole enc Tryz.prog ((bZ os).forCall (fun _ _=>0) ⟨#[],#[zN],[]⟩).memory Tryz.f4.params.toList Rows.faceAloneSpec.vars false (#[zN]:Array Value).toList 8=some ([.nil],[],places):=
 ⟨[],by kernel_rfl⟩
theorem lifted(os:Os)(started:os.Started)(H:Type)(enc:TypeId×Value→H)(F:Stop.Interp):
  ReturnsInHanded {} Tryz.checked os 4 .any ((OpenSpec.ofChange Rows.faceAloneSpec).preRow enc Tryz.prog Tryz.f4 Rows.faceAloneRow.domain false Rows.faceAloneRow.laid) (((OpenSpec.ofChange Rows.faceAloneSpec).at F).post enc Tryz.prog Tryz.f4 false true false false):=by
 obtain⟨places,hx⟩:=tB os enc
 refine returnsInHanded_of_row (C:=Tryz.checked) (s:=OpenSpec.ofChange Rows.faceAloneSpec) uF started zK Tryz.func4
  (witness_row_at (enc:=enc) (C:=Tryz.checked) false (bZ os) #[zN] rfl zK zK zK
   (OpenSpec.preRow_of_cond 8 hx zK (fun k hk=>by cases hk) zK (jv os))) ?_
 intro W base args ds gs before hval hW _ _ _ hL _ _
 exact ji H enc W base args ds gs before hval hW hL
theorem k2:laidOutB Tryz.prog=true:=zK
theorem k3:mapsRowed Tryz.prog=true:=zK
theorem uh:(Rows.faceAloneRow.inPlace==Tryz.prog.inPlace 4)=true:=zK
theorem ui:(Rows.faceAloneRow.unfollowed==Tryz.prog.unfollowed 4)=true:=zK
theorem uj:(Rows.faceAloneRow.recurses==Tryz.prog.recurses 4)=true:=zK
theorem uk:(Rows.faceAloneRow.named==Tryz.prog.varsNamed 4)=true:=zK
theorem ul:(Rows.faceAloneRow.plainKeys==Tryz.prog.plainKeys)=true:=zK
theorem um:Tryz.prog.stopsHeard=true:=zK
theorem un:Tryz.prog.mayEnter=true:=zK
theorem uo:(Rows.faceAloneRow.lifted==Tryz.prog.liftsFinal)=true:=zK
theorem uq:(Tryz.prog.make==some Rows.faceAloneRow.make)=true:=zK
theorem closed:joinedFacts Tryz.prog 4 Tryz.f4 (OpenSpec.ofChange Rows.faceAloneSpec).bare Rows.faceAloneRow=true:=by
 simp only[joinedFacts,Bool.and_eq_true]
 exact⟨⟨⟨⟨⟨⟨⟨⟨⟨⟨⟨⟨⟨⟨⟨⟨⟨⟨⟨⟨⟨⟨⟨⟨⟨⟨⟨⟨⟨⟨⟨by kernel_rfl,k2⟩,k3⟩,by kernel_rfl⟩,by kernel_rfl⟩,by kernel_rfl⟩,by kernel_rfl⟩,by kernel_rfl⟩,by kernel_rfl⟩,uh⟩,ui⟩,uj⟩,uk⟩,by kernel_rfl⟩,by kernel_rfl⟩,by kernel_rfl⟩,by kernel_rfl⟩,by kernel_rfl⟩,by kernel_rfl⟩,by kernel_rfl⟩,by kernel_rfl⟩,by kernel_rfl⟩,ul⟩,by kernel_rfl⟩,um⟩,un⟩,uo⟩,uq⟩,by kernel_rfl⟩,by kernel_rfl⟩,by kernel_rfl⟩,by kernel_rfl⟩
theorem uZ:joinedFacts Tryz.pinned.checked.prog 4 Tryz.f4 (OpenSpec.ofChange Rows.faceAloneSpec).bare Rows.faceAloneRow=true:=by
 rw[show Tryz.pinned.checked.prog=Tryz.prog from rfl]
 exact closed
theorem uT:Rows.FaceAloneSaid:=
 OpenClaim.holds_of_cond 4 Tryz.f4 rfl rfl rfl rfl rfl rfl rfl ⟨rfl,rfl,rfl,rfl,rfl⟩ rfl rfl rfl rfl rfl zK Tryz.func4 uZ
  (of_decide_eq_true zK) (by unfold Func.isWrapper;first | (rw[if_pos (by decide +kernel)];kernel_rfl) | (rw[if_neg (by decide +kernel)];exact⟨rfl,rfl⟩))
  (fun os started H enc _ F=>by rw[OpenClaim.pre_eq_preRow];exact lifted os started H enc F)
theorem gM(f:FuncId)(fn:Func)(hf:Tryz.pinned.checked.prog.funcNamed "sphragis/sphragislaw18.FaceAlone" = some f) (hfn:Tryz.pinned.checked.prog.funcs[f]? = some fn):
  false=Tryz.pinned.checked.prog.looks []∧∀(j:Nat) t,fn.params[j]? = some t→Tryz.pinned.checked.prog.wantsStandIn t=false:=by
 obtain rfl:f=4:=zI ((show Tryz.prog.funcNamed "sphragis/sphragislaw18.FaceAlone" = some 4 by kernel_rfl).symm.trans hf) |>.symm
 obtain rfl:fn=Tryz.f4:=(zI (Tryz.func4.symm.trans hfn)).symm
 refine⟨by kernel_rfl,fun j t ht=>?_⟩
 rw[Tryz.params4]at ht
 have hm:t=22:=by simpa using Array.mem_of_getElem? ht
 rcases hm with rfl<;>exact(show _=false by kernel_rfl)
theorem card:Rows.FaceAloneCardSaid:=
 Claim7.holds_tied_plain_at .later [] _ _ _ _ uT (fun _ h=>by cases h) zK (fun _ h=>by cases h) faceAlone_row_tie rfl ⟨rfl,rfl⟩ zK rfl gM zK
end rFaceAlone
end Go.Proofs.YtpaohlmgfifebaaGreatDoor
