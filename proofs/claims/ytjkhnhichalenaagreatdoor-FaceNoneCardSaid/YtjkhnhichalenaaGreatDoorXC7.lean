/- The texts RFaceNone, one behind the other: walks of the program, and plain laws of what it computes. Conditions: as each theorem says. -/
import Derived.Test.YtjkhnhichalenaaGreatDoorXC1
import Derived.Test.YtjkhnhichalenaaGreatDoorXC2
import Derived.Test.YtjkhnhichalenaaGreatDoorXC3
import Derived.Test.YtjkhnhichalenaaGreatDoorXC4
import Derived.Test.YtjkhnhichalenaaGreatDoorXC5
import Derived.Test.YtjkhnhichalenaaGreatDoorXC6
import Derived.Test.YtjkhnhichalenaaGreatDoorCards
import Derived.Test.YtjkhnhichalenaaGreatDoorTie

set_option linter.unusedVariables false
set_option linter.unusedSimpArgs false
set_option maxHeartbeats 4000000
set_option maxRecDepth 100000
namespace Go.Proofs.YtjkhnhichalenaaGreatDoor
open Go
/- THE CARD OF FaceNone. No condition beyond the row's. -/
namespace rFaceNone
open Go Go.ChangeShapes Go.WideShapes Go.ChangeAt Go.RowKit
theorem jF(G:Type)(enc:TypeId×Value→G)(W:World)(base:Nat)(args:Array Value)(ds gs:List (DataW G))(before:List MemPlace)
(hval:∀(j:Nat) t v,Tryz.f5.params[j]? = some t→args[j]? = some v→Value.okWide Tryz.prog W .any base t v)
(hW:DataW.Whole enc Tryz.prog Tryz.f5.params.toList Rows.faceNoneSpec.vars false W args.toList ds gs before)(hL:laidMetH Tryz.prog Rows.faceNoneRow.laid W):
  Calls Tryz.prog 5 args W fun e W'=>∃v,e=.returned v∧Rows.faceNoneSpec.post enc Tryz.prog Tryz.f5 false true false false W args v W':=by
 have hW':=hW
 obtain⟨p,q,hA0,hV,rfl,hfz,hnd⟩:=hW
 have hA:DataW.TrodAll enc Tryz.prog W 0 (fun _=>true) true Tryz.f5.params.toList args.toList ds p:=hA0
 rw[Tryz.params5]at hA hval
 obtain⟨v0,vs0,d0,ds0,p0,q0,hargs,rfl,rfl,h0,r0⟩:=trodAll_cons hA
 obtain⟨v1,vs1,d1,ds1,p1,q1,rfl,rfl,rfl,h1,r1⟩:=trodAll_cons r0
 obtain⟨rfl,rfl,rfl⟩:=trodAll_nil r1
 obtain rfl:args=[v0,v1].toArray:=by rw[←hargs]
 obtain⟨rfl,rfl⟩:=trodVars_none hV
 obtain⟨x0,rfl⟩:=fX (hval 0 35 v0 rfl rfl) h0
 obtain⟨x1,rfl⟩:=fW (hval 1 52 v1 rfl rfl) h1
 obtain⟨hS,hT⟩:=js hL
 have hc:=Uu (K:=(· < W.heap.size)) (w0:=W) (H:=[]) (de Q1 x0 x1 rfl) hS hT
 refine fH hc ?_
 rintro v W' ⟨M,rfl,rfl⟩ hb
 exact fj jR zK rfl zK Tryz.underlying4 hW' rfl rfl rfl hb
theorem jS(os:Os):laidMet Tryz.prog Rows.faceNoneRow.laid ((bL os).forCall (fun _ _=>0) ⟨#[],#[.agg #[.int .u64 0,.int .u32 0,.int .u32 0,.string ⟨#[]⟩],.agg #[.int .i64 0,.int .u32 0,.int .u32 0,.int .u32 0,.int .u32 0,.int .u32 0,.int .u32 0,.int .u64 0,.int .i64 0,.int .u64 0,.bool false]],[]⟩).memory:=
 laidMet_of_run' 8 zK zK
theorem r7(os:Os){H:Type}(enc:TypeId×Value→H):∃places,DataW.whole enc Tryz.prog ((bL os).forCall (fun _ _=>0) ⟨#[],#[.agg #[.int .u64 0,.int .u32 0,.int .u32 0,.string ⟨#[]⟩],.agg #[.int .i64 0,.int .u32 0,.int .u32 0,.int .u32 0,.int .u32 0,.int .u32 0,.int .u32 0,.int .u64 0,.int .i64 0,.int .u64 0,.bool false]],[]⟩).memory Tryz.f5.params.toList Rows.faceNoneSpec.vars false (#[.agg #[.int .u64 0,.int .u32 0,.int .u32 0,.string ⟨#[]⟩],.agg #[.int .i64 0,.int .u32 0,.int .u32 0,.int .u32 0,.int .u32 0,.int .u32 0,.int .u32 0,.int .u64 0,.int .i64 0,.int .u64 0,.bool false]]:Array Value).toList 8=some ([.agg [.lit (.int .u64 0),.lit (.int .u32 0),.lit (.int .u32 0),.lit (.string [])],.agg [.lit (.int .i64 0),.agg [.lit (.int .u32 0),.lit (.int .u32 0),.lit (.int .u32 0),.lit (.int .u32 0)],.lit (.int .u32 0),.lit (.int .u32 0),.lit (.int .u64 0),.lit (.int .i64 0),.lit (.int .u64 0),.lit (.bool false)]],[],places):=
 ⟨[],by kernel_rfl⟩
theorem lifted(os:Os)(started:os.Started)(H:Type)(enc:TypeId×Value→H)(F:Stop.Interp):
  ReturnsInHanded {} Tryz.checked os 5 .any ((OpenSpec.ofChange Rows.faceNoneSpec).preRow enc Tryz.prog Tryz.f5 Rows.faceNoneRow.domain false Rows.faceNoneRow.laid) (((OpenSpec.ofChange Rows.faceNoneSpec).at F).post enc Tryz.prog Tryz.f5 false true false false):=by
 obtain⟨places,hx⟩:=r7 os enc
 refine returnsInHanded_of_row (C:=Tryz.checked) (s:=OpenSpec.ofChange Rows.faceNoneSpec) sy started zK Tryz.func5
  (witness_row_at (enc:=enc) (C:=Tryz.checked) false (bL os) #[.agg #[.int .u64 0,.int .u32 0,.int .u32 0,.string ⟨#[]⟩],.agg #[.int .i64 0,.int .u32 0,.int .u32 0,.int .u32 0,.int .u32 0,.int .u32 0,.int .u32 0,.int .u64 0,.int .i64 0,.int .u64 0,.bool false]] rfl zK zK zK
   (OpenSpec.preRow_of_cond 8 hx zK (fun k hk=>by cases hk) zK (jS os))) ?_
 intro W base args ds gs before hval hW _ _ _ hL _ _
 exact jF H enc W base args ds gs before hval hW hL
theorem k2:laidOutB Tryz.prog=true:=zK
theorem k3:mapsRowed Tryz.prog=true:=zK
theorem td:(Rows.faceNoneRow.inPlace==Tryz.prog.inPlace 5)=true:=zK
theorem te:(Rows.faceNoneRow.unfollowed==Tryz.prog.unfollowed 5)=true:=zK
theorem tf:(Rows.faceNoneRow.recurses==Tryz.prog.recurses 5)=true:=zK
theorem tg:(Rows.faceNoneRow.named==Tryz.prog.varsNamed 5)=true:=zK
theorem ti:(Rows.faceNoneRow.plainKeys==Tryz.prog.plainKeys)=true:=zK
theorem tj:Tryz.prog.stopsHeard=true:=zK
theorem tn:Tryz.prog.mayEnter=true:=zK
theorem to:(Rows.faceNoneRow.lifted==Tryz.prog.liftsFinal)=true:=zK
theorem tp:(Tryz.prog.make==some Rows.faceNoneRow.make)=true:=zK
theorem closed:joinedFacts Tryz.prog 5 Tryz.f5 (OpenSpec.ofChange Rows.faceNoneSpec).bare Rows.faceNoneRow=true:=by
 simp only[joinedFacts,Bool.and_eq_true]
 exact⟨⟨⟨⟨⟨⟨⟨⟨⟨⟨⟨⟨⟨⟨⟨⟨⟨⟨⟨⟨⟨⟨⟨⟨⟨⟨⟨⟨⟨⟨⟨by kernel_rfl,k2⟩,k3⟩,by kernel_rfl⟩,by kernel_rfl⟩,by kernel_rfl⟩,by kernel_rfl⟩,by kernel_rfl⟩,by kernel_rfl⟩,td⟩,te⟩,tf⟩,tg⟩,by kernel_rfl⟩,by kernel_rfl⟩,by kernel_rfl⟩,by kernel_rfl⟩,by kernel_rfl⟩,by kernel_rfl⟩,by kernel_rfl⟩,by kernel_rfl⟩,by kernel_rfl⟩,ti⟩,by kernel_rfl⟩,tj⟩,tn⟩,to⟩,tp⟩,by kernel_rfl⟩,by kernel_rfl⟩,by kernel_rfl⟩,by kernel_rfl⟩
theorem tV:joinedFacts Tryz.pinned.checked.prog 5 Tryz.f5 (OpenSpec.ofChange Rows.faceNoneSpec).bare Rows.faceNoneRow=true:=by
 rw[show Tryz.pinned.checked.prog=Tryz.prog from rfl]
 exact closed
theorem tO:Rows.FaceNoneSaid:=
 OpenClaim.holds_of_cond 5 Tryz.f5 rfl rfl rfl rfl rfl rfl rfl ⟨rfl,rfl,rfl,rfl,rfl⟩ rfl rfl rfl rfl rfl zK Tryz.func5 tV
  (of_decide_eq_true zK) (by unfold Func.isWrapper;first | (rw[if_pos (by decide +kernel)];kernel_rfl) | (rw[if_neg (by decide +kernel)];exact⟨rfl,rfl⟩))
  (fun os started H enc _ F=>by rw[OpenClaim.pre_eq_preRow];exact lifted os started H enc F)
theorem fi(f:FuncId)(fn:Func)(hf:Tryz.pinned.checked.prog.funcNamed "sphragis/sphragislaw18.FaceNone" = some f) (hfn:Tryz.pinned.checked.prog.funcs[f]? = some fn):
  false=Tryz.pinned.checked.prog.looks []∧∀(j:Nat) t,fn.params[j]? = some t→Tryz.pinned.checked.prog.wantsStandIn t=false:=by
 obtain rfl:f=5:=zI ((show Tryz.prog.funcNamed "sphragis/sphragislaw18.FaceNone" = some 5 by kernel_rfl).symm.trans hf) |>.symm
 obtain rfl:fn=Tryz.f5:=(zI (Tryz.func5.symm.trans hfn)).symm
 refine⟨by kernel_rfl,fun j t ht=>?_⟩
 rw[Tryz.params5]at ht
 have hm:t=35∨t=52:=by simpa using Array.mem_of_getElem? ht
 rcases hm with rfl | rfl<;>exact(show _=false by kernel_rfl)
theorem card:Rows.FaceNoneCardSaid:=
 Claim7.holds_tied_plain_at .later [] _ _ _ _ tO (fun _ h=>by cases h) zK (fun _ h=>by cases h) faceNone_row_tie rfl ⟨rfl,rfl⟩ zK rfl fi zK
end rFaceNone
end Go.Proofs.YtjkhnhichalenaaGreatDoor
