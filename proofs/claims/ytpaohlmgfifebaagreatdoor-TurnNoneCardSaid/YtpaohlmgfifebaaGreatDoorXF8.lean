/- The texts RTurnNone, one behind the other: walks of the program, and plain laws of what it computes. Conditions: as each theorem says. -/
import Derived.Test.YtpaohlmgfifebaaGreatDoorXF1
import Derived.Test.YtpaohlmgfifebaaGreatDoorXF2
import Derived.Test.YtpaohlmgfifebaaGreatDoorXF3
import Derived.Test.YtpaohlmgfifebaaGreatDoorXF4
import Derived.Test.YtpaohlmgfifebaaGreatDoorXF5
import Derived.Test.YtpaohlmgfifebaaGreatDoorXF6
import Derived.Test.YtpaohlmgfifebaaGreatDoorXF7
import Derived.Test.YtpaohlmgfifebaaGreatDoorCards
import Derived.Test.YtpaohlmgfifebaaGreatDoorTie

set_option linter.unusedVariables false
set_option linter.unusedSimpArgs false
set_option maxHeartbeats 4000000
set_option maxRecDepth 100000
namespace Go.Proofs.YtpaohlmgfifebaaGreatDoor
open Go
/- THE CARD OF TurnNone. No condition beyond the row's. -/
namespace rTurnNone
open Go Go.ChangeShapes Go.WideShapes Go.ChangeAt Go.RowKit
theorem oW(G:Type)(enc:TypeId×Value→G)(W:World)(base:Nat)(args:Array Value)(ds gs:List (DataW G))(before:List MemPlace)
(hval:∀(j:Nat) t v,Tryz.f6.params[j]? = some t→args[j]? = some v→Value.okWide Tryz.prog W .any base t v)
(hW:DataW.Whole enc Tryz.prog Tryz.f6.params.toList Rows.turnNoneSpec.vars false W args.toList ds gs before)(hL:laidMetH Tryz.prog Rows.turnNoneRow.laid W):
  Calls Tryz.prog 6 args W fun e W'=>∃v,e=.returned v∧Rows.turnNoneSpec.post enc Tryz.prog Tryz.f6 false true false false W args v W':=by
 have hW':=hW
 obtain⟨p,q,hA0,hV,rfl,hfz,hnd⟩:=hW
 have hA:DataW.TrodAll enc Tryz.prog W 0 (fun _=>true) true Tryz.f6.params.toList args.toList ds p:=hA0
 rw[Tryz.params6]at hA hval
 obtain⟨v0,vs0,d0,ds0,p0,q0,hargs,rfl,rfl,h0,r0⟩:=trodAll_cons hA
 obtain⟨v1,vs1,d1,ds1,p1,q1,rfl,rfl,rfl,h1,r1⟩:=trodAll_cons r0
 obtain⟨rfl,rfl,rfl⟩:=trodAll_nil r1
 obtain rfl:args=[v0,v1].toArray:=by rw[←hargs]
 obtain⟨rfl,rfl⟩:=trodVars_none hV
 obtain⟨x0,rfl⟩:=lI (hval 0 55 v0 rfl rfl) h0
 obtain⟨z1,rfl,wf1⟩:=pB (k:=.i64) zK (hval 1 3 v1 rfl rfl) h1
 obtain⟨hS,hT⟩:=pQ hL
 have hc:=XQ (K:=(· < W.heap.size)) (w0:=W) (H:=[]) (ji TN x0 z1 rfl) hS hT
 refine kz hc ?_
 rintro v W' ⟨M,rfl,rfl⟩ hb
 exact lT ol zK rfl zK Tryz.underlying4 hW' rfl rfl rfl hb
theorem om(os:Os):laidMet Tryz.prog Rows.turnNoneRow.laid ((gO os).forCall (fun _ _=>0) ⟨#[],#[.agg #[.int .u32 0,.string ⟨#[]⟩],.int .i64 0],[]⟩).memory:=
 laidMet_of_run' 8 zK zK
theorem yM(os:Os){H:Type}(enc:TypeId×Value→H):∃places,DataW.whole enc Tryz.prog ((gO os).forCall (fun _ _=>0) ⟨#[],#[.agg #[.int .u32 0,.string ⟨#[]⟩],.int .i64 0],[]⟩).memory Tryz.f6.params.toList Rows.turnNoneSpec.vars false (#[.agg #[.int .u32 0,.string ⟨#[]⟩],.int .i64 0]:Array Value).toList 8=some ([.agg [.lit (.int .u32 0),.lit (.string [])],.lit (.int .i64 0)],[],places):=
 ⟨[],by kernel_rfl⟩
theorem lifted(os:Os)(started:os.Started)(H:Type)(enc:TypeId×Value→H)(F:Stop.Interp):
  ReturnsInHanded {} Tryz.checked os 6 .any ((OpenSpec.ofChange Rows.turnNoneSpec).preRow enc Tryz.prog Tryz.f6 Rows.turnNoneRow.domain false Rows.turnNoneRow.laid) (((OpenSpec.ofChange Rows.turnNoneSpec).at F).post enc Tryz.prog Tryz.f6 false true false false):=by
 obtain⟨places,hx⟩:=yM os enc
 refine returnsInHanded_of_row (C:=Tryz.checked) (s:=OpenSpec.ofChange Rows.turnNoneSpec) zZ started zK Tryz.func6
  (witness_row_at (enc:=enc) (C:=Tryz.checked) false (gO os) #[.agg #[.int .u32 0,.string ⟨#[]⟩],.int .i64 0] rfl zK zK zK
   (OpenSpec.preRow_of_cond 8 hx zK (fun k hk=>by cases hk) zK (om os))) ?_
 intro W base args ds gs before hval hW _ _ _ hL _ _
 exact oW H enc W base args ds gs before hval hW hL
theorem k2:laidOutB Tryz.prog=true:=zK
theorem k3:mapsRowed Tryz.prog=true:=zK
theorem z4:(Rows.turnNoneRow.inPlace==Tryz.prog.inPlace 6)=true:=zK
theorem z5:(Rows.turnNoneRow.unfollowed==Tryz.prog.unfollowed 6)=true:=zK
theorem z6:(Rows.turnNoneRow.recurses==Tryz.prog.recurses 6)=true:=zK
theorem z7:(Rows.turnNoneRow.named==Tryz.prog.varsNamed 6)=true:=zK
theorem z8:(Rows.turnNoneRow.plainKeys==Tryz.prog.plainKeys)=true:=zK
theorem z9:Tryz.prog.stopsHeard=true:=zK
theorem k26:Tryz.prog.mayEnter=true:=zK
theorem k27:(Rows.turnNoneRow.lifted==Tryz.prog.liftsFinal)=true:=zK
theorem k28:(Tryz.prog.make==some Rows.turnNoneRow.make)=true:=zK
theorem gB:joinedFacts Tryz.prog 6 Tryz.f6 (OpenSpec.ofChange Rows.turnNoneSpec).bare Rows.turnNoneRow=true:=by
 simp only[joinedFacts,Bool.and_eq_true]
 exact⟨⟨⟨⟨⟨⟨⟨⟨⟨⟨⟨⟨⟨⟨⟨⟨⟨⟨⟨⟨⟨⟨⟨⟨⟨⟨⟨⟨⟨⟨⟨by kernel_rfl,k2⟩,k3⟩,by kernel_rfl⟩,by kernel_rfl⟩,by kernel_rfl⟩,by kernel_rfl⟩,by kernel_rfl⟩,by kernel_rfl⟩,z4⟩,z5⟩,z6⟩,z7⟩,by kernel_rfl⟩,by kernel_rfl⟩,by kernel_rfl⟩,by kernel_rfl⟩,by kernel_rfl⟩,by kernel_rfl⟩,by kernel_rfl⟩,by kernel_rfl⟩,by kernel_rfl⟩,z8⟩,by kernel_rfl⟩,z9⟩,k26⟩,k27⟩,k28⟩,by kernel_rfl⟩,by kernel_rfl⟩,by kernel_rfl⟩,by kernel_rfl⟩
theorem zp:joinedFacts Tryz.pinned.checked.prog 6 Tryz.f6 (OpenSpec.ofChange Rows.turnNoneSpec).bare Rows.turnNoneRow=true:=by
 rw[show Tryz.pinned.checked.prog=Tryz.prog from rfl]
 exact gB
theorem zk:Rows.TurnNoneSaid:=
 OpenClaim.holds_of_cond 6 Tryz.f6 rfl rfl rfl rfl rfl rfl rfl ⟨rfl,rfl,rfl,rfl,rfl⟩ rfl rfl rfl rfl rfl zK Tryz.func6 zp
  (of_decide_eq_true zK) (by unfold Func.isWrapper;first | (rw[if_pos (by decide +kernel)];kernel_rfl) | (rw[if_neg (by decide +kernel)];exact⟨rfl,rfl⟩))
  (fun os started H enc _ F=>by rw[OpenClaim.pre_eq_preRow];exact lifted os started H enc F)
theorem lS(f:FuncId)(fn:Func)(hf:Tryz.pinned.checked.prog.funcNamed "sphragis/sphragislaw17.TurnNone" = some f) (hfn:Tryz.pinned.checked.prog.funcs[f]? = some fn):
  false=Tryz.pinned.checked.prog.looks []∧∀(j:Nat) t,fn.params[j]? = some t→Tryz.pinned.checked.prog.wantsStandIn t=false:=by
 obtain rfl:f=6:=zI ((show Tryz.prog.funcNamed "sphragis/sphragislaw17.TurnNone" = some 6 by kernel_rfl).symm.trans hf) |>.symm
 obtain rfl:fn=Tryz.f6:=(zI (Tryz.func6.symm.trans hfn)).symm
 refine⟨by kernel_rfl,fun j t ht=>?_⟩
 rw[Tryz.params6]at ht
 have hm:t=55∨t=3:=by simpa using Array.mem_of_getElem? ht
 rcases hm with rfl | rfl<;>exact(show _=false by kernel_rfl)
theorem card:Rows.TurnNoneCardSaid:=
 Claim7.holds_tied_plain_at .later [] _ _ _ _ zk (fun _ h=>by cases h) zK (fun _ h=>by cases h) turnNone_row_tie rfl ⟨rfl,rfl⟩ zK rfl lS zK
end rTurnNone
end Go.Proofs.YtpaohlmgfifebaaGreatDoor
