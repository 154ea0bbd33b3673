/- The texts RTurnNews, one behind the other: walks of the program, and plain laws of what it computes. Conditions: as each theorem says. -/
import Derived.Test.YtpaohlmgfifebaaGreatDoorXG1
import Derived.Test.YtpaohlmgfifebaaGreatDoorXG2
import Derived.Test.YtpaohlmgfifebaaGreatDoorXG3
import Derived.Test.YtpaohlmgfifebaaGreatDoorXG4
import Derived.Test.YtpaohlmgfifebaaGreatDoorXG5
import Derived.Test.YtpaohlmgfifebaaGreatDoorXG6
import Derived.Test.YtpaohlmgfifebaaGreatDoorXG7
import Derived.Test.YtpaohlmgfifebaaGreatDoorCards
import Derived.Test.YtpaohlmgfifebaaGreatDoorTie

set_option linter.unusedVariables false
set_option linter.unusedSimpArgs false
set_option maxHeartbeats 4000000
set_option maxRecDepth 100000
namespace Go.Proofs.YtpaohlmgfifebaaGreatDoor
open Go
/- THE CARD OF TurnNews. No condition beyond the row's. -/
namespace rTurnNews
open Go Go.ChangeShapes Go.WideShapes Go.ChangeAt Go.RowKit
theorem oU(G:Type)(enc:TypeId×Value→G)(W:World)(base:Nat)(args:Array Value)(ds gs:List (DataW G))(before:List MemPlace)
(hval:∀(j:Nat) t v,Tryz.f5.params[j]? = some t→args[j]? = some v→Value.okWide Tryz.prog W .any base t v)
(hW:DataW.Whole enc Tryz.prog Tryz.f5.params.toList Rows.turnNewsSpec.vars false W args.toList ds gs before)(hL:laidMetH Tryz.prog Rows.turnNewsRow.laid W):
  Calls Tryz.prog 5 args W fun e W'=>∃v,e=.returned v∧Rows.turnNewsSpec.post enc Tryz.prog Tryz.f5 false true false false W args v W':=by
 have hW':=hW
 obtain⟨p,q,hA0,hV,rfl,hfz,hnd⟩:=hW
 have hA:DataW.TrodAll enc Tryz.prog W 0 (fun _=>true) true Tryz.f5.params.toList args.toList ds p:=hA0
 rw[Tryz.params5]at hA hval
 obtain⟨v0,vs0,d0,ds0,p0,q0,hargs,rfl,rfl,h0,r0⟩:=trodAll_cons hA
 obtain⟨rfl,rfl,rfl⟩:=trodAll_nil r0
 obtain rfl:args=[v0].toArray:=by rw[←hargs]
 obtain⟨rfl,rfl⟩:=trodVars_none hV
 obtain⟨z0,rfl,wf0⟩:=o8 (k:=.i64) zK (hval 0 3 v0 rfl rfl) h0
 obtain⟨hS,hT⟩:=pM hL
 cases hcase:or (decide (z0<1)) (decide (1000<z0))
 have hc:=XP (K:=(· < W.heap.size)) (w0:=W) (H:=[]) (jj Rg z0 hcase rfl) hS hT
 refine az hc ?_
 rintro v W' ⟨M,rfl,rfl⟩ hb
 exact cJ dr zK rfl zK Tryz.underlying4 hW' rfl rfl rfl hb
 have hc:=WV (K:=(· < W.heap.size)) (w0:=W) (H:=[]) (gX Rg z0 hcase rfl) hS hT
 refine az hc ?_
 rintro v W' ⟨M,rfl,rfl⟩ hb
 exact cJ dr zK rfl zK Tryz.underlying4 hW' rfl rfl rfl hb
theorem og(os:Os):laidMet Tryz.prog Rows.turnNewsRow.laid ((gO os).forCall (fun _ _=>0) ⟨#[],#[.int .i64 0],[]⟩).memory:=
 laidMet_of_run' 8 zK zK
theorem yF(os:Os){H:Type}(enc:TypeId×Value→H):∃places,DataW.whole enc Tryz.prog ((gO os).forCall (fun _ _=>0) ⟨#[],#[.int .i64 0],[]⟩).memory Tryz.f5.params.toList Rows.turnNewsSpec.vars false (#[.int .i64 0]:Array Value).toList 8=some ([.lit (.int .i64 0)],[],places):=
 ⟨[],by kernel_rfl⟩
theorem lifted(os:Os)(started:os.Started)(H:Type)(enc:TypeId×Value→H)(F:Stop.Interp):
  ReturnsInHanded {} Tryz.checked os 5 .any ((OpenSpec.ofChange Rows.turnNewsSpec).preRow enc Tryz.prog Tryz.f5 Rows.turnNewsRow.domain false Rows.turnNewsRow.laid) (((OpenSpec.ofChange Rows.turnNewsSpec).at F).post enc Tryz.prog Tryz.f5 false true false false):=by
 obtain⟨places,hx⟩:=yF os enc
 refine returnsInHanded_of_row (C:=Tryz.checked) (s:=OpenSpec.ofChange Rows.turnNewsSpec) zG started zK Tryz.func5
  (witness_row_at (enc:=enc) (C:=Tryz.checked) false (gO os) #[.int .i64 0] rfl zK zK zK
   (OpenSpec.preRow_of_cond 8 hx zK (fun k hk=>by cases hk) zK (og os))) ?_
 intro W base args ds gs before hval hW _ _ _ hL _ _
 exact oU H enc W base args ds gs before hval hW hL
theorem k2:laidOutB Tryz.prog=true:=zK
theorem k3:mapsRowed Tryz.prog=true:=zK
theorem zq:(Rows.turnNewsRow.inPlace==Tryz.prog.inPlace 5)=true:=zK
theorem zr:(Rows.turnNewsRow.unfollowed==Tryz.prog.unfollowed 5)=true:=zK
theorem zu:(Rows.turnNewsRow.recurses==Tryz.prog.recurses 5)=true:=zK
theorem zw:(Rows.turnNewsRow.named==Tryz.prog.varsNamed 5)=true:=zK
theorem zx:(Rows.turnNewsRow.plainKeys==Tryz.prog.plainKeys)=true:=zK
theorem zy:Tryz.prog.stopsHeard=true:=zK
theorem zz:Tryz.prog.mayEnter=true:=zK
theorem z4:(Rows.turnNewsRow.lifted==Tryz.prog.liftsFinal)=true:=zK
theorem z5:(Tryz.prog.make==some Rows.turnNewsRow.make)=true:=zK
theorem gB:joinedFacts Tryz.prog 5 Tryz.f5 (OpenSpec.ofChange Rows.turnNewsSpec).bare Rows.turnNewsRow=true:=by
 simp only[joinedFacts,Bool.and_eq_true]
 exact⟨⟨⟨⟨⟨⟨⟨⟨⟨⟨⟨⟨⟨⟨⟨⟨⟨⟨⟨⟨⟨⟨⟨⟨⟨⟨⟨⟨⟨⟨⟨by kernel_rfl,k2⟩,k3⟩,by kernel_rfl⟩,by kernel_rfl⟩,by kernel_rfl⟩,by kernel_rfl⟩,by kernel_rfl⟩,by kernel_rfl⟩,zq⟩,zr⟩,zu⟩,zw⟩,by kernel_rfl⟩,by kernel_rfl⟩,by kernel_rfl⟩,by kernel_rfl⟩,by kernel_rfl⟩,by kernel_rfl⟩,by kernel_rfl⟩,by kernel_rfl⟩,by kernel_rfl⟩,zx⟩,by kernel_rfl⟩,zy⟩,zz⟩,z4⟩,z5⟩,by kernel_rfl⟩,by kernel_rfl⟩,by kernel_rfl⟩,by kernel_rfl⟩
theorem zi:joinedFacts Tryz.pinned.checked.prog 5 Tryz.f5 (OpenSpec.ofChange Rows.turnNewsSpec).bare Rows.turnNewsRow=true:=by
 rw[show Tryz.pinned.checked.prog=Tryz.prog from rfl]
 exact gB
theorem zc:Rows.TurnNewsSaid:=
 OpenClaim.holds_of_cond 5 Tryz.f5 rfl rfl rfl rfl rfl rfl rfl ⟨rfl,rfl,rfl,rfl,rfl⟩ rfl rfl rfl rfl rfl zK Tryz.func5 zi
  (of_decide_eq_true zK) (by unfold Func.isWrapper;first | (rw[if_pos (by decide +kernel)];kernel_rfl) | (rw[if_neg (by decide +kernel)];exact⟨rfl,rfl⟩))
  (fun os started H enc _ F=>by rw[OpenClaim.pre_eq_preRow];exact lifted os started H enc F)
theorem lP(f:FuncId)(fn:Func)(hf:Tryz.pinned.checked.prog.funcNamed "sphragis/sphragislaw17.TurnNews" = some f) (hfn:Tryz.pinned.checked.prog.funcs[f]? = some fn):
  false=Tryz.pinned.checked.prog.looks []∧∀(j:Nat) t,fn.params[j]? = some t→Tryz.pinned.checked.prog.wantsStandIn t=false:=by
 obtain rfl:f=5:=zI ((show Tryz.prog.funcNamed "sphragis/sphragislaw17.TurnNews" = some 5 by kernel_rfl).symm.trans hf) |>.symm
 obtain rfl:fn=Tryz.f5:=(zI (Tryz.func5.symm.trans hfn)).symm
 refine⟨by kernel_rfl,fun j t ht=>?_⟩
 rw[Tryz.params5]at ht
 have hm:t=3:=by simpa using Array.mem_of_getElem? ht
 rcases hm with rfl<;>exact(show _=false by kernel_rfl)
theorem card:Rows.TurnNewsCardSaid:=
 Claim7.holds_tied_plain_at .later [] _ _ _ _ zc (fun _ h=>by cases h) zK (fun _ h=>by cases h) turnNews_row_tie rfl ⟨rfl,rfl⟩ zK rfl lP zK
end rTurnNews
end Go.Proofs.YtpaohlmgfifebaaGreatDoor
