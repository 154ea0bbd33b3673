/- The texts RGroveSaves, one behind the other: each bears its own sentence. Conditions: as each says. -/
import Derived.Test.YtkibffdipniemaaGreatDoorMH1
import Derived.Test.YtkibffdipniemaaGreatDoorMH2
import Derived.Test.YtkibffdipniemaaGreatDoorMH3
import Derived.Test.YtkibffdipniemaaGreatDoorMH4
import Derived.Test.YtkibffdipniemaaGreatDoorMH5
import Derived.Test.YtkibffdipniemaaGreatDoorMH6
import Derived.Test.YtkibffdipniemaaGreatDoorMH7
import Derived.Test.YtkibffdipniemaaGreatDoorCards
import Derived.Test.YtkibffdipniemaaGreatDoorTie

set_option linter.unusedVariables false
set_option linter.unusedSimpArgs false
set_option maxHeartbeats 4000000
set_option maxRecDepth 100000
namespace Go.Proofs.YtkibffdipniemaaGreatDoor
open Go
/- THE CARD OF GroveSaves. No condition beyond the row's. -/
namespace rGroveSaves
open Go Go.ChangeShapes Go.WideShapes Go.ChangeAt Go.RowKit
theorem ge(G:Type)(enc:TypeId×Value→G)(W:World)(base:Nat)(args:Array Value)(ds gs:List (DataW G))(before:List MemPlace)
(hval:∀(j:Nat) t v,Tryz.f9.params[j]? = some t→args[j]? = some v→Value.okWide Tryz.prog W .any base t v)
(hW:DataW.Whole enc Tryz.prog Tryz.f9.params.toList Rows.groveSavesSpec.vars false W args.toList ds gs before)(hL:laidMetH Tryz.prog Rows.groveSavesRow.laid W):
  Calls Tryz.prog 9 args W fun e W'=>∃v,e=.returned v∧Rows.groveSavesSpec.post enc Tryz.prog Tryz.f9 false true false false W args v W':=by
 have hW':=hW
 obtain⟨p,q,hA0,hV,rfl,hfz,hnd⟩:=hW
 have hA:DataW.TrodAll enc Tryz.prog W 0 (fun _=>true) true Tryz.f9.params.toList args.toList ds p:=hA0
 rw[Tryz.params9]at hA hval
 obtain⟨v0,vs0,d0,ds0,p0,q0,hargs,rfl,rfl,h0,r0⟩:=trodAll_cons hA
 obtain⟨v1,vs1,d1,ds1,p1,q1,rfl,rfl,rfl,h1,r1⟩:=trodAll_cons r0
 obtain⟨v2,vs2,d2,ds2,p2,q2,rfl,rfl,rfl,h2,r2⟩:=trodAll_cons r1
 obtain⟨rfl,rfl,rfl⟩:=trodAll_nil r2
 obtain rfl:args=[v0,v1,v2].toArray:=by rw[←hargs]
 obtain⟨rfl,rfl⟩:=trodVars_none hV
 obtain⟨z0,rfl,wf0⟩:=iL (k:=.i64) zK (hval 0 3 v0 rfl rfl) h0
 obtain⟨l1,hk1⟩:=Wc (hval 1 35 v1 rfl rfl) h1
 obtain⟨l2,hk2⟩:=Wc (hval 2 35 v2 rfl rfl) h2
 obtain⟨hS,hT⟩:=hE hL
 have hc:=qL (K:=(· < W.heap.size)) (w0:=W) (H:=[]) (XI PR z0 l1 l2 rfl) hS hT hk1 hk2
 refine eb hc ?_
 rintro v W' ⟨M,rfl,rfl⟩ hb
 exact dY hK zK rfl zK Tryz.underlying4 hW' rfl rfl rfl hb
theorem gg(os:Os):laidMet Tryz.prog Rows.groveSavesRow.laid ((Yr os).forCall (fun _ _=>0) ⟨#[],#[.int .i64 0,.slice none 0 0,.slice none 0 0],[]⟩).memory:=
 laidMet_of_run' 8 zK zK
theorem qV(os:Os){H:Type}(enc:TypeId×Value→H):∃places,DataW.whole enc Tryz.prog ((Yr os).forCall (fun _ _=>0) ⟨#[],#[.int .i64 0,.slice none 0 0,.slice none 0 0],[]⟩).memory Tryz.f9.params.toList Rows.groveSavesSpec.vars false (#[.int .i64 0,.slice none 0 0,.slice none 0 0]:Array Value).toList 8=some ([.lit (.int .i64 0),.nil,.nil],[],places):=
 ⟨[],by kernel_rfl⟩
theorem nm(os:Os)(started:os.Started)(H:Type)(enc:TypeId×Value→H)(F:Stop.Interp):
  ReturnsInHanded {} Tryz.checked os 9 .any ((OpenSpec.ofChange Rows.groveSavesSpec).preRow enc Tryz.prog Tryz.f9 Rows.groveSavesRow.domain false Rows.groveSavesRow.laid) (((OpenSpec.ofChange Rows.groveSavesSpec).at F).post enc Tryz.prog Tryz.f9 false true false false):=by
 obtain⟨places,hx⟩:=qV os enc
 refine returnsInHanded_of_row (C:=Tryz.checked) (s:=OpenSpec.ofChange Rows.groveSavesSpec) qf started zK Tryz.func9
  (witness_row_at (enc:=enc) (C:=Tryz.checked) false (Yr os) #[.int .i64 0,.slice none 0 0,.slice none 0 0] rfl zK zK zK
   (OpenSpec.preRow_of_cond 8 hx zK (fun k hk=>by cases hk) zK (gg os))) ?_
 intro W base args ds gs before hval hW _ _ _ hL _ _
 exact ge H enc W base args ds gs before hval hW hL
theorem qz:Rows.GroveSavesSaid:=
 OpenClaim.holds_of_cond 9 Tryz.f9 rfl rfl rfl rfl rfl rfl rfl ⟨rfl,rfl,rfl,rfl,rfl⟩ rfl rfl rfl rfl rfl zK Tryz.func9 zK
  (of_decide_eq_true zK) (by unfold Func.isWrapper;first | (rw[if_pos (by decide +kernel)];kernel_rfl) | (rw[if_neg (by decide +kernel)];exact⟨rfl,rfl⟩))
  (fun os started H enc _ F=>by rw[OpenClaim.pre_eq_preRow];exact nm os started H enc F)
theorem dE(f:FuncId)(fn:Func)(hf:Tryz.pinned.checked.prog.funcNamed "sphragis/sphragislaw14.GroveSaves" = some f) (hfn:Tryz.pinned.checked.prog.funcs[f]? = some fn):
  false=Tryz.pinned.checked.prog.looks []∧∀(j:Nat) t,fn.params[j]? = some t→Tryz.pinned.checked.prog.wantsStandIn t=false:=by
 obtain rfl:f=9:=Option.some.inj ((show Tryz.prog.funcNamed "sphragis/sphragislaw14.GroveSaves" = some 9 by kernel_rfl).symm.trans hf) |>.symm
 obtain rfl:fn=Tryz.f9:=(Option.some.inj (Tryz.func9.symm.trans hfn)).symm
 refine⟨by kernel_rfl,fun j t ht=>?_⟩
 rw[Tryz.params9]at ht
 have hm:t=3∨t=35:=by simpa using Array.mem_of_getElem? ht
 rcases hm with rfl | rfl<;>exact(show _=false by kernel_rfl)
theorem card:Rows.GroveSavesCardSaid:=
 Claim7.holds_tied_plain_at .later [] _ _ _ _ qz (fun _ h=>by cases h) zK (fun _ h=>by cases h) groveSaves_row_tie rfl ⟨rfl,rfl⟩ zK rfl dE zK
end rGroveSaves
end Go.Proofs.YtkibffdipniemaaGreatDoor
