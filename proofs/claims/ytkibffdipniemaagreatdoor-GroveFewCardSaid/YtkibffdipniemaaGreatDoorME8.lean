/- The texts RGroveFew, one behind the other: each bears its own sentence. Conditions: as each says. -/
import Derived.Test.YtkibffdipniemaaGreatDoorME1
import Derived.Test.YtkibffdipniemaaGreatDoorME2
import Derived.Test.YtkibffdipniemaaGreatDoorME3
import Derived.Test.YtkibffdipniemaaGreatDoorME4
import Derived.Test.YtkibffdipniemaaGreatDoorME5
import Derived.Test.YtkibffdipniemaaGreatDoorME6
import Derived.Test.YtkibffdipniemaaGreatDoorME7
import Derived.Test.YtkibffdipniemaaGreatDoorCards
import Derived.Test.YtkibffdipniemaaGreatDoorTie

set_option linter.unusedVariables false
set_option linter.unusedSimpArgs false
set_option maxHeartbeats 1000000
/- THE CARD OF GroveFew. No condition beyond the row's. -/
namespace Go.Proofs.YtkibffdipniemaaGreatDoor.rGroveFew
open Go Go.ChangeShapes Go.WideShapes Go.ChangeAt Go.RowKit

set_option maxRecDepth 100000 in
theorem contract (G:Type) (enc:TypeId×Value→G) (W:World) (base:Nat) (args:Array Value) (ds gs:List (DataW G)) (before:List MemPlace)
  (hval:∀(j:Nat) t v,Tryz.f8.params[j]? = some t→args[j]? = some v→Value.okWide Tryz.prog W .any base t v)
  (hW:DataW.Whole enc Tryz.prog Tryz.f8.params.toList Rows.groveFewSpec.vars false W args.toList ds gs before) (hL:laidMetH Tryz.prog Rows.groveFewRow.laid W):
  Calls Tryz.prog 8 args W fun e W'=>∃v,e=.returned v∧Rows.groveFewSpec.post enc Tryz.prog Tryz.f8 false true false false W args v W':=by
 have hW':=hW
 obtain ⟨p,q,hA0,hV,rfl,hfz,hnd⟩:=hW
 have hA:DataW.TrodAll enc Tryz.prog W 0 (fun _=>true) true Tryz.f8.params.toList args.toList ds p:=hA0
 rw [Tryz.params8] at hA hval
 obtain ⟨v0,vs0,d0,ds0,p0,q0,hargs,rfl,rfl,h0,r0⟩:=trodAll_cons hA
 obtain ⟨rfl,rfl,rfl⟩:=trodAll_nil r0
 obtain rfl:args=[v0].toArray:=by rw [←hargs]
 obtain ⟨rfl,rfl⟩:=trodVars_none hV
 obtain ⟨l0,hk0⟩:=open_rows (hval 0 35 v0 rfl rfl) h0
 have hS:=shaT_of hL
 have hc:=c_lGW (K:=(· < W.heap.size)) (w0:=W) (H:=[]) (p_GroveFew constT l0) hS hk0
 refine calls_row hc ?_
 rintro v W' ⟨M,rfl,rfl⟩ hb
 exact post_true laidOut' (by kernel_rfl) rfl (by kernel_rfl) Tryz.underlying4 hW' rfl rfl rfl hb

theorem laid_met (os:Os):laidMet Tryz.prog Rows.groveFewRow.laid ((laidW os).forCall (fun _ _=>0) ⟨#[],#[.slice none 0 0],[]⟩).memory:=
 laidMet_of_run' 8 (by kernel_rfl) (by kernel_rfl)
theorem reads (os:Os) {H:Type} (enc:TypeId×Value→H):∃places,DataW.whole enc Tryz.prog ((laidW os).forCall (fun _ _=>0) ⟨#[],#[.slice none 0 0],[]⟩).memory Tryz.f8.params.toList Rows.groveFewSpec.vars false (#[.slice none 0 0]:Array Value).toList 8=some ([.nil],[],places):=
 ⟨[],by kernel_rfl⟩

set_option maxRecDepth 100000 in
theorem lifted (os:Os) (started:os.Started) (H:Type) (enc:TypeId×Value→H) (F:Stop.Interp):
  ReturnsInHanded {} Tryz.checked os 8 .any ((OpenSpec.ofChange Rows.groveFewSpec).preRow enc Tryz.prog Tryz.f8 Rows.groveFewRow.domain false Rows.groveFewRow.laid) (((OpenSpec.ofChange Rows.groveFewSpec).at F).post enc Tryz.prog Tryz.f8 false true false false):=by
 obtain ⟨places,hx⟩:=reads os enc
 refine returnsInHanded_of_row (C:=Tryz.checked) (s:=OpenSpec.ofChange Rows.groveFewSpec) own' started (by kernel_rfl) Tryz.func8
  (witness_row_at (enc:=enc) (C:=Tryz.checked) false (laidW os) #[.slice none 0 0] rfl (by kernel_rfl) (by kernel_rfl) (by kernel_rfl)
   (OpenSpec.preRow_of_cond 8 hx (by kernel_rfl) (fun k hk=>by cases hk) (by kernel_rfl) (laid_met os))) ?_
 intro W base args ds gs before hval hW _ _ _ hL _ _
 exact contract H enc W base args ds gs before hval hW hL

theorem said:Rows.GroveFewSaid:=
 OpenClaim.holds_of_cond 8 Tryz.f8 rfl rfl rfl rfl rfl rfl rfl ⟨rfl,rfl,rfl,rfl,rfl⟩ rfl rfl rfl rfl rfl (by kernel_rfl) Tryz.func8 (by kernel_rfl)
  (of_decide_eq_true (by kernel_rfl)) (by unfold Func.isWrapper;first | (rw [if_pos (by decide +kernel)];kernel_rfl) | (rw [if_neg (by decide +kernel)];exact ⟨rfl,rfl⟩))
  (fun os started H enc _ F=>by rw [OpenClaim.pre_eq_preRow];exact lifted os started H enc F)

theorem plain (f:FuncId) (fn:Func) (hf:Tryz.pinned.checked.prog.funcNamed "sphragis/sphragislaw14.GroveFew" = some f) (hfn:Tryz.pinned.checked.prog.funcs[f]? = some fn):
  false=Tryz.pinned.checked.prog.looks []∧∀(j:Nat) t,fn.params[j]? = some t→Tryz.pinned.checked.prog.wantsStandIn t=false:=by
 obtain rfl:f=8:=Option.some.inj ((show Tryz.prog.funcNamed "sphragis/sphragislaw14.GroveFew" = some 8 by kernel_rfl).symm.trans hf) |>.symm
 obtain rfl:fn=Tryz.f8:=(Option.some.inj (Tryz.func8.symm.trans hfn)).symm
 refine ⟨by kernel_rfl,fun j t ht=>?_⟩
 rw [Tryz.params8] at ht
 have hm:t=35:=by simpa using Array.mem_of_getElem? ht
 rcases hm with rfl<;>exact (show _=false by kernel_rfl)

theorem card:Rows.GroveFewCardSaid:=
 Claim7.holds_tied_plain_at .later [] _ _ _ _ said (fun _ h=>by cases h) (by kernel_rfl) (fun _ h=>by cases h) groveFew_row_tie rfl ⟨rfl,rfl⟩ (by kernel_rfl) rfl plain (by kernel_rfl)
end Go.Proofs.YtkibffdipniemaaGreatDoor.rGroveFew
