/- The texts RGroveNone, one behind the other: each bears its own sentence. Conditions: as each says. -/
import Derived.Test.YtkibffdipniemaaGreatDoorMN1
import Derived.Test.YtkibffdipniemaaGreatDoorMN2
import Derived.Test.YtkibffdipniemaaGreatDoorMN3
import Derived.Test.YtkibffdipniemaaGreatDoorMN4
import Derived.Test.YtkibffdipniemaaGreatDoorMN5
import Derived.Test.YtkibffdipniemaaGreatDoorMN6
import Derived.Test.YtkibffdipniemaaGreatDoorMN7
import Derived.Test.YtkibffdipniemaaGreatDoorCards
import Derived.Test.YtkibffdipniemaaGreatDoorTie

set_option linter.unusedVariables false
set_option linter.unusedSimpArgs false
set_option maxHeartbeats 1000000
/- THE CARD OF GroveNone. No condition beyond the row's. -/
namespace Go.Proofs.YtkibffdipniemaaGreatDoor.rGroveNone
open Go Go.ChangeShapes Go.WideShapes Go.ChangeAt Go.RowKit

set_option maxRecDepth 100000 in
theorem contract (G:Type) (enc:TypeId×Value→G) (W:World) (base:Nat) (args:Array Value) (ds gs:List (DataW G)) (before:List MemPlace)
  (hval:∀(j:Nat) t v,Tryz.f6.params[j]? = some t→args[j]? = some v→Value.okWide Tryz.prog W .any base t v)
  (hW:DataW.Whole enc Tryz.prog Tryz.f6.params.toList Rows.groveNoneSpec.vars false W args.toList ds gs before) (hL:laidMetH Tryz.prog Rows.groveNoneRow.laid W):
  Calls Tryz.prog 6 args W fun e W'=>∃v,e=.returned v∧Rows.groveNoneSpec.post enc Tryz.prog Tryz.f6 false true false false W args v W':=by
 have hW':=hW
 obtain ⟨p,q,hA0,hV,rfl,hfz,hnd⟩:=hW
 have hA:DataW.TrodAll enc Tryz.prog W 0 (fun _=>true) true Tryz.f6.params.toList args.toList ds p:=hA0
 rw [Tryz.params6] at hA hval
 obtain ⟨v0,vs0,d0,ds0,p0,q0,hargs,rfl,rfl,h0,r0⟩:=trodAll_cons hA
 obtain ⟨v1,vs1,d1,ds1,p1,q1,rfl,rfl,rfl,h1,r1⟩:=trodAll_cons r0
 obtain ⟨rfl,rfl,rfl⟩:=trodAll_nil r1
 obtain rfl:args=[v0,v1].toArray:=by rw [←hargs]
 obtain ⟨rfl,rfl⟩:=trodVars_none hV
 obtain ⟨l0,hk0⟩:=open_rows (hval 0 35 v0 rfl rfl) h0
 obtain ⟨x1,rfl⟩:=open_ref Tryz.underlying31 (by kernel_rfl) rfl rfl (by kernel_rfl) (by kernel_rfl) Tryz.underlying29 Tryz.underlying9 (hval 1 31 v1 rfl rfl) h1
 have hS:=shaT_of hL
 have hc:=c_lGN (K:=(· < W.heap.size)) (w0:=W) (H:=[]) (p_GroveNone constT l0 x1) hS hk0
 refine calls_row hc ?_
 rintro v W' ⟨M,rfl,rfl⟩ hb
 exact post_true laidOut' (by kernel_rfl) rfl (by kernel_rfl) Tryz.underlying4 hW' rfl rfl rfl hb

theorem laid_met (os:Os):laidMet Tryz.prog Rows.groveNoneRow.laid ((laidW os).forCall (fun _ _=>0) ⟨#[],#[.slice none 0 0,.agg #[.int .u32 0,.string ⟨#[]⟩]],[]⟩).memory:=
 laidMet_of_run' 8 (by kernel_rfl) (by kernel_rfl)
theorem reads (os:Os) {H:Type} (enc:TypeId×Value→H):∃places,DataW.whole enc Tryz.prog ((laidW os).forCall (fun _ _=>0) ⟨#[],#[.slice none 0 0,.agg #[.int .u32 0,.string ⟨#[]⟩]],[]⟩).memory Tryz.f6.params.toList Rows.groveNoneSpec.vars false (#[.slice none 0 0,.agg #[.int .u32 0,.string ⟨#[]⟩]]:Array Value).toList 8=some ([.nil,.agg [.lit (.int .u32 0),.lit (.string [])]],[],places):=
 ⟨[],by kernel_rfl⟩

set_option maxRecDepth 100000 in
theorem lifted (os:Os) (started:os.Started) (H:Type) (enc:TypeId×Value→H) (F:Stop.Interp):
  ReturnsInHanded {} Tryz.checked os 6 .any ((OpenSpec.ofChange Rows.groveNoneSpec).preRow enc Tryz.prog Tryz.f6 Rows.groveNoneRow.domain false Rows.groveNoneRow.laid) (((OpenSpec.ofChange Rows.groveNoneSpec).at F).post enc Tryz.prog Tryz.f6 false true false false):=by
 obtain ⟨places,hx⟩:=reads os enc
 refine returnsInHanded_of_row (C:=Tryz.checked) (s:=OpenSpec.ofChange Rows.groveNoneSpec) own' started (by kernel_rfl) Tryz.func6
  (witness_row_at (enc:=enc) (C:=Tryz.checked) false (laidW os) #[.slice none 0 0,.agg #[.int .u32 0,.string ⟨#[]⟩]] rfl (by kernel_rfl) (by kernel_rfl) (by kernel_rfl)
   (OpenSpec.preRow_of_cond 8 hx (by kernel_rfl) (fun k hk=>by cases hk) (by kernel_rfl) (laid_met os))) ?_
 intro W base args ds gs before hval hW _ _ _ hL _ _
 exact contract H enc W base args ds gs before hval hW hL

theorem said:Rows.GroveNoneSaid:=
 OpenClaim.holds_of_cond 6 Tryz.f6 rfl rfl rfl rfl rfl rfl rfl ⟨rfl,rfl,rfl,rfl,rfl⟩ rfl rfl rfl rfl rfl (by kernel_rfl) Tryz.func6 (by kernel_rfl)
  (of_decide_eq_true (by kernel_rfl)) (by unfold Func.isWrapper;first | (rw [if_pos (by decide +kernel)];kernel_rfl) | (rw [if_neg (by decide +kernel)];exact ⟨rfl,rfl⟩))
  (fun os started H enc _ F=>by rw [OpenClaim.pre_eq_preRow];exact lifted os started H enc F)

theorem plain (f:FuncId) (fn:Func) (hf:Tryz.pinned.checked.prog.funcNamed "sphragis/sphragislaw14.GroveNone" = some f) (hfn:Tryz.pinned.checked.prog.funcs[f]? = some fn):
  false=Tryz.pinned.checked.prog.looks []∧∀(j:Nat) t,fn.params[j]? = some t→Tryz.pinned.checked.prog.wantsStandIn t=false:=by
 obtain rfl:f=6:=Option.some.inj ((show Tryz.prog.funcNamed "sphragis/sphragislaw14.GroveNone" = some 6 by kernel_rfl).symm.trans hf) |>.symm
 obtain rfl:fn=Tryz.f6:=(Option.some.inj (Tryz.func6.symm.trans hfn)).symm
 refine ⟨by kernel_rfl,fun j t ht=>?_⟩
 rw [Tryz.params6] at ht
 have hm:t=35∨t=31:=by simpa using Array.mem_of_getElem? ht
 rcases hm with rfl | rfl<;>exact (show _=false by kernel_rfl)

theorem card:Rows.GroveNoneCardSaid:=
 Claim7.holds_tied_plain_at .later [] _ _ _ _ said (fun _ h=>by cases h) (by kernel_rfl) (fun _ h=>by cases h) groveNone_row_tie rfl ⟨rfl,rfl⟩ (by kernel_rfl) rfl plain (by kernel_rfl)
end Go.Proofs.YtkibffdipniemaaGreatDoor.rGroveNone
