/- The texts GG36, S26, GG38, GG39, S27, S28, GG40, GG37, GG41, GG42, GG43, GG44, GG45, GG46, LG21, LG22, V1, V2, V3, V4a, LG23, LG24, YR1, LG25, LG26, LG27, LG28, LG29, LG30, LG31, LG32, LG33, LG34, one behind the other: each bears its own sentence. Conditions: as each says. -/
import Derived.Test.YtkibffdipniemaaGreatDoorMH1
import Derived.Test.YtkibffdipniemaaGreatDoorMH2
import Derived.Test.YtkibffdipniemaaGreatDoorMH3
import Derived.Test.YtkibffdipniemaaGreatDoorMH4
import Derived.Test.YtkibffdipniemaaGreatDoorMH5
import Derived.Test.YtkibffdipniemaaGreatDoorMH6

set_option linter.unusedVariables false
set_option linter.unusedSimpArgs false
set_option maxHeartbeats 4000000
set_option maxRecDepth 100000
namespace Go.Proofs.YtkibffdipniemaaGreatDoor
open Go
/- Plain functions of the references and the laws, printed from the loaded program, and the walks that show that the program computes them. Condition: the plain function yields. -/
section
variable {K:Nat→Prop}{w0:World}{H:List AT}
def GB(p0:BP)(p1:UInt32):Option Bool:=
 ret (decide (p1.toUInt64<BK (p0.blk.length:Int))) fun x1=>
 some x1
theorem Ro{b0_:Nat}{v0x0_:Value}{v0x1_:Value}{v0x2_:Value}{p0:BP}{p1:UInt32}{r:Bool}(h:GB p0 p1=some r): BH Tryz.prog K w0 68 [vP b0_ 0,Z p1] [AI b0_ (.cells #[v0x0_,v0x1_,v0x2_,Ag p0.rcnt,vS p0.rtag,Z p0.rboots,vI p0.left,vB p0.off] 132),AE 9 1 v0x0_ eS p0.blk,AE 9 1 v0x1_ eS p0.pnd,AE 4 1 v0x2_ eB p0.bads] H (fun u M=>u=vB r∧M=[AI b0_ (.cells #[v0x0_,v0x1_,v0x2_,Ag p0.rcnt,vS p0.rtag,Z p0.rboots,vI p0.left,vB p0.off] 132),AE 9 1 v0x0_ eS p0.blk,AE 9 1 v0x1_ eS p0.pnd,AE 4 1 v0x2_ eB p0.bads]):=by
 unfold GB at h
 refine BH.enter Tryz.func68 rfl rfl ?_
 refine V (J zR (U (V ?_)))
 obtain⟨x1,ex1,h⟩:=Bc h
 refine E zR (As zR zR (CF Bg CB) (E zR (AW zR zR (AB zR Od (AC 0 Ns zR (DC 1 zR DU zR zR (As zR zR (Cr Ef CB) ?_)))))))
 refine O zR Q8 ?_
 refine Ak (u:=vB x1) zR zR (congrArg vB ex1) ?_
 refine U (AM ?_)
 obtain rfl:=Option.some.inj h
 exact AY [0,1,2,3] 4 zR zR zR
def EX(o2:BP):Option (Int×BP):=
 some (0,o2)
def Ea(o1:BP):Option (Int×BP):=
 cond o1.off
 (
  some (71,o1))
 (
  cond (decide (0<o1.left))
  (
   EX ({ o1 with left:=wI (o1.left-1) }))
  (
   EX o1))
def Fs(p0:BP):Option (Int×BP):=
 cond (decide (p0.left=0))
 (
  Ea ({ p0 with off:=true }))
 (
  Ea p0)
theorem SC{b0_:Nat}{v0x0_:Value}{v0x1_:Value}{v0x2_:Value}{p0:BP}{r:Int×BP}(h:Fs p0=some r): BH Tryz.prog K w0 118 [vP b0_ 0] [AI b0_ (.cells #[v0x0_,v0x1_,v0x2_,Ag p0.rcnt,vS p0.rtag,Z p0.rboots,vI p0.left,vB p0.off] 132),AE 9 1 v0x0_ eS p0.blk,AE 9 1 v0x1_ eS p0.pnd,AE 4 1 v0x2_ eB p0.bads] H (fun u M=>u=vI r.1∧M=[AI b0_ (.cells #[v0x0_,v0x1_,v0x2_,Ag r.2.rcnt,vS r.2.rtag,Z r.2.rboots,vI r.2.left,vB r.2.off] 132),AE 9 1 v0x0_ eS r.2.blk,AE 9 1 v0x1_ eS r.2.pnd,AE 4 1 v0x2_ eB r.2.bads]):=by
 unfold Fs at h
 refine BH.enter Tryz.func118 rfl rfl ?_
 refine V (J zR (U ?_))
 refine A1 (α:=BP) (fun x=>Ea x=some r) (fun x=>[(0,vP b0_ 0)]) (fun x=>AI b0_ (.cells #[v0x0_,v0x1_,v0x2_,Ag x.rcnt,vS x.rtag,Z x.rboots,vI x.left,vB x.off] 132)::AE 9 1 v0x0_ eS x.blk::AE 9 1 v0x1_ eS x.pnd::AE 4 1 v0x2_ eB x.bads::H) ?_ (fun o1 D h=>?_)
 refine V (E zR (AW zR zR (AB zR Sp (AC 0 DT zR (O zR Bq (U ?_))))))
 refine AG zR (fun hc1=>?_) (fun hc1=>?_)
 replace h:=cT hc1 h
 refine AJ (E zR (AW zR zR (AB zR bQ (Am 0 zR zR zR zR O3 zR zR zR zT (AS ?_)))))
 exact Av ({ p0 with off:=true }) h tL (fun _ hw=>BJ.pick (H:=[_,_,_,_]) hw [0,1,2,3] 4 rfl)
 replace h:=cF hc1 h
 refine AH ?_
 exact Av p0 h tL (fun _ hw=>BJ.pick (H:=[_,_,_,_]) hw [0,1,2,3] 4 zR)
 unfold Ea at h
 refine A4 [(0,vP b0_ 0)] (AI b0_ (.cells #[v0x0_,v0x1_,v0x2_,Ag o1.rcnt,vS o1.rtag,Z o1.rboots,vI o1.left,vB o1.off] 132)::AE 9 1 v0x0_ eS o1.blk::AE 9 1 v0x1_ eS o1.pnd::AE 4 1 v0x2_ eB o1.bads::H) ?_ tL
 refine AD (V (E zR (AW zR zR (AB zR bQ (AC 0 Uv zR (U ?_))))))
 refine AG zR (fun hc2=>?_) (fun hc2=>?_)
 replace h:=cT hc2 h
 refine V (J zR (U (AM (Ab ?_))))
 obtain rfl:=Option.some.inj h
 exact AY [0,1,2,3] 4 zR zR zR
 replace h:=cF hc2 h
 refine AH (AF ?_)
 refine A1 (α:=BP) (fun x=>EX x=some r) (fun x=>[(0,vP b0_ 0)]) (fun x=>AI b0_ (.cells #[v0x0_,v0x1_,v0x2_,Ag x.rcnt,vS x.rtag,Z x.rboots,vI x.left,vB x.off] 132)::AE 9 1 v0x0_ eS x.blk::AE 9 1 v0x1_ eS x.pnd::AE 4 1 v0x2_ eB x.bads::H) ?_ (fun o2 D h=>?_)
 refine V (E zR (AW zR zR (AB zR Sp (AC 0 DT zR (O zR CD (U ?_))))))
 refine AG zR (fun hc3=>?_) (fun hc3=>?_)
 replace h:=cT hc3 h
 refine AJ (E zR (AW zR zR (AB zR Sp (AC 0 DT zR (O zR Bp (AW zR zR (AB zR Sp (Am 0 zR zR zR zR La zR zR zR zT (AS ?_)))))))))
 exact Av ({ o1 with left:=wI (o1.left-1) }) h tL (fun _ hw=>BJ.pick (H:=[_,_,_,_]) hw [0,1,2,3] 4 rfl)
 replace h:=cF hc3 h
 refine AH ?_
 exact Av o1 h tL (fun _ hw=>BJ.pick (H:=[_,_,_,_]) hw [0,1,2,3] 4 zR)
 unfold EX at h
 refine A4 [(0,vP b0_ 0)] (AI b0_ (.cells #[v0x0_,v0x1_,v0x2_,Ag o2.rcnt,vS o2.rtag,Z o2.rboots,vI o2.left,vB o2.off] 132)::AE 9 1 v0x0_ eS o2.blk::AE 9 1 v0x1_ eS o2.pnd::AE 4 1 v0x2_ eB o2.bads::H) ?_ tL
 refine V (J zR (U (AM ?_)))
 obtain rfl:=Option.some.inj h
 exact AY [0,1,2,3] 4 zR zR zR
def Ec(p0:BP)(p1:UInt32):Option (List UInt8):=
 (Aq p0.pnd (p1.toNat:Int)).bind fun x1=>
 cond (!decide (x1=[]))
 (
  (Aq p0.pnd (p1.toNat:Int)).bind fun x2=>
  some x2)
 (
  (Aq p0.blk (p1.toNat:Int)).bind fun x3=>
  some x3)
theorem Pu{b0_:Nat}{v0x0_:Value}{v0x1_:Value}{v0x2_:Value}{p0:BP}{p1:UInt32}{r:List UInt8}(h:Ec p0 p1=some r): BH Tryz.prog K w0 34 [vP b0_ 0,Z p1] [AI b0_ (.cells #[v0x0_,v0x1_,v0x2_,Ag p0.rcnt,vS p0.rtag,Z p0.rboots,vI p0.left,vB p0.off] 132),AE 9 1 v0x0_ eS p0.blk,AE 9 1 v0x1_ eS p0.pnd,AE 4 1 v0x2_ eB p0.bads] H (fun u M=>u=vS r∧M=[AI b0_ (.cells #[v0x0_,v0x1_,v0x2_,Ag p0.rcnt,vS p0.rtag,Z p0.rboots,vI p0.left,vB p0.off] 132),AE 9 1 v0x0_ eS p0.blk,AE 9 1 v0x1_ eS p0.pnd,AE 4 1 v0x2_ eB p0.bads]):=by
 unfold Ec at h
 refine BH.enter Tryz.func34 rfl rfl ?_
 refine V (J zR (U (AD (V ?_))))
 obtain⟨x1,hx1,h⟩:=bnd h
 refine E zR (AW zR zR (AB zR QG (AC 0 Ns zR (E zR ?_))))
 refine BF 2 hx1 zR DU Gn zR zR zR fun g1 m1 cp1 hv1=>?_
 refine BR zR EZ zR (BW (sz:=1) (enc:=eS) 2 0 (fun _=>rfl) zR hv1 hx1 zR) ?_
 refine O zR Jx (U ?_)
 refine AG zR (fun hc1=>?_) (fun hc1=>?_)
 replace h:=cT hc1 h
 refine V ?_
 obtain⟨x2,hx2,h⟩:=bnd h
 refine E zR (AW zR zR (AB zR QG (AC 0 Ns zR (E zR ?_))))
 refine BF 2 hx2 zR DU Gn zR zR zR fun g2 m2 cp2 hv2=>?_
 refine BR zR EZ zR (BW (sz:=1) (enc:=eS) 2 0 (fun _=>rfl) zR hv2 hx2 zR) ?_
 refine J zR (U (AM (Ab ?_)))
 obtain rfl:=Option.some.inj h
 exact AY [0,1,2,3] 4 zR zR zR
 replace h:=cF hc1 h
 refine AH (AF (V ?_))
 obtain⟨x3,hx3,h⟩:=bnd h
 refine E zR (AW zR zR (AB zR Od (AC 0 Ns zR (E zR ?_))))
 refine BF 1 hx3 zR DU Gn zR zR zR fun g3 m3 cp3 hv3=>?_
 refine BR zR EZ zR (BW (sz:=1) (enc:=eS) 1 0 (fun _=>rfl) zR hv3 hx3 zR) ?_
 refine J zR (U (AM ?_))
 obtain rfl:=Option.some.inj h
 exact AY [0,1,2,3] 4 zR zR zR
def Eo(y2:Int×BP)(o1:BP):Option (Int×BP):=
 some (y2.1,o1)
def Cn(p0:BP)(p1:UInt32)(p2:List UInt8):Option (Int×BP):=
 (GB p0 p1).bind fun y1=>
 cond ((!y1)||(!decide ((p2.length:Int)=256)))
 (
  some (2,p0))
 (
  (Fs p0).bind fun y2=>
  cond (decide (y2.1=0))
  (
   (Aq y2.2.pnd (p1.toNat:Int)).bind fun x1=>
   (Ek y2.2.pnd (p1.toNat:Int) p2).bind fun l1=>
   Eo y2 ({ y2.2 with pnd:=l1 }))
  (
   Eo y2 y2.2))
theorem Ps{b0_:Nat}{v0x0_:Value}{v0x1_:Value}{v0x2_:Value}{p0:BP}{p1:UInt32}{p2:List UInt8}{r:Int×BP}(h:Cn p0 p1 p2=some r): BH Tryz.prog K w0 80 [vP b0_ 0,Z p1,vS p2] [AI b0_ (.cells #[v0x0_,v0x1_,v0x2_,Ag p0.rcnt,vS p0.rtag,Z p0.rboots,vI p0.left,vB p0.off] 132),AE 9 1 v0x0_ eS p0.blk,AE 9 1 v0x1_ eS p0.pnd,AE 4 1 v0x2_ eB p0.bads] H (fun u M=>u=vI r.1∧M=[AI b0_ (.cells #[v0x0_,v0x1_,v0x2_,Ag r.2.rcnt,vS r.2.rtag,Z r.2.rboots,vI r.2.left,vB r.2.off] 132),AE 9 1 v0x0_ eS r.2.blk,AE 9 1 v0x1_ eS r.2.pnd,AE 4 1 v0x2_ eB r.2.bads]):=by
 unfold Cn at h
 refine BH.enter Tryz.func80 rfl rfl ?_
 refine V (J zR (U (AD (V ?_))))
 obtain⟨y1,hy1,h⟩:=bnd h
 refine E zR (E zR (AX 4 oa (Ro hy1) zR (B9 zR zR (E zR ?_))))
 refine C1 (c := !decide ((p2.length:Int)=256)) 12 4 16 zR (fun hb k=>?_) (fun hb k=>?_) ?_
 refine AA zR (AA zR (AA zR (Ad zR zR zR ?_)))
 exact k.mono tL
 refine E zR (BV zR Bu zR (O zR Bh (Ad zR zR zR ?_)))
 exact k.mono tL
 refine U ?_
 refine AG zR (fun hc1=>?_) (fun hc1=>?_)
 replace h:=cT hc1 h
 refine V (J zR (U (AM (Ab ?_))))
 obtain rfl:=Option.some.inj h
 exact AY [0,1,2,3] 4 zR zR zR
 replace h:=cF hc1 h
 refine AH (AF (V ?_))
 obtain⟨y2,hy2,h⟩:=bnd h
 refine E zR (AX 4 ms (SC hy2) zR (J zR (U ?_)))
 refine A1 (α:=BP) (fun x=>Eo y2 x=some r) (fun x=>[(0,vP b0_ 0),(7,vI y2.1)]) (fun x=>AI b0_ (.cells #[v0x0_,v0x1_,v0x2_,Ag x.rcnt,vS x.rtag,Z x.rboots,vI x.left,vB x.off] 132)::AE 9 1 v0x0_ eS x.blk::AE 9 1 v0x1_ eS x.pnd::AE 4 1 v0x2_ eB x.bads::H) ?_ (fun o1 D h=>?_)
 refine V (E zR (O zR Bq (U ?_)))
 refine AG zR (fun hc2=>?_) (fun hc2=>?_)
 replace h:=cT hc2 h
 refine AJ ?_
 obtain⟨x1,hx1,h⟩:=bnd h
 obtain⟨l1,hl1,h⟩:=bnd h
 refine E zR (AW zR zR (AB zR QG (AC 0 Ns zR (E zR (E zR ?_)))))
 refine BF 2 hx1 zR DU Gn zR zR zR fun g1 m1 cp1 hv1=>?_
 refine Cd (sz:=1) (enc:=eS) 2 hl1 (fun _=>rfl) rfl rfl rfl rfl rfl hv1 Gn (by first | (simp[Value.oneCell'];done) | simp[eS,Value.oneCell']) trivial ?_
 refine AS ?_
 exact Av ({ y2.2 with pnd:=l1 }) h tL (fun _ hw=>BJ.pick (H:=[_,_,_,_]) hw [0,1,2,3] 4 rfl)
 replace h:=cF hc2 h
 refine AH ?_
 exact Av y2.2 h tL (fun _ hw=>BJ.pick (H:=[_,_,_,_]) hw [0,1,2,3] 4 zR)
 unfold Eo at h
 refine A4 [(0,vP b0_ 0),(7,vI y2.1)] (AI b0_ (.cells #[v0x0_,v0x1_,v0x2_,Ag o1.rcnt,vS o1.rtag,Z o1.rboots,vI o1.left,vB o1.off] 132)::AE 9 1 v0x0_ eS o1.blk::AE 9 1 v0x1_ eS o1.pnd::AE 4 1 v0x2_ eB o1.bads::H) ?_ tL
 refine V (E zR (J zR (U (AM ?_))))
 obtain rfl:=Option.some.inj h
 exact AY [0,1,2,3] 4 zR zR zR
def G3(l1:List (List UInt8)):Option (List (List UInt8)):=
 some l1
def DO(p0:BP)(nx_f_ref07_Device_Image_l1:List (List UInt8)×Int→Option (List (List UInt8)))(l2:List (List UInt8))(a1:Int):Option (List (List UInt8)):=
 cond (decide (a1<(p0.blk.length:Int)))
 (
  (Ec p0 (Ds a1)).bind fun y1=>
  (CT 16 l2 [y1]).bind fun l3=>
  ret (wI (a1+1)) fun i_1=>
  nx_f_ref07_Device_Image_l1 (l3,i_1))
 (
  G3 l2)
def Es(p0:BP):Nat→(List (List UInt8)×Int)→Option (List (List UInt8)):=Be fun nx x=>DO p0 nx x.1 x.2
def Eb(n:Nat)(p0:BP):Option (List (List UInt8)):=
 Es p0 n ([],0)
theorem Pv{n:Nat}{b0_:Nat}{v0x0_:Value}{v0x1_:Value}{v0x2_:Value}{p0:BP}{r:List (List UInt8)}(h:Eb n p0=some r): BH Tryz.prog K w0 32 [vP b0_ 0] [AI b0_ (.cells #[v0x0_,v0x1_,v0x2_,Ag p0.rcnt,vS p0.rtag,Z p0.rboots,vI p0.left,vB p0.off] 132),AE 9 1 v0x0_ eS p0.blk,AE 9 1 v0x1_ eS p0.pnd,AE 4 1 v0x2_ eB p0.bads] H (fun u M=>∃v0:Value,u=v0∧M=[AE 9 1 v0 eS r,AI b0_ (.cells #[v0x0_,v0x1_,v0x2_,Ag p0.rcnt,vS p0.rtag,Z p0.rboots,vI p0.left,vB p0.off] 132),AE 9 1 v0x0_ eS p0.blk,AE 9 1 v0x1_ eS p0.pnd,AE 4 1 v0x2_ eB p0.bads]):=by
 unfold Eb at h
 refine BH.enter Tryz.func32 rfl rfl ?_
 refine V (Bx 9 1 eS (J zR (U (V (Bx 9 1 eS (J zR (U ?_)))))))
 refine A1 (α:=List (List UInt8)×Value) (fun x=>G3 x.1=some r) (fun x=>[(0,vP b0_ 0),(3,x.2)]) (fun x=>AI b0_ (.cells #[v0x0_,v0x1_,v0x2_,Ag p0.rcnt,vS p0.rtag,Z p0.rboots,vI p0.left,vB p0.off] 132)::AE 9 1 v0x0_ eS p0.blk::AE 9 1 v0x1_ eS p0.pnd::AE 4 1 v0x2_ eB p0.bads::AE 9 1 x.2 eS x.1::H) ?_ (fun x D h=>?_)
 refine V (J zR (U (AL ?_)))
 refine SX.heap (SX.mono (Ay (α:=Nat×List (List UInt8)×Value×Int) (fun x=>Es p0 x.1 (x.2.1,x.2.2.2)=some r) (fun x=>[(0,vP b0_ 0),(3,x.2.2.1),(4,vI x.2.2.2)]) (fun x=>AI b0_ (.cells #[v0x0_,v0x1_,v0x2_,Ag p0.rcnt,vS p0.rtag,Z p0.rboots,vI p0.left,vB p0.off] 132)::AE 9 1 v0x0_ eS p0.blk::AE 9 1 v0x1_ eS p0.pnd::AE 4 1 v0x2_ eB p0.bads::AE 9 1 x.2.2.1 eS x.2.1::H) (fun x=>x.1) (fun x D h=>?_) (n,[],.slice none 0 0,0) h) tL) (fun _ hw=>BJ.pick (H:=[_,_,_,_,_,_]) hw [2,3,4,5,0] 6 zR)
 obtain⟨m1,l2,v2,a1⟩:=x
 dsimp only at h
 rcases m1 with _ | m1
 cases (show(none:Option _)=some r from h)
 replace h:DO p0 (Es p0 m1) l2 a1=some r:=h
 unfold DO at h
 refine A4 [(0,vP b0_ 0),(3,v2),(4,vI a1)] (AI b0_ (.cells #[v0x0_,v0x1_,v0x2_,Ag p0.rcnt,vS p0.rtag,Z p0.rboots,vI p0.left,vB p0.off] 132)::AE 9 1 v0x0_ eS p0.blk::AE 9 1 v0x1_ eS p0.pnd::AE 4 1 v0x2_ eB p0.bads::AE 9 1 v2 eS l2::H) ?_ tL
 refine AD (V (E zR (E zR (AW zR zR (AB zR Od (AC 0 Ns zR (DC 1 zR DU zR zR (O zR Ao (U ?_)))))))))
 refine AG zR (fun hc1=>?_) (fun hc1=>?_)
 replace h:=cT hc1 h
 refine AH (AF (AD (AL (AJ ?_))))
 obtain⟨y1,hy1,h⟩:=bnd h
 obtain⟨l3,hl3,h⟩:=bnd h
 refine E zR (E zR (E zR (As zR zR (L5 Ef Bg) (AX 4 oM (Pu hy1) zR ?_))))
 refine Bd [_] rfl DU Gn OM ⟨rfl,trivial⟩ rfl rfl rfl (by first | (simp[Value.cells];done) | (intro v hv;simp only[List.mem_cons,List.not_mem_nil,or_false]at hv;rcases hv with rfl<;>rfl)) rfl rfl (fun _=>trivial) fun b1=>?_
 refine Bi eS 1 ([y1]:List (List UInt8)) zR (fun _=>rfl) zR ?_
 refine B7 5 hl3 (sz:=1) (enc:=eS) (fun _=>rfl) zR DU Gn ie OM zR zD zR zR zR zR (Ba (sz:=1) (enc:=eS) 0 (fun _=>rfl) zR) (by simp[eS,Value.oneCell']) (fun _=>trivial) fun v3=>?_
 refine J zR (AS (Ai (AF (AJ ?_))))
 obtain⟨i_1,ei_1,h⟩:=Bc h
 refine E zR (O zR A3 ?_)
 refine Ak (u:=vI i_1) zR zR (congrArg vI ei_1) ?_
 refine AS ?_
 exact Ac (m1,l3,v3,i_1) h (Nat.lt_succ_self _) tL (fun _ hw=>BJ.pick (H:=[_,_,_,_,_,_]) hw [1,2,3,4,5] 6 zR)
 replace h:=cF hc1 h
 refine Al (Aw (A9 (Au ?_)))
 exact Av (l2,v2) h tL (fun _ hw=>BJ.pick (H:=[_,_,_,_,_]) hw [0,1,2,3,4] 5 zR)
 obtain⟨l1,v1⟩:=x
 dsimp only at h
 unfold G3 at h
 refine A4 [(0,vP b0_ 0),(3,v1)] (AI b0_ (.cells #[v0x0_,v0x1_,v0x2_,Ag p0.rcnt,vS p0.rtag,Z p0.rboots,vI p0.left,vB p0.off] 132)::AE 9 1 v0x0_ eS p0.blk::AE 9 1 v0x1_ eS p0.pnd::AE 4 1 v0x2_ eB p0.bads::AE 9 1 v1 eS l1::H) ?_ tL
 refine V (E zR (J zR (U (AM ?_))))
 obtain rfl:=Option.some.inj h
 exact AU (Co zR zR) (AV (M:=[_,_,_,_,_]) ⟨v1,zR,zR⟩ fun _ hw=>BJ.pick (H:=[_,_,_,_,_]) hw [4,0,1,2,3] 5 zR)
def Le:Option Bool:=
 some true
def F0(p0:List (List UInt8))(p1:List (List UInt8))(nx_f_ref07_Same_l1:Int→Option Bool)(a1:Int):Option Bool:=
 cond (decide (a1<(p0.length:Int)))
 (
  (Aq p0 a1).bind fun x1=>
  (Aq p1 a1).bind fun x2=>
  cond (!decide (x1=x2))
  (
   some false)
  (
   ret (wI (a1+1)) fun i_1=>
   nx_f_ref07_Same_l1 i_1))
 (
  Le)
def Jg(p0:List (List UInt8))(p1:List (List UInt8)):Nat→Int→Option Bool:=Be fun nx x=>F0 p0 p1 nx x
def J5(n:Nat)(p0:List (List UInt8))(p1:List (List UInt8)):Option Bool:=
 cond (!decide ((p0.length:Int)=(p1.length:Int)))
 (
  some false)
 (
  Jg p0 p1 n 0)
theorem W7{n:Nat}{v0_:Value}{p0:List (List UInt8)}{v1_:Value}{p1:List (List UInt8)}{r:Bool}(h:J5 n p0 p1=some r)(hs0_:Bn K w0 eS 1 v0_ p0)(hs1_:Bn K w0 eS 1 v1_ p1):BH Tryz.prog K w0 30 [v0_,v1_] [] H (fun u M=>u=vB r∧M=[]):=by
 unfold J5 at h
 refine BH.enter Tryz.func30 rfl rfl ?_
 refine V (J zR (U (AD (V (E zR (Bb hs0_ zR DU zR (E zR (Bb hs1_ zR DU zR (O zR Bh (U ?_))))))))))
 refine AG zR (fun hc1=>?_) (fun hc1=>?_)
 replace h:=cT hc1 h
 refine V (J zR (U (AM (Ab ?_))))
 obtain rfl:=Option.some.inj h
 exact AY [] 0 zR zR zR
 replace h:=cF hc1 h
 refine AH (AF ?_)
 refine A1 (α:=Unit) (fun x=>Le=some r) (fun x=>[]) (fun x=>H) ?_ (fun x D h=>?_)
 refine V (J zR (U (AL ?_)))
 refine SX.heap (SX.mono (Ay (α:=Nat×Int) (fun x=>Jg p0 p1 x.1 x.2=some r) (fun x=>[(0,v0_),(1,v1_),(5,vI x.2)]) (fun x=>H) (fun x=>x.1) (fun x D h=>?_) (n,0) h) tL) (fun _ hw=>BJ.pick (H:=[]) hw [] 0 zR)
 obtain⟨m1,a1⟩:=x
 dsimp only at h
 rcases m1 with _ | m1
 cases (show(none:Option _)=some r from h)
 replace h:F0 p0 p1 (Jg p0 p1 m1) a1=some r:=h
 unfold F0 at h
 refine A4 [(0,v0_),(1,v1_),(5,vI a1)] (H) ?_ tL
 refine AD (V (E zR (E zR (Bb hs0_ zR DU zR (O zR Ao (U ?_))))))
 refine AG zR (fun hc2=>?_) (fun hc2=>?_)
 replace h:=cT hc2 h
 refine AH (AF (AD (AL (AD ?_))))
 obtain⟨x1,hx1,h⟩:=bnd h
 obtain⟨x2,hx2,h⟩:=bnd h
 refine Aj CJ [] (Pl.of [(true,0),(true,1),(true,2),(true,3),(true,4),(true,5),(true,6),(true,7),(true,8)]) zK (E zR (E zR ?_))
 refine CP hx1 hs0_ zR DU Gn zR zR fun be1 of1 hc3=>?_
 refine BR zR EZ zR (Ck (j:=0) hc3 zR) ?_
 refine E zR (E zR ?_)
 refine CP hx2 hs1_ zR DU Gn zR zR fun be2 of2 hc4=>?_
 refine BR zR EZ zR (Ck (j:=0) hc4 zR) ?_
 refine O zR Jx (U ?_)
 refine AG zR (fun hc5=>?_) (fun hc5=>?_)
 replace h:=cT hc5 h
 refine V (J zR (U (AM (BM (Ab (DD (BM (ER ?_))))))))
 obtain rfl:=Option.some.inj h
 exact AY [] 0 zR zR zR
 replace h:=cF hc5 h
 refine AH (Ai (AF (AJ ?_)))
 obtain⟨i_1,ei_1,h⟩:=Bc h
 refine E zR (O zR A3 ?_)
 refine Ak (u:=vI i_1) zR zR (congrArg vI ei_1) ?_
 refine AS ?_
 exact Ac (m1,i_1) h (Nat.lt_succ_self _) tL (fun _ hw=>BJ.pick (H:=[]) hw [] 0 zR)
 replace h:=cF hc2 h
 refine Al (Aw (A9 (Au ?_)))
 exact Av () h tL (fun _ hw=>BJ.pick (H:=[]) hw [] 0 zR)
 unfold Le at h
 refine A4 [] (H) ?_ tL
 refine V (J zR (U (AM ?_)))
 obtain rfl:=Option.some.inj h
 exact AY [] 0 zR zR zR
def EA(n:Nat)(T:List UInt32)(p0:B2)(p0_1:BP)(p1:UInt32)(p2:List UInt8):Option (List UInt8×Int×B2×BP):=
 (Jz n T p0.ring (⟨p1,p0.gen,p0.boot,p0.num⟩:CL) p2).bind fun y1=>
 cond (!decide (y1.2=0))
 (
  some ([],y1.2,p0,p0_1))
 (
  (Cn p0_1 p1 y1.1).bind fun y2=>
  cond (!decide (y2.1=0))
  (
   some ([],y2.1,{ p0 with num:=p0.num+1 },y2.2))
  (
   (JB y1.1 224 (y1.1.length:Int)).bind fun s1=>
   some (s1,0,{ p0 with num:=p0.num+1 },y2.2)))
theorem QO{n:Nat}{T:List UInt32}{b0_:Nat}{v0x1_:Value}{v0x5_:Value}{b0x0_:Nat}{v0x0x0_:Value}{v0x0x1_:Value}{v0x0x2_:Value}{p0:B2}{p0_1:BP}{p1:UInt32}{p2:List UInt8}{r:List UInt8×Int×B2×BP}(h:EA n T p0 p0_1 p1 p2=some r)(hT:LA K w0 2 64 T):BH Tryz.prog K w0 47 [vP b0_ 0,Z p1,vS p2] [AI b0_ (.cells #[vP b0x0_ 0,v0x1_,Z p0.gen,Z p0.boot,Ag p0.num,v0x5_] 69),AE 138 2 v0x1_ Ax p0.ring,AE 4 1 v0x5_ eB p0.taken,AI b0x0_ (.cells #[v0x0x0_,v0x0x1_,v0x0x2_,Ag p0_1.rcnt,vS p0_1.rtag,Z p0_1.rboots,vI p0_1.left,vB p0_1.off] 132),AE 9 1 v0x0x0_ eS p0_1.blk,AE 9 1 v0x0x1_ eS p0_1.pnd,AE 4 1 v0x0x2_ eB p0_1.bads] H (fun u M=>u=.tuple #[vS r.1,vI r.2.1]∧M=[AI b0_ (.cells #[vP b0x0_ 0,v0x1_,Z r.2.2.1.gen,Z r.2.2.1.boot,Ag r.2.2.1.num,v0x5_] 69),AE 138 2 v0x1_ Ax r.2.2.1.ring,AE 4 1 v0x5_ eB r.2.2.1.taken,AI b0x0_ (.cells #[v0x0x0_,v0x0x1_,v0x0x2_,Ag r.2.2.2.rcnt,vS r.2.2.2.rtag,Z r.2.2.2.rboots,vI r.2.2.2.left,vB r.2.2.2.off] 132),AE 9 1 v0x0x0_ eS r.2.2.2.blk,AE 9 1 v0x0x1_ eS r.2.2.2.pnd,AE 4 1 v0x0x2_ eB r.2.2.2.bads]):=by
 unfold EA at h
 refine BH.enter Tryz.func47 rfl rfl ?_
 refine V (J zR (J zR (U (AD ?_))))
 obtain⟨y1,hy1,h⟩:=bnd h
 refine Aj CJ [0] (BY [(true,0),(true,1),(true,2),(true,3),(true,4),(true,5),(true,6),(true,7),(true,8),(true,9),(true,10),(true,11),(true,12),(true,13),(true,14),(true,15),(true,16),(true,17),(true,18),(false,19),(false,20),(true,21),(true,22),(false,23)] (.last 24 .nil)) zK (E zR (AW zR zR (AB zR mi (AC 0 fK zR (E zR (E zR (AW zR zR ?_)))))))
 refine AB zR nJ (AC 0 Az zR (E zR (AW zR zR (AB zR lZ (AC 0 Az zR (E zR (AW zR zR ?_)))))))
 refine AB zR Ys (AC 0 MU zR (BL [_,_,_,_] zR TP To K5 ⟨zR,zR,zR,zR,zT⟩ zR (E zR (SL.pick [1,0] 2 ?_))))
 refine AP (vs:=[_,_,_]) (Hin:=[_]) (Hr:=_::_::_::_::_::_::_) zR zR ⟨zR,zR,zR,zT⟩ pR zR zR (CC (B:=[_]) (Hin:=[]) fun K' w1 hk hB=>(W6 hy1 (hT.keeps hk) (Br (e:=138) (v:=v0x1_) (fun _=>rfl) (hB _ zS)) :)) ?_
 rintro _ _ ⟨_,rfl,rfl,rfl⟩
 refine⟨⟨⟨1,rfl⟩,trivial⟩,?_⟩
 refine E zR (Ap zR zR zR (Ap zR zR zR (J zR (BE (J zR (U (AD (V (E zR (O zR Bh (U ?_)))))))))))
 refine AG zR (fun hc1=>?_) (fun hc1=>?_)
 replace h:=cT hc1 h
 refine V (E zR (J zR (J zR (U (AM (Ab ?_))))))
 obtain rfl:=Option.some.inj h
 exact AY [1,0,2,3,4,5,6] 7 zR zR zR
 replace h:=cF hc1 h
 refine AH (AF (V (E zR (AW zR zR (AB zR Ys (AC 1 MU zR ?_))))))
 refine O zR (I6 (b:=1)) ?_
 refine AW zR zR (AB zR Ys (Am 1 zR zR zR zR jD zR zR zR zT (U (V ?_))))
 obtain⟨y2,hy2,h⟩:=bnd h
 refine E zR (AW zR zR (AB zR fA (AC 1 nq zR (E zR (E zR (SL.pick [3,4,5,6,0,1,2] 7 (AX 4 oo (Ps hy2) zR ?_)))))))
 refine J zR (U (AD (V (E zR (O zR Bh (U ?_))))))
 refine AG zR (fun hc2=>?_) (fun hc2=>?_)
 replace h:=cT hc2 h
 refine V (E zR (J zR (J zR (U (AM (Ab ?_))))))
 obtain rfl:=Option.some.inj h
 exact AY [5,4,6,0,1,2,3] 7 zR zR zR
 replace h:=cF hc2 h
 refine AH (AF (V ?_))
 obtain⟨s1,hs1,h⟩:=bnd h
 refine E zR (bZ hs1 zR Bu zR zR (J zR (J zR (U (AM ?_)))))
 obtain rfl:=Option.some.inj h
 exact AY [5,4,6,0,1,2,3] 7 zR zR zR
def D2(o1:B2)(o2:BP)(y1:UInt32)(y2:List UInt8):Option (Af×Int×B2×BP):=
 some ((⟨0,[]⟩:Af),110,o1,o2)
def CH(n:Nat)(T:List UInt32)(p1:List UInt8)(nx_f_ref13_Vault_Write_l1:B2×BP×UInt32×List UInt8×Int→Option (Af×Int×B2×BP))(o3:B2)(o4:BP)(y3:UInt32)(y4:List UInt8)(a1:Int):Option (Af×Int×B2×BP):=
 cond (decide (a1<(o3.taken.length:Int)))
 (
  (Aq o3.taken a1).bind fun x1=>
  cond x1
  (
   ret (wI (a1+1)) fun p_1=>
   nx_f_ref13_Vault_Write_l1 (o3,o4,y3,y4,p_1))
  (
   (EA n T o3 o4 (Ds a1) p1).bind fun y5=>
   cond (!decide (y5.2.1=0))
   (
    some ((⟨0,[]⟩:Af),y5.2.1,y5.2.2.1,y5.2.2.2))
   (
    (Aq y5.2.2.1.taken a1).bind fun x2=>
    (Ek y5.2.2.1.taken a1 true).bind fun l1=>
    some ((⟨Ds a1,y5.1⟩:Af),0,{ y5.2.2.1 with taken:=l1 },y5.2.2.2))))
 (
  D2 o3 o4 y3 y4)
def Bt(n:Nat)(T:List UInt32)(p1:List UInt8):Nat→(B2×BP×UInt32×List UInt8×Int)→Option (Af×Int×B2×BP):=Be fun nx x=>CH n T p1 nx x.1 x.2.1 x.2.2.1 x.2.2.2.1 x.2.2.2.2
def Ey(n:Nat)(T:List UInt32)(p0:B2)(p0_1:BP)(p1:List UInt8):Option (Af×Int×B2×BP):=
 cond (decide (198<(p1.length:Int)))
 (
  some ((⟨0,[]⟩:Af),50,p0,p0_1))
 (
  Bt n T p1 n (p0,p0_1,0,[],2))
theorem QK{n:Nat}{T:List UInt32}{b0_:Nat}{v0x1_:Value}{v0x5_:Value}{b0x0_:Nat}{v0x0x0_:Value}{v0x0x1_:Value}{v0x0x2_:Value}{p0:B2}{p0_1:BP}{p1:List UInt8}{r:Af×Int×B2×BP}(h:Ey n T p0 p0_1 p1=some r)(hT:LA K w0 2 64 T):BH Tryz.prog K w0 14 [vP b0_ 0,vS p1] [AI b0_ (.cells #[vP b0x0_ 0,v0x1_,Z p0.gen,Z p0.boot,Ag p0.num,v0x5_] 69),AE 138 2 v0x1_ Ax p0.ring,AE 4 1 v0x5_ eB p0.taken,AI b0x0_ (.cells #[v0x0x0_,v0x0x1_,v0x0x2_,Ag p0_1.rcnt,vS p0_1.rtag,Z p0_1.rboots,vI p0_1.left,vB p0_1.off] 132),AE 9 1 v0x0x0_ eS p0_1.blk,AE 9 1 v0x0x1_ eS p0_1.pnd,AE 4 1 v0x0x2_ eB p0_1.bads] H (fun u M=>u=.tuple #[.agg (Ae r.1).toArray,vI r.2.1]∧M=[AI b0_ (.cells #[vP b0x0_ 0,v0x1_,Z r.2.2.1.gen,Z r.2.2.1.boot,Ag r.2.2.1.num,v0x5_] 69),AE 138 2 v0x1_ Ax r.2.2.1.ring,AE 4 1 v0x5_ eB r.2.2.1.taken,AI b0x0_ (.cells #[v0x0x0_,v0x0x1_,v0x0x2_,Ag r.2.2.2.rcnt,vS r.2.2.2.rtag,Z r.2.2.2.rboots,vI r.2.2.2.left,vB r.2.2.2.off] 132),AE 9 1 v0x0x0_ eS r.2.2.2.blk,AE 9 1 v0x0x1_ eS r.2.2.2.pnd,AE 4 1 v0x0x2_ eB r.2.2.2.bads]):=by
 unfold Ey at h
 refine BH.enter Tryz.func14 rfl rfl ?_
 refine V ?_
 refine Ah zR DQ (fun _=>trivial) fun b1=>?_
 refine J zR (U (AD (V (E zR (BV zR Bu zR (O zR CD (U ?_)))))))
 refine AG zR (fun hc1=>?_) (fun hc1=>?_)
 replace h:=cT hc1 h
 refine V (BL [] zR K4 Kv DQ zT zR (Am 0 zR zR zR zR C2 zR zR zR zT (J zR (U (AM (Ab ?_))))))
 obtain rfl:=Option.some.inj h
 exact AU (Dq zR (BG 0 (Ae (⟨0,[]⟩:Af)) CR zR zR zR zR) zR) (AV (M:=[_,_,_,_,_,_,_]) ⟨zR,zR⟩ fun _ hw=>BJ.pick (H:=[_,_,_,_,_,_,_,_]) hw [1,2,3,4,5,6,7] 8 zR)
 replace h:=cF hc1 h
 refine AH (AF ?_)
 refine A1 (α:=B2×BP×UInt32×List UInt8) (fun x=>D2 x.1 x.2.1 x.2.2.1 x.2.2.2=some r) (fun x=>[(0,vP b0_ 0),(4,vP b1 0)]) (fun x=>AI b0_ (.cells #[vP b0x0_ 0,v0x1_,Z x.1.gen,Z x.1.boot,Ag x.1.num,v0x5_] 69)::AI b0x0_ (.cells #[v0x0x0_,v0x0x1_,v0x0x2_,Ag x.2.1.rcnt,vS x.2.1.rtag,Z x.2.1.rboots,vI x.2.1.left,vB x.2.1.off] 132)::AE 9 1 v0x0x0_ eS x.2.1.blk::AE 9 1 v0x0x1_ eS x.2.1.pnd::AE 4 1 v0x0x2_ eB x.2.1.bads::AE 138 2 v0x1_ Ax x.1.ring::AE 4 1 v0x5_ eB x.1.taken::AI b1 (.cells #[Z x.2.2.1,vS x.2.2.2] 31)::H) ?_ (fun x D h=>?_)
 refine V (J zR (U (AL ?_)))
 refine SX.heap (SX.mono (Ay (α:=Nat×B2×BP×UInt32×List UInt8×Int) (fun x=>Bt n T p1 x.1 (x.2.1,x.2.2.1,x.2.2.2.1,x.2.2.2.2.1,x.2.2.2.2.2)=some r) (fun x=>[(0,vP b0_ 0),(1,vS p1),(4,vP b1 0),(6,vI x.2.2.2.2.2)]) (fun x=>AI b0_ (.cells #[vP b0x0_ 0,v0x1_,Z x.2.1.gen,Z x.2.1.boot,Ag x.2.1.num,v0x5_] 69)::AI b0x0_ (.cells #[v0x0x0_,v0x0x1_,v0x0x2_,Ag x.2.2.1.rcnt,vS x.2.2.1.rtag,Z x.2.2.1.rboots,vI x.2.2.1.left,vB x.2.2.1.off] 132)::AE 9 1 v0x0x0_ eS x.2.2.1.blk::AE 9 1 v0x0x1_ eS x.2.2.1.pnd::AE 4 1 v0x0x2_ eB x.2.2.1.bads::AE 138 2 v0x1_ Ax x.2.1.ring::AE 4 1 v0x5_ eB x.2.1.taken::AI b1 (.cells #[Z x.2.2.2.1,vS x.2.2.2.2.1] 31)::H) (fun x=>x.1) (fun x D h=>?_) (n,p0,p0_1,0,[],2) h) tL) (fun _ hw=>BJ.pick (H:=[_,_,_,_,_,_,_,_]) hw [1,4,5,6,7,2,3,0] 8 zR)
 obtain⟨m1,o3,o4,y3,y4,a1⟩:=x
 dsimp only at h
 rcases m1 with _ | m1
 cases (show(none:Option _)=some r from h)
 replace h:CH n T p1 (Bt n T p1 m1) o3 o4 y3 y4 a1=some r:=h
 unfold CH at h
 refine A4 [(0,vP b0_ 0),(1,vS p1),(4,vP b1 0),(6,vI a1)] (AI b0_ (.cells #[vP b0x0_ 0,v0x1_,Z o3.gen,Z o3.boot,Ag o3.num,v0x5_] 69)::AI b0x0_ (.cells #[v0x0x0_,v0x0x1_,v0x0x2_,Ag o4.rcnt,vS o4.rtag,Z o4.rboots,vI o4.left,vB o4.off] 132)::AE 9 1 v0x0x0_ eS o4.blk::AE 9 1 v0x0x1_ eS o4.pnd::AE 4 1 v0x0x2_ eB o4.bads::AE 138 2 v0x1_ Ax o3.ring::AE 4 1 v0x5_ eB o3.taken::AI b1 (.cells #[Z y3,vS y4] 31)::H) ?_ tL
 refine AD (V (E zR (E zR (AW zR zR (AB zR Ly (AC 0 P2 zR (DC 6 zR OS zR zR (O zR Ao (U ?_)))))))))
 refine AG zR (fun hc2=>?_) (fun hc2=>?_)
 replace h:=cT hc2 h
 refine AH (AF (AD (AL (AD (V ?_)))))
 obtain⟨x1,hx1,h⟩:=bnd h
 refine E zR (AW zR zR (AB zR Ly (AC 0 P2 zR (E zR ?_))))
 refine BF 6 hx1 zR OS O3 zR zR zR fun g1 m2 cp1 hv1=>?_
 refine BR zR Uv zR (BW (sz:=1) (enc:=eB) 6 0 (fun _=>rfl) zR hv1 hx1 zR) ?_
 refine U ?_
 refine AG zR (fun hc3=>?_) (fun hc3=>?_)
 replace h:=cT hc3 h
 refine Al (Aw (Au (AF (AJ ?_))))
 obtain⟨p_1,ep_1,h⟩:=Bc h
 refine E zR (O zR A3 ?_)
 refine Ak (u:=vI p_1) zR zR (congrArg vI ep_1) ?_
 refine AS ?_
 exact Ac (m1,o3,o4,y3,y4,p_1) h (Nat.lt_succ_self _) tL (fun _ hw=>BJ.pick (H:=[_,_,_,_,_,_,_,_]) hw [0,1,2,3,4,5,6,7] 8 zR)
 replace h:=cF hc3 h
 refine AH (AF (V ?_))
 obtain⟨y5,hy5,h⟩:=bnd h
 refine E zR (E zR (As zR zR (L5 Ef Bg) (E zR (SL.pick [0,5,6,1,2,3,4] 7 (AX 7 qO (QO hy5 hT) zR (E zR (Ap zR zR zR ?_)))))))
 refine Ap zR zR zR (J zR (J zR (U (AD (V (E zR (O zR Bh (U ?_))))))))
 refine AG zR (fun hc4=>?_) (fun hc4=>?_)
 replace h:=cT hc4 h
 refine V (BL [] zR K4 Kv DQ zT zR (E zR (Am 7 zR zR zR zR C2 zR zR zR zT (J zR (U (AM (Ab (BM (Ab (DD (BM (ER ?_))))))))))))
 obtain rfl:=Option.some.inj h
 exact AU (Dq zR (BG 7 (Ae (⟨0,[]⟩:Af)) CR zR zR zR zR) zR) (AV (M:=[_,_,_,_,_,_,_]) ⟨zR,zR⟩ fun _ hw=>BJ.pick (H:=[_,_,_,_,_,_,_,_]) hw [0,1,2,3,4,5,6] 8 zR)
 replace h:=cF hc4 h
 refine AH (AF (V ?_))
 obtain⟨x2,hx2,h⟩:=bnd h
 obtain⟨l1,hl1,h⟩:=bnd h
 refine E zR (AW zR zR (AB zR Ly (AC 0 P2 zR (E zR ?_))))
 refine BF 2 hx2 zR OS O3 zR zR zR fun g2 m3 cp2 hv2=>?_
 refine Cd (sz:=1) (enc:=eB) 2 hl1 (fun _=>rfl) rfl rfl rfl rfl rfl hv2 O3 (by first | (simp[Value.oneCell'];done) | simp[eB,Value.oneCell']) trivial ?_
 refine U (V (E zR (As zR zR (L5 Ef Bg) (E zR (BL [_,_] zR K4 Kv DQ ⟨zR,zR,zT⟩ zR (Am 7 zR zR zR zR C2 zR zR zR zT (J zR (U (AM (BM (Ab (DD (BM (ER ?_))))))))))))))
 obtain rfl:=Option.some.inj h
 exact AU (Dq zR (BG 7 (Ae (⟨Ds a1,y5.1⟩:Af)) CR zR zR zR zR) zR) (AV (M:=[_,_,_,_,_,_,_]) ⟨zR,zR⟩ fun _ hw=>BJ.pick (H:=[_,_,_,_,_,_,_,_]) hw [0,1,2,3,4,5,6] 8 zR)
 replace h:=cF hc2 h
 refine Al (Aw (A9 (Au ?_)))
 exact Av (o3,o4,y3,y4) h tL (fun _ hw=>BJ.pick (H:=[_,_,_,_,_,_,_,_]) hw [0,1,2,3,4,5,6,7] 8 zR)
 obtain⟨o1,o2,y1,y2⟩:=x
 dsimp only at h
 unfold D2 at h
 refine A4 [(0,vP b0_ 0),(4,vP b1 0)] (AI b0_ (.cells #[vP b0x0_ 0,v0x1_,Z o1.gen,Z o1.boot,Ag o1.num,v0x5_] 69)::AI b0x0_ (.cells #[v0x0x0_,v0x0x1_,v0x0x2_,Ag o2.rcnt,vS o2.rtag,Z o2.rboots,vI o2.left,vB o2.off] 132)::AE 9 1 v0x0x0_ eS o2.blk::AE 9 1 v0x0x1_ eS o2.pnd::AE 4 1 v0x0x2_ eB o2.bads::AE 138 2 v0x1_ Ax o1.ring::AE 4 1 v0x5_ eB o1.taken::AI b1 (.cells #[Z y1,vS y2] 31)::H) ?_ tL
 refine V (BL [] zR K4 Kv DQ zT zR (Am 7 zR zR zR zR C2 zR zR zR zT (J zR (U (AM ?_)))))
 obtain rfl:=Option.some.inj h
 exact AU (Dq zR (BG 7 (Ae (⟨0,[]⟩:Af)) CR zR zR zR zR) zR) (AV (M:=[_,_,_,_,_,_,_]) ⟨zR,zR⟩ fun _ hw=>BJ.pick (H:=[_,_,_,_,_,_,_,_]) hw [0,5,6,1,2,3,4] 8 zR)
def FK(p0:B2)(p0_1:BP)(p1:UInt32):Option (Int×B2):=
 (PJ ((decide (p1<2))||(decide (BK (p0.taken.length:Int)≤p1.toUInt64))) ((Aq p0.taken (p1.toNat:Int)).bind fun x1=>some (!x1))).bind fun y1=>
 cond y1
 (
  some (2,p0))
 (
  (Aq p0.taken (p1.toNat:Int)).bind fun x2=>
  (Ek p0.taken (p1.toNat:Int) false).bind fun l1=>
  some (0,{ p0 with taken:=l1 }))
theorem RE{b0_:Nat}{v0x1_:Value}{v0x5_:Value}{b0x0_:Nat}{v0x0x0_:Value}{v0x0x1_:Value}{v0x0x2_:Value}{p0:B2}{p0_1:BP}{p1:UInt32}{r:Int×B2}(h:FK p0 p0_1 p1=some r): BH Tryz.prog K w0 65 [vP b0_ 0,Z p1] [AI b0_ (.cells #[vP b0x0_ 0,v0x1_,Z p0.gen,Z p0.boot,Ag p0.num,v0x5_] 69),AE 138 2 v0x1_ Ax p0.ring,AE 4 1 v0x5_ eB p0.taken,AI b0x0_ (.cells #[v0x0x0_,v0x0x1_,v0x0x2_,Ag p0_1.rcnt,vS p0_1.rtag,Z p0_1.rboots,vI p0_1.left,vB p0_1.off] 132),AE 9 1 v0x0x0_ eS p0_1.blk,AE 9 1 v0x0x1_ eS p0_1.pnd,AE 4 1 v0x0x2_ eB p0_1.bads] H (fun u M=>u=vI r.1∧M=[AI b0_ (.cells #[vP b0x0_ 0,v0x1_,Z r.2.gen,Z r.2.boot,Ag r.2.num,v0x5_] 69),AE 138 2 v0x1_ Ax r.2.ring,AE 4 1 v0x5_ eB r.2.taken,AI b0x0_ (.cells #[v0x0x0_,v0x0x1_,v0x0x2_,Ag p0_1.rcnt,vS p0_1.rtag,Z p0_1.rboots,vI p0_1.left,vB p0_1.off] 132),AE 9 1 v0x0x0_ eS p0_1.blk,AE 9 1 v0x0x1_ eS p0_1.pnd,AE 4 1 v0x0x2_ eB p0_1.bads]):=by
 unfold FK at h
 refine BH.enter Tryz.func65 rfl rfl ?_
 refine V (J zR (U (AD (V ?_))))
 obtain⟨y1,hy1,h⟩:=bnd h
 refine E zR ?_
 refine O zR (Mu (b:=2)) ?_
 refine E zR ?_
 refine C1 (c:=decide (BK (p0.taken.length:Int)≤p1.toUInt64)) 7 10 17 zR (fun hb k=>?_) (fun hb k=>?_) ?_
 refine AA zR (AA zR (AA zR (AA zR (AA zR (AA zR (AA zR (AA zR ?_)))))))
 refine AA zR (Ad zR zR zR ?_)
 exact k.mono tL
 refine E zR (As zR zR (CF Bg CB) (E zR (AW zR zR (AB zR Ly (AC 0 P2 zR (DC 2 zR OS zR zR (As zR zR (Cr Ef CB) ?_)))))))
 refine O zR Tf (Ad zR zR zR ?_)
 exact k.mono tL
 refine E zR ?_
 refine Ma 18 9 27 hy1 zR (fun hb k=>?_) (fun hb hg2 k=>?_) ?_
 refine AA zR (AA zR (AA zR (AA zR (AA zR (AA zR (AA zR (AA zR ?_)))))))
 refine Ad zR zR zR ?_
 exact k.mono tL
 obtain⟨x1,hx1,hg2⟩:=bnd hg2
 obtain rfl:=Option.some.inj hg2
 refine E zR (AW zR zR (AB zR Ly (AC 0 P2 zR (E zR ?_))))
 refine BF 2 hx1 zR OS O3 zR zR zR fun g1 m1 cp1 hv1=>?_
 refine BR zR Uv zR (BW (sz:=1) (enc:=eB) 2 0 (fun _=>rfl) zR hv1 hx1 zR) ?_
 refine B9 zR zR (Ad zR zR zR ?_)
 exact k.mono tL
 refine U ?_
 refine AG zR (fun hc1=>?_) (fun hc1=>?_)
 replace h:=cT hc1 h
 refine V (J zR (U (AM (Ab ?_))))
 obtain rfl:=Option.some.inj h
 exact AY [0,1,2,3,4,5,6] 7 zR zR zR
 replace h:=cF hc1 h
 refine AH (AF (V ?_))
 obtain⟨x2,hx2,h⟩:=bnd h
 obtain⟨l1,hl1,h⟩:=bnd h
 refine E zR (AW zR zR (AB zR Ly (AC 0 P2 zR (E zR ?_))))
 refine BF 2 hx2 zR OS O3 zR zR zR fun g2 m2 cp2 hv2=>?_
 refine Cd (sz:=1) (enc:=eB) 2 hl1 (fun _=>rfl) rfl rfl rfl rfl rfl hv2 O3 (by first | (simp[Value.oneCell'];done) | simp[eB,Value.oneCell']) trivial ?_
 refine U (V (J zR (U (AM ?_))))
 obtain rfl:=Option.some.inj h
 exact AY [0,1,2,3,4,5,6] 7 zR zR zR
def FZ(a1:Int):Option Int:=
 some a1
def EK(a3:Int)(nx_f_ref13_Vault_Free_l1:Int×Int→Option Int)(a4:Int):Option Int:=
 ret (wI (a3+1)) fun i_1=>
 nx_f_ref13_Vault_Free_l1 (a4,i_1)
def Cl(p0:B2)(nx_f_ref13_Vault_Free_l1:Int×Int→Option Int)(a2:Int)(a3:Int):Option Int:=
 cond (decide (a3<(p0.taken.length:Int)))
 (
  (Aq p0.taken a3).bind fun x1=>
  cond (!x1)
  (
   ret (wI (a2+1)) fun x2=>
   EK a3 nx_f_ref13_Vault_Free_l1 x2)
  (
   EK a3 nx_f_ref13_Vault_Free_l1 a2))
 (
  FZ a2)
def Ch(p0:B2):Nat→(Int×Int)→Option Int:=Be fun nx x=>Cl p0 nx x.1 x.2
def EQ(n:Nat)(p0:B2)(p0_1:BP):Option Int:=
 Ch p0 n (0,0)
theorem RI{n:Nat}{b0_:Nat}{v0x1_:Value}{v0x5_:Value}{b0x0_:Nat}{v0x0x0_:Value}{v0x0x1_:Value}{v0x0x2_:Value}{p0:B2}{p0_1:BP}{r:Int}(h:EQ n p0 p0_1=some r): BH Tryz.prog K w0 33 [vP b0_ 0] [AI b0_ (.cells #[vP b0x0_ 0,v0x1_,Z p0.gen,Z p0.boot,Ag p0.num,v0x5_] 69),AE 138 2 v0x1_ Ax p0.ring,AE 4 1 v0x5_ eB p0.taken,AI b0x0_ (.cells #[v0x0x0_,v0x0x1_,v0x0x2_,Ag p0_1.rcnt,vS p0_1.rtag,Z p0_1.rboots,vI p0_1.left,vB p0_1.off] 132),AE 9 1 v0x0x0_ eS p0_1.blk,AE 9 1 v0x0x1_ eS p0_1.pnd,AE 4 1 v0x0x2_ eB p0_1.bads] H (fun u M=>u=vI r∧M=[AI b0_ (.cells #[vP b0x0_ 0,v0x1_,Z p0.gen,Z p0.boot,Ag p0.num,v0x5_] 69),AE 138 2 v0x1_ Ax p0.ring,AE 4 1 v0x5_ eB p0.taken,AI b0x0_ (.cells #[v0x0x0_,v0x0x1_,v0x0x2_,Ag p0_1.rcnt,vS p0_1.rtag,Z p0_1.rboots,vI p0_1.left,vB p0_1.off] 132),AE 9 1 v0x0x0_ eS p0_1.blk,AE 9 1 v0x0x1_ eS p0_1.pnd,AE 4 1 v0x0x2_ eB p0_1.bads]):=by
 unfold EQ at h
 refine BH.enter Tryz.func33 rfl rfl ?_
 refine V (J zR (U (V (J zR (U ?_)))))
 refine A1 (α:=Int) (fun x=>FZ x=some r) (fun x=>[(0,vP b0_ 0),(3,vI x)]) (fun x=>AI b0_ (.cells #[vP b0x0_ 0,v0x1_,Z p0.gen,Z p0.boot,Ag p0.num,v0x5_] 69)::AI b0x0_ (.cells #[v0x0x0_,v0x0x1_,v0x0x2_,Ag p0_1.rcnt,vS p0_1.rtag,Z p0_1.rboots,vI p0_1.left,vB p0_1.off] 132)::AE 9 1 v0x0x0_ eS p0_1.blk::AE 9 1 v0x0x1_ eS p0_1.pnd::AE 4 1 v0x0x2_ eB p0_1.bads::AE 138 2 v0x1_ Ax p0.ring::AE 4 1 v0x5_ eB p0.taken::H) ?_ (fun a1 D h=>?_)
 refine V (J zR (U (AL ?_)))
 refine SX.heap (SX.mono (Ay (α:=Nat×Int×Int) (fun x=>Ch p0 x.1 (x.2.1,x.2.2)=some r) (fun x=>[(0,vP b0_ 0),(3,vI x.2.1),(4,vI x.2.2)]) (fun x=>AI b0_ (.cells #[vP b0x0_ 0,v0x1_,Z p0.gen,Z p0.boot,Ag p0.num,v0x5_] 69)::AI b0x0_ (.cells #[v0x0x0_,v0x0x1_,v0x0x2_,Ag p0_1.rcnt,vS p0_1.rtag,Z p0_1.rboots,vI p0_1.left,vB p0_1.off] 132)::AE 9 1 v0x0x0_ eS p0_1.blk::AE 9 1 v0x0x1_ eS p0_1.pnd::AE 4 1 v0x0x2_ eB p0_1.bads::AE 138 2 v0x1_ Ax p0.ring::AE 4 1 v0x5_ eB p0.taken::H) (fun x=>x.1) (fun x D h=>?_) (n,0,0) h) tL) (fun _ hw=>BJ.pick (H:=[_,_,_,_,_,_,_]) hw [0,3,4,5,6,1,2] 7 zR)
 obtain⟨m1,a2,a3⟩:=x
 dsimp only at h
 rcases m1 with _ | m1
 cases (show(none:Option _)=some r from h)
 replace h:Cl p0 (Ch p0 m1) a2 a3=some r:=h
 unfold Cl at h
 refine A4 [(0,vP b0_ 0),(3,vI a2),(4,vI a3)] (AI b0_ (.cells #[vP b0x0_ 0,v0x1_,Z p0.gen,Z p0.boot,Ag p0.num,v0x5_] 69)::AI b0x0_ (.cells #[v0x0x0_,v0x0x1_,v0x0x2_,Ag p0_1.rcnt,vS p0_1.rtag,Z p0_1.rboots,vI p0_1.left,vB p0_1.off] 132)::AE 9 1 v0x0x0_ eS p0_1.blk::AE 9 1 v0x0x1_ eS p0_1.pnd::AE 4 1 v0x0x2_ eB p0_1.bads::AE 138 2 v0x1_ Ax p0.ring::AE 4 1 v0x5_ eB p0.taken::H) ?_ tL
 refine AD (V (E zR (E zR (AW zR zR (AB zR Ly (AC 0 P2 zR (DC 6 zR OS zR zR (O zR Ao (U ?_)))))))))
 refine AG zR (fun hc1=>?_) (fun hc1=>?_)
 replace h:=cT hc1 h
 refine AH (AF ?_)
 refine A1 (α:=Int) (fun x=>EK a3 (Ch p0 m1) x=some r) (fun x=>[(0,vP b0_ 0),(3,vI x),(4,vI a3)]) (fun x=>AI b0_ (.cells #[vP b0x0_ 0,v0x1_,Z p0.gen,Z p0.boot,Ag p0.num,v0x5_] 69)::AI b0x0_ (.cells #[v0x0x0_,v0x0x1_,v0x0x2_,Ag p0_1.rcnt,vS p0_1.rtag,Z p0_1.rboots,vI p0_1.left,vB p0_1.off] 132)::AE 9 1 v0x0x0_ eS p0_1.blk::AE 9 1 v0x0x1_ eS p0_1.pnd::AE 4 1 v0x0x2_ eB p0_1.bads::AE 138 2 v0x1_ Ax p0.ring::AE 4 1 v0x5_ eB p0.taken::H) ?_ (fun a4 D h=>?_)
 refine AL (V ?_)
 obtain⟨x1,hx1,h⟩:=bnd h
 refine E zR (AW zR zR (AB zR Ly (AC 0 P2 zR (E zR ?_))))
 refine BF 6 hx1 zR OS O3 zR zR zR fun g1 m2 cp1 hv1=>?_
 refine BR zR Uv zR (BW (sz:=1) (enc:=eB) 6 0 (fun _=>rfl) zR hv1 hx1 zR) ?_
 refine B9 zR zR (U ?_)
 refine AG zR (fun hc2=>?_) (fun hc2=>?_)
 replace h:=cT hc2 h
 refine AJ ?_
 obtain⟨x2,ex2,h⟩:=Bc h
 refine E zR (O zR A3 ?_)
 refine Ak (u:=vI x2) zR zR (congrArg vI ex2) ?_
 refine AS (Ai ?_)
 exact Av x2 h tL (fun _ hw=>BJ.pick (H:=[_,_,_,_,_,_,_]) hw [0,1,2,3,4,5,6] 7 zR)
 replace h:=cF hc2 h
 refine AH (Ai ?_)
 exact Av a2 h tL (fun _ hw=>BJ.pick (H:=[_,_,_,_,_,_,_]) hw [0,1,2,3,4,5,6] 7 zR)
 unfold EK at h
 refine A4 [(0,vP b0_ 0),(3,vI a4),(4,vI a3)] (AI b0_ (.cells #[vP b0x0_ 0,v0x1_,Z p0.gen,Z p0.boot,Ag p0.num,v0x5_] 69)::AI b0x0_ (.cells #[v0x0x0_,v0x0x1_,v0x0x2_,Ag p0_1.rcnt,vS p0_1.rtag,Z p0_1.rboots,vI p0_1.left,vB p0_1.off] 132)::AE 9 1 v0x0x0_ eS p0_1.blk::AE 9 1 v0x0x1_ eS p0_1.pnd::AE 4 1 v0x0x2_ eB p0_1.bads::AE 138 2 v0x1_ Ax p0.ring::AE 4 1 v0x5_ eB p0.taken::H) ?_ tL
 refine AJ ?_
 obtain⟨i_1,ei_1,h⟩:=Bc h
 refine E zR (O zR A3 ?_)
 refine Ak (u:=vI i_1) zR zR (congrArg vI ei_1) ?_
 refine AS ?_
 exact Ac (m1,a4,i_1) h (Nat.lt_succ_self _) tL (fun _ hw=>BJ.pick (H:=[_,_,_,_,_,_,_]) hw [0,1,2,3,4,5,6] 7 zR)
 replace h:=cF hc1 h
 refine Al (Aw (A9 (Au ?_)))
 exact Av a2 h tL (fun _ hw=>BJ.pick (H:=[_,_,_,_,_,_,_]) hw [0,1,2,3,4,5,6] 7 zR)
 unfold FZ at h
 refine A4 [(0,vP b0_ 0),(3,vI a1)] (AI b0_ (.cells #[vP b0x0_ 0,v0x1_,Z p0.gen,Z p0.boot,Ag p0.num,v0x5_] 69)::AI b0x0_ (.cells #[v0x0x0_,v0x0x1_,v0x0x2_,Ag p0_1.rcnt,vS p0_1.rtag,Z p0_1.rboots,vI p0_1.left,vB p0_1.off] 132)::AE 9 1 v0x0x0_ eS p0_1.blk::AE 9 1 v0x0x1_ eS p0_1.pnd::AE 4 1 v0x0x2_ eB p0_1.bads::AE 138 2 v0x1_ Ax p0.ring::AE 4 1 v0x5_ eB p0.taken::H) ?_ tL
 refine V (E zR (J zR (U (AM ?_))))
 obtain rfl:=Option.some.inj h
 exact AY [0,5,6,1,2,3,4] 7 zR zR zR
end

/- What the answer's loader of pages has. No condition. -/
section
structure rJ where
 out:List A5
 rows:List AN
 count:Int
 err:Int
end

/- Plain functions of the references and the laws, printed from the loaded program, and the walks that show that the program computes them. Condition: the plain function yields. -/
section
variable {K:Nat→Prop}{w0:World}{H:List AT}
end

/- The answer's keeper of pages, where they must be: sphragisref14.keeper.place without a vault. Condition: the plain function yields. -/
section
variable {K:Nat→Prop}{w0:World}{H:List AT}
structure rO where
 out:List A5
 err:Int
end

/- The engine: pieces of a row of the call's own, appended to another one. No condition beyond those stated. -/
section
variable {P:Program}{ro:Option Nat}{K:Nat→Prop}{w0:World}{N:Nat}{Q:Cc}{D:List Nat}{l l':Tm}{H H' Hs L:List AT}{ops:Array Oper}{items:G5}
variable {tk:Bool}{o:Oper}{t:Nat}{v:Value}{x y z:Operand}
variable {α:Type}{enc:α→List Value}{sz:Nat}{xs us:List α}{e ty:TypeId}
end

/- The engine: a lent slice cut at both ends. No condition beyond those stated. -/
section
variable {P:Program}{ro:Option Nat}{K:Nat→Prop}{w0:World}{N:Nat}{Q:Cc}{D:List Nat}{l l':Tm}{H H' Hs L:List AT}{ops:Array Oper}{items:G5}
variable {tk:Bool}{o:Oper}{t:Nat}{v:Value}{x y z:Operand}
theorem k3{b off n c sz:Nat}{k k':IntKind}{i j:Int}{ty e:TypeId}(p q:Nat)(ho:At ops N l o t (.slice ty x (some y) (some z) none))(hty:P.underlying ty=some (.slice e))(hsz:CY P e=some sz)(hx:BT l x=some (.slice (some ⟨b,off,none⟩) n c))(hy:BT l y=some (.int k i))(hz:BT l z=some (.int k' j))
(hi:i=(p:Int))(hj:j=(q:Int))(hp:p≤q)(hq:q≤c)(hpc:p<c)(h:SL P ro K w0 N ops Hs items Q D ((t,.slice (some ⟨b,off+p*sz,none⟩) (q-p) (c-p))::l) H):SL P ro K w0 N ops Hs (.cons (tk,o) items) Q D l H:=
 SL.val ho rfl (fun a w ha _=>by
  subst hi hj
  have hne:¬c=p:=by omega
  simp only[execOp,ho.op,Instr.sliceAt,Instr.slice,Option.map]
  simp[ha.eval hx,ha.eval hy,ha.eval hz,Ar hty,CA hsz,Instr.sliceBounds,Instr.sliceBound,asIntOf,hq,hp,By];omega) h
theorem iz{α:Type}{enc:α→List Value}{sz:Nat}{xs us:List α}{k k':IntKind}{i j:Int}{ty e:TypeId}(hn:JB xs i j=some us)(hk:Bn K w0 enc sz v xs)(ho:At ops N l o t (.slice ty x (some y) (some z) none))(hty:P.underlying ty=some (.slice e))(hsz:CY P e=some sz)(hx:BT l x=some v)(hy:BT l y=some (.int k i))(hz:BT l z=some (.int k' j))
(h:∀v',Bn K w0 enc sz v' us→SL P ro K w0 N ops Hs items Q D ((t,v')::l) H):SL P ro K w0 N ops Hs (.cons (tk,o) items) Q D l H:=by
 obtain⟨h1,h2,h3,h4,rfl⟩:=NR hn
 have hi:i=(i.toNat:Int):=by omega
 have hj:j=(j.toNat:Int):=by omega
 generalize i.toNat=p at*
 generalize j.toNat=q at*
 subst hi hj
 rcases hk.at_ with⟨a0,rfl,rfl⟩ | ⟨b,off,cap,rfl,hcap,hc⟩
 have hq:q=0:=by simpa using h4
 have hp:p=0:=by omega
 subst hq hp
 refine SL.val (v:=.slice a0 0 0) ho zR (fun a w ha _=>?_) (h _ ⟨hk.len,.inl ⟨_,zR,by simp⟩⟩)
 simp only[execOp,ho.op,Instr.sliceAt,Instr.slice,Option.map]
 cases a0<;>simp[ha.eval hx,ha.eval hy,ha.eval hz,Ar hty,CA hsz,Instr.sliceBounds,Instr.sliceBound,asIntOf]
 have hl:((xs.drop p).take (q-p)).length=q-p:=by simp;omega
 by_cases hpc:p<cap
 refine k3 p q ho hty hsz hx hy hz zR zR h3 zO hpc (h _ ⟨hk.len,.inr ⟨b,off+p*sz,cap-p,by rw[hl],by rw[hl];omega,fun j' u hu=>?_⟩⟩)
 have hc':=(Bn.cut hk.len hcap hc (show p≤xs.length by omega)).at_
 have hpre:((xs.drop p).take (q-p))++((xs.drop p).drop (q-p))=xs.drop p:=List.take_append_drop ..
 have hlen:((xs.take p).flatMap enc).length=p*sz:=by rw[Hg hk.len,List.length_take,Nat.min_eq_left zO]
 have:=hc (p*sz+j') u (by
  rw[←List.take_append_drop p xs,List.flatMap_append,List.getElem?_append_right zO,hlen,Nat.add_sub_cancel_left,←hpre,List.flatMap_append,List.getElem?_append_left (List.getElem?_eq_some_iff.1 hu).1]
  exact hu)
 rw[Nat.add_assoc]
 exact this
 have hpe:p=cap:=by omega
 have hqe:q=p:=by omega
 subst hqe
 refine SL.val (v:=.slice (some ⟨b,off,none⟩) 0 0) ho zR (fun a w ha _=>?_) (h _ ⟨hk.len,.inl ⟨_,zR,by simp⟩⟩)
 simp only[execOp,ho.op,Instr.sliceAt,Instr.slice,Option.map]
 simp[ha.eval hx,ha.eval hy,ha.eval hz,Ar hty,CA hsz,Instr.sliceBounds,Instr.sliceBound,asIntOf,By,hpe]
end

/- The answer's keeper.node, whatever place does. Condition: the plain functions yield. -/
section
variable {K:Nat→Prop}{w0:World}{H:List AT}
def qB{σ α:Type}(bk:Nat)(I:(Nat→Prop)→World→Prop)(C:α→σ→List AT)(pl:Bj→σ→Option (Af×σ)):Prop:=
 ∀ {K:Nat→Prop} {w0:World} {H:List AT} {v4 v5:Value} {a:α} {x:Bj} {q:σ} {r:Af×σ},I K w0→pl x q=some r→Bn K w0 AK 4 v4 x.rows→Bn K w0 Ae 2 v5 x.kids→
  BH Tryz.prog K w0 89 [vP bk 0,.agg #[vI x.kind,Z x.cx,Z x.cy,vI x.lev,v4,v5,Z x.npage,vS x.ntag]] (C a q) H (fun u M=>u=.agg (Ae r.1).toArray∧∃a',M=C a' r.2)
def O0{σ:Type}(rec_:BO→σ→Option (Af×σ)):List BO→σ→List Af→Option (List Af×σ)
 | [],q,acc=>some (acc,q)
 | k::ks,q,acc=>(rec_ k q).bind fun y=>(CT 24 acc [y.1]).bind fun a=>O0 rec_ ks y.2 a
def QP{σ:Type}(pl:Bj→σ→Option (Af×σ))(l:List AN):Nat→Af→σ→Option (Af×σ)
 | 0,r,q=>some (r,q)
 | j+1,r,q=>(JB l (4*(j:Int)) (min (l.length:Int) (4*(j:Int)+4))).bind fun p=>(pl ⟨1,0,0,0,p,[],r.page,r.tag⟩ q).bind fun y=>QP pl l j y.1 y.2
def QI{σ:Type}(pl:Bj→σ→Option (Af×σ)):Nat→BO→σ→Option (Af×σ)
 | 0,_,_=>none
 | f+1,t,q=>if 1048576<t.rows.length∨1048576<t.kids.length then none else cond (decide (0<(t.kids.length:Int)))
   ((O0 (QI pl f) t.kids q []).bind fun y=>pl ⟨2,t.cx,t.cy,t.lev,[],y.1,0,[]⟩ y.2)
   (QP pl t.rows ((max t.rows.length 1-1) / 4+1) ⟨0,[]⟩ q)
theorem ah{σ α:Type}{bk:Nat}{I:(Nat→Prop)→World→Prop}{C:α→σ→List AT}{pl:Bj→σ→Option (Af×σ)}(hI:∀ {K w0 K' w1},I K w0→TY K w0 K' w1→I K' w1)(hpl:qB bk I C pl):
  ∀(f:Nat) {K:Nat→Prop} {w0:World} {H:List AT} {ca:α} {a:Dz} {t:BO} {q:σ} {r:Af×σ},I K w0→QI pl f t q=some r→Lu K w0 a t→
  BH Tryz.prog K w0 56 [vP bk 0,.agg (Bk a).toArray] (C ca q) H (fun u M=>u=.agg (Ae r.1).toArray∧∃ca',M=C ca' r.2)
 | 0,K,w0,H,ca,a,t,q,r,hi,h,hN=>by cases h
 | f+1,K,w0,H,ca,a,t,q,r,hi,h,hN=>by
  have h:(if 1048576<t.rows.length∨1048576<t.kids.length then none else cond (decide (0<(t.kids.length:Int)))
   ((O0 (QI pl f) t.kids q []).bind fun y=>pl ⟨2,t.cx,t.cy,t.lev,[],y.1,0,[]⟩ y.2)
   (QP pl t.rows ((max t.rows.length 1-1) / 4+1) ⟨0,[]⟩ q))=some r:=h
  split at h
  cases h
  rename_i hbig
  have hrl:t.rows.length≤1048576:=by omega
  have hkl:t.kids.length≤1048576:=by omega
  clear hbig
  obtain⟨rv,kv,rfl,hr,hk⟩:=hN.parts
  refine BH.enter Tryz.func56 rfl rfl ?_
  refine V ?_
  refine BU zR zR (fun _=>trivial) fun b0=>?_
  refine Ah zR DQ (fun _=>trivial) fun b1=>?_
  refine U (AD (V (AB zR Hb (AC 1 Rc zR (Q5 hk zR MR zR (O zR CD (U ?_)))))))
  refine AG zR (fun hc1=>?_) (fun hc1=>?_)
  replace h:=cT hc1 h
  refine V (AB rfl Mk (Aa [Z t.cx,Z t.cy,vI t.lev] rfl Dm rfl rfl (CG 1 rfl (by rintro(_ | (_ | (_ | j))) u hj<;>first | exact hj | exact absurd hj zS)) (BL [_,_] rfl Tg T3 Lh ⟨rfl,rfl,trivial⟩ rfl ?_)))
  refine Ah zR Lh (fun _=>trivial) fun b5=>?_
  refine Am 0 zR zR zR zR O6 zR zR zR zT (C4 0 (AI b5 (.cells #[vI 2,Z t.cx,Z t.cy,vI t.lev,.slice none 0 0,.slice none 0 0,Z 0,vS []] 148)) (Bx 31 2 Ae (U (AD (V (J zR (U (AL ?_))))))))
  refine SX.heap (SX.mono (Ay (α:=Nat×List Af×Value×σ×α) (fun x=>x.1≤t.kids.length∧((O0 (QI pl f) (t.kids.drop x.1) x.2.2.2.1 x.2.1).bind fun y=>pl ⟨2,t.cx,t.cy,t.lev,[],y.1,0,[]⟩ y.2)=some r)
   (fun x=>[(0,vP bk 0),(3,vP b0 0),(4,vP b1 0),(5,vP b5 0),(6,vI (x.1:Int))])
   (fun x=>AI b5 (.cells #[vI 2,Z t.cx,Z t.cy,vI t.lev,.slice none 0 0,x.2.2.1,Z 0,vS []] 148)::AE 31 2 x.2.2.1 Ae x.2.1::AI b1 (.cells #[Z 0,vS []] 31)::AI b0 (.cells #[Z t.cx,Z t.cy,vI t.lev,rv.val,kv.val] 57)::(C x.2.2.2.2 x.2.2.2.1++H))
   (fun x=>t.kids.length-x.1) (fun x D hp=>?_) (0,[],.slice none 0 0,q,ca) ⟨Nat.zero_le _,h⟩) tL) (fun _ hw=>BJ.pick (H:=[_,_,_,_]) hw [1,0,2,3] 4 rfl)
  clear h
  obtain⟨i,ks,vk,q1,ca1⟩:=x
  obtain⟨hi',h⟩:=hp
  dsimp only at hi' h ⊢
  refine AD (V (E zR (AB zR Hb (AC 3 Rc zR (Q5 hk zR MR zR (O zR Ao (U ?_)))))))
  refine AG zR (fun hc2=>?_) (fun hc2=>?_)
  have hlt:i<t.kids.length:=by
   have:=of_decide_eq_true hc2
   omega
  clear hc2
  have hnth:Aq t.kids (i:Int)=some t.kids[i]:=by
   rw[Aq,if_pos zO]
   exact List.getElem?_eq_getElem hlt
  rw[List.drop_eq_getElem_cons hlt,O0]at h
  obtain⟨z,hz,h⟩:=bnd h
  obtain⟨y,hy,hz⟩:=bnd hz
  obtain⟨ac,hac,hz⟩:=bnd hz
  have h2:((O0 (QI pl f) (t.kids.drop (i+1)) y.2 ac).bind fun y=>pl ⟨2,t.cx,t.cy,t.lev,[],y.1,0,[]⟩ y.2)=some r:=by
   rw[hz];exact h
  refine AH (AF (AD (AL (Aj CJ [0,3] (BY [(true,0),(true,1),(true,2),(true,3),(true,4),(true,5),(true,6),(true,7),(false,8),(false,9),(false,10),(true,11)] (.last 12 .nil)) zK (AB zR DZ (AC 0 Hc zR (E zR (AB zR Hb (AC 1 Rc zR (E zR ?_))))))))))
  refine ab hnth hk zR MR G4 zR zR fun b6 of6 rv6 kv6 hr6 hk6 hc6=>?_
  obtain⟨rs6,rfl⟩:=hr6.slv
  obtain⟨kk6,hk61,hk62⟩:=hk6
  obtain⟨ks6,rfl⟩:=hk61.slv
  have hN6:Lu K w0 ⟨t.kids[i].cx,t.kids[i].cy,t.kids[i].lev,rs6,ks6⟩ t.kids[i]:=Lu.of hr6 ⟨kk6,hk61,hk62⟩
  refine Aa [Z t.kids[i].cx,Z t.kids[i].cy,vI t.kids[i].lev,rs6.val,ks6.val] zR Kp zR zR (Cj hc6) ?_
  refine SL.heap ?_ (fun _ hw=>DP (A:=[AI b5 (.cells #[vI 2,Z t.cx,Z t.cy,vI t.lev,.slice none 0 0,vk,Z 0,vS []] 148),AE 31 2 vk Ae ks,AI b1 (.cells #[Z 0,vS []] 31),AI b0 (.cells #[Z t.cx,Z t.cy,vI t.lev,rv.val,kv.val] 57)]) (B:=C ca1 q1) (R:=H) hw)
  have hcon:=ah hI hpl f (ca:=ca1) (K:=K) (w0:=w0) (H:=([AI b5 (.cells #[vI 2,Z t.cx,Z t.cy,vI t.lev,.slice none 0 0,vk,Z 0,vS []] 148),AE 31 2 vk Ae ks,AI b1 (.cells #[Z 0,vS []] 31),AI b0 (.cells #[Z t.cx,Z t.cy,vI t.lev,rv.val,kv.val] 57)]++H)++[BB D]) hi hy hN6
  generalize hpo:(fun(u:Value) (M:List AT)=>u=.agg (Ae y.1).toArray∧∃ca',M=C ca' y.2)=po at hcon
  refine AP (vs:=[_,_]) (Hin:=C ca1 q1) (Hr:=[AI b5 (.cells #[vI 2,Z t.cx,Z t.cy,vI t.lev,.slice none 0 0,vk,Z 0,vS []] 148),AE 31 2 vk Ae ks,AI b1 (.cells #[Z 0,vS []] 31),AI b0 (.cells #[Z t.cx,Z t.cy,vI t.lev,rv.val,kv.val] 57)]++H) zR zR ⟨zR,zR,zT⟩ ku zR zR hcon ?_
  intro u0 M0 hpost
  rw[←hpo]at hpost
  obtain⟨rfl,ca2,rfl⟩:=hpost
  refine⟨ED.mid (A:=[AI b5 (.cells #[vI 2,Z t.cx,Z t.cy,vI t.lev,.slice none 0 0,vk,Z 0,vS []] 148),AE 31 2 vk Ae ks,AI b1 (.cells #[Z 0,vS []] 31),AI b0 (.cells #[Z t.cx,Z t.cy,vI t.lev,rv.val,kv.val] 57)]) ⟨⟨0,rfl⟩,⟨3,rfl⟩,trivial⟩,?_⟩
  refine SL.heap ?_ (fun _ hw=>DP (A:=C ca2 y.2) (B:=[AI b5 (.cells #[vI 2,Z t.cx,Z t.cy,vI t.lev,.slice none 0 0,vk,Z 0,vS []] 148),AE 31 2 vk Ae ks,AI b1 (.cells #[Z 0,vS []] 31),AI b0 (.cells #[Z t.cx,Z t.cy,vI t.lev,rv.val,kv.val] 57)]) (R:=H) hw)
  refine Bd [_] rfl Eh C2 DQ ⟨rfl,trivial⟩ rfl rfl rfl (by first | (simp[Value.cells];done) | (intro v hv;simp only[List.mem_cons,List.not_mem_nil,or_false]at hv;rcases hv with rfl<;>rfl)) rfl rfl (fun _=>⟨⟨1,rfl⟩,⟨4,rfl⟩,trivial⟩) fun b8=>?_
  refine Bi Ae 2 ([y.1]:List Af) zR (fun _=>rfl) zR ?_
  refine B7 2 hac (sz:=2) (enc:=Ae) (fun _=>rfl) zR Eh C2 fj DQ zR zD zR zR zR zR (Ba (sz:=2) (enc:=Ae) 0 (fun _=>rfl) zR) (by simp[Ae,Value.oneCell']) (fun _=>⟨⟨1,zR⟩,⟨4,zR⟩,zT⟩) fun v6=>?_
  refine AB zR DZ (BE ?_)
  refine B6 2 zR fun hv6 ho6=>?_
  refine DW 1 zR zR zR zR eE hv6 ho6 zR zT (AS (Ai (AF (AJ (E zR (O zR (BA zO zO) (J zR (AS ?_))))))))
  exact Ac (i+1,ac,v6,y.2,ca2) ⟨hlt,h2⟩ (by dsimp only;omega) tL (fun _ hw=>BJ.pick (H:=[_,_,_,_,_]) hw [1,2,3,4] 5 zR)
  have hge:i=t.kids.length:=by
   have:=of_decide_eq_false hc2
   omega
  subst hge
  rw[List.drop_length,O0]at h
  replace h:pl ⟨2,t.cx,t.cy,t.lev,[],ks,0,[]⟩ q1=some r:=h
  refine Al (Aw (A9 (Au (AF (SX.pick [1,0,2,3] 4 (V (E zR (Aa [vI 2,Z t.cx,Z t.cy,vI t.lev,.slice none 0 0,vk,Z 0,vS []] zR K8 zR zR (AZ 1 zR) ?_))))))))
  refine SL.heap ?_ (fun _ hw=>Wp (A:=[AI b5 (.cells #[vI 2,Z t.cx,Z t.cy,vI t.lev,.slice none 0 0,vk,Z 0,vS []] 148),AI b1 (.cells #[Z 0,vS []] 31),AI b0 (.cells #[Z t.cx,Z t.cy,vI t.lev,rv.val,kv.val] 57)]) (B:=C ca1 q1) (R:=H) hw)
  have hcon:=CC (K:=K) (w0:=w0) (H:=([AI b5 (.cells #[vI 2,Z t.cx,Z t.cy,vI t.lev,.slice none 0 0,vk,Z 0,vS []] 148),AI b1 (.cells #[Z 0,vS []] 31),AI b0 (.cells #[Z t.cx,Z t.cy,vI t.lev,rv.val,kv.val] 57)]++H)++[BB D]) (f:=89) (B:=[AE 31 2 vk Ae ks]) (Hin:=C ca1 q1) fun K' w1 hkk hB=>hpl (a:=ca1) (v4:=.slice none 0 0) (v5:=vk) (hI hi hkk) h (PP (fun _=>rfl)) (Br (e:=31) (v:=vk) (fun _=>rfl) (hB _ zS))
  refine AP (vs:=[_,_]) (Hin:=AE 31 2 vk Ae ks::C ca1 q1) (Hr:=[AI b5 (.cells #[vI 2,Z t.cx,Z t.cy,vI t.lev,.slice none 0 0,vk,Z 0,vS []] 148),AI b1 (.cells #[Z 0,vS []] 31),AI b0 (.cells #[Z t.cx,Z t.cy,vI t.lev,rv.val,kv.val] 57)]++H) zR zR ⟨zR,zR,zT⟩ jE zR zR hcon ?_
  rintro _ _ ⟨_,rfl,rfl,ca2,rfl⟩
  refine⟨trivial,?_⟩
  refine SL.heap ?_ (fun _ hw=>DP (A:=AE 31 2 vk Ae ks::C ca2 r.2) (B:=[AI b5 (.cells #[vI 2,Z t.cx,Z t.cy,vI t.lev,.slice none 0 0,vk,Z 0,vS []] 148),AI b1 (.cells #[Z 0,vS []] 31),AI b0 (.cells #[Z t.cx,Z t.cy,vI t.lev,rv.val,kv.val] 57)]) (R:=H) hw)
  refine Am 1 zR zR zR zR C2 zR zR zR zT (U (AM (Ab ?_)))
  exact AU (Dx zR (BG 1 (Ae r.1) CR zR zR zR zR)) (AV (M:=C ca2 r.2) ⟨zR,ca2,zR⟩ fun _ hw=>BJ.pick (H:=[_,_,_,_]) hw [] 4 zR)
  replace h:=cF hc1 h
  refine AH (AF (V (BL [] zR K4 Kv DQ zT zR ?_)))
  refine Ah zR DQ (fun _=>trivial) fun b7=>?_
  refine Am 0 zR zR zR zR C2 zR zR zR zT (U (AD (V (AB zR Q0 (AC 2 Em zR (Bb hr zR Bf zR (az zR zR zR (O zR (Cy zO zO) (O zR (gu zO zO zO) (O zR (JR zO zO) ?_))))))))))
  refine Ak (u:=vI (4*(((max t.rows.length 1-1) / 4+1:Nat):Int)-4)) zR zR (congrArg vI zO) ?_
  refine U (AL ?_)
  refine SX.mono (Ay (α:=Nat×Af×σ×α) (fun x=>x.1≤300000∧QP pl t.rows x.1 x.2.1 x.2.2.1=some r)
   (fun x=>[(0,vP bk 0),(3,vP b0 0),(4,vP b1 0),(7,vP b7 0),(8,vI (4*(x.1:Int)-4))])
   (fun x=>AI b7 (.cells #[Z x.2.1.page,vS x.2.1.tag] 31)::AI b1 (.cells #[Z 0,vS []] 31)::AI b0 (.cells #[Z t.cx,Z t.cy,vI t.lev,rv.val,kv.val] 57)::(C x.2.2.2 x.2.2.1++H))
   (fun x=>x.1) (fun x D hp=>?_) ((max t.rows.length 1-1) / 4+1,⟨0,[]⟩,q,ca) ⟨by dsimp only;omega,h⟩) tL
  clear h
  obtain⟨j,w,q1,ca1⟩:=x
  obtain⟨hj,h⟩:=hp
  dsimp only at hj h ⊢
  refine AD (V (E zR (O zR LN (U ?_))))
  refine AG zR (fun hc2=>?_) (fun hc2=>?_)
  obtain⟨j,rfl⟩:∃j',j=j'+1:=⟨j-1,by have:=of_decide_eq_true hc2;omega⟩
  clear hc2
  obtain⟨pc,hpc,h⟩:=bnd h
  obtain⟨y,hy,h⟩:=bnd h
  refine AH (AF (AD (AL (Aj CJ [2,0] (BY [(true,0),(true,1),(true,2),(true,3),(true,4),(true,5),(true,6),(true,7),(true,8),(true,9),(true,10),(true,11),(true,12),(false,13)] (.last 14 .nil)) zK (E zR (AB zR Q0 (AC 0 Em zR (E zR (AB zR Q0 (AC 0 Em zR (Bb hr zR Bf zR ?_)))))))))))
  refine E zR (O zR (BA zO zO) (Oe zR zR zR ?_))
  have hpc':JB t.rows (4*((j+1:Nat):Int)-4) (min (t.rows.length:Int) (4*((j+1:Nat):Int)-4+4))=some pc:=by
   rw[←hpc]
   congr 1<;>omega
  refine iz hpc' hr zR Bf Bo zR zR zR fun vpc hspc=>?_
  obtain⟨spc,rfl⟩:=hspc.slv
  refine Aa (Ae w) zR CR zR zR (AZ 1 zR) (BL [_,_,_] zR Tg T3 Lh ⟨zR,zR,zR,zT⟩ zR ?_)
  refine SL.heap ?_ (fun _ hw=>DP (A:=[AI b7 (.cells #[Z w.page,vS w.tag] 31),AI b1 (.cells #[Z 0,vS []] 31),AI b0 (.cells #[Z t.cx,Z t.cy,vI t.lev,rv.val,kv.val] 57)]) (B:=C ca1 q1) (R:=H) hw)
  have hcon:=hpl (K:=K) (w0:=w0) (H:=([AI b7 (.cells #[Z w.page,vS w.tag] 31),AI b1 (.cells #[Z 0,vS []] 31),AI b0 (.cells #[Z t.cx,Z t.cy,vI t.lev,rv.val,kv.val] 57)]++H)++[BB D]) (a:=ca1) (v4:=spc.val) (v5:=.slice none 0 0) hi hy hspc (PP (fun _=>rfl))
  refine AP (vs:=[_,_]) (Hin:=C ca1 q1) (Hr:=[AI b7 (.cells #[Z w.page,vS w.tag] 31),AI b1 (.cells #[Z 0,vS []] 31),AI b0 (.cells #[Z t.cx,Z t.cy,vI t.lev,rv.val,kv.val] 57)]++H) zR zR ⟨zR,zR,zT⟩ jE zR zR hcon ?_
  rintro _ _ ⟨rfl,ca2,rfl⟩
  refine⟨ED.mid (A:=[AI b7 (.cells #[Z w.page,vS w.tag] 31),AI b1 (.cells #[Z 0,vS []] 31),AI b0 (.cells #[Z t.cx,Z t.cy,vI t.lev,rv.val,kv.val] 57)]) ⟨⟨2,rfl⟩,⟨0,rfl⟩,trivial⟩,?_⟩
  refine SL.heap ?_ (fun _ hw=>DP (A:=C ca2 y.2) (B:=[AI b7 (.cells #[Z w.page,vS w.tag] 31),AI b1 (.cells #[Z 0,vS []] 31),AI b0 (.cells #[Z t.cx,Z t.cy,vI t.lev,rv.val,kv.val] 57)]) (R:=H) hw)
  refine BE (Am 0 zR zR zR zR C2 zR zR zR zT (AS (Ai (AF (AJ (E zR (O zR (Cy zO zO) ?_)))))))
  refine Ak (u:=vI (4*(j:Int)-4)) zR zR (congrArg vI zO) ?_
  refine AS ?_
  exact Ac (j,y.1,y.2,ca2) ⟨by omega,h⟩ (by dsimp only;omega) tL (fun _ h=>h)
  obtain rfl:j=0:=by
   have:=of_decide_eq_false hc2
   omega
  obtain rfl:(w,q1)=r:=Option.some.inj h
  refine Al (Aw (A9 (Au (AF (V (Aa (Ae w) zR CR zR zR (AZ 0 zR) (Am 1 zR zR zR zR C2 zR zR zR zT (U (AM ?_)))))))))
  exact AU (Dx zR (BG 1 (Ae w) CR zR zR zR zR)) (AV (M:=C ca1 q1) ⟨zR,ca1,zR⟩ fun _ hw=>BJ.pick (H:=[_,_,_]) hw [] 3 zR)
end

/- Plain functions of the references and the laws, printed from the loaded program, and the walks that show that the program computes them. Condition: the plain function yields. -/
section
variable {K:Nat→Prop}{w0:World}{H:List AT}
end

/- The answer's Load of pages. Condition: the plain function yields. -/
section
variable {K:Nat→Prop}{w0:World}{H:List AT}
abbrev aL(bv bd:Nat)(vr vt v0 v1 v2:Value)(v:B2)(d:BP):List AT:=
 [AI bv (.cells #[vP bd 0,vr,Z v.gen,Z v.boot,Ag v.num,vt] 69),AE 138 2 vr Ax v.ring,AE 4 1 vt eB v.taken,AI bd (.cells #[v0,v1,v2,Ag d.rcnt,vS d.rtag,Z d.rboots,vI d.left,vB d.off] 132),AE 9 1 v0 eS d.blk,AE 9 1 v1 eS d.pnd,AE 4 1 v2 eB d.bads]
end

/- Plain functions of the references and the laws, printed from the loaded program, and the walks that show that the program computes them. Condition: the plain function yields. -/
section
variable {K:Nat→Prop}{w0:World}{H:List AT}
end

/- The answer's keeper of pages, with a vault and what was had: sphragisref14.keeper.place. Condition: the plain function yields. -/
section
variable {K:Nat→Prop}{w0:World}{H:List AT}
structure R2 where
 out:List A5
 took:List UInt32
 err:Int
def NK(n:Nat)(T:List UInt32)(had:List A5)(s:List UInt8)(out:List A5)(tk:List UInt32)(e:Int)(v:B2)(d:BP):Option (Af×(R2×B2×BP)):=
 cond (!decide (e=0)) (some (⟨0,[]⟩,(⟨out,tk,e⟩,v,d)))
  (if 1048576<had.length then none else match had.find? (fun x=>decide (x.txt=s))with
   | some x=>(CT 40 out [⟨s,x.page,x.tag⟩]).bind fun l=>some (⟨x.page,x.tag⟩,(⟨l,tk,e⟩,v,d))
   | none=>(Ey n T v d s).bind fun w=>cond (!decide (w.2.1=0)) (some (⟨0,[]⟩,(⟨out,tk,w.2.1⟩,w.2.2)))
     ((CT 4 tk [w.1.page]).bind fun k=>(CT 40 out [⟨s,w.1.page,w.1.tag⟩]).bind fun l=>some (w.1,(⟨l,k,e⟩,w.2.2))))
def L0(n:Nat)(T:List UInt32)(had:List A5)(x:Bj)(q:R2×B2×BP):Option (Af×(R2×B2×BP)):=
 (Du n x).bind fun y=>NK n T had y.1 q.1.out q.1.took (bif !decide (y.2=0)&&decide (q.1.err=0)then y.2 else q.1.err) q.2.1 q.2.2
abbrev oY(bk bv bd:Nat)(vh vr vt v0 v1 v2:Value)(a:Value×Value)(q:R2×B2×BP):List AT:=
 AI bk (.cells #[vP bv 0,vh,a.1,a.2,vI q.1.err,.slice none 0 0] 115)::AE 72 3 a.1 An q.1.out::AE 29 1 a.2 BI q.1.took::aL bv bd vr vt v0 v1 v2 q.2.1 q.2.2
theorem gf{n:Nat}{T:List UInt32}{bk bv bd:Nat}{vh vr vt v0 v1 v2 v4 v5:Value}{a:Value×Value}{had:List A5}{x:Bj}{q:R2×B2×BP}{r:Af×(R2×B2×BP)}(h:L0 n T had x q=some r)(hT:LA K w0 2 64 T)(hm:Bn K w0 An 3 vh had)(hs4:Bn K w0 AK 4 v4 x.rows)(hs5:Bn K w0 Ae 2 v5 x.kids):
  BH Tryz.prog K w0 89 [vP bk 0,.agg #[vI x.kind,Z x.cx,Z x.cy,vI x.lev,v4,v5,Z x.npage,vS x.ntag]] (oY bk bv bd vh vr vt v0 v1 v2 a q) H
   (fun u M=>u=.agg (Ae r.1).toArray∧∃a',M=oY bk bv bd vh vr vt v0 v1 v2 a' r.2):=by
 obtain⟨⟨out,tk,er⟩,v,d⟩:=q
 obtain⟨vo,vk⟩:=a
 unfold L0 at h
 obtain⟨⟨s,e⟩,hy,h⟩:=bnd h
 dsimp only at h
 refine BH.enter Tryz.func89 rfl rfl ?_
 refine V ?_
 refine BU zR zR (fun _=>trivial) fun b0=>?_
 refine Ah zR DQ (fun _=>trivial) fun b1=>?_
 refine U (V (Aa [vI x.kind,Z x.cx,Z x.cy,vI x.lev,v4,v5,Z x.npage,vS x.ntag] zR K8 zR zR (AZ 1 zR) (AX 0 mW (Uw hy hs4 hs5) zR (E zR (Ap zR zR zR (Ap zR zR zR (J zR (J zR (U ?_)))))))))
 refine A1 (α:=Int) (fun e=>NK n T had s out tk e v d=some r) (fun _=>[(0,vP bk 0),(4,vP b1 0),(5,vS s)]) (fun e=>AI b1 (.cells #[Z 0,vS []] 31)::AI b0 (.cells #[vI x.kind,Z x.cx,Z x.cy,vI x.lev,v4,v5,Z x.npage,vS x.ntag] 148)::AI bk (.cells #[vP bv 0,vh,vo,vk,vI e,.slice none 0 0] 115)::AE 72 3 vo An out::AE 29 1 vk BI tk::(aL bv bd vr vt v0 v1 v2 v d++H)) ?_ (fun e D h=>?_)
 refine V (E zR (O zR Bh (E zR ?_)))
 refine CU (c:=decide (er=0)) 18 6 24 zR (fun hb k=>?_) (fun hb k=>?_) ?_
 refine E zR (AW zR zR (AB zR OR (AC 2 Sl zR (O zR Bq (Ad zR zR zR ?_)))))
 exact k.mono tL
 refine AA zR (AA zR (AA zR (AA zR (AA zR (Ad zR zR zR ?_)))))
 exact k.mono tL
 refine U ?_
 refine AG zR (fun hc1=>?_) (fun hc1=>?_)
 rw[hc1,cond_true]at h
 refine AJ (E zR (E zR (AW zR zR (AB zR OR (Am 2 zR zR zR zR jo zR zR zR zT (AS ?_))))))
 exact Av e h tL (fun _ h=>h)
 rw[hc1,cond_false]at h
 refine AH ?_
 exact Av er h tL (fun _ h=>h)
 unfold NK at h
 refine AD (V (E zR (AW zR zR (AB zR OR (AC 2 Sl zR (O zR Bh (U ?_)))))))
 refine AG zR (fun hc2=>?_) (fun hc2=>?_)
 replace h:=cT hc2 h
 obtain rfl:=Option.some.inj h
 refine V (BL [] zR K4 Kv DQ zT zR (Am 0 zR zR zR zR C2 zR zR zR zT (U (AM (Ab ?_)))))
 exact AU (Dx zR (BG 0 (Ae ⟨0,[]⟩) CR zR zR zR zR)) (AV (M:=_::_::_::_::_::_::_::_::_::_::[]) ⟨zR,(vo,vk),zR⟩ fun _ hw=>BJ.pick (H:=[_,_,_,_,_,_,_,_,_,_,_,_]) hw [2,3,4,5,6,7,8,9,10,11] 12 zR)
 replace h:=cF hc2 h
 have he:e=0:=by simpa using hc2
 split at h
 cases h
 rename_i hbig
 refine AH (AF (AD (V (E zR (AW zR zR (AB zR dA (AC 2 nu zR (Eu zR rA zR zR (U (DE zR (AH (AF (AD (V (J zR (U (AL ?_)))))))))))))))))
 refine SX.mono (Ay (α:=Nat) (fun i=>i≤had.length∧(had.drop i).find? (fun x=>decide (x.txt=s))=had.find? (fun x=>decide (x.txt=s))) (fun i=>[(0,vP bk 0),(4,vP b1 0),(5,vS s),(8,vI i)])
  (fun _=>AI b1 (.cells #[Z 0,vS []] 31)::AI b0 (.cells #[vI x.kind,Z x.cx,Z x.cy,vI x.lev,v4,v5,Z x.npage,vS x.ntag] 148)::AI bk (.cells #[vP bv 0,vh,vo,vk,vI e,.slice none 0 0] 115)::AE 72 3 vo An out::AE 29 1 vk BI tk::(aL bv bd vr vt v0 v1 v2 v d++H))
  (fun i=>had.length-i) (fun i D hp=>?_) 0 ⟨Nat.zero_le _,by rw[List.drop_zero]⟩) tL
 obtain⟨hi,hp⟩:=hp
 refine AD (V (E zR (E zR (AW zR zR (AB zR Sx (AC 2 MB zR (Bb hm zR HG zR (O zR Ao (U ?_)))))))))
 refine AG zR (fun hc4=>?_) (fun hc4=>?_)
 have hlt:i<had.length:=by have:=of_decide_eq_true hc4;omega
 clear hc4
 have hx1:Aq had (i:Int)=some had[i]:=by
  rw[Aq,if_pos zO]
  exact List.getElem?_eq_getElem hlt
 rw[List.drop_eq_getElem_cons hlt,List.find?_cons]at hp
 generalize had[i]=m at hx1 hp
 refine AH (AF (AD (AL (V (E zR (AW zR zR (AB zR Sx (AC 2 MB zR (E zR ?_)))))))))
 refine CP hx1 hm zR HG LQ zR zR fun be1 of1 hcc1=>?_
 refine AB zR ZB ?_
 refine BR zR EZ zR (Ck (j:=0) hcc1 zR) ?_
 refine E zR (O zR Vz (U ?_))
 refine AG zR (fun hc5=>?_) (fun hc5=>?_)
 rw[hc5]at hp
 rw[←hp]at h
 obtain⟨l,hl,h⟩:=bnd h
 obtain rfl:=Option.some.inj h
 refine AD (Aj CJ [2] (BY [(true,0),(true,1),(true,2),(true,3),(true,4),(true,5),(true,6),(true,7),(true,8),(true,9),(true,10),(true,11),(true,12),(true,13),(true,14),(false,15),(false,16),(true,17),(true,18)] (.last 19 .nil)) zK (E zR (E zR (AW zR zR (AB zR QE (AC 0 MB zR (E zR (E zR ?_))))))))
 refine AW zR zR (AB zR Sx (AC 0 MB zR (E zR ?_)))
 refine CP hx1 hm zR HG LQ zR zR fun be2 of2 hcc2=>?_
 refine AB zR Sr ?_
 refine Aa [Z m.page,vS m.tag] zR CR zR zR (fun w hw j u hu=>by
 rw[By,Nat.add_assoc]
 refine hcc2 _ w hw (1+j) u ?_
 rw[Nat.add_comm 1 j]
 exact hu) ?_
 refine BL [_,_] zR fZ fU Ol ⟨zR,zR,zT⟩ zR ?_
 refine Bd [_] rfl HG LQ Ol ⟨rfl,trivial⟩ rfl rfl rfl (by first | (simp[Value.cells];done) | (intro v hv;simp only[List.mem_cons,List.not_mem_nil,or_false]at hv;rcases hv with rfl<;>rfl)) rfl rfl (fun _=>⟨⟨3,rfl⟩,trivial⟩) fun b6=>?_
 refine Bi An 3 ([(⟨s,m.page,m.tag⟩:A5)]:List A5) zR (fun _=>rfl) zR ?_
 refine B7 4 hl (sz:=3) (enc:=An) (fun _=>rfl) zR HG LQ fD Ol zR zD zR zR zR zR (Ba (sz:=3) (enc:=An) 0 (fun _=>rfl) zR) (by simp[An,Value.oneCell']) (fun _=>⟨⟨3,zR⟩,zT⟩) fun v3=>?_
 refine AW zR zR (AB zR QE (BE ?_))
 refine B6 4 zR fun hv3 ho3=>?_
 refine DW 3 zR zR zR zR f7 hv3 ho3 zR zT (U (V (E zR (AW zR zR (AB zR Sx (AC 3 MB zR (E zR ?_)))))))
 refine CP hx1 hm zR HG LQ zR zR fun be3 of3 hcc3=>?_
 refine AB zR Sr ?_
 refine Aa [Z m.page,vS m.tag] zR CR zR zR (fun w hw j u hu=>by
 rw[By,Nat.add_assoc]
 refine hcc3 _ w hw (1+j) u ?_
 rw[Nat.add_comm 1 j]
 exact hu) ?_
 refine Am 1 zR zR zR zR C2 zR zR zR zT (U (AM (BM (Ab (DD (BM (Ab ?_)))))))
 exact AU (Dx zR (BG 1 (Ae ⟨m.page,m.tag⟩) CR zR zR zR zR)) (AV (M:=_::_::_::_::_::_::_::_::_::_::[]) ⟨zR,(v3,vk),zR⟩ fun _ hw=>BJ.pick (H:=[_,_,_,_,_,_,_,_,_,_,_,_,_]) hw [3,4,5,6,7,8,9,10,11,12] 13 zR)
 rw[hc5]at hp
 refine AH (Ai (AF (AJ (E zR (O zR (BA zO zO) (J zR (AS ?_)))))))
 exact Ac (i+1) ⟨hlt,hp⟩ zO tL (fun _ h=>h)
 have hge:i=had.length:=by have:=of_decide_eq_false hc4;omega
 subst hge
 rw[List.drop_length]at hp
 rw[←hp]at h
 obtain⟨w,hw1,h⟩:=bnd h
 refine Al (Aw (A9 (Au (AF (V (E zR (AW zR zR (AB zR dA (AC 2 nu zR (E zR (SL.pick [5,6,7,8,9,10,11,0,1,2,3,4] 12 (AX 7 qX (QK hw1 hT) zR (E zR ?_)))))))))))))
 refine Ap zR zR zR (Ap zR zR zR ?_)
 refine Ah zR DQ (fun _=>trivial) fun b9=>?_
 refine Am 0 zR zR zR zR C2 zR zR zR zT (J zR (U (AD (V (E zR (O zR Bh (U ?_)))))))
 refine AG zR (fun hc6=>?_) (fun hc6=>?_)
 replace h:=cT hc6 h
 obtain rfl:=Option.some.inj h
 refine V (E zR (E zR (AW zR zR (AB zR OR (Am 10 zR zR zR zR jo zR zR zR zT (U (V (BL [] zR K4 Kv DQ zT zR (Am 8 zR zR zR zR C2 zR zR zR zT (U (AM (Ab ?_))))))))))))
 exact AU (Dx zR (BG 8 (Ae ⟨0,[]⟩) CR zR zR zR zR)) (AV (M:=_::_::_::_::_::_::_::_::_::_::[]) ⟨zR,(vo,vk),zR⟩ fun _ hw=>BJ.pick (H:=[_,_,_,_,_,_,_,_,_,_,_,_,_]) hw [10,11,12,1,2,3,4,5,6,7] 13 zR)
 replace h:=cF hc6 h
 obtain⟨kk,hkk,h⟩:=bnd h
 obtain⟨l,hl,h⟩:=bnd h
 obtain rfl:=Option.some.inj h
 refine AH (AF (AD (Aj CJ [10,0] (BY [(true,0),(true,1),(true,2),(true,3),(true,4),(true,5),(true,6),(false,7),(false,8),(true,9),(true,10)] (.last 11 .nil)) zK (E zR (E zR (AW zR zR (AB zR TG (AC 0 WG zR (AB zR MY (AC 1 Az zR ?_))))))))))
 refine Bd [_] rfl Bz BQ Jq ⟨rfl,trivial⟩ rfl rfl rfl (by first | (simp[Value.cells];done) | (intro v hv;simp only[List.mem_cons,List.not_mem_nil,or_false]at hv;rcases hv with rfl<;>rfl)) rfl rfl (fun _=>⟨⟨11,rfl⟩,⟨1,rfl⟩,trivial⟩) fun b6=>?_
 refine Bi BI 1 ([w.1.page]:List UInt32) zR (fun _=>rfl) zR ?_
 refine B7 13 hkk (sz:=1) (enc:=BI) (fun _=>rfl) zR Bz BQ QN Jq zR zD zR zR zR zR (Ba (sz:=1) (enc:=BI) 0 (fun _=>rfl) zR) (by simp[BI,Value.oneCell']) (fun _=>⟨⟨11,zR⟩,⟨1,zR⟩,zT⟩) fun v3=>?_
 refine AW zR zR (AB zR TG (BE ?_))
 refine B6 13 zR fun hv3 ho3=>?_
 refine DW 11 zR zR zR zR ik hv3 ho3 zR zT (C4 11 (AI bk (.cells #[vP bv 0,vh,vo,v3,vI e,.slice none 0 0] 115)) (U (AD (Aj CJ [11,1] (BY [(true,0),(true,1),(true,2),(true,3),(true,4),(true,5),(true,6),(true,7),(false,8),(false,9),(true,10),(true,11)] (.last 12 .nil)) zK (E zR (E zR (AW zR zR (AB zR QE (AC 0 MB zR ?_)))))))))
 refine E zR (Aa (Ae w.1) zR CR zR zR (AZ 1 zR) (BL [_,_] zR fZ fU Ol ⟨zR,zR,zT⟩ zR ?_))
 refine Bd [_] rfl HG LQ Ol ⟨rfl,trivial⟩ rfl rfl rfl (by first | (simp[Value.cells];done) | (intro v hv;simp only[List.mem_cons,List.not_mem_nil,or_false]at hv;rcases hv with rfl<;>rfl)) rfl rfl (fun _=>⟨⟨12,rfl⟩,⟨2,rfl⟩,trivial⟩) fun b8=>?_
 refine Bi An 3 ([(⟨s,w.1.page,w.1.tag⟩:A5)]:List A5) zR (fun _=>rfl) zR ?_
 refine B7 13 hl (sz:=3) (enc:=An) (fun _=>rfl) zR HG LQ fD Ol zR zD zR zR zR zR (Ba (sz:=3) (enc:=An) 0 (fun _=>rfl) zR) (by simp[An,Value.oneCell']) (fun _=>⟨⟨12,zR⟩,⟨2,zR⟩,zT⟩) fun v6=>?_
 refine AW zR zR (AB zR QE (BE ?_))
 refine B6 13 zR fun hv6 ho6=>?_
 refine DW 12 zR zR zR zR f7 hv6 ho6 zR zT (U (V (Aa (Ae w.1) zR CR zR zR (AZ 2 zR) (Am 10 zR zR zR zR C2 zR zR zR zT (U (AM ?_))))))
 exact AU (Dx zR (BG 10 (Ae w.1) CR zR zR zR zR)) (AV (M:=_::_::_::_::_::_::_::_::_::_::[]) ⟨zR,(v6,v3),zR⟩ fun _ hw=>BJ.pick (H:=[_,_,_,_,_,_,_,_,_,_,_,_,_,_,_]) hw [12,13,14,3,4,5,6,7,8,9] 15 zR)
end

/- The answer's Save of rows. Condition: the plain function yields. -/
section
variable {K:Nat→Prop}{w0:World}{H:List AT}
def Oh(d:BP):B2→List UInt32→Option B2
 | v,[]=>some v
 | v,p::ps=>(FK v d p).bind fun y=>Oh d y.2 ps
def Qq(n:Nat)(T:List UInt32)(v:B2)(d:BP)(l:List AN)(had:List A5):Option (List A5×Int×B2×BP):=
 (NH n l).bind fun b=>cond (!decide (b.2=0)) (some ([],b.2,v,d))
  ((QI (L0 n T had) n b.1 (⟨[],[],0⟩,v,d)).bind fun y=>
   cond (!decide (y.2.1.err=0)) (if 1048576<y.2.1.took.length then none else(Oh y.2.2.2 y.2.2.1 y.2.1.took).bind fun w=>some ([],y.2.1.err,w,y.2.2.2)) (some (y.2.1.out,0,y.2.2.1,y.2.2.2)))
theorem YL{n:Nat}{T:List UInt32}{bv bd:Nat}{vl vh vr vt v0 v1 v2:Value}{v:B2}{d:BP}{l:List AN}{had:List A5}{r:List A5×Int×B2×BP}(h:Qq n T v d l had=some r)(hT:LA K w0 2 64 T)(hl:Bn K w0 AK 4 vl l)(hm:Bn K w0 An 3 vh had):
  BH Tryz.prog K w0 29 [vP bv 0,vl,vh] (aL bv bd vr vt v0 v1 v2 v d) H (fun u M=>∃u0:Value,u=.tuple #[u0,vI r.2.1]∧M=AE 72 3 u0 An r.1::aL bv bd vr vt v0 v1 v2 r.2.2.1 r.2.2.2):=by
 unfold Qq at h
 obtain⟨b,hb,h⟩:=bnd h
 obtain⟨sh,rfl⟩:=hm.slv
 refine BH.enter Tryz.func29 rfl rfl ?_
 refine V (J zR (J zR (U (V (E zR ?_)))))
 refine AP (vs:=[_]) (Hin:=[]) (Hr:=_::_::_::_::_::_::_::_) zR zR ⟨zR,zT⟩ qE zR zR (eQ hb hl) ?_
 rintro _ _ ⟨nv,L,rfl,hnz,rfl⟩
 refine⟨trivial,?_⟩
 refine E zR (Ap zR zR zR (Ap zR zR zR ?_))
 refine Ah zR HV (fun _=>trivial) fun b8=>?_
 refine Am 0 zR zR zR zR G4 zR (List.all_eq_true.2 (Gc nv)) zR zT (J zR (U (AD (V (E zR (O zR Bh (U ?_)))))))
 refine AG zR (fun hc1=>?_) (fun hc1=>?_)
 replace h:=cT hc1 h
 obtain rfl:=Option.some.inj h
 refine V (E zR (J zR (J zR (U (AM (Ab (Iu 72 3 An ?_)))))))
 exact AU (E8 zR zR zR) (AV (M:=_::aL bv bd vr vt v0 v1 v2 v d) ⟨_,zR,zR⟩ fun _ hw=>BJ.pick (H:=[_,_,_,_,_,_,_,_,_,_]) hw [0,3,4,5,6,7,8,9] 10 zR)
 replace h:=cF hc1 h
 obtain⟨y,hy,h⟩:=bnd h
 refine AH (AF (V (E zR (E zR (BL [_,_] zR oT oL pK ⟨zR,zR,zT⟩ zR ?_)))))
 refine BU zR zR (fun _=>trivial) fun b10=>?_
 refine J zR (U (OY 29 1 BI (OY 72 3 An (V (E zR (Aa (Bk nv) zR Kp zR zR (AZ 3 zR) (SL.pick [4,2,0,1,5,6,7,8,9,10,11,3] 12 ?_)))))))
 refine AP (vs:=[_,_]) (Hin:=[_,_,_,_,_,_,_,_,_,_,_]) (Hr:=_::_) zR zR ⟨zR,zR,zT⟩ ku zR zR (CC (B:=[_]) (Hin:=[_,_,_,_,_,_,_,_,_,_]) fun K' w1 hk hB=>ah (bk:=b10) (I:=fun K w=>LA K w 2 64 T∧Bn K w An 3 sh.val had) (C:=oY b10 bv bd sh.val vr vt v0 v1 v2) (fun h hk=>⟨h.1.keeps hk,h.2.keeps hk⟩) (fun hi h h4 h5=>gf h hi.1 hi.2 h4 h5) n (ca:=(.slice none 0 0,.slice none 0 0)) ⟨hT.keeps hk,hm.keeps hk⟩ hy (hnz.lent (hB _ zS))) ?_
 rintro _ _ ⟨_,rfl,rfl,⟨vo,vk⟩,rfl⟩
 refine⟨trivial,?_⟩
 refine U (AD (V (E zR (AW zR zR (AB zR OR (AC 1 Sl zR (O zR Bh (U ?_))))))))
 refine AG zR (fun hc2=>?_) (fun hc2=>?_)
 replace h:=cT hc2 h
 split at h
 cases h
 rename_i hbig
 obtain⟨w,hw,h⟩:=bnd h
 obtain rfl:=Option.some.inj h
 refine AD (V (J zR (U (AL ?_))))
 refine SX.mono (Ay (α:=Nat×B2) (fun x=>x.1≤y.2.1.took.length∧Oh y.2.2.2 x.2 (y.2.1.took.drop x.1)=some w) (fun x=>[(0,vP bv 0),(10,vP b10 0),(11,vI (x.1:Int))])
  (fun x=>ES L::AI b10 (.cells #[vP bv 0,sh.val,vo,vk,vI y.2.1.err,.slice none 0 0] 115)::AE 72 3 vo An y.2.1.out::AE 29 1 vk BI y.2.1.took::(aL bv bd vr vt v0 v1 v2 x.2 y.2.2.2++(AI b8 (.cells (Bk nv).toArray 57)::H)))
  (fun x=>y.2.1.took.length-x.1) (fun x D hp=>?_) (0,y.2.2.1) ⟨Nat.zero_le _,hw⟩) tL
 obtain⟨i,u⟩:=x
 obtain⟨hi,hp⟩:=hp
 dsimp only at hi hp ⊢
 refine AD (V (E zR (E zR (AW zR zR (AB zR TG (AC 1 WG zR (DC 3 zR Bz zR zR (O zR Ao (U ?_)))))))))
 refine AG zR (fun hc3=>?_) (fun hc3=>?_)
 have hlt:i<y.2.1.took.length:=by have:=of_decide_eq_true hc3;omega
 clear hc3
 have hx1:Aq y.2.1.took (i:Int)=some y.2.1.took[i]:=by
  rw[Aq,if_pos zO]
  exact List.getElem?_eq_getElem hlt
 rw[List.drop_eq_getElem_cons hlt,Oh]at hp
 obtain⟨g,hg,hp⟩:=bnd hp
 refine AH (AF (AD (AL (AJ (E zR (E zR (AW zR zR (AB zR TG (AC 1 WG zR (E zR ?_))))))))))
 refine BF 3 hx1 zR Bz BQ zR zR zR fun g1 m2 cp1 hv1=>?_
 refine BR zR Az zR (BW (sz:=1) (enc:=BI) 3 0 (fun _=>rfl) zR hv1 hx1 zR) ?_
 refine SL.pick [4,5,6,7,8,9,10,0,1,2,3,11] 12 (AX 7 pb (RE hg) zR (AS (Ai (AF (AJ (E zR (O zR (BA zO zO) (J zR (AS ?_)))))))))
 exact Ac (i+1,g.2) ⟨hlt,hp⟩ (by dsimp only;omega) tL (fun _ hw=>BJ.pick (H:=[_,_,_,_,_,_,_,_,_,_,_,_]) hw [7,8,9,10,0,1,2,3,4,5,6,11] 12 zR)
 have hge:i=y.2.1.took.length:=by have:=of_decide_eq_false hc3;omega
 subst hge
 rw[List.drop_length]at hp
 obtain rfl:=Option.some.inj (show some u=some w from hp)
 refine Al (Aw (A9 (Au (AF (AD (Aj CJ [1] (Pl.of [(true,0),(true,1),(true,2),(true,3),(true,4),(true,5)]) zK (E zR (AW zR zR (AB zR OR (AC 0 Sl zR (J zR (J zR (U (AM (Ab (Iu 72 3 An ?_))))))))))))))))
 exact AU (E8 zR zR zR) (AV (M:=_::aL bv bd vr vt v0 v1 v2 u y.2.2.2) ⟨_,zR,zR⟩ fun _ hw=>BJ.pick (H:=[_,_,_,_,_,_,_,_,_,_,_,_,_]) hw [0,5,6,7,8,9,10,11] 13 zR)
 replace h:=cF hc2 h
 obtain rfl:=Option.some.inj h
 refine AH (AF (V (E zR (AW zR zR (AB zR QE (AC 1 MB zR (J zR (J zR (U (AM ?_))))))))))
 exact AU (E8 zR zR zR) (AV (M:=AE 72 3 vo An y.2.1.out::aL bv bd vr vt v0 v1 v2 y.2.2.1 y.2.2.2) ⟨_,zR,zR⟩ fun _ hw=>BJ.pick (H:=[_,_,_,_,_,_,_,_,_,_,_,_]) hw [2,4,5,6,7,8,9,10] 12 zR)
end

/- Plain functions of the references and the laws, printed from the loaded program, and the walks that show that the program computes them. Condition: the plain function yields. -/
section
variable {K:Nat→Prop}{w0:World}{H:List AT}
def NC(l1:List (List UInt8)):Option (List (List UInt8)):=
 some l1
def HJ(p0:A8)(nx_f_dd_Image_l1:List (List UInt8)×Int→Option (List (List UInt8)))(l2:List (List UInt8))(a1:Int):Option (List (List UInt8)):=
 cond (decide (a1<(p0.blocks.length:Int)))
 (
  (Ke p0 (Ds a1)).bind fun y1=>
  (CT 16 l2 [y1]).bind fun l3=>
  nx_f_dd_Image_l1 (l3,wI (a1+1)))
 (
  NC l2)
def K2(p0:A8):Nat→(List (List UInt8)×Int)→Option (List (List UInt8)):=Be fun nx x=>HJ p0 nx x.1 x.2
def MH(n:Nat)(p0:A8):Option (List (List UInt8)):=
 K2 p0 n ([],0)
theorem aS{n:Nat}{b0_:Nat}{v0x4_:Value}{m0x5_:Nat}{m0x6_:Nat}{p0:A8}{r:List (List UInt8)}(h:MH n p0=some r): BH Tryz.prog K w0 31 [vP b0_ 0] [AI b0_ (.cells #[vB p0.off,vB p0.isCut,vI p0.lasts,vI p0.counts,v0x4_,.map (some m0x5_),.map (some m0x6_),Ag p0.rcnt,vS p0.rtag,Z p0.rboots] 130),AE 9 1 v0x4_ eS p0.blocks,A0 m0x5_ Z vS p0.pend,A0 m0x6_ Z vB p0.bad] H (fun u M=>∃v0:Value,u=v0∧M=[AE 9 1 v0 eS r,AI b0_ (.cells #[vB p0.off,vB p0.isCut,vI p0.lasts,vI p0.counts,v0x4_,.map (some m0x5_),.map (some m0x6_),Ag p0.rcnt,vS p0.rtag,Z p0.rboots] 130),AE 9 1 v0x4_ eS p0.blocks,A0 m0x5_ Z vS p0.pend,A0 m0x6_ Z vB p0.bad]):=by
 unfold MH at h
 refine BH.enter Tryz.func31 rfl rfl ?_
 refine V (Bx 9 1 eS (J zR (U (AD (V (E zR (Eu zR bz zR zR (U (DE zR (AH (AF (V (Bx 9 1 eS (J zR (U ?_)))))))))))))))
 refine A1 (α:=List (List UInt8)×Value) (fun x=>NC x.1=some r) (fun x=>[(0,vP b0_ 0),(3,x.2)]) (fun x=>AI b0_ (.cells #[vB p0.off,vB p0.isCut,vI p0.lasts,vI p0.counts,v0x4_,.map (some m0x5_),.map (some m0x6_),Ag p0.rcnt,vS p0.rtag,Z p0.rboots] 130)::AE 9 1 v0x4_ eS p0.blocks::A0 m0x5_ Z vS p0.pend::A0 m0x6_ Z vB p0.bad::AE 9 1 x.2 eS x.1::H) ?_ (fun x D h=>?_)
 refine V (E zR (AW zR zR (AB zR P8 (AC 2 Ns zR (DC 3 zR DU zR zR (E zR (U (AL ?_))))))))
 refine SX.heap (SX.mono (Ay (α:=Nat×List (List UInt8)×Value×Int) (fun x=>K2 p0 x.1 (x.2.1,x.2.2.2)=some r) (fun x=>[(0,vP b0_ 0),(3,x.2.2.1),(11,vI (p0.blocks.length:Int)),(12,vI x.2.2.2)]) (fun x=>AI b0_ (.cells #[vB p0.off,vB p0.isCut,vI p0.lasts,vI p0.counts,v0x4_,.map (some m0x5_),.map (some m0x6_),Ag p0.rcnt,vS p0.rtag,Z p0.rboots] 130)::AE 9 1 v0x4_ eS p0.blocks::A0 m0x5_ Z vS p0.pend::A0 m0x6_ Z vB p0.bad::AE 9 1 x.2.2.1 eS x.2.1::H) (fun x=>x.1) (fun x D h=>?_) (n,[],.slice none 0 0,0) h) tL) (fun _ hw=>BJ.pick (H:=[_,_,_,_,_,_]) hw [2,3,4,5,0] 6 zR)
 obtain⟨m1,l2,v2,a1⟩:=x
 dsimp only at h
 rcases m1 with _ | m1
 cases (show(none:Option _)=some r from h)
 replace h:HJ p0 (K2 p0 m1) l2 a1=some r:=h
 unfold HJ at h
 refine A4 [(0,vP b0_ 0),(3,v2),(11,vI (p0.blocks.length:Int)),(12,vI a1)] (AI b0_ (.cells #[vB p0.off,vB p0.isCut,vI p0.lasts,vI p0.counts,v0x4_,.map (some m0x5_),.map (some m0x6_),Ag p0.rcnt,vS p0.rtag,Z p0.rboots] 130)::AE 9 1 v0x4_ eS p0.blocks::A0 m0x5_ Z vS p0.pend::A0 m0x6_ Z vB p0.bad::AE 9 1 v2 eS l2::H) ?_ tL
 refine V (O zR Ao (U (AD ?_)))
 refine AG zR (fun hc2=>?_) (fun hc2=>?_)
 replace h:=cT hc2 h
 refine AH (AF (AD (AL (V (E zR (J zR (U (AJ ?_))))))))
 obtain⟨y1,hy1,h⟩:=bnd h
 obtain⟨l3,hl3,h⟩:=bnd h
 refine E zR (E zR (E zR (As zR zR (L5 Ef Bg) (AX 4 i0 (UJ hy1) zR ?_))))
 refine Bd [_] rfl DU Gn OM ⟨rfl,trivial⟩ rfl rfl rfl (by first | (simp[Value.cells];done) | (intro v hv;simp only[List.mem_cons,List.not_mem_nil,or_false]at hv;rcases hv with rfl<;>rfl)) rfl rfl (fun _=>trivial) fun b1=>?_
 refine Bi eS 1 ([y1]:List (List UInt8)) zR (fun _=>rfl) zR ?_
 refine B7 5 hl3 (sz:=1) (enc:=eS) (fun _=>rfl) zR DU Gn ie OM zR zD zR zR zR zR (Ba (sz:=1) (enc:=eS) 0 (fun _=>rfl) zR) (by simp[eS,Value.oneCell']) (fun _=>trivial) fun v3=>?_
 refine J zR (AS (Ai (AF (AJ (O zR A3 (E zR (AS ?_)))))))
 exact Ac (m1,l3,v3,wI (a1+1)) h (Nat.lt_succ_self _) tL (fun _ hw=>BJ.pick (H:=[_,_,_,_,_,_]) hw [1,2,3,4,5] 6 zR)
 replace h:=cF hc2 h
 refine Al (Aw (A9 (Au ?_)))
 exact Av (l2,v2) h tL (fun _ hw=>BJ.pick (H:=[_,_,_,_,_]) hw [0,1,2,3,4] 5 zR)
 obtain⟨l1,v1⟩:=x
 dsimp only at h
 unfold NC at h
 refine A4 [(0,vP b0_ 0),(3,v1)] (AI b0_ (.cells #[vB p0.off,vB p0.isCut,vI p0.lasts,vI p0.counts,v0x4_,.map (some m0x5_),.map (some m0x6_),Ag p0.rcnt,vS p0.rtag,Z p0.rboots] 130)::AE 9 1 v0x4_ eS p0.blocks::A0 m0x5_ Z vS p0.pend::A0 m0x6_ Z vB p0.bad::AE 9 1 v1 eS l1::H) ?_ tL
 refine V (E zR (J zR (U (AM ?_))))
 obtain rfl:=Option.some.inj h
 exact AU (Co zR zR) (AV (M:=[_,_,_,_,_]) ⟨v1,zR,zR⟩ fun _ hw=>BJ.pick (H:=[_,_,_,_,_]) hw [4,0,1,2,3] 5 zR)
def ZA(n:Nat)(T:List UInt32)(p0:Int)(p1:List AN)(p2:List AN):Option Bool:=
 (JC n T).bind fun y1=>
 cond ((decide (p0<4))||(decide (30<p0)))
 (
  some y1)
 (
  (Fb n p0).bind fun y2=>
  (y2.1).bind fun d1=>
  (Gf p1).bind fun y3=>
  (Hx n T d1.1 d1.2.1 y3 []).bind fun y4=>
  (Gf p1).bind fun y5=>
  (Qq n T d1.2.2.1 d1.2.2.2 y5 []).bind fun y6=>
  (Gf p2).bind fun y7=>
  (Hx n T y4.2.2.1 y4.2.2.2 y7 y4.1).bind fun y8=>
  (Gf p2).bind fun y9=>
  (Qq n T y6.2.2.1 y6.2.2.2 y9 y6.1).bind fun y10=>
  (Ed (y1&&y2.2) ((Gz n y4.1 y6.1).bind fun y11=>some (y11))).bind fun y12=>
  (Ed (y12&&(decide (y4.2.1=y6.2.1))) ((Gz n y8.1 y10.1).bind fun y13=>some (y13))).bind fun y14=>
  (Ed (y14&&(decide (y8.2.1=y10.2.1))) ((MH n y8.2.2.2).bind fun y15=>(Eb n y10.2.2.2).bind fun y16=>(J5 n y15 y16).bind fun y17=>some (y17))).bind fun y18=>
  (Ed y18 ((KZ y8.2.2.1 y8.2.2.2).bind fun y19=>(EQ n y10.2.2.1 y10.2.2.2).bind fun y20=>some (decide (y19=y20)))).bind fun y21=>
  some y21)
theorem qL{n:Nat}{T:List UInt32}{p0:Int}{v1_:Value}{p1:List AN}{v2_:Value}{p2:List AN}{r:Bool}(h:ZA n T p0 p1 p2=some r)(hS:GJ K w0 T)(hT:LA K w0 2 64 T)(hs1_:Bn K w0 AK 4 v1_ p1)(hs2_:Bn K w0 AK 4 v2_ p2):BH Tryz.prog K w0 9 [vI p0,v1_,v2_] [] H (fun u M=>u=vB r∧M=[]):=by
 unfold ZA at h
 refine BH.enter Tryz.func9 rfl rfl ?_
 refine V (J zR (U (V ?_)))
 obtain⟨y1,hy1,h⟩:=bnd h
 refine AX 0 qY (WC hy1 hS) zR (J zR (U (AD (V (E zR (O zR Ao (E zR ?_)))))))
 refine C1 (c:=decide (30<p0)) 23 3 26 zR (fun hb k=>?_) (fun hb k=>?_) ?_
 refine AA zR (AA zR (Ad zR zR zR ?_))
 exact k.mono tL
 refine E zR (O zR CD (Ad zR zR zR ?_))
 exact k.mono tL
 refine U ?_
 refine AG zR (fun hc1=>?_) (fun hc1=>?_)
 replace h:=cT hc1 h
 refine V (E zR (J zR (U (AM (Ab ?_)))))
 obtain rfl:=Option.some.inj h
 exact AY [] 0 zR zR zR
 replace h:=cF hc1 h
 refine AH (AF (V ?_))
 obtain⟨y2,hy2,h⟩:=bnd h
 obtain⟨d1,hd1,h⟩:=bnd h
 refine E zR ?_
 refine AP (vs:=[_]) (Hin:=[]) (Hr:=_) zR zR ⟨zR,zT⟩ jU zR zR (Rf hy2) ?_
 rintro _ _ (⟨hn,-,-⟩ | ⟨d_,b1,v1,m1,b2,v2,m2,m3,b3,v3,v4,b4,v5,v6,v7,hn,rfl,rfl⟩)
 rw[hd1]at hn;cases hn
 obtain rfl:d1=d_:=Option.some.inj (hd1.symm.trans hn)
 refine⟨trivial,?_⟩
 refine E zR (Ap zR zR zR (Ap zR zR zR (Ap zR zR zR (Ap zR zR zR (J zR (J zR (J zR ?_)))))))
 refine J zR (U (V ?_))
 obtain⟨y3,hy3,h⟩:=bnd h
 obtain⟨y4,hy4,h⟩:=bnd h
 refine E zR (E zR ?_)
 refine AP (vs:=[_]) (Hin:=[]) (Hr:=_::_::_::_::_::_::_::_::_::_::_::_::_::_::_) zR zR ⟨zR,zT⟩ aE zR zR (Ml hy3 hs1_) ?_
 rintro v8 _ ⟨_,rfl,hs1,rfl⟩
 refine⟨trivial,?_⟩
 refine AP (vs:=[_,_,_]) (Hin:=[_,_,_,_,_,_,_]) (Hr:=_::_::_::_::_::_::_::_) zR zR ⟨zR,zR,zR,zT⟩ eG zR zR (Yy hy4 hS hs1 (Bn.nil (fun _=>rfl))) ?_
 rintro _ _ ⟨v9,rfl,rfl⟩
 refine⟨trivial,?_⟩
 refine E zR (Ap zR zR zR (Ap zR zR zR (J zR (J zR (U (V ?_))))))
 obtain⟨y5,hy5,h⟩:=bnd h
 obtain⟨y6,hy6,h⟩:=bnd h
 refine E zR (E zR ?_)
 refine AP (vs:=[_]) (Hin:=[]) (Hr:=_::_::_::_::_::_::_::_::_::_::_::_::_::_::_::_) zR zR ⟨zR,zT⟩ aE zR zR (Ml hy5 hs1_) ?_
 rintro v10 _ ⟨_,rfl,hs2,rfl⟩
 refine⟨trivial,?_⟩
 refine SL.pick [8,9,10,11,12,13,14,0,1,2,3,4,5,6,7] 15 ?_
 refine AP (vs:=[_,_,_]) (Hin:=[_,_,_,_,_,_,_]) (Hr:=_::_::_::_::_::_::_::_::_) zR zR ⟨zR,zR,zR,zT⟩ kx zR zR (YL hy6 hT hs2 (Bn.nil (fun _=>rfl))) ?_
 rintro _ _ ⟨v11,rfl,rfl⟩
 refine⟨trivial,?_⟩
 refine E zR (Ap zR zR zR (Ap zR zR zR (J zR (J zR (U (V ?_))))))
 obtain⟨y7,hy7,h⟩:=bnd h
 obtain⟨y8,hy8,h⟩:=bnd h
 refine E zR (E zR ?_)
 refine AP (vs:=[_]) (Hin:=[]) (Hr:=_::_::_::_::_::_::_::_::_::_::_::_::_::_::_::_::_) zR zR ⟨zR,zT⟩ aE zR zR (Ml hy7 hs2_) ?_
 rintro v12 _ ⟨_,rfl,hs3,rfl⟩
 refine⟨trivial,?_⟩
 refine E zR (SL.pick [8,9,10,11,12,13,14,15,0,1,2,3,4,5,6,7] 16 ?_)
 refine AP (vs:=[_,_,_]) (Hin:=[_,_,_,_,_,_,_,_]) (Hr:=_::_::_::_::_::_::_::_::_) zR zR ⟨zR,zR,zR,zT⟩ eG zR zR (CC (B:=[_]) (Hin:=[_,_,_,_,_,_,_]) fun K' w1 hk hB=>Yy hy8 (hS.keeps hk) (hs3.keeps hk) (Br (e:=72) (v:=v9) (fun _=>rfl) (hB _ zS))) ?_
 rintro _ _ ⟨_,rfl,v13,rfl,rfl⟩
 refine⟨trivial,?_⟩
 refine E zR (Ap zR zR zR (Ap zR zR zR (J zR (J zR (U (V ?_))))))
 obtain⟨y9,hy9,h⟩:=bnd h
 obtain⟨y10,hy10,h⟩:=bnd h
 refine E zR (E zR ?_)
 refine AP (vs:=[_]) (Hin:=[]) (Hr:=_::_::_::_::_::_::_::_::_::_::_::_::_::_::_::_::_::_) zR zR ⟨zR,zT⟩ aE zR zR (Ml hy9 hs2_) ?_
 rintro v14 _ ⟨_,rfl,hs4,rfl⟩
 refine⟨trivial,?_⟩
 refine E zR (SL.pick [9,10,11,12,13,14,15,16,0,1,2,3,4,5,6,7,8] 17 ?_)
 refine AP (vs:=[_,_,_]) (Hin:=[_,_,_,_,_,_,_,_]) (Hr:=_::_::_::_::_::_::_::_::_::_) zR zR ⟨zR,zR,zR,zT⟩ kx zR zR (CC (B:=[_]) (Hin:=[_,_,_,_,_,_,_]) fun K' w1 hk hB=>YL hy10 (hT.keeps hk) (hs4.keeps hk) (Br (e:=72) (v:=v11) (fun _=>rfl) (hB _ zS))) ?_
 rintro _ _ ⟨_,rfl,v15,rfl,rfl⟩
 refine⟨trivial,?_⟩
 refine E zR (Ap zR zR zR (Ap zR zR zR (J zR (J zR (U (AD ?_))))))
 obtain⟨y12,hy12,h⟩:=bnd h
 obtain⟨y14,hy14,h⟩:=bnd h
 obtain⟨y18,hy18,h⟩:=bnd h
 obtain⟨y21,hy21,h⟩:=bnd h
 refine Aj CJ [2] (Pl.of [(true,0),(true,1),(true,2),(true,3),(true,4),(true,5),(true,6),(false,7),(true,8),(true,9),(true,10),(true,11),(true,12),(true,13),(true,14),(true,15),(true,16),(false,17),(true,18),(true,19),(true,20),(true,21),(true,22),(true,23),(true,24),(true,25),(true,27),(true,28),(true,29),(true,30),(false,26),(false,31),(false,32),(true,33),(true,34),(true,35),(true,37),(false,36),(false,38),(false,39),(false,40),(false,41)]) zK (E zR (E zR ?_))
 refine CU (c:=y2.2) 66 2 68 zR (fun hb k=>?_) (fun hb k=>?_) ?_
 refine E zR (Ad zR zR zR ?_)
 exact k.mono tL
 refine AA zR (Ad zR zR zR ?_)
 exact k.mono tL
 refine E zR ?_
 refine D1 69 4 73 hy12 zR (fun hb hg3 k=>?_) (fun hb k=>?_) ?_
 obtain⟨y11,hy11,hg3⟩:=bnd hg3
 obtain rfl:=Option.some.inj hg3
 refine E zR (E zR (SL.pick [9,0,1,2,3,4,5,6,7,8] 10 ?_))
 refine AP (vs:=[_,_]) (Hin:=[_,_]) (Hr:=_::_::_::_::_::_::_::_::_::_::_::_::_::_::_::_::_) zR zR ⟨zR,zR,zT⟩ dU zR zR (CC (B:=[_,_]) (Hin:=[]) fun K' w1 hk hB=>Nv hy11 (Br (e:=72) (v:=v9) (fun _=>rfl) (hB _ zS)) (Br (e:=72) (v:=v11) (fun _=>rfl) (hB _ zS))) ?_
 rintro _ _ ⟨_,rfl,rfl,rfl⟩
 refine⟨⟨⟨3,rfl⟩,trivial⟩,?_⟩
 refine Ad zR zR zR ?_
 exact SL.mono (SL.heap k fun _ hw=>BJ.pick (H:=[_,_,_,_,_,_,_,_,_,_,_,_,_,_,_,_,_,_]) hw [1,2,3,4,5,6,7,8,9,0,10,11,12,13,14,15,16,17] 18 zR) tL
 refine AA zR (AA zR (AA zR (Ad zR zR zR ?_)))
 exact k.mono tL
 refine E zR ?_
 refine CU (c:=decide (y4.2.1=y6.2.1)) 74 4 78 zR (fun hb k=>?_) (fun hb k=>?_) ?_
 refine E zR (E zR (O zR Bq (Ad zR zR zR ?_)))
 exact k.mono tL
 refine AA zR (AA zR (AA zR (Ad zR zR zR ?_)))
 exact k.mono tL
 refine E zR ?_
 refine D1 79 4 83 hy14 zR (fun hb hg5 k=>?_) (fun hb k=>?_) ?_
 obtain⟨y13,hy13,hg5⟩:=bnd hg5
 obtain rfl:=Option.some.inj hg5
 refine E zR (E zR (SL.pick [10,1,0,2,3,4,5,6,7,8,9] 11 ?_))
 refine AP (vs:=[_,_]) (Hin:=[_,_]) (Hr:=_::_::_::_::_::_::_::_::_::_::_::_::_::_::_::_::_) zR zR ⟨zR,zR,zT⟩ dU zR zR (CC (B:=[_,_]) (Hin:=[]) fun K' w1 hk hB=>Nv hy13 (Br (e:=72) (v:=v13) (fun _=>rfl) (hB _ zS)) (Br (e:=72) (v:=v15) (fun _=>rfl) (hB _ zS))) ?_
 rintro _ _ ⟨_,rfl,rfl,rfl⟩
 refine⟨⟨⟨3,rfl⟩,trivial⟩,?_⟩
 refine Ad zR zR zR ?_
 exact SL.mono (SL.heap k fun _ hw=>BJ.pick (H:=[_,_,_,_,_,_,_,_,_,_,_,_,_,_,_,_,_,_]) hw [2,1,3,4,5,6,7,8,9,10,0,11,12,13,14,15,16,17] 18 zR) tL
 refine AA zR (AA zR (AA zR (Ad zR zR zR ?_)))
 exact k.mono tL
 refine E zR ?_
 refine CU (c:=decide (y8.2.1=y10.2.1)) 84 4 88 zR (fun hb k=>?_) (fun hb k=>?_) ?_
 refine E zR (E zR (O zR Bq (Ad zR zR zR ?_)))
 exact k.mono tL
 refine AA zR (AA zR (AA zR (Ad zR zR zR ?_)))
 exact k.mono tL
 refine E zR ?_
 refine D1 89 9 98 hy18 zR (fun hb hg7 k=>?_) (fun hb k=>?_) ?_
 obtain⟨y15,hy15,hg7⟩:=bnd hg7
 obtain⟨y16,hy16,hg7⟩:=bnd hg7
 obtain⟨y17,hy17,hg7⟩:=bnd hg7
 obtain rfl:=Option.some.inj hg7
 refine E zR (E zR (AW zR zR (AB zR fA (AC 0 nq zR (SL.pick [14,15,16,17,0,1,2,3,4,5,6,7,8,9,10,11,12,13] 18 ?_)))))
 refine AP (vs:=[_]) (Hin:=[_,_,_,_]) (Hr:=_::_::_::_::_::_::_::_::_::_::_::_::_::_::_) zR zR ⟨zR,zT⟩ pZ zR zR (aS hy15) ?_
 rintro v16 _ ⟨_,rfl,rfl⟩
 refine⟨⟨⟨7,rfl⟩,trivial⟩,?_⟩
 refine SL.pick [10,11,12,13,0,1,2,3,4,5,6,7,8,9] 14 ?_
 refine AP (vs:=[_]) (Hin:=[_,_,_,_]) (Hr:=_::_::_::_::_::_::_::_::_::_::_::_::_::_::_::_) zR zR ⟨zR,zT⟩ pP zR zR (Pv hy16) ?_
 rintro v17 _ ⟨_,rfl,rfl⟩
 refine⟨⟨⟨12,rfl⟩,trivial⟩,?_⟩
 refine SL.pick [5,0,1,2,3,4] 6 ?_
 refine AP (vs:=[_,_]) (Hin:=[_,_]) (Hr:=_::_::_::_::_::_::_::_::_::_::_::_::_::_::_::_::_::_::_) zR zR ⟨zR,zR,zT⟩ oI zR zR (CC (B:=[_,_]) (Hin:=[]) fun K' w1 hk hB=>W7 hy17 (Br (e:=9) (v:=v16) (fun _=>rfl) (hB _ zS)) (Br (e:=9) (v:=v17) (fun _=>rfl) (hB _ zS))) ?_
 rintro _ _ ⟨_,rfl,rfl,rfl⟩
 refine⟨⟨⟨12,rfl⟩,trivial⟩,?_⟩
 refine Ad zR zR zR ?_
 exact SL.mono (SL.heap k fun _ hw=>BJ.pick (H:=[_,_,_,_,_,_,_,_,_,_,_,_,_,_,_,_,_,_,_,_]) hw [10,11,12,13,14,2,3,4,5,15,16,17,18,19,6,7,8,9] 20 zR) tL
 refine AA zR (AA zR (AA zR (AA zR (AA zR (AA zR (AA zR (AA zR ?_)))))))
 refine Ad zR zR zR ?_
 exact k.mono tL
 refine E zR ?_
 refine D1 99 6 105 hy21 zR (fun hb hg8 k=>?_) (fun hb k=>?_) ?_
 obtain⟨y19,hy19,hg8⟩:=bnd hg8
 obtain⟨y20,hy20,hg8⟩:=bnd hg8
 obtain rfl:=Option.some.inj hg8
 refine E zR (E zR (SL.pick [11,12,13,14,15,16,17,0,1,2,3,4,5,6,7,8,9,10] 18 ?_))
 refine AP (vs:=[_]) (Hin:=[_,_,_,_,_,_,_]) (Hr:=_::_::_::_::_::_::_::_::_::_::_::_) zR zR ⟨zR,zT⟩ qF zR zR (dO hy19) ?_
 rintro _ _ ⟨rfl,rfl⟩
 refine⟨⟨⟨9,rfl⟩,trivial⟩,?_⟩
 refine SL.pick [9,10,11,12,13,14,15,0,1,2,3,4,5,6,7,8] 16 ?_
 refine AP (vs:=[_]) (Hin:=[_,_,_,_,_,_,_]) (Hr:=_::_::_::_::_::_::_::_::_::_::_::_) zR zR ⟨zR,zT⟩ oP zR zR (RI hy20) ?_
 rintro _ _ ⟨rfl,rfl⟩
 refine⟨⟨⟨0,rfl⟩,trivial⟩,?_⟩
 refine O zR Bq (Ad zR zR zR ?_)
 exact SL.mono (SL.heap k fun _ hw=>BJ.pick (H:=[_,_,_,_,_,_,_,_,_,_,_,_,_,_,_,_,_,_]) hw [14,15,0,1,2,3,4,5,6,16,17,7,8,9,10,11,12,13] 18 zR) tL
 refine AA zR (AA zR (AA zR (AA zR (AA zR (Ad zR zR zR ?_)))))
 exact k.mono tL
 refine J zR (U (AM ?_))
 obtain rfl:=Option.some.inj h
 exact AY [] 18 zR zR zR
end

/- Plain functions of the references and the laws, printed from the loaded program, and the walks that show that the program computes them. Condition: the plain function yields. -/
section
variable {K:Nat→Prop}{w0:World}{H:List AT}
end

/- Plain laws: the answer's Right and Build for any rows, and its sorted. No program's walk in sight. Condition: as each says. -/
section
theorem pM(r:AN):EM r=some (FF r):=by
 unfold EM FF
 rw[A7]
 congr 1
 rw[Bool.eq_iff_iff]
 simp only[Bool.and_eq_true,decide_eq_true_eq,UInt32.lt_iff_toNat_lt,Hz]
 have h6:(2147483648:UInt32).toNat=2147483648:=rfl
 omega
theorem aI{l:List AN}{k:Nat}(h:k+1<l.length):DV (l.drop k)=(decide (l[k].id<l[k+1].id)&&DV (l.drop (k+1))):=by
 rw[List.drop_eq_getElem_cons (show k<l.length by omega),List.drop_eq_getElem_cons h]
 rfl
theorem Ug{n:Nat}{l:List AN}(hn:l.length<n)(hb:l.length≤1048576):E2 n l=some (CZ l):=by
 unfold E2 CZ
 by_cases h1000:1000<l.length
 rw[decide_eq_true zO,cond_true,decide_eq_false (show ¬(l.length:Int)≤1000 by omega),Bool.and_false]
 rw[decide_eq_false zO,cond_false,decide_eq_true (show(l.length:Int)≤1000 by omega),Bool.and_true]
 have key:∀(d k m:Nat),k+d=l.length→d<m→Cu l m (k:Int)=some ((l.drop k).all FF&&DV (l.drop (k-1))):=by
  intro d
  induction d with
  | zero=>
   intro k m hk hm
   obtain⟨m,rfl⟩:∃j,m=j+1:=⟨m-1,by omega⟩
   have hk':k=l.length:=by omega
   have h2:DV (l.drop (k-1))=true:=by
    have:(l.drop (k-1)).length≤1:=by simp;omega
    rcases hd:l.drop (k-1)with _ | ⟨a,_ | ⟨b,t⟩⟩
    rfl
    rfl
    rw[hd]at this
    simp at this
   rw[h2,show l.drop k=[] by rw[hk'];simp]
   show CS l (Cu l m) _=_
   unfold CS
   rw[decide_eq_false zO,cond_false]
   rfl
  | succ d ih=>
   intro k m hk hm
   obtain⟨m,rfl⟩:∃j,m=j+1:=⟨m-1,by omega⟩
   have hkl:k<l.length:=by omega
   have n1:Aq l (k:Int)=some l[k]:=by rw[DK rfl,List.getElem?_eq_getElem hkl]
   have e1:(l.drop k).all FF=(FF l[k]&&(l.drop (k+1)).all FF):=by rw[List.drop_eq_getElem_cons hkl];rfl
   show CS l (Cu l m) _=_
   unfold CS
   rw[decide_eq_true zO,cond_true,n1,Y,pM,Y]
   have hnx:(ret (wI ((k:Int)+1)) fun i_1=>Cu l m i_1)=some ((l.drop (k+1)).all FF&&DV (l.drop k)):=by
    rw[A7,BD zO zO]
    exact ih (k+1) m zO zO
   rw[hnx,e1]
   cases hr:FF l[k]with
   | false=>rfl
   | true=>
    rcases Nat.eq_zero_or_pos k with rfl | hk0
    rfl
    have n2:Aq l (wI ((k:Int)-1))=some l[k-1]:=by
     rw[BD zO zO,DK (k:=k-1) zO,List.getElem?_eq_getElem zO]
    have e2:DV (l.drop (k-1))=(decide (l[k-1].id<l[k].id)&&DV (l.drop k)):=by
     have:=aI (l:=l) (k:=k-1) zO
     simpa[Nat.sub_add_cancel hk0]using this
    rw[e2,decide_eq_true zO,n2]
    simp only[PJ,Ed,Bool.not_true,cond_false,cond_true,Y,Un]
    cases decide (l[k-1].id<l[k].id)<;>simp
 have:=key l.length 0 n zO hn
 simpa using this
theorem bo{n:Nat}{l:List AN}(hn:1100≤n)(hl:l.length<n)(hb:l.length≤1048576):NH n l=Im n l:=by
 cases h:CZ l with
 | false=>
  rw[X8 hl zO h]
  unfold NH
  rw[Ug hl hb,Y,h]
  rfl
 | true=>
  obtain⟨t,h1,_,h2⟩:=UD (n:=n) zO h
  obtain⟨t',g1,g2⟩:=ay hn h
  rw[h1,g1,Tr.uniq g2 h2]
end

/- Plain laws: the answer's sorted sorts. No program's walk in sight. Condition: rounds enough. -/
section
end

/- The reference of ChaCha20 answers as the plain one. No program in sight. No condition beyond those stated. -/
section
theorem mG(x:UInt32)(n:Nat)(h:n≤32):Cp x (n:Int)=some (rl x n):=by
 unfold Cp
 rw[Si,Y,BD zO zO,show(32-(n:Int))=((32-n:Nat):Int) by omega,Si,Y]
 rfl
theorem eM(a b c d:UInt32):HQ a b c d=some (Q4.quarter ⟨a,b,c,d⟩).list:=by
 have t16:∀x,Cp x 16=some (rl x 16):=fun x=>mG x 16 zD
 have t12:∀x,Cp x 12=some (rl x 12):=fun x=>mG x 12 zD
 have t8:∀x,Cp x 8=some (rl x 8):=fun x=>mG x 8 zD
 have t7:∀x,Cp x 7=some (rl x 7):=fun x=>mG x 7 zD
 simp only[HQ,ret,t16,t12,t8,t7,Y]
 rfl
theorem gN(s:List UInt8)(i:Nat)(h:i+3<s.length)(hi:s.length≤1099511627776):ID s (i:Int)=some (Ie s i):=by
 unfold ID
 rw[B3 (k:=i) 0 rfl zO,Y,BD zO zO,B3 (k:=i+1) 0 zO zO,Y,
  BD zO zO,B3 (k:=i+2) 0 zO zO,Y,BD zO zO,B3 (k:=i+3) 0 zO zO,Y]
 rfl
theorem eX(c:UInt32):Ie (E3 c) 0=c:=by
 apply UInt32.toNat_inj.1
 have hc:=c.toNat_lt
 have e8:∀k,k≤32→(shr32 c k).toNat=c.toNat / 2^k:=fun k hk=>by
  simp only[shr32,UInt32.toNat_ofNat',Nat.min_eq_left hk]
  exact Nat.mod_eq_of_lt (Nat.lt_of_le_of_lt (Nat.div_le_self _ _) hc)
 have s8:∀(x:UInt8) k,k≤24→(shl32 x.toUInt32 k).toNat=x.toNat*2^k:=fun x k hk=>by
  have hx:=x.toNat_lt
  simp only[shl32,UInt32.toNat_ofNat',UInt8.toNat_toUInt32,Nat.min_eq_left (show k≤32 by omega)]
  refine Nat.mod_eq_of_lt ?_
  calc x.toNat*2^k<2^8*2^k:=Nat.mul_lt_mul_of_pos_right hx (Nat.two_pow_pos k)
   _=2^(8+k):=(Nat.pow_add 2 8 k).symm
   _≤2^32:=Nat.pow_le_pow_right zD zO
 have key:∀(a b k:Nat),a<2^k→a ||| b*2^k=a+b*2^k:=fun a b k h=>by
  rw[Nat.or_comm,Nat.mul_comm,←Nat.two_pow_add_eq_or_of_lt h,Nat.add_comm]
 show(Ie [c.toUInt8,(shr32 c 8).toUInt8,(shr32 c 16).toUInt8,(shr32 c 24).toUInt8] 0).toNat=_
 simp only[Ie,KP,List.getD_cons_zero,List.getD_cons_succ,Nat.zero_add]
 rw[UInt32.toNat_or,UInt32.toNat_or,UInt32.toNat_or,s8 _ 8 zO,s8 _ 16 zO,s8 _ 24 zO]
 simp only[UInt8.toNat_toUInt32,UInt32.toNat_toUInt8,e8 8 zO,e8 16 zO,e8 24 zO]
 rw[key _ _ 8 zO,key _ _ 16 zO,key _ _ 24 zO]
 omega
theorem jj(key:List UInt8)(counter:UInt32)(nonce:List UInt8)(hk:key.length=32)(hn:nonce.length=12){n:Nat}(hm:8<n):I1 n key counter nonce=some (GR key counter nonce):=by
 have hw:∀(s:List UInt8) (i:Nat),i<s.length / 4→(Bv s).take (i+1)=(Bv s).take i++[Ie s (4*i)]:=fun s i hi=>by
  rw[List.take_add_one,List.getElem?_eq_getElem (by rw[DR];exact hi)]
  simp[Bv]
 have he:Bv Ix=[1634760805,857760878,2036477234,1797285236]:=by decide
 have hc:Bv (E3 counter)=[counter]:=by
  have:Bv (E3 counter)=[Ie (E3 counter) 0]:=by
   unfold Bv
   rw[show(E3 counter).length=4 from rfl]
   rfl
  rw[this,eX]
 unfold I1 Ik
 have h2:GS n counter nonce (Bv Ix++Bv key)=some (GR key counter nonce):=by
  unfold GS Ib
  have hlk:(Bv key).length=8:=by rw[DR,hk]
  rw[B8 (by simp[he,hlk]) (by simp[he,hlk]),Y]
  refine(congrArg (Be _ n) ?_).trans (Cq (fun i=>(Bv Ix++Bv key++[counter]++(Bv nonce).take i,(i:Int))) 3 (fun i hi k=>?_) (fun k=>?_) zO)
  simp
  simp only[FQ,show decide ((i:Int)<3)=true by simp;omega,cond_true]
  rw[BD zO zO,show 4*(i:Int)=((4*i:Nat):Int) by omega,gN nonce (4*i) zO zO,Y,B8 (by simp[he,hlk,DR];omega) (by simp[he,hlk,DR];omega),Y]
  simp only[ret]
  rw[BD zO zO,hw nonce i zO]
  simp
  simp only[FQ,show decide (((3:Nat):Int)<3)=false by decide,cond_false,Ih]
  rw[List.take_of_length_le (by have:=DR nonce;omega)]
  simp[GR,hc]
 refine(congrArg (Be _ n) ?_).trans (Cq (fun i=>(Bv Ix++(Bv key).take i,(i:Int))) 8 (fun i hi k=>?_) (fun k=>?_) hm)
 simp[he]
 simp only[FR,show decide ((i:Int)<8)=true by simp;omega,cond_true]
 rw[BD zO zO,show 4*(i:Int)=((4*i:Nat):Int) by omega,gN key (4*i) zO zO,Y,B8 (by simp[he,DR];omega) (by simp[he,DR];omega),Y]
 simp only[ret]
 rw[BD zO zO,hw key i zO]
 simp
 simp only[FR,show decide (((8:Nat):Int)<8)=false by decide,cond_false]
 rw[List.take_of_length_le (by have:=DR key;omega)]
 exact h2
theorem qg(ws:List UInt32)(ix:Nat→Nat)(h:∀k,k<4→ix k<ws.length):CV ws (ix 0:Int) (ix 1:Int) (ix 2:Int) (ix 3:Int)=some (gt ws ix):=by
 unfold CV
 have h0:=h 0 zD
 have h1:=h 1 zD
 have h2:=h 2 zD
 have h3:=h 3 zD
 have g:∀(l:List UInt32) (k:Nat),k<l.length→Aq l (k:Int)=some (l.getD k 0):=fun l k hk=>B3 0 rfl hk
 rw[g _ _ h0,Y,g _ _ h1,Y,g _ _ h2,Y,g _ _ h3,Y,eM,Y]
 generalize hq:Q4.quarter ⟨ws.getD (ix 0) 0,ws.getD (ix 1) 0,ws.getD (ix 2) 0,ws.getD (ix 3) 0⟩=q
 have q0:Aq q.list 0=some q.a:=rfl
 have q1:Aq q.list 1=some q.b:=rfl
 have q2:Aq q.list 2=some q.c:=rfl
 have q3:Aq q.list 3=some q.d:=rfl
 simp only[q0,q1,q2,q3,Y,HC rfl h0,g (ws.set (ix 0) q.a) (ix 1) (by simpa using h1),HC rfl (show ix 1<(ws.set (ix 0) q.a).length by simpa using h1),
  g ((ws.set (ix 0) q.a).set (ix 1) q.b) (ix 2) (by simpa using h2),HC rfl (show ix 2<((ws.set (ix 0) q.a).set (ix 1) q.b).length by simpa using h2),
  g (((ws.set (ix 0) q.a).set (ix 1) q.b).set (ix 2) q.c) (ix 3) (by simpa using h3),HC rfl (show ix 3<(((ws.set (ix 0) q.a).set (ix 1) q.b).set (ix 2) q.c).length by simpa using h3)]
 unfold gt
 rw[hq]
 rfl
theorem kI(key:List UInt8)(counter:UInt32)(nonce:List UInt8)(hk:key.length=32)(hn:nonce.length=12){n:Nat}(hm:16<n):Fw n key counter nonce=some (Il key counter nonce,0):=by
 have hb:=K3 (counter:=counter) hk hn
 unfold Fw
 rw[show((!decide ((key.length:Int)=32))||(!decide ((nonce.length:Int)=12)))=false by simp[hk,hn]]
 simp only[cond_false]
 rw[jj key counter nonce hk hn zO,Y]
 generalize hw:GR key counter nonce=w at hb
 rw[B8 (by simp[hb]) (by simp[hb]),Y,List.nil_append]
 have hl:∀l:List UInt32,(l.flatMap E3).length=4*l.length:=by
  intro l
  induction l with
  | nil=>rfl
  | cons x r ih=>rw[List.flatMap_cons,List.length_append,ih,List.length_cons];simp[E3];omega
 have h3:∀ws:List UInt32,ws.length=16→E4 n w ws=some ((List.zipWith (·+·) ws w).flatMap E3,0):=by
  intro ws ht
  have hz:(List.zipWith (·+·) ws w).length=16:=by simp[ht,hb]
  have hg:∀i,i<16→(List.zipWith (·+·) ws w)[i]? = some (ws.getD i 0+w.getD i 0):=fun i hi=>by
   simp[List.getD_eq_getElem?_getD,ht,hb,hi]
  generalize List.zipWith (·+·) ws w=z at hz hg
  unfold E4 IV
  refine(congrArg (Be _ n) ?_).trans (Cq (fun i=>((z.take i).flatMap E3,(i:Int))) 16 (fun i hi k=>?_) (fun k=>?_) zO)
  simp
  have ei:((i+1:Nat):Int)=(i:Int)+1:=by omega
  have st:(z.take (i+1)).flatMap E3=(z.take i).flatMap E3++E3 (ws.getD i 0+w.getD i 0):=by
   rw[List.take_add_one,hg i hi,List.flatMap_append]
   simp
  dsimp only
  rw[st,ei]
  simp only[FL,show decide ((i:Int)<16)=true by simp;omega,cond_true,ret]
  rw[B3 (k:=i) 0 rfl zO,Y,B3 (k:=i) 0 rfl zO,Y,B8 (by rw[hl];simp[hz];omega) (by rw[hl];simp[hz];omega),Y,BD zO zO]
  rfl
  simp only[FL,show decide (((16:Nat):Int)<16)=false by decide,cond_false,Id]
  rw[List.take_of_length_le zO]
 have h2:E4 n w (QQ w 10)=some (Il key counter nonce,0):=by
  rw[h3 _ (by rw[LC,hb])]
  unfold Il fC
  rw[hw]
 unfold IX
 refine(congrArg (Be _ n) ?_).trans (Cq (fun i=>(QQ w i,(i:Int))) 10 (fun i hi k=>?_) (fun k=>?_) zO)
 rfl
 simp only[FJ,show decide ((i:Int)<10)=true by simp;omega,cond_true,ret]
 have hl0:(QQ w i).length=16:=by rw[LC,hb]
 have hA:∀(l:List UInt32) (s j:Nat),l.length=16→j<4→CV l (Gy s j 0:Int) (Gy s j 1:Int) (Gy s j 2:Int) (Gy s j 3:Int)=some (gt l (Gy s j)):=fun l s j hl hj=>qg l (Gy s j) (fun k hk=>by unfold Gy;omega)
 have r:∀(l:List UInt32) (s:Nat),l.length=16→∀j,(Ct l s j).length=16:=fun l s hl j=>by rw[I9,hl]
 have a0:∀l:List UInt32,l.length=16→CV l 0 4 8 12=some (Ct l 0 1):=fun l hl=>hA l 0 0 hl zD
 have a1:∀l:List UInt32,l.length=16→CV (Ct l 0 1) 1 5 9 13=some (Ct l 0 2):=fun l hl=>hA _ 0 1 (r _ _ hl _) zD
 have a2:∀l:List UInt32,l.length=16→CV (Ct l 0 2) 2 6 10 14=some (Ct l 0 3):=fun l hl=>hA _ 0 2 (r _ _ hl _) zD
 have a3:∀l:List UInt32,l.length=16→CV (Ct l 0 3) 3 7 11 15=some (Ct l 0 4):=fun l hl=>hA _ 0 3 (r _ _ hl _) zD
 have b0:∀l:List UInt32,l.length=16→CV l 0 5 10 15=some (Ct l 1 1):=fun l hl=>hA l 1 0 hl zD
 have b1:∀l:List UInt32,l.length=16→CV (Ct l 1 1) 1 6 11 12=some (Ct l 1 2):=fun l hl=>hA _ 1 1 (r _ _ hl _) zD
 have b2:∀l:List UInt32,l.length=16→CV (Ct l 1 2) 2 7 8 13=some (Ct l 1 3):=fun l hl=>hA _ 1 2 (r _ _ hl _) zD
 have b3:∀l:List UInt32,l.length=16→CV (Ct l 1 3) 3 4 9 14=some (Ct l 1 4):=fun l hl=>hA _ 1 3 (r _ _ hl _) zD
 have hl4:=r _ 0 hl0 4
 rw[a0 _ hl0,Y,a1 _ hl0,Y,a2 _ hl0,Y,a3 _ hl0,Y,b0 _ hl4,Y,b1 _ hl4,Y,b2 _ hl4,Y,b3 _ hl4,Y,BD zO zO]
 rfl
 simp only[FJ,show decide (((10:Nat):Int)<10)=false by decide,cond_false]
 exact h2
theorem qW(key nonce s:List UInt8)(hk:key.length=32)(hn:nonce.length=12)(hs:s.length≤1048576){n:Nat}(hm:16<n)(hm2:s.length<n):LL n key nonce s=some (GI key nonce s,0):=by
 have hB:∀i,Fw n key (UInt32.ofNat i) nonce=some (Il key (UInt32.ofNat i) nonce,0):=fun i=>kI key _ nonce hk hn hm
 have hL:∀i,(Il key (UInt32.ofNat i) nonce).length=64:=fun i=>QF hk hn
 have hX:∀i,i<s.length→(GI key nonce s).take (i+1)=(GI key nonce s).take i++[s.getD i 0 ^^^ (Il key (UInt32.ofNat (i / 64)) nonce).getD (i%64) 0]:=fun i hi=>by
  rw[List.take_add_one,List.getElem?_eq_getElem (by rw[EG];exact hi)]
  simp[GI,M6]
 have hXl:=EG key nonce s
 generalize GI key nonce s=X at hX hXl ⊢
 generalize hBf:(fun i=>Il key (UInt32.ofNat i) nonce)=B
 have hB':∀i,Fw n key (UInt32.ofNat i) nonce=some (B i,0):=fun i=>by rw[hB i,←hBf]
 have hL':∀i,(B i).length=64:=fun i=>by rw[←hBf];exact hL i
 have hX':∀i,i<s.length→X.take (i+1)=X.take i++[s.getD i 0 ^^^ (B (i / 64)).getD (i%64) 0]:=fun i hi=>by rw[hX i hi,←hBf]
 clear hB hL hX hBf
 unfold LL
 rw[show(((!decide ((key.length:Int)=32))||(!decide ((nonce.length:Int)=12)))||(decide (1048576<(s.length:Int))))=false by simp[hk,hn];omega]
 simp only[cond_false]
 unfold H3
 refine(congrArg (Be _ n) ?_).trans (Cq (fun i=>(X.take i,(if i=0 then[]else B ((i-1) / 64)),(i:Int))) s.length (fun i hi k=>?_) (fun k=>?_) hm2)
 simp
 have ei:((i+1:Nat):Int)=(i:Int)+1:=by omega
 dsimp only
 rw[hX' i hi,if_neg (show ¬i+1=0 by omega),Nat.add_sub_cancel,ei]
 simp only[Gk,show decide ((i:Int)<(s.length:Int))=true by simp;omega,cond_true]
 have hr:Pd (i:Int) 64=some ((i%64:Nat):Int):=S4 zD
 have hq:RX (i:Int) 64=some ((i / 64:Nat):Int):=c7 zD zO
 have hj:GP s (X.take i) (i:Int) k (B (i / 64))=k (X.take i++[s.getD i 0 ^^^ (B (i / 64)).getD (i%64) 0],B (i / 64),(i:Int)+1):=by
  have hbl:=hL' (i / 64)
  unfold GP
  rw[B3 (k:=i) 0 rfl hi,Y,hr,Y,B3 (k:=i%64) 0 rfl zO,Y,B8 (by simp;omega) (by simp;omega),Y]
  simp only[ret]
  rw[BD zO zO]
 rw[hr,Y]
 by_cases h0:i%64=0
 rw[show decide (((i%64:Nat):Int)=0)=true by simp;omega]
 simp only[cond_true]
 have hu:Ds ((i / 64:Nat):Int)=UInt32.ofNat (i / 64):=by
  simp only[Ds]
  congr 1
  omega
 rw[hq,Y,hu,hB',Y]
 exact hj
 rw[show decide (((i%64:Nat):Int)=0)=false by simp;omega]
 simp only[cond_false]
 rw[if_neg (show ¬i=0 by omega),show(i-1) / 64=i / 64 by omega]
 exact hj
 simp only[Gk,show decide ((s.length:Int)<(s.length:Int))=false by simp,cond_false,KF]
 rw[List.take_of_length_le zO]
end

/- The references of SHA-256, HMAC, and the texts that a key expands to answer as the plain ones. No program in sight. Condition: texts of at most 2^40 bytes. -/
section
theorem XN(x:UInt32)(n:Nat)(h:n≤32):Bm x (n:Int)=some (Ic x n):=by
 unfold Bm
 rw[Si,Y,BD zO zO,show(32-(n:Int))=((32-n:Nat):Int) by omega,Si,Y]
 rfl
theorem iU(s:List UInt8)(w:List UInt32)(h:16≤w.length):Oz s w=w.getD (w.length-16) 0+jp (w.getD (w.length-15) 0)+w.getD (w.length-7) 0+jg (w.getD (w.length-2) 0):=by
 unfold Oz
 rw[if_neg zO]
 ac_rfl
theorem jR{h:List UInt32}(hh:h.length=8){n:Nat}(hm:64<n):∀f:List UInt32,f.length=8→Fl n h f=some (List.zipWith (·+·) f h):=by
 intro f hf
 have hfl:h.length=f.length:=by omega
 unfold Fl Jd
 refine(congrArg (Be _ n) ?_).trans (Cq (fun i=>(Pf f h i,(i:Int))) 8 (fun i hi k=>?_) (fun k=>?_) zO)
 simp[Pf]
 have ei:((i+1:Nat):Int)=(i:Int)+1:=by omega
 have hml:=Sh f h hfl i
 dsimp only
 rw[ei,←Xj f h hfl i zO,←Xm f h hfl i zO]
 simp only[F2,show decide ((i:Int)<8)=true by simp;omega,cond_true,ret]
 rw[B3 (k:=i) 0 rfl zO,Y,B3 (k:=i) 0 rfl zO,Y,Y,HC rfl zO,Y,BD zO zO]
 simp only[F2,show decide (((8:Nat):Int)<8)=false by decide,cond_false,Jf]
 have:=WO f h hfl
 rw[hf]at this
 rw[this]
theorem il{T h:List UInt32}(hT:T.length=64)(hh:h.length=8){n:Nat}(hm:64<n):∀w:List UInt32,w.length=64→Fi n T h w=some (List.zipWith (·+·) h (FM T w h 64).list):=by
 intro w hw
 have t6:∀x,Bm x 6=some (Ic x 6):=fun x=>XN x 6 zD
 have t11:∀x,Bm x 11=some (Ic x 11):=fun x=>XN x 11 zD
 have t25:∀x,Bm x 25=some (Ic x 25):=fun x=>XN x 25 zD
 have t2:∀x,Bm x 2=some (Ic x 2):=fun x=>XN x 2 zD
 have t13:∀x,Bm x 13=some (Ic x 13):=fun x=>XN x 13 zD
 have t22:∀x,Bm x 22=some (Ic x 22):=fun x=>XN x 22 zD
 have hz:∀q:LO,Fl n h q.list=some (List.zipWith (·+·) h q.list):=fun q=>by
  rw[jR hh hm _ rfl,List.zipWith_comm]
  simp only[UInt32.add_comm]
 have hN:∀i,FM T w h (i+1)=(FM T w h i).step (T.getD i 0) (w.getD i 0):=fun i=>rfl
 have h0:(FM T w h 0).list=h:=PS hh
 generalize FM T w h=R at hN h0 ⊢
 unfold Fi Jk
 rw[B8 (by simp[hh]) (by simp[hh]),Y,List.nil_append]
 refine(congrArg (Be _ n) ?_).trans (Cq (fun i=>((R i).list,(i:Int))) 64 (fun i hi k=>?_) (fun k=>?_) zO)
 simp[h0]
 have ei:((i+1:Nat):Int)=(i:Int)+1:=by omega
 dsimp only
 rw[ei,hN]
 generalize R i=q
 have q0:Aq q.list 0=some q.a:=rfl
 have q1:Aq q.list 1=some q.b:=rfl
 have q2:Aq q.list 2=some q.c:=rfl
 have q3:Aq q.list 3=some q.d:=rfl
 have q4:Aq q.list 4=some q.e:=rfl
 have q5:Aq q.list 5=some q.f:=rfl
 have q6:Aq q.list 6=some q.g:=rfl
 have q7:Aq q.list 7=some q.i:=rfl
 simp only[F6,show decide ((i:Int)<64)=true by simp;omega,cond_true,A7,q0,q1,q2,q3,q4,q5,q6,q7,Y,t6,t11,t25,t2,t13,t22]
 rw[B3 (k:=i) 0 rfl zO,Y,B3 (k:=i) 0 rfl zO,Y,BD zO zO]
 simp only[LO.step,LO.list,LO.t1,LO.t2]
 simp only[F6,show decide (((64:Nat):Int)<64)=false by decide,cond_false]
 exact hz _
theorem lq(T h:List UInt32)(s:List UInt8)(hT:T.length=64)(hh:h.length=8)(hs:s.length=64){n:Nat}(hm:64<n):KB n T h s=some (PI T h s):=by
 
 have t7:∀x,Bm x 7=some (Ic x 7):=fun x=>XN x 7 zD
 have t18:∀x,Bm x 18=some (Ic x 18):=fun x=>XN x 18 zD
 have t17:∀x,Bm x 17=some (Ic x 17):=fun x=>XN x 17 zD
 have t19:∀x,Bm x 19=some (Ic x 19):=fun x=>XN x 19 zD
 unfold KB HI
 have hW:∀i,D5 s (i+1)=D5 s i++[Oz s (D5 s i)]:=fun i=>rfl
 have hWl:=KJ s
 have hfin:Fi n T h (D5 s 64)=some (PI T h s):=by
  unfold PI DB
  exact il hT hh hm _ (hWl 64)
 have hW0:D5 s 0=[]:=rfl
 generalize D5 s=W at hW hWl hfin hW0
 refine(congrArg (Be _ n) ?_).trans (Cq (fun i=>(W i,(i:Int))) 64 (fun i hi k=>?_) (fun k=>?_) hm)
 simp[hW0]
 have ei:((i+1:Nat):Int)=(i:Int)+1:=by omega
 have hl:=hWl i
 dsimp only
 rw[ei,hW]
 generalize W i=w at hl
 simp only[F7,show decide ((i:Int)<64)=true by simp;omega,cond_true]
 have hj:∀x:UInt32,(CT 4 w [x]).bind (fun l=>Fg (i:Int) k l)=k (w++[x],(i:Int)+1):=fun x=>by
  rw[B8 (by simp;omega) (by simp;omega),Y]
  simp only[Fg,ret]
  rw[BD zO zO]
 by_cases hlt:i<16
 rw[show decide ((i:Int)<16)=true by simp;omega]
 simp only[cond_true]
 rw[BD zO zO,B3 (k:=4*i) 0 zO zO,Y,BD zO zO,B3 (k:=4*i+1) 0 zO zO,Y,BD zO zO,B3 (k:=4*i+2) 0 zO zO,Y,
  BD zO zO,B3 (k:=4*i+3) 0 zO zO,Y,hj]
 unfold Oz
 rw[if_pos zO,hl]
 rfl
 rw[show decide ((i:Int)<16)=false by simp;omega]
 simp only[cond_false]
 rw[BD zO zO,B3 (k:=i-15) 0 zO zO,Y,BD zO zO,B3 (k:=i-2) 0 zO zO,Y,BD zO zO,B3 (k:=i-16) 0 zO zO,Y,
  t7,Y,t18,Y,BD zO zO,B3 (k:=i-7) 0 zO zO,Y,t17,Y,t19,Y,hj,iU s w zO,hl]
 rfl
 simp only[F7,show decide (((64:Nat):Int)<64)=false by decide,cond_false]
 exact hfin
theorem dC(x:UInt64):shr64 x 0=x:=by
 apply UInt64.toNat_inj.1
 have:=x.toNat_lt
 simp[shr64]
theorem iE(s:List UInt8)(hs:s.length≤1099511627776){n:Nat}(hm:64<n):H2 n s=some (s++Js s.length):=by
 unfold H2
 rw[CM (by simp;omega),Y]
 unfold Ha
 have hp:Jw s.length<64:=by unfold Jw;omega
 refine(congrArg (Be _ n) ?_).trans (Cq (fun i=>s++[128]++List.replicate i 0) (Jw s.length) (fun i hi k=>?_) (fun k=>?_) zO)
 simp
 have hl:(s++[128]++List.replicate i (0:UInt8)).length=s.length+1+i:=by simp;omega
 have st:s++[128]++List.replicate (i+1) (0:UInt8)=s++[128]++List.replicate i 0++[0]:=by rw[List.replicate_succ',List.append_assoc _ _ [0]]
 rw[st]
 generalize s++[128]++List.replicate i (0:UInt8)=u at hl
 simp only[Ev]
 rw[hl,show(64:Int)=((64:Nat):Int)from rfl,S4 zD,Y,show(!decide ((((s.length+1+i)%64:Nat):Int)=56))=true by unfold Jw at hi;simp;omega]
 simp only[cond_true]
 rw[CM (by simp;omega),Y]
 have hl:(s++[128]++List.replicate (Jw s.length) (0:UInt8)).length=s.length+1+Jw s.length:=by simp;omega
 have ht:s++Js s.length=s++[128]++List.replicate (Jw s.length) 0++QA (BK s.length*8):=by simp[Js]
 rw[ht]
 generalize s++[128]++List.replicate (Jw s.length) (0:UInt8)=u at hl
 simp only[Ev]
 rw[hl,show(64:Int)=((64:Nat):Int)from rfl,S4 zD,Y,show(!decide ((((s.length+1+Jw s.length)%64:Nat):Int)=56))=false by unfold Jw;simp;omega]
 simp only[cond_false,Hd,ret]
 rw[CM (by simp;omega),Y]
 simp only[QA,dC]
theorem dR(T:List UInt32)(s:List UInt8)(hT:T.length=64)(hs:s.length≤1099511627776){n:Nat}(hm:64<n)(hm2:s.length<n):Ho n T s=some (K0 T s):=by
 unfold Ho
 rw[iE s hs hm,Y]
 have hw:(s++Js s.length).length%64=0:=by
  simp[Js,Jw,QA];omega
 have hlen:(s++Js s.length).length≤s.length+73:=by
  simp[Js,Jw,QA];omega
 have hsum:K0 T s=(FY T C8 (s++Js s.length) ((s++Js s.length).length / 64)).list.flatMap F9:=by
  unfold K0
  rw[KC]
 rw[hsum]
 generalize s++Js s.length=f at hw hlen
 
 have hl:∀l:List UInt32,(l.flatMap F9).length=4*l.length:=by
  intro l
  induction l with
  | nil=>rfl
  | cons x r ih=>rw[List.flatMap_cons,List.length_append,ih,List.length_cons];simp[F9];omega
 have h1:∀l:List UInt32,l.length=8→H5 n l=some (l.flatMap F9):=by
  intro l h8
  unfold H5 KN
  refine(congrArg (Be _ n) ?_).trans (Cq (fun i=>((l.take i).flatMap F9,(i:Int))) 8 (fun i hi k=>?_) (fun k=>?_) zO)
  simp
  have ei:((i+1:Nat):Int)=(i:Int)+1:=by omega
  have st:(l.take (i+1)).flatMap F9=(l.take i).flatMap F9++F9 (l.getD i 0):=by
   rw[List.take_add_one,IL 0 zO,List.flatMap_append]
   simp
  dsimp only
  rw[st,ei]
  simp only[GZ,show decide ((i:Int)<8)=true by simp;omega,cond_true,ret]
  rw[B3 (k:=i) 0 rfl zO,Y,Y,Y,Y,B8 (by rw[hl];simp;omega) (by rw[hl];simp;omega),Y,BD zO zO]
  rfl
  simp only[GZ,show decide (((8:Nat):Int)<8)=false by decide,cond_false,KO]
  rw[List.take_of_length_le zO]
 unfold KG
 have hfirst:Kr=some C8.list:=rfl
 rw[hfirst,Y]
 have hP:∀j,(FY T C8 f (j+1)).list=PI T (FY T C8 f j).list ((f.drop (64*j)).take 64):=fun j=>by
  show(SE T _ _).list=_
  unfold SE
  exact PS (RU rfl)
 have hP8:∀j,(FY T C8 f j).list.length=8:=fun j=>rfl
 have hP0:(FY T C8 f 0).list=C8.list:=rfl
 generalize (fun j=>(FY T C8 f j).list)=R at hP hP8 hP0
 generalize hR:(fun j=>(FY T C8 f j).list)=R at*
 have hP':∀j,R (j+1)=PI T (R j) ((f.drop (64*j)).take 64):=fun j=>by rw[←hR];exact hP j
 have hP8':∀j,(R j).length=8:=fun j=>by rw[←hR];exact hP8 j
 have hP0':R 0=C8.list:=by rw[←hR];exact hP0
 have hRN:(FY T C8 f (f.length / 64)).list=R (f.length / 64):=by rw[←hR]
 rw[hRN]
 clear hR hRN hP hP8 hP0
 refine(congrArg (Be _ n) ?_).trans (Cq (fun j=>(R j,((64*j:Nat):Int))) (f.length / 64) (fun j hj k=>?_) (fun k=>?_) zO)
 simp[hP0']
 have ej:((64*(j+1):Nat):Int)=((64*j:Nat):Int)+64:=by omega
 dsimp only
 rw[hP',ej]
 simp only[Gb,show decide (((64*j:Nat):Int)<(f.length:Int))=true by simp;omega,cond_true,ret]
 rw[BD zO zO,Nc (p:=64*j) (q:=64*j+64) rfl zO zO zO,Y,show 64*j+64-64*j=64 by omega,lq T (R j) _ hT (hP8' j) (by simp;omega) hm,Y]
 simp only[Gb,show decide (((64*(f.length / 64):Nat):Int)<(f.length:Int))=false by simp;omega,cond_false]
 exact h1 _ (hP8' _)
theorem fk(T:List UInt32)(key:List UInt8)(c:UInt8)(hT:T.length=64)(hs:key.length≤1099511627776){n:Nat}(hm:64<n)(hm2:key.length<n):IQ n T key c=some (E0 T key c):=by
 have h1:∀u:List UInt8,u.length≤64→Fo n c u=some ((List.range 64).map fun i=>u.getD i 0 ^^^ c):=by
  intro u hu
  unfold Fo HH
  refine(congrArg (Be _ n) ?_).trans (Cq (fun i=>((List.range i).map (fun i=>u.getD i 0 ^^^ c),(i:Int))) 64 (fun i hi k=>?_) (fun k=>?_) hm)
  simp
  have ei:((i+1:Nat):Int)=(i:Int)+1:=by omega
  have st:(List.range (i+1)).map (fun i=>u.getD i 0 ^^^ c)=(List.range i).map (fun i=>u.getD i 0 ^^^ c)++[u.getD i 0 ^^^ c]:=by simp[List.range_succ]
  have hj:Fh c ((List.range i).map (fun i=>u.getD i 0 ^^^ c)) (i:Int) k (u.getD i 0)=k ((List.range i).map (fun i=>u.getD i 0 ^^^ c)++[u.getD i 0 ^^^ c],(i:Int)+1):=by
   unfold Fh
   rw[B8 (by simp;omega) (by simp;omega),Y]
   simp only[ret]
   rw[BD zO zO]
  dsimp only
  rw[st,ei,←hj]
  simp only[F1,show decide ((i:Int)<64)=true by simp;omega,cond_true]
  by_cases h0:i<u.length
  rw[show decide ((i:Int)<(u.length:Int))=true by simp;omega]
  simp only[cond_true]
  rw[B3 (k:=i) 0 rfl h0,Y]
  rw[show decide ((i:Int)<(u.length:Int))=false by simp;omega]
  simp only[cond_false]
  rw[show u.getD i 0=0 by simp[List.getD_eq_getElem?_getD,List.getElem?_eq_none (show u.length≤i by omega)]]
  simp only[F1,show decide (((64:Nat):Int)<64)=false by decide,cond_false,Jl]
 unfold IQ E0 EP
 by_cases h0:64<key.length
 rw[show decide (64<(key.length:Int))=true by simp;omega,if_pos h0]
 simp only[cond_true]
 rw[dR T key hT hs hm hm2,Y]
 exact h1 _ (by rw[Ht];omega)
 rw[show decide (64<(key.length:Int))=false by simp;omega,if_neg h0]
 simp only[cond_false]
 exact h1 _ zO
theorem jV(T:List UInt32)(key m:List UInt8)(hT:T.length=64)(hk:key.length≤1048576)(hs:m.length≤1048576){n:Nat}(hm:2097152<n):Hh n T key m=some (MV T key m):=by
 unfold Hh LB
 have l1:=Jy T key 54
 have l2:=Jy T key 92
 rw[fk T key 54 hT zO zO zO,Y,CM zO,Y,fk T key 92 hT zO zO zO,Y,dR T _ hT (by simp;omega) zO (by simp;omega),Y,
  CM (by rw[Ht];omega),Y,Y]
 have e:Aq [E0 T key 54++m,E0 T key 92++K0 T (E0 T key 54++m)] 1=some (E0 T key 92++K0 T (E0 T key 54++m)):=rfl
 rw[e,Y,dR T _ hT (by rw[List.length_append,Ht];omega) zO (by rw[List.length_append,Ht];omega),Y]
 unfold MV
 exact Eq.refl _
theorem k5(T:List UInt32)(key label:List UInt8)(hT:T.length=64)(hk:key.length≤1048576)(hl:label.length≤1000000){n:Nat}(hm:2097152<n):GM n T key label 32=some (FU T key label,0):=by
 have hml:∀m,(MV T key m).length=32:=fun m=>FS T key m
 have hmac:Hh n T key ([]++label++[HO 1])=some (FU T key label):=by
  rw[jV T key _ hT hk (by simp;omega) hm]
  rfl
 have he:(FU T key label).length=32:=hml _
 generalize FU T key label=x at hmac he ⊢
 unfold GM Hi
 rw[show((decide ((32:Int)<0))||(decide ((8160:Int)<32)))=false by decide]
 simp only[cond_false]
 obtain⟨m,rfl⟩:∃m,n=m+1+1:=⟨n-2,by omega⟩
 rw[Ua]
 simp only[E1]
 rw[show decide (((([]:List UInt8).length:Nat):Int)<32)=true by decide]
 simp only[cond_true]
 rw[CM (by simp;omega),Y,CM (by simp;omega),Y,hmac,Y,CM (by simp;omega),Y]
 rw[A7,List.nil_append,Ua]
 simp only[E1]
 rw[show decide (((x.length:Nat):Int)<32)=false by rw[he];decide]
 simp only[cond_false,Hm]
 rw[show JB x 0 32=some ((x.drop 0).take (32-0))from Nc (p:=0) (q:=32) rfl rfl zO zO,Y]
 simp[List.take_of_length_le,he]
end

/- The references of keys, padding and heads answer as the plain ones. No program in sight. Condition: at most 2^20 keys. -/
section
/-! ### Numbers as bytes -/
theorem VL(x:UInt64)(w:Nat)(hw:w≤8){n:Nat}(hm:8<n):C0 n x (w:Int)=some (BS x w):=by
 unfold C0 KE
 have hS:∀i,i<8→shr64 x (8*(i+1))=shr64 x (8*i) / 256:=fun i hi=>by
  apply UInt64.toNat_inj.1
  rw[UInt64.toNat_div,JF _ _ zO,JF _ _ zO,show(256:UInt64).toNat=2^8 from rfl,Nat.div_div_eq_div_mul,←Nat.pow_add,show 8*(i+1)=8*i+8 by omega]
 have hP:∀i,BS x (i+1)=BS x i++[(shr64 x (8*i)).toUInt8]:=QC x
 have h0:shr64 x (8*0)=x:=by rw[Nat.mul_zero,dC]
 have hl:=A2 x
 have hp0:BS x 0=[]:=rfl
 generalize BS x=Pt at hP hl hp0 ⊢
 generalize hq:(fun i=>shr64 x (8*i))=S
 have hS':∀i,i<8→S (i+1)=S i / 256:=fun i hi=>by rw[←hq];exact hS i hi
 have hP':∀i,Pt (i+1)=Pt i++[(S i).toUInt8]:=fun i=>by rw[hP,←hq]
 have h0':S 0=x:=by rw[←hq];exact h0
 clear hS hP h0 hq
 refine(congrArg (Be _ n) ?_).trans (Cq (fun i=>(S i,Pt i,(i:Int))) w (fun i hi k=>?_) (fun k=>?_) zO)
 simp[h0',hp0]
 have ei:((i+1:Nat):Int)=(i:Int)+1:=by omega
 dsimp only
 rw[ei,hP',hS' i zO]
 simp only[Gi,show decide ((i:Int)<(w:Int))=true by simp;omega,cond_true]
 have hlp:=hl i
 rw[CM (by simp;omega),Y,show N1 (S i) 256=some (S i / 256)from rfl,Y,A7,BD zO zO]
 simp only[Gi,show decide ((w:Int)<(w:Int))=false by simp,cond_false,KD]
/-! ### Heads -/
theorem jk(h:CL){n:Nat}(hm:8<n):JD n h=some (Gh h):=by
 unfold JD
 rw[show C0 n h.boot.toUInt64 4=some (BS h.boot.toUInt64 4)from VL _ 4 zD hm,Y,show C0 n h.seq 8=some (BS h.seq 8)from VL _ 8 zD hm,Y,CM (by simp[A2]),Y]
 unfold Gh
 exact Eq.refl _
theorem oG(h:CL){n:Nat}(hm:8<n):Kw n h=some (NU h):=by
 unfold Kw
 have p4:∀x:UInt64,C0 n x 4=some (BS x 4):=fun x=>VL _ 4 zD hm
 have p8:∀x:UInt64,C0 n x 8=some (BS x 8):=fun x=>VL _ 8 zD hm
 rw[p4,Y,p4,Y,CM (by simp[A2]),Y,p4,Y,CM (by simp[A2]),Y,p8,Y,CM (by simp[A2]),Y,CM (by simp[A2]),Y]
 simp[NU,Gh]
/-! ### Keys -/
theorem gE(T:List UInt32)(k:BC)(hT:T.length=64)(hr:Cs [k]=true){n:Nat}(hm:2097152<n):IH n T k=some (IY T k IR,IY T k IS,0):=by
 have hl:=UI hr
 unfold IH
 rw[bU [k] zS zO,Y,hr]
 simp only[Bool.not_true,cond_false]
 rw[CM zS,Y,k5 T k.secret _ hT zO zS hm,Y,CM zS,Y,k5 T k.secret _ hT zO zS hm,Y]
 exact Eq.refl _
/-! ### Padding -/
theorem oE(s:List UInt8){n:Nat}(hm:256<n):Ku n s=some (NB s):=by
 unfold Ku NB
 by_cases h:198<s.length
 rw[show decide (198<(s.length:Int))=true by simp;omega,if_pos h]
 simp only[cond_true]
 rw[show decide (198<(s.length:Int))=false by simp;omega,if_neg h]
 simp only[cond_false]
 rw[show RX (s.length:Int) 256=some ((s.length / 256:Nat):Int)from c7 (b:=256) zD zO,Y,show Pd (s.length:Int) 256=some ((s.length%256:Nat):Int)from S4 (b:=256) zD,Y,CM (by simp;omega),Y]
 have hp:Iw s=[HO ((s.length / 256:Nat):Int),HO ((s.length%256:Nat):Int)]++s++List.replicate (198-s.length) 0:=by
  unfold Iw
  congr 3
  simp only[HO]
  congr 2
  omega
 rw[hp]
 have hl:([HO ((s.length / 256:Nat):Int),HO ((s.length%256:Nat):Int)]++s).length=s.length+2:=by simp
 generalize [HO ((s.length / 256:Nat):Int),HO ((s.length%256:Nat):Int)]++s=u at hl
 unfold KH
 refine(congrArg (Be _ n) ?_).trans (Cq (fun i=>u++List.replicate i 0) (198-s.length) (fun i hi k=>?_) (fun k=>?_) zO)
 simp
 have st:u++List.replicate (i+1) (0:UInt8)=u++List.replicate i 0++[0]:=by rw[List.replicate_succ',List.append_assoc]
 have hl2:(u++List.replicate i (0:UInt8)).length=s.length+2+i:=by simp;omega
 rw[st]
 generalize u++List.replicate i (0:UInt8)=y at hl2
 unfold GX
 rw[show decide ((y.length:Int)<200)=true by simp;omega]
 simp only[cond_true]
 rw[CM (by simp;omega),Y]
 have hl2:(u++List.replicate (198-s.length) (0:UInt8)).length=200:=by simp;omega
 generalize u++List.replicate (198-s.length) (0:UInt8)=y at hl2
 unfold GX
 rw[show decide ((y.length:Int)<200)=false by simp;omega]
 simp only[cond_false]
 unfold KI
 exact Eq.refl _
end

/- The references of sealing and opening answer as the plain ones. No program in sight. Condition: at most 2^20 keys. -/
section
theorem jH(T:List UInt32)(k:BC)(h:CL)(body:List UInt8)(hT:T.length=64)(hr:Cs [k]=true)(hb:body.length=200){n:Nat}(hm:2097152<n):I0 n T k h body=some (JJ T k h body):=by
 unfold I0
 rw[gE T k hT hr hm,Y,jk h zO,Y,qW _ _ _ (Jo T k IR) (HP h) zO zO zO,Y,oG h zO,Y,CM (by rw[GW,EG];omega),Y]
 rfl
theorem np(T:List UInt32)(l:List BC)(h:CL)(s:List UInt8)(hT:T.length=64)(hl:l.length≤1048576){n:Nat}(hm:2097152<n):Jz n T l h s=some (FV T l h s):=by
 unfold Jz
 rw[Z6 l h.gen hl zO,Y]
 unfold FV
 by_cases hf:(Cf l h.gen).2=0
 obtain⟨_,_,_,hr⟩:=QZ hf
 rw[show(!decide ((Cf l h.gen).2=0))=false by simp[hf],if_neg (by simp[hf])]
 simp only[cond_false]
 rw[oE s zO,Y]
 by_cases h1:198<s.length
 rw[if_pos h1,show NB s=([],50) by unfold NB;rw[if_pos h1]]
 rfl
 rw[if_neg h1,show NB s=(Iw s,0) by unfold NB;rw[if_neg h1]]
 have hp:=Ep (s:=s) zO
 rw[show(!decide (((Iw s,(0:Int)):List UInt8×Int).2=0))=false from rfl]
 simp only[cond_false]
 have hbl:=Fv T (Cf l h.gen).1 h hp
 rw[jH T _ h _ hT hr hp hm,Y,gE T _ hT hr hm,Y]
 dsimp only
 rw[jV T _ _ hT (by rw[Jo];omega) (by rw[hbl];omega) hm,Y,CM (by rw[hbl,FS];omega),Y]
 unfold H6
 exact Eq.refl _
 rw[show(!decide ((Cf l h.gen).2=0))=true by simp[hf],if_pos hf]
 simp only[cond_true]
end

/- Plain laws: which pages the answer takes for right. No program's walk in sight. Condition: as each says. -/
section
theorem d9(x:UInt64)(w:Nat)(hw:w≤8){n:Nat}(hm:8<n):Ca n x (w:Int)=some (BS x w):=
 (show Ca n x (w:Int)=C0 n x (w:Int)from rfl).trans (VL x w hw hm)
theorem fW(r:Af):E7 r=some (C6 r):=by
 unfold E7 C6
 rw[A7]
theorem fx(r:Af):II r=some (Jv r):=by
 unfold II Jv
 rw[A7]
theorem cG(c:BN):Do c=some (Hj c):=by
 by_cases hlev:c.lev<0∨31<c.lev
 unfold Do Hj
 rw[show(decide (c.lev<0)||decide (31<c.lev))=true by simpa using hlev]
 rfl
 obtain⟨L,h⟩:∃L:Nat,c.lev=(L:Int):=⟨c.lev.toNat,by omega⟩
 have hL:L≤31:=by omega
 have hmx:decide (max c.x c.y<2147483648)=(decide (c.x.toNat<2147483648)&&decide (c.y.toNat<2147483648)):=by
  rw[Bool.eq_iff_iff]
  simp only[Bool.and_eq_true,decide_eq_true_eq,UInt32.lt_iff_toNat_lt,Hz]
  have h6:(2147483648:UInt32).toNat=2147483648:=rfl
  omega
 have hge:∀x:UInt32,decide ((2147483648:UInt32)≤x) = !decide (x.toNat<2147483648):=fun x=>by
  rw[Bool.eq_iff_iff]
  simp only[Bool.not_eq_true',decide_eq_true_eq,decide_eq_false_iff_not,UInt32.le_iff_toNat_le]
  have h6:(2147483648:UInt32).toNat=2147483648:=rfl
  omega
 have z:∀x:UInt32,decide (x.toUInt64%shl64 1 L=0)=decide (x.toNat%2^L=0):=fun x=>by
  rw[decide_eq_decide,←UInt64.toNat_inj,UInt64.toNat_mod,UInt32.toNat_toUInt64,KW hL]
  rfl
 have hor:decide ((c.x ||| c.y) &&& (shl64 1 L-1).toUInt32=0)=(decide (c.x.toNat%2^L=0)&&decide (c.y.toNat%2^L=0)):=by
  rw[Bool.eq_iff_iff]
  simp only[Bool.and_eq_true,decide_eq_true_eq]
  rw[←UInt32.toNat_inj,UInt32.toNat_and,dg hL,UInt32.toNat_or,Nat.and_two_pow_sub_one_eq_mod,Nat.or_mod_two_pow]
  exact Nat.or_eq_zero_iff
 unfold Do Hj
 rw[hge,hge,hmx,h,Int.toNat_natCast,hor,decide_eq_false (show ¬(L:Int)<0 by omega),decide_eq_false (show ¬31<(L:Int) by omega),VD h hL,Y,aM hL,Y,Y,aM hL,Y,z,z]
 generalize decide (c.x.toNat<2147483648)=A
 generalize decide (c.y.toNat<2147483648)=B
 generalize decide (c.x.toNat%2^L=0)=C
 generalize decide (c.y.toNat%2^L=0)=D
 cases A<;>cases B<;>cases C<;>cases D<;>rfl
theorem Wn(x:Bj)(hk:x.kids.length≤1048576):∀(d k m:Nat),k+d=x.kids.length→d<m→EI x m (k:Int)=some ((x.kids.drop k).all C6&&Hj ⟨x.cx,x.cy,x.lev⟩)
 | _,_,0,_,h=>absurd h (Nat.not_lt_zero _)
 | 0,k,m+1,hkd,_=>by
  show Dc x (EI x m) _=_
  unfold Dc In
  rw[decide_eq_false zO,cond_false,cG,Y,show x.kids.drop k=[]from List.drop_eq_nil_of_le zO]
  rfl
 | d+1,k,m+1,hkd,hm=>by
  have hkl:k<x.kids.length:=by omega
  have n1:Aq x.kids (k:Int)=some x.kids[k]:=by rw[DK rfl,List.getElem?_eq_getElem hkl]
  have ih:=Wn x hk d (k+1) m zO zO
  show Dc x (EI x m) _=_
  unfold Dc
  rw[decide_eq_true zO,cond_true,n1,Y,fW,Y,A7,BD zO zO,show((k:Int)+1)=((k+1:Nat):Int) by omega,ih,List.drop_eq_getElem_cons hkl,List.all_cons]
  cases C6 x.kids[k]<;>rfl
theorem Pz{n:Nat}(x:Bj)(hr:x.rows.length<n)(hk:x.kids.length<n)(hb:x.rows.length≤1048576)(hc:x.kids.length≤1048576):JE n x=some (DI x):=by
 unfold JE DI
 cases hk1:decide (x.kind=1)with
 | true=>
  rw[cond_true,cond_true,Ug hr hb,Y,fW,Y,fx,Y,T9,Y,Ln,Y,A7]
  generalize decide ((x.rows.length:Int)≤4)=A
  generalize CZ x.rows=B
  generalize C6 ⟨x.npage,x.ntag⟩=C
  generalize Jv ⟨x.npage,x.ntag⟩=D
  generalize decide ((x.kids.length:Int)=0)=E9
  generalize (decide (x.cx=0)&&(decide (x.cy=0)&&(decide (x.lev=0)&&true)))=F
  cases A<;>cases B<;>cases C<;>cases D<;>cases E9<;>cases F<;>rfl
 | false=>
  rw[cond_false,cond_false,fx,Y,T9,Y,show EI x n 0=_ from Wn x hc x.kids.length 0 n zO hk,List.drop_zero]
  rw[show decide (0<(x.rows.length:Int)) = !decide ((x.rows.length:Int)=0) by rw[Bool.eq_iff_iff];simp only[Bool.not_eq_true',decide_eq_true_eq,decide_eq_false_iff_not];omega,show decide ((x.kids.length:Int)<2) = !decide (2≤(x.kids.length:Int)) by rw[Bool.eq_iff_iff];simp,show decide (4<(x.kids.length:Int)) = !decide ((x.kids.length:Int)≤4) by rw[Bool.eq_iff_iff];simp,show decide (x.lev<1) = !decide (0<x.lev) by rw[Bool.eq_iff_iff];simp;omega]
  generalize decide (x.kind=2)=A
  generalize decide ((x.rows.length:Int)=0)=B
  generalize Jv ⟨x.npage,x.ntag⟩=C
  generalize decide (2≤(x.kids.length:Int))=D
  generalize decide ((x.kids.length:Int)≤4)=E9
  generalize decide (0<x.lev)=F
  generalize x.kids.all C6=G
  generalize Hj ⟨x.cx,x.cy,x.lev⟩=I
  cases A<;>cases B<;>cases C<;>cases D<;>cases E9<;>cases F<;>cases G<;>cases I<;>rfl
end

/- Plain laws: the answer's texts of pages are the program's. No program's walk in sight. Condition: rounds enough, and pages that are not out of bounds. -/
section
theorem Sk{x:UInt64}{n:Nat}(hm:8<n):Ca n x 1=some (BS x 1):=d9 x 1 zO hm
theorem Oq{x:UInt64}{n:Nat}(hm:8<n):Ca n x 4=some (BS x 4):=d9 x 4 zO hm
theorem lD{x:UInt64}{n:Nat}(hm:8<n):Ca n x 8=some (BS x 8):=d9 x 8 zO hm
theorem RS{r:Af}(h:r.tag.length=32):C5 r=BS r.page.toUInt64 4++r.tag:=by
 unfold C5
 rw[h]
 simp
theorem YA{n:Nat}(x:Bj)(hn:8<n)(hb:x.kids.length≤4):∀(T S:List Af) (s:List UInt8),x.kids=S++T→(∀r∈T,r.tag.length=32)→s.length+36*T.length≤100000→∀m,T.length<m→
  D0 n x m (s,(S.length:Int))=some (s++(T.map C5).flatten,0)
 | _,_,_,_,_,_,0,h=>absurd h (Nat.not_lt_zero _)
 | [],S,s,hS,_,_,m+1,_=>by
  have hl:=congrArg List.length hS
  simp only[List.append_nil]at hl
  show DN n x (D0 n x m) _ _=_
  unfold DN Hn
  dsimp only
  rw[decide_eq_false zO,cond_false]
  simp
 | r::T,S,s,hS,ht,hl,m+1,hm=>by
  have hlen:=congrArg List.length hS
  simp only[List.length_append,List.length_cons]at hlen hl hm
  have n1:Aq x.kids (S.length:Int)=some r:=by
   rw[DK rfl,hS]
   simp
  have h32:=ht r zS
  have ih:=YA x hn hb T (S++[r]) (s++C5 r) (by rw[hS];simp) (fun q hq=>ht q (by simp[hq])) (by rw[RS h32];simp[A2,h32];omega) m zO
  show DN n x (D0 n x m) _ _=_
  unfold DN
  dsimp only
  rw[decide_eq_true zO,cond_true,n1,Y,Oq hn,Y,CM (by simp[A2];omega),Y,Y,CM (by simp[A2,h32];omega),Y,A7,BD zO zO]
  rw[show((S++[r]).length:Int)=(S.length:Int)+1 by simp only[List.length_append,List.length_singleton];omega]at ih
  rw[show s++BS r.page.toUInt64 4++r.tag=s++C5 r by rw[RS h32,List.append_assoc],ih]
  simp
theorem XZ{n:Nat}(x:Bj)(hn:8<n)(hb:x.rows.length≤4):∀(T S:List AN) (s:List UInt8),x.rows=S++T→(∀r∈T,r.txt.length≤16)→s.length+33*T.length≤100000→∀m,T.length<m→
  Dv n x m (s,(S.length:Int))=some (s++(T.map Cx).flatten,0)
 | _,_,_,_,_,_,0,h=>absurd h (Nat.not_lt_zero _)
 | [],S,s,hS,_,_,m+1,_=>by
  have hl:=congrArg List.length hS
  simp only[List.append_nil]at hl
  show DJ n x (Dv n x m) _ _=_
  unfold DJ Hp
  dsimp only
  rw[decide_eq_false zO,cond_false]
  simp
 | r::T,S,s,hS,ht,hl,m+1,hm=>by
  have hlen:=congrArg List.length hS
  simp only[List.length_append,List.length_cons]at hlen hl hm
  have n1:Aq x.rows (S.length:Int)=some r:=by
   rw[DK rfl,hS]
   simp
  have h16:=ht r zS
  have ih:=XZ x hn hb T (S++[r]) (s++Cx r) (by rw[hS];simp) (fun q hq=>ht q (by simp[hq])) (by unfold Cx;simp[A2];omega) m zO
  show DJ n x (Dv n x m) _ _=_
  unfold DJ
  dsimp only
  rw[decide_eq_true zO,cond_true,n1,Y,lD hn,Y,CM (by simp[A2];omega),Y,Oq hn,Y,CM (by simp[A2];omega),Y,Oq hn,Y,CM (by simp[A2];omega),Y,
   Sk hn,Y,CM (by simp[A2];omega),Y,CM (by simp[A2];omega),Y,A7,BD zO zO]
  rw[show((S++[r]).length:Int)=(S.length:Int)+1 by simp only[List.length_append,List.length_singleton];omega]at ih
  rw[show s++BS r.id 8++BS r.x.toUInt64 4++BS r.y.toUInt64 4++BS (BK (r.txt.length:Int)) 1++r.txt=s++Cx r by unfold Cx;simp,ih]
  simp
theorem Y4{n:Nat}{x:Bj}(hn:10≤n)(h:DI x=true):Du n x=some (EC x,0):=by
 by_cases hk:x.kind=1
 obtain⟨h1,h2,h3,h4,h5,h6,h7⟩:=JU h hk
 unfold Du
 rw[Pz x zO (by rw[h4];simp;omega) zO (by rw[h4];simp),Y,h,Bool.not_true,cond_false,show decide (x.kind=2)=false by rw[hk];rfl,cond_false]
 have run:∀tag:List UInt8,tag.length=32→tag=x.ntag++List.replicate (32-x.ntag.length) 0→Ei n x tag=some (EC x,0):=by
  intro tag ht he
  unfold Ei
  rw[Sk zO,Y,CM (by simp[A2]),Y,Oq zO,Y,CM (by simp[A2]),Y,CM (by simp[A2,ht]),Y]
  have:=XZ (n:=n) x zO zO x.rows [] ([1]++BS (BK (x.rows.length:Int)) 1++BS x.npage.toUInt64 4++tag) rfl (MI h6) (by simp[A2,ht];omega) n zO
  refine(show Dv n x n _=_ from this).trans ?_
  unfold EC C5
  rw[show decide (x.kind=2)=false by rw[hk];rfl,cond_false,hk,he]
  rw[show BS (BK 1) 1=[1]from rfl]
  simp
 unfold HY
 rcases h7 with h7 | h7
 rw[h7.2,show decide (([]:List UInt8)=[])=true from rfl,cond_true]
 have:Ur 1 32 (0:UInt8)=some (List.replicate 32 0):=if_pos ⟨by omega,by decide,by omega⟩
 rw[this,Y]
 exact run _ zS (by rw[h7.2];rfl)
 have h32:=(Fr h7).1
 simp only at h32
 rw[show decide (x.ntag=[])=false from decide_eq_false (fun e=>by rw[e]at h32;simp at h32),cond_false]
 exact run _ h32 (by rw[h32];simp)
 obtain⟨hk2,h1,h2,h3,h4,h5,h6,h7,h8⟩:=IK h hk
 unfold Du
 rw[Pz x (by rw[h2];simp;omega) zO (by rw[h2];simp) zO,Y,h,Bool.not_true,cond_false,show decide (x.kind=2)=true by rw[hk2];rfl,cond_true,
  Sk zO,Y,CM (by simp[A2]),Y,Sk zO,Y,CM (by simp[A2]),Y,Oq zO,Y,CM (by simp[A2]),Y,Oq zO,Y,CM (by simp[A2]),Y]
 have:=YA (n:=n) x zO zO x.kids [] ([2]++BS (BK (x.kids.length:Int)) 1++BS (BK x.lev) 1++BS x.cx.toUInt64 4++BS x.cy.toUInt64 4) rfl (fun r hr=>(Fr (h1 r hr)).1) (by simp[A2];omega) n zO
 refine(show D0 n x n _=_ from this).trans ?_
 unfold EC
 rw[show decide (x.kind=2)=true by rw[hk2];rfl,cond_true,hk2,show BS (BK 2) 1=[2]from rfl]
 simp
theorem aA{n:Nat}{x:Bj}(hr:x.rows.length<n)(hk:x.kids.length<n)(hb:x.rows.length≤1048576)(hc:x.kids.length≤1048576)(h:DI x=false):Du n x=some ([],90):=by
 unfold Du
 rw[Pz x hr hk hb hc,Y,h]
 rfl
theorem Xx{n:Nat}{x:Bj}(hn:10≤n)(hr:x.rows.length<n)(hk:x.kids.length<n)(hb:x.rows.length≤1048576)(hc:x.kids.length≤1048576):Du n x=Dj n x:=by
 cases h:DI x with
 | true=>rw[Y4 hn h,O7 hn h]
 | false=>rw[aA hr hk hb hc h,Vh hr hk zO zO h]
end

/- The reference's device does what the program's does: writing, putting, reading. No program's walk in sight. -/
section
/-! ### The reference's operations -/
def em(r:BP):Bool := !(decide (r.left=0)||r.off)
def UE(r:BP):BP:={ r with left:=if 0<r.left then wI (r.left-1)else r.left }
def WH(r:BP):BP:={ r with off:=true }
theorem pY(r:BP):Fs r=some (if em r then(0,UE r)else(71,WH r)):=by
 obtain⟨bl,pd,bd,rc,rt,rb,left,off⟩:=r
 unfold Fs Ea EX
 by_cases h0:left=0
 subst h0;cases off<;>simp[em,WH]
 by_cases h1:0<left<;>cases off<;>simp[em,UE,WH,h0,h1]
theorem dW(r:BP)(p:UInt32)(h:r.blk.length≤4096):GB r p=some (decide (p.toNat<r.blk.length)):=by
 unfold GB
 rw[A7]
 congr 1
 rw[decide_eq_decide,UInt64.lt_iff_toNat_lt]
 have:(BK (r.blk.length:Int)).toNat=r.blk.length:=by simp only[BK,UInt64.toNat_ofNat'];omega
 rw[this,UInt32.toNat_toUInt64]
theorem W4{i:Nat}(h:i<4294967296):(UInt32.ofNat i).toNat=i:=by simp;omega
structure Xc(N:Nat)(d:A8):Prop where
 blen:d.blocks.length=N
 b256:∀s∈d.blocks,s.length=256
 knd:(d.pend.map (·.1)).Nodup
 klt:∀q∈d.pend,q.1.toNat<N∧q.2.length=256
theorem Xc.plen{N:Nat}{d:A8}(I:Xc N d):d.pend.length≤N:=by
 have:=PE I.knd (fun k hk=>by
  obtain⟨q,hq,rfl⟩:=List.mem_map.1 hk
  exact(I.klt q hq).1)
 simpa using this
theorem Xc.of{N:Nat}{d d':A8}(I:Xc N d)(h1:d'.blocks=d.blocks)(h2:d'.pend=d.pend):Xc N d':=⟨by rw[h1];exact I.blen,by rw[h1];exact I.b256,by rw[h2];exact I.knd,by rw[h2];exact I.klt⟩
theorem Xc.put{N:Nat}{d d':A8}{p:UInt32}{s:List UInt8}(I:Xc N d)(hp:p.toNat<N)(hs:s.length=256)(h1:d'.blocks=d.blocks)(h2:d'.pend=Ii d.pend p s):Xc N d':=
 ⟨by rw[h1];exact I.blen,by rw[h1];exact I.b256,by rw[h2];exact Ul I.knd,by
  rw[h2]
  intro q hq
  rcases List.mem_cons.1 hq with rfl | hq
  exact⟨hp,hs⟩
  exact I.klt q (List.mem_filter.1 hq).1⟩
/-! ### The two devices -/
structure Us(N:Nat)(d:A8)(r:BP):Prop where
 inv:Xc N d
 nle:N≤4096
 blk:r.blk=d.blocks
 plen:r.pnd.length=N
 pnd:∀p:UInt32,p.toNat<N→Cm d.pend p=if r.pnd.getD p.toNat []=[]then none else some (r.pnd.getD p.toNat [])
 blen:r.bads.length=N
 bad:∀p:UInt32,p.toNat<N→(Cm d.bad p).getD false=r.bads.getD p.toNat false
 bnd:(d.bad.map (·.1)).Nodup
 blt:∀q∈d.bad,q.1.toNat<N
 cnt:r.rcnt=d.rcnt
 tag:r.rtag=d.rtag
 boots:r.rboots=d.rboots
 off:r.off=d.off
 cut:d.isCut=true→0≤d.lasts∧d.lasts≤9223372036854775807∧r.left=d.lasts
 uncut:d.isCut=false→r.left = -1
variable {N:Nat}{d:A8}{r:BP}
theorem Us.rlen(R:Us N d r):r.blk.length=N:=by rw[R.blk];exact R.inv.blen
theorem Us.on(R:Us N d r):em r=Ty d:=by
 unfold em Ty
 rw[R.off]
 cases h:d.isCut
 rw[R.uncut h]
 simp
 obtain⟨h1,h2,h3⟩:=R.cut h
 rw[h3]
 simp
theorem Us.tick(R:Us N d r)(h:Ty d=true):Us N (Rv d) (UE r):=by
 have hs:(UE r).left=if 0<r.left then wI (r.left-1)else r.left:=rfl
 refine⟨R.inv.of rfl rfl,R.nle,R.blk,R.plen,R.pnd,R.blen,R.bad,R.bnd,R.blt,R.cnt,R.tag,R.boots,R.off,fun hc=>?_,fun hc=>?_⟩
 have hc':d.isCut=true:=hc
 obtain⟨h1,h2,h3⟩:=R.cut hc'
 have h0:d.lasts≠0:=fun e=>by simp[Ty,hc',e]at h
 have hl:(Rv d).lasts=d.lasts-1:=by
  show(if d.isCut then wI (d.lasts-1)else d.lasts)=_
  rw[hc',if_pos rfl,BD zO zO]
 rw[hl,hs,h3,if_pos zO,BD zO zO]
 exact⟨by omega,by omega,rfl⟩
 have hc':d.isCut=false:=hc
 rw[hs,R.uncut hc',if_neg zO]
theorem Us.dead(R:Us N d r):Us N (Tb d) (WH r):=
 ⟨R.inv.of rfl rfl,R.nle,R.blk,R.plen,R.pnd,R.blen,R.bad,R.bnd,R.blt,R.cnt,R.tag,R.boots,rfl,R.cut,R.uncut⟩
theorem Jm{α:Type}{l:List α}{i j:Nat}{a x:α}(hi:i<l.length):(l.set i a).getD j x=if i=j then a else l.getD j x:=by
 rw[List.getD_eq_getElem?_getD,List.getD_eq_getElem?_getD,List.getElem?_set]
 split
 rename_i h
 subst h
 simp
 rfl
theorem Us.write(R:Us N d r)(p:UInt32)(s:List UInt8):∃e d' r',Gg d p s=some (e,d')∧Cn r p s=some (e,r')∧Us N d' r':=by
 by_cases hp:p.toNat<N∧s.length=256
 obtain⟨h1,h2⟩:=hp
 have hp':p.toNat<d.blocks.length:=by rw[R.inv.blen];exact h1
 have hpl:=R.inv.plen
 have hn:=R.nle
 have hw:=Xb (d:=d) hp' h2 zO
 have hr:Cn r p s=some (if em r then(0,{ UE r with pnd:=r.pnd.set p.toNat s })else(71,WH r)):=by
  unfold Cn
  have hc:(!decide (p.toNat<r.blk.length) || !decide ((s.length:Int)=256))=false:=by
   rw[R.rlen,decide_eq_true h1,decide_eq_true zO]
   rfl
  rw[dW r p (by rw[R.rlen];omega),Y,hc,cond_false,pY,Y]
  cases h:em r
  rfl
  rw[if_pos rfl,if_pos rfl]
  show cond (decide ((0:Int)=0)) _ _=_
  rw[decide_eq_true rfl,cond_true]
  have hl:p.toNat<(UE r).pnd.length:=by show p.toNat<r.pnd.length;rw[R.plen];exact h1
  rw[JY,List.getElem?_eq_getElem hl,Y,HC rfl hl,Y]
  rfl
 rw[R.on]at hr
 cases h:Ty d
 rw[kR h]at hw
 rw[h]at hr
 exact⟨_,_,_,hw,hr,R.dead⟩
 rw[gR h]at hw
 rw[h]at hr
 have T:=R.tick h
 refine⟨_,_,_,hw,hr,⟨T.inv.put h1 h2 rfl rfl,R.nle,R.blk,by rw[List.length_set];exact R.plen,fun q hq=>?_,R.blen,R.bad,R.bnd,R.blt,R.cnt,R.tag,R.boots,R.off,T.cut,T.uncut⟩⟩
 have hne:s≠[]:=fun e=>by rw[e]at h2;simp at h2
 show Cm (Ii d.pend p s) q=if(r.pnd.set p.toNat s).getD q.toNat []=[]then none else some ((r.pnd.set p.toNat s).getD q.toNat [])
 rw[RA,Jm (by rw[R.plen];exact h1)]
 by_cases e:p=q
 subst e
 rw[if_pos rfl,if_pos rfl,if_neg hne]
 rw[if_neg e,if_neg (fun h=>e (UInt32.toNat_inj.1 h))]
 exact R.pnd q hq
 have hb:¬p.toNat<d.blocks.length∨s.length≠256:=by rw[R.inv.blen];omega
 refine⟨_,_,_,dS hb,?_,R⟩
 unfold Cn
 have hc:(!decide (p.toNat<r.blk.length) || !decide ((s.length:Int)=256))=true:=by
  rw[R.rlen]
  simp only[Bool.or_eq_true,Bool.not_eq_true',decide_eq_false_iff_not]
  omega
 rw[dW r p (by rw[R.rlen];exact R.nle),Y,hc,cond_true]
theorem Us.holds(R:Us N d r)(p:UInt32)(hp:p.toNat<N):Ec r p=some (Jp d p):=by
 unfold Ec Jp
 have hl:p.toNat<r.pnd.length:=by rw[R.plen];exact hp
 have hb:p.toNat<r.blk.length:=by rw[R.rlen];exact hp
 have g:=R.pnd p hp
 rw[TC _ hl]at g
 rw[JY,List.getElem?_eq_getElem hl,Y]
 by_cases e:r.pnd[p.toNat]=[]
 rw[if_pos e]at g
 rw[g,decide_eq_true e,JY,List.getElem?_eq_getElem hb,Y]
 simp only[Bool.not_true,cond_false,Option.getD_none]
 rw[←R.blk,TC _ hb]
 rfl
 rw[if_neg e]at g
 rw[g,decide_eq_false e]
 rfl
def TK(N:Nat)(d:A8):List (List UInt8):=(List.range N).map fun i=>Jp d (UInt32.ofNat i)
theorem O5(i:Nat):Ds (i:Int)=UInt32.ofNat i:=by
 apply UInt32.toNat_inj.1
 simp only[Ds,UInt32.toNat_ofNat']
 omega
theorem Us.image(R:Us N d r){n:Nat}(hn:N<n):MH n d=some (TK N d)∧Eb n r=some (TK N d):=by
 have hN:=R.nle
 constructor
 unfold MH K2
 refine Cq (fun i=>((List.range i).map fun j=>Jp d (UInt32.ofNat j),(i:Int))) N ?_ ?_ hn
 intro i hi k
 have hin:=W4 (show i<4294967296 by omega)
 simp only[HJ]
 rw[R.inv.blen,decide_eq_true zO,cond_true,O5,YV (by rw[hin,R.inv.blen];exact hi),Y,B8 (by simp;omega) (by simp;omega),Y,BD zO zO,List.range_succ,List.map_append]
 rfl
 intro k
 simp only[HJ]
 rw[R.inv.blen,decide_eq_false zO,cond_false]
 rfl
 unfold Eb Es
 refine Cq (fun i=>((List.range i).map fun j=>Jp d (UInt32.ofNat j),(i:Int))) N ?_ ?_ hn
 intro i hi k
 have hin:=W4 (show i<4294967296 by omega)
 simp only[DO]
 rw[R.rlen,decide_eq_true zO,cond_true,O5,R.holds _ (by rw[hin];exact hi),Y,B8 (by simp;omega) (by simp;omega),Y,A7,BD zO zO,List.range_succ,List.map_append]
 rfl
 intro k
 simp only[DO]
 rw[R.rlen,decide_eq_false zO,cond_false]
 rfl
theorem dp(l:List (List UInt8)){n:Nat}(hn:l.length<n)(hl:l.length≤1048576):J5 n l l=some true:=by
 unfold J5
 rw[decide_eq_true rfl,Bool.not_true,cond_false]
 unfold Jg
 refine Cq (fun i=>(i:Int)) l.length ?_ ?_ hn
 intro i hi k
 simp only[F0]
 rw[decide_eq_true zO,cond_true,JY,List.getElem?_eq_getElem hi,Y,Y,decide_eq_true rfl,Bool.not_true,cond_false,A7,BD zO zO]
 rfl
 intro k
 simp only[F0]
 rw[decide_eq_false zO,cond_false]
 rfl
/-! ### The law -/
def qr(N:Nat):A8:={ off:=false,isCut:=false,lasts:=0,counts:=0,blocks:=List.replicate N (List.replicate 256 0),pend:=[],bad:=[],rcnt:=0,rtag:=List.replicate 32 0,rboots:=0 }
def QJ(N:Nat):BP:={ blk:=List.replicate N (List.replicate 256 0),pnd:=List.replicate N [],bads:=List.replicate N false,rcnt:=0,rtag:=List.replicate 32 0,rboots:=0,left := -1,off:=false }
theorem jA{N n:Nat}(h4:4≤N)(hN:N≤4096)(hn:N<n):Gp n (N:Int)=some (some (QJ N),0):=by
 have z:∀k:Nat,k≤1048576→C3 (k:Int)=some (List.replicate k 0):=fun k hk=>by
  rw[Xf zO zO]
  simp
 have z1:=z 32 zO
 have z2:=z 256 zO
 clear z
 unfold Gp QJ
 have hc:(decide ((N:Int)<4)||decide (4096<(N:Int)))=false:=by simp;omega
 rw[hc,cond_false]
 show(C3 ((32:Nat):Int)).bind _=_
 rw[z1,Y]
 generalize List.replicate 32 (0:UInt8)=Y9
 generalize List.replicate 256 (0:UInt8)=Z9 at z2 ⊢
 unfold H7
 refine Cq (fun i=>(List.replicate i Z9,List.replicate i [],List.replicate i false,(i:Int))) N ?_ ?_ hn
 intro i hi k
 simp only[EL]
 rw[decide_eq_true zO,cond_true]
 show(C3 ((256:Nat):Int)).bind _=_
 rw[z2,Y,B8 (by simp;omega) (by simp;omega),Y,B8 (by simp;omega) (by simp;omega),Y,B8 (by simp;omega) (by simp;omega),Y,A7,BD zO zO]
 rw[←List.replicate_succ',←List.replicate_succ',←List.replicate_succ']
 rfl
 intro k
 simp only[EL]
 rw[decide_eq_false zO,cond_false]
 rfl
theorem qw{N:Nat}(hN:N≤4096):Us N (qr N) (QJ N):=by
 refine⟨⟨List.length_replicate ..,fun s hs=>?_,List.nodup_nil,(fun q hq=>by cases hq)⟩,hN,rfl,List.length_replicate ..,fun p hp=>?_,List.length_replicate ..,fun p hp=>?_,List.nodup_nil,(fun q hq=>by cases hq),rfl,rfl,rfl,rfl,(fun h=>by cases h),fun _=>rfl⟩
 rw[List.eq_of_mem_replicate hs,List.length_replicate]
 show Cm [] p=if(List.replicate N ([]:List UInt8)).getD p.toNat []=[]then none else some ((List.replicate N ([]:List UInt8)).getD p.toNat [])
 rw[TC _ (by simpa using hp)]
 simp[Cm]
 show(Cm ([]:List (UInt32×Bool)) p).getD false=(List.replicate N false).getD p.toNat false
 rw[TC _ (by simpa using hp)]
 simp[Cm]
end

/- Plain laws: the answer's vault and the program's, side by side. No program's walk in sight. Condition: rounds enough. -/
section
structure VR(N:Nat)(v:BX)(d:A8)(w:B2)(c:BP):Prop where
 dev:Us N d c
 ring:w.ring=v.ring
 rlen:v.ring.length≤1048576
 gen:w.gen=v.gen
 boot:w.boot=v.boot
 num:w.num=v.seals
 tlen:w.taken.length=N
 n4:4≤N
 low:∀i,i<2→w.taken.getD i false=true
 tak:∀p:UInt32,2≤p.toNat→p.toNat<N→w.taken.getD p.toNat false=Ce v p
 tnd:(v.taken.map (·.1)).Nodup
 tok:∀e∈v.taken,e.2=true∧2≤e.1.toNat∧e.1.toNat<N
variable {N n:Nat}{T:List UInt32}{v:BX}{d:A8}{w:B2}{c:BP}
theorem VR.seal(V9:VR N v d w c)(hT:T.length=64)(hn:2097152<n)(p:UInt32){s:List UInt8}(hs:s.length≤1048576):
  ∃t e v' d' w' c',KY T v d p s=some (t,e,v',d')∧EA n T w c p s=some (t,e,w',c')∧VR N v' d' w' c'∧v'.taken=v.taken∧w'.taken=w.taken:=by
 have hrl:=V9.rlen
 unfold KY EA
 rw[V9.ring,V9.gen,V9.boot,V9.num,np T v.ring _ s hT hrl hn,Y]
 have hso:T8 T v.ring ⟨p,v.gen,v.boot,v.seals⟩ s=some (FV T v.ring ⟨p,v.gen,v.boot,v.seals⟩ s):=if_pos ⟨by omega,by omega⟩
 rw[hso,Y]
 generalize FV T v.ring ⟨p,v.gen,v.boot,v.seals⟩ s=y
 cases he:decide (y.2=0)with
 | false=>
  rw[Bool.not_false,cond_true,cond_true]
  exact⟨_,_,v,d,w,c,rfl,rfl,V9,rfl,rfl⟩
 | true=>
  rw[Bool.not_true,cond_false,cond_false]
  obtain⟨e,d',c',h1,h2,h3⟩:=V9.dev.write p y.1
  rw[h1,h2,Y,Y]
  dsimp only
  have V':VR N { v with seals:=v.seals+1 } d' ⟨v.ring,v.gen,v.boot,v.seals+1,w.taken⟩ c':=⟨h3,rfl,V9.rlen,rfl,rfl,rfl,V9.tlen,V9.n4,V9.low,V9.tak,V9.tnd,V9.tok⟩
  cases he2:decide (e=0)with
  | false=>
   rw[Bool.not_false,cond_true,cond_true]
   exact⟨_,_,_,_,_,_,rfl,rfl,V',rfl,rfl⟩
  | true=>
   rw[Bool.not_true,cond_false,cond_false]
   have he0:=of_decide_eq_true he2
   have hy:y.1.length=256:=by
    by_cases hy:y.1.length=256
    exact hy
    have hb:=V9.dev.rlen
    have hN:=V9.dev.nle
    unfold Cn at h2
    rw[dW c p zO,Y,decide_eq_false (show ¬(y.1.length:Int)=256 by omega),Bool.not_false,Bool.or_true,cond_true]at h2
    have h5:=congrArg Prod.fst (Option.some.inj h2)
    simp only at h5
    omega
   have h6:Ui y.1=some (y.1.drop 224):=by
    unfold Ui
    rw[if_pos zO,hy]
   have h7:JB y.1 224 (y.1.length:Int)=some (y.1.drop 224):=(Nc (l:=y.1) (p:=224) (q:=y.1.length) rfl rfl zO zO).trans (congrArg some (List.take_of_length_le zS))
   rw[h6,h7,Y,Y]
   exact⟨_,_,_,_,_,_,rfl,rfl,V',rfl,rfl⟩
end

/- Plain laws: what is written in the answer's vault and in the program's. No program's walk in sight. Condition: rounds enough. -/
section
variable {N n:Nat}{T:List UInt32}{v:BX}{d:A8}{w:B2}{c:BP}
def jF(n:Nat)(T:List UInt32)(w:B2)(c:BP)(s:List UInt8)(a1:Int):Option (Af×Int×B2×BP):=
 (EA n T w c (Ds a1) s).bind fun y5=>
  cond (!decide (y5.2.1=0)) (some ((⟨0,[]⟩:Af),y5.2.1,y5.2.2.1,y5.2.2.2))
   ((Aq y5.2.2.1.taken a1).bind fun _=>(Ek y5.2.2.1.taken a1 true).bind fun l1=>some ((⟨Ds a1,y5.1⟩:Af),0,{ y5.2.2.1 with taken:=l1 },y5.2.2.2))
theorem VR.scan(V9:VR N v d w c)(s:List UInt8):∀(k i m:Nat),2≤i→i+k=N→k<m→
  (Dh v i k=[]∧Bt n T s m (w,c,0,[],(i:Int))=D2 w c 0 [])∨
  ∃j,i≤j∧j<N∧Dh v i k=[UInt32.ofNat j]∧Bt n T s m (w,c,0,[],(i:Int))=jF n T w c s (j:Int)
 | _,_,0,_,_,h=>absurd h (Nat.not_lt_zero _)
 | 0,i,m+1,_,hi,_=>by
  left
  refine⟨rfl,?_⟩
  have hl:=V9.tlen
  show CH n T s (Bt n T s m) _ _ _ _ _=_
  unfold CH
  dsimp only
  rw[decide_eq_false zO,cond_false]
 | k+1,i,m+1,h2i,hi,hm=>by
  have hl:=V9.tlen
  have hN:=V9.dev.nle
  have hil:i<w.taken.length:=by omega
  have hin:(UInt32.ofNat i).toNat=i:=by simp;omega
  have ht:=V9.tak (UInt32.ofNat i) (by rw[hin];exact h2i) (by rw[hin];omega)
  rw[hin,List.getD_eq_getElem?_getD,List.getElem?_eq_getElem hil]at ht
  simp only[Option.getD_some]at ht
  have n1:Aq w.taken (i:Int)=some w.taken[i]:=by rw[DK rfl,List.getElem?_eq_getElem hil]
  have e:Bt n T s (m+1) (w,c,0,[],(i:Int))=cond w.taken[i] (Bt n T s m (w,c,0,[],((i+1:Nat):Int))) (jF n T w c s (i:Int)):=by
   show CH n T s (Bt n T s m) _ _ _ _ _=_
   unfold CH
   dsimp only
   rw[decide_eq_true zO,cond_true,n1,Y,A7,BD zO zO]
   rfl
  rw[e,ht]
  unfold Dh
  cases hc:Ce v (UInt32.ofNat i)with
  | true=>
   rw[if_pos rfl,cond_true]
   rcases VR.scan V9 s k (i+1) m zO zO zO with h | ⟨j,h1,h2,h3,h4⟩
   exact .inl h
   exact .inr ⟨j,by omega,h2,h3,h4⟩
  | false=>
   right
   exact⟨i,Nat.le_refl _,by omega,by simp,by rw[cond_false]⟩
theorem VR.write(V9:VR N v d w c)(hT:T.length=64)(hn:2097152<n){s:List UInt8}(hs:s.length≤1048576):
  ∃r e v' d' w' c',Fa T v d s=some (r,e,v',d')∧Ey n T w c s=some (r,e,w',c')∧VR N v' d' w' c':=by
 have hl:=V9.tlen
 have hN:=V9.dev.nle
 have hbl:=V9.dev.inv.blen
 unfold Fa Ey
 rw[A7]
 cases h198:decide (198<(s.length:Int))with
 | true=>
  rw[cond_true,cond_true]
  exact⟨_,_,v,d,w,c,rfl,rfl,V9⟩
 | false=>
  have hfr:PC v d=some (Dh v 2 (N-2)):=by
   unfold PC
   rw[if_pos zO,hbl]
  rw[cond_false,cond_false,show WE v d=some ()from rfl,Y,hfr,Y]
  by_cases h2N:N<2
  have e1:N-2=0:=by omega
  rw[e1]
  obtain⟨m,rfl⟩:∃m,n=m+1:=⟨n-1,by omega⟩
  have e2:Bt (m+1) T s (m+1) (w,c,0,[],2)=D2 w c 0 []:=by
   show CH (m+1) T s (Bt (m+1) T s m) _ _ _ _ _=_
   unfold CH
   dsimp only
   rw[decide_eq_false zO,cond_false]
  rw[e2]
  exact⟨_,_,v,d,w,c,rfl,rfl,V9⟩
  rcases V9.scan (n:=n) (T:=T) s (N-2) 2 n zO zO zO with⟨h1,h2⟩ | ⟨j,hj2,hjN,h1,h2⟩
  rw[h1,show Bt n T s n (w,c,0,[],2)=_ from h2]
  exact⟨_,_,v,d,w,c,rfl,rfl,V9⟩
  have hjn:(UInt32.ofNat j).toNat=j:=by simp;omega
  rw[h1,show Bt n T s n (w,c,0,[],2)=_ from h2]
  show ∃r e v' d' w' c',Ew T v d s (UInt32.ofNat j)=some (r,e,v',d')∧_∧_
  unfold Ew jF
  have hne:decide (UInt32.ofNat j=0)=false:=decide_eq_false fun e=>by
   have:=congrArg UInt32.toNat e
   rw[hjn]at this
   have h0:(0:UInt32).toNat=0:=rfl
   omega
  obtain⟨t,e,v',d',w',c',g1,g2,V',g3,g4⟩:=V9.seal hT hn (UInt32.ofNat j) hs
  rw[hne,cond_false,g1,Y,O5,g2,Y]
  dsimp only
  cases he:decide (e=0)with
  | false=>
   rw[Bool.not_false,cond_true,cond_true]
   exact⟨_,_,_,_,_,_,rfl,rfl,V'⟩
  | true=>
   have hl':=V'.tlen
   have hmlen:v'.taken.length<9223372036854775807:=by
    have:=PE V'.tnd (N:=N) (fun k hk=>by
     obtain⟨q,hq,rfl⟩:=List.mem_map.1 hk
     exact(V'.tok q hq).2.2)
    simp at this
    omega
   rw[Bool.not_true,cond_false,cond_false,show Nx v'.taken (UInt32.ofNat j) true=some (Ii v'.taken (UInt32.ofNat j) true)from if_pos hmlen,Y,DK rfl,List.getElem?_eq_getElem zO,Y,HC rfl zO,Y]
   refine⟨_,_,_,_,_,_,rfl,rfl,⟨V'.dev,V'.ring,V'.rlen,V'.gen,V'.boot,V'.num,by simpa using V'.tlen,V'.n4,fun i hi=>?_,fun p hp2 hp=>?_,Ul V'.tnd,fun q hq=>?_⟩⟩
   rw[Jm zO,if_neg zO]
   exact V'.low i hi
   rw[Jm zO]
   unfold Ce
   rw[RA]
   by_cases hpj:j=p.toNat
   subst hpj
   rw[if_pos rfl,if_pos zS]
   rfl
   rw[if_neg hpj,if_neg (fun e=>hpj (by rw[←e,hjn]))]
   exact V'.tak p hp2 hp
   rcases List.mem_cons.1 hq with rfl | hq
   exact⟨rfl,by rw[hjn];exact hj2,by rw[hjn];exact hjN⟩
   exact V'.tok q (List.mem_filter.1 hq).1
theorem VR.give(V9:VR N v d w c)(p:UInt32):∃e v' w',Kb v d p=some (e,v')∧FK w c p=some (e,w')∧VR N v' d w' c:=by
 have hl:=V9.tlen
 have hN:=V9.dev.nle
 have hbl:=V9.dev.inv.blen
 have hu:(BK (w.taken.length:Int)).toNat=N:=by rw[hl,F5 zO]
 unfold Kb FK HZ Gq
 have e2:(2:UInt32).toNat=2:=rfl
 by_cases hp:2≤p.toNat∧p.toNat<N
 obtain⟨hp2,hpN⟩:=hp
 have ht:=V9.tak p hp2 hpN
 have n1:Aq w.taken (p.toNat:Int)=some (Ce v p):=by
  rw[DK rfl,List.getElem?_eq_getElem zO]
  rw[List.getD_eq_getElem?_getD,List.getElem?_eq_getElem zO]at ht
  simpa using ht
 rw[decide_eq_true (UInt32.le_iff_toNat_le.2 zO),decide_eq_false (fun h=>by have:=UInt32.lt_iff_toNat_lt.1 h;omega),decide_eq_false (fun h=>by have:=UInt64.le_iff_toNat_le.1 h;rw[hu,UInt32.toNat_toUInt64]at this;omega),n1]
 simp only[Ed,PJ,cond_true,cond_false,Y,A7,Bool.or_false,hbl]
 rw[decide_eq_true (show(p.toNat:Int)<(N:Int) by omega)]
 show ∃e v' w',(cond (!true || !Ce v p) _ _=_)∧_
 cases hta:Ce v p with
 | false=>exact⟨_,v,w,rfl,rfl,V9⟩
 | true=>
  rw[HC rfl zO]
  refine⟨_,_,_,rfl,rfl,⟨V9.dev,V9.ring,V9.rlen,V9.gen,V9.boot,V9.num,by simpa using hl,V9.n4,fun i hi=>?_,fun q hq2 hq=>?_,P6 V9.tnd,fun q hq=>V9.tok q (List.mem_filter.1 hq).1⟩⟩
  rw[Jm zO,if_neg zO]
  exact V9.low i hi
  rw[Jm zO]
  unfold Ce
  rw[iW]
  by_cases hpq:p.toNat=q.toNat
  rw[if_pos hpq,if_pos (UInt32.toNat_inj.1 hpq)]
  rfl
  rw[if_neg hpq,if_neg (fun e=>hpq (by rw[e]))]
  exact V9.tak q hq2 hq
 have hb:(decide (p<2)||decide (BK (w.taken.length:Int)≤p.toUInt64))=true:=by
  rw[Bool.or_eq_true,decide_eq_true_eq,decide_eq_true_eq,UInt32.lt_iff_toNat_lt,UInt64.le_iff_toNat_le,hu,UInt32.toNat_toUInt64]
  omega
 rw[hb]
 have hx:(Ed (decide (2≤p)) ((some (d.blocks.length:Int)).bind fun y1=>some (decide ((p.toNat:Int)<y1))))=some false:=by
  rw[Y,Ln]
  congr 1
  rw[Bool.and_eq_false_iff,decide_eq_false_iff_not,decide_eq_false_iff_not,UInt32.le_iff_toNat_le,hbl]
  omega
 refine⟨2,v,w,?_,rfl,V9⟩
 first
  | (rw[hx];rfl)
  | (rw[A7,hx];rfl)
  | (simp only[A7];rw[hx];rfl)
end

/- Plain laws: the vaults that the laws of layer 14 begin with, the answer's too. No program's walk in sight. Condition: 4 to 4096 blocks, rounds enough. -/
section
theorem aZ{N n:Nat}(h4:4≤N)(hN:N≤4096)(hn:4200≤n):∃w c,Fb n (N:Int)=some (some (v0,d0 N,w,c),true)∧VR N v0 (d0 N) w c:=by
 have hr:Gp n (N:Int)=some (some (QJ N),0):=jA h4 hN zO
 have hrl:(QJ N).blk.length=N:=List.length_replicate ..
 have hb1:Hl n (QJ N) (EU 1) 1 7=some (some ⟨EU 1,1,7,0,((List.replicate N false).set 0 true).set 1 true⟩,0):=by
  unfold Hl
  have hm:Ur 1 ((QJ N).blk.length:Int) false=some (List.replicate N false):=by
   unfold Ur
   rw[hrl,if_pos ⟨by omega,by omega,by omega⟩]
   simp
  have h0:Aq (List.replicate N false) 0=some false:=by
   have:=B3 (l:=List.replicate N false) (i:=0) (k:=0) false rfl (by simp;omega)
   rw[this]
   congr 1
   cases N<;>rfl
  have h1:Ek (List.replicate N false) 0 true=some ((List.replicate N false).set 0 true):=HC rfl (by simp;omega)
  have h2:∃x,Aq ((List.replicate N false).set 0 true) 1=some x:=⟨_,B3 (k:=1) false rfl (by simp;omega)⟩
  obtain⟨x,h2⟩:=h2
  have h3:Ek ((List.replicate N false).set 0 true) 1 true=some (((List.replicate N false).set 0 true).set 1 true):=HC rfl (by simp;omega)
  rw[Z6 (EU 1) 1 (by rw[C9];omega) zO,TS zO zO,Y,hm,Y,h0,Y,h1,Y,h2,Y,h3,Y]
  rfl
 refine⟨⟨EU 1,1,7,0,((List.replicate N false).set 0 true).set 1 true⟩,QJ N,?_,?_⟩
 rotate_left
 refine⟨qw hN,rfl,by show(EU 1).length≤_;rw[C9];omega,rfl,rfl,rfl,by simp,h4,fun i hi=>?_,fun p hp2 hp=>?_,List.nodup_nil,fun e he=>by cases he⟩
 rw[Jm (by simp;omega)]
 by_cases h1:1=i
 rw[if_pos h1]
 rw[if_neg h1,Jm (by simp;omega),if_pos zO]
 rw[Jm (by simp;omega),if_neg zO,Jm (by simp;omega),if_neg zO]
 rw[List.getD_eq_getElem?_getD,List.getElem?_eq_getElem (by simpa using hp),List.getElem_replicate]
 rfl
 have hv:FT (d0 N) (EU 1) 1 7=some (some v0,0):=by
  unfold FT VY
  rw[if_pos (by rw[C9];omega),Y,TS zO zO,B8 (by simp[C9]) (by simp[C9]),Y]
  rfl
 have hring:EE n 1=some (EU 1):=cd 1 zO zO
 unfold Fb
 rw[fg zO zO,Y,Y,hr,Y,Y]
 show(EE n 1).bind _=_
 rw[hring,Y]
 show(FT (d0 N) (EU 1) 1 7).bind _=_
 rw[hv,Y,Y,Y,hb1,Y,Y]
 rfl
end

/- Plain laws: a page is put down by the answer's keeper as by the program's planter. No program's walk in sight. Condition: as said. -/
section
structure SR(N:Nat)(p:FX)(q:N4)(k:R2)(w:B2)(c:BP):Prop where
 out:k.out=p.out
 err:k.err=p.wrong
 took:k.took=q.tk
 vr:VR N q.v q.d w c
variable {N n:Nat}{T:List UInt32}{th:List (HU×Af)}{had:List A5}
theorem SP{x:Bj}(hn:10≤n)(hr:x.rows.length<n)(hk:x.kids.length<n)(hb:x.rows.length≤1048576)(hc:x.kids.length≤1048576):∃y,Dj n x=some y:=by
 cases h:DI x with
 | true=>exact⟨_,O7 hn h⟩
 | false=>exact⟨_,Vh hr hk zO zO h⟩
theorem VZ(hth:∀k:HU,Cm th k=(had.find? fun s=>decide (s.txt=k.1)).map fun s=>(⟨s.page,s.tag⟩:Af))(hh:had.length≤1048576)(hT:T.length=64)(hn:2097152<n){x:Bj}(hb:x.rows.length≤1048576)(hc:x.kids.length≤1048576)
{p:FX}{q:N4}{k:R2}{w:B2}{c:BP}(S:SR N p q k w c){r:Af×(FX×N4)}(h:FB n (LS T th) x p q=some r):
  ∃k' w' c',L0 n T had x (k,w,c)=some (r.1,(k',w',c'))∧SR N r.2.1 r.2.2 k' w' c':=by
 obtain⟨ko,kt,ke⟩:=k
 obtain⟨po,pw⟩:=p
 obtain⟨qt,qv,qd⟩:=q
 obtain⟨e1,e2,e3,V9⟩:=S
 dsimp only at e1 e2 e3 V9
 subst e1 e2 e3
 obtain⟨⟨s,e⟩,hy⟩:=SP (n:=n) (x:=x) zO zO zO hb hc
 unfold L0
 rw[Xx zO zO zO hb hc,hy,Y]
 unfold FB at h
 dsimp only at h ⊢
 cases hw:decide (ke=0)with
 | false=>
  rw[hw,Bool.not_false,cond_true]at h
  obtain rfl:=Option.some.inj h
  rw[Bool.and_false,cond_false]
  unfold NK
  rw[hw,Bool.not_false,cond_true]
  exact⟨_,_,_,rfl,⟨rfl,rfl,rfl,V9⟩⟩
 | true=>
  have hk0:=of_decide_eq_true hw
  subst hk0
  rw[hw,Bool.not_true,cond_false,hy,Y]at h
  dsimp only at h
  cases he:decide (e=0)with
  | false=>
   rw[he,cond_false]at h
   unfold ML at h
   dsimp only at h
   rw[he,Bool.not_false,cond_true]at h
   obtain rfl:=Option.some.inj h
   rw[Bool.not_false,Bool.and_true,cond_true]
   unfold NK
   rw[he,Bool.not_false,cond_true]
   exact⟨_,_,_,rfl,⟨rfl,rfl,rfl,V9⟩⟩
  | true=>
   rw[he,cond_true]at h
   obtain⟨wr,hwr,h⟩:=bnd h
   rw[Bool.not_true,Bool.false_and,cond_false]
   unfold NK
   rw[show decide ((0:Int)=0)=true from rfl,Bool.not_true,cond_false,if_neg zO]
   unfold LS at hwr
   obtain⟨kk,hkk,hwr⟩:=bnd hwr
   have hks:=SD hkk
   have hm:=hth kk
   have hkl:=kk.2
   rw[hks]at hm hkl
   cases hf:had.find? (fun x=>decide (x.txt=s))with
   | some y=>
    rw[hf]at hm
    simp only[Option.map_some]at hm
    rw[hm]at hwr
    obtain rfl:=Option.some.inj hwr
    unfold ML at h
    obtain⟨l,hl,h⟩:=bnd (show((CT 40 ko [⟨s,y.page,y.tag⟩]).bind fun l=>some ((⟨y.page,y.tag⟩:Af),((⟨l,0⟩:FX),(⟨kt,qv,qd⟩:N4))))=some r from h)
    obtain rfl:=Option.some.inj h
    dsimp only
    rw[hl,Y]
    exact⟨_,_,_,rfl,⟨rfl,rfl,rfl,V9⟩⟩
   | none=>
    rw[hf]at hm
    simp only[Option.map_none]at hm
    rw[hm]at hwr
    obtain⟨rr,ee,v',d',w',c',g1,g2,V'⟩:=V9.write hT hn (s:=s) zO
    simp only[Option.isSome_none,cond_false]at hwr
    rw[g1,Y]at hwr
    dsimp only at hwr ⊢
    rw[g2,Y]
    dsimp only
    cases hee:decide (ee=0)with
    | false=>
     rw[hee,cond_false]at hwr
     obtain rfl:=Option.some.inj hwr
     unfold ML at h
     dsimp only at h
     rw[hee,Bool.not_false,cond_true]at h
     obtain rfl:=Option.some.inj h
     rw[Bool.not_false,cond_true]
     exact⟨_,_,_,rfl,⟨rfl,rfl,rfl,V'⟩⟩
    | true=>
     rw[hee,cond_true]at hwr
     obtain⟨tk,htk,hwr⟩:=bnd hwr
     obtain rfl:=Option.some.inj hwr
     unfold ML at h
     dsimp only at h
     rw[hee,Bool.not_true,cond_false]at h
     obtain⟨l,hl,h⟩:=bnd h
     obtain rfl:=Option.some.inj h
     rw[Bool.not_true,cond_false,htk,Y,hl,Y]
     exact⟨_,_,_,rfl,⟨rfl,rfl,rfl,V'⟩⟩
end

/- Plain laws: a node is put down by the answer's keeper as by the program's planter. No program's walk in sight. Condition: as said. -/
section
variable {N n:Nat}{T:List UInt32}{th:List (HU×Af)}{had:List A5}
theorem XM{x:Bj}(hn:2097152<n)(hb:x.rows.length≤1048576)(hc:x.kids.length≤1048576){k:R2}{w:B2}{c:BP}(he:k.err≠0):L0 n T had x (k,w,c)=some (⟨0,[]⟩,(k,w,c)):=by
 obtain⟨y,hy⟩:=SP (n:=n) (x:=x) zO zO zO hb hc
 unfold L0
 rw[Xx zO zO zO hb hc,hy,Y]
 dsimp only
 rw[decide_eq_false he,Bool.and_false,cond_false]
 unfold NK
 rw[decide_eq_false he,Bool.not_false,cond_true]
theorem XL{σ:Type}{wh:SF σ}{x:Bj}{p:FX}{q:σ}{r:Af×(FX×σ)}(h:FB n wh x p q=some r)(hw:r.2.1.wrong≠0):r.1=⟨0,[]⟩:=by
 have put:∀ {e:List UInt8} {w:Af×Int×σ},p.wrong=0→ML e p w=some r→r.1=⟨0,[]⟩:=by
  intro e w hp h
  unfold ML at h
  cases hd:decide (w.2.1=0)with
  | false=>
   rw[hd,Bool.not_false,cond_true]at h
   rw[←Option.some.inj h]
  | true=>
   rw[hd,Bool.not_true,cond_false]at h
   obtain⟨l,_,h⟩:=bnd h
   exfalso
   rw[←Option.some.inj h]at hw
   exact hw hp
 unfold FB at h
 cases hd:decide (p.wrong=0)with
 | false=>
  rw[hd,Bool.not_false,cond_true]at h
  rw[←Option.some.inj h]
 | true=>
  have hp:=of_decide_eq_true hd
  rw[hd,Bool.not_true,cond_false]at h
  obtain⟨e,_,h⟩:=bnd h
  cases h2:decide (e.2=0)with
  | true=>
   rw[h2,cond_true]at h
   obtain⟨w,_,h⟩:=bnd h
   exact put hp h
  | false=>
   rw[h2,cond_false]at h
   exact put hp h
def PY(l:List AN)(i:Nat):List AN:=(l.drop (4*i)).take (min (4*i+4) l.length-4*i)
theorem VP{l:List AN}{i:Nat}(h:4*i≤l.length):JB l (4*(i:Int)) (min (l.length:Int) (4*(i:Int)+4))=some (PY l i):=by
 rw[Nc (p:=4*i) (q:=min (4*i+4) l.length) zO zO zO zO]
 rfl
theorem Ud(l:List AN)(i:Nat):(PY l i).length≤4:=by
 unfold PY
 rw[List.length_take]
 omega
theorem SW(hn:2097152<n){l:List AN}{k:R2}{w:B2}{c:BP}(he:k.err≠0):∀(m:Nat),(∀i,i<m→4*i≤l.length)→QP (L0 n T had) l m ⟨0,[]⟩ (k,w,c)=some (⟨0,[]⟩,(k,w,c))
 | 0,_=>rfl
 | m+1,h=>by
  have h4:=Ud l m
  unfold QP
  rw[VP (h m zO),Y,XM hn (show(PY l m).length≤_ by omega) (Nat.zero_le _) he,Y]
  exact SW hn he m (fun i hi=>h i zO)
theorem YK(hth:∀k:HU,Cm th k=(had.find? fun s=>decide (s.txt=k.1)).map fun s=>(⟨s.page,s.tag⟩:Af))(hh:had.length≤1048576)(hT:T.length=64)(hn:2097152<n){l:List AN}:
  ∀(m:Nat),(∀i,i<m→4*i≤l.length)→∀ {r:Af} {p:FX} {q:N4} {k:R2} {w:B2} {c:BP},SR N p q k w c→∀ {y:Af×(FX×N4)},IZ n (LS T th) (((List.range m).map (PY l)).reverse) r p q=some y→
   ∃k' w' c',QP (L0 n T had) l m r (k,w,c)=some (y.1,(k',w',c'))∧SR N y.2.1 y.2.2 k' w' c'
 | 0,_,r,p,q,k,w,c,S,y,h=>by
  obtain rfl:=Option.some.inj (show some (r,(p,q))=some y from h)
  exact⟨_,_,_,rfl,S⟩
 | m+1,hm,r,p,q,k,w,c,S,y,h=>by
  have h4:=Ud l m
  rw[List.range_succ,List.map_append,List.reverse_append]at h
  simp only[List.map_cons,List.map_nil,List.reverse_cons,List.reverse_nil,List.nil_append,List.cons_append]at h
  unfold IZ at h
  obtain⟨z,hz,h⟩:=bnd h
  obtain⟨k',w',c',g1,S'⟩:=VZ hth hh hT hn (x:=⟨1,0,0,0,PY l m,[],r.page,r.tag⟩) (show(PY l m).length≤_ by omega) (Nat.zero_le _) S hz
  unfold QP
  rw[VP (hm m zO),Y,g1,Y]
  dsimp only
  cases hw:decide (z.2.1.wrong=0)with
  | false=>
   rw[hw,Bool.not_false,cond_true]at h
   obtain rfl:=Option.some.inj h
   have h0:=XL hz (of_decide_eq_false hw)
   rw[h0]
   exact⟨k',w',c',SW hn (by rw[S'.err];exact of_decide_eq_false hw) m (fun i hi=>hm i zO),S'⟩
  | true=>
   rw[hw,Bool.not_true,cond_false]at h
   exact YK hth hh hT hn m (fun i hi=>hm i zO) S' h
theorem YF{rec1:BO→FX→N4→Option (Af×(FX×N4))}{rec2:BO→R2×B2×BP→Option (Af×(R2×B2×BP))}:
  ∀(ks:List BO),(∀t∈ks,∀ {p q k w c},SR N p q k w c→∀ {y},rec1 t p q=some y→∃k' w' c',rec2 t (k,w,c)=some (y.1,(k',w',c'))∧SR N y.2.1 y.2.2 k' w' c')→
   ∀ {p:FX} {q:N4} {k:R2} {w:B2} {c:BP} {acc:List Af},SR N p q k w c→∀ {y:List Af×(FX×N4)},GC rec1 ks p q acc=some y→∃k' w' c',O0 rec2 ks (k,w,c) acc=some (y.1,(k',w',c'))∧SR N y.2.1 y.2.2 k' w' c'∧y.1.length=acc.length+ks.length
 | [],_,p,q,k,w,c,acc,S,y,h=>by
  obtain rfl:=Option.some.inj (show some (acc,(p,q))=some y from h)
  exact⟨_,_,_,rfl,S,rfl⟩
 | t::ks,hr,p,q,k,w,c,acc,S,y,h=>by
  unfold GC at h
  obtain⟨z,hz,h⟩:=bnd h
  obtain⟨a,ha,h⟩:=bnd h
  obtain⟨k',w',c',g1,S'⟩:=hr t zS S hz
  obtain⟨k2,w2,c2,g2,S2,g3⟩:=YF ks (fun u hu=>hr u (by simp[hu])) S' h
  have hal:a.length=acc.length+1:=by
   unfold CT at ha
   split at ha
   rw[←Option.some.inj ha]
   simp
   cases ha
  refine⟨k2,w2,c2,?_,S2,by rw[g3,hal,List.length_cons];omega⟩
  unfold O0
  rw[g1,Y]
  dsimp only
  rw[ha,Y]
  exact g2
theorem Xl(hth:∀k:HU,Cm th k=(had.find? fun s=>decide (s.txt=k.1)).map fun s=>(⟨s.page,s.tag⟩:Af))(hh:had.length≤1048576)(hT:T.length=64)(hn:2097152<n):
  ∀(f:Nat) (t:BO) {p:FX} {q:N4} {k:R2} {w:B2} {c:BP},SR N p q k w c→∀ {y:Af×(FX×N4)},EV n (LS T th) f t p q=some y→∃k' w' c',QI (L0 n T had) f t (k,w,c)=some (y.1,(k',w',c'))∧SR N y.2.1 y.2.2 k' w' c'
 | 0,_,_,_,_,_,_,_,_,h=>by cases h
 | f+1,t,p,q,k,w,c,S,y,h=>by
  unfold EV at h
  unfold QI
  split at h
  cases h
  rename_i hbig
  rw[if_neg hbig]
  cases hk:decide (0<(t.kids.length:Int))with
  | true=>
   rw[hk,cond_true]at h
   obtain⟨z,hz,h⟩:=bnd h
   obtain⟨k',w',c',g1,S',g2⟩:=YF t.kids (fun u _=>fun S=>fun h=>Xl hth hh hT hn f u S h) S hz
   rw[cond_true,g1,Y]
   exact VZ hth hh hT hn (Nat.zero_le _) (show z.1.length≤_ by rw[g2];simp;omega) S' h
  | false=>
   rw[hk,cond_false]at h
   rw[cond_false]
   have hm:∀i,i<(max t.rows.length 1-1) / 4+1→4*i≤t.rows.length:=fun i hi=>by omega
   refine YK hth hh hT hn _ hm S ?_
   rw[←h]
   congr 2
   unfold I7
   by_cases hl:t.rows=[]
   rw[if_pos hl,hl]
   rfl
   have:=List.length_pos_iff.2 hl
   rw[if_neg hl,show(max t.rows.length 1-1) / 4+1=(t.rows.length+3) / 4 by omega]
   rfl
end

/- Plain laws: rows are saved by the answer as by the program. No program's walk in sight. Condition: as said. -/
section
variable {N n:Nat}{T:List UInt32}{had:List A5}
theorem Vl{d:A8}{c:BP}:∀(tk:List UInt32) {v:BX} {w:B2},VR N v d w c→∀ {v'},N7 tk v d=some v'→∃w',Oh c w tk=some w'∧VR N v' d w' c
 | [],v,w,V9,v',h=>by
  obtain rfl:=Option.some.inj (show some v=some v' from h)
  exact⟨w,rfl,V9⟩
 | x::tk,v,w,V9,v',h=>by
  obtain⟨e,v2,w2,g1,g2,V2⟩:=V9.give x
  unfold N7 at h
  rw[g1,Y]at h
  obtain⟨w',h1,h2⟩:=Vl tk V2 h
  refine⟨w',?_,h2⟩
  unfold Oh
  rw[g2,Y]
  exact h1
theorem YC(hT:T.length=64)(hn:2097152<n){v:BX}{d:A8}{w:B2}{c:BP}(V9:VR N v d w c){l:List AN}(hl:l.length≤1048576)(hh:had.length≤1048576)(hht:∀s∈had,s.txt.length≤1048576)
{r:List A5×Int×BX×A8}(h:Hx n T v d l had=some r):∃w' c',Qq n T w c l had=some (r.1,r.2.1,w',c')∧VR N r.2.2.1 r.2.2.2 w' c':=by
 unfold Hx at h
 obtain⟨b,hb,h⟩:=bnd h
 unfold Qq
 rw[bo zO zO hl,hb,Y]
 cases hd:decide (b.2=0)with
 | false=>
  rw[hd,Bool.not_false,cond_true]at h
  obtain rfl:=Option.some.inj h
  rw[Bool.not_false,cond_true]
  exact⟨w,c,rfl,V9⟩
 | true=>
  rw[hd,Bool.not_true,cond_false,if_neg zO]at h
  obtain⟨th,h2,h3⟩:=R5 had hht zO
  rw[h2,Y]at h
  obtain⟨y,hy,h⟩:=bnd h
  obtain⟨k',w',c',g1,S⟩:=Xl h3 hh hT hn n b.1 (k:=⟨[],[],0⟩) (⟨rfl,rfl,rfl,V9⟩:SR N ⟨[],0⟩ ⟨[],v,d⟩ ⟨[],[],0⟩ w c) hy
  rw[Bool.not_true,cond_false,g1,Y]
  dsimp only
  unfold Rq at h
  rw[S.err,S.took,S.out]
  cases hw:decide (y.2.1.wrong=0)with
  | true=>
   rw[hw,Bool.not_true,cond_false]at h
   obtain rfl:=Option.some.inj h
   rw[Bool.not_true,cond_false]
   exact⟨w',c',rfl,S.vr⟩
  | false=>
   rw[hw,Bool.not_false,cond_true]at h
   rw[Bool.not_false,cond_true]
   split at h
   cases h
   rename_i hbig
   obtain⟨v2,hv2,h⟩:=bnd h
   obtain rfl:=Option.some.inj h
   obtain⟨w2,f1,f2⟩:=Vl y.2.2.tk S.vr hv2
   rw[if_neg hbig,f1,Y]
   exact⟨w2,c',rfl,f2⟩
end

/- Plain laws: what is shown, with rounds enough for the answer. No program's walk in sight. No condition. -/
section
theorem Zu:Im 2200000 R0=some (dJ,0):=zK
theorem eC(T:List UInt32):JC 2200000 T=some true:=by
 obtain⟨w,c,hm⟩:=dT (N:=12) (n:=2200000) zO zO zO
 have k1:=TS (m:=1) zO zO
 obtain⟨t,th,h1,h2,h3,h4⟩:=iB (n:=2200000) (T:=T) (l:=R0) (had:=[]) zO (N:=12) zO (jl zO) (j7 12) k1 YR (fun s hs=>by simp at hs) zS (by simp[v0])
 obtain rfl:dJ=t:=by
  have:=h1.symm.trans Zu
  simp only[Option.some.injEq,Prod.mk.injEq,and_true]at this
  exact this.symm
 have hpg:Lg 2200000 dJ=4:=zK
 rcases h4 with⟨r,out,q,e1,e2,e3,e4,e5,e6,e7,_⟩ | ⟨v,d,c,_,e2,_,_⟩
 obtain⟨f1,f2⟩:=dr (n:=2200000) zO YR h1 h2 e2 e4 e5 e6
 rw[hpg]at e6
 unfold JC
 rw[show(12:Int)=((12:Nat):Int)from rfl,hm,Y,Y]
 show(Hx 2200000 T v0 (d0 12) R0 []).bind _=_
 rw[e1,Y,f1,Y]
 dsimp only
 rw[f2,Y]
 dsimp only
 have hs:=e4.seals
 have htk:q.tk.length=4:=by
  rw[cU (fun k=>h3 k) out _ _ e7,e6]
  rfl
 rw[htk]at hs
 show(Ed _ ((IM 2200000 R0 R0).bind _)).bind _=_
 rw[dZ R0 zD zD,Y,Qe out zO zO]
 unfold Nj
 rw[hs,e6]
 rfl
 exfalso
 rw[hpg]at e2
 simp[v0]at e2
end

/- Plain laws: how many places are free, by the answer and by the program. No program's walk in sight. Condition: rounds enough. -/
section
variable {N n:Nat}{v:BX}{d:A8}{w:B2}{c:BP}
theorem Zm(w:B2)(hb:w.taken.length≤1048576):∀(k i m a:Nat),i+k=w.taken.length→k<m→a≤i→Ch w m ((a:Int),(i:Int))=some ((a+(w.taken.drop i).countP (fun b => !b):Nat):Int)
 | _,_,0,_,_,h,_=>absurd h (Nat.not_lt_zero _)
 | 0,i,m+1,a,hi,_,_=>by
  show Cl w (Ch w m) _ _=_
  unfold Cl FZ
  rw[decide_eq_false zO,cond_false,List.drop_eq_nil_of_le zO]
  rfl
 | k+1,i,m+1,a,hi,hm,ha=>by
  have hil:i<w.taken.length:=by omega
  have n1:Aq w.taken (i:Int)=some w.taken[i]:=by rw[DK rfl,List.getElem?_eq_getElem hil]
  show Cl w (Ch w m) _ _=_
  unfold Cl EK
  rw[decide_eq_true zO,cond_true,n1,Y,List.drop_eq_getElem_cons hil,List.countP_cons]
  simp only[A7]
  rw[BD (x:=(i:Int)+1) zO zO,BD (x:=(a:Int)+1) zO zO]
  cases w.taken[i]with
  | true=>
   rw[Bool.not_true,cond_false]
   have:=Zm w hb k (i+1) m a zO zO zO
   rw[show((i:Int)+1)=((i+1:Nat):Int) by omega,this]
   simp
  | false=>
   rw[Bool.not_false,cond_true]
   have:=Zm w hb k (i+1) m (a+1) zO zO zO
   rw[show((i:Int)+1)=((i+1:Nat):Int) by omega,show((a:Int)+1)=((a+1:Nat):Int) by omega,this]
   simp only[if_true]
   congr 2
   omega
theorem VR.count(V9:VR N v d w c):w.taken.countP (fun b => !b)+(2+v.taken.length)=N:=by
 have hl:=V9.tlen
 have hN:=V9.dev.nle
 have n4:=V9.n4
 have e1:w.taken=(List.range N).map (fun i=>w.taken.getD i false):=by
  refine List.ext_getElem (by simp[hl]) fun i h1 h2=>?_
  rw[List.getElem_map,List.getElem_range,List.getD_eq_getElem?_getD,List.getElem?_eq_getElem h1]
  rfl
 have e2:w.taken.countP (fun b => !b)+w.taken.countP (fun b=>b)=N:=by
  have:=List.length_eq_countP_add_countP (p:=fun b:Bool=>b) (l:=w.taken)
  rw[hl]at this
  have h3:w.taken.countP (fun b => !b)=w.taken.countP (fun a=>decide ¬(a=true)):=by
   congr 1
   funext b
   cases b<;>rfl
  rw[h3]
  omega
 have e3:w.taken.countP (fun b=>b)=((List.range N).filter (fun i=>w.taken.getD i false)).length:=by
  conv=>lhs;rw[e1]
  rw[List.countP_map,List.countP_eq_length_filter]
  rfl
 have e4:((List.range N).filter (fun i=>w.taken.getD i false)).Perm (0::1::v.taken.map fun e=>e.1.toNat):=by
  refine(List.perm_ext_iff_of_nodup (List.Nodup.sublist List.filter_sublist List.nodup_range) ?_).2 fun i=>?_
  have h5:(v.taken.map fun e=>e.1.toNat).Nodup:=by
   have h6:=V9.tnd
   rw[show(v.taken.map fun e=>e.1.toNat)=(v.taken.map (·.1)).map UInt32.toNat by rw[List.map_map];rfl]
   refine List.pairwise_map.2 (h6.imp fun hne e=>hne (UInt32.toNat_inj.1 e))
  have h7:∀j∈v.taken.map (fun e=>e.1.toNat),2≤j:=fun j hj=>by
   obtain⟨e,he,rfl⟩:=List.mem_map.1 hj
   exact(V9.tok e he).2.1
  refine List.nodup_cons.2 ⟨fun h=>?_,List.nodup_cons.2 ⟨fun h=>?_,h5⟩⟩
  rcases List.mem_cons.1 h with h | h
  omega
  have:=h7 _ h
  omega
  have:=h7 _ h
  omega
  rw[List.mem_filter,List.mem_range]
  constructor
  rintro⟨h1,h2⟩
  rcases Nat.lt_or_ge i 2 with h3 | h3
  rcases(show i=0∨i=1 by omega)with rfl | rfl<;>simp
  have hin:(UInt32.ofNat i).toNat=i:=by simp;omega
  have h4:=V9.tak (UInt32.ofNat i) (by rw[hin];exact h3) (by rw[hin];exact h1)
  rw[hin,h2]at h4
  unfold Ce Cm at h4
  cases hf:v.taken.find? (fun p=>decide (p.1=UInt32.ofNat i))with
  | none=>rw[hf]at h4;cases h4
  | some e=>
   have h8:=List.find?_some hf
   simp only[decide_eq_true_eq]at h8
   refine List.mem_cons_of_mem _ (List.mem_cons_of_mem _ (List.mem_map.2 ⟨e,List.mem_of_find?_eq_some hf,by rw[h8,hin]⟩))
  intro h
  rcases List.mem_cons.1 h with rfl | h
  exact⟨by omega,V9.low 0 zO⟩
  rcases List.mem_cons.1 h with rfl | h
  exact⟨by omega,V9.low 1 zO⟩
  obtain⟨e,he,rfl⟩:=List.mem_map.1 h
  obtain⟨h1,h2,h3⟩:=V9.tok e he
  refine⟨h3,?_⟩
  rw[V9.tak e.1 h2 h3]
  unfold Ce
  rw[Oy V9.tnd he]
  exact h1
 have:=e4.length_eq
 simp only[List.length_cons,List.length_map]at this
 omega
theorem VR.free(V9:VR N v d w c)(hn:N<n):KZ v d=EQ n w c:=by
 have hl:=V9.tlen
 have hN:=V9.dev.nle
 have hc:=V9.count
 have h1:EQ n w c=some ((w.taken.countP (fun b => !b):Nat):Int):=by
  have:=Zm w zO N 0 n 0 zO hn (Nat.le_refl _)
  refine(show EQ n w c=Ch w n (0,0)from rfl).trans ?_
  simpa using this
 rw[h1]
 unfold KZ Gq
 rw[Y,A7,V9.dev.inv.blen,BD (x:=(N:Int)-2) zO zO,BD zO zO]
 congr 1
 omega
end

/- Plain laws: a save's answer, with a bound on what was written where there is no room. No program in sight. Condition: as said. -/
section
theorem d5{n:Nat}{T:List UInt32}{N c0:Nat}{R:List BC}{g:UInt32}{vb:BX}{db:A8}{k:BC}{l:List AN}{had:List A5}(hn:1100≤n)(hN:N≤4096)(V9:VS N c0 R g vb db)(hb:Pg N vb)(hk:Cf R g=(k,0))(hl:CZ l=true)
(hhad:∀s∈had,Rd T R N vb db s)(hlen:had.length≤100000)(hlim:c0+(N-2-vb.taken.length)≤100):
    ∃t th,Im n l=some (t,0)∧Tr n l t∧(∀k:HU,Cm th k=(had.find? fun s=>decide (s.txt=k.1)).map fun s=>(⟨s.page,s.tag⟩:Af))∧
      ((∃r out q,Hx n T vb db l had=some (out,0,q.v,q.d)∧Og n t out r∧C6 r=true∧bT N c0 R g vb db q∧(∀s∈out,Rd T R N q.v q.d s)∧out.length=Lg n t∧MG (LS T th) ⟨[],vb,db⟩ out q∧N-2-vb.taken.length≤N-2-q.v.taken.length+Lg n t)∨
       (∃v d c,Hx n T vb db l had=some ([],110,v,d)∧N-2-vb.taken.length<Lg n t∧v.taken=vb.taken∧VS N c R g v d∧c≤c0+N)):=by
  obtain⟨t,h1,_,hT⟩:=UD (n:=n) (l:=l) zO hl
  obtain⟨th,h2,h3⟩:=R5 had (fun s hs=>by have:=((hhad s hs).ok V9).2.2;omega) zO
  have hth:∀(key:HU) r,Cm th key=some r→Rd T R N vb db ⟨key.1,r.page,r.tag⟩:=by
    intro key r hr
    rw[h3 key]at hr
    obtain⟨s,hs,rfl⟩:=Option.map_eq_some_iff.1 hr
    have h5:=List.find?_some hs
    simp only[decide_eq_true_eq]at h5
    rw[←h5]
    exact hhad s (List.mem_of_find?_eq_some hs)
  have W:=gS (T:=T) (c0:=c0) (db:=db) hb hN hk hth
  have hpg:=PO hT (GV hl)
  have hl1:=GV hl
  have S0:bT N c0 R g vb db ⟨[],vb,db⟩:=⟨V9,by simp,by simp,hb,fun _ _=>rfl,by simpa using hlim⟩
  obtain⟨r,p',q,e1,e2,e3,e4,e5⟩:=TX W (n:=n) zO n l t ⟨[],0⟩ ⟨[],vb,db⟩ hT hl S0 rfl (by simp;omega)
  refine⟨t,th,h1,hT,h3,?_⟩
  have hsave:Hx n T vb db l had=Rq (r,(p',q)):=by
    unfold Hx
    rw[h1,Y,show(!decide ((0:Int)=0))=false from rfl,cond_false,if_neg zO,h2,Y,e1,Y]
  rw[hsave]
  unfold Rq
  rcases e5 with⟨w,seg,o1,o2,o3,o4,o5,o6⟩ | ⟨w,o6⟩
  left
  simp only[List.nil_append]at o1
  refine⟨r,seg,q,?_,o3,e2 w,e3,o5,o2,o4,o6⟩
  dsimp only
  rw[w,show(!decide ((0:Int)=0))=false from rfl,cond_false,o1]
  right
  have hlim2:=e3.lim
  refine⟨{ q.v with taken:=vb.taken },q.d,c0+q.tk.length,?_,o6,rfl,?_,?_⟩
  dsimp only
  rw[w,show(!decide ((110:Int)=0))=true from rfl,cond_true,if_neg zO,Td hN q.tk q.v q.d vb.taken e3.vs.dev.blen e3.tak e3.ok.nd (fun p hp=>by
    have:=e3.ok.tr (p,true) (by rw[e3.tak];refine List.mem_append_left _ ?_;rw[List.mem_reverse];exact List.mem_map.2 ⟨p,hp,rfl⟩)
    exact this.2),Y]
  have V':=e3.vs
  exact⟨V'.dev,V'.ring,V'.rlen,V'.gen,V'.boot,Nat.le_trans V9.tlen (Nat.le_add_right ..)⟩
  have h8:=PE e3.ok.nd (N:=N) (fun k hk=>by
    obtain⟨e,he,rfl⟩:=List.mem_map.1 hk
    exact(e3.ok.tr e he).2.2)
  have h9:=congrArg List.length e3.tak
  simp only[List.length_append,List.length_reverse,List.length_map]at h8 h9
  omega
end

/- The law GroveSaves of layer 14, of the plain functions. No program's walk in sight. -/
section
structure Gd(T:List UInt32)(N c0:Nat)(v:BX)(d:A8)(had:List A5):Prop where
 vs:VS N c0 (EU 1) 1 v d
 tk:Pg N v
 rd:∀s∈had,Rd T (EU 1) N v d s
 len:had.length≤2000
 lim:c0+(N-2-v.taken.length)≤100
theorem Gd.save{T:List UInt32}{N c0:Nat}{v:BX}{d:A8}{had:List A5}(G:Gd T N c0 v d had)(hN:N≤4096){n:Nat}(hn:1100≤n){l:List AN}(hl:l.length≤1000)(hc:c0+N+N≤100):
  ∃r c1,Hx n T v d l had=some r∧Gd T N c1 r.2.2.1 r.2.2.2 r.1∧r.1.length≤2000∧c1≤c0+N:=by
 have k1:=TS (m:=1) zO zO
 cases hr:CZ l with
 | false=>exact⟨_,c0,gb hn hl hr,⟨G.vs,G.tk,(fun s hs=>by cases hs),Nat.zero_le _,G.lim⟩,Nat.zero_le _,by omega⟩
 | true=>
  obtain⟨t,th,h1,h2,h3,h5⟩:=d5 (n:=n) (T:=T) (l:=l) (had:=had) hn (N:=N) hN G.vs G.tk k1 hr G.rd (by have:=G.len;omega) G.lim
  have hpg:=PO h2 (GV hr)
  rcases h5 with⟨r,out,q,e1,e2,e3,e4,e5,e6,e7,_⟩ | ⟨v',d',c,e1,e2,e3,e4,e5⟩
  refine⟨_,_,e1,⟨e4.vs,e4.ok,e5,by dsimp only;omega,e4.lim⟩,by dsimp only;omega,?_⟩
  have h8:=PE e4.ok.nd (N:=N) (fun k hk=>by
   obtain⟨e,he,rfl⟩:=List.mem_map.1 hk
   exact(e4.ok.tr e he).2.2)
  have h9:=congrArg List.length e4.tak
  simp only[List.length_append,List.length_reverse,List.length_map]at h8 h9
  omega
  exact⟨_,c,e1,⟨e4,⟨by dsimp only;rw[e3];exact G.tk.nd,by dsimp only;rw[e3];exact G.tk.tr⟩,(fun s hs=>by cases hs),Nat.zero_le _,by dsimp only;omega⟩,Nat.zero_le _,e5⟩
theorem XI(T:List UInt32)(m:Int)(l1 l2:List AN)(hT:T.length=64):ZA 2200000 T m l1 l2=some true:=by
 unfold ZA
 rw[eC,Y]
 by_cases hm0:m<4∨30<m
 rw[show(decide (m<4)||decide (30<m))=true by simpa using hm0,cond_true]
 obtain⟨N,rfl⟩:∃N:Nat,m=(N:Int):=⟨m.toNat,by omega⟩
 obtain⟨w,c,hm,V9⟩:=aZ (N:=N) (n:=2200000) zO zO zO
 have hk1:=cS l1
 have hk2:=cS l2
 have G0:Gd T N 0 v0 (d0 N) []:=⟨jl zO,j7 N,(fun s hs=>by cases hs),Nat.zero_le _,by show 0+(N-2-0)≤100;omega⟩
 obtain⟨r1,c1,s1,G1,len1,hb1⟩:=G0.save zO (n:=2200000) zO (l:=l1.take 24) zO zO
 have hc1:=G1.lim
 obtain⟨w1,u1,t1,V1⟩:=YC hT (n:=2200000) zO V9 (l:=l1.take 24) zO (Nat.zero_le _) (fun s hs=>by cases hs) s1
 obtain⟨r2,c2,s2,G2,len2,hb2⟩:=G1.save zO (n:=2200000) zO (l:=l2.take 24) zO zO
 obtain⟨w2,u2,t2,V2⟩:=YC hT (n:=2200000) zO V1 (l:=l2.take 24) zO zO (fun s hs=>by have:=((G1.rd s hs).ok G1.vs).2.2;omega) s2
 rw[show(decide ((N:Int)<4)||decide (30<(N:Int)))=false by simp;omega,cond_false,hm,Y,Y,e9,Y]
 dsimp only
 rw[s1,Y,Y,t1,Y,e9,Y]
 dsimp only
 rw[s2,Y,Y,t2,Y]
 dsimp only
 obtain⟨i1,i2⟩:=V2.dev.image (n:=2200000) zO
 have fr:=V2.free (n:=2200000) zO
 have f0:=jX G2.vs (by have:=G2.vs.tlen;have:=G2.lim;omega)
 rw[Qe r1.1 zO zO,Qe r2.1 zO zO,i1,i2,←fr,f0]
 simp only[Y,dp (TK N r2.2.2.2) (n:=2200000) (by simp[TK];omega) (by simp[TK];omega),Ed,cond_true,decide_true,Bool.and_true,Bool.and_self]
end
end Go.Proofs.YtkibffdipniemaaGreatDoor
