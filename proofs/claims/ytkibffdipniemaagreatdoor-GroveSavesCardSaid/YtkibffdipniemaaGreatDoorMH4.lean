/- The texts GG1, GG2, GG3, GG4, GG5, GG6, GG7, GG8, GG9, GG10, GG11, GG12, GG13, LG2, LG3, LG4, one behind the other: each bears its own sentence. Conditions: as each says. -/
import Derived.Test.YtkibffdipniemaaGreatDoorMH1
import Derived.Test.YtkibffdipniemaaGreatDoorMH2
import Derived.Test.YtkibffdipniemaaGreatDoorMH3

set_option linter.unusedVariables false
set_option linter.unusedSimpArgs false
set_option maxHeartbeats 4000000
set_option maxRecDepth 100000
namespace Go.Proofs.YtkibffdipniemaaGreatDoor
open Go
/- Plain functions of the references and the laws, printed from the loaded program, and the walks that show that the program computes them. Condition: the plain function yields. -/
section
variable {K:Nat→Prop}{w0:World}{H:List AT}
def My(a3:UInt32)(a4:Int):Option Int:=
 (Aq ([0,1,2,2,3,3,3,3,4,4,4,4,4,4,4,4,5,5,5,5,5,5,5,5,5,5,5,5,5,5,5,5,6,6,6,6,6,6,6,6,6,6,6,6,6,6,6,6,6,6,6,6,6,6,6,6,6,6,6,6,6,6,6,6,7,7,7,7,7,7,7,7,7,7,7,7,7,7,7,7,7,7,7,7,7,7,7,7,7,7,7,7,7,7,7,7,7,7,7,7,7,7,7,7,7,7,7,7,7,7,7,7,7,7,7,7,7,7,7,7,7,7,7,7,7,7,7,7,8,8,8,8,8,8,8,8,8,8,8,8,8,8,8,8,8,8,8,8,8,8,8,8,8,8,8,8,8,8,8,8,8,8,8,8,8,8,8,8,8,8,8,8,8,8,8,8,8,8,8,8,8,8,8,8,8,8,8,8,8,8,8,8,8,8,8,8,8,8,8,8,8,8,8,8,8,8,8,8,8,8,8,8,8,8,8,8,8,8,8,8,8,8,8,8,8,8,8,8,8,8,8,8,8,8,8,8,8,8,8,8,8,8,8,8,8,8,8,8,8,8,8,8,8,8,8,8]:List UInt8) (a3.toUInt8.toNat:Int)).bind fun c1=>
 ret (wI (a4+(c1.toNat:Int))) fun x4=>
 some x4
def Mr(a1:UInt32)(a2:Int):Option Int:=
 cond (decide (256≤a1))
 (
  ret (shr32 a1 8) fun x2=>
  ret (wI (a2+8)) fun x3=>
  My x2 x3)
 (
  My a1 a2)
def Vp(p0:UInt32):Option Int:=
 cond (decide (65536≤p0))
 (
  ret (shr32 p0 16) fun x1=>
  Mr x1 16)
 (
  Mr p0 0)
theorem pN{p0:UInt32}{r:Int}(h:Vp p0=some r): BH Tryz.prog K w0 179 [Z p0] [] H (fun u M=>u=vI r∧M=[]):=by
 unfold Vp at h
 refine BH.enter Tryz.func179 rfl rfl ?_
 refine V (J zR (U ?_))
 refine A1 (α:=UInt32×Int) (fun x=>Mr x.1 x.2=some r) (fun x=>[(0,Z x.1),(2,vI x.2)]) (fun x=>H) ?_ (fun x D h=>?_)
 refine V (E zR ?_)
 refine O zR (Fp (b:=65536)) ?_
 refine U ?_
 refine AG zR (fun hc1=>?_) (fun hc1=>?_)
 replace h:=cT hc1 h
 refine V ?_
 obtain⟨x1,ex1,h⟩:=Bc h
 refine E zR ?_
 refine O zR (D4.shr32 (n:=16)) ?_
 refine Ak (u:=Z x1) zR zR (congrArg Z ex1) ?_
 refine U (AJ (J zR (AS ?_)))
 exact Av (x1,16) h tL (fun _ hw=>BJ.pick (H:=[]) hw [] 0 zR)
 replace h:=cF hc1 h
 refine AH ?_
 exact Av (p0,0) h tL (fun _ hw=>BJ.pick (H:=[]) hw [] 0 zR)
 obtain⟨a1,a2⟩:=x
 dsimp only at h
 unfold Mr at h
 refine A4 [(0,Z a1),(2,vI a2)] (H) ?_ tL
 refine A1 (α:=UInt32×Int) (fun x=>My x.1 x.2=some r) (fun x=>[(0,Z x.1),(2,vI x.2)]) (fun x=>H) ?_ (fun x D h=>?_)
 refine V (E zR ?_)
 refine O zR (Fp (b:=256)) ?_
 refine U ?_
 refine AG zR (fun hc2=>?_) (fun hc2=>?_)
 replace h:=cT hc2 h
 refine V ?_
 obtain⟨x2,ex2,h⟩:=Bc h
 refine E zR ?_
 refine O zR (D4.shr32 (n:=8)) ?_
 refine Ak (u:=Z x2) zR zR (congrArg Z ex2) ?_
 refine U (AJ ?_)
 obtain⟨x3,ex3,h⟩:=Bc h
 refine E zR (O zR A3 ?_)
 refine Ak (u:=vI x3) zR zR (congrArg vI ex3) ?_
 refine AS ?_
 exact Av (x2,x3) h tL (fun _ hw=>BJ.pick (H:=[]) hw [] 0 zR)
 replace h:=cF hc2 h
 refine AH ?_
 exact Av (a1,a2) h tL (fun _ hw=>BJ.pick (H:=[]) hw [] 0 zR)
 obtain⟨a3,a4⟩:=x
 dsimp only at h
 unfold My at h
 refine A4 [(0,Z a3),(2,vI a4)] (H) ?_ tL
 refine V ?_
 obtain⟨c1,hc1,h⟩:=bnd h
 obtain⟨x4,ex4,h⟩:=Bc h
 refine E zR (E zR (As zR zR (CN Bg CW) (G9 hc1 zR Bu zR zR (As zR zR (Vk CW Ef) (O zR A3 ?_)))))
 refine Ak (u:=vI x4) zR zR (congrArg vI ex4) ?_
 refine U (AM ?_)
 obtain rfl:=Option.some.inj h
 exact AY [] 0 zR zR zR
def Gl(p0:BN):Option UInt64:=
 (QB p0.lev).bind fun n1=>
 ret (shl64 1 n1) fun x1=>
 some x1
theorem PN{p0:BN}{r:UInt64}(h:Gl p0=some r): BH Tryz.prog K w0 182 [.agg (DA p0).toArray] [] H (fun u M=>u=Ag r∧M=[]):=by
 unfold Gl at h
 refine BH.enter Tryz.func182 rfl rfl ?_
 refine V ?_
 refine BU zR zR (fun _=>trivial) fun b1=>?_
 refine J zR (U (V ?_))
 obtain⟨n1,hn1,h⟩:=bnd h
 obtain⟨x1,ex1,h⟩:=Bc h
 refine AB zR Dg (AC 0 DT zR ?_)
 refine O zR (bB (a:=1) hn1) ?_
 refine Ak (u:=Ag x1) zR zR (congrArg Ag ex1) ?_
 refine U (AM ?_)
 obtain rfl:=Option.some.inj h
 exact AY [] 1 zR zR zR
def Gu(p0:BN):Option Bool:=
 cond ((decide (p0.lev<0))||(decide (31<p0.lev)))
 (
  some false)
 (
  (Gl p0).bind fun y1=>
  ret ((y1-1).toUInt32) fun low_1=>
  ret ((decide ((p0.x ||| p0.y) &&& low_1=0))&&(decide (max p0.x p0.y<2147483648))) fun x1=>
  some x1)
theorem OF{p0:BN}{r:Bool}(h:Gu p0=some r): BH Tryz.prog K w0 168 [.agg (DA p0).toArray] [] H (fun u M=>u=vB r∧M=[]):=by
 unfold Gu at h
 refine BH.enter Tryz.func168 rfl rfl ?_
 refine V ?_
 refine BU zR zR (fun _=>trivial) fun b1=>?_
 refine J zR (U (AD (V (AB zR Dg (AC 0 DT zR (O zR Ao (E zR ?_)))))))
 refine C1 (c:=decide (31<p0.lev)) 7 4 11 zR (fun hb k=>?_) (fun hb k=>?_) ?_
 refine AA zR (AA zR (AA zR (Ad zR zR zR ?_)))
 exact k.mono tL
 refine AB zR Dg (AC 0 DT zR (O zR CD (Ad zR zR zR ?_)))
 exact k.mono tL
 refine U ?_
 refine AG zR (fun hc1=>?_) (fun hc1=>?_)
 replace h:=cT hc1 h
 refine V (J zR (U (AM (Ab ?_))))
 obtain rfl:=Option.some.inj h
 exact AY [] 1 zR zR zR
 replace h:=cF hc1 h
 refine AH (AF (V ?_))
 obtain⟨y1,hy1,h⟩:=bnd h
 obtain⟨low_1,elow_1,h⟩:=Bc h
 refine Aa [Z p0.x,Z p0.y,vI p0.lev] zR Dm zR zR (AZ 0 zR) (AX 0 Y6 ((PN hy1 :)) zR ?_)
 refine O zR (Rz (b:=1)) ?_
 refine As zR zR (Cz CB Bg) ?_
 refine Ak (u:=Z low_1) zR zR (congrArg Z elow_1) ?_
 refine U (V ?_)
 obtain⟨x1,ex1,h⟩:=Bc h
 refine AB zR GG (AC 0 Az zR (AB zR GE (AC 0 Az zR (O zR DF (E zR (O zR GA ?_))))))
 refine O zR (Or (b:=0)) ?_
 refine E zR ?_
 refine CU (c:=decide (max p0.x p0.y<2147483648)) 24 7 31 zR (fun hb k=>?_) (fun hb k=>?_) ?_
 refine AB zR GG (AC 0 Az zR (AB zR GE (AC 0 Az zR (OL zR zR zR ?_))))
 refine O zR (Mu (b:=2147483648)) ?_
 refine Ad zR zR zR ?_
 exact k.mono tL
 refine AA zR (AA zR (AA zR (AA zR (AA zR (AA zR (Ad zR zR zR ?_))))))
 exact k.mono tL
 refine Ak (u:=vB x1) zR zR (congrArg vB ex1) ?_
 refine U (AM ?_)
 obtain rfl:=Option.some.inj h
 exact AY [] 1 zR zR zR
def JO(p0:Sn):Option Bool:=
 ret (((decide (p0.x0≤p0.x1))&&(decide (p0.y0≤p0.y1)))&&(decide (max p0.x1 p0.y1<2147483648))) fun x1=>
 some x1
theorem Tx{p0:Sn}{r:Bool}(h:JO p0=some r): BH Tryz.prog K w0 210 [.agg (U7 p0).toArray] [] H (fun u M=>u=vB r∧M=[]):=by
 unfold JO at h
 refine BH.enter Tryz.func210 rfl rfl ?_
 refine V ?_
 refine BU zR zR (fun _=>trivial) fun b1=>?_
 refine J zR (U (V ?_))
 obtain⟨x1,ex1,h⟩:=Bc h
 refine AB zR cD (AC 0 Az zR (AB zR V4 (AC 0 Az zR (O zR OK (E zR ?_)))))
 refine CU (c:=decide (p0.y0≤p0.y1)) 8 6 14 zR (fun hb k=>?_) (fun hb k=>?_) ?_
 refine AB zR bD (AC 0 Az zR (AB zR Vx (AC 0 Az zR (O zR OK (Ad zR zR zR ?_)))))
 exact k.mono tL
 refine AA zR (AA zR (AA zR (AA zR (AA zR (Ad zR zR zR ?_)))))
 exact k.mono tL
 refine E zR ?_
 refine CU (c:=decide (max p0.x1 p0.y1<2147483648)) 15 7 22 zR (fun hb k=>?_) (fun hb k=>?_) ?_
 refine AB zR V4 (AC 0 Az zR (AB zR Vx (AC 0 Az zR (OL zR zR zR ?_))))
 refine O zR (Mu (b:=2147483648)) ?_
 refine Ad zR zR zR ?_
 exact k.mono tL
 refine AA zR (AA zR (AA zR (AA zR (AA zR (AA zR (Ad zR zR zR ?_))))))
 exact k.mono tL
 refine Ak (u:=vB x1) zR zR (congrArg vB ex1) ?_
 refine U (AM ?_)
 obtain rfl:=Option.some.inj h
 exact AY [] 1 zR zR zR
def Nr(p0:BN):Option Sn:=
 (Gl p0).bind fun y1=>
 ret ((y1-1).toUInt32) fun far_1=>
 some (⟨p0.x,p0.y,p0.x+far_1,p0.y+far_1⟩:Sn)
theorem cK{p0:BN}{r:Sn}(h:Nr p0=some r): BH Tryz.prog K w0 184 [.agg (DA p0).toArray] [] H (fun u M=>u=.agg (U7 r).toArray∧M=[]):=by
 unfold Nr at h
 refine BH.enter Tryz.func184 rfl rfl ?_
 refine V ?_
 refine BU zR zR (fun _=>trivial) fun b1=>?_
 refine Ah zR iy (fun _=>trivial) fun b2=>?_
 refine U (V ?_)
 obtain⟨y1,hy1,h⟩:=bnd h
 obtain⟨far_1,efar_1,h⟩:=Bc h
 refine Aa [Z p0.x,Z p0.y,vI p0.lev] zR Dm zR zR (AZ 1 zR) (AX 0 Y6 ((PN hy1 :)) zR ?_)
 refine O zR (Rz (b:=1)) ?_
 refine As zR zR (Cz CB Bg) ?_
 refine Ak (u:=Z far_1) zR zR (congrArg Z efar_1) ?_
 refine U (V (AB zR GG (AC 1 Az zR (AB zR GE (AC 1 Az zR (AB zR GG (AC 1 Az zR (E zR (O zR BZ ?_)))))))))
 refine AB zR GE (AC 1 Az zR (E zR (O zR BZ (BL [_,_,_,_] zR oO oS iy ⟨zR,zR,zR,zR,zT⟩ zR (Am 0 zR zR zR zR oD zR zR zR zT (U (AM ?_)))))))
 obtain rfl:=Option.some.inj h
 exact AU (Dx zR (BG 0 (U7 (⟨p0.x,p0.y,p0.x+far_1,p0.y+far_1⟩:Sn)) jt zR zR zR zR)) (AV (M:=[]) ⟨zR,zR⟩ fun _ hw=>BJ.pick (H:=[_,_]) hw [] 2 zR)
def PT(p0:Sn)(p1:UInt32)(p2:UInt32):Option Bool:=
 (JO p0).bind fun y1=>
 ret ((((y1&&(decide (p0.x0≤p1)))&&(decide (p1≤p0.x1)))&&(decide (p0.y0≤p2)))&&(decide (p2≤p0.y1))) fun x1=>
 some x1
theorem da{p0:Sn}{p1:UInt32}{p2:UInt32}{r:Bool}(h:PT p0 p1 p2=some r): BH Tryz.prog K w0 183 [.agg (U7 p0).toArray,Z p1,Z p2] [] H (fun u M=>u=vB r∧M=[]):=by
 unfold PT at h
 refine BH.enter Tryz.func183 rfl rfl ?_
 refine V ?_
 refine BU zR zR (fun _=>trivial) fun b1=>?_
 refine J zR (U (V ?_))
 obtain⟨y1,hy1,h⟩:=bnd h
 obtain⟨x1,ex1,h⟩:=Bc h
 refine Aa [Z p0.x0,Z p0.y0,Z p0.x1,Z p0.y1] zR jt zR zR (AZ 0 zR) (AX 0 mm ((Tx hy1 :)) zR (E zR ?_))
 refine CU (c:=decide (p0.x0≤p1)) 9 5 14 zR (fun hb k=>?_) (fun hb k=>?_) ?_
 refine E zR (AB zR cD (AC 0 Az zR (O zR Fp (Ad zR zR zR ?_))))
 exact k.mono tL
 refine AA zR (AA zR (AA zR (AA zR (Ad zR zR zR ?_))))
 exact k.mono tL
 refine E zR ?_
 refine CU (c:=decide (p1≤p0.x1)) 15 5 20 zR (fun hb k=>?_) (fun hb k=>?_) ?_
 refine E zR (AB zR V4 (AC 0 Az zR (O zR OK (Ad zR zR zR ?_))))
 exact k.mono tL
 refine AA zR (AA zR (AA zR (AA zR (Ad zR zR zR ?_))))
 exact k.mono tL
 refine E zR ?_
 refine CU (c:=decide (p0.y0≤p2)) 21 5 26 zR (fun hb k=>?_) (fun hb k=>?_) ?_
 refine E zR (AB zR bD (AC 0 Az zR (O zR Fp (Ad zR zR zR ?_))))
 exact k.mono tL
 refine AA zR (AA zR (AA zR (AA zR (Ad zR zR zR ?_))))
 exact k.mono tL
 refine E zR ?_
 refine CU (c:=decide (p2≤p0.y1)) 27 5 32 zR (fun hb k=>?_) (fun hb k=>?_) ?_
 refine E zR (AB zR Vx (AC 0 Az zR (O zR OK (Ad zR zR zR ?_))))
 exact k.mono tL
 refine AA zR (AA zR (AA zR (AA zR (Ad zR zR zR ?_))))
 exact k.mono tL
 refine Ak (u:=vB x1) zR zR (congrArg vB ex1) ?_
 refine U (AM ?_)
 obtain rfl:=Option.some.inj h
 exact AY [] 1 zR zR zR
def Kh(p0:BN)(p1:UInt32)(p2:UInt32):Option Bool:=
 (Gu p0).bind fun y1=>
 (Ed y1 ((Nr p0).bind fun y2=>(PT y2 p1 p2).bind fun y3=>some (y3))).bind fun y4=>
 some y4
theorem aT{p0:BN}{p1:UInt32}{p2:UInt32}{r:Bool}(h:Kh p0 p1 p2=some r): BH Tryz.prog K w0 138 [.agg (DA p0).toArray,Z p1,Z p2] [] H (fun u M=>u=vB r∧M=[]):=by
 unfold Kh at h
 refine BH.enter Tryz.func138 rfl rfl ?_
 refine V ?_
 refine BU zR zR (fun _=>trivial) fun b1=>?_
 refine J zR (U (V ?_))
 obtain⟨y1,hy1,h⟩:=bnd h
 obtain⟨y4,hy4,h⟩:=bnd h
 refine Aa [Z p0.x,Z p0.y,vI p0.lev] zR Dm zR zR (AZ 0 zR) (AX 0 aK ((OF hy1 :)) zR (E zR ?_))
 refine D1 9 6 15 hy4 zR (fun hb hg1 k=>?_) (fun hb k=>?_) ?_
 obtain⟨y2,hy2,hg1⟩:=bnd hg1
 obtain⟨y3,hy3,hg1⟩:=bnd hg1
 obtain rfl:=Option.some.inj hg1
 refine Aa [Z p0.x,Z p0.y,vI p0.lev] zR Dm zR zR (AZ 0 zR) (AX 0 lh ((cK hy2 :)) zR (E zR (E zR (AX 0 lR ((da hy3 :)) zR (Ad zR zR zR ?_)))))
 exact k.mono tL
 refine AA zR (AA zR (AA zR (AA zR (AA zR (Ad zR zR zR ?_)))))
 exact k.mono tL
 refine J zR (U (AM ?_))
 obtain rfl:=Option.some.inj h
 exact AY [] 1 zR zR zR
def HB(p0:UInt32)(p1:UInt32)(p2:Int):Option BN:=
 (QB p2).bind fun n1=>
 ret ((shl32 1 n1)-1) fun low_1=>
 some (⟨p0 &&& Complement.complement low_1,p1 &&& Complement.complement low_1,p2⟩:BN)
theorem P7{p0:UInt32}{p1:UInt32}{p2:Int}{r:BN}(h:HB p0 p1 p2=some r): BH Tryz.prog K w0 180 [Z p0,Z p1,vI p2] [] H (fun u M=>u=.agg (DA r).toArray∧M=[]):=by
 unfold HB at h
 refine BH.enter Tryz.func180 rfl rfl ?_
 refine V ?_
 refine Ah zR It (fun _=>trivial) fun b1=>?_
 refine U (V ?_)
 obtain⟨n1,hn1,h⟩:=bnd h
 obtain⟨low_1,elow_1,h⟩:=Bc h
 refine E zR ?_
 refine O zR (QM (a:=1) hn1) ?_
 refine O zR (dL (b:=1)) ?_
 refine Ak (u:=Z low_1) zR zR (congrArg Z elow_1) ?_
 refine U (V (E zR (E zR (O zR Ri (E zR (E zR (O zR Ri (E zR (BL [_,_,_] zR Pm Po It ⟨zR,zR,zR,zT⟩ zR ?_)))))))))
 refine Am 0 zR zR zR zR Na zR zR zR zT (U (AM ?_))
 obtain rfl:=Option.some.inj h
 exact AU (Dx zR (BG 0 (DA (⟨p0 &&& Complement.complement low_1,p1 &&& Complement.complement low_1,p2⟩:BN)) Dm zR zR zR zR)) (AV (M:=[]) ⟨zR,zR⟩ fun _ hw=>BJ.pick (H:=[_]) hw [] 1 zR)
def J3(p0:UInt32)(p1:UInt32)(p2:UInt32)(p3:UInt32):Option (BN×Int):=
 cond (decide (2147483648≤max (max (max p0 p1) p2) p3))
 (
  some ((⟨0,0,0⟩:BN),2))
 (
  (Vp ((p0 ^^^ p2) ||| (p1 ^^^ p3))).bind fun y1=>
  (HB p0 p1 y1).bind fun y2=>
  (HB p2 p3 y1).bind fun y3=>
  cond (!(decide (y2.x=y3.x)&&(decide (y2.y=y3.y)&&(decide (y2.lev=y3.lev)&&true))))
  (
   some ((⟨0,0,0⟩:BN),2))
  (
   some (y2,0)))
theorem XB{p0:UInt32}{p1:UInt32}{p2:UInt32}{p3:UInt32}{r:BN×Int}(h:J3 p0 p1 p2 p3=some r): BH Tryz.prog K w0 136 [Z p0,Z p1,Z p2,Z p3] [] H (fun u M=>u=.tuple #[.agg (DA r.1).toArray,vI r.2]∧M=[]):=by
 unfold J3 at h
 refine BH.enter Tryz.func136 rfl rfl ?_
 refine V ?_
 refine Ah zR It (fun _=>trivial) fun b1=>?_
 refine J zR (U (AD (V (E zR (E zR (E zR (E zR (cN zR zR zR zR zR ?_))))))))
 refine O zR (Fp (b:=2147483648)) ?_
 refine U ?_
 refine AG zR (fun hc1=>?_) (fun hc1=>?_)
 replace h:=cT hc1 h
 refine V (BL [] zR Pm Po It zT zR (Am 0 zR zR zR zR Na zR zR zR zT (J zR (U (AM (Ab ?_))))))
 obtain rfl:=Option.some.inj h
 exact AU (Dq zR (BG 0 (DA (⟨0,0,0⟩:BN)) Dm zR zR zR zR) zR) (AV (M:=[]) ⟨zR,zR⟩ fun _ hw=>BJ.pick (H:=[_]) hw [] 1 zR)
 replace h:=cF hc1 h
 refine AH (AF (V ?_))
 obtain⟨y1,hy1,h⟩:=bnd h
 refine E zR (E zR (O zR B5 (E zR (E zR (O zR B5 (O zR DF (AX 0 lM (pN hy1) zR ?_)))))))
 refine J zR (U (V ?_))
 obtain⟨y2,hy2,h⟩:=bnd h
 refine E zR (E zR (E zR (AX 0 gH (P7 hy2) zR ?_)))
 refine Ah zR It (fun _=>trivial) fun b2=>?_
 refine Am 0 zR zR zR zR Na zR zR zR zT (U (AD (AD ?_)))
 obtain⟨y3,hy3,h⟩:=bnd h
 refine Aj CJ [0] (BY [(true,0),(true,1),(true,2),(true,3),(false,4)] (.last 5 .nil)) zK (Aa [Z y2.x,Z y2.y,vI y2.lev] zR Dm zR zR (AZ 0 zR) (E zR (E zR (E zR ?_))))
 refine AP (vs:=[_,_,_]) (Hin:=[]) (Hr:=_::_::_) zR zR ⟨zR,zR,zR,zT⟩ gH zR zR (P7 hy3) ?_
 rintro _ _ ⟨rfl,rfl⟩
 refine⟨⟨⟨0,rfl⟩,trivial⟩,?_⟩
 refine BE ?_
 refine Qw zR kY zR zR (CI zR zR (JK (a:=y2.x) (b:=y3.x)) (CI zR zR (JK (a:=y2.y) (b:=y3.y)) (CI zR zR (Ww (a:=y2.lev) (b:=y3.lev)) Hf))) ?_
 refine U ?_
 refine AG zR (fun hc2=>?_) (fun hc2=>?_)
 replace h:=cT hc2 h
 refine V (BL [] zR Pm Po It zT zR (Am 1 zR zR zR zR Na zR zR zR zT (J zR (U (AM (Ab ?_))))))
 obtain rfl:=Option.some.inj h
 exact AU (Dq zR (BG 1 (DA (⟨0,0,0⟩:BN)) Dm zR zR zR zR) zR) (AV (M:=[]) ⟨zR,zR⟩ fun _ hw=>BJ.pick (H:=[_,_]) hw [] 2 zR)
 replace h:=cF hc2 h
 refine AH (AF (V (Aa [Z y2.x,Z y2.y,vI y2.lev] zR Dm zR zR (AZ 0 zR) (Am 1 zR zR zR zR Na zR zR zR zT (J zR (U (AM ?_)))))))
 obtain rfl:=Option.some.inj h
 exact AU (Dq zR (BG 1 (DA y2) Dm zR zR zR zR) zR) (AV (M:=[]) ⟨zR,zR⟩ fun _ hw=>BJ.pick (H:=[_,_]) hw [] 2 zR)
def HM(p0:AN):Option Bool:=
 ret ((decide (max p0.x p0.y<2147483648))&&(decide ((p0.txt.length:Int)≤16))) fun x1=>
 some x1
theorem Tp{p0:AN}{r:Bool}(h:HM p0=some r): BH Tryz.prog K w0 60 [.agg (AK p0).toArray] [] H (fun u M=>u=vB r∧M=[]):=by
 unfold HM at h
 refine BH.enter Tryz.func60 rfl rfl ?_
 refine V ?_
 refine BU zR zR (fun _=>trivial) fun b1=>?_
 refine J zR (U (V ?_))
 obtain⟨x1,ex1,h⟩:=Bc h
 refine AB zR HA (AC 0 Az zR (AB zR G6 (AC 0 Az zR (OL zR zR zR ?_))))
 refine O zR (Mu (b:=2147483648)) ?_
 refine E zR ?_
 refine CU (c:=decide ((p0.txt.length:Int)≤16)) 9 5 14 zR (fun hb k=>?_) (fun hb k=>?_) ?_
 refine AB zR PU (AC 0 EZ zR (BV zR Bu zR (O zR Gs (Ad zR zR zR ?_))))
 exact k.mono tL
 refine AA zR (AA zR (AA zR (AA zR (Ad zR zR zR ?_))))
 exact k.mono tL
 refine Ak (u:=vB x1) zR zR (congrArg vB ex1) ?_
 refine U (AM ?_)
 obtain rfl:=Option.some.inj h
 exact AY [] 1 zR zR zR
def JW(p0:List AN):Option Bool:=
 ret (decide ((p0.length:Int)≤1000)) fun x3=>
 some x3
def Dw(p0:List AN)(nx_f_quad_Right_l1:Int→Option Bool)(a1:Int):Option Bool:=
 cond (decide (a1<(p0.length:Int)))
 (
  (Aq p0 a1).bind fun x1=>
  (HM x1).bind fun y1=>
  (PJ (!y1) ((Ed (decide (0<a1)) ((Aq p0 (wI (a1-1))).bind fun x2=>some (decide (x1.id≤x2.id)))).bind fun y2=>some (y2))).bind fun y3=>
  cond y3
  (
   some false)
  (
   nx_f_quad_Right_l1 (wI (a1+1))))
 (
  JW p0)
def Fj(p0:List AN):Nat→Int→Option Bool:=Be fun nx x=>Dw p0 nx x
def IE(n:Nat)(p0:List AN):Option Bool:=
 Fj p0 n 0
theorem RQ{n:Nat}{v0_:Value}{p0:List AN}{r:Bool}(h:IE n p0=some r)(hs0_:Bn K w0 AK 4 v0_ p0):BH Tryz.prog K w0 21 [v0_] [] H (fun u M=>u=vB r∧M=[]):=by
 unfold IE at h
 refine BH.enter Tryz.func21 rfl rfl ?_
 refine V (J zR (U ?_))
 refine A1 (α:=Unit) (fun x=>JW p0=some r) (fun x=>[(0,v0_)]) (fun x=>H) ?_ (fun x D h=>?_)
 refine V (E zR (Bb hs0_ zR Bf zR (E zR (U (AL ?_)))))
 refine SX.heap (SX.mono (Ay (α:=Nat×Int) (fun x=>Fj p0 x.1 x.2=some r) (fun x=>[(0,v0_),(5,v0_),(6,vI (p0.length:Int)),(7,vI x.2)]) (fun x=>H) (fun x=>x.1) (fun x D h=>?_) (n,0) h) tL) (fun _ hw=>BJ.pick (H:=[]) hw [] 0 zR)
 obtain⟨m1,a1⟩:=x
 dsimp only at h
 rcases m1 with _ | m1
 cases (show(none:Option _)=some r from h)
 replace h:Dw p0 (Fj p0 m1) a1=some r:=h
 unfold Dw at h
 refine A4 [(0,v0_),(5,v0_),(6,vI (p0.length:Int)),(7,vI a1)] (H) ?_ tL
 refine V (O zR Ao (U (AD ?_)))
 refine AG zR (fun hc1=>?_) (fun hc1=>?_)
 replace h:=cT hc1 h
 refine AH (AF (AD (AL (V ?_))))
 obtain⟨x1,hx1,h⟩:=bnd h
 refine E zR ?_
 refine CP hx1 hs0_ zR Bf Bo zR zR fun be1 of1 hc2=>?_
 refine Aa (AK x1) zR D8 zR zR (Cj hc2) ?_
 refine Ah zR ET (fun _=>trivial) fun b1=>?_
 refine J zR (Am 0 zR zR zR zR Bo zR zR zR zT (U (AD ?_)))
 obtain⟨y1,hy1,h⟩:=bnd h
 obtain⟨y3,hy3,h⟩:=bnd h
 refine Aj CJ [0] (Pl.of [(true,0),(false,1),(false,2),(false,3),(false,4),(false,5),(false,6),(true,7),(true,8),(true,9),(true,10),(true,11),(true,12),(false,13),(false,14),(false,15),(false,16),(false,17)]) zK (Aa [Ag x1.id,Z x1.x,Z x1.y,vS x1.txt] zR D8 zR zR (AZ 0 zR) ?_)
 refine AP (vs:=[_]) (Hin:=[]) (Hr:=_::_) zR zR ⟨zR,zT⟩ p9 zR zR ((Tp hy1 :)) ?_
 rintro _ _ ⟨rfl,rfl⟩
 refine⟨⟨⟨0,rfl⟩,trivial⟩,?_⟩
 refine B9 zR zR (E zR ?_)
 refine Ma 15 14 29 hy3 zR (fun hb k=>?_) (fun hb hg1 k=>?_) ?_
 refine AA zR (AA zR (AA zR (AA zR (AA zR (AA zR (AA zR (AA zR ?_)))))))
 refine AA zR (AA zR (AA zR (AA zR (AA zR (Ad zR zR zR ?_)))))
 exact k.mono tL
 obtain⟨y2,hy2,hg1⟩:=bnd hg1
 obtain rfl:=Option.some.inj hg1
 refine E zR (O zR CD (E zR ?_))
 refine D1 18 10 28 hy2 zR (fun hb hg2 k=>?_) (fun hb k=>?_) ?_
 obtain⟨x2,hx2,hg2⟩:=bnd hg2
 obtain rfl:=Option.some.inj hg2
 refine E zR (E zR (O zR Bp ?_))
 refine CP hx2 hs0_ zR Bf Bo zR zR fun be2 of2 hc3=>?_
 refine AB zR Nh ?_
 refine BR zR MU zR (Ck (j:=0) hc3 zR) ?_
 refine AB zR Nh (AC 0 MU zR (O zR Tf (Ad zR zR zR ?_)))
 exact k.mono tL
 refine AA zR (AA zR (AA zR (AA zR (AA zR (AA zR (AA zR (AA zR ?_)))))))
 refine AA zR (Ad zR zR zR ?_)
 exact k.mono tL
 refine Ad zR zR zR ?_
 exact k.mono tL
 refine U ?_
 refine AG zR (fun hc4=>?_) (fun hc4=>?_)
 replace h:=cT hc4 h
 refine V (J zR (U (AM (BM (Ab (DD (BM (ER ?_))))))))
 obtain rfl:=Option.some.inj h
 exact AY [] 1 zR zR zR
 replace h:=cF hc4 h
 refine AH (Ai (AF (AJ (O zR A3 (E zR (AS ?_))))))
 exact Ac (m1,wI (a1+1)) h (Nat.lt_succ_self _) tL (fun _ hw=>BJ.pick (H:=[_]) hw [] 1 zR)
 replace h:=cF hc1 h
 refine Al (Aw (A9 (Au ?_)))
 exact Av () h tL (fun _ hw=>BJ.pick (H:=[]) hw [] 0 zR)
 unfold JW at h
 refine A4 [(0,v0_)] (H) ?_ tL
 refine V ?_
 obtain⟨x3,ex3,h⟩:=Bc h
 refine E zR (Bb hs0_ zR Bf zR (O zR Gs ?_))
 refine Ak (u:=vB x3) zR zR (congrArg vB ex3) ?_
 refine U (AM ?_)
 obtain rfl:=Option.some.inj h
 exact AY [] 0 zR zR zR
def If(a1:UInt32)(a2:UInt32)(a3:UInt32)(a4:UInt32):Option BN:=
 (J3 a1 a2 a3 a4).bind fun y1=>
 some (⟨y1.1.x,y1.1.y,y1.1.lev⟩:BN)
def De(p0:List AN)(nx_f_quad_around_l1:UInt32×UInt32×UInt32×UInt32×Int→Option BN)(a5:UInt32)(a6:UInt32)(a7:UInt32)(a8:UInt32)(a9:Int):Option BN:=
 cond (decide (a9<(p0.length:Int)))
 (
  (Aq p0 a9).bind fun x5=>
  ret (min a5 x5.x) fun x6=>
  ret (min a6 x5.y) fun y_1=>
  ret (max a7 x5.x) fun u_1=>
  ret (max a8 x5.y) fun x7=>
  nx_f_quad_around_l1 (x6,y_1,u_1,x7,wI (a9+1)))
 (
  If a5 a6 a7 a8)
def FA(p0:List AN):Nat→(UInt32×UInt32×UInt32×UInt32×Int)→Option BN:=Be fun nx x=>De p0 nx x.1 x.2.1 x.2.2.1 x.2.2.2.1 x.2.2.2.2
def HN(n:Nat)(p0:List AN):Option BN:=
 (Aq p0 0).bind fun x1=>
 (Aq p0 0).bind fun x2=>
 (Aq p0 0).bind fun x3=>
 (Aq p0 0).bind fun x4=>
 FA p0 n (x1.x,x2.y,x3.x,x4.y,0)
theorem WY{n:Nat}{v0_:Value}{p0:List AN}{r:BN}(h:HN n p0=some r)(hs0_:Bn K w0 AK 4 v0_ p0):BH Tryz.prog K w0 91 [v0_] [] H (fun u M=>u=.agg (DA r).toArray∧M=[]):=by
 unfold HN at h
 refine BH.enter Tryz.func91 rfl rfl ?_
 refine V ?_
 refine Ah zR It (fun _=>trivial) fun b1=>?_
 refine U (AD ?_)
 obtain⟨x1,hx1,h⟩:=bnd h
 obtain⟨x2,hx2,h⟩:=bnd h
 obtain⟨x3,hx3,h⟩:=bnd h
 obtain⟨x4,hx4,h⟩:=bnd h
 refine Aj CJ [] (Pl.of [(true,0),(true,1),(true,2),(true,3),(true,4),(true,5),(true,6),(true,7),(true,8),(true,9),(true,10),(true,11),(true,12),(true,13),(true,14),(true,15),(true,16),(true,17),(true,18),(true,19)]) zK (E zR ?_)
 refine CP hx1 hs0_ zR Bf Bo zR zR fun be1 of1 hc1=>?_
 refine AB zR HA ?_
 refine BR zR Az zR (Ck (j:=1) hc1 zR) ?_
 refine E zR ?_
 refine CP hx2 hs0_ zR Bf Bo zR zR fun be2 of2 hc2=>?_
 refine AB zR G6 ?_
 refine BR zR Az zR (Ck (j:=2) hc2 zR) ?_
 refine E zR ?_
 refine CP hx3 hs0_ zR Bf Bo zR zR fun be3 of3 hc3=>?_
 refine AB zR HA ?_
 refine BR zR Az zR (Ck (j:=1) hc3 zR) ?_
 refine E zR ?_
 refine CP hx4 hs0_ zR Bf Bo zR zR fun be4 of4 hc4=>?_
 refine AB zR G6 ?_
 refine BR zR Az zR (Ck (j:=2) hc4 zR) ?_
 refine J zR (J zR (J zR (J zR (U ?_))))
 refine A1 (α:=UInt32×UInt32×UInt32×UInt32) (fun x=>If x.1 x.2.1 x.2.2.1 x.2.2.2=some r) (fun x=>[(2,vP b1 0),(3,Z x.1),(4,Z x.2.1),(5,Z x.2.2.1),(6,Z x.2.2.2)]) (fun x=>AI b1 (.cells #[Z 0,Z 0,vI 0] 54)::H) ?_ (fun x D h=>?_)
 refine V (E zR (Bb hs0_ zR Bf zR (E zR (U (AL ?_)))))
 refine SX.heap (SX.mono (Ay (α:=Nat×UInt32×UInt32×UInt32×UInt32×Int) (fun x=>FA p0 x.1 (x.2.1,x.2.2.1,x.2.2.2.1,x.2.2.2.2.1,x.2.2.2.2.2)=some r) (fun x=>[(2,vP b1 0),(3,Z x.2.1),(4,Z x.2.2.1),(5,Z x.2.2.2.1),(6,Z x.2.2.2.2.1),(27,v0_),(28,vI (p0.length:Int)),(29,vI x.2.2.2.2.2)]) (fun x=>AI b1 (.cells #[Z 0,Z 0,vI 0] 54)::H) (fun x=>x.1) (fun x D h=>?_) (n,x1.x,x2.y,x3.x,x4.y,0) h) tL) (fun _ hw=>BJ.pick (H:=[_]) hw [0] 1 zR)
 obtain⟨m1,a5,a6,a7,a8,a9⟩:=x
 dsimp only at h
 rcases m1 with _ | m1
 cases (show(none:Option _)=some r from h)
 replace h:De p0 (FA p0 m1) a5 a6 a7 a8 a9=some r:=h
 unfold De at h
 refine A4 [(2,vP b1 0),(3,Z a5),(4,Z a6),(5,Z a7),(6,Z a8),(27,v0_),(28,vI (p0.length:Int)),(29,vI a9)] (AI b1 (.cells #[Z 0,Z 0,vI 0] 54)::H) ?_ tL
 refine V (O zR Ao (U (AD ?_)))
 refine AG zR (fun hc5=>?_) (fun hc5=>?_)
 replace h:=cT hc5 h
 refine AH (AF (AD (AL (V ?_))))
 obtain⟨x5,hx5,h⟩:=bnd h
 refine CP hx5 hs0_ zR Bf Bo zR zR fun be5 of5 hc6=>?_
 refine Aa (AK x5) zR D8 zR zR (Cj hc6) ?_
 refine Ah zR ET (fun _=>trivial) fun b2=>?_
 refine Am 0 zR zR zR zR Bo zR zR zR zT (U ?_)
 obtain⟨x6,ex6,h⟩:=Bc h
 obtain⟨y_1,ey_1,h⟩:=Bc h
 obtain⟨u_1,eu_1,h⟩:=Bc h
 obtain⟨x7,ex7,h⟩:=Bc h
 refine Aj CJ [0] (Pl.of [(true,0),(true,1),(true,2),(true,3),(true,4),(true,5),(true,6),(true,7),(true,8),(true,9),(true,10),(true,11),(true,12),(true,13),(true,14),(true,15),(true,16),(true,17),(true,18),(true,19)]) zK (E zR (AB zR HA (AC 0 Az zR (Xv zR zR zR (E zR (AB zR G6 (AC 0 Az zR ?_)))))))
 refine Xv zR zR zR (E zR (AB zR HA (AC 0 Az zR (OL zR zR zR (E zR (AB zR G6 (AC 0 Az zR ?_)))))))
 refine OL zR zR zR ?_
 refine Ak (u:=Z x6) zR zR (congrArg Z ex6) ?_
 refine Ak (u:=Z y_1) zR zR (congrArg Z ey_1) ?_
 refine Ak (u:=Z u_1) zR zR (congrArg Z eu_1) ?_
 refine Ak (u:=Z x7) zR zR (congrArg Z ex7) ?_
 refine AS (Ai (AF (AJ (O zR A3 (E zR (AS ?_))))))
 exact Ac (m1,x6,y_1,u_1,x7,wI (a9+1)) h (Nat.lt_succ_self _) tL (fun _ hw=>BJ.pick (H:=[_,_]) hw [1] 2 zR)
 replace h:=cF hc5 h
 refine Al (Aw (A9 (Au ?_)))
 exact Av (a5,a6,a7,a8) h tL (fun _ hw=>BJ.pick (H:=[_]) hw [0] 1 zR)
 obtain⟨a1,a2,a3,a4⟩:=x
 dsimp only at h
 unfold If at h
 refine A4 [(2,vP b1 0),(3,Z a1),(4,Z a2),(5,Z a3),(6,Z a4)] (AI b1 (.cells #[Z 0,Z 0,vI 0] 54)::H) ?_ tL
 refine V ?_
 obtain⟨y1,hy1,h⟩:=bnd h
 refine E zR (E zR (E zR (E zR (AX 0 mu (XB hy1) zR (E zR (Ap zR zR zR (Ap zR zR zR ?_)))))))
 refine Ah zR It (fun _=>trivial) fun b3=>?_
 refine Am 0 zR zR zR zR Na zR zR zR zT (J zR (U (V (Aa [Z y1.1.x,Z y1.1.y,vI y1.1.lev] zR Dm zR zR (AZ 0 zR) (Am 1 zR zR zR zR Na zR zR zR zT (U (AM ?_)))))))
 obtain rfl:=Option.some.inj h
 exact AU (Dx zR (BG 1 (DA (⟨y1.1.x,y1.1.y,y1.1.lev⟩:BN)) Dm zR zR zR zR)) (AV (M:=[]) ⟨zR,zR⟩ fun _ hw=>BJ.pick (H:=[_,_]) hw [] 2 zR)
def HR(p0:Af):Option Bool:=
 ret (decide (p0.page=0)&&(decide (p0.tag=[])&&true)) fun x1=>
 some x1
theorem QV{p0:Af}{r:Bool}(h:HR p0=some r): BH Tryz.prog K w0 165 [.agg (Ae p0).toArray] [] H (fun u M=>u=vB r∧M=[]):=by
 unfold HR at h
 refine BH.enter Tryz.func165 rfl rfl ?_
 refine V ?_
 refine BU zR zR (fun _=>trivial) fun b1=>?_
 refine J zR (U (V ?_))
 obtain⟨x1,ex1,h⟩:=Bc h
 refine Aa [Z p0.page,vS p0.tag] zR CR zR zR (AZ 0 zR) (BL [] zR K4 Kv DQ zT zR ?_)
 refine Qp zR gC zR zR (CI zR zR (JK (a:=p0.page) (b:=0)) (CI zR zR (R3 (a:=p0.tag) (b:=[])) Hf)) ?_
 refine Ak (u:=vB x1) zR zR (congrArg vB ex1) ?_
 refine U (AM ?_)
 obtain rfl:=Option.some.inj h
 exact AY [] 1 zR zR zR
def Gf(p0:List AN):Option (List AN):=
 (JB p0 0 (min (p0.length:Int) 24)).bind fun l1=>
 some l1
theorem Ml{v0_:Value}{p0:List AN}{r:List AN}(h:Gf p0=some r)(hs0_:Bn K w0 AK 4 v0_ p0):BH Tryz.prog K w0 20 [v0_] [] H (fun u M=>∃v0:Value,u=v0∧Bn K w0 AK 4 v0 r∧M=[]):=by
 unfold Gf at h
 refine BH.enter Tryz.func20 rfl rfl ?_
 refine V (Bx 79 4 AK (J zR (U (V ?_))))
 obtain⟨l1,hl1,h⟩:=bnd h
 refine E zR (E zR (Bb hs0_ zR Bf zR (Oe zR zR zR ?_)))
 refine lE hl1 hs0_ zR Bf Bo zR zR fun v1 hs1=>?_
 refine J zR (U (AM ?_))
 obtain rfl:=Option.some.inj h
 exact AU (Co zR zR) (AV (M:=[]) ⟨v1,zR,hs1,zR⟩ fun _ hw=>BJ.pick (H:=[_]) hw [] 1 zR)
def IJ(p0:List A5):Option Af:=
 cond (decide ((p0.length:Int)=0))
 (
  some (⟨0,[]⟩:Af))
 (
  (Aq p0 (wI ((p0.length:Int)-1))).bind fun x1=>
  some (⟨x1.page,x1.tag⟩:Af))
theorem XE{v0_:Value}{p0:List A5}{r:Af}(h:IJ p0=some r)(hs0_:Bn K w0 An 3 v0_ p0):BH Tryz.prog K w0 22 [v0_] [] H (fun u M=>u=.agg (Ae r).toArray∧M=[]):=by
 unfold IJ at h
 refine BH.enter Tryz.func22 rfl rfl ?_
 refine V ?_
 refine Ah zR DQ (fun _=>trivial) fun b1=>?_
 refine U (AD (V (E zR (Bb hs0_ zR HG zR (O zR Bq (U ?_))))))
 refine AG zR (fun hc1=>?_) (fun hc1=>?_)
 replace h:=cT hc1 h
 refine V (BL [] zR K4 Kv DQ zT zR (Am 0 zR zR zR zR C2 zR zR zR zT (U (AM (Ab ?_)))))
 obtain rfl:=Option.some.inj h
 exact AU (Dx zR (BG 0 (Ae (⟨0,[]⟩:Af)) CR zR zR zR zR)) (AV (M:=[]) ⟨zR,zR⟩ fun _ hw=>BJ.pick (H:=[_]) hw [] 1 zR)
 replace h:=cF hc1 h
 refine AH (AF (V ?_))
 obtain⟨x1,hx1,h⟩:=bnd h
 refine E zR (E zR (Bb hs0_ zR HG zR (O zR Bp ?_)))
 refine CP hx1 hs0_ zR HG LQ zR zR fun be1 of1 hc2=>?_
 refine AB zR Sr ?_
 refine Aa [Z x1.page,vS x1.tag] zR CR zR zR (ew (d:=1) hc2 zR) ?_
 refine Am 0 zR zR zR zR C2 zR zR zR zT (U (AM ?_))
 obtain rfl:=Option.some.inj h
 exact AU (Dx zR (BG 0 (Ae (⟨x1.page,x1.tag⟩:Af)) CR zR zR zR zR)) (AV (M:=[]) ⟨zR,zR⟩ fun _ hw=>BJ.pick (H:=[_]) hw [] 1 zR)
def Lp:Option Bool:=
 some true
def Fz(p0:List AN)(p1:List AN)(nx_f_ref09_Same_l1:Int→Option Bool)(a1:Int):Option Bool:=
 cond (decide (a1<(p0.length:Int)))
 (
  (Aq p0 a1).bind fun x1=>
  (Aq p1 a1).bind fun x2=>
  cond (!(decide (x1.id=x2.id)&&(decide (x1.x=x2.x)&&(decide (x1.y=x2.y)&&(decide (x1.txt=x2.txt)&&true)))))
  (
   some false)
  (
   ret (wI (a1+1)) fun i_1=>
   nx_f_ref09_Same_l1 i_1))
 (
  Lp)
def JT(p0:List AN)(p1:List AN):Nat→Int→Option Bool:=Be fun nx x=>Fz p0 p1 nx x
def IM(n:Nat)(p0:List AN)(p1:List AN):Option Bool:=
 cond (!decide ((p0.length:Int)=(p1.length:Int)))
 (
  some false)
 (
  JT p0 p1 n 0)
theorem W5{n:Nat}{v0_:Value}{p0:List AN}{v1_:Value}{p1:List AN}{r:Bool}(h:IM n p0 p1=some r)(hs0_:Bn K w0 AK 4 v0_ p0)(hs1_:Bn K w0 AK 4 v1_ p1):BH Tryz.prog K w0 17 [v0_,v1_] [] H (fun u M=>u=vB r∧M=[]):=by
 unfold IM at h
 refine BH.enter Tryz.func17 rfl rfl ?_
 refine V (J zR (U (AD (V (E zR (Bb hs0_ zR Bf zR (E zR (Bb hs1_ zR Bf zR (O zR Bh (U ?_))))))))))
 refine AG zR (fun hc1=>?_) (fun hc1=>?_)
 replace h:=cT hc1 h
 refine V (J zR (U (AM (Ab ?_))))
 obtain rfl:=Option.some.inj h
 exact AY [] 0 zR zR zR
 replace h:=cF hc1 h
 refine AH (AF ?_)
 refine A1 (α:=Unit) (fun x=>Lp=some r) (fun x=>[]) (fun x=>H) ?_ (fun x D h=>?_)
 refine V (J zR (U (AL ?_)))
 refine SX.heap (SX.mono (Ay (α:=Nat×Int) (fun x=>JT p0 p1 x.1 x.2=some r) (fun x=>[(0,v0_),(1,v1_),(5,vI x.2)]) (fun x=>H) (fun x=>x.1) (fun x D h=>?_) (n,0) h) tL) (fun _ hw=>BJ.pick (H:=[]) hw [] 0 zR)
 obtain⟨m1,a1⟩:=x
 dsimp only at h
 rcases m1 with _ | m1
 cases (show(none:Option _)=some r from h)
 replace h:Fz p0 p1 (JT p0 p1 m1) a1=some r:=h
 unfold Fz at h
 refine A4 [(0,v0_),(1,v1_),(5,vI a1)] (H) ?_ tL
 refine AD (V (E zR (E zR (Bb hs0_ zR Bf zR (O zR Ao (U ?_))))))
 refine AG zR (fun hc2=>?_) (fun hc2=>?_)
 replace h:=cT hc2 h
 refine AH (AF (AD (AL (AD ?_))))
 obtain⟨x1,hx1,h⟩:=bnd h
 obtain⟨x2,hx2,h⟩:=bnd h
 refine Aj CJ [] (Pl.of [(true,0),(true,1),(true,2),(true,3),(true,4),(true,5),(true,6),(true,7),(true,8)]) zK (E zR (E zR ?_))
 refine CP hx1 hs0_ zR Bf Bo zR zR fun be1 of1 hc3=>?_
 refine Aa (AK x1) zR D8 zR zR (Cj hc3) (E zR (E zR ?_))
 refine CP hx2 hs1_ zR Bf Bo zR zR fun be2 of2 hc4=>?_
 refine Aa (AK x2) zR D8 zR zR (Cj hc4) ?_
 refine Qw zR rC zR zR (CI zR zR (mU (a:=x1.id) (b:=x2.id)) (CI zR zR (JK (a:=x1.x) (b:=x2.x)) (CI zR zR (JK (a:=x1.y) (b:=x2.y)) (CI zR zR (R3 (a:=x1.txt) (b:=x2.txt)) Hf)))) ?_
 refine U ?_
 refine AG zR (fun hc5=>?_) (fun hc5=>?_)
 replace h:=cT hc5 h
 refine V (J zR (U (AM (BM (Ab (DD (BM (ER ?_))))))))
 obtain rfl:=Option.some.inj h
 exact AY [] 0 zR zR zR
 replace h:=cF hc5 h
 refine AH (Ai (AF (AJ ?_)))
 obtain⟨i_1,ei_1,h⟩:=Bc h
 refine E zR (O zR A3 ?_)
 refine Ak (u:=vI i_1) zR zR (congrArg vI ei_1) ?_
 refine AS ?_
 exact Ac (m1,i_1) h (Nat.lt_succ_self _) tL (fun _ hw=>BJ.pick (H:=[]) hw [] 0 zR)
 replace h:=cF hc2 h
 refine Al (Aw (A9 (Au ?_)))
 exact Av () h tL (fun _ hw=>BJ.pick (H:=[]) hw [] 0 zR)
 unfold Lp at h
 refine A4 [] (H) ?_ tL
 refine V (J zR (U (AM ?_)))
 obtain rfl:=Option.some.inj h
 exact AY [] 0 zR zR zR
def LY:Option Bool:=
 some true
def F3(p0:List A5)(p1:List A5)(nx_f_ref14_Same_l1:Int→Option Bool)(a1:Int):Option Bool:=
 cond (decide (a1<(p0.length:Int)))
 (
  (Aq p0 a1).bind fun x1=>
  (Aq p1 a1).bind fun x2=>
  cond (!(decide (x1.txt=x2.txt)&&(decide (x1.page=x2.page)&&(decide (x1.tag=x2.tag)&&true))))
  (
   some false)
  (
   ret (wI (a1+1)) fun i_1=>
   nx_f_ref14_Same_l1 i_1))
 (
  LY)
def JZ(p0:List A5)(p1:List A5):Nat→Int→Option Bool:=Be fun nx x=>F3 p0 p1 nx x
def Gz(n:Nat)(p0:List A5)(p1:List A5):Option Bool:=
 cond (!decide ((p0.length:Int)=(p1.length:Int)))
 (
  some false)
 (
  JZ p0 p1 n 0)
theorem Nv{n:Nat}{v0_:Value}{p0:List A5}{v1_:Value}{p1:List A5}{r:Bool}(h:Gz n p0 p1=some r)(hs0_:Bn K w0 An 3 v0_ p0)(hs1_:Bn K w0 An 3 v1_ p1):BH Tryz.prog K w0 18 [v0_,v1_] [] H (fun u M=>u=vB r∧M=[]):=by
 unfold Gz at h
 refine BH.enter Tryz.func18 rfl rfl ?_
 refine V (J zR (U (AD (V (E zR (Bb hs0_ zR HG zR (E zR (Bb hs1_ zR HG zR (O zR Bh (U ?_))))))))))
 refine AG zR (fun hc1=>?_) (fun hc1=>?_)
 replace h:=cT hc1 h
 refine V (J zR (U (AM (Ab ?_))))
 obtain rfl:=Option.some.inj h
 exact AY [] 0 zR zR zR
 replace h:=cF hc1 h
 refine AH (AF ?_)
 refine A1 (α:=Unit) (fun x=>LY=some r) (fun x=>[]) (fun x=>H) ?_ (fun x D h=>?_)
 refine V (J zR (U (AL ?_)))
 refine SX.heap (SX.mono (Ay (α:=Nat×Int) (fun x=>JZ p0 p1 x.1 x.2=some r) (fun x=>[(0,v0_),(1,v1_),(5,vI x.2)]) (fun x=>H) (fun x=>x.1) (fun x D h=>?_) (n,0) h) tL) (fun _ hw=>BJ.pick (H:=[]) hw [] 0 zR)
 obtain⟨m1,a1⟩:=x
 dsimp only at h
 rcases m1 with _ | m1
 cases (show(none:Option _)=some r from h)
 replace h:F3 p0 p1 (JZ p0 p1 m1) a1=some r:=h
 unfold F3 at h
 refine A4 [(0,v0_),(1,v1_),(5,vI a1)] (H) ?_ tL
 refine AD (V (E zR (E zR (Bb hs0_ zR HG zR (O zR Ao (U ?_))))))
 refine AG zR (fun hc2=>?_) (fun hc2=>?_)
 replace h:=cT hc2 h
 refine AH (AF (AD (AL (AD ?_))))
 obtain⟨x1,hx1,h⟩:=bnd h
 obtain⟨x2,hx2,h⟩:=bnd h
 refine Aj CJ [] (Pl.of [(true,0),(true,1),(true,2),(true,3),(true,4),(true,5),(true,6),(true,7),(true,8)]) zK (E zR (E zR ?_))
 refine CP hx1 hs0_ zR HG LQ zR zR fun be1 of1 hc3=>?_
 refine Aa (An x1) zR kL zR zR (Cj hc3) (E zR (E zR ?_))
 refine CP hx2 hs1_ zR HG LQ zR zR fun be2 of2 hc4=>?_
 refine Aa (An x2) zR kL zR zR (Cj hc4) ?_
 refine dq zR (show gD Tryz.prog 72=some [(0,.string),(1,.int .u32),(2,.string)] by kernel_rfl) zR zR (CI zR zR (R3 (a:=x1.txt) (b:=x2.txt)) (CI zR zR (JK (a:=x1.page) (b:=x2.page)) (CI zR zR (R3 (a:=x1.tag) (b:=x2.tag)) Hf))) ?_
 refine U ?_
 refine AG zR (fun hc5=>?_) (fun hc5=>?_)
 replace h:=cT hc5 h
 refine V (J zR (U (AM (BM (Ab (DD (BM (ER ?_))))))))
 obtain rfl:=Option.some.inj h
 exact AY [] 0 zR zR zR
 replace h:=cF hc5 h
 refine AH (Ai (AF (AJ ?_)))
 obtain⟨i_1,ei_1,h⟩:=Bc h
 refine E zR (O zR A3 ?_)
 refine Ak (u:=vI i_1) zR zR (congrArg vI ei_1) ?_
 refine AS ?_
 exact Ac (m1,i_1) h (Nat.lt_succ_self _) tL (fun _ hw=>BJ.pick (H:=[]) hw [] 0 zR)
 replace h:=cF hc2 h
 refine Al (Aw (A9 (Au ?_)))
 exact Av () h tL (fun _ hw=>BJ.pick (H:=[]) hw [] 0 zR)
 unfold LY at h
 refine A4 [] (H) ?_ tL
 refine V (J zR (U (AM ?_)))
 obtain rfl:=Option.some.inj h
 exact AY [] 0 zR zR zR
def EM(p0:AN):Option Bool:=
 ret (((decide (p0.x<2147483648))&&(decide (p0.y<2147483648)))&&(decide ((p0.txt.length:Int)≤16))) fun x1=>
 some x1
theorem SY{p0:AN}{r:Bool}(h:EM p0=some r): BH Tryz.prog K w0 94 [.agg (AK p0).toArray] [] H (fun u M=>u=vB r∧M=[]):=by
 unfold EM at h
 refine BH.enter Tryz.func94 rfl rfl ?_
 refine V ?_
 refine BU zR zR (fun _=>trivial) fun b1=>?_
 refine J zR (U (V ?_))
 obtain⟨x1,ex1,h⟩:=Bc h
 refine AB zR HA (AC 0 Az zR ?_)
 refine O zR (Mu (b:=2147483648)) ?_
 refine E zR ?_
 refine CU (c:=decide (p0.y<2147483648)) 6 4 10 zR (fun hb k=>?_) (fun hb k=>?_) ?_
 refine AB zR G6 (AC 0 Az zR ?_)
 refine O zR (Mu (b:=2147483648)) ?_
 refine Ad zR zR zR ?_
 exact k.mono tL
 refine AA zR (AA zR (AA zR (Ad zR zR zR ?_)))
 exact k.mono tL
 refine E zR ?_
 refine CU (c:=decide ((p0.txt.length:Int)≤16)) 11 5 16 zR (fun hb k=>?_) (fun hb k=>?_) ?_
 refine AB zR PU (AC 0 EZ zR (BV zR Bu zR (O zR Gs (Ad zR zR zR ?_))))
 exact k.mono tL
 refine AA zR (AA zR (AA zR (AA zR (Ad zR zR zR ?_))))
 exact k.mono tL
 refine Ak (u:=vB x1) zR zR (congrArg vB ex1) ?_
 refine U (AM ?_)
 obtain rfl:=Option.some.inj h
 exact AY [] 1 zR zR zR
def K7:Option Bool:=
 some true
def CS(p0:List AN)(nx_f_ref09_Right_l1:Int→Option Bool)(a1:Int):Option Bool:=
 cond (decide (a1<(p0.length:Int)))
 (
  (Aq p0 a1).bind fun x1=>
  (EM x1).bind fun y1=>
  (PJ (!y1) ((Ed (decide (0<a1)) ((Aq p0 (wI (a1-1))).bind fun x2=>(Aq p0 a1).bind fun x3=>some (decide (x3.id≤x2.id)))).bind fun y2=>some (y2))).bind fun y3=>
  cond y3
  (
   some false)
  (
   ret (wI (a1+1)) fun i_1=>
   nx_f_ref09_Right_l1 i_1))
 (
  K7)
def Cu(p0:List AN):Nat→Int→Option Bool:=Be fun nx x=>CS p0 nx x
def E2(n:Nat)(p0:List AN):Option Bool:=
 cond (decide (1000<(p0.length:Int)))
 (
  some false)
 (
  Cu p0 n 0)
theorem Qj{n:Nat}{v0_:Value}{p0:List AN}{r:Bool}(h:E2 n p0=some r)(hs0_:Bn K w0 AK 4 v0_ p0):BH Tryz.prog K w0 63 [v0_] [] H (fun u M=>u=vB r∧M=[]):=by
 unfold E2 at h
 refine BH.enter Tryz.func63 rfl rfl ?_
 refine V (J zR (U (AD (V (E zR (Bb hs0_ zR Bf zR (O zR CD (U ?_))))))))
 refine AG zR (fun hc1=>?_) (fun hc1=>?_)
 replace h:=cT hc1 h
 refine V (J zR (U (AM (Ab ?_))))
 obtain rfl:=Option.some.inj h
 exact AY [] 0 zR zR zR
 replace h:=cF hc1 h
 refine AH (AF ?_)
 refine A1 (α:=Unit) (fun x=>K7=some r) (fun x=>[]) (fun x=>H) ?_ (fun x D h=>?_)
 refine V (J zR (U (AL ?_)))
 refine SX.heap (SX.mono (Ay (α:=Nat×Int) (fun x=>Cu p0 x.1 x.2=some r) (fun x=>[(0,v0_),(3,vI x.2)]) (fun x=>H) (fun x=>x.1) (fun x D h=>?_) (n,0) h) tL) (fun _ hw=>BJ.pick (H:=[]) hw [] 0 zR)
 obtain⟨m1,a1⟩:=x
 dsimp only at h
 rcases m1 with _ | m1
 cases (show(none:Option _)=some r from h)
 replace h:CS p0 (Cu p0 m1) a1=some r:=h
 unfold CS at h
 refine A4 [(0,v0_),(3,vI a1)] (H) ?_ tL
 refine AD (V (E zR (E zR (Bb hs0_ zR Bf zR (O zR Ao (U ?_))))))
 refine AG zR (fun hc2=>?_) (fun hc2=>?_)
 replace h:=cT hc2 h
 refine AH (AF (AD (AL (V ?_))))
 obtain⟨x1,hx1,h⟩:=bnd h
 obtain⟨y1,hy1,h⟩:=bnd h
 refine E zR (E zR ?_)
 refine CP hx1 hs0_ zR Bf Bo zR zR fun be1 of1 hc3=>?_
 refine Aa (AK x1) zR D8 zR zR (Cj hc3) (AX 0 ol ((SY hy1 :)) zR (J zR (U (AD ?_))))
 obtain⟨y3,hy3,h⟩:=bnd h
 refine Aj CJ [] (Pl.of [(true,0),(true,1),(true,2),(true,3),(true,4),(true,5),(true,6),(true,7),(true,8),(true,9),(true,10),(true,11),(true,12),(true,13),(true,14),(true,15),(true,16),(true,17),(true,18),(true,19)]) zK (E zR (B9 zR zR (E zR ?_)))
 refine Ma 21 17 38 hy3 zR (fun hb k=>?_) (fun hb hg1 k=>?_) ?_
 refine AA zR (AA zR (AA zR (AA zR (AA zR (AA zR (AA zR (AA zR ?_)))))))
 refine AA zR (AA zR (AA zR (AA zR (AA zR (AA zR (AA zR (AA zR ?_)))))))
 refine Ad zR zR zR ?_
 exact k.mono tL
 obtain⟨y2,hy2,hg1⟩:=bnd hg1
 obtain rfl:=Option.some.inj hg1
 refine E zR (O zR CD (E zR ?_))
 refine D1 24 13 37 hy2 zR (fun hb hg2 k=>?_) (fun hb k=>?_) ?_
 obtain⟨x2,hx2,hg2⟩:=bnd hg2
 obtain⟨x3,hx3,hg2⟩:=bnd hg2
 obtain rfl:=Option.some.inj hg2
 refine E zR (E zR (O zR Bp ?_))
 refine CP hx2 hs0_ zR Bf Bo zR zR fun be2 of2 hc4=>?_
 refine AB zR Nh ?_
 refine BR zR MU zR (Ck (j:=0) hc4 zR) ?_
 refine E zR (E zR ?_)
 refine CP hx3 hs0_ zR Bf Bo zR zR fun be3 of3 hc5=>?_
 refine AB zR Nh ?_
 refine BR zR MU zR (Ck (j:=0) hc5 zR) ?_
 refine O zR Tf (Ad zR zR zR ?_)
 exact k.mono tL
 refine AA zR (AA zR (AA zR (AA zR (AA zR (AA zR (AA zR (AA zR ?_)))))))
 refine AA zR (AA zR (AA zR (AA zR (Ad zR zR zR ?_))))
 exact k.mono tL
 refine Ad zR zR zR ?_
 exact k.mono tL
 refine U ?_
 refine AG zR (fun hc6=>?_) (fun hc6=>?_)
 replace h:=cT hc6 h
 refine V (J zR (U (AM (BM (Ab (DD (BM (ER ?_))))))))
 obtain rfl:=Option.some.inj h
 exact AY [] 0 zR zR zR
 replace h:=cF hc6 h
 refine AH (Ai (AF (AJ ?_)))
 obtain⟨i_1,ei_1,h⟩:=Bc h
 refine E zR (O zR A3 ?_)
 refine Ak (u:=vI i_1) zR zR (congrArg vI ei_1) ?_
 refine AS ?_
 exact Ac (m1,i_1) h (Nat.lt_succ_self _) tL (fun _ hw=>BJ.pick (H:=[]) hw [] 0 zR)
 replace h:=cF hc2 h
 refine Al (Aw (A9 (Au ?_)))
 exact Av () h tL (fun _ hw=>BJ.pick (H:=[]) hw [] 0 zR)
 unfold K7 at h
 refine A4 [] (H) ?_ tL
 refine V (J zR (U (AM ?_)))
 obtain rfl:=Option.some.inj h
 exact AY [] 0 zR zR zR
def Et(p0:BN):Option UInt64:=
 ret (shl64 1 (BK p0.lev).toNat) fun x1=>
 some x1
theorem J2{p0:BN}{r:UInt64}(h:Et p0=some r): BH Tryz.prog K w0 140 [.agg (DA p0).toArray] [] H (fun u M=>u=Ag r∧M=[]):=by
 unfold Et at h
 refine BH.enter Tryz.func140 rfl rfl ?_
 refine V ?_
 refine BU zR zR (fun _=>trivial) fun b1=>?_
 refine J zR (U (V ?_))
 obtain⟨x1,ex1,h⟩:=Bc h
 refine AB zR Dg (AC 0 DT zR (As zR zR (Cr Ef HF) ?_))
 refine O zR (D4.shl64 (a:=1) (k:=.u64) (n:=(BK p0.lev).toNat)) ?_
 refine Ak (u:=Ag x1) zR zR (congrArg Ag ex1) ?_
 refine U (AM ?_)
 obtain rfl:=Option.some.inj h
 exact AY [] 1 zR zR zR
def Do(p0:BN):Option Bool:=
 cond ((((decide (p0.lev<0))||(decide (31<p0.lev)))||(decide (2147483648≤p0.x)))||(decide (2147483648≤p0.y)))
 (
  some false)
 (
  (Et p0).bind fun y1=>
  (TU p0.x.toUInt64 y1).bind fun q1=>
  (Ed (decide (q1=0)) ((Et p0).bind fun y2=>(TU p0.y.toUInt64 y2).bind fun q2=>some (decide (q2=0)))).bind fun y3=>
  some y3)
theorem NE{p0:BN}{r:Bool}(h:Do p0=some r): BH Tryz.prog K w0 139 [.agg (DA p0).toArray] [] H (fun u M=>u=vB r∧M=[]):=by
 unfold Do at h
 refine BH.enter Tryz.func139 rfl rfl ?_
 refine V ?_
 refine BU zR zR (fun _=>trivial) fun b1=>?_
 refine J zR (U (AD (V (AB zR Dg (AC 0 DT zR (O zR Ao (E zR ?_)))))))
 refine C1 (c:=decide (31<p0.lev)) 6 4 10 zR (fun hb k=>?_) (fun hb k=>?_) ?_
 refine AA zR (AA zR (AA zR (Ad zR zR zR ?_)))
 exact k.mono tL
 refine AB zR Dg (AC 0 DT zR (O zR CD (Ad zR zR zR ?_)))
 exact k.mono tL
 refine E zR ?_
 refine C1 (c:=decide (2147483648≤p0.x)) 11 4 15 zR (fun hb k=>?_) (fun hb k=>?_) ?_
 refine AA zR (AA zR (AA zR (Ad zR zR zR ?_)))
 exact k.mono tL
 refine AB zR GG (AC 0 Az zR ?_)
 refine O zR (Fp (b:=2147483648)) ?_
 refine Ad zR zR zR ?_
 exact k.mono tL
 refine E zR ?_
 refine C1 (c:=decide (2147483648≤p0.y)) 16 4 20 zR (fun hb k=>?_) (fun hb k=>?_) ?_
 refine AA zR (AA zR (AA zR (Ad zR zR zR ?_)))
 exact k.mono tL
 refine AB zR GE (AC 0 Az zR ?_)
 refine O zR (Fp (b:=2147483648)) ?_
 refine Ad zR zR zR ?_
 exact k.mono tL
 refine U ?_
 refine AG zR (fun hc1=>?_) (fun hc1=>?_)
 replace h:=cT hc1 h
 refine V (J zR (U (AM (Ab ?_))))
 obtain rfl:=Option.some.inj h
 exact AY [] 1 zR zR zR
 replace h:=cF hc1 h
 refine AH (AF (AD ?_))
 obtain⟨y1,hy1,h⟩:=bnd h
 obtain⟨q1,hq1,h⟩:=bnd h
 obtain⟨y3,hy3,h⟩:=bnd h
 refine Aj CJ [0] (Pl.of [(true,0),(true,1),(true,2),(true,3),(false,4),(true,5),(true,6),(true,7),(true,8),(true,9),(true,10),(true,11),(false,12),(false,13),(false,14),(false,15),(false,16)]) zK (AB zR GG (AC 0 Az zR (As zR zR (CF Bg CB) (Aa [Z p0.x,Z p0.y,vI p0.lev] zR Dm zR zR (AZ 0 zR) ?_))))
 refine AP (vs:=[_]) (Hin:=[]) (Hr:=_::_) zR zR ⟨zR,zT⟩ Sc zR zR ((J2 hy1 :)) ?_
 rintro _ _ ⟨rfl,rfl⟩
 refine⟨⟨⟨0,rfl⟩,trivial⟩,?_⟩
 refine O zR (Uk hq1) ?_
 refine O zR (Te (b:=0)) ?_
 refine E zR ?_
 refine D1 28 8 36 hy3 zR (fun hb hg4 k=>?_) (fun hb k=>?_) ?_
 obtain⟨y2,hy2,hg4⟩:=bnd hg4
 obtain⟨q2,hq2,hg4⟩:=bnd hg4
 obtain rfl:=Option.some.inj hg4
 refine AB zR GE (AC 0 Az zR (As zR zR (CF Bg CB) (Aa [Z p0.x,Z p0.y,vI p0.lev] zR Dm zR zR (AZ 0 zR) ?_)))
 refine AP (vs:=[_]) (Hin:=[]) (Hr:=_::_) zR zR ⟨zR,zT⟩ Sc zR zR ((J2 hy2 :)) ?_
 rintro _ _ ⟨rfl,rfl⟩
 refine⟨⟨⟨0,rfl⟩,trivial⟩,?_⟩
 refine O zR (Uk hq2) ?_
 refine O zR (Te (b:=0)) ?_
 refine Ad zR zR zR ?_
 exact k.mono tL
 refine AA zR (AA zR (AA zR (AA zR (AA zR (AA zR (AA zR (Ad zR zR zR ?_)))))))
 exact k.mono tL
 refine J zR (U (AM ?_))
 obtain rfl:=Option.some.inj h
 exact AY [] 1 zR zR zR
def EJ(p0:BN)(p1:UInt32)(p2:UInt32):Option Bool:=
 (Do p0).bind fun y1=>
 (Ed ((y1&&(decide (p0.x≤p1)))&&(decide (p0.y≤p2))) ((Et p0).bind fun y2=>some (decide (p1.toUInt64<p0.x.toUInt64+y2)))).bind fun y3=>
 (Ed y3 ((Et p0).bind fun y4=>some (decide (p2.toUInt64<p0.y.toUInt64+y4)))).bind fun y5=>
 some y5
theorem Ow{p0:BN}{p1:UInt32}{p2:UInt32}{r:Bool}(h:EJ p0 p1 p2=some r): BH Tryz.prog K w0 97 [.agg (DA p0).toArray,Z p1,Z p2] [] H (fun u M=>u=vB r∧M=[]):=by
 unfold EJ at h
 refine BH.enter Tryz.func97 rfl rfl ?_
 refine V ?_
 refine BU zR zR (fun _=>trivial) fun b1=>?_
 refine J zR (U (V ?_))
 obtain⟨y1,hy1,h⟩:=bnd h
 refine Aa [Z p0.x,Z p0.y,vI p0.lev] zR Dm zR zR (AZ 0 zR) (AX 0 Ze ((NE hy1 :)) zR (J zR (U (AD ?_))))
 obtain⟨y3,hy3,h⟩:=bnd h
 obtain⟨y5,hy5,h⟩:=bnd h
 refine Aj CJ [0] (Pl.of [(true,0),(true,1),(true,2),(true,3),(true,4),(true,5),(true,6),(true,7),(true,8),(true,9),(true,10),(true,11),(true,12),(true,13),(true,14),(true,15),(true,16),(true,17),(true,18),(true,19),(false,20),(true,21),(true,22),(true,23),(true,24),(true,25),(true,26),(true,27),(true,28),(true,29),(true,30),(false,31),(false,32),(false,33),(false,34),(false,35)]) zK (E zR (E zR ?_))
 refine CU (c:=decide (p0.x≤p1)) 11 5 16 zR (fun hb k=>?_) (fun hb k=>?_) ?_
 refine E zR (AB zR GG (AC 0 Az zR (O zR Fp (Ad zR zR zR ?_))))
 exact k.mono tL
 refine AA zR (AA zR (AA zR (AA zR (Ad zR zR zR ?_))))
 exact k.mono tL
 refine E zR ?_
 refine CU (c:=decide (p0.y≤p2)) 17 5 22 zR (fun hb k=>?_) (fun hb k=>?_) ?_
 refine E zR (AB zR GE (AC 0 Az zR (O zR Fp (Ad zR zR zR ?_))))
 exact k.mono tL
 refine AA zR (AA zR (AA zR (AA zR (Ad zR zR zR ?_))))
 exact k.mono tL
 refine E zR ?_
 refine D1 23 10 33 hy3 zR (fun hb hg3 k=>?_) (fun hb k=>?_) ?_
 obtain⟨y2,hy2,hg3⟩:=bnd hg3
 obtain rfl:=Option.some.inj hg3
 refine E zR (As zR zR (CF Bg CB) (AB zR GG (AC 0 Az zR (As zR zR (CF Bg CB) (Aa [Z p0.x,Z p0.y,vI p0.lev] zR Dm zR zR (AZ 0 zR) ?_)))))
 refine AP (vs:=[_]) (Hin:=[]) (Hr:=_::_) zR zR ⟨zR,zT⟩ Sc zR zR ((J2 hy2 :)) ?_
 rintro _ _ ⟨rfl,rfl⟩
 refine⟨⟨⟨0,rfl⟩,trivial⟩,?_⟩
 refine O zR I6 (O zR Q8 (Ad zR zR zR ?_))
 exact k.mono tL
 refine AA zR (AA zR (AA zR (AA zR (AA zR (AA zR (AA zR (AA zR ?_)))))))
 refine AA zR (Ad zR zR zR ?_)
 exact k.mono tL
 refine E zR ?_
 refine D1 34 10 44 hy5 zR (fun hb hg4 k=>?_) (fun hb k=>?_) ?_
 obtain⟨y4,hy4,hg4⟩:=bnd hg4
 obtain rfl:=Option.some.inj hg4
 refine E zR (As zR zR (CF Bg CB) (AB zR GE (AC 0 Az zR (As zR zR (CF Bg CB) (Aa [Z p0.x,Z p0.y,vI p0.lev] zR Dm zR zR (AZ 0 zR) ?_)))))
 refine AP (vs:=[_]) (Hin:=[]) (Hr:=_::_) zR zR ⟨zR,zT⟩ Sc zR zR ((J2 hy4 :)) ?_
 rintro _ _ ⟨rfl,rfl⟩
 refine⟨⟨⟨0,rfl⟩,trivial⟩,?_⟩
 refine O zR I6 (O zR Q8 (Ad zR zR zR ?_))
 exact k.mono tL
 refine AA zR (AA zR (AA zR (AA zR (AA zR (AA zR (AA zR (AA zR ?_)))))))
 refine AA zR (Ad zR zR zR ?_)
 exact k.mono tL
 refine J zR (U (AM ?_))
 obtain rfl:=Option.some.inj h
 exact AY [] 1 zR zR zR
def Fm(p0:BN)(p1:Int):Option (BN×Int):=
 (Do p0).bind fun y1=>
 cond ((((!y1)||(decide (p0.lev=0)))||(decide (p1<0)))||(decide (3<p1)))
 (
  some ((⟨0,0,0⟩:BN),2))
 (
  (Et p0).bind fun y2=>
  (N1 y2 2).bind fun q1=>
  (Pd p1 2).bind fun q2=>
  (RX p1 2).bind fun q3=>
  some ((⟨p0.x+(q1.toUInt32*(Ds q2)),p0.y+(q1.toUInt32*(Ds q3)),wI (p0.lev-1)⟩:BN),0))
theorem T0{p0:BN}{p1:Int}{r:BN×Int}(h:Fm p0 p1=some r): BH Tryz.prog K w0 96 [.agg (DA p0).toArray,vI p1] [] H (fun u M=>u=.tuple #[.agg (DA r.1).toArray,vI r.2]∧M=[]):=by
 unfold Fm at h
 refine BH.enter Tryz.func96 rfl rfl ?_
 refine V ?_
 refine BU zR zR (fun _=>trivial) fun b1=>?_
 refine Ah zR It (fun _=>trivial) fun b2=>?_
 refine J zR (U (V ?_))
 obtain⟨y1,hy1,h⟩:=bnd h
 refine Aa [Z p0.x,Z p0.y,vI p0.lev] zR Dm zR zR (AZ 1 zR) (AX 0 Ze ((NE hy1 :)) zR (J zR (U (AD (V (E zR (B9 zR zR (E zR ?_))))))))
 refine C1 (c:=decide (p0.lev=0)) 12 4 16 zR (fun hb k=>?_) (fun hb k=>?_) ?_
 refine AA zR (AA zR (AA zR (Ad zR zR zR ?_)))
 exact k.mono tL
 refine AB zR Dg (AC 1 DT zR (O zR Bq (Ad zR zR zR ?_)))
 exact k.mono tL
 refine E zR ?_
 refine C1 (c:=decide (p1<0)) 17 3 20 zR (fun hb k=>?_) (fun hb k=>?_) ?_
 refine AA zR (AA zR (Ad zR zR zR ?_))
 exact k.mono tL
 refine E zR (O zR Ao (Ad zR zR zR ?_))
 exact k.mono tL
 refine E zR ?_
 refine C1 (c:=decide (3<p1)) 21 3 24 zR (fun hb k=>?_) (fun hb k=>?_) ?_
 refine AA zR (AA zR (Ad zR zR zR ?_))
 exact k.mono tL
 refine E zR (O zR CD (Ad zR zR zR ?_))
 exact k.mono tL
 refine U ?_
 refine AG zR (fun hc1=>?_) (fun hc1=>?_)
 replace h:=cT hc1 h
 refine V (BL [] zR Pm Po It zT zR (Am 0 zR zR zR zR Na zR zR zR zT (J zR (U (AM (Ab ?_))))))
 obtain rfl:=Option.some.inj h
 exact AU (Dq zR (BG 0 (DA (⟨0,0,0⟩:BN)) Dm zR zR zR zR) zR) (AV (M:=[]) ⟨zR,zR⟩ fun _ hw=>BJ.pick (H:=[_,_]) hw [] 2 zR)
 replace h:=cF hc1 h
 refine AH (AF (V ?_))
 obtain⟨y2,hy2,h⟩:=bnd h
 obtain⟨q1,hq1,h⟩:=bnd h
 refine Aa [Z p0.x,Z p0.y,vI p0.lev] zR Dm zR zR (AZ 1 zR) (AX 0 Sc ((J2 hy2 :)) zR ?_)
 refine O zR (Nn (b:=2) hq1) ?_
 refine As zR zR (Cz CB Bg) (J zR (U (V ?_)))
 obtain⟨q2,hq2,h⟩:=bnd h
 obtain⟨q3,hq3,h⟩:=bnd h
 refine AB zR GG (AC 1 Az zR (E zR (E zR (O zR (OW hq2) (As zR zR (L5 Ef Bg) (O zR Gw (O zR BZ ?_)))))))
 refine AB zR GE (AC 1 Az zR (E zR (E zR (O zR (Tz hq3) (As zR zR (L5 Ef Bg) (O zR Gw (O zR BZ ?_)))))))
 refine AB zR Dg (AC 1 DT zR (O zR Bp (BL [_,_,_] zR Pm Po It ⟨zR,zR,zR,zT⟩ zR (Am 0 zR zR zR zR Na zR zR zR zT (J zR (U (AM ?_)))))))
 obtain rfl:=Option.some.inj h
 exact AU (Dq zR (BG 0 (DA (⟨p0.x+(q1.toUInt32*(Ds q2)),p0.y+(q1.toUInt32*(Ds q3)),wI (p0.lev-1)⟩:BN)) Dm zR zR zR zR) zR) (AV (M:=[]) ⟨zR,zR⟩ fun _ hw=>BJ.pick (H:=[_,_]) hw [] 2 zR)
def KT(y1:UInt32)(y2:UInt32)(y3:Int):Option BN:=
 some (⟨y1,y2,y3⟩:BN)
def Fy(a1:Int)(nx_f_ref09_around_l1:UInt32×UInt32×Int×Int→Option BN)(y7:UInt32)(y8:UInt32)(y9:Int):Option BN:=
 ret (wI (a1+1)) fun i_1=>
 nx_f_ref09_around_l1 (y7,y8,y9,i_1)
def Ex(a1:Int)(x3:AN)(nx_f_ref09_around_l1:UInt32×UInt32×Int×Int→Option BN)(nx_f_ref09_around_l2:UInt32×UInt32×Int×Bool→Option BN)(y11:UInt32)(y12:UInt32)(y13:Int)(a2:Bool):Option BN:=
 cond (!a2)
 (
  (EJ (⟨(shl64 (shr64 y11.toUInt64 (BK (wI (y13+1))).toNat) (BK (wI (y13+1))).toNat).toUInt32,(shl64 (shr64 y12.toUInt64 (BK (wI (y13+1))).toNat) (BK (wI (y13+1))).toNat).toUInt32,wI (y13+1)⟩:BN) x3.x x3.y).bind fun y14=>
  nx_f_ref09_around_l2 ((shl64 (shr64 y11.toUInt64 (BK (wI (y13+1))).toNat) (BK (wI (y13+1))).toNat).toUInt32,(shl64 (shr64 y12.toUInt64 (BK (wI (y13+1))).toNat) (BK (wI (y13+1))).toNat).toUInt32,wI (y13+1),y14))
 (
  Fy a1 nx_f_ref09_around_l1 y11 y12 y13)
def Eg(a1:Int)(x3:AN)(nx_f_ref09_around_l1:UInt32×UInt32×Int×Int→Option BN):Nat→(UInt32×UInt32×Int×Bool)→Option BN:=Be fun nx x=>Ex a1 x3 nx_f_ref09_around_l1 nx x.1 x.2.1 x.2.2.1 x.2.2.2
def DM(n:Nat)(p0:List AN)(nx_f_ref09_around_l1:UInt32×UInt32×Int×Int→Option BN)(y4:UInt32)(y5:UInt32)(y6:Int)(a1:Int):Option BN:=
 cond (decide (a1<(p0.length:Int)))
 (
  (Aq p0 a1).bind fun x3=>
  (EJ (⟨y4,y5,y6⟩:BN) x3.x x3.y).bind fun y10=>
  Eg a1 x3 nx_f_ref09_around_l1 n (y4,y5,y6,y10))
 (
  KT y4 y5 y6)
def CX(n:Nat)(p0:List AN):Nat→(UInt32×UInt32×Int×Int)→Option BN:=Be fun nx x=>DM n p0 nx x.1 x.2.1 x.2.2.1 x.2.2.2
def GN(n:Nat)(p0:List AN):Option BN:=
 (Aq p0 0).bind fun x1=>
 (Aq p0 0).bind fun x2=>
 CX n p0 n (x1.x,x2.y,0,1)
theorem U1{n:Nat}{v0_:Value}{p0:List AN}{r:BN}(h:GN n p0=some r)(hs0_:Bn K w0 AK 4 v0_ p0):BH Tryz.prog K w0 95 [v0_] [] H (fun u M=>u=.agg (DA r).toArray∧M=[]):=by
 unfold GN at h
 refine BH.enter Tryz.func95 rfl rfl ?_
 refine V ?_
 refine Ah zR It (fun _=>trivial) fun b1=>?_
 refine U (AD ?_)
 obtain⟨x1,hx1,h⟩:=bnd h
 obtain⟨x2,hx2,h⟩:=bnd h
 refine Aj CJ [] (BY [(true,0),(true,1),(true,2),(true,3),(true,4),(true,5),(true,6),(true,7),(true,8),(false,9)] (.last 10 .nil)) zK (E zR ?_)
 refine CP hx1 hs0_ zR Bf Bo zR zR fun be1 of1 hc1=>?_
 refine AB zR HA ?_
 refine BR zR Az zR (Ck (j:=1) hc1 zR) ?_
 refine E zR ?_
 refine CP hx2 hs0_ zR Bf Bo zR zR fun be2 of2 hc2=>?_
 refine AB zR G6 ?_
 refine BR zR Az zR (Ck (j:=2) hc2 zR) ?_
 refine BL [_,_] zR Pm Po It ⟨zR,zR,zT⟩ zR ?_
 refine Ah zR It (fun _=>trivial) fun b2=>?_
 refine BE (Am 0 zR zR zR zR Na zR zR zR zT (U ?_))
 refine A1 (α:=UInt32×UInt32×Int) (fun x=>KT x.1 x.2.1 x.2.2=some r) (fun x=>[(2,vP b1 0),(3,vP b2 0)]) (fun x=>AI b1 (.cells #[Z 0,Z 0,vI 0] 54)::AI b2 (.cells #[Z x.1,Z x.2.1,vI x.2.2] 54)::H) ?_ (fun x D h=>?_)
 refine V (J zR (U (AL ?_)))
 refine SX.heap (SX.mono (Ay (α:=Nat×UInt32×UInt32×Int×Int) (fun x=>CX n p0 x.1 (x.2.1,x.2.2.1,x.2.2.2.1,x.2.2.2.2)=some r) (fun x=>[(0,v0_),(2,vP b1 0),(3,vP b2 0),(4,vI x.2.2.2.2)]) (fun x=>AI b1 (.cells #[Z 0,Z 0,vI 0] 54)::AI b2 (.cells #[Z x.2.1,Z x.2.2.1,vI x.2.2.2.1] 54)::H) (fun x=>x.1) (fun x D h=>?_) (n,x1.x,x2.y,0,1) h) tL) (fun _ hw=>BJ.pick (H:=[_,_]) hw [1,0] 2 zR)
 obtain⟨m1,y4,y5,y6,a1⟩:=x
 dsimp only at h
 rcases m1 with _ | m1
 cases (show(none:Option _)=some r from h)
 replace h:DM n p0 (CX n p0 m1) y4 y5 y6 a1=some r:=h
 unfold DM at h
 refine A4 [(0,v0_),(2,vP b1 0),(3,vP b2 0),(4,vI a1)] (AI b1 (.cells #[Z 0,Z 0,vI 0] 54)::AI b2 (.cells #[Z y4,Z y5,vI y6] 54)::H) ?_ tL
 refine AD (V (E zR (E zR (Bb hs0_ zR Bf zR (O zR Ao (U ?_))))))
 refine AG zR (fun hc3=>?_) (fun hc3=>?_)
 replace h:=cT hc3 h
 refine AH (AF ?_)
 refine A1 (α:=UInt32×UInt32×Int) (fun x=>Fy a1 (CX n p0 m1) x.1 x.2.1 x.2.2=some r) (fun x=>[(0,v0_),(2,vP b1 0),(3,vP b2 0),(4,vI a1)]) (fun x=>AI b1 (.cells #[Z 0,Z 0,vI 0] 54)::AI b2 (.cells #[Z x.1,Z x.2.1,vI x.2.2] 54)::H) ?_ (fun x D h=>?_)
 refine AL (V ?_)
 obtain⟨x3,hx3,h⟩:=bnd h
 refine E zR (E zR ?_)
 refine CP hx3 hs0_ zR Bf Bo zR zR fun be3 of3 hc4=>?_
 refine Aa (AK x3) zR D8 zR zR (Cj hc4) ?_
 refine Ah zR ET (fun _=>trivial) fun b3=>?_
 refine Am 0 zR zR zR zR Bo zR zR zR zT (U (V ?_))
 obtain⟨y10,hy10,h⟩:=bnd h
 refine Aa [Z y4,Z y5,vI y6] zR Dm zR zR (AZ 2 zR) (AB zR HA (AC 0 Az zR (AB zR G6 (AC 0 Az zR (AX 0 eh ((Ow hy10 :)) zR (J zR (U (AL ?_))))))))
 refine SX.heap (SX.mono (Ay (α:=Nat×UInt32×UInt32×Int×Bool) (fun x=>Eg a1 x3 (CX n p0 m1) x.1 (x.2.1,x.2.2.1,x.2.2.2.1,x.2.2.2.2)=some r) (fun x=>[(0,v0_),(2,vP b1 0),(3,vP b2 0),(4,vI a1),(5,vP b3 0),(6,vB x.2.2.2.2)]) (fun x=>AI b1 (.cells #[Z 0,Z 0,vI 0] 54)::AI b2 (.cells #[Z x.2.1,Z x.2.2.1,vI x.2.2.2.1] 54)::AI b3 (.cells #[Ag x3.id,Z x3.x,Z x3.y,vS x3.txt] 79)::H) (fun x=>x.1) (fun x D h=>?_) (n,y4,y5,y6,y10) h) tL) (fun _ hw=>BJ.pick (H:=[_,_,_]) hw [1,2,0] 3 zR)
 obtain⟨m2,y11,y12,y13,a2⟩:=x
 dsimp only at h
 rcases m2 with _ | m2
 cases (show(none:Option _)=some r from h)
 replace h:Ex a1 x3 (CX n p0 m1) (Eg a1 x3 (CX n p0 m1) m2) y11 y12 y13 a2=some r:=h
 unfold Ex at h
 refine A4 [(0,v0_),(2,vP b1 0),(3,vP b2 0),(4,vI a1),(5,vP b3 0),(6,vB a2)] (AI b1 (.cells #[Z 0,Z 0,vI 0] 54)::AI b2 (.cells #[Z y11,Z y12,vI y13] 54)::AI b3 (.cells #[Ag x3.id,Z x3.x,Z x3.y,vS x3.txt] 79)::H) ?_ tL
 refine AD (V (E zR (B9 zR zR (U ?_))))
 refine AG zR (fun hc5=>?_) (fun hc5=>?_)
 replace h:=cT hc5 h
 refine AH (AF (AL (V (Aa [Z y11,Z y12,vI y13] zR Dm zR zR (AZ 1 zR) ?_))))
 refine Ah zR It (fun _=>trivial) fun b4=>?_
 refine Am 0 zR zR zR zR Na zR zR zR zT (U (V (AB zR Dg (AC 0 DT zR (O zR A3 (AB zR Dg (Am 0 zR zR zR zR La zR zR zR zT (U (V (AB zR GG (AC 0 Az zR ?_)))))))))))
 refine As zR zR (CF Bg CB) (AB zR Dg (AC 0 DT zR (As zR zR (Cr Ef HF) ?_)))
 refine O zR (D4.shr64 (k:=.u64) (n:=(BK (wI (y13+1))).toNat)) ?_
 refine AB zR Dg (AC 0 DT zR (As zR zR (Cr Ef HF) ?_))
 refine O zR (D4.shl64 (k:=.u64) (n:=(BK (wI (y13+1))).toNat)) ?_
 refine As zR zR (Cz CB Bg) (AB zR GG (Am 0 zR zR zR zR BQ zR zR zR zT (U (V (AB zR GE (AC 0 Az zR (As zR zR (CF Bg CB) (AB zR Dg (AC 0 DT zR ?_)))))))))
 refine As zR zR (Cr Ef HF) ?_
 refine O zR (D4.shr64 (k:=.u64) (n:=(BK (wI (y13+1))).toNat)) ?_
 refine AB zR Dg (AC 0 DT zR (As zR zR (Cr Ef HF) ?_))
 refine O zR (D4.shl64 (k:=.u64) (n:=(BK (wI (y13+1))).toNat)) ?_
 refine As zR zR (Cz CB Bg) (AB zR GE (Am 0 zR zR zR zR BQ zR zR zR zT (U (V (Aa [Z ((shl64 (shr64 y11.toUInt64 (BK (wI (y13+1))).toNat) (BK (wI (y13+1))).toNat).toUInt32),Z ((shl64 (shr64 y12.toUInt64 (BK (wI (y13+1))).toNat) (BK (wI (y13+1))).toNat).toUInt32),vI (wI (y13+1))] zR Dm zR zR (AZ 0 zR) (Am 2 zR zR zR zR Na zR zR zR zT (U (AJ ?_))))))))
 obtain⟨y14,hy14,h⟩:=bnd h
 refine Aa [Z ((shl64 (shr64 y11.toUInt64 (BK (wI (y13+1))).toNat) (BK (wI (y13+1))).toNat).toUInt32),Z ((shl64 (shr64 y12.toUInt64 (BK (wI (y13+1))).toNat) (BK (wI (y13+1))).toNat).toUInt32),vI (wI (y13+1))] zR Dm zR zR (AZ 2 zR) (AB zR HA (AC 3 Az zR (AB zR G6 (AC 3 Az zR (AX 0 eh ((Ow hy14 :)) zR (J zR (AS (Ai ?_))))))))
 exact Ac (m2,(shl64 (shr64 y11.toUInt64 (BK (wI (y13+1))).toNat) (BK (wI (y13+1))).toNat).toUInt32,(shl64 (shr64 y12.toUInt64 (BK (wI (y13+1))).toNat) (BK (wI (y13+1))).toNat).toUInt32,wI (y13+1),y14) h (Nat.lt_succ_self _) tL (fun _ hw=>BJ.pick (H:=[_,_,_,_]) hw [1,2,3] 4 zR)
 replace h:=cF hc5 h
 refine Al (Aw (A9 (Au (Ai ?_))))
 exact Av (y11,y12,y13) h tL (fun _ hw=>BJ.pick (H:=[_,_,_]) hw [0,1] 3 zR)
 obtain⟨y7,y8,y9⟩:=x
 dsimp only at h
 unfold Fy at h
 refine A4 [(0,v0_),(2,vP b1 0),(3,vP b2 0),(4,vI a1)] (AI b1 (.cells #[Z 0,Z 0,vI 0] 54)::AI b2 (.cells #[Z y7,Z y8,vI y9] 54)::H) ?_ tL
 refine AJ ?_
 obtain⟨i_1,ei_1,h⟩:=Bc h
 refine E zR (O zR A3 ?_)
 refine Ak (u:=vI i_1) zR zR (congrArg vI ei_1) ?_
 refine AS ?_
 exact Ac (m1,y7,y8,y9,i_1) h (Nat.lt_succ_self _) tL (fun _ hw=>BJ.pick (H:=[_,_]) hw [0,1] 2 zR)
 replace h:=cF hc3 h
 refine Al (Aw (A9 (Au ?_)))
 exact Av (y4,y5,y6) h tL (fun _ hw=>BJ.pick (H:=[_,_]) hw [0,1] 2 zR)
 obtain⟨y1,y2,y3⟩:=x
 dsimp only at h
 unfold KT at h
 refine A4 [(2,vP b1 0),(3,vP b2 0)] (AI b1 (.cells #[Z 0,Z 0,vI 0] 54)::AI b2 (.cells #[Z y1,Z y2,vI y3] 54)::H) ?_ tL
 refine V (Aa [Z y1,Z y2,vI y3] zR Dm zR zR (AZ 1 zR) (Am 0 zR zR zR zR Na zR zR zR zT (U (AM ?_))))
 obtain rfl:=Option.some.inj h
 exact AU (Dx zR (BG 0 (DA (⟨y1,y2,y3⟩:BN)) Dm zR zR zR zR)) (AV (M:=[]) ⟨zR,zR⟩ fun _ hw=>BJ.pick (H:=[_,_]) hw [] 2 zR)
def FN(p0:UInt64):Option Bool:=
 ret (!decide (p0=p0)) fun x1=>
 some x1
theorem MX{p0:UInt64}{r:Bool}(h:FN p0=some r): BH Tryz.prog K w0 84 [Ag p0] [] H (fun u M=>u=vB r∧M=[]):=by
 unfold FN at h
 refine BH.enter Tryz.func84 rfl rfl ?_
 refine V (J zR (U (V ?_)))
 obtain⟨x1,ex1,h⟩:=Bc h
 refine E zR (E zR (O zR hQ ?_))
 refine Ak (u:=vB x1) zR zR (congrArg vB ex1) ?_
 refine U (AM ?_)
 obtain rfl:=Option.some.inj h
 exact AY [] 0 zR zR zR
def GF(p0:UInt64)(p1:UInt64):Option Int:=
 (FN p0).bind fun y1=>
 (FN p1).bind fun y2=>
 cond y1
 (
  cond y2
  (
   some 0)
  (
   some (-1)))
 (
  cond y2
  (
   some 1)
  (
   cond (decide (p0<p1))
   (
    some (-1))
   (
    cond (decide (p1<p0))
    (
     some 1)
    (
     some 0))))
theorem Pq{p0:UInt64}{p1:UInt64}{r:Int}(h:GF p0 p1=some r): BH Tryz.prog K w0 51 [Ag p0,Ag p1] [] H (fun u M=>u=vI r∧M=[]):=by
 unfold GF at h
 refine BH.enter Tryz.func51 rfl rfl ?_
 refine V (J zR (U (V ?_)))
 obtain⟨y1,hy1,h⟩:=bnd h
 refine E zR (AX 0 jQ (MX hy1) zR (J zR (U (V ?_))))
 obtain⟨y2,hy2,h⟩:=bnd h
 refine E zR (AX 0 jQ (MX hy2) zR (J zR (U (AD (V (E zR (U ?_)))))))
 refine AG zR (fun hc1=>?_) (fun hc1=>?_)
 replace h:=cT hc1 h
 refine AD (V (E zR (U ?_)))
 refine AG zR (fun hc2=>?_) (fun hc2=>?_)
 replace h:=cT hc2 h
 refine V (J zR (U (AM (Ab (Ab ?_)))))
 obtain rfl:=Option.some.inj h
 exact AY [] 0 zR zR zR
 replace h:=cF hc2 h
 refine AH (AF (V (J zR (U (AM (Ab ?_))))))
 obtain rfl:=Option.some.inj h
 exact AY [] 0 zR zR zR
 replace h:=cF hc1 h
 refine AH (AF (AD (V (E zR (U ?_)))))
 refine AG zR (fun hc3=>?_) (fun hc3=>?_)
 replace h:=cT hc3 h
 refine V (J zR (U (AM (Ab ?_))))
 obtain rfl:=Option.some.inj h
 exact AY [] 0 zR zR zR
 replace h:=cF hc3 h
 refine AH (AF (AD (V (E zR (E zR (O zR Q8 (U ?_)))))))
 refine AG zR (fun hc4=>?_) (fun hc4=>?_)
 replace h:=cT hc4 h
 refine V (J zR (U (AM (Ab ?_))))
 obtain rfl:=Option.some.inj h
 exact AY [] 0 zR zR zR
 replace h:=cF hc4 h
 refine AH (AF (AD (V (E zR (E zR (O zR OX (U ?_)))))))
 refine AG zR (fun hc5=>?_) (fun hc5=>?_)
 replace h:=cT hc5 h
 refine V (J zR (U (AM (Ab ?_))))
 obtain rfl:=Option.some.inj h
 exact AY [] 0 zR zR zR
 replace h:=cF hc5 h
 refine AH (AF (V (J zR (U (AM ?_)))))
 obtain rfl:=Option.some.inj h
 exact AY [] 0 zR zR zR
def Dt(p0:AN)(p1:AN):Option Int:=
 (GF p0.id p1.id).bind fun y1=>
 some y1
theorem KS{p0:AN}{p1:AN}{r:Int}(h:Dt p0 p1=some r): BH Tryz.prog K w0 50 [.agg (AK p0).toArray,.agg (AK p1).toArray] [] H (fun u M=>u=vI r∧M=[]):=by
 unfold Dt at h
 refine BH.enter Tryz.func50 rfl rfl ?_
 refine V ?_
 refine BU zR zR (fun _=>trivial) fun b1=>?_
 refine BU zR zR (fun _=>trivial) fun b2=>?_
 refine J zR (U (V ?_))
 obtain⟨y1,hy1,h⟩:=bnd h
 refine AB zR Nh (AC 1 MU zR (AB zR Nh (AC 0 MU zR (AX 0 ow (Pq hy1) zR (J zR (U (AM ?_)))))))
 obtain rfl:=Option.some.inj h
 exact AY [] 2 zR zR zR
end

/- The range over a cell's quarters. Condition: the plain functions yield. -/
section
variable {K:Nat→Prop}{w0:World}{H:List AT}
def kq(p:Int×BN):List Value:=[vI p.1,.agg (DA p.2).toArray]
def Dy(c:BN)(half:UInt32):List (Int×BN):=
 [(0,⟨c.x+half*0,c.y+half*0,wI (c.lev-1)⟩),(1,⟨c.x+half*1,c.y+half*0,wI (c.lev-1)⟩),(2,⟨c.x+half*0,c.y+half*1,wI (c.lev-1)⟩),(3,⟨c.x+half*1,c.y+half*1,wI (c.lev-1)⟩)]
def R8(c:BN):Option (List (Int×BN)):=
 (Gu c).bind fun r=>cond (!r||decide (c.lev=0)) (some []) ((Gl c).bind fun s=>(N1 s 2).bind fun q=>some (Dy c q.toUInt32))
theorem cp{bx:Nat}{c:BN}{G0:List AT}{xs:List (Int×BN)}(hq:R8 c=some xs):
  N0 Tryz.prog K w0 181 [vP bx 0] [AI bx (.cells #[Z c.x,Z c.y,vI c.lev] 54)] G0 kq xs:=by
 intro lp J9 X T rc hy h0
 obtain⟨r,hr,hq⟩:=bnd hq
 refine BH.enter Tryz.func181 rfl rfl ?_
 show SX _ _ _ _ _ _ _ _ _ (AI bx (.cells #[Z c.x,Z c.y,vI c.lev] 54)::rc::(G0++T))
 refine AD (V (Aa [Z c.x,Z c.y,vI c.lev] zR Dm zR zR (AZ 0 zR) (AX 0 aK (OF hr :) zR (B9 zR zR (E zR ?_)))))
 refine C1 (c:=decide (c.lev=0)) 9 4 13 zR (fun hb k=>?_) (fun hb k=>?_) ?_
 refine AA zR (AA zR (AA zR (Ad zR zR zR ?_)))
 exact k.mono tL
 refine AB zR Dg (AC 0 DT zR (O zR Bq (Ad zR zR zR ?_)))
 exact k.mono tL
 refine U ?_
 refine AG zR (fun hc=>?_) (fun hc=>?_)
 rw[hc,cond_true]at hq
 obtain rfl:=Option.some.inj hq
 refine AM (Ab ?_)
 exact AU (C7 zR) (AV (M:=rc::G0) (.inl h0) fun _ h=>h.skip [_])
 rw[hc,cond_false]at hq
 obtain⟨s,hs,hq⟩:=bnd hq
 obtain⟨q,hqq,hq⟩:=bnd hq
 obtain rfl:=Option.some.inj hq
 refine AH (AF (V (Aa [Z c.x,Z c.y,vI c.lev] zR Dm zR zR (AZ 0 zR) (AX 0 Y6 (PN hs :) zR ?_))))
 refine O zR (Nn (b:=2) hqq) ?_
 refine As zR zR (Cz CB Bg) (J zR (U ?_))
 generalize q.toUInt32=half at hy ⊢
 refine V (BL [_,_] zR Yb ZT P0 ⟨zR,zR,zT⟩ zR (BL [_,_] zR Yb ZT P0 ⟨zR,zR,zT⟩ zR (BL [_,_] zR Yb ZT P0 ⟨zR,zR,zT⟩ zR (BL [_,_] zR Yb ZT P0 ⟨zR,zR,zT⟩ zR (BL [_,_,_,_] zR oB pJ oC ⟨zR,zR,zR,zR,zT⟩ zR (E zR (U (AL ?_))))))))
 refine SX.mono (Ay (α:=Nat×List AT) (fun x=>x.1≤4∧J9 ((Dy c half).take x.1) x.2) (fun x=>[(0,vY lp),(1,vP bx 0),(3,Z half),(22,.agg #[Z 0,Z 0,Z 1,Z 0,Z 0,Z 1,Z 1,Z 1]),(23,vI x.1)])
  (fun x=>AI bx (.cells #[Z c.x,Z c.y,vI c.lev] 54)::(x.2++T)) (fun x=>4-x.1) (fun x D hp=>?_) (0,rc::G0) ⟨Nat.zero_le _,h0⟩) tL
 obtain⟨i,G⟩:=x
 obtain⟨hi,hJ⟩:=hp
 dsimp only at hi hJ ⊢
 refine V (O zR Ao (U (AD ?_)))
 refine AG zR (fun hc2=>?_) (fun hc2=>?_)
 have hlt:i<4:=by have:=of_decide_eq_true hc2;omega
 clear hc2
 obtain rfl | rfl | rfl | rfl:i=0∨i=1∨i=2∨i=3:=by omega
 refine AH (AF (AD (AL (V (E zR ?_)))))
 refine Qd (i:=0) zR Y3 Zi zR zR zR zO (c':=#[Z 0,Z 0]) zR ?_
 refine Ah zR P0 (fun _=>trivial) fun b1=>?_
 refine J zR (Am 0 zR zR zR zR aO zR zR zR zT (U (V (E zR (E zR (AB zR GG (AC 1 Az zR (E zR ?_))))))))
 refine GU (n:=0) zR Qh BQ zR zR zR zO ?_
 refine AC 0 Az zR ?_
 refine O zR (Gw (b:=0)) ?_
 refine O zR BZ (AB zR GE (AC 1 Az zR (E zR ?_)))
 refine GU (n:=1) zR Qh BQ zR zR zR zO ?_
 refine AC 0 Az zR ?_
 refine O zR (Gw (b:=0)) ?_
 refine O zR BZ (AB zR Dg (AC 1 DT zR (O zR Bp (BL [_,_,_] zR Pm Po It ⟨zR,zR,zR,zT⟩ zR ?_))))
 refine HX (M2:=[_,_]) (G:=G) (T:=T) (vs:=[_,_]) (ok:=fun G1=>J9 ((Dy c half).take (0+1)) G1) (no:=X) zR zR ⟨zR,zR,zT⟩ zR ?_ (fun bb G1 hG1=>⟨zT,?_⟩)
 intro M
 exact hy ((Dy c half).take 0) (0,⟨c.x+half*0,c.y+half*0,wI (c.lev-1)⟩) ((Dy c half).drop (0+1)) rfl G hJ M
 refine B9 zR zR (U ?_)
 refine AG zR (fun hc3=>?_) (fun hc3=>?_)
 obtain rfl:bb=false:=by simpa using hc3
 refine AM (BM (Ab (DD (BM ?_))))
 exact AU (C7 zR) (AV (M:=G1) (.inr hG1) fun _ h=>h.skip [_,_])
 obtain rfl:bb=true:=by simpa using hc3
 refine AH (Ai (AF (AJ (O zR (BA zO zO) (E zR (AS ?_))))))
 exact Ac (0+1,G1) ⟨by omega,hG1⟩ (by dsimp only;omega) tL (fun _ h=>h.skip [_])
 refine AH (AF (AD (AL (V (E zR ?_)))))
 refine Qd (i:=1) zR Y3 Zi zR zR zR zO (c':=#[Z 1,Z 0]) zR ?_
 refine Ah zR P0 (fun _=>trivial) fun b1=>?_
 refine J zR (Am 0 zR zR zR zR aO zR zR zR zT (U (V (E zR (E zR (AB zR GG (AC 1 Az zR (E zR ?_))))))))
 refine GU (n:=0) zR Qh BQ zR zR zR zO ?_
 refine AC 0 Az zR ?_
 refine O zR (Gw (b:=1)) ?_
 refine O zR BZ (AB zR GE (AC 1 Az zR (E zR ?_)))
 refine GU (n:=1) zR Qh BQ zR zR zR zO ?_
 refine AC 0 Az zR ?_
 refine O zR (Gw (b:=0)) ?_
 refine O zR BZ (AB zR Dg (AC 1 DT zR (O zR Bp (BL [_,_,_] zR Pm Po It ⟨zR,zR,zR,zT⟩ zR ?_))))
 refine HX (M2:=[_,_]) (G:=G) (T:=T) (vs:=[_,_]) (ok:=fun G1=>J9 ((Dy c half).take (1+1)) G1) (no:=X) zR zR ⟨zR,zR,zT⟩ zR ?_ (fun bb G1 hG1=>⟨zT,?_⟩)
 intro M
 exact hy ((Dy c half).take 1) (1,⟨c.x+half*1,c.y+half*0,wI (c.lev-1)⟩) ((Dy c half).drop (1+1)) rfl G hJ M
 refine B9 zR zR (U ?_)
 refine AG zR (fun hc3=>?_) (fun hc3=>?_)
 obtain rfl:bb=false:=by simpa using hc3
 refine AM (BM (Ab (DD (BM ?_))))
 exact AU (C7 zR) (AV (M:=G1) (.inr hG1) fun _ h=>h.skip [_,_])
 obtain rfl:bb=true:=by simpa using hc3
 refine AH (Ai (AF (AJ (O zR (BA zO zO) (E zR (AS ?_))))))
 exact Ac (1+1,G1) ⟨by omega,hG1⟩ (by dsimp only;omega) tL (fun _ h=>h.skip [_])
 refine AH (AF (AD (AL (V (E zR ?_)))))
 refine Qd (i:=2) zR Y3 Zi zR zR zR zO (c':=#[Z 0,Z 1]) zR ?_
 refine Ah zR P0 (fun _=>trivial) fun b1=>?_
 refine J zR (Am 0 zR zR zR zR aO zR zR zR zT (U (V (E zR (E zR (AB zR GG (AC 1 Az zR (E zR ?_))))))))
 refine GU (n:=0) zR Qh BQ zR zR zR zO ?_
 refine AC 0 Az zR ?_
 refine O zR (Gw (b:=0)) ?_
 refine O zR BZ (AB zR GE (AC 1 Az zR (E zR ?_)))
 refine GU (n:=1) zR Qh BQ zR zR zR zO ?_
 refine AC 0 Az zR ?_
 refine O zR (Gw (b:=1)) ?_
 refine O zR BZ (AB zR Dg (AC 1 DT zR (O zR Bp (BL [_,_,_] zR Pm Po It ⟨zR,zR,zR,zT⟩ zR ?_))))
 refine HX (M2:=[_,_]) (G:=G) (T:=T) (vs:=[_,_]) (ok:=fun G1=>J9 ((Dy c half).take (2+1)) G1) (no:=X) zR zR ⟨zR,zR,zT⟩ zR ?_ (fun bb G1 hG1=>⟨zT,?_⟩)
 intro M
 exact hy ((Dy c half).take 2) (2,⟨c.x+half*0,c.y+half*1,wI (c.lev-1)⟩) ((Dy c half).drop (2+1)) rfl G hJ M
 refine B9 zR zR (U ?_)
 refine AG zR (fun hc3=>?_) (fun hc3=>?_)
 obtain rfl:bb=false:=by simpa using hc3
 refine AM (BM (Ab (DD (BM ?_))))
 exact AU (C7 zR) (AV (M:=G1) (.inr hG1) fun _ h=>h.skip [_,_])
 obtain rfl:bb=true:=by simpa using hc3
 refine AH (Ai (AF (AJ (O zR (BA zO zO) (E zR (AS ?_))))))
 exact Ac (2+1,G1) ⟨by omega,hG1⟩ (by dsimp only;omega) tL (fun _ h=>h.skip [_])
 refine AH (AF (AD (AL (V (E zR ?_)))))
 refine Qd (i:=3) zR Y3 Zi zR zR zR zO (c':=#[Z 1,Z 1]) zR ?_
 refine Ah zR P0 (fun _=>trivial) fun b1=>?_
 refine J zR (Am 0 zR zR zR zR aO zR zR zR zT (U (V (E zR (E zR (AB zR GG (AC 1 Az zR (E zR ?_))))))))
 refine GU (n:=0) zR Qh BQ zR zR zR zO ?_
 refine AC 0 Az zR ?_
 refine O zR (Gw (b:=1)) ?_
 refine O zR BZ (AB zR GE (AC 1 Az zR (E zR ?_)))
 refine GU (n:=1) zR Qh BQ zR zR zR zO ?_
 refine AC 0 Az zR ?_
 refine O zR (Gw (b:=1)) ?_
 refine O zR BZ (AB zR Dg (AC 1 DT zR (O zR Bp (BL [_,_,_] zR Pm Po It ⟨zR,zR,zR,zT⟩ zR ?_))))
 refine HX (M2:=[_,_]) (G:=G) (T:=T) (vs:=[_,_]) (ok:=fun G1=>J9 ((Dy c half).take (3+1)) G1) (no:=X) zR zR ⟨zR,zR,zT⟩ zR ?_ (fun bb G1 hG1=>⟨zT,?_⟩)
 intro M
 exact hy ((Dy c half).take 3) (3,⟨c.x+half*1,c.y+half*1,wI (c.lev-1)⟩) ((Dy c half).drop (3+1)) rfl G hJ M
 refine B9 zR zR (U ?_)
 refine AG zR (fun hc3=>?_) (fun hc3=>?_)
 obtain rfl:bb=false:=by simpa using hc3
 refine AM (BM (Ab (DD (BM ?_))))
 exact AU (C7 zR) (AV (M:=G1) (.inr hG1) fun _ h=>h.skip [_,_])
 obtain rfl:bb=true:=by simpa using hc3
 refine AH (Ai (AF (AJ (O zR (BA zO zO) (E zR (AS ?_))))))
 exact Ac (3+1,G1) ⟨by omega,hG1⟩ (by dsimp only;omega) tL (fun _ h=>h.skip [_])
 have hle:i=4:=by have:=of_decide_eq_false hc2;omega
 refine Al (Aw (A9 (Au ?_)))
 exact CQ (C7 zR) (AV (M:=G) (.inl (by subst hle;exact hJ)) fun _ h=>h.skip [_])
def Yh(_:BN):Option Unit:=some ()
theorem c8{c:BN}{r:Unit}(_:Yh c=some r):BH Tryz.prog K w0 137 [.agg (DA c).toArray] [] H (fun u M=>∃bx:Nat,u=.func (.func 181) #[] #[vP bx 0]∧M=[AI bx (.cells #[Z c.x,Z c.y,vI c.lev] 54)]):=by
 refine BH.enter Tryz.func137 rfl rfl ?_
 refine V ?_
 refine BU zR zR (fun _=>trivial) fun b0=>?_
 refine J zR (U (V ?_))
 refine GD (fv:=#[]) (cv:=#[_]) zR zR zR ?_
 refine J zR (U (AM ?_))
 exact AU (Co zR zR) (AV (M:=[_]) ⟨_,zR,zR⟩ fun _ h=>h.skip [])
end

/- Plain functions of the references and the laws, printed from the loaded program, and the walks that show that the program computes them. Condition: the plain function yields. -/
section
variable {K:Nat→Prop}{w0:World}{H:List AT}
def JN(y1:Int):Option (Int×Int):=
 cond (decide (y1<0))
 (
  some (0,2))
 (
  some (y1,0))
def LZ(y3:Int):Option (Int×Int):=
 JN y3
def LV(y3:Int):Option (Int×Int):=
 JN y3
def Hq(p1:UInt32)(p2:UInt32)(nx_f_cell_Where_r1:Int→Option (Int×Int))(e1:Int×BN)(y3:Int):Option (Int×Int):=
 (Kh (⟨e1.2.x,e1.2.y,e1.2.lev⟩:BN) p1 p2).bind fun y4=>
 cond y4
 (
  LZ e1.1)
 (
  nx_f_cell_Where_r1 y3)
def Jb(p1:UInt32)(p2:UInt32):List (Int×BN)→Int→Option (Int×Int):=U5 (fun nx e x=>Hq p1 p2 nx e x) (fun x=>LV x)
def Er(p0:BN)(p1:UInt32)(p2:UInt32):Option (Int×Int):=
 (Yh p0).bind fun y2=>
 (R8 p0).bind fun xs1=>
 Jb p1 p2 xs1 (-1)
theorem Lw{p0:BN}{p1:UInt32}{p2:UInt32}{r:Int×Int}(h:Er p0 p1 p2=some r): BH Tryz.prog K w0 93 [.agg (DA p0).toArray,Z p1,Z p2] [] H (fun u M=>u=.tuple #[vI r.1,vI r.2]∧M=[]):=by
 unfold Er at h
 refine BH.enter Tryz.func93 rfl rfl ?_
 refine V ?_
 refine BU zR zR (fun _=>trivial) fun b1=>?_
 refine BU zR zR (fun _=>trivial) fun b2=>?_
 refine BU zR zR (fun _=>trivial) fun b3=>?_
 refine J zR (J zR (U (JL (V ?_))))
 refine Ah zR nD (fun _=>trivial) fun b4=>?_
 refine Am 0 zR zR zR zR La zR zR zR zT (U (AD (JS (AF ?_))))
 refine A1 (α:=Int) (fun x=>JN x=some r) (fun x=>[(8,vP b4 0)]) (fun x=>AI b4 (.cells #[vI x] 3)::H) ?_ (fun y1 D h=>?_)
 refine V ?_
 obtain⟨y2,hy2,h⟩:=bnd h
 refine Aa [Z p0.x,Z p0.y,vI p0.lev] zR Dm zR zR (AZ 3 zR) ?_
 refine AP (vs:=[_]) (Hin:=[]) (Hr:=_::_::_::_::_) zR zR ⟨zR,zT⟩ lP zR zR ((c8 hy2 :)) ?_
 rintro _ _ ⟨b5,rfl,rfl⟩
 refine⟨trivial,?_⟩
 refine U (AL ?_)
 obtain⟨xs1,hxs1,h⟩:=bnd h
 refine SX.heap (L6 (enc:=kq) xs1 (G0:=AI b2 (.cells #[Z p1] 29)::AI b3 (.cells #[Z p2] 29)::AI b4 (.cells #[vI (-1)] 3)::H) (fun pre G=>∃x:Int,(∀suf,xs1=pre++suf→Jb p1 p2 suf x=some r)∧G=AI b2 (.cells #[Z p1] 29)::AI b3 (.cells #[Z p2] 29)::AI b4 (.cells #[vI x] 3)::H) (fun c G=>(c=.exit 0∧∃x:Int,LZ x=some r∧G=AI b2 (.cells #[Z p1] 29)::AI b3 (.cells #[Z p2] 29)::AI b4 (.cells #[vI x] 3)::H)) zR lS zR (fun _=>rfl) (cp hxs1) zR ⟨(-1),fun suf e=>by rw[←show xs1=suf from e];exact h,zR⟩ (fun pre e1 suf1 G hpre hJ lr lp Rest=>?_) (fun G D hJ=>?_) (fun c G D hX=>?_)) (fun _ hw=>BJ.pick (H:=[_,_,_,_,_]) hw [0,3,2,1] 5 zR)
 obtain⟨y3,h,rfl⟩:=hJ
 replace h:Hq p1 p2 (Jb p1 p2 suf1) e1 y3=some r:=h _ hpre
 unfold Hq at h
 refine V (J zR (U (AJ ?_)))
 refine Ah zR It (fun _=>trivial) fun b6=>?_
 refine Am 0 zR zR zR zR Na zR zR zR zT (AS ?_)
 refine KL (G:=AI b6 (.cells #[Z e1.2.x,Z e1.2.y,vI e1.2.lev] 54)::AI b2 (.cells #[Z p1] 29)::AI b3 (.cells #[Z p2] 29)::AI b4 (.cells #[vI y3] 3)::H) ?_
 refine AL (V ?_)
 obtain⟨y4,hy4,h⟩:=bnd h
 refine Aa [Z e1.2.x,Z e1.2.y,vI e1.2.lev] zR Dm zR zR (AZ 0 zR) (AC 1 Az zR (AC 2 Az zR (AX 0 mX ((aT hy4 :)) zR (U ?_))))
 refine AG zR (fun hc1=>?_) (fun hc1=>?_)
 replace h:=cT hc1 h
 refine V (E zR (Am 3 zR zR zR zR La zR zR zR zT (U (Al (Ks ?_)))))
 exact MD ⟨zR,e1.1,h,zR⟩ (fun _ hw=>BJ.pick (H:=[_,_,_,_]) hw [1,2,3] 4 zR)
 replace h:=cF hc1 h
 refine AH (Ai ?_)
 exact HK ⟨y3,fun suf e=>by rw[Zg hpre e];exact h,zR⟩ (fun _ hw=>BJ.pick (H:=[_,_,_,_]) hw [1,2,3] 4 zR)
 obtain⟨y3,h,rfl⟩:=hJ
 replace h:LV y3=some r:=h [] (List.append_nil _).symm
 unfold LV at h
 refine Ai ?_
 exact Av y3 h tL (fun _ hw=>BJ.pick (H:=[_,_,_]) hw [2] 3 zR)
 obtain⟨rfl,hJ⟩:=hX
 obtain⟨y3,h,rfl⟩:=hJ
 unfold LZ at h
 refine Al (Au ?_)
 exact Av y3 h tL (fun _ hw=>BJ.pick (H:=[_,_,_]) hw [2] 3 zR)
 unfold JN at h
 refine A4 [(8,vP b4 0)] (AI b4 (.cells #[vI y1] 3)::H) ?_ tL
 refine AD (V (AC 0 DT zR (O zR Ao (U ?_))))
 refine AG zR (fun hc2=>?_) (fun hc2=>?_)
 replace h:=cT hc2 h
 refine V (J zR (J zR (U (AM (Ab (EN ?_))))))
 obtain rfl:=Option.some.inj h
 exact AY [] 1 zR zR zR
 replace h:=cF hc2 h
 refine AH (AF (V (AC 0 DT zR (J zR (J zR (U (AM (EN ?_))))))))
 obtain rfl:=Option.some.inj h
 exact AY [] 1 zR zR zR
end

/- Rows as a tree: slices.Clone, quad.tree, quad.Build. Condition: the plain functions yield. -/
section
variable {K:Nat→Prop}{w0:World}{H:List AT}
theorem cu{P:Program}{ro:Option Nat}{N:Nat}{Q:Cc}{D:List Nat}{l:Tm}{Hs:List AT}{ops:Array Oper}{items:G5}{tk:Bool}{o:Oper}{t:Nat}{x y:Operand}{ty uy e:TypeId}{p:Option Addr}{n c:Nat}(ho:At ops N l o t (.binOp .eql ty x y uy))(hty:P.underlying ty=some (.slice e))(hx:BT l x=some (.slice p n c))(hy:BT l y=some (.slice none 0 0))
(h:SL P ro K w0 N ops Hs items Q D ((t,.bool p.isNone)::l) H):SL P ro K w0 N ops Hs (.cons (tk,o) items) Q D l H:=
 SL.val ho rfl (fun a w ha _=>by
  have h1:∀d,(Op.equalIn (d+1) ty (.slice p n c) (.slice none 0 0)).run P w=.ok p.isNone w:=by
   intro d
   cases p<;>simp[Op.equalIn,Ar hty]
  simp only[execOp,ho.op,ha.eval hx,ha.eval hy,binOp]
  simp[eqGuard,Op.equal,Op.maxDepth,h1 9999]) h
def So(l:List AN):Option (List AN):=CT 32 [] l
theorem ij{v:Value}{l r:List AN}(h:So l=some r)(hs:Bn K w0 AK 4 v l):BH Tryz.prog K w0 92 [v] [] H (fun u M=>∃v0:Value,u=v0∧M=[AE 79 4 v0 AK r]):=by
 unfold So at h
 have hn:(v=.slice none 0 0∧l=[])∨∃a n c,v=.slice (some a) n c:=by
  rcases hs.at_ with⟨a,rfl,e⟩ | ⟨b,off,cap,rfl,_⟩
  cases a with
  | none=>exact .inl ⟨rfl,e⟩
  | some a=>exact .inr ⟨_,_,_,rfl⟩
  exact .inr ⟨_,_,_,rfl⟩
 refine BH.enter Tryz.func92 rfl rfl ?_
 refine V (J zR (U ?_))
 rcases hn with⟨rfl,rfl⟩ | ⟨a,n,c,rfl⟩
 refine AD (V (E zR (cu zR Bf zR zR (U (UG zR (V (J zR (U (AM (Ab (Iu 79 4 AK ?_)))))))))))
 obtain rfl:r=[]:=by
  rw[CT,if_pos zS]at h
  simpa using h.symm
 exact AU (Co zR zR) (AV (M:=[_]) ⟨_,zR,zR⟩ fun _ hw=>BJ.pick (H:=[_]) hw [0] 1 zR)
 refine AD (V (E zR (cu zR Bf zR zR (U (DE zR (AH (AF (V ?_))))))))
 refine dB zR Bf Bo (fun _=>trivial) fun b1=>?_
 refine Bi AK 4 ([]:List AN) zR (fun _=>rfl) zR ?_
 refine E zR ?_
 refine SS 0 h hs (sz:=4) (enc:=AK) (fun _=>rfl) zR Bf Bo Rh ET zR zD zR zR zR (by simp[AK,Value.oneCell']) (fun _=>trivial) fun v1=>?_
 refine J zR (U (AM ?_))
 exact AU (Co zR zR) (AV (M:=[_]) ⟨_,zR,zR⟩ fun _ hw=>BJ.pick (H:=[_]) hw [0] 1 zR)
end

/- Rows as a tree: quad.tree, quad.Build. Condition: the plain functions yield. -/
section
variable {K:Nat→Prop}{w0:World}{H:List AT}
abbrev P4:=List AN×List AN×List AN×List AN
def Q2(c:BN)(p:P4)(r:AN):Option P4:=
 (Er c r.x r.y).bind fun q=>
  if q.1=0 then(CT 32 p.1 [r]).bind fun l=>some (l,p.2)
  else if q.1=1 then(CT 32 p.2.1 [r]).bind fun l=>some (p.1,l,p.2.2)
  else if q.1=2 then(CT 32 p.2.2.1 [r]).bind fun l=>some (p.1,p.2.1,l,p.2.2.2)
  else if q.1=3 then(CT 32 p.2.2.2 [r]).bind fun l=>some (p.1,p.2.1,p.2.2.1,l)
  else none
theorem Up{c:BN}{p p':P4}{r:AN}(h:Q2 c p r=some p'):∃e,
  (Er c r.x r.y=some (0,e)∧∃l,CT 32 p.1 [r]=some l∧p'=(l,p.2))∨
  (Er c r.x r.y=some (1,e)∧∃l,CT 32 p.2.1 [r]=some l∧p'=(p.1,l,p.2.2))∨
  (Er c r.x r.y=some (2,e)∧∃l,CT 32 p.2.2.1 [r]=some l∧p'=(p.1,p.2.1,l,p.2.2.2))∨
  (Er c r.x r.y=some (3,e)∧∃l,CT 32 p.2.2.2 [r]=some l∧p'=(p.1,p.2.1,p.2.2.1,l)):=by
 unfold Q2 at h
 obtain⟨⟨i,e⟩,hq,h⟩:=bnd h
 dsimp only at h
 refine⟨e,?_⟩
 split at h
 rename_i hi
 subst hi
 obtain⟨l,hl,h⟩:=bnd h
 exact .inl ⟨hq,l,hl,(Option.some.inj h).symm⟩
 split at h
 rename_i hi
 subst hi
 obtain⟨l,hl,h⟩:=bnd h
 exact .inr (.inl ⟨hq,l,hl,(Option.some.inj h).symm⟩)
 split at h
 rename_i hi
 subst hi
 obtain⟨l,hl,h⟩:=bnd h
 exact .inr (.inr (.inl ⟨hq,l,hl,(Option.some.inj h).symm⟩))
 split at h
 rename_i hi
 subst hi
 obtain⟨l,hl,h⟩:=bnd h
 exact .inr (.inr (.inr ⟨hq,l,hl,(Option.some.inj h).symm⟩))
 cases h
def Kd(c:BN):List AN→P4→Option P4
 | [],p=>some p
 | r::l,p=>(Q2 c p r).bind (Kd c l)
def Di(rec_:List AN→Option BO):List (List AN)→List BO→Option (List BO)
 | [],acc=>some acc
 | p::ps,acc=>cond (decide (0<(p.length:Int))) ((rec_ p).bind fun n=>(CT 64 acc [n]).bind fun acc'=>Di rec_ ps acc') (Di rec_ ps acc)
def Gv(n:Nat):Nat→List AN→Option BO
 | 0,_=>none
 | f+1,l=>
  if 1048576<l.length then none else cond (decide ((l.length:Int)=0)) (some (.mk 0 0 0 [] []))
   ((HN n l).bind fun c=>cond (decide ((l.length:Int)≤4)||decide (c.lev=0)) ((So l).bind fun rs=>some (.mk c.x c.y c.lev rs []))
    ((Kd c l ([],[],[],[])).bind fun ps=>(Di (Gv n f) [ps.1,ps.2.1,ps.2.2.1,ps.2.2.2] []).bind fun ks=>some (.mk c.x c.y c.lev [] ks)))
theorem Ot{α β:Type}{b:Nat}{xs ys us:List α}{xs' ys':List β}(h:CT b xs ys=some us)(h1:xs'.length=xs.length)(h2:ys'.length=ys.length):CT b xs' ys'=some (xs'++ys')∧us=xs++ys:=by
 unfold CT at h ⊢
 split at h
 rename_i hc
 rw[h1,h2,if_pos hc]
 exact⟨rfl,(Option.some.inj h).symm⟩
 cases h
def Qt(L:FH)(gs:List Dz)(ks:List BO):Prop:=gs.length=ks.length∧∀(i:Nat) (a:Dz) (b:BO),gs[i]? = some a→ks[i]? = some b→LH L a b
theorem Qt.mono{L L':FH}{gs:List Dz}{ks:List BO}(h:Qt L gs ks)(hs:∀p∈L,p∈L'):Qt L' gs ks:=⟨h.1,fun i a b ha hb=>(h.2 i a b ha hb).mono hs⟩
theorem Qt.snoc{L:FH}{gs:List Dz}{ks:List BO}{a:Dz}{n:BO}(h:Qt L gs ks)(hn:LH L a n):Qt L (gs++[a]) (ks++[n]):=by
 refine⟨by simp[h.1],fun i x y hx hy=>?_⟩
 rcases Nat.lt_or_ge i gs.length with hi | hi
 rw[List.getElem?_append_left hi]at hx
 rw[List.getElem?_append_left (by rw[←h.1];exact hi)]at hy
 exact h.2 i x y hx hy
 rw[List.getElem?_append_right hi]at hx
 rw[List.getElem?_append_right (by rw[←h.1];exact hi),←h.1]at hy
 have hz:i-gs.length=0:=by
  have:=(List.getElem?_eq_some_iff.1 hx).1
  simpa using this
 rw[hz]at hx hy
 simp at hx hy
 subst hx hy
 exact hn
theorem Su(n:Nat):∀(f:Nat) {K:Nat→Prop} {w0:World} {H:List AT} {v:Value} {l:List AN} {t:BO},Gv n f l=some t→Bn K w0 AK 4 v l→
  BH Tryz.prog K w0 62 [v] [] H (fun u M=>∃(nv:Dz) (L:FH),u=.agg (Bk nv).toArray∧LH L nv t∧M=[ES L])
 | 0,K,w0,H,v,l,t,h,_=>by cases h
 | f+1,K,w0,H,v,l,t,h,hs=>by
  have h:(if 1048576<l.length then none else cond (decide ((l.length:Int)=0)) (some (.mk 0 0 0 [] []))
   ((HN n l).bind fun c=>cond (decide ((l.length:Int)≤4)||decide (c.lev=0)) ((So l).bind fun rs=>some (.mk c.x c.y c.lev rs []))
    ((Kd c l ([],[],[],[])).bind fun ps=>(Di (Gv n f) [ps.1,ps.2.1,ps.2.2.1,ps.2.2.2] []).bind fun ks=>some (.mk c.x c.y c.lev [] ks))))=some t:=h
  by_cases hbig:1048576<l.length
  rw[if_pos hbig]at h;cases h
  rw[if_neg hbig]at h
  refine BH.enter Tryz.func62 rfl rfl ?_
  refine V ?_
  refine Ah zR HV (fun _=>trivial) fun b2=>?_
  refine U (AD (V (E zR (Bb hs zR Bf zR (O zR Bq (U ?_))))))
  refine AG zR (fun hc1=>?_) (fun hc1=>?_)
  rw[hc1,cond_true]at h
  obtain rfl:=Option.some.inj h
  refine V (BL [] zR X4 Xo HV zT zR (Am 0 zR zR zR zR G4 zR zR zR zT (U (AM (Ab (VI ?_))))))
  exact AU (Dx zR (BG 1 [Z 0,Z 0,vI 0,.slice none 0 0,.slice none 0 0] Kp zR zR zR zR)) (AV (M:=[_]) ⟨⟨0,0,0,⟨none,0,0⟩,⟨none,0,0⟩⟩,[],zR,.mk (Pe.nil fun _=>rfl) (Pe.nil fun _=>rfl) (kvs:=[]) zR (fun i a b ha=>by simp at ha),zR⟩ fun _ hw=>BJ.pick (H:=[_,_]) hw [0] 2 zR)
  rw[hc1,cond_false]at h
  obtain⟨c,hc,h⟩:=bnd h
  refine AH (AF (V (E zR (AX 0 pB (WY hc hs) zR (BL [_] zR X4 Xo HV ⟨zR,zT⟩ zR ?_)))))
  refine Ah zR HV (fun _=>trivial) fun b3=>?_
  refine Am 0 zR zR zR zR G4 zR zR zR zT (U ?_)
  refine A4 [(0,v),(2,vP b2 0),(3,vP b3 0)] (AI b3 (.cells #[Z c.x,Z c.y,vI c.lev,.slice none 0 0,.slice none 0 0] 57)::AI b2 (.cells #[Z 0,Z 0,vI 0,.slice none 0 0,.slice none 0 0] 57)::H) ?_ tL
  refine AD (V (E zR (Bb hs zR Bf zR (O zR Gs (E zR ?_)))))
  refine C1 (c:=decide (c.lev=0)) 21 5 26 zR (fun hb k=>?_) (fun hb k=>?_) ?_
  refine AA zR (AA zR (AA zR (AA zR (Ad zR zR zR ?_))))
  exact k.mono tL
  refine AB zR Mk (AB zR Dg (AC 0 DT zR (O zR Bq (Ad zR zR zR ?_))))
  exact k.mono tL
  refine U ?_
  refine AG zR (fun hc2=>?_) (fun hc2=>?_)
  rw[hc2,cond_true]at h
  obtain⟨rs,hrs,h⟩:=bnd h
  obtain rfl:=Option.some.inj h
  refine V (E zR ?_)
  refine AP (vs:=[_]) (Hin:=[]) (Hr:=_::_::_) zR zR ⟨zR,zT⟩ pL zR zR (ij hrs hs) ?_
  rintro v1 _ ⟨_,rfl,rfl⟩
  refine⟨trivial,?_⟩
  refine AB zR Q0 ?_
  refine B6 0 zR fun hv1 ho1=>?_
  refine DW 1 zR zR zR zR Ki hv1 ho1 zR zT (U (V (Aa [Z c.x,Z c.y,vI c.lev,v1,.slice none 0 0] zR Kp zR zR (AZ 1 zR) ?_)))
  refine P5 0 zR fun s0 hs0=>?_
  subst hs0
  refine Am 2 zR zR zR zR G4 zR (List.all_eq_true.2 (Gc ⟨c.x,c.y,c.lev,s0,⟨none,0,0⟩⟩)) zR zT (U (AM (Ab ?_)))
  refine PK (fun _=>rfl) fun L hL=>?_
  exact AU (Dx zR (BG 2 [Z c.x,Z c.y,vI c.lev,s0.val,.slice none 0 0] Kp zR zR zR zR)) (AV (M:=[_]) ⟨⟨c.x,c.y,c.lev,s0,⟨none,0,0⟩⟩,L,zR,.mk hL (Pe.nil fun _=>rfl) (kvs:=[]) zR (fun i a b ha=>by simp at ha),zR⟩ fun _ hw=>BJ.pick (H:=[_,_,_]) hw [0] 3 zR)
  rw[hc2,cond_false]at h
  obtain⟨fin,hfin,h⟩:=bnd h
  obtain⟨ks,hks,h⟩:=bnd h
  obtain rfl:=Option.some.inj h
  refine AH (AF (V ?_))
  refine Ah zR pr (fun _=>trivial) fun b4=>?_
  refine Bx 79 4 AK (Bx 79 4 AK (Bx 79 4 AK (Bx 79 4 AK (SL.pick [4,0,1,2,3,5,6] 7 (U (AD (V (E zR (Bb hs zR Bf zR (E zR (U (AL ?_))))))))))))
  refine SX.mono (Ay (α:=Nat×P4×Value×Value×Value×Value) (fun x=>x.1≤l.length∧Kd c (l.drop x.1) x.2.1=some fin) (fun x=>[(2,vP b2 0),(3,vP b3 0),(4,vP b4 0),(31,v),(32,vI l.length),(33,vI x.1)])
   (fun x=>AI b4 (.cells #[x.2.2.1,x.2.2.2.1,x.2.2.2.2.1,x.2.2.2.2.2] 159)::AE 79 4 x.2.2.1 AK x.2.1.1::AE 79 4 x.2.2.2.1 AK x.2.1.2.1::AE 79 4 x.2.2.2.2.1 AK x.2.1.2.2.1::AE 79 4 x.2.2.2.2.2 AK x.2.1.2.2.2::AI b3 (.cells #[Z c.x,Z c.y,vI c.lev,.slice none 0 0,.slice none 0 0] 57)::AI b2 (.cells #[Z 0,Z 0,vI 0,.slice none 0 0,.slice none 0 0] 57)::H)
   (fun x=>l.length-x.1) (fun x D hp=>?_) (0,([],[],[],[]),.slice none 0 0,.slice none 0 0,.slice none 0 0,.slice none 0 0) ⟨Nat.zero_le _,hfin⟩) tL
  obtain⟨i,⟨p0,p1,p2,p3⟩,v0,v1,v2,v3⟩:=x
  obtain⟨hi,hp⟩:=hp
  dsimp only at hi hp ⊢
  refine V (O zR Ao (U (AD ?_)))
  refine AG zR (fun hc3=>?_) (fun hc3=>?_)
  have hlt:i<l.length:=by have:=of_decide_eq_true hc3;omega
  have hr:Aq l (i:Int)=some l[i]:=by simp[Aq,hlt]
  rw[List.drop_eq_getElem_cons hlt]at hp
  generalize l[i]=r at hr hp
  obtain⟨p',hst,hp⟩:=bnd hp
  obtain⟨e,hq⟩:=Up hst
  refine AH (AF (AD (AL (V ?_))))
  refine CP hr hs zR Bf Bo zR zR fun be of_ hcc=>?_
  refine Aa (AK r) zR D8 zR zR (Cj hcc) ?_
  refine Ah zR ET (fun _=>trivial) fun b6=>?_
  refine Am 0 zR zR zR zR Bo zR zR zR zT (U ?_)
  rcases hq with⟨hw,u,hu,rfl⟩ | ⟨hw,u,hu,rfl⟩ | ⟨hw,u,hu,rfl⟩ | ⟨hw,u,hu,rfl⟩
  refine V (AB rfl Mk (Aa [Z c.x,Z c.y,vI c.lev] rfl Dm rfl rfl (CG 6 rfl (by rintro(_ | _ | _ | j) u hj<;>first | exact hj | exact absurd hj zS)) (AB rfl HA (AC 0 Az rfl (AB rfl G6 (AC 0 Az rfl (AX 0 Zx (Lw hw :) rfl (E rfl ?_))))))))
  refine Ap zR zR zR (Ap zR zR zR (J zR (J zR (U (Aj CJ [1,0] (BY [(true,0),(true,1),(true,2),(true,3),(true,4),(false,5),(false,6),(true,7)] (.last 8 .nil)) zK (E zR (E zR ?_)))))))
  refine GU (n:=0) zR MK Ki zR zR zR zO ?_
  refine AC 0 Em zR (Aa (AK r) zR D8 zR zR (AZ 1 zR) ?_)
  refine Bd [_] zR Bf Bo ET ⟨zR,zT⟩ zR zR zR (by intro v hv;simp only[List.mem_cons,List.not_mem_nil,or_false]at hv;subst hv;rfl) zR zR (fun _=>⟨⟨2,zR⟩,⟨1,zR⟩,zT⟩) fun b7=>?_
  refine Bi AK 4 ([r]:List AN) zR (fun _=>rfl) zR ?_
  refine B7 3 hu (sz:=4) (enc:=AK) (fun _=>rfl) zR Bf Bo Rh ET zR zD zR zR zR zR (Ba (sz:=4) (enc:=AK) 0 (fun _=>rfl) zR) (by simp[AK,Value.oneCell']) (fun _=>⟨⟨2,zR⟩,⟨1,zR⟩,zT⟩) fun v7=>?_
  refine GU (n:=0) zR MK Ki zR zR zR zO ?_
  refine BE ?_
  refine B6 3 zR fun hv7 ho7=>?_
  refine DW 2 zR zR zR zR Ki hv7 ho7 zR zT (AS (Ai (AF (AJ (O zR (BA zO zO) (E zR (AS ?_)))))))
  exact Ac (i+1,(u,p1,p2,p3),v7,v1,v2,v3) ⟨hlt,hp⟩ (by dsimp only;omega) tL (fun _ hw=>BJ.pick (H:=[_,_,_,_,_,_,_,_,_]) hw [2,3,4,5,6,7,8] 9 zR)
  refine V (AB rfl Mk (Aa [Z c.x,Z c.y,vI c.lev] rfl Dm rfl rfl (CG 6 rfl (by rintro(_ | _ | _ | j) u hj<;>first | exact hj | exact absurd hj zS)) (AB rfl HA (AC 0 Az rfl (AB rfl G6 (AC 0 Az rfl (AX 0 Zx (Lw hw :) rfl (E rfl ?_))))))))
  refine Ap zR zR zR (Ap zR zR zR (J zR (J zR (U (Aj CJ [1,0] (BY [(true,0),(true,1),(true,2),(true,3),(true,4),(false,5),(false,6),(true,7)] (.last 8 .nil)) zK (E zR (E zR ?_)))))))
  refine GU (n:=1) zR MK Ki zR zR zR zO ?_
  refine AC 0 Em zR (Aa (AK r) zR D8 zR zR (AZ 1 zR) ?_)
  refine Bd [_] zR Bf Bo ET ⟨zR,zT⟩ zR zR zR (by intro v hv;simp only[List.mem_cons,List.not_mem_nil,or_false]at hv;subst hv;rfl) zR zR (fun _=>⟨⟨2,zR⟩,⟨1,zR⟩,zT⟩) fun b7=>?_
  refine Bi AK 4 ([r]:List AN) zR (fun _=>rfl) zR ?_
  refine B7 4 hu (sz:=4) (enc:=AK) (fun _=>rfl) zR Bf Bo Rh ET zR zD zR zR zR zR (Ba (sz:=4) (enc:=AK) 0 (fun _=>rfl) zR) (by simp[AK,Value.oneCell']) (fun _=>⟨⟨2,zR⟩,⟨1,zR⟩,zT⟩) fun v7=>?_
  refine GU (n:=1) zR MK Ki zR zR zR zO ?_
  refine BE ?_
  refine B6 4 zR fun hv7 ho7=>?_
  refine DW 2 zR zR zR zR Ki hv7 ho7 zR zT (AS (Ai (AF (AJ (O zR (BA zO zO) (E zR (AS ?_)))))))
  exact Ac (i+1,(p0,u,p2,p3),v0,v7,v2,v3) ⟨hlt,hp⟩ (by dsimp only;omega) tL (fun _ hw=>BJ.pick (H:=[_,_,_,_,_,_,_,_,_]) hw [2,3,4,5,6,7,8] 9 zR)
  refine V (AB rfl Mk (Aa [Z c.x,Z c.y,vI c.lev] rfl Dm rfl rfl (CG 6 rfl (by rintro(_ | _ | _ | j) u hj<;>first | exact hj | exact absurd hj zS)) (AB rfl HA (AC 0 Az rfl (AB rfl G6 (AC 0 Az rfl (AX 0 Zx (Lw hw :) rfl (E rfl ?_))))))))
  refine Ap zR zR zR (Ap zR zR zR (J zR (J zR (U (Aj CJ [1,0] (BY [(true,0),(true,1),(true,2),(true,3),(true,4),(false,5),(false,6),(true,7)] (.last 8 .nil)) zK (E zR (E zR ?_)))))))
  refine GU (n:=2) zR MK Ki zR zR zR zO ?_
  refine AC 0 Em zR (Aa (AK r) zR D8 zR zR (AZ 1 zR) ?_)
  refine Bd [_] zR Bf Bo ET ⟨zR,zT⟩ zR zR zR (by intro v hv;simp only[List.mem_cons,List.not_mem_nil,or_false]at hv;subst hv;rfl) zR zR (fun _=>⟨⟨2,zR⟩,⟨1,zR⟩,zT⟩) fun b7=>?_
  refine Bi AK 4 ([r]:List AN) zR (fun _=>rfl) zR ?_
  refine B7 5 hu (sz:=4) (enc:=AK) (fun _=>rfl) zR Bf Bo Rh ET zR zD zR zR zR zR (Ba (sz:=4) (enc:=AK) 0 (fun _=>rfl) zR) (by simp[AK,Value.oneCell']) (fun _=>⟨⟨2,zR⟩,⟨1,zR⟩,zT⟩) fun v7=>?_
  refine GU (n:=2) zR MK Ki zR zR zR zO ?_
  refine BE ?_
  refine B6 5 zR fun hv7 ho7=>?_
  refine DW 2 zR zR zR zR Ki hv7 ho7 zR zT (AS (Ai (AF (AJ (O zR (BA zO zO) (E zR (AS ?_)))))))
  exact Ac (i+1,(p0,p1,u,p3),v0,v1,v7,v3) ⟨hlt,hp⟩ (by dsimp only;omega) tL (fun _ hw=>BJ.pick (H:=[_,_,_,_,_,_,_,_,_]) hw [2,3,4,5,6,7,8] 9 zR)
  refine V (AB rfl Mk (Aa [Z c.x,Z c.y,vI c.lev] rfl Dm rfl rfl (CG 6 rfl (by rintro(_ | _ | _ | j) u hj<;>first | exact hj | exact absurd hj zS)) (AB rfl HA (AC 0 Az rfl (AB rfl G6 (AC 0 Az rfl (AX 0 Zx (Lw hw :) rfl (E rfl ?_))))))))
  refine Ap zR zR zR (Ap zR zR zR (J zR (J zR (U (Aj CJ [1,0] (BY [(true,0),(true,1),(true,2),(true,3),(true,4),(false,5),(false,6),(true,7)] (.last 8 .nil)) zK (E zR (E zR ?_)))))))
  refine GU (n:=3) zR MK Ki zR zR zR zO ?_
  refine AC 0 Em zR (Aa (AK r) zR D8 zR zR (AZ 1 zR) ?_)
  refine Bd [_] zR Bf Bo ET ⟨zR,zT⟩ zR zR zR (by intro v hv;simp only[List.mem_cons,List.not_mem_nil,or_false]at hv;subst hv;rfl) zR zR (fun _=>⟨⟨2,zR⟩,⟨1,zR⟩,zT⟩) fun b7=>?_
  refine Bi AK 4 ([r]:List AN) zR (fun _=>rfl) zR ?_
  refine B7 6 hu (sz:=4) (enc:=AK) (fun _=>rfl) zR Bf Bo Rh ET zR zD zR zR zR zR (Ba (sz:=4) (enc:=AK) 0 (fun _=>rfl) zR) (by simp[AK,Value.oneCell']) (fun _=>⟨⟨2,zR⟩,⟨1,zR⟩,zT⟩) fun v7=>?_
  refine GU (n:=3) zR MK Ki zR zR zR zO ?_
  refine BE ?_
  refine B6 6 zR fun hv7 ho7=>?_
  refine DW 2 zR zR zR zR Ki hv7 ho7 zR zT (AS (Ai (AF (AJ (O zR (BA zO zO) (E zR (AS ?_)))))))
  exact Ac (i+1,(p0,p1,p2,u),v0,v1,v2,v7) ⟨hlt,hp⟩ (by dsimp only;omega) tL (fun _ hw=>BJ.pick (H:=[_,_,_,_,_,_,_,_,_]) hw [2,3,4,5,6,7,8] 9 zR)
  have hle:i=l.length:=by have:=of_decide_eq_false hc3;omega
  subst hle
  rw[List.drop_length]at hp
  obtain rfl:=Option.some.inj hp
  refine Al (Aw (A9 (Au (AF (AD (V (Aa [v0,v1,v2,v3] zR qM zR zR (AZ 0 zR) (E zR (U (OY 57 5 Bk (fT (AL ?_))))))))))))
  refine SX.heap (SX.mono (Ay (α:=Nat×List Dz×List BO×Value×FH) (fun x=>x.1≤4∧Di (Gv n f) ([p0,p1,p2,p3].drop x.1) x.2.2.1=some ks∧Qt x.2.2.2.2 x.2.1 x.2.2.1) (fun x=>[(2,vP b2 0),(3,vP b3 0),(56,.agg #[v0,v1,v2,v3]),(57,vI x.1)])
   (fun x=>ES x.2.2.2.2::AE 57 5 x.2.2.2.1 Bk x.2.1::AE 79 4 v0 AK p0::AE 79 4 v1 AK p1::AE 79 4 v2 AK p2::AE 79 4 v3 AK p3::AI b3 (.cells #[Z c.x,Z c.y,vI c.lev,.slice none 0 0,x.2.2.2.1] 57)::AI b2 (.cells #[Z 0,Z 0,vI 0,.slice none 0 0,.slice none 0 0] 57)::H)
   (fun x=>4-x.1) (fun x D hp=>?_) (0,[],[],.slice none 0 0,[]) ⟨Nat.zero_le _,hks,rfl,fun i a b ha=>by simp at ha⟩) tL) (fun _ hw=>BJ.pick (H:=[_,_,_,_,_,_,_,_,_]) hw [0,1,3,4,5,6,7,8] 9 rfl)
  obtain⟨i,gs,ks',kv,L⟩:=x
  obtain⟨hi,hkf,hkz⟩:=hp
  dsimp only at hi hkf hkz ⊢
  refine V (O zR Ao (U (AD ?_)))
  refine AG zR (fun hc4=>?_) (fun hc4=>?_)
  have hlt:i<4:=by have:=of_decide_eq_true hc4;omega
  clear hc4
  refine AH (AF (AD (AL ?_)))
  obtain rfl | rfl | rfl | rfl:i=0∨i=1∨i=2∨i=3:=by omega
  refine V ?_
  refine Mf (i:=0) zR MK Em zR zR zR zO zR ?_
  refine J zR (U (V (E zR (DC 2 zR Bf zR zR (O zR CD (U ?_))))))
  have hkf:cond (decide (0<(p0.length:Int))) ((Gv n f p0).bind fun n'=>(CT 64 ks' [n']).bind fun acc'=>Di (Gv n f) ([p0,p1,p2,p3].drop (0+1)) acc') (Di (Gv n f) ([p0,p1,p2,p3].drop (0+1)) ks')=some ks:=hkf
  refine AG zR (fun hc5=>?_) (fun hc5=>?_)
  rw[hc5,cond_true]at hkf
  obtain⟨nd,hnd,hkf⟩:=bnd hkf
  obtain⟨acc,hacc,hkf⟩:=bnd hkf
  refine Aj CJ [6] (BY [(true,0),(true,1),(true,2),(false,3),(false,4),(false,5),(true,6)] (.last 7 .nil)) zK (AB zR Hb (AC 0 Rc zR (E zR (SL.pick [2,0,1,3,4,5,6,7] 8 ?_))))
  refine AP (vs:=[_]) (Hin:=[_]) (Hr:=_::_::_::_::_::_::_::_) zR zR ⟨zR,zT⟩ Wj zR zR (CC (B:=[_]) (Hin:=[]) fun K' w1 hk hB=>Su n f hnd (Br (e:=79) (fun _=>rfl) (hB _ zS))) ?_
  rintro _ _ ⟨_,rfl,nv,L2,rfl,hnz,rfl⟩
  refine⟨⟨⟨7,rfl⟩,trivial⟩,?_⟩
  obtain⟨hg,rfl⟩:=Ot (xs':=gs) (ys':=[nv]) hacc hkz.1 rfl
  refine Bd [_] zR MR G4 HV ⟨zR,zT⟩ zR zR zR (by intro v hv;simp only[List.mem_cons,List.not_mem_nil,or_false]at hv;subst hv;rfl) zR zR (fun _=>⟨⟨7+1,zR⟩,zT⟩) fun b7=>?_
  refine Bi Bk 5 ([nv]:List Dz) zR (fun _=>rfl) zR ?_
  refine B7 4 hg (sz:=5) (enc:=Bk) (fun _=>rfl) zR MR G4 cC HV zR zD zR zR zR zR (Ba (sz:=5) (enc:=Bk) 0 (fun _=>rfl) zR) Gc (fun _=>⟨⟨7+1,zR⟩,zT⟩) fun v7=>?_
  refine AB zR Hb (BE ?_)
  refine B6 4 zR fun hv7 ho7=>?_
  refine DW (7+1) zR zR zR zR c9 hv7 ho7 zR zT (AS (Ai (AF ?_)))
  refine SX.heap (H':=ES L::ES L2::AE 57 5 v7 Bk (gs++[nv])::AE 79 4 v0 AK p0::AE 79 4 v1 AK p1::AE 79 4 v2 AK p2::AE 79 4 v3 AK p3::AI b3 (.cells #[Z c.x,Z c.y,vI c.lev,.slice none 0 0,v7] 57)::AI b2 (.cells #[Z 0,Z 0,vI 0,.slice none 0 0,.slice none 0 0] 57)::H) (NQ ?_) (fun _ hw=>BJ.pick (H:=[_,_,_,_,_,_,_,_,_,_]) hw [3,2,4,1,5,6,7,8,9] 10 zR)
  refine AJ (O zR (BA zO zO) (E zR (AS ?_)))
  exact Ac (0+1,gs++[nv],ks'++[nd],v7,L++L2) ⟨by omega,hkf,(hkz.mono fun p hp=>List.mem_append_left _ hp).snoc (hnz.mono fun p hp=>List.mem_append_right _ hp)⟩ (by dsimp only;omega) tL (fun _ h=>h)
  rw[hc5,cond_false]at hkf
  refine AH (Ai (AF (AJ (O zR (BA zO zO) (E zR (AS ?_))))))
  exact Ac (0+1,gs,ks',kv,L) ⟨by omega,hkf,hkz⟩ (by dsimp only;omega) tL (fun _ h=>h)
  refine V ?_
  refine Mf (i:=1) zR MK Em zR zR zR zO zR ?_
  refine J zR (U (V (E zR (DC 3 zR Bf zR zR (O zR CD (U ?_))))))
  have hkf:cond (decide (0<(p1.length:Int))) ((Gv n f p1).bind fun n'=>(CT 64 ks' [n']).bind fun acc'=>Di (Gv n f) ([p0,p1,p2,p3].drop (1+1)) acc') (Di (Gv n f) ([p0,p1,p2,p3].drop (1+1)) ks')=some ks:=hkf
  refine AG zR (fun hc5=>?_) (fun hc5=>?_)
  rw[hc5,cond_true]at hkf
  obtain⟨nd,hnd,hkf⟩:=bnd hkf
  obtain⟨acc,hacc,hkf⟩:=bnd hkf
  refine Aj CJ [6] (BY [(true,0),(true,1),(true,2),(false,3),(false,4),(false,5),(true,6)] (.last 7 .nil)) zK (AB zR Hb (AC 0 Rc zR (E zR (SL.pick [3,0,1,2,4,5,6,7] 8 ?_))))
  refine AP (vs:=[_]) (Hin:=[_]) (Hr:=_::_::_::_::_::_::_::_) zR zR ⟨zR,zT⟩ Wj zR zR (CC (B:=[_]) (Hin:=[]) fun K' w1 hk hB=>Su n f hnd (Br (e:=79) (fun _=>rfl) (hB _ zS))) ?_
  rintro _ _ ⟨_,rfl,nv,L2,rfl,hnz,rfl⟩
  refine⟨⟨⟨7,rfl⟩,trivial⟩,?_⟩
  obtain⟨hg,rfl⟩:=Ot (xs':=gs) (ys':=[nv]) hacc hkz.1 rfl
  refine Bd [_] zR MR G4 HV ⟨zR,zT⟩ zR zR zR (by intro v hv;simp only[List.mem_cons,List.not_mem_nil,or_false]at hv;subst hv;rfl) zR zR (fun _=>⟨⟨7+1,zR⟩,zT⟩) fun b7=>?_
  refine Bi Bk 5 ([nv]:List Dz) zR (fun _=>rfl) zR ?_
  refine B7 4 hg (sz:=5) (enc:=Bk) (fun _=>rfl) zR MR G4 cC HV zR zD zR zR zR zR (Ba (sz:=5) (enc:=Bk) 0 (fun _=>rfl) zR) Gc (fun _=>⟨⟨7+1,zR⟩,zT⟩) fun v7=>?_
  refine AB zR Hb (BE ?_)
  refine B6 4 zR fun hv7 ho7=>?_
  refine DW (7+1) zR zR zR zR c9 hv7 ho7 zR zT (AS (Ai (AF ?_)))
  refine SX.heap (H':=ES L::ES L2::AE 57 5 v7 Bk (gs++[nv])::AE 79 4 v0 AK p0::AE 79 4 v1 AK p1::AE 79 4 v2 AK p2::AE 79 4 v3 AK p3::AI b3 (.cells #[Z c.x,Z c.y,vI c.lev,.slice none 0 0,v7] 57)::AI b2 (.cells #[Z 0,Z 0,vI 0,.slice none 0 0,.slice none 0 0] 57)::H) (NQ ?_) (fun _ hw=>BJ.pick (H:=[_,_,_,_,_,_,_,_,_,_]) hw [3,2,4,5,1,6,7,8,9] 10 zR)
  refine AJ (O zR (BA zO zO) (E zR (AS ?_)))
  exact Ac (1+1,gs++[nv],ks'++[nd],v7,L++L2) ⟨by omega,hkf,(hkz.mono fun p hp=>List.mem_append_left _ hp).snoc (hnz.mono fun p hp=>List.mem_append_right _ hp)⟩ (by dsimp only;omega) tL (fun _ h=>h)
  rw[hc5,cond_false]at hkf
  refine AH (Ai (AF (AJ (O zR (BA zO zO) (E zR (AS ?_))))))
  exact Ac (1+1,gs,ks',kv,L) ⟨by omega,hkf,hkz⟩ (by dsimp only;omega) tL (fun _ h=>h)
  refine V ?_
  refine Mf (i:=2) zR MK Em zR zR zR zO zR ?_
  refine J zR (U (V (E zR (DC 4 zR Bf zR zR (O zR CD (U ?_))))))
  have hkf:cond (decide (0<(p2.length:Int))) ((Gv n f p2).bind fun n'=>(CT 64 ks' [n']).bind fun acc'=>Di (Gv n f) ([p0,p1,p2,p3].drop (2+1)) acc') (Di (Gv n f) ([p0,p1,p2,p3].drop (2+1)) ks')=some ks:=hkf
  refine AG zR (fun hc5=>?_) (fun hc5=>?_)
  rw[hc5,cond_true]at hkf
  obtain⟨nd,hnd,hkf⟩:=bnd hkf
  obtain⟨acc,hacc,hkf⟩:=bnd hkf
  refine Aj CJ [6] (BY [(true,0),(true,1),(true,2),(false,3),(false,4),(false,5),(true,6)] (.last 7 .nil)) zK (AB zR Hb (AC 0 Rc zR (E zR (SL.pick [4,0,1,2,3,5,6,7] 8 ?_))))
  refine AP (vs:=[_]) (Hin:=[_]) (Hr:=_::_::_::_::_::_::_::_) zR zR ⟨zR,zT⟩ Wj zR zR (CC (B:=[_]) (Hin:=[]) fun K' w1 hk hB=>Su n f hnd (Br (e:=79) (fun _=>rfl) (hB _ zS))) ?_
  rintro _ _ ⟨_,rfl,nv,L2,rfl,hnz,rfl⟩
  refine⟨⟨⟨7,rfl⟩,trivial⟩,?_⟩
  obtain⟨hg,rfl⟩:=Ot (xs':=gs) (ys':=[nv]) hacc hkz.1 rfl
  refine Bd [_] zR MR G4 HV ⟨zR,zT⟩ zR zR zR (by intro v hv;simp only[List.mem_cons,List.not_mem_nil,or_false]at hv;subst hv;rfl) zR zR (fun _=>⟨⟨7+1,zR⟩,zT⟩) fun b7=>?_
  refine Bi Bk 5 ([nv]:List Dz) zR (fun _=>rfl) zR ?_
  refine B7 4 hg (sz:=5) (enc:=Bk) (fun _=>rfl) zR MR G4 cC HV zR zD zR zR zR zR (Ba (sz:=5) (enc:=Bk) 0 (fun _=>rfl) zR) Gc (fun _=>⟨⟨7+1,zR⟩,zT⟩) fun v7=>?_
  refine AB zR Hb (BE ?_)
  refine B6 4 zR fun hv7 ho7=>?_
  refine DW (7+1) zR zR zR zR c9 hv7 ho7 zR zT (AS (Ai (AF ?_)))
  refine SX.heap (H':=ES L::ES L2::AE 57 5 v7 Bk (gs++[nv])::AE 79 4 v0 AK p0::AE 79 4 v1 AK p1::AE 79 4 v2 AK p2::AE 79 4 v3 AK p3::AI b3 (.cells #[Z c.x,Z c.y,vI c.lev,.slice none 0 0,v7] 57)::AI b2 (.cells #[Z 0,Z 0,vI 0,.slice none 0 0,.slice none 0 0] 57)::H) (NQ ?_) (fun _ hw=>BJ.pick (H:=[_,_,_,_,_,_,_,_,_,_]) hw [3,2,4,5,6,1,7,8,9] 10 zR)
  refine AJ (O zR (BA zO zO) (E zR (AS ?_)))
  exact Ac (2+1,gs++[nv],ks'++[nd],v7,L++L2) ⟨by omega,hkf,(hkz.mono fun p hp=>List.mem_append_left _ hp).snoc (hnz.mono fun p hp=>List.mem_append_right _ hp)⟩ (by dsimp only;omega) tL (fun _ h=>h)
  rw[hc5,cond_false]at hkf
  refine AH (Ai (AF (AJ (O zR (BA zO zO) (E zR (AS ?_))))))
  exact Ac (2+1,gs,ks',kv,L) ⟨by omega,hkf,hkz⟩ (by dsimp only;omega) tL (fun _ h=>h)
  refine V ?_
  refine Mf (i:=3) zR MK Em zR zR zR zO zR ?_
  refine J zR (U (V (E zR (DC 5 zR Bf zR zR (O zR CD (U ?_))))))
  have hkf:cond (decide (0<(p3.length:Int))) ((Gv n f p3).bind fun n'=>(CT 64 ks' [n']).bind fun acc'=>Di (Gv n f) ([p0,p1,p2,p3].drop (3+1)) acc') (Di (Gv n f) ([p0,p1,p2,p3].drop (3+1)) ks')=some ks:=hkf
  refine AG zR (fun hc5=>?_) (fun hc5=>?_)
  rw[hc5,cond_true]at hkf
  obtain⟨nd,hnd,hkf⟩:=bnd hkf
  obtain⟨acc,hacc,hkf⟩:=bnd hkf
  refine Aj CJ [6] (BY [(true,0),(true,1),(true,2),(false,3),(false,4),(false,5),(true,6)] (.last 7 .nil)) zK (AB zR Hb (AC 0 Rc zR (E zR (SL.pick [5,0,1,2,3,4,6,7] 8 ?_))))
  refine AP (vs:=[_]) (Hin:=[_]) (Hr:=_::_::_::_::_::_::_::_) zR zR ⟨zR,zT⟩ Wj zR zR (CC (B:=[_]) (Hin:=[]) fun K' w1 hk hB=>Su n f hnd (Br (e:=79) (fun _=>rfl) (hB _ zS))) ?_
  rintro _ _ ⟨_,rfl,nv,L2,rfl,hnz,rfl⟩
  refine⟨⟨⟨7,rfl⟩,trivial⟩,?_⟩
  obtain⟨hg,rfl⟩:=Ot (xs':=gs) (ys':=[nv]) hacc hkz.1 rfl
  refine Bd [_] zR MR G4 HV ⟨zR,zT⟩ zR zR zR (by intro v hv;simp only[List.mem_cons,List.not_mem_nil,or_false]at hv;subst hv;rfl) zR zR (fun _=>⟨⟨7+1,zR⟩,zT⟩) fun b7=>?_
  refine Bi Bk 5 ([nv]:List Dz) zR (fun _=>rfl) zR ?_
  refine B7 4 hg (sz:=5) (enc:=Bk) (fun _=>rfl) zR MR G4 cC HV zR zD zR zR zR zR (Ba (sz:=5) (enc:=Bk) 0 (fun _=>rfl) zR) Gc (fun _=>⟨⟨7+1,zR⟩,zT⟩) fun v7=>?_
  refine AB zR Hb (BE ?_)
  refine B6 4 zR fun hv7 ho7=>?_
  refine DW (7+1) zR zR zR zR c9 hv7 ho7 zR zT (AS (Ai (AF ?_)))
  refine SX.heap (H':=ES L::ES L2::AE 57 5 v7 Bk (gs++[nv])::AE 79 4 v0 AK p0::AE 79 4 v1 AK p1::AE 79 4 v2 AK p2::AE 79 4 v3 AK p3::AI b3 (.cells #[Z c.x,Z c.y,vI c.lev,.slice none 0 0,v7] 57)::AI b2 (.cells #[Z 0,Z 0,vI 0,.slice none 0 0,.slice none 0 0] 57)::H) (NQ ?_) (fun _ hw=>BJ.pick (H:=[_,_,_,_,_,_,_,_,_,_]) hw [3,2,4,5,6,7,1,8,9] 10 zR)
  refine AJ (O zR (BA zO zO) (E zR (AS ?_)))
  exact Ac (3+1,gs++[nv],ks'++[nd],v7,L++L2) ⟨by omega,hkf,(hkz.mono fun p hp=>List.mem_append_left _ hp).snoc (hnz.mono fun p hp=>List.mem_append_right _ hp)⟩ (by dsimp only;omega) tL (fun _ h=>h)
  rw[hc5,cond_false]at hkf
  refine AH (Ai (AF (AJ (O zR (BA zO zO) (E zR (AS ?_))))))
  exact Ac (3+1,gs,ks',kv,L) ⟨by omega,hkf,hkz⟩ (by dsimp only;omega) tL (fun _ h=>h)
  have hle:i=4:=by have:=of_decide_eq_false hc4;omega
  subst hle
  obtain rfl:=Option.some.inj (show some ks'=some ks from hkf)
  refine Al (Aw (A9 (Au (AF (V (Aa [Z c.x,Z c.y,vI c.lev,.slice none 0 0,kv] zR Kp zR zR (AZ 6 zR) ?_))))))
  refine P5 1 zR fun s0 hs0=>?_
  subst hs0
  refine Am 7 zR zR zR zR G4 zR (List.all_eq_true.2 (Gc ⟨c.x,c.y,c.lev,⟨none,0,0⟩,s0⟩)) zR zT (U (AM ?_))
  refine SQ.heap (H':=AE 57 5 s0.val Bk gs::ES L::AI b2 (.cells #[Z c.x,Z c.y,vI c.lev,.slice none 0 0,s0.val] 57)::H) (PK (fun _=>rfl) fun Lk hLk=>?_) (fun _ hw=>BJ.pick (H:=[_,_,_,_,_,_,_,_]) hw [1,0,7] 8 zR)
  refine Vs ?_
  exact AU (Dx zR (BG 1 [Z c.x,Z c.y,vI c.lev,.slice none 0 0,s0.val] Kp zR zR zR zR)) (AV (M:=[_]) ⟨⟨c.x,c.y,c.lev,⟨none,0,0⟩,s0⟩,Lk++L,zR,.mk (Pe.nil fun _=>rfl) (hLk.mono fun p hp=>List.mem_append_left _ hp) hkz.1 (fun i a b ha hb=>(hkz.2 i a b ha hb).mono fun p hp=>List.mem_append_right _ hp),zR⟩ fun _ hw=>BJ.pick (H:=[_,_]) hw [0] 2 zR)
def Im(n:Nat)(l:List AN):Option (BO×Int):=
 (IE n l).bind fun r=>cond (!r) (some (.mk 0 0 0 [] [],80)) ((Gv n n l).bind fun t=>some (t,0))
theorem cY{n:Nat}{v:Value}{l:List AN}{r:BO×Int}(h:Im n l=some r)(hs:Bn K w0 AK 4 v l):
  BH Tryz.prog K w0 25 [v] [] H (fun u M=>∃(nv:Dz) (L:FH),u=.tuple #[.agg (Bk nv).toArray,vI r.2]∧LH L nv r.1∧M=[ES L]):=by
 unfold Im at h
 obtain⟨y,hy,h⟩:=bnd h
 refine BH.enter Tryz.func25 rfl rfl ?_
 refine V ?_
 refine Ah zR HV (fun _=>trivial) fun b2=>?_
 refine J zR (U (AD (V (E zR (AX 0 kr (RQ hy hs) zR (B9 zR zR (U ?_)))))))
 refine AG zR (fun hc=>?_) (fun hc=>?_)
 rw[hc,cond_true]at h
 obtain rfl:=Option.some.inj h
 refine V (BL [] zR X4 Xo HV zT zR (Am 0 zR zR zR zR G4 zR zR zR zT (J zR (U (AM (Ab (VI ?_)))))))
 exact AU (Dq zR (BG 1 [Z 0,Z 0,vI 0,.slice none 0 0,.slice none 0 0] Kp zR zR zR zR) zR) (AV (M:=[_]) ⟨⟨0,0,0,⟨none,0,0⟩,⟨none,0,0⟩⟩,[],zR,.mk (Pe.nil fun _=>rfl) (Pe.nil fun _=>rfl) (kvs:=[]) zR (fun i a b ha=>by simp at ha),zR⟩ fun _ hw=>BJ.pick (H:=[_,_]) hw [0] 2 zR)
 rw[hc,cond_false]at h
 obtain⟨t,ht,h⟩:=bnd h
 obtain rfl:=Option.some.inj h
 refine AH (AF (V (E zR ?_)))
 refine AP (vs:=[_]) (Hin:=[]) (Hr:=_::_) zR zR ⟨zR,zT⟩ Wj zR zR (Su n n ht hs) ?_
 rintro _ _ ⟨nv,L,rfl,hnz,rfl⟩
 refine⟨trivial,?_⟩
 refine Am 1 zR zR zR zR G4 zR (List.all_eq_true.2 (Gc nv)) zR zT (J zR (U (AM ?_)))
 exact AU (Dq zR (BG 1 (Bk nv) Kp zR zR zR zR) zR) (AV (M:=[_]) ⟨nv,L,zR,hnz,zR⟩ fun _ hw=>BJ.pick (H:=[_,_]) hw [0] 2 zR)
end

/- Plain functions of the references and the laws, printed from the loaded program, and the walks that show that the program computes them. Condition: the plain function yields. -/
section
variable {K:Nat→Prop}{w0:World}{H:List AT}
def IB(p0:Af):Option Bool:=
 (DY p0).bind fun y1=>
 ret (!y1) fun x1=>
 some x1
theorem Uq{p0:Af}{r:Bool}(h:IB p0=some r): BH Tryz.prog K w0 167 [.agg (Ae p0).toArray] [] H (fun u M=>u=vB r∧M=[]):=by
 unfold IB at h
 refine BH.enter Tryz.func167 rfl rfl ?_
 refine V ?_
 refine BU zR zR (fun _=>trivial) fun b1=>?_
 refine J zR (U (V ?_))
 obtain⟨y1,hy1,h⟩:=bnd h
 obtain⟨x1,ex1,h⟩:=Bc h
 refine Aa [Z p0.page,vS p0.tag] zR CR zR zR (AZ 0 zR) (AX 0 Yv ((Lj hy1 :)) zR (B9 zR zR ?_))
 refine Ak (u:=vB x1) zR zR (congrArg vB ex1) ?_
 refine U (AM ?_)
 obtain rfl:=Option.some.inj h
 exact AY [] 1 zR zR zR
def Tq:Option Int:=
 some (-1)
def Ga(p0:List Af)(nx_f_idx_l1:Int→Option Int)(a1:Int):Option Int:=
 cond (decide (a1<(p0.length:Int)))
 (
  (Aq p0 a1).bind fun x1=>
  (IB x1).bind fun y1=>
  cond y1
  (
   some a1)
  (
   nx_f_idx_l1 (wI (a1+1))))
 (
  Tq)
def Kl(p0:List Af):Nat→Int→Option Int:=Be fun nx x=>Ga p0 nx x
def Zk(n:Nat)(p0:List Af):Option Int:=
 Kl p0 n 0
theorem pF{n:Nat}{v0_:Value}{p0:List Af}{r:Int}(h:Zk n p0=some r)(hs0_:Bn K w0 Ae 2 v0_ p0):BH Tryz.prog K w0 205 [v0_,.func (.func 167) #[] #[]] [] H (fun u M=>u=vI r∧M=[]):=by
 unfold Zk at h
 refine BH.enter Tryz.func205 rfl rfl ?_
 refine V (J zR (U ?_))
 refine A1 (α:=Unit) (fun x=>Tq=some r) (fun x=>[]) (fun x=>H) ?_ (fun x D h=>?_)
 refine V (E zR (Bb hs0_ zR Eh zR (E zR (U (AL ?_)))))
 refine SX.heap (SX.mono (Ay (α:=Nat×Int) (fun x=>Kl p0 x.1 x.2=some r) (fun x=>[(0,v0_),(1,.func (.func 167) #[] #[]),(7,vI (p0.length:Int)),(8,vI x.2)]) (fun x=>H) (fun x=>x.1) (fun x D h=>?_) (n,0) h) tL) (fun _ hw=>BJ.pick (H:=[]) hw [] 0 zR)
 obtain⟨m1,a1⟩:=x
 dsimp only at h
 rcases m1 with _ | m1
 cases (show(none:Option _)=some r from h)
 replace h:Ga p0 (Kl p0 m1) a1=some r:=h
 unfold Ga at h
 refine A4 [(0,v0_),(1,.func (.func 167) #[] #[]),(7,vI (p0.length:Int)),(8,vI a1)] (H) ?_ tL
 refine V (O zR Ao (U (AD ?_)))
 refine AG zR (fun hc1=>?_) (fun hc1=>?_)
 replace h:=cT hc1 h
 refine AH (AF (AD (AL (V (E zR (J zR (U (V ?_))))))))
 obtain⟨x1,hx1,h⟩:=bnd h
 obtain⟨y1,hy1,h⟩:=bnd h
 refine E zR (E zR (E zR ?_))
 refine CP hx1 hs0_ zR Eh C2 zR zR fun be1 of1 hc2=>?_
 refine Aa (Ae x1) zR CR zR zR (Cj hc2) (AX 0 lW ((Uq hy1 :)) zR (U ?_))
 refine AG zR (fun hc3=>?_) (fun hc3=>?_)
 replace h:=cT hc3 h
 refine V (E zR (J zR (U (AM (BM (Ab (DD (BM (ER ?_)))))))))
 obtain rfl:=Option.some.inj h
 exact AY [] 0 zR zR zR
 replace h:=cF hc3 h
 refine AH (Ai (AF (AJ (O zR A3 (E zR (AS ?_))))))
 exact Ac (m1,wI (a1+1)) h (Nat.lt_succ_self _) tL (fun _ hw=>BJ.pick (H:=[]) hw [] 0 zR)
 replace h:=cF hc1 h
 refine Al (Aw (A9 (Au ?_)))
 exact Av () h tL (fun _ hw=>BJ.pick (H:=[]) hw [] 0 zR)
 unfold Tq at h
 refine A4 [] (H) ?_ tL
 refine V (J zR (U (AM ?_)))
 obtain rfl:=Option.some.inj h
 exact AY [] 0 zR zR zR
def Ws(n:Nat)(p0:List Af):Option Bool:=
 (Zk n p0).bind fun y1=>
 ret (decide (0≤y1)) fun x1=>
 some x1
theorem pU{n:Nat}{v0_:Value}{p0:List Af}{r:Bool}(h:Ws n p0=some r)(hs0_:Bn K w0 Ae 2 v0_ p0):BH Tryz.prog K w0 166 [v0_,.func (.func 167) #[] #[]] [] H (fun u M=>u=vB r∧M=[]):=by
 unfold Ws at h
 refine BH.enter Tryz.func166 rfl rfl ?_
 refine V (J zR (U (V ?_)))
 obtain⟨y1,hy1,h⟩:=bnd h
 obtain⟨x1,ex1,h⟩:=Bc h
 refine E zR (E zR (AX 0 mc (pF hy1 hs0_) zR (O zR LN ?_)))
 refine Ak (u:=vB x1) zR zR (congrArg vB ex1) ?_
 refine U (AM ?_)
 obtain rfl:=Option.some.inj h
 exact AY [] 0 zR zR zR
def IG(n:Nat)(p0:Bj):Option Bool:=
 ret (decide (p0.kind=1)) fun x1=>
 cond x1
 (
  (Ed (((decide (p0.cx=0)&&(decide (p0.cy=0)&&(decide (p0.lev=0)&&true)))&&(decide ((p0.kids.length:Int)=0)))&&(decide ((p0.rows.length:Int)≤4))) ((IE n p0.rows).bind fun y1=>some (y1))).bind fun y2=>
  (Ed y2 ((HR (⟨p0.npage,p0.ntag⟩:Af)).bind fun y3=>(PJ y3 ((DY (⟨p0.npage,p0.ntag⟩:Af)).bind fun y4=>some (y4))).bind fun y5=>some (y5))).bind fun y6=>
  some y6)
 (
  ret (decide (p0.kind=2)) fun x2=>
  cond x2
  (
   (Ws n p0.kids).bind fun y7=>
   (Ed ((!y7)&&(decide ((p0.rows.length:Int)=0))) ((HR (⟨p0.npage,p0.ntag⟩:Af)).bind fun y8=>some (y8))).bind fun y9=>
   (Ed ((y9&&(decide (2≤(p0.kids.length:Int))))&&(decide ((p0.kids.length:Int)≤4))) ((Gu (⟨p0.cx,p0.cy,p0.lev⟩:BN)).bind fun y10=>some (y10))).bind fun y11=>
   ret (y11&&(decide (0<p0.lev))) fun x3=>
   some x3)
  (
   some false))
theorem Rb{n:Nat}{v0_4 v0_5:Value}{p0:Bj}{r:Bool}(h:IG n p0=some r)(hs0_4:Bn K w0 AK 4 v0_4 p0.rows)(hs0_5:Bn K w0 Ae 2 v0_5 p0.kids):BH Tryz.prog K w0 122 [.agg #[vI p0.kind,Z p0.cx,Z p0.cy,vI p0.lev,v0_4,v0_5,Z p0.npage,vS p0.ntag]] [] H (fun u M=>u=vB r∧M=[]):=by
 unfold IG at h
 refine BH.enter Tryz.func122 rfl rfl ?_
 refine V ?_
 refine BU zR zR (fun _=>trivial) fun b1=>?_
 refine J zR (U (AD (V (AB zR NJ (AC 0 DT zR (U (AL (V ?_))))))))
 obtain⟨x1,ex1,h⟩:=Bc h
 refine O zR Bq ?_
 refine Ak (u:=vB x1) zR zR (congrArg vB ex1) ?_
 refine U ?_
 refine AG zR (fun hc1=>?_) (fun hc1=>?_)
 replace h:=cT hc1 h
 refine V ?_
 obtain⟨y2,hy2,h⟩:=bnd h
 obtain⟨y6,hy6,h⟩:=bnd h
 refine AB rfl Ft (Aa [Z p0.cx,Z p0.cy,vI p0.lev] rfl Dm rfl rfl (CG 0 rfl (by rintro(_ | (_ | (_ | j))) u hj<;>first | exact hj | exact absurd hj zS)) (BL [] rfl Pm Po It trivial rfl ?_))
 refine Qp zR kY zR zR (CI zR zR (JK (a:=p0.cx) (b:=0)) (CI zR zR (JK (a:=p0.cy) (b:=0)) (CI zR zR (Ww (a:=p0.lev) (b:=0)) Hf))) ?_
 refine E zR ?_
 refine CU (c:=decide ((p0.kids.length:Int)=0)) 12 5 17 zR (fun hb k=>?_) (fun hb k=>?_) ?_
 refine AB zR DZ (AC 0 Hc zR (Bb hs0_5 zR Eh zR (O zR Bq (Ad zR zR zR ?_))))
 exact k.mono tL
 refine AA zR (AA zR (AA zR (AA zR (Ad zR zR zR ?_))))
 exact k.mono tL
 refine E zR ?_
 refine CU (c:=decide ((p0.rows.length:Int)≤4)) 18 5 23 zR (fun hb k=>?_) (fun hb k=>?_) ?_
 refine AB zR Fx (AC 0 Em zR (Bb hs0_4 zR Bf zR (O zR Gs (Ad zR zR zR ?_))))
 exact k.mono tL
 refine AA zR (AA zR (AA zR (AA zR (Ad zR zR zR ?_))))
 exact k.mono tL
 refine E zR ?_
 refine D1 24 4 28 hy2 zR (fun hb hg3 k=>?_) (fun hb k=>?_) ?_
 obtain⟨y1,hy1,hg3⟩:=bnd hg3
 obtain rfl:=Option.some.inj hg3
 refine AB zR Fx (AC 0 Em zR (AX 0 kr (RQ hy1 hs0_4) zR (Ad zR zR zR ?_)))
 exact k.mono tL
 refine AA zR (AA zR (AA zR (Ad zR zR zR ?_)))
 exact k.mono tL
 refine E zR ?_
 refine D1 29 9 38 hy6 zR (fun hb hg4 k=>?_) (fun hb k=>?_) ?_
 obtain⟨y3,hy3,hg4⟩:=bnd hg4
 obtain⟨y5,hy5,hg4⟩:=bnd hg4
 obtain rfl:=Option.some.inj hg4
 refine AB rfl Gm (Aa [Z p0.npage,vS p0.ntag] rfl CR rfl rfl (CG 0 rfl (by rintro(_ | (_ | j)) u hj<;>first | exact hj | exact absurd hj zS)) (AX 0 f4 ((QV hy3 :)) rfl (E rfl ?_)))
 refine Ma 33 4 37 hy5 zR (fun hb k=>?_) (fun hb hg5 k=>?_) ?_
 refine AA zR (AA zR (AA zR (Ad zR zR zR ?_)))
 exact k.mono tL
 obtain⟨y4,hy4,hg5⟩:=bnd hg5
 obtain rfl:=Option.some.inj hg5
 refine AB rfl Gm (Aa [Z p0.npage,vS p0.ntag] rfl CR rfl rfl (CG 0 rfl (by rintro(_ | (_ | j)) u hj<;>first | exact hj | exact absurd hj zS)) (AX 0 Yv ((Lj hy4 :)) rfl (Ad rfl rfl rfl ?_)))
 exact k.mono tL
 refine Ad zR zR zR ?_
 exact k.mono tL
 refine AA zR (AA zR (AA zR (AA zR (AA zR (AA zR (AA zR (AA zR ?_)))))))
 refine Ad zR zR zR ?_
 exact k.mono tL
 refine J zR (U (AM (BM (Ab ?_))))
 obtain rfl:=Option.some.inj h
 exact AY [] 1 zR zR zR
 replace h:=cF hc1 h
 refine V ?_
 obtain⟨x2,ex2,h⟩:=Bc h
 refine O zR Bq ?_
 refine Ak (u:=vB x2) zR zR (congrArg vB ex2) ?_
 refine U ?_
 refine AG zR (fun hc2=>?_) (fun hc2=>?_)
 replace h:=cT hc2 h
 refine V ?_
 obtain⟨y7,hy7,h⟩:=bnd h
 refine AB zR DZ (AC 0 Hc zR (AX 0 lg (pU hy7 hs0_5) zR (J zR (U (V ?_)))))
 obtain⟨y9,hy9,h⟩:=bnd h
 obtain⟨y11,hy11,h⟩:=bnd h
 obtain⟨x3,ex3,h⟩:=Bc h
 refine E zR (B9 zR zR (E zR ?_))
 refine CU (c:=decide ((p0.rows.length:Int)=0)) 46 5 51 zR (fun hb k=>?_) (fun hb k=>?_) ?_
 refine AB zR Fx (AC 0 Em zR (Bb hs0_4 zR Bf zR (O zR Bq (Ad zR zR zR ?_))))
 exact k.mono tL
 refine AA zR (AA zR (AA zR (AA zR (Ad zR zR zR ?_))))
 exact k.mono tL
 refine E zR ?_
 refine D1 52 4 56 hy9 zR (fun hb hg7 k=>?_) (fun hb k=>?_) ?_
 obtain⟨y8,hy8,hg7⟩:=bnd hg7
 obtain rfl:=Option.some.inj hg7
 refine AB rfl Gm (Aa [Z p0.npage,vS p0.ntag] rfl CR rfl rfl (CG 0 rfl (by rintro(_ | (_ | j)) u hj<;>first | exact hj | exact absurd hj zS)) (AX 0 f4 ((QV hy8 :)) rfl (Ad rfl rfl rfl ?_)))
 exact k.mono tL
 refine AA zR (AA zR (AA zR (Ad zR zR zR ?_)))
 exact k.mono tL
 refine E zR ?_
 refine CU (c:=decide (2≤(p0.kids.length:Int))) 57 5 62 zR (fun hb k=>?_) (fun hb k=>?_) ?_
 refine AB zR DZ (AC 0 Hc zR (Bb hs0_5 zR Eh zR (O zR LN (Ad zR zR zR ?_))))
 exact k.mono tL
 refine AA zR (AA zR (AA zR (AA zR (Ad zR zR zR ?_))))
 exact k.mono tL
 refine E zR ?_
 refine CU (c:=decide ((p0.kids.length:Int)≤4)) 63 5 68 zR (fun hb k=>?_) (fun hb k=>?_) ?_
 refine AB zR DZ (AC 0 Hc zR (Bb hs0_5 zR Eh zR (O zR Gs (Ad zR zR zR ?_))))
 exact k.mono tL
 refine AA zR (AA zR (AA zR (AA zR (Ad zR zR zR ?_))))
 exact k.mono tL
 refine E zR ?_
 refine D1 69 4 73 hy11 zR (fun hb hg10 k=>?_) (fun hb k=>?_) ?_
 obtain⟨y10,hy10,hg10⟩:=bnd hg10
 obtain rfl:=Option.some.inj hg10
 refine AB rfl Ft (Aa [Z p0.cx,Z p0.cy,vI p0.lev] rfl Dm rfl rfl (CG 0 rfl (by rintro(_ | (_ | (_ | j))) u hj<;>first | exact hj | exact absurd hj zS)) (AX 0 aK ((OF hy10 :)) rfl (Ad rfl rfl rfl ?_)))
 exact k.mono tL
 refine AA zR (AA zR (AA zR (Ad zR zR zR ?_)))
 exact k.mono tL
 refine E zR ?_
 refine CU (c:=decide (0<p0.lev)) 74 5 79 zR (fun hb k=>?_) (fun hb k=>?_) ?_
 refine AB zR Ft (AB zR Dg (AC 0 DT zR (O zR CD (Ad zR zR zR ?_))))
 exact k.mono tL
 refine AA zR (AA zR (AA zR (AA zR (Ad zR zR zR ?_))))
 exact k.mono tL
 refine Ak (u:=vB x3) zR zR (congrArg vB ex3) ?_
 refine U (AM (BM (Ab ?_)))
 obtain rfl:=Option.some.inj h
 exact AY [] 1 zR zR zR
 replace h:=cF hc2 h
 refine AH (Ai (AF (V (J zR (U (AM ?_))))))
 obtain rfl:=Option.some.inj h
 exact AY [] 1 zR zR zR
def E7(p0:Af):Option Bool:=
 ret ((decide (2≤p0.page))&&(decide ((p0.tag.length:Int)=32))) fun x1=>
 some x1
theorem Nm{p0:Af}{r:Bool}(h:E7 p0=some r): BH Tryz.prog K w0 130 [.agg (Ae p0).toArray] [] H (fun u M=>u=vB r∧M=[]):=by
 unfold E7 at h
 refine BH.enter Tryz.func130 rfl rfl ?_
 refine V ?_
 refine BU zR zR (fun _=>trivial) fun b1=>?_
 refine J zR (U (V ?_))
 obtain⟨x1,ex1,h⟩:=Bc h
 refine AB zR MY (AC 0 Az zR ?_)
 refine O zR (Fp (b:=2)) ?_
 refine E zR ?_
 refine CU (c:=decide ((p0.tag.length:Int)=32)) 6 5 11 zR (fun hb k=>?_) (fun hb k=>?_) ?_
 refine AB zR Mh (AC 0 EZ zR (BV zR Bu zR (O zR Bq (Ad zR zR zR ?_))))
 exact k.mono tL
 refine AA zR (AA zR (AA zR (AA zR (Ad zR zR zR ?_))))
 exact k.mono tL
 refine Ak (u:=vB x1) zR zR (congrArg vB ex1) ?_
 refine U (AM ?_)
 obtain rfl:=Option.some.inj h
 exact AY [] 1 zR zR zR
def II(p0:Af):Option Bool:=
 ret ((decide (p0.page=0))&&(decide (p0.tag=[]))) fun x1=>
 some x1
theorem RY{p0:Af}{r:Bool}(h:II p0=some r): BH Tryz.prog K w0 177 [.agg (Ae p0).toArray] [] H (fun u M=>u=vB r∧M=[]):=by
 unfold II at h
 refine BH.enter Tryz.func177 rfl rfl ?_
 refine V ?_
 refine BU zR zR (fun _=>trivial) fun b1=>?_
 refine J zR (U (V ?_))
 obtain⟨x1,ex1,h⟩:=Bc h
 refine AB zR MY (AC 0 Az zR ?_)
 refine O zR (Or (b:=0)) ?_
 refine E zR ?_
 refine CU (c:=decide (p0.tag=[])) 6 4 10 zR (fun hb k=>?_) (fun hb k=>?_) ?_
 refine AB zR Mh (AC 0 EZ zR (O zR Vz (Ad zR zR zR ?_)))
 exact k.mono tL
 refine AA zR (AA zR (AA zR (Ad zR zR zR ?_)))
 exact k.mono tL
 refine Ak (u:=vB x1) zR zR (congrArg vB ex1) ?_
 refine U (AM ?_)
 obtain rfl:=Option.some.inj h
 exact AY [] 1 zR zR zR
def In(p0:Bj):Option Bool:=
 (Do (⟨p0.cx,p0.cy,p0.lev⟩:BN)).bind fun y9=>
 some y9
def Dc(p0:Bj)(nx_f_ref10_Right_l1:Int→Option Bool)(a1:Int):Option Bool:=
 cond (decide (a1<(p0.kids.length:Int)))
 (
  (Aq p0.kids a1).bind fun x2=>
  (E7 x2).bind fun y8=>
  cond (!y8)
  (
   some false)
  (
   ret (wI (a1+1)) fun i_1=>
   nx_f_ref10_Right_l1 i_1))
 (
  In p0)
def EI(p0:Bj):Nat→Int→Option Bool:=Be fun nx x=>Dc p0 nx x
def JE(n:Nat)(p0:Bj):Option Bool:=
 cond (decide (p0.kind=1))
 (
  (E2 n p0.rows).bind fun y1=>
  (E7 (⟨p0.npage,p0.ntag⟩:Af)).bind fun y2=>
  (Ed ((decide ((p0.rows.length:Int)≤4))&&y1) ((PJ y2 ((II (⟨p0.npage,p0.ntag⟩:Af)).bind fun y3=>some (y3))).bind fun y4=>some (y4))).bind fun y5=>
  ret ((y5&&(decide ((p0.kids.length:Int)=0)))&&(decide (p0.cx=0)&&(decide (p0.cy=0)&&(decide (p0.lev=0)&&true)))) fun x1=>
  some x1)
 (
  (PJ ((!decide (p0.kind=2))||(decide (0<(p0.rows.length:Int)))) ((II (⟨p0.npage,p0.ntag⟩:Af)).bind fun y6=>some (!y6))).bind fun y7=>
  cond (((y7||(decide ((p0.kids.length:Int)<2)))||(decide (4<(p0.kids.length:Int))))||(decide (p0.lev<1)))
  (
   some false)
  (
   EI p0 n 0))
theorem Wh{n:Nat}{v0_4 v0_5:Value}{p0:Bj}{r:Bool}(h:JE n p0=some r)(hs0_4:Bn K w0 AK 4 v0_4 p0.rows)(hs0_5:Bn K w0 Ae 2 v0_5 p0.kids):BH Tryz.prog K w0 134 [.agg #[vI p0.kind,Z p0.cx,Z p0.cy,vI p0.lev,v0_4,v0_5,Z p0.npage,vS p0.ntag]] [] H (fun u M=>u=vB r∧M=[]):=by
 unfold JE at h
 refine BH.enter Tryz.func134 rfl rfl ?_
 refine V ?_
 refine BU zR zR (fun _=>trivial) fun b1=>?_
 refine J zR (U (AD (V (AB zR NJ (AC 0 DT zR (O zR Bq (U ?_)))))))
 refine AG zR (fun hc1=>?_) (fun hc1=>?_)
 replace h:=cT hc1 h
 refine V ?_
 obtain⟨y1,hy1,h⟩:=bnd h
 refine AB zR Fx (AC 0 Em zR (AX 0 jc (Qj hy1 hs0_4) zR (J zR (U (V ?_)))))
 obtain⟨y2,hy2,h⟩:=bnd h
 refine AB rfl Gm (Aa [Z p0.npage,vS p0.ntag] rfl CR rfl rfl (CG 0 rfl (by rintro(_ | (_ | j)) u hj<;>first | exact hj | exact absurd hj zS)) (AX 0 fG ((Nm hy2 :)) rfl (J rfl (U (V ?_)))))
 obtain⟨y5,hy5,h⟩:=bnd h
 obtain⟨x1,ex1,h⟩:=Bc h
 refine AB zR Fx (AC 0 Em zR (Bb hs0_4 zR Bf zR (O zR Gs (E zR ?_))))
 refine CU (c:=y1) 20 2 22 zR (fun hb k=>?_) (fun hb k=>?_) ?_
 refine E zR (Ad zR zR zR ?_)
 exact k.mono tL
 refine AA zR (Ad zR zR zR ?_)
 exact k.mono tL
 refine E zR ?_
 refine D1 23 7 30 hy5 zR (fun hb hg2 k=>?_) (fun hb k=>?_) ?_
 obtain⟨y4,hy4,hg2⟩:=bnd hg2
 obtain rfl:=Option.some.inj hg2
 refine E zR (E zR ?_)
 refine Ma 25 4 29 hy4 zR (fun hb k=>?_) (fun hb hg3 k=>?_) ?_
 refine AA zR (AA zR (AA zR (Ad zR zR zR ?_)))
 exact k.mono tL
 obtain⟨y3,hy3,hg3⟩:=bnd hg3
 obtain rfl:=Option.some.inj hg3
 refine AB rfl Gm (Aa [Z p0.npage,vS p0.ntag] rfl CR rfl rfl (CG 0 rfl (by rintro(_ | (_ | j)) u hj<;>first | exact hj | exact absurd hj zS)) (AX 0 fi ((RY hy3 :)) rfl (Ad rfl rfl rfl ?_)))
 exact k.mono tL
 refine Ad zR zR zR ?_
 exact k.mono tL
 refine AA zR (AA zR (AA zR (AA zR (AA zR (AA zR (Ad zR zR zR ?_))))))
 exact k.mono tL
 refine E zR ?_
 refine CU (c:=decide ((p0.kids.length:Int)=0)) 31 5 36 zR (fun hb k=>?_) (fun hb k=>?_) ?_
 refine AB zR DZ (AC 0 Hc zR (Bb hs0_5 zR Eh zR (O zR Bq (Ad zR zR zR ?_))))
 exact k.mono tL
 refine AA zR (AA zR (AA zR (AA zR (Ad zR zR zR ?_))))
 exact k.mono tL
 refine E zR ?_
 refine CU (c:=decide (p0.cx=0)&&(decide (p0.cy=0)&&(decide (p0.lev=0)&&true))) 37 5 42 zR (fun hb k=>?_) (fun hb k=>?_) ?_
 refine AB rfl Ft (Aa [Z p0.cx,Z p0.cy,vI p0.lev] rfl Dm rfl rfl (CG 0 rfl (by rintro(_ | (_ | (_ | j))) u hj<;>first | exact hj | exact absurd hj zS)) (BL [] rfl Pm Po It trivial rfl ?_))
 refine Qp zR kY zR zR (CI zR zR (JK (a:=p0.cx) (b:=0)) (CI zR zR (JK (a:=p0.cy) (b:=0)) (CI zR zR (Ww (a:=p0.lev) (b:=0)) Hf))) ?_
 refine Ad zR zR zR ?_
 exact k.mono tL
 refine AA zR (AA zR (AA zR (AA zR (Ad zR zR zR ?_))))
 exact k.mono tL
 refine Ak (u:=vB x1) zR zR (congrArg vB ex1) ?_
 refine U (AM (Ab ?_))
 obtain rfl:=Option.some.inj h
 exact AY [] 1 zR zR zR
 replace h:=cF hc1 h
 refine AH (AF (AD (V ?_)))
 obtain⟨y7,hy7,h⟩:=bnd h
 refine AB zR NJ (AC 0 DT zR (O zR Bh (E zR ?_)))
 refine C1 (c:=decide (0<(p0.rows.length:Int))) 46 5 51 zR (fun hb k=>?_) (fun hb k=>?_) ?_
 refine AA zR (AA zR (AA zR (AA zR (Ad zR zR zR ?_))))
 exact k.mono tL
 refine AB zR Fx (AC 0 Em zR (Bb hs0_4 zR Bf zR (O zR CD (Ad zR zR zR ?_))))
 exact k.mono tL
 refine E zR ?_
 refine Ma 52 5 57 hy7 zR (fun hb k=>?_) (fun hb hg7 k=>?_) ?_
 refine AA zR (AA zR (AA zR (AA zR (Ad zR zR zR ?_))))
 exact k.mono tL
 obtain⟨y6,hy6,hg7⟩:=bnd hg7
 obtain rfl:=Option.some.inj hg7
 refine AB rfl Gm (Aa [Z p0.npage,vS p0.ntag] rfl CR rfl rfl (CG 0 rfl (by rintro(_ | (_ | j)) u hj<;>first | exact hj | exact absurd hj zS)) (AX 0 fi ((RY hy6 :)) rfl (B9 rfl rfl (Ad rfl rfl rfl ?_))))
 exact k.mono tL
 refine E zR ?_
 refine C1 (c:=decide ((p0.kids.length:Int)<2)) 58 5 63 zR (fun hb k=>?_) (fun hb k=>?_) ?_
 refine AA zR (AA zR (AA zR (AA zR (Ad zR zR zR ?_))))
 exact k.mono tL
 refine AB zR DZ (AC 0 Hc zR (Bb hs0_5 zR Eh zR (O zR Ao (Ad zR zR zR ?_))))
 exact k.mono tL
 refine E zR ?_
 refine C1 (c:=decide (4<(p0.kids.length:Int))) 64 5 69 zR (fun hb k=>?_) (fun hb k=>?_) ?_
 refine AA zR (AA zR (AA zR (AA zR (Ad zR zR zR ?_))))
 exact k.mono tL
 refine AB zR DZ (AC 0 Hc zR (Bb hs0_5 zR Eh zR (O zR CD (Ad zR zR zR ?_))))
 exact k.mono tL
 refine E zR ?_
 refine C1 (c:=decide (p0.lev<1)) 70 5 75 zR (fun hb k=>?_) (fun hb k=>?_) ?_
 refine AA zR (AA zR (AA zR (AA zR (Ad zR zR zR ?_))))
 exact k.mono tL
 refine AB zR Ft (AB zR Dg (AC 0 DT zR (O zR Ao (Ad zR zR zR ?_))))
 exact k.mono tL
 refine U ?_
 refine AG zR (fun hc2=>?_) (fun hc2=>?_)
 replace h:=cT hc2 h
 refine V (J zR (U (AM (Ab ?_))))
 obtain rfl:=Option.some.inj h
 exact AY [] 1 zR zR zR
 replace h:=cF hc2 h
 refine AH (AF ?_)
 refine A1 (α:=Unit) (fun x=>In p0=some r) (fun x=>[(1,vP b1 0)]) (fun x=>AI b1 (.cells #[vI p0.kind,Z p0.cx,Z p0.cy,vI p0.lev,v0_4,v0_5,Z p0.npage,vS p0.ntag] 148)::H) ?_ (fun x D h=>?_)
 refine V (J zR (U (AL ?_)))
 refine SX.heap (SX.mono (Ay (α:=Nat×Int) (fun x=>EI p0 x.1 x.2=some r) (fun x=>[(1,vP b1 0),(5,vI x.2)]) (fun x=>AI b1 (.cells #[vI p0.kind,Z p0.cx,Z p0.cy,vI p0.lev,v0_4,v0_5,Z p0.npage,vS p0.ntag] 148)::H) (fun x=>x.1) (fun x D h=>?_) (n,0) h) tL) (fun _ hw=>BJ.pick (H:=[_]) hw [0] 1 zR)
 obtain⟨m1,a1⟩:=x
 dsimp only at h
 rcases m1 with _ | m1
 cases (show(none:Option _)=some r from h)
 replace h:Dc p0 (EI p0 m1) a1=some r:=h
 unfold Dc at h
 refine A4 [(1,vP b1 0),(5,vI a1)] (AI b1 (.cells #[vI p0.kind,Z p0.cx,Z p0.cy,vI p0.lev,v0_4,v0_5,Z p0.npage,vS p0.ntag] 148)::H) ?_ tL
 refine AD (V (E zR (AB zR DZ (AC 0 Hc zR (Bb hs0_5 zR Eh zR (O zR Ao (U ?_)))))))
 refine AG zR (fun hc3=>?_) (fun hc3=>?_)
 replace h:=cT hc3 h
 refine AH (AF (AD (AL (V ?_))))
 obtain⟨x2,hx2,h⟩:=bnd h
 obtain⟨y8,hy8,h⟩:=bnd h
 refine AB zR DZ (AC 0 Hc zR (E zR ?_))
 refine CP hx2 hs0_5 zR Eh C2 zR zR fun be1 of1 hc4=>?_
 refine Aa (Ae x2) zR CR zR zR (Cj hc4) (AX 0 fG ((Nm hy8 :)) zR (J zR (U (V (E zR (B9 zR zR (U ?_)))))))
 refine AG zR (fun hc5=>?_) (fun hc5=>?_)
 replace h:=cT hc5 h
 refine V (J zR (U (AM (BM (Ab (DD (BM (ER ?_))))))))
 obtain rfl:=Option.some.inj h
 exact AY [] 1 zR zR zR
 replace h:=cF hc5 h
 refine AH (Ai (AF (AJ ?_)))
 obtain⟨i_1,ei_1,h⟩:=Bc h
 refine E zR (O zR A3 ?_)
 refine Ak (u:=vI i_1) zR zR (congrArg vI ei_1) ?_
 refine AS ?_
 exact Ac (m1,i_1) h (Nat.lt_succ_self _) tL (fun _ hw=>BJ.pick (H:=[_]) hw [0] 1 zR)
 replace h:=cF hc3 h
 refine Al (Aw (A9 (Au ?_)))
 exact Av () h tL (fun _ hw=>BJ.pick (H:=[_]) hw [0] 1 zR)
 unfold In at h
 refine A4 [(1,vP b1 0)] (AI b1 (.cells #[vI p0.kind,Z p0.cx,Z p0.cy,vI p0.lev,v0_4,v0_5,Z p0.npage,vS p0.ntag] 148)::H) ?_ tL
 refine V ?_
 obtain⟨y9,hy9,h⟩:=bnd h
 refine AB rfl Ft (Aa [Z p0.cx,Z p0.cy,vI p0.lev] rfl Dm rfl rfl (CG 0 rfl (by rintro(_ | (_ | (_ | j))) u hj<;>first | exact hj | exact absurd hj zS)) (AX 0 Ze ((NE hy9 :)) rfl (J rfl (U (AM ?_)))))
 obtain rfl:=Option.some.inj h
 exact AY [] 1 zR zR zR
def MQ(a1:List UInt8):Option (List UInt8):=
 some a1
def LG(p1:Int)(nx_f_ref10_put_l1:UInt64×List UInt8×Int→Option (List UInt8))(a2:UInt64)(a3:List UInt8)(a4:Int):Option (List UInt8):=
 cond (decide (a4<p1))
 (
  (EH a3 [a2.toUInt8]).bind fun s1=>
  (N1 a2 256).bind fun q1=>
  ret (wI (a4+1)) fun i_1=>
  nx_f_ref10_put_l1 (q1,s1,i_1))
 (
  MQ a3)
def MO(p1:Int):Nat→(UInt64×List UInt8×Int)→Option (List UInt8):=Be fun nx x=>LG p1 nx x.1 x.2.1 x.2.2
def Ca(n:Nat)(p0:UInt64)(p1:Int):Option (List UInt8):=
 MO p1 n (p0,[],0)
theorem EF{n:Nat}{p0:UInt64}{p1:Int}{r:List UInt8}(h:Ca n p0 p1=some r): BH Tryz.prog K w0 178 [Ag p0,vI p1] [] H (fun u M=>u=vS r∧M=[]):=by
 unfold Ca at h
 refine BH.enter Tryz.func178 rfl rfl ?_
 refine V (J zR (U (V (J zR (U ?_)))))
 refine A1 (α:=List UInt8) (fun x=>MQ x=some r) (fun x=>[(5,vS x)]) (fun x=>H) ?_ (fun a1 D h=>?_)
 refine V (J zR (U (AL ?_)))
 refine SX.heap (SX.mono (Ay (α:=Nat×UInt64×List UInt8×Int) (fun x=>MO p1 x.1 (x.2.1,x.2.2.1,x.2.2.2)=some r) (fun x=>[(0,Ag x.2.1),(1,vI p1),(5,vS x.2.2.1),(6,vI x.2.2.2)]) (fun x=>H) (fun x=>x.1) (fun x D h=>?_) (n,p0,[],0) h) tL) (fun _ hw=>BJ.pick (H:=[]) hw [] 0 zR)
 obtain⟨m1,a2,a3,a4⟩:=x
 dsimp only at h
 rcases m1 with _ | m1
 cases (show(none:Option _)=some r from h)
 replace h:LG p1 (MO p1 m1) a2 a3 a4=some r:=h
 unfold LG at h
 refine A4 [(0,Ag a2),(1,vI p1),(5,vS a3),(6,vI a4)] (H) ?_ tL
 refine AD (V (E zR (E zR (O zR Ao (U ?_)))))
 refine AG zR (fun hc1=>?_) (fun hc1=>?_)
 replace h:=cT hc1 h
 refine AH (AF (AD (AL (V ?_))))
 obtain⟨s1,hs1,h⟩:=bnd h
 refine E zR (E zR (As zR zR (Fk CB CW) ?_))
 refine Bd [_] rfl B1 Iv J7 ⟨rfl,trivial⟩ rfl rfl rfl (by first | (simp[Value.cells];done) | (intro v hv;simp only[List.mem_cons,List.not_mem_nil,or_false]at hv;rcases hv with rfl<;>rfl)) rfl rfl (fun _=>trivial) fun b1=>?_
 refine Bi D7 1 ([a2.toUInt8]:List UInt8) zR (fun _=>rfl) zR ?_
 refine HE 0 zR B1 CW Bu zR zR (O zR (B4 hs1) (J zR (U (AJ ?_))))
 obtain⟨q1,hq1,h⟩:=bnd h
 refine E zR ?_
 refine O zR (Nn (b:=256) hq1) ?_
 refine J zR (AS (Ai (AF (AJ ?_))))
 obtain⟨i_1,ei_1,h⟩:=Bc h
 refine E zR (O zR A3 ?_)
 refine Ak (u:=vI i_1) zR zR (congrArg vI ei_1) ?_
 refine AS ?_
 exact Ac (m1,q1,s1,i_1) h (Nat.lt_succ_self _) tL (fun _ hw=>BJ.pick (H:=[_]) hw [] 1 zR)
 replace h:=cF hc1 h
 refine Al (Aw (A9 (Au ?_)))
 exact Av a3 h tL (fun _ hw=>BJ.pick (H:=[]) hw [] 0 zR)
 unfold MQ at h
 refine A4 [(5,vS a1)] (H) ?_ tL
 refine V (E zR (J zR (U (AM ?_))))
 obtain rfl:=Option.some.inj h
 exact AY [] 0 zR zR zR
def Hp(a5:List UInt8):Option (List UInt8×Int):=
 some (a5,0)
def DJ(n:Nat)(p0:Bj)(nx_f_ref10_Encode_l2:List UInt8×Int→Option (List UInt8×Int))(a6:List UInt8)(a7:Int):Option (List UInt8×Int):=
 cond (decide (a7<(p0.rows.length:Int)))
 (
  (Aq p0.rows a7).bind fun x3=>
  (Ca n x3.id 8).bind fun y9=>
  (EH a6 y9).bind fun s10=>
  (Ca n x3.x.toUInt64 4).bind fun y10=>
  (EH s10 y10).bind fun s11=>
  (Ca n x3.y.toUInt64 4).bind fun y11=>
  (EH s11 y11).bind fun s12=>
  (Ca n (BK (x3.txt.length:Int)) 1).bind fun y12=>
  (EH s12 y12).bind fun s13=>
  (EH s13 x3.txt).bind fun s14=>
  ret (wI (a7+1)) fun i_2=>
  nx_f_ref10_Encode_l2 (s14,i_2))
 (
  Hp a6)
def Dv(n:Nat)(p0:Bj):Nat→(List UInt8×Int)→Option (List UInt8×Int):=Be fun nx x=>DJ n p0 nx x.1 x.2
def Ei(n:Nat)(p0:Bj)(a4:List UInt8):Option (List UInt8×Int):=
 (Ca n (BK (p0.rows.length:Int)) 1).bind fun y7=>
 (EH [1] y7).bind fun s7=>
 (Ca n p0.npage.toUInt64 4).bind fun y8=>
 (EH s7 y8).bind fun s8=>
 (EH s8 a4).bind fun s9=>
 Dv n p0 n (s9,0)
def HY(n:Nat)(p0:Bj):Option (List UInt8×Int):=
 cond (decide (p0.ntag=[]))
 (
  (Ur 1 32 0).bind fun l1=>
  Ei n p0 l1)
 (
  Ei n p0 p0.ntag)
def Hn(a1:List UInt8):Option (List UInt8×Int):=
 some (a1,0)
def DN(n:Nat)(p0:Bj)(nx_f_ref10_Encode_l1:List UInt8×Int→Option (List UInt8×Int))(a2:List UInt8)(a3:Int):Option (List UInt8×Int):=
 cond (decide (a3<(p0.kids.length:Int)))
 (
  (Aq p0.kids a3).bind fun x1=>
  (Ca n x1.page.toUInt64 4).bind fun y6=>
  (EH a2 y6).bind fun s5=>
  (Aq p0.kids a3).bind fun x2=>
  (EH s5 x2.tag).bind fun s6=>
  ret (wI (a3+1)) fun i_1=>
  nx_f_ref10_Encode_l1 (s6,i_1))
 (
  Hn a2)
def D0(n:Nat)(p0:Bj):Nat→(List UInt8×Int)→Option (List UInt8×Int):=Be fun nx x=>DN n p0 nx x.1 x.2
def Du(n:Nat)(p0:Bj):Option (List UInt8×Int):=
 (JE n p0).bind fun y1=>
 cond (!y1)
 (
  some ([],90))
 (
  cond (decide (p0.kind=2))
  (
   (Ca n (BK (p0.kids.length:Int)) 1).bind fun y2=>
   (EH [2] y2).bind fun s1=>
   (Ca n (BK p0.lev) 1).bind fun y3=>
   (EH s1 y3).bind fun s2=>
   (Ca n p0.cx.toUInt64 4).bind fun y4=>
   (EH s2 y4).bind fun s3=>
   (Ca n p0.cy.toUInt64 4).bind fun y5=>
   (EH s3 y5).bind fun s4=>
   D0 n p0 n (s4,0))
  (
   HY n p0))
theorem Uw{n:Nat}{v0_4 v0_5:Value}{p0:Bj}{r:List UInt8×Int}(h:Du n p0=some r)(hs0_4:Bn K w0 AK 4 v0_4 p0.rows)(hs0_5:Bn K w0 Ae 2 v0_5 p0.kids):BH Tryz.prog K w0 135 [.agg #[vI p0.kind,Z p0.cx,Z p0.cy,vI p0.lev,v0_4,v0_5,Z p0.npage,vS p0.ntag]] [] H (fun u M=>u=.tuple #[vS r.1,vI r.2]∧M=[]):=by
 unfold Du at h
 refine BH.enter Tryz.func135 rfl rfl ?_
 refine V ?_
 refine BU zR zR (fun _=>trivial) fun b1=>?_
 refine J zR (J zR (U (V ?_)))
 obtain⟨y1,hy1,h⟩:=bnd h
 refine Aa [vI p0.kind,Z p0.cx,Z p0.cy,vI p0.lev,v0_4,v0_5,Z p0.npage,vS p0.ntag] zR K8 zR zR (AZ 0 zR) (AX 0 lQ ((Wh hy1 hs0_4 hs0_5 :)) zR (J zR (U (AD (V (E zR (B9 zR zR (U ?_))))))))
 refine AG zR (fun hc1=>?_) (fun hc1=>?_)
 replace h:=cT hc1 h
 refine V (J zR (J zR (U (AM (Ab ?_)))))
 obtain rfl:=Option.some.inj h
 exact AY [] 1 zR zR zR
 replace h:=cF hc1 h
 refine AH (AF ?_)
 refine A1 (α:=Unit) (fun x=>HY n p0=some r) (fun x=>[(1,vP b1 0)]) (fun x=>AI b1 (.cells #[vI p0.kind,Z p0.cx,Z p0.cy,vI p0.lev,v0_4,v0_5,Z p0.npage,vS p0.ntag] 148)::H) ?_ (fun x D h=>?_)
 refine V (AB zR NJ (AC 0 DT zR (O zR Bq (U ?_))))
 refine AG zR (fun hc2=>?_) (fun hc2=>?_)
 replace h:=cT hc2 h
 refine AD ?_
 obtain⟨y2,hy2,h⟩:=bnd h
 obtain⟨s1,hs1,h⟩:=bnd h
 obtain⟨y3,hy3,h⟩:=bnd h
 obtain⟨s2,hs2,h⟩:=bnd h
 obtain⟨y4,hy4,h⟩:=bnd h
 obtain⟨s3,hs3,h⟩:=bnd h
 obtain⟨y5,hy5,h⟩:=bnd h
 obtain⟨s4,hs4,h⟩:=bnd h
 refine Aj CJ [0] (BY [(true,0),(true,1),(true,2),(true,3),(true,6),(true,7),(true,8),(true,9),(true,12),(true,13),(true,14),(true,15),(true,18),(true,19),(true,20),(true,21),(false,4),(true,5),(false,10),(true,11),(false,16),(true,17),(false,22)] (.last 23 (Pl.of [(false,24)]))) zK (AB zR DZ (AC 0 Hc zR (Bb hs0_5 zR Eh zR (As zR zR (Cr Ef CB) (AB zR Ft (AB zR Dg (AC 0 DT zR ?_)))))))
 refine As zR zR (Cr Ef CB) (AB zR Ft (AB zR GG (AC 0 Az zR (As zR zR (CF Bg CB) (AB zR Ft (AB zR GE (AC 0 Az zR ?_)))))))
 refine As zR zR (CF Bg CB) ?_
 refine AP (vs:=[_,_]) (Hin:=[]) (Hr:=_::_) zR zR ⟨zR,zR,zT⟩ LJ zR zR (EF hy2) ?_
 rintro _ _ ⟨rfl,rfl⟩
 refine⟨⟨⟨0,rfl⟩,trivial⟩,?_⟩
 refine O zR (B4 hs1) ?_
 refine AP (vs:=[_,_]) (Hin:=[]) (Hr:=_::_) zR zR ⟨zR,zR,zT⟩ LJ zR zR (EF hy3) ?_
 rintro _ _ ⟨rfl,rfl⟩
 refine⟨⟨⟨0,rfl⟩,trivial⟩,?_⟩
 refine O zR (B4 hs2) ?_
 refine AP (vs:=[_,_]) (Hin:=[]) (Hr:=_::_) zR zR ⟨zR,zR,zT⟩ LJ zR zR (EF hy4) ?_
 rintro _ _ ⟨rfl,rfl⟩
 refine⟨⟨⟨0,rfl⟩,trivial⟩,?_⟩
 refine O zR (B4 hs3) ?_
 refine AP (vs:=[_,_]) (Hin:=[]) (Hr:=_::_) zR zR ⟨zR,zR,zT⟩ LJ zR zR (EF hy5) ?_
 rintro _ _ ⟨rfl,rfl⟩
 refine⟨⟨⟨0,rfl⟩,trivial⟩,?_⟩
 refine BE (O zR (B4 hs4) (J zR (U ?_)))
 refine A1 (α:=List UInt8) (fun x=>Hn x=some r) (fun x=>[(5,vS x)]) (fun x=>H) ?_ (fun a1 D h=>?_)
 refine V (J zR (U (AL ?_)))
 refine SX.heap (SX.mono (Ay (α:=Nat×List UInt8×Int) (fun x=>D0 n p0 x.1 (x.2.1,x.2.2)=some r) (fun x=>[(1,vP b1 0),(5,vS x.2.1),(6,vI x.2.2)]) (fun x=>AI b1 (.cells #[vI p0.kind,Z p0.cx,Z p0.cy,vI p0.lev,v0_4,v0_5,Z p0.npage,vS p0.ntag] 148)::H) (fun x=>x.1) (fun x D h=>?_) (n,s4,0) h) tL) (fun _ hw=>BJ.pick (H:=[_]) hw [0] 1 zR)
 obtain⟨m1,a2,a3⟩:=x
 dsimp only at h
 rcases m1 with _ | m1
 cases (show(none:Option _)=some r from h)
 replace h:DN n p0 (D0 n p0 m1) a2 a3=some r:=h
 unfold DN at h
 refine A4 [(1,vP b1 0),(5,vS a2),(6,vI a3)] (AI b1 (.cells #[vI p0.kind,Z p0.cx,Z p0.cy,vI p0.lev,v0_4,v0_5,Z p0.npage,vS p0.ntag] 148)::H) ?_ tL
 refine AD (V (E zR (AB zR DZ (AC 0 Hc zR (Bb hs0_5 zR Eh zR (O zR Ao (U ?_)))))))
 refine AG zR (fun hc3=>?_) (fun hc3=>?_)
 replace h:=cT hc3 h
 refine AH (AF (AD (AL ?_)))
 obtain⟨x1,hx1,h⟩:=bnd h
 obtain⟨y6,hy6,h⟩:=bnd h
 obtain⟨s5,hs5,h⟩:=bnd h
 obtain⟨x2,hx2,h⟩:=bnd h
 obtain⟨s6,hs6,h⟩:=bnd h
 refine Aj CJ [0] (BY [(true,0),(true,1),(true,2),(true,3),(true,4),(true,5),(true,6),(true,7),(true,10),(true,11),(true,12),(true,13),(true,14),(true,15),(false,8),(false,9)] (.last 16 (Pl.of [(false,17)]))) zK (E zR (AB zR DZ (AC 0 Hc zR (E zR ?_))))
 refine CP hx1 hs0_5 zR Eh C2 zR zR fun be1 of1 hc4=>?_
 refine AB zR MY ?_
 refine BR zR Az zR (Ck (j:=0) hc4 zR) ?_
 refine As zR zR (CF Bg CB) (AB zR DZ (AC 0 Hc zR (E zR ?_)))
 refine CP hx2 hs0_5 zR Eh C2 zR zR fun be2 of2 hc5=>?_
 refine AB zR Mh ?_
 refine BR zR EZ zR (Ck (j:=1) hc5 zR) ?_
 refine AP (vs:=[_,_]) (Hin:=[]) (Hr:=_::_) zR zR ⟨zR,zR,zT⟩ LJ zR zR (EF hy6) ?_
 rintro _ _ ⟨rfl,rfl⟩
 refine⟨⟨⟨0,rfl⟩,trivial⟩,?_⟩
 refine O zR (B4 hs5) (BE (O zR (B4 hs6) (J zR (AS (Ai (AF (AJ ?_)))))))
 obtain⟨i_1,ei_1,h⟩:=Bc h
 refine E zR (O zR A3 ?_)
 refine Ak (u:=vI i_1) zR zR (congrArg vI ei_1) ?_
 refine AS ?_
 exact Ac (m1,s6,i_1) h (Nat.lt_succ_self _) tL (fun _ hw=>BJ.pick (H:=[_]) hw [0] 1 zR)
 replace h:=cF hc3 h
 refine Al (Aw (A9 (Au ?_)))
 exact Av a2 h tL (fun _ hw=>BJ.pick (H:=[_]) hw [] 1 zR)
 unfold Hn at h
 refine A4 [(5,vS a1)] (H) ?_ tL
 refine V (E zR (J zR (J zR (U (AM (ER ?_))))))
 obtain rfl:=Option.some.inj h
 exact AY [] 0 zR zR zR
 replace h:=cF hc2 h
 refine AH ?_
 exact Av () h tL (fun _ hw=>BJ.pick (H:=[_]) hw [0] 1 zR)
 unfold HY at h
 refine A4 [(1,vP b1 0)] (AI b1 (.cells #[vI p0.kind,Z p0.cx,Z p0.cy,vI p0.lev,v0_4,v0_5,Z p0.npage,vS p0.ntag] 148)::H) ?_ tL
 refine V (AB zR Gm (AB zR Mh (AC 0 EZ zR (J zR (U ?_)))))
 refine A1 (α:=List UInt8) (fun x=>Ei n p0 x=some r) (fun x=>[(1,vP b1 0),(7,vS x)]) (fun x=>AI b1 (.cells #[vI p0.kind,Z p0.cx,Z p0.cy,vI p0.lev,v0_4,v0_5,Z p0.npage,vS p0.ntag] 148)::H) ?_ (fun a4 D h=>?_)
 refine V (E zR (O zR Vz (U ?_)))
 refine AG zR (fun hc6=>?_) (fun hc6=>?_)
 replace h:=cT hc6 h
 refine AJ ?_
 obtain⟨l1,hl1,h⟩:=bnd h
 refine Z8 hl1 D7 zR B1 Iv Uy J7 zR zR zR zR (fun _=>trivial) fun v1=>?_
 refine HE 0 zR B1 CW Bu zR zR (J zR (AS ?_))
 exact Av l1 h tL (fun _ hw=>BJ.pick (H:=[_,_]) hw [1] 2 zR)
 replace h:=cF hc6 h
 refine AH ?_
 exact Av p0.ntag h tL (fun _ hw=>BJ.pick (H:=[_]) hw [0] 1 zR)
 unfold Ei at h
 refine A4 [(1,vP b1 0),(7,vS a4)] (AI b1 (.cells #[vI p0.kind,Z p0.cx,Z p0.cy,vI p0.lev,v0_4,v0_5,Z p0.npage,vS p0.ntag] 148)::H) ?_ tL
 refine AD ?_
 obtain⟨y7,hy7,h⟩:=bnd h
 obtain⟨s7,hs7,h⟩:=bnd h
 obtain⟨y8,hy8,h⟩:=bnd h
 obtain⟨s8,hs8,h⟩:=bnd h
 obtain⟨s9,hs9,h⟩:=bnd h
 refine Aj CJ [0] (BY [(true,0),(true,1),(true,2),(true,3),(true,6),(true,7),(true,8),(true,9),(true,12),(false,4),(true,5),(false,10),(false,11)] (.last 13 (Pl.of [(false,14)]))) zK (AB zR Fx (AC 0 Em zR (Bb hs0_4 zR Bf zR (As zR zR (Cr Ef CB) (AB zR Gm (AB zR MY (AC 0 Az zR ?_)))))))
 refine As zR zR (CF Bg CB) (E zR ?_)
 refine AP (vs:=[_,_]) (Hin:=[]) (Hr:=_::_) zR zR ⟨zR,zR,zT⟩ LJ zR zR (EF hy7) ?_
 rintro _ _ ⟨rfl,rfl⟩
 refine⟨⟨⟨0,rfl⟩,trivial⟩,?_⟩
 refine O zR (B4 hs7) ?_
 refine AP (vs:=[_,_]) (Hin:=[]) (Hr:=_::_) zR zR ⟨zR,zR,zT⟩ LJ zR zR (EF hy8) ?_
 rintro _ _ ⟨rfl,rfl⟩
 refine⟨⟨⟨0,rfl⟩,trivial⟩,?_⟩
 refine O zR (B4 hs8) (BE (O zR (B4 hs9) (J zR (U ?_))))
 refine A1 (α:=List UInt8) (fun x=>Hp x=some r) (fun x=>[(8,vS x)]) (fun x=>H) ?_ (fun a5 D h=>?_)
 refine V (J zR (U (AL ?_)))
 refine SX.heap (SX.mono (Ay (α:=Nat×List UInt8×Int) (fun x=>Dv n p0 x.1 (x.2.1,x.2.2)=some r) (fun x=>[(1,vP b1 0),(8,vS x.2.1),(9,vI x.2.2)]) (fun x=>AI b1 (.cells #[vI p0.kind,Z p0.cx,Z p0.cy,vI p0.lev,v0_4,v0_5,Z p0.npage,vS p0.ntag] 148)::H) (fun x=>x.1) (fun x D h=>?_) (n,s9,0) h) tL) (fun _ hw=>BJ.pick (H:=[_]) hw [0] 1 zR)
 obtain⟨m2,a6,a7⟩:=x
 dsimp only at h
 rcases m2 with _ | m2
 cases (show(none:Option _)=some r from h)
 replace h:DJ n p0 (Dv n p0 m2) a6 a7=some r:=h
 unfold DJ at h
 refine A4 [(1,vP b1 0),(8,vS a6),(9,vI a7)] (AI b1 (.cells #[vI p0.kind,Z p0.cx,Z p0.cy,vI p0.lev,v0_4,v0_5,Z p0.npage,vS p0.ntag] 148)::H) ?_ tL
 refine AD (V (E zR (AB zR Fx (AC 0 Em zR (Bb hs0_4 zR Bf zR (O zR Ao (U ?_)))))))
 refine AG zR (fun hc7=>?_) (fun hc7=>?_)
 replace h:=cT hc7 h
 refine AH (AF (AD (AL (V ?_))))
 obtain⟨x3,hx3,h⟩:=bnd h
 refine AB zR Fx (AC 0 Em zR (E zR ?_))
 refine CP hx3 hs0_4 zR Bf Bo zR zR fun be3 of3 hc8=>?_
 refine Aa (AK x3) zR D8 zR zR (Cj hc8) ?_
 refine Ah zR ET (fun _=>trivial) fun b2=>?_
 refine Am 0 zR zR zR zR Bo zR zR zR zT (U ?_)
 obtain⟨y9,hy9,h⟩:=bnd h
 obtain⟨s10,hs10,h⟩:=bnd h
 obtain⟨y10,hy10,h⟩:=bnd h
 obtain⟨s11,hs11,h⟩:=bnd h
 obtain⟨y11,hy11,h⟩:=bnd h
 obtain⟨s12,hs12,h⟩:=bnd h
 obtain⟨y12,hy12,h⟩:=bnd h
 obtain⟨s13,hs13,h⟩:=bnd h
 obtain⟨s14,hs14,h⟩:=bnd h
 refine Aj CJ [0] (BY [(true,0),(true,1),(true,2),(true,5),(true,6),(true,7),(true,10),(true,11),(true,12),(true,15),(true,16),(true,17),(true,18),(true,21),(true,22),(false,3),(true,4),(false,8),(true,9),(false,13),(true,14),(false,19),(false,20)] (.last 23 (Pl.of [(false,24)]))) zK (E zR (AB zR Nh (AC 0 MU zR (AB zR HA (AC 0 Az zR (As zR zR (CF Bg CB) (AB zR G6 ?_)))))))
 refine AC 0 Az zR (As zR zR (CF Bg CB) (AB zR PU (AC 0 EZ zR (BV zR Bu zR (As zR zR (Cr Ef CB) (AB zR PU (AC 0 EZ zR ?_)))))))
 refine AP (vs:=[_,_]) (Hin:=[]) (Hr:=_::_::_) zR zR ⟨zR,zR,zT⟩ LJ zR zR (EF hy9) ?_
 rintro _ _ ⟨rfl,rfl⟩
 refine⟨⟨⟨0,rfl⟩,trivial⟩,?_⟩
 refine O zR (B4 hs10) ?_
 refine AP (vs:=[_,_]) (Hin:=[]) (Hr:=_::_::_) zR zR ⟨zR,zR,zT⟩ LJ zR zR (EF hy10) ?_
 rintro _ _ ⟨rfl,rfl⟩
 refine⟨⟨⟨0,rfl⟩,trivial⟩,?_⟩
 refine O zR (B4 hs11) ?_
 refine AP (vs:=[_,_]) (Hin:=[]) (Hr:=_::_::_) zR zR ⟨zR,zR,zT⟩ LJ zR zR (EF hy11) ?_
 rintro _ _ ⟨rfl,rfl⟩
 refine⟨⟨⟨0,rfl⟩,trivial⟩,?_⟩
 refine O zR (B4 hs12) ?_
 refine AP (vs:=[_,_]) (Hin:=[]) (Hr:=_::_::_) zR zR ⟨zR,zR,zT⟩ LJ zR zR (EF hy12) ?_
 rintro _ _ ⟨rfl,rfl⟩
 refine⟨⟨⟨0,rfl⟩,trivial⟩,?_⟩
 refine O zR (B4 hs13) (BE (O zR (B4 hs14) (J zR (AS (Ai (AF (AJ ?_)))))))
 obtain⟨i_2,ei_2,h⟩:=Bc h
 refine E zR (O zR A3 ?_)
 refine Ak (u:=vI i_2) zR zR (congrArg vI ei_2) ?_
 refine AS ?_
 exact Ac (m2,s14,i_2) h (Nat.lt_succ_self _) tL (fun _ hw=>BJ.pick (H:=[_,_]) hw [1] 2 zR)
 replace h:=cF hc7 h
 refine Al (Aw (A9 (Au ?_)))
 exact Av a6 h tL (fun _ hw=>BJ.pick (H:=[_]) hw [] 1 zR)
 unfold Hp at h
 refine A4 [(8,vS a5)] (H) ?_ tL
 refine V (E zR (J zR (J zR (U (AM ?_)))))
 obtain rfl:=Option.some.inj h
 exact AY [] 0 zR zR zR
end

/- Pages as bytes: the writer, rows.Encode. Condition: the plain functions yield. -/
section
variable {K:Nat→Prop}{w0:World}{H:List AT}
theorem dG(b:Nat)(p v:Value)(e:TypeId)(n:UInt64)(w m:Nat)(xs:List UInt8)(hp:M8 b p)(hl:X5 e)(hw:w≤8)(hm:m≤1048576):BH Tryz.prog K w0 170 [vP b 0,Ag n,vI w] [AI b (.cells #[p,v] e),Ci 5 1 v m (xs.map fun b=>Cw b)] H (fun r M=>r=.tuple #[]∧∃p' v',M8 b p'∧M=[AI b (.cells #[p',v'] e),Ci 5 1 v' (m+w) ((xs++BS n w).map fun b=>Cw b)]):=by
 refine BH.enter Tryz.func170 rfl rfl ?_
 refine V (E zR (E zR (U (AL ?_))))
 refine SX.mono (Ay (α:=Nat×Value×Value) (fun x=>x.1≤w∧M8 b x.2.1) (fun x=>[(0,vP b 0),(1,Ag n),(7,vI w),(8,vI x.1)]) (fun x=>AI b (.cells #[x.2.1,x.2.2] e)::Ci 5 1 x.2.2 (m+x.1) ((xs++BS n x.1).map fun b=>Cw b)::H) (fun x=>w-x.1) (fun x D hp=>?_) (0,p,v) ⟨Nat.zero_le _,hp⟩ |>.heap (fun w h=>by simpa[BS]using h)) tL
 obtain⟨i,p,v⟩:=x
 obtain⟨hi,hadr⟩:=hp
 simp only at hi hadr
 refine V (O zR Ao (U (AD ?_)))
 refine AG zR (fun hc1=>?_) (fun hc1=>?_)
 have hlt:i<w:=by simpa using hc1
 refine AH (AF (AD (AL (V (E zR (J zR (U (Aj CJ [] (BY [(true,0),(true,1),(true,2),(true,3),(true,4),(true,5),(true,6),(true,7)] (.last 8 .nil)) zK (E zR (AW zR zR (AB zR QU (E zR (E zR ?_)))))))))))))
 refine O zR (JR zO zO) ?_
 refine O zR (D4.shr64 (n:=(8*i))) ?_
 refine As zR zR (Fk CB CW) (BE ?_)
 refine AP (vs:=[_,_]) (Hin:=[_,_]) zR zR ⟨zR,zR,zT⟩ VC zR zR (Mc e b p v (m+i) _ _ hadr hl zO) ?_
 rintro _ _ ⟨rfl,v',rfl⟩
 refine⟨trivial,?_⟩
 refine AS (Ai (AF (AJ (O zR (BA zO zO) (E zR (AS ?_))))))
 refine Ac (i+1,vP b 0,v') ⟨hlt,.inr zR⟩ (by simp only;omega) tL (fun w hw=>?_)
 simp only
 rw[QC,←List.append_assoc,List.map_append (l₁:=xs++BS n i),←Nat.add_assoc]
 exact hw
 have hie:i=w:=by simp at hc1;omega
 subst hie
 refine Al (Aw (A9 (Au ?_)))
 exact CQ (C7 zR) (AV (M:=[_,_]) ⟨zR,p,v,hadr,zR⟩ fun _ h=>h)
abbrev Pj(v:Value)(s:List UInt8):AT:=Ci 5 1 v s.length (s.map fun b=>Cw b)
abbrev XR(b:Nat)(p v:Value):AT:=AI b (.cells #[p,v] 243)
def IU(s:List UInt8)(n:UInt64)(w:Int):Option (List UInt8):=if s.length≤1048576∧0≤w∧w≤8 then some (s++BS n w.toNat)else none
def Wb(s t:List UInt8):Option (List UInt8):=if s.length≤1048576∧t.length≤1048576 then some (s++t)else none
def Xe(s:List UInt8):Option (List UInt8×Int):=if s.length≤4194304 then some (s,0)else none
theorem Kx{b:Nat}{p v:Value}{s r:List UInt8}{n:UInt64}{w:Int}(h:IU s n w=some r)(ha:M8 b p):BH Tryz.prog K w0 170 [vP b 0,Ag n,vI w] [XR b p v,Pj v s] H (fun u M=>u=.tuple #[]∧∃p' v',M8 b p'∧M=[XR b p' v',Pj v' r]):=by
 unfold IU at h
 split at h
 rename_i hc
 obtain⟨hl,h0,h8⟩:=hc
 obtain rfl:=Option.some.inj h
 obtain⟨k,rfl⟩:=Int.eq_ofNat_of_zero_le h0
 have hk:(s++BS n k).length=s.length+k:=by simp[A2]
 have:=dG (K:=K) (w0:=w0) (H:=H) b p v 243 n k s.length s ha jh zO hl
 refine BH.mono this ?_
 rintro u M ⟨rfl,p',v',ha',rfl⟩
 refine⟨rfl,p',v',ha',?_⟩
 rw[Pj,Int.toNat_natCast,hk]
 cases h
theorem fY{b:Nat}{p v:Value}{s t r:List UInt8}(h:Wb s t=some r)(ha:M8 b p):BH Tryz.prog K w0 101 [vP b 0,vS t] [XR b p v,Pj v s] H (fun u M=>u=.tuple #[vI t.length,.nilIface]∧∃p' v',M8 b p'∧M=[XR b p' v',Pj v' r]):=by
 unfold Wb at h
 split at h
 rename_i hc
 obtain⟨hl,ht⟩:=hc
 obtain rfl:=Option.some.inj h
 refine BH.mono (Kz 243 b p v s.length (s.map fun b=>Cw b) t ha jh zO) ?_
 rintro u M ⟨rfl,v',rfl⟩
 refine⟨rfl,vP b 0,v',.inr rfl,?_⟩
 simp[Pj,List.length_append]
 cases h
def TR(s:List UInt8)(r:Af):Option (List UInt8):=
 if r.tag.length≤32 then(IU s r.page.toUInt64 4).bind fun s1=>(NT [0] (32-(r.tag.length:Int))).bind fun z=>(EH r.tag z).bind fun u=>Wb s1 u else none
theorem fN{b:Nat}{p v:Value}{s r:List UInt8}{x:Af}(h:TR s x=some r)(ha:M8 b p):BH Tryz.prog K w0 171 [vP b 0,.agg (Ae x).toArray] [XR b p v,Pj v s] H (fun u M=>u=.tuple #[]∧∃p' v',M8 b p'∧M=[XR b p' v',Pj v' r]):=by
 unfold TR at h
 split at h
 case isFalse=>cases h
 rename_i hlen
 obtain⟨s1,hs1,h⟩:=bnd h
 obtain⟨z,hz,h⟩:=bnd h
 obtain⟨u,hu,h⟩:=bnd h
 refine BH.enter Tryz.func171 rfl rfl ?_
 refine V ?_
 refine BU zR zR (fun _=>trivial) fun b0=>?_
 refine U (SX.pick [1,2,0] 3 (V (E zR (AB zR MY (AC 2 Az zR (As zR zR (CF Bg CB) ?_))))))
 refine AP (vs:=[_,_,_]) (Hin:=[_,_]) (Hr:=_::_) zR zR ⟨zR,zR,zR,zT⟩ LK zR zR (Kx hs1 ha) ?_
 rintro _ _ ⟨rfl,p1,v1,ha1,rfl⟩
 refine⟨trivial,?_⟩
 refine U (Aj CJ [2] (BY [(true,0),(true,1),(true,2),(true,3),(true,4),(true,5),(true,6),(true,7),(true,8),(false,9),(true,10)] (.last 11 .nil)) zK (E zR (AW zR zR (AB zR QU (AB zR Mh (AC 0 EZ zR (AB zR Mh (AC 0 EZ zR ?_))))))))
 refine BV zR Bu zR (O zR (Cy zO zO) ?_)
 refine AP (vs:=[_,_]) (Hin:=[]) (Hr:=_::_::_::_) zR zR ⟨zR,zR,zT⟩ N3 zR zR (TN hz) ?_
 rintro _ _ ⟨rfl,rfl⟩
 refine⟨⟨⟨2,rfl⟩,trivial⟩,?_⟩
 refine O zR (B4 hu) (BE ?_)
 refine AP (vs:=[_,_]) (Hin:=[_,_]) (Hr:=_::_) zR zR ⟨zR,zR,zT⟩ S3 zR zR (fY h ha1) ?_
 rintro _ _ ⟨rfl,p2,v2,ha2,rfl⟩
 refine⟨trivial,?_⟩
 refine AS ?_
 exact CQ (C7 zR) (AV (M:=[_,_]) ⟨zR,p2,v2,ha2,zR⟩ fun _ hw=>BJ.pick (H:=[_,_,_]) hw [0,1] 3 zR)
def Db(p0:Bj)(nx:List UInt8×Int→Option (List UInt8×Int))(s:List UInt8)(i:Int):Option (List UInt8×Int):=
 cond (decide (i<(p0.kids.length:Int))) ((Aq p0.kids i).bind fun x=>(TR s x).bind fun s1=>nx (s1,wI (i+1))) (Xe s)
def E6(p0:Bj):Nat→List UInt8×Int→Option (List UInt8×Int):=Be fun nx x=>Db p0 nx x.1 x.2
def Da(p0:Bj)(nx:List UInt8×Int→Option (List UInt8×Int))(s:List UInt8)(i:Int):Option (List UInt8×Int):=
 cond (decide (i<(p0.rows.length:Int))) ((Aq p0.rows i).bind fun x=>(IU s x.id 8).bind fun s1=>(IU s1 x.x.toUInt64 4).bind fun s2=>(IU s2 x.y.toUInt64 4).bind fun s3=>(IU s3 (BK (x.txt.length:Int)) 1).bind fun s4=>(Wb s4 x.txt).bind fun s5=>nx (s5,wI (i+1))) (Xe s)
def FC(p0:Bj):Nat→List UInt8×Int→Option (List UInt8×Int):=Be fun nx x=>Da p0 nx x.1 x.2
def Dj(n:Nat)(p0:Bj):Option (List UInt8×Int):=
 (IG n p0).bind fun y=>cond (!y) (some ([],90))
  ((IU [] (BK p0.kind) 1).bind fun s1=>cond (decide (p0.kind=2))
   ((IU s1 (BK (p0.kids.length:Int)) 1).bind fun s2=>(IU s2 (BK p0.lev) 1).bind fun s3=>(IU s3 p0.cx.toUInt64 4).bind fun s4=>(IU s4 p0.cy.toUInt64 4).bind fun s5=>E6 p0 n (s5,0))
   ((IU s1 (BK (p0.rows.length:Int)) 1).bind fun s2=>(TR s2 ⟨p0.npage,p0.ntag⟩).bind fun s3=>FC p0 n (s3,0)))
theorem Wy{n:Nat}{v0_4 v0_5:Value}{p0:Bj}{r:List UInt8×Int}(h:Dj n p0=some r)(hs0_4:Bn K w0 AK 4 v0_4 p0.rows)(hs0_5:Bn K w0 Ae 2 v0_5 p0.kids):BH Tryz.prog K w0 125 [.agg #[vI p0.kind,Z p0.cx,Z p0.cy,vI p0.lev,v0_4,v0_5,Z p0.npage,vS p0.ntag]] [] H (fun u M=>u=.tuple #[vS r.1,vI r.2]∧M=[]):=by
 unfold Dj at h
 obtain⟨y,hy,h⟩:=bnd h
 refine BH.enter Tryz.func125 rfl rfl ?_
 refine V ?_
 refine BU zR zR (fun _=>trivial) fun b0=>?_
 refine J zR (J zR (U (AD (V (Aa [vI p0.kind,Z p0.cx,Z p0.cy,vI p0.lev,v0_4,v0_5,Z p0.npage,vS p0.ntag] zR K8 zR zR (AZ 0 zR) (AX 0 fL (Rb hy hs0_4 hs0_5) zR (B9 zR zR (U ?_))))))))
 refine AG zR (fun hc1=>?_) (fun hc1=>?_)
 replace h:=cT hc1 h
 obtain rfl:=Option.some.inj h
 refine V (J zR (J zR (U (AM (Ab ?_)))))
 exact AY [] 1 zR zR zR
 replace h:=cF hc1 h
 obtain⟨s1,hs1,h⟩:=bnd h
 refine AH (AF (V ?_))
 refine Ah zR qK (fun _=>trivial) fun b1=>?_
 refine U (V ?_)
 refine GD (fv:=#[_]) (cv:=#[]) zR zR zR ?_
 refine J zR (U (Hw 5 1 (SX.pick [1,0,2] 3 (V (E zR (AB zR NJ (AC 2 DT zR (As zR zR (Cr Ef CB) ?_))))))))
 refine AP (vs:=[_,_]) (Hin:=[_,_]) (Hr:=_::_) zR zR ⟨zR,zR,zT⟩ LK zR zR (Kx hs1 (.inl zR)) ?_
 rintro _ _ ⟨rfl,p1,v1,ha1,rfl⟩
 refine⟨trivial,?_⟩
 refine U (AD (V (AB zR NJ (AC 2 DT zR (O zR Bq (U ?_))))))
 refine AG zR (fun hc2=>?_) (fun hc2=>?_)
 replace h:=cT hc2 h
 obtain⟨s2,hs2,h⟩:=bnd h
 obtain⟨s3,hs3,h⟩:=bnd h
 obtain⟨s4,hs4,h⟩:=bnd h
 obtain⟨s5,hs5,h⟩:=bnd h
 refine V (E zR (AB zR DZ (AC 2 Hc zR (Bb hs0_5 zR Eh zR (As zR zR (Cr Ef CB) ?_)))))
 refine AP (vs:=[_,_]) (Hin:=[_,_]) (Hr:=_::_) zR zR ⟨zR,zR,zT⟩ LK zR zR (Kx hs2 ha1) ?_
 rintro _ _ ⟨rfl,p2,v2,ha2,rfl⟩
 refine⟨trivial,?_⟩
 refine U (V (E zR (AB zR Ft (AB zR Dg (AC 2 DT zR (As zR zR (Cr Ef CB) ?_))))))
 refine AP (vs:=[_,_]) (Hin:=[_,_]) (Hr:=_::_) zR zR ⟨zR,zR,zT⟩ LK zR zR (Kx hs3 ha2) ?_
 rintro _ _ ⟨rfl,p3,v3,ha3,rfl⟩
 refine⟨trivial,?_⟩
 refine U (V (E zR (AB zR Ft (AB zR GG (AC 2 Az zR (As zR zR (CF Bg CB) ?_))))))
 refine AP (vs:=[_,_]) (Hin:=[_,_]) (Hr:=_::_) zR zR ⟨zR,zR,zT⟩ LK zR zR (Kx hs4 ha3) ?_
 rintro _ _ ⟨rfl,p4,v4,ha4,rfl⟩
 refine⟨trivial,?_⟩
 refine U (V (E zR (AB zR Ft (AB zR GE (AC 2 Az zR (As zR zR (CF Bg CB) ?_))))))
 refine AP (vs:=[_,_]) (Hin:=[_,_]) (Hr:=_::_) zR zR ⟨zR,zR,zT⟩ LK zR zR (Kx hs5 ha4) ?_
 rintro _ _ ⟨rfl,p5,v5,ha5,rfl⟩
 refine⟨trivial,?_⟩
 refine U (AD (V (AB zR DZ (AC 2 Hc zR (Bb hs0_5 zR Eh zR (E zR (U (AL ?_))))))))
 refine SX.mono (Ay (α:=Nat×List UInt8×Int×Value×Value) (fun x=>E6 p0 x.1 (x.2.1,x.2.2.1)=some r∧M8 b1 x.2.2.2.1) (fun x=>[(4,vP b1 0),(47,v0_5),(48,vI (p0.kids.length:Int)),(49,vI x.2.2.1)]) (fun x=>XR b1 x.2.2.2.1 x.2.2.2.2::Pj x.2.2.2.2 x.2.1::AI b0 (.cells #[vI p0.kind,Z p0.cx,Z p0.cy,vI p0.lev,v0_4,v0_5,Z p0.npage,vS p0.ntag] 148)::H) (fun x=>x.1) (fun x D hp=>?_) (n,s5,0,p5,v5) ⟨h,ha5⟩) tL
 obtain⟨m1,s,i,p,v⟩:=x
 obtain⟨h,ha⟩:=hp
 dsimp only at h ha
 rcases m1 with _ | m1
 cases (show(none:Option _)=some r from h)
 replace h:Db p0 (E6 p0 m1) s i=some r:=h
 unfold Db at h
 refine A4 [(4,vP b1 0),(47,v0_5),(48,vI (p0.kids.length:Int)),(49,vI i)] (XR b1 p v::Pj v s::AI b0 (.cells #[vI p0.kind,Z p0.cx,Z p0.cy,vI p0.lev,v0_4,v0_5,Z p0.npage,vS p0.ntag] 148)::H) ?_ tL
 refine V (O zR Ao (U (AD ?_)))
 refine AG zR (fun hc3=>?_) (fun hc3=>?_)
 replace h:=cT hc3 h
 obtain⟨x1,hx1,h⟩:=bnd h
 obtain⟨t1,ht1,h⟩:=bnd h
 refine AH (AF (AD (AL (V ?_))))
 refine CP hx1 hs0_5 zR Eh C2 zR zR fun be1 of1 hc4=>?_
 refine Aa (Ae x1) zR CR zR zR (Cj hc4) ?_
 refine Ah zR DQ (fun _=>trivial) fun b2=>?_
 refine Am 0 zR zR zR zR C2 zR zR zR zT (U (SX.pick [1,2,0,3] 4 (AJ (Aa (Ae x1) zR CR zR zR (AZ 2 zR) ?_))))
 refine AP (vs:=[_,_]) (Hin:=[_,_]) (Hr:=_::_) zR zR ⟨zR,zR,zT⟩ fH zR zR (fN ht1 ha) ?_
 rintro _ _ ⟨rfl,p6,v6,ha6,rfl⟩
 refine⟨trivial,?_⟩
 refine AS (Ai (AF (AJ (O zR A3 (E zR (AS ?_))))))
 exact Ac (m1,t1,wI (i+1),p6,v6) ⟨h,ha6⟩ (Nat.lt_succ_self _) tL (fun _ hw=>BJ.pick (H:=[_,_,_,_]) hw [0,1,3] 4 zR)
 replace h:=cF hc3 h
 have hend:s.length≤140737488355328∧r=(s,0):=by
  unfold Xe at h
  split at h
  rename_i hc
  exact⟨by omega,(Option.some.inj h).symm⟩
  cases h
 obtain⟨hend,rfl⟩:=hend
 refine Al (Aw (A9 (Au (AF (V (AB zR QU (AX 2 Mi (Jh 243 b1 p v s.length s hend) zR (J zR (J zR (U (AM (Ab ?_))))))))))))
 exact AY [] 3 zR zR zR
 replace h:=cF hc2 h
 obtain⟨s2,hs2,h⟩:=bnd h
 obtain⟨s3,hs3,h⟩:=bnd h
 refine AH (AF (V (E zR (AB zR Fx (AC 2 Em zR (Bb hs0_4 zR Bf zR (As zR zR (Cr Ef CB) ?_)))))))
 refine AP (vs:=[_,_]) (Hin:=[_,_]) (Hr:=_::_) zR zR ⟨zR,zR,zT⟩ LK zR zR (Kx hs2 ha1) ?_
 rintro _ _ ⟨rfl,p2,v2,ha2,rfl⟩
 refine⟨trivial,?_⟩
 refine U (V (AB rfl Gm (Aa (Ae ⟨p0.npage,p0.ntag⟩) rfl CR rfl rfl (CG 2 rfl (by rintro(_ | (_ | j)) u hj<;>first | exact hj | exact absurd hj (by simp[Ae]))) ?_)))
 refine AP (vs:=[_,_]) (Hin:=[_,_]) (Hr:=_::_) zR zR ⟨zR,zR,zT⟩ fH zR zR (fN hs3 ha2) ?_
 rintro _ _ ⟨rfl,p3,v3,ha3,rfl⟩
 refine⟨trivial,?_⟩
 refine U (AD (V (AB zR Fx (AC 2 Em zR (Bb hs0_4 zR Bf zR (E zR (U (AL ?_))))))))
 refine SX.mono (Ay (α:=Nat×List UInt8×Int×Value×Value) (fun x=>FC p0 x.1 (x.2.1,x.2.2.1)=some r∧M8 b1 x.2.2.2.1) (fun x=>[(4,vP b1 0),(68,v0_4),(69,vI (p0.rows.length:Int)),(5,.func (.func 170) #[vP b1 0] #[]),(70,vI x.2.2.1)]) (fun x=>XR b1 x.2.2.2.1 x.2.2.2.2::Pj x.2.2.2.2 x.2.1::AI b0 (.cells #[vI p0.kind,Z p0.cx,Z p0.cy,vI p0.lev,v0_4,v0_5,Z p0.npage,vS p0.ntag] 148)::H) (fun x=>x.1) (fun x D hp=>?_) (n,s3,0,p3,v3) ⟨h,ha3⟩) tL
 obtain⟨m1,s,i,p,v⟩:=x
 obtain⟨h,ha⟩:=hp
 dsimp only at h ha
 rcases m1 with _ | m1
 cases (show(none:Option _)=some r from h)
 replace h:Da p0 (FC p0 m1) s i=some r:=h
 unfold Da at h
 refine A4 [(4,vP b1 0),(68,v0_4),(69,vI (p0.rows.length:Int)),(5,.func (.func 170) #[vP b1 0] #[]),(70,vI i)] (XR b1 p v::Pj v s::AI b0 (.cells #[vI p0.kind,Z p0.cx,Z p0.cy,vI p0.lev,v0_4,v0_5,Z p0.npage,vS p0.ntag] 148)::H) ?_ tL
 refine V (O zR Ao (U (AD ?_)))
 refine AG zR (fun hc3=>?_) (fun hc3=>?_)
 replace h:=cT hc3 h
 obtain⟨x1,hx1,h⟩:=bnd h
 obtain⟨t1,ht1,h⟩:=bnd h
 obtain⟨t2,ht2,h⟩:=bnd h
 obtain⟨t3,ht3,h⟩:=bnd h
 obtain⟨t4,ht4,h⟩:=bnd h
 obtain⟨t5,ht5,h⟩:=bnd h
 refine AH (AF (AD (AL (V ?_))))
 refine CP hx1 hs0_4 zR Bf Bo zR zR fun be1 of1 hc4=>?_
 refine Aa (AK x1) zR D8 zR zR (Cj hc4) ?_
 refine Ah zR ET (fun _=>trivial) fun b2=>?_
 refine Am 0 zR zR zR zR Bo zR zR zR zT (U (SX.pick [1,2,0,3] 4 (V (E zR (AB zR Nh (AC 2 MU zR ?_))))))
 refine AP (vs:=[_,_]) (Hin:=[_,_]) (Hr:=_::_) zR zR ⟨zR,zR,zT⟩ LK zR zR (Kx ht1 ha) ?_
 rintro _ _ ⟨rfl,p4,v4,ha4,rfl⟩
 refine⟨trivial,?_⟩
 refine U (V (E zR (AB zR HA (AC 2 Az zR (As zR zR (CF Bg CB) ?_)))))
 refine AP (vs:=[_,_]) (Hin:=[_,_]) (Hr:=_::_) zR zR ⟨zR,zR,zT⟩ LK zR zR (Kx ht2 ha4) ?_
 rintro _ _ ⟨rfl,p5,v5,ha5,rfl⟩
 refine⟨trivial,?_⟩
 refine U (V (E zR (AB zR G6 (AC 2 Az zR (As zR zR (CF Bg CB) ?_)))))
 refine AP (vs:=[_,_]) (Hin:=[_,_]) (Hr:=_::_) zR zR ⟨zR,zR,zT⟩ LK zR zR (Kx ht3 ha5) ?_
 rintro _ _ ⟨rfl,p6,v6,ha6,rfl⟩
 refine⟨trivial,?_⟩
 refine U (V (E zR (AB zR PU (AC 2 EZ zR (BV zR Bu zR (As zR zR (Cr Ef CB) ?_))))))
 refine AP (vs:=[_,_]) (Hin:=[_,_]) (Hr:=_::_) zR zR ⟨zR,zR,zT⟩ LK zR zR (Kx ht4 ha6) ?_
 rintro _ _ ⟨rfl,p7,v7,ha7,rfl⟩
 refine⟨trivial,?_⟩
 refine U (AJ (AB zR QU (AB zR PU (AC 2 EZ zR ?_))))
 refine AP (vs:=[_,_]) (Hin:=[_,_]) (Hr:=_::_) zR zR ⟨zR,zR,zT⟩ S3 zR zR (fY ht5 ha7) ?_
 rintro _ _ ⟨rfl,p8,v8,ha8,rfl⟩
 refine⟨trivial,?_⟩
 refine AS (Ai (AF (AJ (O zR A3 (E zR (AS ?_))))))
 exact Ac (m1,t5,wI (i+1),p8,v8) ⟨h,ha8⟩ (Nat.lt_succ_self _) tL (fun _ hw=>BJ.pick (H:=[_,_,_,_]) hw [0,1,3] 4 zR)
 replace h:=cF hc3 h
 have hend:s.length≤140737488355328∧r=(s,0):=by
  unfold Xe at h
  split at h
  rename_i hc
  exact⟨by omega,(Option.some.inj h).symm⟩
  cases h
 obtain⟨hend,rfl⟩:=hend
 refine Al (Aw (A9 (Au (AF (V (AB zR QU (AX 2 Mi (Jh 243 b1 p v s.length s hend) zR (J zR (J zR (U (AM ?_)))))))))))
 exact AY [] 3 zR zR zR
end

/- Plain functions of the references and the laws, printed from the loaded program, and the walks that show that the program computes them. Condition: the plain function yields. -/
section
variable {K:Nat→Prop}{w0:World}{H:List AT}
def Dd(p0:Cb)(p1:Int):Option (List UInt8×Cb):=
 cond (decide ((p0.s.length:Int)<p1))
 (
  (NT [0] p1).bind fun y1=>
  some (y1,{ p0 with short:=true }))
 (
  (JB p0.s 0 p1).bind fun s1=>
  (JB p0.s p1 (p0.s.length:Int)).bind fun s2=>
  some (s1,{ p0 with s:=s2 }))
theorem Ju{b0_:Nat}{p0:Cb}{p1:Int}{r:List UInt8×Cb}(h:Dd p0 p1=some r): BH Tryz.prog K w0 203 [vP b0_ 0,vI p1] [AI b0_ (.cells #[vS p0.s,vB p0.short] 194)] H (fun u M=>u=vS r.1∧M=[AI b0_ (.cells #[vS r.2.s,vB r.2.short] 194)]):=by
 unfold Dd at h
 refine BH.enter Tryz.func203 rfl rfl ?_
 refine V (J zR (U (AD (V (E zR (AW zR zR (AB zR Qc (AC 0 EZ zR (BV zR Bu zR (E zR (O zR Ao (U ?_))))))))))))
 refine AG zR (fun hc1=>?_) (fun hc1=>?_)
 replace h:=cT hc1 h
 refine V (E zR (AW zR zR (AB zR V0 (Am 0 zR zR zR zR O3 zR zR zR zT (U (V ?_))))))
 obtain⟨y1,hy1,h⟩:=bnd h
 refine E zR (AX 0 N3 (TN hy1) zR (J zR (U (AM (Ab ?_)))))
 obtain rfl:=Option.some.inj h
 exact AY [0] 1 zR zR zR
 replace h:=cF hc1 h
 refine AH (AF (V ?_))
 obtain⟨s1,hs1,h⟩:=bnd h
 refine E zR (AW zR zR (AB zR Qc (AC 0 EZ zR (E zR (bO hs1 zR Bu zR zR (J zR (U (V ?_))))))))
 obtain⟨s2,hs2,h⟩:=bnd h
 refine E zR (E zR (AW zR zR (AB zR Qc (AC 0 EZ zR (E zR (bZ hs2 zR Bu zR zR (AW zR zR ?_)))))))
 refine AB zR Qc (Am 0 zR zR zR zR Gn zR zR zR zT (U (V (E zR (J zR (U (AM ?_)))))))
 obtain rfl:=Option.some.inj h
 exact AY [0] 1 zR zR zR
end

/- Numbers of pages' bytes: rows.reader.get. Condition: the plain functions yield. -/
section
variable {K:Nat→Prop}{w0:World}{H:List AT}
def Bw(p0:Cb)(p1:Int):Option (UInt64×Cb):=(Dd p0 p1).bind fun y=>if y.1.length≤8 then some (L3 y.1 y.1.length,y.2)else none
theorem B0{b0_:Nat}{p0:Cb}{p1:Int}{r:UInt64×Cb}(h:Bw p0 p1=some r):BH Tryz.prog K w0 162 [vP b0_ 0,vI p1] [AI b0_ (.cells #[vS p0.s,vB p0.short] 194)] H (fun u M=>u=Ag r.1∧M=[AI b0_ (.cells #[vS r.2.s,vB r.2.short] 194)]):=by
 unfold Bw at h
 obtain⟨⟨s,q⟩,hy,h⟩:=bnd h
 dsimp only at h
 split at h
 case isFalse=>cases h
 rename_i hlen
 obtain rfl:=Option.some.inj h
 refine BH.enter Tryz.func162 rfl rfl ?_
 refine V (J zR (U (V (J zR (U (AD (V (E zR (E zR (AX 1 Zw (Ju hy) zR ?_))))))))))
 refine mV zR Bu B1 CW zR (fun _=>trivial) fun v1 L1 hL=>?_
 refine kb hL zR B1 zR (E zR (U (AL ?_)))
 refine SX.mono (Ay (α:=Nat) (fun k=>k≤s.length) (fun k=>[(5,Ag (L3 s k)),(11,v1),(12,vI (s.length:Nat)),(13,vI k)]) (fun k=>ES L1::AI b0_ (.cells #[vS q.s,vB q.short] 194)::H) (fun k=>s.length-k) (fun k D hp=>?_) 0 (Nat.zero_le _)) tL
 refine V (O zR Ao (U (AD ?_)))
 refine AG zR (fun hc1=>?_) (fun hc1=>?_)
 have hk:k<s.length:=by simpa using hc1
 have hn:Aq s (k:Int)=some (s.getD k 0):=by
  rw[Aq,if_pos zO]
  simp[hk]
 refine AH (AF (AD (AL (V (E zR ?_)))))
 refine nU hn hL zR B1 Iv zR zR fun b1 of1 hc=>?_
 refine BR zR rG zR (ki (j:=0) 0 zR hc zR) ?_
 refine J zR (J zR (U (AJ (E zR (E zR (As zR zR (YI CW CB) (E zR (O zR (JR zO zO) ?_))))))))
 refine O zR (D4.shl64 (n:=(8*k))) ?_
 refine O zR Xu (J zR (AS (Ai (AF (AJ (O zR (BA zO zO) (E zR (AS ?_))))))))
 exact Ac (k+1) hk zO tL
 have hk:k=s.length:=by simp at hc1;omega
 subst hk
 refine Al (Aw (A9 (Au (AF (V (E zR (J zR (U (AM ?_)))))))))
 exact AY [1] 2 zR zR zR
end

/- Plain functions of the references and the laws, printed from the loaded program, and the walks that show that the program computes them. Condition: the plain function yields. -/
section
variable {K:Nat→Prop}{w0:World}{H:List AT}
def Ee(p0:Cb):Option (Af×Cb):=
 (Bw p0 4).bind fun y1=>
 (Dd y1.2 32).bind fun y2=>
 some ((⟨y1.1.toUInt32,y2.1⟩:Af),y2.2)
theorem NO{b0_:Nat}{p0:Cb}{r:Af×Cb}(h:Ee p0=some r): BH Tryz.prog K w0 163 [vP b0_ 0] [AI b0_ (.cells #[vS p0.s,vB p0.short] 194)] H (fun u M=>u=.agg (Ae r.1).toArray∧M=[AI b0_ (.cells #[vS r.2.s,vB r.2.short] 194)]):=by
 unfold Ee at h
 refine BH.enter Tryz.func163 rfl rfl ?_
 refine V ?_
 refine Ah zR DQ (fun _=>trivial) fun b1=>?_
 refine U (V ?_)
 obtain⟨y1,hy1,h⟩:=bnd h
 obtain⟨y2,hy2,h⟩:=bnd h
 refine E zR (SL.pick [1,0] 2 (AX 1 G8 (B0 hy1) zR (As zR zR (Cz CB Bg) (E zR (AX 1 Zw (Ju hy2) zR (BL [_,_] zR K4 Kv DQ ⟨zR,zR,zT⟩ zR (Am 1 zR zR zR zR C2 zR zR zR zT (U (AM ?_)))))))))
 obtain rfl:=Option.some.inj h
 exact AU (Dx zR (BG 1 (Ae (⟨y1.1.toUInt32,y2.1⟩:Af)) CR zR zR zR zR)) (AV (M:=[_]) ⟨zR,zR⟩ fun _ hw=>BJ.pick (H:=[_,_]) hw [0] 2 zR)
end

/- The range over the rows that a page's bytes hold. Condition: the plain functions yield. -/
section
variable {K:Nat→Prop}{w0:World}{H:List AT}
abbrev cI(b:Nat)(q:Cb):AT:=AI b (.cells #[vS q.s,vB q.short] 194)
def SK(q:Cb):Option (AN×Cb):=
 (Bw q 8).bind fun a=>(Bw a.2 4).bind fun b=>(Bw b.2 4).bind fun c=>(Bw c.2 1).bind fun d=>(Dd d.2 (wI (d.1.toNat:Int))).bind fun e=>some (⟨a.1,b.1.toUInt32,c.1.toUInt32,e.1⟩,e.2)
def I5(n:Int)(s:Nat×Cb):Option (AN×(Nat×Cb)):=if(s.1:Int)<n then(SK s.2).bind fun y=>some (y.1,(s.1+1,y.2))else none
def Qg(n:Int)(s:Nat×Cb):Bool:=decide (n≤(s.1:Int))
theorem df{n:Int}(s:Nat×Cb)(y:AN×(Nat×Cb))(h:I5 n s=some y):Qg n s=false:=by
 unfold I5 at h
 split at h
 rename_i hlt
 exact decide_eq_false zO
 cases h
def Rm(_:Cb)(n:Int):Option Unit:=if n≤1000000 then some ()else none
theorem gc{q:Cb}{n:Int}{u:Unit}(h:Rm q n=some u):n≤1000000:=by
 unfold Rm at h
 split at h
 assumption
 cases h
theorem mg{b:Nat}{q:Cb}{n:Int}{r:Unit}(_:Rm q n=some r):BH Tryz.prog K w0 164 [vP b 0,vI n] [] H (fun u M=>∃bn bq:Nat,u=.func (.func 204) #[] #[vP bn 0,vP bq 0]∧M=[AI bn (.cells #[vI n] 3),AI bq (.cells #[vP b 0] 192)]):=by
 refine BH.enter Tryz.func164 rfl rfl ?_
 refine V ?_
 refine BU zR zR (fun _=>trivial) fun b0=>?_
 refine BU zR zR (fun _=>trivial) fun b1=>?_
 refine J zR (U (V ?_))
 refine GD (fv:=#[]) (cv:=#[_,_]) zR zR zR ?_
 refine J zR (U (AM ?_))
 exact AU (Co zR zR) (AV (M:=[_,_]) ⟨_,_,zR,zR⟩ fun _ hw=>BJ.pick (H:=[_,_]) hw [0,1] 2 zR)
def kl(r:AN):List Value:=[.agg (AK r).toArray]
theorem mL{bn bq br:Nat}{n:Int}{q0:Cb}{u0:Unit}(hu:Rm q0 n=some u0)(s0:Cb):
  kD Tryz.prog K w0 204 [vP bn 0,vP bq 0] [AI bn (.cells #[vI n] 3),AI bq (.cells #[vP br 0] 192)] kl (fun s=>cI br s.2) (I5 n) (fun s=>Qg n s=true) (0,s0):=by
 have hn:=gc hu
 intro lp J9 X T rc G0 hy hdef h0
 refine BH.enter Tryz.func204 rfl rfl ?_
 show SX _ _ _ _ _ _ _ _ _ (AI bn (.cells #[vI n] 3)::AI bq (.cells #[vP br 0] 192)::cI br s0::((rc::G0)++T))
 refine SX.pick [2,0,1] 3 (V (AC 1 DT zR (E zR (U (AL ?_)))))
 refine SX.mono (Ay (α:=Nat×Cb×List AT) (fun x=>J9 (x.1,x.2.1) x.2.2) (fun x=>[(0,vY lp),(2,vP bq 0),(5,vI n),(6,vI x.1)])
  (fun x=>cI br x.2.1::AI bn (.cells #[vI n] 3)::AI bq (.cells #[vP br 0] 192)::(x.2.2++T)) (fun x=>n.toNat-x.1) (fun x D hp=>?_) (0,s0,rc::G0) h0) tL
 obtain⟨k,q,G⟩:=x
 have hJ:J9 (k,q) G:=hp
 clear hp
 dsimp only
 refine V (O zR Ao (U (AD ?_)))
 refine AG zR (fun hc1=>?_) (fun hc1=>?_)
 have hlt:(k:Int)<n:=of_decide_eq_true hc1
 clear hc1
 obtain⟨x,s1,hst⟩:∃x s1,I5 n (k,q)=some (x,s1):=by
  rcases hdef _ _ hJ with hd | hd
  exact absurd hd (by simp[Qg];omega)
  exact hd
 have hst0:=hst
 unfold I5 at hst
 rw[if_pos (show(((k,q):Nat×Cb).1:Int)<n from hlt)]at hst
 obtain⟨y,hy1,hst⟩:=bnd hst
 unfold SK at hy1
 dsimp only at hy1
 obtain⟨a,ha,hy1⟩:=bnd hy1
 obtain⟨b,hb,hy1⟩:=bnd hy1
 obtain⟨c,hc,hy1⟩:=bnd hy1
 obtain⟨d,hd,hy1⟩:=bnd hy1
 obtain⟨e,he,hy1⟩:=bnd hy1
 obtain rfl:=Option.some.inj hy1
 obtain⟨rfl,rfl⟩:(⟨a.1,b.1.toUInt32,c.1.toUInt32,e.1⟩:AN)=x∧(k+1,e.2)=s1:=by
  have:=Option.some.inj hst
  exact⟨congrArg Prod.fst this,congrArg Prod.snd this⟩
 refine AH (AF (AD (AL ?_)))
 refine A1 (α:=Nat) (fun _=>True) (fun b0=>[(0,vY lp),(2,vP bq 0),(4,vP b0 0),(5,vI n),(6,vI k)]) (fun b0=>AI b0 (.cells #[Ag a.1,Z b.1.toUInt32,Z c.1.toUInt32,vS []] 79)::cI br c.2::AI bn (.cells #[vI n] 3)::AI bq (.cells #[vP br 0] 192)::(G++T)) ?_ (fun b0 D _=>?_)
 refine Aj CJ [2] (BY [(true,0),(true,2),(true,5)] (.alt 1 (.alt 3 (BY [(true,4)] (.alt 6 (BY [(true,7),(true,8),(false,9)] (.last 10 .nil)) (.cons (false,9) (BY [(false,6),(true,7),(true,8)] (.last 10 .nil))))) (.cons (false,9) (BY [(false,3),(true,4),(false,6),(true,7),(true,8)] (.last 10 .nil)))) (.cons (false,9) (BY [(false,1),(false,3),(true,4),(false,6),(true,7),(true,8)] (.last 10 .nil))))) zK (AC 0 LE zR (AC 0 LE zR (AC 0 LE zR ?_)))
 refine LF ?_ ?_
 refine AP (vs:=[_,_]) (Hin:=[_]) (Hr:=_::_::_) zR zR ⟨zR,zR,zT⟩ G8 zR zR (B0 ha) ?_
 rintro _ _ ⟨rfl,rfl⟩
 refine⟨⟨⟨2,rfl⟩,trivial⟩,?_⟩
 refine LF ?_ ?_
 refine AP (vs:=[_,_]) (Hin:=[_]) (Hr:=_::_::_) zR zR ⟨zR,zR,zT⟩ G8 zR zR (B0 hb) ?_
 rintro _ _ ⟨rfl,rfl⟩
 refine⟨⟨⟨2,rfl⟩,trivial⟩,?_⟩
 refine As zR zR (Cz CB Bg) ?_
 refine LF ?_ ?_
 refine AP (vs:=[_,_]) (Hin:=[_]) (Hr:=_::_::_) zR zR ⟨zR,zR,zT⟩ G8 zR zR (B0 hc) ?_
 rintro _ _ ⟨rfl,rfl⟩
 refine⟨⟨⟨2,rfl⟩,trivial⟩,?_⟩
 refine As zR zR (Cz CB Bg) (BL [_,_,_] zR Rj RR ET ⟨zR,zR,zR,zT⟩ zR ?_)
 refine Ah zR ET (fun _=>⟨⟨3,zR⟩,zT⟩) fun b0=>?_
 refine BE (Am 0 zR zR zR zR Bo zR zR zR zT (AS ?_))
 exact Av b0 zT tL (fun _ hw=>BJ.pick (H:=[_,_]) hw [0,1] 2 zR)
 refine Ah zR ET (fun _=>⟨⟨3,zR⟩,zT⟩) fun b0=>?_
 refine SL.pick [1,0] 2 ?_
 refine AP (vs:=[_,_]) (Hin:=[_]) (Hr:=_::_::_::_) zR zR ⟨zR,zR,zT⟩ G8 zR zR (B0 hc) ?_
 rintro _ _ ⟨rfl,rfl⟩
 refine⟨⟨⟨3,rfl⟩,trivial⟩,?_⟩
 refine As zR zR (Cz CB Bg) (BL [_,_,_] zR Rj RR ET ⟨zR,zR,zR,zT⟩ zR (BE (Am 1 zR zR zR zR Bo zR zR zR zT (AS ?_))))
 exact Av b0 zT tL (fun _ hw=>BJ.pick (H:=[_,_]) hw [1,0] 2 zR)
 refine Ah zR ET (fun _=>⟨⟨3,zR⟩,zT⟩) fun b0=>?_
 refine SL.pick [1,0] 2 ?_
 refine AP (vs:=[_,_]) (Hin:=[_]) (Hr:=_::_::_::_) zR zR ⟨zR,zR,zT⟩ G8 zR zR (B0 hb) ?_
 rintro _ _ ⟨rfl,rfl⟩
 refine⟨⟨⟨3,rfl⟩,trivial⟩,?_⟩
 refine As zR zR (Cz CB Bg) ?_
 refine AP (vs:=[_,_]) (Hin:=[_]) (Hr:=_::_::_::_) zR zR ⟨zR,zR,zT⟩ G8 zR zR (B0 hc) ?_
 rintro _ _ ⟨rfl,rfl⟩
 refine⟨⟨⟨3,rfl⟩,trivial⟩,?_⟩
 refine As zR zR (Cz CB Bg) (BL [_,_,_] zR Rj RR ET ⟨zR,zR,zR,zT⟩ zR (BE (Am 1 zR zR zR zR Bo zR zR zR zT (AS ?_))))
 exact Av b0 zT tL (fun _ hw=>BJ.pick (H:=[_,_]) hw [1,0] 2 zR)
 refine Ah zR ET (fun _=>⟨⟨3,zR⟩,zT⟩) fun b0=>?_
 refine SL.pick [1,0] 2 ?_
 refine AP (vs:=[_,_]) (Hin:=[_]) (Hr:=_::_::_::_) zR zR ⟨zR,zR,zT⟩ G8 zR zR (B0 ha) ?_
 rintro _ _ ⟨rfl,rfl⟩
 refine⟨⟨⟨3,rfl⟩,trivial⟩,?_⟩
 refine AP (vs:=[_,_]) (Hin:=[_]) (Hr:=_::_::_::_) zR zR ⟨zR,zR,zT⟩ G8 zR zR (B0 hb) ?_
 rintro _ _ ⟨rfl,rfl⟩
 refine⟨⟨⟨3,rfl⟩,trivial⟩,?_⟩
 refine As zR zR (Cz CB Bg) ?_
 refine AP (vs:=[_,_]) (Hin:=[_]) (Hr:=_::_::_::_) zR zR ⟨zR,zR,zT⟩ G8 zR zR (B0 hc) ?_
 rintro _ _ ⟨rfl,rfl⟩
 refine⟨⟨⟨3,rfl⟩,trivial⟩,?_⟩
 refine As zR zR (Cz CB Bg) (BL [_,_,_] zR Rj RR ET ⟨zR,zR,zR,zT⟩ zR (BE (Am 1 zR zR zR zR Bo zR zR zR zT (AS ?_))))
 exact Av b0 zT tL (fun _ hw=>BJ.pick (H:=[_,_]) hw [1,0] 2 zR)
 refine AD (Aj CJ [3] (BY [(true,0),(true,1),(false,2),(true,3),(false,4),(true,5)] (.last 6 .nil)) zK (AC 0 LE zR (AC 0 LE zR (SL.pick [1,0] 2 ?_))))
 refine AP (vs:=[_,_]) (Hin:=[_]) (Hr:=_::_::_::_) zR zR ⟨zR,zR,zT⟩ G8 zR zR (B0 hd) ?_
 rintro _ _ ⟨rfl,rfl⟩
 refine⟨⟨⟨3,rfl⟩,trivial⟩,?_⟩
 refine As zR zR (No CB Ef) ?_
 refine AP (vs:=[_,_]) (Hin:=[_]) (Hr:=_::_::_::_) zR zR ⟨zR,zR,zT⟩ Zw zR zR (Ju he) ?_
 rintro _ _ ⟨rfl,rfl⟩
 refine⟨⟨⟨3,rfl⟩,trivial⟩,?_⟩
 refine AB zR PU (BE (Am 1 zR zR zR zR Gn zR zR zR zT (U (SX.pick [1,2,3,0] 4 (V (E zR (Aa (AK ⟨a.1,b.1.toUInt32,c.1.toUInt32,e.1⟩) zR D8 zR zR (AZ 0 zR) ?_)))))))
 refine HX (M2:=[_,_,_]) (G:=cI br e.2::G) (T:=T) (vs:=[_]) (ok:=fun G1=>∃G2,G1=cI br e.2::G2∧J9 (k+1,e.2) G2) (no:=X) zR zR ⟨zR,zT⟩ zR ?_ (fun bb G1 hG1=>⟨zT,?_⟩)
 intro M
 exact hy (k,q) ⟨a.1,b.1.toUInt32,c.1.toUInt32,e.1⟩ (k+1,e.2) hst0 G hJ M
 refine B9 zR zR (U ?_)
 refine AG zR (fun hc3=>?_) (fun hc3=>?_)
 obtain rfl:bb=false:=by simpa using hc3
 refine AM (BM (Ab (DD (BM ?_))))
 exact AU (C7 zR) (AV (M:=G1) (.inr hG1) fun _ h=>h.skip [_,_,_])
 obtain rfl:bb=true:=by simpa using hc3
 obtain⟨G2,rfl,hJ2⟩:=hG1
 refine AH (Ai (AF (AJ (O zR (BA zO zO) (E zR (AS ?_))))))
 exact Ac (k+1,e.2,G2) hJ2 (by dsimp only;omega) tL (fun _ hw=>BJ.pick (H:=[_,_,_,_]) hw [3,1,2] 4 zR)
 have hge:n≤(k:Int):=by simpa using hc1
 refine Al (Aw (A9 (Au ?_)))
 exact CQ (C7 zR) (AV (M:=cI br q::G) (.inl ⟨(k,q),G,decide_eq_true hge,zR,hJ⟩) fun _ hw=>BJ.pick (H:=[_,_,_]) hw [0] 3 zR)
end

/- Plain functions of the references and the laws, printed from the loaded program, and the walks that show that the program computes them. Condition: the plain function yields. -/
section
variable {K:Nat→Prop}{w0:World}{H:List AT}
def ON(y1:UInt64×Cb)(y9:UInt32)(y10:UInt32)(y11:Int)(l3:List Af)(y16:Af×Cb)(y17:List UInt8)(o4:Cb)(l7:List AN):Option (Bj×Cb):=
 some ((⟨wI (y1.1.toNat:Int),y9,y10,y11,l7,l3,y16.1.page,y17⟩:Bj),o4)
def UA(y1:UInt64×Cb)(y9:UInt32)(y10:UInt32)(y11:Int)(l3:List Af)(y16:Af×Cb)(y17:List UInt8)(o5:Cb)(l8:List AN):Option (Bj×Cb):=
 ON y1 y9 y10 y11 l3 y16 y17 o5 l8
def Qn(y1:UInt64×Cb)(y9:UInt32)(y10:UInt32)(y11:Int)(l3:List Af)(y16:Af×Cb)(y17:List UInt8)(o5:Cb)(l8:List AN):Option (Bj×Cb):=
 ON y1 y9 y10 y11 l3 y16 y17 o5 l8
def L8(y1:UInt64×Cb)(y9:UInt32)(y10:UInt32)(y11:Int)(l3:List Af)(y16:Af×Cb)(y17:List UInt8)(nx_f_rpg_r1:Cb×List AN→Option (Bj×Cb))(e1:AN)(o5:Cb)(l8:List AN):Option (Bj×Cb):=
 (CT 32 l8 [e1]).bind fun l9=>
 cond (o5.short||(decide (4<(l9.length:Int))))
 (
  UA y1 y9 y10 y11 l3 y16 y17 o5 l9)
 (
  nx_f_rpg_r1 (o5,l9))
def Kf(y1:UInt64×Cb)(y9:UInt32)(y10:UInt32)(y11:Int)(l3:List Af)(y16:Af×Cb)(y17:List UInt8)(step:Nat×Cb→Option (AN×(Nat×Cb)))(done:Nat×Cb→Bool):Nat→Nat×Cb→(Cb×List AN)→Option (Bj×Cb):=LI step done (fun nx e s x=>L8 y1 y9 y10 y11 l3 y16 y17 (nx s) e s.2 x.2) (fun s x=>Qn y1 y9 y10 y11 l3 y16 y17 s.2 x.2)
def Mp(n:Nat)(y1:UInt64×Cb)(x1:Int)(y9:UInt32)(y10:UInt32)(y11:Int)(l3:List Af)(y16:Af×Cb)(y17:List UInt8):Option (Bj×Cb):=
 (Rm y16.2 x1).bind fun y19=>
 Kf y1 y9 y10 y11 l3 y16 y17 (I5 x1) (Qg x1) n (0,y16.2) (y16.2,[])
def Qv(n:Nat)(y1:UInt64×Cb)(x1:Int)(o1:Cb)(y3:Int)(y4:UInt32)(y5:UInt32)(y6:Int)(l1:List AN)(l2:List Af)(y7:UInt32)(y8:List UInt8)(y9:UInt32)(y10:UInt32)(y11:Int)(l3:List Af):Option (Bj×Cb):=
 (Ee o1).bind fun y16=>
 (NT [0] 32).bind fun y18=>
 cond (decide (y16.1.page=0)&&(decide (y16.1.tag=y18)&&true))
 (
  Mp n y1 x1 y9 y10 y11 l3 y16 [])
 (
  Mp n y1 x1 y9 y10 y11 l3 y16 y16.1.tag)
def Qm(y1:UInt64×Cb)(y12:UInt64×Cb)(y13:UInt64×Cb)(y14:UInt64×Cb)(o2:Cb)(l4:List Af):Option (Bj×Cb):=
 some ((⟨wI (y1.1.toNat:Int),y13.1.toUInt32,y14.1.toUInt32,wI (y12.1.toNat:Int),[],l4,0,[]⟩:Bj),o2)
def Iy(y1:UInt64×Cb)(x1:Int)(y12:UInt64×Cb)(y13:UInt64×Cb)(y14:UInt64×Cb)(nx_f_rpg_l1:Cb×List Af×Int→Option (Bj×Cb))(o3:Cb)(l5:List Af)(a1:Int):Option (Bj×Cb):=
 cond (decide (a1<min x1 5))
 (
  (Ee o3).bind fun y15=>
  (CT 24 l5 [y15.1]).bind fun l6=>
  nx_f_rpg_l1 (y15.2,l6,wI (a1+1)))
 (
  Qm y1 y12 y13 y14 o3 l5)
def Mz(y1:UInt64×Cb)(x1:Int)(y12:UInt64×Cb)(y13:UInt64×Cb)(y14:UInt64×Cb):Nat→(Cb×List Af×Int)→Option (Bj×Cb):=Be fun nx x=>Iy y1 x1 y12 y13 y14 nx x.1 x.2.1 x.2.2
def VK(n:Nat)(p0:Cb):Option (Bj×Cb):=
 (Bw p0 1).bind fun y1=>
 (Bw y1.2 1).bind fun y2=>
 ret (wI (y2.1.toNat:Int)) fun x1=>
 cond (decide (wI (y1.1.toNat:Int)=2))
 (
  (Bw y2.2 1).bind fun y12=>
  (Bw y12.2 4).bind fun y13=>
  (Bw y13.2 4).bind fun y14=>
  Mz y1 x1 y12 y13 y14 n (y14.2,[],0))
 (
  Qv n y1 x1 y2.2 0 0 0 0 [] [] 0 [] 0 0 0 [])
theorem qI{n:Nat}{b0_:Nat}{p0:Cb}{r:Bj×Cb}(h:VK n p0=some r): BH Tryz.prog K w0 121 [vP b0_ 0] [AI b0_ (.cells #[vS p0.s,vB p0.short] 194)] H (fun u M=>∃v0_4 v0_5:Value,u=.agg #[vI r.1.kind,Z r.1.cx,Z r.1.cy,vI r.1.lev,v0_4,v0_5,Z r.1.npage,vS r.1.ntag]∧M=[AE 79 4 v0_4 AK r.1.rows,AE 31 2 v0_5 Ae r.1.kids,AI b0_ (.cells #[vS r.2.s,vB r.2.short] 194)]):=by
 unfold VK at h
 refine BH.enter Tryz.func121 rfl rfl ?_
 refine V ?_
 refine BU zR zR (fun _=>trivial) fun b1=>?_
 refine Ah zR Lh (fun _=>trivial) fun b2=>?_
 refine Bx 79 4 AK (Bx 31 2 Ae (U (JL (V ?_))))
 obtain⟨y1,hy1,h⟩:=bnd h
 refine AC 3 LE zR (SL.pick [4,0,1,2,3] 5 (AX 1 G8 (B0 hy1) zR (As zR zR (No CB Ef) (BL [_] zR Tg T3 Lh ⟨zR,zT⟩ zR ?_))))
 refine Ah zR Lh (fun _=>trivial) fun b3=>?_
 refine Bx 79 4 AK (Bx 31 2 Ae (Am 2 zR zR zR zR O6 zR zR zR zT (C4 2 (AI b3 (.cells #[vI (wI (y1.1.toNat:Int)),Z 0,Z 0,vI 0,.slice none 0 0,.slice none 0 0,Z 0,vS []] 148)) (Bx 79 4 AK (Bx 31 2 Ae (U (V ?_)))))))
 obtain⟨y2,hy2,h⟩:=bnd h
 obtain⟨x1,ex1,h⟩:=Bc h
 refine AC 9 LE zR (SL.pick [5,0,1,2,3,4] 6 (AX 1 G8 (B0 hy2) zR (As zR zR (No CB Ef) ?_)))
 refine Ak (u:=vI x1) zR zR (congrArg vI ex1) ?_
 refine U ?_
 refine A1 (α:=Cb×Int×UInt32×UInt32×Int×List AN×Value×List Af×Value×UInt32×List UInt8×UInt32×UInt32×Int×List Af×Value) (fun x=>Qv n y1 x1 x.1 x.2.1 x.2.2.1 x.2.2.2.1 x.2.2.2.2.1 x.2.2.2.2.2.1 x.2.2.2.2.2.2.2.1 x.2.2.2.2.2.2.2.2.2.1 x.2.2.2.2.2.2.2.2.2.2.1 x.2.2.2.2.2.2.2.2.2.2.2.1 x.2.2.2.2.2.2.2.2.2.2.2.2.1 x.2.2.2.2.2.2.2.2.2.2.2.2.2.1 x.2.2.2.2.2.2.2.2.2.2.2.2.2.2.1=some r) (fun x=>[(0,vP b0_ 0),(1,vP b1 0),(2,vP b2 0),(3,vP b3 0),(4,vI x1)]) (fun x=>AI b0_ (.cells #[vS x.1.s,vB x.1.short] 194)::AI b1 (.cells #[vP b0_ 0] 192)::AI b2 (.cells #[vI x.2.1,Z x.2.2.1,Z x.2.2.2.1,vI x.2.2.2.2.1,x.2.2.2.2.2.2.1,x.2.2.2.2.2.2.2.2.1,Z x.2.2.2.2.2.2.2.2.2.1,vS x.2.2.2.2.2.2.2.2.2.2.1] 148)::AE 79 4 x.2.2.2.2.2.2.1 AK x.2.2.2.2.2.1::AE 31 2 x.2.2.2.2.2.2.2.2.1 Ae x.2.2.2.2.2.2.2.1::AI b3 (.cells #[vI (wI (y1.1.toNat:Int)),Z x.2.2.2.2.2.2.2.2.2.2.2.1,Z x.2.2.2.2.2.2.2.2.2.2.2.2.1,vI x.2.2.2.2.2.2.2.2.2.2.2.2.2.1,.slice none 0 0,x.2.2.2.2.2.2.2.2.2.2.2.2.2.2.2,Z 0,vS []] 148)::AE 79 4 (.slice none 0 0) AK []::AE 31 2 x.2.2.2.2.2.2.2.2.2.2.2.2.2.2.2 Ae x.2.2.2.2.2.2.2.2.2.2.2.2.2.2.1::H) ?_ (fun x D h=>?_)
 refine V (AB zR NJ (AC 5 DT zR (O zR Bq (U ?_))))
 refine AG zR (fun hc1=>?_) (fun hc1=>?_)
 replace h:=cT hc1 h
 refine V ?_
 obtain⟨y12,hy12,h⟩:=bnd h
 refine AC 9 LE zR (AX 1 G8 (B0 hy12) zR (As zR zR (No CB Ef) (AB zR Ft (AB zR Dg (Am 5 zR zR zR zR La zR zR zR zT (C4 5 (AI b3 (.cells #[vI (wI (y1.1.toNat:Int)),Z 0,Z 0,vI (wI (y12.1.toNat:Int)),.slice none 0 0,.slice none 0 0,Z 0,vS []] 148)) (U (AD ?_))))))))
 obtain⟨y13,hy13,h⟩:=bnd h
 obtain⟨y14,hy14,h⟩:=bnd h
 refine Aj CJ [9] (BY [(true,0),(true,3),(false,1),(true,2),(true,6),(true,7),(false,4),(true,5),(false,8),(true,9),(true,10)] (.last 11 .nil)) zK (AC 0 LE zR (AC 0 LE zR ?_))
 refine AP (vs:=[_,_]) (Hin:=[_]) (Hr:=_::_::_::_::_::_::_::_::_::_) zR zR ⟨zR,zR,zT⟩ G8 zR zR (B0 hy13) ?_
 rintro _ _ ⟨rfl,rfl⟩
 refine⟨⟨⟨9,rfl⟩,trivial⟩,?_⟩
 refine As zR zR (Cz CB Bg) (AB zR Ft (AB zR GG ?_))
 refine AP (vs:=[_,_]) (Hin:=[_]) (Hr:=_::_::_::_::_::_::_::_::_::_) zR zR ⟨zR,zR,zT⟩ G8 zR zR (B0 hy14) ?_
 rintro _ _ ⟨rfl,rfl⟩
 refine⟨⟨⟨9,rfl⟩,trivial⟩,?_⟩
 refine As zR zR (Cz CB Bg) (Am 5 zR zR zR zR BQ zR zR zR ⟨⟨9,zR⟩,zT⟩ (C4 5 (AI b3 (.cells #[vI (wI (y1.1.toNat:Int)),Z y13.1.toUInt32,Z 0,vI (wI (y12.1.toNat:Int)),.slice none 0 0,.slice none 0 0,Z 0,vS []] 148)) (AB zR Ft (AB zR GE (BE (Am 5 zR zR zR zR BQ zR zR zR zT (C4 5 (AI b3 (.cells #[vI (wI (y1.1.toNat:Int)),Z y13.1.toUInt32,Z y14.1.toUInt32,vI (wI (y12.1.toNat:Int)),.slice none 0 0,.slice none 0 0,Z 0,vS []] 148)) (U ?_))))))))
 refine A1 (α:=Cb×List Af×Value) (fun x=>Qm y1 y12 y13 y14 x.1 x.2.1=some r) (fun x=>[(0,vP b0_ 0),(2,vP b2 0),(3,vP b3 0)]) (fun x=>AI b0_ (.cells #[vS x.1.s,vB x.1.short] 194)::AI b2 (.cells #[vI 0,Z 0,Z 0,vI 0,.slice none 0 0,.slice none 0 0,Z 0,vS []] 148)::AE 79 4 (.slice none 0 0) AK []::AE 31 2 (.slice none 0 0) Ae []::AI b3 (.cells #[vI (wI (y1.1.toNat:Int)),Z y13.1.toUInt32,Z y14.1.toUInt32,vI (wI (y12.1.toNat:Int)),.slice none 0 0,x.2.2,Z 0,vS []] 148)::AE 79 4 (.slice none 0 0) AK []::AE 31 2 x.2.2 Ae x.2.1::H) ?_ (fun x D h=>?_)
 refine V (E zR (Oe zR zR zR (E zR (U (AL ?_)))))
 refine SX.heap (SX.mono (Ay (α:=Nat×Cb×List Af×Value×Int) (fun x=>Mz y1 x1 y12 y13 y14 x.1 (x.2.1,x.2.2.1,x.2.2.2.2)=some r) (fun x=>[(0,vP b0_ 0),(1,vP b1 0),(2,vP b2 0),(3,vP b3 0),(32,vI (min x1 5)),(33,vI x.2.2.2.2)]) (fun x=>AI b0_ (.cells #[vS x.2.1.s,vB x.2.1.short] 194)::AI b1 (.cells #[vP b0_ 0] 192)::AI b2 (.cells #[vI 0,Z 0,Z 0,vI 0,.slice none 0 0,.slice none 0 0,Z 0,vS []] 148)::AE 79 4 (.slice none 0 0) AK []::AE 31 2 (.slice none 0 0) Ae []::AI b3 (.cells #[vI (wI (y1.1.toNat:Int)),Z y13.1.toUInt32,Z y14.1.toUInt32,vI (wI (y12.1.toNat:Int)),.slice none 0 0,x.2.2.2.1,Z 0,vS []] 148)::AE 79 4 (.slice none 0 0) AK []::AE 31 2 x.2.2.2.1 Ae x.2.2.1::H) (fun x=>x.1) (fun x D h=>?_) (n,y14.2,[],.slice none 0 0,0) h) tL) (fun _ hw=>BJ.pick (H:=[_,_,_,_,_,_,_,_,_,_]) hw [0,9,8,7,6,5,2,1] 10 zR)
 obtain⟨m1,o3,l5,v5,a1⟩:=x
 dsimp only at h
 rcases m1 with _ | m1
 cases (show(none:Option _)=some r from h)
 replace h:Iy y1 x1 y12 y13 y14 (Mz y1 x1 y12 y13 y14 m1) o3 l5 a1=some r:=h
 unfold Iy at h
 refine A4 [(0,vP b0_ 0),(1,vP b1 0),(2,vP b2 0),(3,vP b3 0),(32,vI (min x1 5)),(33,vI a1)] (AI b0_ (.cells #[vS o3.s,vB o3.short] 194)::AI b1 (.cells #[vP b0_ 0] 192)::AI b2 (.cells #[vI 0,Z 0,Z 0,vI 0,.slice none 0 0,.slice none 0 0,Z 0,vS []] 148)::AE 79 4 (.slice none 0 0) AK []::AE 31 2 (.slice none 0 0) Ae []::AI b3 (.cells #[vI (wI (y1.1.toNat:Int)),Z y13.1.toUInt32,Z y14.1.toUInt32,vI (wI (y12.1.toNat:Int)),.slice none 0 0,v5,Z 0,vS []] 148)::AE 79 4 (.slice none 0 0) AK []::AE 31 2 v5 Ae l5::H) ?_ tL
 refine V (O zR Ao (U (AD ?_)))
 refine AG zR (fun hc2=>?_) (fun hc2=>?_)
 replace h:=cT hc2 h
 refine AH (AF (AD (AL ?_)))
 obtain⟨y15,hy15,h⟩:=bnd h
 obtain⟨l6,hl6,h⟩:=bnd h
 refine Aj CJ [1,5] (BY [(true,0),(true,1),(true,2),(false,3),(false,4),(false,5),(true,6)] (.last 7 .nil)) zK (AB zR DZ (AC 1 Hc zR (AC 0 LE zR ?_)))
 refine AP (vs:=[_]) (Hin:=[_]) (Hr:=_::_::_::_::_::_::_::_) zR zR ⟨zR,zT⟩ fE zR zR (NO hy15) ?_
 rintro _ _ ⟨rfl,rfl⟩
 refine⟨⟨⟨1,rfl⟩,⟨5,rfl⟩,trivial⟩,?_⟩
 refine Bd [_] rfl Eh C2 DQ ⟨rfl,trivial⟩ rfl rfl rfl (by first | (simp[Value.cells];done) | (intro v hv;simp only[List.mem_cons,List.not_mem_nil,or_false]at hv;rcases hv with rfl<;>rfl)) rfl rfl (fun _=>⟨⟨2,rfl⟩,⟨6,rfl⟩,trivial⟩) fun b4=>?_
 refine Bi Ae 2 ([y15.1]:List Af) zR (fun _=>rfl) zR ?_
 refine B7 8 hl6 (sz:=2) (enc:=Ae) (fun _=>rfl) zR Eh C2 fj DQ zR zD zR zR zR zR (Ba (sz:=2) (enc:=Ae) 0 (fun _=>rfl) zR) (by simp[Ae,Value.oneCell']) (fun _=>⟨⟨2,zR⟩,⟨6,zR⟩,zT⟩) fun v6=>?_
 refine AB zR DZ (BE ?_)
 refine B6 8 zR fun hv1 ho1=>?_
 refine DW 6 zR zR zR zR eE hv1 ho1 zR zT (AS (Ai (AF (AJ (O zR A3 (E zR (AS ?_)))))))
 exact Ac (m1,y15.2,l6,v6,wI (a1+1)) h (Nat.lt_succ_self _) tL (fun _ hw=>BJ.pick (H:=[_,_,_,_,_,_,_,_,_]) hw [1,2,3,4,5,6,7,8] 9 zR)
 replace h:=cF hc2 h
 refine Al (Aw (A9 (Au ?_)))
 exact Av (o3,l5,v5) h tL (fun _ hw=>BJ.pick (H:=[_,_,_,_,_,_,_,_]) hw [0,2,3,4,5,6,7] 8 zR)
 obtain⟨o2,l4,v4⟩:=x
 dsimp only at h
 unfold Qm at h
 refine A4 [(0,vP b0_ 0),(2,vP b2 0),(3,vP b3 0)] (AI b0_ (.cells #[vS o2.s,vB o2.short] 194)::AI b2 (.cells #[vI 0,Z 0,Z 0,vI 0,.slice none 0 0,.slice none 0 0,Z 0,vS []] 148)::AE 79 4 (.slice none 0 0) AK []::AE 31 2 (.slice none 0 0) Ae []::AI b3 (.cells #[vI (wI (y1.1.toNat:Int)),Z y13.1.toUInt32,Z y14.1.toUInt32,vI (wI (y12.1.toNat:Int)),.slice none 0 0,v4,Z 0,vS []] 148)::AE 79 4 (.slice none 0 0) AK []::AE 31 2 v4 Ae l4::H) ?_ tL
 refine V (Aa [vI (wI (y1.1.toNat:Int)),Z y13.1.toUInt32,Z y14.1.toUInt32,vI (wI (y12.1.toNat:Int)),.slice none 0 0,v4,Z 0,vS []] zR K8 zR zR (AZ 4 zR) ?_)
 refine B6 5 zR fun hv2 ho2=>?_
 refine B6 6 zR fun hv3 ho3=>?_
 refine Am 1 zR zR zR zR O6 zR (by simp only[Value.oneCell']at ho2 ho3;simp[Value.cells,Value.cells,Value.oneCell',ho2,ho3]) zR zT (U (AM (ER (EN ?_))))
 obtain rfl:=Option.some.inj h
 exact AU (Dx zR (BG 1 [vI (wI (y1.1.toNat:Int)),Z y13.1.toUInt32,Z y14.1.toUInt32,vI (wI (y12.1.toNat:Int)),.slice none 0 0,v4,Z 0,vS []] K8 zR zR zR zR)) (AV (M:=[_,_,_]) ⟨(.slice none 0 0),v4,zR,zR⟩ fun _ hw=>BJ.pick (H:=[_,_,_,_,_,_,_]) hw [5,6,0] 7 zR)
 replace h:=cF hc1 h
 refine AH ?_
 exact Av (y2.2,0,0,0,0,[],.slice none 0 0,[],.slice none 0 0,0,[],0,0,0,[],.slice none 0 0) h tL (fun _ hw=>BJ.pick (H:=[_,_,_,_,_,_,_,_,_,_]) hw [0,9,8,7,6,5,2,1] 10 zR)
 obtain⟨o1,y3,y4,y5,y6,l1,v1,l2,v2,y7,y8,y9,y10,y11,l3,v3⟩:=x
 dsimp only at h
 unfold Qv at h
 refine A4 [(0,vP b0_ 0),(1,vP b1 0),(2,vP b2 0),(3,vP b3 0),(4,vI x1)] (AI b0_ (.cells #[vS o1.s,vB o1.short] 194)::AI b1 (.cells #[vP b0_ 0] 192)::AI b2 (.cells #[vI y3,Z y4,Z y5,vI y6,v1,v2,Z y7,vS y8] 148)::AE 79 4 v1 AK l1::AE 31 2 v2 Ae l2::AI b3 (.cells #[vI (wI (y1.1.toNat:Int)),Z y9,Z y10,vI y11,.slice none 0 0,v3,Z 0,vS []] 148)::AE 79 4 (.slice none 0 0) AK []::AE 31 2 v3 Ae l3::H) ?_ tL
 refine V ?_
 obtain⟨y16,hy16,h⟩:=bnd h
 refine AC 1 LE zR (AX 1 fE (NO hy16) zR (AB zR Gm (Am 5 zR zR zR zR C2 zR zR zR zT (C4 5 (AI b3 (.cells #[vI (wI (y1.1.toNat:Int)),Z y9,Z y10,vI y11,.slice none 0 0,v3,Z y16.1.page,vS y16.1.tag] 148)) (U ?_)))))
 refine A1 (α:=List UInt8) (fun x=>Mp n y1 x1 y9 y10 y11 l3 y16 x=some r) (fun x=>[(0,vP b0_ 0),(1,vP b1 0),(2,vP b2 0),(3,vP b3 0),(4,vI x1)]) (fun x=>AI b0_ (.cells #[vS y16.2.s,vB y16.2.short] 194)::AI b1 (.cells #[vP b0_ 0] 192)::AI b2 (.cells #[vI y3,Z y4,Z y5,vI y6,v1,v2,Z y7,vS y8] 148)::AE 79 4 v1 AK l1::AE 31 2 v2 Ae l2::AI b3 (.cells #[vI (wI (y1.1.toNat:Int)),Z y9,Z y10,vI y11,.slice none 0 0,v3,Z y16.1.page,vS x] 148)::AE 79 4 (.slice none 0 0) AK []::AE 31 2 v3 Ae l3::H) ?_ (fun y17 D h=>?_)
 refine AD ?_
 obtain⟨y18,hy18,h⟩:=bnd h
 refine Aj CJ [5] (BY [(true,0),(true,1),(false,2),(false,3)] (.last 4 .nil)) zK (AB rfl Gm (Aa [Z y16.1.page,vS y16.1.tag] rfl CR rfl rfl (CG 0 rfl (by rintro(_ | (_ | j)) u hj<;>first | exact hj | exact absurd hj zS)) ?_))
 refine AP (vs:=[_,_]) (Hin:=[]) (Hr:=_::_::_::_::_::_::_::_::_) zR zR ⟨zR,zR,zT⟩ N3 zR zR (TN hy18) ?_
 rintro _ _ ⟨rfl,rfl⟩
 refine⟨⟨⟨5,rfl⟩,trivial⟩,?_⟩
 refine BL [_] zR K4 Kv DQ ⟨zR,zT⟩ zR (BE ?_)
 refine Qp zR gC zR zR (CI zR zR (JK (a:=y16.1.page) (b:=0)) (CI zR zR (R3 (a:=y16.1.tag) (b:=y18)) Hf)) ?_
 refine U ?_
 refine AG zR (fun hc3=>?_) (fun hc3=>?_)
 replace h:=cT hc3 h
 refine AJ (AB zR Gm (AB zR Mh (Am 5 zR zR zR zR Gn zR zR zR zT (C4 5 (AI b3 (.cells #[vI (wI (y1.1.toNat:Int)),Z y9,Z y10,vI y11,.slice none 0 0,v3,Z y16.1.page,vS []] 148)) (AS ?_)))))
 exact Av [] h tL (fun _ hw=>BJ.pick (H:=[_,_,_,_,_,_,_,_]) hw [0,1,2,3,4,5,6,7] 8 zR)
 replace h:=cF hc3 h
 refine AH ?_
 exact Av y16.1.tag h tL (fun _ hw=>BJ.pick (H:=[_,_,_,_,_,_,_,_]) hw [0,1,2,3,4,5,6,7] 8 zR)
 unfold Mp at h
 refine A4 [(0,vP b0_ 0),(1,vP b1 0),(2,vP b2 0),(3,vP b3 0),(4,vI x1)] (AI b0_ (.cells #[vS y16.2.s,vB y16.2.short] 194)::AI b1 (.cells #[vP b0_ 0] 192)::AI b2 (.cells #[vI y3,Z y4,Z y5,vI y6,v1,v2,Z y7,vS y8] 148)::AE 79 4 v1 AK l1::AE 31 2 v2 Ae l2::AI b3 (.cells #[vI (wI (y1.1.toNat:Int)),Z y9,Z y10,vI y11,.slice none 0 0,v3,Z y16.1.page,vS y17] 148)::AE 79 4 (.slice none 0 0) AK []::AE 31 2 v3 Ae l3::H) ?_ tL
 refine AD (JS (AF ?_))
 refine A1 (α:=Cb×List AN×Value) (fun x=>ON y1 y9 y10 y11 l3 y16 y17 x.1 x.2.1=some r) (fun x=>[(0,vP b0_ 0),(2,vP b2 0),(3,vP b3 0)]) (fun x=>AI b0_ (.cells #[vS x.1.s,vB x.1.short] 194)::AI b2 (.cells #[vI y3,Z y4,Z y5,vI y6,v1,v2,Z y7,vS y8] 148)::AE 79 4 v1 AK l1::AE 31 2 v2 Ae l2::AI b3 (.cells #[vI (wI (y1.1.toNat:Int)),Z y9,Z y10,vI y11,x.2.2,v3,Z y16.1.page,vS y17] 148)::AE 79 4 x.2.2 AK x.2.1::AE 31 2 v3 Ae l3::H) ?_ (fun x D h=>?_)
 refine V ?_
 obtain⟨y19,hy19,h⟩:=bnd h
 refine AC 1 LE zR (E zR ?_)
 refine AP (vs:=[_,_]) (Hin:=[]) (Hr:=_::_::_::_::_::_::_::_::_) zR zR ⟨zR,zR,zT⟩ lH zR zR (mg hy19) ?_
 rintro _ _ ⟨b5,b6,rfl,rfl⟩
 refine⟨trivial,?_⟩
 refine U (AL ?_)
 refine SX.heap (bX (enc:=kl) (C:=fun s=>cI b0_ s.2) (0,y16.2) (G0:=AI b1 (.cells #[vP b0_ 0] 192)::AI b2 (.cells #[vI y3,Z y4,Z y5,vI y6,v1,v2,Z y7,vS y8] 148)::AE 79 4 v1 AK l1::AE 31 2 v2 Ae l2::AI b3 (.cells #[vI (wI (y1.1.toNat:Int)),Z y9,Z y10,vI y11,.slice none 0 0,v3,Z y16.1.page,vS y17] 148)::AE 79 4 (.slice none 0 0) AK []::AE 31 2 v3 Ae l3::H) (fun s G=>∃(m:Nat) (x:Cb×List AN×Value),Kf y1 y9 y10 y11 l3 y16 y17 (I5 x1) (Qg x1) m s (x.1,x.2.1)=some r∧G=AI b1 (.cells #[vP b0_ 0] 192)::AI b2 (.cells #[vI y3,Z y4,Z y5,vI y6,v1,v2,Z y7,vS y8] 148)::AE 79 4 v1 AK l1::AE 31 2 v2 Ae l2::AI b3 (.cells #[vI (wI (y1.1.toNat:Int)),Z y9,Z y10,vI y11,x.2.2,v3,Z y16.1.page,vS y17] 148)::AE 79 4 x.2.2 AK x.2.1::AE 31 2 v3 Ae l3::H) (fun c G=>(c=.exit 2∧∃x:Cb×List AN×Value,UA y1 y9 y10 y11 l3 y16 y17 x.1 x.2.1=some r∧G=AI b0_ (.cells #[vS x.1.s,vB x.1.short] 194)::AI b1 (.cells #[vP b0_ 0] 192)::AI b2 (.cells #[vI y3,Z y4,Z y5,vI y6,v1,v2,Z y7,vS y8] 148)::AE 79 4 v1 AK l1::AE 31 2 v2 Ae l2::AI b3 (.cells #[vI (wI (y1.1.toNat:Int)),Z y9,Z y10,vI y11,x.2.2,v3,Z y16.1.page,vS y17] 148)::AE 79 4 x.2.2 AK x.2.1::AE 31 2 v3 Ae l3::H)) rfl lT rfl (fun _=>rfl) (mL hy19 _) rfl ⟨n,(y16.2,[],.slice none 0 0),h,rfl⟩ (fun s G hJ=>by obtain⟨m,x,h,_⟩:=hJ;exact bw h) (fun s0 e1 s1 G hst hJ lr lp Rest=>?_) (fun s G D hds hJ=>?_) (fun c G D hX=>?_)) (fun _ hw=>BJ.pick (H:=[_,_,_,_,_,_,_,_,_,_]) hw [0,1,2,3,4,5,6,7,8,9] 10 rfl)
 obtain⟨m1,⟨_,l8,v8⟩,h,rfl⟩:=hJ
 obtain⟨k1,o5⟩:=s1
 unfold Kf at h
 obtain⟨m2,h⟩:=Ya df h hst
 replace h:L8 y1 y9 y10 y11 l3 y16 y17 (Kf y1 y9 y10 y11 l3 y16 y17 (I5 x1) (Qg x1) m2 (k1,o5)) e1 o5 l8=some r:=h
 unfold L8 at h
 refine AJ ?_
 refine Ah zR ET (fun _=>trivial) fun b7=>?_
 refine Am 0 zR zR zR zR Bo zR zR zR zT (AS ?_)
 refine KL (G:=AI b7 (.cells #[Ag e1.id,Z e1.x,Z e1.y,vS e1.txt] 79)::AI b0_ (.cells #[vS o5.s,vB o5.short] 194)::AI b1 (.cells #[vP b0_ 0] 192)::AI b2 (.cells #[vI y3,Z y4,Z y5,vI y6,v1,v2,Z y7,vS y8] 148)::AE 79 4 v1 AK l1::AE 31 2 v2 Ae l2::AI b3 (.cells #[vI (wI (y1.1.toNat:Int)),Z y9,Z y10,vI y11,v8,v3,Z y16.1.page,vS y17] 148)::AE 79 4 v8 AK l8::AE 31 2 v3 Ae l3::H) ?_
 refine AL (V ?_)
 obtain⟨l9,hl9,h⟩:=bnd h
 refine AB zR Fx (AC 6 Em zR (Aa [Ag e1.id,Z e1.x,Z e1.y,vS e1.txt] zR D8 zR zR (AZ 0 zR) ?_))
 refine Bd [_] rfl Bf Bo ET ⟨rfl,trivial⟩ rfl rfl rfl (by first | (simp[Value.cells];done) | (intro v hv;simp only[List.mem_cons,List.not_mem_nil,or_false]at hv;rcases hv with rfl<;>rfl)) rfl rfl (fun _=>trivial) fun b8=>?_
 refine Bi AK 4 ([e1]:List AN) zR (fun _=>rfl) zR ?_
 refine B7 8 hl9 (sz:=4) (enc:=AK) (fun _=>rfl) zR Bf Bo Rh ET zR zD zR zR zR zR (Ba (sz:=4) (enc:=AK) 0 (fun _=>rfl) zR) (by simp[AK,Value.oneCell']) (fun _=>trivial) fun v9=>?_
 refine AB zR Fx ?_
 refine B6 8 zR fun hv4 ho4=>?_
 refine DW 7 zR zR zR zR Ki hv4 ho4 zR zT (U (V (AC 3 LE zR (AW zR zR (AB zR V0 (AC 2 Uv zR (E zR ?_)))))))
 refine C1 (c:=decide (4<(l9.length:Int))) 68 5 73 zR (fun hb k=>?_) (fun hb k=>?_) ?_
 refine AA zR (AA zR (AA zR (AA zR (Ad zR zR zR ?_))))
 exact k.mono tL
 refine AB zR Fx (AC 7 Em zR (DC 8 zR Bf zR zR (O zR CD (Ad zR zR zR ?_))))
 exact k.mono tL
 refine U ?_
 refine AG zR (fun hc4=>?_) (fun hc4=>?_)
 replace h:=cT hc4 h
 refine Al (Ks ?_)
 exact MD ⟨zR,(o5,l9,v9),h,zR⟩ (fun _ hw=>BJ.pick (H:=[_,_,_,_,_,_,_,_,_,_]) hw [2,3,4,5,6,7,8,9] 10 zR)
 replace h:=cF hc4 h
 refine AH (Ai ?_)
 exact HK ⟨_,zR,m2,(o5,l9,v9),h,zR⟩ (fun _ hw=>BJ.pick (H:=[_,_,_,_,_,_,_,_,_,_]) hw [2,3,4,5,6,7,8,9] 10 zR)
 obtain⟨m1,⟨_,l8,v8⟩,h,rfl⟩:=hJ
 obtain⟨k1,o5⟩:=s
 unfold Kf at h
 replace h:=cM h hds
 replace h:Qn y1 y9 y10 y11 l3 y16 y17 o5 l8=some r:=h
 unfold Qn at h
 refine Ai ?_
 exact Av (o5,l8,v8) h tL (fun _ hw=>BJ.pick (H:=[_,_,_,_,_,_,_,_]) hw [0,2,3,4,5,6,7] 8 zR)
 obtain⟨rfl,hJ⟩:=hX
 obtain⟨⟨o5,l8,v8⟩,h,rfl⟩:=hJ
 dsimp only at h
 unfold UA at h
 refine Al (Au ?_)
 exact Av (o5,l8,v8) h tL (fun _ hw=>BJ.pick (H:=[_,_,_,_,_,_,_,_]) hw [0,2,3,4,5,6,7] 8 zR)
 obtain⟨o4,l7,v7⟩:=x
 dsimp only at h
 unfold ON at h
 refine A4 [(0,vP b0_ 0),(2,vP b2 0),(3,vP b3 0)] (AI b0_ (.cells #[vS o4.s,vB o4.short] 194)::AI b2 (.cells #[vI y3,Z y4,Z y5,vI y6,v1,v2,Z y7,vS y8] 148)::AE 79 4 v1 AK l1::AE 31 2 v2 Ae l2::AI b3 (.cells #[vI (wI (y1.1.toNat:Int)),Z y9,Z y10,vI y11,v7,v3,Z y16.1.page,vS y17] 148)::AE 79 4 v7 AK l7::AE 31 2 v3 Ae l3::H) ?_ tL
 refine V (Aa [vI (wI (y1.1.toNat:Int)),Z y9,Z y10,vI y11,v7,v3,Z y16.1.page,vS y17] zR K8 zR zR (AZ 4 zR) ?_)
 refine B6 5 zR fun hv5 ho5=>?_
 refine B6 6 zR fun hv6 ho6=>?_
 refine Am 1 zR zR zR zR O6 zR (by simp only[Value.oneCell']at ho5 ho6;simp[Value.cells,Value.cells,Value.oneCell',ho5,ho6]) zR zT (U (AM (EN ?_)))
 obtain rfl:=Option.some.inj h
 exact AU (Dx zR (BG 1 [vI (wI (y1.1.toNat:Int)),Z y9,Z y10,vI y11,v7,v3,Z y16.1.page,vS y17] K8 zR zR zR zR)) (AV (M:=[_,_,_]) ⟨v7,v3,zR,zR⟩ fun _ hw=>BJ.pick (H:=[_,_,_,_,_,_,_]) hw [5,6,0] 7 zR)
end

/- Plain functions of the references and the laws, printed from the loaded program, and the walks that show that the program computes them. Condition: the plain function yields. -/
section
variable {K:Nat→Prop}{w0:World}{H:List AT}
def I4(n:Nat)(p0:List UInt8):Option (Bj×Int):=
 (VK n ({ s:=p0,short:=false }:Cb)).bind fun y1=>
 (PJ (y1.2.short||(!decide (y1.2.s=[]))) ((IG n y1.1).bind fun y2=>some (!y2))).bind fun y3=>
 cond y3
 (
  some ((⟨0,0,0,0,[],[],0,[]⟩:Bj),90))
 (
  some (y1.1,0))
theorem Wa{n:Nat}{p0:List UInt8}{r:Bj×Int}(h:I4 n p0=some r): BH Tryz.prog K w0 82 [vS p0] [] H (fun u M=>∃v0_4 v0_5:Value,u=.tuple #[.agg #[vI r.1.kind,Z r.1.cx,Z r.1.cy,vI r.1.lev,v0_4,v0_5,Z r.1.npage,vS r.1.ntag],vI r.2]∧M=[AE 79 4 v0_4 AK r.1.rows,AE 31 2 v0_5 Ae r.1.kids]):=by
 unfold I4 at h
 refine BH.enter Tryz.func82 rfl rfl ?_
 refine V ?_
 refine Ah zR Lh (fun _=>trivial) fun b1=>?_
 refine Bx 79 4 AK (Bx 31 2 Ae (J zR (U (V (E zR (BL [_] zR o8 od o9 ⟨zR,zT⟩ zR ?_))))))
 refine BU zR zR (fun _=>trivial) fun b2=>?_
 refine J zR (U (V ?_))
 obtain⟨y1,hy1,h⟩:=bnd h
 refine E zR ?_
 refine AP (vs:=[_]) (Hin:=[_]) (Hr:=_::_::_::_) zR zR ⟨zR,zT⟩ me zR zR (qI hy1) ?_
 rintro _ _ ⟨v1,v2,rfl,rfl⟩
 refine⟨trivial,?_⟩
 refine Ah zR Lh (fun _=>trivial) fun b3=>?_
 refine Bx 79 4 AK (Bx 31 2 Ae ?_)
 refine B6 3 zR fun hv1 ho1=>?_
 refine B6 4 zR fun hv2 ho2=>?_
 refine Am 2 zR zR zR zR O6 zR (by simp only[Value.oneCell']at ho1 ho2;simp[Value.cells,Value.cells,Value.oneCell',ho1,ho2]) zR zT (C4 2 (AI b3 (.cells #[vI y1.1.kind,Z y1.1.cx,Z y1.1.cy,vI y1.1.lev,v1,v2,Z y1.1.npage,vS y1.1.ntag] 148)) (U (AD (V ?_))))
 obtain⟨y3,hy3,h⟩:=bnd h
 refine E zR (AW zR zR (AB zR V0 (AC 5 Uv zR (E zR ?_))))
 refine C1 (c := !decide (y1.2.s=[])) 15 6 21 zR (fun hb k=>?_) (fun hb k=>?_) ?_
 refine AA zR (AA zR (AA zR (AA zR (AA zR (Ad zR zR zR ?_)))))
 exact k.mono tL
 refine E zR (AW zR zR (AB zR Qc (AC 5 EZ zR (O zR Jx (Ad zR zR zR ?_)))))
 exact k.mono tL
 refine E zR ?_
 refine Ma 22 4 26 hy3 zR (fun hb k=>?_) (fun hb hg2 k=>?_) ?_
 refine AA zR (AA zR (AA zR (Ad zR zR zR ?_)))
 exact k.mono tL
 obtain⟨y2,hy2,hg2⟩:=bnd hg2
 obtain rfl:=Option.some.inj hg2
 refine Aa [vI y1.1.kind,Z y1.1.cx,Z y1.1.cy,vI y1.1.lev,v1,v2,Z y1.1.npage,vS y1.1.ntag] zR K8 zR zR (AZ 2 zR) (SL.pick [3,4,0,1,2] 5 ?_)
 refine AP (vs:=[_]) (Hin:=[_,_]) (Hr:=_::_::_::_::_::_::_::_) zR zR ⟨zR,zT⟩ fL zR zR (CC (B:=[_,_]) (Hin:=[]) fun K' w1 hk hB=>(Rb hy2 (Br (e:=79) (v:=v1) (fun _=>rfl) (hB _ zS)) (Br (e:=31) (v:=v2) (fun _=>rfl) (hB _ zS)) :)) ?_
 rintro _ _ ⟨_,rfl,rfl,rfl⟩
 refine⟨trivial,?_⟩
 refine B9 zR zR (Ad zR zR zR ?_)
 exact SL.mono (SL.heap k fun _ hw=>BJ.pick (H:=[_,_,_,_,_,_,_,_,_]) hw [2,3,4,0,1,5,6,7,8] 9 zR) tL
 refine U ?_
 refine AG zR (fun hc1=>?_) (fun hc1=>?_)
 replace h:=cT hc1 h
 refine V (BL [] zR Tg T3 Lh zT zR (Am 8 zR zR zR zR O6 zR zR zR zT (C4 8 (AI b1 (.cells #[vI 0,Z 0,Z 0,vI 0,.slice none 0 0,.slice none 0 0,Z 0,vS []] 148)) (Bx 79 4 AK (Bx 31 2 Ae (J zR (U (AM (Ab ?_)))))))))
 obtain rfl:=Option.some.inj h
 exact AU (Dq zR (BG 10 [vI 0,Z 0,Z 0,vI 0,.slice none 0 0,.slice none 0 0,Z 0,vS []] K8 zR zR zR zR) zR) (AV (M:=[_,_]) ⟨(.slice none 0 0),(.slice none 0 0),zR,zR⟩ fun _ hw=>BJ.pick (H:=[_,_,_,_,_,_,_,_,_,_,_]) hw [1,0] 11 zR)
 replace h:=cF hc1 h
 refine AH (AF (V (Aa [vI y1.1.kind,Z y1.1.cx,Z y1.1.cy,vI y1.1.lev,v1,v2,Z y1.1.npage,vS y1.1.ntag] zR K8 zR zR (AZ 2 zR) ?_)))
 refine B6 3 zR fun hv3 ho3=>?_
 refine B6 4 zR fun hv4 ho4=>?_
 refine Am 8 zR zR zR zR O6 zR (by simp only[Value.oneCell']at ho3 ho4;simp[Value.cells,Value.cells,Value.oneCell',ho3,ho4]) zR zT (C4 8 (AI b1 (.cells #[vI y1.1.kind,Z y1.1.cx,Z y1.1.cy,vI y1.1.lev,v1,v2,Z y1.1.npage,vS y1.1.ntag] 148)) (J zR (U (AM ?_))))
 obtain rfl:=Option.some.inj h
 exact AU (Dq zR (BG 8 [vI y1.1.kind,Z y1.1.cx,Z y1.1.cy,vI y1.1.lev,v1,v2,Z y1.1.npage,vS y1.1.ntag] K8 zR zR zR zR) zR) (AV (M:=[_,_]) ⟨v1,v2,zR,zR⟩ fun _ hw=>BJ.pick (H:=[_,_,_,_,_,_,_,_,_]) hw [3,4] 9 zR)
end

/- Plain laws of pages as bytes: what rows.Right, rows.Encode and rows.Decode answer; what was encoded is decoded. No program in sight. Condition: rounds enough. -/
section
/-! ### Rows that are -/
def FF(r:AN):Bool:=decide (max r.x r.y<2147483648)&&decide ((r.txt.length:Int)≤16)
def DV:List AN→Bool
 | []=>true
 | [_]=>true
 | a::b::l=>decide (a.id<b.id)&&DV (b::l)
def CZ(l:List AN):Bool:=l.all FF&&DV l&&decide ((l.length:Int)≤1000)
theorem Un{a b:UInt64}:decide (b≤a) = !decide (a<b):=by
 rw[Bool.eq_iff_iff]
 simp only[Bool.not_eq_true',decide_eq_false_iff_not,decide_eq_true_eq]
 rw[UInt64.le_iff_toNat_le,UInt64.lt_iff_toNat_lt]
 omega
theorem PA:∀(l:List AN) (a b:AN),DV (l++[a,b])=(DV (l++[a])&&decide (a.id<b.id))
 | [],a,b=>by simp[DV]
 | [x],a,b=>by simp[DV]
 | x::y::l,a,b=>by
  have:=PA (y::l) a b
  simp only[List.cons_append,DV]at this ⊢
  rw[this,Bool.and_assoc]
theorem Yw(l r:List AN)(h:DV (l++r)=true):DV l=true:=by
 induction l with
 | nil=>rfl
 | cons a l ih=>
  cases l with
  | nil=>rfl
  | cons b l=>
   simp only[List.cons_append,DV,Bool.and_eq_true]at h ⊢
   exact⟨h.1,ih h.2⟩
theorem Nl(l:List AN):DV l=true↔l.Pairwise fun a b=>a.id<b.id:=by
 induction l with
 | nil=>simp[DV]
 | cons a l ih=>
  cases l with
  | nil=>simp[DV]
  | cons b l=>
   simp only[DV,Bool.and_eq_true,decide_eq_true_eq,ih]
   constructor
   rintro⟨h1,h2⟩
   refine List.pairwise_cons.2 ⟨fun c hc=>?_,h2⟩
   rcases List.mem_cons.1 hc with rfl | hc
   exact h1
   have:=(List.pairwise_cons.1 h2).1 c hc
   rw[UInt64.lt_iff_toNat_lt]at*
   omega
   intro h
   exact⟨(List.pairwise_cons.1 h).1 b zS,(List.pairwise_cons.1 h).2⟩
theorem Nz{n:Nat}(l:List AN)(hn:l.length<n)(hb:l.length≤1073741824):IE n l=some (CZ l):=by
 have key:∀(T S:List AN),l=S++T→S.all FF=true→DV S=true→∀m,T.length<m→Fj l m (S.length:Int)=some (CZ l):=by
  intro T
  induction T with
  | nil=>
   intro S hl h1 h2 m hm
   obtain⟨m,rfl⟩:∃k,m=k+1:=⟨m-1,by omega⟩
   show Dw l (Fj l m) _=_
   unfold Dw
   simp only[List.append_nil]at hl
   subst hl
   rw[decide_eq_false zO,cond_false]
   unfold JW CZ
   rw[A7,h1,h2]
   rfl
  | cons r T ih=>
   intro S hl h1 h2 m hm
   obtain⟨m,rfl⟩:∃k,m=k+1:=⟨m-1,by omega⟩
   have hlen:l.length=S.length+(T.length+1):=by rw[hl];simp
   show Dw l (Fj l m) _=_
   unfold Dw
   have n1:Aq l (S.length:Int)=some r:=by
    rw[DK rfl,hl]
    simp
   have hrow:HM r=some (FF r):=by
    unfold HM
    rw[A7]
    rfl
   rw[decide_eq_true zO,cond_true,n1,Y,hrow,Y]
   have hall:l.all FF=(FF r&&T.all FF):=by rw[hl];simp[h1]
   by_cases hr:FF r=true
   rw[hr]
   simp only[PJ,Bool.not_true,cond_false]
   rcases List.eq_nil_or_concat S with rfl | ⟨S0,a,rfl⟩
   have hz:decide (0<((([]:List AN).length:Nat):Int))=false:=rfl
   rw[hz]
   simp only[Ed,cond_false,Y]
   rw[BD zS zS]
   have:=ih [r] (by rw[hl];rfl) (by simp[hr]) rfl m (by simp at hm;omega)
   simpa using this
   have hz:decide (0<(((S0.concat a).length:Nat):Int))=true:=by simp
   have hcl:(S0.concat a).length=S0.length+1:=by simp
   have n2:Aq l (wI (((S0.concat a).length:Int)-1))=some a:=by
    rw[BD zO zO,DK (k:=S0.length) zO,hl]
    simp
   rw[hz]
   simp only[Ed,cond_true,n2,Y,Un]
   have hl':l=(S0.concat a++[r])++T:=by rw[hl];simp
   by_cases hlt:a.id<r.id
   rw[decide_eq_true hlt,Bool.not_true,cond_false,BD zO zO]
   have hri:DV (S0.concat a++[r])=true:=by
    have:=PA S0 a r
    rw[List.concat_eq_append,List.append_assoc]
    show DV (S0++[a,r])=true
    rw[this,←List.concat_eq_append,h2,decide_eq_true hlt]
    rfl
   have:=ih (S0.concat a++[r]) hl' (by simp only[List.all_append,h1];simp[hr]) hri m (by simp at hm;omega)
   rw[show((S0.concat a++[r]).length:Int)=((S0.concat a).length:Int)+1 by simp only[List.length_append,List.length_singleton];omega]at this
   exact this
   rw[decide_eq_false hlt,Bool.not_false,cond_true]
   have:DV l=false:=by
    cases hx:DV l with
    | false=>rfl
    | true=>
     rw[hl']at hx
     have h5:=Yw _ _ hx
     rw[List.concat_eq_append,List.append_assoc]at h5
     have h6:DV (S0++[a,r])=true:=h5
     rw[PA,decide_eq_false hlt]at h6
     simp at h6
   unfold CZ
   rw[this]
   simp
   have hr':FF r=false:=by simpa using hr
   rw[hr']
   simp only[PJ,Bool.not_false,cond_true,Y]
   unfold CZ
   rw[hall,hr']
   simp
 have:=key l [] rfl rfl rfl n hn
 unfold IE
 simpa using this
/-! ### Pages that are -/
def C6(r:Af):Bool:=decide (2≤r.page)&&decide ((r.tag.length:Int)=32)
def Jv(r:Af):Bool:=decide (r.page=0)&&decide (r.tag=[])
theorem O9(r:Af):DY r=some (C6 r):=by
 unfold DY
 rw[A7]
 rfl
def Hj(c:BN):Bool:=cond (decide (c.lev<0)||decide (31<c.lev)) false (decide ((c.x ||| c.y) &&& (shl64 1 c.lev.toNat-1).toUInt32=0)&&decide (max c.x c.y<2147483648))
theorem N8(c:BN):Gu c=some (Hj c):=by
 unfold Gu Hj
 cases h:decide (c.lev<0)||decide (31<c.lev)with
 | true=>rfl
 | false=>
  simp only[Bool.or_eq_false_iff,decide_eq_false_iff_not]at h
  unfold Gl QB
  rw[cond_false,cond_false,if_pos zO,Y,A7,Y,A7,A7]
theorem aJ{n:Nat}(l:List Af)(hn:l.length<n)(hb:l.length≤1073741824):Ws n l=some (!l.all C6):=by
 have key:∀(T S:List Af),l=S++T→S.all C6=true→∀m,T.length<m→∃y,Kl l m (S.length:Int)=some y∧decide (0≤y) = !l.all C6:=by
  intro T
  induction T with
  | nil=>
   intro S hl h1 m hm
   obtain⟨m,rfl⟩:∃k,m=k+1:=⟨m-1,by omega⟩
   simp only[List.append_nil]at hl
   subst hl
   refine⟨-1,?_,by rw[h1];rfl⟩
   show Ga l (Kl l m) _=_
   unfold Ga
   rw[decide_eq_false zO,cond_false]
   rfl
  | cons r T ih=>
   intro S hl h1 m hm
   obtain⟨m,rfl⟩:∃k,m=k+1:=⟨m-1,by omega⟩
   have hlen:l.length=S.length+(T.length+1):=by rw[hl];simp
   have n1:Aq l (S.length:Int)=some r:=by
    rw[DK rfl,hl]
    simp
   by_cases hr:C6 r=true
   obtain⟨y,h5,h6⟩:=ih (S++[r]) (by rw[hl];simp) (by simp only[List.all_append,h1];simp[hr]) m (by simp at hm;omega)
   refine⟨y,?_,h6⟩
   show Ga l (Kl l m) _=_
   unfold Ga IB
   rw[decide_eq_true zO,cond_true,n1,Y,O9,Y,A7,Y,hr,Bool.not_true,cond_false,BD zO zO]
   simpa using h5
   have hr':C6 r=false:=by simpa using hr
   refine⟨(S.length:Int),?_,?_⟩
   show Ga l (Kl l m) _=_
   unfold Ga IB
   rw[decide_eq_true zO,cond_true,n1,Y,O9,Y,A7,Y,hr',Bool.not_false,cond_true]
   rw[hl]
   simp[hr']
 obtain⟨y,h1,h2⟩:=key l [] rfl rfl n hn
 unfold Ws Zk
 have h1':Kl l n 0=some y:=by simpa using h1
 rw[h1',Y,A7,h2]
def DI(x:Bj):Bool:=
 cond (decide (x.kind=1)) ((((decide (x.cx=0)&&(decide (x.cy=0)&&(decide (x.lev=0)&&true)))&&decide ((x.kids.length:Int)=0))&&decide ((x.rows.length:Int)≤4))&&CZ x.rows&&(Jv ⟨x.npage,x.ntag⟩||C6 ⟨x.npage,x.ntag⟩))
  (cond (decide (x.kind=2)) ((x.kids.all C6&&decide ((x.rows.length:Int)=0))&&Jv ⟨x.npage,x.ntag⟩&&decide (2≤(x.kids.length:Int))&&decide ((x.kids.length:Int)≤4)&&Hj ⟨x.cx,x.cy,x.lev⟩&&decide (0<x.lev)) false)
theorem Ln(b c:Bool):Ed b (some c)=some (b&&c):=by cases b<;>rfl
theorem T9(b c:Bool):PJ b (some c)=some (b||c):=by cases b<;>rfl
theorem VU(r:Af):HR r=some (Jv r):=by
 unfold HR
 rw[A7]
 unfold Jv
 simp
theorem Ls{n:Nat}(x:Bj)(hr:x.rows.length<n)(hk:x.kids.length<n)(hb:x.rows.length≤1073741824)(hc:x.kids.length≤1073741824):IG n x=some (DI x):=by
 unfold IG DI
 rw[A7]
 cases hk1:decide (x.kind=1)with
 | true=>
  rw[cond_true,cond_true,Nz x.rows hr hb,Y,Ln,Y,VU,Y,O9,Y,T9,Y,Ln,Y]
 | false=>
  rw[cond_false,cond_false,A7]
  cases hk2:decide (x.kind=2)with
  | true=>
   rw[cond_true,cond_true,aJ x.kids hk hc,Y,VU,Y,Ln,Y,N8,Y,Ln,Y,A7,Bool.not_not]
  | false=>rfl
end

/- Plain laws of pages as bytes: what rows.Encode answers, and that what was encoded is decoded. No program in sight. Condition: rounds enough. -/
section
/-! ### Writing -/
def C5(r:Af):List UInt8:=BS r.page.toUInt64 4++(r.tag++List.replicate (32-r.tag.length) 0)
def Cx(r:AN):List UInt8:=BS r.id 8++(BS r.x.toUInt64 4++(BS r.y.toUInt64 4++(BS (BK (r.txt.length:Int)) 1++r.txt)))
def EC(x:Bj):List UInt8:=
 BS (BK x.kind) 1++cond (decide (x.kind=2)) (BS (BK (x.kids.length:Int)) 1++(BS (BK x.lev) 1++(BS x.cx.toUInt64 4++(BS x.cy.toUInt64 4++(x.kids.map C5).flatten))))
  (BS (BK (x.rows.length:Int)) 1++(C5 ⟨x.npage,x.ntag⟩++(x.rows.map Cx).flatten))
theorem WS{s:List UInt8}{n:UInt64}{w:Int}(k:Nat)(hw:w=(k:Int))(hs:s.length≤1048576)(h:k≤8):IU s n w=some (s++BS n k):=by
 subst hw
 unfold IU
 rw[if_pos ⟨hs,by omega,by omega⟩]
 rfl
theorem TQ{s:List UInt8}{n:UInt64}(hs:s.length≤1048576):IU s n 1=some (s++BS n 1):=WS 1 rfl hs zO
theorem VV{s:List UInt8}{n:UInt64}(hs:s.length≤1048576):IU s n 4=some (s++BS n 4):=WS 4 rfl hs zO
theorem n7{s:List UInt8}{n:UInt64}(hs:s.length≤1048576):IU s n 8=some (s++BS n 8):=WS 8 rfl hs zO
theorem cz{n:Int}(k:Nat)(h:n=(k:Int))(hk:k≤8192):NT [0] n=some (List.replicate k 0):=by
 subst h
 unfold NT
 rw[if_pos ⟨rfl,by omega,by omega⟩]
 rfl
theorem kz:NT [0] 32=some (List.replicate 32 0):=cz 32 rfl zO
theorem bV{s t:List UInt8}(hs:s.length≤1048576)(ht:t.length≤1048576):Wb s t=some (s++t):=if_pos ⟨hs,ht⟩
theorem MZ{r:Af}(h:r.tag.length≤32):(C5 r).length=36:=by
 unfold C5
 simp[A2]
 omega
theorem bG{s:List UInt8}{r:Af}(hs:s.length≤1000000)(h:r.tag.length≤32):TR s r=some (s++C5 r):=by
 unfold TR C5
 rw[if_pos h,VV zO,Y,cz (32-r.tag.length) zO zO,Y,CM (by simp;omega),Y,bV (by simp[A2];omega) (by simp;omega),List.append_assoc]
theorem Fr{r:Af}(h:C6 r=true):r.tag.length=32∧2≤r.page.toNat:=by
 unfold C6 at h
 simp only[Bool.and_eq_true,decide_eq_true_eq]at h
 exact⟨by omega,by have:=UInt32.le_iff_toNat_le.1 h.1;simpa using this⟩
theorem YU{r:Af}(h:Jv r=true):r=⟨0,[]⟩:=by
 unfold Jv at h
 simp only[Bool.and_eq_true,decide_eq_true_eq]at h
 cases r
 simp only at h
 rw[h.1,h.2]
theorem gJ(x:Bj)(hb:x.kids.length≤1000):∀(T S:List Af) (s:List UInt8),x.kids=S++T→(∀r∈T,r.tag.length≤32)→s.length+36*T.length≤100000→∀m,T.length<m→E6 x m (s,(S.length:Int))=some (s++(T.map C5).flatten,0)
 | [],S,s,hk,ht,hs,m,hm=>by
  obtain⟨m,rfl⟩:∃k,m=k+1:=⟨m-1,by omega⟩
  show Db x (E6 x m) _ _=_
  unfold Db Xe
  rw[hk]
  simp only[List.append_nil]
  rw[decide_eq_false zO,cond_false,if_pos (by simp at hs ⊢;omega)]
  simp
 | r::T,S,s,hk,ht,hs,m,hm=>by
  obtain⟨m,rfl⟩:∃k,m=k+1:=⟨m-1,by omega⟩
  have hlen:x.kids.length=S.length+(T.length+1):=by rw[hk];simp
  have n1:Aq x.kids (S.length:Int)=some r:=by
   rw[DK rfl,hk]
   simp
  simp only[List.length_cons]at hs hm
  have h32:=ht r zS
  show Db x (E6 x m) _ _=_
  unfold Db
  dsimp only
  rw[decide_eq_true zO,cond_true,n1,Y,bG zO h32,Y,BD zO zO]
  have:=gJ x hb T (S++[r]) (s++C5 r) (by rw[hk];simp) (fun q hq=>ht q (by simp[hq])) (by simp[MZ h32];omega) m zO
  simpa using this
theorem TI(r:AN):(Cx r).length=17+r.txt.length:=by
 unfold Cx
 simp[A2]
 omega
theorem fO(x:Bj)(hb:x.rows.length≤1000):∀(T S:List AN) (s:List UInt8),x.rows=S++T→(∀r∈T,r.txt.length≤16)→s.length+33*T.length≤100000→∀m,T.length<m→FC x m (s,(S.length:Int))=some (s++(T.map Cx).flatten,0)
 | [],S,s,hk,ht,hs,m,hm=>by
  obtain⟨m,rfl⟩:∃k,m=k+1:=⟨m-1,by omega⟩
  show Da x (FC x m) _ _=_
  unfold Da Xe
  rw[hk]
  simp only[List.append_nil]
  rw[decide_eq_false zO,cond_false,if_pos (by simp at hs ⊢;omega)]
  simp
 | r::T,S,s,hk,ht,hs,m,hm=>by
  obtain⟨m,rfl⟩:∃k,m=k+1:=⟨m-1,by omega⟩
  have hlen:x.rows.length=S.length+(T.length+1):=by rw[hk];simp
  have n1:Aq x.rows (S.length:Int)=some r:=by
   rw[DK rfl,hk]
   simp
  simp only[List.length_cons]at hs hm
  have h16:=ht r zS
  show Da x (FC x m) _ _=_
  unfold Da
  dsimp only
  rw[decide_eq_true zO,cond_true,n1,Y,n7 zO,Y,VV (by simp[A2];omega),Y,VV (by simp[A2];omega),Y,
   TQ (by simp[A2];omega),Y,bV (by simp[A2];omega) zO,Y,BD zO zO]
  have:=fO x hb T (S++[r]) (s++Cx r) (by rw[hk];simp) (fun q hq=>ht q (by simp[hq])) (by simp[TI];omega) m zO
  simpa[Cx]using this
theorem JU{x:Bj}(h:DI x=true)(hk:x.kind=1):x.cx=0∧x.cy=0∧x.lev=0∧x.kids=[]∧x.rows.length≤4∧CZ x.rows=true∧((x.npage=0∧x.ntag=[])∨C6 ⟨x.npage,x.ntag⟩=true):=by
 unfold DI at h
 rw[decide_eq_true hk,cond_true]at h
 simp only[Bool.and_eq_true,decide_eq_true_eq,Bool.or_eq_true,Bool.and_true]at h
 obtain⟨⟨⟨⟨⟨h1,h2,h3⟩,h4⟩,h5⟩,h6⟩,h7⟩:=h
 refine⟨h1,h2,h3,List.length_eq_zero_iff.1 zO,by omega,h6,?_⟩
 rcases h7 with h7 | h7
 have:=YU h7
 simp only[Af.mk.injEq]at this
 exact .inl this
 exact .inr h7
theorem IK{x:Bj}(h:DI x=true)(hk:x.kind≠1):x.kind=2∧(∀r∈x.kids,C6 r=true)∧x.rows=[]∧x.npage=0∧x.ntag=[]∧2≤x.kids.length∧x.kids.length≤4∧Hj ⟨x.cx,x.cy,x.lev⟩=true∧0<x.lev:=by
 unfold DI at h
 rw[decide_eq_false hk,cond_false]at h
 cases hk2:decide (x.kind=2)with
 | false=>rw[hk2]at h;cases h
 | true=>
  rw[hk2,cond_true]at h
  simp only[Bool.and_eq_true,decide_eq_true_eq]at h
  obtain⟨⟨⟨⟨⟨⟨h1,h2⟩,h3⟩,h4⟩,h5⟩,h6⟩,h7⟩:=h
  have:=YU h3
  simp only[Af.mk.injEq]at this
  exact⟨by simpa using hk2,fun r hr=>List.all_eq_true.1 h1 r hr,List.length_eq_zero_iff.1 zO,this.1,this.2,by omega,by omega,h6,h7⟩
theorem MI{l:List AN}(h:CZ l=true):∀r∈l,r.txt.length≤16:=fun r hr=>by
 unfold CZ at h
 simp only[Bool.and_eq_true]at h
 have:=List.all_eq_true.1 h.1.1 r hr
 unfold FF at this
 simp only[Bool.and_eq_true,decide_eq_true_eq]at this
 omega
theorem O7{n:Nat}{x:Bj}(hn:10≤n)(h:DI x=true):Dj n x=some (EC x,0):=by
 by_cases hk:x.kind=1
 obtain⟨h1,h2,h3,h4,h5,h6,h7⟩:=JU h hk
 have h32:x.ntag.length≤32:=by
  rcases h7 with h7 | h7
  rw[h7.2];simp
  have:=(Fr h7).1
  simp only at this
  omega
 unfold Dj EC
 rw[Ls x zO (by rw[h4];simp;omega) zO (by rw[h4];simp),Y,h,Bool.not_true,cond_false,TQ zS,Y,show decide (x.kind=2)=false by rw[hk];rfl,cond_false,cond_false,
  TQ (by simp[A2]),Y,bG (by simp[A2]) h32,Y]
 have:=fO x zO x.rows [] (BS (BK x.kind) 1++(BS (BK (x.rows.length:Int)) 1++C5 ⟨x.npage,x.ntag⟩)) rfl (MI h6) (by simp[A2,MZ (r:=⟨x.npage,x.ntag⟩) h32];omega) n zO
 simpa using this
 obtain⟨hk2,h1,h2,h3,h4,h5,h6,h7,h8⟩:=IK h hk
 unfold Dj EC
 rw[Ls x (by rw[h2];simp;omega) zO (by rw[h2];simp) zO,Y,h,Bool.not_true,cond_false,TQ zS,Y,show decide (x.kind=2)=true by rw[hk2];rfl,cond_true,cond_true,
  TQ (by simp[A2]),Y,TQ (by simp[A2]),Y,VV (by simp[A2]),Y,VV (by simp[A2]),Y]
 have:=gJ x zO x.kids [] (BS (BK x.kind) 1++(BS (BK (x.kids.length:Int)) 1++(BS (BK x.lev) 1++(BS x.cx.toUInt64 4++BS x.cy.toUInt64 4)))) rfl (fun r hr=>by have:=(Fr (h1 r hr)).1;omega) (by simp[A2];omega) n zO
 simpa using this
theorem Vh{n:Nat}{x:Bj}(hr:x.rows.length<n)(hk:x.kids.length<n)(hb:x.rows.length≤1073741824)(hc:x.kids.length≤1073741824)(h:DI x=false):Dj n x=some ([],90):=by
 unfold Dj
 rw[Ls x hr hk hb hc,Y,h]
 rfl
/-! ### Reading -/
theorem Wz{a b:List UInt8}{sh:Bool}{k:Int}(hk:k=(a.length:Int)):Dd ⟨a++b,sh⟩ k=some (a,⟨b,sh⟩):=by
 subst hk
 unfold Dd
 have h1:JB (a++b) 0 (a.length:Int)=some (((a++b).drop 0).take (a.length-0)):=Nc rfl rfl zO zS
 have h2:JB (a++b) (a.length:Int) ((a++b).length:Int)=some (((a++b).drop a.length).take ((a++b).length-a.length)):=Nc rfl rfl zS zS
 rw[decide_eq_false (by simp;omega),cond_false]
 dsimp only
 rw[h1,Y,h2,Y]
 simp
theorem ZO{v:UInt64}{w:Nat}{k:Int}{b:List UInt8}{sh:Bool}(hk:k=(w:Int))(hw:w≤8)(hv:v.toNat<2^(8*w)):Bw ⟨BS v w++b,sh⟩ k=some (v,⟨b,sh⟩):=by
 unfold Bw
 rw[Wz (by rw[A2];exact hk),Y]
 simp only[A2]
 rw[if_pos hw]
 congr 2
 apply UInt64.toNat_inj.1
 have:=PQ v w [] hw w (Nat.le_refl _)
 simp only[List.append_nil]at this
 rw[this,Nat.mod_eq_of_lt hv]
theorem YW{v:UInt64}{b:List UInt8}{sh:Bool}(hv:v.toNat<256):Bw ⟨BS v 1++b,sh⟩ 1=some (v,⟨b,sh⟩):=ZO (w:=1) rfl zO hv
theorem cV{v:UInt64}{b:List UInt8}{sh:Bool}(hv:v.toNat<4294967296):Bw ⟨BS v 4++b,sh⟩ 4=some (v,⟨b,sh⟩):=ZO (w:=4) rfl zO hv
theorem rD{v:UInt64}{b:List UInt8}{sh:Bool}:Bw ⟨BS v 8++b,sh⟩ 8=some (v,⟨b,sh⟩):=ZO (w:=8) rfl zO (by have:=v.toNat_lt;omega)
theorem ZK{r:Af}{b:List UInt8}{sh:Bool}(h:r.tag.length≤32):Ee ⟨C5 r++b,sh⟩=some (⟨r.page,r.tag++List.replicate (32-r.tag.length) 0⟩,⟨b,sh⟩):=by
 unfold Ee C5
 rw[List.append_assoc,cV (by have:=r.page.toNat_lt;simp;omega),Y,Wz (by simp;omega),Y]
 simp
theorem VX{r:Af}(h:C6 r=true):(⟨r.page,r.tag++List.replicate (32-r.tag.length) 0⟩:Af)=r:=by
 have:=(Fr h).1
 rw[this]
 simp
theorem F5{k:Nat}(h:k<4294967296):(BK (k:Int)).toNat=k:=by
 simp only[BK,UInt64.toNat_ofNat']
 omega
theorem ae{r:AN}{b:List UInt8}{sh:Bool}(h:r.txt.length≤16):SK ⟨Cx r++b,sh⟩=some (r,⟨b,sh⟩):=by
 unfold SK Cx
 simp only[List.append_assoc]
 rw[rD,Y,cV (by have:=r.x.toNat_lt;simp;omega),Y,cV (by have:=r.y.toNat_lt;simp;omega),Y,
  YW (by rw[F5 zO];omega),Y]
 simp only
 rw[F5 zO,BD zO zO,Wz rfl,Y]
 simp
theorem Rp{n:Nat}{y1:UInt64×Cb}{y9 y10:UInt32}{y11:Int}{l3:List Af}{y16:Af×Cb}{y17:List UInt8}(N:Nat)(hN:N≤4):∀(T S:List AN),S.length+T.length=N→(∀r∈T,r.txt.length≤16)→∀m,T.length<m→
  Kf y1 y9 y10 y11 l3 y16 y17 (I5 (N:Int)) (Qg (N:Int)) m (S.length,⟨(T.map Cx).flatten,false⟩) (⟨(T.map Cx).flatten,false⟩,S)=some (⟨wI (y1.1.toNat:Int),y9,y10,y11,S++T,l3,y16.1.page,y17⟩,⟨[],false⟩)
 | [],S,hl,ht,m,hm=>by
  obtain⟨m,rfl⟩:∃k,m=k+1:=⟨m-1,by omega⟩
  unfold Kf
  rw[LI,show Qg (N:Int) (S.length,⟨(([]:List AN).map Cx).flatten,false⟩)=true by simp only[Qg,decide_eq_true_eq];simp at hl;omega,cond_true]
  unfold Qn ON
  simp
 | r::T,S,hl,ht,m,hm=>by
  obtain⟨m,rfl⟩:∃k,m=k+1:=⟨m-1,by omega⟩
  simp only[List.length_cons]at hl hm
  have ih:=Rp (n:=n) (y1:=y1) (y9:=y9) (y10:=y10) (y11:=y11) (l3:=l3) (y16:=y16) (y17:=y17) N hN T (S++[r]) (by simp;omega) (fun q hq=>ht q (by simp[hq])) m zO
  unfold Kf at ih ⊢
  rw[LI,show Qg (N:Int) (S.length,⟨((r::T).map Cx).flatten,false⟩)=false by simp only[Qg,decide_eq_false_iff_not];omega,cond_false]
  have hst:I5 (N:Int) (S.length,⟨((r::T).map Cx).flatten,false⟩)=some (r,(S.length+1,⟨(T.map Cx).flatten,false⟩)):=by
   unfold I5
   simp only[List.map_cons,List.flatten_cons]
   rw[if_pos zO,ae (ht r zS),Y]
  rw[hst,Y]
  dsimp only
  have body:∀nx,L8 y1 y9 y10 y11 l3 y16 y17 nx r ⟨(T.map Cx).flatten,false⟩ S=nx (⟨(T.map Cx).flatten,false⟩,S++[r]):=fun nx=>by
   unfold L8
   rw[B8 (by simp;omega) (by simp;omega),Y,show((false:Bool)||decide (4<((S++[r]).length:Int)))=false by simp;omega,cond_false]
  rw[body]
  simpa using ih
theorem Vv{y1:UInt64×Cb}{y12 y13 y14:UInt64×Cb}(N:Nat)(hN:N≤4):∀(T S:List Af),S.length+T.length=N→(∀r∈T,C6 r=true)→∀m,T.length<m→
  Mz y1 (N:Int) y12 y13 y14 m (⟨(T.map C5).flatten,false⟩,S,(S.length:Int))=some (⟨wI (y1.1.toNat:Int),y13.1.toUInt32,y14.1.toUInt32,wI (y12.1.toNat:Int),[],S++T,0,[]⟩,⟨[],false⟩)
 | [],S,hl,ht,m,hm=>by
  obtain⟨m,rfl⟩:∃k,m=k+1:=⟨m-1,by omega⟩
  simp at hl
  show Iy _ _ _ _ _ (Mz _ _ _ _ _ m) _ _ _=_
  unfold Iy
  dsimp only
  rw[decide_eq_false zO,cond_false]
  unfold Qm
  simp
 | r::T,S,hl,ht,m,hm=>by
  obtain⟨m,rfl⟩:∃k,m=k+1:=⟨m-1,by omega⟩
  simp only[List.length_cons]at hl hm
  have hr:=ht r zS
  have ih:=Vv (y1:=y1) (y12:=y12) (y13:=y13) (y14:=y14) N hN T (S++[r]) (by simp;omega) (fun q hq=>ht q (by simp[hq])) m zO
  show Iy _ _ _ _ _ (Mz _ _ _ _ _ m) _ _ _=_
  unfold Iy
  dsimp only
  rw[decide_eq_true zO,cond_true]
  simp only[List.map_cons,List.flatten_cons]
  rw[ZK (by have:=(Fr hr).1;omega),Y]
  simp only[VX hr]
  rw[B8 (by simp;omega) (by simp;omega),Y,BD zO zO]
  simpa using ih
theorem bc{n:Nat}{x:Bj}(hn:10≤n)(h:DI x=true):I4 n (EC x)=some (x,0):=by
 have key:VK n ⟨EC x,false⟩=some (x,⟨[],false⟩):=by
  unfold VK EC
  by_cases hk:x.kind=1
  obtain⟨h1,h2,h3,h4,h5,h6,h7⟩:=JU h hk
  rw[YW (by rw[hk];decide),Y,show decide (x.kind=2)=false by rw[hk];rfl,cond_false,YW (by rw[F5 zO];omega),Y,A7]
  simp only
  have e1:wI ((BK x.kind).toNat:Int)=1:=by rw[hk];rfl
  rw[e1,show decide ((1:Int)=2)=false from rfl,cond_false,F5 zO,BD zO zO]
  unfold Qv
  have hx:(⟨1,0,0,0,x.rows,[],x.npage,x.ntag⟩:Bj)=x:=by
   cases x
   simp only at h1 h2 h3 h4 hk
   rw[h1,h2,h3,h4,hk]
  rcases h7 with h7 | h7
  rw[ZK (by simp only;rw[h7.2];simp),Y,kz,Y]
  have hcond:(decide (x.npage=0)&&(decide (x.ntag++List.replicate (32-x.ntag.length) 0=List.replicate 32 0)&&true))=true:=by rw[h7.1,h7.2];rfl
  dsimp only
  rw[hcond,cond_true]
  unfold Mp Rm
  rw[if_pos zO,Y]
  have:=Rp (n:=n) (y1:=(BK x.kind,⟨BS (BK (x.rows.length:Int)) 1++(C5 ⟨x.npage,x.ntag⟩++(x.rows.map Cx).flatten),false⟩)) (y9:=0) (y10:=0) (y11:=0) (l3:=[]) (y16:=(⟨x.npage,x.ntag++List.replicate (32-x.ntag.length) 0⟩,⟨(x.rows.map Cx).flatten,false⟩)) (y17:=[]) x.rows.length h5 x.rows [] zS (MI h6) n zO
  rw[h7.2]at hx
  simp only[e1,List.nil_append,List.length_nil,hx]at this
  exact this
  have h32:=(Fr h7).1
  have h2':=(Fr h7).2
  simp only at h32 h2'
  rw[ZK (by simp only;omega),Y,kz,Y]
  have ht:=VX h7
  simp only[Af.mk.injEq,true_and]at ht
  simp only[ht]
  have h0:decide (x.npage=0)=false:=by
   rw[decide_eq_false_iff_not]
   intro e
   rw[e]at h2'
   simp at h2'
  rw[h0,Bool.false_and,cond_false]
  unfold Mp Rm
  rw[if_pos zO,Y]
  have:=Rp (n:=n) (y1:=(BK x.kind,⟨BS (BK (x.rows.length:Int)) 1++(C5 ⟨x.npage,x.ntag⟩++(x.rows.map Cx).flatten),false⟩)) (y9:=0) (y10:=0) (y11:=0) (l3:=[]) (y16:=(⟨x.npage,x.ntag⟩,⟨(x.rows.map Cx).flatten,false⟩)) (y17:=x.ntag) x.rows.length h5 x.rows [] zS (MI h6) n zO
  simp only[e1,List.nil_append,List.length_nil,hx]at this ⊢
  exact this
  obtain⟨hk2,h1,h2,h3,h4,h5,h6,h7,h8⟩:=IK h hk
  have hlev:x.lev≤31:=by
   unfold Hj at h7
   cases hc:decide (x.lev<0)||decide (31<x.lev)with
   | true=>simp only[hc,cond_true]at h7;cases h7
   | false=>
    simp only[Bool.or_eq_false_iff,decide_eq_false_iff_not]at hc
    omega
  obtain⟨L,hL⟩:∃L:Nat,x.lev=(L:Int):=⟨x.lev.toNat,by omega⟩
  rw[YW (by rw[hk2];decide),Y,show decide (x.kind=2)=true by rw[hk2];rfl,cond_true,YW (by rw[F5 zO];omega),Y,A7]
  simp only
  have e1:wI ((BK x.kind).toNat:Int)=2:=by rw[hk2];rfl
  rw[e1,show decide ((2:Int)=2)=true from rfl,cond_true,YW (by rw[hL,F5 zO];omega),Y,cV (by have:=x.cx.toNat_lt;simp;omega),Y,cV (by have:=x.cy.toNat_lt;simp;omega),Y,F5 zO,BD zO zO]
  have:=Vv (y1:=(BK x.kind,⟨BS (BK (x.kids.length:Int)) 1++(BS (BK x.lev) 1++(BS x.cx.toUInt64 4++(BS x.cy.toUInt64 4++(x.kids.map C5).flatten))),false⟩)) (y12:=(BK x.lev,⟨BS x.cx.toUInt64 4++(BS x.cy.toUInt64 4++(x.kids.map C5).flatten),false⟩)) (y13:=(x.cx.toUInt64,⟨BS x.cy.toUInt64 4++(x.kids.map C5).flatten,false⟩)) (y14:=(x.cy.toUInt64,⟨(x.kids.map C5).flatten,false⟩)) x.kids.length h6 x.kids [] zS h1 n zO
  have hx:(⟨2,x.cx,x.cy,x.lev,[],x.kids,0,[]⟩:Bj)=x:=by
   cases x
   simp only at h2 h3 h4 hk2
   rw[h2,h3,h4,hk2]
  have e2:wI ((BK x.lev).toNat:Int)=x.lev:=by rw[hL,F5 zO,BD zO zO]
  simp only[e1,e2,List.nil_append,List.length_nil,UInt32.toUInt32_toUInt64,hx]at this ⊢
  exact this
 unfold I4
 rw[key,Y]
 have hl:x.rows.length≤4∧x.kids.length≤4:=by
  by_cases hk:x.kind=1
  obtain⟨h1,h2,h3,h4,h5,h6,h7⟩:=JU h hk
  rw[h4]
  exact⟨h5,by simp⟩
  obtain⟨hk2,h1,h2,h3,h4,h5,h6,h7,h8⟩:=IK h hk
  rw[h2]
  exact⟨by simp,h6⟩
 rw[Ls x zO zO zO zO,Y,h]
 rfl
end

/- Plain laws of cells and of the least cell around rows. No program in sight. Condition: rounds enough. -/
section
/-! ### How many bits a number has -/
def bl(n:Nat):Nat:=if n=0 then 0 else Nat.log2 n+1
theorem dh(n:Nat):n<2^bl n:=by
 unfold bl
 split
 rename_i h;subst h;simp
 exact Nat.lt_log2_self
theorem ZH{n k:Nat}(h:n<2^k):bl n≤k:=by
 unfold bl
 split
 omega
 rename_i h0
 exact(Nat.log2_lt h0).2 h
theorem kJ{n:Nat}(h:0<bl n):2^(bl n-1)≤n:=by
 rcases Nat.lt_or_ge n (2^(bl n-1))with h1 | h1
 have:=ZH h1
 omega
 exact h1
theorem kB{n L:Nat}(h1:n<2^L)(h2:L=0∨2^(L-1)≤n):bl n=L:=by
 have a:=ZH h1
 rcases h2 with h2 | h2
 omega
 rcases Nat.lt_or_ge (bl n) L with h | h
 have h3:2^bl n≤2^(L-1):=Nat.pow_le_pow_right zD zO
 have h4:=dh n
 omega
 omega
theorem XW{n k:Nat}(h:2^k≤n):bl n=k+bl (n / 2^k):=by
 have hp:=Nat.two_pow_pos k
 have h0:0<n / 2^k:=Nat.div_pos h hp
 have hb:0<bl (n / 2^k):=by
  unfold bl
  rw[if_neg zO]
  omega
 refine kB ?_ (.inr ?_)
 rw[Nat.pow_add]
 have:=dh (n / 2^k)
 rw[Nat.mul_comm]
 exact(Nat.div_lt_iff_lt_mul hp).1 this
 have:=kJ hb
 rw[show k+bl (n / 2^k)-1=k+(bl (n / 2^k)-1) by omega,Nat.pow_add]
 calc 2^k*2^(bl (n / 2^k)-1)≤2^k*(n / 2^k):=Nat.mul_le_mul_left _ this
  _≤n:=Nat.mul_div_le _ _
def fP:List UInt8:=[0,1,2,2,3,3,3,3,4,4,4,4,4,4,4,4,5,5,5,5,5,5,5,5,5,5,5,5,5,5,5,5]++List.replicate 32 6++List.replicate 64 7++List.replicate 128 8
theorem mZ:∀b:Fin 256,fP[b.val]? = some (UInt8.ofNat (bl b.val)):=by decide +kernel
theorem gI(a:UInt32)(ha:a.toNat<256)(k:Nat)(hk:k≤24):My a (k:Int)=some ((k+bl a.toNat:Nat):Int):=by
 have hb:a.toUInt8.toNat=a.toNat:=by
  rw[UInt32.toNat_toUInt8]
  omega
 have h8:bl a.toNat≤8:=ZH zO
 unfold My
 have ht:Aq fP (a.toUInt8.toNat:Int)=some (UInt8.ofNat (bl a.toNat)):=by
  rw[JY,hb]
  exact mZ ⟨a.toNat,ha⟩
 refine(congrArg (fun x=>Option.bind x _) (show Aq _ _=some (UInt8.ofNat (bl a.toNat))from ht)).trans ?_
 rw[Y,A7]
 have:(UInt8.ofNat (bl a.toNat)).toNat=bl a.toNat:=by simp;omega
 rw[this,BD zO zO]
 rfl
theorem VQ(n:UInt32)(k:Nat)(h:k≤32):(shr32 n k).toNat=n.toNat / 2^k:=by
 have h1:=n.toNat_lt
 simp only[shr32,UInt32.toNat_ofNat',Nat.min_eq_left h]
 exact Nat.mod_eq_of_lt (Nat.lt_of_le_of_lt (Nat.div_le_self _ _) h1)
theorem gL(a:UInt32)(ha:a.toNat<65536)(k:Nat)(hk:k≤16):Mr a (k:Int)=some ((k+bl a.toNat:Nat):Int):=by
 unfold Mr
 by_cases h:256≤a.toNat
 rw[decide_eq_true (show(256:UInt32)≤a by rw[UInt32.le_iff_toNat_le];exact h),cond_true,A7,A7,BD zO zO]
 have hs:=VQ a 8 zD
 have:=gI (shr32 a 8) (by rw[hs];omega) (k+8) zO
 rw[show(k:Int)+8=((k+8:Nat):Int) by omega,this,hs]
 have hb:=XW (n:=a.toNat) (k:=8) zO
 congr 2
 omega
 rw[decide_eq_false (show ¬(256:UInt32)≤a by rw[UInt32.le_iff_toNat_le];exact h),cond_false]
 exact gI a zO k zO
theorem iK(a:UInt32):Vp a=some ((bl a.toNat:Nat):Int):=by
 have h32:=a.toNat_lt
 unfold Vp
 by_cases h:65536≤a.toNat
 rw[decide_eq_true (show(65536:UInt32)≤a by rw[UInt32.le_iff_toNat_le];exact h),cond_true,A7]
 have hs:=VQ a 16 zD
 have:=gL (shr32 a 16) (by rw[hs];omega) 16 zO
 rw[show((16:Nat):Int)=16 from rfl]at this
 rw[this,hs]
 have hb:=XW (n:=a.toNat) (k:=16) zO
 congr 2
 omega
 rw[decide_eq_false (show ¬(65536:UInt32)≤a by rw[UInt32.le_iff_toNat_le];exact h),cond_false]
 have:=gL a zO 0 zO
 rw[show((0:Nat):Int)=0 from rfl,Nat.zero_add]at this
 exact this
/-! ### Low bits -/
theorem UY{a b L:Nat}:a ^^^ b<2^L↔a / 2^L=b / 2^L:=by
 constructor
 intro h
 have h1:(a ^^^ b) / 2^L=0:=Nat.div_eq_of_lt h
 have h2:(a / 2^L) ^^^ (b / 2^L)=0:=by rw[←Nat.xor_div_two_pow];exact h1
 calc a / 2^L=a / 2^L ^^^ (b / 2^L ^^^ b / 2^L):=by rw[Nat.xor_self,Nat.xor_zero]
  _=b / 2^L:=by rw[←Nat.xor_assoc,h2,Nat.zero_xor]
 intro h
 have h2:(a ^^^ b) / 2^L=0:=by rw[Nat.xor_div_two_pow,h,Nat.xor_self]
 exact(Nat.div_eq_zero_iff_lt (Nat.two_pow_pos L)).1 h2
theorem eZ{a b L:Nat}:a ||| b<2^L↔a<2^L∧b<2^L:=by
 constructor
 intro h
 exact⟨Nat.lt_of_le_of_lt Nat.left_le_or h,Nat.lt_of_le_of_lt Nat.right_le_or h⟩
 intro h
 exact Nat.or_lt_two_pow h.1 h.2
theorem dF{L:Nat}(h:L≤31):(shl32 1 L).toNat=2^L:=by
 simp only[shl32,UInt32.toNat_ofNat',Nat.min_eq_left (show L≤32 by omega)]
 have:2^L≤2^31:=Nat.pow_le_pow_right zD h
 rw[show(1:UInt32).toNat=1 from rfl,Nat.one_mul]
 exact Nat.mod_eq_of_lt (Nat.lt_of_le_of_lt this zD)
theorem oe{L:Nat}(h:L≤31):(shl32 1 L-1).toNat=2^L-1:=by
 have h1:=dF h
 have h2:=Nat.two_pow_pos L
 have h3:2^L≤2^31:=Nat.pow_le_pow_right zD h
 rw[UInt32.toNat_sub_of_le _ _ (by rw[UInt32.le_iff_toNat_le,h1];exact h2),h1]
 rfl
theorem gr{a L:Nat}(hL:L≤32)(ha:a<2^32):a &&& (2^32-2^L)=a / 2^L*2^L:=by
 apply Nat.eq_of_testBit_eq
 intro i
 have hp:=Nat.two_pow_pos L
 have hx:2^L-1<2^32:=by
  have:2^L≤2^32:=Nat.pow_le_pow_right zD hL
  omega
 rw[Nat.testBit_and,show 2^32-2^L=2^32-((2^L-1)+1) by rw[Nat.sub_add_cancel hp],Nat.testBit_two_pow_sub_succ hx,Nat.testBit_two_pow_sub_one,Nat.testBit_mul_two_pow,Nat.testBit_div_two_pow]
 by_cases h1:i<L
 rw[decide_eq_true h1,decide_eq_false (show ¬L≤i by omega)]
 simp
 rw[decide_eq_false h1,decide_eq_true (show L≤i by omega),Nat.sub_add_cancel zO]
 by_cases h2:i<32
 rw[decide_eq_true h2];simp
 rw[Nat.testBit_lt_two_pow (Nat.lt_of_lt_of_le ha (Nat.pow_le_pow_right zD zO))]
 simp
theorem Q1(a:UInt32){L:Nat}(h:L≤31):(a &&& ~~~(shl32 1 L-1)).toNat=a.toNat / 2^L*2^L:=by
 have h1:=oe h
 have h2:=Nat.two_pow_pos L
 rw[UInt32.toNat_and,UInt32.toNat_not,h1,show UInt32.size-1-(2^L-1)=2^32-2^L by
  show 4294967296-1-(2^L-1)=4294967296-2^L
  omega]
 exact gr zO a.toNat_lt
theorem WL(x y:UInt32){L:Nat}(h:L≤31):HB x y (L:Int)=some ⟨x &&& ~~~(shl32 1 L-1),y &&& ~~~(shl32 1 L-1),L⟩:=by
 unfold HB QB
 rw[if_pos zO,Y,A7]
 rfl
/-! ### The least cell of two points -/
theorem gp{x y u v:UInt32}(hx:x.toNat<2147483648)(hy:y.toNat<2147483648)(hu:u.toNat<2147483648)(hv:v.toNat<2147483648):
  ∃L:Nat,L≤31∧J3 x y u v=some (⟨x &&& ~~~(shl32 1 L-1),y &&& ~~~(shl32 1 L-1),L⟩,0)∧x.toNat / 2^L=u.toNat / 2^L∧y.toNat / 2^L=v.toNat / 2^L∧
   (0<L→x.toNat / 2^(L-1)≠u.toNat / 2^(L-1)∨y.toNat / 2^(L-1)≠v.toNat / 2^(L-1)):=by
 have hn:((x ^^^ u) ||| (y ^^^ v)).toNat=(x.toNat ^^^ u.toNat) ||| (y.toNat ^^^ v.toNat):=by rw[UInt32.toNat_or,UInt32.toNat_xor,UInt32.toNat_xor]
 have hk:∀L,((x ^^^ u) ||| (y ^^^ v)).toNat<2^L↔x.toNat / 2^L=u.toNat / 2^L∧y.toNat / 2^L=v.toNat / 2^L:=fun L=>by
  rw[hn,eZ,UY,UY]
 have h31:((x ^^^ u) ||| (y ^^^ v)).toNat<2^31:=(hk 31).2 ⟨by omega,by omega⟩
 have hL:=ZH h31
 obtain⟨e1,e2⟩:=(hk _).1 (dh ((x ^^^ u) ||| (y ^^^ v)).toNat)
 refine⟨bl ((x ^^^ u) ||| (y ^^^ v)).toNat,hL,?_,e1,e2,fun h0=>?_⟩
 unfold J3
 have hm:decide (2147483648≤max (max (max x y) u) v)=false:=by
  rw[decide_eq_false_iff_not,UInt32.le_iff_toNat_le,Hz,Hz,Hz]
  show ¬(2147483648≤_)
  omega
 rw[hm,cond_false,iK,Y,WL x y hL,Y,WL u v hL,Y]
 have ex:x &&& ~~~(shl32 1 (bl ((x ^^^ u) ||| (y ^^^ v)).toNat)-1)=u &&& ~~~(shl32 1 (bl ((x ^^^ u) ||| (y ^^^ v)).toNat)-1):=UInt32.toNat_inj.1 (by rw[Q1 x hL,Q1 u hL,e1])
 have ey:y &&& ~~~(shl32 1 (bl ((x ^^^ u) ||| (y ^^^ v)).toNat)-1)=v &&& ~~~(shl32 1 (bl ((x ^^^ u) ||| (y ^^^ v)).toNat)-1):=UInt32.toNat_inj.1 (by rw[Q1 y hL,Q1 v hL,e2])
 simp only[ex,ey,decide_true,Bool.and_self,Bool.not_true,cond_false]
 have hge:=kJ h0
 have:¬((x ^^^ u) ||| (y ^^^ v)).toNat<2^(bl ((x ^^^ u) ||| (y ^^^ v)).toNat-1):=by omega
 rw[hk]at this
 exact Classical.not_and_iff_not_or_not.1 this
end
end Go.Proofs.YtkibffdipniemaaGreatDoor
