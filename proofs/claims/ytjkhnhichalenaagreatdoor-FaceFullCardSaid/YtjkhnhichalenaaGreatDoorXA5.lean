/- The texts GG36, FD1, FD2, FD3, FP3, S30, FP4, FJ0, FW0, FP5, FP2, FB0, FB1, FP6, FL1a, FL1, FL2, FP7, S26, S27, S28, one behind the other: walks of the program, and plain laws of what it computes. Conditions: as each theorem says. -/
import Derived.Test.YtjkhnhichalenaaGreatDoorXA1
import Derived.Test.YtjkhnhichalenaaGreatDoorXA2
import Derived.Test.YtjkhnhichalenaaGreatDoorXA3
import Derived.Test.YtjkhnhichalenaaGreatDoorXA4

set_option linter.unusedVariables false
set_option linter.unusedSimpArgs false
set_option maxHeartbeats 4000000
set_option maxRecDepth 100000
namespace Go.Proofs.YtjkhnhichalenaaGreatDoor
open Go
section
variable {K:Nat→Prop}{w0:World}{H:List AX}
def Ip(p0:Az)(p1:UInt32):Option Bool:=
 ret (decide (p1.toUInt64<Cn (p0.blk.length:Int))) fun x1=>
 some x1
theorem TX{Ar:Nat}{As Ac Ay:Value}{p0:Az}{p1:UInt32}{r:Bool}(h:Ip p0 p1=some r): zC K w0 222 [vP Ar 0,AA p1] [AL Ar (.cells #[As,Ac,Ay,AV p0.rcnt,vS p0.rtag,AA p0.rboots,vI p0.left,vB p0.off] 107),AD 9 1 As eS p0.blk,AD 9 1 Ac eS p0.pnd,AD 4 1 Ay eB p0.bads] H (fun u M=>u=vB r∧M=[AL Ar (.cells #[As,Ac,Ay,AV p0.rcnt,vS p0.rtag,AA p0.rboots,vI p0.left,vB p0.off] 107),AD 9 1 As eS p0.blk,AD 9 1 Ac eS p0.pnd,AD 4 1 Ay eB p0.bads]):=by
 unfold Ip at h
 refine TP.enter Tryz.func222 rfl rfl ?_
 refine Y (U E (V (Y ?_)))
 obtain⟨x1,ex1,h⟩:=Bu h
 refine J E (BB E E (Cl CJ DJ) (J E (AT E E (AF E P8 (AG 0 PX E (Dh 1 E EY E E (BB E E (Er IZ DJ) ?_)))))))
 refine Z E YY ?_
 refine Al (u:=vB x1) E E (congrArg vB ex1) ?_
 refine V (AK ?_)
 obtain rfl:=zI h
 exact AW [0,1,2,3] 4 E E E
def G8(o2:Az):Option (Int×Az):=
 some (0,o2)
def FO(o1:Az):Option (Int×Az):=
 cond o1.off
 (
  some (71,o1))
 (
  cond (decide (0<o1.left))
  (
   G8 ({ o1 with left:=wI (o1.left-1) }))
  (
   G8 o1))
def Dd(p0:Az):Option (Int×Az):=
 cond (decide (p0.left=0))
 (
  FO ({ p0 with off:=true }))
 (
  FO p0)
theorem Ie{Ar:Nat}{As Ac Ay:Value}{p0:Az}{r:Int×Az}(h:Dd p0=some r): zC K w0 70 [vP Ar 0] [AL Ar (.cells #[As,Ac,Ay,AV p0.rcnt,vS p0.rtag,AA p0.rboots,vI p0.left,vB p0.off] 107),AD 9 1 As eS p0.blk,AD 9 1 Ac eS p0.pnd,AD 4 1 Ay eB p0.bads] H (fun u M=>u=vI r.1∧M=[AL Ar (.cells #[As,Ac,Ay,AV r.2.rcnt,vS r.2.rtag,AA r.2.rboots,vI r.2.left,vB r.2.off] 107),AD 9 1 As eS r.2.blk,AD 9 1 Ac eS r.2.pnd,AD 4 1 Ay eB r.2.bads]):=by
 unfold Dd at h
 refine TP.enter Tryz.func70 rfl rfl ?_
 refine Y (U E (V ?_))
 refine A6 (α:=Az) (fun x=>FO x=some r) (fun x=>[(0,vP Ar 0)]) (fun x=>AL Ar (.cells #[As,Ac,Ay,AV x.rcnt,vS x.rtag,AA x.rboots,vI x.left,vB x.off] 107)::AD 9 1 As eS x.blk::AD 9 1 Ac eS x.pnd::AD 4 1 Ay eB x.bads::H) ?_ (fun o1 D h=>?_)
 refine Y (J E (AT E E (AF E Ub (AG 0 FG E (Z E Bj (V ?_))))))
 refine AN h E (fun hc1 h=>?_) fun hc1 h=>?_
 refine AQ (J E (AT E E (AF E cR (A2 0 E E E E RO E E E zT (AZ ?_)))))
 exact Ap ({ p0 with off:=true }) h tL (BM [0,1,2,3] 4 rfl rfl rfl)
 refine AJ ?_
 exact Ap p0 h tL (BM [0,1,2,3] 4 E E E)
 unfold FO at h
 try dsimp only
 refine AH (Y (J E (AT E E (AF E cR (AG 0 VT E (V ?_))))))
 refine AN h E (fun hc2 h=>?_) fun hc2 h=>?_
 refine Y (U E (V (AK (Ab ?_))))
 obtain rfl:=zI h
 exact AW [0,1,2,3] 4 E E E
 refine AJ (AI ?_)
 refine A6 (α:=Az) (fun x=>G8 x=some r) (fun x=>[(0,vP Ar 0)]) (fun x=>AL Ar (.cells #[As,Ac,Ay,AV x.rcnt,vS x.rtag,AA x.rboots,vI x.left,vB x.off] 107)::AD 9 1 As eS x.blk::AD 9 1 Ac eS x.pnd::AD 4 1 Ay eB x.bads::H) ?_ (fun o2 D h=>?_)
 refine Y (J E (AT E E (AF E Ub (AG 0 FG E (Z E Ci (V ?_))))))
 refine AN h E (fun hc3 h=>?_) fun hc3 h=>?_
 refine AQ (J E (AT E E (AF E Ub (AG 0 FG E (Z E DZ (AT E E (AF E Ub (A2 0 E E E E O5 E E E zT (AZ ?_)))))))))
 exact Ap ({ o1 with left:=wI (o1.left-1) }) h tL (BM [0,1,2,3] 4 rfl rfl rfl)
 refine AJ ?_
 exact Ap o1 h tL (BM [0,1,2,3] 4 E E E)
 unfold G8 at h
 try dsimp only
 refine Y (U E (V (AK ?_)))
 obtain rfl:=zI h
 exact AW [0,1,2,3] 4 E E E
def Fa(y2:Int×Az)(o1:Az):Option (Int×Az):=
 some (y2.1,o1)
def Ea(p0:Az)(p1:UInt32)(p2:List UInt8):Option (Int×Az):=
 (Ip p0 p1).bind fun y1=>
 cond ((!y1)||(!decide ((p2.length:Int)=256)))
 (
  some (2,p0))
 (
  (Dd p0).bind fun y2=>
  cond (decide (y2.1=0))
  (
   (BA y2.2.pnd (p1.toNat:Int)).bind fun x1=>
   (Np y2.2.pnd (p1.toNat:Int) p2).bind fun l1=>
   Fa y2 ({ y2.2 with pnd:=l1 }))
  (
   Fa y2 y2.2))
theorem RK{Ar:Nat}{As Ac Ay:Value}{p0:Az}{p1:UInt32}{p2:List UInt8}{r:Int×Az}(h:Ea p0 p1 p2=some r): zC K w0 180 [vP Ar 0,AA p1,vS p2] [AL Ar (.cells #[As,Ac,Ay,AV p0.rcnt,vS p0.rtag,AA p0.rboots,vI p0.left,vB p0.off] 107),AD 9 1 As eS p0.blk,AD 9 1 Ac eS p0.pnd,AD 4 1 Ay eB p0.bads] H (fun u M=>u=vI r.1∧M=[AL Ar (.cells #[As,Ac,Ay,AV r.2.rcnt,vS r.2.rtag,AA r.2.rboots,vI r.2.left,vB r.2.off] 107),AD 9 1 As eS r.2.blk,AD 9 1 Ac eS r.2.pnd,AD 4 1 Ay eB r.2.bads]):=by
 unfold Ea at h
 refine TP.enter Tryz.func180 rfl rfl ?_
 refine Y (U E (V (AH (Y ?_))))
 refine AE h fun y1 hy1 h=>?_
 refine J E (J E (AS 4 nY (TX hy1) E (CS E E (J E ?_))))
 refine Ee (c := !decide ((p2.length:Int)=256)) 12 4 16 E (fun hb k=>?_) (fun hb k=>?_) ?_
 refine AC E (AC E (AC E (Ah E E E ?_)))
 exact k.mono tL
 refine J E (Bp E Cc E (Z E BJ (Ah E E E ?_)))
 exact k.mono tL
 refine V ?_
 refine AN h E (fun hc1 h=>?_) fun hc1 h=>?_
 refine Y (U E (V (AK (Ab ?_))))
 obtain rfl:=zI h
 exact AW [0,1,2,3] 4 E E E
 refine AJ (AI (Y ?_))
 refine AE h fun y2 hy2 h=>?_
 refine J E (AS 4 Z1 (Ie hy2) E (U E (V ?_)))
 refine A6 (α:=Az) (fun x=>Fa y2 x=some r) (fun x=>[(0,vP Ar 0),(7,vI y2.1)]) (fun x=>AL Ar (.cells #[As,Ac,Ay,AV x.rcnt,vS x.rtag,AA x.rboots,vI x.left,vB x.off] 107)::AD 9 1 As eS x.blk::AD 9 1 Ac eS x.pnd::AD 4 1 Ay eB x.bads::H) ?_ (fun o1 D h=>?_)
 refine Y (J E (Z E Bj (V ?_)))
 refine AN h E (fun hc2 h=>?_) fun hc2 h=>?_
 refine AQ ?_
 refine AE h fun x1 hx1 h=>?_
 refine AE h fun l1 hl1 h=>?_
 refine J E (AT E E (AF E P9 (AG 0 PX E (J E (J E ?_)))))
 refine CG 2 hx1 E EY HA E E E fun g1 m1 cp1 hv1=>?_
 refine F6 (sz:=1) (enc:=eS) 2 hl1 zV rfl rfl rfl rfl rfl hv1 HA (by first | (simp[Value.oneCell'];done) | simp[eS,Value.oneCell']) trivial ?_
 refine AZ ?_
 exact Ap ({ y2.2 with pnd:=l1 }) h tL (BM [0,1,2,3] 4 rfl rfl rfl)
 refine AJ ?_
 exact Ap y2.2 h tL (BM [0,1,2,3] 4 E E E)
 unfold Fa at h
 try dsimp only
 refine Y (J E (U E (V (AK ?_))))
 obtain rfl:=zI h
 exact AW [0,1,2,3] 4 E E E
def Ev(n:Nat)(T:List UInt32)(p0:BX)(p0_1:Az)(p1:UInt32)(p2:List UInt8):Option (List UInt8×Int×BX×Az):=
 (LJ n T p0.ring (⟨p1,p0.gen,p0.boot,p0.num⟩:C3) p2).bind fun y1=>
 cond (!decide (y1.2=0))
 (
  some ([],y1.2,p0,p0_1))
 (
  (Ea p0_1 p1 y1.1).bind fun y2=>
  cond (!decide (y2.1=0))
  (
   some ([],y2.1,{ p0 with num:=p0.num+1 },y2.2))
  (
   (Ku y1.1 224 (y1.1.length:Int)).bind fun s1=>
   some (s1,0,{ p0 with num:=p0.num+1 },y2.2)))
theorem Nj{n Ar BC:Nat}{T:List UInt32}{Ac BV Dj BY Dk:Value}{p0:BX}{p0_1:Az}{p1:UInt32}{p2:List UInt8}{r:List UInt8×Int×BX×Az}(h:Ev n T p0 p0_1 p1 p2=some r)(hT:I0 K w0 2 64 T):zC K w0 141 [vP Ar 0,AA p1,vS p2] [AL Ar (.cells #[vP BC 0,Ac,AA p0.gen,AA p0.boot,AV p0.num,BV] 153),AD 114 2 Ac Aa p0.ring,AD 4 1 BV eB p0.taken,AL BC (.cells #[Dj,BY,Dk,AV p0_1.rcnt,vS p0_1.rtag,AA p0_1.rboots,vI p0_1.left,vB p0_1.off] 107),AD 9 1 Dj eS p0_1.blk,AD 9 1 BY eS p0_1.pnd,AD 4 1 Dk eB p0_1.bads] H (fun u M=>u=.tuple #[vS r.1,vI r.2.1]∧M=[AL Ar (.cells #[vP BC 0,Ac,AA r.2.2.1.gen,AA r.2.2.1.boot,AV r.2.2.1.num,BV] 153),AD 114 2 Ac Aa r.2.2.1.ring,AD 4 1 BV eB r.2.2.1.taken,AL BC (.cells #[Dj,BY,Dk,AV r.2.2.2.rcnt,vS r.2.2.2.rtag,AA r.2.2.2.rboots,vI r.2.2.2.left,vB r.2.2.2.off] 107),AD 9 1 Dj eS r.2.2.2.blk,AD 9 1 BY eS r.2.2.2.pnd,AD 4 1 Dk eB r.2.2.2.bads]):=by
 unfold Ev at h
 refine TP.enter Tryz.func141 rfl rfl ?_
 refine Y (U E (U E (V (AH ?_))))
 refine AE h fun y1 hy1 h=>?_
 refine Aw DC [0] (CF [(true,0),(true,1),(true,2),(true,3),(true,4),(true,5),(true,6),(true,7),(true,8),(true,9),(true,10),(true,11),(true,12),(true,13),(true,14),(true,15),(true,16),(true,17),(true,18),(false,19),(false,20),(true,21),(true,22),(false,23)] (.last 24 .nil)) zK (J E (AT E E (AF E kL (AG 0 kz E (J E (J E (AT E E ?_)))))))
 refine AF E XT (AG 0 A1 E (J E (AT E E (AF E kM (AG 0 A1 E (J E (AT E E ?_)))))))
 refine AF E XU (AG 0 Gy E (B0 [_,_,_,_] E kl ki fE ⟨E,E,E,E,zT⟩ E (J E (SL.pick [1,0] 2 ?_))))
 refine Bd (vs:=[_,_,_]) (Hin:=[_]) (Hr:=_::_::_::_::_::_::_) E E ⟨E,E,E,zT⟩ nC E E (Ch (B:=[_]) (Hin:=[]) fun K' w1 hk hB=>(YL hy1 (hT.keeps hk) (CL (e:=114) (v:=Ac) zV (hB _ zS)) :)) ?_
 rintro _ _ ⟨_,rfl,rfl,rfl⟩
 refine⟨⟨⟨1,rfl⟩,trivial⟩,?_⟩
 refine J E (Ae E E E (Ae E E E (U E (Bc (U E (V (AH (Y (J E (Z E BJ (V ?_)))))))))))
 refine AN h E (fun hc1 h=>?_) fun hc1 h=>?_
 refine Y (J E (U E (U E (V (AK (Ab ?_))))))
 obtain rfl:=zI h
 exact AW [1,0,2,3,4,5,6] 7 E E E
 refine AJ (AI (Y (J E (AT E E (AF E XU (AG 1 Gy E ?_))))))
 refine Z E (Hm (b:=1)) ?_
 refine AT E E (AF E XU (A2 1 E E E E gb E E E zT (V (Y ?_))))
 refine AE h fun y2 hy2 h=>?_
 refine J E (AT E E (AF E Oq (AG 1 Xy E (J E (J E (SL.pick [3,4,5,6,0,1,2] 7 (AS 4 nD (RK hy2) E ?_)))))))
 refine U E (V (AH (Y (J E (Z E BJ (V ?_))))))
 refine AN h E (fun hc2 h=>?_) fun hc2 h=>?_
 refine Y (J E (U E (U E (V (AK (Ab ?_))))))
 obtain rfl:=zI h
 exact AW [5,4,6,0,1,2,3] 7 E E E
 refine AJ (AI (Y ?_))
 refine AE h fun s1 hs1 h=>?_
 refine J E (jO hs1 E Cc E E (U E (U E (V (AK ?_)))))
 obtain rfl:=zI h
 exact AW [5,4,6,0,1,2,3] 7 E E E
def IE(o1:BX)(o2:Az)(y1:UInt32)(y2:List UInt8):Option (BS×Int×BX×Az):=
 some ((⟨0,[]⟩:BS),110,o1,o2)
def EP(n:Nat)(T:List UInt32)(p1:List UInt8)(nx_f_ref13_Vault_Write_l1:BX×Az×UInt32×List UInt8×Int→Option (BS×Int×BX×Az))(o3:BX)(o4:Az)(y3:UInt32)(y4:List UInt8)(a1:Int):Option (BS×Int×BX×Az):=
 cond (decide (a1<(o3.taken.length:Int)))
 (
  (BA o3.taken a1).bind fun x1=>
  cond x1
  (
   ret (wI (a1+1)) fun p_1=>
   nx_f_ref13_Vault_Write_l1 (o3,o4,y3,y4,p_1))
  (
   (Ev n T o3 o4 (EL a1) p1).bind fun y5=>
   cond (!decide (y5.2.1=0))
   (
    some ((⟨0,[]⟩:BS),y5.2.1,y5.2.2.1,y5.2.2.2))
   (
    (BA y5.2.2.1.taken a1).bind fun x2=>
    (Np y5.2.2.1.taken a1 true).bind fun l1=>
    some ((⟨EL a1,y5.1⟩:BS),0,{ y5.2.2.1 with taken:=l1 },y5.2.2.2))))
 (
  IE o3 o4 y3 y4)
def Fu(n:Nat)(T:List UInt32)(p1:List UInt8):Nat→(BX×Az×UInt32×List UInt8×Int)→Option (BS×Int×BX×Az):=CE fun nx x=>EP n T p1 nx x.1 x.2.1 x.2.2.1 x.2.2.2.1 x.2.2.2.2
def Fj(n:Nat)(T:List UInt32)(p0:BX)(p0_1:Az)(p1:List UInt8):Option (BS×Int×BX×Az):=
 cond (decide (198<(p1.length:Int)))
 (
  some ((⟨0,[]⟩:BS),50,p0,p0_1))
 (
  Fu n T p1 n (p0,p0_1,0,[],2))
theorem Rh{n Ar BC:Nat}{T:List UInt32}{Ac BV Dj BY Dk:Value}{p0:BX}{p0_1:Az}{p1:List UInt8}{r:BS×Int×BX×Az}(h:Fj n T p0 p0_1 p1=some r)(hT:I0 K w0 2 64 T):zC K w0 177 [vP Ar 0,vS p1] [AL Ar (.cells #[vP BC 0,Ac,AA p0.gen,AA p0.boot,AV p0.num,BV] 153),AD 114 2 Ac Aa p0.ring,AD 4 1 BV eB p0.taken,AL BC (.cells #[Dj,BY,Dk,AV p0_1.rcnt,vS p0_1.rtag,AA p0_1.rboots,vI p0_1.left,vB p0_1.off] 107),AD 9 1 Dj eS p0_1.blk,AD 9 1 BY eS p0_1.pnd,AD 4 1 Dk eB p0_1.bads] H (fun u M=>u=.tuple #[.agg (Bt r.1).toArray,vI r.2.1]∧M=[AL Ar (.cells #[vP BC 0,Ac,AA r.2.2.1.gen,AA r.2.2.1.boot,AV r.2.2.1.num,BV] 153),AD 114 2 Ac Aa r.2.2.1.ring,AD 4 1 BV eB r.2.2.1.taken,AL BC (.cells #[Dj,BY,Dk,AV r.2.2.2.rcnt,vS r.2.2.2.rtag,AA r.2.2.2.rboots,vI r.2.2.2.left,vB r.2.2.2.off] 107),AD 9 1 Dj eS r.2.2.2.blk,AD 9 1 BY eS r.2.2.2.pnd,AD 4 1 Dk eB r.2.2.2.bads]):=by
 unfold Fj at h
 refine TP.enter Tryz.func177 rfl rfl ?_
 refine Y ?_
 refine Ak E FB zU fun b1=>?_
 refine U E (V (AH (Y (J E (Bp E Cc E (Z E Ci (V ?_)))))))
 refine AN h E (fun hc1 h=>?_) fun hc1 h=>?_
 refine Y (B0 [] E N3 N2 FB zT E (A2 0 E E E E EX E E E zT (U E (V (AK (Ab ?_))))))
 obtain rfl:=zI h
 exact Ag (D7 E (B8 0 (Bt (⟨0,[]⟩:BS)) C5 E E E E) E) (Af (M:=[_,_,_,_,_,_,_]) ⟨E,E⟩ fun _ hw=>BT.pick (H:=[_,_,_,_,_,_,_,_]) hw [1,2,3,4,5,6,7] 8 E)
 refine AJ (AI ?_)
 refine A6 (α:=BX×Az×UInt32×List UInt8) (fun x=>IE x.1 x.2.1 x.2.2.1 x.2.2.2=some r) (fun x=>[(0,vP Ar 0),(4,vP b1 0)]) (fun x=>AL Ar (.cells #[vP BC 0,Ac,AA x.1.gen,AA x.1.boot,AV x.1.num,BV] 153)::AL BC (.cells #[Dj,BY,Dk,AV x.2.1.rcnt,vS x.2.1.rtag,AA x.2.1.rboots,vI x.2.1.left,vB x.2.1.off] 107)::AD 9 1 Dj eS x.2.1.blk::AD 9 1 BY eS x.2.1.pnd::AD 4 1 Dk eB x.2.1.bads::AD 114 2 Ac Aa x.1.ring::AD 4 1 BV eB x.1.taken::AL b1 (.cells #[AA x.2.2.1,vS x.2.2.2] 188)::H) ?_ (fun x D h=>?_)
 refine Y (U E (V (AP ?_)))
 refine SX.heap (SX.mono (BG (α:=Nat×BX×Az×UInt32×List UInt8×Int) (fun x=>Fu n T p1 x.1 (x.2.1,x.2.2.1,x.2.2.2.1,x.2.2.2.2.1,x.2.2.2.2.2)=some r) (fun x=>[(0,vP Ar 0),(1,vS p1),(4,vP b1 0),(6,vI x.2.2.2.2.2)]) (fun x=>AL Ar (.cells #[vP BC 0,Ac,AA x.2.1.gen,AA x.2.1.boot,AV x.2.1.num,BV] 153)::AL BC (.cells #[Dj,BY,Dk,AV x.2.2.1.rcnt,vS x.2.2.1.rtag,AA x.2.2.1.rboots,vI x.2.2.1.left,vB x.2.2.1.off] 107)::AD 9 1 Dj eS x.2.2.1.blk::AD 9 1 BY eS x.2.2.1.pnd::AD 4 1 Dk eB x.2.2.1.bads::AD 114 2 Ac Aa x.2.1.ring::AD 4 1 BV eB x.2.1.taken::AL b1 (.cells #[AA x.2.2.2.1,vS x.2.2.2.2.1] 188)::H) (fun x=>x.1) (fun x D h=>?_) (n,p0,p0_1,0,[],2) h) tL) (BM [1,4,5,6,7,2,3,0] 8 E E E)
 obtain⟨m1,o3,o4,y3,y4,a1⟩:=x
 dsimp only at h
 rcases m1 with _ | m1
 cases (show(none:Option _)=some r from h)
 replace h:EP n T p1 (Fu n T p1 m1) o3 o4 y3 y4 a1=some r:=h
 unfold EP at h
 try dsimp only
 refine AH (Y (J E (J E (AT E E (AF E Rx (AG 0 VR E (Dh 6 E SR E E (Z E A4 (V ?_)))))))))
 refine AN h E (fun hc2 h=>?_) fun hc2 h=>?_
 refine AJ (AI (AH (AP (AH (Y ?_)))))
 refine AE h fun x1 hx1 h=>?_
 refine J E (AT E E (AF E Rx (AG 0 VR E (J E ?_))))
 refine CG 6 hx1 E SR RO E E E fun g1 m2 cp1 hv1=>?_
 refine Bq E VT E (B7 (sz:=1) (enc:=eB) 6 0 zV E hv1 hx1 E) ?_
 refine V ?_
 refine AN h E (fun hc3 h=>?_) fun hc3 h=>?_
 refine Ax (A3 (A5 (AI (AQ ?_))))
 obtain⟨p_1,ep_1,h⟩:=Bu h
 refine J E (Z E Bf ?_)
 refine Al (u:=vI p_1) E E (congrArg vI ep_1) ?_
 refine AZ ?_
 exact Au (m1,o3,o4,y3,y4,p_1) h (Nat.lt_succ_self _) tL (BM [0,1,2,3,4,5,6,7] 8 E E E)
 refine AJ (AI (Y ?_))
 refine AE h fun y5 hy5 h=>?_
 refine J E (J E (BB E E (Nc IZ CJ) (J E (SL.pick [0,5,6,1,2,3,4] 7 (AS 7 fh (Nj hy5 hT) E (J E (Ae E E E ?_)))))))
 refine Ae E E E (U E (U E (V (AH (Y (J E (Z E BJ (V ?_))))))))
 refine AN h E (fun hc4 h=>?_) fun hc4 h=>?_
 refine Y (B0 [] E N3 N2 FB zT E (J E (A2 7 E E E E EX E E E zT (U E (V (AK (Ab (A8 (Ab (Dz (A8 (Fq ?_))))))))))))
 obtain rfl:=zI h
 exact Ag (D7 E (B8 7 (Bt (⟨0,[]⟩:BS)) C5 E E E E) E) (Af (M:=[_,_,_,_,_,_,_]) ⟨E,E⟩ fun _ hw=>BT.pick (H:=[_,_,_,_,_,_,_,_]) hw [0,1,2,3,4,5,6] 8 E)
 refine AJ (AI (Y ?_))
 refine AE h fun x2 hx2 h=>?_
 refine AE h fun l1 hl1 h=>?_
 refine J E (AT E E (AF E Rx (AG 0 VR E (J E ?_))))
 refine CG 2 hx2 E SR RO E E E fun g2 m3 cp2 hv2=>?_
 refine F6 (sz:=1) (enc:=eB) 2 hl1 zV rfl rfl rfl rfl rfl hv2 RO (by first | (simp[Value.oneCell'];done) | simp[eB,Value.oneCell']) trivial ?_
 refine V (Y (J E (BB E E (Nc IZ CJ) (J E (B0 [_,_] E N3 N2 FB ⟨E,E,zT⟩ E (A2 7 E E E E EX E E E zT (U E (V (AK (A8 (Ab (Dz (A8 (Fq ?_))))))))))))))
 obtain rfl:=zI h
 exact Ag (D7 E (B8 7 (Bt (⟨EL a1,y5.1⟩:BS)) C5 E E E E) E) (Af (M:=[_,_,_,_,_,_,_]) ⟨E,E⟩ fun _ hw=>BT.pick (H:=[_,_,_,_,_,_,_,_]) hw [0,1,2,3,4,5,6] 8 E)
 refine Ax (A3 (BZ (A5 ?_)))
 exact Ap (o3,o4,y3,y4) h tL (BM [0,1,2,3,4,5,6,7] 8 E E E)
 obtain⟨o1,o2,y1,y2⟩:=x
 dsimp only at h
 unfold IE at h
 try dsimp only
 refine Y (B0 [] E N3 N2 FB zT E (A2 7 E E E E EX E E E zT (U E (V (AK ?_)))))
 obtain rfl:=zI h
 exact Ag (D7 E (B8 7 (Bt (⟨0,[]⟩:BS)) C5 E E E E) E) (Af (M:=[_,_,_,_,_,_,_]) ⟨E,E⟩ fun _ hw=>BT.pick (H:=[_,_,_,_,_,_,_,_]) hw [0,5,6,1,2,3,4] 8 E)
end

section
variable {K:Nat→Prop}{w0:World}{H:List AX}
def G6(a5:UInt64)(a6:Int):Option Int:=
 (BA ([0,1,2,2,3,3,3,3,4,4,4,4,4,4,4,4,5,5,5,5,5,5,5,5,5,5,5,5,5,5,5,5,6,6,6,6,6,6,6,6,6,6,6,6,6,6,6,6,6,6,6,6,6,6,6,6,6,6,6,6,6,6,6,6,7,7,7,7,7,7,7,7,7,7,7,7,7,7,7,7,7,7,7,7,7,7,7,7,7,7,7,7,7,7,7,7,7,7,7,7,7,7,7,7,7,7,7,7,7,7,7,7,7,7,7,7,7,7,7,7,7,7,7,7,7,7,7,7,8,8,8,8,8,8,8,8,8,8,8,8,8,8,8,8,8,8,8,8,8,8,8,8,8,8,8,8,8,8,8,8,8,8,8,8,8,8,8,8,8,8,8,8,8,8,8,8,8,8,8,8,8,8,8,8,8,8,8,8,8,8,8,8,8,8,8,8,8,8,8,8,8,8,8,8,8,8,8,8,8,8,8,8,8,8,8,8,8,8,8,8,8,8,8,8,8,8,8,8,8,8,8,8,8,8,8,8,8,8,8,8,8,8,8,8,8,8,8,8,8,8,8,8,8,8,8,8]:List UInt8) (a5.toUInt8.toNat:Int)).bind fun c1=>
 ret (wI (a6+(c1.toNat:Int))) fun x6=>
 some x6
def G5(a3:UInt64)(a4:Int):Option Int:=
 cond (decide (256≤a3))
 (
  ret (shr64 a3 8) fun x4=>
  ret (wI (a4+8)) fun x5=>
  G6 x4 x5)
 (
  G6 a3 a4)
def G4(a1:UInt64)(a2:Int):Option Int:=
 cond (decide (65536≤a1))
 (
  ret (shr64 a1 16) fun x2=>
  ret (wI (a2+16)) fun x3=>
  G5 x2 x3)
 (
  G5 a1 a2)
def Lv(p0:UInt64):Option Int:=
 cond (decide (4294967296≤p0))
 (
  ret (shr64 p0 32) fun x1=>
  G4 x1 32)
 (
  G4 p0 0)
theorem TW{p0:UInt64}{r:Int}(h:Lv p0=some r): zC K w0 254 [AV p0] [] H (fun u M=>u=vI r∧M=[]):=by
 unfold Lv at h
 refine TP.enter Tryz.func254 rfl rfl ?_
 refine Y (U E (V ?_))
 refine A6 (α:=UInt64×Int) (fun x=>G4 x.1 x.2=some r) (fun x=>[(0,AV x.1),(2,vI x.2)]) (fun x=>H) ?_ (fun x D h=>?_)
 refine Y (J E ?_)
 refine Z E (Pr (b:=4294967296)) ?_
 refine V ?_
 refine AN h E (fun hc1 h=>?_) fun hc1 h=>?_
 refine Y ?_
 obtain⟨x1,ex1,h⟩:=Bu h
 refine J E ?_
 refine Z E (FL.shr64 (n:=32)) ?_
 refine Al (u:=AV x1) E E (congrArg AV ex1) ?_
 refine V (AQ (U E (AZ ?_)))
 exact Ap (x1,32) h tL (BM [] 0 E E E)
 refine AJ ?_
 exact Ap (p0,0) h tL (BM [] 0 E E E)
 obtain⟨a1,a2⟩:=x
 dsimp only at h
 unfold G4 at h
 try dsimp only
 refine A6 (α:=UInt64×Int) (fun x=>G5 x.1 x.2=some r) (fun x=>[(0,AV x.1),(2,vI x.2)]) (fun x=>H) ?_ (fun x D h=>?_)
 refine Y (J E ?_)
 refine Z E (Pr (b:=65536)) ?_
 refine V ?_
 refine AN h E (fun hc2 h=>?_) fun hc2 h=>?_
 refine Y ?_
 obtain⟨x2,ex2,h⟩:=Bu h
 refine J E ?_
 refine Z E (FL.shr64 (n:=16)) ?_
 refine Al (u:=AV x2) E E (congrArg AV ex2) ?_
 refine V (AQ ?_)
 obtain⟨x3,ex3,h⟩:=Bu h
 refine J E (Z E Bf ?_)
 refine Al (u:=vI x3) E E (congrArg vI ex3) ?_
 refine AZ ?_
 exact Ap (x2,x3) h tL (BM [] 0 E E E)
 refine AJ ?_
 exact Ap (a1,a2) h tL (BM [] 0 E E E)
 obtain⟨a3,a4⟩:=x
 dsimp only at h
 unfold G5 at h
 try dsimp only
 refine A6 (α:=UInt64×Int) (fun x=>G6 x.1 x.2=some r) (fun x=>[(0,AV x.1),(2,vI x.2)]) (fun x=>H) ?_ (fun x D h=>?_)
 refine Y (J E ?_)
 refine Z E (Pr (b:=256)) ?_
 refine V ?_
 refine AN h E (fun hc3 h=>?_) fun hc3 h=>?_
 refine Y ?_
 obtain⟨x4,ex4,h⟩:=Bu h
 refine J E ?_
 refine Z E (FL.shr64 (n:=8)) ?_
 refine Al (u:=AV x4) E E (congrArg AV ex4) ?_
 refine V (AQ ?_)
 obtain⟨x5,ex5,h⟩:=Bu h
 refine J E (Z E Bf ?_)
 refine Al (u:=vI x5) E E (congrArg vI ex5) ?_
 refine AZ ?_
 exact Ap (x4,x5) h tL (BM [] 0 E E E)
 refine AJ ?_
 exact Ap (a3,a4) h tL (BM [] 0 E E E)
 obtain⟨a5,a6⟩:=x
 dsimp only at h
 unfold G6 at h
 try dsimp only
 refine Y ?_
 refine AE h fun c1 hc1 h=>?_
 obtain⟨x6,ex6,h⟩:=Bu h
 refine J E (J E (BB E E (FC DJ DE) (KR hc1 E Cc E E (BB E E (bL DE IZ) (Z E Bf ?_)))))
 refine Al (u:=vI x6) E E (congrArg vI ex6) ?_
 refine V (AK ?_)
 obtain rfl:=zI h
 exact AW [] 0 E E E
def NH(p0:UInt64):Option Int:=
 (Lv p0).bind fun y1=>
 some y1
theorem U9{p0:UInt64}{r:Int}(h:NH p0=some r): zC K w0 212 [AV p0] [] H (fun u M=>u=vI r∧M=[]):=by
 unfold NH at h
 refine TP.enter Tryz.func212 rfl rfl ?_
 refine Y (U E (V (AH (Cx E (AJ (AI (Y ?_)))))))
 refine AE h fun y1 hy1 h=>?_
 refine J E (AS 0 nh (TW hy1) E (U E (V (AK ?_))))
 obtain rfl:=zI h
 exact AW [] 0 E E E
def De(p2:Int)(nx_f_slices_insertionSortOrdered_uint32_l1:List UInt32×Int→Option (List UInt32))(l1:List UInt32)(a1:Int):Option (List UInt32):=
 cond (decide (a1<p2))
 (
  none)
 (
  some l1)
def Dq(p2:Int):Nat→(List UInt32×Int)→Option (List UInt32):=CE fun nx x=>De p2 nx x.1 x.2
def EI(n:Nat)(p0:List UInt32)(p1:Int)(p2:Int):Option (List UInt32):=
 ret (wI (p1+1)) fun i_1=>
 Dq p2 n (p0,i_1)
theorem KZ{n:Nat}{DA:Value}{p0 r:List UInt32}{p1 p2:Int}(h:EI n p0 p1 p2=some r): zC K w0 245 [DA,vI p1,vI p2] [AD 33 1 DA BL p0] H (fun u M=>u=.tuple #[]∧M=[AD 33 1 DA BL r]):=by
 unfold EI at h
 refine TP.enter Tryz.func245 rfl rfl ?_
 refine Y ?_
 obtain⟨i_1,ei_1,h⟩:=Bu h
 refine J E (Z E Bf ?_)
 refine Al (u:=vI i_1) E E (congrArg vI ei_1) ?_
 refine V (AP ?_)
 refine SX.heap (SX.mono (BG (α:=Nat×List UInt32×Int) (fun x=>Dq p2 x.1 (x.2.1,x.2.2)=some r) (fun x=>[(0,DA),(1,vI p1),(2,vI p2),(6,vI x.2.2)]) (fun x=>AD 33 1 DA BL x.2.1::H) (fun x=>x.1) (fun x D h=>?_) (n,p0,i_1) h) tL) (BM [0] 1 E E E)
 obtain⟨m1,l1,a1⟩:=x
 dsimp only at h
 rcases m1 with _ | m1
 cases (show(none:Option _)=some r from h)
 replace h:De p2 (Dq p2 m1) l1 a1=some r:=h
 unfold De at h
 try dsimp only
 refine AH (Y (J E (J E (Z E A4 (V ?_)))))
 refine AN h E (fun hc1 h=>?_) fun hc1 h=>?_
 cases h
 refine Ax (A3 (BZ (A5 ?_)))
 obtain rfl:=zI h
 exact C8 (Dg E) (Af (M:=[_]) ⟨E,E⟩ fun _ hw=>BT.pick (H:=[_]) hw [0] 1 E)
def EW(n:Nat)(nx_f_slices_pdqsortOrdered_uint32_l1:List UInt32×Int×Int×Int×Bool×Bool→Option (List UInt32))(l1:List UInt32)(a1:Int)(a2:Int)(a3:Int)(a4:Bool)(a5:Bool):Option (List UInt32):=
 ret (wI (a2-a1)) fun length_1=>
 cond (decide (length_1≤12))
 (
  (EI n l1 a1 a2).bind fun y1=>
  some y1)
 (
  cond (decide (a3=0))
  (
   none)
  (
   none))
def Em(n:Nat):Nat→(List UInt32×Int×Int×Int×Bool×Bool)→Option (List UInt32):=CE fun nx x=>EW n nx x.1 x.2.1 x.2.2.1 x.2.2.2.1 x.2.2.2.2.1 x.2.2.2.2.2
def FJ(n:Nat)(p0:List UInt32)(p1:Int)(p2:Int)(p3:Int):Option (List UInt32):=
 Em n n (p0,p1,p2,p3,true,true)
theorem My{n:Nat}{DA:Value}{p0 r:List UInt32}{p1 p2 p3:Int}(h:FJ n p0 p1 p2 p3=some r): zC K w0 211 [DA,vI p1,vI p2,vI p3] [AD 33 1 DA BL p0] H (fun u M=>u=.tuple #[]∧M=[AD 33 1 DA BL r]):=by
 unfold FJ at h
 refine TP.enter Tryz.func211 rfl rfl ?_
 refine Y (U E (V (Y (U E (V (AP ?_))))))
 refine SX.heap (SX.mono (BG (α:=Nat×List UInt32×Int×Int×Int×Bool×Bool) (fun x=>Em n x.1 (x.2.1,x.2.2.1,x.2.2.2.1,x.2.2.2.2.1,x.2.2.2.2.2.1,x.2.2.2.2.2.2)=some r) (fun x=>[(0,DA),(1,vI x.2.2.1),(2,vI x.2.2.2.1),(3,vI x.2.2.2.2.1),(8,vB x.2.2.2.2.2.1),(9,vB x.2.2.2.2.2.2)]) (fun x=>AD 33 1 DA BL x.2.1::H) (fun x=>x.1) (fun x D h=>?_) (n,p0,p1,p2,p3,true,true) h) tL) (BM [0] 1 E E E)
 obtain⟨m1,l1,a1,a2,a3,a4,a5⟩:=x
 dsimp only at h
 rcases m1 with _ | m1
 cases (show(none:Option _)=some r from h)
 replace h:EW n (Em n m1) l1 a1 a2 a3 a4 a5=some r:=h
 unfold EW at h
 try dsimp only
 refine AP (Y ?_)
 obtain⟨length_1,elength_1,h⟩:=Bu h
 refine J E (J E (Z E DZ ?_))
 refine Al (u:=vI length_1) E E (congrArg vI elength_1) ?_
 refine V (AH (Y (J E (Z E Iz (V ?_)))))
 refine AN h E (fun hc1 h=>?_) fun hc1 h=>?_
 refine Y ?_
 refine AE h fun y1 hy1 h=>?_
 refine J E (J E (J E (AS 1 ng (KZ hy1) E (V (AK (Ab (A8 (Dz (A8 ?_)))))))))
 obtain rfl:=zI h
 exact AW [0] 1 E E E
 refine AJ (AI (AH (Y (J E (Z E Bj (V ?_))))))
 refine AN h E (fun hc2 h=>?_) fun hc2 h=>?_
 cases h
 cases h
def F4(n:Nat)(p0:List UInt32):Option (List UInt32):=
 (NH (Cn (p0.length:Int))).bind fun y1=>
 (FJ n p0 0 (p0.length:Int) y1).bind fun y2=>
 some y2
theorem Nu{n:Nat}{DA:Value}{p0 r:List UInt32}(h:F4 n p0=some r): zC K w0 168 [DA] [AD 33 1 DA BL p0] H (fun u M=>u=.tuple #[]∧M=[AD 33 1 DA BL r]):=by
 unfold F4 at h
 refine TP.enter Tryz.func168 rfl rfl ?_
 refine Y (J E (Dh 0 E CM E E (U E (V (AQ ?_)))))
 refine AE h fun y1 hy1 h=>?_
 refine AE h fun y2 hy2 h=>?_
 refine J E (J E (J E (BB E E (Er IZ O6) (AS 0 nS (U9 hy1) E (AS 1 nR (My hy2) E (AZ ?_))))))
 obtain rfl:=zI h
 exact C8 (Dg E) (Af (M:=[_]) ⟨E,E⟩ fun _ hw=>BT.pick (H:=[_]) hw [0] 1 E)
end

section
variable {K:Nat→Prop}{w0:World}{H:List AX}
def eC(p:Int×UInt32):List Value:=[vI p.1,AA p.2]
def Qe(ss:List UInt32):List (Int×UInt32):=ss.zipIdx.map fun q=>((q.2:Int),q.1)
theorem YR(ss:List UInt32):(Qe ss).length=ss.length:=by simp[Qe]
theorem eE{ss:List UInt32}{i:Nat}{p:UInt32}(h:ss[i]? = some p):(Qe ss)[i]? = some ((i:Int),p):=by simp[Qe,h]
abbrev gD(b mp mb:Nat)(v:Value)(d:Ai)(T:List AX):List AX:=
 AL b (.cells #[vB d.off,vB d.isCut,vI d.lasts,vI d.counts,v,.map (some mp),.map (some mb),AV d.rcnt,vS d.rtag,AA d.rboots] 100)::AD 9 1 v eS d.blocks::Ad mp AA vS d.pend::Ad mb AA vB d.bad::T
theorem eZ(b mp mb bx:Nat)(vb:Value)(d:Ai)(G1:List AX)(ss:List UInt32)(hss:∀ks,ks.Perm (d.pend.map (·.1))→∃n,F4 n ks=some ss)(hlen:d.pend.length≤1073741824)(hlen2:ss.length≤1073741824):
  Ns Tryz.prog K w0 167 [vP bx 0] [AL bx (.cells #[vP b 0] 25)] (gD b mp mb vb d G1) eC (Qe ss):=by
 intro lp J9 X T rc hy h0
 refine TP.enter Tryz.func167 rfl rfl ?_
 show SX _ _ _ _ _ _ _ _ _ (AL bx (.cells #[vP b 0] 25)::rc::gD b mp mb vb d (G1++T))
 refine Y (B5 33 1 BL (U E (V (AH (Y (AG 1 M5 E (AT E E (AF E Ua (AG 3 gY E ?_)))))))))
 refine lq 5 E gg E E (fun it=>trivial) fun it=>?_
 refine V (AP ?_)
 refine SX.mono (BG (α:=List (UInt32×List UInt8)×Value) (fun _=>True) (fun x=>[(0,vY lp),(3,x.2),(11,vP it 0)])
  (fun x=>AD 33 1 x.2 BL (x.1.map (·.1))::AL bx (.cells #[vP b 0] 25)::rc::AL b (.cells #[vB d.off,vB d.isCut,vI d.lasts,vI d.counts,vb,.map (some mp),.map (some mb),AV d.rcnt,vS d.rtag,AA d.rboots] 100)::AD 9 1 vb eS d.blocks::NN mp it AA vS d.pend x.1::Ad mb AA vB d.bad::(G1++T))
  (fun x=>d.pend.length-x.1.length) (fun x D hp=>?_) ([],zN) trivial) tL
 obtain⟨done,v⟩:=x
 dsimp only
 refine Y ?_
 refine ln 5 (TQ CJ) E E E zT (fun hperm=>?_) (fun p hp hlt=>⟨zT,?_⟩)
 refine Ae E E E (V (AH (Cx E (Ax (A3 (BZ (A5 (AI (gv 5 E ?_)))))))))
 obtain⟨n,hn⟩:=hss (done.map (·.1)) (hperm.map _)
 refine Y (J E (AS 1 mw (Nu hn) E (V (Y (J E (Dh 0 E CM E E (J E (V (AP ?_)))))))))
 refine SX.mono (BG (α:=Nat×List AX) (fun x=>x.1≤ss.length∧J9 ((Qe ss).take x.1) x.2) (fun x=>[(0,vY lp),(22,v),(23,vI ss.length),(24,vI x.1)])
  (fun x=>AD 33 1 v BL ss::AL bx (.cells #[vP b 0] 25)::(x.2++T)) (fun x=>ss.length-x.1) (fun x D hp=>?_) (0,rc::gD b mp mb vb d G1) ⟨Nat.zero_le _,h0⟩) tL
 obtain⟨i,G⟩:=x
 obtain⟨hi,hJ⟩:=hp
 dsimp only at hi hJ ⊢
 refine Y (Z E A4 (V (AH ?_)))
 refine Av E (fun hc2=>?_) (fun hc2=>?_)
 have hlt:i<ss.length:=by simpa using hc2
 have hg:ss[i]? = some ss[i]:=List.getElem?_eq_getElem hlt
 have hn2:BA ss (i:Int)=some ss[i]:=by simp[BA,hlt]
 have hge:=eE hg
 generalize ss[i]=p at hg hn2 hge
 refine AJ (AI (AH (AP (Y (J E ?_)))))
 refine CG 0 hn2 E CM Bg E E E fun g m cp hv=>?_
 refine Bq E A1 E (B7 (sz:=1) (enc:=BL) 0 0 zV E hv hn2 E) ?_
 refine U E (U E (V (Y (J E (J E (J E ?_))))))
 refine HM (M2:=[_,_]) (G:=G) (T:=T) (vs:=[_,_]) (ok:=fun G1=>J9 ((Qe ss).take (i+1)) G1) (no:=X) E E ⟨E,E,zT⟩ E ?_ (fun bb G1 hG1=>⟨zT,?_⟩)
 intro M
 have:=hy _ _ _ (Ez hge).1 G hJ M
 rw[←(Ez hge).2]at this
 exact this
 refine CS E E (V ?_)
 refine Av E (fun hc3=>?_) (fun hc3=>?_)
 obtain rfl:bb=false:=by simpa using hc3
 refine AK (A8 (Ab (Dz (A8 ?_))))
 exact Ag (Dg E) (Af (M:=G1) (.inr hG1) fun _ h=>h.skip [_,_])
 obtain rfl:bb=true:=by simpa using hc3
 refine AJ (Am (AI (AQ (Z E (Bb zO zO) (J E (AZ ?_))))))
 exact Au (i+1,G1) ⟨hlt,hG1⟩ (by dsimp only;omega) tL (fun _ h=>h)
 have hle:i=ss.length:=by simp at hc2;omega
 refine Ax (A3 (BZ (A5 ?_)))
 exact C8 (Dg E) (Af (M:=G) (.inl (by rw[List.take_of_length_le (by rw[YR];omega)]at hJ;exact hJ)) fun _ h=>h.skip [_,_])
 refine Ae E E E (V (AH (Pz E (AJ (AI (AP (Y (ll 5 E E E (Ae E E E (U E (V (AQ (J E (J E ?_))))))))))))))
 refine B9 [_] E CM Bg Hy ⟨E,zT⟩ E E E zX E E zU fun b0=>?_
 refine CA BL 1 ([p.1]:List UInt32) E zV E ?_
 have hl:DM 4 (done.map (·.1)) [p.1]=some ((done++[p]).map (·.1)):=by
  simp only[DM,List.length_map,List.length_cons,List.length_nil,List.map_append,List.map_cons,List.map_nil]
  rw[if_pos ⟨by omega,by omega⟩]
 refine Co 1 hl (sz:=1) (enc:=BL) zV E CM Bg P0 Hy E zD E E E E (CH (sz:=1) (enc:=BL) 0 zV E) (by simp[BL,Value.oneCell']) zU fun v2=>?_
 refine U E (AZ (Am ?_))
 exact Au (done++[p],v2) zT zQ tL (fun _ h=>h.skip [_])
theorem dq(b:Nat):zC K w0 133 [vP b 0] [] H (fun u M=>∃bx,u=.func (.func 167) #[] #[vP bx 0]∧M=[AL bx (.cells #[vP b 0] 25)]):=by
 refine TP.enter Tryz.func133 rfl rfl ?_
 refine Y ?_
 refine Ba E E zU fun b0=>?_
 refine U E (V (Y ?_))
 refine Gz (fv:=#[]) (cv:=#[_]) E E E ?_
 refine U E (V (AK ?_))
 exact Ag (Ck E E) (Af (M:=[_]) ⟨_,E,E⟩ fun _ h=>h.skip [])
end

section
variable {K:Nat→Prop}{w0:World}{H:List AX}
def Wa(d:Ai):Option (List (Int×UInt32)):=if d.pend.length≤1 then some (Qe (d.pend.map (·.1)))else none
theorem kp{b mp mb bx:Nat}{vb:Value}{d:Ai}{G1:List AX}{xs:List (Int×UInt32)}(h:Wa d=some xs):
  Ns Tryz.prog K w0 167 [vP bx 0] [AL bx (.cells #[vP b 0] 25)] (gD b mp mb vb d G1) eC xs:=by
 unfold Wa at h
 split at h
 rename_i hl
 obtain rfl:=zI h
 refine eZ b mp mb bx vb d G1 (d.pend.map (·.1)) (fun ks hk=>⟨3,?_⟩) zO zQ
 have hm:(d.pend.map (·.1)).length≤1:=by simpa using hl
 rcases hm':d.pend.map (·.1)with _ | ⟨k,_ | ⟨k2,r⟩⟩
 rw[hm']at hk
 rw[List.perm_nil.1 hk,hm']
 rfl
 rw[hm']at hk
 rw[List.perm_singleton.1 hk,hm']
 rfl
 rw[hm']at hm
 simp at hm
 cases h
def Va(_:Ai):Option Unit:=some ()
theorem fA{b:Nat}{d:Ai}{r:Unit}(_:Va d=some r):zC K w0 133 [vP b 0] [] H (fun u M=>∃bx:Nat,u=.func (.func 167) #[] #[vP bx 0]∧M=[AL bx (.cells #[vP b 0] 25)]):=dq b
end

section
variable {K:Nat→Prop}{w0:World}{H:List AX}
def PN(p0:Ai):Option (UInt32×Int×Ai):=
 ret (decide (p0.rboots=4294967295)) fun x1=>
 cond x1
 (
  some (0,72,p0))
 (
  (DS p0).bind fun y1=>
  cond (!decide (y1.1=0))
  (
   some (0,y1.1,y1.2))
  (
   ret (y1.2.rboots+1) fun x2=>
   some (x2,0,{ y1.2 with rboots:=y1.2.rboots+1 })))
theorem bn{Ar A7 B3:Nat}{B4:Value}{p0:Ai}{r:UInt32×Int×Ai}(h:PN p0=some r): zC K w0 63 [vP Ar 0] [AL Ar (.cells #[vB p0.off,vB p0.isCut,vI p0.lasts,vI p0.counts,B4,.map (some A7),.map (some B3),AV p0.rcnt,vS p0.rtag,AA p0.rboots] 100),AD 9 1 B4 eS p0.blocks,Ad A7 AA vS p0.pend,Ad B3 AA vB p0.bad] H (fun u M=>u=.tuple #[AA r.1,vI r.2.1]∧M=[AL Ar (.cells #[vB r.2.2.off,vB r.2.2.isCut,vI r.2.2.lasts,vI r.2.2.counts,B4,.map (some A7),.map (some B3),AV r.2.2.rcnt,vS r.2.2.rtag,AA r.2.2.rboots] 100),AD 9 1 B4 eS r.2.2.blocks,Ad A7 AA vS r.2.2.pend,Ad B3 AA vB r.2.2.bad]):=by
 unfold PN at h
 refine TP.enter Tryz.func63 rfl rfl ?_
 refine Y (U E (U E (V (AH (AP (Y (J E (Ed E V3 E E (U E (V (Cx E (Y ?_))))))))))))
 obtain⟨x1,ex1,h⟩:=Bu h
 refine J E (AT E E (AF E LN (AF E PQ (AG 0 A1 E ?_))))
 refine Z E (M6 (b:=4294967295)) ?_
 refine Al (u:=vB x1) E E (congrArg vB ex1) ?_
 refine V ?_
 refine AN h E (fun hc2 h=>?_) fun hc2 h=>?_
 refine Y (U E (U E (V (AK (A8 (Ab ?_))))))
 obtain rfl:=zI h
 exact AW [0,1,2,3] 4 E E E
 refine AJ (Am (AI (AH (Y ?_))))
 refine AE h fun y1 hy1 h=>?_
 refine J E (AT E E (AF E UY (AS 4 Z2 ((G3 hy1 :)) E (U E (V (Y (J E (Z E BJ (V ?_)))))))))
 refine AN h E (fun hc3 h=>?_) fun hc3 h=>?_
 refine Y (J E (U E (U E (V (AK (Ab ?_))))))
 obtain rfl:=zI h
 exact AW [0,1,2,3] 4 E E E
 refine AJ (AI (Y (J E (AT E E (AF E LN (AF E PQ (AG 0 A1 E ?_)))))))
 refine Z E (Bv (b:=1)) ?_
 refine AT E E (AF E LN (AF E PQ (A2 0 E E E E Bg E E E zT (V (Y ?_)))))
 obtain⟨x2,ex2,h⟩:=Bu h
 refine J E (AT E E (AF E LN (AF E PQ (AG 0 A1 E ?_))))
 refine Al (u:=AA x2) E E (congrArg AA ex2) ?_
 refine U E (V (AK ?_))
 obtain rfl:=zI h
 exact AW [0,1,2,3] 4 E E E
def Kd(y1:Int×Ai)(o1:Ai):Option (Int×Ai):=
 some (y1.1,o1)
def LH(p0:Ai)(p1:List UInt8):Option (Int×Ai):=
 ret (!decide ((p1.length:Int)=32)) fun x1=>
 cond x1
 (
  some (2,p0))
 (
  ret (decide (p0.rcnt=18446744073709551615)) fun x2=>
  cond x2
  (
   some (72,p0))
  (
   (DS p0).bind fun y1=>
   cond (decide (y1.1=0))
   (
    Kd y1 ({ y1.2 with rcnt:=y1.2.rcnt+1,rtag:=p1 }))
   (
    Kd y1 y1.2)))
theorem Pa{Ar A7 B3:Nat}{B4:Value}{p0:Ai}{p1:List UInt8}{r:Int×Ai}(h:LH p0 p1=some r): zC K w0 101 [vP Ar 0,vS p1] [AL Ar (.cells #[vB p0.off,vB p0.isCut,vI p0.lasts,vI p0.counts,B4,.map (some A7),.map (some B3),AV p0.rcnt,vS p0.rtag,AA p0.rboots] 100),AD 9 1 B4 eS p0.blocks,Ad A7 AA vS p0.pend,Ad B3 AA vB p0.bad] H (fun u M=>u=vI r.1∧M=[AL Ar (.cells #[vB r.2.off,vB r.2.isCut,vI r.2.lasts,vI r.2.counts,B4,.map (some A7),.map (some B3),AV r.2.rcnt,vS r.2.rtag,AA r.2.rboots] 100),AD 9 1 B4 eS r.2.blocks,Ad A7 AA vS r.2.pend,Ad B3 AA vB r.2.bad]):=by
 unfold LH at h
 refine TP.enter Tryz.func101 rfl rfl ?_
 refine Y (U E (V (AH (AP (Y (J E (Ed E V3 E E (U E (V (Cx E (Y ?_)))))))))))
 obtain⟨x1,ex1,h⟩:=Bu h
 refine J E (Bp E Cc E (Z E BJ ?_))
 refine Al (u:=vB x1) E E (congrArg vB ex1) ?_
 refine V ?_
 refine AN h E (fun hc2 h=>?_) fun hc2 h=>?_
 refine Y (U E (V (AK (A8 (Ab ?_)))))
 obtain rfl:=zI h
 exact AW [0,1,2,3] 4 E E E
 refine Y ?_
 obtain⟨x2,ex2,h⟩:=Bu h
 refine J E (AT E E (AF E LN (AF E PP (AG 0 Gy E ?_))))
 refine Z E (L7 (b:=18446744073709551615)) ?_
 refine Al (u:=vB x2) E E (congrArg vB ex2) ?_
 refine V ?_
 refine AN h E (fun hc3 h=>?_) fun hc3 h=>?_
 refine Y (U E (V (AK (A8 (Ab ?_)))))
 obtain rfl:=zI h
 exact AW [0,1,2,3] 4 E E E
 refine AJ (Am (AI (Y ?_)))
 refine AE h fun y1 hy1 h=>?_
 refine J E (AT E E (AF E UY (AS 4 Z2 ((G3 hy1 :)) E (U E (V ?_)))))
 refine A6 (α:=Ai) (fun x=>Kd y1 x=some r) (fun x=>[(0,vP Ar 0),(5,vI y1.1)]) (fun x=>AL Ar (.cells #[vB x.off,vB x.isCut,vI x.lasts,vI x.counts,B4,.map (some A7),.map (some B3),AV x.rcnt,vS x.rtag,AA x.rboots] 100)::AD 9 1 B4 eS x.blocks::Ad A7 AA vS x.pend::Ad B3 AA vB x.bad::H) ?_ (fun o1 D h=>?_)
 refine Y (J E (Z E Bj (V ?_)))
 refine AN h E (fun hc4 h=>?_) fun hc4 h=>?_
 refine Y (J E (AT E E (AF E LN (AF E PP (AG 0 Gy E ?_)))))
 refine Z E (Hm (b:=1)) ?_
 refine AT E E (AF E LN (AF E PP (A2 0 E E E E gb E E E zT (V (AQ (J E (J E (AT E E (AF E LN ?_)))))))))
 refine AF E aC (A2 0 E E E E HA E E E zT (AZ ?_))
 exact Ap ({ y1.2 with rcnt:=y1.2.rcnt+1,rtag:=p1 }) h tL (BM [0,1,2,3] 4 rfl rfl rfl)
 refine AJ ?_
 exact Ap y1.2 h tL (BM [0,1,2,3] 4 E E E)
 unfold Kd at h
 try dsimp only
 refine Y (J E (U E (V (AK ?_))))
 obtain rfl:=zI h
 exact AW [0,1,2,3] 4 E E E
def H8(p0:Ai):Option bN:=
 some (⟨p0.rcnt,p0.rtag,p0.rboots⟩:bN)
theorem OZ{Ar A7 B3:Nat}{B4:Value}{p0:Ai}{r:bN}(h:H8 p0=some r): zC K w0 14 [vP Ar 0] [AL Ar (.cells #[vB p0.off,vB p0.isCut,vI p0.lasts,vI p0.counts,B4,.map (some A7),.map (some B3),AV p0.rcnt,vS p0.rtag,AA p0.rboots] 100),AD 9 1 B4 eS p0.blocks,Ad A7 AA vS p0.pend,Ad B3 AA vB p0.bad] H (fun u M=>u=.agg (gE r).toArray∧M=[AL Ar (.cells #[vB p0.off,vB p0.isCut,vI p0.lasts,vI p0.counts,B4,.map (some A7),.map (some B3),AV p0.rcnt,vS p0.rtag,AA p0.rboots] 100),AD 9 1 B4 eS p0.blocks,Ad A7 AA vS p0.pend,Ad B3 AA vB p0.bad]):=by
 unfold H8 at h
 refine TP.enter Tryz.func14 rfl rfl ?_
 refine Y ?_
 refine Ak E ou zU fun b1=>?_
 refine V (AH (Y (J rfl (Ed rfl V3 rfl rfl (V (Cx rfl (AJ (AI (Y (J rfl (AT rfl rfl (AF rfl LN (Aq [AV p0.rcnt,vS p0.rtag,AA p0.rboots] rfl oc rfl rfl (Cj 1 rfl (by rintro(_ | (_ | (_ | j))) u hj<;>first | exact hj | exact absurd hj zS)) (A2 0 rfl rfl rfl rfl sE rfl rfl rfl trivial (V (AK ?_))))))))))))))))
 obtain rfl:=zI h
 exact Ag (IU E (B8 0 (gE (⟨p0.rcnt,p0.rtag,p0.rboots⟩:bN)) oc E E E E)) (Af (M:=[_,_,_,_]) ⟨E,E⟩ fun _ hw=>BT.pick (H:=[_,_,_,_,_]) hw [1,2,3,4] 5 E)
def MV(y1:Int×Ai)(o1:Ai):Option (Int×Ai):=
 some (y1.1,o1)
def Of(y1:Int×Ai)(o2:Ai):Option (Int×Ai):=
 MV y1 ({ o2 with pend:=[] })
def Og(y1:Int×Ai)(o3:Ai):Option (Int×Ai):=
 Of y1 o3
def H7(y1:Int×Ai)(nx_f_dd_Flush_r1:Ai→Option (Int×Ai))(e1:Int×UInt32)(o3:Ai):Option (Int×Ai):=
 (BA o3.blocks (e1.2.toNat:Int)).bind fun x1=>
 (Np o3.blocks (e1.2.toNat:Int) ((Cy o3.pend e1.2).getD [])).bind fun l1=>
 nx_f_dd_Flush_r1 ({ o3 with blocks:=l1 })
def Jy(y1:Int×Ai):List (Int×UInt32)→Ai→Option (Int×Ai):=Ur (fun nx e x=>H7 y1 nx e x) (fun x=>Og y1 x)
def Jx(p0:Ai):Option (Int×Ai):=
 (DS p0).bind fun y1=>
 cond (decide (y1.1=0))
 (
  (Va y1.2).bind fun y2=>
  (Wa y1.2).bind fun xs1=>
  Jy y1 xs1 y1.2)
 (
  MV y1 y1.2)
theorem PI{Ar A7 B3:Nat}{B4:Value}{p0:Ai}{r:Int×Ai}(h:Jx p0=some r): zC K w0 96 [vP Ar 0] [AL Ar (.cells #[vB p0.off,vB p0.isCut,vI p0.lasts,vI p0.counts,B4,.map (some A7),.map (some B3),AV p0.rcnt,vS p0.rtag,AA p0.rboots] 100),AD 9 1 B4 eS p0.blocks,Ad A7 AA vS p0.pend,Ad B3 AA vB p0.bad] H (fun u M=>u=vI r.1∧M=[AL Ar (.cells #[vB r.2.off,vB r.2.isCut,vI r.2.lasts,vI r.2.counts,B4,.map (some A7),.map (some B3),AV r.2.rcnt,vS r.2.rtag,AA r.2.rboots] 100),AD 9 1 B4 eS r.2.blocks,Ad A7 AA vS r.2.pend,Ad B3 AA vB r.2.bad]):=by
 unfold Jx at h
 refine TP.enter Tryz.func96 rfl rfl ?_
 refine Y ?_
 refine Ba E E zU fun b1=>?_
 refine U E (V (AH (Y (AG 0 M5 E (Ed E V3 E E (V (Cx E (AJ (AI (Y ?_))))))))))
 refine AE h fun y1 hy1 h=>?_
 refine AG 0 M5 E (AT E E (AF E UY (SL.pick [1,2,3,4,0] 5 (AS 4 Z2 ((G3 hy1 :)) E (U E (V ?_))))))
 refine A6 (α:=Ai) (fun x=>MV y1 x=some r) (fun x=>[(0,vP Ar 0),(3,vI y1.1)]) (fun x=>AL Ar (.cells #[vB x.off,vB x.isCut,vI x.lasts,vI x.counts,B4,.map (some A7),.map (some B3),AV x.rcnt,vS x.rtag,AA x.rboots] 100)::AD 9 1 B4 eS x.blocks::Ad A7 AA vS x.pend::Ad B3 AA vB x.bad::H) ?_ (fun o1 D h=>?_)
 refine Y (J E (Z E Bj (V ?_)))
 refine AN h E (fun hc2 h=>?_) fun hc2 h=>?_
 refine A6 (α:=Ai) (fun x=>Of y1 x=some r) (fun x=>[(0,vP Ar 0),(1,vP b1 0),(3,vI y1.1)]) (fun x=>AL Ar (.cells #[vB x.off,vB x.isCut,vI x.lasts,vI x.counts,B4,.map (some A7),.map (some B3),AV x.rcnt,vS x.rtag,AA x.rboots] 100)::AD 9 1 B4 eS x.blocks::Ad A7 AA vS x.pend::Ad B3 AA vB x.bad::AL b1 (.cells #[vP Ar 0] 25)::H) ?_ (fun o2 D h=>?_)
 refine Y ?_
 refine AE h fun y2 hy2 h=>?_
 refine AG 4 M5 E (BN 0 mY (fA hy2) E ?_)
 rintro _ _ ⟨b2,rfl,rfl⟩
 refine V (AP ?_)
 refine AE h fun xs1 hxs1 h=>?_
 refine SX.heap (MB (enc:=eC) xs1 (G0:=AL Ar (.cells #[vB y1.2.off,vB y1.2.isCut,vI y1.2.lasts,vI y1.2.counts,B4,.map (some A7),.map (some B3),AV y1.2.rcnt,vS y1.2.rtag,AA y1.2.rboots] 100)::AD 9 1 B4 eS y1.2.blocks::Ad A7 AA vS y1.2.pend::Ad B3 AA vB y1.2.bad::AL b1 (.cells #[vP Ar 0] 25)::H) (fun pre G=>∃x:Ai,(∀suf,xs1=pre++suf→Jy y1 suf x=some r)∧G=AL Ar (.cells #[vB x.off,vB x.isCut,vI x.lasts,vI x.counts,B4,.map (some A7),.map (some B3),AV x.rcnt,vS x.rtag,AA x.rboots] 100)::AD 9 1 B4 eS x.blocks::Ad A7 AA vS x.pend::Ad B3 AA vB x.bad::AL b1 (.cells #[vP Ar 0] 25)::H) (fun c G=>False) E mu E zV (kp hxs1) E ⟨y1.2,fun suf e=>by rw[←show xs1=suf from e];exact h,E⟩ (fun pre e1 suf1 G hpre hJ lr lp Rest=>?_) (fun G D hJ=>?_) (fun c G D hX=>?_)) (BM [0,1,2,3,4,5] 6 E E E)
 obtain⟨o3,h,rfl⟩:=hJ
 replace h:H7 y1 (Jy y1 suf1) e1 o3=some r:=h _ hpre
 unfold H7 at h
 refine AQ (U E (AZ ?_))
 refine KT (G:=AL Ar (.cells #[vB o3.off,vB o3.isCut,vI o3.lasts,vI o3.counts,B4,.map (some A7),.map (some B3),AV o3.rcnt,vS o3.rtag,AA o3.rboots] 100)::AD 9 1 B4 eS o3.blocks::Ad A7 AA vS o3.pend::Ad B3 AA vB o3.bad::AL b1 (.cells #[vP Ar 0] 25)::H) ?_
 refine AP ?_
 refine AE h fun x1 hx1 h=>?_
 refine AE h fun l1 hl1 h=>?_
 refine Aw DC [0,2,4] (CF [(true,0),(true,1),(true,2),(true,3),(true,4),(true,5),(true,6),(true,7),(true,8),(true,9),(true,10),(true,11)] (.last 12 .nil)) zK (AG 2 M5 E (AT E E (AF E UZ (AG 0 PX E (J E (AG 2 M5 E (AT E E ?_)))))))
 refine AF E Ua (AG 0 gY E (J E ?_))
 refine WM (zv:=[]) 1 (TQ CJ) E gg Sx E E E ?_
 refine CG 1 hx1 E EY HA E E E fun g1 m1 cp1 hv1=>?_
 refine Bc ?_
 refine F6 (sz:=1) (enc:=eS) 1 hl1 zV rfl rfl rfl rfl rfl hv1 HA (by first | (simp[Value.oneCell'];done) | simp[eS,Value.oneCell']) trivial ?_
 refine AZ (Am ?_)
 exact H5 ⟨({ o3 with blocks:=l1 }),fun suf e=>by rw[WZ hpre e];exact h,rfl⟩ (BM [0,1,2,3,4] 5 rfl rfl rfl)
 obtain⟨o3,h,rfl⟩:=hJ
 replace h:Og y1 o3=some r:=h [] (List.append_nil _).symm
 unfold Og at h
 refine Am ?_
 exact Ap o3 h tL (BM [0,1,2,3,4] 5 E E E)
 exact hX.elim
 unfold Of at h
 try dsimp only
 refine AQ (AG 4 M5 E (AT E E (AF E Ua (AG 0 gY E (lj 2 E E E gg E E zT (AZ ?_))))))
 exact Ap ({ o2 with pend:=[] }) h tL (BM [0,1,2,3] 5 rfl rfl rfl)
 refine AJ ?_
 exact Ap y1.2 h tL (BM [0,1,2,3] 5 E E E)
 unfold MV at h
 try dsimp only
 refine Y (J E (U E (V (AK ?_))))
 obtain rfl:=zI h
 exact AW [0,1,2,3] 4 E E E
def Nl(T:List UInt32)(p0:A0)(p0_1:Ai)(p1:UInt32)(p2:List UInt8):Option (List UInt8×Int×A0×Ai):=
 ret (decide (2≤p1)) fun x1=>
 cond x1
 (
  some ([],2,p0,p0_1))
 (
  ret (decide (198<(p2.length:Int))) fun x2=>
  cond x2
  (
   some ([],50,p0,p0_1))
  (
   (KB T p0 p0_1 p1 p2).bind fun y1=>
   some (y1.1,y1.2.1,y1.2.2.1,y1.2.2.2)))
theorem Rn{T:List UInt32}{Ar A7 BC Bw Bx:Nat}{Ac By:Value}{p0:A0}{p0_1:Ai}{p1:UInt32}{p2:List UInt8}{r:List UInt8×Int×A0×Ai}(h:Nl T p0 p0_1 p1 p2=some r)(hS:GM K w0 T):zC K w0 99 [vP Ar 0,AA p1,vS p2] [AL Ar (.cells #[vP BC 0,Ac,AA p0.gen,AA p0.boot,AV p0.seals,.map (some A7)] 181),AD 114 2 Ac Aa p0.ring,Ad A7 AA vB p0.taken,AL BC (.cells #[vB p0_1.off,vB p0_1.isCut,vI p0_1.lasts,vI p0_1.counts,By,.map (some Bw),.map (some Bx),AV p0_1.rcnt,vS p0_1.rtag,AA p0_1.rboots] 100),AD 9 1 By eS p0_1.blocks,Ad Bw AA vS p0_1.pend,Ad Bx AA vB p0_1.bad] H (fun u M=>u=.tuple #[vS r.1,vI r.2.1]∧M=[AL Ar (.cells #[vP BC 0,Ac,AA r.2.2.1.gen,AA r.2.2.1.boot,AV r.2.2.1.seals,.map (some A7)] 181),AD 114 2 Ac Aa r.2.2.1.ring,Ad A7 AA vB r.2.2.1.taken,AL BC (.cells #[vB r.2.2.2.off,vB r.2.2.2.isCut,vI r.2.2.2.lasts,vI r.2.2.2.counts,By,.map (some Bw),.map (some Bx),AV r.2.2.2.rcnt,vS r.2.2.2.rtag,AA r.2.2.2.rboots] 100),AD 9 1 By eS r.2.2.2.blocks,Ad Bw AA vS r.2.2.2.pend,Ad Bx AA vB r.2.2.2.bad]):=by
 unfold Nl at h
 refine TP.enter Tryz.func99 rfl rfl ?_
 refine Y (U E (U E (V (AH (AP (Y (J E (Ed E gf E E (U E (V (Cx E (Y ?_))))))))))))
 obtain⟨x1,ex1,h⟩:=Bu h
 refine J E ?_
 refine Z E (HG (b:=2)) ?_
 refine Al (u:=vB x1) E E (congrArg vB ex1) ?_
 refine V ?_
 refine AN h E (fun hc2 h=>?_) fun hc2 h=>?_
 refine Y (U E (U E (V (AK (A8 (Ab ?_))))))
 obtain rfl:=zI h
 exact AW [0,1,2,3,4,5,6] 7 E E E
 refine Y ?_
 obtain⟨x2,ex2,h⟩:=Bu h
 refine J E (Bp E Cc E (Z E Ci ?_))
 refine Al (u:=vB x2) E E (congrArg vB ex2) ?_
 refine V ?_
 refine AN h E (fun hc3 h=>?_) fun hc3 h=>?_
 refine Y (U E (U E (V (AK (A8 (Ab ?_))))))
 obtain rfl:=zI h
 exact AW [0,1,2,3,4,5,6] 7 E E E
 refine AJ (Am (AI (Y ?_)))
 refine AE h fun y1 hy1 h=>?_
 refine J E (J E (J E (AS 7 fZ (XD hy1 hS) E (Ae E E E (Ae E E E (U E (U E (V (AK ?_)))))))))
 obtain rfl:=zI h
 exact AW [0,1,2,3,4,5,6] 7 E E E
end

section
structure Ec where
 cnt:UInt64
 gen:UInt32
 rows:UInt32
 page:UInt32
 tag:List UInt8
deriving DecidableEq
def HS(r:Ec):List Value:=[AV r.cnt,AA r.gen,AA r.rows,AA r.page,vS r.tag]
structure sZ where
 kind:Int
 x0:UInt32
 y0:UInt32
 x1:UInt32
 y1:UInt32
 x:UInt32
 y:UInt32
 sq:UInt64
 k:Int
 after:UInt64
 isFrom:Bool
structure B2 where
 rows:List Ao
 pages:List BI
 gens:List (UInt32×UInt32)
 ring:List BK
 gen:UInt32
 bad:Bool
structure DR where
 ops:List KQ
 isOpen:Bool
 closed:Bool
structure FX where
 had:List BI
 out:List BI
 took:List UInt32
 err:Int
 must:List BI
structure TR where
 ops:List KQ
 isOpen:Bool
 closed:Bool
structure Db where
 rows:List Ao
 had:List BI
 gens:List UInt32
 bad:Bool
theorem QK{P:Program}{k:TypeId}(hk:P.underlying k=some (.int .u32)):M1 P k AA AA:=
 ⟨Maps.int_keyed hk,Ux hk,⟨fun v=>match v with | .int _ a=>some (UInt32.ofNat a.toNat) | _=>none,fun x=>by simp⟩,⟨fun v=>match v with | .int _ a=>some (UInt32.ofNat a.toNat) | _=>none,fun x=>by simp⟩⟩
def Ta(s:BI):Value:=.agg (AU s).toArray
theorem T3{P:Program}{k:TypeId}(hk:P.underlying k=some (.int .u32)):M1 P k AA Ta:=
 ⟨Maps.int_keyed hk,Ux hk,⟨fun v=>match v with | .int _ a=>some (UInt32.ofNat a.toNat) | _=>none,fun x=>by simp⟩,
  ⟨fun v=>match v with | .agg a=>(match a.toList with | [.string t,.int _ p,.string b]=>some ⟨t.data.toList,UInt32.ofNat p.toNat,b.data.toList⟩ | _=>none) | _=>none,fun x=>by
  cases x
  simp[Ta,AU,AA,vS]⟩⟩
section
variable {P:Program}{ro:Option Nat}{K:Nat→Prop}{w0:World}{N:Nat}{Q:DF}{D:List Nat}{l l':Tm}{H H' Hs:List AX}{ops:Array Oper}{items:Hn}
variable {tk:Bool}{o:Oper}{t:Nat}{v:Value}{x y z y1:Operand}
theorem jP{α:Type}{enc:α→List Value}{sz:Nat}{xs us:List α}{k k':IntKind}{j:Int}{ty e:TypeId}(hn:Ku xs 0 j=some us)(hk:B6 K w0 enc sz v xs)(ho:At ops N l o t (.slice ty x none (some z) (some y1)))(hty:P.underlying ty=some (.slice e))(hsz:DD P e=some sz)(hx:Be l x=some v)(hz:Be l z=some (.int k j))(hu:Be l y1=some (.int k' j))
(h:∀v',B6 K w0 enc sz v' us→SL P ro K w0 N ops Hs items Q D ((t,v')::l) H):SL P ro K w0 N ops Hs (.cons (tk,o) items) Q D l H:=by
 obtain⟨h1,h2,h3,h4,rfl⟩:=NT hn
 have e2:(xs.drop (0:Int).toNat).take (j.toNat-(0:Int).toNat)=xs.take j.toNat:=by simp
 rw[e2]at h
 have hj:j=(j.toNat:Int):=zO
 generalize j.toNat=n at*
 subst hj
 have hn:n≤xs.length:=zO
 rcases hk.at_ with⟨a0,rfl,rfl⟩ | ⟨b,off,cap,rfl,hcap,hc⟩
 have hn0:n=0:=by simpa using hn
 subst hn0
 refine SL.val (v:=.slice a0 0 0) ho E (fun a w ha _=>?_) (h _ ⟨hk.len,.inl ⟨_,E,by simp⟩⟩)
 simp only[execOp,ho.op,Instr.sliceAt,Instr.slice,Option.map]
 cases a0<;>simp[ha.eval hx,ha.eval hz,ha.eval hu,An hty,Cb hsz,Instr.sliceBounds,Instr.sliceBound,asIntOf]
 have hle:n≤cap:=Nat.le_trans hn hcap
 refine SL.val (v:=.slice (some ⟨b,off,none⟩) n n) ho E (fun a w ha _=>?_) (h _ ⟨hk.len,.inr ⟨b,off,n,by simp[List.length_take,Nat.min_eq_left hn],by rw[List.length_take];exact Nat.min_le_left ..,?_⟩⟩)
 simp only[execOp,ho.op,Instr.sliceAt,Instr.slice,Option.map]
 simp[ha.eval hx,ha.eval hz,ha.eval hu,An hty,Cb hsz,Instr.sliceBounds,Instr.sliceBound,asIntOf,hle,Cf]
 intro j u hu
 refine hc j u ?_
 have hpre:(xs.take n).flatMap enc++(xs.drop n).flatMap enc=xs.flatMap enc:=by
  rw[←List.flatMap_append,List.take_append_drop]
 rw[←hpre,List.getElem?_append_left (List.getElem?_eq_some_iff.1 hu).1]
 exact hu
section
variable {κ α:Type}{ek:κ→Value}{ev:α→Value}{m:List (κ×α)}{b:Nat}{k:TypeId}
def DI(v:Value)(ek:κ→Value)(ev:α→Value)(m:List (κ×α)):AX:=
 ⟨fun b=>v=.map (some b),fun w=>(v=.map none∧m=[])∨∃b,v=.map (some b)∧(Ad b ek ev m).holds w,fun w w' h hw=>by
  rcases hw with hn | ⟨b,rfl,hb⟩
  exact .inl hn
  exact .inr ⟨b,rfl,(Ad b ek ev m).loc w w' (fun j hj=>h j (by rw[show j=b from hj])) hb⟩⟩
theorem BT.nilM{w:World}(ek:κ→Value)(ev:α→Value)(h:BT K w0 H w):BT K w0 (DI (.map none) ek ev []::H) w:=
 ⟨h.os,h.tape,h.output,h.size,h.klt,h.keep,fun c hc=>by
   rcases List.mem_cons.1 hc with rfl | hc
   exact .inl ⟨rfl,rfl⟩
   exact h.holds c hc,
  fun c hc b hb=>by
   rcases List.mem_cons.1 hc with rfl | hc
   cases hb
   exact h.foot c hc b hb,
  List.pairwise_cons.2 ⟨fun c _ b hb=>(by cases hb),h.disj⟩⟩
theorem jK(ek:κ→Value)(ev:α→Value)(h:SL P ro K w0 N ops Hs items Q D l (DI (.map none) ek ev []::H)):SL P ro K w0 N ops Hs items Q D l H:=
 fun a w ha hw hs=>h a w ha (hw.nilM ek ev) hs
theorem mD(i:Nat)(hi:H[i]? = some (Ad b ek ev m))(h:SL P ro K w0 N ops Hs items Q D l (H.set i (DI (.map (some b)) ek ev m)))(hs:EO Hs (H.set i (DI (.map (some b)) ek ev m))):SL P ro K w0 N ops Hs items Q D l H:=by
 intro a w ha hw hs0
 refine h a w ha (BT.turnAt i hw hi rfl rfl rfl (Nat.le_refl _) (fun _ _ _=>rfl) (.inr ⟨b,rfl,hw.holds _ (List.mem_append_left _ (List.mem_of_getElem? hi))⟩) fun b' hb=>?_) hs0
 obtain rfl:b=b':=by simpa[DI]using hb
 exact⟨.inl rfl,(hw.foot _ (List.mem_append_left _ (List.mem_of_getElem? hi)) b rfl).1⟩
variable [DecidableEq κ]
omit [DecidableEq κ] in
theorem eL{w:World}(E9:M1 P k ek ev){ty e:TypeId}(ht:P.underlying ty=some (.map k e)){zv:α}(hz:EC P e=some (ev zv))(key:κ)(c:Bool):
  (Instr.lookup ty (.map none) (ek key) c).run P w=.ok (if c then .tuple #[ev zv,.bool false]else ev zv) w:=by
 obtain⟨lx,hl⟩:=E9.lit key
 rcases E9.keyed.find w hl [] zS with⟨h1,h2⟩ | ⟨j,e0,h1,h2,h3⟩
 simp[Instr.lookup,An ht,E9.keyed.check w _ hl,h1,NQ hz,Result.andThen]
 simp at h2
theorem jG{ty e:TypeId}{key:κ}{zv:α}(i:Nat)(E9:M1 P k ek ev)(ho:At ops N l o t (.lookup ty x y false))(ht:P.underlying ty=some (.map k e))(hz:EC P e=some (ev zv))(hx:Be l x=some v)(hy:Be l y=some (ek key))
(hi:(bif tk then Hs else H)[i]? = some (DI v ek ev m))(h:SL P ro K w0 N ops Hs items Q D ((t,ev ((Cy m key).getD zv))::l) H):SL P ro K w0 N ops Hs (.cons (tk,o) items) Q D l H:=
 SL.val ho rfl (fun a w ha hsw=>by
  rcases(hsw.holds _ (List.mem_of_getElem? hi):(DI v ek ev m).holds w)with⟨rfl,rfl⟩ | ⟨b,rfl,es,clock,hb,hr⟩
  have:=eL (w:=w) E9 ht hz key false
  simp[execOp,ho.op,ha.eval hx,ha.eval hy,this,Cy]
  have:=hr.look E9 hb ht hz key false
  simp[execOp,ho.op,ha.eval hx,ha.eval hy,this]) h
end
def cL(P:Program)(ty:TypeId)(f:Nat):Option Nat:=
 match P.underlying ty with
 | some (.struct fs)=>match fs[f]? with
  | some fd=>if JF P fd.type then some fd.offset else none
  | none=>none
 | _=>none
theorem ZH{cs:Array Value}{d f:Nat}{ty:TypeId}(ho:At ops N l o t (.field ty x f))(hf:cL P ty f=some d)(hx:Be l x=some (.agg cs))(hc:cs[d]? = some v)(h:SL P ro K w0 N ops Hs items Q D ((t,v)::l) H):SL P ro K w0 N ops Hs (.cons (tk,o) items) Q D l H:=
 SL.val ho rfl (fun a w ha _=>by
  unfold cL at hf
  cases hu:P.underlying ty with
  | none=>simp[hu]at hf
  | some ds=>
   cases ds<;>simp only[hu]at hf<;>try cases hf
   rename_i fs
   cases hfs:fs[f]? with
   | none=>simp[hfs]at hf
   | some fd=>
    simp only[hfs]at hf
    split at hf
    rename_i hs
    obtain rfl:=zI hf
    simp[execOp,ho.op,Instr.field,An hu,ha.eval hx,hfs,part,(VU hs w).1,hc,asAgg]
    cases hf) h
end
end

section
variable {K:Nat→Prop}{w0:World}{H:List AX}
def G7(p0:Az):Option (UInt32×Int×Az):=
 cond (decide (p0.rboots=4294967295))
 (
  some (0,72,p0))
 (
  (Dd p0).bind fun y1=>
  cond (!decide (y1.1=0))
  (
   some (0,y1.1,y1.2))
  (
   ret (y1.2.rboots+1) fun x1=>
   some (x1,0,{ y1.2 with rboots:=y1.2.rboots+1 })))
theorem RJ{Ar:Nat}{As Ac Ay:Value}{p0:Az}{r:UInt32×Int×Az}(h:G7 p0=some r): zC K w0 48 [vP Ar 0] [AL Ar (.cells #[As,Ac,Ay,AV p0.rcnt,vS p0.rtag,AA p0.rboots,vI p0.left,vB p0.off] 107),AD 9 1 As eS p0.blk,AD 9 1 Ac eS p0.pnd,AD 4 1 Ay eB p0.bads] H (fun u M=>u=.tuple #[AA r.1,vI r.2.1]∧M=[AL Ar (.cells #[As,Ac,Ay,AV r.2.2.rcnt,vS r.2.2.rtag,AA r.2.2.rboots,vI r.2.2.left,vB r.2.2.off] 107),AD 9 1 As eS r.2.2.blk,AD 9 1 Ac eS r.2.2.pnd,AD 4 1 Ay eB r.2.2.bads]):=by
 unfold G7 at h
 refine TP.enter Tryz.func48 rfl rfl ?_
 refine Y (U E (U E (V (AH (Y (J E (AT E E (AF E LO (AF E PQ (AG 0 A1 E ?_))))))))))
 refine Z E (M6 (b:=4294967295)) ?_
 refine V ?_
 refine AN h E (fun hc1 h=>?_) fun hc1 h=>?_
 refine Y (U E (U E (V (AK (Ab ?_)))))
 obtain rfl:=zI h
 exact AW [0,1,2,3] 4 E E E
 refine AJ (AI (Y ?_))
 refine AE h fun y1 hy1 h=>?_
 refine J E (AS 4 Z1 (Ie hy1) E (U E (V (AH (Y (J E (Z E BJ (V ?_))))))))
 refine AN h E (fun hc2 h=>?_) fun hc2 h=>?_
 refine Y (J E (U E (U E (V (AK (Ab ?_))))))
 obtain rfl:=zI h
 exact AW [0,1,2,3] 4 E E E
 refine AJ (AI (Y (J E (AT E E (AF E LO (AF E PQ (AG 0 A1 E ?_)))))))
 refine Z E (Bv (b:=1)) ?_
 refine AT E E (AF E LO (AF E PQ (A2 0 E E E E Bg E E E zT (V (Y ?_)))))
 obtain⟨x1,ex1,h⟩:=Bu h
 refine J E (AT E E (AF E LO (AF E PQ (AG 0 A1 E ?_))))
 refine Al (u:=AA x1) E E (congrArg AA ex1) ?_
 refine U E (V (AK ?_))
 obtain rfl:=zI h
 exact AW [0,1,2,3] 4 E E E
def E6(y1:Int×Az)(o1:Az):Option (Int×Az):=
 some (y1.1,o1)
def Eu(p0:Az)(p1:List UInt8):Option (Int×Az):=
 cond (!decide ((p1.length:Int)=32))
 (
  some (2,p0))
 (
  cond (decide (p0.rcnt=18446744073709551615))
  (
   some (72,p0))
  (
   (Dd p0).bind fun y1=>
   cond (decide (y1.1=0))
   (
    E6 y1 ({ y1.2 with rcnt:=y1.2.rcnt+1,rtag:=p1 }))
   (
    E6 y1 y1.2)))
theorem MD{Ar:Nat}{As Ac Ay:Value}{p0:Az}{p1:List UInt8}{r:Int×Az}(h:Eu p0 p1=some r): zC K w0 109 [vP Ar 0,vS p1] [AL Ar (.cells #[As,Ac,Ay,AV p0.rcnt,vS p0.rtag,AA p0.rboots,vI p0.left,vB p0.off] 107),AD 9 1 As eS p0.blk,AD 9 1 Ac eS p0.pnd,AD 4 1 Ay eB p0.bads] H (fun u M=>u=vI r.1∧M=[AL Ar (.cells #[As,Ac,Ay,AV r.2.rcnt,vS r.2.rtag,AA r.2.rboots,vI r.2.left,vB r.2.off] 107),AD 9 1 As eS r.2.blk,AD 9 1 Ac eS r.2.pnd,AD 4 1 Ay eB r.2.bads]):=by
 unfold Eu at h
 refine TP.enter Tryz.func109 rfl rfl ?_
 refine Y (U E (V (AH (Y (J E (Bp E Cc E (Z E BJ (V ?_))))))))
 refine AN h E (fun hc1 h=>?_) fun hc1 h=>?_
 refine Y (U E (V (AK (Ab ?_))))
 obtain rfl:=zI h
 exact AW [0,1,2,3] 4 E E E
 refine AJ (AI (AH (Y (J E (AT E E (AF E LO (AF E PP (AG 0 Gy E ?_))))))))
 refine Z E (L7 (b:=18446744073709551615)) ?_
 refine V ?_
 refine AN h E (fun hc2 h=>?_) fun hc2 h=>?_
 refine Y (U E (V (AK (Ab ?_))))
 obtain rfl:=zI h
 exact AW [0,1,2,3] 4 E E E
 refine AJ (AI (Y ?_))
 refine AE h fun y1 hy1 h=>?_
 refine J E (AS 4 Z1 (Ie hy1) E (U E (V ?_)))
 refine A6 (α:=Az) (fun x=>E6 y1 x=some r) (fun x=>[(0,vP Ar 0),(5,vI y1.1)]) (fun x=>AL Ar (.cells #[As,Ac,Ay,AV x.rcnt,vS x.rtag,AA x.rboots,vI x.left,vB x.off] 107)::AD 9 1 As eS x.blk::AD 9 1 Ac eS x.pnd::AD 4 1 Ay eB x.bads::H) ?_ (fun o1 D h=>?_)
 refine Y (J E (Z E Bj (V ?_)))
 refine AN h E (fun hc3 h=>?_) fun hc3 h=>?_
 refine Y (J E (AT E E (AF E LO (AF E PP (AG 0 Gy E ?_)))))
 refine Z E (Hm (b:=1)) ?_
 refine AT E E (AF E LO (AF E PP (A2 0 E E E E gb E E E zT (V (AQ (J E (J E (AT E E (AF E LO ?_)))))))))
 refine AF E aC (A2 0 E E E E HA E E E zT (AZ ?_))
 exact Ap ({ y1.2 with rcnt:=y1.2.rcnt+1,rtag:=p1 }) h tL (BM [0,1,2,3] 4 rfl rfl rfl)
 refine AJ ?_
 exact Ap y1.2 h tL (BM [0,1,2,3] 4 E E E)
 unfold E6 at h
 try dsimp only
 refine Y (J E (U E (V (AK ?_))))
 obtain rfl:=zI h
 exact AW [0,1,2,3] 4 E E E
def Hq(y1:Int×Az)(o1:Az):Option (Int×Az):=
 some (y1.1,o1)
def Dm(a1:Int)(nx_f_ref07_Device_Flush_l1:Az×Int→Option (Int×Az))(o3:Az):Option (Int×Az):=
 ret (wI (a1+1)) fun i_1=>
 nx_f_ref07_Device_Flush_l1 (o3,i_1)
def D6(y1:Int×Az)(nx_f_ref07_Device_Flush_l1:Az×Int→Option (Int×Az))(o2:Az)(a1:Int):Option (Int×Az):=
 cond ((decide (a1<(o2.blk.length:Int)))&&(decide (y1.1=0)))
 (
  (BA o2.pnd a1).bind fun x1=>
  cond (!decide (x1=[]))
  (
   (BA o2.pnd a1).bind fun x2=>
   (BA o2.blk a1).bind fun x3=>
   (Np o2.blk a1 x2).bind fun l1=>
   (BA o2.pnd a1).bind fun x4=>
   (Np o2.pnd a1 []).bind fun l2=>
   Dm a1 nx_f_ref07_Device_Flush_l1 ({ o2 with blk:=l1,pnd:=l2 }))
  (
   Dm a1 nx_f_ref07_Device_Flush_l1 o2))
 (
  Hq y1 o2)
def Dn(y1:Int×Az):Nat→(Az×Int)→Option (Int×Az):=CE fun nx x=>D6 y1 nx x.1 x.2
def EZ(n:Nat)(p0:Az):Option (Int×Az):=
 (Dd p0).bind fun y1=>
 Dn y1 n (y1.2,0)
theorem JV{n Ar:Nat}{As Ac Ay:Value}{p0:Az}{r:Int×Az}(h:EZ n p0=some r): zC K w0 105 [vP Ar 0] [AL Ar (.cells #[As,Ac,Ay,AV p0.rcnt,vS p0.rtag,AA p0.rboots,vI p0.left,vB p0.off] 107),AD 9 1 As eS p0.blk,AD 9 1 Ac eS p0.pnd,AD 4 1 Ay eB p0.bads] H (fun u M=>u=vI r.1∧M=[AL Ar (.cells #[As,Ac,Ay,AV r.2.rcnt,vS r.2.rtag,AA r.2.rboots,vI r.2.left,vB r.2.off] 107),AD 9 1 As eS r.2.blk,AD 9 1 Ac eS r.2.pnd,AD 4 1 Ay eB r.2.bads]):=by
 unfold EZ at h
 refine TP.enter Tryz.func105 rfl rfl ?_
 refine Y (U E (V (Y ?_)))
 refine AE h fun y1 hy1 h=>?_
 refine J E (AS 4 Z1 (Ie hy1) E (U E (V ?_)))
 refine A6 (α:=Az) (fun x=>Hq y1 x=some r) (fun x=>[(0,vP Ar 0),(3,vI y1.1)]) (fun x=>AL Ar (.cells #[As,Ac,Ay,AV x.rcnt,vS x.rtag,AA x.rboots,vI x.left,vB x.off] 107)::AD 9 1 As eS x.blk::AD 9 1 Ac eS x.pnd::AD 4 1 Ay eB x.bads::H) ?_ (fun o1 D h=>?_)
 refine Y (U E (V (AP ?_)))
 refine SX.heap (SX.mono (BG (α:=Nat×Az×Int) (fun x=>Dn y1 x.1 (x.2.1,x.2.2)=some r) (fun x=>[(0,vP Ar 0),(3,vI y1.1),(4,vI x.2.2)]) (fun x=>AL Ar (.cells #[As,Ac,Ay,AV x.2.1.rcnt,vS x.2.1.rtag,AA x.2.1.rboots,vI x.2.1.left,vB x.2.1.off] 107)::AD 9 1 As eS x.2.1.blk::AD 9 1 Ac eS x.2.1.pnd::AD 4 1 Ay eB x.2.1.bads::H) (fun x=>x.1) (fun x D h=>?_) (n,y1.2,0) h) tL) (BM [0,1,2,3] 4 E E E)
 obtain⟨m1,o2,a1⟩:=x
 dsimp only at h
 rcases m1 with _ | m1
 cases (show(none:Option _)=some r from h)
 replace h:D6 y1 (Dn y1 m1) o2 a1=some r:=h
 unfold D6 at h
 try dsimp only
 refine AH (Y (J E (J E (AT E E (AF E P8 (AG 0 PX E (Dh 1 E EY E E (Z E A4 (J E ?_)))))))))
 refine Ce (c:=decide (y1.1=0)) 14 3 17 E (fun hb k=>?_) (fun hb k=>?_) ?_
 refine J E (Z E Bj (Ah E E E ?_))
 exact k.mono tL
 refine AC E (AC E (Ah E E E ?_))
 exact k.mono tL
 refine V ?_
 refine AN h E (fun hc1 h=>?_) fun hc1 h=>?_
 refine AJ (AI ?_)
 refine A6 (α:=Az) (fun x=>Dm a1 (Dn y1 m1) x=some r) (fun x=>[(0,vP Ar 0),(3,vI y1.1),(4,vI a1)]) (fun x=>AL Ar (.cells #[As,Ac,Ay,AV x.rcnt,vS x.rtag,AA x.rboots,vI x.left,vB x.off] 107)::AD 9 1 As eS x.blk::AD 9 1 Ac eS x.pnd::AD 4 1 Ay eB x.bads::H) ?_ (fun o3 D h=>?_)
 refine AP (Y ?_)
 refine AE h fun x1 hx1 h=>?_
 refine J E (AT E E (AF E P9 (AG 0 PX E (J E ?_))))
 refine CG 2 hx1 E EY HA E E E fun g1 m2 cp1 hv1=>?_
 refine Bq E GL E (B7 (sz:=1) (enc:=eS) 2 0 zV E hv1 hx1 E) ?_
 refine Z E Tx (V ?_)
 refine AN h E (fun hc2 h=>?_) fun hc2 h=>?_
 refine AH ?_
 refine AE h fun x2 hx2 h=>?_
 refine AE h fun x3 hx3 h=>?_
 refine AE h fun l1 hl1 h=>?_
 refine Aw DC [0,2] (CF [(true,0),(true,1),(true,2),(true,3),(true,4),(true,5),(true,6),(true,7),(true,8),(true,9),(true,10),(true,11),(true,12)] (.last 13 .nil)) zK (J E (AT E E (AF E P8 (AG 0 PX E (J E (J E (AT E E ?_)))))))
 refine AF E P9 (AG 0 PX E (J E ?_))
 refine CG 2 hx2 E EY HA E E E fun g2 m3 cp2 hv2=>?_
 refine Bq E GL E (B7 (sz:=1) (enc:=eS) 1 0 zV E hv2 hx2 E) ?_
 refine CG 1 hx3 E EY HA E E E fun g3 m4 cp3 hv3=>?_
 refine Bc ?_
 refine F6 (sz:=1) (enc:=eS) 1 hl1 zV rfl rfl rfl rfl rfl hv3 HA (by first | (simp[Value.oneCell'];done) | simp[eS,Value.oneCell']) trivial ?_
 refine V (AQ ?_)
 refine AE h fun x4 hx4 h=>?_
 refine AE h fun l2 hl2 h=>?_
 refine J E (AT E E (AF E P9 (AG 0 PX E (J E ?_))))
 refine CG 2 hx4 E EY HA E E E fun g4 m5 cp4 hv4=>?_
 refine F6 (sz:=1) (enc:=eS) 2 hl2 zV rfl rfl rfl rfl rfl hv4 HA (by first | (simp[Value.oneCell'];done) | simp[eS,Value.oneCell']) trivial ?_
 refine AZ (Am ?_)
 exact Ap ({ o2 with blk:=l1,pnd:=l2 }) h tL (BM [0,1,2,3] 4 rfl rfl rfl)
 refine AJ (Am ?_)
 exact Ap o2 h tL (BM [0,1,2,3] 4 E E E)
 unfold Dm at h
 try dsimp only
 refine AQ ?_
 obtain⟨i_1,ei_1,h⟩:=Bu h
 refine J E (Z E Bf ?_)
 refine Al (u:=vI i_1) E E (congrArg vI ei_1) ?_
 refine AZ ?_
 exact Au (m1,o3,i_1) h (Nat.lt_succ_self _) tL (BM [0,1,2,3] 4 E E E)
 refine Ax (A3 (BZ (A5 ?_)))
 exact Ap o2 h tL (BM [0,1,2,3] 4 E E E)
 unfold Hq at h
 try dsimp only
 refine Y (J E (U E (V (AK ?_))))
 obtain rfl:=zI h
 exact AW [0,1,2,3] 4 E E E
def I5(n:Nat)(p0:List BK):Option (UInt32×Int):=
 (Gr n p0).bind fun y1=>
 cond (!y1)
 (
  some (0,40))
 (
  cond (decide ((p0.length:Int)=0))
  (
   some (0,41))
  (
   (BA p0 (wI ((p0.length:Int)-1))).bind fun x1=>
   some (x1.gen,0)))
theorem WB{n:Nat}{DA:Value}{p0:List BK}{r:UInt32×Int}(h:I5 n p0=some r)(hs0_:B6 K w0 Aa 2 DA p0):zC K w0 46 [DA] [] H (fun u M=>u=.tuple #[AA r.1,vI r.2]∧M=[]):=by
 unfold I5 at h
 refine TP.enter Tryz.func46 rfl rfl ?_
 refine Y (U E (U E (V (Y ?_))))
 refine AE h fun y1 hy1 h=>?_
 refine J E (AS 0 dx (Ob hy1 hs0_) E (U E (V (AH (Y (J E (CS E E (V ?_))))))))
 refine AN h E (fun hc1 h=>?_) fun hc1 h=>?_
 refine Y (U E (U E (V (AK (Ab ?_)))))
 obtain rfl:=zI h
 exact AW [] 0 E E E
 refine AJ (AI (AH (Y (J E (B1 hs0_ E GR E (Z E Bj (V ?_)))))))
 refine AN h E (fun hc2 h=>?_) fun hc2 h=>?_
 refine Y (U E (U E (V (AK (Ab ?_)))))
 obtain rfl:=zI h
 exact AW [] 0 E E E
 refine AJ (AI (Y ?_))
 refine AE h fun x1 hx1 h=>?_
 refine J E (J E (B1 hs0_ E GR E (Z E DZ ?_)))
 refine C4 hx1 hs0_ E GR E2 E E fun be1 of1 hc3=>?_
 refine AF E FR ?_
 refine Bq E A1 E (Dc (j:=0) hc3 E) ?_
 refine U E (U E (V (AK ?_)))
 obtain rfl:=zI h
 exact AW [] 0 E E E
def Hf(n:Nat)(T:List UInt32)(p0:BX)(p0_1:Az)(p1:UInt32)(p2:List UInt8):Option (List UInt8×Int×BX×Az):=
 cond (decide (1<p1))
 (
  some ([],2,p0,p0_1))
 (
  cond (decide (198<(p2.length:Int)))
  (
   some ([],50,p0,p0_1))
  (
   (Ev n T p0 p0_1 p1 p2).bind fun y1=>
   some (y1.1,y1.2.1,y1.2.2.1,y1.2.2.2)))
theorem Ni{n Ar BC:Nat}{T:List UInt32}{Ac BV Dj BY Dk:Value}{p0:BX}{p0_1:Az}{p1:UInt32}{p2:List UInt8}{r:List UInt8×Int×BX×Az}(h:Hf n T p0 p0_1 p1 p2=some r)(hT:I0 K w0 2 64 T):zC K w0 108 [vP Ar 0,AA p1,vS p2] [AL Ar (.cells #[vP BC 0,Ac,AA p0.gen,AA p0.boot,AV p0.num,BV] 153),AD 114 2 Ac Aa p0.ring,AD 4 1 BV eB p0.taken,AL BC (.cells #[Dj,BY,Dk,AV p0_1.rcnt,vS p0_1.rtag,AA p0_1.rboots,vI p0_1.left,vB p0_1.off] 107),AD 9 1 Dj eS p0_1.blk,AD 9 1 BY eS p0_1.pnd,AD 4 1 Dk eB p0_1.bads] H (fun u M=>u=.tuple #[vS r.1,vI r.2.1]∧M=[AL Ar (.cells #[vP BC 0,Ac,AA r.2.2.1.gen,AA r.2.2.1.boot,AV r.2.2.1.num,BV] 153),AD 114 2 Ac Aa r.2.2.1.ring,AD 4 1 BV eB r.2.2.1.taken,AL BC (.cells #[Dj,BY,Dk,AV r.2.2.2.rcnt,vS r.2.2.2.rtag,AA r.2.2.2.rboots,vI r.2.2.2.left,vB r.2.2.2.off] 107),AD 9 1 Dj eS r.2.2.2.blk,AD 9 1 BY eS r.2.2.2.pnd,AD 4 1 Dk eB r.2.2.2.bads]):=by
 unfold Hf at h
 refine TP.enter Tryz.func108 rfl rfl ?_
 refine Y (U E (U E (V (AH (Y (J E ?_))))))
 refine Z E (SV (b:=1)) ?_
 refine V ?_
 refine AN h E (fun hc1 h=>?_) fun hc1 h=>?_
 refine Y (U E (U E (V (AK (Ab ?_)))))
 obtain rfl:=zI h
 exact AW [0,1,2,3,4,5,6] 7 E E E
 refine AJ (AI (AH (Y (J E (Bp E Cc E (Z E Ci (V ?_)))))))
 refine AN h E (fun hc2 h=>?_) fun hc2 h=>?_
 refine Y (U E (U E (V (AK (Ab ?_)))))
 obtain rfl:=zI h
 exact AW [0,1,2,3,4,5,6] 7 E E E
 refine AJ (AI (Y ?_))
 refine AE h fun y1 hy1 h=>?_
 refine J E (J E (J E (AS 7 fh (Nj hy1 hT) E (Ae E E E (Ae E E E (U E (U E (V (AK ?_)))))))))
 obtain rfl:=zI h
 exact AW [0,1,2,3,4,5,6] 7 E E E
def Gu(p0:Ec):Option Bool:=
 (Ft (⟨p0.page,p0.tag⟩:BS)).bind fun y1=>
 ret ((((decide (0<p0.cnt))&&(decide (0<p0.gen)))&&(decide (p0.rows≤1000)))&&y1) fun x1=>
 some x1
theorem Rj{p0:Ec}{r:Bool}(h:Gu p0=some r): zC K w0 139 [.agg (HS p0).toArray] [] H (fun u M=>u=vB r∧M=[]):=by
 unfold Gu at h
 refine TP.enter Tryz.func139 rfl rfl ?_
 refine Y ?_
 refine Ba E E zU fun b1=>?_
 refine U E (V (Y ?_))
 refine AE h fun y1 hy1 h=>?_
 refine AF rfl QC (Aq [AA p0.page,vS p0.tag] rfl C5 rfl rfl (Cj 0 rfl (by rintro(_ | (_ | j)) u hj<;>first | exact hj | exact absurd hj zS)) (AS 0 Zu ((MP hy1 :)) rfl (U rfl (V (Y ?_)))))
 obtain⟨x1,ex1,h⟩:=Bu h
 refine AF E LP (AG 0 Gy E ?_)
 refine Z E (M7 (b:=0)) ?_
 refine J E ?_
 refine Ce (c:=decide (0<p0.gen)) 10 4 14 E (fun hb k=>?_) (fun hb k=>?_) ?_
 refine AF E Uf (AG 0 A1 E ?_)
 refine Z E (SV (b:=0)) ?_
 refine Ah E E E ?_
 exact k.mono tL
 refine AC E (AC E (AC E (Ah E E E ?_)))
 exact k.mono tL
 refine J E ?_
 refine Ce (c:=decide (p0.rows≤1000)) 15 4 19 E (fun hb k=>?_) (fun hb k=>?_) ?_
 refine AF E Ug (AG 0 A1 E ?_)
 refine Z E (M8 (b:=1000)) ?_
 refine Ah E E E ?_
 exact k.mono tL
 refine AC E (AC E (AC E (Ah E E E ?_)))
 exact k.mono tL
 refine J E ?_
 refine Ce (c:=y1) 20 2 22 E (fun hb k=>?_) (fun hb k=>?_) ?_
 refine J E (Ah E E E ?_)
 exact k.mono tL
 refine AC E (Ah E E E ?_)
 exact k.mono tL
 refine Al (u:=vB x1) E E (congrArg vB ex1) ?_
 refine V (AK ?_)
 obtain rfl:=zI h
 exact AW [] 1 E E E
def Ny(a1:List UInt8):Option (List UInt8):=
 some a1
def Mj(p1:Int)(nx_f_ref15_put_l1:UInt64×List UInt8×Int→Option (List UInt8))(a2:UInt64)(a3:List UInt8)(a4:Int):Option (List UInt8):=
 cond (decide (a4<p1))
 (
  (ED a3 [a2.toUInt8]).bind fun s1=>
  (Qv a2 256).bind fun q1=>
  ret (wI (a4+1)) fun i_1=>
  nx_f_ref15_put_l1 (q1,s1,i_1))
 (
  Ny a3)
def Nz(p1:Int):Nat→(UInt64×List UInt8×Int)→Option (List UInt8):=CE fun nx x=>Mj p1 nx x.1 x.2.1 x.2.2
def Hg(n:Nat)(p0:UInt64)(p1:Int):Option (List UInt8):=
 Nz p1 n (p0,[],0)
theorem OC{n:Nat}{p0:UInt64}{p1:Int}{r:List UInt8}(h:Hg n p0 p1=some r): zC K w0 140 [AV p0,vI p1] [] H (fun u M=>u=vS r∧M=[]):=by
 unfold Hg at h
 refine TP.enter Tryz.func140 rfl rfl ?_
 refine Y (U E (V (Y (U E (V ?_)))))
 refine A6 (α:=List UInt8) (fun x=>Ny x=some r) (fun x=>[(5,vS x)]) (fun x=>H) ?_ (fun a1 D h=>?_)
 refine Y (U E (V (AP ?_)))
 refine SX.heap (SX.mono (BG (α:=Nat×UInt64×List UInt8×Int) (fun x=>Nz p1 x.1 (x.2.1,x.2.2.1,x.2.2.2)=some r) (fun x=>[(0,AV x.2.1),(1,vI p1),(5,vS x.2.2.1),(6,vI x.2.2.2)]) (fun x=>H) (fun x=>x.1) (fun x D h=>?_) (n,p0,[],0) h) tL) (BM [] 0 E E E)
 obtain⟨m1,a2,a3,a4⟩:=x
 dsimp only at h
 rcases m1 with _ | m1
 cases (show(none:Option _)=some r from h)
 replace h:Mj p1 (Nz p1 m1) a2 a3 a4=some r:=h
 unfold Mj at h
 try dsimp only
 refine AH (Y (J E (J E (Z E A4 (V ?_)))))
 refine AN h E (fun hc1 h=>?_) fun hc1 h=>?_
 refine AJ (AI (AH (AP (Y ?_))))
 refine AE h fun s1 hs1 h=>?_
 refine J E (J E (BB E E (FC DJ DE) ?_))
 refine B9 [_] rfl CV JX KP ⟨rfl,trivial⟩ rfl rfl rfl zW rfl rfl zU fun b1=>?_
 refine CA FN 1 ([a2.toUInt8]:List UInt8) E zV E ?_
 refine Gb 0 E CV DE Cc E E (Z E (CK hs1) (U E (V (AQ ?_))))
 refine AE h fun q1 hq1 h=>?_
 refine J E ?_
 refine Z E (PB (b:=256) hq1) ?_
 refine U E (AZ (Am (AI (AQ ?_))))
 obtain⟨i_1,ei_1,h⟩:=Bu h
 refine J E (Z E Bf ?_)
 refine Al (u:=vI i_1) E E (congrArg vI ei_1) ?_
 refine AZ ?_
 exact Au (m1,q1,s1,i_1) h (Nat.lt_succ_self _) tL (BM [] 1 E E E)
 refine Ax (A3 (BZ (A5 ?_)))
 exact Ap a3 h tL (BM [] 0 E E E)
 unfold Ny at h
 try dsimp only
 refine Y (J E (U E (V (AK ?_))))
 obtain rfl:=zI h
 exact AW [] 0 E E E
def I7(n:Nat)(p0:Ec):Option (List UInt8×Int):=
 (Gu p0).bind fun y1=>
 cond (!y1)
 (
  some ([],120))
 (
  (Hg n p0.cnt 8).bind fun y2=>
  (ED [115,112,104,114] y2).bind fun s1=>
  (Hg n p0.gen.toUInt64 4).bind fun y3=>
  (ED s1 y3).bind fun s2=>
  (Hg n p0.rows.toUInt64 4).bind fun y4=>
  (ED s2 y4).bind fun s3=>
  (Hg n p0.page.toUInt64 4).bind fun y5=>
  (ED s3 y5).bind fun s4=>
  (ED s4 p0.tag).bind fun s5=>
  some (s5,0))
theorem RA{n:Nat}{p0:Ec}{r:List UInt8×Int}(h:I7 n p0=some r): zC K w0 107 [.agg (HS p0).toArray] [] H (fun u M=>u=.tuple #[vS r.1,vI r.2]∧M=[]):=by
 unfold I7 at h
 refine TP.enter Tryz.func107 rfl rfl ?_
 refine Y ?_
 refine Ba E E zU fun b1=>?_
 refine U E (U E (V (Y ?_)))
 refine AE h fun y1 hy1 h=>?_
 refine Aq [AV p0.cnt,AA p0.gen,AA p0.rows,AA p0.page,vS p0.tag] E Id E E (Aj 0 E) (AS 0 fg ((Rj hy1 :)) E (U E (V (AH (Y (J E (CS E E (V ?_))))))))
 refine AN h E (fun hc1 h=>?_) fun hc1 h=>?_
 refine Y (U E (U E (V (AK (Ab ?_)))))
 obtain rfl:=zI h
 exact AW [] 1 E E E
 refine AJ (AI (AH ?_))
 refine AE h fun y2 hy2 h=>?_
 refine AE h fun s1 hs1 h=>?_
 refine AE h fun y3 hy3 h=>?_
 refine AE h fun s2 hs2 h=>?_
 refine AE h fun y4 hy4 h=>?_
 refine AE h fun s3 hs3 h=>?_
 refine AE h fun y5 hy5 h=>?_
 refine AE h fun s4 hs4 h=>?_
 refine AE h fun s5 hs5 h=>?_
 refine Aw DC [0] (CF [(true,0),(true,1),(true,4),(true,5),(true,6),(true,9),(true,10),(true,11),(true,14),(true,15),(true,16),(true,17),(true,20),(true,21),(true,22),(false,2),(true,3),(false,7),(true,8),(false,12),(true,13),(false,18),(false,19)] (.last 23 (Cz [(false,24),(false,25)]))) zK (AF E LP (AG 0 Gy E (AF E Uf (AG 0 A1 E (BB E E (Cl CJ DJ) (AF E Ug (AG 0 A1 E ?_)))))))
 refine BB E E (Cl CJ DJ) (AF E QC (AF E FS (AG 0 A1 E (BB E E (Cl CJ DJ) (AF E QC (AF E Mp (AG 0 GL E ?_)))))))
 refine BW 0 WP (OC hy2) E ⟨⟨0,E⟩,zT⟩ (Z E (CK hs1) (BW 0 WP (OC hy3) E ⟨⟨0,E⟩,zT⟩ (Z E (CK hs2) (BW 0 WP (OC hy4) E ⟨⟨0,E⟩,zT⟩ (Z E (CK hs3) (BW 0 WP (OC hy5) E ⟨⟨0,E⟩,zT⟩ (Z E (CK hs4) (Bc ?_))))))))
 refine Z E (CK hs5) (U E (U E (V (AK ?_))))
 obtain rfl:=zI h
 exact AW [] 1 E E E
def LL(p0:UInt64)(p1:UInt32)(p2:Int)(p3:BS):Option (Ec×Int):=
 cond (decide (p0=18446744073709551615))
 (
  some ((⟨0,0,0,0,[]⟩:Ec),72))
 (
  cond ((decide (p2<0))||(decide (1000<p2)))
  (
   some ((⟨0,0,0,0,[]⟩:Ec),120))
  (
   (Gu (⟨p0+1,p1,EL p2,p3.page,p3.tag⟩:Ec)).bind fun y1=>
   cond (!y1)
   (
    some ((⟨0,0,0,0,[]⟩:Ec),120))
   (
    some ((⟨p0+1,p1,EL p2,p3.page,p3.tag⟩:Ec),0))))
theorem TC{p0:UInt64}{p1:UInt32}{p2:Int}{p3:BS}{r:Ec×Int}(h:LL p0 p1 p2 p3=some r): zC K w0 106 [AV p0,AA p1,vI p2,.agg (Bt p3).toArray] [] H (fun u M=>u=.tuple #[.agg (HS r.1).toArray,vI r.2]∧M=[]):=by
 unfold LL at h
 refine TP.enter Tryz.func106 rfl rfl ?_
 refine Y ?_
 refine Ba E E zU fun b1=>?_
 refine Ak E LB zU fun b2=>?_
 refine U E (V (AH (Y (J E ?_))))
 refine Z E (L7 (b:=18446744073709551615)) ?_
 refine V ?_
 refine AN h E (fun hc1 h=>?_) fun hc1 h=>?_
 refine Y (B0 [] E To Tn LB zT E (A2 0 E E E E Mu E E E zT (U E (V (AK (Ab ?_))))))
 obtain rfl:=zI h
 exact Ag (D7 E (B8 0 (HS (⟨0,0,0,0,[]⟩:Ec)) Id E E E E) E) (Af (M:=[]) ⟨E,E⟩ fun _ hw=>BT.pick (H:=[_,_]) hw [] 2 E)
 refine AJ (AI (AH (Y (J E (Z E A4 (J E ?_))))))
 refine Ee (c:=decide (1000<p2)) 17 3 20 E (fun hb k=>?_) (fun hb k=>?_) ?_
 refine AC E (AC E (Ah E E E ?_))
 exact k.mono tL
 refine J E (Z E Ci (Ah E E E ?_))
 exact k.mono tL
 refine V ?_
 refine AN h E (fun hc2 h=>?_) fun hc2 h=>?_
 refine Y (B0 [] E To Tn LB zT E (A2 0 E E E E Mu E E E zT (U E (V (AK (Ab ?_))))))
 obtain rfl:=zI h
 exact Ag (D7 E (B8 0 (HS (⟨0,0,0,0,[]⟩:Ec)) Id E E E E) E) (Af (M:=[]) ⟨E,E⟩ fun _ hw=>BT.pick (H:=[_,_]) hw [] 2 E)
 refine AJ (AI (Y (J E ?_)))
 refine Z E (Hm (b:=1)) ?_
 refine J E (J E (BB E E (Nc IZ CJ) (Aq [AA p3.page,vS p3.tag] E C5 E E (Aj 1 E) (B0 [_,_,_,_] E To Tn LB ⟨E,E,E,E,zT⟩ E ?_))))
 refine Ak E LB zU fun b3=>?_
 refine A2 0 E E E E Mu E E E zT (V (Y ?_))
 refine AE h fun y1 hy1 h=>?_
 refine Aq [AV (p0+1),AA p1,AA (EL p2),AA p3.page,vS p3.tag] E Id E E (Aj 0 E) (AS 0 fg ((Rj hy1 :)) E (U E (V (AH (Y (J E (CS E E (V ?_))))))))
 refine AN h E (fun hc3 h=>?_) fun hc3 h=>?_
 refine Y (B0 [] E To Tn LB zT E (A2 1 E E E E Mu E E E zT (U E (V (AK (Ab ?_))))))
 obtain rfl:=zI h
 exact Ag (D7 E (B8 1 (HS (⟨0,0,0,0,[]⟩:Ec)) Id E E E E) E) (Af (M:=[]) ⟨E,E⟩ fun _ hw=>BT.pick (H:=[_,_,_]) hw [] 3 E)
 refine AJ (AI (Y (Aq [AV (p0+1),AA p1,AA (EL p2),AA p3.page,vS p3.tag] E Id E E (Aj 0 E) (A2 1 E E E E Mu E E E zT (U E (V (AK ?_)))))))
 obtain rfl:=zI h
 exact Ag (D7 E (B8 1 (HS (⟨p0+1,p1,EL p2,p3.page,p3.tag⟩:Ec)) Id E E E E) E) (Af (M:=[]) ⟨E,E⟩ fun _ hw=>BT.pick (H:=[_,_,_]) hw [] 3 E)
end

section
variable {K:Nat→Prop}{w0:World}{H:List AX}
def aN(l:List (List UInt8))(s:List UInt8):Option (List UInt8):=if s=[]∧2≤l.length∧l.length≤1000000∧0<l.flatten.length∧l.flatten.length≤1000000 then some l.flatten else none
theorem Qj{l:List (List UInt8)}{i:Nat}{x:List UInt8}(h:l[i]? = some x):(l.take (i+1)).flatten=(l.take i).flatten++x:=by
 obtain⟨hlt,hg⟩:=List.getElem?_eq_some_iff.1 h
 rw[←List.take_append_getElem hlt,hg]
 simp
theorem Te(l:List (List UInt8))(i:Nat):(l.take i).flatten.length≤l.flatten.length:=by
 have:l.flatten=(l.take i).flatten++(l.drop i).flatten:=by rw[←List.flatten_append,List.take_append_drop]
 rw[this,List.length_append]
 omega
theorem oY{v0:Value}{l:List (List UInt8)}{s r:List UInt8}(h:aN l s=some r)(hs0:B6 K w0 eS 1 v0 l):zC K w0 213 [v0,vS s] [] H (fun u M=>u=vS r∧M=[]):=by
 unfold aN at h
 split at h
 rotate_left
 cases h
 rename_i hl
 obtain⟨rfl,h2,h3,h0,h4⟩:=hl
 obtain rfl:=zI h
 refine TP.enter Tryz.func213 rfl rfl ?_
 refine Y (U E (V (AH (Y (J E (B1 hs0 E EY E (V (AP (Y (Z E Bj (U E (V ?_))))))))))))
 refine Av E (fun hc1=>absurd (of_decide_eq_true hc1) zO) (fun _=>?_)
 refine Y (Z E Bj (U E (V ?_)))
 refine Av E (fun hc1=>absurd (of_decide_eq_true hc1) zO) (fun _=>?_)
 refine AJ (Am (AI (Y (U E (V (AH (Y (J E (Bp E Cc E (Z E Ci (V ?_)))))))))))
 refine Av E (fun hc1=>absurd hc1 zD) (fun _=>?_)
 refine AJ (AI (AH (Y (J E (B1 hs0 E EY E (J E (V (AP ?_))))))))
 refine SX.mono (BG (α:=Nat) (fun i=>i≤l.length) (fun i=>[(0,v0),(1,vS []),(4,vS []),(5,vI ((l.take i).flatten.length:Nat)),(39,v0),(40,vI (l.length:Int)),(41,vI i)]) (fun _=>H) (fun i=>l.length-i) (fun i D hp=>?_) 0 (Nat.zero_le _)) tL
 refine Y (Z E A4 (V (AH ?_)))
 refine Av E (fun hc1=>?_) (fun hc1=>?_)
 have hlt:i<l.length:=by
  have:=of_decide_eq_true hc1
  omega
 obtain⟨x,hx⟩:∃x,l[i]? = some x:=⟨_,List.getElem?_eq_getElem hlt⟩
 have hn:BA l (i:Int)=some x:=by rw[HK];exact hx
 have hf:=Qj hx
 have hfl:=Te l (i+1)
 rw[hf,List.length_append]at hfl
 refine AJ (AI (AH (AP (Y ?_))))
 refine C4 hn hs0 E EY HA E E fun be of hc=>?_
 refine Bq E GL E (Dc (j:=0) hc E) ?_
 refine U E (V (AH (Y (J E (Bp E Cc E (J E (Z E (Dx zO zO) (Z E Ci (V ?_)))))))))
 refine Av E (fun hc1=>absurd (of_decide_eq_true hc1) zO) (fun _=>?_)
 refine AJ (AI (AQ (J E (J E (Bp E Cc E (Z E (Bb zO zO) ?_))))))
 refine Al (u:=vI ((l.take (i+1)).flatten.length:Nat)) E E (congrArg vI (by rw[hf,List.length_append];rfl)) ?_
 refine AZ (Am (AI (AQ (Z E (Bb zO zO) (J E (AZ ?_))))))
 exact Au (i+1) zO zO tL (fun _ hw=>hw)
 have hi:i=l.length:=by
  have:=of_decide_eq_false hc1
  omega
 subst hi
 rw[List.take_length]
 refine Ax (A3 (BZ (A5 (AI (Y ?_)))))
 refine Ak E YD zU fun b0=>?_
 refine V (Y (J E (BN 1 jy (bc b0 _ _ (.inl E) h0 zO) E ?_)))
 rintro _ _ ⟨rfl,v1,rfl⟩
 refine V ?_
 have hn0:BA l 0=some (l[0]' zO):=by
  have:=HK (l:=l) (i:=0)
  rw[List.getElem?_eq_getElem zO]at this
  exact this
 have hf0:(l.take (0+1)).flatten=l[0]' zO:=by
  have:=Qj (List.getElem?_eq_getElem (l:=l) (i:=0) zO)
  simpa using this
 have hfl0:=Te l (0+1)
 rw[hf0]at hfl0
 refine Y (J E ?_)
 refine C4 hn0 hs0 E EY HA E E fun be of hc=>?_
 refine Bq E GL E (Dc (j:=0) hc E) ?_
 refine BN 2 Rp (Gg 136 b0 _ v1 0 [] _ (.inr E) Qn zO) E ?_
 rintro _ _ ⟨rfl,v2,rfl⟩
 refine V ?_
 have hcut:Ku l 1 (l.length:Int)=some (l.drop 1):=by
  unfold Ku
  rw[if_pos zO]
  congr 1
  exact List.take_of_length_le zS
 refine AH (Y (J E ?_))
 refine bW hcut hs0 E EY HA E E fun v3 hs3=>?_
 refine B1 hs3 E EY E (J E (V (AP ?_)))
 refine SX.heap (SX.mono (BG (α:=Nat×Value) (fun x=>x.1+1≤l.length) (fun x=>[(1,vS []),(4,vS []),(8,vP b0 0),(63,v3),(64,vI ((l.drop 1).length:Int)),(65,vI x.1)])
  (fun x=>AL b0 (.cells #[vP b0 0,x.2] 136)::DN 5 1 x.2 (l.take (x.1+1)).flatten.length ((l.take (x.1+1)).flatten.map fun b=>EB b)::H) (fun x=>l.length-x.1) (fun x D hp=>?_) (0,v2) (by dsimp only;omega)) tL) (fun _ hw=>by
   dsimp only
   rw[hf0]
   simpa using hw)
 obtain⟨i,v⟩:=x
 dsimp only at hp ⊢
 refine Y (Z E A4 (V (AH ?_)))
 refine Av E (fun hc1=>?_) (fun hc1=>?_)
 have hlt:i+1<l.length:=by
  have:=of_decide_eq_true hc1
  rw[List.length_drop]at this
  omega
 obtain⟨x,hx⟩:∃x,l[i+1]? = some x:=⟨_,List.getElem?_eq_getElem hlt⟩
 have hn:BA (l.drop 1) (i:Int)=some x:=by rw[HK,List.getElem?_drop,Nat.add_comm];exact hx
 have hf:=Qj hx
 have hfl:=Te l (i+1+1)
 rw[hf,List.length_append]at hfl
 refine AJ (AI (AH (AP (Y ?_))))
 refine C4 hn hs3 E EY HA E E fun be of hc=>?_
 refine Bq E GL E (Dc (j:=0) hc E) ?_
 refine U E (V (Y (J E (BN 2 Rp (Gg 136 b0 _ v _ _ [] (.inr E) Qn (by simp only[List.length_nil];omega)) E ?_))))
 rintro _ _ ⟨rfl,v4,rfl⟩
 refine V (AQ (J E (BN 2 Rp (Gg 136 b0 _ v4 _ _ x (.inr E) Qn (by simp only[List.length_nil];omega)) E ?_)))
 rintro _ _ ⟨rfl,v5,rfl⟩
 refine AZ (Am (AI (AQ (Z E (Bb zO zO) (J E (AZ ?_))))))
 exact Au (i+1,v5) (by dsimp only;omega) (by dsimp only;omega) tL (fun _ hw=>by
  dsimp only
  rw[hf]
  simpa using hw)
 have hi:i+1=l.length:=by
  have:=of_decide_eq_false hc1
  rw[List.length_drop]at this
  omega
 rw[hi,List.take_length]
 refine Ax (A3 (BZ (A5 (AI (Y (AS 2 Pc (JJ 136 b0 _ v _ l.flatten zO) E (U E (V (AK ?_)))))))))
 exact Ag (Ck E E) (Af (M:=[]) ⟨E,E⟩ fun _ h=>h.skip [_,_])
end

section
variable {K:Nat→Prop}{w0:World}{H:List AX}
def Um(l:List BK):Option (List BK):=DM 24 [] l
theorem i0{v:Value}{l r:List BK}(h:Um l=some r)(hs:B6 K w0 Aa 2 v l):zC K w0 65 [v] [] H (fun u M=>∃v0:Value,u=v0∧M=[AD 114 2 v0 Aa r]):=by
 unfold Um at h
 have hn:(v=.slice none 0 0∧l=[])∨∃a n c,v=.slice (some a) n c:=by
  rcases hs.at_ with⟨a,rfl,e⟩ | ⟨b,off,cap,rfl,_⟩
  cases a with
  | none=>exact .inl ⟨rfl,e⟩
  | some a=>exact .inr ⟨_,_,_,rfl⟩
  exact .inr ⟨_,_,_,rfl⟩
 refine TP.enter Tryz.func65 rfl rfl ?_
 refine Y (U E (V ?_))
 rcases hn with⟨rfl,rfl⟩ | ⟨a,n,c,rfl⟩
 refine AH (Y (J E (T6 E GR E E (V (Pz E (Y (U E (V (AK (Ab (OV 114 2 Aa ?_)))))))))))
 obtain rfl:r=[]:=by
  rw[DM,if_pos zS]at h
  simpa using h.symm
 exact Bo [0] 1 (Ck E E) E E ⟨_,E,E⟩
 refine AH (Y (J E (T6 E GR E E (V (Cx E (AJ (AI (Y ?_))))))))
 refine Wf E GR E2 zU fun b1=>?_
 refine CA Aa 2 ([]:List BK) E zV E ?_
 refine J E ?_
 refine RS 0 h hs (sz:=2) (enc:=Aa) zV E GR E2 df JZ E zD E E E (by simp[Aa,Value.oneCell']) zU fun v1=>?_
 refine U E (V (AK ?_))
 exact Bo [0] 1 (Ck E E) E E ⟨_,E,E⟩
def Ut(l:List BK):Option Bool:=if l.length≤1099511627776 then some (DT l)else none
theorem i3{v:Value}{l:List BK}{r:Bool}(h:Ut l=some r)(hk:B6 K w0 Aa 2 v l):zC K w0 62 [v] [] H (fun u M=>u=vB r∧M=[]):=by
 unfold Ut at h
 split at h
 rename_i hl
 obtain rfl:=zI h
 exact Pb v l hk hk.cells1 hl
 cases h
end

section
variable {K:Nat→Prop}{w0:World}{H:List AX}
def H9(p0:List BK):Option (UInt32×Int):=
 (Ut p0).bind fun y1=>
 ret (!y1) fun x1=>
 cond x1
 (
  some (0,40))
 (
  ret (decide ((p0.length:Int)=0)) fun x2=>
  cond x2
  (
   some (0,41))
  (
   (BA p0 (wI ((p0.length:Int)-1))).bind fun x3=>
   some (x3.gen,0)))
theorem Rc{DA:Value}{p0:List BK}{r:UInt32×Int}(h:H9 p0=some r)(hs0_:B6 K w0 Aa 2 DA p0):zC K w0 42 [DA] [] H (fun u M=>u=.tuple #[AA r.1,vI r.2]∧M=[]):=by
 unfold H9 at h
 refine TP.enter Tryz.func42 rfl rfl ?_
 refine Y (U E (U E (V (AH (AP (Y ?_))))))
 refine AE h fun y1 hy1 h=>?_
 obtain⟨x1,ex1,h⟩:=Bu h
 refine J E (AS 0 dw (i3 hy1 hs0_) E (CS E E ?_))
 refine Al (u:=vB x1) E E (congrArg vB ex1) ?_
 refine V ?_
 refine AN h E (fun hc1 h=>?_) fun hc1 h=>?_
 refine Y (U E (U E (V (AK (A8 (Ab ?_))))))
 obtain rfl:=zI h
 exact AW [] 0 E E E
 refine Y ?_
 obtain⟨x2,ex2,h⟩:=Bu h
 refine J E (B1 hs0_ E GR E (Z E Bj ?_))
 refine Al (u:=vB x2) E E (congrArg vB ex2) ?_
 refine V ?_
 refine AN h E (fun hc2 h=>?_) fun hc2 h=>?_
 refine Y (U E (U E (V (AK (A8 (Ab ?_))))))
 obtain rfl:=zI h
 exact AW [] 0 E E E
 refine AJ (Am (AI (Y ?_)))
 refine AE h fun x3 hx3 h=>?_
 refine J E (J E (B1 hs0_ E GR E (Z E DZ ?_)))
 refine C4 hx3 hs0_ E GR E2 E E fun be1 of1 hc3=>?_
 refine AF E FR ?_
 refine Bq E A1 E (Dc (j:=0) hc3 E) ?_
 refine U E (U E (V (AK ?_)))
 obtain rfl:=zI h
 exact AW [] 0 E E E
def JR(p0:Ec):Option Bool:=
 (Ju (((decide (0<p0.cnt))&&(decide (0<p0.gen)))&&(decide (p0.rows≤1000))) ((Do (⟨p0.page,p0.tag⟩:BS)).bind fun y1=>some (y1))).bind fun y2=>
 some y2
theorem TD{p0:Ec}{r:Bool}(h:JR p0=some r): zC K w0 134 [.agg (HS p0).toArray] [] H (fun u M=>u=vB r∧M=[]):=by
 unfold JR at h
 refine TP.enter Tryz.func134 rfl rfl ?_
 refine Y ?_
 refine Ba E E zU fun b1=>?_
 refine U E (V (Y ?_))
 refine AE h fun y2 hy2 h=>?_
 refine AF E LP (AG 0 Gy E ?_)
 refine Z E (M7 (b:=0)) ?_
 refine J E ?_
 refine Ce (c:=decide (0<p0.gen)) 6 4 10 E (fun hb k=>?_) (fun hb k=>?_) ?_
 refine AF E Uf (AG 0 A1 E ?_)
 refine Z E (SV (b:=0)) ?_
 refine Ah E E E ?_
 exact k.mono tL
 refine AC E (AC E (AC E (Ah E E E ?_)))
 exact k.mono tL
 refine J E ?_
 refine Ce (c:=decide (p0.rows≤1000)) 11 4 15 E (fun hb k=>?_) (fun hb k=>?_) ?_
 refine AF E Ug (AG 0 A1 E ?_)
 refine Z E (M8 (b:=1000)) ?_
 refine Ah E E E ?_
 exact k.mono tL
 refine AC E (AC E (AC E (Ah E E E ?_)))
 exact k.mono tL
 refine J E ?_
 refine Ga 16 4 20 hy2 E (fun hb hg3 k=>?_) (fun hb k=>?_) ?_
 obtain⟨y1,hy1,hg3⟩:=E3 hg3
 obtain rfl:=zI hg3
 refine AF rfl QC (Aq [AA p0.page,vS p0.tag] rfl C5 rfl rfl (Cj 0 rfl (by rintro(_ | (_ | j)) u hj<;>first | exact hj | exact absurd hj zS)) (AS 0 Zt ((ND hy1 :)) rfl (Ah rfl rfl rfl ?_)))
 exact k.mono tL
 refine AC E (AC E (AC E (Ah E E E ?_)))
 exact k.mono tL
 refine U E (V (AK ?_))
 obtain rfl:=zI h
 exact AW [] 1 E E E
def NK(l1:List UInt8):Option (List UInt8):=
 some l1
def L3(p0:UInt64)(p1:Int)(nx_f_root_bytes_l1:List UInt8×Int→Option (List UInt8))(l2:List UInt8)(a1:Int):Option (List UInt8):=
 cond (decide (a1<p1))
 (
  (QH (wI (8*a1))).bind fun n1=>
  (DM 1 l2 [(shr64 p0 n1).toUInt8]).bind fun l3=>
  nx_f_root_bytes_l1 (l3,wI (a1+1)))
 (
  NK l2)
def NL(p0:UInt64)(p1:Int):Nat→(List UInt8×Int)→Option (List UInt8):=CE fun nx x=>L3 p0 p1 nx x.1 x.2
def GO(n:Nat)(p0:UInt64)(p1:Int):Option (List UInt8):=
 NL p0 p1 n ([],0)
theorem NV{n:Nat}{p0:UInt64}{p1:Int}{r:List UInt8}(h:GO n p0 p1=some r): zC K w0 171 [AV p0,vI p1] [] H (fun u M=>u=vS r∧M=[]):=by
 unfold GO at h
 refine TP.enter Tryz.func171 rfl rfl ?_
 refine Y (U E (V (Y (B5 5 1 FN (U E (V ?_))))))
 refine A6 (α:=List UInt8×Value) (fun x=>NK x.1=some r) (fun x=>[(5,x.2)]) (fun x=>AD 5 1 x.2 FN x.1::H) ?_ (fun x D h=>?_)
 refine Y (J E (J E (V (AP ?_))))
 refine SX.heap (SX.mono (BG (α:=Nat×List UInt8×Value×Int) (fun x=>NL p0 p1 x.1 (x.2.1,x.2.2.2)=some r) (fun x=>[(0,AV p0),(5,x.2.2.1),(7,vI p1),(8,vI x.2.2.2)]) (fun x=>AD 5 1 x.2.2.1 FN x.2.1::H) (fun x=>x.1) (fun x D h=>?_) (n,[],zN,0) h) tL) (BM [0] 1 E E E)
 obtain⟨m1,l2,v2,a1⟩:=x
 dsimp only at h
 rcases m1 with _ | m1
 cases (show(none:Option _)=some r from h)
 replace h:L3 p0 p1 (NL p0 p1 m1) l2 a1=some r:=h
 unfold L3 at h
 try dsimp only
 refine Y (Z E A4 (V (AH ?_)))
 refine AN h E (fun hc1 h=>?_) fun hc1 h=>?_
 refine AJ (AI (AH (AP (Y (J E (U E (V (AQ ?_))))))))
 refine AE h fun n1 hn1 h=>?_
 refine AE h fun l3 hl3 h=>?_
 refine J E (J E (J E (Z E L8 (Z E (bK hn1) (BB E E (FC DJ DE) ?_)))))
 refine B9 [_] rfl CV JX KP ⟨rfl,trivial⟩ rfl rfl rfl zW rfl rfl zU fun b1=>?_
 refine CA FN 1 ([(shr64 p0 n1).toUInt8]:List UInt8) E zV E ?_
 refine Co 1 hl3 (sz:=1) (enc:=FN) zV E CV JX U6 KP E zD E E E E (CH (sz:=1) (enc:=FN) 0 zV E) (by simp[FN,Value.oneCell']) zU fun v3=>?_
 refine U E (AZ (Am (AI (AQ (Z E Bf (J E (AZ ?_)))))))
 exact Au (m1,l3,v3,wI (a1+1)) h (Nat.lt_succ_self _) tL (BM [1] 2 E E E)
 refine Ax (A3 (BZ (A5 ?_)))
 exact Ap (l2,v2) h tL (BM [0] 1 E E E)
 obtain⟨l1,v1⟩:=x
 dsimp only at h
 unfold NK at h
 try dsimp only
 refine Y (J E (Gb 0 E CV DE Cc E E (U E (V (AK ?_)))))
 obtain rfl:=zI h
 exact AW [] 1 E E E
def OG(p0:List (List UInt8)):Option (List UInt8):=
 (aN p0 []).bind fun y1=>
 some y1
theorem Zi{DA:Value}{p0:List (List UInt8)}{r:List UInt8}(h:OG p0=some r)(hs0_:B6 K w0 eS 1 DA p0):zC K w0 170 [DA] [] H (fun u M=>u=vS r∧M=[]):=by
 unfold OG at h
 refine TP.enter Tryz.func170 rfl rfl ?_
 refine Y (U E (V (Y ?_)))
 refine AE h fun y1 hy1 h=>?_
 refine J E (AS 0 nT (oY hy1 hs0_) E (U E (V (AK ?_))))
 obtain rfl:=zI h
 exact AW [] 0 E E E
def Mn(n:Nat)(p0:Ec):Option (List UInt8):=
 (GO n p0.cnt 8).bind fun y1=>
 (GO n p0.gen.toUInt64 4).bind fun y2=>
 (GO n p0.rows.toUInt64 4).bind fun y3=>
 (GO n p0.page.toUInt64 4).bind fun y4=>
 (OG [[115,112,104,114],y1,y2,y3,y4,p0.tag]).bind fun y5=>
 some y5
theorem Zj{n:Nat}{p0:Ec}{r:List UInt8}(h:Mn n p0=some r): zC K w0 135 [.agg (HS p0).toArray] [] H (fun u M=>u=vS r∧M=[]):=by
 unfold Mn at h
 refine TP.enter Tryz.func135 rfl rfl ?_
 refine Y ?_
 refine Ba E E zU fun b1=>?_
 refine U E (V (AH ?_))
 refine AE h fun y1 hy1 h=>?_
 refine AE h fun y2 hy2 h=>?_
 refine AE h fun y3 hy3 h=>?_
 refine AE h fun y4 hy4 h=>?_
 refine AE h fun y5 hy5 h=>?_
 refine Aw DC [0] (CF [(true,0),(true,1),(true,3),(true,4),(true,5),(true,7),(true,8),(true,9),(true,11),(true,12),(true,13),(true,14),(true,16),(true,17),(true,18),(false,2),(false,6),(false,10),(false,15)] (.last 19 (Cz [(false,20),(false,21)]))) zK (AF E LP (AG 0 Gy E (AF E Uf (AG 0 A1 E (BB E E (Cl CJ DJ) (AF E Ug (AG 0 A1 E ?_)))))))
 refine BB E E (Cl CJ DJ) (AF E QC (AF E FS (AG 0 A1 E (BB E E (Cl CJ DJ) (AF E QC (AF E Mp (AG 0 GL E ?_)))))))
 refine BW 0 WR (NV hy1) E ⟨⟨0,E⟩,zT⟩ (BW 0 WR (NV hy2) E ⟨⟨0,E⟩,zT⟩ (BW 0 WR (NV hy3) E ⟨⟨0,E⟩,zT⟩ (BW 0 WR (NV hy4) E ⟨⟨0,E⟩,zT⟩ (Bc ?_))))
 refine B9 [_,_,_,_,_,_] rfl EY HA Sx ⟨rfl,rfl,rfl,rfl,rfl,rfl,trivial⟩ rfl rfl rfl (by first | (simp[Value.cells];done) | (intro v hv;simp only[List.mem_cons,List.not_mem_nil,or_false]at hv;rcases hv with rfl | rfl | rfl | rfl | rfl | rfl<;>rfl)) rfl rfl zU fun b2=>?_
 refine CA eS 1 ([[115,112,104,114],y1,y2,y3,y4,p0.tag]:List (List UInt8)) E zV E ?_
 refine Bd (vs:=[_]) (Hin:=[_]) (Hr:=_::_) E E ⟨E,zT⟩ mz E E (Ch (B:=[_]) (Hin:=[]) fun K' w1 hk hB=>Zi hy5 (CL (e:=9) (v:=.slice (some ⟨b2,0,none⟩) 6 6) zV (hB _ zS))) ?_
 rintro _ _ ⟨_,rfl,rfl,rfl⟩
 refine⟨trivial,?_⟩
 refine U E (V (AK ?_))
 obtain rfl:=zI h
 exact AW [] 2 E E E
def J7(n:Nat)(p0:Ec):Option (List UInt8×Int):=
 (JR p0).bind fun y1=>
 cond (!y1)
 (
  some ([],120))
 (
  (Mn n p0).bind fun y2=>
  some (y2,0))
theorem Oc{n:Nat}{p0:Ec}{r:List UInt8×Int}(h:J7 n p0=some r): zC K w0 98 [.agg (HS p0).toArray] [] H (fun u M=>u=.tuple #[vS r.1,vI r.2]∧M=[]):=by
 unfold J7 at h
 refine TP.enter Tryz.func98 rfl rfl ?_
 refine Y ?_
 refine Ba E E zU fun b1=>?_
 refine U E (U E (V (AH (Y ?_))))
 refine AE h fun y1 hy1 h=>?_
 refine Aq [AV p0.cnt,AA p0.gen,AA p0.rows,AA p0.page,vS p0.tag] E Id E E (Aj 0 E) (AS 0 fe ((TD hy1 :)) E (CS E E (V ?_)))
 refine AN h E (fun hc1 h=>?_) fun hc1 h=>?_
 refine Y (U E (U E (V (AK (Ab ?_)))))
 obtain rfl:=zI h
 exact AW [] 1 E E E
 refine AJ (AI (Y ?_))
 refine AE h fun y2 hy2 h=>?_
 refine Aq [AV p0.cnt,AA p0.gen,AA p0.rows,AA p0.page,vS p0.tag] E Id E E (Aj 0 E) (AS 0 mZ ((Zj hy2 :)) E (U E (U E (V (AK ?_)))))
 obtain rfl:=zI h
 exact AW [] 1 E E E
def OF(p0:UInt64):Option UInt32:=
 ret ((p0 &&& 1).toUInt32) fun x1=>
 some x1
theorem QY{p0:UInt64}{r:UInt32}(h:OF p0=some r): zC K w0 100 [AV p0] [] H (fun u M=>u=AA r∧M=[]):=by
 unfold OF at h
 refine TP.enter Tryz.func100 rfl rfl ?_
 refine Y (U E (V (Y ?_)))
 obtain⟨x1,ex1,h⟩:=Bu h
 refine J E ?_
 refine Z E (OT (b:=1)) ?_
 refine BB E E (M9 DJ CJ) ?_
 refine Al (u:=AA x1) E E (congrArg AA ex1) ?_
 refine V (AK ?_)
 obtain rfl:=zI h
 exact AW [] 0 E E E
def Mm(p0:UInt64)(p1:UInt32)(p2:Int)(p3:BS):Option (Ec×Int):=
 ret (decide (p0+1=0)) fun x1=>
 cond x1
 (
  some ((⟨0,0,0,0,[]⟩:Ec),72))
 (
  (WH ((decide (p2<0))||(decide (1000<p2))) ((JR (⟨p0+1,p1,EL p2,p3.page,p3.tag⟩:Ec)).bind fun y1=>some (!y1))).bind fun y2=>
  cond y2
  (
   some ((⟨0,0,0,0,[]⟩:Ec),120))
  (
   some ((⟨p0+1,p1,EL p2,p3.page,p3.tag⟩:Ec),0)))
theorem QX{p0:UInt64}{p1:UInt32}{p2:Int}{p3:BS}{r:Ec×Int}(h:Mm p0 p1 p2 p3=some r): zC K w0 97 [AV p0,AA p1,vI p2,.agg (Bt p3).toArray] [] H (fun u M=>u=.tuple #[.agg (HS r.1).toArray,vI r.2]∧M=[]):=by
 unfold Mm at h
 refine TP.enter Tryz.func97 rfl rfl ?_
 refine Y ?_
 refine Ba E E zU fun b1=>?_
 refine Ak E LB zU fun b2=>?_
 refine U E (V (Y (J E ?_)))
 refine Z E (Hm (b:=1)) ?_
 refine J E (J E (BB E E (Nc IZ CJ) (Aq [AA p3.page,vS p3.tag] E C5 E E (Aj 1 E) (B0 [_,_,_,_] E To Tn LB ⟨E,E,E,E,zT⟩ E ?_))))
 refine Ak E LB zU fun b3=>?_
 refine A2 0 E E E E Mu E E E zT (V (AH (AP (Y ?_))))
 obtain⟨x1,ex1,h⟩:=Bu h
 refine AF E LP (AG 0 Gy E ?_)
 refine Z E (L7 (b:=0)) ?_
 refine Al (u:=vB x1) E E (congrArg vB ex1) ?_
 refine V ?_
 refine AN h E (fun hc1 h=>?_) fun hc1 h=>?_
 refine Y (B0 [] E To Tn LB zT E (A2 1 E E E E Mu E E E zT (U E (V (AK (A8 (Ab ?_)))))))
 obtain rfl:=zI h
 exact Ag (D7 E (B8 1 (HS (⟨0,0,0,0,[]⟩:Ec)) Id E E E E) E) (Af (M:=[]) ⟨E,E⟩ fun _ hw=>BT.pick (H:=[_,_,_]) hw [] 3 E)
 refine Y ?_
 refine AE h fun y2 hy2 h=>?_
 refine J E (Z E A4 (J E ?_))
 refine Ee (c:=decide (1000<p2)) 26 3 29 E (fun hb k=>?_) (fun hb k=>?_) ?_
 refine AC E (AC E (Ah E E E ?_))
 exact k.mono tL
 refine J E (Z E Ci (Ah E E E ?_))
 exact k.mono tL
 refine J E ?_
 refine QM 30 4 34 hy2 E (fun hb k=>?_) (fun hb hg2 k=>?_) ?_
 refine AC E (AC E (AC E (Ah E E E ?_)))
 exact k.mono tL
 obtain⟨y1,hy1,hg2⟩:=E3 hg2
 obtain rfl:=zI hg2
 refine Aq [AV (p0+1),AA p1,AA (EL p2),AA p3.page,vS p3.tag] E Id E E (Aj 0 E) (AS 0 fe ((TD hy1 :)) E (CS E E (Ah E E E ?_)))
 exact k.mono tL
 refine U E (V ?_)
 refine AN h E (fun hc2 h=>?_) fun hc2 h=>?_
 refine Y (B0 [] E To Tn LB zT E (A2 1 E E E E Mu E E E zT (U E (V (AK (A8 (Ab ?_)))))))
 obtain rfl:=zI h
 exact Ag (D7 E (B8 1 (HS (⟨0,0,0,0,[]⟩:Ec)) Id E E E E) E) (Af (M:=[]) ⟨E,E⟩ fun _ hw=>BT.pick (H:=[_,_,_]) hw [] 3 E)
 refine AJ (Am (AI (Y (Aq [AV (p0+1),AA p1,AA (EL p2),AA p3.page,vS p3.tag] E Id E E (Aj 0 E) (A2 1 E E E E Mu E E E zT (U E (V (AK ?_))))))))
 obtain rfl:=zI h
 exact Ag (D7 E (B8 1 (HS (⟨p0+1,p1,EL p2,p3.page,p3.tag⟩:Ec)) Id E E E E) E) (Af (M:=[]) ⟨E,E⟩ fun _ hw=>BT.pick (H:=[_,_,_]) hw [] 3 E)
end

section
variable {K:Nat→Prop}{w0:World}{H:List AX}
def Kh(p0:Ao)(p1:UInt64):Option Int:=
 (JW p0.id p1).bind fun y1=>
 some y1
theorem P3{p0:Ao}{p1:UInt64}{r:Int}(h:Kh p0 p1=some r): zC K w0 116 [.agg (AY p0).toArray,AV p1] [] H (fun u M=>u=vI r∧M=[]):=by
 unfold Kh at h
 refine TP.enter Tryz.func116 rfl rfl ?_
 refine Y ?_
 refine Ba E E zU fun b1=>?_
 refine U E (V (Y ?_))
 refine AE h fun y1 hy1 h=>?_
 refine AF E PO (AG 0 Gy E (J E (AS 0 mS (RI hy1) E (U E (V (AK ?_))))))
 obtain rfl:=zI h
 exact AW [] 1 E E E
def C6(p0:List Ao)(p1:UInt64)(a1:Int):Option (Int×Bool):=
 (Ju (decide (a1<(p0.length:Int))) ((BA p0 a1).bind fun x3=>(Kh x3 p1).bind fun y2=>some (decide (y2=0)))).bind fun y3=>
 some (a1,y3)
def C1(p0:List Ao)(p1:UInt64)(nx_f_slices_BinarySearchFunc_api_Row_api_Row_uint64_l1:Int×Int→Option (Int×Bool))(a2:Int)(a3:Int):Option (Int×Bool):=
 cond (decide (a2<a3))
 (
  ret (wI ((shr64 (Cn (wI (a2+a3))) 1).toNat:Int)) fun x1=>
  (BA p0 x1).bind fun x2=>
  (Kh x2 p1).bind fun y1=>
  cond (decide (y1<0))
  (
   ret (wI (x1+1)) fun i_1=>
   nx_f_slices_BinarySearchFunc_api_Row_api_Row_uint64_l1 (i_1,a3))
  (
   nx_f_slices_BinarySearchFunc_api_Row_api_Row_uint64_l1 (a2,x1)))
 (
  C6 p0 p1 a2)
def C7(p0:List Ao)(p1:UInt64):Nat→(Int×Int)→Option (Int×Bool):=CE fun nx x=>C1 p0 p1 nx x.1 x.2
def DH(n:Nat)(p0:List Ao)(p1:UInt64):Option (Int×Bool):=
 C7 p0 p1 n (0,(p0.length:Int))
theorem G9{n:Nat}{DA:Value}{p0:List Ao}{p1:UInt64}{r:Int×Bool}(h:DH n p0 p1=some r)(hs0_:B6 K w0 AY 4 DA p0):zC K w0 115 [DA,AV p1,.func (.func 116) #[] #[]] [] H (fun u M=>u=.tuple #[vI r.1,vB r.2]∧M=[]):=by
 unfold DH at h
 refine TP.enter Tryz.func115 rfl rfl ?_
 refine Y (U E (U E (V (Y (J E (B1 hs0_ E Cq E (U E (V (Y (J E (U E (U E (V ?_)))))))))))))
 refine A6 (α:=Int) (fun x=>C6 p0 p1 x=some r) (fun x=>[(0,DA),(1,AV p1),(2,.func (.func 116) #[] #[]),(8,vI (p0.length:Int)),(9,vI x)]) (fun x=>H) ?_ (fun a1 D h=>?_)
 refine AP ?_
 refine SX.heap (SX.mono (BG (α:=Nat×Int×Int) (fun x=>C7 p0 p1 x.1 (x.2.1,x.2.2)=some r) (fun x=>[(0,DA),(1,AV p1),(2,.func (.func 116) #[] #[]),(8,vI (p0.length:Int)),(9,vI x.2.1),(10,vI x.2.2)]) (fun x=>H) (fun x=>x.1) (fun x D h=>?_) (n,0,(p0.length:Int)) h) tL) (BM [] 0 E E E)
 obtain⟨m1,a2,a3⟩:=x
 dsimp only at h
 rcases m1 with _ | m1
 cases (show(none:Option _)=some r from h)
 replace h:C1 p0 p1 (C7 p0 p1 m1) a2 a3=some r:=h
 unfold C1 at h
 try dsimp only
 refine AH (Y (J E (J E (Z E A4 (V ?_)))))
 refine AN h E (fun hc1 h=>?_) fun hc1 h=>?_
 refine AJ (AI (AP (Y ?_)))
 obtain⟨x1,ex1,h⟩:=Bu h
 refine J E (J E (Z E Bf (BB E E (Er IZ O6) ?_)))
 refine Z E (FL.shr64 (n:=1)) ?_
 refine BB E E (lX O6 IZ) ?_
 refine Al (u:=vI x1) E E (congrArg vI ex1) ?_
 refine V (Y ?_)
 refine AE h fun x2 hx2 h=>?_
 refine AE h fun y1 hy1 h=>?_
 refine J E (J E (J E ?_))
 refine C4 hx2 hs0_ E Cq DX E E fun be1 of1 hc2=>?_
 refine Aq (AY x2) E Gd E E (DO hc2) (J E (AS 0 fY ((P3 hy1 :)) E (Z E A4 (V ?_))))
 refine AN h E (fun hc3 h=>?_) fun hc3 h=>?_
 refine AQ ?_
 obtain⟨i_1,ei_1,h⟩:=Bu h
 refine J E (Z E Bf ?_)
 refine Al (u:=vI i_1) E E (congrArg vI ei_1) ?_
 refine AZ (Am ?_)
 exact Au (m1,i_1,a3) h (Nat.lt_succ_self _) tL (BM [] 0 E E E)
 refine AQ (J E (U E (AZ (Am ?_))))
 exact Au (m1,a2,x1) h (Nat.lt_succ_self _) tL (BM [] 0 E E E)
 refine Ax (A3 (BZ (A5 ?_)))
 exact Ap a2 h tL (BM [] 0 E E E)
 unfold C6 at h
 try dsimp only
 refine Y ?_
 refine AE h fun y3 hy3 h=>?_
 refine J E (J E (J E (Z E A4 (J E ?_))))
 refine Ga 39 9 48 hy3 E (fun hb hg1 k=>?_) (fun hb k=>?_) ?_
 obtain⟨x3,hx3,hg1⟩:=E3 hg1
 obtain⟨y2,hy2,hg1⟩:=E3 hg1
 obtain rfl:=zI hg1
 refine J E (J E (J E ?_))
 refine C4 hx3 hs0_ E Cq DX E E fun be2 of2 hc4=>?_
 refine Aq (AY x3) E Gd E E (DO hc4) (J E (AS 0 fY ((P3 hy2 :)) E (Z E Bj (Ah E E E ?_))))
 exact k.mono tL
 refine AC E (AC E (AC E (AC E (AC E (AC E (AC E (AC E ?_)))))))
 refine Ah E E E ?_
 exact k.mono tL
 refine U E (U E (V (AK ?_)))
 obtain rfl:=zI h
 exact AW [] 0 E E E
def MW(n:Nat)(p0:List Ao)(p1:UInt64):Option (Int×Bool):=
 (DH n p0 p1).bind fun y1=>
 some (y1.1,y1.2)
theorem Re{n:Nat}{DA:Value}{p0:List Ao}{p1:UInt64}{r:Int×Bool}(h:MW n p0 p1=some r)(hs0_:B6 K w0 AY 4 DA p0):zC K w0 79 [DA,AV p1] [] H (fun u M=>u=.tuple #[vI r.1,vB r.2]∧M=[]):=by
 unfold MW at h
 refine TP.enter Tryz.func79 rfl rfl ?_
 refine Y (U E (U E (V (Y ?_))))
 refine AE h fun y1 hy1 h=>?_
 refine J E (J E (AS 0 mR (G9 hy1 hs0_) E (Ae E E E (Ae E E E (U E (U E (V (AK ?_))))))))
 obtain rfl:=zI h
 exact AW [] 0 E E E
def Jf(p0:KQ)(y1:List UInt8):Option Int:=
 (GS (⟨p0.id,p0.x,p0.y,y1⟩:Ao)).bind fun y2=>
 cond (!y2)
 (
  some 80)
 (
  some 0)
def Oh(p0:KQ):Option Int:=
 ret (decide (p0.kind=3)) fun x1=>
 cond x1
 (
  some 0)
 (
  ret (decide (p0.kind=2)) fun x2=>
  cond x2
  (
   Jf p0 [])
  (
   ret (decide (p0.kind=1)) fun x3=>
   cond x3
   (
    Jf p0 p0.txt)
   (
    some 2)))
theorem Wz{p0:KQ}{r:Int}(h:Oh p0=some r): zC K w0 112 [.agg (CD p0).toArray] [] H (fun u M=>u=vI r∧M=[]):=by
 unfold Oh at h
 refine TP.enter Tryz.func112 rfl rfl ?_
 refine Y ?_
 refine Ba E E zU fun b1=>?_
 refine U rfl (V (Y (AF rfl aF (Aq [AV p0.id,AA p0.x,AA p0.y,vS p0.txt] rfl Gd rfl rfl (Cj 0 rfl (by rintro(_ | (_ | (_ | (_ | j)))) u hj<;>first | exact hj | exact absurd hj zS)) ?_))))
 refine Ak E GG zU fun b2=>?_
 refine A2 0 E E E E DX E E E zT (V (AH (Y (AF E WY (AG 1 FG E (V (AP ?_)))))))
 refine A6 (α:=List UInt8) (fun x=>Jf p0 x=some r) (fun x=>[(3,vP b2 0)]) (fun x=>AL b2 (.cells #[AV p0.id,AA p0.x,AA p0.y,vS x] 35)::H) ?_ (fun y1 D h=>?_)
 refine AP (AH (AP (AH (AP (AH (AH (Y ?_)))))))
 obtain⟨x1,ex1,h⟩:=Bu h
 refine Z E Bj ?_
 refine Al (u:=vB x1) E E (congrArg vB ex1) ?_
 refine V ?_
 refine AN h E (fun hc1 h=>?_) fun hc1 h=>?_
 refine Ax (A3 (A3 (A5 (AI (AH (Y (U E (V (AK (Ab (A8 (Ab (A8 (Fq (A8 (Ab ?_))))))))))))))))
 obtain rfl:=zI h
 exact AW [] 2 E E E
 refine AJ (AI (AH (Y ?_)))
 obtain⟨x2,ex2,h⟩:=Bu h
 refine Z E Bj ?_
 refine Al (u:=vB x2) E E (congrArg vB ex2) ?_
 refine V ?_
 refine AN h E (fun hc2 h=>?_) fun hc2 h=>?_
 refine Ax (A3 (A3 (HN (A3 (A5 (AI (AQ (AF E OH (A2 0 E E E E HA E E E zT (AZ (Am ?_)))))))))))
 exact Ap [] h tL (BM [0] 2 E E E)
 refine AJ (AI (Y ?_))
 obtain⟨x3,ex3,h⟩:=Bu h
 refine Z E Bj ?_
 refine Al (u:=vB x3) E E (congrArg vB ex3) ?_
 refine V ?_
 refine AN h E (fun hc3 h=>?_) fun hc3 h=>?_
 refine Ax (A3 (HN (A3 (HN (A3 (A5 ?_))))))
 exact Ap p0.txt h tL (BM [0] 2 E E E)
 refine AJ (AI (Ax (HN (A3 (HN (A3 (HN (gu (A5 (AI (Y (U E (V (AK ?_))))))))))))))
 obtain rfl:=zI h
 exact AW [] 2 E E E
 unfold Jf at h
 try dsimp only
 refine AH (AH (Y ?_))
 refine AE h fun y2 hy2 h=>?_
 refine Aq [AV p0.id,AA p0.x,AA p0.y,vS y1] E Gd E E (Aj 0 E) (AS 0 fX ((P5 hy2 :)) E (CS E E (V ?_)))
 refine AN h E (fun hc4 h=>?_) fun hc4 h=>?_
 refine Y (U E (V (AK (Ab (Ab (A8 (Ab ?_)))))))
 obtain rfl:=zI h
 exact AW [] 1 E E E
 refine AJ (AI (Y (U E (V (AK (Ab (A8 (Ab ?_))))))))
 obtain rfl:=zI h
 exact AW [] 1 E E E
def Je(p0:List Ao)(a1:Int)(l2:List Ao):Option (List Ao×Int):=
 (Ku p0 a1 (p0.length:Int)).bind fun l4=>
 (DM 32 l2 l4).bind fun l5=>
 some (l5,0)
def HX(p0:List Ao)(p1:KQ)(y3:Int×Bool)(a1:Int)(y4:List UInt8):Option (List Ao×Int):=
 (Ku p0 0 y3.1).bind fun l1=>
 (Qa l1).bind fun y5=>
 cond (!decide (p1.kind=3))
 (
  (DM 32 y5 [(⟨p1.id,p1.x,p1.y,y4⟩:Ao)]).bind fun l3=>
  Je p0 a1 l3)
 (
  Je p0 a1 y5)
def D5(n:Nat)(p0:List Ao)(p1:KQ):Option (List Ao×Int):=
 (FZ n p0).bind fun y1=>
 cond (!y1)
 (
  some ([],80))
 (
  (Oh p1).bind fun y2=>
  cond (!decide (y2=0))
  (
   some ([],y2))
  (
   (MW n p0 p1.id).bind fun y3=>
   ret ((!y3.2)&&(!decide (p1.kind=1))) fun x1=>
   cond x1
   (
    some ([],100))
   (
    ret ((!y3.2)&&(decide ((p0.length:Int)=1000))) fun x2=>
    cond x2
    (
     some ([],82))
    (
     cond y3.2
     (
      ret (wI (y3.1+1)) fun x3=>
      (BA p0 y3.1).bind fun x4=>
      cond ((decide (p1.kind=2))&&(!(decide (x4.id=p1.id)&&(decide (x4.x=p1.x)&&(decide (x4.y=p1.y)&&(decide (x4.txt=p1.txt)&&true))))))
      (
       HX p0 p1 y3 x3 x4.txt)
      (
       HX p0 p1 y3 x3 p1.txt))
     (
      HX p0 p1 y3 y3.1 p1.txt)))))
theorem Wy{n:Nat}{DA:Value}{p0:List Ao}{p1:KQ}{r:List Ao×Int}(h:D5 n p0 p1=some r)(hs0_:B6 K w0 AY 4 DA p0):zC K w0 76 [DA,.agg (CD p1).toArray] [] H (fun u M=>∃v0:Value,u=.tuple #[v0,vI r.2]∧M=[AD 35 4 v0 AY r.1]):=by
 unfold D5 at h
 refine TP.enter Tryz.func76 rfl rfl ?_
 refine Y ?_
 refine Ba E E zU fun b1=>?_
 refine B5 35 4 AY (U E (U E (V (AH (Y ?_)))))
 refine AE h fun y1 hy1 h=>?_
 refine J E (AS 0 XF (LD hy1 hs0_) E (CS E E (V ?_)))
 refine AN h E (fun hc1 h=>?_) fun hc1 h=>?_
 refine Y (B5 35 4 AY (U E (U E (V (AK (Ab ?_))))))
 obtain rfl:=zI h
 exact Bo [0] 3 (ES E E E) E E ⟨(.slice none 0 0),E,E⟩
 refine AJ (AI (AH (Y ?_)))
 refine AE h fun y2 hy2 h=>?_
 refine Aq [vI p1.kind,AV p1.id,AA p1.x,AA p1.y,vS p1.txt] E UB E E (Aj 1 E) (AS 0 mP ((Wz hy2 :)) E (U E (V (Y (J E (Z E BJ (V ?_)))))))
 refine AN h E (fun hc2 h=>?_) fun hc2 h=>?_
 refine Y (J E (B5 35 4 AY (U E (U E (V (AK (Ab ?_)))))))
 obtain rfl:=zI h
 exact Bo [0] 3 (ES E E E) E E ⟨(.slice none 0 0),E,E⟩
 refine AJ (AI (Y ?_))
 refine AE h fun y3 hy3 h=>?_
 refine J E (AF E aF (AF E PO (AG 1 Gy E (AS 0 j7 (Re hy3 hs0_) E (J E (Ae E E E (Ae E E E ?_)))))))
 refine U E (U E (V (AH (AP (Y ?_)))))
 obtain⟨x1,ex1,h⟩:=Bu h
 refine J E (CS E E (J E ?_))
 refine Ce (c := !decide (p1.kind=1)) 32 4 36 E (fun hb k=>?_) (fun hb k=>?_) ?_
 refine AF E WY (AG 1 FG E (Z E BJ (Ah E E E ?_)))
 exact k.mono tL
 refine AC E (AC E (AC E (Ah E E E ?_)))
 exact k.mono tL
 refine Al (u:=vB x1) E E (congrArg vB ex1) ?_
 refine V ?_
 refine AN h E (fun hc3 h=>?_) fun hc3 h=>?_
 refine Y (B5 35 4 AY (U E (U E (V (AK (A8 (Ab ?_)))))))
 obtain rfl:=zI h
 exact Bo [0] 3 (ES E E E) E E ⟨(.slice none 0 0),E,E⟩
 refine Y ?_
 obtain⟨x2,ex2,h⟩:=Bu h
 refine J E (CS E E (J E ?_))
 refine Ce (c:=decide ((p0.length:Int)=1000)) 40 4 44 E (fun hb k=>?_) (fun hb k=>?_) ?_
 refine J E (B1 hs0_ E Cq E (Z E Bj (Ah E E E ?_)))
 exact k.mono tL
 refine AC E (AC E (AC E (Ah E E E ?_)))
 exact k.mono tL
 refine Al (u:=vB x2) E E (congrArg vB ex2) ?_
 refine V ?_
 refine AN h E (fun hc4 h=>?_) fun hc4 h=>?_
 refine Y (B5 35 4 AY (U E (U E (V (AK (A8 (Ab ?_)))))))
 obtain rfl:=zI h
 exact Bo [0] 3 (ES E E E) E E ⟨(.slice none 0 0),E,E⟩
 refine AJ (Am (AI (Y (J rfl (U rfl (V (Y (AF rfl aF (Aq [AV p1.id,AA p1.x,AA p1.y,vS p1.txt] rfl Gd rfl rfl (Cj 1 rfl (by rintro(_ | (_ | (_ | (_ | j)))) u hj<;>first | exact hj | exact absurd hj zS)) ?_)))))))))
 refine Ak E GG zU fun b2=>?_
 refine A2 0 E E E E DX E E E zT (V ?_)
 refine A6 (α:=Int×List UInt8) (fun x=>HX p0 p1 y3 x.1 x.2=some r) (fun x=>[(0,DA),(3,vP b1 0),(7,vI y3.1),(9,vI x.1),(10,vP b2 0)]) (fun x=>AL b1 (.cells #[vI p1.kind,AV p1.id,AA p1.x,AA p1.y,vS p1.txt] 83)::AL b2 (.cells #[AV p1.id,AA p1.x,AA p1.y,vS x.2] 35)::H) ?_ (fun x D h=>?_)
 refine Y (J E (V ?_))
 refine AN h E (fun hc5 h=>?_) fun hc5 h=>?_
 refine Y ?_
 obtain⟨x3,ex3,h⟩:=Bu h
 refine J E (Z E Bf ?_)
 refine Al (u:=vI x3) E E (congrArg vI ex3) ?_
 refine V (Y ?_)
 refine AE h fun x4 hx4 h=>?_
 refine J E (J E ?_)
 refine C4 hx4 hs0_ E Cq DX E E fun be1 of1 hc6=>?_
 refine Aq (AY x4) E Gd E E (DO hc6) ?_
 refine Ak E GG zU fun b3=>?_
 refine A2 0 E E E E DX E E E zT (V ?_)
 refine jV [(0,DA),(3,vP b1 0),(7,vI y3.1),(9,vI x3),(10,vP b2 0),(11,vP b3 0)] (AL b3 (.cells #[AV x4.id,AA x4.x,AA x4.y,vS x4.txt] 35)::AL b2 (.cells #[AV p1.id,AA p1.x,AA p1.y,vS p1.txt] 35)::AD 35 4 zN AY []::AL b1 (.cells #[vI p1.kind,AV p1.id,AA p1.x,AA p1.y,vS p1.txt] 83)::H) ?_ tL
 refine Y (AF E WY (AG 3 FG E (Z E Bj (J E ?_))))
 refine Ce (c := !(decide (x4.id=p1.id)&&(decide (x4.x=p1.x)&&(decide (x4.y=p1.y)&&(decide (x4.txt=p1.txt)&&true))))) 58 4 62 E (fun hb k=>?_) (fun hb k=>?_) ?_
 refine Aq [AV x4.id,AA x4.x,AA x4.y,vS x4.txt] E Gd E E (Aj 0 E) (Aq [AV p1.id,AA p1.x,AA p1.y,vS p1.txt] E Gd E E (Aj 1 E) ?_)
 refine U1 E kH E E (CW E E (Z6 (a:=x4.id) (b:=p1.id)) (CW E E (If (a:=x4.x) (b:=p1.x)) (CW E E (If (a:=x4.y) (b:=p1.y)) (CW E E (Rs (a:=x4.txt) (b:=p1.txt)) Is)))) ?_
 refine Ah E E E ?_
 exact k.mono tL
 refine AC E (AC E (AC E (Ah E E E ?_)))
 exact k.mono tL
 refine V ?_
 refine AN h E (fun hc7 h=>?_) fun hc7 h=>?_
 refine AQ (AF E OH (AG 0 GL E (AF E OH (A2 1 E E E E HA E E E zT (AZ ?_)))))
 exact Ap (x3,x4.txt) h tL (BM [3,1] 4 E E E)
 refine AJ ?_
 exact Ap (x3,p1.txt) h tL (BM [3,1] 4 E E E)
 refine AJ ?_
 exact Ap (y3.1,p1.txt) h tL (BM [2,0] 3 E E E)
 obtain⟨a1,y4⟩:=x
 dsimp only at h
 unfold HX at h
 try dsimp only
 refine Y ?_
 refine AE h fun l1 hl1 h=>?_
 refine AE h fun y5 hy5 h=>?_
 refine J E (J E (J E ?_))
 refine jP hl1 hs0_ E Cq DX E E E fun v1 hs1=>?_
 refine Bd (vs:=[_]) (Hin:=[]) (Hr:=_::_::_) E E ⟨E,zT⟩ du E E (X9 hy5 hs1) ?_
 rintro v2 _ ⟨_,rfl,rfl⟩
 refine⟨trivial,?_⟩
 refine U E (V ?_)
 refine A6 (α:=List Ao×Value) (fun x=>Je p0 a1 x.1=some r) (fun x=>[(0,DA),(9,vI a1),(12,x.2)]) (fun x=>AD 35 4 x.2 AY x.1::H) ?_ (fun x D h=>?_)
 refine Y (AF E WY (AG 1 FG E (Z E BJ (V ?_))))
 refine AN h E (fun hc8 h=>?_) fun hc8 h=>?_
 refine AQ ?_
 refine AE h fun l3 hl3 h=>?_
 refine J E (Aq [AV p1.id,AA p1.x,AA p1.y,vS y4] E Gd E E (Aj 2 E) ?_)
 refine B9 [_] rfl Cq DX GG ⟨rfl,trivial⟩ rfl rfl rfl zW rfl rfl zU fun b4=>?_
 refine CA AY 4 ([(⟨p1.id,p1.x,p1.y,y4⟩:Ao)]:List Ao) E zV E ?_
 refine Co 1 hl3 (sz:=4) (enc:=AY) zV E Cq DX Wv GG E zD E E E E (CH (sz:=4) (enc:=AY) 0 zV E) (by simp[AY,Value.oneCell']) zU fun v4=>?_
 refine U E (AZ ?_)
 exact Ap (l3,v4) h tL (BM [1] 4 E E E)
 refine AJ ?_
 exact Ap (y5,v2) h tL (BM [0] 3 E E E)
 obtain⟨l2,v3⟩:=x
 dsimp only at h
 unfold Je at h
 try dsimp only
 refine Y ?_
 refine AE h fun l4 hl4 h=>?_
 refine AE h fun l5 hl5 h=>?_
 refine J E (J E (J E ?_))
 refine bW hl4 hs0_ E Cq DX E E fun v5 hs2=>?_
 refine RS 0 hl5 hs2 (sz:=4) (enc:=AY) zV E Cq DX Wv GG E zD E E E (by simp[AY,Value.oneCell']) zU fun v6=>?_
 refine U E (U E (V (AK ?_)))
 obtain rfl:=zI h
 exact Bo [0] 1 (ES E E E) E E ⟨v6,E,E⟩
def Ii(n:Nat)(p0:List Ao)(p1:UInt64):Option (Ao×Int):=
 (FZ n p0).bind fun y1=>
 cond (!y1)
 (
  some ((⟨0,0,0,[]⟩:Ao),80))
 (
  (MW n p0 p1).bind fun y2=>
  cond (!y2.2)
  (
   some ((⟨0,0,0,[]⟩:Ao),100))
  (
   (BA p0 y2.1).bind fun x1=>
   some (x1,0)))
theorem Zc{n:Nat}{DA:Value}{p0:List Ao}{p1:UInt64}{r:Ao×Int}(h:Ii n p0 p1=some r)(hs0_:B6 K w0 AY 4 DA p0):zC K w0 54 [DA,AV p1] [] H (fun u M=>u=.tuple #[.agg (AY r.1).toArray,vI r.2]∧M=[]):=by
 unfold Ii at h
 refine TP.enter Tryz.func54 rfl rfl ?_
 refine Y ?_
 refine Ak E GG zU fun b1=>?_
 refine U E (V (AH (Y ?_)))
 refine AE h fun y1 hy1 h=>?_
 refine J E (AS 0 XF (LD hy1 hs0_) E (CS E E (V ?_)))
 refine AN h E (fun hc1 h=>?_) fun hc1 h=>?_
 refine Y (B0 [] E Xq Xo GG zT E (A2 0 E E E E DX E E E zT (U E (V (AK (Ab ?_))))))
 obtain rfl:=zI h
 exact Ag (D7 E (B8 0 (AY (⟨0,0,0,[]⟩:Ao)) Gd E E E E) E) (Af (M:=[]) ⟨E,E⟩ fun _ hw=>BT.pick (H:=[_]) hw [] 1 E)
 refine AJ (AI (Y ?_))
 refine AE h fun y2 hy2 h=>?_
 refine J E (J E (AS 0 j7 (Re hy2 hs0_) E (J E (Ae E E E (Ae E E E (U E (U E (V (AH (Y ?_))))))))))
 refine J E (CS E E (V ?_))
 refine AN h E (fun hc2 h=>?_) fun hc2 h=>?_
 refine Y (B0 [] E Xq Xo GG zT E (A2 0 E E E E DX E E E zT (U E (V (AK (Ab ?_))))))
 obtain rfl:=zI h
 exact Ag (D7 E (B8 0 (AY (⟨0,0,0,[]⟩:Ao)) Gd E E E E) E) (Af (M:=[]) ⟨E,E⟩ fun _ hw=>BT.pick (H:=[_]) hw [] 1 E)
 refine AJ (AI (Y ?_))
 refine AE h fun x1 hx1 h=>?_
 refine J E (J E ?_)
 refine C4 hx1 hs0_ E Cq DX E E fun be1 of1 hc3=>?_
 refine Aq (AY x1) E Gd E E (DO hc3) (A2 0 E E E E DX E E E zT (U E (V (AK ?_))))
 obtain rfl:=zI h
 exact Ag (D7 E (B8 0 (AY x1) Gd E E E E) E) (Af (M:=[]) ⟨E,E⟩ fun _ hw=>BT.pick (H:=[_]) hw [] 1 E)
end

section
variable {K:Nat→Prop}{w0:World}{H:List AX}
abbrev PF:=Nat×Option (Value×List Ao)
def X2(v0:Value)(s:PF):Value:=s.2.elim v0 (·.1)
def VW(p0:List Ao)(s:PF):List Ao:=s.2.elim p0 (·.2)
def PA(s:PF):AX:=AD 35 4 (X2 (.slice none 0 0) s) AY (VW [] s)
def Z5(x:Value×Int):List Value:=[x.1,vI x.2]
def rS(n:Nat)(p0:List Ao)(ops:List KQ)(s:PF)(x:Value×Int)(s':PF):Prop:=∃o m,ops[s.1]? = some o∧D5 n (VW p0 s) o=some (m,x.2)∧s'=(s.1+1,some (x.1,m))
def rR(n:Nat)(p0:List Ao)(ops:List KQ)(s:PF):Prop:=∀o,ops[s.1]? = some o→∃r,D5 n (VW p0 s) o=some r
theorem dY{n:Nat}{v0:Value}{p0:List Ao}{s:PF}{o:KQ}{r:List Ao×Int}(h:D5 n (VW p0 s) o=some r)(hs0:B6 K w0 AY 4 v0 p0):zC K w0 76 [X2 v0 s,.agg (CD o).toArray] [PA s] H (fun u M=>∃v:Value,u=.tuple #[v,vI r.2]∧M=[PA s,AD 35 4 v AY r.1]):=by
 refine TP.mono (Ch (B:=[PA s]) (Hin:=[]) (fun K' w1 hk hB=>Wy h ?_)) ?_
 obtain⟨k,_ | ⟨v,m⟩⟩:=s
 exact hs0.keeps hk
 exact CL (e:=35) (v:=v) zV (hB _ (by simp[PA,X2,VW]))
 rintro _ _ ⟨_,rfl,v,rfl,rfl⟩
 exact⟨v,rfl,rfl⟩
theorem ko{n:Nat}{v0 vo:Value}{p0:List Ao}{ops:List KQ}(hs0:B6 K w0 AY 4 v0 p0)(hs1:B6 K w0 CD 5 vo ops)(hl:ops.length≤1000000)(bo bl:Nat):
  ZL Tryz.prog K w0 114 [vP bo 0,vP bl 0] [AL bo (.cells #[vo] 74),AL bl (.cells #[v0] 37)] Z5 (fun s=>[PA s]) (rS n p0 ops) (fun s=>ops.length≤s.1) (rR n p0 ops) (0,none):=by
 intro lp J9 X T rc G0 hy hdef h0
 refine TP.enter Tryz.func114 rfl rfl ?_
 show SX _ _ _ _ _ _ _ _ _ (AL bo (.cells #[vo] 74)::AL bl (.cells #[v0] 37)::PA (0,none)::((rc::G0)++T))
 refine SX.pick [2,0,1] 3 (Y (AG 1 Y6 E (B1 hs1 E RG E (J E (V (AP ?_))))))
 refine SX.mono (BG (α:=PF×List AX) (fun x=>J9 x.1 x.2) (fun x=>[(0,vY lp),(1,vP bo 0),(2,vP bl 0),(8,vo),(9,vI (ops.length:Int)),(10,vI x.1.1)])
  (fun x=>PA x.1::AL bo (.cells #[vo] 74)::AL bl (.cells #[X2 v0 x.1] 37)::(x.2++T)) (fun x=>ops.length-x.1.1) (fun x D hp=>?_) ((0,none),rc::G0) h0) tL
 obtain⟨s,G⟩:=x
 have hJ:J9 s G:=hp
 clear hp
 dsimp only
 refine Y (Z E A4 (V (AH ?_)))
 refine Av E (fun hc1=>?_) (fun hc1=>?_)
 have hlt:s.1<ops.length:=by
  have:=of_decide_eq_true hc1
  omega
 clear hc1
 obtain⟨o,ho⟩:∃o,ops[s.1]? = some o:=⟨_,List.getElem?_eq_getElem hlt⟩
 obtain⟨r,hr⟩:=hdef _ _ hJ o ho
 have hn:BA ops ((s.1:Nat):Int)=some o:=by rw[HK];exact ho
 refine AJ (AI (AH (AP (Y ?_))))
 refine C4 hn hs1 E RG X3 E E fun be of hc=>?_
 refine Aq (CD o) E UB E E (DO hc) ?_
 refine Ak E ZF zU fun b0=>?_
 refine A2 0 E E E E X3 E E E zT (V (Y (AG 3 FT E (Aq (CD o) E UB E E (Aj 0 E) (SL.pick [1,0] 2 (BN 1 dy (dY hr hs0) E ?_))))))
 rintro _ _ ⟨v1,rfl,rfl⟩
 refine J E (Ae E E E (Ae E E E (U E (U E (V (SX.pick [0,2,3,4,1] 5 (AH (Y (J E (J E ?_))))))))))
 refine J E ?_
 refine HM (M2:=[_,_,_,_]) (G:=PA (s.1+1,some (v1,r.1))::G) (T:=T) (vs:=[_,_]) (ok:=fun G1=>∃G2,G1=PA (s.1+1,some (v1,r.1))::G2∧J9 (s.1+1,some (v1,r.1)) G2) (no:=X) E E ⟨E,E,zT⟩ E ?_ (fun bb G1 hG1=>⟨zT,?_⟩)
 intro M
 exact hy s (v1,r.2) (s.1+1,some (v1,r.1)) ⟨o,r.1,ho,hr,rfl⟩ G hJ M
 refine CS E E (V ?_)
 refine Av E (fun hc3=>?_) (fun hc3=>?_)
 obtain rfl:bb=false:=by simpa using hc3
 refine AK (Ab (A8 (Ab (Dz (A8 ?_)))))
 exact Ag (Dg E) (Af (M:=G1) (.inr hG1) fun _ h=>h.skip [_,_,_,_])
 obtain rfl:bb=true:=by simpa using hc3
 obtain⟨G2,rfl,hJ2⟩:=hG1
 refine AJ (AI (AQ (J E ?_)))
 refine Cs 4 E fun hv1 ho1=>?_
 refine Dt 3 E E E E JG hv1 ho1 E zT (AZ (Am (AI (AQ (Z E (Bb zO zO) (J E (AZ ?_)))))))
 exact Au ((s.1+1,some (v1,r.1)),G2) hJ2 (by dsimp only;omega) tL (BM [4,2,3] 5 E E E)
 have hge:ops.length≤s.1:=by simpa using hc1
 refine Ax (A3 (BZ (A5 ?_)))
 exact C8 (Dg E) (Af (M:=PA s::G) (.inl ⟨s,G,hge,E,hJ⟩) fun _ hw=>BT.pick (H:=[_,_,_]) hw [0] 3 E)
theorem lN{v0 v1:Value}{p0:List Ao}{ops:List KQ}(hs0:B6 K w0 AY 4 v0 p0)(hs1:B6 K w0 CD 5 v1 ops):zC K w0 78 [v0,v1] [] H (fun u M=>∃bo bl:Nat,u=.func (.func 114) #[] #[vP bo 0,vP bl 0]∧M=[AL bo (.cells #[v1] 74),AL bl (.cells #[v0] 37)]):=by
 refine TP.enter Tryz.func78 rfl rfl ?_
 refine Y ?_
 refine Px hs0 fun hv0 ho0=>?_
 refine We hv0 E E zU fun b0=>?_
 refine Px hs1 fun hv1 ho1=>?_
 refine We hv1 E E zU fun b1=>?_
 refine U E (V (Y ?_))
 refine Gz (fv:=#[]) (cv:=#[_,_]) E E E ?_
 refine U E (V (AK ?_))
 exact Bo [0,1] 2 (Ck E E) E E ⟨_,_,E,E⟩
def PG(n:Nat):List KQ→List Ao→Int→Option (List Ao×Int×Int)
 | [],cur,_=>some (cur,0,0)
 | o::r,cur,at_=>(D5 n cur o).bind fun y=>cond (decide (y.2=0)) (PG n r y.1 (at_+1)) (some ([],at_,y.2))
def QS(n:Nat)(l:List Ao)(ops:List KQ):Option (List Ao×Int×Int):=(FZ n l).bind fun y=>cond (!y) (some ([],0,80)) (cond (decide ((ops.length:Int)=0)||decide (64<(ops.length:Int))) (some ([],0,101)) (PG n ops l 0))
theorem iq{s:PF}(h:s.2≠none)(v0:Value)(p0:List Ao):PA s=AD 35 4 (X2 v0 s) AY (VW p0 s):=by
 obtain⟨k,_ | ⟨v,m⟩⟩:=s
 exact absurd rfl h
 rfl
theorem jl{n:Nat}{v0 v1:Value}{p0:List Ao}{ops:List KQ}{r:List Ao×Int×Int}(h:QS n p0 ops=some r)(hs0:B6 K w0 AY 4 v0 p0)(hs1:B6 K w0 CD 5 v1 ops):zC K w0 53 [v0,v1] [] H (fun u M=>∃v:Value,u=.tuple #[v,vI r.2.1,vI r.2.2]∧M=[AD 35 4 v AY r.1]):=by
 unfold QS at h
 refine TP.enter Tryz.func53 rfl rfl ?_
 refine Y (U E (U E (U E (V (KV (AH (AP (Y ?_))))))))
 refine AE h fun y1 hy1 h=>?_
 refine J E (AS 0 XF (LD hy1 hs0) E (CS E E (U E (V ?_))))
 refine AN h E (fun hc1 h=>?_) fun hc1 h=>?_
 refine Y (U E (U E (U E (V (AK (A8 (Ab (EN ?_))))))))
 obtain rfl:=zI h
 refine OV 35 4 AY ?_
 exact Bo [0] 1 (Xu E E E E) E E ⟨_,E,E⟩
 refine Y (J E (B1 hs1 E RG E (Z E Bj (J E ?_))))
 refine Ee (c:=decide (64<(ops.length:Int))) 20 4 24 E (fun hb k=>?_) (fun hb k=>?_) ?_
 refine AC E (AC E (AC E (Ah E E E ?_)))
 exact k.mono tL
 refine J E (B1 hs1 E RG E (Z E Ci (Ah E E E ?_)))
 exact k.mono tL
 refine U E (V ?_)
 refine AN h E (fun hc2 h=>?_) fun hc2 h=>?_
 refine Y (U E (U E (U E (V (AK (A8 (Ab (EN ?_))))))))
 obtain rfl:=zI h
 refine OV 35 4 AY ?_
 exact Bo [0] 1 (Xu E E E E) E E ⟨_,E,E⟩
 have hl:0<ops.length∧ops.length≤64:=by
  simp only[Bool.or_eq_false_iff,decide_eq_false_iff_not]at hc2
  omega
 refine AJ (Am (AI (Y ?_)))
 refine Ak E ob zU fun b0=>?_
 refine A2 0 E E E E O5 E E E zT (V (Y (J E ?_)))
 refine Ak E dM zU fun b1=>?_
 refine Px hs0 fun hv0 ho0=>?_
 refine Dt 0 E E E E JG hv0 ho0 E zT (V (Y ?_))
 refine Ak E ot zU fun b2=>?_
 refine A2 0 E E E E dB E E E zT (V (AH (KU (AI (AH (Y (J E (J E (B5 35 4 AY (BN 0 pu (lN hs0 hs1) E ?_))))))))))
 rintro _ _ ⟨b3,b4,rfl,rfl⟩
 refine V (AP ?_)
 refine T9 (enc:=Z5) (C:=fun s=>[PA s]) (0,none) (G0:=AL b2 (.cells #[vI 0] 29)::AL b1 (.cells #[v0] 37)::AL b0 (.cells #[vI 0] 3)::H)
  (fun s G=>PG n (ops.drop s.1) (VW p0 s) s.1=some r∧(s.2=none→s.1=0)∧G=AL b2 (.cells #[vI 0] 29)::AL b1 (.cells #[X2 v0 s] 37)::AL b0 (.cells #[vI s.1] 3)::H)
  (fun c G=>c=.exit 1∧∃v:Value,r.2.2≠0∧r.1=[]∧G=AL b2 (.cells #[vI r.2.2] 29)::AL b1 (.cells #[v] 37)::AL b0 (.cells #[vI r.2.1] 3)::H)
  rfl mQ rfl zV (ko (n:=n) hs0 hs1 zO _ _) rfl ⟨h,fun _=>rfl,rfl⟩ ?_ (fun s x s1 G hst hJ lr lp Rest=>?_) (fun s G D hds hJ=>?_) (fun c G D hX=>?_)
 rintro s G ⟨h,-,-⟩ o ho
 obtain⟨hlt,hg⟩:=List.getElem?_eq_some_iff.1 ho
 rw[List.drop_eq_getElem_cons hlt,hg,PG]at h
 obtain⟨y,hy,-⟩:=E3 h
 exact⟨y,hy⟩
 obtain⟨h,-,rfl⟩:=hJ
 obtain⟨o,m,ho,hm,rfl⟩:=hst
 obtain⟨v,e⟩:=x
 obtain⟨hlt,hg⟩:=List.getElem?_eq_some_iff.1 ho
 rw[List.drop_eq_getElem_cons hlt,hg,PG,hm]at h
 replace h:cond (decide (e=0)) (PG n (ops.drop (s.1+1)) m (s.1+1)) (some ([],(s.1:Int),e))=some r:=h
 refine Y (U E (V (AQ (U E (AZ (KT (AP (AH (Y (J E (Z E BJ (V ?_))))))))))))
 refine Av E (fun hc3=>?_) (fun hc3=>?_)
 have he:e≠0:=by simpa using hc3
 rw[zf he,CI]at h
 obtain rfl:=zI h
 refine Y (J E (A2 1 E E E E dB E E E zT (V (Ax (A3 (HN ?_))))))
 exact Nf ⟨E,_,he,E,E⟩ (BM [1,2,3] 4 E E E)
 obtain rfl:e=0:=by simpa using hc3
 replace h:PG n (ops.drop (s.1+1)) m (s.1+1)=some r:=h
 refine AJ (AI (Y (J E ?_)))
 refine Cs 0 E fun hv1 ho1=>?_
 refine Dt 2 E E E E JG hv1 ho1 E zT (V (AQ (AG 3 FG E (Z E (Bb zO zO) (A2 3 E E E E O5 E E E zT (AZ (Am ?_)))))))
 exact H5 ⟨_,E,h,(fun e=>absurd e zS),E⟩ (BM [0,1,2,3] 4 E E E)
 obtain⟨h,hn,rfl⟩:=hJ
 rw[List.drop_eq_nil_of_le hds,PG]at h
 obtain rfl:=zI h
 have hs:s.2≠none:=fun e=>by
  have:=hn e
  omega
 refine SX.heap (H':=AD 35 4 (X2 v0 s) AY (VW p0 s)::AL b2 (.cells #[vI 0] 29)::AL b1 (.cells #[X2 v0 s] 37)::AL b0 (.cells #[vI s.1] 3)::H) ?_ (fun _ hw=>by rw[←iq hs];exact hw) |> fun h=>Am (AI h)
 refine AH (Y (AG 1 QF E (Z E BJ (V (Cx E (AJ (AI (Y (AG 2 FT E (U E (U E (U E (V (AK (EN ?_)))))))))))))))
 exact Bo [0] 4 (Xu E E E E) E E ⟨_,E,E⟩
 obtain⟨rfl,v,he,hr,rfl⟩:=hX
 refine Ax (A5 (AI (AH (Y (AG 0 QF E (Z E BJ (V ?_)))))))
 refine Av E (fun hc5=>?_) (fun hc5=>absurd hc5 (by simp[he]))
 refine AH (Aw DC [0,2] (Cz [(true,0),(true,1),(true,2),(true,3),(true,4)]) zK (AG 1 FG E (AG 0 QF E (U E (U E (U E (V (AK (Ab (EN (OV 35 4 AY ?_)))))))))))
 exact Bo [0] 4 (Xu E E E E) E E ⟨_,E,by rw[hr]<;>rfl⟩
end

section
variable {K:Nat→Prop}{w0:World}{H:List AX}
abbrev RD(bf:Nat)(vo x1 x2 x3:Value):AX:=AL bf (.cells #[vo,x1,x2,x3] 80)
def rQ(n:Nat)(v0:Value)(p0:List Ao)(ops:List KQ)(s:PF)(x:Value×Int)(s':PF):Prop:=
 (s=(0,none)∧x=(v0,0)∧s'=(1,none))∨∃o m,s.1≠0∧ops[s.1-1]? = some o∧D5 n (VW p0 s) o=some (m,x.2)∧s'=(s.1+1,some (x.1,m))
def rP(n:Nat)(p0:List Ao)(ops:List KQ)(s:PF):Prop:=s.1≠0→∀o,ops[s.1-1]? = some o→∃r,D5 n (VW p0 s) o=some r
theorem iy{bf:Nat}{v0:Value}{p0:List Ao}(hs0:B6 K w0 AY 4 v0 p0):zC K w0 75 [vP bf 0,v0] [] H (fun u M=>∃bl bb:Nat,u=.func (.func 111) #[] #[vP bl 0,vP bb 0]∧M=[AL bl (.cells #[v0] 37),AL bb (.cells #[vP bf 0] 123)]):=by
 refine TP.enter Tryz.func75 rfl rfl ?_
 refine Y ?_
 refine Ba E E zU fun b0=>?_
 refine Px hs0 fun hv0 ho0=>?_
 refine We hv0 E E zU fun b1=>?_
 refine U E (V (Y ?_))
 refine Gz (fv:=#[]) (cv:=#[_,_]) E E E ?_
 refine U E (V (AK ?_))
 exact Bo [0,1] 2 (Ck E E) E E ⟨_,_,E,E⟩
theorem iZ{n bf:Nat}{v0 vo x1 x2 x3:Value}{p0:List Ao}{ops:List KQ}(hs0:B6 K w0 AY 4 v0 p0)(hl:ops.length≤1000000)(bl bb:Nat):
  ZL Tryz.prog K w0 111 [vP bl 0,vP bb 0] [AL bl (.cells #[v0] 37),AL bb (.cells #[vP bf 0] 123)] Z5 (fun s=>[PA s,RD bf vo x1 x2 x3,AD 83 5 vo CD ops]) (rQ n v0 p0 ops) (fun s=>ops.length+1≤s.1) (rP n p0 ops) (0,none):=by
 intro lp J9 X T rc G0 hy hdef h0
 refine TP.enter Tryz.func111 rfl rfl ?_
 show SX _ _ _ _ _ _ _ _ _ (AL bl (.cells #[v0] 37)::AL bb (.cells #[vP bf 0] 123)::PA (0,none)::RD bf vo x1 x2 x3::AD 83 5 vo CD ops::((rc::G0)++T))
 refine AH (Y (J E (AG 0 FT E ?_)))
 refine HM (M2:=[_,_]) (G:=PA (1,none)::RD bf vo x1 x2 x3::AD 83 5 vo CD ops::(rc::G0)) (T:=T) (vs:=[_,_]) (ok:=fun G1=>∃G2,G1=PA (1,none)::RD bf vo x1 x2 x3::AD 83 5 vo CD ops::G2∧J9 (1,none) G2) (no:=X) E E ⟨E,E,zT⟩ E ?_ (fun bb0 G1 hG1=>⟨zT,?_⟩)
 intro M
 exact hy (0,none) (v0,0) (1,none) (.inl ⟨rfl,rfl,rfl⟩) (rc::G0) h0 M
 refine CS E E (V ?_)
 refine Av E (fun hc1=>?_) (fun hc1=>?_)
 obtain rfl:bb0=false:=by simpa using hc1
 refine AK (Ab ?_)
 exact Ag (Dg E) (Af (M:=G1) (.inr hG1) fun _ h=>h.skip [_,_])
 obtain rfl:bb0=true:=by simpa using hc1
 obtain⟨G2,rfl,hJ2⟩:=hG1
 refine AJ (AI (SX.pick [2,3,4,0,1] 5 (Y (AG 4 qg E (AT E E (AF E PR (AG 1 Y6 E (Dh 2 E RG E E (J E (V (AP ?_)))))))))))
 refine SX.heap (SX.mono (BG (α:=PF×List AX) (fun x=>x.1.1≠0∧J9 x.1 x.2) (fun x=>[(0,vY lp),(1,vP bl 0),(15,vo),(16,vI (ops.length:Int)),(17,vI ((x.1.1-1:Nat):Int))])
  (fun x=>PA x.1::RD bf vo x1 x2 x3::AD 83 5 vo CD ops::AL bl (.cells #[X2 v0 x.1] 37)::(x.2++T)) (fun x=>ops.length+1-x.1.1) (fun x D hp=>?_) ((1,none),G2) ⟨by simp,hJ2⟩) tL) (BM [0,1,2,3] 5 rfl rfl rfl)
 obtain⟨s,G⟩:=x
 obtain⟨hs1,hJ⟩:s.1≠0∧J9 s G:=hp
 dsimp only
 refine Y (Z E A4 (V (AH ?_)))
 refine Av E (fun hc1=>?_) (fun hc1=>?_)
 have hlt:s.1-1<ops.length:=by
  have:=of_decide_eq_true hc1
  omega
 clear hc1
 obtain⟨o,ho⟩:∃o,ops[s.1-1]? = some o:=⟨_,List.getElem?_eq_getElem hlt⟩
 obtain⟨r,hr⟩:=hdef _ _ hJ hs1 o ho
 have hn:BA ops ((s.1-1:Nat):Int)=some o:=by rw[HK];exact ho
 refine AJ (AI (AH (AP (Y ?_))))
 refine CG 2 hn E RG X3 E E E fun g m cp hv=>?_
 refine Aq (CD o) E UB E E (ME (sz:=5) (enc:=CD) 2 zV E hv hn) ?_
 refine Ak E ZF zU fun b0=>?_
 refine A2 0 E E E E X3 E E E zT (V (Y (AG 4 FT E (Aq (CD o) E UB E E (Aj 0 E) (SL.pick [1,0] 2 (BN 1 dy (dY hr hs0) E ?_))))))
 rintro _ _ ⟨v1,rfl,rfl⟩
 refine J E (Ae E E E (Ae E E E (U E (U E (V (SX.pick [0,2,5,1,3,4] 6 (AH (Y (J E (J E ?_))))))))))
 refine J E ?_
 refine HM (M2:=[_,_,_]) (G:=PA (s.1+1,some (v1,r.1))::RD bf vo x1 x2 x3::AD 83 5 vo CD ops::G) (T:=T) (vs:=[_,_]) (ok:=fun G1=>∃G2,G1=PA (s.1+1,some (v1,r.1))::RD bf vo x1 x2 x3::AD 83 5 vo CD ops::G2∧J9 (s.1+1,some (v1,r.1)) G2) (no:=X) E E ⟨E,E,zT⟩ E ?_ (fun bb G1 hG1=>⟨zT,?_⟩)
 intro M
 exact hy s (v1,r.2) (s.1+1,some (v1,r.1)) (.inr ⟨o,r.1,hs1,ho,hr,rfl⟩) G hJ M
 refine CS E E (V ?_)
 refine Av E (fun hc3=>?_) (fun hc3=>?_)
 obtain rfl:bb=false:=by simpa using hc3
 refine AK (Ab (A8 (Ab (Dz (A8 ?_)))))
 exact Ag (Dg E) (Af (M:=G1) (.inr hG1) fun _ h=>h.skip [_,_,_])
 obtain rfl:bb=true:=by simpa using hc3
 obtain⟨G2,rfl,hJ2⟩:=hG1
 refine AJ (AI (AQ (J E ?_)))
 refine Cs 3 E fun hv1 ho1=>?_
 refine Dt 2 E E E E JG hv1 ho1 E zT (AZ (Am (AI (AQ (Z E (Bb zO zO) ?_)))))
 refine jH (v:=vI ((s.1+1-1:Nat):Int)) E (by rw[show((s.1+1-1:Nat):Int)=((s.1-1:Nat):Int)+1 by omega];rfl) ?_
 refine AZ ?_
 exact Au ((s.1+1,some (v1,r.1)),G2) ⟨by simp,hJ2⟩ (by dsimp only;omega) tL (BM [3,4,5,2] 6 E E E)
 have hge:ops.length+1≤s.1:=by
  have:=of_decide_eq_false hc1
  omega
 refine Ax (A3 (BZ (A5 ?_)))
 exact C8 (Dg E) (Af (M:=PA s::RD bf vo x1 x2 x3::AD 83 5 vo CD ops::G) (.inl ⟨s,G,hge,E,hJ⟩) fun _ hw=>BT.pick (H:=[_,_,_,_]) hw [0,1,2] 4 E)
def MO(n:Nat):List KQ→List Ao→Option (List Ao×Int)
 | [],cur=>some (cur,0)
 | o::r,cur=>(D5 n cur o).bind fun y=>cond (decide (y.2=0)) (MO n r y.1) (some ([],y.2))
def TT(n:Nat)(f:DR)(l:List Ao)(o:KQ):Option (Int×DR):=
 cond (decide ((f.ops.length:Int)=64)) (some (101,f)) (cond (decide (f.ops.length≤1000000)) ((MO n f.ops l).bind fun y=>cond (!decide (y.2=0)) (some (y.2,f)) ((D5 n y.1 o).bind fun z=>cond (decide (z.2=0)) ((DM 40 f.ops [o]).bind fun l=>some (z.2,{ f with ops:=l })) (some (z.2,f)))) none)
theorem mJ{n bf bs:Nat}{v0 vo:Value}{f:DR}{p0:List Ao}{o:KQ}{r:Int×DR}(h:TT n f p0 o=some r)(hs0:B6 K w0 AY 4 v0 p0):
  zC K w0 51 [vP bf 0,v0,.agg (CD o).toArray] [RD bf vo (vB f.isOpen) (vP bs 0) (vB f.closed),AD 83 5 vo CD f.ops] H (fun u M=>∃v:Value,u=vI r.1∧M=[RD bf v (vB r.2.isOpen) (vP bs 0) (vB r.2.closed),AD 83 5 v CD r.2.ops]):=by
 unfold TT at h
 refine TP.enter Tryz.func51 rfl rfl ?_
 refine Y ?_
 refine Ba E E zU fun b0=>?_
 refine U E (V (KV (AH (Y (J E (AT E E (AF E PR (AG 1 Y6 E (Dh 2 E RG E E (Z E Bj (V ?_)))))))))))
 refine AN h E (fun hc1 h=>?_) fun hc1 h=>?_
 refine Y (U E (V (AK (Ab (EN ?_)))))
 obtain rfl:=zI h
 exact Bo [1,2] 3 (Ck E E) E E ⟨_,E,E⟩
 have hl:f.ops.length≤1000000:=by
  rcases Nat.lt_or_ge 1000000 f.ops.length with hg | hg
  rw[zf zO,CI]at h
  cases h
  exact hg
 rw[zt hl,C2]at h
 refine AE h fun y hy h=>?_
 refine AJ (AI (Y (J E ?_)))
 refine Ak E dM zU fun b1=>?_
 refine Px hs0 fun hv0 ho0=>?_
 refine Dt 0 E E E E JG hv0 ho0 E zT (V (Y ?_))
 refine Ak E ot zU fun b2=>?_
 refine A2 0 E E E E dB E E E zT (V (AH (KU (AI (SX.pick [3,4,0,1,2] 5 (AH (Y (J E (J E (B5 35 4 AY (BN 0 pr (iy hs0) E ?_)))))))))))
 rintro _ _ ⟨b3,b4,rfl,rfl⟩
 refine V (AP ?_)
 refine T9 (enc:=Z5) (C:=fun s=>[PA s,RD bf vo (vB f.isOpen) (vP bs 0) (vB f.closed),AD 83 5 vo CD f.ops]) (0,none) (G0:=AL b2 (.cells #[vI 0] 29)::AL b1 (.cells #[v0] 37)::AL b0 (.cells #[vI o.kind,AV o.id,AA o.x,AA o.y,vS o.txt] 83)::H)
  (fun s G=>MO n (f.ops.drop (s.1-1)) (VW p0 s)=some y∧(s.1=0→s.2=none)∧G=AL b2 (.cells #[vI 0] 29)::AL b1 (.cells #[X2 v0 s] 37)::AL b0 (.cells #[vI o.kind,AV o.id,AA o.x,AA o.y,vS o.txt] 83)::H)
  (fun c G=>c=.exit 0∧∃(s:PF) (v:Value),y.2≠0∧G=PA s::RD bf vo (vB f.isOpen) (vP bs 0) (vB f.closed)::AD 83 5 vo CD f.ops::AL b2 (.cells #[vI y.2] 29)::AL b1 (.cells #[v] 37)::AL b0 (.cells #[vI o.kind,AV o.id,AA o.x,AA o.y,vS o.txt] 83)::H)
  rfl mO rfl zV (iZ (n:=n) hs0 hl _ _) rfl ⟨hy,fun _=>rfl,rfl⟩ ?_ (fun s x s1 G hst hJ lr lp Rest=>?_) (fun s G D hds hJ=>?_) (fun c G D hX=>?_)
 rintro s G ⟨h,-,-⟩-o ho
 obtain⟨hlt,hg⟩:=List.getElem?_eq_some_iff.1 ho
 rw[List.drop_eq_getElem_cons hlt,hg,MO]at h
 obtain⟨y,hy,-⟩:=E3 h
 exact⟨y,hy⟩
 obtain⟨h1,-,rfl⟩:=hJ
 obtain⟨v,e⟩:=x
 have hx:(e=0∧MO n (f.ops.drop (s1.1-1)) (VW p0 s1)=some y∧X2 v0 s1=v∧v.cells=#[v]∧v.oneCell'=true∧s1.1≠0)∨(∃(m:List Ao) (k:Nat),e≠0∧s1=(k,some (v,m))∧y=([],e))∨(∃(m:List Ao) (k:Nat),e=0∧s1=(k+1,some (v,m))∧MO n (f.ops.drop k) m=some y):=by
  rcases hst with⟨rfl,hx,rfl⟩ | ⟨o',m,h0,ho,hm,rfl⟩
  obtain⟨rfl,rfl⟩:=Prod.mk.inj hx
  exact .inl ⟨rfl,h1,rfl,hv0,ho0,by simp⟩
  obtain⟨hlt,hg⟩:=List.getElem?_eq_some_iff.1 ho
  rw[List.drop_eq_getElem_cons hlt,hg,MO,hm]at h1
  replace h1:cond (decide (e=0)) (MO n (f.ops.drop (s.1-1+1)) m) (some ([],e))=some y:=h1
  by_cases he:e=0
  rw[zt he,C2,Nat.sub_add_cancel zO]at h1
  exact .inr (.inr ⟨m,s.1,he,rfl,h1⟩)
  rw[zf he,CI]at h1
  exact .inr (.inl ⟨m,s.1+1,he,rfl,(zI h1).symm⟩)
 refine Y (U E (V (AQ (U E (AZ (KT (AP (AH (Y (J E (Z E BJ (V ?_))))))))))))
 refine Av E (fun hc3=>?_) (fun hc3=>?_)
 have he:e≠0:=by simpa using hc3
 obtain⟨m,k,-,rfl,rfl⟩:∃(m:List Ao) (k:Nat),e≠0∧s1=(k,some (v,m))∧y=([],e):=by
  rcases hx with hx | hx | ⟨m,k,hx,-⟩
  exact absurd hx.1 he
  exact hx
  exact absurd hx he
 refine Y (J E (A2 3 E E E E dB E E E zT (V (Ax (A3 (HN ?_))))))
 exact Nf ⟨E,_,_,he,E⟩ (BM [0,1,2,3,4,5] 6 E E E)
 obtain rfl:e=0:=by simpa using hc3
 refine AJ (AI (AQ (J E ?_)))
 rcases hx with⟨-,h2,hv,hv1,ho1,h0⟩ | ⟨m,k,hx,-⟩ | ⟨m,k,-,rfl,h2⟩
 refine Dt 4 E E E E JG hv1 ho1 E zT (AZ (Am ?_))
 exact H5 ⟨_,E,h2,fun e=>absurd e h0,by rw[hv]⟩ (BM [0,1,2,3,4,5] 6 E E E)
 exact absurd rfl hx
 refine Cs 0 E fun hv1 ho1=>?_
 refine Dt 4 E E E E JG hv1 ho1 E zT (AZ (Am ?_))
 exact H5 ⟨_,E,h2,(fun e=>absurd e zS),E⟩ (BM [0,1,2,3,4,5] 6 E E E)
 obtain⟨h1,-,rfl⟩:=hJ
 rw[List.drop_eq_nil_of_le zO,MO]at h1
 obtain rfl:=zI h1
 obtain⟨z,hz,h⟩:=E3 (show(D5 n (VW p0 s) o).bind _=some r from h)
 refine Am (AI (AH (Y (AG 3 QF E (Z E BJ (V (Cx E (AJ (AI (Y (AG 4 FT E (Aq (CD o) E UB E E (Aj 5 E) (BN 1 dy (dY hz hs0) E ?_)))))))))))))
 rintro _ _ ⟨v1,rfl,rfl⟩
 refine J E (Ae E E E (Ae E E E (U E (U E (V (AH (Y (J E (Z E Bj (V ?_))))))))))
 refine AN h E (fun hc4 h=>?_) fun hc4 h=>?_
 refine AE h fun l hl1 h=>?_
 refine Aw DC [2,6] (CF [(true,0),(true,1),(true,2),(true,3),(true,4),(true,5),(false,6),(false,7),(true,8),(true,9)] (.last 10 .nil)) zK (J E (J E (AT E E (AF E PR (AG 0 Y6 E (Aq (CD o) E UB E E (Aj 1 E) ?_))))))
 refine B9 [_] rfl RG X3 ZF ⟨rfl,trivial⟩ rfl rfl rfl zW rfl rfl (fun _=>⟨⟨3,rfl⟩,⟨7,rfl⟩,trivial⟩) fun b5=>?_
 refine CA CD 5 ([o]:List KQ) E zV E ?_
 refine Co 4 hl1 (sz:=5) (enc:=CD) zV E RG X3 rW ZF E zD E E E E (CH (sz:=5) (enc:=CD) 0 zV E) (by simp[CD,Value.oneCell']) (fun _=>⟨⟨3,E⟩,⟨7,E⟩,zT⟩) fun v2=>?_
 refine AT E E (AF E PR (Bc ?_))
 refine Cs 4 E fun hv2 ho2=>?_
 refine Dt 3 E E E E lA hv2 ho2 E zT (V (Y (J E (U E (V (AK (EN ?_)))))))
 obtain rfl:=zI h
 exact Bo [3,4] 8 (Ck E E) E E ⟨v2,E,E⟩
 refine AJ (AI (Y (J E (U E (V (AK (EN ?_)))))))
 obtain rfl:=zI h
 exact Bo [2,3] 7 (Ck E E) E E ⟨_,E,E⟩
 obtain⟨rfl,s,v,he,rfl⟩:=hX
 rw[zf he]at h
 obtain rfl:=zI (show some _=some r from h)
 refine Ax (A5 (AI (AH (Y (AG 3 QF E (Z E BJ (V ?_)))))))
 refine Av E (fun hc5=>?_) (fun hc5=>absurd hc5 (by simp[he]))
 refine Y (AG 3 QF E (U E (V (AK (Ab (EN ?_))))))
 exact Bo [1,2] 6 (Ck E E) E E ⟨_,E,E⟩
end

section
variable {K:Nat→Prop}{w0:World}{H:List AX}
def HJ(p0:Ai):Option Bool:=
 (H8 p0).bind fun y1=>
 ret (decide (y1.cnt=18446744073709551615)) fun x1=>
 some x1
theorem RB{Ar A7 B3:Nat}{B4:Value}{p0:Ai}{r:Bool}(h:HJ p0=some r): zC K w0 43 [vP Ar 0] [AL Ar (.cells #[vB p0.off,vB p0.isCut,vI p0.lasts,vI p0.counts,B4,.map (some A7),.map (some B3),AV p0.rcnt,vS p0.rtag,AA p0.rboots] 100),AD 9 1 B4 eS p0.blocks,Ad A7 AA vS p0.pend,Ad B3 AA vB p0.bad] H (fun u M=>u=vB r∧M=[AL Ar (.cells #[vB p0.off,vB p0.isCut,vI p0.lasts,vI p0.counts,B4,.map (some A7),.map (some B3),AV p0.rcnt,vS p0.rtag,AA p0.rboots] 100),AD 9 1 B4 eS p0.blocks,Ad A7 AA vS p0.pend,Ad B3 AA vB p0.bad]):=by
 unfold HJ at h
 refine TP.enter Tryz.func43 rfl rfl ?_
 refine Y (U E (V (Y ?_)))
 refine AE h fun y1 hy1 h=>?_
 obtain⟨x1,ex1,h⟩:=Bu h
 refine J E (AS 4 dt (OZ hy1) E (ZH E (show cL Tryz.prog 43 0=some 0 by kernel_rfl) E E ?_))
 refine Z E (L7 (b:=18446744073709551615)) ?_
 refine Al (u:=vB x1) E E (congrArg vB ex1) ?_
 refine V (AK ?_)
 obtain rfl:=zI h
 exact AW [0,1,2,3] 4 E E E
def J8(p0:Ai)(p1:List BK):Option (Option (B2×A0)×Int×Ai):=
 (H9 p1).bind fun y1=>
 cond (!decide (y1.2=0))
 (
  some (none,y1.2,p0))
 (
  (PN p0).bind fun y2=>
  cond (!decide (y2.2.1=0))
  (
   some (none,y2.2.1,y2.2.2))
  (
   (Mo y2.2.2 p1 y1.1 y2.1).bind fun y3=>
   (y3.1).bind fun d1=>
   (Um p1).bind fun y4=>
   some (some (({ rows:=[],pages:=[],gens:=[],ring:=y4,gen:=y1.1,bad:=false }:B2),d1),y3.2,y2.2.2)))
theorem XB{Ar A7 B3:Nat}{B4 EM:Value}{p0:Ai}{p1:List BK}{r:Option (B2×A0)×Int×Ai}(h:J8 p0 p1=some r)(hs1_:B6 K w0 Aa 2 EM p1):zC K w0 44 [vP Ar 0,EM] [AL Ar (.cells #[vB p0.off,vB p0.isCut,vI p0.lasts,vI p0.counts,B4,.map (some A7),.map (some B3),AV p0.rcnt,vS p0.rtag,AA p0.rboots] 100),AD 9 1 B4 eS p0.blocks,Ad A7 AA vS p0.pend,Ad B3 AA vB p0.bad] H (fun u M=>(r.1=none∧u=.tuple #[.pointer none,vI r.2.1]∧M=[AL Ar (.cells #[vB r.2.2.off,vB r.2.2.isCut,vI r.2.2.lasts,vI r.2.2.counts,B4,.map (some A7),.map (some B3),AV r.2.2.rcnt,vS r.2.2.rtag,AA r.2.2.rboots] 100),AD 9 1 B4 eS r.2.2.blocks,Ad A7 AA vS r.2.2.pend,Ad B3 AA vB r.2.2.bad])∨(∃(d:B2×A0) (bn0:Nat) (vn0x0:Value) (vn0x1:Value) (vn0x2:Value) (vn0x5:Value) (bn1:Nat) (vn1x1:Value) (mn1x5:Nat),r.1=some d∧u=.tuple #[vP bn0 0,vI r.2.1]∧M=[AL bn0 (.cells #[vn0x0,vn0x1,vn0x2,vP Ar 0,vP bn1 0,vn0x5,AA d.1.gen,vB d.1.bad] 94),AD 35 4 vn0x0 AY d.1.rows,AD 190 3 vn0x1 AU d.1.pages,DI vn0x2 AA AA d.1.gens,AD 114 2 vn0x5 Aa d.1.ring,AL bn1 (.cells #[vP Ar 0,vn1x1,AA d.2.gen,AA d.2.boot,AV d.2.seals,.map (some mn1x5)] 181),AD 114 2 vn1x1 Aa d.2.ring,Ad mn1x5 AA vB d.2.taken,AL Ar (.cells #[vB r.2.2.off,vB r.2.2.isCut,vI r.2.2.lasts,vI r.2.2.counts,B4,.map (some A7),.map (some B3),AV r.2.2.rcnt,vS r.2.2.rtag,AA r.2.2.rboots] 100),AD 9 1 B4 eS r.2.2.blocks,Ad A7 AA vS r.2.2.pend,Ad B3 AA vB r.2.2.bad])):=by
 unfold J8 at h
 refine TP.enter Tryz.func44 rfl rfl ?_
 refine Y (U E (U E (V (Y ?_))))
 refine AE h fun y1 hy1 h=>?_
 refine J E (AS 0 ju (Rc hy1 hs1_) E (J E (Ae E E E (Ae E E E (U E (U E (V (AH (Y (J E ?_))))))))))
 refine Z E BJ (V ?_)
 refine AN h E (fun hc1 h=>?_) fun hc1 h=>?_
 refine Y (J E (U E (U E (V (AK (Ab ?_))))))
 obtain rfl:=zI h
 exact Ag (ES E E E) (Af (M:=[_,_,_,_]) (.inl ⟨E,E,E⟩) fun _ hw=>BT.pick (H:=[_,_,_,_]) hw [0,1,2,3] 4 E)
 refine AJ (AI (Y ?_))
 refine AE h fun y2 hy2 h=>?_
 refine J E (AS 4 pi (bn hy2) E (J E (Ae E E E (Ae E E E (U E (U E (V (AH (Y (J E ?_))))))))))
 refine Z E BJ (V ?_)
 refine AN h E (fun hc2 h=>?_) fun hc2 h=>?_
 refine Y (J E (U E (U E (V (AK (Ab ?_))))))
 obtain rfl:=zI h
 exact Ag (ES E E E) (Af (M:=[_,_,_,_]) (.inl ⟨E,E,E⟩) fun _ hw=>BT.pick (H:=[_,_,_,_]) hw [0,1,2,3] 4 E)
 refine AJ (AI (Y ?_))
 refine AE h fun y3 hy3 h=>?_
 refine AE h fun d1 hd1 h=>?_
 refine J E (J E (J E (J E ?_)))
 refine Bd (vs:=[_,_,_,_]) (Hin:=[_,_,_,_]) (Hr:=_) E E ⟨E,E,E,E,zT⟩ pj E E (Zp hy3 hs1_) ?_
 rintro _ _ (⟨hn,-,-⟩ | ⟨d_,b1,v1,m1,hn,rfl,rfl⟩)
 rw[hd1]at hn;cases hn
 obtain rfl:d1=d_:=zI (hd1.symm.trans hn)
 refine⟨trivial,?_⟩
 refine J E (Ae E E E (Ae E E E (U E (U E (V (Y ?_))))))
 refine AE h fun y4 hy4 h=>?_
 refine J E (J E (J E ?_))
 refine Bd (vs:=[_]) (Hin:=[]) (Hr:=_::_::_::_::_::_::_::_) E E ⟨E,zT⟩ pm E E (i0 hy4 hs1_) ?_
 rintro v2 _ ⟨_,rfl,rfl⟩
 refine⟨trivial,?_⟩
 refine J E ?_
 refine Cs 0 E fun hv1 ho1=>?_
 refine RT [vP Ar 0,vP b1 0,v2,AA y1.1] [#[vP Ar 0],#[vP b1 0],#[v2],#[AA y1.1]] (by simp only[List.map_cons,List.map_nil,hv1];rfl) E r7 rm sN ⟨E,E,E,E,zT⟩ E ?_
 refine Ba E E zU fun b2=>?_
 refine B5 35 4 AY (B5 190 3 AU (jK AA AA (J E (U E (U E (V (AK ?_)))))))
 obtain rfl:=zI h
 exact Ag (ES E E E) (Af (M:=[_,_,_,_,_,_,_,_,_,_,_,_]) (.inr ⟨_,b2,zN,zN,(.map none),v2,b1,v1,m1,E,E,E⟩) fun _ hw=>BT.pick (H:=[_,_,_,_,_,_,_,_,_,_,_,_]) hw [3,2,1,0,4,5,6,7,8,9,10,11] 12 E)
def EJ(n:Nat)(T:List UInt32)(p0:B2)(p0_1:A0)(p0_2:Ai)(p1:List Ao)(p2:List BI):Option (Int×A0×Ai):=
 (Jx p0_2).bind fun y1=>
 cond (!decide (y1.1=0))
 (
  some (y1.1,p0_1,y1.2))
 (
  (H8 y1.2).bind fun y2=>
  (BA p2 (wI ((p2.length:Int)-1))).bind fun x1=>
  (Mm y2.cnt p0.gen (p1.length:Int) (⟨x1.page,x1.tag⟩:BS)).bind fun y3=>
  cond (!decide (y3.2=0))
  (
   some (y3.2,p0_1,y1.2))
  (
   (J7 n y3.1).bind fun y4=>
   (OF y3.1.cnt).bind fun y5=>
   (Nl T p0_1 y1.2 y5 y4.1).bind fun y6=>
   cond (!decide (y6.2.1=0))
   (
    some (y6.2.1,y6.2.2.1,y6.2.2.2))
   (
    (Jx y6.2.2.2).bind fun y7=>
    cond (!decide (y7.1=0))
    (
     some (y7.1,y6.2.2.1,y7.2))
    (
     (LH y7.2 y6.1).bind fun y8=>
     some (y8.1,y6.2.2.1,y8.2)))))
theorem MQ{n Ar CX Bh A9 BD BE:Nat}{T:List UInt32}{As Ac Ay BV Bi BF EM GF:Value}{p0:B2}{p0_1:A0}{p0_2:Ai}{p1:List Ao}{p2:List BI}{r:Int×A0×Ai}(h:EJ n T p0 p0_1 p0_2 p1 p2=some r)(hS:GM K w0 T)(hs1_:B6 K w0 AY 4 EM p1)(hs2_:B6 K w0 AU 3 GF p2):zC K w0 67 [vP Ar 0,EM,GF] [AL Ar (.cells #[As,Ac,Ay,vP A9 0,vP CX 0,BV,AA p0.gen,vB p0.bad] 94),AD 35 4 As AY p0.rows,AD 190 3 Ac AU p0.pages,DI Ay AA AA p0.gens,AD 114 2 BV Aa p0.ring,AL CX (.cells #[vP A9 0,Bi,AA p0_1.gen,AA p0_1.boot,AV p0_1.seals,.map (some Bh)] 181),AD 114 2 Bi Aa p0_1.ring,Ad Bh AA vB p0_1.taken,AL A9 (.cells #[vB p0_2.off,vB p0_2.isCut,vI p0_2.lasts,vI p0_2.counts,BF,.map (some BD),.map (some BE),AV p0_2.rcnt,vS p0_2.rtag,AA p0_2.rboots] 100),AD 9 1 BF eS p0_2.blocks,Ad BD AA vS p0_2.pend,Ad BE AA vB p0_2.bad] H (fun u M=>u=vI r.1∧M=[AL Ar (.cells #[As,Ac,Ay,vP A9 0,vP CX 0,BV,AA p0.gen,vB p0.bad] 94),AD 35 4 As AY p0.rows,AD 190 3 Ac AU p0.pages,DI Ay AA AA p0.gens,AD 114 2 BV Aa p0.ring,AL CX (.cells #[vP A9 0,Bi,AA r.2.1.gen,AA r.2.1.boot,AV r.2.1.seals,.map (some Bh)] 181),AD 114 2 Bi Aa r.2.1.ring,Ad Bh AA vB r.2.1.taken,AL A9 (.cells #[vB r.2.2.off,vB r.2.2.isCut,vI r.2.2.lasts,vI r.2.2.counts,BF,.map (some BD),.map (some BE),AV r.2.2.rcnt,vS r.2.2.rtag,AA r.2.2.rboots] 100),AD 9 1 BF eS r.2.2.blocks,Ad BD AA vS r.2.2.pend,Ad BE AA vB r.2.2.bad]):=by
 unfold EJ at h
 refine TP.enter Tryz.func67 rfl rfl ?_
 refine Y (U E (V (AH (Y ?_))))
 refine AE h fun y1 hy1 h=>?_
 refine J E (AT E E (AF E OI (AG 0 M5 E (SL.pick [8,9,10,11,0,1,2,3,4,5,6,7] 12 (AS 4 Z3 (PI hy1) E (U E (V (Y (J E ?_)))))))))
 refine Z E BJ (V ?_)
 refine AN h E (fun hc1 h=>?_) fun hc1 h=>?_
 refine Y (J E (U E (V (AK (Ab ?_)))))
 obtain rfl:=zI h
 exact AW [4,5,6,7,8,9,10,11,0,1,2,3] 12 E E E
 refine AJ (AI (AH ?_))
 refine AE h fun y2 hy2 h=>?_
 refine AE h fun x1 hx1 h=>?_
 refine AE h fun y3 hy3 h=>?_
 refine Aw DC [4] (CF [(true,0),(true,1),(true,2),(true,3),(true,6),(true,7),(true,8),(true,9),(true,10),(true,11),(true,12),(true,13),(true,14),(true,15),(true,16),(true,17),(true,18)] (.alt 4 (CF [(true,5)] (.alt 19 (CF [(true,20),(true,21),(true,22),(false,23),(false,24)] (.last 25 .nil)) (.cons (false,23) (CF [(false,19),(true,20),(true,21),(true,22),(false,24)] (.last 25 .nil))))) (.cons (false,23) (CF [(false,4),(true,5),(false,19),(true,20),(true,21),(true,22),(false,24)] (.last 25 .nil))))) zK (J E (AT E E (AF E OI (AG 0 M5 E (J E (AT E E (AF E gL ?_)))))))
 refine AG 0 A1 E (J E (B1 hs1_ E Cq E (J E (J E (B1 hs2_ E KN E (Z E DZ ?_))))))
 refine C4 hx1 hs2_ E KN KM E E fun be1 of1 hc2=>?_
 refine AF E KE ?_
 refine Aq [AA x1.page,vS x1.tag] E C5 E E (XI (d:=1) hc2 E) ?_
 refine QN ?_ ?_
 refine BW 4 dt (OZ hy2) E ⟨⟨4,E⟩,zT⟩ (ZH E (show cL Tryz.prog 43 0=some 0 by kernel_rfl) E E ?_)
 refine QN ?_ ?_
 refine BW 0 d6 ((QX hy3 :)) E ⟨⟨4,E⟩,zT⟩ (J E (Ae E E E (Ae E E E ?_)))
 refine Ak E LB (fun _=>⟨⟨5,E⟩,zT⟩) fun b1=>?_
 refine A2 0 E E E E Mu E E E ⟨⟨5,E⟩,zT⟩ (Bc (U E (V (AH (Y (J E (Z E BJ (V ?_))))))))
 refine AN h E (fun hc3 h=>?_) fun hc3 h=>?_
 refine Y (J E (U E (V (AK (Ab ?_)))))
 obtain rfl:=zI h
 exact AW [5,6,7,8,9,10,11,12,1,2,3,4] 13 E E E
 refine AJ (AI (Y ?_))
 refine AE h fun y4 hy4 h=>?_
 refine Aq [AV y3.1.cnt,AA y3.1.gen,AA y3.1.rows,AA y3.1.page,vS y3.1.tag] E Id E E (Aj 0 E) (AS 0 d7 ((Oc hy4 :)) E (J E (Ae E E E (Ae E E E (U E (U E (V (AH ?_))))))))
 refine AE h fun y5 hy5 h=>?_
 refine AE h fun y6 hy6 h=>?_
 refine Aw DC [0,5] (CF [(true,0),(true,1),(true,2),(true,3),(true,4),(true,5),(true,7),(false,6),(false,8),(false,9),(true,10),(true,11),(false,12)] (.last 13 .nil)) zK (J E (AT E E (AF E Sk (AG 1 SK E (AF E LP (AG 0 Gy E (J E ?_)))))))
 refine BW 0 Zq (QY hy5) E ⟨⟨0,E⟩,⟨5,E⟩,zT⟩ (SL.pick [10,11,12,1,2,3,4,0,5,6,7,8,9] 13 (BW 7 d8 (Rn hy6 hS) E ⟨⟨7,E⟩,⟨8,E⟩,zT⟩ (J E (Ae E E E (Ae E E E (U E (Bc (U E (V (AH (Y ?_)))))))))))
 refine J E (Z E BJ (V ?_))
 refine AN h E (fun hc4 h=>?_) fun hc4 h=>?_
 refine Y (J E (U E (V (AK (Ab ?_)))))
 obtain rfl:=zI h
 exact AW [8,9,10,11,12,0,1,2,3,4,5,6] 13 E E E
 refine AJ (AI (AH (Y ?_)))
 refine AE h fun y7 hy7 h=>?_
 refine J E (AT E E (AF E OI (AG 8 M5 E (SL.pick [3,4,5,6,0,1,2] 7 (AS 4 Z3 (PI hy7) E (U E (V (Y (J E ?_)))))))))
 refine Z E BJ (V ?_)
 refine AN h E (fun hc5 h=>?_) fun hc5 h=>?_
 refine Y (J E (U E (V (AK (Ab ?_)))))
 obtain rfl:=zI h
 exact AW [8,9,10,11,12,4,5,6,0,1,2,3] 13 E E E
 refine AJ (AI (Y ?_))
 refine AE h fun y8 hy8 h=>?_
 refine J E (AT E E (AF E OI (AG 8 M5 E (J E (AS 4 Zr (Pa hy8) E (U E (V (AK ?_))))))))
 obtain rfl:=zI h
 exact AW [8,9,10,11,12,4,5,6,0,1,2,3] 13 E E E
 refine Ak E LB (fun _=>⟨⟨5,E⟩,zT⟩) fun b1=>?_
 refine BW 0 d6 ((QX hy3 :)) E ⟨⟨5,E⟩,zT⟩ (J E (Ae E E E (Ae E E E (A2 0 E E E E Mu E E E ⟨⟨5,E⟩,zT⟩ (Bc (U E (V (AH (Y (J E (Z E BJ (V ?_))))))))))))
 refine AN h E (fun hc3 h=>?_) fun hc3 h=>?_
 refine Y (J E (U E (V (AK (Ab ?_)))))
 obtain rfl:=zI h
 exact AW [5,6,7,8,9,10,11,12,1,2,3,4] 13 E E E
 refine AJ (AI (Y ?_))
 refine AE h fun y4 hy4 h=>?_
 refine Aq [AV y3.1.cnt,AA y3.1.gen,AA y3.1.rows,AA y3.1.page,vS y3.1.tag] E Id E E (Aj 0 E) (AS 0 d7 ((Oc hy4 :)) E (J E (Ae E E E (Ae E E E (U E (U E (V (AH ?_))))))))
 refine AE h fun y5 hy5 h=>?_
 refine AE h fun y6 hy6 h=>?_
 refine Aw DC [0,5] (CF [(true,0),(true,1),(true,2),(true,3),(true,4),(true,5),(true,7),(false,6),(false,8),(false,9),(true,10),(true,11),(false,12)] (.last 13 .nil)) zK (J E (AT E E (AF E Sk (AG 1 SK E (AF E LP (AG 0 Gy E (J E ?_)))))))
 refine BW 0 Zq (QY hy5) E ⟨⟨0,E⟩,⟨5,E⟩,zT⟩ (SL.pick [10,11,12,1,2,3,4,0,5,6,7,8,9] 13 (BW 7 d8 (Rn hy6 hS) E ⟨⟨7,E⟩,⟨8,E⟩,zT⟩ (J E (Ae E E E (Ae E E E (U E (Bc (U E (V (AH (Y ?_)))))))))))
 refine J E (Z E BJ (V ?_))
 refine AN h E (fun hc4 h=>?_) fun hc4 h=>?_
 refine Y (J E (U E (V (AK (Ab ?_)))))
 obtain rfl:=zI h
 exact AW [8,9,10,11,12,0,1,2,3,4,5,6] 13 E E E
 refine AJ (AI (AH (Y ?_)))
 refine AE h fun y7 hy7 h=>?_
 refine J E (AT E E (AF E OI (AG 8 M5 E (SL.pick [3,4,5,6,0,1,2] 7 (AS 4 Z3 (PI hy7) E (U E (V (Y (J E ?_)))))))))
 refine Z E BJ (V ?_)
 refine AN h E (fun hc5 h=>?_) fun hc5 h=>?_
 refine Y (J E (U E (V (AK (Ab ?_)))))
 obtain rfl:=zI h
 exact AW [8,9,10,11,12,4,5,6,0,1,2,3] 13 E E E
 refine AJ (AI (Y ?_))
 refine AE h fun y8 hy8 h=>?_
 refine J E (AT E E (AF E OI (AG 8 M5 E (J E (AS 4 Zr (Pa hy8) E (U E (V (AK ?_))))))))
 obtain rfl:=zI h
 exact AW [8,9,10,11,12,4,5,6,0,1,2,3] 13 E E E
 refine Ak E LB (fun _=>⟨⟨5,E⟩,zT⟩) fun b1=>?_
 refine SL.pick [1,2,3,4,0] 5 (BW 4 dt (OZ hy2) E ⟨⟨5,E⟩,zT⟩ (ZH E (show cL Tryz.prog 43 0=some 0 by kernel_rfl) E E (BW 0 d6 ((QX hy3 :)) E ⟨⟨5,E⟩,zT⟩ (J E (Ae E E E (Ae E E E (A2 4 E E E E Mu E E E ⟨⟨5,E⟩,zT⟩ (Bc ?_))))))))
 refine U E (V (AH (Y (J E (Z E BJ (V ?_))))))
 refine AN h E (fun hc3 h=>?_) fun hc3 h=>?_
 refine Y (J E (U E (V (AK (Ab ?_)))))
 obtain rfl:=zI h
 exact AW [5,6,7,8,9,10,11,12,0,1,2,3] 13 E E E
 refine AJ (AI (Y ?_))
 refine AE h fun y4 hy4 h=>?_
 refine Aq [AV y3.1.cnt,AA y3.1.gen,AA y3.1.rows,AA y3.1.page,vS y3.1.tag] E Id E E (Aj 4 E) (AS 0 d7 ((Oc hy4 :)) E (J E (Ae E E E (Ae E E E (U E (U E (V (AH ?_))))))))
 refine AE h fun y5 hy5 h=>?_
 refine AE h fun y6 hy6 h=>?_
 refine Aw DC [4,5] (CF [(true,0),(true,1),(true,2),(true,3),(true,4),(true,5),(true,7),(false,6),(false,8),(false,9),(true,10),(true,11),(false,12)] (.last 13 .nil)) zK (J E (AT E E (AF E Sk (AG 1 SK E (AF E LP (AG 0 Gy E (J E ?_)))))))
 refine BW 0 Zq (QY hy5) E ⟨⟨4,E⟩,⟨5,E⟩,zT⟩ (SL.pick [10,11,12,0,1,2,3,4,5,6,7,8,9] 13 (BW 7 d8 (Rn hy6 hS) E ⟨⟨7,E⟩,⟨8,E⟩,zT⟩ (J E (Ae E E E (Ae E E E (U E (Bc (U E (V (AH (Y ?_)))))))))))
 refine J E (Z E BJ (V ?_))
 refine AN h E (fun hc4 h=>?_) fun hc4 h=>?_
 refine Y (J E (U E (V (AK (Ab ?_)))))
 obtain rfl:=zI h
 exact AW [8,9,10,11,12,0,1,2,3,4,5,6] 13 E E E
 refine AJ (AI (AH (Y ?_)))
 refine AE h fun y7 hy7 h=>?_
 refine J E (AT E E (AF E OI (AG 8 M5 E (SL.pick [3,4,5,6,0,1,2] 7 (AS 4 Z3 (PI hy7) E (U E (V (Y (J E ?_)))))))))
 refine Z E BJ (V ?_)
 refine AN h E (fun hc5 h=>?_) fun hc5 h=>?_
 refine Y (J E (U E (V (AK (Ab ?_)))))
 obtain rfl:=zI h
 exact AW [8,9,10,11,12,4,5,6,0,1,2,3] 13 E E E
 refine AJ (AI (Y ?_))
 refine AE h fun y8 hy8 h=>?_
 refine J E (AT E E (AF E OI (AG 8 M5 E (J E (AS 4 Zr (Pa hy8) E (U E (V (AK ?_))))))))
 obtain rfl:=zI h
 exact AW [8,9,10,11,12,4,5,6,0,1,2,3] 13 E E E
def Fz(a2:Int)(nx_f_store_Store_moves_l2:List (UInt32×UInt32)×Int→Option (B2×A0))(l6:List (UInt32×UInt32)):Option (B2×A0):=
 nx_f_store_Store_moves_l2 (l6,wI (a2+1))
def F0(a3:Int)(nx_f_store_Store_moves_l3:A0×Int→Option (B2×A0))(o3:A0):Option (B2×A0):=
 nx_f_store_Store_moves_l3 (o3,wI (a3+1))
def IQ(p0:B2)(p1:List Ao)(p2:List BI)(l4:List (UInt32×UInt32))(o1:A0):Option (B2×A0):=
 some ({ p0 with rows:=p1,pages:=p2,gens:=l4 },o1)
def ER(p0:B2)(p0_2:Ai)(p1:List Ao)(p2:List BI)(l4:List (UInt32×UInt32))(nx_f_store_Store_moves_l3:A0×Int→Option (B2×A0))(o2:A0)(a3:Int):Option (B2×A0):=
 cond (decide (a3<(p0.pages.length:Int)))
 (
  (BA p0.pages a3).bind fun x3=>
  ret ((Cy l4 x3.page).getD 0) fun x4=>
  ret ((Cy l4 x3.page).isSome) fun ok_1=>
  cond (!ok_1)
  (
   (KA o2 p0_2 x3.page).bind fun y1=>
   F0 a3 nx_f_store_Store_moves_l3 y1.2)
  (
   F0 a3 nx_f_store_Store_moves_l3 o2))
 (
  IQ p0 p1 p2 l4 o2)
def Ew(p0:B2)(p0_2:Ai)(p1:List Ao)(p2:List BI)(l4:List (UInt32×UInt32)):Nat→(A0×Int)→Option (B2×A0):=CE fun nx x=>ER p0 p0_2 p1 p2 l4 nx x.1 x.2
def IP(n:Nat)(p0:B2)(p0_1:A0)(p0_2:Ai)(p1:List Ao)(p2:List BI)(l4:List (UInt32×UInt32)):Option (B2×A0):=
 Ew p0 p0_2 p1 p2 l4 n (p0_1,0)
def DL(n:Nat)(p0:B2)(p0_1:A0)(p0_2:Ai)(p1:List Ao)(p2:List BI)(l1:List (UInt32×BI))(nx_f_store_Store_moves_l2:List (UInt32×UInt32)×Int→Option (B2×A0))(l5:List (UInt32×UInt32))(a2:Int):Option (B2×A0):=
 cond (decide (a2<(p2.length:Int)))
 (
  (BA p2 a2).bind fun x2=>
  (Mr l5 x2.page p0.gen).bind fun l7=>
  cond (decide (((Cy l1 x2.page).getD (⟨[],0,[]⟩:BI)).txt=x2.txt)&&(decide (((Cy l1 x2.page).getD (⟨[],0,[]⟩:BI)).page=x2.page)&&(decide (((Cy l1 x2.page).getD (⟨[],0,[]⟩:BI)).tag=x2.tag)&&true)))
  (
   (Mr l7 x2.page ((Cy p0.gens x2.page).getD 0)).bind fun l8=>
   Fz a2 nx_f_store_Store_moves_l2 l8)
  (
   Fz a2 nx_f_store_Store_moves_l2 l7))
 (
  IP n p0 p0_1 p0_2 p1 p2 l5)
def Dy(n:Nat)(p0:B2)(p0_1:A0)(p0_2:Ai)(p1:List Ao)(p2:List BI)(l1:List (UInt32×BI)):Nat→(List (UInt32×UInt32)×Int)→Option (B2×A0):=CE fun nx x=>DL n p0 p0_1 p0_2 p1 p2 l1 nx x.1 x.2
def IN(n:Nat)(p0:B2)(p0_1:A0)(p0_2:Ai)(p1:List Ao)(p2:List BI)(l1:List (UInt32×BI)):Option (B2×A0):=
 Dy n p0 p0_1 p0_2 p1 p2 l1 n ([],0)
def HE(n:Nat)(p0:B2)(p0_1:A0)(p0_2:Ai)(p1:List Ao)(p2:List BI)(nx_f_store_Store_moves_l1:List (UInt32×BI)×Int→Option (B2×A0))(l2:List (UInt32×BI))(a1:Int):Option (B2×A0):=
 cond (decide (a1<(p0.pages.length:Int)))
 (
  (BA p0.pages a1).bind fun x1=>
  (Mr l2 x1.page x1).bind fun l3=>
  nx_f_store_Store_moves_l1 (l3,wI (a1+1)))
 (
  IN n p0 p0_1 p0_2 p1 p2 l2)
def IR(n:Nat)(p0:B2)(p0_1:A0)(p0_2:Ai)(p1:List Ao)(p2:List BI):Nat→(List (UInt32×BI)×Int)→Option (B2×A0):=CE fun nx x=>HE n p0 p0_1 p0_2 p1 p2 nx x.1 x.2
def DY(n:Nat)(p0:B2)(p0_1:A0)(p0_2:Ai)(p1:List Ao)(p2:List BI):Option (B2×A0):=
 IR n p0 p0_1 p0_2 p1 p2 n ([],0)
theorem Nk{n Ar CX Bh A9 BD BE:Nat}{As Ac Ay BV Bi BF EM GF:Value}{p0:B2}{p0_1:A0}{p0_2:Ai}{p1:List Ao}{p2:List BI}{r:B2×A0}(h:DY n p0 p0_1 p0_2 p1 p2=some r): zC K w0 68 [vP Ar 0,EM,GF] [AL Ar (.cells #[As,Ac,Ay,vP A9 0,vP CX 0,BV,AA p0.gen,vB p0.bad] 94),AD 35 4 As AY p0.rows,AD 190 3 Ac AU p0.pages,DI Ay AA AA p0.gens,AD 114 2 BV Aa p0.ring,AL CX (.cells #[vP A9 0,Bi,AA p0_1.gen,AA p0_1.boot,AV p0_1.seals,.map (some Bh)] 181),AD 114 2 Bi Aa p0_1.ring,Ad Bh AA vB p0_1.taken,AL A9 (.cells #[vB p0_2.off,vB p0_2.isCut,vI p0_2.lasts,vI p0_2.counts,BF,.map (some BD),.map (some BE),AV p0_2.rcnt,vS p0_2.rtag,AA p0_2.rboots] 100),AD 9 1 BF eS p0_2.blocks,Ad BD AA vS p0_2.pend,Ad BE AA vB p0_2.bad,AD 35 4 EM AY p1,AD 190 3 GF AU p2] H (fun u M=>∃vs0_0_0 vs0_0_1 vs0_0_2:Value,u=.tuple #[]∧M=[AL Ar (.cells #[vs0_0_0,vs0_0_1,vs0_0_2,vP A9 0,vP CX 0,BV,AA r.1.gen,vB r.1.bad] 94),AD 35 4 vs0_0_0 AY r.1.rows,AD 190 3 vs0_0_1 AU r.1.pages,DI vs0_0_2 AA AA r.1.gens,AD 114 2 BV Aa r.1.ring,AL CX (.cells #[vP A9 0,Bi,AA r.2.gen,AA r.2.boot,AV r.2.seals,.map (some Bh)] 181),AD 114 2 Bi Aa r.2.ring,Ad Bh AA vB r.2.taken,AL A9 (.cells #[vB p0_2.off,vB p0_2.isCut,vI p0_2.lasts,vI p0_2.counts,BF,.map (some BD),.map (some BE),AV p0_2.rcnt,vS p0_2.rtag,AA p0_2.rboots] 100),AD 9 1 BF eS p0_2.blocks,Ad BD AA vS p0_2.pend,Ad BE AA vB p0_2.bad]):=by
 unfold DY at h
 refine TP.enter Tryz.func68 rfl rfl ?_
 refine Y ?_
 refine Sb AA Ta E zU fun b1=>?_
 refine U E (V ?_)
 refine A6 (α:=List (UInt32×BI)) (fun x=>IN n p0 p0_1 p0_2 p1 p2 x=some r) (fun x=>[(0,vP Ar 0),(1,EM),(2,GF),(6,.map (some b1))]) (fun x=>AL Ar (.cells #[As,Ac,Ay,vP A9 0,vP CX 0,BV,AA p0.gen,vB p0.bad] 94)::AD 35 4 As AY p0.rows::AD 190 3 Ac AU p0.pages::DI Ay AA AA p0.gens::AL A9 (.cells #[vB p0_2.off,vB p0_2.isCut,vI p0_2.lasts,vI p0_2.counts,BF,.map (some BD),.map (some BE),AV p0_2.rcnt,vS p0_2.rtag,AA p0_2.rboots] 100)::AD 9 1 BF eS p0_2.blocks::Ad BD AA vS p0_2.pend::Ad BE AA vB p0_2.bad::AL CX (.cells #[vP A9 0,Bi,AA p0_1.gen,AA p0_1.boot,AV p0_1.seals,.map (some Bh)] 181)::AD 114 2 Bi Aa p0_1.ring::Ad Bh AA vB p0_1.taken::AD 114 2 BV Aa p0.ring::AD 35 4 EM AY p1::AD 190 3 GF AU p2::Ad b1 AA Ta x::H) ?_ (fun l1 D h=>?_)
 refine Y (J E (AT E E (AF E PT (AF E aH (AG 1 QG E (Dh 3 E KN E E (J E (V (AP ?_)))))))))
 refine SX.heap (SX.mono (BG (α:=Nat×List (UInt32×BI)×Int) (fun x=>IR n p0 p0_1 p0_2 p1 p2 x.1 (x.2.1,x.2.2)=some r) (fun x=>[(0,vP Ar 0),(1,EM),(2,GF),(6,.map (some b1)),(21,Ac),(22,vI (p0.pages.length:Int)),(23,vI x.2.2)]) (fun x=>AL Ar (.cells #[As,Ac,Ay,vP A9 0,vP CX 0,BV,AA p0.gen,vB p0.bad] 94)::AD 35 4 As AY p0.rows::AD 190 3 Ac AU p0.pages::DI Ay AA AA p0.gens::AL A9 (.cells #[vB p0_2.off,vB p0_2.isCut,vI p0_2.lasts,vI p0_2.counts,BF,.map (some BD),.map (some BE),AV p0_2.rcnt,vS p0_2.rtag,AA p0_2.rboots] 100)::AD 9 1 BF eS p0_2.blocks::Ad BD AA vS p0_2.pend::Ad BE AA vB p0_2.bad::AL CX (.cells #[vP A9 0,Bi,AA p0_1.gen,AA p0_1.boot,AV p0_1.seals,.map (some Bh)] 181)::AD 114 2 Bi Aa p0_1.ring::Ad Bh AA vB p0_1.taken::AD 114 2 BV Aa p0.ring::AD 35 4 EM AY p1::AD 190 3 GF AU p2::Ad b1 AA Ta x.2.1::H) (fun x=>x.1) (fun x D h=>?_) (n,[],0) h) tL) (BM [1,2,3,4,9,10,11,12,6,7,8,5,13,14,0] 15 E E E)
 obtain⟨m1,l2,a1⟩:=x
 dsimp only at h
 rcases m1 with _ | m1
 cases (show(none:Option _)=some r from h)
 replace h:HE n p0 p0_1 p0_2 p1 p2 (IR n p0 p0_1 p0_2 p1 p2 m1) l2 a1=some r:=h
 unfold HE at h
 try dsimp only
 refine Y (Z E A4 (V (AH ?_)))
 refine AN h E (fun hc1 h=>?_) fun hc1 h=>?_
 refine AJ (AI (AH (AP (Y ?_))))
 refine AE h fun x1 hx1 h=>?_
 refine CG 2 hx1 E KN KM E E E fun g1 m2 cp1 hv1=>?_
 refine Aq (AU x1) E RX E E (ME (sz:=3) (enc:=AU) 2 zV E hv1 hx1) ?_
 refine Ak E O8 zU fun b2=>?_
 refine A2 0 E E E E KM E E E zT (V (AQ ?_))
 refine AE h fun l3 hl3 h=>?_
 refine J E (AF E KE (AF E FS (AG 0 A1 E (Aq [vS x1.txt,AA x1.page,vS x1.tag] E RX E E (Aj 0 E) ?_))))
 refine Pw (a:=x1) 15 hl3 (T3 CJ) E lE E E E E zT ?_
 refine AZ (Am (AI (AQ (Z E Bf (J E (AZ ?_))))))
 exact Au (m1,l3,wI (a1+1)) h (Nat.lt_succ_self _) tL (BM [1,2,3,4,5,6,7,8,9,10,11,12,13,14,15] 16 E E E)
 refine Ax (A3 (BZ (A5 ?_)))
 exact Ap l2 h tL (BM [0,1,2,3,4,5,6,7,8,9,10,11,12,13,14] 15 E E E)
 unfold IN at h
 try dsimp only
 refine Y ?_
 refine Sb AA AA E zU fun b3=>?_
 refine U E (V ?_)
 refine A6 (α:=List (UInt32×UInt32)) (fun x=>IP n p0 p0_1 p0_2 p1 p2 x=some r) (fun x=>[(0,vP Ar 0),(1,EM),(2,GF),(9,.map (some b3))]) (fun x=>AL Ar (.cells #[As,Ac,Ay,vP A9 0,vP CX 0,BV,AA p0.gen,vB p0.bad] 94)::AD 35 4 As AY p0.rows::AD 190 3 Ac AU p0.pages::DI Ay AA AA p0.gens::AL A9 (.cells #[vB p0_2.off,vB p0_2.isCut,vI p0_2.lasts,vI p0_2.counts,BF,.map (some BD),.map (some BE),AV p0_2.rcnt,vS p0_2.rtag,AA p0_2.rboots] 100)::AD 9 1 BF eS p0_2.blocks::Ad BD AA vS p0_2.pend::Ad BE AA vB p0_2.bad::AL CX (.cells #[vP A9 0,Bi,AA p0_1.gen,AA p0_1.boot,AV p0_1.seals,.map (some Bh)] 181)::AD 114 2 Bi Aa p0_1.ring::Ad Bh AA vB p0_1.taken::AD 114 2 BV Aa p0.ring::AD 35 4 EM AY p1::AD 190 3 GF AU p2::Ad b3 AA AA x::H) ?_ (fun l4 D h=>?_)
 refine Y (J E (Dh 14 E KN E E (J E (V (AP ?_)))))
 refine SX.heap (SX.mono (BG (α:=Nat×List (UInt32×UInt32)×Int) (fun x=>Dy n p0 p0_1 p0_2 p1 p2 l1 x.1 (x.2.1,x.2.2)=some r) (fun x=>[(0,vP Ar 0),(1,EM),(2,GF),(6,.map (some b1)),(9,.map (some b3)),(34,GF),(35,vI (p2.length:Int)),(36,vI x.2.2)]) (fun x=>AL Ar (.cells #[As,Ac,Ay,vP A9 0,vP CX 0,BV,AA p0.gen,vB p0.bad] 94)::AD 35 4 As AY p0.rows::AD 190 3 Ac AU p0.pages::DI Ay AA AA p0.gens::AL A9 (.cells #[vB p0_2.off,vB p0_2.isCut,vI p0_2.lasts,vI p0_2.counts,BF,.map (some BD),.map (some BE),AV p0_2.rcnt,vS p0_2.rtag,AA p0_2.rboots] 100)::AD 9 1 BF eS p0_2.blocks::Ad BD AA vS p0_2.pend::Ad BE AA vB p0_2.bad::AL CX (.cells #[vP A9 0,Bi,AA p0_1.gen,AA p0_1.boot,AV p0_1.seals,.map (some Bh)] 181)::AD 114 2 Bi Aa p0_1.ring::Ad Bh AA vB p0_1.taken::AD 114 2 BV Aa p0.ring::AD 35 4 EM AY p1::AD 190 3 GF AU p2::Ad b1 AA Ta l1::Ad b3 AA AA x.2.1::H) (fun x=>x.1) (fun x D h=>?_) (n,[],0) h) tL) (BM [1,2,3,4,5,6,7,8,9,10,11,12,13,14,15,0] 16 E E E)
 obtain⟨m3,l5,a2⟩:=x
 dsimp only at h
 rcases m3 with _ | m3
 cases (show(none:Option _)=some r from h)
 replace h:DL n p0 p0_1 p0_2 p1 p2 l1 (Dy n p0 p0_1 p0_2 p1 p2 l1 m3) l5 a2=some r:=h
 unfold DL at h
 try dsimp only
 refine Y (Z E A4 (V (AH ?_)))
 refine AN h E (fun hc2 h=>?_) fun hc2 h=>?_
 refine AJ (AI ?_)
 refine A6 (α:=List (UInt32×UInt32)) (fun x=>Fz a2 (Dy n p0 p0_1 p0_2 p1 p2 l1 m3) x=some r) (fun x=>[(0,vP Ar 0),(1,EM),(2,GF),(6,.map (some b1)),(9,.map (some b3)),(34,GF),(35,vI (p2.length:Int)),(36,vI a2)]) (fun x=>AL Ar (.cells #[As,Ac,Ay,vP A9 0,vP CX 0,BV,AA p0.gen,vB p0.bad] 94)::AD 35 4 As AY p0.rows::AD 190 3 Ac AU p0.pages::DI Ay AA AA p0.gens::AL A9 (.cells #[vB p0_2.off,vB p0_2.isCut,vI p0_2.lasts,vI p0_2.counts,BF,.map (some BD),.map (some BE),AV p0_2.rcnt,vS p0_2.rtag,AA p0_2.rboots] 100)::AD 9 1 BF eS p0_2.blocks::Ad BD AA vS p0_2.pend::Ad BE AA vB p0_2.bad::AL CX (.cells #[vP A9 0,Bi,AA p0_1.gen,AA p0_1.boot,AV p0_1.seals,.map (some Bh)] 181)::AD 114 2 Bi Aa p0_1.ring::Ad Bh AA vB p0_1.taken::AD 114 2 BV Aa p0.ring::AD 35 4 EM AY p1::AD 190 3 GF AU p2::Ad b1 AA Ta l1::Ad b3 AA AA x::H) ?_ (fun l6 D h=>?_)
 refine AP (Y ?_)
 refine AE h fun x2 hx2 h=>?_
 refine CG 13 hx2 E KN KM E E E fun g2 m4 cp2 hv2=>?_
 refine Aq (AU x2) E RX E E (ME (sz:=3) (enc:=AU) 13 zV E hv2 hx2) ?_
 refine Ak E O8 zU fun b4=>?_
 refine A2 0 E E E E KM E E E zT (V (AH ?_))
 refine AE h fun l7 hl7 h=>?_
 refine Aw DC [0,1] (CF [(true,0),(true,1),(true,2),(true,3),(true,4),(true,5),(true,6),(true,7)] (.last 8 .nil)) zK (J E (AF E KE (AF E FS (AG 0 A1 E (J E (AT E E (AF E gL ?_)))))))
 refine AG 1 A1 E (Bc (Pw 16 hl7 (QK CJ) E ge E E E E zT (V (Y (J E (AF E KE (AF E FS (AG 0 A1 E ?_))))))))
 refine WM (zv:=(⟨[],0,[]⟩:BI)) 15 (T3 CJ) E lE O8 E E E ?_
 refine Aq [vS x2.txt,AA x2.page,vS x2.tag] E RX E E (Aj 0 E) ?_
 refine Wh E (show cM Tryz.prog 190=some [(0,.string),(1,.int .u32),(2,.string)] by kernel_rfl) E E (CW E E (Rs (a:=((Cy l1 x2.page).getD (⟨[],0,[]⟩:BI)).txt) (b:=x2.txt)) (CW E E (If (a:=((Cy l1 x2.page).getD (⟨[],0,[]⟩:BI)).page) (b:=x2.page)) (CW E E (Rs (a:=((Cy l1 x2.page).getD (⟨[],0,[]⟩:BI)).tag) (b:=x2.tag)) Is))) ?_
 refine V ?_
 refine AN h E (fun hc3 h=>?_) fun hc3 h=>?_
 refine AE h fun l8 hl8 h=>?_
 refine Aw DC [0,1,4] (CF [(true,0),(true,1),(true,2),(true,3),(true,4),(true,5),(true,6),(true,7),(true,8),(true,9),(true,10),(true,11),(true,12)] (.last 13 .nil)) zK (J E (AF E KE (AF E FS (AG 0 A1 E (J E (AT E E (AF E PT ?_)))))))
 refine AF E oG (AG 1 sC E (AF E KE (AF E FS (AG 0 A1 E ?_))))
 refine jG (zv:=0) 2 (QK CJ) E ge Hy E E E ?_
 refine Bc (Pw 16 hl8 (QK CJ) E ge E E E E zT (AZ (Am ?_)))
 exact Ap l8 h tL (BM [1,2,3,4,5,6,7,8,9,10,11,12,13,14,15,16] 17 E E E)
 refine AJ (Am ?_)
 exact Ap l7 h tL (BM [1,2,3,4,5,6,7,8,9,10,11,12,13,14,15,16] 17 E E E)
 unfold Fz at h
 try dsimp only
 refine AQ (Z E Bf (J E (AZ ?_)))
 exact Au (m3,l6,wI (a2+1)) h (Nat.lt_succ_self _) tL (BM [0,1,2,3,4,5,6,7,8,9,10,11,12,13,14,15] 16 E E E)
 refine Ax (A3 (BZ (A5 ?_)))
 exact Ap l5 h tL (BM [0,1,2,3,4,5,6,7,8,9,10,11,12,13,15] 16 E E E)
 unfold IP at h
 try dsimp only
 refine A6 (α:=A0) (fun x=>IQ p0 p1 p2 l4 x=some r) (fun x=>[(0,vP Ar 0),(1,EM),(2,GF),(9,.map (some b3))]) (fun x=>AL Ar (.cells #[As,Ac,Ay,vP A9 0,vP CX 0,BV,AA p0.gen,vB p0.bad] 94)::AD 35 4 As AY p0.rows::AD 190 3 Ac AU p0.pages::DI Ay AA AA p0.gens::AL A9 (.cells #[vB p0_2.off,vB p0_2.isCut,vI p0_2.lasts,vI p0_2.counts,BF,.map (some BD),.map (some BE),AV p0_2.rcnt,vS p0_2.rtag,AA p0_2.rboots] 100)::AD 9 1 BF eS p0_2.blocks::Ad BD AA vS p0_2.pend::Ad BE AA vB p0_2.bad::AL CX (.cells #[vP A9 0,Bi,AA x.gen,AA x.boot,AV x.seals,.map (some Bh)] 181)::AD 114 2 Bi Aa x.ring::Ad Bh AA vB x.taken::AD 114 2 BV Aa p0.ring::AD 35 4 EM AY p1::AD 190 3 GF AU p2::Ad b3 AA AA l4::H) ?_ (fun o1 D h=>?_)
 refine Y (J E (AT E E (AF E PT (AF E aH (AG 0 QG E (Dh 2 E KN E E (J E (V (AP ?_)))))))))
 refine SX.heap (SX.mono (BG (α:=Nat×A0×Int) (fun x=>Ew p0 p0_2 p1 p2 l4 x.1 (x.2.1,x.2.2)=some r) (fun x=>[(0,vP Ar 0),(1,EM),(2,GF),(9,.map (some b3)),(73,Ac),(74,vI (p0.pages.length:Int)),(75,vI x.2.2)]) (fun x=>AL Ar (.cells #[As,Ac,Ay,vP A9 0,vP CX 0,BV,AA p0.gen,vB p0.bad] 94)::AD 35 4 As AY p0.rows::AD 190 3 Ac AU p0.pages::DI Ay AA AA p0.gens::AL A9 (.cells #[vB p0_2.off,vB p0_2.isCut,vI p0_2.lasts,vI p0_2.counts,BF,.map (some BD),.map (some BE),AV p0_2.rcnt,vS p0_2.rtag,AA p0_2.rboots] 100)::AD 9 1 BF eS p0_2.blocks::Ad BD AA vS p0_2.pend::Ad BE AA vB p0_2.bad::AL CX (.cells #[vP A9 0,Bi,AA x.2.1.gen,AA x.2.1.boot,AV x.2.1.seals,.map (some Bh)] 181)::AD 114 2 Bi Aa x.2.1.ring::Ad Bh AA vB x.2.1.taken::AD 114 2 BV Aa p0.ring::AD 35 4 EM AY p1::AD 190 3 GF AU p2::Ad b3 AA AA l4::H) (fun x=>x.1) (fun x D h=>?_) (n,p0_1,0) h) tL) (BM [0,1,2,3,4,5,6,7,8,9,10,11,12,13,14] 15 E E E)
 obtain⟨m5,o2,a3⟩:=x
 dsimp only at h
 rcases m5 with _ | m5
 cases (show(none:Option _)=some r from h)
 replace h:ER p0 p0_2 p1 p2 l4 (Ew p0 p0_2 p1 p2 l4 m5) o2 a3=some r:=h
 unfold ER at h
 try dsimp only
 refine Y (Z E A4 (V (AH ?_)))
 refine AN h E (fun hc4 h=>?_) fun hc4 h=>?_
 refine AJ (AI ?_)
 refine A6 (α:=A0) (fun x=>F0 a3 (Ew p0 p0_2 p1 p2 l4 m5) x=some r) (fun x=>[(0,vP Ar 0),(1,EM),(2,GF),(9,.map (some b3)),(73,Ac),(74,vI (p0.pages.length:Int)),(75,vI a3)]) (fun x=>AL Ar (.cells #[As,Ac,Ay,vP A9 0,vP CX 0,BV,AA p0.gen,vB p0.bad] 94)::AD 35 4 As AY p0.rows::AD 190 3 Ac AU p0.pages::DI Ay AA AA p0.gens::AL A9 (.cells #[vB p0_2.off,vB p0_2.isCut,vI p0_2.lasts,vI p0_2.counts,BF,.map (some BD),.map (some BE),AV p0_2.rcnt,vS p0_2.rtag,AA p0_2.rboots] 100)::AD 9 1 BF eS p0_2.blocks::Ad BD AA vS p0_2.pend::Ad BE AA vB p0_2.bad::AL CX (.cells #[vP A9 0,Bi,AA x.gen,AA x.boot,AV x.seals,.map (some Bh)] 181)::AD 114 2 Bi Aa x.ring::Ad Bh AA vB x.taken::AD 114 2 BV Aa p0.ring::AD 35 4 EM AY p1::AD 190 3 GF AU p2::Ad b3 AA AA l4::H) ?_ (fun o3 D h=>?_)
 refine AP (Y ?_)
 refine AE h fun x3 hx3 h=>?_
 refine CG 2 hx3 E KN KM E E E fun g3 m6 cp3 hv3=>?_
 refine Aq (AU x3) E RX E E (ME (sz:=3) (enc:=AU) 2 zV E hv3 hx3) ?_
 refine Ak E O8 zU fun b5=>?_
 refine A2 0 E E E E KM E E E zT (V (Y ?_))
 obtain⟨x4,ex4,h⟩:=Bu h
 obtain⟨ok_1,eok_1,h⟩:=Bu h
 refine J E (AF E KE (AF E FS (AG 0 A1 E ?_)))
 refine Yb (zv:=0) 15 (QK CJ) E ge Hy E E E ?_
 refine J E (Ae E E E (Ae E E E ?_))
 refine Al (u:=AA x4) E E (congrArg AA ex4) ?_
 refine Al (u:=vB ok_1) E E (congrArg vB eok_1) ?_
 refine V (Y (J E (CS E E (V ?_))))
 refine AN h E (fun hc5 h=>?_) fun hc5 h=>?_
 refine AE h fun y1 hy1 h=>?_
 refine Aw DC [0,1] (CF [(true,0),(true,1),(true,2),(true,3),(true,4),(true,5),(true,6)] (.last 7 .nil)) zK (J E (AT E E (AF E Sk (AG 1 SK E (AF E KE (AF E FS (AG 0 A1 E (Bc ?_))))))))
 refine SL.pick [9,10,11,5,6,7,8,0,1,2,3,4] 12 (AS 7 kA (XC hy1) E (AZ (Am ?_)))
 exact Ap y1.2 h tL (BM [8,9,10,11,3,4,5,6,0,1,2,12,13,14,15] 16 E E E)
 refine AJ (Am ?_)
 exact Ap o2 h tL (BM [1,2,3,4,5,6,7,8,9,10,11,12,13,14,15] 16 E E E)
 unfold F0 at h
 try dsimp only
 refine AQ (Z E Bf (J E (AZ ?_)))
 exact Au (m5,o3,wI (a3+1)) h (Nat.lt_succ_self _) tL (BM [0,1,2,3,4,5,6,7,8,9,10,11,12,13,14] 15 E E E)
 refine Ax (A3 (BZ (A5 ?_)))
 exact Ap o2 h tL (BM [0,1,2,3,4,5,6,7,8,9,10,11,12,13,14] 15 E E E)
 unfold IQ at h
 try dsimp only
 refine AQ (J E (J E (J E (J E ?_))))
 refine Cs 12 E fun hv4 ho1=>?_
 refine Cs 13 E fun hv5 ho2=>?_
 refine RT [EM,GF,.map (some b3)] [#[EM],#[GF],#[.map (some b3)]] (by simp only[List.map_cons,List.map_nil,hv4,hv5];rfl) E r6 rk sM ⟨E,E,E,zT⟩ E (AT E E (AF E PT ?_))
 refine Cs 12 E fun hv6 ho3=>?_
 refine Cs 13 E fun hv7 ho4=>?_
 refine A2 0 E E E E sG E (show[EM,GF,.map (some b3)].all (·.oneCell')=true by simp only[List.all_cons,ho3,ho4];rfl) E zT ?_
 refine mD 14 E ?_ zT
 refine AZ ?_
 obtain rfl:=zI h
 exact C8 (Dg E) (Af (M:=[_,_,_,_,_,_,_,_,_,_,_,_]) ⟨EM,GF,(.map (some b3)),E,E⟩ fun _ hw=>BT.pick (H:=[_,_,_,_,_,_,_,_,_,_,_,_,_,_,_]) hw [0,12,13,14,11,8,9,10,4,5,6,7] 15 E)
def Ej(n:Nat)(p0:B2)(p1:List Ao)(y1:List BI×Int×A0×Ai)(o1:Ai)(o2:A0)(a1:Int):Option (Int×B2×A0×Ai):=
 cond (!decide (a1=0))
 (
  some (a1,{ p0 with bad:=true },o2,o1))
 (
  (DY n p0 o2 o1 p1 y1.1).bind fun y3=>
  some (0,y3.1,y3.2,o1))
def Ds(n:Nat)(T:List UInt32)(p0:B2)(p0_1:A0)(p0_2:Ai)(p1:List Ao)(p2:List BI):Option (Int×B2×A0×Ai):=
 (SJ n T p0_1 p0_2 p1 p2).bind fun y1=>
 ret (decide (y1.2.1=110)) fun x1=>
 cond x1
 (
  some (y1.2.1,p0,y1.2.2.1,y1.2.2.2))
 (
  ret (decide (y1.2.1=0)) fun x2=>
  cond x2
  (
   (EJ n T p0 y1.2.2.1 y1.2.2.2 p1 y1.1).bind fun y2=>
   Ej n p0 p1 y1 y2.2.2 y2.2.1 y2.1)
  (
   Ej n p0 p1 y1 y1.2.2.2 y1.2.2.1 y1.2.1))
theorem RN{n Ar CX Bh A9 BD BE:Nat}{T:List UInt32}{As Ac Ay BV Bi BF EM GF:Value}{p0:B2}{p0_1:A0}{p0_2:Ai}{p1:List Ao}{p2:List BI}{r:Int×B2×A0×Ai}(h:Ds n T p0 p0_1 p0_2 p1 p2=some r)(hS:GM K w0 T)(hs2_:B6 K w0 AU 3 GF p2):zC K w0 45 [vP Ar 0,EM,GF] [AL Ar (.cells #[As,Ac,Ay,vP A9 0,vP CX 0,BV,AA p0.gen,vB p0.bad] 94),AD 35 4 As AY p0.rows,AD 190 3 Ac AU p0.pages,DI Ay AA AA p0.gens,AD 114 2 BV Aa p0.ring,AL CX (.cells #[vP A9 0,Bi,AA p0_1.gen,AA p0_1.boot,AV p0_1.seals,.map (some Bh)] 181),AD 114 2 Bi Aa p0_1.ring,Ad Bh AA vB p0_1.taken,AL A9 (.cells #[vB p0_2.off,vB p0_2.isCut,vI p0_2.lasts,vI p0_2.counts,BF,.map (some BD),.map (some BE),AV p0_2.rcnt,vS p0_2.rtag,AA p0_2.rboots] 100),AD 9 1 BF eS p0_2.blocks,Ad BD AA vS p0_2.pend,Ad BE AA vB p0_2.bad,AD 35 4 EM AY p1] H (fun u M=>∃vs0_0_0 vs0_0_1 vs0_0_2:Value,u=vI r.1∧M=[AL Ar (.cells #[vs0_0_0,vs0_0_1,vs0_0_2,vP A9 0,vP CX 0,BV,AA r.2.1.gen,vB r.2.1.bad] 94),AD 35 4 vs0_0_0 AY r.2.1.rows,AD 190 3 vs0_0_1 AU r.2.1.pages,DI vs0_0_2 AA AA r.2.1.gens,AD 114 2 BV Aa r.2.1.ring,AL CX (.cells #[vP A9 0,Bi,AA r.2.2.1.gen,AA r.2.2.1.boot,AV r.2.2.1.seals,.map (some Bh)] 181),AD 114 2 Bi Aa r.2.2.1.ring,Ad Bh AA vB r.2.2.1.taken,AL A9 (.cells #[vB r.2.2.2.off,vB r.2.2.2.isCut,vI r.2.2.2.lasts,vI r.2.2.2.counts,BF,.map (some BD),.map (some BE),AV r.2.2.2.rcnt,vS r.2.2.2.rtag,AA r.2.2.2.rboots] 100),AD 9 1 BF eS r.2.2.2.blocks,Ad BD AA vS r.2.2.2.pend,Ad BE AA vB r.2.2.2.bad]):=by
 unfold Ds at h
 refine TP.enter Tryz.func45 rfl rfl ?_
 refine Y (U E (V (Y ?_)))
 refine AE h fun y1 hy1 h=>?_
 refine J E (AT E E (AF E Sk (AG 0 SK E (J E (J E (SL.pick [12,5,6,7,8,9,10,11,0,1,2,3,4] 13 ?_))))))
 refine Bd (vs:=[_,_,_]) (Hin:=[_,_,_,_,_,_,_,_]) (Hr:=_::_::_::_::_::_) E E ⟨E,E,E,zT⟩ jz E E (Ch (B:=[_]) (Hin:=[_,_,_,_,_,_,_]) fun K' w1 hk hB=>gi hy1 (hS.keeps hk) (CL (e:=35) (v:=EM) zV (hB _ zS)) (hs2_.keeps hk)) ?_
 rintro _ _ ⟨_,rfl,v1,rfl,rfl⟩
 refine⟨trivial,?_⟩
 refine J E (Ae E E E (Ae E E E (U E (U E (V ?_)))))
 refine A6 (α:=Ai×A0×Int) (fun x=>Ej n p0 p1 y1 x.1 x.2.1 x.2.2=some r) (fun x=>[(0,vP Ar 0),(1,EM),(7,v1),(8,vI x.2.2)]) (fun x=>AL Ar (.cells #[As,Ac,Ay,vP A9 0,vP CX 0,BV,AA p0.gen,vB p0.bad] 94)::AD 35 4 As AY p0.rows::AD 190 3 Ac AU p0.pages::DI Ay AA AA p0.gens::AL A9 (.cells #[vB x.1.off,vB x.1.isCut,vI x.1.lasts,vI x.1.counts,BF,.map (some BD),.map (some BE),AV x.1.rcnt,vS x.1.rtag,AA x.1.rboots] 100)::AD 9 1 BF eS x.1.blocks::Ad BD AA vS x.1.pend::Ad BE AA vB x.1.bad::AL CX (.cells #[vP A9 0,Bi,AA x.2.1.gen,AA x.2.1.boot,AV x.2.1.seals,.map (some Bh)] 181)::AD 114 2 Bi Aa x.2.1.ring::Ad Bh AA vB x.2.1.taken::AD 114 2 BV Aa p0.ring::AD 35 4 EM AY p1::AD 190 3 v1 AU y1.1::H) ?_ (fun x D h=>?_)
 refine Y (J E (V (AP (Y ?_))))
 obtain⟨x1,ex1,h⟩:=Bu h
 refine Z E Bj ?_
 refine Al (u:=vB x1) E E (congrArg vB ex1) ?_
 refine V ?_
 refine AN h E (fun hc1 h=>?_) fun hc1 h=>?_
 refine Y (J E (U E (V (AK (A8 (Fq ?_))))))
 obtain rfl:=zI h
 exact Bo [9,10,11,12,13,2,3,4,5,6,7,8] 14 (Ck E E) E E ⟨As,Ac,Ay,E,E⟩
 refine Y ?_
 obtain⟨x2,ex2,h⟩:=Bu h
 refine Z E Bj ?_
 refine Al (u:=vB x2) E E (congrArg vB ex2) ?_
 refine V ?_
 refine AN h E (fun hc2 h=>?_) fun hc2 h=>?_
 refine AQ ?_
 refine AE h fun y2 hy2 h=>?_
 refine J E (J E (J E (SL.pick [0,1,9,10,11,12,13,2,3,4,5,6,7,8] 14 ?_)))
 refine Bd (vs:=[_,_,_]) (Hin:=[_,_,_,_,_,_,_,_,_,_,_,_,_,_]) (Hr:=_) E E ⟨E,E,E,zT⟩ j0 E E (Ch (B:=[_,_]) (Hin:=[_,_,_,_,_,_,_,_,_,_,_,_]) fun K' w1 hk hB=>MQ hy2 (hS.keeps hk) (CL (e:=35) (v:=EM) zV (hB _ zS)) (CL (e:=190) (v:=v1) zV (hB _ zS))) ?_
 rintro _ _ ⟨_,rfl,rfl,rfl⟩
 refine⟨trivial,?_⟩
 refine U E (AZ (Am ?_))
 exact Ap (y2.2.2,y2.2.1,y2.1) h tL (BM [2,3,4,5,10,11,12,13,7,8,9,6,0,1] 14 E E E)
 refine AJ (Am ?_)
 exact Ap (y1.2.2.2,y1.2.2.1,y1.2.1) h tL (BM [9,10,11,12,5,6,7,8,2,3,4,13,0,1] 14 E E E)
 obtain⟨o1,o2,a1⟩:=x
 dsimp only at h
 unfold Ej at h
 try dsimp only
 refine AH (Y (J E (Z E BJ (V ?_))))
 refine AN h E (fun hc3 h=>?_) fun hc3 h=>?_
 refine Y (J E (AT E E (AF E aI (A2 0 E E E E RO E E E zT (V (Y (J E (U E (V (AK (Ab ?_)))))))))))
 obtain rfl:=zI h
 exact Bo [0,1,2,3,11,8,9,10,4,5,6,7] 14 (Ck E E) E E ⟨As,Ac,Ay,E,E⟩
 refine AJ (AI (Y ?_))
 refine AE h fun y3 hy3 h=>?_
 refine J E (J E (J E (SL.pick [0,1,2,3,11,8,9,10,4,5,6,7,12,13] 14 (BN 14 j5 (Nk hy3) E ?_))))
 rintro _ _ ⟨v2,v3,v4,rfl,rfl⟩
 refine V (Y (U E (V (AK ?_))))
 obtain rfl:=zI h
 exact Bo [0,1,2,3,4,5,6,7,8,9,10,11] 12 (Ck E E) E E ⟨v2,v3,v4,E,E⟩
def FK(n:Nat)(p0:B2)(p1:List Ao)(y1:List BI×Int×A0×Ai)(o1:Ai)(o2:A0)(a1:Int):Option (Int×B2×A0×Ai):=
 cond (!decide (a1=0))
 (
  some (a1,{ p0 with bad:=true },o2,o1))
 (
  (DY n p0 o2 o1 p1 y1.1).bind fun y3=>
  some (0,y3.1,y3.2,o1))
def E8(n:Nat)(T:List UInt32)(p0:B2)(p0_1:A0)(p0_2:Ai)(p1:List Ao):Option (Int×B2×A0×Ai):=
 (SJ n T p0_1 p0_2 p1 p0.pages).bind fun y1=>
 ret (decide (y1.2.1=110)) fun x1=>
 cond x1
 (
  some (y1.2.1,p0,y1.2.2.1,y1.2.2.2))
 (
  ret (decide (y1.2.1=0)) fun x2=>
  cond x2
  (
   (EJ n T p0 y1.2.2.1 y1.2.2.2 p1 y1.1).bind fun y2=>
   FK n p0 p1 y1 y2.2.2 y2.2.1 y2.1)
  (
   FK n p0 p1 y1 y1.2.2.2 y1.2.2.1 y1.2.1))
theorem QZ{n Ar CX Bh A9 BD BE:Nat}{T:List UInt32}{As Ac Ay BV Bi BF EM:Value}{p0:B2}{p0_1:A0}{p0_2:Ai}{p1:List Ao}{r:Int×B2×A0×Ai}(h:E8 n T p0 p0_1 p0_2 p1=some r)(hS:GM K w0 T):zC K w0 45 [vP Ar 0,EM,Ac] [AL Ar (.cells #[As,Ac,Ay,vP A9 0,vP CX 0,BV,AA p0.gen,vB p0.bad] 94),AD 35 4 As AY p0.rows,AD 190 3 Ac AU p0.pages,DI Ay AA AA p0.gens,AD 114 2 BV Aa p0.ring,AL CX (.cells #[vP A9 0,Bi,AA p0_1.gen,AA p0_1.boot,AV p0_1.seals,.map (some Bh)] 181),AD 114 2 Bi Aa p0_1.ring,Ad Bh AA vB p0_1.taken,AL A9 (.cells #[vB p0_2.off,vB p0_2.isCut,vI p0_2.lasts,vI p0_2.counts,BF,.map (some BD),.map (some BE),AV p0_2.rcnt,vS p0_2.rtag,AA p0_2.rboots] 100),AD 9 1 BF eS p0_2.blocks,Ad BD AA vS p0_2.pend,Ad BE AA vB p0_2.bad,AD 35 4 EM AY p1] H (fun u M=>∃vs0_0_0 vs0_0_1 vs0_0_2:Value,u=vI r.1∧M=[AL Ar (.cells #[vs0_0_0,vs0_0_1,vs0_0_2,vP A9 0,vP CX 0,BV,AA r.2.1.gen,vB r.2.1.bad] 94),AD 35 4 vs0_0_0 AY r.2.1.rows,AD 190 3 vs0_0_1 AU r.2.1.pages,DI vs0_0_2 AA AA r.2.1.gens,AD 114 2 BV Aa r.2.1.ring,AL CX (.cells #[vP A9 0,Bi,AA r.2.2.1.gen,AA r.2.2.1.boot,AV r.2.2.1.seals,.map (some Bh)] 181),AD 114 2 Bi Aa r.2.2.1.ring,Ad Bh AA vB r.2.2.1.taken,AL A9 (.cells #[vB r.2.2.2.off,vB r.2.2.2.isCut,vI r.2.2.2.lasts,vI r.2.2.2.counts,BF,.map (some BD),.map (some BE),AV r.2.2.2.rcnt,vS r.2.2.2.rtag,AA r.2.2.2.rboots] 100),AD 9 1 BF eS r.2.2.2.blocks,Ad BD AA vS r.2.2.2.pend,Ad BE AA vB r.2.2.2.bad]):=by
 unfold E8 at h
 refine TP.enter Tryz.func45 rfl rfl ?_
 refine Y (U E (V (Y ?_)))
 refine AE h fun y1 hy1 h=>?_
 refine J E (AT E E (AF E Sk (AG 0 SK E (J E (J E (SL.pick [12,2,5,6,7,8,9,10,11,0,1,3,4] 13 ?_))))))
 refine Bd (vs:=[_,_,_]) (Hin:=[_,_,_,_,_,_,_,_,_]) (Hr:=_::_::_::_::_) E E ⟨E,E,E,zT⟩ jz E E (Ch (B:=[_,_]) (Hin:=[_,_,_,_,_,_,_]) fun K' w1 hk hB=>gi hy1 (hS.keeps hk) (CL (e:=35) (v:=EM) zV (hB _ zS)) (CL (e:=190) (v:=Ac) zV (hB _ zS))) ?_
 rintro _ _ ⟨_,rfl,v1,rfl,rfl⟩
 refine⟨trivial,?_⟩
 refine J E (Ae E E E (Ae E E E (U E (U E (V ?_)))))
 refine A6 (α:=Ai×A0×Int) (fun x=>FK n p0 p1 y1 x.1 x.2.1 x.2.2=some r) (fun x=>[(0,vP Ar 0),(1,EM),(7,v1),(8,vI x.2.2)]) (fun x=>AL Ar (.cells #[As,Ac,Ay,vP A9 0,vP CX 0,BV,AA p0.gen,vB p0.bad] 94)::AD 35 4 As AY p0.rows::AD 190 3 Ac AU p0.pages::DI Ay AA AA p0.gens::AL A9 (.cells #[vB x.1.off,vB x.1.isCut,vI x.1.lasts,vI x.1.counts,BF,.map (some BD),.map (some BE),AV x.1.rcnt,vS x.1.rtag,AA x.1.rboots] 100)::AD 9 1 BF eS x.1.blocks::Ad BD AA vS x.1.pend::Ad BE AA vB x.1.bad::AL CX (.cells #[vP A9 0,Bi,AA x.2.1.gen,AA x.2.1.boot,AV x.2.1.seals,.map (some Bh)] 181)::AD 114 2 Bi Aa x.2.1.ring::Ad Bh AA vB x.2.1.taken::AD 114 2 BV Aa p0.ring::AD 35 4 EM AY p1::AD 190 3 v1 AU y1.1::H) ?_ (fun x D h=>?_)
 refine Y (J E (V (AP (Y ?_))))
 obtain⟨x1,ex1,h⟩:=Bu h
 refine Z E Bj ?_
 refine Al (u:=vB x1) E E (congrArg vB ex1) ?_
 refine V ?_
 refine AN h E (fun hc1 h=>?_) fun hc1 h=>?_
 refine Y (J E (U E (V (AK (A8 (Fq ?_))))))
 obtain rfl:=zI h
 exact Bo [10,11,1,12,13,3,4,5,6,7,8,9] 14 (Ck E E) E E ⟨As,Ac,Ay,E,E⟩
 refine Y ?_
 obtain⟨x2,ex2,h⟩:=Bu h
 refine Z E Bj ?_
 refine Al (u:=vB x2) E E (congrArg vB ex2) ?_
 refine V ?_
 refine AN h E (fun hc2 h=>?_) fun hc2 h=>?_
 refine AQ ?_
 refine AE h fun y2 hy2 h=>?_
 refine J E (J E (J E (SL.pick [0,2,10,11,1,12,13,3,4,5,6,7,8,9] 14 ?_)))
 refine Bd (vs:=[_,_,_]) (Hin:=[_,_,_,_,_,_,_,_,_,_,_,_,_,_]) (Hr:=_) E E ⟨E,E,E,zT⟩ j0 E E (Ch (B:=[_,_]) (Hin:=[_,_,_,_,_,_,_,_,_,_,_,_]) fun K' w1 hk hB=>MQ hy2 (hS.keeps hk) (CL (e:=35) (v:=EM) zV (hB _ zS)) (CL (e:=190) (v:=v1) zV (hB _ zS))) ?_
 rintro _ _ ⟨_,rfl,rfl,rfl⟩
 refine⟨trivial,?_⟩
 refine U E (AZ (Am ?_))
 exact Ap (y2.2.2,y2.2.1,y2.1) h tL (BM [2,3,4,5,10,11,12,13,7,8,9,6,0,1] 14 E E E)
 refine AJ (Am ?_)
 exact Ap (y1.2.2.2,y1.2.2.1,y1.2.1) h tL (BM [10,11,1,12,6,7,8,9,3,4,5,13,0,2] 14 E E E)
 obtain⟨o1,o2,a1⟩:=x
 dsimp only at h
 unfold FK at h
 try dsimp only
 refine AH (Y (J E (Z E BJ (V ?_))))
 refine AN h E (fun hc3 h=>?_) fun hc3 h=>?_
 refine Y (J E (AT E E (AF E aI (A2 0 E E E E RO E E E zT (V (Y (J E (U E (V (AK (Ab ?_)))))))))))
 obtain rfl:=zI h
 exact Bo [0,1,2,3,11,8,9,10,4,5,6,7] 14 (Ck E E) E E ⟨As,Ac,Ay,E,E⟩
 refine AJ (AI (Y ?_))
 refine AE h fun y3 hy3 h=>?_
 refine J E (J E (J E (SL.pick [0,1,2,3,11,8,9,10,4,5,6,7,12,13] 14 (BN 14 j5 (Nk hy3) E ?_))))
 rintro _ _ ⟨v2,v3,v4,rfl,rfl⟩
 refine V (Y (U E (V (AK ?_))))
 obtain rfl:=zI h
 exact Bo [0,1,2,3,4,5,6,7,8,9,10,11] 12 (Ck E E) E E ⟨v2,v3,v4,E,E⟩
def Ir(o1:Ai)(o2:B2)(o3:A0)(a1:Int):Option (Option (B2×A0)×Int×Ai):=
 cond (!decide (a1=0))
 (
  some (none,a1,o1))
 (
  some (some (o2,o3),0,o1))
def JA(n:Nat)(T:List UInt32)(p0:Ai)(p1:List BK):Option (Option (B2×A0)×Int×Ai):=
 (H9 p1).bind fun y1=>
 (Ju (decide (y1.2=0)) ((HJ p0).bind fun y2=>some (y2))).bind fun y3=>
 cond y3
 (
  some (none,72,p0))
 (
  (J8 p0 p1).bind fun y4=>
  (y4.1).bind fun d1=>
  cond (decide (y4.2.1=0))
  (
   (Ds n T d1.1 d1.2 y4.2.2 [] []).bind fun y5=>
   Ir y5.2.2.2 y5.2.1 y5.2.2.1 y5.1)
  (
   Ir y4.2.2 d1.1 d1.2 y4.2.1))
theorem WF{n Ar A7 B3:Nat}{T:List UInt32}{B4 EM:Value}{p0:Ai}{p1:List BK}{r:Option (B2×A0)×Int×Ai}(h:JA n T p0 p1=some r)(hS:GM K w0 T)(hs1_:B6 K w0 Aa 2 EM p1):zC K w0 27 [vP Ar 0,EM] [AL Ar (.cells #[vB p0.off,vB p0.isCut,vI p0.lasts,vI p0.counts,B4,.map (some A7),.map (some B3),AV p0.rcnt,vS p0.rtag,AA p0.rboots] 100),AD 9 1 B4 eS p0.blocks,Ad A7 AA vS p0.pend,Ad B3 AA vB p0.bad] H (fun u M=>(r.1=none∧u=.tuple #[.pointer none,vI r.2.1]∧M=[AL Ar (.cells #[vB r.2.2.off,vB r.2.2.isCut,vI r.2.2.lasts,vI r.2.2.counts,B4,.map (some A7),.map (some B3),AV r.2.2.rcnt,vS r.2.2.rtag,AA r.2.2.rboots] 100),AD 9 1 B4 eS r.2.2.blocks,Ad A7 AA vS r.2.2.pend,Ad B3 AA vB r.2.2.bad])∨(∃(d:B2×A0) (bn0:Nat) (vn0x0:Value) (vn0x1:Value) (vn0x2:Value) (vn0x5:Value) (bn1:Nat) (vn1x1:Value) (mn1x5:Nat),r.1=some d∧u=.tuple #[vP bn0 0,vI r.2.1]∧M=[AL bn0 (.cells #[vn0x0,vn0x1,vn0x2,vP Ar 0,vP bn1 0,vn0x5,AA d.1.gen,vB d.1.bad] 94),AD 35 4 vn0x0 AY d.1.rows,AD 190 3 vn0x1 AU d.1.pages,DI vn0x2 AA AA d.1.gens,AD 114 2 vn0x5 Aa d.1.ring,AL bn1 (.cells #[vP Ar 0,vn1x1,AA d.2.gen,AA d.2.boot,AV d.2.seals,.map (some mn1x5)] 181),AD 114 2 vn1x1 Aa d.2.ring,Ad mn1x5 AA vB d.2.taken,AL Ar (.cells #[vB r.2.2.off,vB r.2.2.isCut,vI r.2.2.lasts,vI r.2.2.counts,B4,.map (some A7),.map (some B3),AV r.2.2.rcnt,vS r.2.2.rtag,AA r.2.2.rboots] 100),AD 9 1 B4 eS r.2.2.blocks,Ad A7 AA vS r.2.2.pend,Ad B3 AA vB r.2.2.bad])):=by
 unfold JA at h
 refine TP.enter Tryz.func27 rfl rfl ?_
 refine Y (U E (U E (V (AH (Y (J E (Ed E V3 E E (V (Cx E (AJ (AI (AH (Y ?_)))))))))))))
 refine AE h fun y1 hy1 h=>?_
 refine J E (AS 0 ju (Rc hy1 hs1_) E (J E (Ae E E E (Ae E E E (U E (U E (V (Y ?_))))))))
 refine AE h fun y3 hy3 h=>?_
 refine J E (Z E Bj (J E ?_))
 refine Ga 19 3 22 hy3 E (fun hb hg1 k=>?_) (fun hb k=>?_) ?_
 obtain⟨y2,hy2,hg1⟩:=E3 hg1
 obtain rfl:=zI hg1
 refine J E (AS 4 jv (RB hy2) E (Ah E E E ?_))
 exact k.mono tL
 refine AC E (AC E (Ah E E E ?_))
 exact k.mono tL
 refine V ?_
 refine AN h E (fun hc2 h=>?_) fun hc2 h=>?_
 refine Y (U E (U E (V (AK (Ab ?_)))))
 obtain rfl:=zI h
 exact Ag (ES E E E) (Af (M:=[_,_,_,_]) (.inl ⟨E,E,E⟩) fun _ hw=>BT.pick (H:=[_,_,_,_]) hw [0,1,2,3] 4 E)
 refine AJ (AI (Y ?_))
 refine AE h fun y4 hy4 h=>?_
 refine AE h fun d1 hd1 h=>?_
 refine J E (J E ?_)
 refine Bd (vs:=[_,_]) (Hin:=[_,_,_,_]) (Hr:=_) E E ⟨E,E,zT⟩ pV E E (XB hy4 hs1_) ?_
 rintro _ _ (⟨hn,-,-⟩ | ⟨d_,b1,v1,v2,v3,v4,b2,v5,m1,hn,rfl,rfl⟩)
 rw[hd1]at hn;cases hn
 obtain rfl:d1=d_:=zI (hd1.symm.trans hn)
 refine⟨trivial,?_⟩
 refine J E (Ae E E E (Ae E E E (U E (U E (V ?_)))))
 refine A6 (α:=Ai×B2×Value×Value×Value×A0×Int) (fun x=>Ir x.1 x.2.1 x.2.2.2.2.2.1 x.2.2.2.2.2.2=some r) (fun x=>[(0,vP Ar 0),(8,vP b1 0),(9,vI x.2.2.2.2.2.2)]) (fun x=>AL Ar (.cells #[vB x.1.off,vB x.1.isCut,vI x.1.lasts,vI x.1.counts,B4,.map (some A7),.map (some B3),AV x.1.rcnt,vS x.1.rtag,AA x.1.rboots] 100)::AD 9 1 B4 eS x.1.blocks::Ad A7 AA vS x.1.pend::Ad B3 AA vB x.1.bad::AL b1 (.cells #[x.2.2.1,x.2.2.2.1,x.2.2.2.2.1,vP Ar 0,vP b2 0,v4,AA x.2.1.gen,vB x.2.1.bad] 94)::AD 35 4 x.2.2.1 AY x.2.1.rows::AD 190 3 x.2.2.2.1 AU x.2.1.pages::DI x.2.2.2.2.1 AA AA x.2.1.gens::AL b2 (.cells #[vP Ar 0,v5,AA x.2.2.2.2.2.1.gen,AA x.2.2.2.2.2.1.boot,AV x.2.2.2.2.2.1.seals,.map (some m1)] 181)::AD 114 2 v5 Aa x.2.2.2.2.2.1.ring::Ad m1 AA vB x.2.2.2.2.2.1.taken::AD 114 2 v4 Aa x.2.1.ring::H) ?_ (fun x D h=>?_)
 refine Y (J E (Z E Bj (V ?_)))
 refine AN h E (fun hc3 h=>?_) fun hc3 h=>?_
 refine AQ ?_
 refine AE h fun y5 hy5 h=>?_
 refine J E (B5 35 4 AY (SL.pick [1,2,3,4,5,6,7,8,9,10,11,12,0] 13 ?_))
 refine BN 13 jw (RN hy5 hS (B6.nil zV)) E ?_
 rintro _ _ ⟨v9,v10,v11,rfl,rfl⟩
 refine U E (AZ ?_)
 exact Ap (y5.2.2.2,y5.2.1,v9,v10,v11,y5.2.2.1,y5.1) h tL (BM [8,9,10,11,0,1,2,3,5,6,7,4] 12 E E E)
 refine AJ ?_
 exact Ap (y4.2.2,d1.1,v1,v2,v3,d1.2,y4.2.1) h tL (BM [8,9,10,11,0,1,2,3,5,6,7,4] 12 E E E)
 obtain⟨o1,o2,v6,v7,v8,o3,a1⟩:=x
 dsimp only at h
 unfold Ir at h
 try dsimp only
 refine AH (Y (J E (Z E BJ (V ?_))))
 refine AN h E (fun hc4 h=>?_) fun hc4 h=>?_
 refine Y (J E (U E (U E (V (AK (Ab ?_))))))
 obtain rfl:=zI h
 exact Ag (ES E E E) (Af (M:=[_,_,_,_]) (.inl ⟨E,E,E⟩) fun _ hw=>BT.pick (H:=[_,_,_,_,_,_,_,_,_,_,_,_]) hw [0,1,2,3] 12 E)
 refine AJ (AI (Y (J E (U E (U E (V (AK ?_)))))))
 obtain rfl:=zI h
 exact Ag (ES E E E) (Af (M:=[_,_,_,_,_,_,_,_,_,_,_,_]) (.inr ⟨_,b1,v6,v7,v8,v4,b2,v5,m1,E,E,E⟩) fun _ hw=>BT.pick (H:=[_,_,_,_,_,_,_,_,_,_,_,_]) hw [4,5,6,7,11,8,9,10,0,1,2,3] 12 E)
def Hh(p0:B2)(p0_1:A0)(p0_2:Ai):Option Int:=
 cond p0.bad
 (
  some 131)
 (
  some 0)
theorem Rm{Ar CX Bh A9 BD BE:Nat}{As Ac Ay BV Bi BF:Value}{p0:B2}{p0_1:A0}{p0_2:Ai}{r:Int}(h:Hh p0 p0_1 p0_2=some r): zC K w0 52 [vP Ar 0] [AL Ar (.cells #[As,Ac,Ay,vP A9 0,vP CX 0,BV,AA p0.gen,vB p0.bad] 94),AD 35 4 As AY p0.rows,AD 190 3 Ac AU p0.pages,DI Ay AA AA p0.gens,AD 114 2 BV Aa p0.ring,AL CX (.cells #[vP A9 0,Bi,AA p0_1.gen,AA p0_1.boot,AV p0_1.seals,.map (some Bh)] 181),AD 114 2 Bi Aa p0_1.ring,Ad Bh AA vB p0_1.taken,AL A9 (.cells #[vB p0_2.off,vB p0_2.isCut,vI p0_2.lasts,vI p0_2.counts,BF,.map (some BD),.map (some BE),AV p0_2.rcnt,vS p0_2.rtag,AA p0_2.rboots] 100),AD 9 1 BF eS p0_2.blocks,Ad BD AA vS p0_2.pend,Ad BE AA vB p0_2.bad] H (fun u M=>u=vI r∧M=[AL Ar (.cells #[As,Ac,Ay,vP A9 0,vP CX 0,BV,AA p0.gen,vB p0.bad] 94),AD 35 4 As AY p0.rows,AD 190 3 Ac AU p0.pages,DI Ay AA AA p0.gens,AD 114 2 BV Aa p0.ring,AL CX (.cells #[vP A9 0,Bi,AA p0_1.gen,AA p0_1.boot,AV p0_1.seals,.map (some Bh)] 181),AD 114 2 Bi Aa p0_1.ring,Ad Bh AA vB p0_1.taken,AL A9 (.cells #[vB p0_2.off,vB p0_2.isCut,vI p0_2.lasts,vI p0_2.counts,BF,.map (some BD),.map (some BE),AV p0_2.rcnt,vS p0_2.rtag,AA p0_2.rboots] 100),AD 9 1 BF eS p0_2.blocks,Ad BD AA vS p0_2.pend,Ad BE AA vB p0_2.bad]):=by
 unfold Hh at h
 refine TP.enter Tryz.func52 rfl rfl ?_
 refine Y (U E (V (AH (AP (Y (J E (Ed E gd E E (U E (V (Cx E (Y (J E (AT E E (AF E aI ?_))))))))))))))
 refine AG 0 VT E (U E (V ?_))
 refine AN h E (fun hc2 h=>?_) fun hc2 h=>?_
 refine Y (U E (V (AK (A8 (Ab ?_)))))
 obtain rfl:=zI h
 exact AW [0,1,2,3,4,5,6,7,8,9,10,11] 12 E E E
 refine AJ (Am (AI (Y (U E (V (AK ?_))))))
 obtain rfl:=zI h
 exact AW [0,1,2,3,4,5,6,7,8,9,10,11] 12 E E E
def Dr(n:Nat)(T:List UInt32)(p0:B2)(p0_1:A0)(p0_2:Ai)(p1:List KQ):Option (Int×Int×B2×A0×Ai):=
 (Hh p0 p0_1 p0_2).bind fun y1=>
 cond (!decide (y1=0))
 (
  some (0,y1,p0,p0_1,p0_2))
 (
  (QS n p0.rows p1).bind fun y2=>
  ret (!decide (y2.2.2=0)) fun x1=>
  cond x1
  (
   some (y2.2.1,y2.2.2,p0,p0_1,p0_2))
  (
   (HJ p0_2).bind fun y3=>
   cond y3
   (
    some (0,72,p0,p0_1,p0_2))
   (
    (E8 n T p0 p0_1 p0_2 y2.1).bind fun y4=>
    some (0,y4.1,y4.2.1,y4.2.2.1,y4.2.2.2))))
theorem M4{n Ar CX Bh A9 BD BE:Nat}{T:List UInt32}{As Ac Ay BV Bi BF EM:Value}{p0:B2}{p0_1:A0}{p0_2:Ai}{p1:List KQ}{r:Int×Int×B2×A0×Ai}(h:Dr n T p0 p0_1 p0_2 p1=some r)(hS:GM K w0 T)(hs1_:B6 K w0 CD 5 EM p1):zC K w0 34 [vP Ar 0,EM] [AL Ar (.cells #[As,Ac,Ay,vP A9 0,vP CX 0,BV,AA p0.gen,vB p0.bad] 94),AD 35 4 As AY p0.rows,AD 190 3 Ac AU p0.pages,DI Ay AA AA p0.gens,AD 114 2 BV Aa p0.ring,AL CX (.cells #[vP A9 0,Bi,AA p0_1.gen,AA p0_1.boot,AV p0_1.seals,.map (some Bh)] 181),AD 114 2 Bi Aa p0_1.ring,Ad Bh AA vB p0_1.taken,AL A9 (.cells #[vB p0_2.off,vB p0_2.isCut,vI p0_2.lasts,vI p0_2.counts,BF,.map (some BD),.map (some BE),AV p0_2.rcnt,vS p0_2.rtag,AA p0_2.rboots] 100),AD 9 1 BF eS p0_2.blocks,Ad BD AA vS p0_2.pend,Ad BE AA vB p0_2.bad] H (fun u M=>∃vs0_0_0 vs0_0_1 vs0_0_2:Value,u=.tuple #[vI r.1,vI r.2.1]∧M=[AL Ar (.cells #[vs0_0_0,vs0_0_1,vs0_0_2,vP A9 0,vP CX 0,BV,AA r.2.2.1.gen,vB r.2.2.1.bad] 94),AD 35 4 vs0_0_0 AY r.2.2.1.rows,AD 190 3 vs0_0_1 AU r.2.2.1.pages,DI vs0_0_2 AA AA r.2.2.1.gens,AD 114 2 BV Aa r.2.2.1.ring,AL CX (.cells #[vP A9 0,Bi,AA r.2.2.2.1.gen,AA r.2.2.2.1.boot,AV r.2.2.2.1.seals,.map (some Bh)] 181),AD 114 2 Bi Aa r.2.2.2.1.ring,Ad Bh AA vB r.2.2.2.1.taken,AL A9 (.cells #[vB r.2.2.2.2.off,vB r.2.2.2.2.isCut,vI r.2.2.2.2.lasts,vI r.2.2.2.2.counts,BF,.map (some BD),.map (some BE),AV r.2.2.2.2.rcnt,vS r.2.2.2.2.rtag,AA r.2.2.2.2.rboots] 100),AD 9 1 BF eS r.2.2.2.2.blocks,Ad BD AA vS r.2.2.2.2.pend,Ad BE AA vB r.2.2.2.2.bad]):=by
 unfold Dr at h
 refine TP.enter Tryz.func34 rfl rfl ?_
 refine Y (U E (U E (V (AH (Y ?_)))))
 refine AE h fun y1 hy1 h=>?_
 refine J E (AS 12 pf (Rm hy1) E (U E (V (Y (J E (Z E BJ (V ?_)))))))
 refine AN h E (fun hc1 h=>?_) fun hc1 h=>?_
 refine Y (J E (U E (U E (V (AK (Ab ?_))))))
 obtain rfl:=zI h
 exact Bo [0,1,2,3,4,5,6,7,8,9,10,11] 12 (ES E E E) E E ⟨As,Ac,Ay,E,E⟩
 refine AJ (AI (Y ?_))
 refine AE h fun y2 hy2 h=>?_
 refine J E (AT E E (AF E PT (AF E aG (AG 0 FT E (J E (SL.pick [1,0] 2 ?_))))))
 refine Bd (vs:=[_,_]) (Hin:=[_]) (Hr:=_::_::_::_::_::_::_::_::_::_::_::_) E E ⟨E,E,zT⟩ pg E E (Ch (B:=[_]) (Hin:=[]) fun K' w1 hk hB=>jl hy2 (CL (e:=35) (v:=As) zV (hB _ zS)) (hs1_.keeps hk)) ?_
 rintro _ _ ⟨_,rfl,v1,rfl,rfl⟩
 refine⟨trivial,?_⟩
 refine J E (Ae E E E (Ae E E E (Ae E E E (U E (U E (U E (V (AH (AP (Y ?_))))))))))
 obtain⟨x1,ex1,h⟩:=Bu h
 refine J E (Z E BJ ?_)
 refine Al (u:=vB x1) E E (congrArg vB ex1) ?_
 refine V ?_
 refine AN h E (fun hc2 h=>?_) fun hc2 h=>?_
 refine Y (J E (J E (U E (U E (V (AK (A8 (Ab ?_))))))))
 obtain rfl:=zI h
 exact Bo [2,0,3,4,5,6,7,8,9,10,11,12] 13 (ES E E E) E E ⟨As,Ac,Ay,E,E⟩
 refine Y ?_
 refine AE h fun y3 hy3 h=>?_
 refine J E (AT E E (AF E OI (AG 2 M5 E (SL.pick [9,10,11,12,0,1,2,3,4,5,6,7,8] 13 (AS 4 jv (RB hy3) E (U E (V ?_)))))))
 refine AN h E (fun hc3 h=>?_) fun hc3 h=>?_
 refine Y (U E (U E (V (AK (A8 (Ab ?_))))))
 obtain rfl:=zI h
 exact Bo [6,4,7,8,9,10,11,12,0,1,2,3] 13 (ES E E E) E E ⟨As,Ac,Ay,E,E⟩
 refine AJ (Am (AI (Y ?_)))
 refine AE h fun y4 hy4 h=>?_
 refine J E (J E (J E (AT E E (AF E PT (AF E aH (AG 6 QG E (SL.pick [6,4,7,8,9,10,11,12,0,1,2,3,5] 13 ?_)))))))
 refine BN 13 jw (QZ hy4 hS) E ?_
 rintro _ _ ⟨v2,v3,v4,rfl,rfl⟩
 refine U E (U E (V (AK ?_)))
 obtain rfl:=zI h
 exact Bo [0,1,2,3,4,5,6,7,8,9,10,11] 12 (ES E E E) E E ⟨v2,v3,v4,E,E⟩
def Cr(p0:B2)(p0_1:A0)(p0_2:Ai):Option (List Ao):=
 (Qa p0.rows).bind fun y1=>
 some y1
theorem N8{Ar CX Bh A9 BD BE:Nat}{As Ac Ay BV Bi BF:Value}{p0:B2}{p0_1:A0}{p0_2:Ai}{r:List Ao}(h:Cr p0 p0_1 p0_2=some r): zC K w0 12 [vP Ar 0] [AL Ar (.cells #[As,Ac,Ay,vP A9 0,vP CX 0,BV,AA p0.gen,vB p0.bad] 94),AD 35 4 As AY p0.rows,AD 190 3 Ac AU p0.pages,DI Ay AA AA p0.gens,AD 114 2 BV Aa p0.ring,AL CX (.cells #[vP A9 0,Bi,AA p0_1.gen,AA p0_1.boot,AV p0_1.seals,.map (some Bh)] 181),AD 114 2 Bi Aa p0_1.ring,Ad Bh AA vB p0_1.taken,AL A9 (.cells #[vB p0_2.off,vB p0_2.isCut,vI p0_2.lasts,vI p0_2.counts,BF,.map (some BD),.map (some BE),AV p0_2.rcnt,vS p0_2.rtag,AA p0_2.rboots] 100),AD 9 1 BF eS p0_2.blocks,Ad BD AA vS p0_2.pend,Ad BE AA vB p0_2.bad] H (fun u M=>∃v0:Value,u=v0∧M=[AD 35 4 v0 AY r,AL Ar (.cells #[As,Ac,Ay,vP A9 0,vP CX 0,BV,AA p0.gen,vB p0.bad] 94),AD 35 4 As AY p0.rows,AD 190 3 Ac AU p0.pages,DI Ay AA AA p0.gens,AD 114 2 BV Aa p0.ring,AL CX (.cells #[vP A9 0,Bi,AA p0_1.gen,AA p0_1.boot,AV p0_1.seals,.map (some Bh)] 181),AD 114 2 Bi Aa p0_1.ring,Ad Bh AA vB p0_1.taken,AL A9 (.cells #[vB p0_2.off,vB p0_2.isCut,vI p0_2.lasts,vI p0_2.counts,BF,.map (some BD),.map (some BE),AV p0_2.rcnt,vS p0_2.rtag,AA p0_2.rboots] 100),AD 9 1 BF eS p0_2.blocks,Ad BD AA vS p0_2.pend,Ad BE AA vB p0_2.bad]):=by
 unfold Cr at h
 refine TP.enter Tryz.func12 rfl rfl ?_
 refine Y (B5 35 4 AY (U E (V (AH (Y (J E (Ed E gd E E (V (Cx E (AJ (AI (Y ?_))))))))))))
 refine AE h fun y1 hy1 h=>?_
 refine J E (AT E E (AF E PT (AF E aG (AG 1 FT E (SL.pick [2,0,1] 3 ?_)))))
 refine Bd (vs:=[_]) (Hin:=[_]) (Hr:=_::_::_::_::_::_::_::_::_::_::_::_::_) E E ⟨E,zT⟩ du E E (Ch (B:=[_]) (Hin:=[]) fun K' w1 hk hB=>X9 hy1 (CL (e:=35) (v:=As) zV (hB _ zS))) ?_
 rintro v1 _ ⟨_,rfl,_,rfl,rfl⟩
 refine⟨trivial,?_⟩
 refine U E (V (AK ?_))
 obtain rfl:=zI h
 exact Bo [1,3,0,4,5,6,7,8,9,10,11,12,13] 14 (Ck E E) E E ⟨v1,E,E⟩
def Gv(n:Nat)(p0:B2)(p0_1:A0)(p0_2:Ai)(p1:UInt64):Option (Ao×Int):=
 (Ii n p0.rows p1).bind fun y1=>
 some ((⟨y1.1.id,y1.1.x,y1.1.y,y1.1.txt⟩:Ao),y1.2)
theorem TZ{n Ar CX Bh A9 BD BE:Nat}{As Ac Ay BV Bi BF:Value}{p0:B2}{p0_1:A0}{p0_2:Ai}{p1:UInt64}{r:Ao×Int}(h:Gv n p0 p0_1 p0_2 p1=some r): zC K w0 37 [vP Ar 0,AV p1] [AL Ar (.cells #[As,Ac,Ay,vP A9 0,vP CX 0,BV,AA p0.gen,vB p0.bad] 94),AD 35 4 As AY p0.rows,AD 190 3 Ac AU p0.pages,DI Ay AA AA p0.gens,AD 114 2 BV Aa p0.ring,AL CX (.cells #[vP A9 0,Bi,AA p0_1.gen,AA p0_1.boot,AV p0_1.seals,.map (some Bh)] 181),AD 114 2 Bi Aa p0_1.ring,Ad Bh AA vB p0_1.taken,AL A9 (.cells #[vB p0_2.off,vB p0_2.isCut,vI p0_2.lasts,vI p0_2.counts,BF,.map (some BD),.map (some BE),AV p0_2.rcnt,vS p0_2.rtag,AA p0_2.rboots] 100),AD 9 1 BF eS p0_2.blocks,Ad BD AA vS p0_2.pend,Ad BE AA vB p0_2.bad] H (fun u M=>u=.tuple #[.agg (AY r.1).toArray,vI r.2]∧M=[AL Ar (.cells #[As,Ac,Ay,vP A9 0,vP CX 0,BV,AA p0.gen,vB p0.bad] 94),AD 35 4 As AY p0.rows,AD 190 3 Ac AU p0.pages,DI Ay AA AA p0.gens,AD 114 2 BV Aa p0.ring,AL CX (.cells #[vP A9 0,Bi,AA p0_1.gen,AA p0_1.boot,AV p0_1.seals,.map (some Bh)] 181),AD 114 2 Bi Aa p0_1.ring,Ad Bh AA vB p0_1.taken,AL A9 (.cells #[vB p0_2.off,vB p0_2.isCut,vI p0_2.lasts,vI p0_2.counts,BF,.map (some BD),.map (some BE),AV p0_2.rcnt,vS p0_2.rtag,AA p0_2.rboots] 100),AD 9 1 BF eS p0_2.blocks,Ad BD AA vS p0_2.pend,Ad BE AA vB p0_2.bad]):=by
 unfold Gv at h
 refine TP.enter Tryz.func37 rfl rfl ?_
 refine Y ?_
 refine Ak E GG zU fun b1=>?_
 refine U E (V (AH (Y (J E (Ed E gd E E (V (Cx E (AJ (AI (Y ?_))))))))))
 refine AE h fun y1 hy1 h=>?_
 refine J E (AT E E (AF E PT (AF E aG (AG 1 FT E (J E (SL.pick [2,0,1] 3 ?_))))))
 refine Bd (vs:=[_,_]) (Hin:=[_]) (Hr:=_::_::_::_::_::_::_::_::_::_::_::_::_) E E ⟨E,E,zT⟩ ph E E (Ch (B:=[_]) (Hin:=[]) fun K' w1 hk hB=>Zc hy1 (CL (e:=35) (v:=As) zV (hB _ zS))) ?_
 rintro _ _ ⟨_,rfl,rfl,rfl⟩
 refine⟨trivial,?_⟩
 refine Ae E E E (Ae E E E (A2 1 E E E E DX E E E zT (U E (V (AK ?_)))))
 obtain rfl:=zI h
 exact Ag (D7 E (B8 1 (AY (⟨y1.1.id,y1.1.x,y1.1.y,y1.1.txt⟩:Ao)) Gd E E E E) E) (Af (M:=[_,_,_,_,_,_,_,_,_,_,_,_]) ⟨E,E⟩ fun _ hw=>BT.pick (H:=[_,_,_,_,_,_,_,_,_,_,_,_,_]) hw [2,0,3,4,5,6,7,8,9,10,11,12] 13 E)
end

section
structure Dv(N m:Nat)(c:UInt64)(d:Ai):Prop where
 bl:d.blocks.length=N
 pl:d.pend.length≤m
 pk:∀e∈d.pend,e.1.toNat<N
 rc:d.rcnt=c
theorem Dv.up{N m m':Nat}{c:UInt64}{d:Ai}(D:Dv N m c d)(h:m≤m'):Dv N m' c d:=⟨D.bl,Nat.le_trans D.pl h,D.pk,D.rc⟩
theorem hU{N m:Nat}{c:UInt64}{d:Ai}{p:UInt32}{s:List UInt8}{y:Int×Ai}(h:Ib d p s=some y)(D:Dv N m c d):Dv N (m+1) c y.2:=by
 unfold Ib at h
 rw[aL,AB,CB]at h
 cases hh:((!decide (p.toNat<d.blocks.length))||(!decide ((s.length:Int)=256)))with
 | true=>
  rw[hh,C2]at h
  obtain rfl:=zI h
  exact D.up (Nat.le_succ _)
 | false=>
  rw[hh,CI,Sp,AB]at h
  have hp:p.toNat<N:=by
   simp at hh
   rw[←D.bl]
   exact hh.1
  cases hon:WI d with
  | true=>
   rw[hon]at h
   simp only[if_true,decide_true,C2]at h
   refine AE h fun l hl h=>?_
   obtain⟨-,rfl⟩:=Vt hl
   obtain rfl:=zI (show some _=some y from h)
   refine⟨D.bl,?_,?_,D.rc⟩
   have:(Gw d.pend p).length≤d.pend.length:=List.length_filter_le ..
   have:=D.pl
   show(Gw d.pend p).length+1≤m+1
   omega
   intro e he
   rcases List.mem_cons.1 (show e∈(p,s)::Gw d.pend p from he)with rfl | he
   exact hp
   exact D.pk e (List.mem_filter.1 he).1
  | false=>
   rw[hon]at h
   obtain rfl:=zI (show some _=some y from h)
   exact⟨D.bl,Nat.le_succ_of_le D.pl,D.pk,D.rc⟩
theorem cG{T:List UInt32}{N m:Nat}{c:UInt64}{v:A0}{d:Ai}{p:UInt32}{s:List UInt8}{y:List UInt8×Int×A0×Ai}(h:KB T v d p s=some y)(D:Dv N m c d):Dv N (m+1) c y.2.2.2:=by
 unfold KB at h
 obtain⟨y1,-,h⟩:=E3 h
 cases h1:(!decide (y1.2=0))with
 | true=>
  rw[h1,C2]at h
  obtain rfl:=zI h
  exact D.up (Nat.le_succ _)
 | false=>
  rw[h1,CI]at h
  refine AE h fun y2 h2 h=>?_
  have D2:=hU h2 D
  cases h3:(!decide (y2.1=0))with
  | true=>
   rw[h3,C2]at h
   obtain rfl:=zI h
   exact D2
  | false=>
   rw[h3,CI]at h
   obtain⟨y3,-,h⟩:=E3 h
   obtain rfl:=zI h
   exact D2
theorem qB{T:List UInt32}{N m:Nat}{c:UInt64}{v:A0}{d:Ai}{s:List UInt8}{y:BS×Int×A0×Ai}(h:GP T v d s=some y)(D:Dv N m c d):Dv N (m+1) c y.2.2.2:=by
 have key:∀ {p:UInt32},Fl T v d s p=some y→Dv N (m+1) c y.2.2.2:=by
  intro p h
  unfold Fl at h
  cases h1:decide (p=0)with
  | true=>
   rw[h1,C2]at h
   obtain rfl:=zI h
   exact D.up (Nat.le_succ _)
  | false=>
   rw[h1,CI]at h
   refine AE h fun y4 h4 h=>?_
   have D4:=cG h4 D
   cases h3:(!decide (y4.2.1=0))with
   | true=>
    rw[h3,C2]at h
    obtain rfl:=zI h
    exact D4
   | false=>
    rw[h3,CI]at h
    obtain⟨l,-,h⟩:=E3 h
    obtain rfl:=zI h
    exact D4
 unfold GP at h
 rw[CB]at h
 cases h1:decide (198<(s.length:Int))with
 | true=>
  rw[h1,C2]at h
  obtain rfl:=zI h
  exact D.up (Nat.le_succ _)
 | false=>
  rw[h1,CI]at h
  obtain⟨_,-,h⟩:=E3 h
  obtain⟨xs,-,h⟩:=E3 h
  cases xs with
  | nil=>exact key (p:=0) h
  | cons e xs=>exact key (p:=e) h
theorem cj{T:List UInt32}{th:List (Mz×BS)}{N:Nat}{c:UInt64}:∀(seg:List BI) (m:Nat) (q q':YE),Wc (SH T th) q seg q'→Dv N m c q.d→Dv N (m+seg.length) c q'.d∧q'.tk.length≤q.tk.length+seg.length
 | [],m,q,q',h,D=>by rw[←show q=q' from h];exact⟨D,Nat.le_refl _⟩
 | s::seg,m,q,q',h,D=>by
  obtain⟨q1,h1,h2⟩:=h
  have D1:Dv N (m+1) c q1.d∧q1.tk.length≤q.tk.length+1:=by
   unfold SH at h1
   obtain⟨k,hk,h1⟩:=E3 h1
   cases hs:(Cy th k).isSome with
   | true=>
    rw[hs,C2]at h1
    have h3:=congrArg Prod.snd (zI h1)
    rw[←show q=q1 from h3]
    exact⟨D.up (Nat.le_succ _),Nat.le_succ _⟩
   | false=>
    rw[hs,CI]at h1
    obtain⟨y,hy,h1⟩:=E3 h1
    have D2:=qB hy D
    cases he:decide (y.2.1=0)with
    | true=>
     rw[he,C2]at h1
     obtain⟨l,hl,h1⟩:=E3 h1
     rw[←show(⟨l,y.2.2.1,y.2.2.2⟩:YE)=q1 from congrArg Prod.snd (zI h1)]
     refine⟨D2,?_⟩
     unfold DM at hl
     split at hl
     obtain rfl:=zI hl
     simp
     cases hl
    | false=>
     rw[he,CI]at h1
     rw[←show(⟨q.tk,y.2.2.1,y.2.2.2⟩:YE)=q1 from congrArg Prod.snd (zI h1)]
     exact⟨D2,Nat.le_succ _⟩
  have:=cj seg (m+1) q1 q' h2 D1.1
  have h5:=D1.2
  rw[List.length_cons,show m+(seg.length+1)=m+1+seg.length by omega]
  exact⟨this.1,by omega⟩
theorem gz{N:Nat}{c:UInt64}{d:Ai}{tag:List UInt8}(D:Dv N 0 c d)(K:RH N 0 d)(ht:tag.length=32)(hc:c≠18446744073709551615):∃d',LH d tag=some (0,d')∧Dv N 0 (c+1) d'∧RH N 0 d'∧∀p,IT d' p=IT d p:=by
 have hon:WI d=true:=by simp[WI,K.on,K.uncut]
 refine⟨{ Iu d with rcnt:=d.rcnt+1,rtag:=tag },?_,⟨D.bl,D.pl,D.pk,by rw[←D.rc]⟩,⟨K.blen,K.nle,K.on,K.uncut,K.good,K.plen,by omega⟩,fun p=>rfl⟩
 unfold LH
 rw[CB,zt (by omega:(tag.length:Int)=32)]
 simp only[Bool.not_true,CI]
 rw[CB,zf (by rw[D.rc];exact hc),CI,Sp,hon,AB]
 rfl
theorem oR{T:List UInt32}{N:Nat}{c:UInt64}{v:A0}{d:Ai}{k:BK}{s:List UInt8}(D:Dv N 0 c d)(K:RH N 0 d)(hr:v.ring.length≤1099511627776)(hk:DP v.ring v.gen=(k,0))(hs:s.length≤198)(p:UInt32)(hp:p.toNat<2)(hN:4≤N):
  ∃tag d',Nl T v d p s=some (tag,0,{ v with seals:=v.seals+1 },d')∧tag.length=32∧Dv N 1 c d'∧RH N 1 d'∧∀q:UInt32,2≤q.toNat→IT d' q=IT d q:=by
 have hb:=KW T k (hd v p) hs
 have hw:=cz (T:=T) K zO hr hk (show p.toNat<N by omega) hs
 refine⟨(HP T k (hd v p) s).drop 224,{ d with counts:=wI (d.counts+1),pend:=MI d.pend p (HP T k (hd v p) s) },?_,by simp[hb],cG hw D,(K.write zO (show p.toNat<N by omega) hb).2,fun q hq=>?_⟩
 unfold Nl
 have h1:decide ((2:UInt32)≤p)=false:=by rw[decide_eq_false_iff_not,UInt32.le_iff_toNat_le];exact Nat.not_le.2 hp
 rw[CB,h1,CI,CB,zf zO,CI,hw,AB]
 rw[VE,if_neg (fun e=>by subst e;omega)]
theorem mI(x:UInt64):∃l,GO 2200000 x 8=some l∧l.length=8:=⟨_,rfl,rfl⟩
theorem ZV(x:UInt64):∃l,GO 2200000 x 4=some l∧l.length=4:=⟨_,rfl,rfl⟩
theorem eh(r:Ec)(h:r.tag.length=32):∃s,Mn 2200000 r=some s∧s.length=56:=by
 obtain⟨a,ha,la⟩:=mI r.cnt
 obtain⟨b,hb,lb⟩:=ZV r.gen.toUInt64
 obtain⟨c,hc,lc⟩:=ZV r.rows.toUInt64
 obtain⟨e,he,le⟩:=ZV r.page.toUInt64
 have hl:([[115,112,104,114],a,b,c,e,r.tag]:List (List UInt8)).flatten.length=56:=by simp[la,lb,lc,le,h]
 refine⟨_,?_,hl⟩
 unfold Mn OG aN
 rw[ha,AB,hb,AB,hc,AB,he,AB,if_pos ⟨rfl,by simp,by simp,by omega,by omega⟩]
 rfl
end

section
theorem gI{N c0:Nat}{c:UInt64}{d:Ai}(D:Dv N 1 c d)(K:RH N c0 d):∃d',Jx d=some (0,d')∧Dv N 0 c d'∧RH N 0 d'∧∀p:UInt32,p.toNat<N→IT d' p=IT d p:=by
 have hon:WI d=true:=by simp[WI,K.on,K.uncut]
 have hb:d.blocks.length=N:=D.bl
 have base:Jx d=Jy (0,Iu d) (Qe (d.pend.map (·.1))) (Iu d):=by
  unfold Jx
  rw[Sp,hon]
  simp only[if_true,AB,decide_true,C2]
  unfold Va Wa
  rw[AB,show(Iu d).pend=d.pend from rfl,if_pos D.pl,AB]
 rcases hp:d.pend with _ | ⟨⟨k,s⟩,_ | ⟨e,r⟩⟩
 refine⟨{ Iu d with pend:=[] },?_,⟨D.bl,Nat.le_refl _,fun _ h=>(by cases h),D.rc⟩,⟨K.blen,K.nle,K.on,K.uncut,K.good,Nat.le_refl _,by omega⟩,fun p _=>?_⟩
 rw[base,hp]
 rfl
 unfold IT
 rw[hp]
 rfl
 have hk:k.toNat<N:=D.pk (k,s) (by rw[hp];exact List.mem_cons_self ..)
 refine⟨{ Iu d with blocks:=d.blocks.set k.toNat s,pend:=[] },?_,⟨(List.length_set ..).trans D.bl,Nat.le_refl _,fun _ h=>(by cases h),D.rc⟩,⟨(List.length_set ..).trans D.bl,K.nle,K.on,K.uncut,K.good,Nat.le_refl _,by omega⟩,fun p hpn=>?_⟩
 rw[base,hp]
 show H7 (0,Iu d) (Jy (0,Iu d) []) ((0:Nat),k) (Iu d)=_
 unfold H7
 have h1:BA (Iu d).blocks ((k.toNat:Nat):Int)=some (d.blocks[k.toNat]' zO):=by rw[HK];exact List.getElem?_eq_getElem _
 have h2:Np (Iu d).blocks ((k.toNat:Nat):Int) ((Cy (Iu d).pend k).getD [])=some (d.blocks.set k.toNat s):=by
  rw[LY rfl (show k.toNat<(Iu d).blocks.length by show _<d.blocks.length;omega),show(Iu d).pend=d.pend from rfl,hp]
  have:Cy [(k,s)] k=some s:=by simp[Cy]
  rw[this]
  rfl
 rw[h1,AB,h2,AB]
 rfl
 unfold IT
 rw[hp]
 show(d.blocks.set k.toNat s).getD p.toNat []=(Cy [(k,s)] p).getD (d.blocks.getD p.toNat [])
 by_cases e:k=p
 subst e
 have:Cy [(k,s)] k=some s:=by simp[Cy]
 rw[this,List.getD_eq_getElem?_getD,List.getElem?_set_self zO]
 rfl
 have:Cy [(k,s)] p=none:=by simp[Cy,e]
 have hne:k.toNat≠p.toNat:=fun h=>e (UInt32.toNat_inj.1 h)
 rw[this,List.getD_eq_getElem?_getD,List.getElem?_set_ne hne,List.getD_eq_getElem?_getD]
 rfl
 have:=D.pl
 rw[hp]at this
 simp at this
end

section
structure gw(T:List UInt32)(c:UInt64)(o:B2)(v:A0)(d:Ai):Prop where
 vs:∃c0,c0≤1∧VS 60 c0 (Di 1) 1 v d
 tk:Sz 60 v
 dv:Dv 60 0 c d
 gen:o.gen=1
 one:o.pages.length≤1
 rd:∀s∈o.pages,Rd T (Di 1) 60 v d s
 bad:o.bad=false
 tz:o.pages=[]→v.taken=[]
theorem VS.flushed{c0 c1:Nat}{R:List BK}{v v':A0}{d d':Ai}(V9:VS 60 c0 R 1 v d)(K:RH 60 c1 d')(h:v'.ring=v.ring∧v'.gen=v.gen∧v'.boot=v.boot)(ht:v'.taken.length≤c1):VS 60 c1 R 1 v' d':=
 ⟨K,h.1.trans V9.ring,V9.rlen,h.2.1.trans V9.gen,h.2.2.trans V9.boot,ht⟩
theorem RH.le{N c c':Nat}{d:Ai}(K:RH N c d)(h:c≤c')(h2:c'≤100):RH N c' d:=⟨K.blen,K.nle,K.on,K.uncut,K.good,Nat.le_trans K.plen h,h2⟩
theorem ck{T:List UInt32}{c0:Nat}{c:UInt64}{o:B2}{v:A0}{d:Ai}{l:List Ao}{s:BI}(V9:VS 60 c0 (Di 1) 1 v d)(D:Dv 60 1 c d)(hc:c=0∨c=1)(hg:o.gen=1)(hl:l.length≤1)(hs:FA ⟨s.page,s.tag⟩=true):
  ∃d',EJ 2200000 T o v d l [s]=some (0,{ v with seals:=v.seals+1 },d')∧Dv 60 0 (c+1) d'∧RH 60 0 d'∧∀q:UInt32,2≤q.toNat→q.toNat<60→IT d' q=IT d q:=by
 obtain⟨d1,h1,D1,K1,e1⟩:=gI D V9.dev
 have hr:JR ⟨c+1,1,EL (l.length:Int),s.page,s.tag⟩=some true:=by
  unfold JR
  rw[OL,hs]
  have hl2:l.length=0∨l.length=1:=zO
  rcases hc with rfl | rfl<;>rcases hl2 with h | h<;>rw[h]<;>rfl
 have hn:Mm c 1 (l.length:Int) ⟨s.page,s.tag⟩=some (⟨c+1,1,EL (l.length:Int),s.page,s.tag⟩,0):=by
  unfold Mm
  have h0:decide (c+1=0)=false:=by rcases hc with rfl | rfl<;>rfl
  have h2:(decide ((l.length:Int)<0)||decide (1000<(l.length:Int)))=false:=by simp;omega
  rw[CB,h0,CI,h2,hr]
  rfl
 obtain⟨t,ht,htl⟩:=eh ⟨c+1,1,EL (l.length:Int),s.page,s.tag⟩ (Oz hs).1
 have he:J7 2200000 ⟨c+1,1,EL (l.length:Int),s.page,s.tag⟩=some (t,0):=by
  unfold J7
  rw[hr,AB,ht]
  rfl
 have hsl:((c+1) &&& 1).toUInt32.toNat<2:=by rcases hc with rfl | rfl<;>decide
 have hk:=XQ (m:=1) zO zO
 obtain⟨tag,d2,h2,lt,D2,K2,e2⟩:=oR (T:=T) D1 K1 (by rw[V9.ring];exact V9.rlen) (by rw[V9.ring,V9.gen];exact hk) (show t.length≤198 by omega) ((c+1) &&& 1).toUInt32 hsl zO
 obtain⟨d3,h3,D3,K3,e3⟩:=gI D2 K2
 obtain⟨d4,h4,D4,K4,e4⟩:=gz D3 K3 lt (by rcases hc with rfl | rfl<;>decide)
 refine⟨d4,?_,D4,K4,fun q hq hq2=>?_⟩
 unfold EJ H8 OF
 rw[h1,AB]
 simp only[decide_true,Bool.not_true,CI,AB]
 rw[show BA [s] (wI (([s].length:Int)-1))=some s from rfl,AB,D1.rc,hg,hn,AB]
 simp only[decide_true,Bool.not_true,CI]
 rw[he,AB,CB,AB,h2,AB]
 simp only[decide_true,Bool.not_true,CI]
 rw[h3,AB]
 simp only[decide_true,Bool.not_true,CI]
 rw[h4,AB]
 rw[e4,e3 q hq2,e2 q hq,e1 q hq2]
theorem iG(v:A0)(d:Ai)(p:UInt32):∃r,KA v d p=some r:=by
 have h1:∃b,Hi v d p=some b:=by
  unfold Hi MU
  cases decide (2≤p)<;>exact⟨_,rfl⟩
 obtain⟨b,hb⟩:=h1
 unfold KA
 rw[hb,AB,CB]
 cases ((!b)||(!((Cy v.taken p).getD false)))<;>exact⟨_,rfl⟩
theorem eN(m:Nat){o:B2}{v:A0}{d:Ai}{l:List Ao}{s:BI}(h:o.pages.length≤1):∃g v',DY (m+3) o v d l [s]=some ({ o with rows:=l,pages:=[s],gens:=g },v')∧(o.pages=[]→v'=v):=by
 obtain⟨rows,pages,gens,ring,gen,bad⟩:=o
 rcases pages with _ | ⟨s1,_ | ⟨s2,r⟩⟩
 generalize hO:({ rows:=rows,pages:=[],gens:=gens,ring:=ring,gen:=gen,bad:=bad }:B2)=O
 have hx:DY (m+3) O v d l [s]=DL (m+3) O v d l [s] [] (Dy (m+3) O v d l [s] [] (m+2)) [] 0:=by subst hO;rfl
 rw[hx]
 unfold DL
 rw[show decide ((0:Int)<([s].length:Int))=true from rfl,C2,show BA [s] 0=some s from rfl,AB,show Mr ([]:List (UInt32×UInt32)) s.page O.gen=some [(s.page,O.gen)]from rfl,AB]
 generalize (decide (((Cy [] s.page).getD ⟨[],0,[]⟩:BI).txt=s.txt)&&(decide (((Cy [] s.page).getD ⟨[],0,[]⟩:BI).page=s.page)&&(decide (((Cy [] s.page).getD ⟨[],0,[]⟩:BI).tag=s.tag)&&true)))=b
 subst hO
 cases b with
 | true=>exact⟨_,_,rfl,fun _=>rfl⟩
 | false=>exact⟨_,_,rfl,fun _=>rfl⟩
 obtain⟨y,hy⟩:=iG v d s1.page
 generalize hO:({ rows:=rows,pages:=[s1],gens:=gens,ring:=ring,gen:=gen,bad:=bad }:B2)=O
 have hx:DY (m+3) O v d l [s]=DL (m+3) O v d l [s] [(s1.page,s1)] (Dy (m+3) O v d l [s] [(s1.page,s1)] (m+2)) [] 0:=by subst hO;rfl
 have h2:∃g,DY (m+3) O v d l [s]=ER O d l [s] g (Ew O d l [s] g (m+2)) v 0:=by
  rw[hx]
  unfold DL
  rw[show decide ((0:Int)<([s].length:Int))=true from rfl,C2,show BA [s] 0=some s from rfl,AB,show Mr ([]:List (UInt32×UInt32)) s.page O.gen=some [(s.page,O.gen)]from rfl,AB]
  generalize (decide (((Cy [(s1.page,s1)] s.page).getD ⟨[],0,[]⟩).txt=s.txt)&&(decide (((Cy [(s1.page,s1)] s.page).getD ⟨[],0,[]⟩).page=s.page)&&(decide (((Cy [(s1.page,s1)] s.page).getD ⟨[],0,[]⟩).tag=s.tag)&&true)))=b
  cases b with
  | true=>exact⟨_,rfl⟩
  | false=>exact⟨_,rfl⟩
 obtain⟨g,hg⟩:=h2
 rw[hg]
 unfold ER
 subst hO
 rw[show decide ((0:Int)<([s1].length:Int))=true from rfl,C2,show BA [s1] 0=some s1 from rfl,AB,CB,CB]
 cases (Cy g s1.page).isSome with
 | true=>exact⟨g,v,rfl,fun h=>by cases h⟩
 | false=>
  rw[show(!false)=true from rfl,C2,hy,AB]
  exact⟨g,y.2,rfl,fun h=>by cases h⟩
 simp at h
theorem XJ{T:List UInt32}{c:UInt64}{o:B2}{v:A0}{d:Ai}{l:List Ao}(S:gw T c o v d)(hc:c=0∨c=1)(hl:l.length≤1)(hr:E0 l=true):
  ∃o' v' d',Ds 2200000 T o v d l o.pages=some (0,o',v',d')∧o'.rows=l∧o'.bad=false∧Dv 60 0 (c+1) d'∧(o.pages=[]→gw T (c+1) o' v' d'):=by
 obtain⟨c0,hc0,V9⟩:=S.vs
 have hk:=XQ (m:=1) zO zO
 have ht:v.taken.length≤1:=Nat.le_trans V9.tlen hc0
 obtain⟨t,th,hb,hT,hth,h⟩:=im (T:=T) (n:=2200000) (N:=60) (l:=l) (had:=o.pages) zO zO V9 S.tk hk hr S.rd (by have:=S.one;omega) zO
 have hpg:Ox 2200000 t≤1:=by
  have:=VJ hT
  by_cases e:l=[]
  exact Nat.le_of_eq (this.1 e)
  have:=this.2 e
  omega
 rcases h with⟨r,out,q,hsv,hR,hrf,SI,hrd,hlen,hp,-⟩ | ⟨v',d',c',hsv,hlt,-,-⟩
 obtain⟨a,s,hs⟩:=hR.lastE
 have ha:a=[]:=by
  have h1:out.length≤1:=zO
  rw[hs,List.length_append]at h1
  exact List.length_eq_zero_iff.1 (by simpa using h1)
 subst ha
 rw[List.nil_append]at hs
 subst hs
 obtain⟨D1,ltk⟩:=cj [_] 0 _ _ hp S.dv
 obtain⟨d2,hpub,D2,K2,e2⟩:=ck (T:=T) (o:=o) (s:=⟨s,r.page,r.tag⟩) SI.vs D1 hc S.gen hl hrf
 obtain⟨g,v3,hmv,hv3⟩:=eN 2199997 (o:=o) (v:={ q.v with seals:=q.v.seals+1 }) (d:=d2) (l:=l) (s:=⟨s,r.page,r.tag⟩) S.one
 refine⟨{ o with rows:=l,pages:=[⟨s,r.page,r.tag⟩],gens:=g },v3,d2,?_,rfl,S.bad,D2,fun hz=>?_⟩
 unfold Ds
 rw[hsv,AB,CB]
 show cond (decide ((0:Int)=110)) _ _=_
 rw[show decide ((0:Int)=110)=false from rfl,CI,CB]
 show cond (decide ((0:Int)=0)) _ _=_
 rw[show decide ((0:Int)=0)=true from rfl,C2,hpub,AB]
 unfold Ej
 show cond (!decide ((0:Int)=0)) _ _=_
 rw[show(!decide ((0:Int)=0))=false from rfl,CI,hmv,AB]
 obtain rfl:=hv3 hz
 have htk:q.v.taken.length≤1:=by
  rw[SI.tak,S.tz hz]
  simpa using ltk
 have V2:VS 60 1 (Di 1) 1 { q.v with seals:=q.v.seals+1 } d2:=SI.vs.flushed (K2.le (Nat.zero_le _) zO) ⟨rfl,rfl,rfl⟩ htk
 refine⟨⟨1,Nat.le_refl _,V2⟩,⟨SI.ok.nd,SI.ok.tr⟩,D2,S.gen,Nat.le_refl _,fun x hx=>?_,S.bad,fun h=>by cases h⟩
 obtain⟨h1,h2,h3,g',qn,b,hh,hb⟩:=hrd x hx
 exact⟨h1,h2,h3,g',qn,b,⟨hh.key,hh.txt,by rw[e2 _ h1 h2];exact hh.is⟩,hb⟩
 omega
end

section
variable {K:Nat→Prop}{w0:World}{H:List AX}
def Rv(p0:B2)(p0_1:A0)(p0_2:Ai):Option (Option DR×Int):=
 some (some ({ ops:=[],isOpen:=false,closed:=false }:DR),0)
theorem br{Ar CX Bh A9 BD BE:Nat}{As Ac Ay BV Bi BF:Value}{p0:B2}{p0_1:A0}{p0_2:Ai}{r:Option DR×Int}(h:Rv p0 p0_1 p0_2=some r): zC K w0 19 [vP Ar 0] [AL Ar (.cells #[As,Ac,Ay,vP A9 0,vP CX 0,BV,AA p0.gen,vB p0.bad] 94),AD 35 4 As AY p0.rows,AD 190 3 Ac AU p0.pages,DI Ay AA AA p0.gens,AD 114 2 BV Aa p0.ring,AL CX (.cells #[vP A9 0,Bi,AA p0_1.gen,AA p0_1.boot,AV p0_1.seals,.map (some Bh)] 181),AD 114 2 Bi Aa p0_1.ring,Ad Bh AA vB p0_1.taken,AL A9 (.cells #[vB p0_2.off,vB p0_2.isCut,vI p0_2.lasts,vI p0_2.counts,BF,.map (some BD),.map (some BE),AV p0_2.rcnt,vS p0_2.rtag,AA p0_2.rboots] 100),AD 9 1 BF eS p0_2.blocks,Ad BD AA vS p0_2.pend,Ad BE AA vB p0_2.bad] H (fun u M=>(r.1=none∧u=.tuple #[.pointer none,vI r.2]∧M=[AL Ar (.cells #[As,Ac,Ay,vP A9 0,vP CX 0,BV,AA p0.gen,vB p0.bad] 94),AD 35 4 As AY p0.rows,AD 190 3 Ac AU p0.pages,DI Ay AA AA p0.gens,AD 114 2 BV Aa p0.ring,AL CX (.cells #[vP A9 0,Bi,AA p0_1.gen,AA p0_1.boot,AV p0_1.seals,.map (some Bh)] 181),AD 114 2 Bi Aa p0_1.ring,Ad Bh AA vB p0_1.taken,AL A9 (.cells #[vB p0_2.off,vB p0_2.isCut,vI p0_2.lasts,vI p0_2.counts,BF,.map (some BD),.map (some BE),AV p0_2.rcnt,vS p0_2.rtag,AA p0_2.rboots] 100),AD 9 1 BF eS p0_2.blocks,Ad BD AA vS p0_2.pend,Ad BE AA vB p0_2.bad])∨(∃(d:DR) (bn0:Nat) (vn0x0:Value),r.1=some d∧u=.tuple #[vP bn0 0,vI r.2]∧M=[AL bn0 (.cells #[vn0x0,vB d.isOpen,vP Ar 0,vB d.closed] 80),AD 83 5 vn0x0 CD d.ops,AL Ar (.cells #[As,Ac,Ay,vP A9 0,vP CX 0,BV,AA p0.gen,vB p0.bad] 94),AD 35 4 As AY p0.rows,AD 190 3 Ac AU p0.pages,DI Ay AA AA p0.gens,AD 114 2 BV Aa p0.ring,AL CX (.cells #[vP A9 0,Bi,AA p0_1.gen,AA p0_1.boot,AV p0_1.seals,.map (some Bh)] 181),AD 114 2 Bi Aa p0_1.ring,Ad Bh AA vB p0_1.taken,AL A9 (.cells #[vB p0_2.off,vB p0_2.isCut,vI p0_2.lasts,vI p0_2.counts,BF,.map (some BD),.map (some BE),AV p0_2.rcnt,vS p0_2.rtag,AA p0_2.rboots] 100),AD 9 1 BF eS p0_2.blocks,Ad BD AA vS p0_2.pend,Ad BE AA vB p0_2.bad])):=by
 unfold Rv at h
 refine TP.enter Tryz.func19 rfl rfl ?_
 refine Y (U E (U E (V (AH (Y (J E (Ed E gd E E (V (Cx E (AJ (AI (Y (J E (B0 [_] E rz ri sL ⟨E,zT⟩ E ?_))))))))))))))
 refine Ba E E zU fun b1=>?_
 refine B5 83 5 CD (U E (U E (V (AK ?_))))
 obtain rfl:=zI h
 exact Ag (ES E E E) (Af (M:=[_,_,_,_,_,_,_,_,_,_,_,_,_,_]) (.inr ⟨_,b1,zN,E,E,E⟩) fun _ hw=>BT.pick (H:=[_,_,_,_,_,_,_,_,_,_,_,_,_,_]) hw [1,0,2,3,4,5,6,7,8,9,10,11,12,13] 14 E)
def C0(p0:DR)(p0_1:B2)(p0_2:A0)(p0_3:Ai):Option Int:=
 cond p0.closed
 (
  some 141)
 (
  some 0)
theorem Gh{Ar DG CQ Br BH BP BQ:Nat}{As CY CZ Ca CR Bs BR:Value}{p0:DR}{p0_1:B2}{p0_2:A0}{p0_3:Ai}{r:Int}(h:C0 p0 p0_1 p0_2 p0_3=some r): zC K w0 30 [vP Ar 0] [AL Ar (.cells #[As,vB p0.isOpen,vP DG 0,vB p0.closed] 80),AD 83 5 As CD p0.ops,AL DG (.cells #[CY,CZ,Ca,vP BH 0,vP CQ 0,CR,AA p0_1.gen,vB p0_1.bad] 94),AD 35 4 CY AY p0_1.rows,AD 190 3 CZ AU p0_1.pages,DI Ca AA AA p0_1.gens,AD 114 2 CR Aa p0_1.ring,AL CQ (.cells #[vP BH 0,Bs,AA p0_2.gen,AA p0_2.boot,AV p0_2.seals,.map (some Br)] 181),AD 114 2 Bs Aa p0_2.ring,Ad Br AA vB p0_2.taken,AL BH (.cells #[vB p0_3.off,vB p0_3.isCut,vI p0_3.lasts,vI p0_3.counts,BR,.map (some BP),.map (some BQ),AV p0_3.rcnt,vS p0_3.rtag,AA p0_3.rboots] 100),AD 9 1 BR eS p0_3.blocks,Ad BP AA vS p0_3.pend,Ad BQ AA vB p0_3.bad] H (fun u M=>u=vI r∧M=[AL Ar (.cells #[As,vB p0.isOpen,vP DG 0,vB p0.closed] 80),AD 83 5 As CD p0.ops,AL DG (.cells #[CY,CZ,Ca,vP BH 0,vP CQ 0,CR,AA p0_1.gen,vB p0_1.bad] 94),AD 35 4 CY AY p0_1.rows,AD 190 3 CZ AU p0_1.pages,DI Ca AA AA p0_1.gens,AD 114 2 CR Aa p0_1.ring,AL CQ (.cells #[vP BH 0,Bs,AA p0_2.gen,AA p0_2.boot,AV p0_2.seals,.map (some Br)] 181),AD 114 2 Bs Aa p0_2.ring,Ad Br AA vB p0_2.taken,AL BH (.cells #[vB p0_3.off,vB p0_3.isCut,vI p0_3.lasts,vI p0_3.counts,BR,.map (some BP),.map (some BQ),AV p0_3.rcnt,vS p0_3.rtag,AA p0_3.rboots] 100),AD 9 1 BR eS p0_3.blocks,Ad BP AA vS p0_3.pend,Ad BQ AA vB p0_3.bad]):=by
 unfold C0 at h
 refine TP.enter Tryz.func30 rfl rfl ?_
 refine Y (U E (V (AH (AP (Y (J E (Ed E sJ E E (U E (V (Cx E (Y (J E (AT E E (AF E oF ?_))))))))))))))
 refine AG 0 VT E (U E (V ?_))
 refine AN h E (fun hc2 h=>?_) fun hc2 h=>?_
 refine Y (U E (V (AK (A8 (Ab ?_)))))
 obtain rfl:=zI h
 exact AW [0,1,2,3,4,5,6,7,8,9,10,11,12,13] 14 E E E
 refine AJ (Am (AI (Y (U E (V (AK ?_))))))
 obtain rfl:=zI h
 exact AW [0,1,2,3,4,5,6,7,8,9,10,11,12,13] 14 E E E
def K0(p0:DR)(p0_1:B2)(p0_2:A0)(p0_3:Ai):Option DR:=
 some ({ p0 with ops:=[],isOpen:=true })
theorem Ss{Ar DG CQ Br BH BP BQ:Nat}{As CY CZ Ca CR Bs BR:Value}{p0:DR}{p0_1:B2}{p0_2:A0}{p0_3:Ai}{r:DR}(h:K0 p0 p0_1 p0_2 p0_3=some r): zC K w0 31 [vP Ar 0] [AL Ar (.cells #[As,vB p0.isOpen,vP DG 0,vB p0.closed] 80),AD 83 5 As CD p0.ops,AL DG (.cells #[CY,CZ,Ca,vP BH 0,vP CQ 0,CR,AA p0_1.gen,vB p0_1.bad] 94),AD 35 4 CY AY p0_1.rows,AD 190 3 CZ AU p0_1.pages,DI Ca AA AA p0_1.gens,AD 114 2 CR Aa p0_1.ring,AL CQ (.cells #[vP BH 0,Bs,AA p0_2.gen,AA p0_2.boot,AV p0_2.seals,.map (some Br)] 181),AD 114 2 Bs Aa p0_2.ring,Ad Br AA vB p0_2.taken,AL BH (.cells #[vB p0_3.off,vB p0_3.isCut,vI p0_3.lasts,vI p0_3.counts,BR,.map (some BP),.map (some BQ),AV p0_3.rcnt,vS p0_3.rtag,AA p0_3.rboots] 100),AD 9 1 BR eS p0_3.blocks,Ad BP AA vS p0_3.pend,Ad BQ AA vB p0_3.bad] H (fun u M=>∃vs0_0_0:Value,u=.tuple #[]∧M=[AL Ar (.cells #[vs0_0_0,vB r.isOpen,vP DG 0,vB r.closed] 80),AD 83 5 vs0_0_0 CD r.ops,AL DG (.cells #[CY,CZ,Ca,vP BH 0,vP CQ 0,CR,AA p0_1.gen,vB p0_1.bad] 94),AD 35 4 CY AY p0_1.rows,AD 190 3 CZ AU p0_1.pages,DI Ca AA AA p0_1.gens,AD 114 2 CR Aa p0_1.ring,AL CQ (.cells #[vP BH 0,Bs,AA p0_2.gen,AA p0_2.boot,AV p0_2.seals,.map (some Br)] 181),AD 114 2 Bs Aa p0_2.ring,Ad Br AA vB p0_2.taken,AL BH (.cells #[vB p0_3.off,vB p0_3.isCut,vI p0_3.lasts,vI p0_3.counts,BR,.map (some BP),.map (some BQ),AV p0_3.rcnt,vS p0_3.rtag,AA p0_3.rboots] 100),AD 9 1 BR eS p0_3.blocks,Ad BP AA vS p0_3.pend,Ad BQ AA vB p0_3.bad]):=by
 unfold K0 at h
 refine TP.enter Tryz.func31 rfl rfl ?_
 refine AQ (J E (J E (AT E E (AF E PR (A2 0 E E E E lA E E E zT (B5 83 5 CD (AT E E (AF E Sj ?_))))))))
 refine A2 1 E E E E RO E E E zT (AZ ?_)
 obtain rfl:=zI h
 exact C8 (Dg E) (Af (M:=[_,_,_,_,_,_,_,_,_,_,_,_,_,_]) ⟨zN,E,E⟩ fun _ hw=>BT.pick (H:=[_,_,_,_,_,_,_,_,_,_,_,_,_,_,_]) hw [1,0,3,4,5,6,7,8,9,10,11,12,13,14] 15 E)
def Ih(p0:DR)(p0_1:B2)(p0_2:A0)(p0_3:Ai):Option (List KQ×DR):=
 some (p0.ops,{ p0 with ops:=[],isOpen:=false })
theorem TV{Ar DG CQ Br BH BP BQ:Nat}{As CY CZ Ca CR Bs BR:Value}{p0:DR}{p0_1:B2}{p0_2:A0}{p0_3:Ai}{r:List KQ×DR}(h:Ih p0 p0_1 p0_2 p0_3=some r): zC K w0 33 [vP Ar 0] [AL Ar (.cells #[As,vB p0.isOpen,vP DG 0,vB p0.closed] 80),AD 83 5 As CD p0.ops,AL DG (.cells #[CY,CZ,Ca,vP BH 0,vP CQ 0,CR,AA p0_1.gen,vB p0_1.bad] 94),AD 35 4 CY AY p0_1.rows,AD 190 3 CZ AU p0_1.pages,DI Ca AA AA p0_1.gens,AD 114 2 CR Aa p0_1.ring,AL CQ (.cells #[vP BH 0,Bs,AA p0_2.gen,AA p0_2.boot,AV p0_2.seals,.map (some Br)] 181),AD 114 2 Bs Aa p0_2.ring,Ad Br AA vB p0_2.taken,AL BH (.cells #[vB p0_3.off,vB p0_3.isCut,vI p0_3.lasts,vI p0_3.counts,BR,.map (some BP),.map (some BQ),AV p0_3.rcnt,vS p0_3.rtag,AA p0_3.rboots] 100),AD 9 1 BR eS p0_3.blocks,Ad BP AA vS p0_3.pend,Ad BQ AA vB p0_3.bad] H (fun u M=>∃v0 vs0_0_0:Value,u=v0∧M=[AD 83 5 v0 CD r.1,AL Ar (.cells #[vs0_0_0,vB r.2.isOpen,vP DG 0,vB r.2.closed] 80),AD 83 5 vs0_0_0 CD r.2.ops,AL DG (.cells #[CY,CZ,Ca,vP BH 0,vP CQ 0,CR,AA p0_1.gen,vB p0_1.bad] 94),AD 35 4 CY AY p0_1.rows,AD 190 3 CZ AU p0_1.pages,DI Ca AA AA p0_1.gens,AD 114 2 CR Aa p0_1.ring,AL CQ (.cells #[vP BH 0,Bs,AA p0_2.gen,AA p0_2.boot,AV p0_2.seals,.map (some Br)] 181),AD 114 2 Bs Aa p0_2.ring,Ad Br AA vB p0_2.taken,AL BH (.cells #[vB p0_3.off,vB p0_3.isCut,vI p0_3.lasts,vI p0_3.counts,BR,.map (some BP),.map (some BQ),AV p0_3.rcnt,vS p0_3.rtag,AA p0_3.rboots] 100),AD 9 1 BR eS p0_3.blocks,Ad BP AA vS p0_3.pend,Ad BQ AA vB p0_3.bad]):=by
 unfold Ih at h
 refine TP.enter Tryz.func33 rfl rfl ?_
 refine Y (B5 83 5 CD (U E (V (Y (J E (AT E E (AF E PR (AG 1 Y6 E (U E (V (Y (J E ?_))))))))))))
 refine J E (AT E E (AF E PR (A2 1 E E E E lA E E E zT (B5 83 5 CD (AT E E (AF E Sj (A2 2 E E E E RO E E E zT (V (Y ?_)))))))))
 refine J E (U E (V (AK ?_)))
 obtain rfl:=zI h
 exact Bo [3,2,0,4,5,6,7,8,9,10,11,12,13,14,15] 16 (Ck E E) E E ⟨As,(.slice none 0 0),E,E⟩
def FV(p0:DR)(p0_1:B2)(p0_2:A0)(p0_3:Ai):Option (Int×DR):=
 (C0 p0 p0_1 p0_2 p0_3).bind fun y1=>
 ret (!decide (y1=0)) fun x1=>
 cond x1
 (
  some (y1,p0))
 (
  cond p0.isOpen
  (
   some (140,p0))
  (
   (K0 p0 p0_1 p0_2 p0_3).bind fun y2=>
   some (0,y2)))
theorem Oa{Ar DG CQ Br BH BP BQ:Nat}{As CY CZ Ca CR Bs BR:Value}{p0:DR}{p0_1:B2}{p0_2:A0}{p0_3:Ai}{r:Int×DR}(h:FV p0 p0_1 p0_2 p0_3=some r): zC K w0 8 [vP Ar 0] [AL Ar (.cells #[As,vB p0.isOpen,vP DG 0,vB p0.closed] 80),AD 83 5 As CD p0.ops,AL DG (.cells #[CY,CZ,Ca,vP BH 0,vP CQ 0,CR,AA p0_1.gen,vB p0_1.bad] 94),AD 35 4 CY AY p0_1.rows,AD 190 3 CZ AU p0_1.pages,DI Ca AA AA p0_1.gens,AD 114 2 CR Aa p0_1.ring,AL CQ (.cells #[vP BH 0,Bs,AA p0_2.gen,AA p0_2.boot,AV p0_2.seals,.map (some Br)] 181),AD 114 2 Bs Aa p0_2.ring,Ad Br AA vB p0_2.taken,AL BH (.cells #[vB p0_3.off,vB p0_3.isCut,vI p0_3.lasts,vI p0_3.counts,BR,.map (some BP),.map (some BQ),AV p0_3.rcnt,vS p0_3.rtag,AA p0_3.rboots] 100),AD 9 1 BR eS p0_3.blocks,Ad BP AA vS p0_3.pend,Ad BQ AA vB p0_3.bad] H (fun u M=>∃vs0_0_0:Value,u=vI r.1∧M=[AL Ar (.cells #[vs0_0_0,vB r.2.isOpen,vP DG 0,vB r.2.closed] 80),AD 83 5 vs0_0_0 CD r.2.ops,AL DG (.cells #[CY,CZ,Ca,vP BH 0,vP CQ 0,CR,AA p0_1.gen,vB p0_1.bad] 94),AD 35 4 CY AY p0_1.rows,AD 190 3 CZ AU p0_1.pages,DI Ca AA AA p0_1.gens,AD 114 2 CR Aa p0_1.ring,AL CQ (.cells #[vP BH 0,Bs,AA p0_2.gen,AA p0_2.boot,AV p0_2.seals,.map (some Br)] 181),AD 114 2 Bs Aa p0_2.ring,Ad Br AA vB p0_2.taken,AL BH (.cells #[vB p0_3.off,vB p0_3.isCut,vI p0_3.lasts,vI p0_3.counts,BR,.map (some BP),.map (some BQ),AV p0_3.rcnt,vS p0_3.rtag,AA p0_3.rboots] 100),AD 9 1 BR eS p0_3.blocks,Ad BP AA vS p0_3.pend,Ad BQ AA vB p0_3.bad]):=by
 unfold FV at h
 refine TP.enter Tryz.func8 rfl rfl ?_
 refine Y (U E (V (Y ?_)))
 refine AE h fun y1 hy1 h=>?_
 refine J E (AS 14 XE (Gh hy1) E (U E (V (AH (AP (Y ?_))))))
 obtain⟨x1,ex1,h⟩:=Bu h
 refine J E (Z E BJ ?_)
 refine Al (u:=vB x1) E E (congrArg vB ex1) ?_
 refine V ?_
 refine AN h E (fun hc1 h=>?_) fun hc1 h=>?_
 refine Y (J E (U E (V (AK (A8 (Ab ?_))))))
 obtain rfl:=zI h
 exact Bo [0,1,2,3,4,5,6,7,8,9,10,11,12,13] 14 (Ck E E) E E ⟨As,E,E⟩
 refine Y (J E (AT E E (AF E PS (AF E Sj (AG 0 VT E (U E (V ?_)))))))
 refine AN h E (fun hc2 h=>?_) fun hc2 h=>?_
 refine Y (U E (V (AK (A8 (Ab ?_)))))
 obtain rfl:=zI h
 exact Bo [0,1,2,3,4,5,6,7,8,9,10,11,12,13] 14 (Ck E E) E E ⟨As,E,E⟩
 refine AJ (Am (AI (Y ?_)))
 refine AE h fun y2 hy2 h=>?_
 refine J E (AT E E (AF E PS (BN 14 pQ ((Ss hy2 :)) E ?_)))
 rintro _ _ ⟨v1,rfl,rfl⟩
 refine V (Y (U E (V (AK ?_))))
 obtain rfl:=zI h
 exact Bo [0,1,2,3,4,5,6,7,8,9,10,11,12,13] 14 (Ck E E) E E ⟨v1,E,E⟩
def GJ(y2:List KQ×DR)(o1:B2)(o2:Ai)(o3:A0)(a1:Int):Option (Int×DR×B2×A0×Ai):=
 some (a1,y2.2,o1,o3,o2)
def Dp(n:Nat)(T:List UInt32)(p0:DR)(p0_1:B2)(p0_2:A0)(p0_3:Ai):Option (Int×DR×B2×A0×Ai):=
 (C0 p0 p0_1 p0_2 p0_3).bind fun y1=>
 ret (!decide (y1=0)) fun x1=>
 cond x1
 (
  some (y1,p0,p0_1,p0_2,p0_3))
 (
  ret (!p0.isOpen) fun x2=>
  cond x2
  (
   some (140,p0,p0_1,p0_2,p0_3))
  (
   (Ih p0 p0_1 p0_2 p0_3).bind fun y2=>
   cond (decide (0<(y2.1.length:Int)))
   (
    (Dr n T p0_1 p0_2 p0_3 y2.1).bind fun y3=>
    GJ y2 y3.2.2.1 y3.2.2.2.2 y3.2.2.2.1 y3.2.1)
   (
    GJ y2 p0_1 p0_3 p0_2 y1)))
theorem Kz{n Ar DG CQ Br BH BP BQ:Nat}{T:List UInt32}{As CY CZ Ca CR Bs BR:Value}{p0:DR}{p0_1:B2}{p0_2:A0}{p0_3:Ai}{r:Int×DR×B2×A0×Ai}(h:Dp n T p0 p0_1 p0_2 p0_3=some r)(hS:GM K w0 T):zC K w0 10 [vP Ar 0] [AL Ar (.cells #[As,vB p0.isOpen,vP DG 0,vB p0.closed] 80),AD 83 5 As CD p0.ops,AL DG (.cells #[CY,CZ,Ca,vP BH 0,vP CQ 0,CR,AA p0_1.gen,vB p0_1.bad] 94),AD 35 4 CY AY p0_1.rows,AD 190 3 CZ AU p0_1.pages,DI Ca AA AA p0_1.gens,AD 114 2 CR Aa p0_1.ring,AL CQ (.cells #[vP BH 0,Bs,AA p0_2.gen,AA p0_2.boot,AV p0_2.seals,.map (some Br)] 181),AD 114 2 Bs Aa p0_2.ring,Ad Br AA vB p0_2.taken,AL BH (.cells #[vB p0_3.off,vB p0_3.isCut,vI p0_3.lasts,vI p0_3.counts,BR,.map (some BP),.map (some BQ),AV p0_3.rcnt,vS p0_3.rtag,AA p0_3.rboots] 100),AD 9 1 BR eS p0_3.blocks,Ad BP AA vS p0_3.pend,Ad BQ AA vB p0_3.bad] H (fun u M=>∃vs0_0_0 vs0_1_0 vs0_1_1 vs0_1_2:Value,u=vI r.1∧M=[AL Ar (.cells #[vs0_0_0,vB r.2.1.isOpen,vP DG 0,vB r.2.1.closed] 80),AD 83 5 vs0_0_0 CD r.2.1.ops,AL DG (.cells #[vs0_1_0,vs0_1_1,vs0_1_2,vP BH 0,vP CQ 0,CR,AA r.2.2.1.gen,vB r.2.2.1.bad] 94),AD 35 4 vs0_1_0 AY r.2.2.1.rows,AD 190 3 vs0_1_1 AU r.2.2.1.pages,DI vs0_1_2 AA AA r.2.2.1.gens,AD 114 2 CR Aa r.2.2.1.ring,AL CQ (.cells #[vP BH 0,Bs,AA r.2.2.2.1.gen,AA r.2.2.2.1.boot,AV r.2.2.2.1.seals,.map (some Br)] 181),AD 114 2 Bs Aa r.2.2.2.1.ring,Ad Br AA vB r.2.2.2.1.taken,AL BH (.cells #[vB r.2.2.2.2.off,vB r.2.2.2.2.isCut,vI r.2.2.2.2.lasts,vI r.2.2.2.2.counts,BR,.map (some BP),.map (some BQ),AV r.2.2.2.2.rcnt,vS r.2.2.2.2.rtag,AA r.2.2.2.2.rboots] 100),AD 9 1 BR eS r.2.2.2.2.blocks,Ad BP AA vS r.2.2.2.2.pend,Ad BQ AA vB r.2.2.2.2.bad]):=by
 unfold Dp at h
 refine TP.enter Tryz.func10 rfl rfl ?_
 refine Y (U E (V (Y ?_)))
 refine AE h fun y1 hy1 h=>?_
 refine J E (AS 14 XE (Gh hy1) E (U E (V (AH (AP (Y ?_))))))
 obtain⟨x1,ex1,h⟩:=Bu h
 refine J E (Z E BJ ?_)
 refine Al (u:=vB x1) E E (congrArg vB ex1) ?_
 refine V ?_
 refine AN h E (fun hc1 h=>?_) fun hc1 h=>?_
 refine Y (J E (U E (V (AK (A8 (Ab ?_))))))
 obtain rfl:=zI h
 exact Bo [0,1,2,3,4,5,6,7,8,9,10,11,12,13] 14 (Ck E E) E E ⟨As,CY,CZ,Ca,E,E⟩
 refine Y ?_
 obtain⟨x2,ex2,h⟩:=Bu h
 refine J E (AT E E (AF E PS (AF E Sj (AG 0 VT E (CS E E ?_)))))
 refine Al (u:=vB x2) E E (congrArg vB ex2) ?_
 refine V ?_
 refine AN h E (fun hc2 h=>?_) fun hc2 h=>?_
 refine Y (U E (V (AK (A8 (Ab ?_)))))
 obtain rfl:=zI h
 exact Bo [0,1,2,3,4,5,6,7,8,9,10,11,12,13] 14 (Ck E E) E E ⟨As,CY,CZ,Ca,E,E⟩
 refine AJ (Am (AI (Y ?_)))
 refine AE h fun y2 hy2 h=>?_
 refine J E (AT E E (AF E PS ?_))
 refine Bd (vs:=[_]) (Hin:=[_,_,_,_,_,_,_,_,_,_,_,_,_,_]) (Hr:=_) E E ⟨E,zT⟩ pS E E ((TV hy2 :)) ?_
 rintro v1 _ ⟨_,v2,rfl,rfl⟩
 refine⟨trivial,?_⟩
 refine U E (V ?_)
 refine A6 (α:=B2×Value×Value×Value×Ai×A0×Int) (fun x=>GJ y2 x.1 x.2.2.2.2.1 x.2.2.2.2.2.1 x.2.2.2.2.2.2=some r) (fun x=>[(0,vP Ar 0),(3,vI x.2.2.2.2.2.2)]) (fun x=>AL Ar (.cells #[v2,vB y2.2.isOpen,vP DG 0,vB y2.2.closed] 80)::AD 83 5 v2 CD y2.2.ops::AL DG (.cells #[x.2.1,x.2.2.1,x.2.2.2.1,vP BH 0,vP CQ 0,CR,AA x.1.gen,vB x.1.bad] 94)::AD 35 4 x.2.1 AY x.1.rows::AD 190 3 x.2.2.1 AU x.1.pages::DI x.2.2.2.1 AA AA x.1.gens::AL BH (.cells #[vB x.2.2.2.2.1.off,vB x.2.2.2.2.1.isCut,vI x.2.2.2.2.1.lasts,vI x.2.2.2.2.1.counts,BR,.map (some BP),.map (some BQ),AV x.2.2.2.2.1.rcnt,vS x.2.2.2.2.1.rtag,AA x.2.2.2.2.1.rboots] 100)::AD 9 1 BR eS x.2.2.2.2.1.blocks::Ad BP AA vS x.2.2.2.2.1.pend::Ad BQ AA vB x.2.2.2.2.1.bad::AL CQ (.cells #[vP BH 0,Bs,AA x.2.2.2.2.2.1.gen,AA x.2.2.2.2.2.1.boot,AV x.2.2.2.2.2.1.seals,.map (some Br)] 181)::AD 114 2 Bs Aa x.2.2.2.2.2.1.ring::Ad Br AA vB x.2.2.2.2.2.1.taken::AD 114 2 CR Aa x.1.ring::H) ?_ (fun x D h=>?_)
 refine Y (J E (Dh 0 E RG E E (Z E Ci (V ?_))))
 refine AN h E (fun hc3 h=>?_) fun hc3 h=>?_
 refine AQ ?_
 refine AE h fun y3 hy3 h=>?_
 refine J E (AT E E (AF E WX (AG 1 gX E (J E (SL.pick [0,3,4,5,6,7,8,9,10,11,12,13,14,1,2] 15 ?_)))))
 refine Bd (vs:=[_,_]) (Hin:=[_,_,_,_,_,_,_,_,_,_,_,_,_]) (Hr:=_::_::_) E E ⟨E,E,zT⟩ js E E (Ch (B:=[_]) (Hin:=[_,_,_,_,_,_,_,_,_,_,_,_]) fun K' w1 hk hB=>M4 hy3 (hS.keeps hk) (CL (e:=83) (v:=v1) zV (hB _ zS))) ?_
 rintro _ _ ⟨_,rfl,v6,v7,v8,rfl,rfl⟩
 refine⟨trivial,?_⟩
 refine J E (Ae E E E (Ae E E E (U E (AZ ?_))))
 exact Ap (y3.2.2.1,v6,v7,v8,y3.2.2.2.2,y3.2.2.2.1,y3.2.1) h tL (BM [13,14,1,2,3,4,9,10,11,12,6,7,8,5] 15 E E E)
 refine AJ ?_
 exact Ap (p0_1,CY,CZ,Ca,p0_3,p0_2,y1) h tL (BM [1,2,3,4,5,6,11,12,13,14,8,9,10,7] 15 E E E)
 obtain⟨o1,v3,v4,v5,o2,o3,a1⟩:=x
 dsimp only at h
 unfold GJ at h
 try dsimp only
 refine Y (J E (U E (V (AK ?_))))
 obtain rfl:=zI h
 exact Bo [0,1,2,3,4,5,13,10,11,12,6,7,8,9] 14 (Ck E E) E E ⟨v2,v3,v4,v5,E,E⟩
def Jc(p0:DR)(p0_1:B2)(p0_2:A0)(p0_3:Ai):Option Int:=
 (C0 p0 p0_1 p0_2 p0_3).bind fun y1=>
 cond ((!decide (y1=0))||(!p0.isOpen))
 (
  some (-1))
 (
  some (p0.ops.length:Int))
theorem UF{Ar DG CQ Br BH BP BQ:Nat}{As CY CZ Ca CR Bs BR:Value}{p0:DR}{p0_1:B2}{p0_2:A0}{p0_3:Ai}{r:Int}(h:Jc p0 p0_1 p0_2 p0_3=some r): zC K w0 16 [vP Ar 0] [AL Ar (.cells #[As,vB p0.isOpen,vP DG 0,vB p0.closed] 80),AD 83 5 As CD p0.ops,AL DG (.cells #[CY,CZ,Ca,vP BH 0,vP CQ 0,CR,AA p0_1.gen,vB p0_1.bad] 94),AD 35 4 CY AY p0_1.rows,AD 190 3 CZ AU p0_1.pages,DI Ca AA AA p0_1.gens,AD 114 2 CR Aa p0_1.ring,AL CQ (.cells #[vP BH 0,Bs,AA p0_2.gen,AA p0_2.boot,AV p0_2.seals,.map (some Br)] 181),AD 114 2 Bs Aa p0_2.ring,Ad Br AA vB p0_2.taken,AL BH (.cells #[vB p0_3.off,vB p0_3.isCut,vI p0_3.lasts,vI p0_3.counts,BR,.map (some BP),.map (some BQ),AV p0_3.rcnt,vS p0_3.rtag,AA p0_3.rboots] 100),AD 9 1 BR eS p0_3.blocks,Ad BP AA vS p0_3.pend,Ad BQ AA vB p0_3.bad] H (fun u M=>u=vI r∧M=[AL Ar (.cells #[As,vB p0.isOpen,vP DG 0,vB p0.closed] 80),AD 83 5 As CD p0.ops,AL DG (.cells #[CY,CZ,Ca,vP BH 0,vP CQ 0,CR,AA p0_1.gen,vB p0_1.bad] 94),AD 35 4 CY AY p0_1.rows,AD 190 3 CZ AU p0_1.pages,DI Ca AA AA p0_1.gens,AD 114 2 CR Aa p0_1.ring,AL CQ (.cells #[vP BH 0,Bs,AA p0_2.gen,AA p0_2.boot,AV p0_2.seals,.map (some Br)] 181),AD 114 2 Bs Aa p0_2.ring,Ad Br AA vB p0_2.taken,AL BH (.cells #[vB p0_3.off,vB p0_3.isCut,vI p0_3.lasts,vI p0_3.counts,BR,.map (some BP),.map (some BQ),AV p0_3.rcnt,vS p0_3.rtag,AA p0_3.rboots] 100),AD 9 1 BR eS p0_3.blocks,Ad BP AA vS p0_3.pend,Ad BQ AA vB p0_3.bad]):=by
 unfold Jc at h
 refine TP.enter Tryz.func16 rfl rfl ?_
 refine Y (U E (V (AH (Y ?_))))
 refine AE h fun y1 hy1 h=>?_
 refine J E (AS 14 XE (Gh hy1) E (Z E BJ (J E ?_)))
 refine Ee (c := !p0.isOpen) 6 7 13 E (fun hb k=>?_) (fun hb k=>?_) ?_
 refine AC E (AC E (AC E (AC E (AC E (AC E (Ah E E E ?_))))))
 exact k.mono tL
 refine J E (AT E E (AF E PS (AF E Sj (AG 0 VT E (CS E E (Ah E E E ?_))))))
 exact k.mono tL
 refine V ?_
 refine AN h E (fun hc1 h=>?_) fun hc1 h=>?_
 refine Y (U E (V (AK (Ab ?_))))
 obtain rfl:=zI h
 exact AW [0,1,2,3,4,5,6,7,8,9,10,11,12,13] 14 E E E
 refine AJ (AI (Y (J E (AT E E (AF E PS (AF E PR (AG 0 Y6 E (Dh 1 E RG E E (U E (V (AK ?_)))))))))))
 obtain rfl:=zI h
 exact AW [0,1,2,3,4,5,6,7,8,9,10,11,12,13] 14 E E E
def F7(n:Nat)(T:List UInt32)(p0:DR)(p0_1:B2)(p0_2:A0)(p0_3:Ai)(p1:KQ):Option (Int×DR×B2×A0×Ai):=
 (C0 p0 p0_1 p0_2 p0_3).bind fun y1=>
 ret (!decide (y1=0)) fun x1=>
 cond x1
 (
  some (y1,p0,p0_1,p0_2,p0_3))
 (
  cond p0.isOpen
  (
   (Cr p0_1 p0_2 p0_3).bind fun y2=>
   (TT n p0 y2 p1).bind fun y3=>
   some (y3.1,y3.2,p0_1,p0_2,p0_3))
  (
   (Dr n T p0_1 p0_2 p0_3 [p1]).bind fun y4=>
   some (y4.2.1,p0,y4.2.2.1,y4.2.2.2.1,y4.2.2.2.2)))
theorem Sr{n Ar DG CQ Br BH BP BQ:Nat}{T:List UInt32}{As CY CZ Ca CR Bs BR:Value}{p0:DR}{p0_1:B2}{p0_2:A0}{p0_3:Ai}{p1:KQ}{r:Int×DR×B2×A0×Ai}(h:F7 n T p0 p0_1 p0_2 p0_3 p1=some r)(hS:GM K w0 T):zC K w0 32 [vP Ar 0,.agg (CD p1).toArray] [AL Ar (.cells #[As,vB p0.isOpen,vP DG 0,vB p0.closed] 80),AD 83 5 As CD p0.ops,AL DG (.cells #[CY,CZ,Ca,vP BH 0,vP CQ 0,CR,AA p0_1.gen,vB p0_1.bad] 94),AD 35 4 CY AY p0_1.rows,AD 190 3 CZ AU p0_1.pages,DI Ca AA AA p0_1.gens,AD 114 2 CR Aa p0_1.ring,AL CQ (.cells #[vP BH 0,Bs,AA p0_2.gen,AA p0_2.boot,AV p0_2.seals,.map (some Br)] 181),AD 114 2 Bs Aa p0_2.ring,Ad Br AA vB p0_2.taken,AL BH (.cells #[vB p0_3.off,vB p0_3.isCut,vI p0_3.lasts,vI p0_3.counts,BR,.map (some BP),.map (some BQ),AV p0_3.rcnt,vS p0_3.rtag,AA p0_3.rboots] 100),AD 9 1 BR eS p0_3.blocks,Ad BP AA vS p0_3.pend,Ad BQ AA vB p0_3.bad] H (fun u M=>∃vs0_0_0 vs0_1_0 vs0_1_1 vs0_1_2:Value,u=vI r.1∧M=[AL Ar (.cells #[vs0_0_0,vB r.2.1.isOpen,vP DG 0,vB r.2.1.closed] 80),AD 83 5 vs0_0_0 CD r.2.1.ops,AL DG (.cells #[vs0_1_0,vs0_1_1,vs0_1_2,vP BH 0,vP CQ 0,CR,AA r.2.2.1.gen,vB r.2.2.1.bad] 94),AD 35 4 vs0_1_0 AY r.2.2.1.rows,AD 190 3 vs0_1_1 AU r.2.2.1.pages,DI vs0_1_2 AA AA r.2.2.1.gens,AD 114 2 CR Aa r.2.2.1.ring,AL CQ (.cells #[vP BH 0,Bs,AA r.2.2.2.1.gen,AA r.2.2.2.1.boot,AV r.2.2.2.1.seals,.map (some Br)] 181),AD 114 2 Bs Aa r.2.2.2.1.ring,Ad Br AA vB r.2.2.2.1.taken,AL BH (.cells #[vB r.2.2.2.2.off,vB r.2.2.2.2.isCut,vI r.2.2.2.2.lasts,vI r.2.2.2.2.counts,BR,.map (some BP),.map (some BQ),AV r.2.2.2.2.rcnt,vS r.2.2.2.2.rtag,AA r.2.2.2.2.rboots] 100),AD 9 1 BR eS r.2.2.2.2.blocks,Ad BP AA vS r.2.2.2.2.pend,Ad BQ AA vB r.2.2.2.2.bad]):=by
 unfold F7 at h
 refine TP.enter Tryz.func32 rfl rfl ?_
 refine Y ?_
 refine Ba E E zU fun b1=>?_
 refine U E (V (Y ?_))
 refine AE h fun y1 hy1 h=>?_
 refine J E (SL.pick [1,2,3,4,5,6,7,8,9,10,11,12,13,14,0] 15 (AS 14 XE (Gh hy1) E (U E (V (AH (AP (Y ?_)))))))
 obtain⟨x1,ex1,h⟩:=Bu h
 refine J E (Z E BJ ?_)
 refine Al (u:=vB x1) E E (congrArg vB ex1) ?_
 refine V ?_
 refine AN h E (fun hc1 h=>?_) fun hc1 h=>?_
 refine Y (J E (U E (V (AK (A8 (Ab ?_))))))
 obtain rfl:=zI h
 exact Bo [0,1,2,3,4,5,6,7,8,9,10,11,12,13] 15 (Ck E E) E E ⟨As,CY,CZ,Ca,E,E⟩
 refine Y (J E (AT E E (AF E PS (AF E Sj (AG 0 VT E (U E (V ?_)))))))
 refine AN h E (fun hc2 h=>?_) fun hc2 h=>?_
 refine AH ?_
 refine AE h fun y2 hy2 h=>?_
 refine AE h fun y3 hy3 h=>?_
 refine Aw DC [0,14] (CF [(true,0),(true,1),(true,2),(true,3),(true,4),(true,5),(true,6),(true,8),(false,7)] (.last 9 (Cz [(false,10)]))) zK (J E (AT E E (AF E PS (J E (AT E E (AF E WX (AG 0 gX E ?_)))))))
 refine Aq [vI p1.kind,AV p1.id,AA p1.x,AA p1.y,vS p1.txt] E UB E E (Aj 1 E) (SL.pick [2,3,4,5,6,7,8,9,10,11,12,13,0,1] 14 ?_)
 refine Bd (vs:=[_]) (Hin:=[_,_,_,_,_,_,_,_,_,_,_,_]) (Hr:=_::_::_::_) E E ⟨E,zT⟩ jp E E (N8 hy2) ?_
 rintro v1 _ ⟨_,rfl,rfl⟩
 refine⟨⟨⟨13,rfl⟩,⟨15,rfl⟩,trivial⟩,?_⟩
 refine Bc (SL.pick [0,13,14,1,2,3,4,5,6,7,8,9,10,11,12] 15 ?_)
 refine Bd (vs:=[_,_,_]) (Hin:=[_,_,_]) (Hr:=_::_::_::_::_::_::_::_::_::_::_::_::_::_) E E ⟨E,E,E,zT⟩ pc E E (Ch (B:=[_]) (Hin:=[_,_]) fun K' w1 hk hB=>(mJ hy3 (CL (e:=35) (v:=v1) zV (hB _ zS)) :)) ?_
 rintro _ _ ⟨_,rfl,v2,rfl,rfl⟩
 refine⟨trivial,?_⟩
 refine U E (V (AK (A8 (Ab ?_))))
 obtain rfl:=zI h
 exact Bo [1,2,3,4,5,6,7,8,9,10,11,12,13,14] 16 (Ck E E) E E ⟨v2,CY,CZ,Ca,E,E⟩
 refine AJ (Am (AI (AH ?_)))
 refine AE h fun y4 hy4 h=>?_
 refine Aw DC [0,14] (CF [(true,0),(true,1),(true,2),(true,3),(true,4),(false,5),(false,6),(false,7),(true,8),(false,9)] (.last 10 .nil)) zK (J E (AT E E (AF E WX (AG 0 gX E (Aq [vI p1.kind,AV p1.id,AA p1.x,AA p1.y,vS p1.txt] E UB E E (Aj 1 E) ?_)))))
 refine B9 [_] rfl RG X3 ZF ⟨rfl,trivial⟩ rfl rfl rfl zW rfl rfl (fun _=>⟨⟨1,rfl⟩,⟨15,rfl⟩,trivial⟩) fun b2=>?_
 refine CA CD 5 ([p1]:List KQ) E zV E ?_
 refine SL.pick [0,3,4,5,6,7,8,9,10,11,12,13,14,1,2] 15 ?_
 refine Bd (vs:=[_,_]) (Hin:=[_,_,_,_,_,_,_,_,_,_,_,_,_]) (Hr:=_::_::_::_) E E ⟨E,E,zT⟩ js E E (Ch (B:=[_]) (Hin:=[_,_,_,_,_,_,_,_,_,_,_,_]) fun K' w1 hk hB=>M4 hy4 (hS.keeps hk) (CL (e:=83) (v:=.slice (some ⟨b2,0,none⟩) 1 1) zV (hB _ zS))) ?_
 rintro _ _ ⟨_,rfl,v3,v4,v5,rfl,rfl⟩
 refine⟨⟨⟨13,rfl⟩,⟨15,rfl⟩,trivial⟩,?_⟩
 refine J E (Ae E E E (Ae E E E (Bc (U E (V (Y (J E (U E (V (AK ?_))))))))))
 obtain rfl:=zI h
 exact Bo [13,14,1,2,3,4,5,6,7,8,9,10,11,12] 16 (Ck E E) E E ⟨As,v3,v4,v5,E,E⟩
def EE(n:Nat)(T:List UInt32)(p0:DR)(p0_1:B2)(p0_2:A0)(p0_3:Ai)(p1:Ao):Option (Int×DR×B2×A0×Ai):=
 (F7 n T p0 p0_1 p0_2 p0_3 (⟨1,p1.id,p1.x,p1.y,p1.txt⟩:KQ)).bind fun y1=>
 some (y1.1,y1.2.1,y1.2.2.1,y1.2.2.2.1,y1.2.2.2.2)
theorem P2{n Ar DG CQ Br BH BP BQ:Nat}{T:List UInt32}{As CY CZ Ca CR Bs BR:Value}{p0:DR}{p0_1:B2}{p0_2:A0}{p0_3:Ai}{p1:Ao}{r:Int×DR×B2×A0×Ai}(h:EE n T p0 p0_1 p0_2 p0_3 p1=some r)(hS:GM K w0 T):zC K w0 9 [vP Ar 0,.agg (AY p1).toArray] [AL Ar (.cells #[As,vB p0.isOpen,vP DG 0,vB p0.closed] 80),AD 83 5 As CD p0.ops,AL DG (.cells #[CY,CZ,Ca,vP BH 0,vP CQ 0,CR,AA p0_1.gen,vB p0_1.bad] 94),AD 35 4 CY AY p0_1.rows,AD 190 3 CZ AU p0_1.pages,DI Ca AA AA p0_1.gens,AD 114 2 CR Aa p0_1.ring,AL CQ (.cells #[vP BH 0,Bs,AA p0_2.gen,AA p0_2.boot,AV p0_2.seals,.map (some Br)] 181),AD 114 2 Bs Aa p0_2.ring,Ad Br AA vB p0_2.taken,AL BH (.cells #[vB p0_3.off,vB p0_3.isCut,vI p0_3.lasts,vI p0_3.counts,BR,.map (some BP),.map (some BQ),AV p0_3.rcnt,vS p0_3.rtag,AA p0_3.rboots] 100),AD 9 1 BR eS p0_3.blocks,Ad BP AA vS p0_3.pend,Ad BQ AA vB p0_3.bad] H (fun u M=>∃vs0_0_0 vs0_1_0 vs0_1_1 vs0_1_2:Value,u=vI r.1∧M=[AL Ar (.cells #[vs0_0_0,vB r.2.1.isOpen,vP DG 0,vB r.2.1.closed] 80),AD 83 5 vs0_0_0 CD r.2.1.ops,AL DG (.cells #[vs0_1_0,vs0_1_1,vs0_1_2,vP BH 0,vP CQ 0,CR,AA r.2.2.1.gen,vB r.2.2.1.bad] 94),AD 35 4 vs0_1_0 AY r.2.2.1.rows,AD 190 3 vs0_1_1 AU r.2.2.1.pages,DI vs0_1_2 AA AA r.2.2.1.gens,AD 114 2 CR Aa r.2.2.1.ring,AL CQ (.cells #[vP BH 0,Bs,AA r.2.2.2.1.gen,AA r.2.2.2.1.boot,AV r.2.2.2.1.seals,.map (some Br)] 181),AD 114 2 Bs Aa r.2.2.2.1.ring,Ad Br AA vB r.2.2.2.1.taken,AL BH (.cells #[vB r.2.2.2.2.off,vB r.2.2.2.2.isCut,vI r.2.2.2.2.lasts,vI r.2.2.2.2.counts,BR,.map (some BP),.map (some BQ),AV r.2.2.2.2.rcnt,vS r.2.2.2.2.rtag,AA r.2.2.2.2.rboots] 100),AD 9 1 BR eS r.2.2.2.2.blocks,Ad BP AA vS r.2.2.2.2.pend,Ad BQ AA vB r.2.2.2.2.bad]):=by
 unfold EE at h
 refine TP.enter Tryz.func9 rfl rfl ?_
 refine Y ?_
 refine Ba E E zU fun b1=>?_
 refine U E (V (Y ?_))
 refine AE h fun y1 hy1 h=>?_
 refine J E (Aq [AV p1.id,AA p1.x,AA p1.y,vS p1.txt] E Gd E E (Aj 0 E) (B0 [_,_] E r5 rj ZF ⟨E,E,zT⟩ E (SL.pick [1,2,3,4,5,6,7,8,9,10,11,12,13,14,0] 15 (BN 14 pR ((Sr hy1 hS :)) E ?_))))
 rintro _ _ ⟨v1,v2,v3,v4,rfl,rfl⟩
 refine U E (V (AK ?_))
 obtain rfl:=zI h
 exact Bo [0,1,2,3,4,5,6,7,8,9,10,11,12,13] 15 (Ck E E) E E ⟨v1,v2,v3,v4,E,E⟩
def Et(n:Nat)(p0:DR)(p0_1:B2)(p0_2:A0)(p0_3:Ai)(p1:UInt64):Option (Ao×Int):=
 (C0 p0 p0_1 p0_2 p0_3).bind fun y1=>
 cond (!decide (y1=0))
 (
  some ((⟨0,0,0,[]⟩:Ao),y1))
 (
  (Gv n p0_1 p0_2 p0_3 p1).bind fun y2=>
  some ((⟨y2.1.id,y2.1.x,y2.1.y,y2.1.txt⟩:Ao),y2.2))
theorem P1{n Ar DG CQ Br BH BP BQ:Nat}{As CY CZ Ca CR Bs BR:Value}{p0:DR}{p0_1:B2}{p0_2:A0}{p0_3:Ai}{p1:UInt64}{r:Ao×Int}(h:Et n p0 p0_1 p0_2 p0_3 p1=some r): zC K w0 20 [vP Ar 0,AV p1] [AL Ar (.cells #[As,vB p0.isOpen,vP DG 0,vB p0.closed] 80),AD 83 5 As CD p0.ops,AL DG (.cells #[CY,CZ,Ca,vP BH 0,vP CQ 0,CR,AA p0_1.gen,vB p0_1.bad] 94),AD 35 4 CY AY p0_1.rows,AD 190 3 CZ AU p0_1.pages,DI Ca AA AA p0_1.gens,AD 114 2 CR Aa p0_1.ring,AL CQ (.cells #[vP BH 0,Bs,AA p0_2.gen,AA p0_2.boot,AV p0_2.seals,.map (some Br)] 181),AD 114 2 Bs Aa p0_2.ring,Ad Br AA vB p0_2.taken,AL BH (.cells #[vB p0_3.off,vB p0_3.isCut,vI p0_3.lasts,vI p0_3.counts,BR,.map (some BP),.map (some BQ),AV p0_3.rcnt,vS p0_3.rtag,AA p0_3.rboots] 100),AD 9 1 BR eS p0_3.blocks,Ad BP AA vS p0_3.pend,Ad BQ AA vB p0_3.bad] H (fun u M=>u=.tuple #[.agg (AY r.1).toArray,vI r.2]∧M=[AL Ar (.cells #[As,vB p0.isOpen,vP DG 0,vB p0.closed] 80),AD 83 5 As CD p0.ops,AL DG (.cells #[CY,CZ,Ca,vP BH 0,vP CQ 0,CR,AA p0_1.gen,vB p0_1.bad] 94),AD 35 4 CY AY p0_1.rows,AD 190 3 CZ AU p0_1.pages,DI Ca AA AA p0_1.gens,AD 114 2 CR Aa p0_1.ring,AL CQ (.cells #[vP BH 0,Bs,AA p0_2.gen,AA p0_2.boot,AV p0_2.seals,.map (some Br)] 181),AD 114 2 Bs Aa p0_2.ring,Ad Br AA vB p0_2.taken,AL BH (.cells #[vB p0_3.off,vB p0_3.isCut,vI p0_3.lasts,vI p0_3.counts,BR,.map (some BP),.map (some BQ),AV p0_3.rcnt,vS p0_3.rtag,AA p0_3.rboots] 100),AD 9 1 BR eS p0_3.blocks,Ad BP AA vS p0_3.pend,Ad BQ AA vB p0_3.bad]):=by
 unfold Et at h
 refine TP.enter Tryz.func20 rfl rfl ?_
 refine Y ?_
 refine Ak E GG zU fun b1=>?_
 refine U E (V (AH (Y ?_)))
 refine AE h fun y1 hy1 h=>?_
 refine J E (SL.pick [1,2,3,4,5,6,7,8,9,10,11,12,13,14,0] 15 (AS 14 XE (Gh hy1) E (U E (V (Y (J E (Z E BJ (V ?_))))))))
 refine AN h E (fun hc1 h=>?_) fun hc1 h=>?_
 refine Y (B0 [] E Xq Xo GG zT E (J E (A2 14 E E E E DX E E E zT (U E (V (AK (Ab ?_)))))))
 obtain rfl:=zI h
 exact Ag (D7 E (B8 14 (AY (⟨0,0,0,[]⟩:Ao)) Gd E E E E) E) (Af (M:=[_,_,_,_,_,_,_,_,_,_,_,_,_,_]) ⟨E,E⟩ fun _ hw=>BT.pick (H:=[_,_,_,_,_,_,_,_,_,_,_,_,_,_,_]) hw [0,1,2,3,4,5,6,7,8,9,10,11,12,13] 15 E)
 refine AJ (AI (Y ?_))
 refine AE h fun y2 hy2 h=>?_
 refine J E (AT E E (AF E WX (AG 0 gX E (J E (SL.pick [2,3,4,5,6,7,8,9,10,11,12,13,0,1] 14 (AS 12 pT (TZ hy2) E (Ae E E E ?_)))))))
 refine Ae E E E (A2 14 E E E E DX E E E zT (U E (V (AK ?_))))
 obtain rfl:=zI h
 exact Ag (D7 E (B8 14 (AY (⟨y2.1.id,y2.1.x,y2.1.y,y2.1.txt⟩:Ao)) Gd E E E E) E) (Af (M:=[_,_,_,_,_,_,_,_,_,_,_,_,_,_]) ⟨E,E⟩ fun _ hw=>BT.pick (H:=[_,_,_,_,_,_,_,_,_,_,_,_,_,_,_]) hw [12,13,0,1,2,3,4,5,6,7,8,9,10,11] 15 E)
end

section
structure sY where
 out:List BI
 rows:List Ao
 count:Int
 err:Int
end

section
variable {P:Program}{ro:Option Nat}{K:Nat→Prop}{w0:World}{N:Nat}{Q:DF}{D:List Nat}{l l':Tm}{H H' Hs L:List AX}{ops:Array Oper}{items:Hn}
variable {tk:Bool}{o:Oper}{t:Nat}{v:Value}{x y z:Operand}
variable {α:Type}{enc:α→List Value}{sz:Nat}{xs us:List α}{e ty:TypeId}
end

section
variable {P:Program}{ro:Option Nat}{K:Nat→Prop}{w0:World}{N:Nat}{Q:DF}{D:List Nat}{l l':Tm}{H H' Hs L:List AX}{ops:Array Oper}{items:Hn}
variable {tk:Bool}{o:Oper}{t:Nat}{v:Value}{x y z:Operand}
theorem jM{b off n c sz:Nat}{k k':IntKind}{i j:Int}{ty e:TypeId}(p q:Nat)(ho:At ops N l o t (.slice ty x (some y) (some z) none))(hty:P.underlying ty=some (.slice e))(hsz:DD P e=some sz)(hx:Be l x=some (.slice (some ⟨b,off,none⟩) n c))(hy:Be l y=some (.int k i))(hz:Be l z=some (.int k' j))
(hi:i=(p:Int))(hj:j=(q:Int))(hp:p≤q)(hq:q≤c)(hpc:p<c)(h:SL P ro K w0 N ops Hs items Q D ((t,.slice (some ⟨b,off+p*sz,none⟩) (q-p) (c-p))::l) H):SL P ro K w0 N ops Hs (.cons (tk,o) items) Q D l H:=
 SL.val ho rfl (fun a w ha _=>by
  subst hi hj
  have hne:¬c=p:=zO
  simp only[execOp,ho.op,Instr.sliceAt,Instr.slice,Option.map]
  simp[ha.eval hx,ha.eval hy,ha.eval hz,An hty,Cb hsz,Instr.sliceBounds,Instr.sliceBound,asIntOf,hq,hp,Cf];omega) h
theorem jQ{α:Type}{enc:α→List Value}{sz:Nat}{xs us:List α}{k k':IntKind}{i j:Int}{ty e:TypeId}(hn:Ku xs i j=some us)(hk:B6 K w0 enc sz v xs)(ho:At ops N l o t (.slice ty x (some y) (some z) none))(hty:P.underlying ty=some (.slice e))(hsz:DD P e=some sz)(hx:Be l x=some v)(hy:Be l y=some (.int k i))(hz:Be l z=some (.int k' j))
(h:∀v',B6 K w0 enc sz v' us→SL P ro K w0 N ops Hs items Q D ((t,v')::l) H):SL P ro K w0 N ops Hs (.cons (tk,o) items) Q D l H:=by
 obtain⟨h1,h2,h3,h4,rfl⟩:=NT hn
 have hi:i=(i.toNat:Int):=zO
 have hj:j=(j.toNat:Int):=zO
 generalize i.toNat=p at*
 generalize j.toNat=q at*
 subst hi hj
 rcases hk.at_ with⟨a0,rfl,rfl⟩ | ⟨b,off,cap,rfl,hcap,hc⟩
 have hq:q=0:=by simpa using h4
 have hp:p=0:=zO
 subst hq hp
 refine SL.val (v:=.slice a0 0 0) ho E (fun a w ha _=>?_) (h _ ⟨hk.len,.inl ⟨_,E,by simp⟩⟩)
 simp only[execOp,ho.op,Instr.sliceAt,Instr.slice,Option.map]
 cases a0<;>simp[ha.eval hx,ha.eval hy,ha.eval hz,An hty,Cb hsz,Instr.sliceBounds,Instr.sliceBound,asIntOf]
 have hl:((xs.drop p).take (q-p)).length=q-p:=by simp;omega
 by_cases hpc:p<cap
 refine jM p q ho hty hsz hx hy hz E E h3 zO hpc (h _ ⟨hk.len,.inr ⟨b,off+p*sz,cap-p,by rw[hl],by rw[hl];omega,fun j' u hu=>?_⟩⟩)
 have hc':=(Ye hk.len hcap hc (show p≤xs.length by omega)).at_
 have hpre:((xs.drop p).take (q-p))++((xs.drop p).drop (q-p))=xs.drop p:=List.take_append_drop ..
 have hlen:((xs.take p).flatMap enc).length=p*sz:=by rw[It hk.len,List.length_take,Nat.min_eq_left zO]
 have:=hc (p*sz+j') u (by
  rw[←List.take_append_drop p xs,List.flatMap_append,List.getElem?_append_right zO,hlen,Nat.add_sub_cancel_left,←hpre,List.flatMap_append,List.getElem?_append_left (List.getElem?_eq_some_iff.1 hu).1]
  exact hu)
 rw[Nat.add_assoc]
 exact this
 have hpe:p=cap:=zO
 have hqe:q=p:=zO
 subst hqe
 refine SL.val (v:=.slice (some ⟨b,off,none⟩) 0 0) ho E (fun a w ha _=>?_) (h _ ⟨hk.len,.inl ⟨_,E,by simp⟩⟩)
 simp only[execOp,ho.op,Instr.sliceAt,Instr.slice,Option.map]
 simp[ha.eval hx,ha.eval hy,ha.eval hz,An hty,Cb hsz,Instr.sliceBounds,Instr.sliceBound,asIntOf,Cf,hpe]
end
end Go.Proofs.YtjkhnhichalenaaGreatDoor
