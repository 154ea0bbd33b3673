/- The texts GG36, FD1, FD2, FD1b, FD3, FP3, S30, FP4, FJ0, FW0, FP5, FP2, FB0, FB1, FP6, FL1a, FM1, FL1, FM2, one behind the other: walks of the program, and plain laws of what it computes. Conditions: as each theorem says. -/
import Derived.Test.YtpaohlmgfifebaaGreatDoorXD1
import Derived.Test.YtpaohlmgfifebaaGreatDoorXD2
import Derived.Test.YtpaohlmgfifebaaGreatDoorXD3
import Derived.Test.YtpaohlmgfifebaaGreatDoorXD4

set_option linter.unusedVariables false
set_option linter.unusedSimpArgs false
set_option maxHeartbeats 4000000
set_option maxRecDepth 100000
namespace Go.Proofs.YtpaohlmgfifebaaGreatDoor
open Go
section
variable {K:Nat→Prop}{w0:World}{H:List AV}
def JD(p0:A3)(p1:UInt32):Option Bool:=
 ret (decide (p1.toUInt64<Cq (p0.blk.length:Int))) fun x1=>
 some x1
theorem UC{Ao:Nat}{Am AZ Ar:Value}{p0:A3}{p1:UInt32}{r:Bool}(h:JD p0 p1=some r): zC K w0 218 [vP Ao 0,Y p1] [own Ao (.cells #[Am,AZ,Ar,AT p0.rcnt,vS p0.rtag,Y p0.rboots,vI p0.left,vB p0.off] 118),AB 9 1 Am eS p0.blk,AB 9 1 AZ eS p0.pnd,AB 4 1 Ar eB p0.bads] H (fun u M=>u=vB r∧M=[own Ao (.cells #[Am,AZ,Ar,AT p0.rcnt,vS p0.rtag,Y p0.rboots,vI p0.left,vB p0.off] 118),AB 9 1 Am eS p0.blk,AB 9 1 AZ eS p0.pnd,AB 4 1 Ar eB p0.bads]):=by
 unfold JD at h
 refine T3.enter Tryz.func218 rfl rfl ?_
 refine V (O E (U (V ?_)))
 obtain⟨x1,ex1,h⟩:=Bu h
 refine J E (BG E E (C2 CP Da) (J E (AQ E E (AE E Qi (AF 0 P7 E (Dj 1 E El E E (BG E E (E6 Jg Da) ?_)))))))
 refine Z E ZP ?_
 refine Ai (u:=vB x1) E E (congrArg vB ex1) ?_
 refine U (AJ ?_)
 obtain rfl:=zI h
 exact AW [0,1,2,3] 4 E E E
def HO(o2:A3):Option (Int×A3):=
 some (0,o2)
def Fj(o1:A3):Option (Int×A3):=
 cond o1.off
 (
  some (71,o1))
 (
  cond (decide (0<o1.left))
  (
   HO ({ o1 with left:=wI (o1.left-1) }))
  (
   HO o1))
def Dw(p0:A3):Option (Int×A3):=
 cond (decide (p0.left=0))
 (
  Fj ({ p0 with off:=true }))
 (
  Fj p0)
theorem I1{Ao:Nat}{Am AZ Ar:Value}{p0:A3}{r:Int×A3}(h:Dw p0=some r): zC K w0 87 [vP Ao 0] [own Ao (.cells #[Am,AZ,Ar,AT p0.rcnt,vS p0.rtag,Y p0.rboots,vI p0.left,vB p0.off] 118),AB 9 1 Am eS p0.blk,AB 9 1 AZ eS p0.pnd,AB 4 1 Ar eB p0.bads] H (fun u M=>u=vI r.1∧M=[own Ao (.cells #[Am,AZ,Ar,AT r.2.rcnt,vS r.2.rtag,Y r.2.rboots,vI r.2.left,vB r.2.off] 118),AB 9 1 Am eS r.2.blk,AB 9 1 AZ eS r.2.pnd,AB 4 1 Ar eB r.2.bads]):=by
 unfold Dw at h
 refine T3.enter Tryz.func87 rfl rfl ?_
 refine V (O E (U ?_))
 refine A9 (α:=A3) (fun x=>Fj x=some r) (fun x=>[(0,vP Ao 0)]) (fun x=>own Ao (.cells #[Am,AZ,Ar,AT x.rcnt,vS x.rtag,Y x.rboots,vI x.left,vB x.off] 118)::AB 9 1 Am eS x.blk::AB 9 1 AZ eS x.pnd::AB 4 1 Ar eB x.bads::H) ?_ (fun o1 D h=>?_)
 refine V (J E (AQ E E (AE E VI (AF 0 FJ E (Z E Bq (U ?_))))))
 refine AL h E (fun hc1 h=>?_) fun hc1 h=>?_
 refine AN (J E (AQ E E (AE E dr (A5 0 E E E E Rx E E E zT (AY ?_)))))
 exact Aq ({ p0 with off:=true }) h tL (BN [0,1,2,3] 4 rfl rfl rfl)
 refine AI ?_
 exact Aq p0 h tL (BN [0,1,2,3] 4 E E E)
 unfold Fj at h
 try dsimp only
 refine AG (V (J E (AQ E E (AE E dr (AF 0 WH E (U ?_))))))
 refine AL h E (fun hc2 h=>?_) fun hc2 h=>?_
 refine V (O E (U (AJ (Ab ?_))))
 obtain rfl:=zI h
 exact AW [0,1,2,3] 4 E E E
 refine AI (AH ?_)
 refine A9 (α:=A3) (fun x=>HO x=some r) (fun x=>[(0,vP Ao 0)]) (fun x=>own Ao (.cells #[Am,AZ,Ar,AT x.rcnt,vS x.rtag,Y x.rboots,vI x.left,vB x.off] 118)::AB 9 1 Am eS x.blk::AB 9 1 AZ eS x.pnd::AB 4 1 Ar eB x.bads::H) ?_ (fun o2 D h=>?_)
 refine V (J E (AQ E E (AE E VI (AF 0 FJ E (Z E Cu (U ?_))))))
 refine AL h E (fun hc3 h=>?_) fun hc3 h=>?_
 refine AN (J E (AQ E E (AE E VI (AF 0 FJ E (Z E DI (AQ E E (AE E VI (A5 0 E E E E OT E E E zT (AY ?_)))))))))
 exact Aq ({ o1 with left:=wI (o1.left-1) }) h tL (BN [0,1,2,3] 4 rfl rfl rfl)
 refine AI ?_
 exact Aq o1 h tL (BN [0,1,2,3] 4 E E E)
 unfold HO at h
 try dsimp only
 refine V (O E (U (AJ ?_)))
 obtain rfl:=zI h
 exact AW [0,1,2,3] 4 E E E
def Ft(y2:Int×A3)(o1:A3):Option (Int×A3):=
 some (y2.1,o1)
def Er(p0:A3)(p1:UInt32)(p2:List UInt8):Option (Int×A3):=
 (JD p0 p1).bind fun y1=>
 cond ((!y1)||(!decide ((p2.length:Int)=256)))
 (
  some (2,p0))
 (
  (Dw p0).bind fun y2=>
  cond (decide (y2.1=0))
  (
   (BB y2.2.pnd (p1.toNat:Int)).bind fun x1=>
   (Ma y2.2.pnd (p1.toNat:Int) p2).bind fun l1=>
   Ft y2 ({ y2.2 with pnd:=l1 }))
  (
   Ft y2 y2.2))
theorem Rt{Ao:Nat}{Am AZ Ar:Value}{p0:A3}{p1:UInt32}{p2:List UInt8}{r:Int×A3}(h:Er p0 p1 p2=some r): zC K w0 189 [vP Ao 0,Y p1,vS p2] [own Ao (.cells #[Am,AZ,Ar,AT p0.rcnt,vS p0.rtag,Y p0.rboots,vI p0.left,vB p0.off] 118),AB 9 1 Am eS p0.blk,AB 9 1 AZ eS p0.pnd,AB 4 1 Ar eB p0.bads] H (fun u M=>u=vI r.1∧M=[own Ao (.cells #[Am,AZ,Ar,AT r.2.rcnt,vS r.2.rtag,Y r.2.rboots,vI r.2.left,vB r.2.off] 118),AB 9 1 Am eS r.2.blk,AB 9 1 AZ eS r.2.pnd,AB 4 1 Ar eB r.2.bads]):=by
 unfold Er at h
 refine T3.enter Tryz.func189 rfl rfl ?_
 refine V (O E (U (AG (V ?_))))
 refine AD h fun y1 hy1 h=>?_
 refine J E (J E (AP 4 pj (UC hy1) E (CT E E (J E ?_))))
 refine Eg (c := !decide ((p2.length:Int)=256)) 12 4 16 E (fun hb k=>?_) (fun hb k=>?_) ?_
 refine AC E (AC E (AC E (Ag E E E ?_)))
 exact k.mono tL
 refine J E (Bw E Cj E (Z E BJ (Ag E E E ?_)))
 exact k.mono tL
 refine U ?_
 refine AL h E (fun hc1 h=>?_) fun hc1 h=>?_
 refine V (O E (U (AJ (Ab ?_))))
 obtain rfl:=zI h
 exact AW [0,1,2,3] 4 E E E
 refine AI (AH (V ?_))
 refine AD h fun y2 hy2 h=>?_
 refine J E (AP 4 bH (I1 hy2) E (O E (U ?_)))
 refine A9 (α:=A3) (fun x=>Ft y2 x=some r) (fun x=>[(0,vP Ao 0),(7,vI y2.1)]) (fun x=>own Ao (.cells #[Am,AZ,Ar,AT x.rcnt,vS x.rtag,Y x.rboots,vI x.left,vB x.off] 118)::AB 9 1 Am eS x.blk::AB 9 1 AZ eS x.pnd::AB 4 1 Ar eB x.bads::H) ?_ (fun o1 D h=>?_)
 refine V (J E (Z E Bq (U ?_)))
 refine AL h E (fun hc2 h=>?_) fun hc2 h=>?_
 refine AN ?_
 refine AD h fun x1 hx1 h=>?_
 refine AD h fun l1 hl1 h=>?_
 refine J E (AQ E E (AE E Qj (AF 0 P7 E (J E (J E ?_)))))
 refine B2 2 hx1 E El HS E E E fun g1 m1 cp1 hv1=>?_
 refine E7 (sz:=1) (enc:=eS) 2 hl1 zV rfl rfl rfl rfl rfl hv1 HS (by first | (simp[Value.oneCell'];done) | simp[eS,Value.oneCell']) trivial ?_
 refine AY ?_
 exact Aq ({ y2.2 with pnd:=l1 }) h tL (BN [0,1,2,3] 4 rfl rfl rfl)
 refine AI ?_
 exact Aq y2.2 h tL (BN [0,1,2,3] 4 E E E)
 unfold Ft at h
 try dsimp only
 refine V (J E (O E (U (AJ ?_))))
 obtain rfl:=zI h
 exact AW [0,1,2,3] 4 E E E
def FD(n:Nat)(T:List UInt32)(p0:BW)(p0_1:A3)(p1:UInt32)(p2:List UInt8):Option (List UInt8×Int×BW×A3):=
 (Lc n T p0.ring (⟨p1,p0.gen,p0.boot,p0.num⟩:DJ) p2).bind fun y1=>
 cond (!decide (y1.2=0))
 (
  some ([],y1.2,p0,p0_1))
 (
  (Er p0_1 p1 y1.1).bind fun y2=>
  cond (!decide (y2.1=0))
  (
   some ([],y2.1,{ p0 with num:=p0.num+1 },y2.2))
  (
   (Ix y1.1 224 (y1.1.length:Int)).bind fun s1=>
   some (s1,0,{ p0 with num:=p0.num+1 },y2.2)))
theorem N5{n Ao BE:Nat}{T:List UInt32}{AZ BH Dz Bb D0:Value}{p0:BW}{p0_1:A3}{p1:UInt32}{p2:List UInt8}{r:List UInt8×Int×BW×A3}(h:FD n T p0 p0_1 p1 p2=some r)(hT:JO K w0 2 64 T):zC K w0 163 [vP Ao 0,Y p1,vS p2] [own Ao (.cells #[vP BE 0,AZ,Y p0.gen,Y p0.boot,AT p0.num,BH] 142),AB 55 2 AZ AX p0.ring,AB 4 1 BH eB p0.taken,own BE (.cells #[Dz,Bb,D0,AT p0_1.rcnt,vS p0_1.rtag,Y p0_1.rboots,vI p0_1.left,vB p0_1.off] 118),AB 9 1 Dz eS p0_1.blk,AB 9 1 Bb eS p0_1.pnd,AB 4 1 D0 eB p0_1.bads] H (fun u M=>u=.tuple #[vS r.1,vI r.2.1]∧M=[own Ao (.cells #[vP BE 0,AZ,Y r.2.2.1.gen,Y r.2.2.1.boot,AT r.2.2.1.num,BH] 142),AB 55 2 AZ AX r.2.2.1.ring,AB 4 1 BH eB r.2.2.1.taken,own BE (.cells #[Dz,Bb,D0,AT r.2.2.2.rcnt,vS r.2.2.2.rtag,Y r.2.2.2.rboots,vI r.2.2.2.left,vB r.2.2.2.off] 118),AB 9 1 Dz eS r.2.2.2.blk,AB 9 1 Bb eS r.2.2.2.pnd,AB 4 1 D0 eB r.2.2.2.bads]):=by
 unfold FD at h
 refine T3.enter Tryz.func163 rfl rfl ?_
 refine V (O E (O E (U (AG ?_))))
 refine AD h fun y1 hy1 h=>?_
 refine Av DH [0] (CA [(true,0),(true,1),(true,2),(true,3),(true,4),(true,5),(true,6),(true,7),(true,8),(true,9),(true,10),(true,11),(true,12),(true,13),(true,14),(true,15),(true,16),(true,17),(true,18),(false,19),(false,20),(true,21),(true,22),(false,23)] (.last 24 .nil)) zK (J E (AQ E E (AE E mL (AF 0 jE E (J E (J E (AQ E E ?_)))))))
 refine AE E YP (AF 0 A2 E (J E (AQ E E (AE E mM (AF 0 A2 E (J E (AQ E E ?_)))))))
 refine AE E YQ (AF 0 HJ E (B5 [_,_,_,_] E mn ml gm ⟨E,E,E,E,zT⟩ E (J E (SL.pick [1,0] 2 ?_))))
 refine Bg (vs:=[_,_,_]) (Hin:=[_]) (Hr:=_::_::_::_::_::_::_) E E ⟨E,E,E,zT⟩ pL E E (Co (B:=[_]) (Hin:=[]) fun K' w1 hk hB=>(ZD hy1 (hT.keeps hk) (CO (e:=55) (v:=AZ) zV (hB _ zS)) :)) ?_
 rintro _ _ ⟨_,rfl,rfl,rfl⟩
 refine⟨⟨⟨1,rfl⟩,trivial⟩,?_⟩
 refine J E (Ac E E E (Ac E E E (O E (BY (O E (U (AG (V (J E (Z E BJ (U ?_)))))))))))
 refine AL h E (fun hc1 h=>?_) fun hc1 h=>?_
 refine V (J E (O E (O E (U (AJ (Ab ?_))))))
 obtain rfl:=zI h
 exact AW [1,0,2,3,4,5,6] 7 E E E
 refine AI (AH (V (J E (AQ E E (AE E YQ (AF 1 HJ E ?_))))))
 refine Z E (H9 (b:=1)) ?_
 refine AQ E E (AE E YQ (A5 1 E E E E jH E E E zT (U (V ?_))))
 refine AD h fun y2 hy2 h=>?_
 refine J E (AQ E E (AE E PQ (AF 1 Yr E (J E (J E (SL.pick [3,4,5,6,0,1,2] 7 (AP 4 pM (Rt hy2) E ?_)))))))
 refine O E (U (AG (V (J E (Z E BJ (U ?_))))))
 refine AL h E (fun hc2 h=>?_) fun hc2 h=>?_
 refine V (J E (O E (O E (U (AJ (Ab ?_))))))
 obtain rfl:=zI h
 exact AW [5,4,6,0,1,2,3] 7 E E E
 refine AI (AH (V ?_))
 refine AD h fun s1 hs1 h=>?_
 refine J E (ky hs1 E Cj E E (O E (O E (U (AJ ?_)))))
 obtain rfl:=zI h
 exact AW [5,4,6,0,1,2,3] 7 E E E
def IZ(o1:BW)(o2:A3)(y1:UInt32)(y2:List UInt8):Option (BQ×Int×BW×A3):=
 some ((⟨0,[]⟩:BQ),110,o1,o2)
def Ed(n:Nat)(T:List UInt32)(p1:List UInt8)(nx_f_ref13_Vault_Write_l1:BW×A3×UInt32×List UInt8×Int→Option (BQ×Int×BW×A3))(o3:BW)(o4:A3)(y3:UInt32)(y4:List UInt8)(a1:Int):Option (BQ×Int×BW×A3):=
 cond (decide (a1<(o3.taken.length:Int)))
 (
  (BB o3.taken a1).bind fun x1=>
  cond x1
  (
   ret (wI (a1+1)) fun p_1=>
   nx_f_ref13_Vault_Write_l1 (o3,o4,y3,y4,p_1))
  (
   (FD n T o3 o4 (E4 a1) p1).bind fun y5=>
   cond (!decide (y5.2.1=0))
   (
    some ((⟨0,[]⟩:BQ),y5.2.1,y5.2.2.1,y5.2.2.2))
   (
    (BB y5.2.2.1.taken a1).bind fun x2=>
    (Ma y5.2.2.1.taken a1 true).bind fun l1=>
    some ((⟨E4 a1,y5.1⟩:BQ),0,{ y5.2.2.1 with taken:=l1 },y5.2.2.2))))
 (
  IZ o3 o4 y3 y4)
def GD(n:Nat)(T:List UInt32)(p1:List UInt8):Nat→(BW×A3×UInt32×List UInt8×Int)→Option (BQ×Int×BW×A3):=CN fun nx x=>Ed n T p1 nx x.1 x.2.1 x.2.2.1 x.2.2.2.1 x.2.2.2.2
def F2(n:Nat)(T:List UInt32)(p0:BW)(p0_1:A3)(p1:List UInt8):Option (BQ×Int×BW×A3):=
 cond (decide (198<(p1.length:Int)))
 (
  some ((⟨0,[]⟩:BQ),50,p0,p0_1))
 (
  GD n T p1 n (p0,p0_1,0,[],2))
theorem SM{n Ao BE:Nat}{T:List UInt32}{AZ BH Dz Bb D0:Value}{p0:BW}{p0_1:A3}{p1:List UInt8}{r:BQ×Int×BW×A3}(h:F2 n T p0 p0_1 p1=some r)(hT:JO K w0 2 64 T):zC K w0 186 [vP Ao 0,vS p1] [own Ao (.cells #[vP BE 0,AZ,Y p0.gen,Y p0.boot,AT p0.num,BH] 142),AB 55 2 AZ AX p0.ring,AB 4 1 BH eB p0.taken,own BE (.cells #[Dz,Bb,D0,AT p0_1.rcnt,vS p0_1.rtag,Y p0_1.rboots,vI p0_1.left,vB p0_1.off] 118),AB 9 1 Dz eS p0_1.blk,AB 9 1 Bb eS p0_1.pnd,AB 4 1 D0 eB p0_1.bads] H (fun u M=>u=.tuple #[.agg (Bz r.1).toArray,vI r.2.1]∧M=[own Ao (.cells #[vP BE 0,AZ,Y r.2.2.1.gen,Y r.2.2.1.boot,AT r.2.2.1.num,BH] 142),AB 55 2 AZ AX r.2.2.1.ring,AB 4 1 BH eB r.2.2.1.taken,own BE (.cells #[Dz,Bb,D0,AT r.2.2.2.rcnt,vS r.2.2.2.rtag,Y r.2.2.2.rboots,vI r.2.2.2.left,vB r.2.2.2.off] 118),AB 9 1 Dz eS r.2.2.2.blk,AB 9 1 Bb eS r.2.2.2.pnd,AB 4 1 D0 eB r.2.2.2.bads]):=by
 unfold F2 at h
 refine T3.enter Tryz.func186 rfl rfl ?_
 refine V ?_
 refine Al E FT zU fun b1=>?_
 refine O E (U (AG (V (J E (Bw E Cj E (Z E Cu (U ?_)))))))
 refine AL h E (fun hc1 h=>?_) fun hc1 h=>?_
 refine V (B5 [] E OR OQ FT zT E (A5 0 E E E E Ek E E E zT (O E (U (AJ (Ab ?_))))))
 obtain rfl:=zI h
 exact Ae (EN E (B9 0 (Bz (⟨0,[]⟩:BQ)) DK E E E E) E) (Ad (M:=[_,_,_,_,_,_,_]) ⟨E,E⟩ fun _ hw=>BX.pick (H:=[_,_,_,_,_,_,_,_]) hw [1,2,3,4,5,6,7] 8 E)
 refine AI (AH ?_)
 refine A9 (α:=BW×A3×UInt32×List UInt8) (fun x=>IZ x.1 x.2.1 x.2.2.1 x.2.2.2=some r) (fun x=>[(0,vP Ao 0),(4,vP b1 0)]) (fun x=>own Ao (.cells #[vP BE 0,AZ,Y x.1.gen,Y x.1.boot,AT x.1.num,BH] 142)::own BE (.cells #[Dz,Bb,D0,AT x.2.1.rcnt,vS x.2.1.rtag,Y x.2.1.rboots,vI x.2.1.left,vB x.2.1.off] 118)::AB 9 1 Dz eS x.2.1.blk::AB 9 1 Bb eS x.2.1.pnd::AB 4 1 D0 eB x.2.1.bads::AB 55 2 AZ AX x.1.ring::AB 4 1 BH eB x.1.taken::own b1 (.cells #[Y x.2.2.1,vS x.2.2.2] 146)::H) ?_ (fun x D h=>?_)
 refine V (O E (U (AM ?_)))
 refine SX.heap (SX.mono (BF (α:=Nat×BW×A3×UInt32×List UInt8×Int) (fun x=>GD n T p1 x.1 (x.2.1,x.2.2.1,x.2.2.2.1,x.2.2.2.2.1,x.2.2.2.2.2)=some r) (fun x=>[(0,vP Ao 0),(1,vS p1),(4,vP b1 0),(6,vI x.2.2.2.2.2)]) (fun x=>own Ao (.cells #[vP BE 0,AZ,Y x.2.1.gen,Y x.2.1.boot,AT x.2.1.num,BH] 142)::own BE (.cells #[Dz,Bb,D0,AT x.2.2.1.rcnt,vS x.2.2.1.rtag,Y x.2.2.1.rboots,vI x.2.2.1.left,vB x.2.2.1.off] 118)::AB 9 1 Dz eS x.2.2.1.blk::AB 9 1 Bb eS x.2.2.1.pnd::AB 4 1 D0 eB x.2.2.1.bads::AB 55 2 AZ AX x.2.1.ring::AB 4 1 BH eB x.2.1.taken::own b1 (.cells #[Y x.2.2.2.1,vS x.2.2.2.2.1] 146)::H) (fun x=>x.1) (fun x D h=>?_) (n,p0,p0_1,0,[],2) h) tL) (BN [1,4,5,6,7,2,3,0] 8 E E E)
 obtain⟨m1,o3,o4,y3,y4,a1⟩:=x
 dsimp only at h
 rcases m1 with _ | m1
 cases (show(none:Option _)=some r from h)
 replace h:Ed n T p1 (GD n T p1 m1) o3 o4 y3 y4 a1=some r:=h
 unfold Ed at h
 try dsimp only
 refine AG (V (J E (J E (AQ E E (AE E Sf (AF 0 WG E (Dj 6 E S5 E E (Z E A8 (U ?_)))))))))
 refine AL h E (fun hc2 h=>?_) fun hc2 h=>?_
 refine AI (AH (AG (AM (AG (V ?_)))))
 refine AD h fun x1 hx1 h=>?_
 refine J E (AQ E E (AE E Sf (AF 0 WG E (J E ?_))))
 refine B2 6 hx1 E S5 Rx E E E fun g1 m2 cp1 hv1=>?_
 refine Bk E WH E (Br (sz:=1) (enc:=eB) 6 0 zV E hv1 hx1 E) ?_
 refine U ?_
 refine AL h E (fun hc3 h=>?_) fun hc3 h=>?_
 refine A1 (A6 (A7 (AH (AN ?_))))
 obtain⟨p_1,ep_1,h⟩:=Bu h
 refine J E (Z E Bh ?_)
 refine Ai (u:=vI p_1) E E (congrArg vI ep_1) ?_
 refine AY ?_
 exact Au (m1,o3,o4,y3,y4,p_1) h (Nat.lt_succ_self _) tL (BN [0,1,2,3,4,5,6,7] 8 E E E)
 refine AI (AH (V ?_))
 refine AD h fun y5 hy5 h=>?_
 refine J E (J E (BG E E (QV Jg CP) (J E (SL.pick [0,5,6,1,2,3,4] 7 (AP 7 iK (N5 hy5 hT) E (J E (Ac E E E ?_)))))))
 refine Ac E E E (O E (O E (U (AG (V (J E (Z E BJ (U ?_))))))))
 refine AL h E (fun hc4 h=>?_) fun hc4 h=>?_
 refine V (B5 [] E OR OQ FT zT E (J E (A5 7 E E E E Ek E E E zT (O E (U (AJ (Ab (BC (Ab (EB (BC (F9 ?_))))))))))))
 obtain rfl:=zI h
 exact Ae (EN E (B9 7 (Bz (⟨0,[]⟩:BQ)) DK E E E E) E) (Ad (M:=[_,_,_,_,_,_,_]) ⟨E,E⟩ fun _ hw=>BX.pick (H:=[_,_,_,_,_,_,_,_]) hw [0,1,2,3,4,5,6] 8 E)
 refine AI (AH (V ?_))
 refine AD h fun x2 hx2 h=>?_
 refine AD h fun l1 hl1 h=>?_
 refine J E (AQ E E (AE E Sf (AF 0 WG E (J E ?_))))
 refine B2 2 hx2 E S5 Rx E E E fun g2 m3 cp2 hv2=>?_
 refine E7 (sz:=1) (enc:=eB) 2 hl1 zV rfl rfl rfl rfl rfl hv2 Rx (by first | (simp[Value.oneCell'];done) | simp[eB,Value.oneCell']) trivial ?_
 refine U (V (J E (BG E E (QV Jg CP) (J E (B5 [_,_] E OR OQ FT ⟨E,E,zT⟩ E (A5 7 E E E E Ek E E E zT (O E (U (AJ (BC (Ab (EB (BC (F9 ?_))))))))))))))
 obtain rfl:=zI h
 exact Ae (EN E (B9 7 (Bz (⟨E4 a1,y5.1⟩:BQ)) DK E E E E) E) (Ad (M:=[_,_,_,_,_,_,_]) ⟨E,E⟩ fun _ hw=>BX.pick (H:=[_,_,_,_,_,_,_,_]) hw [0,1,2,3,4,5,6] 8 E)
 refine A1 (A6 (Ba (A7 ?_)))
 exact Aq (o3,o4,y3,y4) h tL (BN [0,1,2,3,4,5,6,7] 8 E E E)
 obtain⟨o1,o2,y1,y2⟩:=x
 dsimp only at h
 unfold IZ at h
 try dsimp only
 refine V (B5 [] E OR OQ FT zT E (A5 7 E E E E Ek E E E zT (O E (U (AJ ?_)))))
 obtain rfl:=zI h
 exact Ae (EN E (B9 7 (Bz (⟨0,[]⟩:BQ)) DK E E E E) E) (Ad (M:=[_,_,_,_,_,_,_]) ⟨E,E⟩ fun _ hw=>BX.pick (H:=[_,_,_,_,_,_,_,_]) hw [0,5,6,1,2,3,4] 8 E)
end

section
variable {K:Nat→Prop}{w0:World}{H:List AV}
def Eo(a5:UInt64)(a6:Int):Option Int:=
 (BB ([0,1,2,2,3,3,3,3,4,4,4,4,4,4,4,4,5,5,5,5,5,5,5,5,5,5,5,5,5,5,5,5,6,6,6,6,6,6,6,6,6,6,6,6,6,6,6,6,6,6,6,6,6,6,6,6,6,6,6,6,6,6,6,6,7,7,7,7,7,7,7,7,7,7,7,7,7,7,7,7,7,7,7,7,7,7,7,7,7,7,7,7,7,7,7,7,7,7,7,7,7,7,7,7,7,7,7,7,7,7,7,7,7,7,7,7,7,7,7,7,7,7,7,7,7,7,7,7,8,8,8,8,8,8,8,8,8,8,8,8,8,8,8,8,8,8,8,8,8,8,8,8,8,8,8,8,8,8,8,8,8,8,8,8,8,8,8,8,8,8,8,8,8,8,8,8,8,8,8,8,8,8,8,8,8,8,8,8,8,8,8,8,8,8,8,8,8,8,8,8,8,8,8,8,8,8,8,8,8,8,8,8,8,8,8,8,8,8,8,8,8,8,8,8,8,8,8,8,8,8,8,8,8,8,8,8,8,8,8,8,8,8,8,8,8,8,8,8,8,8,8,8,8,8,8,8]:List UInt8) (a5.toUInt8.toNat:Int)).bind fun c1=>
 ret (wI (a6+(c1.toNat:Int))) fun x6=>
 some x6
def En(a3:UInt64)(a4:Int):Option Int:=
 cond (decide (256≤a3))
 (
  ret (shr64 a3 8) fun x4=>
  ret (wI (a4+8)) fun x5=>
  Eo x4 x5)
 (
  Eo a3 a4)
def Em(a1:UInt64)(a2:Int):Option Int:=
 cond (decide (65536≤a1))
 (
  ret (shr64 a1 16) fun x2=>
  ret (wI (a2+16)) fun x3=>
  En x2 x3)
 (
  En a1 a2)
def G6(p0:UInt64):Option Int:=
 cond (decide (4294967296≤p0))
 (
  ret (shr64 p0 32) fun x1=>
  Em x1 32)
 (
  Em p0 0)
theorem UB{p0:UInt64}{r:Int}(h:G6 p0=some r): zC K w0 244 [AT p0] [] H (fun u M=>u=vI r∧M=[]):=by
 unfold G6 at h
 refine T3.enter Tryz.func244 rfl rfl ?_
 refine V (O E (U ?_))
 refine A9 (α:=UInt64×Int) (fun x=>Em x.1 x.2=some r) (fun x=>[(0,AT x.1),(2,vI x.2)]) (fun x=>H) ?_ (fun x D h=>?_)
 refine V (J E ?_)
 refine Z E (QU (b:=4294967296)) ?_
 refine U ?_
 refine AL h E (fun hc1 h=>?_) fun hc1 h=>?_
 refine V ?_
 obtain⟨x1,ex1,h⟩:=Bu h
 refine J E ?_
 refine Z E (Fd.shr64 (n:=32)) ?_
 refine Ai (u:=AT x1) E E (congrArg AT ex1) ?_
 refine U (AN (O E (AY ?_)))
 exact Aq (x1,32) h tL (BN [] 0 E E E)
 refine AI ?_
 exact Aq (p0,0) h tL (BN [] 0 E E E)
 obtain⟨a1,a2⟩:=x
 dsimp only at h
 unfold Em at h
 try dsimp only
 refine A9 (α:=UInt64×Int) (fun x=>En x.1 x.2=some r) (fun x=>[(0,AT x.1),(2,vI x.2)]) (fun x=>H) ?_ (fun x D h=>?_)
 refine V (J E ?_)
 refine Z E (QU (b:=65536)) ?_
 refine U ?_
 refine AL h E (fun hc2 h=>?_) fun hc2 h=>?_
 refine V ?_
 obtain⟨x2,ex2,h⟩:=Bu h
 refine J E ?_
 refine Z E (Fd.shr64 (n:=16)) ?_
 refine Ai (u:=AT x2) E E (congrArg AT ex2) ?_
 refine U (AN ?_)
 obtain⟨x3,ex3,h⟩:=Bu h
 refine J E (Z E Bh ?_)
 refine Ai (u:=vI x3) E E (congrArg vI ex3) ?_
 refine AY ?_
 exact Aq (x2,x3) h tL (BN [] 0 E E E)
 refine AI ?_
 exact Aq (a1,a2) h tL (BN [] 0 E E E)
 obtain⟨a3,a4⟩:=x
 dsimp only at h
 unfold En at h
 try dsimp only
 refine A9 (α:=UInt64×Int) (fun x=>Eo x.1 x.2=some r) (fun x=>[(0,AT x.1),(2,vI x.2)]) (fun x=>H) ?_ (fun x D h=>?_)
 refine V (J E ?_)
 refine Z E (QU (b:=256)) ?_
 refine U ?_
 refine AL h E (fun hc3 h=>?_) fun hc3 h=>?_
 refine V ?_
 obtain⟨x4,ex4,h⟩:=Bu h
 refine J E ?_
 refine Z E (Fd.shr64 (n:=8)) ?_
 refine Ai (u:=AT x4) E E (congrArg AT ex4) ?_
 refine U (AN ?_)
 obtain⟨x5,ex5,h⟩:=Bu h
 refine J E (Z E Bh ?_)
 refine Ai (u:=vI x5) E E (congrArg vI ex5) ?_
 refine AY ?_
 exact Aq (x4,x5) h tL (BN [] 0 E E E)
 refine AI ?_
 exact Aq (a3,a4) h tL (BN [] 0 E E E)
 obtain⟨a5,a6⟩:=x
 dsimp only at h
 unfold Eo at h
 try dsimp only
 refine V ?_
 refine AD h fun c1 hc1 h=>?_
 obtain⟨x6,ex6,h⟩:=Bu h
 refine J E (J E (BG E E (FU Da DS) (Kj hc1 E Cj E E (BG E E (cr DS Jg) (Z E Bh ?_)))))
 refine Ai (u:=vI x6) E E (congrArg vI ex6) ?_
 refine U (AJ ?_)
 obtain rfl:=zI h
 exact AW [] 0 E E E
def IT(p0:UInt64):Option Int:=
 (G6 p0).bind fun y1=>
 some y1
theorem Vt{p0:UInt64}{r:Int}(h:IT p0=some r): zC K w0 208 [AT p0] [] H (fun u M=>u=vI r∧M=[]):=by
 unfold IT at h
 refine T3.enter Tryz.func208 rfl rfl ?_
 refine V (O E (U (AG (Cx E (AI (AH (V ?_)))))))
 refine AD h fun y1 hy1 h=>?_
 refine J E (AP 0 py (UB hy1) E (O E (U (AJ ?_))))
 obtain rfl:=zI h
 exact AW [] 0 E E E
def GO(p0:UInt32):Option Bool:=
 ret (!decide (p0=p0)) fun x1=>
 some x1
theorem OZ{p0:UInt32}{r:Bool}(h:GO p0=some r): zC K w0 266 [Y p0] [] H (fun u M=>u=vB r∧M=[]):=by
 unfold GO at h
 refine T3.enter Tryz.func266 rfl rfl ?_
 refine V (O E (U (V ?_)))
 obtain⟨x1,ex1,h⟩:=Bu h
 refine J E (J E (Z E jQ ?_))
 refine Ai (u:=vB x1) E E (congrArg vB ex1) ?_
 refine U (AJ ?_)
 obtain rfl:=zI h
 exact AW [] 0 E E E
def G3(p0:UInt32)(p1:UInt32):Option Bool:=
 (GO p0).bind fun y1=>
 (It y1 ((GO p1).bind fun y2=>some (!y2))).bind fun y3=>
 ret (y3||(decide (p0<p1))) fun x1=>
 some x1
theorem T8{p0 p1:UInt32}{r:Bool}(h:G3 p0 p1=some r): zC K w0 241 [Y p0,Y p1] [] H (fun u M=>u=vB r∧M=[]):=by
 unfold G3 at h
 refine T3.enter Tryz.func241 rfl rfl ?_
 refine V (O E (U (V ?_)))
 refine AD h fun y1 hy1 h=>?_
 refine AD h fun y3 hy3 h=>?_
 obtain⟨x1,ex1,h⟩:=Bu h
 refine J E (AP 0 ib (OZ hy1) E (J E ?_))
 refine GM 7 4 11 hy3 E (fun hb hg1 k=>?_) (fun hb k=>?_) ?_
 obtain⟨y2,hy2,hg1⟩:=EE hg1
 obtain rfl:=zI hg1
 refine J E (AP 0 ib (OZ hy2) E (CT E E (Ag E E E ?_)))
 exact k.mono tL
 refine AC E (AC E (AC E (Ag E E E ?_)))
 exact k.mono tL
 refine J E ?_
 refine Eg (c:=decide (p0<p1)) 12 4 16 E (fun hb k=>?_) (fun hb k=>?_) ?_
 refine AC E (AC E (AC E (Ag E E E ?_)))
 exact k.mono tL
 refine J E (J E (Z E NS (Ag E E E ?_)))
 exact k.mono tL
 refine Ai (u:=vB x1) E E (congrArg vB ex1) ?_
 refine U (AJ ?_)
 obtain rfl:=zI h
 exact AW [] 0 E E E
def C0(a1:Int)(nx_f_slices_insertionSortOrdered_uint32_l1:List UInt32×Int→Option (List UInt32))(l2:List UInt32):Option (List UInt32):=
 ret (wI (a1+1)) fun i_2=>
 nx_f_slices_insertionSortOrdered_uint32_l1 (l2,i_2)
def CK(p1:Int)(a1:Int)(nx_f_slices_insertionSortOrdered_uint32_l1:List UInt32×Int→Option (List UInt32))(nx_f_slices_insertionSortOrdered_uint32_l2:List UInt32×Int→Option (List UInt32))(l3:List UInt32)(a2:Int):Option (List UInt32):=
 (It (decide (p1<a2)) ((BB l3 a2).bind fun x1=>(BB l3 (wI (a2-1))).bind fun x2=>(G3 x1 x2).bind fun y1=>some (y1))).bind fun y2=>
 cond y2
 (
  (BB l3 (wI (a2-1))).bind fun x3=>
  (BB l3 a2).bind fun x4=>
  (BB l3 a2).bind fun x5=>
  (Ma l3 a2 x3).bind fun l4=>
  (BB l4 (wI (a2-1))).bind fun x6=>
  (Ma l4 (wI (a2-1)) x4).bind fun l5=>
  ret (wI (a2-1)) fun j_1=>
  nx_f_slices_insertionSortOrdered_uint32_l2 (l5,j_1))
 (
  C0 a1 nx_f_slices_insertionSortOrdered_uint32_l1 l3)
def Cc(p1:Int)(a1:Int)(nx_f_slices_insertionSortOrdered_uint32_l1:List UInt32×Int→Option (List UInt32)):Nat→(List UInt32×Int)→Option (List UInt32):=CN fun nx x=>CK p1 a1 nx_f_slices_insertionSortOrdered_uint32_l1 nx x.1 x.2
def CJ(n:Nat)(p1:Int)(p2:Int)(nx_f_slices_insertionSortOrdered_uint32_l1:List UInt32×Int→Option (List UInt32))(l1:List UInt32)(a1:Int):Option (List UInt32):=
 cond (decide (a1<p2))
 (
  Cc p1 a1 nx_f_slices_insertionSortOrdered_uint32_l1 n (l1,a1))
 (
  some l1)
def BZ(n:Nat)(p1:Int)(p2:Int):Nat→(List UInt32×Int)→Option (List UInt32):=CN fun nx x=>CJ n p1 p2 nx x.1 x.2
def DE(n:Nat)(p0:List UInt32)(p1:Int)(p2:Int):Option (List UInt32):=
 ret (wI (p1+1)) fun i_1=>
 BZ n p1 p2 n (p0,i_1)
theorem Kq{n:Nat}{DA:Value}{p0 r:List UInt32}{p1 p2:Int}(h:DE n p0 p1 p2=some r): zC K w0 235 [DA,vI p1,vI p2] [AB 36 1 DA BD p0] H (fun u M=>u=.tuple #[]∧M=[AB 36 1 DA BD r]):=by
 unfold DE at h
 refine T3.enter Tryz.func235 rfl rfl ?_
 refine V ?_
 obtain⟨i_1,ei_1,h⟩:=Bu h
 refine J E (Z E Bh ?_)
 refine Ai (u:=vI i_1) E E (congrArg vI ei_1) ?_
 refine U (AM ?_)
 refine SX.heap (SX.mono (BF (α:=Nat×List UInt32×Int) (fun x=>BZ n p1 p2 x.1 (x.2.1,x.2.2)=some r) (fun x=>[(0,DA),(1,vI p1),(2,vI p2),(6,vI x.2.2)]) (fun x=>AB 36 1 DA BD x.2.1::H) (fun x=>x.1) (fun x D h=>?_) (n,p0,i_1) h) tL) (BN [0] 1 E E E)
 obtain⟨m1,l1,a1⟩:=x
 dsimp only at h
 rcases m1 with _ | m1
 cases (show(none:Option _)=some r from h)
 replace h:CJ n p1 p2 (BZ n p1 p2 m1) l1 a1=some r:=h
 unfold CJ at h
 try dsimp only
 refine AG (V (J E (J E (Z E A8 (U ?_)))))
 refine AL h E (fun hc1 h=>?_) fun hc1 h=>?_
 refine AI (AH ?_)
 refine A9 (α:=List UInt32) (fun x=>C0 a1 (BZ n p1 p2 m1) x=some r) (fun x=>[(0,DA),(1,vI p1),(2,vI p2),(6,vI a1)]) (fun x=>AB 36 1 DA BD x::H) ?_ (fun l2 D h=>?_)
 refine AM (V (J E (O E (U (AM ?_)))))
 refine SX.heap (SX.mono (BF (α:=Nat×List UInt32×Int) (fun x=>Cc p1 a1 (BZ n p1 p2 m1) x.1 (x.2.1,x.2.2)=some r) (fun x=>[(0,DA),(1,vI p1),(2,vI p2),(6,vI a1),(7,vI x.2.2)]) (fun x=>AB 36 1 DA BD x.2.1::H) (fun x=>x.1) (fun x D h=>?_) (n,l1,a1) h) tL) (BN [0] 1 E E E)
 obtain⟨m2,l3,a2⟩:=x
 dsimp only at h
 rcases m2 with _ | m2
 cases (show(none:Option _)=some r from h)
 replace h:CK p1 a1 (BZ n p1 p2 m1) (Cc p1 a1 (BZ n p1 p2 m1) m2) l3 a2=some r:=h
 unfold CK at h
 try dsimp only
 refine AG (AG ?_)
 refine AD h fun y2 hy2 h=>?_
 refine Av DH [0] (C7 [(true,0),(true,1),(true,2),(true,3),(true,4),(true,5),(true,6),(true,7),(true,8),(true,9),(true,10),(true,11),(true,12),(false,13),(false,14)]) zK (J E (J E (Z E Cu (J E ?_))))
 refine GM 19 11 30 hy2 E (fun hb hg1 k=>?_) (fun hb k=>?_) ?_
 obtain⟨x1,hx1,hg1⟩:=EE hg1
 obtain⟨x2,hx2,hg1⟩:=EE hg1
 obtain⟨y1,hy1,hg1⟩:=EE hg1
 obtain rfl:=zI hg1
 refine J E (J E ?_)
 refine B2 0 hx1 E CF Bd E E E fun g1 m3 cp1 hv1=>?_
 refine Bk E A2 E (Br (sz:=1) (enc:=BD) 0 0 zV E hv1 hx1 E) ?_
 refine J E (J E (Z E DI ?_))
 refine B2 0 hx2 E CF Bd E E E fun g2 m4 cp2 hv2=>?_
 refine Bk E A2 E (Br (sz:=1) (enc:=BD) 0 0 zV E hv2 hx2 E) ?_
 refine BP 0 px (T8 hy1) E ⟨⟨0,E⟩,zT⟩ (Ag E E E ?_)
 exact k.mono tL
 refine AC E (AC E (AC E (AC E (AC E (AC E (AC E (AC E ?_)))))))
 refine AC E (AC E (Ag E E E ?_))
 exact k.mono tL
 refine U ?_
 refine AL h E (fun hc2 h=>?_) fun hc2 h=>?_
 refine AI (AH (AG (AM ?_)))
 refine AD h fun x3 hx3 h=>?_
 refine AD h fun x4 hx4 h=>?_
 refine AD h fun x5 hx5 h=>?_
 refine AD h fun l4 hl4 h=>?_
 refine AD h fun x6 hx6 h=>?_
 refine AD h fun l5 hl5 h=>?_
 refine Av DH [] (CA [(true,0),(true,1),(true,2),(true,3),(true,4),(true,5),(true,6),(true,7),(true,8),(true,10),(true,11),(true,12)] (.alt 9 (CA [(false,13),(true,14),(false,15),(true,16)] (.last 17 .nil)) (.cons (false,13) (CA [(false,9),(true,14),(false,15),(true,16)] (.last 17 .nil))))) zK (J E (J E (J E (J E (Z E DI (J E (J E ?_)))))))
 refine Z E DI ?_
 refine B2 0 hx3 E CF Bd E E E fun g3 m5 cp3 hv3=>?_
 refine J E (J E ?_)
 refine B2 0 hx4 E CF Bd E E E fun g4 m6 cp4 hv4=>?_
 refine Po ?_ ?_
 refine Bk E A2 E (Br (sz:=1) (enc:=BD) 0 0 zV E hv3 hx3 E) ?_
 refine Bk E A2 E (Br (sz:=1) (enc:=BD) 0 0 zV E hv4 hx4 E) ?_
 refine B2 0 hx5 E CF Bd E E E fun g5 m7 cp5 hv5=>?_
 refine E7 (sz:=1) (enc:=BD) 0 hl4 zV rfl rfl rfl rfl rfl hv5 Bd (by first | (simp[Value.oneCell'];done) | simp[BD,Value.oneCell']) trivial ?_
 refine B2 0 hx6 E CF Bd E E E fun g6 m8 cp6 hv6=>?_
 refine BY ?_
 refine E7 (sz:=1) (enc:=BD) 0 hl5 zV rfl rfl rfl rfl rfl hv6 Bd (by first | (simp[Value.oneCell'];done) | simp[BD,Value.oneCell']) trivial ?_
 refine AY (Aj (AH (AN ?_)))
 obtain⟨j_1,ej_1,h⟩:=Bu h
 refine J E (Z E DI ?_)
 refine Ai (u:=vI j_1) E E (congrArg vI ej_1) ?_
 refine AY ?_
 exact Au (m2,l5,j_1) h (Nat.lt_succ_self _) tL (BN [0] 1 E E E)
 refine Bk E A2 E (Br (sz:=1) (enc:=BD) 0 0 zV E hv4 hx4 E) ?_
 refine Bk E A2 E (Br (sz:=1) (enc:=BD) 0 0 zV E hv3 hx3 E) ?_
 refine B2 0 hx5 E CF Bd E E E fun g5 m7 cp5 hv5=>?_
 refine E7 (sz:=1) (enc:=BD) 0 hl4 zV rfl rfl rfl rfl rfl hv5 Bd (by first | (simp[Value.oneCell'];done) | simp[BD,Value.oneCell']) trivial ?_
 refine B2 0 hx6 E CF Bd E E E fun g6 m8 cp6 hv6=>?_
 refine BY ?_
 refine E7 (sz:=1) (enc:=BD) 0 hl5 zV rfl rfl rfl rfl rfl hv6 Bd (by first | (simp[Value.oneCell'];done) | simp[BD,Value.oneCell']) trivial ?_
 refine AY (Aj (AH (AN ?_)))
 obtain⟨j_1,ej_1,h⟩:=Bu h
 refine J E (Z E DI ?_)
 refine Ai (u:=vI j_1) E E (congrArg vI ej_1) ?_
 refine AY ?_
 exact Au (m2,l5,j_1) h (Nat.lt_succ_self _) tL (BN [0] 1 E E E)
 refine A1 (A6 (Ba (A7 (Aj ?_))))
 exact Aq l3 h tL (BN [0] 1 E E E)
 unfold C0 at h
 try dsimp only
 refine AN ?_
 obtain⟨i_2,ei_2,h⟩:=Bu h
 refine J E (Z E Bh ?_)
 refine Ai (u:=vI i_2) E E (congrArg vI ei_2) ?_
 refine AY ?_
 exact Au (m1,l2,i_2) h (Nat.lt_succ_self _) tL (BN [0] 1 E E E)
 refine A1 (A6 (Ba (A7 ?_)))
 obtain rfl:=zI h
 exact DF (Dr E) (Ad (M:=[_]) ⟨E,E⟩ fun _ hw=>BX.pick (H:=[_]) hw [0] 1 E)
def DG(n:Nat)(nx_f_slices_pdqsortOrdered_uint32_l1:List UInt32×Int×Int×Int×Bool×Bool→Option (List UInt32))(l1:List UInt32)(a1:Int)(a2:Int)(a3:Int)(a4:Bool)(a5:Bool):Option (List UInt32):=
 ret (wI (a2-a1)) fun length_1=>
 cond (decide (length_1≤12))
 (
  (DE n l1 a1 a2).bind fun y1=>
  some y1)
 (
  cond (decide (a3=0))
  (
   none)
  (
   none))
def Dx(n:Nat):Nat→(List UInt32×Int×Int×Int×Bool×Bool)→Option (List UInt32):=CN fun nx x=>DG n nx x.1 x.2.1 x.2.2.1 x.2.2.2.1 x.2.2.2.2.1 x.2.2.2.2.2
def EK(n:Nat)(p0:List UInt32)(p1:Int)(p2:Int)(p3:Int):Option (List UInt32):=
 Dx n n (p0,p1,p2,p3,true,true)
theorem NJ{n:Nat}{DA:Value}{p0 r:List UInt32}{p1 p2 p3:Int}(h:EK n p0 p1 p2 p3=some r): zC K w0 207 [DA,vI p1,vI p2,vI p3] [AB 36 1 DA BD p0] H (fun u M=>u=.tuple #[]∧M=[AB 36 1 DA BD r]):=by
 unfold EK at h
 refine T3.enter Tryz.func207 rfl rfl ?_
 refine V (O E (U (V (O E (U (AM ?_))))))
 refine SX.heap (SX.mono (BF (α:=Nat×List UInt32×Int×Int×Int×Bool×Bool) (fun x=>Dx n x.1 (x.2.1,x.2.2.1,x.2.2.2.1,x.2.2.2.2.1,x.2.2.2.2.2.1,x.2.2.2.2.2.2)=some r) (fun x=>[(0,DA),(1,vI x.2.2.1),(2,vI x.2.2.2.1),(3,vI x.2.2.2.2.1),(8,vB x.2.2.2.2.2.1),(9,vB x.2.2.2.2.2.2)]) (fun x=>AB 36 1 DA BD x.2.1::H) (fun x=>x.1) (fun x D h=>?_) (n,p0,p1,p2,p3,true,true) h) tL) (BN [0] 1 E E E)
 obtain⟨m1,l1,a1,a2,a3,a4,a5⟩:=x
 dsimp only at h
 rcases m1 with _ | m1
 cases (show(none:Option _)=some r from h)
 replace h:DG n (Dx n m1) l1 a1 a2 a3 a4 a5=some r:=h
 unfold DG at h
 try dsimp only
 refine AM (V ?_)
 obtain⟨length_1,elength_1,h⟩:=Bu h
 refine J E (J E (Z E DI ?_))
 refine Ai (u:=vI length_1) E E (congrArg vI elength_1) ?_
 refine U (AG (V (J E (Z E JN (U ?_)))))
 refine AL h E (fun hc1 h=>?_) fun hc1 h=>?_
 refine V ?_
 refine AD h fun y1 hy1 h=>?_
 refine J E (J E (J E (AP 1 pw (Kq hy1) E (U (AJ (Ab (BC (EB (BC ?_)))))))))
 obtain rfl:=zI h
 exact AW [0] 1 E E E
 refine AI (AH (AG (V (J E (Z E Bq (U ?_))))))
 refine AL h E (fun hc2 h=>?_) fun hc2 h=>?_
 cases h
 cases h
def Dy(n:Nat)(p0:List UInt32):Option (List UInt32):=
 (IT (Cq (p0.length:Int))).bind fun y1=>
 (EK n p0 0 (p0.length:Int) y1).bind fun y2=>
 some y2
theorem OH{n:Nat}{DA:Value}{p0 r:List UInt32}(h:Dy n p0=some r): zC K w0 178 [DA] [AB 36 1 DA BD p0] H (fun u M=>u=.tuple #[]∧M=[AB 36 1 DA BD r]):=by
 unfold Dy at h
 refine T3.enter Tryz.func178 rfl rfl ?_
 refine V (J E (Dj 0 E CF E E (O E (U (AN ?_)))))
 refine AD h fun y1 hy1 h=>?_
 refine AD h fun y2 hy2 h=>?_
 refine J E (J E (J E (BG E E (E6 Jg Pf) (AP 0 pb (Vt hy1) E (AP 1 pZ (NJ hy2) E (AY ?_))))))
 obtain rfl:=zI h
 exact DF (Dr E) (Ad (M:=[_]) ⟨E,E⟩ fun _ hw=>BX.pick (H:=[_]) hw [0] 1 E)
end

section
variable {K:Nat→Prop}{w0:World}{H:List AV}
def fr(p:Int×UInt32):List Value:=[vI p.1,Y p.2]
def QH(ss:List UInt32):List (Int×UInt32):=ss.zipIdx.map fun q=>((q.2:Int),q.1)
theorem ZJ(ss:List UInt32):(QH ss).length=ss.length:=by simp[QH]
theorem fu{ss:List UInt32}{i:Nat}{p:UInt32}(h:ss[i]? = some p):(QH ss)[i]? = some ((i:Int),p):=by simp[QH,h]
abbrev il(b mp mb:Nat)(v:Value)(d:Af)(T:List AV):List AV:=
 own b (.cells #[vB d.off,vB d.isCut,vI d.lasts,vI d.counts,v,.map (some mp),.map (some mb),AT d.rcnt,vS d.rtag,Y d.rboots] 102)::AB 9 1 v eS d.blocks::Aa mp Y vS d.pend::Aa mb Y vB d.bad::T
theorem gO(b mp mb bx:Nat)(vb:Value)(d:Af)(G1:List AV)(ss:List UInt32)(hss:∀ks,ks.Perm (d.pend.map (·.1))→∃n,Dy n ks=some ss)(hlen:d.pend.length≤1073741824)(hlen2:ss.length≤1073741824):
  OF Tryz.prog K w0 177 [vP bx 0] [own bx (.cells #[vP b 0] 26)] (il b mp mb vb d G1) fr (QH ss):=by
 intro lp J9 X T rc hy h0
 refine T3.enter Tryz.func177 rfl rfl ?_
 show SX _ _ _ _ _ _ _ _ _ (own bx (.cells #[vP b 0] 26)::rc::il b mp mb vb d (G1++T))
 refine V (CB 36 1 BD (O E (U (AG (V (AF 1 MZ E (AQ E E (AE E VG (AF 3 jF E ?_)))))))))
 refine n9 5 E jJ E E (fun it=>trivial) fun it=>?_
 refine U (AM ?_)
 refine SX.mono (BF (α:=List (UInt32×List UInt8)×Value) (fun _=>True) (fun x=>[(0,vY lp),(3,x.2),(11,vP it 0)])
  (fun x=>AB 36 1 x.2 BD (x.1.map (·.1))::own bx (.cells #[vP b 0] 26)::rc::own b (.cells #[vB d.off,vB d.isCut,vI d.lasts,vI d.counts,vb,.map (some mp),.map (some mb),AT d.rcnt,vS d.rtag,Y d.rboots] 102)::AB 9 1 vb eS d.blocks::Nj mp it Y vS d.pend x.1::Aa mb Y vB d.bad::(G1++T))
  (fun x=>d.pend.length-x.1.length) (fun x D hp=>?_) ([],zN) trivial) tL
 obtain⟨done,v⟩:=x
 dsimp only
 refine V ?_
 refine n7 5 (T4 CP) E E E zT (fun hperm=>?_) (fun p hp hlt=>⟨zT,?_⟩)
 refine Ac E E E (U (AG (Cx E (A1 (A6 (Ba (A7 (AH (jX 5 E ?_)))))))))
 obtain⟨n,hn⟩:=hss (done.map (·.1)) (hperm.map _)
 refine V (J E (AP 1 pH (OH hn) E (U (V (J E (Dj 0 E CF E E (J E (U (AM ?_)))))))))
 refine SX.mono (BF (α:=Nat×List AV) (fun x=>x.1≤ss.length∧J9 ((QH ss).take x.1) x.2) (fun x=>[(0,vY lp),(22,v),(23,vI ss.length),(24,vI x.1)])
  (fun x=>AB 36 1 v BD ss::own bx (.cells #[vP b 0] 26)::(x.2++T)) (fun x=>ss.length-x.1) (fun x D hp=>?_) (0,rc::il b mp mb vb d G1) ⟨Nat.zero_le _,h0⟩) tL
 obtain⟨i,G⟩:=x
 obtain⟨hi,hJ⟩:=hp
 dsimp only at hi hJ ⊢
 refine V (Z E A8 (U (AG ?_)))
 refine Ax E (fun hc2=>?_) (fun hc2=>?_)
 have hlt:i<ss.length:=by simpa using hc2
 have hg:ss[i]? = some ss[i]:=List.getElem?_eq_getElem hlt
 have hn2:BB ss (i:Int)=some ss[i]:=by simp[BB,hlt]
 have hge:=fu hg
 generalize ss[i]=p at hg hn2 hge
 refine AI (AH (AG (AM (V (J E ?_)))))
 refine B2 0 hn2 E CF Bd E E E fun g m cp hv=>?_
 refine Bk E A2 E (Br (sz:=1) (enc:=BD) 0 0 zV E hv hn2 E) ?_
 refine O E (O E (U (V (J E (J E (J E ?_))))))
 refine HK (M2:=[_,_]) (G:=G) (T:=T) (vs:=[_,_]) (ok:=fun G1=>J9 ((QH ss).take (i+1)) G1) (no:=X) E E ⟨E,E,zT⟩ E ?_ (fun bb G1 hG1=>⟨zT,?_⟩)
 intro M
 have:=hy _ _ _ (FH hge).1 G hJ M
 rw[←(FH hge).2]at this
 exact this
 refine CT E E (U ?_)
 refine Ax E (fun hc3=>?_) (fun hc3=>?_)
 obtain rfl:bb=false:=by simpa using hc3
 refine AJ (BC (Ab (EB (BC ?_))))
 exact Ae (Dr E) (Ad (M:=G1) (.inr hG1) fun _ h=>h.skip [_,_])
 obtain rfl:bb=true:=by simpa using hc3
 refine AI (Aj (AH (AN (Z E (Bf zO zO) (J E (AY ?_))))))
 exact Au (i+1,G1) ⟨hlt,hG1⟩ (by dsimp only;omega) tL (fun _ h=>h)
 have hle:i=ss.length:=by simp at hc2;omega
 refine A1 (A6 (Ba (A7 ?_)))
 exact DF (Dr E) (Ad (M:=G) (.inl (by rw[List.take_of_length_le (by rw[ZJ];omega)]at hJ;exact hJ)) fun _ h=>h.skip [_,_])
 refine Ac E E E (U (AG (Qa E (AI (AH (AM (V (nz 5 E E E (Ac E E E (O E (U (AN (J E (J E ?_))))))))))))))
 refine CD [_] E CF Bd H8 ⟨E,zT⟩ E E E zX E E zU fun b0=>?_
 refine CH BD 1 ([p.1]:List UInt32) E zV E ?_
 have hl:DR 4 (done.map (·.1)) [p.1]=some ((done++[p]).map (·.1)):=by
  simp only[DR,List.length_map,List.length_cons,List.length_nil,List.map_append,List.map_cons,List.map_nil]
  rw[if_pos ⟨by omega,by omega⟩]
 refine C5 1 hl (sz:=1) (enc:=BD) zV E CF Bd Qc H8 E zD E E E E (CL (sz:=1) (enc:=BD) 0 zV E) (by simp[BD,Value.oneCell']) zU fun v2=>?_
 refine O E (AY (Aj ?_))
 exact Au (done++[p],v2) zT zQ tL (fun _ h=>h.skip [_])
theorem fb(b:Nat):zC K w0 156 [vP b 0] [] H (fun u M=>∃bx,u=.func (.func 177) #[] #[vP bx 0]∧M=[own bx (.cells #[vP b 0] 26)]):=by
 refine T3.enter Tryz.func156 rfl rfl ?_
 refine V ?_
 refine Bc E E zU fun b0=>?_
 refine O E (U (V ?_))
 refine GZ (fv:=#[]) (cv:=#[_]) E E E ?_
 refine O E (U (AJ ?_))
 exact Ae (C1 E E) (Ad (M:=[_]) ⟨_,E,E⟩ fun _ h=>h.skip [])
end

section
theorem mW(a b:UInt32):G3 a b=some (decide (a<b)):=by
 simp[G3,GO,ret,It]
def Mb:List UInt32→UInt32→List UInt32
 | [],x=>[x]
 | y::r,x=>if x<y then y::Mb r x else x::y::r
theorem Pc:∀(r:List UInt32) (x:UInt32),(Mb r x).Perm (x::r)
 | [],x=>.refl _
 | y::r,x=>by
  unfold Mb
  split
  exact((Pc r x).cons y).trans (.swap _ _ _)
  exact .refl _
theorem Vd:∀(r:List UInt32) (x:UInt32),r.Pairwise (fun a b=>b≤a)→(Mb r x).Pairwise (fun a b=>b≤a)
 | [],x,_=>by simp[Mb]
 | y::r,x,h=>by
  obtain⟨h1,h2⟩:=List.pairwise_cons.1 h
  unfold Mb
  split
  rename_i hlt
  refine List.pairwise_cons.2 ⟨fun z hz=>?_,Vd r x h2⟩
  rcases List.mem_cons.1 ((Pc r x).mem_iff.1 hz)with rfl | hz
  exact UInt32.le_of_lt hlt
  exact h1 z hz
  rename_i hge
  refine List.pairwise_cons.2 ⟨fun z hz=>?_,h⟩
  have hyx:y≤x:=UInt32.not_lt.1 hge
  rcases List.mem_cons.1 hz with rfl | hz
  exact hyx
  exact UInt32.le_trans (h1 z hz) hyx
theorem Wt:∀(l r:List UInt32),(l.foldl Mb r).Perm (l++r)
 | [],r=>.refl _
 | x::l,r=>(Wt l (Mb r x)).trans (((Pc r x).append_left l).trans List.perm_middle)
theorem T0:∀(l r:List UInt32),r.Pairwise (fun a b=>b≤a)→(l.foldl Mb r).Pairwise (fun a b=>b≤a)
 | [],_,h=>h
 | x::l,r,h=>T0 l (Mb r x) (Vd r x h)
theorem Ve{a b:List UInt32}(hp:a.Perm b)(ha:a.Pairwise (fun x y=>decide (x≤y)=true))(hb:b.Pairwise (fun x y=>decide (x≤y)=true)):a=b:=
 List.Perm.eq_of_pairwise (fun x y _ _ h1 h2=>UInt32.le_antisymm (of_decide_eq_true h1) (of_decide_eq_true h2)) ha hb hp
theorem US(l:List UInt32):(l.mergeSort fun a b=>decide (a≤b)).Pairwise (fun x y=>decide (x≤y)=true):=
 List.pairwise_mergeSort (le:=fun a b:UInt32=>decide (a≤b)) (fun a b c h1 h2=>zt (UInt32.le_trans (of_decide_eq_true h1) (of_decide_eq_true h2))) (fun a b=>by
  rcases UInt32.le_total a b with h | h
  exact(by simp[h])
  exact(by simp[h])) l
theorem UP{a b:List UInt32}(h:a.Perm b):(a.mergeSort fun a b=>decide (a≤b))=b.mergeSort fun a b=>decide (a≤b):=
 Ve ((List.mergeSort_perm a _).trans (h.trans (List.mergeSort_perm b _).symm)) (US a) (US b)
theorem kR(l:List UInt32):(l.foldl Mb []).reverse=l.mergeSort fun a b=>decide (a≤b):=by
 refine Ve ?_ ?_ (US l)
 exact(List.reverse_perm _).trans ((show(l.foldl Mb []).Perm l by simpa using Wt l []).trans (List.mergeSort_perm l _).symm)
 rw[List.pairwise_reverse]
 exact(T0 l [] List.Pairwise.nil).imp fun h=>zt h
theorem i4(nx1:List UInt32×Int→Option (List UInt32))(a1:Int)(x:UInt32)(B:List UInt32):∀(R:List UInt32) (m:Nat),R.length<m→R.length<4611686018427387904→
  Cc 0 a1 nx1 m (R.reverse++x::B,(R.length:Int))=C0 a1 nx1 ((Mb R x).reverse++B)
 | [],m,hm,_=>by
  obtain⟨m,rfl⟩:∃k,m=k+1:=⟨m-1,by simp at hm;omega⟩
  show CK 0 a1 nx1 (Cc 0 a1 nx1 m) (x::B) 0=_
  unfold CK
  simp[It,Mb]
 | y::R,m,hm,hb=>by
  obtain⟨m,rfl⟩:∃k,m=k+1:=⟨m-1,by simp at hm;omega⟩
  simp only[List.length_cons]at hm hb
  have ih:=i4 nx1 a1 x (y::B) R m zO zO
  show CK 0 a1 nx1 (Cc 0 a1 nx1 m) ((y::R).reverse++x::B) (((R.length+1:Nat)):Int)=_
  have hw:wI (((R.length+1:Nat):Int)-1)=(R.length:Int):=by rw[Cm zO zO];omega
  have e1:BB ((y::R).reverse++x::B) (((R.length+1:Nat)):Int)=some x:=by
   rw[Dp,List.getElem?_append_right zS];simp
  have e2:BB ((y::R).reverse++x::B) (R.length:Int)=some y:=by
   rw[Dp,List.getElem?_append_left zS];simp
  have hpos:(0:Int)<((R.length+1:Nat):Int):=zO
  unfold CK
  rw[hw,e1,e2,zt hpos]
  simp only[It,mW,Cs,AA]
  by_cases hlt:x<y
  rw[zt hlt]
  simp only[Cs]
  have e3:Ma ((y::R).reverse++x::B) (((R.length+1:Nat)):Int) y=some (R.reverse++y::y::B):=by
   rw[Je rfl zS]
   simp
  have e4:BB (R.reverse++y::y::B) (R.length:Int)=some y:=by
   rw[Dp,List.getElem?_append_right zS];simp
  have e5:Ma (R.reverse++y::y::B) (R.length:Int) x=some (R.reverse++x::y::B):=by
   rw[Je rfl zS]
   simp
  rw[e3]
  simp only[AA]
  rw[e4,e5]
  simp only[AA,Be]
  rw[ih]
  simp[Mb,hlt]
  rw[zf hlt]
  simp only[B0]
  simp[Mb,hlt]
theorem i3(n:Nat)(N:Nat)(hn:N<n)(hN:N<4611686018427387904):∀(B R:List UInt32) (m:Nat),R.length+B.length=N→B.length<m→
  BZ n 0 (N:Int) m (R.reverse++B,(R.length:Int))=some (B.foldl Mb R).reverse
 | [],R,m,hl,hm=>by
  obtain⟨m,rfl⟩:∃k,m=k+1:=⟨m-1,by simp at hm;omega⟩
  show CJ n 0 (N:Int) (BZ n 0 (N:Int) m) (R.reverse++[]) (R.length:Int)=_
  unfold CJ
  have:¬((R.length:Int)<(N:Int)):=by simp at hl;omega
  rw[zf this]
  simp
 | x::B,R,m,hl,hm=>by
  obtain⟨m,rfl⟩:∃k,m=k+1:=⟨m-1,by simp at hm;omega⟩
  simp only[List.length_cons]at hl hm
  have ih:=i3 n N hn hN B (Mb R x) m (by rw[(Pc R x).length_eq];simp only[List.length_cons];omega) zO
  show CJ n 0 (N:Int) (BZ n 0 (N:Int) m) (R.reverse++x::B) (R.length:Int)=_
  unfold CJ
  have:(R.length:Int)<(N:Int):=zO
  rw[zt this,Cs,i4 _ _ x B R n zO zO]
  unfold C0
  rw[Be,Cm zO zO]
  have e:(R.length:Int)+1=((Mb R x).length:Int):=by rw[(Pc R x).length_eq];simp
  rw[e,ih]
  rfl
theorem mU(l:List UInt32)(hl:l.length<4611686018427387904):DE (l.length+1) l 0 (l.length:Int)=some (l.mergeSort fun a b=>decide (a≤b)):=by
 unfold DE
 rw[Be,←kR]
 show BZ (l.length+1) 0 (l.length:Int) (l.length+1) (l,wI (0+1))=_
 rw[Cm zO zO]
 cases l with
 | nil=>rfl
 | cons x r=>
  have:=i3 ((x::r).length+1) ((x::r).length) zO hl r [x] ((x::r).length+1) zQ zQ
  simpa[Mb]using this
theorem jc{α:Type}{L:List UInt8}(hL:L.length=256)(k:UInt8){f:UInt8→Option α}(hf:∀c,∃r,f c=some r):∃r,(BB L (k.toNat:Int)).bind f=some r:=by
 have hk:k.toNat<L.length:=by have:=k.toNat_lt;omega
 rw[Dp,List.getElem?_eq_getElem hk,AA]
 exact hf _
theorem Zk(a:UInt64)(b:Int):∃r,Eo a b=some r:=by
 unfold Eo
 exact jc zK _ (fun c=>⟨_,by rw[Be]⟩)
theorem Zj(a:UInt64)(b:Int):∃r,En a b=some r:=by
 unfold En
 cases decide (256≤a)
 exact Zk _ _
 rw[Cs,Be,Be];exact Zk _ _
theorem Zi(a:UInt64)(b:Int):∃r,Em a b=some r:=by
 unfold Em
 cases decide (65536≤a)
 exact Zj _ _
 rw[Cs,Be,Be];exact Zj _ _
theorem d9(x:UInt64):∃r,IT x=some r:=by
 have h:∃r,G6 x=some r:=by
  unfold G6
  cases decide (4294967296≤x)
  exact Zi _ _
  rw[Cs,Be];exact Zi _ _
 obtain⟨r,hr⟩:=h
 exact⟨r,by unfold IT;rw[hr,AA]⟩
theorem ee(ks:List UInt32)(h:ks.length≤12):∃n,Dy n ks=some (ks.mergeSort fun a b=>decide (a≤b)):=by
 refine⟨ks.length+1,?_⟩
 obtain⟨r,hr⟩:=d9 (Cq (ks.length:Int))
 unfold Dy
 rw[hr,AA]
 have h1:EK (ks.length+1) ks 0 (ks.length:Int) r=some (ks.mergeSort fun a b=>decide (a≤b)):=by
  show DG (ks.length+1) (Dx (ks.length+1) ks.length) ks 0 (ks.length:Int) r true true=_
  unfold DG
  rw[Be,Int.sub_zero,Cm zO zO,zt zO,Cs,mU ks zO,AA]
 rw[h1,AA]
end

section
variable {K:Nat→Prop}{w0:World}{H:List AV}
def P2{α:Type}(m:List (UInt32×α)):List UInt32:=(m.map (·.1)).mergeSort fun a b=>decide (a≤b)
def XT(d:Af):Option (List (Int×UInt32)):=if d.pend.length≤12 then some (QH (P2 d.pend))else none
theorem mu{b mp mb bx:Nat}{vb:Value}{d:Af}{G1:List AV}{xs:List (Int×UInt32)}(h:XT d=some xs):
  OF Tryz.prog K w0 177 [vP bx 0] [own bx (.cells #[vP b 0] 26)] (il b mp mb vb d G1) fr xs:=by
 unfold XT at h
 split at h
 rename_i hl
 obtain rfl:=zI h
 refine gO b mp mb bx vb d G1 (P2 d.pend) (fun ks hk=>?_) zO (by simp[P2];omega)
 obtain⟨n,hn⟩:=ee ks (by rw[hk.length_eq];simpa using hl)
 exact⟨n,by rw[hn,UP hk];rfl⟩
 cases h
def WO(_:Af):Option Unit:=some ()
theorem gi{b:Nat}{d:Af}{r:Unit}(_:WO d=some r):zC K w0 156 [vP b 0] [] H (fun u M=>∃bx:Nat,u=.func (.func 177) #[] #[vP bx 0]∧M=[own bx (.cells #[vP b 0] 26)]):=fb b
end

section
variable {K:Nat→Prop}{w0:World}{H:List AV}
def Pw(p0:Af):Option (UInt32×Int×Af):=
 ret (decide (p0.rboots=4294967295)) fun x1=>
 cond x1
 (
  some (0,72,p0))
 (
  (Dl p0).bind fun y1=>
  cond (!decide (y1.1=0))
  (
   some (0,y1.1,y1.2))
  (
   ret (y1.2.rboots+1) fun x2=>
   some (x2,0,{ y1.2 with rboots:=y1.2.rboots+1 })))
theorem dO{Ao BA B7:Nat}{B8:Value}{p0:Af}{r:UInt32×Int×Af}(h:Pw p0=some r): zC K w0 80 [vP Ao 0] [own Ao (.cells #[vB p0.off,vB p0.isCut,vI p0.lasts,vI p0.counts,B8,.map (some BA),.map (some B7),AT p0.rcnt,vS p0.rtag,Y p0.rboots] 102),AB 9 1 B8 eS p0.blocks,Aa BA Y vS p0.pend,Aa B7 Y vB p0.bad] H (fun u M=>u=.tuple #[Y r.1,vI r.2.1]∧M=[own Ao (.cells #[vB r.2.2.off,vB r.2.2.isCut,vI r.2.2.lasts,vI r.2.2.counts,B8,.map (some BA),.map (some B7),AT r.2.2.rcnt,vS r.2.2.rtag,Y r.2.2.rboots] 102),AB 9 1 B8 eS r.2.2.blocks,Aa BA Y vS r.2.2.pend,Aa B7 Y vB r.2.2.bad]):=by
 unfold Pw at h
 refine T3.enter Tryz.func80 rfl rfl ?_
 refine V (O E (O E (U (AG (AM (V (J E (EL E Wu E E (O E (U (Cx E (V ?_))))))))))))
 obtain⟨x1,ex1,h⟩:=Bu h
 refine J E (AQ E E (AE E Lh (AE E Py (AF 0 A2 E ?_))))
 refine Z E (NO (b:=4294967295)) ?_
 refine Ai (u:=vB x1) E E (congrArg vB ex1) ?_
 refine U ?_
 refine AL h E (fun hc2 h=>?_) fun hc2 h=>?_
 refine V (O E (O E (U (AJ (BC (Ab ?_))))))
 obtain rfl:=zI h
 exact AW [0,1,2,3] 4 E E E
 refine AI (Aj (AH (AG (V ?_))))
 refine AD h fun y1 hy1 h=>?_
 refine J E (AQ E E (AE E VE (AP 4 XF ((HL hy1 :)) E (O E (U (V (J E (Z E BJ (U ?_)))))))))
 refine AL h E (fun hc3 h=>?_) fun hc3 h=>?_
 refine V (J E (O E (O E (U (AJ (Ab ?_))))))
 obtain rfl:=zI h
 exact AW [0,1,2,3] 4 E E E
 refine AI (AH (V (J E (AQ E E (AE E Lh (AE E Py (AF 0 A2 E ?_)))))))
 refine Z E (B1 (b:=1)) ?_
 refine AQ E E (AE E Lh (AE E Py (A5 0 E E E E Bd E E E zT (U (V ?_)))))
 obtain⟨x2,ex2,h⟩:=Bu h
 refine J E (AQ E E (AE E Lh (AE E Py (AF 0 A2 E ?_))))
 refine Ai (u:=Y x2) E E (congrArg Y ex2) ?_
 refine O E (U (AJ ?_))
 obtain rfl:=zI h
 exact AW [0,1,2,3] 4 E E E
def Ku(y1:Int×Af)(o1:Af):Option (Int×Af):=
 some (y1.1,o1)
def La(p0:Af)(p1:List UInt8):Option (Int×Af):=
 ret (!decide ((p1.length:Int)=32)) fun x1=>
 cond x1
 (
  some (2,p0))
 (
  ret (decide (p0.rcnt=18446744073709551615)) fun x2=>
  cond x2
  (
   some (72,p0))
  (
   (Dl p0).bind fun y1=>
   cond (decide (y1.1=0))
   (
    Ku y1 ({ y1.2 with rcnt:=y1.2.rcnt+1,rtag:=p1 }))
   (
    Ku y1 y1.2)))
theorem QB{Ao BA B7:Nat}{B8:Value}{p0:Af}{p1:List UInt8}{r:Int×Af}(h:La p0 p1=some r): zC K w0 123 [vP Ao 0,vS p1] [own Ao (.cells #[vB p0.off,vB p0.isCut,vI p0.lasts,vI p0.counts,B8,.map (some BA),.map (some B7),AT p0.rcnt,vS p0.rtag,Y p0.rboots] 102),AB 9 1 B8 eS p0.blocks,Aa BA Y vS p0.pend,Aa B7 Y vB p0.bad] H (fun u M=>u=vI r.1∧M=[own Ao (.cells #[vB r.2.off,vB r.2.isCut,vI r.2.lasts,vI r.2.counts,B8,.map (some BA),.map (some B7),AT r.2.rcnt,vS r.2.rtag,Y r.2.rboots] 102),AB 9 1 B8 eS r.2.blocks,Aa BA Y vS r.2.pend,Aa B7 Y vB r.2.bad]):=by
 unfold La at h
 refine T3.enter Tryz.func123 rfl rfl ?_
 refine V (O E (U (AG (AM (V (J E (EL E Wu E E (O E (U (Cx E (V ?_)))))))))))
 obtain⟨x1,ex1,h⟩:=Bu h
 refine J E (Bw E Cj E (Z E BJ ?_))
 refine Ai (u:=vB x1) E E (congrArg vB ex1) ?_
 refine U ?_
 refine AL h E (fun hc2 h=>?_) fun hc2 h=>?_
 refine V (O E (U (AJ (BC (Ab ?_)))))
 obtain rfl:=zI h
 exact AW [0,1,2,3] 4 E E E
 refine V ?_
 obtain⟨x2,ex2,h⟩:=Bu h
 refine J E (AQ E E (AE E Lh (AE E Px (AF 0 HJ E ?_))))
 refine Z E (MO (b:=18446744073709551615)) ?_
 refine Ai (u:=vB x2) E E (congrArg vB ex2) ?_
 refine U ?_
 refine AL h E (fun hc3 h=>?_) fun hc3 h=>?_
 refine V (O E (U (AJ (BC (Ab ?_)))))
 obtain rfl:=zI h
 exact AW [0,1,2,3] 4 E E E
 refine AI (Aj (AH (V ?_)))
 refine AD h fun y1 hy1 h=>?_
 refine J E (AQ E E (AE E VE (AP 4 XF ((HL hy1 :)) E (O E (U ?_)))))
 refine A9 (α:=Af) (fun x=>Ku y1 x=some r) (fun x=>[(0,vP Ao 0),(5,vI y1.1)]) (fun x=>own Ao (.cells #[vB x.off,vB x.isCut,vI x.lasts,vI x.counts,B8,.map (some BA),.map (some B7),AT x.rcnt,vS x.rtag,Y x.rboots] 102)::AB 9 1 B8 eS x.blocks::Aa BA Y vS x.pend::Aa B7 Y vB x.bad::H) ?_ (fun o1 D h=>?_)
 refine V (J E (Z E Bq (U ?_)))
 refine AL h E (fun hc4 h=>?_) fun hc4 h=>?_
 refine V (J E (AQ E E (AE E Lh (AE E Px (AF 0 HJ E ?_)))))
 refine Z E (H9 (b:=1)) ?_
 refine AQ E E (AE E Lh (AE E Px (A5 0 E E E E jH E E E zT (U (AN (J E (J E (AQ E E (AE E Lh ?_)))))))))
 refine AE E bQ (A5 0 E E E E HS E E E zT (AY ?_))
 exact Aq ({ y1.2 with rcnt:=y1.2.rcnt+1,rtag:=p1 }) h tL (BN [0,1,2,3] 4 rfl rfl rfl)
 refine AI ?_
 exact Aq y1.2 h tL (BN [0,1,2,3] 4 E E E)
 unfold Ku at h
 try dsimp only
 refine V (J E (O E (U (AJ ?_))))
 obtain rfl:=zI h
 exact AW [0,1,2,3] 4 E E E
def Fz(p0:Af):Option cu:=
 some (⟨p0.rcnt,p0.rtag,p0.rboots⟩:cu)
theorem Mi{Ao BA B7:Nat}{B8:Value}{p0:Af}{r:cu}(h:Fz p0=some r): zC K w0 14 [vP Ao 0] [own Ao (.cells #[vB p0.off,vB p0.isCut,vI p0.lasts,vI p0.counts,B8,.map (some BA),.map (some B7),AT p0.rcnt,vS p0.rtag,Y p0.rboots] 102),AB 9 1 B8 eS p0.blocks,Aa BA Y vS p0.pend,Aa B7 Y vB p0.bad] H (fun u M=>u=.agg (im r).toArray∧M=[own Ao (.cells #[vB p0.off,vB p0.isCut,vI p0.lasts,vI p0.counts,B8,.map (some BA),.map (some B7),AT p0.rcnt,vS p0.rtag,Y p0.rboots] 102),AB 9 1 B8 eS p0.blocks,Aa BA Y vS p0.pend,Aa B7 Y vB p0.bad]):=by
 unfold Fz at h
 refine T3.enter Tryz.func14 rfl rfl ?_
 refine V ?_
 refine Al E rG zU fun b1=>?_
 refine U (AG (V (J rfl (EL rfl Wu rfl rfl (U (Cx rfl (AI (AH (V (J rfl (AQ rfl rfl (AE rfl Lh (Ap [AT p0.rcnt,vS p0.rtag,Y p0.rboots] rfl qz rfl rfl (Cw 1 rfl (by rintro(_ | (_ | (_ | j))) u hj<;>first | exact hj | exact absurd hj zS)) (A5 0 rfl rfl rfl rfl uW rfl rfl rfl trivial (U (AJ ?_))))))))))))))))
 obtain rfl:=zI h
 exact Ae (IK E (B9 0 (im (⟨p0.rcnt,p0.rtag,p0.rboots⟩:cu)) qz E E E E)) (Ad (M:=[_,_,_,_]) ⟨E,E⟩ fun _ hw=>BX.pick (H:=[_,_,_,_,_]) hw [1,2,3,4] 5 E)
def Mo(y1:Int×Af)(o1:Af):Option (Int×Af):=
 some (y1.1,o1)
def PG(y1:Int×Af)(o2:Af):Option (Int×Af):=
 Mo y1 ({ o2 with pend:=[] })
def PH(y1:Int×Af)(o3:Af):Option (Int×Af):=
 PG y1 o3
def IS(y1:Int×Af)(nx_f_dd_Flush_r1:Af→Option (Int×Af))(e1:Int×UInt32)(o3:Af):Option (Int×Af):=
 (BB o3.blocks (e1.2.toNat:Int)).bind fun x1=>
 (Ma o3.blocks (e1.2.toNat:Int) ((Cd o3.pend e1.2).getD [])).bind fun l1=>
 nx_f_dd_Flush_r1 ({ o3 with blocks:=l1 })
def KK(y1:Int×Af):List (Int×UInt32)→Af→Option (Int×Af):=TR (fun nx e x=>IS y1 nx e x) (fun x=>PH y1 x)
def Iv(p0:Af):Option (Int×Af):=
 (Dl p0).bind fun y1=>
 cond (decide (y1.1=0))
 (
  (WO y1.2).bind fun y2=>
  (XT y1.2).bind fun xs1=>
  KK y1 xs1 y1.2)
 (
  Mo y1 y1.2)
theorem Pr{Ao BA B7:Nat}{B8:Value}{p0:Af}{r:Int×Af}(h:Iv p0=some r): zC K w0 118 [vP Ao 0] [own Ao (.cells #[vB p0.off,vB p0.isCut,vI p0.lasts,vI p0.counts,B8,.map (some BA),.map (some B7),AT p0.rcnt,vS p0.rtag,Y p0.rboots] 102),AB 9 1 B8 eS p0.blocks,Aa BA Y vS p0.pend,Aa B7 Y vB p0.bad] H (fun u M=>u=vI r.1∧M=[own Ao (.cells #[vB r.2.off,vB r.2.isCut,vI r.2.lasts,vI r.2.counts,B8,.map (some BA),.map (some B7),AT r.2.rcnt,vS r.2.rtag,Y r.2.rboots] 102),AB 9 1 B8 eS r.2.blocks,Aa BA Y vS r.2.pend,Aa B7 Y vB r.2.bad]):=by
 unfold Iv at h
 refine T3.enter Tryz.func118 rfl rfl ?_
 refine V ?_
 refine Bc E E zU fun b1=>?_
 refine O E (U (AG (V (AF 0 MZ E (EL E Wu E E (U (Cx E (AI (AH (V ?_))))))))))
 refine AD h fun y1 hy1 h=>?_
 refine AF 0 MZ E (AQ E E (AE E VE (SL.pick [1,2,3,4,0] 5 (AP 4 XF ((HL hy1 :)) E (O E (U ?_))))))
 refine A9 (α:=Af) (fun x=>Mo y1 x=some r) (fun x=>[(0,vP Ao 0),(3,vI y1.1)]) (fun x=>own Ao (.cells #[vB x.off,vB x.isCut,vI x.lasts,vI x.counts,B8,.map (some BA),.map (some B7),AT x.rcnt,vS x.rtag,Y x.rboots] 102)::AB 9 1 B8 eS x.blocks::Aa BA Y vS x.pend::Aa B7 Y vB x.bad::H) ?_ (fun o1 D h=>?_)
 refine V (J E (Z E Bq (U ?_)))
 refine AL h E (fun hc2 h=>?_) fun hc2 h=>?_
 refine A9 (α:=Af) (fun x=>PG y1 x=some r) (fun x=>[(0,vP Ao 0),(1,vP b1 0),(3,vI y1.1)]) (fun x=>own Ao (.cells #[vB x.off,vB x.isCut,vI x.lasts,vI x.counts,B8,.map (some BA),.map (some B7),AT x.rcnt,vS x.rtag,Y x.rboots] 102)::AB 9 1 B8 eS x.blocks::Aa BA Y vS x.pend::Aa B7 Y vB x.bad::own b1 (.cells #[vP Ao 0] 26)::H) ?_ (fun o2 D h=>?_)
 refine V ?_
 refine AD h fun y2 hy2 h=>?_
 refine AF 4 MZ E (BO 0 oq (gi hy2) E ?_)
 rintro _ _ ⟨b2,rfl,rfl⟩
 refine U (AM ?_)
 refine AD h fun xs1 hxs1 h=>?_
 refine SX.heap (MT (enc:=fr) xs1 (G0:=own Ao (.cells #[vB y1.2.off,vB y1.2.isCut,vI y1.2.lasts,vI y1.2.counts,B8,.map (some BA),.map (some B7),AT y1.2.rcnt,vS y1.2.rtag,Y y1.2.rboots] 102)::AB 9 1 B8 eS y1.2.blocks::Aa BA Y vS y1.2.pend::Aa B7 Y vB y1.2.bad::own b1 (.cells #[vP Ao 0] 26)::H) (fun pre G=>∃x:Af,(∀suf,xs1=pre++suf→KK y1 suf x=some r)∧G=own Ao (.cells #[vB x.off,vB x.isCut,vI x.lasts,vI x.counts,B8,.map (some BA),.map (some B7),AT x.rcnt,vS x.rtag,Y x.rboots] 102)::AB 9 1 B8 eS x.blocks::Aa BA Y vS x.pend::Aa B7 Y vB x.bad::own b1 (.cells #[vP Ao 0] 26)::H) (fun c G=>False) E pG E zV (mu hxs1) E ⟨y1.2,fun suf e=>by rw[←show xs1=suf from e];exact h,E⟩ (fun pre e1 suf1 G hpre hJ lr lp Rest=>?_) (fun G D hJ=>?_) (fun c G D hX=>?_)) (BN [0,1,2,3,4,5] 6 E E E)
 obtain⟨o3,h,rfl⟩:=hJ
 replace h:IS y1 (KK y1 suf1) e1 o3=some r:=h _ hpre
 unfold IS at h
 refine AN (O E (AY ?_))
 refine Jz (G:=own Ao (.cells #[vB o3.off,vB o3.isCut,vI o3.lasts,vI o3.counts,B8,.map (some BA),.map (some B7),AT o3.rcnt,vS o3.rtag,Y o3.rboots] 102)::AB 9 1 B8 eS o3.blocks::Aa BA Y vS o3.pend::Aa B7 Y vB o3.bad::own b1 (.cells #[vP Ao 0] 26)::H) ?_
 refine AM ?_
 refine AD h fun x1 hx1 h=>?_
 refine AD h fun l1 hl1 h=>?_
 refine Av DH [0,2,4] (CA [(true,0),(true,1),(true,2),(true,3),(true,4),(true,5),(true,6),(true,7),(true,8),(true,9),(true,10),(true,11)] (.last 12 .nil)) zK (AF 2 MZ E (AQ E E (AE E VF (AF 0 P7 E (J E (AF 2 MZ E (AQ E E ?_)))))))
 refine AE E VG (AF 0 jF E (J E ?_))
 refine XB (zv:=[]) 1 (T4 CP) E jJ Ta E E E ?_
 refine B2 1 hx1 E El HS E E E fun g1 m1 cp1 hv1=>?_
 refine BY ?_
 refine E7 (sz:=1) (enc:=eS) 1 hl1 zV rfl rfl rfl rfl rfl hv1 HS (by first | (simp[Value.oneCell'];done) | simp[eS,Value.oneCell']) trivial ?_
 refine AY (Aj ?_)
 exact Hg ⟨({ o3 with blocks:=l1 }),fun suf e=>by rw[Vf hpre e];exact h,rfl⟩ (BN [0,1,2,3,4] 5 rfl rfl rfl)
 obtain⟨o3,h,rfl⟩:=hJ
 replace h:PH y1 o3=some r:=h [] (List.append_nil _).symm
 unfold PH at h
 refine Aj ?_
 exact Aq o3 h tL (BN [0,1,2,3,4] 5 E E E)
 exact hX.elim
 unfold PG at h
 try dsimp only
 refine AN (AF 4 MZ E (AQ E E (AE E VG (AF 0 jF E (nw 2 E E E jJ E E zT (AY ?_))))))
 exact Aq ({ o2 with pend:=[] }) h tL (BN [0,1,2,3] 5 rfl rfl rfl)
 refine AI ?_
 exact Aq y1.2 h tL (BN [0,1,2,3] 5 E E E)
 unfold Mo at h
 try dsimp only
 refine V (J E (O E (U (AJ ?_))))
 obtain rfl:=zI h
 exact AW [0,1,2,3] 4 E E E
def N8(T:List UInt32)(p0:Aw)(p0_1:Af)(p1:UInt32)(p2:List UInt8):Option (List UInt8×Int×Aw×Af):=
 ret (decide (2≤p1)) fun x1=>
 cond x1
 (
  some ([],2,p0,p0_1))
 (
  ret (decide (198<(p2.length:Int))) fun x2=>
  cond x2
  (
   some ([],50,p0,p0_1))
  (
   (KW T p0 p0_1 p1 p2).bind fun y1=>
   some (y1.1,y1.2.1,y1.2.2.1,y1.2.2.2)))
theorem ST{T:List UInt32}{Ao BA BE Bs Bt:Nat}{AZ Bv:Value}{p0:Aw}{p0_1:Af}{p1:UInt32}{p2:List UInt8}{r:List UInt8×Int×Aw×Af}(h:N8 T p0 p0_1 p1 p2=some r)(hS:Ge K w0 T):zC K w0 121 [vP Ao 0,Y p1,vS p2] [own Ao (.cells #[vP BE 0,AZ,Y p0.gen,Y p0.boot,AT p0.seals,.map (some BA)] 137),AB 55 2 AZ AX p0.ring,Aa BA Y vB p0.taken,own BE (.cells #[vB p0_1.off,vB p0_1.isCut,vI p0_1.lasts,vI p0_1.counts,Bv,.map (some Bs),.map (some Bt),AT p0_1.rcnt,vS p0_1.rtag,Y p0_1.rboots] 102),AB 9 1 Bv eS p0_1.blocks,Aa Bs Y vS p0_1.pend,Aa Bt Y vB p0_1.bad] H (fun u M=>u=.tuple #[vS r.1,vI r.2.1]∧M=[own Ao (.cells #[vP BE 0,AZ,Y r.2.2.1.gen,Y r.2.2.1.boot,AT r.2.2.1.seals,.map (some BA)] 137),AB 55 2 AZ AX r.2.2.1.ring,Aa BA Y vB r.2.2.1.taken,own BE (.cells #[vB r.2.2.2.off,vB r.2.2.2.isCut,vI r.2.2.2.lasts,vI r.2.2.2.counts,Bv,.map (some Bs),.map (some Bt),AT r.2.2.2.rcnt,vS r.2.2.2.rtag,Y r.2.2.2.rboots] 102),AB 9 1 Bv eS r.2.2.2.blocks,Aa Bs Y vS r.2.2.2.pend,Aa Bt Y vB r.2.2.2.bad]):=by
 unfold N8 at h
 refine T3.enter Tryz.func121 rfl rfl ?_
 refine V (O E (O E (U (AG (AM (V (J E (EL E eq E E (O E (U (Cx E (V ?_))))))))))))
 obtain⟨x1,ex1,h⟩:=Bu h
 refine J E ?_
 refine Z E (HZ (b:=2)) ?_
 refine Ai (u:=vB x1) E E (congrArg vB ex1) ?_
 refine U ?_
 refine AL h E (fun hc2 h=>?_) fun hc2 h=>?_
 refine V (O E (O E (U (AJ (BC (Ab ?_))))))
 obtain rfl:=zI h
 exact AW [0,1,2,3,4,5,6] 7 E E E
 refine V ?_
 obtain⟨x2,ex2,h⟩:=Bu h
 refine J E (Bw E Cj E (Z E Cu ?_))
 refine Ai (u:=vB x2) E E (congrArg vB ex2) ?_
 refine U ?_
 refine AL h E (fun hc3 h=>?_) fun hc3 h=>?_
 refine V (O E (O E (U (AJ (BC (Ab ?_))))))
 obtain rfl:=zI h
 exact AW [0,1,2,3,4,5,6] 7 E E E
 refine AI (Aj (AH (V ?_)))
 refine AD h fun y1 hy1 h=>?_
 refine J E (J E (J E (AP 7 iF (X7 hy1 hS) E (Ac E E E (Ac E E E (O E (O E (U (AJ ?_)))))))))
 obtain rfl:=zI h
 exact AW [0,1,2,3,4,5,6] 7 E E E
end

section
structure Eu where
 cnt:UInt64
 gen:UInt32
 rows:UInt32
 page:UInt32
 tag:List UInt8
deriving DecidableEq
def Hm(r:Eu):List Value:=[AT r.cnt,Y r.gen,Y r.rows,Y r.page,vS r.tag]
structure ut where
 kind:Int
 x0:UInt32
 y0:UInt32
 x1:UInt32
 y1:UInt32
 x:UInt32
 y:UInt32
 sq:UInt64
 k:Int
 after:UInt64
 isFrom:Bool
structure Bj where
 rows:List Ak
 pages:List A4
 gens:List (UInt32×UInt32)
 ring:List BI
 gen:UInt32
 bad:Bool
structure DZ where
 ops:List Is
 isOpen:Bool
 closed:Bool
structure Fq where
 had:List A4
 out:List A4
 took:List UInt32
 err:Int
 must:List A4
structure O4 where
 ops:List Is
 isOpen:Bool
 closed:Bool
structure Dk where
 rows:List Ak
 had:List A4
 gens:List UInt32
 bad:Bool
theorem O3{P:Program}{k:TypeId}(hk:P.underlying k=some (.int .u32)):NK P k Y Y:=
 ⟨Maps.int_keyed hk,Vg hk,⟨fun v=>match v with | .int _ a=>some (UInt32.ofNat a.toNat) | _=>none,fun x=>by simp⟩,⟨fun v=>match v with | .int _ a=>some (UInt32.ofNat a.toNat) | _=>none,fun x=>by simp⟩⟩
def UG(s:A4):Value:=.agg (AS s).toArray
theorem Uk{P:Program}{k:TypeId}(hk:P.underlying k=some (.int .u32)):NK P k Y UG:=
 ⟨Maps.int_keyed hk,Vg hk,⟨fun v=>match v with | .int _ a=>some (UInt32.ofNat a.toNat) | _=>none,fun x=>by simp⟩,
  ⟨fun v=>match v with | .agg a=>(match a.toList with | [.string t,.int _ p,.string b]=>some ⟨t.data.toList,UInt32.ofNat p.toNat,b.data.toList⟩ | _=>none) | _=>none,fun x=>by
  cases x
  simp[UG,AS,Y,vS]⟩⟩
section
variable {P:Program}{ro:Option Nat}{K:Nat→Prop}{w0:World}{N:Nat}{Q:DQ}{D:List Nat}{l l':Tm}{H H' Hs:List AV}{ops:Array Oper}{items:Hd}
variable {tk:Bool}{o:Oper}{t:Nat}{v:Value}{x y z y1:Operand}
theorem kz{α:Type}{enc:α→List Value}{sz:Nat}{xs us:List α}{k k':IntKind}{j:Int}{ty e:TypeId}(hn:Ix xs 0 j=some us)(hk:B6 K w0 enc sz v xs)(ho:At ops N l o t (.slice ty x none (some z) (some y1)))(hty:P.underlying ty=some (.slice e))(hsz:DP P e=some sz)(hx:Bi l x=some v)(hz:Bi l z=some (.int k j))(hu:Bi l y1=some (.int k' j))
(h:∀v',B6 K w0 enc sz v' us→SL P ro K w0 N ops Hs items Q D ((t,v')::l) H):SL P ro K w0 N ops Hs (.cons (tk,o) items) Q D l H:=by
 obtain⟨h1,h2,h3,h4,rfl⟩:=No hn
 have e2:(xs.drop (0:Int).toNat).take (j.toNat-(0:Int).toNat)=xs.take j.toNat:=by simp
 rw[e2]at h
 have hj:j=(j.toNat:Int):=zO
 generalize j.toNat=n at*
 subst hj
 have hn:n≤xs.length:=zO
 rcases hk.at_ with⟨a0,rfl,rfl⟩ | ⟨b,off,cap,rfl,hcap,hc⟩
 have hn0:n=0:=by simpa using hn
 subst hn0
 refine SL.val (v:=.slice a0 0 0) ho E (fun a w ha _=>?_) (h _ ⟨hk.len,.inl ⟨_,E,by simp⟩⟩)
 simp only[execOp,ho.op,Instr.sliceAt,Instr.slice,Option.map]
 cases a0<;>simp[ha.eval hx,ha.eval hz,ha.eval hu,An hty,Ch hsz,Instr.sliceBounds,Instr.sliceBound,asIntOf]
 have hle:n≤cap:=Nat.le_trans hn hcap
 refine SL.val (v:=.slice (some ⟨b,off,none⟩) n n) ho E (fun a w ha _=>?_) (h _ ⟨hk.len,.inr ⟨b,off,n,by simp[List.length_take,Nat.min_eq_left hn],by rw[List.length_take];exact Nat.min_le_left ..,?_⟩⟩)
 simp only[execOp,ho.op,Instr.sliceAt,Instr.slice,Option.map]
 simp[ha.eval hx,ha.eval hz,ha.eval hu,An hty,Ch hsz,Instr.sliceBounds,Instr.sliceBound,asIntOf,hle,Ci]
 intro j u hu
 refine hc j u ?_
 have hpre:(xs.take n).flatMap enc++(xs.drop n).flatMap enc=xs.flatMap enc:=by
  rw[←List.flatMap_append,List.take_append_drop]
 rw[←hpre,List.getElem?_append_left (List.getElem?_eq_some_iff.1 hu).1]
 exact hu
section
variable {κ α:Type}{ek:κ→Value}{ev:α→Value}{m:List (κ×α)}{b:Nat}{k:TypeId}
def Cy(v:Value)(ek:κ→Value)(ev:α→Value)(m:List (κ×α)):AV:=
 ⟨fun b=>v=.map (some b),fun w=>(v=.map none∧m=[])∨∃b,v=.map (some b)∧(Aa b ek ev m).holds w,fun w w' h hw=>by
  rcases hw with hn | ⟨b,rfl,hb⟩
  exact .inl hn
  exact .inr ⟨b,rfl,(Aa b ek ev m).loc w w' (fun j hj=>h j (by rw[show j=b from hj])) hb⟩⟩
theorem BX.nilM{w:World}(ek:κ→Value)(ev:α→Value)(h:BX K w0 H w):BX K w0 (Cy (.map none) ek ev []::H) w:=
 ⟨h.os,h.tape,h.output,h.size,h.klt,h.keep,fun c hc=>by
   rcases List.mem_cons.1 hc with rfl | hc
   exact .inl ⟨rfl,rfl⟩
   exact h.holds c hc,
  fun c hc b hb=>by
   rcases List.mem_cons.1 hc with rfl | hc
   cases hb
   exact h.foot c hc b hb,
  List.pairwise_cons.2 ⟨fun c _ b hb=>(by cases hb),h.disj⟩⟩
theorem kt(ek:κ→Value)(ev:α→Value)(h:SL P ro K w0 N ops Hs items Q D l (Cy (.map none) ek ev []::H)):SL P ro K w0 N ops Hs items Q D l H:=
 fun a w ha hw hs=>h a w ha (hw.nilM ek ev) hs
theorem oF(i:Nat)(hi:H[i]? = some (Aa b ek ev m))(h:SL P ro K w0 N ops Hs items Q D l (H.set i (Cy (.map (some b)) ek ev m)))(hs:Ec Hs (H.set i (Cy (.map (some b)) ek ev m))):SL P ro K w0 N ops Hs items Q D l H:=by
 intro a w ha hw hs0
 refine h a w ha (BX.turnAt i hw hi rfl rfl rfl (Nat.le_refl _) (fun _ _ _=>rfl) (.inr ⟨b,rfl,hw.holds _ (List.mem_append_left _ (List.mem_of_getElem? hi))⟩) fun b' hb=>?_) hs0
 obtain rfl:b=b':=by simpa[Cy]using hb
 exact⟨.inl rfl,(hw.foot _ (List.mem_append_left _ (List.mem_of_getElem? hi)) b rfl).1⟩
variable [DecidableEq κ]
omit [DecidableEq κ] in
theorem gA{w:World}(E9:NK P k ek ev){ty e:TypeId}(ht:P.underlying ty=some (.map k e)){zv:α}(hz:EP P e=some (ev zv))(key:κ)(c:Bool):
  (Instr.lookup ty (.map none) (ek key) c).run P w=.ok (if c then .tuple #[ev zv,.bool false]else ev zv) w:=by
 obtain⟨lx,hl⟩:=E9.lit key
 rcases E9.keyed.find w hl [] zS with⟨h1,h2⟩ | ⟨j,e0,h1,h2,h3⟩
 simp[Instr.lookup,An ht,E9.keyed.check w _ hl,h1,Nl hz,Result.andThen]
 simp at h2
theorem dB{ty e:TypeId}{key:κ}{zv:α}(i:Nat)(E9:NK P k ek ev)(ho:At ops N l o t (.lookup ty x y false))(ht:P.underlying ty=some (.map k e))(hz:EP P e=some (ev zv))(hx:Bi l x=some v)(hy:Bi l y=some (ek key))
(hi:(bif tk then Hs else H)[i]? = some (Cy v ek ev m))(h:SL P ro K w0 N ops Hs items Q D ((t,ev ((Cd m key).getD zv))::l) H):SL P ro K w0 N ops Hs (.cons (tk,o) items) Q D l H:=
 SL.val ho rfl (fun a w ha hsw=>by
  rcases(hsw.holds _ (List.mem_of_getElem? hi):(Cy v ek ev m).holds w)with⟨rfl,rfl⟩ | ⟨b,rfl,es,clock,hb,hr⟩
  have:=gA (w:=w) E9 ht hz key false
  simp[execOp,ho.op,ha.eval hx,ha.eval hy,this,Cd]
  have:=hr.look E9 hb ht hz key false
  simp[execOp,ho.op,ha.eval hx,ha.eval hy,this]) h
end
def Zd(P:Program)(ty:TypeId)(f:Nat):Option Nat:=
 match P.underlying ty with
 | some (.struct fs)=>match fs[f]? with
  | some fd=>if JJ P fd.type then some fd.offset else none
  | none=>none
 | _=>none
theorem XA{cs:Array Value}{d f:Nat}{ty:TypeId}(ho:At ops N l o t (.field ty x f))(hf:Zd P ty f=some d)(hx:Bi l x=some (.agg cs))(hc:cs[d]? = some v)(h:SL P ro K w0 N ops Hs items Q D ((t,v)::l) H):SL P ro K w0 N ops Hs (.cons (tk,o) items) Q D l H:=
 SL.val ho rfl (fun a w ha _=>by
  unfold Zd at hf
  cases hu:P.underlying ty with
  | none=>simp[hu]at hf
  | some ds=>
   cases ds<;>simp only[hu]at hf<;>try cases hf
   rename_i fs
   cases hfs:fs[f]? with
   | none=>simp[hfs]at hf
   | some fd=>
    simp only[hfs]at hf
    split at hf
    rename_i hs
    obtain rfl:=zI hf
    simp[execOp,ho.op,Instr.field,An hu,ha.eval hx,hfs,part,(WI hs w).1,hc,asAgg]
    cases hf) h
end
end

section
variable {K:Nat→Prop}{w0:World}{H:List AV}
def HN(p0:A3):Option (UInt32×Int×A3):=
 cond (decide (p0.rboots=4294967295))
 (
  some (0,72,p0))
 (
  (Dw p0).bind fun y1=>
  cond (!decide (y1.1=0))
  (
   some (0,y1.1,y1.2))
  (
   ret (y1.2.rboots+1) fun x1=>
   some (x1,0,{ y1.2 with rboots:=y1.2.rboots+1 })))
theorem Rs{Ao:Nat}{Am AZ Ar:Value}{p0:A3}{r:UInt32×Int×A3}(h:HN p0=some r): zC K w0 58 [vP Ao 0] [own Ao (.cells #[Am,AZ,Ar,AT p0.rcnt,vS p0.rtag,Y p0.rboots,vI p0.left,vB p0.off] 118),AB 9 1 Am eS p0.blk,AB 9 1 AZ eS p0.pnd,AB 4 1 Ar eB p0.bads] H (fun u M=>u=.tuple #[Y r.1,vI r.2.1]∧M=[own Ao (.cells #[Am,AZ,Ar,AT r.2.2.rcnt,vS r.2.2.rtag,Y r.2.2.rboots,vI r.2.2.left,vB r.2.2.off] 118),AB 9 1 Am eS r.2.2.blk,AB 9 1 AZ eS r.2.2.pnd,AB 4 1 Ar eB r.2.2.bads]):=by
 unfold HN at h
 refine T3.enter Tryz.func58 rfl rfl ?_
 refine V (O E (O E (U (AG (V (J E (AQ E E (AE E Li (AE E Py (AF 0 A2 E ?_))))))))))
 refine Z E (NO (b:=4294967295)) ?_
 refine U ?_
 refine AL h E (fun hc1 h=>?_) fun hc1 h=>?_
 refine V (O E (O E (U (AJ (Ab ?_)))))
 obtain rfl:=zI h
 exact AW [0,1,2,3] 4 E E E
 refine AI (AH (V ?_))
 refine AD h fun y1 hy1 h=>?_
 refine J E (AP 4 bH (I1 hy1) E (O E (U (AG (V (J E (Z E BJ (U ?_))))))))
 refine AL h E (fun hc2 h=>?_) fun hc2 h=>?_
 refine V (J E (O E (O E (U (AJ (Ab ?_))))))
 obtain rfl:=zI h
 exact AW [0,1,2,3] 4 E E E
 refine AI (AH (V (J E (AQ E E (AE E Li (AE E Py (AF 0 A2 E ?_)))))))
 refine Z E (B1 (b:=1)) ?_
 refine AQ E E (AE E Li (AE E Py (A5 0 E E E E Bd E E E zT (U (V ?_)))))
 obtain⟨x1,ex1,h⟩:=Bu h
 refine J E (AQ E E (AE E Li (AE E Py (AF 0 A2 E ?_))))
 refine Ai (u:=Y x1) E E (congrArg Y ex1) ?_
 refine O E (U (AJ ?_))
 obtain rfl:=zI h
 exact AW [0,1,2,3] 4 E E E
def FN(y1:Int×A3)(o1:A3):Option (Int×A3):=
 some (y1.1,o1)
def FC(p0:A3)(p1:List UInt8):Option (Int×A3):=
 cond (!decide ((p1.length:Int)=32))
 (
  some (2,p0))
 (
  cond (decide (p0.rcnt=18446744073709551615))
  (
   some (72,p0))
  (
   (Dw p0).bind fun y1=>
   cond (decide (y1.1=0))
   (
    FN y1 ({ y1.2 with rcnt:=y1.2.rcnt+1,rtag:=p1 }))
   (
    FN y1 y1.2)))
theorem MV{Ao:Nat}{Am AZ Ar:Value}{p0:A3}{p1:List UInt8}{r:Int×A3}(h:FC p0 p1=some r): zC K w0 131 [vP Ao 0,vS p1] [own Ao (.cells #[Am,AZ,Ar,AT p0.rcnt,vS p0.rtag,Y p0.rboots,vI p0.left,vB p0.off] 118),AB 9 1 Am eS p0.blk,AB 9 1 AZ eS p0.pnd,AB 4 1 Ar eB p0.bads] H (fun u M=>u=vI r.1∧M=[own Ao (.cells #[Am,AZ,Ar,AT r.2.rcnt,vS r.2.rtag,Y r.2.rboots,vI r.2.left,vB r.2.off] 118),AB 9 1 Am eS r.2.blk,AB 9 1 AZ eS r.2.pnd,AB 4 1 Ar eB r.2.bads]):=by
 unfold FC at h
 refine T3.enter Tryz.func131 rfl rfl ?_
 refine V (O E (U (AG (V (J E (Bw E Cj E (Z E BJ (U ?_))))))))
 refine AL h E (fun hc1 h=>?_) fun hc1 h=>?_
 refine V (O E (U (AJ (Ab ?_))))
 obtain rfl:=zI h
 exact AW [0,1,2,3] 4 E E E
 refine AI (AH (AG (V (J E (AQ E E (AE E Li (AE E Px (AF 0 HJ E ?_))))))))
 refine Z E (MO (b:=18446744073709551615)) ?_
 refine U ?_
 refine AL h E (fun hc2 h=>?_) fun hc2 h=>?_
 refine V (O E (U (AJ (Ab ?_))))
 obtain rfl:=zI h
 exact AW [0,1,2,3] 4 E E E
 refine AI (AH (V ?_))
 refine AD h fun y1 hy1 h=>?_
 refine J E (AP 4 bH (I1 hy1) E (O E (U ?_)))
 refine A9 (α:=A3) (fun x=>FN y1 x=some r) (fun x=>[(0,vP Ao 0),(5,vI y1.1)]) (fun x=>own Ao (.cells #[Am,AZ,Ar,AT x.rcnt,vS x.rtag,Y x.rboots,vI x.left,vB x.off] 118)::AB 9 1 Am eS x.blk::AB 9 1 AZ eS x.pnd::AB 4 1 Ar eB x.bads::H) ?_ (fun o1 D h=>?_)
 refine V (J E (Z E Bq (U ?_)))
 refine AL h E (fun hc3 h=>?_) fun hc3 h=>?_
 refine V (J E (AQ E E (AE E Li (AE E Px (AF 0 HJ E ?_)))))
 refine Z E (H9 (b:=1)) ?_
 refine AQ E E (AE E Li (AE E Px (A5 0 E E E E jH E E E zT (U (AN (J E (J E (AQ E E (AE E Li ?_)))))))))
 refine AE E bQ (A5 0 E E E E HS E E E zT (AY ?_))
 exact Aq ({ y1.2 with rcnt:=y1.2.rcnt+1,rtag:=p1 }) h tL (BN [0,1,2,3] 4 rfl rfl rfl)
 refine AI ?_
 exact Aq y1.2 h tL (BN [0,1,2,3] 4 E E E)
 unfold FN at h
 try dsimp only
 refine V (J E (O E (U (AJ ?_))))
 obtain rfl:=zI h
 exact AW [0,1,2,3] 4 E E E
def ID(y1:Int×A3)(o1:A3):Option (Int×A3):=
 some (y1.1,o1)
def D6(a1:Int)(nx_f_ref07_Device_Flush_l1:A3×Int→Option (Int×A3))(o3:A3):Option (Int×A3):=
 ret (wI (a1+1)) fun i_1=>
 nx_f_ref07_Device_Flush_l1 (o3,i_1)
def EM(y1:Int×A3)(nx_f_ref07_Device_Flush_l1:A3×Int→Option (Int×A3))(o2:A3)(a1:Int):Option (Int×A3):=
 cond ((decide (a1<(o2.blk.length:Int)))&&(decide (y1.1=0)))
 (
  (BB o2.pnd a1).bind fun x1=>
  cond (!decide (x1=[]))
  (
   (BB o2.pnd a1).bind fun x2=>
   (BB o2.blk a1).bind fun x3=>
   (Ma o2.blk a1 x2).bind fun l1=>
   (BB o2.pnd a1).bind fun x4=>
   (Ma o2.pnd a1 []).bind fun l2=>
   D6 a1 nx_f_ref07_Device_Flush_l1 ({ o2 with blk:=l1,pnd:=l2 }))
  (
   D6 a1 nx_f_ref07_Device_Flush_l1 o2))
 (
  ID y1 o2)
def D7(y1:Int×A3):Nat→(A3×Int)→Option (Int×A3):=CN fun nx x=>EM y1 nx x.1 x.2
def Ep(n:Nat)(p0:A3):Option (Int×A3):=
 (Dw p0).bind fun y1=>
 D7 y1 n (y1.2,0)
theorem Jt{n Ao:Nat}{Am AZ Ar:Value}{p0:A3}{r:Int×A3}(h:Ep n p0=some r): zC K w0 127 [vP Ao 0] [own Ao (.cells #[Am,AZ,Ar,AT p0.rcnt,vS p0.rtag,Y p0.rboots,vI p0.left,vB p0.off] 118),AB 9 1 Am eS p0.blk,AB 9 1 AZ eS p0.pnd,AB 4 1 Ar eB p0.bads] H (fun u M=>u=vI r.1∧M=[own Ao (.cells #[Am,AZ,Ar,AT r.2.rcnt,vS r.2.rtag,Y r.2.rboots,vI r.2.left,vB r.2.off] 118),AB 9 1 Am eS r.2.blk,AB 9 1 AZ eS r.2.pnd,AB 4 1 Ar eB r.2.bads]):=by
 unfold Ep at h
 refine T3.enter Tryz.func127 rfl rfl ?_
 refine V (O E (U (V ?_)))
 refine AD h fun y1 hy1 h=>?_
 refine J E (AP 4 bH (I1 hy1) E (O E (U ?_)))
 refine A9 (α:=A3) (fun x=>ID y1 x=some r) (fun x=>[(0,vP Ao 0),(3,vI y1.1)]) (fun x=>own Ao (.cells #[Am,AZ,Ar,AT x.rcnt,vS x.rtag,Y x.rboots,vI x.left,vB x.off] 118)::AB 9 1 Am eS x.blk::AB 9 1 AZ eS x.pnd::AB 4 1 Ar eB x.bads::H) ?_ (fun o1 D h=>?_)
 refine V (O E (U (AM ?_)))
 refine SX.heap (SX.mono (BF (α:=Nat×A3×Int) (fun x=>D7 y1 x.1 (x.2.1,x.2.2)=some r) (fun x=>[(0,vP Ao 0),(3,vI y1.1),(4,vI x.2.2)]) (fun x=>own Ao (.cells #[Am,AZ,Ar,AT x.2.1.rcnt,vS x.2.1.rtag,Y x.2.1.rboots,vI x.2.1.left,vB x.2.1.off] 118)::AB 9 1 Am eS x.2.1.blk::AB 9 1 AZ eS x.2.1.pnd::AB 4 1 Ar eB x.2.1.bads::H) (fun x=>x.1) (fun x D h=>?_) (n,y1.2,0) h) tL) (BN [0,1,2,3] 4 E E E)
 obtain⟨m1,o2,a1⟩:=x
 dsimp only at h
 rcases m1 with _ | m1
 cases (show(none:Option _)=some r from h)
 replace h:EM y1 (D7 y1 m1) o2 a1=some r:=h
 unfold EM at h
 try dsimp only
 refine AG (V (J E (J E (AQ E E (AE E Qi (AF 0 P7 E (Dj 1 E El E E (Z E A8 (J E ?_)))))))))
 refine Cl (c:=decide (y1.1=0)) 14 3 17 E (fun hb k=>?_) (fun hb k=>?_) ?_
 refine J E (Z E Bq (Ag E E E ?_))
 exact k.mono tL
 refine AC E (AC E (Ag E E E ?_))
 exact k.mono tL
 refine U ?_
 refine AL h E (fun hc1 h=>?_) fun hc1 h=>?_
 refine AI (AH ?_)
 refine A9 (α:=A3) (fun x=>D6 a1 (D7 y1 m1) x=some r) (fun x=>[(0,vP Ao 0),(3,vI y1.1),(4,vI a1)]) (fun x=>own Ao (.cells #[Am,AZ,Ar,AT x.rcnt,vS x.rtag,Y x.rboots,vI x.left,vB x.off] 118)::AB 9 1 Am eS x.blk::AB 9 1 AZ eS x.pnd::AB 4 1 Ar eB x.bads::H) ?_ (fun o3 D h=>?_)
 refine AM (V ?_)
 refine AD h fun x1 hx1 h=>?_
 refine J E (AQ E E (AE E Qj (AF 0 P7 E (J E ?_))))
 refine B2 2 hx1 E El HS E E E fun g1 m2 cp1 hv1=>?_
 refine Bk E Gd E (Br (sz:=1) (enc:=eS) 2 0 zV E hv1 hx1 E) ?_
 refine Z E Uf (U ?_)
 refine AL h E (fun hc2 h=>?_) fun hc2 h=>?_
 refine AG ?_
 refine AD h fun x2 hx2 h=>?_
 refine AD h fun x3 hx3 h=>?_
 refine AD h fun l1 hl1 h=>?_
 refine Av DH [0,2] (CA [(true,0),(true,1),(true,2),(true,3),(true,4),(true,5),(true,6),(true,7),(true,8),(true,9),(true,10),(true,11),(true,12)] (.last 13 .nil)) zK (J E (AQ E E (AE E Qi (AF 0 P7 E (J E (J E (AQ E E ?_)))))))
 refine AE E Qj (AF 0 P7 E (J E ?_))
 refine B2 2 hx2 E El HS E E E fun g2 m3 cp2 hv2=>?_
 refine Bk E Gd E (Br (sz:=1) (enc:=eS) 1 0 zV E hv2 hx2 E) ?_
 refine B2 1 hx3 E El HS E E E fun g3 m4 cp3 hv3=>?_
 refine BY ?_
 refine E7 (sz:=1) (enc:=eS) 1 hl1 zV rfl rfl rfl rfl rfl hv3 HS (by first | (simp[Value.oneCell'];done) | simp[eS,Value.oneCell']) trivial ?_
 refine U (AN ?_)
 refine AD h fun x4 hx4 h=>?_
 refine AD h fun l2 hl2 h=>?_
 refine J E (AQ E E (AE E Qj (AF 0 P7 E (J E ?_))))
 refine B2 2 hx4 E El HS E E E fun g4 m5 cp4 hv4=>?_
 refine E7 (sz:=1) (enc:=eS) 2 hl2 zV rfl rfl rfl rfl rfl hv4 HS (by first | (simp[Value.oneCell'];done) | simp[eS,Value.oneCell']) trivial ?_
 refine AY (Aj ?_)
 exact Aq ({ o2 with blk:=l1,pnd:=l2 }) h tL (BN [0,1,2,3] 4 rfl rfl rfl)
 refine AI (Aj ?_)
 exact Aq o2 h tL (BN [0,1,2,3] 4 E E E)
 unfold D6 at h
 try dsimp only
 refine AN ?_
 obtain⟨i_1,ei_1,h⟩:=Bu h
 refine J E (Z E Bh ?_)
 refine Ai (u:=vI i_1) E E (congrArg vI ei_1) ?_
 refine AY ?_
 exact Au (m1,o3,i_1) h (Nat.lt_succ_self _) tL (BN [0,1,2,3] 4 E E E)
 refine A1 (A6 (Ba (A7 ?_)))
 exact Aq o2 h tL (BN [0,1,2,3] 4 E E E)
 unfold ID at h
 try dsimp only
 refine V (J E (O E (U (AJ ?_))))
 obtain rfl:=zI h
 exact AW [0,1,2,3] 4 E E E
def JT(n:Nat)(p0:List BI):Option (UInt32×Int):=
 (HD n p0).bind fun y1=>
 cond (!y1)
 (
  some (0,40))
 (
  cond (decide ((p0.length:Int)=0))
  (
   some (0,41))
  (
   (BB p0 (wI ((p0.length:Int)-1))).bind fun x1=>
   some (x1.gen,0)))
theorem W1{n:Nat}{DA:Value}{p0:List BI}{r:UInt32×Int}(h:JT n p0=some r)(hs0_:B6 K w0 AX 2 DA p0):zC K w0 56 [DA] [] H (fun u M=>u=.tuple #[Y r.1,vI r.2]∧M=[]):=by
 unfold JT at h
 refine T3.enter Tryz.func56 rfl rfl ?_
 refine V (O E (O E (U (V ?_))))
 refine AD h fun y1 hy1 h=>?_
 refine J E (AP 0 fj (PC hy1 hs0_) E (O E (U (AG (V (J E (CT E E (U ?_))))))))
 refine AL h E (fun hc1 h=>?_) fun hc1 h=>?_
 refine V (O E (O E (U (AJ (Ab ?_)))))
 obtain rfl:=zI h
 exact AW [] 0 E E E
 refine AI (AH (AG (V (J E (B3 hs0_ E Gj E (Z E Bq (U ?_)))))))
 refine AL h E (fun hc2 h=>?_) fun hc2 h=>?_
 refine V (O E (O E (U (AJ (Ab ?_)))))
 obtain rfl:=zI h
 exact AW [] 0 E E E
 refine AI (AH (V ?_))
 refine AD h fun x1 hx1 h=>?_
 refine J E (J E (B3 hs0_ E Gj E (Z E DI ?_)))
 refine DD hx1 hs0_ E Gj HT E E fun be1 of1 hc3=>?_
 refine AE E HQ ?_
 refine Bk E A2 E (Du (j:=0) hc3 E) ?_
 refine O E (O E (U (AJ ?_)))
 obtain rfl:=zI h
 exact AW [] 0 E E E
def H2(n:Nat)(T:List UInt32)(p0:BW)(p0_1:A3)(p1:UInt32)(p2:List UInt8):Option (List UInt8×Int×BW×A3):=
 cond (decide (1<p1))
 (
  some ([],2,p0,p0_1))
 (
  cond (decide (198<(p2.length:Int)))
  (
   some ([],50,p0,p0_1))
  (
   (FD n T p0 p0_1 p1 p2).bind fun y1=>
   some (y1.1,y1.2.1,y1.2.2.1,y1.2.2.2)))
theorem N4{n Ao BE:Nat}{T:List UInt32}{AZ BH Dz Bb D0:Value}{p0:BW}{p0_1:A3}{p1:UInt32}{p2:List UInt8}{r:List UInt8×Int×BW×A3}(h:H2 n T p0 p0_1 p1 p2=some r)(hT:JO K w0 2 64 T):zC K w0 130 [vP Ao 0,Y p1,vS p2] [own Ao (.cells #[vP BE 0,AZ,Y p0.gen,Y p0.boot,AT p0.num,BH] 142),AB 55 2 AZ AX p0.ring,AB 4 1 BH eB p0.taken,own BE (.cells #[Dz,Bb,D0,AT p0_1.rcnt,vS p0_1.rtag,Y p0_1.rboots,vI p0_1.left,vB p0_1.off] 118),AB 9 1 Dz eS p0_1.blk,AB 9 1 Bb eS p0_1.pnd,AB 4 1 D0 eB p0_1.bads] H (fun u M=>u=.tuple #[vS r.1,vI r.2.1]∧M=[own Ao (.cells #[vP BE 0,AZ,Y r.2.2.1.gen,Y r.2.2.1.boot,AT r.2.2.1.num,BH] 142),AB 55 2 AZ AX r.2.2.1.ring,AB 4 1 BH eB r.2.2.1.taken,own BE (.cells #[Dz,Bb,D0,AT r.2.2.2.rcnt,vS r.2.2.2.rtag,Y r.2.2.2.rboots,vI r.2.2.2.left,vB r.2.2.2.off] 118),AB 9 1 Dz eS r.2.2.2.blk,AB 9 1 Bb eS r.2.2.2.pnd,AB 4 1 D0 eB r.2.2.2.bads]):=by
 unfold H2 at h
 refine T3.enter Tryz.func130 rfl rfl ?_
 refine V (O E (O E (U (AG (V (J E ?_))))))
 refine Z E (S9 (b:=1)) ?_
 refine U ?_
 refine AL h E (fun hc1 h=>?_) fun hc1 h=>?_
 refine V (O E (O E (U (AJ (Ab ?_)))))
 obtain rfl:=zI h
 exact AW [0,1,2,3,4,5,6] 7 E E E
 refine AI (AH (AG (V (J E (Bw E Cj E (Z E Cu (U ?_)))))))
 refine AL h E (fun hc2 h=>?_) fun hc2 h=>?_
 refine V (O E (O E (U (AJ (Ab ?_)))))
 obtain rfl:=zI h
 exact AW [0,1,2,3,4,5,6] 7 E E E
 refine AI (AH (V ?_))
 refine AD h fun y1 hy1 h=>?_
 refine J E (J E (J E (AP 7 iK (N5 hy1 hT) E (Ac E E E (Ac E E E (O E (O E (U (AJ ?_)))))))))
 obtain rfl:=zI h
 exact AW [0,1,2,3,4,5,6] 7 E E E
def HG(p0:Eu):Option Bool:=
 (GC (⟨p0.page,p0.tag⟩:BQ)).bind fun y1=>
 ret ((((decide (0<p0.cnt))&&(decide (0<p0.gen)))&&(decide (p0.rows≤1000)))&&y1) fun x1=>
 some x1
theorem SO{p0:Eu}{r:Bool}(h:HG p0=some r): zC K w0 161 [.agg (Hm p0).toArray] [] H (fun u M=>u=vB r∧M=[]):=by
 unfold HG at h
 refine T3.enter Tryz.func161 rfl rfl ?_
 refine V ?_
 refine Bc E E zU fun b1=>?_
 refine O E (U (V ?_))
 refine AD h fun y1 hy1 h=>?_
 refine AE rfl Ql (Ap [Y p0.page,vS p0.tag] rfl DK rfl rfl (Cw 0 rfl (by rintro(_ | (_ | j)) u hj<;>first | exact hj | exact absurd hj zS)) (AP 0 bA ((Mj hy1 :)) rfl (O rfl (U (V ?_)))))
 obtain⟨x1,ex1,h⟩:=Bu h
 refine AE E Lj (AF 0 HJ E ?_)
 refine Z E (NQ (b:=0)) ?_
 refine J E ?_
 refine Cl (c:=decide (0<p0.gen)) 10 4 14 E (fun hb k=>?_) (fun hb k=>?_) ?_
 refine AE E VL (AF 0 A2 E ?_)
 refine Z E (S9 (b:=0)) ?_
 refine Ag E E E ?_
 exact k.mono tL
 refine AC E (AC E (AC E (Ag E E E ?_)))
 exact k.mono tL
 refine J E ?_
 refine Cl (c:=decide (p0.rows≤1000)) 15 4 19 E (fun hb k=>?_) (fun hb k=>?_) ?_
 refine AE E VM (AF 0 A2 E ?_)
 refine Z E (NR (b:=1000)) ?_
 refine Ag E E E ?_
 exact k.mono tL
 refine AC E (AC E (AC E (Ag E E E ?_)))
 exact k.mono tL
 refine J E ?_
 refine Cl (c:=y1) 20 2 22 E (fun hb k=>?_) (fun hb k=>?_) ?_
 refine J E (Ag E E E ?_)
 exact k.mono tL
 refine AC E (Ag E E E ?_)
 exact k.mono tL
 refine Ai (u:=vB x1) E E (congrArg vB ex1) ?_
 refine U (AJ ?_)
 obtain rfl:=zI h
 exact AW [] 1 E E E
def OL(a1:List UInt8):Option (List UInt8):=
 some a1
def M3(p1:Int)(nx_f_ref15_put_l1:UInt64×List UInt8×Int→Option (List UInt8))(a2:UInt64)(a3:List UInt8)(a4:Int):Option (List UInt8):=
 cond (decide (a4<p1))
 (
  (ET a3 [a2.toUInt8]).bind fun s1=>
  (RV a2 256).bind fun q1=>
  ret (wI (a4+1)) fun i_1=>
  nx_f_ref15_put_l1 (q1,s1,i_1))
 (
  OL a3)
def OM(p1:Int):Nat→(UInt64×List UInt8×Int)→Option (List UInt8):=CN fun nx x=>M3 p1 nx x.1 x.2.1 x.2.2
def H3(n:Nat)(p0:UInt64)(p1:Int):Option (List UInt8):=
 OM p1 n (p0,[],0)
theorem Og{n:Nat}{p0:UInt64}{p1:Int}{r:List UInt8}(h:H3 n p0 p1=some r): zC K w0 162 [AT p0,vI p1] [] H (fun u M=>u=vS r∧M=[]):=by
 unfold H3 at h
 refine T3.enter Tryz.func162 rfl rfl ?_
 refine V (O E (U (V (O E (U ?_)))))
 refine A9 (α:=List UInt8) (fun x=>OL x=some r) (fun x=>[(5,vS x)]) (fun x=>H) ?_ (fun a1 D h=>?_)
 refine V (O E (U (AM ?_)))
 refine SX.heap (SX.mono (BF (α:=Nat×UInt64×List UInt8×Int) (fun x=>OM p1 x.1 (x.2.1,x.2.2.1,x.2.2.2)=some r) (fun x=>[(0,AT x.2.1),(1,vI p1),(5,vS x.2.2.1),(6,vI x.2.2.2)]) (fun x=>H) (fun x=>x.1) (fun x D h=>?_) (n,p0,[],0) h) tL) (BN [] 0 E E E)
 obtain⟨m1,a2,a3,a4⟩:=x
 dsimp only at h
 rcases m1 with _ | m1
 cases (show(none:Option _)=some r from h)
 replace h:M3 p1 (OM p1 m1) a2 a3 a4=some r:=h
 unfold M3 at h
 try dsimp only
 refine AG (V (J E (J E (Z E A8 (U ?_)))))
 refine AL h E (fun hc1 h=>?_) fun hc1 h=>?_
 refine AI (AH (AG (AM (V ?_))))
 refine AD h fun s1 hs1 h=>?_
 refine J E (J E (BG E E (FU Da DS) ?_))
 refine CD [_] rfl Cb Jx Ki ⟨rfl,trivial⟩ rfl rfl rfl zW rfl rfl zU fun b1=>?_
 refine CH Fg 1 ([a2.toUInt8]:List UInt8) E zV E ?_
 refine Gt 0 E Cb DS Cj E E (Z E (CQ hs1) (O E (U (AN ?_))))
 refine AD h fun q1 hq1 h=>?_
 refine J E ?_
 refine Z E (Pj (b:=256) hq1) ?_
 refine O E (AY (Aj (AH (AN ?_))))
 obtain⟨i_1,ei_1,h⟩:=Bu h
 refine J E (Z E Bh ?_)
 refine Ai (u:=vI i_1) E E (congrArg vI ei_1) ?_
 refine AY ?_
 exact Au (m1,q1,s1,i_1) h (Nat.lt_succ_self _) tL (BN [] 1 E E E)
 refine A1 (A6 (Ba (A7 ?_)))
 exact Aq a3 h tL (BN [] 0 E E E)
 unfold OL at h
 try dsimp only
 refine V (J E (O E (U (AJ ?_))))
 obtain rfl:=zI h
 exact AW [] 0 E E E
def JV(n:Nat)(p0:Eu):Option (List UInt8×Int):=
 (HG p0).bind fun y1=>
 cond (!y1)
 (
  some ([],120))
 (
  (H3 n p0.cnt 8).bind fun y2=>
  (ET [115,112,104,114] y2).bind fun s1=>
  (H3 n p0.gen.toUInt64 4).bind fun y3=>
  (ET s1 y3).bind fun s2=>
  (H3 n p0.rows.toUInt64 4).bind fun y4=>
  (ET s2 y4).bind fun s3=>
  (H3 n p0.page.toUInt64 4).bind fun y5=>
  (ET s3 y5).bind fun s4=>
  (ET s4 p0.tag).bind fun s5=>
  some (s5,0))
theorem Rj{n:Nat}{p0:Eu}{r:List UInt8×Int}(h:JV n p0=some r): zC K w0 129 [.agg (Hm p0).toArray] [] H (fun u M=>u=.tuple #[vS r.1,vI r.2]∧M=[]):=by
 unfold JV at h
 refine T3.enter Tryz.func129 rfl rfl ?_
 refine V ?_
 refine Bc E E zU fun b1=>?_
 refine O E (O E (U (V ?_)))
 refine AD h fun y1 hy1 h=>?_
 refine Ap [AT p0.cnt,Y p0.gen,Y p0.rows,Y p0.page,vS p0.tag] E I0 E E (Ah 0 E) (AP 0 iJ ((SO hy1 :)) E (O E (U (AG (V (J E (CT E E (U ?_))))))))
 refine AL h E (fun hc1 h=>?_) fun hc1 h=>?_
 refine V (O E (O E (U (AJ (Ab ?_)))))
 obtain rfl:=zI h
 exact AW [] 1 E E E
 refine AI (AH (AG ?_))
 refine AD h fun y2 hy2 h=>?_
 refine AD h fun s1 hs1 h=>?_
 refine AD h fun y3 hy3 h=>?_
 refine AD h fun s2 hs2 h=>?_
 refine AD h fun y4 hy4 h=>?_
 refine AD h fun s3 hs3 h=>?_
 refine AD h fun y5 hy5 h=>?_
 refine AD h fun s4 hs4 h=>?_
 refine AD h fun s5 hs5 h=>?_
 refine Av DH [0] (CA [(true,0),(true,1),(true,4),(true,5),(true,6),(true,9),(true,10),(true,11),(true,14),(true,15),(true,16),(true,17),(true,20),(true,21),(true,22),(false,2),(true,3),(false,7),(true,8),(false,12),(true,13),(false,18),(false,19)] (.last 23 (C7 [(false,24),(false,25)]))) zK (AE E Lj (AF 0 HJ E (AE E VL (AF 0 A2 E (BG E E (C2 CP Da) (AE E VM (AF 0 A2 E ?_)))))))
 refine BG E E (C2 CP Da) (AE E Ql (AE E FR (AF 0 A2 E (BG E E (C2 CP Da) (AE E Ql (AE E M9 (AF 0 Gd E ?_)))))))
 refine BP 0 XH (Og hy2) E ⟨⟨0,E⟩,zT⟩ (Z E (CQ hs1) (BP 0 XH (Og hy3) E ⟨⟨0,E⟩,zT⟩ (Z E (CQ hs2) (BP 0 XH (Og hy4) E ⟨⟨0,E⟩,zT⟩ (Z E (CQ hs3) (BP 0 XH (Og hy5) E ⟨⟨0,E⟩,zT⟩ (Z E (CQ hs4) (BY ?_))))))))
 refine Z E (CQ hs5) (O E (O E (U (AJ ?_))))
 obtain rfl:=zI h
 exact AW [] 1 E E E
def Lf(p0:UInt64)(p1:UInt32)(p2:Int)(p3:BQ):Option (Eu×Int):=
 cond (decide (p0=18446744073709551615))
 (
  some ((⟨0,0,0,0,[]⟩:Eu),72))
 (
  cond ((decide (p2<0))||(decide (1000<p2)))
  (
   some ((⟨0,0,0,0,[]⟩:Eu),120))
  (
   (HG (⟨p0+1,p1,E4 p2,p3.page,p3.tag⟩:Eu)).bind fun y1=>
   cond (!y1)
   (
    some ((⟨0,0,0,0,[]⟩:Eu),120))
   (
    some ((⟨p0+1,p1,E4 p2,p3.page,p3.tag⟩:Eu),0))))
theorem Tn{p0:UInt64}{p1:UInt32}{p2:Int}{p3:BQ}{r:Eu×Int}(h:Lf p0 p1 p2 p3=some r): zC K w0 128 [AT p0,Y p1,vI p2,.agg (Bz p3).toArray] [] H (fun u M=>u=.tuple #[.agg (Hm r.1).toArray,vI r.2]∧M=[]):=by
 unfold Lf at h
 refine T3.enter Tryz.func128 rfl rfl ?_
 refine V ?_
 refine Bc E E zU fun b1=>?_
 refine Al E LS zU fun b2=>?_
 refine O E (U (AG (V (J E ?_))))
 refine Z E (MO (b:=18446744073709551615)) ?_
 refine U ?_
 refine AL h E (fun hc1 h=>?_) fun hc1 h=>?_
 refine V (B5 [] E UW UV LS zT E (A5 0 E E E E NF E E E zT (O E (U (AJ (Ab ?_))))))
 obtain rfl:=zI h
 exact Ae (EN E (B9 0 (Hm (⟨0,0,0,0,[]⟩:Eu)) I0 E E E E) E) (Ad (M:=[]) ⟨E,E⟩ fun _ hw=>BX.pick (H:=[_,_]) hw [] 2 E)
 refine AI (AH (AG (V (J E (Z E A8 (J E ?_))))))
 refine Eg (c:=decide (1000<p2)) 17 3 20 E (fun hb k=>?_) (fun hb k=>?_) ?_
 refine AC E (AC E (Ag E E E ?_))
 exact k.mono tL
 refine J E (Z E Cu (Ag E E E ?_))
 exact k.mono tL
 refine U ?_
 refine AL h E (fun hc2 h=>?_) fun hc2 h=>?_
 refine V (B5 [] E UW UV LS zT E (A5 0 E E E E NF E E E zT (O E (U (AJ (Ab ?_))))))
 obtain rfl:=zI h
 exact Ae (EN E (B9 0 (Hm (⟨0,0,0,0,[]⟩:Eu)) I0 E E E E) E) (Ad (M:=[]) ⟨E,E⟩ fun _ hw=>BX.pick (H:=[_,_]) hw [] 2 E)
 refine AI (AH (V (J E ?_)))
 refine Z E (H9 (b:=1)) ?_
 refine J E (J E (BG E E (QV Jg CP) (Ap [Y p3.page,vS p3.tag] E DK E E (Ah 1 E) (B5 [_,_,_,_] E UW UV LS ⟨E,E,E,E,zT⟩ E ?_))))
 refine Al E LS zU fun b3=>?_
 refine A5 0 E E E E NF E E E zT (U (V ?_))
 refine AD h fun y1 hy1 h=>?_
 refine Ap [AT (p0+1),Y p1,Y (E4 p2),Y p3.page,vS p3.tag] E I0 E E (Ah 0 E) (AP 0 iJ ((SO hy1 :)) E (O E (U (AG (V (J E (CT E E (U ?_))))))))
 refine AL h E (fun hc3 h=>?_) fun hc3 h=>?_
 refine V (B5 [] E UW UV LS zT E (A5 1 E E E E NF E E E zT (O E (U (AJ (Ab ?_))))))
 obtain rfl:=zI h
 exact Ae (EN E (B9 1 (Hm (⟨0,0,0,0,[]⟩:Eu)) I0 E E E E) E) (Ad (M:=[]) ⟨E,E⟩ fun _ hw=>BX.pick (H:=[_,_,_]) hw [] 3 E)
 refine AI (AH (V (Ap [AT (p0+1),Y p1,Y (E4 p2),Y p3.page,vS p3.tag] E I0 E E (Ah 0 E) (A5 1 E E E E NF E E E zT (O E (U (AJ ?_)))))))
 obtain rfl:=zI h
 exact Ae (EN E (B9 1 (Hm (⟨p0+1,p1,E4 p2,p3.page,p3.tag⟩:Eu)) I0 E E E E) E) (Ad (M:=[]) ⟨E,E⟩ fun _ hw=>BX.pick (H:=[_,_,_]) hw [] 3 E)
end

section
variable {K:Nat→Prop}{w0:World}{H:List AV}
def bX(l:List (List UInt8))(s:List UInt8):Option (List UInt8):=if s=[]∧2≤l.length∧l.length≤1000000∧0<l.flatten.length∧l.flatten.length≤1000000 then some l.flatten else none
theorem RH{l:List (List UInt8)}{i:Nat}{x:List UInt8}(h:l[i]? = some x):(l.take (i+1)).flatten=(l.take i).flatten++x:=by
 obtain⟨hlt,hg⟩:=List.getElem?_eq_some_iff.1 h
 rw[←List.take_append_getElem hlt,hg]
 simp
theorem UK(l:List (List UInt8))(i:Nat):(l.take i).flatten.length≤l.flatten.length:=by
 have:l.flatten=(l.take i).flatten++(l.drop i).flatten:=by rw[←List.flatten_append,List.take_append_drop]
 rw[this,List.length_append]
 omega
theorem qu{v0:Value}{l:List (List UInt8)}{s r:List UInt8}(h:bX l s=some r)(hs0:B6 K w0 eS 1 v0 l):zC K w0 209 [v0,vS s] [] H (fun u M=>u=vS r∧M=[]):=by
 unfold bX at h
 split at h
 rotate_left
 cases h
 rename_i hl
 obtain⟨rfl,h2,h3,h0,h4⟩:=hl
 obtain rfl:=zI h
 refine T3.enter Tryz.func209 rfl rfl ?_
 refine V (O E (U (AG (V (J E (B3 hs0 E El E (U (AM (V (Z E Bq (O E (U ?_))))))))))))
 refine Ax E (fun hc1=>absurd (of_decide_eq_true hc1) zO) (fun _=>?_)
 refine V (Z E Bq (O E (U ?_)))
 refine Ax E (fun hc1=>absurd (of_decide_eq_true hc1) zO) (fun _=>?_)
 refine AI (Aj (AH (V (O E (U (AG (V (J E (Bw E Cj E (Z E Cu (U ?_)))))))))))
 refine Ax E (fun hc1=>absurd hc1 zD) (fun _=>?_)
 refine AI (AH (AG (V (J E (B3 hs0 E El E (J E (U (AM ?_))))))))
 refine SX.mono (BF (α:=Nat) (fun i=>i≤l.length) (fun i=>[(0,v0),(1,vS []),(4,vS []),(5,vI ((l.take i).flatten.length:Nat)),(39,v0),(40,vI (l.length:Int)),(41,vI i)]) (fun _=>H) (fun i=>l.length-i) (fun i D hp=>?_) 0 (Nat.zero_le _)) tL
 refine V (Z E A8 (U (AG ?_)))
 refine Ax E (fun hc1=>?_) (fun hc1=>?_)
 have hlt:i<l.length:=by
  have:=of_decide_eq_true hc1
  omega
 obtain⟨x,hx⟩:∃x,l[i]? = some x:=⟨_,List.getElem?_eq_getElem hlt⟩
 have hn:BB l (i:Int)=some x:=by rw[Dp];exact hx
 have hf:=RH hx
 have hfl:=UK l (i+1)
 rw[hf,List.length_append]at hfl
 refine AI (AH (AG (AM (V ?_))))
 refine DD hn hs0 E El HS E E fun be of hc=>?_
 refine Bk E Gd E (Du (j:=0) hc E) ?_
 refine O E (U (AG (V (J E (Bw E Cj E (J E (Z E (EF zO zO) (Z E Cu (U ?_)))))))))
 refine Ax E (fun hc1=>absurd (of_decide_eq_true hc1) zO) (fun _=>?_)
 refine AI (AH (AN (J E (J E (Bw E Cj E (Z E (Bf zO zO) ?_))))))
 refine Ai (u:=vI ((l.take (i+1)).flatten.length:Nat)) E E (congrArg vI (by rw[hf,List.length_append];rfl)) ?_
 refine AY (Aj (AH (AN (Z E (Bf zO zO) (J E (AY ?_))))))
 exact Au (i+1) zO zO tL (fun _ hw=>hw)
 have hi:i=l.length:=by
  have:=of_decide_eq_false hc1
  omega
 subst hi
 rw[List.take_length]
 refine A1 (A6 (Ba (A7 (AH (V ?_)))))
 refine Al E Y5 zU fun b0=>?_
 refine U (V (J E (BO 1 li (dK b0 _ _ (.inl E) h0 zO) E ?_)))
 rintro _ _ ⟨rfl,v1,rfl⟩
 refine U ?_
 have hn0:BB l 0=some (l[0]' zO):=by
  have:=Dp (l:=l) (i:=0)
  rw[List.getElem?_eq_getElem zO]at this
  exact this
 have hf0:(l.take (0+1)).flatten=l[0]' zO:=by
  have:=RH (List.getElem?_eq_getElem (l:=l) (i:=0) zO)
  simpa using this
 have hfl0:=UK l (0+1)
 rw[hf0]at hfl0
 refine V (J E ?_)
 refine DD hn0 hs0 E El HS E E fun be of hc=>?_
 refine Bk E Gd E (Du (j:=0) hc E) ?_
 refine BO 2 SV (Gy 161 b0 _ v1 0 [] _ (.inr E) RN zO) E ?_
 rintro _ _ ⟨rfl,v2,rfl⟩
 refine U ?_
 have hcut:Ix l 1 (l.length:Int)=some (l.drop 1):=by
  unfold Ix
  rw[if_pos zO]
  congr 1
  exact List.take_of_length_le zS
 refine AG (V (J E ?_))
 refine dF hcut hs0 E El HS E E fun v3 hs3=>?_
 refine B3 hs3 E El E (J E (U (AM ?_)))
 refine SX.heap (SX.mono (BF (α:=Nat×Value) (fun x=>x.1+1≤l.length) (fun x=>[(1,vS []),(4,vS []),(8,vP b0 0),(63,v3),(64,vI ((l.drop 1).length:Int)),(65,vI x.1)])
  (fun x=>own b0 (.cells #[vP b0 0,x.2] 161)::Dg 5 1 x.2 (l.take (x.1+1)).flatten.length ((l.take (x.1+1)).flatten.map fun b=>ES b)::H) (fun x=>l.length-x.1) (fun x D hp=>?_) (0,v2) (by dsimp only;omega)) tL) (fun _ hw=>by
   dsimp only
   rw[hf0]
   simpa using hw)
 obtain⟨i,v⟩:=x
 dsimp only at hp ⊢
 refine V (Z E A8 (U (AG ?_)))
 refine Ax E (fun hc1=>?_) (fun hc1=>?_)
 have hlt:i+1<l.length:=by
  have:=of_decide_eq_true hc1
  rw[List.length_drop]at this
  omega
 obtain⟨x,hx⟩:∃x,l[i+1]? = some x:=⟨_,List.getElem?_eq_getElem hlt⟩
 have hn:BB (l.drop 1) (i:Int)=some x:=by rw[Dp,List.getElem?_drop,Nat.add_comm];exact hx
 have hf:=RH hx
 have hfl:=UK l (i+1+1)
 rw[hf,List.length_append]at hfl
 refine AI (AH (AG (AM (V ?_))))
 refine DD hn hs3 E El HS E E fun be of hc=>?_
 refine Bk E Gd E (Du (j:=0) hc E) ?_
 refine O E (U (V (J E (BO 2 SV (Gy 161 b0 _ v _ _ [] (.inr E) RN (by simp only[List.length_nil];omega)) E ?_))))
 rintro _ _ ⟨rfl,v4,rfl⟩
 refine U (AN (J E (BO 2 SV (Gy 161 b0 _ v4 _ _ x (.inr E) RN (by simp only[List.length_nil];omega)) E ?_)))
 rintro _ _ ⟨rfl,v5,rfl⟩
 refine AY (Aj (AH (AN (Z E (Bf zO zO) (J E (AY ?_))))))
 exact Au (i+1,v5) (by dsimp only;omega) (by dsimp only;omega) tL (fun _ hw=>by
  dsimp only
  rw[hf]
  simpa using hw)
 have hi:i+1=l.length:=by
  have:=of_decide_eq_false hc1
  rw[List.length_drop]at this
  omega
 rw[hi,List.take_length]
 refine A1 (A6 (Ba (A7 (AH (V (AP 2 QE (Jj 161 b0 _ v _ l.flatten zO) E (O E (U (AJ ?_)))))))))
 exact Ae (C1 E E) (Ad (M:=[]) ⟨E,E⟩ fun _ h=>h.skip [_,_])
end

section
variable {K:Nat→Prop}{w0:World}{H:List AV}
def VU(l:List BI):Option (List BI):=DR 24 [] l
theorem kZ{v:Value}{l r:List BI}(h:VU l=some r)(hs:B6 K w0 AX 2 v l):zC K w0 82 [v] [] H (fun u M=>∃v0:Value,u=v0∧M=[AB 55 2 v0 AX r]):=by
 unfold VU at h
 have hn:(v=.slice none 0 0∧l=[])∨∃a n c,v=.slice (some a) n c:=by
  rcases hs.at_ with⟨a,rfl,e⟩ | ⟨b,off,cap,rfl,_⟩
  cases a with
  | none=>exact .inl ⟨rfl,e⟩
  | some a=>exact .inr ⟨_,_,_,rfl⟩
  exact .inr ⟨_,_,_,rfl⟩
 refine T3.enter Tryz.func82 rfl rfl ?_
 refine V (O E (U ?_))
 rcases hn with⟨rfl,rfl⟩ | ⟨a,n,c,rfl⟩
 refine AG (V (J E (Uo E Gj E E (U (Qa E (V (O E (U (AJ (Ab (O6 55 2 AX ?_)))))))))))
 obtain rfl:r=[]:=by
  rw[DR,if_pos zS]at h
  simpa using h.symm
 exact Bm [0] 1 (C1 E E) E E ⟨_,E,E⟩
 refine AG (V (J E (Uo E Gj E E (U (Cx E (AI (AH (V ?_))))))))
 refine XX E Gj HT zU fun b1=>?_
 refine CH AX 2 ([]:List BI) E zV E ?_
 refine J E ?_
 refine R6 0 h hs (sz:=2) (enc:=AX) zV E Gj HT lM NN E zD E E E (by simp[AX,Value.oneCell']) zU fun v1=>?_
 refine O E (U (AJ ?_))
 exact Bm [0] 1 (C1 E E) E E ⟨_,E,E⟩
def Sw(l:List BI):Option Bool:=if l.length≤1099511627776 then some (Dm l)else none
theorem ka{v:Value}{l:List BI}{r:Bool}(h:Sw l=some r)(hk:B6 K w0 AX 2 v l):zC K w0 79 [v] [] H (fun u M=>u=vB r∧M=[]):=by
 unfold Sw at h
 split at h
 rename_i hl
 obtain rfl:=zI h
 exact QC v l hk hk.cells1 hl
 cases h
end

section
variable {K:Nat→Prop}{w0:World}{H:List AV}
def FL(p0:List BI):Option (UInt32×Int):=
 (Sw p0).bind fun y1=>
 ret (!y1) fun x1=>
 cond x1
 (
  some (0,40))
 (
  ret (decide ((p0.length:Int)=0)) fun x2=>
  cond x2
  (
   some (0,41))
  (
   (BB p0 (wI ((p0.length:Int)-1))).bind fun x3=>
   some (x3.gen,0)))
theorem PB{DA:Value}{p0:List BI}{r:UInt32×Int}(h:FL p0=some r)(hs0_:B6 K w0 AX 2 DA p0):zC K w0 52 [DA] [] H (fun u M=>u=.tuple #[Y r.1,vI r.2]∧M=[]):=by
 unfold FL at h
 refine T3.enter Tryz.func52 rfl rfl ?_
 refine V (O E (O E (U (AG (AM (V ?_))))))
 refine AD h fun y1 hy1 h=>?_
 obtain⟨x1,ex1,h⟩:=Bu h
 refine J E (AP 0 fi (ka hy1 hs0_) E (CT E E ?_))
 refine Ai (u:=vB x1) E E (congrArg vB ex1) ?_
 refine U ?_
 refine AL h E (fun hc1 h=>?_) fun hc1 h=>?_
 refine V (O E (O E (U (AJ (BC (Ab ?_))))))
 obtain rfl:=zI h
 exact AW [] 0 E E E
 refine V ?_
 obtain⟨x2,ex2,h⟩:=Bu h
 refine J E (B3 hs0_ E Gj E (Z E Bq ?_))
 refine Ai (u:=vB x2) E E (congrArg vB ex2) ?_
 refine U ?_
 refine AL h E (fun hc2 h=>?_) fun hc2 h=>?_
 refine V (O E (O E (U (AJ (BC (Ab ?_))))))
 obtain rfl:=zI h
 exact AW [] 0 E E E
 refine AI (Aj (AH (V ?_)))
 refine AD h fun x3 hx3 h=>?_
 refine J E (J E (B3 hs0_ E Gj E (Z E DI ?_)))
 refine DD hx3 hs0_ E Gj HT E E fun be1 of1 hc3=>?_
 refine AE E HQ ?_
 refine Bk E A2 E (Du (j:=0) hc3 E) ?_
 refine O E (O E (U (AJ ?_)))
 obtain rfl:=zI h
 exact AW [] 0 E E E
def Jp(p0:Eu):Option Bool:=
 (It (((decide (0<p0.cnt))&&(decide (0<p0.gen)))&&(decide (p0.rows≤1000))) ((D8 (⟨p0.page,p0.tag⟩:BQ)).bind fun y1=>some (y1))).bind fun y2=>
 some y2
theorem To{p0:Eu}{r:Bool}(h:Jp p0=some r): zC K w0 157 [.agg (Hm p0).toArray] [] H (fun u M=>u=vB r∧M=[]):=by
 unfold Jp at h
 refine T3.enter Tryz.func157 rfl rfl ?_
 refine V ?_
 refine Bc E E zU fun b1=>?_
 refine O E (U (V ?_))
 refine AD h fun y2 hy2 h=>?_
 refine AE E Lj (AF 0 HJ E ?_)
 refine Z E (NQ (b:=0)) ?_
 refine J E ?_
 refine Cl (c:=decide (0<p0.gen)) 6 4 10 E (fun hb k=>?_) (fun hb k=>?_) ?_
 refine AE E VL (AF 0 A2 E ?_)
 refine Z E (S9 (b:=0)) ?_
 refine Ag E E E ?_
 exact k.mono tL
 refine AC E (AC E (AC E (Ag E E E ?_)))
 exact k.mono tL
 refine J E ?_
 refine Cl (c:=decide (p0.rows≤1000)) 11 4 15 E (fun hb k=>?_) (fun hb k=>?_) ?_
 refine AE E VM (AF 0 A2 E ?_)
 refine Z E (NR (b:=1000)) ?_
 refine Ag E E E ?_
 exact k.mono tL
 refine AC E (AC E (AC E (Ag E E E ?_)))
 exact k.mono tL
 refine J E ?_
 refine GM 16 4 20 hy2 E (fun hb hg3 k=>?_) (fun hb k=>?_) ?_
 obtain⟨y1,hy1,hg3⟩:=EE hg3
 obtain rfl:=zI hg3
 refine AE rfl Ql (Ap [Y p0.page,vS p0.tag] rfl DK rfl rfl (Cw 0 rfl (by rintro(_ | (_ | j)) u hj<;>first | exact hj | exact absurd hj zS)) (AP 0 az ((NZ hy1 :)) rfl (Ag rfl rfl rfl ?_)))
 exact k.mono tL
 refine AC E (AC E (AC E (Ag E E E ?_)))
 exact k.mono tL
 refine O E (U (AJ ?_))
 obtain rfl:=zI h
 exact AW [] 1 E E E
def Ng(l1:List UInt8):Option (List UInt8):=
 some l1
def MK(p0:UInt64)(p1:Int)(nx_f_root_bytes_l1:List UInt8×Int→Option (List UInt8))(l2:List UInt8)(a1:Int):Option (List UInt8):=
 cond (decide (a1<p1))
 (
  (Qq (wI (8*a1))).bind fun n1=>
  (DR 1 l2 [(shr64 p0 n1).toUInt8]).bind fun l3=>
  nx_f_root_bytes_l1 (l3,wI (a1+1)))
 (
  Ng l2)
def Nh(p0:UInt64)(p1:Int):Nat→(List UInt8×Int)→Option (List UInt8):=CN fun nx x=>MK p0 p1 nx x.1 x.2
def Gg(n:Nat)(p0:UInt64)(p1:Int):Option (List UInt8):=
 Nh p0 p1 n ([],0)
theorem Nr{n:Nat}{p0:UInt64}{p1:Int}{r:List UInt8}(h:Gg n p0 p1=some r): zC K w0 181 [AT p0,vI p1] [] H (fun u M=>u=vS r∧M=[]):=by
 unfold Gg at h
 refine T3.enter Tryz.func181 rfl rfl ?_
 refine V (O E (U (V (CB 5 1 Fg (O E (U ?_))))))
 refine A9 (α:=List UInt8×Value) (fun x=>Ng x.1=some r) (fun x=>[(5,x.2)]) (fun x=>AB 5 1 x.2 Fg x.1::H) ?_ (fun x D h=>?_)
 refine V (J E (J E (U (AM ?_))))
 refine SX.heap (SX.mono (BF (α:=Nat×List UInt8×Value×Int) (fun x=>Nh p0 p1 x.1 (x.2.1,x.2.2.2)=some r) (fun x=>[(0,AT p0),(5,x.2.2.1),(7,vI p1),(8,vI x.2.2.2)]) (fun x=>AB 5 1 x.2.2.1 Fg x.2.1::H) (fun x=>x.1) (fun x D h=>?_) (n,[],zN,0) h) tL) (BN [0] 1 E E E)
 obtain⟨m1,l2,v2,a1⟩:=x
 dsimp only at h
 rcases m1 with _ | m1
 cases (show(none:Option _)=some r from h)
 replace h:MK p0 p1 (Nh p0 p1 m1) l2 a1=some r:=h
 unfold MK at h
 try dsimp only
 refine V (Z E A8 (U (AG ?_)))
 refine AL h E (fun hc1 h=>?_) fun hc1 h=>?_
 refine AI (AH (AG (AM (V (J E (O E (U (AN ?_))))))))
 refine AD h fun n1 hn1 h=>?_
 refine AD h fun l3 hl3 h=>?_
 refine J E (J E (J E (Z E MP (Z E (cq hn1) (BG E E (FU Da DS) ?_)))))
 refine CD [_] rfl Cb Jx Ki ⟨rfl,trivial⟩ rfl rfl rfl zW rfl rfl zU fun b1=>?_
 refine CH Fg 1 ([(shr64 p0 n1).toUInt8]:List UInt8) E zV E ?_
 refine C5 1 hl3 (sz:=1) (enc:=Fg) zV E Cb Jx Vq Ki E zD E E E E (CL (sz:=1) (enc:=Fg) 0 zV E) (by simp[Fg,Value.oneCell']) zU fun v3=>?_
 refine O E (AY (Aj (AH (AN (Z E Bh (J E (AY ?_)))))))
 exact Au (m1,l3,v3,wI (a1+1)) h (Nat.lt_succ_self _) tL (BN [1] 2 E E E)
 refine A1 (A6 (Ba (A7 ?_)))
 exact Aq (l2,v2) h tL (BN [0] 1 E E E)
 obtain⟨l1,v1⟩:=x
 dsimp only at h
 unfold Ng at h
 try dsimp only
 refine V (J E (Gt 0 E Cb DS Cj E E (O E (U (AJ ?_)))))
 obtain rfl:=zI h
 exact AW [] 1 E E E
def Ok(p0:List (List UInt8)):Option (List UInt8):=
 (bX p0 []).bind fun y1=>
 some y1
theorem ae{DA:Value}{p0:List (List UInt8)}{r:List UInt8}(h:Ok p0=some r)(hs0_:B6 K w0 eS 1 DA p0):zC K w0 180 [DA] [] H (fun u M=>u=vS r∧M=[]):=by
 unfold Ok at h
 refine T3.enter Tryz.func180 rfl rfl ?_
 refine V (O E (U (V ?_)))
 refine AD h fun y1 hy1 h=>?_
 refine J E (AP 0 pc (qu hy1 hs0_) E (O E (U (AJ ?_))))
 obtain rfl:=zI h
 exact AW [] 0 E E E
def M7(n:Nat)(p0:Eu):Option (List UInt8):=
 (Gg n p0.cnt 8).bind fun y1=>
 (Gg n p0.gen.toUInt64 4).bind fun y2=>
 (Gg n p0.rows.toUInt64 4).bind fun y3=>
 (Gg n p0.page.toUInt64 4).bind fun y4=>
 (Ok [[115,112,104,114],y1,y2,y3,y4,p0.tag]).bind fun y5=>
 some y5
theorem af{n:Nat}{p0:Eu}{r:List UInt8}(h:M7 n p0=some r): zC K w0 158 [.agg (Hm p0).toArray] [] H (fun u M=>u=vS r∧M=[]):=by
 unfold M7 at h
 refine T3.enter Tryz.func158 rfl rfl ?_
 refine V ?_
 refine Bc E E zU fun b1=>?_
 refine O E (U (AG ?_))
 refine AD h fun y1 hy1 h=>?_
 refine AD h fun y2 hy2 h=>?_
 refine AD h fun y3 hy3 h=>?_
 refine AD h fun y4 hy4 h=>?_
 refine AD h fun y5 hy5 h=>?_
 refine Av DH [0] (CA [(true,0),(true,1),(true,3),(true,4),(true,5),(true,7),(true,8),(true,9),(true,11),(true,12),(true,13),(true,14),(true,16),(true,17),(true,18),(false,2),(false,6),(false,10),(false,15)] (.last 19 (C7 [(false,20),(false,21)]))) zK (AE E Lj (AF 0 HJ E (AE E VL (AF 0 A2 E (BG E E (C2 CP Da) (AE E VM (AF 0 A2 E ?_)))))))
 refine BG E E (C2 CP Da) (AE E Ql (AE E FR (AF 0 A2 E (BG E E (C2 CP Da) (AE E Ql (AE E M9 (AF 0 Gd E ?_)))))))
 refine BP 0 XJ (Nr hy1) E ⟨⟨0,E⟩,zT⟩ (BP 0 XJ (Nr hy2) E ⟨⟨0,E⟩,zT⟩ (BP 0 XJ (Nr hy3) E ⟨⟨0,E⟩,zT⟩ (BP 0 XJ (Nr hy4) E ⟨⟨0,E⟩,zT⟩ (BY ?_))))
 refine CD [_,_,_,_,_,_] rfl El HS Ta ⟨rfl,rfl,rfl,rfl,rfl,rfl,trivial⟩ rfl rfl rfl (by first | (simp[Value.cells];done) | (intro v hv;simp only[List.mem_cons,List.not_mem_nil,or_false]at hv;rcases hv with rfl | rfl | rfl | rfl | rfl | rfl<;>rfl)) rfl rfl zU fun b2=>?_
 refine CH eS 1 ([[115,112,104,114],y1,y2,y3,y4,p0.tag]:List (List UInt8)) E zV E ?_
 refine Bg (vs:=[_]) (Hin:=[_]) (Hr:=_::_) E E ⟨E,zT⟩ pI E E (Co (B:=[_]) (Hin:=[]) fun K' w1 hk hB=>ae hy5 (CO (e:=9) (v:=.slice (some ⟨b2,0,none⟩) 6 6) zV (hB _ zS))) ?_
 rintro _ _ ⟨_,rfl,rfl,rfl⟩
 refine⟨trivial,?_⟩
 refine O E (U (AJ ?_))
 obtain rfl:=zI h
 exact AW [] 2 E E E
def KU(n:Nat)(p0:Eu):Option (List UInt8×Int):=
 (Jp p0).bind fun y1=>
 cond (!y1)
 (
  some ([],120))
 (
  (M7 n p0).bind fun y2=>
  some (y2,0))
theorem PD{n:Nat}{p0:Eu}{r:List UInt8×Int}(h:KU n p0=some r): zC K w0 120 [.agg (Hm p0).toArray] [] H (fun u M=>u=.tuple #[vS r.1,vI r.2]∧M=[]):=by
 unfold KU at h
 refine T3.enter Tryz.func120 rfl rfl ?_
 refine V ?_
 refine Bc E E zU fun b1=>?_
 refine O E (O E (U (AG (V ?_))))
 refine AD h fun y1 hy1 h=>?_
 refine Ap [AT p0.cnt,Y p0.gen,Y p0.rows,Y p0.page,vS p0.tag] E I0 E E (Ah 0 E) (AP 0 iI ((To hy1 :)) E (CT E E (U ?_)))
 refine AL h E (fun hc1 h=>?_) fun hc1 h=>?_
 refine V (O E (O E (U (AJ (Ab ?_)))))
 obtain rfl:=zI h
 exact AW [] 1 E E E
 refine AI (AH (V ?_))
 refine AD h fun y2 hy2 h=>?_
 refine Ap [AT p0.cnt,Y p0.gen,Y p0.rows,Y p0.page,vS p0.tag] E I0 E E (Ah 0 E) (AP 0 ot ((af hy2 :)) E (O E (O E (U (AJ ?_)))))
 obtain rfl:=zI h
 exact AW [] 1 E E E
def Oj(p0:UInt64):Option UInt32:=
 ret ((p0 &&& 1).toUInt32) fun x1=>
 some x1
theorem Q7{p0:UInt64}{r:UInt32}(h:Oj p0=some r): zC K w0 122 [AT p0] [] H (fun u M=>u=Y r∧M=[]):=by
 unfold Oj at h
 refine T3.enter Tryz.func122 rfl rfl ?_
 refine V (O E (U (V ?_)))
 obtain⟨x1,ex1,h⟩:=Bu h
 refine J E ?_
 refine Z E (O2 (b:=1)) ?_
 refine BG E E (NT Da CP) ?_
 refine Ai (u:=Y x1) E E (congrArg Y ex1) ?_
 refine U (AJ ?_)
 obtain rfl:=zI h
 exact AW [] 0 E E E
def M6(p0:UInt64)(p1:UInt32)(p2:Int)(p3:BQ):Option (Eu×Int):=
 ret (decide (p0+1=0)) fun x1=>
 cond x1
 (
  some ((⟨0,0,0,0,[]⟩:Eu),72))
 (
  (Sq ((decide (p2<0))||(decide (1000<p2))) ((Jp (⟨p0+1,p1,E4 p2,p3.page,p3.tag⟩:Eu)).bind fun y1=>some (!y1))).bind fun y2=>
  cond y2
  (
   some ((⟨0,0,0,0,[]⟩:Eu),120))
  (
   some ((⟨p0+1,p1,E4 p2,p3.page,p3.tag⟩:Eu),0)))
theorem Q6{p0:UInt64}{p1:UInt32}{p2:Int}{p3:BQ}{r:Eu×Int}(h:M6 p0 p1 p2 p3=some r): zC K w0 119 [AT p0,Y p1,vI p2,.agg (Bz p3).toArray] [] H (fun u M=>u=.tuple #[.agg (Hm r.1).toArray,vI r.2]∧M=[]):=by
 unfold M6 at h
 refine T3.enter Tryz.func119 rfl rfl ?_
 refine V ?_
 refine Bc E E zU fun b1=>?_
 refine Al E LS zU fun b2=>?_
 refine O E (U (V (J E ?_)))
 refine Z E (H9 (b:=1)) ?_
 refine J E (J E (BG E E (QV Jg CP) (Ap [Y p3.page,vS p3.tag] E DK E E (Ah 1 E) (B5 [_,_,_,_] E UW UV LS ⟨E,E,E,E,zT⟩ E ?_))))
 refine Al E LS zU fun b3=>?_
 refine A5 0 E E E E NF E E E zT (U (AG (AM (V ?_))))
 obtain⟨x1,ex1,h⟩:=Bu h
 refine AE E Lj (AF 0 HJ E ?_)
 refine Z E (MO (b:=0)) ?_
 refine Ai (u:=vB x1) E E (congrArg vB ex1) ?_
 refine U ?_
 refine AL h E (fun hc1 h=>?_) fun hc1 h=>?_
 refine V (B5 [] E UW UV LS zT E (A5 1 E E E E NF E E E zT (O E (U (AJ (BC (Ab ?_)))))))
 obtain rfl:=zI h
 exact Ae (EN E (B9 1 (Hm (⟨0,0,0,0,[]⟩:Eu)) I0 E E E E) E) (Ad (M:=[]) ⟨E,E⟩ fun _ hw=>BX.pick (H:=[_,_,_]) hw [] 3 E)
 refine V ?_
 refine AD h fun y2 hy2 h=>?_
 refine J E (Z E A8 (J E ?_))
 refine Eg (c:=decide (1000<p2)) 26 3 29 E (fun hb k=>?_) (fun hb k=>?_) ?_
 refine AC E (AC E (Ag E E E ?_))
 exact k.mono tL
 refine J E (Z E Cu (Ag E E E ?_))
 exact k.mono tL
 refine J E ?_
 refine Oc 30 4 34 hy2 E (fun hb k=>?_) (fun hb hg2 k=>?_) ?_
 refine AC E (AC E (AC E (Ag E E E ?_)))
 exact k.mono tL
 obtain⟨y1,hy1,hg2⟩:=EE hg2
 obtain rfl:=zI hg2
 refine Ap [AT (p0+1),Y p1,Y (E4 p2),Y p3.page,vS p3.tag] E I0 E E (Ah 0 E) (AP 0 iI ((To hy1 :)) E (CT E E (Ag E E E ?_)))
 exact k.mono tL
 refine O E (U ?_)
 refine AL h E (fun hc2 h=>?_) fun hc2 h=>?_
 refine V (B5 [] E UW UV LS zT E (A5 1 E E E E NF E E E zT (O E (U (AJ (BC (Ab ?_)))))))
 obtain rfl:=zI h
 exact Ae (EN E (B9 1 (Hm (⟨0,0,0,0,[]⟩:Eu)) I0 E E E E) E) (Ad (M:=[]) ⟨E,E⟩ fun _ hw=>BX.pick (H:=[_,_,_]) hw [] 3 E)
 refine AI (Aj (AH (V (Ap [AT (p0+1),Y p1,Y (E4 p2),Y p3.page,vS p3.tag] E I0 E E (Ah 0 E) (A5 1 E E E E NF E E E zT (O E (U (AJ ?_))))))))
 obtain rfl:=zI h
 exact Ae (EN E (B9 1 (Hm (⟨p0+1,p1,E4 p2,p3.page,p3.tag⟩:Eu)) I0 E E E E) E) (Ad (M:=[]) ⟨E,E⟩ fun _ hw=>BX.pick (H:=[_,_,_]) hw [] 3 E)
end

section
variable {K:Nat→Prop}{w0:World}{H:List AV}
def Gk(p0:Ak)(p1:UInt64):Option Int:=
 (Fh p0.id p1).bind fun y1=>
 some y1
theorem Qe{p0:Ak}{p1:UInt64}{r:Int}(h:Gk p0 p1=some r): zC K w0 144 [.agg (AU p0).toArray,AT p1] [] H (fun u M=>u=vI r∧M=[]):=by
 unfold Gk at h
 refine T3.enter Tryz.func144 rfl rfl ?_
 refine V ?_
 refine Bc E E zU fun b1=>?_
 refine O E (U (V ?_))
 refine AD h fun y1 hy1 h=>?_
 refine AE E Pz (AF 0 HJ E (J E (AP 0 og (Rr hy1) E (O E (U (AJ ?_))))))
 obtain rfl:=zI h
 exact AW [] 1 E E E
def CR(p0:List Ak)(p1:UInt64)(a1:Int):Option (Int×Bool):=
 (It (decide (a1<(p0.length:Int))) ((BB p0 a1).bind fun x3=>(Gk x3 p1).bind fun y2=>some (decide (y2=0)))).bind fun y3=>
 some (a1,y3)
def CM(p0:List Ak)(p1:UInt64)(nx_f_slices_BinarySearchFunc_api_Row_api_Row_uint64_l1:Int×Int→Option (Int×Bool))(a2:Int)(a3:Int):Option (Int×Bool):=
 cond (decide (a2<a3))
 (
  ret (wI ((shr64 (Cq (wI (a2+a3))) 1).toNat:Int)) fun x1=>
  (BB p0 x1).bind fun x2=>
  (Gk x2 p1).bind fun y1=>
  cond (decide (y1<0))
  (
   ret (wI (x1+1)) fun i_1=>
   nx_f_slices_BinarySearchFunc_api_Row_api_Row_uint64_l1 (i_1,a3))
  (
   nx_f_slices_BinarySearchFunc_api_Row_api_Row_uint64_l1 (a2,x1)))
 (
  CR p0 p1 a2)
def CS(p0:List Ak)(p1:UInt64):Nat→(Int×Int)→Option (Int×Bool):=CN fun nx x=>CM p0 p1 nx x.1 x.2
def Ct(n:Nat)(p0:List Ak)(p1:UInt64):Option (Int×Bool):=
 CS p0 p1 n (0,(p0.length:Int))
theorem HR{n:Nat}{DA:Value}{p0:List Ak}{p1:UInt64}{r:Int×Bool}(h:Ct n p0 p1=some r)(hs0_:B6 K w0 AU 4 DA p0):zC K w0 143 [DA,AT p1,.func (.func 144) #[] #[]] [] H (fun u M=>u=.tuple #[vI r.1,vB r.2]∧M=[]):=by
 unfold Ct at h
 refine T3.enter Tryz.func143 rfl rfl ?_
 refine V (O E (O E (U (V (J E (B3 hs0_ E Cz E (O E (U (V (J E (O E (O E (U ?_)))))))))))))
 refine A9 (α:=Int) (fun x=>CR p0 p1 x=some r) (fun x=>[(0,DA),(1,AT p1),(2,.func (.func 144) #[] #[]),(8,vI (p0.length:Int)),(9,vI x)]) (fun x=>H) ?_ (fun a1 D h=>?_)
 refine AM ?_
 refine SX.heap (SX.mono (BF (α:=Nat×Int×Int) (fun x=>CS p0 p1 x.1 (x.2.1,x.2.2)=some r) (fun x=>[(0,DA),(1,AT p1),(2,.func (.func 144) #[] #[]),(8,vI (p0.length:Int)),(9,vI x.2.1),(10,vI x.2.2)]) (fun x=>H) (fun x=>x.1) (fun x D h=>?_) (n,0,(p0.length:Int)) h) tL) (BN [] 0 E E E)
 obtain⟨m1,a2,a3⟩:=x
 dsimp only at h
 rcases m1 with _ | m1
 cases (show(none:Option _)=some r from h)
 replace h:CM p0 p1 (CS p0 p1 m1) a2 a3=some r:=h
 unfold CM at h
 try dsimp only
 refine AG (V (J E (J E (Z E A8 (U ?_)))))
 refine AL h E (fun hc1 h=>?_) fun hc1 h=>?_
 refine AI (AH (AM (V ?_)))
 obtain⟨x1,ex1,h⟩:=Bu h
 refine J E (J E (Z E Bh (BG E E (E6 Jg Pf) ?_)))
 refine Z E (Fd.shr64 (n:=1)) ?_
 refine BG E E (nn Pf Jg) ?_
 refine Ai (u:=vI x1) E E (congrArg vI ex1) ?_
 refine U (V ?_)
 refine AD h fun x2 hx2 h=>?_
 refine AD h fun y1 hy1 h=>?_
 refine J E (J E (J E ?_))
 refine DD hx2 hs0_ E Cz Dq E E fun be1 of1 hc2=>?_
 refine Ap (AU x2) E GN E E (DM hc2) (J E (AP 0 iE ((Qe hy1 :)) E (Z E A8 (U ?_))))
 refine AL h E (fun hc3 h=>?_) fun hc3 h=>?_
 refine AN ?_
 obtain⟨i_1,ei_1,h⟩:=Bu h
 refine J E (Z E Bh ?_)
 refine Ai (u:=vI i_1) E E (congrArg vI ei_1) ?_
 refine AY (Aj ?_)
 exact Au (m1,i_1,a3) h (Nat.lt_succ_self _) tL (BN [] 0 E E E)
 refine AN (J E (O E (AY (Aj ?_))))
 exact Au (m1,a2,x1) h (Nat.lt_succ_self _) tL (BN [] 0 E E E)
 refine A1 (A6 (Ba (A7 ?_)))
 exact Aq a2 h tL (BN [] 0 E E E)
 unfold CR at h
 try dsimp only
 refine V ?_
 refine AD h fun y3 hy3 h=>?_
 refine J E (J E (J E (Z E A8 (J E ?_))))
 refine GM 39 9 48 hy3 E (fun hb hg1 k=>?_) (fun hb k=>?_) ?_
 obtain⟨x3,hx3,hg1⟩:=EE hg1
 obtain⟨y2,hy2,hg1⟩:=EE hg1
 obtain rfl:=zI hg1
 refine J E (J E (J E ?_))
 refine DD hx3 hs0_ E Cz Dq E E fun be2 of2 hc4=>?_
 refine Ap (AU x3) E GN E E (DM hc4) (J E (AP 0 iE ((Qe hy2 :)) E (Z E Bq (Ag E E E ?_))))
 exact k.mono tL
 refine AC E (AC E (AC E (AC E (AC E (AC E (AC E (AC E ?_)))))))
 refine Ag E E E ?_
 exact k.mono tL
 refine O E (O E (U (AJ ?_)))
 obtain rfl:=zI h
 exact AW [] 0 E E E
def IU(n:Nat)(p0:List Ak)(p1:UInt64):Option (Int×Bool):=
 (Ct n p0 p1).bind fun y1=>
 some (y1.1,y1.2)
theorem SH{n:Nat}{DA:Value}{p0:List Ak}{p1:UInt64}{r:Int×Bool}(h:IU n p0 p1=some r)(hs0_:B6 K w0 AU 4 DA p0):zC K w0 104 [DA,AT p1] [] H (fun u M=>u=.tuple #[vI r.1,vB r.2]∧M=[]):=by
 unfold IU at h
 refine T3.enter Tryz.func104 rfl rfl ?_
 refine V (O E (O E (U (V ?_))))
 refine AD h fun y1 hy1 h=>?_
 refine J E (J E (AP 0 oe (HR hy1 hs0_) E (Ac E E E (Ac E E E (O E (O E (U (AJ ?_))))))))
 obtain rfl:=zI h
 exact AW [] 0 E E E
def Hq(p0:Is)(y1:List UInt8):Option Int:=
 (Fo (⟨p0.id,p0.x,p0.y,y1⟩:Ak)).bind fun y2=>
 cond (!y2)
 (
  some 80)
 (
  some 0)
def KN(p0:Is):Option Int:=
 ret (decide (p0.kind=3)) fun x1=>
 cond x1
 (
  some 0)
 (
  ret (decide (p0.kind=2)) fun x2=>
  cond x2
  (
   Hq p0 [])
  (
   ret (decide (p0.kind=1)) fun x3=>
   cond x3
   (
    Hq p0 p0.txt)
   (
    some 2)))
theorem Xt{p0:Is}{r:Int}(h:KN p0=some r): zC K w0 136 [.agg (CE p0).toArray] [] H (fun u M=>u=vI r∧M=[]):=by
 unfold KN at h
 refine T3.enter Tryz.func136 rfl rfl ?_
 refine V ?_
 refine Bc E E zU fun b1=>?_
 refine O rfl (U (V (AE rfl YM (Ap [AT p0.id,Y p0.x,Y p0.y,vS p0.txt] rfl GN rfl rfl (Cw 0 rfl (by rintro(_ | (_ | (_ | (_ | j)))) u hj<;>first | exact hj | exact absurd hj zS)) ?_))))
 refine Al E HU zU fun b2=>?_
 refine A5 0 E E E E Dq E E E zT (U (AG (V (AE E VH (AF 1 FJ E (U (AM ?_)))))))
 refine A9 (α:=List UInt8) (fun x=>Hq p0 x=some r) (fun x=>[(3,vP b2 0)]) (fun x=>own b2 (.cells #[AT p0.id,Y p0.x,Y p0.y,vS x] 43)::H) ?_ (fun y1 D h=>?_)
 refine AM (AG (AM (AG (AM (AG (AG (V ?_)))))))
 obtain⟨x1,ex1,h⟩:=Bu h
 refine Z E Bq ?_
 refine Ai (u:=vB x1) E E (congrArg vB ex1) ?_
 refine U ?_
 refine AL h E (fun hc1 h=>?_) fun hc1 h=>?_
 refine A1 (A6 (A6 (A7 (AH (AG (V (O E (U (AJ (Ab (BC (Ab (BC (F9 (BC (Ab ?_))))))))))))))))
 obtain rfl:=zI h
 exact AW [] 2 E E E
 refine AI (AH (AG (V ?_)))
 obtain⟨x2,ex2,h⟩:=Bu h
 refine Z E Bq ?_
 refine Ai (u:=vB x2) E E (congrArg vB ex2) ?_
 refine U ?_
 refine AL h E (fun hc2 h=>?_) fun hc2 h=>?_
 refine A1 (A6 (A6 (Hf (A6 (A7 (AH (AN (AE E Ol (A5 0 E E E E HS E E E zT (AY (Aj ?_)))))))))))
 exact Aq [] h tL (BN [0] 2 E E E)
 refine AI (AH (V ?_))
 obtain⟨x3,ex3,h⟩:=Bu h
 refine Z E Bq ?_
 refine Ai (u:=vB x3) E E (congrArg vB ex3) ?_
 refine U ?_
 refine AL h E (fun hc3 h=>?_) fun hc3 h=>?_
 refine A1 (A6 (Hf (A6 (Hf (A6 (A7 ?_))))))
 exact Aq p0.txt h tL (BN [0] 2 E E E)
 refine AI (AH (A1 (Hf (A6 (Hf (A6 (Hf (jW (A7 (AH (V (O E (U (AJ ?_))))))))))))))
 obtain rfl:=zI h
 exact AW [] 2 E E E
 unfold Hq at h
 try dsimp only
 refine AG (AG (V ?_))
 refine AD h fun y2 hy2 h=>?_
 refine Ap [AT p0.id,Y p0.x,Y p0.y,vS y1] E GN E E (Ah 0 E) (AP 0 iD ((Qf hy2 :)) E (CT E E (U ?_)))
 refine AL h E (fun hc4 h=>?_) fun hc4 h=>?_
 refine V (O E (U (AJ (Ab (Ab (BC (Ab ?_)))))))
 obtain rfl:=zI h
 exact AW [] 1 E E E
 refine AI (AH (V (O E (U (AJ (Ab (BC (Ab ?_))))))))
 obtain rfl:=zI h
 exact AW [] 1 E E E
def Hp(p0:List Ak)(a1:Int)(l2:List Ak):Option (List Ak×Int):=
 (Ix p0 a1 (p0.length:Int)).bind fun l4=>
 (DR 32 l2 l4).bind fun l5=>
 some (l5,0)
def FM(p0:List Ak)(p1:Is)(y3:Int×Bool)(a1:Int)(y4:List UInt8):Option (List Ak×Int):=
 (Ix p0 0 y3.1).bind fun l1=>
 (Nu l1).bind fun y5=>
 cond (!decide (p1.kind=3))
 (
  (DR 32 y5 [(⟨p1.id,p1.x,p1.y,y4⟩:Ak)]).bind fun l3=>
  Hp p0 a1 l3)
 (
  Hp p0 a1 y5)
def Dh(n:Nat)(p0:List Ak)(p1:Is):Option (List Ak×Int):=
 (Fs n p0).bind fun y1=>
 cond (!y1)
 (
  some ([],80))
 (
  (KN p1).bind fun y2=>
  cond (!decide (y2=0))
  (
   some ([],y2))
  (
   (IU n p0 p1.id).bind fun y3=>
   ret ((!y3.2)&&(!decide (p1.kind=1))) fun x1=>
   cond x1
   (
    some ([],100))
   (
    ret ((!y3.2)&&(decide ((p0.length:Int)=1000))) fun x2=>
    cond x2
    (
     some ([],82))
    (
     cond y3.2
     (
      ret (wI (y3.1+1)) fun x3=>
      (BB p0 y3.1).bind fun x4=>
      cond ((decide (p1.kind=2))&&(!(decide (x4.id=p1.id)&&(decide (x4.x=p1.x)&&(decide (x4.y=p1.y)&&(decide (x4.txt=p1.txt)&&true))))))
      (
       FM p0 p1 y3 x3 x4.txt)
      (
       FM p0 p1 y3 x3 p1.txt))
     (
      FM p0 p1 y3 y3.1 p1.txt)))))
theorem Xs{n:Nat}{DA:Value}{p0:List Ak}{p1:Is}{r:List Ak×Int}(h:Dh n p0 p1=some r)(hs0_:B6 K w0 AU 4 DA p0):zC K w0 95 [DA,.agg (CE p1).toArray] [] H (fun u M=>∃v0:Value,u=.tuple #[v0,vI r.2]∧M=[AB 43 4 v0 AU r.1]):=by
 unfold Dh at h
 refine T3.enter Tryz.func95 rfl rfl ?_
 refine V ?_
 refine Bc E E zU fun b1=>?_
 refine CB 43 4 AU (O E (O E (U (AG (V ?_)))))
 refine AD h fun y1 hy1 h=>?_
 refine J E (AP 0 X9 (LW hy1 hs0_) E (CT E E (U ?_)))
 refine AL h E (fun hc1 h=>?_) fun hc1 h=>?_
 refine V (CB 43 4 AU (O E (O E (U (AJ (Ab ?_))))))
 obtain rfl:=zI h
 exact Bm [0] 3 (Ef E E E) E E ⟨(.slice none 0 0),E,E⟩
 refine AI (AH (AG (V ?_)))
 refine AD h fun y2 hy2 h=>?_
 refine Ap [vI p1.kind,AT p1.id,Y p1.x,Y p1.y,vS p1.txt] E Qz E E (Ah 1 E) (AP 0 ob ((Xt hy2 :)) E (O E (U (V (J E (Z E BJ (U ?_)))))))
 refine AL h E (fun hc2 h=>?_) fun hc2 h=>?_
 refine V (J E (CB 43 4 AU (O E (O E (U (AJ (Ab ?_)))))))
 obtain rfl:=zI h
 exact Bm [0] 3 (Ef E E E) E E ⟨(.slice none 0 0),E,E⟩
 refine AI (AH (V ?_))
 refine AD h fun y3 hy3 h=>?_
 refine J E (AE E YM (AE E Pz (AF 1 HJ E (AP 0 hQ (SH hy3 hs0_) E (J E (Ac E E E (Ac E E E ?_)))))))
 refine O E (O E (U (AG (AM (V ?_)))))
 obtain⟨x1,ex1,h⟩:=Bu h
 refine J E (CT E E (J E ?_))
 refine Cl (c := !decide (p1.kind=1)) 32 4 36 E (fun hb k=>?_) (fun hb k=>?_) ?_
 refine AE E VH (AF 1 FJ E (Z E BJ (Ag E E E ?_)))
 exact k.mono tL
 refine AC E (AC E (AC E (Ag E E E ?_)))
 exact k.mono tL
 refine Ai (u:=vB x1) E E (congrArg vB ex1) ?_
 refine U ?_
 refine AL h E (fun hc3 h=>?_) fun hc3 h=>?_
 refine V (CB 43 4 AU (O E (O E (U (AJ (BC (Ab ?_)))))))
 obtain rfl:=zI h
 exact Bm [0] 3 (Ef E E E) E E ⟨(.slice none 0 0),E,E⟩
 refine V ?_
 obtain⟨x2,ex2,h⟩:=Bu h
 refine J E (CT E E (J E ?_))
 refine Cl (c:=decide ((p0.length:Int)=1000)) 40 4 44 E (fun hb k=>?_) (fun hb k=>?_) ?_
 refine J E (B3 hs0_ E Cz E (Z E Bq (Ag E E E ?_)))
 exact k.mono tL
 refine AC E (AC E (AC E (Ag E E E ?_)))
 exact k.mono tL
 refine Ai (u:=vB x2) E E (congrArg vB ex2) ?_
 refine U ?_
 refine AL h E (fun hc4 h=>?_) fun hc4 h=>?_
 refine V (CB 43 4 AU (O E (O E (U (AJ (BC (Ab ?_)))))))
 obtain rfl:=zI h
 exact Bm [0] 3 (Ef E E E) E E ⟨(.slice none 0 0),E,E⟩
 refine AI (Aj (AH (V (J rfl (O rfl (U (V (AE rfl YM (Ap [AT p1.id,Y p1.x,Y p1.y,vS p1.txt] rfl GN rfl rfl (Cw 1 rfl (by rintro(_ | (_ | (_ | (_ | j)))) u hj<;>first | exact hj | exact absurd hj zS)) ?_)))))))))
 refine Al E HU zU fun b2=>?_
 refine A5 0 E E E E Dq E E E zT (U ?_)
 refine A9 (α:=Int×List UInt8) (fun x=>FM p0 p1 y3 x.1 x.2=some r) (fun x=>[(0,DA),(3,vP b1 0),(7,vI y3.1),(9,vI x.1),(10,vP b2 0)]) (fun x=>own b1 (.cells #[vI p1.kind,AT p1.id,Y p1.x,Y p1.y,vS p1.txt] 105)::own b2 (.cells #[AT p1.id,Y p1.x,Y p1.y,vS x.2] 43)::H) ?_ (fun x D h=>?_)
 refine V (J E (U ?_))
 refine AL h E (fun hc5 h=>?_) fun hc5 h=>?_
 refine V ?_
 obtain⟨x3,ex3,h⟩:=Bu h
 refine J E (Z E Bh ?_)
 refine Ai (u:=vI x3) E E (congrArg vI ex3) ?_
 refine U (V ?_)
 refine AD h fun x4 hx4 h=>?_
 refine J E (J E ?_)
 refine DD hx4 hs0_ E Cz Dq E E fun be1 of1 hc6=>?_
 refine Ap (AU x4) E GN E E (DM hc6) ?_
 refine Al E HU zU fun b3=>?_
 refine A5 0 E E E E Dq E E E zT (U ?_)
 refine aE [(0,DA),(3,vP b1 0),(7,vI y3.1),(9,vI x3),(10,vP b2 0),(11,vP b3 0)] (own b3 (.cells #[AT x4.id,Y x4.x,Y x4.y,vS x4.txt] 43)::own b2 (.cells #[AT p1.id,Y p1.x,Y p1.y,vS p1.txt] 43)::AB 43 4 zN AU []::own b1 (.cells #[vI p1.kind,AT p1.id,Y p1.x,Y p1.y,vS p1.txt] 105)::H) ?_ tL
 refine V (AE E VH (AF 3 FJ E (Z E Bq (J E ?_))))
 refine Cl (c := !(decide (x4.id=p1.id)&&(decide (x4.x=p1.x)&&(decide (x4.y=p1.y)&&(decide (x4.txt=p1.txt)&&true))))) 58 4 62 E (fun hb k=>?_) (fun hb k=>?_) ?_
 refine Ap [AT x4.id,Y x4.x,Y x4.y,vS x4.txt] E GN E E (Ah 0 E) (Ap [AT p1.id,Y p1.x,Y p1.y,vS p1.txt] E GN E E (Ah 1 E) ?_)
 refine TF E mE E E (CI E E (XP (a:=x4.id) (b:=p1.id)) (CI E E (IN (a:=x4.x) (b:=p1.x)) (CI E E (IN (a:=x4.y) (b:=p1.y)) (CI E E (SZ (a:=x4.txt) (b:=p1.txt)) II)))) ?_
 refine Ag E E E ?_
 exact k.mono tL
 refine AC E (AC E (AC E (Ag E E E ?_)))
 exact k.mono tL
 refine U ?_
 refine AL h E (fun hc7 h=>?_) fun hc7 h=>?_
 refine AN (AE E Ol (AF 0 Gd E (AE E Ol (A5 1 E E E E HS E E E zT (AY ?_)))))
 exact Aq (x3,x4.txt) h tL (BN [3,1] 4 E E E)
 refine AI ?_
 exact Aq (x3,p1.txt) h tL (BN [3,1] 4 E E E)
 refine AI ?_
 exact Aq (y3.1,p1.txt) h tL (BN [2,0] 3 E E E)
 obtain⟨a1,y4⟩:=x
 dsimp only at h
 unfold FM at h
 try dsimp only
 refine V ?_
 refine AD h fun l1 hl1 h=>?_
 refine AD h fun y5 hy5 h=>?_
 refine J E (J E (J E ?_))
 refine kz hl1 hs0_ E Cz Dq E E E fun v1 hs1=>?_
 refine Bg (vs:=[_]) (Hin:=[]) (Hr:=_::_::_) E E ⟨E,zT⟩ fg E E (Y1 hy5 hs1) ?_
 rintro v2 _ ⟨_,rfl,rfl⟩
 refine⟨trivial,?_⟩
 refine O E (U ?_)
 refine A9 (α:=List Ak×Value) (fun x=>Hp p0 a1 x.1=some r) (fun x=>[(0,DA),(9,vI a1),(12,x.2)]) (fun x=>AB 43 4 x.2 AU x.1::H) ?_ (fun x D h=>?_)
 refine V (AE E VH (AF 1 FJ E (Z E BJ (U ?_))))
 refine AL h E (fun hc8 h=>?_) fun hc8 h=>?_
 refine AN ?_
 refine AD h fun l3 hl3 h=>?_
 refine J E (Ap [AT p1.id,Y p1.x,Y p1.y,vS y4] E GN E E (Ah 2 E) ?_)
 refine CD [_] rfl Cz Dq HU ⟨rfl,trivial⟩ rfl rfl rfl zW rfl rfl zU fun b4=>?_
 refine CH AU 4 ([(⟨p1.id,p1.x,p1.y,y4⟩:Ak)]:List Ak) E zV E ?_
 refine C5 1 hl3 (sz:=4) (enc:=AU) zV E Cz Dq Xp HU E zD E E E E (CL (sz:=4) (enc:=AU) 0 zV E) (by simp[AU,Value.oneCell']) zU fun v4=>?_
 refine O E (AY ?_)
 exact Aq (l3,v4) h tL (BN [1] 4 E E E)
 refine AI ?_
 exact Aq (y5,v2) h tL (BN [0] 3 E E E)
 obtain⟨l2,v3⟩:=x
 dsimp only at h
 unfold Hp at h
 try dsimp only
 refine V ?_
 refine AD h fun l4 hl4 h=>?_
 refine AD h fun l5 hl5 h=>?_
 refine J E (J E (J E ?_))
 refine dF hl4 hs0_ E Cz Dq E E fun v5 hs2=>?_
 refine R6 0 hl5 hs2 (sz:=4) (enc:=AU) zV E Cz Dq Xp HU E zD E E E (by simp[AU,Value.oneCell']) zU fun v6=>?_
 refine O E (O E (U (AJ ?_)))
 obtain rfl:=zI h
 exact Bm [0] 1 (Ef E E E) E E ⟨v6,E,E⟩
def I6(n:Nat)(p0:List Ak)(p1:UInt64):Option (Ak×Int):=
 (Fs n p0).bind fun y1=>
 cond (!y1)
 (
  some ((⟨0,0,0,[]⟩:Ak),80))
 (
  (IU n p0 p1).bind fun y2=>
  cond (!y2.2)
  (
   some ((⟨0,0,0,[]⟩:Ak),100))
  (
   (BB p0 y2.1).bind fun x1=>
   some (x1,0)))
theorem aW{n:Nat}{DA:Value}{p0:List Ak}{p1:UInt64}{r:Ak×Int}(h:I6 n p0 p1=some r)(hs0_:B6 K w0 AU 4 DA p0):zC K w0 72 [DA,AT p1] [] H (fun u M=>u=.tuple #[.agg (AU r.1).toArray,vI r.2]∧M=[]):=by
 unfold I6 at h
 refine T3.enter Tryz.func72 rfl rfl ?_
 refine V ?_
 refine Al E HU zU fun b1=>?_
 refine O E (U (AG (V ?_)))
 refine AD h fun y1 hy1 h=>?_
 refine J E (AP 0 X9 (LW hy1 hs0_) E (CT E E (U ?_)))
 refine AL h E (fun hc1 h=>?_) fun hc1 h=>?_
 refine V (B5 [] E eL eJ HU zT E (A5 0 E E E E Dq E E E zT (O E (U (AJ (Ab ?_))))))
 obtain rfl:=zI h
 exact Ae (EN E (B9 0 (AU (⟨0,0,0,[]⟩:Ak)) GN E E E E) E) (Ad (M:=[]) ⟨E,E⟩ fun _ hw=>BX.pick (H:=[_]) hw [] 1 E)
 refine AI (AH (V ?_))
 refine AD h fun y2 hy2 h=>?_
 refine J E (J E (AP 0 hQ (SH hy2 hs0_) E (J E (Ac E E E (Ac E E E (O E (O E (U (AG (V ?_))))))))))
 refine J E (CT E E (U ?_))
 refine AL h E (fun hc2 h=>?_) fun hc2 h=>?_
 refine V (B5 [] E eL eJ HU zT E (A5 0 E E E E Dq E E E zT (O E (U (AJ (Ab ?_))))))
 obtain rfl:=zI h
 exact Ae (EN E (B9 0 (AU (⟨0,0,0,[]⟩:Ak)) GN E E E E) E) (Ad (M:=[]) ⟨E,E⟩ fun _ hw=>BX.pick (H:=[_]) hw [] 1 E)
 refine AI (AH (V ?_))
 refine AD h fun x1 hx1 h=>?_
 refine J E (J E ?_)
 refine DD hx1 hs0_ E Cz Dq E E fun be1 of1 hc3=>?_
 refine Ap (AU x1) E GN E E (DM hc3) (A5 0 E E E E Dq E E E zT (O E (U (AJ ?_))))
 obtain rfl:=zI h
 exact Ae (EN E (B9 0 (AU x1) GN E E E E) E) (Ad (M:=[]) ⟨E,E⟩ fun _ hw=>BX.pick (H:=[_]) hw [] 1 E)
end

section
variable {K:Nat→Prop}{w0:World}{H:List AV}
abbrev Pp:=Nat×Option (Value×List Ak)
def Yv(v0:Value)(s:Pp):Value:=s.2.elim v0 (·.1)
def WK(p0:List Ak)(s:Pp):List Ak:=s.2.elim p0 (·.2)
def Pi(s:Pp):AV:=AB 43 4 (Yv (.slice none 0 0) s) AU (WK [] s)
def bL(x:Value×Int):List Value:=[x.1,vI x.2]
def tx(n:Nat)(p0:List Ak)(ops:List Is)(s:Pp)(x:Value×Int)(s':Pp):Prop:=∃o m,ops[s.1]? = some o∧Dh n (WK p0 s) o=some (m,x.2)∧s'=(s.1+1,some (x.1,m))
def tw(n:Nat)(p0:List Ak)(ops:List Is)(s:Pp):Prop:=∀o,ops[s.1]? = some o→∃r,Dh n (WK p0 s) o=some r
theorem fN{n:Nat}{v0:Value}{p0:List Ak}{s:Pp}{o:Is}{r:List Ak×Int}(h:Dh n (WK p0 s) o=some r)(hs0:B6 K w0 AU 4 v0 p0):zC K w0 95 [Yv v0 s,.agg (CE o).toArray] [Pi s] H (fun u M=>∃v:Value,u=.tuple #[v,vI r.2]∧M=[Pi s,AB 43 4 v AU r.1]):=by
 refine T3.mono (Co (B:=[Pi s]) (Hin:=[]) (fun K' w1 hk hB=>Xs h ?_)) ?_
 obtain⟨k,_ | ⟨v,m⟩⟩:=s
 exact hs0.keeps hk
 exact CO (e:=43) (v:=v) zV (hB _ (by simp[Pi,Yv,WK]))
 rintro _ _ ⟨_,rfl,v,rfl,rfl⟩
 exact⟨v,rfl,rfl⟩
theorem ms{n:Nat}{v0 vo:Value}{p0:List Ak}{ops:List Is}(hs0:B6 K w0 AU 4 v0 p0)(hs1:B6 K w0 CE 5 vo ops)(hl:ops.length≤1000000)(bo bl:Nat):
  XD Tryz.prog K w0 134 [vP bo 0,vP bl 0] [own bo (.cells #[vo] 79),own bl (.cells #[v0] 22)] bL (fun s=>[Pi s]) (tx n p0 ops) (fun s=>ops.length≤s.1) (tw n p0 ops) (0,none):=by
 intro lp J9 X T rc G0 hy hdef h0
 refine T3.enter Tryz.func134 rfl rfl ?_
 show SX _ _ _ _ _ _ _ _ _ (own bo (.cells #[vo] 79)::own bl (.cells #[v0] 22)::Pi (0,none)::((rc::G0)++T))
 refine SX.pick [2,0,1] 3 (V (AF 1 Z1 E (B3 hs1 E Rq E (J E (U (AM ?_))))))
 refine SX.mono (BF (α:=Pp×List AV) (fun x=>J9 x.1 x.2) (fun x=>[(0,vY lp),(1,vP bo 0),(2,vP bl 0),(8,vo),(9,vI (ops.length:Int)),(10,vI x.1.1)])
  (fun x=>Pi x.1::own bo (.cells #[vo] 79)::own bl (.cells #[Yv v0 x.1] 22)::(x.2++T)) (fun x=>ops.length-x.1.1) (fun x D hp=>?_) ((0,none),rc::G0) h0) tL
 obtain⟨s,G⟩:=x
 have hJ:J9 s G:=hp
 clear hp
 dsimp only
 refine V (Z E A8 (U (AG ?_)))
 refine Ax E (fun hc1=>?_) (fun hc1=>?_)
 have hlt:s.1<ops.length:=by
  have:=of_decide_eq_true hc1
  omega
 clear hc1
 obtain⟨o,ho⟩:∃o,ops[s.1]? = some o:=⟨_,List.getElem?_eq_getElem hlt⟩
 obtain⟨r,hr⟩:=hdef _ _ hJ o ho
 have hn:BB ops ((s.1:Nat):Int)=some o:=by rw[Dp];exact ho
 refine AI (AH (AG (AM (V ?_))))
 refine DD hn hs1 E Rq Uc E E fun be of hc=>?_
 refine Ap (CE o) E Qz E E (DM hc) ?_
 refine Al E WR zU fun b0=>?_
 refine A5 0 E E E E Uc E E E zT (U (V (AF 3 Fa E (Ap (CE o) E Qz E E (Ah 0 E) (SL.pick [1,0] 2 (BO 1 fm (fN hr hs0) E ?_))))))
 rintro _ _ ⟨v1,rfl,rfl⟩
 refine J E (Ac E E E (Ac E E E (O E (O E (U (SX.pick [0,2,3,4,1] 5 (AG (V (J E (J E ?_))))))))))
 refine J E ?_
 refine HK (M2:=[_,_,_,_]) (G:=Pi (s.1+1,some (v1,r.1))::G) (T:=T) (vs:=[_,_]) (ok:=fun G1=>∃G2,G1=Pi (s.1+1,some (v1,r.1))::G2∧J9 (s.1+1,some (v1,r.1)) G2) (no:=X) E E ⟨E,E,zT⟩ E ?_ (fun bb G1 hG1=>⟨zT,?_⟩)
 intro M
 exact hy s (v1,r.2) (s.1+1,some (v1,r.1)) ⟨o,r.1,ho,hr,rfl⟩ G hJ M
 refine CT E E (U ?_)
 refine Ax E (fun hc3=>?_) (fun hc3=>?_)
 obtain rfl:bb=false:=by simpa using hc3
 refine AJ (Ab (BC (Ab (EB (BC ?_)))))
 exact Ae (Dr E) (Ad (M:=G1) (.inr hG1) fun _ h=>h.skip [_,_,_,_])
 obtain rfl:bb=true:=by simpa using hc3
 obtain⟨G2,rfl,hJ2⟩:=hG1
 refine AI (AH (AN (J E ?_)))
 refine C8 4 E fun hv1 ho1=>?_
 refine EA 3 E E E E Jf hv1 ho1 E zT (AY (Aj (AH (AN (Z E (Bf zO zO) (J E (AY ?_)))))))
 exact Au ((s.1+1,some (v1,r.1)),G2) hJ2 (by dsimp only;omega) tL (BN [4,2,3] 5 E E E)
 have hge:ops.length≤s.1:=by simpa using hc1
 refine A1 (A6 (Ba (A7 ?_)))
 exact DF (Dr E) (Ad (M:=Pi s::G) (.inl ⟨s,G,hge,E,hJ⟩) fun _ hw=>BX.pick (H:=[_,_,_]) hw [0] 3 E)
theorem na{v0 v1:Value}{p0:List Ak}{ops:List Is}(hs0:B6 K w0 AU 4 v0 p0)(hs1:B6 K w0 CE 5 v1 ops):zC K w0 93 [v0,v1] [] H (fun u M=>∃bo bl:Nat,u=.func (.func 134) #[] #[vP bo 0,vP bl 0]∧M=[own bo (.cells #[v1] 79),own bl (.cells #[v0] 22)]):=by
 refine T3.enter Tryz.func93 rfl rfl ?_
 refine V ?_
 refine QZ hs0 fun hv0 ho0=>?_
 refine XW hv0 E E zU fun b0=>?_
 refine QZ hs1 fun hv1 ho1=>?_
 refine XW hv1 E E zU fun b1=>?_
 refine O E (U (V ?_))
 refine GZ (fv:=#[]) (cv:=#[_,_]) E E E ?_
 refine O E (U (AJ ?_))
 exact Bm [0,1] 2 (C1 E E) E E ⟨_,_,E,E⟩
def Oe(n:Nat):List Is→List Ak→Int→Option (List Ak×Int×Int)
 | [],cur,_=>some (cur,0,0)
 | o::r,cur,at_=>(Dh n cur o).bind fun y=>cond (decide (y.2=0)) (Oe n r y.1 (at_+1)) (some ([],at_,y.2))
def Np(n:Nat)(l:List Ak)(ops:List Is):Option (List Ak×Int×Int):=(Fs n l).bind fun y=>cond (!y) (some ([],0,80)) (cond (decide ((ops.length:Int)=0)||decide (64<(ops.length:Int))) (some ([],0,101)) (Oe n ops l 0))
theorem kS{s:Pp}(h:s.2≠none)(v0:Value)(p0:List Ak):Pi s=AB 43 4 (Yv v0 s) AU (WK p0 s):=by
 obtain⟨k,_ | ⟨v,m⟩⟩:=s
 exact absurd rfl h
 rfl
theorem lP{n:Nat}{v0 v1:Value}{p0:List Ak}{ops:List Is}{r:List Ak×Int×Int}(h:Np n p0 ops=some r)(hs0:B6 K w0 AU 4 v0 p0)(hs1:B6 K w0 CE 5 v1 ops):zC K w0 62 [v0,v1] [] H (fun u M=>∃v:Value,u=.tuple #[v,vI r.2.1,vI r.2.2]∧M=[AB 43 4 v AU r.1]):=by
 unfold Np at h
 refine T3.enter Tryz.func62 rfl rfl ?_
 refine V (O E (O E (O E (U (Km (AG (AM (V ?_))))))))
 refine AD h fun y1 hy1 h=>?_
 refine J E (AP 0 X9 (LW hy1 hs0) E (CT E E (O E (U ?_))))
 refine AL h E (fun hc1 h=>?_) fun hc1 h=>?_
 refine V (O E (O E (O E (U (AJ (BC (Ab (Eb ?_))))))))
 obtain rfl:=zI h
 refine O6 43 4 AU ?_
 exact Bm [0] 1 (Ym E E E E) E E ⟨_,E,E⟩
 refine V (J E (B3 hs1 E Rq E (Z E Bq (J E ?_))))
 refine Eg (c:=decide (64<(ops.length:Int))) 20 4 24 E (fun hb k=>?_) (fun hb k=>?_) ?_
 refine AC E (AC E (AC E (Ag E E E ?_)))
 exact k.mono tL
 refine J E (B3 hs1 E Rq E (Z E Cu (Ag E E E ?_)))
 exact k.mono tL
 refine O E (U ?_)
 refine AL h E (fun hc2 h=>?_) fun hc2 h=>?_
 refine V (O E (O E (O E (U (AJ (BC (Ab (Eb ?_))))))))
 obtain rfl:=zI h
 refine O6 43 4 AU ?_
 exact Bm [0] 1 (Ym E E E E) E E ⟨_,E,E⟩
 have hl:0<ops.length∧ops.length≤64:=by
  simp only[Bool.or_eq_false_iff,decide_eq_false_iff_not]at hc2
  omega
 refine AI (Aj (AH (V ?_)))
 refine Al E ni zU fun b0=>?_
 refine A5 0 E E E E OT E E E zT (U (V (J E ?_)))
 refine Al E fA zU fun b1=>?_
 refine QZ hs0 fun hv0 ho0=>?_
 refine EA 0 E E E E Jf hv0 ho0 E zT (U (V ?_))
 refine Al E rF zU fun b2=>?_
 refine A5 0 E E E E eg E E E zT (U (AG (Kl (AH (AG (V (J E (J E (CB 43 4 AU (BO 0 sJ (na hs0 hs1) E ?_))))))))))
 rintro _ _ ⟨b3,b4,rfl,rfl⟩
 refine U (AM ?_)
 refine Qw (enc:=bL) (C:=fun s=>[Pi s]) (0,none) (G0:=own b2 (.cells #[vI 0] 30)::own b1 (.cells #[v0] 22)::own b0 (.cells #[vI 0] 3)::H)
  (fun s G=>Oe n (ops.drop s.1) (WK p0 s) s.1=some r∧(s.2=none→s.1=0)∧G=own b2 (.cells #[vI 0] 30)::own b1 (.cells #[Yv v0 s] 22)::own b0 (.cells #[vI s.1] 3)::H)
  (fun c G=>c=.exit 1∧∃v:Value,r.2.2≠0∧r.1=[]∧G=own b2 (.cells #[vI r.2.2] 30)::own b1 (.cells #[v] 22)::own b0 (.cells #[vI r.2.1] 3)::H)
  rfl oZ rfl zV (ms (n:=n) hs0 hs1 zO _ _) rfl ⟨h,fun _=>rfl,rfl⟩ ?_ (fun s x s1 G hst hJ lr lp Rest=>?_) (fun s G D hds hJ=>?_) (fun c G D hX=>?_)
 rintro s G ⟨h,-,-⟩ o ho
 obtain⟨hlt,hg⟩:=List.getElem?_eq_some_iff.1 ho
 rw[List.drop_eq_getElem_cons hlt,hg,Oe]at h
 obtain⟨y,hy,-⟩:=EE h
 exact⟨y,hy⟩
 obtain⟨h,-,rfl⟩:=hJ
 obtain⟨o,m,ho,hm,rfl⟩:=hst
 obtain⟨v,e⟩:=x
 obtain⟨hlt,hg⟩:=List.getElem?_eq_some_iff.1 ho
 rw[List.drop_eq_getElem_cons hlt,hg,Oe,hm]at h
 replace h:cond (decide (e=0)) (Oe n (ops.drop (s.1+1)) m (s.1+1)) (some ([],(s.1:Int),e))=some r:=h
 refine V (O E (U (AN (O E (AY (Jz (AM (AG (V (J E (Z E BJ (U ?_))))))))))))
 refine Ax E (fun hc3=>?_) (fun hc3=>?_)
 have he:e≠0:=by simpa using hc3
 rw[zf he,B0]at h
 obtain rfl:=zI h
 refine V (J E (A5 1 E E E E eg E E E zT (U (A1 (A6 (Hf ?_))))))
 exact N2 ⟨E,_,he,E,E⟩ (BN [1,2,3] 4 E E E)
 obtain rfl:e=0:=by simpa using hc3
 replace h:Oe n (ops.drop (s.1+1)) m (s.1+1)=some r:=h
 refine AI (AH (V (J E ?_)))
 refine C8 0 E fun hv1 ho1=>?_
 refine EA 2 E E E E Jf hv1 ho1 E zT (U (AN (AF 3 FJ E (Z E (Bf zO zO) (A5 3 E E E E OT E E E zT (AY (Aj ?_)))))))
 exact Hg ⟨_,E,h,(fun e=>absurd e zS),E⟩ (BN [0,1,2,3] 4 E E E)
 obtain⟨h,hn,rfl⟩:=hJ
 rw[List.drop_eq_nil_of_le hds,Oe]at h
 obtain rfl:=zI h
 have hs:s.2≠none:=fun e=>by
  have:=hn e
  omega
 refine SX.heap (H':=AB 43 4 (Yv v0 s) AU (WK p0 s)::own b2 (.cells #[vI 0] 30)::own b1 (.cells #[Yv v0 s] 22)::own b0 (.cells #[vI s.1] 3)::H) ?_ (fun _ hw=>by rw[←kS hs];exact hw) |> fun h=>Aj (AH h)
 refine AG (V (AF 1 Qo E (Z E BJ (U (Cx E (AI (AH (V (AF 2 Fa E (O E (O E (O E (U (AJ (Eb ?_)))))))))))))))
 exact Bm [0] 4 (Ym E E E E) E E ⟨_,E,E⟩
 obtain⟨rfl,v,he,hr,rfl⟩:=hX
 refine A1 (A7 (AH (AG (V (AF 0 Qo E (Z E BJ (U ?_)))))))
 refine Ax E (fun hc5=>?_) (fun hc5=>absurd hc5 (by simp[he]))
 refine AG (Av DH [0,2] (C7 [(true,0),(true,1),(true,2),(true,3),(true,4)]) zK (AF 1 FJ E (AF 0 Qo E (O E (O E (O E (U (AJ (Ab (Eb (O6 43 4 AU ?_)))))))))))
 exact Bm [0] 4 (Ym E E E E) E E ⟨_,E,by rw[hr]<;>rfl⟩
end

section
variable {K:Nat→Prop}{w0:World}{H:List AV}
abbrev Rm(bf:Nat)(vo x1 x2 x3:Value):AV:=own bf (.cells #[vo,x1,x2,x3] 85)
def tv(n:Nat)(v0:Value)(p0:List Ak)(ops:List Is)(s:Pp)(x:Value×Int)(s':Pp):Prop:=
 (s=(0,none)∧x=(v0,0)∧s'=(1,none))∨∃o m,s.1≠0∧ops[s.1-1]? = some o∧Dh n (WK p0 s) o=some (m,x.2)∧s'=(s.1+1,some (x.1,m))
def tu(n:Nat)(p0:List Ak)(ops:List Is)(s:Pp):Prop:=s.1≠0→∀o,ops[s.1-1]? = some o→∃r,Dh n (WK p0 s) o=some r
theorem kX{bf:Nat}{v0:Value}{p0:List Ak}(hs0:B6 K w0 AU 4 v0 p0):zC K w0 94 [vP bf 0,v0] [] H (fun u M=>∃bl bb:Nat,u=.func (.func 135) #[] #[vP bl 0,vP bb 0]∧M=[own bl (.cells #[v0] 22),own bb (.cells #[vP bf 0] 132)]):=by
 refine T3.enter Tryz.func94 rfl rfl ?_
 refine V ?_
 refine Bc E E zU fun b0=>?_
 refine QZ hs0 fun hv0 ho0=>?_
 refine XW hv0 E E zU fun b1=>?_
 refine O E (U (V ?_))
 refine GZ (fv:=#[]) (cv:=#[_,_]) E E E ?_
 refine O E (U (AJ ?_))
 exact Bm [0,1] 2 (C1 E E) E E ⟨_,_,E,E⟩
theorem kF{n bf:Nat}{v0 vo x1 x2 x3:Value}{p0:List Ak}{ops:List Is}(hs0:B6 K w0 AU 4 v0 p0)(hl:ops.length≤1000000)(bl bb:Nat):
  XD Tryz.prog K w0 135 [vP bl 0,vP bb 0] [own bl (.cells #[v0] 22),own bb (.cells #[vP bf 0] 132)] bL (fun s=>[Pi s,Rm bf vo x1 x2 x3,AB 105 5 vo CE ops]) (tv n v0 p0 ops) (fun s=>ops.length+1≤s.1) (tu n p0 ops) (0,none):=by
 intro lp J9 X T rc G0 hy hdef h0
 refine T3.enter Tryz.func135 rfl rfl ?_
 show SX _ _ _ _ _ _ _ _ _ (own bl (.cells #[v0] 22)::own bb (.cells #[vP bf 0] 132)::Pi (0,none)::Rm bf vo x1 x2 x3::AB 105 5 vo CE ops::((rc::G0)++T))
 refine AG (V (J E (AF 0 Fa E ?_)))
 refine HK (M2:=[_,_]) (G:=Pi (1,none)::Rm bf vo x1 x2 x3::AB 105 5 vo CE ops::(rc::G0)) (T:=T) (vs:=[_,_]) (ok:=fun G1=>∃G2,G1=Pi (1,none)::Rm bf vo x1 x2 x3::AB 105 5 vo CE ops::G2∧J9 (1,none) G2) (no:=X) E E ⟨E,E,zT⟩ E ?_ (fun bb0 G1 hG1=>⟨zT,?_⟩)
 intro M
 exact hy (0,none) (v0,0) (1,none) (.inl ⟨rfl,rfl,rfl⟩) (rc::G0) h0 M
 refine CT E E (U ?_)
 refine Ax E (fun hc1=>?_) (fun hc1=>?_)
 obtain rfl:bb0=false:=by simpa using hc1
 refine AJ (Ab ?_)
 exact Ae (Dr E) (Ad (M:=G1) (.inr hG1) fun _ h=>h.skip [_,_])
 obtain rfl:bb0=true:=by simpa using hc1
 obtain⟨G2,rfl,hJ2⟩:=hG1
 refine AI (AH (SX.pick [2,3,4,0,1] 5 (V (AF 4 tC E (AQ E E (AE E P0 (AF 1 Z1 E (Dj 2 E Rq E E (J E (U (AM ?_)))))))))))
 refine SX.heap (SX.mono (BF (α:=Pp×List AV) (fun x=>x.1.1≠0∧J9 x.1 x.2) (fun x=>[(0,vY lp),(1,vP bl 0),(15,vo),(16,vI (ops.length:Int)),(17,vI ((x.1.1-1:Nat):Int))])
  (fun x=>Pi x.1::Rm bf vo x1 x2 x3::AB 105 5 vo CE ops::own bl (.cells #[Yv v0 x.1] 22)::(x.2++T)) (fun x=>ops.length+1-x.1.1) (fun x D hp=>?_) ((1,none),G2) ⟨by simp,hJ2⟩) tL) (BN [0,1,2,3] 5 rfl rfl rfl)
 obtain⟨s,G⟩:=x
 obtain⟨hs1,hJ⟩:s.1≠0∧J9 s G:=hp
 dsimp only
 refine V (Z E A8 (U (AG ?_)))
 refine Ax E (fun hc1=>?_) (fun hc1=>?_)
 have hlt:s.1-1<ops.length:=by
  have:=of_decide_eq_true hc1
  omega
 clear hc1
 obtain⟨o,ho⟩:∃o,ops[s.1-1]? = some o:=⟨_,List.getElem?_eq_getElem hlt⟩
 obtain⟨r,hr⟩:=hdef _ _ hJ hs1 o ho
 have hn:BB ops ((s.1-1:Nat):Int)=some o:=by rw[Dp];exact ho
 refine AI (AH (AG (AM (V ?_))))
 refine B2 2 hn E Rq Uc E E E fun g m cp hv=>?_
 refine Ap (CE o) E Qz E E (KH (sz:=5) (enc:=CE) 2 zV E hv hn) ?_
 refine Al E WR zU fun b0=>?_
 refine A5 0 E E E E Uc E E E zT (U (V (AF 4 Fa E (Ap (CE o) E Qz E E (Ah 0 E) (SL.pick [1,0] 2 (BO 1 fm (fN hr hs0) E ?_))))))
 rintro _ _ ⟨v1,rfl,rfl⟩
 refine J E (Ac E E E (Ac E E E (O E (O E (U (SX.pick [0,2,5,1,3,4] 6 (AG (V (J E (J E ?_))))))))))
 refine J E ?_
 refine HK (M2:=[_,_,_]) (G:=Pi (s.1+1,some (v1,r.1))::Rm bf vo x1 x2 x3::AB 105 5 vo CE ops::G) (T:=T) (vs:=[_,_]) (ok:=fun G1=>∃G2,G1=Pi (s.1+1,some (v1,r.1))::Rm bf vo x1 x2 x3::AB 105 5 vo CE ops::G2∧J9 (s.1+1,some (v1,r.1)) G2) (no:=X) E E ⟨E,E,zT⟩ E ?_ (fun bb G1 hG1=>⟨zT,?_⟩)
 intro M
 exact hy s (v1,r.2) (s.1+1,some (v1,r.1)) (.inr ⟨o,r.1,hs1,ho,hr,rfl⟩) G hJ M
 refine CT E E (U ?_)
 refine Ax E (fun hc3=>?_) (fun hc3=>?_)
 obtain rfl:bb=false:=by simpa using hc3
 refine AJ (Ab (BC (Ab (EB (BC ?_)))))
 exact Ae (Dr E) (Ad (M:=G1) (.inr hG1) fun _ h=>h.skip [_,_,_])
 obtain rfl:bb=true:=by simpa using hc3
 obtain⟨G2,rfl,hJ2⟩:=hG1
 refine AI (AH (AN (J E ?_)))
 refine C8 3 E fun hv1 ho1=>?_
 refine EA 2 E E E E Jf hv1 ho1 E zT (AY (Aj (AH (AN (Z E (Bf zO zO) ?_)))))
 refine kp (v:=vI ((s.1+1-1:Nat):Int)) E (by rw[show((s.1+1-1:Nat):Int)=((s.1-1:Nat):Int)+1 by omega];rfl) ?_
 refine AY ?_
 exact Au ((s.1+1,some (v1,r.1)),G2) ⟨by simp,hJ2⟩ (by dsimp only;omega) tL (BN [3,4,5,2] 6 E E E)
 have hge:ops.length+1≤s.1:=by
  have:=of_decide_eq_false hc1
  omega
 refine A1 (A6 (Ba (A7 ?_)))
 exact DF (Dr E) (Ad (M:=Pi s::Rm bf vo x1 x2 x3::AB 105 5 vo CE ops::G) (.inl ⟨s,G,hge,E,hJ⟩) fun _ hw=>BX.pick (H:=[_,_,_,_]) hw [0,1,2] 4 E)
def LV(n:Nat):List Is→List Ak→Option (List Ak×Int)
 | [],cur=>some (cur,0)
 | o::r,cur=>(Dh n cur o).bind fun y=>cond (decide (y.2=0)) (LV n r y.1) (some ([],y.2))
def Vn(n:Nat)(f:DZ)(l:List Ak)(o:Is):Option (Int×DZ):=
 cond (decide ((f.ops.length:Int)=64)) (some (101,f)) (cond (decide (f.ops.length≤1000000)) ((LV n f.ops l).bind fun y=>cond (!decide (y.2=0)) (some (y.2,f)) ((Dh n y.1 o).bind fun z=>cond (decide (z.2=0)) ((DR 40 f.ops [o]).bind fun l=>some (z.2,{ f with ops:=l })) (some (z.2,f)))) none)
theorem oL{n bf bs:Nat}{v0 vo:Value}{f:DZ}{p0:List Ak}{o:Is}{r:Int×DZ}(h:Vn n f p0 o=some r)(hs0:B6 K w0 AU 4 v0 p0):
  zC K w0 63 [vP bf 0,v0,.agg (CE o).toArray] [Rm bf vo (vB f.isOpen) (vP bs 0) (vB f.closed),AB 105 5 vo CE f.ops] H (fun u M=>∃v:Value,u=vI r.1∧M=[Rm bf v (vB r.2.isOpen) (vP bs 0) (vB r.2.closed),AB 105 5 v CE r.2.ops]):=by
 unfold Vn at h
 refine T3.enter Tryz.func63 rfl rfl ?_
 refine V ?_
 refine Bc E E zU fun b0=>?_
 refine O E (U (Km (AG (V (J E (AQ E E (AE E P0 (AF 1 Z1 E (Dj 2 E Rq E E (Z E Bq (U ?_)))))))))))
 refine AL h E (fun hc1 h=>?_) fun hc1 h=>?_
 refine V (O E (U (AJ (Ab (Eb ?_)))))
 obtain rfl:=zI h
 exact Bm [1,2] 3 (C1 E E) E E ⟨_,E,E⟩
 have hl:f.ops.length≤1000000:=by
  rcases Nat.lt_or_ge 1000000 f.ops.length with hg | hg
  rw[zf zO,B0]at h
  cases h
  exact hg
 rw[zt hl,Cs]at h
 refine AD h fun y hy h=>?_
 refine AI (AH (V (J E ?_)))
 refine Al E fA zU fun b1=>?_
 refine QZ hs0 fun hv0 ho0=>?_
 refine EA 0 E E E E Jf hv0 ho0 E zT (U (V ?_))
 refine Al E rF zU fun b2=>?_
 refine A5 0 E E E E eg E E E zT (U (AG (Kl (AH (SX.pick [3,4,0,1,2] 5 (AG (V (J E (J E (CB 43 4 AU (BO 0 sK (kX hs0) E ?_)))))))))))
 rintro _ _ ⟨b3,b4,rfl,rfl⟩
 refine U (AM ?_)
 refine Qw (enc:=bL) (C:=fun s=>[Pi s,Rm bf vo (vB f.isOpen) (vP bs 0) (vB f.closed),AB 105 5 vo CE f.ops]) (0,none) (G0:=own b2 (.cells #[vI 0] 30)::own b1 (.cells #[v0] 22)::own b0 (.cells #[vI o.kind,AT o.id,Y o.x,Y o.y,vS o.txt] 105)::H)
  (fun s G=>LV n (f.ops.drop (s.1-1)) (WK p0 s)=some y∧(s.1=0→s.2=none)∧G=own b2 (.cells #[vI 0] 30)::own b1 (.cells #[Yv v0 s] 22)::own b0 (.cells #[vI o.kind,AT o.id,Y o.x,Y o.y,vS o.txt] 105)::H)
  (fun c G=>c=.exit 0∧∃(s:Pp) (v:Value),y.2≠0∧G=Pi s::Rm bf vo (vB f.isOpen) (vP bs 0) (vB f.closed)::AB 105 5 vo CE f.ops::own b2 (.cells #[vI y.2] 30)::own b1 (.cells #[v] 22)::own b0 (.cells #[vI o.kind,AT o.id,Y o.x,Y o.y,vS o.txt] 105)::H)
  rfl oa rfl zV (kF (n:=n) hs0 hl _ _) rfl ⟨hy,fun _=>rfl,rfl⟩ ?_ (fun s x s1 G hst hJ lr lp Rest=>?_) (fun s G D hds hJ=>?_) (fun c G D hX=>?_)
 rintro s G ⟨h,-,-⟩-o ho
 obtain⟨hlt,hg⟩:=List.getElem?_eq_some_iff.1 ho
 rw[List.drop_eq_getElem_cons hlt,hg,LV]at h
 obtain⟨y,hy,-⟩:=EE h
 exact⟨y,hy⟩
 obtain⟨h1,-,rfl⟩:=hJ
 obtain⟨v,e⟩:=x
 have hx:(e=0∧LV n (f.ops.drop (s1.1-1)) (WK p0 s1)=some y∧Yv v0 s1=v∧v.cells=#[v]∧v.oneCell'=true∧s1.1≠0)∨(∃(m:List Ak) (k:Nat),e≠0∧s1=(k,some (v,m))∧y=([],e))∨(∃(m:List Ak) (k:Nat),e=0∧s1=(k+1,some (v,m))∧LV n (f.ops.drop k) m=some y):=by
  rcases hst with⟨rfl,hx,rfl⟩ | ⟨o',m,h0,ho,hm,rfl⟩
  obtain⟨rfl,rfl⟩:=Prod.mk.inj hx
  exact .inl ⟨rfl,h1,rfl,hv0,ho0,by simp⟩
  obtain⟨hlt,hg⟩:=List.getElem?_eq_some_iff.1 ho
  rw[List.drop_eq_getElem_cons hlt,hg,LV,hm]at h1
  replace h1:cond (decide (e=0)) (LV n (f.ops.drop (s.1-1+1)) m) (some ([],e))=some y:=h1
  by_cases he:e=0
  rw[zt he,Cs,Nat.sub_add_cancel zO]at h1
  exact .inr (.inr ⟨m,s.1,he,rfl,h1⟩)
  rw[zf he,B0]at h1
  exact .inr (.inl ⟨m,s.1+1,he,rfl,(zI h1).symm⟩)
 refine V (O E (U (AN (O E (AY (Jz (AM (AG (V (J E (Z E BJ (U ?_))))))))))))
 refine Ax E (fun hc3=>?_) (fun hc3=>?_)
 have he:e≠0:=by simpa using hc3
 obtain⟨m,k,-,rfl,rfl⟩:∃(m:List Ak) (k:Nat),e≠0∧s1=(k,some (v,m))∧y=([],e):=by
  rcases hx with hx | hx | ⟨m,k,hx,-⟩
  exact absurd hx.1 he
  exact hx
  exact absurd hx he
 refine V (J E (A5 3 E E E E eg E E E zT (U (A1 (A6 (Hf ?_))))))
 exact N2 ⟨E,_,_,he,E⟩ (BN [0,1,2,3,4,5] 6 E E E)
 obtain rfl:e=0:=by simpa using hc3
 refine AI (AH (AN (J E ?_)))
 rcases hx with⟨-,h2,hv,hv1,ho1,h0⟩ | ⟨m,k,hx,-⟩ | ⟨m,k,-,rfl,h2⟩
 refine EA 4 E E E E Jf hv1 ho1 E zT (AY (Aj ?_))
 exact Hg ⟨_,E,h2,fun e=>absurd e h0,by rw[hv]⟩ (BN [0,1,2,3,4,5] 6 E E E)
 exact absurd rfl hx
 refine C8 0 E fun hv1 ho1=>?_
 refine EA 4 E E E E Jf hv1 ho1 E zT (AY (Aj ?_))
 exact Hg ⟨_,E,h2,(fun e=>absurd e zS),E⟩ (BN [0,1,2,3,4,5] 6 E E E)
 obtain⟨h1,-,rfl⟩:=hJ
 rw[List.drop_eq_nil_of_le zO,LV]at h1
 obtain rfl:=zI h1
 obtain⟨z,hz,h⟩:=EE (show(Dh n (WK p0 s) o).bind _=some r from h)
 refine Aj (AH (AG (V (AF 3 Qo E (Z E BJ (U (Cx E (AI (AH (V (AF 4 Fa E (Ap (CE o) E Qz E E (Ah 5 E) (BO 1 fm (fN hz hs0) E ?_)))))))))))))
 rintro _ _ ⟨v1,rfl,rfl⟩
 refine J E (Ac E E E (Ac E E E (O E (O E (U (AG (V (J E (Z E Bq (U ?_))))))))))
 refine AL h E (fun hc4 h=>?_) fun hc4 h=>?_
 refine AD h fun l hl1 h=>?_
 refine Av DH [2,6] (CA [(true,0),(true,1),(true,2),(true,3),(true,4),(true,5),(false,6),(false,7),(true,8),(true,9)] (.last 10 .nil)) zK (J E (J E (AQ E E (AE E P0 (AF 0 Z1 E (Ap (CE o) E Qz E E (Ah 1 E) ?_))))))
 refine CD [_] rfl Rq Uc WR ⟨rfl,trivial⟩ rfl rfl rfl zW rfl rfl (fun _=>⟨⟨3,rfl⟩,⟨7,rfl⟩,trivial⟩) fun b5=>?_
 refine CH CE 5 ([o]:List Is) E zV E ?_
 refine C5 4 hl1 (sz:=5) (enc:=CE) zV E Rq Uc rQ WR E zD E E E E (CL (sz:=5) (enc:=CE) 0 zV E) (by simp[CE,Value.oneCell']) (fun _=>⟨⟨3,E⟩,⟨7,E⟩,zT⟩) fun v2=>?_
 refine AQ E E (AE E P0 (BY ?_))
 refine C8 4 E fun hv2 ho2=>?_
 refine EA 3 E E E E nL hv2 ho2 E zT (U (V (J E (O E (U (AJ (Eb ?_)))))))
 obtain rfl:=zI h
 exact Bm [3,4] 8 (C1 E E) E E ⟨v2,E,E⟩
 refine AI (AH (V (J E (O E (U (AJ (Eb ?_)))))))
 obtain rfl:=zI h
 exact Bm [2,3] 7 (C1 E E) E E ⟨_,E,E⟩
 obtain⟨rfl,s,v,he,rfl⟩:=hX
 rw[zf he]at h
 obtain rfl:=zI (show some _=some r from h)
 refine A1 (A7 (AH (AG (V (AF 3 Qo E (Z E BJ (U ?_)))))))
 refine Ax E (fun hc5=>?_) (fun hc5=>absurd hc5 (by simp[he]))
 refine V (AF 3 Qo E (O E (U (AJ (Ab (Eb ?_))))))
 exact Bm [1,2] 6 (C1 E E) E E ⟨_,E,E⟩
end

section
variable {K:Nat→Prop}{w0:World}{H:List AV}
def Hc(p0:Af):Option Bool:=
 (Fz p0).bind fun y1=>
 ret (decide (y1.cnt=18446744073709551615)) fun x1=>
 some x1
theorem Rk{Ao BA B7:Nat}{B8:Value}{p0:Af}{r:Bool}(h:Hc p0=some r): zC K w0 53 [vP Ao 0] [own Ao (.cells #[vB p0.off,vB p0.isCut,vI p0.lasts,vI p0.counts,B8,.map (some BA),.map (some B7),AT p0.rcnt,vS p0.rtag,Y p0.rboots] 102),AB 9 1 B8 eS p0.blocks,Aa BA Y vS p0.pend,Aa B7 Y vB p0.bad] H (fun u M=>u=vB r∧M=[own Ao (.cells #[vB p0.off,vB p0.isCut,vI p0.lasts,vI p0.counts,B8,.map (some BA),.map (some B7),AT p0.rcnt,vS p0.rtag,Y p0.rboots] 102),AB 9 1 B8 eS p0.blocks,Aa BA Y vS p0.pend,Aa B7 Y vB p0.bad]):=by
 unfold Hc at h
 refine T3.enter Tryz.func53 rfl rfl ?_
 refine V (O E (U (V ?_)))
 refine AD h fun y1 hy1 h=>?_
 obtain⟨x1,ex1,h⟩:=Bu h
 refine J E (AP 4 ay (Mi hy1) E (XA E (show Zd Tryz.prog 38 0=some 0 by kernel_rfl) E E ?_))
 refine Z E (MO (b:=18446744073709551615)) ?_
 refine Ai (u:=vB x1) E E (congrArg vB ex1) ?_
 refine U (AJ ?_)
 obtain rfl:=zI h
 exact AW [0,1,2,3] 4 E E E
def KV(p0:Af)(p1:List BI):Option (Option (Bj×Aw)×Int×Af):=
 (FL p1).bind fun y1=>
 cond (!decide (y1.2=0))
 (
  some (none,y1.2,p0))
 (
  (Pw p0).bind fun y2=>
  cond (!decide (y2.2.1=0))
  (
   some (none,y2.2.1,y2.2.2))
  (
   (M8 y2.2.2 p1 y1.1 y2.1).bind fun y3=>
   (y3.1).bind fun d1=>
   (VU p1).bind fun y4=>
   some (some (({ rows:=[],pages:=[],gens:=[],ring:=y4,gen:=y1.1,bad:=false }:Bj),d1),y3.2,y2.2.2)))
theorem X5{Ao BA B7:Nat}{B8 Ea:Value}{p0:Af}{p1:List BI}{r:Option (Bj×Aw)×Int×Af}(h:KV p0 p1=some r)(hs1_:B6 K w0 AX 2 Ea p1):zC K w0 54 [vP Ao 0,Ea] [own Ao (.cells #[vB p0.off,vB p0.isCut,vI p0.lasts,vI p0.counts,B8,.map (some BA),.map (some B7),AT p0.rcnt,vS p0.rtag,Y p0.rboots] 102),AB 9 1 B8 eS p0.blocks,Aa BA Y vS p0.pend,Aa B7 Y vB p0.bad] H (fun u M=>(r.1=none∧u=.tuple #[.pointer none,vI r.2.1]∧M=[own Ao (.cells #[vB r.2.2.off,vB r.2.2.isCut,vI r.2.2.lasts,vI r.2.2.counts,B8,.map (some BA),.map (some B7),AT r.2.2.rcnt,vS r.2.2.rtag,Y r.2.2.rboots] 102),AB 9 1 B8 eS r.2.2.blocks,Aa BA Y vS r.2.2.pend,Aa B7 Y vB r.2.2.bad])∨(∃(d:Bj×Aw) (bn0:Nat) (vn0x0:Value) (vn0x1:Value) (vn0x2:Value) (vn0x5:Value) (bn1:Nat) (vn1x1:Value) (mn1x5:Nat),r.1=some d∧u=.tuple #[vP bn0 0,vI r.2.1]∧M=[own bn0 (.cells #[vn0x0,vn0x1,vn0x2,vP Ao 0,vP bn1 0,vn0x5,Y d.1.gen,vB d.1.bad] 95),AB 43 4 vn0x0 AU d.1.rows,AB 148 3 vn0x1 AS d.1.pages,Cy vn0x2 Y Y d.1.gens,AB 55 2 vn0x5 AX d.1.ring,own bn1 (.cells #[vP Ao 0,vn1x1,Y d.2.gen,Y d.2.boot,AT d.2.seals,.map (some mn1x5)] 137),AB 55 2 vn1x1 AX d.2.ring,Aa mn1x5 Y vB d.2.taken,own Ao (.cells #[vB r.2.2.off,vB r.2.2.isCut,vI r.2.2.lasts,vI r.2.2.counts,B8,.map (some BA),.map (some B7),AT r.2.2.rcnt,vS r.2.2.rtag,Y r.2.2.rboots] 102),AB 9 1 B8 eS r.2.2.blocks,Aa BA Y vS r.2.2.pend,Aa B7 Y vB r.2.2.bad])):=by
 unfold KV at h
 refine T3.enter Tryz.func54 rfl rfl ?_
 refine V (O E (O E (U (V ?_))))
 refine AD h fun y1 hy1 h=>?_
 refine J E (AP 0 fh (PB hy1 hs1_) E (J E (Ac E E E (Ac E E E (O E (O E (U (AG (V (J E ?_))))))))))
 refine Z E BJ (U ?_)
 refine AL h E (fun hc1 h=>?_) fun hc1 h=>?_
 refine V (J E (O E (O E (U (AJ (Ab ?_))))))
 obtain rfl:=zI h
 exact Ae (Ef E E E) (Ad (M:=[_,_,_,_]) (.inl ⟨E,E,E⟩) fun _ hw=>BX.pick (H:=[_,_,_,_]) hw [0,1,2,3] 4 E)
 refine AI (AH (V ?_))
 refine AD h fun y2 hy2 h=>?_
 refine J E (AP 4 sD (dO hy2) E (J E (Ac E E E (Ac E E E (O E (O E (U (AG (V (J E ?_))))))))))
 refine Z E BJ (U ?_)
 refine AL h E (fun hc2 h=>?_) fun hc2 h=>?_
 refine V (J E (O E (O E (U (AJ (Ab ?_))))))
 obtain rfl:=zI h
 exact Ae (Ef E E E) (Ad (M:=[_,_,_,_]) (.inl ⟨E,E,E⟩) fun _ hw=>BX.pick (H:=[_,_,_,_]) hw [0,1,2,3] 4 E)
 refine AI (AH (V ?_))
 refine AD h fun y3 hy3 h=>?_
 refine AD h fun d1 hd1 h=>?_
 refine J E (J E (J E (J E ?_)))
 refine Bg (vs:=[_,_,_,_]) (Hin:=[_,_,_,_]) (Hr:=_) E E ⟨E,E,E,E,zT⟩ sE E E (am hy3 hs1_) ?_
 rintro _ _ (⟨hn,-,-⟩ | ⟨d_,b1,v1,m1,hn,rfl,rfl⟩)
 rw[hd1]at hn;cases hn
 obtain rfl:d1=d_:=zI (hd1.symm.trans hn)
 refine⟨trivial,?_⟩
 refine J E (Ac E E E (Ac E E E (O E (O E (U (V ?_))))))
 refine AD h fun y4 hy4 h=>?_
 refine J E (J E (J E ?_))
 refine Bg (vs:=[_]) (Hin:=[]) (Hr:=_::_::_::_::_::_::_::_) E E ⟨E,zT⟩ sF E E (kZ hy4 hs1_) ?_
 rintro v2 _ ⟨_,rfl,rfl⟩
 refine⟨trivial,?_⟩
 refine J E ?_
 refine C8 0 E fun hv1 ho1=>?_
 refine R7 [vP Ao 0,vP b1 0,v2,Y y1.1] [#[vP Ao 0],#[vP b1 0],#[v2],#[Y y1.1]] (by simp only[List.map_cons,List.map_nil,hv1];rfl) E uR uL uf ⟨E,E,E,E,zT⟩ E ?_
 refine Bc E E zU fun b2=>?_
 refine CB 43 4 AU (CB 148 3 AS (kt Y Y (J E (O E (O E (U (AJ ?_)))))))
 obtain rfl:=zI h
 exact Ae (Ef E E E) (Ad (M:=[_,_,_,_,_,_,_,_,_,_,_,_]) (.inr ⟨_,b2,zN,zN,(.map none),v2,b1,v1,m1,E,E,E⟩) fun _ hw=>BX.pick (H:=[_,_,_,_,_,_,_,_,_,_,_,_]) hw [3,2,1,0,4,5,6,7,8,9,10,11] 12 E)
def EY(n:Nat)(T:List UInt32)(p0:Bj)(p0_1:Aw)(p0_2:Af)(p1:List Ak)(p2:List A4):Option (Int×Aw×Af):=
 (Iv p0_2).bind fun y1=>
 cond (!decide (y1.1=0))
 (
  some (y1.1,p0_1,y1.2))
 (
  (Fz y1.2).bind fun y2=>
  (BB p2 (wI ((p2.length:Int)-1))).bind fun x1=>
  (M6 y2.cnt p0.gen (p1.length:Int) (⟨x1.page,x1.tag⟩:BQ)).bind fun y3=>
  cond (!decide (y3.2=0))
  (
   some (y3.2,p0_1,y1.2))
  (
   (KU n y3.1).bind fun y4=>
   (Oj y3.1.cnt).bind fun y5=>
   (N8 T p0_1 y1.2 y5 y4.1).bind fun y6=>
   cond (!decide (y6.2.1=0))
   (
    some (y6.2.1,y6.2.2.1,y6.2.2.2))
   (
    (Iv y6.2.2.2).bind fun y7=>
    cond (!decide (y7.1=0))
    (
     some (y7.1,y6.2.2.1,y7.2))
    (
     (La y7.2 y6.1).bind fun y8=>
     some (y8.1,y6.2.2.1,y8.2)))))
theorem Mk{n Ao CC BL As Ay Az:Nat}{T:List UInt32}{Am AZ Ar BH BM A0 Ea GX:Value}{p0:Bj}{p0_1:Aw}{p0_2:Af}{p1:List Ak}{p2:List A4}{r:Int×Aw×Af}(h:EY n T p0 p0_1 p0_2 p1 p2=some r)(hS:Ge K w0 T)(hs1_:B6 K w0 AU 4 Ea p1)(hs2_:B6 K w0 AS 3 GX p2):zC K w0 84 [vP Ao 0,Ea,GX] [own Ao (.cells #[Am,AZ,Ar,vP As 0,vP CC 0,BH,Y p0.gen,vB p0.bad] 95),AB 43 4 Am AU p0.rows,AB 148 3 AZ AS p0.pages,Cy Ar Y Y p0.gens,AB 55 2 BH AX p0.ring,own CC (.cells #[vP As 0,BM,Y p0_1.gen,Y p0_1.boot,AT p0_1.seals,.map (some BL)] 137),AB 55 2 BM AX p0_1.ring,Aa BL Y vB p0_1.taken,own As (.cells #[vB p0_2.off,vB p0_2.isCut,vI p0_2.lasts,vI p0_2.counts,A0,.map (some Ay),.map (some Az),AT p0_2.rcnt,vS p0_2.rtag,Y p0_2.rboots] 102),AB 9 1 A0 eS p0_2.blocks,Aa Ay Y vS p0_2.pend,Aa Az Y vB p0_2.bad] H (fun u M=>u=vI r.1∧M=[own Ao (.cells #[Am,AZ,Ar,vP As 0,vP CC 0,BH,Y p0.gen,vB p0.bad] 95),AB 43 4 Am AU p0.rows,AB 148 3 AZ AS p0.pages,Cy Ar Y Y p0.gens,AB 55 2 BH AX p0.ring,own CC (.cells #[vP As 0,BM,Y r.2.1.gen,Y r.2.1.boot,AT r.2.1.seals,.map (some BL)] 137),AB 55 2 BM AX r.2.1.ring,Aa BL Y vB r.2.1.taken,own As (.cells #[vB r.2.2.off,vB r.2.2.isCut,vI r.2.2.lasts,vI r.2.2.counts,A0,.map (some Ay),.map (some Az),AT r.2.2.rcnt,vS r.2.2.rtag,Y r.2.2.rboots] 102),AB 9 1 A0 eS r.2.2.blocks,Aa Ay Y vS r.2.2.pend,Aa Az Y vB r.2.2.bad]):=by
 unfold EY at h
 refine T3.enter Tryz.func84 rfl rfl ?_
 refine V (O E (U (AG (V ?_))))
 refine AD h fun y1 hy1 h=>?_
 refine J E (AQ E E (AE E Ny (AF 0 MZ E (SL.pick [8,9,10,11,0,1,2,3,4,5,6,7] 12 (AP 4 XG (Pr hy1) E (O E (U (V (J E ?_)))))))))
 refine Z E BJ (U ?_)
 refine AL h E (fun hc1 h=>?_) fun hc1 h=>?_
 refine V (J E (O E (U (AJ (Ab ?_)))))
 obtain rfl:=zI h
 exact AW [4,5,6,7,8,9,10,11,0,1,2,3] 12 E E E
 refine AI (AH (AG ?_))
 refine AD h fun y2 hy2 h=>?_
 refine AD h fun x1 hx1 h=>?_
 refine AD h fun y3 hy3 h=>?_
 refine Av DH [4] (CA [(true,0),(true,1),(true,2),(true,3),(true,6),(true,7),(true,8),(true,9),(true,10),(true,11),(true,12),(true,13),(true,14),(true,15),(true,16),(true,17),(true,18)] (.alt 4 (CA [(true,5)] (.alt 19 (CA [(true,20),(true,21),(true,22),(false,23),(false,24)] (.last 25 .nil)) (.cons (false,23) (CA [(false,19),(true,20),(true,21),(true,22),(false,24)] (.last 25 .nil))))) (.cons (false,23) (CA [(false,4),(true,5),(false,19),(true,20),(true,21),(true,22),(false,24)] (.last 25 .nil))))) zK (J E (AQ E E (AE E Ny (AF 0 MZ E (J E (AQ E E (AE E bR ?_)))))))
 refine AF 0 A2 E (J E (B3 hs1_ E Cz E (J E (J E (B3 hs2_ E Iy E (Z E DI ?_))))))
 refine DD hx1 hs2_ E Iy JL E E fun be1 of1 hc2=>?_
 refine AE E JZ ?_
 refine Ap [Y x1.page,vS x1.tag] E DK E E (YC (d:=1) hc2 E) ?_
 refine Po ?_ ?_
 refine BP 4 ay (Mi hy2) E ⟨⟨4,E⟩,zT⟩ (XA E (show Zd Tryz.prog 38 0=some 0 by kernel_rfl) E E ?_)
 refine Po ?_ ?_
 refine BP 0 aq ((Q6 hy3 :)) E ⟨⟨4,E⟩,zT⟩ (J E (Ac E E E (Ac E E E ?_)))
 refine Al E LS (fun _=>⟨⟨5,E⟩,zT⟩) fun b1=>?_
 refine A5 0 E E E E NF E E E ⟨⟨5,E⟩,zT⟩ (BY (O E (U (AG (V (J E (Z E BJ (U ?_))))))))
 refine AL h E (fun hc3 h=>?_) fun hc3 h=>?_
 refine V (J E (O E (U (AJ (Ab ?_)))))
 obtain rfl:=zI h
 exact AW [5,6,7,8,9,10,11,12,1,2,3,4] 13 E E E
 refine AI (AH (V ?_))
 refine AD h fun y4 hy4 h=>?_
 refine Ap [AT y3.1.cnt,Y y3.1.gen,Y y3.1.rows,Y y3.1.page,vS y3.1.tag] E I0 E E (Ah 0 E) (AP 0 ar ((PD hy4 :)) E (J E (Ac E E E (Ac E E E (O E (O E (U (AG ?_))))))))
 refine AD h fun y5 hy5 h=>?_
 refine AD h fun y6 hy6 h=>?_
 refine Av DH [0,5] (CA [(true,0),(true,1),(true,2),(true,3),(true,4),(true,5),(true,7),(false,6),(false,8),(false,9),(true,10),(true,11),(false,12)] (.last 13 .nil)) zK (J E (AQ E E (AE E RJ (AF 1 Rp E (AE E Lj (AF 0 HJ E (J E ?_)))))))
 refine BP 0 av (Q7 hy5) E ⟨⟨0,E⟩,⟨5,E⟩,zT⟩ (SL.pick [10,11,12,1,2,3,4,0,5,6,7,8,9] 13 (BP 7 au (ST hy6 hS) E ⟨⟨7,E⟩,⟨8,E⟩,zT⟩ (J E (Ac E E E (Ac E E E (O E (BY (O E (U (AG (V ?_)))))))))))
 refine J E (Z E BJ (U ?_))
 refine AL h E (fun hc4 h=>?_) fun hc4 h=>?_
 refine V (J E (O E (U (AJ (Ab ?_)))))
 obtain rfl:=zI h
 exact AW [8,9,10,11,12,0,1,2,3,4,5,6] 13 E E E
 refine AI (AH (AG (V ?_)))
 refine AD h fun y7 hy7 h=>?_
 refine J E (AQ E E (AE E Ny (AF 8 MZ E (SL.pick [3,4,5,6,0,1,2] 7 (AP 4 XG (Pr hy7) E (O E (U (V (J E ?_)))))))))
 refine Z E BJ (U ?_)
 refine AL h E (fun hc5 h=>?_) fun hc5 h=>?_
 refine V (J E (O E (U (AJ (Ab ?_)))))
 obtain rfl:=zI h
 exact AW [8,9,10,11,12,4,5,6,0,1,2,3] 13 E E E
 refine AI (AH (V ?_))
 refine AD h fun y8 hy8 h=>?_
 refine J E (AQ E E (AE E Ny (AF 8 MZ E (J E (AP 4 aw (QB hy8) E (O E (U (AJ ?_))))))))
 obtain rfl:=zI h
 exact AW [8,9,10,11,12,4,5,6,0,1,2,3] 13 E E E
 refine Al E LS (fun _=>⟨⟨5,E⟩,zT⟩) fun b1=>?_
 refine BP 0 aq ((Q6 hy3 :)) E ⟨⟨5,E⟩,zT⟩ (J E (Ac E E E (Ac E E E (A5 0 E E E E NF E E E ⟨⟨5,E⟩,zT⟩ (BY (O E (U (AG (V (J E (Z E BJ (U ?_))))))))))))
 refine AL h E (fun hc3 h=>?_) fun hc3 h=>?_
 refine V (J E (O E (U (AJ (Ab ?_)))))
 obtain rfl:=zI h
 exact AW [5,6,7,8,9,10,11,12,1,2,3,4] 13 E E E
 refine AI (AH (V ?_))
 refine AD h fun y4 hy4 h=>?_
 refine Ap [AT y3.1.cnt,Y y3.1.gen,Y y3.1.rows,Y y3.1.page,vS y3.1.tag] E I0 E E (Ah 0 E) (AP 0 ar ((PD hy4 :)) E (J E (Ac E E E (Ac E E E (O E (O E (U (AG ?_))))))))
 refine AD h fun y5 hy5 h=>?_
 refine AD h fun y6 hy6 h=>?_
 refine Av DH [0,5] (CA [(true,0),(true,1),(true,2),(true,3),(true,4),(true,5),(true,7),(false,6),(false,8),(false,9),(true,10),(true,11),(false,12)] (.last 13 .nil)) zK (J E (AQ E E (AE E RJ (AF 1 Rp E (AE E Lj (AF 0 HJ E (J E ?_)))))))
 refine BP 0 av (Q7 hy5) E ⟨⟨0,E⟩,⟨5,E⟩,zT⟩ (SL.pick [10,11,12,1,2,3,4,0,5,6,7,8,9] 13 (BP 7 au (ST hy6 hS) E ⟨⟨7,E⟩,⟨8,E⟩,zT⟩ (J E (Ac E E E (Ac E E E (O E (BY (O E (U (AG (V ?_)))))))))))
 refine J E (Z E BJ (U ?_))
 refine AL h E (fun hc4 h=>?_) fun hc4 h=>?_
 refine V (J E (O E (U (AJ (Ab ?_)))))
 obtain rfl:=zI h
 exact AW [8,9,10,11,12,0,1,2,3,4,5,6] 13 E E E
 refine AI (AH (AG (V ?_)))
 refine AD h fun y7 hy7 h=>?_
 refine J E (AQ E E (AE E Ny (AF 8 MZ E (SL.pick [3,4,5,6,0,1,2] 7 (AP 4 XG (Pr hy7) E (O E (U (V (J E ?_)))))))))
 refine Z E BJ (U ?_)
 refine AL h E (fun hc5 h=>?_) fun hc5 h=>?_
 refine V (J E (O E (U (AJ (Ab ?_)))))
 obtain rfl:=zI h
 exact AW [8,9,10,11,12,4,5,6,0,1,2,3] 13 E E E
 refine AI (AH (V ?_))
 refine AD h fun y8 hy8 h=>?_
 refine J E (AQ E E (AE E Ny (AF 8 MZ E (J E (AP 4 aw (QB hy8) E (O E (U (AJ ?_))))))))
 obtain rfl:=zI h
 exact AW [8,9,10,11,12,4,5,6,0,1,2,3] 13 E E E
 refine Al E LS (fun _=>⟨⟨5,E⟩,zT⟩) fun b1=>?_
 refine SL.pick [1,2,3,4,0] 5 (BP 4 ay (Mi hy2) E ⟨⟨5,E⟩,zT⟩ (XA E (show Zd Tryz.prog 38 0=some 0 by kernel_rfl) E E (BP 0 aq ((Q6 hy3 :)) E ⟨⟨5,E⟩,zT⟩ (J E (Ac E E E (Ac E E E (A5 4 E E E E NF E E E ⟨⟨5,E⟩,zT⟩ (BY ?_))))))))
 refine O E (U (AG (V (J E (Z E BJ (U ?_))))))
 refine AL h E (fun hc3 h=>?_) fun hc3 h=>?_
 refine V (J E (O E (U (AJ (Ab ?_)))))
 obtain rfl:=zI h
 exact AW [5,6,7,8,9,10,11,12,0,1,2,3] 13 E E E
 refine AI (AH (V ?_))
 refine AD h fun y4 hy4 h=>?_
 refine Ap [AT y3.1.cnt,Y y3.1.gen,Y y3.1.rows,Y y3.1.page,vS y3.1.tag] E I0 E E (Ah 4 E) (AP 0 ar ((PD hy4 :)) E (J E (Ac E E E (Ac E E E (O E (O E (U (AG ?_))))))))
 refine AD h fun y5 hy5 h=>?_
 refine AD h fun y6 hy6 h=>?_
 refine Av DH [4,5] (CA [(true,0),(true,1),(true,2),(true,3),(true,4),(true,5),(true,7),(false,6),(false,8),(false,9),(true,10),(true,11),(false,12)] (.last 13 .nil)) zK (J E (AQ E E (AE E RJ (AF 1 Rp E (AE E Lj (AF 0 HJ E (J E ?_)))))))
 refine BP 0 av (Q7 hy5) E ⟨⟨4,E⟩,⟨5,E⟩,zT⟩ (SL.pick [10,11,12,0,1,2,3,4,5,6,7,8,9] 13 (BP 7 au (ST hy6 hS) E ⟨⟨7,E⟩,⟨8,E⟩,zT⟩ (J E (Ac E E E (Ac E E E (O E (BY (O E (U (AG (V ?_)))))))))))
 refine J E (Z E BJ (U ?_))
 refine AL h E (fun hc4 h=>?_) fun hc4 h=>?_
 refine V (J E (O E (U (AJ (Ab ?_)))))
 obtain rfl:=zI h
 exact AW [8,9,10,11,12,0,1,2,3,4,5,6] 13 E E E
 refine AI (AH (AG (V ?_)))
 refine AD h fun y7 hy7 h=>?_
 refine J E (AQ E E (AE E Ny (AF 8 MZ E (SL.pick [3,4,5,6,0,1,2] 7 (AP 4 XG (Pr hy7) E (O E (U (V (J E ?_)))))))))
 refine Z E BJ (U ?_)
 refine AL h E (fun hc5 h=>?_) fun hc5 h=>?_
 refine V (J E (O E (U (AJ (Ab ?_)))))
 obtain rfl:=zI h
 exact AW [8,9,10,11,12,4,5,6,0,1,2,3] 13 E E E
 refine AI (AH (V ?_))
 refine AD h fun y8 hy8 h=>?_
 refine J E (AQ E E (AE E Ny (AF 8 MZ E (J E (AP 4 aw (QB hy8) E (O E (U (AJ ?_))))))))
 obtain rfl:=zI h
 exact AW [8,9,10,11,12,4,5,6,0,1,2,3] 13 E E E
def EG(a2:Int)(nx_f_store_Store_moves_l2:List (UInt32×UInt32)×Int→Option (Bj×Aw))(l6:List (UInt32×UInt32)):Option (Bj×Aw):=
 nx_f_store_Store_moves_l2 (l6,wI (a2+1))
def EH(a3:Int)(nx_f_store_Store_moves_l3:Aw×Int→Option (Bj×Aw))(o3:Aw):Option (Bj×Aw):=
 nx_f_store_Store_moves_l3 (o3,wI (a3+1))
def Ik(p0:Bj)(p1:List Ak)(p2:List A4)(l4:List (UInt32×UInt32))(o1:Aw):Option (Bj×Aw):=
 some ({ p0 with rows:=p1,pages:=p2,gens:=l4 },o1)
def De(p0:Bj)(p0_2:Af)(p1:List Ak)(p2:List A4)(l4:List (UInt32×UInt32))(nx_f_store_Store_moves_l3:Aw×Int→Option (Bj×Aw))(o2:Aw)(a3:Int):Option (Bj×Aw):=
 cond (decide (a3<(p0.pages.length:Int)))
 (
  (BB p0.pages a3).bind fun x3=>
  ret ((Cd l4 x3.page).getD 0) fun x4=>
  ret ((Cd l4 x3.page).isSome) fun ok_1=>
  cond (!ok_1)
  (
   (IH o2 p0_2 x3.page).bind fun y1=>
   EH a3 nx_f_store_Store_moves_l3 y1.2)
  (
   EH a3 nx_f_store_Store_moves_l3 o2))
 (
  Ik p0 p1 p2 l4 o2)
def DU(p0:Bj)(p0_2:Af)(p1:List Ak)(p2:List A4)(l4:List (UInt32×UInt32)):Nat→(Aw×Int)→Option (Bj×Aw):=CN fun nx x=>De p0 p0_2 p1 p2 l4 nx x.1 x.2
def Ij(n:Nat)(p0:Bj)(p0_1:Aw)(p0_2:Af)(p1:List Ak)(p2:List A4)(l4:List (UInt32×UInt32)):Option (Bj×Aw):=
 DU p0 p0_2 p1 p2 l4 n (p0_1,0)
def Dd(n:Nat)(p0:Bj)(p0_1:Aw)(p0_2:Af)(p1:List Ak)(p2:List A4)(l1:List (UInt32×A4))(nx_f_store_Store_moves_l2:List (UInt32×UInt32)×Int→Option (Bj×Aw))(l5:List (UInt32×UInt32))(a2:Int):Option (Bj×Aw):=
 cond (decide (a2<(p2.length:Int)))
 (
  (BB p2 a2).bind fun x2=>
  (NC l5 x2.page p0.gen).bind fun l7=>
  cond (decide (((Cd l1 x2.page).getD (⟨[],0,[]⟩:A4)).txt=x2.txt)&&(decide (((Cd l1 x2.page).getD (⟨[],0,[]⟩:A4)).page=x2.page)&&(decide (((Cd l1 x2.page).getD (⟨[],0,[]⟩:A4)).tag=x2.tag)&&true)))
  (
   (NC l7 x2.page ((Cd p0.gens x2.page).getD 0)).bind fun l8=>
   EG a2 nx_f_store_Store_moves_l2 l8)
  (
   EG a2 nx_f_store_Store_moves_l2 l7))
 (
  Ij n p0 p0_1 p0_2 p1 p2 l5)
def DT(n:Nat)(p0:Bj)(p0_1:Aw)(p0_2:Af)(p1:List Ak)(p2:List A4)(l1:List (UInt32×A4)):Nat→(List (UInt32×UInt32)×Int)→Option (Bj×Aw):=CN fun nx x=>Dd n p0 p0_1 p0_2 p1 p2 l1 nx x.1 x.2
def Ii(n:Nat)(p0:Bj)(p0_1:Aw)(p0_2:Af)(p1:List Ak)(p2:List A4)(l1:List (UInt32×A4)):Option (Bj×Aw):=
 DT n p0 p0_1 p0_2 p1 p2 l1 n ([],0)
def Dc(n:Nat)(p0:Bj)(p0_1:Aw)(p0_2:Af)(p1:List Ak)(p2:List A4)(nx_f_store_Store_moves_l1:List (UInt32×A4)×Int→Option (Bj×Aw))(l2:List (UInt32×A4))(a1:Int):Option (Bj×Aw):=
 cond (decide (a1<(p0.pages.length:Int)))
 (
  (BB p0.pages a1).bind fun x1=>
  (NC l2 x1.page x1).bind fun l3=>
  nx_f_store_Store_moves_l1 (l3,wI (a1+1)))
 (
  Ii n p0 p0_1 p0_2 p1 p2 l2)
def EI(n:Nat)(p0:Bj)(p0_1:Aw)(p0_2:Af)(p1:List Ak)(p2:List A4):Nat→(List (UInt32×A4)×Int)→Option (Bj×Aw):=CN fun nx x=>Dc n p0 p0_1 p0_2 p1 p2 nx x.1 x.2
def FF(n:Nat)(p0:Bj)(p0_1:Aw)(p0_2:Af)(p1:List Ak)(p2:List A4):Option (Bj×Aw):=
 EI n p0 p0_1 p0_2 p1 p2 n ([],0)
theorem N7{n Ao CC BL As Ay Az:Nat}{Am AZ Ar BH BM A0 Ea GX:Value}{p0:Bj}{p0_1:Aw}{p0_2:Af}{p1:List Ak}{p2:List A4}{r:Bj×Aw}(h:FF n p0 p0_1 p0_2 p1 p2=some r): zC K w0 85 [vP Ao 0,Ea,GX] [own Ao (.cells #[Am,AZ,Ar,vP As 0,vP CC 0,BH,Y p0.gen,vB p0.bad] 95),AB 43 4 Am AU p0.rows,AB 148 3 AZ AS p0.pages,Cy Ar Y Y p0.gens,AB 55 2 BH AX p0.ring,own CC (.cells #[vP As 0,BM,Y p0_1.gen,Y p0_1.boot,AT p0_1.seals,.map (some BL)] 137),AB 55 2 BM AX p0_1.ring,Aa BL Y vB p0_1.taken,own As (.cells #[vB p0_2.off,vB p0_2.isCut,vI p0_2.lasts,vI p0_2.counts,A0,.map (some Ay),.map (some Az),AT p0_2.rcnt,vS p0_2.rtag,Y p0_2.rboots] 102),AB 9 1 A0 eS p0_2.blocks,Aa Ay Y vS p0_2.pend,Aa Az Y vB p0_2.bad,AB 43 4 Ea AU p1,AB 148 3 GX AS p2] H (fun u M=>∃vs0_0_0 vs0_0_1 vs0_0_2:Value,u=.tuple #[]∧M=[own Ao (.cells #[vs0_0_0,vs0_0_1,vs0_0_2,vP As 0,vP CC 0,BH,Y r.1.gen,vB r.1.bad] 95),AB 43 4 vs0_0_0 AU r.1.rows,AB 148 3 vs0_0_1 AS r.1.pages,Cy vs0_0_2 Y Y r.1.gens,AB 55 2 BH AX r.1.ring,own CC (.cells #[vP As 0,BM,Y r.2.gen,Y r.2.boot,AT r.2.seals,.map (some BL)] 137),AB 55 2 BM AX r.2.ring,Aa BL Y vB r.2.taken,own As (.cells #[vB p0_2.off,vB p0_2.isCut,vI p0_2.lasts,vI p0_2.counts,A0,.map (some Ay),.map (some Az),AT p0_2.rcnt,vS p0_2.rtag,Y p0_2.rboots] 102),AB 9 1 A0 eS p0_2.blocks,Aa Ay Y vS p0_2.pend,Aa Az Y vB p0_2.bad]):=by
 unfold FF at h
 refine T3.enter Tryz.func85 rfl rfl ?_
 refine V ?_
 refine TE Y UG E zU fun b1=>?_
 refine O E (U ?_)
 refine A9 (α:=List (UInt32×A4)) (fun x=>Ii n p0 p0_1 p0_2 p1 p2 x=some r) (fun x=>[(0,vP Ao 0),(1,Ea),(2,GX),(6,.map (some b1))]) (fun x=>own Ao (.cells #[Am,AZ,Ar,vP As 0,vP CC 0,BH,Y p0.gen,vB p0.bad] 95)::AB 43 4 Am AU p0.rows::AB 148 3 AZ AS p0.pages::Cy Ar Y Y p0.gens::own As (.cells #[vB p0_2.off,vB p0_2.isCut,vI p0_2.lasts,vI p0_2.counts,A0,.map (some Ay),.map (some Az),AT p0_2.rcnt,vS p0_2.rtag,Y p0_2.rboots] 102)::AB 9 1 A0 eS p0_2.blocks::Aa Ay Y vS p0_2.pend::Aa Az Y vB p0_2.bad::own CC (.cells #[vP As 0,BM,Y p0_1.gen,Y p0_1.boot,AT p0_1.seals,.map (some BL)] 137)::AB 55 2 BM AX p0_1.ring::Aa BL Y vB p0_1.taken::AB 55 2 BH AX p0.ring::AB 43 4 Ea AU p1::AB 148 3 GX AS p2::Aa b1 Y UG x::H) ?_ (fun l1 D h=>?_)
 refine V (J E (AQ E E (AE E NB (AE E VP (AF 1 Pb E (Dj 3 E Iy E E (J E (U (AM ?_)))))))))
 refine SX.heap (SX.mono (BF (α:=Nat×List (UInt32×A4)×Int) (fun x=>EI n p0 p0_1 p0_2 p1 p2 x.1 (x.2.1,x.2.2)=some r) (fun x=>[(0,vP Ao 0),(1,Ea),(2,GX),(6,.map (some b1)),(21,AZ),(22,vI (p0.pages.length:Int)),(23,vI x.2.2)]) (fun x=>own Ao (.cells #[Am,AZ,Ar,vP As 0,vP CC 0,BH,Y p0.gen,vB p0.bad] 95)::AB 43 4 Am AU p0.rows::AB 148 3 AZ AS p0.pages::Cy Ar Y Y p0.gens::own As (.cells #[vB p0_2.off,vB p0_2.isCut,vI p0_2.lasts,vI p0_2.counts,A0,.map (some Ay),.map (some Az),AT p0_2.rcnt,vS p0_2.rtag,Y p0_2.rboots] 102)::AB 9 1 A0 eS p0_2.blocks::Aa Ay Y vS p0_2.pend::Aa Az Y vB p0_2.bad::own CC (.cells #[vP As 0,BM,Y p0_1.gen,Y p0_1.boot,AT p0_1.seals,.map (some BL)] 137)::AB 55 2 BM AX p0_1.ring::Aa BL Y vB p0_1.taken::AB 55 2 BH AX p0.ring::AB 43 4 Ea AU p1::AB 148 3 GX AS p2::Aa b1 Y UG x.2.1::H) (fun x=>x.1) (fun x D h=>?_) (n,[],0) h) tL) (BN [1,2,3,4,9,10,11,12,6,7,8,5,13,14,0] 15 E E E)
 obtain⟨m1,l2,a1⟩:=x
 dsimp only at h
 rcases m1 with _ | m1
 cases (show(none:Option _)=some r from h)
 replace h:Dc n p0 p0_1 p0_2 p1 p2 (EI n p0 p0_1 p0_2 p1 p2 m1) l2 a1=some r:=h
 unfold Dc at h
 try dsimp only
 refine V (Z E A8 (U (AG ?_)))
 refine AL h E (fun hc1 h=>?_) fun hc1 h=>?_
 refine AI (AH (AG (AM (V ?_))))
 refine AD h fun x1 hx1 h=>?_
 refine B2 2 hx1 E Iy JL E E E fun g1 m2 cp1 hv1=>?_
 refine Ap (AS x1) E P9 E E (KH (sz:=3) (enc:=AS) 2 zV E hv1 hx1) ?_
 refine Al E OW zU fun b2=>?_
 refine A5 0 E E E E JL E E E zT (U (AN ?_))
 refine AD h fun l3 hl3 h=>?_
 refine J E (AE E JZ (AE E FR (AF 0 A2 E (Ap [vS x1.txt,Y x1.page,vS x1.tag] E P9 E E (Ah 0 E) ?_))))
 refine QY (a:=x1) 15 hl3 (Uk CP) E nQ E E E E zT ?_
 refine AY (Aj (AH (AN (Z E Bh (J E (AY ?_))))))
 exact Au (m1,l3,wI (a1+1)) h (Nat.lt_succ_self _) tL (BN [1,2,3,4,5,6,7,8,9,10,11,12,13,14,15] 16 E E E)
 refine A1 (A6 (Ba (A7 ?_)))
 exact Aq l2 h tL (BN [0,1,2,3,4,5,6,7,8,9,10,11,12,13,14] 15 E E E)
 unfold Ii at h
 try dsimp only
 refine V ?_
 refine TE Y Y E zU fun b3=>?_
 refine O E (U ?_)
 refine A9 (α:=List (UInt32×UInt32)) (fun x=>Ij n p0 p0_1 p0_2 p1 p2 x=some r) (fun x=>[(0,vP Ao 0),(1,Ea),(2,GX),(9,.map (some b3))]) (fun x=>own Ao (.cells #[Am,AZ,Ar,vP As 0,vP CC 0,BH,Y p0.gen,vB p0.bad] 95)::AB 43 4 Am AU p0.rows::AB 148 3 AZ AS p0.pages::Cy Ar Y Y p0.gens::own As (.cells #[vB p0_2.off,vB p0_2.isCut,vI p0_2.lasts,vI p0_2.counts,A0,.map (some Ay),.map (some Az),AT p0_2.rcnt,vS p0_2.rtag,Y p0_2.rboots] 102)::AB 9 1 A0 eS p0_2.blocks::Aa Ay Y vS p0_2.pend::Aa Az Y vB p0_2.bad::own CC (.cells #[vP As 0,BM,Y p0_1.gen,Y p0_1.boot,AT p0_1.seals,.map (some BL)] 137)::AB 55 2 BM AX p0_1.ring::Aa BL Y vB p0_1.taken::AB 55 2 BH AX p0.ring::AB 43 4 Ea AU p1::AB 148 3 GX AS p2::Aa b3 Y Y x::H) ?_ (fun l4 D h=>?_)
 refine V (J E (Dj 14 E Iy E E (J E (U (AM ?_)))))
 refine SX.heap (SX.mono (BF (α:=Nat×List (UInt32×UInt32)×Int) (fun x=>DT n p0 p0_1 p0_2 p1 p2 l1 x.1 (x.2.1,x.2.2)=some r) (fun x=>[(0,vP Ao 0),(1,Ea),(2,GX),(6,.map (some b1)),(9,.map (some b3)),(34,GX),(35,vI (p2.length:Int)),(36,vI x.2.2)]) (fun x=>own Ao (.cells #[Am,AZ,Ar,vP As 0,vP CC 0,BH,Y p0.gen,vB p0.bad] 95)::AB 43 4 Am AU p0.rows::AB 148 3 AZ AS p0.pages::Cy Ar Y Y p0.gens::own As (.cells #[vB p0_2.off,vB p0_2.isCut,vI p0_2.lasts,vI p0_2.counts,A0,.map (some Ay),.map (some Az),AT p0_2.rcnt,vS p0_2.rtag,Y p0_2.rboots] 102)::AB 9 1 A0 eS p0_2.blocks::Aa Ay Y vS p0_2.pend::Aa Az Y vB p0_2.bad::own CC (.cells #[vP As 0,BM,Y p0_1.gen,Y p0_1.boot,AT p0_1.seals,.map (some BL)] 137)::AB 55 2 BM AX p0_1.ring::Aa BL Y vB p0_1.taken::AB 55 2 BH AX p0.ring::AB 43 4 Ea AU p1::AB 148 3 GX AS p2::Aa b1 Y UG l1::Aa b3 Y Y x.2.1::H) (fun x=>x.1) (fun x D h=>?_) (n,[],0) h) tL) (BN [1,2,3,4,5,6,7,8,9,10,11,12,13,14,15,0] 16 E E E)
 obtain⟨m3,l5,a2⟩:=x
 dsimp only at h
 rcases m3 with _ | m3
 cases (show(none:Option _)=some r from h)
 replace h:Dd n p0 p0_1 p0_2 p1 p2 l1 (DT n p0 p0_1 p0_2 p1 p2 l1 m3) l5 a2=some r:=h
 unfold Dd at h
 try dsimp only
 refine V (Z E A8 (U (AG ?_)))
 refine AL h E (fun hc2 h=>?_) fun hc2 h=>?_
 refine AI (AH ?_)
 refine A9 (α:=List (UInt32×UInt32)) (fun x=>EG a2 (DT n p0 p0_1 p0_2 p1 p2 l1 m3) x=some r) (fun x=>[(0,vP Ao 0),(1,Ea),(2,GX),(6,.map (some b1)),(9,.map (some b3)),(34,GX),(35,vI (p2.length:Int)),(36,vI a2)]) (fun x=>own Ao (.cells #[Am,AZ,Ar,vP As 0,vP CC 0,BH,Y p0.gen,vB p0.bad] 95)::AB 43 4 Am AU p0.rows::AB 148 3 AZ AS p0.pages::Cy Ar Y Y p0.gens::own As (.cells #[vB p0_2.off,vB p0_2.isCut,vI p0_2.lasts,vI p0_2.counts,A0,.map (some Ay),.map (some Az),AT p0_2.rcnt,vS p0_2.rtag,Y p0_2.rboots] 102)::AB 9 1 A0 eS p0_2.blocks::Aa Ay Y vS p0_2.pend::Aa Az Y vB p0_2.bad::own CC (.cells #[vP As 0,BM,Y p0_1.gen,Y p0_1.boot,AT p0_1.seals,.map (some BL)] 137)::AB 55 2 BM AX p0_1.ring::Aa BL Y vB p0_1.taken::AB 55 2 BH AX p0.ring::AB 43 4 Ea AU p1::AB 148 3 GX AS p2::Aa b1 Y UG l1::Aa b3 Y Y x::H) ?_ (fun l6 D h=>?_)
 refine AM (V ?_)
 refine AD h fun x2 hx2 h=>?_
 refine B2 13 hx2 E Iy JL E E E fun g2 m4 cp2 hv2=>?_
 refine Ap (AS x2) E P9 E E (KH (sz:=3) (enc:=AS) 13 zV E hv2 hx2) ?_
 refine Al E OW zU fun b4=>?_
 refine A5 0 E E E E JL E E E zT (U (AG ?_))
 refine AD h fun l7 hl7 h=>?_
 refine Av DH [0,1] (CA [(true,0),(true,1),(true,2),(true,3),(true,4),(true,5),(true,6),(true,7)] (.last 8 .nil)) zK (J E (AE E JZ (AE E FR (AF 0 A2 E (J E (AQ E E (AE E bR ?_)))))))
 refine AF 1 A2 E (BY (QY 16 hl7 (O3 CP) E ep E E E E zT (U (V (J E (AE E JZ (AE E FR (AF 0 A2 E ?_))))))))
 refine XB (zv:=(⟨[],0,[]⟩:A4)) 15 (Uk CP) E nQ OW E E E ?_
 refine Ap [vS x2.txt,Y x2.page,vS x2.tag] E P9 E E (Ah 0 E) ?_
 refine XZ E (show dj Tryz.prog 148=some [(0,.string),(1,.int .u32),(2,.string)] by kernel_rfl) E E (CI E E (SZ (a:=((Cd l1 x2.page).getD (⟨[],0,[]⟩:A4)).txt) (b:=x2.txt)) (CI E E (IN (a:=((Cd l1 x2.page).getD (⟨[],0,[]⟩:A4)).page) (b:=x2.page)) (CI E E (SZ (a:=((Cd l1 x2.page).getD (⟨[],0,[]⟩:A4)).tag) (b:=x2.tag)) II))) ?_
 refine U ?_
 refine AL h E (fun hc3 h=>?_) fun hc3 h=>?_
 refine AD h fun l8 hl8 h=>?_
 refine Av DH [0,1,4] (CA [(true,0),(true,1),(true,2),(true,3),(true,4),(true,5),(true,6),(true,7),(true,8),(true,9),(true,10),(true,11),(true,12)] (.last 13 .nil)) zK (J E (AE E JZ (AE E FR (AF 0 A2 E (J E (AQ E E (AE E NB ?_)))))))
 refine AE E iu (AF 1 rD E (AE E JZ (AE E FR (AF 0 A2 E ?_))))
 refine dB (zv:=0) 2 (O3 CP) E ep H8 E E E ?_
 refine BY (QY 16 hl8 (O3 CP) E ep E E E E zT (AY (Aj ?_)))
 exact Aq l8 h tL (BN [1,2,3,4,5,6,7,8,9,10,11,12,13,14,15,16] 17 E E E)
 refine AI (Aj ?_)
 exact Aq l7 h tL (BN [1,2,3,4,5,6,7,8,9,10,11,12,13,14,15,16] 17 E E E)
 unfold EG at h
 try dsimp only
 refine AN (Z E Bh (J E (AY ?_)))
 exact Au (m3,l6,wI (a2+1)) h (Nat.lt_succ_self _) tL (BN [0,1,2,3,4,5,6,7,8,9,10,11,12,13,14,15] 16 E E E)
 refine A1 (A6 (Ba (A7 ?_)))
 exact Aq l5 h tL (BN [0,1,2,3,4,5,6,7,8,9,10,11,12,13,15] 16 E E E)
 unfold Ij at h
 try dsimp only
 refine A9 (α:=Aw) (fun x=>Ik p0 p1 p2 l4 x=some r) (fun x=>[(0,vP Ao 0),(1,Ea),(2,GX),(9,.map (some b3))]) (fun x=>own Ao (.cells #[Am,AZ,Ar,vP As 0,vP CC 0,BH,Y p0.gen,vB p0.bad] 95)::AB 43 4 Am AU p0.rows::AB 148 3 AZ AS p0.pages::Cy Ar Y Y p0.gens::own As (.cells #[vB p0_2.off,vB p0_2.isCut,vI p0_2.lasts,vI p0_2.counts,A0,.map (some Ay),.map (some Az),AT p0_2.rcnt,vS p0_2.rtag,Y p0_2.rboots] 102)::AB 9 1 A0 eS p0_2.blocks::Aa Ay Y vS p0_2.pend::Aa Az Y vB p0_2.bad::own CC (.cells #[vP As 0,BM,Y x.gen,Y x.boot,AT x.seals,.map (some BL)] 137)::AB 55 2 BM AX x.ring::Aa BL Y vB x.taken::AB 55 2 BH AX p0.ring::AB 43 4 Ea AU p1::AB 148 3 GX AS p2::Aa b3 Y Y l4::H) ?_ (fun o1 D h=>?_)
 refine V (J E (AQ E E (AE E NB (AE E VP (AF 0 Pb E (Dj 2 E Iy E E (J E (U (AM ?_)))))))))
 refine SX.heap (SX.mono (BF (α:=Nat×Aw×Int) (fun x=>DU p0 p0_2 p1 p2 l4 x.1 (x.2.1,x.2.2)=some r) (fun x=>[(0,vP Ao 0),(1,Ea),(2,GX),(9,.map (some b3)),(73,AZ),(74,vI (p0.pages.length:Int)),(75,vI x.2.2)]) (fun x=>own Ao (.cells #[Am,AZ,Ar,vP As 0,vP CC 0,BH,Y p0.gen,vB p0.bad] 95)::AB 43 4 Am AU p0.rows::AB 148 3 AZ AS p0.pages::Cy Ar Y Y p0.gens::own As (.cells #[vB p0_2.off,vB p0_2.isCut,vI p0_2.lasts,vI p0_2.counts,A0,.map (some Ay),.map (some Az),AT p0_2.rcnt,vS p0_2.rtag,Y p0_2.rboots] 102)::AB 9 1 A0 eS p0_2.blocks::Aa Ay Y vS p0_2.pend::Aa Az Y vB p0_2.bad::own CC (.cells #[vP As 0,BM,Y x.2.1.gen,Y x.2.1.boot,AT x.2.1.seals,.map (some BL)] 137)::AB 55 2 BM AX x.2.1.ring::Aa BL Y vB x.2.1.taken::AB 55 2 BH AX p0.ring::AB 43 4 Ea AU p1::AB 148 3 GX AS p2::Aa b3 Y Y l4::H) (fun x=>x.1) (fun x D h=>?_) (n,p0_1,0) h) tL) (BN [0,1,2,3,4,5,6,7,8,9,10,11,12,13,14] 15 E E E)
 obtain⟨m5,o2,a3⟩:=x
 dsimp only at h
 rcases m5 with _ | m5
 cases (show(none:Option _)=some r from h)
 replace h:De p0 p0_2 p1 p2 l4 (DU p0 p0_2 p1 p2 l4 m5) o2 a3=some r:=h
 unfold De at h
 try dsimp only
 refine V (Z E A8 (U (AG ?_)))
 refine AL h E (fun hc4 h=>?_) fun hc4 h=>?_
 refine AI (AH ?_)
 refine A9 (α:=Aw) (fun x=>EH a3 (DU p0 p0_2 p1 p2 l4 m5) x=some r) (fun x=>[(0,vP Ao 0),(1,Ea),(2,GX),(9,.map (some b3)),(73,AZ),(74,vI (p0.pages.length:Int)),(75,vI a3)]) (fun x=>own Ao (.cells #[Am,AZ,Ar,vP As 0,vP CC 0,BH,Y p0.gen,vB p0.bad] 95)::AB 43 4 Am AU p0.rows::AB 148 3 AZ AS p0.pages::Cy Ar Y Y p0.gens::own As (.cells #[vB p0_2.off,vB p0_2.isCut,vI p0_2.lasts,vI p0_2.counts,A0,.map (some Ay),.map (some Az),AT p0_2.rcnt,vS p0_2.rtag,Y p0_2.rboots] 102)::AB 9 1 A0 eS p0_2.blocks::Aa Ay Y vS p0_2.pend::Aa Az Y vB p0_2.bad::own CC (.cells #[vP As 0,BM,Y x.gen,Y x.boot,AT x.seals,.map (some BL)] 137)::AB 55 2 BM AX x.ring::Aa BL Y vB x.taken::AB 55 2 BH AX p0.ring::AB 43 4 Ea AU p1::AB 148 3 GX AS p2::Aa b3 Y Y l4::H) ?_ (fun o3 D h=>?_)
 refine AM (V ?_)
 refine AD h fun x3 hx3 h=>?_
 refine B2 2 hx3 E Iy JL E E E fun g3 m6 cp3 hv3=>?_
 refine Ap (AS x3) E P9 E E (KH (sz:=3) (enc:=AS) 2 zV E hv3 hx3) ?_
 refine Al E OW zU fun b5=>?_
 refine A5 0 E E E E JL E E E zT (U (V ?_))
 obtain⟨x4,ex4,h⟩:=Bu h
 obtain⟨ok_1,eok_1,h⟩:=Bu h
 refine J E (AE E JZ (AE E FR (AF 0 A2 E ?_)))
 refine ZS (zv:=0) 15 (O3 CP) E ep H8 E E E ?_
 refine J E (Ac E E E (Ac E E E ?_))
 refine Ai (u:=Y x4) E E (congrArg Y ex4) ?_
 refine Ai (u:=vB ok_1) E E (congrArg vB eok_1) ?_
 refine U (V (J E (CT E E (U ?_))))
 refine AL h E (fun hc5 h=>?_) fun hc5 h=>?_
 refine AD h fun y1 hy1 h=>?_
 refine Av DH [0,1] (CA [(true,0),(true,1),(true,2),(true,3),(true,4),(true,5),(true,6)] (.last 7 .nil)) zK (J E (AQ E E (AE E RJ (AF 1 Rp E (AE E JZ (AE E FR (AF 0 A2 E (BY ?_))))))))
 refine SL.pick [9,10,11,5,6,7,8,0,1,2,3,4] 12 (AP 7 hY (X6 hy1) E (AY (Aj ?_)))
 exact Aq y1.2 h tL (BN [8,9,10,11,3,4,5,6,0,1,2,12,13,14,15] 16 E E E)
 refine AI (Aj ?_)
 exact Aq o2 h tL (BN [1,2,3,4,5,6,7,8,9,10,11,12,13,14,15] 16 E E E)
 unfold EH at h
 try dsimp only
 refine AN (Z E Bh (J E (AY ?_)))
 exact Au (m5,o3,wI (a3+1)) h (Nat.lt_succ_self _) tL (BN [0,1,2,3,4,5,6,7,8,9,10,11,12,13,14] 15 E E E)
 refine A1 (A6 (Ba (A7 ?_)))
 exact Aq o2 h tL (BN [0,1,2,3,4,5,6,7,8,9,10,11,12,13,14] 15 E E E)
 unfold Ik at h
 try dsimp only
 refine AN (J E (J E (J E (J E ?_))))
 refine C8 12 E fun hv4 ho1=>?_
 refine C8 13 E fun hv5 ho2=>?_
 refine R7 [Ea,GX,.map (some b3)] [#[Ea],#[GX],#[.map (some b3)]] (by simp only[List.map_cons,List.map_nil,hv4,hv5];rfl) E uQ uK ue ⟨E,E,E,zT⟩ E (AQ E E (AE E NB ?_))
 refine C8 12 E fun hv6 ho3=>?_
 refine C8 13 E fun hv7 ho4=>?_
 refine A5 0 E E E E uY E (show[Ea,GX,.map (some b3)].all (·.oneCell')=true by simp only[List.all_cons,ho3,ho4];rfl) E zT ?_
 refine oF 14 E ?_ zT
 refine AY ?_
 obtain rfl:=zI h
 exact DF (Dr E) (Ad (M:=[_,_,_,_,_,_,_,_,_,_,_,_]) ⟨Ea,GX,(.map (some b3)),E,E⟩ fun _ hw=>BX.pick (H:=[_,_,_,_,_,_,_,_,_,_,_,_,_,_,_]) hw [0,12,13,14,11,8,9,10,4,5,6,7] 15 E)
def Ez(n:Nat)(p0:Bj)(p1:List Ak)(y1:List A4×Int×Aw×Af)(o1:Af)(o2:Aw)(a1:Int):Option (Int×Bj×Aw×Af):=
 cond (!decide (a1=0))
 (
  some (a1,{ p0 with bad:=true },o2,o1))
 (
  (FF n p0 o2 o1 p1 y1.1).bind fun y3=>
  some (0,y3.1,y3.2,o1))
def D9(n:Nat)(T:List UInt32)(p0:Bj)(p0_1:Aw)(p0_2:Af)(p1:List Ak)(p2:List A4):Option (Int×Bj×Aw×Af):=
 (Sy n T p0_1 p0_2 p1 p2).bind fun y1=>
 ret (decide (y1.2.1=110)) fun x1=>
 cond x1
 (
  some (y1.2.1,p0,y1.2.2.1,y1.2.2.2))
 (
  ret (decide (y1.2.1=0)) fun x2=>
  cond x2
  (
   (EY n T p0 y1.2.2.1 y1.2.2.2 p1 y1.1).bind fun y2=>
   Ez n p0 p1 y1 y2.2.2 y2.2.1 y2.1)
  (
   Ez n p0 p1 y1 y1.2.2.2 y1.2.2.1 y1.2.1))
theorem Rw{n Ao CC BL As Ay Az:Nat}{T:List UInt32}{Am AZ Ar BH BM A0 Ea GX:Value}{p0:Bj}{p0_1:Aw}{p0_2:Af}{p1:List Ak}{p2:List A4}{r:Int×Bj×Aw×Af}(h:D9 n T p0 p0_1 p0_2 p1 p2=some r)(hS:Ge K w0 T)(hs2_:B6 K w0 AS 3 GX p2):zC K w0 55 [vP Ao 0,Ea,GX] [own Ao (.cells #[Am,AZ,Ar,vP As 0,vP CC 0,BH,Y p0.gen,vB p0.bad] 95),AB 43 4 Am AU p0.rows,AB 148 3 AZ AS p0.pages,Cy Ar Y Y p0.gens,AB 55 2 BH AX p0.ring,own CC (.cells #[vP As 0,BM,Y p0_1.gen,Y p0_1.boot,AT p0_1.seals,.map (some BL)] 137),AB 55 2 BM AX p0_1.ring,Aa BL Y vB p0_1.taken,own As (.cells #[vB p0_2.off,vB p0_2.isCut,vI p0_2.lasts,vI p0_2.counts,A0,.map (some Ay),.map (some Az),AT p0_2.rcnt,vS p0_2.rtag,Y p0_2.rboots] 102),AB 9 1 A0 eS p0_2.blocks,Aa Ay Y vS p0_2.pend,Aa Az Y vB p0_2.bad,AB 43 4 Ea AU p1] H (fun u M=>∃vs0_0_0 vs0_0_1 vs0_0_2:Value,u=vI r.1∧M=[own Ao (.cells #[vs0_0_0,vs0_0_1,vs0_0_2,vP As 0,vP CC 0,BH,Y r.2.1.gen,vB r.2.1.bad] 95),AB 43 4 vs0_0_0 AU r.2.1.rows,AB 148 3 vs0_0_1 AS r.2.1.pages,Cy vs0_0_2 Y Y r.2.1.gens,AB 55 2 BH AX r.2.1.ring,own CC (.cells #[vP As 0,BM,Y r.2.2.1.gen,Y r.2.2.1.boot,AT r.2.2.1.seals,.map (some BL)] 137),AB 55 2 BM AX r.2.2.1.ring,Aa BL Y vB r.2.2.1.taken,own As (.cells #[vB r.2.2.2.off,vB r.2.2.2.isCut,vI r.2.2.2.lasts,vI r.2.2.2.counts,A0,.map (some Ay),.map (some Az),AT r.2.2.2.rcnt,vS r.2.2.2.rtag,Y r.2.2.2.rboots] 102),AB 9 1 A0 eS r.2.2.2.blocks,Aa Ay Y vS r.2.2.2.pend,Aa Az Y vB r.2.2.2.bad]):=by
 unfold D9 at h
 refine T3.enter Tryz.func55 rfl rfl ?_
 refine V (O E (U (V ?_)))
 refine AD h fun y1 hy1 h=>?_
 refine J E (AQ E E (AE E RJ (AF 0 Rp E (J E (J E (SL.pick [12,5,6,7,8,9,10,11,0,1,2,3,4] 13 ?_))))))
 refine Bg (vs:=[_,_,_]) (Hin:=[_,_,_,_,_,_,_,_]) (Hr:=_::_::_::_::_::_) E E ⟨E,E,E,zT⟩ lk E E (Co (B:=[_]) (Hin:=[_,_,_,_,_,_,_]) fun K' w1 hk hB=>jL hy1 (hS.keeps hk) (CO (e:=43) (v:=Ea) zV (hB _ zS)) (hs2_.keeps hk)) ?_
 rintro _ _ ⟨_,rfl,v1,rfl,rfl⟩
 refine⟨trivial,?_⟩
 refine J E (Ac E E E (Ac E E E (O E (O E (U ?_)))))
 refine A9 (α:=Af×Aw×Int) (fun x=>Ez n p0 p1 y1 x.1 x.2.1 x.2.2=some r) (fun x=>[(0,vP Ao 0),(1,Ea),(7,v1),(8,vI x.2.2)]) (fun x=>own Ao (.cells #[Am,AZ,Ar,vP As 0,vP CC 0,BH,Y p0.gen,vB p0.bad] 95)::AB 43 4 Am AU p0.rows::AB 148 3 AZ AS p0.pages::Cy Ar Y Y p0.gens::own As (.cells #[vB x.1.off,vB x.1.isCut,vI x.1.lasts,vI x.1.counts,A0,.map (some Ay),.map (some Az),AT x.1.rcnt,vS x.1.rtag,Y x.1.rboots] 102)::AB 9 1 A0 eS x.1.blocks::Aa Ay Y vS x.1.pend::Aa Az Y vB x.1.bad::own CC (.cells #[vP As 0,BM,Y x.2.1.gen,Y x.2.1.boot,AT x.2.1.seals,.map (some BL)] 137)::AB 55 2 BM AX x.2.1.ring::Aa BL Y vB x.2.1.taken::AB 55 2 BH AX p0.ring::AB 43 4 Ea AU p1::AB 148 3 v1 AS y1.1::H) ?_ (fun x D h=>?_)
 refine V (J E (U (AM (V ?_))))
 obtain⟨x1,ex1,h⟩:=Bu h
 refine Z E Bq ?_
 refine Ai (u:=vB x1) E E (congrArg vB ex1) ?_
 refine U ?_
 refine AL h E (fun hc1 h=>?_) fun hc1 h=>?_
 refine V (J E (O E (U (AJ (BC (F9 ?_))))))
 obtain rfl:=zI h
 exact Bm [9,10,11,12,13,2,3,4,5,6,7,8] 14 (C1 E E) E E ⟨Am,AZ,Ar,E,E⟩
 refine V ?_
 obtain⟨x2,ex2,h⟩:=Bu h
 refine Z E Bq ?_
 refine Ai (u:=vB x2) E E (congrArg vB ex2) ?_
 refine U ?_
 refine AL h E (fun hc2 h=>?_) fun hc2 h=>?_
 refine AN ?_
 refine AD h fun y2 hy2 h=>?_
 refine J E (J E (J E (SL.pick [0,1,9,10,11,12,13,2,3,4,5,6,7,8] 14 ?_)))
 refine Bg (vs:=[_,_,_]) (Hin:=[_,_,_,_,_,_,_,_,_,_,_,_,_,_]) (Hr:=_) E E ⟨E,E,E,zT⟩ ll E E (Co (B:=[_,_]) (Hin:=[_,_,_,_,_,_,_,_,_,_,_,_]) fun K' w1 hk hB=>Mk hy2 (hS.keeps hk) (CO (e:=43) (v:=Ea) zV (hB _ zS)) (CO (e:=148) (v:=v1) zV (hB _ zS))) ?_
 rintro _ _ ⟨_,rfl,rfl,rfl⟩
 refine⟨trivial,?_⟩
 refine O E (AY (Aj ?_))
 exact Aq (y2.2.2,y2.2.1,y2.1) h tL (BN [2,3,4,5,10,11,12,13,7,8,9,6,0,1] 14 E E E)
 refine AI (Aj ?_)
 exact Aq (y1.2.2.2,y1.2.2.1,y1.2.1) h tL (BN [9,10,11,12,5,6,7,8,2,3,4,13,0,1] 14 E E E)
 obtain⟨o1,o2,a1⟩:=x
 dsimp only at h
 unfold Ez at h
 try dsimp only
 refine AG (V (J E (Z E BJ (U ?_))))
 refine AL h E (fun hc3 h=>?_) fun hc3 h=>?_
 refine V (J E (AQ E E (AE E bS (A5 0 E E E E Rx E E E zT (U (V (J E (O E (U (AJ (Ab ?_)))))))))))
 obtain rfl:=zI h
 exact Bm [0,1,2,3,11,8,9,10,4,5,6,7] 14 (C1 E E) E E ⟨Am,AZ,Ar,E,E⟩
 refine AI (AH (V ?_))
 refine AD h fun y3 hy3 h=>?_
 refine J E (J E (J E (SL.pick [0,1,2,3,11,8,9,10,4,5,6,7,12,13] 14 (BO 14 lm (N7 hy3) E ?_))))
 rintro _ _ ⟨v2,v3,v4,rfl,rfl⟩
 refine U (V (O E (U (AJ ?_))))
 obtain rfl:=zI h
 exact Bm [0,1,2,3,4,5,6,7,8,9,10,11] 12 (C1 E E) E E ⟨v2,v3,v4,E,E⟩
def Fe(n:Nat)(p0:Bj)(p1:List Ak)(y1:List A4×Int×Aw×Af)(o1:Af)(o2:Aw)(a1:Int):Option (Int×Bj×Aw×Af):=
 cond (!decide (a1=0))
 (
  some (a1,{ p0 with bad:=true },o2,o1))
 (
  (FF n p0 o2 o1 p1 y1.1).bind fun y3=>
  some (0,y3.1,y3.2,o1))
def FQ(n:Nat)(T:List UInt32)(p0:Bj)(p0_1:Aw)(p0_2:Af)(p1:List Ak):Option (Int×Bj×Aw×Af):=
 (Sy n T p0_1 p0_2 p1 p0.pages).bind fun y1=>
 ret (decide (y1.2.1=110)) fun x1=>
 cond x1
 (
  some (y1.2.1,p0,y1.2.2.1,y1.2.2.2))
 (
  ret (decide (y1.2.1=0)) fun x2=>
  cond x2
  (
   (EY n T p0 y1.2.2.1 y1.2.2.2 p1 y1.1).bind fun y2=>
   Fe n p0 p1 y1 y2.2.2 y2.2.1 y2.1)
  (
   Fe n p0 p1 y1 y1.2.2.2 y1.2.2.1 y1.2.1))
theorem Q8{n Ao CC BL As Ay Az:Nat}{T:List UInt32}{Am AZ Ar BH BM A0 Ea:Value}{p0:Bj}{p0_1:Aw}{p0_2:Af}{p1:List Ak}{r:Int×Bj×Aw×Af}(h:FQ n T p0 p0_1 p0_2 p1=some r)(hS:Ge K w0 T):zC K w0 55 [vP Ao 0,Ea,AZ] [own Ao (.cells #[Am,AZ,Ar,vP As 0,vP CC 0,BH,Y p0.gen,vB p0.bad] 95),AB 43 4 Am AU p0.rows,AB 148 3 AZ AS p0.pages,Cy Ar Y Y p0.gens,AB 55 2 BH AX p0.ring,own CC (.cells #[vP As 0,BM,Y p0_1.gen,Y p0_1.boot,AT p0_1.seals,.map (some BL)] 137),AB 55 2 BM AX p0_1.ring,Aa BL Y vB p0_1.taken,own As (.cells #[vB p0_2.off,vB p0_2.isCut,vI p0_2.lasts,vI p0_2.counts,A0,.map (some Ay),.map (some Az),AT p0_2.rcnt,vS p0_2.rtag,Y p0_2.rboots] 102),AB 9 1 A0 eS p0_2.blocks,Aa Ay Y vS p0_2.pend,Aa Az Y vB p0_2.bad,AB 43 4 Ea AU p1] H (fun u M=>∃vs0_0_0 vs0_0_1 vs0_0_2:Value,u=vI r.1∧M=[own Ao (.cells #[vs0_0_0,vs0_0_1,vs0_0_2,vP As 0,vP CC 0,BH,Y r.2.1.gen,vB r.2.1.bad] 95),AB 43 4 vs0_0_0 AU r.2.1.rows,AB 148 3 vs0_0_1 AS r.2.1.pages,Cy vs0_0_2 Y Y r.2.1.gens,AB 55 2 BH AX r.2.1.ring,own CC (.cells #[vP As 0,BM,Y r.2.2.1.gen,Y r.2.2.1.boot,AT r.2.2.1.seals,.map (some BL)] 137),AB 55 2 BM AX r.2.2.1.ring,Aa BL Y vB r.2.2.1.taken,own As (.cells #[vB r.2.2.2.off,vB r.2.2.2.isCut,vI r.2.2.2.lasts,vI r.2.2.2.counts,A0,.map (some Ay),.map (some Az),AT r.2.2.2.rcnt,vS r.2.2.2.rtag,Y r.2.2.2.rboots] 102),AB 9 1 A0 eS r.2.2.2.blocks,Aa Ay Y vS r.2.2.2.pend,Aa Az Y vB r.2.2.2.bad]):=by
 unfold FQ at h
 refine T3.enter Tryz.func55 rfl rfl ?_
 refine V (O E (U (V ?_)))
 refine AD h fun y1 hy1 h=>?_
 refine J E (AQ E E (AE E RJ (AF 0 Rp E (J E (J E (SL.pick [12,2,5,6,7,8,9,10,11,0,1,3,4] 13 ?_))))))
 refine Bg (vs:=[_,_,_]) (Hin:=[_,_,_,_,_,_,_,_,_]) (Hr:=_::_::_::_::_) E E ⟨E,E,E,zT⟩ lk E E (Co (B:=[_,_]) (Hin:=[_,_,_,_,_,_,_]) fun K' w1 hk hB=>jL hy1 (hS.keeps hk) (CO (e:=43) (v:=Ea) zV (hB _ zS)) (CO (e:=148) (v:=AZ) zV (hB _ zS))) ?_
 rintro _ _ ⟨_,rfl,v1,rfl,rfl⟩
 refine⟨trivial,?_⟩
 refine J E (Ac E E E (Ac E E E (O E (O E (U ?_)))))
 refine A9 (α:=Af×Aw×Int) (fun x=>Fe n p0 p1 y1 x.1 x.2.1 x.2.2=some r) (fun x=>[(0,vP Ao 0),(1,Ea),(7,v1),(8,vI x.2.2)]) (fun x=>own Ao (.cells #[Am,AZ,Ar,vP As 0,vP CC 0,BH,Y p0.gen,vB p0.bad] 95)::AB 43 4 Am AU p0.rows::AB 148 3 AZ AS p0.pages::Cy Ar Y Y p0.gens::own As (.cells #[vB x.1.off,vB x.1.isCut,vI x.1.lasts,vI x.1.counts,A0,.map (some Ay),.map (some Az),AT x.1.rcnt,vS x.1.rtag,Y x.1.rboots] 102)::AB 9 1 A0 eS x.1.blocks::Aa Ay Y vS x.1.pend::Aa Az Y vB x.1.bad::own CC (.cells #[vP As 0,BM,Y x.2.1.gen,Y x.2.1.boot,AT x.2.1.seals,.map (some BL)] 137)::AB 55 2 BM AX x.2.1.ring::Aa BL Y vB x.2.1.taken::AB 55 2 BH AX p0.ring::AB 43 4 Ea AU p1::AB 148 3 v1 AS y1.1::H) ?_ (fun x D h=>?_)
 refine V (J E (U (AM (V ?_))))
 obtain⟨x1,ex1,h⟩:=Bu h
 refine Z E Bq ?_
 refine Ai (u:=vB x1) E E (congrArg vB ex1) ?_
 refine U ?_
 refine AL h E (fun hc1 h=>?_) fun hc1 h=>?_
 refine V (J E (O E (U (AJ (BC (F9 ?_))))))
 obtain rfl:=zI h
 exact Bm [10,11,1,12,13,3,4,5,6,7,8,9] 14 (C1 E E) E E ⟨Am,AZ,Ar,E,E⟩
 refine V ?_
 obtain⟨x2,ex2,h⟩:=Bu h
 refine Z E Bq ?_
 refine Ai (u:=vB x2) E E (congrArg vB ex2) ?_
 refine U ?_
 refine AL h E (fun hc2 h=>?_) fun hc2 h=>?_
 refine AN ?_
 refine AD h fun y2 hy2 h=>?_
 refine J E (J E (J E (SL.pick [0,2,10,11,1,12,13,3,4,5,6,7,8,9] 14 ?_)))
 refine Bg (vs:=[_,_,_]) (Hin:=[_,_,_,_,_,_,_,_,_,_,_,_,_,_]) (Hr:=_) E E ⟨E,E,E,zT⟩ ll E E (Co (B:=[_,_]) (Hin:=[_,_,_,_,_,_,_,_,_,_,_,_]) fun K' w1 hk hB=>Mk hy2 (hS.keeps hk) (CO (e:=43) (v:=Ea) zV (hB _ zS)) (CO (e:=148) (v:=v1) zV (hB _ zS))) ?_
 rintro _ _ ⟨_,rfl,rfl,rfl⟩
 refine⟨trivial,?_⟩
 refine O E (AY (Aj ?_))
 exact Aq (y2.2.2,y2.2.1,y2.1) h tL (BN [2,3,4,5,10,11,12,13,7,8,9,6,0,1] 14 E E E)
 refine AI (Aj ?_)
 exact Aq (y1.2.2.2,y1.2.2.1,y1.2.1) h tL (BN [10,11,1,12,6,7,8,9,3,4,5,13,0,2] 14 E E E)
 obtain⟨o1,o2,a1⟩:=x
 dsimp only at h
 unfold Fe at h
 try dsimp only
 refine AG (V (J E (Z E BJ (U ?_))))
 refine AL h E (fun hc3 h=>?_) fun hc3 h=>?_
 refine V (J E (AQ E E (AE E bS (A5 0 E E E E Rx E E E zT (U (V (J E (O E (U (AJ (Ab ?_)))))))))))
 obtain rfl:=zI h
 exact Bm [0,1,2,3,11,8,9,10,4,5,6,7] 14 (C1 E E) E E ⟨Am,AZ,Ar,E,E⟩
 refine AI (AH (V ?_))
 refine AD h fun y3 hy3 h=>?_
 refine J E (J E (J E (SL.pick [0,1,2,3,11,8,9,10,4,5,6,7,12,13] 14 (BO 14 lm (N7 hy3) E ?_))))
 rintro _ _ ⟨v2,v3,v4,rfl,rfl⟩
 refine U (V (O E (U (AJ ?_))))
 obtain rfl:=zI h
 exact Bm [0,1,2,3,4,5,6,7,8,9,10,11] 12 (C1 E E) E E ⟨v2,v3,v4,E,E⟩
def JF(o1:Af)(o2:Bj)(o3:Aw)(a1:Int):Option (Option (Bj×Aw)×Int×Af):=
 cond (!decide (a1=0))
 (
  some (none,a1,o1))
 (
  some (some (o2,o3),0,o1))
def JY(n:Nat)(T:List UInt32)(p0:Af)(p1:List BI):Option (Option (Bj×Aw)×Int×Af):=
 (FL p1).bind fun y1=>
 (It (decide (y1.2=0)) ((Hc p0).bind fun y2=>some (y2))).bind fun y3=>
 cond y3
 (
  some (none,72,p0))
 (
  (KV p0 p1).bind fun y4=>
  (y4.1).bind fun d1=>
  cond (decide (y4.2.1=0))
  (
   (D9 n T d1.1 d1.2 y4.2.2 [] []).bind fun y5=>
   JF y5.2.2.2 y5.2.1 y5.2.2.1 y5.1)
  (
   JF y4.2.2 d1.1 d1.2 y4.2.1))
theorem W5{n Ao BA B7:Nat}{T:List UInt32}{B8 Ea:Value}{p0:Af}{p1:List BI}{r:Option (Bj×Aw)×Int×Af}(h:JY n T p0 p1=some r)(hS:Ge K w0 T)(hs1_:B6 K w0 AX 2 Ea p1):zC K w0 29 [vP Ao 0,Ea] [own Ao (.cells #[vB p0.off,vB p0.isCut,vI p0.lasts,vI p0.counts,B8,.map (some BA),.map (some B7),AT p0.rcnt,vS p0.rtag,Y p0.rboots] 102),AB 9 1 B8 eS p0.blocks,Aa BA Y vS p0.pend,Aa B7 Y vB p0.bad] H (fun u M=>(r.1=none∧u=.tuple #[.pointer none,vI r.2.1]∧M=[own Ao (.cells #[vB r.2.2.off,vB r.2.2.isCut,vI r.2.2.lasts,vI r.2.2.counts,B8,.map (some BA),.map (some B7),AT r.2.2.rcnt,vS r.2.2.rtag,Y r.2.2.rboots] 102),AB 9 1 B8 eS r.2.2.blocks,Aa BA Y vS r.2.2.pend,Aa B7 Y vB r.2.2.bad])∨(∃(d:Bj×Aw) (bn0:Nat) (vn0x0:Value) (vn0x1:Value) (vn0x2:Value) (vn0x5:Value) (bn1:Nat) (vn1x1:Value) (mn1x5:Nat),r.1=some d∧u=.tuple #[vP bn0 0,vI r.2.1]∧M=[own bn0 (.cells #[vn0x0,vn0x1,vn0x2,vP Ao 0,vP bn1 0,vn0x5,Y d.1.gen,vB d.1.bad] 95),AB 43 4 vn0x0 AU d.1.rows,AB 148 3 vn0x1 AS d.1.pages,Cy vn0x2 Y Y d.1.gens,AB 55 2 vn0x5 AX d.1.ring,own bn1 (.cells #[vP Ao 0,vn1x1,Y d.2.gen,Y d.2.boot,AT d.2.seals,.map (some mn1x5)] 137),AB 55 2 vn1x1 AX d.2.ring,Aa mn1x5 Y vB d.2.taken,own Ao (.cells #[vB r.2.2.off,vB r.2.2.isCut,vI r.2.2.lasts,vI r.2.2.counts,B8,.map (some BA),.map (some B7),AT r.2.2.rcnt,vS r.2.2.rtag,Y r.2.2.rboots] 102),AB 9 1 B8 eS r.2.2.blocks,Aa BA Y vS r.2.2.pend,Aa B7 Y vB r.2.2.bad])):=by
 unfold JY at h
 refine T3.enter Tryz.func29 rfl rfl ?_
 refine V (O E (O E (U (AG (V (J E (EL E Wu E E (U (Cx E (AI (AH (AG (V ?_)))))))))))))
 refine AD h fun y1 hy1 h=>?_
 refine J E (AP 0 fh (PB hy1 hs1_) E (J E (Ac E E E (Ac E E E (O E (O E (U (V ?_))))))))
 refine AD h fun y3 hy3 h=>?_
 refine J E (Z E Bq (J E ?_))
 refine GM 19 3 22 hy3 E (fun hb hg1 k=>?_) (fun hb k=>?_) ?_
 obtain⟨y2,hy2,hg1⟩:=EE hg1
 obtain rfl:=zI hg1
 refine J E (AP 4 lY (Rk hy2) E (Ag E E E ?_))
 exact k.mono tL
 refine AC E (AC E (Ag E E E ?_))
 exact k.mono tL
 refine U ?_
 refine AL h E (fun hc2 h=>?_) fun hc2 h=>?_
 refine V (O E (O E (U (AJ (Ab ?_)))))
 obtain rfl:=zI h
 exact Ae (Ef E E E) (Ad (M:=[_,_,_,_]) (.inl ⟨E,E,E⟩) fun _ hw=>BX.pick (H:=[_,_,_,_]) hw [0,1,2,3] 4 E)
 refine AI (AH (V ?_))
 refine AD h fun y4 hy4 h=>?_
 refine AD h fun d1 hd1 h=>?_
 refine J E (J E ?_)
 refine Bg (vs:=[_,_]) (Hin:=[_,_,_,_]) (Hr:=_) E E ⟨E,E,zT⟩ rq E E (X5 hy4 hs1_) ?_
 rintro _ _ (⟨hn,-,-⟩ | ⟨d_,b1,v1,v2,v3,v4,b2,v5,m1,hn,rfl,rfl⟩)
 rw[hd1]at hn;cases hn
 obtain rfl:d1=d_:=zI (hd1.symm.trans hn)
 refine⟨trivial,?_⟩
 refine J E (Ac E E E (Ac E E E (O E (O E (U ?_)))))
 refine A9 (α:=Af×Bj×Value×Value×Value×Aw×Int) (fun x=>JF x.1 x.2.1 x.2.2.2.2.2.1 x.2.2.2.2.2.2=some r) (fun x=>[(0,vP Ao 0),(8,vP b1 0),(9,vI x.2.2.2.2.2.2)]) (fun x=>own Ao (.cells #[vB x.1.off,vB x.1.isCut,vI x.1.lasts,vI x.1.counts,B8,.map (some BA),.map (some B7),AT x.1.rcnt,vS x.1.rtag,Y x.1.rboots] 102)::AB 9 1 B8 eS x.1.blocks::Aa BA Y vS x.1.pend::Aa B7 Y vB x.1.bad::own b1 (.cells #[x.2.2.1,x.2.2.2.1,x.2.2.2.2.1,vP Ao 0,vP b2 0,v4,Y x.2.1.gen,vB x.2.1.bad] 95)::AB 43 4 x.2.2.1 AU x.2.1.rows::AB 148 3 x.2.2.2.1 AS x.2.1.pages::Cy x.2.2.2.2.1 Y Y x.2.1.gens::own b2 (.cells #[vP Ao 0,v5,Y x.2.2.2.2.2.1.gen,Y x.2.2.2.2.2.1.boot,AT x.2.2.2.2.2.1.seals,.map (some m1)] 137)::AB 55 2 v5 AX x.2.2.2.2.2.1.ring::Aa m1 Y vB x.2.2.2.2.2.1.taken::AB 55 2 v4 AX x.2.1.ring::H) ?_ (fun x D h=>?_)
 refine V (J E (Z E Bq (U ?_)))
 refine AL h E (fun hc3 h=>?_) fun hc3 h=>?_
 refine AN ?_
 refine AD h fun y5 hy5 h=>?_
 refine J E (CB 43 4 AU (SL.pick [1,2,3,4,5,6,7,8,9,10,11,12,0] 13 ?_))
 refine BO 13 lZ (Rw hy5 hS (B6.nil zV)) E ?_
 rintro _ _ ⟨v9,v10,v11,rfl,rfl⟩
 refine O E (AY ?_)
 exact Aq (y5.2.2.2,y5.2.1,v9,v10,v11,y5.2.2.1,y5.1) h tL (BN [8,9,10,11,0,1,2,3,5,6,7,4] 12 E E E)
 refine AI ?_
 exact Aq (y4.2.2,d1.1,v1,v2,v3,d1.2,y4.2.1) h tL (BN [8,9,10,11,0,1,2,3,5,6,7,4] 12 E E E)
 obtain⟨o1,o2,v6,v7,v8,o3,a1⟩:=x
 dsimp only at h
 unfold JF at h
 try dsimp only
 refine AG (V (J E (Z E BJ (U ?_))))
 refine AL h E (fun hc4 h=>?_) fun hc4 h=>?_
 refine V (J E (O E (O E (U (AJ (Ab ?_))))))
 obtain rfl:=zI h
 exact Ae (Ef E E E) (Ad (M:=[_,_,_,_]) (.inl ⟨E,E,E⟩) fun _ hw=>BX.pick (H:=[_,_,_,_,_,_,_,_,_,_,_,_]) hw [0,1,2,3] 12 E)
 refine AI (AH (V (J E (O E (O E (U (AJ ?_)))))))
 obtain rfl:=zI h
 exact Ae (Ef E E E) (Ad (M:=[_,_,_,_,_,_,_,_,_,_,_,_]) (.inr ⟨_,b1,v6,v7,v8,v4,b2,v5,m1,E,E,E⟩) fun _ hw=>BX.pick (H:=[_,_,_,_,_,_,_,_,_,_,_,_]) hw [4,5,6,7,11,8,9,10,0,1,2,3] 12 E)
def F4(p0:Bj)(p0_1:Aw)(p0_2:Af):Option Int:=
 cond p0.bad
 (
  some 131)
 (
  some 0)
theorem SS{Ao CC BL As Ay Az:Nat}{Am AZ Ar BH BM A0:Value}{p0:Bj}{p0_1:Aw}{p0_2:Af}{r:Int}(h:F4 p0 p0_1 p0_2=some r): zC K w0 61 [vP Ao 0] [own Ao (.cells #[Am,AZ,Ar,vP As 0,vP CC 0,BH,Y p0.gen,vB p0.bad] 95),AB 43 4 Am AU p0.rows,AB 148 3 AZ AS p0.pages,Cy Ar Y Y p0.gens,AB 55 2 BH AX p0.ring,own CC (.cells #[vP As 0,BM,Y p0_1.gen,Y p0_1.boot,AT p0_1.seals,.map (some BL)] 137),AB 55 2 BM AX p0_1.ring,Aa BL Y vB p0_1.taken,own As (.cells #[vB p0_2.off,vB p0_2.isCut,vI p0_2.lasts,vI p0_2.counts,A0,.map (some Ay),.map (some Az),AT p0_2.rcnt,vS p0_2.rtag,Y p0_2.rboots] 102),AB 9 1 A0 eS p0_2.blocks,Aa Ay Y vS p0_2.pend,Aa Az Y vB p0_2.bad] H (fun u M=>u=vI r∧M=[own Ao (.cells #[Am,AZ,Ar,vP As 0,vP CC 0,BH,Y p0.gen,vB p0.bad] 95),AB 43 4 Am AU p0.rows,AB 148 3 AZ AS p0.pages,Cy Ar Y Y p0.gens,AB 55 2 BH AX p0.ring,own CC (.cells #[vP As 0,BM,Y p0_1.gen,Y p0_1.boot,AT p0_1.seals,.map (some BL)] 137),AB 55 2 BM AX p0_1.ring,Aa BL Y vB p0_1.taken,own As (.cells #[vB p0_2.off,vB p0_2.isCut,vI p0_2.lasts,vI p0_2.counts,A0,.map (some Ay),.map (some Az),AT p0_2.rcnt,vS p0_2.rtag,Y p0_2.rboots] 102),AB 9 1 A0 eS p0_2.blocks,Aa Ay Y vS p0_2.pend,Aa Az Y vB p0_2.bad]):=by
 unfold F4 at h
 refine T3.enter Tryz.func61 rfl rfl ?_
 refine V (O E (U (AG (AM (V (J E (EL E eo E E (O E (U (Cx E (V (J E (AQ E E (AE E bS ?_))))))))))))))
 refine AF 0 WH E (O E (U ?_))
 refine AL h E (fun hc2 h=>?_) fun hc2 h=>?_
 refine V (O E (U (AJ (BC (Ab ?_)))))
 obtain rfl:=zI h
 exact AW [0,1,2,3,4,5,6,7,8,9,10,11] 12 E E E
 refine AI (Aj (AH (V (O E (U (AJ ?_))))))
 obtain rfl:=zI h
 exact AW [0,1,2,3,4,5,6,7,8,9,10,11] 12 E E E
def Cn(n:Nat)(T:List UInt32)(p0:Bj)(p0_1:Aw)(p0_2:Af)(p1:List Is):Option (Int×Int×Bj×Aw×Af):=
 (F4 p0 p0_1 p0_2).bind fun y1=>
 cond (!decide (y1=0))
 (
  some (0,y1,p0,p0_1,p0_2))
 (
  (Np n p0.rows p1).bind fun y2=>
  ret (!decide (y2.2.2=0)) fun x1=>
  cond x1
  (
   some (y2.2.1,y2.2.2,p0,p0_1,p0_2))
  (
   (Hc p0_2).bind fun y3=>
   cond y3
   (
    some (0,72,p0,p0_1,p0_2))
   (
    (FQ n T p0 p0_1 p0_2 y2.1).bind fun y4=>
    some (0,y4.1,y4.2.1,y4.2.2.1,y4.2.2.2))))
theorem NM{n Ao CC BL As Ay Az:Nat}{T:List UInt32}{Am AZ Ar BH BM A0 Ea:Value}{p0:Bj}{p0_1:Aw}{p0_2:Af}{p1:List Is}{r:Int×Int×Bj×Aw×Af}(h:Cn n T p0 p0_1 p0_2 p1=some r)(hS:Ge K w0 T)(hs1_:B6 K w0 CE 5 Ea p1):zC K w0 36 [vP Ao 0,Ea] [own Ao (.cells #[Am,AZ,Ar,vP As 0,vP CC 0,BH,Y p0.gen,vB p0.bad] 95),AB 43 4 Am AU p0.rows,AB 148 3 AZ AS p0.pages,Cy Ar Y Y p0.gens,AB 55 2 BH AX p0.ring,own CC (.cells #[vP As 0,BM,Y p0_1.gen,Y p0_1.boot,AT p0_1.seals,.map (some BL)] 137),AB 55 2 BM AX p0_1.ring,Aa BL Y vB p0_1.taken,own As (.cells #[vB p0_2.off,vB p0_2.isCut,vI p0_2.lasts,vI p0_2.counts,A0,.map (some Ay),.map (some Az),AT p0_2.rcnt,vS p0_2.rtag,Y p0_2.rboots] 102),AB 9 1 A0 eS p0_2.blocks,Aa Ay Y vS p0_2.pend,Aa Az Y vB p0_2.bad] H (fun u M=>∃vs0_0_0 vs0_0_1 vs0_0_2:Value,u=.tuple #[vI r.1,vI r.2.1]∧M=[own Ao (.cells #[vs0_0_0,vs0_0_1,vs0_0_2,vP As 0,vP CC 0,BH,Y r.2.2.1.gen,vB r.2.2.1.bad] 95),AB 43 4 vs0_0_0 AU r.2.2.1.rows,AB 148 3 vs0_0_1 AS r.2.2.1.pages,Cy vs0_0_2 Y Y r.2.2.1.gens,AB 55 2 BH AX r.2.2.1.ring,own CC (.cells #[vP As 0,BM,Y r.2.2.2.1.gen,Y r.2.2.2.1.boot,AT r.2.2.2.1.seals,.map (some BL)] 137),AB 55 2 BM AX r.2.2.2.1.ring,Aa BL Y vB r.2.2.2.1.taken,own As (.cells #[vB r.2.2.2.2.off,vB r.2.2.2.2.isCut,vI r.2.2.2.2.lasts,vI r.2.2.2.2.counts,A0,.map (some Ay),.map (some Az),AT r.2.2.2.2.rcnt,vS r.2.2.2.2.rtag,Y r.2.2.2.2.rboots] 102),AB 9 1 A0 eS r.2.2.2.2.blocks,Aa Ay Y vS r.2.2.2.2.pend,Aa Az Y vB r.2.2.2.2.bad]):=by
 unfold Cn at h
 refine T3.enter Tryz.func36 rfl rfl ?_
 refine V (O E (O E (U (AG (V ?_)))))
 refine AD h fun y1 hy1 h=>?_
 refine J E (AP 12 r8 (SS hy1) E (O E (U (V (J E (Z E BJ (U ?_)))))))
 refine AL h E (fun hc1 h=>?_) fun hc1 h=>?_
 refine V (J E (O E (O E (U (AJ (Ab ?_))))))
 obtain rfl:=zI h
 exact Bm [0,1,2,3,4,5,6,7,8,9,10,11] 12 (Ef E E E) E E ⟨Am,AZ,Ar,E,E⟩
 refine AI (AH (V ?_))
 refine AD h fun y2 hy2 h=>?_
 refine J E (AQ E E (AE E NB (AE E XR (AF 0 Fa E (J E (SL.pick [1,0] 2 ?_))))))
 refine Bg (vs:=[_,_]) (Hin:=[_]) (Hr:=_::_::_::_::_::_::_::_::_::_::_::_) E E ⟨E,E,zT⟩ r9 E E (Co (B:=[_]) (Hin:=[]) fun K' w1 hk hB=>lP hy2 (CO (e:=43) (v:=Am) zV (hB _ zS)) (hs1_.keeps hk)) ?_
 rintro _ _ ⟨_,rfl,v1,rfl,rfl⟩
 refine⟨trivial,?_⟩
 refine J E (Ac E E E (Ac E E E (Ac E E E (O E (O E (O E (U (AG (AM (V ?_))))))))))
 obtain⟨x1,ex1,h⟩:=Bu h
 refine J E (Z E BJ ?_)
 refine Ai (u:=vB x1) E E (congrArg vB ex1) ?_
 refine U ?_
 refine AL h E (fun hc2 h=>?_) fun hc2 h=>?_
 refine V (J E (J E (O E (O E (U (AJ (BC (Ab ?_))))))))
 obtain rfl:=zI h
 exact Bm [2,0,3,4,5,6,7,8,9,10,11,12] 13 (Ef E E E) E E ⟨Am,AZ,Ar,E,E⟩
 refine V ?_
 refine AD h fun y3 hy3 h=>?_
 refine J E (AQ E E (AE E Ny (AF 2 MZ E (SL.pick [9,10,11,12,0,1,2,3,4,5,6,7,8] 13 (AP 4 lY (Rk hy3) E (O E (U ?_)))))))
 refine AL h E (fun hc3 h=>?_) fun hc3 h=>?_
 refine V (O E (O E (U (AJ (BC (Ab ?_))))))
 obtain rfl:=zI h
 exact Bm [6,4,7,8,9,10,11,12,0,1,2,3] 13 (Ef E E E) E E ⟨Am,AZ,Ar,E,E⟩
 refine AI (Aj (AH (V ?_)))
 refine AD h fun y4 hy4 h=>?_
 refine J E (J E (J E (AQ E E (AE E NB (AE E VP (AF 6 Pb E (SL.pick [6,4,7,8,9,10,11,12,0,1,2,3,5] 13 ?_)))))))
 refine BO 13 lZ (Q8 hy4 hS) E ?_
 rintro _ _ ⟨v2,v3,v4,rfl,rfl⟩
 refine O E (O E (U (AJ ?_)))
 obtain rfl:=zI h
 exact Bm [0,1,2,3,4,5,6,7,8,9,10,11] 12 (Ef E E E) E E ⟨v2,v3,v4,E,E⟩
def Cr(p0:Bj)(p0_1:Aw)(p0_2:Af):Option (List Ak):=
 (Nu p0.rows).bind fun y1=>
 some y1
theorem LI{Ao CC BL As Ay Az:Nat}{Am AZ Ar BH BM A0:Value}{p0:Bj}{p0_1:Aw}{p0_2:Af}{r:List Ak}(h:Cr p0 p0_1 p0_2=some r): zC K w0 13 [vP Ao 0] [own Ao (.cells #[Am,AZ,Ar,vP As 0,vP CC 0,BH,Y p0.gen,vB p0.bad] 95),AB 43 4 Am AU p0.rows,AB 148 3 AZ AS p0.pages,Cy Ar Y Y p0.gens,AB 55 2 BH AX p0.ring,own CC (.cells #[vP As 0,BM,Y p0_1.gen,Y p0_1.boot,AT p0_1.seals,.map (some BL)] 137),AB 55 2 BM AX p0_1.ring,Aa BL Y vB p0_1.taken,own As (.cells #[vB p0_2.off,vB p0_2.isCut,vI p0_2.lasts,vI p0_2.counts,A0,.map (some Ay),.map (some Az),AT p0_2.rcnt,vS p0_2.rtag,Y p0_2.rboots] 102),AB 9 1 A0 eS p0_2.blocks,Aa Ay Y vS p0_2.pend,Aa Az Y vB p0_2.bad] H (fun u M=>∃v0:Value,u=v0∧M=[AB 43 4 v0 AU r,own Ao (.cells #[Am,AZ,Ar,vP As 0,vP CC 0,BH,Y p0.gen,vB p0.bad] 95),AB 43 4 Am AU p0.rows,AB 148 3 AZ AS p0.pages,Cy Ar Y Y p0.gens,AB 55 2 BH AX p0.ring,own CC (.cells #[vP As 0,BM,Y p0_1.gen,Y p0_1.boot,AT p0_1.seals,.map (some BL)] 137),AB 55 2 BM AX p0_1.ring,Aa BL Y vB p0_1.taken,own As (.cells #[vB p0_2.off,vB p0_2.isCut,vI p0_2.lasts,vI p0_2.counts,A0,.map (some Ay),.map (some Az),AT p0_2.rcnt,vS p0_2.rtag,Y p0_2.rboots] 102),AB 9 1 A0 eS p0_2.blocks,Aa Ay Y vS p0_2.pend,Aa Az Y vB p0_2.bad]):=by
 unfold Cr at h
 refine T3.enter Tryz.func13 rfl rfl ?_
 refine V (CB 43 4 AU (O E (U (AG (V (J E (EL E eo E E (U (Cx E (AI (AH (V ?_))))))))))))
 refine AD h fun y1 hy1 h=>?_
 refine J E (AQ E E (AE E NB (AE E XR (AF 1 Fa E (SL.pick [2,0,1] 3 ?_)))))
 refine Bg (vs:=[_]) (Hin:=[_]) (Hr:=_::_::_::_::_::_::_::_::_::_::_::_::_) E E ⟨E,zT⟩ fg E E (Co (B:=[_]) (Hin:=[]) fun K' w1 hk hB=>Y1 hy1 (CO (e:=43) (v:=Am) zV (hB _ zS))) ?_
 rintro v1 _ ⟨_,rfl,_,rfl,rfl⟩
 refine⟨trivial,?_⟩
 refine O E (U (AJ ?_))
 obtain rfl:=zI h
 exact Bm [1,3,0,4,5,6,7,8,9,10,11,12,13] 14 (C1 E E) E E ⟨v1,E,E⟩
def HH(n:Nat)(p0:Bj)(p0_1:Aw)(p0_2:Af)(p1:UInt64):Option (Ak×Int):=
 (I6 n p0.rows p1).bind fun y1=>
 some ((⟨y1.1.id,y1.1.x,y1.1.y,y1.1.txt⟩:Ak),y1.2)
theorem UE{n Ao CC BL As Ay Az:Nat}{Am AZ Ar BH BM A0:Value}{p0:Bj}{p0_1:Aw}{p0_2:Af}{p1:UInt64}{r:Ak×Int}(h:HH n p0 p0_1 p0_2 p1=some r): zC K w0 48 [vP Ao 0,AT p1] [own Ao (.cells #[Am,AZ,Ar,vP As 0,vP CC 0,BH,Y p0.gen,vB p0.bad] 95),AB 43 4 Am AU p0.rows,AB 148 3 AZ AS p0.pages,Cy Ar Y Y p0.gens,AB 55 2 BH AX p0.ring,own CC (.cells #[vP As 0,BM,Y p0_1.gen,Y p0_1.boot,AT p0_1.seals,.map (some BL)] 137),AB 55 2 BM AX p0_1.ring,Aa BL Y vB p0_1.taken,own As (.cells #[vB p0_2.off,vB p0_2.isCut,vI p0_2.lasts,vI p0_2.counts,A0,.map (some Ay),.map (some Az),AT p0_2.rcnt,vS p0_2.rtag,Y p0_2.rboots] 102),AB 9 1 A0 eS p0_2.blocks,Aa Ay Y vS p0_2.pend,Aa Az Y vB p0_2.bad] H (fun u M=>u=.tuple #[.agg (AU r.1).toArray,vI r.2]∧M=[own Ao (.cells #[Am,AZ,Ar,vP As 0,vP CC 0,BH,Y p0.gen,vB p0.bad] 95),AB 43 4 Am AU p0.rows,AB 148 3 AZ AS p0.pages,Cy Ar Y Y p0.gens,AB 55 2 BH AX p0.ring,own CC (.cells #[vP As 0,BM,Y p0_1.gen,Y p0_1.boot,AT p0_1.seals,.map (some BL)] 137),AB 55 2 BM AX p0_1.ring,Aa BL Y vB p0_1.taken,own As (.cells #[vB p0_2.off,vB p0_2.isCut,vI p0_2.lasts,vI p0_2.counts,A0,.map (some Ay),.map (some Az),AT p0_2.rcnt,vS p0_2.rtag,Y p0_2.rboots] 102),AB 9 1 A0 eS p0_2.blocks,Aa Ay Y vS p0_2.pend,Aa Az Y vB p0_2.bad]):=by
 unfold HH at h
 refine T3.enter Tryz.func48 rfl rfl ?_
 refine V ?_
 refine Al E HU zU fun b1=>?_
 refine O E (U (AG (V (J E (EL E eo E E (U (Cx E (AI (AH (V ?_))))))))))
 refine AD h fun y1 hy1 h=>?_
 refine J E (AQ E E (AE E NB (AE E XR (AF 1 Fa E (J E (SL.pick [2,0,1] 3 ?_))))))
 refine Bg (vs:=[_,_]) (Hin:=[_]) (Hr:=_::_::_::_::_::_::_::_::_::_::_::_::_) E E ⟨E,E,zT⟩ sC E E (Co (B:=[_]) (Hin:=[]) fun K' w1 hk hB=>aW hy1 (CO (e:=43) (v:=Am) zV (hB _ zS))) ?_
 rintro _ _ ⟨_,rfl,rfl,rfl⟩
 refine⟨trivial,?_⟩
 refine Ac E E E (Ac E E E (A5 1 E E E E Dq E E E zT (O E (U (AJ ?_)))))
 obtain rfl:=zI h
 exact Ae (EN E (B9 1 (AU (⟨y1.1.id,y1.1.x,y1.1.y,y1.1.txt⟩:Ak)) GN E E E E) E) (Ad (M:=[_,_,_,_,_,_,_,_,_,_,_,_]) ⟨E,E⟩ fun _ hw=>BX.pick (H:=[_,_,_,_,_,_,_,_,_,_,_,_,_]) hw [2,0,3,4,5,6,7,8,9,10,11,12] 13 E)
end

section
structure Dv(N m:Nat)(c:UInt64)(d:Af):Prop where
 bl:d.blocks.length=N
 pl:d.pend.length≤m
 pk:∀e∈d.pend,e.1.toNat<N
 rc:d.rcnt=c
theorem Dv.up{N m m':Nat}{c:UInt64}{d:Af}(D:Dv N m c d)(h:m≤m'):Dv N m' c d:=⟨D.bl,Nat.le_trans D.pl h,D.pk,D.rc⟩
theorem jj{N m:Nat}{c:UInt64}{d:Af}{p:UInt32}{s:List UInt8}{y:Int×Af}(h:Iw d p s=some y)(D:Dv N m c d):Dv N (m+1) c y.2:=by
 unfold Iw at h
 rw[bV,AA,Be]at h
 cases hh:((!decide (p.toNat<d.blocks.length))||(!decide ((s.length:Int)=256)))with
 | true=>
  rw[hh,Cs]at h
  obtain rfl:=zI h
  exact D.up (Nat.le_succ _)
 | false=>
  rw[hh,B0,TT,AA]at h
  have hp:p.toNat<N:=by
   simp at hh
   rw[←D.bl]
   exact hh.1
  cases hon:V7 d with
  | true=>
   rw[hon]at h
   simp only[if_true,decide_true,Cs]at h
   refine AD h fun l hl h=>?_
   obtain⟨-,rfl⟩:=Wl hl
   obtain rfl:=zI (show some _=some y from h)
   refine⟨D.bl,?_,?_,D.rc⟩
   have:(EU d.pend p).length≤d.pend.length:=List.length_filter_le ..
   have:=D.pl
   show(EU d.pend p).length+1≤m+1
   omega
   intro e he
   rcases List.mem_cons.1 (show e∈(p,s)::EU d.pend p from he)with rfl | he
   exact hp
   exact D.pk e (List.mem_filter.1 he).1
  | false=>
   rw[hon]at h
   obtain rfl:=zI (show some _=some y from h)
   exact⟨D.bl,Nat.le_succ_of_le D.pl,D.pk,D.rc⟩
theorem da{T:List UInt32}{N m:Nat}{c:UInt64}{v:Aw}{d:Af}{p:UInt32}{s:List UInt8}{y:List UInt8×Int×Aw×Af}(h:KW T v d p s=some y)(D:Dv N m c d):Dv N (m+1) c y.2.2.2:=by
 unfold KW at h
 obtain⟨y1,-,h⟩:=EE h
 cases h1:(!decide (y1.2=0))with
 | true=>
  rw[h1,Cs]at h
  obtain rfl:=zI h
  exact D.up (Nat.le_succ _)
 | false=>
  rw[h1,B0]at h
  refine AD h fun y2 h2 h=>?_
  have D2:=jj h2 D
  cases h3:(!decide (y2.1=0))with
  | true=>
   rw[h3,Cs]at h
   obtain rfl:=zI h
   exact D2
  | false=>
   rw[h3,B0]at h
   obtain⟨y3,-,h⟩:=EE h
   obtain rfl:=zI h
   exact D2
theorem sM{T:List UInt32}{N m:Nat}{c:UInt64}{v:Aw}{d:Af}{s:List UInt8}{y:BQ×Int×Aw×Af}(h:Gh T v d s=some y)(D:Dv N m c d):Dv N (m+1) c y.2.2.2:=by
 have key:∀ {p:UInt32},F5 T v d s p=some y→Dv N (m+1) c y.2.2.2:=by
  intro p h
  unfold F5 at h
  cases h1:decide (p=0)with
  | true=>
   rw[h1,Cs]at h
   obtain rfl:=zI h
   exact D.up (Nat.le_succ _)
  | false=>
   rw[h1,B0]at h
   refine AD h fun y4 h4 h=>?_
   have D4:=da h4 D
   cases h3:(!decide (y4.2.1=0))with
   | true=>
    rw[h3,Cs]at h
    obtain rfl:=zI h
    exact D4
   | false=>
    rw[h3,B0]at h
    obtain⟨l,-,h⟩:=EE h
    obtain rfl:=zI h
    exact D4
 unfold Gh at h
 rw[Be]at h
 cases h1:decide (198<(s.length:Int))with
 | true=>
  rw[h1,Cs]at h
  obtain rfl:=zI h
  exact D.up (Nat.le_succ _)
 | false=>
  rw[h1,B0]at h
  obtain⟨_,-,h⟩:=EE h
  obtain⟨xs,-,h⟩:=EE h
  cases xs with
  | nil=>exact key (p:=0) h
  | cons e xs=>exact key (p:=e) h
theorem eH{T:List UInt32}{th:List (MR×BQ)}{N:Nat}{c:UInt64}:∀(seg:List A4) (m:Nat) (q q':T5),Ul (OS T th) q seg q'→Dv N m c q.d→Dv N (m+seg.length) c q'.d∧q'.tk.length≤q.tk.length+seg.length
 | [],m,q,q',h,D=>by rw[←show q=q' from h];exact⟨D,Nat.le_refl _⟩
 | s::seg,m,q,q',h,D=>by
  obtain⟨q1,h1,h2⟩:=h
  have D1:Dv N (m+1) c q1.d∧q1.tk.length≤q.tk.length+1:=by
   unfold OS at h1
   obtain⟨k,hk,h1⟩:=EE h1
   cases hs:(Cd th k).isSome with
   | true=>
    rw[hs,Cs]at h1
    have h3:=congrArg Prod.snd (zI h1)
    rw[←show q=q1 from h3]
    exact⟨D.up (Nat.le_succ _),Nat.le_succ _⟩
   | false=>
    rw[hs,B0]at h1
    obtain⟨y,hy,h1⟩:=EE h1
    have D2:=sM hy D
    cases he:decide (y.2.1=0)with
    | true=>
     rw[he,Cs]at h1
     obtain⟨l,hl,h1⟩:=EE h1
     rw[←show(⟨l,y.2.2.1,y.2.2.2⟩:T5)=q1 from congrArg Prod.snd (zI h1)]
     refine⟨D2,?_⟩
     unfold DR at hl
     split at hl
     obtain rfl:=zI hl
     simp
     cases hl
    | false=>
     rw[he,B0]at h1
     rw[←show(⟨q.tk,y.2.2.1,y.2.2.2⟩:T5)=q1 from congrArg Prod.snd (zI h1)]
     exact⟨D2,Nat.le_succ _⟩
  have:=eH seg (m+1) q1 q' h2 D1.1
  have h5:=D1.2
  rw[List.length_cons,show m+(seg.length+1)=m+1+seg.length by omega]
  exact⟨this.1,by omega⟩
theorem jY{N:Nat}{c:UInt64}{d:Af}{tag:List UInt8}(D:Dv N 0 c d)(K:Qs N 0 d)(ht:tag.length=32)(hc:c≠18446744073709551615):∃d',La d tag=some (0,d')∧Dv N 0 (c+1) d'∧Qs N 0 d'∧∀p,H5 d' p=H5 d p:=by
 have hon:V7 d=true:=by simp[V7,K.on,K.uncut]
 refine⟨{ OP d with rcnt:=d.rcnt+1,rtag:=tag },?_,⟨D.bl,D.pl,D.pk,by rw[←D.rc]⟩,⟨K.blen,K.nle,K.on,K.uncut,K.good,K.plen,by omega⟩,fun p=>rfl⟩
 unfold La
 rw[Be,zt (by omega:(tag.length:Int)=32)]
 simp only[Bool.not_true,B0]
 rw[Be,zf (by rw[D.rc];exact hc),B0,TT,hon,AA]
 rfl
theorem ql{T:List UInt32}{N:Nat}{c:UInt64}{v:Aw}{d:Af}{k:BI}{s:List UInt8}(D:Dv N 0 c d)(K:Qs N 0 d)(hr:v.ring.length≤1099511627776)(hk:DW v.ring v.gen=(k,0))(hs:s.length≤198)(p:UInt32)(hp:p.toNat<2)(hN:4≤N):
  ∃tag d',N8 T v d p s=some (tag,0,{ v with seals:=v.seals+1 },d')∧tag.length=32∧Dv N 1 c d'∧Qs N 1 d'∧∀q:UInt32,2≤q.toNat→H5 d' q=H5 d q:=by
 have hb:=Kn T k (hd v p) hs
 have hw:=eY (T:=T) K zO hr hk (show p.toNat<N by omega) hs
 refine⟨(Hi T k (hd v p) s).drop 224,{ d with counts:=wI (d.counts+1),pend:=In d.pend p (Hi T k (hd v p) s) },?_,by simp[hb],da hw D,(K.write zO (show p.toNat<N by omega) hb).2,fun q hq=>?_⟩
 unfold N8
 have h1:decide ((2:UInt32)≤p)=false:=by rw[decide_eq_false_iff_not,UInt32.le_iff_toNat_le];exact Nat.not_le.2 hp
 rw[Be,h1,B0,Be,zf zO,B0,hw,AA]
 rw[Vy,if_neg (fun e=>by subst e;omega)]
theorem oK(x:UInt64):∃l,Gg 2200000 x 8=some l∧l.length=8:=⟨_,rfl,rfl⟩
theorem aQ(x:UInt64):∃l,Gg 2200000 x 4=some l∧l.length=4:=⟨_,rfl,rfl⟩
theorem gU(r:Eu)(h:r.tag.length=32):∃s,M7 2200000 r=some s∧s.length=56:=by
 obtain⟨a,ha,la⟩:=oK r.cnt
 obtain⟨b,hb,lb⟩:=aQ r.gen.toUInt64
 obtain⟨c,hc,lc⟩:=aQ r.rows.toUInt64
 obtain⟨e,he,le⟩:=aQ r.page.toUInt64
 have hl:([[115,112,104,114],a,b,c,e,r.tag]:List (List UInt8)).flatten.length=56:=by simp[la,lb,lc,le,h]
 refine⟨_,?_,hl⟩
 unfold M7 Ok bX
 rw[ha,AA,hb,AA,hc,AA,he,AA,if_pos ⟨rfl,by simp,by simp,by omega,by omega⟩]
 rfl
end

section
theorem jB:∀ {f:Nat} {l:List Ak} {t:CW} ,Tr f l t→(l.length≤4→Me f t=1)∧(5≤l.length→Me f t+5≤2*l.length)
 | 0,_,_,h=>h.elim
 | f+1,l,t,h=>by
  rcases h with⟨rfl,rfl⟩ | ⟨hne,c,L,A,⟨_,rfl⟩ | ⟨h4,hL,ks,rfl,hk⟩⟩
  exact⟨fun _=>rfl,fun h=>by simp at h⟩
  rw[Me,if_pos (show(CW.mk c.x c.y c.lev l []).kids.length=0 from rfl)]
  simp only[CW.rows]
  exact⟨fun h=>by omega,fun h=>by omega⟩
  refine⟨fun h=>absurd h zO,fun _=>?_⟩
  have hkl:=hk.length
  have hq2:=(RU A hL).1
  have hq4:=UX L l
  rw[Me,if_neg (by simp only[CW.kids];omega)]
  simp only[CW.kids]
  have key:∀ {xs:List (List Ak)} {ys:List CW},Ue (Tr f) xs ys→(∀x∈xs,x≠[])→
    (ys.map (Me f)).sum+xs.length≤2*xs.flatten.length∧((ys.map (Me f)).sum=xs.length∨(ys.map (Me f)).sum+xs.length+4≤2*xs.flatten.length):=by
   intro xs ys h
   induction h with
   | nil=>simp
   | @cons x y xs ys h1 h2 ih=>
    intro hx
    have a1:=jB h1
    obtain⟨a2,a3⟩:=ih fun x hx'=>hx x (by simp[hx'])
    have a4:=List.length_pos_iff.2 (hx x zS)
    simp only[List.map_cons,List.sum_cons,List.length_cons,List.flatten_cons,List.length_append]
    by_cases h5:x.length≤4
    have:=a1.1 h5
    omega
    have:=a1.2 zO
    omega
  have:=key hk fun x hx=>(RS hx).1
  rw[(Wo L l).length_eq]at this
  omega
def So(k:Nat):Nat:=if k≤4 then 1 else 2*k-5
theorem eG{f:Nat}{l:List Ak}{t:CW}(h:Tr f l t):Me f t≤So l.length:=by
 have:=jB h
 unfold So
 split<;>omega
theorem eI{T:List UInt32}{th:List (MR×BQ)}:∀(seg:List A4) (q q':T5),Ul (OS T th) q seg q'→∀p∈q'.tk,p∈q.tk∨p∈seg.map (·.page)
 | [],q,q',h,p,hp=>by rw[←show q=q' from h]at hp;exact .inl hp
 | s::seg,q,q',h,p,hp=>by
  obtain⟨q1,h1,h2⟩:=h
  have D1:∀p∈q1.tk,p∈q.tk∨p=s.page:=by
   unfold OS at h1
   obtain⟨k,hk,h1⟩:=EE h1
   cases hs:(Cd th k).isSome with
   | true=>
    rw[hs,Cs]at h1
    have h3:=congrArg Prod.snd (zI h1)
    rw[←show q=q1 from h3]
    exact fun p hp=>.inl hp
   | false=>
    rw[hs,B0]at h1
    obtain⟨y,hy,h1⟩:=EE h1
    cases he:decide (y.2.1=0)with
    | true=>
     rw[he,Cs]at h1
     obtain⟨l,hl,h1⟩:=EE h1
     have h5:=zI h1
     rw[←show(⟨l,y.2.2.1,y.2.2.2⟩:T5)=q1 from congrArg Prod.snd h5]
     have h6:y.1=⟨s.page,s.tag⟩:=congrArg (fun x=>x.1.1) h5
     unfold DR at hl
     split at hl
     obtain rfl:=zI hl
     intro p hp
     rcases List.mem_append.1 hp with hp | hp
     exact .inl hp
     right
     rw[List.mem_singleton.1 hp,h6]
     cases hl
    | false=>
     rw[he,B0]at h1
     rw[←show(⟨q.tk,y.2.2.1,y.2.2.2⟩:T5)=q1 from congrArg Prod.snd (zI h1)]
     exact fun p hp=>.inl hp
  rcases eI seg q1 q' h2 p hp with h | h
  rcases D1 p h with h | rfl
  exact .inl h
  exact .inr (List.mem_cons_self ..)
  exact .inr (List.mem_cons_of_mem _ h)
theorem mS{v:Aw}{d:Af}{p:UInt32}(hb:d.blocks.length=60)(h2:2≤p.toNat)(h60:p.toNat<60):∃e,IH v d p=some (e,{ v with taken:=EU v.taken p })∨(IH v d p=some (e,v)∧EU v.taken p=v.taken)∨(∃q∈v.taken,q.2=false):=by
 have h1:H4 v d p=some true:=by
  unfold H4 I3
  have:decide (2≤p)=true:=zt (UInt32.le_iff_toNat_le.2 h2)
  rw[this,hb]
  show(some (decide ((p.toNat:Int)<((60:Nat):Int)))).bind _=_
  rw[zt zO]
  rfl
 unfold IH
 rw[h1,AA,Be]
 cases hm:Cd v.taken p with
 | none=>
  refine⟨2,.inr (.inl ⟨rfl,O1 fun e he hep=>?_⟩)⟩
  unfold Cd at hm
  have:=List.find?_eq_none.1 (Option.map_eq_none_iff.1 hm) e he
  simp[hep]at this
 | some b=>
  cases b with
  | true=>exact⟨0,.inl rfl⟩
  | false=>
   refine⟨2,.inr (.inr ?_)⟩
   unfold Cd at hm
   obtain⟨q,hq,hb⟩:=Option.map_eq_some_iff.1 hm
   exact⟨q,List.mem_of_find?_eq_some hq,hb⟩
theorem mT{v:Aw}{d:Af}{p:UInt32}(hb:d.blocks.length=60)(h2:2≤p.toNat)(h60:p.toNat<60)(ht:∀q∈v.taken,q.2=true):∃e,IH v d p=some (e,{ v with taken:=EU v.taken p }):=by
 obtain⟨e,h | ⟨h,h3⟩ | ⟨q,hq,hf⟩⟩:=mS (v:=v) hb h2 h60
 exact⟨e,h⟩
 refine⟨e,?_⟩
 rw[h,h3]
 rw[ht q hq]at hf
 cases hf
def ML(g:List (UInt32×UInt32)):List A4→List (UInt32×Bool)→List (UInt32×Bool)
 | [],t=>t
 | s::r,t=>ML g r (if(Cd g s.page).isSome then t else EU t s.page)
theorem UM(g:List (UInt32×UInt32)):∀(r:List A4) (t:List (UInt32×Bool)),(ML g r t).Sublist t∧∀e∈t,(e∈ML g r t↔∀s∈r,s.page=e.1→(Cd g s.page).isSome=true)
 | [],t=>⟨List.Sublist.refl _,fun e he=>by simp[ML,he]⟩
 | s::r,t=>by
  rw[ML]
  cases hs:(Cd g s.page).isSome with
  | true=>
   rw[if_pos rfl]
   obtain⟨h1,h2⟩:=UM g r t
   refine⟨h1,fun e he=>?_⟩
   rw[h2 e he]
   constructor
   intro h x hx hp
   rcases List.mem_cons.1 hx with rfl | hx
   exact hs
   exact h x hx hp
   exact fun h x hx hp=>h x (List.mem_cons_of_mem _ hx) hp
  | false=>
   rw[if_neg zD]
   obtain⟨h1,h2⟩:=UM g r (EU t s.page)
   refine⟨h1.trans List.filter_sublist,fun e he=>?_⟩
   by_cases hp:e.1=s.page
   constructor
   intro h
   have:=(List.mem_filter.1 (h1.subset h)).2
   simp[hp]at this
   intro h
   have:=h s (List.mem_cons_self ..) hp.symm
   rw[hs]at this
   cases this
   rw[h2 e (List.mem_filter.2 ⟨he,by simpa using hp⟩)]
   constructor
   intro h x hx hp'
   rcases List.mem_cons.1 hx with rfl | hx
   exact absurd hp'.symm hp
   exact h x hx hp'
   exact fun h x hx hp=>h x (List.mem_cons_of_mem _ hx) hp
variable {o:Bj}{d:Af}{l:List Ak}{ps:List A4}
theorem bj{g:List (UInt32×UInt32)}(hb:d.blocks.length=60)(ho:∀s∈o.pages,2≤s.page.toNat∧s.page.toNat<60)(hl:o.pages.length≤100000):∀(k i m:Nat) (v:Aw),i+k=o.pages.length→k<m→(∀q∈v.taken,q.2=true)→
  DU o d l ps g m (v,(i:Int))=some ({ o with rows:=l,pages:=ps,gens:=g },{ v with taken:=ML g (o.pages.drop i) v.taken })
 | _,_,0,_,_,h,_=>absurd h (Nat.not_lt_zero _)
 | 0,i,m+1,v,hi,_,_=>by
  show De o d l ps g (DU o d l ps g m) v (i:Int)=_
  unfold De
  rw[zf zO,B0,List.drop_eq_nil_of_le zO]
  rfl
 | k+1,i,m+1,v,hi,hm,ht=>by
  have hil:i<o.pages.length:=zO
  have n1:BB o.pages (i:Int)=some o.pages[i]:=by rw[Lm rfl,List.getElem?_eq_getElem hil]
  show De o d l ps g (DU o d l ps g m) v (i:Int)=_
  unfold De
  rw[zt zO,Cs,n1,AA,Be,Be,List.drop_eq_getElem_cons hil,ML]
  have hsx:=ho _ (List.getElem_mem hil)
  cases hg:(Cd g o.pages[i].page).isSome with
  | true=>
   rw[show(!true)=false from rfl,B0]
   unfold EH
   rw[Cm zO zO,show(i:Int)+1=((i+1:Nat):Int) by omega,bj hb ho hl k (i+1) m v zO zO ht,if_pos rfl]
  | false=>
   obtain⟨e,he⟩:=mT (v:=v) hb hsx.1 hsx.2 ht
   rw[show(!false)=true from rfl,Cs,he,AA]
   unfold EH
   rw[Cm zO zO,show(i:Int)+1=((i+1:Nat):Int) by omega,bj hb ho hl k (i+1) m _ zO zO (fun q hq=>ht q (List.mem_filter.1 hq).1),if_neg zD]
theorem V4{α:Type}{m:List (UInt32×α)}{p:UInt32}{a:α}:(In m p a).length≤m.length+1:=by
 show(EU m p).length+1≤_
 have:(EU m p).length≤m.length:=List.length_filter_le ..
 omega
theorem V3{α:Type}{m:List (UInt32×α)}{p:UInt32}{a:α}(h:m.length≤1000000):NC m p a=some (In m p a):=by
 unfold NC
 rw[if_pos zO]
def PR(o:Bj)(was:List (UInt32×A4)):List A4→List (UInt32×UInt32)→List (UInt32×UInt32)
 | [],g=>g
 | s::r,g=>PR o was r (In g s.page (if Cd was s.page=some s∨(Cd was s.page=none∧s=⟨[],0,[]⟩)then(Cd o.gens s.page).getD 0 else o.gen))
theorem j7{α:Type}{m:List (UInt32×α)}{p:UInt32}{a b:α}:In (In m p a) p b=In m p b:=by
 show(p,b)::EU ((p,a)::EU m p) p=(p,b)::EU m p
 have:EU ((p,a)::EU m p) p=EU (EU m p) p:=by simp[EU]
 rw[this]
 congr 1
 exact O1 fun e he=>by simpa using(List.mem_filter.1 he).2
theorem bh{was:List (UInt32×A4)}{n:Nat}{v:Aw}(hl:ps.length≤100000):∀(k i m:Nat) (g:List (UInt32×UInt32)),i+k=ps.length→k<m→g.length≤i→
  DT n o v d l ps was m (g,(i:Int))=DU o d l ps (PR o was (ps.drop i) g) n (v,0)
 | _,_,0,_,_,h,_=>absurd h (Nat.not_lt_zero _)
 | 0,i,m+1,g,hi,_,_=>by
  show Dd n o v d l ps was (DT n o v d l ps was m) g (i:Int)=_
  unfold Dd
  rw[zf zO,B0,List.drop_eq_nil_of_le zO]
  rfl
 | k+1,i,m+1,g,hi,hm,hg=>by
  have hil:i<ps.length:=zO
  have n1:BB ps (i:Int)=some ps[i]:=by rw[Lm rfl,List.getElem?_eq_getElem hil]
  show Dd n o v d l ps was (DT n o v d l ps was m) g (i:Int)=_
  unfold Dd
  rw[zt zO,Cs,n1,AA,V3 zO,AA,List.drop_eq_getElem_cons hil,PR]
  have hmp:=V4 (m:=g) (p:=ps[i].page) (a:=o.gen)
  have hq:(decide (((Cd was ps[i].page).getD ⟨[],0,[]⟩).txt=ps[i].txt)&&(decide (((Cd was ps[i].page).getD ⟨[],0,[]⟩).page=ps[i].page)&&(decide (((Cd was ps[i].page).getD ⟨[],0,[]⟩).tag=ps[i].tag)&&true)))=decide (Cd was ps[i].page=some ps[i]∨(Cd was ps[i].page=none∧ps[i]=⟨[],0,[]⟩)):=by
   have e1:∀a b:A4,(decide (a.txt=b.txt)&&(decide (a.page=b.page)&&(decide (a.tag=b.tag)&&true)))=decide (a=b):=fun a b=>by
    obtain⟨a1,a2,a3⟩:=a
    obtain⟨b1,b2,b3⟩:=b
    simp[A4.mk.injEq]
   rw[e1]
   cases Cd was ps[i].page with
   | none=>simp[eq_comm]
   | some x=>simp
  rw[hq]
  by_cases hc:Cd was ps[i].page=some ps[i]∨(Cd was ps[i].page=none∧ps[i]=⟨[],0,[]⟩)
  rw[zt hc,Cs,V3 zO,AA,j7,if_pos hc]
  have hmp2:=V4 (m:=g) (p:=ps[i].page) (a:=(Cd o.gens ps[i].page).getD 0)
  unfold EG
  rw[Cm zO zO,show(i:Int)+1=((i+1:Nat):Int) by omega,bh hl k (i+1) m _ zO zO zO]
  rw[zf hc,B0,if_neg hc]
  unfold EG
  rw[Cm zO zO,show(i:Int)+1=((i+1:Nat):Int) by omega,bh hl k (i+1) m _ zO zO zO]
def Vh:List A4→List (UInt32×A4)→List (UInt32×A4)
 | [],w=>w
 | s::r,w=>Vh r (In w s.page s)
theorem i9{n:Nat}{v:Aw}(hl:o.pages.length≤100000):∀(k i m:Nat) (w:List (UInt32×A4)),i+k=o.pages.length→k<m→w.length≤i→
  EI n o v d l ps m (w,(i:Int))=DT n o v d l ps (Vh (o.pages.drop i) w) n ([],0)
 | _,_,0,_,_,h,_=>absurd h (Nat.not_lt_zero _)
 | 0,i,m+1,w,hi,_,_=>by
  show Dc n o v d l ps (EI n o v d l ps m) w (i:Int)=_
  unfold Dc
  rw[zf zO,B0,List.drop_eq_nil_of_le zO]
  rfl
 | k+1,i,m+1,w,hi,hm,hw=>by
  have hil:i<o.pages.length:=zO
  have n1:BB o.pages (i:Int)=some o.pages[i]:=by rw[Lm rfl,List.getElem?_eq_getElem hil]
  show Dc n o v d l ps (EI n o v d l ps m) w (i:Int)=_
  unfold Dc
  have hmp:=V4 (m:=w) (p:=o.pages[i].page) (a:=o.pages[i])
  rw[zt zO,Cs,n1,AA,V3 zO,AA,List.drop_eq_getElem_cons hil,Vh,Cm zO zO,show(i:Int)+1=((i+1:Nat):Int) by omega,i9 hl k (i+1) m _ zO zO zO]
theorem Wf(o:Bj)(was:List (UInt32×A4)):∀(r:List A4) (g:List (UInt32×UInt32)) (p:UInt32),(Cd (PR o was r g) p).isSome=true↔(Cd g p).isSome=true∨p∈r.map (·.page)
 | [],g,p=>by simp[PR]
 | s::r,g,p=>by
  rw[PR,Wf o was r,V2]
  by_cases h:s.page=p
  simp[h]
  have h':p≠s.page:=fun e=>h e.symm
  simp[h,h']
theorem gC{n:Nat}{v:Aw}(hb:d.blocks.length=60)(ho:∀s∈o.pages,2≤s.page.toNat∧s.page.toNat<60)(hl:o.pages.length≤1000)(hp:ps.length≤1000)(hn:1001≤n)(ht:∀q∈v.taken,q.2=true):
  FF n o v d l ps=some ({ o with rows:=l,pages:=ps,gens:=PR o (Vh o.pages []) ps [] },{ v with taken:=ML (PR o (Vh o.pages []) ps []) o.pages v.taken }):=by
 unfold FF
 have h1:=i9 (o:=o) (d:=d) (l:=l) (ps:=ps) (n:=n) (v:=v) zO o.pages.length 0 n [] zO zO (Nat.zero_le _)
 have h2:=bh (o:=o) (d:=d) (l:=l) (ps:=ps) (n:=n) (v:=v) (was:=Vh o.pages []) zO ps.length 0 n [] zO zO (Nat.zero_le _)
 have h3:=bj (o:=o) (d:=d) (l:=l) (ps:=ps) (g:=PR o (Vh o.pages []) ps []) hb ho zO o.pages.length 0 n v zO zO ht
 exact h1.trans (h2.trans h3)
end

section
def RI(m:List (UInt32×List UInt8))(bl:List (List UInt8)):List (List UInt8):=(P2 m).foldl (fun b p=>b.set p.toNat ((Cd m p).getD [])) bl
theorem Qp(f:UInt32→List UInt8):∀(ks:List UInt32) (bl:List (List UInt8)),(ks.foldl (fun b p=>b.set p.toNat (f p)) bl).length=bl.length
 | [],bl=>rfl
 | k::ks,bl=>by rw[List.foldl_cons,Qp f ks];simp
theorem P3{α:Type}{m:List (UInt32×α)}{k:UInt32}:k∈P2 m↔k∈m.map (·.1):=(List.mergeSort_perm _ _).mem_iff
theorem We(y:Int×Af):∀(es:List (Int×UInt32)) (x:Af),(∀e∈es,e.2.toNat<x.blocks.length)→
  KK y es x=some (y.1,{ x with blocks:=es.foldl (fun b e=>b.set e.2.toNat ((Cd x.pend e.2).getD [])) x.blocks,pend:=[] })
 | [],x,_=>rfl
 | e::es,x,h=>by
  have he:=h e (List.mem_cons_self ..)
  show IS y (KK y es) e x=_
  unfold IS
  rw[Dp,List.getElem?_eq_getElem he,AA,Je rfl he,AA]
  exact We y es _ (fun e' h'=>by show _<(List.set ..).length;rw[List.length_set];exact h e' (List.mem_cons_of_mem _ h'))
theorem YF{β:Type}(g:β→UInt32→β):∀(ks:List UInt32) (j:Nat) (b:β),((ks.zipIdx j).map fun q=>((q.2:Int),q.1)).foldl (fun b e=>g b e.2) b=ks.foldl g b
 | [],j,b=>rfl
 | k::ks,j,b=>by simp only[List.zipIdx_cons,List.map_cons,List.foldl_cons];exact YF g ks (j+1) _
theorem fx{ks:List UInt32}{e:Int×UInt32}(h:e∈QH ks):e.2∈ks:=by
 obtain⟨q,hq,rfl⟩:=List.mem_map.1 h
 obtain⟨_,_,h2⟩:=List.mem_zipIdx hq
 rw[h2]
 exact List.getElem_mem _
theorem jq{d:Af}(hl:d.pend.length≤12)(hk:∀q∈d.pend,q.1.toNat<d.blocks.length)(hon:V7 d=true):Iv d=some (0,{ OP d with blocks:=RI d.pend d.blocks,pend:=[] }):=by
 unfold Iv
 rw[TT,hon]
 simp only[if_true,AA,decide_true,Cs]
 unfold WO XT
 rw[AA,show(OP d).pend=d.pend from rfl,if_pos hl,AA,We _ _ _ (fun e he=>?_)]
 rw[show(OP d).pend=d.pend from rfl,show(OP d).blocks=d.blocks from rfl,show(QH (P2 d.pend)).foldl (fun b e=>b.set e.2.toNat ((Cd d.pend e.2).getD [])) d.blocks=RI d.pend d.blocks from YF (fun(b:List (List UInt8)) p=>b.set p.toNat ((Cd d.pend p).getD [])) (P2 d.pend) 0 d.blocks]
 have:=P3.1 (fx he)
 obtain⟨q,hq,e1⟩:=List.mem_map.1 this
 rw[show(OP d).blocks=d.blocks from rfl,←e1]
 exact hk q hq
theorem Tz(f:UInt32→List UInt8):∀(ks:List UInt32) (bl:List (List UInt8)) (p:UInt32),(∀k∈ks,k.toNat<bl.length)→p.toNat<bl.length→
  (ks.foldl (fun b q=>b.set q.toNat (f q)) bl).getD p.toNat []=if p∈ks then f p else bl.getD p.toNat []
 | [],bl,p,_,_=>by simp
 | k::ks,bl,p,h,hp=>by
  have hk:=h k (List.mem_cons_self ..)
  rw[List.foldl_cons,Tz f ks _ p (fun q hq=>by rw[List.length_set];exact h q (List.mem_cons_of_mem _ hq)) (by rw[List.length_set];exact hp)]
  by_cases h1:p∈ks
  rw[if_pos h1,if_pos (List.mem_cons_of_mem _ h1)]
  rw[if_neg h1]
  by_cases e:k=p
  subst e
  rw[if_pos (List.mem_cons_self ..),List.getD_eq_getElem?_getD,List.getElem?_set_self hk]
  rfl
  have hne:k.toNat≠p.toNat:=fun h=>e (UInt32.toNat_inj.1 h)
  rw[if_neg (by intro h;rcases List.mem_cons.1 h with h | h;exact e h.symm;exact h1 h),List.getD_eq_getElem?_getD,List.getElem?_set_ne hne,List.getD_eq_getElem?_getD]
theorem ir{N m c0:Nat}{c:UInt64}{d:Af}(D:Dv N m c d)(hm:m≤12)(K:Qs N c0 d):∃d',Iv d=some (0,d')∧Dv N 0 c d'∧Qs N 0 d'∧∀p:UInt32,p.toNat<N→H5 d' p=H5 d p:=by
 have hon:V7 d=true:=by simp[V7,K.on,K.uncut]
 have hk:∀q∈d.pend,q.1.toNat<d.blocks.length:=fun q hq=>by rw[D.bl];exact D.pk q hq
 have hb:(RI d.pend d.blocks).length=N:=by unfold RI;rw[Qp,D.bl]
 refine⟨{ OP d with blocks:=RI d.pend d.blocks,pend:=[] },?_,⟨hb,Nat.zero_le _,fun _ h=>(by cases h),D.rc⟩,⟨hb,K.nle,K.on,K.uncut,K.good,Nat.zero_le _,by omega⟩,fun p hp=>?_⟩
 exact jq (Nat.le_trans D.pl hm) hk hon
 show(RI d.pend d.blocks).getD p.toNat []=(Cd d.pend p).getD (d.blocks.getD p.toNat [])
 unfold RI
 rw[Tz _ _ _ _ (fun k hk'=>by obtain⟨q,hq,rfl⟩:=List.mem_map.1 (P3.1 hk');exact hk q hq) (by rw[D.bl];exact hp)]
 by_cases h:p∈P2 d.pend
 rw[if_pos h]
 have h2:=P3.1 h
 cases hg:Cd d.pend p with
 | some s=>rfl
 | none=>
  exfalso
  obtain⟨q,hq,rfl⟩:=List.mem_map.1 h2
  unfold Cd at hg
  have:=List.find?_eq_none.1 (Option.map_eq_none_iff.1 hg) q hq
  simp at this
 rw[if_neg h]
 have:Cd d.pend p=none:=UQ fun q hq e=>h (P3.2 (by rw[←e];exact List.mem_map_of_mem hq))
 rw[this]
 rfl
theorem qW{N c0:Nat}{c:UInt64}{d:Af}(D:Dv N 1 c d)(K:Qs N c0 d):∃d',Iv d=some (0,d')∧Dv N 0 c d'∧Qs N 0 d'∧∀p:UInt32,p.toNat<N→H5 d' p=H5 d p:=ir D zO K
end

section
theorem Qs.le'{N c c':Nat}{d:Af}(K:Qs N c d)(h:d.pend.length≤c')(h2:c'≤100):Qs N c' d:=⟨K.blen,K.nle,K.on,K.uncut,K.good,h,h2⟩
theorem cC{T:List UInt32}{c0 m:Nat}{R:List BI}{g:UInt32}{k:BI}{c:UInt64}{o:Bj}{v:Aw}{d:Af}{l:List Ak}{ps:List A4}{s:A4}(V9:VS 60 c0 R g v d)(D:Dv 60 m c d)(hm:m≤12)(hc:c.toNat<1000000)(hg:o.gen=g)(h0:0<g)(hk:DW R g=(k,0))
(hl:l.length≤1000)(hp:ps.length≤1000)(hs:FS ⟨s.page,s.tag⟩=true):
  ∃d',EY 2200000 T o v d l (ps++[s])=some (0,{ v with seals:=v.seals+1 },d')∧Dv 60 0 (c+1) d'∧Qs 60 0 d'∧∀q:UInt32,2≤q.toNat→q.toNat<60→H5 d' q=H5 d q:=by
 obtain⟨d1,h1,D1,K1,e1⟩:=ir D hm V9.dev
 have hc1:(c+1).toNat=c.toNat+1:=by
  rw[UInt64.toNat_add]
  show(c.toNat+1)%_=_
  omega
 have hu:(E4 (l.length:Int)).toNat=l.length:=by simp only[E4,UInt32.toNat_ofNat'];omega
 have hr:Jp ⟨c+1,g,E4 (l.length:Int),s.page,s.tag⟩=some true:=by
  unfold Jp
  rw[Oo,hs,zt (show 0<c+1 by rw[UInt64.lt_iff_toNat_lt,hc1];exact Nat.succ_pos _),zt h0,zt (show E4 (l.length:Int)≤1000 by rw[UInt32.le_iff_toNat_le,hu];exact hl)]
  rfl
 have hn:M6 c g (l.length:Int) ⟨s.page,s.tag⟩=some (⟨c+1,g,E4 (l.length:Int),s.page,s.tag⟩,0):=by
  unfold M6
  have h0:decide (c+1=0)=false:=zf fun e=>by
   have:=congrArg UInt64.toNat e
   rw[hc1]at this
   cases this
  have h2:(decide ((l.length:Int)<0)||decide (1000<(l.length:Int)))=false:=by simp;omega
  rw[Be,h0,B0,h2,hr]
  rfl
 obtain⟨t,ht,htl⟩:=gU ⟨c+1,g,E4 (l.length:Int),s.page,s.tag⟩ (PX hs).1
 have he:KU 2200000 ⟨c+1,g,E4 (l.length:Int),s.page,s.tag⟩=some (t,0):=by
  unfold KU
  rw[hr,AA,ht]
  rfl
 have hsl:((c+1) &&& 1).toUInt32.toNat<2:=by
  have:((c+1) &&& 1).toNat<2:=by
   rw[UInt64.toNat_and]
   exact Nat.lt_succ_of_le Nat.and_le_right
  simp only[UInt64.toNat_toUInt32]
  omega
 obtain⟨tag,d2,h2,lt,D2,K2,e2⟩:=ql (T:=T) D1 K1 (by rw[V9.ring];exact V9.rlen) (by rw[V9.ring,V9.gen];exact hk) (show t.length≤198 by omega) ((c+1) &&& 1).toUInt32 hsl zO
 obtain⟨d3,h3,D3,K3,e3⟩:=qW D2 K2
 obtain⟨d4,h4,D4,K4,e4⟩:=jY D3 K3 lt (by rintro rfl;exact absurd hc zD)
 refine⟨d4,?_,D4,K4,fun q hq hq2=>?_⟩
 unfold EY Fz Oj
 rw[h1,AA]
 simp only[decide_true,Bool.not_true,B0,AA]
 have hlast:BB (ps++[s]) (wI (((ps++[s]).length:Int)-1))=some s:=by
  rw[List.length_append,List.length_singleton,Cm zO zO,show((ps.length+1:Nat):Int)-1=(ps.length:Int) by omega,Dp,List.getElem?_append_right (Nat.le_refl _)]
  simp
 rw[hlast,AA,D1.rc,hg,hn,AA]
 simp only[decide_true,Bool.not_true,B0]
 rw[he,AA,Be,AA,h2,AA]
 simp only[decide_true,Bool.not_true,B0]
 rw[h3,AA]
 simp only[decide_true,Bool.not_true,B0]
 rw[h4,AA]
 rw[e4,e3 q hq2,e2 q hq,e1 q hq2]
structure Uq(T:List UInt32)(R:List BI)(g:UInt32)(c:UInt64)(o:Bj)(v:Aw)(d:Af):Prop where
 vs:VS 60 v.taken.length R g v d
 tk:SA 60 v
 dv:Dv 60 0 c d
 gen:o.gen=g
 few:o.pages.length≤24
 rd:∀s∈o.pages,Rd T R 60 v d s
 own:∀e∈v.taken,e.1∈o.pages.map (·.page)
 bad:o.bad=false
theorem Uq.len{T:List UInt32}{R:List BI}{g:UInt32}{c:UInt64}{o:Bj}{v:Aw}{d:Af}(S:Uq T R g c o v d):v.taken.length≤o.pages.length:=by
 have:=Nk S.tk.nd (l':=o.pages.map (·.page)) fun x hx=>by
  obtain⟨e,he,rfl⟩:=List.mem_map.1 hx
  exact S.own e he
 simpa using this
theorem Zw{T:List UInt32}{th:List (MR×BQ)}(hth:∀k,Cd th k=none):∀(seg:List A4) (q q':T5),Ul (OS T th) q seg q'→(∀p∈q.tk,p∈q'.tk)∧∀s∈seg,s.page∈q'.tk
 | [],q,q',h=>by rw[←show q=q' from h];exact⟨fun _ h=>h,fun _ h=>(by cases h)⟩
 | s::seg,q,q',h=>by
  obtain⟨q1,h1,h2⟩:=h
  obtain⟨a1,a2⟩:=Zw hth seg q1 q' h2
  have D1:(∀p∈q.tk,p∈q1.tk)∧s.page∈q1.tk:=by
   unfold OS at h1
   obtain⟨k,hk,h1⟩:=EE h1
   rw[hth k,show(none:Option BQ).isSome=false from rfl,B0]at h1
   obtain⟨y,hy,h1⟩:=EE h1
   cases he:decide (y.2.1=0)with
   | true=>
    rw[he,Cs]at h1
    obtain⟨l,hl,h1⟩:=EE h1
    have h5:=zI h1
    rw[←show(⟨l,y.2.2.1,y.2.2.2⟩:T5)=q1 from congrArg Prod.snd h5]
    have h6:y.1=⟨s.page,s.tag⟩:=congrArg (fun x=>x.1.1) h5
    unfold DR at hl
    split at hl
    obtain rfl:=zI hl
    exact⟨fun p hp=>List.mem_append_left _ hp,List.mem_append_right _ (by rw[h6];exact List.mem_singleton.2 rfl)⟩
    cases hl
   | false=>
    rw[he,B0]at h1
    have h5:=zI h1
    have h6:y.2.1=0:=congrArg (fun x=>x.1.2) h5
    rw[h6]at he
    cases he
  exact⟨fun p hp=>a1 p (D1.1 p hp),fun x hx=>by
   rcases List.mem_cons.1 hx with rfl | hx
   exact a1 _ D1.2
   exact a2 x hx⟩
theorem Wa{T:List UInt32}{R:List BI}{g:UInt32}{k:BI}{c:UInt64}{o:Bj}{v:Aw}{d:Af}{l:List Ak}{wth:List A4}(S:Uq T R g c o v d)(hc:c.toNat<1000000)(h0:0<g)(hk:DW R g=(k,0))(hl:So l.length≤12)(hl2:l.length≤1000)
(hr:Di l=true)(hw:∀s∈wth,Rd T R 60 v d s)(hwl:wth.length≤1000):
  ∃o' v' d',D9 2200000 T o v d l wth=some (0,o',v',d')∧o'.rows=l∧o'.ring=o.ring∧Uq T R g (c+1) o' v' d'∧o'.gens=PR o (Vh o.pages []) o'.pages []∧(wth=[]→∀s∈o'.pages,s.page∉o.pages.map (·.page))∧v'.boot=v.boot∧o'.pages.length≤So l.length:=by
 have htl:=S.len
 have hfew:=S.few
 obtain⟨t,th,hb,hT,hth,h⟩:=kO (T:=T) (n:=2200000) (N:=60) (l:=l) (had:=wth) zO zO S.vs S.tk hk hr hw zO zO
 have hpg:=eG hT
 rcases h with⟨r,out,q,hsv,hR,hrf,SI,hrd,hlen,hp,-⟩ | ⟨v',d',c',hsv,hlt,-,-⟩
 obtain⟨a,s,hs⟩:=hR.lastE
 obtain⟨D1,ltk⟩:=eH out 0 _ _ hp S.dv
 have hal:a.length≤1000:=by
  have:=congrArg List.length hs
  rw[List.length_append,List.length_singleton]at this
  omega
 obtain⟨d2,hpub,D2,K2,e2⟩:=cC (T:=T) (o:=o) (l:=l) (ps:=a) (s:=⟨s,r.page,r.tag⟩) SI.vs D1 zO hc S.gen h0 hk hl2 hal hrf
 rw[←hs]at hpub
 have hmv:=gC (o:=o) (d:=d2) (l:=l) (ps:=out) (n:=2200000) (v:={ q.v with seals:=q.v.seals+1 }) D2.bl (fun x hx=>⟨(S.rd x hx).1,(S.rd x hx).2.1⟩) zO zO zO (fun x hx=>(SI.ok.tr x hx).1)
 generalize hG:PR o (Vh o.pages []) out []=G at hmv
 have hGs:∀p,(Cd G p).isSome=true↔p∈out.map (·.page):=fun p=>by
  rw[←hG,Wf]
  simp[Cd]
 obtain⟨hsub,hgm⟩:=UM G o.pages q.v.taken
 have hnd:((ML G o.pages q.v.taken).map (·.1)).Nodup:=SI.ok.nd.sublist (hsub.map _)
 have hown:∀e∈ML G o.pages q.v.taken,e.1∈out.map (·.page):=fun e he=>by
  have h1:=hsub.subset he
  have h2:=(hgm e h1).1 he
  rw[SI.tak]at h1
  rcases List.mem_append.1 h1 with h3 | h3
  obtain⟨p,hp',rfl⟩:=List.mem_map.1 (List.mem_reverse.1 h3)
  rcases eI out _ _ hp p hp' with h4 | h4
  cases h4
  exact h4
  obtain⟨x,hx,hxe⟩:=List.mem_map.1 (S.own e h3)
  have h5:=h2 x hx hxe
  rw[hxe]at h5
  exact(hGs _).1 h5
 have hlen3:(ML G o.pages q.v.taken).length≤out.length:=by
  have:=Nk hnd (l':=out.map (·.page)) fun x hx=>by
   obtain⟨e,he,rfl⟩:=List.mem_map.1 hx
   exact hown e he
  simpa using this
 have hp2:d2.pend.length≤0:=D2.pl
 refine⟨{ o with rows:=l,pages:=out,gens:=G },{ q.v with seals:=q.v.seals+1,taken:=ML G o.pages q.v.taken },d2,?_,rfl,rfl,⟨⟨K2.le' zO (by show(ML G o.pages q.v.taken).length≤100;omega),SI.vs.ring,SI.vs.rlen,SI.vs.gen,SI.vs.boot,Nat.le_refl _⟩,⟨hnd,fun e he=>SI.ok.tr e (hsub.subset he)⟩,D2,S.gen,by show out.length≤24;omega,fun x hx=>?_,hown,S.bad⟩,hG.symm,fun hz x hx hxo=>?_,SI.vs.boot.trans S.vs.boot.symm,by show out.length≤_;omega⟩
 unfold D9
 rw[hsv,AA,Be]
 show cond (decide ((0:Int)=110)) _ _=_
 rw[show decide ((0:Int)=110)=false from rfl,B0,Be]
 show cond (decide ((0:Int)=0)) _ _=_
 rw[show decide ((0:Int)=0)=true from rfl,Cs,hpub,AA]
 unfold Ez
 show cond (!decide ((0:Int)=0)) _ _=_
 rw[show(!decide ((0:Int)=0))=false from rfl,B0,hmv,AA]
 obtain⟨h1,h2,h3,g',qn,b,hh,hb⟩:=hrd x hx
 refine⟨h1,h2,?_,g',qn,b,⟨hh.key,hh.txt,by rw[e2 _ h1 h2];exact hh.is⟩,hb⟩
 rw[SI.ok.iff]at h3
 obtain⟨e,he,hex⟩:=List.mem_map.1 h3
 have h4:e∈ML G o.pages q.v.taken:=(hgm e he).2 fun y _ hye=>by
  rw[hye,hGs,hex]
  exact List.mem_map_of_mem hx
 have h5:SA 60 ({ q.v with seals:=q.v.seals+1,taken:=ML G o.pages q.v.taken }:Aw):=⟨hnd,fun e he=>SI.ok.tr e (hsub.subset he)⟩
 rw[h5.iff]
 exact List.mem_map.2 ⟨e,h4,hex⟩
 subst hz
 have h1:=(Zw (T:=T) (th:=th) (fun k=>by rw[hth];rfl) out _ _ hp).2 x hx
 obtain⟨y,hy,hye⟩:=List.mem_map.1 hxo
 have h2:=(S.rd y hy).2.2.1
 rw[hye]at h2
 exact(SI.notin S.tk h2).1 h1
 exfalso
 omega
end
end Go.Proofs.YtpaohlmgfifebaaGreatDoor
