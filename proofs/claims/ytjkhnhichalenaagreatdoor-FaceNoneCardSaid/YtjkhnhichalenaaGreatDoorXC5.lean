/- The texts GG36, FD1, FD2, FD3, FP3, FP4, FJ0, FW0, FP5, FP2, FB0, FB1, FP6, FL1, FL2, one behind the other: walks of the program, and plain laws of what it computes. Conditions: as each theorem says. -/
import Derived.Test.YtjkhnhichalenaaGreatDoorXC1
import Derived.Test.YtjkhnhichalenaaGreatDoorXC2
import Derived.Test.YtjkhnhichalenaaGreatDoorXC3
import Derived.Test.YtjkhnhichalenaaGreatDoorXC4

set_option linter.unusedVariables false
set_option linter.unusedSimpArgs false
set_option maxHeartbeats 4000000
set_option maxRecDepth 100000
namespace Go.Proofs.YtjkhnhichalenaaGreatDoor
open Go
section
variable {K:Nat→Prop}{w0:World}{H:List AZ}
def Iz(p0:A8)(p1:UInt32):Option Bool:=
 ret (decide (p1.toUInt64<Cq (p0.blk.length:Int))) fun x1=>
 some x1
theorem UD{Ap:Nat}{Am Ad A3:Value}{p0:A8}{p1:UInt32}{r:Bool}(h:Iz p0 p1=some r): zC K w0 222 [vP Ap 0,Z p1] [AK Ap (.cells #[Am,Ad,A3,AV p0.rcnt,vS p0.rtag,Z p0.rboots,vI p0.left,vB p0.off] 107),AC 9 1 Am eS p0.blk,AC 9 1 Ad eS p0.pnd,AC 4 1 A3 eB p0.bads] H (fun u M=>u=vB r∧M=[AK Ap (.cells #[Am,Ad,A3,AV p0.rcnt,vS p0.rtag,Z p0.rboots,vI p0.left,vB p0.off] 107),AC 9 1 Am eS p0.blk,AC 9 1 Ad eS p0.pnd,AC 4 1 A3 eB p0.bads]):=by
 unfold Iz at h
 refine T6.enter Tryz.func222 rfl rfl ?_
 refine Y (U E (V (Y ?_)))
 obtain⟨x1,ex1,h⟩:=By h
 refine J E (BM E E (Co CP DL) (J E (AU E E (AF E QW (AG 0 Pw E (Di 1 E Eb E E (BM E E (Et JQ DL) ?_)))))))
 refine AA E ZC ?_
 refine Aq (u:=vB x1) E E (congrArg vB ex1) ?_
 refine V (AL ?_)
 obtain rfl:=zI h
 exact AW [0,1,2,3] 4 E E E
def HA(o2:A8):Option (Int×A8):=
 some (0,o2)
def FT(o1:A8):Option (Int×A8):=
 cond o1.off
 (
  some (71,o1))
 (
  cond (decide (0<o1.left))
  (
   HA ({ o1 with left:=wI (o1.left-1) }))
  (
   HA o1))
def De(p0:A8):Option (Int×A8):=
 cond (decide (p0.left=0))
 (
  FT ({ p0 with off:=true }))
 (
  FT p0)
theorem Im{Ap:Nat}{Am Ad A3:Value}{p0:A8}{r:Int×A8}(h:De p0=some r): zC K w0 70 [vP Ap 0] [AK Ap (.cells #[Am,Ad,A3,AV p0.rcnt,vS p0.rtag,Z p0.rboots,vI p0.left,vB p0.off] 107),AC 9 1 Am eS p0.blk,AC 9 1 Ad eS p0.pnd,AC 4 1 A3 eB p0.bads] H (fun u M=>u=vI r.1∧M=[AK Ap (.cells #[Am,Ad,A3,AV r.2.rcnt,vS r.2.rtag,Z r.2.rboots,vI r.2.left,vB r.2.off] 107),AC 9 1 Am eS r.2.blk,AC 9 1 Ad eS r.2.pnd,AC 4 1 A3 eB r.2.bads]):=by
 unfold De at h
 refine T6.enter Tryz.func70 rfl rfl ?_
 refine Y (U E (V ?_))
 refine BB (α:=A8) (fun x=>FT x=some r) (fun x=>[(0,vP Ap 0)]) (fun x=>AK Ap (.cells #[Am,Ad,A3,AV x.rcnt,vS x.rtag,Z x.rboots,vI x.left,vB x.off] 107)::AC 9 1 Am eS x.blk::AC 9 1 Ad eS x.pnd::AC 4 1 A3 eB x.bads::H) ?_ (fun o1 D h=>?_)
 refine Y (J E (AU E E (AF E VF (AG 0 FI E (AA E BS (V ?_))))))
 refine AP h E (fun hc1 h=>?_) fun hc1 h=>?_
 refine AS (J E (AU E E (AF E dR (A7 0 E E E E RQ E E E zT (Aa ?_)))))
 exact Az ({ p0 with off:=true }) h tL (BX [0,1,2,3] 4 rfl rfl rfl)
 refine AJ ?_
 exact Az p0 h tL (BX [0,1,2,3] 4 E E E)
 unfold FT at h
 try dsimp only
 refine AH (Y (J E (AU E E (AF E dR (AG 0 WD E (V ?_))))))
 refine AP h E (fun hc2 h=>?_) fun hc2 h=>?_
 refine Y (U E (V (AL (Ac ?_))))
 obtain rfl:=zI h
 exact AW [0,1,2,3] 4 E E E
 refine AJ (AI ?_)
 refine BB (α:=A8) (fun x=>HA x=some r) (fun x=>[(0,vP Ap 0)]) (fun x=>AK Ap (.cells #[Am,Ad,A3,AV x.rcnt,vS x.rtag,Z x.rboots,vI x.left,vB x.off] 107)::AC 9 1 Am eS x.blk::AC 9 1 Ad eS x.pnd::AC 4 1 A3 eB x.bads::H) ?_ (fun o2 D h=>?_)
 refine Y (J E (AU E E (AF E VF (AG 0 FI E (AA E Cm (V ?_))))))
 refine AP h E (fun hc3 h=>?_) fun hc3 h=>?_
 refine AS (J E (AU E E (AF E VF (AG 0 FI E (AA E Dn (AU E E (AF E VF (A7 0 E E E E PU E E E zT (Aa ?_)))))))))
 exact Az ({ o1 with left:=wI (o1.left-1) }) h tL (BX [0,1,2,3] 4 rfl rfl rfl)
 refine AJ ?_
 exact Az o1 h tL (BX [0,1,2,3] 4 E E E)
 unfold HA at h
 try dsimp only
 refine Y (U E (V (AL ?_)))
 obtain rfl:=zI h
 exact AW [0,1,2,3] 4 E E E
def Ff(y2:Int×A8)(o1:A8):Option (Int×A8):=
 some (y2.1,o1)
def Ed(p0:A8)(p1:UInt32)(p2:List UInt8):Option (Int×A8):=
 (Iz p0 p1).bind fun y1=>
 cond ((!y1)||(!decide ((p2.length:Int)=256)))
 (
  some (2,p0))
 (
  (De p0).bind fun y2=>
  cond (decide (y2.1=0))
  (
   (BN y2.2.pnd (p1.toNat:Int)).bind fun x1=>
   (OA y2.2.pnd (p1.toNat:Int) p2).bind fun l1=>
   Ff y2 ({ y2.2 with pnd:=l1 }))
  (
   Ff y2 y2.2))
theorem Ro{Ap:Nat}{Am Ad A3:Value}{p0:A8}{p1:UInt32}{p2:List UInt8}{r:Int×A8}(h:Ed p0 p1 p2=some r): zC K w0 180 [vP Ap 0,Z p1,vS p2] [AK Ap (.cells #[Am,Ad,A3,AV p0.rcnt,vS p0.rtag,Z p0.rboots,vI p0.left,vB p0.off] 107),AC 9 1 Am eS p0.blk,AC 9 1 Ad eS p0.pnd,AC 4 1 A3 eB p0.bads] H (fun u M=>u=vI r.1∧M=[AK Ap (.cells #[Am,Ad,A3,AV r.2.rcnt,vS r.2.rtag,Z r.2.rboots,vI r.2.left,vB r.2.off] 107),AC 9 1 Am eS r.2.blk,AC 9 1 Ad eS r.2.pnd,AC 4 1 A3 eB r.2.bads]):=by
 unfold Ed at h
 refine T6.enter Tryz.func180 rfl rfl ?_
 refine Y (U E (V (AH (Y ?_))))
 refine AE h fun y1 hy1 h=>?_
 refine J E (J E (AM 4 ou (UD hy1) E (CW E E (J E ?_))))
 refine E2 (c := !decide ((p2.length:Int)=256)) 12 4 16 E (fun hb k=>?_) (fun hb k=>?_) ?_
 refine AB E (AB E (AB E (Ag E E E ?_)))
 exact k.mono tL
 refine J E (Bz E Ce E (AA E BG (Ag E E E ?_)))
 exact k.mono tL
 refine V ?_
 refine AP h E (fun hc1 h=>?_) fun hc1 h=>?_
 refine Y (U E (V (AL (Ac ?_))))
 obtain rfl:=zI h
 exact AW [0,1,2,3] 4 E E E
 refine AJ (AI (Y ?_))
 refine AE h fun y2 hy2 h=>?_
 refine J E (AM 4 al (Im hy2) E (U E (V ?_)))
 refine BB (α:=A8) (fun x=>Ff y2 x=some r) (fun x=>[(0,vP Ap 0),(7,vI y2.1)]) (fun x=>AK Ap (.cells #[Am,Ad,A3,AV x.rcnt,vS x.rtag,Z x.rboots,vI x.left,vB x.off] 107)::AC 9 1 Am eS x.blk::AC 9 1 Ad eS x.pnd::AC 4 1 A3 eB x.bads::H) ?_ (fun o1 D h=>?_)
 refine Y (J E (AA E BS (V ?_)))
 refine AP h E (fun hc2 h=>?_) fun hc2 h=>?_
 refine AS ?_
 refine AE h fun x1 hx1 h=>?_
 refine AE h fun l1 hl1 h=>?_
 refine J E (AU E E (AF E QX (AG 0 Pw E (J E (J E ?_)))))
 refine CL 2 hx1 E Eb HC E E E fun g1 m1 cp1 hv1=>?_
 refine GC (sz:=1) (enc:=eS) 2 hl1 zV rfl rfl rfl rfl rfl hv1 HC (by first | (simp[Value.oneCell'];done) | simp[eS,Value.oneCell']) trivial ?_
 refine Aa ?_
 exact Az ({ y2.2 with pnd:=l1 }) h tL (BX [0,1,2,3] 4 rfl rfl rfl)
 refine AJ ?_
 exact Az y2.2 h tL (BX [0,1,2,3] 4 E E E)
 unfold Ff at h
 try dsimp only
 refine Y (J E (U E (V (AL ?_))))
 obtain rfl:=zI h
 exact AW [0,1,2,3] 4 E E E
def Ex(n:Nat)(T:List UInt32)(p0:Bh)(p0_1:A8)(p1:UInt32)(p2:List UInt8):Option (List UInt8×Int×Bh×A8):=
 (Lc n T p0.ring (⟨p1,p0.gen,p0.boot,p0.num⟩:C5) p2).bind fun y1=>
 cond (!decide (y1.2=0))
 (
  some ([],y1.2,p0,p0_1))
 (
  (Ed p0_1 p1 y1.1).bind fun y2=>
  cond (!decide (y2.1=0))
  (
   some ([],y2.1,{ p0 with num:=p0.num+1 },y2.2))
  (
   (LF y1.1 224 (y1.1.length:Int)).bind fun s1=>
   some (s1,0,{ p0 with num:=p0.num+1 },y2.2)))
theorem N4{n Ap BO:Nat}{T:List UInt32}{Ad Be Dk Bg Dl:Value}{p0:Bh}{p0_1:A8}{p1:UInt32}{p2:List UInt8}{r:List UInt8×Int×Bh×A8}(h:Ex n T p0 p0_1 p1 p2=some r)(hT:I9 K w0 2 64 T):zC K w0 141 [vP Ap 0,Z p1,vS p2] [AK Ap (.cells #[vP BO 0,Ad,Z p0.gen,Z p0.boot,AV p0.num,Be] 153),AC 114 2 Ad AY p0.ring,AC 4 1 Be eB p0.taken,AK BO (.cells #[Dk,Bg,Dl,AV p0_1.rcnt,vS p0_1.rtag,Z p0_1.rboots,vI p0_1.left,vB p0_1.off] 107),AC 9 1 Dk eS p0_1.blk,AC 9 1 Bg eS p0_1.pnd,AC 4 1 Dl eB p0_1.bads] H (fun u M=>u=.tuple #[vS r.1,vI r.2.1]∧M=[AK Ap (.cells #[vP BO 0,Ad,Z r.2.2.1.gen,Z r.2.2.1.boot,AV r.2.2.1.num,Be] 153),AC 114 2 Ad AY r.2.2.1.ring,AC 4 1 Be eB r.2.2.1.taken,AK BO (.cells #[Dk,Bg,Dl,AV r.2.2.2.rcnt,vS r.2.2.2.rtag,Z r.2.2.2.rboots,vI r.2.2.2.left,vB r.2.2.2.off] 107),AC 9 1 Dk eS r.2.2.2.blk,AC 9 1 Bg eS r.2.2.2.pnd,AC 4 1 Dl eB r.2.2.2.bads]):=by
 unfold Ex at h
 refine T6.enter Tryz.func141 rfl rfl ?_
 refine Y (U E (U E (V (AH ?_))))
 refine AE h fun y1 hy1 h=>?_
 refine A2 DE [0] (CK [(true,0),(true,1),(true,2),(true,3),(true,4),(true,5),(true,6),(true,7),(true,8),(true,9),(true,10),(true,11),(true,12),(true,13),(true,14),(true,15),(true,16),(true,17),(true,18),(false,19),(false,20),(true,21),(true,22),(false,23)] (.last 24 .nil)) zK (J E (AU E E (AF E lU (AG 0 mT E (J E (J E (AU E E ?_)))))))
 refine AF E X9 (AG 0 A6 E (J E (AU E E (AF E lV (AG 0 A6 E (J E (AU E E ?_)))))))
 refine AF E YA (AG 0 FX E (Bt [_,_,_,_] E mH mF gO ⟨E,E,E,E,zT⟩ E (J E (SL.pick [1,0] 2 ?_))))
 refine Bo (vs:=[_,_,_]) (Hin:=[_]) (Hr:=_::_::_::_::_::_::_) E E ⟨E,E,E,zT⟩ oQ E E (Cl (B:=[_]) (Hin:=[]) fun K' w1 hk hB=>(Y0 hy1 (hT.keeps hk) (CY (e:=114) (v:=Ad) zV (hB _ zS)) :)) ?_
 rintro _ _ ⟨_,rfl,rfl,rfl⟩
 refine⟨⟨⟨1,rfl⟩,trivial⟩,?_⟩
 refine J E (Af E E E (Af E E E (U E (Bk (U E (V (AH (Y (J E (AA E BG (V ?_)))))))))))
 refine AP h E (fun hc1 h=>?_) fun hc1 h=>?_
 refine Y (J E (U E (U E (V (AL (Ac ?_))))))
 obtain rfl:=zI h
 exact AW [1,0,2,3,4,5,6] 7 E E E
 refine AJ (AI (Y (J E (AU E E (AF E YA (AG 1 FX E ?_))))))
 refine AA E (Hp (b:=1)) ?_
 refine AU E E (AF E YA (A7 1 E E E E ik E E E zT (V (Y ?_))))
 refine AE h fun y2 hy2 h=>?_
 refine J E (AU E E (AF E PF (AG 1 Ye E (J E (J E (SL.pick [3,4,5,6,0,1,2] 7 (AM 4 oR (Ro hy2) E ?_)))))))
 refine U E (V (AH (Y (J E (AA E BG (V ?_))))))
 refine AP h E (fun hc2 h=>?_) fun hc2 h=>?_
 refine Y (J E (U E (U E (V (AL (Ac ?_))))))
 obtain rfl:=zI h
 exact AW [5,4,6,0,1,2,3] 7 E E E
 refine AJ (AI (Y ?_))
 refine AE h fun s1 hs1 h=>?_
 refine J E (kQ hs1 E Ce E E (U E (U E (V (AL ?_)))))
 obtain rfl:=zI h
 exact AW [5,4,6,0,1,2,3] 7 E E E
def IN(o1:Bh)(o2:A8)(y1:UInt32)(y2:List UInt8):Option (Bb×Int×Bh×A8):=
 some ((⟨0,[]⟩:Bb),110,o1,o2)
def EQ(n:Nat)(T:List UInt32)(p1:List UInt8)(nx_f_ref13_Vault_Write_l1:Bh×A8×UInt32×List UInt8×Int→Option (Bb×Int×Bh×A8))(o3:Bh)(o4:A8)(y3:UInt32)(y4:List UInt8)(a1:Int):Option (Bb×Int×Bh×A8):=
 cond (decide (a1<(o3.taken.length:Int)))
 (
  (BN o3.taken a1).bind fun x1=>
  cond x1
  (
   ret (wI (a1+1)) fun p_1=>
   nx_f_ref13_Vault_Write_l1 (o3,o4,y3,y4,p_1))
  (
   (Ex n T o3 o4 (FN a1) p1).bind fun y5=>
   cond (!decide (y5.2.1=0))
   (
    some ((⟨0,[]⟩:Bb),y5.2.1,y5.2.2.1,y5.2.2.2))
   (
    (BN y5.2.2.1.taken a1).bind fun x2=>
    (OA y5.2.2.1.taken a1 true).bind fun l1=>
    some ((⟨FN a1,y5.1⟩:Bb),0,{ y5.2.2.1 with taken:=l1 },y5.2.2.2))))
 (
  IN o3 o4 y3 y4)
def F0(n:Nat)(T:List UInt32)(p1:List UInt8):Nat→(Bh×A8×UInt32×List UInt8×Int)→Option (Bb×Int×Bh×A8):=CO fun nx x=>EQ n T p1 nx x.1 x.2.1 x.2.2.1 x.2.2.2.1 x.2.2.2.2
def Fq(n:Nat)(T:List UInt32)(p0:Bh)(p0_1:A8)(p1:List UInt8):Option (Bb×Int×Bh×A8):=
 cond (decide (198<(p1.length:Int)))
 (
  some ((⟨0,[]⟩:Bb),50,p0,p0_1))
 (
  F0 n T p1 n (p0,p0_1,0,[],2))
theorem SM{n Ap BO:Nat}{T:List UInt32}{Ad Be Dk Bg Dl:Value}{p0:Bh}{p0_1:A8}{p1:List UInt8}{r:Bb×Int×Bh×A8}(h:Fq n T p0 p0_1 p1=some r)(hT:I9 K w0 2 64 T):zC K w0 177 [vP Ap 0,vS p1] [AK Ap (.cells #[vP BO 0,Ad,Z p0.gen,Z p0.boot,AV p0.num,Be] 153),AC 114 2 Ad AY p0.ring,AC 4 1 Be eB p0.taken,AK BO (.cells #[Dk,Bg,Dl,AV p0_1.rcnt,vS p0_1.rtag,Z p0_1.rboots,vI p0_1.left,vB p0_1.off] 107),AC 9 1 Dk eS p0_1.blk,AC 9 1 Bg eS p0_1.pnd,AC 4 1 Dl eB p0_1.bads] H (fun u M=>u=.tuple #[.agg (B3 r.1).toArray,vI r.2.1]∧M=[AK Ap (.cells #[vP BO 0,Ad,Z r.2.2.1.gen,Z r.2.2.1.boot,AV r.2.2.1.num,Be] 153),AC 114 2 Ad AY r.2.2.1.ring,AC 4 1 Be eB r.2.2.1.taken,AK BO (.cells #[Dk,Bg,Dl,AV r.2.2.2.rcnt,vS r.2.2.2.rtag,Z r.2.2.2.rboots,vI r.2.2.2.left,vB r.2.2.2.off] 107),AC 9 1 Dk eS r.2.2.2.blk,AC 9 1 Bg eS r.2.2.2.pnd,AC 4 1 Dl eB r.2.2.2.bads]):=by
 unfold Fq at h
 refine T6.enter Tryz.func177 rfl rfl ?_
 refine Y ?_
 refine Ar E FC zU fun b1=>?_
 refine U E (V (AH (Y (J E (Bz E Ce E (AA E Cm (V ?_)))))))
 refine AP h E (fun hc1 h=>?_) fun hc1 h=>?_
 refine Y (Bt [] E OP OO FC zT E (A7 0 E E E E EZ E E E zT (U E (V (AL (Ac ?_))))))
 obtain rfl:=zI h
 exact Al (Dz E (CC 0 (B3 (⟨0,[]⟩:Bb)) C6 E E E E) E) (Ak (M:=[_,_,_,_,_,_,_]) ⟨E,E⟩ fun _ hw=>Bc.pick (H:=[_,_,_,_,_,_,_,_]) hw [1,2,3,4,5,6,7] 8 E)
 refine AJ (AI ?_)
 refine BB (α:=Bh×A8×UInt32×List UInt8) (fun x=>IN x.1 x.2.1 x.2.2.1 x.2.2.2=some r) (fun x=>[(0,vP Ap 0),(4,vP b1 0)]) (fun x=>AK Ap (.cells #[vP BO 0,Ad,Z x.1.gen,Z x.1.boot,AV x.1.num,Be] 153)::AK BO (.cells #[Dk,Bg,Dl,AV x.2.1.rcnt,vS x.2.1.rtag,Z x.2.1.rboots,vI x.2.1.left,vB x.2.1.off] 107)::AC 9 1 Dk eS x.2.1.blk::AC 9 1 Bg eS x.2.1.pnd::AC 4 1 Dl eB x.2.1.bads::AC 114 2 Ad AY x.1.ring::AC 4 1 Be eB x.1.taken::AK b1 (.cells #[Z x.2.2.1,vS x.2.2.2] 188)::H) ?_ (fun x D h=>?_)
 refine Y (U E (V (AQ ?_)))
 refine SX.heap (SX.mono (BU (α:=Nat×Bh×A8×UInt32×List UInt8×Int) (fun x=>F0 n T p1 x.1 (x.2.1,x.2.2.1,x.2.2.2.1,x.2.2.2.2.1,x.2.2.2.2.2)=some r) (fun x=>[(0,vP Ap 0),(1,vS p1),(4,vP b1 0),(6,vI x.2.2.2.2.2)]) (fun x=>AK Ap (.cells #[vP BO 0,Ad,Z x.2.1.gen,Z x.2.1.boot,AV x.2.1.num,Be] 153)::AK BO (.cells #[Dk,Bg,Dl,AV x.2.2.1.rcnt,vS x.2.2.1.rtag,Z x.2.2.1.rboots,vI x.2.2.1.left,vB x.2.2.1.off] 107)::AC 9 1 Dk eS x.2.2.1.blk::AC 9 1 Bg eS x.2.2.1.pnd::AC 4 1 Dl eB x.2.2.1.bads::AC 114 2 Ad AY x.2.1.ring::AC 4 1 Be eB x.2.1.taken::AK b1 (.cells #[Z x.2.2.2.1,vS x.2.2.2.2.1] 188)::H) (fun x=>x.1) (fun x D h=>?_) (n,p0,p0_1,0,[],2) h) tL) (BX [1,4,5,6,7,2,3,0] 8 E E E)
 obtain⟨m1,o3,o4,y3,y4,a1⟩:=x
 dsimp only at h
 rcases m1 with _ | m1
 cases (show(none:Option _)=some r from h)
 replace h:EQ n T p1 (F0 n T p1 m1) o3 o4 y3 y4 a1=some r:=h
 unfold EQ at h
 try dsimp only
 refine AH (Y (J E (J E (AU E E (AF E Sd (AG 0 WC E (Di 6 E Sz E E (AA E BD (V ?_)))))))))
 refine AP h E (fun hc2 h=>?_) fun hc2 h=>?_
 refine AJ (AI (AH (AQ (AH (Y ?_)))))
 refine AE h fun x1 hx1 h=>?_
 refine J E (AU E E (AF E Sd (AG 0 WC E (J E ?_))))
 refine CL 6 hx1 E Sz RQ E E E fun g1 m2 cp1 hv1=>?_
 refine B0 E WD E (CD (sz:=1) (enc:=eB) 6 0 zV E hv1 hx1 E) ?_
 refine V ?_
 refine AP h E (fun hc3 h=>?_) fun hc3 h=>?_
 refine A4 (A9 (BA (AI (AS ?_))))
 obtain⟨p_1,ep_1,h⟩:=By h
 refine J E (AA E Bu ?_)
 refine Aq (u:=vI p_1) E E (congrArg vI ep_1) ?_
 refine Aa ?_
 exact A1 (m1,o3,o4,y3,y4,p_1) h (Nat.lt_succ_self _) tL (BX [0,1,2,3,4,5,6,7] 8 E E E)
 refine AJ (AI (Y ?_))
 refine AE h fun y5 hy5 h=>?_
 refine J E (J E (BM E E (QJ JQ CP) (J E (SL.pick [0,5,6,1,2,3,4] 7 (AM 7 gq (N4 hy5 hT) E (J E (Af E E E ?_)))))))
 refine Af E E E (U E (U E (V (AH (Y (J E (AA E BG (V ?_))))))))
 refine AP h E (fun hc4 h=>?_) fun hc4 h=>?_
 refine Y (Bt [] E OP OO FC zT E (J E (A7 7 E E E E EZ E E E zT (U E (V (AL (Ac (BC (Ac (Ea (BC (HK ?_))))))))))))
 obtain rfl:=zI h
 exact Al (Dz E (CC 7 (B3 (⟨0,[]⟩:Bb)) C6 E E E E) E) (Ak (M:=[_,_,_,_,_,_,_]) ⟨E,E⟩ fun _ hw=>Bc.pick (H:=[_,_,_,_,_,_,_,_]) hw [0,1,2,3,4,5,6] 8 E)
 refine AJ (AI (Y ?_))
 refine AE h fun x2 hx2 h=>?_
 refine AE h fun l1 hl1 h=>?_
 refine J E (AU E E (AF E Sd (AG 0 WC E (J E ?_))))
 refine CL 2 hx2 E Sz RQ E E E fun g2 m3 cp2 hv2=>?_
 refine GC (sz:=1) (enc:=eB) 2 hl1 zV rfl rfl rfl rfl rfl hv2 RQ (by first | (simp[Value.oneCell'];done) | simp[eB,Value.oneCell']) trivial ?_
 refine V (Y (J E (BM E E (QJ JQ CP) (J E (Bt [_,_] E OP OO FC ⟨E,E,zT⟩ E (A7 7 E E E E EZ E E E zT (U E (V (AL (BC (Ac (Ea (BC (HK ?_))))))))))))))
 obtain rfl:=zI h
 exact Al (Dz E (CC 7 (B3 (⟨FN a1,y5.1⟩:Bb)) C6 E E E E) E) (Ak (M:=[_,_,_,_,_,_,_]) ⟨E,E⟩ fun _ hw=>Bc.pick (H:=[_,_,_,_,_,_,_,_]) hw [0,1,2,3,4,5,6] 8 E)
 refine A4 (A9 (Bi (BA ?_)))
 exact Az (o3,o4,y3,y4) h tL (BX [0,1,2,3,4,5,6,7] 8 E E E)
 obtain⟨o1,o2,y1,y2⟩:=x
 dsimp only at h
 unfold IN at h
 try dsimp only
 refine Y (Bt [] E OP OO FC zT E (A7 7 E E E E EZ E E E zT (U E (V (AL ?_)))))
 obtain rfl:=zI h
 exact Al (Dz E (CC 7 (B3 (⟨0,[]⟩:Bb)) C6 E E E E) E) (Ak (M:=[_,_,_,_,_,_,_]) ⟨E,E⟩ fun _ hw=>Bc.pick (H:=[_,_,_,_,_,_,_,_]) hw [0,5,6,1,2,3,4] 8 E)
end

section
variable {K:Nat→Prop}{w0:World}{H:List AZ}
def G8(a5:UInt64)(a6:Int):Option Int:=
 (BN ([0,1,2,2,3,3,3,3,4,4,4,4,4,4,4,4,5,5,5,5,5,5,5,5,5,5,5,5,5,5,5,5,6,6,6,6,6,6,6,6,6,6,6,6,6,6,6,6,6,6,6,6,6,6,6,6,6,6,6,6,6,6,6,6,7,7,7,7,7,7,7,7,7,7,7,7,7,7,7,7,7,7,7,7,7,7,7,7,7,7,7,7,7,7,7,7,7,7,7,7,7,7,7,7,7,7,7,7,7,7,7,7,7,7,7,7,7,7,7,7,7,7,7,7,7,7,7,7,8,8,8,8,8,8,8,8,8,8,8,8,8,8,8,8,8,8,8,8,8,8,8,8,8,8,8,8,8,8,8,8,8,8,8,8,8,8,8,8,8,8,8,8,8,8,8,8,8,8,8,8,8,8,8,8,8,8,8,8,8,8,8,8,8,8,8,8,8,8,8,8,8,8,8,8,8,8,8,8,8,8,8,8,8,8,8,8,8,8,8,8,8,8,8,8,8,8,8,8,8,8,8,8,8,8,8,8,8,8,8,8,8,8,8,8,8,8,8,8,8,8,8,8,8,8,8,8]:List UInt8) (a5.toUInt8.toNat:Int)).bind fun c1=>
 ret (wI (a6+(c1.toNat:Int))) fun x6=>
 some x6
def G7(a3:UInt64)(a4:Int):Option Int:=
 cond (decide (256≤a3))
 (
  ret (shr64 a3 8) fun x4=>
  ret (wI (a4+8)) fun x5=>
  G8 x4 x5)
 (
  G8 a3 a4)
def G6(a1:UInt64)(a2:Int):Option Int:=
 cond (decide (65536≤a1))
 (
  ret (shr64 a1 16) fun x2=>
  ret (wI (a2+16)) fun x3=>
  G7 x2 x3)
 (
  G7 a1 a2)
def MG(p0:UInt64):Option Int:=
 cond (decide (4294967296≤p0))
 (
  ret (shr64 p0 32) fun x1=>
  G6 x1 32)
 (
  G6 p0 0)
theorem UC{p0:UInt64}{r:Int}(h:MG p0=some r): zC K w0 254 [AV p0] [] H (fun u M=>u=vI r∧M=[]):=by
 unfold MG at h
 refine T6.enter Tryz.func254 rfl rfl ?_
 refine Y (U E (V ?_))
 refine BB (α:=UInt64×Int) (fun x=>G6 x.1 x.2=some r) (fun x=>[(0,AV x.1),(2,vI x.2)]) (fun x=>H) ?_ (fun x D h=>?_)
 refine Y (J E ?_)
 refine AA E (QH (b:=4294967296)) ?_
 refine V ?_
 refine AP h E (fun hc1 h=>?_) fun hc1 h=>?_
 refine Y ?_
 obtain⟨x1,ex1,h⟩:=By h
 refine J E ?_
 refine AA E (FQ.shr64 (n:=32)) ?_
 refine Aq (u:=AV x1) E E (congrArg AV ex1) ?_
 refine V (AS (U E (Aa ?_)))
 exact Az (x1,32) h tL (BX [] 0 E E E)
 refine AJ ?_
 exact Az (p0,0) h tL (BX [] 0 E E E)
 obtain⟨a1,a2⟩:=x
 dsimp only at h
 unfold G6 at h
 try dsimp only
 refine BB (α:=UInt64×Int) (fun x=>G7 x.1 x.2=some r) (fun x=>[(0,AV x.1),(2,vI x.2)]) (fun x=>H) ?_ (fun x D h=>?_)
 refine Y (J E ?_)
 refine AA E (QH (b:=65536)) ?_
 refine V ?_
 refine AP h E (fun hc2 h=>?_) fun hc2 h=>?_
 refine Y ?_
 obtain⟨x2,ex2,h⟩:=By h
 refine J E ?_
 refine AA E (FQ.shr64 (n:=16)) ?_
 refine Aq (u:=AV x2) E E (congrArg AV ex2) ?_
 refine V (AS ?_)
 obtain⟨x3,ex3,h⟩:=By h
 refine J E (AA E Bu ?_)
 refine Aq (u:=vI x3) E E (congrArg vI ex3) ?_
 refine Aa ?_
 exact Az (x2,x3) h tL (BX [] 0 E E E)
 refine AJ ?_
 exact Az (a1,a2) h tL (BX [] 0 E E E)
 obtain⟨a3,a4⟩:=x
 dsimp only at h
 unfold G7 at h
 try dsimp only
 refine BB (α:=UInt64×Int) (fun x=>G8 x.1 x.2=some r) (fun x=>[(0,AV x.1),(2,vI x.2)]) (fun x=>H) ?_ (fun x D h=>?_)
 refine Y (J E ?_)
 refine AA E (QH (b:=256)) ?_
 refine V ?_
 refine AP h E (fun hc3 h=>?_) fun hc3 h=>?_
 refine Y ?_
 obtain⟨x4,ex4,h⟩:=By h
 refine J E ?_
 refine AA E (FQ.shr64 (n:=8)) ?_
 refine Aq (u:=AV x4) E E (congrArg AV ex4) ?_
 refine V (AS ?_)
 obtain⟨x5,ex5,h⟩:=By h
 refine J E (AA E Bu ?_)
 refine Aq (u:=vI x5) E E (congrArg vI ex5) ?_
 refine Aa ?_
 exact Az (x4,x5) h tL (BX [] 0 E E E)
 refine AJ ?_
 exact Az (a3,a4) h tL (BX [] 0 E E E)
 obtain⟨a5,a6⟩:=x
 dsimp only at h
 unfold G8 at h
 try dsimp only
 refine Y ?_
 refine AE h fun c1 hc1 h=>?_
 obtain⟨x6,ex6,h⟩:=By h
 refine J E (J E (BM E E (FD DL DG) (Ki hc1 E Ce E E (BM E E (cR DG JQ) (AA E Bu ?_)))))
 refine Aq (u:=vI x6) E E (congrArg vI ex6) ?_
 refine V (AL ?_)
 obtain rfl:=zI h
 exact AW [] 0 E E E
def Nh(p0:UInt64):Option Int:=
 (MG p0).bind fun y1=>
 some y1
theorem Vq{p0:UInt64}{r:Int}(h:Nh p0=some r): zC K w0 212 [AV p0] [] H (fun u M=>u=vI r∧M=[]):=by
 unfold Nh at h
 refine T6.enter Tryz.func212 rfl rfl ?_
 refine Y (U E (V (AH (Cz E (AJ (AI (Y ?_)))))))
 refine AE h fun y1 hy1 h=>?_
 refine J E (AM 0 pC (UC hy1) E (U E (V (AL ?_))))
 obtain rfl:=zI h
 exact AW [] 0 E E E
def Dg(p2:Int)(nx_f_slices_insertionSortOrdered_uint32_l1:List UInt32×Int→Option (List UInt32))(l1:List UInt32)(a1:Int):Option (List UInt32):=
 cond (decide (a1<p2))
 (
  none)
 (
  some l1)
def Dr(p2:Int):Nat→(List UInt32×Int)→Option (List UInt32):=CO fun nx x=>Dg p2 nx x.1 x.2
def EL(n:Nat)(p0:List UInt32)(p1:Int)(p2:Int):Option (List UInt32):=
 ret (wI (p1+1)) fun i_1=>
 Dr p2 n (p0,i_1)
theorem Kq{n:Nat}{DJ:Value}{p0 r:List UInt32}{p1 p2:Int}(h:EL n p0 p1 p2=some r): zC K w0 245 [DJ,vI p1,vI p2] [AC 33 1 DJ BW p0] H (fun u M=>u=.tuple #[]∧M=[AC 33 1 DJ BW r]):=by
 unfold EL at h
 refine T6.enter Tryz.func245 rfl rfl ?_
 refine Y ?_
 obtain⟨i_1,ei_1,h⟩:=By h
 refine J E (AA E Bu ?_)
 refine Aq (u:=vI i_1) E E (congrArg vI ei_1) ?_
 refine V (AQ ?_)
 refine SX.heap (SX.mono (BU (α:=Nat×List UInt32×Int) (fun x=>Dr p2 x.1 (x.2.1,x.2.2)=some r) (fun x=>[(0,DJ),(1,vI p1),(2,vI p2),(6,vI x.2.2)]) (fun x=>AC 33 1 DJ BW x.2.1::H) (fun x=>x.1) (fun x D h=>?_) (n,p0,i_1) h) tL) (BX [0] 1 E E E)
 obtain⟨m1,l1,a1⟩:=x
 dsimp only at h
 rcases m1 with _ | m1
 cases (show(none:Option _)=some r from h)
 replace h:Dg p2 (Dr p2 m1) l1 a1=some r:=h
 unfold Dg at h
 try dsimp only
 refine AH (Y (J E (J E (AA E BD (V ?_)))))
 refine AP h E (fun hc1 h=>?_) fun hc1 h=>?_
 cases h
 refine A4 (A9 (Bi (BA ?_)))
 obtain rfl:=zI h
 exact C9 (Dh E) (Ak (M:=[_]) ⟨E,E⟩ fun _ hw=>Bc.pick (H:=[_]) hw [0] 1 E)
def EY(n:Nat)(nx_f_slices_pdqsortOrdered_uint32_l1:List UInt32×Int×Int×Int×Bool×Bool→Option (List UInt32))(l1:List UInt32)(a1:Int)(a2:Int)(a3:Int)(a4:Bool)(a5:Bool):Option (List UInt32):=
 ret (wI (a2-a1)) fun length_1=>
 cond (decide (length_1≤12))
 (
  (EL n l1 a1 a2).bind fun y1=>
  some y1)
 (
  cond (decide (a3=0))
  (
   none)
  (
   none))
def Eo(n:Nat):Nat→(List UInt32×Int×Int×Int×Bool×Bool)→Option (List UInt32):=CO fun nx x=>EY n nx x.1 x.2.1 x.2.2.1 x.2.2.2.1 x.2.2.2.2.1 x.2.2.2.2.2
def FM(n:Nat)(p0:List UInt32)(p1:Int)(p2:Int)(p3:Int):Option (List UInt32):=
 Eo n n (p0,p1,p2,p3,true,true)
theorem NK{n:Nat}{DJ:Value}{p0 r:List UInt32}{p1 p2 p3:Int}(h:FM n p0 p1 p2 p3=some r): zC K w0 211 [DJ,vI p1,vI p2,vI p3] [AC 33 1 DJ BW p0] H (fun u M=>u=.tuple #[]∧M=[AC 33 1 DJ BW r]):=by
 unfold FM at h
 refine T6.enter Tryz.func211 rfl rfl ?_
 refine Y (U E (V (Y (U E (V (AQ ?_))))))
 refine SX.heap (SX.mono (BU (α:=Nat×List UInt32×Int×Int×Int×Bool×Bool) (fun x=>Eo n x.1 (x.2.1,x.2.2.1,x.2.2.2.1,x.2.2.2.2.1,x.2.2.2.2.2.1,x.2.2.2.2.2.2)=some r) (fun x=>[(0,DJ),(1,vI x.2.2.1),(2,vI x.2.2.2.1),(3,vI x.2.2.2.2.1),(8,vB x.2.2.2.2.2.1),(9,vB x.2.2.2.2.2.2)]) (fun x=>AC 33 1 DJ BW x.2.1::H) (fun x=>x.1) (fun x D h=>?_) (n,p0,p1,p2,p3,true,true) h) tL) (BX [0] 1 E E E)
 obtain⟨m1,l1,a1,a2,a3,a4,a5⟩:=x
 dsimp only at h
 rcases m1 with _ | m1
 cases (show(none:Option _)=some r from h)
 replace h:EY n (Eo n m1) l1 a1 a2 a3 a4 a5=some r:=h
 unfold EY at h
 try dsimp only
 refine AQ (Y ?_)
 obtain⟨length_1,elength_1,h⟩:=By h
 refine J E (J E (AA E Dn ?_))
 refine Aq (u:=vI length_1) E E (congrArg vI elength_1) ?_
 refine V (AH (Y (J E (AA E I8 (V ?_)))))
 refine AP h E (fun hc1 h=>?_) fun hc1 h=>?_
 refine Y ?_
 refine AE h fun y1 hy1 h=>?_
 refine J E (J E (J E (AM 1 pB (Kq hy1) E (V (AL (Ac (BC (Ea (BC ?_)))))))))
 obtain rfl:=zI h
 exact AW [0] 1 E E E
 refine AJ (AI (AH (Y (J E (AA E BS (V ?_))))))
 refine AP h E (fun hc2 h=>?_) fun hc2 h=>?_
 cases h
 cases h
def GA(n:Nat)(p0:List UInt32):Option (List UInt32):=
 (Nh (Cq (p0.length:Int))).bind fun y1=>
 (FM n p0 0 (p0.length:Int) y1).bind fun y2=>
 some y2
theorem OF{n:Nat}{DJ:Value}{p0 r:List UInt32}(h:GA n p0=some r): zC K w0 168 [DJ] [AC 33 1 DJ BW p0] H (fun u M=>u=.tuple #[]∧M=[AC 33 1 DJ BW r]):=by
 unfold GA at h
 refine T6.enter Tryz.func168 rfl rfl ?_
 refine Y (J E (Di 0 E CR E E (U E (V (AS ?_)))))
 refine AE h fun y1 hy1 h=>?_
 refine AE h fun y2 hy2 h=>?_
 refine J E (J E (J E (BM E E (Et JQ PV) (AM 0 oh (Vq hy1) E (AM 1 og (NK hy2) E (Aa ?_))))))
 obtain rfl:=zI h
 exact C9 (Dh E) (Ak (M:=[_]) ⟨E,E⟩ fun _ hw=>Bc.pick (H:=[_]) hw [0] 1 E)
end

section
variable {K:Nat→Prop}{w0:World}{H:List AZ}
def fK(p:Int×UInt32):List Value:=[vI p.1,Z p.2]
def Q3(ss:List UInt32):List (Int×UInt32):=ss.zipIdx.map fun q=>((q.2:Int),q.1)
theorem Y5(ss:List UInt32):(Q3 ss).length=ss.length:=by simp[Q3]
theorem fM{ss:List UInt32}{i:Nat}{p:UInt32}(h:ss[i]? = some p):(Q3 ss)[i]? = some ((i:Int),p):=by simp[Q3,h]
abbrev iF(b mp mb:Nat)(v:Value)(d:Ao)(T:List AZ):List AZ:=
 AK b (.cells #[vB d.off,vB d.isCut,vI d.lasts,vI d.counts,v,.map (some mp),.map (some mb),AV d.rcnt,vS d.rtag,Z d.rboots] 100)::AC 9 1 v eS d.blocks::Ab mp Z vS d.pend::Ab mb Z vB d.bad::T
theorem fm(b mp mb bx:Nat)(vb:Value)(d:Ao)(G1:List AZ)(ss:List UInt32)(hss:∀ks,ks.Perm (d.pend.map (·.1))→∃n,GA n ks=some ss)(hlen:d.pend.length≤1073741824)(hlen2:ss.length≤1073741824):
  OD Tryz.prog K w0 167 [vP bx 0] [AK bx (.cells #[vP b 0] 25)] (iF b mp mb vb d G1) fK (Q3 ss):=by
 intro lp J9 X T rc hy h0
 refine T6.enter Tryz.func167 rfl rfl ?_
 show SX _ _ _ _ _ _ _ _ _ (AK bx (.cells #[vP b 0] 25)::rc::iF b mp mb vb d (G1++T))
 refine Y (B5 33 1 BW (U E (V (AH (Y (AG 1 NQ E (AU E E (AF E VE (AG 3 ie E ?_)))))))))
 refine nR 5 E ip E E (fun it=>trivial) fun it=>?_
 refine V (AQ ?_)
 refine SX.mono (BU (α:=List (UInt32×List UInt8)×Value) (fun _=>True) (fun x=>[(0,vY lp),(3,x.2),(11,vP it 0)])
  (fun x=>AC 33 1 x.2 BW (x.1.map (·.1))::AK bx (.cells #[vP b 0] 25)::rc::AK b (.cells #[vB d.off,vB d.isCut,vI d.lasts,vI d.counts,vb,.map (some mp),.map (some mb),AV d.rcnt,vS d.rtag,Z d.rboots] 100)::AC 9 1 vb eS d.blocks::Nm mp it Z vS d.pend x.1::Ab mb Z vB d.bad::(G1++T))
  (fun x=>d.pend.length-x.1.length) (fun x D hp=>?_) ([],zN) trivial) tL
 obtain⟨done,v⟩:=x
 dsimp only
 refine Y ?_
 refine nP 5 (T7 CP) E E E zT (fun hperm=>?_) (fun p hp hlt=>⟨zT,?_⟩)
 refine Af E E E (V (AH (Cz E (A4 (A9 (Bi (BA (AI (i7 5 E ?_)))))))))
 obtain⟨n,hn⟩:=hss (done.map (·.1)) (hperm.map _)
 refine Y (J E (AM 1 oL (OF hn) E (V (Y (J E (Di 0 E CR E E (J E (V (AQ ?_)))))))))
 refine SX.mono (BU (α:=Nat×List AZ) (fun x=>x.1≤ss.length∧J9 ((Q3 ss).take x.1) x.2) (fun x=>[(0,vY lp),(22,v),(23,vI ss.length),(24,vI x.1)])
  (fun x=>AC 33 1 v BW ss::AK bx (.cells #[vP b 0] 25)::(x.2++T)) (fun x=>ss.length-x.1) (fun x D hp=>?_) (0,rc::iF b mp mb vb d G1) ⟨Nat.zero_le _,h0⟩) tL
 obtain⟨i,G⟩:=x
 obtain⟨hi,hJ⟩:=hp
 dsimp only at hi hJ ⊢
 refine Y (AA E BD (V (AH ?_)))
 refine A0 E (fun hc2=>?_) (fun hc2=>?_)
 have hlt:i<ss.length:=by simpa using hc2
 have hg:ss[i]? = some ss[i]:=List.getElem?_eq_getElem hlt
 have hn2:BN ss (i:Int)=some ss[i]:=by simp[BN,hlt]
 have hge:=fM hg
 generalize ss[i]=p at hg hn2 hge
 refine AJ (AI (AH (AQ (Y (J E ?_)))))
 refine CL 0 hn2 E CR Bq E E E fun g m cp hv=>?_
 refine B0 E A6 E (CD (sz:=1) (enc:=BW) 0 0 zV E hv hn2 E) ?_
 refine U E (U E (V (Y (J E (J E (J E ?_))))))
 refine HQ (M2:=[_,_]) (G:=G) (T:=T) (vs:=[_,_]) (ok:=fun G1=>J9 ((Q3 ss).take (i+1)) G1) (no:=X) E E ⟨E,E,zT⟩ E ?_ (fun bb G1 hG1=>⟨zT,?_⟩)
 intro M
 have:=hy _ _ _ (E1 hge).1 G hJ M
 rw[←(E1 hge).2]at this
 exact this
 refine CW E E (V ?_)
 refine A0 E (fun hc3=>?_) (fun hc3=>?_)
 obtain rfl:bb=false:=by simpa using hc3
 refine AL (BC (Ac (Ea (BC ?_))))
 exact Al (Dh E) (Ak (M:=G1) (.inr hG1) fun _ h=>h.skip [_,_])
 obtain rfl:bb=true:=by simpa using hc3
 refine AJ (Ay (AI (AS (AA E (Bj zO zO) (J E (Aa ?_))))))
 exact A1 (i+1,G1) ⟨hlt,hG1⟩ (by dsimp only;omega) tL (fun _ h=>h)
 have hle:i=ss.length:=by simp at hc2;omega
 refine A4 (A9 (Bi (BA ?_)))
 exact C9 (Dh E) (Ak (M:=G) (.inl (by rw[List.take_of_length_le (by rw[Y5];omega)]at hJ;exact hJ)) fun _ h=>h.skip [_,_])
 refine Af E E E (V (AH (NW E (AJ (AI (AQ (Y (nN 5 E E E (Af E E E (U E (V (AS (J E (J E ?_))))))))))))))
 refine CE [_] E CR Bq H4 ⟨E,zT⟩ E E E zX E E zU fun b0=>?_
 refine CJ BW 1 ([p.1]:List UInt32) E zV E ?_
 have hl:DO 4 (done.map (·.1)) [p.1]=some ((done++[p]).map (·.1)):=by
  simp only[DO,List.length_map,List.length_cons,List.length_nil,List.map_append,List.map_cons,List.map_nil]
  rw[if_pos ⟨by omega,by omega⟩]
 refine Cr 1 hl (sz:=1) (enc:=BW) zV E CR Bq QP H4 E zD E E E E (CM (sz:=1) (enc:=BW) 0 zV E) (by simp[BW,Value.oneCell']) zU fun v2=>?_
 refine U E (Aa (Ay ?_))
 exact A1 (done++[p],v2) zT zQ tL (fun _ h=>h.skip [_])
theorem eq(b:Nat):zC K w0 133 [vP b 0] [] H (fun u M=>∃bx,u=.func (.func 167) #[] #[vP bx 0]∧M=[AK bx (.cells #[vP b 0] 25)]):=by
 refine T6.enter Tryz.func133 rfl rfl ?_
 refine Y ?_
 refine Ba E E zU fun b0=>?_
 refine U E (V (Y ?_))
 refine G3 (fv:=#[]) (cv:=#[_]) E E E ?_
 refine U E (V (AL ?_))
 exact Al (Cn E E) (Ak (M:=[_]) ⟨_,E,E⟩ fun _ h=>h.skip [])
end

section
variable {K:Nat→Prop}{w0:World}{H:List AZ}
def XH(d:Ao):Option (List (Int×UInt32)):=if d.pend.length≤1 then some (Q3 (d.pend.map (·.1)))else none
theorem mL{b mp mb bx:Nat}{vb:Value}{d:Ao}{G1:List AZ}{xs:List (Int×UInt32)}(h:XH d=some xs):
  OD Tryz.prog K w0 167 [vP bx 0] [AK bx (.cells #[vP b 0] 25)] (iF b mp mb vb d G1) fK xs:=by
 unfold XH at h
 split at h
 rename_i hl
 obtain rfl:=zI h
 refine fm b mp mb bx vb d G1 (d.pend.map (·.1)) (fun ks hk=>⟨3,?_⟩) zO zQ
 have hm:(d.pend.map (·.1)).length≤1:=by simpa using hl
 rcases hm':d.pend.map (·.1)with _ | ⟨k,_ | ⟨k2,r⟩⟩
 rw[hm']at hk
 rw[List.perm_nil.1 hk,hm']
 rfl
 rw[hm']at hk
 rw[List.perm_singleton.1 hk,hm']
 rfl
 rw[hm']at hm
 simp at hm
 cases h
def WK(_:Ao):Option Unit:=some ()
theorem gK{b:Nat}{d:Ao}{r:Unit}(_:WK d=some r):zC K w0 133 [vP b 0] [] H (fun u M=>∃bx:Nat,u=.func (.func 167) #[] #[vP bx 0]∧M=[AK bx (.cells #[vP b 0] 25)]):=eq b
end

section
variable {K:Nat→Prop}{w0:World}{H:List AZ}
def Po(p0:Ao):Option (UInt32×Int×Ao):=
 ret (decide (p0.rboots=4294967295)) fun x1=>
 cond x1
 (
  some (0,72,p0))
 (
  (DU p0).bind fun y1=>
  cond (!decide (y1.1=0))
  (
   some (0,y1.1,y1.2))
  (
   ret (y1.2.rboots+1) fun x2=>
   some (x2,0,{ y1.2 with rboots:=y1.2.rboots+1 })))
theorem cu{Ap BE CA:Nat}{CB:Value}{p0:Ao}{r:UInt32×Int×Ao}(h:Po p0=some r): zC K w0 63 [vP Ap 0] [AK Ap (.cells #[vB p0.off,vB p0.isCut,vI p0.lasts,vI p0.counts,CB,.map (some BE),.map (some CA),AV p0.rcnt,vS p0.rtag,Z p0.rboots] 100),AC 9 1 CB eS p0.blocks,Ab BE Z vS p0.pend,Ab CA Z vB p0.bad] H (fun u M=>u=.tuple #[Z r.1,vI r.2.1]∧M=[AK Ap (.cells #[vB r.2.2.off,vB r.2.2.isCut,vI r.2.2.lasts,vI r.2.2.counts,CB,.map (some BE),.map (some CA),AV r.2.2.rcnt,vS r.2.2.rtag,Z r.2.2.rboots] 100),AC 9 1 CB eS r.2.2.blocks,Ab BE Z vS r.2.2.pend,Ab CA Z vB r.2.2.bad]):=by
 unfold Po at h
 refine T6.enter Tryz.func63 rfl rfl ?_
 refine Y (U E (U E (V (AH (AQ (Y (J E (D8 E Wl E E (U E (V (Cz E (Y ?_))))))))))))
 obtain⟨x1,ex1,h⟩:=By h
 refine J E (AU E E (AF E Lg (AF E Pq (AG 0 A6 E ?_))))
 refine AA E (NR (b:=4294967295)) ?_
 refine Aq (u:=vB x1) E E (congrArg vB ex1) ?_
 refine V ?_
 refine AP h E (fun hc2 h=>?_) fun hc2 h=>?_
 refine Y (U E (U E (V (AL (BC (Ac ?_))))))
 obtain rfl:=zI h
 exact AW [0,1,2,3] 4 E E E
 refine AJ (Ay (AI (AH (Y ?_))))
 refine AE h fun y1 hy1 h=>?_
 refine J E (AU E E (AF E VC (AM 4 am ((G4 hy1 :)) E (U E (V (Y (J E (AA E BG (V ?_)))))))))
 refine AP h E (fun hc3 h=>?_) fun hc3 h=>?_
 refine Y (J E (U E (U E (V (AL (Ac ?_))))))
 obtain rfl:=zI h
 exact AW [0,1,2,3] 4 E E E
 refine AJ (AI (Y (J E (AU E E (AF E Lg (AF E Pq (AG 0 A6 E ?_)))))))
 refine AA E (B4 (b:=1)) ?_
 refine AU E E (AF E Lg (AF E Pq (A7 0 E E E E Bq E E E zT (V (Y ?_)))))
 obtain⟨x2,ex2,h⟩:=By h
 refine J E (AU E E (AF E Lg (AF E Pq (AG 0 A6 E ?_))))
 refine Aq (u:=Z x2) E E (congrArg Z ex2) ?_
 refine U E (V (AL ?_))
 obtain rfl:=zI h
 exact AW [0,1,2,3] 4 E E E
def Kv(y1:Int×Ao)(o1:Ao):Option (Int×Ao):=
 some (y1.1,o1)
def La(p0:Ao)(p1:List UInt8):Option (Int×Ao):=
 ret (!decide ((p1.length:Int)=32)) fun x1=>
 cond x1
 (
  some (2,p0))
 (
  ret (decide (p0.rcnt=18446744073709551615)) fun x2=>
  cond x2
  (
   some (72,p0))
  (
   (DU p0).bind fun y1=>
   cond (decide (y1.1=0))
   (
    Kv y1 ({ y1.2 with rcnt:=y1.2.rcnt+1,rtag:=p1 }))
   (
    Kv y1 y1.2)))
theorem P0{Ap BE CA:Nat}{CB:Value}{p0:Ao}{p1:List UInt8}{r:Int×Ao}(h:La p0 p1=some r): zC K w0 101 [vP Ap 0,vS p1] [AK Ap (.cells #[vB p0.off,vB p0.isCut,vI p0.lasts,vI p0.counts,CB,.map (some BE),.map (some CA),AV p0.rcnt,vS p0.rtag,Z p0.rboots] 100),AC 9 1 CB eS p0.blocks,Ab BE Z vS p0.pend,Ab CA Z vB p0.bad] H (fun u M=>u=vI r.1∧M=[AK Ap (.cells #[vB r.2.off,vB r.2.isCut,vI r.2.lasts,vI r.2.counts,CB,.map (some BE),.map (some CA),AV r.2.rcnt,vS r.2.rtag,Z r.2.rboots] 100),AC 9 1 CB eS r.2.blocks,Ab BE Z vS r.2.pend,Ab CA Z vB r.2.bad]):=by
 unfold La at h
 refine T6.enter Tryz.func101 rfl rfl ?_
 refine Y (U E (V (AH (AQ (Y (J E (D8 E Wl E E (U E (V (Cz E (Y ?_)))))))))))
 obtain⟨x1,ex1,h⟩:=By h
 refine J E (Bz E Ce E (AA E BG ?_))
 refine Aq (u:=vB x1) E E (congrArg vB ex1) ?_
 refine V ?_
 refine AP h E (fun hc2 h=>?_) fun hc2 h=>?_
 refine Y (U E (V (AL (BC (Ac ?_)))))
 obtain rfl:=zI h
 exact AW [0,1,2,3] 4 E E E
 refine Y ?_
 obtain⟨x2,ex2,h⟩:=By h
 refine J E (AU E E (AF E Lg (AF E Pp (AG 0 FX E ?_))))
 refine AA E (MQ (b:=18446744073709551615)) ?_
 refine Aq (u:=vB x2) E E (congrArg vB ex2) ?_
 refine V ?_
 refine AP h E (fun hc3 h=>?_) fun hc3 h=>?_
 refine Y (U E (V (AL (BC (Ac ?_)))))
 obtain rfl:=zI h
 exact AW [0,1,2,3] 4 E E E
 refine AJ (Ay (AI (Y ?_)))
 refine AE h fun y1 hy1 h=>?_
 refine J E (AU E E (AF E VC (AM 4 am ((G4 hy1 :)) E (U E (V ?_)))))
 refine BB (α:=Ao) (fun x=>Kv y1 x=some r) (fun x=>[(0,vP Ap 0),(5,vI y1.1)]) (fun x=>AK Ap (.cells #[vB x.off,vB x.isCut,vI x.lasts,vI x.counts,CB,.map (some BE),.map (some CA),AV x.rcnt,vS x.rtag,Z x.rboots] 100)::AC 9 1 CB eS x.blocks::Ab BE Z vS x.pend::Ab CA Z vB x.bad::H) ?_ (fun o1 D h=>?_)
 refine Y (J E (AA E BS (V ?_)))
 refine AP h E (fun hc4 h=>?_) fun hc4 h=>?_
 refine Y (J E (AU E E (AF E Lg (AF E Pp (AG 0 FX E ?_)))))
 refine AA E (Hp (b:=1)) ?_
 refine AU E E (AF E Lg (AF E Pp (A7 0 E E E E ik E E E zT (V (AS (J E (J E (AU E E (AF E Lg ?_)))))))))
 refine AF E ay (A7 0 E E E E HC E E E zT (Aa ?_))
 exact Az ({ y1.2 with rcnt:=y1.2.rcnt+1,rtag:=p1 }) h tL (BX [0,1,2,3] 4 rfl rfl rfl)
 refine AJ ?_
 exact Az y1.2 h tL (BX [0,1,2,3] 4 E E E)
 unfold Kv at h
 try dsimp only
 refine Y (J E (U E (V (AL ?_))))
 obtain rfl:=zI h
 exact AW [0,1,2,3] 4 E E E
def IE(p0:Ao):Option cU:=
 some (⟨p0.rcnt,p0.rtag,p0.rboots⟩:cU)
theorem Oy{Ap BE CA:Nat}{CB:Value}{p0:Ao}{r:cU}(h:IE p0=some r): zC K w0 14 [vP Ap 0] [AK Ap (.cells #[vB p0.off,vB p0.isCut,vI p0.lasts,vI p0.counts,CB,.map (some BE),.map (some CA),AV p0.rcnt,vS p0.rtag,Z p0.rboots] 100),AC 9 1 CB eS p0.blocks,Ab BE Z vS p0.pend,Ab CA Z vB p0.bad] H (fun u M=>u=.agg (iG r).toArray∧M=[AK Ap (.cells #[vB p0.off,vB p0.isCut,vI p0.lasts,vI p0.counts,CB,.map (some BE),.map (some CA),AV p0.rcnt,vS p0.rtag,Z p0.rboots] 100),AC 9 1 CB eS p0.blocks,Ab BE Z vS p0.pend,Ab CA Z vB p0.bad]):=by
 unfold IE at h
 refine T6.enter Tryz.func14 rfl rfl ?_
 refine Y ?_
 refine Ar E qO zU fun b1=>?_
 refine V (AH (Y (J rfl (D8 rfl Wl rfl rfl (V (Cz rfl (AJ (AI (Y (J rfl (AU rfl rfl (AF rfl Lg (Aw [AV p0.rcnt,vS p0.rtag,Z p0.rboots] rfl qD rfl rfl (Ck 1 rfl (by rintro(_ | (_ | (_ | j))) u hj<;>first | exact hj | exact absurd hj zS)) (A7 0 rfl rfl rfl rfl tS rfl rfl rfl trivial (V (AL ?_))))))))))))))))
 obtain rfl:=zI h
 exact Al (Id E (CC 0 (iG (⟨p0.rcnt,p0.rtag,p0.rboots⟩:cU)) qD E E E E)) (Ak (M:=[_,_,_,_]) ⟨E,E⟩ fun _ hw=>Bc.pick (H:=[_,_,_,_,_]) hw [1,2,3,4] 5 E)
def Mo(y1:Int×Ao)(o1:Ao):Option (Int×Ao):=
 some (y1.1,o1)
def O5(y1:Int×Ao)(o2:Ao):Option (Int×Ao):=
 Mo y1 ({ o2 with pend:=[] })
def O6(y1:Int×Ao)(o3:Ao):Option (Int×Ao):=
 O5 y1 o3
def ID(y1:Int×Ao)(nx_f_dd_Flush_r1:Ao→Option (Int×Ao))(e1:Int×UInt32)(o3:Ao):Option (Int×Ao):=
 (BN o3.blocks (e1.2.toNat:Int)).bind fun x1=>
 (OA o3.blocks (e1.2.toNat:Int) ((C0 o3.pend e1.2).getD [])).bind fun l1=>
 nx_f_dd_Flush_r1 ({ o3 with blocks:=l1 })
def KB(y1:Int×Ao):List (Int×UInt32)→Ao→Option (Int×Ao):=VW (fun nx e x=>ID y1 nx e x) (fun x=>O6 y1 x)
def KA(p0:Ao):Option (Int×Ao):=
 (DU p0).bind fun y1=>
 cond (decide (y1.1=0))
 (
  (WK y1.2).bind fun y2=>
  (XH y1.2).bind fun xs1=>
  KB y1 xs1 y1.2)
 (
  Mo y1 y1.2)
theorem Pi{Ap BE CA:Nat}{CB:Value}{p0:Ao}{r:Int×Ao}(h:KA p0=some r): zC K w0 96 [vP Ap 0] [AK Ap (.cells #[vB p0.off,vB p0.isCut,vI p0.lasts,vI p0.counts,CB,.map (some BE),.map (some CA),AV p0.rcnt,vS p0.rtag,Z p0.rboots] 100),AC 9 1 CB eS p0.blocks,Ab BE Z vS p0.pend,Ab CA Z vB p0.bad] H (fun u M=>u=vI r.1∧M=[AK Ap (.cells #[vB r.2.off,vB r.2.isCut,vI r.2.lasts,vI r.2.counts,CB,.map (some BE),.map (some CA),AV r.2.rcnt,vS r.2.rtag,Z r.2.rboots] 100),AC 9 1 CB eS r.2.blocks,Ab BE Z vS r.2.pend,Ab CA Z vB r.2.bad]):=by
 unfold KA at h
 refine T6.enter Tryz.func96 rfl rfl ?_
 refine Y ?_
 refine Ba E E zU fun b1=>?_
 refine U E (V (AH (Y (AG 0 NQ E (D8 E Wl E E (V (Cz E (AJ (AI (Y ?_))))))))))
 refine AE h fun y1 hy1 h=>?_
 refine AG 0 NQ E (AU E E (AF E VC (SL.pick [1,2,3,4,0] 5 (AM 4 am ((G4 hy1 :)) E (U E (V ?_))))))
 refine BB (α:=Ao) (fun x=>Mo y1 x=some r) (fun x=>[(0,vP Ap 0),(3,vI y1.1)]) (fun x=>AK Ap (.cells #[vB x.off,vB x.isCut,vI x.lasts,vI x.counts,CB,.map (some BE),.map (some CA),AV x.rcnt,vS x.rtag,Z x.rboots] 100)::AC 9 1 CB eS x.blocks::Ab BE Z vS x.pend::Ab CA Z vB x.bad::H) ?_ (fun o1 D h=>?_)
 refine Y (J E (AA E BS (V ?_)))
 refine AP h E (fun hc2 h=>?_) fun hc2 h=>?_
 refine BB (α:=Ao) (fun x=>O5 y1 x=some r) (fun x=>[(0,vP Ap 0),(1,vP b1 0),(3,vI y1.1)]) (fun x=>AK Ap (.cells #[vB x.off,vB x.isCut,vI x.lasts,vI x.counts,CB,.map (some BE),.map (some CA),AV x.rcnt,vS x.rtag,Z x.rboots] 100)::AC 9 1 CB eS x.blocks::Ab BE Z vS x.pend::Ab CA Z vB x.bad::AK b1 (.cells #[vP Ap 0] 25)::H) ?_ (fun o2 D h=>?_)
 refine Y ?_
 refine AE h fun y2 hy2 h=>?_
 refine AG 4 NQ E (BY 0 nu (gK hy2) E ?_)
 rintro _ _ ⟨b2,rfl,rfl⟩
 refine V (AQ ?_)
 refine AE h fun xs1 hxs1 h=>?_
 refine SX.heap (MU (enc:=fK) xs1 (G0:=AK Ap (.cells #[vB y1.2.off,vB y1.2.isCut,vI y1.2.lasts,vI y1.2.counts,CB,.map (some BE),.map (some CA),AV y1.2.rcnt,vS y1.2.rtag,Z y1.2.rboots] 100)::AC 9 1 CB eS y1.2.blocks::Ab BE Z vS y1.2.pend::Ab CA Z vB y1.2.bad::AK b1 (.cells #[vP Ap 0] 25)::H) (fun pre G=>∃x:Ao,(∀suf,xs1=pre++suf→KB y1 suf x=some r)∧G=AK Ap (.cells #[vB x.off,vB x.isCut,vI x.lasts,vI x.counts,CB,.map (some BE),.map (some CA),AV x.rcnt,vS x.rtag,Z x.rboots] 100)::AC 9 1 CB eS x.blocks::Ab BE Z vS x.pend::Ab CA Z vB x.bad::AK b1 (.cells #[vP Ap 0] 25)::H) (fun c G=>False) E oK E zV (mL hxs1) E ⟨y1.2,fun suf e=>by rw[←show xs1=suf from e];exact h,E⟩ (fun pre e1 suf1 G hpre hJ lr lp Rest=>?_) (fun G D hJ=>?_) (fun c G D hX=>?_)) (BX [0,1,2,3,4,5] 6 E E E)
 obtain⟨o3,h,rfl⟩:=hJ
 replace h:ID y1 (KB y1 suf1) e1 o3=some r:=h _ hpre
 unfold ID at h
 refine AS (U E (Aa ?_))
 refine Kk (G:=AK Ap (.cells #[vB o3.off,vB o3.isCut,vI o3.lasts,vI o3.counts,CB,.map (some BE),.map (some CA),AV o3.rcnt,vS o3.rtag,Z o3.rboots] 100)::AC 9 1 CB eS o3.blocks::Ab BE Z vS o3.pend::Ab CA Z vB o3.bad::AK b1 (.cells #[vP Ap 0] 25)::H) ?_
 refine AQ ?_
 refine AE h fun x1 hx1 h=>?_
 refine AE h fun l1 hl1 h=>?_
 refine A2 DE [0,2,4] (CK [(true,0),(true,1),(true,2),(true,3),(true,4),(true,5),(true,6),(true,7),(true,8),(true,9),(true,10),(true,11)] (.last 12 .nil)) zK (AG 2 NQ E (AU E E (AF E VD (AG 0 Pw E (J E (AG 2 NQ E (AU E E ?_)))))))
 refine AF E VE (AG 0 ie E (J E ?_))
 refine W3 (zv:=[]) 1 (T7 CP) E ip TZ E E E ?_
 refine CL 1 hx1 E Eb HC E E E fun g1 m1 cp1 hv1=>?_
 refine Bk ?_
 refine GC (sz:=1) (enc:=eS) 1 hl1 zV rfl rfl rfl rfl rfl hv1 HC (by first | (simp[Value.oneCell'];done) | simp[eS,Value.oneCell']) trivial ?_
 refine Aa (Ay ?_)
 exact IA ⟨({ o3 with blocks:=l1 }),fun suf e=>by rw[XG hpre e];exact h,rfl⟩ (BX [0,1,2,3,4] 5 rfl rfl rfl)
 obtain⟨o3,h,rfl⟩:=hJ
 replace h:O6 y1 o3=some r:=h [] (List.append_nil _).symm
 unfold O6 at h
 refine Ay ?_
 exact Az o3 h tL (BX [0,1,2,3,4] 5 E E E)
 exact hX.elim
 unfold O5 at h
 try dsimp only
 refine AS (AG 4 NQ E (AU E E (AF E VE (AG 0 ie E (nL 2 E E E ip E E zT (Aa ?_))))))
 exact Az ({ o2 with pend:=[] }) h tL (BX [0,1,2,3] 5 rfl rfl rfl)
 refine AJ ?_
 exact Az y1.2 h tL (BX [0,1,2,3] 5 E E E)
 unfold Mo at h
 try dsimp only
 refine Y (J E (U E (V (AL ?_))))
 obtain rfl:=zI h
 exact AW [0,1,2,3] 4 E E E
def N6(T:List UInt32)(p0:A5)(p0_1:Ao)(p1:UInt32)(p2:List UInt8):Option (List UInt8×Int×A5×Ao):=
 ret (decide (2≤p1)) fun x1=>
 cond x1
 (
  some ([],2,p0,p0_1))
 (
  ret (decide (198<(p2.length:Int))) fun x2=>
  cond x2
  (
   some ([],50,p0,p0_1))
  (
   (KS T p0 p0_1 p1 p2).bind fun y1=>
   some (y1.1,y1.2.1,y1.2.2.1,y1.2.2.2)))
theorem ST{T:List UInt32}{Ap BE BO B6 B7:Nat}{Ad B8:Value}{p0:A5}{p0_1:Ao}{p1:UInt32}{p2:List UInt8}{r:List UInt8×Int×A5×Ao}(h:N6 T p0 p0_1 p1 p2=some r)(hS:GQ K w0 T):zC K w0 99 [vP Ap 0,Z p1,vS p2] [AK Ap (.cells #[vP BO 0,Ad,Z p0.gen,Z p0.boot,AV p0.seals,.map (some BE)] 181),AC 114 2 Ad AY p0.ring,Ab BE Z vB p0.taken,AK BO (.cells #[vB p0_1.off,vB p0_1.isCut,vI p0_1.lasts,vI p0_1.counts,B8,.map (some B6),.map (some B7),AV p0_1.rcnt,vS p0_1.rtag,Z p0_1.rboots] 100),AC 9 1 B8 eS p0_1.blocks,Ab B6 Z vS p0_1.pend,Ab B7 Z vB p0_1.bad] H (fun u M=>u=.tuple #[vS r.1,vI r.2.1]∧M=[AK Ap (.cells #[vP BO 0,Ad,Z r.2.2.1.gen,Z r.2.2.1.boot,AV r.2.2.1.seals,.map (some BE)] 181),AC 114 2 Ad AY r.2.2.1.ring,Ab BE Z vB r.2.2.1.taken,AK BO (.cells #[vB r.2.2.2.off,vB r.2.2.2.isCut,vI r.2.2.2.lasts,vI r.2.2.2.counts,B8,.map (some B6),.map (some B7),AV r.2.2.2.rcnt,vS r.2.2.2.rtag,Z r.2.2.2.rboots] 100),AC 9 1 B8 eS r.2.2.2.blocks,Ab B6 Z vS r.2.2.2.pend,Ab B7 Z vB r.2.2.2.bad]):=by
 unfold N6 at h
 refine T6.enter Tryz.func99 rfl rfl ?_
 refine Y (U E (U E (V (AH (AQ (Y (J E (D8 E io E E (U E (V (Cz E (Y ?_))))))))))))
 obtain⟨x1,ex1,h⟩:=By h
 refine J E ?_
 refine AA E (HJ (b:=2)) ?_
 refine Aq (u:=vB x1) E E (congrArg vB ex1) ?_
 refine V ?_
 refine AP h E (fun hc2 h=>?_) fun hc2 h=>?_
 refine Y (U E (U E (V (AL (BC (Ac ?_))))))
 obtain rfl:=zI h
 exact AW [0,1,2,3,4,5,6] 7 E E E
 refine Y ?_
 obtain⟨x2,ex2,h⟩:=By h
 refine J E (Bz E Ce E (AA E Cm ?_))
 refine Aq (u:=vB x2) E E (congrArg vB ex2) ?_
 refine V ?_
 refine AP h E (fun hc3 h=>?_) fun hc3 h=>?_
 refine Y (U E (U E (V (AL (BC (Ac ?_))))))
 obtain rfl:=zI h
 exact AW [0,1,2,3,4,5,6] 7 E E E
 refine AJ (Ay (AI (Y ?_)))
 refine AE h fun y1 hy1 h=>?_
 refine J E (J E (J E (AM 7 gj (Xv hy1 hS) E (Af E E E (Af E E E (U E (U E (V (AL ?_)))))))))
 obtain rfl:=zI h
 exact AW [0,1,2,3,4,5,6] 7 E E E
end

section
variable {K:Nat→Prop}{w0:World}{H:List AZ}
def G9(p0:A8):Option (UInt32×Int×A8):=
 cond (decide (p0.rboots=4294967295))
 (
  some (0,72,p0))
 (
  (De p0).bind fun y1=>
  cond (!decide (y1.1=0))
  (
   some (0,y1.1,y1.2))
  (
   ret (y1.2.rboots+1) fun x1=>
   some (x1,0,{ y1.2 with rboots:=y1.2.rboots+1 })))
theorem Rn{Ap:Nat}{Am Ad A3:Value}{p0:A8}{r:UInt32×Int×A8}(h:G9 p0=some r): zC K w0 48 [vP Ap 0] [AK Ap (.cells #[Am,Ad,A3,AV p0.rcnt,vS p0.rtag,Z p0.rboots,vI p0.left,vB p0.off] 107),AC 9 1 Am eS p0.blk,AC 9 1 Ad eS p0.pnd,AC 4 1 A3 eB p0.bads] H (fun u M=>u=.tuple #[Z r.1,vI r.2.1]∧M=[AK Ap (.cells #[Am,Ad,A3,AV r.2.2.rcnt,vS r.2.2.rtag,Z r.2.2.rboots,vI r.2.2.left,vB r.2.2.off] 107),AC 9 1 Am eS r.2.2.blk,AC 9 1 Ad eS r.2.2.pnd,AC 4 1 A3 eB r.2.2.bads]):=by
 unfold G9 at h
 refine T6.enter Tryz.func48 rfl rfl ?_
 refine Y (U E (U E (V (AH (Y (J E (AU E E (AF E Lh (AF E Pq (AG 0 A6 E ?_))))))))))
 refine AA E (NR (b:=4294967295)) ?_
 refine V ?_
 refine AP h E (fun hc1 h=>?_) fun hc1 h=>?_
 refine Y (U E (U E (V (AL (Ac ?_)))))
 obtain rfl:=zI h
 exact AW [0,1,2,3] 4 E E E
 refine AJ (AI (Y ?_))
 refine AE h fun y1 hy1 h=>?_
 refine J E (AM 4 al (Im hy1) E (U E (V (AH (Y (J E (AA E BG (V ?_))))))))
 refine AP h E (fun hc2 h=>?_) fun hc2 h=>?_
 refine Y (J E (U E (U E (V (AL (Ac ?_))))))
 obtain rfl:=zI h
 exact AW [0,1,2,3] 4 E E E
 refine AJ (AI (Y (J E (AU E E (AF E Lh (AF E Pq (AG 0 A6 E ?_)))))))
 refine AA E (B4 (b:=1)) ?_
 refine AU E E (AF E Lh (AF E Pq (A7 0 E E E E Bq E E E zT (V (Y ?_)))))
 obtain⟨x1,ex1,h⟩:=By h
 refine J E (AU E E (AF E Lh (AF E Pq (AG 0 A6 E ?_))))
 refine Aq (u:=Z x1) E E (congrArg Z ex1) ?_
 refine U E (V (AL ?_))
 obtain rfl:=zI h
 exact AW [0,1,2,3] 4 E E E
def E6(y1:Int×A8)(o1:A8):Option (Int×A8):=
 some (y1.1,o1)
def Ew(p0:A8)(p1:List UInt8):Option (Int×A8):=
 cond (!decide ((p1.length:Int)=32))
 (
  some (2,p0))
 (
  cond (decide (p0.rcnt=18446744073709551615))
  (
   some (72,p0))
  (
   (De p0).bind fun y1=>
   cond (decide (y1.1=0))
   (
    E6 y1 ({ y1.2 with rcnt:=y1.2.rcnt+1,rtag:=p1 }))
   (
    E6 y1 y1.2)))
theorem MW{Ap:Nat}{Am Ad A3:Value}{p0:A8}{p1:List UInt8}{r:Int×A8}(h:Ew p0 p1=some r): zC K w0 109 [vP Ap 0,vS p1] [AK Ap (.cells #[Am,Ad,A3,AV p0.rcnt,vS p0.rtag,Z p0.rboots,vI p0.left,vB p0.off] 107),AC 9 1 Am eS p0.blk,AC 9 1 Ad eS p0.pnd,AC 4 1 A3 eB p0.bads] H (fun u M=>u=vI r.1∧M=[AK Ap (.cells #[Am,Ad,A3,AV r.2.rcnt,vS r.2.rtag,Z r.2.rboots,vI r.2.left,vB r.2.off] 107),AC 9 1 Am eS r.2.blk,AC 9 1 Ad eS r.2.pnd,AC 4 1 A3 eB r.2.bads]):=by
 unfold Ew at h
 refine T6.enter Tryz.func109 rfl rfl ?_
 refine Y (U E (V (AH (Y (J E (Bz E Ce E (AA E BG (V ?_))))))))
 refine AP h E (fun hc1 h=>?_) fun hc1 h=>?_
 refine Y (U E (V (AL (Ac ?_))))
 obtain rfl:=zI h
 exact AW [0,1,2,3] 4 E E E
 refine AJ (AI (AH (Y (J E (AU E E (AF E Lh (AF E Pp (AG 0 FX E ?_))))))))
 refine AA E (MQ (b:=18446744073709551615)) ?_
 refine V ?_
 refine AP h E (fun hc2 h=>?_) fun hc2 h=>?_
 refine Y (U E (V (AL (Ac ?_))))
 obtain rfl:=zI h
 exact AW [0,1,2,3] 4 E E E
 refine AJ (AI (Y ?_))
 refine AE h fun y1 hy1 h=>?_
 refine J E (AM 4 al (Im hy1) E (U E (V ?_)))
 refine BB (α:=A8) (fun x=>E6 y1 x=some r) (fun x=>[(0,vP Ap 0),(5,vI y1.1)]) (fun x=>AK Ap (.cells #[Am,Ad,A3,AV x.rcnt,vS x.rtag,Z x.rboots,vI x.left,vB x.off] 107)::AC 9 1 Am eS x.blk::AC 9 1 Ad eS x.pnd::AC 4 1 A3 eB x.bads::H) ?_ (fun o1 D h=>?_)
 refine Y (J E (AA E BS (V ?_)))
 refine AP h E (fun hc3 h=>?_) fun hc3 h=>?_
 refine Y (J E (AU E E (AF E Lh (AF E Pp (AG 0 FX E ?_)))))
 refine AA E (Hp (b:=1)) ?_
 refine AU E E (AF E Lh (AF E Pp (A7 0 E E E E ik E E E zT (V (AS (J E (J E (AU E E (AF E Lh ?_)))))))))
 refine AF E ay (A7 0 E E E E HC E E E zT (Aa ?_))
 exact Az ({ y1.2 with rcnt:=y1.2.rcnt+1,rtag:=p1 }) h tL (BX [0,1,2,3] 4 rfl rfl rfl)
 refine AJ ?_
 exact Az y1.2 h tL (BX [0,1,2,3] 4 E E E)
 unfold E6 at h
 try dsimp only
 refine Y (J E (U E (V (AL ?_))))
 obtain rfl:=zI h
 exact AW [0,1,2,3] 4 E E E
def Hw(y1:Int×A8)(o1:A8):Option (Int×A8):=
 some (y1.1,o1)
def Do(a1:Int)(nx_f_ref07_Device_Flush_l1:A8×Int→Option (Int×A8))(o3:A8):Option (Int×A8):=
 ret (wI (a1+1)) fun i_1=>
 nx_f_ref07_Device_Flush_l1 (o3,i_1)
def EA(y1:Int×A8)(nx_f_ref07_Device_Flush_l1:A8×Int→Option (Int×A8))(o2:A8)(a1:Int):Option (Int×A8):=
 cond ((decide (a1<(o2.blk.length:Int)))&&(decide (y1.1=0)))
 (
  (BN o2.pnd a1).bind fun x1=>
  cond (!decide (x1=[]))
  (
   (BN o2.pnd a1).bind fun x2=>
   (BN o2.blk a1).bind fun x3=>
   (OA o2.blk a1 x2).bind fun l1=>
   (BN o2.pnd a1).bind fun x4=>
   (OA o2.pnd a1 []).bind fun l2=>
   Do a1 nx_f_ref07_Device_Flush_l1 ({ o2 with blk:=l1,pnd:=l2 }))
  (
   Do a1 nx_f_ref07_Device_Flush_l1 o2))
 (
  Hw y1 o2)
def Dp(y1:Int×A8):Nat→(A8×Int)→Option (Int×A8):=CO fun nx x=>EA y1 nx x.1 x.2
def Ec(n:Nat)(p0:A8):Option (Int×A8):=
 (De p0).bind fun y1=>
 Dp y1 n (y1.2,0)
theorem Je{n Ap:Nat}{Am Ad A3:Value}{p0:A8}{r:Int×A8}(h:Ec n p0=some r): zC K w0 105 [vP Ap 0] [AK Ap (.cells #[Am,Ad,A3,AV p0.rcnt,vS p0.rtag,Z p0.rboots,vI p0.left,vB p0.off] 107),AC 9 1 Am eS p0.blk,AC 9 1 Ad eS p0.pnd,AC 4 1 A3 eB p0.bads] H (fun u M=>u=vI r.1∧M=[AK Ap (.cells #[Am,Ad,A3,AV r.2.rcnt,vS r.2.rtag,Z r.2.rboots,vI r.2.left,vB r.2.off] 107),AC 9 1 Am eS r.2.blk,AC 9 1 Ad eS r.2.pnd,AC 4 1 A3 eB r.2.bads]):=by
 unfold Ec at h
 refine T6.enter Tryz.func105 rfl rfl ?_
 refine Y (U E (V (Y ?_)))
 refine AE h fun y1 hy1 h=>?_
 refine J E (AM 4 al (Im hy1) E (U E (V ?_)))
 refine BB (α:=A8) (fun x=>Hw y1 x=some r) (fun x=>[(0,vP Ap 0),(3,vI y1.1)]) (fun x=>AK Ap (.cells #[Am,Ad,A3,AV x.rcnt,vS x.rtag,Z x.rboots,vI x.left,vB x.off] 107)::AC 9 1 Am eS x.blk::AC 9 1 Ad eS x.pnd::AC 4 1 A3 eB x.bads::H) ?_ (fun o1 D h=>?_)
 refine Y (U E (V (AQ ?_)))
 refine SX.heap (SX.mono (BU (α:=Nat×A8×Int) (fun x=>Dp y1 x.1 (x.2.1,x.2.2)=some r) (fun x=>[(0,vP Ap 0),(3,vI y1.1),(4,vI x.2.2)]) (fun x=>AK Ap (.cells #[Am,Ad,A3,AV x.2.1.rcnt,vS x.2.1.rtag,Z x.2.1.rboots,vI x.2.1.left,vB x.2.1.off] 107)::AC 9 1 Am eS x.2.1.blk::AC 9 1 Ad eS x.2.1.pnd::AC 4 1 A3 eB x.2.1.bads::H) (fun x=>x.1) (fun x D h=>?_) (n,y1.2,0) h) tL) (BX [0,1,2,3] 4 E E E)
 obtain⟨m1,o2,a1⟩:=x
 dsimp only at h
 rcases m1 with _ | m1
 cases (show(none:Option _)=some r from h)
 replace h:EA y1 (Dp y1 m1) o2 a1=some r:=h
 unfold EA at h
 try dsimp only
 refine AH (Y (J E (J E (AU E E (AF E QW (AG 0 Pw E (Di 1 E Eb E E (AA E BD (J E ?_)))))))))
 refine Cb (c:=decide (y1.1=0)) 14 3 17 E (fun hb k=>?_) (fun hb k=>?_) ?_
 refine J E (AA E BS (Ag E E E ?_))
 exact k.mono tL
 refine AB E (AB E (Ag E E E ?_))
 exact k.mono tL
 refine V ?_
 refine AP h E (fun hc1 h=>?_) fun hc1 h=>?_
 refine AJ (AI ?_)
 refine BB (α:=A8) (fun x=>Do a1 (Dp y1 m1) x=some r) (fun x=>[(0,vP Ap 0),(3,vI y1.1),(4,vI a1)]) (fun x=>AK Ap (.cells #[Am,Ad,A3,AV x.rcnt,vS x.rtag,Z x.rboots,vI x.left,vB x.off] 107)::AC 9 1 Am eS x.blk::AC 9 1 Ad eS x.pnd::AC 4 1 A3 eB x.bads::H) ?_ (fun o3 D h=>?_)
 refine AQ (Y ?_)
 refine AE h fun x1 hx1 h=>?_
 refine J E (AU E E (AF E QX (AG 0 Pw E (J E ?_))))
 refine CL 2 hx1 E Eb HC E E E fun g1 m2 cp1 hv1=>?_
 refine B0 E GP E (CD (sz:=1) (enc:=eS) 2 0 zV E hv1 hx1 E) ?_
 refine AA E Uc (V ?_)
 refine AP h E (fun hc2 h=>?_) fun hc2 h=>?_
 refine AH ?_
 refine AE h fun x2 hx2 h=>?_
 refine AE h fun x3 hx3 h=>?_
 refine AE h fun l1 hl1 h=>?_
 refine A2 DE [0,2] (CK [(true,0),(true,1),(true,2),(true,3),(true,4),(true,5),(true,6),(true,7),(true,8),(true,9),(true,10),(true,11),(true,12)] (.last 13 .nil)) zK (J E (AU E E (AF E QW (AG 0 Pw E (J E (J E (AU E E ?_)))))))
 refine AF E QX (AG 0 Pw E (J E ?_))
 refine CL 2 hx2 E Eb HC E E E fun g2 m3 cp2 hv2=>?_
 refine B0 E GP E (CD (sz:=1) (enc:=eS) 1 0 zV E hv2 hx2 E) ?_
 refine CL 1 hx3 E Eb HC E E E fun g3 m4 cp3 hv3=>?_
 refine Bk ?_
 refine GC (sz:=1) (enc:=eS) 1 hl1 zV rfl rfl rfl rfl rfl hv3 HC (by first | (simp[Value.oneCell'];done) | simp[eS,Value.oneCell']) trivial ?_
 refine V (AS ?_)
 refine AE h fun x4 hx4 h=>?_
 refine AE h fun l2 hl2 h=>?_
 refine J E (AU E E (AF E QX (AG 0 Pw E (J E ?_))))
 refine CL 2 hx4 E Eb HC E E E fun g4 m5 cp4 hv4=>?_
 refine GC (sz:=1) (enc:=eS) 2 hl2 zV rfl rfl rfl rfl rfl hv4 HC (by first | (simp[Value.oneCell'];done) | simp[eS,Value.oneCell']) trivial ?_
 refine Aa (Ay ?_)
 exact Az ({ o2 with blk:=l1,pnd:=l2 }) h tL (BX [0,1,2,3] 4 rfl rfl rfl)
 refine AJ (Ay ?_)
 exact Az o2 h tL (BX [0,1,2,3] 4 E E E)
 unfold Do at h
 try dsimp only
 refine AS ?_
 obtain⟨i_1,ei_1,h⟩:=By h
 refine J E (AA E Bu ?_)
 refine Aq (u:=vI i_1) E E (congrArg vI ei_1) ?_
 refine Aa ?_
 exact A1 (m1,o3,i_1) h (Nat.lt_succ_self _) tL (BX [0,1,2,3] 4 E E E)
 refine A4 (A9 (Bi (BA ?_)))
 exact Az o2 h tL (BX [0,1,2,3] 4 E E E)
 unfold Hw at h
 try dsimp only
 refine Y (J E (U E (V (AL ?_))))
 obtain rfl:=zI h
 exact AW [0,1,2,3] 4 E E E
def JE(n:Nat)(p0:List BV):Option (UInt32×Int):=
 (Gu n p0).bind fun y1=>
 cond (!y1)
 (
  some (0,40))
 (
  cond (decide ((p0.length:Int)=0))
  (
   some (0,41))
  (
   (BN p0 (wI ((p0.length:Int)-1))).bind fun x1=>
   some (x1.gen,0)))
theorem Wt{n:Nat}{DJ:Value}{p0:List BV}{r:UInt32×Int}(h:JE n p0=some r)(hs0_:CG K w0 AY 2 DJ p0):zC K w0 46 [DJ] [] H (fun u M=>u=.tuple #[Z r.1,vI r.2]∧M=[]):=by
 unfold JE at h
 refine T6.enter Tryz.func46 rfl rfl ?_
 refine Y (U E (U E (V (Y ?_))))
 refine AE h fun y1 hy1 h=>?_
 refine J E (AM 0 fB (O1 hy1 hs0_) E (U E (V (AH (Y (J E (CW E E (V ?_))))))))
 refine AP h E (fun hc1 h=>?_) fun hc1 h=>?_
 refine Y (U E (U E (V (AL (Ac ?_)))))
 obtain rfl:=zI h
 exact AW [] 0 E E E
 refine AJ (AI (AH (Y (J E (CF hs0_ E GV E (AA E BS (V ?_)))))))
 refine AP h E (fun hc2 h=>?_) fun hc2 h=>?_
 refine Y (U E (U E (V (AL (Ac ?_)))))
 obtain rfl:=zI h
 exact AW [] 0 E E E
 refine AJ (AI (Y ?_))
 refine AE h fun x1 hx1 h=>?_
 refine J E (J E (CF hs0_ E GV E (AA E Dn ?_)))
 refine DF hx1 hs0_ E GV E4 E E fun be1 of1 hc3=>?_
 refine AF E FV ?_
 refine B0 E A6 E (Dd (j:=0) hc3 E) ?_
 refine U E (U E (V (AL ?_)))
 obtain rfl:=zI h
 exact AW [] 0 E E E
def Hi(n:Nat)(T:List UInt32)(p0:Bh)(p0_1:A8)(p1:UInt32)(p2:List UInt8):Option (List UInt8×Int×Bh×A8):=
 cond (decide (1<p1))
 (
  some ([],2,p0,p0_1))
 (
  cond (decide (198<(p2.length:Int)))
  (
   some ([],50,p0,p0_1))
  (
   (Ex n T p0 p0_1 p1 p2).bind fun y1=>
   some (y1.1,y1.2.1,y1.2.2.1,y1.2.2.2)))
theorem N3{n Ap BO:Nat}{T:List UInt32}{Ad Be Dk Bg Dl:Value}{p0:Bh}{p0_1:A8}{p1:UInt32}{p2:List UInt8}{r:List UInt8×Int×Bh×A8}(h:Hi n T p0 p0_1 p1 p2=some r)(hT:I9 K w0 2 64 T):zC K w0 108 [vP Ap 0,Z p1,vS p2] [AK Ap (.cells #[vP BO 0,Ad,Z p0.gen,Z p0.boot,AV p0.num,Be] 153),AC 114 2 Ad AY p0.ring,AC 4 1 Be eB p0.taken,AK BO (.cells #[Dk,Bg,Dl,AV p0_1.rcnt,vS p0_1.rtag,Z p0_1.rboots,vI p0_1.left,vB p0_1.off] 107),AC 9 1 Dk eS p0_1.blk,AC 9 1 Bg eS p0_1.pnd,AC 4 1 Dl eB p0_1.bads] H (fun u M=>u=.tuple #[vS r.1,vI r.2.1]∧M=[AK Ap (.cells #[vP BO 0,Ad,Z r.2.2.1.gen,Z r.2.2.1.boot,AV r.2.2.1.num,Be] 153),AC 114 2 Ad AY r.2.2.1.ring,AC 4 1 Be eB r.2.2.1.taken,AK BO (.cells #[Dk,Bg,Dl,AV r.2.2.2.rcnt,vS r.2.2.2.rtag,Z r.2.2.2.rboots,vI r.2.2.2.left,vB r.2.2.2.off] 107),AC 9 1 Dk eS r.2.2.2.blk,AC 9 1 Bg eS r.2.2.2.pnd,AC 4 1 Dl eB r.2.2.2.bads]):=by
 unfold Hi at h
 refine T6.enter Tryz.func108 rfl rfl ?_
 refine Y (U E (U E (V (AH (Y (J E ?_))))))
 refine AA E (S5 (b:=1)) ?_
 refine V ?_
 refine AP h E (fun hc1 h=>?_) fun hc1 h=>?_
 refine Y (U E (U E (V (AL (Ac ?_)))))
 obtain rfl:=zI h
 exact AW [0,1,2,3,4,5,6] 7 E E E
 refine AJ (AI (AH (Y (J E (Bz E Ce E (AA E Cm (V ?_)))))))
 refine AP h E (fun hc2 h=>?_) fun hc2 h=>?_
 refine Y (U E (U E (V (AL (Ac ?_)))))
 obtain rfl:=zI h
 exact AW [0,1,2,3,4,5,6] 7 E E E
 refine AJ (AI (Y ?_))
 refine AE h fun y1 hy1 h=>?_
 refine J E (J E (J E (AM 7 gq (N4 hy1 hT) E (Af E E E (Af E E E (U E (U E (V (AL ?_)))))))))
 obtain rfl:=zI h
 exact AW [0,1,2,3,4,5,6] 7 E E E
def Gw(p0:Ef):Option Bool:=
 (Fz (⟨p0.page,p0.tag⟩:Bb)).bind fun y1=>
 ret ((((decide (0<p0.cnt))&&(decide (0<p0.gen)))&&(decide (p0.rows≤1000)))&&y1) fun x1=>
 some x1
theorem SO{p0:Ef}{r:Bool}(h:Gw p0=some r): zC K w0 139 [.agg (HW p0).toArray] [] H (fun u M=>u=vB r∧M=[]):=by
 unfold Gw at h
 refine T6.enter Tryz.func139 rfl rfl ?_
 refine Y ?_
 refine Ba E E zU fun b1=>?_
 refine U E (V (Y ?_))
 refine AE h fun y1 hy1 h=>?_
 refine AF rfl Qa (Aw [Z p0.page,vS p0.tag] rfl C6 rfl rfl (Ck 0 rfl (by rintro(_ | (_ | j)) u hj<;>first | exact hj | exact absurd hj zS)) (AM 0 aa ((Mi hy1 :)) rfl (U rfl (V (Y ?_)))))
 obtain⟨x1,ex1,h⟩:=By h
 refine AF E Li (AG 0 FX E ?_)
 refine AA E (NS (b:=0)) ?_
 refine J E ?_
 refine Cb (c:=decide (0<p0.gen)) 10 4 14 E (fun hb k=>?_) (fun hb k=>?_) ?_
 refine AF E VJ (AG 0 A6 E ?_)
 refine AA E (S5 (b:=0)) ?_
 refine Ag E E E ?_
 exact k.mono tL
 refine AB E (AB E (AB E (Ag E E E ?_)))
 exact k.mono tL
 refine J E ?_
 refine Cb (c:=decide (p0.rows≤1000)) 15 4 19 E (fun hb k=>?_) (fun hb k=>?_) ?_
 refine AF E VK (AG 0 A6 E ?_)
 refine AA E (NT (b:=1000)) ?_
 refine Ag E E E ?_
 exact k.mono tL
 refine AB E (AB E (AB E (Ag E E E ?_)))
 exact k.mono tL
 refine J E ?_
 refine Cb (c:=y1) 20 2 22 E (fun hb k=>?_) (fun hb k=>?_) ?_
 refine J E (Ag E E E ?_)
 exact k.mono tL
 refine AB E (Ag E E E ?_)
 exact k.mono tL
 refine Aq (u:=vB x1) E E (congrArg vB ex1) ?_
 refine V (AL ?_)
 obtain rfl:=zI h
 exact AW [] 1 E E E
def OK(a1:List UInt8):Option (List UInt8):=
 some a1
def M5(p1:Int)(nx_f_ref15_put_l1:UInt64×List UInt8×Int→Option (List UInt8))(a2:UInt64)(a3:List UInt8)(a4:Int):Option (List UInt8):=
 cond (decide (a4<p1))
 (
  (EG a3 [a2.toUInt8]).bind fun s1=>
  (RL a2 256).bind fun q1=>
  ret (wI (a4+1)) fun i_1=>
  nx_f_ref15_put_l1 (q1,s1,i_1))
 (
  OK a3)
def OL(p1:Int):Nat→(UInt64×List UInt8×Int)→Option (List UInt8):=CO fun nx x=>M5 p1 nx x.1 x.2.1 x.2.2
def Hj(n:Nat)(p0:UInt64)(p1:Int):Option (List UInt8):=
 OL p1 n (p0,[],0)
theorem OY{n:Nat}{p0:UInt64}{p1:Int}{r:List UInt8}(h:Hj n p0 p1=some r): zC K w0 140 [AV p0,vI p1] [] H (fun u M=>u=vS r∧M=[]):=by
 unfold Hj at h
 refine T6.enter Tryz.func140 rfl rfl ?_
 refine Y (U E (V (Y (U E (V ?_)))))
 refine BB (α:=List UInt8) (fun x=>OK x=some r) (fun x=>[(5,vS x)]) (fun x=>H) ?_ (fun a1 D h=>?_)
 refine Y (U E (V (AQ ?_)))
 refine SX.heap (SX.mono (BU (α:=Nat×UInt64×List UInt8×Int) (fun x=>OL p1 x.1 (x.2.1,x.2.2.1,x.2.2.2)=some r) (fun x=>[(0,AV x.2.1),(1,vI p1),(5,vS x.2.2.1),(6,vI x.2.2.2)]) (fun x=>H) (fun x=>x.1) (fun x D h=>?_) (n,p0,[],0) h) tL) (BX [] 0 E E E)
 obtain⟨m1,a2,a3,a4⟩:=x
 dsimp only at h
 rcases m1 with _ | m1
 cases (show(none:Option _)=some r from h)
 replace h:M5 p1 (OL p1 m1) a2 a3 a4=some r:=h
 unfold M5 at h
 try dsimp only
 refine AH (Y (J E (J E (AA E BD (V ?_)))))
 refine AP h E (fun hc1 h=>?_) fun hc1 h=>?_
 refine AJ (AI (AH (AQ (Y ?_))))
 refine AE h fun s1 hs1 h=>?_
 refine J E (J E (BM E E (FD DL DG) ?_))
 refine CE [_] rfl Ca Ji Kh ⟨rfl,trivial⟩ rfl rfl rfl zW rfl rfl zU fun b1=>?_
 refine CJ FS 1 ([a2.toUInt8]:List UInt8) E zV E ?_
 refine Ge 0 E Ca DG Ce E E (AA E (CN hs1) (U E (V (AS ?_))))
 refine AE h fun q1 hq1 h=>?_
 refine J E ?_
 refine AA E (Pa (b:=256) hq1) ?_
 refine U E (Aa (Ay (AI (AS ?_))))
 obtain⟨i_1,ei_1,h⟩:=By h
 refine J E (AA E Bu ?_)
 refine Aq (u:=vI i_1) E E (congrArg vI ei_1) ?_
 refine Aa ?_
 exact A1 (m1,q1,s1,i_1) h (Nat.lt_succ_self _) tL (BX [] 1 E E E)
 refine A4 (A9 (Bi (BA ?_)))
 exact Az a3 h tL (BX [] 0 E E E)
 unfold OK at h
 try dsimp only
 refine Y (J E (U E (V (AL ?_))))
 obtain rfl:=zI h
 exact AW [] 0 E E E
def JG(n:Nat)(p0:Ef):Option (List UInt8×Int):=
 (Gw p0).bind fun y1=>
 cond (!y1)
 (
  some ([],120))
 (
  (Hj n p0.cnt 8).bind fun y2=>
  (EG [115,112,104,114] y2).bind fun s1=>
  (Hj n p0.gen.toUInt64 4).bind fun y3=>
  (EG s1 y3).bind fun s2=>
  (Hj n p0.rows.toUInt64 4).bind fun y4=>
  (EG s2 y4).bind fun s3=>
  (Hj n p0.page.toUInt64 4).bind fun y5=>
  (EG s3 y5).bind fun s4=>
  (EG s4 p0.tag).bind fun s5=>
  some (s5,0))
theorem Ra{n:Nat}{p0:Ef}{r:List UInt8×Int}(h:JG n p0=some r): zC K w0 107 [.agg (HW p0).toArray] [] H (fun u M=>u=.tuple #[vS r.1,vI r.2]∧M=[]):=by
 unfold JG at h
 refine T6.enter Tryz.func107 rfl rfl ?_
 refine Y ?_
 refine Ba E E zU fun b1=>?_
 refine U E (U E (V (Y ?_)))
 refine AE h fun y1 hy1 h=>?_
 refine Aw [AV p0.cnt,Z p0.gen,Z p0.rows,Z p0.page,vS p0.tag] E Il E E (An 0 E) (AM 0 gp ((SO hy1 :)) E (U E (V (AH (Y (J E (CW E E (V ?_))))))))
 refine AP h E (fun hc1 h=>?_) fun hc1 h=>?_
 refine Y (U E (U E (V (AL (Ac ?_)))))
 obtain rfl:=zI h
 exact AW [] 1 E E E
 refine AJ (AI (AH ?_))
 refine AE h fun y2 hy2 h=>?_
 refine AE h fun s1 hs1 h=>?_
 refine AE h fun y3 hy3 h=>?_
 refine AE h fun s2 hs2 h=>?_
 refine AE h fun y4 hy4 h=>?_
 refine AE h fun s3 hs3 h=>?_
 refine AE h fun y5 hy5 h=>?_
 refine AE h fun s4 hs4 h=>?_
 refine AE h fun s5 hs5 h=>?_
 refine A2 DE [0] (CK [(true,0),(true,1),(true,4),(true,5),(true,6),(true,9),(true,10),(true,11),(true,14),(true,15),(true,16),(true,17),(true,20),(true,21),(true,22),(false,2),(true,3),(false,7),(true,8),(false,12),(true,13),(false,18),(false,19)] (.last 23 (C3 [(false,24),(false,25)]))) zK (AF E Li (AG 0 FX E (AF E VJ (AG 0 A6 E (BM E E (Co CP DL) (AF E VK (AG 0 A6 E ?_)))))))
 refine BM E E (Co CP DL) (AF E Qa (AF E FW (AG 0 A6 E (BM E E (Co CP DL) (AF E Qa (AF E NB (AG 0 GP E ?_)))))))
 refine Bf 0 W6 (OY hy2) E ⟨⟨0,E⟩,zT⟩ (AA E (CN hs1) (Bf 0 W6 (OY hy3) E ⟨⟨0,E⟩,zT⟩ (AA E (CN hs2) (Bf 0 W6 (OY hy4) E ⟨⟨0,E⟩,zT⟩ (AA E (CN hs3) (Bf 0 W6 (OY hy5) E ⟨⟨0,E⟩,zT⟩ (AA E (CN hs4) (Bk ?_))))))))
 refine AA E (CN hs5) (U E (U E (V (AL ?_))))
 obtain rfl:=zI h
 exact AW [] 1 E E E
def Le(p0:UInt64)(p1:UInt32)(p2:Int)(p3:Bb):Option (Ef×Int):=
 cond (decide (p0=18446744073709551615))
 (
  some ((⟨0,0,0,0,[]⟩:Ef),72))
 (
  cond ((decide (p2<0))||(decide (1000<p2)))
  (
   some ((⟨0,0,0,0,[]⟩:Ef),120))
  (
   (Gw (⟨p0+1,p1,FN p2,p3.page,p3.tag⟩:Ef)).bind fun y1=>
   cond (!y1)
   (
    some ((⟨0,0,0,0,[]⟩:Ef),120))
   (
    some ((⟨p0+1,p1,FN p2,p3.page,p3.tag⟩:Ef),0))))
theorem Tp{p0:UInt64}{p1:UInt32}{p2:Int}{p3:Bb}{r:Ef×Int}(h:Le p0 p1 p2 p3=some r): zC K w0 106 [AV p0,Z p1,vI p2,.agg (B3 p3).toArray] [] H (fun u M=>u=.tuple #[.agg (HW r.1).toArray,vI r.2]∧M=[]):=by
 unfold Le at h
 refine T6.enter Tryz.func106 rfl rfl ?_
 refine Y ?_
 refine Ba E E zU fun b1=>?_
 refine Ar E LT zU fun b2=>?_
 refine U E (V (AH (Y (J E ?_))))
 refine AA E (MQ (b:=18446744073709551615)) ?_
 refine V ?_
 refine AP h E (fun hc1 h=>?_) fun hc1 h=>?_
 refine Y (Bt [] E UU UT LT zT E (A7 0 E E E E NG E E E zT (U E (V (AL (Ac ?_))))))
 obtain rfl:=zI h
 exact Al (Dz E (CC 0 (HW (⟨0,0,0,0,[]⟩:Ef)) Il E E E E) E) (Ak (M:=[]) ⟨E,E⟩ fun _ hw=>Bc.pick (H:=[_,_]) hw [] 2 E)
 refine AJ (AI (AH (Y (J E (AA E BD (J E ?_))))))
 refine E2 (c:=decide (1000<p2)) 17 3 20 E (fun hb k=>?_) (fun hb k=>?_) ?_
 refine AB E (AB E (Ag E E E ?_))
 exact k.mono tL
 refine J E (AA E Cm (Ag E E E ?_))
 exact k.mono tL
 refine V ?_
 refine AP h E (fun hc2 h=>?_) fun hc2 h=>?_
 refine Y (Bt [] E UU UT LT zT E (A7 0 E E E E NG E E E zT (U E (V (AL (Ac ?_))))))
 obtain rfl:=zI h
 exact Al (Dz E (CC 0 (HW (⟨0,0,0,0,[]⟩:Ef)) Il E E E E) E) (Ak (M:=[]) ⟨E,E⟩ fun _ hw=>Bc.pick (H:=[_,_]) hw [] 2 E)
 refine AJ (AI (Y (J E ?_)))
 refine AA E (Hp (b:=1)) ?_
 refine J E (J E (BM E E (QJ JQ CP) (Aw [Z p3.page,vS p3.tag] E C6 E E (An 1 E) (Bt [_,_,_,_] E UU UT LT ⟨E,E,E,E,zT⟩ E ?_))))
 refine Ar E LT zU fun b3=>?_
 refine A7 0 E E E E NG E E E zT (V (Y ?_))
 refine AE h fun y1 hy1 h=>?_
 refine Aw [AV (p0+1),Z p1,Z (FN p2),Z p3.page,vS p3.tag] E Il E E (An 0 E) (AM 0 gp ((SO hy1 :)) E (U E (V (AH (Y (J E (CW E E (V ?_))))))))
 refine AP h E (fun hc3 h=>?_) fun hc3 h=>?_
 refine Y (Bt [] E UU UT LT zT E (A7 1 E E E E NG E E E zT (U E (V (AL (Ac ?_))))))
 obtain rfl:=zI h
 exact Al (Dz E (CC 1 (HW (⟨0,0,0,0,[]⟩:Ef)) Il E E E E) E) (Ak (M:=[]) ⟨E,E⟩ fun _ hw=>Bc.pick (H:=[_,_,_]) hw [] 3 E)
 refine AJ (AI (Y (Aw [AV (p0+1),Z p1,Z (FN p2),Z p3.page,vS p3.tag] E Il E E (An 0 E) (A7 1 E E E E NG E E E zT (U E (V (AL ?_)))))))
 obtain rfl:=zI h
 exact Al (Dz E (CC 1 (HW (⟨p0+1,p1,FN p2,p3.page,p3.tag⟩:Ef)) Il E E E E) E) (Ak (M:=[]) ⟨E,E⟩ fun _ hw=>Bc.pick (H:=[_,_,_]) hw [] 3 E)
end

section
variable {K:Nat→Prop}{w0:World}{H:List AZ}
def bJ(l:List (List UInt8))(s:List UInt8):Option (List UInt8):=if s=[]∧2≤l.length∧l.length≤1000000∧0<l.flatten.length∧l.flatten.length≤1000000 then some l.flatten else none
theorem Q9{l:List (List UInt8)}{i:Nat}{x:List UInt8}(h:l[i]? = some x):(l.take (i+1)).flatten=(l.take i).flatten++x:=by
 obtain⟨hlt,hg⟩:=List.getElem?_eq_some_iff.1 h
 rw[←List.take_append_getElem hlt,hg]
 simp
theorem UM(l:List (List UInt8))(i:Nat):(l.take i).flatten.length≤l.flatten.length:=by
 have:l.flatten=(l.take i).flatten++(l.drop i).flatten:=by rw[←List.flatten_append,List.take_append_drop]
 rw[this,List.length_append]
 omega
theorem p9{v0:Value}{l:List (List UInt8)}{s r:List UInt8}(h:bJ l s=some r)(hs0:CG K w0 eS 1 v0 l):zC K w0 213 [v0,vS s] [] H (fun u M=>u=vS r∧M=[]):=by
 unfold bJ at h
 split at h
 rotate_left
 cases h
 rename_i hl
 obtain⟨rfl,h2,h3,h0,h4⟩:=hl
 obtain rfl:=zI h
 refine T6.enter Tryz.func213 rfl rfl ?_
 refine Y (U E (V (AH (Y (J E (CF hs0 E Eb E (V (AQ (Y (AA E BS (U E (V ?_))))))))))))
 refine A0 E (fun hc1=>absurd (of_decide_eq_true hc1) zO) (fun _=>?_)
 refine Y (AA E BS (U E (V ?_)))
 refine A0 E (fun hc1=>absurd (of_decide_eq_true hc1) zO) (fun _=>?_)
 refine AJ (Ay (AI (Y (U E (V (AH (Y (J E (Bz E Ce E (AA E Cm (V ?_)))))))))))
 refine A0 E (fun hc1=>absurd hc1 zD) (fun _=>?_)
 refine AJ (AI (AH (Y (J E (CF hs0 E Eb E (J E (V (AQ ?_))))))))
 refine SX.mono (BU (α:=Nat) (fun i=>i≤l.length) (fun i=>[(0,v0),(1,vS []),(4,vS []),(5,vI ((l.take i).flatten.length:Nat)),(39,v0),(40,vI (l.length:Int)),(41,vI i)]) (fun _=>H) (fun i=>l.length-i) (fun i D hp=>?_) 0 (Nat.zero_le _)) tL
 refine Y (AA E BD (V (AH ?_)))
 refine A0 E (fun hc1=>?_) (fun hc1=>?_)
 have hlt:i<l.length:=by
  have:=of_decide_eq_true hc1
  omega
 obtain⟨x,hx⟩:∃x,l[i]? = some x:=⟨_,List.getElem?_eq_getElem hlt⟩
 have hn:BN l (i:Int)=some x:=by rw[HO];exact hx
 have hf:=Q9 hx
 have hfl:=UM l (i+1)
 rw[hf,List.length_append]at hfl
 refine AJ (AI (AH (AQ (Y ?_))))
 refine DF hn hs0 E Eb HC E E fun be of hc=>?_
 refine B0 E GP E (Dd (j:=0) hc E) ?_
 refine U E (V (AH (Y (J E (Bz E Ce E (J E (AA E (D0 zO zO) (AA E Cm (V ?_)))))))))
 refine A0 E (fun hc1=>absurd (of_decide_eq_true hc1) zO) (fun _=>?_)
 refine AJ (AI (AS (J E (J E (Bz E Ce E (AA E (Bj zO zO) ?_))))))
 refine Aq (u:=vI ((l.take (i+1)).flatten.length:Nat)) E E (congrArg vI (by rw[hf,List.length_append];rfl)) ?_
 refine Aa (Ay (AI (AS (AA E (Bj zO zO) (J E (Aa ?_))))))
 exact A1 (i+1) zO zO tL (fun _ hw=>hw)
 have hi:i=l.length:=by
  have:=of_decide_eq_false hc1
  omega
 subst hi
 rw[List.take_length]
 refine A4 (A9 (Bi (BA (AI (Y ?_)))))
 refine Ar E Ys zU fun b0=>?_
 refine V (Y (J E (BY 1 lA (cm b0 _ _ (.inl E) h0 zO) E ?_)))
 rintro _ _ ⟨rfl,v1,rfl⟩
 refine V ?_
 have hn0:BN l 0=some (l[0]' zO):=by
  have:=HO (l:=l) (i:=0)
  rw[List.getElem?_eq_getElem zO]at this
  exact this
 have hf0:(l.take (0+1)).flatten=l[0]' zO:=by
  have:=Q9 (List.getElem?_eq_getElem (l:=l) (i:=0) zO)
  simpa using this
 have hfl0:=UM l (0+1)
 rw[hf0]at hfl0
 refine Y (J E ?_)
 refine DF hn0 hs0 E Eb HC E E fun be of hc=>?_
 refine B0 E GP E (Dd (j:=0) hc E) ?_
 refine BY 2 SV (Gi 136 b0 _ v1 0 [] _ (.inr E) RD zO) E ?_
 rintro _ _ ⟨rfl,v2,rfl⟩
 refine V ?_
 have hcut:LF l 1 (l.length:Int)=some (l.drop 1):=by
  unfold LF
  rw[if_pos zO]
  congr 1
  exact List.take_of_length_le zS
 refine AH (Y (J E ?_))
 refine cf hcut hs0 E Eb HC E E fun v3 hs3=>?_
 refine CF hs3 E Eb E (J E (V (AQ ?_)))
 refine SX.heap (SX.mono (BU (α:=Nat×Value) (fun x=>x.1+1≤l.length) (fun x=>[(1,vS []),(4,vS []),(8,vP b0 0),(63,v3),(64,vI ((l.drop 1).length:Int)),(65,vI x.1)])
  (fun x=>AK b0 (.cells #[vP b0 0,x.2] 136)::DP 5 1 x.2 (l.take (x.1+1)).flatten.length ((l.take (x.1+1)).flatten.map fun b=>EE b)::H) (fun x=>l.length-x.1) (fun x D hp=>?_) (0,v2) (by dsimp only;omega)) tL) (fun _ hw=>by
   dsimp only
   rw[hf0]
   simpa using hw)
 obtain⟨i,v⟩:=x
 dsimp only at hp ⊢
 refine Y (AA E BD (V (AH ?_)))
 refine A0 E (fun hc1=>?_) (fun hc1=>?_)
 have hlt:i+1<l.length:=by
  have:=of_decide_eq_true hc1
  rw[List.length_drop]at this
  omega
 obtain⟨x,hx⟩:∃x,l[i+1]? = some x:=⟨_,List.getElem?_eq_getElem hlt⟩
 have hn:BN (l.drop 1) (i:Int)=some x:=by rw[HO,List.getElem?_drop,Nat.add_comm];exact hx
 have hf:=Q9 hx
 have hfl:=UM l (i+1+1)
 rw[hf,List.length_append]at hfl
 refine AJ (AI (AH (AQ (Y ?_))))
 refine DF hn hs3 E Eb HC E E fun be of hc=>?_
 refine B0 E GP E (Dd (j:=0) hc E) ?_
 refine U E (V (Y (J E (BY 2 SV (Gi 136 b0 _ v _ _ [] (.inr E) RD (by simp only[List.length_nil];omega)) E ?_))))
 rintro _ _ ⟨rfl,v4,rfl⟩
 refine V (AS (J E (BY 2 SV (Gi 136 b0 _ v4 _ _ x (.inr E) RD (by simp only[List.length_nil];omega)) E ?_)))
 rintro _ _ ⟨rfl,v5,rfl⟩
 refine Aa (Ay (AI (AS (AA E (Bj zO zO) (J E (Aa ?_))))))
 exact A1 (i+1,v5) (by dsimp only;omega) (by dsimp only;omega) tL (fun _ hw=>by
  dsimp only
  rw[hf]
  simpa using hw)
 have hi:i+1=l.length:=by
  have:=of_decide_eq_false hc1
  rw[List.length_drop]at this
  omega
 rw[hi,List.take_length]
 refine A4 (A9 (Bi (BA (AI (Y (AM 2 P2 (JT 136 b0 _ v _ l.flatten zO) E (U E (V (AL ?_)))))))))
 exact Al (Cn E E) (Ak (M:=[]) ⟨E,E⟩ fun _ h=>h.skip [_,_])
end

section
variable {K:Nat→Prop}{w0:World}{H:List AZ}
def VQ(l:List BV):Option (List BV):=DO 24 [] l
theorem j0{v:Value}{l r:List BV}(h:VQ l=some r)(hs:CG K w0 AY 2 v l):zC K w0 65 [v] [] H (fun u M=>∃v0:Value,u=v0∧M=[AC 114 2 v0 AY r]):=by
 unfold VQ at h
 have hn:(v=.slice none 0 0∧l=[])∨∃a n c,v=.slice (some a) n c:=by
  rcases hs.at_ with⟨a,rfl,e⟩ | ⟨b,off,cap,rfl,_⟩
  cases a with
  | none=>exact .inl ⟨rfl,e⟩
  | some a=>exact .inr ⟨_,_,_,rfl⟩
  exact .inr ⟨_,_,_,rfl⟩
 refine T6.enter Tryz.func65 rfl rfl ?_
 refine Y (U E (V ?_))
 rcases hn with⟨rfl,rfl⟩ | ⟨a,n,c,rfl⟩
 refine AH (Y (J E (Uk E GV E E (V (NW E (Y (U E (V (AL (Ac (Ou 114 2 AY ?_)))))))))))
 obtain rfl:r=[]:=by
  rw[DO,if_pos zS]at h
  simpa using h.symm
 exact Bp [0] 1 (Cn E E) E E ⟨_,E,E⟩
 refine AH (Y (J E (Uk E GV E E (V (Cz E (AJ (AI (Y ?_))))))))
 refine XM E GV E4 zU fun b1=>?_
 refine CJ AY 2 ([]:List BV) E zV E ?_
 refine J E ?_
 refine Rv 0 h hs (sz:=2) (enc:=AY) zV E GV E4 ee Jk E zD E E E (by simp[AY,Value.oneCell']) zU fun v1=>?_
 refine U E (V (AL ?_))
 exact Bp [0] 1 (Cn E E) E E ⟨_,E,E⟩
def VZ(l:List BV):Option Bool:=if l.length≤1099511627776 then some (DV l)else none
theorem j5{v:Value}{l:List BV}{r:Bool}(h:VZ l=some r)(hk:CG K w0 AY 2 v l):zC K w0 62 [v] [] H (fun u M=>u=vB r∧M=[]):=by
 unfold VZ at h
 split at h
 rename_i hl
 obtain rfl:=zI h
 exact P1 v l hk hk.cells1 hl
 cases h
end

section
variable {K:Nat→Prop}{w0:World}{H:List AZ}
def II(p0:List BV):Option (UInt32×Int):=
 (VZ p0).bind fun y1=>
 ret (!y1) fun x1=>
 cond x1
 (
  some (0,40))
 (
  ret (decide ((p0.length:Int)=0)) fun x2=>
  cond x2
  (
   some (0,41))
  (
   (BN p0 (wI ((p0.length:Int)-1))).bind fun x3=>
   some (x3.gen,0)))
theorem SG{DJ:Value}{p0:List BV}{r:UInt32×Int}(h:II p0=some r)(hs0_:CG K w0 AY 2 DJ p0):zC K w0 42 [DJ] [] H (fun u M=>u=.tuple #[Z r.1,vI r.2]∧M=[]):=by
 unfold II at h
 refine T6.enter Tryz.func42 rfl rfl ?_
 refine Y (U E (U E (V (AH (AQ (Y ?_))))))
 refine AE h fun y1 hy1 h=>?_
 obtain⟨x1,ex1,h⟩:=By h
 refine J E (AM 0 fA (j5 hy1 hs0_) E (CW E E ?_))
 refine Aq (u:=vB x1) E E (congrArg vB ex1) ?_
 refine V ?_
 refine AP h E (fun hc1 h=>?_) fun hc1 h=>?_
 refine Y (U E (U E (V (AL (BC (Ac ?_))))))
 obtain rfl:=zI h
 exact AW [] 0 E E E
 refine Y ?_
 obtain⟨x2,ex2,h⟩:=By h
 refine J E (CF hs0_ E GV E (AA E BS ?_))
 refine Aq (u:=vB x2) E E (congrArg vB ex2) ?_
 refine V ?_
 refine AP h E (fun hc2 h=>?_) fun hc2 h=>?_
 refine Y (U E (U E (V (AL (BC (Ac ?_))))))
 obtain rfl:=zI h
 exact AW [] 0 E E E
 refine AJ (Ay (AI (Y ?_)))
 refine AE h fun x3 hx3 h=>?_
 refine J E (J E (CF hs0_ E GV E (AA E Dn ?_)))
 refine DF hx3 hs0_ E GV E4 E E fun be1 of1 hc3=>?_
 refine AF E FV ?_
 refine B0 E A6 E (Dd (j:=0) hc3 E) ?_
 refine U E (U E (V (AL ?_)))
 obtain rfl:=zI h
 exact AW [] 0 E E E
def Ja(p0:Ef):Option Bool:=
 (Fk (((decide (0<p0.cnt))&&(decide (0<p0.gen)))&&(decide (p0.rows≤1000))) ((Dq (⟨p0.page,p0.tag⟩:Bb)).bind fun y1=>some (y1))).bind fun y2=>
 some y2
theorem Tq{p0:Ef}{r:Bool}(h:Ja p0=some r): zC K w0 134 [.agg (HW p0).toArray] [] H (fun u M=>u=vB r∧M=[]):=by
 unfold Ja at h
 refine T6.enter Tryz.func134 rfl rfl ?_
 refine Y ?_
 refine Ba E E zU fun b1=>?_
 refine U E (V (Y ?_))
 refine AE h fun y2 hy2 h=>?_
 refine AF E Li (AG 0 FX E ?_)
 refine AA E (NS (b:=0)) ?_
 refine J E ?_
 refine Cb (c:=decide (0<p0.gen)) 6 4 10 E (fun hb k=>?_) (fun hb k=>?_) ?_
 refine AF E VJ (AG 0 A6 E ?_)
 refine AA E (S5 (b:=0)) ?_
 refine Ag E E E ?_
 exact k.mono tL
 refine AB E (AB E (AB E (Ag E E E ?_)))
 exact k.mono tL
 refine J E ?_
 refine Cb (c:=decide (p0.rows≤1000)) 11 4 15 E (fun hb k=>?_) (fun hb k=>?_) ?_
 refine AF E VK (AG 0 A6 E ?_)
 refine AA E (NT (b:=1000)) ?_
 refine Ag E E E ?_
 exact k.mono tL
 refine AB E (AB E (AB E (Ag E E E ?_)))
 exact k.mono tL
 refine J E ?_
 refine DT 16 4 20 hy2 E (fun hb hg3 k=>?_) (fun hb k=>?_) ?_
 obtain⟨y1,hy1,hg3⟩:=D6 hg3
 obtain rfl:=zI hg3
 refine AF rfl Qa (Aw [Z p0.page,vS p0.tag] rfl C6 rfl rfl (Ck 0 rfl (by rintro(_ | (_ | j)) u hj<;>first | exact hj | exact absurd hj zS)) (AM 0 aZ ((Nb hy1 :)) rfl (Ag rfl rfl rfl ?_)))
 exact k.mono tL
 refine AB E (AB E (AB E (Ag E E E ?_)))
 exact k.mono tL
 refine U E (V (AL ?_))
 obtain rfl:=zI h
 exact AW [] 1 E E E
def Nj(l1:List UInt8):Option (List UInt8):=
 some l1
def MM(p0:UInt64)(p1:Int)(nx_f_root_bytes_l1:List UInt8×Int→Option (List UInt8))(l2:List UInt8)(a1:Int):Option (List UInt8):=
 cond (decide (a1<p1))
 (
  (Qg (wI (8*a1))).bind fun n1=>
  (DO 1 l2 [(shr64 p0 n1).toUInt8]).bind fun l3=>
  nx_f_root_bytes_l1 (l3,wI (a1+1)))
 (
  Nj l2)
def Nk(p0:UInt64)(p1:Int):Nat→(List UInt8×Int)→Option (List UInt8):=CO fun nx x=>MM p0 p1 nx x.1 x.2
def GS(n:Nat)(p0:UInt64)(p1:Int):Option (List UInt8):=
 Nk p0 p1 n ([],0)
theorem Nt{n:Nat}{p0:UInt64}{p1:Int}{r:List UInt8}(h:GS n p0 p1=some r): zC K w0 171 [AV p0,vI p1] [] H (fun u M=>u=vS r∧M=[]):=by
 unfold GS at h
 refine T6.enter Tryz.func171 rfl rfl ?_
 refine Y (U E (V (Y (B5 5 1 FS (U E (V ?_))))))
 refine BB (α:=List UInt8×Value) (fun x=>Nj x.1=some r) (fun x=>[(5,x.2)]) (fun x=>AC 5 1 x.2 FS x.1::H) ?_ (fun x D h=>?_)
 refine Y (J E (J E (V (AQ ?_))))
 refine SX.heap (SX.mono (BU (α:=Nat×List UInt8×Value×Int) (fun x=>Nk p0 p1 x.1 (x.2.1,x.2.2.2)=some r) (fun x=>[(0,AV p0),(5,x.2.2.1),(7,vI p1),(8,vI x.2.2.2)]) (fun x=>AC 5 1 x.2.2.1 FS x.2.1::H) (fun x=>x.1) (fun x D h=>?_) (n,[],zN,0) h) tL) (BX [0] 1 E E E)
 obtain⟨m1,l2,v2,a1⟩:=x
 dsimp only at h
 rcases m1 with _ | m1
 cases (show(none:Option _)=some r from h)
 replace h:MM p0 p1 (Nk p0 p1 m1) l2 a1=some r:=h
 unfold MM at h
 try dsimp only
 refine Y (AA E BD (V (AH ?_)))
 refine AP h E (fun hc1 h=>?_) fun hc1 h=>?_
 refine AJ (AI (AH (AQ (Y (J E (U E (V (AS ?_))))))))
 refine AE h fun n1 hn1 h=>?_
 refine AE h fun l3 hl3 h=>?_
 refine J E (J E (J E (AA E MR (AA E (cQ hn1) (BM E E (FD DL DG) ?_)))))
 refine CE [_] rfl Ca Ji Kh ⟨rfl,trivial⟩ rfl rfl rfl zW rfl rfl zU fun b1=>?_
 refine CJ FS 1 ([(shr64 p0 n1).toUInt8]:List UInt8) E zV E ?_
 refine Cr 1 hl3 (sz:=1) (enc:=FS) zV E Ca Ji Vl Kh E zD E E E E (CM (sz:=1) (enc:=FS) 0 zV E) (by simp[FS,Value.oneCell']) zU fun v3=>?_
 refine U E (Aa (Ay (AI (AS (AA E Bu (J E (Aa ?_)))))))
 exact A1 (m1,l3,v3,wI (a1+1)) h (Nat.lt_succ_self _) tL (BX [1] 2 E E E)
 refine A4 (A9 (Bi (BA ?_)))
 exact Az (l2,v2) h tL (BX [0] 1 E E E)
 obtain⟨l1,v1⟩:=x
 dsimp only at h
 unfold Nj at h
 try dsimp only
 refine Y (J E (Ge 0 E Ca DG Ce E E (U E (V (AL ?_)))))
 obtain rfl:=zI h
 exact AW [] 1 E E E
def Oc(p0:List (List UInt8)):Option (List UInt8):=
 (bJ p0 []).bind fun y1=>
 some y1
theorem aN{DJ:Value}{p0:List (List UInt8)}{r:List UInt8}(h:Oc p0=some r)(hs0_:CG K w0 eS 1 DJ p0):zC K w0 170 [DJ] [] H (fun u M=>u=vS r∧M=[]):=by
 unfold Oc at h
 refine T6.enter Tryz.func170 rfl rfl ?_
 refine Y (U E (V (Y ?_)))
 refine AE h fun y1 hy1 h=>?_
 refine J E (AM 0 ol (p9 hy1 hs0_) E (U E (V (AL ?_))))
 obtain rfl:=zI h
 exact AW [] 0 E E E
def M9(n:Nat)(p0:Ef):Option (List UInt8):=
 (GS n p0.cnt 8).bind fun y1=>
 (GS n p0.gen.toUInt64 4).bind fun y2=>
 (GS n p0.rows.toUInt64 4).bind fun y3=>
 (GS n p0.page.toUInt64 4).bind fun y4=>
 (Oc [[115,112,104,114],y1,y2,y3,y4,p0.tag]).bind fun y5=>
 some y5
theorem aO{n:Nat}{p0:Ef}{r:List UInt8}(h:M9 n p0=some r): zC K w0 135 [.agg (HW p0).toArray] [] H (fun u M=>u=vS r∧M=[]):=by
 unfold M9 at h
 refine T6.enter Tryz.func135 rfl rfl ?_
 refine Y ?_
 refine Ba E E zU fun b1=>?_
 refine U E (V (AH ?_))
 refine AE h fun y1 hy1 h=>?_
 refine AE h fun y2 hy2 h=>?_
 refine AE h fun y3 hy3 h=>?_
 refine AE h fun y4 hy4 h=>?_
 refine AE h fun y5 hy5 h=>?_
 refine A2 DE [0] (CK [(true,0),(true,1),(true,3),(true,4),(true,5),(true,7),(true,8),(true,9),(true,11),(true,12),(true,13),(true,14),(true,16),(true,17),(true,18),(false,2),(false,6),(false,10),(false,15)] (.last 19 (C3 [(false,20),(false,21)]))) zK (AF E Li (AG 0 FX E (AF E VJ (AG 0 A6 E (BM E E (Co CP DL) (AF E VK (AG 0 A6 E ?_)))))))
 refine BM E E (Co CP DL) (AF E Qa (AF E FW (AG 0 A6 E (BM E E (Co CP DL) (AF E Qa (AF E NB (AG 0 GP E ?_)))))))
 refine Bf 0 W8 (Nt hy1) E ⟨⟨0,E⟩,zT⟩ (Bf 0 W8 (Nt hy2) E ⟨⟨0,E⟩,zT⟩ (Bf 0 W8 (Nt hy3) E ⟨⟨0,E⟩,zT⟩ (Bf 0 W8 (Nt hy4) E ⟨⟨0,E⟩,zT⟩ (Bk ?_))))
 refine CE [_,_,_,_,_,_] rfl Eb HC TZ ⟨rfl,rfl,rfl,rfl,rfl,rfl,trivial⟩ rfl rfl rfl (by first | (simp[Value.cells];done) | (intro v hv;simp only[List.mem_cons,List.not_mem_nil,or_false]at hv;rcases hv with rfl | rfl | rfl | rfl | rfl | rfl<;>rfl)) rfl rfl zU fun b2=>?_
 refine CJ eS 1 ([[115,112,104,114],y1,y2,y3,y4,p0.tag]:List (List UInt8)) E zV E ?_
 refine Bo (vs:=[_]) (Hin:=[_]) (Hr:=_::_) E E ⟨E,zT⟩ oM E E (Cl (B:=[_]) (Hin:=[]) fun K' w1 hk hB=>aN hy5 (CY (e:=9) (v:=.slice (some ⟨b2,0,none⟩) 6 6) zV (hB _ zS))) ?_
 rintro _ _ ⟨_,rfl,rfl,rfl⟩
 refine⟨trivial,?_⟩
 refine U E (V (AL ?_))
 obtain rfl:=zI h
 exact AW [] 2 E E E
def KP(n:Nat)(p0:Ef):Option (List UInt8×Int):=
 (Ja p0).bind fun y1=>
 cond (!y1)
 (
  some ([],120))
 (
  (M9 n p0).bind fun y2=>
  some (y2,0))
theorem O2{n:Nat}{p0:Ef}{r:List UInt8×Int}(h:KP n p0=some r): zC K w0 98 [.agg (HW p0).toArray] [] H (fun u M=>u=.tuple #[vS r.1,vI r.2]∧M=[]):=by
 unfold KP at h
 refine T6.enter Tryz.func98 rfl rfl ?_
 refine Y ?_
 refine Ba E E zU fun b1=>?_
 refine U E (U E (V (AH (Y ?_))))
 refine AE h fun y1 hy1 h=>?_
 refine Aw [AV p0.cnt,Z p0.gen,Z p0.rows,Z p0.page,vS p0.tag] E Il E E (An 0 E) (AM 0 gm ((Tq hy1 :)) E (CW E E (V ?_)))
 refine AP h E (fun hc1 h=>?_) fun hc1 h=>?_
 refine Y (U E (U E (V (AL (Ac ?_)))))
 obtain rfl:=zI h
 exact AW [] 1 E E E
 refine AJ (AI (Y ?_))
 refine AE h fun y2 hy2 h=>?_
 refine Aw [AV p0.cnt,Z p0.gen,Z p0.rows,Z p0.page,vS p0.tag] E Il E E (An 0 E) (AM 0 nw ((aO hy2 :)) E (U E (U E (V (AL ?_)))))
 obtain rfl:=zI h
 exact AW [] 1 E E E
def Ob(p0:UInt64):Option UInt32:=
 ret ((p0 &&& 1).toUInt32) fun x1=>
 some x1
theorem Qy{p0:UInt64}{r:UInt32}(h:Ob p0=some r): zC K w0 100 [AV p0] [] H (fun u M=>u=Z r∧M=[]):=by
 unfold Ob at h
 refine T6.enter Tryz.func100 rfl rfl ?_
 refine Y (U E (V (Y ?_)))
 obtain⟨x1,ex1,h⟩:=By h
 refine J E ?_
 refine AA E (Or (b:=1)) ?_
 refine BM E E (NU DL CP) ?_
 refine Aq (u:=Z x1) E E (congrArg Z ex1) ?_
 refine V (AL ?_)
 obtain rfl:=zI h
 exact AW [] 0 E E E
def M8(p0:UInt64)(p1:UInt32)(p2:Int)(p3:Bb):Option (Ef×Int):=
 ret (decide (p0+1=0)) fun x1=>
 cond x1
 (
  some ((⟨0,0,0,0,[]⟩:Ef),72))
 (
  (V0 ((decide (p2<0))||(decide (1000<p2))) ((Ja (⟨p0+1,p1,FN p2,p3.page,p3.tag⟩:Ef)).bind fun y1=>some (!y1))).bind fun y2=>
  cond y2
  (
   some ((⟨0,0,0,0,[]⟩:Ef),120))
  (
   some ((⟨p0+1,p1,FN p2,p3.page,p3.tag⟩:Ef),0)))
theorem Qx{p0:UInt64}{p1:UInt32}{p2:Int}{p3:Bb}{r:Ef×Int}(h:M8 p0 p1 p2 p3=some r): zC K w0 97 [AV p0,Z p1,vI p2,.agg (B3 p3).toArray] [] H (fun u M=>u=.tuple #[.agg (HW r.1).toArray,vI r.2]∧M=[]):=by
 unfold M8 at h
 refine T6.enter Tryz.func97 rfl rfl ?_
 refine Y ?_
 refine Ba E E zU fun b1=>?_
 refine Ar E LT zU fun b2=>?_
 refine U E (V (Y (J E ?_)))
 refine AA E (Hp (b:=1)) ?_
 refine J E (J E (BM E E (QJ JQ CP) (Aw [Z p3.page,vS p3.tag] E C6 E E (An 1 E) (Bt [_,_,_,_] E UU UT LT ⟨E,E,E,E,zT⟩ E ?_))))
 refine Ar E LT zU fun b3=>?_
 refine A7 0 E E E E NG E E E zT (V (AH (AQ (Y ?_))))
 obtain⟨x1,ex1,h⟩:=By h
 refine AF E Li (AG 0 FX E ?_)
 refine AA E (MQ (b:=0)) ?_
 refine Aq (u:=vB x1) E E (congrArg vB ex1) ?_
 refine V ?_
 refine AP h E (fun hc1 h=>?_) fun hc1 h=>?_
 refine Y (Bt [] E UU UT LT zT E (A7 1 E E E E NG E E E zT (U E (V (AL (BC (Ac ?_)))))))
 obtain rfl:=zI h
 exact Al (Dz E (CC 1 (HW (⟨0,0,0,0,[]⟩:Ef)) Il E E E E) E) (Ak (M:=[]) ⟨E,E⟩ fun _ hw=>Bc.pick (H:=[_,_,_]) hw [] 3 E)
 refine Y ?_
 refine AE h fun y2 hy2 h=>?_
 refine J E (AA E BD (J E ?_))
 refine E2 (c:=decide (1000<p2)) 26 3 29 E (fun hb k=>?_) (fun hb k=>?_) ?_
 refine AB E (AB E (Ag E E E ?_))
 exact k.mono tL
 refine J E (AA E Cm (Ag E E E ?_))
 exact k.mono tL
 refine J E ?_
 refine Pe 30 4 34 hy2 E (fun hb k=>?_) (fun hb hg2 k=>?_) ?_
 refine AB E (AB E (AB E (Ag E E E ?_)))
 exact k.mono tL
 obtain⟨y1,hy1,hg2⟩:=D6 hg2
 obtain rfl:=zI hg2
 refine Aw [AV (p0+1),Z p1,Z (FN p2),Z p3.page,vS p3.tag] E Il E E (An 0 E) (AM 0 gm ((Tq hy1 :)) E (CW E E (Ag E E E ?_)))
 exact k.mono tL
 refine U E (V ?_)
 refine AP h E (fun hc2 h=>?_) fun hc2 h=>?_
 refine Y (Bt [] E UU UT LT zT E (A7 1 E E E E NG E E E zT (U E (V (AL (BC (Ac ?_)))))))
 obtain rfl:=zI h
 exact Al (Dz E (CC 1 (HW (⟨0,0,0,0,[]⟩:Ef)) Il E E E E) E) (Ak (M:=[]) ⟨E,E⟩ fun _ hw=>Bc.pick (H:=[_,_,_]) hw [] 3 E)
 refine AJ (Ay (AI (Y (Aw [AV (p0+1),Z p1,Z (FN p2),Z p3.page,vS p3.tag] E Il E E (An 0 E) (A7 1 E E E E NG E E E zT (U E (V (AL ?_))))))))
 obtain rfl:=zI h
 exact Al (Dz E (CC 1 (HW (⟨p0+1,p1,FN p2,p3.page,p3.tag⟩:Ef)) Il E E E E) E) (Ak (M:=[]) ⟨E,E⟩ fun _ hw=>Bc.pick (H:=[_,_,_]) hw [] 3 E)
end

section
variable {K:Nat→Prop}{w0:World}{H:List AZ}
def Kz(p0:As)(p1:UInt64):Option Int:=
 (Jf p0.id p1).bind fun y1=>
 some y1
theorem QS{p0:As}{p1:UInt64}{r:Int}(h:Kz p0 p1=some r): zC K w0 116 [.agg (AX p0).toArray,AV p1] [] H (fun u M=>u=vI r∧M=[]):=by
 unfold Kz at h
 refine T6.enter Tryz.func116 rfl rfl ?_
 refine Y ?_
 refine Ba E E zU fun b1=>?_
 refine U E (V (Y ?_))
 refine AE h fun y1 hy1 h=>?_
 refine AF E Jz (AG 0 FX E (J E (AM 0 nm (Rk hy1) E (U E (V (AL ?_))))))
 obtain rfl:=zI h
 exact AW [] 1 E E E
def C7(p0:List As)(p1:UInt64)(a1:Int):Option (Int×Bool):=
 (Fk (decide (a1<(p0.length:Int))) ((BN p0 a1).bind fun x3=>(Kz x3 p1).bind fun y2=>some (decide (y2=0)))).bind fun y3=>
 some (a1,y3)
def C1(p0:List As)(p1:UInt64)(nx_f_slices_BinarySearchFunc_api_Row_api_Row_uint64_l1:Int×Int→Option (Int×Bool))(a2:Int)(a3:Int):Option (Int×Bool):=
 cond (decide (a2<a3))
 (
  ret (wI ((shr64 (Cq (wI (a2+a3))) 1).toNat:Int)) fun x1=>
  (BN p0 x1).bind fun x2=>
  (Kz x2 p1).bind fun y1=>
  cond (decide (y1<0))
  (
   ret (wI (x1+1)) fun i_1=>
   nx_f_slices_BinarySearchFunc_api_Row_api_Row_uint64_l1 (i_1,a3))
  (
   nx_f_slices_BinarySearchFunc_api_Row_api_Row_uint64_l1 (a2,x1)))
 (
  C7 p0 p1 a2)
def C8(p0:List As)(p1:UInt64):Nat→(Int×Int)→Option (Int×Bool):=CO fun nx x=>C1 p0 p1 nx x.1 x.2
def DI(n:Nat)(p0:List As)(p1:UInt64):Option (Int×Bool):=
 C8 p0 p1 n (0,(p0.length:Int))
theorem HB{n:Nat}{DJ:Value}{p0:List As}{p1:UInt64}{r:Int×Bool}(h:DI n p0 p1=some r)(hs0_:CG K w0 AX 4 DJ p0):zC K w0 115 [DJ,AV p1,.func (.func 116) #[] #[]] [] H (fun u M=>u=.tuple #[vI r.1,vB r.2]∧M=[]):=by
 unfold DI at h
 refine T6.enter Tryz.func115 rfl rfl ?_
 refine Y (U E (U E (V (Y (J E (CF hs0_ E C4 E (U E (V (Y (J E (U E (U E (V ?_)))))))))))))
 refine BB (α:=Int) (fun x=>C7 p0 p1 x=some r) (fun x=>[(0,DJ),(1,AV p1),(2,.func (.func 116) #[] #[]),(8,vI (p0.length:Int)),(9,vI x)]) (fun x=>H) ?_ (fun a1 D h=>?_)
 refine AQ ?_
 refine SX.heap (SX.mono (BU (α:=Nat×Int×Int) (fun x=>C8 p0 p1 x.1 (x.2.1,x.2.2)=some r) (fun x=>[(0,DJ),(1,AV p1),(2,.func (.func 116) #[] #[]),(8,vI (p0.length:Int)),(9,vI x.2.1),(10,vI x.2.2)]) (fun x=>H) (fun x=>x.1) (fun x D h=>?_) (n,0,(p0.length:Int)) h) tL) (BX [] 0 E E E)
 obtain⟨m1,a2,a3⟩:=x
 dsimp only at h
 rcases m1 with _ | m1
 cases (show(none:Option _)=some r from h)
 replace h:C1 p0 p1 (C8 p0 p1 m1) a2 a3=some r:=h
 unfold C1 at h
 try dsimp only
 refine AH (Y (J E (J E (AA E BD (V ?_)))))
 refine AP h E (fun hc1 h=>?_) fun hc1 h=>?_
 refine AJ (AI (AQ (Y ?_)))
 obtain⟨x1,ex1,h⟩:=By h
 refine J E (J E (AA E Bu (BM E E (Et JQ PV) ?_)))
 refine AA E (FQ.shr64 (n:=1)) ?_
 refine BM E E (nF PV JQ) ?_
 refine Aq (u:=vI x1) E E (congrArg vI ex1) ?_
 refine V (Y ?_)
 refine AE h fun x2 hx2 h=>?_
 refine AE h fun y1 hy1 h=>?_
 refine J E (J E (J E ?_))
 refine DF hx2 hs0_ E C4 DZ E E fun be1 of1 hc2=>?_
 refine Aw (AX x2) E Fw E E (Da hc2) (J E (AM 0 gi ((QS hy1 :)) E (AA E BD (V ?_))))
 refine AP h E (fun hc3 h=>?_) fun hc3 h=>?_
 refine AS ?_
 obtain⟨i_1,ei_1,h⟩:=By h
 refine J E (AA E Bu ?_)
 refine Aq (u:=vI i_1) E E (congrArg vI ei_1) ?_
 refine Aa (Ay ?_)
 exact A1 (m1,i_1,a3) h (Nat.lt_succ_self _) tL (BX [] 0 E E E)
 refine AS (J E (U E (Aa (Ay ?_))))
 exact A1 (m1,a2,x1) h (Nat.lt_succ_self _) tL (BX [] 0 E E E)
 refine A4 (A9 (Bi (BA ?_)))
 exact Az a2 h tL (BX [] 0 E E E)
 unfold C7 at h
 try dsimp only
 refine Y ?_
 refine AE h fun y3 hy3 h=>?_
 refine J E (J E (J E (AA E BD (J E ?_))))
 refine DT 39 9 48 hy3 E (fun hb hg1 k=>?_) (fun hb k=>?_) ?_
 obtain⟨x3,hx3,hg1⟩:=D6 hg1
 obtain⟨y2,hy2,hg1⟩:=D6 hg1
 obtain rfl:=zI hg1
 refine J E (J E (J E ?_))
 refine DF hx3 hs0_ E C4 DZ E E fun be2 of2 hc4=>?_
 refine Aw (AX x3) E Fw E E (Da hc4) (J E (AM 0 gi ((QS hy2 :)) E (AA E BS (Ag E E E ?_))))
 exact k.mono tL
 refine AB E (AB E (AB E (AB E (AB E (AB E (AB E (AB E ?_)))))))
 refine Ag E E E ?_
 exact k.mono tL
 refine U E (U E (V (AL ?_)))
 obtain rfl:=zI h
 exact AW [] 0 E E E
def Mq(n:Nat)(p0:List As)(p1:UInt64):Option (Int×Bool):=
 (DI n p0 p1).bind fun y1=>
 some (y1.1,y1.2)
theorem SH{n:Nat}{DJ:Value}{p0:List As}{p1:UInt64}{r:Int×Bool}(h:Mq n p0 p1=some r)(hs0_:CG K w0 AX 4 DJ p0):zC K w0 79 [DJ,AV p1] [] H (fun u M=>u=.tuple #[vI r.1,vB r.2]∧M=[]):=by
 unfold Mq at h
 refine T6.enter Tryz.func79 rfl rfl ?_
 refine Y (U E (U E (V (Y ?_))))
 refine AE h fun y1 hy1 h=>?_
 refine J E (J E (AM 0 nl (HB hy1 hs0_) E (Af E E E (Af E E E (U E (U E (V (AL ?_))))))))
 obtain rfl:=zI h
 exact AW [] 0 E E E
def Jp(p0:Ht)(y1:List UInt8):Option Int:=
 (GW (⟨p0.id,p0.x,p0.y,y1⟩:As)).bind fun y2=>
 cond (!y2)
 (
  some 80)
 (
  some 0)
def O7(p0:Ht):Option Int:=
 ret (decide (p0.kind=3)) fun x1=>
 cond x1
 (
  some 0)
 (
  ret (decide (p0.kind=2)) fun x2=>
  cond x2
  (
   Jp p0 [])
  (
   ret (decide (p0.kind=1)) fun x3=>
   cond x3
   (
    Jp p0 p0.txt)
   (
    some 2)))
theorem Xh{p0:Ht}{r:Int}(h:O7 p0=some r): zC K w0 112 [.agg (Bm p0).toArray] [] H (fun u M=>u=vI r∧M=[]):=by
 unfold O7 at h
 refine T6.enter Tryz.func112 rfl rfl ?_
 refine Y ?_
 refine Ba E E zU fun b1=>?_
 refine U rfl (V (Y (AF rfl bB (Aw [AV p0.id,Z p0.x,Z p0.y,vS p0.txt] rfl Fw rfl rfl (Ck 0 rfl (by rintro(_ | (_ | (_ | (_ | j)))) u hj<;>first | exact hj | exact absurd hj zS)) ?_))))
 refine Ar E FL zU fun b2=>?_
 refine A7 0 E E E E DZ E E E zT (V (AH (Y (AF E XF (AG 1 FI E (V (AQ ?_)))))))
 refine BB (α:=List UInt8) (fun x=>Jp p0 x=some r) (fun x=>[(3,vP b2 0)]) (fun x=>AK b2 (.cells #[AV p0.id,Z p0.x,Z p0.y,vS x] 35)::H) ?_ (fun y1 D h=>?_)
 refine AQ (AH (AQ (AH (AQ (AH (AH (Y ?_)))))))
 obtain⟨x1,ex1,h⟩:=By h
 refine AA E BS ?_
 refine Aq (u:=vB x1) E E (congrArg vB ex1) ?_
 refine V ?_
 refine AP h E (fun hc1 h=>?_) fun hc1 h=>?_
 refine A4 (A9 (A9 (BA (AI (AH (Y (U E (V (AL (Ac (BC (Ac (BC (HK (BC (Ac ?_))))))))))))))))
 obtain rfl:=zI h
 exact AW [] 2 E E E
 refine AJ (AI (AH (Y ?_)))
 obtain⟨x2,ex2,h⟩:=By h
 refine AA E BS ?_
 refine Aq (u:=vB x2) E E (congrArg vB ex2) ?_
 refine V ?_
 refine AP h E (fun hc2 h=>?_) fun hc2 h=>?_
 refine A4 (A9 (A9 (HR (A9 (BA (AI (AS (AF E Od (A7 0 E E E E HC E E E zT (Aa (Ay ?_)))))))))))
 exact Az [] h tL (BX [0] 2 E E E)
 refine AJ (AI (Y ?_))
 obtain⟨x3,ex3,h⟩:=By h
 refine AA E BS ?_
 refine Aq (u:=vB x3) E E (congrArg vB ex3) ?_
 refine V ?_
 refine AP h E (fun hc3 h=>?_) fun hc3 h=>?_
 refine A4 (A9 (HR (A9 (HR (A9 (BA ?_))))))
 exact Az p0.txt h tL (BX [0] 2 E E E)
 refine AJ (AI (A4 (HR (A9 (HR (A9 (HR (i6 (BA (AI (Y (U E (V (AL ?_))))))))))))))
 obtain rfl:=zI h
 exact AW [] 2 E E E
 unfold Jp at h
 try dsimp only
 refine AH (AH (Y ?_))
 refine AE h fun y2 hy2 h=>?_
 refine Aw [AV p0.id,Z p0.x,Z p0.y,vS y1] E Fw E E (An 0 E) (AM 0 gh ((QT hy2 :)) E (CW E E (V ?_)))
 refine AP h E (fun hc4 h=>?_) fun hc4 h=>?_
 refine Y (U E (V (AL (Ac (Ac (BC (Ac ?_)))))))
 obtain rfl:=zI h
 exact AW [] 1 E E E
 refine AJ (AI (Y (U E (V (AL (Ac (BC (Ac ?_))))))))
 obtain rfl:=zI h
 exact AW [] 1 E E E
def Jo(p0:List As)(a1:Int)(l2:List As):Option (List As×Int):=
 (LF p0 a1 (p0.length:Int)).bind fun l4=>
 (DO 32 l2 l4).bind fun l5=>
 some (l5,0)
def Ha(p0:List As)(p1:Ht)(y3:Int×Bool)(a1:Int)(y4:List UInt8):Option (List As×Int):=
 (LF p0 0 y3.1).bind fun l1=>
 (Q0 l1).bind fun y5=>
 cond (!decide (p1.kind=3))
 (
  (DO 32 y5 [(⟨p1.id,p1.x,p1.y,y4⟩:As)]).bind fun l3=>
  Jo p0 a1 l3)
 (
  Jo p0 a1 y5)
def D9(n:Nat)(p0:List As)(p1:Ht):Option (List As×Int):=
 (Fe n p0).bind fun y1=>
 cond (!y1)
 (
  some ([],80))
 (
  (O7 p1).bind fun y2=>
  cond (!decide (y2=0))
  (
   some ([],y2))
  (
   (Mq n p0 p1.id).bind fun y3=>
   ret ((!y3.2)&&(!decide (p1.kind=1))) fun x1=>
   cond x1
   (
    some ([],100))
   (
    ret ((!y3.2)&&(decide ((p0.length:Int)=1000))) fun x2=>
    cond x2
    (
     some ([],82))
    (
     cond y3.2
     (
      ret (wI (y3.1+1)) fun x3=>
      (BN p0 y3.1).bind fun x4=>
      cond ((decide (p1.kind=2))&&(!(decide (x4.id=p1.id)&&(decide (x4.x=p1.x)&&(decide (x4.y=p1.y)&&(decide (x4.txt=p1.txt)&&true))))))
      (
       Ha p0 p1 y3 x3 x4.txt)
      (
       Ha p0 p1 y3 x3 p1.txt))
     (
      Ha p0 p1 y3 y3.1 p1.txt)))))
theorem Xg{n:Nat}{DJ:Value}{p0:List As}{p1:Ht}{r:List As×Int}(h:D9 n p0 p1=some r)(hs0_:CG K w0 AX 4 DJ p0):zC K w0 76 [DJ,.agg (Bm p1).toArray] [] H (fun u M=>∃v0:Value,u=.tuple #[v0,vI r.2]∧M=[AC 35 4 v0 AX r.1]):=by
 unfold D9 at h
 refine T6.enter Tryz.func76 rfl rfl ?_
 refine Y ?_
 refine Ba E E zU fun b1=>?_
 refine B5 35 4 AX (U E (U E (V (AH (Y ?_)))))
 refine AE h fun y1 hy1 h=>?_
 refine J E (AM 0 Xw (LW hy1 hs0_) E (CW E E (V ?_)))
 refine AP h E (fun hc1 h=>?_) fun hc1 h=>?_
 refine Y (B5 35 4 AX (U E (U E (V (AL (Ac ?_))))))
 obtain rfl:=zI h
 exact Bp [0] 3 (ET E E E) E E ⟨(.slice none 0 0),E,E⟩
 refine AJ (AI (AH (Y ?_)))
 refine AE h fun y2 hy2 h=>?_
 refine Aw [vI p1.kind,AV p1.id,Z p1.x,Z p1.y,vS p1.txt] E Uo E E (An 1 E) (AM 0 nj ((Xh hy2 :)) E (U E (V (Y (J E (AA E BG (V ?_)))))))
 refine AP h E (fun hc2 h=>?_) fun hc2 h=>?_
 refine Y (J E (B5 35 4 AX (U E (U E (V (AL (Ac ?_)))))))
 obtain rfl:=zI h
 exact Bp [0] 3 (ET E E E) E E ⟨(.slice none 0 0),E,E⟩
 refine AJ (AI (Y ?_))
 refine AE h fun y3 hy3 h=>?_
 refine J E (AF E bB (AF E Jz (AG 1 FX E (AM 0 lF (SH hy3 hs0_) E (J E (Af E E E (Af E E E ?_)))))))
 refine U E (U E (V (AH (AQ (Y ?_)))))
 obtain⟨x1,ex1,h⟩:=By h
 refine J E (CW E E (J E ?_))
 refine Cb (c := !decide (p1.kind=1)) 32 4 36 E (fun hb k=>?_) (fun hb k=>?_) ?_
 refine AF E XF (AG 1 FI E (AA E BG (Ag E E E ?_)))
 exact k.mono tL
 refine AB E (AB E (AB E (Ag E E E ?_)))
 exact k.mono tL
 refine Aq (u:=vB x1) E E (congrArg vB ex1) ?_
 refine V ?_
 refine AP h E (fun hc3 h=>?_) fun hc3 h=>?_
 refine Y (B5 35 4 AX (U E (U E (V (AL (BC (Ac ?_)))))))
 obtain rfl:=zI h
 exact Bp [0] 3 (ET E E E) E E ⟨(.slice none 0 0),E,E⟩
 refine Y ?_
 obtain⟨x2,ex2,h⟩:=By h
 refine J E (CW E E (J E ?_))
 refine Cb (c:=decide ((p0.length:Int)=1000)) 40 4 44 E (fun hb k=>?_) (fun hb k=>?_) ?_
 refine J E (CF hs0_ E C4 E (AA E BS (Ag E E E ?_)))
 exact k.mono tL
 refine AB E (AB E (AB E (Ag E E E ?_)))
 exact k.mono tL
 refine Aq (u:=vB x2) E E (congrArg vB ex2) ?_
 refine V ?_
 refine AP h E (fun hc4 h=>?_) fun hc4 h=>?_
 refine Y (B5 35 4 AX (U E (U E (V (AL (BC (Ac ?_)))))))
 obtain rfl:=zI h
 exact Bp [0] 3 (ET E E E) E E ⟨(.slice none 0 0),E,E⟩
 refine AJ (Ay (AI (Y (J rfl (U rfl (V (Y (AF rfl bB (Aw [AV p1.id,Z p1.x,Z p1.y,vS p1.txt] rfl Fw rfl rfl (Ck 1 rfl (by rintro(_ | (_ | (_ | (_ | j)))) u hj<;>first | exact hj | exact absurd hj zS)) ?_)))))))))
 refine Ar E FL zU fun b2=>?_
 refine A7 0 E E E E DZ E E E zT (V ?_)
 refine BB (α:=Int×List UInt8) (fun x=>Ha p0 p1 y3 x.1 x.2=some r) (fun x=>[(0,DJ),(3,vP b1 0),(7,vI y3.1),(9,vI x.1),(10,vP b2 0)]) (fun x=>AK b1 (.cells #[vI p1.kind,AV p1.id,Z p1.x,Z p1.y,vS p1.txt] 83)::AK b2 (.cells #[AV p1.id,Z p1.x,Z p1.y,vS x.2] 35)::H) ?_ (fun x D h=>?_)
 refine Y (J E (V ?_))
 refine AP h E (fun hc5 h=>?_) fun hc5 h=>?_
 refine Y ?_
 obtain⟨x3,ex3,h⟩:=By h
 refine J E (AA E Bu ?_)
 refine Aq (u:=vI x3) E E (congrArg vI ex3) ?_
 refine V (Y ?_)
 refine AE h fun x4 hx4 h=>?_
 refine J E (J E ?_)
 refine DF hx4 hs0_ E C4 DZ E E fun be1 of1 hc6=>?_
 refine Aw (AX x4) E Fw E E (Da hc6) ?_
 refine Ar E FL zU fun b3=>?_
 refine A7 0 E E E E DZ E E E zT (V ?_)
 refine kX [(0,DJ),(3,vP b1 0),(7,vI y3.1),(9,vI x3),(10,vP b2 0),(11,vP b3 0)] (AK b3 (.cells #[AV x4.id,Z x4.x,Z x4.y,vS x4.txt] 35)::AK b2 (.cells #[AV p1.id,Z p1.x,Z p1.y,vS p1.txt] 35)::AC 35 4 zN AX []::AK b1 (.cells #[vI p1.kind,AV p1.id,Z p1.x,Z p1.y,vS p1.txt] 83)::H) ?_ tL
 refine Y (AF E XF (AG 3 FI E (AA E BS (J E ?_))))
 refine Cb (c := !(decide (x4.id=p1.id)&&(decide (x4.x=p1.x)&&(decide (x4.y=p1.y)&&(decide (x4.txt=p1.txt)&&true))))) 58 4 62 E (fun hb k=>?_) (fun hb k=>?_) ?_
 refine Aw [AV x4.id,Z x4.x,Z x4.y,vS x4.txt] E Fw E E (An 0 E) (Aw [AV p1.id,Z p1.x,Z p1.y,vS p1.txt] E Fw E E (An 1 E) ?_)
 refine ZH E qI E E (Cj E E (iJ (a:=x4.id) (b:=p1.id)) (Cj E E (Kr (a:=x4.x) (b:=p1.x)) (Cj E E (Kr (a:=x4.y) (b:=p1.y)) (Cj E E (UJ (a:=x4.txt) (b:=p1.txt)) KT)))) ?_
 refine Ag E E E ?_
 exact k.mono tL
 refine AB E (AB E (AB E (Ag E E E ?_)))
 exact k.mono tL
 refine V ?_
 refine AP h E (fun hc7 h=>?_) fun hc7 h=>?_
 refine AS (AF E Od (AG 0 GP E (AF E Od (A7 1 E E E E HC E E E zT (Aa ?_)))))
 exact Az (x3,x4.txt) h tL (BX [3,1] 4 E E E)
 refine AJ ?_
 exact Az (x3,p1.txt) h tL (BX [3,1] 4 E E E)
 refine AJ ?_
 exact Az (y3.1,p1.txt) h tL (BX [2,0] 3 E E E)
 obtain⟨a1,y4⟩:=x
 dsimp only at h
 unfold Ha at h
 try dsimp only
 refine Y ?_
 refine AE h fun l1 hl1 h=>?_
 refine AE h fun y5 hy5 h=>?_
 refine J E (J E (J E ?_))
 refine kR hl1 hs0_ E C4 DZ E E E fun v1 hs1=>?_
 refine Bo (vs:=[_]) (Hin:=[]) (Hr:=_::_::_) E E ⟨E,zT⟩ ez E E (Yo hy5 hs1) ?_
 rintro v2 _ ⟨_,rfl,rfl⟩
 refine⟨trivial,?_⟩
 refine U E (V ?_)
 refine BB (α:=List As×Value) (fun x=>Jo p0 a1 x.1=some r) (fun x=>[(0,DJ),(9,vI a1),(12,x.2)]) (fun x=>AC 35 4 x.2 AX x.1::H) ?_ (fun x D h=>?_)
 refine Y (AF E XF (AG 1 FI E (AA E BG (V ?_))))
 refine AP h E (fun hc8 h=>?_) fun hc8 h=>?_
 refine AS ?_
 refine AE h fun l3 hl3 h=>?_
 refine J E (Aw [AV p1.id,Z p1.x,Z p1.y,vS y4] E Fw E E (An 2 E) ?_)
 refine CE [_] rfl C4 DZ FL ⟨rfl,trivial⟩ rfl rfl rfl zW rfl rfl zU fun b4=>?_
 refine CJ AX 4 ([(⟨p1.id,p1.x,p1.y,y4⟩:As)]:List As) E zV E ?_
 refine Cr 1 hl3 (sz:=4) (enc:=AX) zV E C4 DZ Xd FL E zD E E E E (CM (sz:=4) (enc:=AX) 0 zV E) (by simp[AX,Value.oneCell']) zU fun v4=>?_
 refine U E (Aa ?_)
 exact Az (l3,v4) h tL (BX [1] 4 E E E)
 refine AJ ?_
 exact Az (y5,v2) h tL (BX [0] 3 E E E)
 obtain⟨l2,v3⟩:=x
 dsimp only at h
 unfold Jo at h
 try dsimp only
 refine Y ?_
 refine AE h fun l4 hl4 h=>?_
 refine AE h fun l5 hl5 h=>?_
 refine J E (J E (J E ?_))
 refine cf hl4 hs0_ E C4 DZ E E fun v5 hs2=>?_
 refine Rv 0 hl5 hs2 (sz:=4) (enc:=AX) zV E C4 DZ Xd FL E zD E E E (by simp[AX,Value.oneCell']) zU fun v6=>?_
 refine U E (U E (V (AL ?_)))
 obtain rfl:=zI h
 exact Bp [0] 1 (ET E E E) E E ⟨v6,E,E⟩
def Is(n:Nat)(p0:List As)(p1:UInt64):Option (As×Int):=
 (Fe n p0).bind fun y1=>
 cond (!y1)
 (
  some ((⟨0,0,0,[]⟩:As),80))
 (
  (Mq n p0 p1).bind fun y2=>
  cond (!y2.2)
  (
   some ((⟨0,0,0,[]⟩:As),100))
  (
   (BN p0 y2.1).bind fun x1=>
   some (x1,0)))
theorem aH{n:Nat}{DJ:Value}{p0:List As}{p1:UInt64}{r:As×Int}(h:Is n p0 p1=some r)(hs0_:CG K w0 AX 4 DJ p0):zC K w0 54 [DJ,AV p1] [] H (fun u M=>u=.tuple #[.agg (AX r.1).toArray,vI r.2]∧M=[]):=by
 unfold Is at h
 refine T6.enter Tryz.func54 rfl rfl ?_
 refine Y ?_
 refine Ar E FL zU fun b1=>?_
 refine U E (V (AH (Y ?_)))
 refine AE h fun y1 hy1 h=>?_
 refine J E (AM 0 Xw (LW hy1 hs0_) E (CW E E (V ?_)))
 refine AP h E (fun hc1 h=>?_) fun hc1 h=>?_
 refine Y (Bt [] E T0 Tz FL zT E (A7 0 E E E E DZ E E E zT (U E (V (AL (Ac ?_))))))
 obtain rfl:=zI h
 exact Al (Dz E (CC 0 (AX (⟨0,0,0,[]⟩:As)) Fw E E E E) E) (Ak (M:=[]) ⟨E,E⟩ fun _ hw=>Bc.pick (H:=[_]) hw [] 1 E)
 refine AJ (AI (Y ?_))
 refine AE h fun y2 hy2 h=>?_
 refine J E (J E (AM 0 lF (SH hy2 hs0_) E (J E (Af E E E (Af E E E (U E (U E (V (AH (Y ?_))))))))))
 refine J E (CW E E (V ?_))
 refine AP h E (fun hc2 h=>?_) fun hc2 h=>?_
 refine Y (Bt [] E T0 Tz FL zT E (A7 0 E E E E DZ E E E zT (U E (V (AL (Ac ?_))))))
 obtain rfl:=zI h
 exact Al (Dz E (CC 0 (AX (⟨0,0,0,[]⟩:As)) Fw E E E E) E) (Ak (M:=[]) ⟨E,E⟩ fun _ hw=>Bc.pick (H:=[_]) hw [] 1 E)
 refine AJ (AI (Y ?_))
 refine AE h fun x1 hx1 h=>?_
 refine J E (J E ?_)
 refine DF hx1 hs0_ E C4 DZ E E fun be1 of1 hc3=>?_
 refine Aw (AX x1) E Fw E E (Da hc3) (A7 0 E E E E DZ E E E zT (U E (V (AL ?_))))
 obtain rfl:=zI h
 exact Al (Dz E (CC 0 (AX x1) Fw E E E E) E) (Ak (M:=[]) ⟨E,E⟩ fun _ hw=>Bc.pick (H:=[_]) hw [] 1 E)
end

section
variable {K:Nat→Prop}{w0:World}{H:List AZ}
abbrev Pf:=Nat×Option (Value×List As)
def Yi(v0:Value)(s:Pf):Value:=s.2.elim v0 (·.1)
def WG(p0:List As)(s:Pf):List As:=s.2.elim p0 (·.2)
def PZ(s:Pf):AZ:=AC 35 4 (Yi (.slice none 0 0) s) AX (WG [] s)
def ar(x:Value×Int):List Value:=[x.1,vI x.2]
def sk(n:Nat)(p0:List As)(ops:List Ht)(s:Pf)(x:Value×Int)(s':Pf):Prop:=∃o m,ops[s.1]? = some o∧D9 n (WG p0 s) o=some (m,x.2)∧s'=(s.1+1,some (x.1,m))
def sj(n:Nat)(p0:List As)(ops:List Ht)(s:Pf):Prop:=∀o,ops[s.1]? = some o→∃r,D9 n (WG p0 s) o=some r
theorem eY{n:Nat}{v0:Value}{p0:List As}{s:Pf}{o:Ht}{r:List As×Int}(h:D9 n (WG p0 s) o=some r)(hs0:CG K w0 AX 4 v0 p0):zC K w0 76 [Yi v0 s,.agg (Bm o).toArray] [PZ s] H (fun u M=>∃v:Value,u=.tuple #[v,vI r.2]∧M=[PZ s,AC 35 4 v AX r.1]):=by
 refine T6.mono (Cl (B:=[PZ s]) (Hin:=[]) (fun K' w1 hk hB=>Xg h ?_)) ?_
 obtain⟨k,_ | ⟨v,m⟩⟩:=s
 exact hs0.keeps hk
 exact CY (e:=35) (v:=v) zV (hB _ (by simp[PZ,Yi,WG]))
 rintro _ _ ⟨_,rfl,v,rfl,rfl⟩
 exact⟨v,rfl,rfl⟩
theorem mK{n:Nat}{v0 vo:Value}{p0:List As}{ops:List Ht}(hs0:CG K w0 AX 4 v0 p0)(hs1:CG K w0 Bm 5 vo ops)(hl:ops.length≤1000000)(bo bl:Nat):
  Zy Tryz.prog K w0 114 [vP bo 0,vP bl 0] [AK bo (.cells #[vo] 74),AK bl (.cells #[v0] 37)] ar (fun s=>[PZ s]) (sk n p0 ops) (fun s=>ops.length≤s.1) (sj n p0 ops) (0,none):=by
 intro lp J9 X T rc G0 hy hdef h0
 refine T6.enter Tryz.func114 rfl rfl ?_
 show SX _ _ _ _ _ _ _ _ _ (AK bo (.cells #[vo] 74)::AK bl (.cells #[v0] 37)::PZ (0,none)::((rc::G0)++T))
 refine SX.pick [2,0,1] 3 (Y (AG 1 Zk E (CF hs1 E Rh E (J E (V (AQ ?_))))))
 refine SX.mono (BU (α:=Pf×List AZ) (fun x=>J9 x.1 x.2) (fun x=>[(0,vY lp),(1,vP bo 0),(2,vP bl 0),(8,vo),(9,vI (ops.length:Int)),(10,vI x.1.1)])
  (fun x=>PZ x.1::AK bo (.cells #[vo] 74)::AK bl (.cells #[Yi v0 x.1] 37)::(x.2++T)) (fun x=>ops.length-x.1.1) (fun x D hp=>?_) ((0,none),rc::G0) h0) tL
 obtain⟨s,G⟩:=x
 have hJ:J9 s G:=hp
 clear hp
 dsimp only
 refine Y (AA E BD (V (AH ?_)))
 refine A0 E (fun hc1=>?_) (fun hc1=>?_)
 have hlt:s.1<ops.length:=by
  have:=of_decide_eq_true hc1
  omega
 clear hc1
 obtain⟨o,ho⟩:∃o,ops[s.1]? = some o:=⟨_,List.getElem?_eq_getElem hlt⟩
 obtain⟨r,hr⟩:=hdef _ _ hJ o ho
 have hn:BN ops ((s.1:Nat):Int)=some o:=by rw[HO];exact ho
 refine AJ (AI (AH (AQ (Y ?_))))
 refine DF hn hs1 E Rh Yj E E fun be of hc=>?_
 refine Aw (Bm o) E Uo E E (Da hc) ?_
 refine Ar E Ri zU fun b0=>?_
 refine A7 0 E E E E Yj E E E zT (V (Y (AG 3 FY E (Aw (Bm o) E Uo E E (An 0 E) (SL.pick [1,0] 2 (BY 1 fC (eY hr hs0) E ?_))))))
 rintro _ _ ⟨v1,rfl,rfl⟩
 refine J E (Af E E E (Af E E E (U E (U E (V (SX.pick [0,2,3,4,1] 5 (AH (Y (J E (J E ?_))))))))))
 refine J E ?_
 refine HQ (M2:=[_,_,_,_]) (G:=PZ (s.1+1,some (v1,r.1))::G) (T:=T) (vs:=[_,_]) (ok:=fun G1=>∃G2,G1=PZ (s.1+1,some (v1,r.1))::G2∧J9 (s.1+1,some (v1,r.1)) G2) (no:=X) E E ⟨E,E,zT⟩ E ?_ (fun bb G1 hG1=>⟨zT,?_⟩)
 intro M
 exact hy s (v1,r.2) (s.1+1,some (v1,r.1)) ⟨o,r.1,ho,hr,rfl⟩ G hJ M
 refine CW E E (V ?_)
 refine A0 E (fun hc3=>?_) (fun hc3=>?_)
 obtain rfl:bb=false:=by simpa using hc3
 refine AL (Ac (BC (Ac (Ea (BC ?_)))))
 exact Al (Dh E) (Ak (M:=G1) (.inr hG1) fun _ h=>h.skip [_,_,_,_])
 obtain rfl:bb=true:=by simpa using hc3
 obtain⟨G2,rfl,hJ2⟩:=hG1
 refine AJ (AI (AS (J E ?_)))
 refine Cu 4 E fun hv1 ho1=>?_
 refine Du 3 E E E E JP hv1 ho1 E zT (Aa (Ay (AI (AS (AA E (Bj zO zO) (J E (Aa ?_)))))))
 exact A1 ((s.1+1,some (v1,r.1)),G2) hJ2 (by dsimp only;omega) tL (BX [4,2,3] 5 E E E)
 have hge:ops.length≤s.1:=by simpa using hc1
 refine A4 (A9 (Bi (BA ?_)))
 exact C9 (Dh E) (Ak (M:=PZ s::G) (.inl ⟨s,G,hge,E,hJ⟩) fun _ hw=>Bc.pick (H:=[_,_,_]) hw [0] 3 E)
theorem mr{v0 v1:Value}{p0:List As}{ops:List Ht}(hs0:CG K w0 AX 4 v0 p0)(hs1:CG K w0 Bm 5 v1 ops):zC K w0 78 [v0,v1] [] H (fun u M=>∃bo bl:Nat,u=.func (.func 114) #[] #[vP bo 0,vP bl 0]∧M=[AK bo (.cells #[v1] 74),AK bl (.cells #[v0] 37)]):=by
 refine T6.enter Tryz.func78 rfl rfl ?_
 refine Y ?_
 refine QN hs0 fun hv0 ho0=>?_
 refine XL hv0 E E zU fun b0=>?_
 refine QN hs1 fun hv1 ho1=>?_
 refine XL hv1 E E zU fun b1=>?_
 refine U E (V (Y ?_))
 refine G3 (fv:=#[]) (cv:=#[_,_]) E E E ?_
 refine U E (V (AL ?_))
 exact Bp [0,1] 2 (Cn E E) E E ⟨_,_,E,E⟩
def Pg(n:Nat):List Ht→List As→Int→Option (List As×Int×Int)
 | [],cur,_=>some (cur,0,0)
 | o::r,cur,at_=>(D9 n cur o).bind fun y=>cond (decide (y.2=0)) (Pg n r y.1 (at_+1)) (some ([],at_,y.2))
def TF(n:Nat)(l:List As)(ops:List Ht):Option (List As×Int×Int):=(Fe n l).bind fun y=>cond (!y) (some ([],0,80)) (cond (decide ((ops.length:Int)=0)||decide (64<(ops.length:Int))) (some ([],0,101)) (Pg n ops l 0))
theorem jt{s:Pf}(h:s.2≠none)(v0:Value)(p0:List As):PZ s=AC 35 4 (Yi v0 s) AX (WG p0 s):=by
 obtain⟨k,_ | ⟨v,m⟩⟩:=s
 exact absurd rfl h
 rfl
theorem ko{n:Nat}{v0 v1:Value}{p0:List As}{ops:List Ht}{r:List As×Int×Int}(h:TF n p0 ops=some r)(hs0:CG K w0 AX 4 v0 p0)(hs1:CG K w0 Bm 5 v1 ops):zC K w0 53 [v0,v1] [] H (fun u M=>∃v:Value,u=.tuple #[v,vI r.2.1,vI r.2.2]∧M=[AC 35 4 v AX r.1]):=by
 unfold TF at h
 refine T6.enter Tryz.func53 rfl rfl ?_
 refine Y (U E (U E (U E (V (Km (AH (AQ (Y ?_))))))))
 refine AE h fun y1 hy1 h=>?_
 refine J E (AM 0 Xw (LW hy1 hs0) E (CW E E (U E (V ?_))))
 refine AP h E (fun hc1 h=>?_) fun hc1 h=>?_
 refine Y (U E (U E (U E (V (AL (BC (Ac (EO ?_))))))))
 obtain rfl:=zI h
 refine Ou 35 4 AX ?_
 exact Bp [0] 1 (VY E E E E) E E ⟨_,E,E⟩
 refine Y (J E (CF hs1 E Rh E (AA E BS (J E ?_))))
 refine E2 (c:=decide (64<(ops.length:Int))) 20 4 24 E (fun hb k=>?_) (fun hb k=>?_) ?_
 refine AB E (AB E (AB E (Ag E E E ?_)))
 exact k.mono tL
 refine J E (CF hs1 E Rh E (AA E Cm (Ag E E E ?_)))
 exact k.mono tL
 refine U E (V ?_)
 refine AP h E (fun hc2 h=>?_) fun hc2 h=>?_
 refine Y (U E (U E (U E (V (AL (BC (Ac (EO ?_))))))))
 obtain rfl:=zI h
 refine Ou 35 4 AX ?_
 exact Bp [0] 1 (VY E E E E) E E ⟨_,E,E⟩
 have hl:0<ops.length∧ops.length≤64:=by
  simp only[Bool.or_eq_false_iff,decide_eq_false_iff_not]at hc2
  omega
 refine AJ (Ay (AI (Y ?_)))
 refine Ar E qC zU fun b0=>?_
 refine A7 0 E E E E PU E E E zT (V (Y (J E ?_)))
 refine Ar E eL zU fun b1=>?_
 refine QN hs0 fun hv0 ho0=>?_
 refine Du 0 E E E E JP hv0 ho0 E zT (V (Y ?_))
 refine Ar E qN zU fun b2=>?_
 refine A7 0 E E E E d8 E E E zT (V (AH (Kl (AI (AH (Y (J E (J E (B5 35 4 AX (BY 0 rD (mr hs0 hs1) E ?_))))))))))
 rintro _ _ ⟨b3,b4,rfl,rfl⟩
 refine V (AQ ?_)
 refine Um (enc:=ar) (C:=fun s=>[PZ s]) (0,none) (G0:=AK b2 (.cells #[vI 0] 29)::AK b1 (.cells #[v0] 37)::AK b0 (.cells #[vI 0] 3)::H)
  (fun s G=>Pg n (ops.drop s.1) (WG p0 s) s.1=some r∧(s.2=none→s.1=0)∧G=AK b2 (.cells #[vI 0] 29)::AK b1 (.cells #[Yi v0 s] 37)::AK b0 (.cells #[vI s.1] 3)::H)
  (fun c G=>c=.exit 1∧∃v:Value,r.2.2≠0∧r.1=[]∧G=AK b2 (.cells #[vI r.2.2] 29)::AK b1 (.cells #[v] 37)::AK b0 (.cells #[vI r.2.1] 3)::H)
  rfl nk rfl zV (mK (n:=n) hs0 hs1 zO _ _) rfl ⟨h,fun _=>rfl,rfl⟩ ?_ (fun s x s1 G hst hJ lr lp Rest=>?_) (fun s G D hds hJ=>?_) (fun c G D hX=>?_)
 rintro s G ⟨h,-,-⟩ o ho
 obtain⟨hlt,hg⟩:=List.getElem?_eq_some_iff.1 ho
 rw[List.drop_eq_getElem_cons hlt,hg,Pg]at h
 obtain⟨y,hy,-⟩:=D6 h
 exact⟨y,hy⟩
 obtain⟨h,-,rfl⟩:=hJ
 obtain⟨o,m,ho,hm,rfl⟩:=hst
 obtain⟨v,e⟩:=x
 obtain⟨hlt,hg⟩:=List.getElem?_eq_some_iff.1 ho
 rw[List.drop_eq_getElem_cons hlt,hg,Pg,hm]at h
 replace h:cond (decide (e=0)) (Pg n (ops.drop (s.1+1)) m (s.1+1)) (some ([],(s.1:Int),e))=some r:=h
 refine Y (U E (V (AS (U E (Aa (Kk (AQ (AH (Y (J E (AA E BG (V ?_))))))))))))
 refine A0 E (fun hc3=>?_) (fun hc3=>?_)
 have he:e≠0:=by simpa using hc3
 rw[zf he,CQ]at h
 obtain rfl:=zI h
 refine Y (J E (A7 1 E E E E d8 E E E zT (V (A4 (A9 (HR ?_))))))
 exact N1 ⟨E,_,he,E,E⟩ (BX [1,2,3] 4 E E E)
 obtain rfl:e=0:=by simpa using hc3
 replace h:Pg n (ops.drop (s.1+1)) m (s.1+1)=some r:=h
 refine AJ (AI (Y (J E ?_)))
 refine Cu 0 E fun hv1 ho1=>?_
 refine Du 2 E E E E JP hv1 ho1 E zT (V (AS (AG 3 FI E (AA E (Bj zO zO) (A7 3 E E E E PU E E E zT (Aa (Ay ?_)))))))
 exact IA ⟨_,E,h,(fun e=>absurd e zS),E⟩ (BX [0,1,2,3] 4 E E E)
 obtain⟨h,hn,rfl⟩:=hJ
 rw[List.drop_eq_nil_of_le hds,Pg]at h
 obtain rfl:=zI h
 have hs:s.2≠none:=fun e=>by
  have:=hn e
  omega
 refine SX.heap (H':=AC 35 4 (Yi v0 s) AX (WG p0 s)::AK b2 (.cells #[vI 0] 29)::AK b1 (.cells #[Yi v0 s] 37)::AK b0 (.cells #[vI s.1] 3)::H) ?_ (fun _ hw=>by rw[←jt hs];exact hw) |> fun h=>Ay (AI h)
 refine AH (Y (AG 1 Qe E (AA E BG (V (Cz E (AJ (AI (Y (AG 2 FY E (U E (U E (U E (V (AL (EO ?_)))))))))))))))
 exact Bp [0] 4 (VY E E E E) E E ⟨_,E,E⟩
 obtain⟨rfl,v,he,hr,rfl⟩:=hX
 refine A4 (BA (AI (AH (Y (AG 0 Qe E (AA E BG (V ?_)))))))
 refine A0 E (fun hc5=>?_) (fun hc5=>absurd hc5 (by simp[he]))
 refine AH (A2 DE [0,2] (C3 [(true,0),(true,1),(true,2),(true,3),(true,4)]) zK (AG 1 FI E (AG 0 Qe E (U E (U E (U E (V (AL (Ac (EO (Ou 35 4 AX ?_)))))))))))
 exact Bp [0] 4 (VY E E E E) E E ⟨_,E,by rw[hr]<;>rfl⟩
end

section
variable {K:Nat→Prop}{w0:World}{H:List AZ}
abbrev Re(bf:Nat)(vo x1 x2 x3:Value):AZ:=AK bf (.cells #[vo,x1,x2,x3] 80)
def si(n:Nat)(v0:Value)(p0:List As)(ops:List Ht)(s:Pf)(x:Value×Int)(s':Pf):Prop:=
 (s=(0,none)∧x=(v0,0)∧s'=(1,none))∨∃o m,s.1≠0∧ops[s.1-1]? = some o∧D9 n (WG p0 s) o=some (m,x.2)∧s'=(s.1+1,some (x.1,m))
def sh(n:Nat)(p0:List As)(ops:List Ht)(s:Pf):Prop:=s.1≠0→∀o,ops[s.1-1]? = some o→∃r,D9 n (WG p0 s) o=some r
theorem jy{bf:Nat}{v0:Value}{p0:List As}(hs0:CG K w0 AX 4 v0 p0):zC K w0 75 [vP bf 0,v0] [] H (fun u M=>∃bl bb:Nat,u=.func (.func 111) #[] #[vP bl 0,vP bb 0]∧M=[AK bl (.cells #[v0] 37),AK bb (.cells #[vP bf 0] 123)]):=by
 refine T6.enter Tryz.func75 rfl rfl ?_
 refine Y ?_
 refine Ba E E zU fun b0=>?_
 refine QN hs0 fun hv0 ho0=>?_
 refine XL hv0 E E zU fun b1=>?_
 refine U E (V (Y ?_))
 refine G3 (fv:=#[]) (cv:=#[_,_]) E E E ?_
 refine U E (V (AL ?_))
 exact Bp [0,1] 2 (Cn E E) E E ⟨_,_,E,E⟩
theorem ji{n bf:Nat}{v0 vo x1 x2 x3:Value}{p0:List As}{ops:List Ht}(hs0:CG K w0 AX 4 v0 p0)(hl:ops.length≤1000000)(bl bb:Nat):
  Zy Tryz.prog K w0 111 [vP bl 0,vP bb 0] [AK bl (.cells #[v0] 37),AK bb (.cells #[vP bf 0] 123)] ar (fun s=>[PZ s,Re bf vo x1 x2 x3,AC 83 5 vo Bm ops]) (si n v0 p0 ops) (fun s=>ops.length+1≤s.1) (sh n p0 ops) (0,none):=by
 intro lp J9 X T rc G0 hy hdef h0
 refine T6.enter Tryz.func111 rfl rfl ?_
 show SX _ _ _ _ _ _ _ _ _ (AK bl (.cells #[v0] 37)::AK bb (.cells #[vP bf 0] 123)::PZ (0,none)::Re bf vo x1 x2 x3::AC 83 5 vo Bm ops::((rc::G0)++T))
 refine AH (Y (J E (AG 0 FY E ?_)))
 refine HQ (M2:=[_,_]) (G:=PZ (1,none)::Re bf vo x1 x2 x3::AC 83 5 vo Bm ops::(rc::G0)) (T:=T) (vs:=[_,_]) (ok:=fun G1=>∃G2,G1=PZ (1,none)::Re bf vo x1 x2 x3::AC 83 5 vo Bm ops::G2∧J9 (1,none) G2) (no:=X) E E ⟨E,E,zT⟩ E ?_ (fun bb0 G1 hG1=>⟨zT,?_⟩)
 intro M
 exact hy (0,none) (v0,0) (1,none) (.inl ⟨rfl,rfl,rfl⟩) (rc::G0) h0 M
 refine CW E E (V ?_)
 refine A0 E (fun hc1=>?_) (fun hc1=>?_)
 obtain rfl:bb0=false:=by simpa using hc1
 refine AL (Ac ?_)
 exact Al (Dh E) (Ak (M:=G1) (.inr hG1) fun _ h=>h.skip [_,_])
 obtain rfl:bb0=true:=by simpa using hc1
 obtain⟨G2,rfl,hJ2⟩:=hG1
 refine AJ (AI (SX.pick [2,3,4,0,1] 5 (Y (AG 4 r8 E (AU E E (AF E Pr (AG 1 Zk E (Di 2 E Rh E E (J E (V (AQ ?_)))))))))))
 refine SX.heap (SX.mono (BU (α:=Pf×List AZ) (fun x=>x.1.1≠0∧J9 x.1 x.2) (fun x=>[(0,vY lp),(1,vP bl 0),(15,vo),(16,vI (ops.length:Int)),(17,vI ((x.1.1-1:Nat):Int))])
  (fun x=>PZ x.1::Re bf vo x1 x2 x3::AC 83 5 vo Bm ops::AK bl (.cells #[Yi v0 x.1] 37)::(x.2++T)) (fun x=>ops.length+1-x.1.1) (fun x D hp=>?_) ((1,none),G2) ⟨by simp,hJ2⟩) tL) (BX [0,1,2,3] 5 rfl rfl rfl)
 obtain⟨s,G⟩:=x
 obtain⟨hs1,hJ⟩:s.1≠0∧J9 s G:=hp
 dsimp only
 refine Y (AA E BD (V (AH ?_)))
 refine A0 E (fun hc1=>?_) (fun hc1=>?_)
 have hlt:s.1-1<ops.length:=by
  have:=of_decide_eq_true hc1
  omega
 clear hc1
 obtain⟨o,ho⟩:∃o,ops[s.1-1]? = some o:=⟨_,List.getElem?_eq_getElem hlt⟩
 obtain⟨r,hr⟩:=hdef _ _ hJ hs1 o ho
 have hn:BN ops ((s.1-1:Nat):Int)=some o:=by rw[HO];exact ho
 refine AJ (AI (AH (AQ (Y ?_))))
 refine CL 2 hn E Rh Yj E E E fun g m cp hv=>?_
 refine Aw (Bm o) E Uo E E (MX (sz:=5) (enc:=Bm) 2 zV E hv hn) ?_
 refine Ar E Ri zU fun b0=>?_
 refine A7 0 E E E E Yj E E E zT (V (Y (AG 4 FY E (Aw (Bm o) E Uo E E (An 0 E) (SL.pick [1,0] 2 (BY 1 fC (eY hr hs0) E ?_))))))
 rintro _ _ ⟨v1,rfl,rfl⟩
 refine J E (Af E E E (Af E E E (U E (U E (V (SX.pick [0,2,5,1,3,4] 6 (AH (Y (J E (J E ?_))))))))))
 refine J E ?_
 refine HQ (M2:=[_,_,_]) (G:=PZ (s.1+1,some (v1,r.1))::Re bf vo x1 x2 x3::AC 83 5 vo Bm ops::G) (T:=T) (vs:=[_,_]) (ok:=fun G1=>∃G2,G1=PZ (s.1+1,some (v1,r.1))::Re bf vo x1 x2 x3::AC 83 5 vo Bm ops::G2∧J9 (s.1+1,some (v1,r.1)) G2) (no:=X) E E ⟨E,E,zT⟩ E ?_ (fun bb G1 hG1=>⟨zT,?_⟩)
 intro M
 exact hy s (v1,r.2) (s.1+1,some (v1,r.1)) (.inr ⟨o,r.1,hs1,ho,hr,rfl⟩) G hJ M
 refine CW E E (V ?_)
 refine A0 E (fun hc3=>?_) (fun hc3=>?_)
 obtain rfl:bb=false:=by simpa using hc3
 refine AL (Ac (BC (Ac (Ea (BC ?_)))))
 exact Al (Dh E) (Ak (M:=G1) (.inr hG1) fun _ h=>h.skip [_,_,_])
 obtain rfl:bb=true:=by simpa using hc3
 obtain⟨G2,rfl,hJ2⟩:=hG1
 refine AJ (AI (AS (J E ?_)))
 refine Cu 3 E fun hv1 ho1=>?_
 refine Du 2 E E E E JP hv1 ho1 E zT (Aa (Ay (AI (AS (AA E (Bj zO zO) ?_)))))
 refine kJ (v:=vI ((s.1+1-1:Nat):Int)) E (by rw[show((s.1+1-1:Nat):Int)=((s.1-1:Nat):Int)+1 by omega];rfl) ?_
 refine Aa ?_
 exact A1 ((s.1+1,some (v1,r.1)),G2) ⟨by simp,hJ2⟩ (by dsimp only;omega) tL (BX [3,4,5,2] 6 E E E)
 have hge:ops.length+1≤s.1:=by
  have:=of_decide_eq_false hc1
  omega
 refine A4 (A9 (Bi (BA ?_)))
 exact C9 (Dh E) (Ak (M:=PZ s::Re bf vo x1 x2 x3::AC 83 5 vo Bm ops::G) (.inl ⟨s,G,hge,E,hJ⟩) fun _ hw=>Bc.pick (H:=[_,_,_,_]) hw [0,1,2] 4 E)
def Mh(n:Nat):List Ht→List As→Option (List As×Int)
 | [],cur=>some (cur,0)
 | o::r,cur=>(D9 n cur o).bind fun y=>cond (decide (y.2=0)) (Mh n r y.1) (some ([],y.2))
def Z1(n:Nat)(f:C2)(l:List As)(o:Ht):Option (Int×C2):=
 cond (decide ((f.ops.length:Int)=64)) (some (101,f)) (cond (decide (f.ops.length≤1000000)) ((Mh n f.ops l).bind fun y=>cond (!decide (y.2=0)) (some (y.2,f)) ((D9 n y.1 o).bind fun z=>cond (decide (z.2=0)) ((DO 40 f.ops [o]).bind fun l=>some (z.2,{ f with ops:=l })) (some (z.2,f)))) none)
theorem nc{n bf bs:Nat}{v0 vo:Value}{f:C2}{p0:List As}{o:Ht}{r:Int×C2}(h:Z1 n f p0 o=some r)(hs0:CG K w0 AX 4 v0 p0):
  zC K w0 51 [vP bf 0,v0,.agg (Bm o).toArray] [Re bf vo (vB f.isOpen) (vP bs 0) (vB f.closed),AC 83 5 vo Bm f.ops] H (fun u M=>∃v:Value,u=vI r.1∧M=[Re bf v (vB r.2.isOpen) (vP bs 0) (vB r.2.closed),AC 83 5 v Bm r.2.ops]):=by
 unfold Z1 at h
 refine T6.enter Tryz.func51 rfl rfl ?_
 refine Y ?_
 refine Ba E E zU fun b0=>?_
 refine U E (V (Km (AH (Y (J E (AU E E (AF E Pr (AG 1 Zk E (Di 2 E Rh E E (AA E BS (V ?_)))))))))))
 refine AP h E (fun hc1 h=>?_) fun hc1 h=>?_
 refine Y (U E (V (AL (Ac (EO ?_)))))
 obtain rfl:=zI h
 exact Bp [1,2] 3 (Cn E E) E E ⟨_,E,E⟩
 have hl:f.ops.length≤1000000:=by
  rcases Nat.lt_or_ge 1000000 f.ops.length with hg | hg
  rw[zf zO,CQ]at h
  cases h
  exact hg
 rw[zt hl,DB]at h
 refine AE h fun y hy h=>?_
 refine AJ (AI (Y (J E ?_)))
 refine Ar E eL zU fun b1=>?_
 refine QN hs0 fun hv0 ho0=>?_
 refine Du 0 E E E E JP hv0 ho0 E zT (V (Y ?_))
 refine Ar E qN zU fun b2=>?_
 refine A7 0 E E E E d8 E E E zT (V (AH (Kl (AI (SX.pick [3,4,0,1,2] 5 (AH (Y (J E (J E (B5 35 4 AX (BY 0 rC (jy hs0) E ?_)))))))))))
 rintro _ _ ⟨b3,b4,rfl,rfl⟩
 refine V (AQ ?_)
 refine Um (enc:=ar) (C:=fun s=>[PZ s,Re bf vo (vB f.isOpen) (vP bs 0) (vB f.closed),AC 83 5 vo Bm f.ops]) (0,none) (G0:=AK b2 (.cells #[vI 0] 29)::AK b1 (.cells #[v0] 37)::AK b0 (.cells #[vI o.kind,AV o.id,Z o.x,Z o.y,vS o.txt] 83)::H)
  (fun s G=>Mh n (f.ops.drop (s.1-1)) (WG p0 s)=some y∧(s.1=0→s.2=none)∧G=AK b2 (.cells #[vI 0] 29)::AK b1 (.cells #[Yi v0 s] 37)::AK b0 (.cells #[vI o.kind,AV o.id,Z o.x,Z o.y,vS o.txt] 83)::H)
  (fun c G=>c=.exit 0∧∃(s:Pf) (v:Value),y.2≠0∧G=PZ s::Re bf vo (vB f.isOpen) (vP bs 0) (vB f.closed)::AC 83 5 vo Bm f.ops::AK b2 (.cells #[vI y.2] 29)::AK b1 (.cells #[v] 37)::AK b0 (.cells #[vI o.kind,AV o.id,Z o.x,Z o.y,vS o.txt] 83)::H)
  rfl ni rfl zV (ji (n:=n) hs0 hl _ _) rfl ⟨hy,fun _=>rfl,rfl⟩ ?_ (fun s x s1 G hst hJ lr lp Rest=>?_) (fun s G D hds hJ=>?_) (fun c G D hX=>?_)
 rintro s G ⟨h,-,-⟩-o ho
 obtain⟨hlt,hg⟩:=List.getElem?_eq_some_iff.1 ho
 rw[List.drop_eq_getElem_cons hlt,hg,Mh]at h
 obtain⟨y,hy,-⟩:=D6 h
 exact⟨y,hy⟩
 obtain⟨h1,-,rfl⟩:=hJ
 obtain⟨v,e⟩:=x
 have hx:(e=0∧Mh n (f.ops.drop (s1.1-1)) (WG p0 s1)=some y∧Yi v0 s1=v∧v.cells=#[v]∧v.oneCell'=true∧s1.1≠0)∨(∃(m:List As) (k:Nat),e≠0∧s1=(k,some (v,m))∧y=([],e))∨(∃(m:List As) (k:Nat),e=0∧s1=(k+1,some (v,m))∧Mh n (f.ops.drop k) m=some y):=by
  rcases hst with⟨rfl,hx,rfl⟩ | ⟨o',m,h0,ho,hm,rfl⟩
  obtain⟨rfl,rfl⟩:=Prod.mk.inj hx
  exact .inl ⟨rfl,h1,rfl,hv0,ho0,by simp⟩
  obtain⟨hlt,hg⟩:=List.getElem?_eq_some_iff.1 ho
  rw[List.drop_eq_getElem_cons hlt,hg,Mh,hm]at h1
  replace h1:cond (decide (e=0)) (Mh n (f.ops.drop (s.1-1+1)) m) (some ([],e))=some y:=h1
  by_cases he:e=0
  rw[zt he,DB,Nat.sub_add_cancel zO]at h1
  exact .inr (.inr ⟨m,s.1,he,rfl,h1⟩)
  rw[zf he,CQ]at h1
  exact .inr (.inl ⟨m,s.1+1,he,rfl,(zI h1).symm⟩)
 refine Y (U E (V (AS (U E (Aa (Kk (AQ (AH (Y (J E (AA E BG (V ?_))))))))))))
 refine A0 E (fun hc3=>?_) (fun hc3=>?_)
 have he:e≠0:=by simpa using hc3
 obtain⟨m,k,-,rfl,rfl⟩:∃(m:List As) (k:Nat),e≠0∧s1=(k,some (v,m))∧y=([],e):=by
  rcases hx with hx | hx | ⟨m,k,hx,-⟩
  exact absurd hx.1 he
  exact hx
  exact absurd hx he
 refine Y (J E (A7 3 E E E E d8 E E E zT (V (A4 (A9 (HR ?_))))))
 exact N1 ⟨E,_,_,he,E⟩ (BX [0,1,2,3,4,5] 6 E E E)
 obtain rfl:e=0:=by simpa using hc3
 refine AJ (AI (AS (J E ?_)))
 rcases hx with⟨-,h2,hv,hv1,ho1,h0⟩ | ⟨m,k,hx,-⟩ | ⟨m,k,-,rfl,h2⟩
 refine Du 4 E E E E JP hv1 ho1 E zT (Aa (Ay ?_))
 exact IA ⟨_,E,h2,fun e=>absurd e h0,by rw[hv]⟩ (BX [0,1,2,3,4,5] 6 E E E)
 exact absurd rfl hx
 refine Cu 0 E fun hv1 ho1=>?_
 refine Du 4 E E E E JP hv1 ho1 E zT (Aa (Ay ?_))
 exact IA ⟨_,E,h2,(fun e=>absurd e zS),E⟩ (BX [0,1,2,3,4,5] 6 E E E)
 obtain⟨h1,-,rfl⟩:=hJ
 rw[List.drop_eq_nil_of_le zO,Mh]at h1
 obtain rfl:=zI h1
 obtain⟨z,hz,h⟩:=D6 (show(D9 n (WG p0 s) o).bind _=some r from h)
 refine Ay (AI (AH (Y (AG 3 Qe E (AA E BG (V (Cz E (AJ (AI (Y (AG 4 FY E (Aw (Bm o) E Uo E E (An 5 E) (BY 1 fC (eY hz hs0) E ?_)))))))))))))
 rintro _ _ ⟨v1,rfl,rfl⟩
 refine J E (Af E E E (Af E E E (U E (U E (V (AH (Y (J E (AA E BS (V ?_))))))))))
 refine AP h E (fun hc4 h=>?_) fun hc4 h=>?_
 refine AE h fun l hl1 h=>?_
 refine A2 DE [2,6] (CK [(true,0),(true,1),(true,2),(true,3),(true,4),(true,5),(false,6),(false,7),(true,8),(true,9)] (.last 10 .nil)) zK (J E (J E (AU E E (AF E Pr (AG 0 Zk E (Aw (Bm o) E Uo E E (An 1 E) ?_))))))
 refine CE [_] rfl Rh Yj Ri ⟨rfl,trivial⟩ rfl rfl rfl zW rfl rfl (fun _=>⟨⟨3,rfl⟩,⟨7,rfl⟩,trivial⟩) fun b5=>?_
 refine CJ Bm 5 ([o]:List Ht) E zV E ?_
 refine Cr 4 hl1 (sz:=5) (enc:=Bm) zV E Rh Yj sp Ri E zD E E E E (CM (sz:=5) (enc:=Bm) 0 zV E) (by simp[Bm,Value.oneCell']) (fun _=>⟨⟨3,E⟩,⟨7,E⟩,zT⟩) fun v2=>?_
 refine AU E E (AF E Pr (Bk ?_))
 refine Cu 4 E fun hv2 ho2=>?_
 refine Du 3 E E E E mc hv2 ho2 E zT (V (Y (J E (U E (V (AL (EO ?_)))))))
 obtain rfl:=zI h
 exact Bp [3,4] 8 (Cn E E) E E ⟨v2,E,E⟩
 refine AJ (AI (Y (J E (U E (V (AL (EO ?_)))))))
 obtain rfl:=zI h
 exact Bp [2,3] 7 (Cn E E) E E ⟨_,E,E⟩
 obtain⟨rfl,s,v,he,rfl⟩:=hX
 rw[zf he]at h
 obtain rfl:=zI (show some _=some r from h)
 refine A4 (BA (AI (AH (Y (AG 3 Qe E (AA E BG (V ?_)))))))
 refine A0 E (fun hc5=>?_) (fun hc5=>absurd hc5 (by simp[he]))
 refine Y (AG 3 Qe E (U E (V (AL (Ac (EO ?_))))))
 exact Bp [1,2] 6 (Cn E E) E E ⟨_,E,E⟩
end

section
variable {K:Nat→Prop}{w0:World}{H:List AZ}
def HN(p0:Ao):Option Bool:=
 (IE p0).bind fun y1=>
 ret (decide (y1.cnt=18446744073709551615)) fun x1=>
 some x1
theorem Rb{Ap BE CA:Nat}{CB:Value}{p0:Ao}{r:Bool}(h:HN p0=some r): zC K w0 43 [vP Ap 0] [AK Ap (.cells #[vB p0.off,vB p0.isCut,vI p0.lasts,vI p0.counts,CB,.map (some BE),.map (some CA),AV p0.rcnt,vS p0.rtag,Z p0.rboots] 100),AC 9 1 CB eS p0.blocks,Ab BE Z vS p0.pend,Ab CA Z vB p0.bad] H (fun u M=>u=vB r∧M=[AK Ap (.cells #[vB p0.off,vB p0.isCut,vI p0.lasts,vI p0.counts,CB,.map (some BE),.map (some CA),AV p0.rcnt,vS p0.rtag,Z p0.rboots] 100),AC 9 1 CB eS p0.blocks,Ab BE Z vS p0.pend,Ab CA Z vB p0.bad]):=by
 unfold HN at h
 refine T6.enter Tryz.func43 rfl rfl ?_
 refine Y (U E (V (Y ?_)))
 refine AE h fun y1 hy1 h=>?_
 obtain⟨x1,ex1,h⟩:=By h
 refine J E (AM 4 er (Oy hy1) E (Zu E (show dL Tryz.prog 43 0=some 0 by kernel_rfl) E E ?_))
 refine AA E (MQ (b:=18446744073709551615)) ?_
 refine Aq (u:=vB x1) E E (congrArg vB ex1) ?_
 refine V (AL ?_)
 obtain rfl:=zI h
 exact AW [0,1,2,3] 4 E E E
def KQ(p0:Ao)(p1:List BV):Option (Option (B2×A5)×Int×Ao):=
 (II p1).bind fun y1=>
 cond (!decide (y1.2=0))
 (
  some (none,y1.2,p0))
 (
  (Po p0).bind fun y2=>
  cond (!decide (y2.2.1=0))
  (
   some (none,y2.2.1,y2.2.2))
  (
   (NA y2.2.2 p1 y1.1 y2.1).bind fun y3=>
   (y3.1).bind fun d1=>
   (VQ p1).bind fun y4=>
   some (some (({ rows:=[],pages:=[],gens:=[],ring:=y4,gen:=y1.1,bad:=false }:B2),d1),y3.2,y2.2.2)))
theorem Xt{Ap BE CA:Nat}{CB Em:Value}{p0:Ao}{p1:List BV}{r:Option (B2×A5)×Int×Ao}(h:KQ p0 p1=some r)(hs1_:CG K w0 AY 2 Em p1):zC K w0 44 [vP Ap 0,Em] [AK Ap (.cells #[vB p0.off,vB p0.isCut,vI p0.lasts,vI p0.counts,CB,.map (some BE),.map (some CA),AV p0.rcnt,vS p0.rtag,Z p0.rboots] 100),AC 9 1 CB eS p0.blocks,Ab BE Z vS p0.pend,Ab CA Z vB p0.bad] H (fun u M=>(r.1=none∧u=.tuple #[.pointer none,vI r.2.1]∧M=[AK Ap (.cells #[vB r.2.2.off,vB r.2.2.isCut,vI r.2.2.lasts,vI r.2.2.counts,CB,.map (some BE),.map (some CA),AV r.2.2.rcnt,vS r.2.2.rtag,Z r.2.2.rboots] 100),AC 9 1 CB eS r.2.2.blocks,Ab BE Z vS r.2.2.pend,Ab CA Z vB r.2.2.bad])∨(∃(d:B2×A5) (bn0:Nat) (vn0x0:Value) (vn0x1:Value) (vn0x2:Value) (vn0x5:Value) (bn1:Nat) (vn1x1:Value) (mn1x5:Nat),r.1=some d∧u=.tuple #[vP bn0 0,vI r.2.1]∧M=[AK bn0 (.cells #[vn0x0,vn0x1,vn0x2,vP Ap 0,vP bn1 0,vn0x5,Z d.1.gen,vB d.1.bad] 94),AC 35 4 vn0x0 AX d.1.rows,AC 190 3 vn0x1 AT d.1.pages,Ci vn0x2 Z Z d.1.gens,AC 114 2 vn0x5 AY d.1.ring,AK bn1 (.cells #[vP Ap 0,vn1x1,Z d.2.gen,Z d.2.boot,AV d.2.seals,.map (some mn1x5)] 181),AC 114 2 vn1x1 AY d.2.ring,Ab mn1x5 Z vB d.2.taken,AK Ap (.cells #[vB r.2.2.off,vB r.2.2.isCut,vI r.2.2.lasts,vI r.2.2.counts,CB,.map (some BE),.map (some CA),AV r.2.2.rcnt,vS r.2.2.rtag,Z r.2.2.rboots] 100),AC 9 1 CB eS r.2.2.blocks,Ab BE Z vS r.2.2.pend,Ab CA Z vB r.2.2.bad])):=by
 unfold KQ at h
 refine T6.enter Tryz.func44 rfl rfl ?_
 refine Y (U E (U E (V (Y ?_))))
 refine AE h fun y1 hy1 h=>?_
 refine J E (AM 0 k6 (SG hy1 hs1_) E (J E (Af E E E (Af E E E (U E (U E (V (AH (Y (J E ?_))))))))))
 refine AA E BG (V ?_)
 refine AP h E (fun hc1 h=>?_) fun hc1 h=>?_
 refine Y (J E (U E (U E (V (AL (Ac ?_))))))
 obtain rfl:=zI h
 exact Al (ET E E E) (Ak (M:=[_,_,_,_]) (.inl ⟨E,E,E⟩) fun _ hw=>Bc.pick (H:=[_,_,_,_]) hw [0,1,2,3] 4 E)
 refine AJ (AI (Y ?_))
 refine AE h fun y2 hy2 h=>?_
 refine J E (AM 4 qw (cu hy2) E (J E (Af E E E (Af E E E (U E (U E (V (AH (Y (J E ?_))))))))))
 refine AA E BG (V ?_)
 refine AP h E (fun hc2 h=>?_) fun hc2 h=>?_
 refine Y (J E (U E (U E (V (AL (Ac ?_))))))
 obtain rfl:=zI h
 exact Al (ET E E E) (Ak (M:=[_,_,_,_]) (.inl ⟨E,E,E⟩) fun _ hw=>Bc.pick (H:=[_,_,_,_]) hw [0,1,2,3] 4 E)
 refine AJ (AI (Y ?_))
 refine AE h fun y3 hy3 h=>?_
 refine AE h fun d1 hd1 h=>?_
 refine J E (J E (J E (J E ?_)))
 refine Bo (vs:=[_,_,_,_]) (Hin:=[_,_,_,_]) (Hr:=_) E E ⟨E,E,E,E,zT⟩ qz E E (aU hy3 hs1_) ?_
 rintro _ _ (⟨hn,-,-⟩ | ⟨d_,b1,v1,m1,hn,rfl,rfl⟩)
 rw[hd1]at hn;cases hn
 obtain rfl:d1=d_:=zI (hd1.symm.trans hn)
 refine⟨trivial,?_⟩
 refine J E (Af E E E (Af E E E (U E (U E (V (Y ?_))))))
 refine AE h fun y4 hy4 h=>?_
 refine J E (J E (J E ?_))
 refine Bo (vs:=[_]) (Hin:=[]) (Hr:=_::_::_::_::_::_::_::_) E E ⟨E,zT⟩ q8 E E (j0 hy4 hs1_) ?_
 rintro v2 _ ⟨_,rfl,rfl⟩
 refine⟨trivial,?_⟩
 refine J E ?_
 refine Cu 0 E fun hv1 ho1=>?_
 refine Rw [vP Ap 0,vP b1 0,v2,Z y1.1] [#[vP Ap 0],#[vP b1 0],#[v2],#[Z y1.1]] (by simp only[List.map_cons,List.map_nil,hv1];rfl) E tM tF ta ⟨E,E,E,E,zT⟩ E ?_
 refine Ba E E zU fun b2=>?_
 refine B5 35 4 AX (B5 190 3 AT (kM Z Z (J E (U E (U E (V (AL ?_)))))))
 obtain rfl:=zI h
 exact Al (ET E E E) (Ak (M:=[_,_,_,_,_,_,_,_,_,_,_,_]) (.inr ⟨_,b2,zN,zN,(.map none),v2,b1,v1,m1,E,E,E⟩) fun _ hw=>Bc.pick (H:=[_,_,_,_,_,_,_,_,_,_,_,_]) hw [3,2,1,0,4,5,6,7,8,9,10,11] 12 E)
def EM(n:Nat)(T:List UInt32)(p0:B2)(p0_1:A5)(p0_2:Ao)(p1:List As)(p2:List BT):Option (Int×A5×Ao):=
 (KA p0_2).bind fun y1=>
 cond (!decide (y1.1=0))
 (
  some (y1.1,p0_1,y1.2))
 (
  (IE y1.2).bind fun y2=>
  (BN p2 (wI ((p2.length:Int)-1))).bind fun x1=>
  (M8 y2.cnt p0.gen (p1.length:Int) (⟨x1.page,x1.tag⟩:Bb)).bind fun y3=>
  cond (!decide (y3.2=0))
  (
   some (y3.2,p0_1,y1.2))
  (
   (KP n y3.1).bind fun y4=>
   (Ob y3.1.cnt).bind fun y5=>
   (N6 T p0_1 y1.2 y5 y4.1).bind fun y6=>
   cond (!decide (y6.2.1=0))
   (
    some (y6.2.1,y6.2.2.1,y6.2.2.2))
   (
    (KA y6.2.2.2).bind fun y7=>
    cond (!decide (y7.1=0))
    (
     some (y7.1,y6.2.2.1,y7.2))
    (
     (La y7.2 y6.1).bind fun y8=>
     some (y8.1,y6.2.2.1,y8.2)))))
theorem Mj{n Ap Cc Br BF BP BQ:Nat}{T:List UInt32}{Am Ad A3 Be Bs BR Em GK:Value}{p0:B2}{p0_1:A5}{p0_2:Ao}{p1:List As}{p2:List BT}{r:Int×A5×Ao}(h:EM n T p0 p0_1 p0_2 p1 p2=some r)(hS:GQ K w0 T)(hs1_:CG K w0 AX 4 Em p1)(hs2_:CG K w0 AT 3 GK p2):zC K w0 67 [vP Ap 0,Em,GK] [AK Ap (.cells #[Am,Ad,A3,vP BF 0,vP Cc 0,Be,Z p0.gen,vB p0.bad] 94),AC 35 4 Am AX p0.rows,AC 190 3 Ad AT p0.pages,Ci A3 Z Z p0.gens,AC 114 2 Be AY p0.ring,AK Cc (.cells #[vP BF 0,Bs,Z p0_1.gen,Z p0_1.boot,AV p0_1.seals,.map (some Br)] 181),AC 114 2 Bs AY p0_1.ring,Ab Br Z vB p0_1.taken,AK BF (.cells #[vB p0_2.off,vB p0_2.isCut,vI p0_2.lasts,vI p0_2.counts,BR,.map (some BP),.map (some BQ),AV p0_2.rcnt,vS p0_2.rtag,Z p0_2.rboots] 100),AC 9 1 BR eS p0_2.blocks,Ab BP Z vS p0_2.pend,Ab BQ Z vB p0_2.bad] H (fun u M=>u=vI r.1∧M=[AK Ap (.cells #[Am,Ad,A3,vP BF 0,vP Cc 0,Be,Z p0.gen,vB p0.bad] 94),AC 35 4 Am AX p0.rows,AC 190 3 Ad AT p0.pages,Ci A3 Z Z p0.gens,AC 114 2 Be AY p0.ring,AK Cc (.cells #[vP BF 0,Bs,Z r.2.1.gen,Z r.2.1.boot,AV r.2.1.seals,.map (some Br)] 181),AC 114 2 Bs AY r.2.1.ring,Ab Br Z vB r.2.1.taken,AK BF (.cells #[vB r.2.2.off,vB r.2.2.isCut,vI r.2.2.lasts,vI r.2.2.counts,BR,.map (some BP),.map (some BQ),AV r.2.2.rcnt,vS r.2.2.rtag,Z r.2.2.rboots] 100),AC 9 1 BR eS r.2.2.blocks,Ab BP Z vS r.2.2.pend,Ab BQ Z vB r.2.2.bad]):=by
 unfold EM at h
 refine T6.enter Tryz.func67 rfl rfl ?_
 refine Y (U E (V (AH (Y ?_))))
 refine AE h fun y1 hy1 h=>?_
 refine J E (AU E E (AF E Of (AG 0 NQ E (SL.pick [8,9,10,11,0,1,2,3,4,5,6,7] 12 (AM 4 an (Pi hy1) E (U E (V (Y (J E ?_)))))))))
 refine AA E BG (V ?_)
 refine AP h E (fun hc1 h=>?_) fun hc1 h=>?_
 refine Y (J E (U E (V (AL (Ac ?_)))))
 obtain rfl:=zI h
 exact AW [4,5,6,7,8,9,10,11,0,1,2,3] 12 E E E
 refine AJ (AI (AH ?_))
 refine AE h fun y2 hy2 h=>?_
 refine AE h fun x1 hx1 h=>?_
 refine AE h fun y3 hy3 h=>?_
 refine A2 DE [4] (CK [(true,0),(true,1),(true,2),(true,3),(true,6),(true,7),(true,8),(true,9),(true,10),(true,11),(true,12),(true,13),(true,14),(true,15),(true,16),(true,17),(true,18)] (.alt 4 (CK [(true,5)] (.alt 19 (CK [(true,20),(true,21),(true,22),(false,23),(false,24)] (.last 25 .nil)) (.cons (false,23) (CK [(false,19),(true,20),(true,21),(true,22),(false,24)] (.last 25 .nil))))) (.cons (false,23) (CK [(false,4),(true,5),(false,19),(true,20),(true,21),(true,22),(false,24)] (.last 25 .nil))))) zK (J E (AU E E (AF E Of (AG 0 NQ E (J E (AU E E (AF E iP ?_)))))))
 refine AG 0 A6 E (J E (CF hs1_ E C4 E (J E (J E (CF hs2_ E Kf E (AA E Dn ?_))))))
 refine DF hx1 hs2_ E Kf Ke E E fun be1 of1 hc2=>?_
 refine AF E KW ?_
 refine Aw [Z x1.page,vS x1.tag] E C6 E E (Xz (d:=1) hc2 E) ?_
 refine Ql ?_ ?_
 refine Bf 4 er (Oy hy2) E ⟨⟨4,E⟩,zT⟩ (Zu E (show dL Tryz.prog 43 0=some 0 by kernel_rfl) E E ?_)
 refine Ql ?_ ?_
 refine Bf 0 fE ((Qx hy3 :)) E ⟨⟨4,E⟩,zT⟩ (J E (Af E E E (Af E E E ?_)))
 refine Ar E LT (fun _=>⟨⟨5,E⟩,zT⟩) fun b1=>?_
 refine A7 0 E E E E NG E E E ⟨⟨5,E⟩,zT⟩ (Bk (U E (V (AH (Y (J E (AA E BG (V ?_))))))))
 refine AP h E (fun hc3 h=>?_) fun hc3 h=>?_
 refine Y (J E (U E (V (AL (Ac ?_)))))
 obtain rfl:=zI h
 exact AW [5,6,7,8,9,10,11,12,1,2,3,4] 13 E E E
 refine AJ (AI (Y ?_))
 refine AE h fun y4 hy4 h=>?_
 refine Aw [AV y3.1.cnt,Z y3.1.gen,Z y3.1.rows,Z y3.1.page,vS y3.1.tag] E Il E E (An 0 E) (AM 0 fF ((O2 hy4 :)) E (J E (Af E E E (Af E E E (U E (U E (V (AH ?_))))))))
 refine AE h fun y5 hy5 h=>?_
 refine AE h fun y6 hy6 h=>?_
 refine A2 DE [0,5] (CK [(true,0),(true,1),(true,2),(true,3),(true,4),(true,5),(true,7),(false,6),(false,8),(false,9),(true,10),(true,11),(false,12)] (.last 13 .nil)) zK (J E (AU E E (AF E TK (AG 1 Su E (AF E Li (AG 0 FX E (J E ?_)))))))
 refine Bf 0 aW (Qy hy5) E ⟨⟨0,E⟩,⟨5,E⟩,zT⟩ (SL.pick [10,11,12,1,2,3,4,0,5,6,7,8,9] 13 (Bf 7 fG (ST hy6 hS) E ⟨⟨7,E⟩,⟨8,E⟩,zT⟩ (J E (Af E E E (Af E E E (U E (Bk (U E (V (AH (Y ?_)))))))))))
 refine J E (AA E BG (V ?_))
 refine AP h E (fun hc4 h=>?_) fun hc4 h=>?_
 refine Y (J E (U E (V (AL (Ac ?_)))))
 obtain rfl:=zI h
 exact AW [8,9,10,11,12,0,1,2,3,4,5,6] 13 E E E
 refine AJ (AI (AH (Y ?_)))
 refine AE h fun y7 hy7 h=>?_
 refine J E (AU E E (AF E Of (AG 8 NQ E (SL.pick [3,4,5,6,0,1,2] 7 (AM 4 an (Pi hy7) E (U E (V (Y (J E ?_)))))))))
 refine AA E BG (V ?_)
 refine AP h E (fun hc5 h=>?_) fun hc5 h=>?_
 refine Y (J E (U E (V (AL (Ac ?_)))))
 obtain rfl:=zI h
 exact AW [8,9,10,11,12,4,5,6,0,1,2,3] 13 E E E
 refine AJ (AI (Y ?_))
 refine AE h fun y8 hy8 h=>?_
 refine J E (AU E E (AF E Of (AG 8 NQ E (J E (AM 4 aX (P0 hy8) E (U E (V (AL ?_))))))))
 obtain rfl:=zI h
 exact AW [8,9,10,11,12,4,5,6,0,1,2,3] 13 E E E
 refine Ar E LT (fun _=>⟨⟨5,E⟩,zT⟩) fun b1=>?_
 refine Bf 0 fE ((Qx hy3 :)) E ⟨⟨5,E⟩,zT⟩ (J E (Af E E E (Af E E E (A7 0 E E E E NG E E E ⟨⟨5,E⟩,zT⟩ (Bk (U E (V (AH (Y (J E (AA E BG (V ?_))))))))))))
 refine AP h E (fun hc3 h=>?_) fun hc3 h=>?_
 refine Y (J E (U E (V (AL (Ac ?_)))))
 obtain rfl:=zI h
 exact AW [5,6,7,8,9,10,11,12,1,2,3,4] 13 E E E
 refine AJ (AI (Y ?_))
 refine AE h fun y4 hy4 h=>?_
 refine Aw [AV y3.1.cnt,Z y3.1.gen,Z y3.1.rows,Z y3.1.page,vS y3.1.tag] E Il E E (An 0 E) (AM 0 fF ((O2 hy4 :)) E (J E (Af E E E (Af E E E (U E (U E (V (AH ?_))))))))
 refine AE h fun y5 hy5 h=>?_
 refine AE h fun y6 hy6 h=>?_
 refine A2 DE [0,5] (CK [(true,0),(true,1),(true,2),(true,3),(true,4),(true,5),(true,7),(false,6),(false,8),(false,9),(true,10),(true,11),(false,12)] (.last 13 .nil)) zK (J E (AU E E (AF E TK (AG 1 Su E (AF E Li (AG 0 FX E (J E ?_)))))))
 refine Bf 0 aW (Qy hy5) E ⟨⟨0,E⟩,⟨5,E⟩,zT⟩ (SL.pick [10,11,12,1,2,3,4,0,5,6,7,8,9] 13 (Bf 7 fG (ST hy6 hS) E ⟨⟨7,E⟩,⟨8,E⟩,zT⟩ (J E (Af E E E (Af E E E (U E (Bk (U E (V (AH (Y ?_)))))))))))
 refine J E (AA E BG (V ?_))
 refine AP h E (fun hc4 h=>?_) fun hc4 h=>?_
 refine Y (J E (U E (V (AL (Ac ?_)))))
 obtain rfl:=zI h
 exact AW [8,9,10,11,12,0,1,2,3,4,5,6] 13 E E E
 refine AJ (AI (AH (Y ?_)))
 refine AE h fun y7 hy7 h=>?_
 refine J E (AU E E (AF E Of (AG 8 NQ E (SL.pick [3,4,5,6,0,1,2] 7 (AM 4 an (Pi hy7) E (U E (V (Y (J E ?_)))))))))
 refine AA E BG (V ?_)
 refine AP h E (fun hc5 h=>?_) fun hc5 h=>?_
 refine Y (J E (U E (V (AL (Ac ?_)))))
 obtain rfl:=zI h
 exact AW [8,9,10,11,12,4,5,6,0,1,2,3] 13 E E E
 refine AJ (AI (Y ?_))
 refine AE h fun y8 hy8 h=>?_
 refine J E (AU E E (AF E Of (AG 8 NQ E (J E (AM 4 aX (P0 hy8) E (U E (V (AL ?_))))))))
 obtain rfl:=zI h
 exact AW [8,9,10,11,12,4,5,6,0,1,2,3] 13 E E E
 refine Ar E LT (fun _=>⟨⟨5,E⟩,zT⟩) fun b1=>?_
 refine SL.pick [1,2,3,4,0] 5 (Bf 4 er (Oy hy2) E ⟨⟨5,E⟩,zT⟩ (Zu E (show dL Tryz.prog 43 0=some 0 by kernel_rfl) E E (Bf 0 fE ((Qx hy3 :)) E ⟨⟨5,E⟩,zT⟩ (J E (Af E E E (Af E E E (A7 4 E E E E NG E E E ⟨⟨5,E⟩,zT⟩ (Bk ?_))))))))
 refine U E (V (AH (Y (J E (AA E BG (V ?_))))))
 refine AP h E (fun hc3 h=>?_) fun hc3 h=>?_
 refine Y (J E (U E (V (AL (Ac ?_)))))
 obtain rfl:=zI h
 exact AW [5,6,7,8,9,10,11,12,0,1,2,3] 13 E E E
 refine AJ (AI (Y ?_))
 refine AE h fun y4 hy4 h=>?_
 refine Aw [AV y3.1.cnt,Z y3.1.gen,Z y3.1.rows,Z y3.1.page,vS y3.1.tag] E Il E E (An 4 E) (AM 0 fF ((O2 hy4 :)) E (J E (Af E E E (Af E E E (U E (U E (V (AH ?_))))))))
 refine AE h fun y5 hy5 h=>?_
 refine AE h fun y6 hy6 h=>?_
 refine A2 DE [4,5] (CK [(true,0),(true,1),(true,2),(true,3),(true,4),(true,5),(true,7),(false,6),(false,8),(false,9),(true,10),(true,11),(false,12)] (.last 13 .nil)) zK (J E (AU E E (AF E TK (AG 1 Su E (AF E Li (AG 0 FX E (J E ?_)))))))
 refine Bf 0 aW (Qy hy5) E ⟨⟨4,E⟩,⟨5,E⟩,zT⟩ (SL.pick [10,11,12,0,1,2,3,4,5,6,7,8,9] 13 (Bf 7 fG (ST hy6 hS) E ⟨⟨7,E⟩,⟨8,E⟩,zT⟩ (J E (Af E E E (Af E E E (U E (Bk (U E (V (AH (Y ?_)))))))))))
 refine J E (AA E BG (V ?_))
 refine AP h E (fun hc4 h=>?_) fun hc4 h=>?_
 refine Y (J E (U E (V (AL (Ac ?_)))))
 obtain rfl:=zI h
 exact AW [8,9,10,11,12,0,1,2,3,4,5,6] 13 E E E
 refine AJ (AI (AH (Y ?_)))
 refine AE h fun y7 hy7 h=>?_
 refine J E (AU E E (AF E Of (AG 8 NQ E (SL.pick [3,4,5,6,0,1,2] 7 (AM 4 an (Pi hy7) E (U E (V (Y (J E ?_)))))))))
 refine AA E BG (V ?_)
 refine AP h E (fun hc5 h=>?_) fun hc5 h=>?_
 refine Y (J E (U E (V (AL (Ac ?_)))))
 obtain rfl:=zI h
 exact AW [8,9,10,11,12,4,5,6,0,1,2,3] 13 E E E
 refine AJ (AI (Y ?_))
 refine AE h fun y8 hy8 h=>?_
 refine J E (AU E E (AF E Of (AG 8 NQ E (J E (AM 4 aX (P0 hy8) E (U E (V (AL ?_))))))))
 obtain rfl:=zI h
 exact AW [8,9,10,11,12,4,5,6,0,1,2,3] 13 E E E
def F5(a2:Int)(nx_f_store_Store_moves_l2:List (UInt32×UInt32)×Int→Option (B2×A5))(l6:List (UInt32×UInt32)):Option (B2×A5):=
 nx_f_store_Store_moves_l2 (l6,wI (a2+1))
def F6(a3:Int)(nx_f_store_Store_moves_l3:A5×Int→Option (B2×A5))(o3:A5):Option (B2×A5):=
 nx_f_store_Store_moves_l3 (o3,wI (a3+1))
def IZ(p0:B2)(p1:List As)(p2:List BT)(l4:List (UInt32×UInt32))(o1:A5):Option (B2×A5):=
 some ({ p0 with rows:=p1,pages:=p2,gens:=l4 },o1)
def ES(p0:B2)(p0_2:Ao)(p1:List As)(p2:List BT)(l4:List (UInt32×UInt32))(nx_f_store_Store_moves_l3:A5×Int→Option (B2×A5))(o2:A5)(a3:Int):Option (B2×A5):=
 cond (decide (a3<(p0.pages.length:Int)))
 (
  (BN p0.pages a3).bind fun x3=>
  ret ((C0 l4 x3.page).getD 0) fun x4=>
  ret ((C0 l4 x3.page).isSome) fun ok_1=>
  cond (!ok_1)
  (
   (KR o2 p0_2 x3.page).bind fun y1=>
   F6 a3 nx_f_store_Store_moves_l3 y1.2)
  (
   F6 a3 nx_f_store_Store_moves_l3 o2))
 (
  IZ p0 p1 p2 l4 o2)
def Ey(p0:B2)(p0_2:Ao)(p1:List As)(p2:List BT)(l4:List (UInt32×UInt32)):Nat→(A5×Int)→Option (B2×A5):=CO fun nx x=>ES p0 p0_2 p1 p2 l4 nx x.1 x.2
def IY(n:Nat)(p0:B2)(p0_1:A5)(p0_2:Ao)(p1:List As)(p2:List BT)(l4:List (UInt32×UInt32)):Option (B2×A5):=
 Ey p0 p0_2 p1 p2 l4 n (p0_1,0)
def DN(n:Nat)(p0:B2)(p0_1:A5)(p0_2:Ao)(p1:List As)(p2:List BT)(l1:List (UInt32×BT))(nx_f_store_Store_moves_l2:List (UInt32×UInt32)×Int→Option (B2×A5))(l5:List (UInt32×UInt32))(a2:Int):Option (B2×A5):=
 cond (decide (a2<(p2.length:Int)))
 (
  (BN p2 a2).bind fun x2=>
  (ND l5 x2.page p0.gen).bind fun l7=>
  cond (decide (((C0 l1 x2.page).getD (⟨[],0,[]⟩:BT)).txt=x2.txt)&&(decide (((C0 l1 x2.page).getD (⟨[],0,[]⟩:BT)).page=x2.page)&&(decide (((C0 l1 x2.page).getD (⟨[],0,[]⟩:BT)).tag=x2.tag)&&true)))
  (
   (ND l7 x2.page ((C0 p0.gens x2.page).getD 0)).bind fun l8=>
   F5 a2 nx_f_store_Store_moves_l2 l8)
  (
   F5 a2 nx_f_store_Store_moves_l2 l7))
 (
  IY n p0 p0_1 p0_2 p1 p2 l5)
def D5(n:Nat)(p0:B2)(p0_1:A5)(p0_2:Ao)(p1:List As)(p2:List BT)(l1:List (UInt32×BT)):Nat→(List (UInt32×UInt32)×Int)→Option (B2×A5):=CO fun nx x=>DN n p0 p0_1 p0_2 p1 p2 l1 nx x.1 x.2
def IX(n:Nat)(p0:B2)(p0_1:A5)(p0_2:Ao)(p1:List As)(p2:List BT)(l1:List (UInt32×BT)):Option (B2×A5):=
 D5 n p0 p0_1 p0_2 p1 p2 l1 n ([],0)
def HH(n:Nat)(p0:B2)(p0_1:A5)(p0_2:Ao)(p1:List As)(p2:List BT)(nx_f_store_Store_moves_l1:List (UInt32×BT)×Int→Option (B2×A5))(l2:List (UInt32×BT))(a1:Int):Option (B2×A5):=
 cond (decide (a1<(p0.pages.length:Int)))
 (
  (BN p0.pages a1).bind fun x1=>
  (ND l2 x1.page x1).bind fun l3=>
  nx_f_store_Store_moves_l1 (l3,wI (a1+1)))
 (
  IX n p0 p0_1 p0_2 p1 p2 l2)
def Ia(n:Nat)(p0:B2)(p0_1:A5)(p0_2:Ao)(p1:List As)(p2:List BT):Nat→(List (UInt32×BT)×Int)→Option (B2×A5):=CO fun nx x=>HH n p0 p0_1 p0_2 p1 p2 nx x.1 x.2
def Db(n:Nat)(p0:B2)(p0_1:A5)(p0_2:Ao)(p1:List As)(p2:List BT):Option (B2×A5):=
 Ia n p0 p0_1 p0_2 p1 p2 n ([],0)
theorem N5{n Ap Cc Br BF BP BQ:Nat}{Am Ad A3 Be Bs BR Em GK:Value}{p0:B2}{p0_1:A5}{p0_2:Ao}{p1:List As}{p2:List BT}{r:B2×A5}(h:Db n p0 p0_1 p0_2 p1 p2=some r): zC K w0 68 [vP Ap 0,Em,GK] [AK Ap (.cells #[Am,Ad,A3,vP BF 0,vP Cc 0,Be,Z p0.gen,vB p0.bad] 94),AC 35 4 Am AX p0.rows,AC 190 3 Ad AT p0.pages,Ci A3 Z Z p0.gens,AC 114 2 Be AY p0.ring,AK Cc (.cells #[vP BF 0,Bs,Z p0_1.gen,Z p0_1.boot,AV p0_1.seals,.map (some Br)] 181),AC 114 2 Bs AY p0_1.ring,Ab Br Z vB p0_1.taken,AK BF (.cells #[vB p0_2.off,vB p0_2.isCut,vI p0_2.lasts,vI p0_2.counts,BR,.map (some BP),.map (some BQ),AV p0_2.rcnt,vS p0_2.rtag,Z p0_2.rboots] 100),AC 9 1 BR eS p0_2.blocks,Ab BP Z vS p0_2.pend,Ab BQ Z vB p0_2.bad,AC 35 4 Em AX p1,AC 190 3 GK AT p2] H (fun u M=>∃vs0_0_0 vs0_0_1 vs0_0_2:Value,u=.tuple #[]∧M=[AK Ap (.cells #[vs0_0_0,vs0_0_1,vs0_0_2,vP BF 0,vP Cc 0,Be,Z r.1.gen,vB r.1.bad] 94),AC 35 4 vs0_0_0 AX r.1.rows,AC 190 3 vs0_0_1 AT r.1.pages,Ci vs0_0_2 Z Z r.1.gens,AC 114 2 Be AY r.1.ring,AK Cc (.cells #[vP BF 0,Bs,Z r.2.gen,Z r.2.boot,AV r.2.seals,.map (some Br)] 181),AC 114 2 Bs AY r.2.ring,Ab Br Z vB r.2.taken,AK BF (.cells #[vB p0_2.off,vB p0_2.isCut,vI p0_2.lasts,vI p0_2.counts,BR,.map (some BP),.map (some BQ),AV p0_2.rcnt,vS p0_2.rtag,Z p0_2.rboots] 100),AC 9 1 BR eS p0_2.blocks,Ab BP Z vS p0_2.pend,Ab BQ Z vB p0_2.bad]):=by
 unfold Db at h
 refine T6.enter Tryz.func68 rfl rfl ?_
 refine Y ?_
 refine TA Z UH E zU fun b1=>?_
 refine U E (V ?_)
 refine BB (α:=List (UInt32×BT)) (fun x=>IX n p0 p0_1 p0_2 p1 p2 x=some r) (fun x=>[(0,vP Ap 0),(1,Em),(2,GK),(6,.map (some b1))]) (fun x=>AK Ap (.cells #[Am,Ad,A3,vP BF 0,vP Cc 0,Be,Z p0.gen,vB p0.bad] 94)::AC 35 4 Am AX p0.rows::AC 190 3 Ad AT p0.pages::Ci A3 Z Z p0.gens::AK BF (.cells #[vB p0_2.off,vB p0_2.isCut,vI p0_2.lasts,vI p0_2.counts,BR,.map (some BP),.map (some BQ),AV p0_2.rcnt,vS p0_2.rtag,Z p0_2.rboots] 100)::AC 9 1 BR eS p0_2.blocks::Ab BP Z vS p0_2.pend::Ab BQ Z vB p0_2.bad::AK Cc (.cells #[vP BF 0,Bs,Z p0_1.gen,Z p0_1.boot,AV p0_1.seals,.map (some Br)] 181)::AC 114 2 Bs AY p0_1.ring::Ab Br Z vB p0_1.taken::AC 114 2 Be AY p0.ring::AC 35 4 Em AX p1::AC 190 3 GK AT p2::Ab b1 Z UH x::H) ?_ (fun l1 D h=>?_)
 refine Y (J E (AU E E (AF E Ps (AF E bD (AG 1 Qf E (Di 3 E Kf E E (J E (V (AQ ?_)))))))))
 refine SX.heap (SX.mono (BU (α:=Nat×List (UInt32×BT)×Int) (fun x=>Ia n p0 p0_1 p0_2 p1 p2 x.1 (x.2.1,x.2.2)=some r) (fun x=>[(0,vP Ap 0),(1,Em),(2,GK),(6,.map (some b1)),(21,Ad),(22,vI (p0.pages.length:Int)),(23,vI x.2.2)]) (fun x=>AK Ap (.cells #[Am,Ad,A3,vP BF 0,vP Cc 0,Be,Z p0.gen,vB p0.bad] 94)::AC 35 4 Am AX p0.rows::AC 190 3 Ad AT p0.pages::Ci A3 Z Z p0.gens::AK BF (.cells #[vB p0_2.off,vB p0_2.isCut,vI p0_2.lasts,vI p0_2.counts,BR,.map (some BP),.map (some BQ),AV p0_2.rcnt,vS p0_2.rtag,Z p0_2.rboots] 100)::AC 9 1 BR eS p0_2.blocks::Ab BP Z vS p0_2.pend::Ab BQ Z vB p0_2.bad::AK Cc (.cells #[vP BF 0,Bs,Z p0_1.gen,Z p0_1.boot,AV p0_1.seals,.map (some Br)] 181)::AC 114 2 Bs AY p0_1.ring::Ab Br Z vB p0_1.taken::AC 114 2 Be AY p0.ring::AC 35 4 Em AX p1::AC 190 3 GK AT p2::Ab b1 Z UH x.2.1::H) (fun x=>x.1) (fun x D h=>?_) (n,[],0) h) tL) (BX [1,2,3,4,9,10,11,12,6,7,8,5,13,14,0] 15 E E E)
 obtain⟨m1,l2,a1⟩:=x
 dsimp only at h
 rcases m1 with _ | m1
 cases (show(none:Option _)=some r from h)
 replace h:HH n p0 p0_1 p0_2 p1 p2 (Ia n p0 p0_1 p0_2 p1 p2 m1) l2 a1=some r:=h
 unfold HH at h
 try dsimp only
 refine Y (AA E BD (V (AH ?_)))
 refine AP h E (fun hc1 h=>?_) fun hc1 h=>?_
 refine AJ (AI (AH (AQ (Y ?_))))
 refine AE h fun x1 hx1 h=>?_
 refine CL 2 hx1 E Kf Ke E E E fun g1 m2 cp1 hv1=>?_
 refine Aw (AT x1) E R5 E E (MX (sz:=3) (enc:=AT) 2 zV E hv1 hx1) ?_
 refine Ar E PX zU fun b2=>?_
 refine A7 0 E E E E Ke E E E zT (V (AS ?_))
 refine AE h fun l3 hl3 h=>?_
 refine J E (AF E KW (AF E FW (AG 0 A6 E (Aw [vS x1.txt,Z x1.page,vS x1.tag] E R5 E E (An 0 E) ?_))))
 refine QM (a:=x1) 15 hl3 (Uh CP) E mg E E E E zT ?_
 refine Aa (Ay (AI (AS (AA E Bu (J E (Aa ?_))))))
 exact A1 (m1,l3,wI (a1+1)) h (Nat.lt_succ_self _) tL (BX [1,2,3,4,5,6,7,8,9,10,11,12,13,14,15] 16 E E E)
 refine A4 (A9 (Bi (BA ?_)))
 exact Az l2 h tL (BX [0,1,2,3,4,5,6,7,8,9,10,11,12,13,14] 15 E E E)
 unfold IX at h
 try dsimp only
 refine Y ?_
 refine TA Z Z E zU fun b3=>?_
 refine U E (V ?_)
 refine BB (α:=List (UInt32×UInt32)) (fun x=>IY n p0 p0_1 p0_2 p1 p2 x=some r) (fun x=>[(0,vP Ap 0),(1,Em),(2,GK),(9,.map (some b3))]) (fun x=>AK Ap (.cells #[Am,Ad,A3,vP BF 0,vP Cc 0,Be,Z p0.gen,vB p0.bad] 94)::AC 35 4 Am AX p0.rows::AC 190 3 Ad AT p0.pages::Ci A3 Z Z p0.gens::AK BF (.cells #[vB p0_2.off,vB p0_2.isCut,vI p0_2.lasts,vI p0_2.counts,BR,.map (some BP),.map (some BQ),AV p0_2.rcnt,vS p0_2.rtag,Z p0_2.rboots] 100)::AC 9 1 BR eS p0_2.blocks::Ab BP Z vS p0_2.pend::Ab BQ Z vB p0_2.bad::AK Cc (.cells #[vP BF 0,Bs,Z p0_1.gen,Z p0_1.boot,AV p0_1.seals,.map (some Br)] 181)::AC 114 2 Bs AY p0_1.ring::Ab Br Z vB p0_1.taken::AC 114 2 Be AY p0.ring::AC 35 4 Em AX p1::AC 190 3 GK AT p2::Ab b3 Z Z x::H) ?_ (fun l4 D h=>?_)
 refine Y (J E (Di 14 E Kf E E (J E (V (AQ ?_)))))
 refine SX.heap (SX.mono (BU (α:=Nat×List (UInt32×UInt32)×Int) (fun x=>D5 n p0 p0_1 p0_2 p1 p2 l1 x.1 (x.2.1,x.2.2)=some r) (fun x=>[(0,vP Ap 0),(1,Em),(2,GK),(6,.map (some b1)),(9,.map (some b3)),(34,GK),(35,vI (p2.length:Int)),(36,vI x.2.2)]) (fun x=>AK Ap (.cells #[Am,Ad,A3,vP BF 0,vP Cc 0,Be,Z p0.gen,vB p0.bad] 94)::AC 35 4 Am AX p0.rows::AC 190 3 Ad AT p0.pages::Ci A3 Z Z p0.gens::AK BF (.cells #[vB p0_2.off,vB p0_2.isCut,vI p0_2.lasts,vI p0_2.counts,BR,.map (some BP),.map (some BQ),AV p0_2.rcnt,vS p0_2.rtag,Z p0_2.rboots] 100)::AC 9 1 BR eS p0_2.blocks::Ab BP Z vS p0_2.pend::Ab BQ Z vB p0_2.bad::AK Cc (.cells #[vP BF 0,Bs,Z p0_1.gen,Z p0_1.boot,AV p0_1.seals,.map (some Br)] 181)::AC 114 2 Bs AY p0_1.ring::Ab Br Z vB p0_1.taken::AC 114 2 Be AY p0.ring::AC 35 4 Em AX p1::AC 190 3 GK AT p2::Ab b1 Z UH l1::Ab b3 Z Z x.2.1::H) (fun x=>x.1) (fun x D h=>?_) (n,[],0) h) tL) (BX [1,2,3,4,5,6,7,8,9,10,11,12,13,14,15,0] 16 E E E)
 obtain⟨m3,l5,a2⟩:=x
 dsimp only at h
 rcases m3 with _ | m3
 cases (show(none:Option _)=some r from h)
 replace h:DN n p0 p0_1 p0_2 p1 p2 l1 (D5 n p0 p0_1 p0_2 p1 p2 l1 m3) l5 a2=some r:=h
 unfold DN at h
 try dsimp only
 refine Y (AA E BD (V (AH ?_)))
 refine AP h E (fun hc2 h=>?_) fun hc2 h=>?_
 refine AJ (AI ?_)
 refine BB (α:=List (UInt32×UInt32)) (fun x=>F5 a2 (D5 n p0 p0_1 p0_2 p1 p2 l1 m3) x=some r) (fun x=>[(0,vP Ap 0),(1,Em),(2,GK),(6,.map (some b1)),(9,.map (some b3)),(34,GK),(35,vI (p2.length:Int)),(36,vI a2)]) (fun x=>AK Ap (.cells #[Am,Ad,A3,vP BF 0,vP Cc 0,Be,Z p0.gen,vB p0.bad] 94)::AC 35 4 Am AX p0.rows::AC 190 3 Ad AT p0.pages::Ci A3 Z Z p0.gens::AK BF (.cells #[vB p0_2.off,vB p0_2.isCut,vI p0_2.lasts,vI p0_2.counts,BR,.map (some BP),.map (some BQ),AV p0_2.rcnt,vS p0_2.rtag,Z p0_2.rboots] 100)::AC 9 1 BR eS p0_2.blocks::Ab BP Z vS p0_2.pend::Ab BQ Z vB p0_2.bad::AK Cc (.cells #[vP BF 0,Bs,Z p0_1.gen,Z p0_1.boot,AV p0_1.seals,.map (some Br)] 181)::AC 114 2 Bs AY p0_1.ring::Ab Br Z vB p0_1.taken::AC 114 2 Be AY p0.ring::AC 35 4 Em AX p1::AC 190 3 GK AT p2::Ab b1 Z UH l1::Ab b3 Z Z x::H) ?_ (fun l6 D h=>?_)
 refine AQ (Y ?_)
 refine AE h fun x2 hx2 h=>?_
 refine CL 13 hx2 E Kf Ke E E E fun g2 m4 cp2 hv2=>?_
 refine Aw (AT x2) E R5 E E (MX (sz:=3) (enc:=AT) 13 zV E hv2 hx2) ?_
 refine Ar E PX zU fun b4=>?_
 refine A7 0 E E E E Ke E E E zT (V (AH ?_))
 refine AE h fun l7 hl7 h=>?_
 refine A2 DE [0,1] (CK [(true,0),(true,1),(true,2),(true,3),(true,4),(true,5),(true,6),(true,7)] (.last 8 .nil)) zK (J E (AF E KW (AF E FW (AG 0 A6 E (J E (AU E E (AF E iP ?_)))))))
 refine AG 1 A6 E (Bk (QM 16 hl7 (Qj CP) E im E E E E zT (V (Y (J E (AF E KW (AF E FW (AG 0 A6 E ?_))))))))
 refine W3 (zv:=(⟨[],0,[]⟩:BT)) 15 (Uh CP) E mg PX E E E ?_
 refine Aw [vS x2.txt,Z x2.page,vS x2.tag] E R5 E E (An 0 E) ?_
 refine XO E (show dM Tryz.prog 190=some [(0,.string),(1,.int .u32),(2,.string)] by kernel_rfl) E E (Cj E E (UJ (a:=((C0 l1 x2.page).getD (⟨[],0,[]⟩:BT)).txt) (b:=x2.txt)) (Cj E E (Kr (a:=((C0 l1 x2.page).getD (⟨[],0,[]⟩:BT)).page) (b:=x2.page)) (Cj E E (UJ (a:=((C0 l1 x2.page).getD (⟨[],0,[]⟩:BT)).tag) (b:=x2.tag)) KT))) ?_
 refine V ?_
 refine AP h E (fun hc3 h=>?_) fun hc3 h=>?_
 refine AE h fun l8 hl8 h=>?_
 refine A2 DE [0,1,4] (CK [(true,0),(true,1),(true,2),(true,3),(true,4),(true,5),(true,6),(true,7),(true,8),(true,9),(true,10),(true,11),(true,12)] (.last 13 .nil)) zK (J E (AF E KW (AF E FW (AG 0 A6 E (J E (AU E E (AF E Ps ?_)))))))
 refine AF E pb (AG 1 tQ E (AF E KW (AF E FW (AG 0 A6 E ?_))))
 refine kI (zv:=0) 2 (Qj CP) E im H4 E E E ?_
 refine Bk (QM 16 hl8 (Qj CP) E im E E E E zT (Aa (Ay ?_)))
 exact Az l8 h tL (BX [1,2,3,4,5,6,7,8,9,10,11,12,13,14,15,16] 17 E E E)
 refine AJ (Ay ?_)
 exact Az l7 h tL (BX [1,2,3,4,5,6,7,8,9,10,11,12,13,14,15,16] 17 E E E)
 unfold F5 at h
 try dsimp only
 refine AS (AA E Bu (J E (Aa ?_)))
 exact A1 (m3,l6,wI (a2+1)) h (Nat.lt_succ_self _) tL (BX [0,1,2,3,4,5,6,7,8,9,10,11,12,13,14,15] 16 E E E)
 refine A4 (A9 (Bi (BA ?_)))
 exact Az l5 h tL (BX [0,1,2,3,4,5,6,7,8,9,10,11,12,13,15] 16 E E E)
 unfold IY at h
 try dsimp only
 refine BB (α:=A5) (fun x=>IZ p0 p1 p2 l4 x=some r) (fun x=>[(0,vP Ap 0),(1,Em),(2,GK),(9,.map (some b3))]) (fun x=>AK Ap (.cells #[Am,Ad,A3,vP BF 0,vP Cc 0,Be,Z p0.gen,vB p0.bad] 94)::AC 35 4 Am AX p0.rows::AC 190 3 Ad AT p0.pages::Ci A3 Z Z p0.gens::AK BF (.cells #[vB p0_2.off,vB p0_2.isCut,vI p0_2.lasts,vI p0_2.counts,BR,.map (some BP),.map (some BQ),AV p0_2.rcnt,vS p0_2.rtag,Z p0_2.rboots] 100)::AC 9 1 BR eS p0_2.blocks::Ab BP Z vS p0_2.pend::Ab BQ Z vB p0_2.bad::AK Cc (.cells #[vP BF 0,Bs,Z x.gen,Z x.boot,AV x.seals,.map (some Br)] 181)::AC 114 2 Bs AY x.ring::Ab Br Z vB x.taken::AC 114 2 Be AY p0.ring::AC 35 4 Em AX p1::AC 190 3 GK AT p2::Ab b3 Z Z l4::H) ?_ (fun o1 D h=>?_)
 refine Y (J E (AU E E (AF E Ps (AF E bD (AG 0 Qf E (Di 2 E Kf E E (J E (V (AQ ?_)))))))))
 refine SX.heap (SX.mono (BU (α:=Nat×A5×Int) (fun x=>Ey p0 p0_2 p1 p2 l4 x.1 (x.2.1,x.2.2)=some r) (fun x=>[(0,vP Ap 0),(1,Em),(2,GK),(9,.map (some b3)),(73,Ad),(74,vI (p0.pages.length:Int)),(75,vI x.2.2)]) (fun x=>AK Ap (.cells #[Am,Ad,A3,vP BF 0,vP Cc 0,Be,Z p0.gen,vB p0.bad] 94)::AC 35 4 Am AX p0.rows::AC 190 3 Ad AT p0.pages::Ci A3 Z Z p0.gens::AK BF (.cells #[vB p0_2.off,vB p0_2.isCut,vI p0_2.lasts,vI p0_2.counts,BR,.map (some BP),.map (some BQ),AV p0_2.rcnt,vS p0_2.rtag,Z p0_2.rboots] 100)::AC 9 1 BR eS p0_2.blocks::Ab BP Z vS p0_2.pend::Ab BQ Z vB p0_2.bad::AK Cc (.cells #[vP BF 0,Bs,Z x.2.1.gen,Z x.2.1.boot,AV x.2.1.seals,.map (some Br)] 181)::AC 114 2 Bs AY x.2.1.ring::Ab Br Z vB x.2.1.taken::AC 114 2 Be AY p0.ring::AC 35 4 Em AX p1::AC 190 3 GK AT p2::Ab b3 Z Z l4::H) (fun x=>x.1) (fun x D h=>?_) (n,p0_1,0) h) tL) (BX [0,1,2,3,4,5,6,7,8,9,10,11,12,13,14] 15 E E E)
 obtain⟨m5,o2,a3⟩:=x
 dsimp only at h
 rcases m5 with _ | m5
 cases (show(none:Option _)=some r from h)
 replace h:ES p0 p0_2 p1 p2 l4 (Ey p0 p0_2 p1 p2 l4 m5) o2 a3=some r:=h
 unfold ES at h
 try dsimp only
 refine Y (AA E BD (V (AH ?_)))
 refine AP h E (fun hc4 h=>?_) fun hc4 h=>?_
 refine AJ (AI ?_)
 refine BB (α:=A5) (fun x=>F6 a3 (Ey p0 p0_2 p1 p2 l4 m5) x=some r) (fun x=>[(0,vP Ap 0),(1,Em),(2,GK),(9,.map (some b3)),(73,Ad),(74,vI (p0.pages.length:Int)),(75,vI a3)]) (fun x=>AK Ap (.cells #[Am,Ad,A3,vP BF 0,vP Cc 0,Be,Z p0.gen,vB p0.bad] 94)::AC 35 4 Am AX p0.rows::AC 190 3 Ad AT p0.pages::Ci A3 Z Z p0.gens::AK BF (.cells #[vB p0_2.off,vB p0_2.isCut,vI p0_2.lasts,vI p0_2.counts,BR,.map (some BP),.map (some BQ),AV p0_2.rcnt,vS p0_2.rtag,Z p0_2.rboots] 100)::AC 9 1 BR eS p0_2.blocks::Ab BP Z vS p0_2.pend::Ab BQ Z vB p0_2.bad::AK Cc (.cells #[vP BF 0,Bs,Z x.gen,Z x.boot,AV x.seals,.map (some Br)] 181)::AC 114 2 Bs AY x.ring::Ab Br Z vB x.taken::AC 114 2 Be AY p0.ring::AC 35 4 Em AX p1::AC 190 3 GK AT p2::Ab b3 Z Z l4::H) ?_ (fun o3 D h=>?_)
 refine AQ (Y ?_)
 refine AE h fun x3 hx3 h=>?_
 refine CL 2 hx3 E Kf Ke E E E fun g3 m6 cp3 hv3=>?_
 refine Aw (AT x3) E R5 E E (MX (sz:=3) (enc:=AT) 2 zV E hv3 hx3) ?_
 refine Ar E PX zU fun b5=>?_
 refine A7 0 E E E E Ke E E E zT (V (Y ?_))
 obtain⟨x4,ex4,h⟩:=By h
 obtain⟨ok_1,eok_1,h⟩:=By h
 refine J E (AF E KW (AF E FW (AG 0 A6 E ?_)))
 refine ZF (zv:=0) 15 (Qj CP) E im H4 E E E ?_
 refine J E (Af E E E (Af E E E ?_))
 refine Aq (u:=Z x4) E E (congrArg Z ex4) ?_
 refine Aq (u:=vB ok_1) E E (congrArg vB eok_1) ?_
 refine V (Y (J E (CW E E (V ?_))))
 refine AP h E (fun hc5 h=>?_) fun hc5 h=>?_
 refine AE h fun y1 hy1 h=>?_
 refine A2 DE [0,1] (CK [(true,0),(true,1),(true,2),(true,3),(true,4),(true,5),(true,6)] (.last 7 .nil)) zK (J E (AU E E (AF E TK (AG 1 Su E (AF E KW (AF E FW (AG 0 A6 E (Bk ?_))))))))
 refine SL.pick [9,10,11,5,6,7,8,0,1,2,3,4] 12 (AM 7 lK (Xu hy1) E (Aa (Ay ?_)))
 exact Az y1.2 h tL (BX [8,9,10,11,3,4,5,6,0,1,2,12,13,14,15] 16 E E E)
 refine AJ (Ay ?_)
 exact Az o2 h tL (BX [1,2,3,4,5,6,7,8,9,10,11,12,13,14,15] 16 E E E)
 unfold F6 at h
 try dsimp only
 refine AS (AA E Bu (J E (Aa ?_)))
 exact A1 (m5,o3,wI (a3+1)) h (Nat.lt_succ_self _) tL (BX [0,1,2,3,4,5,6,7,8,9,10,11,12,13,14] 15 E E E)
 refine A4 (A9 (Bi (BA ?_)))
 exact Az o2 h tL (BX [0,1,2,3,4,5,6,7,8,9,10,11,12,13,14] 15 E E E)
 unfold IZ at h
 try dsimp only
 refine AS (J E (J E (J E (J E ?_))))
 refine Cu 12 E fun hv4 ho1=>?_
 refine Cu 13 E fun hv5 ho2=>?_
 refine Rw [Em,GK,.map (some b3)] [#[Em],#[GK],#[.map (some b3)]] (by simp only[List.map_cons,List.map_nil,hv4,hv5];rfl) E tK tE tZ ⟨E,E,E,zT⟩ E (AU E E (AF E Ps ?_))
 refine Cu 12 E fun hv6 ho3=>?_
 refine Cu 13 E fun hv7 ho4=>?_
 refine A7 0 E E E E tU E (show[Em,GK,.map (some b3)].all (·.oneCell')=true by simp only[List.all_cons,ho3,ho4];rfl) E zT ?_
 refine nX 14 E ?_ zT
 refine Aa ?_
 obtain rfl:=zI h
 exact C9 (Dh E) (Ak (M:=[_,_,_,_,_,_,_,_,_,_,_,_]) ⟨Em,GK,(.map (some b3)),E,E⟩ fun _ hw=>Bc.pick (H:=[_,_,_,_,_,_,_,_,_,_,_,_,_,_,_]) hw [0,12,13,14,11,8,9,10,4,5,6,7] 15 E)
def Ek(n:Nat)(p0:B2)(p1:List As)(y1:List BT×Int×A5×Ao)(o1:Ao)(o2:A5)(a1:Int):Option (Int×B2×A5×Ao):=
 cond (!decide (a1=0))
 (
  some (a1,{ p0 with bad:=true },o2,o1))
 (
  (Db n p0 o2 o1 p1 y1.1).bind fun y3=>
  some (0,y3.1,y3.2,o1))
def Dt(n:Nat)(T:List UInt32)(p0:B2)(p0_1:A5)(p0_2:Ao)(p1:List As)(p2:List BT):Option (Int×B2×A5×Ao):=
 (Ss n T p0_1 p0_2 p1 p2).bind fun y1=>
 ret (decide (y1.2.1=110)) fun x1=>
 cond x1
 (
  some (y1.2.1,p0,y1.2.2.1,y1.2.2.2))
 (
  ret (decide (y1.2.1=0)) fun x2=>
  cond x2
  (
   (EM n T p0 y1.2.2.1 y1.2.2.2 p1 y1.1).bind fun y2=>
   Ek n p0 p1 y1 y2.2.2 y2.2.1 y2.1)
  (
   Ek n p0 p1 y1 y1.2.2.2 y1.2.2.1 y1.2.1))
theorem Rr{n Ap Cc Br BF BP BQ:Nat}{T:List UInt32}{Am Ad A3 Be Bs BR Em GK:Value}{p0:B2}{p0_1:A5}{p0_2:Ao}{p1:List As}{p2:List BT}{r:Int×B2×A5×Ao}(h:Dt n T p0 p0_1 p0_2 p1 p2=some r)(hS:GQ K w0 T)(hs2_:CG K w0 AT 3 GK p2):zC K w0 45 [vP Ap 0,Em,GK] [AK Ap (.cells #[Am,Ad,A3,vP BF 0,vP Cc 0,Be,Z p0.gen,vB p0.bad] 94),AC 35 4 Am AX p0.rows,AC 190 3 Ad AT p0.pages,Ci A3 Z Z p0.gens,AC 114 2 Be AY p0.ring,AK Cc (.cells #[vP BF 0,Bs,Z p0_1.gen,Z p0_1.boot,AV p0_1.seals,.map (some Br)] 181),AC 114 2 Bs AY p0_1.ring,Ab Br Z vB p0_1.taken,AK BF (.cells #[vB p0_2.off,vB p0_2.isCut,vI p0_2.lasts,vI p0_2.counts,BR,.map (some BP),.map (some BQ),AV p0_2.rcnt,vS p0_2.rtag,Z p0_2.rboots] 100),AC 9 1 BR eS p0_2.blocks,Ab BP Z vS p0_2.pend,Ab BQ Z vB p0_2.bad,AC 35 4 Em AX p1] H (fun u M=>∃vs0_0_0 vs0_0_1 vs0_0_2:Value,u=vI r.1∧M=[AK Ap (.cells #[vs0_0_0,vs0_0_1,vs0_0_2,vP BF 0,vP Cc 0,Be,Z r.2.1.gen,vB r.2.1.bad] 94),AC 35 4 vs0_0_0 AX r.2.1.rows,AC 190 3 vs0_0_1 AT r.2.1.pages,Ci vs0_0_2 Z Z r.2.1.gens,AC 114 2 Be AY r.2.1.ring,AK Cc (.cells #[vP BF 0,Bs,Z r.2.2.1.gen,Z r.2.2.1.boot,AV r.2.2.1.seals,.map (some Br)] 181),AC 114 2 Bs AY r.2.2.1.ring,Ab Br Z vB r.2.2.1.taken,AK BF (.cells #[vB r.2.2.2.off,vB r.2.2.2.isCut,vI r.2.2.2.lasts,vI r.2.2.2.counts,BR,.map (some BP),.map (some BQ),AV r.2.2.2.rcnt,vS r.2.2.2.rtag,Z r.2.2.2.rboots] 100),AC 9 1 BR eS r.2.2.2.blocks,Ab BP Z vS r.2.2.2.pend,Ab BQ Z vB r.2.2.2.bad]):=by
 unfold Dt at h
 refine T6.enter Tryz.func45 rfl rfl ?_
 refine Y (U E (V (Y ?_)))
 refine AE h fun y1 hy1 h=>?_
 refine J E (AU E E (AF E TK (AG 0 Su E (J E (J E (SL.pick [12,5,6,7,8,9,10,11,0,1,2,3,4] 13 ?_))))))
 refine Bo (vs:=[_,_,_]) (Hin:=[_,_,_,_,_,_,_,_]) (Hr:=_::_::_::_::_::_) E E ⟨E,E,E,zT⟩ lB E E (Cl (B:=[_]) (Hin:=[_,_,_,_,_,_,_]) fun K' w1 hk hB=>ir hy1 (hS.keeps hk) (CY (e:=35) (v:=Em) zV (hB _ zS)) (hs2_.keeps hk)) ?_
 rintro _ _ ⟨_,rfl,v1,rfl,rfl⟩
 refine⟨trivial,?_⟩
 refine J E (Af E E E (Af E E E (U E (U E (V ?_)))))
 refine BB (α:=Ao×A5×Int) (fun x=>Ek n p0 p1 y1 x.1 x.2.1 x.2.2=some r) (fun x=>[(0,vP Ap 0),(1,Em),(7,v1),(8,vI x.2.2)]) (fun x=>AK Ap (.cells #[Am,Ad,A3,vP BF 0,vP Cc 0,Be,Z p0.gen,vB p0.bad] 94)::AC 35 4 Am AX p0.rows::AC 190 3 Ad AT p0.pages::Ci A3 Z Z p0.gens::AK BF (.cells #[vB x.1.off,vB x.1.isCut,vI x.1.lasts,vI x.1.counts,BR,.map (some BP),.map (some BQ),AV x.1.rcnt,vS x.1.rtag,Z x.1.rboots] 100)::AC 9 1 BR eS x.1.blocks::Ab BP Z vS x.1.pend::Ab BQ Z vB x.1.bad::AK Cc (.cells #[vP BF 0,Bs,Z x.2.1.gen,Z x.2.1.boot,AV x.2.1.seals,.map (some Br)] 181)::AC 114 2 Bs AY x.2.1.ring::Ab Br Z vB x.2.1.taken::AC 114 2 Be AY p0.ring::AC 35 4 Em AX p1::AC 190 3 v1 AT y1.1::H) ?_ (fun x D h=>?_)
 refine Y (J E (V (AQ (Y ?_))))
 obtain⟨x1,ex1,h⟩:=By h
 refine AA E BS ?_
 refine Aq (u:=vB x1) E E (congrArg vB ex1) ?_
 refine V ?_
 refine AP h E (fun hc1 h=>?_) fun hc1 h=>?_
 refine Y (J E (U E (V (AL (BC (HK ?_))))))
 obtain rfl:=zI h
 exact Bp [9,10,11,12,13,2,3,4,5,6,7,8] 14 (Cn E E) E E ⟨Am,Ad,A3,E,E⟩
 refine Y ?_
 obtain⟨x2,ex2,h⟩:=By h
 refine AA E BS ?_
 refine Aq (u:=vB x2) E E (congrArg vB ex2) ?_
 refine V ?_
 refine AP h E (fun hc2 h=>?_) fun hc2 h=>?_
 refine AS ?_
 refine AE h fun y2 hy2 h=>?_
 refine J E (J E (J E (SL.pick [0,1,9,10,11,12,13,2,3,4,5,6,7,8] 14 ?_)))
 refine Bo (vs:=[_,_,_]) (Hin:=[_,_,_,_,_,_,_,_,_,_,_,_,_,_]) (Hr:=_) E E ⟨E,E,E,zT⟩ lC E E (Cl (B:=[_,_]) (Hin:=[_,_,_,_,_,_,_,_,_,_,_,_]) fun K' w1 hk hB=>Mj hy2 (hS.keeps hk) (CY (e:=35) (v:=Em) zV (hB _ zS)) (CY (e:=190) (v:=v1) zV (hB _ zS))) ?_
 rintro _ _ ⟨_,rfl,rfl,rfl⟩
 refine⟨trivial,?_⟩
 refine U E (Aa (Ay ?_))
 exact Az (y2.2.2,y2.2.1,y2.1) h tL (BX [2,3,4,5,10,11,12,13,7,8,9,6,0,1] 14 E E E)
 refine AJ (Ay ?_)
 exact Az (y1.2.2.2,y1.2.2.1,y1.2.1) h tL (BX [9,10,11,12,5,6,7,8,2,3,4,13,0,1] 14 E E E)
 obtain⟨o1,o2,a1⟩:=x
 dsimp only at h
 unfold Ek at h
 try dsimp only
 refine AH (Y (J E (AA E BG (V ?_))))
 refine AP h E (fun hc3 h=>?_) fun hc3 h=>?_
 refine Y (J E (AU E E (AF E bE (A7 0 E E E E RQ E E E zT (V (Y (J E (U E (V (AL (Ac ?_)))))))))))
 obtain rfl:=zI h
 exact Bp [0,1,2,3,11,8,9,10,4,5,6,7] 14 (Cn E E) E E ⟨Am,Ad,A3,E,E⟩
 refine AJ (AI (Y ?_))
 refine AE h fun y3 hy3 h=>?_
 refine J E (J E (J E (SL.pick [0,1,2,3,11,8,9,10,4,5,6,7,12,13] 14 (BY 14 lD (N5 hy3) E ?_))))
 rintro _ _ ⟨v2,v3,v4,rfl,rfl⟩
 refine V (Y (U E (V (AL ?_))))
 obtain rfl:=zI h
 exact Bp [0,1,2,3,4,5,6,7,8,9,10,11] 12 (Cn E E) E E ⟨v2,v3,v4,E,E⟩
def FO(n:Nat)(p0:B2)(p1:List As)(y1:List BT×Int×A5×Ao)(o1:Ao)(o2:A5)(a1:Int):Option (Int×B2×A5×Ao):=
 cond (!decide (a1=0))
 (
  some (a1,{ p0 with bad:=true },o2,o1))
 (
  (Db n p0 o2 o1 p1 y1.1).bind fun y3=>
  some (0,y3.1,y3.2,o1))
def E8(n:Nat)(T:List UInt32)(p0:B2)(p0_1:A5)(p0_2:Ao)(p1:List As):Option (Int×B2×A5×Ao):=
 (Ss n T p0_1 p0_2 p1 p0.pages).bind fun y1=>
 ret (decide (y1.2.1=110)) fun x1=>
 cond x1
 (
  some (y1.2.1,p0,y1.2.2.1,y1.2.2.2))
 (
  ret (decide (y1.2.1=0)) fun x2=>
  cond x2
  (
   (EM n T p0 y1.2.2.1 y1.2.2.2 p1 y1.1).bind fun y2=>
   FO n p0 p1 y1 y2.2.2 y2.2.1 y2.1)
  (
   FO n p0 p1 y1 y1.2.2.2 y1.2.2.1 y1.2.1))
theorem Qz{n Ap Cc Br BF BP BQ:Nat}{T:List UInt32}{Am Ad A3 Be Bs BR Em:Value}{p0:B2}{p0_1:A5}{p0_2:Ao}{p1:List As}{r:Int×B2×A5×Ao}(h:E8 n T p0 p0_1 p0_2 p1=some r)(hS:GQ K w0 T):zC K w0 45 [vP Ap 0,Em,Ad] [AK Ap (.cells #[Am,Ad,A3,vP BF 0,vP Cc 0,Be,Z p0.gen,vB p0.bad] 94),AC 35 4 Am AX p0.rows,AC 190 3 Ad AT p0.pages,Ci A3 Z Z p0.gens,AC 114 2 Be AY p0.ring,AK Cc (.cells #[vP BF 0,Bs,Z p0_1.gen,Z p0_1.boot,AV p0_1.seals,.map (some Br)] 181),AC 114 2 Bs AY p0_1.ring,Ab Br Z vB p0_1.taken,AK BF (.cells #[vB p0_2.off,vB p0_2.isCut,vI p0_2.lasts,vI p0_2.counts,BR,.map (some BP),.map (some BQ),AV p0_2.rcnt,vS p0_2.rtag,Z p0_2.rboots] 100),AC 9 1 BR eS p0_2.blocks,Ab BP Z vS p0_2.pend,Ab BQ Z vB p0_2.bad,AC 35 4 Em AX p1] H (fun u M=>∃vs0_0_0 vs0_0_1 vs0_0_2:Value,u=vI r.1∧M=[AK Ap (.cells #[vs0_0_0,vs0_0_1,vs0_0_2,vP BF 0,vP Cc 0,Be,Z r.2.1.gen,vB r.2.1.bad] 94),AC 35 4 vs0_0_0 AX r.2.1.rows,AC 190 3 vs0_0_1 AT r.2.1.pages,Ci vs0_0_2 Z Z r.2.1.gens,AC 114 2 Be AY r.2.1.ring,AK Cc (.cells #[vP BF 0,Bs,Z r.2.2.1.gen,Z r.2.2.1.boot,AV r.2.2.1.seals,.map (some Br)] 181),AC 114 2 Bs AY r.2.2.1.ring,Ab Br Z vB r.2.2.1.taken,AK BF (.cells #[vB r.2.2.2.off,vB r.2.2.2.isCut,vI r.2.2.2.lasts,vI r.2.2.2.counts,BR,.map (some BP),.map (some BQ),AV r.2.2.2.rcnt,vS r.2.2.2.rtag,Z r.2.2.2.rboots] 100),AC 9 1 BR eS r.2.2.2.blocks,Ab BP Z vS r.2.2.2.pend,Ab BQ Z vB r.2.2.2.bad]):=by
 unfold E8 at h
 refine T6.enter Tryz.func45 rfl rfl ?_
 refine Y (U E (V (Y ?_)))
 refine AE h fun y1 hy1 h=>?_
 refine J E (AU E E (AF E TK (AG 0 Su E (J E (J E (SL.pick [12,2,5,6,7,8,9,10,11,0,1,3,4] 13 ?_))))))
 refine Bo (vs:=[_,_,_]) (Hin:=[_,_,_,_,_,_,_,_,_]) (Hr:=_::_::_::_::_) E E ⟨E,E,E,zT⟩ lB E E (Cl (B:=[_,_]) (Hin:=[_,_,_,_,_,_,_]) fun K' w1 hk hB=>ir hy1 (hS.keeps hk) (CY (e:=35) (v:=Em) zV (hB _ zS)) (CY (e:=190) (v:=Ad) zV (hB _ zS))) ?_
 rintro _ _ ⟨_,rfl,v1,rfl,rfl⟩
 refine⟨trivial,?_⟩
 refine J E (Af E E E (Af E E E (U E (U E (V ?_)))))
 refine BB (α:=Ao×A5×Int) (fun x=>FO n p0 p1 y1 x.1 x.2.1 x.2.2=some r) (fun x=>[(0,vP Ap 0),(1,Em),(7,v1),(8,vI x.2.2)]) (fun x=>AK Ap (.cells #[Am,Ad,A3,vP BF 0,vP Cc 0,Be,Z p0.gen,vB p0.bad] 94)::AC 35 4 Am AX p0.rows::AC 190 3 Ad AT p0.pages::Ci A3 Z Z p0.gens::AK BF (.cells #[vB x.1.off,vB x.1.isCut,vI x.1.lasts,vI x.1.counts,BR,.map (some BP),.map (some BQ),AV x.1.rcnt,vS x.1.rtag,Z x.1.rboots] 100)::AC 9 1 BR eS x.1.blocks::Ab BP Z vS x.1.pend::Ab BQ Z vB x.1.bad::AK Cc (.cells #[vP BF 0,Bs,Z x.2.1.gen,Z x.2.1.boot,AV x.2.1.seals,.map (some Br)] 181)::AC 114 2 Bs AY x.2.1.ring::Ab Br Z vB x.2.1.taken::AC 114 2 Be AY p0.ring::AC 35 4 Em AX p1::AC 190 3 v1 AT y1.1::H) ?_ (fun x D h=>?_)
 refine Y (J E (V (AQ (Y ?_))))
 obtain⟨x1,ex1,h⟩:=By h
 refine AA E BS ?_
 refine Aq (u:=vB x1) E E (congrArg vB ex1) ?_
 refine V ?_
 refine AP h E (fun hc1 h=>?_) fun hc1 h=>?_
 refine Y (J E (U E (V (AL (BC (HK ?_))))))
 obtain rfl:=zI h
 exact Bp [10,11,1,12,13,3,4,5,6,7,8,9] 14 (Cn E E) E E ⟨Am,Ad,A3,E,E⟩
 refine Y ?_
 obtain⟨x2,ex2,h⟩:=By h
 refine AA E BS ?_
 refine Aq (u:=vB x2) E E (congrArg vB ex2) ?_
 refine V ?_
 refine AP h E (fun hc2 h=>?_) fun hc2 h=>?_
 refine AS ?_
 refine AE h fun y2 hy2 h=>?_
 refine J E (J E (J E (SL.pick [0,2,10,11,1,12,13,3,4,5,6,7,8,9] 14 ?_)))
 refine Bo (vs:=[_,_,_]) (Hin:=[_,_,_,_,_,_,_,_,_,_,_,_,_,_]) (Hr:=_) E E ⟨E,E,E,zT⟩ lC E E (Cl (B:=[_,_]) (Hin:=[_,_,_,_,_,_,_,_,_,_,_,_]) fun K' w1 hk hB=>Mj hy2 (hS.keeps hk) (CY (e:=35) (v:=Em) zV (hB _ zS)) (CY (e:=190) (v:=v1) zV (hB _ zS))) ?_
 rintro _ _ ⟨_,rfl,rfl,rfl⟩
 refine⟨trivial,?_⟩
 refine U E (Aa (Ay ?_))
 exact Az (y2.2.2,y2.2.1,y2.1) h tL (BX [2,3,4,5,10,11,12,13,7,8,9,6,0,1] 14 E E E)
 refine AJ (Ay ?_)
 exact Az (y1.2.2.2,y1.2.2.1,y1.2.1) h tL (BX [10,11,1,12,6,7,8,9,3,4,5,13,0,2] 14 E E E)
 obtain⟨o1,o2,a1⟩:=x
 dsimp only at h
 unfold FO at h
 try dsimp only
 refine AH (Y (J E (AA E BG (V ?_))))
 refine AP h E (fun hc3 h=>?_) fun hc3 h=>?_
 refine Y (J E (AU E E (AF E bE (A7 0 E E E E RQ E E E zT (V (Y (J E (U E (V (AL (Ac ?_)))))))))))
 obtain rfl:=zI h
 exact Bp [0,1,2,3,11,8,9,10,4,5,6,7] 14 (Cn E E) E E ⟨Am,Ad,A3,E,E⟩
 refine AJ (AI (Y ?_))
 refine AE h fun y3 hy3 h=>?_
 refine J E (J E (J E (SL.pick [0,1,2,3,11,8,9,10,4,5,6,7,12,13] 14 (BY 14 lD (N5 hy3) E ?_))))
 rintro _ _ ⟨v2,v3,v4,rfl,rfl⟩
 refine V (Y (U E (V (AL ?_))))
 obtain rfl:=zI h
 exact Bp [0,1,2,3,4,5,6,7,8,9,10,11] 12 (Cn E E) E E ⟨v2,v3,v4,E,E⟩
def I1(o1:Ao)(o2:B2)(o3:A5)(a1:Int):Option (Option (B2×A5)×Int×Ao):=
 cond (!decide (a1=0))
 (
  some (none,a1,o1))
 (
  some (some (o2,o3),0,o1))
def JJ(n:Nat)(T:List UInt32)(p0:Ao)(p1:List BV):Option (Option (B2×A5)×Int×Ao):=
 (II p1).bind fun y1=>
 (Fk (decide (y1.2=0)) ((HN p0).bind fun y2=>some (y2))).bind fun y3=>
 cond y3
 (
  some (none,72,p0))
 (
  (KQ p0 p1).bind fun y4=>
  (y4.1).bind fun d1=>
  cond (decide (y4.2.1=0))
  (
   (Dt n T d1.1 d1.2 y4.2.2 [] []).bind fun y5=>
   I1 y5.2.2.2 y5.2.1 y5.2.2.1 y5.1)
  (
   I1 y4.2.2 d1.1 d1.2 y4.2.1))
theorem Wx{n Ap BE CA:Nat}{T:List UInt32}{CB Em:Value}{p0:Ao}{p1:List BV}{r:Option (B2×A5)×Int×Ao}(h:JJ n T p0 p1=some r)(hS:GQ K w0 T)(hs1_:CG K w0 AY 2 Em p1):zC K w0 27 [vP Ap 0,Em] [AK Ap (.cells #[vB p0.off,vB p0.isCut,vI p0.lasts,vI p0.counts,CB,.map (some BE),.map (some CA),AV p0.rcnt,vS p0.rtag,Z p0.rboots] 100),AC 9 1 CB eS p0.blocks,Ab BE Z vS p0.pend,Ab CA Z vB p0.bad] H (fun u M=>(r.1=none∧u=.tuple #[.pointer none,vI r.2.1]∧M=[AK Ap (.cells #[vB r.2.2.off,vB r.2.2.isCut,vI r.2.2.lasts,vI r.2.2.counts,CB,.map (some BE),.map (some CA),AV r.2.2.rcnt,vS r.2.2.rtag,Z r.2.2.rboots] 100),AC 9 1 CB eS r.2.2.blocks,Ab BE Z vS r.2.2.pend,Ab CA Z vB r.2.2.bad])∨(∃(d:B2×A5) (bn0:Nat) (vn0x0:Value) (vn0x1:Value) (vn0x2:Value) (vn0x5:Value) (bn1:Nat) (vn1x1:Value) (mn1x5:Nat),r.1=some d∧u=.tuple #[vP bn0 0,vI r.2.1]∧M=[AK bn0 (.cells #[vn0x0,vn0x1,vn0x2,vP Ap 0,vP bn1 0,vn0x5,Z d.1.gen,vB d.1.bad] 94),AC 35 4 vn0x0 AX d.1.rows,AC 190 3 vn0x1 AT d.1.pages,Ci vn0x2 Z Z d.1.gens,AC 114 2 vn0x5 AY d.1.ring,AK bn1 (.cells #[vP Ap 0,vn1x1,Z d.2.gen,Z d.2.boot,AV d.2.seals,.map (some mn1x5)] 181),AC 114 2 vn1x1 AY d.2.ring,Ab mn1x5 Z vB d.2.taken,AK Ap (.cells #[vB r.2.2.off,vB r.2.2.isCut,vI r.2.2.lasts,vI r.2.2.counts,CB,.map (some BE),.map (some CA),AV r.2.2.rcnt,vS r.2.2.rtag,Z r.2.2.rboots] 100),AC 9 1 CB eS r.2.2.blocks,Ab BE Z vS r.2.2.pend,Ab CA Z vB r.2.2.bad])):=by
 unfold JJ at h
 refine T6.enter Tryz.func27 rfl rfl ?_
 refine Y (U E (U E (V (AH (Y (J E (D8 E Wl E E (V (Cz E (AJ (AI (AH (Y ?_)))))))))))))
 refine AE h fun y1 hy1 h=>?_
 refine J E (AM 0 k6 (SG hy1 hs1_) E (J E (Af E E E (Af E E E (U E (U E (V (Y ?_))))))))
 refine AE h fun y3 hy3 h=>?_
 refine J E (AA E BS (J E ?_))
 refine DT 19 3 22 hy3 E (fun hb hg1 k=>?_) (fun hb k=>?_) ?_
 obtain⟨y2,hy2,hg1⟩:=D6 hg1
 obtain rfl:=zI hg1
 refine J E (AM 4 k7 (Rb hy2) E (Ag E E E ?_))
 exact k.mono tL
 refine AB E (AB E (Ag E E E ?_))
 exact k.mono tL
 refine V ?_
 refine AP h E (fun hc2 h=>?_) fun hc2 h=>?_
 refine Y (U E (U E (V (AL (Ac ?_)))))
 obtain rfl:=zI h
 exact Al (ET E E E) (Ak (M:=[_,_,_,_]) (.inl ⟨E,E,E⟩) fun _ hw=>Bc.pick (H:=[_,_,_,_]) hw [0,1,2,3] 4 E)
 refine AJ (AI (Y ?_))
 refine AE h fun y4 hy4 h=>?_
 refine AE h fun d1 hd1 h=>?_
 refine J E (J E ?_)
 refine Bo (vs:=[_,_]) (Hin:=[_,_,_,_]) (Hr:=_) E E ⟨E,E,zT⟩ ql E E (Xt hy4 hs1_) ?_
 rintro _ _ (⟨hn,-,-⟩ | ⟨d_,b1,v1,v2,v3,v4,b2,v5,m1,hn,rfl,rfl⟩)
 rw[hd1]at hn;cases hn
 obtain rfl:d1=d_:=zI (hd1.symm.trans hn)
 refine⟨trivial,?_⟩
 refine J E (Af E E E (Af E E E (U E (U E (V ?_)))))
 refine BB (α:=Ao×B2×Value×Value×Value×A5×Int) (fun x=>I1 x.1 x.2.1 x.2.2.2.2.2.1 x.2.2.2.2.2.2=some r) (fun x=>[(0,vP Ap 0),(8,vP b1 0),(9,vI x.2.2.2.2.2.2)]) (fun x=>AK Ap (.cells #[vB x.1.off,vB x.1.isCut,vI x.1.lasts,vI x.1.counts,CB,.map (some BE),.map (some CA),AV x.1.rcnt,vS x.1.rtag,Z x.1.rboots] 100)::AC 9 1 CB eS x.1.blocks::Ab BE Z vS x.1.pend::Ab CA Z vB x.1.bad::AK b1 (.cells #[x.2.2.1,x.2.2.2.1,x.2.2.2.2.1,vP Ap 0,vP b2 0,v4,Z x.2.1.gen,vB x.2.1.bad] 94)::AC 35 4 x.2.2.1 AX x.2.1.rows::AC 190 3 x.2.2.2.1 AT x.2.1.pages::Ci x.2.2.2.2.1 Z Z x.2.1.gens::AK b2 (.cells #[vP Ap 0,v5,Z x.2.2.2.2.2.1.gen,Z x.2.2.2.2.2.1.boot,AV x.2.2.2.2.2.1.seals,.map (some m1)] 181)::AC 114 2 v5 AY x.2.2.2.2.2.1.ring::Ab m1 Z vB x.2.2.2.2.2.1.taken::AC 114 2 v4 AY x.2.1.ring::H) ?_ (fun x D h=>?_)
 refine Y (J E (AA E BS (V ?_)))
 refine AP h E (fun hc3 h=>?_) fun hc3 h=>?_
 refine AS ?_
 refine AE h fun y5 hy5 h=>?_
 refine J E (B5 35 4 AX (SL.pick [1,2,3,4,5,6,7,8,9,10,11,12,0] 13 ?_))
 refine BY 13 k8 (Rr hy5 hS (CG.nil zV)) E ?_
 rintro _ _ ⟨v9,v10,v11,rfl,rfl⟩
 refine U E (Aa ?_)
 exact Az (y5.2.2.2,y5.2.1,v9,v10,v11,y5.2.2.1,y5.1) h tL (BX [8,9,10,11,0,1,2,3,5,6,7,4] 12 E E E)
 refine AJ ?_
 exact Az (y4.2.2,d1.1,v1,v2,v3,d1.2,y4.2.1) h tL (BX [8,9,10,11,0,1,2,3,5,6,7,4] 12 E E E)
 obtain⟨o1,o2,v6,v7,v8,o3,a1⟩:=x
 dsimp only at h
 unfold I1 at h
 try dsimp only
 refine AH (Y (J E (AA E BG (V ?_))))
 refine AP h E (fun hc4 h=>?_) fun hc4 h=>?_
 refine Y (J E (U E (U E (V (AL (Ac ?_))))))
 obtain rfl:=zI h
 exact Al (ET E E E) (Ak (M:=[_,_,_,_]) (.inl ⟨E,E,E⟩) fun _ hw=>Bc.pick (H:=[_,_,_,_,_,_,_,_,_,_,_,_]) hw [0,1,2,3] 12 E)
 refine AJ (AI (Y (J E (U E (U E (V (AL ?_)))))))
 obtain rfl:=zI h
 exact Al (ET E E E) (Ak (M:=[_,_,_,_,_,_,_,_,_,_,_,_]) (.inr ⟨_,b1,v6,v7,v8,v4,b2,v5,m1,E,E,E⟩) fun _ hw=>Bc.pick (H:=[_,_,_,_,_,_,_,_,_,_,_,_]) hw [4,5,6,7,11,8,9,10,0,1,2,3] 12 E)
def Hl(p0:B2)(p0_1:A5)(p0_2:Ao):Option Int:=
 cond p0.bad
 (
  some 131)
 (
  some 0)
theorem SS{Ap Cc Br BF BP BQ:Nat}{Am Ad A3 Be Bs BR:Value}{p0:B2}{p0_1:A5}{p0_2:Ao}{r:Int}(h:Hl p0 p0_1 p0_2=some r): zC K w0 52 [vP Ap 0] [AK Ap (.cells #[Am,Ad,A3,vP BF 0,vP Cc 0,Be,Z p0.gen,vB p0.bad] 94),AC 35 4 Am AX p0.rows,AC 190 3 Ad AT p0.pages,Ci A3 Z Z p0.gens,AC 114 2 Be AY p0.ring,AK Cc (.cells #[vP BF 0,Bs,Z p0_1.gen,Z p0_1.boot,AV p0_1.seals,.map (some Br)] 181),AC 114 2 Bs AY p0_1.ring,Ab Br Z vB p0_1.taken,AK BF (.cells #[vB p0_2.off,vB p0_2.isCut,vI p0_2.lasts,vI p0_2.counts,BR,.map (some BP),.map (some BQ),AV p0_2.rcnt,vS p0_2.rtag,Z p0_2.rboots] 100),AC 9 1 BR eS p0_2.blocks,Ab BP Z vS p0_2.pend,Ab BQ Z vB p0_2.bad] H (fun u M=>u=vI r∧M=[AK Ap (.cells #[Am,Ad,A3,vP BF 0,vP Cc 0,Be,Z p0.gen,vB p0.bad] 94),AC 35 4 Am AX p0.rows,AC 190 3 Ad AT p0.pages,Ci A3 Z Z p0.gens,AC 114 2 Be AY p0.ring,AK Cc (.cells #[vP BF 0,Bs,Z p0_1.gen,Z p0_1.boot,AV p0_1.seals,.map (some Br)] 181),AC 114 2 Bs AY p0_1.ring,Ab Br Z vB p0_1.taken,AK BF (.cells #[vB p0_2.off,vB p0_2.isCut,vI p0_2.lasts,vI p0_2.counts,BR,.map (some BP),.map (some BQ),AV p0_2.rcnt,vS p0_2.rtag,Z p0_2.rboots] 100),AC 9 1 BR eS p0_2.blocks,Ab BP Z vS p0_2.pend,Ab BQ Z vB p0_2.bad]):=by
 unfold Hl at h
 refine T6.enter Tryz.func52 rfl rfl ?_
 refine Y (U E (V (AH (AQ (Y (J E (D8 E eD E E (U E (V (Cz E (Y (J E (AU E E (AF E bE ?_))))))))))))))
 refine AG 0 WD E (U E (V ?_))
 refine AP h E (fun hc2 h=>?_) fun hc2 h=>?_
 refine Y (U E (V (AL (BC (Ac ?_)))))
 obtain rfl:=zI h
 exact AW [0,1,2,3,4,5,6,7,8,9,10,11] 12 E E E
 refine AJ (Ay (AI (Y (U E (V (AL ?_))))))
 obtain rfl:=zI h
 exact AW [0,1,2,3,4,5,6,7,8,9,10,11] 12 E E E
def Ds(n:Nat)(T:List UInt32)(p0:B2)(p0_1:A5)(p0_2:Ao)(p1:List Ht):Option (Int×Int×B2×A5×Ao):=
 (Hl p0 p0_1 p0_2).bind fun y1=>
 cond (!decide (y1=0))
 (
  some (0,y1,p0,p0_1,p0_2))
 (
  (TF n p0.rows p1).bind fun y2=>
  ret (!decide (y2.2.2=0)) fun x1=>
  cond x1
  (
   some (y2.2.1,y2.2.2,p0,p0_1,p0_2))
  (
   (HN p0_2).bind fun y3=>
   cond y3
   (
    some (0,72,p0,p0_1,p0_2))
   (
    (E8 n T p0 p0_1 p0_2 y2.1).bind fun y4=>
    some (0,y4.1,y4.2.1,y4.2.2.1,y4.2.2.2))))
theorem NO{n Ap Cc Br BF BP BQ:Nat}{T:List UInt32}{Am Ad A3 Be Bs BR Em:Value}{p0:B2}{p0_1:A5}{p0_2:Ao}{p1:List Ht}{r:Int×Int×B2×A5×Ao}(h:Ds n T p0 p0_1 p0_2 p1=some r)(hS:GQ K w0 T)(hs1_:CG K w0 Bm 5 Em p1):zC K w0 34 [vP Ap 0,Em] [AK Ap (.cells #[Am,Ad,A3,vP BF 0,vP Cc 0,Be,Z p0.gen,vB p0.bad] 94),AC 35 4 Am AX p0.rows,AC 190 3 Ad AT p0.pages,Ci A3 Z Z p0.gens,AC 114 2 Be AY p0.ring,AK Cc (.cells #[vP BF 0,Bs,Z p0_1.gen,Z p0_1.boot,AV p0_1.seals,.map (some Br)] 181),AC 114 2 Bs AY p0_1.ring,Ab Br Z vB p0_1.taken,AK BF (.cells #[vB p0_2.off,vB p0_2.isCut,vI p0_2.lasts,vI p0_2.counts,BR,.map (some BP),.map (some BQ),AV p0_2.rcnt,vS p0_2.rtag,Z p0_2.rboots] 100),AC 9 1 BR eS p0_2.blocks,Ab BP Z vS p0_2.pend,Ab BQ Z vB p0_2.bad] H (fun u M=>∃vs0_0_0 vs0_0_1 vs0_0_2:Value,u=.tuple #[vI r.1,vI r.2.1]∧M=[AK Ap (.cells #[vs0_0_0,vs0_0_1,vs0_0_2,vP BF 0,vP Cc 0,Be,Z r.2.2.1.gen,vB r.2.2.1.bad] 94),AC 35 4 vs0_0_0 AX r.2.2.1.rows,AC 190 3 vs0_0_1 AT r.2.2.1.pages,Ci vs0_0_2 Z Z r.2.2.1.gens,AC 114 2 Be AY r.2.2.1.ring,AK Cc (.cells #[vP BF 0,Bs,Z r.2.2.2.1.gen,Z r.2.2.2.1.boot,AV r.2.2.2.1.seals,.map (some Br)] 181),AC 114 2 Bs AY r.2.2.2.1.ring,Ab Br Z vB r.2.2.2.1.taken,AK BF (.cells #[vB r.2.2.2.2.off,vB r.2.2.2.2.isCut,vI r.2.2.2.2.lasts,vI r.2.2.2.2.counts,BR,.map (some BP),.map (some BQ),AV r.2.2.2.2.rcnt,vS r.2.2.2.2.rtag,Z r.2.2.2.2.rboots] 100),AC 9 1 BR eS r.2.2.2.2.blocks,Ab BP Z vS r.2.2.2.2.pend,Ab BQ Z vB r.2.2.2.2.bad]):=by
 unfold Ds at h
 refine T6.enter Tryz.func34 rfl rfl ?_
 refine Y (U E (U E (V (AH (Y ?_)))))
 refine AE h fun y1 hy1 h=>?_
 refine J E (AM 12 qt (SS hy1) E (U E (V (Y (J E (AA E BG (V ?_)))))))
 refine AP h E (fun hc1 h=>?_) fun hc1 h=>?_
 refine Y (J E (U E (U E (V (AL (Ac ?_))))))
 obtain rfl:=zI h
 exact Bp [0,1,2,3,4,5,6,7,8,9,10,11] 12 (ET E E E) E E ⟨Am,Ad,A3,E,E⟩
 refine AJ (AI (Y ?_))
 refine AE h fun y2 hy2 h=>?_
 refine J E (AU E E (AF E Ps (AF E bC (AG 0 FY E (J E (SL.pick [1,0] 2 ?_))))))
 refine Bo (vs:=[_,_]) (Hin:=[_]) (Hr:=_::_::_::_::_::_::_::_::_::_::_::_) E E ⟨E,E,zT⟩ qu E E (Cl (B:=[_]) (Hin:=[]) fun K' w1 hk hB=>ko hy2 (CY (e:=35) (v:=Am) zV (hB _ zS)) (hs1_.keeps hk)) ?_
 rintro _ _ ⟨_,rfl,v1,rfl,rfl⟩
 refine⟨trivial,?_⟩
 refine J E (Af E E E (Af E E E (Af E E E (U E (U E (U E (V (AH (AQ (Y ?_))))))))))
 obtain⟨x1,ex1,h⟩:=By h
 refine J E (AA E BG ?_)
 refine Aq (u:=vB x1) E E (congrArg vB ex1) ?_
 refine V ?_
 refine AP h E (fun hc2 h=>?_) fun hc2 h=>?_
 refine Y (J E (J E (U E (U E (V (AL (BC (Ac ?_))))))))
 obtain rfl:=zI h
 exact Bp [2,0,3,4,5,6,7,8,9,10,11,12] 13 (ET E E E) E E ⟨Am,Ad,A3,E,E⟩
 refine Y ?_
 refine AE h fun y3 hy3 h=>?_
 refine J E (AU E E (AF E Of (AG 2 NQ E (SL.pick [9,10,11,12,0,1,2,3,4,5,6,7,8] 13 (AM 4 k7 (Rb hy3) E (U E (V ?_)))))))
 refine AP h E (fun hc3 h=>?_) fun hc3 h=>?_
 refine Y (U E (U E (V (AL (BC (Ac ?_))))))
 obtain rfl:=zI h
 exact Bp [6,4,7,8,9,10,11,12,0,1,2,3] 13 (ET E E E) E E ⟨Am,Ad,A3,E,E⟩
 refine AJ (Ay (AI (Y ?_)))
 refine AE h fun y4 hy4 h=>?_
 refine J E (J E (J E (AU E E (AF E Ps (AF E bD (AG 6 Qf E (SL.pick [6,4,7,8,9,10,11,12,0,1,2,3,5] 13 ?_)))))))
 refine BY 13 k8 (Qz hy4 hS) E ?_
 rintro _ _ ⟨v2,v3,v4,rfl,rfl⟩
 refine U E (U E (V (AL ?_)))
 obtain rfl:=zI h
 exact Bp [0,1,2,3,4,5,6,7,8,9,10,11] 12 (ET E E E) E E ⟨v2,v3,v4,E,E⟩
def FF(p0:B2)(p0_1:A5)(p0_2:Ao):Option (List As):=
 (Q0 p0.rows).bind fun y1=>
 some y1
theorem TW{Ap Cc Br BF BP BQ:Nat}{Am Ad A3 Be Bs BR:Value}{p0:B2}{p0_1:A5}{p0_2:Ao}{r:List As}(h:FF p0 p0_1 p0_2=some r): zC K w0 12 [vP Ap 0] [AK Ap (.cells #[Am,Ad,A3,vP BF 0,vP Cc 0,Be,Z p0.gen,vB p0.bad] 94),AC 35 4 Am AX p0.rows,AC 190 3 Ad AT p0.pages,Ci A3 Z Z p0.gens,AC 114 2 Be AY p0.ring,AK Cc (.cells #[vP BF 0,Bs,Z p0_1.gen,Z p0_1.boot,AV p0_1.seals,.map (some Br)] 181),AC 114 2 Bs AY p0_1.ring,Ab Br Z vB p0_1.taken,AK BF (.cells #[vB p0_2.off,vB p0_2.isCut,vI p0_2.lasts,vI p0_2.counts,BR,.map (some BP),.map (some BQ),AV p0_2.rcnt,vS p0_2.rtag,Z p0_2.rboots] 100),AC 9 1 BR eS p0_2.blocks,Ab BP Z vS p0_2.pend,Ab BQ Z vB p0_2.bad] H (fun u M=>∃v0:Value,u=v0∧M=[AC 35 4 v0 AX r,AK Ap (.cells #[Am,Ad,A3,vP BF 0,vP Cc 0,Be,Z p0.gen,vB p0.bad] 94),AC 35 4 Am AX p0.rows,AC 190 3 Ad AT p0.pages,Ci A3 Z Z p0.gens,AC 114 2 Be AY p0.ring,AK Cc (.cells #[vP BF 0,Bs,Z p0_1.gen,Z p0_1.boot,AV p0_1.seals,.map (some Br)] 181),AC 114 2 Bs AY p0_1.ring,Ab Br Z vB p0_1.taken,AK BF (.cells #[vB p0_2.off,vB p0_2.isCut,vI p0_2.lasts,vI p0_2.counts,BR,.map (some BP),.map (some BQ),AV p0_2.rcnt,vS p0_2.rtag,Z p0_2.rboots] 100),AC 9 1 BR eS p0_2.blocks,Ab BP Z vS p0_2.pend,Ab BQ Z vB p0_2.bad]):=by
 unfold FF at h
 refine T6.enter Tryz.func12 rfl rfl ?_
 refine Y (B5 35 4 AX (U E (V (AH (Y (J E (D8 E eD E E (V (Cz E (AJ (AI (Y ?_))))))))))))
 refine AE h fun y1 hy1 h=>?_
 refine J E (AU E E (AF E Ps (AF E bC (AG 1 FY E (SL.pick [2,0,1] 3 ?_)))))
 refine Bo (vs:=[_]) (Hin:=[_]) (Hr:=_::_::_::_::_::_::_::_::_::_::_::_::_) E E ⟨E,zT⟩ ez E E (Cl (B:=[_]) (Hin:=[]) fun K' w1 hk hB=>Yo hy1 (CY (e:=35) (v:=Am) zV (hB _ zS))) ?_
 rintro v1 _ ⟨_,rfl,_,rfl,rfl⟩
 refine⟨trivial,?_⟩
 refine U E (V (AL ?_))
 obtain rfl:=zI h
 exact Bp [1,3,0,4,5,6,7,8,9,10,11,12,13] 14 (Cn E E) E E ⟨v1,E,E⟩
def Gy(n:Nat)(p0:B2)(p0_1:A5)(p0_2:Ao)(p1:UInt64):Option (As×Int):=
 (Is n p0.rows p1).bind fun y1=>
 some ((⟨y1.1.id,y1.1.x,y1.1.y,y1.1.txt⟩:As),y1.2)
theorem UF{n Ap Cc Br BF BP BQ:Nat}{Am Ad A3 Be Bs BR:Value}{p0:B2}{p0_1:A5}{p0_2:Ao}{p1:UInt64}{r:As×Int}(h:Gy n p0 p0_1 p0_2 p1=some r): zC K w0 37 [vP Ap 0,AV p1] [AK Ap (.cells #[Am,Ad,A3,vP BF 0,vP Cc 0,Be,Z p0.gen,vB p0.bad] 94),AC 35 4 Am AX p0.rows,AC 190 3 Ad AT p0.pages,Ci A3 Z Z p0.gens,AC 114 2 Be AY p0.ring,AK Cc (.cells #[vP BF 0,Bs,Z p0_1.gen,Z p0_1.boot,AV p0_1.seals,.map (some Br)] 181),AC 114 2 Bs AY p0_1.ring,Ab Br Z vB p0_1.taken,AK BF (.cells #[vB p0_2.off,vB p0_2.isCut,vI p0_2.lasts,vI p0_2.counts,BR,.map (some BP),.map (some BQ),AV p0_2.rcnt,vS p0_2.rtag,Z p0_2.rboots] 100),AC 9 1 BR eS p0_2.blocks,Ab BP Z vS p0_2.pend,Ab BQ Z vB p0_2.bad] H (fun u M=>u=.tuple #[.agg (AX r.1).toArray,vI r.2]∧M=[AK Ap (.cells #[Am,Ad,A3,vP BF 0,vP Cc 0,Be,Z p0.gen,vB p0.bad] 94),AC 35 4 Am AX p0.rows,AC 190 3 Ad AT p0.pages,Ci A3 Z Z p0.gens,AC 114 2 Be AY p0.ring,AK Cc (.cells #[vP BF 0,Bs,Z p0_1.gen,Z p0_1.boot,AV p0_1.seals,.map (some Br)] 181),AC 114 2 Bs AY p0_1.ring,Ab Br Z vB p0_1.taken,AK BF (.cells #[vB p0_2.off,vB p0_2.isCut,vI p0_2.lasts,vI p0_2.counts,BR,.map (some BP),.map (some BQ),AV p0_2.rcnt,vS p0_2.rtag,Z p0_2.rboots] 100),AC 9 1 BR eS p0_2.blocks,Ab BP Z vS p0_2.pend,Ab BQ Z vB p0_2.bad]):=by
 unfold Gy at h
 refine T6.enter Tryz.func37 rfl rfl ?_
 refine Y ?_
 refine Ar E FL zU fun b1=>?_
 refine U E (V (AH (Y (J E (D8 E eD E E (V (Cz E (AJ (AI (Y ?_))))))))))
 refine AE h fun y1 hy1 h=>?_
 refine J E (AU E E (AF E Ps (AF E bC (AG 1 FY E (J E (SL.pick [2,0,1] 3 ?_))))))
 refine Bo (vs:=[_,_]) (Hin:=[_]) (Hr:=_::_::_::_::_::_::_::_::_::_::_::_::_) E E ⟨E,E,zT⟩ qv E E (Cl (B:=[_]) (Hin:=[]) fun K' w1 hk hB=>aH hy1 (CY (e:=35) (v:=Am) zV (hB _ zS))) ?_
 rintro _ _ ⟨_,rfl,rfl,rfl⟩
 refine⟨trivial,?_⟩
 refine Af E E E (Af E E E (A7 1 E E E E DZ E E E zT (U E (V (AL ?_)))))
 obtain rfl:=zI h
 exact Al (Dz E (CC 1 (AX (⟨y1.1.id,y1.1.x,y1.1.y,y1.1.txt⟩:As)) Fw E E E E) E) (Ak (M:=[_,_,_,_,_,_,_,_,_,_,_,_]) ⟨E,E⟩ fun _ hw=>Bc.pick (H:=[_,_,_,_,_,_,_,_,_,_,_,_,_]) hw [2,0,3,4,5,6,7,8,9,10,11,12] 13 E)
end

section
structure Dv(N m:Nat)(c:UInt64)(d:Ao):Prop where
 bl:d.blocks.length=N
 pl:d.pend.length≤m
 pk:∀e∈d.pend,e.1.toNat<N
 rc:d.rcnt=c
theorem Dv.up{N m m':Nat}{c:UInt64}{d:Ao}(D:Dv N m c d)(h:m≤m'):Dv N m' c d:=⟨D.bl,Nat.le_trans D.pl h,D.pk,D.rc⟩
theorem jG{N m:Nat}{c:UInt64}{d:Ao}{p:UInt32}{s:List UInt8}{y:Int×Ao}(h:Ij d p s=some y)(D:Dv N m c d):Dv N (m+1) c y.2:=by
 unfold Ij at h
 rw[bH,AD,CI]at h
 cases hh:((!decide (p.toNat<d.blocks.length))||(!decide ((s.length:Int)=256)))with
 | true=>
  rw[hh,DB]at h
  obtain rfl:=zI h
  exact D.up (Nat.le_succ _)
 | false=>
  rw[hh,CQ,TP,AD]at h
  have hp:p.toNat<N:=by
   simp at hh
   rw[←D.bl]
   exact hh.1
  cases hon:Wz d with
  | true=>
   rw[hon]at h
   simp only[if_true,decide_true,DB]at h
   refine AE h fun l hl h=>?_
   obtain⟨-,rfl⟩:=Wd hl
   obtain rfl:=zI (show some _=some y from h)
   refine⟨D.bl,?_,?_,D.rc⟩
   have:(Gz d.pend p).length≤d.pend.length:=List.length_filter_le ..
   have:=D.pl
   show(Gz d.pend p).length+1≤m+1
   omega
   intro e he
   rcases List.mem_cons.1 (show e∈(p,s)::Gz d.pend p from he)with rfl | he
   exact hp
   exact D.pk e (List.mem_filter.1 he).1
  | false=>
   rw[hon]at h
   obtain rfl:=zI (show some _=some y from h)
   exact⟨D.bl,Nat.le_succ_of_le D.pl,D.pk,D.rc⟩
theorem dG{T:List UInt32}{N m:Nat}{c:UInt64}{v:A5}{d:Ao}{p:UInt32}{s:List UInt8}{y:List UInt8×Int×A5×Ao}(h:KS T v d p s=some y)(D:Dv N m c d):Dv N (m+1) c y.2.2.2:=by
 unfold KS at h
 obtain⟨y1,-,h⟩:=D6 h
 cases h1:(!decide (y1.2=0))with
 | true=>
  rw[h1,DB]at h
  obtain rfl:=zI h
  exact D.up (Nat.le_succ _)
 | false=>
  rw[h1,CQ]at h
  refine AE h fun y2 h2 h=>?_
  have D2:=jG h2 D
  cases h3:(!decide (y2.1=0))with
  | true=>
   rw[h3,DB]at h
   obtain rfl:=zI h
   exact D2
  | false=>
   rw[h3,CQ]at h
   obtain⟨y3,-,h⟩:=D6 h
   obtain rfl:=zI h
   exact D2
theorem rL{T:List UInt32}{N m:Nat}{c:UInt64}{v:A5}{d:Ao}{s:List UInt8}{y:Bb×Int×A5×Ao}(h:GT T v d s=some y)(D:Dv N m c d):Dv N (m+1) c y.2.2.2:=by
 have key:∀ {p:UInt32},Fs T v d s p=some y→Dv N (m+1) c y.2.2.2:=by
  intro p h
  unfold Fs at h
  cases h1:decide (p=0)with
  | true=>
   rw[h1,DB]at h
   obtain rfl:=zI h
   exact D.up (Nat.le_succ _)
  | false=>
   rw[h1,CQ]at h
   refine AE h fun y4 h4 h=>?_
   have D4:=dG h4 D
   cases h3:(!decide (y4.2.1=0))with
   | true=>
    rw[h3,DB]at h
    obtain rfl:=zI h
    exact D4
   | false=>
    rw[h3,CQ]at h
    obtain⟨l,-,h⟩:=D6 h
    obtain rfl:=zI h
    exact D4
 unfold GT at h
 rw[CI]at h
 cases h1:decide (198<(s.length:Int))with
 | true=>
  rw[h1,DB]at h
  obtain rfl:=zI h
  exact D.up (Nat.le_succ _)
 | false=>
  rw[h1,CQ]at h
  obtain⟨_,-,h⟩:=D6 h
  obtain⟨xs,-,h⟩:=D6 h
  cases xs with
  | nil=>exact key (p:=0) h
  | cons e xs=>exact key (p:=e) h
theorem dh{T:List UInt32}{th:List (NL×Bb)}{N:Nat}{c:UInt64}:∀(seg:List BT) (m:Nat) (q q':Yt),XJ (Sr T th) q seg q'→Dv N m c q.d→Dv N (m+seg.length) c q'.d∧q'.tk.length≤q.tk.length+seg.length
 | [],m,q,q',h,D=>by rw[←show q=q' from h];exact⟨D,Nat.le_refl _⟩
 | s::seg,m,q,q',h,D=>by
  obtain⟨q1,h1,h2⟩:=h
  have D1:Dv N (m+1) c q1.d∧q1.tk.length≤q.tk.length+1:=by
   unfold Sr at h1
   obtain⟨k,hk,h1⟩:=D6 h1
   cases hs:(C0 th k).isSome with
   | true=>
    rw[hs,DB]at h1
    have h3:=congrArg Prod.snd (zI h1)
    rw[←show q=q1 from h3]
    exact⟨D.up (Nat.le_succ _),Nat.le_succ _⟩
   | false=>
    rw[hs,CQ]at h1
    obtain⟨y,hy,h1⟩:=D6 h1
    have D2:=rL hy D
    cases he:decide (y.2.1=0)with
    | true=>
     rw[he,DB]at h1
     obtain⟨l,hl,h1⟩:=D6 h1
     rw[←show(⟨l,y.2.2.1,y.2.2.2⟩:Yt)=q1 from congrArg Prod.snd (zI h1)]
     refine⟨D2,?_⟩
     unfold DO at hl
     split at hl
     obtain rfl:=zI hl
     simp
     cases hl
    | false=>
     rw[he,CQ]at h1
     rw[←show(⟨q.tk,y.2.2.1,y.2.2.2⟩:Yt)=q1 from congrArg Prod.snd (zI h1)]
     exact⟨D2,Nat.le_succ _⟩
  have:=dh seg (m+1) q1 q' h2 D1.1
  have h5:=D1.2
  rw[List.length_cons,show m+(seg.length+1)=m+1+seg.length by omega]
  exact⟨this.1,by omega⟩
theorem iL{N c0:Nat}{c:UInt64}{d:Ao}(D:Dv N 1 c d)(K:Rj N c0 d):∃d',KA d=some (0,d')∧Dv N 0 c d'∧Rj N 0 d'∧∀p:UInt32,p.toNat<N→Ic d' p=Ic d p:=by
 have hon:Wz d=true:=by simp[Wz,K.on,K.uncut]
 have hb:d.blocks.length=N:=D.bl
 have base:KA d=KB (0,I3 d) (Q3 (d.pend.map (·.1))) (I3 d):=by
  unfold KA
  rw[TP,hon]
  simp only[if_true,AD,decide_true,DB]
  unfold WK XH
  rw[AD,show(I3 d).pend=d.pend from rfl,if_pos D.pl,AD]
 rcases hp:d.pend with _ | ⟨⟨k,s⟩,_ | ⟨e,r⟩⟩
 refine⟨{ I3 d with pend:=[] },?_,⟨D.bl,Nat.le_refl _,fun _ h=>(by cases h),D.rc⟩,⟨K.blen,K.nle,K.on,K.uncut,K.good,Nat.le_refl _,by omega⟩,fun p _=>?_⟩
 rw[base,hp]
 rfl
 unfold Ic
 rw[hp]
 rfl
 have hk:k.toNat<N:=D.pk (k,s) (by rw[hp];exact List.mem_cons_self ..)
 refine⟨{ I3 d with blocks:=d.blocks.set k.toNat s,pend:=[] },?_,⟨(List.length_set ..).trans D.bl,Nat.le_refl _,fun _ h=>(by cases h),D.rc⟩,⟨(List.length_set ..).trans D.bl,K.nle,K.on,K.uncut,K.good,Nat.le_refl _,by omega⟩,fun p hpn=>?_⟩
 rw[base,hp]
 show ID (0,I3 d) (KB (0,I3 d) []) ((0:Nat),k) (I3 d)=_
 unfold ID
 have h1:BN (I3 d).blocks ((k.toNat:Nat):Int)=some (d.blocks[k.toNat]' zO):=by rw[HO];exact List.getElem?_eq_getElem _
 have h2:OA (I3 d).blocks ((k.toNat:Nat):Int) ((C0 (I3 d).pend k).getD [])=some (d.blocks.set k.toNat s):=by
  rw[Ls rfl (show k.toNat<(I3 d).blocks.length by show _<d.blocks.length;omega),show(I3 d).pend=d.pend from rfl,hp]
  have:C0 [(k,s)] k=some s:=by simp[C0]
  rw[this]
  rfl
 rw[h1,AD,h2,AD]
 rfl
 unfold Ic
 rw[hp]
 show(d.blocks.set k.toNat s).getD p.toNat []=(C0 [(k,s)] p).getD (d.blocks.getD p.toNat [])
 by_cases e:k=p
 subst e
 have:C0 [(k,s)] k=some s:=by simp[C0]
 rw[this,List.getD_eq_getElem?_getD,List.getElem?_set_self zO]
 rfl
 have:C0 [(k,s)] p=none:=by simp[C0,e]
 have hne:k.toNat≠p.toNat:=fun h=>e (UInt32.toNat_inj.1 h)
 rw[this,List.getD_eq_getElem?_getD,List.getElem?_set_ne hne,List.getD_eq_getElem?_getD]
 rfl
 have:=D.pl
 rw[hp]at this
 simp at this
theorem i9{N:Nat}{c:UInt64}{d:Ao}{tag:List UInt8}(D:Dv N 0 c d)(K:Rj N 0 d)(ht:tag.length=32)(hc:c≠18446744073709551615):∃d',La d tag=some (0,d')∧Dv N 0 (c+1) d'∧Rj N 0 d'∧∀p,Ic d' p=Ic d p:=by
 have hon:Wz d=true:=by simp[Wz,K.on,K.uncut]
 refine⟨{ I3 d with rcnt:=d.rcnt+1,rtag:=tag },?_,⟨D.bl,D.pl,D.pk,by rw[←D.rc]⟩,⟨K.blen,K.nle,K.on,K.uncut,K.good,K.plen,by omega⟩,fun p=>rfl⟩
 unfold La
 rw[CI,zt (by omega:(tag.length:Int)=32)]
 simp only[Bool.not_true,CQ]
 rw[CI,zf (by rw[D.rc];exact hc),CQ,TP,hon,AD]
 rfl
theorem pr{T:List UInt32}{N:Nat}{c:UInt64}{v:A5}{d:Ao}{k:BV}{s:List UInt8}(D:Dv N 0 c d)(K:Rj N 0 d)(hr:v.ring.length≤1099511627776)(hk:DR v.ring v.gen=(k,0))(hs:s.length≤198)(p:UInt32)(hp:p.toNat<2)(hN:4≤N):
  ∃tag d',N6 T v d p s=some (tag,0,{ v with seals:=v.seals+1 },d')∧tag.length=32∧Dv N 1 c d'∧Rj N 1 d'∧∀q:UInt32,2≤q.toNat→Ic d' q=Ic d q:=by
 have hb:=Kn T k (hd v p) hs
 have hw:=dw (T:=T) K zO hr hk (show p.toNat<N by omega) hs
 refine⟨(HT T k (hd v p) s).drop 224,{ d with counts:=wI (d.counts+1),pend:=Mb d.pend p (HT T k (hd v p) s) },?_,by simp[hb],dG hw D,(K.write zO (show p.toNat<N by omega) hb).2,fun q hq=>?_⟩
 unfold N6
 have h1:decide ((2:UInt32)≤p)=false:=by rw[decide_eq_false_iff_not,UInt32.le_iff_toNat_le];exact Nat.not_le.2 hp
 rw[CI,h1,CQ,CI,zf zO,CQ,hw,AD]
 rw[Vv,if_neg (fun e=>by subst e;omega)]
theorem nb(x:UInt64):∃l,GS 2200000 x 8=some l∧l.length=8:=⟨_,rfl,rfl⟩
theorem aA(x:UInt64):∃l,GS 2200000 x 4=some l∧l.length=4:=⟨_,rfl,rfl⟩
theorem fy(r:Ef)(h:r.tag.length=32):∃s,M9 2200000 r=some s∧s.length=56:=by
 obtain⟨a,ha,la⟩:=nb r.cnt
 obtain⟨b,hb,lb⟩:=aA r.gen.toUInt64
 obtain⟨c,hc,lc⟩:=aA r.rows.toUInt64
 obtain⟨e,he,le⟩:=aA r.page.toUInt64
 have hl:([[115,112,104,114],a,b,c,e,r.tag]:List (List UInt8)).flatten.length=56:=by simp[la,lb,lc,le,h]
 refine⟨_,?_,hl⟩
 unfold M9 Oc bJ
 rw[ha,AD,hb,AD,hc,AD,he,AD,if_pos ⟨rfl,by simp,by simp,by omega,by omega⟩]
 rfl
end

section
structure i8(T:List UInt32)(c:UInt64)(o:B2)(v:A5)(d:Ao):Prop where
 vs:∃c0,c0≤1∧VS 60 c0 (Dj 1) 1 v d
 tk:Tc 60 v
 dv:Dv 60 0 c d
 gen:o.gen=1
 one:o.pages.length≤1
 rd:∀s∈o.pages,Rd T (Dj 1) 60 v d s
 bad:o.bad=false
 tz:o.pages=[]→v.taken=[]
theorem VS.flushed{c0 c1:Nat}{R:List BV}{v v':A5}{d d':Ao}(V9:VS 60 c0 R 1 v d)(K:Rj 60 c1 d')(h:v'.ring=v.ring∧v'.gen=v.gen∧v'.boot=v.boot)(ht:v'.taken.length≤c1):VS 60 c1 R 1 v' d':=
 ⟨K,h.1.trans V9.ring,V9.rlen,h.2.1.trans V9.gen,h.2.2.trans V9.boot,ht⟩
theorem Rj.le{N c c':Nat}{d:Ao}(K:Rj N c d)(h:c≤c')(h2:c'≤100):Rj N c' d:=⟨K.blen,K.nle,K.on,K.uncut,K.good,Nat.le_trans K.plen h,h2⟩
theorem di{T:List UInt32}{c0:Nat}{c:UInt64}{o:B2}{v:A5}{d:Ao}{l:List As}{s:BT}(V9:VS 60 c0 (Dj 1) 1 v d)(D:Dv 60 1 c d)(hc:c=0∨c=1)(hg:o.gen=1)(hl:l.length≤1)(hs:FA ⟨s.page,s.tag⟩=true):
  ∃d',EM 2200000 T o v d l [s]=some (0,{ v with seals:=v.seals+1 },d')∧Dv 60 0 (c+1) d'∧Rj 60 0 d'∧∀q:UInt32,2≤q.toNat→q.toNat<60→Ic d' q=Ic d q:=by
 obtain⟨d1,h1,D1,K1,e1⟩:=iL D V9.dev
 have hr:Ja ⟨c+1,1,FN (l.length:Int),s.page,s.tag⟩=some true:=by
  unfold Ja
  rw[Oi,hs]
  have hl2:l.length=0∨l.length=1:=zO
  rcases hc with rfl | rfl<;>rcases hl2 with h | h<;>rw[h]<;>rfl
 have hn:M8 c 1 (l.length:Int) ⟨s.page,s.tag⟩=some (⟨c+1,1,FN (l.length:Int),s.page,s.tag⟩,0):=by
  unfold M8
  have h0:decide (c+1=0)=false:=by rcases hc with rfl | rfl<;>rfl
  have h2:(decide ((l.length:Int)<0)||decide (1000<(l.length:Int)))=false:=by simp;omega
  rw[CI,h0,CQ,h2,hr]
  rfl
 obtain⟨t,ht,htl⟩:=fy ⟨c+1,1,FN (l.length:Int),s.page,s.tag⟩ (PO hs).1
 have he:KP 2200000 ⟨c+1,1,FN (l.length:Int),s.page,s.tag⟩=some (t,0):=by
  unfold KP
  rw[hr,AD,ht]
  rfl
 have hsl:((c+1) &&& 1).toUInt32.toNat<2:=by rcases hc with rfl | rfl<;>decide
 have hk:=X6 (m:=1) zO zO
 obtain⟨tag,d2,h2,lt,D2,K2,e2⟩:=pr (T:=T) D1 K1 (by rw[V9.ring];exact V9.rlen) (by rw[V9.ring,V9.gen];exact hk) (show t.length≤198 by omega) ((c+1) &&& 1).toUInt32 hsl zO
 obtain⟨d3,h3,D3,K3,e3⟩:=iL D2 K2
 obtain⟨d4,h4,D4,K4,e4⟩:=i9 D3 K3 lt (by rcases hc with rfl | rfl<;>decide)
 refine⟨d4,?_,D4,K4,fun q hq hq2=>?_⟩
 unfold EM IE Ob
 rw[h1,AD]
 simp only[decide_true,Bool.not_true,CQ,AD]
 rw[show BN [s] (wI (([s].length:Int)-1))=some s from rfl,AD,D1.rc,hg,hn,AD]
 simp only[decide_true,Bool.not_true,CQ]
 rw[he,AD,CI,AD,h2,AD]
 simp only[decide_true,Bool.not_true,CQ]
 rw[h3,AD]
 simp only[decide_true,Bool.not_true,CQ]
 rw[h4,AD]
 rw[e4,e3 q hq2,e2 q hq,e1 q hq2]
theorem jP(v:A5)(d:Ao)(p:UInt32):∃r,KR v d p=some r:=by
 have h1:∃b,Hm v d p=some b:=by
  unfold Hm Mn
  cases decide (2≤p)<;>exact⟨_,rfl⟩
 obtain⟨b,hb⟩:=h1
 unfold KR
 rw[hb,AD,CI]
 cases ((!b)||(!((C0 v.taken p).getD false)))<;>exact⟨_,rfl⟩
theorem fV(m:Nat){o:B2}{v:A5}{d:Ao}{l:List As}{s:BT}(h:o.pages.length≤1):∃g v',Db (m+3) o v d l [s]=some ({ o with rows:=l,pages:=[s],gens:=g },v')∧(o.pages=[]→v'=v):=by
 obtain⟨rows,pages,gens,ring,gen,bad⟩:=o
 rcases pages with _ | ⟨s1,_ | ⟨s2,r⟩⟩
 generalize hO:({ rows:=rows,pages:=[],gens:=gens,ring:=ring,gen:=gen,bad:=bad }:B2)=O
 have hx:Db (m+3) O v d l [s]=DN (m+3) O v d l [s] [] (D5 (m+3) O v d l [s] [] (m+2)) [] 0:=by subst hO;rfl
 rw[hx]
 unfold DN
 rw[show decide ((0:Int)<([s].length:Int))=true from rfl,DB,show BN [s] 0=some s from rfl,AD,show ND ([]:List (UInt32×UInt32)) s.page O.gen=some [(s.page,O.gen)]from rfl,AD]
 generalize (decide (((C0 [] s.page).getD ⟨[],0,[]⟩:BT).txt=s.txt)&&(decide (((C0 [] s.page).getD ⟨[],0,[]⟩:BT).page=s.page)&&(decide (((C0 [] s.page).getD ⟨[],0,[]⟩:BT).tag=s.tag)&&true)))=b
 subst hO
 cases b with
 | true=>exact⟨_,_,rfl,fun _=>rfl⟩
 | false=>exact⟨_,_,rfl,fun _=>rfl⟩
 obtain⟨y,hy⟩:=jP v d s1.page
 generalize hO:({ rows:=rows,pages:=[s1],gens:=gens,ring:=ring,gen:=gen,bad:=bad }:B2)=O
 have hx:Db (m+3) O v d l [s]=DN (m+3) O v d l [s] [(s1.page,s1)] (D5 (m+3) O v d l [s] [(s1.page,s1)] (m+2)) [] 0:=by subst hO;rfl
 have h2:∃g,Db (m+3) O v d l [s]=ES O d l [s] g (Ey O d l [s] g (m+2)) v 0:=by
  rw[hx]
  unfold DN
  rw[show decide ((0:Int)<([s].length:Int))=true from rfl,DB,show BN [s] 0=some s from rfl,AD,show ND ([]:List (UInt32×UInt32)) s.page O.gen=some [(s.page,O.gen)]from rfl,AD]
  generalize (decide (((C0 [(s1.page,s1)] s.page).getD ⟨[],0,[]⟩).txt=s.txt)&&(decide (((C0 [(s1.page,s1)] s.page).getD ⟨[],0,[]⟩).page=s.page)&&(decide (((C0 [(s1.page,s1)] s.page).getD ⟨[],0,[]⟩).tag=s.tag)&&true)))=b
  cases b with
  | true=>exact⟨_,rfl⟩
  | false=>exact⟨_,rfl⟩
 obtain⟨g,hg⟩:=h2
 rw[hg]
 unfold ES
 subst hO
 rw[show decide ((0:Int)<([s1].length:Int))=true from rfl,DB,show BN [s1] 0=some s1 from rfl,AD,CI,CI]
 cases (C0 g s1.page).isSome with
 | true=>exact⟨g,v,rfl,fun h=>by cases h⟩
 | false=>
  rw[show(!false)=true from rfl,DB,hy,AD]
  exact⟨g,y.2,rfl,fun h=>by cases h⟩
 simp at h
theorem X0{T:List UInt32}{c:UInt64}{o:B2}{v:A5}{d:Ao}{l:List As}(S:i8 T c o v d)(hc:c=0∨c=1)(hl:l.length≤1)(hr:FB l=true):
  ∃o' v' d',Dt 2200000 T o v d l o.pages=some (0,o',v',d')∧o'.rows=l∧o'.bad=false∧Dv 60 0 (c+1) d'∧(o.pages=[]→i8 T (c+1) o' v' d'):=by
 obtain⟨c0,hc0,V9⟩:=S.vs
 have hk:=X6 (m:=1) zO zO
 have ht:v.taken.length≤1:=Nat.le_trans V9.tlen hc0
 obtain⟨t,th,hb,hT,hth,h⟩:=jq (T:=T) (n:=2200000) (N:=60) (l:=l) (had:=o.pages) zO zO V9 S.tk hk hr S.rd (by have:=S.one;omega) zO
 have hpg:PM 2200000 t≤1:=by
  have:=V3 hT
  by_cases e:l=[]
  exact Nat.le_of_eq (this.1 e)
  have:=this.2 e
  omega
 rcases h with⟨r,out,q,hsv,hR,hrf,SI,hrd,hlen,hp,-⟩ | ⟨v',d',c',hsv,hlt,-,-⟩
 obtain⟨a,s,hs⟩:=hR.lastE
 have ha:a=[]:=by
  have h1:out.length≤1:=zO
  rw[hs,List.length_append]at h1
  exact List.length_eq_zero_iff.1 (by simpa using h1)
 subst ha
 rw[List.nil_append]at hs
 subst hs
 obtain⟨D1,ltk⟩:=dh [_] 0 _ _ hp S.dv
 obtain⟨d2,hpub,D2,K2,e2⟩:=di (T:=T) (o:=o) (s:=⟨s,r.page,r.tag⟩) SI.vs D1 hc S.gen hl hrf
 obtain⟨g,v3,hmv,hv3⟩:=fV 2199997 (o:=o) (v:={ q.v with seals:=q.v.seals+1 }) (d:=d2) (l:=l) (s:=⟨s,r.page,r.tag⟩) S.one
 refine⟨{ o with rows:=l,pages:=[⟨s,r.page,r.tag⟩],gens:=g },v3,d2,?_,rfl,S.bad,D2,fun hz=>?_⟩
 unfold Dt
 rw[hsv,AD,CI]
 show cond (decide ((0:Int)=110)) _ _=_
 rw[show decide ((0:Int)=110)=false from rfl,CQ,CI]
 show cond (decide ((0:Int)=0)) _ _=_
 rw[show decide ((0:Int)=0)=true from rfl,DB,hpub,AD]
 unfold Ek
 show cond (!decide ((0:Int)=0)) _ _=_
 rw[show(!decide ((0:Int)=0))=false from rfl,CQ,hmv,AD]
 obtain rfl:=hv3 hz
 have htk:q.v.taken.length≤1:=by
  rw[SI.tak,S.tz hz]
  simpa using ltk
 have V2:VS 60 1 (Dj 1) 1 { q.v with seals:=q.v.seals+1 } d2:=SI.vs.flushed (K2.le (Nat.zero_le _) zO) ⟨rfl,rfl,rfl⟩ htk
 refine⟨⟨1,Nat.le_refl _,V2⟩,⟨SI.ok.nd,SI.ok.tr⟩,D2,S.gen,Nat.le_refl _,fun x hx=>?_,S.bad,fun h=>by cases h⟩
 obtain⟨h1,h2,h3,g',qn,b,hh,hb⟩:=hrd x hx
 exact⟨h1,h2,h3,g',qn,b,⟨hh.key,hh.txt,by rw[e2 _ h1 h2];exact hh.is⟩,hb⟩
 omega
end
end Go.Proofs.YtjkhnhichalenaaGreatDoor
