/- The texts GG36, FD1, FD2, FD3, FP3, S30, FP4, FJ0, FW0, FP5, FP2, FB0, FB1, FP6, FL1, FL2, one behind the other: walks of the program, and plain laws of what it computes. Conditions: as each theorem says. -/
import Derived.Test.YtjkhnhichalenaaGreatDoorXB1
import Derived.Test.YtjkhnhichalenaaGreatDoorXB2
import Derived.Test.YtjkhnhichalenaaGreatDoorXB3
import Derived.Test.YtjkhnhichalenaaGreatDoorXB4

set_option linter.unusedVariables false
set_option linter.unusedSimpArgs false
set_option maxHeartbeats 4000000
set_option maxRecDepth 100000
namespace Go.Proofs.YtjkhnhichalenaaGreatDoor
open Go
section
variable {K:Nat→Prop}{w0:World}{H:List AY}
def Iz(p0:A5)(p1:UInt32):Option Bool:=
 ret (decide (p1.toUInt64<Cn (p0.blk.length:Int))) fun x1=>
 some x1
theorem Ti{Al:Nat}{Au Ad A0:Value}{p0:A5}{p1:UInt32}{r:Bool}(h:Iz p0 p1=some r): zC K w0 222 [vP Al 0,AA p1] [AK Al (.cells #[Au,Ad,A0,AV p0.rcnt,vS p0.rtag,AA p0.rboots,vI p0.left,vB p0.off] 107),AC 9 1 Au eS p0.blk,AC 9 1 Ad eS p0.pnd,AC 4 1 A0 eB p0.bads] H (fun u M=>u=vB r∧M=[AK Al (.cells #[Au,Ad,A0,AV p0.rcnt,vS p0.rtag,AA p0.rboots,vI p0.left,vB p0.off] 107),AC 9 1 Au eS p0.blk,AC 9 1 Ad eS p0.pnd,AC 4 1 A0 eB p0.bads]):=by
 unfold Iz at h
 refine Td.enter Tryz.func222 rfl rfl ?_
 refine Y (U E (V (Y ?_)))
 obtain⟨x1,ex1,h⟩:=Bz h
 refine J E (BF E E (Cs CP DL) (J E (AT E E (AF E QM (AG 0 OJ E (DW 1 E Db E E (BF E E (Es I9 DL) ?_)))))))
 refine Z E Yh ?_
 refine Ak (u:=vB x1) E E (congrArg vB ex1) ?_
 refine V (AL ?_)
 obtain rfl:=zI h
 exact AX [0,1,2,3] 4 E E E
def HE(o2:A5):Option (Int×A5):=
 some (0,o2)
def FU(o1:A5):Option (Int×A5):=
 cond o1.off
 (
  some (71,o1))
 (
  cond (decide (0<o1.left))
  (
   HE ({ o1 with left:=wI (o1.left-1) }))
  (
   HE o1))
def Dd(p0:A5):Option (Int×A5):=
 cond (decide (p0.left=0))
 (
  FU ({ p0 with off:=true }))
 (
  FU p0)
theorem Ip{Al:Nat}{Au Ad A0:Value}{p0:A5}{r:Int×A5}(h:Dd p0=some r): zC K w0 70 [vP Al 0] [AK Al (.cells #[Au,Ad,A0,AV p0.rcnt,vS p0.rtag,AA p0.rboots,vI p0.left,vB p0.off] 107),AC 9 1 Au eS p0.blk,AC 9 1 Ad eS p0.pnd,AC 4 1 A0 eB p0.bads] H (fun u M=>u=vI r.1∧M=[AK Al (.cells #[Au,Ad,A0,AV r.2.rcnt,vS r.2.rtag,AA r.2.rboots,vI r.2.left,vB r.2.off] 107),AC 9 1 Au eS r.2.blk,AC 9 1 Ad eS r.2.pnd,AC 4 1 A0 eB r.2.bads]):=by
 unfold Dd at h
 refine Td.enter Tryz.func70 rfl rfl ?_
 refine Y (U E (V ?_))
 refine BB (α:=A5) (fun x=>FU x=some r) (fun x=>[(0,vP Al 0)]) (fun x=>AK Al (.cells #[Au,Ad,A0,AV x.rcnt,vS x.rtag,AA x.rboots,vI x.left,vB x.off] 107)::AC 9 1 Au eS x.blk::AC 9 1 Ad eS x.pnd::AC 4 1 A0 eB x.bads::H) ?_ (fun o1 D h=>?_)
 refine Y (J E (AT E E (AF E Ug (AG 0 FJ E (Z E Bg (V ?_))))))
 refine AN h E (fun hc1 h=>?_) fun hc1 h=>?_
 refine AS (J E (AT E E (AF E cn (A8 0 E E E E Re E E E zT (Aa ?_)))))
 exact Ap ({ p0 with off:=true }) h tL (BR [0,1,2,3] 4 rfl rfl rfl)
 refine AJ ?_
 exact Ap p0 h tL (BR [0,1,2,3] 4 E E E)
 unfold FU at h
 try dsimp only
 refine AH (Y (J E (AT E E (AF E cn (AG 0 U1 E (V ?_))))))
 refine AN h E (fun hc2 h=>?_) fun hc2 h=>?_
 refine Y (U E (V (AL (Ac ?_))))
 obtain rfl:=zI h
 exact AX [0,1,2,3] 4 E E E
 refine AJ (AI ?_)
 refine BB (α:=A5) (fun x=>HE x=some r) (fun x=>[(0,vP Al 0)]) (fun x=>AK Al (.cells #[Au,Ad,A0,AV x.rcnt,vS x.rtag,AA x.rboots,vI x.left,vB x.off] 107)::AC 9 1 Au eS x.blk::AC 9 1 Ad eS x.pnd::AC 4 1 A0 eB x.bads::H) ?_ (fun o2 D h=>?_)
 refine Y (J E (AT E E (AF E Ug (AG 0 FJ E (Z E Cq (V ?_))))))
 refine AN h E (fun hc3 h=>?_) fun hc3 h=>?_
 refine AS (J E (AT E E (AF E Ug (AG 0 FJ E (Z E Dm (AT E E (AF E Ug (A8 0 E E E E PI E E E zT (Aa ?_)))))))))
 exact Ap ({ o1 with left:=wI (o1.left-1) }) h tL (BR [0,1,2,3] 4 rfl rfl rfl)
 refine AJ ?_
 exact Ap o1 h tL (BR [0,1,2,3] 4 E E E)
 unfold HE at h
 try dsimp only
 refine Y (U E (V (AL ?_)))
 obtain rfl:=zI h
 exact AX [0,1,2,3] 4 E E E
def Fi(y2:Int×A5)(o1:A5):Option (Int×A5):=
 some (y2.1,o1)
def Ea(p0:A5)(p1:UInt32)(p2:List UInt8):Option (Int×A5):=
 (Iz p0 p1).bind fun y1=>
 cond ((!y1)||(!decide ((p2.length:Int)=256)))
 (
  some (2,p0))
 (
  (Dd p0).bind fun y2=>
  cond (decide (y2.1=0))
  (
   (BE y2.2.pnd (p1.toNat:Int)).bind fun x1=>
   (Nx y2.2.pnd (p1.toNat:Int) p2).bind fun l1=>
   Fi y2 ({ y2.2 with pnd:=l1 }))
  (
   Fi y2 y2.2))
theorem RZ{Al:Nat}{Au Ad A0:Value}{p0:A5}{p1:UInt32}{p2:List UInt8}{r:Int×A5}(h:Ea p0 p1 p2=some r): zC K w0 180 [vP Al 0,AA p1,vS p2] [AK Al (.cells #[Au,Ad,A0,AV p0.rcnt,vS p0.rtag,AA p0.rboots,vI p0.left,vB p0.off] 107),AC 9 1 Au eS p0.blk,AC 9 1 Ad eS p0.pnd,AC 4 1 A0 eB p0.bads] H (fun u M=>u=vI r.1∧M=[AK Al (.cells #[Au,Ad,A0,AV r.2.rcnt,vS r.2.rtag,AA r.2.rboots,vI r.2.left,vB r.2.off] 107),AC 9 1 Au eS r.2.blk,AC 9 1 Ad eS r.2.pnd,AC 4 1 A0 eB r.2.bads]):=by
 unfold Ea at h
 refine Td.enter Tryz.func180 rfl rfl ?_
 refine Y (U E (V (AH (Y ?_))))
 refine AE h fun y1 hy1 h=>?_
 refine J E (J E (AP 4 oD (Ti hy1) E (CY E E (J E ?_))))
 refine E3 (c := !decide ((p2.length:Int)=256)) 12 4 16 E (fun hb k=>?_) (fun hb k=>?_) ?_
 refine AD E (AD E (AD E (Ai E E E ?_)))
 exact k.mono tL
 refine J E (By E Ch E (Z E BO (Ai E E E ?_)))
 exact k.mono tL
 refine V ?_
 refine AN h E (fun hc1 h=>?_) fun hc1 h=>?_
 refine Y (U E (V (AL (Ac ?_))))
 obtain rfl:=zI h
 exact AX [0,1,2,3] 4 E E E
 refine AJ (AI (Y ?_))
 refine AE h fun y2 hy2 h=>?_
 refine J E (AP 4 aD (Ip hy2) E (U E (V ?_)))
 refine BB (α:=A5) (fun x=>Fi y2 x=some r) (fun x=>[(0,vP Al 0),(7,vI y2.1)]) (fun x=>AK Al (.cells #[Au,Ad,A0,AV x.rcnt,vS x.rtag,AA x.rboots,vI x.left,vB x.off] 107)::AC 9 1 Au eS x.blk::AC 9 1 Ad eS x.pnd::AC 4 1 A0 eB x.bads::H) ?_ (fun o1 D h=>?_)
 refine Y (J E (Z E Bg (V ?_)))
 refine AN h E (fun hc2 h=>?_) fun hc2 h=>?_
 refine AS ?_
 refine AE h fun x1 hx1 h=>?_
 refine AE h fun l1 hl1 h=>?_
 refine J E (AT E E (AF E QN (AG 0 OJ E (J E (J E ?_)))))
 refine CI 2 hx1 E Db GD E E E fun g1 m1 cp1 hv1=>?_
 refine GE (sz:=1) (enc:=eS) 2 hl1 zV rfl rfl rfl rfl rfl hv1 GD (by first | (simp[Value.oneCell'];done) | simp[eS,Value.oneCell']) trivial ?_
 refine Aa ?_
 exact Ap ({ y2.2 with pnd:=l1 }) h tL (BR [0,1,2,3] 4 rfl rfl rfl)
 refine AJ ?_
 exact Ap y2.2 h tL (BR [0,1,2,3] 4 E E E)
 unfold Fi at h
 try dsimp only
 refine Y (J E (U E (V (AL ?_))))
 obtain rfl:=zI h
 exact AX [0,1,2,3] 4 E E E
def NQ:Option Bool:=
 some true
def Gz(p0:List (List UInt8))(p1:List (List UInt8))(nx_f_ref07_Same_l1:Int→Option Bool)(a1:Int):Option Bool:=
 cond (decide (a1<(p0.length:Int)))
 (
  (BE p0 a1).bind fun x1=>
  (BE p1 a1).bind fun x2=>
  cond (!decide (x1=x2))
  (
   some false)
  (
   ret (wI (a1+1)) fun i_1=>
   nx_f_ref07_Same_l1 i_1))
 (
  NQ)
def Kx(p0:List (List UInt8))(p1:List (List UInt8)):Nat→Int→Option Bool:=CO fun nx x=>Gz p0 p1 nx x
def LQ(n:Nat)(p0:List (List UInt8))(p1:List (List UInt8)):Option Bool:=
 cond (!decide ((p0.length:Int)=(p1.length:Int)))
 (
  some false)
 (
  Kx p0 p1 n 0)
theorem YV{n:Nat}{DB Dt:Value}{p0:List (List UInt8)}{p1:List (List UInt8)}{r:Bool}(h:LQ n p0 p1=some r)(hs0_:B9 K w0 eS 1 DB p0)(hs1_:B9 K w0 eS 1 Dt p1):zC K w0 18 [DB,Dt] [] H (fun u M=>u=vB r∧M=[]):=by
 unfold LQ at h
 refine Td.enter Tryz.func18 rfl rfl ?_
 refine Y (U E (V (AH (Y (J E (B2 hs0_ E Db E (J E (B2 hs1_ E Db E (Z E BO (V ?_))))))))))
 refine AN h E (fun hc1 h=>?_) fun hc1 h=>?_
 refine Y (U E (V (AL (Ac ?_))))
 obtain rfl:=zI h
 exact AX [] 0 E E E
 refine AJ (AI ?_)
 refine BB (α:=Unit) (fun x=>NQ=some r) (fun x=>[]) (fun x=>H) ?_ (fun x D h=>?_)
 refine Y (U E (V (AQ ?_)))
 refine SX.heap (SX.mono (BG (α:=Nat×Int) (fun x=>Kx p0 p1 x.1 x.2=some r) (fun x=>[(0,DB),(1,Dt),(5,vI x.2)]) (fun x=>H) (fun x=>x.1) (fun x D h=>?_) (n,0) h) tL) (BR [] 0 E E E)
 obtain⟨m1,a1⟩:=x
 dsimp only at h
 rcases m1 with _ | m1
 cases (show(none:Option _)=some r from h)
 replace h:Gz p0 p1 (Kx p0 p1 m1) a1=some r:=h
 unfold Gz at h
 try dsimp only
 refine AH (Y (J E (J E (B2 hs0_ E Db E (Z E BA (V ?_))))))
 refine AN h E (fun hc2 h=>?_) fun hc2 h=>?_
 refine AJ (AI (AH (AQ (AH ?_))))
 refine AE h fun x1 hx1 h=>?_
 refine AE h fun x2 hx2 h=>?_
 refine Aw DG [] (C4 [(true,0),(true,1),(true,2),(true,3),(true,4),(true,5),(true,6),(true,7),(true,8)]) zK (J E (J E ?_))
 refine C9 hx1 hs0_ E Db GD E E fun be1 of1 hc3=>?_
 refine Bv E Fx E (DQ (j:=0) hc3 E) ?_
 refine J E (J E ?_)
 refine C9 hx2 hs1_ E Db GD E E fun be2 of2 hc4=>?_
 refine Bv E Fx E (DQ (j:=0) hc4 E) ?_
 refine Z E Rg (V ?_)
 refine AN h E (fun hc5 h=>?_) fun hc5 h=>?_
 refine Y (U E (V (AL (BC (Ac (EE (BC (GZ ?_))))))))
 obtain rfl:=zI h
 exact AX [] 0 E E E
 refine AJ (An (AI (AS ?_)))
 obtain⟨i_1,ei_1,h⟩:=Bz h
 refine J E (Z E Bf ?_)
 refine Ak (u:=vI i_1) E E (congrArg vI ei_1) ?_
 refine Aa ?_
 exact Av (m1,i_1) h (Nat.lt_succ_self _) tL (BR [] 0 E E E)
 refine Ay (A6 (Ba (A9 ?_)))
 exact Ap () h tL (BR [] 0 E E E)
 unfold NQ at h
 try dsimp only
 refine Y (U E (V (AL ?_)))
 obtain rfl:=zI h
 exact AX [] 0 E E E
def Ex(n:Nat)(T:List UInt32)(p0:Bb)(p0_1:A5)(p1:UInt32)(p2:List UInt8):Option (List UInt8×Int×Bb×A5):=
 (LP n T p0.ring (⟨p1,p0.gen,p0.boot,p0.num⟩:DC) p2).bind fun y1=>
 cond (!decide (y1.2=0))
 (
  some ([],y1.2,p0,p0_1))
 (
  (Ea p0_1 p1 y1.1).bind fun y2=>
  cond (!decide (y2.1=0))
  (
   some ([],y2.1,{ p0 with num:=p0.num+1 },y2.2))
  (
   (Im y1.1 224 (y1.1.length:Int)).bind fun s1=>
   some (s1,0,{ p0 with num:=p0.num+1 },y2.2)))
theorem Nq{n Al BH:Nat}{T:List UInt32}{Ad BY Dj BZ Dk:Value}{p0:Bb}{p0_1:A5}{p1:UInt32}{p2:List UInt8}{r:List UInt8×Int×Bb×A5}(h:Ex n T p0 p0_1 p1 p2=some r)(hT:JB K w0 2 64 T):zC K w0 141 [vP Al 0,AA p1,vS p2] [AK Al (.cells #[vP BH 0,Ad,AA p0.gen,AA p0.boot,AV p0.num,BY] 153),AC 114 2 Ad AZ p0.ring,AC 4 1 BY eB p0.taken,AK BH (.cells #[Dj,BZ,Dk,AV p0_1.rcnt,vS p0_1.rtag,AA p0_1.rboots,vI p0_1.left,vB p0_1.off] 107),AC 9 1 Dj eS p0_1.blk,AC 9 1 BZ eS p0_1.pnd,AC 4 1 Dk eB p0_1.bads] H (fun u M=>u=.tuple #[vS r.1,vI r.2.1]∧M=[AK Al (.cells #[vP BH 0,Ad,AA r.2.2.1.gen,AA r.2.2.1.boot,AV r.2.2.1.num,BY] 153),AC 114 2 Ad AZ r.2.2.1.ring,AC 4 1 BY eB r.2.2.1.taken,AK BH (.cells #[Dj,BZ,Dk,AV r.2.2.2.rcnt,vS r.2.2.2.rtag,AA r.2.2.2.rboots,vI r.2.2.2.left,vB r.2.2.2.off] 107),AC 9 1 Dj eS r.2.2.2.blk,AC 9 1 BZ eS r.2.2.2.pnd,AC 4 1 Dk eB r.2.2.2.bads]):=by
 unfold Ex at h
 refine Td.enter Tryz.func141 rfl rfl ?_
 refine Y (U E (U E (V (AH ?_))))
 refine AE h fun y1 hy1 h=>?_
 refine Aw DG [0] (CM [(true,0),(true,1),(true,2),(true,3),(true,4),(true,5),(true,6),(true,7),(true,8),(true,9),(true,10),(true,11),(true,12),(true,13),(true,14),(true,15),(true,16),(true,17),(true,18),(false,19),(false,20),(true,21),(true,22),(false,23)] (.last 24 .nil)) zK (J E (AT E E (AF E kq (AG 0 lX E (J E (J E (AT E E ?_)))))))
 refine AF E Xe (AG 0 A7 E (J E (AT E E (AF E kr (AG 0 A7 E (J E (AT E E ?_)))))))
 refine AF E Xf (AG 0 G7 E (CB [_,_,_,_] E lK lI ff ⟨E,E,E,E,zT⟩ E (J E (SL.pick [1,0] 2 ?_))))
 refine Bd (vs:=[_,_,_]) (Hin:=[_]) (Hr:=_::_::_::_::_::_::_) E E ⟨E,E,E,zT⟩ nh E E (Cm (B:=[_]) (Hin:=[]) fun K' w1 hk hB=>(YU hy1 (hT.keeps hk) (CT (e:=114) (v:=Ad) zV (hB _ zS)) :)) ?_
 rintro _ _ ⟨_,rfl,rfl,rfl⟩
 refine⟨⟨⟨1,rfl⟩,trivial⟩,?_⟩
 refine J E (Ae E E E (Ae E E E (U E (Bh (U E (V (AH (Y (J E (Z E BO (V ?_)))))))))))
 refine AN h E (fun hc1 h=>?_) fun hc1 h=>?_
 refine Y (J E (U E (U E (V (AL (Ac ?_))))))
 obtain rfl:=zI h
 exact AX [1,0,2,3,4,5,6] 7 E E E
 refine AJ (AI (Y (J E (AT E E (AF E Xf (AG 1 G7 E ?_))))))
 refine Z E (Hw (b:=1)) ?_
 refine AT E E (AF E Xf (A8 1 E E E E hQ E E E zT (V (Y ?_))))
 refine AE h fun y2 hy2 h=>?_
 refine J E (AT E E (AF E O4 (AG 1 X7 E (J E (J E (SL.pick [3,4,5,6,0,1,2] 7 (AP 4 ni (RZ hy2) E ?_)))))))
 refine U E (V (AH (Y (J E (Z E BO (V ?_))))))
 refine AN h E (fun hc2 h=>?_) fun hc2 h=>?_
 refine Y (J E (U E (U E (V (AL (Ac ?_))))))
 obtain rfl:=zI h
 exact AX [5,4,6,0,1,2,3] 7 E E E
 refine AJ (AI (Y ?_))
 refine AE h fun s1 hs1 h=>?_
 refine J E (jp hs1 E Ch E E (U E (U E (V (AL ?_)))))
 obtain rfl:=zI h
 exact AX [5,4,6,0,1,2,3] 7 E E E
def IP(o1:Bb)(o2:A5)(y1:UInt32)(y2:List UInt8):Option (BV×Int×Bb×A5):=
 some ((⟨0,[]⟩:BV),110,o1,o2)
def EO(n:Nat)(T:List UInt32)(p1:List UInt8)(nx_f_ref13_Vault_Write_l1:Bb×A5×UInt32×List UInt8×Int→Option (BV×Int×Bb×A5))(o3:Bb)(o4:A5)(y3:UInt32)(y4:List UInt8)(a1:Int):Option (BV×Int×Bb×A5):=
 cond (decide (a1<(o3.taken.length:Int)))
 (
  (BE o3.taken a1).bind fun x1=>
  cond x1
  (
   ret (wI (a1+1)) fun p_1=>
   nx_f_ref13_Vault_Write_l1 (o3,o4,y3,y4,p_1))
  (
   (Ex n T o3 o4 (Ep a1) p1).bind fun y5=>
   cond (!decide (y5.2.1=0))
   (
    some ((⟨0,[]⟩:BV),y5.2.1,y5.2.2.1,y5.2.2.2))
   (
    (BE y5.2.2.1.taken a1).bind fun x2=>
    (Nx y5.2.2.1.taken a1 true).bind fun l1=>
    some ((⟨Ep a1,y5.1⟩:BV),0,{ y5.2.2.1 with taken:=l1 },y5.2.2.2))))
 (
  IP o3 o4 y3 y4)
def F1(n:Nat)(T:List UInt32)(p1:List UInt8):Nat→(Bb×A5×UInt32×List UInt8×Int)→Option (BV×Int×Bb×A5):=CO fun nx x=>EO n T p1 nx x.1 x.2.1 x.2.2.1 x.2.2.2.1 x.2.2.2.2
def Fr(n:Nat)(T:List UInt32)(p0:Bb)(p0_1:A5)(p1:List UInt8):Option (BV×Int×Bb×A5):=
 cond (decide (198<(p1.length:Int)))
 (
  some ((⟨0,[]⟩:BV),50,p0,p0_1))
 (
  F1 n T p1 n (p0,p0_1,0,[],2))
theorem Rx{n Al BH:Nat}{T:List UInt32}{Ad BY Dj BZ Dk:Value}{p0:Bb}{p0_1:A5}{p1:List UInt8}{r:BV×Int×Bb×A5}(h:Fr n T p0 p0_1 p1=some r)(hT:JB K w0 2 64 T):zC K w0 177 [vP Al 0,vS p1] [AK Al (.cells #[vP BH 0,Ad,AA p0.gen,AA p0.boot,AV p0.num,BY] 153),AC 114 2 Ad AZ p0.ring,AC 4 1 BY eB p0.taken,AK BH (.cells #[Dj,BZ,Dk,AV p0_1.rcnt,vS p0_1.rtag,AA p0_1.rboots,vI p0_1.left,vB p0_1.off] 107),AC 9 1 Dj eS p0_1.blk,AC 9 1 BZ eS p0_1.pnd,AC 4 1 Dk eB p0_1.bads] H (fun u M=>u=.tuple #[.agg (B0 r.1).toArray,vI r.2.1]∧M=[AK Al (.cells #[vP BH 0,Ad,AA r.2.2.1.gen,AA r.2.2.1.boot,AV r.2.2.1.num,BY] 153),AC 114 2 Ad AZ r.2.2.1.ring,AC 4 1 BY eB r.2.2.1.taken,AK BH (.cells #[Dj,BZ,Dk,AV r.2.2.2.rcnt,vS r.2.2.2.rtag,AA r.2.2.2.rboots,vI r.2.2.2.left,vB r.2.2.2.off] 107),AC 9 1 Dj eS r.2.2.2.blk,AC 9 1 BZ eS r.2.2.2.pnd,AC 4 1 Dk eB r.2.2.2.bads]):=by
 unfold Fr at h
 refine Td.enter Tryz.func177 rfl rfl ?_
 refine Y ?_
 refine Am E FE zU fun b1=>?_
 refine U E (V (AH (Y (J E (By E Ch E (Z E Cq (V ?_)))))))
 refine AN h E (fun hc1 h=>?_) fun hc1 h=>?_
 refine Y (CB [] E OC OB FE zT E (A8 0 E E E E EX E E E zT (U E (V (AL (Ac ?_))))))
 obtain rfl:=zI h
 exact Ag (D7 E (CC 0 (B0 (⟨0,[]⟩:BV)) DD E E E E) E) (Af (M:=[_,_,_,_,_,_,_]) ⟨E,E⟩ fun _ hw=>BW.pick (H:=[_,_,_,_,_,_,_,_]) hw [1,2,3,4,5,6,7] 8 E)
 refine AJ (AI ?_)
 refine BB (α:=Bb×A5×UInt32×List UInt8) (fun x=>IP x.1 x.2.1 x.2.2.1 x.2.2.2=some r) (fun x=>[(0,vP Al 0),(4,vP b1 0)]) (fun x=>AK Al (.cells #[vP BH 0,Ad,AA x.1.gen,AA x.1.boot,AV x.1.num,BY] 153)::AK BH (.cells #[Dj,BZ,Dk,AV x.2.1.rcnt,vS x.2.1.rtag,AA x.2.1.rboots,vI x.2.1.left,vB x.2.1.off] 107)::AC 9 1 Dj eS x.2.1.blk::AC 9 1 BZ eS x.2.1.pnd::AC 4 1 Dk eB x.2.1.bads::AC 114 2 Ad AZ x.1.ring::AC 4 1 BY eB x.1.taken::AK b1 (.cells #[AA x.2.2.1,vS x.2.2.2] 188)::H) ?_ (fun x D h=>?_)
 refine Y (U E (V (AQ ?_)))
 refine SX.heap (SX.mono (BG (α:=Nat×Bb×A5×UInt32×List UInt8×Int) (fun x=>F1 n T p1 x.1 (x.2.1,x.2.2.1,x.2.2.2.1,x.2.2.2.2.1,x.2.2.2.2.2)=some r) (fun x=>[(0,vP Al 0),(1,vS p1),(4,vP b1 0),(6,vI x.2.2.2.2.2)]) (fun x=>AK Al (.cells #[vP BH 0,Ad,AA x.2.1.gen,AA x.2.1.boot,AV x.2.1.num,BY] 153)::AK BH (.cells #[Dj,BZ,Dk,AV x.2.2.1.rcnt,vS x.2.2.1.rtag,AA x.2.2.1.rboots,vI x.2.2.1.left,vB x.2.2.1.off] 107)::AC 9 1 Dj eS x.2.2.1.blk::AC 9 1 BZ eS x.2.2.1.pnd::AC 4 1 Dk eB x.2.2.1.bads::AC 114 2 Ad AZ x.2.1.ring::AC 4 1 BY eB x.2.1.taken::AK b1 (.cells #[AA x.2.2.2.1,vS x.2.2.2.2.1] 188)::H) (fun x=>x.1) (fun x D h=>?_) (n,p0,p0_1,0,[],2) h) tL) (BR [1,4,5,6,7,2,3,0] 8 E E E)
 obtain⟨m1,o3,o4,y3,y4,a1⟩:=x
 dsimp only at h
 rcases m1 with _ | m1
 cases (show(none:Option _)=some r from h)
 replace h:EO n T p1 (F1 n T p1 m1) o3 o4 y3 y4 a1=some r:=h
 unfold EO at h
 try dsimp only
 refine AH (Y (J E (J E (AT E E (AF E SK (AG 0 Vb E (DW 6 E Si E E (Z E BA (V ?_)))))))))
 refine AN h E (fun hc2 h=>?_) fun hc2 h=>?_
 refine AJ (AI (AH (AQ (AH (Y ?_)))))
 refine AE h fun x1 hx1 h=>?_
 refine J E (AT E E (AF E SK (AG 0 Vb E (J E ?_))))
 refine CI 6 hx1 E Si Re E E E fun g1 m2 cp1 hv1=>?_
 refine Bv E U1 E (CA (sz:=1) (enc:=eB) 6 0 zV E hv1 hx1 E) ?_
 refine V ?_
 refine AN h E (fun hc3 h=>?_) fun hc3 h=>?_
 refine Ay (A6 (A9 (AI (AS ?_))))
 obtain⟨p_1,ep_1,h⟩:=Bz h
 refine J E (Z E Bf ?_)
 refine Ak (u:=vI p_1) E E (congrArg vI ep_1) ?_
 refine Aa ?_
 exact Av (m1,o3,o4,y3,y4,p_1) h (Nat.lt_succ_self _) tL (BR [0,1,2,3,4,5,6,7] 8 E E E)
 refine AJ (AI (Y ?_))
 refine AE h fun y5 hy5 h=>?_
 refine J E (J E (BF E E (Og I9 CP) (J E (SL.pick [0,5,6,1,2,3,4] 7 (AP 7 gJ (Nq hy5 hT) E (J E (Ae E E E ?_)))))))
 refine Ae E E E (U E (U E (V (AH (Y (J E (Z E BO (V ?_))))))))
 refine AN h E (fun hc4 h=>?_) fun hc4 h=>?_
 refine Y (CB [] E OC OB FE zT E (J E (A8 7 E E E E EX E E E zT (U E (V (AL (Ac (BC (Ac (EE (BC (GZ ?_))))))))))))
 obtain rfl:=zI h
 exact Ag (D7 E (CC 7 (B0 (⟨0,[]⟩:BV)) DD E E E E) E) (Af (M:=[_,_,_,_,_,_,_]) ⟨E,E⟩ fun _ hw=>BW.pick (H:=[_,_,_,_,_,_,_,_]) hw [0,1,2,3,4,5,6] 8 E)
 refine AJ (AI (Y ?_))
 refine AE h fun x2 hx2 h=>?_
 refine AE h fun l1 hl1 h=>?_
 refine J E (AT E E (AF E SK (AG 0 Vb E (J E ?_))))
 refine CI 2 hx2 E Si Re E E E fun g2 m3 cp2 hv2=>?_
 refine GE (sz:=1) (enc:=eB) 2 hl1 zV rfl rfl rfl rfl rfl hv2 Re (by first | (simp[Value.oneCell'];done) | simp[eB,Value.oneCell']) trivial ?_
 refine V (Y (J E (BF E E (Og I9 CP) (J E (CB [_,_] E OC OB FE ⟨E,E,zT⟩ E (A8 7 E E E E EX E E E zT (U E (V (AL (BC (Ac (EE (BC (GZ ?_))))))))))))))
 obtain rfl:=zI h
 exact Ag (D7 E (CC 7 (B0 (⟨Ep a1,y5.1⟩:BV)) DD E E E E) E) (Af (M:=[_,_,_,_,_,_,_]) ⟨E,E⟩ fun _ hw=>BW.pick (H:=[_,_,_,_,_,_,_,_]) hw [0,1,2,3,4,5,6] 8 E)
 refine Ay (A6 (Ba (A9 ?_)))
 exact Ap (o3,o4,y3,y4) h tL (BR [0,1,2,3,4,5,6,7] 8 E E E)
 obtain⟨o1,o2,y1,y2⟩:=x
 dsimp only at h
 unfold IP at h
 try dsimp only
 refine Y (CB [] E OC OB FE zT E (A8 7 E E E E EX E E E zT (U E (V (AL ?_)))))
 obtain rfl:=zI h
 exact Ag (D7 E (CC 7 (B0 (⟨0,[]⟩:BV)) DD E E E E) E) (Af (M:=[_,_,_,_,_,_,_]) ⟨E,E⟩ fun _ hw=>BW.pick (H:=[_,_,_,_,_,_,_,_]) hw [0,5,6,1,2,3,4] 8 E)
end

section
variable {K:Nat→Prop}{w0:World}{H:List AY}
def HC(a5:UInt64)(a6:Int):Option Int:=
 (BE ([0,1,2,2,3,3,3,3,4,4,4,4,4,4,4,4,5,5,5,5,5,5,5,5,5,5,5,5,5,5,5,5,6,6,6,6,6,6,6,6,6,6,6,6,6,6,6,6,6,6,6,6,6,6,6,6,6,6,6,6,6,6,6,6,7,7,7,7,7,7,7,7,7,7,7,7,7,7,7,7,7,7,7,7,7,7,7,7,7,7,7,7,7,7,7,7,7,7,7,7,7,7,7,7,7,7,7,7,7,7,7,7,7,7,7,7,7,7,7,7,7,7,7,7,7,7,7,7,8,8,8,8,8,8,8,8,8,8,8,8,8,8,8,8,8,8,8,8,8,8,8,8,8,8,8,8,8,8,8,8,8,8,8,8,8,8,8,8,8,8,8,8,8,8,8,8,8,8,8,8,8,8,8,8,8,8,8,8,8,8,8,8,8,8,8,8,8,8,8,8,8,8,8,8,8,8,8,8,8,8,8,8,8,8,8,8,8,8,8,8,8,8,8,8,8,8,8,8,8,8,8,8,8,8,8,8,8,8,8,8,8,8,8,8,8,8,8,8,8,8,8,8,8,8,8,8]:List UInt8) (a5.toUInt8.toNat:Int)).bind fun c1=>
 ret (wI (a6+(c1.toNat:Int))) fun x6=>
 some x6
def HB(a3:UInt64)(a4:Int):Option Int:=
 cond (decide (256≤a3))
 (
  ret (shr64 a3 8) fun x4=>
  ret (wI (a4+8)) fun x5=>
  HC x4 x5)
 (
  HC a3 a4)
def HA(a1:UInt64)(a2:Int):Option Int:=
 cond (decide (65536≤a1))
 (
  ret (shr64 a1 16) fun x2=>
  ret (wI (a2+16)) fun x3=>
  HB x2 x3)
 (
  HB a1 a2)
def L4(p0:UInt64):Option Int:=
 cond (decide (4294967296≤p0))
 (
  ret (shr64 p0 32) fun x1=>
  HA x1 32)
 (
  HA p0 0)
theorem Th{p0:UInt64}{r:Int}(h:L4 p0=some r): zC K w0 254 [AV p0] [] H (fun u M=>u=vI r∧M=[]):=by
 unfold L4 at h
 refine Td.enter Tryz.func254 rfl rfl ?_
 refine Y (U E (V ?_))
 refine BB (α:=UInt64×Int) (fun x=>HA x.1 x.2=some r) (fun x=>[(0,AV x.1),(2,vI x.2)]) (fun x=>H) ?_ (fun x D h=>?_)
 refine Y (J E ?_)
 refine Z E (P5 (b:=4294967296)) ?_
 refine V ?_
 refine AN h E (fun hc1 h=>?_) fun hc1 h=>?_
 refine Y ?_
 obtain⟨x1,ex1,h⟩:=Bz h
 refine J E ?_
 refine Z E (FO.shr64 (n:=32)) ?_
 refine Ak (u:=AV x1) E E (congrArg AV ex1) ?_
 refine V (AS (U E (Aa ?_)))
 exact Ap (x1,32) h tL (BR [] 0 E E E)
 refine AJ ?_
 exact Ap (p0,0) h tL (BR [] 0 E E E)
 obtain⟨a1,a2⟩:=x
 dsimp only at h
 unfold HA at h
 try dsimp only
 refine BB (α:=UInt64×Int) (fun x=>HB x.1 x.2=some r) (fun x=>[(0,AV x.1),(2,vI x.2)]) (fun x=>H) ?_ (fun x D h=>?_)
 refine Y (J E ?_)
 refine Z E (P5 (b:=65536)) ?_
 refine V ?_
 refine AN h E (fun hc2 h=>?_) fun hc2 h=>?_
 refine Y ?_
 obtain⟨x2,ex2,h⟩:=Bz h
 refine J E ?_
 refine Z E (FO.shr64 (n:=16)) ?_
 refine Ak (u:=AV x2) E E (congrArg AV ex2) ?_
 refine V (AS ?_)
 obtain⟨x3,ex3,h⟩:=Bz h
 refine J E (Z E Bf ?_)
 refine Ak (u:=vI x3) E E (congrArg vI ex3) ?_
 refine Aa ?_
 exact Ap (x2,x3) h tL (BR [] 0 E E E)
 refine AJ ?_
 exact Ap (a1,a2) h tL (BR [] 0 E E E)
 obtain⟨a3,a4⟩:=x
 dsimp only at h
 unfold HB at h
 try dsimp only
 refine BB (α:=UInt64×Int) (fun x=>HC x.1 x.2=some r) (fun x=>[(0,AV x.1),(2,vI x.2)]) (fun x=>H) ?_ (fun x D h=>?_)
 refine Y (J E ?_)
 refine Z E (P5 (b:=256)) ?_
 refine V ?_
 refine AN h E (fun hc3 h=>?_) fun hc3 h=>?_
 refine Y ?_
 obtain⟨x4,ex4,h⟩:=Bz h
 refine J E ?_
 refine Z E (FO.shr64 (n:=8)) ?_
 refine Ak (u:=AV x4) E E (congrArg AV ex4) ?_
 refine V (AS ?_)
 obtain⟨x5,ex5,h⟩:=Bz h
 refine J E (Z E Bf ?_)
 refine Ak (u:=vI x5) E E (congrArg vI ex5) ?_
 refine Aa ?_
 exact Ap (x4,x5) h tL (BR [] 0 E E E)
 refine AJ ?_
 exact Ap (a3,a4) h tL (BR [] 0 E E E)
 obtain⟨a5,a6⟩:=x
 dsimp only at h
 unfold HC at h
 try dsimp only
 refine Y ?_
 refine AE h fun c1 hc1 h=>?_
 obtain⟨x6,ex6,h⟩:=Bz h
 refine J E (J E (BF E E (FF DL DI) (KZ hc1 E Ch E E (BF E E (bZ DI I9) (Z E Bf ?_)))))
 refine Ak (u:=vI x6) E E (congrArg vI ex6) ?_
 refine V (AL ?_)
 obtain rfl:=zI h
 exact AX [] 0 E E E
def NO(p0:UInt64):Option Int:=
 (L4 p0).bind fun y1=>
 some y1
theorem VH{p0:UInt64}{r:Int}(h:NO p0=some r): zC K w0 212 [AV p0] [] H (fun u M=>u=vI r∧M=[]):=by
 unfold NO at h
 refine Td.enter Tryz.func212 rfl rfl ?_
 refine Y (U E (V (AH (C0 E (AJ (AI (Y ?_)))))))
 refine AE h fun y1 hy1 h=>?_
 refine J E (AP 0 oL (Th hy1) E (U E (V (AL ?_))))
 obtain rfl:=zI h
 exact AX [] 0 E E E
def De(p2:Int)(nx_f_slices_insertionSortOrdered_uint32_l1:List UInt32×Int→Option (List UInt32))(l1:List UInt32)(a1:Int):Option (List UInt32):=
 cond (decide (a1<p2))
 (
  none)
 (
  some l1)
def Dq(p2:Int):Nat→(List UInt32×Int)→Option (List UInt32):=CO fun nx x=>De p2 nx x.1 x.2
def EI(n:Nat)(p0:List UInt32)(p1:Int)(p2:Int):Option (List UInt32):=
 ret (wI (p1+1)) fun i_1=>
 Dq p2 n (p0,i_1)
theorem Kh{n:Nat}{DB:Value}{p0 r:List UInt32}{p1 p2:Int}(h:EI n p0 p1 p2=some r): zC K w0 245 [DB,vI p1,vI p2] [AC 33 1 DB BQ p0] H (fun u M=>u=.tuple #[]∧M=[AC 33 1 DB BQ r]):=by
 unfold EI at h
 refine Td.enter Tryz.func245 rfl rfl ?_
 refine Y ?_
 obtain⟨i_1,ei_1,h⟩:=Bz h
 refine J E (Z E Bf ?_)
 refine Ak (u:=vI i_1) E E (congrArg vI ei_1) ?_
 refine V (AQ ?_)
 refine SX.heap (SX.mono (BG (α:=Nat×List UInt32×Int) (fun x=>Dq p2 x.1 (x.2.1,x.2.2)=some r) (fun x=>[(0,DB),(1,vI p1),(2,vI p2),(6,vI x.2.2)]) (fun x=>AC 33 1 DB BQ x.2.1::H) (fun x=>x.1) (fun x D h=>?_) (n,p0,i_1) h) tL) (BR [0] 1 E E E)
 obtain⟨m1,l1,a1⟩:=x
 dsimp only at h
 rcases m1 with _ | m1
 cases (show(none:Option _)=some r from h)
 replace h:De p2 (Dq p2 m1) l1 a1=some r:=h
 unfold De at h
 try dsimp only
 refine AH (Y (J E (J E (Z E BA (V ?_)))))
 refine AN h E (fun hc1 h=>?_) fun hc1 h=>?_
 cases h
 refine Ay (A6 (Ba (A9 ?_)))
 obtain rfl:=zI h
 exact DE (Dg E) (Af (M:=[_]) ⟨E,E⟩ fun _ hw=>BW.pick (H:=[_]) hw [0] 1 E)
def EW(n:Nat)(nx_f_slices_pdqsortOrdered_uint32_l1:List UInt32×Int×Int×Int×Bool×Bool→Option (List UInt32))(l1:List UInt32)(a1:Int)(a2:Int)(a3:Int)(a4:Bool)(a5:Bool):Option (List UInt32):=
 ret (wI (a2-a1)) fun length_1=>
 cond (decide (length_1≤12))
 (
  (EI n l1 a1 a2).bind fun y1=>
  some y1)
 (
  cond (decide (a3=0))
  (
   none)
  (
   none))
def Em(n:Nat):Nat→(List UInt32×Int×Int×Int×Bool×Bool)→Option (List UInt32):=CO fun nx x=>EW n nx x.1 x.2.1 x.2.2.1 x.2.2.2.1 x.2.2.2.2.1 x.2.2.2.2.2
def FM(n:Nat)(p0:List UInt32)(p1:Int)(p2:Int)(p3:Int):Option (List UInt32):=
 Em n n (p0,p1,p2,p3,true,true)
theorem M7{n:Nat}{DB:Value}{p0 r:List UInt32}{p1 p2 p3:Int}(h:FM n p0 p1 p2 p3=some r): zC K w0 211 [DB,vI p1,vI p2,vI p3] [AC 33 1 DB BQ p0] H (fun u M=>u=.tuple #[]∧M=[AC 33 1 DB BQ r]):=by
 unfold FM at h
 refine Td.enter Tryz.func211 rfl rfl ?_
 refine Y (U E (V (Y (U E (V (AQ ?_))))))
 refine SX.heap (SX.mono (BG (α:=Nat×List UInt32×Int×Int×Int×Bool×Bool) (fun x=>Em n x.1 (x.2.1,x.2.2.1,x.2.2.2.1,x.2.2.2.2.1,x.2.2.2.2.2.1,x.2.2.2.2.2.2)=some r) (fun x=>[(0,DB),(1,vI x.2.2.1),(2,vI x.2.2.2.1),(3,vI x.2.2.2.2.1),(8,vB x.2.2.2.2.2.1),(9,vB x.2.2.2.2.2.2)]) (fun x=>AC 33 1 DB BQ x.2.1::H) (fun x=>x.1) (fun x D h=>?_) (n,p0,p1,p2,p3,true,true) h) tL) (BR [0] 1 E E E)
 obtain⟨m1,l1,a1,a2,a3,a4,a5⟩:=x
 dsimp only at h
 rcases m1 with _ | m1
 cases (show(none:Option _)=some r from h)
 replace h:EW n (Em n m1) l1 a1 a2 a3 a4 a5=some r:=h
 unfold EW at h
 try dsimp only
 refine AQ (Y ?_)
 obtain⟨length_1,elength_1,h⟩:=Bz h
 refine J E (J E (Z E Dm ?_))
 refine Ak (u:=vI length_1) E E (congrArg vI elength_1) ?_
 refine V (AH (Y (J E (Z E JA (V ?_)))))
 refine AN h E (fun hc1 h=>?_) fun hc1 h=>?_
 refine Y ?_
 refine AE h fun y1 hy1 h=>?_
 refine J E (J E (J E (AP 1 oK (Kh hy1) E (V (AL (Ac (BC (EE (BC ?_)))))))))
 obtain rfl:=zI h
 exact AX [0] 1 E E E
 refine AJ (AI (AH (Y (J E (Z E Bg (V ?_))))))
 refine AN h E (fun hc2 h=>?_) fun hc2 h=>?_
 cases h
 cases h
def GB(n:Nat)(p0:List UInt32):Option (List UInt32):=
 (NO (Cn (p0.length:Int))).bind fun y1=>
 (FM n p0 0 (p0.length:Int) y1).bind fun y2=>
 some y2
theorem N2{n:Nat}{DB:Value}{p0 r:List UInt32}(h:GB n p0=some r): zC K w0 168 [DB] [AC 33 1 DB BQ p0] H (fun u M=>u=.tuple #[]∧M=[AC 33 1 DB BQ r]):=by
 unfold GB at h
 refine Td.enter Tryz.func168 rfl rfl ?_
 refine Y (J E (DW 0 E CU E E (U E (V (AS ?_)))))
 refine AE h fun y1 hy1 h=>?_
 refine AE h fun y2 hy2 h=>?_
 refine J E (J E (J E (BF E E (Es I9 PJ) (AP 0 n7 (VH hy1) E (AP 1 n6 (M7 hy2) E (Aa ?_))))))
 obtain rfl:=zI h
 exact DE (Dg E) (Af (M:=[_]) ⟨E,E⟩ fun _ hw=>BW.pick (H:=[_]) hw [0] 1 E)
end

section
variable {K:Nat→Prop}{w0:World}{H:List AY}
def ea(p:Int×UInt32):List Value:=[vI p.1,AA p.2]
def Qr(ss:List UInt32):List (Int×UInt32):=ss.zipIdx.map fun q=>((q.2:Int),q.1)
theorem Ya(ss:List UInt32):(Qr ss).length=ss.length:=by simp[Qr]
theorem ed{ss:List UInt32}{i:Nat}{p:UInt32}(h:ss[i]? = some p):(Qr ss)[i]? = some ((i:Int),p):=by simp[Qr,h]
abbrev ge(b mp mb:Nat)(v:Value)(d:Ah)(T:List AY):List AY:=
 AK b (.cells #[vB d.off,vB d.isCut,vI d.lasts,vI d.counts,v,.map (some mp),.map (some mb),AV d.rcnt,vS d.rtag,AA d.rboots] 100)::AC 9 1 v eS d.blocks::Ab mp AA vS d.pend::Ab mb AA vB d.bad::T
theorem fF(b mp mb bx:Nat)(vb:Value)(d:Ah)(G1:List AY)(ss:List UInt32)(hss:∀ks,ks.Perm (d.pend.map (·.1))→∃n,GB n ks=some ss)(hlen:d.pend.length≤1073741824)(hlen2:ss.length≤1073741824):
  N0 Tryz.prog K w0 167 [vP bx 0] [AK bx (.cells #[vP b 0] 25)] (ge b mp mb vb d G1) ea (Qr ss):=by
 intro lp J9 X T rc hy h0
 refine Td.enter Tryz.func167 rfl rfl ?_
 show SX _ _ _ _ _ _ _ _ _ (AK bx (.cells #[vP b 0] 25)::rc::ge b mp mb vb d (G1++T))
 refine Y (B8 33 1 BQ (U E (V (AH (Y (AG 1 NC E (AT E E (AF E SJ (AG 3 dP E ?_)))))))))
 refine me 5 E da E E (fun it=>trivial) fun it=>?_
 refine V (AQ ?_)
 refine SX.mono (BG (α:=List (UInt32×List UInt8)×Value) (fun _=>True) (fun x=>[(0,vY lp),(3,x.2),(11,vP it 0)])
  (fun x=>AC 33 1 x.2 BQ (x.1.map (·.1))::AK bx (.cells #[vP b 0] 25)::rc::AK b (.cells #[vB d.off,vB d.isCut,vI d.lasts,vI d.counts,vb,.map (some mp),.map (some mb),AV d.rcnt,vS d.rtag,AA d.rboots] 100)::AC 9 1 vb eS d.blocks::NV mp it AA vS d.pend x.1::Ab mb AA vB d.bad::(G1++T))
  (fun x=>d.pend.length-x.1.length) (fun x D hp=>?_) ([],zN) trivial) tL
 obtain⟨done,v⟩:=x
 dsimp only
 refine Y ?_
 refine mc 5 (QY CP) E E E zT (fun hperm=>?_) (fun p hp hlt=>⟨zT,?_⟩)
 refine Ae E E E (V (AH (C0 E (Ay (A6 (Ba (A9 (AI (iO 5 E ?_)))))))))
 obtain⟨n,hn⟩:=hss (done.map (·.1)) (hperm.map _)
 refine Y (J E (AP 1 nb (N2 hn) E (V (Y (J E (DW 0 E CU E E (J E (V (AQ ?_)))))))))
 refine SX.mono (BG (α:=Nat×List AY) (fun x=>x.1≤ss.length∧J9 ((Qr ss).take x.1) x.2) (fun x=>[(0,vY lp),(22,v),(23,vI ss.length),(24,vI x.1)])
  (fun x=>AC 33 1 v BQ ss::AK bx (.cells #[vP b 0] 25)::(x.2++T)) (fun x=>ss.length-x.1) (fun x D hp=>?_) (0,rc::ge b mp mb vb d G1) ⟨Nat.zero_le _,h0⟩) tL
 obtain⟨i,G⟩:=x
 obtain⟨hi,hJ⟩:=hp
 dsimp only at hi hJ ⊢
 refine Y (Z E BA (V (AH ?_)))
 refine Ax E (fun hc2=>?_) (fun hc2=>?_)
 have hlt:i<ss.length:=by simpa using hc2
 have hg:ss[i]? = some ss[i]:=List.getElem?_eq_getElem hlt
 have hn2:BE ss (i:Int)=some ss[i]:=by simp[BE,hlt]
 have hge:=ed hg
 generalize ss[i]=p at hg hn2 hge
 refine AJ (AI (AH (AQ (Y (J E ?_)))))
 refine CI 0 hn2 E CU Bk E E E fun g m cp hv=>?_
 refine Bv E A7 E (CA (sz:=1) (enc:=BQ) 0 0 zV E hv hn2 E) ?_
 refine U E (U E (V (Y (J E (J E (J E ?_))))))
 refine HU (M2:=[_,_]) (G:=G) (T:=T) (vs:=[_,_]) (ok:=fun G1=>J9 ((Qr ss).take (i+1)) G1) (no:=X) E E ⟨E,E,zT⟩ E ?_ (fun bb G1 hG1=>⟨zT,?_⟩)
 intro M
 have:=hy _ _ _ (E1 hge).1 G hJ M
 rw[←(E1 hge).2]at this
 exact this
 refine CY E E (V ?_)
 refine Ax E (fun hc3=>?_) (fun hc3=>?_)
 obtain rfl:bb=false:=by simpa using hc3
 refine AL (BC (Ac (EE (BC ?_))))
 exact Ag (Dg E) (Af (M:=G1) (.inr hG1) fun _ h=>h.skip [_,_])
 obtain rfl:bb=true:=by simpa using hc3
 refine AJ (An (AI (AS (Z E (Be zO zO) (J E (Aa ?_))))))
 exact Av (i+1,G1) ⟨hlt,hG1⟩ (by dsimp only;omega) tL (fun _ h=>h)
 have hle:i=ss.length:=by simp at hc2;omega
 refine Ay (A6 (Ba (A9 ?_)))
 exact DE (Dg E) (Af (M:=G) (.inl (by rw[List.take_of_length_le (by rw[Ya];omega)]at hJ;exact hJ)) fun _ h=>h.skip [_,_])
 refine Ae E E E (V (AH (QD E (AJ (AI (AQ (Y (mZ 5 E E E (Ae E E E (U E (V (AS (J E (J E ?_))))))))))))))
 refine CD [_] E CU Bk H8 ⟨E,zT⟩ E E E zX E E zU fun b0=>?_
 refine CF BQ 1 ([p.1]:List UInt32) E zV E ?_
 have hl:DK 4 (done.map (·.1)) [p.1]=some ((done++[p]).map (·.1)):=by
  simp only[DK,List.length_map,List.length_cons,List.length_nil,List.map_append,List.map_cons,List.map_nil]
  rw[if_pos ⟨by omega,by omega⟩]
 refine Cr 1 hl (sz:=1) (enc:=BQ) zV E CU Bk QE H8 E zD E E E E (CH (sz:=1) (enc:=BQ) 0 zV E) (by simp[BQ,Value.oneCell']) zU fun v2=>?_
 refine U E (Aa (An ?_))
 exact Av (done++[p],v2) zT zQ tL (fun _ h=>h.skip [_])
theorem eM(b:Nat):zC K w0 133 [vP b 0] [] H (fun u M=>∃bx,u=.func (.func 167) #[] #[vP bx 0]∧M=[AK bx (.cells #[vP b 0] 25)]):=by
 refine Td.enter Tryz.func133 rfl rfl ?_
 refine Y ?_
 refine Bc E E zU fun b0=>?_
 refine U E (V (Y ?_))
 refine G8 (fv:=#[]) (cv:=#[_]) E E E ?_
 refine U E (V (AL ?_))
 exact Ag (Cl E E) (Af (M:=[_]) ⟨_,E,E⟩ fun _ h=>h.skip [])
end

section
variable {K:Nat→Prop}{w0:World}{H:List AY}
def Wk(d:Ah):Option (List (Int×UInt32)):=if d.pend.length≤1 then some (Qr (d.pend.map (·.1)))else none
theorem lP{b mp mb bx:Nat}{vb:Value}{d:Ah}{G1:List AY}{xs:List (Int×UInt32)}(h:Wk d=some xs):
  N0 Tryz.prog K w0 167 [vP bx 0] [AK bx (.cells #[vP b 0] 25)] (ge b mp mb vb d G1) ea xs:=by
 unfold Wk at h
 split at h
 rename_i hl
 obtain rfl:=zI h
 refine fF b mp mb bx vb d G1 (d.pend.map (·.1)) (fun ks hk=>⟨3,?_⟩) zO zQ
 have hm:(d.pend.map (·.1)).length≤1:=by simpa using hl
 rcases hm':d.pend.map (·.1)with _ | ⟨k,_ | ⟨k2,r⟩⟩
 rw[hm']at hk
 rw[List.perm_nil.1 hk,hm']
 rfl
 rw[hm']at hk
 rw[List.perm_singleton.1 hk,hm']
 rfl
 rw[hm']at hm
 simp at hm
 cases h
def Vi(_:Ah):Option Unit:=some ()
theorem fZ{b:Nat}{d:Ah}{r:Unit}(_:Vi d=some r):zC K w0 133 [vP b 0] [] H (fun u M=>∃bx:Nat,u=.func (.func 167) #[] #[vP bx 0]∧M=[AK bx (.cells #[vP b 0] 25)]):=eM b
end

section
variable {K:Nat→Prop}{w0:World}{H:List AY}
def Pb(p0:Ah):Option (UInt32×Int×Ah):=
 ret (decide (p0.rboots=4294967295)) fun x1=>
 cond x1
 (
  some (0,72,p0))
 (
  (DT p0).bind fun y1=>
  cond (!decide (y1.1=0))
  (
   some (0,y1.1,y1.2))
  (
   ret (y1.2.rboots+1) fun x2=>
   some (x2,0,{ y1.2 with rboots:=y1.2.rboots+1 })))
theorem cJ{Al A4 Bo:Nat}{Bp:Value}{p0:Ah}{r:UInt32×Int×Ah}(h:Pb p0=some r): zC K w0 63 [vP Al 0] [AK Al (.cells #[vB p0.off,vB p0.isCut,vI p0.lasts,vI p0.counts,Bp,.map (some A4),.map (some Bo),AV p0.rcnt,vS p0.rtag,AA p0.rboots] 100),AC 9 1 Bp eS p0.blocks,Ab A4 AA vS p0.pend,Ab Bo AA vB p0.bad] H (fun u M=>u=.tuple #[AA r.1,vI r.2.1]∧M=[AK Al (.cells #[vB r.2.2.off,vB r.2.2.isCut,vI r.2.2.lasts,vI r.2.2.counts,Bp,.map (some A4),.map (some Bo),AV r.2.2.rcnt,vS r.2.2.rtag,AA r.2.2.rboots] 100),AC 9 1 Bp eS r.2.2.blocks,Ab A4 AA vS r.2.2.pend,Ab Bo AA vB r.2.2.bad]):=by
 unfold Pb at h
 refine Td.enter Tryz.func63 rfl rfl ?_
 refine Y (U E (U E (V (AH (AQ (Y (J E (EL E U3 E E (U E (V (C0 E (Y ?_))))))))))))
 obtain⟨x1,ex1,h⟩:=Bz h
 refine J E (AT E E (AF E LU (AF E Pe (AG 0 A7 E ?_))))
 refine Z E (ND (b:=4294967295)) ?_
 refine Ak (u:=vB x1) E E (congrArg vB ex1) ?_
 refine V ?_
 refine AN h E (fun hc2 h=>?_) fun hc2 h=>?_
 refine Y (U E (U E (V (AL (BC (Ac ?_))))))
 obtain rfl:=zI h
 exact AX [0,1,2,3] 4 E E E
 refine AJ (An (AI (AH (Y ?_))))
 refine AE h fun y1 hy1 h=>?_
 refine J E (AT E E (AF E Uf (AP 4 aE ((G9 hy1 :)) E (U E (V (Y (J E (Z E BO (V ?_)))))))))
 refine AN h E (fun hc3 h=>?_) fun hc3 h=>?_
 refine Y (J E (U E (U E (V (AL (Ac ?_))))))
 obtain rfl:=zI h
 exact AX [0,1,2,3] 4 E E E
 refine AJ (AI (Y (J E (AT E E (AF E LU (AF E Pe (AG 0 A7 E ?_)))))))
 refine Z E (B1 (b:=1)) ?_
 refine AT E E (AF E LU (AF E Pe (A8 0 E E E E Bk E E E zT (V (Y ?_)))))
 obtain⟨x2,ex2,h⟩:=Bz h
 refine J E (AT E E (AF E LU (AF E Pe (AG 0 A7 E ?_))))
 refine Ak (u:=AA x2) E E (congrArg AA ex2) ?_
 refine U E (V (AL ?_))
 obtain rfl:=zI h
 exact AX [0,1,2,3] 4 E E E
def Kl(y1:Int×Ah)(o1:Ah):Option (Int×Ah):=
 some (y1.1,o1)
def LN(p0:Ah)(p1:List UInt8):Option (Int×Ah):=
 ret (!decide ((p1.length:Int)=32)) fun x1=>
 cond x1
 (
  some (2,p0))
 (
  ret (decide (p0.rcnt=18446744073709551615)) fun x2=>
  cond x2
  (
   some (72,p0))
  (
   (DT p0).bind fun y1=>
   cond (decide (y1.1=0))
   (
    Kl y1 ({ y1.2 with rcnt:=y1.2.rcnt+1,rtag:=p1 }))
   (
    Kl y1 y1.2)))
theorem Pm{Al A4 Bo:Nat}{Bp:Value}{p0:Ah}{p1:List UInt8}{r:Int×Ah}(h:LN p0 p1=some r): zC K w0 101 [vP Al 0,vS p1] [AK Al (.cells #[vB p0.off,vB p0.isCut,vI p0.lasts,vI p0.counts,Bp,.map (some A4),.map (some Bo),AV p0.rcnt,vS p0.rtag,AA p0.rboots] 100),AC 9 1 Bp eS p0.blocks,Ab A4 AA vS p0.pend,Ab Bo AA vB p0.bad] H (fun u M=>u=vI r.1∧M=[AK Al (.cells #[vB r.2.off,vB r.2.isCut,vI r.2.lasts,vI r.2.counts,Bp,.map (some A4),.map (some Bo),AV r.2.rcnt,vS r.2.rtag,AA r.2.rboots] 100),AC 9 1 Bp eS r.2.blocks,Ab A4 AA vS r.2.pend,Ab Bo AA vB r.2.bad]):=by
 unfold LN at h
 refine Td.enter Tryz.func101 rfl rfl ?_
 refine Y (U E (V (AH (AQ (Y (J E (EL E U3 E E (U E (V (C0 E (Y ?_)))))))))))
 obtain⟨x1,ex1,h⟩:=Bz h
 refine J E (By E Ch E (Z E BO ?_))
 refine Ak (u:=vB x1) E E (congrArg vB ex1) ?_
 refine V ?_
 refine AN h E (fun hc2 h=>?_) fun hc2 h=>?_
 refine Y (U E (V (AL (BC (Ac ?_)))))
 obtain rfl:=zI h
 exact AX [0,1,2,3] 4 E E E
 refine Y ?_
 obtain⟨x2,ex2,h⟩:=Bz h
 refine J E (AT E E (AF E LU (AF E Pd (AG 0 G7 E ?_))))
 refine Z E (MD (b:=18446744073709551615)) ?_
 refine Ak (u:=vB x2) E E (congrArg vB ex2) ?_
 refine V ?_
 refine AN h E (fun hc3 h=>?_) fun hc3 h=>?_
 refine Y (U E (V (AL (BC (Ac ?_)))))
 obtain rfl:=zI h
 exact AX [0,1,2,3] 4 E E E
 refine AJ (An (AI (Y ?_)))
 refine AE h fun y1 hy1 h=>?_
 refine J E (AT E E (AF E Uf (AP 4 aE ((G9 hy1 :)) E (U E (V ?_)))))
 refine BB (α:=Ah) (fun x=>Kl y1 x=some r) (fun x=>[(0,vP Al 0),(5,vI y1.1)]) (fun x=>AK Al (.cells #[vB x.off,vB x.isCut,vI x.lasts,vI x.counts,Bp,.map (some A4),.map (some Bo),AV x.rcnt,vS x.rtag,AA x.rboots] 100)::AC 9 1 Bp eS x.blocks::Ab A4 AA vS x.pend::Ab Bo AA vB x.bad::H) ?_ (fun o1 D h=>?_)
 refine Y (J E (Z E Bg (V ?_)))
 refine AN h E (fun hc4 h=>?_) fun hc4 h=>?_
 refine Y (J E (AT E E (AF E LU (AF E Pd (AG 0 G7 E ?_)))))
 refine Z E (Hw (b:=1)) ?_
 refine AT E E (AF E LU (AF E Pd (A8 0 E E E E hQ E E E zT (V (AS (J E (J E (AT E E (AF E LU ?_)))))))))
 refine AF E aP (A8 0 E E E E GD E E E zT (Aa ?_))
 exact Ap ({ y1.2 with rcnt:=y1.2.rcnt+1,rtag:=p1 }) h tL (BR [0,1,2,3] 4 rfl rfl rfl)
 refine AJ ?_
 exact Ap y1.2 h tL (BR [0,1,2,3] 4 E E E)
 unfold Kl at h
 try dsimp only
 refine Y (J E (U E (V (AL ?_))))
 obtain rfl:=zI h
 exact AX [0,1,2,3] 4 E E E
def E7(p0:Ah):Option bc:=
 some (⟨p0.rcnt,p0.rtag,p0.rboots⟩:bc)
theorem J0{Al A4 Bo:Nat}{Bp:Value}{p0:Ah}{r:bc}(h:E7 p0=some r): zC K w0 14 [vP Al 0] [AK Al (.cells #[vB p0.off,vB p0.isCut,vI p0.lasts,vI p0.counts,Bp,.map (some A4),.map (some Bo),AV p0.rcnt,vS p0.rtag,AA p0.rboots] 100),AC 9 1 Bp eS p0.blocks,Ab A4 AA vS p0.pend,Ab Bo AA vB p0.bad] H (fun u M=>u=.agg (gf r).toArray∧M=[AK Al (.cells #[vB p0.off,vB p0.isCut,vI p0.lasts,vI p0.counts,Bp,.map (some A4),.map (some Bo),AV p0.rcnt,vS p0.rtag,AA p0.rboots] 100),AC 9 1 Bp eS p0.blocks,Ab A4 AA vS p0.pend,Ab Bo AA vB p0.bad]):=by
 unfold E7 at h
 refine Td.enter Tryz.func14 rfl rfl ?_
 refine Y ?_
 refine Am E mQ zU fun b1=>?_
 refine V (AH (Y (J rfl (EL rfl U3 rfl rfl (V (C0 rfl (AJ (AI (Y (J rfl (AT rfl rfl (AF rfl LU (As [AV p0.rcnt,vS p0.rtag,AA p0.rboots] rfl j0 rfl rfl (Cp 1 rfl (by rintro(_ | (_ | (_ | j))) u hj<;>first | exact hj | exact absurd hj zS)) (A8 0 rfl rfl rfl rfl pY rfl rfl rfl trivial (V (AL ?_))))))))))))))))
 obtain rfl:=zI h
 exact Ag (Ie E (CC 0 (gf (⟨p0.rcnt,p0.rtag,p0.rboots⟩:bc)) j0 E E E E)) (Af (M:=[_,_,_,_]) ⟨E,E⟩ fun _ hw=>BW.pick (H:=[_,_,_,_,_]) hw [1,2,3,4] 5 E)
def Ow(l1:List (List UInt8)):Option (List (List UInt8)):=
 some l1
def IH(p0:Ah)(nx_f_dd_Image_l1:List (List UInt8)×Int→Option (List (List UInt8)))(l2:List (List UInt8))(a1:Int):Option (List (List UInt8)):=
 cond (decide (a1<(p0.blocks.length:Int)))
 (
  (MN p0 (Ep a1)).bind fun y1=>
  (DK 16 l2 [y1]).bind fun l3=>
  nx_f_dd_Image_l1 (l3,wI (a1+1)))
 (
  Ow l2)
def J5(p0:Ah):Nat→(List (List UInt8)×Int)→Option (List (List UInt8)):=CO fun nx x=>IH p0 nx x.1 x.2
def Ns(n:Nat)(p0:Ah):Option (List (List UInt8)):=
 J5 p0 n ([],0)
theorem Vt{n Al A4 Bo:Nat}{Bp:Value}{p0:Ah}{r:List (List UInt8)}(h:Ns n p0=some r): zC K w0 13 [vP Al 0] [AK Al (.cells #[vB p0.off,vB p0.isCut,vI p0.lasts,vI p0.counts,Bp,.map (some A4),.map (some Bo),AV p0.rcnt,vS p0.rtag,AA p0.rboots] 100),AC 9 1 Bp eS p0.blocks,Ab A4 AA vS p0.pend,Ab Bo AA vB p0.bad] H (fun u M=>∃v0:Value,u=v0∧M=[AC 9 1 v0 eS r,AK Al (.cells #[vB p0.off,vB p0.isCut,vI p0.lasts,vI p0.counts,Bp,.map (some A4),.map (some Bo),AV p0.rcnt,vS p0.rtag,AA p0.rboots] 100),AC 9 1 Bp eS p0.blocks,Ab A4 AA vS p0.pend,Ab Bo AA vB p0.bad]):=by
 unfold Ns at h
 refine Td.enter Tryz.func13 rfl rfl ?_
 refine Y (B8 9 1 eS (U E (V (AH (Y (J E (EL E U3 E E (V (C0 E (AJ (AI (Y (B8 9 1 eS (U E (V ?_)))))))))))))))
 refine BB (α:=List (List UInt8)×Value) (fun x=>Ow x.1=some r) (fun x=>[(0,vP Al 0),(3,x.2)]) (fun x=>AK Al (.cells #[vB p0.off,vB p0.isCut,vI p0.lasts,vI p0.counts,Bp,.map (some A4),.map (some Bo),AV p0.rcnt,vS p0.rtag,AA p0.rboots] 100)::AC 9 1 Bp eS p0.blocks::Ab A4 AA vS p0.pend::Ab Bo AA vB p0.bad::AC 9 1 x.2 eS x.1::H) ?_ (fun x D h=>?_)
 refine Y (J E (AT E E (AF E QL (AG 2 OJ E (DW 3 E Db E E (J E (V (AQ ?_))))))))
 refine SX.heap (SX.mono (BG (α:=Nat×List (List UInt8)×Value×Int) (fun x=>J5 p0 x.1 (x.2.1,x.2.2.2)=some r) (fun x=>[(0,vP Al 0),(3,x.2.2.1),(11,vI (p0.blocks.length:Int)),(12,vI x.2.2.2)]) (fun x=>AK Al (.cells #[vB p0.off,vB p0.isCut,vI p0.lasts,vI p0.counts,Bp,.map (some A4),.map (some Bo),AV p0.rcnt,vS p0.rtag,AA p0.rboots] 100)::AC 9 1 Bp eS p0.blocks::Ab A4 AA vS p0.pend::Ab Bo AA vB p0.bad::AC 9 1 x.2.2.1 eS x.2.1::H) (fun x=>x.1) (fun x D h=>?_) (n,[],zN,0) h) tL) (BR [2,3,4,5,0] 6 E E E)
 obtain⟨m1,l2,v2,a1⟩:=x
 dsimp only at h
 rcases m1 with _ | m1
 cases (show(none:Option _)=some r from h)
 replace h:IH p0 (J5 p0 m1) l2 a1=some r:=h
 unfold IH at h
 try dsimp only
 refine Y (Z E BA (V (AH ?_)))
 refine AN h E (fun hc2 h=>?_) fun hc2 h=>?_
 refine AJ (AI (AH (AQ (Y (J E (U E (V (AS ?_))))))))
 refine AE h fun y1 hy1 h=>?_
 refine AE h fun l3 hl3 h=>?_
 refine J E (J E (J E (BF E E (Og I9 CP) (AP 4 qF (cL hy1) E ?_))))
 refine CD [_] rfl Db GD RJ ⟨rfl,trivial⟩ rfl rfl rfl zW rfl rfl zU fun b1=>?_
 refine CF eS 1 ([y1]:List (List UInt8)) E zV E ?_
 refine Cr 5 hl3 (sz:=1) (enc:=eS) zV E Db GD kE RJ E zD E E E E (CH (sz:=1) (enc:=eS) 0 zV E) (by simp[eS,Value.oneCell']) zU fun v3=>?_
 refine U E (Aa (An (AI (AS (Z E Bf (J E (Aa ?_)))))))
 exact Av (m1,l3,v3,wI (a1+1)) h (Nat.lt_succ_self _) tL (BR [1,2,3,4,5] 6 E E E)
 refine Ay (A6 (Ba (A9 ?_)))
 exact Ap (l2,v2) h tL (BR [0,1,2,3,4] 5 E E E)
 obtain⟨l1,v1⟩:=x
 dsimp only at h
 unfold Ow at h
 try dsimp only
 refine Y (J E (U E (V (AL ?_))))
 obtain rfl:=zI h
 exact Bi [4,0,1,2,3] 5 (Cl E E) E E ⟨v1,E,E⟩
def Mc(y1:Int×Ah)(o1:Ah):Option (Int×Ah):=
 some (y1.1,o1)
def Ou(y1:Int×Ah)(o2:Ah):Option (Int×Ah):=
 Mc y1 ({ o2 with pend:=[] })
def Ov(y1:Int×Ah)(o3:Ah):Option (Int×Ah):=
 Ou y1 o3
def IG(y1:Int×Ah)(nx_f_dd_Flush_r1:Ah→Option (Int×Ah))(e1:Int×UInt32)(o3:Ah):Option (Int×Ah):=
 (BE o3.blocks (e1.2.toNat:Int)).bind fun x1=>
 (Nx o3.blocks (e1.2.toNat:Int) ((C8 o3.pend e1.2).getD [])).bind fun l1=>
 nx_f_dd_Flush_r1 ({ o3 with blocks:=l1 })
def J4(y1:Int×Ah):List (Int×UInt32)→Ah→Option (Int×Ah):=Uw (fun nx e x=>IG y1 nx e x) (fun x=>Ov y1 x)
def J3(p0:Ah):Option (Int×Ah):=
 (DT p0).bind fun y1=>
 cond (decide (y1.1=0))
 (
  (Vi y1.2).bind fun y2=>
  (Wk y1.2).bind fun xs1=>
  J4 y1 xs1 y1.2)
 (
  Mc y1 y1.2)
theorem PW{Al A4 Bo:Nat}{Bp:Value}{p0:Ah}{r:Int×Ah}(h:J3 p0=some r): zC K w0 96 [vP Al 0] [AK Al (.cells #[vB p0.off,vB p0.isCut,vI p0.lasts,vI p0.counts,Bp,.map (some A4),.map (some Bo),AV p0.rcnt,vS p0.rtag,AA p0.rboots] 100),AC 9 1 Bp eS p0.blocks,Ab A4 AA vS p0.pend,Ab Bo AA vB p0.bad] H (fun u M=>u=vI r.1∧M=[AK Al (.cells #[vB r.2.off,vB r.2.isCut,vI r.2.lasts,vI r.2.counts,Bp,.map (some A4),.map (some Bo),AV r.2.rcnt,vS r.2.rtag,AA r.2.rboots] 100),AC 9 1 Bp eS r.2.blocks,Ab A4 AA vS r.2.pend,Ab Bo AA vB r.2.bad]):=by
 unfold J3 at h
 refine Td.enter Tryz.func96 rfl rfl ?_
 refine Y ?_
 refine Bc E E zU fun b1=>?_
 refine U E (V (AH (Y (AG 0 NC E (EL E U3 E E (V (C0 E (AJ (AI (Y ?_))))))))))
 refine AE h fun y1 hy1 h=>?_
 refine AG 0 NC E (AT E E (AF E Uf (SL.pick [1,2,3,4,0] 5 (AP 4 aE ((G9 hy1 :)) E (U E (V ?_))))))
 refine BB (α:=Ah) (fun x=>Mc y1 x=some r) (fun x=>[(0,vP Al 0),(3,vI y1.1)]) (fun x=>AK Al (.cells #[vB x.off,vB x.isCut,vI x.lasts,vI x.counts,Bp,.map (some A4),.map (some Bo),AV x.rcnt,vS x.rtag,AA x.rboots] 100)::AC 9 1 Bp eS x.blocks::Ab A4 AA vS x.pend::Ab Bo AA vB x.bad::H) ?_ (fun o1 D h=>?_)
 refine Y (J E (Z E Bg (V ?_)))
 refine AN h E (fun hc2 h=>?_) fun hc2 h=>?_
 refine BB (α:=Ah) (fun x=>Ou y1 x=some r) (fun x=>[(0,vP Al 0),(1,vP b1 0),(3,vI y1.1)]) (fun x=>AK Al (.cells #[vB x.off,vB x.isCut,vI x.lasts,vI x.counts,Bp,.map (some A4),.map (some Bo),AV x.rcnt,vS x.rtag,AA x.rboots] 100)::AC 9 1 Bp eS x.blocks::Ab A4 AA vS x.pend::Ab Bo AA vB x.bad::AK b1 (.cells #[vP Al 0] 25)::H) ?_ (fun o2 D h=>?_)
 refine Y ?_
 refine AE h fun y2 hy2 h=>?_
 refine AG 4 NC E (BS 0 nI (fZ hy2) E ?_)
 rintro _ _ ⟨b2,rfl,rfl⟩
 refine V (AQ ?_)
 refine AE h fun xs1 hxs1 h=>?_
 refine SX.heap (MH (enc:=ea) xs1 (G0:=AK Al (.cells #[vB y1.2.off,vB y1.2.isCut,vI y1.2.lasts,vI y1.2.counts,Bp,.map (some A4),.map (some Bo),AV y1.2.rcnt,vS y1.2.rtag,AA y1.2.rboots] 100)::AC 9 1 Bp eS y1.2.blocks::Ab A4 AA vS y1.2.pend::Ab Bo AA vB y1.2.bad::AK b1 (.cells #[vP Al 0] 25)::H) (fun pre G=>∃x:Ah,(∀suf,xs1=pre++suf→J4 y1 suf x=some r)∧G=AK Al (.cells #[vB x.off,vB x.isCut,vI x.lasts,vI x.counts,Bp,.map (some A4),.map (some Bo),AV x.rcnt,vS x.rtag,AA x.rboots] 100)::AC 9 1 Bp eS x.blocks::Ab A4 AA vS x.pend::Ab Bo AA vB x.bad::AK b1 (.cells #[vP Al 0] 25)::H) (fun c G=>False) E na E zV (lP hxs1) E ⟨y1.2,fun suf e=>by rw[←show xs1=suf from e];exact h,E⟩ (fun pre e1 suf1 G hpre hJ lr lp Rest=>?_) (fun G D hJ=>?_) (fun c G D hX=>?_)) (BR [0,1,2,3,4,5] 6 E E E)
 obtain⟨o3,h,rfl⟩:=hJ
 replace h:IG y1 (J4 y1 suf1) e1 o3=some r:=h _ hpre
 unfold IG at h
 refine AS (U E (Aa ?_))
 refine Kb (G:=AK Al (.cells #[vB o3.off,vB o3.isCut,vI o3.lasts,vI o3.counts,Bp,.map (some A4),.map (some Bo),AV o3.rcnt,vS o3.rtag,AA o3.rboots] 100)::AC 9 1 Bp eS o3.blocks::Ab A4 AA vS o3.pend::Ab Bo AA vB o3.bad::AK b1 (.cells #[vP Al 0] 25)::H) ?_
 refine AQ ?_
 refine AE h fun x1 hx1 h=>?_
 refine AE h fun l1 hl1 h=>?_
 refine Aw DG [0,2,4] (CM [(true,0),(true,1),(true,2),(true,3),(true,4),(true,5),(true,6),(true,7),(true,8),(true,9),(true,10),(true,11)] (.last 12 .nil)) zK (AG 2 NC E (AT E E (AF E QL (AG 0 OJ E (J E (AG 2 NC E (AT E E ?_)))))))
 refine AF E SJ (AG 0 dP E (J E ?_))
 refine WW (zv:=[]) 1 (QY CP) E da RJ E E E ?_
 refine CI 1 hx1 E Db GD E E E fun g1 m1 cp1 hv1=>?_
 refine Bh ?_
 refine GE (sz:=1) (enc:=eS) 1 hl1 zV rfl rfl rfl rfl rfl hv1 GD (by first | (simp[Value.oneCell'];done) | simp[eS,Value.oneCell']) trivial ?_
 refine Aa (An ?_)
 exact IE ⟨({ o3 with blocks:=l1 }),fun suf e=>by rw[Wj hpre e];exact h,rfl⟩ (BR [0,1,2,3,4] 5 rfl rfl rfl)
 obtain⟨o3,h,rfl⟩:=hJ
 replace h:Ov y1 o3=some r:=h [] (List.append_nil _).symm
 unfold Ov at h
 refine An ?_
 exact Ap o3 h tL (BR [0,1,2,3,4] 5 E E E)
 exact hX.elim
 unfold Ou at h
 try dsimp only
 refine AS (AG 4 NC E (AT E E (AF E SJ (AG 0 dP E (mX 2 E E E da E E zT (Aa ?_))))))
 exact Ap ({ o2 with pend:=[] }) h tL (BR [0,1,2,3] 5 rfl rfl rfl)
 refine AJ ?_
 exact Ap y1.2 h tL (BR [0,1,2,3] 5 E E E)
 unfold Mc at h
 try dsimp only
 refine Y (J E (U E (V (AL ?_))))
 obtain rfl:=zI h
 exact AX [0,1,2,3] 4 E E E
def Nt(T:List UInt32)(p0:Az)(p0_1:Ah)(p1:UInt32)(p2:List UInt8):Option (List UInt8×Int×Az×Ah):=
 ret (decide (2≤p1)) fun x1=>
 cond x1
 (
  some ([],2,p0,p0_1))
 (
  ret (decide (198<(p2.length:Int))) fun x2=>
  cond x2
  (
   some ([],50,p0,p0_1))
  (
   (KJ T p0 p0_1 p1 p2).bind fun y1=>
   some (y1.1,y1.2.1,y1.2.2.1,y1.2.2.2)))
theorem R8{T:List UInt32}{Al A4 BH B3 B4:Nat}{Ad B5:Value}{p0:Az}{p0_1:Ah}{p1:UInt32}{p2:List UInt8}{r:List UInt8×Int×Az×Ah}(h:Nt T p0 p0_1 p1 p2=some r)(hS:GF K w0 T):zC K w0 99 [vP Al 0,AA p1,vS p2] [AK Al (.cells #[vP BH 0,Ad,AA p0.gen,AA p0.boot,AV p0.seals,.map (some A4)] 181),AC 114 2 Ad AZ p0.ring,Ab A4 AA vB p0.taken,AK BH (.cells #[vB p0_1.off,vB p0_1.isCut,vI p0_1.lasts,vI p0_1.counts,B5,.map (some B3),.map (some B4),AV p0_1.rcnt,vS p0_1.rtag,AA p0_1.rboots] 100),AC 9 1 B5 eS p0_1.blocks,Ab B3 AA vS p0_1.pend,Ab B4 AA vB p0_1.bad] H (fun u M=>u=.tuple #[vS r.1,vI r.2.1]∧M=[AK Al (.cells #[vP BH 0,Ad,AA r.2.2.1.gen,AA r.2.2.1.boot,AV r.2.2.1.seals,.map (some A4)] 181),AC 114 2 Ad AZ r.2.2.1.ring,Ab A4 AA vB r.2.2.1.taken,AK BH (.cells #[vB r.2.2.2.off,vB r.2.2.2.isCut,vI r.2.2.2.lasts,vI r.2.2.2.counts,B5,.map (some B3),.map (some B4),AV r.2.2.2.rcnt,vS r.2.2.2.rtag,AA r.2.2.2.rboots] 100),AC 9 1 B5 eS r.2.2.2.blocks,Ab B3 AA vS r.2.2.2.pend,Ab B4 AA vB r.2.2.2.bad]):=by
 unfold Nt at h
 refine Td.enter Tryz.func99 rfl rfl ?_
 refine Y (U E (U E (V (AH (AQ (Y (J E (EL E iA E E (U E (V (C0 E (Y ?_))))))))))))
 obtain⟨x1,ex1,h⟩:=Bz h
 refine J E ?_
 refine Z E (HN (b:=2)) ?_
 refine Ak (u:=vB x1) E E (congrArg vB ex1) ?_
 refine V ?_
 refine AN h E (fun hc2 h=>?_) fun hc2 h=>?_
 refine Y (U E (U E (V (AL (BC (Ac ?_))))))
 obtain rfl:=zI h
 exact AX [0,1,2,3,4,5,6] 7 E E E
 refine Y ?_
 obtain⟨x2,ex2,h⟩:=Bz h
 refine J E (By E Ch E (Z E Cq ?_))
 refine Ak (u:=vB x2) E E (congrArg vB ex2) ?_
 refine V ?_
 refine AN h E (fun hc3 h=>?_) fun hc3 h=>?_
 refine Y (U E (U E (V (AL (BC (Ac ?_))))))
 obtain rfl:=zI h
 exact AX [0,1,2,3,4,5,6] 7 E E E
 refine AJ (An (AI (Y ?_)))
 refine AE h fun y1 hy1 h=>?_
 refine J E (J E (J E (AP 7 gD (XP hy1 hS) E (Ae E E E (Ae E E E (U E (U E (V (AL ?_)))))))))
 obtain rfl:=zI h
 exact AX [0,1,2,3,4,5,6] 7 E E E
end

section
structure Ed where
 cnt:UInt64
 gen:UInt32
 rows:UInt32
 page:UInt32
 tag:List UInt8
deriving DecidableEq
def Ha(r:Ed):List Value:=[AV r.cnt,AA r.gen,AA r.rows,AA r.page,vS r.tag]
structure tN where
 kind:Int
 x0:UInt32
 y0:UInt32
 x1:UInt32
 y1:UInt32
 x:UInt32
 y:UInt32
 sq:UInt64
 k:Int
 after:UInt64
 isFrom:Bool
structure Bx where
 rows:List Ao
 pages:List BL
 gens:List (UInt32×UInt32)
 ring:List BP
 gen:UInt32
 bad:Bool
structure C6 where
 ops:List H9
 isOpen:Bool
 closed:Bool
structure Ff where
 had:List BL
 out:List BL
 took:List UInt32
 err:Int
 must:List BL
structure ZQ where
 ops:List H9
 isOpen:Bool
 closed:Bool
structure Dy where
 rows:List Ao
 had:List BL
 gens:List UInt32
 bad:Bool
theorem QZ{P:Program}{k:TypeId}(hk:P.underlying k=some (.int .u32)):M9 P k AA AA:=
 ⟨Maps.int_keyed hk,U4 hk,⟨fun v=>match v with | .int _ a=>some (UInt32.ofNat a.toNat) | _=>none,fun x=>by simp⟩,⟨fun v=>match v with | .int _ a=>some (UInt32.ofNat a.toNat) | _=>none,fun x=>by simp⟩⟩
def Tn(s:BL):Value:=.agg (AU s).toArray
theorem UD{P:Program}{k:TypeId}(hk:P.underlying k=some (.int .u32)):M9 P k AA Tn:=
 ⟨Maps.int_keyed hk,U4 hk,⟨fun v=>match v with | .int _ a=>some (UInt32.ofNat a.toNat) | _=>none,fun x=>by simp⟩,
  ⟨fun v=>match v with | .agg a=>(match a.toList with | [.string t,.int _ p,.string b]=>some ⟨t.data.toList,UInt32.ofNat p.toNat,b.data.toList⟩ | _=>none) | _=>none,fun x=>by
  cases x
  simp[Tn,AU,AA,vS]⟩⟩
section
variable {P:Program}{ro:Option Nat}{K:Nat→Prop}{w0:World}{N:Nat}{Q:DJ}{D:List Nat}{l l':Tm}{H H' Hs:List AY}{ops:Array Oper}{items:Hx}
variable {tk:Bool}{o:Oper}{t:Nat}{v:Value}{x y z y1:Operand}
theorem jq{α:Type}{enc:α→List Value}{sz:Nat}{xs us:List α}{k k':IntKind}{j:Int}{ty e:TypeId}(hn:Im xs 0 j=some us)(hk:B9 K w0 enc sz v xs)(ho:At ops N l o t (.slice ty x none (some z) (some y1)))(hty:P.underlying ty=some (.slice e))(hsz:DH P e=some sz)(hx:Bj l x=some v)(hz:Bj l z=some (.int k j))(hu:Bj l y1=some (.int k' j))
(h:∀v',B9 K w0 enc sz v' us→SL P ro K w0 N ops Hs items Q D ((t,v')::l) H):SL P ro K w0 N ops Hs (.cons (tk,o) items) Q D l H:=by
 obtain⟨h1,h2,h3,h4,rfl⟩:=Na hn
 have e2:(xs.drop (0:Int).toNat).take (j.toNat-(0:Int).toNat)=xs.take j.toNat:=by simp
 rw[e2]at h
 have hj:j=(j.toNat:Int):=zO
 generalize j.toNat=n at*
 subst hj
 have hn:n≤xs.length:=zO
 rcases hk.at_ with⟨a0,rfl,rfl⟩ | ⟨b,off,cap,rfl,hcap,hc⟩
 have hn0:n=0:=by simpa using hn
 subst hn0
 refine SL.val (v:=.slice a0 0 0) ho E (fun a w ha _=>?_) (h _ ⟨hk.len,.inl ⟨_,E,by simp⟩⟩)
 simp only[execOp,ho.op,Instr.sliceAt,Instr.slice,Option.map]
 cases a0<;>simp[ha.eval hx,ha.eval hz,ha.eval hu,Aq hty,Ce hsz,Instr.sliceBounds,Instr.sliceBound,asIntOf]
 have hle:n≤cap:=Nat.le_trans hn hcap
 refine SL.val (v:=.slice (some ⟨b,off,none⟩) n n) ho E (fun a w ha _=>?_) (h _ ⟨hk.len,.inr ⟨b,off,n,by simp[List.length_take,Nat.min_eq_left hn],by rw[List.length_take];exact Nat.min_le_left ..,?_⟩⟩)
 simp only[execOp,ho.op,Instr.sliceAt,Instr.slice,Option.map]
 simp[ha.eval hx,ha.eval hz,ha.eval hu,Aq hty,Ce hsz,Instr.sliceBounds,Instr.sliceBound,asIntOf,hle,Cf]
 intro j u hu
 refine hc j u ?_
 have hpre:(xs.take n).flatMap enc++(xs.drop n).flatMap enc=xs.flatMap enc:=by
  rw[←List.flatMap_append,List.take_append_drop]
 rw[←hpre,List.getElem?_append_left (List.getElem?_eq_some_iff.1 hu).1]
 exact hu
section
variable {κ α:Type}{ek:κ→Value}{ev:α→Value}{m:List (κ×α)}{b:Nat}{k:TypeId}
def DA(v:Value)(ek:κ→Value)(ev:α→Value)(m:List (κ×α)):AY:=
 ⟨fun b=>v=.map (some b),fun w=>(v=.map none∧m=[])∨∃b,v=.map (some b)∧(Ab b ek ev m).holds w,fun w w' h hw=>by
  rcases hw with hn | ⟨b,rfl,hb⟩
  exact .inl hn
  exact .inr ⟨b,rfl,(Ab b ek ev m).loc w w' (fun j hj=>h j (by rw[show j=b from hj])) hb⟩⟩
theorem BW.nilM{w:World}(ek:κ→Value)(ev:α→Value)(h:BW K w0 H w):BW K w0 (DA (.map none) ek ev []::H) w:=
 ⟨h.os,h.tape,h.output,h.size,h.klt,h.keep,fun c hc=>by
   rcases List.mem_cons.1 hc with rfl | hc
   exact .inl ⟨rfl,rfl⟩
   exact h.holds c hc,
  fun c hc b hb=>by
   rcases List.mem_cons.1 hc with rfl | hc
   cases hb
   exact h.foot c hc b hb,
  List.pairwise_cons.2 ⟨fun c _ b hb=>(by cases hb),h.disj⟩⟩
theorem jl(ek:κ→Value)(ev:α→Value)(h:SL P ro K w0 N ops Hs items Q D l (DA (.map none) ek ev []::H)):SL P ro K w0 N ops Hs items Q D l H:=
 fun a w ha hw hs=>h a w ha (hw.nilM ek ev) hs
theorem ml(i:Nat)(hi:H[i]? = some (Ab b ek ev m))(h:SL P ro K w0 N ops Hs items Q D l (H.set i (DA (.map (some b)) ek ev m)))(hs:EN Hs (H.set i (DA (.map (some b)) ek ev m))):SL P ro K w0 N ops Hs items Q D l H:=by
 intro a w ha hw hs0
 refine h a w ha (BW.turnAt i hw hi rfl rfl rfl (Nat.le_refl _) (fun _ _ _=>rfl) (.inr ⟨b,rfl,hw.holds _ (List.mem_append_left _ (List.mem_of_getElem? hi))⟩) fun b' hb=>?_) hs0
 obtain rfl:b=b':=by simpa[DA]using hb
 exact⟨.inl rfl,(hw.foot _ (List.mem_append_left _ (List.mem_of_getElem? hi)) b rfl).1⟩
variable [DecidableEq κ]
omit [DecidableEq κ] in
theorem eo{w:World}(E9:M9 P k ek ev){ty e:TypeId}(ht:P.underlying ty=some (.map k e)){zv:α}(hz:EC P e=some (ev zv))(key:κ)(c:Bool):
  (Instr.lookup ty (.map none) (ek key) c).run P w=.ok (if c then .tuple #[ev zv,.bool false]else ev zv) w:=by
 obtain⟨lx,hl⟩:=E9.lit key
 rcases E9.keyed.find w hl [] zS with⟨h1,h2⟩ | ⟨j,e0,h1,h2,h3⟩
 simp[Instr.lookup,Aq ht,E9.keyed.check w _ hl,h1,NX hz,Result.andThen]
 simp at h2
theorem jh{ty e:TypeId}{key:κ}{zv:α}(i:Nat)(E9:M9 P k ek ev)(ho:At ops N l o t (.lookup ty x y false))(ht:P.underlying ty=some (.map k e))(hz:EC P e=some (ev zv))(hx:Bj l x=some v)(hy:Bj l y=some (ek key))
(hi:(bif tk then Hs else H)[i]? = some (DA v ek ev m))(h:SL P ro K w0 N ops Hs items Q D ((t,ev ((C8 m key).getD zv))::l) H):SL P ro K w0 N ops Hs (.cons (tk,o) items) Q D l H:=
 SL.val ho rfl (fun a w ha hsw=>by
  rcases(hsw.holds _ (List.mem_of_getElem? hi):(DA v ek ev m).holds w)with⟨rfl,rfl⟩ | ⟨b,rfl,es,clock,hb,hr⟩
  have:=eo (w:=w) E9 ht hz key false
  simp[execOp,ho.op,ha.eval hx,ha.eval hy,this,C8]
  have:=hr.look E9 hb ht hz key false
  simp[execOp,ho.op,ha.eval hx,ha.eval hy,this]) h
end
def cd(P:Program)(ty:TypeId)(f:Nat):Option Nat:=
 match P.underlying ty with
 | some (.struct fs)=>match fs[f]? with
  | some fd=>if JQ P fd.type then some fd.offset else none
  | none=>none
 | _=>none
theorem ZR{cs:Array Value}{d f:Nat}{ty:TypeId}(ho:At ops N l o t (.field ty x f))(hf:cd P ty f=some d)(hx:Bj l x=some (.agg cs))(hc:cs[d]? = some v)(h:SL P ro K w0 N ops Hs items Q D ((t,v)::l) H):SL P ro K w0 N ops Hs (.cons (tk,o) items) Q D l H:=
 SL.val ho rfl (fun a w ha _=>by
  unfold cd at hf
  cases hu:P.underlying ty with
  | none=>simp[hu]at hf
  | some ds=>
   cases ds<;>simp only[hu]at hf<;>try cases hf
   rename_i fs
   cases hfs:fs[f]? with
   | none=>simp[hfs]at hf
   | some fd=>
    simp only[hfs]at hf
    split at hf
    rename_i hs
    obtain rfl:=zI hf
    simp[execOp,ho.op,Instr.field,Aq hu,ha.eval hx,hfs,part,(Vc hs w).1,hc,asAgg]
    cases hf) h
end
end

section
variable {K:Nat→Prop}{w0:World}{H:List AY}
def HD(p0:A5):Option (UInt32×Int×A5):=
 cond (decide (p0.rboots=4294967295))
 (
  some (0,72,p0))
 (
  (Dd p0).bind fun y1=>
  cond (!decide (y1.1=0))
  (
   some (0,y1.1,y1.2))
  (
   ret (y1.2.rboots+1) fun x1=>
   some (x1,0,{ y1.2 with rboots:=y1.2.rboots+1 })))
theorem RY{Al:Nat}{Au Ad A0:Value}{p0:A5}{r:UInt32×Int×A5}(h:HD p0=some r): zC K w0 48 [vP Al 0] [AK Al (.cells #[Au,Ad,A0,AV p0.rcnt,vS p0.rtag,AA p0.rboots,vI p0.left,vB p0.off] 107),AC 9 1 Au eS p0.blk,AC 9 1 Ad eS p0.pnd,AC 4 1 A0 eB p0.bads] H (fun u M=>u=.tuple #[AA r.1,vI r.2.1]∧M=[AK Al (.cells #[Au,Ad,A0,AV r.2.2.rcnt,vS r.2.2.rtag,AA r.2.2.rboots,vI r.2.2.left,vB r.2.2.off] 107),AC 9 1 Au eS r.2.2.blk,AC 9 1 Ad eS r.2.2.pnd,AC 4 1 A0 eB r.2.2.bads]):=by
 unfold HD at h
 refine Td.enter Tryz.func48 rfl rfl ?_
 refine Y (U E (U E (V (AH (Y (J E (AT E E (AF E LV (AF E Pe (AG 0 A7 E ?_))))))))))
 refine Z E (ND (b:=4294967295)) ?_
 refine V ?_
 refine AN h E (fun hc1 h=>?_) fun hc1 h=>?_
 refine Y (U E (U E (V (AL (Ac ?_)))))
 obtain rfl:=zI h
 exact AX [0,1,2,3] 4 E E E
 refine AJ (AI (Y ?_))
 refine AE h fun y1 hy1 h=>?_
 refine J E (AP 4 aD (Ip hy1) E (U E (V (AH (Y (J E (Z E BO (V ?_))))))))
 refine AN h E (fun hc2 h=>?_) fun hc2 h=>?_
 refine Y (J E (U E (U E (V (AL (Ac ?_))))))
 obtain rfl:=zI h
 exact AX [0,1,2,3] 4 E E E
 refine AJ (AI (Y (J E (AT E E (AF E LV (AF E Pe (AG 0 A7 E ?_)))))))
 refine Z E (B1 (b:=1)) ?_
 refine AT E E (AF E LV (AF E Pe (A8 0 E E E E Bk E E E zT (V (Y ?_)))))
 obtain⟨x1,ex1,h⟩:=Bz h
 refine J E (AT E E (AF E LV (AF E Pe (AG 0 A7 E ?_))))
 refine Ak (u:=AA x1) E E (congrArg AA ex1) ?_
 refine U E (V (AL ?_))
 obtain rfl:=zI h
 exact AX [0,1,2,3] 4 E E E
def FA(y1:Int×A5)(o1:A5):Option (Int×A5):=
 some (y1.1,o1)
def Ew(p0:A5)(p1:List UInt8):Option (Int×A5):=
 cond (!decide ((p1.length:Int)=32))
 (
  some (2,p0))
 (
  cond (decide (p0.rcnt=18446744073709551615))
  (
   some (72,p0))
  (
   (Dd p0).bind fun y1=>
   cond (decide (y1.1=0))
   (
    FA y1 ({ y1.2 with rcnt:=y1.2.rcnt+1,rtag:=p1 }))
   (
    FA y1 y1.2)))
theorem MJ{Al:Nat}{Au Ad A0:Value}{p0:A5}{p1:List UInt8}{r:Int×A5}(h:Ew p0 p1=some r): zC K w0 109 [vP Al 0,vS p1] [AK Al (.cells #[Au,Ad,A0,AV p0.rcnt,vS p0.rtag,AA p0.rboots,vI p0.left,vB p0.off] 107),AC 9 1 Au eS p0.blk,AC 9 1 Ad eS p0.pnd,AC 4 1 A0 eB p0.bads] H (fun u M=>u=vI r.1∧M=[AK Al (.cells #[Au,Ad,A0,AV r.2.rcnt,vS r.2.rtag,AA r.2.rboots,vI r.2.left,vB r.2.off] 107),AC 9 1 Au eS r.2.blk,AC 9 1 Ad eS r.2.pnd,AC 4 1 A0 eB r.2.bads]):=by
 unfold Ew at h
 refine Td.enter Tryz.func109 rfl rfl ?_
 refine Y (U E (V (AH (Y (J E (By E Ch E (Z E BO (V ?_))))))))
 refine AN h E (fun hc1 h=>?_) fun hc1 h=>?_
 refine Y (U E (V (AL (Ac ?_))))
 obtain rfl:=zI h
 exact AX [0,1,2,3] 4 E E E
 refine AJ (AI (AH (Y (J E (AT E E (AF E LV (AF E Pd (AG 0 G7 E ?_))))))))
 refine Z E (MD (b:=18446744073709551615)) ?_
 refine V ?_
 refine AN h E (fun hc2 h=>?_) fun hc2 h=>?_
 refine Y (U E (V (AL (Ac ?_))))
 obtain rfl:=zI h
 exact AX [0,1,2,3] 4 E E E
 refine AJ (AI (Y ?_))
 refine AE h fun y1 hy1 h=>?_
 refine J E (AP 4 aD (Ip hy1) E (U E (V ?_)))
 refine BB (α:=A5) (fun x=>FA y1 x=some r) (fun x=>[(0,vP Al 0),(5,vI y1.1)]) (fun x=>AK Al (.cells #[Au,Ad,A0,AV x.rcnt,vS x.rtag,AA x.rboots,vI x.left,vB x.off] 107)::AC 9 1 Au eS x.blk::AC 9 1 Ad eS x.pnd::AC 4 1 A0 eB x.bads::H) ?_ (fun o1 D h=>?_)
 refine Y (J E (Z E Bg (V ?_)))
 refine AN h E (fun hc3 h=>?_) fun hc3 h=>?_
 refine Y (J E (AT E E (AF E LV (AF E Pd (AG 0 G7 E ?_)))))
 refine Z E (Hw (b:=1)) ?_
 refine AT E E (AF E LV (AF E Pd (A8 0 E E E E hQ E E E zT (V (AS (J E (J E (AT E E (AF E LV ?_)))))))))
 refine AF E aP (A8 0 E E E E GD E E E zT (Aa ?_))
 exact Ap ({ y1.2 with rcnt:=y1.2.rcnt+1,rtag:=p1 }) h tL (BR [0,1,2,3] 4 rfl rfl rfl)
 refine AJ ?_
 exact Ap y1.2 h tL (BR [0,1,2,3] 4 E E E)
 unfold FA at h
 try dsimp only
 refine Y (J E (U E (V (AL ?_))))
 obtain rfl:=zI h
 exact AX [0,1,2,3] 4 E E E
def H2(y1:Int×A5)(o1:A5):Option (Int×A5):=
 some (y1.1,o1)
def Dn(a1:Int)(nx_f_ref07_Device_Flush_l1:A5×Int→Option (Int×A5))(o3:A5):Option (Int×A5):=
 ret (wI (a1+1)) fun i_1=>
 nx_f_ref07_Device_Flush_l1 (o3,i_1)
def D6(y1:Int×A5)(nx_f_ref07_Device_Flush_l1:A5×Int→Option (Int×A5))(o2:A5)(a1:Int):Option (Int×A5):=
 cond ((decide (a1<(o2.blk.length:Int)))&&(decide (y1.1=0)))
 (
  (BE o2.pnd a1).bind fun x1=>
  cond (!decide (x1=[]))
  (
   (BE o2.pnd a1).bind fun x2=>
   (BE o2.blk a1).bind fun x3=>
   (Nx o2.blk a1 x2).bind fun l1=>
   (BE o2.pnd a1).bind fun x4=>
   (Nx o2.pnd a1 []).bind fun l2=>
   Dn a1 nx_f_ref07_Device_Flush_l1 ({ o2 with blk:=l1,pnd:=l2 }))
  (
   Dn a1 nx_f_ref07_Device_Flush_l1 o2))
 (
  H2 y1 o2)
def Do(y1:Int×A5):Nat→(A5×Int)→Option (Int×A5):=CO fun nx x=>D6 y1 nx x.1 x.2
def EZ(n:Nat)(p0:A5):Option (Int×A5):=
 (Dd p0).bind fun y1=>
 Do y1 n (y1.2,0)
theorem Jf{n Al:Nat}{Au Ad A0:Value}{p0:A5}{r:Int×A5}(h:EZ n p0=some r): zC K w0 105 [vP Al 0] [AK Al (.cells #[Au,Ad,A0,AV p0.rcnt,vS p0.rtag,AA p0.rboots,vI p0.left,vB p0.off] 107),AC 9 1 Au eS p0.blk,AC 9 1 Ad eS p0.pnd,AC 4 1 A0 eB p0.bads] H (fun u M=>u=vI r.1∧M=[AK Al (.cells #[Au,Ad,A0,AV r.2.rcnt,vS r.2.rtag,AA r.2.rboots,vI r.2.left,vB r.2.off] 107),AC 9 1 Au eS r.2.blk,AC 9 1 Ad eS r.2.pnd,AC 4 1 A0 eB r.2.bads]):=by
 unfold EZ at h
 refine Td.enter Tryz.func105 rfl rfl ?_
 refine Y (U E (V (Y ?_)))
 refine AE h fun y1 hy1 h=>?_
 refine J E (AP 4 aD (Ip hy1) E (U E (V ?_)))
 refine BB (α:=A5) (fun x=>H2 y1 x=some r) (fun x=>[(0,vP Al 0),(3,vI y1.1)]) (fun x=>AK Al (.cells #[Au,Ad,A0,AV x.rcnt,vS x.rtag,AA x.rboots,vI x.left,vB x.off] 107)::AC 9 1 Au eS x.blk::AC 9 1 Ad eS x.pnd::AC 4 1 A0 eB x.bads::H) ?_ (fun o1 D h=>?_)
 refine Y (U E (V (AQ ?_)))
 refine SX.heap (SX.mono (BG (α:=Nat×A5×Int) (fun x=>Do y1 x.1 (x.2.1,x.2.2)=some r) (fun x=>[(0,vP Al 0),(3,vI y1.1),(4,vI x.2.2)]) (fun x=>AK Al (.cells #[Au,Ad,A0,AV x.2.1.rcnt,vS x.2.1.rtag,AA x.2.1.rboots,vI x.2.1.left,vB x.2.1.off] 107)::AC 9 1 Au eS x.2.1.blk::AC 9 1 Ad eS x.2.1.pnd::AC 4 1 A0 eB x.2.1.bads::H) (fun x=>x.1) (fun x D h=>?_) (n,y1.2,0) h) tL) (BR [0,1,2,3] 4 E E E)
 obtain⟨m1,o2,a1⟩:=x
 dsimp only at h
 rcases m1 with _ | m1
 cases (show(none:Option _)=some r from h)
 replace h:D6 y1 (Do y1 m1) o2 a1=some r:=h
 unfold D6 at h
 try dsimp only
 refine AH (Y (J E (J E (AT E E (AF E QM (AG 0 OJ E (DW 1 E Db E E (Z E BA (J E ?_)))))))))
 refine Cj (c:=decide (y1.1=0)) 14 3 17 E (fun hb k=>?_) (fun hb k=>?_) ?_
 refine J E (Z E Bg (Ai E E E ?_))
 exact k.mono tL
 refine AD E (AD E (Ai E E E ?_))
 exact k.mono tL
 refine V ?_
 refine AN h E (fun hc1 h=>?_) fun hc1 h=>?_
 refine AJ (AI ?_)
 refine BB (α:=A5) (fun x=>Dn a1 (Do y1 m1) x=some r) (fun x=>[(0,vP Al 0),(3,vI y1.1),(4,vI a1)]) (fun x=>AK Al (.cells #[Au,Ad,A0,AV x.rcnt,vS x.rtag,AA x.rboots,vI x.left,vB x.off] 107)::AC 9 1 Au eS x.blk::AC 9 1 Ad eS x.pnd::AC 4 1 A0 eB x.bads::H) ?_ (fun o3 D h=>?_)
 refine AQ (Y ?_)
 refine AE h fun x1 hx1 h=>?_
 refine J E (AT E E (AF E QN (AG 0 OJ E (J E ?_))))
 refine CI 2 hx1 E Db GD E E E fun g1 m2 cp1 hv1=>?_
 refine Bv E Fx E (CA (sz:=1) (enc:=eS) 2 0 zV E hv1 hx1 E) ?_
 refine Z E Rg (V ?_)
 refine AN h E (fun hc2 h=>?_) fun hc2 h=>?_
 refine AH ?_
 refine AE h fun x2 hx2 h=>?_
 refine AE h fun x3 hx3 h=>?_
 refine AE h fun l1 hl1 h=>?_
 refine Aw DG [0,2] (CM [(true,0),(true,1),(true,2),(true,3),(true,4),(true,5),(true,6),(true,7),(true,8),(true,9),(true,10),(true,11),(true,12)] (.last 13 .nil)) zK (J E (AT E E (AF E QM (AG 0 OJ E (J E (J E (AT E E ?_)))))))
 refine AF E QN (AG 0 OJ E (J E ?_))
 refine CI 2 hx2 E Db GD E E E fun g2 m3 cp2 hv2=>?_
 refine Bv E Fx E (CA (sz:=1) (enc:=eS) 1 0 zV E hv2 hx2 E) ?_
 refine CI 1 hx3 E Db GD E E E fun g3 m4 cp3 hv3=>?_
 refine Bh ?_
 refine GE (sz:=1) (enc:=eS) 1 hl1 zV rfl rfl rfl rfl rfl hv3 GD (by first | (simp[Value.oneCell'];done) | simp[eS,Value.oneCell']) trivial ?_
 refine V (AS ?_)
 refine AE h fun x4 hx4 h=>?_
 refine AE h fun l2 hl2 h=>?_
 refine J E (AT E E (AF E QN (AG 0 OJ E (J E ?_))))
 refine CI 2 hx4 E Db GD E E E fun g4 m5 cp4 hv4=>?_
 refine GE (sz:=1) (enc:=eS) 2 hl2 zV rfl rfl rfl rfl rfl hv4 GD (by first | (simp[Value.oneCell'];done) | simp[eS,Value.oneCell']) trivial ?_
 refine Aa (An ?_)
 exact Ap ({ o2 with blk:=l1,pnd:=l2 }) h tL (BR [0,1,2,3] 4 rfl rfl rfl)
 refine AJ (An ?_)
 exact Ap o2 h tL (BR [0,1,2,3] 4 E E E)
 unfold Dn at h
 try dsimp only
 refine AS ?_
 obtain⟨i_1,ei_1,h⟩:=Bz h
 refine J E (Z E Bf ?_)
 refine Ak (u:=vI i_1) E E (congrArg vI ei_1) ?_
 refine Aa ?_
 exact Av (m1,o3,i_1) h (Nat.lt_succ_self _) tL (BR [0,1,2,3] 4 E E E)
 refine Ay (A6 (Ba (A9 ?_)))
 exact Ap o2 h tL (BR [0,1,2,3] 4 E E E)
 unfold H2 at h
 try dsimp only
 refine Y (J E (U E (V (AL ?_))))
 obtain rfl:=zI h
 exact AX [0,1,2,3] 4 E E E
def JG(n:Nat)(p0:List BP):Option (UInt32×Int):=
 (Gy n p0).bind fun y1=>
 cond (!y1)
 (
  some (0,40))
 (
  cond (decide ((p0.length:Int)=0))
  (
   some (0,41))
  (
   (BE p0 (wI ((p0.length:Int)-1))).bind fun x1=>
   some (x1.gen,0)))
theorem WL{n:Nat}{DB:Value}{p0:List BP}{r:UInt32×Int}(h:JG n p0=some r)(hs0_:B9 K w0 AZ 2 DB p0):zC K w0 46 [DB] [] H (fun u M=>u=.tuple #[AA r.1,vI r.2]∧M=[]):=by
 unfold JG at h
 refine Td.enter Tryz.func46 rfl rfl ?_
 refine Y (U E (U E (V (Y ?_))))
 refine AE h fun y1 hy1 h=>?_
 refine J E (AP 0 eQ (Oo hy1 hs0_) E (U E (V (AH (Y (J E (CY E E (V ?_))))))))
 refine AN h E (fun hc1 h=>?_) fun hc1 h=>?_
 refine Y (U E (U E (V (AL (Ac ?_)))))
 obtain rfl:=zI h
 exact AX [] 0 E E E
 refine AJ (AI (AH (Y (J E (B2 hs0_ E GY E (Z E Bg (V ?_)))))))
 refine AN h E (fun hc2 h=>?_) fun hc2 h=>?_
 refine Y (U E (U E (V (AL (Ac ?_)))))
 obtain rfl:=zI h
 exact AX [] 0 E E E
 refine AJ (AI (Y ?_))
 refine AE h fun x1 hx1 h=>?_
 refine J E (J E (B2 hs0_ E GY E (Z E Dm ?_)))
 refine C9 hx1 hs0_ E GY E5 E E fun be1 of1 hc3=>?_
 refine AF E FW ?_
 refine Bv E A7 E (DQ (j:=0) hc3 E) ?_
 refine U E (U E (V (AL ?_)))
 obtain rfl:=zI h
 exact AX [] 0 E E E
def Ho(n:Nat)(T:List UInt32)(p0:Bb)(p0_1:A5)(p1:UInt32)(p2:List UInt8):Option (List UInt8×Int×Bb×A5):=
 cond (decide (1<p1))
 (
  some ([],2,p0,p0_1))
 (
  cond (decide (198<(p2.length:Int)))
  (
   some ([],50,p0,p0_1))
  (
   (Ex n T p0 p0_1 p1 p2).bind fun y1=>
   some (y1.1,y1.2.1,y1.2.2.1,y1.2.2.2)))
theorem Np{n Al BH:Nat}{T:List UInt32}{Ad BY Dj BZ Dk:Value}{p0:Bb}{p0_1:A5}{p1:UInt32}{p2:List UInt8}{r:List UInt8×Int×Bb×A5}(h:Ho n T p0 p0_1 p1 p2=some r)(hT:JB K w0 2 64 T):zC K w0 108 [vP Al 0,AA p1,vS p2] [AK Al (.cells #[vP BH 0,Ad,AA p0.gen,AA p0.boot,AV p0.num,BY] 153),AC 114 2 Ad AZ p0.ring,AC 4 1 BY eB p0.taken,AK BH (.cells #[Dj,BZ,Dk,AV p0_1.rcnt,vS p0_1.rtag,AA p0_1.rboots,vI p0_1.left,vB p0_1.off] 107),AC 9 1 Dj eS p0_1.blk,AC 9 1 BZ eS p0_1.pnd,AC 4 1 Dk eB p0_1.bads] H (fun u M=>u=.tuple #[vS r.1,vI r.2.1]∧M=[AK Al (.cells #[vP BH 0,Ad,AA r.2.2.1.gen,AA r.2.2.1.boot,AV r.2.2.1.num,BY] 153),AC 114 2 Ad AZ r.2.2.1.ring,AC 4 1 BY eB r.2.2.1.taken,AK BH (.cells #[Dj,BZ,Dk,AV r.2.2.2.rcnt,vS r.2.2.2.rtag,AA r.2.2.2.rboots,vI r.2.2.2.left,vB r.2.2.2.off] 107),AC 9 1 Dj eS r.2.2.2.blk,AC 9 1 BZ eS r.2.2.2.pnd,AC 4 1 Dk eB r.2.2.2.bads]):=by
 unfold Ho at h
 refine Td.enter Tryz.func108 rfl rfl ?_
 refine Y (U E (U E (V (AH (Y (J E ?_))))))
 refine Z E (Sm (b:=1)) ?_
 refine V ?_
 refine AN h E (fun hc1 h=>?_) fun hc1 h=>?_
 refine Y (U E (U E (V (AL (Ac ?_)))))
 obtain rfl:=zI h
 exact AX [0,1,2,3,4,5,6] 7 E E E
 refine AJ (AI (AH (Y (J E (By E Ch E (Z E Cq (V ?_)))))))
 refine AN h E (fun hc2 h=>?_) fun hc2 h=>?_
 refine Y (U E (U E (V (AL (Ac ?_)))))
 obtain rfl:=zI h
 exact AX [0,1,2,3,4,5,6] 7 E E E
 refine AJ (AI (Y ?_))
 refine AE h fun y1 hy1 h=>?_
 refine J E (J E (J E (AP 7 gJ (Nq hy1 hT) E (Ae E E E (Ae E E E (U E (U E (V (AL ?_)))))))))
 obtain rfl:=zI h
 exact AX [0,1,2,3,4,5,6] 7 E E E
def G4(p0:Ed):Option Bool:=
 (F0 (⟨p0.page,p0.tag⟩:BV)).bind fun y1=>
 ret ((((decide (0<p0.cnt))&&(decide (0<p0.gen)))&&(decide (p0.rows≤1000)))&&y1) fun x1=>
 some x1
theorem Rz{p0:Ed}{r:Bool}(h:G4 p0=some r): zC K w0 139 [.agg (Ha p0).toArray] [] H (fun u M=>u=vB r∧M=[]):=by
 unfold G4 at h
 refine Td.enter Tryz.func139 rfl rfl ?_
 refine Y ?_
 refine Bc E E zU fun b1=>?_
 refine U E (V (Y ?_))
 refine AE h fun y1 hy1 h=>?_
 refine AF rfl QQ (As [AA p0.page,vS p0.tag] rfl DD rfl rfl (Cp 0 rfl (by rintro(_ | (_ | j)) u hj<;>first | exact hj | exact absurd hj zS)) (AP 0 Z5 ((MW hy1 :)) rfl (U rfl (V (Y ?_)))))
 obtain⟨x1,ex1,h⟩:=Bz h
 refine AF E LW (AG 0 G7 E ?_)
 refine Z E (NE (b:=0)) ?_
 refine J E ?_
 refine Cj (c:=decide (0<p0.gen)) 10 4 14 E (fun hb k=>?_) (fun hb k=>?_) ?_
 refine AF E Uk (AG 0 A7 E ?_)
 refine Z E (Sm (b:=0)) ?_
 refine Ai E E E ?_
 exact k.mono tL
 refine AD E (AD E (AD E (Ai E E E ?_)))
 exact k.mono tL
 refine J E ?_
 refine Cj (c:=decide (p0.rows≤1000)) 15 4 19 E (fun hb k=>?_) (fun hb k=>?_) ?_
 refine AF E Ul (AG 0 A7 E ?_)
 refine Z E (NF (b:=1000)) ?_
 refine Ai E E E ?_
 exact k.mono tL
 refine AD E (AD E (AD E (Ai E E E ?_)))
 exact k.mono tL
 refine J E ?_
 refine Cj (c:=y1) 20 2 22 E (fun hb k=>?_) (fun hb k=>?_) ?_
 refine J E (Ai E E E ?_)
 exact k.mono tL
 refine AD E (Ai E E E ?_)
 exact k.mono tL
 refine Ak (u:=vB x1) E E (congrArg vB ex1) ?_
 refine V (AL ?_)
 obtain rfl:=zI h
 exact AX [] 1 E E E
def N7(a1:List UInt8):Option (List UInt8):=
 some a1
def Mq(p1:Int)(nx_f_ref15_put_l1:UInt64×List UInt8×Int→Option (List UInt8))(a2:UInt64)(a3:List UInt8)(a4:Int):Option (List UInt8):=
 cond (decide (a4<p1))
 (
  (ED a3 [a2.toUInt8]).bind fun s1=>
  (RA a2 256).bind fun q1=>
  ret (wI (a4+1)) fun i_1=>
  nx_f_ref15_put_l1 (q1,s1,i_1))
 (
  N7 a3)
def N8(p1:Int):Nat→(UInt64×List UInt8×Int)→Option (List UInt8):=CO fun nx x=>Mq p1 nx x.1 x.2.1 x.2.2
def Hp(n:Nat)(p0:UInt64)(p1:Int):Option (List UInt8):=
 N8 p1 n (p0,[],0)
theorem ON{n:Nat}{p0:UInt64}{p1:Int}{r:List UInt8}(h:Hp n p0 p1=some r): zC K w0 140 [AV p0,vI p1] [] H (fun u M=>u=vS r∧M=[]):=by
 unfold Hp at h
 refine Td.enter Tryz.func140 rfl rfl ?_
 refine Y (U E (V (Y (U E (V ?_)))))
 refine BB (α:=List UInt8) (fun x=>N7 x=some r) (fun x=>[(5,vS x)]) (fun x=>H) ?_ (fun a1 D h=>?_)
 refine Y (U E (V (AQ ?_)))
 refine SX.heap (SX.mono (BG (α:=Nat×UInt64×List UInt8×Int) (fun x=>N8 p1 x.1 (x.2.1,x.2.2.1,x.2.2.2)=some r) (fun x=>[(0,AV x.2.1),(1,vI p1),(5,vS x.2.2.1),(6,vI x.2.2.2)]) (fun x=>H) (fun x=>x.1) (fun x D h=>?_) (n,p0,[],0) h) tL) (BR [] 0 E E E)
 obtain⟨m1,a2,a3,a4⟩:=x
 dsimp only at h
 rcases m1 with _ | m1
 cases (show(none:Option _)=some r from h)
 replace h:Mq p1 (N8 p1 m1) a2 a3 a4=some r:=h
 unfold Mq at h
 try dsimp only
 refine AH (Y (J E (J E (Z E BA (V ?_)))))
 refine AN h E (fun hc1 h=>?_) fun hc1 h=>?_
 refine AJ (AI (AH (AQ (Y ?_))))
 refine AE h fun s1 hs1 h=>?_
 refine J E (J E (BF E E (FF DL DI) ?_))
 refine CD [_] rfl Cb Jg KY ⟨rfl,trivial⟩ rfl rfl rfl zW rfl rfl zU fun b1=>?_
 refine CF FS 1 ([a2.toUInt8]:List UInt8) E zV E ?_
 refine Gi 0 E Cb DI Ch E E (Z E (CQ hs1) (U E (V (AS ?_))))
 refine AE h fun q1 hq1 h=>?_
 refine J E ?_
 refine Z E (PP (b:=256) hq1) ?_
 refine U E (Aa (An (AI (AS ?_))))
 obtain⟨i_1,ei_1,h⟩:=Bz h
 refine J E (Z E Bf ?_)
 refine Ak (u:=vI i_1) E E (congrArg vI ei_1) ?_
 refine Aa ?_
 exact Av (m1,q1,s1,i_1) h (Nat.lt_succ_self _) tL (BR [] 1 E E E)
 refine Ay (A6 (Ba (A9 ?_)))
 exact Ap a3 h tL (BR [] 0 E E E)
 unfold N7 at h
 try dsimp only
 refine Y (J E (U E (V (AL ?_))))
 obtain rfl:=zI h
 exact AX [] 0 E E E
def JI(n:Nat)(p0:Ed):Option (List UInt8×Int):=
 (G4 p0).bind fun y1=>
 cond (!y1)
 (
  some ([],120))
 (
  (Hp n p0.cnt 8).bind fun y2=>
  (ED [115,112,104,114] y2).bind fun s1=>
  (Hp n p0.gen.toUInt64 4).bind fun y3=>
  (ED s1 y3).bind fun s2=>
  (Hp n p0.rows.toUInt64 4).bind fun y4=>
  (ED s2 y4).bind fun s3=>
  (Hp n p0.page.toUInt64 4).bind fun y5=>
  (ED s3 y5).bind fun s4=>
  (ED s4 p0.tag).bind fun s5=>
  some (s5,0))
theorem RP{n:Nat}{p0:Ed}{r:List UInt8×Int}(h:JI n p0=some r): zC K w0 107 [.agg (Ha p0).toArray] [] H (fun u M=>u=.tuple #[vS r.1,vI r.2]∧M=[]):=by
 unfold JI at h
 refine Td.enter Tryz.func107 rfl rfl ?_
 refine Y ?_
 refine Bc E E zU fun b1=>?_
 refine U E (U E (V (Y ?_)))
 refine AE h fun y1 hy1 h=>?_
 refine As [AV p0.cnt,AA p0.gen,AA p0.rows,AA p0.page,vS p0.tag] E Io E E (Aj 0 E) (AP 0 gI ((Rz hy1 :)) E (U E (V (AH (Y (J E (CY E E (V ?_))))))))
 refine AN h E (fun hc1 h=>?_) fun hc1 h=>?_
 refine Y (U E (U E (V (AL (Ac ?_)))))
 obtain rfl:=zI h
 exact AX [] 1 E E E
 refine AJ (AI (AH ?_))
 refine AE h fun y2 hy2 h=>?_
 refine AE h fun s1 hs1 h=>?_
 refine AE h fun y3 hy3 h=>?_
 refine AE h fun s2 hs2 h=>?_
 refine AE h fun y4 hy4 h=>?_
 refine AE h fun s3 hs3 h=>?_
 refine AE h fun y5 hy5 h=>?_
 refine AE h fun s4 hs4 h=>?_
 refine AE h fun s5 hs5 h=>?_
 refine Aw DG [0] (CM [(true,0),(true,1),(true,4),(true,5),(true,6),(true,9),(true,10),(true,11),(true,14),(true,15),(true,16),(true,17),(true,20),(true,21),(true,22),(false,2),(true,3),(false,7),(true,8),(false,12),(true,13),(false,18),(false,19)] (.last 23 (C4 [(false,24),(false,25)]))) zK (AF E LW (AG 0 G7 E (AF E Uk (AG 0 A7 E (BF E E (Cs CP DL) (AF E Ul (AG 0 A7 E ?_)))))))
 refine BF E E (Cs CP DL) (AF E QQ (AF E FX (AG 0 A7 E (BF E E (Cs CP DL) (AF E QQ (AF E Mw (AG 0 Fx E ?_)))))))
 refine BU 0 WZ (ON hy2) E ⟨⟨0,E⟩,zT⟩ (Z E (CQ hs1) (BU 0 WZ (ON hy3) E ⟨⟨0,E⟩,zT⟩ (Z E (CQ hs2) (BU 0 WZ (ON hy4) E ⟨⟨0,E⟩,zT⟩ (Z E (CQ hs3) (BU 0 WZ (ON hy5) E ⟨⟨0,E⟩,zT⟩ (Z E (CQ hs4) (Bh ?_))))))))
 refine Z E (CQ hs5) (U E (U E (V (AL ?_))))
 obtain rfl:=zI h
 exact AX [] 1 E E E
def LS(p0:UInt64)(p1:UInt32)(p2:Int)(p3:BV):Option (Ed×Int):=
 cond (decide (p0=18446744073709551615))
 (
  some ((⟨0,0,0,0,[]⟩:Ed),72))
 (
  cond ((decide (p2<0))||(decide (1000<p2)))
  (
   some ((⟨0,0,0,0,[]⟩:Ed),120))
  (
   (G4 (⟨p0+1,p1,Ep p2,p3.page,p3.tag⟩:Ed)).bind fun y1=>
   cond (!y1)
   (
    some ((⟨0,0,0,0,[]⟩:Ed),120))
   (
    some ((⟨p0+1,p1,Ep p2,p3.page,p3.tag⟩:Ed),0))))
theorem TR{p0:UInt64}{p1:UInt32}{p2:Int}{p3:BV}{r:Ed×Int}(h:LS p0 p1 p2 p3=some r): zC K w0 106 [AV p0,AA p1,vI p2,.agg (B0 p3).toArray] [] H (fun u M=>u=.tuple #[.agg (Ha r.1).toArray,vI r.2]∧M=[]):=by
 unfold LS at h
 refine Td.enter Tryz.func106 rfl rfl ?_
 refine Y ?_
 refine Bc E E zU fun b1=>?_
 refine Am E LG zU fun b2=>?_
 refine U E (V (AH (Y (J E ?_))))
 refine Z E (MD (b:=18446744073709551615)) ?_
 refine V ?_
 refine AN h E (fun hc1 h=>?_) fun hc1 h=>?_
 refine Y (CB [] E T0 Tz LG zT E (A8 0 E E E E M3 E E E zT (U E (V (AL (Ac ?_))))))
 obtain rfl:=zI h
 exact Ag (D7 E (CC 0 (Ha (⟨0,0,0,0,[]⟩:Ed)) Io E E E E) E) (Af (M:=[]) ⟨E,E⟩ fun _ hw=>BW.pick (H:=[_,_]) hw [] 2 E)
 refine AJ (AI (AH (Y (J E (Z E BA (J E ?_))))))
 refine E3 (c:=decide (1000<p2)) 17 3 20 E (fun hb k=>?_) (fun hb k=>?_) ?_
 refine AD E (AD E (Ai E E E ?_))
 exact k.mono tL
 refine J E (Z E Cq (Ai E E E ?_))
 exact k.mono tL
 refine V ?_
 refine AN h E (fun hc2 h=>?_) fun hc2 h=>?_
 refine Y (CB [] E T0 Tz LG zT E (A8 0 E E E E M3 E E E zT (U E (V (AL (Ac ?_))))))
 obtain rfl:=zI h
 exact Ag (D7 E (CC 0 (Ha (⟨0,0,0,0,[]⟩:Ed)) Io E E E E) E) (Af (M:=[]) ⟨E,E⟩ fun _ hw=>BW.pick (H:=[_,_]) hw [] 2 E)
 refine AJ (AI (Y (J E ?_)))
 refine Z E (Hw (b:=1)) ?_
 refine J E (J E (BF E E (Og I9 CP) (As [AA p3.page,vS p3.tag] E DD E E (Aj 1 E) (CB [_,_,_,_] E T0 Tz LG ⟨E,E,E,E,zT⟩ E ?_))))
 refine Am E LG zU fun b3=>?_
 refine A8 0 E E E E M3 E E E zT (V (Y ?_))
 refine AE h fun y1 hy1 h=>?_
 refine As [AV (p0+1),AA p1,AA (Ep p2),AA p3.page,vS p3.tag] E Io E E (Aj 0 E) (AP 0 gI ((Rz hy1 :)) E (U E (V (AH (Y (J E (CY E E (V ?_))))))))
 refine AN h E (fun hc3 h=>?_) fun hc3 h=>?_
 refine Y (CB [] E T0 Tz LG zT E (A8 1 E E E E M3 E E E zT (U E (V (AL (Ac ?_))))))
 obtain rfl:=zI h
 exact Ag (D7 E (CC 1 (Ha (⟨0,0,0,0,[]⟩:Ed)) Io E E E E) E) (Af (M:=[]) ⟨E,E⟩ fun _ hw=>BW.pick (H:=[_,_,_]) hw [] 3 E)
 refine AJ (AI (Y (As [AV (p0+1),AA p1,AA (Ep p2),AA p3.page,vS p3.tag] E Io E E (Aj 0 E) (A8 1 E E E E M3 E E E zT (U E (V (AL ?_)))))))
 obtain rfl:=zI h
 exact Ag (D7 E (CC 1 (Ha (⟨p0+1,p1,Ep p2,p3.page,p3.tag⟩:Ed)) Io E E E E) E) (Af (M:=[]) ⟨E,E⟩ fun _ hw=>BW.pick (H:=[_,_,_]) hw [] 3 E)
end

section
variable {K:Nat→Prop}{w0:World}{H:List AY}
def aa(l:List (List UInt8))(s:List UInt8):Option (List UInt8):=if s=[]∧2≤l.length∧l.length≤1000000∧0<l.flatten.length∧l.flatten.length≤1000000 then some l.flatten else none
theorem Qw{l:List (List UInt8)}{i:Nat}{x:List UInt8}(h:l[i]? = some x):(l.take (i+1)).flatten=(l.take i).flatten++x:=by
 obtain⟨hlt,hg⟩:=List.getElem?_eq_some_iff.1 h
 rw[←List.take_append_getElem hlt,hg]
 simp
theorem Ts(l:List (List UInt8))(i:Nat):(l.take i).flatten.length≤l.flatten.length:=by
 have:l.flatten=(l.take i).flatten++(l.drop i).flatten:=by rw[←List.flatten_append,List.take_append_drop]
 rw[this,List.length_append]
 omega
theorem pM{v0:Value}{l:List (List UInt8)}{s r:List UInt8}(h:aa l s=some r)(hs0:B9 K w0 eS 1 v0 l):zC K w0 213 [v0,vS s] [] H (fun u M=>u=vS r∧M=[]):=by
 unfold aa at h
 split at h
 rotate_left
 cases h
 rename_i hl
 obtain⟨rfl,h2,h3,h0,h4⟩:=hl
 obtain rfl:=zI h
 refine Td.enter Tryz.func213 rfl rfl ?_
 refine Y (U E (V (AH (Y (J E (B2 hs0 E Db E (V (AQ (Y (Z E Bg (U E (V ?_))))))))))))
 refine Ax E (fun hc1=>absurd (of_decide_eq_true hc1) zO) (fun _=>?_)
 refine Y (Z E Bg (U E (V ?_)))
 refine Ax E (fun hc1=>absurd (of_decide_eq_true hc1) zO) (fun _=>?_)
 refine AJ (An (AI (Y (U E (V (AH (Y (J E (By E Ch E (Z E Cq (V ?_)))))))))))
 refine Ax E (fun hc1=>absurd hc1 zD) (fun _=>?_)
 refine AJ (AI (AH (Y (J E (B2 hs0 E Db E (J E (V (AQ ?_))))))))
 refine SX.mono (BG (α:=Nat) (fun i=>i≤l.length) (fun i=>[(0,v0),(1,vS []),(4,vS []),(5,vI ((l.take i).flatten.length:Nat)),(39,v0),(40,vI (l.length:Int)),(41,vI i)]) (fun _=>H) (fun i=>l.length-i) (fun i D hp=>?_) 0 (Nat.zero_le _)) tL
 refine Y (Z E BA (V (AH ?_)))
 refine Ax E (fun hc1=>?_) (fun hc1=>?_)
 have hlt:i<l.length:=by
  have:=of_decide_eq_true hc1
  omega
 obtain⟨x,hx⟩:∃x,l[i]? = some x:=⟨_,List.getElem?_eq_getElem hlt⟩
 have hn:BE l (i:Int)=some x:=by rw[Ez];exact hx
 have hf:=Qw hx
 have hfl:=Ts l (i+1)
 rw[hf,List.length_append]at hfl
 refine AJ (AI (AH (AQ (Y ?_))))
 refine C9 hn hs0 E Db GD E E fun be of hc=>?_
 refine Bv E Fx E (DQ (j:=0) hc E) ?_
 refine U E (V (AH (Y (J E (By E Ch E (J E (Z E (Dz zO zO) (Z E Cq (V ?_)))))))))
 refine Ax E (fun hc1=>absurd (of_decide_eq_true hc1) zO) (fun _=>?_)
 refine AJ (AI (AS (J E (J E (By E Ch E (Z E (Be zO zO) ?_))))))
 refine Ak (u:=vI ((l.take (i+1)).flatten.length:Nat)) E E (congrArg vI (by rw[hf,List.length_append];rfl)) ?_
 refine Aa (An (AI (AS (Z E (Be zO zO) (J E (Aa ?_))))))
 exact Av (i+1) zO zO tL (fun _ hw=>hw)
 have hi:i=l.length:=by
  have:=of_decide_eq_false hc1
  omega
 subst hi
 rw[List.take_length]
 refine Ay (A6 (Ba (A9 (AI (Y ?_)))))
 refine Am E YL zU fun b0=>?_
 refine V (Y (J E (BS 1 kX (cE b0 _ _ (.inl E) h0 zO) E ?_)))
 rintro _ _ ⟨rfl,v1,rfl⟩
 refine V ?_
 have hn0:BE l 0=some (l[0]' zO):=by
  have:=Ez (l:=l) (i:=0)
  rw[List.getElem?_eq_getElem zO]at this
  exact this
 have hf0:(l.take (0+1)).flatten=l[0]' zO:=by
  have:=Qw (List.getElem?_eq_getElem (l:=l) (i:=0) zO)
  simpa using this
 have hfl0:=Ts l (0+1)
 rw[hf0]at hfl0
 refine Y (J E ?_)
 refine C9 hn0 hs0 E Db GD E E fun be of hc=>?_
 refine Bv E Fx E (DQ (j:=0) hc E) ?_
 refine BS 2 SA (Gm 136 b0 _ v1 0 [] _ (.inr E) Q1 zO) E ?_
 rintro _ _ ⟨rfl,v2,rfl⟩
 refine V ?_
 have hcut:Im l 1 (l.length:Int)=some (l.drop 1):=by
  unfold Im
  rw[if_pos zO]
  congr 1
  exact List.take_of_length_le zS
 refine AH (Y (J E ?_))
 refine bz hcut hs0 E Db GD E E fun v3 hs3=>?_
 refine B2 hs3 E Db E (J E (V (AQ ?_)))
 refine SX.heap (SX.mono (BG (α:=Nat×Value) (fun x=>x.1+1≤l.length) (fun x=>[(1,vS []),(4,vS []),(8,vP b0 0),(63,v3),(64,vI ((l.drop 1).length:Int)),(65,vI x.1)])
  (fun x=>AK b0 (.cells #[vP b0 0,x.2] 136)::DO 5 1 x.2 (l.take (x.1+1)).flatten.length ((l.take (x.1+1)).flatten.map fun b=>EB b)::H) (fun x=>l.length-x.1) (fun x D hp=>?_) (0,v2) (by dsimp only;omega)) tL) (fun _ hw=>by
   dsimp only
   rw[hf0]
   simpa using hw)
 obtain⟨i,v⟩:=x
 dsimp only at hp ⊢
 refine Y (Z E BA (V (AH ?_)))
 refine Ax E (fun hc1=>?_) (fun hc1=>?_)
 have hlt:i+1<l.length:=by
  have:=of_decide_eq_true hc1
  rw[List.length_drop]at this
  omega
 obtain⟨x,hx⟩:∃x,l[i+1]? = some x:=⟨_,List.getElem?_eq_getElem hlt⟩
 have hn:BE (l.drop 1) (i:Int)=some x:=by rw[Ez,List.getElem?_drop,Nat.add_comm];exact hx
 have hf:=Qw hx
 have hfl:=Ts l (i+1+1)
 rw[hf,List.length_append]at hfl
 refine AJ (AI (AH (AQ (Y ?_))))
 refine C9 hn hs3 E Db GD E E fun be of hc=>?_
 refine Bv E Fx E (DQ (j:=0) hc E) ?_
 refine U E (V (Y (J E (BS 2 SA (Gm 136 b0 _ v _ _ [] (.inr E) Q1 (by simp only[List.length_nil];omega)) E ?_))))
 rintro _ _ ⟨rfl,v4,rfl⟩
 refine V (AS (J E (BS 2 SA (Gm 136 b0 _ v4 _ _ x (.inr E) Q1 (by simp only[List.length_nil];omega)) E ?_)))
 rintro _ _ ⟨rfl,v5,rfl⟩
 refine Aa (An (AI (AS (Z E (Be zO zO) (J E (Aa ?_))))))
 exact Av (i+1,v5) (by dsimp only;omega) (by dsimp only;omega) tL (fun _ hw=>by
  dsimp only
  rw[hf]
  simpa using hw)
 have hi:i+1=l.length:=by
  have:=of_decide_eq_false hc1
  rw[List.length_drop]at this
  omega
 rw[hi,List.take_length]
 refine Ay (A6 (Ba (A9 (AI (Y (AP 2 Po (JU 136 b0 _ v _ l.flatten zO) E (U E (V (AL ?_)))))))))
 exact Ag (Cl E E) (Af (M:=[]) ⟨E,E⟩ fun _ h=>h.skip [_,_])
end

section
variable {K:Nat→Prop}{w0:World}{H:List AY}
def Ur(l:List BP):Option (List BP):=DK 24 [] l
theorem jT{v:Value}{l r:List BP}(h:Ur l=some r)(hs:B9 K w0 AZ 2 v l):zC K w0 65 [v] [] H (fun u M=>∃v0:Value,u=v0∧M=[AC 114 2 v0 AZ r]):=by
 unfold Ur at h
 have hn:(v=.slice none 0 0∧l=[])∨∃a n c,v=.slice (some a) n c:=by
  rcases hs.at_ with⟨a,rfl,e⟩ | ⟨b,off,cap,rfl,_⟩
  cases a with
  | none=>exact .inl ⟨rfl,e⟩
  | some a=>exact .inr ⟨_,_,_,rfl⟩
  exact .inr ⟨_,_,_,rfl⟩
 refine Td.enter Tryz.func65 rfl rfl ?_
 refine Y (U E (V ?_))
 rcases hn with⟨rfl,rfl⟩ | ⟨a,n,c,rfl⟩
 refine AH (Y (J E (UG E GY E E (V (QD E (Y (U E (V (AL (Ac (Oi 114 2 AZ ?_)))))))))))
 obtain rfl:r=[]:=by
  rw[DK,if_pos zS]at h
  simpa using h.symm
 exact Bi [0] 1 (Cl E E) E E ⟨_,E,E⟩
 refine AH (Y (J E (UG E GY E E (V (C0 E (AJ (AI (Y ?_))))))))
 refine Wp E GY E5 zU fun b1=>?_
 refine CF AZ 2 ([]:List BP) E zV E ?_
 refine J E ?_
 refine Rj 0 h hs (sz:=2) (enc:=AZ) zV E GY E5 eE Ji E zD E E E (by simp[AZ,Value.oneCell']) zU fun v1=>?_
 refine U E (V (AL ?_))
 exact Bi [0] 1 (Cl E E) E E ⟨_,E,E⟩
def Uy(l:List BP):Option Bool:=if l.length≤1099511627776 then some (DU l)else none
theorem jU{v:Value}{l:List BP}{r:Bool}(h:Uy l=some r)(hk:B9 K w0 AZ 2 v l):zC K w0 62 [v] [] H (fun u M=>u=vB r∧M=[]):=by
 unfold Uy at h
 split at h
 rename_i hl
 obtain rfl:=zI h
 exact Pn v l hk hk.cells1 hl
 cases h
end

section
variable {K:Nat→Prop}{w0:World}{H:List AY}
def II(p0:List BP):Option (UInt32×Int):=
 (Uy p0).bind fun y1=>
 ret (!y1) fun x1=>
 cond x1
 (
  some (0,40))
 (
  ret (decide ((p0.length:Int)=0)) fun x2=>
  cond x2
  (
   some (0,41))
  (
   (BE p0 (wI ((p0.length:Int)-1))).bind fun x3=>
   some (x3.gen,0)))
theorem Rt{DB:Value}{p0:List BP}{r:UInt32×Int}(h:II p0=some r)(hs0_:B9 K w0 AZ 2 DB p0):zC K w0 42 [DB] [] H (fun u M=>u=.tuple #[AA r.1,vI r.2]∧M=[]):=by
 unfold II at h
 refine Td.enter Tryz.func42 rfl rfl ?_
 refine Y (U E (U E (V (AH (AQ (Y ?_))))))
 refine AE h fun y1 hy1 h=>?_
 obtain⟨x1,ex1,h⟩:=Bz h
 refine J E (AP 0 eP (jU hy1 hs0_) E (CY E E ?_))
 refine Ak (u:=vB x1) E E (congrArg vB ex1) ?_
 refine V ?_
 refine AN h E (fun hc1 h=>?_) fun hc1 h=>?_
 refine Y (U E (U E (V (AL (BC (Ac ?_))))))
 obtain rfl:=zI h
 exact AX [] 0 E E E
 refine Y ?_
 obtain⟨x2,ex2,h⟩:=Bz h
 refine J E (B2 hs0_ E GY E (Z E Bg ?_))
 refine Ak (u:=vB x2) E E (congrArg vB ex2) ?_
 refine V ?_
 refine AN h E (fun hc2 h=>?_) fun hc2 h=>?_
 refine Y (U E (U E (V (AL (BC (Ac ?_))))))
 obtain rfl:=zI h
 exact AX [] 0 E E E
 refine AJ (An (AI (Y ?_)))
 refine AE h fun x3 hx3 h=>?_
 refine J E (J E (B2 hs0_ E GY E (Z E Dm ?_)))
 refine C9 hx3 hs0_ E GY E5 E E fun be1 of1 hc3=>?_
 refine AF E FW ?_
 refine Bv E A7 E (DQ (j:=0) hc3 E) ?_
 refine U E (U E (V (AL ?_)))
 obtain rfl:=zI h
 exact AX [] 0 E E E
def Jb(p0:Ed):Option Bool:=
 (Ij (((decide (0<p0.cnt))&&(decide (0<p0.gen)))&&(decide (p0.rows≤1000))) ((Dp (⟨p0.page,p0.tag⟩:BV)).bind fun y1=>some (y1))).bind fun y2=>
 some y2
theorem TS{p0:Ed}{r:Bool}(h:Jb p0=some r): zC K w0 134 [.agg (Ha p0).toArray] [] H (fun u M=>u=vB r∧M=[]):=by
 unfold Jb at h
 refine Td.enter Tryz.func134 rfl rfl ?_
 refine Y ?_
 refine Bc E E zU fun b1=>?_
 refine U E (V (Y ?_))
 refine AE h fun y2 hy2 h=>?_
 refine AF E LW (AG 0 G7 E ?_)
 refine Z E (NE (b:=0)) ?_
 refine J E ?_
 refine Cj (c:=decide (0<p0.gen)) 6 4 10 E (fun hb k=>?_) (fun hb k=>?_) ?_
 refine AF E Uk (AG 0 A7 E ?_)
 refine Z E (Sm (b:=0)) ?_
 refine Ai E E E ?_
 exact k.mono tL
 refine AD E (AD E (AD E (Ai E E E ?_)))
 exact k.mono tL
 refine J E ?_
 refine Cj (c:=decide (p0.rows≤1000)) 11 4 15 E (fun hb k=>?_) (fun hb k=>?_) ?_
 refine AF E Ul (AG 0 A7 E ?_)
 refine Z E (NF (b:=1000)) ?_
 refine Ai E E E ?_
 exact k.mono tL
 refine AD E (AD E (AD E (Ai E E E ?_)))
 exact k.mono tL
 refine J E ?_
 refine FR 16 4 20 hy2 E (fun hb hg3 k=>?_) (fun hb k=>?_) ?_
 obtain⟨y1,hy1,hg3⟩:=Ek hg3
 obtain rfl:=zI hg3
 refine AF rfl QQ (As [AA p0.page,vS p0.tag] rfl DD rfl rfl (Cp 0 rfl (by rintro(_ | (_ | j)) u hj<;>first | exact hj | exact absurd hj zS)) (AP 0 Z4 ((NK hy1 :)) rfl (Ai rfl rfl rfl ?_)))
 exact k.mono tL
 refine AD E (AD E (AD E (Ai E E E ?_)))
 exact k.mono tL
 refine U E (V (AL ?_))
 obtain rfl:=zI h
 exact AX [] 1 E E E
def NS(l1:List UInt8):Option (List UInt8):=
 some l1
def MA(p0:UInt64)(p1:Int)(nx_f_root_bytes_l1:List UInt8×Int→Option (List UInt8))(l2:List UInt8)(a1:Int):Option (List UInt8):=
 cond (decide (a1<p1))
 (
  (QV (wI (8*a1))).bind fun n1=>
  (DK 1 l2 [(shr64 p0 n1).toUInt8]).bind fun l3=>
  nx_f_root_bytes_l1 (l3,wI (a1+1)))
 (
  NS l2)
def NT(p0:UInt64)(p1:Int):Nat→(List UInt8×Int)→Option (List UInt8):=CO fun nx x=>MA p0 p1 nx x.1 x.2
def GV(n:Nat)(p0:UInt64)(p1:Int):Option (List UInt8):=
 NT p0 p1 n ([],0)
theorem Nc{n:Nat}{p0:UInt64}{p1:Int}{r:List UInt8}(h:GV n p0 p1=some r): zC K w0 171 [AV p0,vI p1] [] H (fun u M=>u=vS r∧M=[]):=by
 unfold GV at h
 refine Td.enter Tryz.func171 rfl rfl ?_
 refine Y (U E (V (Y (B8 5 1 FS (U E (V ?_))))))
 refine BB (α:=List UInt8×Value) (fun x=>NS x.1=some r) (fun x=>[(5,x.2)]) (fun x=>AC 5 1 x.2 FS x.1::H) ?_ (fun x D h=>?_)
 refine Y (J E (J E (V (AQ ?_))))
 refine SX.heap (SX.mono (BG (α:=Nat×List UInt8×Value×Int) (fun x=>NT p0 p1 x.1 (x.2.1,x.2.2.2)=some r) (fun x=>[(0,AV p0),(5,x.2.2.1),(7,vI p1),(8,vI x.2.2.2)]) (fun x=>AC 5 1 x.2.2.1 FS x.2.1::H) (fun x=>x.1) (fun x D h=>?_) (n,[],zN,0) h) tL) (BR [0] 1 E E E)
 obtain⟨m1,l2,v2,a1⟩:=x
 dsimp only at h
 rcases m1 with _ | m1
 cases (show(none:Option _)=some r from h)
 replace h:MA p0 p1 (NT p0 p1 m1) l2 a1=some r:=h
 unfold MA at h
 try dsimp only
 refine Y (Z E BA (V (AH ?_)))
 refine AN h E (fun hc1 h=>?_) fun hc1 h=>?_
 refine AJ (AI (AH (AQ (Y (J E (U E (V (AS ?_))))))))
 refine AE h fun n1 hn1 h=>?_
 refine AE h fun l3 hl3 h=>?_
 refine J E (J E (J E (Z E ME (Z E (bY hn1) (BF E E (FF DL DI) ?_)))))
 refine CD [_] rfl Cb Jg KY ⟨rfl,trivial⟩ rfl rfl rfl zW rfl rfl zU fun b1=>?_
 refine CF FS 1 ([(shr64 p0 n1).toUInt8]:List UInt8) E zV E ?_
 refine Cr 1 hl3 (sz:=1) (enc:=FS) zV E Cb Jg VE KY E zD E E E E (CH (sz:=1) (enc:=FS) 0 zV E) (by simp[FS,Value.oneCell']) zU fun v3=>?_
 refine U E (Aa (An (AI (AS (Z E Bf (J E (Aa ?_)))))))
 exact Av (m1,l3,v3,wI (a1+1)) h (Nat.lt_succ_self _) tL (BR [1] 2 E E E)
 refine Ay (A6 (Ba (A9 ?_)))
 exact Ap (l2,v2) h tL (BR [0] 1 E E E)
 obtain⟨l1,v1⟩:=x
 dsimp only at h
 unfold NS at h
 try dsimp only
 refine Y (J E (Gi 0 E Cb DI Ch E E (U E (V (AL ?_)))))
 obtain rfl:=zI h
 exact AX [] 1 E E E
def OR(p0:List (List UInt8)):Option (List UInt8):=
 (aa p0 []).bind fun y1=>
 some y1
theorem Zt{DB:Value}{p0:List (List UInt8)}{r:List UInt8}(h:OR p0=some r)(hs0_:B9 K w0 eS 1 DB p0):zC K w0 170 [DB] [] H (fun u M=>u=vS r∧M=[]):=by
 unfold OR at h
 refine Td.enter Tryz.func170 rfl rfl ?_
 refine Y (U E (V (Y ?_)))
 refine AE h fun y1 hy1 h=>?_
 refine J E (AP 0 n8 (pM hy1 hs0_) E (U E (V (AL ?_))))
 obtain rfl:=zI h
 exact AX [] 0 E E E
def Mu(n:Nat)(p0:Ed):Option (List UInt8):=
 (GV n p0.cnt 8).bind fun y1=>
 (GV n p0.gen.toUInt64 4).bind fun y2=>
 (GV n p0.rows.toUInt64 4).bind fun y3=>
 (GV n p0.page.toUInt64 4).bind fun y4=>
 (OR [[115,112,104,114],y1,y2,y3,y4,p0.tag]).bind fun y5=>
 some y5
theorem Zu{n:Nat}{p0:Ed}{r:List UInt8}(h:Mu n p0=some r): zC K w0 135 [.agg (Ha p0).toArray] [] H (fun u M=>u=vS r∧M=[]):=by
 unfold Mu at h
 refine Td.enter Tryz.func135 rfl rfl ?_
 refine Y ?_
 refine Bc E E zU fun b1=>?_
 refine U E (V (AH ?_))
 refine AE h fun y1 hy1 h=>?_
 refine AE h fun y2 hy2 h=>?_
 refine AE h fun y3 hy3 h=>?_
 refine AE h fun y4 hy4 h=>?_
 refine AE h fun y5 hy5 h=>?_
 refine Aw DG [0] (CM [(true,0),(true,1),(true,3),(true,4),(true,5),(true,7),(true,8),(true,9),(true,11),(true,12),(true,13),(true,14),(true,16),(true,17),(true,18),(false,2),(false,6),(false,10),(false,15)] (.last 19 (C4 [(false,20),(false,21)]))) zK (AF E LW (AG 0 G7 E (AF E Uk (AG 0 A7 E (BF E E (Cs CP DL) (AF E Ul (AG 0 A7 E ?_)))))))
 refine BF E E (Cs CP DL) (AF E QQ (AF E FX (AG 0 A7 E (BF E E (Cs CP DL) (AF E QQ (AF E Mw (AG 0 Fx E ?_)))))))
 refine BU 0 Wb (Nc hy1) E ⟨⟨0,E⟩,zT⟩ (BU 0 Wb (Nc hy2) E ⟨⟨0,E⟩,zT⟩ (BU 0 Wb (Nc hy3) E ⟨⟨0,E⟩,zT⟩ (BU 0 Wb (Nc hy4) E ⟨⟨0,E⟩,zT⟩ (Bh ?_))))
 refine CD [_,_,_,_,_,_] rfl Db GD RJ ⟨rfl,rfl,rfl,rfl,rfl,rfl,trivial⟩ rfl rfl rfl (by first | (simp[Value.cells];done) | (intro v hv;simp only[List.mem_cons,List.not_mem_nil,or_false]at hv;rcases hv with rfl | rfl | rfl | rfl | rfl | rfl<;>rfl)) rfl rfl zU fun b2=>?_
 refine CF eS 1 ([[115,112,104,114],y1,y2,y3,y4,p0.tag]:List (List UInt8)) E zV E ?_
 refine Bd (vs:=[_]) (Hin:=[_]) (Hr:=_::_) E E ⟨E,zT⟩ nc E E (Cm (B:=[_]) (Hin:=[]) fun K' w1 hk hB=>Zt hy5 (CT (e:=9) (v:=.slice (some ⟨b2,0,none⟩) 6 6) zV (hB _ zS))) ?_
 rintro _ _ ⟨_,rfl,rfl,rfl⟩
 refine⟨trivial,?_⟩
 refine U E (V (AL ?_))
 obtain rfl:=zI h
 exact AX [] 2 E E E
def KG(n:Nat)(p0:Ed):Option (List UInt8×Int):=
 (Jb p0).bind fun y1=>
 cond (!y1)
 (
  some ([],120))
 (
  (Mu n p0).bind fun y2=>
  some (y2,0))
theorem Oq{n:Nat}{p0:Ed}{r:List UInt8×Int}(h:KG n p0=some r): zC K w0 98 [.agg (Ha p0).toArray] [] H (fun u M=>u=.tuple #[vS r.1,vI r.2]∧M=[]):=by
 unfold KG at h
 refine Td.enter Tryz.func98 rfl rfl ?_
 refine Y ?_
 refine Bc E E zU fun b1=>?_
 refine U E (U E (V (AH (Y ?_))))
 refine AE h fun y1 hy1 h=>?_
 refine As [AV p0.cnt,AA p0.gen,AA p0.rows,AA p0.page,vS p0.tag] E Io E E (Aj 0 E) (AP 0 gG ((TS hy1 :)) E (CY E E (V ?_)))
 refine AN h E (fun hc1 h=>?_) fun hc1 h=>?_
 refine Y (U E (U E (V (AL (Ac ?_)))))
 obtain rfl:=zI h
 exact AX [] 1 E E E
 refine AJ (AI (Y ?_))
 refine AE h fun y2 hy2 h=>?_
 refine As [AV p0.cnt,AA p0.gen,AA p0.rows,AA p0.page,vS p0.tag] E Io E E (Aj 0 E) (AP 0 nJ ((Zu hy2 :)) E (U E (U E (V (AL ?_)))))
 obtain rfl:=zI h
 exact AX [] 1 E E E
def OQ(p0:UInt64):Option UInt32:=
 ret ((p0 &&& 1).toUInt32) fun x1=>
 some x1
theorem Qn{p0:UInt64}{r:UInt32}(h:OQ p0=some r): zC K w0 100 [AV p0] [] H (fun u M=>u=AA r∧M=[]):=by
 unfold OQ at h
 refine Td.enter Tryz.func100 rfl rfl ?_
 refine Y (U E (V (Y ?_)))
 obtain⟨x1,ex1,h⟩:=Bz h
 refine J E ?_
 refine Z E (Of (b:=1)) ?_
 refine BF E E (NG DL CP) ?_
 refine Ak (u:=AA x1) E E (congrArg AA ex1) ?_
 refine V (AL ?_)
 obtain rfl:=zI h
 exact AX [] 0 E E E
def Mt(p0:UInt64)(p1:UInt32)(p2:Int)(p3:BV):Option (Ed×Int):=
 ret (decide (p0+1=0)) fun x1=>
 cond x1
 (
  some ((⟨0,0,0,0,[]⟩:Ed),72))
 (
  (WR ((decide (p2<0))||(decide (1000<p2))) ((Jb (⟨p0+1,p1,Ep p2,p3.page,p3.tag⟩:Ed)).bind fun y1=>some (!y1))).bind fun y2=>
  cond y2
  (
   some ((⟨0,0,0,0,[]⟩:Ed),120))
  (
   some ((⟨p0+1,p1,Ep p2,p3.page,p3.tag⟩:Ed),0)))
theorem Qm{p0:UInt64}{p1:UInt32}{p2:Int}{p3:BV}{r:Ed×Int}(h:Mt p0 p1 p2 p3=some r): zC K w0 97 [AV p0,AA p1,vI p2,.agg (B0 p3).toArray] [] H (fun u M=>u=.tuple #[.agg (Ha r.1).toArray,vI r.2]∧M=[]):=by
 unfold Mt at h
 refine Td.enter Tryz.func97 rfl rfl ?_
 refine Y ?_
 refine Bc E E zU fun b1=>?_
 refine Am E LG zU fun b2=>?_
 refine U E (V (Y (J E ?_)))
 refine Z E (Hw (b:=1)) ?_
 refine J E (J E (BF E E (Og I9 CP) (As [AA p3.page,vS p3.tag] E DD E E (Aj 1 E) (CB [_,_,_,_] E T0 Tz LG ⟨E,E,E,E,zT⟩ E ?_))))
 refine Am E LG zU fun b3=>?_
 refine A8 0 E E E E M3 E E E zT (V (AH (AQ (Y ?_))))
 obtain⟨x1,ex1,h⟩:=Bz h
 refine AF E LW (AG 0 G7 E ?_)
 refine Z E (MD (b:=0)) ?_
 refine Ak (u:=vB x1) E E (congrArg vB ex1) ?_
 refine V ?_
 refine AN h E (fun hc1 h=>?_) fun hc1 h=>?_
 refine Y (CB [] E T0 Tz LG zT E (A8 1 E E E E M3 E E E zT (U E (V (AL (BC (Ac ?_)))))))
 obtain rfl:=zI h
 exact Ag (D7 E (CC 1 (Ha (⟨0,0,0,0,[]⟩:Ed)) Io E E E E) E) (Af (M:=[]) ⟨E,E⟩ fun _ hw=>BW.pick (H:=[_,_,_]) hw [] 3 E)
 refine Y ?_
 refine AE h fun y2 hy2 h=>?_
 refine J E (Z E BA (J E ?_))
 refine E3 (c:=decide (1000<p2)) 26 3 29 E (fun hb k=>?_) (fun hb k=>?_) ?_
 refine AD E (AD E (Ai E E E ?_))
 exact k.mono tL
 refine J E (Z E Cq (Ai E E E ?_))
 exact k.mono tL
 refine J E ?_
 refine Qc 30 4 34 hy2 E (fun hb k=>?_) (fun hb hg2 k=>?_) ?_
 refine AD E (AD E (AD E (Ai E E E ?_)))
 exact k.mono tL
 obtain⟨y1,hy1,hg2⟩:=Ek hg2
 obtain rfl:=zI hg2
 refine As [AV (p0+1),AA p1,AA (Ep p2),AA p3.page,vS p3.tag] E Io E E (Aj 0 E) (AP 0 gG ((TS hy1 :)) E (CY E E (Ai E E E ?_)))
 exact k.mono tL
 refine U E (V ?_)
 refine AN h E (fun hc2 h=>?_) fun hc2 h=>?_
 refine Y (CB [] E T0 Tz LG zT E (A8 1 E E E E M3 E E E zT (U E (V (AL (BC (Ac ?_)))))))
 obtain rfl:=zI h
 exact Ag (D7 E (CC 1 (Ha (⟨0,0,0,0,[]⟩:Ed)) Io E E E E) E) (Af (M:=[]) ⟨E,E⟩ fun _ hw=>BW.pick (H:=[_,_,_]) hw [] 3 E)
 refine AJ (An (AI (Y (As [AV (p0+1),AA p1,AA (Ep p2),AA p3.page,vS p3.tag] E Io E E (Aj 0 E) (A8 1 E E E E M3 E E E zT (U E (V (AL ?_))))))))
 obtain rfl:=zI h
 exact Ag (D7 E (CC 1 (Ha (⟨p0+1,p1,Ep p2,p3.page,p3.tag⟩:Ed)) Io E E E E) E) (Af (M:=[]) ⟨E,E⟩ fun _ hw=>BW.pick (H:=[_,_,_]) hw [] 3 E)
end

section
variable {K:Nat→Prop}{w0:World}{H:List AY}
def Ga(p0:Ao)(p1:UInt64):Option Int:=
 (FT p0.id p1).bind fun y1=>
 some y1
theorem QH{p0:Ao}{p1:UInt64}{r:Int}(h:Ga p0 p1=some r): zC K w0 116 [.agg (AW p0).toArray,AV p1] [] H (fun u M=>u=vI r∧M=[]):=by
 unfold Ga at h
 refine Td.enter Tryz.func116 rfl rfl ?_
 refine Y ?_
 refine Bc E E zU fun b1=>?_
 refine U E (V (Y ?_))
 refine AE h fun y1 hy1 h=>?_
 refine AF E Pc (AG 0 G7 E (J E (AP 0 nC (RX hy1) E (U E (V (AL ?_))))))
 obtain rfl:=zI h
 exact AX [] 1 E E E
def CR(p0:List Ao)(p1:UInt64)(a1:Int):Option (Int×Bool):=
 (Ij (decide (a1<(p0.length:Int))) ((BE p0 a1).bind fun x3=>(Ga x3 p1).bind fun y2=>some (decide (y2=0)))).bind fun y3=>
 some (a1,y3)
def CN(p0:List Ao)(p1:UInt64)(nx_f_slices_BinarySearchFunc_api_Row_api_Row_uint64_l1:Int×Int→Option (Int×Bool))(a2:Int)(a3:Int):Option (Int×Bool):=
 cond (decide (a2<a3))
 (
  ret (wI ((shr64 (Cn (wI (a2+a3))) 1).toNat:Int)) fun x1=>
  (BE p0 x1).bind fun x2=>
  (Ga x2 p1).bind fun y1=>
  cond (decide (y1<0))
  (
   ret (wI (x1+1)) fun i_1=>
   nx_f_slices_BinarySearchFunc_api_Row_api_Row_uint64_l1 (i_1,a3))
  (
   nx_f_slices_BinarySearchFunc_api_Row_api_Row_uint64_l1 (a2,x1)))
 (
  CR p0 p1 a2)
def CS(p0:List Ao)(p1:UInt64):Nat→(Int×Int)→Option (Int×Bool):=CO fun nx x=>CN p0 p1 nx x.1 x.2
def Co(n:Nat)(p0:List Ao)(p1:UInt64):Option (Int×Bool):=
 CS p0 p1 n (0,(p0.length:Int))
theorem HF{n:Nat}{DB:Value}{p0:List Ao}{p1:UInt64}{r:Int×Bool}(h:Co n p0 p1=some r)(hs0_:B9 K w0 AW 4 DB p0):zC K w0 115 [DB,AV p1,.func (.func 116) #[] #[]] [] H (fun u M=>u=.tuple #[vI r.1,vB r.2]∧M=[]):=by
 unfold Co at h
 refine Td.enter Tryz.func115 rfl rfl ?_
 refine Y (U E (U E (V (Y (J E (B2 hs0_ E C3 E (U E (V (Y (J E (U E (U E (V ?_)))))))))))))
 refine BB (α:=Int) (fun x=>CR p0 p1 x=some r) (fun x=>[(0,DB),(1,AV p1),(2,.func (.func 116) #[] #[]),(8,vI (p0.length:Int)),(9,vI x)]) (fun x=>H) ?_ (fun a1 D h=>?_)
 refine AQ ?_
 refine SX.heap (SX.mono (BG (α:=Nat×Int×Int) (fun x=>CS p0 p1 x.1 (x.2.1,x.2.2)=some r) (fun x=>[(0,DB),(1,AV p1),(2,.func (.func 116) #[] #[]),(8,vI (p0.length:Int)),(9,vI x.2.1),(10,vI x.2.2)]) (fun x=>H) (fun x=>x.1) (fun x D h=>?_) (n,0,(p0.length:Int)) h) tL) (BR [] 0 E E E)
 obtain⟨m1,a2,a3⟩:=x
 dsimp only at h
 rcases m1 with _ | m1
 cases (show(none:Option _)=some r from h)
 replace h:CN p0 p1 (CS p0 p1 m1) a2 a3=some r:=h
 unfold CN at h
 try dsimp only
 refine AH (Y (J E (J E (Z E BA (V ?_)))))
 refine AN h E (fun hc1 h=>?_) fun hc1 h=>?_
 refine AJ (AI (AQ (Y ?_)))
 obtain⟨x1,ex1,h⟩:=Bz h
 refine J E (J E (Z E Bf (BF E E (Es I9 PJ) ?_)))
 refine Z E (FO.shr64 (n:=1)) ?_
 refine BF E E (mR PJ I9) ?_
 refine Ak (u:=vI x1) E E (congrArg vI ex1) ?_
 refine V (Y ?_)
 refine AE h fun x2 hx2 h=>?_
 refine AE h fun y1 hy1 h=>?_
 refine J E (J E (J E ?_))
 refine C9 hx2 hs0_ E C3 Dh E E fun be1 of1 hc2=>?_
 refine As (AW x2) E HG E E (DS hc2) (J E (AP 0 gC ((QH hy1 :)) E (Z E BA (V ?_))))
 refine AN h E (fun hc3 h=>?_) fun hc3 h=>?_
 refine AS ?_
 obtain⟨i_1,ei_1,h⟩:=Bz h
 refine J E (Z E Bf ?_)
 refine Ak (u:=vI i_1) E E (congrArg vI ei_1) ?_
 refine Aa (An ?_)
 exact Av (m1,i_1,a3) h (Nat.lt_succ_self _) tL (BR [] 0 E E E)
 refine AS (J E (U E (Aa (An ?_))))
 exact Av (m1,a2,x1) h (Nat.lt_succ_self _) tL (BR [] 0 E E E)
 refine Ay (A6 (Ba (A9 ?_)))
 exact Ap a2 h tL (BR [] 0 E E E)
 unfold CR at h
 try dsimp only
 refine Y ?_
 refine AE h fun y3 hy3 h=>?_
 refine J E (J E (J E (Z E BA (J E ?_))))
 refine FR 39 9 48 hy3 E (fun hb hg1 k=>?_) (fun hb k=>?_) ?_
 obtain⟨x3,hx3,hg1⟩:=Ek hg1
 obtain⟨y2,hy2,hg1⟩:=Ek hg1
 obtain rfl:=zI hg1
 refine J E (J E (J E ?_))
 refine C9 hx3 hs0_ E C3 Dh E E fun be2 of2 hc4=>?_
 refine As (AW x3) E HG E E (DS hc4) (J E (AP 0 gC ((QH hy2 :)) E (Z E Bg (Ai E E E ?_))))
 exact k.mono tL
 refine AD E (AD E (AD E (AD E (AD E (AD E (AD E (AD E ?_)))))))
 refine Ai E E E ?_
 exact k.mono tL
 refine U E (U E (V (AL ?_)))
 obtain rfl:=zI h
 exact AX [] 0 E E E
def IJ(n:Nat)(p0:List Ao)(p1:UInt64):Option (Int×Bool):=
 (Co n p0 p1).bind fun y1=>
 some (y1.1,y1.2)
theorem Ru{n:Nat}{DB:Value}{p0:List Ao}{p1:UInt64}{r:Int×Bool}(h:IJ n p0 p1=some r)(hs0_:B9 K w0 AW 4 DB p0):zC K w0 79 [DB,AV p1] [] H (fun u M=>u=.tuple #[vI r.1,vB r.2]∧M=[]):=by
 unfold IJ at h
 refine Td.enter Tryz.func79 rfl rfl ?_
 refine Y (U E (U E (V (Y ?_))))
 refine AE h fun y1 hy1 h=>?_
 refine J E (J E (AP 0 nB (HF hy1 hs0_) E (Ae E E E (Ae E E E (U E (U E (V (AL ?_))))))))
 obtain rfl:=zI h
 exact AX [] 0 E E E
def Hf(p0:H9)(y1:List UInt8):Option Int:=
 (Fd (⟨p0.id,p0.x,p0.y,y1⟩:Ao)).bind fun y2=>
 cond (!y2)
 (
  some 80)
 (
  some 0)
def J8(p0:H9):Option Int:=
 ret (decide (p0.kind=3)) fun x1=>
 cond x1
 (
  some 0)
 (
  ret (decide (p0.kind=2)) fun x2=>
  cond x2
  (
   Hf p0 [])
  (
   ret (decide (p0.kind=1)) fun x3=>
   cond x3
   (
    Hf p0 p0.txt)
   (
    some 2)))
theorem XB{p0:H9}{r:Int}(h:J8 p0=some r): zC K w0 112 [.agg (B7 p0).toArray] [] H (fun u M=>u=vI r∧M=[]):=by
 unfold J8 at h
 refine Td.enter Tryz.func112 rfl rfl ?_
 refine Y ?_
 refine Bc E E zU fun b1=>?_
 refine U rfl (V (Y (AF rfl aS (As [AV p0.id,AA p0.x,AA p0.y,vS p0.txt] rfl HG rfl rfl (Cp 0 rfl (by rintro(_ | (_ | (_ | (_ | j)))) u hj<;>first | exact hj | exact absurd hj zS)) ?_))))
 refine Am E HH zU fun b2=>?_
 refine A8 0 E E E E Dh E E E zT (V (AH (Y (AF E Wi (AG 1 FJ E (V (AQ ?_)))))))
 refine BB (α:=List UInt8) (fun x=>Hf p0 x=some r) (fun x=>[(3,vP b2 0)]) (fun x=>AK b2 (.cells #[AV p0.id,AA p0.x,AA p0.y,vS x] 35)::H) ?_ (fun y1 D h=>?_)
 refine AQ (AH (AQ (AH (AQ (AH (AH (Y ?_)))))))
 obtain⟨x1,ex1,h⟩:=Bz h
 refine Z E Bg ?_
 refine Ak (u:=vB x1) E E (congrArg vB ex1) ?_
 refine V ?_
 refine AN h E (fun hc1 h=>?_) fun hc1 h=>?_
 refine Ay (A6 (A6 (A9 (AI (AH (Y (U E (V (AL (Ac (BC (Ac (BC (GZ (BC (Ac ?_))))))))))))))))
 obtain rfl:=zI h
 exact AX [] 2 E E E
 refine AJ (AI (AH (Y ?_)))
 obtain⟨x2,ex2,h⟩:=Bz h
 refine Z E Bg ?_
 refine Ak (u:=vB x2) E E (congrArg vB ex2) ?_
 refine V ?_
 refine AN h E (fun hc2 h=>?_) fun hc2 h=>?_
 refine Ay (A6 (A6 (HV (A6 (A9 (AI (AS (AF E OS (A8 0 E E E E GD E E E zT (Aa (An ?_)))))))))))
 exact Ap [] h tL (BR [0] 2 E E E)
 refine AJ (AI (Y ?_))
 obtain⟨x3,ex3,h⟩:=Bz h
 refine Z E Bg ?_
 refine Ak (u:=vB x3) E E (congrArg vB ex3) ?_
 refine V ?_
 refine AN h E (fun hc3 h=>?_) fun hc3 h=>?_
 refine Ay (A6 (HV (A6 (HV (A6 (A9 ?_))))))
 exact Ap p0.txt h tL (BR [0] 2 E E E)
 refine AJ (AI (Ay (HV (A6 (HV (A6 (HV (iN (A9 (AI (Y (U E (V (AL ?_))))))))))))))
 obtain rfl:=zI h
 exact AX [] 2 E E E
 unfold Hf at h
 try dsimp only
 refine AH (AH (Y ?_))
 refine AE h fun y2 hy2 h=>?_
 refine As [AV p0.id,AA p0.x,AA p0.y,vS y1] E HG E E (Aj 0 E) (AP 0 gB ((QI hy2 :)) E (CY E E (V ?_)))
 refine AN h E (fun hc4 h=>?_) fun hc4 h=>?_
 refine Y (U E (V (AL (Ac (Ac (BC (Ac ?_)))))))
 obtain rfl:=zI h
 exact AX [] 1 E E E
 refine AJ (AI (Y (U E (V (AL (Ac (BC (Ac ?_))))))))
 obtain rfl:=zI h
 exact AX [] 1 E E E
def He(p0:List Ao)(a1:Int)(l2:List Ao):Option (List Ao×Int):=
 (Im p0 a1 (p0.length:Int)).bind fun l4=>
 (DK 32 l2 l4).bind fun l5=>
 some (l5,0)
def E8(p0:List Ao)(p1:H9)(y3:Int×Bool)(a1:Int)(y4:List UInt8):Option (List Ao×Int):=
 (Im p0 0 y3.1).bind fun l1=>
 (PZ l1).bind fun y5=>
 cond (!decide (p1.kind=3))
 (
  (DK 32 y5 [(⟨p1.id,p1.x,p1.y,y4⟩:Ao)]).bind fun l3=>
  He p0 a1 l3)
 (
  He p0 a1 y5)
def DY(n:Nat)(p0:List Ao)(p1:H9):Option (List Ao×Int):=
 (Fh n p0).bind fun y1=>
 cond (!y1)
 (
  some ([],80))
 (
  (J8 p1).bind fun y2=>
  cond (!decide (y2=0))
  (
   some ([],y2))
  (
   (IJ n p0 p1.id).bind fun y3=>
   ret ((!y3.2)&&(!decide (p1.kind=1))) fun x1=>
   cond x1
   (
    some ([],100))
   (
    ret ((!y3.2)&&(decide ((p0.length:Int)=1000))) fun x2=>
    cond x2
    (
     some ([],82))
    (
     cond y3.2
     (
      ret (wI (y3.1+1)) fun x3=>
      (BE p0 y3.1).bind fun x4=>
      cond ((decide (p1.kind=2))&&(!(decide (x4.id=p1.id)&&(decide (x4.x=p1.x)&&(decide (x4.y=p1.y)&&(decide (x4.txt=p1.txt)&&true))))))
      (
       E8 p0 p1 y3 x3 x4.txt)
      (
       E8 p0 p1 y3 x3 p1.txt))
     (
      E8 p0 p1 y3 y3.1 p1.txt)))))
theorem XA{n:Nat}{DB:Value}{p0:List Ao}{p1:H9}{r:List Ao×Int}(h:DY n p0 p1=some r)(hs0_:B9 K w0 AW 4 DB p0):zC K w0 76 [DB,.agg (B7 p1).toArray] [] H (fun u M=>∃v0:Value,u=.tuple #[v0,vI r.2]∧M=[AC 35 4 v0 AW r.1]):=by
 unfold DY at h
 refine Td.enter Tryz.func76 rfl rfl ?_
 refine Y ?_
 refine Bc E E zU fun b1=>?_
 refine B8 35 4 AW (U E (U E (V (AH (Y ?_)))))
 refine AE h fun y1 hy1 h=>?_
 refine J E (AP 0 XR (LJ hy1 hs0_) E (CY E E (V ?_)))
 refine AN h E (fun hc1 h=>?_) fun hc1 h=>?_
 refine Y (B8 35 4 AW (U E (U E (V (AL (Ac ?_))))))
 obtain rfl:=zI h
 exact Bi [0] 3 (ER E E E) E E ⟨(.slice none 0 0),E,E⟩
 refine AJ (AI (AH (Y ?_)))
 refine AE h fun y2 hy2 h=>?_
 refine As [vI p1.kind,AV p1.id,AA p1.x,AA p1.y,vS p1.txt] E UK E E (Aj 1 E) (AP 0 m0 ((XB hy2 :)) E (U E (V (Y (J E (Z E BO (V ?_)))))))
 refine AN h E (fun hc2 h=>?_) fun hc2 h=>?_
 refine Y (J E (B8 35 4 AW (U E (U E (V (AL (Ac ?_)))))))
 obtain rfl:=zI h
 exact Bi [0] 3 (ER E E E) E E ⟨(.slice none 0 0),E,E⟩
 refine AJ (AI (Y ?_))
 refine AE h fun y3 hy3 h=>?_
 refine J E (AF E aS (AF E Pc (AG 1 G7 E (AP 0 kc (Ru hy3 hs0_) E (J E (Ae E E E (Ae E E E ?_)))))))
 refine U E (U E (V (AH (AQ (Y ?_)))))
 obtain⟨x1,ex1,h⟩:=Bz h
 refine J E (CY E E (J E ?_))
 refine Cj (c := !decide (p1.kind=1)) 32 4 36 E (fun hb k=>?_) (fun hb k=>?_) ?_
 refine AF E Wi (AG 1 FJ E (Z E BO (Ai E E E ?_)))
 exact k.mono tL
 refine AD E (AD E (AD E (Ai E E E ?_)))
 exact k.mono tL
 refine Ak (u:=vB x1) E E (congrArg vB ex1) ?_
 refine V ?_
 refine AN h E (fun hc3 h=>?_) fun hc3 h=>?_
 refine Y (B8 35 4 AW (U E (U E (V (AL (BC (Ac ?_)))))))
 obtain rfl:=zI h
 exact Bi [0] 3 (ER E E E) E E ⟨(.slice none 0 0),E,E⟩
 refine Y ?_
 obtain⟨x2,ex2,h⟩:=Bz h
 refine J E (CY E E (J E ?_))
 refine Cj (c:=decide ((p0.length:Int)=1000)) 40 4 44 E (fun hb k=>?_) (fun hb k=>?_) ?_
 refine J E (B2 hs0_ E C3 E (Z E Bg (Ai E E E ?_)))
 exact k.mono tL
 refine AD E (AD E (AD E (Ai E E E ?_)))
 exact k.mono tL
 refine Ak (u:=vB x2) E E (congrArg vB ex2) ?_
 refine V ?_
 refine AN h E (fun hc4 h=>?_) fun hc4 h=>?_
 refine Y (B8 35 4 AW (U E (U E (V (AL (BC (Ac ?_)))))))
 obtain rfl:=zI h
 exact Bi [0] 3 (ER E E E) E E ⟨(.slice none 0 0),E,E⟩
 refine AJ (An (AI (Y (J rfl (U rfl (V (Y (AF rfl aS (As [AV p1.id,AA p1.x,AA p1.y,vS p1.txt] rfl HG rfl rfl (Cp 1 rfl (by rintro(_ | (_ | (_ | (_ | j)))) u hj<;>first | exact hj | exact absurd hj zS)) ?_)))))))))
 refine Am E HH zU fun b2=>?_
 refine A8 0 E E E E Dh E E E zT (V ?_)
 refine BB (α:=Int×List UInt8) (fun x=>E8 p0 p1 y3 x.1 x.2=some r) (fun x=>[(0,DB),(3,vP b1 0),(7,vI y3.1),(9,vI x.1),(10,vP b2 0)]) (fun x=>AK b1 (.cells #[vI p1.kind,AV p1.id,AA p1.x,AA p1.y,vS p1.txt] 83)::AK b2 (.cells #[AV p1.id,AA p1.x,AA p1.y,vS x.2] 35)::H) ?_ (fun x D h=>?_)
 refine Y (J E (V ?_))
 refine AN h E (fun hc5 h=>?_) fun hc5 h=>?_
 refine Y ?_
 obtain⟨x3,ex3,h⟩:=Bz h
 refine J E (Z E Bf ?_)
 refine Ak (u:=vI x3) E E (congrArg vI ex3) ?_
 refine V (Y ?_)
 refine AE h fun x4 hx4 h=>?_
 refine J E (J E ?_)
 refine C9 hx4 hs0_ E C3 Dh E E fun be1 of1 hc6=>?_
 refine As (AW x4) E HG E E (DS hc6) ?_
 refine Am E HH zU fun b3=>?_
 refine A8 0 E E E E Dh E E E zT (V ?_)
 refine dy [(0,DB),(3,vP b1 0),(7,vI y3.1),(9,vI x3),(10,vP b2 0),(11,vP b3 0)] (AK b3 (.cells #[AV x4.id,AA x4.x,AA x4.y,vS x4.txt] 35)::AK b2 (.cells #[AV p1.id,AA p1.x,AA p1.y,vS p1.txt] 35)::AC 35 4 zN AW []::AK b1 (.cells #[vI p1.kind,AV p1.id,AA p1.x,AA p1.y,vS p1.txt] 83)::H) ?_ tL
 refine Y (AF E Wi (AG 3 FJ E (Z E Bg (J E ?_))))
 refine Cj (c := !(decide (x4.id=p1.id)&&(decide (x4.x=p1.x)&&(decide (x4.y=p1.y)&&(decide (x4.txt=p1.txt)&&true))))) 58 4 62 E (fun hb k=>?_) (fun hb k=>?_) ?_
 refine As [AV x4.id,AA x4.x,AA x4.y,vS x4.txt] E HG E E (Aj 0 E) (As [AV p1.id,AA p1.x,AA p1.y,vS p1.txt] E HG E E (Aj 1 E) ?_)
 refine Yl E pV E E (Cd E E (aK (a:=x4.id) (b:=p1.id)) (Cd E E (Jl (a:=x4.x) (b:=p1.x)) (Cd E E (Jl (a:=x4.y) (b:=p1.y)) (Cd E E (SE (a:=x4.txt) (b:=p1.txt)) I2)))) ?_
 refine Ai E E E ?_
 exact k.mono tL
 refine AD E (AD E (AD E (Ai E E E ?_)))
 exact k.mono tL
 refine V ?_
 refine AN h E (fun hc7 h=>?_) fun hc7 h=>?_
 refine AS (AF E OS (AG 0 Fx E (AF E OS (A8 1 E E E E GD E E E zT (Aa ?_)))))
 exact Ap (x3,x4.txt) h tL (BR [3,1] 4 E E E)
 refine AJ ?_
 exact Ap (x3,p1.txt) h tL (BR [3,1] 4 E E E)
 refine AJ ?_
 exact Ap (y3.1,p1.txt) h tL (BR [2,0] 3 E E E)
 obtain⟨a1,y4⟩:=x
 dsimp only at h
 unfold E8 at h
 try dsimp only
 refine Y ?_
 refine AE h fun l1 hl1 h=>?_
 refine AE h fun y5 hy5 h=>?_
 refine J E (J E (J E ?_))
 refine jq hl1 hs0_ E C3 Dh E E E fun v1 hs1=>?_
 refine Bd (vs:=[_]) (Hin:=[]) (Hr:=_::_::_) E E ⟨E,zT⟩ eO E E (YH hy5 hs1) ?_
 rintro v2 _ ⟨_,rfl,rfl⟩
 refine⟨trivial,?_⟩
 refine U E (V ?_)
 refine BB (α:=List Ao×Value) (fun x=>He p0 a1 x.1=some r) (fun x=>[(0,DB),(9,vI a1),(12,x.2)]) (fun x=>AC 35 4 x.2 AW x.1::H) ?_ (fun x D h=>?_)
 refine Y (AF E Wi (AG 1 FJ E (Z E BO (V ?_))))
 refine AN h E (fun hc8 h=>?_) fun hc8 h=>?_
 refine AS ?_
 refine AE h fun l3 hl3 h=>?_
 refine J E (As [AV p1.id,AA p1.x,AA p1.y,vS y4] E HG E E (Aj 2 E) ?_)
 refine CD [_] rfl C3 Dh HH ⟨rfl,trivial⟩ rfl rfl rfl zW rfl rfl zU fun b4=>?_
 refine CF AW 4 ([(⟨p1.id,p1.x,p1.y,y4⟩:Ao)]:List Ao) E zV E ?_
 refine Cr 1 hl3 (sz:=4) (enc:=AW) zV E C3 Dh W7 HH E zD E E E E (CH (sz:=4) (enc:=AW) 0 zV E) (by simp[AW,Value.oneCell']) zU fun v4=>?_
 refine U E (Aa ?_)
 exact Ap (l3,v4) h tL (BR [1] 4 E E E)
 refine AJ ?_
 exact Ap (y5,v2) h tL (BR [0] 3 E E E)
 obtain⟨l2,v3⟩:=x
 dsimp only at h
 unfold He at h
 try dsimp only
 refine Y ?_
 refine AE h fun l4 hl4 h=>?_
 refine AE h fun l5 hl5 h=>?_
 refine J E (J E (J E ?_))
 refine bz hl4 hs0_ E C3 Dh E E fun v5 hs2=>?_
 refine Rj 0 hl5 hs2 (sz:=4) (enc:=AW) zV E C3 Dh W7 HH E zD E E E (by simp[AW,Value.oneCell']) zU fun v6=>?_
 refine U E (U E (V (AL ?_)))
 obtain rfl:=zI h
 exact Bi [0] 1 (ER E E E) E E ⟨v6,E,E⟩
def Is(n:Nat)(p0:List Ao)(p1:UInt64):Option (Ao×Int):=
 (Fh n p0).bind fun y1=>
 cond (!y1)
 (
  some ((⟨0,0,0,[]⟩:Ao),80))
 (
  (IJ n p0 p1).bind fun y2=>
  cond (!y2.2)
  (
   some ((⟨0,0,0,[]⟩:Ao),100))
  (
   (BE p0 y2.1).bind fun x1=>
   some (x1,0)))
theorem Zn{n:Nat}{DB:Value}{p0:List Ao}{p1:UInt64}{r:Ao×Int}(h:Is n p0 p1=some r)(hs0_:B9 K w0 AW 4 DB p0):zC K w0 54 [DB,AV p1] [] H (fun u M=>u=.tuple #[.agg (AW r.1).toArray,vI r.2]∧M=[]):=by
 unfold Is at h
 refine Td.enter Tryz.func54 rfl rfl ?_
 refine Y ?_
 refine Am E HH zU fun b1=>?_
 refine U E (V (AH (Y ?_)))
 refine AE h fun y1 hy1 h=>?_
 refine J E (AP 0 XR (LJ hy1 hs0_) E (CY E E (V ?_)))
 refine AN h E (fun hc1 h=>?_) fun hc1 h=>?_
 refine Y (CB [] E dF dE HH zT E (A8 0 E E E E Dh E E E zT (U E (V (AL (Ac ?_))))))
 obtain rfl:=zI h
 exact Ag (D7 E (CC 0 (AW (⟨0,0,0,[]⟩:Ao)) HG E E E E) E) (Af (M:=[]) ⟨E,E⟩ fun _ hw=>BW.pick (H:=[_]) hw [] 1 E)
 refine AJ (AI (Y ?_))
 refine AE h fun y2 hy2 h=>?_
 refine J E (J E (AP 0 kc (Ru hy2 hs0_) E (J E (Ae E E E (Ae E E E (U E (U E (V (AH (Y ?_))))))))))
 refine J E (CY E E (V ?_))
 refine AN h E (fun hc2 h=>?_) fun hc2 h=>?_
 refine Y (CB [] E dF dE HH zT E (A8 0 E E E E Dh E E E zT (U E (V (AL (Ac ?_))))))
 obtain rfl:=zI h
 exact Ag (D7 E (CC 0 (AW (⟨0,0,0,[]⟩:Ao)) HG E E E E) E) (Af (M:=[]) ⟨E,E⟩ fun _ hw=>BW.pick (H:=[_]) hw [] 1 E)
 refine AJ (AI (Y ?_))
 refine AE h fun x1 hx1 h=>?_
 refine J E (J E ?_)
 refine C9 hx1 hs0_ E C3 Dh E E fun be1 of1 hc3=>?_
 refine As (AW x1) E HG E E (DS hc3) (A8 0 E E E E Dh E E E zT (U E (V (AL ?_))))
 obtain rfl:=zI h
 exact Ag (D7 E (CC 0 (AW x1) HG E E E E) E) (Af (M:=[]) ⟨E,E⟩ fun _ hw=>BW.pick (H:=[_]) hw [] 1 E)
end

section
variable {K:Nat→Prop}{w0:World}{H:List AY}
abbrev PT:=Nat×Option (Value×List Ao)
def YB(v0:Value)(s:PT):Value:=s.2.elim v0 (·.1)
def Ve(p0:List Ao)(s:PT):List Ao:=s.2.elim p0 (·.2)
def PO(s:PT):AY:=AC 35 4 (YB (.slice none 0 0) s) AW (Ve [] s)
def aJ(x:Value×Int):List Value:=[x.1,vI x.2]
def sH(n:Nat)(p0:List Ao)(ops:List H9)(s:PT)(x:Value×Int)(s':PT):Prop:=∃o m,ops[s.1]? = some o∧DY n (Ve p0 s) o=some (m,x.2)∧s'=(s.1+1,some (x.1,m))
def sG(n:Nat)(p0:List Ao)(ops:List H9)(s:PT):Prop:=∀o,ops[s.1]? = some o→∃r,DY n (Ve p0 s) o=some r
theorem d8{n:Nat}{v0:Value}{p0:List Ao}{s:PT}{o:H9}{r:List Ao×Int}(h:DY n (Ve p0 s) o=some r)(hs0:B9 K w0 AW 4 v0 p0):zC K w0 76 [YB v0 s,.agg (B7 o).toArray] [PO s] H (fun u M=>∃v:Value,u=.tuple #[v,vI r.2]∧M=[PO s,AC 35 4 v AW r.1]):=by
 refine Td.mono (Cm (B:=[PO s]) (Hin:=[]) (fun K' w1 hk hB=>XA h ?_)) ?_
 obtain⟨k,_ | ⟨v,m⟩⟩:=s
 exact hs0.keeps hk
 exact CT (e:=35) (v:=v) zV (hB _ (by simp[PO,YB,Ve]))
 rintro _ _ ⟨_,rfl,v,rfl,rfl⟩
 exact⟨v,rfl,rfl⟩
theorem lO{n:Nat}{v0 vo:Value}{p0:List Ao}{ops:List H9}(hs0:B9 K w0 AW 4 v0 p0)(hs1:B9 K w0 B7 5 vo ops)(hl:ops.length≤1000000)(bo bl:Nat):
  ZV Tryz.prog K w0 114 [vP bo 0,vP bl 0] [AK bo (.cells #[vo] 74),AK bl (.cells #[v0] 37)] aJ (fun s=>[PO s]) (sH n p0 ops) (fun s=>ops.length≤s.1) (sG n p0 ops) (0,none):=by
 intro lp J9 X T rc G0 hy hdef h0
 refine Td.enter Tryz.func114 rfl rfl ?_
 show SX _ _ _ _ _ _ _ _ _ (AK bo (.cells #[vo] 74)::AK bl (.cells #[v0] 37)::PO (0,none)::((rc::G0)++T))
 refine SX.pick [2,0,1] 3 (Y (AG 1 ZG E (B2 hs1 E RV E (J E (V (AQ ?_))))))
 refine SX.mono (BG (α:=PT×List AY) (fun x=>J9 x.1 x.2) (fun x=>[(0,vY lp),(1,vP bo 0),(2,vP bl 0),(8,vo),(9,vI (ops.length:Int)),(10,vI x.1.1)])
  (fun x=>PO x.1::AK bo (.cells #[vo] 74)::AK bl (.cells #[YB v0 x.1] 37)::(x.2++T)) (fun x=>ops.length-x.1.1) (fun x D hp=>?_) ((0,none),rc::G0) h0) tL
 obtain⟨s,G⟩:=x
 have hJ:J9 s G:=hp
 clear hp
 dsimp only
 refine Y (Z E BA (V (AH ?_)))
 refine Ax E (fun hc1=>?_) (fun hc1=>?_)
 have hlt:s.1<ops.length:=by
  have:=of_decide_eq_true hc1
  omega
 clear hc1
 obtain⟨o,ho⟩:∃o,ops[s.1]? = some o:=⟨_,List.getElem?_eq_getElem hlt⟩
 obtain⟨r,hr⟩:=hdef _ _ hJ o ho
 have hn:BE ops ((s.1:Nat):Int)=some o:=by rw[Ez];exact ho
 refine AJ (AI (AH (AQ (Y ?_))))
 refine C9 hn hs1 E RV YC E E fun be of hc=>?_
 refine As (B7 o) E UK E E (DS hc) ?_
 refine Am E ZO zU fun b0=>?_
 refine A8 0 E E E E YC E E E zT (V (Y (AG 3 FY E (As (B7 o) E UK E E (Aj 0 E) (SL.pick [1,0] 2 (BS 1 eR (d8 hr hs0) E ?_))))))
 rintro _ _ ⟨v1,rfl,rfl⟩
 refine J E (Ae E E E (Ae E E E (U E (U E (V (SX.pick [0,2,3,4,1] 5 (AH (Y (J E (J E ?_))))))))))
 refine J E ?_
 refine HU (M2:=[_,_,_,_]) (G:=PO (s.1+1,some (v1,r.1))::G) (T:=T) (vs:=[_,_]) (ok:=fun G1=>∃G2,G1=PO (s.1+1,some (v1,r.1))::G2∧J9 (s.1+1,some (v1,r.1)) G2) (no:=X) E E ⟨E,E,zT⟩ E ?_ (fun bb G1 hG1=>⟨zT,?_⟩)
 intro M
 exact hy s (v1,r.2) (s.1+1,some (v1,r.1)) ⟨o,r.1,ho,hr,rfl⟩ G hJ M
 refine CY E E (V ?_)
 refine Ax E (fun hc3=>?_) (fun hc3=>?_)
 obtain rfl:bb=false:=by simpa using hc3
 refine AL (Ac (BC (Ac (EE (BC ?_)))))
 exact Ag (Dg E) (Af (M:=G1) (.inr hG1) fun _ h=>h.skip [_,_,_,_])
 obtain rfl:bb=true:=by simpa using hc3
 obtain⟨G2,rfl,hJ2⟩:=hG1
 refine AJ (AI (AS (J E ?_)))
 refine C1 4 E fun hv1 ho1=>?_
 refine Du 3 E E E E JR hv1 ho1 E zT (Aa (An (AI (AS (Z E (Be zO zO) (J E (Aa ?_)))))))
 exact Av ((s.1+1,some (v1,r.1)),G2) hJ2 (by dsimp only;omega) tL (BR [4,2,3] 5 E E E)
 have hge:ops.length≤s.1:=by simpa using hc1
 refine Ay (A6 (Ba (A9 ?_)))
 exact DE (Dg E) (Af (M:=PO s::G) (.inl ⟨s,G,hge,E,hJ⟩) fun _ hw=>BW.pick (H:=[_,_,_]) hw [0] 3 E)
theorem mG{v0 v1:Value}{p0:List Ao}{ops:List H9}(hs0:B9 K w0 AW 4 v0 p0)(hs1:B9 K w0 B7 5 v1 ops):zC K w0 78 [v0,v1] [] H (fun u M=>∃bo bl:Nat,u=.func (.func 114) #[] #[vP bo 0,vP bl 0]∧M=[AK bo (.cells #[v1] 74),AK bl (.cells #[v0] 37)]):=by
 refine Td.enter Tryz.func78 rfl rfl ?_
 refine Y ?_
 refine QB hs0 fun hv0 ho0=>?_
 refine Wo hv0 E E zU fun b0=>?_
 refine QB hs1 fun hv1 ho1=>?_
 refine Wo hv1 E E zU fun b1=>?_
 refine U E (V (Y ?_))
 refine G8 (fv:=#[]) (cv:=#[_,_]) E E E ?_
 refine U E (V (AL ?_))
 exact Bi [0,1] 2 (Cl E E) E E ⟨_,_,E,E⟩
def PU(n:Nat):List H9→List Ao→Int→Option (List Ao×Int×Int)
 | [],cur,_=>some (cur,0,0)
 | o::r,cur,at_=>(DY n cur o).bind fun y=>cond (decide (y.2=0)) (PU n r y.1 (at_+1)) (some ([],at_,y.2))
def Sw(n:Nat)(l:List Ao)(ops:List H9):Option (List Ao×Int×Int):=(Fh n l).bind fun y=>cond (!y) (some ([],0,80)) (cond (decide ((ops.length:Int)=0)||decide (64<(ops.length:Int))) (some ([],0,101)) (PU n ops l 0))
theorem jM{s:PT}(h:s.2≠none)(v0:Value)(p0:List Ao):PO s=AC 35 4 (YB v0 s) AW (Ve p0 s):=by
 obtain⟨k,_ | ⟨v,m⟩⟩:=s
 exact absurd rfl h
 rfl
theorem kH{n:Nat}{v0 v1:Value}{p0:List Ao}{ops:List H9}{r:List Ao×Int×Int}(h:Sw n p0 ops=some r)(hs0:B9 K w0 AW 4 v0 p0)(hs1:B9 K w0 B7 5 v1 ops):zC K w0 53 [v0,v1] [] H (fun u M=>∃v:Value,u=.tuple #[v,vI r.2.1,vI r.2.2]∧M=[AC 35 4 v AW r.1]):=by
 unfold Sw at h
 refine Td.enter Tryz.func53 rfl rfl ?_
 refine Y (U E (U E (U E (V (Kd (AH (AQ (Y ?_))))))))
 refine AE h fun y1 hy1 h=>?_
 refine J E (AP 0 XR (LJ hy1 hs0) E (CY E E (U E (V ?_))))
 refine AN h E (fun hc1 h=>?_) fun hc1 h=>?_
 refine Y (U E (U E (U E (V (AL (BC (Ac (EM ?_))))))))
 obtain rfl:=zI h
 refine Oi 35 4 AW ?_
 exact Bi [0] 1 (X3 E E E E) E E ⟨_,E,E⟩
 refine Y (J E (B2 hs1 E RV E (Z E Bg (J E ?_))))
 refine E3 (c:=decide (64<(ops.length:Int))) 20 4 24 E (fun hb k=>?_) (fun hb k=>?_) ?_
 refine AD E (AD E (AD E (Ai E E E ?_)))
 exact k.mono tL
 refine J E (B2 hs1 E RV E (Z E Cq (Ai E E E ?_)))
 exact k.mono tL
 refine U E (V ?_)
 refine AN h E (fun hc2 h=>?_) fun hc2 h=>?_
 refine Y (U E (U E (U E (V (AL (BC (Ac (EM ?_))))))))
 obtain rfl:=zI h
 refine Oi 35 4 AW ?_
 exact Bi [0] 1 (X3 E E E E) E E ⟨_,E,E⟩
 have hl:0<ops.length∧ops.length≤64:=by
  simp only[Bool.or_eq_false_iff,decide_eq_false_iff_not]at hc2
  omega
 refine AJ (An (AI (Y ?_)))
 refine Am E pP zU fun b0=>?_
 refine A8 0 E E E E PI E E E zT (V (Y (J E ?_)))
 refine Am E dm zU fun b1=>?_
 refine QB hs0 fun hv0 ho0=>?_
 refine Du 0 E E E E JR hv0 ho0 E zT (V (Y ?_))
 refine Am E pb zU fun b2=>?_
 refine A8 0 E E E E dW E E E zT (V (AH (Kc (AI (AH (Y (J E (J E (B8 35 4 AW (BS 0 qZ (mG hs0 hs1) E ?_))))))))))
 rintro _ _ ⟨b3,b4,rfl,rfl⟩
 refine V (AQ ?_)
 refine UI (enc:=aJ) (C:=fun s=>[PO s]) (0,none) (G0:=AK b2 (.cells #[vI 0] 29)::AK b1 (.cells #[v0] 37)::AK b0 (.cells #[vI 0] 3)::H)
  (fun s G=>PU n (ops.drop s.1) (Ve p0 s) s.1=some r∧(s.2=none→s.1=0)∧G=AK b2 (.cells #[vI 0] 29)::AK b1 (.cells #[YB v0 s] 37)::AK b0 (.cells #[vI s.1] 3)::H)
  (fun c G=>c=.exit 1∧∃v:Value,r.2.2≠0∧r.1=[]∧G=AK b2 (.cells #[vI r.2.2] 29)::AK b1 (.cells #[v] 37)::AK b0 (.cells #[vI r.2.1] 3)::H)
  rfl nA rfl zV (lO (n:=n) hs0 hs1 zO _ _) rfl ⟨h,fun _=>rfl,rfl⟩ ?_ (fun s x s1 G hst hJ lr lp Rest=>?_) (fun s G D hds hJ=>?_) (fun c G D hX=>?_)
 rintro s G ⟨h,-,-⟩ o ho
 obtain⟨hlt,hg⟩:=List.getElem?_eq_some_iff.1 ho
 rw[List.drop_eq_getElem_cons hlt,hg,PU]at h
 obtain⟨y,hy,-⟩:=Ek h
 exact⟨y,hy⟩
 obtain⟨h,-,rfl⟩:=hJ
 obtain⟨o,m,ho,hm,rfl⟩:=hst
 obtain⟨v,e⟩:=x
 obtain⟨hlt,hg⟩:=List.getElem?_eq_some_iff.1 ho
 rw[List.drop_eq_getElem_cons hlt,hg,PU,hm]at h
 replace h:cond (decide (e=0)) (PU n (ops.drop (s.1+1)) m (s.1+1)) (some ([],(s.1:Int),e))=some r:=h
 refine Y (U E (V (AS (U E (Aa (Kb (AQ (AH (Y (J E (Z E BO (V ?_))))))))))))
 refine Ax E (fun hc3=>?_) (fun hc3=>?_)
 have he:e≠0:=by simpa using hc3
 rw[zf he,CE]at h
 obtain rfl:=zI h
 refine Y (J E (A8 1 E E E E dW E E E zT (V (Ay (A6 (HV ?_))))))
 exact Nm ⟨E,_,he,E,E⟩ (BR [1,2,3] 4 E E E)
 obtain rfl:e=0:=by simpa using hc3
 replace h:PU n (ops.drop (s.1+1)) m (s.1+1)=some r:=h
 refine AJ (AI (Y (J E ?_)))
 refine C1 0 E fun hv1 ho1=>?_
 refine Du 2 E E E E JR hv1 ho1 E zT (V (AS (AG 3 FJ E (Z E (Be zO zO) (A8 3 E E E E PI E E E zT (Aa (An ?_)))))))
 exact IE ⟨_,E,h,(fun e=>absurd e zS),E⟩ (BR [0,1,2,3] 4 E E E)
 obtain⟨h,hn,rfl⟩:=hJ
 rw[List.drop_eq_nil_of_le hds,PU]at h
 obtain rfl:=zI h
 have hs:s.2≠none:=fun e=>by
  have:=hn e
  omega
 refine SX.heap (H':=AC 35 4 (YB v0 s) AW (Ve p0 s)::AK b2 (.cells #[vI 0] 29)::AK b1 (.cells #[YB v0 s] 37)::AK b0 (.cells #[vI s.1] 3)::H) ?_ (fun _ hw=>by rw[←jM hs];exact hw) |> fun h=>An (AI h)
 refine AH (Y (AG 1 QT E (Z E BO (V (C0 E (AJ (AI (Y (AG 2 FY E (U E (U E (U E (V (AL (EM ?_)))))))))))))))
 exact Bi [0] 4 (X3 E E E E) E E ⟨_,E,E⟩
 obtain⟨rfl,v,he,hr,rfl⟩:=hX
 refine Ay (A9 (AI (AH (Y (AG 0 QT E (Z E BO (V ?_)))))))
 refine Ax E (fun hc5=>?_) (fun hc5=>absurd hc5 (by simp[he]))
 refine AH (Aw DG [0,2] (C4 [(true,0),(true,1),(true,2),(true,3),(true,4)]) zK (AG 1 FJ E (AG 0 QT E (U E (U E (U E (V (AL (Ac (EM (Oi 35 4 AW ?_)))))))))))
 exact Bi [0] 4 (X3 E E E E) E E ⟨_,E,by rw[hr]<;>rfl⟩
end

section
variable {K:Nat→Prop}{w0:World}{H:List AY}
abbrev RS(bf:Nat)(vo x1 x2 x3:Value):AY:=AK bf (.cells #[vo,x1,x2,x3] 80)
def sF(n:Nat)(v0:Value)(p0:List Ao)(ops:List H9)(s:PT)(x:Value×Int)(s':PT):Prop:=
 (s=(0,none)∧x=(v0,0)∧s'=(1,none))∨∃o m,s.1≠0∧ops[s.1-1]? = some o∧DY n (Ve p0 s) o=some (m,x.2)∧s'=(s.1+1,some (x.1,m))
def sE(n:Nat)(p0:List Ao)(ops:List H9)(s:PT):Prop:=s.1≠0→∀o,ops[s.1-1]? = some o→∃r,DY n (Ve p0 s) o=some r
theorem jR{bf:Nat}{v0:Value}{p0:List Ao}(hs0:B9 K w0 AW 4 v0 p0):zC K w0 75 [vP bf 0,v0] [] H (fun u M=>∃bl bb:Nat,u=.func (.func 111) #[] #[vP bl 0,vP bb 0]∧M=[AK bl (.cells #[v0] 37),AK bb (.cells #[vP bf 0] 123)]):=by
 refine Td.enter Tryz.func75 rfl rfl ?_
 refine Y ?_
 refine Bc E E zU fun b0=>?_
 refine QB hs0 fun hv0 ho0=>?_
 refine Wo hv0 E E zU fun b1=>?_
 refine U E (V (Y ?_))
 refine G8 (fv:=#[]) (cv:=#[_,_]) E E E ?_
 refine U E (V (AL ?_))
 exact Bi [0,1] 2 (Cl E E) E E ⟨_,_,E,E⟩
theorem jB{n bf:Nat}{v0 vo x1 x2 x3:Value}{p0:List Ao}{ops:List H9}(hs0:B9 K w0 AW 4 v0 p0)(hl:ops.length≤1000000)(bl bb:Nat):
  ZV Tryz.prog K w0 111 [vP bl 0,vP bb 0] [AK bl (.cells #[v0] 37),AK bb (.cells #[vP bf 0] 123)] aJ (fun s=>[PO s,RS bf vo x1 x2 x3,AC 83 5 vo B7 ops]) (sF n v0 p0 ops) (fun s=>ops.length+1≤s.1) (sE n p0 ops) (0,none):=by
 intro lp J9 X T rc G0 hy hdef h0
 refine Td.enter Tryz.func111 rfl rfl ?_
 show SX _ _ _ _ _ _ _ _ _ (AK bl (.cells #[v0] 37)::AK bb (.cells #[vP bf 0] 123)::PO (0,none)::RS bf vo x1 x2 x3::AC 83 5 vo B7 ops::((rc::G0)++T))
 refine AH (Y (J E (AG 0 FY E ?_)))
 refine HU (M2:=[_,_]) (G:=PO (1,none)::RS bf vo x1 x2 x3::AC 83 5 vo B7 ops::(rc::G0)) (T:=T) (vs:=[_,_]) (ok:=fun G1=>∃G2,G1=PO (1,none)::RS bf vo x1 x2 x3::AC 83 5 vo B7 ops::G2∧J9 (1,none) G2) (no:=X) E E ⟨E,E,zT⟩ E ?_ (fun bb0 G1 hG1=>⟨zT,?_⟩)
 intro M
 exact hy (0,none) (v0,0) (1,none) (.inl ⟨rfl,rfl,rfl⟩) (rc::G0) h0 M
 refine CY E E (V ?_)
 refine Ax E (fun hc1=>?_) (fun hc1=>?_)
 obtain rfl:bb0=false:=by simpa using hc1
 refine AL (Ac ?_)
 exact Ag (Dg E) (Af (M:=G1) (.inr hG1) fun _ h=>h.skip [_,_])
 obtain rfl:bb0=true:=by simpa using hc1
 obtain⟨G2,rfl,hJ2⟩:=hG1
 refine AJ (AI (SX.pick [2,3,4,0,1] 5 (Y (AG 4 rN E (AT E E (AF E Pf (AG 1 ZG E (DW 2 E RV E E (J E (V (AQ ?_)))))))))))
 refine SX.heap (SX.mono (BG (α:=PT×List AY) (fun x=>x.1.1≠0∧J9 x.1 x.2) (fun x=>[(0,vY lp),(1,vP bl 0),(15,vo),(16,vI (ops.length:Int)),(17,vI ((x.1.1-1:Nat):Int))])
  (fun x=>PO x.1::RS bf vo x1 x2 x3::AC 83 5 vo B7 ops::AK bl (.cells #[YB v0 x.1] 37)::(x.2++T)) (fun x=>ops.length+1-x.1.1) (fun x D hp=>?_) ((1,none),G2) ⟨by simp,hJ2⟩) tL) (BR [0,1,2,3] 5 rfl rfl rfl)
 obtain⟨s,G⟩:=x
 obtain⟨hs1,hJ⟩:s.1≠0∧J9 s G:=hp
 dsimp only
 refine Y (Z E BA (V (AH ?_)))
 refine Ax E (fun hc1=>?_) (fun hc1=>?_)
 have hlt:s.1-1<ops.length:=by
  have:=of_decide_eq_true hc1
  omega
 clear hc1
 obtain⟨o,ho⟩:∃o,ops[s.1-1]? = some o:=⟨_,List.getElem?_eq_getElem hlt⟩
 obtain⟨r,hr⟩:=hdef _ _ hJ hs1 o ho
 have hn:BE ops ((s.1-1:Nat):Int)=some o:=by rw[Ez];exact ho
 refine AJ (AI (AH (AQ (Y ?_))))
 refine CI 2 hn E RV YC E E E fun g m cp hv=>?_
 refine As (B7 o) E UK E E (MK (sz:=5) (enc:=B7) 2 zV E hv hn) ?_
 refine Am E ZO zU fun b0=>?_
 refine A8 0 E E E E YC E E E zT (V (Y (AG 4 FY E (As (B7 o) E UK E E (Aj 0 E) (SL.pick [1,0] 2 (BS 1 eR (d8 hr hs0) E ?_))))))
 rintro _ _ ⟨v1,rfl,rfl⟩
 refine J E (Ae E E E (Ae E E E (U E (U E (V (SX.pick [0,2,5,1,3,4] 6 (AH (Y (J E (J E ?_))))))))))
 refine J E ?_
 refine HU (M2:=[_,_,_]) (G:=PO (s.1+1,some (v1,r.1))::RS bf vo x1 x2 x3::AC 83 5 vo B7 ops::G) (T:=T) (vs:=[_,_]) (ok:=fun G1=>∃G2,G1=PO (s.1+1,some (v1,r.1))::RS bf vo x1 x2 x3::AC 83 5 vo B7 ops::G2∧J9 (s.1+1,some (v1,r.1)) G2) (no:=X) E E ⟨E,E,zT⟩ E ?_ (fun bb G1 hG1=>⟨zT,?_⟩)
 intro M
 exact hy s (v1,r.2) (s.1+1,some (v1,r.1)) (.inr ⟨o,r.1,hs1,ho,hr,rfl⟩) G hJ M
 refine CY E E (V ?_)
 refine Ax E (fun hc3=>?_) (fun hc3=>?_)
 obtain rfl:bb=false:=by simpa using hc3
 refine AL (Ac (BC (Ac (EE (BC ?_)))))
 exact Ag (Dg E) (Af (M:=G1) (.inr hG1) fun _ h=>h.skip [_,_,_])
 obtain rfl:bb=true:=by simpa using hc3
 obtain⟨G2,rfl,hJ2⟩:=hG1
 refine AJ (AI (AS (J E ?_)))
 refine C1 3 E fun hv1 ho1=>?_
 refine Du 2 E E E E JR hv1 ho1 E zT (Aa (An (AI (AS (Z E (Be zO zO) ?_)))))
 refine ji (v:=vI ((s.1+1-1:Nat):Int)) E (by rw[show((s.1+1-1:Nat):Int)=((s.1-1:Nat):Int)+1 by omega];rfl) ?_
 refine Aa ?_
 exact Av ((s.1+1,some (v1,r.1)),G2) ⟨by simp,hJ2⟩ (by dsimp only;omega) tL (BR [3,4,5,2] 6 E E E)
 have hge:ops.length+1≤s.1:=by
  have:=of_decide_eq_false hc1
  omega
 refine Ay (A6 (Ba (A9 ?_)))
 exact DE (Dg E) (Af (M:=PO s::RS bf vo x1 x2 x3::AC 83 5 vo B7 ops::G) (.inl ⟨s,G,hge,E,hJ⟩) fun _ hw=>BW.pick (H:=[_,_,_,_]) hw [0,1,2] 4 E)
def Jz(n:Nat):List H9→List Ao→Option (List Ao×Int)
 | [],cur=>some (cur,0)
 | o::r,cur=>(DY n cur o).bind fun y=>cond (decide (y.2=0)) (Jz n r y.1) (some ([],y.2))
def VB(n:Nat)(f:C6)(l:List Ao)(o:H9):Option (Int×C6):=
 cond (decide ((f.ops.length:Int)=64)) (some (101,f)) (cond (decide (f.ops.length≤1000000)) ((Jz n f.ops l).bind fun y=>cond (!decide (y.2=0)) (some (y.2,f)) ((DY n y.1 o).bind fun z=>cond (decide (z.2=0)) ((DK 40 f.ops [o]).bind fun l=>some (z.2,{ f with ops:=l })) (some (z.2,f)))) none)
theorem mq{n bf bs:Nat}{v0 vo:Value}{f:C6}{p0:List Ao}{o:H9}{r:Int×C6}(h:VB n f p0 o=some r)(hs0:B9 K w0 AW 4 v0 p0):
  zC K w0 51 [vP bf 0,v0,.agg (B7 o).toArray] [RS bf vo (vB f.isOpen) (vP bs 0) (vB f.closed),AC 83 5 vo B7 f.ops] H (fun u M=>∃v:Value,u=vI r.1∧M=[RS bf v (vB r.2.isOpen) (vP bs 0) (vB r.2.closed),AC 83 5 v B7 r.2.ops]):=by
 unfold VB at h
 refine Td.enter Tryz.func51 rfl rfl ?_
 refine Y ?_
 refine Bc E E zU fun b0=>?_
 refine U E (V (Kd (AH (Y (J E (AT E E (AF E Pf (AG 1 ZG E (DW 2 E RV E E (Z E Bg (V ?_)))))))))))
 refine AN h E (fun hc1 h=>?_) fun hc1 h=>?_
 refine Y (U E (V (AL (Ac (EM ?_)))))
 obtain rfl:=zI h
 exact Bi [1,2] 3 (Cl E E) E E ⟨_,E,E⟩
 have hl:f.ops.length≤1000000:=by
  rcases Nat.lt_or_ge 1000000 f.ops.length with hg | hg
  rw[zf zO,CE]at h
  cases h
  exact hg
 rw[zt hl,Cz]at h
 refine AE h fun y hy h=>?_
 refine AJ (AI (Y (J E ?_)))
 refine Am E dm zU fun b1=>?_
 refine QB hs0 fun hv0 ho0=>?_
 refine Du 0 E E E E JR hv0 ho0 E zT (V (Y ?_))
 refine Am E pb zU fun b2=>?_
 refine A8 0 E E E E dW E E E zT (V (AH (Kc (AI (SX.pick [3,4,0,1,2] 5 (AH (Y (J E (J E (B8 35 4 AW (BS 0 qY (jR hs0) E ?_)))))))))))
 rintro _ _ ⟨b3,b4,rfl,rfl⟩
 refine V (AQ ?_)
 refine UI (enc:=aJ) (C:=fun s=>[PO s,RS bf vo (vB f.isOpen) (vP bs 0) (vB f.closed),AC 83 5 vo B7 f.ops]) (0,none) (G0:=AK b2 (.cells #[vI 0] 29)::AK b1 (.cells #[v0] 37)::AK b0 (.cells #[vI o.kind,AV o.id,AA o.x,AA o.y,vS o.txt] 83)::H)
  (fun s G=>Jz n (f.ops.drop (s.1-1)) (Ve p0 s)=some y∧(s.1=0→s.2=none)∧G=AK b2 (.cells #[vI 0] 29)::AK b1 (.cells #[YB v0 s] 37)::AK b0 (.cells #[vI o.kind,AV o.id,AA o.x,AA o.y,vS o.txt] 83)::H)
  (fun c G=>c=.exit 0∧∃(s:PT) (v:Value),y.2≠0∧G=PO s::RS bf vo (vB f.isOpen) (vP bs 0) (vB f.closed)::AC 83 5 vo B7 f.ops::AK b2 (.cells #[vI y.2] 29)::AK b1 (.cells #[v] 37)::AK b0 (.cells #[vI o.kind,AV o.id,AA o.x,AA o.y,vS o.txt] 83)::H)
  rfl mz rfl zV (jB (n:=n) hs0 hl _ _) rfl ⟨hy,fun _=>rfl,rfl⟩ ?_ (fun s x s1 G hst hJ lr lp Rest=>?_) (fun s G D hds hJ=>?_) (fun c G D hX=>?_)
 rintro s G ⟨h,-,-⟩-o ho
 obtain⟨hlt,hg⟩:=List.getElem?_eq_some_iff.1 ho
 rw[List.drop_eq_getElem_cons hlt,hg,Jz]at h
 obtain⟨y,hy,-⟩:=Ek h
 exact⟨y,hy⟩
 obtain⟨h1,-,rfl⟩:=hJ
 obtain⟨v,e⟩:=x
 have hx:(e=0∧Jz n (f.ops.drop (s1.1-1)) (Ve p0 s1)=some y∧YB v0 s1=v∧v.cells=#[v]∧v.oneCell'=true∧s1.1≠0)∨(∃(m:List Ao) (k:Nat),e≠0∧s1=(k,some (v,m))∧y=([],e))∨(∃(m:List Ao) (k:Nat),e=0∧s1=(k+1,some (v,m))∧Jz n (f.ops.drop k) m=some y):=by
  rcases hst with⟨rfl,hx,rfl⟩ | ⟨o',m,h0,ho,hm,rfl⟩
  obtain⟨rfl,rfl⟩:=Prod.mk.inj hx
  exact .inl ⟨rfl,h1,rfl,hv0,ho0,by simp⟩
  obtain⟨hlt,hg⟩:=List.getElem?_eq_some_iff.1 ho
  rw[List.drop_eq_getElem_cons hlt,hg,Jz,hm]at h1
  replace h1:cond (decide (e=0)) (Jz n (f.ops.drop (s.1-1+1)) m) (some ([],e))=some y:=h1
  by_cases he:e=0
  rw[zt he,Cz,Nat.sub_add_cancel zO]at h1
  exact .inr (.inr ⟨m,s.1,he,rfl,h1⟩)
  rw[zf he,CE]at h1
  exact .inr (.inl ⟨m,s.1+1,he,rfl,(zI h1).symm⟩)
 refine Y (U E (V (AS (U E (Aa (Kb (AQ (AH (Y (J E (Z E BO (V ?_))))))))))))
 refine Ax E (fun hc3=>?_) (fun hc3=>?_)
 have he:e≠0:=by simpa using hc3
 obtain⟨m,k,-,rfl,rfl⟩:∃(m:List Ao) (k:Nat),e≠0∧s1=(k,some (v,m))∧y=([],e):=by
  rcases hx with hx | hx | ⟨m,k,hx,-⟩
  exact absurd hx.1 he
  exact hx
  exact absurd hx he
 refine Y (J E (A8 3 E E E E dW E E E zT (V (Ay (A6 (HV ?_))))))
 exact Nm ⟨E,_,_,he,E⟩ (BR [0,1,2,3,4,5] 6 E E E)
 obtain rfl:e=0:=by simpa using hc3
 refine AJ (AI (AS (J E ?_)))
 rcases hx with⟨-,h2,hv,hv1,ho1,h0⟩ | ⟨m,k,hx,-⟩ | ⟨m,k,-,rfl,h2⟩
 refine Du 4 E E E E JR hv1 ho1 E zT (Aa (An ?_))
 exact IE ⟨_,E,h2,fun e=>absurd e h0,by rw[hv]⟩ (BR [0,1,2,3,4,5] 6 E E E)
 exact absurd rfl hx
 refine C1 0 E fun hv1 ho1=>?_
 refine Du 4 E E E E JR hv1 ho1 E zT (Aa (An ?_))
 exact IE ⟨_,E,h2,(fun e=>absurd e zS),E⟩ (BR [0,1,2,3,4,5] 6 E E E)
 obtain⟨h1,-,rfl⟩:=hJ
 rw[List.drop_eq_nil_of_le zO,Jz]at h1
 obtain rfl:=zI h1
 obtain⟨z,hz,h⟩:=Ek (show(DY n (Ve p0 s) o).bind _=some r from h)
 refine An (AI (AH (Y (AG 3 QT E (Z E BO (V (C0 E (AJ (AI (Y (AG 4 FY E (As (B7 o) E UK E E (Aj 5 E) (BS 1 eR (d8 hz hs0) E ?_)))))))))))))
 rintro _ _ ⟨v1,rfl,rfl⟩
 refine J E (Ae E E E (Ae E E E (U E (U E (V (AH (Y (J E (Z E Bg (V ?_))))))))))
 refine AN h E (fun hc4 h=>?_) fun hc4 h=>?_
 refine AE h fun l hl1 h=>?_
 refine Aw DG [2,6] (CM [(true,0),(true,1),(true,2),(true,3),(true,4),(true,5),(false,6),(false,7),(true,8),(true,9)] (.last 10 .nil)) zK (J E (J E (AT E E (AF E Pf (AG 0 ZG E (As (B7 o) E UK E E (Aj 1 E) ?_))))))
 refine CD [_] rfl RV YC ZO ⟨rfl,trivial⟩ rfl rfl rfl zW rfl rfl (fun _=>⟨⟨3,rfl⟩,⟨7,rfl⟩,trivial⟩) fun b5=>?_
 refine CF B7 5 ([o]:List H9) E zV E ?_
 refine Cr 4 hl1 (sz:=5) (enc:=B7) zV E RV YC sL ZO E zD E E E E (CH (sz:=5) (enc:=B7) 0 zV E) (by simp[B7,Value.oneCell']) (fun _=>⟨⟨3,E⟩,⟨7,E⟩,zT⟩) fun v2=>?_
 refine AT E E (AF E Pf (Bh ?_))
 refine C1 4 E fun hv2 ho2=>?_
 refine Du 3 E E E E ll hv2 ho2 E zT (V (Y (J E (U E (V (AL (EM ?_)))))))
 obtain rfl:=zI h
 exact Bi [3,4] 8 (Cl E E) E E ⟨v2,E,E⟩
 refine AJ (AI (Y (J E (U E (V (AL (EM ?_)))))))
 obtain rfl:=zI h
 exact Bi [2,3] 7 (Cl E E) E E ⟨_,E,E⟩
 obtain⟨rfl,s,v,he,rfl⟩:=hX
 rw[zf he]at h
 obtain rfl:=zI (show some _=some r from h)
 refine Ay (A9 (AI (AH (Y (AG 3 QT E (Z E BO (V ?_)))))))
 refine Ax E (fun hc5=>?_) (fun hc5=>absurd hc5 (by simp[he]))
 refine Y (AG 3 QT E (U E (V (AL (Ac (EM ?_))))))
 exact Bi [1,2] 6 (Cl E E) E E ⟨_,E,E⟩
end

section
variable {K:Nat→Prop}{w0:World}{H:List AY}
def HS(p0:Ah):Option Bool:=
 (E7 p0).bind fun y1=>
 ret (decide (y1.cnt=18446744073709551615)) fun x1=>
 some x1
theorem RQ{Al A4 Bo:Nat}{Bp:Value}{p0:Ah}{r:Bool}(h:HS p0=some r): zC K w0 43 [vP Al 0] [AK Al (.cells #[vB p0.off,vB p0.isCut,vI p0.lasts,vI p0.counts,Bp,.map (some A4),.map (some Bo),AV p0.rcnt,vS p0.rtag,AA p0.rboots] 100),AC 9 1 Bp eS p0.blocks,Ab A4 AA vS p0.pend,Ab Bo AA vB p0.bad] H (fun u M=>u=vB r∧M=[AK Al (.cells #[vB p0.off,vB p0.isCut,vI p0.lasts,vI p0.counts,Bp,.map (some A4),.map (some Bo),AV p0.rcnt,vS p0.rtag,AA p0.rboots] 100),AC 9 1 Bp eS p0.blocks,Ab A4 AA vS p0.pend,Ab Bo AA vB p0.bad]):=by
 unfold HS at h
 refine Td.enter Tryz.func43 rfl rfl ?_
 refine Y (U E (V (Y ?_)))
 refine AE h fun y1 hy1 h=>?_
 obtain⟨x1,ex1,h⟩:=Bz h
 refine J E (AP 4 XQ (J0 hy1) E (ZR E (show cd Tryz.prog 43 0=some 0 by kernel_rfl) E E ?_))
 refine Z E (MD (b:=18446744073709551615)) ?_
 refine Ak (u:=vB x1) E E (congrArg vB ex1) ?_
 refine V (AL ?_)
 obtain rfl:=zI h
 exact AX [0,1,2,3] 4 E E E
def KH(p0:Ah)(p1:List BP):Option (Option (Bx×Az)×Int×Ah):=
 (II p1).bind fun y1=>
 cond (!decide (y1.2=0))
 (
  some (none,y1.2,p0))
 (
  (Pb p0).bind fun y2=>
  cond (!decide (y2.2.1=0))
  (
   some (none,y2.2.1,y2.2.2))
  (
   (Mv y2.2.2 p1 y1.1 y2.1).bind fun y3=>
   (y3.1).bind fun d1=>
   (Ur p1).bind fun y4=>
   some (some (({ rows:=[],pages:=[],gens:=[],ring:=y4,gen:=y1.1,bad:=false }:Bx),d1),y3.2,y2.2.2)))
theorem XN{Al A4 Bo:Nat}{Bp Dt:Value}{p0:Ah}{p1:List BP}{r:Option (Bx×Az)×Int×Ah}(h:KH p0 p1=some r)(hs1_:B9 K w0 AZ 2 Dt p1):zC K w0 44 [vP Al 0,Dt] [AK Al (.cells #[vB p0.off,vB p0.isCut,vI p0.lasts,vI p0.counts,Bp,.map (some A4),.map (some Bo),AV p0.rcnt,vS p0.rtag,AA p0.rboots] 100),AC 9 1 Bp eS p0.blocks,Ab A4 AA vS p0.pend,Ab Bo AA vB p0.bad] H (fun u M=>(r.1=none∧u=.tuple #[.pointer none,vI r.2.1]∧M=[AK Al (.cells #[vB r.2.2.off,vB r.2.2.isCut,vI r.2.2.lasts,vI r.2.2.counts,Bp,.map (some A4),.map (some Bo),AV r.2.2.rcnt,vS r.2.2.rtag,AA r.2.2.rboots] 100),AC 9 1 Bp eS r.2.2.blocks,Ab A4 AA vS r.2.2.pend,Ab Bo AA vB r.2.2.bad])∨(∃(d:Bx×Az) (bn0:Nat) (vn0x0:Value) (vn0x1:Value) (vn0x2:Value) (vn0x5:Value) (bn1:Nat) (vn1x1:Value) (mn1x5:Nat),r.1=some d∧u=.tuple #[vP bn0 0,vI r.2.1]∧M=[AK bn0 (.cells #[vn0x0,vn0x1,vn0x2,vP Al 0,vP bn1 0,vn0x5,AA d.1.gen,vB d.1.bad] 94),AC 35 4 vn0x0 AW d.1.rows,AC 190 3 vn0x1 AU d.1.pages,DA vn0x2 AA AA d.1.gens,AC 114 2 vn0x5 AZ d.1.ring,AK bn1 (.cells #[vP Al 0,vn1x1,AA d.2.gen,AA d.2.boot,AV d.2.seals,.map (some mn1x5)] 181),AC 114 2 vn1x1 AZ d.2.ring,Ab mn1x5 AA vB d.2.taken,AK Al (.cells #[vB r.2.2.off,vB r.2.2.isCut,vI r.2.2.lasts,vI r.2.2.counts,Bp,.map (some A4),.map (some Bo),AV r.2.2.rcnt,vS r.2.2.rtag,AA r.2.2.rboots] 100),AC 9 1 Bp eS r.2.2.blocks,Ab A4 AA vS r.2.2.pend,Ab Bo AA vB r.2.2.bad])):=by
 unfold KH at h
 refine Td.enter Tryz.func44 rfl rfl ?_
 refine Y (U E (U E (V (Y ?_))))
 refine AE h fun y1 hy1 h=>?_
 refine J E (AP 0 kT (Rt hy1 hs1_) E (J E (Ae E E E (Ae E E E (U E (U E (V (AH (Y (J E ?_))))))))))
 refine Z E BO (V ?_)
 refine AN h E (fun hc1 h=>?_) fun hc1 h=>?_
 refine Y (J E (U E (U E (V (AL (Ac ?_))))))
 obtain rfl:=zI h
 exact Ag (ER E E E) (Af (M:=[_,_,_,_]) (.inl ⟨E,E,E⟩) fun _ hw=>BW.pick (H:=[_,_,_,_]) hw [0,1,2,3] 4 E)
 refine AJ (AI (Y ?_))
 refine AE h fun y2 hy2 h=>?_
 refine J E (AP 4 qS (cJ hy2) E (J E (Ae E E E (Ae E E E (U E (U E (V (AH (Y (J E ?_))))))))))
 refine Z E BO (V ?_)
 refine AN h E (fun hc2 h=>?_) fun hc2 h=>?_
 refine Y (J E (U E (U E (V (AL (Ac ?_))))))
 obtain rfl:=zI h
 exact Ag (ER E E E) (Af (M:=[_,_,_,_]) (.inl ⟨E,E,E⟩) fun _ hw=>BW.pick (H:=[_,_,_,_]) hw [0,1,2,3] 4 E)
 refine AJ (AI (Y ?_))
 refine AE h fun y3 hy3 h=>?_
 refine AE h fun d1 hd1 h=>?_
 refine J E (J E (J E (J E ?_)))
 refine Bd (vs:=[_,_,_,_]) (Hin:=[_,_,_,_]) (Hr:=_) E E ⟨E,E,E,E,zT⟩ qT E E (Z0 hy3 hs1_) ?_
 rintro _ _ (⟨hn,-,-⟩ | ⟨d_,b1,v1,m1,hn,rfl,rfl⟩)
 rw[hd1]at hn;cases hn
 obtain rfl:d1=d_:=zI (hd1.symm.trans hn)
 refine⟨trivial,?_⟩
 refine J E (Ae E E E (Ae E E E (U E (U E (V (Y ?_))))))
 refine AE h fun y4 hy4 h=>?_
 refine J E (J E (J E ?_))
 refine Bd (vs:=[_]) (Hin:=[]) (Hr:=_::_::_::_::_::_::_::_) E E ⟨E,zT⟩ qU E E (jT hy4 hs1_) ?_
 rintro v2 _ ⟨_,rfl,rfl⟩
 refine⟨trivial,?_⟩
 refine J E ?_
 refine C1 0 E fun hv1 ho1=>?_
 refine Rk [vP Al 0,vP b1 0,v2,AA y1.1] [#[vP Al 0],#[vP b1 0],#[v2],#[AA y1.1]] (by simp only[List.map_cons,List.map_nil,hv1];rfl) E sf sX tA ⟨E,E,E,E,zT⟩ E ?_
 refine Bc E E zU fun b2=>?_
 refine B8 35 4 AW (B8 190 3 AU (jl AA AA (J E (U E (U E (V (AL ?_)))))))
 obtain rfl:=zI h
 exact Ag (ER E E E) (Af (M:=[_,_,_,_,_,_,_,_,_,_,_,_]) (.inr ⟨_,b2,zN,zN,(.map none),v2,b1,v1,m1,E,E,E⟩) fun _ hw=>BW.pick (H:=[_,_,_,_,_,_,_,_,_,_,_,_]) hw [3,2,1,0,4,5,6,7,8,9,10,11] 12 E)
def EJ(n:Nat)(T:List UInt32)(p0:Bx)(p0_1:Az)(p0_2:Ah)(p1:List Ao)(p2:List BL):Option (Int×Az×Ah):=
 (J3 p0_2).bind fun y1=>
 cond (!decide (y1.1=0))
 (
  some (y1.1,p0_1,y1.2))
 (
  (E7 y1.2).bind fun y2=>
  (BE p2 (wI ((p2.length:Int)-1))).bind fun x1=>
  (Mt y2.cnt p0.gen (p1.length:Int) (⟨x1.page,x1.tag⟩:BV)).bind fun y3=>
  cond (!decide (y3.2=0))
  (
   some (y3.2,p0_1,y1.2))
  (
   (KG n y3.1).bind fun y4=>
   (OQ y3.1.cnt).bind fun y5=>
   (Nt T p0_1 y1.2 y5 y4.1).bind fun y6=>
   cond (!decide (y6.2.1=0))
   (
    some (y6.2.1,y6.2.2.1,y6.2.2.2))
   (
    (J3 y6.2.2.2).bind fun y7=>
    cond (!decide (y7.1=0))
    (
     some (y7.1,y6.2.2.1,y7.2))
    (
     (LN y7.2 y6.1).bind fun y8=>
     some (y8.1,y6.2.2.1,y8.2)))))
theorem MX{n Al Cc Bm BD BI BJ:Nat}{T:List UInt32}{Au Ad A0 BY Bn BK Dt GP:Value}{p0:Bx}{p0_1:Az}{p0_2:Ah}{p1:List Ao}{p2:List BL}{r:Int×Az×Ah}(h:EJ n T p0 p0_1 p0_2 p1 p2=some r)(hS:GF K w0 T)(hs1_:B9 K w0 AW 4 Dt p1)(hs2_:B9 K w0 AU 3 GP p2):zC K w0 67 [vP Al 0,Dt,GP] [AK Al (.cells #[Au,Ad,A0,vP BD 0,vP Cc 0,BY,AA p0.gen,vB p0.bad] 94),AC 35 4 Au AW p0.rows,AC 190 3 Ad AU p0.pages,DA A0 AA AA p0.gens,AC 114 2 BY AZ p0.ring,AK Cc (.cells #[vP BD 0,Bn,AA p0_1.gen,AA p0_1.boot,AV p0_1.seals,.map (some Bm)] 181),AC 114 2 Bn AZ p0_1.ring,Ab Bm AA vB p0_1.taken,AK BD (.cells #[vB p0_2.off,vB p0_2.isCut,vI p0_2.lasts,vI p0_2.counts,BK,.map (some BI),.map (some BJ),AV p0_2.rcnt,vS p0_2.rtag,AA p0_2.rboots] 100),AC 9 1 BK eS p0_2.blocks,Ab BI AA vS p0_2.pend,Ab BJ AA vB p0_2.bad] H (fun u M=>u=vI r.1∧M=[AK Al (.cells #[Au,Ad,A0,vP BD 0,vP Cc 0,BY,AA p0.gen,vB p0.bad] 94),AC 35 4 Au AW p0.rows,AC 190 3 Ad AU p0.pages,DA A0 AA AA p0.gens,AC 114 2 BY AZ p0.ring,AK Cc (.cells #[vP BD 0,Bn,AA r.2.1.gen,AA r.2.1.boot,AV r.2.1.seals,.map (some Bm)] 181),AC 114 2 Bn AZ r.2.1.ring,Ab Bm AA vB r.2.1.taken,AK BD (.cells #[vB r.2.2.off,vB r.2.2.isCut,vI r.2.2.lasts,vI r.2.2.counts,BK,.map (some BI),.map (some BJ),AV r.2.2.rcnt,vS r.2.2.rtag,AA r.2.2.rboots] 100),AC 9 1 BK eS r.2.2.blocks,Ab BI AA vS r.2.2.pend,Ab BJ AA vB r.2.2.bad]):=by
 unfold EJ at h
 refine Td.enter Tryz.func67 rfl rfl ?_
 refine Y (U E (V (AH (Y ?_))))
 refine AE h fun y1 hy1 h=>?_
 refine J E (AT E E (AF E OT (AG 0 NC E (SL.pick [8,9,10,11,0,1,2,3,4,5,6,7] 12 (AP 4 aF (PW hy1) E (U E (V (Y (J E ?_)))))))))
 refine Z E BO (V ?_)
 refine AN h E (fun hc1 h=>?_) fun hc1 h=>?_
 refine Y (J E (U E (V (AL (Ac ?_)))))
 obtain rfl:=zI h
 exact AX [4,5,6,7,8,9,10,11,0,1,2,3] 12 E E E
 refine AJ (AI (AH ?_))
 refine AE h fun y2 hy2 h=>?_
 refine AE h fun x1 hx1 h=>?_
 refine AE h fun y3 hy3 h=>?_
 refine Aw DG [4] (CM [(true,0),(true,1),(true,2),(true,3),(true,6),(true,7),(true,8),(true,9),(true,10),(true,11),(true,12),(true,13),(true,14),(true,15),(true,16),(true,17),(true,18)] (.alt 4 (CM [(true,5)] (.alt 19 (CM [(true,20),(true,21),(true,22),(false,23),(false,24)] (.last 25 .nil)) (.cons (false,23) (CM [(false,19),(true,20),(true,21),(true,22),(false,24)] (.last 25 .nil))))) (.cons (false,23) (CM [(false,4),(true,5),(false,19),(true,20),(true,21),(true,22),(false,24)] (.last 25 .nil))))) zK (J E (AT E E (AF E OT (AG 0 NC E (J E (AT E E (AF E gm ?_)))))))
 refine AG 0 A7 E (J E (B2 hs1_ E C3 E (J E (J E (B2 hs2_ E KW E (Z E Dm ?_))))))
 refine C9 hx1 hs2_ E KW KV E E fun be1 of1 hc2=>?_
 refine AF E KM ?_
 refine As [AA x1.page,vS x1.tag] E DD E E (XU (d:=1) hc2 E) ?_
 refine Qd ?_ ?_
 refine BU 4 XQ (J0 hy2) E ⟨⟨4,E⟩,zT⟩ (ZR E (show cd Tryz.prog 43 0=some 0 by kernel_rfl) E E ?_)
 refine Qd ?_ ?_
 refine BU 0 eU ((Qm hy3 :)) E ⟨⟨4,E⟩,zT⟩ (J E (Ae E E E (Ae E E E ?_)))
 refine Am E LG (fun _=>⟨⟨5,E⟩,zT⟩) fun b1=>?_
 refine A8 0 E E E E M3 E E E ⟨⟨5,E⟩,zT⟩ (Bh (U E (V (AH (Y (J E (Z E BO (V ?_))))))))
 refine AN h E (fun hc3 h=>?_) fun hc3 h=>?_
 refine Y (J E (U E (V (AL (Ac ?_)))))
 obtain rfl:=zI h
 exact AX [5,6,7,8,9,10,11,12,1,2,3,4] 13 E E E
 refine AJ (AI (Y ?_))
 refine AE h fun y4 hy4 h=>?_
 refine As [AV y3.1.cnt,AA y3.1.gen,AA y3.1.rows,AA y3.1.page,vS y3.1.tag] E Io E E (Aj 0 E) (AP 0 eV ((Oq hy4 :)) E (J E (Ae E E E (Ae E E E (U E (U E (V (AH ?_))))))))
 refine AE h fun y5 hy5 h=>?_
 refine AE h fun y6 hy6 h=>?_
 refine Aw DG [0,5] (CM [(true,0),(true,1),(true,2),(true,3),(true,4),(true,5),(true,7),(false,6),(false,8),(false,9),(true,10),(true,11),(false,12)] (.last 13 .nil)) zK (J E (AT E E (AF E S2 (AG 1 Sd E (AF E LW (AG 0 G7 E (J E ?_)))))))
 refine BU 0 Z1 (Qn hy5) E ⟨⟨0,E⟩,⟨5,E⟩,zT⟩ (SL.pick [10,11,12,1,2,3,4,0,5,6,7,8,9] 13 (BU 7 eW (R8 hy6 hS) E ⟨⟨7,E⟩,⟨8,E⟩,zT⟩ (J E (Ae E E E (Ae E E E (U E (Bh (U E (V (AH (Y ?_)))))))))))
 refine J E (Z E BO (V ?_))
 refine AN h E (fun hc4 h=>?_) fun hc4 h=>?_
 refine Y (J E (U E (V (AL (Ac ?_)))))
 obtain rfl:=zI h
 exact AX [8,9,10,11,12,0,1,2,3,4,5,6] 13 E E E
 refine AJ (AI (AH (Y ?_)))
 refine AE h fun y7 hy7 h=>?_
 refine J E (AT E E (AF E OT (AG 8 NC E (SL.pick [3,4,5,6,0,1,2] 7 (AP 4 aF (PW hy7) E (U E (V (Y (J E ?_)))))))))
 refine Z E BO (V ?_)
 refine AN h E (fun hc5 h=>?_) fun hc5 h=>?_
 refine Y (J E (U E (V (AL (Ac ?_)))))
 obtain rfl:=zI h
 exact AX [8,9,10,11,12,4,5,6,0,1,2,3] 13 E E E
 refine AJ (AI (Y ?_))
 refine AE h fun y8 hy8 h=>?_
 refine J E (AT E E (AF E OT (AG 8 NC E (J E (AP 4 Z2 (Pm hy8) E (U E (V (AL ?_))))))))
 obtain rfl:=zI h
 exact AX [8,9,10,11,12,4,5,6,0,1,2,3] 13 E E E
 refine Am E LG (fun _=>⟨⟨5,E⟩,zT⟩) fun b1=>?_
 refine BU 0 eU ((Qm hy3 :)) E ⟨⟨5,E⟩,zT⟩ (J E (Ae E E E (Ae E E E (A8 0 E E E E M3 E E E ⟨⟨5,E⟩,zT⟩ (Bh (U E (V (AH (Y (J E (Z E BO (V ?_))))))))))))
 refine AN h E (fun hc3 h=>?_) fun hc3 h=>?_
 refine Y (J E (U E (V (AL (Ac ?_)))))
 obtain rfl:=zI h
 exact AX [5,6,7,8,9,10,11,12,1,2,3,4] 13 E E E
 refine AJ (AI (Y ?_))
 refine AE h fun y4 hy4 h=>?_
 refine As [AV y3.1.cnt,AA y3.1.gen,AA y3.1.rows,AA y3.1.page,vS y3.1.tag] E Io E E (Aj 0 E) (AP 0 eV ((Oq hy4 :)) E (J E (Ae E E E (Ae E E E (U E (U E (V (AH ?_))))))))
 refine AE h fun y5 hy5 h=>?_
 refine AE h fun y6 hy6 h=>?_
 refine Aw DG [0,5] (CM [(true,0),(true,1),(true,2),(true,3),(true,4),(true,5),(true,7),(false,6),(false,8),(false,9),(true,10),(true,11),(false,12)] (.last 13 .nil)) zK (J E (AT E E (AF E S2 (AG 1 Sd E (AF E LW (AG 0 G7 E (J E ?_)))))))
 refine BU 0 Z1 (Qn hy5) E ⟨⟨0,E⟩,⟨5,E⟩,zT⟩ (SL.pick [10,11,12,1,2,3,4,0,5,6,7,8,9] 13 (BU 7 eW (R8 hy6 hS) E ⟨⟨7,E⟩,⟨8,E⟩,zT⟩ (J E (Ae E E E (Ae E E E (U E (Bh (U E (V (AH (Y ?_)))))))))))
 refine J E (Z E BO (V ?_))
 refine AN h E (fun hc4 h=>?_) fun hc4 h=>?_
 refine Y (J E (U E (V (AL (Ac ?_)))))
 obtain rfl:=zI h
 exact AX [8,9,10,11,12,0,1,2,3,4,5,6] 13 E E E
 refine AJ (AI (AH (Y ?_)))
 refine AE h fun y7 hy7 h=>?_
 refine J E (AT E E (AF E OT (AG 8 NC E (SL.pick [3,4,5,6,0,1,2] 7 (AP 4 aF (PW hy7) E (U E (V (Y (J E ?_)))))))))
 refine Z E BO (V ?_)
 refine AN h E (fun hc5 h=>?_) fun hc5 h=>?_
 refine Y (J E (U E (V (AL (Ac ?_)))))
 obtain rfl:=zI h
 exact AX [8,9,10,11,12,4,5,6,0,1,2,3] 13 E E E
 refine AJ (AI (Y ?_))
 refine AE h fun y8 hy8 h=>?_
 refine J E (AT E E (AF E OT (AG 8 NC E (J E (AP 4 Z2 (Pm hy8) E (U E (V (AL ?_))))))))
 obtain rfl:=zI h
 exact AX [8,9,10,11,12,4,5,6,0,1,2,3] 13 E E E
 refine Am E LG (fun _=>⟨⟨5,E⟩,zT⟩) fun b1=>?_
 refine SL.pick [1,2,3,4,0] 5 (BU 4 XQ (J0 hy2) E ⟨⟨5,E⟩,zT⟩ (ZR E (show cd Tryz.prog 43 0=some 0 by kernel_rfl) E E (BU 0 eU ((Qm hy3 :)) E ⟨⟨5,E⟩,zT⟩ (J E (Ae E E E (Ae E E E (A8 4 E E E E M3 E E E ⟨⟨5,E⟩,zT⟩ (Bh ?_))))))))
 refine U E (V (AH (Y (J E (Z E BO (V ?_))))))
 refine AN h E (fun hc3 h=>?_) fun hc3 h=>?_
 refine Y (J E (U E (V (AL (Ac ?_)))))
 obtain rfl:=zI h
 exact AX [5,6,7,8,9,10,11,12,0,1,2,3] 13 E E E
 refine AJ (AI (Y ?_))
 refine AE h fun y4 hy4 h=>?_
 refine As [AV y3.1.cnt,AA y3.1.gen,AA y3.1.rows,AA y3.1.page,vS y3.1.tag] E Io E E (Aj 4 E) (AP 0 eV ((Oq hy4 :)) E (J E (Ae E E E (Ae E E E (U E (U E (V (AH ?_))))))))
 refine AE h fun y5 hy5 h=>?_
 refine AE h fun y6 hy6 h=>?_
 refine Aw DG [4,5] (CM [(true,0),(true,1),(true,2),(true,3),(true,4),(true,5),(true,7),(false,6),(false,8),(false,9),(true,10),(true,11),(false,12)] (.last 13 .nil)) zK (J E (AT E E (AF E S2 (AG 1 Sd E (AF E LW (AG 0 G7 E (J E ?_)))))))
 refine BU 0 Z1 (Qn hy5) E ⟨⟨4,E⟩,⟨5,E⟩,zT⟩ (SL.pick [10,11,12,0,1,2,3,4,5,6,7,8,9] 13 (BU 7 eW (R8 hy6 hS) E ⟨⟨7,E⟩,⟨8,E⟩,zT⟩ (J E (Ae E E E (Ae E E E (U E (Bh (U E (V (AH (Y ?_)))))))))))
 refine J E (Z E BO (V ?_))
 refine AN h E (fun hc4 h=>?_) fun hc4 h=>?_
 refine Y (J E (U E (V (AL (Ac ?_)))))
 obtain rfl:=zI h
 exact AX [8,9,10,11,12,0,1,2,3,4,5,6] 13 E E E
 refine AJ (AI (AH (Y ?_)))
 refine AE h fun y7 hy7 h=>?_
 refine J E (AT E E (AF E OT (AG 8 NC E (SL.pick [3,4,5,6,0,1,2] 7 (AP 4 aF (PW hy7) E (U E (V (Y (J E ?_)))))))))
 refine Z E BO (V ?_)
 refine AN h E (fun hc5 h=>?_) fun hc5 h=>?_
 refine Y (J E (U E (V (AL (Ac ?_)))))
 obtain rfl:=zI h
 exact AX [8,9,10,11,12,4,5,6,0,1,2,3] 13 E E E
 refine AJ (AI (Y ?_))
 refine AE h fun y8 hy8 h=>?_
 refine J E (AT E E (AF E OT (AG 8 NC E (J E (AP 4 Z2 (Pm hy8) E (U E (V (AL ?_))))))))
 obtain rfl:=zI h
 exact AX [8,9,10,11,12,4,5,6,0,1,2,3] 13 E E E
def F6(a2:Int)(nx_f_store_Store_moves_l2:List (UInt32×UInt32)×Int→Option (Bx×Az))(l6:List (UInt32×UInt32)):Option (Bx×Az):=
 nx_f_store_Store_moves_l2 (l6,wI (a2+1))
def F7(a3:Int)(nx_f_store_Store_moves_l3:Az×Int→Option (Bx×Az))(o3:Az):Option (Bx×Az):=
 nx_f_store_Store_moves_l3 (o3,wI (a3+1))
def Ia(p0:Bx)(p1:List Ao)(p2:List BL)(l4:List (UInt32×UInt32))(o1:Az):Option (Bx×Az):=
 some ({ p0 with rows:=p1,pages:=p2,gens:=l4 },o1)
def EQ(p0:Bx)(p0_2:Ah)(p1:List Ao)(p2:List BL)(l4:List (UInt32×UInt32))(nx_f_store_Store_moves_l3:Az×Int→Option (Bx×Az))(o2:Az)(a3:Int):Option (Bx×Az):=
 cond (decide (a3<(p0.pages.length:Int)))
 (
  (BE p0.pages a3).bind fun x3=>
  ret ((C8 l4 x3.page).getD 0) fun x4=>
  ret ((C8 l4 x3.page).isSome) fun ok_1=>
  cond (!ok_1)
  (
   (KI o2 p0_2 x3.page).bind fun y1=>
   F7 a3 nx_f_store_Store_moves_l3 y1.2)
  (
   F7 a3 nx_f_store_Store_moves_l3 o2))
 (
  Ia p0 p1 p2 l4 o2)
def Ey(p0:Bx)(p0_2:Ah)(p1:List Ao)(p2:List BL)(l4:List (UInt32×UInt32)):Nat→(Az×Int)→Option (Bx×Az):=CO fun nx x=>EQ p0 p0_2 p1 p2 l4 nx x.1 x.2
def IZ(n:Nat)(p0:Bx)(p0_1:Az)(p0_2:Ah)(p1:List Ao)(p2:List BL)(l4:List (UInt32×UInt32)):Option (Bx×Az):=
 Ey p0 p0_2 p1 p2 l4 n (p0_1,0)
def DN(n:Nat)(p0:Bx)(p0_1:Az)(p0_2:Ah)(p1:List Ao)(p2:List BL)(l1:List (UInt32×BL))(nx_f_store_Store_moves_l2:List (UInt32×UInt32)×Int→Option (Bx×Az))(l5:List (UInt32×UInt32))(a2:Int):Option (Bx×Az):=
 cond (decide (a2<(p2.length:Int)))
 (
  (BE p2 a2).bind fun x2=>
  (My l5 x2.page p0.gen).bind fun l7=>
  cond (decide (((C8 l1 x2.page).getD (⟨[],0,[]⟩:BL)).txt=x2.txt)&&(decide (((C8 l1 x2.page).getD (⟨[],0,[]⟩:BL)).page=x2.page)&&(decide (((C8 l1 x2.page).getD (⟨[],0,[]⟩:BL)).tag=x2.tag)&&true)))
  (
   (My l7 x2.page ((C8 p0.gens x2.page).getD 0)).bind fun l8=>
   F6 a2 nx_f_store_Store_moves_l2 l8)
  (
   F6 a2 nx_f_store_Store_moves_l2 l7))
 (
  IZ n p0 p0_1 p0_2 p1 p2 l5)
def D0(n:Nat)(p0:Bx)(p0_1:Az)(p0_2:Ah)(p1:List Ao)(p2:List BL)(l1:List (UInt32×BL)):Nat→(List (UInt32×UInt32)×Int)→Option (Bx×Az):=CO fun nx x=>DN n p0 p0_1 p0_2 p1 p2 l1 nx x.1 x.2
def IY(n:Nat)(p0:Bx)(p0_1:Az)(p0_2:Ah)(p1:List Ao)(p2:List BL)(l1:List (UInt32×BL)):Option (Bx×Az):=
 D0 n p0 p0_1 p0_2 p1 p2 l1 n ([],0)
def HL(n:Nat)(p0:Bx)(p0_1:Az)(p0_2:Ah)(p1:List Ao)(p2:List BL)(nx_f_store_Store_moves_l1:List (UInt32×BL)×Int→Option (Bx×Az))(l2:List (UInt32×BL))(a1:Int):Option (Bx×Az):=
 cond (decide (a1<(p0.pages.length:Int)))
 (
  (BE p0.pages a1).bind fun x1=>
  (My l2 x1.page x1).bind fun l3=>
  nx_f_store_Store_moves_l1 (l3,wI (a1+1)))
 (
  IY n p0 p0_1 p0_2 p1 p2 l2)
def Ib(n:Nat)(p0:Bx)(p0_1:Az)(p0_2:Ah)(p1:List Ao)(p2:List BL):Nat→(List (UInt32×BL)×Int)→Option (Bx×Az):=CO fun nx x=>HL n p0 p0_1 p0_2 p1 p2 nx x.1 x.2
def Da(n:Nat)(p0:Bx)(p0_1:Az)(p0_2:Ah)(p1:List Ao)(p2:List BL):Option (Bx×Az):=
 Ib n p0 p0_1 p0_2 p1 p2 n ([],0)
theorem Nr{n Al Cc Bm BD BI BJ:Nat}{Au Ad A0 BY Bn BK Dt GP:Value}{p0:Bx}{p0_1:Az}{p0_2:Ah}{p1:List Ao}{p2:List BL}{r:Bx×Az}(h:Da n p0 p0_1 p0_2 p1 p2=some r): zC K w0 68 [vP Al 0,Dt,GP] [AK Al (.cells #[Au,Ad,A0,vP BD 0,vP Cc 0,BY,AA p0.gen,vB p0.bad] 94),AC 35 4 Au AW p0.rows,AC 190 3 Ad AU p0.pages,DA A0 AA AA p0.gens,AC 114 2 BY AZ p0.ring,AK Cc (.cells #[vP BD 0,Bn,AA p0_1.gen,AA p0_1.boot,AV p0_1.seals,.map (some Bm)] 181),AC 114 2 Bn AZ p0_1.ring,Ab Bm AA vB p0_1.taken,AK BD (.cells #[vB p0_2.off,vB p0_2.isCut,vI p0_2.lasts,vI p0_2.counts,BK,.map (some BI),.map (some BJ),AV p0_2.rcnt,vS p0_2.rtag,AA p0_2.rboots] 100),AC 9 1 BK eS p0_2.blocks,Ab BI AA vS p0_2.pend,Ab BJ AA vB p0_2.bad,AC 35 4 Dt AW p1,AC 190 3 GP AU p2] H (fun u M=>∃vs0_0_0 vs0_0_1 vs0_0_2:Value,u=.tuple #[]∧M=[AK Al (.cells #[vs0_0_0,vs0_0_1,vs0_0_2,vP BD 0,vP Cc 0,BY,AA r.1.gen,vB r.1.bad] 94),AC 35 4 vs0_0_0 AW r.1.rows,AC 190 3 vs0_0_1 AU r.1.pages,DA vs0_0_2 AA AA r.1.gens,AC 114 2 BY AZ r.1.ring,AK Cc (.cells #[vP BD 0,Bn,AA r.2.gen,AA r.2.boot,AV r.2.seals,.map (some Bm)] 181),AC 114 2 Bn AZ r.2.ring,Ab Bm AA vB r.2.taken,AK BD (.cells #[vB p0_2.off,vB p0_2.isCut,vI p0_2.lasts,vI p0_2.counts,BK,.map (some BI),.map (some BJ),AV p0_2.rcnt,vS p0_2.rtag,AA p0_2.rboots] 100),AC 9 1 BK eS p0_2.blocks,Ab BI AA vS p0_2.pend,Ab BJ AA vB p0_2.bad]):=by
 unfold Da at h
 refine Td.enter Tryz.func68 rfl rfl ?_
 refine Y ?_
 refine Sq AA Tn E zU fun b1=>?_
 refine U E (V ?_)
 refine BB (α:=List (UInt32×BL)) (fun x=>IY n p0 p0_1 p0_2 p1 p2 x=some r) (fun x=>[(0,vP Al 0),(1,Dt),(2,GP),(6,.map (some b1))]) (fun x=>AK Al (.cells #[Au,Ad,A0,vP BD 0,vP Cc 0,BY,AA p0.gen,vB p0.bad] 94)::AC 35 4 Au AW p0.rows::AC 190 3 Ad AU p0.pages::DA A0 AA AA p0.gens::AK BD (.cells #[vB p0_2.off,vB p0_2.isCut,vI p0_2.lasts,vI p0_2.counts,BK,.map (some BI),.map (some BJ),AV p0_2.rcnt,vS p0_2.rtag,AA p0_2.rboots] 100)::AC 9 1 BK eS p0_2.blocks::Ab BI AA vS p0_2.pend::Ab BJ AA vB p0_2.bad::AK Cc (.cells #[vP BD 0,Bn,AA p0_1.gen,AA p0_1.boot,AV p0_1.seals,.map (some Bm)] 181)::AC 114 2 Bn AZ p0_1.ring::Ab Bm AA vB p0_1.taken::AC 114 2 BY AZ p0.ring::AC 35 4 Dt AW p1::AC 190 3 GP AU p2::Ab b1 AA Tn x::H) ?_ (fun l1 D h=>?_)
 refine Y (J E (AT E E (AF E Pg (AF E aU (AG 1 QU E (DW 3 E KW E E (J E (V (AQ ?_)))))))))
 refine SX.heap (SX.mono (BG (α:=Nat×List (UInt32×BL)×Int) (fun x=>Ib n p0 p0_1 p0_2 p1 p2 x.1 (x.2.1,x.2.2)=some r) (fun x=>[(0,vP Al 0),(1,Dt),(2,GP),(6,.map (some b1)),(21,Ad),(22,vI (p0.pages.length:Int)),(23,vI x.2.2)]) (fun x=>AK Al (.cells #[Au,Ad,A0,vP BD 0,vP Cc 0,BY,AA p0.gen,vB p0.bad] 94)::AC 35 4 Au AW p0.rows::AC 190 3 Ad AU p0.pages::DA A0 AA AA p0.gens::AK BD (.cells #[vB p0_2.off,vB p0_2.isCut,vI p0_2.lasts,vI p0_2.counts,BK,.map (some BI),.map (some BJ),AV p0_2.rcnt,vS p0_2.rtag,AA p0_2.rboots] 100)::AC 9 1 BK eS p0_2.blocks::Ab BI AA vS p0_2.pend::Ab BJ AA vB p0_2.bad::AK Cc (.cells #[vP BD 0,Bn,AA p0_1.gen,AA p0_1.boot,AV p0_1.seals,.map (some Bm)] 181)::AC 114 2 Bn AZ p0_1.ring::Ab Bm AA vB p0_1.taken::AC 114 2 BY AZ p0.ring::AC 35 4 Dt AW p1::AC 190 3 GP AU p2::Ab b1 AA Tn x.2.1::H) (fun x=>x.1) (fun x D h=>?_) (n,[],0) h) tL) (BR [1,2,3,4,9,10,11,12,6,7,8,5,13,14,0] 15 E E E)
 obtain⟨m1,l2,a1⟩:=x
 dsimp only at h
 rcases m1 with _ | m1
 cases (show(none:Option _)=some r from h)
 replace h:HL n p0 p0_1 p0_2 p1 p2 (Ib n p0 p0_1 p0_2 p1 p2 m1) l2 a1=some r:=h
 unfold HL at h
 try dsimp only
 refine Y (Z E BA (V (AH ?_)))
 refine AN h E (fun hc1 h=>?_) fun hc1 h=>?_
 refine AJ (AI (AH (AQ (Y ?_))))
 refine AE h fun x1 hx1 h=>?_
 refine CI 2 hx1 E KW KV E E E fun g1 m2 cp1 hv1=>?_
 refine As (AU x1) E Ro E E (MK (sz:=3) (enc:=AU) 2 zV E hv1 hx1) ?_
 refine Am E PM zU fun b2=>?_
 refine A8 0 E E E E KV E E E zT (V (AS ?_))
 refine AE h fun l3 hl3 h=>?_
 refine J E (AF E KM (AF E FX (AG 0 A7 E (As [vS x1.txt,AA x1.page,vS x1.tag] E Ro E E (Aj 0 E) ?_))))
 refine QA (a:=x1) 15 hl3 (UD CP) E lq E E E E zT ?_
 refine Aa (An (AI (AS (Z E Bf (J E (Aa ?_))))))
 exact Av (m1,l3,wI (a1+1)) h (Nat.lt_succ_self _) tL (BR [1,2,3,4,5,6,7,8,9,10,11,12,13,14,15] 16 E E E)
 refine Ay (A6 (Ba (A9 ?_)))
 exact Ap l2 h tL (BR [0,1,2,3,4,5,6,7,8,9,10,11,12,13,14] 15 E E E)
 unfold IY at h
 try dsimp only
 refine Y ?_
 refine Sq AA AA E zU fun b3=>?_
 refine U E (V ?_)
 refine BB (α:=List (UInt32×UInt32)) (fun x=>IZ n p0 p0_1 p0_2 p1 p2 x=some r) (fun x=>[(0,vP Al 0),(1,Dt),(2,GP),(9,.map (some b3))]) (fun x=>AK Al (.cells #[Au,Ad,A0,vP BD 0,vP Cc 0,BY,AA p0.gen,vB p0.bad] 94)::AC 35 4 Au AW p0.rows::AC 190 3 Ad AU p0.pages::DA A0 AA AA p0.gens::AK BD (.cells #[vB p0_2.off,vB p0_2.isCut,vI p0_2.lasts,vI p0_2.counts,BK,.map (some BI),.map (some BJ),AV p0_2.rcnt,vS p0_2.rtag,AA p0_2.rboots] 100)::AC 9 1 BK eS p0_2.blocks::Ab BI AA vS p0_2.pend::Ab BJ AA vB p0_2.bad::AK Cc (.cells #[vP BD 0,Bn,AA p0_1.gen,AA p0_1.boot,AV p0_1.seals,.map (some Bm)] 181)::AC 114 2 Bn AZ p0_1.ring::Ab Bm AA vB p0_1.taken::AC 114 2 BY AZ p0.ring::AC 35 4 Dt AW p1::AC 190 3 GP AU p2::Ab b3 AA AA x::H) ?_ (fun l4 D h=>?_)
 refine Y (J E (DW 14 E KW E E (J E (V (AQ ?_)))))
 refine SX.heap (SX.mono (BG (α:=Nat×List (UInt32×UInt32)×Int) (fun x=>D0 n p0 p0_1 p0_2 p1 p2 l1 x.1 (x.2.1,x.2.2)=some r) (fun x=>[(0,vP Al 0),(1,Dt),(2,GP),(6,.map (some b1)),(9,.map (some b3)),(34,GP),(35,vI (p2.length:Int)),(36,vI x.2.2)]) (fun x=>AK Al (.cells #[Au,Ad,A0,vP BD 0,vP Cc 0,BY,AA p0.gen,vB p0.bad] 94)::AC 35 4 Au AW p0.rows::AC 190 3 Ad AU p0.pages::DA A0 AA AA p0.gens::AK BD (.cells #[vB p0_2.off,vB p0_2.isCut,vI p0_2.lasts,vI p0_2.counts,BK,.map (some BI),.map (some BJ),AV p0_2.rcnt,vS p0_2.rtag,AA p0_2.rboots] 100)::AC 9 1 BK eS p0_2.blocks::Ab BI AA vS p0_2.pend::Ab BJ AA vB p0_2.bad::AK Cc (.cells #[vP BD 0,Bn,AA p0_1.gen,AA p0_1.boot,AV p0_1.seals,.map (some Bm)] 181)::AC 114 2 Bn AZ p0_1.ring::Ab Bm AA vB p0_1.taken::AC 114 2 BY AZ p0.ring::AC 35 4 Dt AW p1::AC 190 3 GP AU p2::Ab b1 AA Tn l1::Ab b3 AA AA x.2.1::H) (fun x=>x.1) (fun x D h=>?_) (n,[],0) h) tL) (BR [1,2,3,4,5,6,7,8,9,10,11,12,13,14,15,0] 16 E E E)
 obtain⟨m3,l5,a2⟩:=x
 dsimp only at h
 rcases m3 with _ | m3
 cases (show(none:Option _)=some r from h)
 replace h:DN n p0 p0_1 p0_2 p1 p2 l1 (D0 n p0 p0_1 p0_2 p1 p2 l1 m3) l5 a2=some r:=h
 unfold DN at h
 try dsimp only
 refine Y (Z E BA (V (AH ?_)))
 refine AN h E (fun hc2 h=>?_) fun hc2 h=>?_
 refine AJ (AI ?_)
 refine BB (α:=List (UInt32×UInt32)) (fun x=>F6 a2 (D0 n p0 p0_1 p0_2 p1 p2 l1 m3) x=some r) (fun x=>[(0,vP Al 0),(1,Dt),(2,GP),(6,.map (some b1)),(9,.map (some b3)),(34,GP),(35,vI (p2.length:Int)),(36,vI a2)]) (fun x=>AK Al (.cells #[Au,Ad,A0,vP BD 0,vP Cc 0,BY,AA p0.gen,vB p0.bad] 94)::AC 35 4 Au AW p0.rows::AC 190 3 Ad AU p0.pages::DA A0 AA AA p0.gens::AK BD (.cells #[vB p0_2.off,vB p0_2.isCut,vI p0_2.lasts,vI p0_2.counts,BK,.map (some BI),.map (some BJ),AV p0_2.rcnt,vS p0_2.rtag,AA p0_2.rboots] 100)::AC 9 1 BK eS p0_2.blocks::Ab BI AA vS p0_2.pend::Ab BJ AA vB p0_2.bad::AK Cc (.cells #[vP BD 0,Bn,AA p0_1.gen,AA p0_1.boot,AV p0_1.seals,.map (some Bm)] 181)::AC 114 2 Bn AZ p0_1.ring::Ab Bm AA vB p0_1.taken::AC 114 2 BY AZ p0.ring::AC 35 4 Dt AW p1::AC 190 3 GP AU p2::Ab b1 AA Tn l1::Ab b3 AA AA x::H) ?_ (fun l6 D h=>?_)
 refine AQ (Y ?_)
 refine AE h fun x2 hx2 h=>?_
 refine CI 13 hx2 E KW KV E E E fun g2 m4 cp2 hv2=>?_
 refine As (AU x2) E Ro E E (MK (sz:=3) (enc:=AU) 13 zV E hv2 hx2) ?_
 refine Am E PM zU fun b4=>?_
 refine A8 0 E E E E KV E E E zT (V (AH ?_))
 refine AE h fun l7 hl7 h=>?_
 refine Aw DG [0,1] (CM [(true,0),(true,1),(true,2),(true,3),(true,4),(true,5),(true,6),(true,7)] (.last 8 .nil)) zK (J E (AF E KM (AF E FX (AG 0 A7 E (J E (AT E E (AF E gm ?_)))))))
 refine AG 1 A7 E (Bh (QA 16 hl7 (QZ CP) E hZ E E E E zT (V (Y (J E (AF E KM (AF E FX (AG 0 A7 E ?_))))))))
 refine WW (zv:=(⟨[],0,[]⟩:BL)) 15 (UD CP) E lq PM E E E ?_
 refine As [vS x2.txt,AA x2.page,vS x2.tag] E Ro E E (Aj 0 E) ?_
 refine Wr E (show cg Tryz.prog 190=some [(0,.string),(1,.int .u32),(2,.string)] by kernel_rfl) E E (Cd E E (SE (a:=((C8 l1 x2.page).getD (⟨[],0,[]⟩:BL)).txt) (b:=x2.txt)) (Cd E E (Jl (a:=((C8 l1 x2.page).getD (⟨[],0,[]⟩:BL)).page) (b:=x2.page)) (Cd E E (SE (a:=((C8 l1 x2.page).getD (⟨[],0,[]⟩:BL)).tag) (b:=x2.tag)) I2))) ?_
 refine V ?_
 refine AN h E (fun hc3 h=>?_) fun hc3 h=>?_
 refine AE h fun l8 hl8 h=>?_
 refine Aw DG [0,1,4] (CM [(true,0),(true,1),(true,2),(true,3),(true,4),(true,5),(true,6),(true,7),(true,8),(true,9),(true,10),(true,11),(true,12)] (.last 13 .nil)) zK (J E (AF E KM (AF E FX (AG 0 A7 E (J E (AT E E (AF E Pg ?_)))))))
 refine AF E oq (AG 1 sj E (AF E KM (AF E FX (AG 0 A7 E ?_))))
 refine jh (zv:=0) 2 (QZ CP) E hZ H8 E E E ?_
 refine Bh (QA 16 hl8 (QZ CP) E hZ E E E E zT (Aa (An ?_)))
 exact Ap l8 h tL (BR [1,2,3,4,5,6,7,8,9,10,11,12,13,14,15,16] 17 E E E)
 refine AJ (An ?_)
 exact Ap l7 h tL (BR [1,2,3,4,5,6,7,8,9,10,11,12,13,14,15,16] 17 E E E)
 unfold F6 at h
 try dsimp only
 refine AS (Z E Bf (J E (Aa ?_)))
 exact Av (m3,l6,wI (a2+1)) h (Nat.lt_succ_self _) tL (BR [0,1,2,3,4,5,6,7,8,9,10,11,12,13,14,15] 16 E E E)
 refine Ay (A6 (Ba (A9 ?_)))
 exact Ap l5 h tL (BR [0,1,2,3,4,5,6,7,8,9,10,11,12,13,15] 16 E E E)
 unfold IZ at h
 try dsimp only
 refine BB (α:=Az) (fun x=>Ia p0 p1 p2 l4 x=some r) (fun x=>[(0,vP Al 0),(1,Dt),(2,GP),(9,.map (some b3))]) (fun x=>AK Al (.cells #[Au,Ad,A0,vP BD 0,vP Cc 0,BY,AA p0.gen,vB p0.bad] 94)::AC 35 4 Au AW p0.rows::AC 190 3 Ad AU p0.pages::DA A0 AA AA p0.gens::AK BD (.cells #[vB p0_2.off,vB p0_2.isCut,vI p0_2.lasts,vI p0_2.counts,BK,.map (some BI),.map (some BJ),AV p0_2.rcnt,vS p0_2.rtag,AA p0_2.rboots] 100)::AC 9 1 BK eS p0_2.blocks::Ab BI AA vS p0_2.pend::Ab BJ AA vB p0_2.bad::AK Cc (.cells #[vP BD 0,Bn,AA x.gen,AA x.boot,AV x.seals,.map (some Bm)] 181)::AC 114 2 Bn AZ x.ring::Ab Bm AA vB x.taken::AC 114 2 BY AZ p0.ring::AC 35 4 Dt AW p1::AC 190 3 GP AU p2::Ab b3 AA AA l4::H) ?_ (fun o1 D h=>?_)
 refine Y (J E (AT E E (AF E Pg (AF E aU (AG 0 QU E (DW 2 E KW E E (J E (V (AQ ?_)))))))))
 refine SX.heap (SX.mono (BG (α:=Nat×Az×Int) (fun x=>Ey p0 p0_2 p1 p2 l4 x.1 (x.2.1,x.2.2)=some r) (fun x=>[(0,vP Al 0),(1,Dt),(2,GP),(9,.map (some b3)),(73,Ad),(74,vI (p0.pages.length:Int)),(75,vI x.2.2)]) (fun x=>AK Al (.cells #[Au,Ad,A0,vP BD 0,vP Cc 0,BY,AA p0.gen,vB p0.bad] 94)::AC 35 4 Au AW p0.rows::AC 190 3 Ad AU p0.pages::DA A0 AA AA p0.gens::AK BD (.cells #[vB p0_2.off,vB p0_2.isCut,vI p0_2.lasts,vI p0_2.counts,BK,.map (some BI),.map (some BJ),AV p0_2.rcnt,vS p0_2.rtag,AA p0_2.rboots] 100)::AC 9 1 BK eS p0_2.blocks::Ab BI AA vS p0_2.pend::Ab BJ AA vB p0_2.bad::AK Cc (.cells #[vP BD 0,Bn,AA x.2.1.gen,AA x.2.1.boot,AV x.2.1.seals,.map (some Bm)] 181)::AC 114 2 Bn AZ x.2.1.ring::Ab Bm AA vB x.2.1.taken::AC 114 2 BY AZ p0.ring::AC 35 4 Dt AW p1::AC 190 3 GP AU p2::Ab b3 AA AA l4::H) (fun x=>x.1) (fun x D h=>?_) (n,p0_1,0) h) tL) (BR [0,1,2,3,4,5,6,7,8,9,10,11,12,13,14] 15 E E E)
 obtain⟨m5,o2,a3⟩:=x
 dsimp only at h
 rcases m5 with _ | m5
 cases (show(none:Option _)=some r from h)
 replace h:EQ p0 p0_2 p1 p2 l4 (Ey p0 p0_2 p1 p2 l4 m5) o2 a3=some r:=h
 unfold EQ at h
 try dsimp only
 refine Y (Z E BA (V (AH ?_)))
 refine AN h E (fun hc4 h=>?_) fun hc4 h=>?_
 refine AJ (AI ?_)
 refine BB (α:=Az) (fun x=>F7 a3 (Ey p0 p0_2 p1 p2 l4 m5) x=some r) (fun x=>[(0,vP Al 0),(1,Dt),(2,GP),(9,.map (some b3)),(73,Ad),(74,vI (p0.pages.length:Int)),(75,vI a3)]) (fun x=>AK Al (.cells #[Au,Ad,A0,vP BD 0,vP Cc 0,BY,AA p0.gen,vB p0.bad] 94)::AC 35 4 Au AW p0.rows::AC 190 3 Ad AU p0.pages::DA A0 AA AA p0.gens::AK BD (.cells #[vB p0_2.off,vB p0_2.isCut,vI p0_2.lasts,vI p0_2.counts,BK,.map (some BI),.map (some BJ),AV p0_2.rcnt,vS p0_2.rtag,AA p0_2.rboots] 100)::AC 9 1 BK eS p0_2.blocks::Ab BI AA vS p0_2.pend::Ab BJ AA vB p0_2.bad::AK Cc (.cells #[vP BD 0,Bn,AA x.gen,AA x.boot,AV x.seals,.map (some Bm)] 181)::AC 114 2 Bn AZ x.ring::Ab Bm AA vB x.taken::AC 114 2 BY AZ p0.ring::AC 35 4 Dt AW p1::AC 190 3 GP AU p2::Ab b3 AA AA l4::H) ?_ (fun o3 D h=>?_)
 refine AQ (Y ?_)
 refine AE h fun x3 hx3 h=>?_
 refine CI 2 hx3 E KW KV E E E fun g3 m6 cp3 hv3=>?_
 refine As (AU x3) E Ro E E (MK (sz:=3) (enc:=AU) 2 zV E hv3 hx3) ?_
 refine Am E PM zU fun b5=>?_
 refine A8 0 E E E E KV E E E zT (V (Y ?_))
 obtain⟨x4,ex4,h⟩:=Bz h
 obtain⟨ok_1,eok_1,h⟩:=Bz h
 refine J E (AF E KM (AF E FX (AG 0 A7 E ?_)))
 refine U8 (zv:=0) 15 (QZ CP) E hZ H8 E E E ?_
 refine J E (Ae E E E (Ae E E E ?_))
 refine Ak (u:=AA x4) E E (congrArg AA ex4) ?_
 refine Ak (u:=vB ok_1) E E (congrArg vB eok_1) ?_
 refine V (Y (J E (CY E E (V ?_))))
 refine AN h E (fun hc5 h=>?_) fun hc5 h=>?_
 refine AE h fun y1 hy1 h=>?_
 refine Aw DG [0,1] (CM [(true,0),(true,1),(true,2),(true,3),(true,4),(true,5),(true,6)] (.last 7 .nil)) zK (J E (AT E E (AF E S2 (AG 1 Sd E (AF E KM (AF E FX (AG 0 A7 E (Bh ?_))))))))
 refine SL.pick [9,10,11,5,6,7,8,0,1,2,3,4] 12 (AP 7 kf (XO hy1) E (Aa (An ?_)))
 exact Ap y1.2 h tL (BR [8,9,10,11,3,4,5,6,0,1,2,12,13,14,15] 16 E E E)
 refine AJ (An ?_)
 exact Ap o2 h tL (BR [1,2,3,4,5,6,7,8,9,10,11,12,13,14,15] 16 E E E)
 unfold F7 at h
 try dsimp only
 refine AS (Z E Bf (J E (Aa ?_)))
 exact Av (m5,o3,wI (a3+1)) h (Nat.lt_succ_self _) tL (BR [0,1,2,3,4,5,6,7,8,9,10,11,12,13,14] 15 E E E)
 refine Ay (A6 (Ba (A9 ?_)))
 exact Ap o2 h tL (BR [0,1,2,3,4,5,6,7,8,9,10,11,12,13,14] 15 E E E)
 unfold Ia at h
 try dsimp only
 refine AS (J E (J E (J E (J E ?_))))
 refine C1 12 E fun hv4 ho1=>?_
 refine C1 13 E fun hv5 ho2=>?_
 refine Rk [Dt,GP,.map (some b3)] [#[Dt],#[GP],#[.map (some b3)]] (by simp only[List.map_cons,List.map_nil,hv4,hv5];rfl) E se sW sy ⟨E,E,E,zT⟩ E (AT E E (AF E Pg ?_))
 refine C1 12 E fun hv6 ho3=>?_
 refine C1 13 E fun hv7 ho4=>?_
 refine A8 0 E E E E sn E (show[Dt,GP,.map (some b3)].all (·.oneCell')=true by simp only[List.all_cons,ho3,ho4];rfl) E zT ?_
 refine ml 14 E ?_ zT
 refine Aa ?_
 obtain rfl:=zI h
 exact DE (Dg E) (Af (M:=[_,_,_,_,_,_,_,_,_,_,_,_]) ⟨Dt,GP,(.map (some b3)),E,E⟩ fun _ hw=>BW.pick (H:=[_,_,_,_,_,_,_,_,_,_,_,_,_,_,_]) hw [0,12,13,14,11,8,9,10,4,5,6,7] 15 E)
def Ei(n:Nat)(p0:Bx)(p1:List Ao)(y1:List BL×Int×Az×Ah)(o1:Ah)(o2:Az)(a1:Int):Option (Int×Bx×Az×Ah):=
 cond (!decide (a1=0))
 (
  some (a1,{ p0 with bad:=true },o2,o1))
 (
  (Da n p0 o2 o1 p1 y1.1).bind fun y3=>
  some (0,y3.1,y3.2,o1))
def Ds(n:Nat)(T:List UInt32)(p0:Bx)(p0_1:Az)(p0_2:Ah)(p1:List Ao)(p2:List BL):Option (Int×Bx×Az×Ah):=
 (Sc n T p0_1 p0_2 p1 p2).bind fun y1=>
 ret (decide (y1.2.1=110)) fun x1=>
 cond x1
 (
  some (y1.2.1,p0,y1.2.2.1,y1.2.2.2))
 (
  ret (decide (y1.2.1=0)) fun x2=>
  cond x2
  (
   (EJ n T p0 y1.2.2.1 y1.2.2.2 p1 y1.1).bind fun y2=>
   Ei n p0 p1 y1 y2.2.2 y2.2.1 y2.1)
  (
   Ei n p0 p1 y1 y1.2.2.2 y1.2.2.1 y1.2.1))
theorem Rc{n Al Cc Bm BD BI BJ:Nat}{T:List UInt32}{Au Ad A0 BY Bn BK Dt GP:Value}{p0:Bx}{p0_1:Az}{p0_2:Ah}{p1:List Ao}{p2:List BL}{r:Int×Bx×Az×Ah}(h:Ds n T p0 p0_1 p0_2 p1 p2=some r)(hS:GF K w0 T)(hs2_:B9 K w0 AU 3 GP p2):zC K w0 45 [vP Al 0,Dt,GP] [AK Al (.cells #[Au,Ad,A0,vP BD 0,vP Cc 0,BY,AA p0.gen,vB p0.bad] 94),AC 35 4 Au AW p0.rows,AC 190 3 Ad AU p0.pages,DA A0 AA AA p0.gens,AC 114 2 BY AZ p0.ring,AK Cc (.cells #[vP BD 0,Bn,AA p0_1.gen,AA p0_1.boot,AV p0_1.seals,.map (some Bm)] 181),AC 114 2 Bn AZ p0_1.ring,Ab Bm AA vB p0_1.taken,AK BD (.cells #[vB p0_2.off,vB p0_2.isCut,vI p0_2.lasts,vI p0_2.counts,BK,.map (some BI),.map (some BJ),AV p0_2.rcnt,vS p0_2.rtag,AA p0_2.rboots] 100),AC 9 1 BK eS p0_2.blocks,Ab BI AA vS p0_2.pend,Ab BJ AA vB p0_2.bad,AC 35 4 Dt AW p1] H (fun u M=>∃vs0_0_0 vs0_0_1 vs0_0_2:Value,u=vI r.1∧M=[AK Al (.cells #[vs0_0_0,vs0_0_1,vs0_0_2,vP BD 0,vP Cc 0,BY,AA r.2.1.gen,vB r.2.1.bad] 94),AC 35 4 vs0_0_0 AW r.2.1.rows,AC 190 3 vs0_0_1 AU r.2.1.pages,DA vs0_0_2 AA AA r.2.1.gens,AC 114 2 BY AZ r.2.1.ring,AK Cc (.cells #[vP BD 0,Bn,AA r.2.2.1.gen,AA r.2.2.1.boot,AV r.2.2.1.seals,.map (some Bm)] 181),AC 114 2 Bn AZ r.2.2.1.ring,Ab Bm AA vB r.2.2.1.taken,AK BD (.cells #[vB r.2.2.2.off,vB r.2.2.2.isCut,vI r.2.2.2.lasts,vI r.2.2.2.counts,BK,.map (some BI),.map (some BJ),AV r.2.2.2.rcnt,vS r.2.2.2.rtag,AA r.2.2.2.rboots] 100),AC 9 1 BK eS r.2.2.2.blocks,Ab BI AA vS r.2.2.2.pend,Ab BJ AA vB r.2.2.2.bad]):=by
 unfold Ds at h
 refine Td.enter Tryz.func45 rfl rfl ?_
 refine Y (U E (V (Y ?_)))
 refine AE h fun y1 hy1 h=>?_
 refine J E (AT E E (AF E S2 (AG 0 Sd E (J E (J E (SL.pick [12,5,6,7,8,9,10,11,0,1,2,3,4] 13 ?_))))))
 refine Bd (vs:=[_,_,_]) (Hin:=[_,_,_,_,_,_,_,_]) (Hr:=_::_::_::_::_::_) E E ⟨E,E,E,zT⟩ kY E E (Cm (B:=[_]) (Hin:=[_,_,_,_,_,_,_]) fun K' w1 hk hB=>iD hy1 (hS.keeps hk) (CT (e:=35) (v:=Dt) zV (hB _ zS)) (hs2_.keeps hk)) ?_
 rintro _ _ ⟨_,rfl,v1,rfl,rfl⟩
 refine⟨trivial,?_⟩
 refine J E (Ae E E E (Ae E E E (U E (U E (V ?_)))))
 refine BB (α:=Ah×Az×Int) (fun x=>Ei n p0 p1 y1 x.1 x.2.1 x.2.2=some r) (fun x=>[(0,vP Al 0),(1,Dt),(7,v1),(8,vI x.2.2)]) (fun x=>AK Al (.cells #[Au,Ad,A0,vP BD 0,vP Cc 0,BY,AA p0.gen,vB p0.bad] 94)::AC 35 4 Au AW p0.rows::AC 190 3 Ad AU p0.pages::DA A0 AA AA p0.gens::AK BD (.cells #[vB x.1.off,vB x.1.isCut,vI x.1.lasts,vI x.1.counts,BK,.map (some BI),.map (some BJ),AV x.1.rcnt,vS x.1.rtag,AA x.1.rboots] 100)::AC 9 1 BK eS x.1.blocks::Ab BI AA vS x.1.pend::Ab BJ AA vB x.1.bad::AK Cc (.cells #[vP BD 0,Bn,AA x.2.1.gen,AA x.2.1.boot,AV x.2.1.seals,.map (some Bm)] 181)::AC 114 2 Bn AZ x.2.1.ring::Ab Bm AA vB x.2.1.taken::AC 114 2 BY AZ p0.ring::AC 35 4 Dt AW p1::AC 190 3 v1 AU y1.1::H) ?_ (fun x D h=>?_)
 refine Y (J E (V (AQ (Y ?_))))
 obtain⟨x1,ex1,h⟩:=Bz h
 refine Z E Bg ?_
 refine Ak (u:=vB x1) E E (congrArg vB ex1) ?_
 refine V ?_
 refine AN h E (fun hc1 h=>?_) fun hc1 h=>?_
 refine Y (J E (U E (V (AL (BC (GZ ?_))))))
 obtain rfl:=zI h
 exact Bi [9,10,11,12,13,2,3,4,5,6,7,8] 14 (Cl E E) E E ⟨Au,Ad,A0,E,E⟩
 refine Y ?_
 obtain⟨x2,ex2,h⟩:=Bz h
 refine Z E Bg ?_
 refine Ak (u:=vB x2) E E (congrArg vB ex2) ?_
 refine V ?_
 refine AN h E (fun hc2 h=>?_) fun hc2 h=>?_
 refine AS ?_
 refine AE h fun y2 hy2 h=>?_
 refine J E (J E (J E (SL.pick [0,1,9,10,11,12,13,2,3,4,5,6,7,8] 14 ?_)))
 refine Bd (vs:=[_,_,_]) (Hin:=[_,_,_,_,_,_,_,_,_,_,_,_,_,_]) (Hr:=_) E E ⟨E,E,E,zT⟩ kZ E E (Cm (B:=[_,_]) (Hin:=[_,_,_,_,_,_,_,_,_,_,_,_]) fun K' w1 hk hB=>MX hy2 (hS.keeps hk) (CT (e:=35) (v:=Dt) zV (hB _ zS)) (CT (e:=190) (v:=v1) zV (hB _ zS))) ?_
 rintro _ _ ⟨_,rfl,rfl,rfl⟩
 refine⟨trivial,?_⟩
 refine U E (Aa (An ?_))
 exact Ap (y2.2.2,y2.2.1,y2.1) h tL (BR [2,3,4,5,10,11,12,13,7,8,9,6,0,1] 14 E E E)
 refine AJ (An ?_)
 exact Ap (y1.2.2.2,y1.2.2.1,y1.2.1) h tL (BR [9,10,11,12,5,6,7,8,2,3,4,13,0,1] 14 E E E)
 obtain⟨o1,o2,a1⟩:=x
 dsimp only at h
 unfold Ei at h
 try dsimp only
 refine AH (Y (J E (Z E BO (V ?_))))
 refine AN h E (fun hc3 h=>?_) fun hc3 h=>?_
 refine Y (J E (AT E E (AF E aV (A8 0 E E E E Re E E E zT (V (Y (J E (U E (V (AL (Ac ?_)))))))))))
 obtain rfl:=zI h
 exact Bi [0,1,2,3,11,8,9,10,4,5,6,7] 14 (Cl E E) E E ⟨Au,Ad,A0,E,E⟩
 refine AJ (AI (Y ?_))
 refine AE h fun y3 hy3 h=>?_
 refine J E (J E (J E (SL.pick [0,1,2,3,11,8,9,10,4,5,6,7,12,13] 14 (BS 14 ka (Nr hy3) E ?_))))
 rintro _ _ ⟨v2,v3,v4,rfl,rfl⟩
 refine V (Y (U E (V (AL ?_))))
 obtain rfl:=zI h
 exact Bi [0,1,2,3,4,5,6,7,8,9,10,11] 12 (Cl E E) E E ⟨v2,v3,v4,E,E⟩
def FN(n:Nat)(p0:Bx)(p1:List Ao)(y1:List BL×Int×Az×Ah)(o1:Ah)(o2:Az)(a1:Int):Option (Int×Bx×Az×Ah):=
 cond (!decide (a1=0))
 (
  some (a1,{ p0 with bad:=true },o2,o1))
 (
  (Da n p0 o2 o1 p1 y1.1).bind fun y3=>
  some (0,y3.1,y3.2,o1))
def FC(n:Nat)(T:List UInt32)(p0:Bx)(p0_1:Az)(p0_2:Ah)(p1:List Ao):Option (Int×Bx×Az×Ah):=
 (Sc n T p0_1 p0_2 p1 p0.pages).bind fun y1=>
 ret (decide (y1.2.1=110)) fun x1=>
 cond x1
 (
  some (y1.2.1,p0,y1.2.2.1,y1.2.2.2))
 (
  ret (decide (y1.2.1=0)) fun x2=>
  cond x2
  (
   (EJ n T p0 y1.2.2.1 y1.2.2.2 p1 y1.1).bind fun y2=>
   FN n p0 p1 y1 y2.2.2 y2.2.1 y2.1)
  (
   FN n p0 p1 y1 y1.2.2.2 y1.2.2.1 y1.2.1))
theorem Qo{n Al Cc Bm BD BI BJ:Nat}{T:List UInt32}{Au Ad A0 BY Bn BK Dt:Value}{p0:Bx}{p0_1:Az}{p0_2:Ah}{p1:List Ao}{r:Int×Bx×Az×Ah}(h:FC n T p0 p0_1 p0_2 p1=some r)(hS:GF K w0 T):zC K w0 45 [vP Al 0,Dt,Ad] [AK Al (.cells #[Au,Ad,A0,vP BD 0,vP Cc 0,BY,AA p0.gen,vB p0.bad] 94),AC 35 4 Au AW p0.rows,AC 190 3 Ad AU p0.pages,DA A0 AA AA p0.gens,AC 114 2 BY AZ p0.ring,AK Cc (.cells #[vP BD 0,Bn,AA p0_1.gen,AA p0_1.boot,AV p0_1.seals,.map (some Bm)] 181),AC 114 2 Bn AZ p0_1.ring,Ab Bm AA vB p0_1.taken,AK BD (.cells #[vB p0_2.off,vB p0_2.isCut,vI p0_2.lasts,vI p0_2.counts,BK,.map (some BI),.map (some BJ),AV p0_2.rcnt,vS p0_2.rtag,AA p0_2.rboots] 100),AC 9 1 BK eS p0_2.blocks,Ab BI AA vS p0_2.pend,Ab BJ AA vB p0_2.bad,AC 35 4 Dt AW p1] H (fun u M=>∃vs0_0_0 vs0_0_1 vs0_0_2:Value,u=vI r.1∧M=[AK Al (.cells #[vs0_0_0,vs0_0_1,vs0_0_2,vP BD 0,vP Cc 0,BY,AA r.2.1.gen,vB r.2.1.bad] 94),AC 35 4 vs0_0_0 AW r.2.1.rows,AC 190 3 vs0_0_1 AU r.2.1.pages,DA vs0_0_2 AA AA r.2.1.gens,AC 114 2 BY AZ r.2.1.ring,AK Cc (.cells #[vP BD 0,Bn,AA r.2.2.1.gen,AA r.2.2.1.boot,AV r.2.2.1.seals,.map (some Bm)] 181),AC 114 2 Bn AZ r.2.2.1.ring,Ab Bm AA vB r.2.2.1.taken,AK BD (.cells #[vB r.2.2.2.off,vB r.2.2.2.isCut,vI r.2.2.2.lasts,vI r.2.2.2.counts,BK,.map (some BI),.map (some BJ),AV r.2.2.2.rcnt,vS r.2.2.2.rtag,AA r.2.2.2.rboots] 100),AC 9 1 BK eS r.2.2.2.blocks,Ab BI AA vS r.2.2.2.pend,Ab BJ AA vB r.2.2.2.bad]):=by
 unfold FC at h
 refine Td.enter Tryz.func45 rfl rfl ?_
 refine Y (U E (V (Y ?_)))
 refine AE h fun y1 hy1 h=>?_
 refine J E (AT E E (AF E S2 (AG 0 Sd E (J E (J E (SL.pick [12,2,5,6,7,8,9,10,11,0,1,3,4] 13 ?_))))))
 refine Bd (vs:=[_,_,_]) (Hin:=[_,_,_,_,_,_,_,_,_]) (Hr:=_::_::_::_::_) E E ⟨E,E,E,zT⟩ kY E E (Cm (B:=[_,_]) (Hin:=[_,_,_,_,_,_,_]) fun K' w1 hk hB=>iD hy1 (hS.keeps hk) (CT (e:=35) (v:=Dt) zV (hB _ zS)) (CT (e:=190) (v:=Ad) zV (hB _ zS))) ?_
 rintro _ _ ⟨_,rfl,v1,rfl,rfl⟩
 refine⟨trivial,?_⟩
 refine J E (Ae E E E (Ae E E E (U E (U E (V ?_)))))
 refine BB (α:=Ah×Az×Int) (fun x=>FN n p0 p1 y1 x.1 x.2.1 x.2.2=some r) (fun x=>[(0,vP Al 0),(1,Dt),(7,v1),(8,vI x.2.2)]) (fun x=>AK Al (.cells #[Au,Ad,A0,vP BD 0,vP Cc 0,BY,AA p0.gen,vB p0.bad] 94)::AC 35 4 Au AW p0.rows::AC 190 3 Ad AU p0.pages::DA A0 AA AA p0.gens::AK BD (.cells #[vB x.1.off,vB x.1.isCut,vI x.1.lasts,vI x.1.counts,BK,.map (some BI),.map (some BJ),AV x.1.rcnt,vS x.1.rtag,AA x.1.rboots] 100)::AC 9 1 BK eS x.1.blocks::Ab BI AA vS x.1.pend::Ab BJ AA vB x.1.bad::AK Cc (.cells #[vP BD 0,Bn,AA x.2.1.gen,AA x.2.1.boot,AV x.2.1.seals,.map (some Bm)] 181)::AC 114 2 Bn AZ x.2.1.ring::Ab Bm AA vB x.2.1.taken::AC 114 2 BY AZ p0.ring::AC 35 4 Dt AW p1::AC 190 3 v1 AU y1.1::H) ?_ (fun x D h=>?_)
 refine Y (J E (V (AQ (Y ?_))))
 obtain⟨x1,ex1,h⟩:=Bz h
 refine Z E Bg ?_
 refine Ak (u:=vB x1) E E (congrArg vB ex1) ?_
 refine V ?_
 refine AN h E (fun hc1 h=>?_) fun hc1 h=>?_
 refine Y (J E (U E (V (AL (BC (GZ ?_))))))
 obtain rfl:=zI h
 exact Bi [10,11,1,12,13,3,4,5,6,7,8,9] 14 (Cl E E) E E ⟨Au,Ad,A0,E,E⟩
 refine Y ?_
 obtain⟨x2,ex2,h⟩:=Bz h
 refine Z E Bg ?_
 refine Ak (u:=vB x2) E E (congrArg vB ex2) ?_
 refine V ?_
 refine AN h E (fun hc2 h=>?_) fun hc2 h=>?_
 refine AS ?_
 refine AE h fun y2 hy2 h=>?_
 refine J E (J E (J E (SL.pick [0,2,10,11,1,12,13,3,4,5,6,7,8,9] 14 ?_)))
 refine Bd (vs:=[_,_,_]) (Hin:=[_,_,_,_,_,_,_,_,_,_,_,_,_,_]) (Hr:=_) E E ⟨E,E,E,zT⟩ kZ E E (Cm (B:=[_,_]) (Hin:=[_,_,_,_,_,_,_,_,_,_,_,_]) fun K' w1 hk hB=>MX hy2 (hS.keeps hk) (CT (e:=35) (v:=Dt) zV (hB _ zS)) (CT (e:=190) (v:=v1) zV (hB _ zS))) ?_
 rintro _ _ ⟨_,rfl,rfl,rfl⟩
 refine⟨trivial,?_⟩
 refine U E (Aa (An ?_))
 exact Ap (y2.2.2,y2.2.1,y2.1) h tL (BR [2,3,4,5,10,11,12,13,7,8,9,6,0,1] 14 E E E)
 refine AJ (An ?_)
 exact Ap (y1.2.2.2,y1.2.2.1,y1.2.1) h tL (BR [10,11,1,12,6,7,8,9,3,4,5,13,0,2] 14 E E E)
 obtain⟨o1,o2,a1⟩:=x
 dsimp only at h
 unfold FN at h
 try dsimp only
 refine AH (Y (J E (Z E BO (V ?_))))
 refine AN h E (fun hc3 h=>?_) fun hc3 h=>?_
 refine Y (J E (AT E E (AF E aV (A8 0 E E E E Re E E E zT (V (Y (J E (U E (V (AL (Ac ?_)))))))))))
 obtain rfl:=zI h
 exact Bi [0,1,2,3,11,8,9,10,4,5,6,7] 14 (Cl E E) E E ⟨Au,Ad,A0,E,E⟩
 refine AJ (AI (Y ?_))
 refine AE h fun y3 hy3 h=>?_
 refine J E (J E (J E (SL.pick [0,1,2,3,11,8,9,10,4,5,6,7,12,13] 14 (BS 14 ka (Nr hy3) E ?_))))
 rintro _ _ ⟨v2,v3,v4,rfl,rfl⟩
 refine V (Y (U E (V (AL ?_))))
 obtain rfl:=zI h
 exact Bi [0,1,2,3,4,5,6,7,8,9,10,11] 12 (Cl E E) E E ⟨v2,v3,v4,E,E⟩
def I1(o1:Ah)(o2:Bx)(o3:Az)(a1:Int):Option (Option (Bx×Az)×Int×Ah):=
 cond (!decide (a1=0))
 (
  some (none,a1,o1))
 (
  some (some (o2,o3),0,o1))
def JL(n:Nat)(T:List UInt32)(p0:Ah)(p1:List BP):Option (Option (Bx×Az)×Int×Ah):=
 (II p1).bind fun y1=>
 (Ij (decide (y1.2=0)) ((HS p0).bind fun y2=>some (y2))).bind fun y3=>
 cond y3
 (
  some (none,72,p0))
 (
  (KH p0 p1).bind fun y4=>
  (y4.1).bind fun d1=>
  cond (decide (y4.2.1=0))
  (
   (Ds n T d1.1 d1.2 y4.2.2 [] []).bind fun y5=>
   I1 y5.2.2.2 y5.2.1 y5.2.2.1 y5.1)
  (
   I1 y4.2.2 d1.1 d1.2 y4.2.1))
theorem WP{n Al A4 Bo:Nat}{T:List UInt32}{Bp Dt:Value}{p0:Ah}{p1:List BP}{r:Option (Bx×Az)×Int×Ah}(h:JL n T p0 p1=some r)(hS:GF K w0 T)(hs1_:B9 K w0 AZ 2 Dt p1):zC K w0 27 [vP Al 0,Dt] [AK Al (.cells #[vB p0.off,vB p0.isCut,vI p0.lasts,vI p0.counts,Bp,.map (some A4),.map (some Bo),AV p0.rcnt,vS p0.rtag,AA p0.rboots] 100),AC 9 1 Bp eS p0.blocks,Ab A4 AA vS p0.pend,Ab Bo AA vB p0.bad] H (fun u M=>(r.1=none∧u=.tuple #[.pointer none,vI r.2.1]∧M=[AK Al (.cells #[vB r.2.2.off,vB r.2.2.isCut,vI r.2.2.lasts,vI r.2.2.counts,Bp,.map (some A4),.map (some Bo),AV r.2.2.rcnt,vS r.2.2.rtag,AA r.2.2.rboots] 100),AC 9 1 Bp eS r.2.2.blocks,Ab A4 AA vS r.2.2.pend,Ab Bo AA vB r.2.2.bad])∨(∃(d:Bx×Az) (bn0:Nat) (vn0x0:Value) (vn0x1:Value) (vn0x2:Value) (vn0x5:Value) (bn1:Nat) (vn1x1:Value) (mn1x5:Nat),r.1=some d∧u=.tuple #[vP bn0 0,vI r.2.1]∧M=[AK bn0 (.cells #[vn0x0,vn0x1,vn0x2,vP Al 0,vP bn1 0,vn0x5,AA d.1.gen,vB d.1.bad] 94),AC 35 4 vn0x0 AW d.1.rows,AC 190 3 vn0x1 AU d.1.pages,DA vn0x2 AA AA d.1.gens,AC 114 2 vn0x5 AZ d.1.ring,AK bn1 (.cells #[vP Al 0,vn1x1,AA d.2.gen,AA d.2.boot,AV d.2.seals,.map (some mn1x5)] 181),AC 114 2 vn1x1 AZ d.2.ring,Ab mn1x5 AA vB d.2.taken,AK Al (.cells #[vB r.2.2.off,vB r.2.2.isCut,vI r.2.2.lasts,vI r.2.2.counts,Bp,.map (some A4),.map (some Bo),AV r.2.2.rcnt,vS r.2.2.rtag,AA r.2.2.rboots] 100),AC 9 1 Bp eS r.2.2.blocks,Ab A4 AA vS r.2.2.pend,Ab Bo AA vB r.2.2.bad])):=by
 unfold JL at h
 refine Td.enter Tryz.func27 rfl rfl ?_
 refine Y (U E (U E (V (AH (Y (J E (EL E U3 E E (V (C0 E (AJ (AI (AH (Y ?_)))))))))))))
 refine AE h fun y1 hy1 h=>?_
 refine J E (AP 0 kT (Rt hy1 hs1_) E (J E (Ae E E E (Ae E E E (U E (U E (V (Y ?_))))))))
 refine AE h fun y3 hy3 h=>?_
 refine J E (Z E Bg (J E ?_))
 refine FR 19 3 22 hy3 E (fun hb hg1 k=>?_) (fun hb k=>?_) ?_
 obtain⟨y2,hy2,hg1⟩:=Ek hg1
 obtain rfl:=zI hg1
 refine J E (AP 4 kU (RQ hy2) E (Ai E E E ?_))
 exact k.mono tL
 refine AD E (AD E (Ai E E E ?_))
 exact k.mono tL
 refine V ?_
 refine AN h E (fun hc2 h=>?_) fun hc2 h=>?_
 refine Y (U E (U E (V (AL (Ac ?_)))))
 obtain rfl:=zI h
 exact Ag (ER E E E) (Af (M:=[_,_,_,_]) (.inl ⟨E,E,E⟩) fun _ hw=>BW.pick (H:=[_,_,_,_]) hw [0,1,2,3] 4 E)
 refine AJ (AI (Y ?_))
 refine AE h fun y4 hy4 h=>?_
 refine AE h fun d1 hd1 h=>?_
 refine J E (J E ?_)
 refine Bd (vs:=[_,_]) (Hin:=[_,_,_,_]) (Hr:=_) E E ⟨E,E,zT⟩ qI E E (XN hy4 hs1_) ?_
 rintro _ _ (⟨hn,-,-⟩ | ⟨d_,b1,v1,v2,v3,v4,b2,v5,m1,hn,rfl,rfl⟩)
 rw[hd1]at hn;cases hn
 obtain rfl:d1=d_:=zI (hd1.symm.trans hn)
 refine⟨trivial,?_⟩
 refine J E (Ae E E E (Ae E E E (U E (U E (V ?_)))))
 refine BB (α:=Ah×Bx×Value×Value×Value×Az×Int) (fun x=>I1 x.1 x.2.1 x.2.2.2.2.2.1 x.2.2.2.2.2.2=some r) (fun x=>[(0,vP Al 0),(8,vP b1 0),(9,vI x.2.2.2.2.2.2)]) (fun x=>AK Al (.cells #[vB x.1.off,vB x.1.isCut,vI x.1.lasts,vI x.1.counts,Bp,.map (some A4),.map (some Bo),AV x.1.rcnt,vS x.1.rtag,AA x.1.rboots] 100)::AC 9 1 Bp eS x.1.blocks::Ab A4 AA vS x.1.pend::Ab Bo AA vB x.1.bad::AK b1 (.cells #[x.2.2.1,x.2.2.2.1,x.2.2.2.2.1,vP Al 0,vP b2 0,v4,AA x.2.1.gen,vB x.2.1.bad] 94)::AC 35 4 x.2.2.1 AW x.2.1.rows::AC 190 3 x.2.2.2.1 AU x.2.1.pages::DA x.2.2.2.2.1 AA AA x.2.1.gens::AK b2 (.cells #[vP Al 0,v5,AA x.2.2.2.2.2.1.gen,AA x.2.2.2.2.2.1.boot,AV x.2.2.2.2.2.1.seals,.map (some m1)] 181)::AC 114 2 v5 AZ x.2.2.2.2.2.1.ring::Ab m1 AA vB x.2.2.2.2.2.1.taken::AC 114 2 v4 AZ x.2.1.ring::H) ?_ (fun x D h=>?_)
 refine Y (J E (Z E Bg (V ?_)))
 refine AN h E (fun hc3 h=>?_) fun hc3 h=>?_
 refine AS ?_
 refine AE h fun y5 hy5 h=>?_
 refine J E (B8 35 4 AW (SL.pick [1,2,3,4,5,6,7,8,9,10,11,12,0] 13 ?_))
 refine BS 13 kV (Rc hy5 hS (B9.nil zV)) E ?_
 rintro _ _ ⟨v9,v10,v11,rfl,rfl⟩
 refine U E (Aa ?_)
 exact Ap (y5.2.2.2,y5.2.1,v9,v10,v11,y5.2.2.1,y5.1) h tL (BR [8,9,10,11,0,1,2,3,5,6,7,4] 12 E E E)
 refine AJ ?_
 exact Ap (y4.2.2,d1.1,v1,v2,v3,d1.2,y4.2.1) h tL (BR [8,9,10,11,0,1,2,3,5,6,7,4] 12 E E E)
 obtain⟨o1,o2,v6,v7,v8,o3,a1⟩:=x
 dsimp only at h
 unfold I1 at h
 try dsimp only
 refine AH (Y (J E (Z E BO (V ?_))))
 refine AN h E (fun hc4 h=>?_) fun hc4 h=>?_
 refine Y (J E (U E (U E (V (AL (Ac ?_))))))
 obtain rfl:=zI h
 exact Ag (ER E E E) (Af (M:=[_,_,_,_]) (.inl ⟨E,E,E⟩) fun _ hw=>BW.pick (H:=[_,_,_,_,_,_,_,_,_,_,_,_]) hw [0,1,2,3] 12 E)
 refine AJ (AI (Y (J E (U E (U E (V (AL ?_)))))))
 obtain rfl:=zI h
 exact Ag (ER E E E) (Af (M:=[_,_,_,_,_,_,_,_,_,_,_,_]) (.inr ⟨_,b1,v6,v7,v8,v4,b2,v5,m1,E,E,E⟩) fun _ hw=>BW.pick (H:=[_,_,_,_,_,_,_,_,_,_,_,_]) hw [4,5,6,7,11,8,9,10,0,1,2,3] 12 E)
def Hq(p0:Bx)(p0_1:Az)(p0_2:Ah):Option Int:=
 cond p0.bad
 (
  some 131)
 (
  some 0)
theorem R7{Al Cc Bm BD BI BJ:Nat}{Au Ad A0 BY Bn BK:Value}{p0:Bx}{p0_1:Az}{p0_2:Ah}{r:Int}(h:Hq p0 p0_1 p0_2=some r): zC K w0 52 [vP Al 0] [AK Al (.cells #[Au,Ad,A0,vP BD 0,vP Cc 0,BY,AA p0.gen,vB p0.bad] 94),AC 35 4 Au AW p0.rows,AC 190 3 Ad AU p0.pages,DA A0 AA AA p0.gens,AC 114 2 BY AZ p0.ring,AK Cc (.cells #[vP BD 0,Bn,AA p0_1.gen,AA p0_1.boot,AV p0_1.seals,.map (some Bm)] 181),AC 114 2 Bn AZ p0_1.ring,Ab Bm AA vB p0_1.taken,AK BD (.cells #[vB p0_2.off,vB p0_2.isCut,vI p0_2.lasts,vI p0_2.counts,BK,.map (some BI),.map (some BJ),AV p0_2.rcnt,vS p0_2.rtag,AA p0_2.rboots] 100),AC 9 1 BK eS p0_2.blocks,Ab BI AA vS p0_2.pend,Ab BJ AA vB p0_2.bad] H (fun u M=>u=vI r∧M=[AK Al (.cells #[Au,Ad,A0,vP BD 0,vP Cc 0,BY,AA p0.gen,vB p0.bad] 94),AC 35 4 Au AW p0.rows,AC 190 3 Ad AU p0.pages,DA A0 AA AA p0.gens,AC 114 2 BY AZ p0.ring,AK Cc (.cells #[vP BD 0,Bn,AA p0_1.gen,AA p0_1.boot,AV p0_1.seals,.map (some Bm)] 181),AC 114 2 Bn AZ p0_1.ring,Ab Bm AA vB p0_1.taken,AK BD (.cells #[vB p0_2.off,vB p0_2.isCut,vI p0_2.lasts,vI p0_2.counts,BK,.map (some BI),.map (some BJ),AV p0_2.rcnt,vS p0_2.rtag,AA p0_2.rboots] 100),AC 9 1 BK eS p0_2.blocks,Ab BI AA vS p0_2.pend,Ab BJ AA vB p0_2.bad]):=by
 unfold Hq at h
 refine Td.enter Tryz.func52 rfl rfl ?_
 refine Y (U E (V (AH (AQ (Y (J E (EL E hY E E (U E (V (C0 E (Y (J E (AT E E (AF E aV ?_))))))))))))))
 refine AG 0 U1 E (U E (V ?_))
 refine AN h E (fun hc2 h=>?_) fun hc2 h=>?_
 refine Y (U E (V (AL (BC (Ac ?_)))))
 obtain rfl:=zI h
 exact AX [0,1,2,3,4,5,6,7,8,9,10,11] 12 E E E
 refine AJ (An (AI (Y (U E (V (AL ?_))))))
 obtain rfl:=zI h
 exact AX [0,1,2,3,4,5,6,7,8,9,10,11] 12 E E E
def Dr(n:Nat)(T:List UInt32)(p0:Bx)(p0_1:Az)(p0_2:Ah)(p1:List H9):Option (Int×Int×Bx×Az×Ah):=
 (Hq p0 p0_1 p0_2).bind fun y1=>
 cond (!decide (y1=0))
 (
  some (0,y1,p0,p0_1,p0_2))
 (
  (Sw n p0.rows p1).bind fun y2=>
  ret (!decide (y2.2.2=0)) fun x1=>
  cond x1
  (
   some (y2.2.1,y2.2.2,p0,p0_1,p0_2))
  (
   (HS p0_2).bind fun y3=>
   cond y3
   (
    some (0,72,p0,p0_1,p0_2))
   (
    (FC n T p0 p0_1 p0_2 y2.1).bind fun y4=>
    some (0,y4.1,y4.2.1,y4.2.2.1,y4.2.2.2))))
theorem NB{n Al Cc Bm BD BI BJ:Nat}{T:List UInt32}{Au Ad A0 BY Bn BK Dt:Value}{p0:Bx}{p0_1:Az}{p0_2:Ah}{p1:List H9}{r:Int×Int×Bx×Az×Ah}(h:Dr n T p0 p0_1 p0_2 p1=some r)(hS:GF K w0 T)(hs1_:B9 K w0 B7 5 Dt p1):zC K w0 34 [vP Al 0,Dt] [AK Al (.cells #[Au,Ad,A0,vP BD 0,vP Cc 0,BY,AA p0.gen,vB p0.bad] 94),AC 35 4 Au AW p0.rows,AC 190 3 Ad AU p0.pages,DA A0 AA AA p0.gens,AC 114 2 BY AZ p0.ring,AK Cc (.cells #[vP BD 0,Bn,AA p0_1.gen,AA p0_1.boot,AV p0_1.seals,.map (some Bm)] 181),AC 114 2 Bn AZ p0_1.ring,Ab Bm AA vB p0_1.taken,AK BD (.cells #[vB p0_2.off,vB p0_2.isCut,vI p0_2.lasts,vI p0_2.counts,BK,.map (some BI),.map (some BJ),AV p0_2.rcnt,vS p0_2.rtag,AA p0_2.rboots] 100),AC 9 1 BK eS p0_2.blocks,Ab BI AA vS p0_2.pend,Ab BJ AA vB p0_2.bad] H (fun u M=>∃vs0_0_0 vs0_0_1 vs0_0_2:Value,u=.tuple #[vI r.1,vI r.2.1]∧M=[AK Al (.cells #[vs0_0_0,vs0_0_1,vs0_0_2,vP BD 0,vP Cc 0,BY,AA r.2.2.1.gen,vB r.2.2.1.bad] 94),AC 35 4 vs0_0_0 AW r.2.2.1.rows,AC 190 3 vs0_0_1 AU r.2.2.1.pages,DA vs0_0_2 AA AA r.2.2.1.gens,AC 114 2 BY AZ r.2.2.1.ring,AK Cc (.cells #[vP BD 0,Bn,AA r.2.2.2.1.gen,AA r.2.2.2.1.boot,AV r.2.2.2.1.seals,.map (some Bm)] 181),AC 114 2 Bn AZ r.2.2.2.1.ring,Ab Bm AA vB r.2.2.2.1.taken,AK BD (.cells #[vB r.2.2.2.2.off,vB r.2.2.2.2.isCut,vI r.2.2.2.2.lasts,vI r.2.2.2.2.counts,BK,.map (some BI),.map (some BJ),AV r.2.2.2.2.rcnt,vS r.2.2.2.2.rtag,AA r.2.2.2.2.rboots] 100),AC 9 1 BK eS r.2.2.2.2.blocks,Ab BI AA vS r.2.2.2.2.pend,Ab BJ AA vB r.2.2.2.2.bad]):=by
 unfold Dr at h
 refine Td.enter Tryz.func34 rfl rfl ?_
 refine Y (U E (U E (V (AH (Y ?_)))))
 refine AE h fun y1 hy1 h=>?_
 refine J E (AP 12 qP (R7 hy1) E (U E (V (Y (J E (Z E BO (V ?_)))))))
 refine AN h E (fun hc1 h=>?_) fun hc1 h=>?_
 refine Y (J E (U E (U E (V (AL (Ac ?_))))))
 obtain rfl:=zI h
 exact Bi [0,1,2,3,4,5,6,7,8,9,10,11] 12 (ER E E E) E E ⟨Au,Ad,A0,E,E⟩
 refine AJ (AI (Y ?_))
 refine AE h fun y2 hy2 h=>?_
 refine J E (AT E E (AF E Pg (AF E aT (AG 0 FY E (J E (SL.pick [1,0] 2 ?_))))))
 refine Bd (vs:=[_,_]) (Hin:=[_]) (Hr:=_::_::_::_::_::_::_::_::_::_::_::_) E E ⟨E,E,zT⟩ qQ E E (Cm (B:=[_]) (Hin:=[]) fun K' w1 hk hB=>kH hy2 (CT (e:=35) (v:=Au) zV (hB _ zS)) (hs1_.keeps hk)) ?_
 rintro _ _ ⟨_,rfl,v1,rfl,rfl⟩
 refine⟨trivial,?_⟩
 refine J E (Ae E E E (Ae E E E (Ae E E E (U E (U E (U E (V (AH (AQ (Y ?_))))))))))
 obtain⟨x1,ex1,h⟩:=Bz h
 refine J E (Z E BO ?_)
 refine Ak (u:=vB x1) E E (congrArg vB ex1) ?_
 refine V ?_
 refine AN h E (fun hc2 h=>?_) fun hc2 h=>?_
 refine Y (J E (J E (U E (U E (V (AL (BC (Ac ?_))))))))
 obtain rfl:=zI h
 exact Bi [2,0,3,4,5,6,7,8,9,10,11,12] 13 (ER E E E) E E ⟨Au,Ad,A0,E,E⟩
 refine Y ?_
 refine AE h fun y3 hy3 h=>?_
 refine J E (AT E E (AF E OT (AG 2 NC E (SL.pick [9,10,11,12,0,1,2,3,4,5,6,7,8] 13 (AP 4 kU (RQ hy3) E (U E (V ?_)))))))
 refine AN h E (fun hc3 h=>?_) fun hc3 h=>?_
 refine Y (U E (U E (V (AL (BC (Ac ?_))))))
 obtain rfl:=zI h
 exact Bi [6,4,7,8,9,10,11,12,0,1,2,3] 13 (ER E E E) E E ⟨Au,Ad,A0,E,E⟩
 refine AJ (An (AI (Y ?_)))
 refine AE h fun y4 hy4 h=>?_
 refine J E (J E (J E (AT E E (AF E Pg (AF E aU (AG 6 QU E (SL.pick [6,4,7,8,9,10,11,12,0,1,2,3,5] 13 ?_)))))))
 refine BS 13 kV (Qo hy4 hS) E ?_
 rintro _ _ ⟨v2,v3,v4,rfl,rfl⟩
 refine U E (U E (V (AL ?_)))
 obtain rfl:=zI h
 exact Bi [0,1,2,3,4,5,6,7,8,9,10,11] 12 (ER E E E) E E ⟨v2,v3,v4,E,E⟩
def Cy(p0:Bx)(p0_1:Az)(p0_2:Ah):Option (List Ao):=
 (PZ p0.rows).bind fun y1=>
 some y1
theorem OI{Al Cc Bm BD BI BJ:Nat}{Au Ad A0 BY Bn BK:Value}{p0:Bx}{p0_1:Az}{p0_2:Ah}{r:List Ao}(h:Cy p0 p0_1 p0_2=some r): zC K w0 12 [vP Al 0] [AK Al (.cells #[Au,Ad,A0,vP BD 0,vP Cc 0,BY,AA p0.gen,vB p0.bad] 94),AC 35 4 Au AW p0.rows,AC 190 3 Ad AU p0.pages,DA A0 AA AA p0.gens,AC 114 2 BY AZ p0.ring,AK Cc (.cells #[vP BD 0,Bn,AA p0_1.gen,AA p0_1.boot,AV p0_1.seals,.map (some Bm)] 181),AC 114 2 Bn AZ p0_1.ring,Ab Bm AA vB p0_1.taken,AK BD (.cells #[vB p0_2.off,vB p0_2.isCut,vI p0_2.lasts,vI p0_2.counts,BK,.map (some BI),.map (some BJ),AV p0_2.rcnt,vS p0_2.rtag,AA p0_2.rboots] 100),AC 9 1 BK eS p0_2.blocks,Ab BI AA vS p0_2.pend,Ab BJ AA vB p0_2.bad] H (fun u M=>∃v0:Value,u=v0∧M=[AC 35 4 v0 AW r,AK Al (.cells #[Au,Ad,A0,vP BD 0,vP Cc 0,BY,AA p0.gen,vB p0.bad] 94),AC 35 4 Au AW p0.rows,AC 190 3 Ad AU p0.pages,DA A0 AA AA p0.gens,AC 114 2 BY AZ p0.ring,AK Cc (.cells #[vP BD 0,Bn,AA p0_1.gen,AA p0_1.boot,AV p0_1.seals,.map (some Bm)] 181),AC 114 2 Bn AZ p0_1.ring,Ab Bm AA vB p0_1.taken,AK BD (.cells #[vB p0_2.off,vB p0_2.isCut,vI p0_2.lasts,vI p0_2.counts,BK,.map (some BI),.map (some BJ),AV p0_2.rcnt,vS p0_2.rtag,AA p0_2.rboots] 100),AC 9 1 BK eS p0_2.blocks,Ab BI AA vS p0_2.pend,Ab BJ AA vB p0_2.bad]):=by
 unfold Cy at h
 refine Td.enter Tryz.func12 rfl rfl ?_
 refine Y (B8 35 4 AW (U E (V (AH (Y (J E (EL E hY E E (V (C0 E (AJ (AI (Y ?_))))))))))))
 refine AE h fun y1 hy1 h=>?_
 refine J E (AT E E (AF E Pg (AF E aT (AG 1 FY E (SL.pick [2,0,1] 3 ?_)))))
 refine Bd (vs:=[_]) (Hin:=[_]) (Hr:=_::_::_::_::_::_::_::_::_::_::_::_::_) E E ⟨E,zT⟩ eO E E (Cm (B:=[_]) (Hin:=[]) fun K' w1 hk hB=>YH hy1 (CT (e:=35) (v:=Au) zV (hB _ zS))) ?_
 rintro v1 _ ⟨_,rfl,_,rfl,rfl⟩
 refine⟨trivial,?_⟩
 refine U E (V (AL ?_))
 obtain rfl:=zI h
 exact Bi [1,3,0,4,5,6,7,8,9,10,11,12,13] 14 (Cl E E) E E ⟨v1,E,E⟩
def G5(n:Nat)(p0:Bx)(p0_1:Az)(p0_2:Ah)(p1:UInt64):Option (Ao×Int):=
 (Is n p0.rows p1).bind fun y1=>
 some ((⟨y1.1.id,y1.1.x,y1.1.y,y1.1.txt⟩:Ao),y1.2)
theorem Tk{n Al Cc Bm BD BI BJ:Nat}{Au Ad A0 BY Bn BK:Value}{p0:Bx}{p0_1:Az}{p0_2:Ah}{p1:UInt64}{r:Ao×Int}(h:G5 n p0 p0_1 p0_2 p1=some r): zC K w0 37 [vP Al 0,AV p1] [AK Al (.cells #[Au,Ad,A0,vP BD 0,vP Cc 0,BY,AA p0.gen,vB p0.bad] 94),AC 35 4 Au AW p0.rows,AC 190 3 Ad AU p0.pages,DA A0 AA AA p0.gens,AC 114 2 BY AZ p0.ring,AK Cc (.cells #[vP BD 0,Bn,AA p0_1.gen,AA p0_1.boot,AV p0_1.seals,.map (some Bm)] 181),AC 114 2 Bn AZ p0_1.ring,Ab Bm AA vB p0_1.taken,AK BD (.cells #[vB p0_2.off,vB p0_2.isCut,vI p0_2.lasts,vI p0_2.counts,BK,.map (some BI),.map (some BJ),AV p0_2.rcnt,vS p0_2.rtag,AA p0_2.rboots] 100),AC 9 1 BK eS p0_2.blocks,Ab BI AA vS p0_2.pend,Ab BJ AA vB p0_2.bad] H (fun u M=>u=.tuple #[.agg (AW r.1).toArray,vI r.2]∧M=[AK Al (.cells #[Au,Ad,A0,vP BD 0,vP Cc 0,BY,AA p0.gen,vB p0.bad] 94),AC 35 4 Au AW p0.rows,AC 190 3 Ad AU p0.pages,DA A0 AA AA p0.gens,AC 114 2 BY AZ p0.ring,AK Cc (.cells #[vP BD 0,Bn,AA p0_1.gen,AA p0_1.boot,AV p0_1.seals,.map (some Bm)] 181),AC 114 2 Bn AZ p0_1.ring,Ab Bm AA vB p0_1.taken,AK BD (.cells #[vB p0_2.off,vB p0_2.isCut,vI p0_2.lasts,vI p0_2.counts,BK,.map (some BI),.map (some BJ),AV p0_2.rcnt,vS p0_2.rtag,AA p0_2.rboots] 100),AC 9 1 BK eS p0_2.blocks,Ab BI AA vS p0_2.pend,Ab BJ AA vB p0_2.bad]):=by
 unfold G5 at h
 refine Td.enter Tryz.func37 rfl rfl ?_
 refine Y ?_
 refine Am E HH zU fun b1=>?_
 refine U E (V (AH (Y (J E (EL E hY E E (V (C0 E (AJ (AI (Y ?_))))))))))
 refine AE h fun y1 hy1 h=>?_
 refine J E (AT E E (AF E Pg (AF E aT (AG 1 FY E (J E (SL.pick [2,0,1] 3 ?_))))))
 refine Bd (vs:=[_,_]) (Hin:=[_]) (Hr:=_::_::_::_::_::_::_::_::_::_::_::_::_) E E ⟨E,E,zT⟩ qR E E (Cm (B:=[_]) (Hin:=[]) fun K' w1 hk hB=>Zn hy1 (CT (e:=35) (v:=Au) zV (hB _ zS))) ?_
 rintro _ _ ⟨_,rfl,rfl,rfl⟩
 refine⟨trivial,?_⟩
 refine Ae E E E (Ae E E E (A8 1 E E E E Dh E E E zT (U E (V (AL ?_)))))
 obtain rfl:=zI h
 exact Ag (D7 E (CC 1 (AW (⟨y1.1.id,y1.1.x,y1.1.y,y1.1.txt⟩:Ao)) HG E E E E) E) (Af (M:=[_,_,_,_,_,_,_,_,_,_,_,_]) ⟨E,E⟩ fun _ hw=>BW.pick (H:=[_,_,_,_,_,_,_,_,_,_,_,_,_]) hw [2,0,3,4,5,6,7,8,9,10,11,12] 13 E)
end

section
structure Dv(N m:Nat)(c:UInt64)(d:Ah):Prop where
 bl:d.blocks.length=N
 pl:d.pend.length≤m
 pk:∀e∈d.pend,e.1.toNat<N
 rc:d.rcnt=c
theorem Dv.up{N m m':Nat}{c:UInt64}{d:Ah}(D:Dv N m c d)(h:m≤m'):Dv N m' c d:=⟨D.bl,Nat.le_trans D.pl h,D.pk,D.rc⟩
theorem iZ{N m:Nat}{c:UInt64}{d:Ah}{p:UInt32}{s:List UInt8}{y:Int×Ah}(h:Il d p s=some y)(D:Dv N m c d):Dv N (m+1) c y.2:=by
 unfold Il at h
 rw[aY,AB,Bw]at h
 cases hh:((!decide (p.toNat<d.blocks.length))||(!decide ((s.length:Int)=256)))with
 | true=>
  rw[hh,Cz]at h
  obtain rfl:=zI h
  exact D.up (Nat.le_succ _)
 | false=>
  rw[hh,CE,S7,AB]at h
  have hp:p.toNat<N:=by
   simp at hh
   rw[←D.bl]
   exact hh.1
  cases hon:WS d with
  | true=>
   rw[hon]at h
   simp only[if_true,decide_true,Cz]at h
   refine AE h fun l hl h=>?_
   obtain⟨-,rfl⟩:=V6 hl
   obtain rfl:=zI (show some _=some y from h)
   refine⟨D.bl,?_,?_,D.rc⟩
   have:(G6 d.pend p).length≤d.pend.length:=List.length_filter_le ..
   have:=D.pl
   show(G6 d.pend p).length+1≤m+1
   omega
   intro e he
   rcases List.mem_cons.1 (show e∈(p,s)::G6 d.pend p from he)with rfl | he
   exact hp
   exact D.pk e (List.mem_filter.1 he).1
  | false=>
   rw[hon]at h
   obtain rfl:=zI (show some _=some y from h)
   exact⟨D.bl,Nat.le_succ_of_le D.pl,D.pk,D.rc⟩
theorem cW{T:List UInt32}{N m:Nat}{c:UInt64}{v:Az}{d:Ah}{p:UInt32}{s:List UInt8}{y:List UInt8×Int×Az×Ah}(h:KJ T v d p s=some y)(D:Dv N m c d):Dv N (m+1) c y.2.2.2:=by
 unfold KJ at h
 obtain⟨y1,-,h⟩:=Ek h
 cases h1:(!decide (y1.2=0))with
 | true=>
  rw[h1,Cz]at h
  obtain rfl:=zI h
  exact D.up (Nat.le_succ _)
 | false=>
  rw[h1,CE]at h
  refine AE h fun y2 h2 h=>?_
  have D2:=iZ h2 D
  cases h3:(!decide (y2.1=0))with
  | true=>
   rw[h3,Cz]at h
   obtain rfl:=zI h
   exact D2
  | false=>
   rw[h3,CE]at h
   obtain⟨y3,-,h⟩:=Ek h
   obtain rfl:=zI h
   exact D2
theorem qi{T:List UInt32}{N m:Nat}{c:UInt64}{v:Az}{d:Ah}{s:List UInt8}{y:BV×Int×Az×Ah}(h:GW T v d s=some y)(D:Dv N m c d):Dv N (m+1) c y.2.2.2:=by
 have key:∀ {p:UInt32},Ft T v d s p=some y→Dv N (m+1) c y.2.2.2:=by
  intro p h
  unfold Ft at h
  cases h1:decide (p=0)with
  | true=>
   rw[h1,Cz]at h
   obtain rfl:=zI h
   exact D.up (Nat.le_succ _)
  | false=>
   rw[h1,CE]at h
   refine AE h fun y4 h4 h=>?_
   have D4:=cW h4 D
   cases h3:(!decide (y4.2.1=0))with
   | true=>
    rw[h3,Cz]at h
    obtain rfl:=zI h
    exact D4
   | false=>
    rw[h3,CE]at h
    obtain⟨l,-,h⟩:=Ek h
    obtain rfl:=zI h
    exact D4
 unfold GW at h
 rw[Bw]at h
 cases h1:decide (198<(s.length:Int))with
 | true=>
  rw[h1,Cz]at h
  obtain rfl:=zI h
  exact D.up (Nat.le_succ _)
 | false=>
  rw[h1,CE]at h
  obtain⟨_,-,h⟩:=Ek h
  obtain⟨xs,-,h⟩:=Ek h
  cases xs with
  | nil=>exact key (p:=0) h
  | cons e xs=>exact key (p:=e) h
theorem dD{T:List UInt32}{th:List (M8×BV)}{N:Nat}{c:UInt64}:∀(seg:List BL) (m:Nat) (q q':YM),Wm (Sb T th) q seg q'→Dv N m c q.d→Dv N (m+seg.length) c q'.d∧q'.tk.length≤q.tk.length+seg.length
 | [],m,q,q',h,D=>by rw[←show q=q' from h];exact⟨D,Nat.le_refl _⟩
 | s::seg,m,q,q',h,D=>by
  obtain⟨q1,h1,h2⟩:=h
  have D1:Dv N (m+1) c q1.d∧q1.tk.length≤q.tk.length+1:=by
   unfold Sb at h1
   obtain⟨k,hk,h1⟩:=Ek h1
   cases hs:(C8 th k).isSome with
   | true=>
    rw[hs,Cz]at h1
    have h3:=congrArg Prod.snd (zI h1)
    rw[←show q=q1 from h3]
    exact⟨D.up (Nat.le_succ _),Nat.le_succ _⟩
   | false=>
    rw[hs,CE]at h1
    obtain⟨y,hy,h1⟩:=Ek h1
    have D2:=qi hy D
    cases he:decide (y.2.1=0)with
    | true=>
     rw[he,Cz]at h1
     obtain⟨l,hl,h1⟩:=Ek h1
     rw[←show(⟨l,y.2.2.1,y.2.2.2⟩:YM)=q1 from congrArg Prod.snd (zI h1)]
     refine⟨D2,?_⟩
     unfold DK at hl
     split at hl
     obtain rfl:=zI hl
     simp
     cases hl
    | false=>
     rw[he,CE]at h1
     rw[←show(⟨q.tk,y.2.2.1,y.2.2.2⟩:YM)=q1 from congrArg Prod.snd (zI h1)]
     exact⟨D2,Nat.le_succ _⟩
  have:=dD seg (m+1) q1 q' h2 D1.1
  have h5:=D1.2
  rw[List.length_cons,show m+(seg.length+1)=m+1+seg.length by omega]
  exact⟨this.1,by omega⟩
theorem gj{N c0:Nat}{c:UInt64}{d:Ah}(D:Dv N 1 c d)(K:RW N c0 d):∃d',J3 d=some (0,d')∧Dv N 0 c d'∧RW N 0 d'∧∀p:UInt32,p.toNat<N→Id d' p=Id d p:=by
 have hon:WS d=true:=by simp[WS,K.on,K.uncut]
 have hb:d.blocks.length=N:=D.bl
 have base:J3 d=J4 (0,I4 d) (Qr (d.pend.map (·.1))) (I4 d):=by
  unfold J3
  rw[S7,hon]
  simp only[if_true,AB,decide_true,Cz]
  unfold Vi Wk
  rw[AB,show(I4 d).pend=d.pend from rfl,if_pos D.pl,AB]
 rcases hp:d.pend with _ | ⟨⟨k,s⟩,_ | ⟨e,r⟩⟩
 refine⟨{ I4 d with pend:=[] },?_,⟨D.bl,Nat.le_refl _,fun _ h=>(by cases h),D.rc⟩,⟨K.blen,K.nle,K.on,K.uncut,K.good,Nat.le_refl _,by omega⟩,fun p _=>?_⟩
 rw[base,hp]
 rfl
 unfold Id
 rw[hp]
 rfl
 have hk:k.toNat<N:=D.pk (k,s) (by rw[hp];exact List.mem_cons_self ..)
 refine⟨{ I4 d with blocks:=d.blocks.set k.toNat s,pend:=[] },?_,⟨(List.length_set ..).trans D.bl,Nat.le_refl _,fun _ h=>(by cases h),D.rc⟩,⟨(List.length_set ..).trans D.bl,K.nle,K.on,K.uncut,K.good,Nat.le_refl _,by omega⟩,fun p hpn=>?_⟩
 rw[base,hp]
 show IG (0,I4 d) (J4 (0,I4 d) []) ((0:Nat),k) (I4 d)=_
 unfold IG
 have h1:BE (I4 d).blocks ((k.toNat:Nat):Int)=some (d.blocks[k.toNat]' zO):=by rw[Ez];exact List.getElem?_eq_getElem _
 have h2:Nx (I4 d).blocks ((k.toNat:Nat):Int) ((C8 (I4 d).pend k).getD [])=some (d.blocks.set k.toNat s):=by
  rw[Lf rfl (show k.toNat<(I4 d).blocks.length by show _<d.blocks.length;omega),show(I4 d).pend=d.pend from rfl,hp]
  have:C8 [(k,s)] k=some s:=by simp[C8]
  rw[this]
  rfl
 rw[h1,AB,h2,AB]
 rfl
 unfold Id
 rw[hp]
 show(d.blocks.set k.toNat s).getD p.toNat []=(C8 [(k,s)] p).getD (d.blocks.getD p.toNat [])
 by_cases e:k=p
 subst e
 have:C8 [(k,s)] k=some s:=by simp[C8]
 rw[this,List.getD_eq_getElem?_getD,List.getElem?_set_self zO]
 rfl
 have:C8 [(k,s)] p=none:=by simp[C8,e]
 have hne:k.toNat≠p.toNat:=fun h=>e (UInt32.toNat_inj.1 h)
 rw[this,List.getD_eq_getElem?_getD,List.getElem?_set_ne hne,List.getD_eq_getElem?_getD]
 rfl
 have:=D.pl
 rw[hp]at this
 simp at this
theorem iR{N:Nat}{c:UInt64}{d:Ah}{tag:List UInt8}(D:Dv N 0 c d)(K:RW N 0 d)(ht:tag.length=32)(hc:c≠18446744073709551615):∃d',LN d tag=some (0,d')∧Dv N 0 (c+1) d'∧RW N 0 d'∧∀p,Id d' p=Id d p:=by
 have hon:WS d=true:=by simp[WS,K.on,K.uncut]
 refine⟨{ I4 d with rcnt:=d.rcnt+1,rtag:=tag },?_,⟨D.bl,D.pl,D.pk,by rw[←D.rc]⟩,⟨K.blen,K.nle,K.on,K.uncut,K.good,K.plen,by omega⟩,fun p=>rfl⟩
 unfold LN
 rw[Bw,zt (by omega:(tag.length:Int)=32)]
 simp only[Bool.not_true,CE]
 rw[Bw,zf (by rw[D.rc];exact hc),CE,S7,hon,AB]
 rfl
theorem pE{T:List UInt32}{N:Nat}{c:UInt64}{v:Az}{d:Ah}{k:BP}{s:List UInt8}(D:Dv N 0 c d)(K:RW N 0 d)(hr:v.ring.length≤1099511627776)(hk:DP v.ring v.gen=(k,0))(hs:s.length≤198)(p:UInt32)(hp:p.toNat<2)(hN:4≤N):
  ∃tag d',Nt T v d p s=some (tag,0,{ v with seals:=v.seals+1 },d')∧tag.length=32∧Dv N 1 c d'∧RW N 1 d'∧∀q:UInt32,2≤q.toNat→Id d' q=Id d q:=by
 have hb:=Ke T k (hd v p) hs
 have hw:=dQ (T:=T) K zO hr hk (show p.toNat<N by omega) hs
 refine⟨(HX T k (hd v p) s).drop 224,{ d with counts:=wI (d.counts+1),pend:=MP d.pend p (HX T k (hd v p) s) },?_,by simp[hb],cW hw D,(K.write zO (show p.toNat<N by omega) hb).2,fun q hq=>?_⟩
 unfold Nt
 have h1:decide ((2:UInt32)≤p)=false:=by rw[decide_eq_false_iff_not,UInt32.le_iff_toNat_le];exact Nat.not_le.2 hp
 rw[Bw,h1,CE,Bw,zf zO,CE,hw,AB]
 rw[VN,if_neg (fun e=>by subst e;omega)]
theorem mo(x:UInt64):∃l,GV 2200000 x 8=some l∧l.length=8:=⟨_,rfl,rfl⟩
theorem Zf(x:UInt64):∃l,GV 2200000 x 4=some l∧l.length=4:=⟨_,rfl,rfl⟩
theorem fM(r:Ed)(h:r.tag.length=32):∃s,Mu 2200000 r=some s∧s.length=56:=by
 obtain⟨a,ha,la⟩:=mo r.cnt
 obtain⟨b,hb,lb⟩:=Zf r.gen.toUInt64
 obtain⟨c,hc,lc⟩:=Zf r.rows.toUInt64
 obtain⟨e,he,le⟩:=Zf r.page.toUInt64
 have hl:([[115,112,104,114],a,b,c,e,r.tag]:List (List UInt8)).flatten.length=56:=by simp[la,lb,lc,le,h]
 refine⟨_,?_,hl⟩
 unfold Mu OR aa
 rw[ha,AB,hb,AB,hc,AB,he,AB,if_pos ⟨rfl,by simp,by simp,by omega,by omega⟩]
 rfl
end

section
structure iP(T:List UInt32)(c:UInt64)(o:Bx)(v:Az)(d:Ah):Prop where
 vs:∃c0,c0≤1∧VS 60 c0 (Di 1) 1 v d
 tk:TG 60 v
 dv:Dv 60 0 c d
 gen:o.gen=1
 one:o.pages.length≤1
 rd:∀s∈o.pages,Rd T (Di 1) 60 v d s
 bad:o.bad=false
 tz:o.pages=[]→v.taken=[]
theorem VS.flushed{c0 c1:Nat}{R:List BP}{v v':Az}{d d':Ah}(V9:VS 60 c0 R 1 v d)(K:RW 60 c1 d')(h:v'.ring=v.ring∧v'.gen=v.gen∧v'.boot=v.boot)(ht:v'.taken.length≤c1):VS 60 c1 R 1 v' d':=
 ⟨K,h.1.trans V9.ring,V9.rlen,h.2.1.trans V9.gen,h.2.2.trans V9.boot,ht⟩
theorem RW.le{N c c':Nat}{d:Ah}(K:RW N c d)(h:c≤c')(h2:c'≤100):RW N c' d:=⟨K.blen,K.nle,K.on,K.uncut,K.good,Nat.le_trans K.plen h,h2⟩
theorem dG{T:List UInt32}{c0:Nat}{c:UInt64}{o:Bx}{v:Az}{d:Ah}{l:List Ao}{s:BL}(V9:VS 60 c0 (Di 1) 1 v d)(D:Dv 60 1 c d)(hc:c=0∨c=1)(hg:o.gen=1)(hl:l.length≤1)(hs:FD ⟨s.page,s.tag⟩=true):
  ∃d',EJ 2200000 T o v d l [s]=some (0,{ v with seals:=v.seals+1 },d')∧Dv 60 0 (c+1) d'∧RW 60 0 d'∧∀q:UInt32,2≤q.toNat→q.toNat<60→Id d' q=Id d q:=by
 obtain⟨d1,h1,D1,K1,e1⟩:=gj D V9.dev
 have hr:Jb ⟨c+1,1,Ep (l.length:Int),s.page,s.tag⟩=some true:=by
  unfold Jb
  rw[OW,hs]
  have hl2:l.length=0∨l.length=1:=zO
  rcases hc with rfl | rfl<;>rcases hl2 with h | h<;>rw[h]<;>rfl
 have hn:Mt c 1 (l.length:Int) ⟨s.page,s.tag⟩=some (⟨c+1,1,Ep (l.length:Int),s.page,s.tag⟩,0):=by
  unfold Mt
  have h0:decide (c+1=0)=false:=by rcases hc with rfl | rfl<;>rfl
  have h2:(decide ((l.length:Int)<0)||decide (1000<(l.length:Int)))=false:=by simp;omega
  rw[Bw,h0,CE,h2,hr]
  rfl
 obtain⟨t,ht,htl⟩:=fM ⟨c+1,1,Ep (l.length:Int),s.page,s.tag⟩ (PC hs).1
 have he:KG 2200000 ⟨c+1,1,Ep (l.length:Int),s.page,s.tag⟩=some (t,0):=by
  unfold KG
  rw[hr,AB,ht]
  rfl
 have hsl:((c+1) &&& 1).toUInt32.toNat<2:=by rcases hc with rfl | rfl<;>decide
 have hk:=Xb (m:=1) zO zO
 obtain⟨tag,d2,h2,lt,D2,K2,e2⟩:=pE (T:=T) D1 K1 (by rw[V9.ring];exact V9.rlen) (by rw[V9.ring,V9.gen];exact hk) (show t.length≤198 by omega) ((c+1) &&& 1).toUInt32 hsl zO
 obtain⟨d3,h3,D3,K3,e3⟩:=gj D2 K2
 obtain⟨d4,h4,D4,K4,e4⟩:=iR D3 K3 lt (by rcases hc with rfl | rfl<;>decide)
 refine⟨d4,?_,D4,K4,fun q hq hq2=>?_⟩
 unfold EJ E7 OQ
 rw[h1,AB]
 simp only[decide_true,Bool.not_true,CE,AB]
 rw[show BE [s] (wI (([s].length:Int)-1))=some s from rfl,AB,D1.rc,hg,hn,AB]
 simp only[decide_true,Bool.not_true,CE]
 rw[he,AB,Bw,AB,h2,AB]
 simp only[decide_true,Bool.not_true,CE]
 rw[h3,AB]
 simp only[decide_true,Bool.not_true,CE]
 rw[h4,AB]
 rw[e4,e3 q hq2,e2 q hq,e1 q hq2]
theorem iq(v:Az)(d:Ah)(p:UInt32):∃r,KI v d p=some r:=by
 have h1:∃b,Ht v d p=some b:=by
  unfold Ht Mb
  cases decide (2≤p)<;>exact⟨_,rfl⟩
 obtain⟨b,hb⟩:=h1
 unfold KI
 rw[hb,AB,Bw]
 cases ((!b)||(!((C8 v.taken p).getD false)))<;>exact⟨_,rfl⟩
theorem eq(m:Nat){o:Bx}{v:Az}{d:Ah}{l:List Ao}{s:BL}(h:o.pages.length≤1):∃g v',Da (m+3) o v d l [s]=some ({ o with rows:=l,pages:=[s],gens:=g },v')∧(o.pages=[]→v'=v):=by
 obtain⟨rows,pages,gens,ring,gen,bad⟩:=o
 rcases pages with _ | ⟨s1,_ | ⟨s2,r⟩⟩
 generalize hO:({ rows:=rows,pages:=[],gens:=gens,ring:=ring,gen:=gen,bad:=bad }:Bx)=O
 have hx:Da (m+3) O v d l [s]=DN (m+3) O v d l [s] [] (D0 (m+3) O v d l [s] [] (m+2)) [] 0:=by subst hO;rfl
 rw[hx]
 unfold DN
 rw[show decide ((0:Int)<([s].length:Int))=true from rfl,Cz,show BE [s] 0=some s from rfl,AB,show My ([]:List (UInt32×UInt32)) s.page O.gen=some [(s.page,O.gen)]from rfl,AB]
 generalize (decide (((C8 [] s.page).getD ⟨[],0,[]⟩:BL).txt=s.txt)&&(decide (((C8 [] s.page).getD ⟨[],0,[]⟩:BL).page=s.page)&&(decide (((C8 [] s.page).getD ⟨[],0,[]⟩:BL).tag=s.tag)&&true)))=b
 subst hO
 cases b with
 | true=>exact⟨_,_,rfl,fun _=>rfl⟩
 | false=>exact⟨_,_,rfl,fun _=>rfl⟩
 obtain⟨y,hy⟩:=iq v d s1.page
 generalize hO:({ rows:=rows,pages:=[s1],gens:=gens,ring:=ring,gen:=gen,bad:=bad }:Bx)=O
 have hx:Da (m+3) O v d l [s]=DN (m+3) O v d l [s] [(s1.page,s1)] (D0 (m+3) O v d l [s] [(s1.page,s1)] (m+2)) [] 0:=by subst hO;rfl
 have h2:∃g,Da (m+3) O v d l [s]=EQ O d l [s] g (Ey O d l [s] g (m+2)) v 0:=by
  rw[hx]
  unfold DN
  rw[show decide ((0:Int)<([s].length:Int))=true from rfl,Cz,show BE [s] 0=some s from rfl,AB,show My ([]:List (UInt32×UInt32)) s.page O.gen=some [(s.page,O.gen)]from rfl,AB]
  generalize (decide (((C8 [(s1.page,s1)] s.page).getD ⟨[],0,[]⟩).txt=s.txt)&&(decide (((C8 [(s1.page,s1)] s.page).getD ⟨[],0,[]⟩).page=s.page)&&(decide (((C8 [(s1.page,s1)] s.page).getD ⟨[],0,[]⟩).tag=s.tag)&&true)))=b
  cases b with
  | true=>exact⟨_,rfl⟩
  | false=>exact⟨_,rfl⟩
 obtain⟨g,hg⟩:=h2
 rw[hg]
 unfold EQ
 subst hO
 rw[show decide ((0:Int)<([s1].length:Int))=true from rfl,Cz,show BE [s1] 0=some s1 from rfl,AB,Bw,Bw]
 cases (C8 g s1.page).isSome with
 | true=>exact⟨g,v,rfl,fun h=>by cases h⟩
 | false=>
  rw[show(!false)=true from rfl,Cz,hy,AB]
  exact⟨g,y.2,rfl,fun h=>by cases h⟩
 simp at h
theorem XV{T:List UInt32}{c:UInt64}{o:Bx}{v:Az}{d:Ah}{l:List Ao}(S:iP T c o v d)(hc:c=0∨c=1)(hl:l.length≤1)(hr:E2 l=true):
  ∃o' v' d',Ds 2200000 T o v d l o.pages=some (0,o',v',d')∧o'.rows=l∧o'.bad=false∧Dv 60 0 (c+1) d'∧(o.pages=[]→iP T (c+1) o' v' d'):=by
 obtain⟨c0,hc0,V9⟩:=S.vs
 have hk:=Xb (m:=1) zO zO
 have ht:v.taken.length≤1:=Nat.le_trans V9.tlen hc0
 obtain⟨t,th,hb,hT,hth,h⟩:=jJ (T:=T) (n:=2200000) (N:=60) (l:=l) (had:=o.pages) zO zO V9 S.tk hk hr S.rd (by have:=S.one;omega) zO
 have hpg:PA 2200000 t≤1:=by
  have:=VT hT
  by_cases e:l=[]
  exact Nat.le_of_eq (this.1 e)
  have:=this.2 e
  omega
 rcases h with⟨r,out,q,hsv,hR,hrf,SI,hrd,hlen,hp,-⟩ | ⟨v',d',c',hsv,hlt,-,-⟩
 obtain⟨a,s,hs⟩:=hR.lastE
 have ha:a=[]:=by
  have h1:out.length≤1:=zO
  rw[hs,List.length_append]at h1
  exact List.length_eq_zero_iff.1 (by simpa using h1)
 subst ha
 rw[List.nil_append]at hs
 subst hs
 obtain⟨D1,ltk⟩:=dD [_] 0 _ _ hp S.dv
 obtain⟨d2,hpub,D2,K2,e2⟩:=dG (T:=T) (o:=o) (s:=⟨s,r.page,r.tag⟩) SI.vs D1 hc S.gen hl hrf
 obtain⟨g,v3,hmv,hv3⟩:=eq 2199997 (o:=o) (v:={ q.v with seals:=q.v.seals+1 }) (d:=d2) (l:=l) (s:=⟨s,r.page,r.tag⟩) S.one
 refine⟨{ o with rows:=l,pages:=[⟨s,r.page,r.tag⟩],gens:=g },v3,d2,?_,rfl,S.bad,D2,fun hz=>?_⟩
 unfold Ds
 rw[hsv,AB,Bw]
 show cond (decide ((0:Int)=110)) _ _=_
 rw[show decide ((0:Int)=110)=false from rfl,CE,Bw]
 show cond (decide ((0:Int)=0)) _ _=_
 rw[show decide ((0:Int)=0)=true from rfl,Cz,hpub,AB]
 unfold Ei
 show cond (!decide ((0:Int)=0)) _ _=_
 rw[show(!decide ((0:Int)=0))=false from rfl,CE,hmv,AB]
 obtain rfl:=hv3 hz
 have htk:q.v.taken.length≤1:=by
  rw[SI.tak,S.tz hz]
  simpa using ltk
 have V2:VS 60 1 (Di 1) 1 { q.v with seals:=q.v.seals+1 } d2:=SI.vs.flushed (K2.le (Nat.zero_le _) zO) ⟨rfl,rfl,rfl⟩ htk
 refine⟨⟨1,Nat.le_refl _,V2⟩,⟨SI.ok.nd,SI.ok.tr⟩,D2,S.gen,Nat.le_refl _,fun x hx=>?_,S.bad,fun h=>by cases h⟩
 obtain⟨h1,h2,h3,g',qn,b,hh,hb⟩:=hrd x hx
 exact⟨h1,h2,h3,g',qn,b,⟨hh.key,hh.txt,by rw[e2 _ h1 h2];exact hh.is⟩,hb⟩
 omega
end
end Go.Proofs.YtjkhnhichalenaaGreatDoor
