/- The texts FN0, FP8, FP9, V1, V2, V3, V4a, FL3, FP7k, FR0, FP10, FL4, FP12, FL5, one behind the other: walks of the program, and plain laws of what it computes. Conditions: as each theorem says. -/
import Derived.Test.YtjkhnhichalenaaGreatDoorXA1
import Derived.Test.YtjkhnhichalenaaGreatDoorXA2
import Derived.Test.YtjkhnhichalenaaGreatDoorXA3
import Derived.Test.YtjkhnhichalenaaGreatDoorXA4
import Derived.Test.YtjkhnhichalenaaGreatDoorXA5

set_option linter.unusedVariables false
set_option linter.unusedSimpArgs false
set_option maxHeartbeats 4000000
set_option maxRecDepth 100000
namespace Go.Proofs.YtjkhnhichalenaaGreatDoor
open Go
section
variable {K:Nat→Prop}{w0:World}{H:List AX}
def Yh(x:CU):List Value:=[AA x.cx,AA x.cy,vI x.lev,.slice none 0 0,.slice none 0 0]
theorem lO:zC K w0 137 [zN] [] H (fun u M=>u=.agg #[AA 0,AA 0,vI 0,zN,zN]∧M=[]):=by
 refine TP.enter Tryz.func137 rfl rfl ?_
 refine Y ?_
 refine Ak E IY zU fun b0=>?_
 refine V (AH (Y (J E (H4 E Cq E (Z E Bj (V ?_))))))
 refine Av E (fun hc1=>?_) (fun hc1=>absurd hc1 zD)
 refine Y (B0 [] E aW aU IY zT E (A2 0 E E E E IV E E E zT (V (AK (Ab ?_)))))
 exact Ag (IU E (B8 0 [AA 0,AA 0,vI 0,zN,zN] NB E E E E)) (Af (M:=[]) ⟨E,E⟩ fun _ h=>h.skip [_])
def fS:Option Int:=some 0
theorem iz{r:Int}(h:fS=some r):zC K w0 102 [zN] [] H (fun u M=>u=.tuple #[.agg #[AA 0,AA 0,vI 0,zN,zN],vI r]∧M=[]):=by
 obtain rfl:=zI h
 refine TP.enter Tryz.func102 rfl rfl ?_
 refine Y ?_
 refine Ak E IY zU fun b0=>?_
 refine U E (V (Y (J E ?_)))
 refine AS 0 ff (Rg (n:=1) (p0:=[]) (r:=true) E (B6.nil zV)) E ?_
 refine U E (V (AH (Y (J E (CS E E (V ?_))))))
 refine Av E (fun hc1=>absurd hc1 zD) (fun hc1=>?_)
 refine AJ (AI (Y (J E (AS 0 ma lO E (A2 0 E E E E IV E E E zT (U E (V (AK ?_))))))))
 exact Ag (D7 E (B8 0 [AA 0,AA 0,vI 0,zN,zN] NB E E E E) E) (Af (M:=[]) ⟨E,E⟩ fun _ h=>h.skip [_])
end

section
variable {K:Nat→Prop}{w0:World}{H:List AX}
def Ei(n:Nat)(T:List UInt32)(p0_1:BX)(p0_2:Az)(y1:List UInt8×Int)(o2:FX)(y2:UInt32)(y3:List UInt8):Option (BS×FX×BX×Az):=
 (Fj n T p0_1 p0_2 y1.1).bind fun y6=>
 cond (!decide (y6.2.1=0))
 (
  none)
 (
  (DM 4 o2.took [y6.1.page]).bind fun l1=>
  (DM 40 o2.out [(⟨y1.1,y6.1.page,y6.1.tag⟩:BI)]).bind fun l2=>
  some ((⟨y6.1.page,y6.1.tag⟩:BS),{ o2 with out:=l2,took:=l1 },y6.2.2.1,y6.2.2.2))
def Gt(n:Nat)(T:List UInt32)(p0_1:BX)(p0_2:Az)(y1:List UInt8×Int)(nx_f_ref14_keeper_place_l1:FX×UInt32×List UInt8×Int→Option (BS×FX×BX×Az))(o3:FX)(y4:UInt32)(y5:List UInt8)(a1:Int):Option (BS×FX×BX×Az):=
 cond (decide (a1<(o3.had.length:Int)))
 (
  none)
 (
  Ei n T p0_1 p0_2 y1 o3 y4 y5)
def Hu(n:Nat)(T:List UInt32)(p0_1:BX)(p0_2:Az)(y1:List UInt8×Int):Nat→(FX×UInt32×List UInt8×Int)→Option (BS×FX×BX×Az):=CE fun nx x=>Gt n T p0_1 p0_2 y1 nx x.1 x.2.1 x.2.2.1 x.2.2.2
def Ht(n:Nat)(T:List UInt32)(p0_1:BX)(p0_2:Az)(y1:List UInt8×Int)(o1:FX):Option (BS×FX×BX×Az):=
 cond (!decide (o1.err=0))
 (
  none)
 (
  Hu n T p0_1 p0_2 y1 n (o1,0,[],0))
def Eb(n:Nat)(T:List UInt32)(p0:FX)(p0_1:BX)(p0_2:Az)(p1:Da):Option (BS×FX×BX×Az):=
 (I6 n p1).bind fun y1=>
 cond ((!decide (y1.2=0))&&(decide (p0.err=0)))
 (
  none)
 (
  Ht n T p0_1 p0_2 y1 p0)
theorem RL{n Ar BC CN:Nat}{T:List UInt32}{Ac Ay D8 BV BY CO Bk Bm Bn lI lJ:Value}{p0:FX}{p0_1:BX}{p0_2:Az}{p1:Da}{r:BS×FX×BX×Az}(h:Eb n T p0 p0_1 p0_2 p1=some r)(hT:I0 K w0 2 64 T)(hs1_4:B6 K w0 AY 4 lI p1.rows)(hs1_5:B6 K w0 Bt 2 lJ p1.kids):zC K w0 138 [vP Ar 0,.agg #[vI p1.kind,AA p1.cx,AA p1.cy,vI p1.lev,lI,lJ,AA p1.npage,vS p1.ntag]] [AL Ar (.cells #[vP BC 0,Ac,Ay,D8,vI p0.err,BV] 212),AD 190 3 Ac AU p0.had,AD 190 3 Ay AU p0.out,AD 33 1 D8 BL p0.took,AD 190 3 BV AU p0.must,AL BC (.cells #[vP CN 0,BY,AA p0_1.gen,AA p0_1.boot,AV p0_1.num,CO] 153),AD 114 2 BY Aa p0_1.ring,AD 4 1 CO eB p0_1.taken,AL CN (.cells #[Bk,Bm,Bn,AV p0_2.rcnt,vS p0_2.rtag,AA p0_2.rboots,vI p0_2.left,vB p0_2.off] 107),AD 9 1 Bk eS p0_2.blk,AD 9 1 Bm eS p0_2.pnd,AD 4 1 Bn eB p0_2.bads] H (fun u M=>∃vs0_0_2 vs0_0_3:Value,u=.agg (Bt r.1).toArray∧M=[AL Ar (.cells #[vP BC 0,Ac,vs0_0_2,vs0_0_3,vI r.2.1.err,BV] 212),AD 190 3 Ac AU r.2.1.had,AD 190 3 vs0_0_2 AU r.2.1.out,AD 33 1 vs0_0_3 BL r.2.1.took,AD 190 3 BV AU r.2.1.must,AL BC (.cells #[vP CN 0,BY,AA r.2.2.1.gen,AA r.2.2.1.boot,AV r.2.2.1.num,CO] 153),AD 114 2 BY Aa r.2.2.1.ring,AD 4 1 CO eB r.2.2.1.taken,AL CN (.cells #[Bk,Bm,Bn,AV r.2.2.2.rcnt,vS r.2.2.2.rtag,AA r.2.2.2.rboots,vI r.2.2.2.left,vB r.2.2.2.off] 107),AD 9 1 Bk eS r.2.2.2.blk,AD 9 1 Bm eS r.2.2.2.pnd,AD 4 1 Bn eB r.2.2.2.bads]):=by
 unfold Eb at h
 refine TP.enter Tryz.func138 rfl rfl ?_
 refine Y ?_
 refine Ba E E zU fun b1=>?_
 refine Ak E FB zU fun b2=>?_
 refine V (Y ?_)
 refine AE h fun y1 hy1 h=>?_
 refine Aq [vI p1.kind,AA p1.cx,AA p1.cy,vI p1.lev,lI,lJ,AA p1.npage,vS p1.ntag] E Wo E E (Aj 1 E) (AS 0 nA ((WC hy1 hs1_4 hs1_5 :)) E (J E (Ae E E E (Ae E E E (U E (U E (V ?_)))))))
 refine A6 (α:=FX) (fun x=>Ht n T p0_1 p0_2 y1 x=some r) (fun x=>[(0,vP Ar 0),(4,vP b2 0),(5,vS y1.1)]) (fun x=>AL Ar (.cells #[vP BC 0,Ac,Ay,D8,vI x.err,BV] 212)::AL BC (.cells #[vP CN 0,BY,AA p0_1.gen,AA p0_1.boot,AV p0_1.num,CO] 153)::AL CN (.cells #[Bk,Bm,Bn,AV p0_2.rcnt,vS p0_2.rtag,AA p0_2.rboots,vI p0_2.left,vB p0_2.off] 107)::AD 9 1 Bk eS p0_2.blk::AD 9 1 Bm eS p0_2.pnd::AD 4 1 Bn eB p0_2.bads::AD 114 2 BY Aa p0_1.ring::AD 4 1 CO eB p0_1.taken::AD 190 3 Ac AU x.had::AD 190 3 Ay AU x.out::AD 33 1 D8 BL x.took::AD 190 3 BV AU x.must::AL b2 (.cells #[AA 0,vS []] 188)::H) ?_ (fun o1 D h=>?_)
 refine Y (J E (Z E BJ (J E ?_)))
 refine Ce (c:=decide (p0.err=0)) 18 6 24 E (fun hb k=>?_) (fun hb k=>?_) ?_
 refine J E (AT E E (AF E XY (AG 2 QF E (Z E Bj (Ah E E E ?_)))))
 exact k.mono tL
 refine AC E (AC E (AC E (AC E (AC E (Ah E E E ?_)))))
 exact k.mono tL
 refine V ?_
 refine AN h E (fun hc1 h=>?_) fun hc1 h=>?_
 cases h
 refine AJ ?_
 exact Ap p0 h tL (BM [2,7,10,11,12,13,8,9,3,4,5,6,0] 14 E E E)
 unfold Ht at h
 try dsimp only
 refine AH (Y (J E (AT E E (AF E XY (AG 0 QF E (Z E BJ (V ?_)))))))
 refine AN h E (fun hc2 h=>?_) fun hc2 h=>?_
 cases h
 refine AJ (AI (AH (Y (J E (AT E E (AF E cU (AG 0 NR E (Ed E qt E E (V (Cx E (AJ (AI ?_))))))))))))
 refine A6 (α:=FX×UInt32×List UInt8) (fun x=>Ei n T p0_1 p0_2 y1 x.1 x.2.1 x.2.2=some r) (fun x=>[(0,vP Ar 0),(4,vP b2 0),(5,vS y1.1)]) (fun x=>AL Ar (.cells #[vP BC 0,Ac,Ay,D8,vI x.1.err,BV] 212)::AL BC (.cells #[vP CN 0,BY,AA p0_1.gen,AA p0_1.boot,AV p0_1.num,CO] 153)::AL CN (.cells #[Bk,Bm,Bn,AV p0_2.rcnt,vS p0_2.rtag,AA p0_2.rboots,vI p0_2.left,vB p0_2.off] 107)::AD 9 1 Bk eS p0_2.blk::AD 9 1 Bm eS p0_2.pnd::AD 4 1 Bn eB p0_2.bads::AD 114 2 BY Aa p0_1.ring::AD 4 1 CO eB p0_1.taken::AD 190 3 Ac AU x.1.had::AD 190 3 Ay AU x.1.out::AD 33 1 D8 BL x.1.took::AD 190 3 BV AU x.1.must::AL b2 (.cells #[AA x.2.1,vS x.2.2] 188)::H) ?_ (fun x D h=>?_)
 refine Y (U E (V (AP ?_)))
 refine SX.heap (SX.mono (BG (α:=Nat×FX×UInt32×List UInt8×Int) (fun x=>Hu n T p0_1 p0_2 y1 x.1 (x.2.1,x.2.2.1,x.2.2.2.1,x.2.2.2.2)=some r) (fun x=>[(0,vP Ar 0),(4,vP b2 0),(5,vS y1.1),(8,vI x.2.2.2.2)]) (fun x=>AL Ar (.cells #[vP BC 0,Ac,Ay,D8,vI x.2.1.err,BV] 212)::AL BC (.cells #[vP CN 0,BY,AA p0_1.gen,AA p0_1.boot,AV p0_1.num,CO] 153)::AL CN (.cells #[Bk,Bm,Bn,AV p0_2.rcnt,vS p0_2.rtag,AA p0_2.rboots,vI p0_2.left,vB p0_2.off] 107)::AD 9 1 Bk eS p0_2.blk::AD 9 1 Bm eS p0_2.pnd::AD 4 1 Bn eB p0_2.bads::AD 114 2 BY Aa p0_1.ring::AD 4 1 CO eB p0_1.taken::AD 190 3 Ac AU x.2.1.had::AD 190 3 Ay AU x.2.1.out::AD 33 1 D8 BL x.2.1.took::AD 190 3 BV AU x.2.1.must::AL b2 (.cells #[AA x.2.2.1,vS x.2.2.2.1] 188)::H) (fun x=>x.1) (fun x D h=>?_) (n,o1,0,[],0) h) tL) (BM [0,1,2,3,4,5,6,7,8,9,10,11,12] 13 E E E)
 obtain⟨m1,o3,y4,y5,a1⟩:=x
 dsimp only at h
 rcases m1 with _ | m1
 cases (show(none:Option _)=some r from h)
 replace h:Gt n T p0_1 p0_2 y1 (Hu n T p0_1 p0_2 y1 m1) o3 y4 y5 a1=some r:=h
 unfold Gt at h
 try dsimp only
 refine AH (Y (J E (J E (AT E E (AF E kS (AG 0 QG E (Dh 8 E KN E E (Z E A4 (V ?_)))))))))
 refine AN h E (fun hc4 h=>?_) fun hc4 h=>?_
 cases h
 refine Ax (A3 (BZ (A5 ?_)))
 exact Ap (o3,y4,y5) h tL (BM [0,1,2,3,4,5,6,7,8,9,10,11,12] 13 E E E)
 obtain⟨o2,y2,y3⟩:=x
 dsimp only at h
 unfold Ei at h
 try dsimp only
 refine Y ?_
 refine AE h fun y6 hy6 h=>?_
 refine J E (AT E E (AF E cU (AG 0 NR E (J E (SL.pick [1,6,7,2,3,4,5,0] 8 (AS 7 nB (Rh hy6 hT) E (J E ?_)))))))
 refine Ae E E E (Ae E E E ?_)
 refine Ak E FB zU fun b3=>?_
 refine A2 0 E E E E EX E E E zT (U E (V (AH (Y (J E (Z E BJ (V ?_)))))))
 refine AN h E (fun hc5 h=>?_) fun hc5 h=>?_
 cases h
 refine AJ (AI (AH ?_))
 refine AE h fun l1 hl1 h=>?_
 refine Aw DC [0,8] (CF [(true,0),(true,1),(true,2),(true,3),(true,4),(true,5),(true,6),(false,7),(false,8),(true,9),(true,10)] (.last 11 .nil)) zK (J E (J E (AT E E (AF E cV (AG 1 en E (AF E FS (AG 0 A1 E ?_)))))))
 refine B9 [_] rfl CM Bg Hy ⟨rfl,trivial⟩ rfl rfl rfl zW rfl rfl (fun _=>⟨⟨1,rfl⟩,⟨9,rfl⟩,trivial⟩) fun b4=>?_
 refine CA BL 1 ([y6.1.page]:List UInt32) E zV E ?_
 refine Co 12 hl1 (sz:=1) (enc:=BL) zV E CM Bg P0 Hy E zD E E E E (CH (sz:=1) (enc:=BL) 0 zV E) (by simp[BL,Value.oneCell']) (fun _=>⟨⟨1,E⟩,⟨9,E⟩,zT⟩) fun v1=>?_
 refine AT E E (AF E cV (Bc ?_))
 refine Cs 12 E fun hv1 ho1=>?_
 refine Dt 9 E E E E et hv1 ho1 E zT (V (AH ?_))
 refine AE h fun l2 hl2 h=>?_
 refine Aw DC [1,9] (CF [(true,0),(true,1),(true,2),(true,3),(true,4),(true,5),(true,6),(true,7),(false,8),(false,9),(true,10),(true,11)] (.last 12 .nil)) zK (J E (J E (AT E E (AF E XX (AG 1 QG E (J E (Aq [AA y6.1.page,vS y6.1.tag] E C5 E E (Aj 0 E) ?_)))))))
 refine B0 [_,_] E kj kh O8 ⟨E,E,zT⟩ E ?_
 refine B9 [_] rfl KN KM O8 ⟨rfl,trivial⟩ rfl rfl rfl zW rfl rfl (fun _=>⟨⟨2,rfl⟩,⟨10,rfl⟩,trivial⟩) fun b5=>?_
 refine CA AU 3 ([(⟨y1.1,y6.1.page,y6.1.tag⟩:BI)]:List BI) E zV E ?_
 refine Co 12 hl2 (sz:=3) (enc:=AU) zV E KN KM ji O8 E zD E E E E (CH (sz:=3) (enc:=AU) 0 zV E) (by simp[AU,Value.oneCell']) (fun _=>⟨⟨2,E⟩,⟨10,E⟩,zT⟩) fun v2=>?_
 refine AT E E (AF E XX (Bc ?_))
 refine Cs 12 E fun hv2 ho2=>?_
 refine Dt 10 E E E E lB hv2 ho2 E zT (V (Y (Aq [AA y6.1.page,vS y6.1.tag] E C5 E E (Aj 2 E) (A2 15 E E E E EX E E E zT (V (AK ?_))))))
 obtain rfl:=zI h
 exact Ag (IU E (B8 15 (Bt (⟨y6.1.page,y6.1.tag⟩:BS)) C5 E E E E)) (Af (M:=[_,_,_,_,_,_,_,_,_,_,_,_]) ⟨v2,v1,E,E⟩ fun _ hw=>BT.pick (H:=[_,_,_,_,_,_,_,_,_,_,_,_,_,_,_,_]) hw [10,11,12,13,14,3,4,5,6,7,8,9] 16 E)
def IG(o4:FX)(o5:BX)(o6:Az)(y3:UInt32)(y4:List UInt8):Option (BS×FX×BX×Az):=
 some ((⟨y3,y4⟩:BS),o4,o5,o6)
def EQ(n:Nat)(T:List UInt32)(nx_f_ref14_keeper_node_l1:FX×BX×Az×UInt32×List UInt8×Int→Option (BS×FX×BX×Az))(o7:FX)(o8:BX)(o9:Az)(y5:UInt32)(y6:List UInt8)(a1:Int):Option (BS×FX×BX×Az):=
 cond (decide (0≤a1))
 (
  (Ku [] a1 (min 0 (wI (a1+4)))).bind fun l1=>
  (Eb n T o7 o8 o9 (⟨1,0,0,0,l1,[],y5,y6⟩:Da)).bind fun y7=>
  ret (wI (a1-4)) fun x2=>
  nx_f_ref14_keeper_node_l1 (y7.2.1,y7.2.2.1,y7.2.2.2,y7.1.page,y7.1.tag,x2))
 (
  IG o7 o8 o9 y5 y6)
def Fv(n:Nat)(T:List UInt32):Nat→(FX×BX×Az×UInt32×List UInt8×Int)→Option (BS×FX×BX×Az):=CE fun nx x=>EQ n T nx x.1 x.2.1 x.2.2.1 x.2.2.2.1 x.2.2.2.2.1 x.2.2.2.2.2
def IF(n:Nat)(T:List UInt32)(o1:FX)(o2:BX)(o3:Az)(y1:UInt32)(y2:List UInt8):Option (BS×FX×BX×Az):=
 (Uq (wI ((max 0 1)-1)) 4).bind fun q1=>
 ret (wI (q1*4)) fun x1=>
 Fv n T n (o1,o2,o3,0,[],x1)
def Fk(n:Nat)(T:List UInt32)(p0:FX)(p0_1:BX)(p0_2:Az):Option (BS×FX×BX×Az):=
 cond (decide (0<0))
 (
  none)
 (
  IF n T p0 p0_1 p0_2 0 [])
theorem Ri{n Ar BC CN:Nat}{T:List UInt32}{Ac Ay D8 BV BY CO Bk Bm Bn:Value}{p0:FX}{p0_1:BX}{p0_2:Az}{r:BS×FX×BX×Az}(h:Fk n T p0 p0_1 p0_2=some r)(hT:I0 K w0 2 64 T):zC K w0 103 [vP Ar 0,.agg #[AA 0,AA 0,vI 0,zN,zN]] [AL Ar (.cells #[vP BC 0,Ac,Ay,D8,vI p0.err,BV] 212),AD 190 3 Ac AU p0.had,AD 190 3 Ay AU p0.out,AD 33 1 D8 BL p0.took,AD 190 3 BV AU p0.must,AL BC (.cells #[vP CN 0,BY,AA p0_1.gen,AA p0_1.boot,AV p0_1.num,CO] 153),AD 114 2 BY Aa p0_1.ring,AD 4 1 CO eB p0_1.taken,AL CN (.cells #[Bk,Bm,Bn,AV p0_2.rcnt,vS p0_2.rtag,AA p0_2.rboots,vI p0_2.left,vB p0_2.off] 107),AD 9 1 Bk eS p0_2.blk,AD 9 1 Bm eS p0_2.pnd,AD 4 1 Bn eB p0_2.bads] H (fun u M=>∃vs0_0_2 vs0_0_3:Value,u=.agg (Bt r.1).toArray∧M=[AL Ar (.cells #[vP BC 0,Ac,vs0_0_2,vs0_0_3,vI r.2.1.err,BV] 212),AD 190 3 Ac AU r.2.1.had,AD 190 3 vs0_0_2 AU r.2.1.out,AD 33 1 vs0_0_3 BL r.2.1.took,AD 190 3 BV AU r.2.1.must,AL BC (.cells #[vP CN 0,BY,AA r.2.2.1.gen,AA r.2.2.1.boot,AV r.2.2.1.num,CO] 153),AD 114 2 BY Aa r.2.2.1.ring,AD 4 1 CO eB r.2.2.1.taken,AL CN (.cells #[Bk,Bm,Bn,AV r.2.2.2.rcnt,vS r.2.2.2.rtag,AA r.2.2.2.rboots,vI r.2.2.2.left,vB r.2.2.2.off] 107),AD 9 1 Bk eS r.2.2.2.blk,AD 9 1 Bm eS r.2.2.2.pnd,AD 4 1 Bn eB r.2.2.2.bads]):=by
 unfold Fk at h
 refine TP.enter Tryz.func103 rfl rfl ?_
 refine Y ?_
 refine Ba E E zU fun b1=>?_
 refine Ak E FB zU fun b2=>?_
 refine V ?_
 refine A6 (α:=FX×BX×Az×Value×Value×UInt32×List UInt8) (fun x=>IF n T x.1 x.2.1 x.2.2.1 x.2.2.2.2.2.1 x.2.2.2.2.2.2=some r) (fun x=>[(0,vP Ar 0),(3,vP b1 0),(4,vP b2 0)]) (fun x=>AL Ar (.cells #[vP BC 0,Ac,x.2.2.2.1,x.2.2.2.2.1,vI x.1.err,BV] 212)::AL BC (.cells #[vP CN 0,BY,AA x.2.1.gen,AA x.2.1.boot,AV x.2.1.num,CO] 153)::AL CN (.cells #[Bk,Bm,Bn,AV x.2.2.1.rcnt,vS x.2.2.1.rtag,AA x.2.2.1.rboots,vI x.2.2.1.left,vB x.2.2.1.off] 107)::AD 9 1 Bk eS x.2.2.1.blk::AD 9 1 Bm eS x.2.2.1.pnd::AD 4 1 Bn eB x.2.2.1.bads::AD 114 2 BY Aa x.2.1.ring::AD 4 1 CO eB x.2.1.taken::AD 190 3 Ac AU x.1.had::AD 190 3 x.2.2.2.1 AU x.1.out::AD 33 1 x.2.2.2.2.1 BL x.1.took::AD 190 3 BV AU x.1.must::AL b1 (.cells #[AA 0,AA 0,vI 0,zN,zN] 167)::AL b2 (.cells #[AA x.2.2.2.2.2.1,vS x.2.2.2.2.2.2] 188)::H) ?_ (fun x D h=>?_)
 refine Y (AF E KD (AG 1 Tt E (H4 E N4 E (Z E Ci (V ?_)))))
 refine AN h E (fun hc1 h=>?_) fun hc1 h=>?_
 cases h
 refine AJ ?_
 exact Ap (p0,p0_1,p0_2,Ay,D8,0,[]) h tL (BM [2,7,10,11,12,13,8,9,3,4,5,6,1,0] 14 E E E)
 obtain⟨o1,o2,o3,v1,v2,y1,y2⟩:=x
 dsimp only at h
 unfold IF at h
 try dsimp only
 refine Y (B0 [] E N3 N2 FB zT E ?_)
 refine Ak E FB zU fun b3=>?_
 refine A2 0 E E E E EX E E E zT (V ?_)
 refine A6 (α:=FX×BX×Az×Value×Value×UInt32×List UInt8) (fun x=>IG x.1 x.2.1 x.2.2.1 x.2.2.2.2.2.1 x.2.2.2.2.2.2=some r) (fun x=>[(0,vP Ar 0),(4,vP b2 0),(7,vP b3 0)]) (fun x=>AL Ar (.cells #[vP BC 0,Ac,x.2.2.2.1,x.2.2.2.2.1,vI x.1.err,BV] 212)::AL BC (.cells #[vP CN 0,BY,AA x.2.1.gen,AA x.2.1.boot,AV x.2.1.num,CO] 153)::AL CN (.cells #[Bk,Bm,Bn,AV x.2.2.1.rcnt,vS x.2.2.1.rtag,AA x.2.2.1.rboots,vI x.2.2.1.left,vB x.2.2.1.off] 107)::AD 9 1 Bk eS x.2.2.1.blk::AD 9 1 Bm eS x.2.2.1.pnd::AD 4 1 Bn eB x.2.2.1.bads::AD 114 2 BY Aa x.2.1.ring::AD 4 1 CO eB x.2.1.taken::AD 190 3 Ac AU x.1.had::AD 190 3 x.2.2.2.1 AU x.1.out::AD 33 1 x.2.2.2.2.1 BL x.1.took::AD 190 3 BV AU x.1.must::AL b2 (.cells #[AA y1,vS y2] 188)::AL b3 (.cells #[AA x.2.2.2.2.2.1,vS x.2.2.2.2.2.2] 188)::H) ?_ (fun x D h=>?_)
 refine Y ?_
 refine AE h fun q1 hq1 h=>?_
 obtain⟨x1,ex1,h⟩:=Bu h
 refine AF E Ry (AG 13 FT E (H4 E Cq E (bU E E E (Z E DZ (Z E (Uz hq1) (Z E L8 ?_))))))
 refine Al (u:=vI x1) E E (congrArg vI ex1) ?_
 refine V (AP ?_)
 refine SX.heap (SX.mono (BG (α:=Nat×FX×BX×Az×Value×Value×UInt32×List UInt8×Int) (fun x=>Fv n T x.1 (x.2.1,x.2.2.1,x.2.2.2.1,x.2.2.2.2.2.2.1,x.2.2.2.2.2.2.2.1,x.2.2.2.2.2.2.2.2)=some r) (fun x=>[(0,vP Ar 0),(3,vP b1 0),(4,vP b2 0),(7,vP b3 0),(8,vI x.2.2.2.2.2.2.2.2)]) (fun x=>AL Ar (.cells #[vP BC 0,Ac,x.2.2.2.2.1,x.2.2.2.2.2.1,vI x.2.1.err,BV] 212)::AL BC (.cells #[vP CN 0,BY,AA x.2.2.1.gen,AA x.2.2.1.boot,AV x.2.2.1.num,CO] 153)::AL CN (.cells #[Bk,Bm,Bn,AV x.2.2.2.1.rcnt,vS x.2.2.2.1.rtag,AA x.2.2.2.1.rboots,vI x.2.2.2.1.left,vB x.2.2.2.1.off] 107)::AD 9 1 Bk eS x.2.2.2.1.blk::AD 9 1 Bm eS x.2.2.2.1.pnd::AD 4 1 Bn eB x.2.2.2.1.bads::AD 114 2 BY Aa x.2.2.1.ring::AD 4 1 CO eB x.2.2.1.taken::AD 190 3 Ac AU x.2.1.had::AD 190 3 x.2.2.2.2.1 AU x.2.1.out::AD 33 1 x.2.2.2.2.2.1 BL x.2.1.took::AD 190 3 BV AU x.2.1.must::AL b1 (.cells #[AA 0,AA 0,vI 0,zN,zN] 167)::AL b2 (.cells #[AA y1,vS y2] 188)::AL b3 (.cells #[AA x.2.2.2.2.2.2.1,vS x.2.2.2.2.2.2.2.1] 188)::H) (fun x=>x.1) (fun x D h=>?_) (n,o1,o2,o3,v1,v2,0,[],x1) h) tL) (BM [1,2,3,4,5,6,7,8,9,10,11,12,13,14,0] 15 E E E)
 obtain⟨m1,o7,o8,o9,v5,v6,y5,y6,a1⟩:=x
 dsimp only at h
 rcases m1 with _ | m1
 cases (show(none:Option _)=some r from h)
 replace h:EQ n T (Fv n T m1) o7 o8 o9 y5 y6 a1=some r:=h
 unfold EQ at h
 try dsimp only
 refine AH (Y (J E (Z E Js (V ?_))))
 refine AN h E (fun hc2 h=>?_) fun hc2 h=>?_
 refine AJ (AI (AH (AP ?_)))
 refine AE h fun l1 hl1 h=>?_
 refine AE h fun y7 hy7 h=>?_
 refine Aw DC [12,14] (CF [(true,0),(true,1),(true,2),(true,3),(true,4),(true,5),(true,6),(true,7),(true,8),(true,9),(true,10),(true,11),(true,12)] (.last 13 (Cz [(false,14)]))) zK (J E (AF E Ry (AG 0 FT E (J E (AF E Ry (AG 0 FT E (H4 E Cq E ?_)))))))
 refine J E (Z E Bf (T7 E E E ?_))
 refine jQ hl1 (B6.nil (enc:=AY) (sz:=4) zV) E Cq DX E E E fun v7 hs1=>?_
 refine Aq [AA y5,vS y6] E C5 E E (Aj 1 E) ?_
 refine Px hs1 fun hv1 ho1=>?_
 refine RT [vI 1,v7,.agg #[AA y5,vS y6]] [#[vI 1],#[v7],#[AA y5,vS y6]] (by simp only[List.map_cons,List.map_nil,hv1];rfl) E eV eU bF ⟨E,E,E,zT⟩ E (Bc (SL.pick [0,8,9,10,11,1,6,7,2,3,4,5] 12 ?_))
 refine BN 12 mc ((RL hy7 hT hs1 (B6.nil zV) :)) E ?_
 rintro _ _ ⟨v8,v9,rfl,rfl⟩
 refine A2 14 E E E E EX E E E zT (AZ (Am (AI (AQ ?_))))
 obtain⟨x2,ex2,h⟩:=Bu h
 refine J E (Z E DZ ?_)
 refine Al (u:=vI x2) E E (congrArg vI ex2) ?_
 refine AZ ?_
 exact Au (m1,y7.2.1,y7.2.2.1,y7.2.2.2,v8,v9,y7.1.page,y7.1.tag,x2) h (Nat.lt_succ_self _) tL (BM [0,5,8,9,10,11,6,7,1,2,3,4,12,13,14] 15 E E E)
 refine Ax (A3 (BZ (A5 ?_)))
 exact Ap (o7,o8,o9,v5,v6,y5,y6) h tL (BM [0,1,2,3,4,5,6,7,8,9,10,11,13,14] 15 E E E)
 obtain⟨o4,o5,o6,v3,v4,y3,y4⟩:=x
 dsimp only at h
 unfold IG at h
 try dsimp only
 refine Y (Aq [AA y3,vS y4] E C5 E E (Aj 13 E) (A2 12 E E E E EX E E E zT (V (AK ?_))))
 obtain rfl:=zI h
 exact Ag (IU E (B8 12 (Bt (⟨y3,y4⟩:BS)) C5 E E E E)) (Af (M:=[_,_,_,_,_,_,_,_,_,_,_,_]) ⟨v3,v4,E,E⟩ fun _ hw=>BT.pick (H:=[_,_,_,_,_,_,_,_,_,_,_,_,_,_]) hw [0,8,9,10,11,1,6,7,2,3,4,5] 14 E)
def NJ(y2:BS×FX×BX×Az)(o1:BX):Option (List BI×Int×BX×Az):=
 some (y2.2.1.out,0,o1,y2.2.2.2)
def LK(n:Nat)(T:List UInt32)(p0:BX)(p0_1:Az):Option (List BI×Int×BX×Az):=
 (fS).bind fun y1=>
 cond (!decide (y1=0))
 (
  none)
 (
  (Fk n T ({ had:=[],out:=[],took:=[],err:=0,must:=[] }:FX) p0 p0_1).bind fun y2=>
  cond (!decide (y2.2.1.err=0))
  (
   none)
  (
   NJ y2 y2.2.2.1))
theorem YN{n Ar BC:Nat}{T:List UInt32}{Ac BV Dj BY Dk:Value}{p0:BX}{p0_1:Az}{r:List BI×Int×BX×Az}(h:LK n T p0 p0_1=some r)(hT:I0 K w0 2 64 T):zC K w0 72 [vP Ar 0,zN,zN] [AL Ar (.cells #[vP BC 0,Ac,AA p0.gen,AA p0.boot,AV p0.num,BV] 153),AD 114 2 Ac Aa p0.ring,AD 4 1 BV eB p0.taken,AL BC (.cells #[Dj,BY,Dk,AV p0_1.rcnt,vS p0_1.rtag,AA p0_1.rboots,vI p0_1.left,vB p0_1.off] 107),AD 9 1 Dj eS p0_1.blk,AD 9 1 BY eS p0_1.pnd,AD 4 1 Dk eB p0_1.bads] H (fun u M=>∃v0:Value,u=.tuple #[v0,vI r.2.1]∧M=[AD 190 3 v0 AU r.1,AL Ar (.cells #[vP BC 0,Ac,AA r.2.2.1.gen,AA r.2.2.1.boot,AV r.2.2.1.num,BV] 153),AD 114 2 Ac Aa r.2.2.1.ring,AD 4 1 BV eB r.2.2.1.taken,AL BC (.cells #[Dj,BY,Dk,AV r.2.2.2.rcnt,vS r.2.2.2.rtag,AA r.2.2.2.rboots,vI r.2.2.2.left,vB r.2.2.2.off] 107),AD 9 1 Dj eS r.2.2.2.blk,AD 9 1 BY eS r.2.2.2.pnd,AD 4 1 Dk eB r.2.2.2.bads]):=by
 unfold LK at h
 refine TP.enter Tryz.func72 rfl rfl ?_
 refine Y (B5 190 3 AU (U E (U E (V (Y ?_)))))
 refine AE h fun y1 hy1 h=>?_
 refine J E (AS 0 mL (iz hy1) E (J E (Ae E E E (Ae E E E ?_))))
 refine Ak E IY zU fun b1=>?_
 refine B5 35 4 AY (B5 167 5 Yh (A2 2 E E E E IV E E E zT (B5 35 4 AY (B5 167 5 Yh (U E (V (AH (Y (J E (Z E BJ (V ?_)))))))))))
 refine AN h E (fun hc1 h=>?_) fun hc1 h=>?_
 cases h
 refine AJ (AI (Y (J E (J E (B0 [_,_] E qZ qO rH ⟨E,E,zT⟩ E ?_)))))
 refine Ba E E zU fun b2=>?_
 refine B5 190 3 AU (B5 190 3 AU (B5 33 1 BL (B5 190 3 AU (U E (V (Y ?_))))))
 refine AE h fun y2 hy2 h=>?_
 refine J E (Aq [AA 0,AA 0,vI 0,zN,zN] E NB E E (Aj 9 E) (SL.pick [4,3,2,1,0,11,12,13,14,15,16,17,5,6,7,8,9,10] 18 (BN 12 mM ((Ri hy2 hT :)) E ?_)))
 rintro _ _ ⟨v1,v2,rfl,rfl⟩
 refine V ?_
 refine A6 (α:=BX) (fun x=>NJ y2 x=some r) (fun x=>[(0,vP Ar 0),(10,vP b2 0)]) (fun x=>AL Ar (.cells #[vP BC 0,Ac,AA x.gen,AA x.boot,AV x.num,BV] 153)::AL BC (.cells #[Dj,BY,Dk,AV y2.2.2.2.rcnt,vS y2.2.2.2.rtag,AA y2.2.2.2.rboots,vI y2.2.2.2.left,vB y2.2.2.2.off] 107)::AD 9 1 Dj eS y2.2.2.2.blk::AD 9 1 BY eS y2.2.2.2.pnd::AD 4 1 Dk eB y2.2.2.2.bads::AD 114 2 Ac Aa x.ring::AD 4 1 BV eB x.taken::AL b2 (.cells #[vP Ar 0,zN,v1,v2,vI y2.2.1.err,zN] 212)::AD 190 3 zN AU y2.2.1.had::AD 190 3 v1 AU y2.2.1.out::AD 33 1 v2 BL y2.2.1.took::AD 190 3 zN AU y2.2.1.must::H) ?_ (fun o1 D h=>?_)
 refine Y (J E (AT E E (AF E XY (AG 0 QF E (Z E BJ (V ?_))))))
 refine AN h E (fun hc2 h=>?_) fun hc2 h=>?_
 cases h
 refine AJ ?_
 exact Ap y2.2.2.1 h tL (BM [5,8,9,10,11,6,7,0,1,2,3,4] 18 E E E)
 unfold NJ at h
 try dsimp only
 refine Y (J E (AT E E (AF E XX (AG 7 QG E (U E (U E (V (AK ?_))))))))
 obtain rfl:=zI h
 exact Bo [9,0,5,6,1,2,3,4] 12 (ES E E E) E E ⟨v1,E,E⟩
end

section
variable {K:Nat→Prop}{w0:World}{H:List AX}
def Na(p0:Az):Option Bool:=
 ret (decide (p0.rcnt=18446744073709551615)) fun x1=>
 some x1
theorem YO{Ar:Nat}{As Ac Ay:Value}{p0:Az}{r:Bool}(h:Na p0=some r): zC K w0 47 [vP Ar 0] [AL Ar (.cells #[As,Ac,Ay,AV p0.rcnt,vS p0.rtag,AA p0.rboots,vI p0.left,vB p0.off] 107),AD 9 1 As eS p0.blk,AD 9 1 Ac eS p0.pnd,AD 4 1 Ay eB p0.bads] H (fun u M=>u=vB r∧M=[AL Ar (.cells #[As,Ac,Ay,AV p0.rcnt,vS p0.rtag,AA p0.rboots,vI p0.left,vB p0.off] 107),AD 9 1 As eS p0.blk,AD 9 1 Ac eS p0.pnd,AD 4 1 Ay eB p0.bads]):=by
 unfold Na at h
 refine TP.enter Tryz.func47 rfl rfl ?_
 refine Y (U E (V (Y ?_)))
 obtain⟨x1,ex1,h⟩:=Bu h
 refine J E (AT E E (AF E LO (AF E PP (AG 0 Gy E ?_))))
 refine Z E (L7 (b:=18446744073709551615)) ?_
 refine Al (u:=vB x1) E E (congrArg vB ex1) ?_
 refine V (AK ?_)
 obtain rfl:=zI h
 exact AW [0,1,2,3] 4 E E E
def Mk:Option Int:=
 some (-1)
def K7(p0:List BI)(nx_f_ref16_place_l1:Int→Option Int)(a1:Int):Option Int:=
 cond (decide (a1<(p0.length:Int)))
 (
  none)
 (
  Mk)
def Ml(p0:List BI):Nat→Int→Option Int:=CE fun nx x=>K7 p0 nx x
def Ol(n:Nat)(p0:List BI)(p1:UInt32):Option Int:=
 Ml p0 n 0
theorem W9{n:Nat}{DA:Value}{p0:List BI}{p1:UInt32}{r:Int}(h:Ol n p0 p1=some r)(hs0_:B6 K w0 AU 3 DA p0):zC K w0 110 [DA,AA p1] [] H (fun u M=>u=vI r∧M=[]):=by
 unfold Ol at h
 refine TP.enter Tryz.func110 rfl rfl ?_
 refine Y (U E (V ?_))
 refine A6 (α:=Unit) (fun x=>Mk=some r) (fun x=>[]) (fun x=>H) ?_ (fun x D h=>?_)
 refine Y (U E (V (AP ?_)))
 refine SX.heap (SX.mono (BG (α:=Nat×Int) (fun x=>Ml p0 x.1 x.2=some r) (fun x=>[(0,DA),(1,AA p1),(5,vI x.2)]) (fun x=>H) (fun x=>x.1) (fun x D h=>?_) (n,0) h) tL) (BM [] 0 E E E)
 obtain⟨m1,a1⟩:=x
 dsimp only at h
 rcases m1 with _ | m1
 cases (show(none:Option _)=some r from h)
 replace h:K7 p0 (Ml p0 m1) a1=some r:=h
 unfold K7 at h
 try dsimp only
 refine AH (Y (J E (J E (B1 hs0_ E KN E (Z E A4 (V ?_))))))
 refine AN h E (fun hc1 h=>?_) fun hc1 h=>?_
 cases h
 refine Ax (A3 (BZ (A5 ?_)))
 exact Ap () h tL (BM [] 0 E E E)
 unfold Mk at h
 try dsimp only
 refine Y (U E (V (AK ?_)))
 obtain rfl:=zI h
 exact AW [] 0 E E E
def EH(n:Nat)(T:List UInt32)(p0:Db)(p0_1:BX)(p0_2:Az)(p2:List BI):Option (Int×BX×Az):=
 (EZ n p0_2).bind fun y1=>
 cond (!decide (y1.1=0))
 (
  none)
 (
  (BA p2 (wI ((p2.length:Int)-1))).bind fun x1=>
  (LL y1.2.rcnt p0_1.gen 0 (⟨x1.page,x1.tag⟩:BS)).bind fun y2=>
  cond (!decide (y2.2=0))
  (
   none)
  (
   (I7 n y2.1).bind fun y3=>
   (VK y2.1.cnt 2).bind fun q1=>
   (Hf n T p0_1 y1.2 q1.toUInt32 y3.1).bind fun y4=>
   cond (!decide (y4.2.1=0))
   (
    none)
   (
    (EZ n y4.2.2.2).bind fun y5=>
    cond (!decide (y5.1=0))
    (
     none)
    (
     (Eu y5.2 y4.1).bind fun y6=>
     some (y6.1,y4.2.2.1,y6.2)))))
theorem QW{n Ar BC CN:Nat}{T:List UInt32}{Ac Ay D8 BY CO Bk Bm Bn GF:Value}{p0:Db}{p0_1:BX}{p0_2:Az}{p2:List BI}{r:Int×BX×Az}(h:EH n T p0 p0_1 p0_2 p2=some r)(hT:I0 K w0 2 64 T)(hs2_:B6 K w0 AU 3 GF p2):zC K w0 73 [vP Ar 0,zN,GF] [AL Ar (.cells #[vP BC 0,Ac,Ay,D8,vB p0.bad] 122),AD 35 4 Ac AY p0.rows,AD 190 3 Ay AU p0.had,AD 33 1 D8 BL p0.gens,AL BC (.cells #[vP CN 0,BY,AA p0_1.gen,AA p0_1.boot,AV p0_1.num,CO] 153),AD 114 2 BY Aa p0_1.ring,AD 4 1 CO eB p0_1.taken,AL CN (.cells #[Bk,Bm,Bn,AV p0_2.rcnt,vS p0_2.rtag,AA p0_2.rboots,vI p0_2.left,vB p0_2.off] 107),AD 9 1 Bk eS p0_2.blk,AD 9 1 Bm eS p0_2.pnd,AD 4 1 Bn eB p0_2.bads] H (fun u M=>u=vI r.1∧M=[AL Ar (.cells #[vP BC 0,Ac,Ay,D8,vB p0.bad] 122),AD 35 4 Ac AY p0.rows,AD 190 3 Ay AU p0.had,AD 33 1 D8 BL p0.gens,AL BC (.cells #[vP CN 0,BY,AA r.2.1.gen,AA r.2.1.boot,AV r.2.1.num,CO] 153),AD 114 2 BY Aa r.2.1.ring,AD 4 1 CO eB r.2.1.taken,AL CN (.cells #[Bk,Bm,Bn,AV r.2.2.rcnt,vS r.2.2.rtag,AA r.2.2.rboots,vI r.2.2.left,vB r.2.2.off] 107),AD 9 1 Bk eS r.2.2.blk,AD 9 1 Bm eS r.2.2.pnd,AD 4 1 Bn eB r.2.2.bads]):=by
 unfold EH at h
 refine TP.enter Tryz.func73 rfl rfl ?_
 refine Y (U E (V (Y ?_)))
 refine AE h fun y1 hy1 h=>?_
 refine J E (AT E E (AF E KC (AG 0 NR E (AT E E (AF E Oq (AG 4 Xy E (SL.pick [7,8,9,10,0,1,2,3,4,5,6] 11 ?_)))))))
 refine AS 4 Zs (JV hy1) E (U E (V (AH (Y (J E (Z E BJ (V ?_)))))))
 refine AN h E (fun hc1 h=>?_) fun hc1 h=>?_
 cases h
 refine AJ (AI (AH ?_))
 refine AE h fun x1 hx1 h=>?_
 refine AE h fun y2 hy2 h=>?_
 refine Aw DC [0,4,8] (CF [(true,0),(true,1),(true,2),(true,3),(true,4),(true,5),(true,6),(true,7),(true,8),(true,9),(true,10),(true,11),(true,12),(true,13),(true,14),(true,15),(true,16),(true,17),(true,18),(true,19),(true,20),(true,21),(true,22),(true,23),(true,24),(true,25),(true,26)] (.alt 27 (CF [(true,28),(true,29),(true,30),(false,31),(false,32)] (.last 33 .nil)) (.cons (false,31) (CF [(false,27),(true,28),(true,29),(true,30),(false,32)] (.last 33 .nil))))) zK (J E (AT E E (AF E KC (AG 1 NR E (AT E E (AF E Oq (AG 2 Xy E ?_)))))))
 refine AT E E (AF E LO (AF E PP (AG 0 Gy E (J E (AT E E (AF E KC (AG 1 NR E ?_)))))))
 refine AT E E (AF E XT (AG 2 A1 E (J E (H4 E Cq E (J E (J E (B1 hs2_ E KN E ?_)))))))
 refine Z E DZ ?_
 refine C4 hx1 hs2_ E KN KM E E fun be1 of1 hc2=>?_
 refine AF E KE ?_
 refine Aq [AA x1.page,vS x1.tag] E C5 E E (XI (d:=1) hc2 E) ?_
 refine QN ?_ ?_
 refine BW 0 fT ((TC hy2 :)) E ⟨⟨0,E⟩,⟨4,E⟩,⟨8,E⟩,zT⟩ (J E (Ae E E E (Ae E E E ?_)))
 refine Ak E LB (fun _=>⟨⟨1,E⟩,⟨5,E⟩,⟨9,E⟩,zT⟩) fun b1=>?_
 refine A2 0 E E E E Mu E E E ⟨⟨1,E⟩,⟨5,E⟩,⟨9,E⟩,zT⟩ (Bc (U E (V (AH (Y (J E (Z E BJ (V ?_))))))))
 refine AN h E (fun hc3 h=>?_) fun hc3 h=>?_
 cases h
 refine AJ (AI (Y ?_))
 refine AE h fun y3 hy3 h=>?_
 refine Aq [AV y2.1.cnt,AA y2.1.gen,AA y2.1.rows,AA y2.1.page,vS y2.1.tag] E Id E E (Aj 0 E) (AS 0 fU ((RA hy3 :)) E (J E (Ae E E E (Ae E E E (U E (U E (V (AH ?_))))))))
 refine AE h fun q1 hq1 h=>?_
 refine AE h fun y4 hy4 h=>?_
 refine Aw DC [0,5] (CF [(true,0),(true,1),(true,2),(true,3),(true,4),(true,5),(true,6),(true,7),(true,8),(false,9),(false,10),(true,11),(true,12),(false,13)] (.last 14 .nil)) zK (J E (AT E E (AF E KC (AG 1 NR E (AF E LP (AG 0 Gy E ?_))))))
 refine Z E (PC (b:=2) hq1) ?_
 refine BB E E (M9 DJ CJ) (J E (SL.pick [9,10,11,1,2,3,4,0,5,6,7,8] 12 (BW 7 fV (Ni hy4 hT) E ⟨⟨7,E⟩,⟨8,E⟩,zT⟩ (J E (Ae E E E (Ae E E E (U E (Bc ?_))))))))
 refine U E (V (AH (Y (J E (Z E BJ (V ?_))))))
 refine AN h E (fun hc4 h=>?_) fun hc4 h=>?_
 cases h
 refine AJ (AI (Y ?_))
 refine AE h fun y5 hy5 h=>?_
 refine J E (AT E E (AF E KC (AG 8 NR E (AT E E (AF E Oq (AG 0 Xy E (SL.pick [3,4,5,6,0,1,2] 7 ?_)))))))
 refine AS 4 Zs (JV hy5) E (U E (V (AH (Y (J E (Z E BJ (V ?_)))))))
 refine AN h E (fun hc5 h=>?_) fun hc5 h=>?_
 cases h
 refine AJ (AI (Y ?_))
 refine AE h fun y6 hy6 h=>?_
 refine J E (AT E E (AF E KC (AG 8 NR E (AT E E (AF E Oq (AG 4 Xy E (J E ?_)))))))
 refine AS 4 fW (MD hy6) E (U E (V (AK ?_)))
 obtain rfl:=zI h
 exact AW [8,9,10,11,4,5,6,0,1,2,3] 12 E E E
 refine Ak E LB (fun _=>⟨⟨1,E⟩,⟨5,E⟩,⟨9,E⟩,zT⟩) fun b1=>?_
 refine BW 0 fT ((TC hy2 :)) E ⟨⟨1,E⟩,⟨5,E⟩,⟨9,E⟩,zT⟩ (J E (Ae E E E (Ae E E E (A2 0 E E E E Mu E E E ⟨⟨1,E⟩,⟨5,E⟩,⟨9,E⟩,zT⟩ (Bc (U E (V (AH (Y (J E (Z E BJ (V ?_))))))))))))
 refine AN h E (fun hc3 h=>?_) fun hc3 h=>?_
 cases h
 refine AJ (AI (Y ?_))
 refine AE h fun y3 hy3 h=>?_
 refine Aq [AV y2.1.cnt,AA y2.1.gen,AA y2.1.rows,AA y2.1.page,vS y2.1.tag] E Id E E (Aj 0 E) (AS 0 fU ((RA hy3 :)) E (J E (Ae E E E (Ae E E E (U E (U E (V (AH ?_))))))))
 refine AE h fun q1 hq1 h=>?_
 refine AE h fun y4 hy4 h=>?_
 refine Aw DC [0,5] (CF [(true,0),(true,1),(true,2),(true,3),(true,4),(true,5),(true,6),(true,7),(true,8),(false,9),(false,10),(true,11),(true,12),(false,13)] (.last 14 .nil)) zK (J E (AT E E (AF E KC (AG 1 NR E (AF E LP (AG 0 Gy E ?_))))))
 refine Z E (PC (b:=2) hq1) ?_
 refine BB E E (M9 DJ CJ) (J E (SL.pick [9,10,11,1,2,3,4,0,5,6,7,8] 12 (BW 7 fV (Ni hy4 hT) E ⟨⟨7,E⟩,⟨8,E⟩,zT⟩ (J E (Ae E E E (Ae E E E (U E (Bc ?_))))))))
 refine U E (V (AH (Y (J E (Z E BJ (V ?_))))))
 refine AN h E (fun hc4 h=>?_) fun hc4 h=>?_
 cases h
 refine AJ (AI (Y ?_))
 refine AE h fun y5 hy5 h=>?_
 refine J E (AT E E (AF E KC (AG 8 NR E (AT E E (AF E Oq (AG 0 Xy E (SL.pick [3,4,5,6,0,1,2] 7 ?_)))))))
 refine AS 4 Zs (JV hy5) E (U E (V (AH (Y (J E (Z E BJ (V ?_)))))))
 refine AN h E (fun hc5 h=>?_) fun hc5 h=>?_
 cases h
 refine AJ (AI (Y ?_))
 refine AE h fun y6 hy6 h=>?_
 refine J E (AT E E (AF E KC (AG 8 NR E (AT E E (AF E Oq (AG 4 Xy E (J E ?_)))))))
 refine AS 4 fW (MD hy6) E (U E (V (AK ?_)))
 obtain rfl:=zI h
 exact AW [8,9,10,11,4,5,6,0,1,2,3] 12 E E E
def IJ(p0:Db)(p2:List BI)(l1:List UInt32)(o1:BX):Option (Db×BX):=
 some ({ p0 with rows:=[],had:=p2,gens:=l1 },o1)
def HD(p0:Db)(p2:List BI)(l1:List UInt32)(nx_f_ref16_Store_moved_l2:BX×Int→Option (Db×BX))(o2:BX)(a3:Int):Option (Db×BX):=
 cond (decide (a3<(p0.had.length:Int)))
 (
  none)
 (
  IJ p0 p2 l1 o2)
def IK(p0:Db)(p2:List BI)(l1:List UInt32):Nat→(BX×Int)→Option (Db×BX):=CE fun nx x=>HD p0 p2 l1 nx x.1 x.2
def IH(n:Nat)(p0:Db)(p0_1:BX)(p2:List BI)(l1:List UInt32):Option (Db×BX):=
 IK p0 p2 l1 n (p0_1,0)
def II(l2:List UInt32)(a1:Int)(nx_f_ref16_Store_moved_l1:List UInt32×Int→Option (Db×BX))(a2:UInt32):Option (Db×BX):=
 (DM 4 l2 [a2]).bind fun l3=>
 ret (wI (a1+1)) fun i_1=>
 nx_f_ref16_Store_moved_l1 (l3,i_1)
def HC(n:Nat)(p0:Db)(p0_1:BX)(p2:List BI)(nx_f_ref16_Store_moved_l1:List UInt32×Int→Option (Db×BX))(l2:List UInt32)(a1:Int):Option (Db×BX):=
 cond (decide (a1<(p2.length:Int)))
 (
  (BA p2 a1).bind fun x1=>
  (Ol n p0.had x1.page).bind fun y1=>
  (Ju (decide (0≤y1)) ((BA p0.had y1).bind fun x2=>(BA p2 a1).bind fun x3=>some (decide (x2.txt=x3.txt)&&(decide (x2.page=x3.page)&&(decide (x2.tag=x3.tag)&&true))))).bind fun y2=>
  cond y2
  (
   none)
  (
   II l2 a1 nx_f_ref16_Store_moved_l1 p0_1.gen))
 (
  IH n p0 p0_1 p2 l2)
def Fw(n:Nat)(p0:Db)(p0_1:BX)(p2:List BI):Nat→(List UInt32×Int)→Option (Db×BX):=CE fun nx x=>HC n p0 p0_1 p2 nx x.1 x.2
def J6(n:Nat)(p0:Db)(p0_1:BX)(p0_2:Az)(p2:List BI):Option (Db×BX):=
 Fw n p0 p0_1 p2 n ([],0)
theorem Rk{n Ar BC CN:Nat}{Ac Ay D8 BY CO Bk Bm Bn GF:Value}{p0:Db}{p0_1:BX}{p0_2:Az}{p2:List BI}{r:Db×BX}(h:J6 n p0 p0_1 p0_2 p2=some r): zC K w0 74 [vP Ar 0,zN,GF] [AL Ar (.cells #[vP BC 0,Ac,Ay,D8,vB p0.bad] 122),AD 35 4 Ac AY p0.rows,AD 190 3 Ay AU p0.had,AD 33 1 D8 BL p0.gens,AL BC (.cells #[vP CN 0,BY,AA p0_1.gen,AA p0_1.boot,AV p0_1.num,CO] 153),AD 114 2 BY Aa p0_1.ring,AD 4 1 CO eB p0_1.taken,AL CN (.cells #[Bk,Bm,Bn,AV p0_2.rcnt,vS p0_2.rtag,AA p0_2.rboots,vI p0_2.left,vB p0_2.off] 107),AD 9 1 Bk eS p0_2.blk,AD 9 1 Bm eS p0_2.pnd,AD 4 1 Bn eB p0_2.bads,AD 190 3 GF AU p2] H (fun u M=>∃vs0_0_1 vs0_0_2 vs0_0_3:Value,u=.tuple #[]∧M=[AL Ar (.cells #[vP BC 0,vs0_0_1,vs0_0_2,vs0_0_3,vB r.1.bad] 122),AD 35 4 vs0_0_1 AY r.1.rows,AD 190 3 vs0_0_2 AU r.1.had,AD 33 1 vs0_0_3 BL r.1.gens,AL BC (.cells #[vP CN 0,BY,AA r.2.gen,AA r.2.boot,AV r.2.num,CO] 153),AD 114 2 BY Aa r.2.ring,AD 4 1 CO eB r.2.taken,AL CN (.cells #[Bk,Bm,Bn,AV p0_2.rcnt,vS p0_2.rtag,AA p0_2.rboots,vI p0_2.left,vB p0_2.off] 107),AD 9 1 Bk eS p0_2.blk,AD 9 1 Bm eS p0_2.pnd,AD 4 1 Bn eB p0_2.bads]):=by
 unfold J6 at h
 refine TP.enter Tryz.func74 rfl rfl ?_
 refine Y (B5 33 1 BL (U E (V ?_)))
 refine A6 (α:=List UInt32×Value) (fun x=>IH n p0 p0_1 p2 x.1=some r) (fun x=>[(0,vP Ar 0),(1,zN),(2,GF),(6,x.2)]) (fun x=>AL Ar (.cells #[vP BC 0,Ac,Ay,D8,vB p0.bad] 122)::AL BC (.cells #[vP CN 0,BY,AA p0_1.gen,AA p0_1.boot,AV p0_1.num,CO] 153)::AL CN (.cells #[Bk,Bm,Bn,AV p0_2.rcnt,vS p0_2.rtag,AA p0_2.rboots,vI p0_2.left,vB p0_2.off] 107)::AD 9 1 Bk eS p0_2.blk::AD 9 1 Bm eS p0_2.pnd::AD 4 1 Bn eB p0_2.bads::AD 114 2 BY Aa p0_1.ring::AD 4 1 CO eB p0_1.taken::AD 35 4 Ac AY p0.rows::AD 190 3 Ay AU p0.had::AD 33 1 D8 BL p0.gens::AD 190 3 GF AU p2::AD 33 1 x.2 BL x.1::H) ?_ (fun x D h=>?_)
 refine Y (U E (V (AP ?_)))
 refine SX.heap (SX.mono (BG (α:=Nat×List UInt32×Value×Int) (fun x=>Fw n p0 p0_1 p2 x.1 (x.2.1,x.2.2.2)=some r) (fun x=>[(0,vP Ar 0),(1,zN),(2,GF),(6,x.2.2.1),(7,vI x.2.2.2)]) (fun x=>AL Ar (.cells #[vP BC 0,Ac,Ay,D8,vB p0.bad] 122)::AL BC (.cells #[vP CN 0,BY,AA p0_1.gen,AA p0_1.boot,AV p0_1.num,CO] 153)::AL CN (.cells #[Bk,Bm,Bn,AV p0_2.rcnt,vS p0_2.rtag,AA p0_2.rboots,vI p0_2.left,vB p0_2.off] 107)::AD 9 1 Bk eS p0_2.blk::AD 9 1 Bm eS p0_2.pnd::AD 4 1 Bn eB p0_2.bads::AD 114 2 BY Aa p0_1.ring::AD 4 1 CO eB p0_1.taken::AD 35 4 Ac AY p0.rows::AD 190 3 Ay AU p0.had::AD 33 1 D8 BL p0.gens::AD 190 3 GF AU p2::AD 33 1 x.2.2.1 BL x.2.1::H) (fun x=>x.1) (fun x D h=>?_) (n,[],zN,0) h) tL) (BM [1,5,8,9,10,11,6,7,2,3,4,12,0] 13 E E E)
 obtain⟨m1,l2,v2,a1⟩:=x
 dsimp only at h
 rcases m1 with _ | m1
 cases (show(none:Option _)=some r from h)
 replace h:HC n p0 p0_1 p2 (Fw n p0 p0_1 p2 m1) l2 a1=some r:=h
 unfold HC at h
 try dsimp only
 refine AH (Y (J E (J E (Dh 11 E KN E E (Z E A4 (V ?_))))))
 refine AN h E (fun hc1 h=>?_) fun hc1 h=>?_
 refine AJ (AI (AH (AP (AH ?_))))
 refine AE h fun x1 hx1 h=>?_
 refine AE h fun y1 hy1 h=>?_
 refine Aw DC [0,11] (CF [(true,0),(true,1),(true,2),(true,3),(true,4),(true,5),(true,6),(true,7),(true,8),(true,9)] (.last 10 (Cz [(false,11)]))) zK (J E (AT E E (AF E Uc (AG 0 QG E (J E (J E ?_))))))
 refine CG 11 hx1 E KN KM E E E fun g1 m2 cp1 hv1=>?_
 refine AF E KE (AF E FS ?_)
 refine Bq E A1 E (B7 (sz:=3) (enc:=AU) 1 1 zV E hv1 hx1 E) ?_
 refine Bc (SL.pick [9,0,1,2,3,4,5,6,7,8] 10 ?_)
 refine Bd (vs:=[_,_]) (Hin:=[_]) (Hr:=_::_::_::_::_::_::_::_::_::_::_::_::_) E E ⟨E,E,zT⟩ mN E E (Ch (B:=[_]) (Hin:=[]) fun K' w1 hk hB=>W9 hy1 (CL (e:=190) (v:=Ay) zV (hB _ zS))) ?_
 rintro _ _ ⟨_,rfl,rfl,rfl⟩
 refine⟨trivial,?_⟩
 refine U E (V (Y (J E (AT E E (AF E KC (AG 1 NR E (AT E E (AF E XT (AG 2 A1 E ?_)))))))))
 refine U E (V ?_)
 refine A6 (α:=UInt32) (fun x=>II l2 a1 (Fw n p0 p0_1 p2 m1) x=some r) (fun x=>[(0,vP Ar 0),(1,zN),(2,GF),(6,v2),(7,vI a1),(9,AA x)]) (fun x=>AL Ar (.cells #[vP BC 0,Ac,Ay,D8,vB p0.bad] 122)::AL BC (.cells #[vP CN 0,BY,AA p0_1.gen,AA p0_1.boot,AV p0_1.num,CO] 153)::AL CN (.cells #[Bk,Bm,Bn,AV p0_2.rcnt,vS p0_2.rtag,AA p0_2.rboots,vI p0_2.left,vB p0_2.off] 107)::AD 9 1 Bk eS p0_2.blk::AD 9 1 Bm eS p0_2.pnd::AD 4 1 Bn eB p0_2.bads::AD 114 2 BY Aa p0_1.ring::AD 4 1 CO eB p0_1.taken::AD 35 4 Ac AY p0.rows::AD 190 3 Ay AU p0.had::AD 33 1 D8 BL p0.gens::AD 190 3 GF AU p2::AD 33 1 v2 BL l2::H) ?_ (fun a2 D h=>?_)
 refine AH ?_
 refine AE h fun y2 hy2 h=>?_
 refine Aw DC [0,1,11] (Cz [(true,0),(true,1),(true,2),(true,3),(true,4),(true,5),(true,6),(true,7),(true,8),(true,9),(true,10),(true,11),(true,12),(true,13),(true,14),(true,15)]) zK (J E (Z E Js (J E ?_)))
 refine Ga 37 13 50 hy2 E (fun hb hg1 k=>?_) (fun hb k=>?_) ?_
 obtain⟨x2,hx2,hg1⟩:=E3 hg1
 obtain⟨x3,hx3,hg1⟩:=E3 hg1
 obtain rfl:=zI hg1
 refine J E (AT E E (AF E Uc (AG 1 QG E (J E ?_))))
 refine CG 0 hx2 E KN KM E E E fun g2 m3 cp2 hv2=>?_
 refine Aq (AU x2) E RX E E (ME (sz:=3) (enc:=AU) 0 zV E hv2 hx2) ?_
 refine J E (J E ?_)
 refine CG 11 hx3 E KN KM E E E fun g3 m4 cp3 hv3=>?_
 refine Aq (AU x3) E RX E E (ME (sz:=3) (enc:=AU) 2 zV E hv3 hx3) ?_
 refine Wh E (show cM Tryz.prog 190=some [(0,.string),(1,.int .u32),(2,.string)] by kernel_rfl) E E (CW E E (Rs (a:=x2.txt) (b:=x3.txt)) (CW E E (If (a:=x2.page) (b:=x3.page)) (CW E E (Rs (a:=x2.tag) (b:=x3.tag)) Is))) ?_
 refine Ah E E E ?_
 exact k.mono tL
 refine AC E (AC E (AC E (AC E (AC E (AC E (AC E (AC E ?_)))))))
 refine AC E (AC E (AC E (AC E (Ah E E E ?_))))
 exact k.mono tL
 refine V ?_
 refine AN h E (fun hc2 h=>?_) fun hc2 h=>?_
 cases h
 refine AJ ?_
 exact Ap p0_1.gen h tL (BM [1,2,3,4,5,6,7,8,9,0,10,11,12] 13 E E E)
 unfold II at h
 try dsimp only
 refine AQ ?_
 refine AE h fun l3 hl3 h=>?_
 refine J E (J E ?_)
 refine B9 [_] rfl CM Bg Hy ⟨rfl,trivial⟩ rfl rfl rfl zW rfl rfl zU fun b1=>?_
 refine CA BL 1 ([a2]:List UInt32) E zV E ?_
 refine Co 13 hl3 (sz:=1) (enc:=BL) zV E CM Bg P0 Hy E zD E E E E (CH (sz:=1) (enc:=BL) 0 zV E) (by simp[BL,Value.oneCell']) zU fun v3=>?_
 refine U E (AZ (Am (AI (AQ ?_))))
 obtain⟨i_1,ei_1,h⟩:=Bu h
 refine J E (Z E Bf ?_)
 refine Al (u:=vI i_1) E E (congrArg vI ei_1) ?_
 refine AZ ?_
 exact Au (m1,l3,v3,i_1) h (Nat.lt_succ_self _) tL (BM [1,2,3,4,5,6,7,8,9,10,11,12,13] 14 E E E)
 refine Ax (A3 (BZ (A5 ?_)))
 exact Ap (l2,v2) h tL (BM [0,1,2,3,4,5,6,7,8,9,10,11,12] 13 E E E)
 obtain⟨l1,v1⟩:=x
 dsimp only at h
 unfold IH at h
 try dsimp only
 refine A6 (α:=BX) (fun x=>IJ p0 p2 l1 x=some r) (fun x=>[(0,vP Ar 0),(1,zN),(2,GF),(6,v1)]) (fun x=>AL Ar (.cells #[vP BC 0,Ac,Ay,D8,vB p0.bad] 122)::AL BC (.cells #[vP CN 0,BY,AA x.gen,AA x.boot,AV x.num,CO] 153)::AL CN (.cells #[Bk,Bm,Bn,AV p0_2.rcnt,vS p0_2.rtag,AA p0_2.rboots,vI p0_2.left,vB p0_2.off] 107)::AD 9 1 Bk eS p0_2.blk::AD 9 1 Bm eS p0_2.pnd::AD 4 1 Bn eB p0_2.bads::AD 114 2 BY Aa x.ring::AD 4 1 CO eB x.taken::AD 35 4 Ac AY p0.rows::AD 190 3 Ay AU p0.had::AD 33 1 D8 BL p0.gens::AD 190 3 GF AU p2::AD 33 1 v1 BL l1::H) ?_ (fun o1 D h=>?_)
 refine Y (U E (V (AP ?_)))
 refine SX.heap (SX.mono (BG (α:=Nat×BX×Int) (fun x=>IK p0 p2 l1 x.1 (x.2.1,x.2.2)=some r) (fun x=>[(0,vP Ar 0),(1,zN),(2,GF),(6,v1),(10,vI x.2.2)]) (fun x=>AL Ar (.cells #[vP BC 0,Ac,Ay,D8,vB p0.bad] 122)::AL BC (.cells #[vP CN 0,BY,AA x.2.1.gen,AA x.2.1.boot,AV x.2.1.num,CO] 153)::AL CN (.cells #[Bk,Bm,Bn,AV p0_2.rcnt,vS p0_2.rtag,AA p0_2.rboots,vI p0_2.left,vB p0_2.off] 107)::AD 9 1 Bk eS p0_2.blk::AD 9 1 Bm eS p0_2.pnd::AD 4 1 Bn eB p0_2.bads::AD 114 2 BY Aa x.2.1.ring::AD 4 1 CO eB x.2.1.taken::AD 35 4 Ac AY p0.rows::AD 190 3 Ay AU p0.had::AD 33 1 D8 BL p0.gens::AD 190 3 GF AU p2::AD 33 1 v1 BL l1::H) (fun x=>x.1) (fun x D h=>?_) (n,p0_1,0) h) tL) (BM [0,1,2,3,4,5,6,7,8,9,10,11,12] 13 E E E)
 obtain⟨m5,o2,a3⟩:=x
 dsimp only at h
 rcases m5 with _ | m5
 cases (show(none:Option _)=some r from h)
 replace h:HD p0 p2 l1 (IK p0 p2 l1 m5) o2 a3=some r:=h
 unfold HD at h
 try dsimp only
 refine AH (Y (J E (J E (AT E E (AF E Uc (AG 0 QG E (Dh 9 E KN E E (Z E A4 (V ?_)))))))))
 refine AN h E (fun hc3 h=>?_) fun hc3 h=>?_
 cases h
 refine Ax (A3 (BZ (A5 ?_)))
 exact Ap o2 h tL (BM [0,1,2,3,4,5,6,7,8,9,10,11,12] 13 E E E)
 unfold IJ at h
 try dsimp only
 refine Y (J E (J E (AT E E (AF E kJ (A2 0 E E E E JG E E E zT (B5 35 4 AY (V (Y (J E (J E ?_))))))))))
 refine AT E E (AF E Uc ?_)
 refine Cs 12 E fun hv4 ho1=>?_
 refine Dt 1 E E E E lB hv4 ho1 E zT (V (AQ (J E (J E (AT E E (AF E kK ?_))))))
 refine Cs 13 E fun hv5 ho2=>?_
 refine Dt 1 E E E E et hv5 ho2 E zT (AZ ?_)
 obtain rfl:=zI h
 exact C8 (Dg E) (Af (M:=[_,_,_,_,_,_,_,_,_,_,_]) ⟨zN,GF,v1,E,E⟩ fun _ hw=>BT.pick (H:=[_,_,_,_,_,_,_,_,_,_,_,_,_,_]) hw [1,0,12,13,2,7,8,3,4,5,6] 14 E)
def Hv(n:Nat)(p0:Db)(y1:List BI×Int×BX×Az)(o1:BX)(o2:Az)(a1:Int):Option (Int×Db×BX×Az):=
 cond (!decide (a1=0))
 (
  none)
 (
  (J6 n p0 o1 o2 y1.1).bind fun y3=>
  some (0,y3.1,y3.2,o2))
def FQ(n:Nat)(T:List UInt32)(p0:Db)(p0_1:BX)(p0_2:Az):Option (Int×Db×BX×Az):=
 (LK n T p0_1 p0_2).bind fun y1=>
 cond (decide (y1.2.1=0))
 (
  (EH n T p0 y1.2.2.1 y1.2.2.2 y1.1).bind fun y2=>
  Hv n p0 y1 y2.2.1 y2.2.2 y2.1)
 (
  none)
theorem RM{n Ar BC CN:Nat}{T:List UInt32}{Ac Ay D8 BY CO Bk Bm Bn:Value}{p0:Db}{p0_1:BX}{p0_2:Az}{r:Int×Db×BX×Az}(h:FQ n T p0 p0_1 p0_2=some r)(hT:I0 K w0 2 64 T):zC K w0 50 [vP Ar 0,zN,zN] [AL Ar (.cells #[vP BC 0,Ac,Ay,D8,vB p0.bad] 122),AD 35 4 Ac AY p0.rows,AD 190 3 Ay AU p0.had,AD 33 1 D8 BL p0.gens,AL BC (.cells #[vP CN 0,BY,AA p0_1.gen,AA p0_1.boot,AV p0_1.num,CO] 153),AD 114 2 BY Aa p0_1.ring,AD 4 1 CO eB p0_1.taken,AL CN (.cells #[Bk,Bm,Bn,AV p0_2.rcnt,vS p0_2.rtag,AA p0_2.rboots,vI p0_2.left,vB p0_2.off] 107),AD 9 1 Bk eS p0_2.blk,AD 9 1 Bm eS p0_2.pnd,AD 4 1 Bn eB p0_2.bads] H (fun u M=>∃vs0_0_1 vs0_0_2 vs0_0_3:Value,u=vI r.1∧M=[AL Ar (.cells #[vP BC 0,vs0_0_1,vs0_0_2,vs0_0_3,vB r.2.1.bad] 122),AD 35 4 vs0_0_1 AY r.2.1.rows,AD 190 3 vs0_0_2 AU r.2.1.had,AD 33 1 vs0_0_3 BL r.2.1.gens,AL BC (.cells #[vP CN 0,BY,AA r.2.2.1.gen,AA r.2.2.1.boot,AV r.2.2.1.num,CO] 153),AD 114 2 BY Aa r.2.2.1.ring,AD 4 1 CO eB r.2.2.1.taken,AL CN (.cells #[Bk,Bm,Bn,AV r.2.2.2.rcnt,vS r.2.2.2.rtag,AA r.2.2.2.rboots,vI r.2.2.2.left,vB r.2.2.2.off] 107),AD 9 1 Bk eS r.2.2.2.blk,AD 9 1 Bm eS r.2.2.2.pnd,AD 4 1 Bn eB r.2.2.2.bads]):=by
 unfold FQ at h
 refine TP.enter Tryz.func50 rfl rfl ?_
 refine Y (U E (V (Y ?_)))
 refine AE h fun y1 hy1 h=>?_
 refine J E (AT E E (AF E KC (AG 0 NR E (J E (J E (SL.pick [4,5,6,7,8,9,10,0,1,2,3] 11 (BN 7 pn (YN hy1 hT) E ?_)))))))
 rintro _ _ ⟨v1,rfl,rfl⟩
 refine J E (Ae E E E (Ae E E E (U E (U E (V ?_)))))
 refine A6 (α:=BX×Az×Int) (fun x=>Hv n p0 y1 x.1 x.2.1 x.2.2=some r) (fun x=>[(0,vP Ar 0),(1,zN),(7,v1),(8,vI x.2.2)]) (fun x=>AL Ar (.cells #[vP BC 0,Ac,Ay,D8,vB p0.bad] 122)::AL BC (.cells #[vP CN 0,BY,AA x.1.gen,AA x.1.boot,AV x.1.num,CO] 153)::AL CN (.cells #[Bk,Bm,Bn,AV x.2.1.rcnt,vS x.2.1.rtag,AA x.2.1.rboots,vI x.2.1.left,vB x.2.1.off] 107)::AD 9 1 Bk eS x.2.1.blk::AD 9 1 Bm eS x.2.1.pnd::AD 4 1 Bn eB x.2.1.bads::AD 114 2 BY Aa x.1.ring::AD 4 1 CO eB x.1.taken::AD 35 4 Ac AY p0.rows::AD 190 3 Ay AU p0.had::AD 33 1 D8 BL p0.gens::AD 190 3 v1 AU y1.1::H) ?_ (fun x D h=>?_)
 refine Y (J E (Z E Bj (V ?_)))
 refine AN h E (fun hc1 h=>?_) fun hc1 h=>?_
 refine AQ ?_
 refine AE h fun y2 hy2 h=>?_
 refine J E (J E (J E (SL.pick [0,8,9,10,11,1,2,3,4,5,6,7] 12 ?_)))
 refine Bd (vs:=[_,_,_]) (Hin:=[_,_,_,_,_,_,_,_,_,_,_,_]) (Hr:=_) E E ⟨E,E,E,zT⟩ pp E E (Ch (B:=[_]) (Hin:=[_,_,_,_,_,_,_,_,_,_,_]) fun K' w1 hk hB=>QW hy2 (hT.keeps hk) (CL (e:=190) (v:=v1) zV (hB _ zS))) ?_
 rintro _ _ ⟨_,rfl,rfl,rfl⟩
 refine⟨trivial,?_⟩
 refine U E (AZ ?_)
 exact Ap (y2.2.1,y2.2.2,y2.1) h tL (BM [1,5,8,9,10,11,6,7,2,3,4,0] 12 E E E)
 cases h
 obtain⟨o1,o2,a1⟩:=x
 dsimp only at h
 unfold Hv at h
 try dsimp only
 refine AH (Y (J E (Z E BJ (V ?_))))
 refine AN h E (fun hc2 h=>?_) fun hc2 h=>?_
 cases h
 refine AJ (AI (Y ?_))
 refine AE h fun y3 hy3 h=>?_
 refine J E (J E (J E (SL.pick [0,8,9,10,1,6,7,2,3,4,5,11] 12 (BN 12 pq (Rk hy3) E ?_))))
 rintro _ _ ⟨v2,v3,v4,rfl,rfl⟩
 refine V (Y (U E (V (AK ?_))))
 obtain rfl:=zI h
 exact Bo [0,1,2,3,4,5,6,7,8,9,10] 11 (Ck E E) E E ⟨v2,v3,v4,E,E⟩
def I8(n:Nat)(T:List UInt32)(p0:Az)(p1:List BK):Option (Option (Db×BX)×Int×Az):=
 (I5 n p1).bind fun y1=>
 cond (!decide (y1.2=0))
 (
  none)
 (
  (Na p0).bind fun y2=>
  cond y2
  (
   none)
  (
   (G7 p0).bind fun y3=>
   cond (!decide (y3.2.1=0))
   (
    none)
   (
    (Mi n y3.2.2 p1 y1.1 y3.1).bind fun y4=>
    (y4.1).bind fun d1=>
    (FQ n T ({ rows:=[],had:=[],gens:=[],bad:=false }:Db) d1 y3.2.2).bind fun y5=>
    cond (!decide (y5.1=0))
    (
     none)
    (
     some (some (y5.2.1,y5.2.2.1),0,y5.2.2.2)))))
theorem WD{n Ar:Nat}{T:List UInt32}{As Ac Ay EM:Value}{p0:Az}{p1:List BK}{r:Option (Db×BX)×Int×Az}(h:I8 n T p0 p1=some r)(hT:I0 K w0 2 64 T):zC K w0 29 [vP Ar 0,EM] [AL Ar (.cells #[As,Ac,Ay,AV p0.rcnt,vS p0.rtag,AA p0.rboots,vI p0.left,vB p0.off] 107),AD 9 1 As eS p0.blk,AD 9 1 Ac eS p0.pnd,AD 4 1 Ay eB p0.bads,AD 114 2 EM Aa p1] H (fun u M=>(r.1=none∧u=.tuple #[.pointer none,vI r.2.1]∧M=[AL Ar (.cells #[As,Ac,Ay,AV r.2.2.rcnt,vS r.2.2.rtag,AA r.2.2.rboots,vI r.2.2.left,vB r.2.2.off] 107),AD 9 1 As eS r.2.2.blk,AD 9 1 Ac eS r.2.2.pnd,AD 4 1 Ay eB r.2.2.bads])∨(∃(d:Db×BX) (bn0:Nat) (vn0x1:Value) (vn0x2:Value) (vn0x3:Value) (bn1:Nat) (vn1x1:Value) (vn1x5:Value),r.1=some d∧u=.tuple #[vP bn0 0,vI r.2.1]∧M=[AL bn0 (.cells #[vP bn1 0,vn0x1,vn0x2,vn0x3,vB d.1.bad] 122),AD 35 4 vn0x1 AY d.1.rows,AD 190 3 vn0x2 AU d.1.had,AD 33 1 vn0x3 BL d.1.gens,AL bn1 (.cells #[vP Ar 0,vn1x1,AA d.2.gen,AA d.2.boot,AV d.2.num,vn1x5] 153),AD 114 2 vn1x1 Aa d.2.ring,AD 4 1 vn1x5 eB d.2.taken,AL Ar (.cells #[As,Ac,Ay,AV r.2.2.rcnt,vS r.2.2.rtag,AA r.2.2.rboots,vI r.2.2.left,vB r.2.2.off] 107),AD 9 1 As eS r.2.2.blk,AD 9 1 Ac eS r.2.2.pnd,AD 4 1 Ay eB r.2.2.bads])):=by
 unfold I8 at h
 refine TP.enter Tryz.func29 rfl rfl ?_
 refine Y (U E (U E (V (Y ?_))))
 refine AE h fun y1 hy1 h=>?_
 refine J E (SL.pick [4,0,1,2,3] 5 ?_)
 refine Bd (vs:=[_]) (Hin:=[_]) (Hr:=_::_::_::_::_) E E ⟨E,zT⟩ pW E E (Ch (B:=[_]) (Hin:=[]) fun K' w1 hk hB=>WB hy1 (CL (e:=114) (v:=EM) zV (hB _ zS))) ?_
 rintro _ _ ⟨_,rfl,rfl,rfl⟩
 refine⟨trivial,?_⟩
 refine J E (Ae E E E (Ae E E E (U E (U E (V (AH (Y (J E (Z E BJ (V ?_))))))))))
 refine AN h E (fun hc1 h=>?_) fun hc1 h=>?_
 cases h
 refine AJ (AI (AH (Y ?_)))
 refine AE h fun y2 hy2 h=>?_
 refine J E (SL.pick [1,2,3,4,0] 5 (AS 4 pX (YO hy2) E (V ?_)))
 refine AN h E (fun hc2 h=>?_) fun hc2 h=>?_
 cases h
 refine AJ (AI (Y ?_))
 refine AE h fun y3 hy3 h=>?_
 refine J E (AS 4 pY (RJ hy3) E (J E (Ae E E E (Ae E E E (U E (U E (V (AH (Y (J E ?_))))))))))
 refine Z E BJ (V ?_)
 refine AN h E (fun hc3 h=>?_) fun hc3 h=>?_
 cases h
 refine AJ (AI (Y ?_))
 refine AE h fun y4 hy4 h=>?_
 refine AE h fun d1 hd1 h=>?_
 refine J E (J E (J E (J E ?_)))
 refine Bd (vs:=[_,_,_,_]) (Hin:=[_,_,_,_,_]) (Hr:=_) E E ⟨E,E,E,E,zT⟩ pZ E E (Zh hy4) ?_
 rintro _ _ (⟨hn,-,-⟩ | ⟨d_,b1,v1,v2,hn,rfl,rfl⟩)
 rw[hd1]at hn;cases hn
 obtain rfl:d1=d_:=zI (hd1.symm.trans hn)
 refine⟨trivial,?_⟩
 refine J E (Ae E E E (Ae E E E (U E (U E (V (Y (J E (B0 [_] E qV qK rC ⟨E,zT⟩ E ?_))))))))
 refine Ba E E zU fun b2=>?_
 refine B5 35 4 AY (B5 190 3 AU (B5 33 1 BL (U E (V (Y ?_)))))
 refine AE h fun y5 hy5 h=>?_
 refine J E (SL.pick [3,2,1,0,4,5,6,7,8,9,10] 11 (BN 11 pb (RM hy5 hT) E ?_))
 rintro _ _ ⟨v3,v4,v5,rfl,rfl⟩
 refine U E (V (AH (Y (J E (Z E BJ (V ?_))))))
 refine AN h E (fun hc4 h=>?_) fun hc4 h=>?_
 cases h
 refine AJ (AI (Y (J E (U E (U E (V (AK ?_)))))))
 obtain rfl:=zI h
 exact Ag (ES E E E) (Af (M:=[_,_,_,_,_,_,_,_,_,_,_]) (.inr ⟨_,b2,v3,v4,v5,b1,v1,v2,E,E,E⟩) fun _ hw=>BT.pick (H:=[_,_,_,_,_,_,_,_,_,_,_]) hw [0,1,2,3,4,5,6,7,8,9,10] 11 E)
end

section
theorem oS(x:UInt32)(n:Nat)(h:n≤32):DU x (n:Int)=some (rl x n):=by
 unfold DU
 rw[Uw,AB,DB zO zO,show(32-(n:Int))=((32-n:Nat):Int) by omega,Uw,AB]
 rfl
theorem ec(a b c d:UInt32):IB a b c d=some (Q4.quarter ⟨a,b,c,d⟩).list:=by
 have t16:∀x,DU x 16=some (rl x 16):=fun x=>oS x 16 zD
 have t12:∀x,DU x 12=some (rl x 12):=fun x=>oS x 12 zD
 have t8:∀x,DU x 8=some (rl x 8):=fun x=>oS x 8 zD
 have t7:∀x,DU x 7=some (rl x 7):=fun x=>oS x 7 zD
 simp only[IB,ret,t16,t12,t8,t7,AB]
 rfl
theorem gl(s:List UInt8)(i:Nat)(h:i+3<s.length)(hi:s.length≤1099511627776):JM s (i:Int)=some (Jr s i):=by
 unfold JM
 rw[Ct (k:=i) 0 rfl zO,AB,DB zO zO,Ct (k:=i+1) 0 zO zO,AB,
  DB zO zO,Ct (k:=i+2) 0 zO zO,AB,DB zO zO,Ct (k:=i+3) 0 zO zO,AB]
 rfl
theorem fB(c:UInt32):Jr (Fo c) 0=c:=by
 apply UInt32.toNat_inj.1
 have hc:=c.toNat_lt
 have e8:∀k,k≤32→(shr32 c k).toNat=c.toNat / 2^k:=fun k hk=>by
  simp only[shr32,UInt32.toNat_ofNat',Nat.min_eq_left hk]
  exact Nat.mod_eq_of_lt (Nat.lt_of_le_of_lt (Nat.div_le_self _ _) hc)
 have s8:∀(x:UInt8) k,k≤24→(shl32 x.toUInt32 k).toNat=x.toNat*2^k:=fun x k hk=>by
  have hx:=x.toNat_lt
  simp only[shl32,UInt32.toNat_ofNat',UInt8.toNat_toUInt32,Nat.min_eq_left (show k≤32 by omega)]
  refine Nat.mod_eq_of_lt ?_
  calc x.toNat*2^k<2^8*2^k:=Nat.mul_lt_mul_of_pos_right hx (Nat.two_pow_pos k)
   _=2^(8+k):=(Nat.pow_add 2 8 k).symm
   _≤2^32:=Nat.pow_le_pow_right zD zO
 have key:∀(a b k:Nat),a<2^k→a ||| b*2^k=a+b*2^k:=fun a b k h=>by
  rw[Nat.or_comm,Nat.mul_comm,←Nat.two_pow_add_eq_or_of_lt h,Nat.add_comm]
 show(Jr [c.toUInt8,(shr32 c 8).toUInt8,(shr32 c 16).toUInt8,(shr32 c 24).toUInt8] 0).toNat=_
 simp only[Jr,La,List.getD_cons_zero,List.getD_cons_succ,Nat.zero_add]
 rw[UInt32.toNat_or,UInt32.toNat_or,UInt32.toNat_or,s8 _ 8 zO,s8 _ 16 zO,s8 _ 24 zO]
 simp only[UInt8.toNat_toUInt32,UInt32.toNat_toUInt8,e8 8 zO,e8 16 zO,e8 24 zO]
 rw[key _ _ 8 zO,key _ _ 16 zO,key _ _ 24 zO]
 omega
theorem k7(key:List UInt8)(counter:UInt32)(nonce:List UInt8)(hk:key.length=32)(hn:nonce.length=12){n:Nat}(hm:8<n):J1 n key counter nonce=some (HO key counter nonce):=by
 have hw:∀(s:List UInt8) (i:Nat),i<s.length / 4→(CP s).take (i+1)=(CP s).take i++[Jr s (4*i)]:=fun s i hi=>by
  rw[List.take_add_one,List.getElem?_eq_getElem (by rw[EA];exact hi)]
  simp[CP]
 have he:CP Jw=[1634760805,857760878,2036477234,1797285236]:=by decide
 have hc:CP (Fo counter)=[counter]:=by
  have:CP (Fo counter)=[Jr (Fo counter) 0]:=by
   unfold CP
   rw[show(Fo counter).length=4 from rfl]
   rfl
  rw[this,fB]
 unfold J1 Jl
 have h2:HY n counter nonce (CP Jw++CP key)=some (HO key counter nonce):=by
  unfold HY Jm
  have hlk:(CP key).length=8:=by rw[EA,hk]
  rw[DV (by simp[he,hlk]) (by simp[he,hlk]),AB]
  refine(congrArg (CE _ n) ?_).trans (Ex (fun i=>(CP Jw++CP key++[counter]++(CP nonce).take i,(i:Int))) 3 (fun i hi k=>?_) (fun k=>?_) zO)
  simp
  simp only[GB,show decide ((i:Int)<3)=true by simp;omega,C2]
  rw[DB zO zO,show 4*(i:Int)=((4*i:Nat):Int) by omega,gl nonce (4*i) zO zO,AB,DV (by simp[he,hlk,EA];omega) (by simp[he,hlk,EA];omega),AB]
  simp only[ret]
  rw[DB zO zO,hw nonce i zO]
  simp
  simp only[GB,show decide (((3:Nat):Int)<3)=false by decide,CI,Jk]
  rw[List.take_of_length_le (by have:=EA nonce;omega)]
  simp[HO,hc]
 refine(congrArg (CE _ n) ?_).trans (Ex (fun i=>(CP Jw++(CP key).take i,(i:Int))) 8 (fun i hi k=>?_) (fun k=>?_) hm)
 simp[he]
 simp only[GA,show decide ((i:Int)<8)=true by simp;omega,C2]
 rw[DB zO zO,show 4*(i:Int)=((4*i:Nat):Int) by omega,gl key (4*i) zO zO,AB,DV (by simp[he,EA];omega) (by simp[he,EA];omega),AB]
 simp only[ret]
 rw[DB zO zO,hw key i zO]
 simp
 simp only[GA,show decide (((8:Nat):Int)<8)=false by decide,CI]
 rw[List.take_of_length_le (by have:=EA key;omega)]
 exact h2
theorem rT(ws:List UInt32)(ix:Nat→Nat)(h:∀k,k<4→ix k<ws.length):C9 ws (ix 0:Int) (ix 1:Int) (ix 2:Int) (ix 3:Int)=some (ie ws ix):=by
 unfold C9
 have h0:=h 0 zD
 have h1:=h 1 zD
 have h2:=h 2 zD
 have h3:=h 3 zD
 have g:∀(l:List UInt32) (k:Nat),k<l.length→BA l (k:Int)=some (l.getD k 0):=fun l k hk=>Ct 0 rfl hk
 rw[g _ _ h0,AB,g _ _ h1,AB,g _ _ h2,AB,g _ _ h3,AB,ec,AB]
 generalize hq:Q4.quarter ⟨ws.getD (ix 0) 0,ws.getD (ix 1) 0,ws.getD (ix 2) 0,ws.getD (ix 3) 0⟩=q
 have q0:BA q.list 0=some q.a:=rfl
 have q1:BA q.list 1=some q.b:=rfl
 have q2:BA q.list 2=some q.c:=rfl
 have q3:BA q.list 3=some q.d:=rfl
 simp only[q0,q1,q2,q3,AB,LY rfl h0,g (ws.set (ix 0) q.a) (ix 1) (by simpa using h1),LY rfl (show ix 1<(ws.set (ix 0) q.a).length by simpa using h1),
  g ((ws.set (ix 0) q.a).set (ix 1) q.b) (ix 2) (by simpa using h2),LY rfl (show ix 2<((ws.set (ix 0) q.a).set (ix 1) q.b).length by simpa using h2),
  g (((ws.set (ix 0) q.a).set (ix 1) q.b).set (ix 2) q.c) (ix 3) (by simpa using h3),LY rfl (show ix 3<(((ws.set (ix 0) q.a).set (ix 1) q.b).set (ix 2) q.c).length by simpa using h3)]
 unfold ie
 rw[hq]
 rfl
theorem jg(key:List UInt8)(counter:UInt32)(nonce:List UInt8)(hk:key.length=32)(hn:nonce.length=12){n:Nat}(hm:16<n):Gk n key counter nonce=some (Jb key counter nonce,0):=by
 have hb:=MN (counter:=counter) hk hn
 unfold Gk
 rw[show((!decide ((key.length:Int)=32))||(!decide ((nonce.length:Int)=12)))=false by simp[hk,hn]]
 simp only[CI]
 rw[k7 key counter nonce hk hn zO,AB]
 generalize hw:HO key counter nonce=w at hb
 rw[DV (by simp[hb]) (by simp[hb]),AB,List.nil_append]
 have hl:∀l:List UInt32,(l.flatMap Fo).length=4*l.length:=by
  intro l
  induction l with
  | nil=>rfl
  | cons x r ih=>rw[List.flatMap_cons,List.length_append,ih,List.length_cons];simp[Fo];omega
 have h3:∀ws:List UInt32,ws.length=16→Fs n w ws=some ((List.zipWith (·+·) ws w).flatMap Fo,0):=by
  intro ws ht
  have hz:(List.zipWith (·+·) ws w).length=16:=by simp[ht,hb]
  have hg:∀i,i<16→(List.zipWith (·+·) ws w)[i]? = some (ws.getD i 0+w.getD i 0):=fun i hi=>by
   simp[List.getD_eq_getElem?_getD,ht,hb,hi]
  generalize List.zipWith (·+·) ws w=z at hz hg
  unfold Fs Jj
  refine(congrArg (CE _ n) ?_).trans (Ex (fun i=>((z.take i).flatMap Fo,(i:Int))) 16 (fun i hi k=>?_) (fun k=>?_) zO)
  simp
  have ei:((i+1:Nat):Int)=(i:Int)+1:=zO
  have st:(z.take (i+1)).flatMap Fo=(z.take i).flatMap Fo++Fo (ws.getD i 0+w.getD i 0):=by
   rw[List.take_add_one,hg i hi,List.flatMap_append]
   simp
  dsimp only
  rw[st,ei]
  simp only[F9,show decide ((i:Int)<16)=true by simp;omega,C2,ret]
  rw[Ct (k:=i) 0 rfl zO,AB,Ct (k:=i) 0 rfl zO,AB,DV (by rw[hl];simp[hz];omega) (by rw[hl];simp[hz];omega),AB,DB zO zO]
  rfl
  simp only[F9,show decide (((16:Nat):Int)<16)=false by decide,CI,Jh]
  rw[List.take_of_length_le zO]
 have h2:Fs n w (SO w 10)=some (Jb key counter nonce,0):=by
  rw[h3 _ (by rw[Mv,hb])]
  unfold Jb gV
  rw[hw]
 unfold Ji
 refine(congrArg (CE _ n) ?_).trans (Ex (fun i=>(SO w i,(i:Int))) 10 (fun i hi k=>?_) (fun k=>?_) zO)
 rfl
 simp only[F8,show decide ((i:Int)<10)=true by simp;omega,C2,ret]
 have hl0:(SO w i).length=16:=by rw[Mv,hb]
 have hA:∀(l:List UInt32) (s j:Nat),l.length=16→j<4→C9 l (Hw s j 0:Int) (Hw s j 1:Int) (Hw s j 2:Int) (Hw s j 3:Int)=some (ie l (Hw s j)):=fun l s j hl hj=>rT l (Hw s j) (fun k hk=>by unfold Hw;omega)
 have r:∀(l:List UInt32) (s:Nat),l.length=16→∀j,(DW l s j).length=16:=fun l s hl j=>by rw[KL,hl]
 have a0:∀l:List UInt32,l.length=16→C9 l 0 4 8 12=some (DW l 0 1):=fun l hl=>hA l 0 0 hl zD
 have a1:∀l:List UInt32,l.length=16→C9 (DW l 0 1) 1 5 9 13=some (DW l 0 2):=fun l hl=>hA _ 0 1 (r _ _ hl _) zD
 have a2:∀l:List UInt32,l.length=16→C9 (DW l 0 2) 2 6 10 14=some (DW l 0 3):=fun l hl=>hA _ 0 2 (r _ _ hl _) zD
 have a3:∀l:List UInt32,l.length=16→C9 (DW l 0 3) 3 7 11 15=some (DW l 0 4):=fun l hl=>hA _ 0 3 (r _ _ hl _) zD
 have b0:∀l:List UInt32,l.length=16→C9 l 0 5 10 15=some (DW l 1 1):=fun l hl=>hA l 1 0 hl zD
 have b1:∀l:List UInt32,l.length=16→C9 (DW l 1 1) 1 6 11 12=some (DW l 1 2):=fun l hl=>hA _ 1 1 (r _ _ hl _) zD
 have b2:∀l:List UInt32,l.length=16→C9 (DW l 1 2) 2 7 8 13=some (DW l 1 3):=fun l hl=>hA _ 1 2 (r _ _ hl _) zD
 have b3:∀l:List UInt32,l.length=16→C9 (DW l 1 3) 3 4 9 14=some (DW l 1 4):=fun l hl=>hA _ 1 3 (r _ _ hl _) zD
 have hl4:=r _ 0 hl0 4
 rw[a0 _ hl0,AB,a1 _ hl0,AB,a2 _ hl0,AB,a3 _ hl0,AB,b0 _ hl4,AB,b1 _ hl4,AB,b2 _ hl4,AB,b3 _ hl4,AB,DB zO zO]
 rfl
 simp only[F8,show decide (((10:Nat):Int)<10)=false by decide,CI]
 exact h2
theorem q8(key nonce s:List UInt8)(hk:key.length=32)(hn:nonce.length=12)(hs:s.length≤1048576){n:Nat}(hm:16<n)(hm2:s.length<n):MX n key nonce s=some (IX key nonce s,0):=by
 have hB:∀i,Gk n key (UInt32.ofNat i) nonce=some (Jb key (UInt32.ofNat i) nonce,0):=fun i=>jg key _ nonce hk hn hm
 have hL:∀i,(Jb key (UInt32.ofNat i) nonce).length=64:=fun i=>RZ hk hn
 have hX:∀i,i<s.length→(IX key nonce s).take (i+1)=(IX key nonce s).take i++[s.getD i 0 ^^^ (Jb key (UInt32.ofNat (i / 64)) nonce).getD (i%64) 0]:=fun i hi=>by
  rw[List.take_add_one,List.getElem?_eq_getElem (by rw[Fe];exact hi)]
  simp[IX,O3]
 have hXl:=Fe key nonce s
 generalize IX key nonce s=X at hX hXl ⊢
 generalize hBf:(fun i=>Jb key (UInt32.ofNat i) nonce)=B
 have hB':∀i,Gk n key (UInt32.ofNat i) nonce=some (B i,0):=fun i=>by rw[hB i,←hBf]
 have hL':∀i,(B i).length=64:=fun i=>by rw[←hBf];exact hL i
 have hX':∀i,i<s.length→X.take (i+1)=X.take i++[s.getD i 0 ^^^ (B (i / 64)).getD (i%64) 0]:=fun i hi=>by rw[hX i hi,←hBf]
 clear hB hL hX hBf
 unfold MX
 rw[show(((!decide ((key.length:Int)=32))||(!decide ((nonce.length:Int)=12)))||(decide (1048576<(s.length:Int))))=false by simp[hk,hn];omega]
 simp only[CI]
 unfold I2
 refine(congrArg (CE _ n) ?_).trans (Ex (fun i=>(X.take i,(if i=0 then[]else B ((i-1) / 64)),(i:Int))) s.length (fun i hi k=>?_) (fun k=>?_) hm2)
 simp
 have ei:((i+1:Nat):Int)=(i:Int)+1:=zO
 dsimp only
 rw[hX' i hi,if_neg (show ¬i+1=0 by omega),Nat.add_sub_cancel,ei]
 simp only[HZ,show decide ((i:Int)<(s.length:Int))=true by simp;omega,C2]
 have hr:TM (i:Int) 64=some ((i%64:Nat):Int):=Us zD
 have hq:Uq (i:Int) 64=some ((i / 64:Nat):Int):=cr zD zO
 have hj:HH s (X.take i) (i:Int) k (B (i / 64))=k (X.take i++[s.getD i 0 ^^^ (B (i / 64)).getD (i%64) 0],B (i / 64),(i:Int)+1):=by
  have hbl:=hL' (i / 64)
  unfold HH
  rw[Ct (k:=i) 0 rfl hi,AB,hr,AB,Ct (k:=i%64) 0 rfl zO,AB,DV zQ zQ,AB]
  simp only[ret]
  rw[DB zO zO]
 rw[hr,AB]
 by_cases h0:i%64=0
 rw[show decide (((i%64:Nat):Int)=0)=true by simp;omega]
 simp only[C2]
 have hu:EL ((i / 64:Nat):Int)=UInt32.ofNat (i / 64):=by
  simp only[EL]
  congr 1
  omega
 rw[hq,AB,hu,hB',AB]
 exact hj
 rw[show decide (((i%64:Nat):Int)=0)=false by simp;omega]
 simp only[CI]
 rw[if_neg (show ¬i=0 by omega),show(i-1) / 64=i / 64 by omega]
 exact hj
 simp only[HZ,show decide ((s.length:Int)<(s.length:Int))=false by simp,CI,Lc]
 rw[List.take_of_length_le zO]
end

section
theorem YX(x:UInt32)(n:Nat)(h:n≤32):CC x (n:Int)=some (Jq x n):=by
 unfold CC
 rw[Uw,AB,DB zO zO,show(32-(n:Int))=((32-n:Nat):Int) by omega,Uw,AB]
 rfl
theorem iS(s:List UInt8)(w:List UInt32)(h:16≤w.length):Qo s w=w.getD (w.length-16) 0+k5 (w.getD (w.length-15) 0)+w.getD (w.length-7) 0+k6 (w.getD (w.length-2) 0):=by
 unfold Qo
 rw[if_neg zO]
 ac_rfl
theorem kg{h:List UInt32}(hh:h.length=8){n:Nat}(hm:64<n):∀f:List UInt32,f.length=8→GW n h f=some (List.zipWith (·+·) f h):=by
 intro f hf
 have hfl:h.length=f.length:=zO
 unfold GW Kl
 refine(congrArg (CE _ n) ?_).trans (Ex (fun i=>(RF f h i,(i:Int))) 8 (fun i hi k=>?_) (fun k=>?_) zO)
 simp[RF]
 have ei:((i+1:Nat):Int)=(i:Int)+1:=zO
 have hml:=Un f h hfl i
 dsimp only
 rw[ei,←Yw f h hfl i zO,←Yv f h hfl i zO]
 simp only[Gn,show decide ((i:Int)<8)=true by simp;omega,C2,ret]
 rw[Ct (k:=i) 0 rfl zO,AB,Ct (k:=i) 0 rfl zO,AB,AB,LY rfl zO,AB,DB zO zO]
 simp only[Gn,show decide (((8:Nat):Int)<8)=false by decide,CI,Kj]
 have:=Xl f h hfl
 rw[hf]at this
 rw[this]
theorem kf{T h:List UInt32}(hT:T.length=64)(hh:h.length=8){n:Nat}(hm:64<n):∀w:List UInt32,w.length=64→GU n T h w=some (List.zipWith (·+·) h (GE T w h 64).list):=by
 intro w hw
 have t6:∀x,CC x 6=some (Jq x 6):=fun x=>YX x 6 zD
 have t11:∀x,CC x 11=some (Jq x 11):=fun x=>YX x 11 zD
 have t25:∀x,CC x 25=some (Jq x 25):=fun x=>YX x 25 zD
 have t2:∀x,CC x 2=some (Jq x 2):=fun x=>YX x 2 zD
 have t13:∀x,CC x 13=some (Jq x 13):=fun x=>YX x 13 zD
 have t22:∀x,CC x 22=some (Jq x 22):=fun x=>YX x 22 zD
 have hz:∀q:Mx,GW n h q.list=some (List.zipWith (·+·) h q.list):=fun q=>by
  rw[kg hh hm _ rfl,List.zipWith_comm]
  simp only[UInt32.add_comm]
 have hN:∀i,GE T w h (i+1)=(GE T w h i).step (T.getD i 0) (w.getD i 0):=fun i=>rfl
 have h0:(GE T w h 0).list=h:=QP hh
 generalize GE T w h=R at hN h0 ⊢
 unfold GU Kk
 rw[DV (by simp[hh]) (by simp[hh]),AB,List.nil_append]
 refine(congrArg (CE _ n) ?_).trans (Ex (fun i=>((R i).list,(i:Int))) 64 (fun i hi k=>?_) (fun k=>?_) zO)
 simp[h0]
 have ei:((i+1:Nat):Int)=(i:Int)+1:=zO
 dsimp only
 rw[ei,hN]
 generalize R i=q
 have q0:BA q.list 0=some q.a:=rfl
 have q1:BA q.list 1=some q.b:=rfl
 have q2:BA q.list 2=some q.c:=rfl
 have q3:BA q.list 3=some q.d:=rfl
 have q4:BA q.list 4=some q.e:=rfl
 have q5:BA q.list 5=some q.f:=rfl
 have q6:BA q.list 6=some q.g:=rfl
 have q7:BA q.list 7=some q.i:=rfl
 simp only[Gm,show decide ((i:Int)<64)=true by simp;omega,C2,CB,q0,q1,q2,q3,q4,q5,q6,q7,AB,t6,t11,t25,t2,t13,t22]
 rw[Ct (k:=i) 0 rfl zO,AB,Ct (k:=i) 0 rfl zO,AB,DB zO zO]
 simp only[Mx.step,Mx.list,Mx.t1,Mx.t2]
 simp only[Gm,show decide (((64:Nat):Int)<64)=false by decide,CI]
 exact hz _
theorem oK(T h:List UInt32)(s:List UInt8)(hT:T.length=64)(hh:h.length=8)(hs:s.length=64){n:Nat}(hm:64<n):LI n T h s=some (Ql T h s):=by
 
 have t7:∀x,CC x 7=some (Jq x 7):=fun x=>YX x 7 zD
 have t18:∀x,CC x 18=some (Jq x 18):=fun x=>YX x 18 zD
 have t17:∀x,CC x 17=some (Jq x 17):=fun x=>YX x 17 zD
 have t19:∀x,CC x 19=some (Jq x 19):=fun x=>YX x 19 zD
 unfold LI IC
 have hW:∀i,Ey s (i+1)=Ey s i++[Qo s (Ey s i)]:=fun i=>rfl
 have hWl:=Lr s
 have hfin:GU n T h (Ey s 64)=some (Ql T h s):=by
  unfold Ql Dw
  exact kf hT hh hm _ (hWl 64)
 have hW0:Ey s 0=[]:=rfl
 generalize Ey s=W at hW hWl hfin hW0
 refine(congrArg (CE _ n) ?_).trans (Ex (fun i=>(W i,(i:Int))) 64 (fun i hi k=>?_) (fun k=>?_) hm)
 simp[hW0]
 have ei:((i+1:Nat):Int)=(i:Int)+1:=zO
 have hl:=hWl i
 dsimp only
 rw[ei,hW]
 generalize W i=w at hl
 simp only[Gl,show decide ((i:Int)<64)=true by simp;omega,C2]
 have hj:∀x:UInt32,(DM 4 w [x]).bind (fun l=>GV (i:Int) k l)=k (w++[x],(i:Int)+1):=fun x=>by
  rw[DV zQ zQ,AB]
  simp only[GV,ret]
  rw[DB zO zO]
 by_cases hlt:i<16
 rw[show decide ((i:Int)<16)=true by simp;omega]
 simp only[C2]
 rw[DB zO zO,Ct (k:=4*i) 0 zO zO,AB,DB zO zO,Ct (k:=4*i+1) 0 zO zO,AB,DB zO zO,Ct (k:=4*i+2) 0 zO zO,AB,
  DB zO zO,Ct (k:=4*i+3) 0 zO zO,AB,hj]
 unfold Qo
 rw[if_pos zO,hl]
 rfl
 rw[show decide ((i:Int)<16)=false by simp;omega]
 simp only[CI]
 rw[DB zO zO,Ct (k:=i-15) 0 zO zO,AB,DB zO zO,Ct (k:=i-2) 0 zO zO,AB,DB zO zO,Ct (k:=i-16) 0 zO zO,AB,
  t7,AB,t18,AB,DB zO zO,Ct (k:=i-7) 0 zO zO,AB,t17,AB,t19,AB,hj,iS s w zO,hl]
 rfl
 simp only[Gl,show decide (((64:Nat):Int)<64)=false by decide,CI]
 exact hfin
theorem c8(x:UInt64):shr64 x 0=x:=by
 apply UInt64.toNat_inj.1
 have:=x.toNat_lt
 simp[shr64]
theorem iC(s:List UInt8)(hs:s.length≤1099511627776){n:Nat}(hm:64<n):I3 n s=some (s++LA s.length):=by
 unfold I3
 rw[Ef zQ,AB]
 unfold Ik
 have hp:LR s.length<64:=by unfold LR;omega
 refine(congrArg (CE _ n) ?_).trans (Ex (fun i=>s++[128]++List.replicate i 0) (LR s.length) (fun i hi k=>?_) (fun k=>?_) zO)
 simp
 have hl:(s++[128]++List.replicate i (0:UInt8)).length=s.length+1+i:=by simp;omega
 have st:s++[128]++List.replicate (i+1) (0:UInt8)=s++[128]++List.replicate i 0++[0]:=by rw[List.replicate_succ',List.append_assoc _ _ [0]]
 rw[st]
 generalize s++[128]++List.replicate i (0:UInt8)=u at hl
 simp only[Fh]
 rw[hl,show(64:Int)=((64:Nat):Int)from rfl,Us zD,AB,show(!decide ((((s.length+1+i)%64:Nat):Int)=56))=true by unfold LR at hi;simp;omega]
 simp only[C2]
 rw[Ef zQ,AB]
 have hl:(s++[128]++List.replicate (LR s.length) (0:UInt8)).length=s.length+1+LR s.length:=by simp;omega
 have ht:s++LA s.length=s++[128]++List.replicate (LR s.length) 0++RY (Cn s.length*8):=by simp[LA]
 rw[ht]
 generalize s++[128]++List.replicate (LR s.length) (0:UInt8)=u at hl
 simp only[Fh]
 rw[hl,show(64:Int)=((64:Nat):Int)from rfl,Us zD,AB,show(!decide ((((s.length+1+LR s.length)%64:Nat):Int)=56))=false by unfold LR;simp;omega]
 simp only[CI,Ij,ret]
 rw[Ef zQ,AB]
 simp only[RY,c8]
theorem eq(T:List UInt32)(s:List UInt8)(hT:T.length=64)(hs:s.length≤1099511627776){n:Nat}(hm:64<n)(hm2:s.length<n):Il n T s=some (Mt T s):=by
 unfold Il
 rw[iC s hs hm,AB]
 have hw:(s++LA s.length).length%64=0:=by
  simp[LA,LR,RY];omega
 have hlen:(s++LA s.length).length≤s.length+73:=by
  simp[LA,LR,RY];omega
 have hsum:Mt T s=(GK T Dl (s++LA s.length) ((s++LA s.length).length / 64)).list.flatMap Ge:=by
  unfold Mt
  rw[LC]
 rw[hsum]
 generalize s++LA s.length=f at hw hlen
 
 have hl:∀l:List UInt32,(l.flatMap Ge).length=4*l.length:=by
  intro l
  induction l with
  | nil=>rfl
  | cons x r ih=>rw[List.flatMap_cons,List.length_append,ih,List.length_cons];simp[Ge];omega
 have h1:∀l:List UInt32,l.length=8→I4 n l=some (l.flatMap Ge):=by
  intro l h8
  unfold I4 Lf
  refine(congrArg (CE _ n) ?_).trans (Ex (fun i=>((l.take i).flatMap Ge,(i:Int))) 8 (fun i hi k=>?_) (fun k=>?_) zO)
  simp
  have ei:((i+1:Nat):Int)=(i:Int)+1:=zO
  have st:(l.take (i+1)).flatMap Ge=(l.take i).flatMap Ge++Ge (l.getD i 0):=by
   rw[List.take_add_one,JS 0 zO,List.flatMap_append]
   simp
  dsimp only
  rw[st,ei]
  simp only[Hb,show decide ((i:Int)<8)=true by simp;omega,C2,ret]
  rw[Ct (k:=i) 0 rfl zO,AB,AB,AB,AB,DV (by rw[hl];simp;omega) (by rw[hl];simp;omega),AB,DB zO zO]
  rfl
  simp only[Hb,show decide (((8:Nat):Int)<8)=false by decide,CI,Ld]
  rw[List.take_of_length_le zO]
 unfold Le
 have hfirst:MY=some Dl.list:=rfl
 rw[hfirst,AB]
 have hP:∀j,(GK T Dl f (j+1)).list=Ql T (GK T Dl f j).list ((f.drop (64*j)).take 64):=fun j=>by
  show(Tg T _ _).list=_
  unfold Tg
  exact QP (TI rfl)
 have hP8:∀j,(GK T Dl f j).list.length=8:=fun j=>rfl
 have hP0:(GK T Dl f 0).list=Dl.list:=rfl
 generalize (fun j=>(GK T Dl f j).list)=R at hP hP8 hP0
 generalize hR:(fun j=>(GK T Dl f j).list)=R at*
 have hP':∀j,R (j+1)=Ql T (R j) ((f.drop (64*j)).take 64):=fun j=>by rw[←hR];exact hP j
 have hP8':∀j,(R j).length=8:=fun j=>by rw[←hR];exact hP8 j
 have hP0':R 0=Dl.list:=by rw[←hR];exact hP0
 have hRN:(GK T Dl f (f.length / 64)).list=R (f.length / 64):=by rw[←hR]
 rw[hRN]
 clear hR hRN hP hP8 hP0
 refine(congrArg (CE _ n) ?_).trans (Ex (fun j=>(R j,((64*j:Nat):Int))) (f.length / 64) (fun j hj k=>?_) (fun k=>?_) zO)
 simp[hP0']
 have ej:((64*(j+1):Nat):Int)=((64*j:Nat):Int)+64:=zO
 dsimp only
 rw[hP',ej]
 simp only[Ha,show decide (((64*j:Nat):Int)<(f.length:Int))=true by simp;omega,C2,ret]
 rw[DB zO zO,c9 (p:=64*j) (q:=64*j+64) rfl zO zO zO,AB,show 64*j+64-64*j=64 by omega,oK T (R j) _ hT (hP8' j) zQ hm,AB]
 simp only[Ha,show decide (((64*(f.length / 64):Nat):Int)<(f.length:Int))=false by simp;omega,CI]
 exact h1 _ (hP8' _)
theorem gW(T:List UInt32)(key:List UInt8)(c:UInt8)(hT:T.length=64)(hs:key.length≤1099511627776){n:Nat}(hm:64<n)(hm2:key.length<n):JN n T key c=some (Fp T key c):=by
 have h1:∀u:List UInt8,u.length≤64→GX n c u=some ((List.range 64).map fun i=>u.getD i 0 ^^^ c):=by
  intro u hu
  unfold GX ID
  refine(congrArg (CE _ n) ?_).trans (Ex (fun i=>((List.range i).map (fun i=>u.getD i 0 ^^^ c),(i:Int))) 64 (fun i hi k=>?_) (fun k=>?_) hm)
  simp
  have ei:((i+1:Nat):Int)=(i:Int)+1:=zO
  have st:(List.range (i+1)).map (fun i=>u.getD i 0 ^^^ c)=(List.range i).map (fun i=>u.getD i 0 ^^^ c)++[u.getD i 0 ^^^ c]:=by simp[List.range_succ]
  have hj:GY c ((List.range i).map (fun i=>u.getD i 0 ^^^ c)) (i:Int) k (u.getD i 0)=k ((List.range i).map (fun i=>u.getD i 0 ^^^ c)++[u.getD i 0 ^^^ c],(i:Int)+1):=by
   unfold GY
   rw[DV zQ zQ,AB]
   simp only[ret]
   rw[DB zO zO]
  dsimp only
  rw[st,ei,←hj]
  simp only[Gp,show decide ((i:Int)<64)=true by simp;omega,C2]
  by_cases h0:i<u.length
  rw[show decide ((i:Int)<(u.length:Int))=true by simp;omega]
  simp only[C2]
  rw[Ct (k:=i) 0 rfl h0,AB]
  rw[show decide ((i:Int)<(u.length:Int))=false by simp;omega]
  simp only[CI]
  rw[show u.getD i 0=0 by simp[List.getD_eq_getElem?_getD,List.getElem?_eq_none (show u.length≤i by omega)]]
  simp only[Gp,show decide (((64:Nat):Int)<64)=false by decide,CI,Km]
 unfold JN Fp FF
 by_cases h0:64<key.length
 rw[show decide (64<(key.length:Int))=true by simp;omega,if_pos h0]
 simp only[C2]
 rw[eq T key hT hs hm hm2,AB]
 exact h1 _ (by rw[Ix];omega)
 rw[show decide (64<(key.length:Int))=false by simp;omega,if_neg h0]
 simp only[CI]
 exact h1 _ zO
theorem kX(T:List UInt32)(key m:List UInt8)(hT:T.length=64)(hk:key.length≤1048576)(hs:m.length≤1048576){n:Nat}(hm:2097152<n):Io n T key m=some (RE T key m):=by
 unfold Io MZ
 have l1:=LS T key 54
 have l2:=LS T key 92
 rw[gW T key 54 hT zO zO zO,AB,Ef zO,AB,gW T key 92 hT zO zO zO,AB,eq T _ hT zQ zO zQ,AB,
  Ef (by rw[Ix];omega),AB,AB]
 have e:BA [Fp T key 54++m,Fp T key 92++Mt T (Fp T key 54++m)] 1=some (Fp T key 92++Mt T (Fp T key 54++m)):=rfl
 rw[e,AB,eq T _ hT (by rw[List.length_append,Ix];omega) zO (by rw[List.length_append,Ix];omega),AB]
 unfold RE
 exact Eq.refl _
theorem kF(T:List UInt32)(key label:List UInt8)(hT:T.length=64)(hk:key.length≤1048576)(hl:label.length≤1000000){n:Nat}(hm:2097152<n):HI n T key label 32=some (GI T key label,0):=by
 have hml:∀m,(RE T key m).length=32:=fun m=>Hj T key m
 have hmac:Io n T key ([]++label++[IW 1])=some (GI T key label):=by
  rw[kX T key _ hT hk zQ hm]
  rfl
 have he:(GI T key label).length=32:=hml _
 generalize GI T key label=x at hmac he ⊢
 unfold HI In
 rw[show((decide ((32:Int)<0))||(decide ((8160:Int)<32)))=false by decide]
 simp only[CI]
 obtain⟨m,rfl⟩:∃m,n=m+1+1:=⟨n-2,by omega⟩
 rw[Vr]
 simp only[Fi]
 rw[show decide (((([]:List UInt8).length:Nat):Int)<32)=true by decide]
 simp only[C2]
 rw[Ef zQ,AB,Ef zQ,AB,hmac,AB,Ef zQ,AB]
 rw[CB,List.nil_append,Vr]
 simp only[Fi]
 rw[show decide (((x.length:Nat):Int)<32)=false by rw[he];decide]
 simp only[CI,Im]
 rw[show Ku x 0 32=some ((x.drop 0).take (32-0))from c9 (p:=0) (q:=32) rfl rfl zO zO,AB]
 simp[List.take_of_length_le,he]
end

section
theorem aY(x:UInt64)(w:Nat)(hw:w≤8){n:Nat}(hm:8<n):Du n x (w:Int)=some (CT x w):=by
 unfold Du Lj
 have hS:∀i,i<8→shr64 x (8*(i+1))=shr64 x (8*i) / 256:=fun i hi=>by
  apply UInt64.toNat_inj.1
  rw[UInt64.toNat_div,L5 _ _ zO,L5 _ _ zO,show(256:UInt64).toNat=2^8 from rfl,Nat.div_div_eq_div_mul,←Nat.pow_add,show 8*(i+1)=8*i+8 by omega]
 have hP:∀i,CT x (i+1)=CT x i++[(shr64 x (8*i)).toUInt8]:=SA x
 have h0:shr64 x (8*0)=x:=by rw[Nat.mul_zero,c8]
 have hl:=Bz x
 have hp0:CT x 0=[]:=rfl
 generalize CT x=Pt at hP hl hp0 ⊢
 generalize hq:(fun i=>shr64 x (8*i))=S
 have hS':∀i,i<8→S (i+1)=S i / 256:=fun i hi=>by rw[←hq];exact hS i hi
 have hP':∀i,Pt (i+1)=Pt i++[(S i).toUInt8]:=fun i=>by rw[hP,←hq]
 have h0':S 0=x:=by rw[←hq];exact h0
 clear hS hP h0 hq
 refine(congrArg (CE _ n) ?_).trans (Ex (fun i=>(S i,Pt i,(i:Int))) w (fun i hi k=>?_) (fun k=>?_) zO)
 simp[h0',hp0]
 have ei:((i+1:Nat):Int)=(i:Int)+1:=zO
 dsimp only
 rw[ei,hP',hS' i zO]
 simp only[Hd,show decide ((i:Int)<(w:Int))=true by simp;omega,C2]
 have hlp:=hl i
 rw[Ef zQ,AB,show Qv (S i) 256=some (S i / 256)from rfl,AB,CB,DB zO zO]
 simp only[Hd,show decide ((w:Int)<(w:Int))=false by simp,CI,Li]
theorem kZ(h:C3){n:Nat}(hm:8<n):J3 n h=some (Ks h):=by
 unfold J3
 rw[show Du n h.boot.toUInt64 4=some (CT h.boot.toUInt64 4)from aY _ 4 zD hm,AB,show Du n h.seq 8=some (CT h.seq 8)from aY _ 8 zD hm,AB,Ef (by simp[Bz]),AB]
 unfold Ks
 exact Eq.refl _
theorem ow(h:C3){n:Nat}(hm:8<n):Mb n h=some (Oy h):=by
 unfold Mb
 have p4:∀x:UInt64,Du n x 4=some (CT x 4):=fun x=>aY _ 4 zD hm
 have p8:∀x:UInt64,Du n x 8=some (CT x 8):=fun x=>aY _ 8 zD hm
 rw[p4,AB,p4,AB,Ef (by simp[Bz]),AB,p4,AB,Ef (by simp[Bz]),AB,p8,AB,Ef (by simp[Bz]),AB,Ef (by simp[Bz]),AB]
 simp[Oy,Ks]
theorem ga(T:List UInt32)(k:BK)(hT:T.length=64)(hr:DT [k]=true){n:Nat}(hm:2097152<n):JP n T k=some (O4 T k NS,O4 T k Nt,0):=by
 have hl:=Vw hr
 unfold JP
 rw[Xv [k] zS zO,AB,hr]
 simp only[Bool.not_true,CI]
 rw[Ef zS,AB,kF T k.secret _ hT zO zS hm,AB,Ef zS,AB,kF T k.secret _ hT zO zS hm,AB]
 exact Eq.refl _
theorem qG(s:List UInt8){n:Nat}(hm:256<n):Ma n s=some (Ov s):=by
 unfold Ma Ov
 by_cases h:198<s.length
 rw[show decide (198<(s.length:Int))=true by simp;omega,if_pos h]
 simp only[C2]
 rw[show decide (198<(s.length:Int))=false by simp;omega,if_neg h]
 simp only[CI]
 rw[show Uq (s.length:Int) 256=some ((s.length / 256:Nat):Int)from cr (b:=256) zD zO,AB,show TM (s.length:Int) 256=some ((s.length%256:Nat):Int)from Us (b:=256) zD,AB,Ef zQ,AB]
 have hp:KI s=[IW ((s.length / 256:Nat):Int),IW ((s.length%256:Nat):Int)]++s++List.replicate (198-s.length) 0:=by
  unfold KI
  congr 3
  simp only[IW]
  congr 2
  omega
 rw[hp]
 have hl:([IW ((s.length / 256:Nat):Int),IW ((s.length%256:Nat):Int)]++s).length=s.length+2:=by simp
 generalize [IW ((s.length / 256:Nat):Int),IW ((s.length%256:Nat):Int)]++s=u at hl
 unfold Lh
 refine(congrArg (CE _ n) ?_).trans (Ex (fun i=>u++List.replicate i 0) (198-s.length) (fun i hi k=>?_) (fun k=>?_) zO)
 simp
 have st:u++List.replicate (i+1) (0:UInt8)=u++List.replicate i 0++[0]:=by rw[List.replicate_succ',List.append_assoc]
 have hl2:(u++List.replicate i (0:UInt8)).length=s.length+2+i:=by simp;omega
 rw[st]
 generalize u++List.replicate i (0:UInt8)=y at hl2
 unfold Hc
 rw[show decide ((y.length:Int)<200)=true by simp;omega]
 simp only[C2]
 rw[Ef zQ,AB]
 have hl2:(u++List.replicate (198-s.length) (0:UInt8)).length=200:=by simp;omega
 generalize u++List.replicate (198-s.length) (0:UInt8)=y at hl2
 unfold Hc
 rw[show decide ((y.length:Int)<200)=false by simp;omega]
 simp only[CI]
 unfold Lg
 exact Eq.refl _
end

section
theorem jh(T:List UInt32)(k:BK)(h:C3)(body:List UInt8)(hT:T.length=64)(hr:DT [k]=true)(hb:body.length=200){n:Nat}(hm:2097152<n):J2 n T k h body=some (KX T k h body):=by
 unfold J2
 rw[ga T k hT hr hm,AB,kZ h zO,AB,q8 _ _ _ (ON T k NS) (KH h) zO zO zO,AB,ow h zO,AB,Ef (by rw[Hl,Fe];omega),AB]
 rfl
theorem oP(T:List UInt32)(l:List BK)(h:C3)(s:List UInt8)(hT:T.length=64)(hl:l.length≤1048576){n:Nat}(hm:2097152<n):LJ n T l h s=some (HF T l h s):=by
 unfold LJ
 rw[gH l h.gen hl zO,AB]
 unfold HF
 by_cases hf:(DP l h.gen).2=0
 obtain⟨_,_,_,hr⟩:=UU hf
 rw[show(!decide ((DP l h.gen).2=0))=false by simp[hf],if_neg (by simp[hf])]
 simp only[CI]
 rw[qG s zO,AB]
 by_cases h1:198<s.length
 rw[if_pos h1,show Ov s=([],50) by unfold Ov;rw[if_pos h1]]
 rfl
 rw[if_neg h1,show Ov s=(KI s,0) by unfold Ov;rw[if_neg h1]]
 have hp:=Fb (s:=s) zO
 rw[show(!decide (((KI s,(0:Int)):List UInt8×Int).2=0))=false from rfl]
 simp only[CI]
 have hbl:=Gf T (DP l h.gen).1 h hp
 rw[jh T _ h _ hT hr hp hm,AB,ga T _ hT hr hm,AB]
 dsimp only
 rw[kX T _ _ hT (by rw[ON];omega) (by rw[hbl];omega) hm,AB,Ef (by rw[hbl,Hj];omega),AB]
 unfold HP
 exact Eq.refl _
 rw[show(!decide ((DP l h.gen).2=0))=true by simp[hf],if_pos hf]
 simp only[C2]
end

section
structure V5(k:UInt64)(c:Az):Prop where
 bl:c.blk.length=60
 pl:c.pnd.length=60
 lf:c.left = -1
 on:c.off=false
 rc:c.rcnt=k
theorem kb{k:UInt64}{c:Az}(R:V5 k c):Dd c=some (0,c):=by
 unfold Dd FO
 rw[R.lf,show decide ((-1:Int)=0)=false from rfl,CI,R.on,CI,show decide ((0:Int) < -1)=false from rfl,CI]
 rfl
theorem lT{k:UInt64}{c:Az}{p:UInt32}{b:List UInt8}(R:V5 k c)(hp:p.toNat<60)(hb:b.length=256):∃c',Ea c p b=some (0,c')∧V5 k c':=by
 have h1:decide (p.toUInt64<Cn (c.blk.length:Int))=true:=by
  rw[R.bl,decide_eq_true_eq,UInt64.lt_iff_toNat_lt]
  show p.toUInt64.toNat<60
  simpa using hp
 refine⟨{ c with pnd:=c.pnd.set p.toNat b },?_,⟨R.bl,(List.length_set ..).trans R.pl,R.lf,R.on,R.rc⟩⟩
 unfold Ea Ip
 rw[CB,AB,h1,hb]
 show(Dd c).bind _=_
 have h2:BA c.pnd ((p.toNat:Nat):Int)=some (c.pnd[p.toNat]'(by rw[R.pl];exact hp)):=by rw[HK];exact List.getElem?_eq_getElem _
 rw[kb R,AB]
 show(BA c.pnd ((p.toNat:Nat):Int)).bind _=_
 rw[h2,AB,LY rfl (by rw[R.pl];exact hp),AB]
 rfl
theorem cP{k:UInt64}{c:Az}(R:V5 k c):∃c',EZ 2200000 c=some (0,c')∧V5 k c':=by
 unfold EZ
 rw[kb R,AB]
 have key:∀(i m:Nat) (x:Az),i≤60→60-i<m→V5 k x→∃c',Dn (0,c) m (x,(i:Int))=some (0,c')∧V5 k c':=by
  intro i m
  induction m generalizing i with
  | zero=>intro x _ h;omega
  | succ m ih=>
   intro x hi hm X
   show ∃c',D6 (0,c) (Dn (0,c) m) x (i:Int)=some (0,c')∧V5 k c'
   unfold D6
   rw[X.bl]
   by_cases h:i<60
   have h1:BA x.pnd (i:Int)=some (x.pnd[i]'(by rw[X.pl];exact h)):=by rw[HK];exact List.getElem?_eq_getElem _
   have h2:BA x.blk (i:Int)=some (x.blk[i]'(by rw[X.bl];exact h)):=by rw[HK];exact List.getElem?_eq_getElem _
   rw[show(decide ((i:Int)<((60:Nat):Int))&&decide (((0,c):Int×Az).1=0))=true by simp;omega,C2,h1,AB]
   cases (!decide (x.pnd[i]'(by rw[X.pl];exact h)=[]))with
   | true=>
    rw[C2,AB,h2,AB,LY rfl (by rw[X.bl];exact h),AB,AB,LY rfl (by rw[X.pl];exact h),AB]
    unfold Dm
    rw[CB,DB zO zO]
    exact ih (i+1) _ zO zO ⟨(List.length_set ..).trans X.bl,(List.length_set ..).trans X.pl,X.lf,X.on,X.rc⟩
   | false=>
    rw[CI]
    unfold Dm
    rw[CB,DB zO zO]
    exact ih (i+1) _ zO zO X
   rw[show(decide ((i:Int)<((60:Nat):Int))&&decide (((0,c):Int×Az).1=0))=false by simp;omega,CI]
   exact⟨x,rfl,X⟩
 exact key 0 2200000 c zO zO R
theorem oz{k:UInt64}{c:Az}{t:List UInt8}(R:V5 k c)(ht:t.length=32)(hk:k≠18446744073709551615):∃c',Eu c t=some (0,c'):=by
 unfold Eu
 rw[ht,show(!decide (((32:Nat):Int)=32))=false from rfl,CI,zf (by rw[R.rc];exact hk),CI,kb R,AB]
 exact⟨_,rfl⟩
theorem oQ{b:List UInt8}(hb:b.length=256):Ku b 224 (b.length:Int)=some (b.drop 224):=by
 unfold Ku
 rw[if_pos zO,show(224:Int).toNat=224 from rfl,show(b.length:Int).toNat=b.length from rfl,List.take_of_length_le zS]
theorem c6{T:List UInt32}{k:UInt64}{w:BX}{c:Az}{p:UInt32}{s:List UInt8}(hT:T.length=64)(hr:w.ring=Di 1)(hg:w.gen=1)(R:V5 k c)(hp:p.toNat<60)(hs:s.length≤198):
  ∃tag c',Ev 2200000 T w c p s=some (tag,0,{ w with num:=w.num+1 },c')∧tag.length=32∧V5 k c':=by
 have hb:=KW T (R8 0) ⟨p,w.gen,w.boot,w.num⟩ hs
 have hse:HF T (Di 1) ⟨p,w.gen,w.boot,w.num⟩ s=(HP T (R8 0) ⟨p,w.gen,w.boot,w.num⟩ s,0):=by
  have:=Y7 (T:=T) (l:=Di 1) (h:=⟨p,w.gen,w.boot,w.num⟩) (s:=s) (by rw[DQ];omega) (by rw[hg];exact XQ zO zO) hs
  unfold VV at this
  rw[if_pos ⟨by rw[DQ];omega,by omega⟩]at this
  exact zI this
 obtain⟨c',hw,R'⟩:=lT R hp hb
 refine⟨(HP T (R8 0) ⟨p,w.gen,w.boot,w.num⟩ s).drop 224,c',?_,by simp[hb],R'⟩
 unfold Ev
 rw[hr,oP T (Di 1) _ s hT (by rw[DQ];omega) zO,hse,AB]
 show(Ea c p _).bind _=_
 rw[hw,AB]
 show(Ku _ 224 _).bind _=_
 rw[oQ hb,AB]
theorem qH:∃t,I6 2200000 ⟨1,0,0,0,[],[],0,[]⟩=some (t,0)∧t.length≤198:=by
 have h:(I6 2200000 ⟨1,0,0,0,[],[],0,[]⟩).map (fun y=>(y.2,decide (y.1.length≤198)))=some (0,true):=zK
 obtain⟨⟨t,e⟩,h1,h2⟩:=Option.map_eq_some_iff.1 h
 simp only[Prod.mk.injEq,decide_eq_true_eq]at h2
 obtain⟨rfl,h2⟩:=h2
 exact⟨t,h1,h2⟩
theorem iE{T:List UInt32}(hT:T.length=64):∃s w c,I8 2200000 T (r0 60) (Di 1)=some (some (s,w),0,c):=by
 have hr1:DT (Di 1)=true:=Qw 1 zO
 have hn:I5 2200000 (Di 1)=some (1,0):=by
  unfold I5
  rw[Xv _ (by rw[DQ];omega) zO,hr1]
  rfl
 have R0:V5 0 { r0 60 with rboots:=1 }:=⟨List.length_replicate ..,List.length_replicate ..,rfl,rfl,rfl⟩
 have hst:G7 (r0 60)=some (1,0,{ r0 60 with rboots:=1 }):=rfl
 have hv:∃l,Mi 2200000 { r0 60 with rboots:=1 } (Di 1) 1 1=some (some { ring:=Di 1,gen:=1,boot:=1,num:=0,taken:=l },0)∧l.length=60∧BA l 2=some false:=by
  refine⟨((List.replicate 60 false).set 0 true).set 1 true,?_,rfl,rfl⟩
  unfold Mi
  rw[gH (Di 1) 1 (by rw[DQ];omega) zO,XQ zO zO,AB]
  rfl
 obtain⟨l,hv,hl,h2⟩:=hv
 obtain⟨t,ht,htl⟩:=qH
 generalize hw:({ ring:=Di 1,gen:=1,boot:=1,num:=0,taken:=l }:BX)=w at hv
 generalize hc:({ r0 60 with rboots:=1 }:Az)=c at hv hst R0
 have wr:w.ring=Di 1:=by rw[←hw]
 have wg:w.gen=1:=by rw[←hw]
 have wt:w.taken=l:=by rw[←hw]
 obtain⟨tag,c1,hs1,ltag,R1⟩:=c6 hT wr wg R0 (show(EL 2).toNat<60 by decide) htl
 have hwr:Fj 2200000 T w c t=some (⟨2,tag⟩,0,{ w with num:=w.num+1,taken:=l.set 2 true },c1):=by
  unfold Fj
  rw[zf zO,CI]
  show EP 2200000 T t (Fu 2200000 T t 2199999) w c 0 [] 2=_
  unfold EP
  rw[wt,hl,show decide ((2:Int)<((60:Nat):Int))=true from rfl,C2,h2,AB,CI,hs1,AB]
  simp only[decide_true,Bool.not_true,CI]
  rw[wt,h2,AB,LY (show(2:Int)=((2:Nat):Int)from rfl) zO,AB]
  rfl
 have hsv:LK 2200000 T w c=some ([⟨t,2,tag⟩],0,{ w with num:=w.num+1,taken:=l.set 2 true },c1):=by
  have hpl:Eb 2200000 T { had:=[],out:=[],took:=[],err:=0,must:=[] } w c ⟨1,0,0,0,[],[],0,[]⟩=some (⟨2,tag⟩,{ had:=[],out:=[⟨t,2,tag⟩],took:=[2],err:=0,must:=[] },{ w with num:=w.num+1,taken:=l.set 2 true },c1):=by
   unfold Eb
   rw[ht,AB]
   show Ei 2200000 T w c (t,0) { had:=[],out:=[],took:=[],err:=0,must:=[] } 0 []=_
   unfold Ei
   rw[hwr,AB]
   rfl
  have hnd:Fk 2200000 T { had:=[],out:=[],took:=[],err:=0,must:=[] } w c=some (⟨2,tag⟩,{ had:=[],out:=[⟨t,2,tag⟩],took:=[2],err:=0,must:=[] },{ w with num:=w.num+1,taken:=l.set 2 true },c1):=by
   show EQ 2200000 T (Fv 2200000 T 2199999) { had:=[],out:=[],took:=[],err:=0,must:=[] } w c 0 [] 0=_
   unfold EQ
   show(Eb 2200000 T { had:=[],out:=[],took:=[],err:=0,must:=[] } w c ⟨1,0,0,0,[],[],0,[]⟩).bind _=_
   rw[hpl,AB]
   rfl
  unfold LK
  show(Fk 2200000 T { had:=[],out:=[],took:=[],err:=0,must:=[] } w c).bind _=_
  rw[hnd,AB]
  rfl
 generalize hw2:({ w with num:=w.num+1,taken:=l.set 2 true }:BX)=w2 at hsv
 have w2r:w2.ring=Di 1:=by rw[←hw2];exact wr
 have w2g:w2.gen=1:=by rw[←hw2];exact wg
 obtain⟨c2,hf,R2⟩:=cP R1
 have hri:Gu ⟨1,1,0,2,tag⟩=some true:=by
  unfold Gu Ft
  rw[ltag]
  rfl
 have put8:∀x:UInt64,∃a,Hg 2200000 x 8=some a∧a.length=8:=fun x=>⟨_,rfl,rfl⟩
 have put4:∀x:UInt64,∃a,Hg 2200000 x 4=some a∧a.length=4:=fun x=>⟨_,rfl,rfl⟩
 obtain⟨a1,p1,q1⟩:=put8 1
 obtain⟨a2,p2,q2⟩:=put4 (1:UInt32).toUInt64
 obtain⟨a3,p3,q3⟩:=put4 (0:UInt32).toUInt64
 obtain⟨a4,p4,q4⟩:=put4 (2:UInt32).toUInt64
 have he:∃u,I7 2200000 ⟨1,1,0,2,tag⟩=some (u,0)∧u.length≤198:=by
  refine⟨[115,112,104,114]++a1++a2++a3++a4++tag,?_,by simp[q1,q2,q3,q4,ltag]⟩
  unfold I7 ED
  rw[hri,AB]
  simp only[Bool.not_true,CI]
  rw[p1,AB,if_pos (by simp[q1]),AB,p2,AB,if_pos (by simp[q1,q2]),AB,p3,AB,if_pos (by simp[q1,q2,q3]),AB,p4,AB,if_pos (by simp[q1,q2,q3,q4]),AB,if_pos (by simp[q1,q2,q3,q4,ltag]),AB]
 obtain⟨u,he,hu⟩:=he
 obtain⟨tg2,c3,hs3,ltg2,R3⟩:=c6 (T:=T) (p:=(1:UInt64).toUInt32) hT w2r w2g R2 zD hu
 obtain⟨c4,hf4,R4⟩:=cP R3
 obtain⟨c5,ha⟩:=oz R4 ltg2 zD
 have hpub:∀s,EH 2200000 T s w2 c1 [⟨t,2,tag⟩]=some (0,{ w2 with num:=w2.num+1 },c5):=by
  intro s
  unfold EH
  have hnx:LL 0 w2.gen 0 ⟨2,tag⟩=some (⟨1,1,0,2,tag⟩,0):=by
   rw[w2g]
   unfold LL
   rw[show decide ((0:UInt64)=18446744073709551615)=false from rfl,CI,show(decide ((0:Int)<0)||decide ((1000:Int)<0))=false from rfl,CI]
   show(Gu ⟨1,1,0,2,tag⟩).bind _=_
   rw[hri]
   rfl
  rw[hf,AB]
  simp only[decide_true,Bool.not_true,CI]
  rw[show BA [(⟨t,2,tag⟩:BI)] (wI (([(⟨t,2,tag⟩:BI)].length:Int)-1))=some ⟨t,2,tag⟩from rfl,AB,R2.rc,hnx,AB]
  simp only[decide_true,Bool.not_true,CI]
  rw[he,AB,show VK (1:UInt64) 2=some 1 from rfl,AB]
  unfold Hf
  rw[show decide ((1:UInt32)<(1:UInt64).toUInt32)=false from rfl,CI,zf (show ¬(198<(u.length:Int)) by omega),CI,hs3,AB,AB]
  simp only[decide_true,Bool.not_true,CI]
  rw[hf4,AB]
  simp only[decide_true,Bool.not_true,CI]
  rw[ha,AB]
 have hch:∃s',FQ 2200000 T { rows:=[],had:=[],gens:=[],bad:=false } w c=some (0,s',{ w2 with num:=w2.num+1 },c5):=by
  refine⟨{ rows:=[],had:=[⟨t,2,tag⟩],gens:=[w2.gen],bad:=false },?_⟩
  unfold FQ
  rw[hsv,AB]
  show(EH 2200000 T _ w2 c1 [⟨t,2,tag⟩]).bind _=_
  rw[hpub,AB]
  rfl
 obtain⟨s',hch⟩:=hch
 refine⟨s',{ w2 with num:=w2.num+1 },c5,?_⟩
 unfold I8 Na
 rw[hn,AB]
 simp only[decide_true,Bool.not_true,CI]
 rw[CB,AB,show decide ((r0 60).rcnt=18446744073709551615)=false from rfl,CI,hst,AB]
 simp only[decide_true,Bool.not_true,CI]
 rw[hv,AB,AB,hch,AB]
 rfl
end

section
variable {K:Nat→Prop}{w0:World}{H:List AX}
end

section
variable {P:Program}{K:Nat→Prop}{w0:World}{l:Tm}{H:List AX}
theorem oo{fn:Func}{t u s r q:Nat}{v v' v'' v4 v5:Value}(hr:fn.results=#[.tmp t,.tmp u,.tmp s,.tmp r,.tmp q])(hv:look l t=some v)(hv':look l u=some v')(hv'':look l s=some v'')(h4:look l r=some v4)(h5:look l q=some v5):∀a w,Ja l a→GH K w0 H w→(results fn a.tmps).run P w=.ok (.tuple #[v,v',v'',v4,v5]) w:=by
 intro a w ha _
 have h1:=FW ha hv
 have h2:=FW ha hv'
 have h3:=FW ha hv''
 have h4:=FW ha h4
 have h5:=FW ha h5
 simp[results,hr,←h1,←h2,←h3,←h4,←h5]
end

section
variable {K:Nat→Prop}{w0:World}{H:List AX}
def JL(n:Nat)(T:List UInt32):Option (Option (DR×B2×A0×Ai×TR×Db×BX×Az)×Bool):=
 (JK 60).bind fun y1=>
 (y1.1).bind fun d1=>
 (Kp n 60).bind fun y2=>
 (y2.1).bind fun d2=>
 cond ((!decide (y1.2=0))||(!decide (y2.2=0)))
 (
  some (none,false))
 (
  (Hp n 1).bind fun y3=>
  (JA n T d1 y3).bind fun y4=>
  (y4.1).bind fun d3=>
  (Hp n 1).bind fun y5=>
  (I8 n T d2 y5).bind fun y6=>
  (y6.1).bind fun d4=>
  (Rv d3.1 d3.2 y4.2.2).bind fun y7=>
  (y7.1).bind fun d5=>
  ret (((decide (y4.2.1=0))&&(decide (y6.2.1=0)))&&(decide (y7.2=0))) fun x1=>
  some (some (d5,d3.1,d3.2,y4.2.2,({ ops:=[],isOpen:=false,closed:=false }:TR),d4.1,d4.2,y6.2.2),x1))
theorem S4{n:Nat}{T:List UInt32}{r:Option (DR×B2×A0×Ai×TR×Db×BX×Az)×Bool}(h:JL n T=some r)(hS:GM K w0 T)(hT:I0 K w0 2 64 T):zC K w0 7 [] [] H (fun u M=>(r.1=none∧u=.tuple #[.pointer none,.pointer none,.pointer none,.pointer none,vB r.2]∧M=[])∨(∃(d:DR×B2×A0×Ai×TR×Db×BX×Az) (bn0:Nat) (vn0x0:Value) (bn1:Nat) (vn1x0:Value) (vn1x1:Value) (vn1x2:Value) (vn1x5:Value) (bn2:Nat) (vn2x1:Value) (mn2x5:Nat) (bn3:Nat) (vn3x4:Value) (mn3x5:Nat) (mn3x6:Nat) (bn4:Nat) (vn4x1:Value) (bn5:Nat) (vn5x1:Value) (vn5x2:Value) (vn5x3:Value) (bn6:Nat) (vn6x1:Value) (vn6x5:Value) (bn7:Nat) (vn7x0:Value) (vn7x1:Value) (vn7x2:Value),r.1=some d∧u=.tuple #[vP bn0 0,vP bn1 0,vP bn3 0,vP bn4 0,vB r.2]∧M=[AL bn0 (.cells #[vn0x0,vB d.1.isOpen,vP bn1 0,vB d.1.closed] 80),AD 83 5 vn0x0 CD d.1.ops,AL bn1 (.cells #[vn1x0,vn1x1,vn1x2,vP bn3 0,vP bn2 0,vn1x5,AA d.2.1.gen,vB d.2.1.bad] 94),AD 35 4 vn1x0 AY d.2.1.rows,AD 190 3 vn1x1 AU d.2.1.pages,DI vn1x2 AA AA d.2.1.gens,AD 114 2 vn1x5 Aa d.2.1.ring,AL bn2 (.cells #[vP bn3 0,vn2x1,AA d.2.2.1.gen,AA d.2.2.1.boot,AV d.2.2.1.seals,.map (some mn2x5)] 181),AD 114 2 vn2x1 Aa d.2.2.1.ring,Ad mn2x5 AA vB d.2.2.1.taken,AL bn3 (.cells #[vB d.2.2.2.1.off,vB d.2.2.2.1.isCut,vI d.2.2.2.1.lasts,vI d.2.2.2.1.counts,vn3x4,.map (some mn3x5),.map (some mn3x6),AV d.2.2.2.1.rcnt,vS d.2.2.2.1.rtag,AA d.2.2.2.1.rboots] 100),AD 9 1 vn3x4 eS d.2.2.2.1.blocks,Ad mn3x5 AA vS d.2.2.2.1.pend,Ad mn3x6 AA vB d.2.2.2.1.bad,AL bn4 (.cells #[vP bn5 0,vn4x1,vB d.2.2.2.2.1.isOpen,vB d.2.2.2.2.1.closed] 76),AD 83 5 vn4x1 CD d.2.2.2.2.1.ops,AL bn5 (.cells #[vP bn6 0,vn5x1,vn5x2,vn5x3,vB d.2.2.2.2.2.1.bad] 122),AD 35 4 vn5x1 AY d.2.2.2.2.2.1.rows,AD 190 3 vn5x2 AU d.2.2.2.2.2.1.had,AD 33 1 vn5x3 BL d.2.2.2.2.2.1.gens,AL bn6 (.cells #[vP bn7 0,vn6x1,AA d.2.2.2.2.2.2.1.gen,AA d.2.2.2.2.2.2.1.boot,AV d.2.2.2.2.2.2.1.num,vn6x5] 153),AD 114 2 vn6x1 Aa d.2.2.2.2.2.2.1.ring,AD 4 1 vn6x5 eB d.2.2.2.2.2.2.1.taken,AL bn7 (.cells #[vn7x0,vn7x1,vn7x2,AV d.2.2.2.2.2.2.2.rcnt,vS d.2.2.2.2.2.2.2.rtag,AA d.2.2.2.2.2.2.2.rboots,vI d.2.2.2.2.2.2.2.left,vB d.2.2.2.2.2.2.2.off] 107),AD 9 1 vn7x0 eS d.2.2.2.2.2.2.2.blk,AD 9 1 vn7x1 eS d.2.2.2.2.2.2.2.pnd,AD 4 1 vn7x2 eB d.2.2.2.2.2.2.2.bads])):=by
 unfold JL at h
 refine TP.enter Tryz.func7 rfl rfl ?_
 refine Y (U E (U E (U E (U E (U E (V (Y ?_)))))))
 refine AE h fun y1 hy1 h=>?_
 refine AE h fun d1 hd1 h=>?_
 refine Bd (vs:=[_]) (Hin:=[]) (Hr:=_) E E ⟨E,zT⟩ pM E E (YI hy1) ?_
 rintro _ _ (⟨hn,-,-⟩ | ⟨d_,b1,v1,m1,m2,hn,rfl,rfl⟩)
 rw[hd1]at hn;cases hn
 obtain rfl:d1=d_:=zI (hd1.symm.trans hn)
 refine⟨trivial,?_⟩
 refine J E (Ae E E E (Ae E E E (U E (U E (V (Y ?_))))))
 refine AE h fun y2 hy2 h=>?_
 refine AE h fun d2 hd2 h=>?_
 refine Bd (vs:=[_]) (Hin:=[]) (Hr:=_::_::_::_::_) E E ⟨E,zT⟩ pN E E (Zg hy2) ?_
 rintro _ _ (⟨hn,-,-⟩ | ⟨d_,b2,v2,v3,v4,hn,rfl,rfl⟩)
 rw[hd2]at hn;cases hn
 obtain rfl:d2=d_:=zI (hd2.symm.trans hn)
 refine⟨trivial,?_⟩
 refine J E (Ae E E E (Ae E E E (U E (U E (V (AH (Y (J E (Z E BJ (J E ?_))))))))))
 refine Ee (c := !decide (y2.2=0)) 25 3 28 E (fun hb k=>?_) (fun hb k=>?_) ?_
 refine AC E (AC E (Ah E E E ?_))
 exact k.mono tL
 refine J E (Z E BJ (Ah E E E ?_))
 exact k.mono tL
 refine V ?_
 refine AN h E (fun hc1 h=>?_) fun hc1 h=>?_
 refine Y (U E (U E (U E (U E (U E (V (AK (Ab ?_))))))))
 obtain rfl:=zI h
 exact Ag (oo E E E E E E) (Af (M:=[]) (.inl ⟨E,E,E⟩) fun _ hw=>BT.pick (H:=[_,_,_,_,_,_,_,_]) hw [] 8 E)
 refine AJ (AI (Y ?_))
 refine AE h fun y3 hy3 h=>?_
 refine AE h fun y4 hy4 h=>?_
 refine AE h fun d3 hd3 h=>?_
 refine J E ?_
 refine Bd (vs:=[_]) (Hin:=[]) (Hr:=_::_::_::_::_::_::_::_::_) E E ⟨E,zT⟩ jr E E (S3 hy3) ?_
 rintro v5 _ ⟨_,rfl,rfl⟩
 refine⟨trivial,?_⟩
 refine SL.pick [0,5,6,7,8,1,2,3,4] 9 ?_
 refine Bd (vs:=[_,_]) (Hin:=[_,_,_,_,_]) (Hr:=_::_::_::_::_) E E ⟨E,E,zT⟩ pO E E (Ch (B:=[_]) (Hin:=[_,_,_,_]) fun K' w1 hk hB=>WF hy4 (hS.keeps hk) (CL (e:=114) (v:=v5) zV (hB _ zS))) ?_
 rintro _ _ ⟨_,rfl,(⟨hn,-,-⟩ | ⟨d_,b3,v6,v7,v8,v9,b4,v10,m3,hn,rfl,rfl⟩)⟩
 rw[hd3]at hn;cases hn
 obtain rfl:d3=d_:=zI (hd3.symm.trans hn)
 refine⟨trivial,?_⟩
 refine J E (Ae E E E (Ae E E E (U E (U E (V (Y ?_))))))
 refine AE h fun y5 hy5 h=>?_
 refine AE h fun y6 hy6 h=>?_
 refine AE h fun d4 hd4 h=>?_
 refine J E ?_
 refine Bd (vs:=[_]) (Hin:=[]) (Hr:=_::_::_::_::_::_::_::_::_::_::_::_::_::_::_::_::_::_) E E ⟨E,zT⟩ jr E E (S3 hy5) ?_
 rintro v11 _ ⟨_,rfl,rfl⟩
 refine⟨trivial,?_⟩
 refine SL.pick [14,15,16,17,0,1,2,3,4,5,6,7,8,9,10,11,12,13] 18 ?_
 refine Bd (vs:=[_,_]) (Hin:=[_,_,_,_,_]) (Hr:=_::_::_::_::_::_::_::_::_::_::_::_::_::_) E E ⟨E,E,zT⟩ pP E E (WD hy6 hT) ?_
 rintro _ _ (⟨hn,-,-⟩ | ⟨d_,b5,v12,v13,v14,b6,v15,v16,hn,rfl,rfl⟩)
 rw[hd4]at hn;cases hn
 obtain rfl:d4=d_:=zI (hd4.symm.trans hn)
 refine⟨trivial,?_⟩
 refine J E (Ae E E E (Ae E E E (U E (U E (V (Y ?_))))))
 refine AE h fun y7 hy7 h=>?_
 refine AE h fun d5 hd5 h=>?_
 refine J E (SL.pick [12,13,14,15,16,17,18,19,20,21,22,23,0,1,2,3,4,5,6,7,8,9,10,11] 24 ?_)
 refine Bd (vs:=[_]) (Hin:=[_,_,_,_,_,_,_,_,_,_,_,_]) (Hr:=_::_::_::_::_::_::_::_::_::_::_::_::_) E E ⟨E,zT⟩ pL E E (br hy7) ?_
 rintro _ _ (⟨hn,-,-⟩ | ⟨d_,b7,v17,hn,rfl,rfl⟩)
 rw[hd5]at hn;cases hn
 obtain rfl:d5=d_:=zI (hd5.symm.trans hn)
 refine⟨trivial,?_⟩
 refine J E (Ae E E E (Ae E E E (U E (U E (V (Y ?_))))))
 obtain⟨x1,ex1,h⟩:=Bu h
 refine J E (J E (J E (J E (B0 [_] E rr rh sK ⟨E,zT⟩ E ?_))))
 refine Ba E E zU fun b8=>?_
 refine B5 83 5 CD (J E (Z E Bj (J E ?_)))
 refine Ce (c:=decide (y6.2.1=0)) 54 3 57 E (fun hb k=>?_) (fun hb k=>?_) ?_
 refine J E (Z E Bj (Ah E E E ?_))
 exact k.mono tL
 refine AC E (AC E (Ah E E E ?_))
 exact k.mono tL
 refine J E ?_
 refine Ce (c:=decide (y7.2=0)) 58 3 61 E (fun hb k=>?_) (fun hb k=>?_) ?_
 refine J E (Z E Bj (Ah E E E ?_))
 exact k.mono tL
 refine AC E (AC E (Ah E E E ?_))
 exact k.mono tL
 refine U E (U E (U E (U E ?_)))
 refine Al (u:=vB x1) E E (congrArg vB ex1) ?_
 refine V (AK ?_)
 obtain rfl:=zI h
 exact Ag (oo E E E E E E) (Af (M:=[_,_,_,_,_,_,_,_,_,_,_,_,_,_,_,_,_,_,_,_,_,_,_,_,_,_,_]) (.inr ⟨_,b7,v17,b3,v6,v7,v8,v9,b4,v10,m3,b1,v1,m1,m2,b8,zN,b5,v12,v13,v14,b6,v15,v16,b2,v2,v3,v4,E,E,E⟩) fun _ hw=>BT.pick (H:=[_,_,_,_,_,_,_,_,_,_,_,_,_,_,_,_,_,_,_,_,_,_,_,_,_,_,_,_]) hw [2,3,4,5,6,7,8,9,10,11,12,13,14,15,1,0,16,17,18,19,20,21,22,23,24,25,26] 28 E)
def J0(n:Nat)(T:List UInt32):Option Bool:=
 (JL n T).bind fun y1=>
 (y1.1).bind fun d1=>
 (Dp n T d1.1 d1.2.1 d1.2.2.1 d1.2.2.2.1).bind fun y2=>
 (FV y2.2.1 y2.2.2.1 y2.2.2.2.1 y2.2.2.2.2).bind fun y3=>
 (EE n T y3.2 y2.2.2.1 y2.2.2.2.1 y2.2.2.2.2 (⟨1,2,0,[]⟩:Ao)).bind fun y4=>
 (Et n y4.2.1 y4.2.2.1 y4.2.2.2.1 y4.2.2.2.2 1).bind fun y5=>
 (Jc y4.2.1 y4.2.2.1 y4.2.2.2.1 y4.2.2.2.2).bind fun y6=>
 (Dp n T y4.2.1 y4.2.2.1 y4.2.2.2.1 y4.2.2.2.2).bind fun y7=>
 (Et n y7.2.1 y7.2.2.1 y7.2.2.2.1 y7.2.2.2.2 1).bind fun y8=>
 ret ((((((((y1.2&&(decide (y2.1=140)))&&(decide (y3.1=0)))&&(decide (y4.1=0)))&&(decide (y5.2=100)))&&(decide (y6=1)))&&(decide (y7.1=0)))&&(decide (y8.2=0)))&&(decide (y8.1.id=1)&&(decide (y8.1.x=2)&&(decide (y8.1.y=0)&&(decide (y8.1.txt=[])&&true))))) fun x1=>
 some x1
theorem Ww{n:Nat}{T:List UInt32}{r:Bool}(h:J0 n T=some r)(hS:GM K w0 T)(hT:I0 K w0 2 64 T):zC K w0 6 [] [] H (fun u M=>u=vB r∧M=[]):=by
 unfold J0 at h
 refine TP.enter Tryz.func6 rfl rfl ?_
 refine Y (U E (V (Y ?_)))
 refine AE h fun y1 hy1 h=>?_
 refine AE h fun d1 hd1 h=>?_
 refine Bd (vs:=[]) (Hin:=[]) (Hr:=_) E E zT oe E E (S4 hy1 hS hT) ?_
 rintro _ _ (⟨hn,-,-⟩ | ⟨d_,b1,v1,b2,v2,v3,v4,v5,b3,v6,m1,b4,v7,m2,m3,b5,v8,b6,v9,v10,v11,b7,v12,v13,b8,v14,v15,v16,hn,rfl,rfl⟩)
 rw[hd1]at hn;cases hn
 obtain rfl:d1=d_:=zI (hd1.symm.trans hn)
 refine⟨trivial,?_⟩
 refine J E (Ae E E E (Ae E E E (Ae E E E (Ae E E E (Ae E E E (U E (U E ?_)))))))
 refine U E (U E (U E (V (Y ?_))))
 refine AE h fun y2 hy2 h=>?_
 refine J E (BN 14 dr (Kz hy2 hS) E ?_)
 rintro _ _ ⟨v17,v18,v19,v20,rfl,rfl⟩
 refine U E (V (Y ?_))
 refine AE h fun y3 hy3 h=>?_
 refine J E (BN 14 og (Oa hy3) E ?_)
 rintro _ _ ⟨v21,rfl,rfl⟩
 refine U E (V (Y ?_))
 refine AE h fun y4 hy4 h=>?_
 refine J E (B0 [_,_] E Xq Xo GG ⟨E,E,zT⟩ E (BN 14 oh ((P2 hy4 hS :)) E ?_))
 rintro _ _ ⟨v22,v23,v24,v25,rfl,rfl⟩
 refine U E (V (Y ?_))
 refine AE h fun y5 hy5 h=>?_
 refine J E (AS 14 jq (P1 hy5) E (J E (Ae E E E (Ae E E E ?_))))
 refine Ak E GG zU fun b9=>?_
 refine A2 0 E E E E DX E E E zT (U E (V (Y ?_)))
 refine AE h fun y6 hy6 h=>?_
 refine J E (SL.pick [1,2,3,4,5,6,7,8,9,10,11,12,13,14,0] 15 (AS 14 pK (UF hy6) E (U E (V (Y ?_)))))
 refine AE h fun y7 hy7 h=>?_
 refine J E (BN 14 dr (Kz hy7 hS) E ?_)
 rintro _ _ ⟨v26,v27,v28,v29,rfl,rfl⟩
 refine U E (V (Y ?_))
 refine AE h fun y8 hy8 h=>?_
 refine J E (AS 14 jq (P1 hy8) E (J E (Ae E E E (Ae E E E ?_))))
 refine Ak E GG zU fun b10=>?_
 refine A2 0 E E E E DX E E E zT (U E (V (Y ?_)))
 obtain⟨x1,ex1,h⟩:=Bu h
 refine J E (J E ?_)
 refine Ce (c:=decide (y2.1=140)) 44 3 47 E (fun hb k=>?_) (fun hb k=>?_) ?_
 refine J E (Z E Bj (Ah E E E ?_))
 exact k.mono tL
 refine AC E (AC E (Ah E E E ?_))
 exact k.mono tL
 refine J E ?_
 refine Ce (c:=decide (y3.1=0)) 48 3 51 E (fun hb k=>?_) (fun hb k=>?_) ?_
 refine J E (Z E Bj (Ah E E E ?_))
 exact k.mono tL
 refine AC E (AC E (Ah E E E ?_))
 exact k.mono tL
 refine J E ?_
 refine Ce (c:=decide (y4.1=0)) 52 3 55 E (fun hb k=>?_) (fun hb k=>?_) ?_
 refine J E (Z E Bj (Ah E E E ?_))
 exact k.mono tL
 refine AC E (AC E (Ah E E E ?_))
 exact k.mono tL
 refine J E ?_
 refine Ce (c:=decide (y5.2=100)) 56 3 59 E (fun hb k=>?_) (fun hb k=>?_) ?_
 refine J E (Z E Bj (Ah E E E ?_))
 exact k.mono tL
 refine AC E (AC E (Ah E E E ?_))
 exact k.mono tL
 refine J E ?_
 refine Ce (c:=decide (y6=1)) 60 3 63 E (fun hb k=>?_) (fun hb k=>?_) ?_
 refine J E (Z E Bj (Ah E E E ?_))
 exact k.mono tL
 refine AC E (AC E (Ah E E E ?_))
 exact k.mono tL
 refine J E ?_
 refine Ce (c:=decide (y7.1=0)) 64 3 67 E (fun hb k=>?_) (fun hb k=>?_) ?_
 refine J E (Z E Bj (Ah E E E ?_))
 exact k.mono tL
 refine AC E (AC E (Ah E E E ?_))
 exact k.mono tL
 refine J E ?_
 refine Ce (c:=decide (y8.2=0)) 68 3 71 E (fun hb k=>?_) (fun hb k=>?_) ?_
 refine J E (Z E Bj (Ah E E E ?_))
 exact k.mono tL
 refine AC E (AC E (Ah E E E ?_))
 exact k.mono tL
 refine J E ?_
 refine Ce (c:=decide (y8.1.id=1)&&(decide (y8.1.x=2)&&(decide (y8.1.y=0)&&(decide (y8.1.txt=[])&&true)))) 72 4 76 E (fun hb k=>?_) (fun hb k=>?_) ?_
 refine Aq [AV y8.1.id,AA y8.1.x,AA y8.1.y,vS y8.1.txt] E Gd E E (Aj 0 E) (B0 [_,_] E Xq Xo GG ⟨E,E,zT⟩ E ?_)
 refine Sa E kH E E (CW E E (Z6 (a:=y8.1.id) (b:=1)) (CW E E (If (a:=y8.1.x) (b:=2)) (CW E E (If (a:=y8.1.y) (b:=0)) (CW E E (Rs (a:=y8.1.txt) (b:=[])) Is)))) ?_
 refine Ah E E E ?_
 exact k.mono tL
 refine AC E (AC E (AC E (Ah E E E ?_)))
 exact k.mono tL
 refine Al (u:=vB x1) E E (congrArg vB ex1) ?_
 refine V (AK ?_)
 obtain rfl:=zI h
 exact AW [] 29 E E E
end

section
theorem eH{T:List UInt32}:∃o v d,JA 2200000 T (d0 60) (Di 1)=some (some (o,v),0,d)∧gw T 1 o v d∧o.rows=[]:=by
 have hr1:DT (Di 1)=true:=Qw 1 zO
 have hn:H9 (Di 1)=some (1,0):=by
  unfold H9 Ut
  rw[if_pos (by rw[DQ];omega),AB,hr1]
  rfl
 generalize hD:({ d0 60 with counts:=1,rboots:=1 }:Ai)=D
 have hst:PN (d0 60)=some (1,0,D):=by subst hD;rfl
 have K:RH 60 0 D:=by subst hD;exact⟨List.length_replicate ..,by omega,rfl,rfl,rfl,Nat.le_refl _,by omega⟩
 have V9:Dv 60 0 0 D:=by subst hD;exact⟨List.length_replicate ..,Nat.le_refl _,fun _ h=>(by cases h),rfl⟩
 have hv:Mo D (Di 1) 1 1=some (some v0,0):=by
  unfold Mo aA
  rw[if_pos (by rw[DQ];omega),AB,XQ zO zO,DV (by simp[DQ]) (by simp[DQ]),AB]
  rfl
 have hb:J8 (d0 60) (Di 1)=some (some (({ rows:=[],pages:=[],gens:=[],ring:=Di 1,gen:=1,bad:=false }:B2),v0),0,D):=by
  unfold J8 Um
  rw[hn,AB]
  simp only[decide_true,Bool.not_true,CI]
  rw[hst,AB]
  simp only[decide_true,Bool.not_true,CI]
  rw[hv,AB,AB,DV (by simp[DQ]) (by simp[DQ]),AB]
  rfl
 have S:gw T 0 { rows:=[],pages:=[],gens:=[],ring:=Di 1,gen:=1,bad:=false } v0 D:=
  ⟨⟨0,by omega,⟨K,rfl,by rw[DQ];omega,rfl,rfl,Nat.le_refl 0⟩⟩,⟨List.nodup_nil,fun e he=>by simp[v0]at he⟩,V9,rfl,Nat.zero_le _,fun s hs=>(by cases hs),rfl,fun _=>rfl⟩
 obtain⟨o',v',d',hch,hrw,-,-,hS⟩:=XJ (T:=T) (l:=[]) S (.inl rfl) (Nat.zero_le _) (by decide +kernel)
 refine⟨o',v',d',?_,hS rfl,hrw⟩
 have hL:HJ (d0 60)=some false:=rfl
 have hch':Ds 2200000 T { rows:=[],pages:=[],gens:=[],ring:=Di 1,gen:=1,bad:=false } v0 D [] []=some (0,o',v',d'):=hch
 unfold JA
 rw[hn,AB,hL,show Ju (decide ((((1:UInt32),(0:Int)):UInt32×Int).2=0)) ((some false).bind fun y2=>some y2)=some false from rfl,AB,CI,hb,AB,AB]
 simp only[decide_true,C2]
 rw[hch',AB]
 rfl
theorem gU{T:List UInt32}(hT:T.length=64):∃(o:B2) (v:A0) (d:Ai) (a:Db) (w:BX) (c:Az),JL 2200000 T=some (some (⟨[],false,false⟩,o,v,d,⟨[],false,false⟩,a,w,c),true)∧gw T 1 o v d∧o.rows=[]:=by
 obtain⟨o,v,d,h1,h2,h3⟩:=eH (T:=T)
 obtain⟨a,w,c,h4⟩:=iE hT
 refine⟨o,v,d,a,w,c,?_,h2,h3⟩
 have e1:JK 60=some (some (d0 60),0):=oI zO zO
 have e2:Kp 2200000 60=some (some (r0 60),0):=oH (N:=60) zO zO zO
 have e3:Hp 2200000 1=some (Di 1):=kw 1 zO zO
 unfold JL
 rw[e1,AB,AB,e2,AB,AB]
 simp only[decide_true,Bool.not_true,Bool.or_false,CI]
 rw[e3,AB,h1,AB,AB,AB,h4,AB,AB]
 rfl
theorem XL{T:List UInt32}{f:DR}{o:B2}{v:A0}{d:Ai}{l:List Ao}(S:gw T 1 o v d)(hf:f.isOpen=true)(hc:f.closed=false)(h0:0<f.ops.length)(hb:QS 2200000 o.rows f.ops=some (l,0,0))(hl:l.length≤1)(hr:E0 l=true):
  ∃o' v' d',Dp 2200000 T f o v d=some (0,{ f with ops:=[],isOpen:=false },o',v',d')∧o'.rows=l:=by
 obtain⟨o',v',d',hch,hrw,-,-,-⟩:=XJ (T:=T) (l:=l) S (.inr rfl) hl hr
 refine⟨o',v',d',?_,hrw⟩
 have hsc:Dr 2200000 T o v d f.ops=some (0,0,o',v',d'):=by
  unfold Dr Hh
  rw[S.bad,CI,AB]
  show(QS 2200000 o.rows f.ops).bind _=_
  rw[hb,AB]
  unfold HJ H8
  rw[CB]
  simp only[decide_true,Bool.not_true,CI]
  rw[AB,CB,AB,S.dv.rc,show decide ((1:UInt64)=18446744073709551615)=false from rfl,CI]
  show(E8 2200000 T o v d l).bind _=_
  rw[show E8 2200000 T o v d l=Ds 2200000 T o v d l o.pages from rfl,hch,AB]
 unfold Dp C0 Ih
 rw[hc,CI,AB,CB]
 show cond (!decide ((0:Int)=0)) _ _=_
 rw[show(!decide ((0:Int)=0))=false from rfl,CI,hf,CB,show(!true)=false from rfl,CI,AB,zt (show 0<(f.ops.length:Int) by omega),C2]
 show(Dr 2200000 T o v d f.ops).bind _=_
 rw[hsc,AB]
 rfl
theorem iY{T:List UInt32}(hT:T.length=64):J0 2200000 T=some true:=by
 obtain⟨o,v,d,a,w,c,hm,S,hrw⟩:=gU hT
 have hput:EE 2200000 T ⟨[],true,false⟩ o v d ⟨1,2,0,[]⟩=some (0,⟨[⟨1,1,2,0,[]⟩],true,false⟩,o,v,d):=by
  have h1:Cr o v d=some []:=by
   unfold Cr
   rw[hrw]
   rfl
  have h2:TT 2200000 ⟨[],true,false⟩ [] ⟨1,1,2,0,[]⟩=some (0,⟨[⟨1,1,2,0,[]⟩],true,false⟩):=zK
  unfold EE F7 C0
  show((Cr o v d).bind _).bind _=_
  rw[h1,AB,h2,AB,AB]
 have hbat:QS 2200000 o.rows [⟨1,1,2,0,[]⟩]=some ([⟨1,2,0,[]⟩],0,0):=by rw[hrw];kernel_rfl
 obtain⟨o',v',d',hcm,hrw'⟩:=XL (T:=T) (f:=⟨[⟨1,1,2,0,[]⟩],true,false⟩) S rfl rfl zD hbat zD (by decide +kernel)
 have hg1:∃x,Et 2200000 ⟨[⟨1,1,2,0,[]⟩],true,false⟩ o v d 1=some (x,100):=by
  have h1:∃x,Ii 2200000 [] 1=some (x,100):=⟨⟨0,0,0,[]⟩,by kernel_rfl⟩
  obtain⟨x,h1⟩:=h1
  refine⟨x,?_⟩
  unfold Et C0 Gv
  show((Ii 2200000 o.rows 1).bind _).bind _=_
  rw[hrw,h1]
  rfl
 have hg2:Et 2200000 ⟨[],false,false⟩ o' v' d' 1=some (⟨1,2,0,[]⟩,0):=by
  have h1:Ii 2200000 [⟨1,2,0,[]⟩] 1=some (⟨1,2,0,[]⟩,0):=zK
  unfold Et C0 Gv
  show((Ii 2200000 o'.rows 1).bind _).bind _=_
  rw[hrw',h1]
  rfl
 obtain⟨x,hg1⟩:=hg1
 unfold J0
 rw[hm,AB,AB]
 have hc0:Dp 2200000 T ⟨[],false,false⟩ o v d=some (140,⟨[],false,false⟩,o,v,d):=rfl
 have hbg:FV ⟨[],false,false⟩ o v d=some (0,⟨[],true,false⟩):=rfl
 have hop:Jc ⟨[⟨1,1,2,0,[]⟩],true,false⟩ o v d=some 1:=rfl
 rw[hc0,AB,hbg,AB,hput,AB,hg1,AB,hop,AB,hcm,AB,hg2,AB]
 rfl
end

section
variable {K:Nat→Prop}{w0:World}{H:List AX}
def HV(n:Nat)(T:List UInt32)(p0:Int)(y1:Bool)(y2:Option (DR×B2×A0×Ai×TR×Db×BX×Az)×Bool)(y3:Int×DR)(o1:DR)(o2:B2)(o3:Ai)(o4:A0):Option Bool:=
 (Dp n T o1 o2 o4 o3).bind fun y5=>
 (Ju (((y1&&y2.2)&&(decide (y3.1=0)))&&(decide (y5.1=0))) ((Cr y5.2.2.1 y5.2.2.2.1 y5.2.2.2.2).bind fun y6=>(JQ n y6 [(⟨5,EL (wI ((min p0 64)-1)),0,[]⟩:Ao)]).bind fun y7=>some (y7))).bind fun y8=>
 some y8
def E5(n:Nat)(T:List UInt32)(p0:Int)(y1:Bool)(y2:Option (DR×B2×A0×Ai×TR×Db×BX×Az)×Bool)(y3:Int×DR)(nx_f_law18_FaceFull_l1:DR×B2×Ai×A0×Int→Option Bool)(o5:DR)(o6:B2)(o7:Ai)(o8:A0)(a1:Int):Option Bool:=
 cond (decide (a1<p0))
 (
  (EE n T o5 o6 o8 o7 (⟨5,EL a1,0,[]⟩:Ao)).bind fun y4=>
  cond (((decide (a1<64))&&(!decide (y4.1=0)))||((decide (64≤a1))&&(!decide (y4.1=101))))
  (
   some false)
  (
   ret (wI (a1+1)) fun i_1=>
   nx_f_law18_FaceFull_l1 (y4.2.1,y4.2.2.1,y4.2.2.2.2,y4.2.2.2.1,i_1)))
 (
  HV n T p0 y1 y2 y3 o5 o6 o7 o8)
def HW(n:Nat)(T:List UInt32)(p0:Int)(y1:Bool)(y2:Option (DR×B2×A0×Ai×TR×Db×BX×Az)×Bool)(y3:Int×DR):Nat→(DR×B2×Ai×A0×Int)→Option Bool:=CE fun nx x=>E5 n T p0 y1 y2 y3 nx x.1 x.2.1 x.2.2.1 x.2.2.2.1 x.2.2.2.2
def Jd(n:Nat)(T:List UInt32)(p0:Int):Option Bool:=
 (J0 n T).bind fun y1=>
 cond ((decide (p0<60))||(decide (70<p0)))
 (
  some y1)
 (
  (JL n T).bind fun y2=>
  (y2.1).bind fun d1=>
  (FV d1.1 d1.2.1 d1.2.2.1 d1.2.2.2.1).bind fun y3=>
  HW n T p0 y1 y2 y3 n (y3.2,d1.2.1,d1.2.2.2.1,d1.2.2.1,0))
theorem UH{n:Nat}{T:List UInt32}{p0:Int}{r:Bool}(h:Jd n T p0=some r)(hS:GM K w0 T)(hT:I0 K w0 2 64 T):zC K w0 3 [vI p0] [] H (fun u M=>u=vB r∧M=[]):=by
 unfold Jd at h
 refine TP.enter Tryz.func3 rfl rfl ?_
 refine Y (U E (V (Y ?_)))
 refine AE h fun y1 hy1 h=>?_
 refine AS 0 rX (Ww hy1 hS hT) E (U E (V (AH (Y (J E (Z E A4 (J E ?_)))))))
 refine Ee (c:=decide (70<p0)) 16 3 19 E (fun hb k=>?_) (fun hb k=>?_) ?_
 refine AC E (AC E (Ah E E E ?_))
 exact k.mono tL
 refine J E (Z E Ci (Ah E E E ?_))
 exact k.mono tL
 refine V ?_
 refine AN h E (fun hc1 h=>?_) fun hc1 h=>?_
 refine Y (J E (U E (V (AK (Ab ?_)))))
 obtain rfl:=zI h
 exact AW [] 0 E E E
 refine AJ (AI (Y ?_))
 refine AE h fun y2 hy2 h=>?_
 refine AE h fun d1 hd1 h=>?_
 refine Bd (vs:=[]) (Hin:=[]) (Hr:=_) E E zT oe E E (S4 hy2 hS hT) ?_
 rintro _ _ (⟨hn,-,-⟩ | ⟨d_,b1,v1,b2,v2,v3,v4,v5,b3,v6,m1,b4,v7,m2,m3,b5,v8,b6,v9,v10,v11,b7,v12,v13,b8,v14,v15,v16,hn,rfl,rfl⟩)
 rw[hd1]at hn;cases hn
 obtain rfl:d1=d_:=zI (hd1.symm.trans hn)
 refine⟨trivial,?_⟩
 refine J E (Ae E E E (Ae E E E (Ae E E E (Ae E E E (Ae E E E (U E (U E ?_)))))))
 refine U E (U E (U E (V (Y ?_))))
 refine AE h fun y3 hy3 h=>?_
 refine J E (BN 14 og (Oa hy3) E ?_)
 rintro _ _ ⟨v17,rfl,rfl⟩
 refine U E (V ?_)
 refine A6 (α:=DR×Value×B2×Value×Value×Value×Ai×A0) (fun x=>HV n T p0 y1 y2 y3 x.1 x.2.2.1 x.2.2.2.2.2.2.1 x.2.2.2.2.2.2.2=some r) (fun x=>[(0,vI p0),(3,vB y1),(4,vP b1 0),(5,vP b2 0),(8,vB y2.2),(9,vI y3.1)]) (fun x=>AL b1 (.cells #[x.2.1,vB x.1.isOpen,vP b2 0,vB x.1.closed] 80)::AD 83 5 x.2.1 CD x.1.ops::AL b2 (.cells #[x.2.2.2.1,x.2.2.2.2.1,x.2.2.2.2.2.1,vP b4 0,vP b3 0,v5,AA x.2.2.1.gen,vB x.2.2.1.bad] 94)::AD 35 4 x.2.2.2.1 AY x.2.2.1.rows::AD 190 3 x.2.2.2.2.1 AU x.2.2.1.pages::DI x.2.2.2.2.2.1 AA AA x.2.2.1.gens::AL b4 (.cells #[vB x.2.2.2.2.2.2.1.off,vB x.2.2.2.2.2.2.1.isCut,vI x.2.2.2.2.2.2.1.lasts,vI x.2.2.2.2.2.2.1.counts,v7,.map (some m2),.map (some m3),AV x.2.2.2.2.2.2.1.rcnt,vS x.2.2.2.2.2.2.1.rtag,AA x.2.2.2.2.2.2.1.rboots] 100)::AD 9 1 v7 eS x.2.2.2.2.2.2.1.blocks::Ad m2 AA vS x.2.2.2.2.2.2.1.pend::Ad m3 AA vB x.2.2.2.2.2.2.1.bad::AL b3 (.cells #[vP b4 0,v6,AA x.2.2.2.2.2.2.2.gen,AA x.2.2.2.2.2.2.2.boot,AV x.2.2.2.2.2.2.2.seals,.map (some m1)] 181)::AD 114 2 v6 Aa x.2.2.2.2.2.2.2.ring::Ad m1 AA vB x.2.2.2.2.2.2.2.taken::AD 114 2 v5 Aa x.2.2.1.ring::H) ?_ (fun x D h=>?_)
 refine Y (U E (V (AP ?_)))
 refine SX.heap (SX.mono (BG (α:=Nat×DR×Value×B2×Value×Value×Value×Ai×A0×Int) (fun x=>HW n T p0 y1 y2 y3 x.1 (x.2.1,x.2.2.2.1,x.2.2.2.2.2.2.2.1,x.2.2.2.2.2.2.2.2.1,x.2.2.2.2.2.2.2.2.2)=some r) (fun x=>[(0,vI p0),(3,vB y1),(4,vP b1 0),(5,vP b2 0),(8,vB y2.2),(9,vI y3.1),(10,vI x.2.2.2.2.2.2.2.2.2)]) (fun x=>AL b1 (.cells #[x.2.2.1,vB x.2.1.isOpen,vP b2 0,vB x.2.1.closed] 80)::AD 83 5 x.2.2.1 CD x.2.1.ops::AL b2 (.cells #[x.2.2.2.2.1,x.2.2.2.2.2.1,x.2.2.2.2.2.2.1,vP b4 0,vP b3 0,v5,AA x.2.2.2.1.gen,vB x.2.2.2.1.bad] 94)::AD 35 4 x.2.2.2.2.1 AY x.2.2.2.1.rows::AD 190 3 x.2.2.2.2.2.1 AU x.2.2.2.1.pages::DI x.2.2.2.2.2.2.1 AA AA x.2.2.2.1.gens::AL b4 (.cells #[vB x.2.2.2.2.2.2.2.1.off,vB x.2.2.2.2.2.2.2.1.isCut,vI x.2.2.2.2.2.2.2.1.lasts,vI x.2.2.2.2.2.2.2.1.counts,v7,.map (some m2),.map (some m3),AV x.2.2.2.2.2.2.2.1.rcnt,vS x.2.2.2.2.2.2.2.1.rtag,AA x.2.2.2.2.2.2.2.1.rboots] 100)::AD 9 1 v7 eS x.2.2.2.2.2.2.2.1.blocks::Ad m2 AA vS x.2.2.2.2.2.2.2.1.pend::Ad m3 AA vB x.2.2.2.2.2.2.2.1.bad::AL b3 (.cells #[vP b4 0,v6,AA x.2.2.2.2.2.2.2.2.1.gen,AA x.2.2.2.2.2.2.2.2.1.boot,AV x.2.2.2.2.2.2.2.2.1.seals,.map (some m1)] 181)::AD 114 2 v6 Aa x.2.2.2.2.2.2.2.2.1.ring::Ad m1 AA vB x.2.2.2.2.2.2.2.2.1.taken::AD 114 2 v5 Aa x.2.2.2.1.ring::H) (fun x=>x.1) (fun x D h=>?_) (n,y3.2,v17,d1.2.1,v2,v3,v4,d1.2.2.2.1,d1.2.2.1,0) h) tL) (BM [0,1,2,3,4,5,10,11,12,13,7,8,9,6] 27 E E E)
 obtain⟨m4,o5,v22,o6,v23,v24,v25,o7,o8,a1⟩:=x
 dsimp only at h
 rcases m4 with _ | m4
 cases (show(none:Option _)=some r from h)
 replace h:E5 n T p0 y1 y2 y3 (HW n T p0 y1 y2 y3 m4) o5 o6 o7 o8 a1=some r:=h
 unfold E5 at h
 try dsimp only
 refine AH (Y (J E (J E (Z E A4 (V ?_)))))
 refine AN h E (fun hc2 h=>?_) fun hc2 h=>?_
 refine AJ (AI (AH (AP (Y ?_))))
 refine AE h fun y4 hy4 h=>?_
 refine J E (J E (BB E E (Nc IZ CJ) (B0 [_,_] E Xq Xo GG ⟨E,E,zT⟩ E (SL.pick [0,1,2,3,4,5,13,10,11,12,6,7,8,9] 14 (BN 14 oh ((P2 hy4 hS :)) E ?_)))))
 rintro _ _ ⟨v26,v27,v28,v29,rfl,rfl⟩
 refine U E (V (Y (J E (Z E A4 (J E ?_)))))
 refine Ce (c := !decide (y4.1=0)) 42 3 45 E (fun hb k=>?_) (fun hb k=>?_) ?_
 refine J E (Z E BJ (Ah E E E ?_))
 exact k.mono tL
 refine AC E (AC E (Ah E E E ?_))
 exact k.mono tL
 refine J E ?_
 refine Ee (c:=(decide (64≤a1))&&(!decide (y4.1=101))) 46 7 53 E (fun hb k=>?_) (fun hb k=>?_) ?_
 refine AC E (AC E (AC E (AC E (AC E (AC E (Ah E E E ?_))))))
 exact k.mono tL
 refine J E (Z E Js (J E ?_))
 refine Ce (c := !decide (y4.1=101)) 49 3 52 E (fun hb k=>?_) (fun hb k=>?_) ?_
 refine J E (Z E BJ (Ah E E E ?_))
 exact k.mono tL
 refine AC E (AC E (Ah E E E ?_))
 exact k.mono tL
 refine Ah E E E ?_
 exact k.mono tL
 refine V ?_
 refine AN h E (fun hc3 h=>?_) fun hc3 h=>?_
 refine Y (U E (V (AK (A8 (Ab (Dz (A8 (Fq ?_))))))))
 obtain rfl:=zI h
 exact AW [] 14 E E E
 refine AJ (Am (AI (AQ ?_)))
 obtain⟨i_1,ei_1,h⟩:=Bu h
 refine J E (Z E Bf ?_)
 refine Al (u:=vI i_1) E E (congrArg vI ei_1) ?_
 refine AZ ?_
 exact Au (m4,y4.2.1,v26,y4.2.2.1,v27,v28,v29,y4.2.2.2.2,y4.2.2.2.1,i_1) h (Nat.lt_succ_self _) tL (BM [0,1,2,3,4,5,10,11,12,13,7,8,9,6] 14 E E E)
 refine Ax (A3 (BZ (A5 ?_)))
 exact Ap (o5,v22,o6,v23,v24,v25,o7,o8) h tL (BM [0,1,2,3,4,5,6,7,8,9,10,11,12,13] 14 E E E)
 obtain⟨o1,v18,o2,v19,v20,v21,o3,o4⟩:=x
 dsimp only at h
 unfold HV at h
 try dsimp only
 refine Y ?_
 refine AE h fun y5 hy5 h=>?_
 refine J E (SL.pick [0,1,2,3,4,5,13,10,11,12,6,7,8,9] 14 (BN 14 dr (Kz hy5 hS) E ?_))
 rintro _ _ ⟨v30,v31,v32,v33,rfl,rfl⟩
 refine U E (V (Y ?_))
 refine AE h fun y8 hy8 h=>?_
 refine J E (J E ?_)
 refine Ce (c:=y2.2) 57 2 59 E (fun hb k=>?_) (fun hb k=>?_) ?_
 refine J E (Ah E E E ?_)
 exact k.mono tL
 refine AC E (Ah E E E ?_)
 exact k.mono tL
 refine J E ?_
 refine Ce (c:=decide (y3.1=0)) 60 3 63 E (fun hb k=>?_) (fun hb k=>?_) ?_
 refine J E (Z E Bj (Ah E E E ?_))
 exact k.mono tL
 refine AC E (AC E (Ah E E E ?_))
 exact k.mono tL
 refine J E ?_
 refine Ce (c:=decide (y5.1=0)) 64 3 67 E (fun hb k=>?_) (fun hb k=>?_) ?_
 refine J E (Z E Bj (Ah E E E ?_))
 exact k.mono tL
 refine AC E (AC E (Ah E E E ?_))
 exact k.mono tL
 refine J E ?_
 refine Ga 68 10 78 hy8 E (fun hb hg8 k=>?_) (fun hb k=>?_) ?_
 obtain⟨y6,hy6,hg8⟩:=E3 hg8
 obtain⟨y7,hy7,hg8⟩:=E3 hg8
 obtain rfl:=zI hg8
 refine J E (SL.pick [2,3,4,5,6,7,8,9,10,11,12,13,0,1] 14 ?_)
 refine Bd (vs:=[_]) (Hin:=[_,_,_,_,_,_,_,_,_,_,_,_]) (Hr:=_::_::_) E E ⟨E,zT⟩ jp E E (N8 hy6) ?_
 rintro v34 _ ⟨_,rfl,rfl⟩
 refine⟨trivial,?_⟩
 refine J E (T7 E E E (Z E DZ (BB E E (Nc IZ CJ) (B0 [_,_] E Xq Xo GG ⟨E,E,zT⟩ E ?_))))
 refine B9 [_] rfl Cq DX GG ⟨rfl,trivial⟩ rfl rfl rfl zW rfl rfl zU fun b9=>?_
 refine CA AY 4 ([(⟨5,EL (wI ((min p0 64)-1)),0,[]⟩:Ao)]:List Ao) E zV E ?_
 refine SL.pick [1,0] 2 ?_
 refine Bd (vs:=[_,_]) (Hin:=[_,_]) (Hr:=_::_::_::_::_::_::_::_::_::_::_::_::_::_::_) E E ⟨E,E,zT⟩ pJ E E (Ch (B:=[_,_]) (Hin:=[]) fun K' w1 hk hB=>YM hy7 (CL (e:=35) (v:=v34) zV (hB _ zS)) (CL (e:=35) (v:=.slice (some ⟨b9,0,none⟩) 1 1) zV (hB _ zS))) ?_
 rintro _ _ ⟨_,rfl,rfl,rfl⟩
 refine⟨trivial,?_⟩
 refine Ah E E E ?_
 exact SL.mono (SL.heap k fun _ hw=>BT.pick (H:=[_,_,_,_,_,_,_,_,_,_,_,_,_,_,_,_]) hw [14,15,2,3,4,5,6,7,8,9,10,11,12,13] 16 E) tL
 refine AC E (AC E (AC E (AC E (AC E (AC E (AC E (AC E ?_)))))))
 refine AC E (Ah E E E ?_)
 exact k.mono tL
 refine U E (V (AK ?_))
 obtain rfl:=zI h
 exact AW [] 14 E E E
end

section
abbrev PU(k:Nat):List KQ:=(List.range k).map fun i=>⟨1,5,UInt32.ofNat i,0,[]⟩
theorem Yz(k:Nat):(PU k).length=k:=by simp[PU]
theorem oy:∀k:Fin 64,(TT 2200000 ⟨PU k,true,false⟩ [] ⟨1,5,UInt32.ofNat k,0,[]⟩).map (fun y=>(y.1,y.2.ops,y.2.isOpen,y.2.closed))=some (0,PU (k+1),true,false):=by decide +kernel
theorem mG:∀k:Fin 5,QS 2200000 [] (PU (k+60))=some ([⟨5,UInt32.ofNat (k+59),0,[]⟩],0,0):=by decide +kernel
theorem r8{T:List UInt32}{o:B2}{v:A0}{d:Ai}(hr:o.rows=[])(k:Nat):
  ∃e,EE 2200000 T ⟨PU (min k 64),true,false⟩ o v d ⟨5,UInt32.ofNat k,0,[]⟩=some (e,⟨PU (min (k+1) 64),true,false⟩,o,v,d)∧(k<64→e=0)∧(64≤k→e=101):=by
 have h1:Cr o v d=some []:=by
  unfold Cr
  rw[hr]
  rfl
 have key:∀e,TT 2200000 ⟨PU (min k 64),true,false⟩ [] ⟨1,5,UInt32.ofNat k,0,[]⟩=some (e,⟨PU (min (k+1) 64),true,false⟩)→EE 2200000 T ⟨PU (min k 64),true,false⟩ o v d ⟨5,UInt32.ofNat k,0,[]⟩=some (e,⟨PU (min (k+1) 64),true,false⟩,o,v,d):=by
  intro e h2
  unfold EE F7 C0
  show((Cr o v d).bind _).bind _=_
  rw[h1,AB,h2,AB,AB]
 by_cases h:k<64
 refine⟨0,key 0 ?_,fun _=>rfl,fun h2=>by omega⟩
 have:=oy ⟨k,h⟩
 obtain⟨y,hy,e⟩:=Option.map_eq_some_iff.1 this
 rw[Nat.min_eq_left zO,Nat.min_eq_left zO,hy]
 obtain⟨y1,⟨a,b,c⟩⟩:=y
 simp only[Prod.mk.injEq]at e
 obtain⟨rfl,rfl,rfl,rfl⟩:=e
 rfl
 refine⟨101,key 101 ?_,fun h2=>by omega,fun _=>rfl⟩
 rw[Nat.min_eq_right zO,Nat.min_eq_right zO]
 unfold TT
 rw[show((({ ops:=PU 64,isOpen:=true,closed:=false }:DR).ops.length:Nat):Int)=64 from by rw[Yz];rfl]
 rfl
theorem X5{i:Nat}(h:i<4294967296):EL (i:Int)=UInt32.ofNat i:=by
 unfold EL
 rw[show((i:Int)%4294967296).toNat=i by omega]
theorem oN{n:Nat}(r:Ao)(hn:1<n):JQ n [r] [r]=some true:=by
 obtain⟨m,rfl⟩:∃m,n=m+2:=⟨n-2,by omega⟩
 unfold JQ
 rw[show(!decide (([r].length:Int)=([r].length:Int)))=false by simp,CI]
 show Gs [r] [r] (Kq [r] [r] (m+1)) 0=_
 unfold Gs
 rw[show decide ((0:Int)<([r].length:Int))=true from rfl,C2,show BA [r] 0=some r from rfl,AB,AB,show(!(decide (r.id=r.id)&&(decide (r.x=r.x)&&(decide (r.y=r.y)&&(decide (r.txt=r.txt)&&true)))))=false by simp]
 rfl
theorem cf(T:List UInt32)(n:Int)(hT:T.length=64):Jd 2200000 T n=some true:=by
 unfold Jd
 rw[iY hT,AB]
 cases hc:(decide (n<60)||decide (70<n))with
 | true=>rw[C2]
 | false=>
  rw[CI]
  have hn:60≤n∧n≤70:=by
   simp only[Bool.or_eq_false_iff,decide_eq_false_iff_not]at hc
   omega
  obtain⟨k,rfl⟩:∃k:Nat,n=(k:Int):=⟨n.toNat,by omega⟩
  obtain⟨o,v,d,a,w,c,hm,S,hrw⟩:=gU hT
  have hbg:FV ⟨[],false,false⟩ o v d=some (0,⟨[],true,false⟩):=rfl
  rw[hm,AB,AB,hbg,AB]
  unfold HW
  refine iO (P:=fun i x=>x=(⟨PU (min i 64),true,false⟩,o,d,v,(i:Int))) k ?_ ?_ zO rfl
  rintro i x hi rfl
  obtain⟨e,hp,he1,he2⟩:=r8 (T:=T) (v:=v) (d:=d) hrw i
  refine⟨_,rfl,fun nx=>?_⟩
  unfold E5
  dsimp only
  have hu:=X5 (i:=i) zO
  rw[zt zO,C2,hu,hp,AB]
  have hz:(((decide ((i:Int)<64))&&(!decide (e=0)))||((decide (64≤(i:Int)))&&(!decide (e=101))))=false:=by
   by_cases h:i<64
   rw[he1 h,zf (show ¬64≤(i:Int) by omega)]
   simp
   rw[he2 zO,zf (show ¬(i:Int)<64 by omega)]
   simp
  rw[hz,CI,CB,DB zO zO]
  rfl
  rintro x rfl nx
  unfold E5
  dsimp only
  rw[zf zO,CI]
  unfold HV
  have hk:min k 64-60<5:=zO
  have hb:=mG ⟨min k 64-60,hk⟩
  rw[show min k 64-60+60=min k 64 by omega,show min k 64-60+59=min k 64-1 by omega]at hb
  have hr1:∀j:Fin 64,E0 [⟨5,UInt32.ofNat j,0,[]⟩]=true:=by decide +kernel
  obtain⟨o',v',d',hcm,hrw'⟩:=XL (T:=T) (l:=[⟨5,UInt32.ofNat (min k 64-1),0,[]⟩]) (f:=⟨PU (min k 64),true,false⟩) S rfl rfl (by rw[Yz];omega) (by rw[hrw];exact hb) (Nat.le_refl 1) (hr1 ⟨min k 64-1,by omega⟩)
  have hro:Cr o' v' d'=some [⟨5,UInt32.ofNat (min k 64-1),0,[]⟩]:=by
   unfold Cr
   rw[hrw']
   rfl
  have hu:EL (wI ((min (k:Int) 64)-1))=UInt32.ofNat (min k 64-1):=by
   rw[DB zO zO,show(min (k:Int) 64)-1=((min k 64-1:Nat):Int) by omega,X5 zO]
  rw[hcm,AB,hro,hu]
  show(Ju true ((JQ 2200000 _ _).bind _)).bind _=_
  rw[oN _ zO]
  rfl
end
end Go.Proofs.YtjkhnhichalenaaGreatDoor
