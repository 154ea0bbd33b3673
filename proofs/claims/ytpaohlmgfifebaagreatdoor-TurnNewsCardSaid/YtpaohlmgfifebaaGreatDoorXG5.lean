/- The texts U2, U3, GG36, FD1, FD2, FD1b, FD3, FP3, S26, GG38, GG39, S27, S28, GG40, GG37, GG41, GG42, GG43, GG44, GG46, LG21, LG22, V1, V2, V3, V4a, LG23, LG24, YR1, S30, FP4, FJ0, FW0, FP5, one behind the other: walks of the program, and plain laws of what it computes. Conditions: as each theorem says. -/
import Derived.Test.YtpaohlmgfifebaaGreatDoorXG1
import Derived.Test.YtpaohlmgfifebaaGreatDoorXG2
import Derived.Test.YtpaohlmgfifebaaGreatDoorXG3
import Derived.Test.YtpaohlmgfifebaaGreatDoorXG4

set_option linter.unusedVariables false
set_option linter.unusedSimpArgs false
set_option maxHeartbeats 4000000
set_option maxRecDepth 100000
namespace Go.Proofs.YtpaohlmgfifebaaGreatDoor
open Go
section
variable {K:Nat→Prop}{w0:World}{H:List AX}
def CN(p0:UInt32)(p1:Int):Option UInt32:=
 (Sx p1).bind fun n1=>
 (Sx (wI (32-p1))).bind fun n2=>
 ret ((shr32 p0 n1) ||| (shl32 p0 n2)) fun x1=>
 some x1
theorem FB{p0 r:UInt32}{p1:Int}(h:CN p0 p1=some r): zC K w0 282 [AB p0,vI p1] [] H (fun u M=>u=AB r∧M=[]):=by
 unfold CN at h
 refine WN.enter Tryz.func282 rfl rfl ?_
 refine Y (U E (V (AH ?_)))
 refine AF h fun n1 hn1 h=>?_
 refine AF h fun n2 hn2 h=>?_
 obtain⟨x1,ex1,h⟩:=Bz h
 refine Ax Cz [] (Pl.of (G4 0 9)) zK (J E (J E (Z E (Y4 hn1) (J E (J E (Z E Dc (Z E (UN hn2) ?_)))))))
 refine Z E Fy ?_
 refine Ay (u:=AB x1) E E (by rw[ex1]) ?_
 refine V (AK ?_)
 obtain rfl:=zI h
 exact Ac [] 0 E E E
def Oa:Option (List UInt32):=
 some [1779033703,3144134277,1013904242,2773480762,1359893119,2600822924,528734635,1541459225]
theorem ah{r:List UInt32}(h:Oa=some r): zC K w0 270 [] [] H (fun u M=>∃v0:Value,u=v0∧M=[AD 36 1 v0 BV r]):=by
 unfold Oa at h
 refine WN.enter Tryz.func270 rfl rfl ?_
 refine Y (CE 36 1 BV (U E (V (Y ?_))))
 refine CA [_,_,_,_,_,_,_,_] E CT Bx H5 ⟨E,E,E,E,E,E,E,E,zT⟩ E E E zX E E zU fun b1=>?_
 refine B4 BV 1 ([1779033703,3144134277,1013904242,2773480762,1359893119,2600822924,528734635,1541459225]:List UInt32) E zV E ?_
 refine U E (V (AK ?_))
 obtain rfl:=zI h
 exact BH [0] 2 (Cx E E) E E ⟨(.slice (some ⟨b1,0,none⟩) 8 8),E,E⟩
def Md(l9:List UInt32):Option (List UInt32):=
 some l9
def IW(p0:List UInt32)(nx_f_ref02_part_l3:List UInt32×Int→Option (List UInt32))(l10:List UInt32)(a3:Int):Option (List UInt32):=
 cond (decide (a3<8))
 (
  (BE l10 a3).bind fun x27=>
  (BE p0 a3).bind fun x28=>
  (BE l10 a3).bind fun x29=>
  (Mx l10 a3 (x27+x28)).bind fun l11=>
  ret (wI (a3+1)) fun x30=>
  nx_f_ref02_part_l3 (l11,x30))
 (
  Md l10)
def Mf(p0:List UInt32):Nat→(List UInt32×Int)→Option (List UInt32):=CI fun nx x=>IW p0 nx x.1 x.2
def IA(n:Nat)(p0:List UInt32)(l7:List UInt32):Option (List UInt32):=
 Mf p0 n (l7,0)
def IV(n:Nat)(T:List UInt32)(p0:List UInt32)(l1:List UInt32)(nx_f_ref02_part_l2:List UInt32×Int→Option (List UInt32))(l8:List UInt32)(a2:Int):Option (List UInt32):=
 cond (decide (a2<64))
 (
  (BE l8 0).bind fun x6=>
  (BE l8 4).bind fun x7=>
  (BE l8 7).bind fun x8=>
  (CN x7 6).bind fun y5=>
  (CN x7 11).bind fun y6=>
  (CN x7 25).bind fun y7=>
  (BE l8 5).bind fun x9=>
  (BE l8 6).bind fun x10=>
  (BE T a2).bind fun x11=>
  (BE l1 a2).bind fun x12=>
  ret ((((x8+((y5 ^^^ y6) ^^^ y7))+((x7 &&& x9) ^^^ ((4294967295 ^^^ x7) &&& x10)))+x11)+x12) fun x13=>
  (CN x6 2).bind fun y8=>
  (CN x6 13).bind fun y9=>
  (CN x6 22).bind fun y10=>
  (BE l8 1).bind fun x14=>
  (BE l8 2).bind fun x15=>
  (BE l8 1).bind fun x16=>
  (BE l8 2).bind fun x17=>
  ret (((y8 ^^^ y9) ^^^ y10)+(((x6 &&& x14) ^^^ (x6 &&& x15)) ^^^ (x16 &&& x17))) fun x18=>
  (BE l8 0).bind fun x19=>
  (BE l8 1).bind fun x20=>
  (BE l8 2).bind fun x21=>
  (BE l8 3).bind fun x22=>
  (BE l8 4).bind fun x23=>
  (BE l8 5).bind fun x24=>
  (BE l8 6).bind fun x25=>
  ret (wI (a2+1)) fun x26=>
  nx_f_ref02_part_l2 ([x13+x18,x19,x20,x21,x22+x13,x23,x24,x25],x26))
 (
  IA n p0 l8)
def Me(n:Nat)(T:List UInt32)(p0:List UInt32)(l1:List UInt32):Nat→(List UInt32×Int)→Option (List UInt32):=CI fun nx x=>IV n T p0 l1 nx x.1 x.2
def H8(n:Nat)(T:List UInt32)(p0:List UInt32)(l1:List UInt32):Option (List UInt32):=
 (C8 4 [] p0).bind fun l6=>
 Me n T p0 l1 n (l6,0)
def H9(a1:Int)(nx_f_ref02_part_l1:List UInt32×Int→Option (List UInt32))(l3:List UInt32):Option (List UInt32):=
 ret (wI (a1+1)) fun x5=>
 nx_f_ref02_part_l1 (l3,x5)
def IU(n:Nat)(T:List UInt32)(p0:List UInt32)(p1:List UInt8)(nx_f_ref02_part_l1:List UInt32×Int→Option (List UInt32))(l2:List UInt32)(a1:Int):Option (List UInt32):=
 cond (decide (a1<64))
 (
  cond (decide (a1<16))
  (
   (BE p1 (wI (4*a1))).bind fun c1=>
   (BE p1 (wI ((wI (4*a1))+1))).bind fun c2=>
   (BE p1 (wI ((wI (4*a1))+2))).bind fun c3=>
   (BE p1 (wI ((wI (4*a1))+3))).bind fun c4=>
   (C8 4 l2 [(((shl32 c1.toUInt32 24) ||| (shl32 c2.toUInt32 16)) ||| (shl32 c3.toUInt32 8)) ||| c4.toUInt32]).bind fun l4=>
   H9 a1 nx_f_ref02_part_l1 l4)
  (
   (BE l2 (wI (a1-15))).bind fun x1=>
   (BE l2 (wI (a1-2))).bind fun x2=>
   (BE l2 (wI (a1-16))).bind fun x3=>
   (CN x1 7).bind fun y1=>
   (CN x1 18).bind fun y2=>
   (BE l2 (wI (a1-7))).bind fun x4=>
   (CN x2 17).bind fun y3=>
   (CN x2 19).bind fun y4=>
   (C8 4 l2 [((x3+((y1 ^^^ y2) ^^^ (shr32 x1 3)))+x4)+((y3 ^^^ y4) ^^^ (shr32 x2 10))]).bind fun l5=>
   H9 a1 nx_f_ref02_part_l1 l5))
 (
  H8 n T p0 l2)
def Jz(n:Nat)(T:List UInt32)(p0:List UInt32)(p1:List UInt8):Nat→(List UInt32×Int)→Option (List UInt32):=CI fun nx x=>IU n T p0 p1 nx x.1 x.2
def NG(n:Nat)(T:List UInt32)(p0:List UInt32)(p1:List UInt8):Option (List UInt32):=
 Jz n T p0 p1 n ([],0)
theorem cz{n:Nat}{T p0 r:List UInt32}{Cn:Value}{p1:List UInt8}(h:NG n T p0 p1=some r)(hT:Jl K w0 2 64 T)(hs0_:By K w0 BV 1 Cn p0):zC K w0 271 [Cn,vS p1] [] H (fun u M=>∃v0:Value,u=v0∧M=[AD 36 1 v0 BV r]):=by
 unfold NG at h
 refine WN.enter Tryz.func271 rfl rfl ?_
 refine Y (CE 36 1 BV (U E (V (Y (CE 36 1 BV (U E (V ?_)))))))
 refine A8 (α:=List UInt32×Value) (fun x=>H8 n T p0 x.1=some r) (fun x=>[(0,Cn),(5,x.2)]) (fun x=>AD 36 1 x.2 BV x.1::H) ?_ (fun x D h=>?_)
 refine Y (U E (V (AN ?_)))
 refine SX.heap (SX.mono (BK (α:=Nat×List UInt32×Value×Int) (fun x=>Jz n T p0 p1 x.1 (x.2.1,x.2.2.2)=some r) (fun x=>[(0,Cn),(1,vS p1),(5,x.2.2.1),(6,vI x.2.2.2)]) (fun x=>AD 36 1 x.2.2.1 BV x.2.1::H) (fun x=>x.1) (fun x D h=>?_) (n,[],zN,0) h) tL) (BM [0] 2 E E E)
 obtain⟨m1,l2,v2,a1⟩:=x
 dsimp only at h
 rcases m1 with _ | m1
 cases (show(none:Option _)=some r from h)
 replace h:IU n T p0 p1 (Jz n T p0 p1 m1) l2 a1=some r:=h
 unfold IU at h
 try dsimp only
 refine AH (Y (J E (Z E A9 (V ?_))))
 refine AL h E (fun hc1 h=>?_) fun hc1 h=>?_
 refine AI (AJ ?_)
 refine A8 (α:=List UInt32×Value) (fun x=>H9 a1 (Jz n T p0 p1 m1) x.1=some r) (fun x=>[(0,Cn),(1,vS p1),(5,x.2),(6,vI a1)]) (fun x=>AD 36 1 x.2 BV x.1::H) ?_ (fun x D h=>?_)
 refine AN (AH (Y (J E (Z E A9 (V ?_)))))
 refine AL h E (fun hc2 h=>?_) fun hc2 h=>?_
 refine AH ?_
 refine AF h fun c1 hc1 h=>?_
 refine AF h fun c2 hc2 h=>?_
 refine AF h fun c3 hc3 h=>?_
 refine AF h fun c4 hc4 h=>?_
 refine AF h fun l4 hl4 h=>?_
 refine Ax Cz [] (Bs [(true,0),(true,1),(true,2),(true,3),(true,4),(true,5),(true,6),(true,7),(true,8),(true,9),(true,10),(true,11),(true,12),(true,13),(true,14),(true,15),(true,16),(true,17),(true,18),(true,19),(true,20),(true,21),(true,22),(true,23),(true,24),(true,25),(true,26),(true,27),(true,28),(true,29),(false,30)] (.last 31 (Pl.of [(false,32)]))) zK (J E (J E (J E (Z E PI (MN hc1 E Cu E E (BO E E (GP Dl CD) ?_))))))
 refine Z E (GT.shl32 (n:=24)) ?_
 refine J E (J E (Z E PI (Z E Bc (MN hc2 E Cu E E (BO E E (GP Dl CD) ?_)))))
 refine Z E (GT.shl32 (n:=16)) ?_
 refine Z E Fy (J E (J E (Z E PI (Z E Bc (MN hc3 E Cu E E (BO E E (GP Dl CD) ?_))))))
 refine Z E (GT.shl32 (n:=8)) ?_
 refine Z E Fy (J E (J E (Z E PI (Z E Bc (MN hc4 E Cu E E (BO E E (GP Dl CD) (Z E Fy ?_)))))))
 refine CA [_] E CT Bx H5 ⟨E,zT⟩ E E E zX E E zU fun b1=>?_
 refine B4 BV 1 ([(((shl32 c1.toUInt32 24) ||| (shl32 c2.toUInt32 16)) ||| (shl32 c3.toUInt32 8)) ||| c4.toUInt32]:List UInt32) E zV E ?_
 refine BU ?_
 refine Cr 1 hl4 (sz:=1) (enc:=BV) zV E CT Bx Sb H5 E zD E E E E (B8 (sz:=1) (enc:=BV) 0 zV E) (by simp[BV,Value.oneCell']) zU fun v4=>?_
 refine U E (V (A5 (BC (BB ?_))))
 exact Aq (l4,v4) h tL (BM [1] 2 E E E)
 refine AI (AJ (Y ?_))
 refine AF h fun x1 hx1 h=>?_
 refine J E (J E (Z E Dc ?_))
 refine B6 0 hx1 E CT Bx E E E fun g1 m2 cp1 hv1=>?_
 refine Bm E A4 E (Bq (sz:=1) (enc:=BV) 0 0 zV E hv1 hx1 E) ?_
 refine U E (V (Y ?_))
 refine AF h fun x2 hx2 h=>?_
 refine J E (J E (Z E Dc ?_))
 refine B6 0 hx2 E CT Bx E E E fun g2 m3 cp2 hv2=>?_
 refine Bm E A4 E (Bq (sz:=1) (enc:=BV) 0 0 zV E hv2 hx2 E) ?_
 refine U E (V ?_)
 refine AF h fun x3 hx3 h=>?_
 refine AF h fun y1 hy1 h=>?_
 refine AF h fun y2 hy2 h=>?_
 refine AF h fun x4 hx4 h=>?_
 refine AF h fun y3 hy3 h=>?_
 refine AF h fun y4 hy4 h=>?_
 refine AF h fun l5 hl5 h=>?_
 refine Ax Cz [0] (Bs [(true,0),(true,1),(true,2),(true,3),(true,4),(true,5),(true,6),(true,8),(true,11),(true,12),(true,15),(true,16),(true,17),(true,18),(true,19),(true,21),(true,23),(true,26),(true,27),(false,7),(false,9),(true,10),(true,13),(true,14),(true,20),(false,22),(false,24),(true,25),(true,28),(true,29),(false,30)] (.last 31 (Pl.of [(false,32)]))) zK (J E (J E (J E (Z E Dc ?_))))
 refine B6 0 hx3 E CT Bx E E E fun g3 m4 cp3 hv3=>?_
 refine Bm E A4 E (Bq (sz:=1) (enc:=BV) 0 0 zV E hv3 hx3 E) ?_
 refine J E (J E (J E ?_))
 refine Z E (GT.shr32 (n:=3)) ?_
 refine J E (J E (Z E Dc ?_))
 refine B6 0 hx4 E CT Bx E E E fun g4 m5 cp4 hv4=>?_
 refine Bm E A4 E (Bq (sz:=1) (enc:=BV) 0 0 zV E hv4 hx4 E) ?_
 refine J E (J E (J E ?_))
 refine Z E (GT.shr32 (n:=10)) ?_
 refine BS 0 Pp (FB hy1) E ⟨⟨0,E⟩,zT⟩ (BS 0 Pp (FB hy2) E ⟨⟨0,E⟩,zT⟩ (Z E Cw (Z E Cw (Z E B3 (Z E B3 (BS 0 Pp (FB hy3) E ⟨⟨0,E⟩,zT⟩ (BS 0 Pp (FB hy4) E ⟨⟨0,E⟩,zT⟩ ?_)))))))
 refine Z E Cw (Z E Cw (Z E B3 ?_))
 refine CA [_] E CT Bx H5 ⟨E,zT⟩ E E E zX E E (fun _=>⟨⟨1,E⟩,zT⟩) fun b2=>?_
 refine B4 BV 1 ([((x3+((y1 ^^^ y2) ^^^ (shr32 x1 3)))+x4)+((y3 ^^^ y4) ^^^ (shr32 x2 10))]:List UInt32) E zV E ?_
 refine BU ?_
 refine Cr 1 hl5 (sz:=1) (enc:=BV) zV E CT Bx Sb H5 E zD E E E E (B8 (sz:=1) (enc:=BV) 0 zV E) (by simp[BV,Value.oneCell']) zU fun v5=>?_
 refine U E (AZ (Av ?_))
 exact Aq (l5,v5) h tL (BM [1] 2 E E E)
 obtain⟨l3,v3⟩:=x
 dsimp only at h
 unfold H9 at h
 try dsimp only
 refine AM ?_
 obtain⟨x5,ex5,h⟩:=Bz h
 refine J E (Z E Bc ?_)
 refine Ay (u:=vI x5) E E (by rw[ex5]) ?_
 refine AZ ?_
 exact A1 (m1,l3,v3,x5) h (Nat.lt_succ_self _) tL (BM [0] 1 E E E)
 refine A5 (BC (Bb (BB ?_)))
 exact Aq (l2,v2) h tL (BM [0] 1 E E E)
 obtain⟨l1,v1⟩:=x
 dsimp only at h
 unfold H8 at h
 try dsimp only
 refine Y ?_
 refine AF h fun l6 hl6 h=>?_
 refine ew (n:=8) BV E CT Bx Sb H5 E E E E E zU fun v6=>?_
 refine J E ?_
 refine Px 0 hl6 hs0_ (sz:=1) (enc:=BV) zV E CT Bx Sb H5 E zD E E E (by simp[BV,Value.oneCell']) zU fun v7=>?_
 refine U E (V ?_)
 refine A8 (α:=List UInt32×Value) (fun x=>IA n p0 x.1=some r) (fun x=>[(0,Cn),(9,x.2)]) (fun x=>AD 36 1 x.2 BV x.1::H) ?_ (fun x D h=>?_)
 refine Y (U E (V (AN ?_)))
 refine SX.heap (SX.mono (BK (α:=Nat×List UInt32×Value×Int) (fun x=>Me n T p0 l1 x.1 (x.2.1,x.2.2.2)=some r) (fun x=>[(0,Cn),(5,v1),(9,x.2.2.1),(10,vI x.2.2.2)]) (fun x=>AD 36 1 v1 BV l1::AD 36 1 x.2.2.1 BV x.2.1::H) (fun x=>x.1) (fun x D h=>?_) (n,l6,v7,0) h) tL) (BM [1,0] 2 E E E)
 obtain⟨m6,l8,v9,a2⟩:=x
 dsimp only at h
 rcases m6 with _ | m6
 cases (show(none:Option _)=some r from h)
 replace h:IV n T p0 l1 (Me n T p0 l1 m6) l8 a2=some r:=h
 unfold IV at h
 try dsimp only
 refine AH (Y (J E (Z E A9 (V ?_))))
 refine AL h E (fun hc3 h=>?_) fun hc3 h=>?_
 refine AI (AJ (AH (AN (Y ?_))))
 refine AF h fun x6 hx6 h=>?_
 refine J E ?_
 refine B6 1 hx6 E CT Bx E E E fun g5 m7 cp5 hv5=>?_
 refine Bm E A4 E (Bq (sz:=1) (enc:=BV) 1 0 zV E hv5 hx6 E) ?_
 refine U E (V (Y ?_))
 refine AF h fun x7 hx7 h=>?_
 refine J E ?_
 refine B6 1 hx7 E CT Bx E E E fun g6 m8 cp6 hv6=>?_
 refine Bm E A4 E (Bq (sz:=1) (enc:=BV) 1 0 zV E hv6 hx7 E) ?_
 refine U E (V (AH ?_))
 refine AF h fun x8 hx8 h=>?_
 refine AF h fun y5 hy5 h=>?_
 refine AF h fun y6 hy6 h=>?_
 refine AF h fun y7 hy7 h=>?_
 refine AF h fun x9 hx9 h=>?_
 refine AF h fun x10 hx10 h=>?_
 refine AF h fun x11 hx11 h=>?_
 refine AF h fun x12 hx12 h=>?_
 obtain⟨x13,ex13,h⟩:=Bz h
 refine Ax Cz [0,1] (Bs [(true,0),(true,1),(true,2),(true,3),(true,5),(true,8),(true,12),(true,13),(true,14),(true,15),(true,16),(true,17),(true,18),(true,19),(true,20),(true,21),(true,22),(true,23),(true,25),(true,26),(true,27),(true,29),(true,30),(true,31),(true,32),(false,4),(false,6),(true,7),(false,9),(false,10),(false,11),(false,24),(false,28)] (.last 33 (Pl.of [(false,34)]))) zK (J E ?_)
 refine B6 1 hx8 E CT Bx E E E fun g7 m9 cp7 hv7=>?_
 refine Bm E A4 E (Bq (sz:=1) (enc:=BV) 1 0 zV E hv7 hx8 E) ?_
 refine J E (J E (J E (J E (J E ?_))))
 refine B6 1 hx9 E CT Bx E E E fun g8 m10 cp8 hv8=>?_
 refine Bm E A4 E (Bq (sz:=1) (enc:=BV) 1 0 zV E hv8 hx9 E) ?_
 refine Z E IF (J E (dP E E (J E ?_)))
 refine B6 1 hx10 E CT Bx E E E fun g9 m11 cp9 hv9=>?_
 refine Bm E A4 E (Bq (sz:=1) (enc:=BV) 1 0 zV E hv9 hx10 E) ?_
 refine Z E IF (Z E Cw (J E ?_))
 refine UQ (xs:=T) hx11 E Tv Bx E E hT.len ?_
 refine Bm E A4 E (wC hT hx11) (J E (J E ?_))
 refine B6 0 hx12 E CT Bx E E E fun g10 m12 cp10 hv10=>?_
 refine Bm E A4 E (Bq (sz:=1) (enc:=BV) 0 0 zV E hv10 hx12 E) ?_
 refine BS 0 Pp (FB hy5) E ⟨⟨0,E⟩,⟨1,E⟩,zT⟩ (BS 0 Pp (FB hy6) E ⟨⟨0,E⟩,⟨1,E⟩,zT⟩ (Z E Cw (BS 0 Pp (FB hy7) E ⟨⟨0,E⟩,⟨1,E⟩,zT⟩ (Z E Cw (Z E B3 (Z E B3 (Z E B3 (BU ?_))))))))
 refine Z E B3 ?_
 refine Ay (u:=AB x13) E E (by rw[ex13]) ?_
 refine V (AH ?_)
 refine AF h fun y8 hy8 h=>?_
 refine AF h fun y9 hy9 h=>?_
 refine AF h fun y10 hy10 h=>?_
 refine AF h fun x14 hx14 h=>?_
 refine AF h fun x15 hx15 h=>?_
 refine AF h fun x16 hx16 h=>?_
 refine AF h fun x17 hx17 h=>?_
 obtain⟨x18,ex18,h⟩:=Bz h
 refine Ax Cz [1] (Bs [(true,0),(true,2),(true,5),(true,8),(true,9),(true,10),(true,11),(true,12),(true,13),(true,14),(true,15),(true,16),(true,17),(true,18),(true,19),(true,20),(true,21),(true,22),(true,23),(true,24),(true,25),(true,26),(false,1),(false,3),(true,4),(false,6),(false,7)] (.last 27 (Pl.of [(false,28)]))) zK (J E (J E (J E (J E (J E ?_)))))
 refine B6 1 hx14 E CT Bx E E E fun g11 m13 cp11 hv11=>?_
 refine Bm E A4 E (Bq (sz:=1) (enc:=BV) 0 0 zV E hv11 hx14 E) ?_
 refine Z E IF (J E (J E ?_))
 refine B6 1 hx15 E CT Bx E E E fun g12 m14 cp12 hv12=>?_
 refine Bm E A4 E (Bq (sz:=1) (enc:=BV) 0 0 zV E hv12 hx15 E) ?_
 refine Z E IF (Z E Cw (J E ?_))
 refine B6 1 hx16 E CT Bx E E E fun g13 m15 cp13 hv13=>?_
 refine Bm E A4 E (Bq (sz:=1) (enc:=BV) 0 0 zV E hv13 hx16 E) ?_
 refine J E ?_
 refine B6 1 hx17 E CT Bx E E E fun g14 m16 cp14 hv14=>?_
 refine Bm E A4 E (Bq (sz:=1) (enc:=BV) 0 0 zV E hv14 hx17 E) ?_
 refine Z E IF (Z E Cw (BS 0 Pp (FB hy8) E ⟨⟨1,E⟩,zT⟩ (BS 0 Pp (FB hy9) E ⟨⟨1,E⟩,zT⟩ (Z E Cw (BS 0 Pp (FB hy10) E ⟨⟨1,E⟩,zT⟩ (Z E Cw (BU (Z E B3 ?_))))))))
 refine Ay (u:=AB x18) E E (by rw[ex18]) ?_
 refine V ?_
 refine AF h fun x19 hx19 h=>?_
 refine AF h fun x20 hx20 h=>?_
 refine AF h fun x21 hx21 h=>?_
 refine AF h fun x22 hx22 h=>?_
 refine AF h fun x23 hx23 h=>?_
 refine AF h fun x24 hx24 h=>?_
 refine AF h fun x25 hx25 h=>?_
 refine Ax Cz [1] (Bs (G4 0 26) (.last 26 (Pl.of [(false,27)]))) zK (J E (J E (Z E B3 (J E ?_))))
 refine B6 1 hx19 E CT Bx E E E fun g15 m17 cp15 hv15=>?_
 refine Bm E A4 E (Bq (sz:=1) (enc:=BV) 0 0 zV E hv15 hx19 E) ?_
 refine J E ?_
 refine B6 1 hx20 E CT Bx E E E fun g16 m18 cp16 hv16=>?_
 refine Bm E A4 E (Bq (sz:=1) (enc:=BV) 0 0 zV E hv16 hx20 E) ?_
 refine J E ?_
 refine B6 1 hx21 E CT Bx E E E fun g17 m19 cp17 hv17=>?_
 refine Bm E A4 E (Bq (sz:=1) (enc:=BV) 0 0 zV E hv17 hx21 E) ?_
 refine J E ?_
 refine B6 1 hx22 E CT Bx E E E fun g18 m20 cp18 hv18=>?_
 refine Bm E A4 E (Bq (sz:=1) (enc:=BV) 0 0 zV E hv18 hx22 E) ?_
 refine J E (Z E B3 (J E ?_))
 refine B6 1 hx23 E CT Bx E E E fun g19 m21 cp19 hv19=>?_
 refine Bm E A4 E (Bq (sz:=1) (enc:=BV) 0 0 zV E hv19 hx23 E) ?_
 refine J E ?_
 refine B6 1 hx24 E CT Bx E E E fun g20 m22 cp20 hv20=>?_
 refine Bm E A4 E (Bq (sz:=1) (enc:=BV) 0 0 zV E hv20 hx24 E) ?_
 refine J E ?_
 refine B6 1 hx25 E CT Bx E E E fun g21 m23 cp21 hv21=>?_
 refine Bm E A4 E (Bq (sz:=1) (enc:=BV) 0 0 zV E hv21 hx25 E) ?_
 refine BU ?_
 refine CA [_,_,_,_,_,_,_,_] E CT Bx H5 ⟨E,E,E,E,E,E,E,E,zT⟩ E E E zX E E zU fun b3=>?_
 refine B4 BV 1 ([x13+x18,x19,x20,x21,x22+x13,x23,x24,x25]:List UInt32) E zV E ?_
 refine U E (AZ (Av (AJ (AM ?_))))
 obtain⟨x26,ex26,h⟩:=Bz h
 refine J E (Z E Bc ?_)
 refine Ay (u:=vI x26) E E (by rw[ex26]) ?_
 refine AZ ?_
 exact A1 (m6,[x13+x18,x19,x20,x21,x22+x13,x23,x24,x25],.slice (some ⟨b3,0,none⟩) 8 8,x26) h (Nat.lt_succ_self _) tL (BM [1,0] 3 E E E)
 refine A5 (BC (Bb (BB ?_)))
 exact Aq (l8,v9) h tL (BM [1] 2 E E E)
 obtain⟨l7,v8⟩:=x
 dsimp only at h
 unfold IA at h
 try dsimp only
 refine A8 (α:=List UInt32×Value) (fun x=>Md x.1=some r) (fun x=>[(9,x.2)]) (fun x=>AD 36 1 x.2 BV x.1::H) ?_ (fun x D h=>?_)
 refine Y (U E (V (AN ?_)))
 refine SX.heap (SX.mono (BK (α:=Nat×List UInt32×Value×Int) (fun x=>Mf p0 x.1 (x.2.1,x.2.2.2)=some r) (fun x=>[(0,Cn),(9,x.2.2.1),(15,vI x.2.2.2)]) (fun x=>AD 36 1 x.2.2.1 BV x.2.1::H) (fun x=>x.1) (fun x D h=>?_) (n,l7,v8,0) h) tL) (BM [0] 1 E E E)
 obtain⟨m24,l10,v11,a3⟩:=x
 dsimp only at h
 rcases m24 with _ | m24
 cases (show(none:Option _)=some r from h)
 replace h:IW p0 (Mf p0 m24) l10 a3=some r:=h
 unfold IW at h
 try dsimp only
 refine AH (Y (J E (Z E A9 (V ?_))))
 refine AL h E (fun hc4 h=>?_) fun hc4 h=>?_
 refine AI (AJ (AH (AN ?_)))
 refine AF h fun x27 hx27 h=>?_
 refine AF h fun x28 hx28 h=>?_
 refine AF h fun x29 hx29 h=>?_
 refine AF h fun l11 hl11 h=>?_
 refine Ax Cz [0] (Bs (G4 0 12) (.last 12 .nil)) zK (J E (J E (J E (J E ?_))))
 refine B6 0 hx27 E CT Bx E E E fun g22 m25 cp22 hv22=>?_
 refine Bm E A4 E (Bq (sz:=1) (enc:=BV) 0 0 zV E hv22 hx27 E) ?_
 refine J E (J E ?_)
 refine Co hx28 hs0_ E CT Bx E E fun be1 of1 hc5=>?_
 refine Bm E A4 E (C5 (j:=0) hc5 E) ?_
 refine Z E B3 ?_
 refine B6 0 hx29 E CT Bx E E E fun g23 m26 cp23 hv23=>?_
 refine BU ?_
 refine II (sz:=1) (enc:=BV) 0 hl11 zV E E E E E hv23 Bx (by simp[Value.oneCell']) zT ?_
 refine AZ (Av (AJ (AM ?_)))
 obtain⟨x30,ex30,h⟩:=Bz h
 refine J E (Z E Bc ?_)
 refine Ay (u:=vI x30) E E (by rw[ex30]) ?_
 refine AZ ?_
 exact A1 (m24,l11,v11,x30) h (Nat.lt_succ_self _) tL (BM [0] 1 E E E)
 refine A5 (BC (Bb (BB ?_)))
 exact Aq (l10,v11) h tL (BM [0] 1 E E E)
 obtain⟨l9,v10⟩:=x
 dsimp only at h
 unfold Md at h
 try dsimp only
 refine Y (J E (U E (V (AK ?_))))
 obtain rfl:=zI h
 exact BH [0] 1 (Cx E E) E E ⟨v10,E,E⟩
def KY(p0:List UInt8)(a1:List UInt8):Option (List UInt8):=
 ret ((B9 (p0.length:Int))*8) fun x1=>
 (FG a1 [(shr64 x1 56).toUInt8,(shr64 x1 48).toUInt8,(shr64 x1 40).toUInt8,(shr64 x1 32).toUInt8,(shr64 x1 24).toUInt8,(shr64 x1 16).toUInt8,(shr64 x1 8).toUInt8,x1.toUInt8]).bind fun s3=>
 some s3
def G7(p0:List UInt8)(nx_f_ref02_Filled_l1:List UInt8→Option (List UInt8))(a2:List UInt8):Option (List UInt8):=
 (T8 (a2.length:Int) 64).bind fun q1=>
 cond (!decide (q1=56))
 (
  (FG a2 [0]).bind fun s2=>
  nx_f_ref02_Filled_l1 s2)
 (
  KY p0 a2)
def KZ(p0:List UInt8):Nat→List UInt8→Option (List UInt8):=CI fun nx x=>G7 p0 nx x
def Ku(n:Nat)(p0:List UInt8):Option (List UInt8):=
 (FG p0 [128]).bind fun s1=>
 KZ p0 n s1
theorem Zd{n:Nat}{p0 r:List UInt8}(h:Ku n p0=some r): zC K w0 269 [vS p0] [] H (fun u M=>u=vS r∧M=[]):=by
 unfold Ku at h
 refine WN.enter Tryz.func269 rfl rfl ?_
 refine Y (U E (V (Y ?_)))
 refine AF h fun s1 hs1 h=>?_
 refine J E (Z E (CX hs1) (U E (V ?_)))
 refine A8 (α:=List UInt8) (fun x=>KY p0 x=some r) (fun x=>[(0,vS p0),(3,vS x)]) (fun x=>H) ?_ (fun a1 D h=>?_)
 refine AN ?_
 refine SX.heap (SX.mono (BK (α:=Nat×List UInt8) (fun x=>KZ p0 x.1 x.2=some r) (fun x=>[(0,vS p0),(3,vS x.2)]) (fun x=>H) (fun x=>x.1) (fun x D h=>?_) (n,s1) h) tL) (BM [] 0 E E E)
 obtain⟨m1,a2⟩:=x
 dsimp only at h
 rcases m1 with _ | m1
 cases (show(none:Option _)=some r from h)
 replace h:G7 p0 (KZ p0 m1) a2=some r:=h
 unfold G7 at h
 try dsimp only
 refine AH (Y ?_)
 refine AF h fun q1 hq1 h=>?_
 refine J E (B7 E Cu E (Z E (SU hq1) (Z E BQ (V ?_))))
 refine AL h E (fun hc1 h=>?_) fun hc1 h=>?_
 refine AI (AJ (AN (AM ?_)))
 refine AF h fun s2 hs2 h=>?_
 refine J E (Z E (CX hs2) (U E (AZ (Av ?_))))
 exact A1 (m1,s2) h (Nat.lt_succ_self _) tL (BM [] 0 E E E)
 refine A5 (BC (Bb (BB ?_)))
 exact Aq a2 h tL (BM [] 0 E E E)
 unfold KY at h
 try dsimp only
 refine Y ?_
 obtain⟨x1,ex1,h⟩:=Bz h
 refine J E (B7 E Cu E (BO E E (Ee Im DH) ?_))
 refine Z E (Nn (b:=8)) ?_
 refine Ay (u:=Be x1) E E (by rw[ex1]) ?_
 refine V (Y ?_)
 refine AF h fun s3 hs3 h=>?_
 refine J E (J E ?_)
 refine Z E (GT.shr64 (n:=56)) ?_
 refine BO E E (GO DH Dl) (J E ?_)
 refine Z E (GT.shr64 (n:=48)) ?_
 refine BO E E (GO DH Dl) (J E ?_)
 refine Z E (GT.shr64 (n:=40)) ?_
 refine BO E E (GO DH Dl) (J E ?_)
 refine Z E (GT.shr64 (n:=32)) ?_
 refine BO E E (GO DH Dl) (J E ?_)
 refine Z E (GT.shr64 (n:=24)) ?_
 refine BO E E (GO DH Dl) (J E ?_)
 refine Z E (GT.shr64 (n:=16)) ?_
 refine BO E E (GO DH Dl) (J E ?_)
 refine Z E (GT.shr64 (n:=8)) ?_
 refine BO E E (GO DH Dl) (J E (BO E E (GO DH Dl) ?_))
 refine CA [_,_,_,_,_,_,_,_] E Cm LS ML ⟨E,E,E,E,E,E,E,E,zT⟩ E E E zX E E zU fun b1=>?_
 refine B4 Gb 1 ([(shr64 x1 56).toUInt8,(shr64 x1 48).toUInt8,(shr64 x1 40).toUInt8,(shr64 x1 32).toUInt8,(shr64 x1 24).toUInt8,(shr64 x1 16).toUInt8,(shr64 x1 8).toUInt8,x1.toUInt8]:List UInt8) E zV E ?_
 refine IH 0 E Cm Dl Cu E E (Z E (CX hs3) (U E (V (AK ?_))))
 obtain rfl:=zI h
 exact Ac [] 1 E E E
def Na(l3:List UInt8):Option (List UInt8):=
 some l3
def JL(l1:List UInt32)(nx_f_ref02_Sum_l2:List UInt8×Int→Option (List UInt8))(l4:List UInt8)(a2:Int):Option (List UInt8):=
 cond (decide (a2<8))
 (
  (BE l1 a2).bind fun x1=>
  (BE l1 a2).bind fun x2=>
  (BE l1 a2).bind fun x3=>
  (BE l1 a2).bind fun x4=>
  (C8 1 l4 [(shr32 x1 24).toUInt8,(shr32 x2 16).toUInt8,(shr32 x3 8).toUInt8,x4.toUInt8]).bind fun l5=>
  ret (wI (a2+1)) fun i_2=>
  nx_f_ref02_Sum_l2 (l5,i_2))
 (
  Na l4)
def Nc(l1:List UInt32):Nat→(List UInt8×Int)→Option (List UInt8):=CI fun nx x=>JL l1 nx x.1 x.2
def Kv(n:Nat)(l1:List UInt32):Option (List UInt8):=
 Nc l1 n ([],0)
def JK(n:Nat)(T:List UInt32)(y1:List UInt8)(nx_f_ref02_Sum_l1:List UInt32×Int→Option (List UInt8))(l2:List UInt32)(a1:Int):Option (List UInt8):=
 cond (decide (a1<(y1.length:Int)))
 (
  (Iu y1 a1 (wI (a1+64))).bind fun s1=>
  (NG n T l2 s1).bind fun y3=>
  ret (wI (a1+64)) fun i_1=>
  nx_f_ref02_Sum_l1 (y3,i_1))
 (
  Kv n l2)
def Nb(n:Nat)(T:List UInt32)(y1:List UInt8):Nat→(List UInt32×Int)→Option (List UInt8):=CI fun nx x=>JK n T y1 nx x.1 x.2
def Ka(n:Nat)(T:List UInt32)(p0:List UInt8):Option (List UInt8):=
 (Ku n p0).bind fun y1=>
 (Oa).bind fun y2=>
 Nb n T y1 n (y2,0)
theorem TD{n:Nat}{T:List UInt32}{p0 r:List UInt8}(h:Ka n T p0=some r)(hT:Jl K w0 2 64 T):zC K w0 250 [vS p0] [] H (fun u M=>u=vS r∧M=[]):=by
 unfold Ka at h
 refine WN.enter Tryz.func250 rfl rfl ?_
 refine Y (U E (V (Y ?_)))
 refine AF h fun y1 hy1 h=>?_
 refine J E (AQ 0 vG (Zd hy1) E (U E (V (Y ?_))))
 refine AF h fun y2 hy2 h=>?_
 refine BT (vs:=[]) (Hin:=[]) (Hr:=_) E E zT vH E E (ah hy2) ?_
 rintro v1 _ ⟨_,rfl,rfl⟩
 refine⟨trivial,?_⟩
 refine U E (V ?_)
 refine A8 (α:=List UInt32×Value) (fun x=>Kv n x.1=some r) (fun x=>[(4,x.2)]) (fun x=>AD 36 1 x.2 BV x.1::H) ?_ (fun x D h=>?_)
 refine Y (U E (V (AN ?_)))
 refine SX.heap (SX.mono (BK (α:=Nat×List UInt32×Value×Int) (fun x=>Nb n T y1 x.1 (x.2.1,x.2.2.2)=some r) (fun x=>[(3,vS y1),(4,x.2.2.1),(5,vI x.2.2.2)]) (fun x=>AD 36 1 x.2.2.1 BV x.2.1::H) (fun x=>x.1) (fun x D h=>?_) (n,y2,v1,0) h) tL) (BM [0] 1 E E E)
 obtain⟨m1,l2,v3,a1⟩:=x
 dsimp only at h
 rcases m1 with _ | m1
 cases (show(none:Option _)=some r from h)
 replace h:JK n T y1 (Nb n T y1 m1) l2 a1=some r:=h
 unfold JK at h
 try dsimp only
 refine AH (Y (J E (J E (B7 E Cu E (Z E A9 (V ?_))))))
 refine AL h E (fun hc1 h=>?_) fun hc1 h=>?_
 refine AI (AJ (AH (AN (AM ?_))))
 refine AF h fun s1 hs1 h=>?_
 refine AF h fun y3 hy3 h=>?_
 refine J E (J E (J E (J E (Z E Bc (tK hs1 E Cu E E E ?_)))))
 refine BT (vs:=[_,_]) (Hin:=[_]) (Hr:=_) E E ⟨E,E,zT⟩ vJ E E (CJ (B:=[_]) (Hin:=[]) fun K' w1 hk hB=>cz hy3 (hT.keeps hk) (Bp (e:=36) zV (hB _ zS))) ?_
 rintro v4 _ ⟨_,rfl,_,rfl,rfl⟩
 refine⟨trivial,?_⟩
 refine U E (AZ (Av (AJ (AM ?_))))
 obtain⟨i_1,ei_1,h⟩:=Bz h
 refine J E (Z E Bc ?_)
 refine Ay (u:=vI i_1) E E (by rw[ei_1]) ?_
 refine AZ ?_
 exact A1 (m1,y3,v4,i_1) h (Nat.lt_succ_self _) tL (BM [1] 2 E E E)
 refine A5 (BC (Bb (BB ?_)))
 exact Aq (l2,v3) h tL (BM [0] 1 E E E)
 obtain⟨l1,v2⟩:=x
 dsimp only at h
 unfold Kv at h
 try dsimp only
 refine Y (CE 5 1 Gb (U E (V ?_)))
 refine A8 (α:=List UInt8×Value) (fun x=>Na x.1=some r) (fun x=>[(6,x.2)]) (fun x=>AD 5 1 x.2 Gb x.1::H) ?_ (fun x D h=>?_)
 refine Y (U E (V (AN ?_)))
 refine SX.heap (SX.mono (BK (α:=Nat×List UInt8×Value×Int) (fun x=>Nc l1 x.1 (x.2.1,x.2.2.2)=some r) (fun x=>[(4,v2),(6,x.2.2.1),(7,vI x.2.2.2)]) (fun x=>AD 36 1 v2 BV l1::AD 5 1 x.2.2.1 Gb x.2.1::H) (fun x=>x.1) (fun x D h=>?_) (n,[],zN,0) h) tL) (BM [1,0] 2 E E E)
 obtain⟨m2,l4,v6,a2⟩:=x
 dsimp only at h
 rcases m2 with _ | m2
 cases (show(none:Option _)=some r from h)
 replace h:JL l1 (Nc l1 m2) l4 a2=some r:=h
 unfold JL at h
 try dsimp only
 refine AH (Y (J E (Z E A9 (V ?_))))
 refine AL h E (fun hc2 h=>?_) fun hc2 h=>?_
 refine AI (AJ (AH (AN ?_)))
 refine AF h fun x1 hx1 h=>?_
 refine AF h fun x2 hx2 h=>?_
 refine AF h fun x3 hx3 h=>?_
 refine AF h fun x4 hx4 h=>?_
 refine AF h fun l5 hl5 h=>?_
 refine Ax Cz [0] (Bs [(true,0),(true,1),(true,2),(true,3),(true,4),(true,5),(true,6),(true,7),(true,8),(true,9),(true,10),(true,11),(true,12),(true,13),(true,14),(true,15),(true,16),(true,17),(true,18),(true,19),(true,20),(true,21),(true,22),(true,23),(false,24)] (.last 25 (Pl.of [(false,26)]))) zK (J E (J E (J E ?_)))
 refine B6 0 hx1 E CT Bx E E E fun g1 m3 cp1 hv1=>?_
 refine Bm E A4 E (Bq (sz:=1) (enc:=BV) 0 0 zV E hv1 hx1 E) ?_
 refine Z E (GT.shr32 (n:=24)) ?_
 refine BO E E (DJ CD Dl) (J E (J E ?_))
 refine B6 0 hx2 E CT Bx E E E fun g2 m4 cp2 hv2=>?_
 refine Bm E A4 E (Bq (sz:=1) (enc:=BV) 0 0 zV E hv2 hx2 E) ?_
 refine Z E (GT.shr32 (n:=16)) ?_
 refine BO E E (DJ CD Dl) (J E (J E ?_))
 refine B6 0 hx3 E CT Bx E E E fun g3 m5 cp3 hv3=>?_
 refine Bm E A4 E (Bq (sz:=1) (enc:=BV) 0 0 zV E hv3 hx3 E) ?_
 refine Z E (GT.shr32 (n:=8)) ?_
 refine BO E E (DJ CD Dl) (J E (J E ?_))
 refine B6 0 hx4 E CT Bx E E E fun g4 m6 cp4 hv4=>?_
 refine Bm E A4 E (Bq (sz:=1) (enc:=BV) 0 0 zV E hv4 hx4 E) ?_
 refine BO E E (DJ CD Dl) ?_
 refine CA [_,_,_,_] E Cm LS ML ⟨E,E,E,E,zT⟩ E E E zX E E (fun _=>⟨⟨1,E⟩,zT⟩) fun b1=>?_
 refine B4 Gb 1 ([(shr32 x1 24).toUInt8,(shr32 x2 16).toUInt8,(shr32 x3 8).toUInt8,x4.toUInt8]:List UInt8) E zV E ?_
 refine BU ?_
 refine Cr 2 hl5 (sz:=1) (enc:=Gb) zV E Cm LS YM ML E zD E E E E (B8 (sz:=1) (enc:=Gb) 0 zV E) (by simp[Gb,Value.oneCell']) zU fun v7=>?_
 refine U E (AZ (Av (AJ (AM ?_))))
 obtain⟨i_2,ei_2,h⟩:=Bz h
 refine J E (Z E Bc ?_)
 refine Ay (u:=vI i_2) E E (by rw[ei_2]) ?_
 refine AZ ?_
 exact A1 (m2,l5,v7,i_2) h (Nat.lt_succ_self _) tL (BM [1,2] 3 E E E)
 refine A5 (BC (Bb (BB ?_)))
 exact Aq (l4,v6) h tL (BM [1] 2 E E E)
 obtain⟨l3,v5⟩:=x
 dsimp only at h
 unfold Na at h
 try dsimp only
 refine Y (J E (IH 0 E Cm Dl Cu E E (U E (V (AK ?_)))))
 obtain rfl:=zI h
 exact Ac [] 1 E E E
def ID(p1:UInt8)(l2:List UInt8)(a2:Int)(nx_f_ref03_part_l1:List UInt8×Int→Option (List UInt8))(a3:UInt8):Option (List UInt8):=
 (C8 1 l2 [a3 ^^^ p1]).bind fun l3=>
 ret (wI (a2+1)) fun i_1=>
 nx_f_ref03_part_l1 (l3,i_1)
def Mg(l1:List UInt8):Option (List UInt8):=
 some l1
def IX(p1:UInt8)(a1:List UInt8)(nx_f_ref03_part_l1:List UInt8×Int→Option (List UInt8))(l2:List UInt8)(a2:Int):Option (List UInt8):=
 cond (decide (a2<64))
 (
  cond (decide (a2<(a1.length:Int)))
  (
   (BE a1 a2).bind fun c1=>
   ID p1 l2 a2 nx_f_ref03_part_l1 c1)
  (
   ID p1 l2 a2 nx_f_ref03_part_l1 0))
 (
  Mg l2)
def J0(p1:UInt8)(a1:List UInt8):Nat→(List UInt8×Int)→Option (List UInt8):=CI fun nx x=>IX p1 a1 nx x.1 x.2
def IB(n:Nat)(p1:UInt8)(a1:List UInt8):Option (List UInt8):=
 J0 p1 a1 n ([],0)
def LG(n:Nat)(T:List UInt32)(p0:List UInt8)(p1:UInt8):Option (List UInt8):=
 cond (decide (64<(p0.length:Int)))
 (
  (Ka n T p0).bind fun y1=>
  IB n p1 y1)
 (
  IB n p1 p0)
theorem V0{n:Nat}{T:List UInt32}{p0 r:List UInt8}{p1:UInt8}(h:LG n T p0 p1=some r)(hT:Jl K w0 2 64 T):zC K w0 272 [vS p0,FE p1] [] H (fun u M=>u=vS r∧M=[]):=by
 unfold LG at h
 refine WN.enter Tryz.func272 rfl rfl ?_
 refine Y (U E (V ?_))
 refine A8 (α:=List UInt8) (fun x=>IB n p1 x=some r) (fun x=>[(0,vS x),(1,FE p1)]) (fun x=>H) ?_ (fun a1 D h=>?_)
 refine Y (J E (B7 E Cu E (Z E Cj (V ?_))))
 refine AL h E (fun hc1 h=>?_) fun hc1 h=>?_
 refine AM ?_
 refine AF h fun y1 hy1 h=>?_
 refine J E (AQ 0 fy (TD hy1 hT) E (U E (AZ ?_)))
 exact Aq y1 h tL (BM [] 0 E E E)
 refine AI ?_
 exact Aq p0 h tL (BM [] 0 E E E)
 unfold IB at h
 try dsimp only
 refine Y (CE 5 1 Gb (U E (V ?_)))
 refine A8 (α:=List UInt8×Value) (fun x=>Mg x.1=some r) (fun x=>[(5,x.2)]) (fun x=>AD 5 1 x.2 Gb x.1::H) ?_ (fun x D h=>?_)
 refine Y (U E (V (AN ?_)))
 refine SX.heap (SX.mono (BK (α:=Nat×List UInt8×Value×Int) (fun x=>J0 p1 a1 x.1 (x.2.1,x.2.2.2)=some r) (fun x=>[(0,vS a1),(1,FE p1),(5,x.2.2.1),(6,vI x.2.2.2)]) (fun x=>AD 5 1 x.2.2.1 Gb x.2.1::H) (fun x=>x.1) (fun x D h=>?_) (n,[],zN,0) h) tL) (BM [0] 1 E E E)
 obtain⟨m1,l2,v2,a2⟩:=x
 dsimp only at h
 rcases m1 with _ | m1
 cases (show(none:Option _)=some r from h)
 replace h:IX p1 a1 (J0 p1 a1 m1) l2 a2=some r:=h
 unfold IX at h
 try dsimp only
 refine AH (Y (J E (Z E A9 (V ?_))))
 refine AL h E (fun hc2 h=>?_) fun hc2 h=>?_
 refine AI (AJ (AH (AN (Y (U E (V ?_))))))
 refine A8 (α:=UInt8) (fun x=>ID p1 l2 a2 (J0 p1 a1 m1) x=some r) (fun x=>[(0,vS a1),(1,FE p1),(5,v2),(6,vI a2),(7,FE x)]) (fun x=>AD 5 1 v2 Gb l2::H) ?_ (fun a3 D h=>?_)
 refine Y (J E (J E (B7 E Cu E (Z E A9 (V ?_)))))
 refine AL h E (fun hc3 h=>?_) fun hc3 h=>?_
 refine AM ?_
 refine AF h fun c1 hc1 h=>?_
 refine J E (J E (MN hc1 E Cu E E (U E (AZ ?_))))
 exact Aq c1 h tL (BM [0] 1 E E E)
 refine AI ?_
 exact Aq 0 h tL (BM [0] 1 E E E)
 unfold ID at h
 try dsimp only
 refine AM ?_
 refine AF h fun l3 hl3 h=>?_
 refine J E (J E (J E (Z E VU ?_)))
 refine CA [_] E Cm LS ML ⟨E,zT⟩ E E E zX E E zU fun b1=>?_
 refine B4 Gb 1 ([a3 ^^^ p1]:List UInt8) E zV E ?_
 refine Cr 1 hl3 (sz:=1) (enc:=Gb) zV E Cm LS YM ML E zD E E E E (B8 (sz:=1) (enc:=Gb) 0 zV E) (by simp[Gb,Value.oneCell']) zU fun v3=>?_
 refine U E (AZ (Av (AJ (AM ?_))))
 obtain⟨i_1,ei_1,h⟩:=Bz h
 refine J E (Z E Bc ?_)
 refine Ay (u:=vI i_1) E E (by rw[ei_1]) ?_
 refine AZ ?_
 exact A1 (m1,l3,v3,i_1) h (Nat.lt_succ_self _) tL (BM [1] 2 E E E)
 refine A5 (BC (Bb (BB ?_)))
 exact Aq (l2,v2) h tL (BM [0] 1 E E E)
 obtain⟨l1,v1⟩:=x
 dsimp only at h
 unfold Mg at h
 try dsimp only
 refine Y (J E (IH 0 E Cm Dl Cu E E (U E (V (AK ?_)))))
 obtain rfl:=zI h
 exact Ac [] 1 E E E
def Ob(n:Nat)(T:List UInt32)(p0:List UInt8)(p1:List UInt8):Option (List (List UInt8)):=
 (LG n T p0 54).bind fun y1=>
 (FG y1 p1).bind fun s1=>
 (LG n T p0 92).bind fun y2=>
 (Ka n T s1).bind fun y3=>
 (FG y2 y3).bind fun s2=>
 some [s1,s2]
theorem ai{n:Nat}{T:List UInt32}{p0 p1:List UInt8}{r:List (List UInt8)}(h:Ob n T p0 p1=some r)(hT:Jl K w0 2 64 T):zC K w0 251 [vS p0,vS p1] [] H (fun u M=>∃v0:Value,u=v0∧M=[AD 9 1 v0 eS r]):=by
 unfold Ob at h
 refine WN.enter Tryz.func251 rfl rfl ?_
 refine Y (CE 9 1 eS (U E (V (Y ?_))))
 refine AF h fun y1 hy1 h=>?_
 refine AF h fun s1 hs1 h=>?_
 refine J E (AQ 0 nM (V0 hy1 hT) E (J E (Z E (CX hs1) (U E (V (Y ?_))))))
 refine AF h fun y2 hy2 h=>?_
 refine AF h fun y3 hy3 h=>?_
 refine AF h fun s2 hs2 h=>?_
 refine J E (J E (AQ 0 nM (V0 hy2 hT) E (J E (AQ 0 fy (TD hy3 hT) E (Z E (CX hs2) ?_)))))
 refine CA [_,_] E FX Il Vt ⟨E,E,zT⟩ E E E zX E E zU fun b1=>?_
 refine B4 eS 1 ([s1,s2]:List (List UInt8)) E zV E ?_
 refine U E (V (AK ?_))
 obtain rfl:=zI h
 exact BH [0] 2 (Cx E E) E E ⟨(.slice (some ⟨b1,0,none⟩) 2 2),E,E⟩
def Kd(n:Nat)(T:List UInt32)(p0:List UInt8)(p1:List UInt8):Option (List UInt8):=
 (Ob n T p0 p1).bind fun y1=>
 (BE y1 1).bind fun x1=>
 (Ka n T x1).bind fun y2=>
 some y2
theorem XR{n:Nat}{T:List UInt32}{p0 p1 r:List UInt8}(h:Kd n T p0 p1=some r)(hT:Jl K w0 2 64 T):zC K w0 217 [vS p0,vS p1] [] H (fun u M=>u=vS r∧M=[]):=by
 unfold Kd at h
 refine WN.enter Tryz.func217 rfl rfl ?_
 refine Y (U E (V (Y ?_)))
 refine AF h fun y1 hy1 h=>?_
 refine AF h fun x1 hx1 h=>?_
 refine AF h fun y2 hy2 h=>?_
 refine J E (J E ?_)
 refine BT (vs:=[_,_]) (Hin:=[]) (Hr:=_) E E ⟨E,E,zT⟩ u5 E E (ai hy1 hT) ?_
 rintro v1 _ ⟨_,rfl,rfl⟩
 refine⟨trivial,?_⟩
 refine B6 0 hx1 E FX Il E E E fun g1 m1 cp1 hv1=>?_
 refine Bm E HJ E (Bq (sz:=1) (enc:=eS) 0 0 zV E hv1 hx1 E) ?_
 refine AQ 0 fy (TD hy2 hT) E (U E (V (AK ?_)))
 obtain rfl:=zI h
 exact Ac [] 1 E E E
def Kb(p2:Int)(a1:List UInt8):Option (List UInt8×Int):=
 (Iu a1 0 p2).bind fun s4=>
 some (s4,0)
def G8(n:Nat)(T:List UInt32)(p0:List UInt8)(p1:List UInt8)(p2:Int)(nx_f_ref03_Expand_l1:List UInt8×List UInt8×Int→Option (List UInt8×Int))(a2:List UInt8)(a3:List UInt8)(a4:Int):Option (List UInt8×Int):=
 cond (decide ((a2.length:Int)<p2))
 (
  (FG a3 p1).bind fun s1=>
  (FG s1 [KJ a4]).bind fun s2=>
  (Kd n T p0 s2).bind fun y1=>
  (FG a2 y1).bind fun s3=>
  ret (wI (a4+1)) fun i_1=>
  nx_f_ref03_Expand_l1 (s3,y1,i_1))
 (
  Kb p2 a2)
def Kc(n:Nat)(T:List UInt32)(p0:List UInt8)(p1:List UInt8)(p2:Int):Nat→(List UInt8×List UInt8×Int)→Option (List UInt8×Int):=CI fun nx x=>G8 n T p0 p1 p2 nx x.1 x.2.1 x.2.2
def I1(n:Nat)(T:List UInt32)(p0:List UInt8)(p1:List UInt8)(p2:Int):Option (List UInt8×Int):=
 cond ((decide (p2<0))||(decide (8160<p2)))
 (
  some ([],2))
 (
  Kc n T p0 p1 p2 n ([],[],1))
theorem T2{n:Nat}{T:List UInt32}{p0 p1:List UInt8}{p2:Int}{r:List UInt8×Int}(h:I1 n T p0 p1 p2=some r)(hT:Jl K w0 2 64 T):zC K w0 249 [vS p0,vS p1,vI p2] [] H (fun u M=>u=.tuple #[vS r.1,vI r.2]∧M=[]):=by
 unfold I1 at h
 refine WN.enter Tryz.func249 rfl rfl ?_
 refine Y (U E (U E (V (AH (Y (J E (Z E A9 (J E ?_))))))))
 refine Dw (c:=decide (8160<p2)) 13 3 16 E (fun hb k=>?_) (fun hb k=>?_) ?_
 refine AC E (AC E (Ag E E E ?_))
 exact k.mono tL
 refine J E (Z E Cj (Ag E E E ?_))
 exact k.mono tL
 refine V ?_
 refine AL h E (fun hc1 h=>?_) fun hc1 h=>?_
 refine Y (U E (U E (V (AK (Aa ?_)))))
 obtain rfl:=zI h
 exact Ac [] 0 E E E
 refine AI (AJ (Y (U E (V (Y (U E (V ?_)))))))
 refine A8 (α:=List UInt8) (fun x=>Kb p2 x=some r) (fun x=>[(2,vI p2),(8,vS x)]) (fun x=>H) ?_ (fun a1 D h=>?_)
 refine Y (U E (V (AN ?_)))
 refine SX.heap (SX.mono (BK (α:=Nat×List UInt8×List UInt8×Int) (fun x=>Kc n T p0 p1 p2 x.1 (x.2.1,x.2.2.1,x.2.2.2)=some r) (fun x=>[(0,vS p0),(1,vS p1),(2,vI p2),(8,vS x.2.1),(9,vS x.2.2.1),(10,vI x.2.2.2)]) (fun x=>H) (fun x=>x.1) (fun x D h=>?_) (n,[],[],1) h) tL) (BM [] 0 E E E)
 obtain⟨m1,a2,a3,a4⟩:=x
 dsimp only at h
 rcases m1 with _ | m1
 cases (show(none:Option _)=some r from h)
 replace h:G8 n T p0 p1 p2 (Kc n T p0 p1 p2 m1) a2 a3 a4=some r:=h
 unfold G8 at h
 try dsimp only
 refine AH (Y (J E (B7 E Cu E (J E (Z E A9 (V ?_))))))
 refine AL h E (fun hc2 h=>?_) fun hc2 h=>?_
 refine AI (AJ (AH (AN (Y ?_))))
 refine AF h fun s1 hs1 h=>?_
 refine AF h fun s2 hs2 h=>?_
 refine AF h fun y1 hy1 h=>?_
 refine J E (J E (J E (Z E (CX hs1) (J E (BO E E (Sy Im Dl) ?_)))))
 refine CA [_] E Cm LS ML ⟨E,zT⟩ E E E zX E E zU fun b1=>?_
 refine B4 Gb 1 ([KJ a4]:List UInt8) E zV E ?_
 refine IH 0 E Cm Dl Cu E E (Z E (CX hs2) (AQ 0 nC (XR hy1 hT) E (U E (V (AM ?_)))))
 refine AF h fun s3 hs3 h=>?_
 refine J E (J E (Z E (CX hs3) (U E (AZ (Av (AJ (AM ?_)))))))
 obtain⟨i_1,ei_1,h⟩:=Bz h
 refine J E (Z E Bc ?_)
 refine Ay (u:=vI i_1) E E (by rw[ei_1]) ?_
 refine AZ ?_
 exact A1 (m1,s3,y1,i_1) h (Nat.lt_succ_self _) tL (BM [] 1 E E E)
 refine A5 (BC (Bb (BB ?_)))
 exact Aq a2 h tL (BM [] 0 E E E)
 unfold Kb at h
 try dsimp only
 refine Y ?_
 refine AF h fun s4 hs4 h=>?_
 refine J E (J E (pr hs4 E Cu E E (U E (U E (V (AK ?_))))))
 obtain rfl:=zI h
 exact Ac [] 0 E E E
end

section
variable {K:Nat→Prop}{w0:World}{H:List AX}
def LI(n:Nat)(T:List UInt32)(p0:BD):Option (List UInt8×List UInt8×Int):=
 (IZ n [p0]).bind fun y1=>
 cond (!y1)
 (
  some ([],[],40))
 (
  (FG [115,101,97,108] [p0.gen.toUInt8,(shr32 p0.gen 8).toUInt8,(shr32 p0.gen 16).toUInt8,(shr32 p0.gen 24).toUInt8]).bind fun s1=>
  (I1 n T p0.secret s1 32).bind fun y2=>
  (FG [98,105,110,100] [p0.gen.toUInt8,(shr32 p0.gen 8).toUInt8,(shr32 p0.gen 16).toUInt8,(shr32 p0.gen 24).toUInt8]).bind fun s2=>
  (I1 n T p0.secret s2 32).bind fun y3=>
  some (y2.1,y3.1,0))
theorem V4{n:Nat}{T:List UInt32}{p0:BD}{r:List UInt8×List UInt8×Int}(h:LI n T p0=some r)(hT:Jl K w0 2 64 T):zC K w0 216 [.agg (AU p0).toArray] [] H (fun u M=>u=.tuple #[vS r.1,vS r.2.1,vI r.2.2]∧M=[]):=by
 unfold LI at h
 refine WN.enter Tryz.func216 rfl rfl ?_
 refine Y ?_
 refine Bg E E zU fun b1=>?_
 refine U E (U E (U E (V (Y ?_))))
 refine AF h fun y1 hy1 h=>?_
 refine Aw [AB p0.gen,vS p0.secret] E Mw E E (Ap 0 E) ?_
 refine CA [_] E FW Fq KL ⟨E,zT⟩ E E E zX E E zU fun b2=>?_
 refine B4 AU 2 ([p0]:List BD) E zV E ?_
 refine BT (vs:=[_]) (Hin:=[_]) (Hr:=_::_) E E ⟨E,zT⟩ ky E E (CJ (B:=[_]) (Hin:=[]) fun K' w1 hk hB=>Q0 hy1 (Bp (e:=55) zV (hB _ zS))) ?_
 rintro _ _ ⟨_,rfl,rfl,rfl⟩
 refine⟨trivial,?_⟩
 refine U E (V (AH (Y (J E (CF E E (V ?_))))))
 refine AL h E (fun hc1 h=>?_) fun hc1 h=>?_
 refine Y (U E (U E (U E (V (AK (Aa ?_))))))
 obtain rfl:=zI h
 exact Ac [] 2 E E E
 refine AI (AJ (Y (AE E Gy (AG 1 A4 E (BO E E (DJ CD Dl) (AE E Gy (AG 1 A4 E ?_)))))))
 refine Z E (GT.shr32 (n:=8)) ?_
 refine BO E E (DJ CD Dl) (AE E Gy (AG 1 A4 E ?_))
 refine Z E (GT.shr32 (n:=16)) ?_
 refine BO E E (DJ CD Dl) (AE E Gy (AG 1 A4 E ?_))
 refine Z E (GT.shr32 (n:=24)) ?_
 refine BO E E (DJ CD Dl) ?_
 refine CA [_,_,_,_] E Cm LS ML ⟨E,E,E,E,zT⟩ E E E zX E E zU fun b3=>?_
 refine B4 Gb 1 ([p0.gen.toUInt8,(shr32 p0.gen 8).toUInt8,(shr32 p0.gen 16).toUInt8,(shr32 p0.gen 24).toUInt8]:List UInt8) E zV E ?_
 refine IH 0 E Cm Dl Cu E E (U E (V (Y ?_)))
 refine AF h fun s1 hs1 h=>?_
 refine AF h fun y2 hy2 h=>?_
 refine AE E TR (AG 2 HJ E (J E (Z E (CX hs1) (AQ 0 nI (T2 hy2 hT) E (J E (Ah E E E (Ah E E E ?_)))))))
 refine U E (U E (V (Y ?_)))
 refine AF h fun s2 hs2 h=>?_
 refine AF h fun y3 hy3 h=>?_
 refine AE E TR (AG 2 HJ E (J E (Z E (CX hs2) (AQ 0 nI (T2 hy3 hT) E (J E (Ah E E E (Ah E E E ?_)))))))
 refine U E (U E (V (Y (J E (J E (U E (U E (U E (V (AK ?_))))))))))
 obtain rfl:=zI h
 exact Ac [] 3 E E E
def Nd(a1:List UInt8):Option (List UInt8×Int):=
 some (a1,0)
def JM(nx_f_ref05_Pad_l1:List UInt8→Option (List UInt8×Int))(a2:List UInt8):Option (List UInt8×Int):=
 cond (decide ((a2.length:Int)<200))
 (
  (FG a2 [0]).bind fun s2=>
  nx_f_ref05_Pad_l1 s2)
 (
  Nd a2)
def Nf:Nat→List UInt8→Option (List UInt8×Int):=CI fun nx x=>JM  nx x
def Oc(n:Nat)(p0:List UInt8):Option (List UInt8×Int):=
 cond (decide (198<(p0.length:Int)))
 (
  some ([],50))
 (
  (WH (p0.length:Int) 256).bind fun q1=>
  (T8 (p0.length:Int) 256).bind fun q2=>
  (FG [KJ q1,KJ q2] p0).bind fun s1=>
  Nf n s1)
theorem fS{n:Nat}{p0:List UInt8}{r:List UInt8×Int}(h:Oc n p0=some r): zC K w0 214 [vS p0] [] H (fun u M=>u=.tuple #[vS r.1,vI r.2]∧M=[]):=by
 unfold Oc at h
 refine WN.enter Tryz.func214 rfl rfl ?_
 refine Y (U E (U E (V (AH (Y (J E (B7 E Cu E (Z E Cj (V ?_)))))))))
 refine AL h E (fun hc1 h=>?_) fun hc1 h=>?_
 refine Y (U E (U E (V (AK (Aa ?_)))))
 obtain rfl:=zI h
 exact Ac [] 0 E E E
 refine AI (AJ (Y ?_))
 refine AF h fun q1 hq1 h=>?_
 refine AF h fun q2 hq2 h=>?_
 refine AF h fun s1 hs1 h=>?_
 refine J E (B7 E Cu E (Z E (YB hq1) (BO E E (Sy Im Dl) (J E (B7 E Cu E (Z E (SU hq2) (BO E E (Sy Im Dl) ?_)))))))
 refine CA [_,_] E Cm LS ML ⟨E,E,zT⟩ E E E zX E E zU fun b1=>?_
 refine B4 Gb 1 ([KJ q1,KJ q2]:List UInt8) E zV E ?_
 refine IH 0 E Cm Dl Cu E E (J E (Z E (CX hs1) (U E (V ?_))))
 refine A8 (α:=List UInt8) (fun x=>Nd x=some r) (fun x=>[(4,vS x)]) (fun x=>H) ?_ (fun a1 D h=>?_)
 refine AN ?_
 refine SX.heap (SX.mono (BK (α:=Nat×List UInt8) (fun x=>Nf x.1 x.2=some r) (fun x=>[(4,vS x.2)]) (fun x=>H) (fun x=>x.1) (fun x D h=>?_) (n,s1) h) tL) (BM [] 1 E E E)
 obtain⟨m1,a2⟩:=x
 dsimp only at h
 rcases m1 with _ | m1
 cases (show(none:Option _)=some r from h)
 replace h:JM (Nf m1) a2=some r:=h
 unfold JM at h
 try dsimp only
 refine AH (Y (J E (B7 E Cu E (Z E A9 (V ?_)))))
 refine AL h E (fun hc2 h=>?_) fun hc2 h=>?_
 refine AI (AJ (AN (AM ?_)))
 refine AF h fun s2 hs2 h=>?_
 refine J E (Z E (CX hs2) (U E (AZ (Av ?_))))
 exact A1 (m1,s2) h (Nat.lt_succ_self _) tL (BM [] 0 E E E)
 refine A5 (BC (Bb (BB ?_)))
 exact Aq a2 h tL (BM [] 0 E E E)
 unfold Nd at h
 try dsimp only
 refine Y (J E (U E (U E (V (AK ?_)))))
 obtain rfl:=zI h
 exact Ac [] 0 E E E
def Ng(a1:List UInt8):Option (List UInt8):=
 some a1
def JN(p1:Int)(nx_f_ref06_put_l1:UInt64×List UInt8×Int→Option (List UInt8))(a2:UInt64)(a3:List UInt8)(a4:Int):Option (List UInt8):=
 cond (decide (a4<p1))
 (
  (FG a3 [a2.toUInt8]).bind fun s1=>
  (RM a2 256).bind fun q1=>
  ret (wI (a4+1)) fun i_1=>
  nx_f_ref06_put_l1 (q1,s1,i_1))
 (
  Ng a3)
def Nh(p1:Int):Nat→(UInt64×List UInt8×Int)→Option (List UInt8):=CI fun nx x=>JN p1 nx x.1 x.2.1 x.2.2
def EL(n:Nat)(p0:UInt64)(p1:Int):Option (List UInt8):=
 Nh p1 n (p0,[],0)
theorem MQ{n:Nat}{p0:UInt64}{p1:Int}{r:List UInt8}(h:EL n p0 p1=some r): zC K w0 268 [Be p0,vI p1] [] H (fun u M=>u=vS r∧M=[]):=by
 unfold EL at h
 refine WN.enter Tryz.func268 rfl rfl ?_
 refine Y (U E (V (Y (U E (V ?_)))))
 refine A8 (α:=List UInt8) (fun x=>Ng x=some r) (fun x=>[(5,vS x)]) (fun x=>H) ?_ (fun a1 D h=>?_)
 refine Y (U E (V (AN ?_)))
 refine SX.heap (SX.mono (BK (α:=Nat×UInt64×List UInt8×Int) (fun x=>Nh p1 x.1 (x.2.1,x.2.2.1,x.2.2.2)=some r) (fun x=>[(0,Be x.2.1),(1,vI p1),(5,vS x.2.2.1),(6,vI x.2.2.2)]) (fun x=>H) (fun x=>x.1) (fun x D h=>?_) (n,p0,[],0) h) tL) (BM [] 0 E E E)
 obtain⟨m1,a2,a3,a4⟩:=x
 dsimp only at h
 rcases m1 with _ | m1
 cases (show(none:Option _)=some r from h)
 replace h:JN p1 (Nh p1 m1) a2 a3 a4=some r:=h
 unfold JN at h
 try dsimp only
 refine AH (Y (J E (J E (Z E A9 (V ?_)))))
 refine AL h E (fun hc1 h=>?_) fun hc1 h=>?_
 refine AI (AJ (AH (AN (Y ?_))))
 refine AF h fun s1 hs1 h=>?_
 refine J E (J E (BO E E (GO DH Dl) ?_))
 refine CA [_] E Cm LS ML ⟨E,zT⟩ E E E zX E E zU fun b1=>?_
 refine B4 Gb 1 ([a2.toUInt8]:List UInt8) E zV E ?_
 refine IH 0 E Cm Dl Cu E E (Z E (CX hs1) (U E (V (AM ?_))))
 refine AF h fun q1 hq1 h=>?_
 refine J E ?_
 refine Z E (Pv (b:=256) hq1) ?_
 refine U E (AZ (Av (AJ (AM ?_))))
 obtain⟨i_1,ei_1,h⟩:=Bz h
 refine J E (Z E Bc ?_)
 refine Ay (u:=vI i_1) E E (by rw[ei_1]) ?_
 refine AZ ?_
 exact A1 (m1,q1,s1,i_1) h (Nat.lt_succ_self _) tL (BM [] 1 E E E)
 refine A5 (BC (Bb (BB ?_)))
 exact Aq a3 h tL (BM [] 0 E E E)
 unfold Ng at h
 try dsimp only
 refine Y (J E (U E (V (AK ?_))))
 obtain rfl:=zI h
 exact Ac [] 0 E E E
def Od(n:Nat)(p0:DX):Option (List UInt8):=
 (EL n p0.page.toUInt64 4).bind fun y1=>
 (EL n p0.gen.toUInt64 4).bind fun y2=>
 (FG y1 y2).bind fun s1=>
 (EL n p0.boot.toUInt64 4).bind fun y3=>
 (FG s1 y3).bind fun s2=>
 (EL n p0.seq 8).bind fun y4=>
 (FG s2 y4).bind fun s3=>
 (FG s3 [0,0,0,0]).bind fun s4=>
 some s4
theorem fT{n:Nat}{p0:DX}{r:List UInt8}(h:Od n p0=some r): zC K w0 248 [.agg (Lu p0).toArray] [] H (fun u M=>u=vS r∧M=[]):=by
 unfold Od at h
 refine WN.enter Tryz.func248 rfl rfl ?_
 refine Y ?_
 refine Bg E E zU fun b1=>?_
 refine U E (V (AH ?_))
 refine AF h fun y1 hy1 h=>?_
 refine AF h fun y2 hy2 h=>?_
 refine AF h fun s1 hs1 h=>?_
 refine AF h fun y3 hy3 h=>?_
 refine AF h fun s2 hs2 h=>?_
 refine AF h fun y4 hy4 h=>?_
 refine AF h fun s3 hs3 h=>?_
 refine AF h fun s4 hs4 h=>?_
 refine Ax Cz [0] (Bs [(true,0),(true,1),(true,2),(true,4),(true,5),(true,6),(true,9),(true,10),(true,11),(true,14),(true,15),(false,3),(false,7),(true,8),(false,12),(true,13),(false,16)] (.last 17 (Pl.of [(false,18),(false,19)]))) zK (AE E jX (AG 0 A4 E (BO E E (Ck CD DH) (AE E Xs (AG 0 A4 E (BO E E (Ck CD DH) (AE E bT ?_)))))))
 refine AG 0 A4 E (BO E E (Ck CD DH) (AE E bU (AG 0 Gl E (BS 0 Vd (MQ hy1) E ⟨⟨0,E⟩,zT⟩ (BS 0 Vd (MQ hy2) E ⟨⟨0,E⟩,zT⟩ (Z E (CX hs1) (BS 0 Vd (MQ hy3) E ⟨⟨0,E⟩,zT⟩ ?_)))))))
 refine Z E (CX hs2) (BS 0 Vd (MQ hy4) E ⟨⟨0,E⟩,zT⟩ (BU (Z E (CX hs3) (Z E (CX hs4) (U E (V (AK ?_)))))))
 obtain rfl:=zI h
 exact Ac [] 1 E E E
def L0(n:Nat)(p0:DX):Option (List UInt8):=
 (EL n p0.boot.toUInt64 4).bind fun y1=>
 (EL n p0.seq 8).bind fun y2=>
 (FG y1 y2).bind fun s1=>
 some s1
theorem ak{n:Nat}{p0:DX}{r:List UInt8}(h:L0 n p0=some r): zC K w0 247 [.agg (Lu p0).toArray] [] H (fun u M=>u=vS r∧M=[]):=by
 unfold L0 at h
 refine WN.enter Tryz.func247 rfl rfl ?_
 refine Y ?_
 refine Bg E E zU fun b1=>?_
 refine U E (V (AH ?_))
 refine AF h fun y1 hy1 h=>?_
 refine AF h fun y2 hy2 h=>?_
 refine AF h fun s1 hs1 h=>?_
 refine Ax Cz [0] (Bs [(true,0),(true,1),(true,2),(true,4),(true,5),(false,3)] (.last 6 (Pl.of [(false,7),(false,8)]))) zK (AE E bT (AG 0 A4 E (BO E E (Ck CD DH) (AE E bU (AG 0 Gl E (BS 0 Vd (MQ hy1) E ⟨⟨0,E⟩,zT⟩ (BU (AQ 0 Vd (MQ hy2) E ?_))))))))
 refine Z E (CX hs1) (U E (V (AK ?_)))
 obtain rfl:=zI h
 exact Ac [] 1 E E E
def Lz(n:Nat)(T:List UInt32)(p0:BD)(p1:DX)(p2:List UInt8):Option (List UInt8):=
 (LI n T p0).bind fun y1=>
 (L0 n p1).bind fun y2=>
 (OZ n y1.1 y2 p2).bind fun y3=>
 (Od n p1).bind fun y4=>
 (FG y4 y3.1).bind fun s1=>
 some s1
theorem aj{n:Nat}{T:List UInt32}{p0:BD}{p1:DX}{p2 r:List UInt8}(h:Lz n T p0 p1 p2=some r)(hT:Jl K w0 2 64 T):zC K w0 215 [.agg (AU p0).toArray,.agg (Lu p1).toArray,vS p2] [] H (fun u M=>u=vS r∧M=[]):=by
 unfold Lz at h
 refine WN.enter Tryz.func215 rfl rfl ?_
 refine Y ?_
 refine Bg E E zU fun b1=>?_
 refine Bg E E zU fun b2=>?_
 refine U E (V (Y ?_))
 refine AF h fun y1 hy1 h=>?_
 refine Aw [AB p0.gen,vS p0.secret] E Mw E E (Ap 1 E) (AQ 0 nB (V4 hy1 hT) E (J E (Ah E E E (Ah E E E (Ah E E E (U E (U E ?_)))))))
 refine U E (V (Y ?_))
 refine AF h fun y2 hy2 h=>?_
 refine AF h fun y3 hy3 h=>?_
 refine J E (Aw [AB p1.page,AB p1.gen,AB p1.boot,Be p1.seq] E WT E E (Ap 0 E) (AQ 0 u3 (ak hy2) E (J E (AQ 0 u2 (fR hy3) E (J E (Ah E E E (Ah E E E ?_)))))))
 refine U E (U E (V (Y ?_)))
 refine AF h fun y4 hy4 h=>?_
 refine AF h fun s1 hs1 h=>?_
 refine Aw [AB p1.page,AB p1.gen,AB p1.boot,Be p1.seq] E WT E E (Ap 0 E) (AQ 0 u4 (fT hy4) E (J E (Z E (CX hs1) (U E (V (AK ?_))))))
 obtain rfl:=zI h
 exact Ac [] 2 E E E
def NH(n:Nat)(T:List UInt32)(p0:List BD)(p1:DX)(p2:List UInt8):Option (List UInt8×Int):=
 (LH n p0 p1.gen).bind fun y1=>
 cond (!decide (y1.2=0))
 (
  some ([],y1.2))
 (
  (Oc n p2).bind fun y2=>
  cond (!decide (y2.2=0))
  (
   some ([],y2.2))
  (
   (Lz n T y1.1 p1 y2.1).bind fun y3=>
   (LI n T y1.1).bind fun y4=>
   (Kd n T y4.2.1 y3).bind fun y5=>
   (FG y3 y5).bind fun s1=>
   some (s1,0)))
theorem c8{n:Nat}{T:List UInt32}{Cn:Value}{p0:List BD}{p1:DX}{p2:List UInt8}{r:List UInt8×Int}(h:NH n T p0 p1 p2=some r)(hT:Jl K w0 2 64 T)(hs0_:By K w0 AU 2 Cn p0):zC K w0 188 [Cn,.agg (Lu p1).toArray,vS p2] [] H (fun u M=>u=.tuple #[vS r.1,vI r.2]∧M=[]):=by
 unfold NH at h
 refine WN.enter Tryz.func188 rfl rfl ?_
 refine Y ?_
 refine Bg E E zU fun b1=>?_
 refine U E (U E (V (Y ?_)))
 refine AF h fun y1 hy1 h=>?_
 refine J E (AE E Xs (AG 0 A4 E (AQ 0 qk (V3 hy1 hs0_) E (J E (Ah E E E (Ah E E E ?_))))))
 refine Au E KL zU fun b2=>?_
 refine A3 0 E E E E Fq E E E zT (U E (V (AH (Y (J E (Z E BQ (V ?_)))))))
 refine AL h E (fun hc1 h=>?_) fun hc1 h=>?_
 refine Y (J E (U E (U E (V (AK (Aa ?_))))))
 obtain rfl:=zI h
 exact Ac [] 2 E E E
 refine AI (AJ (Y ?_))
 refine AF h fun y2 hy2 h=>?_
 refine J E (AQ 0 uk (fS hy2) E (J E (Ah E E E (Ah E E E (U E (U E (V (AH (Y (J E ?_))))))))))
 refine Z E BQ (V ?_)
 refine AL h E (fun hc2 h=>?_) fun hc2 h=>?_
 refine Y (J E (U E (U E (V (AK (Aa ?_))))))
 obtain rfl:=zI h
 exact Ac [] 2 E E E
 refine AI (AJ (Y ?_))
 refine AF h fun y3 hy3 h=>?_
 refine Aw [AB y1.1.gen,vS y1.1.secret] E Mw E E (Ap 0 E) (Aw [AB p1.page,AB p1.gen,AB p1.boot,Be p1.seq] E WT E E (Ap 1 E) (J E (AQ 0 ul (aj hy3 hT) E (U E (V (Y ?_))))))
 refine AF h fun y4 hy4 h=>?_
 refine Aw [AB y1.1.gen,vS y1.1.secret] E Mw E E (Ap 0 E) (AQ 0 nB (V4 hy4 hT) E (J E (Ah E E E (Ah E E E (Ah E E E (U E (U E ?_)))))))
 refine U E (V (Y ?_))
 refine AF h fun y5 hy5 h=>?_
 refine AF h fun s1 hs1 h=>?_
 refine J E (J E (J E (AQ 0 nC (XR hy5 hT) E (Z E (CX hs1) (U E (U E (V (AK ?_))))))))
 obtain rfl:=zI h
 exact Ac [] 2 E E E
end

section
variable {K:Nat→Prop}{w0:World}{H:List AX}
def Ia(p0:A6)(p1:UInt32):Option Bool:=
 ret (decide (p1.toUInt64<B9 (p0.blk.length:Int))) fun x1=>
 some x1
theorem WX{Az:Nat}{As AW Al:Value}{p0:A6}{p1:UInt32}{r:Bool}(h:Ia p0 p1=some r): zC K w0 218 [vP Az 0,AB p1] [eO Az As AW Al p0,AD 9 1 As eS p0.blk,AD 9 1 AW eS p0.pnd,AD 4 1 Al eB p0.bads] H (fun u M=>u=vB r∧M=[eO Az As AW Al p0,AD 9 1 As eS p0.blk,AD 9 1 AW eS p0.pnd,AD 4 1 Al eB p0.bads]):=by
 unfold Ia at h
 refine WN.enter Tryz.func218 rfl rfl ?_
 refine Y (U E (V (Y ?_)))
 obtain⟨x1,ex1,h⟩:=Bz h
 refine J E (BO E E (Ck CD DH) (J E (AT E E (AE E Sk (AG 0 Rq E (DL 1 E FX E E (BO E E (Ee Im DH) ?_)))))))
 refine Z E VT ?_
 refine Ay (u:=vB x1) E E (congrArg vB ex1) ?_
 refine V (AK ?_)
 obtain rfl:=zI h
 exact Ac [0,1,2,3] 4 E E E
def Gd(o2:A6):Option (Int×A6):=
 some (0,o2)
def Gc(o1:A6):Option (Int×A6):=
 cond o1.off
 (
  some (71,o1))
 (
  cond (decide (0<o1.left))
  (
   Gd ({ o1 with left:=wI (o1.left-1) }))
  (
   Gd o1))
def E2(p0:A6):Option (Int×A6):=
 cond (decide (p0.left=0))
 (
  Gc ({ p0 with off:=true }))
 (
  Gc p0)
theorem KU{Az:Nat}{As AW Al:Value}{p0:A6}{r:Int×A6}(h:E2 p0=some r): zC K w0 87 [vP Az 0] [eO Az As AW Al p0,AD 9 1 As eS p0.blk,AD 9 1 AW eS p0.pnd,AD 4 1 Al eB p0.bads] H (fun u M=>u=vI r.1∧M=[eO Az As AW Al r.2,AD 9 1 As eS r.2.blk,AD 9 1 AW eS r.2.pnd,AD 4 1 Al eB r.2.bads]):=by
 unfold E2 at h
 refine WN.enter Tryz.func87 rfl rfl ?_
 refine Y (U E (V ?_))
 refine A8 (α:=A6) (fun x=>Gc x=some r) (fun x=>[(0,vP Az 0)]) (fun x=>eO Az As AW Al x::AD 9 1 As eS x.blk::AD 9 1 AW eS x.pnd::AD 4 1 Al eB x.bads::H) ?_ (fun o1 D h=>?_)
 refine Y (J E (AT E E (AE E Xm (AG 0 EF E (Z E Ba (V ?_))))))
 refine AL h E (fun hc1 h=>?_) fun hc1 h=>?_
 refine AM (J E (AT E E (AE E jQ (A3 0 E E E E Ql E E E zT (AZ ?_)))))
 exact Aq ({ p0 with off:=true }) h tL (BM [0,1,2,3] 4 rfl rfl rfl)
 refine AI ?_
 exact Aq p0 h tL (BM [0,1,2,3] 4 E E E)
 unfold Gc at h
 try dsimp only
 refine AH (Y (J E (AT E E (AE E jQ (AG 0 cR E (V ?_))))))
 refine AL h E (fun hc2 h=>?_) fun hc2 h=>?_
 refine Y (U E (V (AK (Aa ?_))))
 obtain rfl:=zI h
 exact Ac [0,1,2,3] 4 E E E
 refine AI (AJ ?_)
 refine A8 (α:=A6) (fun x=>Gd x=some r) (fun x=>[(0,vP Az 0)]) (fun x=>eO Az As AW Al x::AD 9 1 As eS x.blk::AD 9 1 AW eS x.pnd::AD 4 1 Al eB x.bads::H) ?_ (fun o2 D h=>?_)
 refine Y (J E (AT E E (AE E Xm (AG 0 EF E (Z E Cj (V ?_))))))
 refine AL h E (fun hc3 h=>?_) fun hc3 h=>?_
 refine AM (J E (AT E E (AE E Xm (AG 0 EF E (Z E Dc (AT E E (AE E Xm (A3 0 E E E E PB E E E zT (AZ ?_)))))))))
 exact Aq ({ o1 with left:=wI (o1.left-1) }) h tL (BM [0,1,2,3] 4 rfl rfl rfl)
 refine AI ?_
 exact Aq o1 h tL (BM [0,1,2,3] 4 E E E)
 unfold Gd at h
 try dsimp only
 refine Y (U E (V (AK ?_)))
 obtain rfl:=zI h
 exact Ac [0,1,2,3] 4 E E E
def Gr(y2:Int×A6)(o1:A6):Option (Int×A6):=
 some (y2.1,o1)
def EI(p0:A6)(p1:UInt32)(p2:List UInt8):Option (Int×A6):=
 (Ia p0 p1).bind fun y1=>
 cond ((!y1)||(!decide ((p2.length:Int)=256)))
 (
  some (2,p0))
 (
  (E2 p0).bind fun y2=>
  cond (decide (y2.1=0))
  (
   (BE y2.2.pnd (p1.toNat:Int)).bind fun x1=>
   (Mx y2.2.pnd (p1.toNat:Int) p2).bind fun l1=>
   Gr y2 ({ y2.2 with pnd:=l1 }))
  (
   Gr y2 y2.2))
theorem UC{Az:Nat}{As AW Al:Value}{p0:A6}{p1:UInt32}{p2:List UInt8}{r:Int×A6}(h:EI p0 p1 p2=some r): zC K w0 189 [vP Az 0,AB p1,vS p2] [eO Az As AW Al p0,AD 9 1 As eS p0.blk,AD 9 1 AW eS p0.pnd,AD 4 1 Al eB p0.bads] H (fun u M=>u=vI r.1∧M=[eO Az As AW Al r.2,AD 9 1 As eS r.2.blk,AD 9 1 AW eS r.2.pnd,AD 4 1 Al eB r.2.bads]):=by
 unfold EI at h
 refine WN.enter Tryz.func189 rfl rfl ?_
 refine Y (U E (V (AH (Y ?_))))
 refine AF h fun y1 hy1 h=>?_
 refine J E (J E (AQ 4 um (WX hy1) E (CF E E (J E ?_))))
 refine Dw (c := !decide ((p2.length:Int)=256)) 12 4 16 E (fun hb k=>?_) (fun hb k=>?_) ?_
 refine AC E (AC E (AC E (Ag E E E ?_)))
 exact k.mono tL
 refine J E (B7 E Cu E (Z E BQ (Ag E E E ?_)))
 exact k.mono tL
 refine V ?_
 refine AL h E (fun hc1 h=>?_) fun hc1 h=>?_
 refine Y (U E (V (AK (Aa ?_))))
 obtain rfl:=zI h
 exact Ac [0,1,2,3] 4 E E E
 refine AI (AJ (Y ?_))
 refine AF h fun y2 hy2 h=>?_
 refine J E (AQ 4 f8 (KU hy2) E (U E (V ?_)))
 refine A8 (α:=A6) (fun x=>Gr y2 x=some r) (fun x=>[(0,vP Az 0),(7,vI y2.1)]) (fun x=>eO Az As AW Al x::AD 9 1 As eS x.blk::AD 9 1 AW eS x.pnd::AD 4 1 Al eB x.bads::H) ?_ (fun o1 D h=>?_)
 refine Y (J E (Z E Ba (V ?_)))
 refine AL h E (fun hc2 h=>?_) fun hc2 h=>?_
 refine AM ?_
 refine AF h fun x1 hx1 h=>?_
 refine AF h fun l1 hl1 h=>?_
 refine J E (AT E E (AE E Sl (AG 0 Rq E (J E (J E ?_)))))
 refine B6 2 hx1 E FX Il E E E fun g1 m1 cp1 hv1=>?_
 refine II (sz:=1) (enc:=eS) 2 hl1 zV rfl rfl rfl rfl rfl hv1 Il (by first | (simp[Value.oneCell'];done) | simp[eS,Value.oneCell']) trivial ?_
 refine AZ ?_
 exact Aq ({ y2.2 with pnd:=l1 }) h tL (BM [0,1,2,3] 4 rfl rfl rfl)
 refine AI ?_
 exact Aq y2.2 h tL (BM [0,1,2,3] 4 E E E)
 unfold Gr at h
 try dsimp only
 refine Y (J E (U E (V (AK ?_))))
 obtain rfl:=zI h
 exact Ac [0,1,2,3] 4 E E E
def E7(n:Nat)(T:List UInt32)(p0:BW)(p0_1:A6)(p1:UInt32)(p2:List UInt8):Option (List UInt8×Int×BW×A6):=
 (NH n T p0.ring (⟨p1,p0.gen,p0.boot,p0.num⟩:DX) p2).bind fun y1=>
 cond (!decide (y1.2=0))
 (
  some ([],y1.2,p0,p0_1))
 (
  (EI p0_1 p1 y1.1).bind fun y2=>
  cond (!decide (y2.1=0))
  (
   some ([],y2.1,{ p0 with num:=p0.num+1 },y2.2))
  (
   (Iu y1.1 224 (y1.1.length:Int)).bind fun s1=>
   some (s1,0,{ p0 with num:=p0.num+1 },y2.2)))
theorem Pz{n Az BG:Nat}{T:List UInt32}{AW BA CS BX Cg:Value}{p0:BW}{p0_1:A6}{p1:UInt32}{p2:List UInt8}{r:List UInt8×Int×BW×A6}(h:E7 n T p0 p0_1 p1 p2=some r)(hT:Jl K w0 2 64 T):zC K w0 163 [vP Az 0,AB p1,vS p2] [wO Az BG AW BA p0,AD 55 2 AW AU p0.ring,AD 4 1 BA eB p0.taken,eO BG CS BX Cg p0_1,AD 9 1 CS eS p0_1.blk,AD 9 1 BX eS p0_1.pnd,AD 4 1 Cg eB p0_1.bads] H (fun u M=>u=.tuple #[vS r.1,vI r.2.1]∧M=[wO Az BG AW BA r.2.2.1,AD 55 2 AW AU r.2.2.1.ring,AD 4 1 BA eB r.2.2.1.taken,eO BG CS BX Cg r.2.2.2,AD 9 1 CS eS r.2.2.2.blk,AD 9 1 BX eS r.2.2.2.pnd,AD 4 1 Cg eB r.2.2.2.bads]):=by
 unfold E7 at h
 refine WN.enter Tryz.func163 rfl rfl ?_
 refine Y (U E (U E (V (AH ?_))))
 refine AF h fun y1 hy1 h=>?_
 refine Ax Cz [0] (Bs [(true,0),(true,1),(true,2),(true,3),(true,4),(true,5),(true,6),(true,7),(true,8),(true,9),(true,10),(true,11),(true,12),(true,13),(true,14),(true,15),(true,16),(true,17),(true,18),(false,19),(false,20),(true,21),(true,22),(false,23)] (.last 24 .nil)) zK (J E (AT E E (AE E rG (AG 0 ZU E (J E (J E (AT E E ?_)))))))
 refine AE E bQ (AG 0 A4 E (J E (AT E E (AE E rH (AG 0 A4 E (J E (AT E E ?_)))))))
 refine AE E bR (AG 0 Gl E (B5 [_,_,_,_] E rk rj mJ ⟨E,E,E,E,zT⟩ E (J E (SL.pick [1,0] 2 ?_))))
 refine BT (vs:=[_,_,_]) (Hin:=[_]) (Hr:=_::_::_::_::_::_::_) E E ⟨E,E,E,zT⟩ uS E E (CJ (B:=[_]) (Hin:=[]) fun K' w1 hk hB=>(c8 hy1 (hT.keeps hk) (Bp (e:=55) (v:=AW) zV (hB _ zS)) :)) ?_
 rintro _ _ ⟨_,rfl,rfl,rfl⟩
 refine⟨⟨⟨1,rfl⟩,trivial⟩,?_⟩
 refine J E (Ah E E E (Ah E E E (U E (BU (U E (V (AH (Y (J E (Z E BQ (V ?_)))))))))))
 refine AL h E (fun hc1 h=>?_) fun hc1 h=>?_
 refine Y (J E (U E (U E (V (AK (Aa ?_))))))
 obtain rfl:=zI h
 exact Ac [1,0,2,3,4,5,6] 7 E E E
 refine AI (AJ (Y (J E (AT E E (AE E bR (AG 1 Gl E ?_))))))
 refine Z E (HV (b:=1)) ?_
 refine AT E E (AE E bR (A3 1 E E E E nw E E E zT (V (Y ?_))))
 refine AF h fun y2 hy2 h=>?_
 refine J E (AT E E (AE E Sm (AG 1 eW E (J E (J E (SL.pick [3,4,5,6,0,1,2] 7 (AQ 4 uT (UC hy2) E ?_)))))))
 refine U E (V (AH (Y (J E (Z E BQ (V ?_))))))
 refine AL h E (fun hc2 h=>?_) fun hc2 h=>?_
 refine Y (J E (U E (U E (V (AK (Aa ?_))))))
 obtain rfl:=zI h
 exact Ac [5,4,6,0,1,2,3] 7 E E E
 refine AI (AJ (Y ?_))
 refine AF h fun s1 hs1 h=>?_
 refine J E (pu hs1 E Cu E E (U E (U E (V (AK ?_)))))
 obtain rfl:=zI h
 exact Ac [5,4,6,0,1,2,3] 7 E E E
def Fz(o1:BW)(o2:A6)(y1:UInt32)(y2:List UInt8):Option (BR×Int×BW×A6):=
 some ((⟨0,[]⟩:BR),110,o1,o2)
def DB(n:Nat)(T:List UInt32)(p1:List UInt8)(nx_f_ref13_Vault_Write_l1:BW×A6×UInt32×List UInt8×Int→Option (BR×Int×BW×A6))(o3:BW)(o4:A6)(y3:UInt32)(y4:List UInt8)(a1:Int):Option (BR×Int×BW×A6):=
 cond (decide (a1<(o3.taken.length:Int)))
 (
  (BE o3.taken a1).bind fun x1=>
  cond x1
  (
   ret (wI (a1+1)) fun p_1=>
   nx_f_ref13_Vault_Write_l1 (o3,o4,y3,y4,p_1))
  (
   (E7 n T o3 o4 (De a1) p1).bind fun y5=>
   cond (!decide (y5.2.1=0))
   (
    some ((⟨0,[]⟩:BR),y5.2.1,y5.2.2.1,y5.2.2.2))
   (
    (BE y5.2.2.1.taken a1).bind fun x2=>
    (Mx y5.2.2.1.taken a1 true).bind fun l1=>
    some ((⟨De a1,y5.1⟩:BR),0,{ y5.2.2.1 with taken:=l1 },y5.2.2.2))))
 (
  Fz o3 o4 y3 y4)
def CZ(n:Nat)(T:List UInt32)(p1:List UInt8):Nat→(BW×A6×UInt32×List UInt8×Int)→Option (BR×Int×BW×A6):=CI fun nx x=>DB n T p1 nx x.1 x.2.1 x.2.2.1 x.2.2.2.1 x.2.2.2.2
def HC(n:Nat)(T:List UInt32)(p0:BW)(p0_1:A6)(p1:List UInt8):Option (BR×Int×BW×A6):=
 cond (decide (198<(p1.length:Int)))
 (
  some ((⟨0,[]⟩:BR),50,p0,p0_1))
 (
  CZ n T p1 n (p0,p0_1,0,[],2))
theorem Uf{n Az BG:Nat}{T:List UInt32}{AW BA CS BX Cg:Value}{p0:BW}{p0_1:A6}{p1:List UInt8}{r:BR×Int×BW×A6}(h:HC n T p0 p0_1 p1=some r)(hT:Jl K w0 2 64 T):zC K w0 186 [vP Az 0,vS p1] [wO Az BG AW BA p0,AD 55 2 AW AU p0.ring,AD 4 1 BA eB p0.taken,eO BG CS BX Cg p0_1,AD 9 1 CS eS p0_1.blk,AD 9 1 BX eS p0_1.pnd,AD 4 1 Cg eB p0_1.bads] H (fun u M=>u=.tuple #[.agg (Bd r.1).toArray,vI r.2.1]∧M=[wO Az BG AW BA r.2.2.1,AD 55 2 AW AU r.2.2.1.ring,AD 4 1 BA eB r.2.2.1.taken,eO BG CS BX Cg r.2.2.2,AD 9 1 CS eS r.2.2.2.blk,AD 9 1 BX eS r.2.2.2.pnd,AD 4 1 Cg eB r.2.2.2.bads]):=by
 unfold HC at h
 refine WN.enter Tryz.func186 rfl rfl ?_
 refine Y ?_
 refine Au E FU zU fun b1=>?_
 refine U E (V (AH (Y (J E (B7 E Cu E (Z E Cj (V ?_)))))))
 refine AL h E (fun hc1 h=>?_) fun hc1 h=>?_
 refine Y (B5 [] E Oy Ox FU zT E (A3 0 E E E E EZ E E E zT (U E (V (AK (Aa ?_))))))
 obtain rfl:=zI h
 exact An (FA E (B2 0 (Bd (⟨0,[]⟩:BR)) DC E E E E) E) (Ao (M:=[_,_,_,_,_,_,_]) ⟨E,E⟩ fun _ hw=>Bj.pick (H:=[_,_,_,_,_,_,_,_]) hw [1,2,3,4,5,6,7] 8 E)
 refine AI (AJ ?_)
 refine A8 (α:=BW×A6×UInt32×List UInt8) (fun x=>Fz x.1 x.2.1 x.2.2.1 x.2.2.2=some r) (fun x=>[(0,vP Az 0),(4,vP b1 0)]) (fun x=>wO Az BG AW BA x.1::eO BG CS BX Cg x.2.1::AD 9 1 CS eS x.2.1.blk::AD 9 1 BX eS x.2.1.pnd::AD 4 1 Cg eB x.2.1.bads::AD 55 2 AW AU x.1.ring::AD 4 1 BA eB x.1.taken::own b1 (.cells #[AB x.2.2.1,vS x.2.2.2] 146)::H) ?_ (fun x D h=>?_)
 refine Y (U E (V (AN ?_)))
 refine SX.heap (SX.mono (BK (α:=Nat×BW×A6×UInt32×List UInt8×Int) (fun x=>CZ n T p1 x.1 (x.2.1,x.2.2.1,x.2.2.2.1,x.2.2.2.2.1,x.2.2.2.2.2)=some r) (fun x=>[(0,vP Az 0),(1,vS p1),(4,vP b1 0),(6,vI x.2.2.2.2.2)]) (fun x=>wO Az BG AW BA x.2.1::eO BG CS BX Cg x.2.2.1::AD 9 1 CS eS x.2.2.1.blk::AD 9 1 BX eS x.2.2.1.pnd::AD 4 1 Cg eB x.2.2.1.bads::AD 55 2 AW AU x.2.1.ring::AD 4 1 BA eB x.2.1.taken::own b1 (.cells #[AB x.2.2.2.1,vS x.2.2.2.2.1] 146)::H) (fun x=>x.1) (fun x D h=>?_) (n,p0,p0_1,0,[],2) h) tL) (BM [1,4,5,6,7,2,3,0] 8 E E E)
 obtain⟨m1,o3,o4,y3,y4,a1⟩:=x
 dsimp only at h
 rcases m1 with _ | m1
 cases (show(none:Option _)=some r from h)
 replace h:DB n T p1 (CZ n T p1 m1) o3 o4 y3 y4 a1=some r:=h
 unfold DB at h
 try dsimp only
 refine AH (Y (J E (J E (AT E E (AE E P5 (AG 0 Tn E (DL 6 E RT E E (Z E A9 (V ?_)))))))))
 refine AL h E (fun hc2 h=>?_) fun hc2 h=>?_
 refine AI (AJ (AH (AN (AH (Y ?_)))))
 refine AF h fun x1 hx1 h=>?_
 refine J E (AT E E (AE E P5 (AG 0 Tn E (J E ?_))))
 refine B6 6 hx1 E RT Ql E E E fun g1 m2 cp1 hv1=>?_
 refine Bm E cR E (Bq (sz:=1) (enc:=eB) 6 0 zV E hv1 hx1 E) ?_
 refine V ?_
 refine AL h E (fun hc3 h=>?_) fun hc3 h=>?_
 refine A5 (BC (BB (AJ (AM ?_))))
 obtain⟨p_1,ep_1,h⟩:=Bz h
 refine J E (Z E Bc ?_)
 refine Ay (u:=vI p_1) E E (congrArg vI ep_1) ?_
 refine AZ ?_
 exact A1 (m1,o3,o4,y3,y4,p_1) h (Nat.lt_succ_self _) tL (BM [0,1,2,3,4,5,6,7] 8 E E E)
 refine AI (AJ (Y ?_))
 refine AF h fun y5 hy5 h=>?_
 refine J E (J E (BO E E (Pw Im CD) (J E (SL.pick [0,5,6,1,2,3,4] 7 (AQ 7 mu (Pz hy5 hT) E (J E (Ah E E E ?_)))))))
 refine Ah E E E (U E (U E (V (AH (Y (J E (Z E BQ (V ?_))))))))
 refine AL h E (fun hc4 h=>?_) fun hc4 h=>?_
 refine Y (B5 [] E Oy Ox FU zT E (J E (A3 7 E E E E EZ E E E zT (U E (V (AK (Aa (BI (Aa (EX (BI (FY ?_))))))))))))
 obtain rfl:=zI h
 exact An (FA E (B2 7 (Bd (⟨0,[]⟩:BR)) DC E E E E) E) (Ao (M:=[_,_,_,_,_,_,_]) ⟨E,E⟩ fun _ hw=>Bj.pick (H:=[_,_,_,_,_,_,_,_]) hw [0,1,2,3,4,5,6] 8 E)
 refine AI (AJ (Y ?_))
 refine AF h fun x2 hx2 h=>?_
 refine AF h fun l1 hl1 h=>?_
 refine J E (AT E E (AE E P5 (AG 0 Tn E (J E ?_))))
 refine B6 2 hx2 E RT Ql E E E fun g2 m3 cp2 hv2=>?_
 refine II (sz:=1) (enc:=eB) 2 hl1 zV rfl rfl rfl rfl rfl hv2 Ql (by first | (simp[Value.oneCell'];done) | simp[eB,Value.oneCell']) trivial ?_
 refine V (Y (J E (BO E E (Pw Im CD) (J E (B5 [_,_] E Oy Ox FU ⟨E,E,zT⟩ E (A3 7 E E E E EZ E E E zT (U E (V (AK (BI (Aa (EX (BI (FY ?_))))))))))))))
 obtain rfl:=zI h
 exact An (FA E (B2 7 (Bd (⟨De a1,y5.1⟩:BR)) DC E E E E) E) (Ao (M:=[_,_,_,_,_,_,_]) ⟨E,E⟩ fun _ hw=>Bj.pick (H:=[_,_,_,_,_,_,_,_]) hw [0,1,2,3,4,5,6] 8 E)
 refine A5 (BC (Bb (BB ?_)))
 exact Aq (o3,o4,y3,y4) h tL (BM [0,1,2,3,4,5,6,7] 8 E E E)
 obtain⟨o1,o2,y1,y2⟩:=x
 dsimp only at h
 unfold Fz at h
 try dsimp only
 refine Y (B5 [] E Oy Ox FU zT E (A3 7 E E E E EZ E E E zT (U E (V (AK ?_)))))
 obtain rfl:=zI h
 exact An (FA E (B2 7 (Bd (⟨0,[]⟩:BR)) DC E E E E) E) (Ao (M:=[_,_,_,_,_,_,_]) ⟨E,E⟩ fun _ hw=>Bj.pick (H:=[_,_,_,_,_,_,_,_]) hw [0,5,6,1,2,3,4] 8 E)
def GR(p0:BW)(p0_1:A6)(p1:UInt32):Option (Int×BW):=
 (Tc ((decide (p1<2))||(decide (B9 (p0.taken.length:Int)≤p1.toUInt64))) ((BE p0.taken (p1.toNat:Int)).bind fun x1=>some (!x1))).bind fun y1=>
 cond y1
 (
  some (2,p0))
 (
  (BE p0.taken (p1.toNat:Int)).bind fun x2=>
  (Mx p0.taken (p1.toNat:Int) false).bind fun l1=>
  some (0,{ p0 with taken:=l1 }))
theorem QX{Az BG:Nat}{AW BA CS BX Cg:Value}{p0:BW}{p0_1:A6}{p1:UInt32}{r:Int×BW}(h:GR p0 p0_1 p1=some r): zC K w0 126 [vP Az 0,AB p1] [wO Az BG AW BA p0,AD 55 2 AW AU p0.ring,AD 4 1 BA eB p0.taken,eO BG CS BX Cg p0_1,AD 9 1 CS eS p0_1.blk,AD 9 1 BX eS p0_1.pnd,AD 4 1 Cg eB p0_1.bads] H (fun u M=>u=vI r.1∧M=[wO Az BG AW BA r.2,AD 55 2 AW AU r.2.ring,AD 4 1 BA eB r.2.taken,eO BG CS BX Cg p0_1,AD 9 1 CS eS p0_1.blk,AD 9 1 BX eS p0_1.pnd,AD 4 1 Cg eB p0_1.bads]):=by
 unfold GR at h
 refine WN.enter Tryz.func126 rfl rfl ?_
 refine Y (U E (V (AH (Y ?_))))
 refine AF h fun y1 hy1 h=>?_
 refine J E ?_
 refine Z E (N4 (b:=2)) ?_
 refine J E ?_
 refine Dw (c:=decide (B9 (p0.taken.length:Int)≤p1.toUInt64)) 7 10 17 E (fun hb k=>?_) (fun hb k=>?_) ?_
 refine AC E (AC E (AC E (AC E (AC E (AC E (AC E (AC E ?_)))))))
 refine AC E (Ag E E E ?_)
 exact k.mono tL
 refine J E (BO E E (Ck CD DH) (J E (AT E E (AE E P5 (AG 0 Tn E (DL 2 E RT E E (BO E E (Ee Im DH) ?_)))))))
 refine Z E PF (Ag E E E ?_)
 exact k.mono tL
 refine J E ?_
 refine Pi 18 9 27 hy1 E (fun hb k=>?_) (fun hb hg2 k=>?_) ?_
 refine AC E (AC E (AC E (AC E (AC E (AC E (AC E (AC E ?_)))))))
 refine Ag E E E ?_
 exact k.mono tL
 obtain⟨x1,hx1,hg2⟩:=bnd hg2
 obtain rfl:=zI hg2
 refine J E (AT E E (AE E P5 (AG 0 Tn E (J E ?_))))
 refine B6 2 hx1 E RT Ql E E E fun g1 m1 cp1 hv1=>?_
 refine Bm E cR E (Bq (sz:=1) (enc:=eB) 2 0 zV E hv1 hx1 E) ?_
 refine CF E E (Ag E E E ?_)
 exact k.mono tL
 refine V ?_
 refine AL h E (fun hc1 h=>?_) fun hc1 h=>?_
 refine Y (U E (V (AK (Aa ?_))))
 obtain rfl:=zI h
 exact Ac [0,1,2,3,4,5,6] 7 E E E
 refine AI (AJ (Y ?_))
 refine AF h fun x2 hx2 h=>?_
 refine AF h fun l1 hl1 h=>?_
 refine J E (AT E E (AE E P5 (AG 0 Tn E (J E ?_))))
 refine B6 2 hx2 E RT Ql E E E fun g2 m2 cp2 hv2=>?_
 refine II (sz:=1) (enc:=eB) 2 hl1 zV rfl rfl rfl rfl rfl hv2 Ql (by first | (simp[Value.oneCell'];done) | simp[eB,Value.oneCell']) trivial ?_
 refine V (Y (U E (V (AK ?_))))
 obtain rfl:=zI h
 exact Ac [0,1,2,3,4,5,6] 7 E E E
end

section
variable {K:Nat→Prop}{w0:World}{H:List AX}
def Fb(a5:UInt64)(a6:Int):Option Int:=
 (BE ([0,1,2,2,3,3,3,3,4,4,4,4,4,4,4,4,5,5,5,5,5,5,5,5,5,5,5,5,5,5,5,5,6,6,6,6,6,6,6,6,6,6,6,6,6,6,6,6,6,6,6,6,6,6,6,6,6,6,6,6,6,6,6,6,7,7,7,7,7,7,7,7,7,7,7,7,7,7,7,7,7,7,7,7,7,7,7,7,7,7,7,7,7,7,7,7,7,7,7,7,7,7,7,7,7,7,7,7,7,7,7,7,7,7,7,7,7,7,7,7,7,7,7,7,7,7,7,7,8,8,8,8,8,8,8,8,8,8,8,8,8,8,8,8,8,8,8,8,8,8,8,8,8,8,8,8,8,8,8,8,8,8,8,8,8,8,8,8,8,8,8,8,8,8,8,8,8,8,8,8,8,8,8,8,8,8,8,8,8,8,8,8,8,8,8,8,8,8,8,8,8,8,8,8,8,8,8,8,8,8,8,8,8,8,8,8,8,8,8,8,8,8,8,8,8,8,8,8,8,8,8,8,8,8,8,8,8,8,8,8,8,8,8,8,8,8,8,8,8,8,8,8,8,8,8,8]:List UInt8) (a5.toUInt8.toNat:Int)).bind fun c1=>
 ret (wI (a6+(c1.toNat:Int))) fun x6=>
 some x6
def Fa(a3:UInt64)(a4:Int):Option Int:=
 cond (decide (256≤a3))
 (
  ret (shr64 a3 8) fun x4=>
  ret (wI (a4+8)) fun x5=>
  Fb x4 x5)
 (
  Fb a3 a4)
def FZ(a1:UInt64)(a2:Int):Option Int:=
 cond (decide (65536≤a1))
 (
  ret (shr64 a1 16) fun x2=>
  ret (wI (a2+16)) fun x3=>
  Fa x2 x3)
 (
  Fa a1 a2)
def IS(p0:UInt64):Option Int:=
 cond (decide (4294967296≤p0))
 (
  ret (shr64 p0 32) fun x1=>
  FZ x1 32)
 (
  FZ p0 0)
theorem WW{p0:UInt64}{r:Int}(h:IS p0=some r): zC K w0 244 [Be p0] [] H (fun u M=>u=vI r∧M=[]):=by
 unfold IS at h
 refine WN.enter Tryz.func244 rfl rfl ?_
 refine Y (U E (V ?_))
 refine A8 (α:=UInt64×Int) (fun x=>FZ x.1 x.2=some r) (fun x=>[(0,Be x.1),(2,vI x.2)]) (fun x=>H) ?_ (fun x D h=>?_)
 refine Y (J E ?_)
 refine Z E (PF (b:=4294967296)) ?_
 refine V ?_
 refine AL h E (fun hc1 h=>?_) fun hc1 h=>?_
 refine Y ?_
 obtain⟨x1,ex1,h⟩:=Bz h
 refine J E ?_
 refine Z E (GT.shr64 (n:=32)) ?_
 refine Ay (u:=Be x1) E E (congrArg Be ex1) ?_
 refine V (AM (U E (AZ ?_)))
 exact Aq (x1,32) h tL (BM [] 0 E E E)
 refine AI ?_
 exact Aq (p0,0) h tL (BM [] 0 E E E)
 obtain⟨a1,a2⟩:=x
 dsimp only at h
 unfold FZ at h
 try dsimp only
 refine A8 (α:=UInt64×Int) (fun x=>Fa x.1 x.2=some r) (fun x=>[(0,Be x.1),(2,vI x.2)]) (fun x=>H) ?_ (fun x D h=>?_)
 refine Y (J E ?_)
 refine Z E (PF (b:=65536)) ?_
 refine V ?_
 refine AL h E (fun hc2 h=>?_) fun hc2 h=>?_
 refine Y ?_
 obtain⟨x2,ex2,h⟩:=Bz h
 refine J E ?_
 refine Z E (GT.shr64 (n:=16)) ?_
 refine Ay (u:=Be x2) E E (congrArg Be ex2) ?_
 refine V (AM ?_)
 obtain⟨x3,ex3,h⟩:=Bz h
 refine J E (Z E Bc ?_)
 refine Ay (u:=vI x3) E E (congrArg vI ex3) ?_
 refine AZ ?_
 exact Aq (x2,x3) h tL (BM [] 0 E E E)
 refine AI ?_
 exact Aq (a1,a2) h tL (BM [] 0 E E E)
 obtain⟨a3,a4⟩:=x
 dsimp only at h
 unfold Fa at h
 try dsimp only
 refine A8 (α:=UInt64×Int) (fun x=>Fb x.1 x.2=some r) (fun x=>[(0,Be x.1),(2,vI x.2)]) (fun x=>H) ?_ (fun x D h=>?_)
 refine Y (J E ?_)
 refine Z E (PF (b:=256)) ?_
 refine V ?_
 refine AL h E (fun hc3 h=>?_) fun hc3 h=>?_
 refine Y ?_
 obtain⟨x4,ex4,h⟩:=Bz h
 refine J E ?_
 refine Z E (GT.shr64 (n:=8)) ?_
 refine Ay (u:=Be x4) E E (congrArg Be ex4) ?_
 refine V (AM ?_)
 obtain⟨x5,ex5,h⟩:=Bz h
 refine J E (Z E Bc ?_)
 refine Ay (u:=vI x5) E E (congrArg vI ex5) ?_
 refine AZ ?_
 exact Aq (x4,x5) h tL (BM [] 0 E E E)
 refine AI ?_
 exact Aq (a3,a4) h tL (BM [] 0 E E E)
 obtain⟨a5,a6⟩:=x
 dsimp only at h
 unfold Fb at h
 try dsimp only
 refine Y ?_
 refine AF h fun c1 hc1 h=>?_
 obtain⟨x6,ex6,h⟩:=Bz h
 refine J E (J E (BO E E (GO DH Dl) (MN hc1 E Cu E E (BO E E (iN Dl Im) (Z E Bc ?_)))))
 refine Ay (u:=vI x6) E E (congrArg vI ex6) ?_
 refine V (AK ?_)
 obtain rfl:=zI h
 exact Ac [] 0 E E E
def Jv(p0:UInt64):Option Int:=
 (IS p0).bind fun y1=>
 some y1
theorem YO{p0:UInt64}{r:Int}(h:Jv p0=some r): zC K w0 208 [Be p0] [] H (fun u M=>u=vI r∧M=[]):=by
 unfold Jv at h
 refine WN.enter Tryz.func208 rfl rfl ?_
 refine Y (U E (V (AH (C1 E (AI (AJ (Y ?_)))))))
 refine AF h fun y1 hy1 h=>?_
 refine J E (AQ 0 uz (WW hy1) E (U E (V (AK ?_))))
 obtain rfl:=zI h
 exact Ac [] 0 E E E
def Hf(p0:UInt32):Option Bool:=
 ret (!decide (p0=p0)) fun x1=>
 some x1
theorem QV{p0:UInt32}{r:Bool}(h:Hf p0=some r): zC K w0 266 [AB p0] [] H (fun u M=>u=vB r∧M=[]):=by
 unfold Hf at h
 refine WN.enter Tryz.func266 rfl rfl ?_
 refine Y (U E (V (Y ?_)))
 obtain⟨x1,ex1,h⟩:=Bz h
 refine J E (J E (Z E oE ?_))
 refine Ay (u:=vB x1) E E (congrArg vB ex1) ?_
 refine V (AK ?_)
 obtain rfl:=zI h
 exact Ac [] 0 E E E
def IP(p0:UInt32)(p1:UInt32):Option Bool:=
 (Hf p0).bind fun y1=>
 (GA y1 ((Hf p1).bind fun y2=>some (!y2))).bind fun y3=>
 ret (y3||(decide (p0<p1))) fun x1=>
 some x1
theorem WU{p0 p1:UInt32}{r:Bool}(h:IP p0 p1=some r): zC K w0 241 [AB p0,AB p1] [] H (fun u M=>u=vB r∧M=[]):=by
 unfold IP at h
 refine WN.enter Tryz.func241 rfl rfl ?_
 refine Y (U E (V (Y ?_)))
 refine AF h fun y1 hy1 h=>?_
 refine AF h fun y3 hy3 h=>?_
 obtain⟨x1,ex1,h⟩:=Bz h
 refine J E (AQ 0 nL (QV hy1) E (J E ?_))
 refine E0 7 4 11 hy3 E (fun hb hg1 k=>?_) (fun hb k=>?_) ?_
 obtain⟨y2,hy2,hg1⟩:=bnd hg1
 obtain rfl:=zI hg1
 refine J E (AQ 0 nL (QV hy2) E (CF E E (Ag E E E ?_)))
 exact k.mono tL
 refine AC E (AC E (AC E (Ag E E E ?_)))
 exact k.mono tL
 refine J E ?_
 refine Dw (c:=decide (p0<p1)) 12 4 16 E (fun hb k=>?_) (fun hb k=>?_) ?_
 refine AC E (AC E (AC E (Ag E E E ?_)))
 exact k.mono tL
 refine J E (J E (Z E N4 (Ag E E E ?_)))
 exact k.mono tL
 refine Ay (u:=vB x1) E E (congrArg vB ex1) ?_
 refine V (AK ?_)
 obtain rfl:=zI h
 exact Ac [] 0 E E E
def DD(a1:Int)(nx_f_slices_insertionSortOrdered_uint32_l1:List UInt32×Int→Option (List UInt32))(l2:List UInt32):Option (List UInt32):=
 ret (wI (a1+1)) fun i_2=>
 nx_f_slices_insertionSortOrdered_uint32_l1 (l2,i_2)
def CQ(p1:Int)(a1:Int)(nx_f_slices_insertionSortOrdered_uint32_l1:List UInt32×Int→Option (List UInt32))(nx_f_slices_insertionSortOrdered_uint32_l2:List UInt32×Int→Option (List UInt32))(l3:List UInt32)(a2:Int):Option (List UInt32):=
 (GA (decide (p1<a2)) ((BE l3 a2).bind fun x1=>(BE l3 (wI (a2-1))).bind fun x2=>(IP x1 x2).bind fun y1=>some (y1))).bind fun y2=>
 cond y2
 (
  (BE l3 (wI (a2-1))).bind fun x3=>
  (BE l3 a2).bind fun x4=>
  (BE l3 a2).bind fun x5=>
  (Mx l3 a2 x3).bind fun l4=>
  (BE l4 (wI (a2-1))).bind fun x6=>
  (Mx l4 (wI (a2-1)) x4).bind fun l5=>
  ret (wI (a2-1)) fun j_1=>
  nx_f_slices_insertionSortOrdered_uint32_l2 (l5,j_1))
 (
  DD a1 nx_f_slices_insertionSortOrdered_uint32_l1 l3)
def Cq(p1:Int)(a1:Int)(nx_f_slices_insertionSortOrdered_uint32_l1:List UInt32×Int→Option (List UInt32)):Nat→(List UInt32×Int)→Option (List UInt32):=CI fun nx x=>CQ p1 a1 nx_f_slices_insertionSortOrdered_uint32_l1 nx x.1 x.2
def CP(n:Nat)(p1:Int)(p2:Int)(nx_f_slices_insertionSortOrdered_uint32_l1:List UInt32×Int→Option (List UInt32))(l1:List UInt32)(a1:Int):Option (List UInt32):=
 cond (decide (a1<p2))
 (
  Cq p1 a1 nx_f_slices_insertionSortOrdered_uint32_l1 n (l1,a1))
 (
  some l1)
def Bk(n:Nat)(p1:Int)(p2:Int):Nat→(List UInt32×Int)→Option (List UInt32):=CI fun nx x=>CP n p1 p2 nx x.1 x.2
def DP(n:Nat)(p0:List UInt32)(p1:Int)(p2:Int):Option (List UInt32):=
 ret (wI (p1+1)) fun i_1=>
 Bk n p1 p2 n (p0,i_1)
theorem MS{n:Nat}{Cn:Value}{p0 r:List UInt32}{p1 p2:Int}(h:DP n p0 p1 p2=some r): zC K w0 235 [Cn,vI p1,vI p2] [AD 36 1 Cn BV p0] H (fun u M=>u=.tuple #[]∧M=[AD 36 1 Cn BV r]):=by
 unfold DP at h
 refine WN.enter Tryz.func235 rfl rfl ?_
 refine Y ?_
 obtain⟨i_1,ei_1,h⟩:=Bz h
 refine J E (Z E Bc ?_)
 refine Ay (u:=vI i_1) E E (congrArg vI ei_1) ?_
 refine V (AN ?_)
 refine SX.heap (SX.mono (BK (α:=Nat×List UInt32×Int) (fun x=>Bk n p1 p2 x.1 (x.2.1,x.2.2)=some r) (fun x=>[(0,Cn),(1,vI p1),(2,vI p2),(6,vI x.2.2)]) (fun x=>AD 36 1 Cn BV x.2.1::H) (fun x=>x.1) (fun x D h=>?_) (n,p0,i_1) h) tL) (BM [0] 1 E E E)
 obtain⟨m1,l1,a1⟩:=x
 dsimp only at h
 rcases m1 with _ | m1
 cases (show(none:Option _)=some r from h)
 replace h:CP n p1 p2 (Bk n p1 p2 m1) l1 a1=some r:=h
 unfold CP at h
 try dsimp only
 refine AH (Y (J E (J E (Z E A9 (V ?_)))))
 refine AL h E (fun hc1 h=>?_) fun hc1 h=>?_
 refine AI (AJ ?_)
 refine A8 (α:=List UInt32) (fun x=>DD a1 (Bk n p1 p2 m1) x=some r) (fun x=>[(0,Cn),(1,vI p1),(2,vI p2),(6,vI a1)]) (fun x=>AD 36 1 Cn BV x::H) ?_ (fun l2 D h=>?_)
 refine AN (Y (J E (U E (V (AN ?_)))))
 refine SX.heap (SX.mono (BK (α:=Nat×List UInt32×Int) (fun x=>Cq p1 a1 (Bk n p1 p2 m1) x.1 (x.2.1,x.2.2)=some r) (fun x=>[(0,Cn),(1,vI p1),(2,vI p2),(6,vI a1),(7,vI x.2.2)]) (fun x=>AD 36 1 Cn BV x.2.1::H) (fun x=>x.1) (fun x D h=>?_) (n,l1,a1) h) tL) (BM [0] 1 E E E)
 obtain⟨m2,l3,a2⟩:=x
 dsimp only at h
 rcases m2 with _ | m2
 cases (show(none:Option _)=some r from h)
 replace h:CQ p1 a1 (Bk n p1 p2 m1) (Cq p1 a1 (Bk n p1 p2 m1) m2) l3 a2=some r:=h
 unfold CQ at h
 try dsimp only
 refine AH (AH ?_)
 refine AF h fun y2 hy2 h=>?_
 refine Ax Cz [0] (Pl.of [(true,0),(true,1),(true,2),(true,3),(true,4),(true,5),(true,6),(true,7),(true,8),(true,9),(true,10),(true,11),(true,12),(false,13),(false,14)]) zK (J E (J E (Z E Cj (J E ?_))))
 refine E0 19 11 30 hy2 E (fun hb hg1 k=>?_) (fun hb k=>?_) ?_
 obtain⟨x1,hx1,hg1⟩:=bnd hg1
 obtain⟨x2,hx2,hg1⟩:=bnd hg1
 obtain⟨y1,hy1,hg1⟩:=bnd hg1
 obtain rfl:=zI hg1
 refine J E (J E ?_)
 refine B6 0 hx1 E CT Bx E E E fun g1 m3 cp1 hv1=>?_
 refine Bm E A4 E (Bq (sz:=1) (enc:=BV) 0 0 zV E hv1 hx1 E) ?_
 refine J E (J E (Z E Dc ?_))
 refine B6 0 hx2 E CT Bx E E E fun g2 m4 cp2 hv2=>?_
 refine Bm E A4 E (Bq (sz:=1) (enc:=BV) 0 0 zV E hv2 hx2 E) ?_
 refine BS 0 ux (WU hy1) E ⟨⟨0,E⟩,zT⟩ (Ag E E E ?_)
 exact k.mono tL
 refine AC E (AC E (AC E (AC E (AC E (AC E (AC E (AC E ?_)))))))
 refine AC E (AC E (Ag E E E ?_))
 exact k.mono tL
 refine V ?_
 refine A7 E (fun hc2=>?_) (fun hc2=>?_)
 focus
  replace h:=cT hc2 h
  refine AI (AJ (AH (AN ?_)))
  refine AF h fun x3 hx3 h=>?_
  refine AF h fun x4 hx4 h=>?_
  refine AF h fun x5 hx5 h=>?_
  refine AF h fun l4 hl4 h=>?_
  refine AF h fun x6 hx6 h=>?_
  refine AF h fun l5 hl5 h=>?_
  refine Ax Cz [] (Bs [(true,0),(true,1),(true,2),(true,3),(true,4),(true,5),(true,6),(true,7),(true,8),(true,10),(true,11),(true,12)] (.alt 9 (Bs [(false,13),(true,14),(false,15),(true,16)] (.last 17 .nil)) (.cons (false,13) (Bs [(false,9),(true,14),(false,15),(true,16)] (.last 17 .nil))))) zK (J E (J E (J E (J E (Z E Dc (J E (J E ?_)))))))
  refine Z E Dc ?_
  refine B6 0 hx3 E CT Bx E E E fun g3 m5 cp3 hv3=>?_
  refine J E (J E ?_)
  refine B6 0 hx4 E CT Bx E E E fun g4 m6 cp4 hv4=>?_
  refine OJ ?_ ?_
  refine Bm E A4 E (Bq (sz:=1) (enc:=BV) 0 0 zV E hv3 hx3 E) ?_
  refine Bm E A4 E (Bq (sz:=1) (enc:=BV) 0 0 zV E hv4 hx4 E) ?_
  rotate_left
  refine Bm E A4 E (Bq (sz:=1) (enc:=BV) 0 0 zV E hv4 hx4 E) ?_
  refine Bm E A4 E (Bq (sz:=1) (enc:=BV) 0 0 zV E hv3 hx3 E) ?_
  all_goals
   refine B6 0 hx5 E CT Bx E E E fun g5 m7 cp5 hv5=>?_
   refine II (sz:=1) (enc:=BV) 0 hl4 zV rfl rfl rfl rfl rfl hv5 Bx (by first | (simp[Value.oneCell'];done) | simp[BV,Value.oneCell']) trivial ?_
   refine B6 0 hx6 E CT Bx E E E fun g6 m8 cp6 hv6=>?_
   refine BU ?_
   refine II (sz:=1) (enc:=BV) 0 hl5 zV rfl rfl rfl rfl rfl hv6 Bx (by first | (simp[Value.oneCell'];done) | simp[BV,Value.oneCell']) trivial ?_
   refine AZ (Av (AJ (AM ?_)))
   obtain⟨j_1,ej_1,h⟩:=Bz h
   refine J E (Z E Dc ?_)
   refine Ay (u:=vI j_1) E E (congrArg vI ej_1) ?_
   refine AZ ?_
   exact A1 (m2,l5,j_1) h (Nat.lt_succ_self _) tL (BM [0] 1 E E E)
 replace h:=cF hc2 h
 refine A5 (BC (Bb (BB (Av ?_))))
 exact Aq l3 h tL (BM [0] 1 E E E)
 unfold DD at h
 try dsimp only
 refine AM ?_
 obtain⟨i_2,ei_2,h⟩:=Bz h
 refine J E (Z E Bc ?_)
 refine Ay (u:=vI i_2) E E (congrArg vI ei_2) ?_
 refine AZ ?_
 exact A1 (m1,l2,i_2) h (Nat.lt_succ_self _) tL (BM [0] 1 E E E)
 refine A5 (BC (Bb (BB ?_)))
 obtain rfl:=zI h
 exact Da (Ed E) (Ao (M:=[_]) ⟨E,E⟩ fun _ hw=>Bj.pick (H:=[_]) hw [0] 1 E)
def DW(n:Nat)(nx_f_slices_pdqsortOrdered_uint32_l1:List UInt32×Int×Int×Int×Bool×Bool→Option (List UInt32))(l1:List UInt32)(a1:Int)(a2:Int)(a3:Int)(a4:Bool)(a5:Bool):Option (List UInt32):=
 ret (wI (a2-a1)) fun length_1=>
 cond (decide (length_1≤12))
 (
  (DP n l1 a1 a2).bind fun y1=>
  some y1)
 (
  cond (decide (a3=0))
  (
   none)
  (
   none))
def EY(n:Nat):Nat→(List UInt32×Int×Int×Int×Bool×Bool)→Option (List UInt32):=CI fun nx x=>DW n nx x.1 x.2.1 x.2.2.1 x.2.2.2.1 x.2.2.2.2.1 x.2.2.2.2.2
def Ex(n:Nat)(p0:List UInt32)(p1:Int)(p2:Int)(p3:Int):Option (List UInt32):=
 EY n n (p0,p1,p2,p3,true,true)
theorem O9{n:Nat}{Cn:Value}{p0 r:List UInt32}{p1 p2 p3:Int}(h:Ex n p0 p1 p2 p3=some r): zC K w0 207 [Cn,vI p1,vI p2,vI p3] [AD 36 1 Cn BV p0] H (fun u M=>u=.tuple #[]∧M=[AD 36 1 Cn BV r]):=by
 unfold Ex at h
 refine WN.enter Tryz.func207 rfl rfl ?_
 refine Y (U E (V (Y (U E (V (AN ?_))))))
 refine SX.heap (SX.mono (BK (α:=Nat×List UInt32×Int×Int×Int×Bool×Bool) (fun x=>EY n x.1 (x.2.1,x.2.2.1,x.2.2.2.1,x.2.2.2.2.1,x.2.2.2.2.2.1,x.2.2.2.2.2.2)=some r) (fun x=>[(0,Cn),(1,vI x.2.2.1),(2,vI x.2.2.2.1),(3,vI x.2.2.2.2.1),(8,vB x.2.2.2.2.2.1),(9,vB x.2.2.2.2.2.2)]) (fun x=>AD 36 1 Cn BV x.2.1::H) (fun x=>x.1) (fun x D h=>?_) (n,p0,p1,p2,p3,true,true) h) tL) (BM [0] 1 E E E)
 obtain⟨m1,l1,a1,a2,a3,a4,a5⟩:=x
 dsimp only at h
 rcases m1 with _ | m1
 cases (show(none:Option _)=some r from h)
 replace h:DW n (EY n m1) l1 a1 a2 a3 a4 a5=some r:=h
 unfold DW at h
 try dsimp only
 refine AN (Y ?_)
 obtain⟨length_1,elength_1,h⟩:=Bz h
 refine J E (J E (Z E Dc ?_))
 refine Ay (u:=vI length_1) E E (congrArg vI elength_1) ?_
 refine V (AH (Y (J E (Z E Jo (V ?_)))))
 refine AL h E (fun hc1 h=>?_) fun hc1 h=>?_
 refine Y ?_
 refine AF h fun y1 hy1 h=>?_
 refine J E (J E (J E (AQ 1 uw (MS hy1) E (V (AK (Aa (BI (EX (BI ?_)))))))))
 obtain rfl:=zI h
 exact Ac [0] 1 E E E
 refine AI (AJ (AH (Y (J E (Z E Ba (V ?_))))))
 refine AL h E (fun hc2 h=>?_) fun hc2 h=>?_
 cases h
 cases h
def Ef(n:Nat)(p0:List UInt32):Option (List UInt32):=
 (Jv (B9 (p0.length:Int))).bind fun y1=>
 (Ex n p0 0 (p0.length:Int) y1).bind fun y2=>
 some y2
theorem QE{n:Nat}{Cn:Value}{p0 r:List UInt32}(h:Ef n p0=some r): zC K w0 178 [Cn] [AD 36 1 Cn BV p0] H (fun u M=>u=.tuple #[]∧M=[AD 36 1 Cn BV r]):=by
 unfold Ef at h
 refine WN.enter Tryz.func178 rfl rfl ?_
 refine Y (J E (DL 0 E CT E E (U E (V (AM ?_)))))
 refine AF h fun y1 hy1 h=>?_
 refine AF h fun y2 hy2 h=>?_
 refine J E (J E (J E (BO E E (Ee Im N2) (AQ 0 uh (YO hy1) E (AQ 1 ug (O9 hy2) E (AZ ?_))))))
 obtain rfl:=zI h
 exact Da (Ed E) (Ao (M:=[_]) ⟨E,E⟩ fun _ hw=>Bj.pick (H:=[_]) hw [0] 1 E)
end

section
variable {K:Nat→Prop}{w0:World}{H:List AX}
def k4(p:Int×UInt32):List Value:=[vI p.1,AB p.2]
def R2(ss:List UInt32):List (Int×UInt32):=ss.zipIdx.map fun q=>((q.2:Int),q.1)
theorem dC(ss:List UInt32):(R2 ss).length=ss.length:=by simp[R2]
theorem k5{ss:List UInt32}{i:Nat}{p:UInt32}(h:ss[i]? = some p):(R2 ss)[i]? = some ((i:Int),p):=by simp[R2,h]
abbrev nR(b mp mb:Nat)(v:Value)(d:Ai)(T:List AX):List AX:=
 dO b v mp mb d::AD 9 1 v eS d.blocks::AY mp AB vS d.pend::AY mb AB vB d.bad::T
theorem lR(b mp mb bx:Nat)(vb:Value)(d:Ai)(G1:List AX)(ss:List UInt32)(hss:∀ks,ks.Perm (d.pend.map (·.1))→∃n,Ef n ks=some ss)(hlen:d.pend.length≤1073741824)(hlen2:ss.length≤1073741824):
  QC Tryz.prog K w0 177 [vP bx 0] [own bx (.cells #[vP b 0] 26)] (nR b mp mb vb d G1) k4 (R2 ss):=by
 intro lp J9 X T rc hy h0
 refine WN.enter Tryz.func177 rfl rfl ?_
 show SX _ _ _ _ _ _ _ _ _ (own bx (.cells #[vP b 0] 26)::rc::nR b mp mb vb d (G1++T))
 refine Y (CE 36 1 BV (U E (V (AH (Y (AG 1 K6 E (AT E E (AE E Xl (AG 3 nt E ?_)))))))))
 refine tH 5 E n7 E E (fun it=>trivial) fun it=>?_
 refine V (AN ?_)
 refine SX.mono (BK (α:=List (UInt32×List UInt8)×Value) (fun _=>True) (fun x=>[(0,vY lp),(3,x.2),(11,vP it 0)])
  (fun x=>AD 36 1 x.2 BV (x.1.map (·.1))::own bx (.cells #[vP b 0] 26)::rc::dO b vb mp mb d::AD 9 1 vb eS d.blocks::PY mp it AB vS d.pend x.1::AY mb AB vB d.bad::(G1++T))
  (fun x=>d.pend.length-x.1.length) (fun x D hp=>?_) ([],zN) trivial) tL
 obtain⟨done,v⟩:=x
 dsimp only
 refine Y ?_
 refine tF 5 (WQ CD) E E E zT (fun hperm=>?_) (fun p hp hlt=>⟨zT,?_⟩)
 refine Ah E E E (V (AH (C1 E (A5 (BC (Bb (BB (AJ (oK 5 E ?_)))))))))
 obtain⟨n,hn⟩:=hss (done.map (·.1)) (hperm.map _)
 refine Y (J E (AQ 1 uM (QE hn) E (V (Y (J E (DL 0 E CT E E (J E (V (AN ?_)))))))))
 refine SX.mono (BK (α:=Nat×List AX) (fun x=>x.1≤ss.length∧J9 ((R2 ss).take x.1) x.2) (fun x=>[(0,vY lp),(22,v),(23,vI ss.length),(24,vI x.1)])
  (fun x=>AD 36 1 v BV ss::own bx (.cells #[vP b 0] 26)::(x.2++T)) (fun x=>ss.length-x.1) (fun x D hp=>?_) (0,rc::nR b mp mb vb d G1) ⟨Nat.zero_le _,h0⟩) tL
 obtain⟨i,G⟩:=x
 obtain⟨hi,hJ⟩:=hp
 dsimp only at hi hJ ⊢
 refine Y (Z E A9 (V (AH ?_)))
 refine A7 E (fun hc2=>?_) (fun hc2=>?_)
 have hlt:i<ss.length:=by simpa using hc2
 have hg:ss[i]? = some ss[i]:=List.getElem?_eq_getElem hlt
 have hn2:BE ss (i:Int)=some ss[i]:=by simp[BE,hlt]
 have hge:=k5 hg
 generalize ss[i]=p at hg hn2 hge
 refine AI (AJ (AH (AN (Y (J E ?_)))))
 refine B6 0 hn2 E CT Bx E E E fun g m cp hv=>?_
 refine Bm E A4 E (Bq (sz:=1) (enc:=BV) 0 0 zV E hv hn2 E) ?_
 refine U E (U E (V (Y (J E (J E (J E ?_))))))
 refine I8 (M2:=[_,_]) (G:=G) (T:=T) (vs:=[_,_]) (ok:=fun G1=>J9 ((R2 ss).take (i+1)) G1) (no:=X) E E ⟨E,E,zT⟩ E ?_ (fun bb G1 hG1=>⟨zT,?_⟩)
 intro M
 have:=hy _ _ _ (F6 hge).1 G hJ M
 rw[←(F6 hge).2]at this
 exact this
 refine CF E E (V ?_)
 refine A7 E (fun hc3=>?_) (fun hc3=>?_)
 obtain rfl:bb=false:=by simpa using hc3
 refine AK (BI (Aa (EX (BI ?_))))
 exact An (Ed E) (Ao (M:=G1) (.inr hG1) fun _ h=>h.skip [_,_])
 obtain rfl:bb=true:=by simpa using hc3
 refine AI (Av (AJ (AM (Z E (Bh zO zO) (J E (AZ ?_))))))
 exact A1 (i+1,G1) ⟨hlt,hG1⟩ (by dsimp only;omega) tL (fun _ h=>h)
 have hle:i=ss.length:=by simp at hc2;omega
 refine A5 (BC (Bb (BB ?_)))
 exact Da (Ed E) (Ao (M:=G) (.inl (by rw[List.take_of_length_le (by rw[dC];omega)]at hJ;exact hJ)) fun _ h=>h.skip [_,_])
 refine Ah E E E (V (AH (PK E (AI (AJ (AN (Y (tC 5 E E E (Ah E E E (U E (V (AM (J E (J E ?_))))))))))))))
 refine CA [_] E CT Bx H5 ⟨E,zT⟩ E E E zX E E zU fun b0=>?_
 refine B4 BV 1 ([p.1]:List UInt32) E zV E ?_
 have hl:C8 4 (done.map (·.1)) [p.1]=some ((done++[p]).map (·.1)):=by
  simp only[C8,List.length_map,List.length_cons,List.length_nil,List.map_append,List.map_cons,List.map_nil]
  rw[if_pos ⟨by omega,by omega⟩]
 refine Cr 1 hl (sz:=1) (enc:=BV) zV E CT Bx Sb H5 E zD E E E E (B8 (sz:=1) (enc:=BV) 0 zV E) (by simp[BV,Value.oneCell']) zU fun v2=>?_
 refine U E (AZ (Av ?_))
 exact A1 (done++[p],v2) zT zQ tL (fun _ h=>h.skip [_])
theorem ki(b:Nat):zC K w0 156 [vP b 0] [] H (fun u M=>∃bx,u=.func (.func 177) #[] #[vP bx 0]∧M=[own bx (.cells #[vP b 0] 26)]):=by
 refine WN.enter Tryz.func156 rfl rfl ?_
 refine Y ?_
 refine Bg E E zU fun b0=>?_
 refine U E (V (Y ?_))
 refine HK (fv:=#[]) (cv:=#[_]) E E E ?_
 refine U E (V (AK ?_))
 exact An (Cx E E) (Ao (M:=[_]) ⟨_,E,E⟩ fun _ h=>h.skip [])
end

section
theorem rR(a b:UInt32):IP a b=some (decide (a<b)):=by
 simp[IP,Hf,ret,GA]
def OC:List UInt32→UInt32→List UInt32
 | [],x=>[x]
 | y::r,x=>if x<y then y::OC r x else x::y::r
theorem RQ:∀(r:List UInt32) (x:UInt32),(OC r x).Perm (x::r)
 | [],x=>.refl _
 | y::r,x=>by
  unfold OC
  split
  exact((RQ r x).cons y).trans (.swap _ _ _)
  exact .refl _
theorem X7:∀(r:List UInt32) (x:UInt32),r.Pairwise (fun a b=>b≤a)→(OC r x).Pairwise (fun a b=>b≤a)
 | [],x,_=>by simp[OC]
 | y::r,x,h=>by
  obtain⟨h1,h2⟩:=List.pairwise_cons.1 h
  unfold OC
  split
  rename_i hlt
  refine List.pairwise_cons.2 ⟨fun z hz=>?_,X7 r x h2⟩
  rcases List.mem_cons.1 ((RQ r x).mem_iff.1 hz)with rfl | hz
  exact UInt32.le_of_lt hlt
  exact h1 z hz
  rename_i hge
  refine List.pairwise_cons.2 ⟨fun z hz=>?_,h⟩
  have hyx:y≤x:=UInt32.not_lt.1 hge
  rcases List.mem_cons.1 hz with rfl | hz
  exact hyx
  exact UInt32.le_trans (h1 z hz) hyx
theorem ZV:∀(l r:List UInt32),(l.foldl OC r).Perm (l++r)
 | [],r=>.refl _
 | x::l,r=>(ZV l (OC r x)).trans (((RQ r x).append_left l).trans List.perm_middle)
theorem WK:∀(l r:List UInt32),r.Pairwise (fun a b=>b≤a)→(l.foldl OC r).Pairwise (fun a b=>b≤a)
 | [],_,h=>h
 | x::l,r,h=>WK l (OC r x) (X7 r x h)
theorem Tp{a b:List UInt32}(hp:a.Perm b)(ha:a.Pairwise (fun x y=>decide (x≤y)=true))(hb:b.Pairwise (fun x y=>decide (x≤y)=true)):a=b:=
 List.Perm.eq_of_pairwise (fun x y _ _ h1 h2=>UInt32.le_antisymm (of_decide_eq_true h1) (of_decide_eq_true h2)) ha hb hp
theorem TZ(l:List UInt32):(l.mergeSort fun a b=>decide (a≤b)).Pairwise (fun x y=>decide (x≤y)=true):=
 List.pairwise_mergeSort (le:=fun a b:UInt32=>decide (a≤b)) (fun a b c h1 h2=>zt (UInt32.le_trans (of_decide_eq_true h1) (of_decide_eq_true h2))) (fun a b=>by
  rcases UInt32.le_total a b with h | h
  exact(by simp[h])
  exact(by simp[h])) l
theorem Wo{a b:List UInt32}(h:a.Perm b):(a.mergeSort fun a b=>decide (a≤b))=b.mergeSort fun a b=>decide (a≤b):=
 Tp ((List.mergeSort_perm a _).trans (h.trans (List.mergeSort_perm b _).symm)) (TZ a) (TZ b)
theorem pN(l:List UInt32):(l.foldl OC []).reverse=l.mergeSort fun a b=>decide (a≤b):=by
 refine Tp ?_ ?_ (TZ l)
 exact(List.reverse_perm _).trans ((show(l.foldl OC []).Perm l by simpa using ZV l []).trans (List.mergeSort_perm l _).symm)
 rw[List.pairwise_reverse]
 exact(WK l [] List.Pairwise.nil).imp fun h=>zt h
theorem ne(nx1:List UInt32×Int→Option (List UInt32))(a1:Int)(x:UInt32)(B:List UInt32):∀(R:List UInt32) (m:Nat),R.length<m→R.length<4611686018427387904→
  Cq 0 a1 nx1 m (R.reverse++x::B,(R.length:Int))=DD a1 nx1 ((OC R x).reverse++B)
 | [],m,hm,_=>by
  obtain⟨m,rfl⟩:∃k,m=k+1:=⟨m-1,by simp at hm;omega⟩
  show CQ 0 a1 nx1 (Cq 0 a1 nx1 m) (x::B) 0=_
  unfold CQ
  simp[GA,OC]
 | y::R,m,hm,hb=>by
  obtain⟨m,rfl⟩:∃k,m=k+1:=⟨m-1,by simp at hm;omega⟩
  simp only[List.length_cons]at hm hb
  have ih:=ne nx1 a1 x (y::B) R m zO zO
  show CQ 0 a1 nx1 (Cq 0 a1 nx1 m) ((y::R).reverse++x::B) (((R.length+1:Nat)):Int)=_
  have hw:wI (((R.length+1:Nat):Int)-1)=(R.length:Int):=by rw[CR zO zO];omega
  have e1:BE ((y::R).reverse++x::B) (((R.length+1:Nat)):Int)=some x:=by
   rw[EP,List.getElem?_append_right zS];simp
  have e2:BE ((y::R).reverse++x::B) (R.length:Int)=some y:=by
   rw[EP,List.getElem?_append_left zS];simp
  have hpos:(0:Int)<((R.length+1:Nat):Int):=zO
  unfold CQ
  rw[hw,e1,e2,zt hpos]
  simp only[GA,rR,CC,AA]
  by_cases hlt:x<y
  rw[zt hlt]
  simp only[CC]
  have e3:Mx ((y::R).reverse++x::B) (((R.length+1:Nat)):Int) y=some (R.reverse++y::y::B):=by
   rw[KH rfl zS]
   simp
  have e4:BE (R.reverse++y::y::B) (R.length:Int)=some y:=by
   rw[EP,List.getElem?_append_right zS];simp
  have e5:Mx (R.reverse++y::y::B) (R.length:Int) x=some (R.reverse++x::y::B):=by
   rw[KH rfl zS]
   simp
  rw[e3]
  simp only[AA]
  rw[e4,e5]
  simp only[AA,BN]
  rw[ih]
  simp[OC,hlt]
  rw[zf hlt]
  simp only[BZ]
  simp[OC,hlt]
theorem nc(n:Nat)(N:Nat)(hn:N<n)(hN:N<4611686018427387904):∀(B R:List UInt32) (m:Nat),R.length+B.length=N→B.length<m→
  Bk n 0 (N:Int) m (R.reverse++B,(R.length:Int))=some (B.foldl OC R).reverse
 | [],R,m,hl,hm=>by
  obtain⟨m,rfl⟩:∃k,m=k+1:=⟨m-1,by simp at hm;omega⟩
  show CP n 0 (N:Int) (Bk n 0 (N:Int) m) (R.reverse++[]) (R.length:Int)=_
  unfold CP
  have:¬((R.length:Int)<(N:Int)):=by simp at hl;omega
  rw[zf this]
  simp
 | x::B,R,m,hl,hm=>by
  obtain⟨m,rfl⟩:∃k,m=k+1:=⟨m-1,by simp at hm;omega⟩
  simp only[List.length_cons]at hl hm
  have ih:=nc n N hn hN B (OC R x) m (by rw[(RQ R x).length_eq];simp only[List.length_cons];omega) zO
  show CP n 0 (N:Int) (Bk n 0 (N:Int) m) (R.reverse++x::B) (R.length:Int)=_
  unfold CP
  have:(R.length:Int)<(N:Int):=zO
  rw[zt this,CC,ne _ _ x B R n zO zO]
  unfold DD
  rw[BN,CR zO zO]
  have e:(R.length:Int)+1=((OC R x).length:Int):=by rw[(RQ R x).length_eq];simp
  rw[e,ih]
  rfl
theorem rO(l:List UInt32)(hl:l.length<4611686018427387904):DP (l.length+1) l 0 (l.length:Int)=some (l.mergeSort fun a b=>decide (a≤b)):=by
 unfold DP
 rw[BN,←pN]
 show Bk (l.length+1) 0 (l.length:Int) (l.length+1) (l,wI (0+1))=_
 rw[CR zO zO]
 cases l with
 | nil=>rfl
 | cons x r=>
  have:=nc ((x::r).length+1) ((x::r).length) zO hl r [x] ((x::r).length+1) zQ zQ
  simpa[OC]using this
theorem oO{α:Type}{L:List UInt8}(hL:L.length=256)(k:UInt8){f:UInt8→Option α}(hf:∀c,∃r,f c=some r):∃r,(BE L (k.toNat:Int)).bind f=some r:=by
 have hk:k.toNat<L.length:=by have:=k.toNat_lt;omega
 rw[EP,List.getElem?_eq_getElem hk,AA]
 exact hf _
theorem dx(a:UInt64)(b:Int):∃r,Fb a b=some r:=by
 unfold Fb
 exact oO zK _ (fun c=>⟨_,by rw[BN]⟩)
theorem dw(a:UInt64)(b:Int):∃r,Fa a b=some r:=by
 unfold Fa
 cases decide (256≤a)
 exact dx _ _
 rw[CC,BN,BN];exact dx _ _
theorem du(a:UInt64)(b:Int):∃r,FZ a b=some r:=by
 unfold FZ
 cases decide (65536≤a)
 exact dw _ _
 rw[CC,BN,BN];exact dw _ _
theorem jg(x:UInt64):∃r,Jv x=some r:=by
 have h:∃r,IS x=some r:=by
  unfold IS
  cases decide (4294967296≤x)
  exact du _ _
  rw[CC,BN];exact du _ _
 obtain⟨r,hr⟩:=h
 exact⟨r,by unfold Jv;rw[hr,AA]⟩
theorem j7(ks:List UInt32)(h:ks.length≤12):∃n,Ef n ks=some (ks.mergeSort fun a b=>decide (a≤b)):=by
 refine⟨ks.length+1,?_⟩
 obtain⟨r,hr⟩:=jg (B9 (ks.length:Int))
 unfold Ef
 rw[hr,AA]
 have h1:Ex (ks.length+1) ks 0 (ks.length:Int) r=some (ks.mergeSort fun a b=>decide (a≤b)):=by
  show DW (ks.length+1) (EY (ks.length+1) ks.length) ks 0 (ks.length:Int) r true true=_
  unfold DW
  rw[BN,Int.sub_zero,CR zO zO,zt zO,CC,rO ks zO,AA]
 rw[h1,AA]
end

section
variable {K:Nat→Prop}{w0:World}{H:List AX}
def Qh{α:Type}(m:List (UInt32×α)):List UInt32:=(m.map (·.1)).mergeSort fun a b=>decide (a≤b)
def QQ:Nat:=12
theorem lD:12≤QQ:=by decide
def X9(d:Ai):Option (List (Int×UInt32)):=if d.pend.length≤QQ then some (R2 (Qh d.pend))else none
theorem r7{b mp mb bx:Nat}{vb:Value}{d:Ai}{G1:List AX}{xs:List (Int×UInt32)}(h:X9 d=some xs):
  QC Tryz.prog K w0 177 [vP bx 0] [own bx (.cells #[vP b 0] 26)] (nR b mp mb vb d G1) k4 xs:=by
 unfold X9 at h
 split at h
 rename_i hl
 obtain rfl:=zI h
 have hl':d.pend.length≤12:=hl
 refine lR b mp mb bx vb d G1 (Qh d.pend) (fun ks hk=>?_) zO (by simp[Qh];omega)
 obtain⟨n,hn⟩:=j7 ks (by rw[hk.length_eq];simpa using hl')
 exact⟨n,by rw[hn,Wo hk];rfl⟩
 cases h
def Vn(_:Ai):Option Unit:=some ()
theorem mD{b:Nat}{d:Ai}{r:Unit}(_:Vn d=some r):zC K w0 156 [vP b 0] [] H (fun u M=>∃bx:Nat,u=.func (.func 177) #[] #[vP bx 0]∧M=[own bx (.cells #[vP b 0] 26)]):=ki b
end

section
variable {K:Nat→Prop}{w0:World}{H:List AX}
def H3(p0:Ai):Option (UInt32×Int×Ai):=
 ret (decide (p0.rboots=4294967295)) fun x1=>
 cond x1
 (
  some (0,72,p0))
 (
  (EG p0).bind fun y1=>
  cond (!decide (y1.1=0))
  (
   some (0,y1.1,y1.2))
  (
   ret (y1.2.rboots+1) fun x2=>
   some (x2,0,{ y1.2 with rboots:=y1.2.rboots+1 })))
theorem iy{Az BJ CG:Nat}{CH:Value}{p0:Ai}{r:UInt32×Int×Ai}(h:H3 p0=some r): zC K w0 80 [vP Az 0] [dO Az CH BJ CG p0,AD 9 1 CH eS p0.blocks,AY BJ AB vS p0.pend,AY CG AB vB p0.bad] H (fun u M=>u=.tuple #[AB r.1,vI r.2.1]∧M=[dO Az CH BJ CG r.2.2,AD 9 1 CH eS r.2.2.blocks,AY BJ AB vS r.2.2.pend,AY CG AB vB r.2.2.bad]):=by
 unfold H3 at h
 refine WN.enter Tryz.func80 rfl rfl ?_
 refine Y (U E (U E (V (AH (AN (Y (J E (Dr E ZX E E (U E (V (C1 E (Y ?_))))))))))))
 obtain⟨x1,ex1,h⟩:=Bz h
 refine J E (AT E E (AE E NK (AE E Rj (AG 0 A4 E ?_))))
 refine Z E (Iz (b:=4294967295)) ?_
 refine Ay (u:=vB x1) E E (congrArg vB ex1) ?_
 refine V ?_
 refine AL h E (fun hc2 h=>?_) fun hc2 h=>?_
 refine Y (U E (U E (V (AK (BI (Aa ?_))))))
 obtain rfl:=zI h
 exact Ac [0,1,2,3] 4 E E E
 refine AI (Av (AJ (AH (Y ?_))))
 refine AF h fun y1 hy1 h=>?_
 refine J E (AT E E (AE E Xj (AQ 4 Zu ((Ip hy1 :)) E (U E (V (Y (J E (Z E BQ (V ?_)))))))))
 refine AL h E (fun hc3 h=>?_) fun hc3 h=>?_
 refine Y (J E (U E (U E (V (AK (Aa ?_))))))
 obtain rfl:=zI h
 exact Ac [0,1,2,3] 4 E E E
 refine AI (AJ (Y (J E (AT E E (AE E NK (AE E Rj (AG 0 A4 E ?_)))))))
 refine Z E (B3 (b:=1)) ?_
 refine AT E E (AE E NK (AE E Rj (A3 0 E E E E Bx E E E zT (V (Y ?_)))))
 obtain⟨x2,ex2,h⟩:=Bz h
 refine J E (AT E E (AE E NK (AE E Rj (AG 0 A4 E ?_))))
 refine Ay (u:=AB x2) E E (congrArg AB ex2) ?_
 refine U E (V (AK ?_))
 obtain rfl:=zI h
 exact Ac [0,1,2,3] 4 E E E
def Js(y1:Int×Ai)(o1:Ai):Option (Int×Ai):=
 some (y1.1,o1)
def FC(p0:Ai)(p1:List UInt8):Option (Int×Ai):=
 ret (!decide ((p1.length:Int)=32)) fun x1=>
 cond x1
 (
  some (2,p0))
 (
  ret (decide (p0.rcnt=18446744073709551615)) fun x2=>
  cond x2
  (
   some (72,p0))
  (
   (EG p0).bind fun y1=>
   cond (decide (y1.1=0))
   (
    Js y1 ({ y1.2 with rcnt:=y1.2.rcnt+1,rtag:=p1 }))
   (
    Js y1 y1.2)))
theorem Pm{Az BJ CG:Nat}{CH:Value}{p0:Ai}{p1:List UInt8}{r:Int×Ai}(h:FC p0 p1=some r): zC K w0 123 [vP Az 0,vS p1] [dO Az CH BJ CG p0,AD 9 1 CH eS p0.blocks,AY BJ AB vS p0.pend,AY CG AB vB p0.bad] H (fun u M=>u=vI r.1∧M=[dO Az CH BJ CG r.2,AD 9 1 CH eS r.2.blocks,AY BJ AB vS r.2.pend,AY CG AB vB r.2.bad]):=by
 unfold FC at h
 refine WN.enter Tryz.func123 rfl rfl ?_
 refine Y (U E (V (AH (AN (Y (J E (Dr E ZX E E (U E (V (C1 E (Y ?_)))))))))))
 obtain⟨x1,ex1,h⟩:=Bz h
 refine J E (B7 E Cu E (Z E BQ ?_))
 refine Ay (u:=vB x1) E E (congrArg vB ex1) ?_
 refine V ?_
 refine AL h E (fun hc2 h=>?_) fun hc2 h=>?_
 refine Y (U E (V (AK (BI (Aa ?_)))))
 obtain rfl:=zI h
 exact Ac [0,1,2,3] 4 E E E
 refine Y ?_
 obtain⟨x2,ex2,h⟩:=Bz h
 refine J E (AT E E (AE E NK (AE E Ri (AG 0 Gl E ?_))))
 refine Z E (MM (b:=18446744073709551615)) ?_
 refine Ay (u:=vB x2) E E (congrArg vB ex2) ?_
 refine V ?_
 refine AL h E (fun hc3 h=>?_) fun hc3 h=>?_
 refine Y (U E (V (AK (BI (Aa ?_)))))
 obtain rfl:=zI h
 exact Ac [0,1,2,3] 4 E E E
 refine AI (Av (AJ (Y ?_)))
 refine AF h fun y1 hy1 h=>?_
 refine J E (AT E E (AE E Xj (AQ 4 Zu ((Ip hy1 :)) E (U E (V ?_)))))
 refine A8 (α:=Ai) (fun x=>Js y1 x=some r) (fun x=>[(0,vP Az 0),(5,vI y1.1)]) (fun x=>dO Az CH BJ CG x::AD 9 1 CH eS x.blocks::AY BJ AB vS x.pend::AY CG AB vB x.bad::H) ?_ (fun o1 D h=>?_)
 refine Y (J E (Z E Ba (V ?_)))
 refine AL h E (fun hc4 h=>?_) fun hc4 h=>?_
 refine Y (J E (AT E E (AE E NK (AE E Ri (AG 0 Gl E ?_)))))
 refine Z E (HV (b:=1)) ?_
 refine AT E E (AE E NK (AE E Ri (A3 0 E E E E nw E E E zT (V (AM (J E (J E (AT E E (AE E NK ?_)))))))))
 refine AE E gI (A3 0 E E E E Il E E E zT (AZ ?_))
 exact Aq ({ y1.2 with rcnt:=y1.2.rcnt+1,rtag:=p1 }) h tL (BM [0,1,2,3] 4 rfl rfl rfl)
 refine AI ?_
 exact Aq y1.2 h tL (BM [0,1,2,3] 4 E E E)
 unfold Js at h
 try dsimp only
 refine Y (J E (U E (V (AK ?_))))
 obtain rfl:=zI h
 exact Ac [0,1,2,3] 4 E E E
def E1(p0:Ai):Option iQ:=
 some (⟨p0.rcnt,p0.rtag,p0.rboots⟩:iQ)
theorem Jq{Az BJ CG:Nat}{CH:Value}{p0:Ai}{r:iQ}(h:E1 p0=some r): zC K w0 14 [vP Az 0] [dO Az CH BJ CG p0,AD 9 1 CH eS p0.blocks,AY BJ AB vS p0.pend,AY CG AB vB p0.bad] H (fun u M=>u=.agg (nS r).toArray∧M=[dO Az CH BJ CG p0,AD 9 1 CH eS p0.blocks,AY BJ AB vS p0.pend,AY CG AB vB p0.bad]):=by
 unfold E1 at h
 refine WN.enter Tryz.func14 rfl rfl ?_
 refine Y ?_
 refine Au E wZ zU fun b1=>?_
 refine V (AH (Y (J rfl (Dr rfl ZX rfl rfl (V (C1 rfl (AI (AJ (Y (J rfl (AT rfl rfl (AE rfl NK (Aw [Be p0.rcnt,vS p0.rtag,AB p0.rboots] rfl wJ rfl rfl (Ct 1 rfl (by rintro(_ | (_ | (_ | j))) u hj<;>first | exact hj | exact absurd hj zS)) (A3 0 rfl rfl rfl rfl zh rfl rfl rfl trivial (V (AK ?_))))))))))))))))
 obtain rfl:=zI h
 exact An (GM E (B2 0 (nS (⟨p0.rcnt,p0.rtag,p0.rboots⟩:iQ)) wJ E E E E)) (Ao (M:=[_,_,_,_]) ⟨E,E⟩ fun _ hw=>Bj.pick (H:=[_,_,_,_,_]) hw [1,2,3,4] 5 E)
def OX(y1:Int×Ai)(o1:Ai):Option (Int×Ai):=
 some (y1.1,o1)
def Q3(y1:Int×Ai)(o2:Ai):Option (Int×Ai):=
 OX y1 ({ o2 with pend:=[] })
def Q5(y1:Int×Ai)(o3:Ai):Option (Int×Ai):=
 Q3 y1 o3
def Jt(y1:Int×Ai)(nx_f_dd_Flush_r1:Ai→Option (Int×Ai))(e1:Int×UInt32)(o3:Ai):Option (Int×Ai):=
 (BE o3.blocks (e1.2.toNat:Int)).bind fun x1=>
 (Mx o3.blocks (e1.2.toNat:Int) ((Bn o3.pend e1.2).getD [])).bind fun l1=>
 nx_f_dd_Flush_r1 ({ o3 with blocks:=l1 })
def Lw(y1:Int×Ai):List (Int×UInt32)→Ai→Option (Int×Ai):=Rn (fun nx e x=>Jt y1 nx e x) (fun x=>Q5 y1 x)
def Ek(p0:Ai):Option (Int×Ai):=
 (EG p0).bind fun y1=>
 cond (decide (y1.1=0))
 (
  (Vn y1.2).bind fun y2=>
  (X9 y1.2).bind fun xs1=>
  Lw y1 xs1 y1.2)
 (
  OX y1 y1.2)
theorem N9{Az BJ CG:Nat}{CH:Value}{p0:Ai}{r:Int×Ai}(h:Ek p0=some r): zC K w0 118 [vP Az 0] [dO Az CH BJ CG p0,AD 9 1 CH eS p0.blocks,AY BJ AB vS p0.pend,AY CG AB vB p0.bad] H (fun u M=>u=vI r.1∧M=[dO Az CH BJ CG r.2,AD 9 1 CH eS r.2.blocks,AY BJ AB vS r.2.pend,AY CG AB vB r.2.bad]):=by
 unfold Ek at h
 refine WN.enter Tryz.func118 rfl rfl ?_
 refine Y ?_
 refine Bg E E zU fun b1=>?_
 refine U E (V (AH (Y (AG 0 K6 E (Dr E ZX E E (V (C1 E (AI (AJ (Y ?_))))))))))
 refine AF h fun y1 hy1 h=>?_
 refine AG 0 K6 E (AT E E (AE E Xj (SL.pick [1,2,3,4,0] 5 (AQ 4 Zu ((Ip hy1 :)) E (U E (V ?_))))))
 refine A8 (α:=Ai) (fun x=>OX y1 x=some r) (fun x=>[(0,vP Az 0),(3,vI y1.1)]) (fun x=>dO Az CH BJ CG x::AD 9 1 CH eS x.blocks::AY BJ AB vS x.pend::AY CG AB vB x.bad::H) ?_ (fun o1 D h=>?_)
 refine Y (J E (Z E Ba (V ?_)))
 refine AL h E (fun hc2 h=>?_) fun hc2 h=>?_
 refine A8 (α:=Ai) (fun x=>Q3 y1 x=some r) (fun x=>[(0,vP Az 0),(1,vP b1 0),(3,vI y1.1)]) (fun x=>dO Az CH BJ CG x::AD 9 1 CH eS x.blocks::AY BJ AB vS x.pend::AY CG AB vB x.bad::own b1 (.cells #[vP Az 0] 26)::H) ?_ (fun o2 D h=>?_)
 refine Y ?_
 refine AF h fun y2 hy2 h=>?_
 refine AG 4 K6 E (BY 0 t9 (mD hy2) E ?_)
 rintro _ _ ⟨b2,rfl,rfl⟩
 refine V (AN ?_)
 refine AF h fun xs1 hxs1 h=>?_
 refine SX.heap (N7 (enc:=k4) xs1 (G0:=dO Az CH BJ CG y1.2::AD 9 1 CH eS y1.2.blocks::AY BJ AB vS y1.2.pend::AY CG AB vB y1.2.bad::own b1 (.cells #[vP Az 0] 26)::H) (fun pre G=>∃x:Ai,(∀suf,xs1=pre++suf→Lw y1 suf x=some r)∧G=dO Az CH BJ CG x::AD 9 1 CH eS x.blocks::AY BJ AB vS x.pend::AY CG AB vB x.bad::own b1 (.cells #[vP Az 0] 26)::H) (fun c G=>False) E uL E zV (r7 hxs1) E ⟨y1.2,fun suf e=>by rw[←show xs1=suf from e];exact h,E⟩ (fun pre e1 suf1 G hpre hJ lr lp Rest=>?_) (fun G D hJ=>?_) (fun c G D hX=>?_)) (BM [0,1,2,3,4,5] 6 E E E)
 obtain⟨o3,h,rfl⟩:=hJ
 replace h:Jt y1 (Lw y1 suf1) e1 o3=some r:=h _ hpre
 unfold Jt at h
 refine AM (U E (AZ ?_))
 refine Jm (G:=dO Az CH BJ CG o3::AD 9 1 CH eS o3.blocks::AY BJ AB vS o3.pend::AY CG AB vB o3.bad::own b1 (.cells #[vP Az 0] 26)::H) ?_
 refine AN ?_
 refine AF h fun x1 hx1 h=>?_
 refine AF h fun l1 hl1 h=>?_
 refine Ax Cz [0,2,4] (Bs (G4 0 12) (.last 12 .nil)) zK (AG 2 K6 E (AT E E (AE E Xk (AG 0 Rq E (J E (AG 2 K6 E (AT E E ?_)))))))
 refine AE E Xl (AG 0 nt E (J E ?_))
 refine VZ (zv:=[]) 1 (WQ CD) E n7 Vt E E E ?_
 refine B6 1 hx1 E FX Il E E E fun g1 m1 cp1 hv1=>?_
 refine BU ?_
 refine II (sz:=1) (enc:=eS) 1 hl1 zV rfl rfl rfl rfl rfl hv1 Il (by first | (simp[Value.oneCell'];done) | simp[eS,Value.oneCell']) trivial ?_
 refine AZ (Av ?_)
 exact IK ⟨({ o3 with blocks:=l1 }),fun suf e=>by rw[Ts hpre e];exact h,rfl⟩ (BM [0,1,2,3,4] 5 rfl rfl rfl)
 obtain⟨o3,h,rfl⟩:=hJ
 replace h:Q5 y1 o3=some r:=h [] (List.append_nil _).symm
 unfold Q5 at h
 refine Av ?_
 exact Aq o3 h tL (BM [0,1,2,3,4] 5 E E E)
 exact hX.elim
 unfold Q3 at h
 try dsimp only
 refine AM (AG 4 K6 E (AT E E (AE E Xl (AG 0 nt E (tA 2 E E E n7 E E zT (AZ ?_))))))
 exact Aq ({ o2 with pend:=[] }) h tL (BM [0,1,2,3] 5 rfl rfl rfl)
 refine AI ?_
 exact Aq y1.2 h tL (BM [0,1,2,3] 5 E E E)
 unfold OX at h
 try dsimp only
 refine Y (J E (U E (V (AK ?_))))
 obtain rfl:=zI h
 exact Ac [0,1,2,3] 4 E E E
def KQ(T:List UInt32)(p0:Am)(p0_1:Ai)(p1:UInt32)(p2:List UInt8):Option (List UInt8×Int×Am×Ai):=
 ret (decide (2≤p1)) fun x1=>
 cond x1
 (
  some ([],2,p0,p0_1))
 (
  ret (decide (198<(p2.length:Int))) fun x2=>
  cond x2
  (
   some ([],50,p0,p0_1))
  (
   (Jh T p0 p0_1 p1 p2).bind fun y1=>
   some (y1.1,y1.2.1,y1.2.2.1,y1.2.2.2)))
theorem Re{T:List UInt32}{Az BJ BG Bu Bv:Nat}{AW Bw:Value}{p0:Am}{p0_1:Ai}{p1:UInt32}{p2:List UInt8}{r:List UInt8×Int×Am×Ai}(h:KQ T p0 p0_1 p1 p2=some r)(hS:Gk K w0 T):zC K w0 121 [vP Az 0,AB p1,vS p2] [vO Az BG AW BJ p0,AD 55 2 AW AU p0.ring,AY BJ AB vB p0.taken,dO BG Bw Bu Bv p0_1,AD 9 1 Bw eS p0_1.blocks,AY Bu AB vS p0_1.pend,AY Bv AB vB p0_1.bad] H (fun u M=>u=.tuple #[vS r.1,vI r.2.1]∧M=[vO Az BG AW BJ r.2.2.1,AD 55 2 AW AU r.2.2.1.ring,AY BJ AB vB r.2.2.1.taken,dO BG Bw Bu Bv r.2.2.2,AD 9 1 Bw eS r.2.2.2.blocks,AY Bu AB vS r.2.2.2.pend,AY Bv AB vB r.2.2.2.bad]):=by
 unfold KQ at h
 refine WN.enter Tryz.func121 rfl rfl ?_
 refine Y (U E (U E (V (AH (AN (Y (J E (Dr E ec E E (U E (V (C1 E (Y ?_))))))))))))
 obtain⟨x1,ex1,h⟩:=Bz h
 refine J E ?_
 refine Z E (GN (b:=2)) ?_
 refine Ay (u:=vB x1) E E (congrArg vB ex1) ?_
 refine V ?_
 refine AL h E (fun hc2 h=>?_) fun hc2 h=>?_
 refine Y (U E (U E (V (AK (BI (Aa ?_))))))
 obtain rfl:=zI h
 exact Ac [0,1,2,3,4,5,6] 7 E E E
 refine Y ?_
 obtain⟨x2,ex2,h⟩:=Bz h
 refine J E (B7 E Cu E (Z E Cj ?_))
 refine Ay (u:=vB x2) E E (congrArg vB ex2) ?_
 refine V ?_
 refine AL h E (fun hc3 h=>?_) fun hc3 h=>?_
 refine Y (U E (U E (V (AK (BI (Aa ?_))))))
 obtain rfl:=zI h
 exact Ac [0,1,2,3,4,5,6] 7 E E E
 refine AI (Av (AJ (Y ?_)))
 refine AF h fun y1 hy1 h=>?_
 refine J E (J E (J E (AQ 7 ml (av hy1 hS) E (Ah E E E (Ah E E E (U E (U E (V (AK ?_)))))))))
 obtain rfl:=zI h
 exact Ac [0,1,2,3,4,5,6] 7 E E E
end

section
structure z9 where
 out:List Ak
 rows:List Aj
 count:Int
 err:Int
end

section
variable {K:Nat→Prop}{w0:World}{H:List AX}
end

section
variable {K:Nat→Prop}{w0:World}{H:List AX}
structure KpA where
 out:List Ak
 err:Int
end

section
variable {P:Program}{ro:Option Nat}{K:Nat→Prop}{w0:World}{N:Nat}{Q:Dg}{D:List Nat}{l l':Tm}{H H' Hs L:List AX}{ops:Array Oper}{items:I6}
variable {tk:Bool}{o:Oper}{t:Nat}{v:Value}{x y z:Operand}
variable {α:Type}{enc:α→List Value}{sz:Nat}{xs us:List α}{e ty:TypeId}
def yp(K:Nat→Prop)(w0:World)(M:List AX)(enc:α→List Value)(v:Value)(us:List α):Prop:=
 (v=.slice none 0 0∧us=[])∨∃ad cap,v=.slice (some ad) us.length cap∧∀w,HW K w0 M w→∀j u,(us.flatMap enc)[j]? = some u→w.cell? (ad.add j)=some u
theorem lg{w:World}{i g n cap j:Nat}{u:Value}(hi:L[i]? = some (AD e sz (.slice (some ⟨g,0,none⟩) n cap) enc xs))(hw:HW K w0 L w)(hu:(xs.flatMap enc)[j]? = some u):w.cell? ⟨g,j,none⟩=some u:=by
 have hrow:w.ownsRow 0 e sz (.slice (some ⟨g,0,none⟩) n cap) xs.length (xs.flatMap enc):=hw.holds _ (List.mem_of_getElem? hi)
 have:=(World.ownsRowF_of hrow).cells (g:=g) rfl j u hu
 rw[CU,Nat.zero_add]at this
 exact this
theorem pv{k:IntKind}{j:Int}{e':TypeId}(i:Nat)(hn:Iu xs j (xs.length:Int)=some us)(hl:∀x,(enc x).length=sz)(ho:At ops N l o t (.slice ty x (some z) none none))(hty:P.underlying ty=some (.slice e'))(hsz:DU P e'=some sz)(hx:Bo l x=some v)(hz:Bo l z=some (.int k j))(hi:H[i]? = some (AD e sz v enc xs))
(h:∀v',yp K w0 H enc v' us→SL P ro K w0 N ops Hs items Q D ((t,v')::l) H):SL P ro K w0 N ops Hs (.cons (false,o) items) Q D l H:=by
 intro a w ha hw hs0
 have hrow:w.ownsRow 0 e sz v xs.length (xs.flatMap enc):=hw.holds _ (List.mem_append_left _ (List.mem_of_getElem? hi))
 obtain⟨h1,h2,h3,h4,rfl⟩:=MJ hn
 have hj:j=(j.toNat:Int):=zO
 have hpre:xs=xs.take j.toNat++xs.drop j.toNat:=(List.take_append_drop ..).symm
 have e2:(xs.drop j.toNat).take ((xs.length:Int).toNat-j.toNat)=xs.drop j.toNat:=List.take_of_length_le zS
 rw[e2]at h
 have hq:j.toNat≤xs.length:=by simpa using h3
 generalize j.toNat=q at*
 subst hj
 rcases hrow.2 with⟨rfl,h0⟩ | ⟨g,cap,cur,rfl,_,_,hnc,_⟩
 have hxs:xs=[]:=List.length_eq_zero_iff.1 h0
 subst hxs
 have hj0:q=0:=by simpa using hq
 subst hj0
 refine SL.val (v:=.slice none 0 0) ho E (fun a w ha _=>?_) (h _ (.inl ⟨E,by simp⟩)) a w ha hw hs0
 simp only[execOp,ho.op,Instr.sliceAt,Instr.slice,Option.map]
 simp[ha.eval hx,ha.eval hz,A2 hty,CY hsz,Instr.sliceBounds,Instr.sliceBound,asIntOf]
 by_cases hqc:q<cap
 refine XD q ho hty hsz hx hz E hq hqc (h _ (.inr ⟨⟨g,0+q*sz,none⟩,cap-q,?_,fun w hw j' u hu=>?_⟩)) a w ha hw hs0
 rw[List.length_drop]
 rw[CU,Nat.zero_add]
 refine lg hi hw ?_
 have hlen:((xs.take q).flatMap enc).length=q*sz:=by rw[JR hl,List.length_take,Nat.min_eq_left hq]
 rw[hpre,List.flatMap_append,List.getElem?_append_right zO,hlen,Nat.add_sub_cancel_left]
 exact hu
 have hqe:q=xs.length:=zO
 have hce:cap=xs.length:=zO
 subst hqe hce
 refine SL.val (v:=.slice (some ⟨g,0,none⟩) 0 0) ho E (fun a w ha _=>?_) (h _ (.inr ⟨⟨g,0,none⟩,0,by simp,fun w hw j' u hu=>by simp at hu⟩)) a w ha hw hs0
 simp only[execOp,ho.op,Instr.sliceAt,Instr.slice,Option.map]
 simp[ha.eval hx,ha.eval hz,A2 hty,CY hsz,Instr.sliceBounds,Instr.sliceBound,asIntOf,CU]
end

section
variable {P:Program}{ro:Option Nat}{K:Nat→Prop}{w0:World}{N:Nat}{Q:Dg}{D:List Nat}{l l':Tm}{H H' Hs L:List AX}{ops:Array Oper}{items:I6}
variable {tk:Bool}{o:Oper}{t:Nat}{v:Value}{x y z:Operand}
theorem pq{b off n c sz:Nat}{k k':IntKind}{i j:Int}{ty e:TypeId}(p q:Nat)(ho:At ops N l o t (.slice ty x (some y) (some z) none))(hty:P.underlying ty=some (.slice e))(hsz:DU P e=some sz)(hx:Bo l x=some (.slice (some ⟨b,off,none⟩) n c))(hy:Bo l y=some (.int k i))(hz:Bo l z=some (.int k' j))
(hi:i=(p:Int))(hj:j=(q:Int))(hp:p≤q)(hq:q≤c)(hpc:p<c)(h:SL P ro K w0 N ops Hs items Q D ((t,.slice (some ⟨b,off+p*sz,none⟩) (q-p) (c-p))::l) H):SL P ro K w0 N ops Hs (.cons (tk,o) items) Q D l H:=
 SL.val ho rfl (fun a w ha _=>by
  subst hi hj
  have hne:¬c=p:=zO
  simp only[execOp,ho.op,Instr.sliceAt,Instr.slice,Option.map]
  simp[ha.eval hx,ha.eval hy,ha.eval hz,A2 hty,CY hsz,Instr.sliceBounds,Instr.sliceBound,asIntOf,hq,hp,CU];omega) h
theorem px{α:Type}{enc:α→List Value}{sz:Nat}{xs us:List α}{k k':IntKind}{i j:Int}{ty e:TypeId}(hn:Iu xs i j=some us)(hk:By K w0 enc sz v xs)(ho:At ops N l o t (.slice ty x (some y) (some z) none))(hty:P.underlying ty=some (.slice e))(hsz:DU P e=some sz)(hx:Bo l x=some v)(hy:Bo l y=some (.int k i))(hz:Bo l z=some (.int k' j))
(h:∀v',By K w0 enc sz v' us→SL P ro K w0 N ops Hs items Q D ((t,v')::l) H):SL P ro K w0 N ops Hs (.cons (tk,o) items) Q D l H:=by
 obtain⟨h1,h2,h3,h4,rfl⟩:=MJ hn
 have hi:i=(i.toNat:Int):=zO
 have hj:j=(j.toNat:Int):=zO
 generalize i.toNat=p at*
 generalize j.toNat=q at*
 subst hi hj
 rcases hk.at_ with⟨a0,rfl,rfl⟩ | ⟨b,off,cap,rfl,hcap,hc⟩
 have hq:q=0:=by simpa using h4
 have hp:p=0:=zO
 subst hq hp
 refine SL.val (v:=.slice a0 0 0) ho E (fun a w ha _=>?_) (h _ ⟨hk.len,.inl ⟨_,E,by simp⟩⟩)
 simp only[execOp,ho.op,Instr.sliceAt,Instr.slice,Option.map]
 cases a0<;>simp[ha.eval hx,ha.eval hy,ha.eval hz,A2 hty,CY hsz,Instr.sliceBounds,Instr.sliceBound,asIntOf]
 have hl:((xs.drop p).take (q-p)).length=q-p:=by simp;omega
 by_cases hpc:p<cap
 refine pq p q ho hty hsz hx hy hz E E h3 zO hpc (h _ ⟨hk.len,.inr ⟨b,off+p*sz,cap-p,by rw[hl],by rw[hl];omega,fun j' u hu=>?_⟩⟩)
 have hc':=(By.cut hk.len hcap hc (show p≤xs.length by omega)).at_
 have hpre:((xs.drop p).take (q-p))++((xs.drop p).drop (q-p))=xs.drop p:=List.take_append_drop ..
 have hlen:((xs.take p).flatMap enc).length=p*sz:=by rw[JR hk.len,List.length_take,Nat.min_eq_left zO]
 have:=hc (p*sz+j') u (by
  rw[←List.take_append_drop p xs,List.flatMap_append,List.getElem?_append_right zO,hlen,Nat.add_sub_cancel_left,←hpre,List.flatMap_append,List.getElem?_append_left (List.getElem?_eq_some_iff.1 hu).1]
  exact hu)
 rw[Nat.add_assoc]
 exact this
 have hpe:p=cap:=zO
 have hqe:q=p:=zO
 subst hqe
 refine SL.val (v:=.slice (some ⟨b,off,none⟩) 0 0) ho E (fun a w ha _=>?_) (h _ ⟨hk.len,.inl ⟨_,E,by simp⟩⟩)
 simp only[execOp,ho.op,Instr.sliceAt,Instr.slice,Option.map]
 simp[ha.eval hx,ha.eval hy,ha.eval hz,A2 hty,CY hsz,Instr.sliceBounds,Instr.sliceBound,asIntOf,CU,hpe]
end

section
variable {K:Nat→Prop}{w0:World}{H:List AX}
def wb{σ α:Type}(bk:Nat)(I:(Nat→Prop)→World→Prop)(C:α→σ→List AX)(pl:C4→σ→Option (BR×σ)):Prop:=
 ∀ {K:Nat→Prop} {w0:World} {H:List AX} {v4 v5:Value} {a:α} {x:C4} {q:σ} {r:BR×σ},I K w0→pl x q=some r→By K w0 AV 4 v4 x.rows→By K w0 Bd 2 v5 x.kids→
  zC K w0 160 [vP bk 0,.agg #[vI x.kind,AB x.cx,AB x.cy,vI x.lev,v4,v5,AB x.npage,vS x.ntag]] (C a q) H (fun u M=>u=.agg (Bd r.1).toArray∧∃a',M=C a' r.2)
def TV{σ:Type}(rec_:CB→σ→Option (BR×σ)):List CB→σ→List BR→Option (List BR×σ)
 | [],q,acc=>some (acc,q)
 | k::ks,q,acc=>(rec_ k q).bind fun y=>(C8 24 acc [y.1]).bind fun a=>TV rec_ ks y.2 a
def VE{σ:Type}(pl:C4→σ→Option (BR×σ))(l:List Aj):Nat→BR→σ→Option (BR×σ)
 | 0,r,q=>some (r,q)
 | j+1,r,q=>(Iu l (4*(j:Int)) (min (l.length:Int) (4*(j:Int)+4))).bind fun p=>(pl ⟨1,0,0,0,p,[],r.page,r.tag⟩ q).bind fun y=>VE pl l j y.1 y.2
def U4{σ:Type}(pl:C4→σ→Option (BR×σ)):Nat→CB→σ→Option (BR×σ)
 | 0,_,_=>none
 | f+1,t,q=>if 1048576<t.rows.length∨1048576<t.kids.length then none else cond (decide (0<(t.kids.length:Int)))
   ((TV (U4 pl f) t.kids q []).bind fun y=>pl ⟨2,t.cx,t.cy,t.lev,[],y.1,0,[]⟩ y.2)
   (VE pl t.rows ((max t.rows.length 1-1) / 4+1) ⟨0,[]⟩ q)
theorem i3{σ α:Type}{bk:Nat}{I:(Nat→Prop)→World→Prop}{C:α→σ→List AX}{pl:C4→σ→Option (BR×σ)}(hI:∀ {K w0 K' w1},I K w0→YD K w0 K' w1→I K' w1)(hpl:wb bk I C pl):
  ∀(f:Nat) {K:Nat→Prop} {w0:World} {H:List AX} {ca:α} {a:Fs} {t:CB} {q:σ} {r:BR×σ},I K w0→U4 pl f t q=some r→Ph K w0 a t→
  zC K w0 125 [vP bk 0,.agg (CW a).toArray] (C ca q) H (fun u M=>u=.agg (Bd r.1).toArray∧∃ca',M=C ca' r.2)
 | 0,K,w0,H,ca,a,t,q,r,hi,h,hN=>by cases h
 | f+1,K,w0,H,ca,a,t,q,r,hi,h,hN=>by
  have h:(if 1048576<t.rows.length∨1048576<t.kids.length then none else cond (decide (0<(t.kids.length:Int)))
   ((TV (U4 pl f) t.kids q []).bind fun y=>pl ⟨2,t.cx,t.cy,t.lev,[],y.1,0,[]⟩ y.2)
   (VE pl t.rows ((max t.rows.length 1-1) / 4+1) ⟨0,[]⟩ q))=some r:=h
  split at h
  cases h
  rename_i hbig
  have hrl:t.rows.length≤1048576:=zO
  have hkl:t.kids.length≤1048576:=zO
  clear hbig
  obtain⟨rv,kv,rfl,hr,hk⟩:=hN.parts
  refine WN.enter Tryz.func125 rfl rfl ?_
  refine Y ?_
  refine Bg E E zU fun b0=>?_
  refine Au E FU zU fun b1=>?_
  refine V (AH (Y (AE E Ih (AG 1 SO E (VY hk E M7 E (Z E Cj (V ?_)))))))
  refine AL h E (fun hc1 h=>?_) fun hc1 h=>?_
  refine Y (AE rfl Ot (Aw [AB t.cx,AB t.cy,vI t.lev] rfl EC rfl rfl (Ct 1 rfl (by rintro(_ | (_ | (_ | j))) u hj<;>first | exact hj | exact absurd hj zS)) (B5 [_,_] rfl ga gY Y1 ⟨rfl,rfl,trivial⟩ rfl ?_)))
  refine Au E Y1 zU fun b5=>?_
  refine A3 0 E E E E sQ E E E zT (NA 0 (own b5 (.cells #[vI 2,AB t.cx,AB t.cy,vI t.lev,zN,zN,AB 0,vS []] 250)) (CE 146 2 Bd (V (AH (Y (U E (V (AN ?_))))))))
  refine SX.heap (SX.mono (BK (α:=Nat×List BR×Value×σ×α) (fun x=>x.1≤t.kids.length∧((TV (U4 pl f) (t.kids.drop x.1) x.2.2.2.1 x.2.1).bind fun y=>pl ⟨2,t.cx,t.cy,t.lev,[],y.1,0,[]⟩ y.2)=some r)
   (fun x=>[(0,vP bk 0),(3,vP b0 0),(4,vP b1 0),(5,vP b5 0),(6,vI (x.1:Int))])
   (fun x=>own b5 (.cells #[vI 2,AB t.cx,AB t.cy,vI t.lev,zN,x.2.2.1,AB 0,vS []] 250)::AD 146 2 x.2.2.1 Bd x.2.1::own b1 (.cells #[AB 0,vS []] 146)::own b0 (.cells #[AB t.cx,AB t.cy,vI t.lev,rv.val,kv.val] 204)::(C x.2.2.2.2 x.2.2.2.1++H))
   (fun x=>t.kids.length-x.1) (fun x D hp=>?_) (0,[],zN,q,ca) ⟨Nat.zero_le _,h⟩) tL) (BM [1,0,2,3] 4 rfl rfl rfl)
  clear h
  obtain⟨i,ks,vk,q1,ca1⟩:=x
  obtain⟨hi',h⟩:=hp
  dsimp only at hi' h ⊢
  refine AH (Y (J E (AE E Ih (AG 3 SO E (VY hk E M7 E (Z E A9 (V ?_)))))))
  refine A7 E (fun hc2=>?_) (fun hc2=>?_)
  have hlt:i<t.kids.length:=by
   have:=of_decide_eq_true hc2
   omega
  clear hc2
  have hnth:BE t.kids (i:Int)=some t.kids[i]:=by
   rw[BE,if_pos zO]
   exact List.getElem?_eq_getElem hlt
  rw[List.drop_eq_getElem_cons hlt,TV]at h
  refine AF h fun z hz h=>?_
  obtain⟨y,hy,hz⟩:=bnd hz
  obtain⟨ac,hac,hz⟩:=bnd hz
  have h2:((TV (U4 pl f) (t.kids.drop (i+1)) y.2 ac).bind fun y=>pl ⟨2,t.cx,t.cy,t.lev,[],y.1,0,[]⟩ y.2)=some r:=by
   rw[hz];exact h
  refine AI (AJ (AH (AN (Ax Cz [0,3] (Bs [(true,0),(true,1),(true,2),(true,3),(true,4),(true,5),(true,6),(true,7),(false,8),(false,9),(false,10),(true,11)] (.last 12 .nil)) zK (AE E GK (AG 0 MI E (J E (AE E Ih (AG 1 SO E (J E ?_))))))))))
  refine iX hnth hk E M7 Gj E E fun b6 of6 rv6 kv6 hr6 hk6 hc6=>?_
  obtain⟨rs6,rfl⟩:=hr6.slv
  obtain⟨kk6,hk61,hk62⟩:=hk6
  obtain⟨ks6,rfl⟩:=hk61.slv
  have hN6:Ph K w0 ⟨t.kids[i].cx,t.kids[i].cy,t.kids[i].lev,rs6,ks6⟩ t.kids[i]:=Ph.of hr6 ⟨kk6,hk61,hk62⟩
  refine Aw [AB t.kids[i].cx,AB t.kids[i].cy,vI t.kids[i].lev,rs6.val,ks6.val] E KS E E (DT hc6) ?_
  refine SL.heap ?_ (fun _ hw=>Ey (A:=[own b5 (.cells #[vI 2,AB t.cx,AB t.cy,vI t.lev,zN,vk,AB 0,vS []] 250),AD 146 2 vk Bd ks,own b1 (.cells #[AB 0,vS []] 146),own b0 (.cells #[AB t.cx,AB t.cy,vI t.lev,rv.val,kv.val] 204)]) (B:=C ca1 q1) (R:=H) hw)
  have hcon:=i3 hI hpl f (ca:=ca1) (K:=K) (w0:=w0) (H:=([own b5 (.cells #[vI 2,AB t.cx,AB t.cy,vI t.lev,.slice none 0 0,vk,AB 0,vS []] 250),AD 146 2 vk Bd ks,own b1 (.cells #[AB 0,vS []] 146),own b0 (.cells #[AB t.cx,AB t.cy,vI t.lev,rv.val,kv.val] 204)]++H)++[Bf D]) hi hy hN6
  generalize hpo:(fun(u:Value) (M:List AX)=>u=.agg (Bd y.1).toArray∧∃ca',M=C ca' y.2)=po at hcon
  refine BT (vs:=[_,_]) (Hin:=C ca1 q1) (Hr:=[own b5 (.cells #[vI 2,AB t.cx,AB t.cy,vI t.lev,zN,vk,AB 0,vS []] 250),AD 146 2 vk Bd ks,own b1 (.cells #[AB 0,vS []] 146),own b0 (.cells #[AB t.cx,AB t.cy,vI t.lev,rv.val,kv.val] 204)]++H) E E ⟨E,E,zT⟩ mc E E hcon ?_
  intro u0 M0 hpost
  rw[←hpo]at hpost
  obtain⟨rfl,ca2,rfl⟩:=hpost
  refine⟨FF.mid (A:=[own b5 (.cells #[vI 2,AB t.cx,AB t.cy,vI t.lev,zN,vk,AB 0,vS []] 250),AD 146 2 vk Bd ks,own b1 (.cells #[AB 0,vS []] 146),own b0 (.cells #[AB t.cx,AB t.cy,vI t.lev,rv.val,kv.val] 204)]) ⟨⟨0,rfl⟩,⟨3,rfl⟩,trivial⟩,?_⟩
  refine SL.heap ?_ (fun _ hw=>Ey (A:=C ca2 y.2) (B:=[own b5 (.cells #[vI 2,AB t.cx,AB t.cy,vI t.lev,zN,vk,AB 0,vS []] 250),AD 146 2 vk Bd ks,own b1 (.cells #[AB 0,vS []] 146),own b0 (.cells #[AB t.cx,AB t.cy,vI t.lev,rv.val,kv.val] 204)]) (R:=H) hw)
  refine CA [_] rfl Jk EZ FU ⟨rfl,trivial⟩ rfl rfl rfl zW rfl rfl (fun _=>⟨⟨1,rfl⟩,⟨4,rfl⟩,trivial⟩) fun b8=>?_
  refine B4 Bd 2 ([y.1]:List BR) E zV E ?_
  refine Cr 2 hac (sz:=2) (enc:=Bd) zV E Jk EZ qR FU E zD E E E E (B8 (sz:=2) (enc:=Bd) 0 zV E) (by simp[Bd,Value.oneCell']) (fun _=>⟨⟨1,E⟩,⟨4,E⟩,zT⟩) fun v6=>?_
  refine AE E GK (BU ?_)
  refine Cs 2 E fun hv6 ho6=>?_
  refine EW 1 E E E E sP hv6 ho6 E zT (AZ (Av (AJ (AM (J E (Z E (Bh zO zO) (U E (AZ ?_))))))))
  exact A1 (i+1,ac,v6,y.2,ca2) ⟨hlt,h2⟩ (by dsimp only;omega) tL (BM [1,2,3,4] 5 E E E)
  have hge:i=t.kids.length:=by
   have:=of_decide_eq_false hc2
   omega
  subst hge
  rw[List.drop_length,TV]at h
  replace h:pl ⟨2,t.cx,t.cy,t.lev,[],ks,0,[]⟩ q1=some r:=h
  refine A5 (BC (Bb (BB (AJ (SX.pick [1,0,2,3] 4 (Y (J E (Aw [vI 2,AB t.cx,AB t.cy,vI t.lev,zN,vk,AB 0,vS []] E YI E E (Ap 1 E) ?_))))))))
  refine SL.heap ?_ (fun _ hw=>aE (A:=[own b5 (.cells #[vI 2,AB t.cx,AB t.cy,vI t.lev,zN,vk,AB 0,vS []] 250),own b1 (.cells #[AB 0,vS []] 146),own b0 (.cells #[AB t.cx,AB t.cy,vI t.lev,rv.val,kv.val] 204)]) (B:=C ca1 q1) (R:=H) hw)
  have hcon:=CJ (K:=K) (w0:=w0) (H:=([own b5 (.cells #[vI 2,AB t.cx,AB t.cy,vI t.lev,.slice none 0 0,vk,AB 0,vS []] 250),own b1 (.cells #[AB 0,vS []] 146),own b0 (.cells #[AB t.cx,AB t.cy,vI t.lev,rv.val,kv.val] 204)]++H)++[Bf D]) (f:=160) (B:=[AD 146 2 vk Bd ks]) (Hin:=C ca1 q1) fun K' w1 hkk hB=>hpl (a:=ca1) (v4:=.slice none 0 0) (v5:=vk) (hI hi hkk) h (S8 zV) (Bp (e:=146) (v:=vk) zV (hB _ zS))
  refine BT (vs:=[_,_]) (Hin:=AD 146 2 vk Bd ks::C ca1 q1) (Hr:=[own b5 (.cells #[vI 2,AB t.cx,AB t.cy,vI t.lev,zN,vk,AB 0,vS []] 250),own b1 (.cells #[AB 0,vS []] 146),own b0 (.cells #[AB t.cx,AB t.cy,vI t.lev,rv.val,kv.val] 204)]++H) E E ⟨E,E,zT⟩ mr E E hcon ?_
  rintro _ _ ⟨_,rfl,rfl,ca2,rfl⟩
  refine⟨trivial,?_⟩
  refine SL.heap ?_ (fun _ hw=>Ey (A:=AD 146 2 vk Bd ks::C ca2 r.2) (B:=[own b5 (.cells #[vI 2,AB t.cx,AB t.cy,vI t.lev,zN,vk,AB 0,vS []] 250),own b1 (.cells #[AB 0,vS []] 146),own b0 (.cells #[AB t.cx,AB t.cy,vI t.lev,rv.val,kv.val] 204)]) (R:=H) hw)
  refine A3 1 E E E E EZ E E E zT (V (AK (Aa ?_)))
  exact An (GM E (B2 1 (Bd r.1) DC E E E E)) (Ao (M:=C ca2 r.2) ⟨E,ca2,E⟩ fun _ hw=>Bj.pick (H:=[_,_,_,_]) hw [] 4 E)
  refine AI (AJ (Y (B5 [] E Oy Ox FU zT E ?_)))
  refine Au E FU zU fun b7=>?_
  refine A3 0 E E E E EZ E E E zT (V (AH (Y (AE E Sn (AG 2 HI E (Bt hr E Ca E (ie E E E (Z E (EV zO zO) (Z E (oD zO zO zO) (Z E (PH zO zO) ?_))))))))))
  refine Ay (u:=vI (4*(((max t.rows.length 1-1) / 4+1:Nat):Int)-4)) E E (congrArg vI zO) ?_
  refine V (AN ?_)
  refine SX.mono (BK (α:=Nat×BR×σ×α) (fun x=>x.1≤300000∧VE pl t.rows x.1 x.2.1 x.2.2.1=some r)
   (fun x=>[(0,vP bk 0),(3,vP b0 0),(4,vP b1 0),(7,vP b7 0),(8,vI (4*(x.1:Int)-4))])
   (fun x=>own b7 (.cells #[AB x.2.1.page,vS x.2.1.tag] 146)::own b1 (.cells #[AB 0,vS []] 146)::own b0 (.cells #[AB t.cx,AB t.cy,vI t.lev,rv.val,kv.val] 204)::(C x.2.2.2 x.2.2.1++H))
   (fun x=>x.1) (fun x D hp=>?_) ((max t.rows.length 1-1) / 4+1,⟨0,[]⟩,q,ca) ⟨by dsimp only;omega,h⟩) tL
  clear h
  obtain⟨j,w,q1,ca1⟩:=x
  obtain⟨hj,h⟩:=hp
  dsimp only at hj h ⊢
  refine AH (Y (J E (Z E M8 (V ?_))))
  refine A7 E (fun hc2=>?_) (fun hc2=>?_)
  obtain⟨j,rfl⟩:∃j',j=j'+1:=⟨j-1,by have:=of_decide_eq_true hc2;omega⟩
  clear hc2
  refine AF h fun pc hpc h=>?_
  refine AF h fun y hy h=>?_
  refine AI (AJ (AH (AN (Ax Cz [2,0] (Bs [(true,0),(true,1),(true,2),(true,3),(true,4),(true,5),(true,6),(true,7),(true,8),(true,9),(true,10),(true,11),(true,12),(false,13)] (.last 14 .nil)) zK (J E (AE E Sn (AG 0 HI E (J E (AE E Sn (AG 0 HI E (Bt hr E Ca E ?_)))))))))))
  refine J E (Z E (Bh zO zO) (XC E E E ?_))
  have hpc':Iu t.rows (4*((j+1:Nat):Int)-4) (min (t.rows.length:Int) (4*((j+1:Nat):Int)-4+4))=some pc:=by
   rw[←hpc]
   congr 1<;>omega
  refine px hpc' hr E Ca DQ E E E fun vpc hspc=>?_
  obtain⟨spc,rfl⟩:=hspc.slv
  refine Aw (Bd w) E DC E E (Ap 1 E) (B5 [_,_,_] E ga gY Y1 ⟨E,E,E,zT⟩ E ?_)
  refine SL.heap ?_ (fun _ hw=>Ey (A:=[own b7 (.cells #[AB w.page,vS w.tag] 146),own b1 (.cells #[AB 0,vS []] 146),own b0 (.cells #[AB t.cx,AB t.cy,vI t.lev,rv.val,kv.val] 204)]) (B:=C ca1 q1) (R:=H) hw)
  have hcon:=hpl (K:=K) (w0:=w0) (H:=([own b7 (.cells #[AB w.page,vS w.tag] 146),own b1 (.cells #[AB 0,vS []] 146),own b0 (.cells #[AB t.cx,AB t.cy,vI t.lev,rv.val,kv.val] 204)]++H)++[Bf D]) (a:=ca1) (v4:=spc.val) (v5:=.slice none 0 0) hi hy hspc (S8 zV)
  refine BT (vs:=[_,_]) (Hin:=C ca1 q1) (Hr:=[own b7 (.cells #[AB w.page,vS w.tag] 146),own b1 (.cells #[AB 0,vS []] 146),own b0 (.cells #[AB t.cx,AB t.cy,vI t.lev,rv.val,kv.val] 204)]++H) E E ⟨E,E,zT⟩ mr E E hcon ?_
  rintro _ _ ⟨rfl,ca2,rfl⟩
  refine⟨FF.mid (A:=[own b7 (.cells #[AB w.page,vS w.tag] 146),own b1 (.cells #[AB 0,vS []] 146),own b0 (.cells #[AB t.cx,AB t.cy,vI t.lev,rv.val,kv.val] 204)]) ⟨⟨2,rfl⟩,⟨0,rfl⟩,trivial⟩,?_⟩
  refine SL.heap ?_ (fun _ hw=>Ey (A:=C ca2 y.2) (B:=[own b7 (.cells #[AB w.page,vS w.tag] 146),own b1 (.cells #[AB 0,vS []] 146),own b0 (.cells #[AB t.cx,AB t.cy,vI t.lev,rv.val,kv.val] 204)]) (R:=H) hw)
  refine BU (A3 0 E E E E EZ E E E zT (AZ (Av (AJ (AM (J E (Z E (EV zO zO) ?_)))))))
  refine Ay (u:=vI (4*(j:Int)-4)) E E (congrArg vI zO) ?_
  refine AZ ?_
  exact A1 (j,y.1,y.2,ca2) ⟨by omega,h⟩ (by dsimp only;omega) tL (fun _ h=>h)
  obtain rfl:j=0:=by
   have:=of_decide_eq_false hc2
   omega
  obtain rfl:(w,q1)=r:=zI h
  refine A5 (BC (Bb (BB (AJ (Y (Aw (Bd w) E DC E E (Ap 0 E) (A3 1 E E E E EZ E E E zT (V (AK ?_)))))))))
  exact An (GM E (B2 1 (Bd w) DC E E E E)) (Ao (M:=C ca1 q1) ⟨E,ca1,E⟩ fun _ hw=>Bj.pick (H:=[_,_,_]) hw [] 3 E)
end

section
variable {K:Nat→Prop}{w0:World}{H:List AX}
end

section
variable {K:Nat→Prop}{w0:World}{H:List AX}
abbrev ep(bv bd:Nat)(vr vt v0 v1 v2:Value)(v:BW)(d:A6):List AX:=
 [wO bv bd vr vt v,AD 55 2 vr AU v.ring,AD 4 1 vt eB v.taken,eO bd v0 v1 v2 d,AD 9 1 v0 eS d.blk,AD 9 1 v1 eS d.pnd,AD 4 1 v2 eB d.bads]
end

section
variable {K:Nat→Prop}{w0:World}{H:List AX}
end

section
variable {K:Nat→Prop}{w0:World}{H:List AX}
structure WP where
 out:List Ak
 took:List UInt32
 err:Int
def RI(n:Nat)(T:List UInt32)(had:List Ak)(s:List UInt8)(out:List Ak)(tk:List UInt32)(e:Int)(v:BW)(d:A6):Option (BR×(WP×BW×A6)):=
 cond (!decide (e=0)) (some (⟨0,[]⟩,(⟨out,tk,e⟩,v,d)))
  (if 1048576<had.length then none else match had.find? (fun x=>decide (x.txt=s))with
   | some x=>(C8 40 out [⟨s,x.page,x.tag⟩]).bind fun l=>some (⟨x.page,x.tag⟩,(⟨l,tk,e⟩,v,d))
   | none=>(HC n T v d s).bind fun w=>cond (!decide (w.2.1=0)) (some (⟨0,[]⟩,(⟨out,tk,w.2.1⟩,w.2.2)))
     ((C8 4 tk [w.1.page]).bind fun k=>(C8 40 out [⟨s,w.1.page,w.1.tag⟩]).bind fun l=>some (w.1,(⟨l,k,e⟩,w.2.2))))
def Ps(n:Nat)(T:List UInt32)(had:List Ak)(x:C4)(q:WP×BW×A6):Option (BR×(WP×BW×A6)):=
 (Fr n x).bind fun y=>RI n T had y.1 q.1.out q.1.took (bif !decide (y.2=0)&&decide (q.1.err=0)then y.2 else q.1.err) q.2.1 q.2.2
abbrev xX(bk bv bd:Nat)(vh vr vt v0 v1 v2:Value)(a:Value×Value)(q:WP×BW×A6):List AX:=
 own bk (.cells #[vP bv 0,vh,a.1,a.2,vI q.1.err,.slice none 0 0] 229)::AD 148 3 a.1 AS q.1.out::AD 36 1 a.2 BV q.1.took::ep bv bd vr vt v0 v1 v2 q.2.1 q.2.2
theorem oS{n bk bv bd:Nat}{T:List UInt32}{vh vr vt v0 v1 v2 v4 v5:Value}{a:Value×Value}{had:List Ak}{x:C4}{q:WP×BW×A6}{r:BR×(WP×BW×A6)}(h:Ps n T had x q=some r)(hT:Jl K w0 2 64 T)(hm:By K w0 AS 3 vh had)(hs4:By K w0 AV 4 v4 x.rows)(hs5:By K w0 Bd 2 v5 x.kids):
  zC K w0 160 [vP bk 0,.agg #[vI x.kind,AB x.cx,AB x.cy,vI x.lev,v4,v5,AB x.npage,vS x.ntag]] (xX bk bv bd vh vr vt v0 v1 v2 a q) H
   (fun u M=>u=.agg (Bd r.1).toArray∧∃a',M=xX bk bv bd vh vr vt v0 v1 v2 a' r.2):=by
 obtain⟨⟨out,tk,er⟩,v,d⟩:=q
 obtain⟨vo,vk⟩:=a
 unfold Ps at h
 obtain⟨⟨s,e⟩,hy,h⟩:=bnd h
 dsimp only at h
 refine WN.enter Tryz.func160 rfl rfl ?_
 refine Y ?_
 refine Bg E E zU fun b0=>?_
 refine Au E FU zU fun b1=>?_
 refine V (Y (Aw [vI x.kind,AB x.cx,AB x.cy,vI x.lev,v4,v5,AB x.npage,vS x.ntag] E YI E E (Ap 1 E) (AQ 0 uQ (Zg hy hs4 hs5) E (J E (Ah E E E (Ah E E E (U E (U E (V ?_)))))))))
 refine A8 (α:=Int) (fun e=>RI n T had s out tk e v d=some r) (fun _=>[(0,vP bk 0),(4,vP b1 0),(5,vS s)]) (fun e=>own b1 (.cells #[AB 0,vS []] 146)::own b0 (.cells #[vI x.kind,AB x.cx,AB x.cy,vI x.lev,v4,v5,AB x.npage,vS x.ntag] 250)::own bk (.cells #[vP bv 0,vh,vo,vk,vI e,zN] 229)::AD 148 3 vo AS out::AD 36 1 vk BV tk::(ep bv bd vr vt v0 v1 v2 v d++H)) ?_ (fun e D h=>?_)
 refine Y (J E (Z E BQ (J E ?_)))
 refine CV (c:=decide (er=0)) 18 6 24 E (fun hb k=>?_) (fun hb k=>?_) ?_
 refine J E (AT E E (AE E Sp (AG 2 Sw E (Z E Ba (Ag E E E ?_)))))
 exact k.mono tL
 refine AC E (AC E (AC E (AC E (AC E (Ag E E E ?_)))))
 exact k.mono tL
 refine V ?_
 refine A7 E (fun hc1=>?_) (fun hc1=>?_)
 rw[hc1,CC]at h
 refine AM (J E (J E (AT E E (AE E Sp (A3 2 E E E E cX E E E zT (AZ ?_))))))
 exact Aq e h tL (fun _ h=>h)
 rw[hc1,BZ]at h
 refine AI ?_
 exact Aq er h tL (fun _ h=>h)
 unfold RI at h
 refine AH (Y (J E (AT E E (AE E Sp (AG 2 Sw E (Z E BQ (V ?_)))))))
 refine AL h E (fun hc2 h=>?_) fun hc2 h=>?_
 obtain rfl:=zI h
 refine Y (B5 [] E Oy Ox FU zT E (A3 0 E E E E EZ E E E zT (V (AK (Aa ?_)))))
 exact An (GM E (B2 0 (Bd ⟨0,[]⟩) DC E E E E)) (Ao (M:=_::_::_::_::_::_::_::_::_::_::[]) ⟨E,(vo,vk),E⟩ fun _ hw=>Bj.pick (H:=[_,_,_,_,_,_,_,_,_,_,_,_]) hw [2,3,4,5,6,7,8,9,10,11] 12 E)
 have he:e=0:=by simpa using hc2
 split at h
 cases h
 rename_i hbig
 refine AI (AJ (AH (Y (J E (AT E E (AE E jW (AG 2 Pf E (Dr E yS E E (V (C1 E (AI (AJ (AH (Y (U E (V (AN ?_)))))))))))))))))
 refine SX.mono (BK (α:=Nat) (fun i=>i≤had.length∧(had.drop i).find? (fun x=>decide (x.txt=s))=had.find? (fun x=>decide (x.txt=s))) (fun i=>[(0,vP bk 0),(4,vP b1 0),(5,vS s),(8,vI i)])
  (fun _=>own b1 (.cells #[AB 0,vS []] 146)::own b0 (.cells #[vI x.kind,AB x.cx,AB x.cy,vI x.lev,v4,v5,AB x.npage,vS x.ntag] 250)::own bk (.cells #[vP bv 0,vh,vo,vk,vI e,zN] 229)::AD 148 3 vo AS out::AD 36 1 vk BV tk::(ep bv bd vr vt v0 v1 v2 v d++H))
  (fun i=>had.length-i) (fun i D hp=>?_) 0 ⟨Nat.zero_le _,by rw[List.drop_zero]⟩) tL
 obtain⟨hi,hp⟩:=hp
 refine AH (Y (J E (J E (AT E E (AE E Xq (AG 2 K7 E (Bt hm E FH E (Z E A9 (V ?_)))))))))
 refine A7 E (fun hc4=>?_) (fun hc4=>?_)
 have hlt:i<had.length:=by have:=of_decide_eq_true hc4;omega
 clear hc4
 have hx1:BE had (i:Int)=some had[i]:=by
  rw[BE,if_pos zO]
  exact List.getElem?_eq_getElem hlt
 rw[List.drop_eq_getElem_cons hlt,List.find?_cons]at hp
 generalize had[i]=m at hx1 hp
 refine AI (AJ (AH (AN (Y (J E (AT E E (AE E Xq (AG 2 K7 E (J E ?_)))))))))
 refine Co hx1 hm E FH Ea E E fun be1 of1 hcc1=>?_
 refine AE E jV ?_
 refine Bm E HJ E (C5 (j:=0) hcc1 E) ?_
 refine J E (Z E aD (V ?_))
 refine A7 E (fun hc5=>?_) (fun hc5=>?_)
 rw[hc5]at hp
 rw[←hp]at h
 refine AF h fun l hl h=>?_
 obtain rfl:=zI h
 refine AH (Ax Cz [2] (Bs [(true,0),(true,1),(true,2),(true,3),(true,4),(true,5),(true,6),(true,7),(true,8),(true,9),(true,10),(true,11),(true,12),(true,13),(true,14),(false,15),(false,16),(true,17),(true,18)] (.last 19 .nil)) zK (J E (J E (AT E E (AE E Ux (AG 0 K7 E (J E (J E ?_))))))))
 refine AT E E (AE E Xq (AG 0 K7 E (J E ?_)))
 refine Co hx1 hm E FH Ea E E fun be2 of2 hcc2=>?_
 refine AE E EU ?_
 refine Aw [AB m.page,vS m.tag] E DC E E (fun w hw j u hu=>by
 rw[CU,Nat.add_assoc]
 refine hcc2 _ w hw (1+j) u ?_
 rw[Nat.add_comm 1 j]
 exact hu) ?_
 refine B5 [_,_] E lN lM In ⟨E,E,zT⟩ E ?_
 refine CA [_] rfl FH Ea In ⟨rfl,trivial⟩ rfl rfl rfl zW rfl rfl (fun _=>⟨⟨3,rfl⟩,trivial⟩) fun b6=>?_
 refine B4 AS 3 ([(⟨s,m.page,m.tag⟩:Ak)]:List Ak) E zV E ?_
 refine Cr 4 hl (sz:=3) (enc:=AS) zV E FH Ea fI In E zD E E E E (B8 (sz:=3) (enc:=AS) 0 zV E) (by simp[AS,Value.oneCell']) (fun _=>⟨⟨3,E⟩,zT⟩) fun v3=>?_
 refine AT E E (AE E Ux (BU ?_))
 refine Cs 4 E fun hv3 ho3=>?_
 refine EW 3 E E E E ny hv3 ho3 E zT (V (Y (J E (AT E E (AE E Xq (AG 3 K7 E (J E ?_)))))))
 refine Co hx1 hm E FH Ea E E fun be3 of3 hcc3=>?_
 refine AE E EU ?_
 refine Aw [AB m.page,vS m.tag] E DC E E (fun w hw j u hu=>by
 rw[CU,Nat.add_assoc]
 refine hcc3 _ w hw (1+j) u ?_
 rw[Nat.add_comm 1 j]
 exact hu) ?_
 refine A3 1 E E E E EZ E E E zT (V (AK (BI (Aa (EX (BI (Aa ?_)))))))
 exact An (GM E (B2 1 (Bd ⟨m.page,m.tag⟩) DC E E E E)) (Ao (M:=_::_::_::_::_::_::_::_::_::_::[]) ⟨E,(v3,vk),E⟩ fun _ hw=>Bj.pick (H:=[_,_,_,_,_,_,_,_,_,_,_,_,_]) hw [3,4,5,6,7,8,9,10,11,12] 13 E)
 rw[hc5]at hp
 refine AI (Av (AJ (AM (J E (Z E (Bh zO zO) (U E (AZ ?_)))))))
 exact A1 (i+1) ⟨hlt,hp⟩ zO tL (fun _ h=>h)
 have hge:i=had.length:=by have:=of_decide_eq_false hc4;omega
 subst hge
 rw[List.drop_length]at hp
 rw[←hp]at h
 refine AF h fun w hw1 h=>?_
 refine A5 (BC (Bb (BB (AJ (Y (J E (AT E E (AE E jW (AG 2 Pf E (J E (SL.pick [5,6,7,8,9,10,11,0,1,2,3,4] 12 (AQ 7 uR (Uf hw1 hT) E (J E ?_)))))))))))))
 refine Ah E E E (Ah E E E ?_)
 refine Au E FU zU fun b9=>?_
 refine A3 0 E E E E EZ E E E zT (U E (V (AH (Y (J E (Z E BQ (V ?_)))))))
 refine AL h E (fun hc6 h=>?_) fun hc6 h=>?_
 obtain rfl:=zI h
 refine Y (J E (J E (AT E E (AE E Sp (A3 10 E E E E cX E E E zT (V (Y (B5 [] E Oy Ox FU zT E (A3 8 E E E E EZ E E E zT (V (AK (Aa ?_))))))))))))
 exact An (GM E (B2 8 (Bd ⟨0,[]⟩) DC E E E E)) (Ao (M:=_::_::_::_::_::_::_::_::_::_::[]) ⟨E,(vo,vk),E⟩ fun _ hw=>Bj.pick (H:=[_,_,_,_,_,_,_,_,_,_,_,_,_]) hw [10,11,12,1,2,3,4,5,6,7] 13 E)
 refine AF h fun kk hkk h=>?_
 refine AF h fun l hl h=>?_
 obtain rfl:=zI h
 refine AI (AJ (AH (Ax Cz [10,0] (Bs [(true,0),(true,1),(true,2),(true,3),(true,4),(true,5),(true,6),(false,7),(false,8),(true,9),(true,10)] (.last 11 .nil)) zK (J E (J E (AT E E (AE E Xr (AG 0 Yq E (AE E Ds (AG 1 A4 E ?_))))))))))
 refine CA [_] rfl CT Bx H5 ⟨rfl,trivial⟩ rfl rfl rfl zW rfl rfl (fun _=>⟨⟨11,rfl⟩,⟨1,rfl⟩,trivial⟩) fun b6=>?_
 refine B4 BV 1 ([w.1.page]:List UInt32) E zV E ?_
 refine Cr 13 hkk (sz:=1) (enc:=BV) zV E CT Bx Sb H5 E zD E E E E (B8 (sz:=1) (enc:=BV) 0 zV E) (by simp[BV,Value.oneCell']) (fun _=>⟨⟨11,E⟩,⟨1,E⟩,zT⟩) fun v3=>?_
 refine AT E E (AE E Xr (BU ?_))
 refine Cs 13 E fun hv3 ho3=>?_
 refine EW 11 E E E E ln hv3 ho3 E zT (NA 11 (own bk (.cells #[vP bv 0,vh,vo,v3,vI e,zN] 229)) (V (AH (Ax Cz [11,1] (Bs [(true,0),(true,1),(true,2),(true,3),(true,4),(true,5),(true,6),(true,7),(false,8),(false,9),(true,10),(true,11)] (.last 12 .nil)) zK (J E (J E (AT E E (AE E Ux (AG 0 K7 E ?_)))))))))
 refine J E (Aw (Bd w.1) E DC E E (Ap 1 E) (B5 [_,_] E lN lM In ⟨E,E,zT⟩ E ?_))
 refine CA [_] rfl FH Ea In ⟨rfl,trivial⟩ rfl rfl rfl zW rfl rfl (fun _=>⟨⟨12,rfl⟩,⟨2,rfl⟩,trivial⟩) fun b8=>?_
 refine B4 AS 3 ([(⟨s,w.1.page,w.1.tag⟩:Ak)]:List Ak) E zV E ?_
 refine Cr 13 hl (sz:=3) (enc:=AS) zV E FH Ea fI In E zD E E E E (B8 (sz:=3) (enc:=AS) 0 zV E) (by simp[AS,Value.oneCell']) (fun _=>⟨⟨12,E⟩,⟨2,E⟩,zT⟩) fun v6=>?_
 refine AT E E (AE E Ux (BU ?_))
 refine Cs 13 E fun hv6 ho6=>?_
 refine EW 12 E E E E ny hv6 ho6 E zT (V (Y (Aw (Bd w.1) E DC E E (Ap 2 E) (A3 10 E E E E EZ E E E zT (V (AK ?_))))))
 exact An (GM E (B2 10 (Bd w.1) DC E E E E)) (Ao (M:=_::_::_::_::_::_::_::_::_::_::[]) ⟨E,(v6,v3),E⟩ fun _ hw=>Bj.pick (H:=[_,_,_,_,_,_,_,_,_,_,_,_,_,_,_]) hw [12,13,14,3,4,5,6,7,8,9] 15 E)
end

section
variable {K:Nat→Prop}{w0:World}{H:List AX}
def Sr(d:A6):BW→List UInt32→Option BW
 | v,[]=>some v
 | v,p::ps=>(GR v d p).bind fun y=>Sr d y.2 ps
def Vl(n:Nat)(T:List UInt32)(v:BW)(d:A6)(l:List Aj)(had:List Ak):Option (List Ak×Int×BW×A6):=
 (Qz n l).bind fun b=>cond (!decide (b.2=0)) (some ([],b.2,v,d))
  ((U4 (Ps n T had) n b.1 (⟨[],[],0⟩,v,d)).bind fun y=>
   cond (!decide (y.2.1.err=0)) (if 1048576<y.2.1.took.length then none else(Sr y.2.2.2 y.2.2.1 y.2.1.took).bind fun w=>some ([],y.2.1.err,w,y.2.2.2)) (some (y.2.1.out,0,y.2.2.1,y.2.2.2)))
theorem ef{n bv bd:Nat}{T:List UInt32}{vl vh vr vt v0 v1 v2:Value}{v:BW}{d:A6}{l:List Aj}{had:List Ak}{r:List Ak×Int×BW×A6}(h:Vl n T v d l had=some r)(hT:Jl K w0 2 64 T)(hl:By K w0 AV 4 vl l)(hm:By K w0 AS 3 vh had):
  zC K w0 89 [vP bv 0,vl,vh] (ep bv bd vr vt v0 v1 v2 v d) H (fun u M=>∃u0:Value,u=.tuple #[u0,vI r.2.1]∧M=AD 148 3 u0 AS r.1::ep bv bd vr vt v0 v1 v2 r.2.2.1 r.2.2.2):=by
 unfold Vl at h
 refine AF h fun b hb h=>?_
 obtain⟨sh,rfl⟩:=hm.slv
 refine WN.enter Tryz.func89 rfl rfl ?_
 refine Y (U E (U E (V (Y (J E (BY 0 te (mB hb hl) E ?_))))))
 rintro _ _ ⟨nv,L,rfl,hnz,rfl⟩
 refine J E (Ah E E E (Ah E E E ?_))
 refine Au E Ha zU fun b8=>?_
 refine A3 0 E E E E Gj E (List.all_eq_true.2 (KG nv)) E zT (U E (V (AH (Y (J E (Z E BQ (V ?_)))))))
 refine AL h E (fun hc1 h=>?_) fun hc1 h=>?_
 obtain rfl:=zI h
 refine Y (J E (U E (U E (V (AK (Aa (OK 148 3 AS ?_)))))))
 exact An (C9 E E E) (Ao (M:=_::ep bv bd vr vt v0 v1 v2 v d) ⟨_,E,E⟩ fun _ hw=>Bj.pick (H:=[_,_,_,_,_,_,_,_,_,_]) hw [0,3,4,5,6,7,8,9] 10 E)
 refine AF h fun y hy h=>?_
 refine AI (AJ (Y (J E (J E (B5 [_,_] E xy xj yi ⟨E,E,zT⟩ E ?_)))))
 refine Bg E E zU fun b10=>?_
 refine U E (V (SY 36 1 BV (SY 148 3 AS (Y (J E (Aw (CW nv) E KS E E (Ap 3 E) (SL.pick [4,2,0,1,5,6,7,8,9,10,11,3] 12 ?_)))))))
 refine BT (vs:=[_,_]) (Hin:=[_,_,_,_,_,_,_,_,_,_,_]) (Hr:=_::_) E E ⟨E,E,zT⟩ mc E E (CJ (B:=[_]) (Hin:=[_,_,_,_,_,_,_,_,_,_]) fun K' w1 hk hB=>i3 (bk:=b10) (I:=fun K w=>Jl K w 2 64 T∧By K w AS 3 sh.val had) (C:=xX b10 bv bd sh.val vr vt v0 v1 v2) (fun h hk=>⟨h.1.keeps hk,h.2.keeps hk⟩) (fun hi h h4 h5=>oS h hi.1 hi.2 h4 h5) n (ca:=(.slice none 0 0,zN)) ⟨hT.keeps hk,hm.keeps hk⟩ hy (hnz.lent (hB _ zS))) ?_
 rintro _ _ ⟨_,rfl,rfl,⟨vo,vk⟩,rfl⟩
 refine⟨trivial,?_⟩
 refine V (AH (Y (J E (AT E E (AE E Sp (AG 1 Sw E (Z E BQ (V ?_))))))))
 refine AL h E (fun hc2 h=>?_) fun hc2 h=>?_
 split at h
 cases h
 rename_i hbig
 refine AF h fun w hw h=>?_
 obtain rfl:=zI h
 refine AH (Y (U E (V (AN ?_))))
 refine SX.mono (BK (α:=Nat×BW) (fun x=>x.1≤y.2.1.took.length∧Sr y.2.2.2 x.2 (y.2.1.took.drop x.1)=some w) (fun x=>[(0,vP bv 0),(10,vP b10 0),(11,vI (x.1:Int))])
  (fun x=>Hm L::own b10 (.cells #[vP bv 0,sh.val,vo,vk,vI y.2.1.err,zN] 229)::AD 148 3 vo AS y.2.1.out::AD 36 1 vk BV y.2.1.took::(ep bv bd vr vt v0 v1 v2 x.2 y.2.2.2++(own b8 (.cells (CW nv).toArray 204)::H)))
  (fun x=>y.2.1.took.length-x.1) (fun x D hp=>?_) (0,y.2.2.1) ⟨Nat.zero_le _,hw⟩) tL
 obtain⟨i,u⟩:=x
 obtain⟨hi,hp⟩:=hp
 dsimp only at hi hp ⊢
 refine AH (Y (J E (J E (AT E E (AE E Xr (AG 1 Yq E (DL 3 E CT E E (Z E A9 (V ?_)))))))))
 refine A7 E (fun hc3=>?_) (fun hc3=>?_)
 have hlt:i<y.2.1.took.length:=by have:=of_decide_eq_true hc3;omega
 clear hc3
 have hx1:BE y.2.1.took (i:Int)=some y.2.1.took[i]:=by
  rw[BE,if_pos zO]
  exact List.getElem?_eq_getElem hlt
 rw[List.drop_eq_getElem_cons hlt,Sr]at hp
 obtain⟨g,hg,hp⟩:=bnd hp
 refine AI (AJ (AH (AN (AM (J E (J E (AT E E (AE E Xr (AG 1 Yq E (J E ?_))))))))))
 refine B6 3 hx1 E CT Bx E E E fun g1 m2 cp1 hv1=>?_
 refine Bm E A4 E (Bq (sz:=1) (enc:=BV) 3 0 zV E hv1 hx1 E) ?_
 refine SL.pick [4,5,6,7,8,9,10,0,1,2,3,11] 12 (AQ 7 md (QX hg) E (AZ (Av (AJ (AM (J E (Z E (Bh zO zO) (U E (AZ ?_)))))))))
 exact A1 (i+1,g.2) ⟨hlt,hp⟩ (by dsimp only;omega) tL (BM [7,8,9,10,0,1,2,3,4,5,6,11] 12 E E E)
 have hge:i=y.2.1.took.length:=by have:=of_decide_eq_false hc3;omega
 subst hge
 rw[List.drop_length]at hp
 obtain rfl:=zI (show some u=some w from hp)
 refine A5 (BC (Bb (BB (AJ (AH (Ax Cz [1] (Pl.of (G4 0 6)) zK (J E (AT E E (AE E Sp (AG 0 Sw E (U E (U E (V (AK (Aa (OK 148 3 AS ?_))))))))))))))))
 exact An (C9 E E E) (Ao (M:=_::ep bv bd vr vt v0 v1 v2 u y.2.2.2) ⟨_,E,E⟩ fun _ hw=>Bj.pick (H:=[_,_,_,_,_,_,_,_,_,_,_,_,_]) hw [0,5,6,7,8,9,10,11] 13 E)
 obtain rfl:=zI h
 refine AI (AJ (Y (J E (AT E E (AE E Ux (AG 1 K7 E (U E (U E (V (AK ?_))))))))))
 exact An (C9 E E E) (Ao (M:=AD 148 3 vo AS y.2.1.out::ep bv bd vr vt v0 v1 v2 y.2.2.1 y.2.2.2) ⟨_,E,E⟩ fun _ hw=>Bj.pick (H:=[_,_,_,_,_,_,_,_,_,_,_,_]) hw [2,4,5,6,7,8,9,10] 12 E)
end

section
variable {K:Nat→Prop}{w0:World}{H:List AX}
end

section
theorem yG(r:Aj):FV r=some (HY r):=by
 unfold FV HY
 rw[BN]
 congr 1
 rw[Bool.eq_iff_iff]
 simp only[Bool.and_eq_true,decide_eq_true_eq,UInt32.lt_iff_toNat_lt,K8]
 have h6:(2147483648:UInt32).toNat=2147483648:=rfl
 omega
theorem gk{l:List Aj}{k:Nat}(h:k+1<l.length):FK (l.drop k)=(decide (l[k].id<l[k+1].id)&&FK (l.drop (k+1))):=by
 rw[List.drop_eq_getElem_cons (show k<l.length by omega),List.drop_eq_getElem_cons h]
 rfl
theorem ZQ{n:Nat}{l:List Aj}(hn:l.length<n)(hb:l.length≤1048576):E3 n l=some (Du l):=by
 unfold E3 Du
 by_cases h1000:1000<l.length
 rw[zt zO,CC,zf (show ¬(l.length:Int)≤1000 by omega),Bool.and_false]
 rw[zf zO,BZ,zt (show(l.length:Int)≤1000 by omega),Bool.and_true]
 have key:∀(d k m:Nat),k+d=l.length→d<m→EQ l m (k:Int)=some ((l.drop k).all HY&&FK (l.drop (k-1))):=by
  intro d
  induction d with
  | zero=>
   intro k m hk hm
   obtain⟨m,rfl⟩:∃j,m=j+1:=⟨m-1,by omega⟩
   have hk':k=l.length:=zO
   have h2:FK (l.drop (k-1))=true:=by
    have:(l.drop (k-1)).length≤1:=by simp;omega
    rcases hd:l.drop (k-1)with _ | ⟨a,_ | ⟨b,t⟩⟩
    rfl
    rfl
    rw[hd]at this
    simp at this
   rw[h2,show l.drop k=[] by rw[hk'];simp]
   show DV l (EQ l m) _=_
   unfold DV
   rw[zf zO,BZ]
   rfl
  | succ d ih=>
   intro k m hk hm
   obtain⟨m,rfl⟩:∃j,m=j+1:=⟨m-1,by omega⟩
   have hkl:k<l.length:=zO
   have n1:BE l (k:Int)=some l[k]:=by rw[Fo rfl,List.getElem?_eq_getElem hkl]
   have e1:(l.drop k).all HY=(HY l[k]&&(l.drop (k+1)).all HY):=by rw[List.drop_eq_getElem_cons hkl];rfl
   show DV l (EQ l m) _=_
   unfold DV
   rw[zt zO,CC,n1,AA,yG,AA]
   have hnx:(ret (wI ((k:Int)+1)) fun i_1=>EQ l m i_1)=some ((l.drop (k+1)).all HY&&FK (l.drop k)):=by
    rw[BN,CR zO zO]
    exact ih (k+1) m zO zO
   rw[hnx,e1]
   cases hr:HY l[k]with
   | false=>rfl
   | true=>
    rcases Nat.eq_zero_or_pos k with rfl | hk0
    rfl
    have n2:BE l (wI ((k:Int)-1))=some l[k-1]:=by
     rw[CR zO zO,Fo (k:=k-1) zO,List.getElem?_eq_getElem zO]
    have e2:FK (l.drop (k-1))=(decide (l[k-1].id<l[k].id)&&FK (l.drop k)):=by
     have:=gk (l:=l) (k:=k-1) zO
     simpa[Nat.sub_add_cancel hk0]using this
    rw[e2,zt zO,n2]
    simp only[Tc,GA,Bool.not_true,BZ,CC,AA,ZZ]
    cases decide (l[k-1].id<l[k].id)<;>simp
 have:=key l.length 0 n zO hn
 simpa using this
theorem ip{n:Nat}{l:List Aj}(hn:1100≤n)(hl:l.length<n)(hb:l.length≤1048576):Qz n l=Qa n l:=by
 cases h:Du l with
 | false=>
  rw[oQ hl zO h]
  unfold Qz
  rw[ZQ hl hb,AA,h]
  rfl
 | true=>
  obtain⟨t,h1,_,h2⟩:=dT (n:=n) zO h
  obtain⟨t',g1,g2⟩:=iq hn h
  rw[h1,g1,Tr.uniq g2 h2]
end

section
end

section
theorem wA(x:UInt32)(n:Nat)(h:n≤32):EM x (n:Int)=some (rl x n):=by
 unfold EM
 rw[VH,AA,CR zO zO,show(32-(n:Int))=((32-n:Nat):Int) by omega,VH,AA]
 rfl
theorem lT(a b c d:UInt32):Jy a b c d=some (Q4.quarter ⟨a,b,c,d⟩).list:=by
 have t16:∀x,EM x 16=some (rl x 16):=fun x=>wA x 16 zD
 have t12:∀x,EM x 12=some (rl x 12):=fun x=>wA x 12 zD
 have t8:∀x,EM x 8=some (rl x 8):=fun x=>wA x 8 zD
 have t7:∀x,EM x 7=some (rl x 7):=fun x=>wA x 7 zD
 simp only[Jy,ret,t16,t12,t8,t7,AA]
 rfl
theorem oA(s:List UInt8)(i:Nat)(h:i+3<s.length)(hi:s.length≤1099511627776):LF s (i:Int)=some (Lp s i):=by
 unfold LF
 rw[DG (k:=i) 0 rfl zO,AA,CR zO zO,DG (k:=i+1) 0 zO zO,AA,
  CR zO zO,DG (k:=i+2) 0 zO zO,AA,CR zO zO,DG (k:=i+3) 0 zO zO,AA]
 rfl
theorem mE(c:UInt32):Lp (HG c) 0=c:=by
 apply UInt32.toNat_inj.1
 have hc:=c.toNat_lt
 have e8:∀k,k≤32→(shr32 c k).toNat=c.toNat / 2^k:=fun k hk=>by
  simp only[shr32,UInt32.toNat_ofNat',Nat.min_eq_left hk]
  exact Nat.mod_eq_of_lt (Nat.lt_of_le_of_lt (Nat.div_le_self _ _) hc)
 have s8:∀(x:UInt8) k,k≤24→(shl32 x.toUInt32 k).toNat=x.toNat*2^k:=fun x k hk=>by
  have hx:=x.toNat_lt
  simp only[shl32,UInt32.toNat_ofNat',UInt8.toNat_toUInt32,Nat.min_eq_left (show k≤32 by omega)]
  refine Nat.mod_eq_of_lt ?_
  calc x.toNat*2^k<2^8*2^k:=Nat.mul_lt_mul_of_pos_right hx (Nat.two_pow_pos k)
   _=2^(8+k):=(Nat.pow_add 2 8 k).symm
   _≤2^32:=Nat.pow_le_pow_right zD zO
 have key:∀(a b k:Nat),a<2^k→a ||| b*2^k=a+b*2^k:=fun a b k h=>by
  rw[Nat.or_comm,Nat.mul_comm,←Nat.two_pow_add_eq_or_of_lt h,Nat.add_comm]
 show(Lp [c.toUInt8,(shr32 c 8).toUInt8,(shr32 c 16).toUInt8,(shr32 c 24).toUInt8] 0).toNat=_
 simp only[Lp,NX,List.getD_cons_zero,List.getD_cons_succ,Nat.zero_add]
 rw[UInt32.toNat_or,UInt32.toNat_or,UInt32.toNat_or,s8 _ 8 zO,s8 _ 16 zO,s8 _ 24 zO]
 simp only[UInt8.toNat_toUInt32,UInt32.toNat_toUInt8,e8 8 zO,e8 16 zO,e8 24 zO]
 rw[key _ _ 8 zO,key _ _ 16 zO,key _ _ 24 zO]
 omega
theorem sN(key:List UInt8)(counter:UInt32)(nonce:List UInt8)(hk:key.length=32)(hn:nonce.length=12){n:Nat}(hm:8<n):Ly n key counter nonce=some (JA key counter nonce):=by
 have hw:∀(s:List UInt8) (i:Nat),i<s.length / 4→(Ch s).take (i+1)=(Ch s).take i++[Lp s (4*i)]:=fun s i hi=>by
  rw[List.take_add_one,List.getElem?_eq_getElem (by rw[FD];exact hi)]
  simp[Ch]
 have he:Ch Lv=[1634760805,857760878,2036477234,1797285236]:=by decide
 have hc:Ch (HG counter)=[counter]:=by
  have:Ch (HG counter)=[Lp (HG counter) 0]:=by
   unfold Ch
   rw[show(HG counter).length=4 from rfl]
   rfl
  rw[this,mE]
 unfold Ly Lf
 have h2:JI n counter nonce (Ch Lv++Ch key)=some (JA key counter nonce):=by
  unfold JI Lg
  have hlk:(Ch key).length=8:=by rw[FD,hk]
  rw[DM (by simp[he,hlk]) (by simp[he,hlk]),AA]
  refine(congrArg (CI _ n) ?_).trans (Et (fun i=>(Ch Lv++Ch key++[counter]++(Ch nonce).take i,(i:Int))) 3 (fun i hi k=>?_) (fun k=>?_) zO)
  simp
  simp only[Hj,show decide ((i:Int)<3)=true by simp;omega,CC]
  rw[CR zO zO,show 4*(i:Int)=((4*i:Nat):Int) by omega,oA nonce (4*i) zO zO,AA,DM (by simp[he,hlk,FD];omega) (by simp[he,hlk,FD];omega),AA]
  simp only[ret]
  rw[CR zO zO,hw nonce i zO]
  simp
  simp only[Hj,show decide (((3:Nat):Int)<3)=false by decide,BZ,Le]
  rw[List.take_of_length_le (by have:=FD nonce;omega)]
  simp[JA,hc]
 refine(congrArg (CI _ n) ?_).trans (Et (fun i=>(Ch Lv++(Ch key).take i,(i:Int))) 8 (fun i hi k=>?_) (fun k=>?_) hm)
 simp[he]
 simp only[Hi,show decide ((i:Int)<8)=true by simp;omega,CC]
 rw[CR zO zO,show 4*(i:Int)=((4*i:Nat):Int) by omega,oA key (4*i) zO zO,AA,DM (by simp[he,FD];omega) (by simp[he,FD];omega),AA]
 simp only[ret]
 rw[CR zO zO,hw key i zO]
 simp
 simp only[Hi,show decide (((8:Nat):Int)<8)=false by decide,BZ]
 rw[List.take_of_length_le (by have:=FD key;omega)]
 exact h2
theorem yw(ws:List UInt32)(ix:Nat→Nat)(h:∀k,k<4→ix k<ws.length):Db ws (ix 0:Int) (ix 1:Int) (ix 2:Int) (ix 3:Int)=some (pE ws ix):=by
 unfold Db
 have h0:=h 0 zD
 have h1:=h 1 zD
 have h2:=h 2 zD
 have h3:=h 3 zD
 have g:∀(l:List UInt32) (k:Nat),k<l.length→BE l (k:Int)=some (l.getD k 0):=fun l k hk=>DG 0 rfl hk
 rw[g _ _ h0,AA,g _ _ h1,AA,g _ _ h2,AA,g _ _ h3,AA,lT,AA]
 generalize hq:Q4.quarter ⟨ws.getD (ix 0) 0,ws.getD (ix 1) 0,ws.getD (ix 2) 0,ws.getD (ix 3) 0⟩=q
 have q0:BE q.list 0=some q.a:=rfl
 have q1:BE q.list 1=some q.b:=rfl
 have q2:BE q.list 2=some q.c:=rfl
 have q3:BE q.list 3=some q.d:=rfl
 simp only[q0,q1,q2,q3,AA,KH rfl h0,g (ws.set (ix 0) q.a) (ix 1) (by simpa using h1),KH rfl (show ix 1<(ws.set (ix 0) q.a).length by simpa using h1),
  g ((ws.set (ix 0) q.a).set (ix 1) q.b) (ix 2) (by simpa using h2),KH rfl (show ix 2<((ws.set (ix 0) q.a).set (ix 1) q.b).length by simpa using h2),
  g (((ws.set (ix 0) q.a).set (ix 1) q.b).set (ix 2) q.c) (ix 3) (by simpa using h3),KH rfl (show ix 3<(((ws.set (ix 0) q.a).set (ix 1) q.b).set (ix 2) q.c).length by simpa using h3)]
 unfold pE
 rw[hq]
 rfl
theorem qP(key:List UInt8)(counter:UInt32)(nonce:List UInt8)(hk:key.length=32)(hn:nonce.length=12){n:Nat}(hm:16<n):IT n key counter nonce=some (LV key counter nonce,0):=by
 have hb:=OL (counter:=counter) hk hn
 unfold IT
 rw[show((!decide ((key.length:Int)=32))||(!decide ((nonce.length:Int)=12)))=false by simp[hk,hn]]
 simp only[BZ]
 rw[sN key counter nonce hk hn zO,AA]
 generalize hw:JA key counter nonce=w at hb
 rw[DM (by simp[hb]) (by simp[hb]),AA,List.nil_append]
 have hl:∀l:List UInt32,(l.flatMap HG).length=4*l.length:=by
  intro l
  induction l with
  | nil=>rfl
  | cons x r ih=>rw[List.flatMap_cons,List.length_append,ih,List.length_cons];simp[HG];omega
 have h3:∀ws:List UInt32,ws.length=16→HN n w ws=some ((List.zipWith (·+·) ws w).flatMap HG,0):=by
  intro ws ht
  have hz:(List.zipWith (·+·) ws w).length=16:=by simp[ht,hb]
  have hg:∀i,i<16→(List.zipWith (·+·) ws w)[i]? = some (ws.getD i 0+w.getD i 0):=fun i hi=>by
   simp[List.getD_eq_getElem?_getD,ht,hb,hi]
  generalize List.zipWith (·+·) ws w=z at hz hg
  unfold HN Ld
  refine(congrArg (CI _ n) ?_).trans (Et (fun i=>((z.take i).flatMap HG,(i:Int))) 16 (fun i hi k=>?_) (fun k=>?_) zO)
  simp
  have ei:((i+1:Nat):Int)=(i:Int)+1:=zO
  have st:(z.take (i+1)).flatMap HG=(z.take i).flatMap HG++HG (ws.getD i 0+w.getD i 0):=by
   rw[List.take_add_one,hg i hi,List.flatMap_append]
   simp
  dsimp only
  rw[st,ei]
  simp only[Hh,show decide ((i:Int)<16)=true by simp;omega,CC,ret]
  rw[DG (k:=i) 0 rfl zO,AA,DG (k:=i) 0 rfl zO,AA,DM (by rw[hl];simp[hz];omega) (by rw[hl];simp[hz];omega),AA,CR zO zO]
  rfl
  simp only[Hh,show decide (((16:Nat):Int)<16)=false by decide,BZ,Lb]
  rw[List.take_of_length_le zO]
 have h2:HN n w (VL w 10)=some (LV key counter nonce,0):=by
  rw[h3 _ (by rw[O5,hb])]
  unfold LV nm
  rw[hw]
 unfold Lc
 refine(congrArg (CI _ n) ?_).trans (Et (fun i=>(VL w i,(i:Int))) 10 (fun i hi k=>?_) (fun k=>?_) zO)
 rfl
 simp only[Hg,show decide ((i:Int)<10)=true by simp;omega,CC,ret]
 have hl0:(VL w i).length=16:=by rw[O5,hb]
 have hA:∀(l:List UInt32) (s j:Nat),l.length=16→j<4→Db l (Ji s j 0:Int) (Ji s j 1:Int) (Ji s j 2:Int) (Ji s j 3:Int)=some (pE l (Ji s j)):=fun l s j hl hj=>yw l (Ji s j) (fun k hk=>by unfold Ji;omega)
 have r:∀(l:List UInt32) (s:Nat),l.length=16→∀j,(ER l s j).length=16:=fun l s hl j=>by rw[MH,hl]
 have a0:∀l:List UInt32,l.length=16→Db l 0 4 8 12=some (ER l 0 1):=fun l hl=>hA l 0 0 hl zD
 have a1:∀l:List UInt32,l.length=16→Db (ER l 0 1) 1 5 9 13=some (ER l 0 2):=fun l hl=>hA _ 0 1 (r _ _ hl _) zD
 have a2:∀l:List UInt32,l.length=16→Db (ER l 0 2) 2 6 10 14=some (ER l 0 3):=fun l hl=>hA _ 0 2 (r _ _ hl _) zD
 have a3:∀l:List UInt32,l.length=16→Db (ER l 0 3) 3 7 11 15=some (ER l 0 4):=fun l hl=>hA _ 0 3 (r _ _ hl _) zD
 have b0:∀l:List UInt32,l.length=16→Db l 0 5 10 15=some (ER l 1 1):=fun l hl=>hA l 1 0 hl zD
 have b1:∀l:List UInt32,l.length=16→Db (ER l 1 1) 1 6 11 12=some (ER l 1 2):=fun l hl=>hA _ 1 1 (r _ _ hl _) zD
 have b2:∀l:List UInt32,l.length=16→Db (ER l 1 2) 2 7 8 13=some (ER l 1 3):=fun l hl=>hA _ 1 2 (r _ _ hl _) zD
 have b3:∀l:List UInt32,l.length=16→Db (ER l 1 3) 3 4 9 14=some (ER l 1 4):=fun l hl=>hA _ 1 3 (r _ _ hl _) zD
 have hl4:=r _ 0 hl0 4
 rw[a0 _ hl0,AA,a1 _ hl0,AA,a2 _ hl0,AA,a3 _ hl0,AA,b0 _ hl4,AA,b1 _ hl4,AA,b2 _ hl4,AA,b3 _ hl4,AA,CR zO zO]
 rfl
 simp only[Hg,show decide (((10:Nat):Int)<10)=false by decide,BZ]
 exact h2
theorem yX(key nonce s:List UInt8)(hk:key.length=32)(hn:nonce.length=12)(hs:s.length≤1048576){n:Nat}(hm:16<n)(hm2:s.length<n):OZ n key nonce s=some (KK key nonce s,0):=by
 have hB:∀i,IT n key (UInt32.ofNat i) nonce=some (LV key (UInt32.ofNat i) nonce,0):=fun i=>qP key _ nonce hk hn hm
 have hL:∀i,(LV key (UInt32.ofNat i) nonce).length=64:=fun i=>UZ hk hn
 have hX:∀i,i<s.length→(KK key nonce s).take (i+1)=(KK key nonce s).take i++[s.getD i 0 ^^^ (LV key (UInt32.ofNat (i / 64)) nonce).getD (i%64) 0]:=fun i hi=>by
  rw[List.take_add_one,List.getElem?_eq_getElem (by rw[G5];exact hi)]
  simp[KK,RR]
 have hXl:=G5 key nonce s
 generalize KK key nonce s=X at hX hXl ⊢
 generalize hBf:(fun i=>LV key (UInt32.ofNat i) nonce)=B
 have hB':∀i,IT n key (UInt32.ofNat i) nonce=some (B i,0):=fun i=>by rw[hB i,←hBf]
 have hL':∀i,(B i).length=64:=fun i=>by rw[←hBf];exact hL i
 have hX':∀i,i<s.length→X.take (i+1)=X.take i++[s.getD i 0 ^^^ (B (i / 64)).getD (i%64) 0]:=fun i hi=>by rw[hX i hi,←hBf]
 clear hB hL hX hBf
 unfold OZ
 rw[show(((!decide ((key.length:Int)=32))||(!decide ((nonce.length:Int)=12)))||(decide (1048576<(s.length:Int))))=false by simp[hk,hn];omega]
 simp only[BZ]
 unfold Kt
 refine(congrArg (CI _ n) ?_).trans (Et (fun i=>(X.take i,(if i=0 then[]else B ((i-1) / 64)),(i:Int))) s.length (fun i hi k=>?_) (fun k=>?_) hm2)
 simp
 have ei:((i+1:Nat):Int)=(i:Int)+1:=zO
 dsimp only
 rw[hX' i hi,if_neg (show ¬i+1=0 by omega),Nat.add_sub_cancel,ei]
 simp only[JJ,show decide ((i:Int)<(s.length:Int))=true by simp;omega,CC]
 have hr:T8 (i:Int) 64=some ((i%64:Nat):Int):=X3 zD
 have hq:WH (i:Int) 64=some ((i / 64:Nat):Int):=js zD zO
 have hj:I0 s (X.take i) (i:Int) k (B (i / 64))=k (X.take i++[s.getD i 0 ^^^ (B (i / 64)).getD (i%64) 0],B (i / 64),(i:Int)+1):=by
  have hbl:=hL' (i / 64)
  unfold I0
  rw[DG (k:=i) 0 rfl hi,AA,hr,AA,DG (k:=i%64) 0 rfl zO,AA,DM zQ zQ,AA]
  simp only[ret]
  rw[CR zO zO]
 rw[hr,AA]
 by_cases h0:i%64=0
 rw[show decide (((i%64:Nat):Int)=0)=true by simp;omega]
 simp only[CC]
 have hu:De ((i / 64:Nat):Int)=UInt32.ofNat (i / 64):=by
  simp only[De]
  congr 1
  omega
 rw[hq,AA,hu,hB',AA]
 exact hj
 rw[show decide (((i%64:Nat):Int)=0)=false by simp;omega]
 simp only[BZ]
 rw[if_neg (show ¬i=0 by omega),show(i-1) / 64=i / 64 by omega]
 exact hj
 simp only[JJ,show decide ((s.length:Int)<(s.length:Int))=false by simp,BZ,NZ]
 rw[List.take_of_length_le zO]
end

section
theorem dJ(x:UInt32)(n:Nat)(h:n≤32):CN x (n:Int)=some (Lo x n):=by
 unfold CN
 rw[VH,AA,CR zO zO,show(32-(n:Int))=((32-n:Nat):Int) by omega,VH,AA]
 rfl
theorem oy(s:List UInt8)(w:List UInt32)(h:16≤w.length):Ta s w=w.getD (w.length-16) 0+sL (w.getD (w.length-15) 0)+w.getD (w.length-7) 0+sM (w.getD (w.length-2) 0):=by
 unfold Ta
 rw[if_neg zO]
 ac_rfl
theorem ri{h:List UInt32}(hh:h.length=8){n:Nat}(hm:64<n):∀f:List UInt32,f.length=8→IA n h f=some (List.zipWith (·+·) f h):=by
 intro f hf
 have hfl:h.length=f.length:=zO
 unfold IA Mf
 refine(congrArg (CI _ n) ?_).trans (Et (fun i=>(T7 f h i,(i:Int))) 8 (fun i hi k=>?_) (fun k=>?_) zO)
 simp[T7]
 have ei:((i+1:Nat):Int)=(i:Int)+1:=zO
 have hml:=Xz f h hfl i
 dsimp only
 rw[ei,←d8 f h hfl i zO,←d7 f h hfl i zO]
 simp only[IW,show decide ((i:Int)<8)=true by simp;omega,CC,ret]
 rw[DG (k:=i) 0 rfl zO,AA,DG (k:=i) 0 rfl zO,AA,AA,KH rfl zO,AA,CR zO zO]
 simp only[IW,show decide (((8:Nat):Int)<8)=false by decide,BZ,Md]
 have:=cB f h hfl
 rw[hf]at this
 rw[this]
theorem rh{T h:List UInt32}(hT:T.length=64)(hh:h.length=8){n:Nat}(hm:64<n):∀w:List UInt32,w.length=64→H8 n T h w=some (List.zipWith (·+·) h (Ho T w h 64).list):=by
 intro w hw
 have t6:∀x,CN x 6=some (Lo x 6):=fun x=>dJ x 6 zD
 have t11:∀x,CN x 11=some (Lo x 11):=fun x=>dJ x 11 zD
 have t25:∀x,CN x 25=some (Lo x 25):=fun x=>dJ x 25 zD
 have t2:∀x,CN x 2=some (Lo x 2):=fun x=>dJ x 2 zD
 have t13:∀x,CN x 13=some (Lo x 13):=fun x=>dJ x 13 zD
 have t22:∀x,CN x 22=some (Lo x 22):=fun x=>dJ x 22 zD
 have hz:∀q:O8,IA n h q.list=some (List.zipWith (·+·) h q.list):=fun q=>by
  rw[ri hh hm _ rfl,List.zipWith_comm]
  simp only[UInt32.add_comm]
 have hN:∀i,Ho T w h (i+1)=(Ho T w h i).step (T.getD i 0) (w.getD i 0):=fun i=>rfl
 have h0:(Ho T w h 0).list=h:=S9 hh
 generalize Ho T w h=R at hN h0 ⊢
 unfold H8 Me
 rw[DM (by simp[hh]) (by simp[hh]),AA,List.nil_append]
 refine(congrArg (CI _ n) ?_).trans (Et (fun i=>((R i).list,(i:Int))) 64 (fun i hi k=>?_) (fun k=>?_) zO)
 simp[h0]
 have ei:((i+1:Nat):Int)=(i:Int)+1:=zO
 dsimp only
 rw[ei,hN]
 generalize R i=q
 have q0:BE q.list 0=some q.a:=rfl
 have q1:BE q.list 1=some q.b:=rfl
 have q2:BE q.list 2=some q.c:=rfl
 have q3:BE q.list 3=some q.d:=rfl
 have q4:BE q.list 4=some q.e:=rfl
 have q5:BE q.list 5=some q.f:=rfl
 have q6:BE q.list 6=some q.g:=rfl
 have q7:BE q.list 7=some q.i:=rfl
 simp only[IV,show decide ((i:Int)<64)=true by simp;omega,CC,BN,q0,q1,q2,q3,q4,q5,q6,q7,AA,t6,t11,t25,t2,t13,t22]
 rw[DG (k:=i) 0 rfl zO,AA,DG (k:=i) 0 rfl zO,AA,CR zO zO]
 simp only[O8.step,O8.list,O8.t1,O8.t2]
 simp only[IV,show decide (((64:Nat):Int)<64)=false by decide,BZ]
 exact hz _
theorem vi(T h:List UInt32)(s:List UInt8)(hT:T.length=64)(hh:h.length=8)(hs:s.length=64){n:Nat}(hm:64<n):NG n T h s=some (TW T h s):=by
 
 have t7:∀x,CN x 7=some (Lo x 7):=fun x=>dJ x 7 zD
 have t18:∀x,CN x 18=some (Lo x 18):=fun x=>dJ x 18 zD
 have t17:∀x,CN x 17=some (Lo x 17):=fun x=>dJ x 17 zD
 have t19:∀x,CN x 19=some (Lo x 19):=fun x=>dJ x 19 zD
 unfold NG Jz
 have hW:∀i,F5 s (i+1)=F5 s i++[Ta s (F5 s i)]:=fun i=>rfl
 have hWl:=Nm s
 have hfin:H8 n T h (F5 s 64)=some (TW T h s):=by
  unfold TW En
  exact rh hT hh hm _ (hWl 64)
 have hW0:F5 s 0=[]:=rfl
 generalize F5 s=W at hW hWl hfin hW0
 refine(congrArg (CI _ n) ?_).trans (Et (fun i=>(W i,(i:Int))) 64 (fun i hi k=>?_) (fun k=>?_) hm)
 simp[hW0]
 have ei:((i+1:Nat):Int)=(i:Int)+1:=zO
 have hl:=hWl i
 dsimp only
 rw[ei,hW]
 generalize W i=w at hl
 simp only[IU,show decide ((i:Int)<64)=true by simp;omega,CC]
 have hj:∀x:UInt32,(C8 4 w [x]).bind (fun l=>H9 (i:Int) k l)=k (w++[x],(i:Int)+1):=fun x=>by
  rw[DM zQ zQ,AA]
  simp only[H9,ret]
  rw[CR zO zO]
 by_cases hlt:i<16
 rw[show decide ((i:Int)<16)=true by simp;omega]
 simp only[CC]
 rw[CR zO zO,DG (k:=4*i) 0 zO zO,AA,CR zO zO,DG (k:=4*i+1) 0 zO zO,AA,CR zO zO,DG (k:=4*i+2) 0 zO zO,AA,
  CR zO zO,DG (k:=4*i+3) 0 zO zO,AA,hj]
 unfold Ta
 rw[if_pos zO,hl]
 rfl
 rw[show decide ((i:Int)<16)=false by simp;omega]
 simp only[BZ]
 rw[CR zO zO,DG (k:=i-15) 0 zO zO,AA,CR zO zO,DG (k:=i-2) 0 zO zO,AA,CR zO zO,DG (k:=i-16) 0 zO zO,AA,
  t7,AA,t18,AA,CR zO zO,DG (k:=i-7) 0 zO zO,AA,t17,AA,t19,AA,hj,oy s w zO,hl]
 rfl
 simp only[IU,show decide (((64:Nat):Int)<64)=false by decide,BZ]
 exact hfin
theorem j6(x:UInt64):shr64 x 0=x:=by
 apply UInt64.toNat_inj.1
 have:=x.toNat_lt
 simp[shr64]
theorem oa(s:List UInt8)(hs:s.length≤1099511627776){n:Nat}(hm:64<n):Ku n s=some (s++M6 s.length):=by
 unfold Ku
 rw[DF zQ,AA]
 unfold KZ
 have hp:NO s.length<64:=by unfold NO;omega
 refine(congrArg (CI _ n) ?_).trans (Et (fun i=>s++[128]++List.replicate i 0) (NO s.length) (fun i hi k=>?_) (fun k=>?_) zO)
 simp
 have hl:(s++[128]++List.replicate i (0:UInt8)).length=s.length+1+i:=by simp;omega
 have st:s++[128]++List.replicate (i+1) (0:UInt8)=s++[128]++List.replicate i 0++[0]:=by rw[List.replicate_succ',List.append_assoc _ _ [0]]
 rw[st]
 generalize s++[128]++List.replicate i (0:UInt8)=u at hl
 simp only[G7]
 rw[hl,show(64:Int)=((64:Nat):Int)from rfl,X3 zD,AA,show(!decide ((((s.length+1+i)%64:Nat):Int)=56))=true by unfold NO at hi;simp;omega]
 simp only[CC]
 rw[DF zQ,AA]
 have hl:(s++[128]++List.replicate (NO s.length) (0:UInt8)).length=s.length+1+NO s.length:=by simp;omega
 have ht:s++M6 s.length=s++[128]++List.replicate (NO s.length) 0++UY (B9 s.length*8):=by simp[M6]
 rw[ht]
 generalize s++[128]++List.replicate (NO s.length) (0:UInt8)=u at hl
 simp only[G7]
 rw[hl,show(64:Int)=((64:Nat):Int)from rfl,X3 zD,AA,show(!decide ((((s.length+1+NO s.length)%64:Nat):Int)=56))=false by unfold NO;simp;omega]
 simp only[BZ,KY,ret]
 rw[DF zQ,AA]
 simp only[UY,j6]
theorem ll(T:List UInt32)(s:List UInt8)(hT:T.length=64)(hs:s.length≤1099511627776){n:Nat}(hm:64<n)(hm2:s.length<n):Ka n T s=some (O3 T s):=by
 unfold Ka
 rw[oa s hs hm,AA]
 have hw:(s++M6 s.length).length%64=0:=by
  simp[M6,NO,UY];omega
 have hlen:(s++M6 s.length).length≤s.length+73:=by
  simp[M6,NO,UY];omega
 have hsum:O3 T s=(Hx T Eh (s++M6 s.length) ((s++M6 s.length).length / 64)).list.flatMap IL:=by
  unfold O3
  rw[NC]
 rw[hsum]
 generalize s++M6 s.length=f at hw hlen
 
 have hl:∀l:List UInt32,(l.flatMap IL).length=4*l.length:=by
  intro l
  induction l with
  | nil=>rfl
  | cons x r ih=>rw[List.flatMap_cons,List.length_append,ih,List.length_cons];simp[IL];omega
 have h1:∀l:List UInt32,l.length=8→Kv n l=some (l.flatMap IL):=by
  intro l h8
  unfold Kv Nc
  refine(congrArg (CI _ n) ?_).trans (Et (fun i=>((l.take i).flatMap IL,(i:Int))) 8 (fun i hi k=>?_) (fun k=>?_) zO)
  simp
  have ei:((i+1:Nat):Int)=(i:Int)+1:=zO
  have st:(l.take (i+1)).flatMap IL=(l.take i).flatMap IL++IL (l.getD i 0):=by
   rw[List.take_add_one,LL 0 zO,List.flatMap_append]
   simp
  dsimp only
  rw[st,ei]
  simp only[JL,show decide ((i:Int)<8)=true by simp;omega,CC,ret]
  rw[DG (k:=i) 0 rfl zO,AA,AA,AA,AA,DM (by rw[hl];simp;omega) (by rw[hl];simp;omega),AA,CR zO zO]
  rfl
  simp only[JL,show decide (((8:Nat):Int)<8)=false by decide,BZ,Na]
  rw[List.take_of_length_le zO]
 unfold Nb
 have hfirst:Oa=some Eh.list:=rfl
 rw[hfirst,AA]
 have hP:∀j,(Hx T Eh f (j+1)).list=TW T (Hx T Eh f j).list ((f.drop (64*j)).take 64):=fun j=>by
  show(Wm T _ _).list=_
  unfold Wm
  exact S9 (WG rfl)
 have hP8:∀j,(Hx T Eh f j).list.length=8:=fun j=>rfl
 have hP0:(Hx T Eh f 0).list=Eh.list:=rfl
 generalize (fun j=>(Hx T Eh f j).list)=R at hP hP8 hP0
 generalize hR:(fun j=>(Hx T Eh f j).list)=R at*
 have hP':∀j,R (j+1)=TW T (R j) ((f.drop (64*j)).take 64):=fun j=>by rw[←hR];exact hP j
 have hP8':∀j,(R j).length=8:=fun j=>by rw[←hR];exact hP8 j
 have hP0':R 0=Eh.list:=by rw[←hR];exact hP0
 have hRN:(Hx T Eh f (f.length / 64)).list=R (f.length / 64):=by rw[←hR]
 rw[hRN]
 clear hR hRN hP hP8 hP0
 refine(congrArg (CI _ n) ?_).trans (Et (fun j=>(R j,((64*j:Nat):Int))) (f.length / 64) (fun j hj k=>?_) (fun k=>?_) zO)
 simp[hP0']
 have ej:((64*(j+1):Nat):Int)=((64*j:Nat):Int)+64:=zO
 dsimp only
 rw[hP',ej]
 simp only[JK,show decide (((64*j:Nat):Int)<(f.length:Int))=true by simp;omega,CC,ret]
 rw[CR zO zO,VJ (p:=64*j) (q:=64*j+64) rfl zO zO zO,AA,show 64*j+64-64*j=64 by omega,vi T (R j) _ hT (hP8' j) zQ hm,AA]
 simp only[JK,show decide (((64*(f.length / 64):Nat):Int)<(f.length:Int))=false by simp;omega,BZ]
 exact h1 _ (hP8' _)
theorem np(T:List UInt32)(key:List UInt8)(c:UInt8)(hT:T.length=64)(hs:key.length≤1099511627776){n:Nat}(hm:64<n)(hm2:key.length<n):LG n T key c=some (HH T key c):=by
 have h1:∀u:List UInt8,u.length≤64→IB n c u=some ((List.range 64).map fun i=>u.getD i 0 ^^^ c):=by
  intro u hu
  unfold IB J0
  refine(congrArg (CI _ n) ?_).trans (Et (fun i=>((List.range i).map (fun i=>u.getD i 0 ^^^ c),(i:Int))) 64 (fun i hi k=>?_) (fun k=>?_) hm)
  simp
  have ei:((i+1:Nat):Int)=(i:Int)+1:=zO
  have st:(List.range (i+1)).map (fun i=>u.getD i 0 ^^^ c)=(List.range i).map (fun i=>u.getD i 0 ^^^ c)++[u.getD i 0 ^^^ c]:=by simp[List.range_succ]
  have hj:ID c ((List.range i).map (fun i=>u.getD i 0 ^^^ c)) (i:Int) k (u.getD i 0)=k ((List.range i).map (fun i=>u.getD i 0 ^^^ c)++[u.getD i 0 ^^^ c],(i:Int)+1):=by
   unfold ID
   rw[DM zQ zQ,AA]
   simp only[ret]
   rw[CR zO zO]
  dsimp only
  rw[st,ei,←hj]
  simp only[IX,show decide ((i:Int)<64)=true by simp;omega,CC]
  by_cases h0:i<u.length
  rw[show decide ((i:Int)<(u.length:Int))=true by simp;omega]
  simp only[CC]
  rw[DG (k:=i) 0 rfl h0,AA]
  rw[show decide ((i:Int)<(u.length:Int))=false by simp;omega]
  simp only[BZ]
  rw[show u.getD i 0=0 by simp[List.getD_eq_getElem?_getD,List.getElem?_eq_none (show u.length≤i by omega)]]
  simp only[IX,show decide (((64:Nat):Int)<64)=false by decide,BZ,Mg]
 unfold LG HH GS
 by_cases h0:64<key.length
 rw[show decide (64<(key.length:Int))=true by simp;omega,if_pos h0]
 simp only[CC]
 rw[ll T key hT hs hm hm2,AA]
 exact h1 _ (by rw[Kp];omega)
 rw[show decide (64<(key.length:Int))=false by simp;omega,if_neg h0]
 simp only[BZ]
 exact h1 _ zO
theorem rT(T:List UInt32)(key m:List UInt8)(hT:T.length=64)(hk:key.length≤1048576)(hs:m.length≤1048576){n:Nat}(hm:2097152<n):Kd n T key m=some (T6 T key m):=by
 unfold Kd Ob
 have l1:=NQ T key 54
 have l2:=NQ T key 92
 rw[np T key 54 hT zO zO zO,AA,DF zO,AA,np T key 92 hT zO zO zO,AA,ll T _ hT zQ zO zQ,AA,
  DF (by rw[Kp];omega),AA,AA]
 have e:BE [HH T key 54++m,HH T key 92++O3 T (HH T key 54++m)] 1=some (HH T key 92++O3 T (HH T key 54++m)):=rfl
 rw[e,AA,ll T _ hT (by rw[List.length_append,Kp];omega) zO (by rw[List.length_append,Kp];omega),AA]
 unfold T6
 exact Eq.refl _
theorem rC(T:List UInt32)(key label:List UInt8)(hT:T.length=64)(hk:key.length≤1048576)(hl:label.length≤1000000){n:Nat}(hm:2097152<n):I1 n T key label 32=some (Hq T key label,0):=by
 have hml:∀m,(T6 T key m).length=32:=fun m=>JW T key m
 have hmac:Kd n T key ([]++label++[KJ 1])=some (Hq T key label):=by
  rw[rT T key _ hT hk zQ hm]
  rfl
 have he:(Hq T key label).length=32:=hml _
 generalize Hq T key label=x at hmac he ⊢
 unfold I1 Kc
 rw[show((decide ((32:Int)<0))||(decide ((8160:Int)<32)))=false by decide]
 simp only[BZ]
 obtain⟨m,rfl⟩:∃m,n=m+1+1:=⟨n-2,by omega⟩
 rw[ZH]
 simp only[G8]
 rw[show decide (((([]:List UInt8).length:Nat):Int)<32)=true by decide]
 simp only[CC]
 rw[DF zQ,AA,DF zQ,AA,hmac,AA,DF zQ,AA]
 rw[BN,List.nil_append,ZH]
 simp only[G8]
 rw[show decide (((x.length:Nat):Int)<32)=false by rw[he];decide]
 simp only[BZ,Kb]
 rw[show Iu x 0 32=some ((x.drop 0).take (32-0))from VJ (p:=0) (q:=32) rfl rfl zO zO,AA]
 simp[List.take_of_length_le,he]
end

section
theorem Yh(x:UInt64)(w:Nat)(hw:w≤8){n:Nat}(hm:8<n):EL n x (w:Int)=some (B0 x w):=by
 unfold EL Nh
 have hS:∀i,i<8→shr64 x (8*(i+1))=shr64 x (8*i) / 256:=fun i hi=>by
  apply UInt64.toNat_inj.1
  rw[UInt64.toNat_div,N0 _ _ zO,N0 _ _ zO,show(256:UInt64).toNat=2^8 from rfl,Nat.div_div_eq_div_mul,←Nat.pow_add,show 8*(i+1)=8*i+8 by omega]
 have hP:∀i,B0 x (i+1)=B0 x i++[(shr64 x (8*i)).toUInt8]:=Rl x
 have h0:shr64 x (8*0)=x:=by rw[Nat.mul_zero,j6]
 have hl:=BP x
 have hp0:B0 x 0=[]:=rfl
 generalize B0 x=Pt at hP hl hp0 ⊢
 generalize hq:(fun i=>shr64 x (8*i))=S
 have hS':∀i,i<8→S (i+1)=S i / 256:=fun i hi=>by rw[←hq];exact hS i hi
 have hP':∀i,Pt (i+1)=Pt i++[(S i).toUInt8]:=fun i=>by rw[hP,←hq]
 have h0':S 0=x:=by rw[←hq];exact h0
 clear hS hP h0 hq
 refine(congrArg (CI _ n) ?_).trans (Et (fun i=>(S i,Pt i,(i:Int))) w (fun i hi k=>?_) (fun k=>?_) zO)
 simp[h0',hp0]
 have ei:((i+1:Nat):Int)=(i:Int)+1:=zO
 dsimp only
 rw[ei,hP',hS' i zO]
 simp only[JN,show decide ((i:Int)<(w:Int))=true by simp;omega,CC]
 have hlp:=hl i
 rw[DF zQ,AA,show RM (S i) 256=some (S i / 256)from rfl,AA,BN,CR zO zO]
 simp only[JN,show decide ((w:Int)<(w:Int))=false by simp,BZ,Ng]
theorem rX(h:DX){n:Nat}(hm:8<n):L0 n h=some (Mr h):=by
 unfold L0
 rw[show EL n h.boot.toUInt64 4=some (B0 h.boot.toUInt64 4)from Yh _ 4 zD hm,AA,show EL n h.seq 8=some (B0 h.seq 8)from Yh _ 8 zD hm,AA,DF (by simp[BP]),AA]
 unfold Mr
 exact Eq.refl _
theorem wc(h:DX){n:Nat}(hm:8<n):Od n h=some (RJ h):=by
 unfold Od
 have p4:∀x:UInt64,EL n x 4=some (B0 x 4):=fun x=>Yh _ 4 zD hm
 have p8:∀x:UInt64,EL n x 8=some (B0 x 8):=fun x=>Yh _ 8 zD hm
 rw[p4,AA,p4,AA,DF (by simp[BP]),AA,p4,AA,DF (by simp[BP]),AA,p8,AA,DF (by simp[BP]),AA,DF (by simp[BP]),AA]
 simp[RJ,Mr]
theorem nu(T:List UInt32)(k:BD)(hT:T.length=64)(hr:Dt [k]=true){n:Nat}(hm:2097152<n):LI n T k=some (RS T k Pg,RS T k QD,0):=by
 have hl:=ZR hr
 unfold LI
 rw[cL [k] zS zO,AA,hr]
 simp only[Bool.not_true,BZ]
 rw[DF zS,AA,rC T k.secret _ hT zO zS hm,AA,DF zS,AA,rC T k.secret _ hT zO zS hm,AA]
 exact Eq.refl _
theorem xa(s:List UInt8){n:Nat}(hm:256<n):Oc n s=some (RF s):=by
 unfold Oc RF
 by_cases h:198<s.length
 rw[show decide (198<(s.length:Int))=true by simp;omega,if_pos h]
 simp only[CC]
 rw[show decide (198<(s.length:Int))=false by simp;omega,if_neg h]
 simp only[BZ]
 rw[show WH (s.length:Int) 256=some ((s.length / 256:Nat):Int)from js (b:=256) zD zO,AA,show T8 (s.length:Int) 256=some ((s.length%256:Nat):Int)from X3 (b:=256) zD,AA,DF zQ,AA]
 have hp:MD s=[KJ ((s.length / 256:Nat):Int),KJ ((s.length%256:Nat):Int)]++s++List.replicate (198-s.length) 0:=by
  unfold MD
  congr 3
  simp only[KJ]
  congr 2
  omega
 rw[hp]
 have hl:([KJ ((s.length / 256:Nat):Int),KJ ((s.length%256:Nat):Int)]++s).length=s.length+2:=by simp
 generalize [KJ ((s.length / 256:Nat):Int),KJ ((s.length%256:Nat):Int)]++s=u at hl
 unfold Nf
 refine(congrArg (CI _ n) ?_).trans (Et (fun i=>u++List.replicate i 0) (198-s.length) (fun i hi k=>?_) (fun k=>?_) zO)
 simp
 have st:u++List.replicate (i+1) (0:UInt8)=u++List.replicate i 0++[0]:=by rw[List.replicate_succ',List.append_assoc]
 have hl2:(u++List.replicate i (0:UInt8)).length=s.length+2+i:=by simp;omega
 rw[st]
 generalize u++List.replicate i (0:UInt8)=y at hl2
 unfold JM
 rw[show decide ((y.length:Int)<200)=true by simp;omega]
 simp only[CC]
 rw[DF zQ,AA]
 have hl2:(u++List.replicate (198-s.length) (0:UInt8)).length=200:=by simp;omega
 generalize u++List.replicate (198-s.length) (0:UInt8)=y at hl2
 unfold JM
 rw[show decide ((y.length:Int)<200)=false by simp;omega]
 simp only[BZ]
 unfold Nd
 exact Eq.refl _
end

section
theorem qQ(T:List UInt32)(k:BD)(h:DX)(body:List UInt8)(hT:T.length=64)(hr:Dt [k]=true)(hb:body.length=200){n:Nat}(hm:2097152<n):Lz n T k h body=some (MP T k h body):=by
 unfold Lz
 rw[nu T k hT hr hm,AA,rX h zO,AA,yX _ _ _ (Qk T k Pg) (MC h) zO zO zO,AA,wc h zO,AA,DF (by rw[JX,G5];omega),AA]
 rfl
theorem vx(T:List UInt32)(l:List BD)(h:DX)(s:List UInt8)(hT:T.length=64)(hl:l.length≤1048576){n:Nat}(hm:2097152<n):NH n T l h s=some (Ik T l h s):=by
 unfold NH
 rw[nV l h.gen hl zO,AA]
 unfold Ik
 by_cases hf:(C6 l h.gen).2=0
 obtain⟨_,_,_,hr⟩:=Xf hf
 rw[show(!decide ((C6 l h.gen).2=0))=false by simp[hf],if_neg (by simp[hf])]
 simp only[BZ]
 rw[xa s zO,AA]
 by_cases h1:198<s.length
 rw[if_pos h1,show RF s=([],50) by unfold RF;rw[if_pos h1]]
 rfl
 rw[if_neg h1,show RF s=(MD s,0) by unfold RF;rw[if_neg h1]]
 have hp:=Gz (s:=s) zO
 rw[show(!decide (((MD s,(0:Int)):List UInt8×Int).2=0))=false from rfl]
 simp only[BZ]
 have hbl:=IM T (C6 l h.gen).1 h hp
 rw[qQ T _ h _ hT hr hp hm,AA,nu T _ hT hr hm,AA]
 dsimp only
 rw[rT T _ _ hT (by rw[Qk];omega) (by rw[hbl];omega) hm,AA,DF (by rw[hbl,JW];omega),AA]
 unfold Jp
 exact Eq.refl _
 rw[show(!decide ((C6 l h.gen).2=0))=true by simp[hf],if_pos hf]
 simp only[CC]
end

section
theorem lQ(x:UInt64)(w:Nat)(hw:w≤8){n:Nat}(hm:8<n):Dk n x (w:Int)=some (B0 x w):=
 (show Dk n x (w:Int)=EL n x (w:Int)from rfl).trans (Yh x w hw hm)
theorem gq(r:BR):GF r=some (Eo r):=by
 unfold GF Eo
 rw[BN]
theorem nk(r:BR):LJ r=some (Pb r):=by
 unfold LJ Pb
 rw[BN]
theorem jv(c:Br):Fj c=some (LW c):=by
 by_cases hlev:c.lev<0∨31<c.lev
 unfold Fj LW
 rw[show(decide (c.lev<0)||decide (31<c.lev))=true by simpa using hlev]
 rfl
 obtain⟨L,h⟩:∃L:Nat,c.lev=(L:Int):=⟨c.lev.toNat,by omega⟩
 have hL:L≤31:=zO
 have hmx:decide (max c.x c.y<2147483648)=(decide (c.x.toNat<2147483648)&&decide (c.y.toNat<2147483648)):=by
  rw[Bool.eq_iff_iff]
  simp only[Bool.and_eq_true,decide_eq_true_eq,UInt32.lt_iff_toNat_lt,K8]
  have h6:(2147483648:UInt32).toNat=2147483648:=rfl
  omega
 have hge:∀x:UInt32,decide ((2147483648:UInt32)≤x) = !decide (x.toNat<2147483648):=fun x=>by
  rw[Bool.eq_iff_iff]
  simp only[Bool.not_eq_true',decide_eq_true_eq,decide_eq_false_iff_not,UInt32.le_iff_toNat_le]
  have h6:(2147483648:UInt32).toNat=2147483648:=rfl
  omega
 have z:∀x:UInt32,decide (x.toUInt64%shl64 1 L=0)=decide (x.toNat%2^L=0):=fun x=>by
  rw[decide_eq_decide,←UInt64.toNat_inj,UInt64.toNat_mod,UInt32.toNat_toUInt64,Nz hL]
  rfl
 have hor:decide ((c.x ||| c.y) &&& (shl64 1 L-1).toUInt32=0)=(decide (c.x.toNat%2^L=0)&&decide (c.y.toNat%2^L=0)):=by
  rw[Bool.eq_iff_iff]
  simp only[Bool.and_eq_true,decide_eq_true_eq]
  rw[←UInt32.toNat_inj,UInt32.toNat_and,k7 hL,UInt32.toNat_or,Nat.and_two_pow_sub_one_eq_mod,Nat.or_mod_two_pow]
  exact Nat.or_eq_zero_iff
 unfold Fj LW
 rw[hge,hge,hmx,h,Int.toNat_natCast,hor,zf (show ¬(L:Int)<0 by omega),zf (show ¬31<(L:Int) by omega),aC h hL,AA,gi hL,AA,AA,gi hL,AA,z,z]
 generalize decide (c.x.toNat<2147483648)=A
 generalize decide (c.y.toNat<2147483648)=B
 generalize decide (c.x.toNat%2^L=0)=C
 generalize decide (c.y.toNat%2^L=0)=D
 cases A<;>cases B<;>cases C<;>cases D<;>rfl
theorem cM(x:C4)(hk:x.kids.length≤1048576):∀(d k m:Nat),k+d=x.kids.length→d<m→GG x m (k:Int)=some ((x.kids.drop k).all Eo&&LW ⟨x.cx,x.cy,x.lev⟩)
 | _,_,0,_,h=>absurd h (Nat.not_lt_zero _)
 | 0,k,m+1,hkd,_=>by
  show FQ x (GG x m) _=_
  unfold FQ Lj
  rw[zf zO,BZ,jv,AA,show x.kids.drop k=[]from List.drop_eq_nil_of_le zO]
  rfl
 | d+1,k,m+1,hkd,hm=>by
  have hkl:k<x.kids.length:=zO
  have n1:BE x.kids (k:Int)=some x.kids[k]:=by rw[Fo rfl,List.getElem?_eq_getElem hkl]
  have ih:=cM x hk d (k+1) m zO zO
  show FQ x (GG x m) _=_
  unfold FQ
  rw[zt zO,CC,n1,AA,gq,AA,BN,CR zO zO,show((k:Int)+1)=((k+1:Nat):Int) by omega,ih,List.drop_eq_getElem_cons hkl,List.all_cons]
  cases Eo x.kids[k]<;>rfl
theorem VB{n:Nat}(x:C4)(hr:x.rows.length<n)(hk:x.kids.length<n)(hb:x.rows.length≤1048576)(hc:x.kids.length≤1048576):L3 n x=some (GL x):=by
 unfold L3 GL
 cases hk1:decide (x.kind=1)with
 | true=>
  rw[CC,CC,ZQ hr hb,AA,gq,AA,nk,AA,Ye,AA,PO,AA,BN]
  generalize decide ((x.rows.length:Int)≤4)=A
  generalize Du x.rows=B
  generalize Eo ⟨x.npage,x.ntag⟩=C
  generalize Pb ⟨x.npage,x.ntag⟩=D
  generalize decide ((x.kids.length:Int)=0)=E9
  generalize (decide (x.cx=0)&&(decide (x.cy=0)&&(decide (x.lev=0)&&true)))=F
  cases A<;>cases B<;>cases C<;>cases D<;>cases E9<;>cases F<;>rfl
 | false=>
  rw[BZ,BZ,nk,AA,Ye,AA,show GG x n 0=_ from cM x hc x.kids.length 0 n zO hk,List.drop_zero]
  rw[show decide (0<(x.rows.length:Int)) = !decide ((x.rows.length:Int)=0) by rw[Bool.eq_iff_iff];simp only[Bool.not_eq_true',decide_eq_true_eq,decide_eq_false_iff_not];omega,show decide ((x.kids.length:Int)<2) = !decide (2≤(x.kids.length:Int)) by rw[Bool.eq_iff_iff];simp,show decide (4<(x.kids.length:Int)) = !decide ((x.kids.length:Int)≤4) by rw[Bool.eq_iff_iff];simp,show decide (x.lev<1) = !decide (0<x.lev) by rw[Bool.eq_iff_iff];simp;omega]
  generalize decide (x.kind=2)=A
  generalize decide ((x.rows.length:Int)=0)=B
  generalize Pb ⟨x.npage,x.ntag⟩=C
  generalize decide (2≤(x.kids.length:Int))=D
  generalize decide ((x.kids.length:Int)≤4)=E9
  generalize decide (0<x.lev)=F
  generalize x.kids.all Eo=G
  generalize LW ⟨x.cx,x.cy,x.lev⟩=I
  cases A<;>cases B<;>cases C<;>cases D<;>cases E9<;>cases F<;>cases G<;>cases I<;>rfl
end

section
theorem X2{x:UInt64}{n:Nat}(hm:8<n):Dk n x 1=some (B0 x 1):=lQ x 1 zO hm
theorem Sv{x:UInt64}{n:Nat}(hm:8<n):Dk n x 4=some (B0 x 4):=lQ x 4 zO hm
theorem rm{x:UInt64}{n:Nat}(hm:8<n):Dk n x 8=some (B0 x 8):=lQ x 8 zO hm
theorem WB{r:BR}(h:r.tag.length=32):He r=B0 r.page.toUInt64 4++r.tag:=by
 unfold He
 rw[h]
 simp
theorem dX{n:Nat}(x:C4)(hn:8<n)(hb:x.kids.length≤4):∀(T S:List BR) (s:List UInt8),x.kids=S++T→(∀r∈T,r.tag.length=32)→s.length+36*T.length≤100000→∀m,T.length<m→
  Fu n x m (s,(S.length:Int))=some (s++(T.map He).flatten,0)
 | _,_,_,_,_,_,0,h=>absurd h (Nat.not_lt_zero _)
 | [],S,s,hS,_,_,m+1,_=>by
  have hl:=congrArg List.length hS
  simp only[List.append_nil]at hl
  show E5 n x (Fu n x m) _ _=_
  unfold E5 Kf
  dsimp only
  rw[zf zO,BZ]
  simp
 | r::T,S,s,hS,ht,hl,m+1,hm=>by
  have hlen:=congrArg List.length hS
  simp only[List.length_append,List.length_cons]at hlen hl hm
  have n1:BE x.kids (S.length:Int)=some r:=by
   rw[Fo rfl,hS]
   simp
  have h32:=ht r zS
  have ih:=dX x hn hb T (S++[r]) (s++He r) (by rw[hS];simp) (fun q hq=>ht q (by simp[hq])) (by rw[WB h32];simp[BP,h32];omega) m zO
  show E5 n x (Fu n x m) _ _=_
  unfold E5
  dsimp only
  rw[zt zO,CC,n1,AA,Sv hn,AA,DF (by simp[BP];omega),AA,AA,DF (by simp[BP,h32];omega),AA,BN,CR zO zO]
  rw[show((S++[r]).length:Int)=(S.length:Int)+1 by simp only[List.length_append,List.length_singleton];omega]at ih
  rw[show s++B0 r.page.toUInt64 4++r.tag=s++He r by rw[WB h32,List.append_assoc],ih]
  simp
theorem dY{n:Nat}(x:C4)(hn:8<n)(hb:x.rows.length≤4):∀(T S:List Aj) (s:List UInt8),x.rows=S++T→(∀r∈T,r.txt.length≤16)→s.length+33*T.length≤100000→∀m,T.length<m→
  Fv n x m (s,(S.length:Int))=some (s++(T.map Ks).flatten,0)
 | _,_,_,_,_,_,0,h=>absurd h (Nat.not_lt_zero _)
 | [],S,s,hS,_,_,m+1,_=>by
  have hl:=congrArg List.length hS
  simp only[List.append_nil]at hl
  show E6 n x (Fv n x m) _ _=_
  unfold E6 Kg
  dsimp only
  rw[zf zO,BZ]
  simp
 | r::T,S,s,hS,ht,hl,m+1,hm=>by
  have hlen:=congrArg List.length hS
  simp only[List.length_append,List.length_cons]at hlen hl hm
  have n1:BE x.rows (S.length:Int)=some r:=by
   rw[Fo rfl,hS]
   simp
  have h16:=ht r zS
  have ih:=dY x hn hb T (S++[r]) (s++Ks r) (by rw[hS];simp) (fun q hq=>ht q (by simp[hq])) (by unfold Ks;simp[BP];omega) m zO
  show E6 n x (Fv n x m) _ _=_
  unfold E6
  dsimp only
  rw[zt zO,CC,n1,AA,rm hn,AA,DF (by simp[BP];omega),AA,Sv hn,AA,DF (by simp[BP];omega),AA,Sv hn,AA,DF (by simp[BP];omega),AA,
   X2 hn,AA,DF (by simp[BP];omega),AA,DF (by simp[BP];omega),AA,BN,CR zO zO]
  rw[show((S++[r]).length:Int)=(S.length:Int)+1 by simp only[List.length_append,List.length_singleton];omega]at ih
  rw[show s++B0 r.id 8++B0 r.x.toUInt64 4++B0 r.y.toUInt64 4++B0 (B9 (r.txt.length:Int)) 1++r.txt=s++Ks r by unfold Ks;simp,ih]
  simp
theorem gD{n:Nat}{x:C4}(hn:10≤n)(h:GL x=true):Fr n x=some (OW x,0):=by
 by_cases hk:x.kind=1
 obtain⟨h1,h2,h3,h4,h5,h6,h7⟩:=Td h hk
 unfold Fr
 rw[VB x zO (by rw[h4];simp;omega) zO (by rw[h4];simp),AA,h,Bool.not_true,BZ,show decide (x.kind=2)=false by rw[hk];rfl,BZ]
 have run:∀tag:List UInt8,tag.length=32→tag=x.ntag++List.replicate (32-x.ntag.length) 0→Gh n x tag=some (OW x,0):=by
  intro tag ht he
  unfold Gh
  rw[X2 zO,AA,DF (by simp[BP]),AA,Sv zO,AA,DF (by simp[BP]),AA,DF (by simp[BP,ht]),AA]
  have:=dY (n:=n) x zO zO x.rows [] ([1]++B0 (B9 (x.rows.length:Int)) 1++B0 x.npage.toUInt64 4++tag) rfl (VC h6) (by simp[BP,ht];omega) n zO
  refine(show Fv n x n _=_ from this).trans ?_
  unfold OW He
  rw[show decide (x.kind=2)=false by rw[hk];rfl,BZ,hk,he]
  rw[show B0 (B9 1) 1=[1]from rfl]
  simp
 unfold Ke
 rcases h7 with h7 | h7
 rw[h7.2,show decide (([]:List UInt8)=[])=true from rfl,CC]
 have:jh 1 32 (0:UInt8)=some (List.replicate 32 0):=if_pos ⟨by omega,by decide,by omega⟩
 rw[this,AA]
 exact run _ zS (by rw[h7.2];rfl)
 have h32:=(MG h7).1
 simp only at h32
 rw[show decide (x.ntag=[])=false from zf (fun e=>by rw[e]at h32;simp at h32),BZ]
 exact run _ h32 (by rw[h32];simp)
 obtain⟨hk2,h1,h2,h3,h4,h5,h6,h7,h8⟩:=SF h hk
 unfold Fr
 rw[VB x (by rw[h2];simp;omega) zO (by rw[h2];simp) zO,AA,h,Bool.not_true,BZ,show decide (x.kind=2)=true by rw[hk2];rfl,CC,
  X2 zO,AA,DF (by simp[BP]),AA,X2 zO,AA,DF (by simp[BP]),AA,Sv zO,AA,DF (by simp[BP]),AA,Sv zO,AA,DF (by simp[BP]),AA]
 have:=dX (n:=n) x zO zO x.kids [] ([2]++B0 (B9 (x.kids.length:Int)) 1++B0 (B9 x.lev) 1++B0 x.cx.toUInt64 4++B0 x.cy.toUInt64 4) rfl (fun r hr=>(MG (h1 r hr)).1) (by simp[BP];omega) n zO
 refine(show Fu n x n _=_ from this).trans ?_
 unfold OW
 rw[show decide (x.kind=2)=true by rw[hk2];rfl,CC,hk2,show B0 (B9 2) 1=[2]from rfl]
 simp
theorem gE{n:Nat}{x:C4}(hr:x.rows.length<n)(hk:x.kids.length<n)(hb:x.rows.length≤1048576)(hc:x.kids.length≤1048576)(h:GL x=false):Fr n x=some ([],90):=by
 unfold Fr
 rw[VB x hr hk hb hc,AA,h]
 rfl
theorem dZ{n:Nat}{x:C4}(hn:10≤n)(hr:x.rows.length<n)(hk:x.kids.length<n)(hb:x.rows.length≤1048576)(hc:x.kids.length≤1048576):Fr n x=Fl n x:=by
 cases h:GL x with
 | true=>rw[gD hn h,We hn h]
 | false=>rw[gE hr hk hb hc h,bF hr hk zO zO h]
end

section
def Yj(r:A6):Bool := !(decide (r.left=0)||r.off)
def O0(r:A6):A6:={ r with left:=if 0<r.left then wI (r.left-1)else r.left }
def Th(r:A6):A6:={ r with off:=true }
theorem gV(r:A6):E2 r=some (if Yj r then(0,O0 r)else(71,Th r)):=by
 obtain⟨bl,pd,bd,rc,rt,rb,left,off⟩:=r
 unfold E2 Gc Gd
 by_cases h0:left=0
 subst h0;cases off<;>simp[Yj,Th]
 by_cases h1:0<left<;>cases off<;>simp[Yj,O0,Th,h0,h1]
theorem lC(r:A6)(p:UInt32)(h:r.blk.length≤4096):Ia r p=some (decide (p.toNat<r.blk.length)):=by
 unfold Ia
 rw[BN]
 congr 1
 rw[decide_eq_decide,UInt64.lt_iff_toNat_lt]
 have:(B9 (r.blk.length:Int)).toNat=r.blk.length:=by simp only[B9,UInt64.toNat_ofNat'];omega
 rw[this,UInt32.toNat_toUInt64]
theorem Nv{i:Nat}(h:i<4294967296):(UInt32.ofNat i).toNat=i:=by simp;omega
structure aF(N:Nat)(d:Ai):Prop where
 blen:d.blocks.length=N
 b256:∀s∈d.blocks,s.length=256
 knd:(d.pend.map (·.1)).Nodup
 klt:∀q∈d.pend,q.1.toNat<N∧q.2.length=256
theorem aF.plen{N:Nat}{d:Ai}(I:aF N d):d.pend.length≤N:=by
 have:=cD I.knd (fun k hk=>by
  obtain⟨q,hq,rfl⟩:=List.mem_map.1 hk
  exact(I.klt q hq).1)
 simpa using this
theorem aF.get256{N:Nat}{d:Ai}(I:aF N d){p:UInt32}(h:p∈d.pend.map (·.1)):((Bn d.pend p).getD []).length=256:=by
 obtain⟨q,hq,rfl⟩:=List.mem_map.1 h
 rw[RE I.knd hq]
 exact(I.klt q hq).2
theorem aF.of{N:Nat}{d d':Ai}(I:aF N d)(h1:d'.blocks=d.blocks)(h2:d'.pend=d.pend):aF N d':=⟨by rw[h1];exact I.blen,by rw[h1];exact I.b256,by rw[h2];exact I.knd,by rw[h2];exact I.klt⟩
theorem aF.put{N:Nat}{d d':Ai}{p:UInt32}{s:List UInt8}(I:aF N d)(hp:p.toNat<N)(hs:s.length=256)(h1:d'.blocks=d.blocks)(h2:d'.pend=Hn d.pend p s):aF N d':=
 ⟨by rw[h1];exact I.blen,by rw[h1];exact I.b256,by rw[h2];exact ZK I.knd,by
  rw[h2]
  intro q hq
  rcases List.mem_cons.1 hq with rfl | hq
  exact⟨hp,hs⟩
  exact I.klt q (List.mem_filter.1 hq).1⟩
structure RV(N:Nat)(d:Ai)(r:A6):Prop where
 inv:aF N d
 nle:N≤4096
 blk:r.blk=d.blocks
 plen:r.pnd.length=N
 pnd:∀p:UInt32,p.toNat<N→Bn d.pend p=if r.pnd.getD p.toNat []=[]then none else some (r.pnd.getD p.toNat [])
 blen:r.bads.length=N
 bad:∀p:UInt32,p.toNat<N→(Bn d.bad p).getD false=r.bads.getD p.toNat false
 bnd:(d.bad.map (·.1)).Nodup
 blt:∀q∈d.bad,q.1.toNat<N
 cnt:r.rcnt=d.rcnt
 tag:r.rtag=d.rtag
 boots:r.rboots=d.rboots
 off:r.off=d.off
 cut:d.isCut=true→0≤d.lasts∧d.lasts≤9223372036854775807∧r.left=d.lasts
 uncut:d.isCut=false→r.left = -1
variable {N:Nat}{d:Ai}{r:A6}
theorem RV.rlen(R:RV N d r):r.blk.length=N:=by rw[R.blk];exact R.inv.blen
theorem RV.on(R:RV N d r):Yj r=PA d:=by
 unfold Yj PA
 rw[R.off]
 cases h:d.isCut
 rw[R.uncut h]
 simp
 obtain⟨h1,h2,h3⟩:=R.cut h
 rw[h3]
 simp
theorem RV.tick(R:RV N d r)(h:PA d=true):RV N (Kn d) (O0 r):=by
 have hs:(O0 r).left=if 0<r.left then wI (r.left-1)else r.left:=rfl
 refine⟨R.inv.of rfl rfl,R.nle,R.blk,R.plen,R.pnd,R.blen,R.bad,R.bnd,R.blt,R.cnt,R.tag,R.boots,R.off,fun hc=>?_,fun hc=>?_⟩
 have hc':d.isCut=true:=hc
 obtain⟨h1,h2,h3⟩:=R.cut hc'
 have h0:d.lasts≠0:=fun e=>by simp[PA,hc',e]at h
 have hl:(Kn d).lasts=d.lasts-1:=by
  show(if d.isCut then wI (d.lasts-1)else d.lasts)=_
  rw[hc',if_pos rfl,CR zO zO]
 rw[hl,hs,h3,if_pos zO,CR zO zO]
 exact⟨by omega,by omega,rfl⟩
 have hc':d.isCut=false:=hc
 rw[hs,R.uncut hc',if_neg zO]
theorem RV.dead(R:RV N d r):RV N (U5 d) (Th r):=
 ⟨R.inv.of rfl rfl,R.nle,R.blk,R.plen,R.pnd,R.blen,R.bad,R.bnd,R.blt,R.cnt,R.tag,R.boots,rfl,R.cut,R.uncut⟩
theorem PX{α:Type}{l:List α}{i j:Nat}{a x:α}(hi:i<l.length):(l.set i a).getD j x=if i=j then a else l.getD j x:=by
 rw[List.getD_eq_getElem?_getD,List.getD_eq_getElem?_getD,List.getElem?_set]
 split
 rename_i h
 subst h
 simp
 rfl
theorem RV.write(R:RV N d r)(p:UInt32)(s:List UInt8):∃e d' r',G6 d p s=some (e,d')∧EI r p s=some (e,r')∧RV N d' r':=by
 by_cases hp:p.toNat<N∧s.length=256
 obtain⟨h1,h2⟩:=hp
 have hp':p.toNat<d.blocks.length:=by rw[R.inv.blen];exact h1
 have hpl:=R.inv.plen
 have hn:=R.nle
 have hw:=em (d:=d) hp' h2 zO
 have hr:EI r p s=some (if Yj r then(0,{ O0 r with pnd:=r.pnd.set p.toNat s })else(71,Th r)):=by
  unfold EI
  have hc:(!decide (p.toNat<r.blk.length) || !decide ((s.length:Int)=256))=false:=by
   rw[R.rlen,zt h1,zt zO]
   rfl
  rw[lC r p (by rw[R.rlen];omega),AA,hc,BZ,gV,AA]
  cases h:Yj r
  rfl
  rw[if_pos rfl,if_pos rfl]
  show cond (decide ((0:Int)=0)) _ _=_
  rw[zt rfl,CC]
  have hl:p.toNat<(O0 r).pnd.length:=by show p.toNat<r.pnd.length;rw[R.plen];exact h1
  rw[EP,List.getElem?_eq_getElem hl,AA,KH rfl hl,AA]
  rfl
 rw[R.on]at hr
 cases h:PA d
 rw[X0 h]at hw
 rw[h]at hr
 exact⟨_,_,_,hw,hr,R.dead⟩
 rw[X1 h]at hw
 rw[h]at hr
 have T:=R.tick h
 refine⟨_,_,_,hw,hr,⟨T.inv.put h1 h2 rfl rfl,R.nle,R.blk,by rw[List.length_set];exact R.plen,fun q hq=>?_,R.blen,R.bad,R.bnd,R.blt,R.cnt,R.tag,R.boots,R.off,T.cut,T.uncut⟩⟩
 have hne:s≠[]:=fun e=>by rw[e]at h2;simp at h2
 show Bn (Hn d.pend p s) q=if(r.pnd.set p.toNat s).getD q.toNat []=[]then none else some ((r.pnd.set p.toNat s).getD q.toNat [])
 rw[I5,PX (by rw[R.plen];exact h1)]
 by_cases e:p=q
 subst e
 rw[if_pos rfl,if_pos rfl,if_neg hne]
 rw[if_neg e,if_neg (fun h=>e (UInt32.toNat_inj.1 h))]
 exact R.pnd q hq
 have hb:¬p.toNat<d.blocks.length∨s.length≠256:=by rw[R.inv.blen];omega
 refine⟨_,_,_,mF hb,?_,R⟩
 unfold EI
 have hc:(!decide (p.toNat<r.blk.length) || !decide ((s.length:Int)=256))=true:=by
  rw[R.rlen]
  simp only[Bool.or_eq_true,Bool.not_eq_true',decide_eq_false_iff_not]
  omega
 rw[lC r p (by rw[R.rlen];exact R.nle),AA,hc,CC]
theorem hO(i:Nat):De (i:Int)=UInt32.ofNat i:=by
 apply UInt32.toNat_inj.1
 simp only[De,UInt32.toNat_ofNat']
 omega
def yz(N:Nat):Ai:={ off:=false,isCut:=false,lasts:=0,counts:=0,blocks:=List.replicate N (List.replicate 256 0),pend:=[],bad:=[],rcnt:=0,rtag:=List.replicate 32 0,rboots:=0 }
def yE(N:Nat):A6:={ blk:=List.replicate N (List.replicate 256 0),pnd:=List.replicate N [],bads:=List.replicate N false,rcnt:=0,rtag:=List.replicate 32 0,rboots:=0,left := -1,off:=false }
theorem za{N:Nat}(hN:N≤4096):RV N (yz N) (yE N):=by
 refine⟨⟨List.length_replicate ..,fun s hs=>?_,List.nodup_nil,(fun q hq=>by cases hq)⟩,hN,rfl,List.length_replicate ..,fun p hp=>?_,List.length_replicate ..,fun p hp=>?_,List.nodup_nil,(fun q hq=>by cases hq),rfl,rfl,rfl,rfl,(fun h=>by cases h),fun _=>rfl⟩
 rw[List.eq_of_mem_replicate hs,List.length_replicate]
 show Bn [] p=if(List.replicate N ([]:List UInt8)).getD p.toNat []=[]then none else some ((List.replicate N ([]:List UInt8)).getD p.toNat [])
 rw[Xu _ (by simpa using hp)]
 simp[Bn]
 show(Bn ([]:List (UInt32×Bool)) p).getD false=(List.replicate N false).getD p.toNat false
 rw[Xu _ (by simpa using hp)]
 simp[Bn]
end

section
structure Ez where
 cnt:UInt64
 gen:UInt32
 rows:UInt32
 page:UInt32
 tag:List UInt8
deriving DecidableEq
def JE(r:Ez):List Value:=[Be r.cnt,AB r.gen,AB r.rows,AB r.page,vS r.tag]
structure AAA where
 kind:Int
 x0:UInt32
 y0:UInt32
 x1:UInt32
 y1:UInt32
 x:UInt32
 y:UInt32
 sq:UInt64
 k:Int
 after:UInt64
 isFrom:Bool
structure BF where
 rows:List Aj
 pages:List Ak
 gens:List (UInt32×UInt32)
 ring:List BD
 gen:UInt32
 bad:Bool
structure z7 where
 ops:List Iv
 isOpen:Bool
 gB:Bool
structure z8 where
 had:List Ak
 out:List Ak
 took:List UInt32
 err:Int
 must:List Ak
structure zl where
 ops:List Iv
 isOpen:Bool
 gB:Bool
structure C3 where
 rows:List Aj
 had:List Ak
 gens:List UInt32
 bad:Bool
theorem Ja{P:Program}{k:TypeId}(hk:P.underlying k=some (.int .u32)):OG P k AB AB:=
 ⟨Maps.int_keyed hk,X8 hk,⟨fun v=>match v with | .int _ a=>some (UInt32.ofNat a.toNat) | _=>none,fun x=>by simp⟩,⟨fun v=>match v with | .int _ a=>some (UInt32.ofNat a.toNat) | _=>none,fun x=>by simp⟩⟩
def QG(s:Ak):Value:=.agg (AS s).toArray
theorem QY{P:Program}{k:TypeId}(hk:P.underlying k=some (.int .u32)):OG P k AB QG:=
 ⟨Maps.int_keyed hk,X8 hk,⟨fun v=>match v with | .int _ a=>some (UInt32.ofNat a.toNat) | _=>none,fun x=>by simp⟩,
  ⟨fun v=>match v with | .agg a=>(match a.toList with | [.string t,.int _ p,.string b]=>some ⟨t.data.toList,UInt32.ofNat p.toNat,b.data.toList⟩ | _=>none) | _=>none,fun x=>by
  cases x
  simp[QG,AS,AB,vS]⟩⟩
section
variable {P:Program}{ro:Option Nat}{K:Nat→Prop}{w0:World}{N:Nat}{Q:Dg}{D:List Nat}{l l':Tm}{H H' Hs:List AX}{ops:Array Oper}{items:I6}
variable {tk:Bool}{o:Oper}{t:Nat}{v:Value}{x y z y1:Operand}
theorem ij{α:Type}{enc:α→List Value}{sz:Nat}{xs us:List α}{k k':IntKind}{j:Int}{ty e:TypeId}(hn:Iu xs 0 j=some us)(hk:By K w0 enc sz v xs)(ho:At ops N l o t (.slice ty x none (some z) (some y1)))(hty:P.underlying ty=some (.slice e))(hsz:DU P e=some sz)(hx:Bo l x=some v)(hz:Bo l z=some (.int k j))(hu:Bo l y1=some (.int k' j))
(h:∀v',By K w0 enc sz v' us→SL P ro K w0 N ops Hs items Q D ((t,v')::l) H):SL P ro K w0 N ops Hs (.cons (tk,o) items) Q D l H:=by
 obtain⟨h1,h2,h3,h4,rfl⟩:=MJ hn
 have e2:(xs.drop (0:Int).toNat).take (j.toNat-(0:Int).toNat)=xs.take j.toNat:=by simp
 rw[e2]at h
 have hj:j=(j.toNat:Int):=zO
 generalize j.toNat=n at*
 subst hj
 have hn:n≤xs.length:=zO
 rcases hk.at_ with⟨a0,rfl,rfl⟩ | ⟨b,off,cap,rfl,hcap,hc⟩
 have hn0:n=0:=by simpa using hn
 subst hn0
 refine SL.val (v:=.slice a0 0 0) ho E (fun a w ha _=>?_) (h _ ⟨hk.len,.inl ⟨_,E,by simp⟩⟩)
 simp only[execOp,ho.op,Instr.sliceAt,Instr.slice,Option.map]
 cases a0<;>simp[ha.eval hx,ha.eval hz,ha.eval hu,A2 hty,CY hsz,Instr.sliceBounds,Instr.sliceBound,asIntOf]
 have hle:n≤cap:=Nat.le_trans hn hcap
 refine SL.val (v:=.slice (some ⟨b,off,none⟩) n n) ho E (fun a w ha _=>?_) (h _ ⟨hk.len,.inr ⟨b,off,n,by simp[List.length_take,Nat.min_eq_left hn],by rw[List.length_take];exact Nat.min_le_left ..,?_⟩⟩)
 simp only[execOp,ho.op,Instr.sliceAt,Instr.slice,Option.map]
 simp[ha.eval hx,ha.eval hz,ha.eval hu,A2 hty,CY hsz,Instr.sliceBounds,Instr.sliceBound,asIntOf,hle,CU]
 intro j u hu
 refine hc j u ?_
 have hpre:(xs.take n).flatMap enc++(xs.drop n).flatMap enc=xs.flatMap enc:=by
  rw[←List.flatMap_append,List.take_append_drop]
 rw[←hpre,List.getElem?_append_left (List.getElem?_eq_some_iff.1 hu).1]
 exact hu
section
variable {κ α:Type}{ek:κ→Value}{ev:α→Value}{m:List (κ×α)}{b:Nat}{k:TypeId}
def Cb(v:Value)(ek:κ→Value)(ev:α→Value)(m:List (κ×α)):AX:=
 ⟨fun b=>v=.map (some b),fun w=>(v=.map none∧m=[])∨∃b,v=.map (some b)∧(AY b ek ev m).holds w,fun w w' h hw=>by
  rcases hw with hn | ⟨b,rfl,hb⟩
  exact .inl hn
  exact .inr ⟨b,rfl,(AY b ek ev m).loc w w' (fun j hj=>h j (by rw[show j=b from hj])) hb⟩⟩
theorem Bj.nilM{w:World}(ek:κ→Value)(ev:α→Value)(h:Bj K w0 H w):Bj K w0 (Cb (.map none) ek ev []::H) w:=
 ⟨h.os,h.tape,h.output,h.size,h.klt,h.keep,fun c hc=>by
   rcases List.mem_cons.1 hc with rfl | hc
   exact .inl ⟨rfl,rfl⟩
   exact h.holds c hc,
  fun c hc b hb=>by
   rcases List.mem_cons.1 hc with rfl | hc
   cases hb
   exact h.foot c hc b hb,
  List.pairwise_cons.2 ⟨fun c _ b hb=>(by cases hb),h.disj⟩⟩
theorem pm(ek:κ→Value)(ev:α→Value)(h:SL P ro K w0 N ops Hs items Q D l (Cb (.map none) ek ev []::H)):SL P ro K w0 N ops Hs items Q D l H:=
 fun a w ha hw hs=>h a w ha (hw.nilM ek ev) hs
theorem mS(i:Nat)(hi:H[i]? = some (AY b ek ev m))(h:SL P ro K w0 N ops Hs items Q D l (H.set i (Cb (.map (some b)) ek ev m)))(hs:FF Hs (H.set i (Cb (.map (some b)) ek ev m))):SL P ro K w0 N ops Hs items Q D l H:=by
 intro a w ha hw hs0
 refine h a w ha (Bj.turnAt i hw hi rfl rfl rfl (Nat.le_refl _) (fun _ _ _=>rfl) (.inr ⟨b,rfl,hw.holds _ (List.mem_append_left _ (List.mem_of_getElem? hi))⟩) fun b' hb=>?_) hs0
 obtain rfl:b=b':=by simpa[Cb]using hb
 exact⟨.inl rfl,(hw.foot _ (List.mem_append_left _ (List.mem_of_getElem? hi)) b rfl).1⟩
variable [DecidableEq κ]
omit [DecidableEq κ] in
theorem lF{w:World}(E9:OG P k ek ev){ty e:TypeId}(ht:P.underlying ty=some (.map k e)){zv:α}(hz:Ev P e=some (ev zv))(key:κ)(c:Bool):
  (Instr.lookup ty (.map none) (ek key) c).run P w=.ok (if c then .tuple #[ev zv,.bool false]else ev zv) w:=by
 obtain⟨lx,hl⟩:=E9.lit key
 rcases E9.keyed.find w hl [] zS with⟨h1,h2⟩ | ⟨j,e0,h1,h2,h3⟩
 simp[Instr.lookup,A2 ht,E9.keyed.check w _ hl,h1,Pd hz,Result.andThen]
 simp at h2
theorem XB{ty e:TypeId}{key:κ}{zv:α}(i:Nat)(E9:OG P k ek ev)(ho:At ops N l o t (.lookup ty x y false))(ht:P.underlying ty=some (.map k e))(hz:Ev P e=some (ev zv))(hx:Bo l x=some v)(hy:Bo l y=some (ek key))
(hi:(bif tk then Hs else H)[i]? = some (Cb v ek ev m))(h:SL P ro K w0 N ops Hs items Q D ((t,ev ((Bn m key).getD zv))::l) H):SL P ro K w0 N ops Hs (.cons (tk,o) items) Q D l H:=
 SL.val ho rfl (fun a w ha hsw=>by
  rcases(hsw.holds _ (List.mem_of_getElem? hi):(Cb v ek ev m).holds w)with⟨rfl,rfl⟩ | ⟨b,rfl,es,clock,hb,hr⟩
  have:=lF (w:=w) E9 ht hz key false
  simp[execOp,ho.op,ha.eval hx,ha.eval hy,this,Bn]
  have:=hr.look E9 hb ht hz key false
  simp[execOp,ho.op,ha.eval hx,ha.eval hy,this]) h
end
def WF(P:Program)(ty:TypeId)(f:Nat):Option Nat:=
 match P.underlying ty with
 | some (.struct fs)=>match fs[f]? with
  | some fd=>if KM P fd.type then some fd.offset else none
  | none=>none
 | _=>none
theorem RX{cs:Array Value}{d f:Nat}{ty:TypeId}(ho:At ops N l o t (.field ty x f))(hf:WF P ty f=some d)(hx:Bo l x=some (.agg cs))(hc:cs[d]? = some v)(h:SL P ro K w0 N ops Hs items Q D ((t,v)::l) H):SL P ro K w0 N ops Hs (.cons (tk,o) items) Q D l H:=
 SL.val ho rfl (fun a w ha _=>by
  unfold WF at hf
  cases hu:P.underlying ty with
  | none=>simp[hu]at hf
  | some ds=>
   cases ds<;>simp only[hu]at hf<;>try cases hf
   rename_i fs
   cases hfs:fs[f]? with
   | none=>simp[hfs]at hf
   | some fd=>
    simp only[hfs]at hf
    split at hf
    rename_i hs
    obtain rfl:=zI hf
    simp[execOp,ho.op,Instr.field,A2 hu,ha.eval hx,hfs,part,(Yr hs w).1,hc,asAgg]
    cases hf) h
end
abbrev sO(b:Nat)(x y z:Value)(e f:Nat)(r:Value)(d:BF):AX:=own b (.cells #[x,y,z,vP e 0,vP f 0,r,AB d.gen,vB d.bad] 95)
end

section
variable {K:Nat→Prop}{w0:World}{H:List AX}
def Dj(p0:A6):Option (UInt32×Int×A6):=
 cond (decide (p0.rboots=4294967295))
 (
  some (0,72,p0))
 (
  (E2 p0).bind fun y1=>
  cond (!decide (y1.1=0))
  (
   some (0,y1.1,y1.2))
  (
   ret (y1.2.rboots+1) fun x1=>
   some (x1,0,{ y1.2 with rboots:=y1.2.rboots+1 })))
theorem UB{Az:Nat}{As AW Al:Value}{p0:A6}{r:UInt32×Int×A6}(h:Dj p0=some r): zC K w0 58 [vP Az 0] [eO Az As AW Al p0,AD 9 1 As eS p0.blk,AD 9 1 AW eS p0.pnd,AD 4 1 Al eB p0.bads] H (fun u M=>u=.tuple #[AB r.1,vI r.2.1]∧M=[eO Az As AW Al r.2.2,AD 9 1 As eS r.2.2.blk,AD 9 1 AW eS r.2.2.pnd,AD 4 1 Al eB r.2.2.bads]):=by
 unfold Dj at h
 refine WN.enter Tryz.func58 rfl rfl ?_
 refine Y (U E (U E (V (AH (Y (J E (AT E E (AE E NL (AE E Rj (AG 0 A4 E ?_))))))))))
 refine Z E (Iz (b:=4294967295)) ?_
 refine V ?_
 refine AL h E (fun hc1 h=>?_) fun hc1 h=>?_
 refine Y (U E (U E (V (AK (Aa ?_)))))
 obtain rfl:=zI h
 exact Ac [0,1,2,3] 4 E E E
 refine AI (AJ (Y ?_))
 refine AF h fun y1 hy1 h=>?_
 refine J E (AQ 4 f8 (KU hy1) E (U E (V (AH (Y (J E (Z E BQ (V ?_))))))))
 refine AL h E (fun hc2 h=>?_) fun hc2 h=>?_
 refine Y (J E (U E (U E (V (AK (Aa ?_))))))
 obtain rfl:=zI h
 exact Ac [0,1,2,3] 4 E E E
 refine AI (AJ (Y (J E (AT E E (AE E NL (AE E Rj (AG 0 A4 E ?_)))))))
 refine Z E (B3 (b:=1)) ?_
 refine AT E E (AE E NL (AE E Rj (A3 0 E E E E Bx E E E zT (V (Y ?_)))))
 obtain⟨x1,ex1,h⟩:=Bz h
 refine J E (AT E E (AE E NL (AE E Rj (AG 0 A4 E ?_))))
 refine Ay (u:=AB x1) E E (congrArg AB ex1) ?_
 refine U E (V (AK ?_))
 obtain rfl:=zI h
 exact Ac [0,1,2,3] 4 E E E
def GC(y1:Int×A6)(o1:A6):Option (Int×A6):=
 some (y1.1,o1)
def DN(p0:A6)(p1:List UInt8):Option (Int×A6):=
 cond (!decide ((p1.length:Int)=32))
 (
  some (2,p0))
 (
  cond (decide (p0.rcnt=18446744073709551615))
  (
   some (72,p0))
  (
   (E2 p0).bind fun y1=>
   cond (decide (y1.1=0))
   (
    GC y1 ({ y1.2 with rcnt:=y1.2.rcnt+1,rtag:=p1 }))
   (
    GC y1 y1.2)))
theorem Sh{Az:Nat}{As AW Al:Value}{p0:A6}{p1:List UInt8}{r:Int×A6}(h:DN p0 p1=some r): zC K w0 131 [vP Az 0,vS p1] [eO Az As AW Al p0,AD 9 1 As eS p0.blk,AD 9 1 AW eS p0.pnd,AD 4 1 Al eB p0.bads] H (fun u M=>u=vI r.1∧M=[eO Az As AW Al r.2,AD 9 1 As eS r.2.blk,AD 9 1 AW eS r.2.pnd,AD 4 1 Al eB r.2.bads]):=by
 unfold DN at h
 refine WN.enter Tryz.func131 rfl rfl ?_
 refine Y (U E (V (AH (Y (J E (B7 E Cu E (Z E BQ (V ?_))))))))
 refine AL h E (fun hc1 h=>?_) fun hc1 h=>?_
 refine Y (U E (V (AK (Aa ?_))))
 obtain rfl:=zI h
 exact Ac [0,1,2,3] 4 E E E
 refine AI (AJ (AH (Y (J E (AT E E (AE E NL (AE E Ri (AG 0 Gl E ?_))))))))
 refine Z E (MM (b:=18446744073709551615)) ?_
 refine V ?_
 refine AL h E (fun hc2 h=>?_) fun hc2 h=>?_
 refine Y (U E (V (AK (Aa ?_))))
 obtain rfl:=zI h
 exact Ac [0,1,2,3] 4 E E E
 refine AI (AJ (Y ?_))
 refine AF h fun y1 hy1 h=>?_
 refine J E (AQ 4 f8 (KU hy1) E (U E (V ?_)))
 refine A8 (α:=A6) (fun x=>GC y1 x=some r) (fun x=>[(0,vP Az 0),(5,vI y1.1)]) (fun x=>eO Az As AW Al x::AD 9 1 As eS x.blk::AD 9 1 AW eS x.pnd::AD 4 1 Al eB x.bads::H) ?_ (fun o1 D h=>?_)
 refine Y (J E (Z E Ba (V ?_)))
 refine AL h E (fun hc3 h=>?_) fun hc3 h=>?_
 refine Y (J E (AT E E (AE E NL (AE E Ri (AG 0 Gl E ?_)))))
 refine Z E (HV (b:=1)) ?_
 refine AT E E (AE E NL (AE E Ri (A3 0 E E E E nw E E E zT (V (AM (J E (J E (AT E E (AE E NL ?_)))))))))
 refine AE E gI (A3 0 E E E E Il E E E zT (AZ ?_))
 exact Aq ({ y1.2 with rcnt:=y1.2.rcnt+1,rtag:=p1 }) h tL (BM [0,1,2,3] 4 rfl rfl rfl)
 refine AI ?_
 exact Aq y1.2 h tL (BM [0,1,2,3] 4 E E E)
 unfold GC at h
 try dsimp only
 refine Y (J E (U E (V (AK ?_))))
 obtain rfl:=zI h
 exact Ac [0,1,2,3] 4 E E E
def Jc(y1:Int×A6)(o1:A6):Option (Int×A6):=
 some (y1.1,o1)
def Ei(a1:Int)(nx_f_ref07_Device_Flush_l1:A6×Int→Option (Int×A6))(o3:A6):Option (Int×A6):=
 ret (wI (a1+1)) fun i_1=>
 nx_f_ref07_Device_Flush_l1 (o3,i_1)
def Dh(y1:Int×A6)(nx_f_ref07_Device_Flush_l1:A6×Int→Option (Int×A6))(o2:A6)(a1:Int):Option (Int×A6):=
 cond ((decide (a1<(o2.blk.length:Int)))&&(decide (y1.1=0)))
 (
  (BE o2.pnd a1).bind fun x1=>
  cond (!decide (x1=[]))
  (
   (BE o2.pnd a1).bind fun x2=>
   (BE o2.blk a1).bind fun x3=>
   (Mx o2.blk a1 x2).bind fun l1=>
   (BE o2.pnd a1).bind fun x4=>
   (Mx o2.pnd a1 []).bind fun l2=>
   Ei a1 nx_f_ref07_Device_Flush_l1 ({ o2 with blk:=l1,pnd:=l2 }))
  (
   Ei a1 nx_f_ref07_Device_Flush_l1 o2))
 (
  Jc y1 o2)
def Fi(y1:Int×A6):Nat→(A6×Int)→Option (Int×A6):=CI fun nx x=>Dh y1 nx x.1 x.2
def EH(n:Nat)(p0:A6):Option (Int×A6):=
 (E2 p0).bind fun y1=>
 Fi y1 n (y1.2,0)
theorem PD{n Az:Nat}{As AW Al:Value}{p0:A6}{r:Int×A6}(h:EH n p0=some r): zC K w0 127 [vP Az 0] [eO Az As AW Al p0,AD 9 1 As eS p0.blk,AD 9 1 AW eS p0.pnd,AD 4 1 Al eB p0.bads] H (fun u M=>u=vI r.1∧M=[eO Az As AW Al r.2,AD 9 1 As eS r.2.blk,AD 9 1 AW eS r.2.pnd,AD 4 1 Al eB r.2.bads]):=by
 unfold EH at h
 refine WN.enter Tryz.func127 rfl rfl ?_
 refine Y (U E (V (Y ?_)))
 refine AF h fun y1 hy1 h=>?_
 refine J E (AQ 4 f8 (KU hy1) E (U E (V ?_)))
 refine A8 (α:=A6) (fun x=>Jc y1 x=some r) (fun x=>[(0,vP Az 0),(3,vI y1.1)]) (fun x=>eO Az As AW Al x::AD 9 1 As eS x.blk::AD 9 1 AW eS x.pnd::AD 4 1 Al eB x.bads::H) ?_ (fun o1 D h=>?_)
 refine Y (U E (V (AN ?_)))
 refine SX.heap (SX.mono (BK (α:=Nat×A6×Int) (fun x=>Fi y1 x.1 (x.2.1,x.2.2)=some r) (fun x=>[(0,vP Az 0),(3,vI y1.1),(4,vI x.2.2)]) (fun x=>eO Az As AW Al x.2.1::AD 9 1 As eS x.2.1.blk::AD 9 1 AW eS x.2.1.pnd::AD 4 1 Al eB x.2.1.bads::H) (fun x=>x.1) (fun x D h=>?_) (n,y1.2,0) h) tL) (BM [0,1,2,3] 4 E E E)
 obtain⟨m1,o2,a1⟩:=x
 dsimp only at h
 rcases m1 with _ | m1
 cases (show(none:Option _)=some r from h)
 replace h:Dh y1 (Fi y1 m1) o2 a1=some r:=h
 unfold Dh at h
 try dsimp only
 refine AH (Y (J E (J E (AT E E (AE E Sk (AG 0 Rq E (DL 1 E FX E E (Z E A9 (J E ?_)))))))))
 refine CV (c:=decide (y1.1=0)) 14 3 17 E (fun hb k=>?_) (fun hb k=>?_) ?_
 refine J E (Z E Ba (Ag E E E ?_))
 exact k.mono tL
 refine AC E (AC E (Ag E E E ?_))
 exact k.mono tL
 refine V ?_
 refine AL h E (fun hc1 h=>?_) fun hc1 h=>?_
 refine AI (AJ ?_)
 refine A8 (α:=A6) (fun x=>Ei a1 (Fi y1 m1) x=some r) (fun x=>[(0,vP Az 0),(3,vI y1.1),(4,vI a1)]) (fun x=>eO Az As AW Al x::AD 9 1 As eS x.blk::AD 9 1 AW eS x.pnd::AD 4 1 Al eB x.bads::H) ?_ (fun o3 D h=>?_)
 refine AN (Y ?_)
 refine AF h fun x1 hx1 h=>?_
 refine J E (AT E E (AE E Sl (AG 0 Rq E (J E ?_))))
 refine B6 2 hx1 E FX Il E E E fun g1 m2 cp1 hv1=>?_
 refine Bm E HJ E (Bq (sz:=1) (enc:=eS) 2 0 zV E hv1 hx1 E) ?_
 refine Z E W2 (V ?_)
 refine AL h E (fun hc2 h=>?_) fun hc2 h=>?_
 refine AH ?_
 refine AF h fun x2 hx2 h=>?_
 refine AF h fun x3 hx3 h=>?_
 refine AF h fun l1 hl1 h=>?_
 refine Ax Cz [0,2] (Bs (G4 0 13) (.last 13 .nil)) zK (J E (AT E E (AE E Sk (AG 0 Rq E (J E (J E (AT E E ?_)))))))
 refine AE E Sl (AG 0 Rq E (J E ?_))
 refine B6 2 hx2 E FX Il E E E fun g2 m3 cp2 hv2=>?_
 refine Bm E HJ E (Bq (sz:=1) (enc:=eS) 1 0 zV E hv2 hx2 E) ?_
 refine B6 1 hx3 E FX Il E E E fun g3 m4 cp3 hv3=>?_
 refine BU ?_
 refine II (sz:=1) (enc:=eS) 1 hl1 zV rfl rfl rfl rfl rfl hv3 Il (by first | (simp[Value.oneCell'];done) | simp[eS,Value.oneCell']) trivial ?_
 refine V (AM ?_)
 refine AF h fun x4 hx4 h=>?_
 refine AF h fun l2 hl2 h=>?_
 refine J E (AT E E (AE E Sl (AG 0 Rq E (J E ?_))))
 refine B6 2 hx4 E FX Il E E E fun g4 m5 cp4 hv4=>?_
 refine II (sz:=1) (enc:=eS) 2 hl2 zV rfl rfl rfl rfl rfl hv4 Il (by first | (simp[Value.oneCell'];done) | simp[eS,Value.oneCell']) trivial ?_
 refine AZ (Av ?_)
 exact Aq ({ o2 with blk:=l1,pnd:=l2 }) h tL (BM [0,1,2,3] 4 rfl rfl rfl)
 refine AI (Av ?_)
 exact Aq o2 h tL (BM [0,1,2,3] 4 E E E)
 unfold Ei at h
 try dsimp only
 refine AM ?_
 obtain⟨i_1,ei_1,h⟩:=Bz h
 refine J E (Z E Bc ?_)
 refine Ay (u:=vI i_1) E E (congrArg vI ei_1) ?_
 refine AZ ?_
 exact A1 (m1,o3,i_1) h (Nat.lt_succ_self _) tL (BM [0,1,2,3] 4 E E E)
 refine A5 (BC (Bb (BB ?_)))
 exact Aq o2 h tL (BM [0,1,2,3] 4 E E E)
 unfold Jc at h
 try dsimp only
 refine Y (J E (U E (V (AK ?_))))
 obtain rfl:=zI h
 exact Ac [0,1,2,3] 4 E E E
def Kw(n:Nat)(p0:List BD):Option (UInt32×Int):=
 (IZ n p0).bind fun y1=>
 cond (!y1)
 (
  some (0,40))
 (
  cond (decide ((p0.length:Int)=0))
  (
   some (0,41))
  (
   (BE p0 (wI ((p0.length:Int)-1))).bind fun x1=>
   some (x1.gen,0)))
theorem Ze{n:Nat}{Cn:Value}{p0:List BD}{r:UInt32×Int}(h:Kw n p0=some r)(hs0_:By K w0 AU 2 Cn p0):zC K w0 56 [Cn] [] H (fun u M=>u=.tuple #[AB r.1,vI r.2]∧M=[]):=by
 unfold Kw at h
 refine WN.enter Tryz.func56 rfl rfl ?_
 refine Y (U E (U E (V (Y ?_))))
 refine AF h fun y1 hy1 h=>?_
 refine J E (AQ 0 ky (Q0 hy1 hs0_) E (U E (V (AH (Y (J E (CF E E (V ?_))))))))
 refine AL h E (fun hc1 h=>?_) fun hc1 h=>?_
 refine Y (U E (U E (V (AK (Aa ?_)))))
 obtain rfl:=zI h
 exact Ac [] 0 E E E
 refine AI (AJ (AH (Y (J E (Bt hs0_ E FW E (Z E Ba (V ?_)))))))
 refine AL h E (fun hc2 h=>?_) fun hc2 h=>?_
 refine Y (U E (U E (V (AK (Aa ?_)))))
 obtain rfl:=zI h
 exact Ac [] 0 E E E
 refine AI (AJ (Y ?_))
 refine AF h fun x1 hx1 h=>?_
 refine J E (J E (Bt hs0_ E FW E (Z E Dc ?_)))
 refine Co hx1 hs0_ E FW Fq E E fun be1 of1 hc3=>?_
 refine AE E Gy ?_
 refine Bm E A4 E (C5 (j:=0) hc3 E) ?_
 refine U E (U E (V (AK ?_)))
 obtain rfl:=zI h
 exact Ac [] 0 E E E
def HB(n:Nat)(T:List UInt32)(p0:BW)(p0_1:A6)(p1:UInt32)(p2:List UInt8):Option (List UInt8×Int×BW×A6):=
 cond (decide (1<p1))
 (
  some ([],2,p0,p0_1))
 (
  cond (decide (198<(p2.length:Int)))
  (
   some ([],50,p0,p0_1))
  (
   (E7 n T p0 p0_1 p1 p2).bind fun y1=>
   some (y1.1,y1.2.1,y1.2.2.1,y1.2.2.2)))
theorem Ue{n Az BG:Nat}{T:List UInt32}{AW BA CS BX Cg:Value}{p0:BW}{p0_1:A6}{p1:UInt32}{p2:List UInt8}{r:List UInt8×Int×BW×A6}(h:HB n T p0 p0_1 p1 p2=some r)(hT:Jl K w0 2 64 T):zC K w0 130 [vP Az 0,AB p1,vS p2] [wO Az BG AW BA p0,AD 55 2 AW AU p0.ring,AD 4 1 BA eB p0.taken,eO BG CS BX Cg p0_1,AD 9 1 CS eS p0_1.blk,AD 9 1 BX eS p0_1.pnd,AD 4 1 Cg eB p0_1.bads] H (fun u M=>u=.tuple #[vS r.1,vI r.2.1]∧M=[wO Az BG AW BA r.2.2.1,AD 55 2 AW AU r.2.2.1.ring,AD 4 1 BA eB r.2.2.1.taken,eO BG CS BX Cg r.2.2.2,AD 9 1 CS eS r.2.2.2.blk,AD 9 1 BX eS r.2.2.2.pnd,AD 4 1 Cg eB r.2.2.2.bads]):=by
 unfold HB at h
 refine WN.enter Tryz.func130 rfl rfl ?_
 refine Y (U E (U E (V (AH (Y (J E ?_))))))
 refine Z E (ST (b:=1)) ?_
 refine V ?_
 refine AL h E (fun hc1 h=>?_) fun hc1 h=>?_
 refine Y (U E (U E (V (AK (Aa ?_)))))
 obtain rfl:=zI h
 exact Ac [0,1,2,3,4,5,6] 7 E E E
 refine AI (AJ (AH (Y (J E (B7 E Cu E (Z E Cj (V ?_)))))))
 refine AL h E (fun hc2 h=>?_) fun hc2 h=>?_
 refine Y (U E (U E (V (AK (Aa ?_)))))
 obtain rfl:=zI h
 exact Ac [0,1,2,3,4,5,6] 7 E E E
 refine AI (AJ (Y ?_))
 refine AF h fun y1 hy1 h=>?_
 refine J E (J E (J E (AQ 7 mu (Pz hy1 hT) E (Ah E E E (Ah E E E (U E (U E (V (AK ?_)))))))))
 obtain rfl:=zI h
 exact Ac [0,1,2,3,4,5,6] 7 E E E
def J2(p0:Ez):Option Bool:=
 (GF (⟨p0.page,p0.tag⟩:BR)).bind fun y1=>
 ret ((((decide (0<p0.cnt))&&(decide (0<p0.gen)))&&(decide (p0.rows≤1000)))&&y1) fun x1=>
 some x1
theorem Ug{p0:Ez}{r:Bool}(h:J2 p0=some r): zC K w0 161 [.agg (JE p0).toArray] [] H (fun u M=>u=vB r∧M=[]):=by
 unfold J2 at h
 refine WN.enter Tryz.func161 rfl rfl ?_
 refine Y ?_
 refine Bg E E zU fun b1=>?_
 refine U E (V (Y ?_))
 refine AF h fun y1 hy1 h=>?_
 refine AE rfl So (Aw [AB p0.page,vS p0.tag] rfl DC rfl rfl (Ct 0 rfl (by rintro(_ | (_ | j)) u hj<;>first | exact hj | exact absurd hj zS)) (AQ 0 fp ((OO hy1 :)) rfl (U rfl (V (Y ?_)))))
 obtain⟨x1,ex1,h⟩:=Bz h
 refine AE E NM (AG 0 Gl E ?_)
 refine Z E (PG (b:=0)) ?_
 refine J E ?_
 refine CV (c:=decide (0<p0.gen)) 10 4 14 E (fun hb k=>?_) (fun hb k=>?_) ?_
 refine AE E Xo (AG 0 A4 E ?_)
 refine Z E (ST (b:=0)) ?_
 refine Ag E E E ?_
 exact k.mono tL
 refine AC E (AC E (AC E (Ag E E E ?_)))
 exact k.mono tL
 refine J E ?_
 refine CV (c:=decide (p0.rows≤1000)) 15 4 19 E (fun hb k=>?_) (fun hb k=>?_) ?_
 refine AE E Xp (AG 0 A4 E ?_)
 refine Z E (N3 (b:=1000)) ?_
 refine Ag E E E ?_
 exact k.mono tL
 refine AC E (AC E (AC E (Ag E E E ?_)))
 exact k.mono tL
 refine J E ?_
 refine CV (c:=y1) 20 2 22 E (fun hb k=>?_) (fun hb k=>?_) ?_
 refine J E (Ag E E E ?_)
 exact k.mono tL
 refine AC E (Ag E E E ?_)
 exact k.mono tL
 refine Ay (u:=vB x1) E E (congrArg vB ex1) ?_
 refine V (AK ?_)
 obtain rfl:=zI h
 exact Ac [] 1 E E E
def QM(a1:List UInt8):Option (List UInt8):=
 some a1
def Ol(p1:Int)(nx_f_ref15_put_l1:UInt64×List UInt8×Int→Option (List UInt8))(a2:UInt64)(a3:List UInt8)(a4:Int):Option (List UInt8):=
 cond (decide (a4<p1))
 (
  (FG a3 [a2.toUInt8]).bind fun s1=>
  (RM a2 256).bind fun q1=>
  ret (wI (a4+1)) fun i_1=>
  nx_f_ref15_put_l1 (q1,s1,i_1))
 (
  QM a3)
def QN(p1:Int):Nat→(UInt64×List UInt8×Int)→Option (List UInt8):=CI fun nx x=>Ol p1 nx x.1 x.2.1 x.2.2
def JP(n:Nat)(p0:UInt64)(p1:Int):Option (List UInt8):=
 QN p1 n (p0,[],0)
theorem Qd{n:Nat}{p0:UInt64}{p1:Int}{r:List UInt8}(h:JP n p0 p1=some r): zC K w0 162 [Be p0,vI p1] [] H (fun u M=>u=vS r∧M=[]):=by
 unfold JP at h
 refine WN.enter Tryz.func162 rfl rfl ?_
 refine Y (U E (V (Y (U E (V ?_)))))
 refine A8 (α:=List UInt8) (fun x=>QM x=some r) (fun x=>[(5,vS x)]) (fun x=>H) ?_ (fun a1 D h=>?_)
 refine Y (U E (V (AN ?_)))
 refine SX.heap (SX.mono (BK (α:=Nat×UInt64×List UInt8×Int) (fun x=>QN p1 x.1 (x.2.1,x.2.2.1,x.2.2.2)=some r) (fun x=>[(0,Be x.2.1),(1,vI p1),(5,vS x.2.2.1),(6,vI x.2.2.2)]) (fun x=>H) (fun x=>x.1) (fun x D h=>?_) (n,p0,[],0) h) tL) (BM [] 0 E E E)
 obtain⟨m1,a2,a3,a4⟩:=x
 dsimp only at h
 rcases m1 with _ | m1
 cases (show(none:Option _)=some r from h)
 replace h:Ol p1 (QN p1 m1) a2 a3 a4=some r:=h
 unfold Ol at h
 try dsimp only
 refine AH (Y (J E (J E (Z E A9 (V ?_)))))
 refine AL h E (fun hc1 h=>?_) fun hc1 h=>?_
 refine AI (AJ (AH (AN (Y ?_))))
 refine AF h fun s1 hs1 h=>?_
 refine J E (J E (BO E E (GO DH Dl) ?_))
 refine CA [_] rfl Cm LS ML ⟨rfl,trivial⟩ rfl rfl rfl zW rfl rfl zU fun b1=>?_
 refine B4 Gb 1 ([a2.toUInt8]:List UInt8) E zV E ?_
 refine IH 0 E Cm Dl Cu E E (Z E (CX hs1) (U E (V (AM ?_))))
 refine AF h fun q1 hq1 h=>?_
 refine J E ?_
 refine Z E (Pv (b:=256) hq1) ?_
 refine U E (AZ (Av (AJ (AM ?_))))
 obtain⟨i_1,ei_1,h⟩:=Bz h
 refine J E (Z E Bc ?_)
 refine Ay (u:=vI i_1) E E (congrArg vI ei_1) ?_
 refine AZ ?_
 exact A1 (m1,q1,s1,i_1) h (Nat.lt_succ_self _) tL (BM [] 1 E E E)
 refine A5 (BC (Bb (BB ?_)))
 exact Aq a3 h tL (BM [] 0 E E E)
 unfold QM at h
 try dsimp only
 refine Y (J E (U E (V (AK ?_))))
 obtain rfl:=zI h
 exact Ac [] 0 E E E
def Kx(n:Nat)(p0:Ez):Option (List UInt8×Int):=
 (J2 p0).bind fun y1=>
 cond (!y1)
 (
  some ([],120))
 (
  (JP n p0.cnt 8).bind fun y2=>
  (FG [115,112,104,114] y2).bind fun s1=>
  (JP n p0.gen.toUInt64 4).bind fun y3=>
  (FG s1 y3).bind fun s2=>
  (JP n p0.rows.toUInt64 4).bind fun y4=>
  (FG s2 y4).bind fun s3=>
  (JP n p0.page.toUInt64 4).bind fun y5=>
  (FG s3 y5).bind fun s4=>
  (FG s4 p0.tag).bind fun s5=>
  some (s5,0))
theorem Zh{n:Nat}{p0:Ez}{r:List UInt8×Int}(h:Kx n p0=some r): zC K w0 129 [.agg (JE p0).toArray] [] H (fun u M=>u=.tuple #[vS r.1,vI r.2]∧M=[]):=by
 unfold Kx at h
 refine WN.enter Tryz.func129 rfl rfl ?_
 refine Y ?_
 refine Bg E E zU fun b1=>?_
 refine U E (U E (V (Y ?_)))
 refine AF h fun y1 hy1 h=>?_
 refine Aw [Be p0.cnt,AB p0.gen,AB p0.rows,AB p0.page,vS p0.tag] E KT E E (Ap 0 E) (AQ 0 ms ((Ug hy1 :)) E (U E (V (AH (Y (J E (CF E E (V ?_))))))))
 refine AL h E (fun hc1 h=>?_) fun hc1 h=>?_
 refine Y (U E (U E (V (AK (Aa ?_)))))
 obtain rfl:=zI h
 exact Ac [] 1 E E E
 refine AI (AJ (AH ?_))
 refine AF h fun y2 hy2 h=>?_
 refine AF h fun s1 hs1 h=>?_
 refine AF h fun y3 hy3 h=>?_
 refine AF h fun s2 hs2 h=>?_
 refine AF h fun y4 hy4 h=>?_
 refine AF h fun s3 hs3 h=>?_
 refine AF h fun y5 hy5 h=>?_
 refine AF h fun s4 hs4 h=>?_
 refine AF h fun s5 hs5 h=>?_
 refine Ax Cz [0] (Bs [(true,0),(true,1),(true,4),(true,5),(true,6),(true,9),(true,10),(true,11),(true,14),(true,15),(true,16),(true,17),(true,20),(true,21),(true,22),(false,2),(true,3),(false,7),(true,8),(false,12),(true,13),(false,18),(false,19)] (.last 23 (Pl.of [(false,24),(false,25)]))) zK (AE E NM (AG 0 Gl E (AE E Xo (AG 0 A4 E (BO E E (Ck CD DH) (AE E Xp (AG 0 A4 E ?_)))))))
 refine BO E E (Ck CD DH) (AE E So (AE E Ds (AG 0 A4 E (BO E E (Ck CD DH) (AE E So (AE E Or (AG 0 HJ E ?_)))))))
 refine BS 0 Zz (Qd hy2) E ⟨⟨0,E⟩,zT⟩ (Z E (CX hs1) (BS 0 Zz (Qd hy3) E ⟨⟨0,E⟩,zT⟩ (Z E (CX hs2) (BS 0 Zz (Qd hy4) E ⟨⟨0,E⟩,zT⟩ (Z E (CX hs3) (BS 0 Zz (Qd hy5) E ⟨⟨0,E⟩,zT⟩ (Z E (CX hs4) (BU ?_))))))))
 refine Z E (CX hs5) (U E (U E (V (AK ?_))))
 obtain rfl:=zI h
 exact Ac [] 1 E E E
def NI(p0:UInt64)(p1:UInt32)(p2:Int)(p3:BR):Option (Ez×Int):=
 cond (decide (p0=18446744073709551615))
 (
  some ((⟨0,0,0,0,[]⟩:Ez),72))
 (
  cond ((decide (p2<0))||(decide (1000<p2)))
  (
   some ((⟨0,0,0,0,[]⟩:Ez),120))
  (
   (J2 (⟨p0+1,p1,De p2,p3.page,p3.tag⟩:Ez)).bind fun y1=>
   cond (!y1)
   (
    some ((⟨0,0,0,0,[]⟩:Ez),120))
   (
    some ((⟨p0+1,p1,De p2,p3.page,p3.tag⟩:Ez),0))))
theorem V6{p0:UInt64}{p1:UInt32}{p2:Int}{p3:BR}{r:Ez×Int}(h:NI p0 p1 p2 p3=some r): zC K w0 128 [Be p0,AB p1,vI p2,.agg (Bd p3).toArray] [] H (fun u M=>u=.tuple #[.agg (JE r.1).toArray,vI r.2]∧M=[]):=by
 unfold NI at h
 refine WN.enter Tryz.func128 rfl rfl ?_
 refine Y ?_
 refine Bg E E zU fun b1=>?_
 refine Au E Kq zU fun b2=>?_
 refine U E (V (AH (Y (J E ?_))))
 refine Z E (MM (b:=18446744073709551615)) ?_
 refine V ?_
 refine AL h E (fun hc1 h=>?_) fun hc1 h=>?_
 refine Y (B5 [] E Wu Wt Kq zT E (A3 0 E E E E O4 E E E zT (U E (V (AK (Aa ?_))))))
 obtain rfl:=zI h
 exact An (FA E (B2 0 (JE (⟨0,0,0,0,[]⟩:Ez)) KT E E E E) E) (Ao (M:=[]) ⟨E,E⟩ fun _ hw=>Bj.pick (H:=[_,_]) hw [] 2 E)
 refine AI (AJ (AH (Y (J E (Z E A9 (J E ?_))))))
 refine Dw (c:=decide (1000<p2)) 17 3 20 E (fun hb k=>?_) (fun hb k=>?_) ?_
 refine AC E (AC E (Ag E E E ?_))
 exact k.mono tL
 refine J E (Z E Cj (Ag E E E ?_))
 exact k.mono tL
 refine V ?_
 refine AL h E (fun hc2 h=>?_) fun hc2 h=>?_
 refine Y (B5 [] E Wu Wt Kq zT E (A3 0 E E E E O4 E E E zT (U E (V (AK (Aa ?_))))))
 obtain rfl:=zI h
 exact An (FA E (B2 0 (JE (⟨0,0,0,0,[]⟩:Ez)) KT E E E E) E) (Ao (M:=[]) ⟨E,E⟩ fun _ hw=>Bj.pick (H:=[_,_]) hw [] 2 E)
 refine AI (AJ (Y (J E ?_)))
 refine Z E (HV (b:=1)) ?_
 refine J E (J E (BO E E (Pw Im CD) (Aw [AB p3.page,vS p3.tag] E DC E E (Ap 1 E) (B5 [_,_,_,_] E Wu Wt Kq ⟨E,E,E,E,zT⟩ E ?_))))
 refine Au E Kq zU fun b3=>?_
 refine A3 0 E E E E O4 E E E zT (V (Y ?_))
 refine AF h fun y1 hy1 h=>?_
 refine Aw [Be (p0+1),AB p1,AB (De p2),AB p3.page,vS p3.tag] E KT E E (Ap 0 E) (AQ 0 ms ((Ug hy1 :)) E (U E (V (AH (Y (J E (CF E E (V ?_))))))))
 refine AL h E (fun hc3 h=>?_) fun hc3 h=>?_
 refine Y (B5 [] E Wu Wt Kq zT E (A3 1 E E E E O4 E E E zT (U E (V (AK (Aa ?_))))))
 obtain rfl:=zI h
 exact An (FA E (B2 1 (JE (⟨0,0,0,0,[]⟩:Ez)) KT E E E E) E) (Ao (M:=[]) ⟨E,E⟩ fun _ hw=>Bj.pick (H:=[_,_,_]) hw [] 3 E)
 refine AI (AJ (Y (Aw [Be (p0+1),AB p1,AB (De p2),AB p3.page,vS p3.tag] E KT E E (Ap 0 E) (A3 1 E E E E O4 E E E zT (U E (V (AK ?_)))))))
 obtain rfl:=zI h
 exact An (FA E (B2 1 (JE (⟨p0+1,p1,De p2,p3.page,p3.tag⟩:Ez)) KT E E E E) E) (Ao (M:=[]) ⟨E,E⟩ fun _ hw=>Bj.pick (H:=[_,_,_]) hw [] 3 E)
end

section
variable {K:Nat→Prop}{w0:World}{H:List AX}
def bu(l:List (List UInt8))(s:List UInt8):Option (List UInt8):=if s=[]∧2≤l.length∧l.length≤1000000∧0<l.flatten.length∧l.flatten.length≤1000000 then some l.flatten else none
theorem TQ{l:List (List UInt8)}{i:Nat}{x:List UInt8}(h:l[i]? = some x):(l.take (i+1)).flatten=(l.take i).flatten++x:=by
 obtain⟨hlt,hg⟩:=List.getElem?_eq_some_iff.1 h
 rw[←List.take_append_getElem hlt,hg]
 simp
theorem Wi(l:List (List UInt8))(i:Nat):(l.take i).flatten.length≤l.flatten.length:=by
 have:l.flatten=(l.take i).flatten++(l.drop i).flatten:=by rw[←List.flatten_append,List.take_append_drop]
 rw[this,List.length_append]
 omega
theorem wF{v0:Value}{l:List (List UInt8)}{s r:List UInt8}(h:bu l s=some r)(hs0:By K w0 eS 1 v0 l):zC K w0 209 [v0,vS s] [] H (fun u M=>u=vS r∧M=[]):=by
 unfold bu at h
 split at h
 rotate_left
 cases h
 rename_i hl
 obtain⟨rfl,h2,h3,h0,h4⟩:=hl
 obtain rfl:=zI h
 refine WN.enter Tryz.func209 rfl rfl ?_
 refine Y (U E (V (AH (Y (J E (Bt hs0 E FX E (V (AN (Y (Z E Ba (U E (V ?_))))))))))))
 refine A7 E (fun hc1=>absurd (of_decide_eq_true hc1) zO) (fun _=>?_)
 refine Y (Z E Ba (U E (V ?_)))
 refine A7 E (fun hc1=>absurd (of_decide_eq_true hc1) zO) (fun _=>?_)
 refine AI (Av (AJ (Y (U E (V (AH (Y (J E (B7 E Cu E (Z E Cj (V ?_)))))))))))
 refine A7 E (fun hc1=>absurd hc1 zD) (fun _=>?_)
 refine AI (AJ (AH (Y (J E (Bt hs0 E FX E (J E (V (AN ?_))))))))
 refine SX.mono (BK (α:=Nat) (fun i=>i≤l.length) (fun i=>[(0,v0),(1,vS []),(4,vS []),(5,vI ((l.take i).flatten.length:Nat)),(39,v0),(40,vI (l.length:Int)),(41,vI i)]) (fun _=>H) (fun i=>l.length-i) (fun i D hp=>?_) 0 (Nat.zero_le _)) tL
 refine Y (Z E A9 (V (AH ?_)))
 refine A7 E (fun hc1=>?_) (fun hc1=>?_)
 have hlt:i<l.length:=by
  have:=of_decide_eq_true hc1
  omega
 obtain⟨x,hx⟩:∃x,l[i]? = some x:=⟨_,List.getElem?_eq_getElem hlt⟩
 have hn:BE l (i:Int)=some x:=by rw[EP];exact hx
 have hf:=TQ hx
 have hfl:=Wi l (i+1)
 rw[hf,List.length_append]at hfl
 refine AI (AJ (AH (AN (Y ?_))))
 refine Co hn hs0 E FX Il E E fun be of hc=>?_
 refine Bm E HJ E (C5 (j:=0) hc E) ?_
 refine U E (V (AH (Y (J E (B7 E Cu E (J E (Z E (EV zO zO) (Z E Cj (V ?_)))))))))
 refine A7 E (fun hc1=>absurd (of_decide_eq_true hc1) zO) (fun _=>?_)
 refine AI (AJ (AM (J E (J E (B7 E Cu E (Z E (Bh zO zO) ?_))))))
 refine Ay (u:=vI ((l.take (i+1)).flatten.length:Nat)) E E (congrArg vI (by rw[hf,List.length_append];rfl)) ?_
 refine AZ (Av (AJ (AM (Z E (Bh zO zO) (J E (AZ ?_))))))
 exact A1 (i+1) zO zO tL (fun _ hw=>hw)
 have hi:i=l.length:=by
  have:=of_decide_eq_false hc1
  omega
 subst hi
 rw[List.take_length]
 refine A5 (BC (Bb (BB (AJ (Y ?_)))))
 refine Au E cq zU fun b0=>?_
 refine V (Y (J E (BY 1 qj (ir b0 _ _ (.inl E) h0 zO) E ?_)))
 rintro _ _ ⟨rfl,v1,rfl⟩
 refine V ?_
 have hn0:BE l 0=some (l[0]' zO):=by
  have:=EP (l:=l) (i:=0)
  rw[List.getElem?_eq_getElem zO]at this
  exact this
 have hf0:(l.take (0+1)).flatten=l[0]' zO:=by
  have:=TQ (List.getElem?_eq_getElem (l:=l) (i:=0) zO)
  simpa using this
 have hfl0:=Wi l (0+1)
 rw[hf0]at hfl0
 refine Y (J E ?_)
 refine Co hn0 hs0 E FX Il E E fun be of hc=>?_
 refine Bm E HJ E (C5 (j:=0) hc E) ?_
 refine BY 2 Un (IN 161 b0 _ v1 0 [] _ (.inr E) TY zO) E ?_
 rintro _ _ ⟨rfl,v2,rfl⟩
 refine V ?_
 have hcut:Iu l 1 (l.length:Int)=some (l.drop 1):=by
  unfold Iu
  rw[if_pos zO]
  congr 1
  exact List.take_of_length_le zS
 refine AH (Y (J E ?_))
 refine aJ hcut hs0 E FX Il E E fun v3 hs3=>?_
 refine Bt hs3 E FX E (J E (V (AN ?_)))
 refine SX.heap (SX.mono (BK (α:=Nat×Value) (fun x=>x.1+1≤l.length) (fun x=>[(1,vS []),(4,vS []),(8,vP b0 0),(63,v3),(64,vI ((l.drop 1).length:Int)),(65,vI x.1)])
  (fun x=>own b0 (.cells #[vP b0 0,x.2] 161)::D7 5 1 x.2 (l.take (x.1+1)).flatten.length ((l.take (x.1+1)).flatten.map fun b=>FE b)::H) (fun x=>l.length-x.1) (fun x D hp=>?_) (0,v2) (by dsimp only;omega)) tL) (fun _ hw=>by
   dsimp only
   rw[hf0]
   simpa using hw)
 obtain⟨i,v⟩:=x
 dsimp only at hp ⊢
 refine Y (Z E A9 (V (AH ?_)))
 refine A7 E (fun hc1=>?_) (fun hc1=>?_)
 have hlt:i+1<l.length:=by
  have:=of_decide_eq_true hc1
  rw[List.length_drop]at this
  omega
 obtain⟨x,hx⟩:∃x,l[i+1]? = some x:=⟨_,List.getElem?_eq_getElem hlt⟩
 have hn:BE (l.drop 1) (i:Int)=some x:=by rw[EP,List.getElem?_drop,Nat.add_comm];exact hx
 have hf:=TQ hx
 have hfl:=Wi l (i+1+1)
 rw[hf,List.length_append]at hfl
 refine AI (AJ (AH (AN (Y ?_))))
 refine Co hn hs3 E FX Il E E fun be of hc=>?_
 refine Bm E HJ E (C5 (j:=0) hc E) ?_
 refine U E (V (Y (J E (BY 2 Un (IN 161 b0 _ v _ _ [] (.inr E) TY (by simp only[List.length_nil];omega)) E ?_))))
 rintro _ _ ⟨rfl,v4,rfl⟩
 refine V (AM (J E (BY 2 Un (IN 161 b0 _ v4 _ _ x (.inr E) TY (by simp only[List.length_nil];omega)) E ?_)))
 rintro _ _ ⟨rfl,v5,rfl⟩
 refine AZ (Av (AJ (AM (Z E (Bh zO zO) (J E (AZ ?_))))))
 exact A1 (i+1,v5) (by dsimp only;omega) (by dsimp only;omega) tL (fun _ hw=>by
  dsimp only
  rw[hf]
  simpa using hw)
 have hi:i+1=l.length:=by
  have:=of_decide_eq_false hc1
  rw[List.length_drop]at this
  omega
 rw[hi,List.take_length]
 refine A5 (BC (Bb (BB (AJ (Y (AQ 2 Rx (LD 161 b0 _ v _ l.flatten zO) E (U E (V (AK ?_)))))))))
 exact An (Cx E E) (Ao (M:=[]) ⟨E,E⟩ fun _ h=>h.skip [_,_])
end

section
variable {K:Nat→Prop}{w0:World}{H:List AX}
def P6(l:List BD):Option (List BD):=C8 24 [] l
theorem Vm{v:Value}{l r:List BD}(h:P6 l=some r)(hs:By K w0 AU 2 v l):zC K w0 82 [v] [] H (fun u M=>∃v0:Value,u=v0∧M=[AD 55 2 v0 AU r]):=by
 unfold P6 at h
 have hn:(v=.slice none 0 0∧l=[])∨∃a n c,v=.slice (some a) n c:=by
  rcases hs.at_ with⟨a,rfl,e⟩ | ⟨b,off,cap,rfl,_⟩
  cases a with
  | none=>exact .inl ⟨rfl,e⟩
  | some a=>exact .inr ⟨_,_,_,rfl⟩
  exact .inr ⟨_,_,_,rfl⟩
 refine WN.enter Tryz.func82 rfl rfl ?_
 refine Y (U E (V ?_))
 rcases hn with⟨rfl,rfl⟩ | ⟨a,n,c,rfl⟩
 refine AH (Y (J E (XA E FW E E (V (PK E (Y (U E (V (AK (Aa (OK 55 2 AU ?_)))))))))))
 obtain rfl:r=[]:=by
  rw[C8,if_pos zS]at h
  simpa using h.symm
 exact BH [0] 1 (Cx E E) E E ⟨_,E,E⟩
 refine AH (Y (J E (XA E FW E E (V (C1 E (AI (AJ (Y ?_))))))))
 refine W9 E FW Fq zU fun b1=>?_
 refine B4 AU 2 ([]:List BD) E zV E ?_
 refine J E ?_
 refine Px 0 h hs (sz:=2) (enc:=AU) zV E FW Fq dU KL E zD E E E (by simp[AU,Value.oneCell']) zU fun v1=>?_
 refine U E (V (AK ?_))
 exact BH [0] 1 (Cx E E) E E ⟨_,E,E⟩
def NV(l:List BD):Option Bool:=if l.length≤1099511627776 then some (Dt l)else none
theorem Yy{v:Value}{l:List BD}{r:Bool}(h:NV l=some r)(hk:By K w0 AU 2 v l):zC K w0 79 [v] [] H (fun u M=>u=vB r∧M=[]):=by
 unfold NV at h
 split at h
 rename_i hl
 obtain rfl:=zI h
 exact Ru v l hk hk.cells1 hl
 cases h
end

section
variable {K:Nat→Prop}{w0:World}{H:List AX}
def Cf(p0:List BD):Option (UInt32×Int):=
 (NV p0).bind fun y1=>
 ret (!y1) fun x1=>
 cond x1
 (
  some (0,40))
 (
  ret (decide ((p0.length:Int)=0)) fun x2=>
  cond x2
  (
   some (0,41))
  (
   (BE p0 (wI ((p0.length:Int)-1))).bind fun x3=>
   some (x3.gen,0)))
theorem ON{Cn:Value}{p0:List BD}{r:UInt32×Int}(h:Cf p0=some r)(hs0_:By K w0 AU 2 Cn p0):zC K w0 52 [Cn] [] H (fun u M=>u=.tuple #[AB r.1,vI r.2]∧M=[]):=by
 unfold Cf at h
 refine WN.enter Tryz.func52 rfl rfl ?_
 refine Y (U E (U E (V (AH (AN (Y ?_))))))
 refine AF h fun y1 hy1 h=>?_
 obtain⟨x1,ex1,h⟩:=Bz h
 refine J E (AQ 0 ax (Yy hy1 hs0_) E (CF E E ?_))
 refine Ay (u:=vB x1) E E (congrArg vB ex1) ?_
 refine V ?_
 refine AL h E (fun hc1 h=>?_) fun hc1 h=>?_
 refine Y (U E (U E (V (AK (BI (Aa ?_))))))
 obtain rfl:=zI h
 exact Ac [] 0 E E E
 refine Y ?_
 obtain⟨x2,ex2,h⟩:=Bz h
 refine J E (Bt hs0_ E FW E (Z E Ba ?_))
 refine Ay (u:=vB x2) E E (congrArg vB ex2) ?_
 refine V ?_
 refine AL h E (fun hc2 h=>?_) fun hc2 h=>?_
 refine Y (U E (U E (V (AK (BI (Aa ?_))))))
 obtain rfl:=zI h
 exact Ac [] 0 E E E
 refine AI (Av (AJ (Y ?_)))
 refine AF h fun x3 hx3 h=>?_
 refine J E (J E (Bt hs0_ E FW E (Z E Dc ?_)))
 refine Co hx3 hs0_ E FW Fq E E fun be1 of1 hc3=>?_
 refine AE E Gy ?_
 refine Bm E A4 E (C5 (j:=0) hc3 E) ?_
 refine U E (U E (V (AK ?_)))
 obtain rfl:=zI h
 exact Ac [] 0 E E E
def F8(p0:Ez):Option Bool:=
 (GA (((decide (0<p0.cnt))&&(decide (0<p0.gen)))&&(decide (p0.rows≤1000))) ((Ej (⟨p0.page,p0.tag⟩:BR)).bind fun y1=>some (y1))).bind fun y2=>
 some y2
theorem V8{p0:Ez}{r:Bool}(h:F8 p0=some r): zC K w0 157 [.agg (JE p0).toArray] [] H (fun u M=>u=vB r∧M=[]):=by
 unfold F8 at h
 refine WN.enter Tryz.func157 rfl rfl ?_
 refine Y ?_
 refine Bg E E zU fun b1=>?_
 refine U E (V (Y ?_))
 refine AF h fun y2 hy2 h=>?_
 refine AE E NM (AG 0 Gl E ?_)
 refine Z E (PG (b:=0)) ?_
 refine J E ?_
 refine CV (c:=decide (0<p0.gen)) 6 4 10 E (fun hb k=>?_) (fun hb k=>?_) ?_
 refine AE E Xo (AG 0 A4 E ?_)
 refine Z E (ST (b:=0)) ?_
 refine Ag E E E ?_
 exact k.mono tL
 refine AC E (AC E (AC E (Ag E E E ?_)))
 exact k.mono tL
 refine J E ?_
 refine CV (c:=decide (p0.rows≤1000)) 11 4 15 E (fun hb k=>?_) (fun hb k=>?_) ?_
 refine AE E Xp (AG 0 A4 E ?_)
 refine Z E (N3 (b:=1000)) ?_
 refine Ag E E E ?_
 exact k.mono tL
 refine AC E (AC E (AC E (Ag E E E ?_)))
 exact k.mono tL
 refine J E ?_
 refine E0 16 4 20 hy2 E (fun hb hg3 k=>?_) (fun hb k=>?_) ?_
 obtain⟨y1,hy1,hg3⟩:=bnd hg3
 obtain rfl:=zI hg3
 refine AE rfl So (Aw [AB p0.page,vS p0.tag] rfl DC rfl rfl (Ct 0 rfl (by rintro(_ | (_ | j)) u hj<;>first | exact hj | exact absurd hj zS)) (AQ 0 fj ((PQ hy1 :)) rfl (Ag rfl rfl rfl ?_)))
 exact k.mono tL
 refine AC E (AC E (AC E (Ag E E E ?_)))
 exact k.mono tL
 refine U E (V (AK ?_))
 obtain rfl:=zI h
 exact Ac [] 1 E E E
def Mo(l1:List UInt8):Option (List UInt8):=
 some l1
def Ic(p0:UInt64)(p1:Int)(nx_f_root_bytes_l1:List UInt8×Int→Option (List UInt8))(l2:List UInt8)(a1:Int):Option (List UInt8):=
 cond (decide (a1<p1))
 (
  (Sx (wI (8*a1))).bind fun n1=>
  (C8 1 l2 [(shr64 p0 n1).toUInt8]).bind fun l3=>
  nx_f_root_bytes_l1 (l3,wI (a1+1)))
 (
  Mo l2)
def Mp(p0:UInt64)(p1:Int):Nat→(List UInt8×Int)→Option (List UInt8):=CI fun nx x=>Ic p0 p1 nx x.1 x.2
def F9(n:Nat)(p0:UInt64)(p1:Int):Option (List UInt8):=
 Mp p0 p1 n ([],0)
theorem Po{n:Nat}{p0:UInt64}{p1:Int}{r:List UInt8}(h:F9 n p0 p1=some r): zC K w0 181 [Be p0,vI p1] [] H (fun u M=>u=vS r∧M=[]):=by
 unfold F9 at h
 refine WN.enter Tryz.func181 rfl rfl ?_
 refine Y (U E (V (Y (CE 5 1 Gb (U E (V ?_))))))
 refine A8 (α:=List UInt8×Value) (fun x=>Mo x.1=some r) (fun x=>[(5,x.2)]) (fun x=>AD 5 1 x.2 Gb x.1::H) ?_ (fun x D h=>?_)
 refine Y (J E (J E (V (AN ?_))))
 refine SX.heap (SX.mono (BK (α:=Nat×List UInt8×Value×Int) (fun x=>Mp p0 p1 x.1 (x.2.1,x.2.2.2)=some r) (fun x=>[(0,Be p0),(5,x.2.2.1),(7,vI p1),(8,vI x.2.2.2)]) (fun x=>AD 5 1 x.2.2.1 Gb x.2.1::H) (fun x=>x.1) (fun x D h=>?_) (n,[],zN,0) h) tL) (BM [0] 1 E E E)
 obtain⟨m1,l2,v2,a1⟩:=x
 dsimp only at h
 rcases m1 with _ | m1
 cases (show(none:Option _)=some r from h)
 replace h:Ic p0 p1 (Mp p0 p1 m1) l2 a1=some r:=h
 unfold Ic at h
 try dsimp only
 refine Y (Z E A9 (V (AH ?_)))
 refine AL h E (fun hc1 h=>?_) fun hc1 h=>?_
 refine AI (AJ (AH (AN (Y (J E (U E (V (AM ?_))))))))
 refine AF h fun n1 hn1 h=>?_
 refine AF h fun l3 hl3 h=>?_
 refine J E (J E (J E (Z E PI (Z E (iM hn1) (BO E E (GO DH Dl) ?_)))))
 refine CA [_] rfl Cm LS ML ⟨rfl,trivial⟩ rfl rfl rfl zW rfl rfl zU fun b1=>?_
 refine B4 Gb 1 ([(shr64 p0 n1).toUInt8]:List UInt8) E zV E ?_
 refine Cr 1 hl3 (sz:=1) (enc:=Gb) zV E Cm LS YM ML E zD E E E E (B8 (sz:=1) (enc:=Gb) 0 zV E) (by simp[Gb,Value.oneCell']) zU fun v3=>?_
 refine U E (AZ (Av (AJ (AM (Z E Bc (J E (AZ ?_)))))))
 exact A1 (m1,l3,v3,wI (a1+1)) h (Nat.lt_succ_self _) tL (BM [1] 2 E E E)
 refine A5 (BC (Bb (BB ?_)))
 exact Aq (l2,v2) h tL (BM [0] 1 E E E)
 obtain⟨l1,v1⟩:=x
 dsimp only at h
 unfold Mo at h
 try dsimp only
 refine Y (J E (IH 0 E Cm Dl Cu E E (U E (V (AK ?_)))))
 obtain rfl:=zI h
 exact Ac [] 1 E E E
def On(p0:List (List UInt8)):Option (List UInt8):=
 (bu p0 []).bind fun y1=>
 some y1
theorem fX{Cn:Value}{p0:List (List UInt8)}{r:List UInt8}(h:On p0=some r)(hs0_:By K w0 eS 1 Cn p0):zC K w0 180 [Cn] [] H (fun u M=>u=vS r∧M=[]):=by
 unfold On at h
 refine WN.enter Tryz.func180 rfl rfl ?_
 refine Y (U E (V (Y ?_)))
 refine AF h fun y1 hy1 h=>?_
 refine J E (AQ 0 ui (wF hy1 hs0_) E (U E (V (AK ?_))))
 obtain rfl:=zI h
 exact Ac [] 0 E E E
def Kh(n:Nat)(p0:Ez):Option (List UInt8):=
 (F9 n p0.cnt 8).bind fun y1=>
 (F9 n p0.gen.toUInt64 4).bind fun y2=>
 (F9 n p0.rows.toUInt64 4).bind fun y3=>
 (F9 n p0.page.toUInt64 4).bind fun y4=>
 (On [[115,112,104,114],y1,y2,y3,y4,p0.tag]).bind fun y5=>
 some y5
theorem fY{n:Nat}{p0:Ez}{r:List UInt8}(h:Kh n p0=some r): zC K w0 158 [.agg (JE p0).toArray] [] H (fun u M=>u=vS r∧M=[]):=by
 unfold Kh at h
 refine WN.enter Tryz.func158 rfl rfl ?_
 refine Y ?_
 refine Bg E E zU fun b1=>?_
 refine U E (V (AH ?_))
 refine AF h fun y1 hy1 h=>?_
 refine AF h fun y2 hy2 h=>?_
 refine AF h fun y3 hy3 h=>?_
 refine AF h fun y4 hy4 h=>?_
 refine AF h fun y5 hy5 h=>?_
 refine Ax Cz [0] (Bs [(true,0),(true,1),(true,3),(true,4),(true,5),(true,7),(true,8),(true,9),(true,11),(true,12),(true,13),(true,14),(true,16),(true,17),(true,18),(false,2),(false,6),(false,10),(false,15)] (.last 19 (Pl.of [(false,20),(false,21)]))) zK (AE E NM (AG 0 Gl E (AE E Xo (AG 0 A4 E (BO E E (Ck CD DH) (AE E Xp (AG 0 A4 E ?_)))))))
 refine BO E E (Ck CD DH) (AE E So (AE E Ds (AG 0 A4 E (BO E E (Ck CD DH) (AE E So (AE E Or (AG 0 HJ E ?_)))))))
 refine BS 0 Z1 (Po hy1) E ⟨⟨0,E⟩,zT⟩ (BS 0 Z1 (Po hy2) E ⟨⟨0,E⟩,zT⟩ (BS 0 Z1 (Po hy3) E ⟨⟨0,E⟩,zT⟩ (BS 0 Z1 (Po hy4) E ⟨⟨0,E⟩,zT⟩ (BU ?_))))
 refine CA [_,_,_,_,_,_] rfl FX Il Vt ⟨rfl,rfl,rfl,rfl,rfl,rfl,trivial⟩ rfl rfl rfl (by first | (simp[Value.cells];done) | (intro v hv;simp only[List.mem_cons,List.not_mem_nil,or_false]at hv;rcases hv with rfl | rfl | rfl | rfl | rfl | rfl<;>rfl)) rfl rfl zU fun b2=>?_
 refine B4 eS 1 ([[115,112,104,114],y1,y2,y3,y4,p0.tag]:List (List UInt8)) E zV E ?_
 refine BT (vs:=[_]) (Hin:=[_]) (Hr:=_::_) E E ⟨E,zT⟩ uN E E (CJ (B:=[_]) (Hin:=[]) fun K' w1 hk hB=>fX hy5 (Bp (e:=9) (v:=.slice (some ⟨b2,0,none⟩) 6 6) zV (hB _ zS))) ?_
 rintro _ _ ⟨_,rfl,rfl,rfl⟩
 refine⟨trivial,?_⟩
 refine U E (V (AK ?_))
 obtain rfl:=zI h
 exact Ac [] 2 E E E
def GH(n:Nat)(p0:Ez):Option (List UInt8×Int):=
 (F8 p0).bind fun y1=>
 cond (!y1)
 (
  some ([],120))
 (
  (Kh n p0).bind fun y2=>
  some (y2,0))
theorem OQ{n:Nat}{p0:Ez}{r:List UInt8×Int}(h:GH n p0=some r): zC K w0 120 [.agg (JE p0).toArray] [] H (fun u M=>u=.tuple #[vS r.1,vI r.2]∧M=[]):=by
 unfold GH at h
 refine WN.enter Tryz.func120 rfl rfl ?_
 refine Y ?_
 refine Bg E E zU fun b1=>?_
 refine U E (U E (V (AH (Y ?_))))
 refine AF h fun y1 hy1 h=>?_
 refine Aw [Be p0.cnt,AB p0.gen,AB p0.rows,AB p0.page,vS p0.tag] E KT E E (Ap 0 E) (AQ 0 mo ((V8 hy1 :)) E (CF E E (V ?_)))
 refine AL h E (fun hc1 h=>?_) fun hc1 h=>?_
 refine Y (U E (U E (V (AK (Aa ?_)))))
 obtain rfl:=zI h
 exact Ac [] 1 E E E
 refine AI (AJ (Y ?_))
 refine AF h fun y2 hy2 h=>?_
 refine Aw [Be p0.cnt,AB p0.gen,AB p0.rows,AB p0.page,vS p0.tag] E KT E E (Ap 0 E) (AQ 0 uA ((fY hy2 :)) E (U E (U E (V (AK ?_)))))
 obtain rfl:=zI h
 exact Ac [] 1 E E E
def Mn(p0:UInt64):Option UInt32:=
 ret ((p0 &&& 1).toUInt32) fun x1=>
 some x1
theorem Qe{p0:UInt64}{r:UInt32}(h:Mn p0=some r): zC K w0 122 [Be p0] [] H (fun u M=>u=AB r∧M=[]):=by
 unfold Mn at h
 refine WN.enter Tryz.func122 rfl rfl ?_
 refine Y (U E (V (Y ?_)))
 obtain⟨x1,ex1,h⟩:=Bz h
 refine J E ?_
 refine Z E (Qt (b:=1)) ?_
 refine BO E E (Lq DH CD) ?_
 refine Ay (u:=AB x1) E E (congrArg AB ex1) ?_
 refine V (AK ?_)
 obtain rfl:=zI h
 exact Ac [] 0 E E E
def JQ(p0:UInt64)(p1:UInt32)(p2:Int)(p3:BR):Option (Ez×Int):=
 ret (decide (p0+1=0)) fun x1=>
 cond x1
 (
  some ((⟨0,0,0,0,[]⟩:Ez),72))
 (
  (Tc ((decide (p2<0))||(decide (1000<p2))) ((F8 (⟨p0+1,p1,De p2,p3.page,p3.tag⟩:Ez)).bind fun y1=>some (!y1))).bind fun y2=>
  cond y2
  (
   some ((⟨0,0,0,0,[]⟩:Ez),120))
  (
   some ((⟨p0+1,p1,De p2,p3.page,p3.tag⟩:Ez),0)))
theorem MR{p0:UInt64}{p1:UInt32}{p2:Int}{p3:BR}{r:Ez×Int}(h:JQ p0 p1 p2 p3=some r): zC K w0 119 [Be p0,AB p1,vI p2,.agg (Bd p3).toArray] [] H (fun u M=>u=.tuple #[.agg (JE r.1).toArray,vI r.2]∧M=[]):=by
 unfold JQ at h
 refine WN.enter Tryz.func119 rfl rfl ?_
 refine Y ?_
 refine Bg E E zU fun b1=>?_
 refine Au E Kq zU fun b2=>?_
 refine U E (V (Y (J E ?_)))
 refine Z E (HV (b:=1)) ?_
 refine J E (J E (BO E E (Pw Im CD) (Aw [AB p3.page,vS p3.tag] E DC E E (Ap 1 E) (B5 [_,_,_,_] E Wu Wt Kq ⟨E,E,E,E,zT⟩ E ?_))))
 refine Au E Kq zU fun b3=>?_
 refine A3 0 E E E E O4 E E E zT (V (AH (AN (Y ?_))))
 obtain⟨x1,ex1,h⟩:=Bz h
 refine AE E NM (AG 0 Gl E ?_)
 refine Z E (MM (b:=0)) ?_
 refine Ay (u:=vB x1) E E (congrArg vB ex1) ?_
 refine V ?_
 refine AL h E (fun hc1 h=>?_) fun hc1 h=>?_
 refine Y (B5 [] E Wu Wt Kq zT E (A3 1 E E E E O4 E E E zT (U E (V (AK (BI (Aa ?_)))))))
 obtain rfl:=zI h
 exact An (FA E (B2 1 (JE (⟨0,0,0,0,[]⟩:Ez)) KT E E E E) E) (Ao (M:=[]) ⟨E,E⟩ fun _ hw=>Bj.pick (H:=[_,_,_]) hw [] 3 E)
 refine Y ?_
 refine AF h fun y2 hy2 h=>?_
 refine J E (Z E A9 (J E ?_))
 refine Dw (c:=decide (1000<p2)) 26 3 29 E (fun hb k=>?_) (fun hb k=>?_) ?_
 refine AC E (AC E (Ag E E E ?_))
 exact k.mono tL
 refine J E (Z E Cj (Ag E E E ?_))
 exact k.mono tL
 refine J E ?_
 refine Pi 30 4 34 hy2 E (fun hb k=>?_) (fun hb hg2 k=>?_) ?_
 refine AC E (AC E (AC E (Ag E E E ?_)))
 exact k.mono tL
 obtain⟨y1,hy1,hg2⟩:=bnd hg2
 obtain rfl:=zI hg2
 refine Aw [Be (p0+1),AB p1,AB (De p2),AB p3.page,vS p3.tag] E KT E E (Ap 0 E) (AQ 0 mo ((V8 hy1 :)) E (CF E E (Ag E E E ?_)))
 exact k.mono tL
 refine U E (V ?_)
 refine AL h E (fun hc2 h=>?_) fun hc2 h=>?_
 refine Y (B5 [] E Wu Wt Kq zT E (A3 1 E E E E O4 E E E zT (U E (V (AK (BI (Aa ?_)))))))
 obtain rfl:=zI h
 exact An (FA E (B2 1 (JE (⟨0,0,0,0,[]⟩:Ez)) KT E E E E) E) (Ao (M:=[]) ⟨E,E⟩ fun _ hw=>Bj.pick (H:=[_,_,_]) hw [] 3 E)
 refine AI (Av (AJ (Y (Aw [Be (p0+1),AB p1,AB (De p2),AB p3.page,vS p3.tag] E KT E E (Ap 0 E) (A3 1 E E E E O4 E E E zT (U E (V (AK ?_))))))))
 obtain rfl:=zI h
 exact An (FA E (B2 1 (JE (⟨p0+1,p1,De p2,p3.page,p3.tag⟩:Ez)) KT E E E E) E) (Ao (M:=[]) ⟨E,E⟩ fun _ hw=>Bj.pick (H:=[_,_,_]) hw [] 3 E)
end
end Go.Proofs.YtpaohlmgfifebaaGreatDoor
