/- The texts U1, U2, U3, GG36, S26, GG38, GG39, S27, S28, GG40, GG37, GG41, GG42, GG43, GG44, GG45, GG46, LG21, LG22, V1, V2, V3, V4a, LG23, one behind the other: walks of the program, and plain laws of what it computes. Conditions: as each theorem says. -/
import Derived.Test.YtkibffdipniemaaGreatDoorMJ1
import Derived.Test.YtkibffdipniemaaGreatDoorMJ2
import Derived.Test.YtkibffdipniemaaGreatDoorMJ3
import Derived.Test.YtkibffdipniemaaGreatDoorMJ4
import Derived.Test.YtkibffdipniemaaGreatDoorMJ5

set_option linter.unusedVariables false
set_option linter.unusedSimpArgs false
set_option maxHeartbeats 4000000
set_option maxRecDepth 100000
namespace Go.Proofs.YtkibffdipniemaaGreatDoor
open Go
section
variable {K:Nat→Prop}{w0:World}{H:List AV}
def DX(p0:UInt32)(p1:Int):Option UInt32:=
 (Sa p1).bind fun n1=>
 (Sa (wI (32-p1))).bind fun n2=>
 ret ((shl32 p0 n1) ||| (shr32 p0 n2)) fun x1=>
 some x1
theorem Lf{p0 r:UInt32}{p1:Int}(h:DX p0 p1=some r): zC K w0 234 [AA p0,vI p1] [] H (fun u M=>u=AA r∧M=[]):=by
 unfold DX at h
 refine UJ.enter Tryz.func234 rfl rfl ?_
 refine Z (O E (Y (AE ?_)))
 refine AC h fun n1 hn1 h=>?_
 refine AC h fun n2 hn2 h=>?_
 obtain⟨x1,ex1,h⟩:=Bn h
 refine Ak Ca [] (Pl.of [(true,0),(true,1),(true,2),(true,3),(true,4),(true,5),(true,6),(true,7),(true,8)]) zK (J E (J E (V E (Rp hn1) (J E (J E (V E B5 (V E (WG hn2) ?_)))))))
 refine V E DZ ?_
 refine Am (u:=AA x1) E E (by rw[ex1]) ?_
 refine Y (AL ?_)
 obtain rfl:=zI h
 exact Ad [] 0 E E E
def Ik(p0:UInt32)(p1:UInt32)(p2:UInt32)(p3:UInt32):Option (List UInt32):=
 ret (p0+p1) fun a_1=>
 (DX (p3 ^^^ a_1) 16).bind fun y1=>
 ret (p2+y1) fun x1=>
 (DX (p1 ^^^ x1) 12).bind fun y2=>
 ret (a_1+y2) fun a_2=>
 (DX (y1 ^^^ a_2) 8).bind fun y3=>
 ret (x1+y3) fun x2=>
 (DX (y2 ^^^ x2) 7).bind fun y4=>
 some [a_2,y4,x2,y3]
theorem QV{p0 p1 p2 p3:UInt32}{r:List UInt32}(h:Ik p0 p1 p2 p3=some r): zC K w0 232 [AA p0,AA p1,AA p2,AA p3] [] H (fun u M=>u=.agg (DB AA r)∧r.length=4∧M=[]):=by
 unfold Ik at h
 refine UJ.enter Tryz.func232 rfl rfl ?_
 refine Z ?_
 refine Ag E R6 zU fun b1=>?_
 refine Y (Z ?_)
 obtain⟨a_1,ea_1,h⟩:=Bn h
 refine J E (J E (V E Bx ?_))
 refine Am (u:=AA a_1) E E (by rw[ea_1]) ?_
 refine Y (Z ?_)
 refine AC h fun y1 hy1 h=>?_
 refine J E (J E (V E CX (AQ 0 XJ (Lf hy1) E (O E (Y (Z ?_))))))
 obtain⟨x1,ex1,h⟩:=Bn h
 refine J E (J E (V E Bx ?_))
 refine Am (u:=AA x1) E E (by rw[ex1]) ?_
 refine Y (Z ?_)
 refine AC h fun y2 hy2 h=>?_
 refine J E (J E (V E CX (AQ 0 XJ (Lf hy2) E (O E (Y (Z ?_))))))
 obtain⟨a_2,ea_2,h⟩:=Bn h
 refine J E (J E (V E Bx ?_))
 refine Am (u:=AA a_2) E E (by rw[ea_2]) ?_
 refine Y (Z ?_)
 refine AC h fun y3 hy3 h=>?_
 refine J E (J E (V E CX (AQ 0 XJ (Lf hy3) E (O E (Y (Z ?_))))))
 obtain⟨x2,ex2,h⟩:=Bn h
 refine J E (J E (V E Bx ?_))
 refine Am (u:=AA x2) E E (by rw[ex2]) ?_
 refine Y (Z ?_)
 refine AC h fun y4 hy4 h=>?_
 refine J E (J E (V E CX (AQ 0 XJ (Lf hy4) E (O E (Y (Z (J E (J E (J E ?_)))))))))
 refine J E (BK [_,_,_,_] E sy rX R6 ⟨E,E,E,E,zT⟩ E (Aj 0 E E E E Vd E E E zT (Y (AL ?_))))
 obtain rfl:=zI h
 exact AX (FD E (BC 0 (([a_2,y4,x2,y3]).map AA) iN E E E E)) (AY (M:=[]) ⟨E,E,E⟩ fun _ hw=>BZ.pick (H:=[_]) hw [] 1 E)
def Jl(p0:List UInt8)(p1:Int):Option UInt32:=
 (Ao p0 p1).bind fun c1=>
 (Ao p0 (wI (p1+1))).bind fun c2=>
 (Ao p0 (wI (p1+2))).bind fun c3=>
 (Ao p0 (wI (p1+3))).bind fun c4=>
 ret (((c1.toUInt32 ||| (shl32 c2.toUInt32 8)) ||| (shl32 c3.toUInt32 16)) ||| (shl32 c4.toUInt32 24)) fun x1=>
 some x1
theorem TU{p0:List UInt8}{p1:Int}{r:UInt32}(h:Jl p0 p1=some r): zC K w0 231 [vS p0,vI p1] [] H (fun u M=>u=AA r∧M=[]):=by
 unfold Jl at h
 refine UJ.enter Tryz.func231 rfl rfl ?_
 refine Z (O E (Y (AE ?_)))
 refine AC h fun c1 hc1 h=>?_
 refine AC h fun c2 hc2 h=>?_
 refine AC h fun c3 hc3 h=>?_
 refine AC h fun c4 hc4 h=>?_
 obtain⟨x1,ex1,h⟩:=Bn h
 refine Ak Ca [] (Pl.of [(true,0),(true,1),(true,2),(true,3),(true,4),(true,5),(true,6),(true,7),(true,8),(true,9),(true,10),(true,11),(true,12),(true,13),(true,14),(true,15),(true,16),(true,17),(true,18),(true,19),(true,20),(true,21),(true,22),(true,23),(true,24),(true,25)]) zK (J E (J E (Di hc1 E Bj E E (Au E E (DN Cl Bv) (J E (J E (V E Ay ?_)))))))
 refine Di hc2 E Bj E E (Au E E (DN Cl Bv) ?_)
 refine V E (E0.shl32 (n:=8)) ?_
 refine V E DZ (J E (J E (V E Ay (Di hc3 E Bj E E (Au E E (DN Cl Bv) ?_)))))
 refine V E (E0.shl32 (n:=16)) ?_
 refine V E DZ (J E (J E (V E Ay (Di hc4 E Bj E E (Au E E (DN Cl Bv) ?_)))))
 refine V E (E0.shl32 (n:=24)) ?_
 refine V E DZ ?_
 refine Am (u:=AA x1) E E (by rw[ex1]) ?_
 refine Y (AL ?_)
 obtain rfl:=zI h
 exact Ad [] 0 E E E
def J5(l5:List UInt32):Option (List UInt32):=
 some l5
def Ge(p2:List UInt8)(nx_f_ref01_State_l2:List UInt32×Int→Option (List UInt32))(l6:List UInt32)(a2:Int):Option (List UInt32):=
 cond (decide (a2<3))
 (
  (Jl p2 (wI (4*a2))).bind fun y2=>
  (Cp 4 l6 [y2]).bind fun l7=>
  ret (wI (a2+1)) fun i_2=>
  nx_f_ref01_State_l2 (l7,i_2))
 (
  J5 l6)
def J4(p2:List UInt8):Nat→(List UInt32×Int)→Option (List UInt32):=Bu fun nx x=>Ge p2 nx x.1 x.2
def II(n:Nat)(p1:UInt32)(p2:List UInt8)(l1:List UInt32):Option (List UInt32):=
 (Cp 4 l1 [p1]).bind fun l4=>
 J4 p2 n (l4,0)
def GX(n:Nat)(p0:List UInt8)(p1:UInt32)(p2:List UInt8)(nx_f_ref01_State_l1:List UInt32×Int→Option (List UInt32))(l2:List UInt32)(a1:Int):Option (List UInt32):=
 cond (decide (a1<8))
 (
  (Jl p0 (wI (4*a1))).bind fun y1=>
  (Cp 4 l2 [y1]).bind fun l3=>
  ret (wI (a1+1)) fun i_1=>
  nx_f_ref01_State_l1 (l3,i_1))
 (
  II n p1 p2 l2)
def J1(n:Nat)(p0:List UInt8)(p1:UInt32)(p2:List UInt8):Nat→(List UInt32×Int)→Option (List UInt32):=Bu fun nx x=>GX n p0 p1 p2 nx x.1 x.2
def KU(n:Nat)(p0:List UInt8)(p1:UInt32)(p2:List UInt8):Option (List UInt32):=
 J1 n p0 p1 p2 n ([1634760805,857760878,2036477234,1797285236],0)
theorem Yt{n:Nat}{p0 p2:List UInt8}{p1:UInt32}{r:List UInt32}(h:KU n p0 p1 p2=some r): zC K w0 217 [vS p0,AA p1,vS p2] [] H (fun u M=>∃v0:Value,u=v0∧M=[AH 29 1 v0 B0 r]):=by
 unfold KU at h
 refine UJ.enter Tryz.func217 rfl rfl ?_
 refine Z (Bi 29 1 B0 (O E (Y (Z ?_))))
 refine Bz [_,_,_,_] E CU Bk L9 ⟨E,E,E,E,zT⟩ E E E zX E E zU fun b1=>?_
 refine B4 B0 1 ([1634760805,857760878,2036477234,1797285236]:List UInt32) E zV E ?_
 refine O E (Y ?_)
 refine A4 (α:=List UInt32×Value) (fun x=>II n p1 p2 x.1=some r) (fun x=>[(1,AA p1),(2,vS p2),(7,x.2)]) (fun x=>AH 29 1 x.2 B0 x.1::H) ?_ (fun x D h=>?_)
 refine Z (O E (Y (AM ?_)))
 refine SX.heap (SX.mono (A5 (α:=Nat×List UInt32×Value×Int) (fun x=>J1 n p0 p1 p2 x.1 (x.2.1,x.2.2.2)=some r) (fun x=>[(0,vS p0),(1,AA p1),(2,vS p2),(7,x.2.2.1),(8,vI x.2.2.2)]) (fun x=>AH 29 1 x.2.2.1 B0 x.2.1::H) (fun x=>x.1) (fun x D h=>?_) (n,[1634760805,857760878,2036477234,1797285236],.slice (some ⟨b1,0,none⟩) 4 4,0) h) tL) (BB [0] 2 E E E)
 obtain⟨m1,l2,v2,a1⟩:=x
 dsimp only at h
 rcases m1 with _ | m1
 cases (show(none:Option _)=some r from h)
 replace h:GX n p0 p1 p2 (J1 n p0 p1 p2 m1) l2 a1=some r:=h
 unfold GX at h
 try dsimp only
 refine AE (Z (J E (V E Aw (Y ?_))))
 refine AT h E (fun hc1 h=>?_) fun hc1 h=>?_
 refine AI (AG (AE (AM (AK ?_))))
 refine AC h fun y1 hy1 h=>?_
 refine AC h fun l3 hl3 h=>?_
 refine J E (J E (J E (V E Ir (AQ 0 j7 (TU hy1) E ?_))))
 refine Bz [_] E CU Bk L9 ⟨E,zT⟩ E E E zX E E zU fun b2=>?_
 refine B4 B0 1 ([y1]:List UInt32) E zV E ?_
 refine CW 1 hl3 (sz:=1) (enc:=B0) zV E CU Bk TP L9 E zD E E E E (By (sz:=1) (enc:=B0) 0 zV E) (by simp[B0,Value.oneCell']) zU fun v3=>?_
 refine O E (AU (An (AG (AK ?_))))
 obtain⟨i_1,ei_1,h⟩:=Bn h
 refine J E (V E Ay ?_)
 refine Am (u:=vI i_1) E E (by rw[ei_1]) ?_
 refine AU ?_
 exact Ai (m1,l3,v3,i_1) h (Nat.lt_succ_self _) tL (BB [1] 2 E E E)
 refine Ax (A3 (BL (Az ?_)))
 exact Av (l2,v2) h tL (BB [0] 1 E E E)
 obtain⟨l1,v1⟩:=x
 dsimp only at h
 unfold II at h
 try dsimp only
 refine Z ?_
 refine AC h fun l4 hl4 h=>?_
 refine J E (J E ?_)
 refine Bz [_] E CU Bk L9 ⟨E,zT⟩ E E E zX E E zU fun b3=>?_
 refine B4 B0 1 ([p1]:List UInt32) E zV E ?_
 refine CW 1 hl4 (sz:=1) (enc:=B0) zV E CU Bk TP L9 E zD E E E E (By (sz:=1) (enc:=B0) 0 zV E) (by simp[B0,Value.oneCell']) zU fun v4=>?_
 refine O E (Y ?_)
 refine A4 (α:=List UInt32×Value) (fun x=>J5 x.1=some r) (fun x=>[(7,x.2)]) (fun x=>AH 29 1 x.2 B0 x.1::H) ?_ (fun x D h=>?_)
 refine Z (O E (Y (AM ?_)))
 refine SX.heap (SX.mono (A5 (α:=Nat×List UInt32×Value×Int) (fun x=>J4 p2 x.1 (x.2.1,x.2.2.2)=some r) (fun x=>[(2,vS p2),(7,x.2.2.1),(9,vI x.2.2.2)]) (fun x=>AH 29 1 x.2.2.1 B0 x.2.1::H) (fun x=>x.1) (fun x D h=>?_) (n,l4,v4,0) h) tL) (BB [1] 2 E E E)
 obtain⟨m2,l6,v6,a2⟩:=x
 dsimp only at h
 rcases m2 with _ | m2
 cases (show(none:Option _)=some r from h)
 replace h:Ge p2 (J4 p2 m2) l6 a2=some r:=h
 unfold Ge at h
 try dsimp only
 refine AE (Z (J E (V E Aw (Y ?_))))
 refine AT h E (fun hc2 h=>?_) fun hc2 h=>?_
 refine AI (AG (AE (AM (AK ?_))))
 refine AC h fun y2 hy2 h=>?_
 refine AC h fun l7 hl7 h=>?_
 refine J E (J E (J E (V E Ir (AQ 0 j7 (TU hy2) E ?_))))
 refine Bz [_] E CU Bk L9 ⟨E,zT⟩ E E E zX E E zU fun b4=>?_
 refine B4 B0 1 ([y2]:List UInt32) E zV E ?_
 refine CW 1 hl7 (sz:=1) (enc:=B0) zV E CU Bk TP L9 E zD E E E E (By (sz:=1) (enc:=B0) 0 zV E) (by simp[B0,Value.oneCell']) zU fun v7=>?_
 refine O E (AU (An (AG (AK ?_))))
 obtain⟨i_2,ei_2,h⟩:=Bn h
 refine J E (V E Ay ?_)
 refine Am (u:=vI i_2) E E (by rw[ei_2]) ?_
 refine AU ?_
 exact Ai (m2,l7,v7,i_2) h (Nat.lt_succ_self _) tL (BB [1] 2 E E E)
 refine Ax (A3 (BL (Az ?_)))
 exact Av (l6,v6) h tL (BB [0] 1 E E E)
 obtain⟨l5,v5⟩:=x
 dsimp only at h
 unfold J5 at h
 try dsimp only
 refine Z (J E (O E (Y (AL ?_))))
 obtain rfl:=zI h
 exact DM [0] 1 (De E E) E E ⟨v5,E,E⟩
def C1(p0:List UInt32)(p1:Int)(p2:Int)(p3:Int)(p4:Int):Option (List UInt32):=
 (Ao p0 p1).bind fun x1=>
 (Ao p0 p2).bind fun x2=>
 (Ao p0 p3).bind fun x3=>
 (Ao p0 p4).bind fun x4=>
 (Ik x1 x2 x3 x4).bind fun y1=>
 (Ao y1 0).bind fun x5=>
 (Ao p0 p1).bind fun x6=>
 (F6 p0 p1 x5).bind fun l1=>
 (Ao y1 1).bind fun x7=>
 (Ao l1 p2).bind fun x8=>
 (F6 l1 p2 x7).bind fun l2=>
 (Ao y1 2).bind fun x9=>
 (Ao l2 p3).bind fun x10=>
 (F6 l2 p3 x9).bind fun l3=>
 (Ao y1 3).bind fun x11=>
 (Ao l3 p4).bind fun x12=>
 (F6 l3 p4 x11).bind fun l4=>
 some l4
theorem I1{B3:Value}{p0 r:List UInt32}{p1 p2 p3 p4:Int}(h:C1 p0 p1 p2 p3 p4=some r): zC K w0 218 [B3,vI p1,vI p2,vI p3,vI p4] [AH 29 1 B3 B0 p0] H (fun u M=>u=.tuple #[]∧M=[AH 29 1 B3 B0 r]):=by
 unfold C1 at h
 refine UJ.enter Tryz.func218 rfl rfl ?_
 refine AE ?_
 refine AC h fun x1 hx1 h=>?_
 refine AC h fun x2 hx2 h=>?_
 refine AC h fun x3 hx3 h=>?_
 refine AC h fun x4 hx4 h=>?_
 refine AC h fun y1 hy1 h=>?_
 refine Ak Ca [0] (Bo [(true,0),(true,1),(true,2),(true,3),(true,4),(true,5),(true,6),(true,7),(true,8),(true,9),(true,10),(true,11),(true,12),(true,13),(true,14),(true,15)] (.alt 16 (Pl.of [(false,17),(false,18)]) (.cons (false,17) (Pl.of [(false,16),(false,18)])))) zK (J E (J E ?_))
 refine BV 0 hx1 E CU Bk E E E fun g1 m1 cp1 hv1=>?_
 refine Bh E A6 E (Bw (sz:=1) (enc:=B0) 0 0 zV E hv1 hx1 E) ?_
 refine J E (J E ?_)
 refine BV 0 hx2 E CU Bk E E E fun g2 m2 cp2 hv2=>?_
 refine Bh E A6 E (Bw (sz:=1) (enc:=B0) 0 0 zV E hv2 hx2 E) ?_
 refine J E (J E ?_)
 refine BV 0 hx3 E CU Bk E E E fun g3 m3 cp3 hv3=>?_
 refine Bh E A6 E (Bw (sz:=1) (enc:=B0) 0 0 zV E hv3 hx3 E) ?_
 refine J E (J E ?_)
 refine BV 0 hx4 E CU Bk E E E fun g4 m4 cp4 hv4=>?_
 refine Bh E A6 E (Bw (sz:=1) (enc:=B0) 0 0 zV E hv4 hx4 E) ?_
 refine Mp ?_ ?_
 refine Bm (vs:=[_,_,_,_]) (Hin:=[]) (Hr:=_::_) E E ⟨E,E,E,E,zT⟩ jJ E E (QV hy1) ?_
 rintro _ _ ⟨rfl,hn1,rfl⟩
 refine⟨⟨⟨0,rfl⟩,trivial⟩,?_⟩
 refine Ag E R6 (fun _=>⟨⟨1,E⟩,zT⟩) fun b1=>?_
 refine OO 0 E E E E Vd ((TD ..).trans hn1) E (Nh (f:=AA) zV y1) ⟨⟨1,E⟩,zT⟩ ?_
 refine Y (Z ?_)
 refine AC h fun x5 hx5 h=>?_
 refine AC h fun x6 hx6 h=>?_
 refine AC h fun l1 hl1 h=>?_
 refine J E (J E ?_)
 refine Me (xs:=y1) hx5 E Pg Bk E E hn1 ?_
 refine Bh E A6 E (Ch 0 E (Ez (EW hx5).2.2)) ?_
 refine BV 1 hx6 E CU Bk E E E fun g5 m5 cp5 hv5=>?_
 refine DE (sz:=1) (enc:=B0) 1 hl1 zV E E E E E hv5 Bk (by simp[Value.oneCell']) zT ?_
 refine Y (Z ?_)
 refine AC h fun x7 hx7 h=>?_
 refine AC h fun x8 hx8 h=>?_
 refine AC h fun l2 hl2 h=>?_
 refine J E (J E ?_)
 refine Me (xs:=y1) hx7 E Pg Bk E E hn1 ?_
 refine Bh E A6 E (Ch 0 E (Ez (EW hx7).2.2)) ?_
 refine BV 1 hx8 E CU Bk E E E fun g6 m6 cp6 hv6=>?_
 refine DE (sz:=1) (enc:=B0) 1 hl2 zV E E E E E hv6 Bk (by simp[Value.oneCell']) zT ?_
 refine Y (Z ?_)
 refine AC h fun x9 hx9 h=>?_
 refine AC h fun x10 hx10 h=>?_
 refine AC h fun l3 hl3 h=>?_
 refine J E (J E ?_)
 refine Me (xs:=y1) hx9 E Pg Bk E E hn1 ?_
 refine Bh E A6 E (Ch 0 E (Ez (EW hx9).2.2)) ?_
 refine BV 1 hx10 E CU Bk E E E fun g7 m7 cp7 hv7=>?_
 refine DE (sz:=1) (enc:=B0) 1 hl3 zV E E E E E hv7 Bk (by simp[Value.oneCell']) zT ?_
 refine Y (AK ?_)
 refine AC h fun x11 hx11 h=>?_
 refine AC h fun x12 hx12 h=>?_
 refine AC h fun l4 hl4 h=>?_
 refine J E (J E ?_)
 refine Me (xs:=y1) hx11 E Pg Bk E E hn1 ?_
 refine Bh E A6 E (Ch 0 E (Ez (EW hx11).2.2)) ?_
 refine BV 1 hx12 E CU Bk E E E fun g8 m8 cp8 hv8=>?_
 refine DE (sz:=1) (enc:=B0) 1 hl4 zV E E E E E hv8 Bk (by simp[Value.oneCell']) zT ?_
 refine AU ?_
 obtain rfl:=zI h
 exact Cr (DU E) (AY (M:=[_]) ⟨E,E⟩ fun _ hw=>BZ.pick (H:=[_,_]) hw [1] 2 E)
 refine Ag E R6 (fun _=>⟨⟨1,E⟩,zT⟩) fun b1=>?_
 refine Bm (vs:=[_,_,_,_]) (Hin:=[]) (Hr:=_::_::_) E E ⟨E,E,E,E,zT⟩ jJ E E (QV hy1) ?_
 rintro _ _ ⟨rfl,hn1,rfl⟩
 refine⟨⟨⟨1,rfl⟩,trivial⟩,?_⟩
 refine OO 0 E E E E Vd ((TD ..).trans hn1) E (Nh (f:=AA) zV y1) ⟨⟨1,E⟩,zT⟩ ?_
 refine Y (Z ?_)
 refine AC h fun x5 hx5 h=>?_
 refine AC h fun x6 hx6 h=>?_
 refine AC h fun l1 hl1 h=>?_
 refine J E (J E ?_)
 refine Me (xs:=y1) hx5 E Pg Bk E E hn1 ?_
 refine Bh E A6 E (Ch 0 E (Ez (EW hx5).2.2)) ?_
 refine BV 1 hx6 E CU Bk E E E fun g5 m5 cp5 hv5=>?_
 refine DE (sz:=1) (enc:=B0) 1 hl1 zV E E E E E hv5 Bk (by simp[Value.oneCell']) zT ?_
 refine Y (Z ?_)
 refine AC h fun x7 hx7 h=>?_
 refine AC h fun x8 hx8 h=>?_
 refine AC h fun l2 hl2 h=>?_
 refine J E (J E ?_)
 refine Me (xs:=y1) hx7 E Pg Bk E E hn1 ?_
 refine Bh E A6 E (Ch 0 E (Ez (EW hx7).2.2)) ?_
 refine BV 1 hx8 E CU Bk E E E fun g6 m6 cp6 hv6=>?_
 refine DE (sz:=1) (enc:=B0) 1 hl2 zV E E E E E hv6 Bk (by simp[Value.oneCell']) zT ?_
 refine Y (Z ?_)
 refine AC h fun x9 hx9 h=>?_
 refine AC h fun x10 hx10 h=>?_
 refine AC h fun l3 hl3 h=>?_
 refine J E (J E ?_)
 refine Me (xs:=y1) hx9 E Pg Bk E E hn1 ?_
 refine Bh E A6 E (Ch 0 E (Ez (EW hx9).2.2)) ?_
 refine BV 1 hx10 E CU Bk E E E fun g7 m7 cp7 hv7=>?_
 refine DE (sz:=1) (enc:=B0) 1 hl3 zV E E E E E hv7 Bk (by simp[Value.oneCell']) zT ?_
 refine Y (AK ?_)
 refine AC h fun x11 hx11 h=>?_
 refine AC h fun x12 hx12 h=>?_
 refine AC h fun l4 hl4 h=>?_
 refine J E (J E ?_)
 refine Me (xs:=y1) hx11 E Pg Bk E E hn1 ?_
 refine Bh E A6 E (Ch 0 E (Ez (EW hx11).2.2)) ?_
 refine BV 1 hx12 E CU Bk E E E fun g8 m8 cp8 hv8=>?_
 refine DE (sz:=1) (enc:=B0) 1 hl4 zV E E E E E hv8 Bk (by simp[Value.oneCell']) zT ?_
 refine AU ?_
 obtain rfl:=zI h
 exact Cr (DU E) (AY (M:=[_]) ⟨E,E⟩ fun _ hw=>BZ.pick (H:=[_,_]) hw [1] 2 E)
def J0(l4:List UInt8):Option (List UInt8×Int):=
 some (l4,0)
def Gg(y1:List UInt32)(l2:List UInt32)(nx_f_ref01_Block_l2:List UInt8×Int→Option (List UInt8×Int))(l5:List UInt8)(a2:Int):Option (List UInt8×Int):=
 cond (decide (a2<16))
 (
  (Ao l2 a2).bind fun x2=>
  (Ao y1 a2).bind fun x3=>
  ret (x2+x3) fun x4=>
  (Cp 1 l5 [x4.toUInt8,(shr32 x4 8).toUInt8,(shr32 x4 16).toUInt8,(shr32 x4 24).toUInt8]).bind fun l6=>
  ret (wI (a2+1)) fun x5=>
  nx_f_ref01_Block_l2 (l6,x5))
 (
  J0 l5)
def Jy(y1:List UInt32)(l2:List UInt32):Nat→(List UInt8×Int)→Option (List UInt8×Int):=Bu fun nx x=>Gg y1 l2 nx x.1 x.2
def GO(n:Nat)(y1:List UInt32)(l2:List UInt32):Option (List UInt8×Int):=
 Jy y1 l2 n ([],0)
def Gc(n:Nat)(y1:List UInt32)(nx_f_ref01_Block_l1:List UInt32×Int→Option (List UInt8×Int))(l3:List UInt32)(a1:Int):Option (List UInt8×Int):=
 cond (decide (a1<10))
 (
  (C1 l3 0 4 8 12).bind fun y2=>
  (C1 y2 1 5 9 13).bind fun y3=>
  (C1 y3 2 6 10 14).bind fun y4=>
  (C1 y4 3 7 11 15).bind fun y5=>
  (C1 y5 0 5 10 15).bind fun y6=>
  (C1 y6 1 6 11 12).bind fun y7=>
  (C1 y7 2 7 8 13).bind fun y8=>
  (C1 y8 3 4 9 14).bind fun y9=>
  ret (wI (a1+1)) fun x1=>
  nx_f_ref01_Block_l1 (y9,x1))
 (
  GO n y1 l3)
def KA(n:Nat)(y1:List UInt32):Nat→(List UInt32×Int)→Option (List UInt8×Int):=Bu fun nx x=>Gc n y1 nx x.1 x.2
def G8(n:Nat)(p0:List UInt8)(p1:UInt32)(p2:List UInt8):Option (List UInt8×Int):=
 cond ((!decide ((p0.length:Int)=32))||(!decide ((p2.length:Int)=12)))
 (
  some ([],2))
 (
  (KU n p0 p1 p2).bind fun y1=>
  (Cp 4 [] y1).bind fun l1=>
  KA n y1 n (l1,0))
theorem Yh{n:Nat}{p0 p2:List UInt8}{p1:UInt32}{r:List UInt8×Int}(h:G8 n p0 p1 p2=some r): zC K w0 195 [vS p0,AA p1,vS p2] [] H (fun u M=>u=.tuple #[vS r.1,vI r.2]∧M=[]):=by
 unfold G8 at h
 refine UJ.enter Tryz.func195 rfl rfl ?_
 refine Z (O E (O E (Y (AE (Z (J E (BS E Bj E (V E Bg (J E ?_)))))))))
 refine DL (c := !decide ((p2.length:Int)=12)) 17 4 21 E (fun hb k=>?_) (fun hb k=>?_) ?_
 refine AB E (AB E (AB E (Ae E E E ?_)))
 exact k.mono tL
 refine J E (BS E Bj E (V E Bg (Ae E E E ?_)))
 exact k.mono tL
 refine Y ?_
 refine AT h E (fun hc1 h=>?_) fun hc1 h=>?_
 refine Z (O E (O E (Y (AL (Aa ?_)))))
 obtain rfl:=zI h
 exact Ad [] 0 E E E
 refine AI (AG (Z ?_))
 refine AC h fun y1 hy1 h=>?_
 refine J E (J E (J E ?_))
 refine Bm (vs:=[_,_,_]) (Hin:=[]) (Hr:=_) E E ⟨E,E,E,zT⟩ qU E E (Yt hy1) ?_
 rintro v1 _ ⟨_,rfl,rfl⟩
 refine⟨trivial,?_⟩
 refine O E (Y (Z ?_))
 refine AC h fun l1 hl1 h=>?_
 refine bg (n:=16) B0 E CU Bk TP L9 E E E E E zU fun v2=>?_
 refine J E ?_
 refine Yi 0 1 hl1 (sz:=1) (enc:=B0) zV E CU Bk TP L9 E zD E E E E (by simp[B0,Value.oneCell']) zU fun v3=>?_
 refine O E (Y ?_)
 refine A4 (α:=List UInt32×Value) (fun x=>GO n y1 x.1=some r) (fun x=>[(8,v1),(9,x.2)]) (fun x=>AH 29 1 v1 B0 y1::AH 29 1 x.2 B0 x.1::H) ?_ (fun x D h=>?_)
 refine Z (O E (Y (AM ?_)))
 refine SX.heap (SX.mono (A5 (α:=Nat×List UInt32×Value×Int) (fun x=>KA n y1 x.1 (x.2.1,x.2.2.2)=some r) (fun x=>[(8,v1),(9,x.2.2.1),(10,vI x.2.2.2)]) (fun x=>AH 29 1 v1 B0 y1::AH 29 1 x.2.2.1 B0 x.2.1::H) (fun x=>x.1) (fun x D h=>?_) (n,l1,v3,0) h) tL) (BB [1,0] 2 E E E)
 obtain⟨m1,l3,v5,a1⟩:=x
 dsimp only at h
 rcases m1 with _ | m1
 cases (show(none:Option _)=some r from h)
 replace h:Gc n y1 (KA n y1 m1) l3 a1=some r:=h
 unfold Gc at h
 try dsimp only
 refine AE (Z (J E (V E Aw (Y ?_))))
 refine AT h E (fun hc2 h=>?_) fun hc2 h=>?_
 refine AI (AG (AE (AM (Z ?_))))
 refine AC h fun y2 hy2 h=>?_
 refine J E (SL.pick [1,0] 2 (AQ 1 PU (I1 hy2) E (Y (Z ?_))))
 refine AC h fun y3 hy3 h=>?_
 refine J E (AQ 1 PU (I1 hy3) E (Y (Z ?_)))
 refine AC h fun y4 hy4 h=>?_
 refine J E (AQ 1 PU (I1 hy4) E (Y (Z ?_)))
 refine AC h fun y5 hy5 h=>?_
 refine J E (AQ 1 PU (I1 hy5) E (Y (Z ?_)))
 refine AC h fun y6 hy6 h=>?_
 refine J E (AQ 1 PU (I1 hy6) E (Y (Z ?_)))
 refine AC h fun y7 hy7 h=>?_
 refine J E (AQ 1 PU (I1 hy7) E (Y (Z ?_)))
 refine AC h fun y8 hy8 h=>?_
 refine J E (AQ 1 PU (I1 hy8) E (Y (AK ?_)))
 refine AC h fun y9 hy9 h=>?_
 refine J E (AQ 1 PU (I1 hy9) E (AU (An (AG (AK ?_)))))
 obtain⟨x1,ex1,h⟩:=Bn h
 refine J E (V E Ay ?_)
 refine Am (u:=vI x1) E E (by rw[ex1]) ?_
 refine AU ?_
 exact Ai (m1,y9,v5,x1) h (Nat.lt_succ_self _) tL (BB [1,0] 2 E E E)
 refine Ax (A3 (BL (Az ?_)))
 exact Av (l3,v5) h tL (BB [0,1] 2 E E E)
 obtain⟨l2,v4⟩:=x
 dsimp only at h
 unfold GO at h
 try dsimp only
 refine Z (Bi 5 1 GQ (O E (Y ?_)))
 refine A4 (α:=List UInt8×Value) (fun x=>J0 x.1=some r) (fun x=>[(11,x.2)]) (fun x=>AH 5 1 x.2 GQ x.1::H) ?_ (fun x D h=>?_)
 refine Z (O E (Y (AM ?_)))
 refine SX.heap (SX.mono (A5 (α:=Nat×List UInt8×Value×Int) (fun x=>Jy y1 l2 x.1 (x.2.1,x.2.2.2)=some r) (fun x=>[(8,v1),(9,v4),(11,x.2.2.1),(12,vI x.2.2.2)]) (fun x=>AH 29 1 v1 B0 y1::AH 29 1 v4 B0 l2::AH 5 1 x.2.2.1 GQ x.2.1::H) (fun x=>x.1) (fun x D h=>?_) (n,[],zN,0) h) tL) (BB [1,2,0] 3 E E E)
 obtain⟨m2,l5,v7,a2⟩:=x
 dsimp only at h
 rcases m2 with _ | m2
 cases (show(none:Option _)=some r from h)
 replace h:Gg y1 l2 (Jy y1 l2 m2) l5 a2=some r:=h
 unfold Gg at h
 try dsimp only
 refine AE (Z (J E (V E Aw (Y ?_))))
 refine AT h E (fun hc3 h=>?_) fun hc3 h=>?_
 refine AI (AG (AE (AM (AE ?_))))
 refine AC h fun x2 hx2 h=>?_
 refine AC h fun x3 hx3 h=>?_
 obtain⟨x4,ex4,h⟩:=Bn h
 refine Ak Ca [0,1] (Pl.of [(true,0),(true,1),(true,2),(true,3),(true,4),(true,5),(true,6),(true,7),(true,8),(true,9)]) zK (J E (J E ?_))
 refine BV 1 hx2 E CU Bk E E E fun g1 m3 cp1 hv1=>?_
 refine Bh E A6 E (Bw (sz:=1) (enc:=B0) 1 0 zV E hv1 hx2 E) ?_
 refine J E (J E ?_)
 refine BV 0 hx3 E CU Bk E E E fun g2 m4 cp2 hv2=>?_
 refine Bh E A6 E (Bw (sz:=1) (enc:=B0) 0 0 zV E hv2 hx3 E) ?_
 refine V E Bx ?_
 refine Am (u:=AA x4) E E (by rw[ex4]) ?_
 refine Y (AK ?_)
 refine AC h fun l6 hl6 h=>?_
 refine J E (J E (Au E E (Cs Bv Cl) (J E ?_)))
 refine V E (E0.shr32 (n:=8)) ?_
 refine Au E E (Cs Bv Cl) (J E ?_)
 refine V E (E0.shr32 (n:=16)) ?_
 refine Au E E (Cs Bv Cl) (J E ?_)
 refine V E (E0.shr32 (n:=24)) ?_
 refine Au E E (Cs Bv Cl) ?_
 refine Bz [_,_,_,_] E CM KH LA ⟨E,E,E,E,zT⟩ E E E zX E E zU fun b1=>?_
 refine B4 GQ 1 ([x4.toUInt8,(shr32 x4 8).toUInt8,(shr32 x4 16).toUInt8,(shr32 x4 24).toUInt8]:List UInt8) E zV E ?_
 refine CW 3 hl6 (sz:=1) (enc:=GQ) zV E CM KH Vs LA E zD E E E E (By (sz:=1) (enc:=GQ) 0 zV E) (by simp[GQ,Value.oneCell']) zU fun v8=>?_
 refine O E (AU (An (AG (AK ?_))))
 obtain⟨x5,ex5,h⟩:=Bn h
 refine J E (V E Ay ?_)
 refine Am (u:=vI x5) E E (by rw[ex5]) ?_
 refine AU ?_
 exact Ai (m2,l6,v8,x5) h (Nat.lt_succ_self _) tL (BB [1,2,3] 4 E E E)
 refine Ax (A3 (BL (Az ?_)))
 exact Av (l5,v7) h tL (BB [2] 3 E E E)
 obtain⟨l4,v6⟩:=x
 dsimp only at h
 unfold J0 at h
 try dsimp only
 refine Z (J E (Hq 0 E CM Cl Bj E E (O E (O E (Y (AL ?_))))))
 obtain rfl:=zI h
 exact Ad [] 1 E E E
def Lu(l1:List UInt8):Option (List UInt8×Int):=
 some (l1,0)
def Hl(p2:List UInt8)(l2:List UInt8)(a2:Int)(nx_f_ref01_Xor_l1:List UInt8×List UInt8×Int→Option (List UInt8×Int))(a3:List UInt8):Option (List UInt8×Int):=
 (Ao p2 a2).bind fun c1=>
 (RX a2 64).bind fun q3=>
 (Ao a3 q3).bind fun c2=>
 (Cp 1 l2 [c1 ^^^ c2]).bind fun l3=>
 ret (wI (a2+1)) fun i_1=>
 nx_f_ref01_Xor_l1 (l3,a3,i_1)
def IM(n:Nat)(p0:List UInt8)(p1:List UInt8)(p2:List UInt8)(nx_f_ref01_Xor_l1:List UInt8×List UInt8×Int→Option (List UInt8×Int))(l2:List UInt8)(a1:List UInt8)(a2:Int):Option (List UInt8×Int):=
 cond (decide (a2<(p2.length:Int)))
 (
  (RX a2 64).bind fun q1=>
  cond (decide (q1=0))
  (
   (Td a2 64).bind fun q2=>
   (G8 n p0 (FC q2) p1).bind fun y1=>
   Hl p2 l2 a2 nx_f_ref01_Xor_l1 y1.1)
  (
   Hl p2 l2 a2 nx_f_ref01_Xor_l1 a1))
 (
  Lu l2)
def Jf(n:Nat)(p0:List UInt8)(p1:List UInt8)(p2:List UInt8):Nat→(List UInt8×List UInt8×Int)→Option (List UInt8×Int):=Bu fun nx x=>IM n p0 p1 p2 nx x.1 x.2.1 x.2.2
def Kz(n:Nat)(p0:List UInt8)(p1:List UInt8)(p2:List UInt8):Option (List UInt8×Int):=
 cond (((!decide ((p0.length:Int)=32))||(!decide ((p1.length:Int)=12)))||(decide (1048576<(p2.length:Int))))
 (
  some ([],2))
 (
  Jf n p0 p1 p2 n ([],[],0))
theorem Ux{n:Nat}{p0 p1 p2:List UInt8}{r:List UInt8×Int}(h:Kz n p0 p1 p2=some r): zC K w0 155 [vS p0,vS p1,vS p2] [] H (fun u M=>u=.tuple #[vS r.1,vI r.2]∧M=[]):=by
 unfold Kz at h
 refine UJ.enter Tryz.func155 rfl rfl ?_
 refine Z (O E (O E (Y (AE (Z (J E (BS E Bj E (V E Bg (J E ?_)))))))))
 refine DL (c := !decide ((p1.length:Int)=12)) 16 4 20 E (fun hb k=>?_) (fun hb k=>?_) ?_
 refine AB E (AB E (AB E (Ae E E E ?_)))
 exact k.mono tL
 refine J E (BS E Bj E (V E Bg (Ae E E E ?_)))
 exact k.mono tL
 refine J E ?_
 refine DL (c:=decide (1048576<(p2.length:Int))) 21 4 25 E (fun hb k=>?_) (fun hb k=>?_) ?_
 refine AB E (AB E (AB E (Ae E E E ?_)))
 exact k.mono tL
 refine J E (BS E Bj E (V E CY (Ae E E E ?_)))
 exact k.mono tL
 refine Y ?_
 refine AT h E (fun hc1 h=>?_) fun hc1 h=>?_
 refine Z (O E (O E (Y (AL (Aa ?_)))))
 obtain rfl:=zI h
 exact Ad [] 0 E E E
 refine AI (AG (Z (Bi 5 1 GQ (O E (Y (Z (O E (Y ?_))))))))
 refine A4 (α:=List UInt8×Value) (fun x=>Lu x.1=some r) (fun x=>[(8,x.2)]) (fun x=>AH 5 1 x.2 GQ x.1::H) ?_ (fun x D h=>?_)
 refine Z (O E (Y (AM ?_)))
 refine SX.heap (SX.mono (A5 (α:=Nat×List UInt8×Value×List UInt8×Int) (fun x=>Jf n p0 p1 p2 x.1 (x.2.1,x.2.2.2.1,x.2.2.2.2)=some r) (fun x=>[(0,vS p0),(1,vS p1),(2,vS p2),(8,x.2.2.1),(9,vS x.2.2.2.1),(10,vI x.2.2.2.2)]) (fun x=>AH 5 1 x.2.2.1 GQ x.2.1::H) (fun x=>x.1) (fun x D h=>?_) (n,[],zN,[],0) h) tL) (BB [0] 1 E E E)
 obtain⟨m1,l2,v2,a1,a2⟩:=x
 dsimp only at h
 rcases m1 with _ | m1
 cases (show(none:Option _)=some r from h)
 replace h:IM n p0 p1 p2 (Jf n p0 p1 p2 m1) l2 a1 a2=some r:=h
 unfold IM at h
 try dsimp only
 refine AE (Z (J E (J E (BS E Bj E (V E Aw (Y ?_))))))
 refine AT h E (fun hc2 h=>?_) fun hc2 h=>?_
 refine AI (AG (AE (AM ?_)))
 refine A4 (α:=List UInt8) (fun x=>Hl p2 l2 a2 (Jf n p0 p1 p2 m1) x=some r) (fun x=>[(0,vS p0),(1,vS p1),(2,vS p2),(8,v2),(9,vS x),(10,vI a2)]) (fun x=>AH 5 1 v2 GQ l2::H) ?_ (fun a3 D h=>?_)
 refine Z ?_
 refine AC h fun q1 hq1 h=>?_
 refine J E (V E (QI hq1) (V E CH (Y ?_)))
 refine AT h E (fun hc3 h=>?_) fun hc3 h=>?_
 refine Z ?_
 refine AC h fun q2 hq2 h=>?_
 refine AC h fun y1 hy1 h=>?_
 refine J E (J E (V E (V6 hq2) (Au E E (P9 FW Bv) (J E (AQ 0 qo (Yh hy1) E (J E (Al E E E ?_)))))))
 refine Al E E E (O E (O E (Y (AK (J E (O E (AU ?_)))))))
 exact Av y1.1 h tL (BB [0] 1 E E E)
 refine AI ?_
 exact Av a1 h tL (BB [0] 1 E E E)
 unfold Hl at h
 try dsimp only
 refine AC h fun c1 hc1 h=>?_
 refine AC h fun q3 hq3 h=>?_
 refine AC h fun c2 hc2 h=>?_
 refine AC h fun l3 hl3 h=>?_
 refine Ak Ca [] (Bo [(true,0),(true,1),(true,2),(true,3),(true,4),(true,5),(true,6),(true,7),(true,8),(false,9)] (.last 10 (Pl.of [(false,11)]))) zK (J E (J E (J E (Di hc1 E Bj E E (J E (J E (V E (QI hq3) ?_)))))))
 refine Di hc2 E Bj E E (V E QJ ?_)
 refine Bz [_] E CM KH LA ⟨E,zT⟩ E E E zX E E zU fun b1=>?_
 refine B4 GQ 1 ([c1 ^^^ c2]:List UInt8) E zV E ?_
 refine BN ?_
 refine CW 1 hl3 (sz:=1) (enc:=GQ) zV E CM KH Vs LA E zD E E E E (By (sz:=1) (enc:=GQ) 0 zV E) (by simp[GQ,Value.oneCell']) zU fun v3=>?_
 refine O E (AU (An (AG (AK ?_))))
 obtain⟨i_1,ei_1,h⟩:=Bn h
 refine J E (V E Ay ?_)
 refine Am (u:=vI i_1) E E (by rw[ei_1]) ?_
 refine AU ?_
 exact Ai (m1,l3,v3,a3,i_1) h (Nat.lt_succ_self _) tL (BB [1] 2 E E E)
 refine Ax (A3 (BL (Az ?_)))
 exact Av (l2,v2) h tL (BB [0] 1 E E E)
 obtain⟨l1,v1⟩:=x
 dsimp only at h
 unfold Lu at h
 try dsimp only
 refine Z (J E (Hq 0 E CM Cl Bj E E (O E (O E (Y (AL ?_))))))
 obtain rfl:=zI h
 exact Ad [] 1 E E E
end

section
variable {K:Nat→Prop}{w0:World}{H:List AV}
def B8(p0:UInt32)(p1:Int):Option UInt32:=
 (Sa p1).bind fun n1=>
 (Sa (wI (32-p1))).bind fun n2=>
 ret ((shr32 p0 n1) ||| (shl32 p0 n2)) fun x1=>
 some x1
theorem EI{p0 r:UInt32}{p1:Int}(h:B8 p0 p1=some r): zC K w0 219 [AA p0,vI p1] [] H (fun u M=>u=AA r∧M=[]):=by
 unfold B8 at h
 refine UJ.enter Tryz.func219 rfl rfl ?_
 refine Z (O E (Y (AE ?_)))
 refine AC h fun n1 hn1 h=>?_
 refine AC h fun n2 hn2 h=>?_
 obtain⟨x1,ex1,h⟩:=Bn h
 refine Ak Ca [] (Pl.of [(true,0),(true,1),(true,2),(true,3),(true,4),(true,5),(true,6),(true,7),(true,8)]) zK (J E (J E (V E (WG hn1) (J E (J E (V E B5 (V E (Rp hn2) ?_)))))))
 refine V E DZ ?_
 refine Am (u:=AA x1) E E (by rw[ex1]) ?_
 refine Y (AL ?_)
 obtain rfl:=zI h
 exact Ad [] 0 E E E
def MU:Option (List UInt32):=
 some [1779033703,3144134277,1013904242,2773480762,1359893119,2600822924,528734635,1541459225]
theorem Xd{r:List UInt32}(h:MU=some r): zC K w0 198 [] [] H (fun u M=>∃v0:Value,u=v0∧M=[AH 29 1 v0 B0 r]):=by
 unfold MU at h
 refine UJ.enter Tryz.func198 rfl rfl ?_
 refine Z (Bi 29 1 B0 (O E (Y (Z ?_))))
 refine Bz [_,_,_,_,_,_,_,_] E CU Bk L9 ⟨E,E,E,E,E,E,E,E,zT⟩ E E E zX E E zU fun b1=>?_
 refine B4 B0 1 ([1779033703,3144134277,1013904242,2773480762,1359893119,2600822924,528734635,1541459225]:List UInt32) E zV E ?_
 refine O E (Y (AL ?_))
 obtain rfl:=zI h
 exact DM [0] 2 (De E E) E E ⟨(.slice (some ⟨b1,0,none⟩) 8 8),E,E⟩
def Ks(l9:List UInt32):Option (List UInt32):=
 some l9
def HU(p0:List UInt32)(nx_f_ref02_part_l3:List UInt32×Int→Option (List UInt32))(l10:List UInt32)(a3:Int):Option (List UInt32):=
 cond (decide (a3<8))
 (
  (Ao l10 a3).bind fun x27=>
  (Ao p0 a3).bind fun x28=>
  (Ao l10 a3).bind fun x29=>
  (F6 l10 a3 (x27+x28)).bind fun l11=>
  ret (wI (a3+1)) fun x30=>
  nx_f_ref02_part_l3 (l11,x30))
 (
  Ks l10)
def Kg(p0:List UInt32):Nat→(List UInt32×Int)→Option (List UInt32):=Bu fun nx x=>HU p0 nx x.1 x.2
def Gv(n:Nat)(p0:List UInt32)(l7:List UInt32):Option (List UInt32):=
 Kg p0 n (l7,0)
def HT(n:Nat)(T:List UInt32)(p0:List UInt32)(l1:List UInt32)(nx_f_ref02_part_l2:List UInt32×Int→Option (List UInt32))(l8:List UInt32)(a2:Int):Option (List UInt32):=
 cond (decide (a2<64))
 (
  (Ao l8 0).bind fun x6=>
  (Ao l8 4).bind fun x7=>
  (Ao l8 7).bind fun x8=>
  (B8 x7 6).bind fun y5=>
  (B8 x7 11).bind fun y6=>
  (B8 x7 25).bind fun y7=>
  (Ao l8 5).bind fun x9=>
  (Ao l8 6).bind fun x10=>
  (Ao T a2).bind fun x11=>
  (Ao l1 a2).bind fun x12=>
  ret ((((x8+((y5 ^^^ y6) ^^^ y7))+((x7 &&& x9) ^^^ ((4294967295 ^^^ x7) &&& x10)))+x11)+x12) fun x13=>
  (B8 x6 2).bind fun y8=>
  (B8 x6 13).bind fun y9=>
  (B8 x6 22).bind fun y10=>
  (Ao l8 1).bind fun x14=>
  (Ao l8 2).bind fun x15=>
  (Ao l8 1).bind fun x16=>
  (Ao l8 2).bind fun x17=>
  ret (((y8 ^^^ y9) ^^^ y10)+(((x6 &&& x14) ^^^ (x6 &&& x15)) ^^^ (x16 &&& x17))) fun x18=>
  (Ao l8 0).bind fun x19=>
  (Ao l8 1).bind fun x20=>
  (Ao l8 2).bind fun x21=>
  (Ao l8 3).bind fun x22=>
  (Ao l8 4).bind fun x23=>
  (Ao l8 5).bind fun x24=>
  (Ao l8 6).bind fun x25=>
  ret (wI (a2+1)) fun x26=>
  nx_f_ref02_part_l2 ([x13+x18,x19,x20,x21,x22+x13,x23,x24,x25],x26))
 (
  Gv n p0 l8)
def Kk(n:Nat)(T:List UInt32)(p0:List UInt32)(l1:List UInt32):Nat→(List UInt32×Int)→Option (List UInt32):=Bu fun nx x=>HT n T p0 l1 nx x.1 x.2
def G5(n:Nat)(T:List UInt32)(p0:List UInt32)(l1:List UInt32):Option (List UInt32):=
 (Cp 4 [] p0).bind fun l6=>
 Kk n T p0 l1 n (l6,0)
def G4(a1:Int)(nx_f_ref02_part_l1:List UInt32×Int→Option (List UInt32))(l3:List UInt32):Option (List UInt32):=
 ret (wI (a1+1)) fun x5=>
 nx_f_ref02_part_l1 (l3,x5)
def HR(n:Nat)(T:List UInt32)(p0:List UInt32)(p1:List UInt8)(nx_f_ref02_part_l1:List UInt32×Int→Option (List UInt32))(l2:List UInt32)(a1:Int):Option (List UInt32):=
 cond (decide (a1<64))
 (
  cond (decide (a1<16))
  (
   (Ao p1 (wI (4*a1))).bind fun c1=>
   (Ao p1 (wI ((wI (4*a1))+1))).bind fun c2=>
   (Ao p1 (wI ((wI (4*a1))+2))).bind fun c3=>
   (Ao p1 (wI ((wI (4*a1))+3))).bind fun c4=>
   (Cp 4 l2 [(((shl32 c1.toUInt32 24) ||| (shl32 c2.toUInt32 16)) ||| (shl32 c3.toUInt32 8)) ||| c4.toUInt32]).bind fun l4=>
   G4 a1 nx_f_ref02_part_l1 l4)
  (
   (Ao l2 (wI (a1-15))).bind fun x1=>
   (Ao l2 (wI (a1-2))).bind fun x2=>
   (Ao l2 (wI (a1-16))).bind fun x3=>
   (B8 x1 7).bind fun y1=>
   (B8 x1 18).bind fun y2=>
   (Ao l2 (wI (a1-7))).bind fun x4=>
   (B8 x2 17).bind fun y3=>
   (B8 x2 19).bind fun y4=>
   (Cp 4 l2 [((x3+((y1 ^^^ y2) ^^^ (shr32 x1 3)))+x4)+((y3 ^^^ y4) ^^^ (shr32 x2 10))]).bind fun l5=>
   G4 a1 nx_f_ref02_part_l1 l5))
 (
  G5 n T p0 l2)
def It(n:Nat)(T:List UInt32)(p0:List UInt32)(p1:List UInt8):Nat→(List UInt32×Int)→Option (List UInt32):=Bu fun nx x=>HR n T p0 p1 nx x.1 x.2
def LY(n:Nat)(T:List UInt32)(p0:List UInt32)(p1:List UInt8):Option (List UInt32):=
 It n T p0 p1 n ([],0)
theorem Zf{n:Nat}{T p0 r:List UInt32}{B3:Value}{p1:List UInt8}(h:LY n T p0 p1=some r)(hT:KM K w0 2 64 T)(hs0_:CJ K w0 B0 1 B3 p0):zC K w0 199 [B3,vS p1] [] H (fun u M=>∃v0:Value,u=v0∧M=[AH 29 1 v0 B0 r]):=by
 unfold LY at h
 refine UJ.enter Tryz.func199 rfl rfl ?_
 refine Z (Bi 29 1 B0 (O E (Y (Z (Bi 29 1 B0 (O E (Y ?_)))))))
 refine A4 (α:=List UInt32×Value) (fun x=>G5 n T p0 x.1=some r) (fun x=>[(0,B3),(5,x.2)]) (fun x=>AH 29 1 x.2 B0 x.1::H) ?_ (fun x D h=>?_)
 refine Z (O E (Y (AM ?_)))
 refine SX.heap (SX.mono (A5 (α:=Nat×List UInt32×Value×Int) (fun x=>It n T p0 p1 x.1 (x.2.1,x.2.2.2)=some r) (fun x=>[(0,B3),(1,vS p1),(5,x.2.2.1),(6,vI x.2.2.2)]) (fun x=>AH 29 1 x.2.2.1 B0 x.2.1::H) (fun x=>x.1) (fun x D h=>?_) (n,[],zN,0) h) tL) (BB [0] 2 E E E)
 obtain⟨m1,l2,v2,a1⟩:=x
 dsimp only at h
 rcases m1 with _ | m1
 cases (show(none:Option _)=some r from h)
 replace h:HR n T p0 p1 (It n T p0 p1 m1) l2 a1=some r:=h
 unfold HR at h
 try dsimp only
 refine AE (Z (J E (V E Aw (Y ?_))))
 refine AT h E (fun hc1 h=>?_) fun hc1 h=>?_
 refine AI (AG ?_)
 refine A4 (α:=List UInt32×Value) (fun x=>G4 a1 (It n T p0 p1 m1) x.1=some r) (fun x=>[(0,B3),(1,vS p1),(5,x.2),(6,vI a1)]) (fun x=>AH 29 1 x.2 B0 x.1::H) ?_ (fun x D h=>?_)
 refine AM (AE (Z (J E (V E Aw (Y ?_)))))
 refine AT h E (fun hc2 h=>?_) fun hc2 h=>?_
 refine AE ?_
 refine AC h fun c1 hc1 h=>?_
 refine AC h fun c2 hc2 h=>?_
 refine AC h fun c3 hc3 h=>?_
 refine AC h fun c4 hc4 h=>?_
 refine AC h fun l4 hl4 h=>?_
 refine Ak Ca [] (Bo [(true,0),(true,1),(true,2),(true,3),(true,4),(true,5),(true,6),(true,7),(true,8),(true,9),(true,10),(true,11),(true,12),(true,13),(true,14),(true,15),(true,16),(true,17),(true,18),(true,19),(true,20),(true,21),(true,22),(true,23),(true,24),(true,25),(true,26),(true,27),(true,28),(true,29),(false,30)] (.last 31 (Pl.of [(false,32)]))) zK (J E (J E (J E (V E Ir (Di hc1 E Bj E E (Au E E (DN Cl Bv) ?_))))))
 refine V E (E0.shl32 (n:=24)) ?_
 refine J E (J E (V E Ir (V E Ay (Di hc2 E Bj E E (Au E E (DN Cl Bv) ?_)))))
 refine V E (E0.shl32 (n:=16)) ?_
 refine V E DZ (J E (J E (V E Ir (V E Ay (Di hc3 E Bj E E (Au E E (DN Cl Bv) ?_))))))
 refine V E (E0.shl32 (n:=8)) ?_
 refine V E DZ (J E (J E (V E Ir (V E Ay (Di hc4 E Bj E E (Au E E (DN Cl Bv) (V E DZ ?_)))))))
 refine Bz [_] E CU Bk L9 ⟨E,zT⟩ E E E zX E E zU fun b1=>?_
 refine B4 B0 1 ([(((shl32 c1.toUInt32 24) ||| (shl32 c2.toUInt32 16)) ||| (shl32 c3.toUInt32 8)) ||| c4.toUInt32]:List UInt32) E zV E ?_
 refine BN ?_
 refine CW 1 hl4 (sz:=1) (enc:=B0) zV E CU Bk TP L9 E zD E E E E (By (sz:=1) (enc:=B0) 0 zV E) (by simp[B0,Value.oneCell']) zU fun v4=>?_
 refine O E (Y (Ax (A3 (Az ?_))))
 exact Av (l4,v4) h tL (BB [1] 2 E E E)
 refine AI (AG (Z ?_))
 refine AC h fun x1 hx1 h=>?_
 refine J E (J E (V E B5 ?_))
 refine BV 0 hx1 E CU Bk E E E fun g1 m2 cp1 hv1=>?_
 refine Bh E A6 E (Bw (sz:=1) (enc:=B0) 0 0 zV E hv1 hx1 E) ?_
 refine O E (Y (Z ?_))
 refine AC h fun x2 hx2 h=>?_
 refine J E (J E (V E B5 ?_))
 refine BV 0 hx2 E CU Bk E E E fun g2 m3 cp2 hv2=>?_
 refine Bh E A6 E (Bw (sz:=1) (enc:=B0) 0 0 zV E hv2 hx2 E) ?_
 refine O E (Y ?_)
 refine AC h fun x3 hx3 h=>?_
 refine AC h fun y1 hy1 h=>?_
 refine AC h fun y2 hy2 h=>?_
 refine AC h fun x4 hx4 h=>?_
 refine AC h fun y3 hy3 h=>?_
 refine AC h fun y4 hy4 h=>?_
 refine AC h fun l5 hl5 h=>?_
 refine Ak Ca [0] (Bo [(true,0),(true,1),(true,2),(true,3),(true,4),(true,5),(true,6),(true,8),(true,11),(true,12),(true,15),(true,16),(true,17),(true,18),(true,19),(true,21),(true,23),(true,26),(true,27),(false,7),(false,9),(true,10),(true,13),(true,14),(true,20),(false,22),(false,24),(true,25),(true,28),(true,29),(false,30)] (.last 31 (Pl.of [(false,32)]))) zK (J E (J E (J E (V E B5 ?_))))
 refine BV 0 hx3 E CU Bk E E E fun g3 m4 cp3 hv3=>?_
 refine Bh E A6 E (Bw (sz:=1) (enc:=B0) 0 0 zV E hv3 hx3 E) ?_
 refine J E (J E (J E ?_))
 refine V E (E0.shr32 (n:=3)) ?_
 refine J E (J E (V E B5 ?_))
 refine BV 0 hx4 E CU Bk E E E fun g4 m5 cp4 hv4=>?_
 refine Bh E A6 E (Bw (sz:=1) (enc:=B0) 0 0 zV E hv4 hx4 E) ?_
 refine J E (J E (J E ?_))
 refine V E (E0.shr32 (n:=10)) ?_
 refine BO 0 NW (EI hy1) E ⟨⟨0,E⟩,zT⟩ (BO 0 NW (EI hy2) E ⟨⟨0,E⟩,zT⟩ (V E CX (V E CX (V E Bx (V E Bx (BO 0 NW (EI hy3) E ⟨⟨0,E⟩,zT⟩ (BO 0 NW (EI hy4) E ⟨⟨0,E⟩,zT⟩ ?_)))))))
 refine V E CX (V E CX (V E Bx ?_))
 refine Bz [_] E CU Bk L9 ⟨E,zT⟩ E E E zX E E (fun _=>⟨⟨1,E⟩,zT⟩) fun b2=>?_
 refine B4 B0 1 ([((x3+((y1 ^^^ y2) ^^^ (shr32 x1 3)))+x4)+((y3 ^^^ y4) ^^^ (shr32 x2 10))]:List UInt32) E zV E ?_
 refine BN ?_
 refine CW 1 hl5 (sz:=1) (enc:=B0) zV E CU Bk TP L9 E zD E E E E (By (sz:=1) (enc:=B0) 0 zV E) (by simp[B0,Value.oneCell']) zU fun v5=>?_
 refine O E (AU (An ?_))
 exact Av (l5,v5) h tL (BB [1] 2 E E E)
 obtain⟨l3,v3⟩:=x
 dsimp only at h
 unfold G4 at h
 try dsimp only
 refine AK ?_
 obtain⟨x5,ex5,h⟩:=Bn h
 refine J E (V E Ay ?_)
 refine Am (u:=vI x5) E E (by rw[ex5]) ?_
 refine AU ?_
 exact Ai (m1,l3,v3,x5) h (Nat.lt_succ_self _) tL (BB [0] 1 E E E)
 refine Ax (A3 (BL (Az ?_)))
 exact Av (l2,v2) h tL (BB [0] 1 E E E)
 obtain⟨l1,v1⟩:=x
 dsimp only at h
 unfold G5 at h
 try dsimp only
 refine Z ?_
 refine AC h fun l6 hl6 h=>?_
 refine bg (n:=8) B0 E CU Bk TP L9 E E E E E zU fun v6=>?_
 refine J E ?_
 refine U4 0 hl6 hs0_ (sz:=1) (enc:=B0) zV E CU Bk TP L9 E zD E E E (by simp[B0,Value.oneCell']) zU fun v7=>?_
 refine O E (Y ?_)
 refine A4 (α:=List UInt32×Value) (fun x=>Gv n p0 x.1=some r) (fun x=>[(0,B3),(9,x.2)]) (fun x=>AH 29 1 x.2 B0 x.1::H) ?_ (fun x D h=>?_)
 refine Z (O E (Y (AM ?_)))
 refine SX.heap (SX.mono (A5 (α:=Nat×List UInt32×Value×Int) (fun x=>Kk n T p0 l1 x.1 (x.2.1,x.2.2.2)=some r) (fun x=>[(0,B3),(5,v1),(9,x.2.2.1),(10,vI x.2.2.2)]) (fun x=>AH 29 1 v1 B0 l1::AH 29 1 x.2.2.1 B0 x.2.1::H) (fun x=>x.1) (fun x D h=>?_) (n,l6,v7,0) h) tL) (BB [1,0] 2 E E E)
 obtain⟨m6,l8,v9,a2⟩:=x
 dsimp only at h
 rcases m6 with _ | m6
 cases (show(none:Option _)=some r from h)
 replace h:HT n T p0 l1 (Kk n T p0 l1 m6) l8 a2=some r:=h
 unfold HT at h
 try dsimp only
 refine AE (Z (J E (V E Aw (Y ?_))))
 refine AT h E (fun hc3 h=>?_) fun hc3 h=>?_
 refine AI (AG (AE (AM (Z ?_))))
 refine AC h fun x6 hx6 h=>?_
 refine J E ?_
 refine BV 1 hx6 E CU Bk E E E fun g5 m7 cp5 hv5=>?_
 refine Bh E A6 E (Bw (sz:=1) (enc:=B0) 1 0 zV E hv5 hx6 E) ?_
 refine O E (Y (Z ?_))
 refine AC h fun x7 hx7 h=>?_
 refine J E ?_
 refine BV 1 hx7 E CU Bk E E E fun g6 m8 cp6 hv6=>?_
 refine Bh E A6 E (Bw (sz:=1) (enc:=B0) 1 0 zV E hv6 hx7 E) ?_
 refine O E (Y (AE ?_))
 refine AC h fun x8 hx8 h=>?_
 refine AC h fun y5 hy5 h=>?_
 refine AC h fun y6 hy6 h=>?_
 refine AC h fun y7 hy7 h=>?_
 refine AC h fun x9 hx9 h=>?_
 refine AC h fun x10 hx10 h=>?_
 refine AC h fun x11 hx11 h=>?_
 refine AC h fun x12 hx12 h=>?_
 obtain⟨x13,ex13,h⟩:=Bn h
 refine Ak Ca [0,1] (Bo [(true,0),(true,1),(true,2),(true,3),(true,5),(true,8),(true,12),(true,13),(true,14),(true,15),(true,16),(true,17),(true,18),(true,19),(true,20),(true,21),(true,22),(true,23),(true,25),(true,26),(true,27),(true,29),(true,30),(true,31),(true,32),(false,4),(false,6),(true,7),(false,9),(false,10),(false,11),(false,24),(false,28)] (.last 33 (Pl.of [(false,34)]))) zK (J E ?_)
 refine BV 1 hx8 E CU Bk E E E fun g7 m9 cp7 hv7=>?_
 refine Bh E A6 E (Bw (sz:=1) (enc:=B0) 1 0 zV E hv7 hx8 E) ?_
 refine J E (J E (J E (J E (J E ?_))))
 refine BV 1 hx9 E CU Bk E E E fun g8 m10 cp8 hv8=>?_
 refine Bh E A6 E (Bw (sz:=1) (enc:=B0) 1 0 zV E hv8 hx9 E) ?_
 refine V E HX (J E (az E E (J E ?_)))
 refine BV 1 hx10 E CU Bk E E E fun g9 m11 cp9 hv9=>?_
 refine Bh E A6 E (Bw (sz:=1) (enc:=B0) 1 0 zV E hv9 hx10 E) ?_
 refine V E HX (V E CX (J E ?_))
 refine Me (xs:=T) hx11 E Qs Bk E E hT.len ?_
 refine Bh E A6 E (ow hT hx11) (J E (J E ?_))
 refine BV 0 hx12 E CU Bk E E E fun g10 m12 cp10 hv10=>?_
 refine Bh E A6 E (Bw (sz:=1) (enc:=B0) 0 0 zV E hv10 hx12 E) ?_
 refine BO 0 NW (EI hy5) E ⟨⟨0,E⟩,⟨1,E⟩,zT⟩ (BO 0 NW (EI hy6) E ⟨⟨0,E⟩,⟨1,E⟩,zT⟩ (V E CX (BO 0 NW (EI hy7) E ⟨⟨0,E⟩,⟨1,E⟩,zT⟩ (V E CX (V E Bx (V E Bx (V E Bx (BN ?_))))))))
 refine V E Bx ?_
 refine Am (u:=AA x13) E E (by rw[ex13]) ?_
 refine Y (AE ?_)
 refine AC h fun y8 hy8 h=>?_
 refine AC h fun y9 hy9 h=>?_
 refine AC h fun y10 hy10 h=>?_
 refine AC h fun x14 hx14 h=>?_
 refine AC h fun x15 hx15 h=>?_
 refine AC h fun x16 hx16 h=>?_
 refine AC h fun x17 hx17 h=>?_
 obtain⟨x18,ex18,h⟩:=Bn h
 refine Ak Ca [1] (Bo [(true,0),(true,2),(true,5),(true,8),(true,9),(true,10),(true,11),(true,12),(true,13),(true,14),(true,15),(true,16),(true,17),(true,18),(true,19),(true,20),(true,21),(true,22),(true,23),(true,24),(true,25),(true,26),(false,1),(false,3),(true,4),(false,6),(false,7)] (.last 27 (Pl.of [(false,28)]))) zK (J E (J E (J E (J E (J E ?_)))))
 refine BV 1 hx14 E CU Bk E E E fun g11 m13 cp11 hv11=>?_
 refine Bh E A6 E (Bw (sz:=1) (enc:=B0) 0 0 zV E hv11 hx14 E) ?_
 refine V E HX (J E (J E ?_))
 refine BV 1 hx15 E CU Bk E E E fun g12 m14 cp12 hv12=>?_
 refine Bh E A6 E (Bw (sz:=1) (enc:=B0) 0 0 zV E hv12 hx15 E) ?_
 refine V E HX (V E CX (J E ?_))
 refine BV 1 hx16 E CU Bk E E E fun g13 m15 cp13 hv13=>?_
 refine Bh E A6 E (Bw (sz:=1) (enc:=B0) 0 0 zV E hv13 hx16 E) ?_
 refine J E ?_
 refine BV 1 hx17 E CU Bk E E E fun g14 m16 cp14 hv14=>?_
 refine Bh E A6 E (Bw (sz:=1) (enc:=B0) 0 0 zV E hv14 hx17 E) ?_
 refine V E HX (V E CX (BO 0 NW (EI hy8) E ⟨⟨1,E⟩,zT⟩ (BO 0 NW (EI hy9) E ⟨⟨1,E⟩,zT⟩ (V E CX (BO 0 NW (EI hy10) E ⟨⟨1,E⟩,zT⟩ (V E CX (BN (V E Bx ?_))))))))
 refine Am (u:=AA x18) E E (by rw[ex18]) ?_
 refine Y ?_
 refine AC h fun x19 hx19 h=>?_
 refine AC h fun x20 hx20 h=>?_
 refine AC h fun x21 hx21 h=>?_
 refine AC h fun x22 hx22 h=>?_
 refine AC h fun x23 hx23 h=>?_
 refine AC h fun x24 hx24 h=>?_
 refine AC h fun x25 hx25 h=>?_
 refine Ak Ca [1] (Bo [(true,0),(true,1),(true,2),(true,3),(true,4),(true,5),(true,6),(true,7),(true,8),(true,9),(true,10),(true,11),(true,12),(true,13),(true,14),(true,15),(true,16),(true,17),(true,18),(true,19),(true,20),(true,21),(true,22),(true,23),(true,24),(true,25)] (.last 26 (Pl.of [(false,27)]))) zK (J E (J E (V E Bx (J E ?_))))
 refine BV 1 hx19 E CU Bk E E E fun g15 m17 cp15 hv15=>?_
 refine Bh E A6 E (Bw (sz:=1) (enc:=B0) 0 0 zV E hv15 hx19 E) ?_
 refine J E ?_
 refine BV 1 hx20 E CU Bk E E E fun g16 m18 cp16 hv16=>?_
 refine Bh E A6 E (Bw (sz:=1) (enc:=B0) 0 0 zV E hv16 hx20 E) ?_
 refine J E ?_
 refine BV 1 hx21 E CU Bk E E E fun g17 m19 cp17 hv17=>?_
 refine Bh E A6 E (Bw (sz:=1) (enc:=B0) 0 0 zV E hv17 hx21 E) ?_
 refine J E ?_
 refine BV 1 hx22 E CU Bk E E E fun g18 m20 cp18 hv18=>?_
 refine Bh E A6 E (Bw (sz:=1) (enc:=B0) 0 0 zV E hv18 hx22 E) ?_
 refine J E (V E Bx (J E ?_))
 refine BV 1 hx23 E CU Bk E E E fun g19 m21 cp19 hv19=>?_
 refine Bh E A6 E (Bw (sz:=1) (enc:=B0) 0 0 zV E hv19 hx23 E) ?_
 refine J E ?_
 refine BV 1 hx24 E CU Bk E E E fun g20 m22 cp20 hv20=>?_
 refine Bh E A6 E (Bw (sz:=1) (enc:=B0) 0 0 zV E hv20 hx24 E) ?_
 refine J E ?_
 refine BV 1 hx25 E CU Bk E E E fun g21 m23 cp21 hv21=>?_
 refine Bh E A6 E (Bw (sz:=1) (enc:=B0) 0 0 zV E hv21 hx25 E) ?_
 refine BN ?_
 refine Bz [_,_,_,_,_,_,_,_] E CU Bk L9 ⟨E,E,E,E,E,E,E,E,zT⟩ E E E zX E E zU fun b3=>?_
 refine B4 B0 1 ([x13+x18,x19,x20,x21,x22+x13,x23,x24,x25]:List UInt32) E zV E ?_
 refine O E (AU (An (AG (AK ?_))))
 obtain⟨x26,ex26,h⟩:=Bn h
 refine J E (V E Ay ?_)
 refine Am (u:=vI x26) E E (by rw[ex26]) ?_
 refine AU ?_
 exact Ai (m6,[x13+x18,x19,x20,x21,x22+x13,x23,x24,x25],.slice (some ⟨b3,0,none⟩) 8 8,x26) h (Nat.lt_succ_self _) tL (BB [1,0] 3 E E E)
 refine Ax (A3 (BL (Az ?_)))
 exact Av (l8,v9) h tL (BB [1] 2 E E E)
 obtain⟨l7,v8⟩:=x
 dsimp only at h
 unfold Gv at h
 try dsimp only
 refine A4 (α:=List UInt32×Value) (fun x=>Ks x.1=some r) (fun x=>[(9,x.2)]) (fun x=>AH 29 1 x.2 B0 x.1::H) ?_ (fun x D h=>?_)
 refine Z (O E (Y (AM ?_)))
 refine SX.heap (SX.mono (A5 (α:=Nat×List UInt32×Value×Int) (fun x=>Kg p0 x.1 (x.2.1,x.2.2.2)=some r) (fun x=>[(0,B3),(9,x.2.2.1),(15,vI x.2.2.2)]) (fun x=>AH 29 1 x.2.2.1 B0 x.2.1::H) (fun x=>x.1) (fun x D h=>?_) (n,l7,v8,0) h) tL) (BB [0] 1 E E E)
 obtain⟨m24,l10,v11,a3⟩:=x
 dsimp only at h
 rcases m24 with _ | m24
 cases (show(none:Option _)=some r from h)
 replace h:HU p0 (Kg p0 m24) l10 a3=some r:=h
 unfold HU at h
 try dsimp only
 refine AE (Z (J E (V E Aw (Y ?_))))
 refine AT h E (fun hc4 h=>?_) fun hc4 h=>?_
 refine AI (AG (AE (AM ?_)))
 refine AC h fun x27 hx27 h=>?_
 refine AC h fun x28 hx28 h=>?_
 refine AC h fun x29 hx29 h=>?_
 refine AC h fun l11 hl11 h=>?_
 refine Ak Ca [0] (Bo [(true,0),(true,1),(true,2),(true,3),(true,4),(true,5),(true,6),(true,7),(true,8),(true,9),(true,10),(true,11)] (.last 12 .nil)) zK (J E (J E (J E (J E ?_))))
 refine BV 0 hx27 E CU Bk E E E fun g22 m25 cp22 hv22=>?_
 refine Bh E A6 E (Bw (sz:=1) (enc:=B0) 0 0 zV E hv22 hx27 E) ?_
 refine J E (J E ?_)
 refine Cm hx28 hs0_ E CU Bk E E fun be1 of1 hc5=>?_
 refine Bh E A6 E (DA (j:=0) hc5 E) ?_
 refine V E Bx ?_
 refine BV 0 hx29 E CU Bk E E E fun g23 m26 cp23 hv23=>?_
 refine BN ?_
 refine DE (sz:=1) (enc:=B0) 0 hl11 zV E E E E E hv23 Bk (by simp[Value.oneCell']) zT ?_
 refine AU (An (AG (AK ?_)))
 obtain⟨x30,ex30,h⟩:=Bn h
 refine J E (V E Ay ?_)
 refine Am (u:=vI x30) E E (by rw[ex30]) ?_
 refine AU ?_
 exact Ai (m24,l11,v11,x30) h (Nat.lt_succ_self _) tL (BB [0] 1 E E E)
 refine Ax (A3 (BL (Az ?_)))
 exact Av (l10,v11) h tL (BB [0] 1 E E E)
 obtain⟨l9,v10⟩:=x
 dsimp only at h
 unfold Ks at h
 try dsimp only
 refine Z (J E (O E (Y (AL ?_))))
 obtain rfl:=zI h
 exact DM [0] 1 (De E E) E E ⟨v10,E,E⟩
def JK(p0:List UInt8)(a1:List UInt8):Option (List UInt8):=
 ret ((BW (p0.length:Int))*8) fun x1=>
 (FR a1 [(shr64 x1 56).toUInt8,(shr64 x1 48).toUInt8,(shr64 x1 40).toUInt8,(shr64 x1 32).toUInt8,(shr64 x1 24).toUInt8,(shr64 x1 16).toUInt8,(shr64 x1 8).toUInt8,x1.toUInt8]).bind fun s3=>
 some s3
def GG(p0:List UInt8)(nx_f_ref02_Filled_l1:List UInt8→Option (List UInt8))(a2:List UInt8):Option (List UInt8):=
 (RX (a2.length:Int) 64).bind fun q1=>
 cond (!decide (q1=56))
 (
  (FR a2 [0]).bind fun s2=>
  nx_f_ref02_Filled_l1 s2)
 (
  JK p0 a2)
def JR(p0:List UInt8):Nat→List UInt8→Option (List UInt8):=Bu fun nx x=>GG p0 nx x
def Ja(n:Nat)(p0:List UInt8):Option (List UInt8):=
 (FR p0 [128]).bind fun s1=>
 JR p0 n s1
theorem Wx{n:Nat}{p0 r:List UInt8}(h:Ja n p0=some r): zC K w0 197 [vS p0] [] H (fun u M=>u=vS r∧M=[]):=by
 unfold Ja at h
 refine UJ.enter Tryz.func197 rfl rfl ?_
 refine Z (O E (Y (Z ?_)))
 refine AC h fun s1 hs1 h=>?_
 refine J E (V E (CV hs1) (O E (Y ?_)))
 refine A4 (α:=List UInt8) (fun x=>JK p0 x=some r) (fun x=>[(0,vS p0),(3,vS x)]) (fun x=>H) ?_ (fun a1 D h=>?_)
 refine AM ?_
 refine SX.heap (SX.mono (A5 (α:=Nat×List UInt8) (fun x=>JR p0 x.1 x.2=some r) (fun x=>[(0,vS p0),(3,vS x.2)]) (fun x=>H) (fun x=>x.1) (fun x D h=>?_) (n,s1) h) tL) (BB [] 0 E E E)
 obtain⟨m1,a2⟩:=x
 dsimp only at h
 rcases m1 with _ | m1
 cases (show(none:Option _)=some r from h)
 replace h:GG p0 (JR p0 m1) a2=some r:=h
 unfold GG at h
 try dsimp only
 refine AE (Z ?_)
 refine AC h fun q1 hq1 h=>?_
 refine J E (BS E Bj E (V E (QI hq1) (V E Bg (Y ?_))))
 refine AT h E (fun hc1 h=>?_) fun hc1 h=>?_
 refine AI (AG (AM (AK ?_)))
 refine AC h fun s2 hs2 h=>?_
 refine J E (V E (CV hs2) (O E (AU (An ?_))))
 exact Ai (m1,s2) h (Nat.lt_succ_self _) tL (BB [] 0 E E E)
 refine Ax (A3 (BL (Az ?_)))
 exact Av a2 h tL (BB [] 0 E E E)
 unfold JK at h
 try dsimp only
 refine Z ?_
 obtain⟨x1,ex1,h⟩:=Bn h
 refine J E (BS E Bj E (Au E E (Df FW CQ) ?_))
 refine V E (JS (b:=8)) ?_
 refine Am (u:=Ap x1) E E (by rw[ex1]) ?_
 refine Y (Z ?_)
 refine AC h fun s3 hs3 h=>?_
 refine J E (J E ?_)
 refine V E (E0.shr64 (n:=56)) ?_
 refine Au E E (Gu CQ Cl) (J E ?_)
 refine V E (E0.shr64 (n:=48)) ?_
 refine Au E E (Gu CQ Cl) (J E ?_)
 refine V E (E0.shr64 (n:=40)) ?_
 refine Au E E (Gu CQ Cl) (J E ?_)
 refine V E (E0.shr64 (n:=32)) ?_
 refine Au E E (Gu CQ Cl) (J E ?_)
 refine V E (E0.shr64 (n:=24)) ?_
 refine Au E E (Gu CQ Cl) (J E ?_)
 refine V E (E0.shr64 (n:=16)) ?_
 refine Au E E (Gu CQ Cl) (J E ?_)
 refine V E (E0.shr64 (n:=8)) ?_
 refine Au E E (Gu CQ Cl) (J E (Au E E (Gu CQ Cl) ?_))
 refine Bz [_,_,_,_,_,_,_,_] E CM KH LA ⟨E,E,E,E,E,E,E,E,zT⟩ E E E zX E E zU fun b1=>?_
 refine B4 GQ 1 ([(shr64 x1 56).toUInt8,(shr64 x1 48).toUInt8,(shr64 x1 40).toUInt8,(shr64 x1 32).toUInt8,(shr64 x1 24).toUInt8,(shr64 x1 16).toUInt8,(shr64 x1 8).toUInt8,x1.toUInt8]:List UInt8) E zV E ?_
 refine Hq 0 E CM Cl Bj E E (V E (CV hs3) (O E (Y (AL ?_))))
 obtain rfl:=zI h
 exact Ad [] 1 E E E
def Lh(l3:List UInt8):Option (List UInt8):=
 some l3
def H9(l1:List UInt32)(nx_f_ref02_Sum_l2:List UInt8×Int→Option (List UInt8))(l4:List UInt8)(a2:Int):Option (List UInt8):=
 cond (decide (a2<8))
 (
  (Ao l1 a2).bind fun x1=>
  (Ao l1 a2).bind fun x2=>
  (Ao l1 a2).bind fun x3=>
  (Ao l1 a2).bind fun x4=>
  (Cp 1 l4 [(shr32 x1 24).toUInt8,(shr32 x2 16).toUInt8,(shr32 x3 8).toUInt8,x4.toUInt8]).bind fun l5=>
  ret (wI (a2+1)) fun i_2=>
  nx_f_ref02_Sum_l2 (l5,i_2))
 (
  Lh l4)
def Lw(l1:List UInt32):Nat→(List UInt8×Int)→Option (List UInt8):=Bu fun nx x=>H9 l1 nx x.1 x.2
def JU(n:Nat)(l1:List UInt32):Option (List UInt8):=
 Lw l1 n ([],0)
def IL(n:Nat)(T:List UInt32)(y1:List UInt8)(nx_f_ref02_Sum_l1:List UInt32×Int→Option (List UInt8))(l2:List UInt32)(a1:Int):Option (List UInt8):=
 cond (decide (a1<(y1.length:Int)))
 (
  (Cz y1 a1 (wI (a1+64))).bind fun s1=>
  (LY n T l2 s1).bind fun y3=>
  ret (wI (a1+64)) fun i_1=>
  nx_f_ref02_Sum_l1 (y3,i_1))
 (
  JU n l2)
def Lg(n:Nat)(T:List UInt32)(y1:List UInt8):Nat→(List UInt32×Int)→Option (List UInt8):=Bu fun nx x=>IL n T y1 nx x.1 x.2
def JL(n:Nat)(T:List UInt32)(p0:List UInt8):Option (List UInt8):=
 (Ja n p0).bind fun y1=>
 (MU).bind fun y2=>
 Lg n T y1 n (y2,0)
theorem RJ{n:Nat}{T:List UInt32}{p0 r:List UInt8}(h:JL n T p0=some r)(hT:KM K w0 2 64 T):zC K w0 159 [vS p0] [] H (fun u M=>u=vS r∧M=[]):=by
 unfold JL at h
 refine UJ.enter Tryz.func159 rfl rfl ?_
 refine Z (O E (Y (Z ?_)))
 refine AC h fun y1 hy1 h=>?_
 refine J E (AQ 0 pr (Wx hy1) E (O E (Y (Z ?_))))
 refine AC h fun y2 hy2 h=>?_
 refine Bm (vs:=[]) (Hin:=[]) (Hr:=_) E E zT om E E (Xd hy2) ?_
 rintro v1 _ ⟨_,rfl,rfl⟩
 refine⟨trivial,?_⟩
 refine O E (Y ?_)
 refine A4 (α:=List UInt32×Value) (fun x=>JU n x.1=some r) (fun x=>[(4,x.2)]) (fun x=>AH 29 1 x.2 B0 x.1::H) ?_ (fun x D h=>?_)
 refine Z (O E (Y (AM ?_)))
 refine SX.heap (SX.mono (A5 (α:=Nat×List UInt32×Value×Int) (fun x=>Lg n T y1 x.1 (x.2.1,x.2.2.2)=some r) (fun x=>[(3,vS y1),(4,x.2.2.1),(5,vI x.2.2.2)]) (fun x=>AH 29 1 x.2.2.1 B0 x.2.1::H) (fun x=>x.1) (fun x D h=>?_) (n,y2,v1,0) h) tL) (BB [0] 1 E E E)
 obtain⟨m1,l2,v3,a1⟩:=x
 dsimp only at h
 rcases m1 with _ | m1
 cases (show(none:Option _)=some r from h)
 replace h:IL n T y1 (Lg n T y1 m1) l2 a1=some r:=h
 unfold IL at h
 try dsimp only
 refine AE (Z (J E (J E (BS E Bj E (V E Aw (Y ?_))))))
 refine AT h E (fun hc1 h=>?_) fun hc1 h=>?_
 refine AI (AG (AE (AM (AK ?_))))
 refine AC h fun s1 hs1 h=>?_
 refine AC h fun y3 hy3 h=>?_
 refine J E (J E (J E (J E (V E Ay (Id hs1 E Bj E E E ?_)))))
 refine Bm (vs:=[_,_]) (Hin:=[_]) (Hr:=_) E E ⟨E,E,zT⟩ qA E E (Cb (B:=[_]) (Hin:=[]) fun K' w1 hk hB=>Zf hy3 (hT.keeps hk) (CC (e:=29) zV (hB _ zS))) ?_
 rintro v4 _ ⟨_,rfl,_,rfl,rfl⟩
 refine⟨trivial,?_⟩
 refine O E (AU (An (AG (AK ?_))))
 obtain⟨i_1,ei_1,h⟩:=Bn h
 refine J E (V E Ay ?_)
 refine Am (u:=vI i_1) E E (by rw[ei_1]) ?_
 refine AU ?_
 exact Ai (m1,y3,v4,i_1) h (Nat.lt_succ_self _) tL (BB [1] 2 E E E)
 refine Ax (A3 (BL (Az ?_)))
 exact Av (l2,v3) h tL (BB [0] 1 E E E)
 obtain⟨l1,v2⟩:=x
 dsimp only at h
 unfold JU at h
 try dsimp only
 refine Z (Bi 5 1 GQ (O E (Y ?_)))
 refine A4 (α:=List UInt8×Value) (fun x=>Lh x.1=some r) (fun x=>[(6,x.2)]) (fun x=>AH 5 1 x.2 GQ x.1::H) ?_ (fun x D h=>?_)
 refine Z (O E (Y (AM ?_)))
 refine SX.heap (SX.mono (A5 (α:=Nat×List UInt8×Value×Int) (fun x=>Lw l1 x.1 (x.2.1,x.2.2.2)=some r) (fun x=>[(4,v2),(6,x.2.2.1),(7,vI x.2.2.2)]) (fun x=>AH 29 1 v2 B0 l1::AH 5 1 x.2.2.1 GQ x.2.1::H) (fun x=>x.1) (fun x D h=>?_) (n,[],zN,0) h) tL) (BB [1,0] 2 E E E)
 obtain⟨m2,l4,v6,a2⟩:=x
 dsimp only at h
 rcases m2 with _ | m2
 cases (show(none:Option _)=some r from h)
 replace h:H9 l1 (Lw l1 m2) l4 a2=some r:=h
 unfold H9 at h
 try dsimp only
 refine AE (Z (J E (V E Aw (Y ?_))))
 refine AT h E (fun hc2 h=>?_) fun hc2 h=>?_
 refine AI (AG (AE (AM ?_)))
 refine AC h fun x1 hx1 h=>?_
 refine AC h fun x2 hx2 h=>?_
 refine AC h fun x3 hx3 h=>?_
 refine AC h fun x4 hx4 h=>?_
 refine AC h fun l5 hl5 h=>?_
 refine Ak Ca [0] (Bo [(true,0),(true,1),(true,2),(true,3),(true,4),(true,5),(true,6),(true,7),(true,8),(true,9),(true,10),(true,11),(true,12),(true,13),(true,14),(true,15),(true,16),(true,17),(true,18),(true,19),(true,20),(true,21),(true,22),(true,23),(false,24)] (.last 25 (Pl.of [(false,26)]))) zK (J E (J E (J E ?_)))
 refine BV 0 hx1 E CU Bk E E E fun g1 m3 cp1 hv1=>?_
 refine Bh E A6 E (Bw (sz:=1) (enc:=B0) 0 0 zV E hv1 hx1 E) ?_
 refine V E (E0.shr32 (n:=24)) ?_
 refine Au E E (Cs Bv Cl) (J E (J E ?_))
 refine BV 0 hx2 E CU Bk E E E fun g2 m4 cp2 hv2=>?_
 refine Bh E A6 E (Bw (sz:=1) (enc:=B0) 0 0 zV E hv2 hx2 E) ?_
 refine V E (E0.shr32 (n:=16)) ?_
 refine Au E E (Cs Bv Cl) (J E (J E ?_))
 refine BV 0 hx3 E CU Bk E E E fun g3 m5 cp3 hv3=>?_
 refine Bh E A6 E (Bw (sz:=1) (enc:=B0) 0 0 zV E hv3 hx3 E) ?_
 refine V E (E0.shr32 (n:=8)) ?_
 refine Au E E (Cs Bv Cl) (J E (J E ?_))
 refine BV 0 hx4 E CU Bk E E E fun g4 m6 cp4 hv4=>?_
 refine Bh E A6 E (Bw (sz:=1) (enc:=B0) 0 0 zV E hv4 hx4 E) ?_
 refine Au E E (Cs Bv Cl) ?_
 refine Bz [_,_,_,_] E CM KH LA ⟨E,E,E,E,zT⟩ E E E zX E E (fun _=>⟨⟨1,E⟩,zT⟩) fun b1=>?_
 refine B4 GQ 1 ([(shr32 x1 24).toUInt8,(shr32 x2 16).toUInt8,(shr32 x3 8).toUInt8,x4.toUInt8]:List UInt8) E zV E ?_
 refine BN ?_
 refine CW 2 hl5 (sz:=1) (enc:=GQ) zV E CM KH Vs LA E zD E E E E (By (sz:=1) (enc:=GQ) 0 zV E) (by simp[GQ,Value.oneCell']) zU fun v7=>?_
 refine O E (AU (An (AG (AK ?_))))
 obtain⟨i_2,ei_2,h⟩:=Bn h
 refine J E (V E Ay ?_)
 refine Am (u:=vI i_2) E E (by rw[ei_2]) ?_
 refine AU ?_
 exact Ai (m2,l5,v7,i_2) h (Nat.lt_succ_self _) tL (BB [1,2] 3 E E E)
 refine Ax (A3 (BL (Az ?_)))
 exact Av (l4,v6) h tL (BB [1] 2 E E E)
 obtain⟨l3,v5⟩:=x
 dsimp only at h
 unfold Lh at h
 try dsimp only
 refine Z (J E (Hq 0 E CM Cl Bj E E (O E (Y (AL ?_)))))
 obtain rfl:=zI h
 exact Ad [] 1 E E E
def G3(p1:UInt8)(l2:List UInt8)(a2:Int)(nx_f_ref03_part_l1:List UInt8×Int→Option (List UInt8))(a3:UInt8):Option (List UInt8):=
 (Cp 1 l2 [a3 ^^^ p1]).bind fun l3=>
 ret (wI (a2+1)) fun i_1=>
 nx_f_ref03_part_l1 (l3,i_1)
def K4(l1:List UInt8):Option (List UInt8):=
 some l1
def HH(p1:UInt8)(a1:List UInt8)(nx_f_ref03_part_l1:List UInt8×Int→Option (List UInt8))(l2:List UInt8)(a2:Int):Option (List UInt8):=
 cond (decide (a2<64))
 (
  cond (decide (a2<(a1.length:Int)))
  (
   (Ao a1 a2).bind fun c1=>
   G3 p1 l2 a2 nx_f_ref03_part_l1 c1)
  (
   G3 p1 l2 a2 nx_f_ref03_part_l1 0))
 (
  K4 l2)
def In(p1:UInt8)(a1:List UInt8):Nat→(List UInt8×Int)→Option (List UInt8):=Bu fun nx x=>HH p1 a1 nx x.1 x.2
def Gw(n:Nat)(p1:UInt8)(a1:List UInt8):Option (List UInt8):=
 In p1 a1 n ([],0)
def Jm(n:Nat)(T:List UInt32)(p0:List UInt8)(p1:UInt8):Option (List UInt8):=
 cond (decide (64<(p0.length:Int)))
 (
  (JL n T p0).bind fun y1=>
  Gw n p1 y1)
 (
  Gw n p1 p0)
theorem Tn{n:Nat}{T:List UInt32}{p0 r:List UInt8}{p1:UInt8}(h:Jm n T p0 p1=some r)(hT:KM K w0 2 64 T):zC K w0 200 [vS p0,Dn p1] [] H (fun u M=>u=vS r∧M=[]):=by
 unfold Jm at h
 refine UJ.enter Tryz.func200 rfl rfl ?_
 refine Z (O E (Y ?_))
 refine A4 (α:=List UInt8) (fun x=>Gw n p1 x=some r) (fun x=>[(0,vS x),(1,Dn p1)]) (fun x=>H) ?_ (fun a1 D h=>?_)
 refine Z (J E (BS E Bj E (V E CY (Y ?_))))
 refine AT h E (fun hc1 h=>?_) fun hc1 h=>?_
 refine AK ?_
 refine AC h fun y1 hy1 h=>?_
 refine J E (AQ 0 dC (RJ hy1 hT) E (O E (AU ?_)))
 exact Av y1 h tL (BB [] 0 E E E)
 refine AI ?_
 exact Av p0 h tL (BB [] 0 E E E)
 unfold Gw at h
 try dsimp only
 refine Z (Bi 5 1 GQ (O E (Y ?_)))
 refine A4 (α:=List UInt8×Value) (fun x=>K4 x.1=some r) (fun x=>[(5,x.2)]) (fun x=>AH 5 1 x.2 GQ x.1::H) ?_ (fun x D h=>?_)
 refine Z (O E (Y (AM ?_)))
 refine SX.heap (SX.mono (A5 (α:=Nat×List UInt8×Value×Int) (fun x=>In p1 a1 x.1 (x.2.1,x.2.2.2)=some r) (fun x=>[(0,vS a1),(1,Dn p1),(5,x.2.2.1),(6,vI x.2.2.2)]) (fun x=>AH 5 1 x.2.2.1 GQ x.2.1::H) (fun x=>x.1) (fun x D h=>?_) (n,[],zN,0) h) tL) (BB [0] 1 E E E)
 obtain⟨m1,l2,v2,a2⟩:=x
 dsimp only at h
 rcases m1 with _ | m1
 cases (show(none:Option _)=some r from h)
 replace h:HH p1 a1 (In p1 a1 m1) l2 a2=some r:=h
 unfold HH at h
 try dsimp only
 refine AE (Z (J E (V E Aw (Y ?_))))
 refine AT h E (fun hc2 h=>?_) fun hc2 h=>?_
 refine AI (AG (AE (AM (Z (O E (Y ?_))))))
 refine A4 (α:=UInt8) (fun x=>G3 p1 l2 a2 (In p1 a1 m1) x=some r) (fun x=>[(0,vS a1),(1,Dn p1),(5,v2),(6,vI a2),(7,Dn x)]) (fun x=>AH 5 1 v2 GQ l2::H) ?_ (fun a3 D h=>?_)
 refine Z (J E (J E (BS E Bj E (V E Aw (Y ?_)))))
 refine AT h E (fun hc3 h=>?_) fun hc3 h=>?_
 refine AK ?_
 refine AC h fun c1 hc1 h=>?_
 refine J E (J E (Di hc1 E Bj E E (O E (AU ?_))))
 exact Av c1 h tL (BB [0] 1 E E E)
 refine AI ?_
 exact Av 0 h tL (BB [0] 1 E E E)
 unfold G3 at h
 try dsimp only
 refine AK ?_
 refine AC h fun l3 hl3 h=>?_
 refine J E (J E (J E (V E QJ ?_)))
 refine Bz [_] E CM KH LA ⟨E,zT⟩ E E E zX E E zU fun b1=>?_
 refine B4 GQ 1 ([a3 ^^^ p1]:List UInt8) E zV E ?_
 refine CW 1 hl3 (sz:=1) (enc:=GQ) zV E CM KH Vs LA E zD E E E E (By (sz:=1) (enc:=GQ) 0 zV E) (by simp[GQ,Value.oneCell']) zU fun v3=>?_
 refine O E (AU (An (AG (AK ?_))))
 obtain⟨i_1,ei_1,h⟩:=Bn h
 refine J E (V E Ay ?_)
 refine Am (u:=vI i_1) E E (by rw[ei_1]) ?_
 refine AU ?_
 exact Ai (m1,l3,v3,i_1) h (Nat.lt_succ_self _) tL (BB [1] 2 E E E)
 refine Ax (A3 (BL (Az ?_)))
 exact Av (l2,v2) h tL (BB [0] 1 E E E)
 obtain⟨l1,v1⟩:=x
 dsimp only at h
 unfold K4 at h
 try dsimp only
 refine Z (J E (Hq 0 E CM Cl Bj E E (O E (Y (AL ?_)))))
 obtain rfl:=zI h
 exact Ad [] 1 E E E
def Mu(n:Nat)(T:List UInt32)(p0:List UInt8)(p1:List UInt8):Option (List (List UInt8)):=
 (Jm n T p0 54).bind fun y1=>
 (FR y1 p1).bind fun s1=>
 (Jm n T p0 92).bind fun y2=>
 (JL n T s1).bind fun y3=>
 (FR y2 y3).bind fun s2=>
 some [s1,s2]
theorem ZP{n:Nat}{T:List UInt32}{p0 p1:List UInt8}{r:List (List UInt8)}(h:Mu n T p0 p1=some r)(hT:KM K w0 2 64 T):zC K w0 160 [vS p0,vS p1] [] H (fun u M=>∃v0:Value,u=v0∧M=[AH 9 1 v0 eS r]):=by
 unfold Mu at h
 refine UJ.enter Tryz.func160 rfl rfl ?_
 refine Z (Bi 9 1 eS (O E (Y (Z ?_))))
 refine AC h fun y1 hy1 h=>?_
 refine AC h fun s1 hs1 h=>?_
 refine J E (AQ 0 jr (Tn hy1 hT) E (J E (V E (CV hs1) (O E (Y (Z ?_))))))
 refine AC h fun y2 hy2 h=>?_
 refine AC h fun y3 hy3 h=>?_
 refine AC h fun s2 hs2 h=>?_
 refine J E (J E (AQ 0 jr (Tn hy2 hT) E (J E (AQ 0 dC (RJ hy3 hT) E (V E (CV hs2) ?_)))))
 refine Bz [_,_] E FY Ix TN ⟨E,E,zT⟩ E E E zX E E zU fun b1=>?_
 refine B4 eS 1 ([s1,s2]:List (List UInt8)) E zV E ?_
 refine O E (Y (AL ?_))
 obtain rfl:=zI h
 exact DM [0] 2 (De E E) E E ⟨(.slice (some ⟨b1,0,none⟩) 2 2),E,E⟩
def IN(n:Nat)(T:List UInt32)(p0:List UInt8)(p1:List UInt8):Option (List UInt8):=
 (Mu n T p0 p1).bind fun y1=>
 (Ao y1 1).bind fun x1=>
 (JL n T x1).bind fun y2=>
 some y2
theorem Q6{n:Nat}{T:List UInt32}{p0 p1 r:List UInt8}(h:IN n T p0 p1=some r)(hT:KM K w0 2 64 T):zC K w0 117 [vS p0,vS p1] [] H (fun u M=>u=vS r∧M=[]):=by
 unfold IN at h
 refine UJ.enter Tryz.func117 rfl rfl ?_
 refine Z (O E (Y (Z ?_)))
 refine AC h fun y1 hy1 h=>?_
 refine AC h fun x1 hx1 h=>?_
 refine AC h fun y2 hy2 h=>?_
 refine J E (J E ?_)
 refine Bm (vs:=[_,_]) (Hin:=[]) (Hr:=_) E E ⟨E,E,zT⟩ pE E E (ZP hy1 hT) ?_
 rintro v1 _ ⟨_,rfl,rfl⟩
 refine⟨trivial,?_⟩
 refine BV 0 hx1 E FY Ix E E E fun g1 m1 cp1 hv1=>?_
 refine Bh E FX E (Bw (sz:=1) (enc:=eS) 0 0 zV E hv1 hx1 E) ?_
 refine AQ 0 dC (RJ hy2 hT) E (O E (Y (AL ?_)))
 obtain rfl:=zI h
 exact Ad [] 1 E E E
def JF(p2:Int)(a1:List UInt8):Option (List UInt8×Int):=
 (Cz a1 0 p2).bind fun s4=>
 some (s4,0)
def GB(n:Nat)(T:List UInt32)(p0:List UInt8)(p1:List UInt8)(p2:Int)(nx_f_ref03_Expand_l1:List UInt8×List UInt8×Int→Option (List UInt8×Int))(a2:List UInt8)(a3:List UInt8)(a4:Int):Option (List UInt8×Int):=
 cond (decide ((a2.length:Int)<p2))
 (
  (FR a3 p1).bind fun s1=>
  (FR s1 [HL a4]).bind fun s2=>
  (IN n T p0 s2).bind fun y1=>
  (FR a2 y1).bind fun s3=>
  ret (wI (a4+1)) fun i_1=>
  nx_f_ref03_Expand_l1 (s3,y1,i_1))
 (
  JF p2 a2)
def JE(n:Nat)(T:List UInt32)(p0:List UInt8)(p1:List UInt8)(p2:Int):Nat→(List UInt8×List UInt8×Int)→Option (List UInt8×Int):=Bu fun nx x=>GB n T p0 p1 p2 nx x.1 x.2.1 x.2.2
def Hp(n:Nat)(T:List UInt32)(p0:List UInt8)(p1:List UInt8)(p2:Int):Option (List UInt8×Int):=
 cond ((decide (p2<0))||(decide (8160<p2)))
 (
  some ([],2))
 (
  JE n T p0 p1 p2 n ([],[],1))
theorem RS{n:Nat}{T:List UInt32}{p0 p1:List UInt8}{p2:Int}{r:List UInt8×Int}(h:Hp n T p0 p1 p2=some r)(hT:KM K w0 2 64 T):zC K w0 158 [vS p0,vS p1,vI p2] [] H (fun u M=>u=.tuple #[vS r.1,vI r.2]∧M=[]):=by
 unfold Hp at h
 refine UJ.enter Tryz.func158 rfl rfl ?_
 refine Z (O E (O E (Y (AE (Z (J E (V E Aw (J E ?_))))))))
 refine DL (c:=decide (8160<p2)) 13 3 16 E (fun hb k=>?_) (fun hb k=>?_) ?_
 refine AB E (AB E (Ae E E E ?_))
 exact k.mono tL
 refine J E (V E CY (Ae E E E ?_))
 exact k.mono tL
 refine Y ?_
 refine AT h E (fun hc1 h=>?_) fun hc1 h=>?_
 refine Z (O E (O E (Y (AL (Aa ?_)))))
 obtain rfl:=zI h
 exact Ad [] 0 E E E
 refine AI (AG (Z (O E (Y (Z (O E (Y ?_)))))))
 refine A4 (α:=List UInt8) (fun x=>JF p2 x=some r) (fun x=>[(2,vI p2),(8,vS x)]) (fun x=>H) ?_ (fun a1 D h=>?_)
 refine Z (O E (Y (AM ?_)))
 refine SX.heap (SX.mono (A5 (α:=Nat×List UInt8×List UInt8×Int) (fun x=>JE n T p0 p1 p2 x.1 (x.2.1,x.2.2.1,x.2.2.2)=some r) (fun x=>[(0,vS p0),(1,vS p1),(2,vI p2),(8,vS x.2.1),(9,vS x.2.2.1),(10,vI x.2.2.2)]) (fun x=>H) (fun x=>x.1) (fun x D h=>?_) (n,[],[],1) h) tL) (BB [] 0 E E E)
 obtain⟨m1,a2,a3,a4⟩:=x
 dsimp only at h
 rcases m1 with _ | m1
 cases (show(none:Option _)=some r from h)
 replace h:GB n T p0 p1 p2 (JE n T p0 p1 p2 m1) a2 a3 a4=some r:=h
 unfold GB at h
 try dsimp only
 refine AE (Z (J E (BS E Bj E (J E (V E Aw (Y ?_))))))
 refine AT h E (fun hc2 h=>?_) fun hc2 h=>?_
 refine AI (AG (AE (AM (Z ?_))))
 refine AC h fun s1 hs1 h=>?_
 refine AC h fun s2 hs2 h=>?_
 refine AC h fun y1 hy1 h=>?_
 refine J E (J E (J E (V E (CV hs1) (J E (Au E E (Qt FW Cl) ?_)))))
 refine Bz [_] E CM KH LA ⟨E,zT⟩ E E E zX E E zU fun b1=>?_
 refine B4 GQ 1 ([HL a4]:List UInt8) E zV E ?_
 refine Hq 0 E CM Cl Bj E E (V E (CV hs2) (AQ 0 bu (Q6 hy1 hT) E (O E (Y (AK ?_)))))
 refine AC h fun s3 hs3 h=>?_
 refine J E (J E (V E (CV hs3) (O E (AU (An (AG (AK ?_)))))))
 obtain⟨i_1,ei_1,h⟩:=Bn h
 refine J E (V E Ay ?_)
 refine Am (u:=vI i_1) E E (by rw[ei_1]) ?_
 refine AU ?_
 exact Ai (m1,s3,y1,i_1) h (Nat.lt_succ_self _) tL (BB [] 1 E E E)
 refine Ax (A3 (BL (Az ?_)))
 exact Av a2 h tL (BB [] 0 E E E)
 unfold JF at h
 try dsimp only
 refine Z ?_
 refine AC h fun s4 hs4 h=>?_
 refine J E (J E (PK hs4 E Bj E E (O E (O E (Y (AL ?_))))))
 obtain rfl:=zI h
 exact Ad [] 0 E E E
end

section
variable {K:Nat→Prop}{w0:World}{H:List AV}
def IR(n:Nat)(T:List UInt32)(p0:BT):Option (List UInt8×List UInt8×Int):=
 (HI n [p0]).bind fun y1=>
 cond (!y1)
 (
  some ([],[],40))
 (
  (FR [115,101,97,108] [p0.gen.toUInt8,(shr32 p0.gen 8).toUInt8,(shr32 p0.gen 16).toUInt8,(shr32 p0.gen 24).toUInt8]).bind fun s1=>
  (Hp n T p0.secret s1 32).bind fun y2=>
  (FR [98,105,110,100] [p0.gen.toUInt8,(shr32 p0.gen 8).toUInt8,(shr32 p0.gen 16).toUInt8,(shr32 p0.gen 24).toUInt8]).bind fun s2=>
  (Hp n T p0.secret s2 32).bind fun y3=>
  some (y2.1,y3.1,0))
theorem Px{n:Nat}{T:List UInt32}{p0:BT}{r:List UInt8×List UInt8×Int}(h:IR n T p0=some r)(hT:KM K w0 2 64 T):zC K w0 116 [.agg (A7 p0).toArray] [] H (fun u M=>u=.tuple #[vS r.1,vS r.2.1,vI r.2.2]∧M=[]):=by
 unfold IR at h
 refine UJ.enter Tryz.func116 rfl rfl ?_
 refine Z ?_
 refine Bd E E zU fun b1=>?_
 refine O E (O E (O E (Y (Z ?_))))
 refine AC h fun y1 hy1 h=>?_
 refine Ab [AA p0.gen,vS p0.secret] E Ju E E (AZ 0 E) ?_
 refine Bz [_] E K7 Fb JA ⟨E,zT⟩ E E E zX E E zU fun b2=>?_
 refine B4 A7 2 ([p0]:List BT) E zV E ?_
 refine Bm (vs:=[_]) (Hin:=[_]) (Hr:=_::_) E E ⟨E,zT⟩ dD E E (Cb (B:=[_]) (Hin:=[]) fun K' w1 hk hB=>O2 hy1 (CC (e:=138) zV (hB _ zS))) ?_
 rintro _ _ ⟨_,rfl,rfl,rfl⟩
 refine⟨trivial,?_⟩
 refine O E (Y (AE (Z (J E (CN E E (Y ?_))))))
 refine AT h E (fun hc1 h=>?_) fun hc1 h=>?_
 refine Z (O E (O E (O E (Y (AL (Aa ?_))))))
 obtain rfl:=zI h
 exact Ad [] 2 E E E
 refine AI (AG (Z (AD E Ga (AF 1 A6 E (Au E E (Cs Bv Cl) (AD E Ga (AF 1 A6 E ?_)))))))
 refine V E (E0.shr32 (n:=8)) ?_
 refine Au E E (Cs Bv Cl) (AD E Ga (AF 1 A6 E ?_))
 refine V E (E0.shr32 (n:=16)) ?_
 refine Au E E (Cs Bv Cl) (AD E Ga (AF 1 A6 E ?_))
 refine V E (E0.shr32 (n:=24)) ?_
 refine Au E E (Cs Bv Cl) ?_
 refine Bz [_,_,_,_] E CM KH LA ⟨E,E,E,E,zT⟩ E E E zX E E zU fun b3=>?_
 refine B4 GQ 1 ([p0.gen.toUInt8,(shr32 p0.gen 8).toUInt8,(shr32 p0.gen 16).toUInt8,(shr32 p0.gen 24).toUInt8]:List UInt8) E zV E ?_
 refine Hq 0 E CM Cl Bj E E (O E (Y (Z ?_)))
 refine AC h fun s1 hs1 h=>?_
 refine AC h fun y2 hy2 h=>?_
 refine AD E QW (AF 2 FX E (J E (V E (CV hs1) (AQ 0 j8 (RS hy2 hT) E (J E (Al E E E (Al E E E ?_)))))))
 refine O E (O E (Y (Z ?_)))
 refine AC h fun s2 hs2 h=>?_
 refine AC h fun y3 hy3 h=>?_
 refine AD E QW (AF 2 FX E (J E (V E (CV hs2) (AQ 0 j8 (RS hy3 hT) E (J E (Al E E E (Al E E E ?_)))))))
 refine O E (O E (Y (Z (J E (J E (O E (O E (O E (Y (AL ?_))))))))))
 obtain rfl:=zI h
 exact Ad [] 3 E E E
def Lq(a1:List UInt8):Option (List UInt8×Int):=
 some (a1,0)
def Hx(nx_f_ref05_Pad_l1:List UInt8→Option (List UInt8×Int))(a2:List UInt8):Option (List UInt8×Int):=
 cond (decide ((a2.length:Int)<200))
 (
  (FR a2 [0]).bind fun s2=>
  nx_f_ref05_Pad_l1 s2)
 (
  Lq a2)
def Ls:Nat→List UInt8→Option (List UInt8×Int):=Bu fun nx x=>Hx  nx x
def Mh(n:Nat)(p0:List UInt8):Option (List UInt8×Int):=
 cond (decide (198<(p0.length:Int)))
 (
  some ([],50))
 (
  (Td (p0.length:Int) 256).bind fun q1=>
  (RX (p0.length:Int) 256).bind fun q2=>
  (FR [HL q1,HL q2] p0).bind fun s1=>
  Ls n s1)
theorem bT{n:Nat}{p0:List UInt8}{r:List UInt8×Int}(h:Mh n p0=some r): zC K w0 114 [vS p0] [] H (fun u M=>u=.tuple #[vS r.1,vI r.2]∧M=[]):=by
 unfold Mh at h
 refine UJ.enter Tryz.func114 rfl rfl ?_
 refine Z (O E (O E (Y (AE (Z (J E (BS E Bj E (V E CY (Y ?_)))))))))
 refine AT h E (fun hc1 h=>?_) fun hc1 h=>?_
 refine Z (O E (O E (Y (AL (Aa ?_)))))
 obtain rfl:=zI h
 exact Ad [] 0 E E E
 refine AI (AG (Z ?_))
 refine AC h fun q1 hq1 h=>?_
 refine AC h fun q2 hq2 h=>?_
 refine AC h fun s1 hs1 h=>?_
 refine J E (BS E Bj E (V E (V6 hq1) (Au E E (Qt FW Cl) (J E (BS E Bj E (V E (QI hq2) (Au E E (Qt FW Cl) ?_)))))))
 refine Bz [_,_] E CM KH LA ⟨E,E,zT⟩ E E E zX E E zU fun b1=>?_
 refine B4 GQ 1 ([HL q1,HL q2]:List UInt8) E zV E ?_
 refine Hq 0 E CM Cl Bj E E (J E (V E (CV hs1) (O E (Y ?_))))
 refine A4 (α:=List UInt8) (fun x=>Lq x=some r) (fun x=>[(4,vS x)]) (fun x=>H) ?_ (fun a1 D h=>?_)
 refine AM ?_
 refine SX.heap (SX.mono (A5 (α:=Nat×List UInt8) (fun x=>Ls x.1 x.2=some r) (fun x=>[(4,vS x.2)]) (fun x=>H) (fun x=>x.1) (fun x D h=>?_) (n,s1) h) tL) (BB [] 1 E E E)
 obtain⟨m1,a2⟩:=x
 dsimp only at h
 rcases m1 with _ | m1
 cases (show(none:Option _)=some r from h)
 replace h:Hx (Ls m1) a2=some r:=h
 unfold Hx at h
 try dsimp only
 refine AE (Z (J E (BS E Bj E (V E Aw (Y ?_)))))
 refine AT h E (fun hc2 h=>?_) fun hc2 h=>?_
 refine AI (AG (AM (AK ?_)))
 refine AC h fun s2 hs2 h=>?_
 refine J E (V E (CV hs2) (O E (AU (An ?_))))
 exact Ai (m1,s2) h (Nat.lt_succ_self _) tL (BB [] 0 E E E)
 refine Ax (A3 (BL (Az ?_)))
 exact Av a2 h tL (BB [] 0 E E E)
 unfold Lq at h
 try dsimp only
 refine Z (J E (O E (O E (Y (AL ?_)))))
 obtain rfl:=zI h
 exact Ad [] 0 E E E
def KF(p0:List UInt8)(x1:Int):Option (List UInt8×Int):=
 (Cz p0 2 (wI (2+x1))).bind fun s1=>
 some (s1,0)
def Gb(p0:List UInt8)(x1:Int)(nx_f_ref05_Unpad_l1:Int→Option (List UInt8×Int))(a1:Int):Option (List UInt8×Int):=
 cond (decide (a1<(p0.length:Int)))
 (
  (Ao p0 a1).bind fun c3=>
  cond (!decide (c3=0))
  (
   some ([],50))
  (
   ret (wI (a1+1)) fun i_2=>
   nx_f_ref05_Unpad_l1 i_2))
 (
  KF p0 x1)
def KB(p0:List UInt8)(x1:Int):Nat→Int→Option (List UInt8×Int):=Bu fun nx x=>Gb p0 x1 nx x
def KP(n:Nat)(p0:List UInt8):Option (List UInt8×Int):=
 cond (!decide ((p0.length:Int)=200))
 (
  some ([],50))
 (
  (Ao p0 0).bind fun c1=>
  (Ao p0 1).bind fun c2=>
  ret (wI ((wI (256*(c1.toNat:Int)))+(c2.toNat:Int))) fun x1=>
  cond (decide (198<x1))
  (
   some ([],50))
  (
   ret (wI (2+x1)) fun i_1=>
   KB p0 x1 n i_1))
theorem XX{n:Nat}{p0:List UInt8}{r:List UInt8×Int}(h:KP n p0=some r): zC K w0 224 [vS p0] [] H (fun u M=>u=.tuple #[vS r.1,vI r.2]∧M=[]):=by
 unfold KP at h
 refine UJ.enter Tryz.func224 rfl rfl ?_
 refine Z (O E (O E (Y (AE (Z (J E (BS E Bj E (V E Bg (Y ?_)))))))))
 refine AT h E (fun hc1 h=>?_) fun hc1 h=>?_
 refine Z (O E (O E (Y (AL (Aa ?_)))))
 obtain rfl:=zI h
 exact Ad [] 0 E E E
 refine AI (AG (AE ?_))
 refine AC h fun c1 hc1 h=>?_
 refine AC h fun c2 hc2 h=>?_
 obtain⟨x1,ex1,h⟩:=Bn h
 refine Ak Ca [] (Pl.of [(true,0),(true,1),(true,2),(true,3),(true,4),(true,5),(true,6),(true,7),(true,8)]) zK (J E (Di hc1 E Bj E E (Au E E (Ma Cl FW) (V E Ir (J E (Di hc2 E Bj E E (Au E E (Ma Cl FW) ?_)))))))
 refine V E Ay ?_
 refine Am (u:=vI x1) E E (by rw[ex1]) ?_
 refine Y (AE (Z (J E (V E CY (Y ?_)))))
 refine AT h E (fun hc2 h=>?_) fun hc2 h=>?_
 refine Z (O E (O E (Y (AL (Aa ?_)))))
 obtain rfl:=zI h
 exact Ad [] 0 E E E
 refine AI (AG ?_)
 refine A4 (α:=Unit) (fun x=>KF p0 x1=some r) (fun x=>[(0,vS p0),(4,vI x1)]) (fun x=>H) ?_ (fun x D h=>?_)
 refine Z ?_
 obtain⟨i_1,ei_1,h⟩:=Bn h
 refine J E (V E Ay ?_)
 refine Am (u:=vI i_1) E E (by rw[ei_1]) ?_
 refine Y (AM ?_)
 refine SX.heap (SX.mono (A5 (α:=Nat×Int) (fun x=>KB p0 x1 x.1 x.2=some r) (fun x=>[(0,vS p0),(4,vI x1),(5,vI x.2)]) (fun x=>H) (fun x=>x.1) (fun x D h=>?_) (n,i_1) h) tL) (BB [] 0 E E E)
 obtain⟨m1,a1⟩:=x
 dsimp only at h
 rcases m1 with _ | m1
 cases (show(none:Option _)=some r from h)
 replace h:Gb p0 x1 (KB p0 x1 m1) a1=some r:=h
 unfold Gb at h
 try dsimp only
 refine AE (Z (J E (J E (BS E Bj E (V E Aw (Y ?_))))))
 refine AT h E (fun hc3 h=>?_) fun hc3 h=>?_
 refine AI (AG (AE (AM (Z ?_))))
 refine AC h fun c3 hc3 h=>?_
 refine J E (J E (Di hc3 E Bj E E ?_))
 refine V E (eC (b:=0)) ?_
 refine Y ?_
 refine AT h E (fun hc4 h=>?_) fun hc4 h=>?_
 refine Z (O E (O E (Y (AL (BX (Aa (Dj (BX (EO ?_)))))))))
 obtain rfl:=zI h
 exact Ad [] 0 E E E
 refine AI (An (AG (AK ?_)))
 obtain⟨i_2,ei_2,h⟩:=Bn h
 refine J E (V E Ay ?_)
 refine Am (u:=vI i_2) E E (by rw[ei_2]) ?_
 refine AU ?_
 exact Ai (m1,i_2) h (Nat.lt_succ_self _) tL (BB [] 0 E E E)
 refine Ax (A3 (BL (Az ?_)))
 exact Av () h tL (BB [] 0 E E E)
 unfold KF at h
 try dsimp only
 refine Z ?_
 refine AC h fun s1 hs1 h=>?_
 refine J E (J E (V E Ay (Id hs1 E Bj E E E (O E (O E (Y (AL ?_)))))))
 obtain rfl:=zI h
 exact Ad [] 0 E E E
def Lr(a1:List UInt8):Option (List UInt8):=
 some a1
def IE(p1:Int)(nx_f_ref06_put_l1:UInt64×List UInt8×Int→Option (List UInt8))(a2:UInt64)(a3:List UInt8)(a4:Int):Option (List UInt8):=
 cond (decide (a4<p1))
 (
  (FR a3 [a2.toUInt8]).bind fun s1=>
  (Pd a2 256).bind fun q1=>
  ret (wI (a4+1)) fun i_1=>
  nx_f_ref06_put_l1 (q1,s1,i_1))
 (
  Lr a3)
def Lc(p1:Int):Nat→(UInt64×List UInt8×Int)→Option (List UInt8):=Bu fun nx x=>IE p1 nx x.1 x.2.1 x.2.2
def Dk(n:Nat)(p0:UInt64)(p1:Int):Option (List UInt8):=
 Lc p1 n (p0,[],0)
theorem Kr{n:Nat}{p0:UInt64}{p1:Int}{r:List UInt8}(h:Dk n p0 p1=some r): zC K w0 196 [Ap p0,vI p1] [] H (fun u M=>u=vS r∧M=[]):=by
 unfold Dk at h
 refine UJ.enter Tryz.func196 rfl rfl ?_
 refine Z (O E (Y (Z (O E (Y ?_)))))
 refine A4 (α:=List UInt8) (fun x=>Lr x=some r) (fun x=>[(5,vS x)]) (fun x=>H) ?_ (fun a1 D h=>?_)
 refine Z (O E (Y (AM ?_)))
 refine SX.heap (SX.mono (A5 (α:=Nat×UInt64×List UInt8×Int) (fun x=>Lc p1 x.1 (x.2.1,x.2.2.1,x.2.2.2)=some r) (fun x=>[(0,Ap x.2.1),(1,vI p1),(5,vS x.2.2.1),(6,vI x.2.2.2)]) (fun x=>H) (fun x=>x.1) (fun x D h=>?_) (n,p0,[],0) h) tL) (BB [] 0 E E E)
 obtain⟨m1,a2,a3,a4⟩:=x
 dsimp only at h
 rcases m1 with _ | m1
 cases (show(none:Option _)=some r from h)
 replace h:IE p1 (Lc p1 m1) a2 a3 a4=some r:=h
 unfold IE at h
 try dsimp only
 refine AE (Z (J E (J E (V E Aw (Y ?_)))))
 refine AT h E (fun hc1 h=>?_) fun hc1 h=>?_
 refine AI (AG (AE (AM (Z ?_))))
 refine AC h fun s1 hs1 h=>?_
 refine J E (J E (Au E E (Gu CQ Cl) ?_))
 refine Bz [_] E CM KH LA ⟨E,zT⟩ E E E zX E E zU fun b1=>?_
 refine B4 GQ 1 ([a2.toUInt8]:List UInt8) E zV E ?_
 refine Hq 0 E CM Cl Bj E E (V E (CV hs1) (O E (Y (AK ?_))))
 refine AC h fun q1 hq1 h=>?_
 refine J E ?_
 refine V E (PR (b:=256) hq1) ?_
 refine O E (AU (An (AG (AK ?_))))
 obtain⟨i_1,ei_1,h⟩:=Bn h
 refine J E (V E Ay ?_)
 refine Am (u:=vI i_1) E E (by rw[ei_1]) ?_
 refine AU ?_
 exact Ai (m1,q1,s1,i_1) h (Nat.lt_succ_self _) tL (BB [] 1 E E E)
 refine Ax (A3 (BL (Az ?_)))
 exact Av a3 h tL (BB [] 0 E E E)
 unfold Lr at h
 try dsimp only
 refine Z (J E (O E (Y (AL ?_))))
 obtain rfl:=zI h
 exact Ad [] 0 E E E
def Lt(a1:UInt64):Option UInt64:=
 some a1
def H3(p0:List UInt8)(nx_f_ref06_get_l1:UInt64×Int→Option UInt64)(a2:UInt64)(a3:Int):Option UInt64:=
 cond (decide (0≤a3))
 (
  (Ao p0 a3).bind fun c1=>
  ret ((256*a2)+c1.toUInt64) fun x1=>
  ret (wI (a3-1)) fun i_2=>
  nx_f_ref06_get_l1 (x1,i_2))
 (
  Lt a2)
def Lb(p0:List UInt8):Nat→(UInt64×Int)→Option UInt64:=Bu fun nx x=>H3 p0 nx x.1 x.2
def Fz(n:Nat)(p0:List UInt8):Option UInt64:=
 ret (wI ((p0.length:Int)-1)) fun i_1=>
 Lb p0 n (0,i_1)
theorem ON{n:Nat}{p0:List UInt8}{r:UInt64}(h:Fz n p0=some r): zC K w0 223 [vS p0] [] H (fun u M=>u=Ap r∧M=[]):=by
 unfold Fz at h
 refine UJ.enter Tryz.func223 rfl rfl ?_
 refine Z (O E (Y (Z (O E (Y ?_)))))
 refine A4 (α:=UInt64) (fun x=>Lt x=some r) (fun x=>[(3,Ap x)]) (fun x=>H) ?_ (fun a1 D h=>?_)
 refine Z ?_
 obtain⟨i_1,ei_1,h⟩:=Bn h
 refine J E (BS E Bj E (V E B5 ?_))
 refine Am (u:=vI i_1) E E (by rw[ei_1]) ?_
 refine Y (AM ?_)
 refine SX.heap (SX.mono (A5 (α:=Nat×UInt64×Int) (fun x=>Lb p0 x.1 (x.2.1,x.2.2)=some r) (fun x=>[(0,vS p0),(3,Ap x.2.1),(4,vI x.2.2)]) (fun x=>H) (fun x=>x.1) (fun x D h=>?_) (n,0,i_1) h) tL) (BB [] 0 E E E)
 obtain⟨m1,a2,a3⟩:=x
 dsimp only at h
 rcases m1 with _ | m1
 cases (show(none:Option _)=some r from h)
 replace h:H3 p0 (Lb p0 m1) a2 a3=some r:=h
 unfold H3 at h
 try dsimp only
 refine AE (Z (J E (V E Iy (Y ?_))))
 refine AT h E (fun hc1 h=>?_) fun hc1 h=>?_
 refine AI (AG (AE (AM (AK ?_))))
 refine AC h fun c1 hc1 h=>?_
 obtain⟨x1,ex1,h⟩:=Bn h
 refine J E ?_
 refine V E (JS (a:=256)) ?_
 refine J E (J E (Di hc1 E Bj E E (Au E E (Sn Cl CQ) (V E IW ?_))))
 refine Am (u:=Ap x1) E E (by rw[ex1]) ?_
 refine AU (An (AG (AK ?_)))
 obtain⟨i_2,ei_2,h⟩:=Bn h
 refine J E (V E B5 ?_)
 refine Am (u:=vI i_2) E E (by rw[ei_2]) ?_
 refine AU ?_
 exact Ai (m1,x1,i_2) h (Nat.lt_succ_self _) tL (BB [] 0 E E E)
 refine Ax (A3 (BL (Az ?_)))
 exact Av a2 h tL (BB [] 0 E E E)
 unfold Lt at h
 try dsimp only
 refine Z (J E (O E (Y (AL ?_))))
 obtain rfl:=zI h
 exact Ad [] 0 E E E
def MZ(n:Nat)(p0:B7):Option (List UInt8):=
 (Dk n p0.page.toUInt64 4).bind fun y1=>
 (Dk n p0.gen.toUInt64 4).bind fun y2=>
 (FR y1 y2).bind fun s1=>
 (Dk n p0.boot.toUInt64 4).bind fun y3=>
 (FR s1 y3).bind fun s2=>
 (Dk n p0.seq 8).bind fun y4=>
 (FR s2 y4).bind fun s3=>
 (FR s3 [0,0,0,0]).bind fun s4=>
 some s4
theorem bc{n:Nat}{p0:B7}{r:List UInt8}(h:MZ n p0=some r): zC K w0 157 [.agg (Bq p0).toArray] [] H (fun u M=>u=vS r∧M=[]):=by
 unfold MZ at h
 refine UJ.enter Tryz.func157 rfl rfl ?_
 refine Z ?_
 refine Bd E E zU fun b1=>?_
 refine O E (Y (AE ?_))
 refine AC h fun y1 hy1 h=>?_
 refine AC h fun y2 hy2 h=>?_
 refine AC h fun s1 hs1 h=>?_
 refine AC h fun y3 hy3 h=>?_
 refine AC h fun s2 hs2 h=>?_
 refine AC h fun y4 hy4 h=>?_
 refine AC h fun s3 hs3 h=>?_
 refine AC h fun s4 hs4 h=>?_
 refine Ak Ca [0] (Bo [(true,0),(true,1),(true,2),(true,4),(true,5),(true,6),(true,9),(true,10),(true,11),(true,14),(true,15),(false,3),(false,7),(true,8),(false,12),(true,13),(false,16)] (.last 17 (Pl.of [(false,18),(false,19)]))) zK (AD E U7 (AF 0 A6 E (Au E E (Ci Bv CQ) (AD E Oo (AF 0 A6 E (Au E E (Ci Bv CQ) (AD E Uc ?_)))))))
 refine AF 0 A6 E (Au E E (Ci Bv CQ) (AD E VK (AF 0 M1 E (BO 0 Sp (Kr hy1) E ⟨⟨0,E⟩,zT⟩ (BO 0 Sp (Kr hy2) E ⟨⟨0,E⟩,zT⟩ (V E (CV hs1) (BO 0 Sp (Kr hy3) E ⟨⟨0,E⟩,zT⟩ ?_)))))))
 refine V E (CV hs2) (BO 0 Sp (Kr hy4) E ⟨⟨0,E⟩,zT⟩ (BN (V E (CV hs3) (V E (CV hs4) (O E (Y (AL ?_)))))))
 obtain rfl:=zI h
 exact Ad [] 1 E E E
def Kv(n:Nat)(p0:List UInt8):Option (B7×Bool):=
 (OF (!decide ((p0.length:Int)=24)) ((Cz p0 20 (p0.length:Int)).bind fun s1=>some (!decide (s1=[0,0,0,0])))).bind fun y1=>
 cond y1
 (
  some ((⟨0,0,0,0⟩:B7),false))
 (
  (Cz p0 0 4).bind fun s2=>
  (Fz n s2).bind fun y2=>
  (Cz p0 4 8).bind fun s3=>
  (Fz n s3).bind fun y3=>
  (Cz p0 8 12).bind fun s4=>
  (Fz n s4).bind fun y4=>
  (Cz p0 12 20).bind fun s5=>
  (Fz n s5).bind fun y5=>
  some ((⟨y2.toUInt32,y3.toUInt32,y4.toUInt32,y5⟩:B7),true))
theorem Uf{n:Nat}{p0:List UInt8}{r:B7×Bool}(h:Kv n p0=some r): zC K w0 208 [vS p0] [] H (fun u M=>u=.tuple #[.agg (Bq r.1).toArray,vB r.2]∧M=[]):=by
 unfold Kv at h
 refine UJ.enter Tryz.func208 rfl rfl ?_
 refine Z ?_
 refine Ag E FB zU fun b1=>?_
 refine O E (Y (AE (Z ?_)))
 refine AC h fun y1 hy1 h=>?_
 refine J E (BS E Bj E (V E Bg (J E ?_)))
 refine Lp 7 4 11 hy1 E (fun hb k=>?_) (fun hb hg1 k=>?_) ?_
 refine AB E (AB E (AB E (Ae E E E ?_)))
 exact k.mono tL
 obtain⟨s1,hs1,hg1⟩:=bnd hg1
 obtain rfl:=zI hg1
 refine J E (SJ hs1 E Bj E E (V E Ij (Ae E E E ?_)))
 exact k.mono tL
 refine Y ?_
 refine AT h E (fun hc1 h=>?_) fun hc1 h=>?_
 refine Z (BK [] E LD LE FB zT E (Aj 0 E E E E Ef E E E zT (O E (Y (AL (Aa ?_))))))
 obtain rfl:=zI h
 exact AX (DR E (BC 0 (Bq (⟨0,0,0,0⟩:B7)) C6 E E E E) E) (AY (M:=[]) ⟨E,E⟩ fun _ hw=>BZ.pick (H:=[_]) hw [] 1 E)
 refine AI (AG (AE ?_))
 refine AC h fun s2 hs2 h=>?_
 refine AC h fun y2 hy2 h=>?_
 refine AC h fun s3 hs3 h=>?_
 refine AC h fun y3 hy3 h=>?_
 refine AC h fun s4 hs4 h=>?_
 refine AC h fun y4 hy4 h=>?_
 refine AC h fun s5 hs5 h=>?_
 refine AC h fun y5 hy5 h=>?_
 refine Ak Ca [] (Bo [(true,0),(true,1),(true,4),(true,5),(true,8),(true,9),(true,12),(true,13),(false,2),(true,3),(false,6),(true,7),(false,10),(true,11),(false,14),(true,15)] (.last 16 (Pl.of [(false,17)]))) zK (J E (PK hs2 E Bj E E (J E (Id hs3 E Bj E E E (J E (Id hs4 E Bj E E E (J E ?_)))))))
 refine Id hs5 E Bj E E E (AQ 0 XC (ON hy2) E (Au E E (Ce CQ Bv) (AQ 0 XC (ON hy3) E (Au E E (Ce CQ Bv) (AQ 0 XC (ON hy4) E (Au E E (Ce CQ Bv) (AQ 0 XC (ON hy5) E ?_)))))))
 refine BK [_,_,_,_] E LD LE FB ⟨E,E,E,E,zT⟩ E (BN (Aj 0 E E E E Ef E E E zT (O E (Y (AL ?_)))))
 obtain rfl:=zI h
 exact AX (DR E (BC 0 (Bq (⟨y2.toUInt32,y3.toUInt32,y4.toUInt32,y5⟩:B7)) C6 E E E E) E) (AY (M:=[]) ⟨E,E⟩ fun _ hw=>BZ.pick (H:=[_]) hw [] 1 E)
def Ip(n:Nat)(p0:B7):Option (List UInt8):=
 (Dk n p0.boot.toUInt64 4).bind fun y1=>
 (Dk n p0.seq 8).bind fun y2=>
 (FR y1 y2).bind fun s1=>
 some s1
theorem Ro{n:Nat}{p0:B7}{r:List UInt8}(h:Ip n p0=some r): zC K w0 156 [.agg (Bq p0).toArray] [] H (fun u M=>u=vS r∧M=[]):=by
 unfold Ip at h
 refine UJ.enter Tryz.func156 rfl rfl ?_
 refine Z ?_
 refine Bd E E zU fun b1=>?_
 refine O E (Y (AE ?_))
 refine AC h fun y1 hy1 h=>?_
 refine AC h fun y2 hy2 h=>?_
 refine AC h fun s1 hs1 h=>?_
 refine Ak Ca [0] (Bo [(true,0),(true,1),(true,2),(true,4),(true,5),(false,3)] (.last 6 (Pl.of [(false,7),(false,8)]))) zK (AD E Uc (AF 0 A6 E (Au E E (Ci Bv CQ) (AD E VK (AF 0 M1 E (BO 0 Sp (Kr hy1) E ⟨⟨0,E⟩,zT⟩ (BN (AQ 0 Sp (Kr hy2) E ?_))))))))
 refine V E (CV hs1) (O E (Y (AL ?_)))
 obtain rfl:=zI h
 exact Ad [] 1 E E E
def KV(n:Nat)(T:List UInt32)(p0:BT)(p1:B7)(p2:List UInt8):Option (List UInt8):=
 (IR n T p0).bind fun y1=>
 (Ip n p1).bind fun y2=>
 (Kz n y1.1 y2 p2).bind fun y3=>
 (MZ n p1).bind fun y4=>
 (FR y4 y3.1).bind fun s1=>
 some s1
theorem Yp{n:Nat}{T:List UInt32}{p0:BT}{p1:B7}{p2 r:List UInt8}(h:KV n T p0 p1 p2=some r)(hT:KM K w0 2 64 T):zC K w0 115 [.agg (A7 p0).toArray,.agg (Bq p1).toArray,vS p2] [] H (fun u M=>u=vS r∧M=[]):=by
 unfold KV at h
 refine UJ.enter Tryz.func115 rfl rfl ?_
 refine Z ?_
 refine Bd E E zU fun b1=>?_
 refine Bd E E zU fun b2=>?_
 refine O E (Y (Z ?_))
 refine AC h fun y1 hy1 h=>?_
 refine Ab [AA p0.gen,vS p0.secret] E Ju E E (AZ 1 E) (AQ 0 dU (Px hy1 hT) E (J E (Al E E E (Al E E E (Al E E E (O E (O E ?_)))))))
 refine O E (Y (Z ?_))
 refine AC h fun y2 hy2 h=>?_
 refine AC h fun y3 hy3 h=>?_
 refine J E (Ab [AA p1.page,AA p1.gen,AA p1.boot,Ap p1.seq] E C6 E E (AZ 0 E) (AQ 0 i8 (Ro hy2) E (J E (AQ 0 i7 (Ux hy3) E (J E (Al E E E (Al E E E ?_)))))))
 refine O E (O E (Y (Z ?_)))
 refine AC h fun y4 hy4 h=>?_
 refine AC h fun s1 hs1 h=>?_
 refine Ab [AA p1.page,AA p1.gen,AA p1.boot,Ap p1.seq] E C6 E E (AZ 0 E) (AQ 0 qm (bc hy4) E (J E (V E (CV hs1) (O E (Y (AL ?_))))))
 obtain rfl:=zI h
 exact Ad [] 2 E E E
def LX(n:Nat)(T:List UInt32)(p0:List BT)(p1:B7)(p2:List UInt8):Option (List UInt8×Int):=
 (IT n p0 p1.gen).bind fun y1=>
 cond (!decide (y1.2=0))
 (
  some ([],y1.2))
 (
  (Mh n p2).bind fun y2=>
  cond (!decide (y2.2=0))
  (
   some ([],y2.2))
  (
   (KV n T y1.1 p1 y2.1).bind fun y3=>
   (IR n T y1.1).bind fun y4=>
   (IN n T y4.2.1 y3).bind fun y5=>
   (FR y3 y5).bind fun s1=>
   some (s1,0)))
theorem ZZ{n:Nat}{T:List UInt32}{B3:Value}{p0:List BT}{p1:B7}{p2:List UInt8}{r:List UInt8×Int}(h:LX n T p0 p1 p2=some r)(hT:KM K w0 2 64 T)(hs0_:CJ K w0 A7 2 B3 p0):zC K w0 79 [B3,.agg (Bq p1).toArray,vS p2] [] H (fun u M=>u=.tuple #[vS r.1,vI r.2]∧M=[]):=by
 unfold LX at h
 refine UJ.enter Tryz.func79 rfl rfl ?_
 refine Z ?_
 refine Bd E E zU fun b1=>?_
 refine O E (O E (Y (Z ?_)))
 refine AC h fun y1 hy1 h=>?_
 refine J E (AD E Oo (AF 0 A6 E (AQ 0 ie (Pj hy1 hs0_) E (J E (Al E E E (Al E E E ?_))))))
 refine Ag E JA zU fun b2=>?_
 refine Aj 0 E E E E Fb E E E zT (O E (Y (AE (Z (J E (V E Bg (Y ?_)))))))
 refine AT h E (fun hc1 h=>?_) fun hc1 h=>?_
 refine Z (J E (O E (O E (Y (AL (Aa ?_))))))
 obtain rfl:=zI h
 exact Ad [] 2 E E E
 refine AI (AG (Z ?_))
 refine AC h fun y2 hy2 h=>?_
 refine J E (AQ 0 qE (bT hy2) E (J E (Al E E E (Al E E E (O E (O E (Y (AE (Z (J E ?_))))))))))
 refine V E Bg (Y ?_)
 refine AT h E (fun hc2 h=>?_) fun hc2 h=>?_
 refine Z (J E (O E (O E (Y (AL (Aa ?_))))))
 obtain rfl:=zI h
 exact Ad [] 2 E E E
 refine AI (AG (Z ?_))
 refine AC h fun y3 hy3 h=>?_
 refine Ab [AA y1.1.gen,vS y1.1.secret] E Ju E E (AZ 0 E) (Ab [AA p1.page,AA p1.gen,AA p1.boot,Ap p1.seq] E C6 E E (AZ 1 E) (J E (AQ 0 pG (Yp hy3 hT) E (O E (Y (Z ?_))))))
 refine AC h fun y4 hy4 h=>?_
 refine Ab [AA y1.1.gen,vS y1.1.secret] E Ju E E (AZ 0 E) (AQ 0 dU (Px hy4 hT) E (J E (Al E E E (Al E E E (Al E E E (O E (O E ?_)))))))
 refine O E (Y (Z ?_))
 refine AC h fun y5 hy5 h=>?_
 refine AC h fun s1 hs1 h=>?_
 refine J E (J E (J E (AQ 0 bu (Q6 hy5 hT) E (V E (CV hs1) (O E (O E (Y (AL ?_))))))))
 obtain rfl:=zI h
 exact Ad [] 2 E E E
def La(n:Nat)(T:List UInt32)(p0:List BT)(p1:List UInt8):Option (B7×List UInt8×Int):=
 (HI n p0).bind fun y1=>
 cond (!y1)
 (
  some ((⟨0,0,0,0⟩:B7),[],40))
 (
  cond (!decide ((p1.length:Int)=256))
  (
   some ((⟨0,0,0,0⟩:B7),[],61))
  (
   (Cz p1 0 24).bind fun s1=>
   (Kv n s1).bind fun y2=>
   cond (!y2.2)
   (
    some ((⟨0,0,0,0⟩:B7),[],61))
   (
    (IT n p0 y2.1.gen).bind fun y3=>
    cond (!decide (y3.2=0))
    (
     some ((⟨0,0,0,0⟩:B7),[],y3.2))
    (
     (IR n T y3.1).bind fun y4=>
     (Cz p1 0 224).bind fun s2=>
     (IN n T y4.2.1 s2).bind fun y5=>
     (Cz p1 224 (p1.length:Int)).bind fun s3=>
     cond (!decide (y5=s3))
     (
      some ((⟨0,0,0,0⟩:B7),[],61))
     (
      (Ip n y2.1).bind fun y6=>
      (Cz p1 24 224).bind fun s4=>
      (Kz n y4.1 y6 s4).bind fun y7=>
      (KP n y7.1).bind fun y8=>
      cond (!decide (y8.2=0))
      (
       some ((⟨0,0,0,0⟩:B7),[],61))
      (
       some (y2.1,y8.1,0)))))))
theorem ZY{n:Nat}{T:List UInt32}{B3:Value}{p0:List BT}{p1:List UInt8}{r:B7×List UInt8×Int}(h:La n T p0 p1=some r)(hT:KM K w0 2 64 T)(hs0_:CJ K w0 A7 2 B3 p0):zC K w0 209 [B3,vS p1] [] H (fun u M=>u=.tuple #[.agg (Bq r.1).toArray,vS r.2.1,vI r.2.2]∧M=[]):=by
 unfold La at h
 refine UJ.enter Tryz.func209 rfl rfl ?_
 refine Z ?_
 refine Ag E FB zU fun b1=>?_
 refine O E (O E (Y (Z ?_)))
 refine AC h fun y1 hy1 h=>?_
 refine J E (AQ 0 dD (O2 hy1 hs0_) E (O E (Y (AE (Z (J E (CN E E (Y ?_))))))))
 refine AT h E (fun hc1 h=>?_) fun hc1 h=>?_
 refine Z (BK [] E LD LE FB zT E (Aj 0 E E E E Ef E E E zT (O E (O E (Y (AL (Aa ?_)))))))
 obtain rfl:=zI h
 exact AX (Iw E (BC 0 (Bq (⟨0,0,0,0⟩:B7)) C6 E E E E) E E) (AY (M:=[]) ⟨E,E⟩ fun _ hw=>BZ.pick (H:=[_]) hw [] 1 E)
 refine AI (AG (AE (Z (J E (BS E Bj E (V E Bg (Y ?_)))))))
 refine AT h E (fun hc2 h=>?_) fun hc2 h=>?_
 refine Z (BK [] E LD LE FB zT E (Aj 0 E E E E Ef E E E zT (O E (O E (Y (AL (Aa ?_)))))))
 obtain rfl:=zI h
 exact AX (Iw E (BC 0 (Bq (⟨0,0,0,0⟩:B7)) C6 E E E E) E E) (AY (M:=[]) ⟨E,E⟩ fun _ hw=>BZ.pick (H:=[_]) hw [] 1 E)
 refine AI (AG (Z ?_))
 refine AC h fun s1 hs1 h=>?_
 refine AC h fun y2 hy2 h=>?_
 refine J E (PK hs1 E Bj E E (AQ 0 jW (Uf hy2) E (J E (Al E E E (Al E E E ?_)))))
 refine Ag E FB zU fun b2=>?_
 refine Aj 0 E E E E Ef E E E zT (O E (Y (AE (Z (J E (CN E E (Y ?_)))))))
 refine AT h E (fun hc3 h=>?_) fun hc3 h=>?_
 refine Z (BK [] E LD LE FB zT E (Aj 1 E E E E Ef E E E zT (O E (O E (Y (AL (Aa ?_)))))))
 obtain rfl:=zI h
 exact AX (Iw E (BC 1 (Bq (⟨0,0,0,0⟩:B7)) C6 E E E E) E E) (AY (M:=[]) ⟨E,E⟩ fun _ hw=>BZ.pick (H:=[_,_]) hw [] 2 E)
 refine AI (AG (Z ?_))
 refine AC h fun y3 hy3 h=>?_
 refine J E (AD E Oo (AF 0 A6 E (AQ 0 ie (Pj hy3 hs0_) E (J E (Al E E E (Al E E E ?_))))))
 refine Ag E JA zU fun b3=>?_
 refine Aj 0 E E E E Fb E E E zT (O E (Y (AE (Z (J E (V E Bg (Y ?_)))))))
 refine AT h E (fun hc4 h=>?_) fun hc4 h=>?_
 refine Z (BK [] E LD LE FB zT E (J E (Aj 2 E E E E Ef E E E zT (O E (O E (Y (AL (Aa ?_))))))))
 obtain rfl:=zI h
 exact AX (Iw E (BC 2 (Bq (⟨0,0,0,0⟩:B7)) C6 E E E E) E E) (AY (M:=[]) ⟨E,E⟩ fun _ hw=>BZ.pick (H:=[_,_,_]) hw [] 3 E)
 refine AI (AG (Z ?_))
 refine AC h fun y4 hy4 h=>?_
 refine Ab [AA y3.1.gen,vS y3.1.secret] E Ju E E (AZ 0 E) (AQ 0 dU (Px hy4 hT) E (J E (Al E E E (Al E E E (Al E E E (O E (O E ?_)))))))
 refine O E (Y (AE (AE ?_)))
 refine AC h fun s2 hs2 h=>?_
 refine AC h fun y5 hy5 h=>?_
 refine AC h fun s3 hs3 h=>?_
 refine Ak Ca [] (Bo [(true,0),(true,1),(true,2),(true,4),(true,5),(false,3)] (.last 6 .nil)) zK (J E (J E (PK hs2 E Bj E E (J E (SJ hs3 E Bj E E (AQ 0 bu (Q6 hy5 hT) E (BN (V E Ij (Y ?_)))))))))
 refine AT h E (fun hc5 h=>?_) fun hc5 h=>?_
 refine Z (BK [] E LD LE FB zT E (Aj 2 E E E E Ef E E E zT (O E (O E (Y (AL (Aa ?_)))))))
 obtain rfl:=zI h
 exact AX (Iw E (BC 2 (Bq (⟨0,0,0,0⟩:B7)) C6 E E E E) E E) (AY (M:=[]) ⟨E,E⟩ fun _ hw=>BZ.pick (H:=[_,_,_]) hw [] 3 E)
 refine AI (AG (AE ?_))
 refine AC h fun y6 hy6 h=>?_
 refine AC h fun s4 hs4 h=>?_
 refine AC h fun y7 hy7 h=>?_
 refine Ak Ca [1] (Bo [(true,0),(true,1),(true,3),(true,4),(false,2),(false,5),(false,6),(true,7),(true,8),(false,9)] (.last 10 .nil)) zK (J E (Ab [AA y2.1.page,AA y2.1.gen,AA y2.1.boot,Ap y2.1.seq] E C6 E E (AZ 0 E) (J E (Id hs4 E Bj E E E (BO 0 i8 (Ro hy6) E ⟨⟨1,E⟩,zT⟩ (BO 0 i7 (Ux hy7) E ⟨⟨1,E⟩,zT⟩ (J E ?_)))))))
 refine Al E E E (Al E E E (O E (BN (O E (Y (Z ?_))))))
 refine AC h fun y8 hy8 h=>?_
 refine J E (AQ 0 ov (XX hy8) E (J E (Al E E E (Al E E E (O E (O E (Y (AE (Z (J E ?_))))))))))
 refine V E Bg (Y ?_)
 refine AT h E (fun hc6 h=>?_) fun hc6 h=>?_
 refine Z (BK [] E LD LE FB zT E (Aj 2 E E E E Ef E E E zT (O E (O E (Y (AL (Aa ?_)))))))
 obtain rfl:=zI h
 exact AX (Iw E (BC 2 (Bq (⟨0,0,0,0⟩:B7)) C6 E E E E) E E) (AY (M:=[]) ⟨E,E⟩ fun _ hw=>BZ.pick (H:=[_,_,_]) hw [] 3 E)
 refine AI (AG (Z (Ab [AA y2.1.page,AA y2.1.gen,AA y2.1.boot,Ap y2.1.seq] E C6 E E (AZ 1 E) (J E (Aj 2 E E E E Ef E E E zT (O E (O E (Y (AL ?_)))))))))
 obtain rfl:=zI h
 exact AX (Iw E (BC 2 (Bq y2.1) C6 E E E E) E E) (AY (M:=[]) ⟨E,E⟩ fun _ hw=>BZ.pick (H:=[_,_,_]) hw [] 3 E)
end

section
variable {K:Nat→Prop}{w0:World}{H:List AV}
def Fo(p0:BY)(p1:UInt32):Option Bool:=
 ret (decide (p1.toUInt64<BW (p0.blk.length:Int))) fun x1=>
 some x1
theorem O3{BH:Nat}{Dt Aq CR:Value}{p0:BY}{p1:UInt32}{r:Bool}(h:Fo p0 p1=some r): zC K w0 68 [vP BH 0,AA p1] [AN BH (.cells #[Dt,Aq,CR,Ap p0.rcnt,vS p0.rtag,AA p0.rboots,vI p0.left,vB p0.off] 132),AH 9 1 Dt eS p0.blk,AH 9 1 Aq eS p0.pnd,AH 4 1 CR eB p0.bads] H (fun u M=>u=vB r∧M=[AN BH (.cells #[Dt,Aq,CR,Ap p0.rcnt,vS p0.rtag,AA p0.rboots,vI p0.left,vB p0.off] 132),AH 9 1 Dt eS p0.blk,AH 9 1 Aq eS p0.pnd,AH 4 1 CR eB p0.bads]):=by
 unfold Fo at h
 refine UJ.enter Tryz.func68 rfl rfl ?_
 refine Z (O E (Y (Z ?_)))
 obtain⟨x1,ex1,h⟩:=Bn h
 refine J E (Au E E (Ci Bv CQ) (J E (AW E E (AD E Ry (AF 0 RW E (D0 1 E FY E E (Au E E (Df FW CQ) ?_)))))))
 refine V E TC ?_
 refine Am (u:=vB x1) E E (congrArg vB ex1) ?_
 refine Y (AL ?_)
 obtain rfl:=zI h
 exact Ad [0,1,2,3] 4 E E E
def Fj(o2:BY):Option (Int×BY):=
 some (0,o2)
def Fh(o1:BY):Option (Int×BY):=
 cond o1.off
 (
  some (71,o1))
 (
  cond (decide (0<o1.left))
  (
   Fj ({ o1 with left:=wI (o1.left-1) }))
  (
   Fj o1))
def HC(p0:BY):Option (Int×BY):=
 cond (decide (p0.left=0))
 (
  Fh ({ p0 with off:=true }))
 (
  Fh p0)
theorem T8{BH:Nat}{Dt Aq CR:Value}{p0:BY}{r:Int×BY}(h:HC p0=some r): zC K w0 118 [vP BH 0] [AN BH (.cells #[Dt,Aq,CR,Ap p0.rcnt,vS p0.rtag,AA p0.rboots,vI p0.left,vB p0.off] 132),AH 9 1 Dt eS p0.blk,AH 9 1 Aq eS p0.pnd,AH 4 1 CR eB p0.bads] H (fun u M=>u=vI r.1∧M=[AN BH (.cells #[Dt,Aq,CR,Ap r.2.rcnt,vS r.2.rtag,AA r.2.rboots,vI r.2.left,vB r.2.off] 132),AH 9 1 Dt eS r.2.blk,AH 9 1 Aq eS r.2.pnd,AH 4 1 CR eB r.2.bads]):=by
 unfold HC at h
 refine UJ.enter Tryz.func118 rfl rfl ?_
 refine Z (O E (Y ?_))
 refine A4 (α:=BY) (fun x=>Fh x=some r) (fun x=>[(0,vP BH 0)]) (fun x=>AN BH (.cells #[Dt,Aq,CR,Ap x.rcnt,vS x.rtag,AA x.rboots,vI x.left,vB x.off] 132)::AH 9 1 Dt eS x.blk::AH 9 1 Aq eS x.pnd::AH 4 1 CR eB x.bads::H) ?_ (fun o1 D h=>?_)
 refine Z (J E (AW E E (AD E U6 (AF 0 D3 E (V E CH (Y ?_))))))
 refine AT h E (fun hc1 h=>?_) fun hc1 h=>?_
 refine AK (J E (AW E E (AD E Yo (Aj 0 E E E E TO E E E zT (AU ?_)))))
 exact Av ({ p0 with off:=true }) h tL (BB [0,1,2,3] 4 rfl rfl rfl)
 refine AI ?_
 exact Av p0 h tL (BB [0,1,2,3] 4 E E E)
 unfold Fh at h
 try dsimp only
 refine AE (Z (J E (AW E E (AD E Yo (AF 0 Ww E (Y ?_))))))
 refine AT h E (fun hc2 h=>?_) fun hc2 h=>?_
 refine Z (O E (Y (AL (Aa ?_))))
 obtain rfl:=zI h
 exact Ad [0,1,2,3] 4 E E E
 refine AI (AG ?_)
 refine A4 (α:=BY) (fun x=>Fj x=some r) (fun x=>[(0,vP BH 0)]) (fun x=>AN BH (.cells #[Dt,Aq,CR,Ap x.rcnt,vS x.rtag,AA x.rboots,vI x.left,vB x.off] 132)::AH 9 1 Dt eS x.blk::AH 9 1 Aq eS x.pnd::AH 4 1 CR eB x.bads::H) ?_ (fun o2 D h=>?_)
 refine Z (J E (AW E E (AD E U6 (AF 0 D3 E (V E CY (Y ?_))))))
 refine AT h E (fun hc3 h=>?_) fun hc3 h=>?_
 refine AK (J E (AW E E (AD E U6 (AF 0 D3 E (V E B5 (AW E E (AD E U6 (Aj 0 E E E E Mw E E E zT (AU ?_)))))))))
 exact Av ({ o1 with left:=wI (o1.left-1) }) h tL (BB [0,1,2,3] 4 rfl rfl rfl)
 refine AI ?_
 exact Av o1 h tL (BB [0,1,2,3] 4 E E E)
 unfold Fj at h
 try dsimp only
 refine Z (O E (Y (AL ?_)))
 obtain rfl:=zI h
 exact Ad [0,1,2,3] 4 E E E
def Ff(p0:BY)(p1:UInt32):Option (List UInt8):=
 (Ao p0.pnd (p1.toNat:Int)).bind fun x1=>
 cond (!decide (x1=[]))
 (
  (Ao p0.pnd (p1.toNat:Int)).bind fun x2=>
  some x2)
 (
  (Ao p0.blk (p1.toNat:Int)).bind fun x3=>
  some x3)
theorem RZ{BH:Nat}{Dt Aq CR:Value}{p0:BY}{p1:UInt32}{r:List UInt8}(h:Ff p0 p1=some r): zC K w0 34 [vP BH 0,AA p1] [AN BH (.cells #[Dt,Aq,CR,Ap p0.rcnt,vS p0.rtag,AA p0.rboots,vI p0.left,vB p0.off] 132),AH 9 1 Dt eS p0.blk,AH 9 1 Aq eS p0.pnd,AH 4 1 CR eB p0.bads] H (fun u M=>u=vS r∧M=[AN BH (.cells #[Dt,Aq,CR,Ap p0.rcnt,vS p0.rtag,AA p0.rboots,vI p0.left,vB p0.off] 132),AH 9 1 Dt eS p0.blk,AH 9 1 Aq eS p0.pnd,AH 4 1 CR eB p0.bads]):=by
 unfold Ff at h
 refine UJ.enter Tryz.func34 rfl rfl ?_
 refine Z (O E (Y (AE (Z ?_))))
 refine AC h fun x1 hx1 h=>?_
 refine J E (AW E E (AD E Sj (AF 0 RW E (J E ?_))))
 refine BV 2 hx1 E FY Ix E E E fun g1 m1 cp1 hv1=>?_
 refine Bh E FX E (Bw (sz:=1) (enc:=eS) 2 0 zV E hv1 hx1 E) ?_
 refine V E Ij (Y ?_)
 refine AT h E (fun hc1 h=>?_) fun hc1 h=>?_
 refine Z ?_
 refine AC h fun x2 hx2 h=>?_
 refine J E (AW E E (AD E Sj (AF 0 RW E (J E ?_))))
 refine BV 2 hx2 E FY Ix E E E fun g2 m2 cp2 hv2=>?_
 refine Bh E FX E (Bw (sz:=1) (enc:=eS) 2 0 zV E hv2 hx2 E) ?_
 refine O E (Y (AL (Aa ?_)))
 obtain rfl:=zI h
 exact Ad [0,1,2,3] 4 E E E
 refine AI (AG (Z ?_))
 refine AC h fun x3 hx3 h=>?_
 refine J E (AW E E (AD E Ry (AF 0 RW E (J E ?_))))
 refine BV 1 hx3 E FY Ix E E E fun g3 m3 cp3 hv3=>?_
 refine Bh E FX E (Bw (sz:=1) (enc:=eS) 1 0 zV E hv3 hx3 E) ?_
 refine O E (Y (AL ?_))
 obtain rfl:=zI h
 exact Ad [0,1,2,3] 4 E E E
def F4(y2:Int×BY)(o1:BY):Option (Int×BY):=
 some (y2.1,o1)
def DT(p0:BY)(p1:UInt32)(p2:List UInt8):Option (Int×BY):=
 (Fo p0 p1).bind fun y1=>
 cond ((!y1)||(!decide ((p2.length:Int)=256)))
 (
  some (2,p0))
 (
  (HC p0).bind fun y2=>
  cond (decide (y2.1=0))
  (
   (Ao y2.2.pnd (p1.toNat:Int)).bind fun x1=>
   (F6 y2.2.pnd (p1.toNat:Int) p2).bind fun l1=>
   F4 y2 ({ y2.2 with pnd:=l1 }))
  (
   F4 y2 y2.2))
theorem Ra{BH:Nat}{Dt Aq CR:Value}{p0:BY}{p1:UInt32}{p2:List UInt8}{r:Int×BY}(h:DT p0 p1 p2=some r): zC K w0 80 [vP BH 0,AA p1,vS p2] [AN BH (.cells #[Dt,Aq,CR,Ap p0.rcnt,vS p0.rtag,AA p0.rboots,vI p0.left,vB p0.off] 132),AH 9 1 Dt eS p0.blk,AH 9 1 Aq eS p0.pnd,AH 4 1 CR eB p0.bads] H (fun u M=>u=vI r.1∧M=[AN BH (.cells #[Dt,Aq,CR,Ap r.2.rcnt,vS r.2.rtag,AA r.2.rboots,vI r.2.left,vB r.2.off] 132),AH 9 1 Dt eS r.2.blk,AH 9 1 Aq eS r.2.pnd,AH 4 1 CR eB r.2.bads]):=by
 unfold DT at h
 refine UJ.enter Tryz.func80 rfl rfl ?_
 refine Z (O E (Y (AE (Z ?_))))
 refine AC h fun y1 hy1 h=>?_
 refine J E (J E (AQ 4 mQ (O3 hy1) E (CN E E (J E ?_))))
 refine DL (c := !decide ((p2.length:Int)=256)) 12 4 16 E (fun hb k=>?_) (fun hb k=>?_) ?_
 refine AB E (AB E (AB E (Ae E E E ?_)))
 exact k.mono tL
 refine J E (BS E Bj E (V E Bg (Ae E E E ?_)))
 exact k.mono tL
 refine Y ?_
 refine AT h E (fun hc1 h=>?_) fun hc1 h=>?_
 refine Z (O E (Y (AL (Aa ?_))))
 obtain rfl:=zI h
 exact Ad [0,1,2,3] 4 E E E
 refine AI (AG (Z ?_))
 refine AC h fun y2 hy2 h=>?_
 refine J E (AQ 4 pV (T8 hy2) E (O E (Y ?_)))
 refine A4 (α:=BY) (fun x=>F4 y2 x=some r) (fun x=>[(0,vP BH 0),(7,vI y2.1)]) (fun x=>AN BH (.cells #[Dt,Aq,CR,Ap x.rcnt,vS x.rtag,AA x.rboots,vI x.left,vB x.off] 132)::AH 9 1 Dt eS x.blk::AH 9 1 Aq eS x.pnd::AH 4 1 CR eB x.bads::H) ?_ (fun o1 D h=>?_)
 refine Z (J E (V E CH (Y ?_)))
 refine AT h E (fun hc2 h=>?_) fun hc2 h=>?_
 refine AK ?_
 refine AC h fun x1 hx1 h=>?_
 refine AC h fun l1 hl1 h=>?_
 refine J E (AW E E (AD E Sj (AF 0 RW E (J E (J E ?_)))))
 refine BV 2 hx1 E FY Ix E E E fun g1 m1 cp1 hv1=>?_
 refine DE (sz:=1) (enc:=eS) 2 hl1 zV rfl rfl rfl rfl rfl hv1 Ix (by first | (simp[Value.oneCell'];done) | simp[eS,Value.oneCell']) trivial ?_
 refine AU ?_
 exact Av ({ y2.2 with pnd:=l1 }) h tL (BB [0,1,2,3] 4 rfl rfl rfl)
 refine AI ?_
 exact Av y2.2 h tL (BB [0,1,2,3] 4 E E E)
 unfold F4 at h
 try dsimp only
 refine Z (J E (O E (Y (AL ?_))))
 obtain rfl:=zI h
 exact Ad [0,1,2,3] 4 E E E
def D5(p0:BY)(p1:UInt32):Option (List UInt8×Int):=
 (Fo p0 p1).bind fun y1=>
 cond (!y1)
 (
  some ([],2))
 (
  cond p0.off
  (
   some ([],71))
  (
   (Ao p0.bads (p1.toNat:Int)).bind fun x1=>
   cond x1
   (
    some ([],70))
   (
    (Ff p0 p1).bind fun y2=>
    some (y2,0))))
theorem SH{BH:Nat}{Dt Aq CR:Value}{p0:BY}{p1:UInt32}{r:List UInt8×Int}(h:D5 p0 p1=some r): zC K w0 207 [vP BH 0,AA p1] [AN BH (.cells #[Dt,Aq,CR,Ap p0.rcnt,vS p0.rtag,AA p0.rboots,vI p0.left,vB p0.off] 132),AH 9 1 Dt eS p0.blk,AH 9 1 Aq eS p0.pnd,AH 4 1 CR eB p0.bads] H (fun u M=>u=.tuple #[vS r.1,vI r.2]∧M=[AN BH (.cells #[Dt,Aq,CR,Ap p0.rcnt,vS p0.rtag,AA p0.rboots,vI p0.left,vB p0.off] 132),AH 9 1 Dt eS p0.blk,AH 9 1 Aq eS p0.pnd,AH 4 1 CR eB p0.bads]):=by
 unfold D5 at h
 refine UJ.enter Tryz.func207 rfl rfl ?_
 refine Z (O E (O E (Y (AE (Z ?_)))))
 refine AC h fun y1 hy1 h=>?_
 refine J E (J E (AQ 4 mQ (O3 hy1) E (CN E E (Y ?_))))
 refine AT h E (fun hc1 h=>?_) fun hc1 h=>?_
 refine Z (O E (O E (Y (AL (Aa ?_)))))
 obtain rfl:=zI h
 exact Ad [0,1,2,3] 4 E E E
 refine AI (AG (AE (Z (J E (AW E E (AD E Yo (AF 0 Ww E (Y ?_))))))))
 refine AT h E (fun hc2 h=>?_) fun hc2 h=>?_
 refine Z (O E (O E (Y (AL (Aa ?_)))))
 obtain rfl:=zI h
 exact Ad [0,1,2,3] 4 E E E
 refine AI (AG (AE (Z ?_)))
 refine AC h fun x1 hx1 h=>?_
 refine J E (AW E E (AD E YM (AF 0 X9 E (J E ?_))))
 refine BV 3 hx1 E UK TO E E E fun g1 m1 cp1 hv1=>?_
 refine Bh E Ww E (Bw (sz:=1) (enc:=eB) 3 0 zV E hv1 hx1 E) ?_
 refine Y ?_
 refine AT h E (fun hc3 h=>?_) fun hc3 h=>?_
 refine Z (O E (O E (Y (AL (Aa ?_)))))
 obtain rfl:=zI h
 exact Ad [0,1,2,3] 4 E E E
 refine AI (AG (Z ?_))
 refine AC h fun y2 hy2 h=>?_
 refine J E (J E (AQ 4 sM (RZ hy2) E (O E (O E (Y (AL ?_))))))
 obtain rfl:=zI h
 exact Ad [0,1,2,3] 4 E E E
def E1(n:Nat)(T:List UInt32)(p0:CK)(p0_1:BY)(p1:UInt32)(p2:List UInt8):Option (List UInt8×Int×CK×BY):=
 (LX n T p0.ring (⟨p1,p0.gen,p0.boot,p0.num⟩:B7) p2).bind fun y1=>
 cond (!decide (y1.2=0))
 (
  some ([],y1.2,p0,p0_1))
 (
  (DT p0_1 p1 y1.1).bind fun y2=>
  cond (!decide (y2.1=0))
  (
   some ([],y2.1,{ p0 with num:=p0.num+1 },y2.2))
  (
   (Cz y1.1 224 (y1.1.length:Int)).bind fun s1=>
   some (s1,0,{ p0 with num:=p0.num+1 },y2.2)))
theorem Re{n BH A2:Nat}{T:List UInt32}{Aq Fe DP Ba DO:Value}{p0:CK}{p0_1:BY}{p1:UInt32}{p2:List UInt8}{r:List UInt8×Int×CK×BY}(h:E1 n T p0 p0_1 p1 p2=some r)(hT:KM K w0 2 64 T):zC K w0 47 [vP BH 0,AA p1,vS p2] [AN BH (.cells #[vP A2 0,Aq,AA p0.gen,AA p0.boot,Ap p0.num,Fe] 69),AH 138 2 Aq A7 p0.ring,AH 4 1 Fe eB p0.taken,AN A2 (.cells #[DP,Ba,DO,Ap p0_1.rcnt,vS p0_1.rtag,AA p0_1.rboots,vI p0_1.left,vB p0_1.off] 132),AH 9 1 DP eS p0_1.blk,AH 9 1 Ba eS p0_1.pnd,AH 4 1 DO eB p0_1.bads] H (fun u M=>u=.tuple #[vS r.1,vI r.2.1]∧M=[AN BH (.cells #[vP A2 0,Aq,AA r.2.2.1.gen,AA r.2.2.1.boot,Ap r.2.2.1.num,Fe] 69),AH 138 2 Aq A7 r.2.2.1.ring,AH 4 1 Fe eB r.2.2.1.taken,AN A2 (.cells #[DP,Ba,DO,Ap r.2.2.2.rcnt,vS r.2.2.2.rtag,AA r.2.2.2.rboots,vI r.2.2.2.left,vB r.2.2.2.off] 132),AH 9 1 DP eS r.2.2.2.blk,AH 9 1 Ba eS r.2.2.2.pnd,AH 4 1 DO eB r.2.2.2.bads]):=by
 unfold E1 at h
 refine UJ.enter Tryz.func47 rfl rfl ?_
 refine Z (O E (O E (Y (AE ?_))))
 refine AC h fun y1 hy1 h=>?_
 refine Ak Ca [0] (Bo [(true,0),(true,1),(true,2),(true,3),(true,4),(true,5),(true,6),(true,7),(true,8),(true,9),(true,10),(true,11),(true,12),(true,13),(true,14),(true,15),(true,16),(true,17),(true,18),(false,19),(false,20),(true,21),(true,22),(false,23)] (.last 24 .nil)) zK (J E (AW E E (AD E jC (AF 0 eZ E (J E (J E (AW E E ?_)))))))
 refine AD E qT (AF 0 A6 E (J E (AW E E (AD E px (AF 0 A6 E (J E (AW E E ?_)))))))
 refine AD E bw (AF 0 M1 E (BK [_,_,_,_] E LD LE FB ⟨E,E,E,E,zT⟩ E (J E (SL.pick [1,0] 2 ?_))))
 refine Bm (vs:=[_,_,_]) (Hin:=[_]) (Hr:=_::_::_::_::_::_::_) E E ⟨E,E,E,zT⟩ tX E E (Cb (B:=[_]) (Hin:=[]) fun K' w1 hk hB=>(ZZ hy1 (hT.keeps hk) (CC (e:=138) (v:=Aq) zV (hB _ zS)) :)) ?_
 rintro _ _ ⟨_,rfl,rfl,rfl⟩
 refine⟨⟨⟨1,rfl⟩,trivial⟩,?_⟩
 refine J E (Al E E E (Al E E E (O E (BN (O E (Y (AE (Z (J E (V E Bg (Y ?_)))))))))))
 refine AT h E (fun hc1 h=>?_) fun hc1 h=>?_
 refine Z (J E (O E (O E (Y (AL (Aa ?_))))))
 obtain rfl:=zI h
 exact Ad [1,0,2,3,4,5,6] 7 E E E
 refine AI (AG (Z (J E (AW E E (AD E bw (AF 1 M1 E ?_))))))
 refine V E (IW (b:=1)) ?_
 refine AW E E (AD E bw (Aj 1 E E E E nW E E E zT (Y (Z ?_))))
 refine AC h fun y2 hy2 h=>?_
 refine J E (AW E E (AD E j5 (AF 1 rJ E (J E (J E (SL.pick [3,4,5,6,0,1,2] 7 (AQ 4 sW (Ra hy2) E ?_)))))))
 refine O E (Y (AE (Z (J E (V E Bg (Y ?_))))))
 refine AT h E (fun hc2 h=>?_) fun hc2 h=>?_
 refine Z (J E (O E (O E (Y (AL (Aa ?_))))))
 obtain rfl:=zI h
 exact Ad [5,4,6,0,1,2,3] 7 E E E
 refine AI (AG (Z ?_))
 refine AC h fun s1 hs1 h=>?_
 refine J E (SJ hs1 E Bj E E (O E (O E (Y (AL ?_)))))
 obtain rfl:=zI h
 exact Ad [5,4,6,0,1,2,3] 7 E E E
def Ey(o1:CK)(o2:BY)(y1:UInt32)(y2:List UInt8):Option (Ac×Int×CK×BY):=
 some ((⟨0,[]⟩:Ac),110,o1,o2)
def Cg(n:Nat)(T:List UInt32)(p1:List UInt8)(nx_f_ref13_Vault_Write_l1:CK×BY×UInt32×List UInt8×Int→Option (Ac×Int×CK×BY))(o3:CK)(o4:BY)(y3:UInt32)(y4:List UInt8)(a1:Int):Option (Ac×Int×CK×BY):=
 cond (decide (a1<(o3.taken.length:Int)))
 (
  (Ao o3.taken a1).bind fun x1=>
  cond x1
  (
   ret (wI (a1+1)) fun p_1=>
   nx_f_ref13_Vault_Write_l1 (o3,o4,y3,y4,p_1))
  (
   (E1 n T o3 o4 (FC a1) p1).bind fun y5=>
   cond (!decide (y5.2.1=0))
   (
    some ((⟨0,[]⟩:Ac),y5.2.1,y5.2.2.1,y5.2.2.2))
   (
    (Ao y5.2.2.1.taken a1).bind fun x2=>
    (F6 y5.2.2.1.taken a1 true).bind fun l1=>
    some ((⟨FC a1,y5.1⟩:Ac),0,{ y5.2.2.1 with taken:=l1 },y5.2.2.2))))
 (
  Ey o3 o4 y3 y4)
def CG(n:Nat)(T:List UInt32)(p1:List UInt8):Nat→(CK×BY×UInt32×List UInt8×Int)→Option (Ac×Int×CK×BY):=Bu fun nx x=>Cg n T p1 nx x.1 x.2.1 x.2.2.1 x.2.2.2.1 x.2.2.2.2
def F7(n:Nat)(T:List UInt32)(p0:CK)(p0_1:BY)(p1:List UInt8):Option (Ac×Int×CK×BY):=
 cond (decide (198<(p1.length:Int)))
 (
  some ((⟨0,[]⟩:Ac),50,p0,p0_1))
 (
  CG n T p1 n (p0,p0_1,0,[],2))
theorem SW{n BH A2:Nat}{T:List UInt32}{Aq Fe DP Ba DO:Value}{p0:CK}{p0_1:BY}{p1:List UInt8}{r:Ac×Int×CK×BY}(h:F7 n T p0 p0_1 p1=some r)(hT:KM K w0 2 64 T):zC K w0 14 [vP BH 0,vS p1] [AN BH (.cells #[vP A2 0,Aq,AA p0.gen,AA p0.boot,Ap p0.num,Fe] 69),AH 138 2 Aq A7 p0.ring,AH 4 1 Fe eB p0.taken,AN A2 (.cells #[DP,Ba,DO,Ap p0_1.rcnt,vS p0_1.rtag,AA p0_1.rboots,vI p0_1.left,vB p0_1.off] 132),AH 9 1 DP eS p0_1.blk,AH 9 1 Ba eS p0_1.pnd,AH 4 1 DO eB p0_1.bads] H (fun u M=>u=.tuple #[.agg (Af r.1).toArray,vI r.2.1]∧M=[AN BH (.cells #[vP A2 0,Aq,AA r.2.2.1.gen,AA r.2.2.1.boot,Ap r.2.2.1.num,Fe] 69),AH 138 2 Aq A7 r.2.2.1.ring,AH 4 1 Fe eB r.2.2.1.taken,AN A2 (.cells #[DP,Ba,DO,Ap r.2.2.2.rcnt,vS r.2.2.2.rtag,AA r.2.2.2.rboots,vI r.2.2.2.left,vB r.2.2.2.off] 132),AH 9 1 DP eS r.2.2.2.blk,AH 9 1 Ba eS r.2.2.2.pnd,AH 4 1 DO eB r.2.2.2.bads]):=by
 unfold F7 at h
 refine UJ.enter Tryz.func14 rfl rfl ?_
 refine Z ?_
 refine Ag E Dc zU fun b1=>?_
 refine O E (Y (AE (Z (J E (BS E Bj E (V E CY (Y ?_)))))))
 refine AT h E (fun hc1 h=>?_) fun hc1 h=>?_
 refine Z (BK [] E LR LU Dc zT E (Aj 0 E E E E DH E E E zT (O E (Y (AL (Aa ?_))))))
 obtain rfl:=zI h
 exact AX (DR E (BC 0 (Af (⟨0,[]⟩:Ac)) Cf E E E E) E) (AY (M:=[_,_,_,_,_,_,_]) ⟨E,E⟩ fun _ hw=>BZ.pick (H:=[_,_,_,_,_,_,_,_]) hw [1,2,3,4,5,6,7] 8 E)
 refine AI (AG ?_)
 refine A4 (α:=CK×BY×UInt32×List UInt8) (fun x=>Ey x.1 x.2.1 x.2.2.1 x.2.2.2=some r) (fun x=>[(0,vP BH 0),(4,vP b1 0)]) (fun x=>AN BH (.cells #[vP A2 0,Aq,AA x.1.gen,AA x.1.boot,Ap x.1.num,Fe] 69)::AN A2 (.cells #[DP,Ba,DO,Ap x.2.1.rcnt,vS x.2.1.rtag,AA x.2.1.rboots,vI x.2.1.left,vB x.2.1.off] 132)::AH 9 1 DP eS x.2.1.blk::AH 9 1 Ba eS x.2.1.pnd::AH 4 1 DO eB x.2.1.bads::AH 138 2 Aq A7 x.1.ring::AH 4 1 Fe eB x.1.taken::AN b1 (.cells #[AA x.2.2.1,vS x.2.2.2] 31)::H) ?_ (fun x D h=>?_)
 refine Z (O E (Y (AM ?_)))
 refine SX.heap (SX.mono (A5 (α:=Nat×CK×BY×UInt32×List UInt8×Int) (fun x=>CG n T p1 x.1 (x.2.1,x.2.2.1,x.2.2.2.1,x.2.2.2.2.1,x.2.2.2.2.2)=some r) (fun x=>[(0,vP BH 0),(1,vS p1),(4,vP b1 0),(6,vI x.2.2.2.2.2)]) (fun x=>AN BH (.cells #[vP A2 0,Aq,AA x.2.1.gen,AA x.2.1.boot,Ap x.2.1.num,Fe] 69)::AN A2 (.cells #[DP,Ba,DO,Ap x.2.2.1.rcnt,vS x.2.2.1.rtag,AA x.2.2.1.rboots,vI x.2.2.1.left,vB x.2.2.1.off] 132)::AH 9 1 DP eS x.2.2.1.blk::AH 9 1 Ba eS x.2.2.1.pnd::AH 4 1 DO eB x.2.2.1.bads::AH 138 2 Aq A7 x.2.1.ring::AH 4 1 Fe eB x.2.1.taken::AN b1 (.cells #[AA x.2.2.2.1,vS x.2.2.2.2.1] 31)::H) (fun x=>x.1) (fun x D h=>?_) (n,p0,p0_1,0,[],2) h) tL) (BB [1,4,5,6,7,2,3,0] 8 E E E)
 obtain⟨m1,o3,o4,y3,y4,a1⟩:=x
 dsimp only at h
 rcases m1 with _ | m1
 cases (show(none:Option _)=some r from h)
 replace h:Cg n T p1 (CG n T p1 m1) o3 o4 y3 y4 a1=some r:=h
 unfold Cg at h
 try dsimp only
 refine AE (Z (J E (J E (AW E E (AD E UU (AF 0 X9 E (D0 6 E UK E E (V E Aw (Y ?_)))))))))
 refine AT h E (fun hc2 h=>?_) fun hc2 h=>?_
 refine AI (AG (AE (AM (AE (Z ?_)))))
 refine AC h fun x1 hx1 h=>?_
 refine J E (AW E E (AD E UU (AF 0 X9 E (J E ?_))))
 refine BV 6 hx1 E UK TO E E E fun g1 m2 cp1 hv1=>?_
 refine Bh E Ww E (Bw (sz:=1) (enc:=eB) 6 0 zV E hv1 hx1 E) ?_
 refine Y ?_
 refine AT h E (fun hc3 h=>?_) fun hc3 h=>?_
 refine Ax (A3 (Az (AG (AK ?_))))
 obtain⟨p_1,ep_1,h⟩:=Bn h
 refine J E (V E Ay ?_)
 refine Am (u:=vI p_1) E E (congrArg vI ep_1) ?_
 refine AU ?_
 exact Ai (m1,o3,o4,y3,y4,p_1) h (Nat.lt_succ_self _) tL (BB [0,1,2,3,4,5,6,7] 8 E E E)
 refine AI (AG (Z ?_))
 refine AC h fun y5 hy5 h=>?_
 refine J E (J E (Au E E (P9 FW Bv) (J E (SL.pick [0,5,6,1,2,3,4] 7 (AQ 7 tP (Re hy5 hT) E (J E (Al E E E ?_)))))))
 refine Al E E E (O E (O E (Y (AE (Z (J E (V E Bg (Y ?_))))))))
 refine AT h E (fun hc4 h=>?_) fun hc4 h=>?_
 refine Z (BK [] E LR LU Dc zT E (J E (Aj 7 E E E E DH E E E zT (O E (Y (AL (Aa (BX (Aa (Dj (BX (EO ?_))))))))))))
 obtain rfl:=zI h
 exact AX (DR E (BC 7 (Af (⟨0,[]⟩:Ac)) Cf E E E E) E) (AY (M:=[_,_,_,_,_,_,_]) ⟨E,E⟩ fun _ hw=>BZ.pick (H:=[_,_,_,_,_,_,_,_]) hw [0,1,2,3,4,5,6] 8 E)
 refine AI (AG (Z ?_))
 refine AC h fun x2 hx2 h=>?_
 refine AC h fun l1 hl1 h=>?_
 refine J E (AW E E (AD E UU (AF 0 X9 E (J E ?_))))
 refine BV 2 hx2 E UK TO E E E fun g2 m3 cp2 hv2=>?_
 refine DE (sz:=1) (enc:=eB) 2 hl1 zV rfl rfl rfl rfl rfl hv2 TO (by first | (simp[Value.oneCell'];done) | simp[eB,Value.oneCell']) trivial ?_
 refine Y (Z (J E (Au E E (P9 FW Bv) (J E (BK [_,_] E LR LU Dc ⟨E,E,zT⟩ E (Aj 7 E E E E DH E E E zT (O E (Y (AL (BX (Aa (Dj (BX (EO ?_))))))))))))))
 obtain rfl:=zI h
 exact AX (DR E (BC 7 (Af (⟨FC a1,y5.1⟩:Ac)) Cf E E E E) E) (AY (M:=[_,_,_,_,_,_,_]) ⟨E,E⟩ fun _ hw=>BZ.pick (H:=[_,_,_,_,_,_,_,_]) hw [0,1,2,3,4,5,6] 8 E)
 refine Ax (A3 (BL (Az ?_)))
 exact Av (o3,o4,y3,y4) h tL (BB [0,1,2,3,4,5,6,7] 8 E E E)
 obtain⟨o1,o2,y1,y2⟩:=x
 dsimp only at h
 unfold Ey at h
 try dsimp only
 refine Z (BK [] E LR LU Dc zT E (Aj 7 E E E E DH E E E zT (O E (Y (AL ?_)))))
 obtain rfl:=zI h
 exact AX (DR E (BC 7 (Af (⟨0,[]⟩:Ac)) Cf E E E E) E) (AY (M:=[_,_,_,_,_,_,_]) ⟨E,E⟩ fun _ hw=>BZ.pick (H:=[_,_,_,_,_,_,_,_]) hw [0,5,6,1,2,3,4] 8 E)
def If(n:Nat)(T:List UInt32)(p0:CK)(p0_1:BY)(p1:UInt32)(p2:List UInt8):Option (B7×List UInt8×Int):=
 (D5 p0_1 p1).bind fun y1=>
 cond (!decide (y1.2=0))
 (
  some ((⟨0,0,0,0⟩:B7),[],y1.2))
 (
  (Cz y1.1 0 24).bind fun s1=>
  (Kv n s1).bind fun y2=>
  (Cz y1.1 224 (y1.1.length:Int)).bind fun s2=>
  (OF (!decide (s2=p2)) ((FZ (!y2.2) ((Ao y1.1 0).bind fun c1=>(Ao y1.1 1).bind fun c2=>(Ao y1.1 2).bind fun c3=>(Ao y1.1 3).bind fun c4=>some (!decide (((c1.toUInt32 ||| (shl32 c2.toUInt32 8)) ||| (shl32 c3.toUInt32 16)) ||| (shl32 c4.toUInt32 24)=p1)))).bind fun y3=>some (y3))).bind fun y4=>
  cond (y4||(y2.2&&(!decide (y2.1.page=p1))))
  (
   some ((⟨0,0,0,0⟩:B7),[],61))
  (
   (La n T p0.ring y1.1).bind fun y5=>
   some (y5.1,y5.2.1,y5.2.2)))
theorem TK{n BH A2:Nat}{T:List UInt32}{Aq Fe DP Ba DO:Value}{p0:CK}{p0_1:BY}{p1:UInt32}{p2:List UInt8}{r:B7×List UInt8×Int}(h:If n T p0 p0_1 p1 p2=some r)(hT:KM K w0 2 64 T):zC K w0 175 [vP BH 0,AA p1,vS p2] [AN BH (.cells #[vP A2 0,Aq,AA p0.gen,AA p0.boot,Ap p0.num,Fe] 69),AH 138 2 Aq A7 p0.ring,AH 4 1 Fe eB p0.taken,AN A2 (.cells #[DP,Ba,DO,Ap p0_1.rcnt,vS p0_1.rtag,AA p0_1.rboots,vI p0_1.left,vB p0_1.off] 132),AH 9 1 DP eS p0_1.blk,AH 9 1 Ba eS p0_1.pnd,AH 4 1 DO eB p0_1.bads] H (fun u M=>u=.tuple #[.agg (Bq r.1).toArray,vS r.2.1,vI r.2.2]∧M=[AN BH (.cells #[vP A2 0,Aq,AA p0.gen,AA p0.boot,Ap p0.num,Fe] 69),AH 138 2 Aq A7 p0.ring,AH 4 1 Fe eB p0.taken,AN A2 (.cells #[DP,Ba,DO,Ap p0_1.rcnt,vS p0_1.rtag,AA p0_1.rboots,vI p0_1.left,vB p0_1.off] 132),AH 9 1 DP eS p0_1.blk,AH 9 1 Ba eS p0_1.pnd,AH 4 1 DO eB p0_1.bads]):=by
 unfold If at h
 refine UJ.enter Tryz.func175 rfl rfl ?_
 refine Z ?_
 refine Ag E FB zU fun b1=>?_
 refine O E (O E (Y (Z ?_)))
 refine AC h fun y1 hy1 h=>?_
 refine J E (AW E E (AD E j5 (AF 1 rJ E (J E (SL.pick [4,5,6,7,0,1,2,3] 8 (AQ 4 qa (SH hy1) E (J E ?_)))))))
 refine Al E E E (Al E E E (O E (O E (Y (AE (Z (J E (V E Bg (Y ?_)))))))))
 refine AT h E (fun hc1 h=>?_) fun hc1 h=>?_
 refine Z (BK [] E LD LE FB zT E (J E (Aj 4 E E E E Ef E E E zT (O E (O E (Y (AL (Aa ?_))))))))
 obtain rfl:=zI h
 exact AX (Iw E (BC 4 (Bq (⟨0,0,0,0⟩:B7)) C6 E E E E) E E) (AY (M:=[_,_,_,_,_,_,_]) ⟨E,E⟩ fun _ hw=>BZ.pick (H:=[_,_,_,_,_,_,_,_]) hw [5,6,7,0,1,2,3] 8 E)
 refine AI (AG (Z ?_))
 refine AC h fun s1 hs1 h=>?_
 refine AC h fun y2 hy2 h=>?_
 refine J E (PK hs1 E Bj E E (AQ 0 jW (Uf hy2) E (J E (Al E E E (Al E E E ?_)))))
 refine Ag E FB zU fun b2=>?_
 refine Aj 0 E E E E Ef E E E zT (O E (Y (AE (AE ?_))))
 refine AC h fun s2 hs2 h=>?_
 refine AC h fun y4 hy4 h=>?_
 refine Ak Ca [0] (Pl.of [(true,0),(true,1),(true,2),(true,3),(true,4),(true,5),(true,6),(true,7),(true,8),(true,9),(true,10),(true,11),(true,12),(true,13),(true,14),(true,15),(true,16),(true,17),(true,18),(true,19),(true,20),(true,21),(true,22),(true,23),(true,24),(true,25),(true,26),(true,27),(true,28),(true,29),(true,30),(true,31),(true,32),(true,33),(true,34),(true,35),(true,36),(true,37),(true,38)]) zK (J E (SJ hs2 E Bj E E (J E (V E Ij (J E ?_)))))
 refine Lp 36 25 61 hy4 E (fun hb k=>?_) (fun hb hg1 k=>?_) ?_
 refine AB E (AB E (AB E (AB E (AB E (AB E (AB E (AB E ?_)))))))
 refine AB E (AB E (AB E (AB E (AB E (AB E (AB E (AB E ?_)))))))
 refine AB E (AB E (AB E (AB E (AB E (AB E (AB E (AB E ?_)))))))
 refine Ae E E E ?_
 exact k.mono tL
 obtain⟨y3,hy3,hg1⟩:=bnd hg1
 obtain rfl:=zI hg1
 refine J E (CN E E (J E ?_))
 refine EA 39 21 60 hy3 E (fun hb hg2 k=>?_) (fun hb k=>?_) ?_
 obtain⟨c1,hc1,hg2⟩:=bnd hg2
 obtain⟨c2,hc2,hg2⟩:=bnd hg2
 obtain⟨c3,hc3,hg2⟩:=bnd hg2
 obtain⟨c4,hc4,hg2⟩:=bnd hg2
 obtain rfl:=zI hg2
 refine J E (Di hc1 E Bj E E (Au E E (DN Cl Bv) (J E (Di hc2 E Bj E E (Au E E (DN Cl Bv) ?_)))))
 refine V E (E0.shl32 (n:=8)) ?_
 refine V E DZ (J E (Di hc3 E Bj E E (Au E E (DN Cl Bv) ?_)))
 refine V E (E0.shl32 (n:=16)) ?_
 refine V E DZ (J E (Di hc4 E Bj E E (Au E E (DN Cl Bv) ?_)))
 refine V E (E0.shl32 (n:=24)) ?_
 refine V E DZ (J E (V E So (Ae E E E ?_)))
 exact k.mono tL
 refine AB E (AB E (AB E (AB E (AB E (AB E (AB E (AB E ?_)))))))
 refine AB E (AB E (AB E (AB E (AB E (AB E (AB E (AB E ?_)))))))
 refine AB E (AB E (AB E (AB E (Ae E E E ?_))))
 exact k.mono tL
 refine Ae E E E ?_
 exact k.mono tL
 refine J E ?_
 refine DL (c:=y2.2&&(!decide (y2.1.page=p1))) 62 8 70 E (fun hb k=>?_) (fun hb k=>?_) ?_
 refine AB E (AB E (AB E (AB E (AB E (AB E (AB E (Ae E E E ?_)))))))
 exact k.mono tL
 refine J E (J E ?_)
 refine Cw (c := !decide (y2.1.page=p1)) 64 5 69 E (fun hb k=>?_) (fun hb k=>?_) ?_
 refine AD E U7 (AF 0 A6 E (J E (V E So (Ae E E E ?_))))
 exact k.mono tL
 refine AB E (AB E (AB E (AB E (Ae E E E ?_))))
 exact k.mono tL
 refine Ae E E E ?_
 exact k.mono tL
 refine Y ?_
 refine AT h E (fun hc2 h=>?_) fun hc2 h=>?_
 refine Z (BK [] E LD LE FB zT E (Aj 5 E E E E Ef E E E zT (O E (O E (Y (AL (Aa ?_)))))))
 obtain rfl:=zI h
 exact AX (Iw E (BC 5 (Bq (⟨0,0,0,0⟩:B7)) C6 E E E E) E E) (AY (M:=[_,_,_,_,_,_,_]) ⟨E,E⟩ fun _ hw=>BZ.pick (H:=[_,_,_,_,_,_,_,_,_]) hw [6,7,8,1,2,3,4] 9 E)
 refine AI (AG (Z ?_))
 refine AC h fun y5 hy5 h=>?_
 refine J E (AW E E (AD E jC (AF 6 eZ E (J E (SL.pick [7,0,1,2,3,4,5,6] 8 ?_)))))
 refine Bm (vs:=[_,_]) (Hin:=[_]) (Hr:=_::_::_::_::_::_::_::_::_) E E ⟨E,E,zT⟩ qC E E (Cb (B:=[_]) (Hin:=[]) fun K' w1 hk hB=>ZY hy5 (hT.keeps hk) (CC (e:=138) (v:=Aq) zV (hB _ zS))) ?_
 rintro _ _ ⟨_,rfl,rfl,rfl⟩
 refine⟨trivial,?_⟩
 refine Al E E E (Al E E E (Al E E E (Aj 6 E E E E Ef E E E zT (O E (O E (Y (AL ?_)))))))
 obtain rfl:=zI h
 exact AX (Iw E (BC 6 (Bq y5.1) C6 E E E E) E E) (AY (M:=[_,_,_,_,_,_,_]) ⟨E,E⟩ fun _ hw=>BZ.pick (H:=[_,_,_,_,_,_,_,_,_]) hw [7,0,8,2,3,4,5] 9 E)
def IB(n:Nat)(T:List UInt32)(p0:CK)(p0_1:BY)(p1:UInt32)(p2:List UInt8):Option (List UInt8×Int):=
 (If n T p0 p0_1 p1 p2).bind fun y1=>
 some (y1.2.1,y1.2.2)
theorem Rn{n BH A2:Nat}{T:List UInt32}{Aq Fe DP Ba DO:Value}{p0:CK}{p0_1:BY}{p1:UInt32}{p2:List UInt8}{r:List UInt8×Int}(h:IB n T p0 p0_1 p1 p2=some r)(hT:KM K w0 2 64 T):zC K w0 131 [vP BH 0,AA p1,vS p2] [AN BH (.cells #[vP A2 0,Aq,AA p0.gen,AA p0.boot,Ap p0.num,Fe] 69),AH 138 2 Aq A7 p0.ring,AH 4 1 Fe eB p0.taken,AN A2 (.cells #[DP,Ba,DO,Ap p0_1.rcnt,vS p0_1.rtag,AA p0_1.rboots,vI p0_1.left,vB p0_1.off] 132),AH 9 1 DP eS p0_1.blk,AH 9 1 Ba eS p0_1.pnd,AH 4 1 DO eB p0_1.bads] H (fun u M=>u=.tuple #[vS r.1,vI r.2]∧M=[AN BH (.cells #[vP A2 0,Aq,AA p0.gen,AA p0.boot,Ap p0.num,Fe] 69),AH 138 2 Aq A7 p0.ring,AH 4 1 Fe eB p0.taken,AN A2 (.cells #[DP,Ba,DO,Ap p0_1.rcnt,vS p0_1.rtag,AA p0_1.rboots,vI p0_1.left,vB p0_1.off] 132),AH 9 1 DP eS p0_1.blk,AH 9 1 Ba eS p0_1.pnd,AH 4 1 DO eB p0_1.bads]):=by
 unfold IB at h
 refine UJ.enter Tryz.func131 rfl rfl ?_
 refine Z (O E (O E (Y (Z ?_))))
 refine AC h fun y1 hy1 h=>?_
 refine J E (J E (J E (AQ 7 pv (TK hy1 hT) E (J E (Al E E E (Al E E E (Al E E E ?_)))))))
 refine Ag E FB zU fun b1=>?_
 refine Aj 0 E E E E Ef E E E zT (O E (O E (Y (Z (J E (J E (O E (O E (Y (AL ?_))))))))))
 obtain rfl:=zI h
 exact Ad [1,2,3,4,5,6,7] 8 E E E
def Gd(n:Nat)(T:List UInt32)(p0:CK)(p0_1:BY)(p1:Ac):Option (List UInt8×Int):=
 (FL p1).bind fun y1=>
 cond (!y1)
 (
  some ([],2))
 (
  (IB n T p0 p0_1 p1.page p1.tag).bind fun y2=>
  some (y2.1,y2.2))
theorem TM{n BH A2:Nat}{T:List UInt32}{Aq Fe DP Ba DO:Value}{p0:CK}{p0_1:BY}{p1:Ac}{r:List UInt8×Int}(h:Gd n T p0 p0_1 p1=some r)(hT:KM K w0 2 64 T):zC K w0 87 [vP BH 0,.agg (Af p1).toArray] [AN BH (.cells #[vP A2 0,Aq,AA p0.gen,AA p0.boot,Ap p0.num,Fe] 69),AH 138 2 Aq A7 p0.ring,AH 4 1 Fe eB p0.taken,AN A2 (.cells #[DP,Ba,DO,Ap p0_1.rcnt,vS p0_1.rtag,AA p0_1.rboots,vI p0_1.left,vB p0_1.off] 132),AH 9 1 DP eS p0_1.blk,AH 9 1 Ba eS p0_1.pnd,AH 4 1 DO eB p0_1.bads] H (fun u M=>u=.tuple #[vS r.1,vI r.2]∧M=[AN BH (.cells #[vP A2 0,Aq,AA p0.gen,AA p0.boot,Ap p0.num,Fe] 69),AH 138 2 Aq A7 p0.ring,AH 4 1 Fe eB p0.taken,AN A2 (.cells #[DP,Ba,DO,Ap p0_1.rcnt,vS p0_1.rtag,AA p0_1.rboots,vI p0_1.left,vB p0_1.off] 132),AH 9 1 DP eS p0_1.blk,AH 9 1 Ba eS p0_1.pnd,AH 4 1 DO eB p0_1.bads]):=by
 unfold Gd at h
 refine UJ.enter Tryz.func87 rfl rfl ?_
 refine Z ?_
 refine Bd E E zU fun b1=>?_
 refine O E (O E (Y (Z ?_)))
 refine AC h fun y1 hy1 h=>?_
 refine Ab [AA p1.page,vS p1.tag] E Cf E E (AZ 0 E) (AQ 0 bR ((Ml hy1 :)) E (O E (Y (AE (Z (J E (CN E E (Y ?_))))))))
 refine AT h E (fun hc1 h=>?_) fun hc1 h=>?_
 refine Z (O E (O E (Y (AL (Aa ?_)))))
 obtain rfl:=zI h
 exact Ad [1,2,3,4,5,6,7] 8 E E E
 refine AI (AG (Z ?_))
 refine AC h fun y2 hy2 h=>?_
 refine J E (AD E MY (AF 0 A6 E (AD E Ld (AF 0 FX E (SL.pick [1,2,3,4,5,6,7,0] 8 (AQ 7 pg (Rn hy2 hT) E (Al E E E ?_)))))))
 refine Al E E E (O E (O E (Y (AL ?_))))
 obtain rfl:=zI h
 exact Ad [0,1,2,3,4,5,6] 8 E E E
end

section
structure Dm where
 out:List BG
 rows:List AP
 count:Int
 err:Int
end

section
variable {K:Nat→Prop}{w0:World}{H:List AV}
def Da(p1:Ac)(y1:List UInt8×Int)(o3:Dm):Option Dm:=
 (Cp 40 o3.out [(⟨y1.1,p1.page,p1.tag⟩:BG)]).bind fun l2=>
 some ({ o3 with out:=l2 })
def GN(p0_1:CK)(p0_2:BY)(p1:Ac)(rec_:Dm→CK→BY→Ac→Option Dm)(y1:List UInt8×Int)(y2:BR×Int)(o1:Dm):Option Dm:=
 cond (!decide (y2.1.npage=0))
 (
  (rec_ o1 p0_1 p0_2 (⟨y2.1.npage,y2.1.ntag⟩:Ac)).bind fun y4=>
  Da p1 y1 y4)
 (
  Da p1 y1 o1)
def C8(p0_1:CK)(p0_2:BY)(p1:Ac)(rec_:Dm→CK→BY→Ac→Option Dm)(y1:List UInt8×Int)(y2:BR×Int)(nx_f_ref14_loader_page_l1:Dm×Int→Option Dm)(o2:Dm)(a1:Int):Option Dm:=
 cond (decide (a1<(y2.1.kids.length:Int)))
 (
  (Ao y2.1.kids a1).bind fun x1=>
  (rec_ o2 p0_1 p0_2 x1).bind fun y3=>
  ret (wI (a1+1)) fun i_1=>
  nx_f_ref14_loader_page_l1 (y3,i_1))
 (
  GN p0_1 p0_2 p1 rec_ y1 y2 o2)
def D2(p0_1:CK)(p0_2:BY)(p1:Ac)(rec_:Dm→CK→BY→Ac→Option Dm)(y1:List UInt8×Int)(y2:BR×Int):Nat→(Dm×Int)→Option Dm:=Bu fun nx x=>C8 p0_1 p0_2 p1 rec_ y1 y2 nx x.1 x.2
def EC(rec_:Dm→CK→BY→Ac→Option Dm)(n:Nat)(T:List UInt32)(p0:Dm)(p0_1:CK)(p0_2:BY)(p1:Ac):Option Dm:=
 cond (!decide (p0.err=0))
 (
  some p0)
 (
  cond (decide (2100≤p0.count))
  (
   some ({ p0 with err:=61 }))
  (
   (Gd n T p0_1 p0_2 p1).bind fun y1=>
   cond (!decide (y1.2=0))
   (
    some ({ p0 with count:=wI (p0.count+1),err:=y1.2 }))
   (
    (Fa n y1.1).bind fun y2=>
    cond (!decide (y2.2=0))
    (
     some ({ p0 with count:=wI (p0.count+1),err:=61 }))
    (
     (Cp 32 p0.rows y2.1.rows).bind fun l1=>
     D2 p0_1 p0_2 p1 rec_ y1 y2 n ({ p0 with rows:=l1,count:=wI (p0.count+1) },0)))))
theorem SN{rec_:Dm→CK→BY→Ac→Option Dm}{n BH A2 CP:Nat}{T:List UInt32}{Aq CR Ba EP DC DD C9:Value}{p0:Dm}{p0_1:CK}{p0_2:BY}{p1:Ac}{r:Dm}(h:EC rec_ n T p0 p0_1 p0_2 p1=some r)(hT:KM K w0 2 64 T)(hrec:∀ {H:List AV} {BH:Nat} {Aq:Value} {CR:Value} {A2:Nat} {Ba:Value} {EP:Value} {CP:Nat} {DC:Value} {DD:Value} {C9:Value} {p0:Dm} {p0_1:CK} {p0_2:BY} {p1:Ac} {r:Dm},rec_ p0 p0_1 p0_2 p1=some r→zC K w0 54 [vP BH 0,.agg (Af p1).toArray] [AN BH (.cells #[vP A2 0,Aq,CR,vI p0.count,vI p0.err] 110),AH 72 3 Aq Ar p0.out,AH 79 4 CR AJ p0.rows,AN A2 (.cells #[vP CP 0,Ba,AA p0_1.gen,AA p0_1.boot,Ap p0_1.num,EP] 69),AH 138 2 Ba A7 p0_1.ring,AH 4 1 EP eB p0_1.taken,AN CP (.cells #[DC,DD,C9,Ap p0_2.rcnt,vS p0_2.rtag,AA p0_2.rboots,vI p0_2.left,vB p0_2.off] 132),AH 9 1 DC eS p0_2.blk,AH 9 1 DD eS p0_2.pnd,AH 4 1 C9 eB p0_2.bads] H (fun u M=>∃vs0_0_1 vs0_0_2:Value,u=.tuple #[]∧M=[AN BH (.cells #[vP A2 0,vs0_0_1,vs0_0_2,vI r.count,vI r.err] 110),AH 72 3 vs0_0_1 Ar r.out,AH 79 4 vs0_0_2 AJ r.rows,AN A2 (.cells #[vP CP 0,Ba,AA p0_1.gen,AA p0_1.boot,Ap p0_1.num,EP] 69),AH 138 2 Ba A7 p0_1.ring,AH 4 1 EP eB p0_1.taken,AN CP (.cells #[DC,DD,C9,Ap p0_2.rcnt,vS p0_2.rtag,AA p0_2.rboots,vI p0_2.left,vB p0_2.off] 132),AH 9 1 DC eS p0_2.blk,AH 9 1 DD eS p0_2.pnd,AH 4 1 C9 eB p0_2.bads])):zC K w0 54 [vP BH 0,.agg (Af p1).toArray] [AN BH (.cells #[vP A2 0,Aq,CR,vI p0.count,vI p0.err] 110),AH 72 3 Aq Ar p0.out,AH 79 4 CR AJ p0.rows,AN A2 (.cells #[vP CP 0,Ba,AA p0_1.gen,AA p0_1.boot,Ap p0_1.num,EP] 69),AH 138 2 Ba A7 p0_1.ring,AH 4 1 EP eB p0_1.taken,AN CP (.cells #[DC,DD,C9,Ap p0_2.rcnt,vS p0_2.rtag,AA p0_2.rboots,vI p0_2.left,vB p0_2.off] 132),AH 9 1 DC eS p0_2.blk,AH 9 1 DD eS p0_2.pnd,AH 4 1 C9 eB p0_2.bads] H (fun u M=>∃vs0_0_1 vs0_0_2:Value,u=.tuple #[]∧M=[AN BH (.cells #[vP A2 0,vs0_0_1,vs0_0_2,vI r.count,vI r.err] 110),AH 72 3 vs0_0_1 Ar r.out,AH 79 4 vs0_0_2 AJ r.rows,AN A2 (.cells #[vP CP 0,Ba,AA p0_1.gen,AA p0_1.boot,Ap p0_1.num,EP] 69),AH 138 2 Ba A7 p0_1.ring,AH 4 1 EP eB p0_1.taken,AN CP (.cells #[DC,DD,C9,Ap p0_2.rcnt,vS p0_2.rtag,AA p0_2.rboots,vI p0_2.left,vB p0_2.off] 132),AH 9 1 DC eS p0_2.blk,AH 9 1 DD eS p0_2.pnd,AH 4 1 C9 eB p0_2.bads]):=by
 unfold EC at h
 refine UJ.enter Tryz.func54 rfl rfl ?_
 refine Z ?_
 refine Bd E E zU fun b1=>?_
 refine Y (AE (Z (J E (AW E E (AD E QF (AF 1 Rq E (V E Bg (Y ?_))))))))
 refine AT h E (fun hc1 h=>?_) fun hc1 h=>?_
 refine AL (Aa ?_)
 obtain rfl:=zI h
 exact DM [1,2,3,4,5,6,7,8,9,10] 11 (DU E) E E ⟨Aq,CR,E,E⟩
 refine AI (AG (AE (Z (J E (AW E E (AD E XS (AF 1 D3 E (V E Iy (Y ?_)))))))))
 refine AT h E (fun hc2 h=>?_) fun hc2 h=>?_
 refine Z (J E (AW E E (AD E QF (Aj 1 E E E E aR E E E zT (Y (AL (Aa ?_)))))))
 obtain rfl:=zI h
 exact DM [1,2,3,4,5,6,7,8,9,10] 11 (DU E) E E ⟨Aq,CR,E,E⟩
 refine AI (AG (Z (J E (AW E E (AD E XS (AF 1 D3 E (V E Ay (AW E E (AD E XS (Aj 1 E E E E Mw E E E zT (Y (AE ?_))))))))))))
 refine AC h fun y1 hy1 h=>?_
 refine Ak Ca [0,1] (Bo [(true,0),(true,1),(true,2),(true,3),(true,4),(false,5),(false,6),(true,7),(true,8),(false,9)] (.last 10 .nil)) zK (J E (AW E E (AD E nw (AF 1 rI E (Ab [AA p1.page,vS p1.tag] E Cf E E (AZ 0 E) (SL.pick [4,5,6,7,8,9,10,0,1,2,3] 11 (BO 7 sH ((TM hy1 hT :)) E ⟨⟨7,E⟩,⟨8,E⟩,zT⟩ ?_)))))))
 refine J E (Al E E E (Al E E E (O E (BN (O E (Y (AE (Z (J E (V E Bg (Y ?_)))))))))))
 refine AT h E (fun hc3 h=>?_) fun hc3 h=>?_
 refine Z (J E (J E (AW E E (AD E QF (Aj 8 E E E E aR E E E zT (Y (AL (Aa ?_))))))))
 obtain rfl:=zI h
 exact DM [8,9,10,0,1,2,3,4,5,6] 11 (DU E) E E ⟨Aq,CR,E,E⟩
 refine AI (AG (Z ?_))
 refine AC h fun y2 hy2 h=>?_
 refine J E (Bp 0 sq (Wy hy2) E ?_)
 rintro _ _ ⟨v1,v2,rfl,rfl⟩
 refine J E (Al E E E (Al E E E ?_))
 refine Ag E Gk zU fun b2=>?_
 refine Bi 79 4 AJ (Bi 31 2 Af ?_)
 refine Br 3 E fun hv1 ho1=>?_
 refine Br 4 E fun hv2 ho2=>?_
 refine Aj 2 E E E E HD E (by simp only[Value.oneCell']at ho1 ho2;simp[Value.cells,Value.cells,Value.oneCell',ho1,ho2]) E zT (O E (Y (AE (Z (J E (V E Bg (Y ?_)))))))
 refine AT h E (fun hc4 h=>?_) fun hc4 h=>?_
 refine Z (J E (AW E E (AD E QF (Aj 13 E E E E aR E E E zT (Y (AL (Aa ?_)))))))
 obtain rfl:=zI h
 exact DM [13,14,15,5,6,7,8,9,10,11] 16 (DU E) E E ⟨Aq,CR,E,E⟩
 refine AI (AG (AE ?_))
 refine AC h fun l1 hl1 h=>?_
 refine Ak Ca [2,13] (Bo [(true,0),(true,1),(true,2),(true,3),(true,4),(true,5),(true,6),(false,7),(true,8),(true,9)] (.last 10 .nil)) zK (J E (J E (AW E E (AD E Ye (AF 1 FF E (AD E Fk (AF 0 FF E ?_)))))))
 refine Yi 15 3 hl1 (sz:=4) (enc:=AJ) zV E Bt B2 Oq EJ E zD E E E E (by simp[AJ,Value.oneCell']) (fun _=>⟨⟨2,E⟩,⟨13,E⟩,zT⟩) fun v3=>?_
 refine AW E E (AD E Ye (BN ?_))
 refine Br 15 E fun hv3 ho3=>?_
 refine Dy 13 E E E E K8 hv3 ho3 E zT (Y ?_)
 refine A4 (α:=Dm×Value×Value) (fun x=>GN p0_1 p0_2 p1 rec_ y1 y2 x.1=some r) (fun x=>[(0,vP BH 0),(3,vP b1 0),(4,vS y1.1),(6,vP b2 0)]) (fun x=>AN BH (.cells #[vP A2 0,x.2.1,x.2.2,vI x.1.count,vI x.1.err] 110)::AN A2 (.cells #[vP CP 0,Ba,AA p0_1.gen,AA p0_1.boot,Ap p0_1.num,EP] 69)::AN CP (.cells #[DC,DD,C9,Ap p0_2.rcnt,vS p0_2.rtag,AA p0_2.rboots,vI p0_2.left,vB p0_2.off] 132)::AH 9 1 DC eS p0_2.blk::AH 9 1 DD eS p0_2.pnd::AH 4 1 C9 eB p0_2.bads::AH 138 2 Ba A7 p0_1.ring::AH 4 1 EP eB p0_1.taken::AH 72 3 x.2.1 Ar x.1.out::AH 79 4 x.2.2 AJ x.1.rows::AN b1 (.cells #[AA p1.page,vS p1.tag] 31)::AN b2 (.cells #[vI y2.1.kind,AA y2.1.cx,AA y2.1.cy,vI y2.1.lev,v1,v2,AA y2.1.npage,vS y2.1.ntag] 148)::AH 79 4 v1 AJ y2.1.rows::AH 31 2 v2 Af y2.1.kids::H) ?_ (fun x D h=>?_)
 refine Z (O E (Y (AM ?_)))
 refine SX.heap (SX.mono (A5 (α:=Nat×Dm×Value×Value×Int) (fun x=>D2 p0_1 p0_2 p1 rec_ y1 y2 x.1 (x.2.1,x.2.2.2.2)=some r) (fun x=>[(0,vP BH 0),(3,vP b1 0),(4,vS y1.1),(6,vP b2 0),(8,vI x.2.2.2.2)]) (fun x=>AN BH (.cells #[vP A2 0,x.2.2.1,x.2.2.2.1,vI x.2.1.count,vI x.2.1.err] 110)::AN A2 (.cells #[vP CP 0,Ba,AA p0_1.gen,AA p0_1.boot,Ap p0_1.num,EP] 69)::AN CP (.cells #[DC,DD,C9,Ap p0_2.rcnt,vS p0_2.rtag,AA p0_2.rboots,vI p0_2.left,vB p0_2.off] 132)::AH 9 1 DC eS p0_2.blk::AH 9 1 DD eS p0_2.pnd::AH 4 1 C9 eB p0_2.bads::AH 138 2 Ba A7 p0_1.ring::AH 4 1 EP eB p0_1.taken::AH 72 3 x.2.2.1 Ar x.2.1.out::AH 79 4 x.2.2.2.1 AJ x.2.1.rows::AN b1 (.cells #[AA p1.page,vS p1.tag] 31)::AN b2 (.cells #[vI y2.1.kind,AA y2.1.cx,AA y2.1.cy,vI y2.1.lev,v1,v2,AA y2.1.npage,vS y2.1.ntag] 148)::AH 79 4 v1 AJ y2.1.rows::AH 31 2 v2 Af y2.1.kids::H) (fun x=>x.1) (fun x D h=>?_) (n,{ p0 with rows:=l1,count:=wI (p0.count+1) },Aq,v3,0) h) tL) (BB [13,5,8,9,10,11,6,7,14,15,12,2,3,4] 16 rfl rfl rfl)
 obtain⟨m1,o2,v6,v7,a1⟩:=x
 dsimp only at h
 rcases m1 with _ | m1
 cases (show(none:Option _)=some r from h)
 replace h:C8 p0_1 p0_2 p1 rec_ y1 y2 (D2 p0_1 p0_2 p1 rec_ y1 y2 m1) o2 a1=some r:=h
 unfold C8 at h
 try dsimp only
 refine AE (Z (J E (AD E Dg (AF 11 Hi E (D0 13 E Ep E E (V E Aw (Y ?_)))))))
 refine AT h E (fun hc5 h=>?_) fun hc5 h=>?_
 refine AI (AG (AE (AM (AK ?_))))
 refine AC h fun x1 hx1 h=>?_
 refine AC h fun y3 hy3 h=>?_
 refine J E (AD E Dg (AF 11 Hi E (J E ?_)))
 refine BV 13 hx1 E Ep DH E E E fun g1 m2 cp1 hv4=>?_
 refine Ab (Af x1) E Cf E E (Cc (sz:=2) (enc:=Af) 13 zV E hv4 hx1) ?_
 refine SL.pick [0,8,9,1,6,7,2,3,4,5] 10 (Bp 10 gW ((hrec hy3 :)) E ?_)
 rintro _ _ ⟨v8,v9,rfl,rfl⟩
 refine AU (An (AG (AK ?_)))
 obtain⟨i_1,ei_1,h⟩:=Bn h
 refine J E (V E Ay ?_)
 refine Am (u:=vI i_1) E E (congrArg vI ei_1) ?_
 refine AU ?_
 exact Ai (m1,y3,v8,v9,i_1) h (Nat.lt_succ_self _) tL (BB [0,3,6,7,8,9,4,5,1,2,10,11,12,13] 14 E E E)
 refine Ax (A3 (BL (Az ?_)))
 exact Av (o2,v6,v7) h tL (BB [0,1,2,3,4,5,6,7,8,9,10,11,12,13] 14 E E E)
 obtain⟨o1,v4,v5⟩:=x
 dsimp only at h
 unfold GN at h
 try dsimp only
 refine A4 (α:=Dm×Value×Value) (fun x=>Da p1 y1 x.1=some r) (fun x=>[(0,vP BH 0),(3,vP b1 0),(4,vS y1.1)]) (fun x=>AN BH (.cells #[vP A2 0,x.2.1,x.2.2,vI x.1.count,vI x.1.err] 110)::AN A2 (.cells #[vP CP 0,Ba,AA p0_1.gen,AA p0_1.boot,Ap p0_1.num,EP] 69)::AN CP (.cells #[DC,DD,C9,Ap p0_2.rcnt,vS p0_2.rtag,AA p0_2.rboots,vI p0_2.left,vB p0_2.off] 132)::AH 9 1 DC eS p0_2.blk::AH 9 1 DD eS p0_2.pnd::AH 4 1 C9 eB p0_2.bads::AH 138 2 Ba A7 p0_1.ring::AH 4 1 EP eB p0_1.taken::AH 72 3 x.2.1 Ar x.1.out::AH 79 4 x.2.2 AJ x.1.rows::AN b1 (.cells #[AA p1.page,vS p1.tag] 31)::H) ?_ (fun x D h=>?_)
 refine Z (AD E E4 (AD E MY (AF 11 A6 E ?_)))
 refine V E (So (b:=0)) ?_
 refine Y ?_
 refine AT h E (fun hc6 h=>?_) fun hc6 h=>?_
 refine AK ?_
 refine AC h fun y4 hy4 h=>?_
 refine J rfl (AD rfl E4 (Ab [AA y2.1.npage,vS y2.1.ntag] rfl Cf rfl rfl (Cd 11 rfl (by rintro(_ | (_ | j)) u hj<;>first | exact hj | exact absurd hj zS)) (SL.pick [0,8,9,1,6,7,2,3,4,5] 10 (Bp 10 gW ((hrec hy4 :)) rfl ?_))))
 rintro _ _ ⟨v12,v13,rfl,rfl⟩
 refine AU ?_
 exact Av (y4,v12,v13) h tL (BB [0,3,6,7,8,9,4,5,1,2,10] 14 E E E)
 refine AI ?_
 exact Av (o1,v4,v5) h tL (BB [0,1,2,3,4,5,6,7,8,9,10] 14 E E E)
 obtain⟨o3,v10,v11⟩:=x
 dsimp only at h
 unfold Da at h
 try dsimp only
 refine AC h fun l2 hl2 h=>?_
 refine Ak Ca [0,10] (Bo [(true,0),(true,1),(true,2),(true,3),(true,4),(true,5),(true,6),(true,7),(false,8),(false,9),(true,10),(true,11)] (.last 12 .nil)) zK (J E (J E (AW E E (AD E SK (AF 0 LH E (J E (Ab [AA p1.page,vS p1.tag] E Cf E E (AZ 1 E) ?_)))))))
 refine BK [_,_] E lm oV RU ⟨E,E,zT⟩ E ?_
 refine Bz [_] rfl He Mz RU ⟨rfl,trivial⟩ rfl rfl rfl zW rfl rfl (fun _=>⟨⟨1,rfl⟩,⟨11,rfl⟩,trivial⟩) fun b3=>?_
 refine B4 Ar 3 ([(⟨y1.1,p1.page,p1.tag⟩:BG)]:List BG) E zV E ?_
 refine CW 9 hl2 (sz:=3) (enc:=Ar) zV E He Mz jm RU E zD E E E E (By (sz:=3) (enc:=Ar) 0 zV E) (by simp[Ar,Value.oneCell']) (fun _=>⟨⟨1,E⟩,⟨11,E⟩,zT⟩) fun v14=>?_
 refine AW E E (AD E SK (BN ?_))
 refine Br 9 E fun hv5 ho4=>?_
 refine Dy 1 E E E E jT hv5 ho4 E zT (AU ?_)
 obtain rfl:=zI h
 exact Cr (DU E) (AY (M:=[_,_,_,_,_,_,_,_,_,_]) ⟨v14,v11,E,E⟩ fun _ hw=>BZ.pick (H:=[_,_,_,_,_,_,_,_,_,_,_,_]) hw [1,9,10,2,7,8,3,4,5,6] 12 E)
end

section
variable {K:Nat→Prop}{w0:World}{H:List AV}
structure TL where
 out:List BG
 err:Int
def P5(must:List BG)(s:List UInt8)(out:List BG)(e:Int):Option (Ac×TL):=
 cond (!decide (e=0)) (some (⟨0,[]⟩,⟨out,e⟩))
  ((OF (decide ((must.length:Int)≤(out.length:Int))) ((Ao must (out.length:Int)).bind fun m=>some (!decide (m.txt=s)))).bind fun y=>
   cond y (some (⟨0,[]⟩,⟨out,61⟩)) ((Ao must (out.length:Int)).bind fun m=>(Cp 40 out [m]).bind fun l=>some (⟨m.page,m.tag⟩,⟨l,e⟩)))
def Ms(n:Nat)(must:List BG)(x:BR)(k:TL):Option (Ac×TL):=
 (Ej n x).bind fun y=>P5 must y.1 k.out (bif !decide (y.2=0)&&decide (k.err=0)then y.2 else k.err)
theorem k7{n bk:Nat}{vm vo v4 v5:Value}{must:List BG}{x:BR}{k:TL}{r:Ac×TL}(h:Ms n must x k=some r)(hm:CJ K w0 Ar 3 vm must)(hs4:CJ K w0 AJ 4 v4 x.rows)(hs5:CJ K w0 Af 2 v5 x.kids):
  zC K w0 89 [vP bk 0,.agg #[vI x.kind,AA x.cx,AA x.cy,vI x.lev,v4,v5,AA x.npage,vS x.ntag]] [AN bk (.cells #[.pointer none,.slice none 0 0,vo,.slice none 0 0,vI k.err,vm] 115),AH 72 3 vo Ar k.out] H
   (fun u M=>u=.agg (Af r.1).toArray∧∃vo',M=[AN bk (.cells #[.pointer none,zN,vo',zN,vI r.2.err,vm] 115),AH 72 3 vo' Ar r.2.out]):=by
 obtain⟨out,er⟩:=k
 unfold Ms at h
 obtain⟨⟨s,e⟩,hy,h⟩:=bnd h
 dsimp only at h
 refine UJ.enter Tryz.func89 rfl rfl ?_
 refine Z ?_
 refine Bd E E zU fun b0=>?_
 refine Ag E Dc zU fun b1=>?_
 refine Y (Z (Ab [vI x.kind,AA x.cx,AA x.cy,vI x.lev,v4,v5,AA x.npage,vS x.ntag] E FE E E (AZ 1 E) (AQ 0 pI (Ws hy hs4 hs5) E (J E (Al E E E (Al E E E (O E (O E (Y ?_)))))))))
 refine A4 (α:=Int) (fun e=>P5 must s out e=some r) (fun _=>[(0,vP bk 0),(4,vP b1 0),(5,vS s)]) (fun e=>AN b1 (.cells #[AA 0,vS []] 31)::AN b0 (.cells #[vI x.kind,AA x.cx,AA x.cy,vI x.lev,v4,v5,AA x.npage,vS x.ntag] 148)::AN bk (.cells #[.pointer none,zN,vo,zN,vI e,vm] 115)::AH 72 3 vo Ar out::H) ?_ (fun e D h=>?_)
 refine Z (J E (V E Bg (J E ?_)))
 refine Cw (c:=decide (er=0)) 18 6 24 E (fun hb k=>?_) (fun hb k=>?_) ?_
 refine J E (AW E E (AD E R3 (AF 2 Rq E (V E CH (Ae E E E ?_)))))
 exact k.mono tL
 refine AB E (AB E (AB E (AB E (AB E (Ae E E E ?_)))))
 exact k.mono tL
 refine Y ?_
 refine As E (fun hc1=>?_) (fun hc1=>?_)
 rw[hc1,Be]at h
 refine AK (J E (J E (AW E E (AD E R3 (Aj 2 E E E E aR E E E zT (AU ?_))))))
 exact Av e h tL (fun _ h=>h)
 rw[hc1,BD]at h
 refine AI ?_
 exact Av er h tL (fun _ h=>h)
 unfold P5 at h
 refine AE (Z (J E (AW E E (AD E R3 (AF 2 Rq E (V E Bg (Y ?_)))))))
 refine AT h E (fun hc2 h=>?_) fun hc2 h=>?_
 obtain rfl:=zI h
 refine Z (BK [] E LR LU Dc zT E (Aj 0 E E E E DH E E E zT (Y (AL (Aa ?_)))))
 exact AX (FD E (BC 0 (Af ⟨0,[]⟩) Cf E E E E)) (AY (M:=[_,_]) ⟨E,vo,E⟩ fun _ hw=>BZ.pick (H:=[_,_,_,_]) hw [2,3] 4 E)
 refine AC h fun y3 hy3 h=>?_
 refine AI (AG (AE (Z (J E (AW E E (AD E nh (AF 2 rI E (HW E uD E E (Y (S7 E (Z (J E (AW E E ?_)))))))))))))
 refine AD E VB (AF 2 LH E (D0 3 E He E E (O E (Y (AE (Z (J E (J E (AW E E (AD E UZ ?_))))))))))
 refine AF 2 LH E (B1 hm E He E (V E Iy (J E ?_)))
 refine Lp 52 11 63 hy3 E (fun hb k=>?_) (fun hb hg k=>?_) ?_
 refine AB E (AB E (AB E (AB E (AB E (AB E (AB E (AB E ?_)))))))
 refine AB E (AB E (Ae E E E ?_))
 exact k.mono tL
 refine AC hg fun m hm1 hg=>?_
 obtain rfl:=zI hg
 refine J E (AW E E (AD E UZ (AF 2 LH E (J E ?_))))
 refine Cm hm1 hm E He Mz E E fun be of_ hcc=>?_
 refine AD E dE ?_
 refine Bh E FX E (DA (j:=0) hcc E) ?_
 refine J E (V E Ij (Ae E E E ?_))
 exact k.mono tL
 refine Y ?_
 refine AT h E (fun hc3 h=>?_) fun hc3 h=>?_
 obtain rfl:=zI h
 refine Z (J E (AW E E (AD E R3 (Aj 2 E E E E aR E E E zT (Y (Z (BK [] E LR LU Dc zT E (Aj 0 E E E E DH E E E zT (Y (AL (Aa (Aa ?_))))))))))))
 exact AX (FD E (BC 0 (Af ⟨0,[]⟩) Cf E E E E)) (AY (M:=[_,_]) ⟨E,vo,E⟩ fun _ hw=>BZ.pick (H:=[_,_,_,_]) hw [2,3] 4 E)
 refine AC h fun m hm1 h=>?_
 refine AC h fun l hl h=>?_
 obtain rfl:=zI h
 refine AI (AG (AE (Ak Ca [2] (Bo [(true,0),(true,1),(true,2),(true,3),(true,4),(true,5),(true,6),(true,7),(true,8),(true,9),(true,10),(true,11),(false,12),(false,13),(true,14),(true,15)] (.last 16 .nil)) zK (J E (J E (AW E E (AD E VB (AF 0 LH E (J E (AW E E ?_))))))))))
 refine AD E UZ (AF 0 LH E (J E ?_))
 refine Cm hm1 hm E He Mz E E fun be of_ hcc=>?_
 refine Ab (Ar m) E i6 E E (C2 hcc) ?_
 refine Bz [_] rfl He Mz RU ⟨rfl,trivial⟩ rfl rfl rfl zW rfl rfl (fun _=>⟨⟨3,rfl⟩,trivial⟩) fun b6=>?_
 refine B4 Ar 3 ([m]:List BG) E zV E ?_
 refine CW 4 hl (sz:=3) (enc:=Ar) zV E He Mz jm RU E zD E E E E (By (sz:=3) (enc:=Ar) 0 zV E) (by simp[Ar,Value.oneCell']) (fun _=>⟨⟨3,E⟩,zT⟩) fun v3=>?_
 refine AW E E (AD E VB (BN ?_))
 refine Br 4 E fun hv3 ho3=>?_
 refine Dy 3 E E E E jT hv3 ho3 E zT (Y (Z (J E (AW E E (AD E UZ (AF 3 LH E (J E ?_)))))))
 refine Cm hm1 hm E He Mz E E fun be2 of2 hcc2=>?_
 refine AD E XE ?_
 refine Ab [AA m.page,vS m.tag] E Cf E E (fun w hw j u hu=>by
  rw[CE,Nat.add_assoc]
  refine hcc2 _ w hw (1+j) u ?_
  rw[Nat.add_comm 1 j]
  exact hu) ?_
 refine Aj 1 E E E E DH E E E zT (Y (AL (Aa ?_)))
 exact AX (FD E (BC 1 (Af ⟨m.page,m.tag⟩) Cf E E E E)) (AY (M:=[_,_]) ⟨E,v3,E⟩ fun _ hw=>BZ.pick (H:=[_,_,_,_,_]) hw [3,4] 5 E)
end

section
variable {P:Program}{ro:Option Nat}{K:Nat→Prop}{w0:World}{N:Nat}{Q:C7}{D:List Nat}{l l':Tm}{H H' Hs L:List AV}{ops:Array Oper}{items:Ic}
variable {tk:Bool}{o:Oper}{t:Nat}{v:Value}{x y z:Operand}
variable {α:Type}{enc:α→List Value}{sz:Nat}{xs us:List α}{e ty:TypeId}
def ml(K:Nat→Prop)(w0:World)(M:List AV)(enc:α→List Value)(v:Value)(us:List α):Prop:=
 (v=.slice none 0 0∧us=[])∨∃ad cap,v=.slice (some ad) us.length cap∧∀w,F1 K w0 M w→∀j u,(us.flatMap enc)[j]? = some u→w.cell? (ad.add j)=some u
theorem YY{w:World}{i g n cap j:Nat}{u:Value}(hi:L[i]? = some (AH e sz (.slice (some ⟨g,0,none⟩) n cap) enc xs))(hw:F1 K w0 L w)(hu:(xs.flatMap enc)[j]? = some u):w.cell? ⟨g,j,none⟩=some u:=by
 have hrow:w.ownsRow 0 e sz (.slice (some ⟨g,0,none⟩) n cap) xs.length (xs.flatMap enc):=hw.holds _ (List.mem_of_getElem? hi)
 have:=(World.ownsRowF_of hrow).cells (g:=g) rfl j u hu
 rw[CE,Nat.zero_add]at this
 exact this
theorem lg{k:IntKind}{j:Int}{e':TypeId}(i:Nat)(hn:Cz xs 0 j=some us)(hl:∀x,(enc x).length=sz)(ho:At ops N l o t (.slice ty x none (some z) none))(hty:P.underlying ty=some (.slice e'))(hsz:C3 P e'=some sz)(hx:Bf l x=some v)(hz:Bf l z=some (.int k j))(hi:H[i]? = some (AH e sz v enc xs))
(h:∀v',ml K w0 H enc v' us→SL P ro K w0 N ops Hs items Q D ((t,v')::l) H):SL P ro K w0 N ops Hs (.cons (false,o) items) Q D l H:=by
 intro a w ha hw hs0
 have hrow:w.ownsRow 0 e sz v xs.length (xs.flatMap enc):=hw.holds _ (List.mem_append_left _ (List.mem_of_getElem? hi))
 obtain⟨h1,h2,h3,h4,rfl⟩:=NT hn
 have hj:j=(j.toNat:Int):=zO
 have hpre:xs=xs.take j.toNat++xs.drop j.toNat:=(List.take_append_drop ..).symm
 have e2:(xs.drop (0:Int).toNat).take (j.toNat-(0:Int).toNat)=xs.take j.toNat:=by simp
 rw[e2]at h
 rcases hrow.2 with⟨rfl,h0⟩ | ⟨g,cap,cur,rfl,_,_,hnc,_⟩
 have hxs:xs=[]:=List.length_eq_zero_iff.1 h0
 subst hxs
 have hj0:j=0:=by simp at h4;omega
 subst hj0
 refine SL.val (v:=.slice none 0 0) ho E (fun a w ha _=>?_) (h _ (.inl ⟨E,by simp⟩)) a w ha hw hs0
 simp only[execOp,ho.op,Instr.sliceAt,Instr.slice,Option.map]
 simp[ha.eval hx,ha.eval hz,A0 hty,CZ hsz,Instr.sliceBounds,Instr.sliceBound,asIntOf]
 have hle:j.toNat≤xs.length:=h4
 refine Y5 j.toNat ho hty hsz hx hz hj zO (h _ (.inr ⟨⟨g,0,none⟩,cap,?_,fun w hw j' u hu=>?_⟩)) a w ha hw hs0
 rw[List.length_take,Nat.min_eq_left hle]
 rw[CE,Nat.zero_add]
 refine YY hi hw ?_
 rw[hpre,List.flatMap_append,List.getElem?_append_left (List.getElem?_eq_some_iff.1 hu).1]
 exact hu
theorem nP{k:IntKind}{j:Int}{e':TypeId}(i:Nat)(hn:Cz xs j (xs.length:Int)=some us)(hl:∀x,(enc x).length=sz)(ho:At ops N l o t (.slice ty x (some z) none none))(hty:P.underlying ty=some (.slice e'))(hsz:C3 P e'=some sz)(hx:Bf l x=some v)(hz:Bf l z=some (.int k j))(hi:H[i]? = some (AH e sz v enc xs))
(h:∀v',ml K w0 H enc v' us→SL P ro K w0 N ops Hs items Q D ((t,v')::l) H):SL P ro K w0 N ops Hs (.cons (false,o) items) Q D l H:=by
 intro a w ha hw hs0
 have hrow:w.ownsRow 0 e sz v xs.length (xs.flatMap enc):=hw.holds _ (List.mem_append_left _ (List.mem_of_getElem? hi))
 obtain⟨h1,h2,h3,h4,rfl⟩:=NT hn
 have hj:j=(j.toNat:Int):=zO
 have hpre:xs=xs.take j.toNat++xs.drop j.toNat:=(List.take_append_drop ..).symm
 have e2:(xs.drop j.toNat).take ((xs.length:Int).toNat-j.toNat)=xs.drop j.toNat:=List.take_of_length_le zS
 rw[e2]at h
 have hq:j.toNat≤xs.length:=by simpa using h3
 generalize j.toNat=q at*
 subst hj
 rcases hrow.2 with⟨rfl,h0⟩ | ⟨g,cap,cur,rfl,_,_,hnc,_⟩
 have hxs:xs=[]:=List.length_eq_zero_iff.1 h0
 subst hxs
 have hj0:q=0:=by simpa using hq
 subst hj0
 refine SL.val (v:=.slice none 0 0) ho E (fun a w ha _=>?_) (h _ (.inl ⟨E,by simp⟩)) a w ha hw hs0
 simp only[execOp,ho.op,Instr.sliceAt,Instr.slice,Option.map]
 simp[ha.eval hx,ha.eval hz,A0 hty,CZ hsz,Instr.sliceBounds,Instr.sliceBound,asIntOf]
 by_cases hqc:q<cap
 refine ZR q ho hty hsz hx hz E hq hqc (h _ (.inr ⟨⟨g,0+q*sz,none⟩,cap-q,?_,fun w hw j' u hu=>?_⟩)) a w ha hw hs0
 rw[List.length_drop]
 rw[CE,Nat.zero_add]
 refine YY hi hw ?_
 have hlen:((xs.take q).flatMap enc).length=q*sz:=by rw[H8 hl,List.length_take,Nat.min_eq_left hq]
 rw[hpre,List.flatMap_append,List.getElem?_append_right zO,hlen,Nat.add_sub_cancel_left]
 exact hu
 have hqe:q=xs.length:=zO
 have hce:cap=xs.length:=zO
 subst hqe hce
 refine SL.val (v:=.slice (some ⟨g,0,none⟩) 0 0) ho E (fun a w ha _=>?_) (h _ (.inr ⟨⟨g,0,none⟩,0,by simp,fun w hw j' u hu=>by simp at hu⟩)) a w ha hw hs0
 simp only[execOp,ho.op,Instr.sliceAt,Instr.slice,Option.map]
 simp[ha.eval hx,ha.eval hz,A0 hty,CZ hsz,Instr.sliceBounds,Instr.sliceBound,asIntOf,CE]
theorem eG{by_:Nat}{zv u:Value}{new:List α}(k:Nat)(hn:Cp by_ xs new=some us)(hu:ml K w0 H enc u new)(hl:∀x,(enc x).length=sz)(ho:At ops N l o t (.call { callee:=.builtin .append,args:=#[x,y],argTypes:=#[ty,ty] }))
(hty:P.underlying ty=some (.slice e))(hsz:C3 P e=some sz)(hby:PD P e=some by_)(hze:ES P e=some zv)(hzs:zv.cells.size=sz)(hsz0:0<sz)
(hx:Bf l x=some v)(hy:Bf l y=some u)(hk:H[k]? = some (AH e sz v enc xs))(h1:∀a,∀u∈enc a,u.oneCell'=true)
(hs:∀v',En Hs (H.set k (AH e sz v' enc us)))
(h:∀v',SL P ro K w0 N ops Hs items Q D ((t,v')::l) (H.set k (AH e sz v' enc us))):SL P ro K w0 N ops Hs (.cons (false,o) items) Q D l H:=by
 rcases hu with⟨rfl,rfl⟩ | ⟨ad,cap,rfl,hc⟩
 obtain rfl:=Ve hn
 have h2:=hs v
 have h3:=h v
 rw[VU hk]at h2 h3
 exact Xs k ho hty hsz hby hze hx hy hk h2 h3
 exact CW k hn hl ho hty hsz hby hze hzs hsz0 hx hy E hk hc h1 hs h
end

section
variable {P:Program}{ro:Option Nat}{K:Nat→Prop}{w0:World}{N:Nat}{Q:C7}{D:List Nat}{l l':Tm}{H H' Hs L:List AV}{ops:Array Oper}{items:Ic}
variable {tk:Bool}{o:Oper}{t:Nat}{v:Value}{x y z:Operand}
theorem lV{b off n c sz:Nat}{k k':IntKind}{i j:Int}{ty e:TypeId}(p q:Nat)(ho:At ops N l o t (.slice ty x (some y) (some z) none))(hty:P.underlying ty=some (.slice e))(hsz:C3 P e=some sz)(hx:Bf l x=some (.slice (some ⟨b,off,none⟩) n c))(hy:Bf l y=some (.int k i))(hz:Bf l z=some (.int k' j))
(hi:i=(p:Int))(hj:j=(q:Int))(hp:p≤q)(hq:q≤c)(hpc:p<c)(h:SL P ro K w0 N ops Hs items Q D ((t,.slice (some ⟨b,off+p*sz,none⟩) (q-p) (c-p))::l) H):SL P ro K w0 N ops Hs (.cons (tk,o) items) Q D l H:=
 SL.val ho rfl (fun a w ha _=>by
  subst hi hj
  have hne:¬c=p:=zO
  simp only[execOp,ho.op,Instr.sliceAt,Instr.slice,Option.map]
  simp[ha.eval hx,ha.eval hy,ha.eval hz,A0 hty,CZ hsz,Instr.sliceBounds,Instr.sliceBound,asIntOf,hq,hp,CE];omega) h
theorem n6{α:Type}{enc:α→List Value}{sz:Nat}{xs us:List α}{k k':IntKind}{i j:Int}{ty e:TypeId}(hn:Cz xs i j=some us)(hk:CJ K w0 enc sz v xs)(ho:At ops N l o t (.slice ty x (some y) (some z) none))(hty:P.underlying ty=some (.slice e))(hsz:C3 P e=some sz)(hx:Bf l x=some v)(hy:Bf l y=some (.int k i))(hz:Bf l z=some (.int k' j))
(h:∀v',CJ K w0 enc sz v' us→SL P ro K w0 N ops Hs items Q D ((t,v')::l) H):SL P ro K w0 N ops Hs (.cons (tk,o) items) Q D l H:=by
 obtain⟨h1,h2,h3,h4,rfl⟩:=NT hn
 have hi:i=(i.toNat:Int):=zO
 have hj:j=(j.toNat:Int):=zO
 generalize i.toNat=p at*
 generalize j.toNat=q at*
 subst hi hj
 rcases hk.at_ with⟨a0,rfl,rfl⟩ | ⟨b,off,cap,rfl,hcap,hc⟩
 have hq:q=0:=by simpa using h4
 have hp:p=0:=zO
 subst hq hp
 refine SL.val (v:=.slice a0 0 0) ho E (fun a w ha _=>?_) (h _ ⟨hk.len,.inl ⟨_,E,by simp⟩⟩)
 simp only[execOp,ho.op,Instr.sliceAt,Instr.slice,Option.map]
 cases a0<;>simp[ha.eval hx,ha.eval hy,ha.eval hz,A0 hty,CZ hsz,Instr.sliceBounds,Instr.sliceBound,asIntOf]
 have hl:((xs.drop p).take (q-p)).length=q-p:=by simp;omega
 by_cases hpc:p<cap
 refine lV p q ho hty hsz hx hy hz E E h3 zO hpc (h _ ⟨hk.len,.inr ⟨b,off+p*sz,cap-p,by rw[hl],by rw[hl];omega,fun j' u hu=>?_⟩⟩)
 have hc':=(CJ.cut hk.len hcap hc (show p≤xs.length by omega)).at_
 have hpre:((xs.drop p).take (q-p))++((xs.drop p).drop (q-p))=xs.drop p:=List.take_append_drop ..
 have hlen:((xs.take p).flatMap enc).length=p*sz:=by rw[H8 hk.len,List.length_take,Nat.min_eq_left zO]
 have:=hc (p*sz+j') u (by
  rw[←List.take_append_drop p xs,List.flatMap_append,List.getElem?_append_right zO,hlen,Nat.add_sub_cancel_left,←hpre,List.flatMap_append,List.getElem?_append_left (List.getElem?_eq_some_iff.1 hu).1]
  exact hu)
 rw[Nat.add_assoc]
 exact this
 have hpe:p=cap:=zO
 have hqe:q=p:=zO
 subst hqe
 refine SL.val (v:=.slice (some ⟨b,off,none⟩) 0 0) ho E (fun a w ha _=>?_) (h _ ⟨hk.len,.inl ⟨_,E,by simp⟩⟩)
 simp only[execOp,ho.op,Instr.sliceAt,Instr.slice,Option.map]
 simp[ha.eval hx,ha.eval hy,ha.eval hz,A0 hty,CZ hsz,Instr.sliceBounds,Instr.sliceBound,asIntOf,CE,hpe]
end

section
variable {K:Nat→Prop}{w0:World}{H:List AV}
def rn{σ α:Type}(bk:Nat)(I:(Nat→Prop)→World→Prop)(C:α→σ→List AV)(pl:BR→σ→Option (Ac×σ)):Prop:=
 ∀ {K:Nat→Prop} {w0:World} {H:List AV} {v4 v5:Value} {a:α} {x:BR} {q:σ} {r:Ac×σ},I K w0→pl x q=some r→CJ K w0 AJ 4 v4 x.rows→CJ K w0 Af 2 v5 x.kids→
  zC K w0 89 [vP bk 0,.agg #[vI x.kind,AA x.cx,AA x.cy,vI x.lev,v4,v5,AA x.npage,vS x.ntag]] (C a q) H (fun u M=>u=.agg (Af r.1).toArray∧∃a',M=C a' r.2)
def Q5{σ:Type}(rec_:Bc→σ→Option (Ac×σ)):List Bc→σ→List Ac→Option (List Ac×σ)
 | [],q,acc=>some (acc,q)
 | k::ks,q,acc=>(rec_ k q).bind fun y=>(Cp 24 acc [y.1]).bind fun a=>Q5 rec_ ks y.2 a
def Rs{σ:Type}(pl:BR→σ→Option (Ac×σ))(l:List AP):Nat→Ac→σ→Option (Ac×σ)
 | 0,r,q=>some (r,q)
 | j+1,r,q=>(Cz l (4*(j:Int)) (min (l.length:Int) (4*(j:Int)+4))).bind fun p=>(pl ⟨1,0,0,0,p,[],r.page,r.tag⟩ q).bind fun y=>Rs pl l j y.1 y.2
def Ql{σ:Type}(pl:BR→σ→Option (Ac×σ)):Nat→Bc→σ→Option (Ac×σ)
 | 0,_,_=>none
 | f+1,t,q=>if 1048576<t.rows.length∨1048576<t.kids.length then none else cond (decide (0<(t.kids.length:Int)))
   ((Q5 (Ql pl f) t.kids q []).bind fun y=>pl ⟨2,t.cx,t.cy,t.lev,[],y.1,0,[]⟩ y.2)
   (Rs pl t.rows ((max t.rows.length 1-1) / 4+1) ⟨0,[]⟩ q)
theorem fI{σ α:Type}{bk:Nat}{I:(Nat→Prop)→World→Prop}{C:α→σ→List AV}{pl:BR→σ→Option (Ac×σ)}(hI:∀ {K w0 K' w1},I K w0→Vz K w0 K' w1→I K' w1)(hpl:rn bk I C pl):
  ∀(f:Nat) {K:Nat→Prop} {w0:World} {H:List AV} {ca:α} {a:Et} {t:Bc} {q:σ} {r:Ac×σ},I K w0→Ql pl f t q=some r→NX K w0 a t→
  zC K w0 56 [vP bk 0,.agg (B9 a).toArray] (C ca q) H (fun u M=>u=.agg (Af r.1).toArray∧∃ca',M=C ca' r.2)
 | 0,K,w0,H,ca,a,t,q,r,hi,h,hN=>by cases h
 | f+1,K,w0,H,ca,a,t,q,r,hi,h,hN=>by
  have h:(if 1048576<t.rows.length∨1048576<t.kids.length then none else cond (decide (0<(t.kids.length:Int)))
   ((Q5 (Ql pl f) t.kids q []).bind fun y=>pl ⟨2,t.cx,t.cy,t.lev,[],y.1,0,[]⟩ y.2)
   (Rs pl t.rows ((max t.rows.length 1-1) / 4+1) ⟨0,[]⟩ q))=some r:=h
  split at h
  cases h
  rename_i hbig
  have hrl:t.rows.length≤1048576:=zO
  have hkl:t.kids.length≤1048576:=zO
  clear hbig
  obtain⟨rv,kv,rfl,hr,hk⟩:=hN.parts
  refine UJ.enter Tryz.func56 rfl rfl ?_
  refine Z ?_
  refine Bd E E zU fun b0=>?_
  refine Ag E Dc zU fun b1=>?_
  refine Y (AE (Z (AD E JT (AF 1 Tp E (Ss hk E OB E (V E CY (Y ?_)))))))
  refine AT h E (fun hc1 h=>?_) fun hc1 h=>?_
  refine Z (AD rfl OD (Ab [AA t.cx,AA t.cy,vI t.lev] rfl Eg rfl rfl (Cd 1 rfl (by rintro(_ | (_ | (_ | j))) u hj<;>first | exact hj | exact absurd hj zS)) (BK [_,_] rfl Pu Ph Gk ⟨rfl,rfl,trivial⟩ rfl ?_)))
  refine Ag E Gk zU fun b5=>?_
  refine Aj 0 E E E E HD E E E zT (Dv 0 (AN b5 (.cells #[vI 2,AA t.cx,AA t.cy,vI t.lev,zN,zN,AA 0,vS []] 148)) (Bi 31 2 Af (Y (AE (Z (O E (Y (AM ?_))))))))
  refine SX.heap (SX.mono (A5 (α:=Nat×List Ac×Value×σ×α) (fun x=>x.1≤t.kids.length∧((Q5 (Ql pl f) (t.kids.drop x.1) x.2.2.2.1 x.2.1).bind fun y=>pl ⟨2,t.cx,t.cy,t.lev,[],y.1,0,[]⟩ y.2)=some r)
   (fun x=>[(0,vP bk 0),(3,vP b0 0),(4,vP b1 0),(5,vP b5 0),(6,vI (x.1:Int))])
   (fun x=>AN b5 (.cells #[vI 2,AA t.cx,AA t.cy,vI t.lev,zN,x.2.2.1,AA 0,vS []] 148)::AH 31 2 x.2.2.1 Af x.2.1::AN b1 (.cells #[AA 0,vS []] 31)::AN b0 (.cells #[AA t.cx,AA t.cy,vI t.lev,rv.val,kv.val] 57)::(C x.2.2.2.2 x.2.2.2.1++H))
   (fun x=>t.kids.length-x.1) (fun x D hp=>?_) (0,[],zN,q,ca) ⟨Nat.zero_le _,h⟩) tL) (BB [1,0,2,3] 4 rfl rfl rfl)
  clear h
  obtain⟨i,ks,vk,q1,ca1⟩:=x
  obtain⟨hi',h⟩:=hp
  dsimp only at hi' h ⊢
  refine AE (Z (J E (AD E JT (AF 3 Tp E (Ss hk E OB E (V E Aw (Y ?_)))))))
  refine As E (fun hc2=>?_) (fun hc2=>?_)
  have hlt:i<t.kids.length:=by
   have:=of_decide_eq_true hc2
   omega
  clear hc2
  have hnth:Ao t.kids (i:Int)=some t.kids[i]:=by
   rw[Ao,if_pos zO]
   exact List.getElem?_eq_getElem hlt
  rw[List.drop_eq_getElem_cons hlt,Q5]at h
  refine AC h fun z hz h=>?_
  obtain⟨y,hy,hz⟩:=bnd hz
  obtain⟨ac,hac,hz⟩:=bnd hz
  have h2:((Q5 (Ql pl f) (t.kids.drop (i+1)) y.2 ac).bind fun y=>pl ⟨2,t.cx,t.cy,t.lev,[],y.1,0,[]⟩ y.2)=some r:=by
   rw[hz];exact h
  refine AI (AG (AE (AM (Ak Ca [0,3] (Bo [(true,0),(true,1),(true,2),(true,3),(true,4),(true,5),(true,6),(true,7),(false,8),(false,9),(false,10),(true,11)] (.last 12 .nil)) zK (AD E Dg (AF 0 Hi E (J E (AD E JT (AF 1 Tp E (J E ?_))))))))))
  refine dz hnth hk E OB Ia E E fun b6 of6 rv6 kv6 hr6 hk6 hc6=>?_
  obtain⟨rs6,rfl⟩:=hr6.slv
  obtain⟨kk6,hk61,hk62⟩:=hk6
  obtain⟨ks6,rfl⟩:=hk61.slv
  have hN6:NX K w0 ⟨t.kids[i].cx,t.kids[i].cy,t.kids[i].lev,rs6,ks6⟩ t.kids[i]:=NX.of hr6 ⟨kk6,hk61,hk62⟩
  refine Ab [AA t.kids[i].cx,AA t.kids[i].cy,vI t.kids[i].lev,rs6.val,ks6.val] E MK E E (C2 hc6) ?_
  refine SL.heap ?_ (fun _ hw=>EB (A:=[AN b5 (.cells #[vI 2,AA t.cx,AA t.cy,vI t.lev,zN,vk,AA 0,vS []] 148),AH 31 2 vk Af ks,AN b1 (.cells #[AA 0,vS []] 31),AN b0 (.cells #[AA t.cx,AA t.cy,vI t.lev,rv.val,kv.val] 57)]) (B:=C ca1 q1) (R:=H) hw)
  have hcon:=fI hI hpl f (ca:=ca1) (K:=K) (w0:=w0) (H:=([AN b5 (.cells #[vI 2,AA t.cx,AA t.cy,vI t.lev,.slice none 0 0,vk,AA 0,vS []] 148),AH 31 2 vk Af ks,AN b1 (.cells #[AA 0,vS []] 31),AN b0 (.cells #[AA t.cx,AA t.cy,vI t.lev,rv.val,kv.val] 57)]++H)++[BP D]) hi hy hN6
  generalize hpo:(fun(u:Value) (M:List AV)=>u=.agg (Af y.1).toArray∧∃ca',M=C ca' y.2)=po at hcon
  refine Bm (vs:=[_,_]) (Hin:=C ca1 q1) (Hr:=[AN b5 (.cells #[vI 2,AA t.cx,AA t.cy,vI t.lev,zN,vk,AA 0,vS []] 148),AH 31 2 vk Af ks,AN b1 (.cells #[AA 0,vS []] 31),AN b0 (.cells #[AA t.cx,AA t.cy,vI t.lev,rv.val,kv.val] 57)]++H) E E ⟨E,E,zT⟩ oQ E E hcon ?_
  intro u0 M0 hpost
  rw[←hpo]at hpost
  obtain⟨rfl,ca2,rfl⟩:=hpost
  refine⟨En.mid (A:=[AN b5 (.cells #[vI 2,AA t.cx,AA t.cy,vI t.lev,zN,vk,AA 0,vS []] 148),AH 31 2 vk Af ks,AN b1 (.cells #[AA 0,vS []] 31),AN b0 (.cells #[AA t.cx,AA t.cy,vI t.lev,rv.val,kv.val] 57)]) ⟨⟨0,rfl⟩,⟨3,rfl⟩,trivial⟩,?_⟩
  refine SL.heap ?_ (fun _ hw=>EB (A:=C ca2 y.2) (B:=[AN b5 (.cells #[vI 2,AA t.cx,AA t.cy,vI t.lev,zN,vk,AA 0,vS []] 148),AH 31 2 vk Af ks,AN b1 (.cells #[AA 0,vS []] 31),AN b0 (.cells #[AA t.cx,AA t.cy,vI t.lev,rv.val,kv.val] 57)]) (R:=H) hw)
  refine Bz [_] rfl Ep DH Dc ⟨rfl,trivial⟩ rfl rfl rfl zW rfl rfl (fun _=>⟨⟨1,rfl⟩,⟨4,rfl⟩,trivial⟩) fun b8=>?_
  refine B4 Af 2 ([y.1]:List Ac) E zV E ?_
  refine CW 2 hac (sz:=2) (enc:=Af) zV E Ep DH en Dc E zD E E E E (By (sz:=2) (enc:=Af) 0 zV E) (by simp[Af,Value.oneCell']) (fun _=>⟨⟨1,E⟩,⟨4,E⟩,zT⟩) fun v6=>?_
  refine AD E Dg (BN ?_)
  refine Br 2 E fun hv6 ho6=>?_
  refine Dy 1 E E E E bj hv6 ho6 E zT (AU (An (AG (AK (J E (V E (BU zO zO) (O E (AU ?_))))))))
  exact Ai (i+1,ac,v6,y.2,ca2) ⟨hlt,h2⟩ (by dsimp only;omega) tL (BB [1,2,3,4] 5 E E E)
  have hge:i=t.kids.length:=by
   have:=of_decide_eq_false hc2
   omega
  subst hge
  rw[List.drop_length,Q5]at h
  replace h:pl ⟨2,t.cx,t.cy,t.lev,[],ks,0,[]⟩ q1=some r:=h
  refine Ax (A3 (BL (Az (AG (SX.pick [1,0,2,3] 4 (Z (J E (Ab [vI 2,AA t.cx,AA t.cy,vI t.lev,zN,vk,AA 0,vS []] E FE E E (AZ 1 E) ?_))))))))
  refine SL.heap ?_ (fun _ hw=>Y7 (A:=[AN b5 (.cells #[vI 2,AA t.cx,AA t.cy,vI t.lev,zN,vk,AA 0,vS []] 148),AN b1 (.cells #[AA 0,vS []] 31),AN b0 (.cells #[AA t.cx,AA t.cy,vI t.lev,rv.val,kv.val] 57)]) (B:=C ca1 q1) (R:=H) hw)
  have hcon:=Cb (K:=K) (w0:=w0) (H:=([AN b5 (.cells #[vI 2,AA t.cx,AA t.cy,vI t.lev,.slice none 0 0,vk,AA 0,vS []] 148),AN b1 (.cells #[AA 0,vS []] 31),AN b0 (.cells #[AA t.cx,AA t.cy,vI t.lev,rv.val,kv.val] 57)]++H)++[BP D]) (f:=89) (B:=[AH 31 2 vk Af ks]) (Hin:=C ca1 q1) fun K' w1 hkk hB=>hpl (a:=ca1) (v4:=.slice none 0 0) (v5:=vk) (hI hi hkk) h (Qr zV) (CC (e:=31) (v:=vk) zV (hB _ zS))
  refine Bm (vs:=[_,_]) (Hin:=AH 31 2 vk Af ks::C ca1 q1) (Hr:=[AN b5 (.cells #[vI 2,AA t.cx,AA t.cy,vI t.lev,zN,vk,AA 0,vS []] 148),AN b1 (.cells #[AA 0,vS []] 31),AN b0 (.cells #[AA t.cx,AA t.cy,vI t.lev,rv.val,kv.val] 57)]++H) E E ⟨E,E,zT⟩ nG E E hcon ?_
  rintro _ _ ⟨_,rfl,rfl,ca2,rfl⟩
  refine⟨trivial,?_⟩
  refine SL.heap ?_ (fun _ hw=>EB (A:=AH 31 2 vk Af ks::C ca2 r.2) (B:=[AN b5 (.cells #[vI 2,AA t.cx,AA t.cy,vI t.lev,zN,vk,AA 0,vS []] 148),AN b1 (.cells #[AA 0,vS []] 31),AN b0 (.cells #[AA t.cx,AA t.cy,vI t.lev,rv.val,kv.val] 57)]) (R:=H) hw)
  refine Aj 1 E E E E DH E E E zT (Y (AL (Aa ?_)))
  exact AX (FD E (BC 1 (Af r.1) Cf E E E E)) (AY (M:=C ca2 r.2) ⟨E,ca2,E⟩ fun _ hw=>BZ.pick (H:=[_,_,_,_]) hw [] 4 E)
  refine AI (AG (Z (BK [] E LR LU Dc zT E ?_)))
  refine Ag E Dc zU fun b7=>?_
  refine Aj 0 E E E E DH E E E zT (Y (AE (Z (AD E S9 (AF 2 FF E (B1 hr E Bt E (dp E E E (V E (Dh zO zO) (V E (kH zO zO zO) (V E (Ky zO zO) ?_))))))))))
  refine Am (u:=vI (4*(((max t.rows.length 1-1) / 4+1:Nat):Int)-4)) E E (congrArg vI zO) ?_
  refine Y (AM ?_)
  refine SX.mono (A5 (α:=Nat×Ac×σ×α) (fun x=>x.1≤300000∧Rs pl t.rows x.1 x.2.1 x.2.2.1=some r)
   (fun x=>[(0,vP bk 0),(3,vP b0 0),(4,vP b1 0),(7,vP b7 0),(8,vI (4*(x.1:Int)-4))])
   (fun x=>AN b7 (.cells #[AA x.2.1.page,vS x.2.1.tag] 31)::AN b1 (.cells #[AA 0,vS []] 31)::AN b0 (.cells #[AA t.cx,AA t.cy,vI t.lev,rv.val,kv.val] 57)::(C x.2.2.2 x.2.2.1++H))
   (fun x=>x.1) (fun x D hp=>?_) ((max t.rows.length 1-1) / 4+1,⟨0,[]⟩,q,ca) ⟨by dsimp only;omega,h⟩) tL
  clear h
  obtain⟨j,w,q1,ca1⟩:=x
  obtain⟨hj,h⟩:=hp
  dsimp only at hj h ⊢
  refine AE (Z (J E (V E Iy (Y ?_))))
  refine As E (fun hc2=>?_) (fun hc2=>?_)
  obtain⟨j,rfl⟩:∃j',j=j'+1:=⟨j-1,by have:=of_decide_eq_true hc2;omega⟩
  clear hc2
  refine AC h fun pc hpc h=>?_
  refine AC h fun y hy h=>?_
  refine AI (AG (AE (AM (Ak Ca [2,0] (Bo [(true,0),(true,1),(true,2),(true,3),(true,4),(true,5),(true,6),(true,7),(true,8),(true,9),(true,10),(true,11),(true,12),(false,13)] (.last 14 .nil)) zK (J E (AD E S9 (AF 0 FF E (J E (AD E S9 (AF 0 FF E (B1 hr E Bt E ?_)))))))))))
  refine J E (V E (BU zO zO) (P2 E E E ?_))
  have hpc':Cz t.rows (4*((j+1:Nat):Int)-4) (min (t.rows.length:Int) (4*((j+1:Nat):Int)-4+4))=some pc:=by
   rw[←hpc]
   congr 1<;>omega
  refine n6 hpc' hr E Bt B2 E E E fun vpc hspc=>?_
  obtain⟨spc,rfl⟩:=hspc.slv
  refine Ab (Af w) E Cf E E (AZ 1 E) (BK [_,_,_] E Pu Ph Gk ⟨E,E,E,zT⟩ E ?_)
  refine SL.heap ?_ (fun _ hw=>EB (A:=[AN b7 (.cells #[AA w.page,vS w.tag] 31),AN b1 (.cells #[AA 0,vS []] 31),AN b0 (.cells #[AA t.cx,AA t.cy,vI t.lev,rv.val,kv.val] 57)]) (B:=C ca1 q1) (R:=H) hw)
  have hcon:=hpl (K:=K) (w0:=w0) (H:=([AN b7 (.cells #[AA w.page,vS w.tag] 31),AN b1 (.cells #[AA 0,vS []] 31),AN b0 (.cells #[AA t.cx,AA t.cy,vI t.lev,rv.val,kv.val] 57)]++H)++[BP D]) (a:=ca1) (v4:=spc.val) (v5:=.slice none 0 0) hi hy hspc (Qr zV)
  refine Bm (vs:=[_,_]) (Hin:=C ca1 q1) (Hr:=[AN b7 (.cells #[AA w.page,vS w.tag] 31),AN b1 (.cells #[AA 0,vS []] 31),AN b0 (.cells #[AA t.cx,AA t.cy,vI t.lev,rv.val,kv.val] 57)]++H) E E ⟨E,E,zT⟩ nG E E hcon ?_
  rintro _ _ ⟨rfl,ca2,rfl⟩
  refine⟨En.mid (A:=[AN b7 (.cells #[AA w.page,vS w.tag] 31),AN b1 (.cells #[AA 0,vS []] 31),AN b0 (.cells #[AA t.cx,AA t.cy,vI t.lev,rv.val,kv.val] 57)]) ⟨⟨2,rfl⟩,⟨0,rfl⟩,trivial⟩,?_⟩
  refine SL.heap ?_ (fun _ hw=>EB (A:=C ca2 y.2) (B:=[AN b7 (.cells #[AA w.page,vS w.tag] 31),AN b1 (.cells #[AA 0,vS []] 31),AN b0 (.cells #[AA t.cx,AA t.cy,vI t.lev,rv.val,kv.val] 57)]) (R:=H) hw)
  refine BN (Aj 0 E E E E DH E E E zT (AU (An (AG (AK (J E (V E (Dh zO zO) ?_)))))))
  refine Am (u:=vI (4*(j:Int)-4)) E E (congrArg vI zO) ?_
  refine AU ?_
  exact Ai (j,y.1,y.2,ca2) ⟨by omega,h⟩ (by dsimp only;omega) tL (fun _ h=>h)
  obtain rfl:j=0:=by
   have:=of_decide_eq_false hc2
   omega
  obtain rfl:(w,q1)=r:=zI h
  refine Ax (A3 (BL (Az (AG (Z (Ab (Af w) E Cf E E (AZ 0 E) (Aj 1 E E E E DH E E E zT (Y (AL ?_)))))))))
  exact AX (FD E (BC 1 (Af w) Cf E E E E)) (AY (M:=C ca1 q1) ⟨E,ca1,E⟩ fun _ hw=>BZ.pick (H:=[_,_,_]) hw [] 3 E)
end

section
variable {K:Nat→Prop}{w0:World}{H:List AV}
def Lz(l1:List AP):Option (List AP):=
 some l1
def JO(a1:Int)(nx_f_ref14_sorted_l1:List AP×Int→Option (List AP))(l3:List AP):Option (List AP):=
 ret (wI (a1+1)) fun i_1=>
 nx_f_ref14_sorted_l1 (l3,i_1)
def HO(p0:List AP)(l2:List AP)(a1:Int)(nx_f_ref14_sorted_l1:List AP×Int→Option (List AP))(a2:Int):Option (List AP):=
 (Cz l2 0 a2).bind fun l4=>
 (Cp 32 [] l4).bind fun l5=>
 (Ao p0 a1).bind fun x4=>
 (Cp 32 l5 [x4]).bind fun l6=>
 (Cz l2 a2 (l2.length:Int)).bind fun l7=>
 (Cp 32 l6 l7).bind fun l8=>
 JO a1 nx_f_ref14_sorted_l1 l8
def GE(p0:List AP)(l2:List AP)(a1:Int)(nx_f_ref14_sorted_l1:List AP×Int→Option (List AP))(nx_f_ref14_sorted_l2:Int→Option (List AP))(a3:Int):Option (List AP):=
 (FZ (decide (0<a3)) ((Ao l2 (wI (a3-1))).bind fun x1=>(Ao p0 a1).bind fun x2=>some (decide (x2.id<x1.id)))).bind fun y1=>
 cond y1
 (
  ret (wI (a3-1)) fun x3=>
  nx_f_ref14_sorted_l2 x3)
 (
  HO p0 l2 a1 nx_f_ref14_sorted_l1 a3)
def Fu(p0:List AP)(l2:List AP)(a1:Int)(nx_f_ref14_sorted_l1:List AP×Int→Option (List AP)):Nat→Int→Option (List AP):=Bu fun nx x=>GE p0 l2 a1 nx_f_ref14_sorted_l1 nx x
def ED(n:Nat)(p0:List AP)(nx_f_ref14_sorted_l1:List AP×Int→Option (List AP))(l2:List AP)(a1:Int):Option (List AP):=
 cond (decide (a1<(p0.length:Int)))
 (
  Fu p0 l2 a1 nx_f_ref14_sorted_l1 n (l2.length:Int))
 (
  Lz l2)
def Ct(n:Nat)(p0:List AP):Nat→(List AP×Int)→Option (List AP):=Bu fun nx x=>ED n p0 nx x.1 x.2
def Lj(n:Nat)(p0:List AP):Option (List AP):=
 Ct n p0 n ([],0)
theorem Wr{n:Nat}{B3:Value}{p0 r:List AP}(h:Lj n p0=some r)(hs0_:CJ K w0 AJ 4 B3 p0):zC K w0 55 [B3] [] H (fun u M=>∃v0:Value,u=v0∧M=[AH 79 4 v0 AJ r]):=by
 unfold Lj at h
 refine UJ.enter Tryz.func55 rfl rfl ?_
 refine Z (Bi 79 4 AJ (O E (Y (Z (Bi 79 4 AJ (O E (Y ?_)))))))
 refine A4 (α:=List AP×Value) (fun x=>Lz x.1=some r) (fun x=>[(3,x.2)]) (fun x=>AH 79 4 x.2 AJ x.1::H) ?_ (fun x D h=>?_)
 refine Z (O E (Y (AM ?_)))
 refine SX.heap (SX.mono (A5 (α:=Nat×List AP×Value×Int) (fun x=>Ct n p0 x.1 (x.2.1,x.2.2.2)=some r) (fun x=>[(0,B3),(3,x.2.2.1),(4,vI x.2.2.2)]) (fun x=>AH 79 4 x.2.2.1 AJ x.2.1::H) (fun x=>x.1) (fun x D h=>?_) (n,[],zN,0) h) tL) (BB [0] 2 E E E)
 obtain⟨m1,l2,v2,a1⟩:=x
 dsimp only at h
 rcases m1 with _ | m1
 cases (show(none:Option _)=some r from h)
 replace h:ED n p0 (Ct n p0 m1) l2 a1=some r:=h
 unfold ED at h
 try dsimp only
 refine AE (Z (J E (J E (B1 hs0_ E Bt E (V E Aw (Y ?_))))))
 refine AT h E (fun hc1 h=>?_) fun hc1 h=>?_
 refine AI (AG ?_)
 refine A4 (α:=List AP×Value) (fun x=>JO a1 (Ct n p0 m1) x.1=some r) (fun x=>[(0,B3),(3,x.2),(4,vI a1)]) (fun x=>AH 79 4 x.2 AJ x.1::H) ?_ (fun x D h=>?_)
 refine AM (Z (J E (D0 0 E Bt E E (O E (Y ?_)))))
 refine A4 (α:=Int) (fun x=>HO p0 l2 a1 (Ct n p0 m1) x=some r) (fun x=>[(0,B3),(3,v2),(4,vI a1),(5,vI x)]) (fun x=>AH 79 4 v2 AJ l2::H) ?_ (fun a2 D h=>?_)
 refine AM ?_
 refine SX.heap (SX.mono (A5 (α:=Nat×Int) (fun x=>Fu p0 l2 a1 (Ct n p0 m1) x.1 x.2=some r) (fun x=>[(0,B3),(3,v2),(4,vI a1),(5,vI x.2)]) (fun x=>AH 79 4 v2 AJ l2::H) (fun x=>x.1) (fun x D h=>?_) (n,(l2.length:Int)) h) tL) (BB [0] 1 E E E)
 obtain⟨m2,a3⟩:=x
 dsimp only at h
 rcases m2 with _ | m2
 cases (show(none:Option _)=some r from h)
 replace h:GE p0 l2 a1 (Ct n p0 m1) (Fu p0 l2 a1 (Ct n p0 m1) m2) a3=some r:=h
 unfold GE at h
 try dsimp only
 refine AE (AE ?_)
 refine AC h fun y1 hy1 h=>?_
 refine Ak Ca [0] (Pl.of [(true,0),(true,1),(true,2),(true,3),(true,4),(true,5),(true,6),(true,7),(true,8),(true,9),(true,10),(true,11),(true,12),(true,13),(true,14),(true,15)]) zK (J E (V E CY (J E ?_)))
 refine EA 17 13 30 hy1 E (fun hb hg1 k=>?_) (fun hb k=>?_) ?_
 obtain⟨x1,hx1,hg1⟩:=bnd hg1
 obtain⟨x2,hx2,hg1⟩:=bnd hg1
 obtain rfl:=zI hg1
 refine J E (J E (V E B5 ?_))
 refine BV 0 hx1 E Bt B2 E E E fun g1 m3 cp1 hv1=>?_
 refine AD E Nb ?_
 refine Bh E M1 E (Bw (sz:=4) (enc:=AJ) 0 0 zV E hv1 hx1 E) ?_
 refine J E (J E ?_)
 refine Cm hx2 hs0_ E Bt B2 E E fun be1 of1 hc2=>?_
 refine AD E Nb ?_
 refine Bh E M1 E (DA (j:=0) hc2 E) ?_
 refine V E Oc (Ae E E E ?_)
 exact k.mono tL
 refine AB E (AB E (AB E (AB E (AB E (AB E (AB E (AB E ?_)))))))
 refine AB E (AB E (AB E (AB E (Ae E E E ?_))))
 exact k.mono tL
 refine Y ?_
 refine AT h E (fun hc3 h=>?_) fun hc3 h=>?_
 refine AI (AG (AM (AK ?_)))
 obtain⟨x3,ex3,h⟩:=Bn h
 refine J E (V E B5 ?_)
 refine Am (u:=vI x3) E E (congrArg vI ex3) ?_
 refine AU (An ?_)
 exact Ai (m2,x3) h (Nat.lt_succ_self _) tL (BB [0] 1 E E E)
 refine Ax (A3 (BL (Az ?_)))
 exact Av a3 h tL (BB [0] 1 E E E)
 unfold HO at h
 try dsimp only
 refine Z (Bi 79 4 AJ (O E (Y (Z ?_))))
 refine AC h fun l4 hl4 h=>?_
 refine AC h fun l5 hl5 h=>?_
 refine J E (J E (J E ?_))
 refine lg (enc:=AJ) (sz:=4) 1 hl4 zV E Bt B2 E E E fun v4 pc1=>?_
 refine eG 0 hl5 pc1 (sz:=4) (enc:=AJ) zV E Bt B2 Oq EJ E zD E E E (by simp[AJ,Value.oneCell']) zU fun v5=>?_
 refine O E (Y (Z ?_))
 refine AC h fun x4 hx4 h=>?_
 refine AC h fun l6 hl6 h=>?_
 refine J E (J E (J E ?_))
 refine Cm hx4 hs0_ E Bt B2 E E fun be2 of2 hc4=>?_
 refine Ab (AJ x4) E Eo E E (C2 hc4) ?_
 refine Bz [_] rfl Bt B2 EJ ⟨rfl,trivial⟩ rfl rfl rfl zW rfl rfl zU fun b1=>?_
 refine B4 AJ 4 ([x4]:List AP) E zV E ?_
 refine CW 1 hl6 (sz:=4) (enc:=AJ) zV E Bt B2 Oq EJ E zD E E E E (By (sz:=4) (enc:=AJ) 0 zV E) (by simp[AJ,Value.oneCell']) zU fun v6=>?_
 refine O E (Y (AK ?_))
 refine AC h fun l7 hl7 h=>?_
 refine AC h fun l8 hl8 h=>?_
 refine J E (J E (J E ?_))
 refine nP (enc:=AJ) (sz:=4) 2 hl7 zV E Bt B2 E E E fun v7 pc2=>?_
 refine eG 1 hl8 pc2 (sz:=4) (enc:=AJ) zV E Bt B2 Oq EJ E zD E E E (by simp[AJ,Value.oneCell']) zU fun v8=>?_
 refine O E (AU (An ?_))
 exact Av (l8,v8) h tL (BB [1] 3 E E E)
 obtain⟨l3,v3⟩:=x
 dsimp only at h
 unfold JO at h
 try dsimp only
 refine AK ?_
 obtain⟨i_1,ei_1,h⟩:=Bn h
 refine J E (V E Ay ?_)
 refine Am (u:=vI i_1) E E (congrArg vI ei_1) ?_
 refine AU ?_
 exact Ai (m1,l3,v3,i_1) h (Nat.lt_succ_self _) tL (BB [0] 1 E E E)
 refine Ax (A3 (BL (Az ?_)))
 exact Av (l2,v2) h tL (BB [0] 1 E E E)
 obtain⟨l1,v1⟩:=x
 dsimp only at h
 unfold Lz at h
 try dsimp only
 refine Z (J E (O E (Y (AL ?_))))
 obtain rfl:=zI h
 exact DM [0] 1 (De E E) E E ⟨v1,E,E⟩
end

section
variable {K:Nat→Prop}{w0:World}{H:List AV}
def cG(n:Nat)(T:List UInt32):Nat→Dm→CK→BY→Ac→Option Dm
 | 0=>fun _ _ _ _=>none
 | f+1=>EC (cG n T f) n T
theorem n9(n:Nat)(T:List UInt32):∀(f:Nat) {K:Nat→Prop} {w0:World} {H:List AV} {BH:Nat} {Aq:Value} {CR:Value} {A2:Nat} {Ba:Value} {EP:Value} {CP:Nat} {DC:Value} {DD:Value} {C9:Value} {p0:Dm} {p0_1:CK} {p0_2:BY} {p1:Ac} {r:Dm},cG n T f p0 p0_1 p0_2 p1=some r→KM K w0 2 64 T→zC K w0 54 [vP BH 0,.agg (Af p1).toArray] [AN BH (.cells #[vP A2 0,Aq,CR,vI p0.count,vI p0.err] 110),AH 72 3 Aq Ar p0.out,AH 79 4 CR AJ p0.rows,AN A2 (.cells #[vP CP 0,Ba,AA p0_1.gen,AA p0_1.boot,Ap p0_1.num,EP] 69),AH 138 2 Ba A7 p0_1.ring,AH 4 1 EP eB p0_1.taken,AN CP (.cells #[DC,DD,C9,Ap p0_2.rcnt,vS p0_2.rtag,AA p0_2.rboots,vI p0_2.left,vB p0_2.off] 132),AH 9 1 DC eS p0_2.blk,AH 9 1 DD eS p0_2.pnd,AH 4 1 C9 eB p0_2.bads] H (fun u M=>∃vs0_0_1 vs0_0_2:Value,u=.tuple #[]∧M=[AN BH (.cells #[vP A2 0,vs0_0_1,vs0_0_2,vI r.count,vI r.err] 110),AH 72 3 vs0_0_1 Ar r.out,AH 79 4 vs0_0_2 AJ r.rows,AN A2 (.cells #[vP CP 0,Ba,AA p0_1.gen,AA p0_1.boot,Ap p0_1.num,EP] 69),AH 138 2 Ba A7 p0_1.ring,AH 4 1 EP eB p0_1.taken,AN CP (.cells #[DC,DD,C9,Ap p0_2.rcnt,vS p0_2.rtag,AA p0_2.rboots,vI p0_2.left,vB p0_2.off] 132),AH 9 1 DC eS p0_2.blk,AH 9 1 DD eS p0_2.pnd,AH 4 1 C9 eB p0_2.bads])
 | 0,K,w0,H,BH,Aq,CR,A2,Ba,EP,CP,DC,DD,C9,p0,p0_1,p0_2,p1,r,h,_=>by cases h
 | f+1,K,w0,H,BH,Aq,CR,A2,Ba,EP,CP,DC,DD,C9,p0,p0_1,p0_2,p1,r,h,hT=>SN h hT (fun h=>n9 n T f h hT)
abbrev kD(bv bd:Nat)(vr vt v0 v1 v2:Value)(v:CK)(d:BY):List AV:=
 [AN bv (.cells #[vP bd 0,vr,AA v.gen,AA v.boot,Ap v.num,vt] 69),AH 138 2 vr A7 v.ring,AH 4 1 vt eB v.taken,AN bd (.cells #[v0,v1,v2,Ap d.rcnt,vS d.rtag,AA d.rboots,vI d.left,vB d.off] 132),AH 9 1 v0 eS d.blk,AH 9 1 v1 eS d.pnd,AH 4 1 v2 eB d.bads]
def UN(n:Nat)(T:List UInt32)(v:CK)(d:BY)(r:Ac):Option (List AP×List BG×Int):=
 (cG n T n ⟨[],[],0,0⟩ v d r).bind fun x=>
 cond (!decide (x.err=0)) (some ([],[],x.err))
  ((Lj n x.rows).bind fun l=>(O8 n l).bind fun b=>
   cond (!decide (b.2=0)) (some ([],[],61))
    ((Ql (Ms n x.out) n b.1 ⟨[],0⟩).bind fun y=>
     cond ((!decide (y.2.err=0) || !decide ((y.2.out.length:Int)=(x.out.length:Int))) || !(decide (y.1.page=r.page)&&(decide (y.1.tag=r.tag)&&true))) (some ([],[],61)) (some (l,x.out,0))))
theorem kw{n bv bd:Nat}{T:List UInt32}{vr vt v0 v1 v2:Value}{v:CK}{d:BY}{p:Ac}{r:List AP×List BG×Int}(h:UN n T v d p=some r)(hT:KM K w0 2 64 T):
  zC K w0 16 [vP bv 0,.agg (Af p).toArray] (kD bv bd vr vt v0 v1 v2 v d) H (fun u M=>∃u0 u1:Value,u=.tuple #[u0,u1,vI r.2.2]∧M=AH 79 4 u0 AJ r.1::AH 72 3 u1 Ar r.2.1::kD bv bd vr vt v0 v1 v2 v d):=by
 unfold UN at h
 refine AC h fun x hx h=>?_
 refine UJ.enter Tryz.func16 rfl rfl ?_
 refine Z ?_
 refine Bd E E zU fun b3=>?_
 refine O E (O E (O E (Y (Z (J E (BK [_] E rq sj rj ⟨E,zT⟩ E ?_))))))
 refine Bd E E zU fun b7=>?_
 refine O E (Y (Ox 79 4 AJ (Ox 72 3 Ar (Z (J E (Ab (Af p) E Cf E E (AZ 3 E) (SL.pick [2,0,1,4,5,6,7,8,9,10,3] 11 (Bp 10 gW (n9 n T n hx hT) E ?_))))))))
 rintro _ _ ⟨vo,vw,rfl,rfl⟩
 refine Y (AE (Z (J E (AW E E (AD E QF (AF 0 Rq E (V E Bg (Y ?_))))))))
 refine AT h E (fun hc1 h=>?_) fun hc1 h=>?_
 obtain rfl:=zI h
 refine AE (Ak Ca [0] (Pl.of [(true,0),(true,1),(true,2),(true,3),(true,4),(true,5),(true,6)]) zK (J E (AW E E (AD E QF (AF 0 Rq E (O E (O E (O E (Y (AL (Aa ?_)))))))))))
 refine HP 72 3 Ar (HP 79 4 AJ ?_)
 exact AX (Rx E E E E) (AY (M:=_::_::kD bv bd vr vt v0 v1 v2 v d) ⟨_,_,E,E⟩ fun _ hw=>BZ.pick (H:=[_,_,_,_,_,_,_,_,_,_,_,_,_]) hw [0,1,5,6,7,8,9,10,11] 13 E)
 refine AC h fun l hl h=>?_
 refine AC h fun b hb h=>?_
 refine AI (AG (Z (J E (AW E E (AD E Ye (AF 0 FF E (SL.pick [2,0,1,3,4,5,6,7,8,9,10] 11 ?_)))))))
 refine Bm (vs:=[_]) (Hin:=[_]) (Hr:=_::_::_::_::_::_::_::_::_::_::_) E E ⟨E,zT⟩ tc E E (Cb (B:=[_]) (Hin:=[]) fun K' w1 hk hB=>Wr hl (CC (e:=79) (v:=vw) zV (hB _ zS))) ?_
 rintro vl _ ⟨_,rfl,_,rfl,rfl⟩
 refine⟨trivial,?_⟩
 refine O E (Y (Z (J E (SL.pick [1,0,2,3,4,5,6,7,8,9,10,11] 12 ?_))))
 refine Bm (vs:=[_]) (Hin:=[_]) (Hr:=_::_::_::_::_::_::_::_::_::_::_::_) E E ⟨E,zT⟩ rf E E (Cb (B:=[_]) (Hin:=[]) fun K' w1 hk hB=>iZ hb (CC (e:=79) (v:=vl) zV (hB _ zS))) ?_
 rintro _ _ ⟨_,rfl,nv,L,rfl,hnz,rfl⟩
 refine⟨trivial,?_⟩
 refine J E (Al E E E (Al E E E ?_))
 refine Ag E I4 zU fun b9=>?_
 refine Aj 0 E E E E Ia E (List.all_eq_true.2 (Hy nv)) E zT (O E (Y (AE (Z (J E (V E Bg (Y ?_)))))))
 refine AT h E (fun hc2 h=>?_) fun hc2 h=>?_
 obtain rfl:=zI h
 refine Z (O E (O E (O E (Y (AL (Aa (HP 72 3 Ar (HP 79 4 AJ ?_))))))))
 exact AX (Rx E E E E) (AY (M:=_::_::kD bv bd vr vt v0 v1 v2 v d) ⟨_,_,E,E⟩ fun _ hw=>BZ.pick (H:=[_,_,_,_,_,_,_,_,_,_,_,_,_,_,_,_]) hw [0,1,8,9,10,11,12,13,14] 16 E)
 refine AC h fun y hy h=>?_
 refine AI (AG (Z (J E (AW E E (AD E SK (AF 4 LH E ?_))))))
 refine QN 5 E fun so hso=>?_
 subst hso
 refine BK [_] E rV rM tY ⟨E,zT⟩ E ?_
 refine Bd E E zU fun b10=>?_
 refine O E (Y (Ox 72 3 Ar (Z (J E (Ab (B9 nv) E MK E E (AZ 2 E) (SL.pick [7,4,1,0,2,3,5,6,8,9,10,11,12,13,14,15] 16 ?_))))))
 refine Bm (vs:=[_,_]) (Hin:=[_,_,_,_]) (Hr:=_::_::_::_::_::_::_::_::_::_::_::_::_) E E ⟨E,E,zT⟩ oQ E E (Cb (B:=[_,_]) (Hin:=[_,_]) fun K' w1 hk hB=>fI (bk:=b10) (I:=fun K w=>CJ K w Ar 3 so.val x.out) (C:=fun a (q:TL)=>[AN b10 (.cells #[.pointer none,zN,a,zN,vI q.err,so.val] 115),AH 72 3 a Ar q.out]) (fun h hk=>h.keeps hk) (fun hi h h4 h5=>k7 h hi h4 h5) n (ca:=zN) (CC (e:=72) (v:=so.val) zV (hB _ zS)) hy (hnz.lent (hB _ zS))) ?_
 rintro _ _ ⟨_,rfl,rfl,ca2,rfl⟩
 refine⟨trivial,?_⟩
 refine Ag E Dc zU fun b12=>?_
 refine Aj 0 E E E E DH E E E zT (Y (AE (AE (Ak Ca [3,4,8,1,0,16] (Pl.of [(true,0),(true,1),(true,2),(true,3),(true,4),(true,5),(true,6),(true,7),(true,8),(true,9),(true,10),(true,11),(true,12),(true,13),(true,14),(true,15),(true,16),(true,17),(true,18),(true,19),(true,20),(true,21),(true,22)]) zK (J E (AW E E (AD E R3 (AF 0 Rq E (V E Bg (J E ?_))))))))))
 refine DL (c := !decide ((y.2.out.length:Int)=(x.out.length:Int))) 54 12 66 E (fun hb k=>?_) (fun hb k=>?_) ?_
 refine AB E (AB E (AB E (AB E (AB E (AB E (AB E (AB E ?_)))))))
 refine AB E (AB E (AB E (Ae E E E ?_)))
 exact k.mono tL
 refine J E (AW E E (AD E VB (AF 0 LH E (D0 1 E He E E (J E (AW E E (AD E SK ?_)))))))
 refine AF 2 LH E (D0 3 E He E E (V E Bg (Ae E E E ?_)))
 exact k.mono tL
 refine J E ?_
 refine DL (c := !(decide (y.1.page=p.page)&&(decide (y.1.tag=p.tag)&&true))) 67 4 71 E (fun hb k=>?_) (fun hb k=>?_) ?_
 refine AB E (AB E (AB E (Ae E E E ?_)))
 exact k.mono tL
 refine Ab (Af y.1) E Cf E E (AZ 4 E) (Ab (Af p) E Cf E E (AZ 5 E) ?_)
 refine Oa E aG E E (CT E E (I6 (a:=y.1.page) (b:=p.page)) (CT E E (Qf (a:=y.1.tag) (b:=p.tag)) HK)) ?_
 refine Ae E E E ?_
 exact k.mono tL
 refine Y ?_
 refine AT h E (fun hc3 h=>?_) fun hc3 h=>?_
 obtain rfl:=zI h
 refine Z (O E (O E (O E (Y (AL (Aa (HP 72 3 Ar (HP 79 4 AJ ?_))))))))
 exact AX (Rx E E E E) (AY (M:=_::_::kD bv bd vr vt v0 v1 v2 v d) ⟨_,_,E,E⟩ fun _ hw=>BZ.pick (H:=[_,_,_,_,_,_,_,_,_,_,_,_,_,_,_,_,_,_,_]) hw [0,1,11,12,13,14,15,16,17] 19 E)
 obtain rfl:=zI h
 refine AI (AG (AE (Ak Ca [8] (Pl.of [(true,0),(true,1),(true,2),(true,3),(true,4),(true,5),(true,6),(true,7)]) zK (J E (J E (AW E E (AD E SK (AF 0 LH E (O E (O E ?_))))))))))
 refine O E (Y (AL ?_))
 exact AX (Rx E E E E) (AY (M:=AH 79 4 vl AJ l::AH 72 3 so.val Ar x.out::kD bv bd vr vt v0 v1 v2 v d) ⟨_,_,E,E⟩ fun _ hw=>BZ.pick (H:=[_,_,_,_,_,_,_,_,_,_,_,_,_,_,_,_,_]) hw [6,1,9,10,11,12,13,14,15] 17 E)
end

section
variable {K:Nat→Prop}{w0:World}{H:List AV}
def Qa(n:Nat)(T:List UInt32)(y1:Bool)(y2:Option (Bs×BM×CK×BY)×Bool)(o1:Bs)(o2:BM)(o3:CK)(o4:BY)(y3:UInt32)(y4:List UInt8):Option Bool:=
 (Qi n T o1 o2 (⟨y3,y4⟩:Ac)).bind fun y9=>
 (UN n T o3 o4 (⟨y3,y4⟩:Ac)).bind fun y10=>
 (FZ (y1&&y2.2) ((IV n y9.1 y10.1).bind fun y11=>some (y11))).bind fun y12=>
 (FZ y12 ((Jn n y9.2.1 y10.2.1).bind fun y13=>some (y13))).bind fun y14=>
 ret (y14&&(decide (y9.2.2=y10.2.2))) fun x3=>
 some x3
def Ka(n:Nat)(T:List UInt32)(p0:List (List UInt8))(y1:Bool)(y2:Option (Bs×BM×CK×BY)×Bool)(nx_f_lGO_l1:Bs×BM×CK×BY×UInt32×List UInt8×Int→Option Bool)(o5:Bs)(o6:BM)(o7:CK)(o8:BY)(y5:UInt32)(y6:List UInt8)(a1:Int):Option Bool:=
 cond ((decide (a1<(p0.length:Int)))&&(decide (a1<6)))
 (
  (Ao p0 a1).bind fun x1=>
  (Ao p0 a1).bind fun x2=>
  (Cz x1 0 (min (x2.length:Int) 198)).bind fun s1=>
  (GC T o5 o6 s1).bind fun y7=>
  (F7 n T o7 o8 s1).bind fun y8=>
  cond (((!(decide (y7.1.page=y8.1.page)&&(decide (y7.1.tag=y8.1.tag)&&true)))||(!decide (y7.2.1=y8.2.1)))||(!decide (y7.2.1=0)))
  (
   some false)
  (
   ret (wI (a1+1)) fun i_1=>
   nx_f_lGO_l1 (y7.2.2.1,y7.2.2.2,y8.2.2.1,y8.2.2.2,y7.1.page,y7.1.tag,i_1)))
 (
  Qa n T y1 y2 o5 o6 o7 o8 y5 y6)
def OW(n:Nat)(T:List UInt32)(p0:List (List UInt8))(y1:Bool)(y2:Option (Bs×BM×CK×BY)×Bool):Nat→(Bs×BM×CK×BY×UInt32×List UInt8×Int)→Option Bool:=Bu fun nx x=>Ka n T p0 y1 y2 nx x.1 x.2.1 x.2.2.1 x.2.2.2.1 x.2.2.2.2.1 x.2.2.2.2.2.1 x.2.2.2.2.2.2
def dg(n:Nat)(T:List UInt32)(p0:List (List UInt8)):Option Bool:=
 (KJ n T).bind fun y1=>
 (Gs n 12).bind fun y2=>
 (y2.1).bind fun d1=>
 OW n T p0 y1 y2 n (d1.1,d1.2.1,d1.2.2.1,d1.2.2.2,0,[],0)
theorem sU{n:Nat}{T:List UInt32}{B3:Value}{p0:List (List UInt8)}{r:Bool}(h:dg n T p0=some r)(hS:Hd K w0 T)(hT:KM K w0 2 64 T)(hs0_:CJ K w0 eS 1 B3 p0):zC K w0 3 [B3] [] H (fun u M=>u=vB r∧M=[]):=by
 unfold dg at h
 refine UJ.enter Tryz.func3 rfl rfl ?_
 refine Z (O E (Y (Z ?_)))
 refine AC h fun y1 hy1 h=>?_
 refine AQ 0 rK (Xu hy1 hS) E (O E (Y (Z ?_)))
 refine AC h fun y2 hy2 h=>?_
 refine AC h fun d1 hd1 h=>?_
 refine Bm (vs:=[_]) (Hin:=[]) (Hr:=_) E E ⟨E,zT⟩ oP E E (TY hy2) ?_
 rintro _ _ (⟨hn,-,-⟩ | ⟨d_,b1,v1,m1,b2,v2,m2,m3,b3,v3,v4,b4,v5,v6,v7,hn,rfl,rfl⟩)
 rw[hd1]at hn;cases hn
 obtain rfl:d1=d_:=zI (hd1.symm.trans hn)
 refine⟨trivial,?_⟩
 refine J E (Al E E E (Al E E E (Al E E E (Al E E E (O E (O E (O E ?_)))))))
 refine O E (Y (Z ?_))
 refine Ag E Dc zU fun b5=>?_
 refine Y ?_
 refine A4 (α:=Bs×BM×CK×BY×UInt32×List UInt8) (fun x=>Qa n T y1 y2 x.1 x.2.1 x.2.2.1 x.2.2.2.1 x.2.2.2.2.1 x.2.2.2.2.2=some r) (fun x=>[(3,vB y1),(4,vP b1 0),(6,vP b3 0),(7,vB y2.2),(8,vP b5 0)]) (fun x=>AN b1 (.cells #[vP b2 0,v1,AA x.1.gen,AA x.1.boot,Ap x.1.seals,.map (some m1)] 96)::AN b2 (.cells #[vB x.2.1.off,vB x.2.1.isCut,vI x.2.1.lasts,vI x.2.1.counts,v2,.map (some m2),.map (some m3),Ap x.2.1.rcnt,vS x.2.1.rtag,AA x.2.1.rboots] 130)::AH 9 1 v2 eS x.2.1.blocks::BQ m2 AA vS x.2.1.pend::BQ m3 AA vB x.2.1.bad::AH 138 2 v1 A7 x.1.ring::BQ m1 AA vB x.1.taken::AN b3 (.cells #[vP b4 0,v3,AA x.2.2.1.gen,AA x.2.2.1.boot,Ap x.2.2.1.num,v4] 69)::AN b4 (.cells #[v5,v6,v7,Ap x.2.2.2.1.rcnt,vS x.2.2.2.1.rtag,AA x.2.2.2.1.rboots,vI x.2.2.2.1.left,vB x.2.2.2.1.off] 132)::AH 9 1 v5 eS x.2.2.2.1.blk::AH 9 1 v6 eS x.2.2.2.1.pnd::AH 4 1 v7 eB x.2.2.2.1.bads::AH 138 2 v3 A7 x.2.2.1.ring::AH 4 1 v4 eB x.2.2.1.taken::AN b5 (.cells #[AA x.2.2.2.2.1,vS x.2.2.2.2.2] 31)::H) ?_ (fun x D h=>?_)
 refine Z (O E (Y (AM ?_)))
 refine SX.heap (SX.mono (A5 (α:=Nat×Bs×BM×CK×BY×UInt32×List UInt8×Int) (fun x=>OW n T p0 y1 y2 x.1 (x.2.1,x.2.2.1,x.2.2.2.1,x.2.2.2.2.1,x.2.2.2.2.2.1,x.2.2.2.2.2.2.1,x.2.2.2.2.2.2.2)=some r) (fun x=>[(0,B3),(3,vB y1),(4,vP b1 0),(6,vP b3 0),(7,vB y2.2),(8,vP b5 0),(9,vI x.2.2.2.2.2.2.2)]) (fun x=>AN b1 (.cells #[vP b2 0,v1,AA x.2.1.gen,AA x.2.1.boot,Ap x.2.1.seals,.map (some m1)] 96)::AN b2 (.cells #[vB x.2.2.1.off,vB x.2.2.1.isCut,vI x.2.2.1.lasts,vI x.2.2.1.counts,v2,.map (some m2),.map (some m3),Ap x.2.2.1.rcnt,vS x.2.2.1.rtag,AA x.2.2.1.rboots] 130)::AH 9 1 v2 eS x.2.2.1.blocks::BQ m2 AA vS x.2.2.1.pend::BQ m3 AA vB x.2.2.1.bad::AH 138 2 v1 A7 x.2.1.ring::BQ m1 AA vB x.2.1.taken::AN b3 (.cells #[vP b4 0,v3,AA x.2.2.2.1.gen,AA x.2.2.2.1.boot,Ap x.2.2.2.1.num,v4] 69)::AN b4 (.cells #[v5,v6,v7,Ap x.2.2.2.2.1.rcnt,vS x.2.2.2.2.1.rtag,AA x.2.2.2.2.1.rboots,vI x.2.2.2.2.1.left,vB x.2.2.2.2.1.off] 132)::AH 9 1 v5 eS x.2.2.2.2.1.blk::AH 9 1 v6 eS x.2.2.2.2.1.pnd::AH 4 1 v7 eB x.2.2.2.2.1.bads::AH 138 2 v3 A7 x.2.2.2.1.ring::AH 4 1 v4 eB x.2.2.2.1.taken::AN b5 (.cells #[AA x.2.2.2.2.2.1,vS x.2.2.2.2.2.2.1] 31)::H) (fun x=>x.1) (fun x D h=>?_) (n,d1.1,d1.2.1,d1.2.2.1,d1.2.2.2,0,[],0) h) tL) (BB [1,4,5,6,7,2,3,8,11,12,13,14,9,10,0] 15 E E E)
 obtain⟨m4,o5,o6,o7,o8,y5,y6,a1⟩:=x
 dsimp only at h
 rcases m4 with _ | m4
 cases (show(none:Option _)=some r from h)
 replace h:Ka n T p0 y1 y2 (OW n T p0 y1 y2 m4) o5 o6 o7 o8 y5 y6 a1=some r:=h
 unfold Ka at h
 try dsimp only
 refine AE (Z (J E (J E (B1 hs0_ E FY E (V E Aw (J E ?_))))))
 refine Cw (c:=decide (a1<6)) 32 3 35 E (fun hb k=>?_) (fun hb k=>?_) ?_
 refine J E (V E Aw (Ae E E E ?_))
 exact k.mono tL
 refine AB E (AB E (Ae E E E ?_))
 exact k.mono tL
 refine Y ?_
 refine AT h E (fun hc1 h=>?_) fun hc1 h=>?_
 refine AI (AG (AE (AM (AE ?_))))
 refine AC h fun x1 hx1 h=>?_
 refine AC h fun x2 hx2 h=>?_
 refine AC h fun s1 hs1 h=>?_
 refine Ak Ca [] (Pl.of [(true,0),(true,1),(true,2),(true,3),(true,4),(true,5),(true,6),(true,7),(true,8),(true,9),(true,10),(true,11)]) zK (J E (J E ?_))
 refine Cm hx1 hs0_ E FY Ix E E fun be1 of1 hc2=>?_
 refine Bh E FX E (DA (j:=0) hc2 E) ?_
 refine J E (J E ?_)
 refine Cm hx2 hs0_ E FY Ix E E fun be2 of2 hc3=>?_
 refine Bh E FX E (DA (j:=0) hc3 E) ?_
 refine BS E Bj E (P2 E E E (PK hs1 E Bj E E (O E (Y (Z ?_)))))
 refine AC h fun y7 hy7 h=>?_
 refine J E (J E (SL.pick [0,5,6,1,2,3,4] 7 (AQ 7 mY (Wh hy7 hS) E (J E (Al E E E (Al E E E ?_))))))
 refine Ag E Dc zU fun b6=>?_
 refine Aj 0 E E E E DH E E E zT (O E (Y (Z ?_)))
 refine AC h fun y8 hy8 h=>?_
 refine J E (J E (SL.pick [8,13,14,9,10,11,12,0,1,2,3,4,5,6,7] 15 (AQ 7 tN (SW hy8 hT) E (J E (Al E E E (Al E E E ?_))))))
 refine Ag E Dc zU fun b7=>?_
 refine Aj 0 E E E E DH E E E zT (O E (Y (AE (Z (Ab [AA y7.1.page,vS y7.1.tag] E Cf E E (AZ 8 E) (Ab [AA y8.1.page,vS y8.1.tag] E Cf E E (AZ 0 E) ?_))))))
 refine Oa E aG E E (CT E E (I6 (a:=y7.1.page) (b:=y8.1.page)) (CT E E (Qf (a:=y7.1.tag) (b:=y8.1.tag)) HK)) ?_
 refine J E ?_
 refine DL (c := !decide (y7.2.1=y8.2.1)) 64 4 68 E (fun hb k=>?_) (fun hb k=>?_) ?_
 refine AB E (AB E (AB E (Ae E E E ?_)))
 exact k.mono tL
 refine J E (J E (V E Bg (Ae E E E ?_)))
 exact k.mono tL
 refine J E ?_
 refine DL (c := !decide (y7.2.1=0)) 69 3 72 E (fun hb k=>?_) (fun hb k=>?_) ?_
 refine AB E (AB E (Ae E E E ?_))
 exact k.mono tL
 refine J E (V E Bg (Ae E E E ?_))
 exact k.mono tL
 refine Y ?_
 refine AT h E (fun hc4 h=>?_) fun hc4 h=>?_
 refine Z (O E (Y (AL (Aa (BX (Aa (Dj (BX (EO ?_)))))))))
 obtain rfl:=zI h
 exact Ad [] 17 E E E
 refine AI (AG (AK (Ab [AA y7.1.page,vS y7.1.tag] E Cf E E (AZ 8 E) (Aj 16 E E E E DH E E E zT (AU (An (AG (AK ?_))))))))
 obtain⟨i_1,ei_1,h⟩:=Bn h
 refine J E (V E Ay ?_)
 refine Am (u:=vI i_1) E E (congrArg vI ei_1) ?_
 refine AU ?_
 exact Ai (m4,y7.2.2.1,y7.2.2.2,y8.2.2.1,y8.2.2.2,y7.1.page,y7.1.tag,i_1) h (Nat.lt_succ_self _) tL (BB [9,12,13,14,15,10,11,1,4,5,6,7,2,3,16] 17 E E E)
 refine Ax (A3 (BL (Az ?_)))
 exact Av (o5,o6,o7,o8,y5,y6) h tL (BB [0,1,2,3,4,5,6,7,8,9,10,11,12,13,14] 15 E E E)
 obtain⟨o1,o2,o3,o4,y3,y4⟩:=x
 dsimp only at h
 unfold Qa at h
 try dsimp only
 refine Z ?_
 refine AC h fun y9 hy9 h=>?_
 refine J E (Ab [AA y3,vS y4] E Cf E E (AZ 14 E) (SL.pick [0,5,6,1,2,3,4] 7 (Bp 7 nM ((jx hy9 hS :)) E ?_)))
 rintro _ _ ⟨v8,v9,rfl,rfl⟩
 refine J E (Al E E E (Al E E E (Al E E E (O E (O E (O E (Y (Z ?_))))))))
 refine AC h fun y10 hy10 h=>?_
 refine J E (Ab [AA y3,vS y4] E Cf E E (AZ 16 E) (SL.pick [9,14,15,10,11,12,13,0,1,2,3,4,5,6,7,8] 16 (Bp 7 ta ((kw hy10 hT :)) E ?_)))
 rintro _ _ ⟨v10,v11,rfl,rfl⟩
 refine J E (Al E E E (Al E E E (Al E E E (O E (O E (O E (Y (Z ?_))))))))
 refine AC h fun y12 hy12 h=>?_
 refine AC h fun y14 hy14 h=>?_
 obtain⟨x3,ex3,h⟩:=Bn h
 refine J E (J E ?_)
 refine Cw (c:=y2.2) 89 2 91 E (fun hb k=>?_) (fun hb k=>?_) ?_
 refine J E (Ae E E E ?_)
 exact k.mono tL
 refine AB E (Ae E E E ?_)
 exact k.mono tL
 refine J E ?_
 refine EA 92 4 96 hy12 E (fun hb hg5 k=>?_) (fun hb k=>?_) ?_
 obtain⟨y11,hy11,hg5⟩:=bnd hg5
 obtain rfl:=zI hg5
 refine J E (J E (SL.pick [9,0,1,2,3,4,5,6,7,8] 10 ?_))
 refine Bm (vs:=[_,_]) (Hin:=[_,_]) (Hr:=_::_::_::_::_::_::_::_::_::_::_::_::_::_::_::_::_::_) E E ⟨E,E,zT⟩ mg E E (Cb (B:=[_,_]) (Hin:=[]) fun K' w1 hk hB=>To hy11 (CC (e:=79) (v:=v8) zV (hB _ zS)) (CC (e:=79) (v:=v10) zV (hB _ zS))) ?_
 rintro _ _ ⟨_,rfl,rfl,rfl⟩
 refine⟨trivial,?_⟩
 refine Ae E E E ?_
 exact SL.mono (SL.heap k fun _ hw=>BZ.pick (H:=[_,_,_,_,_,_,_,_,_,_,_,_,_,_,_,_,_,_,_]) hw [1,2,3,4,5,6,7,8,9,0,10,11,12,13,14,15,16,17,18] 19 E) tL
 refine AB E (AB E (AB E (Ae E E E ?_)))
 exact k.mono tL
 refine J E ?_
 refine EA 97 4 101 hy14 E (fun hb hg6 k=>?_) (fun hb k=>?_) ?_
 obtain⟨y13,hy13,hg6⟩:=bnd hg6
 obtain rfl:=zI hg6
 refine J E (J E (SL.pick [10,1,0,2,3,4,5,6,7,8,9] 11 ?_))
 refine Bm (vs:=[_,_]) (Hin:=[_,_]) (Hr:=_::_::_::_::_::_::_::_::_::_::_::_::_::_::_::_::_::_) E E ⟨E,E,zT⟩ oN E E (Cb (B:=[_,_]) (Hin:=[]) fun K' w1 hk hB=>TT hy13 (CC (e:=72) (v:=v9) zV (hB _ zS)) (CC (e:=72) (v:=v11) zV (hB _ zS))) ?_
 rintro _ _ ⟨_,rfl,rfl,rfl⟩
 refine⟨trivial,?_⟩
 refine Ae E E E ?_
 exact SL.mono (SL.heap k fun _ hw=>BZ.pick (H:=[_,_,_,_,_,_,_,_,_,_,_,_,_,_,_,_,_,_,_]) hw [2,1,3,4,5,6,7,8,9,10,0,11,12,13,14,15,16,17,18] 19 E) tL
 refine AB E (AB E (AB E (Ae E E E ?_)))
 exact k.mono tL
 refine J E ?_
 refine Cw (c:=decide (y9.2.2=y10.2.2)) 102 4 106 E (fun hb k=>?_) (fun hb k=>?_) ?_
 refine J E (J E (V E CH (Ae E E E ?_)))
 exact k.mono tL
 refine AB E (AB E (AB E (Ae E E E ?_)))
 exact k.mono tL
 refine Am (u:=vB x3) E E (congrArg vB ex3) ?_
 refine Y (AL ?_)
 obtain rfl:=zI h
 exact Ad [] 19 E E E
end

section
variable {K:Nat→Prop}{w0:World}{H:List AV}
structure uj where
 out:List BG
 took:List UInt32
 err:Int
end

section
variable {K:Nat→Prop}{w0:World}{H:List AV}
end

section
variable {K:Nat→Prop}{w0:World}{H:List AV}
end

section
variable {K:Nat→Prop}{w0:World}{H:List AV}
end

section
theorem rU(r:AP):FQ r=some (GR r):=by
 unfold FQ GR
 rw[A9]
 congr 1
 rw[Bool.eq_iff_iff]
 simp only[Bool.and_eq_true,decide_eq_true_eq,UInt32.lt_iff_toNat_lt,Jc]
 have h6:(2147483648:UInt32).toNat=2147483648:=rfl
 omega
theorem bO{l:List AP}{k:Nat}(h:k+1<l.length):EN (l.drop k)=(decide (l[k].id<l[k+1].id)&&EN (l.drop (k+1))):=by
 rw[List.drop_eq_getElem_cons (show k<l.length by omega),List.drop_eq_getElem_cons h]
 rfl
theorem Wn{n:Nat}{l:List AP}(hn:l.length<n)(hb:l.length≤1048576):GF n l=some (Cx l):=by
 unfold GF Cx
 by_cases h1000:1000<l.length
 rw[zt zO,Be,zf (show ¬(l.length:Int)≤1000 by omega),Bool.and_false]
 rw[zf zO,BD,zt (show(l.length:Int)≤1000 by omega),Bool.and_true]
 have key:∀(d k m:Nat),k+d=l.length→d<m→Dd l m (k:Int)=some ((l.drop k).all GR&&EN (l.drop (k-1))):=by
  intro d
  induction d with
  | zero=>
   intro k m hk hm
   obtain⟨m,rfl⟩:∃j,m=j+1:=⟨m-1,by omega⟩
   have hk':k=l.length:=zO
   have h2:EN (l.drop (k-1))=true:=by
    have:(l.drop (k-1)).length≤1:=by simp;omega
    rcases hd:l.drop (k-1)with _ | ⟨a,_ | ⟨b,t⟩⟩
    rfl
    rfl
    rw[hd]at this
    simp at this
   rw[h2,show l.drop k=[] by rw[hk'];simp]
   show Cy l (Dd l m) _=_
   unfold Cy
   rw[zf zO,BD]
   rfl
  | succ d ih=>
   intro k m hk hm
   obtain⟨m,rfl⟩:∃j,m=j+1:=⟨m-1,by omega⟩
   have hkl:k<l.length:=zO
   have n1:Ao l (k:Int)=some l[k]:=by rw[EF rfl,List.getElem?_eq_getElem hkl]
   have e1:(l.drop k).all GR=(GR l[k]&&(l.drop (k+1)).all GR):=by rw[List.drop_eq_getElem_cons hkl];rfl
   show Cy l (Dd l m) _=_
   unfold Cy
   rw[zt zO,Be,n1,U,rU,U]
   have hnx:(ret (wI ((k:Int)+1)) fun i_1=>Dd l m i_1)=some ((l.drop (k+1)).all GR&&EN (l.drop k)):=by
    rw[A9,A8 zO zO]
    exact ih (k+1) m zO zO
   rw[hnx,e1]
   cases hr:GR l[k]with
   | false=>rfl
   | true=>
    rcases Nat.eq_zero_or_pos k with rfl | hk0
    rfl
    have n2:Ao l (wI ((k:Int)-1))=some l[k-1]:=by
     rw[A8 zO zO,EF (k:=k-1) zO,List.getElem?_eq_getElem zO]
    have e2:EN (l.drop (k-1))=(decide (l[k-1].id<l[k].id)&&EN (l.drop k)):=by
     have:=bO (l:=l) (k:=k-1) zO
     simpa[Nat.sub_add_cancel hk0]using this
    rw[e2,zt zO,n2]
    simp only[OF,FZ,Bool.not_true,BD,Be,U,WK]
    cases decide (l[k-1].id<l[k].id)<;>simp
 have:=key l.length 0 n zO hn
 simpa using this
theorem eU{n:Nat}{l:List AP}(hn:1100≤n)(hl:l.length<n)(hb:l.length≤1048576):O8 n l=Ke n l:=by
 cases h:Cx l with
 | false=>
  rw[Vn hl zO h]
  unfold O8
  rw[Wn hl hb,U,h]
  rfl
 | true=>
  obtain⟨t,h1,_,h2⟩:=VZ (n:=n) zO h
  obtain⟨t',g1,g2⟩:=fN hn h
  rw[h1,g1,Tr.uniq g2 h2]
end

section
theorem mr{l:List AP}{r:AP}{k:Nat}(hs:Je l)(h1:∀x∈l.take k,x.id≤r.id)(h2:∀x∈l.drop k,r.id≤x.id):Je (l.take k++r::l.drop k):=by
 have hs':Je (l.take k++l.drop k):=by rw[List.take_append_drop];exact hs
 obtain⟨a,b,c⟩:=List.pairwise_append.1 hs'
 refine List.pairwise_append.2 ⟨a,List.pairwise_cons.2 ⟨h2,b⟩,fun x hx y hy=>?_⟩
 rcases List.mem_cons.1 hy with rfl | hy
 exact h1 x hx
 exact c x hx y hy
theorem VM{p0 l2:List AP}{a1:Int}{r:AP}(nx:List AP×Int→Option (List AP))(hr:Ao p0 a1=some r)(hb:l2.length≤1048576):
  ∀(k m:Nat),k≤l2.length→k<m→(∀x∈l2.drop k,r.id<x.id)→∃j,j≤k∧Fu p0 l2 a1 nx m (k:Int)=HO p0 l2 a1 nx (j:Int)∧(∀x∈l2.drop j,r.id<x.id)∧(∀x,0<j→l2[j-1]? = some x→x.id≤r.id)
 | _,0,_,h,_=>absurd h (Nat.not_lt_zero _)
 | 0,m+1,_,_,hd=>⟨0,Nat.le_refl _,rfl,hd,fun _ h=>absurd h (Nat.lt_irrefl _)⟩
 | k+1,m+1,hk,hm,hd=>by
  have hkl:k<l2.length:=hk
  have n1:Ao l2 (wI (((k+1:Nat):Int)-1))=some l2[k]:=by
   rw[A8 zO zO,EF (k:=k) zO,List.getElem?_eq_getElem hkl]
  have e:Fu p0 l2 a1 nx (m+1) ((k+1:Nat):Int)=GE p0 l2 a1 nx (Fu p0 l2 a1 nx m) ((k+1:Nat):Int):=rfl
  rw[e]
  unfold GE
  rw[zt zO,n1,hr]
  simp only[FZ,Be,U]
  cases hc:decide (r.id<l2[k].id)with
  | true=>
   have hc:=of_decide_eq_true hc
   obtain⟨j,h1,h2,h3,h4⟩:=VM nx hr hb k m zO zO (fun x hx=>by
    rw[List.drop_eq_getElem_cons hkl]at hx
    rcases List.mem_cons.1 hx with rfl | hx
    exact hc
    exact hd x hx)
   refine⟨j,by omega,?_,h3,h4⟩
   rw[Be,A9,A8 zO zO,show(((k+1:Nat):Int)-1)=(k:Int) by omega]
   exact h2
  | false=>
   have hc:=of_decide_eq_false hc
   refine⟨k+1,Nat.le_refl _,by rw[BD],hd,fun x _ hx=>?_⟩
   rw[Nat.add_sub_cancel,List.getElem?_eq_getElem hkl]at hx
   obtain rfl:=zI hx
   exact KC hc
theorem kZ{n:Nat}(l:List AP)(hn:l.length+2≤n)(hb:l.length≤1048576):∃l',Lj n l=some l'∧l'.Perm l∧Je l':=by
 have key:∀(T S out:List AP),l=S++T→out.Perm S→Je out→∀m,T.length<m→∃l',Ct n l m (out,(S.length:Int))=some l'∧l'.Perm l∧Je l':=by
  intro T
  induction T with
  | nil=>
   intro S out hS hp hs m hm
   obtain⟨m,rfl⟩:∃k,m=k+1:=⟨m-1,by omega⟩
   simp only[List.append_nil]at hS
   subst hS
   refine⟨out,?_,hp,hs⟩
   show ED n l (Ct n l m) _ _=_
   unfold ED
   dsimp only
   rw[zf zO,BD]
   rfl
  | cons r T ih=>
   intro S out hS hp hs m hm
   obtain⟨m,rfl⟩:∃k,m=k+1:=⟨m-1,by omega⟩
   have hlen:l.length=S.length+(T.length+1):=by rw[hS];simp
   have hol:=hp.length_eq
   have n1:Ao l (S.length:Int)=some r:=by
    rw[EF rfl,hS]
    simp
   obtain⟨j,h1,h2,h3,h4⟩:=VM (Ct n l m) n1 (l2:=out) zO out.length n (Nat.le_refl _) zO zS
   have hle:∀x∈out.take j,x.id≤r.id:=by
    intro x hx
    rcases Nat.eq_zero_or_pos j with rfl | hj
    simp at hx
    obtain⟨i,hi,rfl⟩:=List.getElem_of_mem hx
    rw[List.length_take]at hi
    rw[List.getElem_take]
    have h5:=h4 out[j-1] hj (List.getElem?_eq_getElem zO)
    rcases Nat.lt_or_ge i (j-1)with hlt | hge
    have:=List.pairwise_iff_getElem.1 hs i (j-1) zO zO hlt
    exact UInt64.le_trans this h5
    have:i=j-1:=zO
    subst this
    exact h5
   have hsr:Je (out.take j++r::out.drop j):=mr hs hle (fun x hx=>UInt64.le_of_lt (h3 x hx))
   have hpr:(out.take j++r::out.drop j).Perm (S++[r]):=by
    refine List.perm_middle.trans ?_
    rw[List.take_append_drop]
    exact(List.Perm.cons r hp).trans (List.perm_append_singleton r S).symm
   obtain⟨l',g1,g2,g3⟩:=ih (S++[r]) _ (by rw[hS];simp) hpr hsr m (by simp at hm;omega)
   refine⟨l',?_,g2,g3⟩
   show ED n l (Ct n l m) _ _=_
   unfold ED
   dsimp only
   rw[zt zO,Be,h2]
   unfold HO
   have s1:Cz out 0 (j:Int)=some (out.take j):=(Dz (l:=out) (p:=0) (q:=j) rfl rfl zO zO).trans zS
   have s2:Cz out (j:Int) (out.length:Int)=some (out.drop j):=(Dz (l:=out) (p:=j) (q:=out.length) rfl rfl zO zO).trans (congrArg some (List.take_of_length_le zS))
   rw[s1,U,CB zQ zQ,U,n1,U,CB zQ zQ,U,s2,U,CB zQ zQ,U]
   unfold JO
   rw[A9,A8 zO zO]
   rw[show((S++[r]).length:Int)=(S.length:Int)+1 by simp only[List.length_append,List.length_singleton];omega]at g1
   rw[show[]++out.take j++[r]++out.drop j=out.take j++r::out.drop j by simp]
   exact g1
 obtain⟨l',h1,h2,h3⟩:=key l [] [] rfl (List.Perm.refl _) List.Pairwise.nil n zO
 exact⟨l',h1,h2,h3⟩
end

section
theorem oc(x:UInt32)(n:Nat)(h:n≤32):DX x (n:Int)=some (rl x n):=by
 unfold DX
 rw[UM,U,A8 zO zO,show(32-(n:Int))=((32-n:Nat):Int) by omega,UM,U]
 rfl
theorem iy(a b c d:UInt32):Ik a b c d=some (Q4.quarter ⟨a,b,c,d⟩).list:=by
 have t16:∀x,DX x 16=some (rl x 16):=fun x=>oc x 16 zD
 have t12:∀x,DX x 12=some (rl x 12):=fun x=>oc x 12 zD
 have t8:∀x,DX x 8=some (rl x 8):=fun x=>oc x 8 zD
 have t7:∀x,DX x 7=some (rl x 7):=fun x=>oc x 7 zD
 simp only[Ik,ret,t16,t12,t8,t7,U]
 rfl
theorem jb(s:List UInt8)(i:Nat)(h:i+3<s.length)(hi:s.length≤1099511627776):Jl s (i:Int)=some (Jx s i):=by
 unfold Jl
 rw[CF (k:=i) 0 rfl zO,U,A8 zO zO,CF (k:=i+1) 0 zO zO,U,
  A8 zO zO,CF (k:=i+2) 0 zO zO,U,A8 zO zO,CF (k:=i+3) 0 zO zO,U]
 rfl
theorem gc(c:UInt32):Jx (GD c) 0=c:=by
 apply UInt32.toNat_inj.1
 have hc:=c.toNat_lt
 have e8:∀k,k≤32→(shr32 c k).toNat=c.toNat / 2^k:=fun k hk=>by
  simp only[shr32,UInt32.toNat_ofNat',Nat.min_eq_left hk]
  exact Nat.mod_eq_of_lt (Nat.lt_of_le_of_lt (Nat.div_le_self _ _) hc)
 have s8:∀(x:UInt8) k,k≤24→(shl32 x.toUInt32 k).toNat=x.toNat*2^k:=fun x k hk=>by
  have hx:=x.toNat_lt
  simp only[shl32,UInt32.toNat_ofNat',UInt8.toNat_toUInt32,Nat.min_eq_left (show k≤32 by omega)]
  refine Nat.mod_eq_of_lt ?_
  calc x.toNat*2^k<2^8*2^k:=Nat.mul_lt_mul_of_pos_right hx (Nat.two_pow_pos k)
   _=2^(8+k):=(Nat.pow_add 2 8 k).symm
   _≤2^32:=Nat.pow_le_pow_right zD zO
 have key:∀(a b k:Nat),a<2^k→a ||| b*2^k=a+b*2^k:=fun a b k h=>by
  rw[Nat.or_comm,Nat.mul_comm,←Nat.two_pow_add_eq_or_of_lt h,Nat.add_comm]
 show(Jx [c.toUInt8,(shr32 c 8).toUInt8,(shr32 c 16).toUInt8,(shr32 c 24).toUInt8] 0).toNat=_
 simp only[Jx,Le,List.getD_cons_zero,List.getD_cons_succ,Nat.zero_add]
 rw[UInt32.toNat_or,UInt32.toNat_or,UInt32.toNat_or,s8 _ 8 zO,s8 _ 16 zO,s8 _ 24 zO]
 simp only[UInt8.toNat_toUInt32,UInt32.toNat_toUInt8,e8 8 zO,e8 16 zO,e8 24 zO]
 rw[key _ _ 8 zO,key _ _ 16 zO,key _ _ 24 zO]
 omega
theorem nR(key:List UInt8)(counter:UInt32)(nonce:List UInt8)(hk:key.length=32)(hn:nonce.length=12){n:Nat}(hm:8<n):KU n key counter nonce=some (H6 key counter nonce):=by
 have hw:∀(s:List UInt8) (i:Nat),i<s.length / 4→(CI s).take (i+1)=(CI s).take i++[Jx s (4*i)]:=fun s i hi=>by
  rw[List.take_add_one,List.getElem?_eq_getElem (by rw[EH];exact hi)]
  simp[CI]
 have he:CI KT=[1634760805,857760878,2036477234,1797285236]:=by decide
 have hc:CI (GD counter)=[counter]:=by
  have:CI (GD counter)=[Jx (GD counter) 0]:=by
   unfold CI
   rw[show(GD counter).length=4 from rfl]
   rfl
  rw[this,gc]
 unfold KU J1
 have h2:II n counter nonce (CI KT++CI key)=some (H6 key counter nonce):=by
  unfold II J4
  have hlk:(CI key).length=8:=by rw[EH,hk]
  rw[CB (by simp[he,hlk]) (by simp[he,hlk]),U]
  refine(congrArg (Bu _ n) ?_).trans (Dq (fun i=>(CI KT++CI key++[counter]++(CI nonce).take i,(i:Int))) 3 (fun i hi k=>?_) (fun k=>?_) zO)
  simp
  simp only[Ge,show decide ((i:Int)<3)=true by simp;omega,Be]
  rw[A8 zO zO,show 4*(i:Int)=((4*i:Nat):Int) by omega,jb nonce (4*i) zO zO,U,CB (by simp[he,hlk,EH];omega) (by simp[he,hlk,EH];omega),U]
  simp only[ret]
  rw[A8 zO zO,hw nonce i zO]
  simp
  simp only[Ge,show decide (((3:Nat):Int)<3)=false by decide,BD,J5]
  rw[List.take_of_length_le (by have:=EH nonce;omega)]
  simp[H6,hc]
 refine(congrArg (Bu _ n) ?_).trans (Dq (fun i=>(CI KT++(CI key).take i,(i:Int))) 8 (fun i hi k=>?_) (fun k=>?_) hm)
 simp[he]
 simp only[GX,show decide ((i:Int)<8)=true by simp;omega,Be]
 rw[A8 zO zO,show 4*(i:Int)=((4*i:Nat):Int) by omega,jb key (4*i) zO zO,U,CB (by simp[he,EH];omega) (by simp[he,EH];omega),U]
 simp only[ret]
 rw[A8 zO zO,hw key i zO]
 simp
 simp only[GX,show decide (((8:Nat):Int)<8)=false by decide,BD]
 rw[List.take_of_length_le (by have:=EH key;omega)]
 exact h2
theorem uU(ws:List UInt32)(ix:Nat→Nat)(h:∀k,k<4→ix k<ws.length):C1 ws (ix 0:Int) (ix 1:Int) (ix 2:Int) (ix 3:Int)=some (kX ws ix):=by
 unfold C1
 have h0:=h 0 zD
 have h1:=h 1 zD
 have h2:=h 2 zD
 have h3:=h 3 zD
 have g:∀(l:List UInt32) (k:Nat),k<l.length→Ao l (k:Int)=some (l.getD k 0):=fun l k hk=>CF 0 rfl hk
 rw[g _ _ h0,U,g _ _ h1,U,g _ _ h2,U,g _ _ h3,U,iy,U]
 generalize hq:Q4.quarter ⟨ws.getD (ix 0) 0,ws.getD (ix 1) 0,ws.getD (ix 2) 0,ws.getD (ix 3) 0⟩=q
 have q0:Ao q.list 0=some q.a:=rfl
 have q1:Ao q.list 1=some q.b:=rfl
 have q2:Ao q.list 2=some q.c:=rfl
 have q3:Ao q.list 3=some q.d:=rfl
 simp only[q0,q1,q2,q3,U,Jd rfl h0,g (ws.set (ix 0) q.a) (ix 1) (by simpa using h1),Jd rfl (show ix 1<(ws.set (ix 0) q.a).length by simpa using h1),
  g ((ws.set (ix 0) q.a).set (ix 1) q.b) (ix 2) (by simpa using h2),Jd rfl (show ix 2<((ws.set (ix 0) q.a).set (ix 1) q.b).length by simpa using h2),
  g (((ws.set (ix 0) q.a).set (ix 1) q.b).set (ix 2) q.c) (ix 3) (by simpa using h3),Jd rfl (show ix 3<(((ws.set (ix 0) q.a).set (ix 1) q.b).set (ix 2) q.c).length by simpa using h3)]
 unfold kX
 rw[hq]
 rfl
theorem ny(key:List UInt8)(counter:UInt32)(nonce:List UInt8)(hk:key.length=32)(hn:nonce.length=12){n:Nat}(hm:16<n):G8 n key counter nonce=some (KG key counter nonce,0):=by
 have hb:=Mj (counter:=counter) hk hn
 unfold G8
 rw[show((!decide ((key.length:Int)=32))||(!decide ((nonce.length:Int)=12)))=false by simp[hk,hn]]
 simp only[BD]
 rw[nR key counter nonce hk hn zO,U]
 generalize hw:H6 key counter nonce=w at hb
 rw[CB (by simp[hb]) (by simp[hb]),U,List.nil_append]
 have hl:∀l:List UInt32,(l.flatMap GD).length=4*l.length:=by
  intro l
  induction l with
  | nil=>rfl
  | cons x r ih=>rw[List.flatMap_cons,List.length_append,ih,List.length_cons];simp[GD];omega
 have h3:∀ws:List UInt32,ws.length=16→GO n w ws=some ((List.zipWith (·+·) ws w).flatMap GD,0):=by
  intro ws ht
  have hz:(List.zipWith (·+·) ws w).length=16:=by simp[ht,hb]
  have hg:∀i,i<16→(List.zipWith (·+·) ws w)[i]? = some (ws.getD i 0+w.getD i 0):=fun i hi=>by
   simp[List.getD_eq_getElem?_getD,ht,hb,hi]
  generalize List.zipWith (·+·) ws w=z at hz hg
  unfold GO Jy
  refine(congrArg (Bu _ n) ?_).trans (Dq (fun i=>((z.take i).flatMap GD,(i:Int))) 16 (fun i hi k=>?_) (fun k=>?_) zO)
  simp
  have ei:((i+1:Nat):Int)=(i:Int)+1:=zO
  have st:(z.take (i+1)).flatMap GD=(z.take i).flatMap GD++GD (ws.getD i 0+w.getD i 0):=by
   rw[List.take_add_one,hg i hi,List.flatMap_append]
   simp
  dsimp only
  rw[st,ei]
  simp only[Gg,show decide ((i:Int)<16)=true by simp;omega,Be,ret]
  rw[CF (k:=i) 0 rfl zO,U,CF (k:=i) 0 rfl zO,U,CB (by rw[hl];simp[hz];omega) (by rw[hl];simp[hz];omega),U,A8 zO zO]
  rfl
  simp only[Gg,show decide (((16:Nat):Int)<16)=false by decide,BD,J0]
  rw[List.take_of_length_le zO]
 have h2:GO n w (Sl w 10)=some (KG key counter nonce,0):=by
  rw[h3 _ (by rw[Mo,hb])]
  unfold KG jy
  rw[hw]
 unfold KA
 refine(congrArg (Bu _ n) ?_).trans (Dq (fun i=>(Sl w i,(i:Int))) 10 (fun i hi k=>?_) (fun k=>?_) zO)
 rfl
 simp only[Gc,show decide ((i:Int)<10)=true by simp;omega,Be,ret]
 have hl0:(Sl w i).length=16:=by rw[Mo,hb]
 have hA:∀(l:List UInt32) (s j:Nat),l.length=16→j<4→C1 l (IX s j 0:Int) (IX s j 1:Int) (IX s j 2:Int) (IX s j 3:Int)=some (kX l (IX s j)):=fun l s j hl hj=>uU l (IX s j) (fun k hk=>by unfold IX;omega)
 have r:∀(l:List UInt32) (s:Nat),l.length=16→∀j,(Db l s j).length=16:=fun l s hl j=>by rw[Kc,hl]
 have a0:∀l:List UInt32,l.length=16→C1 l 0 4 8 12=some (Db l 0 1):=fun l hl=>hA l 0 0 hl zD
 have a1:∀l:List UInt32,l.length=16→C1 (Db l 0 1) 1 5 9 13=some (Db l 0 2):=fun l hl=>hA _ 0 1 (r _ _ hl _) zD
 have a2:∀l:List UInt32,l.length=16→C1 (Db l 0 2) 2 6 10 14=some (Db l 0 3):=fun l hl=>hA _ 0 2 (r _ _ hl _) zD
 have a3:∀l:List UInt32,l.length=16→C1 (Db l 0 3) 3 7 11 15=some (Db l 0 4):=fun l hl=>hA _ 0 3 (r _ _ hl _) zD
 have b0:∀l:List UInt32,l.length=16→C1 l 0 5 10 15=some (Db l 1 1):=fun l hl=>hA l 1 0 hl zD
 have b1:∀l:List UInt32,l.length=16→C1 (Db l 1 1) 1 6 11 12=some (Db l 1 2):=fun l hl=>hA _ 1 1 (r _ _ hl _) zD
 have b2:∀l:List UInt32,l.length=16→C1 (Db l 1 2) 2 7 8 13=some (Db l 1 3):=fun l hl=>hA _ 1 2 (r _ _ hl _) zD
 have b3:∀l:List UInt32,l.length=16→C1 (Db l 1 3) 3 4 9 14=some (Db l 1 4):=fun l hl=>hA _ 1 3 (r _ _ hl _) zD
 have hl4:=r _ 0 hl0 4
 rw[a0 _ hl0,U,a1 _ hl0,U,a2 _ hl0,U,a3 _ hl0,U,b0 _ hl4,U,b1 _ hl4,U,b2 _ hl4,U,b3 _ hl4,U,A8 zO zO]
 rfl
 simp only[Gc,show decide (((10:Nat):Int)<10)=false by decide,BD]
 exact h2
theorem oC(key nonce s:List UInt8)(hk:key.length=32)(hn:nonce.length=12)(hs:s.length≤1048576){n:Nat}(hm:16<n)(hm2:s.length<n):Kz n key nonce s=some (GY key nonce s,0):=by
 have hB:∀i,G8 n key (UInt32.ofNat i) nonce=some (KG key (UInt32.ofNat i) nonce,0):=fun i=>ny key _ nonce hk hn hm
 have hL:∀i,(KG key (UInt32.ofNat i) nonce).length=64:=fun i=>SV hk hn
 have hX:∀i,i<s.length→(GY key nonce s).take (i+1)=(GY key nonce s).take i++[s.getD i 0 ^^^ (KG key (UInt32.ofNat (i / 64)) nonce).getD (i%64) 0]:=fun i hi=>by
  rw[List.take_add_one,List.getElem?_eq_getElem (by rw[FK];exact hi)]
  simp[GY,Om]
 have hXl:=FK key nonce s
 generalize GY key nonce s=X at hX hXl ⊢
 generalize hBf:(fun i=>KG key (UInt32.ofNat i) nonce)=B
 have hB':∀i,G8 n key (UInt32.ofNat i) nonce=some (B i,0):=fun i=>by rw[hB i,←hBf]
 have hL':∀i,(B i).length=64:=fun i=>by rw[←hBf];exact hL i
 have hX':∀i,i<s.length→X.take (i+1)=X.take i++[s.getD i 0 ^^^ (B (i / 64)).getD (i%64) 0]:=fun i hi=>by rw[hX i hi,←hBf]
 clear hB hL hX hBf
 unfold Kz
 rw[show(((!decide ((key.length:Int)=32))||(!decide ((nonce.length:Int)=12)))||(decide (1048576<(s.length:Int))))=false by simp[hk,hn];omega]
 simp only[BD]
 unfold Jf
 refine(congrArg (Bu _ n) ?_).trans (Dq (fun i=>(X.take i,(if i=0 then[]else B ((i-1) / 64)),(i:Int))) s.length (fun i hi k=>?_) (fun k=>?_) hm2)
 simp
 have ei:((i+1:Nat):Int)=(i:Int)+1:=zO
 dsimp only
 rw[hX' i hi,if_neg (show ¬i+1=0 by omega),Nat.add_sub_cancel,ei]
 simp only[IM,show decide ((i:Int)<(s.length:Int))=true by simp;omega,Be]
 have hr:RX (i:Int) 64=some ((i%64:Nat):Int):=Ut zD
 have hq:Td (i:Int) 64=some ((i / 64:Nat):Int):=dt zD zO
 have hj:Hl s (X.take i) (i:Int) k (B (i / 64))=k (X.take i++[s.getD i 0 ^^^ (B (i / 64)).getD (i%64) 0],B (i / 64),(i:Int)+1):=by
  have hbl:=hL' (i / 64)
  unfold Hl
  rw[CF (k:=i) 0 rfl hi,U,hr,U,CF (k:=i%64) 0 rfl zO,U,CB zQ zQ,U]
  simp only[ret]
  rw[A8 zO zO]
 rw[hr,U]
 by_cases h0:i%64=0
 rw[show decide (((i%64:Nat):Int)=0)=true by simp;omega]
 simp only[Be]
 have hu:FC ((i / 64:Nat):Int)=UInt32.ofNat (i / 64):=by
  simp only[FC]
  congr 1
  omega
 rw[hq,U,hu,hB',U]
 exact hj
 rw[show decide (((i%64:Nat):Int)=0)=false by simp;omega]
 simp only[BD]
 rw[if_neg (show ¬i=0 by omega),show(i-1) / 64=i / 64 by omega]
 exact hj
 simp only[IM,show decide ((s.length:Int)<(s.length:Int))=false by simp,BD,Lu]
 rw[List.take_of_length_le zO]
end

section
theorem Zp(x:UInt32)(n:Nat)(h:n≤32):B8 x (n:Int)=some (J2 x n):=by
 unfold B8
 rw[UM,U,A8 zO zO,show(32-(n:Int))=((32-n:Nat):Int) by omega,UM,U]
 rfl
theorem kj(s:List UInt8)(w:List UInt32)(h:16≤w.length):Qy s w=w.getD (w.length-16) 0+nj (w.getD (w.length-15) 0)+w.getD (w.length-7) 0+mJ (w.getD (w.length-2) 0):=by
 unfold Qy
 rw[if_neg zO]
 ac_rfl
theorem oH{h:List UInt32}(hh:h.length=8){n:Nat}(hm:64<n):∀f:List UInt32,f.length=8→Gv n h f=some (List.zipWith (·+·) f h):=by
 intro f hf
 have hfl:h.length=f.length:=zO
 unfold Gv Kg
 refine(congrArg (Bu _ n) ?_).trans (Dq (fun i=>(RQ f h i,(i:Int))) 8 (fun i hi k=>?_) (fun k=>?_) zO)
 simp[RQ]
 have ei:((i+1:Nat):Int)=(i:Int)+1:=zO
 have hml:=Ue f h hfl i
 dsimp only
 rw[ei,←ah f h hfl i zO,←Zx f h hfl i zO]
 simp only[HU,show decide ((i:Int)<8)=true by simp;omega,Be,ret]
 rw[CF (k:=i) 0 rfl zO,U,CF (k:=i) 0 rfl zO,U,U,Jd rfl zO,U,A8 zO zO]
 simp only[HU,show decide (((8:Nat):Int)<8)=false by decide,BD,Ks]
 have:=YW f h hfl
 rw[hf]at this
 rw[this]
theorem mV{T h:List UInt32}(hT:T.length=64)(hh:h.length=8){n:Nat}(hm:64<n):∀w:List UInt32,w.length=64→G5 n T h w=some (List.zipWith (·+·) h (GV T w h 64).list):=by
 intro w hw
 have t6:∀x,B8 x 6=some (J2 x 6):=fun x=>Zp x 6 zD
 have t11:∀x,B8 x 11=some (J2 x 11):=fun x=>Zp x 11 zD
 have t25:∀x,B8 x 25=some (J2 x 25):=fun x=>Zp x 25 zD
 have t2:∀x,B8 x 2=some (J2 x 2):=fun x=>Zp x 2 zD
 have t13:∀x,B8 x 13=some (J2 x 13):=fun x=>Zp x 13 zD
 have t22:∀x,B8 x 22=some (J2 x 22):=fun x=>Zp x 22 zD
 have hz:∀q:Mv,Gv n h q.list=some (List.zipWith (·+·) h q.list):=fun q=>by
  rw[oH hh hm _ rfl,List.zipWith_comm]
  simp only[UInt32.add_comm]
 have hN:∀i,GV T w h (i+1)=(GV T w h i).step (T.getD i 0) (w.getD i 0):=fun i=>rfl
 have h0:(GV T w h 0).list=h:=Qh hh
 generalize GV T w h=R at hN h0 ⊢
 unfold G5 Kk
 rw[CB (by simp[hh]) (by simp[hh]),U,List.nil_append]
 refine(congrArg (Bu _ n) ?_).trans (Dq (fun i=>((R i).list,(i:Int))) 64 (fun i hi k=>?_) (fun k=>?_) zO)
 simp[h0]
 have ei:((i+1:Nat):Int)=(i:Int)+1:=zO
 dsimp only
 rw[ei,hN]
 generalize R i=q
 have q0:Ao q.list 0=some q.a:=rfl
 have q1:Ao q.list 1=some q.b:=rfl
 have q2:Ao q.list 2=some q.c:=rfl
 have q3:Ao q.list 3=some q.d:=rfl
 have q4:Ao q.list 4=some q.e:=rfl
 have q5:Ao q.list 5=some q.f:=rfl
 have q6:Ao q.list 6=some q.g:=rfl
 have q7:Ao q.list 7=some q.i:=rfl
 simp only[HT,show decide ((i:Int)<64)=true by simp;omega,Be,A9,q0,q1,q2,q3,q4,q5,q6,q7,U,t6,t11,t25,t2,t13,t22]
 rw[CF (k:=i) 0 rfl zO,U,CF (k:=i) 0 rfl zO,U,A8 zO zO]
 simp only[Mv.step,Mv.list,Mv.t1,Mv.t2]
 simp only[HT,show decide (((64:Nat):Int)<64)=false by decide,BD]
 exact hz _
theorem qp(T h:List UInt32)(s:List UInt8)(hT:T.length=64)(hh:h.length=8)(hs:s.length=64){n:Nat}(hm:64<n):LY n T h s=some (Qk T h s):=by
 
 have t7:∀x,B8 x 7=some (J2 x 7):=fun x=>Zp x 7 zD
 have t18:∀x,B8 x 18=some (J2 x 18):=fun x=>Zp x 18 zD
 have t17:∀x,B8 x 17=some (J2 x 17):=fun x=>Zp x 17 zD
 have t19:∀x,B8 x 19=some (J2 x 19):=fun x=>Zp x 19 zD
 unfold LY It
 have hW:∀i,E6 s (i+1)=E6 s i++[Qy s (E6 s i)]:=fun i=>rfl
 have hWl:=Lv s
 have hfin:G5 n T h (E6 s 64)=some (Qk T h s):=by
  unfold Qk Dx
  exact mV hT hh hm _ (hWl 64)
 have hW0:E6 s 0=[]:=rfl
 generalize E6 s=W at hW hWl hfin hW0
 refine(congrArg (Bu _ n) ?_).trans (Dq (fun i=>(W i,(i:Int))) 64 (fun i hi k=>?_) (fun k=>?_) hm)
 simp[hW0]
 have ei:((i+1:Nat):Int)=(i:Int)+1:=zO
 have hl:=hWl i
 dsimp only
 rw[ei,hW]
 generalize W i=w at hl
 simp only[HR,show decide ((i:Int)<64)=true by simp;omega,Be]
 have hj:∀x:UInt32,(Cp 4 w [x]).bind (fun l=>G4 (i:Int) k l)=k (w++[x],(i:Int)+1):=fun x=>by
  rw[CB zQ zQ,U]
  simp only[G4,ret]
  rw[A8 zO zO]
 by_cases hlt:i<16
 rw[show decide ((i:Int)<16)=true by simp;omega]
 simp only[Be]
 rw[A8 zO zO,CF (k:=4*i) 0 zO zO,U,A8 zO zO,CF (k:=4*i+1) 0 zO zO,U,A8 zO zO,CF (k:=4*i+2) 0 zO zO,U,
  A8 zO zO,CF (k:=4*i+3) 0 zO zO,U,hj]
 unfold Qy
 rw[if_pos zO,hl]
 rfl
 rw[show decide ((i:Int)<16)=false by simp;omega]
 simp only[BD]
 rw[A8 zO zO,CF (k:=i-15) 0 zO zO,U,A8 zO zO,CF (k:=i-2) 0 zO zO,U,A8 zO zO,CF (k:=i-16) 0 zO zO,U,
  t7,U,t18,U,A8 zO zO,CF (k:=i-7) 0 zO zO,U,t17,U,t19,U,hj,kj s w zO,hl]
 rfl
 simp only[HR,show decide (((64:Nat):Int)<64)=false by decide,BD]
 exact hfin
theorem ew(x:UInt64):shr64 x 0=x:=by
 apply UInt64.toNat_inj.1
 have:=x.toNat_lt
 simp[shr64]
theorem kQ(s:List UInt8)(hs:s.length≤1099511627776){n:Nat}(hm:64<n):Ja n s=some (s++LB s.length):=by
 unfold Ja
 rw[Cn zQ,U]
 unfold JR
 have hp:LT s.length<64:=by unfold LT;omega
 refine(congrArg (Bu _ n) ?_).trans (Dq (fun i=>s++[128]++List.replicate i 0) (LT s.length) (fun i hi k=>?_) (fun k=>?_) zO)
 simp
 have hl:(s++[128]++List.replicate i (0:UInt8)).length=s.length+1+i:=by simp;omega
 have st:s++[128]++List.replicate (i+1) (0:UInt8)=s++[128]++List.replicate i 0++[0]:=by rw[List.replicate_succ',List.append_assoc _ _ [0]]
 rw[st]
 generalize s++[128]++List.replicate i (0:UInt8)=u at hl
 simp only[GG]
 rw[hl,show(64:Int)=((64:Nat):Int)from rfl,Ut zD,U,show(!decide ((((s.length+1+i)%64:Nat):Int)=56))=true by unfold LT at hi;simp;omega]
 simp only[Be]
 rw[Cn zQ,U]
 have hl:(s++[128]++List.replicate (LT s.length) (0:UInt8)).length=s.length+1+LT s.length:=by simp;omega
 have ht:s++LB s.length=s++[128]++List.replicate (LT s.length) 0++SP (BW s.length*8):=by simp[LB]
 rw[ht]
 generalize s++[128]++List.replicate (LT s.length) (0:UInt8)=u at hl
 simp only[GG]
 rw[hl,show(64:Int)=((64:Nat):Int)from rfl,Ut zD,U,show(!decide ((((s.length+1+LT s.length)%64:Nat):Int)=56))=false by unfold LT;simp;omega]
 simp only[BD,JK,ret]
 rw[Cn zQ,U]
 simp only[SP,ew]
theorem iF(T:List UInt32)(s:List UInt8)(hT:T.length=64)(hs:s.length≤1099511627776){n:Nat}(hm:64<n)(hm2:s.length<n):JL n T s=some (Mk T s):=by
 unfold JL
 rw[kQ s hs hm,U]
 have hw:(s++LB s.length).length%64=0:=by
  simp[LB,LT,SP];omega
 have hlen:(s++LB s.length).length≤s.length+73:=by
  simp[LB,LT,SP];omega
 have hsum:Mk T s=(Gn T Do (s++LB s.length) ((s++LB s.length).length / 64)).list.flatMap HS:=by
  unfold Mk
  rw[LK]
 rw[hsum]
 generalize s++LB s.length=f at hw hlen
 
 have hl:∀l:List UInt32,(l.flatMap HS).length=4*l.length:=by
  intro l
  induction l with
  | nil=>rfl
  | cons x r ih=>rw[List.flatMap_cons,List.length_append,ih,List.length_cons];simp[HS];omega
 have h1:∀l:List UInt32,l.length=8→JU n l=some (l.flatMap HS):=by
  intro l h8
  unfold JU Lw
  refine(congrArg (Bu _ n) ?_).trans (Dq (fun i=>((l.take i).flatMap HS,(i:Int))) 8 (fun i hi k=>?_) (fun k=>?_) zO)
  simp
  have ei:((i+1:Nat):Int)=(i:Int)+1:=zO
  have st:(l.take (i+1)).flatMap HS=(l.take i).flatMap HS++HS (l.getD i 0):=by
   rw[List.take_add_one,Iv 0 zO,List.flatMap_append]
   simp
  dsimp only
  rw[st,ei]
  simp only[H9,show decide ((i:Int)<8)=true by simp;omega,Be,ret]
  rw[CF (k:=i) 0 rfl zO,U,U,U,U,CB (by rw[hl];simp;omega) (by rw[hl];simp;omega),U,A8 zO zO]
  rfl
  simp only[H9,show decide (((8:Nat):Int)<8)=false by decide,BD,Lh]
  rw[List.take_of_length_le zO]
 unfold Lg
 have hfirst:MU=some Do.list:=rfl
 rw[hfirst,U]
 have hP:∀j,(Gn T Do f (j+1)).list=Qk T (Gn T Do f j).list ((f.drop (64*j)).take 64):=fun j=>by
  show(UB T _ _).list=_
  unfold UB
  exact Qh (Tf rfl)
 have hP8:∀j,(Gn T Do f j).list.length=8:=fun j=>rfl
 have hP0:(Gn T Do f 0).list=Do.list:=rfl
 generalize (fun j=>(Gn T Do f j).list)=R at hP hP8 hP0
 generalize hR:(fun j=>(Gn T Do f j).list)=R at*
 have hP':∀j,R (j+1)=Qk T (R j) ((f.drop (64*j)).take 64):=fun j=>by rw[←hR];exact hP j
 have hP8':∀j,(R j).length=8:=fun j=>by rw[←hR];exact hP8 j
 have hP0':R 0=Do.list:=by rw[←hR];exact hP0
 have hRN:(Gn T Do f (f.length / 64)).list=R (f.length / 64):=by rw[←hR]
 rw[hRN]
 clear hR hRN hP hP8 hP0
 refine(congrArg (Bu _ n) ?_).trans (Dq (fun j=>(R j,((64*j:Nat):Int))) (f.length / 64) (fun j hj k=>?_) (fun k=>?_) zO)
 simp[hP0']
 have ej:((64*(j+1):Nat):Int)=((64*j:Nat):Int)+64:=zO
 dsimp only
 rw[hP',ej]
 simp only[IL,show decide (((64*j:Nat):Int)<(f.length:Int))=true by simp;omega,Be,ret]
 rw[A8 zO zO,Dz (p:=64*j) (q:=64*j+64) rfl zO zO zO,U,show 64*j+64-64*j=64 by omega,qp T (R j) _ hT (hP8' j) zQ hm,U]
 simp only[IL,show decide (((64*(f.length / 64):Nat):Int)<(f.length:Int))=false by simp;omega,BD]
 exact h1 _ (hP8' _)
theorem jB(T:List UInt32)(key:List UInt8)(c:UInt8)(hT:T.length=64)(hs:key.length≤1099511627776){n:Nat}(hm:64<n)(hm2:key.length<n):Jm n T key c=some (F9 T key c):=by
 have h1:∀u:List UInt8,u.length≤64→Gw n c u=some ((List.range 64).map fun i=>u.getD i 0 ^^^ c):=by
  intro u hu
  unfold Gw In
  refine(congrArg (Bu _ n) ?_).trans (Dq (fun i=>((List.range i).map (fun i=>u.getD i 0 ^^^ c),(i:Int))) 64 (fun i hi k=>?_) (fun k=>?_) hm)
  simp
  have ei:((i+1:Nat):Int)=(i:Int)+1:=zO
  have st:(List.range (i+1)).map (fun i=>u.getD i 0 ^^^ c)=(List.range i).map (fun i=>u.getD i 0 ^^^ c)++[u.getD i 0 ^^^ c]:=by simp[List.range_succ]
  have hj:G3 c ((List.range i).map (fun i=>u.getD i 0 ^^^ c)) (i:Int) k (u.getD i 0)=k ((List.range i).map (fun i=>u.getD i 0 ^^^ c)++[u.getD i 0 ^^^ c],(i:Int)+1):=by
   unfold G3
   rw[CB zQ zQ,U]
   simp only[ret]
   rw[A8 zO zO]
  dsimp only
  rw[st,ei,←hj]
  simp only[HH,show decide ((i:Int)<64)=true by simp;omega,Be]
  by_cases h0:i<u.length
  rw[show decide ((i:Int)<(u.length:Int))=true by simp;omega]
  simp only[Be]
  rw[CF (k:=i) 0 rfl h0,U]
  rw[show decide ((i:Int)<(u.length:Int))=false by simp;omega]
  simp only[BD]
  rw[show u.getD i 0=0 by simp[List.getD_eq_getElem?_getD,List.getElem?_eq_none (show u.length≤i by omega)]]
  simp only[HH,show decide (((64:Nat):Int)<64)=false by decide,BD,K4]
 unfold Jm F9 FU
 by_cases h0:64<key.length
 rw[show decide (64<(key.length:Int))=true by simp;omega,if_pos h0]
 simp only[Be]
 rw[iF T key hT hs hm hm2,U]
 exact h1 _ (by rw[JN];omega)
 rw[show decide (64<(key.length:Int))=false by simp;omega,if_neg h0]
 simp only[BD]
 exact h1 _ zO
theorem iO(T:List UInt32)(key m:List UInt8)(hT:T.length=64)(hk:key.length≤1048576)(hs:m.length≤1048576){n:Nat}(hm:2097152<n):IN n T key m=some (Mt T key m):=by
 unfold IN Mu
 have l1:=LS T key 54
 have l2:=LS T key 92
 rw[jB T key 54 hT zO zO zO,U,Cn zO,U,jB T key 92 hT zO zO zO,U,iF T _ hT zQ zO zQ,U,
  Cn (by rw[JN];omega),U,U]
 have e:Ao [F9 T key 54++m,F9 T key 92++Mk T (F9 T key 54++m)] 1=some (F9 T key 92++Mk T (F9 T key 54++m)):=rfl
 rw[e,U,iF T _ hT (by rw[List.length_append,JN];omega) zO (by rw[List.length_append,JN];omega),U]
 unfold Mt
 exact Eq.refl _
theorem lR(T:List UInt32)(key label:List UInt8)(hT:T.length=64)(hk:key.length≤1048576)(hl:label.length≤1000000){n:Nat}(hm:2097152<n):Hp n T key label 32=some (Gh T key label,0):=by
 have hml:∀m,(Mt T key m).length=32:=fun m=>Gm T key m
 have hmac:IN n T key ([]++label++[HL 1])=some (Gh T key label):=by
  rw[iO T key _ hT hk zQ hm]
  rfl
 have he:(Gh T key label).length=32:=hml _
 generalize Gh T key label=x at hmac he ⊢
 unfold Hp JE
 rw[show((decide ((32:Int)<0))||(decide ((8160:Int)<32)))=false by decide]
 simp only[BD]
 obtain⟨m,rfl⟩:∃m,n=m+1+1:=⟨n-2,by omega⟩
 rw[Wm]
 simp only[GB]
 rw[show decide (((([]:List UInt8).length:Nat):Int)<32)=true by decide]
 simp only[Be]
 rw[Cn zQ,U,Cn zQ,U,hmac,U,Cn zQ,U]
 rw[A9,List.nil_append,Wm]
 simp only[GB]
 rw[show decide (((x.length:Nat):Int)<32)=false by rw[he];decide]
 simp only[BD,JF]
 rw[show Cz x 0 32=some ((x.drop 0).take (32-0))from Dz (p:=0) (q:=32) rfl rfl zO zO,U]
 simp[List.take_of_length_le,he]
end

section
theorem X7(x:UInt64)(w:Nat)(hw:w≤8){n:Nat}(hm:8<n):Dk n x (w:Int)=some (BA x w):=by
 unfold Dk Lc
 have hS:∀i,i<8→shr64 x (8*(i+1))=shr64 x (8*i) / 256:=fun i hi=>by
  apply UInt64.toNat_inj.1
  rw[UInt64.toNat_div,JD _ _ zO,JD _ _ zO,show(256:UInt64).toNat=2^8 from rfl,Nat.div_div_eq_div_mul,←Nat.pow_add,show 8*(i+1)=8*i+8 by omega]
 have hP:∀i,BA x (i+1)=BA x i++[(shr64 x (8*i)).toUInt8]:=R9 x
 have h0:shr64 x (8*0)=x:=by rw[Nat.mul_zero,ew]
 have hl:=Ah x
 have hp0:BA x 0=[]:=rfl
 generalize BA x=Pt at hP hl hp0 ⊢
 generalize hq:(fun i=>shr64 x (8*i))=S
 have hS':∀i,i<8→S (i+1)=S i / 256:=fun i hi=>by rw[←hq];exact hS i hi
 have hP':∀i,Pt (i+1)=Pt i++[(S i).toUInt8]:=fun i=>by rw[hP,←hq]
 have h0':S 0=x:=by rw[←hq];exact h0
 clear hS hP h0 hq
 refine(congrArg (Bu _ n) ?_).trans (Dq (fun i=>(S i,Pt i,(i:Int))) w (fun i hi k=>?_) (fun k=>?_) zO)
 simp[h0',hp0]
 have ei:((i+1:Nat):Int)=(i:Int)+1:=zO
 dsimp only
 rw[ei,hP',hS' i zO]
 simp only[IE,show decide ((i:Int)<(w:Int))=true by simp;omega,Be]
 have hlp:=hl i
 rw[Cn zQ,U,show Pd (S i) 256=some (S i / 256)from rfl,U,A9,A8 zO zO]
 simp only[IE,show decide ((w:Int)<(w:Int))=false by simp,BD,Lr]
def N0:List UInt8→Nat
 | []=>0
 | b::r=>b.toNat+256*N0 r
theorem Zw:∀(s:List UInt8) (b:UInt8),N0 (s++[b])=N0 s+b.toNat*2^(8*s.length)
 | [],b=>by simp[N0]
 | c::r,b=>by
  rw[List.cons_append,N0,Zw r b,N0,List.length_cons,show 8*(r.length+1)=8*r.length+8 by omega,Nat.pow_add,Nat.mul_add]
  rw[show(2:Nat)^8=256 from rfl,Nat.add_assoc]
  congr 2
  rw[Nat.mul_left_comm,Nat.mul_comm 256]
theorem XH:∀s:List UInt8,N0 s<2^(8*s.length)
 | []=>by simp[N0]
 | b::r=>by
  have h1:=XH r
  have h2:=b.toNat_lt
  rw[N0,List.length_cons,show 8*(r.length+1)=8*r.length+8 by omega,Nat.pow_add,show(2:Nat)^8=256 from rfl]
  omega
theorem NK(s:List UInt8):∀k,k≤8→k≤s.length→(B6 s k).toNat=N0 (s.take k)
 | 0,_,_=>by simp[B6,N0]
 | k+1,hk,hl=>by
  have ih:=NK s k zO zO
  have hlt:=XH (s.take k)
  have hlk:(s.take k).length=k:=by simp;omega
  rw[hlk]at hlt
  rw[B6,UInt64.toNat_or,ih,Wi _ _ zO,List.take_add_one,Iv 0 zO,Option.toList_some,Zw,hlk]
  rw[Nat.or_comm,Nat.mul_comm _ (2^(8*k)),←Nat.two_pow_add_eq_or_of_lt hlt,Nat.add_comm]
theorem aC:∀(s:List UInt8) (i:Nat),i<s.length→N0 s / 2^(8*i)%256=(s.getD i 0).toNat
 | [],i,h=>by simp at h
 | b::r,0,_=>by
  have:=b.toNat_lt
  simp only[N0,Nat.mul_zero,Nat.pow_zero,Nat.div_one,List.getD_cons_zero]
  omega
 | b::r,i+1,h=>by
  have:=b.toNat_lt
  have ih:=aC r i (by simpa using h)
  rw[N0,show 8*(i+1)=8+8*i by omega,Nat.pow_add,←Nat.div_div_eq_div_mul,show(b.toNat+256*N0 r) / 2^8=N0 r by rw[show(2:Nat)^8=256 from rfl];omega,ih,List.getD_cons_succ]
theorem SE(s:List UInt8)(w:Nat)(hw:w≤8)(hl:w≤s.length):BA (B6 s w) w=s.take w:=by
 refine List.ext_getElem (by simp[Ah];omega) fun i h1 h2=>?_
 have hi:i<w:=by simpa[Ah]using h1
 have hv:=NK s w hw hl
 have hb:=aC (s.take w) i zQ
 have e1:(BA (B6 s w) w)[i]=(shr64 (B6 s w) (8*i)).toUInt8:=by simp[BA]
 rw[e1]
 apply UInt8.toNat_inj.1
 rw[UInt64.toNat_toUInt8,JD _ _ zO,hv,hb,List.getD_eq_getElem?_getD,List.getElem?_eq_getElem h2]
 rfl
theorem oM(s:List UInt8)(hs:s.length≤8){n:Nat}(hm:8<n):Fz n s=some (B6 s s.length):=by
 have hfin:UInt64.ofNat (N0 (s.drop (s.length-s.length)))=B6 s s.length:=by
  apply UInt64.toNat_inj.1
  rw[NK s s.length hs (Nat.le_refl _),List.take_length,Nat.sub_self,List.drop_zero]
  have:=XH s
  have h2:2^(8*s.length)≤2^64:=Nat.pow_le_pow_right zD zO
  simp only[UInt64.toNat_ofNat']
  exact Nat.mod_eq_of_lt zO
 unfold Fz
 rw[A9,A8 zO zO]
 unfold Lb
 refine(congrArg (Bu _ n) ?_).trans (Dq (fun j=>(UInt64.ofNat (N0 (s.drop (s.length-j))),(s.length:Int)-1-j)) s.length (fun j hj k=>?_) (fun k=>?_) zO)
 simp[N0]
 have ej:(s.length:Int)-1-((j+1:Nat):Int)=(s.length:Int)-1-j-1:=zO
 have st:s.drop (s.length-(j+1))=s.getD (s.length-(j+1)) 0::s.drop (s.length-j):=by
  rw[List.drop_eq_getElem_cons zO,show s.length-(j+1)+1=s.length-j by omega]
  simp[List.getD_eq_getElem?_getD,List.getElem?_eq_getElem (show s.length-(j+1)<s.length by omega)]
 have hv:256*UInt64.ofNat (N0 (s.drop (s.length-j)))+(s.getD (s.length-(j+1)) 0).toUInt64=UInt64.ofNat (N0 (s.drop (s.length-(j+1)))):=by
  rw[st,N0]
  apply UInt64.toNat_inj.1
  simp only[UInt64.toNat_add,UInt64.toNat_mul,UInt64.toNat_ofNat',UInt8.toNat_toUInt64]
  generalize N0 (s.drop (s.length-j))=q
  have h256:(256:UInt64).toNat=256:=rfl
  rw[h256]
  omega
 dsimp only
 rw[ej,←hv]
 simp only[H3,show decide (0≤(s.length:Int)-1-j)=true by simp;omega,Be]
 rw[CF (k:=s.length-(j+1)) 0 zO zO,U,A9,A9,A8 zO zO]
 simp only[H3,show decide (0≤(s.length:Int)-1-((s.length:Nat):Int))=false by simp;omega,BD,Lt]
 rw[hfin]
theorem SG(s:List UInt8)(w:Nat):∀k,k≤w→B6 (s.take w) k=B6 s k
 | 0,_=>rfl
 | k+1,h=>by
  rw[B6,B6,SG s w k zO]
  congr 3
  simp[List.getD_eq_getElem?_getD,List.getElem?_take,show k<w by omega]
theorem fZ(h:B7){n:Nat}(hm:8<n):Ip n h=some (GJ h):=by
 unfold Ip
 rw[show Dk n h.boot.toUInt64 4=some (BA h.boot.toUInt64 4)from X7 _ 4 zD hm,U,show Dk n h.seq 8=some (BA h.seq 8)from X7 _ 8 zD hm,U,Cn (by simp[Ah]),U]
 unfold GJ
 exact Eq.refl _
theorem tR(h:B7){n:Nat}(hm:8<n):MZ n h=some (Nk h):=by
 unfold MZ
 have p4:∀x:UInt64,Dk n x 4=some (BA x 4):=fun x=>X7 _ 4 zD hm
 have p8:∀x:UInt64,Dk n x 8=some (BA x 8):=fun x=>X7 _ 8 zD hm
 rw[p4,U,p4,U,Cn (by simp[Ah]),U,p4,U,Cn (by simp[Ah]),U,p8,U,Cn (by simp[Ah]),U,Cn (by simp[Ah]),U]
 simp[Nk,GJ]
theorem Sf{x:UInt64}(h:x.toNat<4294967296):x.toUInt32.toUInt64=x:=by
 apply UInt64.toNat_inj.1
 rw[UInt32.toNat_toUInt64,UInt64.toNat_toUInt32]
 exact Nat.mod_eq_of_lt h
theorem k8{s:List UInt8}(hl:s.length=24)(hz:s.drop 20=[0,0,0,0]):Nk (N1 s)=s:=by
 have o:PP 0=0∧PP 1=4∧PP 2=8∧PP 3=12:=⟨rfl,rfl,rfl,rfl⟩
 have w:MF 0=4∧MF 1=4∧MF 2=4∧MF 3=8:=⟨rfl,rfl,rfl,rfl⟩
 have lt:∀k,k+4≤24→(B6 (s.drop k) 4).toNat<4294967296:=fun k hk=>by
  rw[NK _ 4 zD zQ]
  have:=XH ((s.drop k).take 4)
  rw[show((s.drop k).take 4).length=4 by simp;omega]at this
  exact this
 rw[Rw]
 simp only[N1,JH,o,w]
 rw[Sf (lt 0 zO),Sf (lt 4 zO),Sf (lt 8 zO),SE _ 4 zD zQ,SE _ 4 zD zQ,SE _ 4 zD zQ,SE _ 8 zD zQ,←hz]
 have d:∀a b:Nat,(s.drop a).take b++s.drop (a+b)=s.drop a:=fun a b=>by rw[←List.drop_drop,List.take_append_drop]
 rw[d 12 8,d 8 4,d 4 4]
 have:=d 0 4
 rwa [List.drop_zero]at this
theorem lN(s:List UInt8){n:Nat}(hm:8<n):Kv n s=some (GZ s):=by
 unfold Kv
 by_cases hl:s.length=24
 rw[show(!decide ((s.length:Int)=24))=false by simp;omega,show OF false ((Cz s 20 (s.length:Int)).bind fun s1=>some (!decide (s1=[0,0,0,0])))=some (!decide (s.drop 20=[0,0,0,0])) by
  rw[show Cz s 20 (s.length:Int)=some ((s.drop 20).take (24-20))from Dz (p:=20) (q:=24) rfl zO zO zO,U,List.take_of_length_le zQ]
  rfl,U]
 by_cases hz:s.drop 20=[0,0,0,0]
 rw[show(!decide (s.drop 20=[0,0,0,0]))=false by simp[hz]]
 simp only[BD]
 have g:∀(p q:Nat),p+q≤24→q≤8→Fz n ((s.drop p).take q)=some (B6 (s.drop p) q):=fun p q h1 h2=>by
  have hll:((s.drop p).take q).length=q:=by simp;omega
  rw[oM _ zO hm,hll,SG _ _ _ (Nat.le_refl _)]
 have s1:Cz s 0 4=some ((s.drop 0).take 4):=Dz (p:=0) (q:=4) rfl rfl zO zO
 have s2:Cz s 4 8=some ((s.drop 4).take 4):=Dz (p:=4) (q:=8) rfl rfl zO zO
 have s3:Cz s 8 12=some ((s.drop 8).take 4):=Dz (p:=8) (q:=12) rfl rfl zO zO
 have s4:Cz s 12 20=some ((s.drop 12).take 8):=Dz (p:=12) (q:=20) rfl rfl zO zO
 rw[s1,U,g 0 4 zO zO,U,s2,U,g 4 4 zO zO,U,s3,U,g 8 4 zO zO,U,s4,U,g 12 8 zO zO,U]
 unfold GZ
 rw[if_pos ⟨hl,k8 hl hz⟩]
 exact Eq.refl _
 rw[show(!decide (s.drop 20=[0,0,0,0]))=true by simp[hz]]
 simp only[Be]
 unfold GZ
 rw[if_neg]
 rfl
 rintro⟨_,he⟩
 apply hz
 rw[←he,Rw]
 rw[show 20=4+(4+(4+8))from rfl,←List.drop_drop,KL,←List.drop_drop,KL,←List.drop_drop,KL,KL]
 rw[show(!decide ((s.length:Int)=24))=true by simp;omega]
 show(some true).bind _=_
 rw[U]
 simp only[Be]
 unfold GZ
 rw[if_neg (fun h=>hl h.1)]
 rfl
theorem dR(T:List UInt32)(k:BT)(hT:T.length=64)(hr:DW [k]=true){n:Nat}(hm:2097152<n):IR n T k=some (Hf T k Hg,Hf T k IQ,0):=by
 have hl:=WW hr
 unfold IR
 rw[Y0 [k] zS zO,U,hr]
 simp only[Bool.not_true,BD]
 rw[Cn zS,U,lR T k.secret _ hT zO zS hm,U,Cn zS,U,lR T k.secret _ hT zO zS hm,U]
 exact Eq.refl _
theorem rk(s:List UInt8){n:Nat}(hm:256<n):Mh n s=some (O7 s):=by
 unfold Mh O7
 by_cases h:198<s.length
 rw[show decide (198<(s.length:Int))=true by simp;omega,if_pos h]
 simp only[Be]
 rw[show decide (198<(s.length:Int))=false by simp;omega,if_neg h]
 simp only[BD]
 rw[show Td (s.length:Int) 256=some ((s.length / 256:Nat):Int)from dt (b:=256) zD zO,U,show RX (s.length:Int) 256=some ((s.length%256:Nat):Int)from Ut (b:=256) zD,U,Cn zQ,U]
 have hp:I2 s=[HL ((s.length / 256:Nat):Int),HL ((s.length%256:Nat):Int)]++s++List.replicate (198-s.length) 0:=by
  unfold I2
  congr 3
  simp only[HL]
  congr 2
  omega
 rw[hp]
 have hl:([HL ((s.length / 256:Nat):Int),HL ((s.length%256:Nat):Int)]++s).length=s.length+2:=by simp
 generalize [HL ((s.length / 256:Nat):Int),HL ((s.length%256:Nat):Int)]++s=u at hl
 unfold Ls
 refine(congrArg (Bu _ n) ?_).trans (Dq (fun i=>u++List.replicate i 0) (198-s.length) (fun i hi k=>?_) (fun k=>?_) zO)
 simp
 have st:u++List.replicate (i+1) (0:UInt8)=u++List.replicate i 0++[0]:=by rw[List.replicate_succ',List.append_assoc]
 have hl2:(u++List.replicate i (0:UInt8)).length=s.length+2+i:=by simp;omega
 rw[st]
 generalize u++List.replicate i (0:UInt8)=y at hl2
 unfold Hx
 rw[show decide ((y.length:Int)<200)=true by simp;omega]
 simp only[Be]
 rw[Cn zQ,U]
 have hl2:(u++List.replicate (198-s.length) (0:UInt8)).length=200:=by simp;omega
 generalize u++List.replicate (198-s.length) (0:UInt8)=y at hl2
 unfold Hx
 rw[show decide ((y.length:Int)<200)=false by simp;omega]
 simp only[BD]
 unfold Lq
 exact Eq.refl _
theorem mD(b:List UInt8){n:Nat}(hm:256<n):KP n b=some (E8 b):=by
 unfold KP E8
 by_cases h:b.length=200
 rw[show(!decide ((b.length:Int)=200))=false by simp;omega,if_neg (by simpa using h)]
 simp only[BD]
 have c0:=(b.getD 0 0).toNat_lt
 have c1:=(b.getD 1 0).toNat_lt
 have hL:wI (wI (256*((b.getD 0 0).toNat:Int))+((b.getD 1 0).toNat:Int))=((DG b:Nat):Int):=by
  rw[show wI (256*((b.getD 0 0).toNat:Int))=256*((b.getD 0 0).toNat:Int)from A8 zO zO,A8 zO zO]
  unfold DG
  omega
 rw[show Ao b 0=some (b.getD 0 0)from CF (k:=0) 0 rfl zO,U,show Ao b 1=some (b.getD 1 0)from CF (k:=1) 0 rfl zO,U,A9,hL]
 by_cases h2:198<DG b
 rw[show decide (198<((DG b:Nat):Int))=true by simp;omega,if_pos h2]
 simp only[Be]
 rw[show decide (198<((DG b:Nat):Int))=false by simp;omega,if_neg h2]
 simp only[BD]
 rw[A9,A8 zO zO]
 unfold KB
 refine(congrArg (Bu _ n) ?_).trans (aH (fun i=>((2+DG b+i:Nat):Int)) (fun i=>∀j,j<i→b.getD (2+DG b+j) 0=0) (198-DG b) (fun i hi hp k hk=>?_) (fun hp k=>?_) (fun j hj=>by omega) zO)
 omega
 have ei:((2+DG b+(i+1):Nat):Int)=((2+DG b+i:Nat):Int)+1:=zO
 simp only[Gb,show decide (((2+DG b+i:Nat):Int)<(b.length:Int))=true by simp;omega,Be]
 rw[CF (k:=2+DG b+i) 0 rfl zO,U]
 by_cases hz:b.getD (2+DG b+i) 0=0
 rw[show(!decide (b.getD (2+DG b+i) 0=0))=false by simp only[hz];decide]
 simp only[BD]
 rw[A9,A8 zO zO,←ei]
 refine hk fun j hj=>?_
 rcases Nat.lt_or_ge j i with h | h
 exact hp j h
 rw[show j=i by omega];exact hz
 rw[show(!decide (b.getD (2+DG b+i) 0=0))=true by simp only[hz];decide]
 simp only[Be]
 rw[if_neg]
 intro hc
 exact hz (hc i hi)
 simp only[Gb,show decide (((2+DG b+(198-DG b):Nat):Int)<(b.length:Int))=false by simp;omega,BD,KF]
 rw[if_pos (show Sz b from hp),A8 zO zO,show Cz b 2 (2+((DG b:Nat):Int))=some ((b.drop 2).take (2+DG b-2))from Dz (p:=2) (q:=2+DG b) rfl zO zO zO,U,show 2+DG b-2=DG b by omega]
 rw[show(!decide ((b.length:Int)=200))=true by simp;omega,if_pos (by simpa using h)]
 simp only[Be]
end

section
theorem nT(T:List UInt32)(k:BT)(h:B7)(body:List UInt8)(hT:T.length=64)(hr:DW [k]=true)(hb:body.length=200){n:Nat}(hm:2097152<n):KV n T k h body=some (I9 T k h body):=by
 unfold KV
 rw[dR T k hT hr hm,U,fZ h zO,U,oC _ _ _ (IG T k Hg) (HJ h) zO zO zO,U,tR h zO,U,Cn (by rw[Hw,FK];omega),U]
 rfl
theorem qV(T:List UInt32)(l:List BT)(h:B7)(s:List UInt8)(hT:T.length=64)(hl:l.length≤1048576){n:Nat}(hm:2097152<n):LX n T l h s=some (FS T l h s):=by
 unfold LX
 rw[W3 l h.gen hl zO,U]
 unfold FS
 by_cases hf:(C0 l h.gen).2=0
 obtain⟨_,_,_,hr⟩:=QC hf
 rw[show(!decide ((C0 l h.gen).2=0))=false by simp[hf],if_neg (by simp[hf])]
 simp only[BD]
 rw[rk s zO,U]
 by_cases h1:198<s.length
 rw[if_pos h1,show O7 s=([],50) by unfold O7;rw[if_pos h1]]
 rfl
 rw[if_neg h1,show O7 s=(I2 s,0) by unfold O7;rw[if_neg h1]]
 have hp:=F3 (s:=s) zO
 rw[show(!decide (((I2 s,(0:Int)):List UInt8×Int).2=0))=false from rfl]
 simp only[BD]
 have hbl:=G9 T (C0 l h.gen).1 h hp
 rw[nT T _ h _ hT hr hp hm,U,dR T _ hT hr hm,U]
 dsimp only
 rw[iO T _ _ hT (by rw[IG];omega) (by rw[hbl];omega) hm,U,Cn (by rw[hbl,Gm];omega),U]
 unfold I5
 exact Eq.refl _
 rw[show(!decide ((C0 l h.gen).2=0))=true by simp[hf],if_pos hf]
 simp only[Be]
theorem gq{b:List UInt8}(h:(E8 b).2=0):I2 (E8 b).1=b∧(E8 b).1.length≤198:=by
 unfold E8 at h ⊢
 split at h
 simp at h
 rename_i h1
 rw[if_neg h1]
 split at h
 simp at h
 rename_i h2
 rw[if_neg h2]
 split at h
 rename_i h3
 rw[if_pos h3]
 have hbl:b.length=200:=by simpa using h1
 have hl:((b.drop 2).take (DG b)).length=DG b:=by simp;omega
 refine⟨?_,by dsimp only;omega⟩
 dsimp only
 unfold I2
 rw[hl]
 obtain⟨x,y,r,rfl⟩:∃x y r,b=x::y::r:=by
  cases b with
  | nil=>simp at hbl
  | cons x t=>cases t with
   | nil=>simp at hbl
   | cons y r=>exact⟨x,y,r,rfl⟩
 have hx:=x.toNat_lt
 have hy:=y.toNat_lt
 have hL:DG (x::y::r)=x.toNat*256+y.toNat:=by unfold DG;rw[List.getD_cons_zero,List.getD_cons_succ,List.getD_cons_zero]
 have hr:r.length=198:=by simpa using hbl
 have e0:HL (((DG (x::y::r):Nat):Int) / 256)=x:=by
  apply UInt8.toNat_inj.1
  simp only[HL,UInt8.toNat_ofNat',hL]
  omega
 have e1:HL ((DG (x::y::r):Nat):Int)=y:=by
  apply UInt8.toNat_inj.1
  simp only[HL,UInt8.toNat_ofNat',hL]
  omega
 rw[e0,e1]
 have hz:∀j,j<198-DG (x::y::r)→r.getD (DG (x::y::r)+j) 0=0:=fun j hj=>by
  have:=h3 j hj
  rwa [show 2+DG (x::y::r)+j=(DG (x::y::r)+j)+1+1 by omega,List.getD_cons_succ,List.getD_cons_succ]at this
 generalize DG (x::y::r)=m at hz h2
 have he:r.drop m=List.replicate (198-m) 0:=by
  refine List.ext_getElem zQ fun j h4 h5=>?_
  have:=hz j (by simpa using h5)
  rw[List.getD_eq_getElem?_getD,List.getElem?_eq_getElem (by simp at h5;omega)]at this
  simpa using this
 show x::y::(r.take m++List.replicate (198-m) 0)=_
 rw[←he,List.take_append_drop]
 simp at h
theorem qZ(T:List UInt32)(l:List BT)(b:List UInt8)(hT:T.length=64)(hl:l.length≤1048576){n:Nat}(hm:2097152<n):La n T l b=some (Fq T l b):=by
 unfold La Fq
 rw[Y0 l hl zO,U]
 cases hr:DW l with
 | false=>
  rw[if_pos rfl]
  simp only[Bool.not_false,Be]
  rfl
 | true=>
  rw[if_neg zS]
  simp only[Bool.not_true,BD]
  by_cases h2:b.length=256
  rw[show(!decide ((b.length:Int)=256))=false by simp;omega,if_neg (by simpa using h2)]
  simp only[BD]
  rw[show Cz b 0 24=some (b.take 24) by rw[show Cz b 0 24=some ((b.drop 0).take (24-0))from Dz (p:=0) (q:=24) rfl rfl zO zO];rfl,U,lN _ zO,U]
  generalize hg:GZ (b.take 24)=g
  obtain⟨hd,ok⟩:=g
  cases ok with
  | false=>
   rw[if_pos rfl]
   rfl
  | true=>
   rw[if_neg zS]
   simp only[Bool.not_true,BD]
   rw[W3 l hd.gen hl zO,U]
   by_cases hf:(C0 l hd.gen).2=0
   obtain⟨_,_,hgen,hrk⟩:=QC hf
   rw[show(!decide ((C0 l hd.gen).2=0))=false by simp[hf],if_neg (by simp[hf])]
   simp only[BD]
   generalize hk:(C0 l hd.gen).1=k at hrk hgen
   rw[dR T k hT hrk hm,U,show Cz b 0 224=some (b.take 224) by rw[show Cz b 0 224=some ((b.drop 0).take (224-0))from Dz (p:=0) (q:=224) rfl rfl zO zO];rfl,U]
   dsimp only
   rw[iO T _ _ hT (by rw[IG];omega) zQ hm,U,show Cz b 224 (b.length:Int)=some (b.drop 224) by rw[show Cz b 224 (b.length:Int)=some ((b.drop 224).take (256-224))from Dz (p:=224) (q:=256) rfl zO zO zO,List.take_of_length_le zQ],U]
   by_cases hmac:Mt T (Hf T k IQ) (b.take 224)=b.drop 224
   rw[show(!decide (Mt T (Hf T k IQ) (b.take 224)=b.drop 224))=false by simp only[hmac,decide_true,Bool.not_true],if_neg (fun hne=>hne hmac)]
   simp only[BD]
   have hbody:((b.drop 24).take 200).length=200:=by simp;omega
   rw[fZ hd zO,U,show Cz b 24 224=some ((b.drop 24).take 200)from Dz (p:=24) (q:=224) rfl rfl zO zO,U,oC _ _ _ (IG T k Hg) (HJ hd) zO zO zO,U]
   dsimp only
   rw[mD _ zO,U]
   generalize hu:E8 (GY (Hf T k Hg) (GJ hd) ((b.drop 24).take 200))=u
   by_cases h0:u.2=0
   rw[show(!decide (u.2=0))=false by simp[h0]]
   simp only[BD]
   rw[if_neg]
   have hpu:=gq (b:=GY (Hf T k Hg) (GJ hd) ((b.drop 24).take 200)) (by rw[hu];exact h0)
   rw[hu]at hpu
   have hputs:Nk hd=b.take 24:=by
    unfold GZ at hg
    split at hg
    rename_i hh
    obtain⟨rfl,_⟩:=Prod.mk.inj hg
    exact hh.2
    simp at hg
   have hbd:I9 T k hd (I2 u.1)=b.take 224:=by
    unfold I9
    rw[hpu.1,Xi,hputs,show b.take 224=b.take (24+200)from rfl,List.take_add]
   have hse:FS T l hd u.1=(b,0):=by
    unfold FS
    rw[if_neg (by simp[hf]),if_neg zO,hk]
    unfold I5
    rw[hbd,hmac,List.take_append_drop]
   rw[hse]
   simp[h0]
   rw[show(!decide (u.2=0))=true by simp[h0],if_pos (Or.inl h0)]
   rfl
   rw[show(!decide (Mt T (Hf T k IQ) (b.take 224)=b.drop 224))=true by simp only[hmac,decide_false,Bool.not_false],if_pos hmac]
   rfl
   rw[show(!decide ((C0 l hd.gen).2=0))=true by simp[hf],if_pos hf]
   rfl
  rw[show(!decide ((b.length:Int)=256))=true by simp;omega,if_pos (by simpa using h2)]
  rfl
end

section
theorem iH(x:UInt64)(w:Nat)(hw:w≤8){n:Nat}(hm:8<n):C5 n x (w:Int)=some (BA x w):=
 (show C5 n x (w:Int)=Dk n x (w:Int)from rfl).trans (X7 x w hw hm)
theorem bz(r:Ac):FL r=some (DY r):=by
 unfold FL DY
 rw[A9]
theorem jn(r:Ac):Jj r=some (Jt r):=by
 unfold Jj Jt
 rw[A9]
theorem dn(c:Bb):Ee c=some (H7 c):=by
 by_cases hlev:c.lev<0∨31<c.lev
 unfold Ee H7
 rw[show(decide (c.lev<0)||decide (31<c.lev))=true by simpa using hlev]
 rfl
 obtain⟨L,h⟩:∃L:Nat,c.lev=(L:Int):=⟨c.lev.toNat,by omega⟩
 have hL:L≤31:=zO
 have hmx:decide (max c.x c.y<2147483648)=(decide (c.x.toNat<2147483648)&&decide (c.y.toNat<2147483648)):=by
  rw[Bool.eq_iff_iff]
  simp only[Bool.and_eq_true,decide_eq_true_eq,UInt32.lt_iff_toNat_lt,Jc]
  have h6:(2147483648:UInt32).toNat=2147483648:=rfl
  omega
 have hge:∀x:UInt32,decide ((2147483648:UInt32)≤x) = !decide (x.toNat<2147483648):=fun x=>by
  rw[Bool.eq_iff_iff]
  simp only[Bool.not_eq_true',decide_eq_true_eq,decide_eq_false_iff_not,UInt32.le_iff_toNat_le]
  have h6:(2147483648:UInt32).toNat=2147483648:=rfl
  omega
 have z:∀x:UInt32,decide (x.toUInt64%shl64 1 L=0)=decide (x.toNat%2^L=0):=fun x=>by
  rw[decide_eq_decide,←UInt64.toNat_inj,UInt64.toNat_mod,UInt32.toNat_toUInt64,L3 hL]
  rfl
 have hor:decide ((c.x ||| c.y) &&& (shl64 1 L-1).toUInt32=0)=(decide (c.x.toNat%2^L=0)&&decide (c.y.toNat%2^L=0)):=by
  rw[Bool.eq_iff_iff]
  simp only[Bool.and_eq_true,decide_eq_true_eq]
  rw[←UInt32.toNat_inj,UInt32.toNat_and,hO hL,UInt32.toNat_or,Nat.and_two_pow_sub_one_eq_mod,Nat.or_mod_two_pow]
  exact Nat.or_eq_zero_iff
 unfold Ee H7
 rw[hge,hge,hmx,h,Int.toNat_natCast,hor,zf (show ¬(L:Int)<0 by omega),zf (show ¬31<(L:Int) by omega),XO h hL,U,bf hL,U,U,bf hL,U,z,z]
 generalize decide (c.x.toNat<2147483648)=A
 generalize decide (c.y.toNat<2147483648)=B
 generalize decide (c.x.toNat%2^L=0)=C
 generalize decide (c.y.toNat%2^L=0)=D
 cases A<;>cases B<;>cases C<;>cases D<;>rfl
theorem YP(x:BR)(hk:x.kids.length≤1048576):∀(d k m:Nat),k+d=x.kids.length→d<m→FI x m (k:Int)=some ((x.kids.drop k).all DY&&H7 ⟨x.cx,x.cy,x.lev⟩)
 | _,_,0,_,h=>absurd h (Nat.not_lt_zero _)
 | 0,k,m+1,hkd,_=>by
  show EU x (FI x m) _=_
  unfold EU Jz
  rw[zf zO,BD,dn,U,show x.kids.drop k=[]from List.drop_eq_nil_of_le zO]
  rfl
 | d+1,k,m+1,hkd,hm=>by
  have hkl:k<x.kids.length:=zO
  have n1:Ao x.kids (k:Int)=some x.kids[k]:=by rw[EF rfl,List.getElem?_eq_getElem hkl]
  have ih:=YP x hk d (k+1) m zO zO
  show EU x (FI x m) _=_
  unfold EU
  rw[zt zO,Be,n1,U,bz,U,A9,A8 zO zO,show((k:Int)+1)=((k+1:Nat):Int) by omega,ih,List.drop_eq_getElem_cons hkl,List.all_cons]
  cases DY x.kids[k]<;>rfl
theorem Nm{n:Nat}(x:BR)(hr:x.rows.length<n)(hk:x.kids.length<n)(hb:x.rows.length≤1048576)(hc:x.kids.length≤1048576):Io n x=some (CL x):=by
 unfold Io CL
 cases hk1:decide (x.kind=1)with
 | true=>
  rw[Be,Be,Wn hr hb,U,bz,U,jn,U,M6,U,G7,U,A9]
  generalize decide ((x.rows.length:Int)≤4)=A
  generalize Cx x.rows=B
  generalize DY ⟨x.npage,x.ntag⟩=C
  generalize Jt ⟨x.npage,x.ntag⟩=D
  generalize decide ((x.kids.length:Int)=0)=E9
  generalize (decide (x.cx=0)&&(decide (x.cy=0)&&(decide (x.lev=0)&&true)))=F
  cases A<;>cases B<;>cases C<;>cases D<;>cases E9<;>cases F<;>rfl
 | false=>
  rw[BD,BD,jn,U,M6,U,show FI x n 0=_ from YP x hc x.kids.length 0 n zO hk,List.drop_zero]
  rw[show decide (0<(x.rows.length:Int)) = !decide ((x.rows.length:Int)=0) by rw[Bool.eq_iff_iff];simp only[Bool.not_eq_true',decide_eq_true_eq,decide_eq_false_iff_not];omega,show decide ((x.kids.length:Int)<2) = !decide (2≤(x.kids.length:Int)) by rw[Bool.eq_iff_iff];simp,show decide (4<(x.kids.length:Int)) = !decide ((x.kids.length:Int)≤4) by rw[Bool.eq_iff_iff];simp,show decide (x.lev<1) = !decide (0<x.lev) by rw[Bool.eq_iff_iff];simp;omega]
  generalize decide (x.kind=2)=A
  generalize decide ((x.rows.length:Int)=0)=B
  generalize Jt ⟨x.npage,x.ntag⟩=C
  generalize decide (2≤(x.kids.length:Int))=D
  generalize decide ((x.kids.length:Int)≤4)=E9
  generalize decide (0<x.lev)=F
  generalize x.kids.all DY=G
  generalize H7 ⟨x.cx,x.cy,x.lev⟩=I
  cases A<;>cases B<;>cases C<;>cases D<;>cases E9<;>cases F<;>cases G<;>cases I<;>rfl
end
end Go.Proofs.YtkibffdipniemaaGreatDoor
