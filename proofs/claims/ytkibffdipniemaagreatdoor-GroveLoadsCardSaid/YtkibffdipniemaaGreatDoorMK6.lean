/- The texts U1, U2, U3, GG36, S26, GG38, GG39, S27, S28, GG40, GG37, GG41, GG42, GG43, GG44, GG45, GG46, LG21, LG22, V1, one behind the other: walks of the program, and plain laws of what it computes. Conditions: as each theorem says. -/
import Derived.Test.YtkibffdipniemaaGreatDoorMK1
import Derived.Test.YtkibffdipniemaaGreatDoorMK2
import Derived.Test.YtkibffdipniemaaGreatDoorMK3
import Derived.Test.YtkibffdipniemaaGreatDoorMK4
import Derived.Test.YtkibffdipniemaaGreatDoorMK5

set_option linter.unusedVariables false
set_option linter.unusedSimpArgs false
set_option maxHeartbeats 4000000
set_option maxRecDepth 100000
namespace Go.Proofs.YtkibffdipniemaaGreatDoor
open Go
section
variable {K:Nat→Prop}{w0:World}{H:List AW}
def Dc(p0:UInt32)(p1:Int):Option UInt32:=
 (Sq p1).bind fun n1=>
 (Sq (wI (32-p1))).bind fun n2=>
 ret ((shl32 p0 n1) ||| (shr32 p0 n2)) fun x1=>
 some x1
theorem MF{p0 r:UInt32}{p1:Int}(h:Dc p0 p1=some r): zC K w0 234 [AA p0,vI p1] [] H (fun u M=>u=AA r∧M=[]):=by
 unfold Dc at h
 refine Ua.enter Tryz.func234 rfl rfl ?_
 refine Z (O E (V (AE ?_)))
 refine AC h fun n1 hn1 h=>?_
 refine AC h fun n2 hn2 h=>?_
 obtain⟨x1,ex1,h⟩:=Bp h
 refine Ai CY [] (Pl.of [(true,0),(true,1),(true,2),(true,3),(true,4),(true,5),(true,6),(true,7),(true,8)]) zK (J E (J E (Y E (Sj hn1) (J E (J E (Y E B5 (Y E (XH hn2) ?_)))))))
 refine Y E Di ?_
 refine An (u:=AA x1) E E (by rw[ex1]) ?_
 refine V (AL ?_)
 obtain rfl:=zI h
 exact Ab [] 0 E E E
def Ix(p0:UInt32)(p1:UInt32)(p2:UInt32)(p3:UInt32):Option (List UInt32):=
 ret (p0+p1) fun a_1=>
 (Dc (p3 ^^^ a_1) 16).bind fun y1=>
 ret (p2+y1) fun x1=>
 (Dc (p1 ^^^ x1) 12).bind fun y2=>
 ret (a_1+y2) fun a_2=>
 (Dc (y1 ^^^ a_2) 8).bind fun y3=>
 ret (x1+y3) fun x2=>
 (Dc (y2 ^^^ x2) 7).bind fun y4=>
 some [a_2,y4,x2,y3]
theorem Q1{p0 p1 p2 p3:UInt32}{r:List UInt32}(h:Ix p0 p1 p2 p3=some r): zC K w0 232 [AA p0,AA p1,AA p2,AA p3] [] H (fun u M=>u=.agg (DJ AA r)∧r.length=4∧M=[]):=by
 unfold Ix at h
 refine Ua.enter Tryz.func232 rfl rfl ?_
 refine Z ?_
 refine Ag E Sg zU fun b1=>?_
 refine V (Z ?_)
 obtain⟨a_1,ea_1,h⟩:=Bp h
 refine J E (J E (Y E B0 ?_))
 refine An (u:=AA a_1) E E (by rw[ea_1]) ?_
 refine V (Z ?_)
 refine AC h fun y1 hy1 h=>?_
 refine J E (J E (Y E CZ (AQ 0 Xw (MF hy1) E (O E (V (Z ?_))))))
 obtain⟨x1,ex1,h⟩:=Bp h
 refine J E (J E (Y E B0 ?_))
 refine An (u:=AA x1) E E (by rw[ex1]) ?_
 refine V (Z ?_)
 refine AC h fun y2 hy2 h=>?_
 refine J E (J E (Y E CZ (AQ 0 Xw (MF hy2) E (O E (V (Z ?_))))))
 obtain⟨a_2,ea_2,h⟩:=Bp h
 refine J E (J E (Y E B0 ?_))
 refine An (u:=AA a_2) E E (by rw[ea_2]) ?_
 refine V (Z ?_)
 refine AC h fun y3 hy3 h=>?_
 refine J E (J E (Y E CZ (AQ 0 Xw (MF hy3) E (O E (V (Z ?_))))))
 obtain⟨x2,ex2,h⟩:=Bp h
 refine J E (J E (Y E B0 ?_))
 refine An (u:=AA x2) E E (by rw[ex2]) ?_
 refine V (Z ?_)
 refine AC h fun y4 hy4 h=>?_
 refine J E (J E (Y E CZ (AQ 0 Xw (MF hy4) E (O E (V (Z (J E (J E (J E ?_)))))))))
 refine J E (BJ [_,_,_,_] E ut uk Sg ⟨E,E,E,E,zT⟩ E (Ak 0 E E E E Wr E E E zT (V (AL ?_))))
 obtain rfl:=zI h
 exact AX (ES E (BB 0 (([a_2,y4,x2,y3]).map AA) jQ E E E E)) (AY (M:=[]) ⟨E,E,E⟩ fun _ hw=>Bc.pick (H:=[_]) hw [] 1 E)
def J0(p0:List UInt8)(p1:Int):Option UInt32:=
 (Aq p0 p1).bind fun c1=>
 (Aq p0 (wI (p1+1))).bind fun c2=>
 (Aq p0 (wI (p1+2))).bind fun c3=>
 (Aq p0 (wI (p1+3))).bind fun c4=>
 ret (((c1.toUInt32 ||| (shl32 c2.toUInt32 8)) ||| (shl32 c3.toUInt32 16)) ||| (shl32 c4.toUInt32 24)) fun x1=>
 some x1
theorem UH{p0:List UInt8}{p1:Int}{r:UInt32}(h:J0 p0 p1=some r): zC K w0 231 [vS p0,vI p1] [] H (fun u M=>u=AA r∧M=[]):=by
 unfold J0 at h
 refine Ua.enter Tryz.func231 rfl rfl ?_
 refine Z (O E (V (AE ?_)))
 refine AC h fun c1 hc1 h=>?_
 refine AC h fun c2 hc2 h=>?_
 refine AC h fun c3 hc3 h=>?_
 refine AC h fun c4 hc4 h=>?_
 obtain⟨x1,ex1,h⟩:=Bp h
 refine Ai CY [] (Pl.of [(true,0),(true,1),(true,2),(true,3),(true,4),(true,5),(true,6),(true,7),(true,8),(true,9),(true,10),(true,11),(true,12),(true,13),(true,14),(true,15),(true,16),(true,17),(true,18),(true,19),(true,20),(true,21),(true,22),(true,23),(true,24),(true,25)]) zK (J E (J E (Dr hc1 E Bo E E (Av E E (DT Cn Bv) (J E (J E (Y E Az ?_)))))))
 refine Dr hc2 E Bo E E (Av E E (DT Cn Bv) ?_)
 refine Y E (FB.shl32 (n:=8)) ?_
 refine Y E Di (J E (J E (Y E Az (Dr hc3 E Bo E E (Av E E (DT Cn Bv) ?_)))))
 refine Y E (FB.shl32 (n:=16)) ?_
 refine Y E Di (J E (J E (Y E Az (Dr hc4 E Bo E E (Av E E (DT Cn Bv) ?_)))))
 refine Y E (FB.shl32 (n:=24)) ?_
 refine Y E Di ?_
 refine An (u:=AA x1) E E (by rw[ex1]) ?_
 refine V (AL ?_)
 obtain rfl:=zI h
 exact Ab [] 0 E E E
def KG(l5:List UInt32):Option (List UInt32):=
 some l5
def Gt(p2:List UInt8)(nx_f_ref01_State_l2:List UInt32×Int→Option (List UInt32))(l6:List UInt32)(a2:Int):Option (List UInt32):=
 cond (decide (a2<3))
 (
  (J0 p2 (wI (4*a2))).bind fun y2=>
  (Ci 4 l6 [y2]).bind fun l7=>
  ret (wI (a2+1)) fun i_2=>
  nx_f_ref01_State_l2 (l7,i_2))
 (
  KG l6)
def KP(p2:List UInt8):Nat→(List UInt32×Int)→Option (List UInt32):=By fun nx x=>Gt p2 nx x.1 x.2
def IP(n:Nat)(p1:UInt32)(p2:List UInt8)(l1:List UInt32):Option (List UInt32):=
 (Ci 4 l1 [p1]).bind fun l4=>
 KP p2 n (l4,0)
def Gn(n:Nat)(p0:List UInt8)(p1:UInt32)(p2:List UInt8)(nx_f_ref01_State_l1:List UInt32×Int→Option (List UInt32))(l2:List UInt32)(a1:Int):Option (List UInt32):=
 cond (decide (a1<8))
 (
  (J0 p0 (wI (4*a1))).bind fun y1=>
  (Ci 4 l2 [y1]).bind fun l3=>
  ret (wI (a1+1)) fun i_1=>
  nx_f_ref01_State_l1 (l3,i_1))
 (
  IP n p1 p2 l2)
def KV(n:Nat)(p0:List UInt8)(p1:UInt32)(p2:List UInt8):Nat→(List UInt32×Int)→Option (List UInt32):=By fun nx x=>Gn n p0 p1 p2 nx x.1 x.2
def Kw(n:Nat)(p0:List UInt8)(p1:UInt32)(p2:List UInt8):Option (List UInt32):=
 KV n p0 p1 p2 n ([1634760805,857760878,2036477234,1797285236],0)
theorem Y8{n:Nat}{p0 p2:List UInt8}{p1:UInt32}{r:List UInt32}(h:Kw n p0 p1 p2=some r): zC K w0 217 [vS p0,AA p1,vS p2] [] H (fun u M=>∃v0:Value,u=v0∧M=[AH 29 1 v0 Bw r]):=by
 unfold Kw at h
 refine Ua.enter Tryz.func217 rfl rfl ?_
 refine Z (Bk 29 1 Bw (O E (V (Z ?_))))
 refine Bz [_,_,_,_] E CO Bj LT ⟨E,E,E,E,zT⟩ E E E zX E E zU fun b1=>?_
 refine B2 Bw 1 ([1634760805,857760878,2036477234,1797285236]:List UInt32) E zV E ?_
 refine O E (V ?_)
 refine A5 (α:=List UInt32×Value) (fun x=>IP n p1 p2 x.1=some r) (fun x=>[(1,AA p1),(2,vS p2),(7,x.2)]) (fun x=>AH 29 1 x.2 Bw x.1::H) ?_ (fun x D h=>?_)
 refine Z (O E (V (AN ?_)))
 refine SX.heap (SX.mono (A6 (α:=Nat×List UInt32×Value×Int) (fun x=>KV n p0 p1 p2 x.1 (x.2.1,x.2.2.2)=some r) (fun x=>[(0,vS p0),(1,AA p1),(2,vS p2),(7,x.2.2.1),(8,vI x.2.2.2)]) (fun x=>AH 29 1 x.2.2.1 Bw x.2.1::H) (fun x=>x.1) (fun x D h=>?_) (n,[1634760805,857760878,2036477234,1797285236],.slice (some ⟨b1,0,none⟩) 4 4,0) h) tL) (BG [0] 2 E E E)
 obtain⟨m1,l2,v2,a1⟩:=x
 dsimp only at h
 rcases m1 with _ | m1
 cases (show(none:Option _)=some r from h)
 replace h:Gn n p0 p1 p2 (KV n p0 p1 p2 m1) l2 a1=some r:=h
 unfold Gn at h
 try dsimp only
 refine AE (Z (J E (Y E Aw (V ?_))))
 refine AT h E (fun hc1 h=>?_) fun hc1 h=>?_
 refine AI (AG (AE (AN (AK ?_))))
 refine AC h fun y1 hy1 h=>?_
 refine AC h fun l3 hl3 h=>?_
 refine J E (J E (J E (Y E I4 (AQ 0 kw (UH hy1) E ?_))))
 refine Bz [_] E CO Bj LT ⟨E,zT⟩ E E E zX E E zU fun b2=>?_
 refine B2 Bw 1 ([y1]:List UInt32) E zV E ?_
 refine CQ 1 hl3 (sz:=1) (enc:=Bw) zV E CO Bj Sb LT E zD E E E E (Bs (sz:=1) (enc:=Bw) 0 zV E) (by simp[Bw,Value.oneCell']) zU fun v3=>?_
 refine O E (AU (Ao (AG (AK ?_))))
 obtain⟨i_1,ei_1,h⟩:=Bp h
 refine J E (Y E Az ?_)
 refine An (u:=vI i_1) E E (by rw[ei_1]) ?_
 refine AU ?_
 exact Al (m1,l3,v3,i_1) h (Nat.lt_succ_self _) tL (BG [1] 2 E E E)
 refine Ax (A3 (BO (A0 ?_)))
 exact Au (l2,v2) h tL (BG [0] 1 E E E)
 obtain⟨l1,v1⟩:=x
 dsimp only at h
 unfold IP at h
 try dsimp only
 refine Z ?_
 refine AC h fun l4 hl4 h=>?_
 refine J E (J E ?_)
 refine Bz [_] E CO Bj LT ⟨E,zT⟩ E E E zX E E zU fun b3=>?_
 refine B2 Bw 1 ([p1]:List UInt32) E zV E ?_
 refine CQ 1 hl4 (sz:=1) (enc:=Bw) zV E CO Bj Sb LT E zD E E E E (Bs (sz:=1) (enc:=Bw) 0 zV E) (by simp[Bw,Value.oneCell']) zU fun v4=>?_
 refine O E (V ?_)
 refine A5 (α:=List UInt32×Value) (fun x=>KG x.1=some r) (fun x=>[(7,x.2)]) (fun x=>AH 29 1 x.2 Bw x.1::H) ?_ (fun x D h=>?_)
 refine Z (O E (V (AN ?_)))
 refine SX.heap (SX.mono (A6 (α:=Nat×List UInt32×Value×Int) (fun x=>KP p2 x.1 (x.2.1,x.2.2.2)=some r) (fun x=>[(2,vS p2),(7,x.2.2.1),(9,vI x.2.2.2)]) (fun x=>AH 29 1 x.2.2.1 Bw x.2.1::H) (fun x=>x.1) (fun x D h=>?_) (n,l4,v4,0) h) tL) (BG [1] 2 E E E)
 obtain⟨m2,l6,v6,a2⟩:=x
 dsimp only at h
 rcases m2 with _ | m2
 cases (show(none:Option _)=some r from h)
 replace h:Gt p2 (KP p2 m2) l6 a2=some r:=h
 unfold Gt at h
 try dsimp only
 refine AE (Z (J E (Y E Aw (V ?_))))
 refine AT h E (fun hc2 h=>?_) fun hc2 h=>?_
 refine AI (AG (AE (AN (AK ?_))))
 refine AC h fun y2 hy2 h=>?_
 refine AC h fun l7 hl7 h=>?_
 refine J E (J E (J E (Y E I4 (AQ 0 kw (UH hy2) E ?_))))
 refine Bz [_] E CO Bj LT ⟨E,zT⟩ E E E zX E E zU fun b4=>?_
 refine B2 Bw 1 ([y2]:List UInt32) E zV E ?_
 refine CQ 1 hl7 (sz:=1) (enc:=Bw) zV E CO Bj Sb LT E zD E E E E (Bs (sz:=1) (enc:=Bw) 0 zV E) (by simp[Bw,Value.oneCell']) zU fun v7=>?_
 refine O E (AU (Ao (AG (AK ?_))))
 obtain⟨i_2,ei_2,h⟩:=Bp h
 refine J E (Y E Az ?_)
 refine An (u:=vI i_2) E E (by rw[ei_2]) ?_
 refine AU ?_
 exact Al (m2,l7,v7,i_2) h (Nat.lt_succ_self _) tL (BG [1] 2 E E E)
 refine Ax (A3 (BO (A0 ?_)))
 exact Au (l6,v6) h tL (BG [0] 1 E E E)
 obtain⟨l5,v5⟩:=x
 dsimp only at h
 unfold KG at h
 try dsimp only
 refine Z (J E (O E (V (AL ?_))))
 obtain rfl:=zI h
 exact DL [0] 1 (Df E E) E E ⟨v5,E,E⟩
def C6(p0:List UInt32)(p1:Int)(p2:Int)(p3:Int)(p4:Int):Option (List UInt32):=
 (Aq p0 p1).bind fun x1=>
 (Aq p0 p2).bind fun x2=>
 (Aq p0 p3).bind fun x3=>
 (Aq p0 p4).bind fun x4=>
 (Ix x1 x2 x3 x4).bind fun y1=>
 (Aq y1 0).bind fun x5=>
 (Aq p0 p1).bind fun x6=>
 (FR p0 p1 x5).bind fun l1=>
 (Aq y1 1).bind fun x7=>
 (Aq l1 p2).bind fun x8=>
 (FR l1 p2 x7).bind fun l2=>
 (Aq y1 2).bind fun x9=>
 (Aq l2 p3).bind fun x10=>
 (FR l2 p3 x9).bind fun l3=>
 (Aq y1 3).bind fun x11=>
 (Aq l3 p4).bind fun x12=>
 (FR l3 p4 x11).bind fun l4=>
 some l4
theorem JL{B6:Value}{p0 r:List UInt32}{p1 p2 p3 p4:Int}(h:C6 p0 p1 p2 p3 p4=some r): zC K w0 218 [B6,vI p1,vI p2,vI p3,vI p4] [AH 29 1 B6 Bw p0] H (fun u M=>u=.tuple #[]∧M=[AH 29 1 B6 Bw r]):=by
 unfold C6 at h
 refine Ua.enter Tryz.func218 rfl rfl ?_
 refine AE ?_
 refine AC h fun x1 hx1 h=>?_
 refine AC h fun x2 hx2 h=>?_
 refine AC h fun x3 hx3 h=>?_
 refine AC h fun x4 hx4 h=>?_
 refine AC h fun y1 hy1 h=>?_
 refine Ai CY [0] (Bm [(true,0),(true,1),(true,2),(true,3),(true,4),(true,5),(true,6),(true,7),(true,8),(true,9),(true,10),(true,11),(true,12),(true,13),(true,14),(true,15)] (.alt 16 (Pl.of [(false,17),(false,18)]) (.cons (false,17) (Pl.of [(false,16),(false,18)])))) zK (J E (J E ?_))
 refine BR 0 hx1 E CO Bj E E E fun g1 m1 cp1 hv1=>?_
 refine Bi E A8 E (Br (sz:=1) (enc:=Bw) 0 0 zV E hv1 hx1 E) ?_
 refine J E (J E ?_)
 refine BR 0 hx2 E CO Bj E E E fun g2 m2 cp2 hv2=>?_
 refine Bi E A8 E (Br (sz:=1) (enc:=Bw) 0 0 zV E hv2 hx2 E) ?_
 refine J E (J E ?_)
 refine BR 0 hx3 E CO Bj E E E fun g3 m3 cp3 hv3=>?_
 refine Bi E A8 E (Br (sz:=1) (enc:=Bw) 0 0 zV E hv3 hx3 E) ?_
 refine J E (J E ?_)
 refine BR 0 hx4 E CO Bj E E E fun g4 m4 cp4 hv4=>?_
 refine Bi E A8 E (Br (sz:=1) (enc:=Bw) 0 0 zV E hv4 hx4 E) ?_
 refine Mr ?_ ?_
 refine Bg (vs:=[_,_,_,_]) (Hin:=[]) (Hr:=_::_) E E ⟨E,E,E,E,zT⟩ kV E E (Q1 hy1) ?_
 rintro _ _ ⟨rfl,hn1,rfl⟩
 refine⟨⟨⟨0,rfl⟩,trivial⟩,?_⟩
 refine Ag E Sg (fun _=>⟨⟨1,E⟩,zT⟩) fun b1=>?_
 refine Og 0 E E E E Wr ((TX ..).trans hn1) E (OK (f:=AA) zV y1) ⟨⟨1,E⟩,zT⟩ ?_
 refine V (Z ?_)
 refine AC h fun x5 hx5 h=>?_
 refine AC h fun x6 hx6 h=>?_
 refine AC h fun l1 hl1 h=>?_
 refine J E (J E ?_)
 refine NB (xs:=y1) hx5 E QO Bj E E hn1 ?_
 refine Bi E A8 E (Ck 0 E (E8 (EX hx5).2.2)) ?_
 refine BR 1 hx6 E CO Bj E E E fun g5 m5 cp5 hv5=>?_
 refine Cz (sz:=1) (enc:=Bw) 1 hl1 zV E E E E E hv5 Bj (by simp[Value.oneCell']) zT ?_
 refine V (Z ?_)
 refine AC h fun x7 hx7 h=>?_
 refine AC h fun x8 hx8 h=>?_
 refine AC h fun l2 hl2 h=>?_
 refine J E (J E ?_)
 refine NB (xs:=y1) hx7 E QO Bj E E hn1 ?_
 refine Bi E A8 E (Ck 0 E (E8 (EX hx7).2.2)) ?_
 refine BR 1 hx8 E CO Bj E E E fun g6 m6 cp6 hv6=>?_
 refine Cz (sz:=1) (enc:=Bw) 1 hl2 zV E E E E E hv6 Bj (by simp[Value.oneCell']) zT ?_
 refine V (Z ?_)
 refine AC h fun x9 hx9 h=>?_
 refine AC h fun x10 hx10 h=>?_
 refine AC h fun l3 hl3 h=>?_
 refine J E (J E ?_)
 refine NB (xs:=y1) hx9 E QO Bj E E hn1 ?_
 refine Bi E A8 E (Ck 0 E (E8 (EX hx9).2.2)) ?_
 refine BR 1 hx10 E CO Bj E E E fun g7 m7 cp7 hv7=>?_
 refine Cz (sz:=1) (enc:=Bw) 1 hl3 zV E E E E E hv7 Bj (by simp[Value.oneCell']) zT ?_
 refine V (AK ?_)
 refine AC h fun x11 hx11 h=>?_
 refine AC h fun x12 hx12 h=>?_
 refine AC h fun l4 hl4 h=>?_
 refine J E (J E ?_)
 refine NB (xs:=y1) hx11 E QO Bj E E hn1 ?_
 refine Bi E A8 E (Ck 0 E (E8 (EX hx11).2.2)) ?_
 refine BR 1 hx12 E CO Bj E E E fun g8 m8 cp8 hv8=>?_
 refine Cz (sz:=1) (enc:=Bw) 1 hl4 zV E E E E E hv8 Bj (by simp[Value.oneCell']) zT ?_
 refine AU ?_
 obtain rfl:=zI h
 exact Cy (DY E) (AY (M:=[_]) ⟨E,E⟩ fun _ hw=>Bc.pick (H:=[_,_]) hw [1] 2 E)
 refine Ag E Sg (fun _=>⟨⟨1,E⟩,zT⟩) fun b1=>?_
 refine Bg (vs:=[_,_,_,_]) (Hin:=[]) (Hr:=_::_::_) E E ⟨E,E,E,E,zT⟩ kV E E (Q1 hy1) ?_
 rintro _ _ ⟨rfl,hn1,rfl⟩
 refine⟨⟨⟨1,rfl⟩,trivial⟩,?_⟩
 refine Og 0 E E E E Wr ((TX ..).trans hn1) E (OK (f:=AA) zV y1) ⟨⟨1,E⟩,zT⟩ ?_
 refine V (Z ?_)
 refine AC h fun x5 hx5 h=>?_
 refine AC h fun x6 hx6 h=>?_
 refine AC h fun l1 hl1 h=>?_
 refine J E (J E ?_)
 refine NB (xs:=y1) hx5 E QO Bj E E hn1 ?_
 refine Bi E A8 E (Ck 0 E (E8 (EX hx5).2.2)) ?_
 refine BR 1 hx6 E CO Bj E E E fun g5 m5 cp5 hv5=>?_
 refine Cz (sz:=1) (enc:=Bw) 1 hl1 zV E E E E E hv5 Bj (by simp[Value.oneCell']) zT ?_
 refine V (Z ?_)
 refine AC h fun x7 hx7 h=>?_
 refine AC h fun x8 hx8 h=>?_
 refine AC h fun l2 hl2 h=>?_
 refine J E (J E ?_)
 refine NB (xs:=y1) hx7 E QO Bj E E hn1 ?_
 refine Bi E A8 E (Ck 0 E (E8 (EX hx7).2.2)) ?_
 refine BR 1 hx8 E CO Bj E E E fun g6 m6 cp6 hv6=>?_
 refine Cz (sz:=1) (enc:=Bw) 1 hl2 zV E E E E E hv6 Bj (by simp[Value.oneCell']) zT ?_
 refine V (Z ?_)
 refine AC h fun x9 hx9 h=>?_
 refine AC h fun x10 hx10 h=>?_
 refine AC h fun l3 hl3 h=>?_
 refine J E (J E ?_)
 refine NB (xs:=y1) hx9 E QO Bj E E hn1 ?_
 refine Bi E A8 E (Ck 0 E (E8 (EX hx9).2.2)) ?_
 refine BR 1 hx10 E CO Bj E E E fun g7 m7 cp7 hv7=>?_
 refine Cz (sz:=1) (enc:=Bw) 1 hl3 zV E E E E E hv7 Bj (by simp[Value.oneCell']) zT ?_
 refine V (AK ?_)
 refine AC h fun x11 hx11 h=>?_
 refine AC h fun x12 hx12 h=>?_
 refine AC h fun l4 hl4 h=>?_
 refine J E (J E ?_)
 refine NB (xs:=y1) hx11 E QO Bj E E hn1 ?_
 refine Bi E A8 E (Ck 0 E (E8 (EX hx11).2.2)) ?_
 refine BR 1 hx12 E CO Bj E E E fun g8 m8 cp8 hv8=>?_
 refine Cz (sz:=1) (enc:=Bw) 1 hl4 zV E E E E E hv8 Bj (by simp[Value.oneCell']) zT ?_
 refine AU ?_
 obtain rfl:=zI h
 exact Cy (DY E) (AY (M:=[_]) ⟨E,E⟩ fun _ hw=>Bc.pick (H:=[_,_]) hw [1] 2 E)
def KQ(l4:List UInt8):Option (List UInt8×Int):=
 some (l4,0)
def Gq(y1:List UInt32)(l2:List UInt32)(nx_f_ref01_Block_l2:List UInt8×Int→Option (List UInt8×Int))(l5:List UInt8)(a2:Int):Option (List UInt8×Int):=
 cond (decide (a2<16))
 (
  (Aq l2 a2).bind fun x2=>
  (Aq y1 a2).bind fun x3=>
  ret (x2+x3) fun x4=>
  (Ci 1 l5 [x4.toUInt8,(shr32 x4 8).toUInt8,(shr32 x4 16).toUInt8,(shr32 x4 24).toUInt8]).bind fun l6=>
  ret (wI (a2+1)) fun x5=>
  nx_f_ref01_Block_l2 (l6,x5))
 (
  KQ l5)
def KK(y1:List UInt32)(l2:List UInt32):Nat→(List UInt8×Int)→Option (List UInt8×Int):=By fun nx x=>Gq y1 l2 nx x.1 x.2
def GU(n:Nat)(y1:List UInt32)(l2:List UInt32):Option (List UInt8×Int):=
 KK y1 l2 n ([],0)
def Gk(n:Nat)(y1:List UInt32)(nx_f_ref01_Block_l1:List UInt32×Int→Option (List UInt8×Int))(l3:List UInt32)(a1:Int):Option (List UInt8×Int):=
 cond (decide (a1<10))
 (
  (C6 l3 0 4 8 12).bind fun y2=>
  (C6 y2 1 5 9 13).bind fun y3=>
  (C6 y3 2 6 10 14).bind fun y4=>
  (C6 y4 3 7 11 15).bind fun y5=>
  (C6 y5 0 5 10 15).bind fun y6=>
  (C6 y6 1 6 11 12).bind fun y7=>
  (C6 y7 2 7 8 13).bind fun y8=>
  (C6 y8 3 4 9 14).bind fun y9=>
  ret (wI (a1+1)) fun x1=>
  nx_f_ref01_Block_l1 (y9,x1))
 (
  GU n y1 l3)
def KU(n:Nat)(y1:List UInt32):Nat→(List UInt32×Int)→Option (List UInt8×Int):=By fun nx x=>Gk n y1 nx x.1 x.2
def HS(n:Nat)(p0:List UInt8)(p1:UInt32)(p2:List UInt8):Option (List UInt8×Int):=
 cond ((!decide ((p0.length:Int)=32))||(!decide ((p2.length:Int)=12)))
 (
  some ([],2))
 (
  (Kw n p0 p1 p2).bind fun y1=>
  (Ci 4 [] y1).bind fun l1=>
  KU n y1 n (l1,0))
theorem ZH{n:Nat}{p0 p2:List UInt8}{p1:UInt32}{r:List UInt8×Int}(h:HS n p0 p1 p2=some r): zC K w0 195 [vS p0,AA p1,vS p2] [] H (fun u M=>u=.tuple #[vS r.1,vI r.2]∧M=[]):=by
 unfold HS at h
 refine Ua.enter Tryz.func195 rfl rfl ?_
 refine Z (O E (O E (V (AE (Z (J E (BT E Bo E (Y E Bb (J E ?_)))))))))
 refine C9 (c := !decide ((p2.length:Int)=12)) 17 4 21 E (fun hb k=>?_) (fun hb k=>?_) ?_
 refine AB E (AB E (AB E (Ae E E E ?_)))
 exact k.mono tL
 refine J E (BT E Bo E (Y E Bb (Ae E E E ?_)))
 exact k.mono tL
 refine V ?_
 refine AT h E (fun hc1 h=>?_) fun hc1 h=>?_
 refine Z (O E (O E (V (AL (AZ ?_)))))
 obtain rfl:=zI h
 exact Ab [] 0 E E E
 refine AI (AG (Z ?_))
 refine AC h fun y1 hy1 h=>?_
 refine J E (J E (J E ?_))
 refine Bg (vs:=[_,_,_]) (Hin:=[]) (Hr:=_) E E ⟨E,E,E,zT⟩ qI E E (Y8 hy1) ?_
 rintro v1 _ ⟨_,rfl,rfl⟩
 refine⟨trivial,?_⟩
 refine O E (V (Z ?_))
 refine AC h fun l1 hl1 h=>?_
 refine cw (n:=16) Bw E CO Bj Sb LT E E E E E zU fun v2=>?_
 refine J E ?_
 refine Zk 0 1 hl1 (sz:=1) (enc:=Bw) zV E CO Bj Sb LT E zD E E E E (by simp[Bw,Value.oneCell']) zU fun v3=>?_
 refine O E (V ?_)
 refine A5 (α:=List UInt32×Value) (fun x=>GU n y1 x.1=some r) (fun x=>[(8,v1),(9,x.2)]) (fun x=>AH 29 1 v1 Bw y1::AH 29 1 x.2 Bw x.1::H) ?_ (fun x D h=>?_)
 refine Z (O E (V (AN ?_)))
 refine SX.heap (SX.mono (A6 (α:=Nat×List UInt32×Value×Int) (fun x=>KU n y1 x.1 (x.2.1,x.2.2.2)=some r) (fun x=>[(8,v1),(9,x.2.2.1),(10,vI x.2.2.2)]) (fun x=>AH 29 1 v1 Bw y1::AH 29 1 x.2.2.1 Bw x.2.1::H) (fun x=>x.1) (fun x D h=>?_) (n,l1,v3,0) h) tL) (BG [1,0] 2 E E E)
 obtain⟨m1,l3,v5,a1⟩:=x
 dsimp only at h
 rcases m1 with _ | m1
 cases (show(none:Option _)=some r from h)
 replace h:Gk n y1 (KU n y1 m1) l3 a1=some r:=h
 unfold Gk at h
 try dsimp only
 refine AE (Z (J E (Y E Aw (V ?_))))
 refine AT h E (fun hc2 h=>?_) fun hc2 h=>?_
 refine AI (AG (AE (AN (Z ?_))))
 refine AC h fun y2 hy2 h=>?_
 refine J E (SL.pick [1,0] 2 (AQ 1 Py (JL hy2) E (V (Z ?_))))
 refine AC h fun y3 hy3 h=>?_
 refine J E (AQ 1 Py (JL hy3) E (V (Z ?_)))
 refine AC h fun y4 hy4 h=>?_
 refine J E (AQ 1 Py (JL hy4) E (V (Z ?_)))
 refine AC h fun y5 hy5 h=>?_
 refine J E (AQ 1 Py (JL hy5) E (V (Z ?_)))
 refine AC h fun y6 hy6 h=>?_
 refine J E (AQ 1 Py (JL hy6) E (V (Z ?_)))
 refine AC h fun y7 hy7 h=>?_
 refine J E (AQ 1 Py (JL hy7) E (V (Z ?_)))
 refine AC h fun y8 hy8 h=>?_
 refine J E (AQ 1 Py (JL hy8) E (V (AK ?_)))
 refine AC h fun y9 hy9 h=>?_
 refine J E (AQ 1 Py (JL hy9) E (AU (Ao (AG (AK ?_)))))
 obtain⟨x1,ex1,h⟩:=Bp h
 refine J E (Y E Az ?_)
 refine An (u:=vI x1) E E (by rw[ex1]) ?_
 refine AU ?_
 exact Al (m1,y9,v5,x1) h (Nat.lt_succ_self _) tL (BG [1,0] 2 E E E)
 refine Ax (A3 (BO (A0 ?_)))
 exact Au (l3,v5) h tL (BG [0,1] 2 E E E)
 obtain⟨l2,v4⟩:=x
 dsimp only at h
 unfold GU at h
 try dsimp only
 refine Z (Bk 5 1 GY (O E (V ?_)))
 refine A5 (α:=List UInt8×Value) (fun x=>KQ x.1=some r) (fun x=>[(11,x.2)]) (fun x=>AH 5 1 x.2 GY x.1::H) ?_ (fun x D h=>?_)
 refine Z (O E (V (AN ?_)))
 refine SX.heap (SX.mono (A6 (α:=Nat×List UInt8×Value×Int) (fun x=>KK y1 l2 x.1 (x.2.1,x.2.2.2)=some r) (fun x=>[(8,v1),(9,v4),(11,x.2.2.1),(12,vI x.2.2.2)]) (fun x=>AH 29 1 v1 Bw y1::AH 29 1 v4 Bw l2::AH 5 1 x.2.2.1 GY x.2.1::H) (fun x=>x.1) (fun x D h=>?_) (n,[],zN,0) h) tL) (BG [1,2,0] 3 E E E)
 obtain⟨m2,l5,v7,a2⟩:=x
 dsimp only at h
 rcases m2 with _ | m2
 cases (show(none:Option _)=some r from h)
 replace h:Gq y1 l2 (KK y1 l2 m2) l5 a2=some r:=h
 unfold Gq at h
 try dsimp only
 refine AE (Z (J E (Y E Aw (V ?_))))
 refine AT h E (fun hc3 h=>?_) fun hc3 h=>?_
 refine AI (AG (AE (AN (AE ?_))))
 refine AC h fun x2 hx2 h=>?_
 refine AC h fun x3 hx3 h=>?_
 obtain⟨x4,ex4,h⟩:=Bp h
 refine Ai CY [0,1] (Pl.of [(true,0),(true,1),(true,2),(true,3),(true,4),(true,5),(true,6),(true,7),(true,8),(true,9)]) zK (J E (J E ?_))
 refine BR 1 hx2 E CO Bj E E E fun g1 m3 cp1 hv1=>?_
 refine Bi E A8 E (Br (sz:=1) (enc:=Bw) 1 0 zV E hv1 hx2 E) ?_
 refine J E (J E ?_)
 refine BR 0 hx3 E CO Bj E E E fun g2 m4 cp2 hv2=>?_
 refine Bi E A8 E (Br (sz:=1) (enc:=Bw) 0 0 zV E hv2 hx3 E) ?_
 refine Y E B0 ?_
 refine An (u:=AA x4) E E (by rw[ex4]) ?_
 refine V (AK ?_)
 refine AC h fun l6 hl6 h=>?_
 refine J E (J E (Av E E (Cw Bv Cn) (J E ?_)))
 refine Y E (FB.shr32 (n:=8)) ?_
 refine Av E E (Cw Bv Cn) (J E ?_)
 refine Y E (FB.shr32 (n:=16)) ?_
 refine Av E E (Cw Bv Cn) (J E ?_)
 refine Y E (FB.shr32 (n:=24)) ?_
 refine Av E E (Cw Bv Cn) ?_
 refine Bz [_,_,_,_] E CP KZ LW ⟨E,E,E,E,zT⟩ E E E zX E E zU fun b1=>?_
 refine B2 GY 1 ([x4.toUInt8,(shr32 x4 8).toUInt8,(shr32 x4 16).toUInt8,(shr32 x4 24).toUInt8]:List UInt8) E zV E ?_
 refine CQ 3 hl6 (sz:=1) (enc:=GY) zV E CP KZ Wx LW E zD E E E E (Bs (sz:=1) (enc:=GY) 0 zV E) (by simp[GY,Value.oneCell']) zU fun v8=>?_
 refine O E (AU (Ao (AG (AK ?_))))
 obtain⟨x5,ex5,h⟩:=Bp h
 refine J E (Y E Az ?_)
 refine An (u:=vI x5) E E (by rw[ex5]) ?_
 refine AU ?_
 exact Al (m2,l6,v8,x5) h (Nat.lt_succ_self _) tL (BG [1,2,3] 4 E E E)
 refine Ax (A3 (BO (A0 ?_)))
 exact Au (l5,v7) h tL (BG [2] 3 E E E)
 obtain⟨l4,v6⟩:=x
 dsimp only at h
 unfold KQ at h
 try dsimp only
 refine Z (J E (ID 0 E CP Cn Bo E E (O E (O E (V (AL ?_))))))
 obtain rfl:=zI h
 exact Ab [] 1 E E E
def L4(l1:List UInt8):Option (List UInt8×Int):=
 some (l1,0)
def Hy(p2:List UInt8)(l2:List UInt8)(a2:Int)(nx_f_ref01_Xor_l1:List UInt8×List UInt8×Int→Option (List UInt8×Int))(a3:List UInt8):Option (List UInt8×Int):=
 (Aq p2 a2).bind fun c1=>
 (SE a2 64).bind fun q3=>
 (Aq a3 q3).bind fun c2=>
 (Ci 1 l2 [c1 ^^^ c2]).bind fun l3=>
 ret (wI (a2+1)) fun i_1=>
 nx_f_ref01_Xor_l1 (l3,a3,i_1)
def IX(n:Nat)(p0:List UInt8)(p1:List UInt8)(p2:List UInt8)(nx_f_ref01_Xor_l1:List UInt8×List UInt8×Int→Option (List UInt8×Int))(l2:List UInt8)(a1:List UInt8)(a2:Int):Option (List UInt8×Int):=
 cond (decide (a2<(p2.length:Int)))
 (
  (SE a2 64).bind fun q1=>
  cond (decide (q1=0))
  (
   (UN a2 64).bind fun q2=>
   (HS n p0 (FL q2) p1).bind fun y1=>
   Hy p2 l2 a2 nx_f_ref01_Xor_l1 y1.1)
  (
   Hy p2 l2 a2 nx_f_ref01_Xor_l1 a1))
 (
  L4 l2)
def Jw(n:Nat)(p0:List UInt8)(p1:List UInt8)(p2:List UInt8):Nat→(List UInt8×List UInt8×Int)→Option (List UInt8×Int):=By fun nx x=>IX n p0 p1 p2 nx x.1 x.2.1 x.2.2
def Kz(n:Nat)(p0:List UInt8)(p1:List UInt8)(p2:List UInt8):Option (List UInt8×Int):=
 cond (((!decide ((p0.length:Int)=32))||(!decide ((p1.length:Int)=12)))||(decide (1048576<(p2.length:Int))))
 (
  some ([],2))
 (
  Jw n p0 p1 p2 n ([],[],0))
theorem VV{n:Nat}{p0 p1 p2:List UInt8}{r:List UInt8×Int}(h:Kz n p0 p1 p2=some r): zC K w0 155 [vS p0,vS p1,vS p2] [] H (fun u M=>u=.tuple #[vS r.1,vI r.2]∧M=[]):=by
 unfold Kz at h
 refine Ua.enter Tryz.func155 rfl rfl ?_
 refine Z (O E (O E (V (AE (Z (J E (BT E Bo E (Y E Bb (J E ?_)))))))))
 refine C9 (c := !decide ((p1.length:Int)=12)) 16 4 20 E (fun hb k=>?_) (fun hb k=>?_) ?_
 refine AB E (AB E (AB E (Ae E E E ?_)))
 exact k.mono tL
 refine J E (BT E Bo E (Y E Bb (Ae E E E ?_)))
 exact k.mono tL
 refine J E ?_
 refine C9 (c:=decide (1048576<(p2.length:Int))) 21 4 25 E (fun hb k=>?_) (fun hb k=>?_) ?_
 refine AB E (AB E (AB E (Ae E E E ?_)))
 exact k.mono tL
 refine J E (BT E Bo E (Y E Ca (Ae E E E ?_)))
 exact k.mono tL
 refine V ?_
 refine AT h E (fun hc1 h=>?_) fun hc1 h=>?_
 refine Z (O E (O E (V (AL (AZ ?_)))))
 obtain rfl:=zI h
 exact Ab [] 0 E E E
 refine AI (AG (Z (Bk 5 1 GY (O E (V (Z (O E (V ?_))))))))
 refine A5 (α:=List UInt8×Value) (fun x=>L4 x.1=some r) (fun x=>[(8,x.2)]) (fun x=>AH 5 1 x.2 GY x.1::H) ?_ (fun x D h=>?_)
 refine Z (O E (V (AN ?_)))
 refine SX.heap (SX.mono (A6 (α:=Nat×List UInt8×Value×List UInt8×Int) (fun x=>Jw n p0 p1 p2 x.1 (x.2.1,x.2.2.2.1,x.2.2.2.2)=some r) (fun x=>[(0,vS p0),(1,vS p1),(2,vS p2),(8,x.2.2.1),(9,vS x.2.2.2.1),(10,vI x.2.2.2.2)]) (fun x=>AH 5 1 x.2.2.1 GY x.2.1::H) (fun x=>x.1) (fun x D h=>?_) (n,[],zN,[],0) h) tL) (BG [0] 1 E E E)
 obtain⟨m1,l2,v2,a1,a2⟩:=x
 dsimp only at h
 rcases m1 with _ | m1
 cases (show(none:Option _)=some r from h)
 replace h:IX n p0 p1 p2 (Jw n p0 p1 p2 m1) l2 a1 a2=some r:=h
 unfold IX at h
 try dsimp only
 refine AE (Z (J E (J E (BT E Bo E (Y E Aw (V ?_))))))
 refine AT h E (fun hc2 h=>?_) fun hc2 h=>?_
 refine AI (AG (AE (AN ?_)))
 refine A5 (α:=List UInt8) (fun x=>Hy p2 l2 a2 (Jw n p0 p1 p2 m1) x=some r) (fun x=>[(0,vS p0),(1,vS p1),(2,vS p2),(8,v2),(9,vS x),(10,vI a2)]) (fun x=>AH 5 1 v2 GY l2::H) ?_ (fun a3 D h=>?_)
 refine Z ?_
 refine AC h fun q1 hq1 h=>?_
 refine J E (Y E (Qq hq1) (Y E CE (V ?_)))
 refine AT h E (fun hc3 h=>?_) fun hc3 h=>?_
 refine Z ?_
 refine AC h fun q2 hq2 h=>?_
 refine AC h fun y1 hy1 h=>?_
 refine J E (J E (Y E (WX hq2) (Av E E (Q6 FY Bv) (J E (AQ 0 qE (ZH hy1) E (J E (Am E E E ?_)))))))
 refine Am E E E (O E (O E (V (AK (J E (O E (AU ?_)))))))
 exact Au y1.1 h tL (BG [0] 1 E E E)
 refine AI ?_
 exact Au a1 h tL (BG [0] 1 E E E)
 unfold Hy at h
 try dsimp only
 refine AC h fun c1 hc1 h=>?_
 refine AC h fun q3 hq3 h=>?_
 refine AC h fun c2 hc2 h=>?_
 refine AC h fun l3 hl3 h=>?_
 refine Ai CY [] (Bm [(true,0),(true,1),(true,2),(true,3),(true,4),(true,5),(true,6),(true,7),(true,8),(false,9)] (.last 10 (Pl.of [(false,11)]))) zK (J E (J E (J E (Dr hc1 E Bo E E (J E (J E (Y E (Qq hq3) ?_)))))))
 refine Dr hc2 E Bo E E (Y E Qm ?_)
 refine Bz [_] E CP KZ LW ⟨E,zT⟩ E E E zX E E zU fun b1=>?_
 refine B2 GY 1 ([c1 ^^^ c2]:List UInt8) E zV E ?_
 refine BK ?_
 refine CQ 1 hl3 (sz:=1) (enc:=GY) zV E CP KZ Wx LW E zD E E E E (Bs (sz:=1) (enc:=GY) 0 zV E) (by simp[GY,Value.oneCell']) zU fun v3=>?_
 refine O E (AU (Ao (AG (AK ?_))))
 obtain⟨i_1,ei_1,h⟩:=Bp h
 refine J E (Y E Az ?_)
 refine An (u:=vI i_1) E E (by rw[ei_1]) ?_
 refine AU ?_
 exact Al (m1,l3,v3,a3,i_1) h (Nat.lt_succ_self _) tL (BG [1] 2 E E E)
 refine Ax (A3 (BO (A0 ?_)))
 exact Au (l2,v2) h tL (BG [0] 1 E E E)
 obtain⟨l1,v1⟩:=x
 dsimp only at h
 unfold L4 at h
 try dsimp only
 refine Z (J E (ID 0 E CP Cn Bo E E (O E (O E (V (AL ?_))))))
 obtain rfl:=zI h
 exact Ab [] 1 E E E
end

section
variable {K:Nat→Prop}{w0:World}{H:List AW}
def CC(p0:UInt32)(p1:Int):Option UInt32:=
 (Sq p1).bind fun n1=>
 (Sq (wI (32-p1))).bind fun n2=>
 ret ((shr32 p0 n1) ||| (shl32 p0 n2)) fun x1=>
 some x1
theorem EM{p0 r:UInt32}{p1:Int}(h:CC p0 p1=some r): zC K w0 219 [AA p0,vI p1] [] H (fun u M=>u=AA r∧M=[]):=by
 unfold CC at h
 refine Ua.enter Tryz.func219 rfl rfl ?_
 refine Z (O E (V (AE ?_)))
 refine AC h fun n1 hn1 h=>?_
 refine AC h fun n2 hn2 h=>?_
 obtain⟨x1,ex1,h⟩:=Bp h
 refine Ai CY [] (Pl.of [(true,0),(true,1),(true,2),(true,3),(true,4),(true,5),(true,6),(true,7),(true,8)]) zK (J E (J E (Y E (XH hn1) (J E (J E (Y E B5 (Y E (Sj hn2) ?_)))))))
 refine Y E Di ?_
 refine An (u:=AA x1) E E (by rw[ex1]) ?_
 refine V (AL ?_)
 obtain rfl:=zI h
 exact Ab [] 0 E E E
def My:Option (List UInt32):=
 some [1779033703,3144134277,1013904242,2773480762,1359893119,2600822924,528734635,1541459225]
theorem ZU{r:List UInt32}(h:My=some r): zC K w0 198 [] [] H (fun u M=>∃v0:Value,u=v0∧M=[AH 29 1 v0 Bw r]):=by
 unfold My at h
 refine Ua.enter Tryz.func198 rfl rfl ?_
 refine Z (Bk 29 1 Bw (O E (V (Z ?_))))
 refine Bz [_,_,_,_,_,_,_,_] E CO Bj LT ⟨E,E,E,E,E,E,E,E,zT⟩ E E E zX E E zU fun b1=>?_
 refine B2 Bw 1 ([1779033703,3144134277,1013904242,2773480762,1359893119,2600822924,528734635,1541459225]:List UInt32) E zV E ?_
 refine O E (V (AL ?_))
 obtain rfl:=zI h
 exact DL [0] 2 (Df E E) E E ⟨(.slice (some ⟨b1,0,none⟩) 8 8),E,E⟩
def K6(l9:List UInt32):Option (List UInt32):=
 some l9
def HT(p0:List UInt32)(nx_f_ref02_part_l3:List UInt32×Int→Option (List UInt32))(l10:List UInt32)(a3:Int):Option (List UInt32):=
 cond (decide (a3<8))
 (
  (Aq l10 a3).bind fun x27=>
  (Aq p0 a3).bind fun x28=>
  (Aq l10 a3).bind fun x29=>
  (FR l10 a3 (x27+x28)).bind fun l11=>
  ret (wI (a3+1)) fun x30=>
  nx_f_ref02_part_l3 (l11,x30))
 (
  K6 l10)
def K8(p0:List UInt32):Nat→(List UInt32×Int)→Option (List UInt32):=By fun nx x=>HT p0 nx x.1 x.2
def HC(n:Nat)(p0:List UInt32)(l7:List UInt32):Option (List UInt32):=
 K8 p0 n (l7,0)
def He(n:Nat)(T:List UInt32)(p0:List UInt32)(l1:List UInt32)(nx_f_ref02_part_l2:List UInt32×Int→Option (List UInt32))(l8:List UInt32)(a2:Int):Option (List UInt32):=
 cond (decide (a2<64))
 (
  (Aq l8 0).bind fun x6=>
  (Aq l8 4).bind fun x7=>
  (Aq l8 7).bind fun x8=>
  (CC x7 6).bind fun y5=>
  (CC x7 11).bind fun y6=>
  (CC x7 25).bind fun y7=>
  (Aq l8 5).bind fun x9=>
  (Aq l8 6).bind fun x10=>
  (Aq T a2).bind fun x11=>
  (Aq l1 a2).bind fun x12=>
  ret ((((x8+((y5 ^^^ y6) ^^^ y7))+((x7 &&& x9) ^^^ ((4294967295 ^^^ x7) &&& x10)))+x11)+x12) fun x13=>
  (CC x6 2).bind fun y8=>
  (CC x6 13).bind fun y9=>
  (CC x6 22).bind fun y10=>
  (Aq l8 1).bind fun x14=>
  (Aq l8 2).bind fun x15=>
  (Aq l8 1).bind fun x16=>
  (Aq l8 2).bind fun x17=>
  ret (((y8 ^^^ y9) ^^^ y10)+(((x6 &&& x14) ^^^ (x6 &&& x15)) ^^^ (x16 &&& x17))) fun x18=>
  (Aq l8 0).bind fun x19=>
  (Aq l8 1).bind fun x20=>
  (Aq l8 2).bind fun x21=>
  (Aq l8 3).bind fun x22=>
  (Aq l8 4).bind fun x23=>
  (Aq l8 5).bind fun x24=>
  (Aq l8 6).bind fun x25=>
  ret (wI (a2+1)) fun x26=>
  nx_f_ref02_part_l2 ([x13+x18,x19,x20,x21,x22+x13,x23,x24,x25],x26))
 (
  HC n p0 l8)
def K1(n:Nat)(T:List UInt32)(p0:List UInt32)(l1:List UInt32):Nat→(List UInt32×Int)→Option (List UInt32):=By fun nx x=>He n T p0 l1 nx x.1 x.2
def HK(n:Nat)(T:List UInt32)(p0:List UInt32)(l1:List UInt32):Option (List UInt32):=
 (Ci 4 [] p0).bind fun l6=>
 K1 n T p0 l1 n (l6,0)
def HH(a1:Int)(nx_f_ref02_part_l1:List UInt32×Int→Option (List UInt32))(l3:List UInt32):Option (List UInt32):=
 ret (wI (a1+1)) fun x5=>
 nx_f_ref02_part_l1 (l3,x5)
def Ha(n:Nat)(T:List UInt32)(p0:List UInt32)(p1:List UInt8)(nx_f_ref02_part_l1:List UInt32×Int→Option (List UInt32))(l2:List UInt32)(a1:Int):Option (List UInt32):=
 cond (decide (a1<64))
 (
  cond (decide (a1<16))
  (
   (Aq p1 (wI (4*a1))).bind fun c1=>
   (Aq p1 (wI ((wI (4*a1))+1))).bind fun c2=>
   (Aq p1 (wI ((wI (4*a1))+2))).bind fun c3=>
   (Aq p1 (wI ((wI (4*a1))+3))).bind fun c4=>
   (Ci 4 l2 [(((shl32 c1.toUInt32 24) ||| (shl32 c2.toUInt32 16)) ||| (shl32 c3.toUInt32 8)) ||| c4.toUInt32]).bind fun l4=>
   HH a1 nx_f_ref02_part_l1 l4)
  (
   (Aq l2 (wI (a1-15))).bind fun x1=>
   (Aq l2 (wI (a1-2))).bind fun x2=>
   (Aq l2 (wI (a1-16))).bind fun x3=>
   (CC x1 7).bind fun y1=>
   (CC x1 18).bind fun y2=>
   (Aq l2 (wI (a1-7))).bind fun x4=>
   (CC x2 17).bind fun y3=>
   (CC x2 19).bind fun y4=>
   (Ci 4 l2 [((x3+((y1 ^^^ y2) ^^^ (shr32 x1 3)))+x4)+((y3 ^^^ y4) ^^^ (shr32 x2 10))]).bind fun l5=>
   HH a1 nx_f_ref02_part_l1 l5))
 (
  HK n T p0 l2)
def Iw(n:Nat)(T:List UInt32)(p0:List UInt32)(p1:List UInt8):Nat→(List UInt32×Int)→Option (List UInt32):=By fun nx x=>Ha n T p0 p1 nx x.1 x.2
def Ld(n:Nat)(T:List UInt32)(p0:List UInt32)(p1:List UInt8):Option (List UInt32):=
 Iw n T p0 p1 n ([],0)
theorem aU{n:Nat}{T p0 r:List UInt32}{B6:Value}{p1:List UInt8}(h:Ld n T p0 p1=some r)(hT:JJ K w0 2 64 T)(hs0_:CD K w0 Bw 1 B6 p0):zC K w0 199 [B6,vS p1] [] H (fun u M=>∃v0:Value,u=v0∧M=[AH 29 1 v0 Bw r]):=by
 unfold Ld at h
 refine Ua.enter Tryz.func199 rfl rfl ?_
 refine Z (Bk 29 1 Bw (O E (V (Z (Bk 29 1 Bw (O E (V ?_)))))))
 refine A5 (α:=List UInt32×Value) (fun x=>HK n T p0 x.1=some r) (fun x=>[(0,B6),(5,x.2)]) (fun x=>AH 29 1 x.2 Bw x.1::H) ?_ (fun x D h=>?_)
 refine Z (O E (V (AN ?_)))
 refine SX.heap (SX.mono (A6 (α:=Nat×List UInt32×Value×Int) (fun x=>Iw n T p0 p1 x.1 (x.2.1,x.2.2.2)=some r) (fun x=>[(0,B6),(1,vS p1),(5,x.2.2.1),(6,vI x.2.2.2)]) (fun x=>AH 29 1 x.2.2.1 Bw x.2.1::H) (fun x=>x.1) (fun x D h=>?_) (n,[],zN,0) h) tL) (BG [0] 2 E E E)
 obtain⟨m1,l2,v2,a1⟩:=x
 dsimp only at h
 rcases m1 with _ | m1
 cases (show(none:Option _)=some r from h)
 replace h:Ha n T p0 p1 (Iw n T p0 p1 m1) l2 a1=some r:=h
 unfold Ha at h
 try dsimp only
 refine AE (Z (J E (Y E Aw (V ?_))))
 refine AT h E (fun hc1 h=>?_) fun hc1 h=>?_
 refine AI (AG ?_)
 refine A5 (α:=List UInt32×Value) (fun x=>HH a1 (Iw n T p0 p1 m1) x.1=some r) (fun x=>[(0,B6),(1,vS p1),(5,x.2),(6,vI a1)]) (fun x=>AH 29 1 x.2 Bw x.1::H) ?_ (fun x D h=>?_)
 refine AN (AE (Z (J E (Y E Aw (V ?_)))))
 refine AT h E (fun hc2 h=>?_) fun hc2 h=>?_
 refine AE ?_
 refine AC h fun c1 hc1 h=>?_
 refine AC h fun c2 hc2 h=>?_
 refine AC h fun c3 hc3 h=>?_
 refine AC h fun c4 hc4 h=>?_
 refine AC h fun l4 hl4 h=>?_
 refine Ai CY [] (Bm [(true,0),(true,1),(true,2),(true,3),(true,4),(true,5),(true,6),(true,7),(true,8),(true,9),(true,10),(true,11),(true,12),(true,13),(true,14),(true,15),(true,16),(true,17),(true,18),(true,19),(true,20),(true,21),(true,22),(true,23),(true,24),(true,25),(true,26),(true,27),(true,28),(true,29),(false,30)] (.last 31 (Pl.of [(false,32)]))) zK (J E (J E (J E (Y E I4 (Dr hc1 E Bo E E (Av E E (DT Cn Bv) ?_))))))
 refine Y E (FB.shl32 (n:=24)) ?_
 refine J E (J E (Y E I4 (Y E Az (Dr hc2 E Bo E E (Av E E (DT Cn Bv) ?_)))))
 refine Y E (FB.shl32 (n:=16)) ?_
 refine Y E Di (J E (J E (Y E I4 (Y E Az (Dr hc3 E Bo E E (Av E E (DT Cn Bv) ?_))))))
 refine Y E (FB.shl32 (n:=8)) ?_
 refine Y E Di (J E (J E (Y E I4 (Y E Az (Dr hc4 E Bo E E (Av E E (DT Cn Bv) (Y E Di ?_)))))))
 refine Bz [_] E CO Bj LT ⟨E,zT⟩ E E E zX E E zU fun b1=>?_
 refine B2 Bw 1 ([(((shl32 c1.toUInt32 24) ||| (shl32 c2.toUInt32 16)) ||| (shl32 c3.toUInt32 8)) ||| c4.toUInt32]:List UInt32) E zV E ?_
 refine BK ?_
 refine CQ 1 hl4 (sz:=1) (enc:=Bw) zV E CO Bj Sb LT E zD E E E E (Bs (sz:=1) (enc:=Bw) 0 zV E) (by simp[Bw,Value.oneCell']) zU fun v4=>?_
 refine O E (V (Ax (A3 (A0 ?_))))
 exact Au (l4,v4) h tL (BG [1] 2 E E E)
 refine AI (AG (Z ?_))
 refine AC h fun x1 hx1 h=>?_
 refine J E (J E (Y E B5 ?_))
 refine BR 0 hx1 E CO Bj E E E fun g1 m2 cp1 hv1=>?_
 refine Bi E A8 E (Br (sz:=1) (enc:=Bw) 0 0 zV E hv1 hx1 E) ?_
 refine O E (V (Z ?_))
 refine AC h fun x2 hx2 h=>?_
 refine J E (J E (Y E B5 ?_))
 refine BR 0 hx2 E CO Bj E E E fun g2 m3 cp2 hv2=>?_
 refine Bi E A8 E (Br (sz:=1) (enc:=Bw) 0 0 zV E hv2 hx2 E) ?_
 refine O E (V ?_)
 refine AC h fun x3 hx3 h=>?_
 refine AC h fun y1 hy1 h=>?_
 refine AC h fun y2 hy2 h=>?_
 refine AC h fun x4 hx4 h=>?_
 refine AC h fun y3 hy3 h=>?_
 refine AC h fun y4 hy4 h=>?_
 refine AC h fun l5 hl5 h=>?_
 refine Ai CY [0] (Bm [(true,0),(true,1),(true,2),(true,3),(true,4),(true,5),(true,6),(true,8),(true,11),(true,12),(true,15),(true,16),(true,17),(true,18),(true,19),(true,21),(true,23),(true,26),(true,27),(false,7),(false,9),(true,10),(true,13),(true,14),(true,20),(false,22),(false,24),(true,25),(true,28),(true,29),(false,30)] (.last 31 (Pl.of [(false,32)]))) zK (J E (J E (J E (Y E B5 ?_))))
 refine BR 0 hx3 E CO Bj E E E fun g3 m4 cp3 hv3=>?_
 refine Bi E A8 E (Br (sz:=1) (enc:=Bw) 0 0 zV E hv3 hx3 E) ?_
 refine J E (J E (J E ?_))
 refine Y E (FB.shr32 (n:=3)) ?_
 refine J E (J E (Y E B5 ?_))
 refine BR 0 hx4 E CO Bj E E E fun g4 m5 cp4 hv4=>?_
 refine Bi E A8 E (Br (sz:=1) (enc:=Bw) 0 0 zV E hv4 hx4 E) ?_
 refine J E (J E (J E ?_))
 refine Y E (FB.shr32 (n:=10)) ?_
 refine BS 0 Nt (EM hy1) E ⟨⟨0,E⟩,zT⟩ (BS 0 Nt (EM hy2) E ⟨⟨0,E⟩,zT⟩ (Y E CZ (Y E CZ (Y E B0 (Y E B0 (BS 0 Nt (EM hy3) E ⟨⟨0,E⟩,zT⟩ (BS 0 Nt (EM hy4) E ⟨⟨0,E⟩,zT⟩ ?_)))))))
 refine Y E CZ (Y E CZ (Y E B0 ?_))
 refine Bz [_] E CO Bj LT ⟨E,zT⟩ E E E zX E E (fun _=>⟨⟨1,E⟩,zT⟩) fun b2=>?_
 refine B2 Bw 1 ([((x3+((y1 ^^^ y2) ^^^ (shr32 x1 3)))+x4)+((y3 ^^^ y4) ^^^ (shr32 x2 10))]:List UInt32) E zV E ?_
 refine BK ?_
 refine CQ 1 hl5 (sz:=1) (enc:=Bw) zV E CO Bj Sb LT E zD E E E E (Bs (sz:=1) (enc:=Bw) 0 zV E) (by simp[Bw,Value.oneCell']) zU fun v5=>?_
 refine O E (AU (Ao ?_))
 exact Au (l5,v5) h tL (BG [1] 2 E E E)
 obtain⟨l3,v3⟩:=x
 dsimp only at h
 unfold HH at h
 try dsimp only
 refine AK ?_
 obtain⟨x5,ex5,h⟩:=Bp h
 refine J E (Y E Az ?_)
 refine An (u:=vI x5) E E (by rw[ex5]) ?_
 refine AU ?_
 exact Al (m1,l3,v3,x5) h (Nat.lt_succ_self _) tL (BG [0] 1 E E E)
 refine Ax (A3 (BO (A0 ?_)))
 exact Au (l2,v2) h tL (BG [0] 1 E E E)
 obtain⟨l1,v1⟩:=x
 dsimp only at h
 unfold HK at h
 try dsimp only
 refine Z ?_
 refine AC h fun l6 hl6 h=>?_
 refine cw (n:=8) Bw E CO Bj Sb LT E E E E E zU fun v6=>?_
 refine J E ?_
 refine VA 0 hl6 hs0_ (sz:=1) (enc:=Bw) zV E CO Bj Sb LT E zD E E E (by simp[Bw,Value.oneCell']) zU fun v7=>?_
 refine O E (V ?_)
 refine A5 (α:=List UInt32×Value) (fun x=>HC n p0 x.1=some r) (fun x=>[(0,B6),(9,x.2)]) (fun x=>AH 29 1 x.2 Bw x.1::H) ?_ (fun x D h=>?_)
 refine Z (O E (V (AN ?_)))
 refine SX.heap (SX.mono (A6 (α:=Nat×List UInt32×Value×Int) (fun x=>K1 n T p0 l1 x.1 (x.2.1,x.2.2.2)=some r) (fun x=>[(0,B6),(5,v1),(9,x.2.2.1),(10,vI x.2.2.2)]) (fun x=>AH 29 1 v1 Bw l1::AH 29 1 x.2.2.1 Bw x.2.1::H) (fun x=>x.1) (fun x D h=>?_) (n,l6,v7,0) h) tL) (BG [1,0] 2 E E E)
 obtain⟨m6,l8,v9,a2⟩:=x
 dsimp only at h
 rcases m6 with _ | m6
 cases (show(none:Option _)=some r from h)
 replace h:He n T p0 l1 (K1 n T p0 l1 m6) l8 a2=some r:=h
 unfold He at h
 try dsimp only
 refine AE (Z (J E (Y E Aw (V ?_))))
 refine AT h E (fun hc3 h=>?_) fun hc3 h=>?_
 refine AI (AG (AE (AN (Z ?_))))
 refine AC h fun x6 hx6 h=>?_
 refine J E ?_
 refine BR 1 hx6 E CO Bj E E E fun g5 m7 cp5 hv5=>?_
 refine Bi E A8 E (Br (sz:=1) (enc:=Bw) 1 0 zV E hv5 hx6 E) ?_
 refine O E (V (Z ?_))
 refine AC h fun x7 hx7 h=>?_
 refine J E ?_
 refine BR 1 hx7 E CO Bj E E E fun g6 m8 cp6 hv6=>?_
 refine Bi E A8 E (Br (sz:=1) (enc:=Bw) 1 0 zV E hv6 hx7 E) ?_
 refine O E (V (AE ?_))
 refine AC h fun x8 hx8 h=>?_
 refine AC h fun y5 hy5 h=>?_
 refine AC h fun y6 hy6 h=>?_
 refine AC h fun y7 hy7 h=>?_
 refine AC h fun x9 hx9 h=>?_
 refine AC h fun x10 hx10 h=>?_
 refine AC h fun x11 hx11 h=>?_
 refine AC h fun x12 hx12 h=>?_
 obtain⟨x13,ex13,h⟩:=Bp h
 refine Ai CY [0,1] (Bm [(true,0),(true,1),(true,2),(true,3),(true,5),(true,8),(true,12),(true,13),(true,14),(true,15),(true,16),(true,17),(true,18),(true,19),(true,20),(true,21),(true,22),(true,23),(true,25),(true,26),(true,27),(true,29),(true,30),(true,31),(true,32),(false,4),(false,6),(true,7),(false,9),(false,10),(false,11),(false,24),(false,28)] (.last 33 (Pl.of [(false,34)]))) zK (J E ?_)
 refine BR 1 hx8 E CO Bj E E E fun g7 m9 cp7 hv7=>?_
 refine Bi E A8 E (Br (sz:=1) (enc:=Bw) 1 0 zV E hv7 hx8 E) ?_
 refine J E (J E (J E (J E (J E ?_))))
 refine BR 1 hx9 E CO Bj E E E fun g8 m10 cp8 hv8=>?_
 refine Bi E A8 E (Br (sz:=1) (enc:=Bw) 1 0 zV E hv8 hx9 E) ?_
 refine Y E Hf (J E (cR E E (J E ?_)))
 refine BR 1 hx10 E CO Bj E E E fun g9 m11 cp9 hv9=>?_
 refine Bi E A8 E (Br (sz:=1) (enc:=Bw) 1 0 zV E hv9 hx10 E) ?_
 refine Y E Hf (Y E CZ (J E ?_))
 refine NB (xs:=T) hx11 E Rz Bj E E hT.len ?_
 refine Bi E A8 E (qD hT hx11) (J E (J E ?_))
 refine BR 0 hx12 E CO Bj E E E fun g10 m12 cp10 hv10=>?_
 refine Bi E A8 E (Br (sz:=1) (enc:=Bw) 0 0 zV E hv10 hx12 E) ?_
 refine BS 0 Nt (EM hy5) E ⟨⟨0,E⟩,⟨1,E⟩,zT⟩ (BS 0 Nt (EM hy6) E ⟨⟨0,E⟩,⟨1,E⟩,zT⟩ (Y E CZ (BS 0 Nt (EM hy7) E ⟨⟨0,E⟩,⟨1,E⟩,zT⟩ (Y E CZ (Y E B0 (Y E B0 (Y E B0 (BK ?_))))))))
 refine Y E B0 ?_
 refine An (u:=AA x13) E E (by rw[ex13]) ?_
 refine V (AE ?_)
 refine AC h fun y8 hy8 h=>?_
 refine AC h fun y9 hy9 h=>?_
 refine AC h fun y10 hy10 h=>?_
 refine AC h fun x14 hx14 h=>?_
 refine AC h fun x15 hx15 h=>?_
 refine AC h fun x16 hx16 h=>?_
 refine AC h fun x17 hx17 h=>?_
 obtain⟨x18,ex18,h⟩:=Bp h
 refine Ai CY [1] (Bm [(true,0),(true,2),(true,5),(true,8),(true,9),(true,10),(true,11),(true,12),(true,13),(true,14),(true,15),(true,16),(true,17),(true,18),(true,19),(true,20),(true,21),(true,22),(true,23),(true,24),(true,25),(true,26),(false,1),(false,3),(true,4),(false,6),(false,7)] (.last 27 (Pl.of [(false,28)]))) zK (J E (J E (J E (J E (J E ?_)))))
 refine BR 1 hx14 E CO Bj E E E fun g11 m13 cp11 hv11=>?_
 refine Bi E A8 E (Br (sz:=1) (enc:=Bw) 0 0 zV E hv11 hx14 E) ?_
 refine Y E Hf (J E (J E ?_))
 refine BR 1 hx15 E CO Bj E E E fun g12 m14 cp12 hv12=>?_
 refine Bi E A8 E (Br (sz:=1) (enc:=Bw) 0 0 zV E hv12 hx15 E) ?_
 refine Y E Hf (Y E CZ (J E ?_))
 refine BR 1 hx16 E CO Bj E E E fun g13 m15 cp13 hv13=>?_
 refine Bi E A8 E (Br (sz:=1) (enc:=Bw) 0 0 zV E hv13 hx16 E) ?_
 refine J E ?_
 refine BR 1 hx17 E CO Bj E E E fun g14 m16 cp14 hv14=>?_
 refine Bi E A8 E (Br (sz:=1) (enc:=Bw) 0 0 zV E hv14 hx17 E) ?_
 refine Y E Hf (Y E CZ (BS 0 Nt (EM hy8) E ⟨⟨1,E⟩,zT⟩ (BS 0 Nt (EM hy9) E ⟨⟨1,E⟩,zT⟩ (Y E CZ (BS 0 Nt (EM hy10) E ⟨⟨1,E⟩,zT⟩ (Y E CZ (BK (Y E B0 ?_))))))))
 refine An (u:=AA x18) E E (by rw[ex18]) ?_
 refine V ?_
 refine AC h fun x19 hx19 h=>?_
 refine AC h fun x20 hx20 h=>?_
 refine AC h fun x21 hx21 h=>?_
 refine AC h fun x22 hx22 h=>?_
 refine AC h fun x23 hx23 h=>?_
 refine AC h fun x24 hx24 h=>?_
 refine AC h fun x25 hx25 h=>?_
 refine Ai CY [1] (Bm [(true,0),(true,1),(true,2),(true,3),(true,4),(true,5),(true,6),(true,7),(true,8),(true,9),(true,10),(true,11),(true,12),(true,13),(true,14),(true,15),(true,16),(true,17),(true,18),(true,19),(true,20),(true,21),(true,22),(true,23),(true,24),(true,25)] (.last 26 (Pl.of [(false,27)]))) zK (J E (J E (Y E B0 (J E ?_))))
 refine BR 1 hx19 E CO Bj E E E fun g15 m17 cp15 hv15=>?_
 refine Bi E A8 E (Br (sz:=1) (enc:=Bw) 0 0 zV E hv15 hx19 E) ?_
 refine J E ?_
 refine BR 1 hx20 E CO Bj E E E fun g16 m18 cp16 hv16=>?_
 refine Bi E A8 E (Br (sz:=1) (enc:=Bw) 0 0 zV E hv16 hx20 E) ?_
 refine J E ?_
 refine BR 1 hx21 E CO Bj E E E fun g17 m19 cp17 hv17=>?_
 refine Bi E A8 E (Br (sz:=1) (enc:=Bw) 0 0 zV E hv17 hx21 E) ?_
 refine J E ?_
 refine BR 1 hx22 E CO Bj E E E fun g18 m20 cp18 hv18=>?_
 refine Bi E A8 E (Br (sz:=1) (enc:=Bw) 0 0 zV E hv18 hx22 E) ?_
 refine J E (Y E B0 (J E ?_))
 refine BR 1 hx23 E CO Bj E E E fun g19 m21 cp19 hv19=>?_
 refine Bi E A8 E (Br (sz:=1) (enc:=Bw) 0 0 zV E hv19 hx23 E) ?_
 refine J E ?_
 refine BR 1 hx24 E CO Bj E E E fun g20 m22 cp20 hv20=>?_
 refine Bi E A8 E (Br (sz:=1) (enc:=Bw) 0 0 zV E hv20 hx24 E) ?_
 refine J E ?_
 refine BR 1 hx25 E CO Bj E E E fun g21 m23 cp21 hv21=>?_
 refine Bi E A8 E (Br (sz:=1) (enc:=Bw) 0 0 zV E hv21 hx25 E) ?_
 refine BK ?_
 refine Bz [_,_,_,_,_,_,_,_] E CO Bj LT ⟨E,E,E,E,E,E,E,E,zT⟩ E E E zX E E zU fun b3=>?_
 refine B2 Bw 1 ([x13+x18,x19,x20,x21,x22+x13,x23,x24,x25]:List UInt32) E zV E ?_
 refine O E (AU (Ao (AG (AK ?_))))
 obtain⟨x26,ex26,h⟩:=Bp h
 refine J E (Y E Az ?_)
 refine An (u:=vI x26) E E (by rw[ex26]) ?_
 refine AU ?_
 exact Al (m6,[x13+x18,x19,x20,x21,x22+x13,x23,x24,x25],.slice (some ⟨b3,0,none⟩) 8 8,x26) h (Nat.lt_succ_self _) tL (BG [1,0] 3 E E E)
 refine Ax (A3 (BO (A0 ?_)))
 exact Au (l8,v9) h tL (BG [1] 2 E E E)
 obtain⟨l7,v8⟩:=x
 dsimp only at h
 unfold HC at h
 try dsimp only
 refine A5 (α:=List UInt32×Value) (fun x=>K6 x.1=some r) (fun x=>[(9,x.2)]) (fun x=>AH 29 1 x.2 Bw x.1::H) ?_ (fun x D h=>?_)
 refine Z (O E (V (AN ?_)))
 refine SX.heap (SX.mono (A6 (α:=Nat×List UInt32×Value×Int) (fun x=>K8 p0 x.1 (x.2.1,x.2.2.2)=some r) (fun x=>[(0,B6),(9,x.2.2.1),(15,vI x.2.2.2)]) (fun x=>AH 29 1 x.2.2.1 Bw x.2.1::H) (fun x=>x.1) (fun x D h=>?_) (n,l7,v8,0) h) tL) (BG [0] 1 E E E)
 obtain⟨m24,l10,v11,a3⟩:=x
 dsimp only at h
 rcases m24 with _ | m24
 cases (show(none:Option _)=some r from h)
 replace h:HT p0 (K8 p0 m24) l10 a3=some r:=h
 unfold HT at h
 try dsimp only
 refine AE (Z (J E (Y E Aw (V ?_))))
 refine AT h E (fun hc4 h=>?_) fun hc4 h=>?_
 refine AI (AG (AE (AN ?_)))
 refine AC h fun x27 hx27 h=>?_
 refine AC h fun x28 hx28 h=>?_
 refine AC h fun x29 hx29 h=>?_
 refine AC h fun l11 hl11 h=>?_
 refine Ai CY [0] (Bm [(true,0),(true,1),(true,2),(true,3),(true,4),(true,5),(true,6),(true,7),(true,8),(true,9),(true,10),(true,11)] (.last 12 .nil)) zK (J E (J E (J E (J E ?_))))
 refine BR 0 hx27 E CO Bj E E E fun g22 m25 cp22 hv22=>?_
 refine Bi E A8 E (Br (sz:=1) (enc:=Bw) 0 0 zV E hv22 hx27 E) ?_
 refine J E (J E ?_)
 refine Cj hx28 hs0_ E CO Bj E E fun be1 of1 hc5=>?_
 refine Bi E A8 E (DS (j:=0) hc5 E) ?_
 refine Y E B0 ?_
 refine BR 0 hx29 E CO Bj E E E fun g23 m26 cp23 hv23=>?_
 refine BK ?_
 refine Cz (sz:=1) (enc:=Bw) 0 hl11 zV E E E E E hv23 Bj (by simp[Value.oneCell']) zT ?_
 refine AU (Ao (AG (AK ?_)))
 obtain⟨x30,ex30,h⟩:=Bp h
 refine J E (Y E Az ?_)
 refine An (u:=vI x30) E E (by rw[ex30]) ?_
 refine AU ?_
 exact Al (m24,l11,v11,x30) h (Nat.lt_succ_self _) tL (BG [0] 1 E E E)
 refine Ax (A3 (BO (A0 ?_)))
 exact Au (l10,v11) h tL (BG [0] 1 E E E)
 obtain⟨l9,v10⟩:=x
 dsimp only at h
 unfold K6 at h
 try dsimp only
 refine Z (J E (O E (V (AL ?_))))
 obtain rfl:=zI h
 exact DL [0] 1 (Df E E) E E ⟨v10,E,E⟩
def Jk(p0:List UInt8)(a1:List UInt8):Option (List UInt8):=
 ret ((BX (p0.length:Int))*8) fun x1=>
 (FN a1 [(shr64 x1 56).toUInt8,(shr64 x1 48).toUInt8,(shr64 x1 40).toUInt8,(shr64 x1 32).toUInt8,(shr64 x1 24).toUInt8,(shr64 x1 16).toUInt8,(shr64 x1 8).toUInt8,x1.toUInt8]).bind fun s3=>
 some s3
def GN(p0:List UInt8)(nx_f_ref02_Filled_l1:List UInt8→Option (List UInt8))(a2:List UInt8):Option (List UInt8):=
 (SE (a2.length:Int) 64).bind fun q1=>
 cond (!decide (q1=56))
 (
  (FN a2 [0]).bind fun s2=>
  nx_f_ref02_Filled_l1 s2)
 (
  Jk p0 a2)
def JU(p0:List UInt8):Nat→List UInt8→Option (List UInt8):=By fun nx x=>GN p0 nx x
def Jp(n:Nat)(p0:List UInt8):Option (List UInt8):=
 (FN p0 [128]).bind fun s1=>
 JU p0 n s1
theorem Xm{n:Nat}{p0 r:List UInt8}(h:Jp n p0=some r): zC K w0 197 [vS p0] [] H (fun u M=>u=vS r∧M=[]):=by
 unfold Jp at h
 refine Ua.enter Tryz.func197 rfl rfl ?_
 refine Z (O E (V (Z ?_)))
 refine AC h fun s1 hs1 h=>?_
 refine J E (Y E (CW hs1) (O E (V ?_)))
 refine A5 (α:=List UInt8) (fun x=>Jk p0 x=some r) (fun x=>[(0,vS p0),(3,vS x)]) (fun x=>H) ?_ (fun a1 D h=>?_)
 refine AN ?_
 refine SX.heap (SX.mono (A6 (α:=Nat×List UInt8) (fun x=>JU p0 x.1 x.2=some r) (fun x=>[(0,vS p0),(3,vS x.2)]) (fun x=>H) (fun x=>x.1) (fun x D h=>?_) (n,s1) h) tL) (BG [] 0 E E E)
 obtain⟨m1,a2⟩:=x
 dsimp only at h
 rcases m1 with _ | m1
 cases (show(none:Option _)=some r from h)
 replace h:GN p0 (JU p0 m1) a2=some r:=h
 unfold GN at h
 try dsimp only
 refine AE (Z ?_)
 refine AC h fun q1 hq1 h=>?_
 refine J E (BT E Bo E (Y E (Qq hq1) (Y E Bb (V ?_))))
 refine AT h E (fun hc1 h=>?_) fun hc1 h=>?_
 refine AI (AG (AN (AK ?_)))
 refine AC h fun s2 hs2 h=>?_
 refine J E (Y E (CW hs2) (O E (AU (Ao ?_))))
 exact Al (m1,s2) h (Nat.lt_succ_self _) tL (BG [] 0 E E E)
 refine Ax (A3 (BO (A0 ?_)))
 exact Au a2 h tL (BG [] 0 E E E)
 unfold Jk at h
 try dsimp only
 refine Z ?_
 obtain⟨x1,ex1,h⟩:=Bp h
 refine J E (BT E Bo E (Av E E (De FY CR) ?_))
 refine Y E (JS (b:=8)) ?_
 refine An (u:=Ar x1) E E (by rw[ex1]) ?_
 refine V (Z ?_)
 refine AC h fun s3 hs3 h=>?_
 refine J E (J E ?_)
 refine Y E (FB.shr64 (n:=56)) ?_
 refine Av E E (HG CR Cn) (J E ?_)
 refine Y E (FB.shr64 (n:=48)) ?_
 refine Av E E (HG CR Cn) (J E ?_)
 refine Y E (FB.shr64 (n:=40)) ?_
 refine Av E E (HG CR Cn) (J E ?_)
 refine Y E (FB.shr64 (n:=32)) ?_
 refine Av E E (HG CR Cn) (J E ?_)
 refine Y E (FB.shr64 (n:=24)) ?_
 refine Av E E (HG CR Cn) (J E ?_)
 refine Y E (FB.shr64 (n:=16)) ?_
 refine Av E E (HG CR Cn) (J E ?_)
 refine Y E (FB.shr64 (n:=8)) ?_
 refine Av E E (HG CR Cn) (J E (Av E E (HG CR Cn) ?_))
 refine Bz [_,_,_,_,_,_,_,_] E CP KZ LW ⟨E,E,E,E,E,E,E,E,zT⟩ E E E zX E E zU fun b1=>?_
 refine B2 GY 1 ([(shr64 x1 56).toUInt8,(shr64 x1 48).toUInt8,(shr64 x1 40).toUInt8,(shr64 x1 32).toUInt8,(shr64 x1 24).toUInt8,(shr64 x1 16).toUInt8,(shr64 x1 8).toUInt8,x1.toUInt8]:List UInt8) E zV E ?_
 refine ID 0 E CP Cn Bo E E (Y E (CW hs3) (O E (V (AL ?_))))
 obtain rfl:=zI h
 exact Ab [] 1 E E E
def Lw(l3:List UInt8):Option (List UInt8):=
 some l3
def IS(l1:List UInt32)(nx_f_ref02_Sum_l2:List UInt8×Int→Option (List UInt8))(l4:List UInt8)(a2:Int):Option (List UInt8):=
 cond (decide (a2<8))
 (
  (Aq l1 a2).bind fun x1=>
  (Aq l1 a2).bind fun x2=>
  (Aq l1 a2).bind fun x3=>
  (Aq l1 a2).bind fun x4=>
  (Ci 1 l4 [(shr32 x1 24).toUInt8,(shr32 x2 16).toUInt8,(shr32 x3 8).toUInt8,x4.toUInt8]).bind fun l5=>
  ret (wI (a2+1)) fun i_2=>
  nx_f_ref02_Sum_l2 (l5,i_2))
 (
  Lw l4)
def L6(l1:List UInt32):Nat→(List UInt8×Int)→Option (List UInt8):=By fun nx x=>IS l1 nx x.1 x.2
def Jx(n:Nat)(l1:List UInt32):Option (List UInt8):=
 L6 l1 n ([],0)
def IN(n:Nat)(T:List UInt32)(y1:List UInt8)(nx_f_ref02_Sum_l1:List UInt32×Int→Option (List UInt8))(l2:List UInt32)(a1:Int):Option (List UInt8):=
 cond (decide (a1<(y1.length:Int)))
 (
  (Cr y1 a1 (wI (a1+64))).bind fun s1=>
  (Ld n T l2 s1).bind fun y3=>
  ret (wI (a1+64)) fun i_1=>
  nx_f_ref02_Sum_l1 (y3,i_1))
 (
  Jx n l2)
def Lx(n:Nat)(T:List UInt32)(y1:List UInt8):Nat→(List UInt32×Int)→Option (List UInt8):=By fun nx x=>IN n T y1 nx x.1 x.2
def JX(n:Nat)(T:List UInt32)(p0:List UInt8):Option (List UInt8):=
 (Jp n p0).bind fun y1=>
 (My).bind fun y2=>
 Lx n T y1 n (y2,0)
theorem Rc{n:Nat}{T:List UInt32}{p0 r:List UInt8}(h:JX n T p0=some r)(hT:JJ K w0 2 64 T):zC K w0 159 [vS p0] [] H (fun u M=>u=vS r∧M=[]):=by
 unfold JX at h
 refine Ua.enter Tryz.func159 rfl rfl ?_
 refine Z (O E (V (Z ?_)))
 refine AC h fun y1 hy1 h=>?_
 refine J E (AQ 0 q8 (Xm hy1) E (O E (V (Z ?_))))
 refine AC h fun y2 hy2 h=>?_
 refine Bg (vs:=[]) (Hin:=[]) (Hr:=_) E E zT sd E E (ZU hy2) ?_
 rintro v1 _ ⟨_,rfl,rfl⟩
 refine⟨trivial,?_⟩
 refine O E (V ?_)
 refine A5 (α:=List UInt32×Value) (fun x=>Jx n x.1=some r) (fun x=>[(4,x.2)]) (fun x=>AH 29 1 x.2 Bw x.1::H) ?_ (fun x D h=>?_)
 refine Z (O E (V (AN ?_)))
 refine SX.heap (SX.mono (A6 (α:=Nat×List UInt32×Value×Int) (fun x=>Lx n T y1 x.1 (x.2.1,x.2.2.2)=some r) (fun x=>[(3,vS y1),(4,x.2.2.1),(5,vI x.2.2.2)]) (fun x=>AH 29 1 x.2.2.1 Bw x.2.1::H) (fun x=>x.1) (fun x D h=>?_) (n,y2,v1,0) h) tL) (BG [0] 1 E E E)
 obtain⟨m1,l2,v3,a1⟩:=x
 dsimp only at h
 rcases m1 with _ | m1
 cases (show(none:Option _)=some r from h)
 replace h:IN n T y1 (Lx n T y1 m1) l2 a1=some r:=h
 unfold IN at h
 try dsimp only
 refine AE (Z (J E (J E (BT E Bo E (Y E Aw (V ?_))))))
 refine AT h E (fun hc1 h=>?_) fun hc1 h=>?_
 refine AI (AG (AE (AN (AK ?_))))
 refine AC h fun s1 hs1 h=>?_
 refine AC h fun y3 hy3 h=>?_
 refine J E (J E (J E (J E (Y E Az (It hs1 E Bo E E E ?_)))))
 refine Bg (vs:=[_,_]) (Hin:=[_]) (Hr:=_) E E ⟨E,E,zT⟩ qk E E (CV (B:=[_]) (Hin:=[]) fun K' w1 hk hB=>aU hy3 (hT.keeps hk) (B7 (e:=29) zV (hB _ zS))) ?_
 rintro v4 _ ⟨_,rfl,_,rfl,rfl⟩
 refine⟨trivial,?_⟩
 refine O E (AU (Ao (AG (AK ?_))))
 obtain⟨i_1,ei_1,h⟩:=Bp h
 refine J E (Y E Az ?_)
 refine An (u:=vI i_1) E E (by rw[ei_1]) ?_
 refine AU ?_
 exact Al (m1,y3,v4,i_1) h (Nat.lt_succ_self _) tL (BG [1] 2 E E E)
 refine Ax (A3 (BO (A0 ?_)))
 exact Au (l2,v3) h tL (BG [0] 1 E E E)
 obtain⟨l1,v2⟩:=x
 dsimp only at h
 unfold Jx at h
 try dsimp only
 refine Z (Bk 5 1 GY (O E (V ?_)))
 refine A5 (α:=List UInt8×Value) (fun x=>Lw x.1=some r) (fun x=>[(6,x.2)]) (fun x=>AH 5 1 x.2 GY x.1::H) ?_ (fun x D h=>?_)
 refine Z (O E (V (AN ?_)))
 refine SX.heap (SX.mono (A6 (α:=Nat×List UInt8×Value×Int) (fun x=>L6 l1 x.1 (x.2.1,x.2.2.2)=some r) (fun x=>[(4,v2),(6,x.2.2.1),(7,vI x.2.2.2)]) (fun x=>AH 29 1 v2 Bw l1::AH 5 1 x.2.2.1 GY x.2.1::H) (fun x=>x.1) (fun x D h=>?_) (n,[],zN,0) h) tL) (BG [1,0] 2 E E E)
 obtain⟨m2,l4,v6,a2⟩:=x
 dsimp only at h
 rcases m2 with _ | m2
 cases (show(none:Option _)=some r from h)
 replace h:IS l1 (L6 l1 m2) l4 a2=some r:=h
 unfold IS at h
 try dsimp only
 refine AE (Z (J E (Y E Aw (V ?_))))
 refine AT h E (fun hc2 h=>?_) fun hc2 h=>?_
 refine AI (AG (AE (AN ?_)))
 refine AC h fun x1 hx1 h=>?_
 refine AC h fun x2 hx2 h=>?_
 refine AC h fun x3 hx3 h=>?_
 refine AC h fun x4 hx4 h=>?_
 refine AC h fun l5 hl5 h=>?_
 refine Ai CY [0] (Bm [(true,0),(true,1),(true,2),(true,3),(true,4),(true,5),(true,6),(true,7),(true,8),(true,9),(true,10),(true,11),(true,12),(true,13),(true,14),(true,15),(true,16),(true,17),(true,18),(true,19),(true,20),(true,21),(true,22),(true,23),(false,24)] (.last 25 (Pl.of [(false,26)]))) zK (J E (J E (J E ?_)))
 refine BR 0 hx1 E CO Bj E E E fun g1 m3 cp1 hv1=>?_
 refine Bi E A8 E (Br (sz:=1) (enc:=Bw) 0 0 zV E hv1 hx1 E) ?_
 refine Y E (FB.shr32 (n:=24)) ?_
 refine Av E E (Cw Bv Cn) (J E (J E ?_))
 refine BR 0 hx2 E CO Bj E E E fun g2 m4 cp2 hv2=>?_
 refine Bi E A8 E (Br (sz:=1) (enc:=Bw) 0 0 zV E hv2 hx2 E) ?_
 refine Y E (FB.shr32 (n:=16)) ?_
 refine Av E E (Cw Bv Cn) (J E (J E ?_))
 refine BR 0 hx3 E CO Bj E E E fun g3 m5 cp3 hv3=>?_
 refine Bi E A8 E (Br (sz:=1) (enc:=Bw) 0 0 zV E hv3 hx3 E) ?_
 refine Y E (FB.shr32 (n:=8)) ?_
 refine Av E E (Cw Bv Cn) (J E (J E ?_))
 refine BR 0 hx4 E CO Bj E E E fun g4 m6 cp4 hv4=>?_
 refine Bi E A8 E (Br (sz:=1) (enc:=Bw) 0 0 zV E hv4 hx4 E) ?_
 refine Av E E (Cw Bv Cn) ?_
 refine Bz [_,_,_,_] E CP KZ LW ⟨E,E,E,E,zT⟩ E E E zX E E (fun _=>⟨⟨1,E⟩,zT⟩) fun b1=>?_
 refine B2 GY 1 ([(shr32 x1 24).toUInt8,(shr32 x2 16).toUInt8,(shr32 x3 8).toUInt8,x4.toUInt8]:List UInt8) E zV E ?_
 refine BK ?_
 refine CQ 2 hl5 (sz:=1) (enc:=GY) zV E CP KZ Wx LW E zD E E E E (Bs (sz:=1) (enc:=GY) 0 zV E) (by simp[GY,Value.oneCell']) zU fun v7=>?_
 refine O E (AU (Ao (AG (AK ?_))))
 obtain⟨i_2,ei_2,h⟩:=Bp h
 refine J E (Y E Az ?_)
 refine An (u:=vI i_2) E E (by rw[ei_2]) ?_
 refine AU ?_
 exact Al (m2,l5,v7,i_2) h (Nat.lt_succ_self _) tL (BG [1,2] 3 E E E)
 refine Ax (A3 (BO (A0 ?_)))
 exact Au (l4,v6) h tL (BG [1] 2 E E E)
 obtain⟨l3,v5⟩:=x
 dsimp only at h
 unfold Lw at h
 try dsimp only
 refine Z (J E (ID 0 E CP Cn Bo E E (O E (V (AL ?_)))))
 obtain rfl:=zI h
 exact Ab [] 1 E E E
def HF(p1:UInt8)(l2:List UInt8)(a2:Int)(nx_f_ref03_part_l1:List UInt8×Int→Option (List UInt8))(a3:UInt8):Option (List UInt8):=
 (Ci 1 l2 [a3 ^^^ p1]).bind fun l3=>
 ret (wI (a2+1)) fun i_1=>
 nx_f_ref03_part_l1 (l3,i_1)
def K2(l1:List UInt8):Option (List UInt8):=
 some l1
def HV(p1:UInt8)(a1:List UInt8)(nx_f_ref03_part_l1:List UInt8×Int→Option (List UInt8))(l2:List UInt8)(a2:Int):Option (List UInt8):=
 cond (decide (a2<64))
 (
  cond (decide (a2<(a1.length:Int)))
  (
   (Aq a1 a2).bind fun c1=>
   HF p1 l2 a2 nx_f_ref03_part_l1 c1)
  (
   HF p1 l2 a2 nx_f_ref03_part_l1 0))
 (
  K2 l2)
def I3(p1:UInt8)(a1:List UInt8):Nat→(List UInt8×Int)→Option (List UInt8):=By fun nx x=>HV p1 a1 nx x.1 x.2
def HE(n:Nat)(p1:UInt8)(a1:List UInt8):Option (List UInt8):=
 I3 p1 a1 n ([],0)
def J1(n:Nat)(T:List UInt32)(p0:List UInt8)(p1:UInt8):Option (List UInt8):=
 cond (decide (64<(p0.length:Int)))
 (
  (JX n T p0).bind fun y1=>
  HE n p1 y1)
 (
  HE n p1 p0)
theorem UO{n:Nat}{T:List UInt32}{p0 r:List UInt8}{p1:UInt8}(h:J1 n T p0 p1=some r)(hT:JJ K w0 2 64 T):zC K w0 200 [vS p0,Dt p1] [] H (fun u M=>u=vS r∧M=[]):=by
 unfold J1 at h
 refine Ua.enter Tryz.func200 rfl rfl ?_
 refine Z (O E (V ?_))
 refine A5 (α:=List UInt8) (fun x=>HE n p1 x=some r) (fun x=>[(0,vS x),(1,Dt p1)]) (fun x=>H) ?_ (fun a1 D h=>?_)
 refine Z (J E (BT E Bo E (Y E Ca (V ?_))))
 refine AT h E (fun hc1 h=>?_) fun hc1 h=>?_
 refine AK ?_
 refine AC h fun y1 hy1 h=>?_
 refine J E (AQ 0 d8 (Rc hy1 hT) E (O E (AU ?_)))
 exact Au y1 h tL (BG [] 0 E E E)
 refine AI ?_
 exact Au p0 h tL (BG [] 0 E E E)
 unfold HE at h
 try dsimp only
 refine Z (Bk 5 1 GY (O E (V ?_)))
 refine A5 (α:=List UInt8×Value) (fun x=>K2 x.1=some r) (fun x=>[(5,x.2)]) (fun x=>AH 5 1 x.2 GY x.1::H) ?_ (fun x D h=>?_)
 refine Z (O E (V (AN ?_)))
 refine SX.heap (SX.mono (A6 (α:=Nat×List UInt8×Value×Int) (fun x=>I3 p1 a1 x.1 (x.2.1,x.2.2.2)=some r) (fun x=>[(0,vS a1),(1,Dt p1),(5,x.2.2.1),(6,vI x.2.2.2)]) (fun x=>AH 5 1 x.2.2.1 GY x.2.1::H) (fun x=>x.1) (fun x D h=>?_) (n,[],zN,0) h) tL) (BG [0] 1 E E E)
 obtain⟨m1,l2,v2,a2⟩:=x
 dsimp only at h
 rcases m1 with _ | m1
 cases (show(none:Option _)=some r from h)
 replace h:HV p1 a1 (I3 p1 a1 m1) l2 a2=some r:=h
 unfold HV at h
 try dsimp only
 refine AE (Z (J E (Y E Aw (V ?_))))
 refine AT h E (fun hc2 h=>?_) fun hc2 h=>?_
 refine AI (AG (AE (AN (Z (O E (V ?_))))))
 refine A5 (α:=UInt8) (fun x=>HF p1 l2 a2 (I3 p1 a1 m1) x=some r) (fun x=>[(0,vS a1),(1,Dt p1),(5,v2),(6,vI a2),(7,Dt x)]) (fun x=>AH 5 1 v2 GY l2::H) ?_ (fun a3 D h=>?_)
 refine Z (J E (J E (BT E Bo E (Y E Aw (V ?_)))))
 refine AT h E (fun hc3 h=>?_) fun hc3 h=>?_
 refine AK ?_
 refine AC h fun c1 hc1 h=>?_
 refine J E (J E (Dr hc1 E Bo E E (O E (AU ?_))))
 exact Au c1 h tL (BG [0] 1 E E E)
 refine AI ?_
 exact Au 0 h tL (BG [0] 1 E E E)
 unfold HF at h
 try dsimp only
 refine AK ?_
 refine AC h fun l3 hl3 h=>?_
 refine J E (J E (J E (Y E Qm ?_)))
 refine Bz [_] E CP KZ LW ⟨E,zT⟩ E E E zX E E zU fun b1=>?_
 refine B2 GY 1 ([a3 ^^^ p1]:List UInt8) E zV E ?_
 refine CQ 1 hl3 (sz:=1) (enc:=GY) zV E CP KZ Wx LW E zD E E E E (Bs (sz:=1) (enc:=GY) 0 zV E) (by simp[GY,Value.oneCell']) zU fun v3=>?_
 refine O E (AU (Ao (AG (AK ?_))))
 obtain⟨i_1,ei_1,h⟩:=Bp h
 refine J E (Y E Az ?_)
 refine An (u:=vI i_1) E E (by rw[ei_1]) ?_
 refine AU ?_
 exact Al (m1,l3,v3,i_1) h (Nat.lt_succ_self _) tL (BG [1] 2 E E E)
 refine Ax (A3 (BO (A0 ?_)))
 exact Au (l2,v2) h tL (BG [0] 1 E E E)
 obtain⟨l1,v1⟩:=x
 dsimp only at h
 unfold K2 at h
 try dsimp only
 refine Z (J E (ID 0 E CP Cn Bo E E (O E (V (AL ?_)))))
 obtain rfl:=zI h
 exact Ab [] 1 E E E
def Mu(n:Nat)(T:List UInt32)(p0:List UInt8)(p1:List UInt8):Option (List (List UInt8)):=
 (J1 n T p0 54).bind fun y1=>
 (FN y1 p1).bind fun s1=>
 (J1 n T p0 92).bind fun y2=>
 (JX n T s1).bind fun y3=>
 (FN y2 y3).bind fun s2=>
 some [s1,s2]
theorem Zq{n:Nat}{T:List UInt32}{p0 p1:List UInt8}{r:List (List UInt8)}(h:Mu n T p0 p1=some r)(hT:JJ K w0 2 64 T):zC K w0 160 [vS p0,vS p1] [] H (fun u M=>∃v0:Value,u=v0∧M=[AH 9 1 v0 eS r]):=by
 unfold Mu at h
 refine Ua.enter Tryz.func160 rfl rfl ?_
 refine Z (Bk 9 1 eS (O E (V (Z ?_))))
 refine AC h fun y1 hy1 h=>?_
 refine AC h fun s1 hs1 h=>?_
 refine J E (AQ 0 lI (UO hy1 hT) E (J E (Y E (CW hs1) (O E (V (Z ?_))))))
 refine AC h fun y2 hy2 h=>?_
 refine AC h fun y3 hy3 h=>?_
 refine AC h fun s2 hs2 h=>?_
 refine J E (J E (AQ 0 lI (UO hy2 hT) E (J E (AQ 0 d8 (Rc hy3 hT) E (Y E (CW hs2) ?_)))))
 refine Bz [_,_] E Fk Hp T7 ⟨E,E,zT⟩ E E E zX E E zU fun b1=>?_
 refine B2 eS 1 ([s1,s2]:List (List UInt8)) E zV E ?_
 refine O E (V (AL ?_))
 obtain rfl:=zI h
 exact DL [0] 2 (Df E E) E E ⟨(.slice (some ⟨b1,0,none⟩) 2 2),E,E⟩
def IZ(n:Nat)(T:List UInt32)(p0:List UInt8)(p1:List UInt8):Option (List UInt8):=
 (Mu n T p0 p1).bind fun y1=>
 (Aq y1 1).bind fun x1=>
 (JX n T x1).bind fun y2=>
 some y2
theorem Rw{n:Nat}{T:List UInt32}{p0 p1 r:List UInt8}(h:IZ n T p0 p1=some r)(hT:JJ K w0 2 64 T):zC K w0 117 [vS p0,vS p1] [] H (fun u M=>u=vS r∧M=[]):=by
 unfold IZ at h
 refine Ua.enter Tryz.func117 rfl rfl ?_
 refine Z (O E (V (Z ?_)))
 refine AC h fun y1 hy1 h=>?_
 refine AC h fun x1 hx1 h=>?_
 refine AC h fun y2 hy2 h=>?_
 refine J E (J E ?_)
 refine Bg (vs:=[_,_]) (Hin:=[]) (Hr:=_) E E ⟨E,E,zT⟩ rI E E (Zq hy1 hT) ?_
 rintro v1 _ ⟨_,rfl,rfl⟩
 refine⟨trivial,?_⟩
 refine BR 0 hx1 E Fk Hp E E E fun g1 m1 cp1 hv1=>?_
 refine Bi E Fm E (Br (sz:=1) (enc:=eS) 0 0 zV E hv1 hx1 E) ?_
 refine AQ 0 d8 (Rc hy2 hT) E (O E (V (AL ?_)))
 obtain rfl:=zI h
 exact Ab [] 1 E E E
def JQ(p2:Int)(a1:List UInt8):Option (List UInt8×Int):=
 (Cr a1 0 p2).bind fun s4=>
 some (s4,0)
def GL(n:Nat)(T:List UInt32)(p0:List UInt8)(p1:List UInt8)(p2:Int)(nx_f_ref03_Expand_l1:List UInt8×List UInt8×Int→Option (List UInt8×Int))(a2:List UInt8)(a3:List UInt8)(a4:Int):Option (List UInt8×Int):=
 cond (decide ((a2.length:Int)<p2))
 (
  (FN a3 p1).bind fun s1=>
  (FN s1 [HN a4]).bind fun s2=>
  (IZ n T p0 s2).bind fun y1=>
  (FN a2 y1).bind fun s3=>
  ret (wI (a4+1)) fun i_1=>
  nx_f_ref03_Expand_l1 (s3,y1,i_1))
 (
  JQ p2 a2)
def JV(n:Nat)(T:List UInt32)(p0:List UInt8)(p1:List UInt8)(p2:Int):Nat→(List UInt8×List UInt8×Int)→Option (List UInt8×Int):=By fun nx x=>GL n T p0 p1 p2 nx x.1 x.2.1 x.2.2
def Hz(n:Nat)(T:List UInt32)(p0:List UInt8)(p1:List UInt8)(p2:Int):Option (List UInt8×Int):=
 cond ((decide (p2<0))||(decide (8160<p2)))
 (
  some ([],2))
 (
  JV n T p0 p1 p2 n ([],[],1))
theorem R3{n:Nat}{T:List UInt32}{p0 p1:List UInt8}{p2:Int}{r:List UInt8×Int}(h:Hz n T p0 p1 p2=some r)(hT:JJ K w0 2 64 T):zC K w0 158 [vS p0,vS p1,vI p2] [] H (fun u M=>u=.tuple #[vS r.1,vI r.2]∧M=[]):=by
 unfold Hz at h
 refine Ua.enter Tryz.func158 rfl rfl ?_
 refine Z (O E (O E (V (AE (Z (J E (Y E Aw (J E ?_))))))))
 refine C9 (c:=decide (8160<p2)) 13 3 16 E (fun hb k=>?_) (fun hb k=>?_) ?_
 refine AB E (AB E (Ae E E E ?_))
 exact k.mono tL
 refine J E (Y E Ca (Ae E E E ?_))
 exact k.mono tL
 refine V ?_
 refine AT h E (fun hc1 h=>?_) fun hc1 h=>?_
 refine Z (O E (O E (V (AL (AZ ?_)))))
 obtain rfl:=zI h
 exact Ab [] 0 E E E
 refine AI (AG (Z (O E (V (Z (O E (V ?_)))))))
 refine A5 (α:=List UInt8) (fun x=>JQ p2 x=some r) (fun x=>[(2,vI p2),(8,vS x)]) (fun x=>H) ?_ (fun a1 D h=>?_)
 refine Z (O E (V (AN ?_)))
 refine SX.heap (SX.mono (A6 (α:=Nat×List UInt8×List UInt8×Int) (fun x=>JV n T p0 p1 p2 x.1 (x.2.1,x.2.2.1,x.2.2.2)=some r) (fun x=>[(0,vS p0),(1,vS p1),(2,vI p2),(8,vS x.2.1),(9,vS x.2.2.1),(10,vI x.2.2.2)]) (fun x=>H) (fun x=>x.1) (fun x D h=>?_) (n,[],[],1) h) tL) (BG [] 0 E E E)
 obtain⟨m1,a2,a3,a4⟩:=x
 dsimp only at h
 rcases m1 with _ | m1
 cases (show(none:Option _)=some r from h)
 replace h:GL n T p0 p1 p2 (JV n T p0 p1 p2 m1) a2 a3 a4=some r:=h
 unfold GL at h
 try dsimp only
 refine AE (Z (J E (BT E Bo E (J E (Y E Aw (V ?_))))))
 refine AT h E (fun hc2 h=>?_) fun hc2 h=>?_
 refine AI (AG (AE (AN (Z ?_))))
 refine AC h fun s1 hs1 h=>?_
 refine AC h fun s2 hs2 h=>?_
 refine AC h fun y1 hy1 h=>?_
 refine J E (J E (J E (Y E (CW hs1) (J E (Av E E (Rg FY Cn) ?_)))))
 refine Bz [_] E CP KZ LW ⟨E,zT⟩ E E E zX E E zU fun b1=>?_
 refine B2 GY 1 ([HN a4]:List UInt8) E zV E ?_
 refine ID 0 E CP Cn Bo E E (Y E (CW hs2) (AQ 0 dT (Rw hy1 hT) E (O E (V (AK ?_)))))
 refine AC h fun s3 hs3 h=>?_
 refine J E (J E (Y E (CW hs3) (O E (AU (Ao (AG (AK ?_)))))))
 obtain⟨i_1,ei_1,h⟩:=Bp h
 refine J E (Y E Az ?_)
 refine An (u:=vI i_1) E E (by rw[ei_1]) ?_
 refine AU ?_
 exact Al (m1,s3,y1,i_1) h (Nat.lt_succ_self _) tL (BG [] 1 E E E)
 refine Ax (A3 (BO (A0 ?_)))
 exact Au a2 h tL (BG [] 0 E E E)
 unfold JQ at h
 try dsimp only
 refine Z ?_
 refine AC h fun s4 hs4 h=>?_
 refine J E (J E (PX hs4 E Bo E E (O E (O E (V (AL ?_))))))
 obtain rfl:=zI h
 exact Ab [] 0 E E E
end

section
variable {K:Nat→Prop}{w0:World}{H:List AW}
def Ic(n:Nat)(T:List UInt32)(p0:BW):Option (List UInt8×List UInt8×Int):=
 (HQ n [p0]).bind fun y1=>
 cond (!y1)
 (
  some ([],[],40))
 (
  (FN [115,101,97,108] [p0.gen.toUInt8,(shr32 p0.gen 8).toUInt8,(shr32 p0.gen 16).toUInt8,(shr32 p0.gen 24).toUInt8]).bind fun s1=>
  (Hz n T p0.secret s1 32).bind fun y2=>
  (FN [98,105,110,100] [p0.gen.toUInt8,(shr32 p0.gen 8).toUInt8,(shr32 p0.gen 16).toUInt8,(shr32 p0.gen 24).toUInt8]).bind fun s2=>
  (Hz n T p0.secret s2 32).bind fun y3=>
  some (y2.1,y3.1,0))
theorem QJ{n:Nat}{T:List UInt32}{p0:BW}{r:List UInt8×List UInt8×Int}(h:Ic n T p0=some r)(hT:JJ K w0 2 64 T):zC K w0 116 [.agg (BA p0).toArray] [] H (fun u M=>u=.tuple #[vS r.1,vS r.2.1,vI r.2.2]∧M=[]):=by
 unfold Ic at h
 refine Ua.enter Tryz.func116 rfl rfl ?_
 refine Z ?_
 refine Bf E E zU fun b1=>?_
 refine O E (O E (O E (V (Z ?_))))
 refine AC h fun y1 hy1 h=>?_
 refine Ac [AA p0.gen,vS p0.secret] E KB E E (Aa 0 E) ?_
 refine Bz [_] E LR Fl Jd ⟨E,zT⟩ E E E zX E E zU fun b2=>?_
 refine B2 BA 2 ([p0]:List BW) E zV E ?_
 refine Bg (vs:=[_]) (Hin:=[_]) (Hr:=_::_) E E ⟨E,zT⟩ dX E E (CV (B:=[_]) (Hin:=[]) fun K' w1 hk hB=>Pd hy1 (B7 (e:=138) zV (hB _ zS))) ?_
 rintro _ _ ⟨_,rfl,rfl,rfl⟩
 refine⟨trivial,?_⟩
 refine O E (V (AE (Z (J E (CH E E (V ?_))))))
 refine AT h E (fun hc1 h=>?_) fun hc1 h=>?_
 refine Z (O E (O E (O E (V (AL (AZ ?_))))))
 obtain rfl:=zI h
 exact Ab [] 2 E E E
 refine AI (AG (Z (AD E Gp (AF 1 A8 E (Av E E (Cw Bv Cn) (AD E Gp (AF 1 A8 E ?_)))))))
 refine Y E (FB.shr32 (n:=8)) ?_
 refine Av E E (Cw Bv Cn) (AD E Gp (AF 1 A8 E ?_))
 refine Y E (FB.shr32 (n:=16)) ?_
 refine Av E E (Cw Bv Cn) (AD E Gp (AF 1 A8 E ?_))
 refine Y E (FB.shr32 (n:=24)) ?_
 refine Av E E (Cw Bv Cn) ?_
 refine Bz [_,_,_,_] E CP KZ LW ⟨E,E,E,E,zT⟩ E E E zX E E zU fun b3=>?_
 refine B2 GY 1 ([p0.gen.toUInt8,(shr32 p0.gen 8).toUInt8,(shr32 p0.gen 16).toUInt8,(shr32 p0.gen 24).toUInt8]:List UInt8) E zV E ?_
 refine ID 0 E CP Cn Bo E E (O E (V (Z ?_)))
 refine AC h fun s1 hs1 h=>?_
 refine AC h fun y2 hy2 h=>?_
 refine AD E RF (AF 2 Fm E (J E (Y E (CW hs1) (AQ 0 lE (R3 hy2 hT) E (J E (Am E E E (Am E E E ?_)))))))
 refine O E (O E (V (Z ?_)))
 refine AC h fun s2 hs2 h=>?_
 refine AC h fun y3 hy3 h=>?_
 refine AD E RF (AF 2 Fm E (J E (Y E (CW hs2) (AQ 0 lE (R3 hy3 hT) E (J E (Am E E E (Am E E E ?_)))))))
 refine O E (O E (V (Z (J E (J E (O E (O E (O E (V (AL ?_))))))))))
 obtain rfl:=zI h
 exact Ab [] 3 E E E
def L5(a1:List UInt8):Option (List UInt8×Int):=
 some (a1,0)
def H8(nx_f_ref05_Pad_l1:List UInt8→Option (List UInt8×Int))(a2:List UInt8):Option (List UInt8×Int):=
 cond (decide ((a2.length:Int)<200))
 (
  (FN a2 [0]).bind fun s2=>
  nx_f_ref05_Pad_l1 s2)
 (
  L5 a2)
def MB:Nat→List UInt8→Option (List UInt8×Int):=By fun nx x=>H8  nx x
def Mk(n:Nat)(p0:List UInt8):Option (List UInt8×Int):=
 cond (decide (198<(p0.length:Int)))
 (
  some ([],50))
 (
  (UN (p0.length:Int) 256).bind fun q1=>
  (SE (p0.length:Int) 256).bind fun q2=>
  (FN [HN q1,HN q2] p0).bind fun s1=>
  MB n s1)
theorem eo{n:Nat}{p0:List UInt8}{r:List UInt8×Int}(h:Mk n p0=some r): zC K w0 114 [vS p0] [] H (fun u M=>u=.tuple #[vS r.1,vI r.2]∧M=[]):=by
 unfold Mk at h
 refine Ua.enter Tryz.func114 rfl rfl ?_
 refine Z (O E (O E (V (AE (Z (J E (BT E Bo E (Y E Ca (V ?_)))))))))
 refine AT h E (fun hc1 h=>?_) fun hc1 h=>?_
 refine Z (O E (O E (V (AL (AZ ?_)))))
 obtain rfl:=zI h
 exact Ab [] 0 E E E
 refine AI (AG (Z ?_))
 refine AC h fun q1 hq1 h=>?_
 refine AC h fun q2 hq2 h=>?_
 refine AC h fun s1 hs1 h=>?_
 refine J E (BT E Bo E (Y E (WX hq1) (Av E E (Rg FY Cn) (J E (BT E Bo E (Y E (Qq hq2) (Av E E (Rg FY Cn) ?_)))))))
 refine Bz [_,_] E CP KZ LW ⟨E,E,zT⟩ E E E zX E E zU fun b1=>?_
 refine B2 GY 1 ([HN q1,HN q2]:List UInt8) E zV E ?_
 refine ID 0 E CP Cn Bo E E (J E (Y E (CW hs1) (O E (V ?_))))
 refine A5 (α:=List UInt8) (fun x=>L5 x=some r) (fun x=>[(4,vS x)]) (fun x=>H) ?_ (fun a1 D h=>?_)
 refine AN ?_
 refine SX.heap (SX.mono (A6 (α:=Nat×List UInt8) (fun x=>MB x.1 x.2=some r) (fun x=>[(4,vS x.2)]) (fun x=>H) (fun x=>x.1) (fun x D h=>?_) (n,s1) h) tL) (BG [] 1 E E E)
 obtain⟨m1,a2⟩:=x
 dsimp only at h
 rcases m1 with _ | m1
 cases (show(none:Option _)=some r from h)
 replace h:H8 (MB m1) a2=some r:=h
 unfold H8 at h
 try dsimp only
 refine AE (Z (J E (BT E Bo E (Y E Aw (V ?_)))))
 refine AT h E (fun hc2 h=>?_) fun hc2 h=>?_
 refine AI (AG (AN (AK ?_)))
 refine AC h fun s2 hs2 h=>?_
 refine J E (Y E (CW hs2) (O E (AU (Ao ?_))))
 exact Al (m1,s2) h (Nat.lt_succ_self _) tL (BG [] 0 E E E)
 refine Ax (A3 (BO (A0 ?_)))
 exact Au a2 h tL (BG [] 0 E E E)
 unfold L5 at h
 try dsimp only
 refine Z (J E (O E (O E (V (AL ?_)))))
 obtain rfl:=zI h
 exact Ab [] 0 E E E
def KT(p0:List UInt8)(x1:Int):Option (List UInt8×Int):=
 (Cr p0 2 (wI (2+x1))).bind fun s1=>
 some (s1,0)
def Gm(p0:List UInt8)(x1:Int)(nx_f_ref05_Unpad_l1:Int→Option (List UInt8×Int))(a1:Int):Option (List UInt8×Int):=
 cond (decide (a1<(p0.length:Int)))
 (
  (Aq p0 a1).bind fun c3=>
  cond (!decide (c3=0))
  (
   some ([],50))
  (
   ret (wI (a1+1)) fun i_2=>
   nx_f_ref05_Unpad_l1 i_2))
 (
  KT p0 x1)
def KF(p0:List UInt8)(x1:Int):Nat→Int→Option (List UInt8×Int):=By fun nx x=>Gm p0 x1 nx x
def Ks(n:Nat)(p0:List UInt8):Option (List UInt8×Int):=
 cond (!decide ((p0.length:Int)=200))
 (
  some ([],50))
 (
  (Aq p0 0).bind fun c1=>
  (Aq p0 1).bind fun c2=>
  ret (wI ((wI (256*(c1.toNat:Int)))+(c2.toNat:Int))) fun x1=>
  cond (decide (198<x1))
  (
   some ([],50))
  (
   ret (wI (2+x1)) fun i_1=>
   KF p0 x1 n i_1))
theorem Zh{n:Nat}{p0:List UInt8}{r:List UInt8×Int}(h:Ks n p0=some r): zC K w0 224 [vS p0] [] H (fun u M=>u=.tuple #[vS r.1,vI r.2]∧M=[]):=by
 unfold Ks at h
 refine Ua.enter Tryz.func224 rfl rfl ?_
 refine Z (O E (O E (V (AE (Z (J E (BT E Bo E (Y E Bb (V ?_)))))))))
 refine AT h E (fun hc1 h=>?_) fun hc1 h=>?_
 refine Z (O E (O E (V (AL (AZ ?_)))))
 obtain rfl:=zI h
 exact Ab [] 0 E E E
 refine AI (AG (AE ?_))
 refine AC h fun c1 hc1 h=>?_
 refine AC h fun c2 hc2 h=>?_
 obtain⟨x1,ex1,h⟩:=Bp h
 refine Ai CY [] (Pl.of [(true,0),(true,1),(true,2),(true,3),(true,4),(true,5),(true,6),(true,7),(true,8)]) zK (J E (Dr hc1 E Bo E E (Av E E (Mx Cn FY) (Y E I4 (J E (Dr hc2 E Bo E E (Av E E (Mx Cn FY) ?_)))))))
 refine Y E Az ?_
 refine An (u:=vI x1) E E (by rw[ex1]) ?_
 refine V (AE (Z (J E (Y E Ca (V ?_)))))
 refine AT h E (fun hc2 h=>?_) fun hc2 h=>?_
 refine Z (O E (O E (V (AL (AZ ?_)))))
 obtain rfl:=zI h
 exact Ab [] 0 E E E
 refine AI (AG ?_)
 refine A5 (α:=Unit) (fun x=>KT p0 x1=some r) (fun x=>[(0,vS p0),(4,vI x1)]) (fun x=>H) ?_ (fun x D h=>?_)
 refine Z ?_
 obtain⟨i_1,ei_1,h⟩:=Bp h
 refine J E (Y E Az ?_)
 refine An (u:=vI i_1) E E (by rw[ei_1]) ?_
 refine V (AN ?_)
 refine SX.heap (SX.mono (A6 (α:=Nat×Int) (fun x=>KF p0 x1 x.1 x.2=some r) (fun x=>[(0,vS p0),(4,vI x1),(5,vI x.2)]) (fun x=>H) (fun x=>x.1) (fun x D h=>?_) (n,i_1) h) tL) (BG [] 0 E E E)
 obtain⟨m1,a1⟩:=x
 dsimp only at h
 rcases m1 with _ | m1
 cases (show(none:Option _)=some r from h)
 replace h:Gm p0 x1 (KF p0 x1 m1) a1=some r:=h
 unfold Gm at h
 try dsimp only
 refine AE (Z (J E (J E (BT E Bo E (Y E Aw (V ?_))))))
 refine AT h E (fun hc3 h=>?_) fun hc3 h=>?_
 refine AI (AG (AE (AN (Z ?_))))
 refine AC h fun c3 hc3 h=>?_
 refine J E (J E (Dr hc3 E Bo E E ?_))
 refine Y E (gV (b:=0)) ?_
 refine V ?_
 refine AT h E (fun hc4 h=>?_) fun hc4 h=>?_
 refine Z (O E (O E (V (AL (Ba (AZ (Dq (Ba (Eg ?_)))))))))
 obtain rfl:=zI h
 exact Ab [] 0 E E E
 refine AI (Ao (AG (AK ?_)))
 obtain⟨i_2,ei_2,h⟩:=Bp h
 refine J E (Y E Az ?_)
 refine An (u:=vI i_2) E E (by rw[ei_2]) ?_
 refine AU ?_
 exact Al (m1,i_2) h (Nat.lt_succ_self _) tL (BG [] 0 E E E)
 refine Ax (A3 (BO (A0 ?_)))
 exact Au () h tL (BG [] 0 E E E)
 unfold KT at h
 try dsimp only
 refine Z ?_
 refine AC h fun s1 hs1 h=>?_
 refine J E (J E (Y E Az (It hs1 E Bo E E E (O E (O E (V (AL ?_)))))))
 obtain rfl:=zI h
 exact Ab [] 0 E E E
def MD(a1:List UInt8):Option (List UInt8):=
 some a1
def IJ(p1:Int)(nx_f_ref06_put_l1:UInt64×List UInt8×Int→Option (List UInt8))(a2:UInt64)(a3:List UInt8)(a4:Int):Option (List UInt8):=
 cond (decide (a4<p1))
 (
  (FN a3 [a2.toUInt8]).bind fun s1=>
  (QP a2 256).bind fun q1=>
  ret (wI (a4+1)) fun i_1=>
  nx_f_ref06_put_l1 (q1,s1,i_1))
 (
  MD a3)
def Lz(p1:Int):Nat→(UInt64×List UInt8×Int)→Option (List UInt8):=By fun nx x=>IJ p1 nx x.1 x.2.1 x.2.2
def Dp(n:Nat)(p0:UInt64)(p1:Int):Option (List UInt8):=
 Lz p1 n (p0,[],0)
theorem K0{n:Nat}{p0:UInt64}{p1:Int}{r:List UInt8}(h:Dp n p0 p1=some r): zC K w0 196 [Ar p0,vI p1] [] H (fun u M=>u=vS r∧M=[]):=by
 unfold Dp at h
 refine Ua.enter Tryz.func196 rfl rfl ?_
 refine Z (O E (V (Z (O E (V ?_)))))
 refine A5 (α:=List UInt8) (fun x=>MD x=some r) (fun x=>[(5,vS x)]) (fun x=>H) ?_ (fun a1 D h=>?_)
 refine Z (O E (V (AN ?_)))
 refine SX.heap (SX.mono (A6 (α:=Nat×UInt64×List UInt8×Int) (fun x=>Lz p1 x.1 (x.2.1,x.2.2.1,x.2.2.2)=some r) (fun x=>[(0,Ar x.2.1),(1,vI p1),(5,vS x.2.2.1),(6,vI x.2.2.2)]) (fun x=>H) (fun x=>x.1) (fun x D h=>?_) (n,p0,[],0) h) tL) (BG [] 0 E E E)
 obtain⟨m1,a2,a3,a4⟩:=x
 dsimp only at h
 rcases m1 with _ | m1
 cases (show(none:Option _)=some r from h)
 replace h:IJ p1 (Lz p1 m1) a2 a3 a4=some r:=h
 unfold IJ at h
 try dsimp only
 refine AE (Z (J E (J E (Y E Aw (V ?_)))))
 refine AT h E (fun hc1 h=>?_) fun hc1 h=>?_
 refine AI (AG (AE (AN (Z ?_))))
 refine AC h fun s1 hs1 h=>?_
 refine J E (J E (Av E E (HG CR Cn) ?_))
 refine Bz [_] E CP KZ LW ⟨E,zT⟩ E E E zX E E zU fun b1=>?_
 refine B2 GY 1 ([a2.toUInt8]:List UInt8) E zV E ?_
 refine ID 0 E CP Cn Bo E E (Y E (CW hs1) (O E (V (AK ?_))))
 refine AC h fun q1 hq1 h=>?_
 refine J E ?_
 refine Y E (P3 (b:=256) hq1) ?_
 refine O E (AU (Ao (AG (AK ?_))))
 obtain⟨i_1,ei_1,h⟩:=Bp h
 refine J E (Y E Az ?_)
 refine An (u:=vI i_1) E E (by rw[ei_1]) ?_
 refine AU ?_
 exact Al (m1,q1,s1,i_1) h (Nat.lt_succ_self _) tL (BG [] 1 E E E)
 refine Ax (A3 (BO (A0 ?_)))
 exact Au a3 h tL (BG [] 0 E E E)
 unfold MD at h
 try dsimp only
 refine Z (J E (O E (V (AL ?_))))
 obtain rfl:=zI h
 exact Ab [] 0 E E E
def Lu(a1:UInt64):Option UInt64:=
 some a1
def IB(p0:List UInt8)(nx_f_ref06_get_l1:UInt64×Int→Option UInt64)(a2:UInt64)(a3:Int):Option UInt64:=
 cond (decide (0≤a3))
 (
  (Aq p0 a3).bind fun c1=>
  ret ((256*a2)+c1.toUInt64) fun x1=>
  ret (wI (a3-1)) fun i_2=>
  nx_f_ref06_get_l1 (x1,i_2))
 (
  Lu a2)
def L0(p0:List UInt8):Nat→(UInt64×Int)→Option UInt64:=By fun nx x=>IB p0 nx x.1 x.2
def F5(n:Nat)(p0:List UInt8):Option UInt64:=
 ret (wI ((p0.length:Int)-1)) fun i_1=>
 L0 p0 n (0,i_1)
theorem Of{n:Nat}{p0:List UInt8}{r:UInt64}(h:F5 n p0=some r): zC K w0 223 [vS p0] [] H (fun u M=>u=Ar r∧M=[]):=by
 unfold F5 at h
 refine Ua.enter Tryz.func223 rfl rfl ?_
 refine Z (O E (V (Z (O E (V ?_)))))
 refine A5 (α:=UInt64) (fun x=>Lu x=some r) (fun x=>[(3,Ar x)]) (fun x=>H) ?_ (fun a1 D h=>?_)
 refine Z ?_
 obtain⟨i_1,ei_1,h⟩:=Bp h
 refine J E (BT E Bo E (Y E B5 ?_))
 refine An (u:=vI i_1) E E (by rw[ei_1]) ?_
 refine V (AN ?_)
 refine SX.heap (SX.mono (A6 (α:=Nat×UInt64×Int) (fun x=>L0 p0 x.1 (x.2.1,x.2.2)=some r) (fun x=>[(0,vS p0),(3,Ar x.2.1),(4,vI x.2.2)]) (fun x=>H) (fun x=>x.1) (fun x D h=>?_) (n,0,i_1) h) tL) (BG [] 0 E E E)
 obtain⟨m1,a2,a3⟩:=x
 dsimp only at h
 rcases m1 with _ | m1
 cases (show(none:Option _)=some r from h)
 replace h:IB p0 (L0 p0 m1) a2 a3=some r:=h
 unfold IB at h
 try dsimp only
 refine AE (Z (J E (Y E IW (V ?_))))
 refine AT h E (fun hc1 h=>?_) fun hc1 h=>?_
 refine AI (AG (AE (AN (AK ?_))))
 refine AC h fun c1 hc1 h=>?_
 obtain⟨x1,ex1,h⟩:=Bp h
 refine J E ?_
 refine Y E (JS (a:=256)) ?_
 refine J E (J E (Dr hc1 E Bo E E (Av E E (Th Cn CR) (Y E Ie ?_))))
 refine An (u:=Ar x1) E E (by rw[ex1]) ?_
 refine AU (Ao (AG (AK ?_)))
 obtain⟨i_2,ei_2,h⟩:=Bp h
 refine J E (Y E B5 ?_)
 refine An (u:=vI i_2) E E (by rw[ei_2]) ?_
 refine AU ?_
 exact Al (m1,x1,i_2) h (Nat.lt_succ_self _) tL (BG [] 0 E E E)
 refine Ax (A3 (BO (A0 ?_)))
 exact Au a2 h tL (BG [] 0 E E E)
 unfold Lu at h
 try dsimp only
 refine Z (J E (O E (V (AL ?_))))
 obtain rfl:=zI h
 exact Ab [] 0 E E E
def Mv(n:Nat)(p0:CB):Option (List UInt8):=
 (Dp n p0.page.toUInt64 4).bind fun y1=>
 (Dp n p0.gen.toUInt64 4).bind fun y2=>
 (FN y1 y2).bind fun s1=>
 (Dp n p0.boot.toUInt64 4).bind fun y3=>
 (FN s1 y3).bind fun s2=>
 (Dp n p0.seq 8).bind fun y4=>
 (FN s2 y4).bind fun s3=>
 (FN s3 [0,0,0,0]).bind fun s4=>
 some s4
theorem dw{n:Nat}{p0:CB}{r:List UInt8}(h:Mv n p0=some r): zC K w0 157 [.agg (Bu p0).toArray] [] H (fun u M=>u=vS r∧M=[]):=by
 unfold Mv at h
 refine Ua.enter Tryz.func157 rfl rfl ?_
 refine Z ?_
 refine Bf E E zU fun b1=>?_
 refine O E (V (AE ?_))
 refine AC h fun y1 hy1 h=>?_
 refine AC h fun y2 hy2 h=>?_
 refine AC h fun s1 hs1 h=>?_
 refine AC h fun y3 hy3 h=>?_
 refine AC h fun s2 hs2 h=>?_
 refine AC h fun y4 hy4 h=>?_
 refine AC h fun s3 hs3 h=>?_
 refine AC h fun s4 hs4 h=>?_
 refine Ai CY [0] (Bm [(true,0),(true,1),(true,2),(true,4),(true,5),(true,6),(true,9),(true,10),(true,11),(true,14),(true,15),(false,3),(false,7),(true,8),(false,12),(true,13),(false,16)] (.last 17 (Pl.of [(false,18),(false,19)]))) zK (AD E WD (AF 0 A8 E (Av E E (Cf Bv CR) (AD E PJ (AF 0 A8 E (Av E E (Cf Bv CR) (AD E Vm ?_)))))))
 refine AF 0 A8 E (Av E E (Cf Bv CR) (AD E Vl (AF 0 NM E (BS 0 TW (K0 hy1) E ⟨⟨0,E⟩,zT⟩ (BS 0 TW (K0 hy2) E ⟨⟨0,E⟩,zT⟩ (Y E (CW hs1) (BS 0 TW (K0 hy3) E ⟨⟨0,E⟩,zT⟩ ?_)))))))
 refine Y E (CW hs2) (BS 0 TW (K0 hy4) E ⟨⟨0,E⟩,zT⟩ (BK (Y E (CW hs3) (Y E (CW hs4) (O E (V (AL ?_)))))))
 obtain rfl:=zI h
 exact Ab [] 1 E E E
def LO(n:Nat)(p0:List UInt8):Option (CB×Bool):=
 (Nn (!decide ((p0.length:Int)=24)) ((Cr p0 20 (p0.length:Int)).bind fun s1=>some (!decide (s1=[0,0,0,0])))).bind fun y1=>
 cond y1
 (
  some ((⟨0,0,0,0⟩:CB),false))
 (
  (Cr p0 0 4).bind fun s2=>
  (F5 n s2).bind fun y2=>
  (Cr p0 4 8).bind fun s3=>
  (F5 n s3).bind fun y3=>
  (Cr p0 8 12).bind fun s4=>
  (F5 n s4).bind fun y4=>
  (Cr p0 12 20).bind fun s5=>
  (F5 n s5).bind fun y5=>
  some ((⟨y2.toUInt32,y3.toUInt32,y4.toUInt32,y5⟩:CB),true))
theorem Vt{n:Nat}{p0:List UInt8}{r:CB×Bool}(h:LO n p0=some r): zC K w0 208 [vS p0] [] H (fun u M=>u=.tuple #[.agg (Bu r.1).toArray,vB r.2]∧M=[]):=by
 unfold LO at h
 refine Ua.enter Tryz.func208 rfl rfl ?_
 refine Z ?_
 refine Ag E FM zU fun b1=>?_
 refine O E (V (AE (Z ?_)))
 refine AC h fun y1 hy1 h=>?_
 refine J E (BT E Bo E (Y E Bb (J E ?_)))
 refine KM 7 4 11 hy1 E (fun hb k=>?_) (fun hb hg1 k=>?_) ?_
 refine AB E (AB E (AB E (Ae E E E ?_)))
 exact k.mono tL
 obtain⟨s1,hs1,hg1⟩:=bnd hg1
 obtain rfl:=zI hg1
 refine J E (S5 hs1 E Bo E E (Y E I1 (Ae E E E ?_)))
 exact k.mono tL
 refine V ?_
 refine AT h E (fun hc1 h=>?_) fun hc1 h=>?_
 refine Z (BJ [] E LV LZ FM zT E (Ak 0 E E E E Eo E E E zT (O E (V (AL (AZ ?_))))))
 obtain rfl:=zI h
 exact AX (DV E (BB 0 (Bu (⟨0,0,0,0⟩:CB)) DE E E E E) E) (AY (M:=[]) ⟨E,E⟩ fun _ hw=>Bc.pick (H:=[_]) hw [] 1 E)
 refine AI (AG (AE ?_))
 refine AC h fun s2 hs2 h=>?_
 refine AC h fun y2 hy2 h=>?_
 refine AC h fun s3 hs3 h=>?_
 refine AC h fun y3 hy3 h=>?_
 refine AC h fun s4 hs4 h=>?_
 refine AC h fun y4 hy4 h=>?_
 refine AC h fun s5 hs5 h=>?_
 refine AC h fun y5 hy5 h=>?_
 refine Ai CY [] (Bm [(true,0),(true,1),(true,4),(true,5),(true,8),(true,9),(true,12),(true,13),(false,2),(true,3),(false,6),(true,7),(false,10),(true,11),(false,14),(true,15)] (.last 16 (Pl.of [(false,17)]))) zK (J E (PX hs2 E Bo E E (J E (It hs3 E Bo E E E (J E (It hs4 E Bo E E E (J E ?_)))))))
 refine It hs5 E Bo E E E (AQ 0 X7 (Of hy2) E (Av E E (Cg CR Bv) (AQ 0 X7 (Of hy3) E (Av E E (Cg CR Bv) (AQ 0 X7 (Of hy4) E (Av E E (Cg CR Bv) (AQ 0 X7 (Of hy5) E ?_)))))))
 refine BJ [_,_,_,_] E LV LZ FM ⟨E,E,E,E,zT⟩ E (BK (Ak 0 E E E E Eo E E E zT (O E (V (AL ?_)))))
 obtain rfl:=zI h
 exact AX (DV E (BB 0 (Bu (⟨y2.toUInt32,y3.toUInt32,y4.toUInt32,y5⟩:CB)) DE E E E E) E) (AY (M:=[]) ⟨E,E⟩ fun _ hw=>Bc.pick (H:=[_]) hw [] 1 E)
def I0(n:Nat)(p0:CB):Option (List UInt8):=
 (Dp n p0.boot.toUInt64 4).bind fun y1=>
 (Dp n p0.seq 8).bind fun y2=>
 (FN y1 y2).bind fun s1=>
 some s1
theorem SZ{n:Nat}{p0:CB}{r:List UInt8}(h:I0 n p0=some r): zC K w0 156 [.agg (Bu p0).toArray] [] H (fun u M=>u=vS r∧M=[]):=by
 unfold I0 at h
 refine Ua.enter Tryz.func156 rfl rfl ?_
 refine Z ?_
 refine Bf E E zU fun b1=>?_
 refine O E (V (AE ?_))
 refine AC h fun y1 hy1 h=>?_
 refine AC h fun y2 hy2 h=>?_
 refine AC h fun s1 hs1 h=>?_
 refine Ai CY [0] (Bm [(true,0),(true,1),(true,2),(true,4),(true,5),(false,3)] (.last 6 (Pl.of [(false,7),(false,8)]))) zK (AD E Vm (AF 0 A8 E (Av E E (Cf Bv CR) (AD E Vl (AF 0 NM E (BS 0 TW (K0 hy1) E ⟨⟨0,E⟩,zT⟩ (BK (AQ 0 TW (K0 hy2) E ?_))))))))
 refine Y E (CW hs1) (O E (V (AL ?_)))
 obtain rfl:=zI h
 exact Ab [] 1 E E E
def Kk(n:Nat)(T:List UInt32)(p0:BW)(p1:CB)(p2:List UInt8):Option (List UInt8):=
 (Ic n T p0).bind fun y1=>
 (I0 n p1).bind fun y2=>
 (Kz n y1.1 y2 p2).bind fun y3=>
 (Mv n p1).bind fun y4=>
 (FN y4 y3.1).bind fun s1=>
 some s1
theorem aA{n:Nat}{T:List UInt32}{p0:BW}{p1:CB}{p2 r:List UInt8}(h:Kk n T p0 p1 p2=some r)(hT:JJ K w0 2 64 T):zC K w0 115 [.agg (BA p0).toArray,.agg (Bu p1).toArray,vS p2] [] H (fun u M=>u=vS r∧M=[]):=by
 unfold Kk at h
 refine Ua.enter Tryz.func115 rfl rfl ?_
 refine Z ?_
 refine Bf E E zU fun b1=>?_
 refine Bf E E zU fun b2=>?_
 refine O E (V (Z ?_))
 refine AC h fun y1 hy1 h=>?_
 refine Ac [AA p0.gen,vS p0.secret] E KB E E (Aa 1 E) (AQ 0 dH (QJ hy1 hT) E (J E (Am E E E (Am E E E (Am E E E (O E (O E ?_)))))))
 refine O E (V (Z ?_))
 refine AC h fun y2 hy2 h=>?_
 refine AC h fun y3 hy3 h=>?_
 refine J E (Ac [AA p1.page,AA p1.gen,AA p1.boot,Ar p1.seq] E DE E E (Aa 0 E) (AQ 0 km (SZ hy2) E (J E (AQ 0 kR (VV hy3) E (J E (Am E E E (Am E E E ?_)))))))
 refine O E (O E (V (Z ?_)))
 refine AC h fun y4 hy4 h=>?_
 refine AC h fun s1 hs1 h=>?_
 refine Ac [AA p1.page,AA p1.gen,AA p1.boot,Ar p1.seq] E DE E E (Aa 0 E) (AQ 0 se (dw hy4) E (J E (Y E (CW hs1) (O E (V (AL ?_))))))
 obtain rfl:=zI h
 exact Ab [] 2 E E E
def Lh(n:Nat)(T:List UInt32)(p0:List BW)(p1:CB)(p2:List UInt8):Option (List UInt8×Int):=
 (Ii n p0 p1.gen).bind fun y1=>
 cond (!decide (y1.2=0))
 (
  some ([],y1.2))
 (
  (Mk n p2).bind fun y2=>
  cond (!decide (y2.2=0))
  (
   some ([],y2.2))
  (
   (Kk n T y1.1 p1 y2.1).bind fun y3=>
   (Ic n T y1.1).bind fun y4=>
   (IZ n T y4.2.1 y3).bind fun y5=>
   (FN y3 y5).bind fun s1=>
   some (s1,0)))
theorem aj{n:Nat}{T:List UInt32}{B6:Value}{p0:List BW}{p1:CB}{p2:List UInt8}{r:List UInt8×Int}(h:Lh n T p0 p1 p2=some r)(hT:JJ K w0 2 64 T)(hs0_:CD K w0 BA 2 B6 p0):zC K w0 79 [B6,.agg (Bu p1).toArray,vS p2] [] H (fun u M=>u=.tuple #[vS r.1,vI r.2]∧M=[]):=by
 unfold Lh at h
 refine Ua.enter Tryz.func79 rfl rfl ?_
 refine Z ?_
 refine Bf E E zU fun b1=>?_
 refine O E (O E (V (Z ?_)))
 refine AC h fun y1 hy1 h=>?_
 refine J E (AD E PJ (AF 0 A8 E (AQ 0 jn (P8 hy1 hs0_) E (J E (Am E E E (Am E E E ?_))))))
 refine Ag E Jd zU fun b2=>?_
 refine Ak 0 E E E E Fl E E E zT (O E (V (AE (Z (J E (Y E Bb (V ?_)))))))
 refine AT h E (fun hc1 h=>?_) fun hc1 h=>?_
 refine Z (J E (O E (O E (V (AL (AZ ?_))))))
 obtain rfl:=zI h
 exact Ab [] 2 E E E
 refine AI (AG (Z ?_))
 refine AC h fun y2 hy2 h=>?_
 refine J E (AQ 0 rZ (eo hy2) E (J E (Am E E E (Am E E E (O E (O E (V (AE (Z (J E ?_))))))))))
 refine Y E Bb (V ?_)
 refine AT h E (fun hc2 h=>?_) fun hc2 h=>?_
 refine Z (J E (O E (O E (V (AL (AZ ?_))))))
 obtain rfl:=zI h
 exact Ab [] 2 E E E
 refine AI (AG (Z ?_))
 refine AC h fun y3 hy3 h=>?_
 refine Ac [AA y1.1.gen,vS y1.1.secret] E KB E E (Aa 0 E) (Ac [AA p1.page,AA p1.gen,AA p1.boot,Ar p1.seq] E DE E E (Aa 1 E) (J E (AQ 0 sZ (aA hy3 hT) E (O E (V (Z ?_))))))
 refine AC h fun y4 hy4 h=>?_
 refine Ac [AA y1.1.gen,vS y1.1.secret] E KB E E (Aa 0 E) (AQ 0 dH (QJ hy4 hT) E (J E (Am E E E (Am E E E (Am E E E (O E (O E ?_)))))))
 refine O E (V (Z ?_))
 refine AC h fun y5 hy5 h=>?_
 refine AC h fun s1 hs1 h=>?_
 refine J E (J E (J E (AQ 0 dT (Rw hy5 hT) E (Y E (CW hs1) (O E (O E (V (AL ?_))))))))
 obtain rfl:=zI h
 exact Ab [] 2 E E E
def La(n:Nat)(T:List UInt32)(p0:List BW)(p1:List UInt8):Option (CB×List UInt8×Int):=
 (HQ n p0).bind fun y1=>
 cond (!y1)
 (
  some ((⟨0,0,0,0⟩:CB),[],40))
 (
  cond (!decide ((p1.length:Int)=256))
  (
   some ((⟨0,0,0,0⟩:CB),[],61))
  (
   (Cr p1 0 24).bind fun s1=>
   (LO n s1).bind fun y2=>
   cond (!y2.2)
   (
    some ((⟨0,0,0,0⟩:CB),[],61))
   (
    (Ii n p0 y2.1.gen).bind fun y3=>
    cond (!decide (y3.2=0))
    (
     some ((⟨0,0,0,0⟩:CB),[],y3.2))
    (
     (Ic n T y3.1).bind fun y4=>
     (Cr p1 0 224).bind fun s2=>
     (IZ n T y4.2.1 s2).bind fun y5=>
     (Cr p1 224 (p1.length:Int)).bind fun s3=>
     cond (!decide (y5=s3))
     (
      some ((⟨0,0,0,0⟩:CB),[],61))
     (
      (I0 n y2.1).bind fun y6=>
      (Cr p1 24 224).bind fun s4=>
      (Kz n y4.1 y6 s4).bind fun y7=>
      (Ks n y7.1).bind fun y8=>
      cond (!decide (y8.2=0))
      (
       some ((⟨0,0,0,0⟩:CB),[],61))
      (
       some (y2.1,y8.1,0)))))))
theorem aP{n:Nat}{T:List UInt32}{B6:Value}{p0:List BW}{p1:List UInt8}{r:CB×List UInt8×Int}(h:La n T p0 p1=some r)(hT:JJ K w0 2 64 T)(hs0_:CD K w0 BA 2 B6 p0):zC K w0 209 [B6,vS p1] [] H (fun u M=>u=.tuple #[.agg (Bu r.1).toArray,vS r.2.1,vI r.2.2]∧M=[]):=by
 unfold La at h
 refine Ua.enter Tryz.func209 rfl rfl ?_
 refine Z ?_
 refine Ag E FM zU fun b1=>?_
 refine O E (O E (V (Z ?_)))
 refine AC h fun y1 hy1 h=>?_
 refine J E (AQ 0 dX (Pd hy1 hs0_) E (O E (V (AE (Z (J E (CH E E (V ?_))))))))
 refine AT h E (fun hc1 h=>?_) fun hc1 h=>?_
 refine Z (BJ [] E LV LZ FM zT E (Ak 0 E E E E Eo E E E zT (O E (O E (V (AL (AZ ?_)))))))
 obtain rfl:=zI h
 exact AX (Iy E (BB 0 (Bu (⟨0,0,0,0⟩:CB)) DE E E E E) E E) (AY (M:=[]) ⟨E,E⟩ fun _ hw=>Bc.pick (H:=[_]) hw [] 1 E)
 refine AI (AG (AE (Z (J E (BT E Bo E (Y E Bb (V ?_)))))))
 refine AT h E (fun hc2 h=>?_) fun hc2 h=>?_
 refine Z (BJ [] E LV LZ FM zT E (Ak 0 E E E E Eo E E E zT (O E (O E (V (AL (AZ ?_)))))))
 obtain rfl:=zI h
 exact AX (Iy E (BB 0 (Bu (⟨0,0,0,0⟩:CB)) DE E E E E) E E) (AY (M:=[]) ⟨E,E⟩ fun _ hw=>Bc.pick (H:=[_]) hw [] 1 E)
 refine AI (AG (Z ?_))
 refine AC h fun s1 hs1 h=>?_
 refine AC h fun y2 hy2 h=>?_
 refine J E (PX hs1 E Bo E E (AQ 0 kx (Vt hy2) E (J E (Am E E E (Am E E E ?_)))))
 refine Ag E FM zU fun b2=>?_
 refine Ak 0 E E E E Eo E E E zT (O E (V (AE (Z (J E (CH E E (V ?_)))))))
 refine AT h E (fun hc3 h=>?_) fun hc3 h=>?_
 refine Z (BJ [] E LV LZ FM zT E (Ak 1 E E E E Eo E E E zT (O E (O E (V (AL (AZ ?_)))))))
 obtain rfl:=zI h
 exact AX (Iy E (BB 1 (Bu (⟨0,0,0,0⟩:CB)) DE E E E E) E E) (AY (M:=[]) ⟨E,E⟩ fun _ hw=>Bc.pick (H:=[_,_]) hw [] 2 E)
 refine AI (AG (Z ?_))
 refine AC h fun y3 hy3 h=>?_
 refine J E (AD E PJ (AF 0 A8 E (AQ 0 jn (P8 hy3 hs0_) E (J E (Am E E E (Am E E E ?_))))))
 refine Ag E Jd zU fun b3=>?_
 refine Ak 0 E E E E Fl E E E zT (O E (V (AE (Z (J E (Y E Bb (V ?_)))))))
 refine AT h E (fun hc4 h=>?_) fun hc4 h=>?_
 refine Z (BJ [] E LV LZ FM zT E (J E (Ak 2 E E E E Eo E E E zT (O E (O E (V (AL (AZ ?_))))))))
 obtain rfl:=zI h
 exact AX (Iy E (BB 2 (Bu (⟨0,0,0,0⟩:CB)) DE E E E E) E E) (AY (M:=[]) ⟨E,E⟩ fun _ hw=>Bc.pick (H:=[_,_,_]) hw [] 3 E)
 refine AI (AG (Z ?_))
 refine AC h fun y4 hy4 h=>?_
 refine Ac [AA y3.1.gen,vS y3.1.secret] E KB E E (Aa 0 E) (AQ 0 dH (QJ hy4 hT) E (J E (Am E E E (Am E E E (Am E E E (O E (O E ?_)))))))
 refine O E (V (AE (AE ?_)))
 refine AC h fun s2 hs2 h=>?_
 refine AC h fun y5 hy5 h=>?_
 refine AC h fun s3 hs3 h=>?_
 refine Ai CY [] (Bm [(true,0),(true,1),(true,2),(true,4),(true,5),(false,3)] (.last 6 .nil)) zK (J E (J E (PX hs2 E Bo E E (J E (S5 hs3 E Bo E E (AQ 0 dT (Rw hy5 hT) E (BK (Y E I1 (V ?_)))))))))
 refine AT h E (fun hc5 h=>?_) fun hc5 h=>?_
 refine Z (BJ [] E LV LZ FM zT E (Ak 2 E E E E Eo E E E zT (O E (O E (V (AL (AZ ?_)))))))
 obtain rfl:=zI h
 exact AX (Iy E (BB 2 (Bu (⟨0,0,0,0⟩:CB)) DE E E E E) E E) (AY (M:=[]) ⟨E,E⟩ fun _ hw=>Bc.pick (H:=[_,_,_]) hw [] 3 E)
 refine AI (AG (AE ?_))
 refine AC h fun y6 hy6 h=>?_
 refine AC h fun s4 hs4 h=>?_
 refine AC h fun y7 hy7 h=>?_
 refine Ai CY [1] (Bm [(true,0),(true,1),(true,3),(true,4),(false,2),(false,5),(false,6),(true,7),(true,8),(false,9)] (.last 10 .nil)) zK (J E (Ac [AA y2.1.page,AA y2.1.gen,AA y2.1.boot,Ar y2.1.seq] E DE E E (Aa 0 E) (J E (It hs4 E Bo E E E (BS 0 km (SZ hy6) E ⟨⟨1,E⟩,zT⟩ (BS 0 kR (VV hy7) E ⟨⟨1,E⟩,zT⟩ (J E ?_)))))))
 refine Am E E E (Am E E E (O E (BK (O E (V (Z ?_))))))
 refine AC h fun y8 hy8 h=>?_
 refine J E (AQ 0 qz (Zh hy8) E (J E (Am E E E (Am E E E (O E (O E (V (AE (Z (J E ?_))))))))))
 refine Y E Bb (V ?_)
 refine AT h E (fun hc6 h=>?_) fun hc6 h=>?_
 refine Z (BJ [] E LV LZ FM zT E (Ak 2 E E E E Eo E E E zT (O E (O E (V (AL (AZ ?_)))))))
 obtain rfl:=zI h
 exact AX (Iy E (BB 2 (Bu (⟨0,0,0,0⟩:CB)) DE E E E E) E E) (AY (M:=[]) ⟨E,E⟩ fun _ hw=>Bc.pick (H:=[_,_,_]) hw [] 3 E)
 refine AI (AG (Z (Ac [AA y2.1.page,AA y2.1.gen,AA y2.1.boot,Ar y2.1.seq] E DE E E (Aa 1 E) (J E (Ak 2 E E E E Eo E E E zT (O E (O E (V (AL ?_)))))))))
 obtain rfl:=zI h
 exact AX (Iy E (BB 2 (Bu y2.1) DE E E E E) E E) (AY (M:=[]) ⟨E,E⟩ fun _ hw=>Bc.pick (H:=[_,_,_]) hw [] 3 E)
end

section
variable {K:Nat→Prop}{w0:World}{H:List AW}
def EA(p0:BI)(p1:UInt32):Option Bool:=
 ret (decide (p1.toUInt64<BX (p0.blk.length:Int))) fun x1=>
 some x1
theorem JP{BD:Nat}{DB Ap CJ:Value}{p0:BI}{p1:UInt32}{r:Bool}(h:EA p0 p1=some r): zC K w0 68 [vP BD 0,AA p1] [AP BD (.cells #[DB,Ap,CJ,Ar p0.rcnt,vS p0.rtag,AA p0.rboots,vI p0.left,vB p0.off] 132),AH 9 1 DB eS p0.blk,AH 9 1 Ap eS p0.pnd,AH 4 1 CJ eB p0.bads] H (fun u M=>u=vB r∧M=[AP BD (.cells #[DB,Ap,CJ,Ar p0.rcnt,vS p0.rtag,AA p0.rboots,vI p0.left,vB p0.off] 132),AH 9 1 DB eS p0.blk,AH 9 1 Ap eS p0.pnd,AH 4 1 CJ eB p0.bads]):=by
 unfold EA at h
 refine Ua.enter Tryz.func68 rfl rfl ?_
 refine Z (O E (V (Z ?_)))
 obtain⟨x1,ex1,h⟩:=Bp h
 refine J E (Av E E (Cf Bv CR) (J E (AV E E (AD E Qu (AF 0 PH E (Dg 1 E Fk E E (Av E E (De FY CR) ?_)))))))
 refine Y E TU ?_
 refine An (u:=vB x1) E E (congrArg vB ex1) ?_
 refine V (AL ?_)
 obtain rfl:=zI h
 exact Ab [0,1,2,3] 4 E E E
def Ft(o2:BI):Option (Int×BI):=
 some (0,o2)
def Fs(o1:BI):Option (Int×BI):=
 cond o1.off
 (
  some (71,o1))
 (
  cond (decide (0<o1.left))
  (
   Ft ({ o1 with left:=wI (o1.left-1) }))
  (
   Ft o1))
def HR(p0:BI):Option (Int×BI):=
 cond (decide (p0.left=0))
 (
  Fs ({ p0 with off:=true }))
 (
  Fs p0)
theorem Uq{BD:Nat}{DB Ap CJ:Value}{p0:BI}{r:Int×BI}(h:HR p0=some r): zC K w0 118 [vP BD 0] [AP BD (.cells #[DB,Ap,CJ,Ar p0.rcnt,vS p0.rtag,AA p0.rboots,vI p0.left,vB p0.off] 132),AH 9 1 DB eS p0.blk,AH 9 1 Ap eS p0.pnd,AH 4 1 CJ eB p0.bads] H (fun u M=>u=vI r.1∧M=[AP BD (.cells #[DB,Ap,CJ,Ar r.2.rcnt,vS r.2.rtag,AA r.2.rboots,vI r.2.left,vB r.2.off] 132),AH 9 1 DB eS r.2.blk,AH 9 1 Ap eS r.2.pnd,AH 4 1 CJ eB r.2.bads]):=by
 unfold HR at h
 refine Ua.enter Tryz.func118 rfl rfl ?_
 refine Z (O E (V ?_))
 refine A5 (α:=BI) (fun x=>Fs x=some r) (fun x=>[(0,vP BD 0)]) (fun x=>AP BD (.cells #[DB,Ap,CJ,Ar x.rcnt,vS x.rtag,AA x.rboots,vI x.left,vB x.off] 132)::AH 9 1 DB eS x.blk::AH 9 1 Ap eS x.pnd::AH 4 1 CJ eB x.bads::H) ?_ (fun o1 D h=>?_)
 refine Z (J E (AV E E (AD E Vf (AF 0 D6 E (Y E CE (V ?_))))))
 refine AT h E (fun hc1 h=>?_) fun hc1 h=>?_
 refine AK (J E (AV E E (AD E Zu (Ak 0 E E E E P7 E E E zT (AU ?_)))))
 exact Au ({ p0 with off:=true }) h tL (BG [0,1,2,3] 4 rfl rfl rfl)
 refine AI ?_
 exact Au p0 h tL (BG [0,1,2,3] 4 E E E)
 unfold Fs at h
 try dsimp only
 refine AE (Z (J E (AV E E (AD E Zu (AF 0 Wi E (V ?_))))))
 refine AT h E (fun hc2 h=>?_) fun hc2 h=>?_
 refine Z (O E (V (AL (AZ ?_))))
 obtain rfl:=zI h
 exact Ab [0,1,2,3] 4 E E E
 refine AI (AG ?_)
 refine A5 (α:=BI) (fun x=>Ft x=some r) (fun x=>[(0,vP BD 0)]) (fun x=>AP BD (.cells #[DB,Ap,CJ,Ar x.rcnt,vS x.rtag,AA x.rboots,vI x.left,vB x.off] 132)::AH 9 1 DB eS x.blk::AH 9 1 Ap eS x.pnd::AH 4 1 CJ eB x.bads::H) ?_ (fun o2 D h=>?_)
 refine Z (J E (AV E E (AD E Vf (AF 0 D6 E (Y E Ca (V ?_))))))
 refine AT h E (fun hc3 h=>?_) fun hc3 h=>?_
 refine AK (J E (AV E E (AD E Vf (AF 0 D6 E (Y E B5 (AV E E (AD E Vf (Ak 0 E E E E NK E E E zT (AU ?_)))))))))
 exact Au ({ o1 with left:=wI (o1.left-1) }) h tL (BG [0,1,2,3] 4 rfl rfl rfl)
 refine AI ?_
 exact Au o1 h tL (BG [0,1,2,3] 4 E E E)
 unfold Ft at h
 try dsimp only
 refine Z (O E (V (AL ?_)))
 obtain rfl:=zI h
 exact Ab [0,1,2,3] 4 E E E
def Ei(p0:BI)(p1:UInt32):Option (List UInt8):=
 (Aq p0.pnd (p1.toNat:Int)).bind fun x1=>
 cond (!decide (x1=[]))
 (
  (Aq p0.pnd (p1.toNat:Int)).bind fun x2=>
  some x2)
 (
  (Aq p0.blk (p1.toNat:Int)).bind fun x3=>
  some x3)
theorem NL{BD:Nat}{DB Ap CJ:Value}{p0:BI}{p1:UInt32}{r:List UInt8}(h:Ei p0 p1=some r): zC K w0 34 [vP BD 0,AA p1] [AP BD (.cells #[DB,Ap,CJ,Ar p0.rcnt,vS p0.rtag,AA p0.rboots,vI p0.left,vB p0.off] 132),AH 9 1 DB eS p0.blk,AH 9 1 Ap eS p0.pnd,AH 4 1 CJ eB p0.bads] H (fun u M=>u=vS r∧M=[AP BD (.cells #[DB,Ap,CJ,Ar p0.rcnt,vS p0.rtag,AA p0.rboots,vI p0.left,vB p0.off] 132),AH 9 1 DB eS p0.blk,AH 9 1 Ap eS p0.pnd,AH 4 1 CJ eB p0.bads]):=by
 unfold Ei at h
 refine Ua.enter Tryz.func34 rfl rfl ?_
 refine Z (O E (V (AE (Z ?_))))
 refine AC h fun x1 hx1 h=>?_
 refine J E (AV E E (AD E Qw (AF 0 PH E (J E ?_))))
 refine BR 2 hx1 E Fk Hp E E E fun g1 m1 cp1 hv1=>?_
 refine Bi E Fm E (Br (sz:=1) (enc:=eS) 2 0 zV E hv1 hx1 E) ?_
 refine Y E I1 (V ?_)
 refine AT h E (fun hc1 h=>?_) fun hc1 h=>?_
 refine Z ?_
 refine AC h fun x2 hx2 h=>?_
 refine J E (AV E E (AD E Qw (AF 0 PH E (J E ?_))))
 refine BR 2 hx2 E Fk Hp E E E fun g2 m2 cp2 hv2=>?_
 refine Bi E Fm E (Br (sz:=1) (enc:=eS) 2 0 zV E hv2 hx2 E) ?_
 refine O E (V (AL (AZ ?_)))
 obtain rfl:=zI h
 exact Ab [0,1,2,3] 4 E E E
 refine AI (AG (Z ?_))
 refine AC h fun x3 hx3 h=>?_
 refine J E (AV E E (AD E Qu (AF 0 PH E (J E ?_))))
 refine BR 1 hx3 E Fk Hp E E E fun g3 m3 cp3 hv3=>?_
 refine Bi E Fm E (Br (sz:=1) (enc:=eS) 1 0 zV E hv3 hx3 E) ?_
 refine O E (V (AL ?_))
 obtain rfl:=zI h
 exact Ab [0,1,2,3] 4 E E E
def GA(y2:Int×BI)(o1:BI):Option (Int×BI):=
 some (y2.1,o1)
def DZ(p0:BI)(p1:UInt32)(p2:List UInt8):Option (Int×BI):=
 (EA p0 p1).bind fun y1=>
 cond ((!y1)||(!decide ((p2.length:Int)=256)))
 (
  some (2,p0))
 (
  (HR p0).bind fun y2=>
  cond (decide (y2.1=0))
  (
   (Aq y2.2.pnd (p1.toNat:Int)).bind fun x1=>
   (FR y2.2.pnd (p1.toNat:Int) p2).bind fun l1=>
   GA y2 ({ y2.2 with pnd:=l1 }))
  (
   GA y2 y2.2))
theorem SG{BD:Nat}{DB Ap CJ:Value}{p0:BI}{p1:UInt32}{p2:List UInt8}{r:Int×BI}(h:DZ p0 p1 p2=some r): zC K w0 80 [vP BD 0,AA p1,vS p2] [AP BD (.cells #[DB,Ap,CJ,Ar p0.rcnt,vS p0.rtag,AA p0.rboots,vI p0.left,vB p0.off] 132),AH 9 1 DB eS p0.blk,AH 9 1 Ap eS p0.pnd,AH 4 1 CJ eB p0.bads] H (fun u M=>u=vI r.1∧M=[AP BD (.cells #[DB,Ap,CJ,Ar r.2.rcnt,vS r.2.rtag,AA r.2.rboots,vI r.2.left,vB r.2.off] 132),AH 9 1 DB eS r.2.blk,AH 9 1 Ap eS r.2.pnd,AH 4 1 CJ eB r.2.bads]):=by
 unfold DZ at h
 refine Ua.enter Tryz.func80 rfl rfl ?_
 refine Z (O E (V (AE (Z ?_))))
 refine AC h fun y1 hy1 h=>?_
 refine J E (J E (AQ 4 ck (JP hy1) E (CH E E (J E ?_))))
 refine C9 (c := !decide ((p2.length:Int)=256)) 12 4 16 E (fun hb k=>?_) (fun hb k=>?_) ?_
 refine AB E (AB E (AB E (Ae E E E ?_)))
 exact k.mono tL
 refine J E (BT E Bo E (Y E Bb (Ae E E E ?_)))
 exact k.mono tL
 refine V ?_
 refine AT h E (fun hc1 h=>?_) fun hc1 h=>?_
 refine Z (O E (V (AL (AZ ?_))))
 obtain rfl:=zI h
 exact Ab [0,1,2,3] 4 E E E
 refine AI (AG (Z ?_))
 refine AC h fun y2 hy2 h=>?_
 refine J E (AQ 4 sj (Uq hy2) E (O E (V ?_)))
 refine A5 (α:=BI) (fun x=>GA y2 x=some r) (fun x=>[(0,vP BD 0),(7,vI y2.1)]) (fun x=>AP BD (.cells #[DB,Ap,CJ,Ar x.rcnt,vS x.rtag,AA x.rboots,vI x.left,vB x.off] 132)::AH 9 1 DB eS x.blk::AH 9 1 Ap eS x.pnd::AH 4 1 CJ eB x.bads::H) ?_ (fun o1 D h=>?_)
 refine Z (J E (Y E CE (V ?_)))
 refine AT h E (fun hc2 h=>?_) fun hc2 h=>?_
 refine AK ?_
 refine AC h fun x1 hx1 h=>?_
 refine AC h fun l1 hl1 h=>?_
 refine J E (AV E E (AD E Qw (AF 0 PH E (J E (J E ?_)))))
 refine BR 2 hx1 E Fk Hp E E E fun g1 m1 cp1 hv1=>?_
 refine Cz (sz:=1) (enc:=eS) 2 hl1 zV rfl rfl rfl rfl rfl hv1 Hp (by first | (simp[Value.oneCell'];done) | simp[eS,Value.oneCell']) trivial ?_
 refine AU ?_
 exact Au ({ y2.2 with pnd:=l1 }) h tL (BG [0,1,2,3] 4 rfl rfl rfl)
 refine AI ?_
 exact Au y2.2 h tL (BG [0,1,2,3] 4 E E E)
 unfold GA at h
 try dsimp only
 refine Z (J E (O E (V (AL ?_))))
 obtain rfl:=zI h
 exact Ab [0,1,2,3] 4 E E E
def EH(p0:BI)(p1:UInt32):Option (List UInt8×Int):=
 (EA p0 p1).bind fun y1=>
 cond (!y1)
 (
  some ([],2))
 (
  cond p0.off
  (
   some ([],71))
  (
   (Aq p0.bads (p1.toNat:Int)).bind fun x1=>
   cond x1
   (
    some ([],70))
   (
    (Ei p0 p1).bind fun y2=>
    some (y2,0))))
theorem SS{BD:Nat}{DB Ap CJ:Value}{p0:BI}{p1:UInt32}{r:List UInt8×Int}(h:EH p0 p1=some r): zC K w0 207 [vP BD 0,AA p1] [AP BD (.cells #[DB,Ap,CJ,Ar p0.rcnt,vS p0.rtag,AA p0.rboots,vI p0.left,vB p0.off] 132),AH 9 1 DB eS p0.blk,AH 9 1 Ap eS p0.pnd,AH 4 1 CJ eB p0.bads] H (fun u M=>u=.tuple #[vS r.1,vI r.2]∧M=[AP BD (.cells #[DB,Ap,CJ,Ar p0.rcnt,vS p0.rtag,AA p0.rboots,vI p0.left,vB p0.off] 132),AH 9 1 DB eS p0.blk,AH 9 1 Ap eS p0.pnd,AH 4 1 CJ eB p0.bads]):=by
 unfold EH at h
 refine Ua.enter Tryz.func207 rfl rfl ?_
 refine Z (O E (O E (V (AE (Z ?_)))))
 refine AC h fun y1 hy1 h=>?_
 refine J E (J E (AQ 4 ck (JP hy1) E (CH E E (V ?_))))
 refine AT h E (fun hc1 h=>?_) fun hc1 h=>?_
 refine Z (O E (O E (V (AL (AZ ?_)))))
 obtain rfl:=zI h
 exact Ab [0,1,2,3] 4 E E E
 refine AI (AG (AE (Z (J E (AV E E (AD E Zu (AF 0 Wi E (V ?_))))))))
 refine AT h E (fun hc2 h=>?_) fun hc2 h=>?_
 refine Z (O E (O E (V (AL (AZ ?_)))))
 obtain rfl:=zI h
 exact Ab [0,1,2,3] 4 E E E
 refine AI (AG (AE (Z ?_)))
 refine AC h fun x1 hx1 h=>?_
 refine J E (AV E E (AD E Vv (AF 0 Sl E (J E ?_))))
 refine BR 3 hx1 E Qh P7 E E E fun g1 m1 cp1 hv1=>?_
 refine Bi E Wi E (Br (sz:=1) (enc:=eB) 3 0 zV E hv1 hx1 E) ?_
 refine V ?_
 refine AT h E (fun hc3 h=>?_) fun hc3 h=>?_
 refine Z (O E (O E (V (AL (AZ ?_)))))
 obtain rfl:=zI h
 exact Ab [0,1,2,3] 4 E E E
 refine AI (AG (Z ?_))
 refine AC h fun y2 hy2 h=>?_
 refine J E (J E (AQ 4 pz (NL hy2) E (O E (O E (V (AL ?_))))))
 obtain rfl:=zI h
 exact Ab [0,1,2,3] 4 E E E
def EZ(p0:BI)(p1:UInt32)(p2:Bool):Option (Int×BI):=
 (EA p0 p1).bind fun y1=>
 cond (!y1)
 (
  some (2,p0))
 (
  (Aq p0.bads (p1.toNat:Int)).bind fun x1=>
  (FR p0.bads (p1.toNat:Int) p2).bind fun l1=>
  some (0,{ p0 with bads:=l1 }))
theorem T6{BD:Nat}{DB Ap CJ:Value}{p0:BI}{p1:UInt32}{p2:Bool}{r:Int×BI}(h:EZ p0 p1 p2=some r): zC K w0 36 [vP BD 0,AA p1,vB p2] [AP BD (.cells #[DB,Ap,CJ,Ar p0.rcnt,vS p0.rtag,AA p0.rboots,vI p0.left,vB p0.off] 132),AH 9 1 DB eS p0.blk,AH 9 1 Ap eS p0.pnd,AH 4 1 CJ eB p0.bads] H (fun u M=>u=vI r.1∧M=[AP BD (.cells #[DB,Ap,CJ,Ar r.2.rcnt,vS r.2.rtag,AA r.2.rboots,vI r.2.left,vB r.2.off] 132),AH 9 1 DB eS r.2.blk,AH 9 1 Ap eS r.2.pnd,AH 4 1 CJ eB r.2.bads]):=by
 unfold EZ at h
 refine Ua.enter Tryz.func36 rfl rfl ?_
 refine Z (O E (V (AE (Z ?_))))
 refine AC h fun y1 hy1 h=>?_
 refine J E (J E (AQ 4 ck (JP hy1) E (CH E E (V ?_))))
 refine AT h E (fun hc1 h=>?_) fun hc1 h=>?_
 refine Z (O E (V (AL (AZ ?_))))
 obtain rfl:=zI h
 exact Ab [0,1,2,3] 4 E E E
 refine AI (AG (Z ?_))
 refine AC h fun x1 hx1 h=>?_
 refine AC h fun l1 hl1 h=>?_
 refine J E (AV E E (AD E Vv (AF 0 Sl E (J E (J E ?_)))))
 refine BR 3 hx1 E Qh P7 E E E fun g1 m1 cp1 hv1=>?_
 refine Cz (sz:=1) (enc:=eB) 3 hl1 zV rfl rfl rfl rfl rfl hv1 P7 (by first | (simp[Value.oneCell'];done) | simp[eB,Value.oneCell']) trivial ?_
 refine V (Z (O E (V (AL ?_))))
 obtain rfl:=zI h
 exact Ab [0,1,2,3] 4 E E E
def Dz(p0:BI)(p1:UInt32)(p2:List UInt8):Option (Int×BI):=
 (EA p0 p1).bind fun y1=>
 cond ((!y1)||(!decide ((p2.length:Int)=256)))
 (
  some (2,p0))
 (
  (Aq p0.blk (p1.toNat:Int)).bind fun x1=>
  (FR p0.blk (p1.toNat:Int) p2).bind fun l1=>
  (Aq p0.pnd (p1.toNat:Int)).bind fun x2=>
  (FR p0.pnd (p1.toNat:Int) []).bind fun l2=>
  some (0,{ p0 with blk:=l1,pnd:=l2 }))
theorem Ob{BD:Nat}{DB Ap CJ:Value}{p0:BI}{p1:UInt32}{p2:List UInt8}{r:Int×BI}(h:Dz p0 p1 p2=some r): zC K w0 38 [vP BD 0,AA p1,vS p2] [AP BD (.cells #[DB,Ap,CJ,Ar p0.rcnt,vS p0.rtag,AA p0.rboots,vI p0.left,vB p0.off] 132),AH 9 1 DB eS p0.blk,AH 9 1 Ap eS p0.pnd,AH 4 1 CJ eB p0.bads] H (fun u M=>u=vI r.1∧M=[AP BD (.cells #[DB,Ap,CJ,Ar r.2.rcnt,vS r.2.rtag,AA r.2.rboots,vI r.2.left,vB r.2.off] 132),AH 9 1 DB eS r.2.blk,AH 9 1 Ap eS r.2.pnd,AH 4 1 CJ eB r.2.bads]):=by
 unfold Dz at h
 refine Ua.enter Tryz.func38 rfl rfl ?_
 refine Z (O E (V (AE (Z ?_))))
 refine AC h fun y1 hy1 h=>?_
 refine J E (J E (AQ 4 ck (JP hy1) E (CH E E (J E ?_))))
 refine C9 (c := !decide ((p2.length:Int)=256)) 11 4 15 E (fun hb k=>?_) (fun hb k=>?_) ?_
 refine AB E (AB E (AB E (Ae E E E ?_)))
 exact k.mono tL
 refine J E (BT E Bo E (Y E Bb (Ae E E E ?_)))
 exact k.mono tL
 refine V ?_
 refine AT h E (fun hc1 h=>?_) fun hc1 h=>?_
 refine Z (O E (V (AL (AZ ?_))))
 obtain rfl:=zI h
 exact Ab [0,1,2,3] 4 E E E
 refine AI (AG (Z ?_))
 refine AC h fun x1 hx1 h=>?_
 refine AC h fun l1 hl1 h=>?_
 refine J E (AV E E (AD E Qu (AF 0 PH E (J E (J E ?_)))))
 refine BR 1 hx1 E Fk Hp E E E fun g1 m1 cp1 hv1=>?_
 refine Cz (sz:=1) (enc:=eS) 1 hl1 zV rfl rfl rfl rfl rfl hv1 Hp (by first | (simp[Value.oneCell'];done) | simp[eS,Value.oneCell']) trivial ?_
 refine V (Z ?_)
 refine AC h fun x2 hx2 h=>?_
 refine AC h fun l2 hl2 h=>?_
 refine J E (AV E E (AD E Qw (AF 0 PH E (J E ?_))))
 refine BR 2 hx2 E Fk Hp E E E fun g2 m2 cp2 hv2=>?_
 refine Cz (sz:=1) (enc:=eS) 2 hl2 zV rfl rfl rfl rfl rfl hv2 Hp (by first | (simp[Value.oneCell'];done) | simp[eS,Value.oneCell']) trivial ?_
 refine V (Z (O E (V (AL ?_))))
 obtain rfl:=zI h
 exact Ab [0,1,2,3] 4 E E E
def H3(p0:List UInt8):Option (List UInt8):=
 (Cr p0 0 (min (p0.length:Int) 256)).bind fun s1=>
 (Dd (wI (256-(s1.length:Int)))).bind fun y1=>
 (FN s1 y1).bind fun s2=>
 some s2
theorem R5{p0 r:List UInt8}(h:H3 p0=some r): zC K w0 39 [vS p0] [] H (fun u M=>u=vS r∧M=[]):=by
 unfold H3 at h
 refine Ua.enter Tryz.func39 rfl rfl ?_
 refine Z (O E (V (Z ?_)))
 refine AC h fun s1 hs1 h=>?_
 refine J E (J E (BT E Bo E (PW E E E (PX hs1 E Bo E E (O E (V (Z ?_)))))))
 refine AC h fun y1 hy1 h=>?_
 refine AC h fun s2 hs2 h=>?_
 refine J E (J E (BT E Bo E (Y E B5 (AQ 0 jw (Pb hy1) E (Y E (CW hs2) (O E (V (AL ?_))))))))
 obtain rfl:=zI h
 exact Ab [] 0 E E E
def FE(n:Nat)(T:List UInt32)(p0:B1)(p0_1:BI)(p1:UInt32)(p2:List UInt8):Option (List UInt8×Int×B1×BI):=
 (Lh n T p0.ring (⟨p1,p0.gen,p0.boot,p0.num⟩:CB) p2).bind fun y1=>
 cond (!decide (y1.2=0))
 (
  some ([],y1.2,p0,p0_1))
 (
  (DZ p0_1 p1 y1.1).bind fun y2=>
  cond (!decide (y2.1=0))
  (
   some ([],y2.1,{ p0 with num:=p0.num+1 },y2.2))
  (
   (Cr y1.1 224 (y1.1.length:Int)).bind fun s1=>
   some (s1,0,{ p0 with num:=p0.num+1 },y2.2)))
theorem Sm{n BD A1:Nat}{T:List UInt32}{Ap EW C1 BY C3:Value}{p0:B1}{p0_1:BI}{p1:UInt32}{p2:List UInt8}{r:List UInt8×Int×B1×BI}(h:FE n T p0 p0_1 p1 p2=some r)(hT:JJ K w0 2 64 T):zC K w0 47 [vP BD 0,AA p1,vS p2] [AP BD (.cells #[vP A1 0,Ap,AA p0.gen,AA p0.boot,Ar p0.num,EW] 69),AH 138 2 Ap BA p0.ring,AH 4 1 EW eB p0.taken,AP A1 (.cells #[C1,BY,C3,Ar p0_1.rcnt,vS p0_1.rtag,AA p0_1.rboots,vI p0_1.left,vB p0_1.off] 132),AH 9 1 C1 eS p0_1.blk,AH 9 1 BY eS p0_1.pnd,AH 4 1 C3 eB p0_1.bads] H (fun u M=>u=.tuple #[vS r.1,vI r.2.1]∧M=[AP BD (.cells #[vP A1 0,Ap,AA r.2.2.1.gen,AA r.2.2.1.boot,Ar r.2.2.1.num,EW] 69),AH 138 2 Ap BA r.2.2.1.ring,AH 4 1 EW eB r.2.2.1.taken,AP A1 (.cells #[C1,BY,C3,Ar r.2.2.2.rcnt,vS r.2.2.2.rtag,AA r.2.2.2.rboots,vI r.2.2.2.left,vB r.2.2.2.off] 132),AH 9 1 C1 eS r.2.2.2.blk,AH 9 1 BY eS r.2.2.2.pnd,AH 4 1 C3 eB r.2.2.2.bads]):=by
 unfold FE at h
 refine Ua.enter Tryz.func47 rfl rfl ?_
 refine Z (O E (O E (V (AE ?_))))
 refine AC h fun y1 hy1 h=>?_
 refine Ai CY [0] (Bm [(true,0),(true,1),(true,2),(true,3),(true,4),(true,5),(true,6),(true,7),(true,8),(true,9),(true,10),(true,11),(true,12),(true,13),(true,14),(true,15),(true,16),(true,17),(true,18),(false,19),(false,20),(true,21),(true,22),(false,23)] (.last 24 .nil)) zK (J E (AV E E (AD E lF (AF 0 gK E (J E (J E (AV E E ?_)))))))
 refine AD E qw (AF 0 A8 E (J E (AV E E (AD E sa (AF 0 A8 E (J E (AV E E ?_)))))))
 refine AD E eL (AF 0 NM E (BJ [_,_,_,_] E LV LZ FM ⟨E,E,E,E,zT⟩ E (J E (SL.pick [1,0] 2 ?_))))
 refine Bg (vs:=[_,_,_]) (Hin:=[_]) (Hr:=_::_::_::_::_::_::_) E E ⟨E,E,E,zT⟩ uL E E (CV (B:=[_]) (Hin:=[]) fun K' w1 hk hB=>(aj hy1 (hT.keeps hk) (B7 (e:=138) (v:=Ap) zV (hB _ zS)) :)) ?_
 rintro _ _ ⟨_,rfl,rfl,rfl⟩
 refine⟨⟨⟨1,rfl⟩,trivial⟩,?_⟩
 refine J E (Am E E E (Am E E E (O E (BK (O E (V (AE (Z (J E (Y E Bb (V ?_)))))))))))
 refine AT h E (fun hc1 h=>?_) fun hc1 h=>?_
 refine Z (J E (O E (O E (V (AL (AZ ?_))))))
 obtain rfl:=zI h
 exact Ab [1,0,2,3,4,5,6] 7 E E E
 refine AI (AG (Z (J E (AV E E (AD E eL (AF 1 NM E ?_))))))
 refine Y E (Ie (b:=1)) ?_
 refine AV E E (AD E eL (Ak 1 E E E E oU E E E zT (V (Z ?_))))
 refine AC h fun y2 hy2 h=>?_
 refine J E (AV E E (AD E TS (AF 1 aw E (J E (J E (SL.pick [3,4,5,6,0,1,2] 7 (AQ 4 ta (SG hy2) E ?_)))))))
 refine O E (V (AE (Z (J E (Y E Bb (V ?_))))))
 refine AT h E (fun hc2 h=>?_) fun hc2 h=>?_
 refine Z (J E (O E (O E (V (AL (AZ ?_))))))
 obtain rfl:=zI h
 exact Ab [5,4,6,0,1,2,3] 7 E E E
 refine AI (AG (Z ?_))
 refine AC h fun s1 hs1 h=>?_
 refine J E (S5 hs1 E Bo E E (O E (O E (V (AL ?_)))))
 obtain rfl:=zI h
 exact Ab [5,4,6,0,1,2,3] 7 E E E
def FA(o1:B1)(o2:BI)(y1:UInt32)(y2:List UInt8):Option (Ad×Int×B1×BI):=
 some ((⟨0,[]⟩:Ad),110,o1,o2)
def Ch(n:Nat)(T:List UInt32)(p1:List UInt8)(nx_f_ref13_Vault_Write_l1:B1×BI×UInt32×List UInt8×Int→Option (Ad×Int×B1×BI))(o3:B1)(o4:BI)(y3:UInt32)(y4:List UInt8)(a1:Int):Option (Ad×Int×B1×BI):=
 cond (decide (a1<(o3.taken.length:Int)))
 (
  (Aq o3.taken a1).bind fun x1=>
  cond x1
  (
   ret (wI (a1+1)) fun p_1=>
   nx_f_ref13_Vault_Write_l1 (o3,o4,y3,y4,p_1))
  (
   (FE n T o3 o4 (FL a1) p1).bind fun y5=>
   cond (!decide (y5.2.1=0))
   (
    some ((⟨0,[]⟩:Ad),y5.2.1,y5.2.2.1,y5.2.2.2))
   (
    (Aq y5.2.2.1.taken a1).bind fun x2=>
    (FR y5.2.2.1.taken a1 true).bind fun l1=>
    some ((⟨FL a1,y5.1⟩:Ad),0,{ y5.2.2.1 with taken:=l1 },y5.2.2.2))))
 (
  FA o3 o4 y3 y4)
def CL(n:Nat)(T:List UInt32)(p1:List UInt8):Nat→(B1×BI×UInt32×List UInt8×Int)→Option (Ad×Int×B1×BI):=By fun nx x=>Ch n T p1 nx x.1 x.2.1 x.2.2.1 x.2.2.2.1 x.2.2.2.2
def GD(n:Nat)(T:List UInt32)(p0:B1)(p0_1:BI)(p1:List UInt8):Option (Ad×Int×B1×BI):=
 cond (decide (198<(p1.length:Int)))
 (
  some ((⟨0,[]⟩:Ad),50,p0,p0_1))
 (
  CL n T p1 n (p0,p0_1,0,[],2))
theorem Ss{n BD A1:Nat}{T:List UInt32}{Ap EW C1 BY C3:Value}{p0:B1}{p0_1:BI}{p1:List UInt8}{r:Ad×Int×B1×BI}(h:GD n T p0 p0_1 p1=some r)(hT:JJ K w0 2 64 T):zC K w0 14 [vP BD 0,vS p1] [AP BD (.cells #[vP A1 0,Ap,AA p0.gen,AA p0.boot,Ar p0.num,EW] 69),AH 138 2 Ap BA p0.ring,AH 4 1 EW eB p0.taken,AP A1 (.cells #[C1,BY,C3,Ar p0_1.rcnt,vS p0_1.rtag,AA p0_1.rboots,vI p0_1.left,vB p0_1.off] 132),AH 9 1 C1 eS p0_1.blk,AH 9 1 BY eS p0_1.pnd,AH 4 1 C3 eB p0_1.bads] H (fun u M=>u=.tuple #[.agg (Af r.1).toArray,vI r.2.1]∧M=[AP BD (.cells #[vP A1 0,Ap,AA r.2.2.1.gen,AA r.2.2.1.boot,Ar r.2.2.1.num,EW] 69),AH 138 2 Ap BA r.2.2.1.ring,AH 4 1 EW eB r.2.2.1.taken,AP A1 (.cells #[C1,BY,C3,Ar r.2.2.2.rcnt,vS r.2.2.2.rtag,AA r.2.2.2.rboots,vI r.2.2.2.left,vB r.2.2.2.off] 132),AH 9 1 C1 eS r.2.2.2.blk,AH 9 1 BY eS r.2.2.2.pnd,AH 4 1 C3 eB r.2.2.2.bads]):=by
 unfold GD at h
 refine Ua.enter Tryz.func14 rfl rfl ?_
 refine Z ?_
 refine Ag E DX zU fun b1=>?_
 refine O E (V (AE (Z (J E (BT E Bo E (Y E Ca (V ?_)))))))
 refine AT h E (fun hc1 h=>?_) fun hc1 h=>?_
 refine Z (BJ [] E Km Kl DX zT E (Ak 0 E E E E DD E E E zT (O E (V (AL (AZ ?_))))))
 obtain rfl:=zI h
 exact AX (DV E (BB 0 (Af (⟨0,[]⟩:Ad)) Cb E E E E) E) (AY (M:=[_,_,_,_,_,_,_]) ⟨E,E⟩ fun _ hw=>Bc.pick (H:=[_,_,_,_,_,_,_,_]) hw [1,2,3,4,5,6,7] 8 E)
 refine AI (AG ?_)
 refine A5 (α:=B1×BI×UInt32×List UInt8) (fun x=>FA x.1 x.2.1 x.2.2.1 x.2.2.2=some r) (fun x=>[(0,vP BD 0),(4,vP b1 0)]) (fun x=>AP BD (.cells #[vP A1 0,Ap,AA x.1.gen,AA x.1.boot,Ar x.1.num,EW] 69)::AP A1 (.cells #[C1,BY,C3,Ar x.2.1.rcnt,vS x.2.1.rtag,AA x.2.1.rboots,vI x.2.1.left,vB x.2.1.off] 132)::AH 9 1 C1 eS x.2.1.blk::AH 9 1 BY eS x.2.1.pnd::AH 4 1 C3 eB x.2.1.bads::AH 138 2 Ap BA x.1.ring::AH 4 1 EW eB x.1.taken::AP b1 (.cells #[AA x.2.2.1,vS x.2.2.2] 31)::H) ?_ (fun x D h=>?_)
 refine Z (O E (V (AN ?_)))
 refine SX.heap (SX.mono (A6 (α:=Nat×B1×BI×UInt32×List UInt8×Int) (fun x=>CL n T p1 x.1 (x.2.1,x.2.2.1,x.2.2.2.1,x.2.2.2.2.1,x.2.2.2.2.2)=some r) (fun x=>[(0,vP BD 0),(1,vS p1),(4,vP b1 0),(6,vI x.2.2.2.2.2)]) (fun x=>AP BD (.cells #[vP A1 0,Ap,AA x.2.1.gen,AA x.2.1.boot,Ar x.2.1.num,EW] 69)::AP A1 (.cells #[C1,BY,C3,Ar x.2.2.1.rcnt,vS x.2.2.1.rtag,AA x.2.2.1.rboots,vI x.2.2.1.left,vB x.2.2.1.off] 132)::AH 9 1 C1 eS x.2.2.1.blk::AH 9 1 BY eS x.2.2.1.pnd::AH 4 1 C3 eB x.2.2.1.bads::AH 138 2 Ap BA x.2.1.ring::AH 4 1 EW eB x.2.1.taken::AP b1 (.cells #[AA x.2.2.2.1,vS x.2.2.2.2.1] 31)::H) (fun x=>x.1) (fun x D h=>?_) (n,p0,p0_1,0,[],2) h) tL) (BG [1,4,5,6,7,2,3,0] 8 E E E)
 obtain⟨m1,o3,o4,y3,y4,a1⟩:=x
 dsimp only at h
 rcases m1 with _ | m1
 cases (show(none:Option _)=some r from h)
 replace h:Ch n T p1 (CL n T p1 m1) o3 o4 y3 y4 a1=some r:=h
 unfold Ch at h
 try dsimp only
 refine AE (Z (J E (J E (AV E E (AD E Pw (AF 0 Sl E (Dg 6 E Qh E E (Y E Aw (V ?_)))))))))
 refine AT h E (fun hc2 h=>?_) fun hc2 h=>?_
 refine AI (AG (AE (AN (AE (Z ?_)))))
 refine AC h fun x1 hx1 h=>?_
 refine J E (AV E E (AD E Pw (AF 0 Sl E (J E ?_))))
 refine BR 6 hx1 E Qh P7 E E E fun g1 m2 cp1 hv1=>?_
 refine Bi E Wi E (Br (sz:=1) (enc:=eB) 6 0 zV E hv1 hx1 E) ?_
 refine V ?_
 refine AT h E (fun hc3 h=>?_) fun hc3 h=>?_
 refine Ax (A3 (A0 (AG (AK ?_))))
 obtain⟨p_1,ep_1,h⟩:=Bp h
 refine J E (Y E Az ?_)
 refine An (u:=vI p_1) E E (congrArg vI ep_1) ?_
 refine AU ?_
 exact Al (m1,o3,o4,y3,y4,p_1) h (Nat.lt_succ_self _) tL (BG [0,1,2,3,4,5,6,7] 8 E E E)
 refine AI (AG (Z ?_))
 refine AC h fun y5 hy5 h=>?_
 refine J E (J E (Av E E (Q6 FY Bv) (J E (SL.pick [0,5,6,1,2,3,4] 7 (AQ 7 vL (Sm hy5 hT) E (J E (Am E E E ?_)))))))
 refine Am E E E (O E (O E (V (AE (Z (J E (Y E Bb (V ?_))))))))
 refine AT h E (fun hc4 h=>?_) fun hc4 h=>?_
 refine Z (BJ [] E Km Kl DX zT E (J E (Ak 7 E E E E DD E E E zT (O E (V (AL (AZ (Ba (AZ (Dq (Ba (Eg ?_))))))))))))
 obtain rfl:=zI h
 exact AX (DV E (BB 7 (Af (⟨0,[]⟩:Ad)) Cb E E E E) E) (AY (M:=[_,_,_,_,_,_,_]) ⟨E,E⟩ fun _ hw=>Bc.pick (H:=[_,_,_,_,_,_,_,_]) hw [0,1,2,3,4,5,6] 8 E)
 refine AI (AG (Z ?_))
 refine AC h fun x2 hx2 h=>?_
 refine AC h fun l1 hl1 h=>?_
 refine J E (AV E E (AD E Pw (AF 0 Sl E (J E ?_))))
 refine BR 2 hx2 E Qh P7 E E E fun g2 m3 cp2 hv2=>?_
 refine Cz (sz:=1) (enc:=eB) 2 hl1 zV rfl rfl rfl rfl rfl hv2 P7 (by first | (simp[Value.oneCell'];done) | simp[eB,Value.oneCell']) trivial ?_
 refine V (Z (J E (Av E E (Q6 FY Bv) (J E (BJ [_,_] E Km Kl DX ⟨E,E,zT⟩ E (Ak 7 E E E E DD E E E zT (O E (V (AL (Ba (AZ (Dq (Ba (Eg ?_))))))))))))))
 obtain rfl:=zI h
 exact AX (DV E (BB 7 (Af (⟨FL a1,y5.1⟩:Ad)) Cb E E E E) E) (AY (M:=[_,_,_,_,_,_,_]) ⟨E,E⟩ fun _ hw=>Bc.pick (H:=[_,_,_,_,_,_,_,_]) hw [0,1,2,3,4,5,6] 8 E)
 refine Ax (A3 (BO (A0 ?_)))
 exact Au (o3,o4,y3,y4) h tL (BG [0,1,2,3,4,5,6,7] 8 E E E)
 obtain⟨o1,o2,y1,y2⟩:=x
 dsimp only at h
 unfold FA at h
 try dsimp only
 refine Z (BJ [] E Km Kl DX zT E (Ak 7 E E E E DD E E E zT (O E (V (AL ?_)))))
 obtain rfl:=zI h
 exact AX (DV E (BB 7 (Af (⟨0,[]⟩:Ad)) Cb E E E E) E) (AY (M:=[_,_,_,_,_,_,_]) ⟨E,E⟩ fun _ hw=>Bc.pick (H:=[_,_,_,_,_,_,_,_]) hw [0,5,6,1,2,3,4] 8 E)
def Is(n:Nat)(T:List UInt32)(p0:B1)(p0_1:BI)(p1:UInt32)(p2:List UInt8):Option (CB×List UInt8×Int):=
 (EH p0_1 p1).bind fun y1=>
 cond (!decide (y1.2=0))
 (
  some ((⟨0,0,0,0⟩:CB),[],y1.2))
 (
  (Cr y1.1 0 24).bind fun s1=>
  (LO n s1).bind fun y2=>
  (Cr y1.1 224 (y1.1.length:Int)).bind fun s2=>
  (Nn (!decide (s2=p2)) ((FQ (!y2.2) ((Aq y1.1 0).bind fun c1=>(Aq y1.1 1).bind fun c2=>(Aq y1.1 2).bind fun c3=>(Aq y1.1 3).bind fun c4=>some (!decide (((c1.toUInt32 ||| (shl32 c2.toUInt32 8)) ||| (shl32 c3.toUInt32 16)) ||| (shl32 c4.toUInt32 24)=p1)))).bind fun y3=>some (y3))).bind fun y4=>
  cond (y4||(y2.2&&(!decide (y2.1.page=p1))))
  (
   some ((⟨0,0,0,0⟩:CB),[],61))
  (
   (La n T p0.ring y1.1).bind fun y5=>
   some (y5.1,y5.2.1,y5.2.2)))
theorem T3{n BD A1:Nat}{T:List UInt32}{Ap EW C1 BY C3:Value}{p0:B1}{p0_1:BI}{p1:UInt32}{p2:List UInt8}{r:CB×List UInt8×Int}(h:Is n T p0 p0_1 p1 p2=some r)(hT:JJ K w0 2 64 T):zC K w0 175 [vP BD 0,AA p1,vS p2] [AP BD (.cells #[vP A1 0,Ap,AA p0.gen,AA p0.boot,Ar p0.num,EW] 69),AH 138 2 Ap BA p0.ring,AH 4 1 EW eB p0.taken,AP A1 (.cells #[C1,BY,C3,Ar p0_1.rcnt,vS p0_1.rtag,AA p0_1.rboots,vI p0_1.left,vB p0_1.off] 132),AH 9 1 C1 eS p0_1.blk,AH 9 1 BY eS p0_1.pnd,AH 4 1 C3 eB p0_1.bads] H (fun u M=>u=.tuple #[.agg (Bu r.1).toArray,vS r.2.1,vI r.2.2]∧M=[AP BD (.cells #[vP A1 0,Ap,AA p0.gen,AA p0.boot,Ar p0.num,EW] 69),AH 138 2 Ap BA p0.ring,AH 4 1 EW eB p0.taken,AP A1 (.cells #[C1,BY,C3,Ar p0_1.rcnt,vS p0_1.rtag,AA p0_1.rboots,vI p0_1.left,vB p0_1.off] 132),AH 9 1 C1 eS p0_1.blk,AH 9 1 BY eS p0_1.pnd,AH 4 1 C3 eB p0_1.bads]):=by
 unfold Is at h
 refine Ua.enter Tryz.func175 rfl rfl ?_
 refine Z ?_
 refine Ag E FM zU fun b1=>?_
 refine O E (O E (V (Z ?_)))
 refine AC h fun y1 hy1 h=>?_
 refine J E (AV E E (AD E TS (AF 1 aw E (J E (SL.pick [4,5,6,7,0,1,2,3] 8 (AQ 4 sm (SS hy1) E (J E ?_)))))))
 refine Am E E E (Am E E E (O E (O E (V (AE (Z (J E (Y E Bb (V ?_)))))))))
 refine AT h E (fun hc1 h=>?_) fun hc1 h=>?_
 refine Z (BJ [] E LV LZ FM zT E (J E (Ak 4 E E E E Eo E E E zT (O E (O E (V (AL (AZ ?_))))))))
 obtain rfl:=zI h
 exact AX (Iy E (BB 4 (Bu (⟨0,0,0,0⟩:CB)) DE E E E E) E E) (AY (M:=[_,_,_,_,_,_,_]) ⟨E,E⟩ fun _ hw=>Bc.pick (H:=[_,_,_,_,_,_,_,_]) hw [5,6,7,0,1,2,3] 8 E)
 refine AI (AG (Z ?_))
 refine AC h fun s1 hs1 h=>?_
 refine AC h fun y2 hy2 h=>?_
 refine J E (PX hs1 E Bo E E (AQ 0 kx (Vt hy2) E (J E (Am E E E (Am E E E ?_)))))
 refine Ag E FM zU fun b2=>?_
 refine Ak 0 E E E E Eo E E E zT (O E (V (AE (AE ?_))))
 refine AC h fun s2 hs2 h=>?_
 refine AC h fun y4 hy4 h=>?_
 refine Ai CY [0] (Pl.of [(true,0),(true,1),(true,2),(true,3),(true,4),(true,5),(true,6),(true,7),(true,8),(true,9),(true,10),(true,11),(true,12),(true,13),(true,14),(true,15),(true,16),(true,17),(true,18),(true,19),(true,20),(true,21),(true,22),(true,23),(true,24),(true,25),(true,26),(true,27),(true,28),(true,29),(true,30),(true,31),(true,32),(true,33),(true,34),(true,35),(true,36),(true,37),(true,38)]) zK (J E (S5 hs2 E Bo E E (J E (Y E I1 (J E ?_)))))
 refine KM 36 25 61 hy4 E (fun hb k=>?_) (fun hb hg1 k=>?_) ?_
 refine AB E (AB E (AB E (AB E (AB E (AB E (AB E (AB E ?_)))))))
 refine AB E (AB E (AB E (AB E (AB E (AB E (AB E (AB E ?_)))))))
 refine AB E (AB E (AB E (AB E (AB E (AB E (AB E (AB E ?_)))))))
 refine Ae E E E ?_
 exact k.mono tL
 obtain⟨y3,hy3,hg1⟩:=bnd hg1
 obtain rfl:=zI hg1
 refine J E (CH E E (J E ?_))
 refine D9 39 21 60 hy3 E (fun hb hg2 k=>?_) (fun hb k=>?_) ?_
 obtain⟨c1,hc1,hg2⟩:=bnd hg2
 obtain⟨c2,hc2,hg2⟩:=bnd hg2
 obtain⟨c3,hc3,hg2⟩:=bnd hg2
 obtain⟨c4,hc4,hg2⟩:=bnd hg2
 obtain rfl:=zI hg2
 refine J E (Dr hc1 E Bo E E (Av E E (DT Cn Bv) (J E (Dr hc2 E Bo E E (Av E E (DT Cn Bv) ?_)))))
 refine Y E (FB.shl32 (n:=8)) ?_
 refine Y E Di (J E (Dr hc3 E Bo E E (Av E E (DT Cn Bv) ?_)))
 refine Y E (FB.shl32 (n:=16)) ?_
 refine Y E Di (J E (Dr hc4 E Bo E E (Av E E (DT Cn Bv) ?_)))
 refine Y E (FB.shl32 (n:=24)) ?_
 refine Y E Di (J E (Y E Tw (Ae E E E ?_)))
 exact k.mono tL
 refine AB E (AB E (AB E (AB E (AB E (AB E (AB E (AB E ?_)))))))
 refine AB E (AB E (AB E (AB E (AB E (AB E (AB E (AB E ?_)))))))
 refine AB E (AB E (AB E (AB E (Ae E E E ?_))))
 exact k.mono tL
 refine Ae E E E ?_
 exact k.mono tL
 refine J E ?_
 refine C9 (c:=y2.2&&(!decide (y2.1.page=p1))) 62 8 70 E (fun hb k=>?_) (fun hb k=>?_) ?_
 refine AB E (AB E (AB E (AB E (AB E (AB E (AB E (Ae E E E ?_)))))))
 exact k.mono tL
 refine J E (J E ?_)
 refine C5 (c := !decide (y2.1.page=p1)) 64 5 69 E (fun hb k=>?_) (fun hb k=>?_) ?_
 refine AD E WD (AF 0 A8 E (J E (Y E Tw (Ae E E E ?_))))
 exact k.mono tL
 refine AB E (AB E (AB E (AB E (Ae E E E ?_))))
 exact k.mono tL
 refine Ae E E E ?_
 exact k.mono tL
 refine V ?_
 refine AT h E (fun hc2 h=>?_) fun hc2 h=>?_
 refine Z (BJ [] E LV LZ FM zT E (Ak 5 E E E E Eo E E E zT (O E (O E (V (AL (AZ ?_)))))))
 obtain rfl:=zI h
 exact AX (Iy E (BB 5 (Bu (⟨0,0,0,0⟩:CB)) DE E E E E) E E) (AY (M:=[_,_,_,_,_,_,_]) ⟨E,E⟩ fun _ hw=>Bc.pick (H:=[_,_,_,_,_,_,_,_,_]) hw [6,7,8,1,2,3,4] 9 E)
 refine AI (AG (Z ?_))
 refine AC h fun y5 hy5 h=>?_
 refine J E (AV E E (AD E lF (AF 6 gK E (J E (SL.pick [7,0,1,2,3,4,5,6] 8 ?_)))))
 refine Bg (vs:=[_,_]) (Hin:=[_]) (Hr:=_::_::_::_::_::_::_::_::_) E E ⟨E,E,zT⟩ qp E E (CV (B:=[_]) (Hin:=[]) fun K' w1 hk hB=>aP hy5 (hT.keeps hk) (B7 (e:=138) (v:=Ap) zV (hB _ zS))) ?_
 rintro _ _ ⟨_,rfl,rfl,rfl⟩
 refine⟨trivial,?_⟩
 refine Am E E E (Am E E E (Am E E E (Ak 6 E E E E Eo E E E zT (O E (O E (V (AL ?_)))))))
 obtain rfl:=zI h
 exact AX (Iy E (BB 6 (Bu y5.1) DE E E E E) E E) (AY (M:=[_,_,_,_,_,_,_]) ⟨E,E⟩ fun _ hw=>Bc.pick (H:=[_,_,_,_,_,_,_,_,_]) hw [7,0,8,2,3,4,5] 9 E)
def IU(n:Nat)(T:List UInt32)(p0:B1)(p0_1:BI)(p1:UInt32)(p2:List UInt8):Option (List UInt8×Int):=
 (Is n T p0 p0_1 p1 p2).bind fun y1=>
 some (y1.2.1,y1.2.2)
theorem SP{n BD A1:Nat}{T:List UInt32}{Ap EW C1 BY C3:Value}{p0:B1}{p0_1:BI}{p1:UInt32}{p2:List UInt8}{r:List UInt8×Int}(h:IU n T p0 p0_1 p1 p2=some r)(hT:JJ K w0 2 64 T):zC K w0 131 [vP BD 0,AA p1,vS p2] [AP BD (.cells #[vP A1 0,Ap,AA p0.gen,AA p0.boot,Ar p0.num,EW] 69),AH 138 2 Ap BA p0.ring,AH 4 1 EW eB p0.taken,AP A1 (.cells #[C1,BY,C3,Ar p0_1.rcnt,vS p0_1.rtag,AA p0_1.rboots,vI p0_1.left,vB p0_1.off] 132),AH 9 1 C1 eS p0_1.blk,AH 9 1 BY eS p0_1.pnd,AH 4 1 C3 eB p0_1.bads] H (fun u M=>u=.tuple #[vS r.1,vI r.2]∧M=[AP BD (.cells #[vP A1 0,Ap,AA p0.gen,AA p0.boot,Ar p0.num,EW] 69),AH 138 2 Ap BA p0.ring,AH 4 1 EW eB p0.taken,AP A1 (.cells #[C1,BY,C3,Ar p0_1.rcnt,vS p0_1.rtag,AA p0_1.rboots,vI p0_1.left,vB p0_1.off] 132),AH 9 1 C1 eS p0_1.blk,AH 9 1 BY eS p0_1.pnd,AH 4 1 C3 eB p0_1.bads]):=by
 unfold IU at h
 refine Ua.enter Tryz.func131 rfl rfl ?_
 refine Z (O E (O E (V (Z ?_))))
 refine AC h fun y1 hy1 h=>?_
 refine J E (J E (J E (AQ 7 rD (T3 hy1 hT) E (J E (Am E E E (Am E E E (Am E E E ?_)))))))
 refine Ag E FM zU fun b1=>?_
 refine Ak 0 E E E E Eo E E E zT (O E (O E (V (Z (J E (J E (O E (O E (V (AL ?_))))))))))
 obtain rfl:=zI h
 exact Ab [1,2,3,4,5,6,7] 8 E E E
def Gi(n:Nat)(T:List UInt32)(p0:B1)(p0_1:BI)(p1:Ad):Option (List UInt8×Int):=
 (FU p1).bind fun y1=>
 cond (!y1)
 (
  some ([],2))
 (
  (IU n T p0 p0_1 p1.page p1.tag).bind fun y2=>
  some (y2.1,y2.2))
theorem T4{n BD A1:Nat}{T:List UInt32}{Ap EW C1 BY C3:Value}{p0:B1}{p0_1:BI}{p1:Ad}{r:List UInt8×Int}(h:Gi n T p0 p0_1 p1=some r)(hT:JJ K w0 2 64 T):zC K w0 87 [vP BD 0,.agg (Af p1).toArray] [AP BD (.cells #[vP A1 0,Ap,AA p0.gen,AA p0.boot,Ar p0.num,EW] 69),AH 138 2 Ap BA p0.ring,AH 4 1 EW eB p0.taken,AP A1 (.cells #[C1,BY,C3,Ar p0_1.rcnt,vS p0_1.rtag,AA p0_1.rboots,vI p0_1.left,vB p0_1.off] 132),AH 9 1 C1 eS p0_1.blk,AH 9 1 BY eS p0_1.pnd,AH 4 1 C3 eB p0_1.bads] H (fun u M=>u=.tuple #[vS r.1,vI r.2]∧M=[AP BD (.cells #[vP A1 0,Ap,AA p0.gen,AA p0.boot,Ar p0.num,EW] 69),AH 138 2 Ap BA p0.ring,AH 4 1 EW eB p0.taken,AP A1 (.cells #[C1,BY,C3,Ar p0_1.rcnt,vS p0_1.rtag,AA p0_1.rboots,vI p0_1.left,vB p0_1.off] 132),AH 9 1 C1 eS p0_1.blk,AH 9 1 BY eS p0_1.pnd,AH 4 1 C3 eB p0_1.bads]):=by
 unfold Gi at h
 refine Ua.enter Tryz.func87 rfl rfl ?_
 refine Z ?_
 refine Bf E E zU fun b1=>?_
 refine O E (O E (V (Z ?_)))
 refine AC h fun y1 hy1 h=>?_
 refine Ac [AA p1.page,vS p1.tag] E Cb E E (Aa 0 E) (AQ 0 eO ((Mo hy1 :)) E (O E (V (AE (Z (J E (CH E E (V ?_))))))))
 refine AT h E (fun hc1 h=>?_) fun hc1 h=>?_
 refine Z (O E (O E (V (AL (AZ ?_)))))
 obtain rfl:=zI h
 exact Ab [1,2,3,4,5,6,7] 8 E E E
 refine AI (AG (Z ?_))
 refine AC h fun y2 hy2 h=>?_
 refine J E (AD E KE (AF 0 A8 E (AD E L8 (AF 0 Fm E (SL.pick [1,2,3,4,5,6,7,0] 8 (AQ 7 rA (SP hy2 hT) E (Am E E E ?_)))))))
 refine Am E E E (O E (O E (V (AL ?_))))
 obtain rfl:=zI h
 exact Ab [0,1,2,3,4,5,6] 8 E E E
def Gj(p0:B1)(p0_1:BI)(p1:UInt32):Option (Int×B1):=
 (Nn ((decide (p1<2))||(decide (BX (p0.taken.length:Int)≤p1.toUInt64))) ((Aq p0.taken (p1.toNat:Int)).bind fun x1=>some (!x1))).bind fun y1=>
 cond y1
 (
  some (2,p0))
 (
  (Aq p0.taken (p1.toNat:Int)).bind fun x2=>
  (FR p0.taken (p1.toNat:Int) false).bind fun l1=>
  some (0,{ p0 with taken:=l1 }))
theorem Tz{BD A1:Nat}{Ap EW C1 BY C3:Value}{p0:B1}{p0_1:BI}{p1:UInt32}{r:Int×B1}(h:Gj p0 p0_1 p1=some r): zC K w0 65 [vP BD 0,AA p1] [AP BD (.cells #[vP A1 0,Ap,AA p0.gen,AA p0.boot,Ar p0.num,EW] 69),AH 138 2 Ap BA p0.ring,AH 4 1 EW eB p0.taken,AP A1 (.cells #[C1,BY,C3,Ar p0_1.rcnt,vS p0_1.rtag,AA p0_1.rboots,vI p0_1.left,vB p0_1.off] 132),AH 9 1 C1 eS p0_1.blk,AH 9 1 BY eS p0_1.pnd,AH 4 1 C3 eB p0_1.bads] H (fun u M=>u=vI r.1∧M=[AP BD (.cells #[vP A1 0,Ap,AA r.2.gen,AA r.2.boot,Ar r.2.num,EW] 69),AH 138 2 Ap BA r.2.ring,AH 4 1 EW eB r.2.taken,AP A1 (.cells #[C1,BY,C3,Ar p0_1.rcnt,vS p0_1.rtag,AA p0_1.rboots,vI p0_1.left,vB p0_1.off] 132),AH 9 1 C1 eS p0_1.blk,AH 9 1 BY eS p0_1.pnd,AH 4 1 C3 eB p0_1.bads]):=by
 unfold Gj at h
 refine Ua.enter Tryz.func65 rfl rfl ?_
 refine Z (O E (V (AE (Z ?_))))
 refine AC h fun y1 hy1 h=>?_
 refine J E ?_
 refine Y E (Ou (b:=2)) ?_
 refine J E ?_
 refine C9 (c:=decide (BX (p0.taken.length:Int)≤p1.toUInt64)) 7 10 17 E (fun hb k=>?_) (fun hb k=>?_) ?_
 refine AB E (AB E (AB E (AB E (AB E (AB E (AB E (AB E ?_)))))))
 refine AB E (Ae E E E ?_)
 exact k.mono tL
 refine J E (Av E E (Cf Bv CR) (J E (AV E E (AD E Pw (AF 0 Sl E (Dg 2 E Qh E E (Av E E (De FY CR) ?_)))))))
 refine Y E WL (Ae E E E ?_)
 exact k.mono tL
 refine J E ?_
 refine KM 18 9 27 hy1 E (fun hb k=>?_) (fun hb hg2 k=>?_) ?_
 refine AB E (AB E (AB E (AB E (AB E (AB E (AB E (AB E ?_)))))))
 refine Ae E E E ?_
 exact k.mono tL
 obtain⟨x1,hx1,hg2⟩:=bnd hg2
 obtain rfl:=zI hg2
 refine J E (AV E E (AD E Pw (AF 0 Sl E (J E ?_))))
 refine BR 2 hx1 E Qh P7 E E E fun g1 m1 cp1 hv1=>?_
 refine Bi E Wi E (Br (sz:=1) (enc:=eB) 2 0 zV E hv1 hx1 E) ?_
 refine CH E E (Ae E E E ?_)
 exact k.mono tL
 refine V ?_
 refine AT h E (fun hc1 h=>?_) fun hc1 h=>?_
 refine Z (O E (V (AL (AZ ?_))))
 obtain rfl:=zI h
 exact Ab [0,1,2,3,4,5,6] 7 E E E
 refine AI (AG (Z ?_))
 refine AC h fun x2 hx2 h=>?_
 refine AC h fun l1 hl1 h=>?_
 refine J E (AV E E (AD E Pw (AF 0 Sl E (J E ?_))))
 refine BR 2 hx2 E Qh P7 E E E fun g2 m2 cp2 hv2=>?_
 refine Cz (sz:=1) (enc:=eB) 2 hl1 zV rfl rfl rfl rfl rfl hv2 P7 (by first | (simp[Value.oneCell'];done) | simp[eB,Value.oneCell']) trivial ?_
 refine V (Z (O E (V (AL ?_))))
 obtain rfl:=zI h
 exact Ab [0,1,2,3,4,5,6] 7 E E E
end

section
structure Ds where
 out:List A4
 rows:List AM
 count:Int
 err:Int
end

section
variable {K:Nat→Prop}{w0:World}{H:List AW}
def Dh(p1:Ad)(y1:List UInt8×Int)(o3:Ds):Option Ds:=
 (Ci 40 o3.out [(⟨y1.1,p1.page,p1.tag⟩:A4)]).bind fun l2=>
 some ({ o3 with out:=l2 })
def GW(p0_1:B1)(p0_2:BI)(p1:Ad)(rec_:Ds→B1→BI→Ad→Option Ds)(y1:List UInt8×Int)(y2:BP×Int)(o1:Ds):Option Ds:=
 cond (!decide (y2.1.npage=0))
 (
  (rec_ o1 p0_1 p0_2 (⟨y2.1.npage,y2.1.ntag⟩:Ad)).bind fun y4=>
  Dh p1 y1 y4)
 (
  Dh p1 y1 o1)
def DH(p0_1:B1)(p0_2:BI)(p1:Ad)(rec_:Ds→B1→BI→Ad→Option Ds)(y1:List UInt8×Int)(y2:BP×Int)(nx_f_ref14_loader_page_l1:Ds×Int→Option Ds)(o2:Ds)(a1:Int):Option Ds:=
 cond (decide (a1<(y2.1.kids.length:Int)))
 (
  (Aq y2.1.kids a1).bind fun x1=>
  (rec_ o2 p0_1 p0_2 x1).bind fun y3=>
  ret (wI (a1+1)) fun i_1=>
  nx_f_ref14_loader_page_l1 (y3,i_1))
 (
  GW p0_1 p0_2 p1 rec_ y1 y2 o2)
def D4(p0_1:B1)(p0_2:BI)(p1:Ad)(rec_:Ds→B1→BI→Ad→Option Ds)(y1:List UInt8×Int)(y2:BP×Int):Nat→(Ds×Int)→Option Ds:=By fun nx x=>DH p0_1 p0_2 p1 rec_ y1 y2 nx x.1 x.2
def EC(rec_:Ds→B1→BI→Ad→Option Ds)(n:Nat)(T:List UInt32)(p0:Ds)(p0_1:B1)(p0_2:BI)(p1:Ad):Option Ds:=
 cond (!decide (p0.err=0))
 (
  some p0)
 (
  cond (decide (2100≤p0.count))
  (
   some ({ p0 with err:=61 }))
  (
   (Gi n T p0_1 p0_2 p1).bind fun y1=>
   cond (!decide (y1.2=0))
   (
    some ({ p0 with count:=wI (p0.count+1),err:=y1.2 }))
   (
    (Fj n y1.1).bind fun y2=>
    cond (!decide (y2.2=0))
    (
     some ({ p0 with count:=wI (p0.count+1),err:=61 }))
    (
     (Ci 32 p0.rows y2.1.rows).bind fun l1=>
     D4 p0_1 p0_2 p1 rec_ y1 y2 n ({ p0 with rows:=l1,count:=wI (p0.count+1) },0)))))
theorem TC{rec_:Ds→B1→BI→Ad→Option Ds}{n BD A1 CT:Nat}{T:List UInt32}{Ap CJ BY EU DK DI DG:Value}{p0:Ds}{p0_1:B1}{p0_2:BI}{p1:Ad}{r:Ds}(h:EC rec_ n T p0 p0_1 p0_2 p1=some r)(hT:JJ K w0 2 64 T)(hrec:∀ {H:List AW} {BD:Nat} {Ap:Value} {CJ:Value} {A1:Nat} {BY:Value} {EU:Value} {CT:Nat} {DK:Value} {DI:Value} {DG:Value} {p0:Ds} {p0_1:B1} {p0_2:BI} {p1:Ad} {r:Ds},rec_ p0 p0_1 p0_2 p1=some r→zC K w0 54 [vP BD 0,.agg (Af p1).toArray] [AP BD (.cells #[vP A1 0,Ap,CJ,vI p0.count,vI p0.err] 110),AH 72 3 Ap Ah p0.out,AH 79 4 CJ AJ p0.rows,AP A1 (.cells #[vP CT 0,BY,AA p0_1.gen,AA p0_1.boot,Ar p0_1.num,EU] 69),AH 138 2 BY BA p0_1.ring,AH 4 1 EU eB p0_1.taken,AP CT (.cells #[DK,DI,DG,Ar p0_2.rcnt,vS p0_2.rtag,AA p0_2.rboots,vI p0_2.left,vB p0_2.off] 132),AH 9 1 DK eS p0_2.blk,AH 9 1 DI eS p0_2.pnd,AH 4 1 DG eB p0_2.bads] H (fun u M=>∃vs0_0_1 vs0_0_2:Value,u=.tuple #[]∧M=[AP BD (.cells #[vP A1 0,vs0_0_1,vs0_0_2,vI r.count,vI r.err] 110),AH 72 3 vs0_0_1 Ah r.out,AH 79 4 vs0_0_2 AJ r.rows,AP A1 (.cells #[vP CT 0,BY,AA p0_1.gen,AA p0_1.boot,Ar p0_1.num,EU] 69),AH 138 2 BY BA p0_1.ring,AH 4 1 EU eB p0_1.taken,AP CT (.cells #[DK,DI,DG,Ar p0_2.rcnt,vS p0_2.rtag,AA p0_2.rboots,vI p0_2.left,vB p0_2.off] 132),AH 9 1 DK eS p0_2.blk,AH 9 1 DI eS p0_2.pnd,AH 4 1 DG eB p0_2.bads])):zC K w0 54 [vP BD 0,.agg (Af p1).toArray] [AP BD (.cells #[vP A1 0,Ap,CJ,vI p0.count,vI p0.err] 110),AH 72 3 Ap Ah p0.out,AH 79 4 CJ AJ p0.rows,AP A1 (.cells #[vP CT 0,BY,AA p0_1.gen,AA p0_1.boot,Ar p0_1.num,EU] 69),AH 138 2 BY BA p0_1.ring,AH 4 1 EU eB p0_1.taken,AP CT (.cells #[DK,DI,DG,Ar p0_2.rcnt,vS p0_2.rtag,AA p0_2.rboots,vI p0_2.left,vB p0_2.off] 132),AH 9 1 DK eS p0_2.blk,AH 9 1 DI eS p0_2.pnd,AH 4 1 DG eB p0_2.bads] H (fun u M=>∃vs0_0_1 vs0_0_2:Value,u=.tuple #[]∧M=[AP BD (.cells #[vP A1 0,vs0_0_1,vs0_0_2,vI r.count,vI r.err] 110),AH 72 3 vs0_0_1 Ah r.out,AH 79 4 vs0_0_2 AJ r.rows,AP A1 (.cells #[vP CT 0,BY,AA p0_1.gen,AA p0_1.boot,Ar p0_1.num,EU] 69),AH 138 2 BY BA p0_1.ring,AH 4 1 EU eB p0_1.taken,AP CT (.cells #[DK,DI,DG,Ar p0_2.rcnt,vS p0_2.rtag,AA p0_2.rboots,vI p0_2.left,vB p0_2.off] 132),AH 9 1 DK eS p0_2.blk,AH 9 1 DI eS p0_2.pnd,AH 4 1 DG eB p0_2.bads]):=by
 unfold EC at h
 refine Ua.enter Tryz.func54 rfl rfl ?_
 refine Z ?_
 refine Bf E E zU fun b1=>?_
 refine V (AE (Z (J E (AV E E (AD E Qn (AF 1 PO E (Y E Bb (V ?_))))))))
 refine AT h E (fun hc1 h=>?_) fun hc1 h=>?_
 refine AL (AZ ?_)
 obtain rfl:=zI h
 exact DL [1,2,3,4,5,6,7,8,9,10] 11 (DY E) E E ⟨Ap,CJ,E,E⟩
 refine AI (AG (AE (Z (J E (AV E E (AD E Zf (AF 1 D6 E (Y E IW (V ?_)))))))))
 refine AT h E (fun hc2 h=>?_) fun hc2 h=>?_
 refine Z (J E (AV E E (AD E Qn (Ak 1 E E E E XR E E E zT (V (AL (AZ ?_)))))))
 obtain rfl:=zI h
 exact DL [1,2,3,4,5,6,7,8,9,10] 11 (DY E) E E ⟨Ap,CJ,E,E⟩
 refine AI (AG (Z (J E (AV E E (AD E Zf (AF 1 D6 E (Y E Az (AV E E (AD E Zf (Ak 1 E E E E NK E E E zT (V (AE ?_))))))))))))
 refine AC h fun y1 hy1 h=>?_
 refine Ai CY [0,1] (Bm [(true,0),(true,1),(true,2),(true,3),(true,4),(false,5),(false,6),(true,7),(true,8),(false,9)] (.last 10 .nil)) zK (J E (AV E E (AD E oS (AF 1 j7 E (Ac [AA p1.page,vS p1.tag] E Cb E E (Aa 0 E) (SL.pick [4,5,6,7,8,9,10,0,1,2,3] 11 (BS 7 vK ((T4 hy1 hT :)) E ⟨⟨7,E⟩,⟨8,E⟩,zT⟩ ?_)))))))
 refine J E (Am E E E (Am E E E (O E (BK (O E (V (AE (Z (J E (Y E Bb (V ?_)))))))))))
 refine AT h E (fun hc3 h=>?_) fun hc3 h=>?_
 refine Z (J E (J E (AV E E (AD E Qn (Ak 8 E E E E XR E E E zT (V (AL (AZ ?_))))))))
 obtain rfl:=zI h
 exact DL [8,9,10,0,1,2,3,4,5,6] 11 (DY E) E E ⟨Ap,CJ,E,E⟩
 refine AI (AG (Z ?_))
 refine AC h fun y2 hy2 h=>?_
 refine J E (Bn 0 tp (Xj hy2) E ?_)
 rintro _ _ ⟨v1,v2,rfl,rfl⟩
 refine J E (Am E E E (Am E E E ?_))
 refine Ag E Gy zU fun b2=>?_
 refine Bk 79 4 AJ (Bk 31 2 Af ?_)
 refine Bq 3 E fun hv1 ho1=>?_
 refine Bq 4 E fun hv2 ho2=>?_
 refine Ak 2 E E E E HL E (by simp only[Value.oneCell']at ho1 ho2;simp[Value.cells,Value.cells,Value.oneCell',ho1,ho2]) E zT (O E (V (AE (Z (J E (Y E Bb (V ?_)))))))
 refine AT h E (fun hc4 h=>?_) fun hc4 h=>?_
 refine Z (J E (AV E E (AD E Qn (Ak 13 E E E E XR E E E zT (V (AL (AZ ?_)))))))
 obtain rfl:=zI h
 exact DL [13,14,15,5,6,7,8,9,10,11] 16 (DY E) E E ⟨Ap,CJ,E,E⟩
 refine AI (AG (AE ?_))
 refine AC h fun l1 hl1 h=>?_
 refine Ai CY [2,13] (Bm [(true,0),(true,1),(true,2),(true,3),(true,4),(true,5),(true,6),(false,7),(true,8),(true,9)] (.last 10 .nil)) zK (J E (J E (AV E E (AD E Yc (AF 1 FO E (AD E Fx (AF 0 FO E ?_)))))))
 refine Zk 15 3 hl1 (sz:=4) (enc:=AJ) zV E Bt B4 PM EN E zD E E E E (by simp[AJ,Value.oneCell']) (fun _=>⟨⟨2,E⟩,⟨13,E⟩,zT⟩) fun v3=>?_
 refine AV E E (AD E Yc (BK ?_))
 refine Bq 15 E fun hv3 ho3=>?_
 refine Dk 13 E E E E LS hv3 ho3 E zT (V ?_)
 refine A5 (α:=Ds×Value×Value) (fun x=>GW p0_1 p0_2 p1 rec_ y1 y2 x.1=some r) (fun x=>[(0,vP BD 0),(3,vP b1 0),(4,vS y1.1),(6,vP b2 0)]) (fun x=>AP BD (.cells #[vP A1 0,x.2.1,x.2.2,vI x.1.count,vI x.1.err] 110)::AP A1 (.cells #[vP CT 0,BY,AA p0_1.gen,AA p0_1.boot,Ar p0_1.num,EU] 69)::AP CT (.cells #[DK,DI,DG,Ar p0_2.rcnt,vS p0_2.rtag,AA p0_2.rboots,vI p0_2.left,vB p0_2.off] 132)::AH 9 1 DK eS p0_2.blk::AH 9 1 DI eS p0_2.pnd::AH 4 1 DG eB p0_2.bads::AH 138 2 BY BA p0_1.ring::AH 4 1 EU eB p0_1.taken::AH 72 3 x.2.1 Ah x.1.out::AH 79 4 x.2.2 AJ x.1.rows::AP b1 (.cells #[AA p1.page,vS p1.tag] 31)::AP b2 (.cells #[vI y2.1.kind,AA y2.1.cx,AA y2.1.cy,vI y2.1.lev,v1,v2,AA y2.1.npage,vS y2.1.ntag] 148)::AH 79 4 v1 AJ y2.1.rows::AH 31 2 v2 Af y2.1.kids::H) ?_ (fun x D h=>?_)
 refine Z (O E (V (AN ?_)))
 refine SX.heap (SX.mono (A6 (α:=Nat×Ds×Value×Value×Int) (fun x=>D4 p0_1 p0_2 p1 rec_ y1 y2 x.1 (x.2.1,x.2.2.2.2)=some r) (fun x=>[(0,vP BD 0),(3,vP b1 0),(4,vS y1.1),(6,vP b2 0),(8,vI x.2.2.2.2)]) (fun x=>AP BD (.cells #[vP A1 0,x.2.2.1,x.2.2.2.1,vI x.2.1.count,vI x.2.1.err] 110)::AP A1 (.cells #[vP CT 0,BY,AA p0_1.gen,AA p0_1.boot,Ar p0_1.num,EU] 69)::AP CT (.cells #[DK,DI,DG,Ar p0_2.rcnt,vS p0_2.rtag,AA p0_2.rboots,vI p0_2.left,vB p0_2.off] 132)::AH 9 1 DK eS p0_2.blk::AH 9 1 DI eS p0_2.pnd::AH 4 1 DG eB p0_2.bads::AH 138 2 BY BA p0_1.ring::AH 4 1 EU eB p0_1.taken::AH 72 3 x.2.2.1 Ah x.2.1.out::AH 79 4 x.2.2.2.1 AJ x.2.1.rows::AP b1 (.cells #[AA p1.page,vS p1.tag] 31)::AP b2 (.cells #[vI y2.1.kind,AA y2.1.cx,AA y2.1.cy,vI y2.1.lev,v1,v2,AA y2.1.npage,vS y2.1.ntag] 148)::AH 79 4 v1 AJ y2.1.rows::AH 31 2 v2 Af y2.1.kids::H) (fun x=>x.1) (fun x D h=>?_) (n,{ p0 with rows:=l1,count:=wI (p0.count+1) },Ap,v3,0) h) tL) (BG [13,5,8,9,10,11,6,7,14,15,12,2,3,4] 16 rfl rfl rfl)
 obtain⟨m1,o2,v6,v7,a1⟩:=x
 dsimp only at h
 rcases m1 with _ | m1
 cases (show(none:Option _)=some r from h)
 replace h:DH p0_1 p0_2 p1 rec_ y1 y2 (D4 p0_1 p0_2 p1 rec_ y1 y2 m1) o2 a1=some r:=h
 unfold DH at h
 try dsimp only
 refine AE (Z (J E (AD E Dn (AF 11 Hq E (Dg 13 E E1 E E (Y E Aw (V ?_)))))))
 refine AT h E (fun hc5 h=>?_) fun hc5 h=>?_
 refine AI (AG (AE (AN (AK ?_))))
 refine AC h fun x1 hx1 h=>?_
 refine AC h fun y3 hy3 h=>?_
 refine J E (AD E Dn (AF 11 Hq E (J E ?_)))
 refine BR 13 hx1 E E1 DD E E E fun g1 m2 cp1 hv4=>?_
 refine Ac (Af x1) E Cb E E (Cd (sz:=2) (enc:=Af) 13 zV E hv4 hx1) ?_
 refine SL.pick [0,8,9,1,6,7,2,3,4,5] 10 (Bn 10 iX ((hrec hy3 :)) E ?_)
 rintro _ _ ⟨v8,v9,rfl,rfl⟩
 refine AU (Ao (AG (AK ?_)))
 obtain⟨i_1,ei_1,h⟩:=Bp h
 refine J E (Y E Az ?_)
 refine An (u:=vI i_1) E E (congrArg vI ei_1) ?_
 refine AU ?_
 exact Al (m1,y3,v8,v9,i_1) h (Nat.lt_succ_self _) tL (BG [0,3,6,7,8,9,4,5,1,2,10,11,12,13] 14 E E E)
 refine Ax (A3 (BO (A0 ?_)))
 exact Au (o2,v6,v7) h tL (BG [0,1,2,3,4,5,6,7,8,9,10,11,12,13] 14 E E E)
 obtain⟨o1,v4,v5⟩:=x
 dsimp only at h
 unfold GW at h
 try dsimp only
 refine A5 (α:=Ds×Value×Value) (fun x=>Dh p1 y1 x.1=some r) (fun x=>[(0,vP BD 0),(3,vP b1 0),(4,vS y1.1)]) (fun x=>AP BD (.cells #[vP A1 0,x.2.1,x.2.2,vI x.1.count,vI x.1.err] 110)::AP A1 (.cells #[vP CT 0,BY,AA p0_1.gen,AA p0_1.boot,Ar p0_1.num,EU] 69)::AP CT (.cells #[DK,DI,DG,Ar p0_2.rcnt,vS p0_2.rtag,AA p0_2.rboots,vI p0_2.left,vB p0_2.off] 132)::AH 9 1 DK eS p0_2.blk::AH 9 1 DI eS p0_2.pnd::AH 4 1 DG eB p0_2.bads::AH 138 2 BY BA p0_1.ring::AH 4 1 EU eB p0_1.taken::AH 72 3 x.2.1 Ah x.1.out::AH 79 4 x.2.2 AJ x.1.rows::AP b1 (.cells #[AA p1.page,vS p1.tag] 31)::H) ?_ (fun x D h=>?_)
 refine Z (AD E FF (AD E KE (AF 11 A8 E ?_)))
 refine Y E (Tw (b:=0)) ?_
 refine V ?_
 refine AT h E (fun hc6 h=>?_) fun hc6 h=>?_
 refine AK ?_
 refine AC h fun y4 hy4 h=>?_
 refine J rfl (AD rfl FF (Ac [AA y2.1.npage,vS y2.1.ntag] rfl Cb rfl rfl (Ce 11 rfl (by rintro(_ | (_ | j)) u hj<;>first | exact hj | exact absurd hj zS)) (SL.pick [0,8,9,1,6,7,2,3,4,5] 10 (Bn 10 iX ((hrec hy4 :)) rfl ?_))))
 rintro _ _ ⟨v12,v13,rfl,rfl⟩
 refine AU ?_
 exact Au (y4,v12,v13) h tL (BG [0,3,6,7,8,9,4,5,1,2,10] 14 E E E)
 refine AI ?_
 exact Au (o1,v4,v5) h tL (BG [0,1,2,3,4,5,6,7,8,9,10] 14 E E E)
 obtain⟨o3,v10,v11⟩:=x
 dsimp only at h
 unfold Dh at h
 try dsimp only
 refine AC h fun l2 hl2 h=>?_
 refine Ai CY [0,10] (Bm [(true,0),(true,1),(true,2),(true,3),(true,4),(true,5),(true,6),(true,7),(false,8),(false,9),(true,10),(true,11)] (.last 12 .nil)) zK (J E (J E (AV E E (AD E Sh (AF 0 In E (J E (Ac [AA p1.page,vS p1.tag] E Cb E E (Aa 1 E) ?_)))))))
 refine BJ [_,_] E iG gI NO ⟨E,E,zT⟩ E ?_
 refine Bz [_] rfl FD JE NO ⟨rfl,trivial⟩ rfl rfl rfl zW rfl rfl (fun _=>⟨⟨1,rfl⟩,⟨11,rfl⟩,trivial⟩) fun b3=>?_
 refine B2 Ah 3 ([(⟨y1.1,p1.page,p1.tag⟩:A4)]:List A4) E zV E ?_
 refine CQ 9 hl2 (sz:=3) (enc:=Ah) zV E FD JE aq NO E zD E E E E (Bs (sz:=3) (enc:=Ah) 0 zV E) (by simp[Ah,Value.oneCell']) (fun _=>⟨⟨1,E⟩,⟨11,E⟩,zT⟩) fun v14=>?_
 refine AV E E (AD E Sh (BK ?_))
 refine Bq 9 E fun hv5 ho4=>?_
 refine Dk 1 E E E E bO hv5 ho4 E zT (AU ?_)
 obtain rfl:=zI h
 exact Cy (DY E) (AY (M:=[_,_,_,_,_,_,_,_,_,_]) ⟨v14,v11,E,E⟩ fun _ hw=>Bc.pick (H:=[_,_,_,_,_,_,_,_,_,_,_,_]) hw [1,9,10,2,7,8,3,4,5,6] 12 E)
end

section
variable {K:Nat→Prop}{w0:World}{H:List AW}
structure Ty where
 out:List A4
 err:Int
def Q9(must:List A4)(s:List UInt8)(out:List A4)(e:Int):Option (Ad×Ty):=
 cond (!decide (e=0)) (some (⟨0,[]⟩,⟨out,e⟩))
  ((Nn (decide ((must.length:Int)≤(out.length:Int))) ((Aq must (out.length:Int)).bind fun m=>some (!decide (m.txt=s)))).bind fun y=>
   cond y (some (⟨0,[]⟩,⟨out,61⟩)) ((Aq must (out.length:Int)).bind fun m=>(Ci 40 out [m]).bind fun l=>some (⟨m.page,m.tag⟩,⟨l,e⟩)))
def NC(n:Nat)(must:List A4)(x:BP)(k:Ty):Option (Ad×Ty):=
 (EK n x).bind fun y=>Q9 must y.1 k.out (bif !decide (y.2=0)&&decide (k.err=0)then y.2 else k.err)
theorem mU{n bk:Nat}{vm vo v4 v5:Value}{must:List A4}{x:BP}{k:Ty}{r:Ad×Ty}(h:NC n must x k=some r)(hm:CD K w0 Ah 3 vm must)(hs4:CD K w0 AJ 4 v4 x.rows)(hs5:CD K w0 Af 2 v5 x.kids):
  zC K w0 89 [vP bk 0,.agg #[vI x.kind,AA x.cx,AA x.cy,vI x.lev,v4,v5,AA x.npage,vS x.ntag]] [AP bk (.cells #[.pointer none,.slice none 0 0,vo,.slice none 0 0,vI k.err,vm] 115),AH 72 3 vo Ah k.out] H
   (fun u M=>u=.agg (Af r.1).toArray∧∃vo',M=[AP bk (.cells #[.pointer none,zN,vo',zN,vI r.2.err,vm] 115),AH 72 3 vo' Ah r.2.out]):=by
 obtain⟨out,er⟩:=k
 unfold NC at h
 obtain⟨⟨s,e⟩,hy,h⟩:=bnd h
 dsimp only at h
 refine Ua.enter Tryz.func89 rfl rfl ?_
 refine Z ?_
 refine Bf E E zU fun b0=>?_
 refine Ag E DX zU fun b1=>?_
 refine V (Z (Ac [vI x.kind,AA x.cx,AA x.cy,vI x.lev,v4,v5,AA x.npage,vS x.ntag] E E6 E E (Aa 1 E) (AQ 0 kA (R7 hy hs4 hs5) E (J E (Am E E E (Am E E E (O E (O E (V ?_)))))))))
 refine A5 (α:=Int) (fun e=>Q9 must s out e=some r) (fun _=>[(0,vP bk 0),(4,vP b1 0),(5,vS s)]) (fun e=>AP b1 (.cells #[AA 0,vS []] 31)::AP b0 (.cells #[vI x.kind,AA x.cx,AA x.cy,vI x.lev,v4,v5,AA x.npage,vS x.ntag] 148)::AP bk (.cells #[.pointer none,zN,vo,zN,vI e,vm] 115)::AH 72 3 vo Ah out::H) ?_ (fun e D h=>?_)
 refine Z (J E (Y E Bb (J E ?_)))
 refine C5 (c:=decide (er=0)) 18 6 24 E (fun hb k=>?_) (fun hb k=>?_) ?_
 refine J E (AV E E (AD E Ko (AF 2 PO E (Y E CE (Ae E E E ?_)))))
 exact k.mono tL
 refine AB E (AB E (AB E (AB E (AB E (Ae E E E ?_)))))
 exact k.mono tL
 refine V ?_
 refine As E (fun hc1=>?_) (fun hc1=>?_)
 rw[hc1,BZ]at h
 refine AK (J E (J E (AV E E (AD E Ko (Ak 2 E E E E XR E E E zT (AU ?_))))))
 exact Au e h tL (fun _ h=>h)
 rw[hc1,A9]at h
 refine AI ?_
 exact Au er h tL (fun _ h=>h)
 unfold Q9 at h
 refine AE (Z (J E (AV E E (AD E Ko (AF 2 PO E (Y E Bb (V ?_)))))))
 refine AT h E (fun hc2 h=>?_) fun hc2 h=>?_
 obtain rfl:=zI h
 refine Z (BJ [] E Km Kl DX zT E (Ak 0 E E E E DD E E E zT (V (AL (AZ ?_)))))
 exact AX (ES E (BB 0 (Af ⟨0,[]⟩) Cb E E E E)) (AY (M:=[_,_]) ⟨E,vo,E⟩ fun _ hw=>Bc.pick (H:=[_,_,_,_]) hw [2,3] 4 E)
 refine AC h fun y3 hy3 h=>?_
 refine AI (AG (AE (Z (J E (AV E E (AD E YF (AF 2 j7 E (Fu E sw E E (V (TZ E (Z (J E (AV E E ?_)))))))))))))
 refine AD E Mt (AF 2 In E (Dg 3 E FD E E (O E (V (AE (Z (J E (J E (AV E E (AD E Vk ?_))))))))))
 refine AF 2 In E (B3 hm E FD E (Y E IW (J E ?_)))
 refine KM 52 11 63 hy3 E (fun hb k=>?_) (fun hb hg k=>?_) ?_
 refine AB E (AB E (AB E (AB E (AB E (AB E (AB E (AB E ?_)))))))
 refine AB E (AB E (Ae E E E ?_))
 exact k.mono tL
 refine AC hg fun m hm1 hg=>?_
 obtain rfl:=zI hg
 refine J E (AV E E (AD E Vk (AF 2 In E (J E ?_))))
 refine Cj hm1 hm E FD JE E E fun be of_ hcc=>?_
 refine AD E X0 ?_
 refine Bi E Fm E (DS (j:=0) hcc E) ?_
 refine J E (Y E I1 (Ae E E E ?_))
 exact k.mono tL
 refine V ?_
 refine AT h E (fun hc3 h=>?_) fun hc3 h=>?_
 obtain rfl:=zI h
 refine Z (J E (AV E E (AD E Ko (Ak 2 E E E E XR E E E zT (V (Z (BJ [] E Km Kl DX zT E (Ak 0 E E E E DD E E E zT (V (AL (AZ (AZ ?_))))))))))))
 exact AX (ES E (BB 0 (Af ⟨0,[]⟩) Cb E E E E)) (AY (M:=[_,_]) ⟨E,vo,E⟩ fun _ hw=>Bc.pick (H:=[_,_,_,_]) hw [2,3] 4 E)
 refine AC h fun m hm1 h=>?_
 refine AC h fun l hl h=>?_
 obtain rfl:=zI h
 refine AI (AG (AE (Ai CY [2] (Bm [(true,0),(true,1),(true,2),(true,3),(true,4),(true,5),(true,6),(true,7),(true,8),(true,9),(true,10),(true,11),(false,12),(false,13),(true,14),(true,15)] (.last 16 .nil)) zK (J E (J E (AV E E (AD E Mt (AF 0 In E (J E (AV E E ?_))))))))))
 refine AD E Vk (AF 0 In E (J E ?_))
 refine Cj hm1 hm E FD JE E E fun be of_ hcc=>?_
 refine Ac (Ah m) E lB E E (C7 hcc) ?_
 refine Bz [_] rfl FD JE NO ⟨rfl,trivial⟩ rfl rfl rfl zW rfl rfl (fun _=>⟨⟨3,rfl⟩,trivial⟩) fun b6=>?_
 refine B2 Ah 3 ([m]:List A4) E zV E ?_
 refine CQ 4 hl (sz:=3) (enc:=Ah) zV E FD JE aq NO E zD E E E E (Bs (sz:=3) (enc:=Ah) 0 zV E) (by simp[Ah,Value.oneCell']) (fun _=>⟨⟨3,E⟩,zT⟩) fun v3=>?_
 refine AV E E (AD E Mt (BK ?_))
 refine Bq 4 E fun hv3 ho3=>?_
 refine Dk 3 E E E E bO hv3 ho3 E zT (V (Z (J E (AV E E (AD E Vk (AF 3 In E (J E ?_)))))))
 refine Cj hm1 hm E FD JE E E fun be2 of2 hcc2=>?_
 refine AD E Ps ?_
 refine Ac [AA m.page,vS m.tag] E Cb E E (fun w hw j u hu=>by
  rw[CA,Nat.add_assoc]
  refine hcc2 _ w hw (1+j) u ?_
  rw[Nat.add_comm 1 j]
  exact hu) ?_
 refine Ak 1 E E E E DD E E E zT (V (AL (AZ ?_)))
 exact AX (ES E (BB 1 (Af ⟨m.page,m.tag⟩) Cb E E E E)) (AY (M:=[_,_]) ⟨E,v3,E⟩ fun _ hw=>Bc.pick (H:=[_,_,_,_,_]) hw [3,4] 5 E)
end

section
variable {P:Program}{ro:Option Nat}{K:Nat→Prop}{w0:World}{N:Nat}{Q:DF}{D:List Nat}{l l':Tm}{H H' Hs L:List AW}{ops:Array Oper}{items:Io}
variable {tk:Bool}{o:Oper}{t:Nat}{v:Value}{x y z:Operand}
variable {α:Type}{enc:α→List Value}{sz:Nat}{xs us:List α}{e ty:TypeId}
def pR(K:Nat→Prop)(w0:World)(M:List AW)(enc:α→List Value)(v:Value)(us:List α):Prop:=
 (v=.slice none 0 0∧us=[])∨∃ad cap,v=.slice (some ad) us.length cap∧∀w,F9 K w0 M w→∀j u,(us.flatMap enc)[j]? = some u→w.cell? (ad.add j)=some u
theorem ZI{w:World}{i g n cap j:Nat}{u:Value}(hi:L[i]? = some (AH e sz (.slice (some ⟨g,0,none⟩) n cap) enc xs))(hw:F9 K w0 L w)(hu:(xs.flatMap enc)[j]? = some u):w.cell? ⟨g,j,none⟩=some u:=by
 have hrow:w.ownsRow 0 e sz (.slice (some ⟨g,0,none⟩) n cap) xs.length (xs.flatMap enc):=hw.holds _ (List.mem_of_getElem? hi)
 have:=(World.ownsRowF_of hrow).cells (g:=g) rfl j u hu
 rw[CA,Nat.zero_add]at this
 exact this
theorem p9{k:IntKind}{j:Int}{e':TypeId}(i:Nat)(hn:Cr xs 0 j=some us)(hl:∀x,(enc x).length=sz)(ho:At ops N l o t (.slice ty x none (some z) none))(hty:P.underlying ty=some (.slice e'))(hsz:C8 P e'=some sz)(hx:Bh l x=some v)(hz:Bh l z=some (.int k j))(hi:H[i]? = some (AH e sz v enc xs))
(h:∀v',pR K w0 H enc v' us→SL P ro K w0 N ops Hs items Q D ((t,v')::l) H):SL P ro K w0 N ops Hs (.cons (false,o) items) Q D l H:=by
 intro a w ha hw hs0
 have hrow:w.ownsRow 0 e sz v xs.length (xs.flatMap enc):=hw.holds _ (List.mem_append_left _ (List.mem_of_getElem? hi))
 obtain⟨h1,h2,h3,h4,rfl⟩:=MP hn
 have hj:j=(j.toNat:Int):=zO
 have hpre:xs=xs.take j.toNat++xs.drop j.toNat:=(List.take_append_drop ..).symm
 have e2:(xs.drop (0:Int).toNat).take (j.toNat-(0:Int).toNat)=xs.take j.toNat:=by simp
 rw[e2]at h
 rcases hrow.2 with⟨rfl,h0⟩ | ⟨g,cap,cur,rfl,_,_,hnc,_⟩
 have hxs:xs=[]:=List.length_eq_zero_iff.1 h0
 subst hxs
 have hj0:j=0:=by simp at h4;omega
 subst hj0
 refine SL.val (v:=.slice none 0 0) ho E (fun a w ha _=>?_) (h _ (.inl ⟨E,by simp⟩)) a w ha hw hs0
 simp only[execOp,ho.op,Instr.sliceAt,Instr.slice,Option.map]
 simp[ha.eval hx,ha.eval hz,Ay hty,CU hsz,Instr.sliceBounds,Instr.sliceBound,asIntOf]
 have hle:j.toNat≤xs.length:=h4
 refine Yv j.toNat ho hty hsz hx hz hj zO (h _ (.inr ⟨⟨g,0,none⟩,cap,?_,fun w hw j' u hu=>?_⟩)) a w ha hw hs0
 rw[List.length_take,Nat.min_eq_left hle]
 rw[CA,Nat.zero_add]
 refine ZI hi hw ?_
 rw[hpre,List.flatMap_append,List.getElem?_append_left (List.getElem?_eq_some_iff.1 hu).1]
 exact hu
theorem pG{k:IntKind}{j:Int}{e':TypeId}(i:Nat)(hn:Cr xs j (xs.length:Int)=some us)(hl:∀x,(enc x).length=sz)(ho:At ops N l o t (.slice ty x (some z) none none))(hty:P.underlying ty=some (.slice e'))(hsz:C8 P e'=some sz)(hx:Bh l x=some v)(hz:Bh l z=some (.int k j))(hi:H[i]? = some (AH e sz v enc xs))
(h:∀v',pR K w0 H enc v' us→SL P ro K w0 N ops Hs items Q D ((t,v')::l) H):SL P ro K w0 N ops Hs (.cons (false,o) items) Q D l H:=by
 intro a w ha hw hs0
 have hrow:w.ownsRow 0 e sz v xs.length (xs.flatMap enc):=hw.holds _ (List.mem_append_left _ (List.mem_of_getElem? hi))
 obtain⟨h1,h2,h3,h4,rfl⟩:=MP hn
 have hj:j=(j.toNat:Int):=zO
 have hpre:xs=xs.take j.toNat++xs.drop j.toNat:=(List.take_append_drop ..).symm
 have e2:(xs.drop j.toNat).take ((xs.length:Int).toNat-j.toNat)=xs.drop j.toNat:=List.take_of_length_le zS
 rw[e2]at h
 have hq:j.toNat≤xs.length:=by simpa using h3
 generalize j.toNat=q at*
 subst hj
 rcases hrow.2 with⟨rfl,h0⟩ | ⟨g,cap,cur,rfl,_,_,hnc,_⟩
 have hxs:xs=[]:=List.length_eq_zero_iff.1 h0
 subst hxs
 have hj0:q=0:=by simpa using hq
 subst hj0
 refine SL.val (v:=.slice none 0 0) ho E (fun a w ha _=>?_) (h _ (.inl ⟨E,by simp⟩)) a w ha hw hs0
 simp only[execOp,ho.op,Instr.sliceAt,Instr.slice,Option.map]
 simp[ha.eval hx,ha.eval hz,Ay hty,CU hsz,Instr.sliceBounds,Instr.sliceBound,asIntOf]
 by_cases hqc:q<cap
 refine YW q ho hty hsz hx hz E hq hqc (h _ (.inr ⟨⟨g,0+q*sz,none⟩,cap-q,?_,fun w hw j' u hu=>?_⟩)) a w ha hw hs0
 rw[List.length_drop]
 rw[CA,Nat.zero_add]
 refine ZI hi hw ?_
 have hlen:((xs.take q).flatMap enc).length=q*sz:=by rw[IY hl,List.length_take,Nat.min_eq_left hq]
 rw[hpre,List.flatMap_append,List.getElem?_append_right zO,hlen,Nat.add_sub_cancel_left]
 exact hu
 have hqe:q=xs.length:=zO
 have hce:cap=xs.length:=zO
 subst hqe hce
 refine SL.val (v:=.slice (some ⟨g,0,none⟩) 0 0) ho E (fun a w ha _=>?_) (h _ (.inr ⟨⟨g,0,none⟩,0,by simp,fun w hw j' u hu=>by simp at hu⟩)) a w ha hw hs0
 simp only[execOp,ho.op,Instr.sliceAt,Instr.slice,Option.map]
 simp[ha.eval hx,ha.eval hz,Ay hty,CU hsz,Instr.sliceBounds,Instr.sliceBound,asIntOf,CA]
theorem f4{by_:Nat}{zv u:Value}{new:List α}(k:Nat)(hn:Ci by_ xs new=some us)(hu:pR K w0 H enc u new)(hl:∀x,(enc x).length=sz)(ho:At ops N l o t (.call { callee:=.builtin .append,args:=#[x,y],argTypes:=#[ty,ty] }))
(hty:P.underlying ty=some (.slice e))(hsz:C8 P e=some sz)(hby:Pa P e=some by_)(hze:EY P e=some zv)(hzs:zv.cells.size=sz)(hsz0:0<sz)
(hx:Bh l x=some v)(hy:Bh l y=some u)(hk:H[k]? = some (AH e sz v enc xs))(h1:∀a,∀u∈enc a,u.oneCell'=true)
(hs:∀v',Ey Hs (H.set k (AH e sz v' enc us)))
(h:∀v',SL P ro K w0 N ops Hs items Q D ((t,v')::l) (H.set k (AH e sz v' enc us))):SL P ro K w0 N ops Hs (.cons (false,o) items) Q D l H:=by
 rcases hu with⟨rfl,rfl⟩ | ⟨ad,cap,rfl,hc⟩
 obtain rfl:=WN hn
 have h2:=hs v
 have h3:=h v
 rw[Wy hk]at h2 h3
 exact aE k ho hty hsz hby hze hx hy hk h2 h3
 exact CQ k hn hl ho hty hsz hby hze hzs hsz0 hx hy E hk hc h1 hs h
end

section
variable {P:Program}{ro:Option Nat}{K:Nat→Prop}{w0:World}{N:Nat}{Q:DF}{D:List Nat}{l l':Tm}{H H' Hs L:List AW}{ops:Array Oper}{items:Io}
variable {tk:Bool}{o:Oper}{t:Nat}{v:Value}{x y z:Operand}
theorem nD{b off n c sz:Nat}{k k':IntKind}{i j:Int}{ty e:TypeId}(p q:Nat)(ho:At ops N l o t (.slice ty x (some y) (some z) none))(hty:P.underlying ty=some (.slice e))(hsz:C8 P e=some sz)(hx:Bh l x=some (.slice (some ⟨b,off,none⟩) n c))(hy:Bh l y=some (.int k i))(hz:Bh l z=some (.int k' j))
(hi:i=(p:Int))(hj:j=(q:Int))(hp:p≤q)(hq:q≤c)(hpc:p<c)(h:SL P ro K w0 N ops Hs items Q D ((t,.slice (some ⟨b,off+p*sz,none⟩) (q-p) (c-p))::l) H):SL P ro K w0 N ops Hs (.cons (tk,o) items) Q D l H:=
 SL.val ho rfl (fun a w ha _=>by
  subst hi hj
  have hne:¬c=p:=zO
  simp only[execOp,ho.op,Instr.sliceAt,Instr.slice,Option.map]
  simp[ha.eval hx,ha.eval hy,ha.eval hz,Ay hty,CU hsz,Instr.sliceBounds,Instr.sliceBound,asIntOf,hq,hp,CA];omega) h
theorem pm{α:Type}{enc:α→List Value}{sz:Nat}{xs us:List α}{k k':IntKind}{i j:Int}{ty e:TypeId}(hn:Cr xs i j=some us)(hk:CD K w0 enc sz v xs)(ho:At ops N l o t (.slice ty x (some y) (some z) none))(hty:P.underlying ty=some (.slice e))(hsz:C8 P e=some sz)(hx:Bh l x=some v)(hy:Bh l y=some (.int k i))(hz:Bh l z=some (.int k' j))
(h:∀v',CD K w0 enc sz v' us→SL P ro K w0 N ops Hs items Q D ((t,v')::l) H):SL P ro K w0 N ops Hs (.cons (tk,o) items) Q D l H:=by
 obtain⟨h1,h2,h3,h4,rfl⟩:=MP hn
 have hi:i=(i.toNat:Int):=zO
 have hj:j=(j.toNat:Int):=zO
 generalize i.toNat=p at*
 generalize j.toNat=q at*
 subst hi hj
 rcases hk.at_ with⟨a0,rfl,rfl⟩ | ⟨b,off,cap,rfl,hcap,hc⟩
 have hq:q=0:=by simpa using h4
 have hp:p=0:=zO
 subst hq hp
 refine SL.val (v:=.slice a0 0 0) ho E (fun a w ha _=>?_) (h _ ⟨hk.len,.inl ⟨_,E,by simp⟩⟩)
 simp only[execOp,ho.op,Instr.sliceAt,Instr.slice,Option.map]
 cases a0<;>simp[ha.eval hx,ha.eval hy,ha.eval hz,Ay hty,CU hsz,Instr.sliceBounds,Instr.sliceBound,asIntOf]
 have hl:((xs.drop p).take (q-p)).length=q-p:=by simp;omega
 by_cases hpc:p<cap
 refine nD p q ho hty hsz hx hy hz E E h3 zO hpc (h _ ⟨hk.len,.inr ⟨b,off+p*sz,cap-p,by rw[hl],by rw[hl];omega,fun j' u hu=>?_⟩⟩)
 have hc':=(CD.cut hk.len hcap hc (show p≤xs.length by omega)).at_
 have hpre:((xs.drop p).take (q-p))++((xs.drop p).drop (q-p))=xs.drop p:=List.take_append_drop ..
 have hlen:((xs.take p).flatMap enc).length=p*sz:=by rw[IY hk.len,List.length_take,Nat.min_eq_left zO]
 have:=hc (p*sz+j') u (by
  rw[←List.take_append_drop p xs,List.flatMap_append,List.getElem?_append_right zO,hlen,Nat.add_sub_cancel_left,←hpre,List.flatMap_append,List.getElem?_append_left (List.getElem?_eq_some_iff.1 hu).1]
  exact hu)
 rw[Nat.add_assoc]
 exact this
 have hpe:p=cap:=zO
 have hqe:q=p:=zO
 subst hqe
 refine SL.val (v:=.slice (some ⟨b,off,none⟩) 0 0) ho E (fun a w ha _=>?_) (h _ ⟨hk.len,.inl ⟨_,E,by simp⟩⟩)
 simp only[execOp,ho.op,Instr.sliceAt,Instr.slice,Option.map]
 simp[ha.eval hx,ha.eval hy,ha.eval hz,Ay hty,CU hsz,Instr.sliceBounds,Instr.sliceBound,asIntOf,CA,hpe]
end

section
variable {K:Nat→Prop}{w0:World}{H:List AW}
def vT{σ α:Type}(bk:Nat)(I:(Nat→Prop)→World→Prop)(C:α→σ→List AW)(pl:BP→σ→Option (Ad×σ)):Prop:=
 ∀ {K:Nat→Prop} {w0:World} {H:List AW} {v4 v5:Value} {a:α} {x:BP} {q:σ} {r:Ad×σ},I K w0→pl x q=some r→CD K w0 AJ 4 v4 x.rows→CD K w0 Af 2 v5 x.kids→
  zC K w0 89 [vP bk 0,.agg #[vI x.kind,AA x.cx,AA x.cy,vI x.lev,v4,v5,AA x.npage,vS x.ntag]] (C a q) H (fun u M=>u=.agg (Af r.1).toArray∧∃a',M=C a' r.2)
def Po{σ:Type}(rec_:Bd→σ→Option (Ad×σ)):List Bd→σ→List Ad→Option (List Ad×σ)
 | [],q,acc=>some (acc,q)
 | k::ks,q,acc=>(rec_ k q).bind fun y=>(Ci 24 acc [y.1]).bind fun a=>Po rec_ ks y.2 a
def OP{σ:Type}(pl:BP→σ→Option (Ad×σ))(l:List AM):Nat→Ad→σ→Option (Ad×σ)
 | 0,r,q=>some (r,q)
 | j+1,r,q=>(Cr l (4*(j:Int)) (min (l.length:Int) (4*(j:Int)+4))).bind fun p=>(pl ⟨1,0,0,0,p,[],r.page,r.tag⟩ q).bind fun y=>OP pl l j y.1 y.2
def OU{σ:Type}(pl:BP→σ→Option (Ad×σ)):Nat→Bd→σ→Option (Ad×σ)
 | 0,_,_=>none
 | f+1,t,q=>if 1048576<t.rows.length∨1048576<t.kids.length then none else cond (decide (0<(t.kids.length:Int)))
   ((Po (OU pl f) t.kids q []).bind fun y=>pl ⟨2,t.cx,t.cy,t.lev,[],y.1,0,[]⟩ y.2)
   (OP pl t.rows ((max t.rows.length 1-1) / 4+1) ⟨0,[]⟩ q)
theorem YY{σ α:Type}{bk:Nat}{I:(Nat→Prop)→World→Prop}{C:α→σ→List AW}{pl:BP→σ→Option (Ad×σ)}(hI:∀ {K w0 K' w1},I K w0→Wc K w0 K' w1→I K' w1)(hpl:vT bk I C pl):
  ∀(f:Nat) {K:Nat→Prop} {w0:World} {H:List AW} {ca:α} {a:E5} {t:Bd} {q:σ} {r:Ad×σ},I K w0→OU pl f t q=some r→Nr K w0 a t→
  zC K w0 56 [vP bk 0,.agg (B8 a).toArray] (C ca q) H (fun u M=>u=.agg (Af r.1).toArray∧∃ca',M=C ca' r.2)
 | 0,K,w0,H,ca,a,t,q,r,hi,h,hN=>by cases h
 | f+1,K,w0,H,ca,a,t,q,r,hi,h,hN=>by
  have h:(if 1048576<t.rows.length∨1048576<t.kids.length then none else cond (decide (0<(t.kids.length:Int)))
   ((Po (OU pl f) t.kids q []).bind fun y=>pl ⟨2,t.cx,t.cy,t.lev,[],y.1,0,[]⟩ y.2)
   (OP pl t.rows ((max t.rows.length 1-1) / 4+1) ⟨0,[]⟩ q))=some r:=h
  split at h
  cases h
  rename_i hbig
  have hrl:t.rows.length≤1048576:=zO
  have hkl:t.kids.length≤1048576:=zO
  clear hbig
  obtain⟨rv,kv,rfl,hr,hk⟩:=hN.parts
  refine Ua.enter Tryz.func56 rfl rfl ?_
  refine Z ?_
  refine Bf E E zU fun b0=>?_
  refine Ag E DX zU fun b1=>?_
  refine V (AE (Z (AD E Jj (AF 1 US E (To hk E Oc E (Y E Ca (V ?_)))))))
  refine AT h E (fun hc1 h=>?_) fun hc1 h=>?_
  refine Z (AD rfl Oj (Ac [AA t.cx,AA t.cy,vI t.lev] rfl Es rfl rfl (Ce 1 rfl (by rintro(_ | (_ | (_ | j))) u hj<;>first | exact hj | exact absurd hj zS)) (BJ [_,_] rfl QH QN Gy ⟨rfl,rfl,trivial⟩ rfl ?_)))
  refine Ag E Gy zU fun b5=>?_
  refine Ak 0 E E E E HL E E E zT (Du 0 (AP b5 (.cells #[vI 2,AA t.cx,AA t.cy,vI t.lev,zN,zN,AA 0,vS []] 148)) (Bk 31 2 Af (V (AE (Z (O E (V (AN ?_))))))))
  refine SX.heap (SX.mono (A6 (α:=Nat×List Ad×Value×σ×α) (fun x=>x.1≤t.kids.length∧((Po (OU pl f) (t.kids.drop x.1) x.2.2.2.1 x.2.1).bind fun y=>pl ⟨2,t.cx,t.cy,t.lev,[],y.1,0,[]⟩ y.2)=some r)
   (fun x=>[(0,vP bk 0),(3,vP b0 0),(4,vP b1 0),(5,vP b5 0),(6,vI (x.1:Int))])
   (fun x=>AP b5 (.cells #[vI 2,AA t.cx,AA t.cy,vI t.lev,zN,x.2.2.1,AA 0,vS []] 148)::AH 31 2 x.2.2.1 Af x.2.1::AP b1 (.cells #[AA 0,vS []] 31)::AP b0 (.cells #[AA t.cx,AA t.cy,vI t.lev,rv.val,kv.val] 57)::(C x.2.2.2.2 x.2.2.2.1++H))
   (fun x=>t.kids.length-x.1) (fun x D hp=>?_) (0,[],zN,q,ca) ⟨Nat.zero_le _,h⟩) tL) (BG [1,0,2,3] 4 rfl rfl rfl)
  clear h
  obtain⟨i,ks,vk,q1,ca1⟩:=x
  obtain⟨hi',h⟩:=hp
  dsimp only at hi' h ⊢
  refine AE (Z (J E (AD E Jj (AF 3 US E (To hk E Oc E (Y E Aw (V ?_)))))))
  refine As E (fun hc2=>?_) (fun hc2=>?_)
  have hlt:i<t.kids.length:=by
   have:=of_decide_eq_true hc2
   omega
  clear hc2
  have hnth:Aq t.kids (i:Int)=some t.kids[i]:=by
   rw[Aq,if_pos zO]
   exact List.getElem?_eq_getElem hlt
  rw[List.drop_eq_getElem_cons hlt,Po]at h
  refine AC h fun z hz h=>?_
  obtain⟨y,hy,hz⟩:=bnd hz
  obtain⟨ac,hac,hz⟩:=bnd hz
  have h2:((Po (OU pl f) (t.kids.drop (i+1)) y.2 ac).bind fun y=>pl ⟨2,t.cx,t.cy,t.lev,[],y.1,0,[]⟩ y.2)=some r:=by
   rw[hz];exact h
  refine AI (AG (AE (AN (Ai CY [0,3] (Bm [(true,0),(true,1),(true,2),(true,3),(true,4),(true,5),(true,6),(true,7),(false,8),(false,9),(false,10),(true,11)] (.last 12 .nil)) zK (AD E Dn (AF 0 Hq E (J E (AD E Jj (AF 1 US E (J E ?_))))))))))
  refine gc hnth hk E Oc H7 E E fun b6 of6 rv6 kv6 hr6 hk6 hc6=>?_
  obtain⟨rs6,rfl⟩:=hr6.slv
  obtain⟨kk6,hk61,hk62⟩:=hk6
  obtain⟨ks6,rfl⟩:=hk61.slv
  have hN6:Nr K w0 ⟨t.kids[i].cx,t.kids[i].cy,t.kids[i].lev,rs6,ks6⟩ t.kids[i]:=Nr.of hr6 ⟨kk6,hk61,hk62⟩
  refine Ac [AA t.kids[i].cx,AA t.kids[i].cy,vI t.kids[i].lev,rs6.val,ks6.val] E Lc E E (C7 hc6) ?_
  refine SL.heap ?_ (fun _ hw=>EE (A:=[AP b5 (.cells #[vI 2,AA t.cx,AA t.cy,vI t.lev,zN,vk,AA 0,vS []] 148),AH 31 2 vk Af ks,AP b1 (.cells #[AA 0,vS []] 31),AP b0 (.cells #[AA t.cx,AA t.cy,vI t.lev,rv.val,kv.val] 57)]) (B:=C ca1 q1) (R:=H) hw)
  have hcon:=YY hI hpl f (ca:=ca1) (K:=K) (w0:=w0) (H:=([AP b5 (.cells #[vI 2,AA t.cx,AA t.cy,vI t.lev,.slice none 0 0,vk,AA 0,vS []] 148),AH 31 2 vk Af ks,AP b1 (.cells #[AA 0,vS []] 31),AP b0 (.cells #[AA t.cx,AA t.cy,vI t.lev,rv.val,kv.val] 57)]++H)++[BU D]) hi hy hN6
  generalize hpo:(fun(u:Value) (M:List AW)=>u=.agg (Af y.1).toArray∧∃ca',M=C ca' y.2)=po at hcon
  refine Bg (vs:=[_,_]) (Hin:=C ca1 q1) (Hr:=[AP b5 (.cells #[vI 2,AA t.cx,AA t.cy,vI t.lev,zN,vk,AA 0,vS []] 148),AH 31 2 vk Af ks,AP b1 (.cells #[AA 0,vS []] 31),AP b0 (.cells #[AA t.cx,AA t.cy,vI t.lev,rv.val,kv.val] 57)]++H) E E ⟨E,E,zT⟩ im E E hcon ?_
  intro u0 M0 hpost
  rw[←hpo]at hpost
  obtain⟨rfl,ca2,rfl⟩:=hpost
  refine⟨Ey.mid (A:=[AP b5 (.cells #[vI 2,AA t.cx,AA t.cy,vI t.lev,zN,vk,AA 0,vS []] 148),AH 31 2 vk Af ks,AP b1 (.cells #[AA 0,vS []] 31),AP b0 (.cells #[AA t.cx,AA t.cy,vI t.lev,rv.val,kv.val] 57)]) ⟨⟨0,rfl⟩,⟨3,rfl⟩,trivial⟩,?_⟩
  refine SL.heap ?_ (fun _ hw=>EE (A:=C ca2 y.2) (B:=[AP b5 (.cells #[vI 2,AA t.cx,AA t.cy,vI t.lev,zN,vk,AA 0,vS []] 148),AH 31 2 vk Af ks,AP b1 (.cells #[AA 0,vS []] 31),AP b0 (.cells #[AA t.cx,AA t.cy,vI t.lev,rv.val,kv.val] 57)]) (R:=H) hw)
  refine Bz [_] rfl E1 DD DX ⟨rfl,trivial⟩ rfl rfl rfl zW rfl rfl (fun _=>⟨⟨1,rfl⟩,⟨4,rfl⟩,trivial⟩) fun b8=>?_
  refine B2 Af 2 ([y.1]:List Ad) E zV E ?_
  refine CQ 2 hac (sz:=2) (enc:=Af) zV E E1 DD gH DX E zD E E E E (Bs (sz:=2) (enc:=Af) 0 zV E) (by simp[Af,Value.oneCell']) (fun _=>⟨⟨1,E⟩,⟨4,E⟩,zT⟩) fun v6=>?_
  refine AD E Dn (BK ?_)
  refine Bq 2 E fun hv6 ho6=>?_
  refine Dk 1 E E E E dC hv6 ho6 E zT (AU (Ao (AG (AK (J E (Y E (BV zO zO) (O E (AU ?_))))))))
  exact Al (i+1,ac,v6,y.2,ca2) ⟨hlt,h2⟩ (by dsimp only;omega) tL (BG [1,2,3,4] 5 E E E)
  have hge:i=t.kids.length:=by
   have:=of_decide_eq_false hc2
   omega
  subst hge
  rw[List.drop_length,Po]at h
  replace h:pl ⟨2,t.cx,t.cy,t.lev,[],ks,0,[]⟩ q1=some r:=h
  refine Ax (A3 (BO (A0 (AG (SX.pick [1,0,2,3] 4 (Z (J E (Ac [vI 2,AA t.cx,AA t.cy,vI t.lev,zN,vk,AA 0,vS []] E E6 E E (Aa 1 E) ?_))))))))
  refine SL.heap ?_ (fun _ hw=>Ys (A:=[AP b5 (.cells #[vI 2,AA t.cx,AA t.cy,vI t.lev,zN,vk,AA 0,vS []] 148),AP b1 (.cells #[AA 0,vS []] 31),AP b0 (.cells #[AA t.cx,AA t.cy,vI t.lev,rv.val,kv.val] 57)]) (B:=C ca1 q1) (R:=H) hw)
  have hcon:=CV (K:=K) (w0:=w0) (H:=([AP b5 (.cells #[vI 2,AA t.cx,AA t.cy,vI t.lev,.slice none 0 0,vk,AA 0,vS []] 148),AP b1 (.cells #[AA 0,vS []] 31),AP b0 (.cells #[AA t.cx,AA t.cy,vI t.lev,rv.val,kv.val] 57)]++H)++[BU D]) (f:=89) (B:=[AH 31 2 vk Af ks]) (Hin:=C ca1 q1) fun K' w1 hkk hB=>hpl (a:=ca1) (v4:=.slice none 0 0) (v5:=vk) (hI hi hkk) h (RQ zV) (B7 (e:=31) (v:=vk) zV (hB _ zS))
  refine Bg (vs:=[_,_]) (Hin:=AH 31 2 vk Af ks::C ca1 q1) (Hr:=[AP b5 (.cells #[vI 2,AA t.cx,AA t.cy,vI t.lev,zN,vk,AA 0,vS []] 148),AP b1 (.cells #[AA 0,vS []] 31),AP b0 (.cells #[AA t.cx,AA t.cy,vI t.lev,rv.val,kv.val] 57)]++H) E E ⟨E,E,zT⟩ oZ E E hcon ?_
  rintro _ _ ⟨_,rfl,rfl,ca2,rfl⟩
  refine⟨trivial,?_⟩
  refine SL.heap ?_ (fun _ hw=>EE (A:=AH 31 2 vk Af ks::C ca2 r.2) (B:=[AP b5 (.cells #[vI 2,AA t.cx,AA t.cy,vI t.lev,zN,vk,AA 0,vS []] 148),AP b1 (.cells #[AA 0,vS []] 31),AP b0 (.cells #[AA t.cx,AA t.cy,vI t.lev,rv.val,kv.val] 57)]) (R:=H) hw)
  refine Ak 1 E E E E DD E E E zT (V (AL (AZ ?_)))
  exact AX (ES E (BB 1 (Af r.1) Cb E E E E)) (AY (M:=C ca2 r.2) ⟨E,ca2,E⟩ fun _ hw=>Bc.pick (H:=[_,_,_,_]) hw [] 4 E)
  refine AI (AG (Z (BJ [] E Km Kl DX zT E ?_)))
  refine Ag E DX zU fun b7=>?_
  refine Ak 0 E E E E DD E E E zT (V (AE (Z (AD E Td (AF 2 FO E (B3 hr E Bt E (fk E E E (Y E (Do zO zO) (Y E (mP zO zO zO) (Y E (LC zO zO) ?_))))))))))
  refine An (u:=vI (4*(((max t.rows.length 1-1) / 4+1:Nat):Int)-4)) E E (congrArg vI zO) ?_
  refine V (AN ?_)
  refine SX.mono (A6 (α:=Nat×Ad×σ×α) (fun x=>x.1≤300000∧OP pl t.rows x.1 x.2.1 x.2.2.1=some r)
   (fun x=>[(0,vP bk 0),(3,vP b0 0),(4,vP b1 0),(7,vP b7 0),(8,vI (4*(x.1:Int)-4))])
   (fun x=>AP b7 (.cells #[AA x.2.1.page,vS x.2.1.tag] 31)::AP b1 (.cells #[AA 0,vS []] 31)::AP b0 (.cells #[AA t.cx,AA t.cy,vI t.lev,rv.val,kv.val] 57)::(C x.2.2.2 x.2.2.1++H))
   (fun x=>x.1) (fun x D hp=>?_) ((max t.rows.length 1-1) / 4+1,⟨0,[]⟩,q,ca) ⟨by dsimp only;omega,h⟩) tL
  clear h
  obtain⟨j,w,q1,ca1⟩:=x
  obtain⟨hj,h⟩:=hp
  dsimp only at hj h ⊢
  refine AE (Z (J E (Y E IW (V ?_))))
  refine As E (fun hc2=>?_) (fun hc2=>?_)
  obtain⟨j,rfl⟩:∃j',j=j'+1:=⟨j-1,by have:=of_decide_eq_true hc2;omega⟩
  clear hc2
  refine AC h fun pc hpc h=>?_
  refine AC h fun y hy h=>?_
  refine AI (AG (AE (AN (Ai CY [2,0] (Bm [(true,0),(true,1),(true,2),(true,3),(true,4),(true,5),(true,6),(true,7),(true,8),(true,9),(true,10),(true,11),(true,12),(false,13)] (.last 14 .nil)) zK (J E (AD E Td (AF 0 FO E (J E (AD E Td (AF 0 FO E (B3 hr E Bt E ?_)))))))))))
  refine J E (Y E (BV zO zO) (PW E E E ?_))
  have hpc':Cr t.rows (4*((j+1:Nat):Int)-4) (min (t.rows.length:Int) (4*((j+1:Nat):Int)-4+4))=some pc:=by
   rw[←hpc]
   congr 1<;>omega
  refine pm hpc' hr E Bt B4 E E E fun vpc hspc=>?_
  obtain⟨spc,rfl⟩:=hspc.slv
  refine Ac (Af w) E Cb E E (Aa 1 E) (BJ [_,_,_] E QH QN Gy ⟨E,E,E,zT⟩ E ?_)
  refine SL.heap ?_ (fun _ hw=>EE (A:=[AP b7 (.cells #[AA w.page,vS w.tag] 31),AP b1 (.cells #[AA 0,vS []] 31),AP b0 (.cells #[AA t.cx,AA t.cy,vI t.lev,rv.val,kv.val] 57)]) (B:=C ca1 q1) (R:=H) hw)
  have hcon:=hpl (K:=K) (w0:=w0) (H:=([AP b7 (.cells #[AA w.page,vS w.tag] 31),AP b1 (.cells #[AA 0,vS []] 31),AP b0 (.cells #[AA t.cx,AA t.cy,vI t.lev,rv.val,kv.val] 57)]++H)++[BU D]) (a:=ca1) (v4:=spc.val) (v5:=.slice none 0 0) hi hy hspc (RQ zV)
  refine Bg (vs:=[_,_]) (Hin:=C ca1 q1) (Hr:=[AP b7 (.cells #[AA w.page,vS w.tag] 31),AP b1 (.cells #[AA 0,vS []] 31),AP b0 (.cells #[AA t.cx,AA t.cy,vI t.lev,rv.val,kv.val] 57)]++H) E E ⟨E,E,zT⟩ oZ E E hcon ?_
  rintro _ _ ⟨rfl,ca2,rfl⟩
  refine⟨Ey.mid (A:=[AP b7 (.cells #[AA w.page,vS w.tag] 31),AP b1 (.cells #[AA 0,vS []] 31),AP b0 (.cells #[AA t.cx,AA t.cy,vI t.lev,rv.val,kv.val] 57)]) ⟨⟨2,rfl⟩,⟨0,rfl⟩,trivial⟩,?_⟩
  refine SL.heap ?_ (fun _ hw=>EE (A:=C ca2 y.2) (B:=[AP b7 (.cells #[AA w.page,vS w.tag] 31),AP b1 (.cells #[AA 0,vS []] 31),AP b0 (.cells #[AA t.cx,AA t.cy,vI t.lev,rv.val,kv.val] 57)]) (R:=H) hw)
  refine BK (Ak 0 E E E E DD E E E zT (AU (Ao (AG (AK (J E (Y E (Do zO zO) ?_)))))))
  refine An (u:=vI (4*(j:Int)-4)) E E (congrArg vI zO) ?_
  refine AU ?_
  exact Al (j,y.1,y.2,ca2) ⟨by omega,h⟩ (by dsimp only;omega) tL (fun _ h=>h)
  obtain rfl:j=0:=by
   have:=of_decide_eq_false hc2
   omega
  obtain rfl:(w,q1)=r:=zI h
  refine Ax (A3 (BO (A0 (AG (Z (Ac (Af w) E Cb E E (Aa 0 E) (Ak 1 E E E E DD E E E zT (V (AL ?_)))))))))
  exact AX (ES E (BB 1 (Af w) Cb E E E E)) (AY (M:=C ca1 q1) ⟨E,ca1,E⟩ fun _ hw=>Bc.pick (H:=[_,_,_]) hw [] 3 E)
end

section
variable {K:Nat→Prop}{w0:World}{H:List AW}
def MJ(l1:List AM):Option (List AM):=
 some l1
def Ji(a1:Int)(nx_f_ref14_sorted_l1:List AM×Int→Option (List AM))(l3:List AM):Option (List AM):=
 ret (wI (a1+1)) fun i_1=>
 nx_f_ref14_sorted_l1 (l3,i_1)
def HY(p0:List AM)(l2:List AM)(a1:Int)(nx_f_ref14_sorted_l1:List AM×Int→Option (List AM))(a2:Int):Option (List AM):=
 (Cr l2 0 a2).bind fun l4=>
 (Ci 32 [] l4).bind fun l5=>
 (Aq p0 a1).bind fun x4=>
 (Ci 32 l5 [x4]).bind fun l6=>
 (Cr l2 a2 (l2.length:Int)).bind fun l7=>
 (Ci 32 l6 l7).bind fun l8=>
 Ji a1 nx_f_ref14_sorted_l1 l8
def GF(p0:List AM)(l2:List AM)(a1:Int)(nx_f_ref14_sorted_l1:List AM×Int→Option (List AM))(nx_f_ref14_sorted_l2:Int→Option (List AM))(a3:Int):Option (List AM):=
 (FQ (decide (0<a3)) ((Aq l2 (wI (a3-1))).bind fun x1=>(Aq p0 a1).bind fun x2=>some (decide (x2.id<x1.id)))).bind fun y1=>
 cond y1
 (
  ret (wI (a3-1)) fun x3=>
  nx_f_ref14_sorted_l2 x3)
 (
  HY p0 l2 a1 nx_f_ref14_sorted_l1 a3)
def F1(p0:List AM)(l2:List AM)(a1:Int)(nx_f_ref14_sorted_l1:List AM×Int→Option (List AM)):Nat→Int→Option (List AM):=By fun nx x=>GF p0 l2 a1 nx_f_ref14_sorted_l1 nx x
def EG(n:Nat)(p0:List AM)(nx_f_ref14_sorted_l1:List AM×Int→Option (List AM))(l2:List AM)(a1:Int):Option (List AM):=
 cond (decide (a1<(p0.length:Int)))
 (
  F1 p0 l2 a1 nx_f_ref14_sorted_l1 n (l2.length:Int))
 (
  MJ l2)
def C0(n:Nat)(p0:List AM):Nat→(List AM×Int)→Option (List AM):=By fun nx x=>EG n p0 nx x.1 x.2
def Lt(n:Nat)(p0:List AM):Option (List AM):=
 C0 n p0 n ([],0)
theorem Xo{n:Nat}{B6:Value}{p0 r:List AM}(h:Lt n p0=some r)(hs0_:CD K w0 AJ 4 B6 p0):zC K w0 55 [B6] [] H (fun u M=>∃v0:Value,u=v0∧M=[AH 79 4 v0 AJ r]):=by
 unfold Lt at h
 refine Ua.enter Tryz.func55 rfl rfl ?_
 refine Z (Bk 79 4 AJ (O E (V (Z (Bk 79 4 AJ (O E (V ?_)))))))
 refine A5 (α:=List AM×Value) (fun x=>MJ x.1=some r) (fun x=>[(3,x.2)]) (fun x=>AH 79 4 x.2 AJ x.1::H) ?_ (fun x D h=>?_)
 refine Z (O E (V (AN ?_)))
 refine SX.heap (SX.mono (A6 (α:=Nat×List AM×Value×Int) (fun x=>C0 n p0 x.1 (x.2.1,x.2.2.2)=some r) (fun x=>[(0,B6),(3,x.2.2.1),(4,vI x.2.2.2)]) (fun x=>AH 79 4 x.2.2.1 AJ x.2.1::H) (fun x=>x.1) (fun x D h=>?_) (n,[],zN,0) h) tL) (BG [0] 2 E E E)
 obtain⟨m1,l2,v2,a1⟩:=x
 dsimp only at h
 rcases m1 with _ | m1
 cases (show(none:Option _)=some r from h)
 replace h:EG n p0 (C0 n p0 m1) l2 a1=some r:=h
 unfold EG at h
 try dsimp only
 refine AE (Z (J E (J E (B3 hs0_ E Bt E (Y E Aw (V ?_))))))
 refine AT h E (fun hc1 h=>?_) fun hc1 h=>?_
 refine AI (AG ?_)
 refine A5 (α:=List AM×Value) (fun x=>Ji a1 (C0 n p0 m1) x.1=some r) (fun x=>[(0,B6),(3,x.2),(4,vI a1)]) (fun x=>AH 79 4 x.2 AJ x.1::H) ?_ (fun x D h=>?_)
 refine AN (Z (J E (Dg 0 E Bt E E (O E (V ?_)))))
 refine A5 (α:=Int) (fun x=>HY p0 l2 a1 (C0 n p0 m1) x=some r) (fun x=>[(0,B6),(3,v2),(4,vI a1),(5,vI x)]) (fun x=>AH 79 4 v2 AJ l2::H) ?_ (fun a2 D h=>?_)
 refine AN ?_
 refine SX.heap (SX.mono (A6 (α:=Nat×Int) (fun x=>F1 p0 l2 a1 (C0 n p0 m1) x.1 x.2=some r) (fun x=>[(0,B6),(3,v2),(4,vI a1),(5,vI x.2)]) (fun x=>AH 79 4 v2 AJ l2::H) (fun x=>x.1) (fun x D h=>?_) (n,(l2.length:Int)) h) tL) (BG [0] 1 E E E)
 obtain⟨m2,a3⟩:=x
 dsimp only at h
 rcases m2 with _ | m2
 cases (show(none:Option _)=some r from h)
 replace h:GF p0 l2 a1 (C0 n p0 m1) (F1 p0 l2 a1 (C0 n p0 m1) m2) a3=some r:=h
 unfold GF at h
 try dsimp only
 refine AE (AE ?_)
 refine AC h fun y1 hy1 h=>?_
 refine Ai CY [0] (Pl.of [(true,0),(true,1),(true,2),(true,3),(true,4),(true,5),(true,6),(true,7),(true,8),(true,9),(true,10),(true,11),(true,12),(true,13),(true,14),(true,15)]) zK (J E (Y E Ca (J E ?_)))
 refine D9 17 13 30 hy1 E (fun hb hg1 k=>?_) (fun hb k=>?_) ?_
 obtain⟨x1,hx1,hg1⟩:=bnd hg1
 obtain⟨x2,hx2,hg1⟩:=bnd hg1
 obtain rfl:=zI hg1
 refine J E (J E (Y E B5 ?_))
 refine BR 0 hx1 E Bt B4 E E E fun g1 m3 cp1 hv1=>?_
 refine AD E Ny ?_
 refine Bi E NM E (Br (sz:=4) (enc:=AJ) 0 0 zV E hv1 hx1 E) ?_
 refine J E (J E ?_)
 refine Cj hx2 hs0_ E Bt B4 E E fun be1 of1 hc2=>?_
 refine AD E Ny ?_
 refine Bi E NM E (DS (j:=0) hc2 E) ?_
 refine Y E Oz (Ae E E E ?_)
 exact k.mono tL
 refine AB E (AB E (AB E (AB E (AB E (AB E (AB E (AB E ?_)))))))
 refine AB E (AB E (AB E (AB E (Ae E E E ?_))))
 exact k.mono tL
 refine V ?_
 refine AT h E (fun hc3 h=>?_) fun hc3 h=>?_
 refine AI (AG (AN (AK ?_)))
 obtain⟨x3,ex3,h⟩:=Bp h
 refine J E (Y E B5 ?_)
 refine An (u:=vI x3) E E (congrArg vI ex3) ?_
 refine AU (Ao ?_)
 exact Al (m2,x3) h (Nat.lt_succ_self _) tL (BG [0] 1 E E E)
 refine Ax (A3 (BO (A0 ?_)))
 exact Au a3 h tL (BG [0] 1 E E E)
 unfold HY at h
 try dsimp only
 refine Z (Bk 79 4 AJ (O E (V (Z ?_))))
 refine AC h fun l4 hl4 h=>?_
 refine AC h fun l5 hl5 h=>?_
 refine J E (J E (J E ?_))
 refine p9 (enc:=AJ) (sz:=4) 1 hl4 zV E Bt B4 E E E fun v4 pc1=>?_
 refine f4 0 hl5 pc1 (sz:=4) (enc:=AJ) zV E Bt B4 PM EN E zD E E E (by simp[AJ,Value.oneCell']) zU fun v5=>?_
 refine O E (V (Z ?_))
 refine AC h fun x4 hx4 h=>?_
 refine AC h fun l6 hl6 h=>?_
 refine J E (J E (J E ?_))
 refine Cj hx4 hs0_ E Bt B4 E E fun be2 of2 hc4=>?_
 refine Ac (AJ x4) E Ex E E (C7 hc4) ?_
 refine Bz [_] rfl Bt B4 EN ⟨rfl,trivial⟩ rfl rfl rfl zW rfl rfl zU fun b1=>?_
 refine B2 AJ 4 ([x4]:List AM) E zV E ?_
 refine CQ 1 hl6 (sz:=4) (enc:=AJ) zV E Bt B4 PM EN E zD E E E E (Bs (sz:=4) (enc:=AJ) 0 zV E) (by simp[AJ,Value.oneCell']) zU fun v6=>?_
 refine O E (V (AK ?_))
 refine AC h fun l7 hl7 h=>?_
 refine AC h fun l8 hl8 h=>?_
 refine J E (J E (J E ?_))
 refine pG (enc:=AJ) (sz:=4) 2 hl7 zV E Bt B4 E E E fun v7 pc2=>?_
 refine f4 1 hl8 pc2 (sz:=4) (enc:=AJ) zV E Bt B4 PM EN E zD E E E (by simp[AJ,Value.oneCell']) zU fun v8=>?_
 refine O E (AU (Ao ?_))
 exact Au (l8,v8) h tL (BG [1] 3 E E E)
 obtain⟨l3,v3⟩:=x
 dsimp only at h
 unfold Ji at h
 try dsimp only
 refine AK ?_
 obtain⟨i_1,ei_1,h⟩:=Bp h
 refine J E (Y E Az ?_)
 refine An (u:=vI i_1) E E (congrArg vI ei_1) ?_
 refine AU ?_
 exact Al (m1,l3,v3,i_1) h (Nat.lt_succ_self _) tL (BG [0] 1 E E E)
 refine Ax (A3 (BO (A0 ?_)))
 exact Au (l2,v2) h tL (BG [0] 1 E E E)
 obtain⟨l1,v1⟩:=x
 dsimp only at h
 unfold MJ at h
 try dsimp only
 refine Z (J E (O E (V (AL ?_))))
 obtain rfl:=zI h
 exact DL [0] 1 (Df E E) E E ⟨v1,E,E⟩
end

section
variable {K:Nat→Prop}{w0:World}{H:List AW}
def dI(n:Nat)(T:List UInt32):Nat→Ds→B1→BI→Ad→Option Ds
 | 0=>fun _ _ _ _=>none
 | f+1=>EC (dI n T f) n T
theorem pM(n:Nat)(T:List UInt32):∀(f:Nat) {K:Nat→Prop} {w0:World} {H:List AW} {BD:Nat} {Ap:Value} {CJ:Value} {A1:Nat} {BY:Value} {EU:Value} {CT:Nat} {DK:Value} {DI:Value} {DG:Value} {p0:Ds} {p0_1:B1} {p0_2:BI} {p1:Ad} {r:Ds},dI n T f p0 p0_1 p0_2 p1=some r→JJ K w0 2 64 T→zC K w0 54 [vP BD 0,.agg (Af p1).toArray] [AP BD (.cells #[vP A1 0,Ap,CJ,vI p0.count,vI p0.err] 110),AH 72 3 Ap Ah p0.out,AH 79 4 CJ AJ p0.rows,AP A1 (.cells #[vP CT 0,BY,AA p0_1.gen,AA p0_1.boot,Ar p0_1.num,EU] 69),AH 138 2 BY BA p0_1.ring,AH 4 1 EU eB p0_1.taken,AP CT (.cells #[DK,DI,DG,Ar p0_2.rcnt,vS p0_2.rtag,AA p0_2.rboots,vI p0_2.left,vB p0_2.off] 132),AH 9 1 DK eS p0_2.blk,AH 9 1 DI eS p0_2.pnd,AH 4 1 DG eB p0_2.bads] H (fun u M=>∃vs0_0_1 vs0_0_2:Value,u=.tuple #[]∧M=[AP BD (.cells #[vP A1 0,vs0_0_1,vs0_0_2,vI r.count,vI r.err] 110),AH 72 3 vs0_0_1 Ah r.out,AH 79 4 vs0_0_2 AJ r.rows,AP A1 (.cells #[vP CT 0,BY,AA p0_1.gen,AA p0_1.boot,Ar p0_1.num,EU] 69),AH 138 2 BY BA p0_1.ring,AH 4 1 EU eB p0_1.taken,AP CT (.cells #[DK,DI,DG,Ar p0_2.rcnt,vS p0_2.rtag,AA p0_2.rboots,vI p0_2.left,vB p0_2.off] 132),AH 9 1 DK eS p0_2.blk,AH 9 1 DI eS p0_2.pnd,AH 4 1 DG eB p0_2.bads])
 | 0,K,w0,H,BD,Ap,CJ,A1,BY,EU,CT,DK,DI,DG,p0,p0_1,p0_2,p1,r,h,_=>by cases h
 | f+1,K,w0,H,BD,Ap,CJ,A1,BY,EU,CT,DK,DI,DG,p0,p0_1,p0_2,p1,r,h,hT=>TC h hT (fun h=>pM n T f h hT)
abbrev U2(bv bd:Nat)(vr vt v0 v1 v2:Value)(v:B1)(d:BI):List AW:=
 [AP bv (.cells #[vP bd 0,vr,AA v.gen,AA v.boot,Ar v.num,vt] 69),AH 138 2 vr BA v.ring,AH 4 1 vt eB v.taken,AP bd (.cells #[v0,v1,v2,Ar d.rcnt,vS d.rtag,AA d.rboots,vI d.left,vB d.off] 132),AH 9 1 v0 eS d.blk,AH 9 1 v1 eS d.pnd,AH 4 1 v2 eB d.bads]
def Vq(n:Nat)(T:List UInt32)(v:B1)(d:BI)(r:Ad):Option (List AM×List A4×Int):=
 (dI n T n ⟨[],[],0,0⟩ v d r).bind fun x=>
 cond (!decide (x.err=0)) (some ([],[],x.err))
  ((Lt n x.rows).bind fun l=>(OE n l).bind fun b=>
   cond (!decide (b.2=0)) (some ([],[],61))
    ((OU (NC n x.out) n b.1 ⟨[],0⟩).bind fun y=>
     cond ((!decide (y.2.err=0) || !decide ((y.2.out.length:Int)=(x.out.length:Int))) || !(decide (y.1.page=r.page)&&(decide (y.1.tag=r.tag)&&true))) (some ([],[],61)) (some (l,x.out,0))))
theorem mG{n bv bd:Nat}{T:List UInt32}{vr vt v0 v1 v2:Value}{v:B1}{d:BI}{p:Ad}{r:List AM×List A4×Int}(h:Vq n T v d p=some r)(hT:JJ K w0 2 64 T):
  zC K w0 16 [vP bv 0,.agg (Af p).toArray] (U2 bv bd vr vt v0 v1 v2 v d) H (fun u M=>∃u0 u1:Value,u=.tuple #[u0,u1,vI r.2.2]∧M=AH 79 4 u0 AJ r.1::AH 72 3 u1 Ah r.2.1::U2 bv bd vr vt v0 v1 v2 v d):=by
 unfold Vq at h
 refine AC h fun x hx h=>?_
 refine Ua.enter Tryz.func16 rfl rfl ?_
 refine Z ?_
 refine Bf E E zU fun b3=>?_
 refine O E (O E (O E (V (Z (J E (BJ [_] E ud u9 tR ⟨E,zT⟩ E ?_))))))
 refine Bf E E zU fun b7=>?_
 refine O E (V (M5 79 4 AJ (M5 72 3 Ah (Z (J E (Ac (Af p) E Cb E E (Aa 3 E) (SL.pick [2,0,1,4,5,6,7,8,9,10,3] 11 (Bn 10 iX (pM n T n hx hT) E ?_))))))))
 rintro _ _ ⟨vo,vw,rfl,rfl⟩
 refine V (AE (Z (J E (AV E E (AD E Qn (AF 0 PO E (Y E Bb (V ?_))))))))
 refine AT h E (fun hc1 h=>?_) fun hc1 h=>?_
 obtain rfl:=zI h
 refine AE (Ai CY [0] (Pl.of [(true,0),(true,1),(true,2),(true,3),(true,4),(true,5),(true,6)]) zK (J E (AV E E (AD E Qn (AF 0 PO E (O E (O E (O E (V (AL (AZ ?_)))))))))))
 refine GK 72 3 Ah (GK 79 4 AJ ?_)
 exact AX (SU E E E E) (AY (M:=_::_::U2 bv bd vr vt v0 v1 v2 v d) ⟨_,_,E,E⟩ fun _ hw=>Bc.pick (H:=[_,_,_,_,_,_,_,_,_,_,_,_,_]) hw [0,1,5,6,7,8,9,10,11] 13 E)
 refine AC h fun l hl h=>?_
 refine AC h fun b hb h=>?_
 refine AI (AG (Z (J E (AV E E (AD E Yc (AF 0 FO E (SL.pick [2,0,1,3,4,5,6,7,8,9,10] 11 ?_)))))))
 refine Bg (vs:=[_]) (Hin:=[_]) (Hr:=_::_::_::_::_::_::_::_::_::_::_) E E ⟨E,zT⟩ t0 E E (CV (B:=[_]) (Hin:=[]) fun K' w1 hk hB=>Xo hl (B7 (e:=79) (v:=vw) zV (hB _ zS))) ?_
 rintro vl _ ⟨_,rfl,_,rfl,rfl⟩
 refine⟨trivial,?_⟩
 refine O E (V (Z (J E (SL.pick [1,0,2,3,4,5,6,7,8,9,10,11] 12 ?_))))
 refine Bg (vs:=[_]) (Hin:=[_]) (Hr:=_::_::_::_::_::_::_::_::_::_::_::_) E E ⟨E,zT⟩ pJ E E (CV (B:=[_]) (Hin:=[]) fun K' w1 hk hB=>ZC hb (B7 (e:=79) (v:=vl) zV (hB _ zS))) ?_
 rintro _ _ ⟨_,rfl,nv,L,rfl,hnz,rfl⟩
 refine⟨trivial,?_⟩
 refine J E (Am E E E (Am E E E ?_))
 refine Ag E JA zU fun b9=>?_
 refine Ak 0 E E E E H7 E (List.all_eq_true.2 (Hd nv)) E zT (O E (V (AE (Z (J E (Y E Bb (V ?_)))))))
 refine AT h E (fun hc2 h=>?_) fun hc2 h=>?_
 obtain rfl:=zI h
 refine Z (O E (O E (O E (V (AL (AZ (GK 72 3 Ah (GK 79 4 AJ ?_))))))))
 exact AX (SU E E E E) (AY (M:=_::_::U2 bv bd vr vt v0 v1 v2 v d) ⟨_,_,E,E⟩ fun _ hw=>Bc.pick (H:=[_,_,_,_,_,_,_,_,_,_,_,_,_,_,_,_]) hw [0,1,8,9,10,11,12,13,14] 16 E)
 refine AC h fun y hy h=>?_
 refine AI (AG (Z (J E (AV E E (AD E Sh (AF 4 In E ?_))))))
 refine Qi 5 E fun so hso=>?_
 subst hso
 refine BJ [_] E ol om nP ⟨E,zT⟩ E ?_
 refine Bf E E zU fun b10=>?_
 refine O E (V (M5 72 3 Ah (Z (J E (Ac (B8 nv) E Lc E E (Aa 2 E) (SL.pick [7,4,1,0,2,3,5,6,8,9,10,11,12,13,14,15] 16 ?_))))))
 refine Bg (vs:=[_,_]) (Hin:=[_,_,_,_]) (Hr:=_::_::_::_::_::_::_::_::_::_::_::_::_) E E ⟨E,E,zT⟩ im E E (CV (B:=[_,_]) (Hin:=[_,_]) fun K' w1 hk hB=>YY (bk:=b10) (I:=fun K w=>CD K w Ah 3 so.val x.out) (C:=fun a (q:Ty)=>[AP b10 (.cells #[.pointer none,zN,a,zN,vI q.err,so.val] 115),AH 72 3 a Ah q.out]) (fun h hk=>h.keeps hk) (fun hi h h4 h5=>mU h hi h4 h5) n (ca:=zN) (B7 (e:=72) (v:=so.val) zV (hB _ zS)) hy (hnz.lent (hB _ zS))) ?_
 rintro _ _ ⟨_,rfl,rfl,ca2,rfl⟩
 refine⟨trivial,?_⟩
 refine Ag E DX zU fun b12=>?_
 refine Ak 0 E E E E DD E E E zT (V (AE (AE (Ai CY [3,4,8,1,0,16] (Pl.of [(true,0),(true,1),(true,2),(true,3),(true,4),(true,5),(true,6),(true,7),(true,8),(true,9),(true,10),(true,11),(true,12),(true,13),(true,14),(true,15),(true,16),(true,17),(true,18),(true,19),(true,20),(true,21),(true,22)]) zK (J E (AV E E (AD E Ko (AF 0 PO E (Y E Bb (J E ?_))))))))))
 refine C9 (c := !decide ((y.2.out.length:Int)=(x.out.length:Int))) 54 12 66 E (fun hb k=>?_) (fun hb k=>?_) ?_
 refine AB E (AB E (AB E (AB E (AB E (AB E (AB E (AB E ?_)))))))
 refine AB E (AB E (AB E (Ae E E E ?_)))
 exact k.mono tL
 refine J E (AV E E (AD E Mt (AF 0 In E (Dg 1 E FD E E (J E (AV E E (AD E Sh ?_)))))))
 refine AF 2 In E (Dg 3 E FD E E (Y E Bb (Ae E E E ?_)))
 exact k.mono tL
 refine J E ?_
 refine C9 (c := !(decide (y.1.page=p.page)&&(decide (y.1.tag=p.tag)&&true))) 67 4 71 E (fun hb k=>?_) (fun hb k=>?_) ?_
 refine AB E (AB E (AB E (Ae E E E ?_)))
 exact k.mono tL
 refine Ac (Af y.1) E Cb E E (Aa 4 E) (Ac (Af p) E Cb E E (Aa 5 E) ?_)
 refine Qs E gG E E (Cc E E (KD (a:=y.1.page) (b:=p.page)) (Cc E E (Sp (a:=y.1.tag) (b:=p.tag)) If)) ?_
 refine Ae E E E ?_
 exact k.mono tL
 refine V ?_
 refine AT h E (fun hc3 h=>?_) fun hc3 h=>?_
 obtain rfl:=zI h
 refine Z (O E (O E (O E (V (AL (AZ (GK 72 3 Ah (GK 79 4 AJ ?_))))))))
 exact AX (SU E E E E) (AY (M:=_::_::U2 bv bd vr vt v0 v1 v2 v d) ⟨_,_,E,E⟩ fun _ hw=>Bc.pick (H:=[_,_,_,_,_,_,_,_,_,_,_,_,_,_,_,_,_,_,_]) hw [0,1,11,12,13,14,15,16,17] 19 E)
 obtain rfl:=zI h
 refine AI (AG (AE (Ai CY [8] (Pl.of [(true,0),(true,1),(true,2),(true,3),(true,4),(true,5),(true,6),(true,7)]) zK (J E (J E (AV E E (AD E Sh (AF 0 In E (O E (O E ?_))))))))))
 refine O E (V (AL ?_))
 exact AX (SU E E E E) (AY (M:=AH 79 4 vl AJ l::AH 72 3 so.val Ah x.out::U2 bv bd vr vt v0 v1 v2 v d) ⟨_,_,E,E⟩ fun _ hw=>Bc.pick (H:=[_,_,_,_,_,_,_,_,_,_,_,_,_,_,_,_,_]) hw [6,1,9,10,11,12,13,14,15] 17 E)
end

section
variable {K:Nat→Prop}{w0:World}{H:List AW}
end

section
variable {K:Nat→Prop}{w0:World}{H:List AW}
structure Up where
 out:List A4
 took:List UInt32
 err:Int
def Pc(n:Nat)(T:List UInt32)(had:List A4)(s:List UInt8)(out:List A4)(tk:List UInt32)(e:Int)(v:B1)(d:BI):Option (Ad×(Up×B1×BI)):=
 cond (!decide (e=0)) (some (⟨0,[]⟩,(⟨out,tk,e⟩,v,d)))
  (if 1048576<had.length then none else match had.find? (fun x=>decide (x.txt=s))with
   | some x=>(Ci 40 out [⟨s,x.page,x.tag⟩]).bind fun l=>some (⟨x.page,x.tag⟩,(⟨l,tk,e⟩,v,d))
   | none=>(GD n T v d s).bind fun w=>cond (!decide (w.2.1=0)) (some (⟨0,[]⟩,(⟨out,tk,w.2.1⟩,w.2.2)))
     ((Ci 4 tk [w.1.page]).bind fun k=>(Ci 40 out [⟨s,w.1.page,w.1.tag⟩]).bind fun l=>some (w.1,(⟨l,k,e⟩,w.2.2))))
def N0(n:Nat)(T:List UInt32)(had:List A4)(x:BP)(q:Up×B1×BI):Option (Ad×(Up×B1×BI)):=
 (EK n x).bind fun y=>Pc n T had y.1 q.1.out q.1.took (bif !decide (y.2=0)&&decide (q.1.err=0)then y.2 else q.1.err) q.2.1 q.2.2
abbrev uu(bk bv bd:Nat)(vh vr vt v0 v1 v2:Value)(a:Value×Value)(q:Up×B1×BI):List AW:=
 AP bk (.cells #[vP bv 0,vh,a.1,a.2,vI q.1.err,.slice none 0 0] 115)::AH 72 3 a.1 Ah q.1.out::AH 29 1 a.2 Bw q.1.took::U2 bv bd vr vt v0 v1 v2 q.2.1 q.2.2
theorem ms{n bk bv bd:Nat}{T:List UInt32}{vh vr vt v0 v1 v2 v4 v5:Value}{a:Value×Value}{had:List A4}{x:BP}{q:Up×B1×BI}{r:Ad×(Up×B1×BI)}(h:N0 n T had x q=some r)(hT:JJ K w0 2 64 T)(hm:CD K w0 Ah 3 vh had)(hs4:CD K w0 AJ 4 v4 x.rows)(hs5:CD K w0 Af 2 v5 x.kids):
  zC K w0 89 [vP bk 0,.agg #[vI x.kind,AA x.cx,AA x.cy,vI x.lev,v4,v5,AA x.npage,vS x.ntag]] (uu bk bv bd vh vr vt v0 v1 v2 a q) H
   (fun u M=>u=.agg (Af r.1).toArray∧∃a',M=uu bk bv bd vh vr vt v0 v1 v2 a' r.2):=by
 obtain⟨⟨out,tk,er⟩,v,d⟩:=q
 obtain⟨vo,vk⟩:=a
 unfold N0 at h
 obtain⟨⟨s,e⟩,hy,h⟩:=bnd h
 dsimp only at h
 refine Ua.enter Tryz.func89 rfl rfl ?_
 refine Z ?_
 refine Bf E E zU fun b0=>?_
 refine Ag E DX zU fun b1=>?_
 refine V (Z (Ac [vI x.kind,AA x.cx,AA x.cy,vI x.lev,v4,v5,AA x.npage,vS x.ntag] E E6 E E (Aa 1 E) (AQ 0 kA (R7 hy hs4 hs5) E (J E (Am E E E (Am E E E (O E (O E (V ?_)))))))))
 refine A5 (α:=Int) (fun e=>Pc n T had s out tk e v d=some r) (fun _=>[(0,vP bk 0),(4,vP b1 0),(5,vS s)]) (fun e=>AP b1 (.cells #[AA 0,vS []] 31)::AP b0 (.cells #[vI x.kind,AA x.cx,AA x.cy,vI x.lev,v4,v5,AA x.npage,vS x.ntag] 148)::AP bk (.cells #[vP bv 0,vh,vo,vk,vI e,zN] 115)::AH 72 3 vo Ah out::AH 29 1 vk Bw tk::(U2 bv bd vr vt v0 v1 v2 v d++H)) ?_ (fun e D h=>?_)
 refine Z (J E (Y E Bb (J E ?_)))
 refine C5 (c:=decide (er=0)) 18 6 24 E (fun hb k=>?_) (fun hb k=>?_) ?_
 refine J E (AV E E (AD E Ko (AF 2 PO E (Y E CE (Ae E E E ?_)))))
 exact k.mono tL
 refine AB E (AB E (AB E (AB E (AB E (Ae E E E ?_)))))
 exact k.mono tL
 refine V ?_
 refine As E (fun hc1=>?_) (fun hc1=>?_)
 rw[hc1,BZ]at h
 refine AK (J E (J E (AV E E (AD E Ko (Ak 2 E E E E XR E E E zT (AU ?_))))))
 exact Au e h tL (fun _ h=>h)
 rw[hc1,A9]at h
 refine AI ?_
 exact Au er h tL (fun _ h=>h)
 unfold Pc at h
 refine AE (Z (J E (AV E E (AD E Ko (AF 2 PO E (Y E Bb (V ?_)))))))
 refine AT h E (fun hc2 h=>?_) fun hc2 h=>?_
 obtain rfl:=zI h
 refine Z (BJ [] E Km Kl DX zT E (Ak 0 E E E E DD E E E zT (V (AL (AZ ?_)))))
 exact AX (ES E (BB 0 (Af ⟨0,[]⟩) Cb E E E E)) (AY (M:=_::_::_::_::_::_::_::_::_::_::[]) ⟨E,(vo,vk),E⟩ fun _ hw=>Bc.pick (H:=[_,_,_,_,_,_,_,_,_,_,_,_]) hw [2,3,4,5,6,7,8,9,10,11] 12 E)
 have he:e=0:=by simpa using hc2
 split at h
 cases h
 rename_i hbig
 refine AI (AG (AE (Z (J E (AV E E (AD E YF (AF 2 j7 E (Fu E sw E E (V (D5 E (AI (AG (AE (Z (O E (V (AN ?_)))))))))))))))))
 refine SX.mono (A6 (α:=Nat) (fun i=>i≤had.length∧(had.drop i).find? (fun x=>decide (x.txt=s))=had.find? (fun x=>decide (x.txt=s))) (fun i=>[(0,vP bk 0),(4,vP b1 0),(5,vS s),(8,vI i)])
  (fun _=>AP b1 (.cells #[AA 0,vS []] 31)::AP b0 (.cells #[vI x.kind,AA x.cx,AA x.cy,vI x.lev,v4,v5,AA x.npage,vS x.ntag] 148)::AP bk (.cells #[vP bv 0,vh,vo,vk,vI e,zN] 115)::AH 72 3 vo Ah out::AH 29 1 vk Bw tk::(U2 bv bd vr vt v0 v1 v2 v d++H))
  (fun i=>had.length-i) (fun i D hp=>?_) 0 ⟨Nat.zero_le _,by rw[List.drop_zero]⟩) tL
 obtain⟨hi,hp⟩:=hp
 refine AE (Z (J E (J E (AV E E (AD E VU (AF 2 In E (B3 hm E FD E (Y E Aw (V ?_)))))))))
 refine As E (fun hc4=>?_) (fun hc4=>?_)
 have hlt:i<had.length:=by have:=of_decide_eq_true hc4;omega
 clear hc4
 have hx1:Aq had (i:Int)=some had[i]:=by
  rw[Aq,if_pos zO]
  exact List.getElem?_eq_getElem hlt
 rw[List.drop_eq_getElem_cons hlt,List.find?_cons]at hp
 generalize had[i]=m at hx1 hp
 refine AI (AG (AE (AN (Z (J E (AV E E (AD E VU (AF 2 In E (J E ?_)))))))))
 refine Cj hx1 hm E FD JE E E fun be1 of1 hcc1=>?_
 refine AD E X0 ?_
 refine Bi E Fm E (DS (j:=0) hcc1 E) ?_
 refine J E (Y E VP (V ?_))
 refine As E (fun hc5=>?_) (fun hc5=>?_)
 rw[hc5]at hp
 rw[←hp]at h
 refine AC h fun l hl h=>?_
 obtain rfl:=zI h
 refine AE (Ai CY [2] (Bm [(true,0),(true,1),(true,2),(true,3),(true,4),(true,5),(true,6),(true,7),(true,8),(true,9),(true,10),(true,11),(true,12),(true,13),(true,14),(false,15),(false,16),(true,17),(true,18)] (.last 19 .nil)) zK (J E (J E (AV E E (AD E Mt (AF 0 In E (J E (J E ?_))))))))
 refine AV E E (AD E VU (AF 0 In E (J E ?_)))
 refine Cj hx1 hm E FD JE E E fun be2 of2 hcc2=>?_
 refine AD E Ps ?_
 refine Ac [AA m.page,vS m.tag] E Cb E E (fun w hw j u hu=>by
 rw[CA,Nat.add_assoc]
 refine hcc2 _ w hw (1+j) u ?_
 rw[Nat.add_comm 1 j]
 exact hu) ?_
 refine BJ [_,_] E iG gI NO ⟨E,E,zT⟩ E ?_
 refine Bz [_] rfl FD JE NO ⟨rfl,trivial⟩ rfl rfl rfl zW rfl rfl (fun _=>⟨⟨3,rfl⟩,trivial⟩) fun b6=>?_
 refine B2 Ah 3 ([(⟨s,m.page,m.tag⟩:A4)]:List A4) E zV E ?_
 refine CQ 4 hl (sz:=3) (enc:=Ah) zV E FD JE aq NO E zD E E E E (Bs (sz:=3) (enc:=Ah) 0 zV E) (by simp[Ah,Value.oneCell']) (fun _=>⟨⟨3,E⟩,zT⟩) fun v3=>?_
 refine AV E E (AD E Mt (BK ?_))
 refine Bq 4 E fun hv3 ho3=>?_
 refine Dk 3 E E E E bO hv3 ho3 E zT (V (Z (J E (AV E E (AD E VU (AF 3 In E (J E ?_)))))))
 refine Cj hx1 hm E FD JE E E fun be3 of3 hcc3=>?_
 refine AD E Ps ?_
 refine Ac [AA m.page,vS m.tag] E Cb E E (fun w hw j u hu=>by
 rw[CA,Nat.add_assoc]
 refine hcc3 _ w hw (1+j) u ?_
 rw[Nat.add_comm 1 j]
 exact hu) ?_
 refine Ak 1 E E E E DD E E E zT (V (AL (Ba (AZ (Dq (Ba (AZ ?_)))))))
 exact AX (ES E (BB 1 (Af ⟨m.page,m.tag⟩) Cb E E E E)) (AY (M:=_::_::_::_::_::_::_::_::_::_::[]) ⟨E,(v3,vk),E⟩ fun _ hw=>Bc.pick (H:=[_,_,_,_,_,_,_,_,_,_,_,_,_]) hw [3,4,5,6,7,8,9,10,11,12] 13 E)
 rw[hc5]at hp
 refine AI (Ao (AG (AK (J E (Y E (BV zO zO) (O E (AU ?_)))))))
 exact Al (i+1) ⟨hlt,hp⟩ zO tL (fun _ h=>h)
 have hge:i=had.length:=by have:=of_decide_eq_false hc4;omega
 subst hge
 rw[List.drop_length]at hp
 rw[←hp]at h
 refine AC h fun w hw1 h=>?_
 refine Ax (A3 (BO (A0 (AG (Z (J E (AV E E (AD E YF (AF 2 j7 E (J E (SL.pick [5,6,7,8,9,10,11,0,1,2,3,4] 12 (AQ 7 tu (Ss hw1 hT) E (J E ?_)))))))))))))
 refine Am E E E (Am E E E ?_)
 refine Ag E DX zU fun b9=>?_
 refine Ak 0 E E E E DD E E E zT (O E (V (AE (Z (J E (Y E Bb (V ?_)))))))
 refine AT h E (fun hc6 h=>?_) fun hc6 h=>?_
 obtain rfl:=zI h
 refine Z (J E (J E (AV E E (AD E Ko (Ak 10 E E E E XR E E E zT (V (Z (BJ [] E Km Kl DX zT E (Ak 8 E E E E DD E E E zT (V (AL (AZ ?_))))))))))))
 exact AX (ES E (BB 8 (Af ⟨0,[]⟩) Cb E E E E)) (AY (M:=_::_::_::_::_::_::_::_::_::_::[]) ⟨E,(vo,vk),E⟩ fun _ hw=>Bc.pick (H:=[_,_,_,_,_,_,_,_,_,_,_,_,_]) hw [10,11,12,1,2,3,4,5,6,7] 13 E)
 refine AC h fun kk hkk h=>?_
 refine AC h fun l hl h=>?_
 obtain rfl:=zI h
 refine AI (AG (AE (Ai CY [10,0] (Bm [(true,0),(true,1),(true,2),(true,3),(true,4),(true,5),(true,6),(false,7),(false,8),(true,9),(true,10)] (.last 11 .nil)) zK (J E (J E (AV E E (AD E VZ (AF 0 Zr E (AD E KE (AF 1 A8 E ?_))))))))))
 refine Bz [_] rfl CO Bj LT ⟨rfl,trivial⟩ rfl rfl rfl zW rfl rfl (fun _=>⟨⟨11,rfl⟩,⟨1,rfl⟩,trivial⟩) fun b6=>?_
 refine B2 Bw 1 ([w.1.page]:List UInt32) E zV E ?_
 refine CQ 13 hkk (sz:=1) (enc:=Bw) zV E CO Bj Sb LT E zD E E E E (Bs (sz:=1) (enc:=Bw) 0 zV E) (by simp[Bw,Value.oneCell']) (fun _=>⟨⟨11,E⟩,⟨1,E⟩,zT⟩) fun v3=>?_
 refine AV E E (AD E VZ (BK ?_))
 refine Bq 13 E fun hv3 ho3=>?_
 refine Dk 11 E E E E ov hv3 ho3 E zT (Du 11 (AP bk (.cells #[vP bv 0,vh,vo,v3,vI e,zN] 115)) (V (AE (Ai CY [11,1] (Bm [(true,0),(true,1),(true,2),(true,3),(true,4),(true,5),(true,6),(true,7),(false,8),(false,9),(true,10),(true,11)] (.last 12 .nil)) zK (J E (J E (AV E E (AD E Mt (AF 0 In E ?_)))))))))
 refine J E (Ac (Af w.1) E Cb E E (Aa 1 E) (BJ [_,_] E iG gI NO ⟨E,E,zT⟩ E ?_))
 refine Bz [_] rfl FD JE NO ⟨rfl,trivial⟩ rfl rfl rfl zW rfl rfl (fun _=>⟨⟨12,rfl⟩,⟨2,rfl⟩,trivial⟩) fun b8=>?_
 refine B2 Ah 3 ([(⟨s,w.1.page,w.1.tag⟩:A4)]:List A4) E zV E ?_
 refine CQ 13 hl (sz:=3) (enc:=Ah) zV E FD JE aq NO E zD E E E E (Bs (sz:=3) (enc:=Ah) 0 zV E) (by simp[Ah,Value.oneCell']) (fun _=>⟨⟨12,E⟩,⟨2,E⟩,zT⟩) fun v6=>?_
 refine AV E E (AD E Mt (BK ?_))
 refine Bq 13 E fun hv6 ho6=>?_
 refine Dk 12 E E E E bO hv6 ho6 E zT (V (Z (Ac (Af w.1) E Cb E E (Aa 2 E) (Ak 10 E E E E DD E E E zT (V (AL ?_))))))
 exact AX (ES E (BB 10 (Af w.1) Cb E E E E)) (AY (M:=_::_::_::_::_::_::_::_::_::_::[]) ⟨E,(v6,v3),E⟩ fun _ hw=>Bc.pick (H:=[_,_,_,_,_,_,_,_,_,_,_,_,_,_,_]) hw [12,13,14,3,4,5,6,7,8,9] 15 E)
end

section
variable {K:Nat→Prop}{w0:World}{H:List AW}
def Q8(d:BI):B1→List UInt32→Option B1
 | v,[]=>some v
 | v,p::ps=>(Gj v d p).bind fun y=>Q8 d y.2 ps
def Va(n:Nat)(T:List UInt32)(v:B1)(d:BI)(l:List AM)(had:List A4):Option (List A4×Int×B1×BI):=
 (OE n l).bind fun b=>cond (!decide (b.2=0)) (some ([],b.2,v,d))
  ((OU (N0 n T had) n b.1 (⟨[],[],0⟩,v,d)).bind fun y=>
   cond (!decide (y.2.1.err=0)) (if 1048576<y.2.1.took.length then none else(Q8 y.2.2.2 y.2.2.1 y.2.1.took).bind fun w=>some ([],y.2.1.err,w,y.2.2.2)) (some (y.2.1.out,0,y.2.2.1,y.2.2.2)))
theorem mi{n bv bd:Nat}{T:List UInt32}{vl vh vr vt v0 v1 v2:Value}{v:B1}{d:BI}{l:List AM}{had:List A4}{r:List A4×Int×B1×BI}(h:Va n T v d l had=some r)(hT:JJ K w0 2 64 T)(hl:CD K w0 AJ 4 vl l)(hm:CD K w0 Ah 3 vh had):
  zC K w0 29 [vP bv 0,vl,vh] (U2 bv bd vr vt v0 v1 v2 v d) H (fun u M=>∃u0:Value,u=.tuple #[u0,vI r.2.1]∧M=AH 72 3 u0 Ah r.1::U2 bv bd vr vt v0 v1 v2 r.2.2.1 r.2.2.2):=by
 unfold Va at h
 refine AC h fun b hb h=>?_
 obtain⟨sh,rfl⟩:=hm.slv
 refine Ua.enter Tryz.func29 rfl rfl ?_
 refine Z (O E (O E (V (Z (J E (Bn 0 pJ (ZC hb hl) E ?_))))))
 rintro _ _ ⟨nv,L,rfl,hnz,rfl⟩
 refine J E (Am E E E (Am E E E ?_))
 refine Ag E JA zU fun b8=>?_
 refine Ak 0 E E E E H7 E (List.all_eq_true.2 (Hd nv)) E zT (O E (V (AE (Z (J E (Y E Bb (V ?_)))))))
 refine AT h E (fun hc1 h=>?_) fun hc1 h=>?_
 obtain rfl:=zI h
 refine Z (J E (O E (O E (V (AL (AZ (GK 72 3 Ah ?_)))))))
 exact AX (GV E E E) (AY (M:=_::U2 bv bd vr vt v0 v1 v2 v d) ⟨_,E,E⟩ fun _ hw=>Bc.pick (H:=[_,_,_,_,_,_,_,_,_,_]) hw [0,3,4,5,6,7,8,9] 10 E)
 refine AC h fun y hy h=>?_
 refine AI (AG (Z (J E (J E (BJ [_,_] E ol om nP ⟨E,E,zT⟩ E ?_)))))
 refine Bf E E zU fun b10=>?_
 refine O E (V (M5 29 1 Bw (M5 72 3 Ah (Z (J E (Ac (B8 nv) E Lc E E (Aa 3 E) (SL.pick [4,2,0,1,5,6,7,8,9,10,11,3] 12 ?_)))))))
 refine Bg (vs:=[_,_]) (Hin:=[_,_,_,_,_,_,_,_,_,_,_]) (Hr:=_::_) E E ⟨E,E,zT⟩ im E E (CV (B:=[_]) (Hin:=[_,_,_,_,_,_,_,_,_,_]) fun K' w1 hk hB=>YY (bk:=b10) (I:=fun K w=>JJ K w 2 64 T∧CD K w Ah 3 sh.val had) (C:=uu b10 bv bd sh.val vr vt v0 v1 v2) (fun h hk=>⟨h.1.keeps hk,h.2.keeps hk⟩) (fun hi h h4 h5=>ms h hi.1 hi.2 h4 h5) n (ca:=(.slice none 0 0,zN)) ⟨hT.keeps hk,hm.keeps hk⟩ hy (hnz.lent (hB _ zS))) ?_
 rintro _ _ ⟨_,rfl,rfl,⟨vo,vk⟩,rfl⟩
 refine⟨trivial,?_⟩
 refine V (AE (Z (J E (AV E E (AD E Ko (AF 1 PO E (Y E Bb (V ?_))))))))
 refine AT h E (fun hc2 h=>?_) fun hc2 h=>?_
 split at h
 cases h
 rename_i hbig
 refine AC h fun w hw h=>?_
 obtain rfl:=zI h
 refine AE (Z (O E (V (AN ?_))))
 refine SX.mono (A6 (α:=Nat×B1) (fun x=>x.1≤y.2.1.took.length∧Q8 y.2.2.2 x.2 (y.2.1.took.drop x.1)=some w) (fun x=>[(0,vP bv 0),(10,vP b10 0),(11,vI (x.1:Int))])
  (fun x=>Fi L::AP b10 (.cells #[vP bv 0,sh.val,vo,vk,vI y.2.1.err,zN] 115)::AH 72 3 vo Ah y.2.1.out::AH 29 1 vk Bw y.2.1.took::(U2 bv bd vr vt v0 v1 v2 x.2 y.2.2.2++(AP b8 (.cells (B8 nv).toArray 57)::H)))
  (fun x=>y.2.1.took.length-x.1) (fun x D hp=>?_) (0,y.2.2.1) ⟨Nat.zero_le _,hw⟩) tL
 obtain⟨i,u⟩:=x
 obtain⟨hi,hp⟩:=hp
 dsimp only at hi hp ⊢
 refine AE (Z (J E (J E (AV E E (AD E VZ (AF 1 Zr E (Dg 3 E CO E E (Y E Aw (V ?_)))))))))
 refine As E (fun hc3=>?_) (fun hc3=>?_)
 have hlt:i<y.2.1.took.length:=by have:=of_decide_eq_true hc3;omega
 clear hc3
 have hx1:Aq y.2.1.took (i:Int)=some y.2.1.took[i]:=by
  rw[Aq,if_pos zO]
  exact List.getElem?_eq_getElem hlt
 rw[List.drop_eq_getElem_cons hlt,Q8]at hp
 obtain⟨g,hg,hp⟩:=bnd hp
 refine AI (AG (AE (AN (AK (J E (J E (AV E E (AD E VZ (AF 1 Zr E (J E ?_))))))))))
 refine BR 3 hx1 E CO Bj E E E fun g1 m2 cp1 hv1=>?_
 refine Bi E A8 E (Br (sz:=1) (enc:=Bw) 3 0 zV E hv1 hx1 E) ?_
 refine SL.pick [4,5,6,7,8,9,10,0,1,2,3,11] 12 (AQ 7 uj (Tz hg) E (AU (Ao (AG (AK (J E (Y E (BV zO zO) (O E (AU ?_)))))))))
 exact Al (i+1,g.2) ⟨hlt,hp⟩ (by dsimp only;omega) tL (BG [7,8,9,10,0,1,2,3,4,5,6,11] 12 E E E)
 have hge:i=y.2.1.took.length:=by have:=of_decide_eq_false hc3;omega
 subst hge
 rw[List.drop_length]at hp
 obtain rfl:=zI (show some u=some w from hp)
 refine Ax (A3 (BO (A0 (AG (AE (Ai CY [1] (Pl.of [(true,0),(true,1),(true,2),(true,3),(true,4),(true,5)]) zK (J E (AV E E (AD E Ko (AF 0 PO E (O E (O E (V (AL (AZ (GK 72 3 Ah ?_))))))))))))))))
 exact AX (GV E E E) (AY (M:=_::U2 bv bd vr vt v0 v1 v2 u y.2.2.2) ⟨_,E,E⟩ fun _ hw=>Bc.pick (H:=[_,_,_,_,_,_,_,_,_,_,_,_,_]) hw [0,5,6,7,8,9,10,11] 13 E)
 obtain rfl:=zI h
 refine AI (AG (Z (J E (AV E E (AD E Mt (AF 1 In E (O E (O E (V (AL ?_))))))))))
 exact AX (GV E E E) (AY (M:=AH 72 3 vo Ah y.2.1.out::U2 bv bd vr vt v0 v1 v2 y.2.2.1 y.2.2.2) ⟨_,E,E⟩ fun _ hw=>Bc.pick (H:=[_,_,_,_,_,_,_,_,_,_,_,_]) hw [2,4,5,6,7,8,9,10] 12 E)
end

section
variable {K:Nat→Prop}{w0:World}{H:List AW}
end

section
variable {K:Nat→Prop}{w0:World}{H:List AW}
def MT(p0:BH)(p1:UInt32)(p2:Bool):Option (Int×BH):=
 (Md p0 p1).bind fun y1=>
 ret (!y1) fun x1=>
 cond x1
 (
  some (2,p0))
 (
  (OQ p0.bad p1 p2).bind fun l1=>
  some (0,{ p0 with bad:=l1 }))
theorem mH{BD BF Ct:Nat}{Cu:Value}{p0:BH}{p1:UInt32}{p2:Bool}{r:Int×BH}(h:MT p0 p1 p2=some r): zC K w0 35 [vP BD 0,AA p1,vB p2] [AP BD (.cells #[vB p0.off,vB p0.isCut,vI p0.lasts,vI p0.counts,Cu,.map (some BF),.map (some Ct),Ar p0.rcnt,vS p0.rtag,AA p0.rboots] 130),AH 9 1 Cu eS p0.blocks,BQ BF AA vS p0.pend,BQ Ct AA vB p0.bad] H (fun u M=>u=vI r.1∧M=[AP BD (.cells #[vB r.2.off,vB r.2.isCut,vI r.2.lasts,vI r.2.counts,Cu,.map (some BF),.map (some Ct),Ar r.2.rcnt,vS r.2.rtag,AA r.2.rboots] 130),AH 9 1 Cu eS r.2.blocks,BQ BF AA vS r.2.pend,BQ Ct AA vB r.2.bad]):=by
 unfold MT at h
 refine Ua.enter Tryz.func35 rfl rfl ?_
 refine Z (O E (V (AE (AN (Z (J E (Fu E bF E E (O E (V (D5 E (Z ?_)))))))))))
 refine AC h fun y1 hy1 h=>?_
 obtain⟨x1,ex1,h⟩:=Bp h
 refine J E (J E (AQ 4 dG (Te hy1) E (CH E E ?_)))
 refine An (u:=vB x1) E E (congrArg vB ex1) ?_
 refine V ?_
 refine AT h E (fun hc2 h=>?_) fun hc2 h=>?_
 refine Z (O E (V (AL (Ba (AZ ?_)))))
 obtain rfl:=zI h
 exact Ab [0,1,2,3] 4 E E E
 refine AI (Ao (AG (Z ?_)))
 refine AC h fun l1 hl1 h=>?_
 refine J E (AV E E (AD E fD (AF 0 cJ E (J E (J E (V4 3 hl1 (NZ Bv) E au E E E E zT (V (Z (O E (V (AL ?_)))))))))))
 obtain rfl:=zI h
 exact Ab [0,1,2,3] 4 E E E
def LH(n:Nat)(T:List UInt32)(y1:Bool)(y4:List A4×Int×Bx×BH)(y6:List A4×Int×B1×BI)(o1:BH)(o2:BI)(y11:UInt32)(y12:List UInt8):Option Bool:=
 (Rm n T y4.2.2.1 o1 (⟨y11,y12⟩:Ad)).bind fun y21=>
 (Vq n T y6.2.2.1 o2 (⟨y11,y12⟩:Ad)).bind fun y22=>
 (FQ y1 ((Ig n y21.1 y22.1).bind fun y23=>some (y23))).bind fun y24=>
 (FQ y24 ((Im n y21.2.1 y22.2.1).bind fun y25=>some (y25))).bind fun y26=>
 ret (y26&&(decide (y21.2.2=y22.2.2))) fun x7=>
 some x7
def cd(n:Nat)(T:List UInt32)(p0:List AM)(p1:Int)(p2:Int)(p3:List UInt8):Option Bool:=
 (Ke n T).bind fun y1=>
 (G9 n 30).bind fun y2=>
 (y2.1).bind fun d1=>
 (K5 p0).bind fun y3=>
 (KA n T d1.1 d1.2.1 y3 []).bind fun y4=>
 (K5 p0).bind fun y5=>
 (Va n T d1.2.2.1 d1.2.2.2 y5 []).bind fun y6=>
 (Nn (!y2.2) ((Im n y4.1 y6.1).bind fun y7=>some (!y7))).bind fun y8=>
 cond (y8||(!decide (y4.2.1=y6.2.1)))
 (
  some false)
 (
  cond (((!decide (y4.2.1=0))||(decide (p1<0)))||(decide ((y4.1.length:Int)≤p1)))
  (
   some y1)
  (
   (Aq y4.1 p1).bind fun x1=>
   (HA y4.1).bind fun y9=>
   (Ei y6.2.2.2 y9.page).bind fun y10=>
   ret (decide (p2=1)) fun x2=>
   cond x2
   (
    (MT y4.2.2.2 x1.page true).bind fun y13=>
    (EZ y6.2.2.2 x1.page true).bind fun y14=>
    LH n T y1 y4 y6 y13.2 y14.2 y9.page y9.tag)
   (
    ret (decide (p2=2)) fun x3=>
    cond x3
    (
     (LK y4.2.2.2 x1.page y10).bind fun y15=>
     (Dz y6.2.2.2 x1.page y10).bind fun y16=>
     LH n T y1 y4 y6 y15.2 y16.2 y9.page y9.tag)
    (
     ret (decide (p2=3)) fun x4=>
     cond x4
     (
      (H3 p3).bind fun y17=>
      (LK y4.2.2.2 x1.page y17).bind fun y18=>
      (H3 p3).bind fun y19=>
      (Dz y6.2.2.2 x1.page y19).bind fun y20=>
      LH n T y1 y4 y6 y18.2 y20.2 y9.page y9.tag)
     (
      ret (decide (p2=4)) fun x5=>
      cond x5
      (
       (Aq y4.1 p1).bind fun x6=>
       LH n T y1 y4 y6 y4.2.2.2 y6.2.2.2 x6.page x6.tag)
      (
       LH n T y1 y4 y6 y4.2.2.2 y6.2.2.2 y9.page y9.tag))))))
theorem vE{n:Nat}{T:List UInt32}{B6:Value}{p0:List AM}{p1 p2:Int}{p3:List UInt8}{r:Bool}(h:cd n T p0 p1 p2 p3=some r)(hS:Ho K w0 T)(hT:JJ K w0 2 64 T)(hs0_:CD K w0 AJ 4 B6 p0):zC K w0 10 [B6,vI p1,vI p2,vS p3] [] H (fun u M=>u=vB r∧M=[]):=by
 unfold cd at h
 refine Ua.enter Tryz.func10 rfl rfl ?_
 refine Z (O E (V (Z ?_)))
 refine AC h fun y1 hy1 h=>?_
 refine AQ 0 vF (YT hy1 hS) E (O E (V (Z ?_)))
 refine AC h fun y2 hy2 h=>?_
 refine AC h fun d1 hd1 h=>?_
 refine Bg (vs:=[_]) (Hin:=[]) (Hr:=_) E E ⟨E,zT⟩ nW E E (UC hy2) ?_
 rintro _ _ (⟨hn,-,-⟩ | ⟨d_,b1,v1,m1,b2,v2,m2,m3,b3,v3,v4,b4,v5,v6,v7,hn,rfl,rfl⟩)
 rw[hd1]at hn;cases hn
 obtain rfl:d1=d_:=zI (hd1.symm.trans hn)
 refine⟨trivial,?_⟩
 refine J E (Am E E E (Am E E E (Am E E E (Am E E E (O E (O E (O E ?_)))))))
 refine O E (V (Z ?_))
 refine AC h fun y3 hy3 h=>?_
 refine AC h fun y4 hy4 h=>?_
 refine J E (J E ?_)
 refine Bg (vs:=[_]) (Hin:=[]) (Hr:=_::_::_::_::_::_::_::_::_::_::_::_::_::_::_) E E ⟨E,zT⟩ oC E E (Vo hy3 hs0_) ?_
 rintro v8 _ ⟨_,rfl,hs1,rfl⟩
 refine⟨trivial,?_⟩
 refine Bn 7 pT (kI hy4 hS hs1 (CD.nil zV)) E ?_
 rintro _ _ ⟨v9,rfl,rfl⟩
 refine J E (Am E E E (Am E E E (O E (O E (V (Z ?_))))))
 refine AC h fun y5 hy5 h=>?_
 refine AC h fun y6 hy6 h=>?_
 refine J E (J E ?_)
 refine Bg (vs:=[_]) (Hin:=[]) (Hr:=_::_::_::_::_::_::_::_::_::_::_::_::_::_::_::_) E E ⟨E,zT⟩ oC E E (Vo hy5 hs0_) ?_
 rintro v10 _ ⟨_,rfl,hs2,rfl⟩
 refine⟨trivial,?_⟩
 refine SL.pick [8,9,10,11,12,13,14,0,1,2,3,4,5,6,7] 15 ?_
 refine Bn 7 ul (mi hy6 hT hs2 (CD.nil zV)) E ?_
 rintro _ _ ⟨v11,rfl,rfl⟩
 refine J E (Am E E E (Am E E E (O E (O E (V (AE (Z ?_)))))))
 refine AC h fun y8 hy8 h=>?_
 refine J E (CH E E (J E ?_))
 refine KM 50 5 55 hy8 E (fun hb k=>?_) (fun hb hg1 k=>?_) ?_
 refine AB E (AB E (AB E (AB E (Ae E E E ?_))))
 exact k.mono tL
 obtain⟨y7,hy7,hg1⟩:=bnd hg1
 obtain rfl:=zI hg1
 refine J E (J E (SL.pick [8,0,1,2,3,4,5,6,7] 9 ?_))
 refine Bg (vs:=[_,_]) (Hin:=[_,_]) (Hr:=_::_::_::_::_::_::_::_::_::_::_::_::_::_::_) E E ⟨E,E,zT⟩ jI E E (CV (B:=[_,_]) (Hin:=[]) fun K' w1 hk hB=>QU hy7 (B7 (e:=72) (v:=v9) zV (hB _ zS)) (B7 (e:=72) (v:=v11) zV (hB _ zS))) ?_
 rintro _ _ ⟨_,rfl,rfl,rfl⟩
 refine⟨trivial,?_⟩
 refine CH E E (Ae E E E ?_)
 exact SL.mono (SL.heap k fun _ hw=>Bc.pick (H:=[_,_,_,_,_,_,_,_,_,_,_,_,_,_,_,_]) hw [1,2,3,4,5,6,7,8,0,9,10,11,12,13,14,15] 16 E) tL
 refine J E ?_
 refine C9 (c := !decide (y4.2.1=y6.2.1)) 56 4 60 E (fun hb k=>?_) (fun hb k=>?_) ?_
 refine AB E (AB E (AB E (Ae E E E ?_)))
 exact k.mono tL
 refine J E (J E (Y E Bb (Ae E E E ?_)))
 exact k.mono tL
 refine V ?_
 refine AT h E (fun hc1 h=>?_) fun hc1 h=>?_
 refine Z (O E (V (AL (AZ ?_))))
 obtain rfl:=zI h
 exact Ab [] 16 E E E
 refine AI (AG (AE (Z (J E (Y E Bb (J E ?_))))))
 refine C9 (c:=decide (p1<0)) 63 3 66 E (fun hb k=>?_) (fun hb k=>?_) ?_
 refine AB E (AB E (Ae E E E ?_))
 exact k.mono tL
 refine J E (Y E Aw (Ae E E E ?_))
 exact k.mono tL
 refine J E ?_
 refine C9 (c:=decide ((y4.1.length:Int)≤p1)) 67 5 72 E (fun hb k=>?_) (fun hb k=>?_) ?_
 refine AB E (AB E (AB E (AB E (Ae E E E ?_))))
 exact k.mono tL
 refine J E (J E (Dg 8 E FD E E (Y E IW (Ae E E E ?_))))
 exact k.mono tL
 refine V ?_
 refine AT h E (fun hc2 h=>?_) fun hc2 h=>?_
 refine Z (J E (O E (V (AL (AZ ?_)))))
 obtain rfl:=zI h
 exact Ab [] 16 E E E
 refine AI (AG (Z ?_))
 refine AC h fun x1 hx1 h=>?_
 refine J E (J E ?_)
 refine BR 8 hx1 E FD JE E E E fun g1 m4 cp1 hv1=>?_
 refine AD E Ps (AD E KE ?_)
 refine Bi E A8 E (Br (sz:=3) (enc:=Ah) 8 1 zV E hv1 hx1 E) ?_
 refine O E (V (Z ?_))
 refine AC h fun y9 hy9 h=>?_
 refine J E (SL.pick [8,0,1,2,3,4,5,6,7] 9 ?_)
 refine Bg (vs:=[_]) (Hin:=[_]) (Hr:=_::_::_::_::_::_::_::_::_::_::_::_::_::_::_::_) E E ⟨E,zT⟩ ng E E (CV (B:=[_]) (Hin:=[]) fun K' w1 hk hB=>UK hy9 (B7 (e:=72) (v:=v9) zV (hB _ zS))) ?_
 rintro _ _ ⟨_,rfl,rfl,rfl⟩
 refine⟨trivial,?_⟩
 refine Ag E DX zU fun b5=>?_
 refine Ak 0 E E E E DD E E E zT (V (AE ?_))
 refine AC h fun y10 hy10 h=>?_
 refine Ai CY [0,3] (Bm [(true,0),(true,1),(true,2),(true,3),(true,4),(true,5)] (.last 6 (Pl.of [(false,7)]))) zK (J E (AV E E (AD E TS (AF 1 aw E (AD E KE (AF 0 A8 E (BK (SL.pick [6,7,8,9,0,1,2,3,4,5] 10 ?_))))))))
 refine AQ 4 pz (NL hy10) E (O E (V ?_))
 refine A5 (α:=BH×BI×UInt32×List UInt8) (fun x=>LH n T y1 y4 y6 x.1 x.2.1 x.2.2.1 x.2.2.2=some r) (fun x=>[(9,vB y1),(10,vP b1 0),(12,vP b3 0),(19,vP b5 0)]) (fun x=>AP b1 (.cells #[vP b2 0,v1,AA y4.2.2.1.gen,AA y4.2.2.1.boot,Ar y4.2.2.1.seals,.map (some m1)] 96)::AP b2 (.cells #[vB x.1.off,vB x.1.isCut,vI x.1.lasts,vI x.1.counts,v2,.map (some m2),.map (some m3),Ar x.1.rcnt,vS x.1.rtag,AA x.1.rboots] 130)::AH 9 1 v2 eS x.1.blocks::BQ m2 AA vS x.1.pend::BQ m3 AA vB x.1.bad::AH 138 2 v1 BA y4.2.2.1.ring::BQ m1 AA vB y4.2.2.1.taken::AP b3 (.cells #[vP b4 0,v3,AA y6.2.2.1.gen,AA y6.2.2.1.boot,Ar y6.2.2.1.num,v4] 69)::AP b4 (.cells #[v5,v6,v7,Ar x.2.1.rcnt,vS x.2.1.rtag,AA x.2.1.rboots,vI x.2.1.left,vB x.2.1.off] 132)::AH 9 1 v5 eS x.2.1.blk::AH 9 1 v6 eS x.2.1.pnd::AH 4 1 v7 eB x.2.1.bads::AH 138 2 v3 BA y6.2.2.1.ring::AH 4 1 v4 eB y6.2.2.1.taken::AP b5 (.cells #[AA x.2.2.1,vS x.2.2.2] 31)::H) ?_ (fun x D h=>?_)
 refine Z (J E (V (AN (Z ?_))))
 obtain⟨x2,ex2,h⟩:=Bp h
 refine Y E CE ?_
 refine An (u:=vB x2) E E (congrArg vB ex2) ?_
 refine V ?_
 refine AT h E (fun hc3 h=>?_) fun hc3 h=>?_
 refine Z ?_
 refine AC h fun y13 hy13 h=>?_
 refine J E (J E (SL.pick [13,14,15,16,0,1,2,3,4,5,6,7,8,9,10,11,12] 17 (AQ 4 vR (mH hy13) E (V (AK ?_)))))
 refine AC h fun y14 hy14 h=>?_
 refine J E (AV E E (AD E TS (AF 11 aw E (J E (SL.pick [4,5,6,7,0,1,2,3] 8 (AQ 4 tQ (T6 hy14) E (AU (Ao ?_))))))))
 exact Au (y13.2,y14.2,y9.page,y9.tag) h tL (BG [14,4,5,6,7,15,16,11,0,1,2,3,12,13,8] 17 E E E)
 refine Z ?_
 obtain⟨x3,ex3,h⟩:=Bp h
 refine Y E CE ?_
 refine An (u:=vB x3) E E (congrArg vB ex3) ?_
 refine V ?_
 refine AT h E (fun hc4 h=>?_) fun hc4 h=>?_
 refine Z ?_
 refine AC h fun y15 hy15 h=>?_
 refine J E (J E (J E (SL.pick [13,14,15,16,0,1,2,3,4,5,6,7,8,9,10,11,12] 17 (AQ 4 nf (bK hy15) E (V (AK ?_))))))
 refine AC h fun y16 hy16 h=>?_
 refine J E (AV E E (AD E TS (AF 11 aw E (J E (J E (SL.pick [4,5,6,7,0,1,2,3] 8 (AQ 4 oq (Ob hy16) E (AU (Ao ?_)))))))))
 exact Au (y15.2,y16.2,y9.page,y9.tag) h tL (BG [14,4,5,6,7,15,16,11,0,1,2,3,12,13,8] 17 E E E)
 refine Z ?_
 obtain⟨x4,ex4,h⟩:=Bp h
 refine Y E CE ?_
 refine An (u:=vB x4) E E (congrArg vB ex4) ?_
 refine V ?_
 refine AT h E (fun hc5 h=>?_) fun hc5 h=>?_
 refine Z ?_
 refine AC h fun y17 hy17 h=>?_
 refine AC h fun y18 hy18 h=>?_
 refine J E (J E (J E (AQ 0 pr (R5 hy17) E (SL.pick [13,14,15,16,0,1,2,3,4,5,6,7,8,9,10,11,12] 17 (AQ 4 nf (bK hy18) E (V ?_))))))
 refine AC h fun y19 hy19 h=>?_
 refine AC h fun y20 hy20 h=>?_
 refine Ai CY [11] (Bm [(true,0),(true,1),(true,2),(true,3),(true,4),(true,5),(false,6)] (.last 7 .nil)) zK (J E (AV E E (AD E TS (AF 0 aw E (J E (J E (BS 0 pr (R5 hy19) E ⟨⟨11,E⟩,zT⟩ (BK ?_))))))))
 refine SL.pick [4,5,6,7,0,1,2,3] 8 (AQ 4 oq (Ob hy20) E (AU (Ao ?_)))
 exact Au (y18.2,y20.2,y9.page,y9.tag) h tL (BG [14,4,5,6,7,15,16,11,0,1,2,3,12,13,8] 17 E E E)
 refine Z ?_
 obtain⟨x5,ex5,h⟩:=Bp h
 refine Y E CE ?_
 refine An (u:=vB x5) E E (congrArg vB ex5) ?_
 refine V ?_
 refine AT h E (fun hc6 h=>?_) fun hc6 h=>?_
 refine AK ?_
 refine AC h fun x6 hx6 h=>?_
 refine J E (J E ?_)
 refine BR 5 hx6 E FD JE E E E fun g2 m5 cp2 hv2=>?_
 refine AD E Ps ?_
 refine Ac [AA x6.page,vS x6.tag] E Cb E E (Xf (sz:=3) (enc:=Ah) (d:=1) 5 zV E hv2 hx6 E) ?_
 refine Ak 4 E E E E DD E E E zT (AU (Ao ?_))
 exact Au (y4.2.2.2,y6.2.2.2,x6.page,x6.tag) h tL (BG [10,13,14,15,16,11,12,7,0,1,2,3,8,9,4] 17 E E E)
 refine AI (Ao ?_)
 exact Au (y4.2.2.2,y6.2.2.2,y9.page,y9.tag) h tL (BG [10,13,14,15,16,11,12,7,0,1,2,3,8,9,4] 17 E E E)
 obtain⟨o1,o2,y11,y12⟩:=x
 dsimp only at h
 unfold LH at h
 try dsimp only
 refine Z ?_
 refine AC h fun y21 hy21 h=>?_
 refine J E (Ac [AA y11,vS y12] E Cb E E (Aa 14 E) (SL.pick [0,5,6,1,2,3,4] 7 (Bn 7 pP ((kL hy21 hS :)) E ?_)))
 rintro _ _ ⟨v12,v13,rfl,rfl⟩
 refine J E (Am E E E (Am E E E (Am E E E (O E (O E (O E (V (Z ?_))))))))
 refine AC h fun y22 hy22 h=>?_
 refine J E (Ac [AA y11,vS y12] E Cb E E (Aa 16 E) (SL.pick [9,14,15,10,11,12,13,0,1,2,3,4,5,6,7,8] 16 (Bn 7 tC ((mG hy22 hT :)) E ?_)))
 rintro _ _ ⟨v14,v15,rfl,rfl⟩
 refine J E (Am E E E (Am E E E (Am E E E (O E (O E (O E (V (Z ?_))))))))
 refine AC h fun y24 hy24 h=>?_
 refine AC h fun y26 hy26 h=>?_
 obtain⟨x7,ex7,h⟩:=Bp h
 refine J E (J E ?_)
 refine D9 151 4 155 hy24 E (fun hb hg5 k=>?_) (fun hb k=>?_) ?_
 obtain⟨y23,hy23,hg5⟩:=bnd hg5
 obtain rfl:=zI hg5
 refine J E (J E (SL.pick [9,0,1,2,3,4,5,6,7,8] 10 ?_))
 refine Bg (vs:=[_,_]) (Hin:=[_,_]) (Hr:=_::_::_::_::_::_::_::_::_::_::_::_::_::_::_::_::_::_) E E ⟨E,E,zT⟩ pu E E (CV (B:=[_,_]) (Hin:=[]) fun K' w1 hk hB=>UB hy23 (B7 (e:=79) (v:=v12) zV (hB _ zS)) (B7 (e:=79) (v:=v14) zV (hB _ zS))) ?_
 rintro _ _ ⟨_,rfl,rfl,rfl⟩
 refine⟨trivial,?_⟩
 refine Ae E E E ?_
 exact SL.mono (SL.heap k fun _ hw=>Bc.pick (H:=[_,_,_,_,_,_,_,_,_,_,_,_,_,_,_,_,_,_,_]) hw [1,2,3,4,5,6,7,8,9,0,10,11,12,13,14,15,16,17,18] 19 E) tL
 refine AB E (AB E (AB E (Ae E E E ?_)))
 exact k.mono tL
 refine J E ?_
 refine D9 156 4 160 hy26 E (fun hb hg6 k=>?_) (fun hb k=>?_) ?_
 obtain⟨y25,hy25,hg6⟩:=bnd hg6
 obtain rfl:=zI hg6
 refine J E (J E (SL.pick [10,1,0,2,3,4,5,6,7,8,9] 11 ?_))
 refine Bg (vs:=[_,_]) (Hin:=[_,_]) (Hr:=_::_::_::_::_::_::_::_::_::_::_::_::_::_::_::_::_::_) E E ⟨E,E,zT⟩ jI E E (CV (B:=[_,_]) (Hin:=[]) fun K' w1 hk hB=>QU hy25 (B7 (e:=72) (v:=v13) zV (hB _ zS)) (B7 (e:=72) (v:=v15) zV (hB _ zS))) ?_
 rintro _ _ ⟨_,rfl,rfl,rfl⟩
 refine⟨trivial,?_⟩
 refine Ae E E E ?_
 exact SL.mono (SL.heap k fun _ hw=>Bc.pick (H:=[_,_,_,_,_,_,_,_,_,_,_,_,_,_,_,_,_,_,_]) hw [2,1,3,4,5,6,7,8,9,10,0,11,12,13,14,15,16,17,18] 19 E) tL
 refine AB E (AB E (AB E (Ae E E E ?_)))
 exact k.mono tL
 refine J E ?_
 refine C5 (c:=decide (y21.2.2=y22.2.2)) 161 4 165 E (fun hb k=>?_) (fun hb k=>?_) ?_
 refine J E (J E (Y E CE (Ae E E E ?_)))
 exact k.mono tL
 refine AB E (AB E (AB E (Ae E E E ?_)))
 exact k.mono tL
 refine An (u:=vB x7) E E (congrArg vB ex7) ?_
 refine V (AL ?_)
 obtain rfl:=zI h
 exact Ab [] 19 E E E
end

section
theorem u6(r:AM):FX r=some (Gb r):=by
 unfold FX Gb
 rw[A7]
 congr 1
 rw[Bool.eq_iff_iff]
 simp only[Bool.and_eq_true,decide_eq_true_eq,UInt32.lt_iff_toNat_lt,Jt]
 have h6:(2147483648:UInt32).toNat=2147483648:=rfl
 omega
theorem e9{l:List AM}{k:Nat}(h:k+1<l.length):EO (l.drop k)=(decide (l[k].id<l[k+1].id)&&EO (l.drop (k+1))):=by
 rw[List.drop_eq_getElem_cons (show k<l.length by omega),List.drop_eq_getElem_cons h]
 rfl
theorem XV{n:Nat}{l:List AM}(hn:l.length<n)(hb:l.length≤1048576):GG n l=some (Cp l):=by
 unfold GG Cp
 by_cases h1000:1000<l.length
 rw[zt zO,BZ,zf (show ¬(l.length:Int)≤1000 by omega),Bool.and_false]
 rw[zf zO,A9,zt (show(l.length:Int)≤1000 by omega),Bool.and_true]
 have key:∀(d k m:Nat),k+d=l.length→d<m→Dl l m (k:Int)=some ((l.drop k).all Gb&&EO (l.drop (k-1))):=by
  intro d
  induction d with
  | zero=>
   intro k m hk hm
   obtain⟨m,rfl⟩:∃j,m=j+1:=⟨m-1,by omega⟩
   have hk':k=l.length:=zO
   have h2:EO (l.drop (k-1))=true:=by
    have:(l.drop (k-1)).length≤1:=by simp;omega
    rcases hd:l.drop (k-1)with _ | ⟨a,_ | ⟨b,t⟩⟩
    rfl
    rfl
    rw[hd]at this
    simp at this
   rw[h2,show l.drop k=[] by rw[hk'];simp]
   show C2 l (Dl l m) _=_
   unfold C2
   rw[zf zO,A9]
   rfl
  | succ d ih=>
   intro k m hk hm
   obtain⟨m,rfl⟩:∃j,m=j+1:=⟨m-1,by omega⟩
   have hkl:k<l.length:=zO
   have n1:Aq l (k:Int)=some l[k]:=by rw[D1 rfl,List.getElem?_eq_getElem hkl]
   have e1:(l.drop k).all Gb=(Gb l[k]&&(l.drop (k+1)).all Gb):=by rw[List.drop_eq_getElem_cons hkl];rfl
   show C2 l (Dl l m) _=_
   unfold C2
   rw[zt zO,BZ,n1,U,u6,U]
   have hnx:(ret (wI ((k:Int)+1)) fun i_1=>Dl l m i_1)=some ((l.drop (k+1)).all Gb&&EO (l.drop k)):=by
    rw[A7,BC zO zO]
    exact ih (k+1) m zO zO
   rw[hnx,e1]
   cases hr:Gb l[k]with
   | false=>rfl
   | true=>
    rcases Nat.eq_zero_or_pos k with rfl | hk0
    rfl
    have n2:Aq l (wI ((k:Int)-1))=some l[k-1]:=by
     rw[BC zO zO,D1 (k:=k-1) zO,List.getElem?_eq_getElem zO]
    have e2:EO (l.drop (k-1))=(decide (l[k-1].id<l[k].id)&&EO (l.drop k)):=by
     have:=e9 (l:=l) (k:=k-1) zO
     simpa[Nat.sub_add_cancel hk0]using this
    rw[e2,zt zO,n2]
    simp only[Nn,FQ,Bool.not_true,A9,BZ,U,XM]
    cases decide (l[k-1].id<l[k].id)<;>simp
 have:=key l.length 0 n zO hn
 simpa using this
theorem XO{n:Nat}{l:List AM}(hn:1100≤n)(hl:l.length<n)(hb:l.length≤1048576):OE n l=KY n l:=by
 cases h:Cp l with
 | false=>
  rw[Tt hl zO h]
  unfold OE
  rw[XV hl hb,U,h]
  rfl
 | true=>
  obtain⟨t,h1,_,h2⟩:=Tu (n:=n) zO h
  obtain⟨t',g1,g2⟩:=fj hn h
  rw[h1,g1,Tr.uniq g2 h2]
end

section
theorem oM{l:List AM}{r:AM}{k:Nat}(hs:Js l)(h1:∀x∈l.take k,x.id≤r.id)(h2:∀x∈l.drop k,r.id≤x.id):Js (l.take k++r::l.drop k):=by
 have hs':Js (l.take k++l.drop k):=by rw[List.take_append_drop];exact hs
 obtain⟨a,b,c⟩:=List.pairwise_append.1 hs'
 refine List.pairwise_append.2 ⟨a,List.pairwise_cons.2 ⟨h2,b⟩,fun x hx y hy=>?_⟩
 rcases List.mem_cons.1 hy with rfl | hy
 exact h1 x hx
 exact c x hx y hy
theorem V0{p0 l2:List AM}{a1:Int}{r:AM}(nx:List AM×Int→Option (List AM))(hr:Aq p0 a1=some r)(hb:l2.length≤1048576):
  ∀(k m:Nat),k≤l2.length→k<m→(∀x∈l2.drop k,r.id<x.id)→∃j,j≤k∧F1 p0 l2 a1 nx m (k:Int)=HY p0 l2 a1 nx (j:Int)∧(∀x∈l2.drop j,r.id<x.id)∧(∀x,0<j→l2[j-1]? = some x→x.id≤r.id)
 | _,0,_,h,_=>absurd h (Nat.not_lt_zero _)
 | 0,m+1,_,_,hd=>⟨0,Nat.le_refl _,rfl,hd,fun _ h=>absurd h (Nat.lt_irrefl _)⟩
 | k+1,m+1,hk,hm,hd=>by
  have hkl:k<l2.length:=hk
  have n1:Aq l2 (wI (((k+1:Nat):Int)-1))=some l2[k]:=by
   rw[BC zO zO,D1 (k:=k) zO,List.getElem?_eq_getElem hkl]
  have e:F1 p0 l2 a1 nx (m+1) ((k+1:Nat):Int)=GF p0 l2 a1 nx (F1 p0 l2 a1 nx m) ((k+1:Nat):Int):=rfl
  rw[e]
  unfold GF
  rw[zt zO,n1,hr]
  simp only[FQ,BZ,U]
  cases hc:decide (r.id<l2[k].id)with
  | true=>
   have hc:=of_decide_eq_true hc
   obtain⟨j,h1,h2,h3,h4⟩:=V0 nx hr hb k m zO zO (fun x hx=>by
    rw[List.drop_eq_getElem_cons hkl]at hx
    rcases List.mem_cons.1 hx with rfl | hx
    exact hc
    exact hd x hx)
   refine⟨j,by omega,?_,h3,h4⟩
   rw[BZ,A7,BC zO zO,show(((k+1:Nat):Int)-1)=(k:Int) by omega]
   exact h2
  | false=>
   have hc:=of_decide_eq_false hc
   refine⟨k+1,Nat.le_refl _,by rw[A9],hd,fun x _ hx=>?_⟩
   rw[Nat.add_sub_cancel,List.getElem?_eq_getElem hkl]at hx
   obtain rfl:=zI hx
   exact KS hc
theorem mJ{n:Nat}(l:List AM)(hn:l.length+2≤n)(hb:l.length≤1048576):∃l',Lt n l=some l'∧l'.Perm l∧Js l':=by
 have key:∀(T S out:List AM),l=S++T→out.Perm S→Js out→∀m,T.length<m→∃l',C0 n l m (out,(S.length:Int))=some l'∧l'.Perm l∧Js l':=by
  intro T
  induction T with
  | nil=>
   intro S out hS hp hs m hm
   obtain⟨m,rfl⟩:∃k,m=k+1:=⟨m-1,by omega⟩
   simp only[List.append_nil]at hS
   subst hS
   refine⟨out,?_,hp,hs⟩
   show EG n l (C0 n l m) _ _=_
   unfold EG
   dsimp only
   rw[zf zO,A9]
   rfl
  | cons r T ih=>
   intro S out hS hp hs m hm
   obtain⟨m,rfl⟩:∃k,m=k+1:=⟨m-1,by omega⟩
   have hlen:l.length=S.length+(T.length+1):=by rw[hS];simp
   have hol:=hp.length_eq
   have n1:Aq l (S.length:Int)=some r:=by
    rw[D1 rfl,hS]
    simp
   obtain⟨j,h1,h2,h3,h4⟩:=V0 (C0 n l m) n1 (l2:=out) zO out.length n (Nat.le_refl _) zO zS
   have hle:∀x∈out.take j,x.id≤r.id:=by
    intro x hx
    rcases Nat.eq_zero_or_pos j with rfl | hj
    simp at hx
    obtain⟨i,hi,rfl⟩:=List.getElem_of_mem hx
    rw[List.length_take]at hi
    rw[List.getElem_take]
    have h5:=h4 out[j-1] hj (List.getElem?_eq_getElem zO)
    rcases Nat.lt_or_ge i (j-1)with hlt | hge
    have:=List.pairwise_iff_getElem.1 hs i (j-1) zO zO hlt
    exact UInt64.le_trans this h5
    have:i=j-1:=zO
    subst this
    exact h5
   have hsr:Js (out.take j++r::out.drop j):=oM hs hle (fun x hx=>UInt64.le_of_lt (h3 x hx))
   have hpr:(out.take j++r::out.drop j).Perm (S++[r]):=by
    refine List.perm_middle.trans ?_
    rw[List.take_append_drop]
    exact(List.Perm.cons r hp).trans (List.perm_append_singleton r S).symm
   obtain⟨l',g1,g2,g3⟩:=ih (S++[r]) _ (by rw[hS];simp) hpr hsr m (by simp at hm;omega)
   refine⟨l',?_,g2,g3⟩
   show EG n l (C0 n l m) _ _=_
   unfold EG
   dsimp only
   rw[zt zO,BZ,h2]
   unfold HY
   have s1:Cr out 0 (j:Int)=some (out.take j):=(Dm (l:=out) (p:=0) (q:=j) rfl rfl zO zO).trans zS
   have s2:Cr out (j:Int) (out.length:Int)=some (out.drop j):=(Dm (l:=out) (p:=j) (q:=out.length) rfl rfl zO zO).trans (congrArg some (List.take_of_length_le zS))
   rw[s1,U,CG zQ zQ,U,n1,U,CG zQ zQ,U,s2,U,CG zQ zQ,U]
   unfold Ji
   rw[A7,BC zO zO]
   rw[show((S++[r]).length:Int)=(S.length:Int)+1 by simp only[List.length_append,List.length_singleton];omega]at g1
   rw[show[]++out.take j++[r]++out.drop j=out.take j++r::out.drop j by simp]
   exact g1
 obtain⟨l',h1,h2,h3⟩:=key l [] [] rfl (List.Perm.refl _) List.Pairwise.nil n zO
 exact⟨l',h1,h2,h3⟩
end

section
theorem qL(x:UInt32)(n:Nat)(h:n≤32):Dc x (n:Int)=some (rl x n):=by
 unfold Dc
 rw[Ve,U,BC zO zO,show(32-(n:Int))=((32-n:Nat):Int) by omega,Ve,U]
 rfl
theorem jC(a b c d:UInt32):Ix a b c d=some (Q4.quarter ⟨a,b,c,d⟩).list:=by
 have t16:∀x,Dc x 16=some (rl x 16):=fun x=>qL x 16 zD
 have t12:∀x,Dc x 12=some (rl x 12):=fun x=>qL x 12 zD
 have t8:∀x,Dc x 8=some (rl x 8):=fun x=>qL x 8 zD
 have t7:∀x,Dc x 7=some (rl x 7):=fun x=>qL x 7 zD
 simp only[Ix,ret,t16,t12,t8,t7,U]
 rfl
theorem ku(s:List UInt8)(i:Nat)(h:i+3<s.length)(hi:s.length≤1099511627776):J0 s (i:Int)=some (KH s i):=by
 unfold J0
 rw[CK (k:=i) 0 rfl zO,U,BC zO zO,CK (k:=i+1) 0 zO zO,U,
  BC zO zO,CK (k:=i+2) 0 zO zO,U,BC zO zO,CK (k:=i+3) 0 zO zO,U]
 rfl
theorem i8(c:UInt32):KH (GH c) 0=c:=by
 apply UInt32.toNat_inj.1
 have hc:=c.toNat_lt
 have e8:∀k,k≤32→(shr32 c k).toNat=c.toNat / 2^k:=fun k hk=>by
  simp only[shr32,UInt32.toNat_ofNat',Nat.min_eq_left hk]
  exact Nat.mod_eq_of_lt (Nat.lt_of_le_of_lt (Nat.div_le_self _ _) hc)
 have s8:∀(x:UInt8) k,k≤24→(shl32 x.toUInt32 k).toNat=x.toNat*2^k:=fun x k hk=>by
  have hx:=x.toNat_lt
  simp only[shl32,UInt32.toNat_ofNat',UInt8.toNat_toUInt32,Nat.min_eq_left (show k≤32 by omega)]
  refine Nat.mod_eq_of_lt ?_
  calc x.toNat*2^k<2^8*2^k:=Nat.mul_lt_mul_of_pos_right hx (Nat.two_pow_pos k)
   _=2^(8+k):=(Nat.pow_add 2 8 k).symm
   _≤2^32:=Nat.pow_le_pow_right zD zO
 have key:∀(a b k:Nat),a<2^k→a ||| b*2^k=a+b*2^k:=fun a b k h=>by
  rw[Nat.or_comm,Nat.mul_comm,←Nat.two_pow_add_eq_or_of_lt h,Nat.add_comm]
 show(KH [c.toUInt8,(shr32 c 8).toUInt8,(shr32 c 16).toUInt8,(shr32 c 24).toUInt8] 0).toNat=_
 simp only[KH,L3,List.getD_cons_zero,List.getD_cons_succ,Nat.zero_add]
 rw[UInt32.toNat_or,UInt32.toNat_or,UInt32.toNat_or,s8 _ 8 zO,s8 _ 16 zO,s8 _ 24 zO]
 simp only[UInt8.toNat_toUInt32,UInt32.toNat_toUInt8,e8 8 zO,e8 16 zO,e8 24 zO]
 rw[key _ _ 8 zO,key _ _ 16 zO,key _ _ 24 zO]
 omega
theorem nX(key:List UInt8)(counter:UInt32)(nonce:List UInt8)(hk:key.length=32)(hn:nonce.length=12){n:Nat}(hm:8<n):Kw n key counter nonce=some (IT key counter nonce):=by
 have hw:∀(s:List UInt8) (i:Nat),i<s.length / 4→(CM s).take (i+1)=(CM s).take i++[KH s (4*i)]:=fun s i hi=>by
  rw[List.take_add_one,List.getElem?_eq_getElem (by rw[EL];exact hi)]
  simp[CM]
 have he:CM Kr=[1634760805,857760878,2036477234,1797285236]:=by decide
 have hc:CM (GH counter)=[counter]:=by
  have:CM (GH counter)=[KH (GH counter) 0]:=by
   unfold CM
   rw[show(GH counter).length=4 from rfl]
   rfl
  rw[this,i8]
 unfold Kw KV
 have h2:IP n counter nonce (CM Kr++CM key)=some (IT key counter nonce):=by
  unfold IP KP
  have hlk:(CM key).length=8:=by rw[EL,hk]
  rw[CG (by simp[he,hlk]) (by simp[he,hlk]),U]
  refine(congrArg (By _ n) ?_).trans (Dw (fun i=>(CM Kr++CM key++[counter]++(CM nonce).take i,(i:Int))) 3 (fun i hi k=>?_) (fun k=>?_) zO)
  simp
  simp only[Gt,show decide ((i:Int)<3)=true by simp;omega,BZ]
  rw[BC zO zO,show 4*(i:Int)=((4*i:Nat):Int) by omega,ku nonce (4*i) zO zO,U,CG (by simp[he,hlk,EL];omega) (by simp[he,hlk,EL];omega),U]
  simp only[ret]
  rw[BC zO zO,hw nonce i zO]
  simp
  simp only[Gt,show decide (((3:Nat):Int)<3)=false by decide,A9,KG]
  rw[List.take_of_length_le (by have:=EL nonce;omega)]
  simp[IT,hc]
 refine(congrArg (By _ n) ?_).trans (Dw (fun i=>(CM Kr++(CM key).take i,(i:Int))) 8 (fun i hi k=>?_) (fun k=>?_) hm)
 simp[he]
 simp only[Gn,show decide ((i:Int)<8)=true by simp;omega,BZ]
 rw[BC zO zO,show 4*(i:Int)=((4*i:Nat):Int) by omega,ku key (4*i) zO zO,U,CG (by simp[he,EL];omega) (by simp[he,EL];omega),U]
 simp only[ret]
 rw[BC zO zO,hw key i zO]
 simp
 simp only[Gn,show decide (((8:Nat):Int)<8)=false by decide,A9]
 rw[List.take_of_length_le (by have:=EL key;omega)]
 exact h2
theorem ve(ws:List UInt32)(ix:Nat→Nat)(h:∀k,k<4→ix k<ws.length):C6 ws (ix 0:Int) (ix 1:Int) (ix 2:Int) (ix 3:Int)=some (ml ws ix):=by
 unfold C6
 have h0:=h 0 zD
 have h1:=h 1 zD
 have h2:=h 2 zD
 have h3:=h 3 zD
 have g:∀(l:List UInt32) (k:Nat),k<l.length→Aq l (k:Int)=some (l.getD k 0):=fun l k hk=>CK 0 rfl hk
 rw[g _ _ h0,U,g _ _ h1,U,g _ _ h2,U,g _ _ h3,U,jC,U]
 generalize hq:Q4.quarter ⟨ws.getD (ix 0) 0,ws.getD (ix 1) 0,ws.getD (ix 2) 0,ws.getD (ix 3) 0⟩=q
 have q0:Aq q.list 0=some q.a:=rfl
 have q1:Aq q.list 1=some q.b:=rfl
 have q2:Aq q.list 2=some q.c:=rfl
 have q3:Aq q.list 3=some q.d:=rfl
 simp only[q0,q1,q2,q3,U,GI rfl h0,g (ws.set (ix 0) q.a) (ix 1) (by simpa using h1),GI rfl (show ix 1<(ws.set (ix 0) q.a).length by simpa using h1),
  g ((ws.set (ix 0) q.a).set (ix 1) q.b) (ix 2) (by simpa using h2),GI rfl (show ix 2<((ws.set (ix 0) q.a).set (ix 1) q.b).length by simpa using h2),
  g (((ws.set (ix 0) q.a).set (ix 1) q.b).set (ix 2) q.c) (ix 3) (by simpa using h3),GI rfl (show ix 3<(((ws.set (ix 0) q.a).set (ix 1) q.b).set (ix 2) q.c).length by simpa using h3)]
 unfold ml
 rw[hq]
 rfl
theorem pH(key:List UInt8)(counter:UInt32)(nonce:List UInt8)(hk:key.length=32)(hn:nonce.length=12){n:Nat}(hm:16<n):HS n key counter nonce=some (KL key counter nonce,0):=by
 have hb:=M1 (counter:=counter) hk hn
 unfold HS
 rw[show((!decide ((key.length:Int)=32))||(!decide ((nonce.length:Int)=12)))=false by simp[hk,hn]]
 simp only[A9]
 rw[nX key counter nonce hk hn zO,U]
 generalize hw:IT key counter nonce=w at hb
 rw[CG (by simp[hb]) (by simp[hb]),U,List.nil_append]
 have hl:∀l:List UInt32,(l.flatMap GH).length=4*l.length:=by
  intro l
  induction l with
  | nil=>rfl
  | cons x r ih=>rw[List.flatMap_cons,List.length_append,ih,List.length_cons];simp[GH];omega
 have h3:∀ws:List UInt32,ws.length=16→GU n w ws=some ((List.zipWith (·+·) ws w).flatMap GH,0):=by
  intro ws ht
  have hz:(List.zipWith (·+·) ws w).length=16:=by simp[ht,hb]
  have hg:∀i,i<16→(List.zipWith (·+·) ws w)[i]? = some (ws.getD i 0+w.getD i 0):=fun i hi=>by
   simp[List.getD_eq_getElem?_getD,ht,hb,hi]
  generalize List.zipWith (·+·) ws w=z at hz hg
  unfold GU KK
  refine(congrArg (By _ n) ?_).trans (Dw (fun i=>((z.take i).flatMap GH,(i:Int))) 16 (fun i hi k=>?_) (fun k=>?_) zO)
  simp
  have ei:((i+1:Nat):Int)=(i:Int)+1:=zO
  have st:(z.take (i+1)).flatMap GH=(z.take i).flatMap GH++GH (ws.getD i 0+w.getD i 0):=by
   rw[List.take_add_one,hg i hi,List.flatMap_append]
   simp
  dsimp only
  rw[st,ei]
  simp only[Gq,show decide ((i:Int)<16)=true by simp;omega,BZ,ret]
  rw[CK (k:=i) 0 rfl zO,U,CK (k:=i) 0 rfl zO,U,CG (by rw[hl];simp[hz];omega) (by rw[hl];simp[hz];omega),U,BC zO zO]
  rfl
  simp only[Gq,show decide (((16:Nat):Int)<16)=false by decide,A9,KQ]
  rw[List.take_of_length_le zO]
 have h2:GU n w (Sc w 10)=some (KL key counter nonce,0):=by
  rw[h3 _ (by rw[NA,hb])]
  unfold KL ki
  rw[hw]
 unfold KU
 refine(congrArg (By _ n) ?_).trans (Dw (fun i=>(Sc w i,(i:Int))) 10 (fun i hi k=>?_) (fun k=>?_) zO)
 rfl
 simp only[Gk,show decide ((i:Int)<10)=true by simp;omega,BZ,ret]
 have hl0:(Sc w i).length=16:=by rw[NA,hb]
 have hA:∀(l:List UInt32) (s j:Nat),l.length=16→j<4→C6 l (Ik s j 0:Int) (Ik s j 1:Int) (Ik s j 2:Int) (Ik s j 3:Int)=some (ml l (Ik s j)):=fun l s j hl hj=>ve l (Ik s j) (fun k hk=>by unfold Ik;omega)
 have r:∀(l:List UInt32) (s:Nat),l.length=16→∀j,(Dj l s j).length=16:=fun l s hl j=>by rw[Ku,hl]
 have a0:∀l:List UInt32,l.length=16→C6 l 0 4 8 12=some (Dj l 0 1):=fun l hl=>hA l 0 0 hl zD
 have a1:∀l:List UInt32,l.length=16→C6 (Dj l 0 1) 1 5 9 13=some (Dj l 0 2):=fun l hl=>hA _ 0 1 (r _ _ hl _) zD
 have a2:∀l:List UInt32,l.length=16→C6 (Dj l 0 2) 2 6 10 14=some (Dj l 0 3):=fun l hl=>hA _ 0 2 (r _ _ hl _) zD
 have a3:∀l:List UInt32,l.length=16→C6 (Dj l 0 3) 3 7 11 15=some (Dj l 0 4):=fun l hl=>hA _ 0 3 (r _ _ hl _) zD
 have b0:∀l:List UInt32,l.length=16→C6 l 0 5 10 15=some (Dj l 1 1):=fun l hl=>hA l 1 0 hl zD
 have b1:∀l:List UInt32,l.length=16→C6 (Dj l 1 1) 1 6 11 12=some (Dj l 1 2):=fun l hl=>hA _ 1 1 (r _ _ hl _) zD
 have b2:∀l:List UInt32,l.length=16→C6 (Dj l 1 2) 2 7 8 13=some (Dj l 1 3):=fun l hl=>hA _ 1 2 (r _ _ hl _) zD
 have b3:∀l:List UInt32,l.length=16→C6 (Dj l 1 3) 3 4 9 14=some (Dj l 1 4):=fun l hl=>hA _ 1 3 (r _ _ hl _) zD
 have hl4:=r _ 0 hl0 4
 rw[a0 _ hl0,U,a1 _ hl0,U,a2 _ hl0,U,a3 _ hl0,U,b0 _ hl4,U,b1 _ hl4,U,b2 _ hl4,U,b3 _ hl4,U,BC zO zO]
 rfl
 simp only[Gk,show decide (((10:Nat):Int)<10)=false by decide,A9]
 exact h2
theorem pp(key nonce s:List UInt8)(hk:key.length=32)(hn:nonce.length=12)(hs:s.length≤1048576){n:Nat}(hm:16<n)(hm2:s.length<n):Kz n key nonce s=some (Gl key nonce s,0):=by
 have hB:∀i,HS n key (UInt32.ofNat i) nonce=some (KL key (UInt32.ofNat i) nonce,0):=fun i=>pH key _ nonce hk hn hm
 have hL:∀i,(KL key (UInt32.ofNat i) nonce).length=64:=fun i=>TD hk hn
 have hX:∀i,i<s.length→(Gl key nonce s).take (i+1)=(Gl key nonce s).take i++[s.getD i 0 ^^^ (KL key (UInt32.ofNat (i / 64)) nonce).getD (i%64) 0]:=fun i hi=>by
  rw[List.take_add_one,List.getElem?_eq_getElem (by rw[Fb];exact hi)]
  simp[Gl,PK]
 have hXl:=Fb key nonce s
 generalize Gl key nonce s=X at hX hXl ⊢
 generalize hBf:(fun i=>KL key (UInt32.ofNat i) nonce)=B
 have hB':∀i,HS n key (UInt32.ofNat i) nonce=some (B i,0):=fun i=>by rw[hB i,←hBf]
 have hL':∀i,(B i).length=64:=fun i=>by rw[←hBf];exact hL i
 have hX':∀i,i<s.length→X.take (i+1)=X.take i++[s.getD i 0 ^^^ (B (i / 64)).getD (i%64) 0]:=fun i hi=>by rw[hX i hi,←hBf]
 clear hB hL hX hBf
 unfold Kz
 rw[show(((!decide ((key.length:Int)=32))||(!decide ((nonce.length:Int)=12)))||(decide (1048576<(s.length:Int))))=false by simp[hk,hn];omega]
 simp only[A9]
 unfold Jw
 refine(congrArg (By _ n) ?_).trans (Dw (fun i=>(X.take i,(if i=0 then[]else B ((i-1) / 64)),(i:Int))) s.length (fun i hi k=>?_) (fun k=>?_) hm2)
 simp
 have ei:((i+1:Nat):Int)=(i:Int)+1:=zO
 dsimp only
 rw[hX' i hi,if_neg (show ¬i+1=0 by omega),Nat.add_sub_cancel,ei]
 simp only[IX,show decide ((i:Int)<(s.length:Int))=true by simp;omega,BZ]
 have hr:SE (i:Int) 64=some ((i%64:Nat):Int):=Vu zD
 have hq:UN (i:Int) 64=some ((i / 64:Nat):Int):=fG zD zO
 have hj:Hy s (X.take i) (i:Int) k (B (i / 64))=k (X.take i++[s.getD i 0 ^^^ (B (i / 64)).getD (i%64) 0],B (i / 64),(i:Int)+1):=by
  have hbl:=hL' (i / 64)
  unfold Hy
  rw[CK (k:=i) 0 rfl hi,U,hr,U,CK (k:=i%64) 0 rfl zO,U,CG zQ zQ,U]
  simp only[ret]
  rw[BC zO zO]
 rw[hr,U]
 by_cases h0:i%64=0
 rw[show decide (((i%64:Nat):Int)=0)=true by simp;omega]
 simp only[BZ]
 have hu:FL ((i / 64:Nat):Int)=UInt32.ofNat (i / 64):=by
  simp only[FL]
  congr 1
  omega
 rw[hq,U,hu,hB',U]
 exact hj
 rw[show decide (((i%64:Nat):Int)=0)=false by simp;omega]
 simp only[A9]
 rw[if_neg (show ¬i=0 by omega),show(i-1) / 64=i / 64 by omega]
 exact hj
 simp only[IX,show decide ((s.length:Int)<(s.length:Int))=false by simp,A9,L4]
 rw[List.take_of_length_le zO]
end
end Go.Proofs.YtkibffdipniemaaGreatDoor
