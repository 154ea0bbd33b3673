/- The texts GG23, GG24, GG25, GG26, GG27, GG28, GG29, GG30, GG31, LG1, LG8, LG9, YI, Y1a, YF, V3f, VG1, VG2, LG10, LG11, S25, GG32, GG33, LG12, LG13, LG14, GG34, GG35, LG19, LG20, one behind the other: walks of the program, and plain laws of what it computes. Conditions: as each theorem says. -/
import Derived.Test.YtkibffdipniemaaGreatDoorMJ1
import Derived.Test.YtkibffdipniemaaGreatDoorMJ2
import Derived.Test.YtkibffdipniemaaGreatDoorMJ3
import Derived.Test.YtkibffdipniemaaGreatDoorMJ4

set_option linter.unusedVariables false
set_option linter.unusedSimpArgs false
set_option maxHeartbeats 4000000
set_option maxRecDepth 100000
namespace Go.Proofs.YtkibffdipniemaaGreatDoor
open Go
section
variable {K:Nat→Prop}{w0:World}{H:List AV}
def Sv(l7:List AP):Option (List AP):=
 some l7
def Kd(a5:Int)(nx_f_sym_l4:List AP×Int→Option (List AP))(l8:List AP)(a8:Int):Option (List AP):=
 cond (decide (a5<a8))
 (
  (Ao l8 (wI (a8-1))).bind fun x11=>
  (Ao l8 a8).bind fun x12=>
  (Ao l8 a8).bind fun x13=>
  (F6 l8 a8 x11).bind fun l9=>
  (Ao l9 (wI (a8-1))).bind fun x14=>
  (F6 l9 (wI (a8-1)) x12).bind fun l10=>
  ret (wI (a8-1)) fun k_2=>
  nx_f_sym_l4 (l10,k_2))
 (
  Sv l8)
def Od(a5:Int):Nat→(List AP×Int)→Option (List AP):=Bu fun nx x=>Kd a5 nx x.1 x.2
def P8(n:Nat)(p2:Int)(l1:List AP)(a5:Int):Option (List AP):=
 Od a5 n (l1,p2)
def MG(n:Nat)(p2:Int)(l1:List AP)(nx_f_sym_l3:Int×Int→Option (List AP))(a6:Int)(a7:Int):Option (List AP):=
 cond (decide (a6<a7))
 (
  ret (wI ((shr64 (BW (wI (a6+a7))) 1).toNat:Int)) fun x8=>
  (Ao l1 p2).bind fun x9=>
  (Ao l1 x8).bind fun x10=>
  (Ek x9 x10).bind fun y2=>
  cond (!(decide (y2<0)))
  (
   ret (wI (x8+1)) fun i_2=>
   nx_f_sym_l3 (i_2,a7))
  (
   nx_f_sym_l3 (a6,x8)))
 (
  P8 n p2 l1 a6)
def Sm(n:Nat)(p2:Int)(l1:List AP):Nat→(Int×Int)→Option (List AP):=Bu fun nx x=>MG n p2 l1 nx x.1 x.2
def L6(p3:Int)(rec_:(List AP)→Int→Int→Int→Option (List AP))(mid_1:Int)(x19:Int)(l12:List AP):Option (List AP):=
 cond ((decide (mid_1<x19))&&(decide (x19<p3)))
 (
  (rec_ l12 mid_1 x19 p3).bind fun y6=>
  some y6)
 (
  some l12)
def NL(p1:Int)(p3:Int)(rec_:(List AP)→Int→Int→Int→Option (List AP))(mid_1:Int)(a11:Int)(x19:Int)(l11:List AP):Option (List AP):=
 cond ((decide (p1<a11))&&(decide (a11<mid_1)))
 (
  (rec_ l11 p1 a11 mid_1).bind fun y5=>
  L6 p3 rec_ mid_1 x19 y5)
 (
  L6 p3 rec_ mid_1 x19 l11)
def OT(n:Nat)(p1:Int)(p2:Int)(p3:Int)(rec_:(List AP)→Int→Int→Int→Option (List AP))(l6:List AP)(mid_1:Int)(x15:Int)(a11:Int):Option (List AP):=
 ret (wI (x15-a11)) fun x19=>
 cond ((decide (a11<p2))&&(decide (p2<x19)))
 (
  (ZH n l6 a11 p2 x19).bind fun y4=>
  NL p1 p3 rec_ mid_1 a11 x19 y4)
 (
  NL p1 p3 rec_ mid_1 a11 x19 l6)
def ME(n:Nat)(p1:Int)(p2:Int)(p3:Int)(rec_:(List AP)→Int→Int→Int→Option (List AP))(l6:List AP)(mid_1:Int)(x15:Int)(p_1:Int)(nx_f_sym_l5:Int×Int→Option (List AP))(a12:Int)(a13:Int):Option (List AP):=
 cond (decide (a12<a13))
 (
  ret (wI ((shr64 (BW (wI (a12+a13))) 1).toNat:Int)) fun x16=>
  (Ao l6 (wI (p_1-x16))).bind fun x17=>
  (Ao l6 x16).bind fun x18=>
  (Ek x17 x18).bind fun y3=>
  cond (!(decide (y3<0)))
  (
   ret (wI (x16+1)) fun start_2=>
   nx_f_sym_l5 (start_2,a13))
  (
   nx_f_sym_l5 (a12,x16)))
 (
  OT n p1 p2 p3 rec_ l6 mid_1 x15 a12)
def TF(n:Nat)(p1:Int)(p2:Int)(p3:Int)(rec_:(List AP)→Int→Int→Int→Option (List AP))(l6:List AP)(mid_1:Int)(x15:Int)(p_1:Int):Nat→(Int×Int)→Option (List AP):=Bu fun nx x=>ME n p1 p2 p3 rec_ l6 mid_1 x15 p_1 nx x.1 x.2
def OV(n:Nat)(p1:Int)(p2:Int)(p3:Int)(rec_:(List AP)→Int→Int→Int→Option (List AP))(l6:List AP)(mid_1:Int)(x15:Int)(a9:Int)(a10:Int):Option (List AP):=
 ret (wI (x15-1)) fun p_1=>
 TF n p1 p2 p3 rec_ l6 mid_1 x15 p_1 n (a9,a10)
def QB(n:Nat)(p1:Int)(p2:Int)(p3:Int)(rec_:(List AP)→Int→Int→Int→Option (List AP))(l6:List AP):Option (List AP):=
 ret (wI ((shr64 (BW (wI (p1+p3))) 1).toNat:Int)) fun mid_1=>
 ret (wI (mid_1+p2)) fun x15=>
 cond (decide (mid_1<p2))
 (
  ret (wI (x15-p3)) fun start_1=>
  OV n p1 p2 p3 rec_ l6 mid_1 x15 start_1 mid_1)
 (
  OV n p1 p2 p3 rec_ l6 mid_1 x15 p1 p2)
def S4(n:Nat)(p1:Int)(p2:Int)(p3:Int)(rec_:(List AP)→Int→Int→Int→Option (List AP))(l1:List AP):Option (List AP):=
 cond (decide (wI (p3-p2)=1))
 (
  Sm n p2 l1 n (p1,p2))
 (
  QB n p1 p2 p3 rec_ l1)
def TA(l2:List AP):Option (List AP):=
 some l2
def KX(a1:Int)(nx_f_sym_l2:List AP×Int→Option (List AP))(l3:List AP)(a4:Int):Option (List AP):=
 cond (decide (a4<wI (a1-1)))
 (
  (Ao l3 (wI (a4+1))).bind fun x4=>
  (Ao l3 a4).bind fun x5=>
  (Ao l3 a4).bind fun x6=>
  (F6 l3 a4 x4).bind fun l4=>
  (Ao l4 (wI (a4+1))).bind fun x7=>
  (F6 l4 (wI (a4+1)) x5).bind fun l5=>
  ret (wI (a4+1)) fun k_1=>
  nx_f_sym_l2 (l5,k_1))
 (
  TA l3)
def OR(a1:Int):Nat→(List AP×Int)→Option (List AP):=Bu fun nx x=>KX a1 nx x.1 x.2
def Qc(n:Nat)(p0:List AP)(p1:Int)(a1:Int):Option (List AP):=
 OR a1 n (p0,p1)
def MI(n:Nat)(p0:List AP)(p1:Int)(nx_f_sym_l1:Int×Int→Option (List AP))(a2:Int)(a3:Int):Option (List AP):=
 cond (decide (a2<a3))
 (
  ret (wI ((shr64 (BW (wI (a2+a3))) 1).toNat:Int)) fun x1=>
  (Ao p0 x1).bind fun x2=>
  (Ao p0 p1).bind fun x3=>
  (Ek x2 x3).bind fun y1=>
  cond (decide (y1<0))
  (
   ret (wI (x1+1)) fun i_1=>
   nx_f_sym_l1 (i_1,a3))
  (
   nx_f_sym_l1 (a2,x1)))
 (
  Qc n p0 p1 a2)
def S5(n:Nat)(p0:List AP)(p1:Int):Nat→(Int×Int)→Option (List AP):=Bu fun nx x=>MI n p0 p1 nx x.1 x.2
def ZM(rec_:(List AP)→Int→Int→Int→Option (List AP))(n:Nat)(p0:List AP)(p1:Int)(p2:Int)(p3:Int):Option (List AP):=
 cond (decide (wI (p2-p1)=1))
 (
  S5 n p0 p1 n (p2,p3))
 (
  S4 n p1 p2 p3 rec_ p0)
theorem tC{rec_:(List AP)→Int→Int→Int→Option (List AP)}{n:Nat}{B3:Value}{p0 r:List AP}{p1 p2 p3:Int}(h:ZM rec_ n p0 p1 p2 p3=some r)(hrec:∀ {H:List AV} {B3:Value} {p0:List AP} {p1:Int} {p2:Int} {p3:Int} {r:List AP},rec_ p0 p1 p2 p3=some r→zC K w0 124 [B3,vI p1,vI p2,vI p3,.func (.func 50) #[] #[]] [AH 79 4 B3 AJ p0] H (fun u M=>u=.tuple #[]∧M=[AH 79 4 B3 AJ r])):zC K w0 124 [B3,vI p1,vI p2,vI p3,.func (.func 50) #[] #[]] [AH 79 4 B3 AJ p0] H (fun u M=>u=.tuple #[]∧M=[AH 79 4 B3 AJ r]):=by
 unfold ZM at h
 refine UJ.enter Tryz.func124 rfl rfl ?_
 refine A4 (α:=List AP) (fun x=>S4 n p1 p2 p3 rec_ x=some r) (fun x=>[(0,B3),(1,vI p1),(2,vI p2),(3,vI p3),(4,.func (.func 50) #[] #[])]) (fun x=>AH 79 4 B3 AJ x::H) ?_ (fun l1 D h=>?_)
 refine Z (J E (J E (V E B5 (V E CH (Y ?_)))))
 refine AT h E (fun hc1 h=>?_) fun hc1 h=>?_
 refine Z (J E (O E (Y (Z (J E (O E (Y ?_)))))))
 refine A4 (α:=Int) (fun x=>Qc n p0 p1 x=some r) (fun x=>[(0,B3),(1,vI p1),(10,vI x)]) (fun x=>AH 79 4 B3 AJ p0::H) ?_ (fun a1 D h=>?_)
 refine AM ?_
 refine SX.heap (SX.mono (A5 (α:=Nat×Int×Int) (fun x=>S5 n p0 p1 x.1 (x.2.1,x.2.2)=some r) (fun x=>[(0,B3),(1,vI p1),(4,.func (.func 50) #[] #[]),(10,vI x.2.1),(11,vI x.2.2)]) (fun x=>AH 79 4 B3 AJ p0::H) (fun x=>x.1) (fun x D h=>?_) (n,p2,p3) h) tL) (BB [0] 1 E E E)
 obtain⟨m1,a2,a3⟩:=x
 dsimp only at h
 rcases m1 with _ | m1
 cases (show(none:Option _)=some r from h)
 replace h:MI n p0 p1 (S5 n p0 p1 m1) a2 a3=some r:=h
 unfold MI at h
 try dsimp only
 refine AE (Z (J E (J E (V E Aw (Y ?_)))))
 refine AT h E (fun hc2 h=>?_) fun hc2 h=>?_
 refine AI (AG (AM (Z ?_)))
 obtain⟨x1,ex1,h⟩:=Bn h
 refine J E (J E (V E Ay (Au E E (Df FW Is) ?_)))
 refine V E (E0.shr64 (n:=1)) ?_
 refine Au E E (PQ Is FW) ?_
 refine Am (u:=vI x1) E E (congrArg vI ex1) ?_
 refine Y (AE ?_)
 refine AC h fun x2 hx2 h=>?_
 refine AC h fun x3 hx3 h=>?_
 refine AC h fun y1 hy1 h=>?_
 refine Ak Ca [0] (Bo [(true,0),(true,1),(true,2),(true,3),(true,4),(true,5),(true,6),(true,7),(true,8)] (.last 9 (Pl.of [(false,10)]))) zK (J E (J E (J E ?_)))
 refine BV 0 hx2 E Bt B2 E E E fun g1 m2 cp1 hv1=>?_
 refine Ab (AJ x2) E Eo E E (Cc (sz:=4) (enc:=AJ) 0 zV E hv1 hx2) ?_
 refine J E (J E ?_)
 refine BV 0 hx3 E Bt B2 E E E fun g2 m3 cp2 hv2=>?_
 refine Ab (AJ x3) E Eo E E (Cc (sz:=4) (enc:=AJ) 0 zV E hv2 hx3) ?_
 refine BN (AQ 0 cg ((Ln hy1 :)) E (V E Aw (Y ?_)))
 refine AT h E (fun hc3 h=>?_) fun hc3 h=>?_
 refine AK ?_
 obtain⟨i_1,ei_1,h⟩:=Bn h
 refine J E (V E Ay ?_)
 refine Am (u:=vI i_1) E E (congrArg vI ei_1) ?_
 refine AU (An ?_)
 exact Ai (m1,i_1,a3) h (Nat.lt_succ_self _) tL (BB [0] 1 E E E)
 refine AK (J E (O E (AU (An ?_))))
 exact Ai (m1,a2,x1) h (Nat.lt_succ_self _) tL (BB [0] 1 E E E)
 refine Ax (A3 (BL (Az ?_)))
 exact Av a2 h tL (BB [0] 1 E E E)
 unfold Qc at h
 try dsimp only
 refine A4 (α:=List AP) (fun x=>TA x=some r) (fun x=>[(0,B3)]) (fun x=>AH 79 4 B3 AJ x::H) ?_ (fun l2 D h=>?_)
 refine Z (J E (O E (Y (AM ?_))))
 refine SX.heap (SX.mono (A5 (α:=Nat×List AP×Int) (fun x=>OR a1 x.1 (x.2.1,x.2.2)=some r) (fun x=>[(0,B3),(10,vI a1),(13,vI x.2.2)]) (fun x=>AH 79 4 B3 AJ x.2.1::H) (fun x=>x.1) (fun x D h=>?_) (n,p0,p1) h) tL) (BB [0] 1 E E E)
 obtain⟨m4,l3,a4⟩:=x
 dsimp only at h
 rcases m4 with _ | m4
 cases (show(none:Option _)=some r from h)
 replace h:KX a1 (OR a1 m4) l3 a4=some r:=h
 unfold KX at h
 try dsimp only
 refine AE (Z (J E (J E (V E B5 (V E Aw (Y ?_))))))
 refine AT h E (fun hc4 h=>?_) fun hc4 h=>?_
 refine AI (AG (AE (AM ?_)))
 refine AC h fun x4 hx4 h=>?_
 refine AC h fun x5 hx5 h=>?_
 refine AC h fun x6 hx6 h=>?_
 refine AC h fun l4 hl4 h=>?_
 refine AC h fun x7 hx7 h=>?_
 refine AC h fun l5 hl5 h=>?_
 refine Ak Ca [] (Bo [(true,0),(true,1),(true,2),(true,3),(true,4),(true,5),(true,6),(true,7),(true,8),(true,10),(true,11),(true,12)] (.alt 9 (Bo [(false,13),(true,14),(false,15),(true,16)] (.last 17 .nil)) (.cons (false,13) (Bo [(false,9),(true,14),(false,15),(true,16)] (.last 17 .nil))))) zK (J E (J E (J E (J E (V E Ay (J E (J E ?_)))))))
 refine V E Ay ?_
 refine BV 0 hx4 E Bt B2 E E E fun g3 m5 cp3 hv3=>?_
 refine J E (J E ?_)
 refine BV 0 hx5 E Bt B2 E E E fun g4 m6 cp4 hv4=>?_
 refine Mp ?_ ?_
 refine Ab (AJ x4) E Eo E E (Cc (sz:=4) (enc:=AJ) 0 zV E hv3 hx4) ?_
 refine Ab (AJ x5) E Eo E E (Cc (sz:=4) (enc:=AJ) 0 zV E hv4 hx5) ?_
 refine BV 0 hx6 E Bt B2 E E E fun g5 m7 cp5 hv5=>?_
 refine DE (sz:=4) (enc:=AJ) 0 hl4 zV rfl rfl rfl rfl rfl hv5 B2 (by first | (simp[Value.oneCell'];done) | simp[AJ,Value.oneCell']) trivial ?_
 refine BV 0 hx7 E Bt B2 E E E fun g6 m8 cp6 hv6=>?_
 refine BN ?_
 refine DE (sz:=4) (enc:=AJ) 0 hl5 zV rfl rfl rfl rfl rfl hv6 B2 (by first | (simp[Value.oneCell'];done) | simp[AJ,Value.oneCell']) trivial ?_
 refine AU (An (AG (AK ?_)))
 obtain⟨k_1,ek_1,h⟩:=Bn h
 refine J E (V E Ay ?_)
 refine Am (u:=vI k_1) E E (congrArg vI ek_1) ?_
 refine AU ?_
 exact Ai (m4,l5,k_1) h (Nat.lt_succ_self _) tL (BB [0] 1 E E E)
 refine Ab (AJ x5) E Eo E E (Cc (sz:=4) (enc:=AJ) 0 zV E hv4 hx5) ?_
 refine Ab (AJ x4) E Eo E E (Cc (sz:=4) (enc:=AJ) 0 zV E hv3 hx4) ?_
 refine BV 0 hx6 E Bt B2 E E E fun g5 m7 cp5 hv5=>?_
 refine DE (sz:=4) (enc:=AJ) 0 hl4 zV rfl rfl rfl rfl rfl hv5 B2 (by first | (simp[Value.oneCell'];done) | simp[AJ,Value.oneCell']) trivial ?_
 refine BV 0 hx7 E Bt B2 E E E fun g6 m8 cp6 hv6=>?_
 refine BN ?_
 refine DE (sz:=4) (enc:=AJ) 0 hl5 zV rfl rfl rfl rfl rfl hv6 B2 (by first | (simp[Value.oneCell'];done) | simp[AJ,Value.oneCell']) trivial ?_
 refine AU (An (AG (AK ?_)))
 obtain⟨k_1,ek_1,h⟩:=Bn h
 refine J E (V E Ay ?_)
 refine Am (u:=vI k_1) E E (congrArg vI ek_1) ?_
 refine AU ?_
 exact Ai (m4,l5,k_1) h (Nat.lt_succ_self _) tL (BB [0] 1 E E E)
 refine Ax (A3 (BL (Az ?_)))
 exact Av l3 h tL (BB [0] 1 E E E)
 unfold TA at h
 try dsimp only
 refine AL (EO ?_)
 obtain rfl:=zI h
 exact Ad [0] 1 E E E
 refine AI ?_
 exact Av p0 h tL (BB [0] 1 E E E)
 unfold S4 at h
 try dsimp only
 refine A4 (α:=List AP) (fun x=>QB n p1 p2 p3 rec_ x=some r) (fun x=>[(0,B3),(1,vI p1),(2,vI p2),(3,vI p3),(4,.func (.func 50) #[] #[])]) (fun x=>AH 79 4 B3 AJ x::H) ?_ (fun l6 D h=>?_)
 refine Z (J E (J E (V E B5 (V E CH (Y ?_)))))
 refine AT h E (fun hc5 h=>?_) fun hc5 h=>?_
 refine Z (J E (O E (Y (Z (J E (O E (Y ?_)))))))
 refine A4 (α:=Int) (fun x=>P8 n p2 l1 x=some r) (fun x=>[(0,B3),(2,vI p2),(14,vI x)]) (fun x=>AH 79 4 B3 AJ l1::H) ?_ (fun a5 D h=>?_)
 refine AM ?_
 refine SX.heap (SX.mono (A5 (α:=Nat×Int×Int) (fun x=>Sm n p2 l1 x.1 (x.2.1,x.2.2)=some r) (fun x=>[(0,B3),(2,vI p2),(4,.func (.func 50) #[] #[]),(14,vI x.2.1),(15,vI x.2.2)]) (fun x=>AH 79 4 B3 AJ l1::H) (fun x=>x.1) (fun x D h=>?_) (n,p1,p2) h) tL) (BB [0] 1 E E E)
 obtain⟨m9,a6,a7⟩:=x
 dsimp only at h
 rcases m9 with _ | m9
 cases (show(none:Option _)=some r from h)
 replace h:MG n p2 l1 (Sm n p2 l1 m9) a6 a7=some r:=h
 unfold MG at h
 try dsimp only
 refine AE (Z (J E (J E (V E Aw (Y ?_)))))
 refine AT h E (fun hc6 h=>?_) fun hc6 h=>?_
 refine AI (AG (AM (Z ?_)))
 obtain⟨x8,ex8,h⟩:=Bn h
 refine J E (J E (V E Ay (Au E E (Df FW Is) ?_)))
 refine V E (E0.shr64 (n:=1)) ?_
 refine Au E E (PQ Is FW) ?_
 refine Am (u:=vI x8) E E (congrArg vI ex8) ?_
 refine Y (AE ?_)
 refine AC h fun x9 hx9 h=>?_
 refine AC h fun x10 hx10 h=>?_
 refine AC h fun y2 hy2 h=>?_
 refine Ak Ca [0] (Bo [(true,0),(true,1),(true,2),(true,3),(true,4),(true,5),(true,6),(true,7),(true,8)] (.last 9 (Pl.of [(false,10),(false,11)]))) zK (J E (J E (J E ?_)))
 refine BV 0 hx9 E Bt B2 E E E fun g7 m10 cp7 hv7=>?_
 refine Ab (AJ x9) E Eo E E (Cc (sz:=4) (enc:=AJ) 0 zV E hv7 hx9) ?_
 refine J E (J E ?_)
 refine BV 0 hx10 E Bt B2 E E E fun g8 m11 cp8 hv8=>?_
 refine Ab (AJ x10) E Eo E E (Cc (sz:=4) (enc:=AJ) 0 zV E hv8 hx10) ?_
 refine BN (AQ 0 cg ((Ln hy2 :)) E (V E Aw (CN E E (Y ?_))))
 refine AT h E (fun hc7 h=>?_) fun hc7 h=>?_
 refine AK ?_
 obtain⟨i_2,ei_2,h⟩:=Bn h
 refine J E (V E Ay ?_)
 refine Am (u:=vI i_2) E E (congrArg vI ei_2) ?_
 refine AU (An ?_)
 exact Ai (m9,i_2,a7) h (Nat.lt_succ_self _) tL (BB [0] 1 E E E)
 refine AK (J E (O E (AU (An ?_))))
 exact Ai (m9,a6,x8) h (Nat.lt_succ_self _) tL (BB [0] 1 E E E)
 refine Ax (A3 (BL (Az ?_)))
 exact Av a6 h tL (BB [0] 1 E E E)
 unfold P8 at h
 try dsimp only
 refine A4 (α:=List AP) (fun x=>Sv x=some r) (fun x=>[(0,B3)]) (fun x=>AH 79 4 B3 AJ x::H) ?_ (fun l7 D h=>?_)
 refine Z (J E (O E (Y (AM ?_))))
 refine SX.heap (SX.mono (A5 (α:=Nat×List AP×Int) (fun x=>Od a5 x.1 (x.2.1,x.2.2)=some r) (fun x=>[(0,B3),(14,vI a5),(17,vI x.2.2)]) (fun x=>AH 79 4 B3 AJ x.2.1::H) (fun x=>x.1) (fun x D h=>?_) (n,l1,p2) h) tL) (BB [0] 1 E E E)
 obtain⟨m12,l8,a8⟩:=x
 dsimp only at h
 rcases m12 with _ | m12
 cases (show(none:Option _)=some r from h)
 replace h:Kd a5 (Od a5 m12) l8 a8=some r:=h
 unfold Kd at h
 try dsimp only
 refine AE (Z (J E (J E (V E CY (Y ?_)))))
 refine AT h E (fun hc8 h=>?_) fun hc8 h=>?_
 refine AI (AG (AE (AM ?_)))
 refine AC h fun x11 hx11 h=>?_
 refine AC h fun x12 hx12 h=>?_
 refine AC h fun x13 hx13 h=>?_
 refine AC h fun l9 hl9 h=>?_
 refine AC h fun x14 hx14 h=>?_
 refine AC h fun l10 hl10 h=>?_
 refine Ak Ca [] (Bo [(true,0),(true,1),(true,2),(true,3),(true,4),(true,5),(true,6),(true,7),(true,8),(true,10),(true,11),(true,12)] (.alt 9 (Bo [(false,13),(true,14),(false,15),(true,16)] (.last 17 .nil)) (.cons (false,13) (Bo [(false,9),(true,14),(false,15),(true,16)] (.last 17 .nil))))) zK (J E (J E (J E (J E (V E B5 (J E (J E ?_)))))))
 refine V E B5 ?_
 refine BV 0 hx11 E Bt B2 E E E fun g9 m13 cp9 hv9=>?_
 refine J E (J E ?_)
 refine BV 0 hx12 E Bt B2 E E E fun g10 m14 cp10 hv10=>?_
 refine Mp ?_ ?_
 refine Ab (AJ x11) E Eo E E (Cc (sz:=4) (enc:=AJ) 0 zV E hv9 hx11) ?_
 refine Ab (AJ x12) E Eo E E (Cc (sz:=4) (enc:=AJ) 0 zV E hv10 hx12) ?_
 refine BV 0 hx13 E Bt B2 E E E fun g11 m15 cp11 hv11=>?_
 refine DE (sz:=4) (enc:=AJ) 0 hl9 zV rfl rfl rfl rfl rfl hv11 B2 (by first | (simp[Value.oneCell'];done) | simp[AJ,Value.oneCell']) trivial ?_
 refine BV 0 hx14 E Bt B2 E E E fun g12 m16 cp12 hv12=>?_
 refine BN ?_
 refine DE (sz:=4) (enc:=AJ) 0 hl10 zV rfl rfl rfl rfl rfl hv12 B2 (by first | (simp[Value.oneCell'];done) | simp[AJ,Value.oneCell']) trivial ?_
 refine AU (An (AG (AK ?_)))
 obtain⟨k_2,ek_2,h⟩:=Bn h
 refine J E (V E B5 ?_)
 refine Am (u:=vI k_2) E E (congrArg vI ek_2) ?_
 refine AU ?_
 exact Ai (m12,l10,k_2) h (Nat.lt_succ_self _) tL (BB [0] 1 E E E)
 refine Ab (AJ x12) E Eo E E (Cc (sz:=4) (enc:=AJ) 0 zV E hv10 hx12) ?_
 refine Ab (AJ x11) E Eo E E (Cc (sz:=4) (enc:=AJ) 0 zV E hv9 hx11) ?_
 refine BV 0 hx13 E Bt B2 E E E fun g11 m15 cp11 hv11=>?_
 refine DE (sz:=4) (enc:=AJ) 0 hl9 zV rfl rfl rfl rfl rfl hv11 B2 (by first | (simp[Value.oneCell'];done) | simp[AJ,Value.oneCell']) trivial ?_
 refine BV 0 hx14 E Bt B2 E E E fun g12 m16 cp12 hv12=>?_
 refine BN ?_
 refine DE (sz:=4) (enc:=AJ) 0 hl10 zV rfl rfl rfl rfl rfl hv12 B2 (by first | (simp[Value.oneCell'];done) | simp[AJ,Value.oneCell']) trivial ?_
 refine AU (An (AG (AK ?_)))
 obtain⟨k_2,ek_2,h⟩:=Bn h
 refine J E (V E B5 ?_)
 refine Am (u:=vI k_2) E E (congrArg vI ek_2) ?_
 refine AU ?_
 exact Ai (m12,l10,k_2) h (Nat.lt_succ_self _) tL (BB [0] 1 E E E)
 refine Ax (A3 (BL (Az ?_)))
 exact Av l8 h tL (BB [0] 1 E E E)
 unfold Sv at h
 try dsimp only
 refine AL (EO ?_)
 obtain rfl:=zI h
 exact Ad [0] 1 E E E
 refine AI ?_
 exact Av l1 h tL (BB [0] 1 E E E)
 unfold QB at h
 try dsimp only
 refine Z ?_
 obtain⟨mid_1,emid_1,h⟩:=Bn h
 refine J E (J E (V E Ay (Au E E (Df FW Is) ?_)))
 refine V E (E0.shr64 (n:=1)) ?_
 refine Au E E (PQ Is FW) ?_
 refine Am (u:=vI mid_1) E E (congrArg vI emid_1) ?_
 refine Y (Z ?_)
 obtain⟨x15,ex15,h⟩:=Bn h
 refine J E (J E (V E Ay ?_))
 refine Am (u:=vI x15) E E (congrArg vI ex15) ?_
 refine Y (Z (O E (O E (Y ?_))))
 refine A4 (α:=Int×Int) (fun x=>OV n p1 p2 p3 rec_ l6 mid_1 x15 x.1 x.2=some r) (fun x=>[(0,B3),(1,vI p1),(2,vI p2),(3,vI p3),(4,.func (.func 50) #[] #[]),(18,vI mid_1),(19,vI x15),(20,vI x.1),(21,vI x.2)]) (fun x=>AH 79 4 B3 AJ l6::H) ?_ (fun x D h=>?_)
 refine Z (J E (J E (V E CY (Y ?_))))
 refine AT h E (fun hc9 h=>?_) fun hc9 h=>?_
 refine Z ?_
 obtain⟨start_1,estart_1,h⟩:=Bn h
 refine J E (J E (V E B5 ?_))
 refine Am (u:=vI start_1) E E (congrArg vI estart_1) ?_
 refine Y (AK (J E (O E (AU ?_))))
 exact Av (start_1,mid_1) h tL (BB [0] 1 E E E)
 refine Z (J E (O E (Y (AK (J E (O E (AU ?_)))))))
 exact Av (p1,p2) h tL (BB [0] 1 E E E)
 obtain⟨a9,a10⟩:=x
 dsimp only at h
 unfold OV at h
 try dsimp only
 refine Z ?_
 obtain⟨p_1,ep_1,h⟩:=Bn h
 refine J E (V E B5 ?_)
 refine Am (u:=vI p_1) E E (congrArg vI ep_1) ?_
 refine Y ?_
 refine A4 (α:=Int) (fun x=>OT n p1 p2 p3 rec_ l6 mid_1 x15 x=some r) (fun x=>[(0,B3),(1,vI p1),(2,vI p2),(3,vI p3),(4,.func (.func 50) #[] #[]),(18,vI mid_1),(19,vI x15),(20,vI x)]) (fun x=>AH 79 4 B3 AJ l6::H) ?_ (fun a11 D h=>?_)
 refine AM ?_
 refine SX.heap (SX.mono (A5 (α:=Nat×Int×Int) (fun x=>TF n p1 p2 p3 rec_ l6 mid_1 x15 p_1 x.1 (x.2.1,x.2.2)=some r) (fun x=>[(0,B3),(1,vI p1),(2,vI p2),(3,vI p3),(4,.func (.func 50) #[] #[]),(18,vI mid_1),(19,vI x15),(20,vI x.2.1),(21,vI x.2.2),(22,vI p_1)]) (fun x=>AH 79 4 B3 AJ l6::H) (fun x=>x.1) (fun x D h=>?_) (n,a9,a10) h) tL) (BB [0] 1 E E E)
 obtain⟨m17,a12,a13⟩:=x
 dsimp only at h
 rcases m17 with _ | m17
 cases (show(none:Option _)=some r from h)
 replace h:ME n p1 p2 p3 rec_ l6 mid_1 x15 p_1 (TF n p1 p2 p3 rec_ l6 mid_1 x15 p_1 m17) a12 a13=some r:=h
 unfold ME at h
 try dsimp only
 refine AE (Z (J E (J E (V E Aw (Y ?_)))))
 refine AT h E (fun hc10 h=>?_) fun hc10 h=>?_
 refine AI (AG (AM (Z ?_)))
 obtain⟨x16,ex16,h⟩:=Bn h
 refine J E (J E (V E Ay (Au E E (Df FW Is) ?_)))
 refine V E (E0.shr64 (n:=1)) ?_
 refine Au E E (PQ Is FW) ?_
 refine Am (u:=vI x16) E E (congrArg vI ex16) ?_
 refine Y (AE ?_)
 refine AC h fun x17 hx17 h=>?_
 refine AC h fun x18 hx18 h=>?_
 refine AC h fun y3 hy3 h=>?_
 refine Ak Ca [0] (Bo [(true,0),(true,1),(true,2),(true,3),(true,4),(true,5),(true,6),(true,7),(true,8),(true,9),(true,10)] (.last 11 (Pl.of [(false,12),(false,13)]))) zK (J E (J E (J E (J E (V E B5 ?_)))))
 refine BV 0 hx17 E Bt B2 E E E fun g13 m18 cp13 hv13=>?_
 refine Ab (AJ x17) E Eo E E (Cc (sz:=4) (enc:=AJ) 0 zV E hv13 hx17) ?_
 refine J E (J E ?_)
 refine BV 0 hx18 E Bt B2 E E E fun g14 m19 cp14 hv14=>?_
 refine Ab (AJ x18) E Eo E E (Cc (sz:=4) (enc:=AJ) 0 zV E hv14 hx18) ?_
 refine BN (AQ 0 cg ((Ln hy3 :)) E (V E Aw (CN E E (Y ?_))))
 refine AT h E (fun hc11 h=>?_) fun hc11 h=>?_
 refine AK ?_
 obtain⟨start_2,estart_2,h⟩:=Bn h
 refine J E (V E Ay ?_)
 refine Am (u:=vI start_2) E E (congrArg vI estart_2) ?_
 refine AU (An ?_)
 exact Ai (m17,start_2,a13) h (Nat.lt_succ_self _) tL (BB [0] 1 E E E)
 refine AK (J E (O E (AU (An ?_))))
 exact Ai (m17,a12,x16) h (Nat.lt_succ_self _) tL (BB [0] 1 E E E)
 refine Ax (A3 (BL (Az ?_)))
 exact Av a12 h tL (BB [0] 1 E E E)
 unfold OT at h
 try dsimp only
 refine Z ?_
 obtain⟨x19,ex19,h⟩:=Bn h
 refine J E (J E (V E B5 ?_))
 refine Am (u:=vI x19) E E (congrArg vI ex19) ?_
 refine Y ?_
 refine A4 (α:=List AP) (fun x=>NL p1 p3 rec_ mid_1 a11 x19 x=some r) (fun x=>[(0,B3),(1,vI p1),(3,vI p3),(4,.func (.func 50) #[] #[]),(18,vI mid_1),(20,vI a11),(24,vI x19)]) (fun x=>AH 79 4 B3 AJ x::H) ?_ (fun l11 D h=>?_)
 refine Z (J E (J E (V E Aw (J E ?_))))
 refine Cw (c:=decide (p2<x19)) 181 4 185 E (fun hb k=>?_) (fun hb k=>?_) ?_
 refine J E (J E (V E Aw (Ae E E E ?_)))
 exact k.mono tL
 refine AB E (AB E (AB E (Ae E E E ?_)))
 exact k.mono tL
 refine Y ?_
 refine AT h E (fun hc12 h=>?_) fun hc12 h=>?_
 refine AK ?_
 refine AC h fun y4 hy4 h=>?_
 refine J E (J E (J E (J E (J E (AQ 1 qR (to hy4) E (AU ?_))))))
 exact Av y4 h tL (BB [0] 1 E E E)
 refine AI ?_
 exact Av l6 h tL (BB [0] 1 E E E)
 unfold NL at h
 try dsimp only
 refine A4 (α:=List AP) (fun x=>L6 p3 rec_ mid_1 x19 x=some r) (fun x=>[(0,B3),(3,vI p3),(4,.func (.func 50) #[] #[]),(18,vI mid_1),(24,vI x19)]) (fun x=>AH 79 4 B3 AJ x::H) ?_ (fun l12 D h=>?_)
 refine Z (J E (J E (V E Aw (J E ?_))))
 refine Cw (c:=decide (a11<mid_1)) 195 4 199 E (fun hb k=>?_) (fun hb k=>?_) ?_
 refine J E (J E (V E Aw (Ae E E E ?_)))
 exact k.mono tL
 refine AB E (AB E (AB E (Ae E E E ?_)))
 exact k.mono tL
 refine Y ?_
 refine AT h E (fun hc13 h=>?_) fun hc13 h=>?_
 refine AK ?_
 refine AC h fun y5 hy5 h=>?_
 refine J E (J E (J E (J E (J E (AQ 1 XI (hrec hy5) E (AU ?_))))))
 exact Av y5 h tL (BB [0] 1 E E E)
 refine AI ?_
 exact Av l11 h tL (BB [0] 1 E E E)
 unfold L6 at h
 try dsimp only
 refine Z (J E (J E (V E Aw (J E ?_))))
 refine Cw (c:=decide (x19<p3)) 209 4 213 E (fun hb k=>?_) (fun hb k=>?_) ?_
 refine J E (J E (V E Aw (Ae E E E ?_)))
 exact k.mono tL
 refine AB E (AB E (AB E (Ae E E E ?_)))
 exact k.mono tL
 refine Y ?_
 refine AT h E (fun hc14 h=>?_) fun hc14 h=>?_
 refine AK ?_
 refine AC h fun y6 hy6 h=>?_
 refine J E (J E (J E (J E (J E (AQ 1 XI (hrec hy6) E (AU ?_))))))
 obtain rfl:=zI h
 exact Cr (DU E) (AY (M:=[_]) ⟨E,E⟩ fun _ hw=>BZ.pick (H:=[_]) hw [0] 1 E)
 refine AI ?_
 obtain rfl:=zI h
 exact Cr (DU E) (AY (M:=[_]) ⟨E,E⟩ fun _ hw=>BZ.pick (H:=[_]) hw [0] 1 E)
end

section
def O9(n:Nat):Nat→List AP→Int→Int→Int→Option (List AP)
 | 0=>fun _ _ _ _=>none
 | f+1=>ZM (O9 n f) n
def f7(n:Nat):List AP→Int→Int→Int→Option (List AP):=O9 n n
theorem jo(n:Nat):∀(f:Nat) {K:Nat→Prop} {w0:World} {H:List AV} {B3:Value} {p0:List AP} {p1 p2 p3:Int} {r:List AP},O9 n f p0 p1 p2 p3=some r→zC K w0 124 [B3,vI p1,vI p2,vI p3,.func (.func 50) #[] #[]] [AH 79 4 B3 AJ p0] H (fun u M=>u=.tuple #[]∧M=[AH 79 4 B3 AJ r])
 | 0,_,_,_,_,_,_,_,_,_,h=>by cases h
 | f+1,_,_,_,_,_,_,_,_,_,h=>tC h (fun h=>jo n f h)
theorem j6{K:Nat→Prop}{w0:World}{H:List AV}{n:Nat}{B3:Value}{p0 r:List AP}{p1 p2 p3:Int}(h:f7 n p0 p1 p2 p3=some r):zC K w0 124 [B3,vI p1,vI p2,vI p3,.func (.func 50) #[] #[]] [AH 79 4 B3 AJ p0] H (fun u M=>u=.tuple #[]∧M=[AH 79 4 B3 AJ r]):=jo n n h
end

section
variable {K:Nat→Prop}{w0:World}{H:List AV}
def Kh(a4:Int)(nx_f_stb_l2:List AP×Int→Option (List AP))(l6:List AP):Option (List AP):=
 ret (wI (a4*2)) fun blockSize_1=>
 nx_f_stb_l2 (l6,blockSize_1)
def NB(n:Nat)(p1:Int)(a4:Int)(nx_f_stb_l2:List AP×Int→Option (List AP))(l4:List AP)(a5:Int):Option (List AP):=
 ret (wI (a5+a4)) fun x4=>
 cond (decide (x4<p1))
 (
  (f7 n l4 a5 x4 p1).bind fun y4=>
  Kh a4 nx_f_stb_l2 y4)
 (
  Kh a4 nx_f_stb_l2 l4)
def E3(n:Nat)(p1:Int)(a4:Int)(nx_f_stb_l2:List AP×Int→Option (List AP))(nx_f_stb_l3:List AP×Int×Int→Option (List AP))(l5:List AP)(a6:Int)(a7:Int):Option (List AP):=
 cond (decide (a7≤p1))
 (
  (f7 n l5 a6 (wI (a6+a4)) a7).bind fun y3=>
  ret (wI (a7+(wI (2*a4)))) fun x3=>
  nx_f_stb_l3 (y3,a7,x3))
 (
  NB n p1 a4 nx_f_stb_l2 l5 a6)
def Hm(n:Nat)(p1:Int)(a4:Int)(nx_f_stb_l2:List AP×Int→Option (List AP)):Nat→(List AP×Int×Int)→Option (List AP):=Bu fun nx x=>E3 n p1 a4 nx_f_stb_l2 nx x.1 x.2.1 x.2.2
def IA(n:Nat)(p1:Int)(nx_f_stb_l2:List AP×Int→Option (List AP))(l3:List AP)(a4:Int):Option (List AP):=
 cond (decide (a4<p1))
 (
  ret (wI (2*a4)) fun x2=>
  Hm n p1 a4 nx_f_stb_l2 n (l3,0,x2))
 (
  some l3)
def GK(n:Nat)(p1:Int):Nat→(List AP×Int)→Option (List AP):=Bu fun nx x=>IA n p1 nx x.1 x.2
def Su(n:Nat)(p1:Int)(l1:List AP)(a1:Int):Option (List AP):=
 (Vu n l1 a1 p1).bind fun y2=>
 GK n p1 n (y2,20)
def KN(n:Nat)(p1:Int)(nx_f_stb_l1:List AP×Int×Int→Option (List AP))(l2:List AP)(a2:Int)(a3:Int):Option (List AP):=
 cond (decide (a3≤p1))
 (
  (Vu n l2 a2 a3).bind fun y1=>
  ret (wI (a3+20)) fun x1=>
  nx_f_stb_l1 (y1,a3,x1))
 (
  Su n p1 l2 a2)
def NG(n:Nat)(p1:Int):Nat→(List AP×Int×Int)→Option (List AP):=Bu fun nx x=>KN n p1 nx x.1 x.2.1 x.2.2
def c8(n:Nat)(p0:List AP)(p1:Int):Option (List AP):=
 NG n p1 n (p0,0,20)
theorem tA{n:Nat}{B3:Value}{p0 r:List AP}{p1:Int}(h:c8 n p0 p1=some r): zC K w0 83 [B3,vI p1,.func (.func 50) #[] #[]] [AH 79 4 B3 AJ p0] H (fun u M=>u=.tuple #[]∧M=[AH 79 4 B3 AJ r]):=by
 unfold c8 at h
 refine UJ.enter Tryz.func83 rfl rfl ?_
 refine Z (O E (Y (Z (J E (O E (O E (Y ?_)))))))
 refine A4 (α:=List AP×Int) (fun x=>Su n p1 x.1 x.2=some r) (fun x=>[(0,B3),(1,vI p1),(2,.func (.func 50) #[] #[]),(6,vI 20),(7,vI x.2)]) (fun x=>AH 79 4 B3 AJ x.1::H) ?_ (fun x D h=>?_)
 refine AM ?_
 refine SX.heap (SX.mono (A5 (α:=Nat×List AP×Int×Int) (fun x=>NG n p1 x.1 (x.2.1,x.2.2.1,x.2.2.2)=some r) (fun x=>[(0,B3),(1,vI p1),(2,.func (.func 50) #[] #[]),(6,vI 20),(7,vI x.2.2.1),(8,vI x.2.2.2)]) (fun x=>AH 79 4 B3 AJ x.2.1::H) (fun x=>x.1) (fun x D h=>?_) (n,p0,0,20) h) tL) (BB [0] 1 E E E)
 obtain⟨m1,l2,a2,a3⟩:=x
 dsimp only at h
 rcases m1 with _ | m1
 cases (show(none:Option _)=some r from h)
 replace h:KN n p1 (NG n p1 m1) l2 a2 a3=some r:=h
 unfold KN at h
 try dsimp only
 refine AE (Z (J E (J E (V E IK (Y ?_)))))
 refine AT h E (fun hc1 h=>?_) fun hc1 h=>?_
 refine AI (AG (AM (Z ?_)))
 refine AC h fun y1 hy1 h=>?_
 refine J E (J E (J E (J E (AQ 1 jZ (lz hy1) E (Y (Z (J E (O E (Y (AK ?_))))))))))
 obtain⟨x1,ex1,h⟩:=Bn h
 refine J E (J E (V E Ay ?_))
 refine Am (u:=vI x1) E E (congrArg vI ex1) ?_
 refine AU (An ?_)
 exact Ai (m1,y1,a3,x1) h (Nat.lt_succ_self _) tL (BB [0] 1 E E E)
 refine Ax (A3 (BL (Az ?_)))
 exact Av (l2,a2) h tL (BB [0] 1 E E E)
 obtain⟨l1,a1⟩:=x
 dsimp only at h
 unfold Su at h
 try dsimp only
 refine Z ?_
 refine AC h fun y2 hy2 h=>?_
 refine J E (J E (J E (J E (AQ 1 jZ (lz hy2) E (Y (AM ?_))))))
 refine SX.heap (SX.mono (A5 (α:=Nat×List AP×Int) (fun x=>GK n p1 x.1 (x.2.1,x.2.2)=some r) (fun x=>[(0,B3),(1,vI p1),(2,.func (.func 50) #[] #[]),(6,vI x.2.2)]) (fun x=>AH 79 4 B3 AJ x.2.1::H) (fun x=>x.1) (fun x D h=>?_) (n,y2,20) h) tL) (BB [0] 1 E E E)
 obtain⟨m2,l3,a4⟩:=x
 dsimp only at h
 rcases m2 with _ | m2
 cases (show(none:Option _)=some r from h)
 replace h:IA n p1 (GK n p1 m2) l3 a4=some r:=h
 unfold IA at h
 try dsimp only
 refine AE (Z (J E (J E (V E Aw (Y ?_)))))
 refine AT h E (fun hc2 h=>?_) fun hc2 h=>?_
 refine AI (AG (AM (Z ?_)))
 obtain⟨x2,ex2,h⟩:=Bn h
 refine J E (V E Ir (O E ?_))
 refine Am (u:=vI x2) E E (congrArg vI ex2) ?_
 refine Y ?_
 refine A4 (α:=List AP×Int) (fun x=>NB n p1 a4 (GK n p1 m2) x.1 x.2=some r) (fun x=>[(0,B3),(1,vI p1),(2,.func (.func 50) #[] #[]),(6,vI a4),(7,vI x.2)]) (fun x=>AH 79 4 B3 AJ x.1::H) ?_ (fun x D h=>?_)
 refine AM ?_
 refine SX.heap (SX.mono (A5 (α:=Nat×List AP×Int×Int) (fun x=>Hm n p1 a4 (GK n p1 m2) x.1 (x.2.1,x.2.2.1,x.2.2.2)=some r) (fun x=>[(0,B3),(1,vI p1),(2,.func (.func 50) #[] #[]),(6,vI a4),(7,vI x.2.2.1),(8,vI x.2.2.2)]) (fun x=>AH 79 4 B3 AJ x.2.1::H) (fun x=>x.1) (fun x D h=>?_) (n,l3,0,x2) h) tL) (BB [0] 1 E E E)
 obtain⟨m3,l5,a6,a7⟩:=x
 dsimp only at h
 rcases m3 with _ | m3
 cases (show(none:Option _)=some r from h)
 replace h:E3 n p1 a4 (GK n p1 m2) (Hm n p1 a4 (GK n p1 m2) m3) l5 a6 a7=some r:=h
 unfold E3 at h
 try dsimp only
 refine AE (Z (J E (J E (V E IK (Y ?_)))))
 refine AT h E (fun hc3 h=>?_) fun hc3 h=>?_
 refine AI (AG (AM (Z ?_)))
 refine AC h fun y3 hy3 h=>?_
 refine J E (J E (J E (J E (V E Ay (J E (J E (AQ 1 XI (j6 hy3) E (Y (Z ?_)))))))))
 refine J E (O E (Y (AK ?_)))
 obtain⟨x3,ex3,h⟩:=Bn h
 refine J E (J E (V E Ir (V E Ay ?_)))
 refine Am (u:=vI x3) E E (congrArg vI ex3) ?_
 refine AU (An ?_)
 exact Ai (m3,y3,a7,x3) h (Nat.lt_succ_self _) tL (BB [0] 1 E E E)
 refine Ax (A3 (BL (Az ?_)))
 exact Av (l5,a6) h tL (BB [0] 1 E E E)
 obtain⟨l4,a5⟩:=x
 dsimp only at h
 unfold NB at h
 try dsimp only
 refine A4 (α:=List AP) (fun x=>Kh a4 (GK n p1 m2) x=some r) (fun x=>[(0,B3),(1,vI p1),(2,.func (.func 50) #[] #[]),(6,vI a4)]) (fun x=>AH 79 4 B3 AJ x::H) ?_ (fun l6 D h=>?_)
 refine Z ?_
 obtain⟨x4,ex4,h⟩:=Bn h
 refine J E (J E (V E Ay ?_))
 refine Am (u:=vI x4) E E (congrArg vI ex4) ?_
 refine Y (Z (J E (J E (V E Aw (Y ?_)))))
 refine AT h E (fun hc4 h=>?_) fun hc4 h=>?_
 refine AK ?_
 refine AC h fun y4 hy4 h=>?_
 refine J E (J E (J E (J E (J E (AQ 1 XI (j6 hy4) E (AU ?_))))))
 exact Av y4 h tL (BB [0] 1 E E E)
 refine AI ?_
 exact Av l4 h tL (BB [0] 1 E E E)
 unfold Kh at h
 try dsimp only
 refine AK ?_
 obtain⟨blockSize_1,eblockSize_1,h⟩:=Bn h
 refine J E (V E Ir ?_)
 refine Am (u:=vI blockSize_1) E E (congrArg vI eblockSize_1) ?_
 refine AU (An ?_)
 exact Ai (m2,l6,blockSize_1) h (Nat.lt_succ_self _) tL (BB [0] 1 E E E)
 refine Ax (A3 (BL (Az ?_)))
 obtain rfl:=zI h
 exact Cr (DU E) (AY (M:=[_]) ⟨E,E⟩ fun _ hw=>BZ.pick (H:=[_]) hw [0] 1 E)
def Xl(n:Nat)(p0:List AP):Option (List AP):=
 (c8 n p0 (p0.length:Int)).bind fun y1=>
 some y1
theorem rm{n:Nat}{B3:Value}{p0 r:List AP}(h:Xl n p0=some r): zC K w0 49 [B3,.func (.func 50) #[] #[]] [AH 79 4 B3 AJ p0] H (fun u M=>u=.tuple #[]∧M=[AH 79 4 B3 AJ r]):=by
 unfold Xl at h
 refine UJ.enter Tryz.func49 rfl rfl ?_
 refine AK ?_
 refine AC h fun y1 hy1 h=>?_
 refine J E (J E (D0 0 E Bt E E (J E (AQ 1 tq (tA hy1) E (AU ?_)))))
 obtain rfl:=zI h
 exact Cr (DU E) (AY (M:=[_]) ⟨E,E⟩ fun _ hw=>BZ.pick (H:=[_]) hw [0] 1 E)
end

section
variable {K:Nat→Prop}{w0:World}{H:List AV}
abbrev LO:={s:List UInt8 // s.length≤1048576}
def WH(s:List UInt8):Option LO:=if h:s.length≤1048576 then some ⟨s,h⟩else none
theorem YV{s:List UInt8}{k:LO}(h:WH s=some k):k.1=s:=by
 unfold WH at h
 split at h
 rw[←zI h]
 cases h
def Pe(k:LO):Value:=vS k.1
theorem fY{P:Program}{k:TypeId}(hk:P.underlying k=some .string)(a:LO):∃l,keyOf P k (Pe a)=some l:=by
 refine⟨.string a.1,?_⟩
 have:=a.2
 simp[keyOf,hk,mapKey,vS,Pe]
 show a.1.length≤maxLen
 simp[maxLen]
 omega
def SY(r:Ac):Value:=.agg (Af r).toArray
theorem VF{P:Program}{k:TypeId}(hk:P.underlying k=some .string):QK P k Pe SY:=
 ⟨Maps.string_keyed hk,fY hk,⟨fun v=>match v with | .string b=>WH b.data.toList | _=>none,fun x=>by
  show WH x.1=some x
  unfold WH
  rw[dif_pos x.2]⟩,⟨fun v=>match v with | .agg a=>(match a.toList with | [.int _ p,.string b]=>some ⟨UInt32.ofNat p.toNat,b.data.toList⟩ | _=>none) | _=>none,fun x=>by
  cases x
  simp[SY,Af,AA,vS]⟩⟩
structure N6 where
 b:Nat
 rv:Value
 mt:Nat
 d:Nat
 bv:Value
 mp:Nat
 mb:Nat
abbrev Fw(B:N6)(v:Bs)(d:BM):List AV:=
 [AN B.b (.cells #[vP B.d 0,B.rv,AA v.gen,AA v.boot,Ap v.seals,.map (some B.mt)] 96),AH 138 2 B.rv A7 v.ring,BQ B.mt AA vB v.taken,AN B.d (.cells #[vB d.off,vB d.isCut,vI d.lasts,vI d.counts,B.bv,.map (some B.mp),.map (some B.mb),Ap d.rcnt,vS d.rtag,AA d.rboots] 130),AH 9 1 B.bv eS d.blocks,BQ B.mp AA vS d.pend,BQ B.mb AA vB d.bad]
structure Za where
 tk:List UInt32
 v:Bs
 d:BM
abbrev Th(bt bm bv bk:Nat)(B:N6)(th:List (LO×Ac))(a:Value)(q:Za):List AV:=
 AN bt (.cells #[.map (some bm)] 116)::BQ bm Pe SY th::AN bv (.cells #[vP B.b 0] 24)::AN bk (.cells #[a] 113)::AH 29 1 a B0 q.tk::Fw B q.v q.d
def Sc(T:List UInt32)(th:List (LO×Ac)):VG Za:=fun q s=>
 (WH s).bind fun k=>cond (D1 th k).isSome (some (((D1 th k).getD ⟨0,[]⟩,0),q))
  ((GC T q.v q.d s).bind fun y=>cond (decide (y.2.1=0)) ((Cp 4 q.tk [y.1.page]).bind fun l=>some ((y.1,y.2.1),⟨l,y.2.2.1,y.2.2.2⟩)) (some ((y.1,y.2.1),⟨q.tk,y.2.2.1,y.2.2.2⟩)))
theorem nc{T:List UInt32}{bt bm bv bk:Nat}{B:N6}{th:List (LO×Ac)}:cQ T 58 #[vP bt 0,vP bv 0,vP bk 0] (Th bt bm bv bk B th) (Sc T th):=by
 intro K w0 H a q s r hS h
 unfold Sc at h
 refine AC h fun k hk h=>?_
 have hks:=YV hk
 refine UJ.enter Tryz.func58 rfl rfl ?_
 show SX _ _ _ _ _ _ _ _ _ (Th bt bm bv bk B th a q++H)
 refine Z ?_
 refine Ag E Dc zU fun b0=>?_
 refine O E (Y (AE (Z (AF 1 mm E (J E ?_)))))
 refine am (zv:=(⟨0,[]⟩:Ac)) 2 (VF Bj) E mI Dc E (by rw[←hks];rfl) E ?_
 refine J E (Al E E E (Al E E E ?_))
 refine Ag E Dc zU fun b1=>?_
 refine Aj 0 E E E E DH E E E zT (Dv 0 (AN b1 (.cells #[AA ((D1 th k).getD ⟨0,[]⟩).page,vS ((D1 th k).getD ⟨0,[]⟩).tag] 31)) (O E (Y (Z (J E (Y ?_))))))
 refine AT h E (fun hc1 h=>?_) fun hc1 h=>?_
 obtain rfl:=zI h
 refine Z (Ab (Af ((D1 th k).getD ⟨0,[]⟩)) E Cf E E (AZ 0 E) (Aj 1 E E E E DH E E E zT (O E (Y (AL (Aa ?_))))))
 exact AX (DR E (BC 1 (Af ((D1 th k).getD ⟨0,[]⟩)) Cf E E E E) E) (AY (M:=Th bt bm bv bk B th a q) ⟨E,a,E⟩ fun _ hw=>BZ.pick (H:=[_,_]) hw [] 2 E)
 refine AC h fun y hy h=>?_
 refine AI (AG (Z (AF 4 aw E (J E ?_))))
 refine SL.heap (H':=Fw B q.v q.d++([_,_,_,_,_,_,_]++H)) ?_ (fun _ hw=>EB (A:=[_,_,_,_,_,_,_]) (B:=Fw B q.v q.d) (R:=H) hw)
 have hcon:=Wh (K:=K) (w0:=w0) (H:=([AN b1 (.cells #[AA ((D1 th k).getD ⟨0,[]⟩).page,vS ((D1 th k).getD ⟨0,[]⟩).tag] 31),AN b0 (.cells #[AA 0,vS []] 31),AN bt (.cells #[.map (some bm)] 116),BQ bm Pe SY th,AN bv (.cells #[vP B.b 0] 24),AN bk (.cells #[a] 113),AH 29 1 a B0 q.tk]++H)++[BP []]) (BH:=B.b) (Aq:=B.rv) (BJ:=B.mt) (A2:=B.d) (BF:=B.bv) (A1:=B.mp) (BE:=B.mb) hy hS
 refine Bm (vs:=[_,_]) (Hin:=Fw B q.v q.d) (Hr:=[_,_,_,_,_,_,_]++H) E E ⟨E,E,zT⟩ mY E E hcon ?_
 rintro _ _ ⟨rfl,rfl⟩
 refine⟨trivial,?_⟩
 refine SL.heap (H':=[_,_,_,_,_,_,_]++(Fw B y.2.2.1 y.2.2.2++H)) ?_ (fun _ hw=>EB (A:=Fw B y.2.2.1 y.2.2.2) (B:=[_,_,_,_,_,_,_]) (R:=H) hw)
 refine J E (Al E E E (Al E E E ?_))
 refine Ag E Dc zU fun b2=>?_
 refine Aj 0 E E E E DH E E E zT (Dv 0 (AN b2 (.cells #[AA y.1.page,vS y.1.tag] 31)) (O E (Y ?_)))
 refine A4 (α:=List UInt32×Value) (fun w=>some ((y.1,y.2.1),(⟨w.1,y.2.2.1,y.2.2.2⟩:Za))=some r) (fun w=>[(9,vP b2 0),(10,vI y.2.1),(5,vP b0 0)])
  (fun w=>AN b2 (.cells #[AA y.1.page,vS y.1.tag] 31)::AN b0 (.cells #[AA 0,vS []] 31)::(Th bt bm bv bk B th w.2 ⟨w.1,y.2.2.1,y.2.2.2⟩++H)) ?_ (fun w D h=>?_)
 refine Z (J E (V E CH (Y ?_)))
 refine AT h E (fun hc2 h=>?_) fun hc2 h=>?_
 refine AC h fun l hl h=>?_
 refine AK (AF 6 nD E (AD E MY (AF 0 A6 E ?_)))
 refine Bz [_] rfl CU Bk L9 ⟨rfl,trivial⟩ rfl rfl rfl zW rfl rfl zU fun b3=>?_
 refine B4 B0 1 ([y.1.page]:List UInt32) E zV E ?_
 refine CW 8 hl (sz:=1) (enc:=B0) zV E CU Bk TP L9 E zD E E E E (By (sz:=1) (enc:=B0) 0 zV E) (by simp[B0,Value.oneCell']) zU fun v3=>?_
 refine Br 8 E fun hv3 ho3=>?_
 refine Dy 7 E E E E sI hv3 ho3 E zT (AU ?_)
 exact Av (l,v3) h tL (BB [1,3,4,5,6,7,8] 9 E E E)
 refine AI ?_
 exact Av (q.tk,a) h tL (BB [0,2,3,4,5,6,7] 8 E E E)
 obtain⟨l,v3⟩:=w
 obtain rfl:=zI h
 dsimp only
 refine Z (Ab (Af y.1) E Cf E E (AZ 0 E) (J E (Aj 1 E E E E DH E E E zT (O E (Y (AL ?_))))))
 exact AX (DR E (BC 1 (Af y.1) Cf E E E E) E) (AY (M:=Th bt bm bv bk B th v3 ⟨l,y.2.2.1,y.2.2.2⟩) ⟨E,v3,E⟩ fun _ hw=>BZ.pick (H:=[_,_]) hw [] 2 E)
end

section
variable {K:Nat→Prop}{w0:World}{H:List AV}
def Q2:List (Int×BG)→List (LO×Ac)→Option (List (LO×Ac))
 | [],m=>some m
 | s::l,m=>(WH s.2.txt).bind fun k=>(Pp m k ⟨s.2.page,s.2.tag⟩).bind fun m'=>Q2 l m'
def SU:List UInt32→Bs→BM→Option Bs
 | [],v,_=>some v
 | x::l,v,d=>(Oy v d x).bind fun y=>SU l y.2 d
def bQ(y:Ac×(H5×Za)):Option (List BG×Int×Bs×BM):=
 cond (!decide (y.2.1.wrong=0)) (if 1048576<y.2.2.tk.length then none else(SU y.2.2.tk y.2.2.v y.2.2.d).bind fun v'=>some ([],y.2.1.wrong,v',y.2.2.d)) (some (y.2.1.out,0,y.2.2.v,y.2.2.d))
def R0(n:Nat)(T:List UInt32)(p0:Bs)(p0_1:BM)(p1:List AP)(p2:List BG):Option (List BG×Int×Bs×BM):=
 (Ke n p1).bind fun b=>cond (!decide (b.2=0)) (some ([],b.2,p0,p0_1))
  (if 1048576<p2.length then none else(Q2 (FA p2) []).bind fun th=>(FH n (Sc T th) n b.1 ⟨[],0⟩ ⟨[],p0,p0_1⟩).bind bQ)
theorem rA{n BH BJ A2 A1 BE:Nat}{T:List UInt32}{Aq BF QS uL:Value}{p0:Bs}{p0_1:BM}{p1:List AP}{p2:List BG}{r:List BG×Int×Bs×BM}(h:R0 n T p0 p0_1 p1 p2=some r)(hS:Hd K w0 T)(hs1_:CJ K w0 AJ 4 QS p1)(hs2_:CJ K w0 Ar 3 uL p2):
  zC K w0 19 [vP BH 0,QS,uL] (Fw ⟨BH,Aq,BJ,A2,BF,A1,BE⟩ p0 p0_1) H (fun u M=>∃v0:Value,u=.tuple #[v0,vI r.2.1]∧M=AH 72 3 v0 Ar r.1::Fw ⟨BH,Aq,BJ,A2,BF,A1,BE⟩ r.2.2.1 r.2.2.2):=by
 unfold R0 at h
 refine AC h fun b hb h=>?_
 refine UJ.enter Tryz.func19 rfl rfl ?_
 show SX _ _ _ _ _ _ _ _ _ (Fw ⟨BH,Aq,BJ,A2,BF,A1,BE⟩ p0 p0_1++H)
 refine Z ?_
 refine Bd E E zU fun b0=>?_
 refine O E (O E (Y (AE (Z (AF 0 aw E (HW E YX E E (Y (E5 E (AI (AG (Z (J E ?_))))))))))))
 refine Bm (vs:=[_]) (Hin:=[]) (Hr:=_::(Fw ⟨BH,Aq,BJ,A2,BF,A1,BE⟩ p0 p0_1++H)) E E ⟨E,zT⟩ oR E E (eD hb hs1_) ?_
 rintro _ _ ⟨nv,L,rfl,hnz,rfl⟩
 refine⟨trivial,?_⟩
 refine J E (Al E E E (Al E E E ?_))
 refine Ag E I4 zU fun b1=>?_
 refine Aj 0 E E E E Ia E (List.all_eq_true.2 (Hy nv)) E zT (Dv 0 (AN b1 (.cells (B9 nv).toArray 57)) (O E (Y (AE (Z (J E (V E Bg (Y ?_))))))))
 refine AT h E (fun hc2 h=>?_) fun hc2 h=>?_
 obtain rfl:=zI h
 refine Z (J E (O E (O E (Y (AL (Aa (HP 72 3 Ar ?_)))))))
 exact AX (HN E E E) (AY (M:=_::Fw ⟨BH,Aq,BJ,A2,BF,A1,BE⟩ p0 p0_1) ⟨_,E,E⟩ fun _ hw=>BZ.pick (H:=[_,_,_,_]) hw [0] 4 E)
 split at h
 cases h
 rename_i hbig
 obtain⟨th,hth,h3⟩:=bnd h
 clear h
 obtain⟨y,hy,h⟩:=bnd h3
 clear h3
 refine AI (AG (Z ?_))
 refine W7 Pe SY E zU fun bm=>?_
 refine Ag E tn zU fun b2=>?_
 refine Aj 0 E E E E tJ E E E zT (Dv 0 (AN b2 (.cells #[.map (some bm)] 116)) (Y (AE (Z (J E ?_)))))
 refine Bm (vs:=[_]) (Hin:=[]) (Hr:=_::_::_::_::_::(Fw ⟨BH,Aq,BJ,A2,BF,A1,BE⟩ p0 p0_1++H)) E E ⟨E,zT⟩ tG E E (lS hs2_.one) ?_
 rintro _ _ ⟨bx,rfl,rfl⟩
 refine⟨trivial,?_⟩
 refine Y (AM ?_)
 refine Nn (enc:=lZ) (FA p2) (G0:=(AN b2 (.cells #[.map (some bm)] 116)::BQ bm Pe SY []::AN b1 (.cells (B9 nv).toArray 57)::Fd L::AN b0 (.cells #[vP BH 0] 24)::(Fw ⟨BH,Aq,BJ,A2,BF,A1,BE⟩ p0 p0_1++H))) (fun pre G=>∃m:List (LO×Ac),(∀suf,FA p2=pre++suf→Q2 suf m=some th)∧G=(AN b2 (.cells #[.map (some bm)] 116)::BQ bm Pe SY m::AN b1 (.cells (B9 nv).toArray 57)::Fd L::AN b0 (.cells #[vP BH 0] 24)::(Fw ⟨BH,Aq,BJ,A2,BF,A1,BE⟩ p0 p0_1++H))) (fun c G=>False) E tM E zV (mf zO hs2_) E ⟨[],fun suf e=>by rw[←show FA p2=suf from e];exact hth,E⟩ (fun pre x suf G hxs hJ lr lp Rest=>?_) (fun G D hJ=>?_) (fun c G D hX=>hX.elim)
 obtain⟨m,hm,rfl⟩:=hJ
 have h1:=hm (x::suf) hxs
 rw[Q2]at h1
 obtain⟨k,hk,h1⟩:=bnd h1
 obtain⟨m1,hm1,h1⟩:=bnd h1
 have hks:=YV hk
 refine AK ?_
 refine Ag E RU zU fun b3=>?_
 refine Aj 0 E E E E Mz E E E zT (AU ?_)
 refine Lo (G:=AN b3 (.cells #[vS x.2.txt,AA x.2.page,vS x.2.tag] 72)::(AN b2 (.cells #[.map (some bm)] 116)::BQ bm Pe SY m::AN b1 (.cells (B9 nv).toArray 57)::Fd L::AN b0 (.cells #[vP BH 0] 24)::(Fw ⟨BH,Aq,BJ,A2,BF,A1,BE⟩ p0 p0_1++H))) ?_
 refine AM (AK (AF 1 mm rfl (AD rfl dE (AF 0 FX rfl (AD rfl XE (Ab [AA x.2.page,vS x.2.tag] rfl Cf rfl rfl (Cd 0 rfl (by rintro(_ | (_ | j)) u hj<;>first | exact hj | exact absurd hj zS)) ?_))))))
 refine Xv (a:=(⟨x.2.page,x.2.tag⟩:Ac)) 2 hm1 (VF Bj) E mI E (by rw[Pe,hks];rfl) E E zT ?_
 refine AU (An ?_)
 exact Iq ⟨m1,fun suf' e=>by rw[cJ hxs e];exact h1,E⟩ (BB [] 1 E E E)
 obtain⟨m,hm,rfl⟩:=hJ
 have h1:=hm [] (List.append_nil _).symm
 obtain rfl:m=th:=zI h1
 refine An (AG (Z ?_))
 refine Ag E sB zU fun b3=>?_
 refine Dv 0 (AN b3 (.cells #[zN] 113)) (Bi 29 1 B0 (Y (Z ?_)))
 refine Hb (fv:=#[]) (cv:=#[_,_,_]) E E E ?_
 refine BK [_] E mn nQ lT ⟨E,zT⟩ E ?_
 refine Bd E E zU fun b4=>?_
 refine Bi 72 3 Ar (O E (Y ?_))
 have hcon:=Cb (K:=K) (w0:=w0) (H:=(AN b1 (.cells (B9 nv).toArray 57)::H)++[BP D]) (f:=53) (B:=[Fd L]) (Hin:=KW b4 (.func (.func 58) #[] #[vP b2 0,vP b0 0,vP b3 0]) (.slice none 0 0) ⟨[],0⟩::AH 72 3 (.slice none 0 0) Ar []::Th b2 bm b0 b3 (⟨BH,Aq,BJ,A2,BF,A1,BE⟩:N6) m (.slice none 0 0) ⟨[],p0,p0_1⟩) fun K' w1 hkk hB=>
  N3 (C:=Th b2 bm b0 b3 (⟨BH,Aq,BJ,A2,BF,A1,BE⟩:N6) m) (bp:=b4) (vo:=.slice none 0 0) (ca:=.slice none 0 0) (cs:=#[vP b2 0,vP b0 0,vP b3 0]) sG nc n (hS.keeps hkk) hy (hnz.lent (hB _ zS))
 generalize hpo:(fun(u:Value) (M:List AV)=>∃M',M=[Fd L]++M'∧(u=.agg (Af y.1).toArray∧∃vo' ca',M'=KW b4 (.func (.func 58) #[] #[vP b2 0,vP b0 0,vP b3 0]) vo' y.2.1::AH 72 3 vo' Ar y.2.1.out::Th b2 bm b0 b3 (⟨BH,Aq,BJ,A2,BF,A1,BE⟩:N6) m ca' y.2.2))=po at hcon
 refine Z (J E (Ab (B9 nv) E MK E E (AZ 6 E) ?_))
 refine SL.heap (H':=([Fd L]++(KW b4 (.func (.func 58) #[] #[vP b2 0,vP b0 0,vP b3 0]) zN ⟨[],0⟩::AH 72 3 zN Ar []::Th b2 bm b0 b3 (⟨BH,Aq,BJ,A2,BF,A1,BE⟩:N6) m zN ⟨[],p0,p0_1⟩))++(AN b1 (.cells (B9 nv).toArray 57)::H)) ?_ (BB [7,1,0,4,5,8,3,2,9,10,11,12,13,14,15,6] 16 E E E)
 refine Bm (vs:=[_,_]) (Hin:=[Fd L]++(KW b4 (.func (.func 58) #[] #[vP b2 0,vP b0 0,vP b3 0]) zN ⟨[],0⟩::AH 72 3 zN Ar []::Th b2 bm b0 b3 (⟨BH,Aq,BJ,A2,BF,A1,BE⟩:N6) m zN ⟨[],p0,p0_1⟩)) (Hr:=AN b1 (.cells (B9 nv).toArray 57)::H) E E ⟨E,E,zT⟩ iz E E hcon ?_
 intro u0 M0 hpost
 rw[←hpo]at hpost
 obtain⟨_,rfl,rfl,vo,ca,rfl⟩:=hpost
 refine⟨trivial,?_⟩
 refine Y ?_
 unfold bQ at h
 refine AE (Z (J E (AW E E (AD E QZ (AF 1 Rq E (V E Bg (Y ?_)))))))
 refine AT h E (fun hc3 h=>?_) fun hc3 h=>?_
 split at h
 cases h
 rename_i hbt
 refine AC h fun v' hv' h=>?_
 obtain rfl:=zI h
 refine AE (Z (AF 6 nD E (D0 7 E CU E E (J E (Y (AM ?_))))))
 refine SX.heap (SX.mono (A5 (α:=Nat×Bs) (fun x=>x.1≤y.2.2.tk.length∧SU (y.2.2.tk.drop x.1) x.2 y.2.2.d=some v') (fun x=>[(3,vP b0 0),(14,vP b4 0),(48,ca),(49,vI (y.2.2.tk.length:Int)),(50,vI (x.1:Int))])
  (fun x=>KW b4 (.func (.func 58) #[] #[vP b2 0,vP b0 0,vP b3 0]) vo y.2.1::AN b0 (.cells #[vP BH 0] 24)::AH 29 1 ca B0 y.2.2.tk::(Fw (⟨BH,Aq,BJ,A2,BF,A1,BE⟩:N6) x.2 y.2.2.d++H))
  (fun x=>y.2.2.tk.length-x.1) (fun x D hp=>?_) (0,y.2.2.v) ⟨Nat.zero_le _,hv'⟩) tL) (BB [1,5,7,8,9,10,11,12,13,14] 16 rfl rfl rfl)
 obtain⟨i,v1⟩:=x
 obtain⟨hi,hg⟩:=hp
 dsimp only at hi hg ⊢
 refine Z (V E Aw (Y (AE ?_)))
 refine As E (fun hc4=>?_) (fun hc4=>?_)
 have hlt:i<y.2.2.tk.length:=by
  have:=of_decide_eq_true hc4
  omega
 clear hc4
 have hnth:Ao y.2.2.tk (i:Int)=some y.2.2.tk[i]:=by
  rw[Ao,if_pos zO]
  exact List.getElem?_eq_getElem hlt
 rw[List.drop_eq_getElem_cons hlt,SU]at hg
 refine AC hg fun z hz hg=>?_
 refine AI (AG (AE (AM (Z ?_))))
 refine BV 2 hnth E CU Bk E E E fun g1 m1 cp1 hv1=>?_
 refine Bh E A6 E (Bw (sz:=1) (enc:=B0) 2 0 zV E hv1 hnth E) ?_
 refine O E (Y (AK (AF 1 aw E (J E ?_))))
 refine SL.heap (H':=Fw (⟨BH,Aq,BJ,A2,BF,A1,BE⟩:N6) v1 y.2.2.d++([_,_,_]++H)) ?_ (fun _ hw=>EB (A:=[_,_,_]) (B:=Fw (⟨BH,Aq,BJ,A2,BF,A1,BE⟩:N6) v1 y.2.2.d) (R:=H) hw)
 have hcon:=iC (K:=K) (w0:=w0) (H:=([KW b4 (.func (.func 58) #[] #[vP b2 0,vP b0 0,vP b3 0]) vo y.2.1,AN b0 (.cells #[vP BH 0] 24),AH 29 1 ca B0 y.2.2.tk]++H)++[BP D]) (BH:=BH) (Aq:=Aq) (BJ:=BJ) (A2:=A2) (BF:=BF) (A1:=A1) (BE:=BE) hz
 refine Bm (vs:=[_,_]) (Hin:=Fw (⟨BH,Aq,BJ,A2,BF,A1,BE⟩:N6) v1 y.2.2.d) (Hr:=[_,_,_]++H) E E ⟨E,E,zT⟩ tI E E hcon ?_
 rintro _ _ ⟨rfl,rfl⟩
 refine⟨trivial,?_⟩
 refine SL.heap (H':=[_,_,_]++(Fw (⟨BH,Aq,BJ,A2,BF,A1,BE⟩:N6) z.2 y.2.2.d++H)) ?_ (fun _ hw=>EB (A:=Fw (⟨BH,Aq,BJ,A2,BF,A1,BE⟩:N6) z.2 y.2.2.d) (B:=[_,_,_]) (R:=H) hw)
 refine AU (An (AG (AK (V E (BU zO zO) (J E (AU ?_))))))
 exact Ai (i+1,z.2) ⟨hlt,hg⟩ (by dsimp only;omega) tL (BB [0,1,2] 3 E E E)
 have hge:i=y.2.2.tk.length:=by
  have:=of_decide_eq_false hc4
  omega
 subst hge
 rw[List.drop_length,SU]at hg
 obtain rfl:v1=v':=zI hg
 refine Ax (A3 (BL (Az (AG (AE (Ak Ca [0] (Bo [(true,0),(true,1),(true,2),(true,3),(true,4),(true,5)] .nil) zK (J E (AW E E (AD E QZ (AF 0 Rq E (O E (O E (Y (AL (Aa (HP 72 3 Ar ?_))))))))))))))))
 exact AX (HN E E E) (AY (M:=_::Fw (⟨BH,Aq,BJ,A2,BF,A1,BE⟩:N6) v1 y.2.2.d) ⟨_,E,E⟩ fun _ hw=>BZ.pick (H:=[_,_,_,_]) hw [0] 4 E)
 obtain rfl:=zI h
 refine AI (AG (Z (J E (AW E E (AD E Yr (AF 1 LH E (O E (O E (Y (AL ?_))))))))))
 exact AX (HN E E E) (AY (M:=AH 72 3 vo Ar y.2.1.out::Fw (⟨BH,Aq,BJ,A2,BF,A1,BE⟩:N6) y.2.2.v y.2.2.d) ⟨_,E,E⟩ fun _ hw=>BZ.pick (H:=[_,_,_,_,_,_,_,_,_,_,_,_,_,_,_,_]) hw [2,8,9,10,11,12,13,14] 16 E)
end

section
structure Em where
 out:List BG
 rows:List AP
 count:Int
end

section
variable {K:Nat→Prop}{w0:World}{H:List AV}
def MC(p1:Ac)(y1:List UInt8×Int)(o1:Em):Option (Int×Em):=
 (Cp 40 o1.out [(⟨y1.1,p1.page,p1.tag⟩:BG)]).bind fun l4=>
 some (0,{ o1 with out:=l4 })
def D6(p0_1:Bs)(p0_2:BM)(p1:Ac)(rec_:Em→Bs→BM→Ac→Option (Int×Em))(y1:List UInt8×Int)(l2:List Ac)(nx_f_gpg_l1:Em×Int→Option (Int×Em))(o2:Em)(a1:Int):Option (Int×Em):=
 cond (decide (a1<(l2.length:Int)))
 (
  (Ao l2 a1).bind fun x1=>
  (rec_ o2 p0_1 p0_2 x1).bind fun y3=>
  cond (!decide (y3.1=0))
  (
   some (y3.1,y3.2))
  (
   nx_f_gpg_l1 (y3.2,wI (a1+1))))
 (
  MC p1 y1 o2)
def Ho(p0_1:Bs)(p0_2:BM)(p1:Ac)(rec_:Em→Bs→BM→Ac→Option (Int×Em))(y1:List UInt8×Int)(l2:List Ac):Nat→(Em×Int)→Option (Int×Em):=Bu fun nx x=>D6 p0_1 p0_2 p1 rec_ y1 l2 nx x.1 x.2
def QA(n:Nat)(p0:Em)(p0_1:Bs)(p0_2:BM)(p1:Ac)(rec_:Em→Bs→BM→Ac→Option (Int×Em))(y1:List UInt8×Int)(l1:List AP)(l2:List Ac):Option (Int×Em):=
 Ho p0_1 p0_2 p1 rec_ y1 l2 n ({ p0 with rows:=l1,count:=wI (p0.count+1) },0)
def Pm(rec_:Em→Bs→BM→Ac→Option (Int×Em))(n:Nat)(T:List UInt32)(p0:Em)(p0_1:Bs)(p0_2:BM)(p1:Ac):Option (Int×Em):=
 cond (decide (p0.count=2100))
 (
  some (61,p0))
 (
  (HF T p0_1 p0_2 p1).bind fun y1=>
  cond (!decide (y1.2=0))
  (
   some (y1.2,{ p0 with count:=wI (p0.count+1) }))
  (
   (Eb n y1.1).bind fun y2=>
   cond (!decide (y2.2=0))
   (
    some (61,{ p0 with count:=wI (p0.count+1) }))
   (
    (Cp 32 p0.rows y2.1.rows).bind fun l1=>
    cond (!(decide (y2.1.npage=0)&&(decide (y2.1.ntag=[])&&true)))
    (
     (Cp 24 y2.1.kids [(⟨y2.1.npage,y2.1.ntag⟩:Ac)]).bind fun l3=>
     QA n p0 p0_1 p0_2 p1 rec_ y1 l1 l3)
    (
     QA n p0 p0_1 p0_2 p1 rec_ y1 l1 y2.1.kids))))
theorem tE{rec_:Em→Bs→BM→Ac→Option (Int×Em)}{n BH A2 A1 CP DI DJ:Nat}{T:List UInt32}{Aq CR Ba DK:Value}{p0:Em}{p0_1:Bs}{p0_2:BM}{p1:Ac}{r:Int×Em}(h:Pm rec_ n T p0 p0_1 p0_2 p1=some r)(hS:Hd K w0 T)(hrec:∀ {H:List AV} {BH:Nat} {Aq:Value} {CR:Value} {A2:Nat} {Ba:Value} {A1:Nat} {CP:Nat} {DK:Value} {DI:Nat} {DJ:Nat} {p0:Em} {p0_1:Bs} {p0_2:BM} {p1:Ac} {r:Int×Em},rec_ p0 p0_1 p0_2 p1=some r→zC K w0 48 [vP BH 0,.agg (Af p1).toArray] [AN BH (.cells #[vP A2 0,Aq,CR,vI p0.count] 99),AH 72 3 Aq Ar p0.out,AH 79 4 CR AJ p0.rows,AN A2 (.cells #[vP CP 0,Ba,AA p0_1.gen,AA p0_1.boot,Ap p0_1.seals,.map (some A1)] 96),AH 138 2 Ba A7 p0_1.ring,BQ A1 AA vB p0_1.taken,AN CP (.cells #[vB p0_2.off,vB p0_2.isCut,vI p0_2.lasts,vI p0_2.counts,DK,.map (some DI),.map (some DJ),Ap p0_2.rcnt,vS p0_2.rtag,AA p0_2.rboots] 130),AH 9 1 DK eS p0_2.blocks,BQ DI AA vS p0_2.pend,BQ DJ AA vB p0_2.bad] H (fun u M=>∃vs0_0_1 vs0_0_2:Value,u=vI r.1∧M=[AN BH (.cells #[vP A2 0,vs0_0_1,vs0_0_2,vI r.2.count] 99),AH 72 3 vs0_0_1 Ar r.2.out,AH 79 4 vs0_0_2 AJ r.2.rows,AN A2 (.cells #[vP CP 0,Ba,AA p0_1.gen,AA p0_1.boot,Ap p0_1.seals,.map (some A1)] 96),AH 138 2 Ba A7 p0_1.ring,BQ A1 AA vB p0_1.taken,AN CP (.cells #[vB p0_2.off,vB p0_2.isCut,vI p0_2.lasts,vI p0_2.counts,DK,.map (some DI),.map (some DJ),Ap p0_2.rcnt,vS p0_2.rtag,AA p0_2.rboots] 130),AH 9 1 DK eS p0_2.blocks,BQ DI AA vS p0_2.pend,BQ DJ AA vB p0_2.bad])):zC K w0 48 [vP BH 0,.agg (Af p1).toArray] [AN BH (.cells #[vP A2 0,Aq,CR,vI p0.count] 99),AH 72 3 Aq Ar p0.out,AH 79 4 CR AJ p0.rows,AN A2 (.cells #[vP CP 0,Ba,AA p0_1.gen,AA p0_1.boot,Ap p0_1.seals,.map (some A1)] 96),AH 138 2 Ba A7 p0_1.ring,BQ A1 AA vB p0_1.taken,AN CP (.cells #[vB p0_2.off,vB p0_2.isCut,vI p0_2.lasts,vI p0_2.counts,DK,.map (some DI),.map (some DJ),Ap p0_2.rcnt,vS p0_2.rtag,AA p0_2.rboots] 130),AH 9 1 DK eS p0_2.blocks,BQ DI AA vS p0_2.pend,BQ DJ AA vB p0_2.bad] H (fun u M=>∃vs0_0_1 vs0_0_2:Value,u=vI r.1∧M=[AN BH (.cells #[vP A2 0,vs0_0_1,vs0_0_2,vI r.2.count] 99),AH 72 3 vs0_0_1 Ar r.2.out,AH 79 4 vs0_0_2 AJ r.2.rows,AN A2 (.cells #[vP CP 0,Ba,AA p0_1.gen,AA p0_1.boot,Ap p0_1.seals,.map (some A1)] 96),AH 138 2 Ba A7 p0_1.ring,BQ A1 AA vB p0_1.taken,AN CP (.cells #[vB p0_2.off,vB p0_2.isCut,vI p0_2.lasts,vI p0_2.counts,DK,.map (some DI),.map (some DJ),Ap p0_2.rcnt,vS p0_2.rtag,AA p0_2.rboots] 130),AH 9 1 DK eS p0_2.blocks,BQ DI AA vS p0_2.pend,BQ DJ AA vB p0_2.bad]):=by
 unfold Pm at h
 refine UJ.enter Tryz.func48 rfl rfl ?_
 refine Z ?_
 refine Bd E E zU fun b1=>?_
 refine O E (Y (AE (Z (J E (AW E E (AD E cU (AF 1 D3 E (V E CH (Y ?_)))))))))
 refine AT h E (fun hc1 h=>?_) fun hc1 h=>?_
 refine Z (O E (Y (AL (Aa ?_))))
 obtain rfl:=zI h
 exact DM [1,2,3,4,5,6,7,8,9,10] 11 (De E E) E E ⟨Aq,CR,E,E⟩
 refine AI (AG (Z (J E (AW E E (AD E cU (AF 1 D3 E (V E Ay (AW E E (AD E cU (Aj 1 E E E E Mw E E E zT (Y (AE ?_))))))))))))
 refine AC h fun y1 hy1 h=>?_
 refine Ak Ca [0,1] (Bo [(true,0),(true,1),(true,2),(true,3),(true,4),(false,5),(false,6),(true,7),(true,8),(false,9)] (.last 10 .nil)) zK (J E (AW E E (AD E qD (AF 1 aw E (Ab [AA p1.page,vS p1.tag] E Cf E E (AZ 0 E) (SL.pick [4,5,6,7,8,9,10,0,1,2,3] 11 (BO 7 tZ ((gw hy1 hS :)) E ⟨⟨7,E⟩,⟨8,E⟩,zT⟩ ?_)))))))
 refine J E (Al E E E (Al E E E (O E (BN (O E (Y (AE (Z (J E (V E Bg (Y ?_)))))))))))
 refine AT h E (fun hc2 h=>?_) fun hc2 h=>?_
 refine Z (J E (O E (Y (AL (Aa ?_)))))
 obtain rfl:=zI h
 exact DM [8,9,10,0,1,2,3,4,5,6] 11 (De E E) E E ⟨Aq,CR,E,E⟩
 refine AI (AG (Z ?_))
 refine AC h fun y2 hy2 h=>?_
 refine J E (Bp 0 tu (XU hy2) E ?_)
 rintro _ _ ⟨v1,v2,rfl,rfl⟩
 refine J E (Al E E E (Al E E E ?_))
 refine Ag E Gk zU fun b2=>?_
 refine Bi 79 4 AJ (Bi 31 2 Af ?_)
 refine Br 3 E fun hv1 ho1=>?_
 refine Br 4 E fun hv2 ho2=>?_
 refine Aj 2 E E E E HD E (by simp only[Value.oneCell']at ho1 ho2;simp[Value.cells,Value.cells,Value.oneCell',ho1,ho2]) E zT (Dv 2 (AN b2 (.cells #[vI y2.1.kind,AA y2.1.cx,AA y2.1.cy,vI y2.1.lev,v1,v2,AA y2.1.npage,vS y2.1.ntag] 148)) (O E (Y (AE (Z (J E (V E Bg (Y ?_))))))))
 refine AT h E (fun hc3 h=>?_) fun hc3 h=>?_
 refine Z (O E (Y (AL (Aa ?_))))
 obtain rfl:=zI h
 exact DM [13,14,15,5,6,7,8,9,10,11] 16 (De E E) E E ⟨Aq,CR,E,E⟩
 refine AI (AG (AE ?_))
 refine AC h fun l1 hl1 h=>?_
 refine Ak Ca [2,13] (Bo [(true,0),(true,1),(true,2),(true,3),(true,4),(true,5),(true,6),(false,7),(true,8),(true,9)] (.last 10 .nil)) zK (J E (J E (AW E E (AD E Ud (AF 1 FF E (AD E Fk (AF 0 FF E ?_)))))))
 refine Yi 15 3 hl1 (sz:=4) (enc:=AJ) zV E Bt B2 Oq EJ E zD E E E E (by simp[AJ,Value.oneCell']) (fun _=>⟨⟨2,E⟩,⟨13,E⟩,zT⟩) fun v3=>?_
 refine AW E E (AD E Ud (BN ?_))
 refine Br 15 E fun hv3 ho3=>?_
 refine Dy 13 E E E E K8 hv3 ho3 E zT (Y (Z (AD E Dg (AF 2 Hi E (O E (Y ?_))))))
 refine A4 (α:=List Ac×Value) (fun x=>QA n p0 p0_1 p0_2 p1 rec_ y1 l1 x.1=some r) (fun x=>[(0,vP BH 0),(3,vP b1 0),(5,vS y1.1),(8,x.2)]) (fun x=>AN BH (.cells #[vP A2 0,Aq,v3,vI (wI (p0.count+1))] 99)::AN A2 (.cells #[vP CP 0,Ba,AA p0_1.gen,AA p0_1.boot,Ap p0_1.seals,.map (some A1)] 96)::AN CP (.cells #[vB p0_2.off,vB p0_2.isCut,vI p0_2.lasts,vI p0_2.counts,DK,.map (some DI),.map (some DJ),Ap p0_2.rcnt,vS p0_2.rtag,AA p0_2.rboots] 130)::AH 9 1 DK eS p0_2.blocks::BQ DI AA vS p0_2.pend::BQ DJ AA vB p0_2.bad::AH 138 2 Ba A7 p0_1.ring::BQ A1 AA vB p0_1.taken::AH 72 3 Aq Ar p0.out::AH 79 4 v3 AJ l1::AN b1 (.cells #[AA p1.page,vS p1.tag] 31)::AH 31 2 x.2 Af x.1::H) ?_ (fun x D h=>?_)
 refine Z (AD rfl E4 (Ab [AA y2.1.npage,vS y2.1.ntag] rfl Cf rfl rfl (Cd 2 rfl (by rintro(_ | (_ | j)) u hj<;>first | exact hj | exact absurd hj zS)) (BK [] rfl LR LU Dc trivial rfl ?_)))
 refine Oa E aG E E (CT E E (I6 (a:=y2.1.npage) (b:=0)) (CT E E (Qf (a:=y2.1.ntag) (b:=[])) HK)) ?_
 refine Y ?_
 refine AT h E (fun hc4 h=>?_) fun hc4 h=>?_
 refine AK ?_
 refine AC h fun l3 hl3 h=>?_
 refine J rfl (AD rfl E4 (Ab [AA y2.1.npage,vS y2.1.ntag] rfl Cf rfl rfl (Cd 2 rfl (by rintro(_ | (_ | j)) u hj<;>first | exact hj | exact absurd hj zS)) ?_))
 refine Bz [_] rfl Ep DH Dc ⟨rfl,trivial⟩ rfl rfl rfl zW rfl rfl zU fun b3=>?_
 refine B4 Af 2 ([(⟨y2.1.npage,y2.1.ntag⟩:Ac)]:List Ac) E zV E ?_
 refine CW 5 hl3 (sz:=2) (enc:=Af) zV E Ep DH en Dc E zD E E E E (By (sz:=2) (enc:=Af) 0 zV E) (by simp[Af,Value.oneCell']) zU fun v5=>?_
 refine O E (AU ?_)
 exact Av (l3,v5) h tL (BB [14,6,9,10,11,12,7,8,15,16,13,5] 17 E E E)
 refine AI ?_
 exact Av (y2.1.kids,v2) h tL (BB [13,5,8,9,10,11,6,7,14,15,12,4] 16 E E E)
 obtain⟨l2,v4⟩:=x
 dsimp only at h
 unfold QA at h
 try dsimp only
 refine A4 (α:=Em×Value×Value) (fun x=>MC p1 y1 x.1=some r) (fun x=>[(0,vP BH 0),(3,vP b1 0),(5,vS y1.1)]) (fun x=>AN BH (.cells #[vP A2 0,x.2.1,x.2.2,vI x.1.count] 99)::AN A2 (.cells #[vP CP 0,Ba,AA p0_1.gen,AA p0_1.boot,Ap p0_1.seals,.map (some A1)] 96)::AN CP (.cells #[vB p0_2.off,vB p0_2.isCut,vI p0_2.lasts,vI p0_2.counts,DK,.map (some DI),.map (some DJ),Ap p0_2.rcnt,vS p0_2.rtag,AA p0_2.rboots] 130)::AH 9 1 DK eS p0_2.blocks::BQ DI AA vS p0_2.pend::BQ DJ AA vB p0_2.bad::AH 138 2 Ba A7 p0_1.ring::BQ A1 AA vB p0_1.taken::AH 72 3 x.2.1 Ar x.1.out::AH 79 4 x.2.2 AJ x.1.rows::AN b1 (.cells #[AA p1.page,vS p1.tag] 31)::H) ?_ (fun x D h=>?_)
 refine Z (J E (D0 11 E Ep E E (J E (Y (AM ?_)))))
 refine SX.heap (SX.mono (A5 (α:=Nat×Em×Value×Value×Int) (fun x=>Ho p0_1 p0_2 p1 rec_ y1 l2 x.1 (x.2.1,x.2.2.2.2)=some r) (fun x=>[(0,vP BH 0),(3,vP b1 0),(5,vS y1.1),(64,v4),(65,vI (l2.length:Int)),(66,vI x.2.2.2.2)]) (fun x=>AN BH (.cells #[vP A2 0,x.2.2.1,x.2.2.2.1,vI x.2.1.count] 99)::AN A2 (.cells #[vP CP 0,Ba,AA p0_1.gen,AA p0_1.boot,Ap p0_1.seals,.map (some A1)] 96)::AN CP (.cells #[vB p0_2.off,vB p0_2.isCut,vI p0_2.lasts,vI p0_2.counts,DK,.map (some DI),.map (some DJ),Ap p0_2.rcnt,vS p0_2.rtag,AA p0_2.rboots] 130)::AH 9 1 DK eS p0_2.blocks::BQ DI AA vS p0_2.pend::BQ DJ AA vB p0_2.bad::AH 138 2 Ba A7 p0_1.ring::BQ A1 AA vB p0_1.taken::AH 72 3 x.2.2.1 Ar x.2.1.out::AH 79 4 x.2.2.2.1 AJ x.2.1.rows::AN b1 (.cells #[AA p1.page,vS p1.tag] 31)::AH 31 2 v4 Af l2::H) (fun x=>x.1) (fun x D h=>?_) (n,{ p0 with rows:=l1,count:=wI (p0.count+1) },Aq,v3,0) h) tL) (BB [0,1,2,3,4,5,6,7,8,9,10,11] 12 rfl rfl rfl)
 obtain⟨m1,o2,v8,v9,a1⟩:=x
 dsimp only at h
 rcases m1 with _ | m1
 cases (show(none:Option _)=some r from h)
 replace h:D6 p0_1 p0_2 p1 rec_ y1 l2 (Ho p0_1 p0_2 p1 rec_ y1 l2 m1) o2 a1=some r:=h
 unfold D6 at h
 try dsimp only
 refine Z (V E Aw (Y (AE ?_)))
 refine AT h E (fun hc5 h=>?_) fun hc5 h=>?_
 refine AI (AG (AE (AM (Z ?_))))
 refine AC h fun x1 hx1 h=>?_
 refine BV 11 hx1 E Ep DH E E E fun g1 m2 cp1 hv4=>?_
 refine Ab (Af x1) E Cf E E (Cc (sz:=2) (enc:=Af) 11 zV E hv4 hx1) ?_
 refine Ag E Dc zU fun b4=>?_
 refine Aj 0 E E E E DH E E E zT (Y (Z ?_))
 refine AC h fun y3 hy3 h=>?_
 refine J E (Ab [AA x1.page,vS x1.tag] E Cf E E (AZ 0 E) (SL.pick [1,9,10,2,7,8,3,4,5,6,0] 11 (Bp 10 nl ((hrec hy3 :)) E ?_)))
 rintro _ _ ⟨v10,v11,rfl,rfl⟩
 refine O E (Y (Z (J E (V E Bg (Y ?_)))))
 refine AT h E (fun hc6 h=>?_) fun hc6 h=>?_
 refine Z (J E (O E (Y (AL (BX (Aa (Dj (BX (EO ?_)))))))))
 obtain rfl:=zI h
 exact DM [0,1,2,3,4,5,6,7,8,9] 13 (De E E) E E ⟨v10,v11,E,E⟩
 refine AI (An (AG (AK (V E Ay (J E (AU ?_))))))
 exact Ai (m1,y3.2,v10,v11,wI (a1+1)) h (Nat.lt_succ_self _) tL (BB [0,3,6,7,8,9,4,5,1,2,11,12] 13 E E E)
 refine Ax (A3 (BL (Az ?_)))
 exact Av (o2,v8,v9) h tL (BB [0,1,2,3,4,5,6,7,8,9,10] 12 E E E)
 obtain⟨o1,v6,v7⟩:=x
 dsimp only at h
 unfold MC at h
 try dsimp only
 refine AE ?_
 refine AC h fun l4 hl4 h=>?_
 refine Ak Ca [0,10] (Bo [(true,0),(true,1),(true,2),(true,3),(true,4),(true,5),(true,6),(true,7),(false,8),(false,9),(true,10),(true,11)] (.last 12 .nil)) zK (J E (J E (AW E E (AD E Qw (AF 0 LH E (J E (Ab [AA p1.page,vS p1.tag] E Cf E E (AZ 1 E) ?_)))))))
 refine BK [_,_] E lm oV RU ⟨E,E,zT⟩ E ?_
 refine Bz [_] rfl He Mz RU ⟨rfl,trivial⟩ rfl rfl rfl zW rfl rfl (fun _=>⟨⟨1,rfl⟩,⟨11,rfl⟩,trivial⟩) fun b5=>?_
 refine B4 Ar 3 ([(⟨y1.1,p1.page,p1.tag⟩:BG)]:List BG) E zV E ?_
 refine CW 9 hl4 (sz:=3) (enc:=Ar) zV E He Mz jm RU E zD E E E E (By (sz:=3) (enc:=Ar) 0 zV E) (by simp[Ar,Value.oneCell']) (fun _=>⟨⟨1,E⟩,⟨11,E⟩,zT⟩) fun v12=>?_
 refine AW E E (AD E Qw (BN ?_))
 refine Br 9 E fun hv5 ho4=>?_
 refine Dy 1 E E E E jT hv5 ho4 E zT (Y (Z (O E (Y (AL ?_)))))
 obtain rfl:=zI h
 exact DM [1,9,10,2,7,8,3,4,5,6] 12 (De E E) E E ⟨v12,v7,E,E⟩
end

section
variable {K:Nat→Prop}{w0:World}{H:List AV}
def QR(n:Nat)(T:List UInt32):Nat→Em→Bs→BM→Ac→Option (Int×Em)
 | 0=>fun _ _ _ _=>none
 | f+1=>Pm (QR n T f) n T
theorem mu(n:Nat)(T:List UInt32):∀(f:Nat) {K:Nat→Prop} {w0:World} {H:List AV} {BH:Nat} {Aq:Value} {CR:Value} {A2:Nat} {Ba:Value} {A1:Nat} {CP:Nat} {DK:Value} {DI:Nat} {DJ:Nat} {p0:Em} {p0_1:Bs} {p0_2:BM} {p1:Ac} {r:Int×Em},QR n T f p0 p0_1 p0_2 p1=some r→Hd K w0 T→zC K w0 48 [vP BH 0,.agg (Af p1).toArray] [AN BH (.cells #[vP A2 0,Aq,CR,vI p0.count] 99),AH 72 3 Aq Ar p0.out,AH 79 4 CR AJ p0.rows,AN A2 (.cells #[vP CP 0,Ba,AA p0_1.gen,AA p0_1.boot,Ap p0_1.seals,.map (some A1)] 96),AH 138 2 Ba A7 p0_1.ring,BQ A1 AA vB p0_1.taken,AN CP (.cells #[vB p0_2.off,vB p0_2.isCut,vI p0_2.lasts,vI p0_2.counts,DK,.map (some DI),.map (some DJ),Ap p0_2.rcnt,vS p0_2.rtag,AA p0_2.rboots] 130),AH 9 1 DK eS p0_2.blocks,BQ DI AA vS p0_2.pend,BQ DJ AA vB p0_2.bad] H (fun u M=>∃vs0_0_1 vs0_0_2:Value,u=vI r.1∧M=[AN BH (.cells #[vP A2 0,vs0_0_1,vs0_0_2,vI r.2.count] 99),AH 72 3 vs0_0_1 Ar r.2.out,AH 79 4 vs0_0_2 AJ r.2.rows,AN A2 (.cells #[vP CP 0,Ba,AA p0_1.gen,AA p0_1.boot,Ap p0_1.seals,.map (some A1)] 96),AH 138 2 Ba A7 p0_1.ring,BQ A1 AA vB p0_1.taken,AN CP (.cells #[vB p0_2.off,vB p0_2.isCut,vI p0_2.lasts,vI p0_2.counts,DK,.map (some DI),.map (some DJ),Ap p0_2.rcnt,vS p0_2.rtag,AA p0_2.rboots] 130),AH 9 1 DK eS p0_2.blocks,BQ DI AA vS p0_2.pend,BQ DJ AA vB p0_2.bad])
 | 0,_,_,_,_,_,_,_,_,_,_,_,_,_,_,_,_,_,_,h,_=>by cases h
 | f+1,_,_,_,_,_,_,_,_,_,_,_,_,_,_,_,_,_,_,h,hS=>tE h hS (fun h=>mu n T f h hS)
def RV(outs:List BG):VG Int:=fun q s=>
 (OF (decide (q=(outs.length:Int))) ((Ao outs q).bind fun x=>some (!decide (x.txt=s)))).bind fun c=>
  cond c (some ((⟨0,[]⟩,61),q)) ((Ao outs (wI (wI (q+1)-1))).bind fun x=>some ((⟨x.page,x.tag⟩,0),wI (q+1)))
abbrev eW(ba bx br:Nat)(vv vo vr:Value)(cnt:Int)(outs:List BG)(_:Value)(q:Int):List AV:=
 [AN ba (.cells #[vI q] 3),AN bx (.cells #[vP br 0] 97),AN br (.cells #[vv,vo,vr,vI cnt] 99),AH 72 3 vo Ar outs]
theorem lc{T:List UInt32}{ba bx br:Nat}{vv vo vr:Value}{cnt:Int}{outs:List BG}:cQ T 52 #[vP ba 0,vP bx 0] (eW ba bx br vv vo vr cnt outs) (RV outs):=by
 intro K w0 H a q s r hS h
 unfold RV at h
 refine AC h fun c hc h=>?_
 refine UJ.enter Tryz.func52 rfl rfl ?_
 show SX _ _ _ _ _ _ _ _ _ (eW ba bx br vv vo vr cnt outs a q++H)
 refine Z ?_
 refine Ag E Dc zU fun b0=>?_
 refine O E (Y (AE (AE (Ak Ca [1,2,3,4] (Pl.of [(true,0),(true,1),(true,2),(true,3),(true,4),(true,5),(true,6),(true,7),(true,8),(true,9),(true,10),(true,11),(true,12),(true,13),(true,14),(true,15),(true,16),(true,17),(true,18)]) zK (AF 0 D3 E (AF 1 U1 E (AW E E (AD E Qw (AF 2 LH E (D0 3 E He E E ?_))))))))))
 refine V E CH (J E ?_)
 refine Lp 13 11 24 hc E (fun hb k=>?_) (fun hb hg k=>?_) ?_
 refine AB E (AB E (AB E (AB E (AB E (AB E (AB E (AB E ?_)))))))
 refine AB E (AB E (Ae E E E ?_))
 exact k.mono tL
 refine AC hg fun x hx hg=>?_
 obtain rfl:=zI hg
 refine AF 1 U1 E (AW E E (AD E Qw (AF 2 LH E (AF 0 D3 E ?_))))
 refine BV 4 hx E He Mz E E E fun g1 m1 cp1 hv1=>?_
 refine AD E dE ?_
 refine Bh E FX E (Bw (sz:=3) (enc:=Ar) 3 0 zV E hv1 hx E) ?_
 refine J E (V E Ij (Ae E E E ?_))
 exact k.mono tL
 refine Y ?_
 refine AT h E (fun hc1 h=>?_) fun hc1 h=>?_
 obtain rfl:=zI h
 refine Z (BK [] E LR LU Dc zT E (Aj 0 E E E E DH E E E zT (O E (Y (AL (Aa ?_))))))
 exact AX (DR E (BC 0 (Af ⟨0,[]⟩) Cf E E E E) E) (AY (M:=eW ba bx br vv vo vr cnt outs a q) ⟨E,a,E⟩ fun _ hw=>BZ.pick (H:=[_]) hw [] 1 E)
 refine AC h fun x hx h=>?_
 obtain rfl:=zI h
 refine AI (AG (Z (AF 1 D3 E (V E Ay (Aj 1 E E E E Mw E E E zT (Y (AE (Ak Ca [1,2,3,4] (Bo [(true,0),(true,1),(true,2),(true,3),(true,4),(true,5),(true,6),(true,7),(true,8)] (.last 9 (Pl.of [(false,10)]))) zK (AF 1 U1 E (AW E E (AD E Qw (AF 2 LH E ?_))))))))))))
 refine AF 0 D3 E (V E B5 ?_)
 refine BV 4 hx E He Mz E E E fun g1 m1 cp1 hv1=>?_
 refine AD E XE ?_
 refine Ab [AA x.page,vS x.tag] E Cf E E (eb (sz:=3) (enc:=Ar) 3 zV E hv1 hx E) ?_
 refine BN (Aj 0 E E E E DH E E E zT (O E (Y (AL ?_))))
 exact AX (DR E (BC 0 (Af ⟨x.page,x.tag⟩) Cf E E E E) E) (AY (M:=eW ba bx br vv vo vr cnt outs a (wI (q+1))) ⟨E,a,E⟩ fun _ hw=>BZ.pick (H:=[_]) hw [] 1 E)
end

section
variable {K:Nat→Prop}{w0:World}{H:List AV}
def ZQ(a b:Ac):Bool:=decide (a.page=b.page)&&(decide (a.tag=b.tag)&&true)
def Qi(n:Nat)(T:List UInt32)(p0:Bs)(p0_1:BM)(p1:Ac):Option (List AP×List BG×Int):=
 (QR n T n ⟨[],[],0⟩ p0 p0_1 p1).bind fun y=>cond (!decide (y.1=0)) (some ([],[],y.1))
  ((Xl n y.2.rows).bind fun l=>(Ke n l).bind fun b=>cond (!decide (b.2=0)) (some ([],[],61))
   ((FH n (RV y.2.out) n b.1 ⟨[],0⟩ 0).bind fun z=>cond ((!decide (z.2.1.wrong=0) || !decide (z.2.2=(y.2.out.length:Int))) || !ZQ z.1 p1) (some ([],[],61)) (some (l,y.2.out,0))))
theorem jx{n BH BJ A2 A1 BE:Nat}{T:List UInt32}{Aq BF:Value}{p0:Bs}{p0_1:BM}{p1:Ac}{r:List AP×List BG×Int}(h:Qi n T p0 p0_1 p1=some r)(hS:Hd K w0 T):
  zC K w0 15 [vP BH 0,.agg (Af p1).toArray] (Fw ⟨BH,Aq,BJ,A2,BF,A1,BE⟩ p0 p0_1) H (fun u M=>∃v0 v1:Value,u=.tuple #[v0,v1,vI r.2.2]∧M=AH 79 4 v0 AJ r.1::AH 72 3 v1 Ar r.2.1::Fw ⟨BH,Aq,BJ,A2,BF,A1,BE⟩ p0 p0_1):=by
 unfold Qi at h
 obtain⟨⟨ye,y⟩,hy,h1⟩:=bnd h
 clear h
 dsimp only at h1
 refine UJ.enter Tryz.func15 rfl rfl ?_
 show SX _ _ _ _ _ _ _ _ _ (Fw ⟨BH,Aq,BJ,A2,BF,A1,BE⟩ p0 p0_1++H)
 refine Z ?_
 refine Bd E E zU fun b0=>?_
 refine O E (O E (O E (Y (AE (Z (J E (HW E YX E E (Y (E5 E (AI (AG (Z (J E (BK [_] E uW uM uF ⟨E,zT⟩ E ?_))))))))))))))
 refine Bd E E zU fun b1=>?_
 refine Dv 0 (AN b1 (.cells #[vP BH 0,zN,zN,vI 0] 99)) ?_
 refine Ag E uT zU fun b2=>?_
 refine Aj 0 E E E E uH E E E zT (Dv 0 (AN b2 (.cells #[vP b1 0] 97)) (Bi 79 4 AJ (Bi 72 3 Ar (Y (AE (Z (AF 2 U1 E (Ab (Af p1) E Cf E E (AZ 4 E) (SL.pick [3,0,1,5,6,7,8,9,10,11,2,4] 12 ?_)))))))))
 have hcon:=mu (K:=K) (w0:=w0) (H:=(AN b2 (.cells #[vP b1 0] 97)::AN b0 (.cells #[AA p1.page,vS p1.tag] 31)::H)++[BP []]) (BH:=b1) (Aq:=.slice none 0 0) (CR:=.slice none 0 0) (A2:=BH) (Ba:=Aq) (A1:=BJ) (CP:=A2) (DK:=BF) (DI:=A1) (DJ:=BE) n T n hy hS
 refine Bm (vs:=[_,_]) (Hin:=AN b1 (.cells #[vP BH 0,zN,zN,vI 0] 99)::AH 72 3 zN Ar []::AH 79 4 zN AJ []::Fw ⟨BH,Aq,BJ,A2,BF,A1,BE⟩ p0 p0_1) (Hr:=AN b2 (.cells #[vP b1 0] 97)::AN b0 (.cells #[AA p1.page,vS p1.tag] 31)::H) E E ⟨E,E,zT⟩ nl E E hcon ?_
 rintro _ _ ⟨vo,vr,rfl,rfl⟩
 refine⟨trivial,?_⟩
 refine O E (Y (Z (J E (V E Bg (Y ?_)))))
 refine AT h1 E (fun hc2 h1=>?_) fun hc2 h1=>?_
 obtain rfl:=zI h1
 refine Z (J E (O E (O E (O E (Y (AL (Aa (HP 72 3 Ar (HP 79 4 AJ ?_)))))))))
 exact AX (Rx E E E E) (AY (M:=_::_::Fw ⟨BH,Aq,BJ,A2,BF,A1,BE⟩ p0 p0_1) ⟨_,_,E,E⟩ fun _ hw=>BZ.pick (H:=[_,_,_,_,_,_,_,_,_,_,_,_,_,_]) hw [0,1,5,6,7,8,9,10,11] 14 E)
 obtain⟨l,hl,h2⟩:=bnd h1
 clear h1
 obtain⟨⟨b,be⟩,hb,h3⟩:=bnd h2
 clear h2
 dsimp only at h3
 refine AI (AG (Z (AF 10 U1 E (AW E E (AD E Ud (AF 0 FF E (SL.pick [2,0,1,3,4,5,6,7,8,9,10,11] 12 ?_)))))))
 refine Bm (vs:=[_,_]) (Hin:=[AH 79 4 vr AJ y.rows]) (Hr:=_::_::(Fw ⟨BH,Aq,BJ,A2,BF,A1,BE⟩ p0 p0_1++(_::_::H))) E E ⟨E,E,zT⟩ tK E E (rm hl) ?_
 rintro _ _ ⟨rfl,rfl⟩
 refine⟨trivial,?_⟩
 refine Y (Z (AF 10 U1 E (AW E E (AD E Ud (AF 1 FF E ?_)))))
 have hcon2:=Cb (K:=K) (w0:=w0) (H:=(AN b1 (.cells #[vP BH 0,vo,vr,vI y.count] 99)::AH 72 3 vo Ar y.out::(Fw ⟨BH,Aq,BJ,A2,BF,A1,BE⟩ p0 p0_1++(AN b2 (.cells #[vP b1 0] 97)::AN b0 (.cells #[AA p1.page,vS p1.tag] 31)::H)))++[BP []]) (f:=25) (B:=[AH 79 4 vr AJ l]) (Hin:=[]) fun K' w1 hkk hB=>
  eD hb (CC (e:=79) (v:=vr) zV (hB _ zS))
 refine Bm (vs:=[_]) (Hin:=[AH 79 4 vr AJ l]) (Hr:=AN b1 (.cells #[vP BH 0,vo,vr,vI y.count] 99)::AH 72 3 vo Ar y.out::(Fw ⟨BH,Aq,BJ,A2,BF,A1,BE⟩ p0 p0_1++(AN b2 (.cells #[vP b1 0] 97)::AN b0 (.cells #[AA p1.page,vS p1.tag] 31)::H))) E E ⟨E,zT⟩ oR E E hcon2 ?_
 rintro _ _ ⟨_,rfl,nv,L,rfl,hnz,rfl⟩
 refine⟨trivial,?_⟩
 refine J E (Al E E E (Al E E E ?_))
 refine Ag E I4 zU fun b3=>?_
 refine Aj 0 E E E E Ia E (List.all_eq_true.2 (Hy nv)) E zT (Dv 0 (AN b3 (.cells (B9 nv).toArray 57)) (O E (Y (AE (Z (J E (V E Bg (Y ?_))))))))
 refine AT h3 E (fun hc3 h3=>?_) fun hc3 h3=>?_
 obtain rfl:=zI h3
 refine Z (O E (O E (O E (Y (AL (Aa (HP 72 3 Ar (HP 79 4 AJ ?_))))))))
 exact AX (Rx E E E E) (AY (M:=_::_::Fw ⟨BH,Aq,BJ,A2,BF,A1,BE⟩ p0 p0_1) ⟨_,_,E,E⟩ fun _ hw=>BZ.pick (H:=[_,_,_,_,_,_,_,_,_,_,_,_,_,_,_,_]) hw [0,1,7,8,9,10,11,12,13] 16 E)
 obtain⟨z,hz,h4⟩:=bnd h3
 clear h3
 refine AI (AG (Z ?_))
 refine Ag E pK zU fun b4=>?_
 refine Aj 0 E E E E Mw E E E zT (Dv 0 (AN b4 (.cells #[vI 0] 3)) (Y (Z ?_)))
 refine Hb (fv:=#[]) (cv:=#[_,_]) E E E ?_
 refine BK [_] E mn nQ lT ⟨E,zT⟩ E ?_
 refine Bd E E zU fun b5=>?_
 refine Bi 72 3 Ar (O E (Y ?_))
 have hcon3:=Cb (K:=K) (w0:=w0) (H:=(AN b3 (.cells (B9 nv).toArray 57)::AH 79 4 vr AJ l::(Fw ⟨BH,Aq,BJ,A2,BF,A1,BE⟩ p0 p0_1++(AN b0 (.cells #[AA p1.page,vS p1.tag] 31)::H)))++[BP []]) (f:=53) (B:=[Fd L]) (Hin:=KW b5 (.func (.func 52) #[] #[vP b4 0,vP b2 0]) (.slice none 0 0) ⟨[],0⟩::AH 72 3 (.slice none 0 0) Ar []::eW b4 b2 b1 (vP BH 0) vo vr y.count y.out vo 0) fun K' w1 hkk hB=>
  N3 (C:=eW b4 b2 b1 (vP BH 0) vo vr y.count y.out) (bp:=b5) (vo:=.slice none 0 0) (ca:=vo) (cs:=#[vP b4 0,vP b2 0]) sm lc n (hS.keeps hkk) hz (hnz.lent (hB _ zS))
 generalize hpo:(fun(u:Value) (M:List AV)=>∃M',M=[Fd L]++M'∧(u=.agg (Af z.1).toArray∧∃vo' ca',M'=KW b5 (.func (.func 52) #[] #[vP b4 0,vP b2 0]) vo' z.2.1::AH 72 3 vo' Ar z.2.1.out::eW b4 b2 b1 (vP BH 0) vo vr y.count y.out ca' z.2.2))=po at hcon3
 refine AE (Z (J E (Ab (B9 nv) E MK E E (AZ 3 E) (SL.pick [5,1,0,2,15,6,7,3,4,8,9,10,11,12,13,14,16] 17 ?_))))
 refine Bm (vs:=[_,_]) (Hin:=[Fd L]++(KW b5 (.func (.func 52) #[] #[vP b4 0,vP b2 0]) zN ⟨[],0⟩::AH 72 3 zN Ar []::eW b4 b2 b1 (vP BH 0) vo vr y.count y.out vo 0)) (Hr:=AN b3 (.cells (B9 nv).toArray 57)::AH 79 4 vr AJ l::(Fw ⟨BH,Aq,BJ,A2,BF,A1,BE⟩ p0 p0_1++(AN b0 (.cells #[AA p1.page,vS p1.tag] 31)::H))) E E ⟨E,E,zT⟩ iz E E hcon3 ?_
 intro u0 M0 hpost
 rw[←hpo]at hpost
 obtain⟨_,rfl,rfl,vo2,ca2,rfl⟩:=hpost
 refine⟨trivial,?_⟩
 refine Ag E Dc zU fun b6=>?_
 refine Aj 0 E E E E DH E E E zT (Dv 0 (AN b6 (.cells #[AA z.1.page,vS z.1.tag] 31)) (Y (AE (Ak Ca [2,4,5,6,7,0,17] (Pl.of [(true,0),(true,1),(true,2),(true,3),(true,4),(true,5),(true,6),(true,7),(true,8),(true,9),(true,10),(true,11),(true,12),(true,13),(true,14),(true,15),(true,16),(true,17),(true,18)]) zK (J E (AW E E (AD E QZ (AF 0 Rq E (V E Bg ?_)))))))))
 refine J E ?_
 refine DL (c := !decide (z.2.2=(y.out.length:Int))) 51 8 59 E (fun hb k=>?_) (fun hb k=>?_) ?_
 refine AB E (AB E (AB E (AB E (AB E (AB E (AB E (Ae E E E ?_)))))))
 exact k.mono tL
 refine AF 1 D3 E (AF 2 U1 E (AW E E (AD E Qw (AF 3 LH E (D0 4 E He E E (V E Bg (Ae E E E ?_)))))))
 exact k.mono tL
 refine J E ?_
 refine DL (c := !ZQ z.1 p1) 60 4 64 E (fun hb k=>?_) (fun hb k=>?_) ?_
 refine AB E (AB E (AB E (Ae E E E ?_)))
 exact k.mono tL
 refine Ab (Af z.1) E Cf E E (AZ 5 E) (Ab (Af p1) E Cf E E (AZ 6 E) ?_)
 refine Oa E aG E E (CT E E (I6 (a:=z.1.page) (b:=p1.page)) (CT E E (Qf (a:=z.1.tag) (b:=p1.tag)) HK)) ?_
 refine Ae E E E ?_
 exact k.mono tL
 refine Y ?_
 refine AT h4 E (fun hc4 h4=>?_) fun hc4 h4=>?_
 obtain rfl:=zI h4
 refine Z (O E (O E (O E (Y (AL (Aa (HP 72 3 Ar (HP 79 4 AJ ?_))))))))
 exact AX (Rx E E E E) (AY (M:=_::_::Fw ⟨BH,Aq,BJ,A2,BF,A1,BE⟩ p0 p0_1) ⟨_,_,E,E⟩ fun _ hw=>BZ.pick (H:=[_,_,_,_,_,_,_,_,_,_,_,_,_,_,_,_,_,_,_,_]) hw [0,1,12,13,14,15,16,17,18] 20 E)
 obtain rfl:=zI h4
 refine AI (AG (AE (Ak Ca [5,6] (Pl.of [(true,0),(true,1),(true,2),(true,3),(true,4),(true,5),(true,6),(true,7),(true,8),(true,9),(true,10)]) zK (AF 0 U1 E (AW E E (AD E Ud (AF 1 FF E (AF 0 U1 E (AW E E (AD E Qw ?_))))))))))
 refine AF 1 LH E (O E (O E (O E (Y (AL ?_)))))
 exact AX (Rx E E E E) (AY (M:=AH 79 4 vr AJ l::AH 72 3 vo Ar y.out::Fw ⟨BH,Aq,BJ,A2,BF,A1,BE⟩ p0 p0_1) ⟨_,_,E,E⟩ fun _ hw=>BZ.pick (H:=[_,_,_,_,_,_,_,_,_,_,_,_,_,_,_,_,_,_]) hw [9,7,10,11,12,13,14,15,16] 18 E)
end

section
theorem Jg{α:Type}(A:List α)(x:α)(B:List α){i:Int}(h:i=(A.length:Int)):Ao (A++x::B) i=some x:=by
 rw[EF h]
 simp
theorem Nq{α:Type}(A:List α)(x y:α)(B:List α){i:Int}(h:i=(A.length:Int)):F6 (A++x::B) i y=some (A++y::B):=by
 rw[Jd h zS]
 simp
def Je(l:List AP):Prop:=l.Pairwise fun a b=>a.id≤b.id
theorem VV(a b:AP):∃y,Ek a b=some y∧decide (y<0)=decide (a.id<b.id):=by
 unfold Ek HZ GU
 simp only[A9,U,decide_true,Bool.not_true,BD]
 by_cases h:a.id<b.id
 rw[zt h]
 exact⟨-1,rfl,rfl⟩
 rw[zf h]
 by_cases h2:b.id<a.id
 rw[zt h2]
 exact⟨1,rfl,rfl⟩
 rw[zf h2]
 exact⟨0,rfl,rfl⟩
theorem I3{a b:List AP}:Je (a++b)↔Je a∧Je b∧∀x∈a,∀y∈b,x.id≤y.id:=List.pairwise_append
theorem KC{a b:UInt64}(h:¬a<b):b≤a:=by
 rw[UInt64.lt_iff_toNat_lt]at h
 rw[UInt64.le_iff_toNat_le]
 omega
theorem Tc{a b:UInt64}(h:a<b):a≤b:=by
 rw[UInt64.lt_iff_toNat_lt]at h
 rw[UInt64.le_iff_toNat_le]
 omega
theorem Fy{a b c:UInt64}(h:a≤b)(h':b≤c):a≤c:=by
 rw[UInt64.le_iff_toNat_le]at*
 omega
theorem hC{a b c:UInt64}(h:a≤b)(h':b<c):a<c:=by
 rw[UInt64.le_iff_toNat_le]at*
 rw[UInt64.lt_iff_toNat_lt]at*
 omega
theorem fP{a b:UInt64}(h:a<b)(h':b≤a):False:=by
 rw[UInt64.le_iff_toNat_le]at*
 rw[UInt64.lt_iff_toNat_lt]at*
 omega
abbrev JX:Nat:=1073741824
theorem Z6(p1:Int)(A:List AP)(x:AP)(R:List AP)(ha:p1=(A.length:Int)):
  ∀(k:Nat) (S T:List AP),S.length=k→(A++S++x::T++R).length≤JX→Je (S++T)→(∀y∈T,x.id≤y.id)→
  ∃S',S'.Perm (S++x::T)∧Je S'∧∀(a1:Int) (nx1:List AP×Int→Option (List AP)) (m:Nat),k<m→NH p1 a1 nx1 m (A++S++x::T++R,((A.length+k:Nat):Int))=QO a1 nx1 (A++S'++R)
 | 0,S,T,hk,hlen,hs,hx=>by
  have hS:S=[]:=List.length_eq_zero_iff.1 hk
  subst hS
  refine⟨x::T,List.Perm.refl _,List.pairwise_cons.2 ⟨hx,by simpa[Je]using hs⟩,fun a1 nx1 m hm=>?_⟩
  obtain⟨m,rfl⟩:∃k,m=k+1:=⟨m-1,by omega⟩
  show Hz p1 a1 nx1 (NH p1 a1 nx1 m) _ _=_
  unfold Hz
  dsimp only
  rw[zf zO]
  simp only[FZ,BD,U,List.append_nil]
 | k+1,S,T,hk,hlen,hs,hx=>by
  obtain⟨S0,z,rfl⟩:∃S0 z,S=S0++[z]:=⟨_,_,(List.dropLast_concat_getLast (by intro e;rw[e]at hk;simp at hk)).symm⟩
  have hk0:S0.length=k:=by simpa using hk
  obtain⟨y,hy,hlt⟩:=VV x z
  have n1:∀i:Int,i=((A.length+(k+1):Nat):Int)→Ao (A++(S0++[z])++x::T++R) i=some x:=fun i hi=>by
   have:=Jg (A++(S0++[z])) x (T++R) (i:=i) (by rw[hi];simp;omega)
   simpa using this
  have n2:∀i:Int,i=((A.length+k:Nat):Int)→Ao (A++(S0++[z])++x::T++R) i=some z:=fun i hi=>by
   have:=Jg (A++S0) z (x::T++R) (i:=i) (by rw[hi];simp;omega)
   simpa using this
  have hb:(A.length:Int)+k+1≤1073741824:=by
   simp at hlen
   unfold JX at hlen
   omega
  have e1:wI (((A.length+(k+1):Nat):Int)-1)=((A.length+k:Nat):Int):=by rw[A8 zO zO];omega
  by_cases hc:x.id<z.id
  have hs':Je (S0++z::T):=by simpa using hs
  obtain⟨S',hp,hss,hf⟩:=Z6 p1 A x R ha k S0 (z::T) hk0 (by simpa using hlen) hs' (fun w hw=>by
   rcases List.mem_cons.1 hw with rfl | hw
   exact Tc hc
   exact hx w hw)
  refine⟨S',hp.trans ?_,hss,fun a1 nx1 m hm=>?_⟩
  rw[List.append_assoc]
  exact List.Perm.append_left _ (List.Perm.swap _ _ _)
  obtain⟨m,rfl⟩:∃k,m=k+1:=⟨m-1,by omega⟩
  show Hz p1 a1 nx1 (NH p1 a1 nx1 m) _ _=_
  unfold Hz
  dsimp only
  rw[zt zO,e1,n1 _ rfl,n2 _ rfl]
  simp only[FZ,Be,U,hy,hlt,zt hc]
  have s1:F6 (A++(S0++[z])++x::T++R) ((A.length+(k+1):Nat):Int) z=some (A++S0++z::z::T++R):=by
   have:=Nq (A++(S0++[z])) x z (T++R) (i:=((A.length+(k+1):Nat):Int)) zQ
   simpa using this
  rw[s1,U]
  have n3:Ao (A++S0++z::z::T++R) ((A.length+k:Nat):Int)=some z:=by
   have:=Jg (A++S0) z (z::T++R) (i:=((A.length+k:Nat):Int)) zQ
   simpa using this
  have s2:F6 (A++S0++z::z::T++R) ((A.length+k:Nat):Int) x=some (A++S0++x::z::T++R):=by
   have:=Nq (A++S0) z x (z::T++R) (i:=((A.length+k:Nat):Int)) zQ
   simpa using this
  rw[n3,U,s2,U,A9]
  exact hf a1 nx1 m zO
  refine⟨S0++[z]++x::T,List.Perm.refl _,?_,fun a1 nx1 m hm=>?_⟩
  have h1:=I3.1 hs
  have hzx:=KC hc
  refine I3.2 ⟨h1.1,List.pairwise_cons.2 ⟨hx,h1.2.1⟩,fun w hw y hy=>?_⟩
  rcases List.mem_cons.1 hy with rfl | hy
  rcases List.mem_append.1 hw with hw0 | hw0
  have:=(I3.1 h1.1).2.2 w hw0 z zS
  exact Fy this hzx
  rw[List.mem_singleton.1 hw0]
  exact hzx
  exact h1.2.2 w hw y hy
  obtain⟨m,rfl⟩:∃k,m=k+1:=⟨m-1,by omega⟩
  show Hz p1 a1 nx1 (NH p1 a1 nx1 m) _ _=_
  unfold Hz
  dsimp only
  rw[zt zO,e1,n1 _ rfl,n2 _ rfl]
  simp only[FZ,Be,U,hy,hlt,zf hc,BD]
  simp
theorem jf{n:Nat}(A:List AP)(X B:List AP)(hn:X.length+2≤n)(hlen:(A++X++B).length≤JX):
  ∃X',X'.Perm X∧Je X'∧Vu n (A++X++B) (A.length:Int) ((A.length+X.length:Nat):Int)=some (A++X'++B):=by
 unfold JX at hlen
 simp only[List.length_append]at hlen
 
 have key:∀(d:Nat) (S T:List AP),T.length=d→Je S→(S++T).length=X.length→(S++T).Perm X→∃X',X'.Perm X∧Je X'∧∀m,d<m→
   Hn n (A.length:Int) ((A.length+X.length:Nat):Int) m (A++S++T++B,((A.length+S.length:Nat):Int))=some (A++X'++B):=by
  intro d
  induction d with
  | zero=>
   intro S T hT hS hl hp
   have hT0:T=[]:=List.length_eq_zero_iff.1 hT
   subst hT0
   refine⟨S,by simpa using hp,hS,fun m hm=>?_⟩
   obtain⟨m,rfl⟩:∃k,m=k+1:=⟨m-1,by omega⟩
   show IH n _ _ (Hn n _ _ m) _ _=_
   unfold IH
   dsimp only
   rw[zf (by simp at hl;omega),BD]
   simp
  | succ d ih=>
   intro S T hT hS hl hp
   obtain⟨x,T',rfl⟩:∃x T',T=x::T':=by
    cases T with
    | nil=>simp at hT
    | cons x T'=>exact⟨x,T',rfl⟩
   have hT':T'.length=d:=by simpa using hT
   simp only[List.length_append,List.length_cons]at hl
   obtain⟨S',hp',hs',hf⟩:=Z6 (A.length:Int) A x (T'++B) rfl S.length S [] rfl (by simp;unfold JX;omega) (by simpa using hS) zS
   have hlS:S'.length=S.length+1:=by simpa using hp'.length_eq
   obtain⟨X',hX,hXs,hXf⟩:=ih S' T' hT' hs' (by simp[hlS];omega) (by
    refine(List.Perm.append_right T' hp').trans ?_
    simpa using hp)
   refine⟨X',hX,hXs,fun m hm=>?_⟩
   obtain⟨m,rfl⟩:∃k,m=k+1:=⟨m-1,by omega⟩
   show IH n _ _ (Hn n _ _ m) _ _=_
   unfold IH
   dsimp only
   rw[zt zO,Be]
   have hf1:=hf ((A.length+S.length:Nat):Int) (Hn n (A.length:Int) ((A.length+X.length:Nat):Int) m) n zO
   rw[show A++S++x::T'++B=A++S++x::[]++(T'++B) by simp]
   refine hf1.trans ?_
   unfold QO
   rw[A9,A8 zO zO]
   have:=hXf m zO
   rw[hlS,show((A.length+(S.length+1):Nat):Int)=((A.length+S.length:Nat):Int)+1 by omega]at this
   rw[show A++S'++(T'++B)=A++S'++T'++B by simp]
   exact this
 unfold Vu
 rw[A9,A8 zO zO]
 cases X with
 | nil=>
  refine⟨[],List.Perm.refl _,List.Pairwise.nil,?_⟩
  obtain⟨n,rfl⟩:∃k,n=k+1:=⟨n-1,by omega⟩
  show IH _ _ _ (Hn (n+1) _ _ n) _ _=_
  unfold IH
  dsimp only
  rw[zf zQ,BD]
 | cons x X=>
  obtain⟨X',h1,h2,h3⟩:=key X.length [x] X rfl (by simp[Je]) zS zS
  refine⟨X',h1,h2,?_⟩
  have:=h3 n (by simp at hn;omega)
  simpa using this
theorem ak(A M B:List AP)(p1 p2 p3:Int)(h1:p1=(A.length:Int)):∀(X2 Y2 X1 Y1:List AP),X2.length=Y2.length→X1.length=Y1.length→p2=((A.length+X1.length+X2.length+M.length:Nat):Int)→p3=((X1.length+X2.length:Nat):Int)→
  (A++(Y1++X2)++M++(X1++Y2)++B).length≤JX→∀m,X2.length<m→Oe p1 p2 p3 m (A++(Y1++X2)++M++(X1++Y2)++B,(X1.length:Int))=some (A++(Y1++Y2)++M++(X1++X2)++B)
 | [],Y2,X1,Y1,hl,hl1,h2,h3,hlen,m,hm=>by
  have hY:Y2=[]:=List.length_eq_zero_iff.1 hl.symm
  subst hY
  obtain⟨m,rfl⟩:∃k,m=k+1:=⟨m-1,by omega⟩
  show KK _ _ _ (Oe _ _ _ m) _ _=_
  unfold KK
  dsimp only
  rw[h3,zf zS,BD]
 | x::X2,Y2,X1,Y1,hl,hl1,h2,h3,hlen,m,hm=>by
  obtain⟨y,Y2',rfl⟩:∃y Y2',Y2=y::Y2':=by
   cases Y2 with
   | nil=>simp at hl
   | cons y Y2'=>exact⟨y,Y2',rfl⟩
  have hl':X2.length=Y2'.length:=by simpa using hl
  obtain⟨m,rfl⟩:∃k,m=k+1:=⟨m-1,by omega⟩
  unfold JX at hlen
  simp only[List.length_append,List.length_cons]at hlen h2 h3 hm
  have e1:wI (p1+(X1.length:Int))=((A.length+X1.length:Nat):Int):=by rw[h1,A8 zO zO];omega
  have e2:wI (p2+(X1.length:Int))=((A.length+X1.length+(X2.length+1)+M.length+X1.length:Nat):Int):=by rw[h2,A8 zO zO];omega
  have n2:Ao (A++(Y1++x::X2)++M++(X1++y::Y2')++B) ((A.length+X1.length+(X2.length+1)+M.length+X1.length:Nat):Int)=some y:=by
   have:=Jg (A++(Y1++x::X2)++M++X1) y (Y2'++B) (i:=((A.length+X1.length+(X2.length+1)+M.length+X1.length:Nat):Int)) zQ
   simpa using this
  have n1:Ao (A++(Y1++x::X2)++M++(X1++y::Y2')++B) ((A.length+X1.length:Nat):Int)=some x:=by
   have:=Jg (A++Y1) x (X2++M++(X1++y::Y2')++B) (i:=((A.length+X1.length:Nat):Int)) zQ
   simpa using this
  have s1:F6 (A++(Y1++x::X2)++M++(X1++y::Y2')++B) ((A.length+X1.length:Nat):Int) y=some (A++(Y1++y::X2)++M++(X1++y::Y2')++B):=by
   have:=Nq (A++Y1) x y (X2++M++(X1++y::Y2')++B) (i:=((A.length+X1.length:Nat):Int)) zQ
   simpa using this
  have n3:Ao (A++(Y1++y::X2)++M++(X1++y::Y2')++B) ((A.length+X1.length+(X2.length+1)+M.length+X1.length:Nat):Int)=some y:=by
   have:=Jg (A++(Y1++y::X2)++M++X1) y (Y2'++B) (i:=((A.length+X1.length+(X2.length+1)+M.length+X1.length:Nat):Int)) zQ
   simpa using this
  have s2:F6 (A++(Y1++y::X2)++M++(X1++y::Y2')++B) ((A.length+X1.length+(X2.length+1)+M.length+X1.length:Nat):Int) x=some (A++(Y1++y::X2)++M++(X1++x::Y2')++B):=by
   have:=Nq (A++(Y1++y::X2)++M++X1) y x (Y2'++B) (i:=((A.length+X1.length+(X2.length+1)+M.length+X1.length:Nat):Int)) zQ
   simpa using this
  show KK _ _ _ (Oe _ _ _ m) _ _=_
  unfold KK
  dsimp only
  rw[zt zO,Be,e1,e2,n2,U,n1,U,U,s1,U,n3,U,s2,U,A9,A8 zO zO]
  have:=ak A M B p1 p2 p3 h1 X2 Y2' (X1++[x]) (Y1++[y]) hl' (by simp[hl1]) (by rw[h2];simp;omega) (by rw[h3];simp;omega) (by unfold JX;simp;omega) m zO
  simpa using this
theorem dM{n:Nat}(A X M Y9 B:List AP){p1 p2 p3:Int}(h1:p1=(A.length:Int))(h2:p2=((A.length+X.length+M.length:Nat):Int))(h3:p3=(X.length:Int))(hl:X.length=Y9.length)(hn:X.length<n)(hlen:(A++X++M++Y9++B).length≤JX):
  UG n (A++X++M++Y9++B) p1 p2 p3=some (A++Y9++M++X++B):=by
 unfold UG
 have:=ak A M B p1 p2 p3 h1 X Y9 [] [] hl rfl (by rw[h2];simp) (by rw[h3];simp) (by simpa using hlen) n hn
 simpa using this
theorem Vx{n:Nat}:∀(k:Nat) (A X Y9 B:List AP) (p2:Int),X≠[]→Y9≠[]→X.length+Y9.length≤k→k<n→p2=((A.length+X.length:Nat):Int)→(A++X++Y9++B).length≤JX→∀m,k≤m→
  QD n p2 m (A++X++Y9++B,(X.length:Int),(Y9.length:Int))=some (A++Y9++X++B)
 | 0,A,X,Y9,B,p2,hX,hY,hk,hkn,h2,hlen,m,hm=>absurd (List.length_eq_zero_iff.1 zO) hX
 | k+1,A,X,Y9,B,p2,hX,hY,hk,hkn,h2,hlen,m,hm=>by
  have hX1:=List.length_pos_iff.2 hX
  have hY1:=List.length_pos_iff.2 hY
  obtain⟨m,rfl⟩:∃k,m=k+1:=⟨m-1,by omega⟩
  unfold JX at hlen
  simp only[List.length_append]at hlen
  have e0:wI (p2-(X.length:Int))=(A.length:Int):=by rw[h2,A8 zO zO];omega
  show Nj _ _ (QD _ _ m) _ _ _=_
  unfold Nj
  dsimp only
  by_cases heq:X.length=Y9.length
  rw[zt zO,Bool.not_true,BD]
  unfold St
  have hs:=dM (n:=n) A X [] Y9 B (p1:=(A.length:Int)) (p2:=p2) (p3:=(X.length:Int)) rfl (by rw[h2];simp) rfl heq zO (by unfold JX;simp;omega)
  simp only[List.append_nil]at hs
  rw[e0,hs]
  rfl
  rw[zf zO,Bool.not_false,Be]
  by_cases hlt:Y9.length<X.length
  rw[zt zO,Be]
  obtain⟨X1,X2,hXX,hX1l⟩:∃X1 X2,X=X1++X2∧X1.length=Y9.length:=⟨X.take Y9.length,X.drop Y9.length,(List.take_append_drop ..).symm,by simp;omega⟩
  subst hXX
  simp only[List.length_append]at*
  have hs:=dM (n:=n) A X1 X2 Y9 B (p1:=(A.length:Int)) (p2:=p2) (p3:=(Y9.length:Int)) rfl (by rw[h2];omega) zO hX1l zO (by unfold JX;simp;omega)
  rw[e0,show A++(X1++X2)++Y9++B=A++X1++X2++Y9++B by simp,hs,U,A9]
  have e1:wI (((X1.length+X2.length:Nat):Int)-(Y9.length:Int))=(X2.length:Int):=by rw[A8 zO zO];omega
  have:=Vx (n:=n) k (A++Y9) X2 X1 B p2 (List.length_pos_iff.1 zO) (List.length_pos_iff.1 zO) zO zO (by rw[h2];simp;omega) (by unfold JX;simp;omega) m zO
  rw[e1,←hX1l]
  rw[this]
  simp
  rw[zf zO,BD]
  obtain⟨Y1,Y2,hYY,hY2l⟩:∃Y1 Y2,Y9=Y1++Y2∧Y2.length=X.length:=⟨Y9.take (Y9.length-X.length),Y9.drop (Y9.length-X.length),(List.take_append_drop ..).symm,by simp;omega⟩
  subst hYY
  simp only[List.length_append]at*
  have e2:wI (wI (p2+((Y1.length+Y2.length:Nat):Int))-(X.length:Int))=((A.length+X.length+Y1.length:Nat):Int):=by
   rw[h2,A8 (x:=_+_) zO zO,A8 zO zO]
   omega
  have hs:=dM (n:=n) A X Y1 Y2 B (p1:=(A.length:Int)) (p2:=((A.length+X.length+Y1.length:Nat):Int)) (p3:=(X.length:Int)) rfl rfl rfl hY2l.symm zO (by unfold JX;simp;omega)
  rw[e0,e2,show A++X++(Y1++Y2)++B=A++X++Y1++Y2++B by simp,hs,U,A9]
  have e1:wI (((Y1.length+Y2.length:Nat):Int)-(X.length:Int))=(Y1.length:Int):=by rw[A8 zO zO];omega
  have:=Vx (n:=n) k A Y2 Y1 (X++B) p2 (List.length_pos_iff.1 zO) (List.length_pos_iff.1 zO) zO zO (by rw[h2];simp;omega) (by unfold JX;simp;omega) m zO
  rw[e1,←hY2l]
  rw[show A++Y2++Y1++X++B=A++Y2++Y1++(X++B) by simp,this]
  simp
theorem od{n:Nat}(A X Y9 B:List AP){p1 p2 p3:Int}(hX:X≠[])(hY:Y9≠[])(hn:X.length+Y9.length<n)(h1:p1=(A.length:Int))(h2:p2=((A.length+X.length:Nat):Int))(h3:p3=((A.length+X.length+Y9.length:Nat):Int))(hlen:(A++X++Y9++B).length≤JX):
  ZH n (A++X++Y9++B) p1 p2 p3=some (A++Y9++X++B):=by
 have hb:=hlen
 unfold JX at hb
 simp only[List.length_append]at hb
 unfold ZH
 have e1:wI (p2-p1)=(X.length:Int):=by rw[h1,h2,A8 zO zO];omega
 have e2:wI (p3-p2)=(Y9.length:Int):=by rw[h2,h3,A8 zO zO];omega
 rw[A9,A9,e1,e2]
 exact Vx (n:=n) (X.length+Y9.length) A X Y9 B p2 hX hY (Nat.le_refl _) hn h2 hlen n zO
theorem VA{x:Nat}(h:x≤4294967296):wI ((shr64 (BW (wI (x:Int))) 1).toNat:Int)=((x / 2:Nat):Int):=by
 have e:(BW (wI (x:Int))).toNat=x:=by
  rw[A8 zO zO]
  simp only[BW,UInt64.toNat_ofNat']
  omega
 rw[JD _ _ zD,e,A8 zO zO]
theorem X8{β:Type}{F:(Int×Int→Option β)→Int×Int→Option β}{z:Nat→Option β}(test:Nat→Bool)(lo hi:Nat)
(hs:∀i j:Nat,lo≤i→i<j→j≤hi→∀nx,F nx ((i:Int),(j:Int))=cond (test ((i+j) / 2)) (nx ((((i+j) / 2+1:Nat):Int),(j:Int))) (nx ((i:Int),(((i+j) / 2:Nat):Int))))
(he:∀(i:Nat) nx,lo≤i→i≤hi→F nx ((i:Int),(i:Int))=z i)(hmono:∀c d,lo≤c→c≤d→d<hi→test d=true→test c=true)(hlh:lo≤hi):
  ∃s,lo≤s∧s≤hi∧(∀c,lo≤c→c<s→test c=true)∧(∀c,s≤c→c<hi→test c=false)∧∀m,hi-lo<m→Bu F m ((lo:Int),(hi:Int))=z s:=by
 have key:∀(d i j:Nat),j-i≤d→lo≤i→i≤j→j≤hi→(∀c,lo≤c→c<i→test c=true)→(∀c,j≤c→c<hi→test c=false)→
   ∃s,lo≤s∧s≤hi∧(∀c,lo≤c→c<s→test c=true)∧(∀c,s≤c→c<hi→test c=false)∧∀m,j-i<m→Bu F m ((i:Int),(j:Int))=z s:=by
  intro d
  induction d with
  | zero=>
   intro i j hd h1 h2 h3 h4 h5
   obtain rfl:i=j:=zO
   refine⟨i,h1,h3,h4,h5,fun m hm=>?_⟩
   obtain⟨m,rfl⟩:∃k,m=k+1:=⟨m-1,by omega⟩
   exact he i _ h1 h3
  | succ d ih=>
   intro i j hd h1 h2 h3 h4 h5
   by_cases hij:i=j
   subst hij
   refine⟨i,h1,h3,h4,h5,fun m hm=>?_⟩
   obtain⟨m,rfl⟩:∃k,m=k+1:=⟨m-1,by omega⟩
   exact he i _ h1 h3
   have hlt:i<j:=zO
   have hc1:i≤(i+j) / 2:=zO
   have hc2:(i+j) / 2<j:=zO
   by_cases ht:test ((i+j) / 2)=true
   obtain⟨s,a1,a2,a3,a4,a5⟩:=ih ((i+j) / 2+1) j zO zO zO h3 (fun c hc hc'=>hmono c ((i+j) / 2) hc zO zO ht) h5
   refine⟨s,a1,a2,a3,a4,fun m hm=>?_⟩
   obtain⟨m,rfl⟩:∃k,m=k+1:=⟨m-1,by omega⟩
   show F (Bu F m) _=_
   rw[hs i j h1 hlt h3,ht,Be]
   exact a5 m zO
   have ht':test ((i+j) / 2)=false:=by simpa using ht
   obtain⟨s,a1,a2,a3,a4,a5⟩:=ih i ((i+j) / 2) zO h1 zO zO h4 (fun c hc hc'=>by
    by_cases hcj:test c=true
    exact absurd (hmono ((i+j) / 2) c zO hc hc' hcj) ht
    simpa using hcj)
   refine⟨s,a1,a2,a3,a4,fun m hm=>?_⟩
   obtain⟨m,rfl⟩:∃k,m=k+1:=⟨m-1,by omega⟩
   show F (Bu F m) _=_
   rw[hs i j h1 hlt h3,ht',BD]
   exact a5 m zO
 exact key (hi-lo) lo hi (Nat.le_refl _) (Nat.le_refl _) hlh (Nat.le_refl _) (fun c h1 h2=>by omega) (fun c h1 h2=>by omega)
def LZ:AP:=⟨0,0,0,[]⟩
theorem Jr{l:List AP}{i:Nat}(h:i<l.length):l.getD i LZ=l[i]:=by simp[List.getD_eq_getElem?_getD,h]
theorem Mm{X:List AP}(h:Je X){i j:Nat}(hij:i≤j)(hj:j<X.length):(X.getD i LZ).id≤(X.getD j LZ).id:=by
 rw[Jr (show i<X.length by omega),Jr hj]
 rcases Nat.lt_or_ge i j with h1 | h1
 exact List.pairwise_iff_getElem.1 h i j zO hj h1
 obtain rfl:i=j:=zO
 exact UInt64.le_refl _
theorem jU{A X R:List AP}{i:Nat}(h:i<X.length):(A++X++R).getD (A.length+i) LZ=X.getD i LZ:=by
 simp only[List.getD_eq_getElem?_getD]
 rw[List.append_assoc,List.getElem?_append_right zO,Nat.add_sub_cancel_left,List.getElem?_append_left h]
theorem qf{A X Y9 R:List AP}{i:Nat}(h:i<Y9.length):(A++X++Y9++R).getD (A.length+X.length+i) LZ=Y9.getD i LZ:=by
 have:=jU (A:=A++X) (X:=Y9) (R:=R) (i:=i) h
 simpa using this
theorem aF(R:List AP)(x:AP)(a1:Int):∀(Y9 A:List AP),a1=((A.length+Y9.length+1:Nat):Int)→(A++x::Y9++R).length≤JX→∀m,Y9.length<m→
  OR a1 m (A++x::Y9++R,(A.length:Int))=some (A++Y9++x::R)
 | [],A,h1,hlen,m,hm=>by
  obtain⟨m,rfl⟩:∃k,m=k+1:=⟨m-1,by omega⟩
  unfold JX at hlen
  simp at hlen
  show KX _ (OR _ m) _ _=_
  unfold KX
  dsimp only
  simp only[List.length_nil]at h1
  rw[h1,A8 zO zO,zf zO,BD]
  unfold TA
  simp
 | y::Y9,A,h1,hlen,m,hm=>by
  obtain⟨m,rfl⟩:∃k,m=k+1:=⟨m-1,by omega⟩
  unfold JX at hlen
  simp only[List.length_append,List.length_cons]at hlen h1 hm
  have e1:wI ((A.length:Int)+1)=((A.length+1:Nat):Int):=by rw[A8 zO zO];omega
  have n1:Ao (A++x::y::Y9++R) ((A.length+1:Nat):Int)=some y:=by
   have:=Jg (A++[x]) y (Y9++R) (i:=((A.length+1:Nat):Int)) zS
   simpa using this
  have n2:Ao (A++x::y::Y9++R) (A.length:Int)=some x:=by
   have:=Jg A x (y::Y9++R) (i:=(A.length:Int)) rfl
   simpa using this
  have s1:F6 (A++x::y::Y9++R) (A.length:Int) y=some (A++y::y::Y9++R):=by
   have:=Nq A x y (y::Y9++R) (i:=(A.length:Int)) rfl
   simpa using this
  have n3:Ao (A++y::y::Y9++R) ((A.length+1:Nat):Int)=some y:=by
   have:=Jg (A++[y]) y (Y9++R) (i:=((A.length+1:Nat):Int)) zS
   simpa using this
  have s2:F6 (A++y::y::Y9++R) ((A.length+1:Nat):Int) x=some (A++y::x::Y9++R):=by
   have:=Nq (A++[y]) y x (Y9++R) (i:=((A.length+1:Nat):Int)) zS
   simpa using this
  show KX _ (OR _ m) _ _=_
  unfold KX
  dsimp only
  rw[h1,A8 (x:=_-1) zO zO,zt zO,Be,e1,n1,U,n2,U,U,s1,U,n3,U,s2,U,A9]
  have:=aF R x a1 Y9 (A++[y]) (by rw[h1];simp;omega) (by unfold JX;simp;omega) m zO
  rw[h1]at this
  simpa using this
theorem fC(A:List AP)(y:AP):∀(k:Nat) (S R:List AP),S.length=k→(A++S++y::R).length≤JX→∀m,k<m→
  Od (A.length:Int) m (A++S++y::R,((A.length+k:Nat):Int))=some (A++y::S++R)
 | 0,S,R,hk,hlen,m,hm=>by
  have hS:S=[]:=List.length_eq_zero_iff.1 hk
  subst hS
  obtain⟨m,rfl⟩:∃k,m=k+1:=⟨m-1,by omega⟩
  show Kd _ (Od _ m) _ _=_
  unfold Kd
  dsimp only
  rw[zf zO,BD]
  unfold Sv
  simp
 | k+1,S,R,hk,hlen,m,hm=>by
  obtain⟨S,z,rfl⟩:∃S0 z,S=S0++[z]:=⟨_,_,(List.dropLast_concat_getLast (by intro e;rw[e]at hk;simp at hk)).symm⟩
  have hk0:S.length=k:=by simpa using hk
  obtain⟨m,rfl⟩:∃k,m=k+1:=⟨m-1,by omega⟩
  unfold JX at hlen
  simp only[List.length_append,List.length_cons,List.length_nil]at hlen
  have e1:wI (((A.length+(k+1):Nat):Int)-1)=((A.length+k:Nat):Int):=by rw[A8 zO zO];omega
  have n1:Ao (A++(S++[z])++y::R) ((A.length+k:Nat):Int)=some z:=by
   have:=Jg (A++S) z (y::R) (i:=((A.length+k:Nat):Int)) zQ
   simpa using this
  have n2:Ao (A++(S++[z])++y::R) ((A.length+(k+1):Nat):Int)=some y:=by
   have:=Jg (A++(S++[z])) y R (i:=((A.length+(k+1):Nat):Int)) zQ
   simpa using this
  have s1:F6 (A++(S++[z])++y::R) ((A.length+(k+1):Nat):Int) z=some (A++(S++[z])++z::R):=by
   have:=Nq (A++(S++[z])) y z R (i:=((A.length+(k+1):Nat):Int)) zQ
   simpa using this
  have n3:Ao (A++(S++[z])++z::R) ((A.length+k:Nat):Int)=some z:=by
   have:=Jg (A++S) z (z::R) (i:=((A.length+k:Nat):Int)) zQ
   simpa using this
  have s2:F6 (A++(S++[z])++z::R) ((A.length+k:Nat):Int) y=some (A++(S++[y])++z::R):=by
   have:=Nq (A++S) z y (z::R) (i:=((A.length+k:Nat):Int)) zQ
   simpa using this
  show Kd _ (Od _ m) _ _=_
  unfold Kd
  dsimp only
  rw[zt zO,Be,e1,n1,U,n2,U,U,s1,U,n3,U,s2,U,A9]
  have:=fC A y k S (z::R) hk0 (by unfold JX;simp;omega) m zO
  simpa using this
theorem Xq(a b:AP):∃y,Ek a b=some y∧(!(decide (y<0)))=decide (b.id≤a.id):=by
 obtain⟨y,h1,h2⟩:=VV a b
 refine⟨y,h1,?_⟩
 rw[h2,Bool.eq_iff_iff]
 simp only[Bool.not_eq_true',decide_eq_false_iff_not,decide_eq_true_eq]
 exact⟨KC,fun h h'=>fP h' h⟩
theorem bN(n:Nat):∀(f:Nat) (A X Y9 B:List AP) (p1 p2 p3:Int),X≠[]→Y9≠[]→X.length+Y9.length≤f→X.length+Y9.length+1<n→p1=(A.length:Int)→p2=((A.length+X.length:Nat):Int)→p3=((A.length+X.length+Y9.length:Nat):Int)→
  (A++X++Y9++B).length≤JX→Je X→Je Y9→∃Z9,Z9.Perm (X++Y9)∧Je Z9∧O9 n f (A++X++Y9++B) p1 p2 p3=some (A++Z9++B)
 | 0,A,X,Y9,B,p1,p2,p3,hX,hY,hf,hn,h1,h2,h3,hlen,hsX,hsY=>absurd (List.length_eq_zero_iff.1 zO) hX
 | f+1,A,X,Y9,B,p1,p2,p3,hX,hY,hf,hn,h1,h2,h3,hlen,hsX,hsY=>by
  have hX1:=List.length_pos_iff.2 hX
  have hY1:=List.length_pos_iff.2 hY
  have hb:=hlen
  unfold JX at hb
  simp only[List.length_append]at hb
  have gX:∀i,i<X.length→Ao (A++X++Y9++B) ((A.length+i:Nat):Int)=some (X.getD i LZ):=fun i hi=>by
   rw[CF LZ rfl zQ,List.append_assoc (A++X),jU hi]
  have gY:∀i,i<Y9.length→Ao (A++X++Y9++B) ((A.length+X.length+i:Nat):Int)=some (Y9.getD i LZ):=fun i hi=>by
   rw[CF LZ rfl zQ,qf hi]
  have e21:wI (p2-p1)=(X.length:Int):=by rw[h1,h2,A8 zO zO];omega
  have e32:wI (p3-p2)=(Y9.length:Int):=by rw[h3,h2,A8 zO zO];omega
  show ∃Z9,Z9.Perm (X++Y9)∧Je Z9∧ZM (O9 n f) n _ _ _ _=_
  unfold ZM
  rw[e21]
  by_cases hx1:X.length=1
  
  obtain⟨x,rfl⟩:=List.length_eq_one_iff.1 hx1
  rw[zt zS,Be]
  simp only[List.length_singleton]at*
  obtain⟨s,b1,b2,b3,b4,b5⟩:=X8 (F:=fun nx ww=>MI n (A++[x]++Y9++B) p1 nx ww.1 ww.2) (z:=fun i=>Qc n (A++[x]++Y9++B) p1 (i:Int))
   (fun c=>decide ((Y9.getD (c-(A.length+1)) LZ).id<x.id)) (A.length+1) (A.length+1+Y9.length) (fun i j hi hij hj nx=>by
    obtain⟨y,hy,hlt⟩:=VV (Y9.getD ((i+j) / 2-(A.length+1)) LZ) x
    have g:=gY ((i+j) / 2-(A.length+1)) zO
    rw[show A.length+1+((i+j) / 2-(A.length+1))=(i+j) / 2 by omega]at g
    have gx:=gX 0 zO
    simp only[MI]
    rw[zt zO,Be,A9,show(i:Int)+(j:Int)=((i+j:Nat):Int) by omega,VA zO,g,U,h1,show(A.length:Int)=((A.length+0:Nat):Int)from rfl,gx,U]
    rw[show([x]:List AP).getD 0 LZ=x from rfl,hy,U,hlt,A9,A8 zO zO]
    rfl) (fun i nx _ _=>by
    simp only[MI]
    rw[zf zO,BD]) (fun c d hc hcd hd ht=>by
    rw[decide_eq_true_eq]at ht ⊢
    exact hC (Mm hsY zO zO) ht) zO
  refine⟨Y9.take (s-(A.length+1))++x::Y9.drop (s-(A.length+1)),?_,?_,?_⟩
  refine List.perm_middle.trans ?_
  rw[List.take_append_drop]
  exact List.Perm.refl _
  refine I3.2 ⟨List.Pairwise.sublist (List.take_sublist ..) hsY,List.pairwise_cons.2 ⟨fun y hy=>?_,List.Pairwise.sublist (List.drop_sublist ..) hsY⟩,fun u hu w hw=>?_⟩
  obtain⟨i,hi,rfl⟩:=List.getElem_of_mem hy
  simp only[List.length_drop]at hi
  have:=b4 s zO zO
  rw[decide_eq_false_iff_not]at this
  have h5:=KC this
  rw[List.getElem_drop]
  have h6:=Mm hsY (i:=s-(A.length+1)) (j:=s-(A.length+1)+i) zO zO
  rw[Jr (show s-(A.length+1)+i<Y9.length by omega)]at h6
  exact Fy h5 h6
  obtain⟨i,hi,rfl⟩:=List.getElem_of_mem hu
  simp only[List.length_take]at hi
  have:=b3 (A.length+1+i) zO zO
  rw[decide_eq_true_eq,Nat.add_sub_cancel_left,Jr zO]at this
  rw[List.getElem_take]
  rcases List.mem_cons.1 hw with rfl | hw
  exact Tc this
  obtain⟨k,hk,rfl⟩:=List.getElem_of_mem hw
  simp only[List.length_drop]at hk
  rw[List.getElem_drop]
  exact List.pairwise_iff_getElem.1 hsY i (s-(A.length+1)+k) zO zO zO
  have e2:p2=((A.length+1:Nat):Int):=h2
  have e3:p3=((A.length+1+Y9.length:Nat):Int):=h3
  have hb5:=b5 n zO
  unfold S5
  rw[e2,e3,hb5]
  unfold Qc
  have:=aF (Y9.drop (s-(A.length+1))++B) x (s:Int) (Y9.take (s-(A.length+1))) A zQ (by unfold JX;simp;omega) n zQ
  rw[h1,show A++[x]++Y9++B=A++x::Y9.take (s-(A.length+1))++(Y9.drop (s-(A.length+1))++B) by
   conv=>lhs;rw[←List.take_append_drop (s-(A.length+1)) Y9]
   simp only[List.append_assoc,List.cons_append,List.nil_append],this]
  simp
  rw[zf zO,BD]
  unfold S4
  rw[e32]
  by_cases hy1:Y9.length=1
  
  obtain⟨y,rfl⟩:=List.length_eq_one_iff.1 hy1
  rw[zt zS,Be]
  simp only[List.length_singleton]at*
  obtain⟨s,b1,b2,b3,b4,b5⟩:=X8 (F:=fun nx ww=>MG n p2 (A++X++[y]++B) nx ww.1 ww.2) (z:=fun i=>P8 n p2 (A++X++[y]++B) (i:Int))
   (fun c=>decide ((X.getD (c-A.length) LZ).id≤y.id)) A.length (A.length+X.length) (fun i j hi hij hj nx=>by
    obtain⟨u,hu,hlt⟩:=Xq y (X.getD ((i+j) / 2-A.length) LZ)
    have g:=gX ((i+j) / 2-A.length) zO
    rw[show A.length+((i+j) / 2-A.length)=(i+j) / 2 by omega]at g
    have gy:=gY 0 zO
    simp only[MG]
    rw[zt zO,Be,A9,show(i:Int)+(j:Int)=((i+j:Nat):Int) by omega,VA zO,h2,show((A.length+X.length:Nat):Int)=((A.length+X.length+0:Nat):Int)from rfl,gy,U,g,U]
    rw[show([y]:List AP).getD 0 LZ=y from rfl,hu,U,hlt,A9,A8 zO zO]
    rfl) (fun i nx _ _=>by
    simp only[MG]
    rw[zf zO,BD]) (fun c d hc hcd hd ht=>by
    rw[decide_eq_true_eq]at ht ⊢
    exact Fy (Mm hsX zO zO) ht) zO
  refine⟨X.take (s-A.length)++y::X.drop (s-A.length),?_,?_,?_⟩
  refine List.perm_middle.trans ?_
  rw[List.take_append_drop]
  exact(List.perm_append_singleton y X).symm
  refine I3.2 ⟨List.Pairwise.sublist (List.take_sublist ..) hsX,List.pairwise_cons.2 ⟨fun w hw=>?_,List.Pairwise.sublist (List.drop_sublist ..) hsX⟩,fun u hu w hw=>?_⟩
  obtain⟨i,hi,rfl⟩:=List.getElem_of_mem hw
  simp only[List.length_drop]at hi
  have:=b4 (s+i) zO zO
  rw[decide_eq_false_iff_not,show s+i-A.length=s-A.length+i by omega,Jr (show s-A.length+i<X.length by omega)]at this
  rw[List.getElem_drop]
  rw[UInt64.le_iff_toNat_le]at*
  omega
  obtain⟨i,hi,rfl⟩:=List.getElem_of_mem hu
  simp only[List.length_take]at hi
  have:=b3 (A.length+i) zO zO
  rw[decide_eq_true_eq,Nat.add_sub_cancel_left,Jr zO]at this
  rw[List.getElem_take]
  rcases List.mem_cons.1 hw with rfl | hw
  exact this
  obtain⟨k,hk,rfl⟩:=List.getElem_of_mem hw
  simp only[List.length_drop]at hk
  rw[List.getElem_drop]
  exact List.pairwise_iff_getElem.1 hsX i (s-A.length+k) zO zO zO
  have hb5:=b5 n zO
  unfold Sm
  rw[h1]
  conv=>lhs;rw[show p2=((A.length+X.length:Nat):Int)from h2]
  rw[h2]at hb5
  rw[hb5]
  unfold P8
  have:=fC (A++X.take (s-A.length)) y (A.length+X.length-s) (X.drop (s-A.length)) B zQ (by unfold JX;simp;omega) n zO
  rw[show(A++X.take (s-A.length)).length=s by simp;omega]at this
  rw[show s+(A.length+X.length-s)=A.length+X.length by omega]at this
  rw[show A++X++[y]++B=A++X.take (s-A.length)++X.drop (s-A.length)++y::B by
   conv=>lhs;rw[←List.take_append_drop (s-A.length) X]
   simp only[List.append_assoc,List.cons_append,List.nil_append],this]
  simp
  rw[zf zO,BD]
  
  obtain⟨a,ha⟩:∃a,a=A.length:=⟨_,rfl⟩
  obtain⟨m,hm⟩:∃m,m=A.length+X.length:=⟨_,rfl⟩
  obtain⟨b,hbb⟩:∃b,b=A.length+X.length+Y9.length:=⟨_,rfl⟩
  obtain⟨mid,hmid⟩:∃mid,mid=(a+b) / 2:=⟨_,rfl⟩
  obtain⟨lo,hi,hlh⟩:∃lo hi:Nat,(mid<m∧lo=mid+m-b∧hi=mid)∨(m≤mid∧lo=a∧hi=m):=by
   rcases Nat.lt_or_ge mid m with h | h
   exact⟨_,_,.inl ⟨h,rfl,rfl⟩⟩
   exact⟨_,_,.inr ⟨h,rfl,rfl⟩⟩
  rw[←ha]at h1
  rw[←hm]at h2
  rw[←hbb]at h3
  have hj4:QB n p1 p2 p3 (O9 n f) (A++X++Y9++B)=OV n p1 p2 p3 (O9 n f) (A++X++Y9++B) (mid:Int) ((mid+m:Nat):Int) (lo:Int) (hi:Int):=by
   unfold QB
   rw[A9,A9,h1,h2,h3,show(a:Int)+(b:Int)=((a+b:Nat):Int) by omega,VA zO,←hmid,A8 (x:=(mid:Int)+_) zO zO,show(mid:Int)+(m:Int)=((mid+m:Nat):Int) by omega]
   rcases hlh with⟨h5,rfl,rfl⟩ | ⟨h5,rfl,rfl⟩
   rw[zt zO,Be,A9,A8 zO zO]
   congr 1
   omega
   rw[zf zO,BD]
  rw[hj4]
  clear hj4
  unfold OV
  rw[A9,A8 zO zO]
  have hloa:a≤lo:=zO
  have hlh2:lo≤hi:=zO
  have him:hi≤m:=zO
  have hpb:∀c,lo≤c→c<hi→m≤mid+m-1-c∧mid+m-1-c<b:=by
   intro c h5 h6
   omega
  obtain⟨s,b1,b2,b3,b4,b5⟩:=X8 (F:=fun nx ww=>ME n p1 p2 p3 (O9 n f) (A++X++Y9++B) (mid:Int) ((mid+m:Nat):Int) (((mid+m:Nat):Int)-1) nx ww.1 ww.2)
   (z:=fun i=>OT n p1 p2 p3 (O9 n f) (A++X++Y9++B) (mid:Int) ((mid+m:Nat):Int) (i:Int))
   (fun c=>decide ((X.getD (c-a) LZ).id≤(Y9.getD (mid+m-1-c-m) LZ).id)) lo hi (fun i j hi1 hij hj nx=>by
    have hpp:=hpb ((i+j) / 2) zO zO
    obtain⟨u,hu,hlt⟩:=Xq (Y9.getD (mid+m-1-(i+j) / 2-m) LZ) (X.getD ((i+j) / 2-a) LZ)
    have g:=gX ((i+j) / 2-a) zO
    rw[show A.length+((i+j) / 2-a)=(i+j) / 2 by omega]at g
    have gy:=gY (mid+m-1-(i+j) / 2-m) zO
    rw[show A.length+X.length+(mid+m-1-(i+j) / 2-m)=mid+m-1-(i+j) / 2 by omega]at gy
    simp only[ME]
    rw[zt zO,Be,A9,show(i:Int)+(j:Int)=((i+j:Nat):Int) by omega,VA zO,A8 (x:=((mid+m:Nat):Int)-1-_) zO zO,show((mid+m:Nat):Int)-1-(((i+j) / 2:Nat):Int)=((mid+m-1-(i+j) / 2:Nat):Int) by omega,gy,U,g,U]
    rw[hu,U,hlt,A9,A8 zO zO]
    rfl) (fun i nx _ _=>by
    simp only[ME]
    rw[zf zO,BD]) (fun c d hc hcd hd ht=>by
    rw[decide_eq_true_eq]at ht ⊢
    have hp1:=hpb c hc zO
    have hp2:=hpb d zO hd
    refine Fy (Mm hsX (show c-a≤d-a by omega) zO) (Fy ht (Mm hsY zO zO))) hlh2
  have hb5:=b5 n zO
  unfold TF
  rw[hb5]
  clear hb5 b5
  obtain⟨e,he⟩:∃e,e=mid+m-s:=⟨_,rfl⟩
  have hem:m≤e:=zO
  have heb:e≤b:=zO
  have hx12:X=X.take (s-a)++X.drop (s-a):=(List.take_append_drop ..).symm
  have hy12:Y9=Y9.take (e-m)++Y9.drop (e-m):=(List.take_append_drop ..).symm
  have lX1:(X.take (s-a)).length=s-a:=by simp;omega
  have lX2:(X.drop (s-a)).length=m-s:=by simp;omega
  have lY1:(Y9.take (e-m)).length=e-m:=by simp;omega
  have lY2:(Y9.drop (e-m)).length=b-e:=by simp;omega
  have q1:∀u∈X.take (s-a),∀w∈Y9.drop (e-m),u.id≤w.id:=by
   intro u hu w hw
   obtain⟨i,hi,rfl⟩:=List.getElem_of_mem hu
   obtain⟨k,hk,rfl⟩:=List.getElem_of_mem hw
   rw[lX1]at hi
   rw[lY2]at hk
   rw[List.getElem_take,List.getElem_drop]
   have hs1:lo<s:=zO
   have:=b3 (s-1) zO zO
   rw[decide_eq_true_eq]at this
   have h6:=Mm hsX (i:=i) (j:=s-1-a) zO zO
   have h7:=Mm hsY (i:=mid+m-1-(s-1)-m) (j:=e-m+k) zO zO
   rw[Jr (show i<X.length by omega)]at h6
   rw[Jr (show e-m+k<Y9.length by omega)]at h7
   exact Fy h6 (Fy this h7)
  have q2:∀u∈Y9.take (e-m),∀w∈X.drop (s-a),u.id≤w.id:=by
   intro u hu w hw
   obtain⟨i,hii,rfl⟩:=List.getElem_of_mem hu
   obtain⟨k,hk,rfl⟩:=List.getElem_of_mem hw
   rw[lY1]at hii
   rw[lX2]at hk
   rw[List.getElem_take,List.getElem_drop]
   have hs1:s<hi:=zO
   have:=b4 s zO hs1
   rw[decide_eq_false_iff_not]at this
   have h6:=Mm hsY (i:=i) (j:=mid+m-1-s-m) zO zO
   have h7:=Mm hsX (i:=s-a) (j:=s-a+k) zO zO
   rw[Jr (show i<Y9.length by omega)]at h6
   rw[Jr (show s-a+k<X.length by omega)]at h7
   refine Fy h6 (Fy ?_ h7)
   rw[UInt64.le_iff_toNat_le]at*
   omega
  clear b3 b4
  generalize X.take (s-a)=X1 at*
  generalize X.drop (s-a)=X2 at*
  generalize Y9.take (e-m)=Y1 at*
  generalize Y9.drop (e-m)=Y2 at*
  subst hx12 hy12
  have sX:=I3.1 hsX
  have sY:=I3.1 hsY
  simp only[List.length_append]at*
  have hj8:OT n p1 p2 p3 (O9 n f) (A++(X1++X2)++(Y1++Y2)++B) (mid:Int) ((mid+m:Nat):Int) (s:Int)=NL p1 p3 (O9 n f) (mid:Int) (s:Int) (e:Int) (A++(X1++Y1)++(X2++Y2)++B):=by
   unfold OT
   rw[A9,A8 zO zO,show((mid+m:Nat):Int)-(s:Int)=(e:Int) by omega,h2]
   by_cases hc:s<m∧m<e
   rw[zt zO,zt zO]
   simp only[Bool.and_self,Be]
   have:=od (n:=n) (A++X1) X2 Y1 (Y2++B) (p1:=(s:Int)) (p2:=(m:Int)) (p3:=(e:Int)) (List.length_pos_iff.1 zO) (List.length_pos_iff.1 zO) zO zQ zQ zQ (by unfold JX;simp;omega)
   rw[show A++(X1++X2)++(Y1++Y2)++B=A++X1++X2++Y1++(Y2++B) by simp,this,U]
   congr 1
   simp
   rw[show(decide ((s:Int)<(m:Int))&&decide ((m:Int)<(e:Int)))=false by
    simp only[Bool.and_eq_false_iff,decide_eq_false_iff_not]
    omega,BD]
   congr 1
   by_cases hc1:s<m
   have:Y1=[]:=List.length_eq_zero_iff.1 zO
   subst this
   simp
   have:X2=[]:=List.length_eq_zero_iff.1 zO
   subst this
   simp
  rw[hj8]
  clear hj8
  obtain⟨Z1,z1,z2,z3⟩:∃Z1,Z1.Perm (X1++Y1)∧Je Z1∧NL p1 p3 (O9 n f) (mid:Int) (s:Int) (e:Int) (A++(X1++Y1)++(X2++Y2)++B)=L6 p3 (O9 n f) (mid:Int) (e:Int) (A++Z1++(X2++Y2)++B):=by
   unfold NL
   by_cases hc:a<s∧s<mid
   obtain⟨Z1,z1,z2,z3⟩:=bN n f A X1 Y1 ((X2++Y2)++B) p1 (s:Int) (mid:Int) (List.length_pos_iff.1 zO) (List.length_pos_iff.1 zO) zO zO zO zO zO (by unfold JX;simp;omega) sX.1 sY.1
   refine⟨Z1,z1,z2,?_⟩
   rw[zt zO,zt zO]
   simp only[Bool.and_self,Be]
   rw[show A++(X1++Y1)++(X2++Y2)++B=A++X1++Y1++((X2++Y2)++B) by simp,z3,U]
   congr 1
   simp
   refine⟨X1++Y1,List.Perm.refl _,?_,?_⟩
   by_cases hc1:a<s
   have:Y1=[]:=List.length_eq_zero_iff.1 zO
   subst this
   simpa using sX.1
   have:X1=[]:=List.length_eq_zero_iff.1 zO
   subst this
   simpa using sY.1
   rw[show(decide (p1<(s:Int))&&decide ((s:Int)<(mid:Int)))=false by
    simp only[Bool.and_eq_false_iff,decide_eq_false_iff_not]
    omega,BD]
  rw[z3]
  clear z3
  have lZ1:Z1.length=mid-a:=by
   rw[z1.length_eq]
   simp
   omega
  obtain⟨Z2,y1,y2,y3⟩:∃Z2,Z2.Perm (X2++Y2)∧Je Z2∧L6 p3 (O9 n f) (mid:Int) (e:Int) (A++Z1++(X2++Y2)++B)=some (A++Z1++Z2++B):=by
   unfold L6
   by_cases hc:mid<e∧e<b
   obtain⟨Z2,y1,y2,y3⟩:=bN n f (A++Z1) X2 Y2 B (mid:Int) (e:Int) p3 (List.length_pos_iff.1 zO) (List.length_pos_iff.1 zO) zO zO zQ zQ zQ (by unfold JX;simp;omega) sX.2.1 sY.2.1
   refine⟨Z2,y1,y2,?_⟩
   rw[zt zO,zt zO]
   simp only[Bool.and_self,Be]
   rw[show A++Z1++(X2++Y2)++B=A++Z1++X2++Y2++B by simp,y3,U]
   refine⟨X2++Y2,List.Perm.refl _,?_,?_⟩
   by_cases hc1:mid<e
   have:Y2=[]:=List.length_eq_zero_iff.1 zO
   subst this
   simpa using sX.2.1
   have:X2=[]:=List.length_eq_zero_iff.1 zO
   subst this
   simpa using sY.2.1
   rw[show(decide ((mid:Int)<(e:Int))&&decide ((e:Int)<p3))=false by
    simp only[Bool.and_eq_false_iff,decide_eq_false_iff_not]
    omega,BD]
  rw[y3]
  refine⟨Z1++Z2,?_,?_,by simp⟩
  refine(z1.append y1).trans ?_
  rw[List.append_assoc,List.append_assoc]
  refine List.Perm.append_left X1 ?_
  rw[←List.append_assoc,←List.append_assoc]
  exact List.Perm.append_right Y2 List.perm_append_comm
  refine I3.2 ⟨z2,y2,fun u hu w hw=>?_⟩
  have hu:=z1.mem_iff.1 hu
  have hw:=y1.mem_iff.1 hw
  rcases List.mem_append.1 hu with hu | hu<;>rcases List.mem_append.1 hw with hw | hw
  exact sX.2.2 u hu w hw
  exact q1 u hu w hw
  exact q2 u hu w hw
  exact sY.2.2 u hu w hw
inductive SB (bs:Nat):List AP→Prop
 | last (S:List AP):S.length≤bs→Je S→SB bs S
 | more (S R:List AP):S.length=bs→Je S→SB bs R→SB bs (S++R)
theorem SB.one{bs:Nat}{l:List AP}(h:SB bs l)(hl:l.length≤bs):Je l:=by
 cases h with
 | last _ _ hs=>exact hs
 | more S R hS hs hR=>
  have:R=[]:=List.length_eq_zero_iff.1 (by simp at hl;omega)
  subst this
  simpa using hs
theorem f6{n bs:Nat}(hbs:0<bs)(N:Nat)(hN:N+2≤n)(hNb:N+4*bs≤JX):∀(k:Nat) (D R:List AP),R.length≤k→D.length+R.length=N→SB bs R→
  ∃R',R'.Perm R∧SB (2*bs) R'∧∀(nx:List AP×Int→Option (List AP)) (m:Nat),k<m→Hm n (N:Int) (bs:Int) nx m (D++R,(D.length:Int),((D.length+2*bs:Nat):Int))=Kh (bs:Int) nx (D++R'):=by
 unfold JX at hNb
 intro k
 induction k with
 | zero=>
  intro D R hk hN' h
  have hR:R=[]:=List.length_eq_zero_iff.1 zO
  subst hR
  refine⟨[],List.Perm.refl _,.last [] zS List.Pairwise.nil,fun nx m hm=>?_⟩
  obtain⟨m,rfl⟩:∃k,m=k+1:=⟨m-1,by omega⟩
  simp at hN'
  show E3 _ _ _ _ (Hm _ _ _ _ m) _ _ _=_
  unfold E3
  dsimp only
  rw[zf zO,BD]
  unfold NB
  rw[A9,A8 zO zO,zf zO,BD]
 | succ k ih=>
  intro D R hk hN' h
  
  have two:∀(S T U9:List AP),S.length=bs→T≠[]→D.length+S.length+T.length+U9.length=N→Je S→Je T→∃Z9,Z9.Perm (S++T)∧Je Z9∧f7 n (D++(S++(T++U9))) (D.length:Int) ((D.length+bs:Nat):Int) ((D.length+bs+T.length:Nat):Int)=some (D++(Z9++U9)):=by
   intro S T U9 hS hT hl h1 h2
   have hTp:=List.length_pos_iff.2 hT
   obtain⟨Z9,a1,a2,a3⟩:=bN n n D S T U9 (D.length:Int) ((D.length+bs:Nat):Int) ((D.length+bs+T.length:Nat):Int) (List.length_pos_iff.1 zO) hT zO zO rfl (by rw[hS]) (by rw[hS]) (by unfold JX;simp;omega) h1 h2
   refine⟨Z9,a1,a2,?_⟩
   have:f7 n=O9 n n:=rfl
   rw[this]
   simpa using a3
  have big3:∀(S T U9:List AP),S.length=bs→T.length=bs→R=S++(T++U9)→Je S→Je T→SB bs U9→∃R',R'.Perm R∧SB (2*bs) R'∧∀(nx:List AP×Int→Option (List AP)) (m:Nat),k+1<m→Hm n (N:Int) (bs:Int) nx m (D++R,(D.length:Int),((D.length+2*bs:Nat):Int))=Kh (bs:Int) nx (D++R'):=by
   intro S T U9 hS hT hR h1 h2 h3
   subst hR
   simp only[List.length_append]at hk hN'
   obtain⟨Z9,a1,a2,a3⟩:=two S T U9 hS (List.length_pos_iff.1 zO) zO h1 h2
   have hZ:Z9.length=2*bs:=by rw[a1.length_eq];simp;omega
   obtain⟨U',u1,u2,u3⟩:=ih (D++Z9) U9 zO zQ h3
   refine⟨Z9++U',?_,.more Z9 U' hZ a2 u2,fun nx m hm=>?_⟩
   refine(a1.append u1).trans ?_
   simp
   obtain⟨m,rfl⟩:∃k,m=k+1:=⟨m-1,by omega⟩
   show E3 _ _ _ _ (Hm _ _ _ _ m) _ _ _=_
   unfold E3
   dsimp only
   rw[zt zO,Be,A8 (x:=(D.length:Int)+_) zO zO,show(D.length:Int)+(bs:Int)=((D.length+bs:Nat):Int) by omega,show((D.length+2*bs:Nat):Int)=((D.length+bs+T.length:Nat):Int) by omega,a3,U,A9,A8 (x:=2*(bs:Int)) zO zO,A8 zO zO]
   have:=u3 nx m zO
   rw[show(D++Z9).length=D.length+bs+T.length by simp;omega]at this
   rw[show((D.length+bs+T.length:Nat):Int)+2*(bs:Int)=((D.length+bs+T.length+2*bs:Nat):Int) by omega]
   simpa using this
  
  have fin:∀(S T:List AP),S.length=bs→T.length<bs→R=S++T→Je S→Je T→∃R',R'.Perm R∧SB (2*bs) R'∧∀(nx:List AP×Int→Option (List AP)) (m:Nat),k+1<m→Hm n (N:Int) (bs:Int) nx m (D++R,(D.length:Int),((D.length+2*bs:Nat):Int))=Kh (bs:Int) nx (D++R'):=by
   intro S T hS hT hR h1 h2
   subst hR
   simp only[List.length_append]at hk hN'
   by_cases hT0:T=[]
   subst hT0
   refine⟨S++[],List.Perm.refl _,.last _ zQ (by simpa using h1),fun nx m hm=>?_⟩
   obtain⟨m,rfl⟩:∃k,m=k+1:=⟨m-1,by omega⟩
   simp only[List.length_nil]at*
   show E3 _ _ _ _ (Hm _ _ _ _ m) _ _ _=_
   unfold E3
   dsimp only
   rw[zf zO,BD]
   unfold NB
   rw[A9,A8 zO zO,zf zO,BD]
   obtain⟨Z9,a1,a2,a3⟩:=two S T [] hS hT0 zQ h1 h2
   have hTp:=List.length_pos_iff.2 hT0
   refine⟨Z9,a1,.last Z9 (by rw[a1.length_eq];simp;omega) a2,fun nx m hm=>?_⟩
   obtain⟨m,rfl⟩:∃k,m=k+1:=⟨m-1,by omega⟩
   show E3 _ _ _ _ (Hm _ _ _ _ m) _ _ _=_
   unfold E3
   dsimp only
   rw[zf zO,BD]
   unfold NB
   rw[A9,A8 zO zO,zt zO,Be,show(D.length:Int)+(bs:Int)=((D.length+bs:Nat):Int) by omega,show(N:Int)=((D.length+bs+T.length:Nat):Int) by omega]
   simp only[List.append_nil]at a3
   rw[a3,U]
  cases h with
  | last S hl hs=>
   by_cases hlt:R.length<bs
   refine⟨R,List.Perm.refl _,.last R zO hs,fun nx m hm=>?_⟩
   obtain⟨m,rfl⟩:∃k,m=k+1:=⟨m-1,by omega⟩
   show E3 _ _ _ _ (Hm _ _ _ _ m) _ _ _=_
   unfold E3
   dsimp only
   rw[zf zO,BD]
   unfold NB
   rw[A9,A8 zO zO,zf zO,BD]
   exact fin R [] zO (by simpa using hbs) zS hs List.Pairwise.nil
  | more S R1 hS hs hR=>
   cases hR with
   | last T hl ht=>
    by_cases hlt:R1.length<bs
    exact fin S R1 hS hlt rfl hs ht
    exact big3 S R1 [] hS zO zS hs ht (.last [] zS List.Pairwise.nil)
   | more T U9 hT ht hU=>exact big3 S T U9 hS hT rfl hs ht hU
theorem bU{n:Nat}(N:Nat)(hN:2*N+2≤n)(hNb:6*N≤1073741824):∀(k bs:Nat) (l:List AP),0<bs→N-bs≤k→l.length=N→SB bs l→∃l',l'.Perm l∧Je l'∧∀m,k<m→GK n (N:Int) m (l,(bs:Int))=some l':=by
 intro k
 induction k with
 | zero=>
  intro bs l hbs hk hl h
  refine⟨l,List.Perm.refl _,h.one zO,fun m hm=>?_⟩
  obtain⟨m,rfl⟩:∃k,m=k+1:=⟨m-1,by omega⟩
  show IA _ _ (GK _ _ m) _ _=_
  unfold IA
  dsimp only
  rw[zf zO,BD]
 | succ k ih=>
  intro bs l hbs hk hl h
  by_cases hlt:bs<N
  obtain⟨R',r1,r2,r3'⟩:=f6 (n:=n) hbs N zO (by unfold JX;omega) N [] l zO (by simp[hl]) h
  have r3:∀(nx:List AP×Int→Option (List AP)) (m:Nat),N<m→Hm n (N:Int) (bs:Int) nx m (l,0,((2*bs:Nat):Int))=Kh (bs:Int) nx R':=fun nx m hm=>by
   have:=r3' nx m hm
   simpa using this
  obtain⟨l',b1,b2,b3⟩:=ih (2*bs) R' zO zO (by rw[r1.length_eq,hl]) r2
  refine⟨l',b1.trans r1,b2,fun m hm=>?_⟩
  obtain⟨m,rfl⟩:∃k,m=k+1:=⟨m-1,by omega⟩
  show IA _ _ (GK _ _ m) _ _=_
  unfold IA
  dsimp only
  rw[zt zO,Be,A9,A8 zO zO,show(2:Int)*(bs:Int)=((2*bs:Nat):Int) by omega,r3 _ n zO]
  unfold Kh
  rw[A9,A8 zO zO,show(bs:Int)*2=((2*bs:Nat):Int) by omega]
  exact b3 m zO
  refine⟨l,List.Perm.refl _,h.one zO,fun m hm=>?_⟩
  obtain⟨m,rfl⟩:∃k,m=k+1:=⟨m-1,by omega⟩
  show IA _ _ (GK _ _ m) _ _=_
  unfold IA
  dsimp only
  rw[zf zO,BD]
theorem Zn{n:Nat}(N:Nat)(hN:2*N+60≤n)(hNb:6*N+1000≤1073741824):∀(k:Nat) (D R:List AP),R.length≤k→D.length+R.length=N→
  ∃R',R'.Perm R∧SB 20 R'∧∀m,k<m→NG n (N:Int) m (D++R,(D.length:Int),((D.length+20:Nat):Int))=GK n (N:Int) n (D++R',20):=by
 have one:∀(D R:List AP),R.length<20→D.length+R.length=N→∃R',R'.Perm R∧SB 20 R'∧∀m,0<m→NG n (N:Int) m (D++R,(D.length:Int),((D.length+20:Nat):Int))=GK n (N:Int) n (D++R',20):=by
  intro D R hR hl
  obtain⟨R',a1,a2,a3⟩:=jf (n:=n) D R [] zO (by unfold JX;simp;omega)
  refine⟨R',a1,.last R' (by rw[a1.length_eq];omega) a2,fun m hm=>?_⟩
  obtain⟨m,rfl⟩:∃k,m=k+1:=⟨m-1,by omega⟩
  show KN _ _ (NG _ _ m) _ _ _=_
  unfold KN
  dsimp only
  rw[zf zO,BD]
  unfold Su
  simp only[List.append_nil]at a3
  rw[show(N:Int)=((D.length+R.length:Nat):Int) by omega,a3,U]
 intro k
 induction k with
 | zero=>
  intro D R hk hl
  obtain⟨R',a1,a2,a3⟩:=one D R zO hl
  exact⟨R',a1,a2,fun m hm=>a3 m hm⟩
 | succ k ih=>
  intro D R hk hl
  by_cases hR:R.length<20
  obtain⟨R',a1,a2,a3⟩:=one D R hR hl
  exact⟨R',a1,a2,fun m hm=>a3 m zO⟩
  obtain⟨S,U9,rfl,hS⟩:∃S U9,R=S++U9∧S.length=20:=⟨R.take 20,R.drop 20,(List.take_append_drop ..).symm,by simp;omega⟩
  simp only[List.length_append]at*
  obtain⟨S',a1,a2,a3⟩:=jf (n:=n) D S U9 zO (by unfold JX;simp;omega)
  have hS':S'.length=20:=by rw[a1.length_eq,hS]
  obtain⟨U',u1,u2,u3⟩:=ih (D++S') U9 zO zQ
  refine⟨S'++U',a1.append u1,.more S' U' hS' a2 u2,fun m hm=>?_⟩
  obtain⟨m,rfl⟩:∃k,m=k+1:=⟨m-1,by omega⟩
  show KN _ _ (NG _ _ m) _ _ _=_
  unfold KN
  dsimp only
  rw[hS]at a3
  rw[zt zO,Be,←List.append_assoc,a3,U,A9,A8 zO zO]
  have:=u3 m zO
  rw[show(D++S').length=D.length+20 by simp[hS']]at this
  simpa using this
theorem Tk{n:Nat}(l:List AP)(hn:2*l.length+60≤n)(hb:l.length≤1048576):∃l',l'.Perm l∧Je l'∧Xl n l=some l':=by
 obtain⟨R',a1,a2,a3⟩:=Zn (n:=n) l.length hn zO l.length [] l (Nat.le_refl _) zS
 obtain⟨l',b1,b2,b3⟩:=bU (n:=n) l.length zO zO l.length 20 R' zO zO a1.length_eq a2
 refine⟨l',b1.trans a1,b2,?_⟩
 unfold Xl c8
 have h1:=a3 n zO
 have h2:=b3 n zO
 simp only[List.nil_append,List.length_nil,Nat.zero_add]at h1
 rw[show((0:Nat):Int)=0 from rfl]at h1
 rw[show((20:Nat):Int)=20 from rfl]at h1 h2
 rw[h1,h2]
 rfl
end

section
def Uk(T:List UInt32)(v:Bs)(d:BM)(seg:List BG):Prop:=∀s∈seg,HF T v d ⟨s.page,s.tag⟩=some (s.txt,0)∧DY ⟨s.page,s.tag⟩=true
theorem Uk.left{T:List UInt32}{v:Bs}{d:BM}{a b:List BG}(h:Uk T v d (a++b)):Uk T v d a:=fun s hs=>h s (List.mem_append_left _ hs)
theorem Uk.right{T:List UInt32}{v:Bs}{d:BM}{a b:List BG}(h:Uk T v d (a++b)):Uk T v d b:=fun s hs=>h s (List.mem_append_right _ hs)
variable {n:Nat}{T:List UInt32}{v:Bs}{d:BM}
def V5(x:BR):List Ac:=if Jt ⟨x.npage,x.ntag⟩=true then x.kids else x.kids++[⟨x.npage,x.ntag⟩]
theorem PN{x:BR}(h:CL x=true):x.rows.length≤4∧x.kids.length≤4:=by
 by_cases hk:x.kind=1
 obtain⟨h1,h2,h3,h4,h5,h6,h7⟩:=EL h hk
 rw[h4]
 exact⟨h5,by simp⟩
 obtain⟨hk2,h1,h2,h3,h4,h5,h6,h7,h8⟩:=Dr h hk
 rw[h2]
 exact⟨by simp,h6⟩
theorem T6{rec_:Em→Bs→BM→Ac→Option (Int×Em)}{x:Em}{P:BR}{r:Ac}(hn:10≤n)(h:CL P=true)(hrd:HF T v d r=some (Cj P,0))(h0:0≤x.count)(hc:x.count<2100)(hb:x.rows.length≤100000):
  Pm rec_ n T x v d r=Ho v d r rec_ (Cj P,0) (V5 P) n ({ x with rows:=x.rows++P.rows,count:=x.count+1 },0):=by
 obtain⟨l1,l2⟩:=PN h
 unfold Pm
 rw[zf zO,BD,hrd,U,show(!decide ((0:Int)=0))=false from rfl,BD,Rl hn h,U,show(!decide ((0:Int)=0))=false from rfl,BD]
 dsimp only
 rw[CB zO zO,U]
 unfold V5 Jt QA
 rw[Bool.and_true,A8 zO zO]
 by_cases hno:(decide (P.npage=0)&&decide (P.ntag=[]))=true
 rw[hno,Bool.not_true,BD,if_pos rfl]
 have hno':(decide (P.npage=0)&&decide (P.ntag=[]))=false:=by simpa using hno
 rw[hno',Bool.not_false,Be,CB zQ zQ,U,if_neg zD]
theorem UA{rec_:Em→Bs→BM→Ac→Option (Int×Em)}{R:Bc→List BG→Ac→Prop}{lv:Bc→List AP}{rr:Ac}{y1:List UInt8×Int}{rs:List Ac}{M:Nat}
(hrec:∀(k:Bc) (s:List BG) (r:Ac) (x:Em),R k s r→Uk T v d s→s.length≤M→0≤x.count→x.count+s.length≤2100→x.out.length+s.length≤100000→x.rows.length+4*s.length≤100000→rec_ x v d r=some (0,⟨x.out++s,x.rows++lv k,x.count+s.length⟩)∧(lv k).length≤4*s.length):
  ∀(ks:List Bc) (seg:List BG) (rest done:List Ac) (x:Em),aY R ks seg rest→rs=done++rest→Uk T v d seg→seg.length≤M→rs.length≤1000→0≤x.count→x.count+seg.length≤2100→x.out.length+seg.length≤100000→x.rows.length+4*seg.length≤100000→
   (ks.map lv).flatten.length≤4*seg.length∧∀m,ks.length<m→Ho v d rr rec_ y1 rs m (x,(done.length:Int))=MC rr y1 ⟨x.out++seg,x.rows++(ks.map lv).flatten,x.count+seg.length⟩
 | [],seg,rest,done,x,h,hrs,hrd,hM,hr,h0,hc,ho,hw=>by
  obtain⟨rfl,rfl⟩:=h
  refine⟨by simp,fun m hm=>?_⟩
  obtain⟨m,rfl⟩:∃k,m=k+1:=⟨m-1,by omega⟩
  show D6 v d rr rec_ y1 rs (Ho v d rr rec_ y1 rs m) x _=_
  unfold D6
  rw[hrs,zf zS,BD]
  simp
 | k::ks,seg,rest,done,x,h,hrs,hrd,hM,hr,h0,hc,ho,hw=>by
  obtain⟨s1,r1,s2,rs',h1,h2,rfl,rfl⟩:=h
  simp only[List.length_append]at hM hc ho hw
  have hl:rs.length=done.length+(rs'.length+1):=by rw[hrs];simp
  obtain⟨e1,e2⟩:=hrec k s1 r1 x h1 hrd.left zO h0 zO zO zO
  obtain⟨e3,e4⟩:=UA hrec ks s2 rs' (done++[r1]) ⟨x.out++s1,x.rows++lv k,x.count+s1.length⟩ h2 (by rw[hrs];simp) hrd.right zO hr (by simp only;omega) (by simp only;omega) zQ zQ
  refine⟨by simp only[List.map_cons,List.flatten_cons,List.length_append];omega,fun m hm=>?_⟩
  obtain⟨m,rfl⟩:∃k,m=k+1:=⟨m-1,by omega⟩
  have n1:Ao rs (done.length:Int)=some r1:=by
   rw[EF rfl,hrs]
   simp
  show D6 v d rr rec_ y1 rs (Ho v d rr rec_ y1 rs m) x _=_
  unfold D6
  rw[zt zO,Be,n1,U,e1,U,show(!decide ((0:Int)=0))=false from rfl,BD,A8 zO zO]
  have:=e4 m (by simp at hm;omega)
  rw[show((done++[r1]).length:Int)=(done.length:Int)+1 by simp only[List.length_append,List.length_singleton];omega]at this
  rw[this]
  congr 1
  simp only[List.map_cons,List.flatten_cons,List.append_assoc,List.length_append,Em.mk.injEq,true_and]
  omega
theorem TZ.snoc:∀ {ls:List (List AP)} {l:List AP} {r0 r:Ac} {seg:List BG} ,TZ (ls++[l]) r0 seg r→∃seg' r1,TZ ls r0 seg' r1∧CL (MX l r1)=true∧seg=seg'++[⟨Cj (MX l r1),r.page,r.tag⟩]
 | [],l,r0,seg,r,h=>by
  obtain⟨r1,seg',h1,rfl,h2,rfl⟩:=h
  subst h2
  exact⟨[],r0,⟨rfl,rfl⟩,h1,rfl⟩
 | a::ls,l,r0,seg,r,h=>by
  obtain⟨r1,seg',h1,rfl,h2⟩:=h
  obtain⟨seg2,r2,h3,h4,rfl⟩:=TZ.snoc h2
  exact⟨_::seg2,r2,⟨r1,seg2,h1,rfl,h3⟩,h4,rfl⟩
theorem TZ.last:∀ {ls:List (List AP)} {r0 r:Ac} {seg:List BG} ,TZ ls r0 seg r→(ls=[]∧r=r0)∨∃s∈seg,(⟨s.page,s.tag⟩:Ac)=r
 | [],_,_,_,h=>.inl ⟨rfl,h.2⟩
 | a::ls,r0,seg,r,h=>by
  obtain⟨r1,seg',h1,rfl,h2⟩:=h
  rcases TZ.last h2 with⟨rfl,rfl⟩ | ⟨s,hs,e⟩
  exact .inr ⟨_,List.mem_cons_self ..,rfl⟩
  exact .inr ⟨s,List.mem_cons_of_mem _ hs,e⟩
theorem Vc{rr:Ac}{s:List UInt8}{e:Int}{x:Em}(h:x.out.length≤100000):MC rr (s,e) x=some (0,⟨x.out++[⟨s,rr.page,rr.tag⟩],x.rows,x.count⟩):=by
 unfold MC
 rw[CB zQ zQ,U]
theorem YC(hn:10≤n):∀(m:Nat) (ls:List (List AP)) (seg:List BG) (r:Ac) (x:Em),ls≠[]→TZ ls ⟨0,[]⟩ seg r→Uk T v d seg→seg.length≤m→0≤x.count→x.count+seg.length≤2100→x.out.length+seg.length≤100000→x.rows.length+4*seg.length≤100000→
  QR n T m x v d r=some (0,⟨x.out++seg,x.rows++ls.reverse.flatten,x.count+seg.length⟩)∧ls.reverse.flatten.length≤4*seg.length
 | 0,ls,seg,r,x,hne,h,hrd,hm,h0,hc,ho,hw=>by
  have:=h.len
  have:=List.length_pos_iff.2 hne
  omega
 | m+1,ls,seg,r,x,hne,h,hrd,hm,h0,hc,ho,hw=>by
  obtain⟨ls,l,rfl⟩:∃S0 z,ls=S0++[z]:=⟨_,_,(List.dropLast_concat_getLast hne).symm⟩
  obtain⟨seg',r1,h1,h2,rfl⟩:=h.snoc
  simp only[List.length_append,List.length_singleton]at hm hc ho hw
  have hrd1:=(hrd ⟨Cj (MX l r1),r.page,r.tag⟩ zS).1
  have hl4:=(PN h2).1
  simp only at hl4
  have e0:=T6 (n:=n) (rec_:=QR n T m) (x:=x) (r:=r) hn h2 hrd1 h0 zO zO
  show Pm (QR n T m) n T x v d r=_∧_
  rw[e0]
  rcases h1.last with⟨rfl,rfl⟩ | ⟨s,hs,es⟩
  obtain⟨rfl,_⟩:=h1
  have hon:V5 (MX l ⟨0,[]⟩)=[]:=if_pos rfl
  rw[hon]
  have hloop:=UA (T:=T) (v:=v) (d:=d) (rec_:=QR n T m) (R:=fun _ _ _=>False) (lv:=fun _=>[]) (rr:=r) (y1:=(Cj (MX l ⟨0,[]⟩),0)) (rs:=[]) (M:=0) (fun k s r x hR=>hR.elim) [] [] [] [] { x with rows:=x.rows++l,count:=x.count+1 } ⟨rfl,rfl⟩ rfl (fun s hs=>by simp at hs) zS zS (by simp only;omega) zQ zQ zQ
  have:=hloop.2 n zQ
  simp only[List.length_nil]at this
  rw[show((0:Nat):Int)=0 from rfl]at this
  rw[this,Vc zQ]
  constructor
  simp
  simpa using hl4
  have hok:=(hrd s (List.mem_append_left _ hs)).2
  rw[es]at hok
  have hne1:ls≠[]:=by
   intro e
   subst e
   rw[h1.1]at hs
   simp at hs
  have hon:V5 (MX l r1)=[r1]:=by
   unfold V5
   have:Jt ⟨r1.page,r1.tag⟩=false:=by
    have h5:=(Du hok).1
    unfold Jt
    simp only[Bool.and_eq_false_iff,decide_eq_false_iff_not]
    right
    intro e
    have e:r1.tag=[]:=e
    rw[e]at h5
    simp at h5
   rw[this,if_neg zD]
   rfl
  rw[hon]
  obtain⟨e1,e2⟩:=YC hn m ls seg' r1 { x with rows:=x.rows++l,count:=x.count+1 } hne1 h1 hrd.left zO (by simp only;omega) (by simp only;omega) (by simp only;omega) zQ
  obtain⟨n,rfl⟩:∃k,n=k+1:=⟨n-1,by omega⟩
  obtain⟨n,rfl⟩:∃k,n=k+1:=⟨n-1,by omega⟩
  show D6 v d r (QR (n+1+1) T m) (Cj (MX l r1),0) [r1] (Ho v d r (QR (n+1+1) T m) (Cj (MX l r1),0) [r1] (n+1)) _ 0=_∧_
  unfold D6
  rw[show decide ((0:Int)<(([r1]:List Ac).length:Int))=true from rfl,Be,show Ao [r1] 0=some r1 from rfl,U,e1,U,show(!decide ((0:Int)=0))=false from rfl,BD,show wI (0+1)=1 from rfl]
  show D6 v d r (QR (n+1+1) T m) (Cj (MX l r1),0) [r1] (Ho v d r (QR (n+1+1) T m) (Cj (MX l r1),0) [r1] n) _ 1=_∧_
  unfold D6
  rw[show decide ((1:Int)<(([r1]:List Ac).length:Int))=false from rfl,BD,Vc zQ]
  constructor
  congr 2
  simp only[List.reverse_append,List.reverse_cons,List.reverse_nil,List.nil_append,List.singleton_append,List.flatten_cons,List.append_assoc,List.length_append,List.length_singleton,Em.mk.injEq,true_and]
  omega
  simp only[List.reverse_append,List.reverse_cons,List.reverse_nil,List.nil_append,List.singleton_append,List.flatten_cons,List.length_append,List.length_singleton]
  omega
theorem YU(hn:1010≤n):∀(f:Nat) (t:Bc) (seg:List BG) (r:Ac) (x:Em) (m:Nat),RR f t seg r→Uk T v d seg→seg.length≤m→0≤x.count→x.count+seg.length≤2100→x.out.length+seg.length≤100000→x.rows.length+4*seg.length≤100000→
  QR n T m x v d r=some (0,⟨x.out++seg,x.rows++Zl f t,x.count+seg.length⟩)∧(Zl f t).length≤4*seg.length
 | 0,_,_,_,_,_,h,_,_,_,_,_,_=>h.elim
 | f+1,t,seg,r,x,m,h,hrd,hm,h0,hc,ho,hw=>by
  obtain⟨⟨b1,b2⟩,h⟩:=h
  rcases h with⟨h1,h2⟩ | ⟨h1,segs,rs,h2,h3,rfl⟩
  have hne:(Jv t.rows).reverse≠[]:=by
   intro e
   have:=congrArg List.length e
   rw[List.length_reverse,PJ,List.length_nil]at this
   omega
  have:=YC (n:=n) zO m (Jv t.rows).reverse seg r x hne h2 hrd hm h0 hc ho hw
  rw[List.reverse_reverse,d7]at this
  rw[Zl,if_pos (by rw[h1];rfl)]
  exact this
  have hk0:=List.length_pos_iff.2 h1
  simp only[List.length_append,List.length_singleton]at hm hc ho hw
  obtain⟨m,rfl⟩:∃k,m=k+1:=⟨m-1,by omega⟩
  have hrd1:=(hrd ⟨Cj (NZ t rs),r.page,r.tag⟩ zS).1
  have e0:=T6 (n:=n) (rec_:=QR n T m) (x:=x) (r:=r) zO h3 hrd1 h0 zO zO
  show Pm (QR n T m) n T x v d r=_∧_
  have hon:V5 (NZ t rs)=rs:=if_pos rfl
  have hl4:=(PN h3).2
  simp only at hl4
  obtain⟨e3,e4⟩:=UA (T:=T) (v:=v) (d:=d) (rec_:=QR n T m) (R:=RR f) (lv:=Zl f) (rr:=r) (y1:=(Cj (NZ t rs),0)) (rs:=rs) (M:=m) (fun k s r x hR hrd hM h0 hc ho hw=>YU hn f k s r x m hR hrd hM h0 hc ho hw) t.kids segs rs [] { x with rows:=x.rows++[],count:=x.count+1 } h2 rfl hrd.left zO zO (by simp only;omega) (by simp only;omega) (by simp only;omega) zQ
  have e5:=e4 n zO
  simp only[List.length_nil]at e5
  rw[show((0:Nat):Int)=0 from rfl]at e5
  rw[Zl,if_neg zO,e0,hon]
  rw[show({ x with rows:=x.rows++(NZ t rs).rows,count:=x.count+1 }:Em)={ x with rows:=x.rows++[],count:=x.count+1 }from rfl,e5,Vc zQ]
  constructor
  congr 2
  simp only[List.append_assoc,List.append_nil,List.length_append,List.length_singleton,Em.mk.injEq,true_and]
  omega
  simp only[List.length_append,List.length_singleton]
  omega
end

section
theorem Zr{R:List AP→Bc→Prop}{lv:Bc→List AP}{xs:List (List AP)}{ks:List Bc}(h:R5 R xs ks)(hR:∀x k,R x k→(lv k).Perm x):(ks.map lv).flatten.Perm xs.flatten:=by
 induction h with
 | nil=>exact List.Perm.refl _
 | cons h1 _ ih=>
  simp only[List.map_cons,List.flatten_cons]
  exact(hR _ _ h1).append ih
theorem Tr.leaves:∀ {f:Nat} {l:List AP} {t:Bc} ,Tr f l t→(Zl f t).Perm l
 | 0,_,_,h=>h.elim
 | f+1,l,t,h=>by
  rcases h with⟨rfl,rfl⟩ | ⟨_,c,L,A,⟨_,rfl⟩ | ⟨h4,hL,ks,rfl,hk⟩⟩
  exact List.Perm.refl _
  exact List.Perm.refl _
  have hkl:=hk.length
  have hq2:=(PI A hL).1
  rw[Zl,if_neg (by simp only[Bc.kids];omega)]
  exact(Zr (lv:=Zl f) hk fun x k hT=>Tr.leaves hT).trans (Wj L l)
theorem Qj:∀(l l':List AP),(l.Pairwise fun a b=>a.id<b.id)→l'.Perm l→Je l'→l'=l
 | [],l',_,hp,_=>List.perm_nil.1 hp
 | a::t,l',hl,hp,hs=>by
  rcases l' with _ | ⟨b,t'⟩
  exact absurd hp.length_eq zS
  obtain⟨h1,h2⟩:=List.pairwise_cons.1 hl
  obtain⟨h3,h4⟩:=List.pairwise_cons.1 hs
  have hba:b.id≤a.id:=by
   have:a∈b::t':=hp.mem_iff.2 zS
   rcases List.mem_cons.1 this with e | e
   rw[e];exact UInt64.le_refl _
   exact h3 a e
  have hb:b∈a::t:=hp.mem_iff.1 zS
  rcases List.mem_cons.1 hb with rfl | hb
  rw[Qj t t' h2 hp.cons_inv h4]
  exact(fP (h1 b hb) hba).elim
theorem TZ.lastE:∀ {ls:List (List AP)} {r0 r:Ac} {seg:List BG} ,ls≠[]→TZ ls r0 seg r→∃a s,seg=a++[⟨s,r.page,r.tag⟩]
 | [],_,_,_,h,_=>absurd rfl h
 | l::ls,r0,seg,r,_,h=>by
  obtain⟨r1,seg',h1,rfl,h2⟩:=h
  rcases ls with _ | ⟨l2,ls⟩
  obtain⟨rfl,rfl⟩:=h2
  exact⟨[],_,rfl⟩
  obtain⟨a,s,rfl⟩:=TZ.lastE zS h2
  exact⟨_::a,s,rfl⟩
theorem RR.lastE{f:Nat}{t:Bc}{seg:List BG}{r:Ac}(h:RR f t seg r):∃a s,seg=a++[⟨s,r.page,r.tag⟩]:=by
 cases f with
 | zero=>exact h.elim
 | succ f=>
  rcases h.2 with⟨_,h2⟩ | ⟨_,segs,rs,_,_,rfl⟩
  refine TZ.lastE ?_ h2
  intro e
  have:=congrArg List.length e
  rw[List.length_reverse,PJ,List.length_nil]at this
  omega
  exact⟨segs,_,rfl⟩
theorem nB{a:List BG}{s:List UInt8}{r:Ac}(hb:a.length≤1000000):Jk (a++[⟨s,r.page,r.tag⟩])=some r:=by
 unfold Jk
 rw[zf zQ,BD]
 have e:wI (((a++[(⟨s,r.page,r.tag⟩:BG)]).length:Int)-1)=(a.length:Int):=by
  simp only[List.length_append,List.length_singleton]
  rw[A8 zO zO]
  omega
 rw[e,EF rfl]
 simp
theorem gD(r:Ac):ZQ r r=true:=by simp[ZQ]
theorem ee{L:List BG}(hb:L.length≤100000):∀(seg pre rest:List BG),L=pre++seg++rest→N8 (RV L) (pre.length:Int) seg ((pre.length+seg.length:Nat):Int)
 | [],pre,rest,_=>by simp[N8]
 | s::seg,pre,rest,h=>by
  have hl:L.length=pre.length+(seg.length+1)+rest.length:=by rw[h];simp;omega
  have n1:Ao L (pre.length:Int)=some s:=by
   rw[EF rfl,h]
   simp
  refine⟨((pre.length+1:Nat):Int),?_,?_⟩
  unfold RV
  rw[zf zO,n1]
  simp only[OF,BD,U,decide_true,Bool.not_true]
  rw[A8 (x:=(pre.length:Int)+1) zO zO,A8 zO zO,Int.add_sub_cancel,n1,U]
  rfl
  have:=ee hb seg (pre++[s]) rest (by rw[h];simp)
  simp only[List.length_append,List.length_cons,List.length_nil,Nat.zero_add]at this ⊢
  rw[show pre.length+(seg.length+1)=pre.length+1+seg.length by omega]
  exact this
theorem nn{n:Nat}{T:List UInt32}{v:Bs}{d:BM}{l:List AP}{t:Bc}{seg:List BG}{r:Ac}(hn:2110≤n)(hl:Cx l=true)(hb:Ke n l=some (t,0))(hT:Tr n l t)(hR:RR n t seg r)(hrd:Uk T v d seg)(hs:seg.length≤2000):
  Qi n T v d r=some (l,seg,0):=by
 have hl':=hl
 unfold Cx at hl'
 simp only[Bool.and_eq_true,decide_eq_true_eq]at hl'
 obtain⟨e1,e2⟩:=YU (n:=n) (T:=T) (v:=v) (d:=d) zO n t seg r ⟨[],[],0⟩ n hR hrd zO zS zQ zQ zQ
 have hp:=hT.leaves
 obtain⟨l',s1,s2,s3⟩:=Tk (n:=n) (Zl n t) (by rw[hp.length_eq];omega) (by rw[hp.length_eq];omega)
 have hll:l'=l:=Qj l l' ((Ng l).1 hl'.1.2) (s1.trans hp) s2
 subst hll
 have hpath:=ee (L:=seg) zO seg [] [] zS
 have hnode:=ZN (n:=n) (wh:=RV seg) zO n (o:=[]) hR hpath zQ
 unfold Qi
 rw[e1,U]
 rw[show(!decide ((0:Int)=0))=false from rfl,BD]
 simp only[List.nil_append]
 rw[s3,U,hb,U]
 simp only[List.length_nil,Nat.zero_add,List.nil_append]at hnode
 rw[show(!decide ((0:Int)=0))=false from rfl,BD]
 have hnode':FH n (RV seg) n t ⟨[],0⟩ 0=some (r,(⟨seg,0⟩,(seg.length:Int))):=hnode
 dsimp only
 rw[hnode',U]
 simp only[gD]
 simp
end



section
theorem aD{n:Int}(h0:0≤n)(h1:n≤1048576):Dl n=some (List.replicate n.toNat 0):=by
 unfold Dl UV
 rw[if_pos ⟨h0,by omega,by omega⟩,U]
def VY(d:BM):Bool := !(d.isCut&&decide (d.lasts=0)||d.off)
def UH(d:BM):BM:={ d with lasts:=if d.isCut then wI (d.lasts-1)else d.lasts,counts:=wI (d.counts+1) }
def V2(d:BM):BM:={ d with off:=true }
theorem kp(d:BM):Fg d=some (if VY d then(0,UH d)else(71,V2 d)):=by
 obtain⟨off,isCut,lasts,counts,bl,pd,bd,rc,rt,rb⟩:=d
 unfold Fg Ec Ei
 by_cases h0:lasts=0<;>cases off<;>cases isCut<;>simp[VY,UH,V2,h0]
def gO(d:BM)(r:BM):Int×BM:=if VY d then(0,r)else(71,V2 d)
theorem W6(d:BM)(p:UInt32):Ob d p=some (decide (p.toNat<d.blocks.length)):=by
 unfold Ob
 rw[A9]
 congr 1
 simp
theorem af{d:BM}{p:UInt32}{s:List UInt8}(hp:p.toNat<d.blocks.length)(hs:s.length=256)(hm:d.pend.length<9223372036854775807):Hv d p s=some (gO d { UH d with pend:=J6 d.pend p s }):=by
 unfold Hv KS
 rw[W6,U,A9,zt hp,hs]
 simp only[kp,U]
 cases h:VY d
 simp[gO,h,V2]
 simp only[gO,h,if_true]
 have:(UH d).pend=d.pend:=rfl
 simp[Pp,this,hm]
theorem iW{d:BM}{p:UInt32}{s:List UInt8}(hp:¬(p.toNat<d.blocks.length)∨s.length≠256):Hv d p s=some (2,d):=by
 unfold Hv
 rw[W6,U,A9]
 have:((!decide (p.toNat<d.blocks.length)) || !decide ((s.length:Int)=256))=true:=by
  rcases hp with hp | hp
  simp[hp]
  have:¬((s.length:Int)=256):=zO
  simp[this]
 rw[this,Be]
def K9(d:BM)(p:UInt32):List UInt8:=(D1 d.pend p).getD (d.blocks.getD p.toNat [])
theorem kr{d:BM}{p:UInt32}(hp:p.toNat<d.blocks.length):No d p=some (K9 d p):=by
 unfold No K9
 rw[A9,A9]
 cases h:D1 d.pend p with
 | some s=>simp
 | none=>
  rw[Ft,List.getElem?_eq_getElem hp]
  simp[hp]
theorem Xc{d:BM}{p:UInt32}(hp:p.toNat<d.blocks.length):Fr d p=some (if d.off then([],71)else if(D1 d.bad p).getD false then([],70)else(K9 d p,0)):=by
 unfold Fr
 rw[W6,U,A9,zt hp,kr hp]
 cases d.off
 cases h:(D1 d.bad p).getD false<;>simp[A9,h]
 simp
theorem bB{d:BM}{p:UInt32}(hp:¬p.toNat<d.blocks.length):Fr d p=some ([],2):=by
 unfold Fr
 rw[W6,U,A9,zf hp]
 rfl
theorem Xr{l:List UInt32}{N:Nat}(hn:l.Nodup)(h:∀k∈l,k.toNat<N):l.length≤N:=by
 have h1:(l.map UInt32.toNat).Nodup:=by
  rw[List.nodup_iff_pairwise_ne,List.pairwise_map]
  exact hn.imp fun hne e=>hne (UInt32.toNat_inj.1 e)
 have:=Q3 (l':=List.range N) h1 (fun a ha=>by
  obtain⟨k,hk,rfl⟩:=List.mem_map.1 ha
  exact List.mem_range.2 (h k hk))
 simpa using this
theorem jR{n:Int}(h1:4≤n)(h2:n≤4096):LN n=some (some { off:=false,isCut:=false,lasts:=0,counts:=0,blocks:=List.replicate n.toNat (List.replicate 256 0),pend:=[],bad:=[],rcnt:=0,rtag:=List.replicate 32 0,rboots:=0 },0):=by
 unfold LN O6 ci
 have e:(decide (n<4)||decide (4096<n))=false:=by simp;omega
 rw[e,BD]
 simp only[U]
 rw[if_pos zS,U,if_pos zS,U,if_pos ⟨by omega,by omega⟩,U]
 rfl
theorem jG{d r:BM}(h:VY d=true):gO d r=(0,r):=by simp[gO,h]
theorem nm{d r:BM}(h:VY d=false):gO d r=(71,V2 d):=by simp[gO,h]
end



section
theorem Y0(l:List BT)(hl:l.length≤1048576){n:Nat}(hm:16<n):HI n l=some (DW l):=by
 unfold HI DW
 by_cases h16:l.length≤16
 rw[show decide (16<(l.length:Int))=false by simp;omega,show decide (l.length≤16)=true by simp[h16]]
 simp only[BD,Bool.true_and]
 unfold KE
 refine(congrArg (Bu _ n) ?_).trans ((kF (fun i=>(KO l i,(i:Int))) (fun i=>some (((LC l).drop i).all (·.2))) l.length (fun i hi k hk=>?_) (fun k=>?_) zO).trans ?_)
 rfl
 have ei:((i+1:Nat):Int)=(i:Int)+1:=zO
 have st:(LC l).drop i=((l.getD i Gq).gen,Nz l i)::(LC l).drop (i+1):=by
  rw[List.drop_eq_getElem_cons (by rw[Pn];exact hi)]
  congr 1
  exact zI ((List.getElem?_eq_getElem _).symm.trans (Tw l i hi))
 dsimp only at hk ⊢
 rw[st,List.all_cons]
 simp only[Gf,show decide ((i:Int)<(l.length:Int))=true by simp;omega,Be]
 rw[CF (k:=i) Gq rfl hi,U,U]
 have hko:Nz l i = !((decide ((l.getD i Gq).gen≤KO l i))||(!decide (((l.getD i Gq).secret.length:Int)=32))):=by
  unfold Nz
  rw[Bool.not_or,Bool.not_not]
  congr 1
  rw[Bool.eq_iff_iff]
  simp[UInt32.not_le]
 generalize hg:(decide ((l.getD i Gq).gen≤KO l i))=p at hko
 generalize (!decide (((l.getD i Gq).secret.length:Int)=32))=q at hko
 have ho:OF p (some q)=some (p||q):=by cases p<;>rfl
 rw[ho,U,hko]
 cases hpq:(p||q)with
 | true=>simp only[Be,Bool.not_true,Bool.false_and]
 | false=>
  simp only[BD,Bool.not_false,Bool.true_and]
  rw[U,A9,A8 zO zO,←ei]
  exact hk
 simp only[Gf,show decide ((l.length:Int)<(l.length:Int))=false by simp,BD,J3]
 rw[List.drop_of_length_le (by rw[Pn];exact Nat.le_refl _)]
 rfl
 simp
 rw[show decide (16<(l.length:Int))=true by simp;omega,show decide (l.length≤16)=false by simp;omega]
 rfl
theorem W3(l:List BT)(g:UInt32)(hl:l.length≤1048576){n:Nat}(hm:16<n):IT n l g=some (C0 l g):=by
 unfold IT
 rw[Y0 l hl hm,U]
 cases hr:DW l with
 | false=>
  simp only[Bool.not_false,Be]
  unfold C0
  rw[if_pos hr]
  rfl
 | true=>
  simp only[Bool.not_true,BD]
  have h16:=((Np l).1 hr).1
  unfold K0
  have hno:(∀k∈l,k.gen≠g)→C0 l g=(Gq,41):=fun h=>by
   unfold C0
   rw[if_neg (by simp[hr])]
   split
   rename_i k hk
   rw[if_neg (h k (List.mem_of_getElem? hk))]
   rfl
  refine(congrArg (Bu _ n) ?_).trans (aH (fun i=>((0:UInt32),([]:List UInt8),(i:Int))) (fun i=>∀k∈l.take i,k.gen≠g) l.length (fun i hi hp k hk=>?_) (fun hp k=>?_) zS zO)
  rfl
  have ei:((i+1:Nat):Int)=(i:Int)+1:=zO
  have hgi:l[i]? = some (l.getD i Gq):=Iv Gq hi
  dsimp only at hk ⊢
  simp only[HB,show decide ((i:Int)<(l.length:Int))=true by simp;omega,Be]
  rw[CF (k:=i) Gq rfl hi,U]
  by_cases hg:(l.getD i Gq).gen=g
  rw[show decide ((l.getD i Gq).gen=g)=true by simp only[hg,decide_true]]
  simp only[Be]
  rw[U,aI.2 ⟨hr,List.mem_of_getElem? hgi,hg⟩]
  rw[show decide ((l.getD i Gq).gen=g)=false by simp only[hg,decide_false]]
  simp only[BD]
  rw[A9,A8 zO zO,←ei]
  refine hk fun k' hk'=>?_
  rw[List.take_add_one,hgi]at hk'
  rcases List.mem_append.1 hk' with h | h
  exact hp k' h
  simp only[Option.toList_some,List.mem_singleton]at h
  rw[h];exact hg
  simp only[HB,show decide ((l.length:Int)<(l.length:Int))=false by simp,BD,Kj]
  rw[List.take_length]at hp
  rw[hno hp]
  rfl
end

section
def ig(a b c d:UInt8):UInt32:=((a.toUInt32 ||| shl32 b.toUInt32 8) ||| shl32 c.toUInt32 16) ||| shl32 d.toUInt32 24
def Ih(b:List UInt8):UInt32:=ig (b.getD 0 0) (b.getD 1 0) (b.getD 2 0) (b.getD 3 0)
theorem SI(b:UInt8)(k:Nat)(h:k≤24):(shl32 b.toUInt32 k).toNat=b.toNat*2^k:=by
 have h1:=b.toNat_lt
 simp only[shl32,UInt32.toNat_ofNat',Nat.min_eq_left (show k≤32 by omega),UInt8.toNat_toUInt32]
 refine Nat.mod_eq_of_lt ?_
 calc b.toNat*2^k<2^8*2^k:=Nat.mul_lt_mul_of_pos_right h1 (Nat.two_pow_pos k)
  _=2^(8+k):=(Nat.pow_add 2 8 k).symm
  _≤2^32:=Nat.pow_le_pow_right zD zO
theorem dd{u v k:Nat}(h:u<2^k):u ||| v*2^k=u+v*2^k:=by
 rw[Nat.or_comm,Nat.mul_comm,←Nat.two_pow_add_eq_or_of_lt h,Nat.add_comm]
theorem YA(a b c d:UInt8):(ig a b c d).toNat=a.toNat+b.toNat*2^8+c.toNat*2^16+d.toNat*2^24:=by
 have ha:=a.toNat_lt
 have hb:=b.toNat_lt
 have hc:=c.toNat_lt
 unfold ig
 rw[UInt32.toNat_or,UInt32.toNat_or,UInt32.toNat_or,SI _ 8 zD,SI _ 16 zD,SI _ 24 zD,UInt8.toNat_toUInt32]
 rw[dd (u:=a.toNat) (k:=8) zO,dd (k:=16) zO,dd (k:=24) zO]
theorem eE(x:UInt32)(r:List UInt8):Ih (BA x.toUInt64 4++r)=x:=by
 apply UInt32.toNat_inj.1
 have hx:=x.toNat_lt
 unfold Ih
 rw[YA]
 simp only[Nu _ 4 _ (show 0<4 by decide),Nu _ 4 _ (show 1<4 by decide),Nu _ 4 _ (show 2<4 by decide),Nu _ 4 _ (show 3<4 by decide),UInt64.toNat_toUInt8]
 rw[JD _ _ zD,JD _ _ zD,JD _ _ zD,JD _ _ zD]
 simp only[UInt32.toNat_toUInt64]
 omega
theorem fJ(T:List UInt32)(k:BT)(h:B7)(s:List UInt8):Ih (I5 T k h s)=h.page:=by
 rw[I5,I9,Rw]
 simp only[List.append_assoc]
 exact eE _ _
theorem jL{b:List UInt8}(h:b.length=256):Ta b=some (b.drop 224):=by
 unfold Ta
 rw[if_pos zO,h]
theorem oU{T:List UInt32}{v:Bs}{d:BM}{p:UInt32}{tag b:List UInt8}(hr:Fr d p=some (b,0))(hb:b.length=256)(hl:v.ring.length≤1099511627776):
  M5 T v d p tag=some (if b.drop 224=tag∧Ih b=p then Fq T v.ring b else(D8,[],61)):=by
 unfold M5
 have g:∀i:Nat,i<4→Ao b (i:Int)=some (b.getD i 0):=fun i hi=>CF 0 rfl zO
 have g0:=g 0 zO
 have g1:=g 1 zO
 have g2:=g 2 zO
 have g3:=g 3 zO
 rw[hr,U]
 show(Ao b 0).bind _=_
 rw[show Ao b 0=some (b.getD 0 0)from g0,U,show Ao b 1=some (b.getD 1 0)from g1,U,show Ao b 2=some (b.getD 2 0)from g2,U,show Ao b 3=some (b.getD 3 0)from g3,U,A9,jL hb,U]
 change cond (!decide (b.drop 224=tag) || !decide (Ih b=p)) _ _=_
 by_cases h:b.drop 224=tag∧Ih b=p
 rw[if_pos h,zt h.1,zt h.2]
 unfold X0
 rw[if_pos ⟨hl,by show b.length≤_;omega⟩]
 rfl
 rw[if_neg h]
 have:(!decide (b.drop 224=tag) || !decide (Ih b=p))=true:=by
  simp only[Bool.or_eq_true,Bool.not_eq_true',decide_eq_false_iff_not]
  exact Classical.not_and_iff_not_or_not.1 h
 rw[this]
 rfl
theorem gj{r:Ac}(h1:2≤r.page.toNat)(h2:r.tag.length=32):EM r=some true:=by
 unfold EM
 have e1:decide ((2:UInt32)≤r.page)=true:=by rw[decide_eq_true_eq,UInt32.le_iff_toNat_le];exact h1
 have e2:decide ((r.tag.length:Int)=32)=true:=by rw[decide_eq_true_eq];omega
 rw[e1,e2]
 rfl
theorem nr{T:List UInt32}{v:Bs}{d:BM}{r:Ac}{b:List UInt8}(h1:2≤r.page.toNat)(h2:r.tag.length=32)(hr:Fr d r.page=some (b,0))(hb:b.length=256)(hl:v.ring.length≤1099511627776):
  HF T v d r=some (if b.drop 224=r.tag∧Ih b=r.page then(Fq T v.ring b).2 else([],61)):=by
 unfold HF
 rw[gj h1 h2,U,A9]
 unfold Nt
 rw[oU hr hb hl]
 simp only[U,Bool.not_true,BD]
 split<;>rfl
abbrev hd(v:Bs)(p:UInt32):B7:=⟨p,v.gen,v.boot,v.seals⟩
structure fL(N c:Nat)(d:BM):Prop where
 blen:d.blocks.length=N
 nle:N≤4096
 on:d.off=false
 uncut:d.isCut=false
 good:d.bad=[]
 plen:d.pend.length≤c
 cle:c≤100
theorem fL.write{N c:Nat}{d:BM}(D:fL N c d)(hc:c+1≤100){p:UInt32}{b:List UInt8}(hp:p.toNat<N)(hb:b.length=256):
  Hv d p b=some (0,{ d with counts:=wI (d.counts+1),pend:=J6 d.pend p b })∧fL N (c+1) { d with counts:=wI (d.counts+1),pend:=J6 d.pend p b }:=by
 have h0:VY d=true:=by simp[VY,D.on,D.uncut]
 constructor
 rw[af (by rw[D.blen];exact hp) hb (by have:=D.plen;have:=D.cle;omega),jG h0]
 simp[UH,D.uncut]
 refine⟨D.blen,D.nle,D.on,D.uncut,D.good,?_,hc⟩
 have:(Ib d.pend p).length≤d.pend.length:=List.length_filter_le ..
 have:=D.plen
 show(Ib d.pend p).length+1≤c+1
 omega
theorem fL.read{N c:Nat}{d:BM}(D:fL N c d){p:UInt32}(hp:p.toNat<N):Fr d p=some (K9 d p,0):=by
 rw[Xc (by rw[D.blen];exact hp),D.on,D.good]
 rfl
theorem aW{d:BM}{p q:UInt32}{b:List UInt8}{c:Int}:K9 { d with counts:=c,pend:=J6 d.pend p b } q=if p=q then b else K9 d q:=by
 unfold K9
 rw[S8]
 split<;>rfl
theorem ku{T:List UInt32}{l:List BT}{h:B7}{s:List UInt8}{k:BT}(hl:l.length≤1099511627776)(hk:C0 l h.gen=(k,0))(hs:s.length≤198):Vw T l h s=some (I5 T k h s,0):=by
 unfold Vw FS
 rw[if_pos ⟨hl,by omega⟩,hk]
 simp
 omega
theorem lO{T:List UInt32}{v:Bs}{d:BM}{N c:Nat}{k:BT}{p:UInt32}{s:List UInt8}(D:fL N c d)(hc:c+1≤100)(hl:v.ring.length≤1099511627776)(hk:C0 v.ring v.gen=(k,0))(hp:p.toNat<N)(hs:s.length≤198):
  L7 T v d p s=some ((I5 T k (hd v p) s).drop 224,0,{ v with seals:=v.seals+1 },{ d with counts:=wI (d.counts+1),pend:=J6 d.pend p (I5 T k (hd v p) s) }):=by
 unfold L7
 have hb:=OE T k (hd v p) hs
 rw[ku (h:=hd v p) hl hk hs,U,(D.write hc hp hb).1]
 simp only[U,jL hb]
 rfl
theorem YR(v:Bs):∀(k i:Nat),(∀x,i≤x→x<i+k→Dp v (UInt32.ofNat x)=true)→EZ v i k=[]
 | 0,i,_=>rfl
 | k+1,i,h=>by
  rw[EZ,if_pos (h i (Nat.le_refl _) zO)]
  exact YR v k (i+1) fun x h1 h2=>h x zO zO
theorem d6(v:Bs)(j:Nat)(hj:Dp v (UInt32.ofNat j)=false):∀(k i:Nat),i≤j→j<i+k→(∀x,i≤x→x<j→Dp v (UInt32.ofNat x)=true)→EZ v i k=[UInt32.ofNat j]
 | 0,i,h1,h2,_=>by omega
 | k+1,i,h1,h2,h=>by
  by_cases e:i=j
  subst e
  rw[EZ,if_neg (by rw[hj];decide)]
  rw[EZ,if_pos (h i (Nat.le_refl _) zO)]
  exact d6 v j hj k (i+1) zO zO fun x h1 h2=>h x zO zO
theorem kV{T:List UInt32}{v:Bs}{d:BM}{N c j:Nat}{k:BT}{s:List UInt8}(D:fL N c d)(hc:c+1≤100)(hl:v.ring.length≤1099511627776)(hk:C0 v.ring v.gen=(k,0))(hs:s.length≤198)
(h2:2≤j)(hj:j<N)(hfree:Dp v (UInt32.ofNat j)=false)(htk:∀x,2≤x→x<j→Dp v (UInt32.ofNat x)=true)(ht:v.taken.length≤100):
  GC T v d s=some (⟨UInt32.ofNat j,(I5 T k (hd v (UInt32.ofNat j)) s).drop 224⟩,0,{ v with seals:=v.seals+1,taken:=J6 v.taken (UInt32.ofNat j) true },{ d with counts:=wI (d.counts+1),pend:=J6 d.pend (UInt32.ofNat j) (I5 T k (hd v (UInt32.ofNat j)) s) }):=by
 have hN:=D.nle
 have hjn:(UInt32.ofNat j).toNat=j:=by simp;omega
 unfold GC Xx RA
 rw[A9,zf zO,BD,U,D.blen,if_pos zO,U,d6 v j hfree (N-2) 2 h2 zO htk]
 show F5 T v d s (UInt32.ofNat j)=_
 unfold F5
 have h0:decide (UInt32.ofNat j=0)=false:=by
  rw[decide_eq_false_iff_not]
  intro e
  have:=congrArg UInt32.toNat e
  rw[hjn]at this
  simp at this
  omega
 rw[h0,BD,lO D hc hl hk (by rw[hjn];exact hj) hs]
 simp only[U,Pp]
 rw[if_pos zO]
 rfl
theorem ep{T:List UInt32}{v:Bs}{d:BM}{N c:Nat}{s:List UInt8}(D:fL N c d)(hs:s.length≤198)(htk:∀x,2≤x→x<N→Dp v (UInt32.ofNat x)=true):
  GC T v d s=some (⟨0,[]⟩,110,v,d):=by
 have hN:=D.nle
 unfold GC Xx RA
 rw[A9,zf zO,BD,U,D.blen,if_pos zO,U,YR v (N-2) 2 (fun x h1 h2=>htk x h1 zO)]
 rfl
def WR(i:Nat):BT:=⟨UInt32.ofNat (i+1),List.replicate 32 (UInt8.ofNat (65+i))⟩
def Fs(m:Nat):List BT:=(List.range m).map WR
theorem Ds(m:Nat):(Fs m).length=m:=by simp[Fs]
theorem fe(m:Nat):Fs (m+1)=Fs m++[WR m]:=by simp[Fs,List.range_succ]
theorem fj(m:Nat)(hm:m≤30){n:Nat}(hn:40≤n):FG n (m:Int)=some (Fs m):=by
 unfold FG EK
 refine Dq (fun i=>(Fs i,((i+1:Nat):Int))) m ?_ ?_ zO
 intro i hi k
 simp only[HE]
 rw[zt zO,Be]
 unfold Kp
 refine Dq (fun j=>(List.replicate j (UInt8.ofNat (65+i)),(j:Int))) 32 ?_ ?_ zO
 intro j hj k'
 simp only[HG]
 rw[zt zO,Be,CB zQ zQ,U,A9]
 have e:HL (wI (64+((i+1:Nat):Int)))=UInt8.ofNat (65+i):=by
  rw[A8 zO zO]
  unfold HL
  congr 1
  omega
 rw[e,A8 zO zO,←List.replicate_succ']
 rfl
 intro k'
 simp only[HG]
 rw[zf zO,BD]
 unfold Kw
 rw[CB (by simp[Ds];omega) (by simp[Ds];omega),U]
 unfold K3
 rw[A9,A8 zO zO]
 have e:FC ((i+1:Nat):Int)=UInt32.ofNat (i+1):=by
  unfold FC
  congr 1
  omega
 rw[e,fe]
 rfl
 intro k
 simp only[HE]
 rw[zf zO,BD]
 rfl
theorem Vm{i:Nat}(h:i<30):(WR i).gen.toNat=i+1:=by simp[WR];omega
theorem dL(m:Nat)(hm:m≤16):DW (Fs m)=true:=by
 refine(gn _).2 ⟨by rw[Ds];exact hm,?_,?_⟩
 unfold Fs
 rw[List.pairwise_map]
 refine List.Pairwise.imp_of_mem ?_ List.pairwise_lt_range
 intro a b ha hb hlt
 have h1:=List.mem_range.1 ha
 have h2:=List.mem_range.1 hb
 rw[UInt32.lt_iff_toNat_lt,Vm zO,Vm zO]
 omega
 intro k hk
 obtain⟨i,hi,rfl⟩:=List.mem_map.1 hk
 have h1:=List.mem_range.1 hi
 refine⟨?_,by simp[WR]⟩
 rw[UInt32.lt_iff_toNat_lt,Vm zO]
 simp
theorem fp{m i:Nat}(hm:m≤16)(hi:i<m):C0 (Fs m) (WR i).gen=(WR i,0):=
 aI.2 ⟨dL m hm,List.mem_map.2 ⟨i,List.mem_range.2 hi,rfl⟩,rfl⟩
end

section
structure VS(N c:Nat)(R:List BT)(g:UInt32)(v:Bs)(d:BM):Prop where
 dev:fL N c d
 ring:v.ring=R
 rlen:R.length≤1099511627776
 gen:v.gen=g
 boot:v.boot=7
 tlen:v.taken.length≤c
structure We(T:List UInt32)(R:List BT)(d:BM)(p g:UInt32)(q:UInt64)(s b:List UInt8):Prop where
 key:∃k,C0 R g=(k,0)∧b=I5 T k ⟨p,g,7,q⟩ s
 txt:s.length≤198
 is:K9 d p=b
theorem We.len{T:List UInt32}{R:List BT}{d:BM}{p g:UInt32}{q:UInt64}{s b:List UInt8}(h:We T R d p g q s b):b.length=256:=by
 obtain⟨k,_,rfl⟩:=h.key
 exact OE T k _ h.txt
theorem We.page{T:List UInt32}{R:List BT}{d:BM}{p g:UInt32}{q:UInt64}{s b:List UInt8}(h:We T R d p g q s b):Ih b=p:=by
 obtain⟨k,_,rfl⟩:=h.key
 exact fJ T k _ s
theorem We.opens{T:List UInt32}{R:List BT}{d:BM}{p g:UInt32}{q:UInt64}{s b:List UInt8}(h:We T R d p g q s b):Fq T R b=(⟨p,g,7,q⟩,s,0):=by
 obtain⟨k,hk,rfl⟩:=h.key
 have hs:FS T R ⟨p,g,7,q⟩ s=(I5 T k ⟨p,g,7,q⟩ s,0):=by
  unfold FS
  have:=h.txt
  simp[hk]
  omega
 have:=iK (T:=T) (l:=R) (h:=⟨p,g,7,q⟩) (s:=s) (by rw[hs])
 rwa [hs]at this
theorem We.put{T:List UInt32}{R:List BT}{d d':BM}{p p' g:UInt32}{q:UInt64}{s b b':List UInt8}(h:We T R d p g q s b)(hd:∀x,K9 d' x=if p'=x then b' else K9 d x)(hne:p'≠p):We T R d' p g q s b:=
 ⟨h.key,h.txt,by rw[hd,if_neg hne];exact h.is⟩
theorem kE{i j:Nat}(hi:i<4294967296)(hj:j<4294967296)(h:i≠j):UInt32.ofNat i≠UInt32.ofNat j:=fun e=>h (by
 have:=congrArg UInt32.toNat e
 simpa[Nat.mod_eq_of_lt hi,Nat.mod_eq_of_lt hj]using this)
theorem VS.write{T:List UInt32}{N c:Nat}{R:List BT}{g:UInt32}{v:Bs}{d:BM}(V9:VS N c R g v d)(hc:c+1≤100){k:BT}(hk:C0 R g=(k,0)){s:List UInt8}(hs:s.length≤198)(j:Nat)
(h2:2≤j)(hj:j<N)(hfree:Dp v (UInt32.ofNat j)=false)(htk:∀x,2≤x→x<j→Dp v (UInt32.ofNat x)=true):
  ∃v' d' b,GC T v d s=some (⟨UInt32.ofNat j,b.drop 224⟩,0,v',d')∧VS N (c+1) R g v' d'∧v'.seals=v.seals+1∧v'.taken=J6 v.taken (UInt32.ofNat j) true∧
   (∀q,K9 d' q=if UInt32.ofNat j=q then b else K9 d q)∧We T R d' (UInt32.ofNat j) g v.seals s b∧b=I5 T k ⟨UInt32.ofNat j,g,7,v.seals⟩ s∧d'.blocks=d.blocks:=by
 have hN:=V9.dev.nle
 have hjn:(UInt32.ofNat j).toNat=j:=by simp;omega
 have hh:hd v (UInt32.ofNat j)=⟨UInt32.ofNat j,g,7,v.seals⟩:=by simp only[hd,V9.gen,V9.boot]
 have hb:=OE T k (hd v (UInt32.ofNat j)) hs
 have hw:=kV (T:=T) V9.dev hc (by rw[V9.ring];exact V9.rlen) (by rw[V9.ring,V9.gen];exact hk) hs h2 hj hfree htk (by have:=V9.tlen;omega)
 refine⟨_,_,_,hw,⟨(V9.dev.write hc (by rw[hjn];exact hj) hb).2,V9.ring,V9.rlen,V9.gen,V9.boot,?_⟩,rfl,rfl,fun q=>aW,⟨⟨k,hk,by rw[hh]⟩,hs,?_⟩,by rw[hh],rfl⟩
 have:(Ib v.taken (UInt32.ofNat j)).length≤v.taken.length:=List.length_filter_le ..
 have:=V9.tlen
 show(Ib v.taken (UInt32.ofNat j)).length+1≤c+1
 omega
 rw[aW,if_pos rfl]
theorem VS.read{T:List UInt32}{N c:Nat}{R:List BT}{g g':UInt32}{v:Bs}{d:BM}(V9:VS N c R g v d){p:UInt32}{q:UInt64}{s b:List UInt8}(h:We T R d p g' q s b)(hp2:2≤p.toNat)(hp:p.toNat<N):
  HF T v d ⟨p,b.drop 224⟩=some (s,0):=by
 have hb:=h.len
 have hr:Fr d p=some (b,0):=by rw[V9.dev.read hp,h.is]
 have ht:(b.drop 224).length=32:=by simp[hb]
 have hl:v.ring.length≤1099511627776:=by rw[V9.ring];exact V9.rlen
 have h1:=nr (T:=T) (v:=v) (d:=d) (r:=⟨p,b.drop 224⟩) hp2 ht hr hb hl
 rw[if_pos ⟨rfl,h.page⟩,V9.ring,h.opens]at h1
 exact h1
def d0(N:Nat):BM:={ off:=false,isCut:=false,lasts:=0,counts:=0,blocks:=List.replicate N (List.replicate 256 0),pend:=[],bad:=[],rcnt:=0,rtag:=List.replicate 32 0,rboots:=0 }
def v0:Bs:={ ring:=Fs 1,gen:=1,boot:=7,seals:=0,taken:=[] }
theorem sZ{N:Nat}(h:N≤4096):fL N 0 (d0 N):=⟨List.length_replicate ..,h,rfl,rfl,rfl,Nat.le_refl 0,by omega⟩
theorem lh{N:Nat}(h:N≤4096):VS N 0 (Fs 1) 1 v0 (d0 N):=⟨sZ h,rfl,by rw[Ds];omega,rfl,rfl,Nat.le_refl 0⟩
theorem V7{m:Nat}(h:1≤m)(hm:m≤16):C0 (Fs m) 1=(WR 0,0):=fp hm h
theorem tv{N n:Nat}(h4:4≤N)(hN:N≤4096)(hn:N<n):∃r:BY,IF n (N:Int)=some (some r,0)∧r.blk.length=N:=by
 refine⟨{ blk:=List.replicate N (List.replicate 256 0),pnd:=List.replicate N [],bads:=List.replicate N false,rcnt:=0,rtag:=List.replicate 32 0,rboots:=0,left := -1,off:=false },?_,List.length_replicate ..⟩
 have z:∀k:Nat,k≤1048576→Dl (k:Int)=some (List.replicate k 0):=fun k hk=>by
  rw[aD zO zO]
  simp
 have z1:=z 32 zO
 have z2:=z 256 zO
 clear z
 unfold IF
 have hc:(decide ((N:Int)<4)||decide (4096<(N:Int)))=false:=by simp;omega
 rw[hc,BD]
 show(Dl ((32:Nat):Int)).bind _=_
 rw[z1,U]
 generalize List.replicate 32 (0:UInt8)=Y9
 generalize List.replicate 256 (0:UInt8)=Z9 at z2 ⊢
 unfold JW
 refine Dq (fun i=>(List.replicate i Z9,List.replicate i [],List.replicate i false,(i:Int))) N ?_ ?_ hn
 intro i hi k
 simp only[FJ]
 rw[zt zO,Be]
 show(Dl ((256:Nat):Int)).bind _=_
 rw[z2,U,CB zQ zQ,U,CB zQ zQ,U,CB zQ zQ,U,A9,A8 zO zO]
 rw[←List.replicate_succ',←List.replicate_succ',←List.replicate_succ']
 rfl
 intro k
 simp only[FJ]
 rw[zf zO,BD]
 rfl
end

section
structure Sh(N:Nat)(v:Bs):Prop where
 nd:(v.taken.map (·.1)).Nodup
 tr:∀e∈v.taken,e.2=true∧2≤e.1.toNat∧e.1.toNat<N
theorem Sh.iff{N:Nat}{v:Bs}(h:Sh N v)(p:UInt32):Dp v p=true↔p∈v.taken.map (·.1):=by
 unfold Dp
 constructor
 intro hp
 by_cases hm:∃e∈v.taken,e.1=p
 obtain⟨e,he,rfl⟩:=hm
 exact List.mem_map_of_mem he
 rw[UF (fun e he e'=>hm ⟨e,he,e'⟩)]at hp
 exact absurd hp zD
 intro hp
 obtain⟨e,he,rfl⟩:=List.mem_map.1 hp
 rw[RF h.nd he]
 exact(h.tr e he).1
theorem ofNat_toNat{x:UInt32}:UInt32.ofNat x.toNat=x:=UInt32.toNat_inj.1 zS
theorem Sh.full{N:Nat}{v:Bs}(h:Sh N v)(hN:N≤4096)(hl:N-2≤v.taken.length):∀x,2≤x→x<N→Dp v (UInt32.ofNat x)=true:=by
 intro x h1 h2
 rw[h.iff]
 by_cases hm:UInt32.ofNat x∈v.taken.map (·.1)
 exact hm
 exfalso
 have hnd:(x::v.taken.map fun e=>e.1.toNat).Nodup:=by
  refine List.nodup_cons.2 ⟨fun hx=>?_,?_⟩
  obtain⟨e,he,e'⟩:=List.mem_map.1 hx
  refine hm ?_
  rw[←e',ofNat_toNat]
  exact List.mem_map_of_mem he
  have:=h.nd
  rw[show(v.taken.map fun e=>e.1.toNat)=(v.taken.map (·.1)).map UInt32.toNat by simp]
  exact List.Pairwise.map _ (fun a b hab e=>hab (UInt32.toNat_inj.1 e)) this
 have:=Q3 hnd (l':=(List.range (N-2)).map (·+2)) (fun a ha=>by
  have hb:2≤a∧a<N:=by
   rcases List.mem_cons.1 ha with rfl | ha
   exact⟨h1,h2⟩
   obtain⟨e,he,rfl⟩:=List.mem_map.1 ha
   exact(h.tr e he).2
  exact List.mem_map.2 ⟨a-2,List.mem_range.2 zO,by omega⟩)
 simp at this
 omega
theorem Zt{P:Nat→Prop}:∀k,(∃j,j<k∧P j)→∃j,j<k∧P j∧∀x,x<j→¬P x
 | 0,⟨j,h,_⟩=>by omega
 | k+1,⟨j,h,hP⟩=>by
  by_cases hk:∃i,i<k∧P i
  obtain⟨i,h1,h2,h3⟩:=Zt k hk
  exact⟨i,by omega,h2,h3⟩
  have:j=k:=by
   rcases Nat.lt_or_ge j k with h' | h'
   exact absurd ⟨j,h',hP⟩ hk
   omega
  subst this
  exact⟨j,by omega,hP,fun x hx hPx=>hk ⟨x,hx,hPx⟩⟩
theorem Sh.free{N:Nat}{v:Bs}(h:Sh N v)(hN:N≤4096)(hl:v.taken.length<N-2):∃j,2≤j∧j<N∧Dp v (UInt32.ofNat j)=false∧∀x,2≤x→x<j→Dp v (UInt32.ofNat x)=true:=by
 have:∃j,j<N∧(2≤j∧Dp v (UInt32.ofNat j)=false):=by
  by_cases hx:∃j,j<N∧(2≤j∧Dp v (UInt32.ofNat j)=false)
  exact hx
  exfalso
  have hnd:((List.range (N-2)).map (fun i=>UInt32.ofNat (i+2))).Nodup:=by
   refine List.pairwise_map.2 (List.Pairwise.imp_of_mem ?_ List.nodup_range)
   intro a b ha hb hne
   have ha:=List.mem_range.1 ha
   have hb:=List.mem_range.1 hb
   exact kE zO zO zO
  have:=Q3 hnd (l':=v.taken.map (·.1)) (fun a ha=>by
   obtain⟨i,hi,rfl⟩:=List.mem_map.1 ha
   have hi:=List.mem_range.1 hi
   rw[←h.iff]
   cases hc:Dp v (UInt32.ofNat (i+2))with
   | true=>rfl
   | false=>exact absurd ⟨i+2,by omega,by omega,hc⟩ hx)
  simp at this
  omega
 obtain⟨j,h1,⟨h2,h3⟩,h4⟩:=Zt N this
 refine⟨j,h2,h1,h3,fun x hx1 hx2=>?_⟩
 cases hc:Dp v (UInt32.ofNat x)with
 | true=>rfl
 | false=>exact absurd ⟨hx1,hc⟩ (h4 x hx2)
def Rd(T:List UInt32)(R:List BT)(N:Nat)(v:Bs)(d:BM)(s:BG):Prop:=2≤s.page.toNat∧s.page.toNat<N∧Dp v s.page=true∧∃g' qn b,We T R d s.page g' qn s.txt b∧s.tag=b.drop 224
theorem Rd.ok{T:List UInt32}{R:List BT}{N c:Nat}{g:UInt32}{v:Bs}{d:BM}{s:BG}(V9:VS N c R g v d)(h:Rd T R N v d s):HF T v d ⟨s.page,s.tag⟩=some (s.txt,0)∧DY ⟨s.page,s.tag⟩=true∧s.txt.length≤198:=by
 obtain⟨h1,h2,_,g',qn,b,hb,ht⟩:=h
 have hl:=hb.len
 refine⟨by rw[ht];exact V9.read hb h1 h2,?_,hb.txt⟩
 unfold DY
 rw[Bool.and_eq_true,decide_eq_true_eq,decide_eq_true_eq]
 refine⟨UInt32.le_iff_toNat_le.2 h1,?_⟩
 show(s.tag.length:Int)=32
 rw[ht,List.length_drop,hl]
 rfl
structure ka(N c0:Nat)(R:List BT)(g:UInt32)(vb:Bs)(db:BM)(q:Za):Prop where
 vs:VS N (c0+q.tk.length) R g q.v q.d
 seals:q.v.seals=vb.seals+UInt64.ofNat q.tk.length
 tak:q.v.taken=(q.tk.map fun p=>(p,true)).reverse++vb.taken
 ok:Sh N q.v
 keep:∀p,p∉q.tk→K9 q.d p=K9 db p
 lim:c0+q.tk.length+(N-2-q.v.taken.length)≤100
theorem ka.notin{N c0:Nat}{R:List BT}{g:UInt32}{vb:Bs}{db:BM}{q:Za}(S:ka N c0 R g vb db q)(hb:Sh N vb){p:UInt32}(h:Dp vb p=true):p∉q.tk∧Dp q.v p=true:=by
 rw[hb.iff]at h
 constructor
 intro hp
 have:=S.ok.nd
 rw[S.tak,List.map_append]at this
 refine(List.nodup_append.1 this).2.2 p ?_ p h rfl
 rw[List.map_reverse,List.mem_reverse,List.map_map]
 exact List.mem_map.2 ⟨p,hp,rfl⟩
 rw[S.ok.iff,S.tak,List.map_append]
 exact List.mem_append_right _ h
theorem ka.base{T:List UInt32}{N c0:Nat}{R:List BT}{g:UInt32}{vb:Bs}{db:BM}{q:Za}(S:ka N c0 R g vb db q)(hb:Sh N vb){s:BG}(h:Rd T R N vb db s):Rd T R N q.v q.d s:=by
 obtain⟨h1,h2,h3,g',qn,b,hb',ht⟩:=h
 obtain⟨h4,h5⟩:=S.notin hb h3
 exact⟨h1,h2,h5,g',qn,b,⟨hb'.key,hb'.txt,by rw[S.keep _ h4];exact hb'.is⟩,ht⟩
end

section
theorem Zz:∀ {f:Nat} {l:List AP} {t:Bc} ,Tr f l t→(l=[]→OC f t=1)∧(l≠[]→OC f t+1≤2*l.length)
  | 0,_,_,h=>h.elim
  | f+1,l,t,h=>by
    rcases h with⟨rfl,rfl⟩ | ⟨hne,c,L,A,⟨_,rfl⟩ | ⟨h4,hL,ks,rfl,hk⟩⟩
    exact⟨fun _=>rfl,fun h=>absurd rfl h⟩
    refine⟨fun h=>absurd h hne,fun _=>?_⟩
    have:=List.length_pos_iff.2 hne
    rw[OC,if_pos (show(Bc.mk c.x c.y c.lev l []).kids.length=0 from rfl)]
    simp only[Bc.rows]
    omega
    refine⟨fun h=>absurd h hne,fun _=>?_⟩
    have hkl:=hk.length
    have hq2:=(PI A hL).1
    rw[OC,if_neg (by simp only[Bc.kids];omega)]
    simp only[Bc.kids]
    have key:∀ {xs:List (List AP)} {ys:List Bc},R5 (Tr f) xs ys→(∀x∈xs,x≠[])→(ys.map (OC f)).sum+xs.length≤2*xs.flatten.length:=by
      intro xs ys h
      induction h with
      | nil=>simp
      | @cons x y xs ys h1 h2 ih=>
        intro hx
        have a1:=(Zz h1).2 (hx _ zS)
        have a2:=ih fun x hx'=>hx x (by simp[hx'])
        simp only[List.map_cons,List.sum_cons,List.length_cons,List.flatten_cons,List.length_append]
        omega
    have:=key hk fun x hx=>(UE hx).1
    rw[(Wj L l).length_eq]at this
    omega
theorem Yk{f:Nat}{l:List AP}{t:Bc}(h:Tr f l t)(hl:l.length≤1000):OC f t≤max 1 (2*l.length):=by
  obtain⟨h1,h2⟩:=Zz h
  by_cases e:l=[]
  rw[h1 e];omega
  have:=h2 e
  omega
theorem dq{s:List UInt8}(h:s.length≤1048576):WH s=some ⟨s,h⟩:=dif_pos h
theorem YH{m:List (UInt32×Bool)}{p:UInt32}(h:p∉m.map (·.1)):Ib m p=m:=Sx fun e he e'=>h (by rw[←e'];exact List.mem_map_of_mem he)
theorem qP{T:List UInt32}{N c0:Nat}{R:List BT}{g:UInt32}{vb:Bs}{db:BM}{th:List (LO×Ac)}{k:BT}(hb:Sh N vb)(hN:N≤4096)(hk:C0 R g=(k,0))(hth:∀key r,D1 th key=some r→Rd T R N vb db ⟨key.1,r.page,r.tag⟩):
    jj (Sc T th) (ka N c0 R g vb db) (fun q s=>Rd T R N q.v q.d s) (fun q=>N-2-q.v.taken.length):=by
  refine⟨fun q s S hs=>?_⟩
  unfold Sc
  rw[dq (show s.length≤1048576 by omega),U]
  cases hm:D1 th ⟨s,by omega⟩with
  | some r=>
    have hr:=S.base hb (hth _ r hm)
    exact⟨r,0,q,rfl,S,fun _ h=>h,.inl ⟨rfl,(hr.ok S.vs).2.1,hr,Nat.le_succ _⟩⟩
  | none=>
    rw[show(none:Option Ac).isSome=false from rfl,BD]
    by_cases hroom:q.v.taken.length<N-2
    obtain⟨j,j1,j2,j3,j4⟩:=S.ok.free hN hroom
    have hlim:=S.lim
    obtain⟨v',d',b,e1,V1,s1,t1,h1,H1,_,_⟩:=S.vs.write (T:=T) zO hk hs j j1 j2 j3 j4
    have hjn:(UInt32.ofNat j).toNat=j:=by simp;omega
    have hnin:UInt32.ofNat j∉q.v.taken.map (·.1):=by
      rw[←S.ok.iff,j3]
      decide
    have htk:v'.taken=(UInt32.ofNat j,true)::q.v.taken:=by rw[t1,J6,YH hnin]
    have hok:Sh N v':=by
      refine⟨?_,fun e he=>?_⟩
      rw[htk,List.map_cons]
      exact List.nodup_cons.2 ⟨hnin,S.ok.nd⟩
      rw[htk]at he
      rcases List.mem_cons.1 he with rfl | he
      exact⟨rfl,by rw[hjn];exact j1,by rw[hjn];exact j2⟩
      exact S.ok.tr e he
    have hntk:UInt32.ofNat j∉q.tk:=fun hj=>hnin (by
      rw[S.tak,List.map_append]
      refine List.mem_append_left _ ?_
      rw[List.map_reverse,List.mem_reverse,List.map_map]
      exact List.mem_map.2 ⟨_,hj,rfl⟩)
    rw[e1,U]
    dsimp only
    rw[show decide ((0:Int)=0)=true from rfl,Be,CB zQ zQ,U]
    have hlen:(q.tk++[UInt32.ofNat j]).length=q.tk.length+1:=by simp
    refine⟨_,0,⟨q.tk++[UInt32.ofNat j],v',d'⟩,rfl,⟨?_,?_,?_,hok,fun p hp=>?_,?_⟩,fun x hx=>?_,.inl ⟨rfl,?_,?_,?_⟩⟩
    show VS N (c0+(q.tk++[UInt32.ofNat j]).length) R g v' d'
    rw[hlen]
    exact V1
    show v'.seals=vb.seals+UInt64.ofNat (q.tk++[UInt32.ofNat j]).length
    rw[s1,S.seals,hlen,UInt64.ofNat_add,UInt64.add_assoc]
    rfl
    show v'.taken=_
    rw[htk,S.tak]
    simp
    simp only[List.mem_append,List.mem_singleton,not_or]at hp
    show K9 d' p=_
    rw[h1,if_neg (fun e=>hp.2 e.symm)]
    exact S.keep p hp.1
    show c0+(q.tk++[UInt32.ofNat j]).length+(N-2-v'.taken.length)≤100
    rw[hlen,htk,List.length_cons]
    omega
    obtain⟨x1,x2,x3,g',qn,b',x4,x5⟩:=hx
    have hne:UInt32.ofNat j≠x.page:=fun e=>by
      rw[←e,j3]at x3
      exact absurd x3 zD
    refine⟨x1,x2,?_,g',qn,b',x4.put h1 hne,x5⟩
    show Dp v' x.page=true
    rw[hok.iff,htk,List.map_cons]
    exact List.mem_cons_of_mem _ ((S.ok.iff _).1 x3)
    have hl:=H1.len
    unfold DY
    rw[Bool.and_eq_true,decide_eq_true_eq,decide_eq_true_eq]
    refine⟨UInt32.le_iff_toNat_le.2 (by rw[hjn];exact j1),?_⟩
    rw[List.length_drop,hl]
    rfl
    refine⟨by rw[hjn];exact j1,by rw[hjn];exact j2,?_,g,q.v.seals,b,H1,rfl⟩
    show Dp v' (UInt32.ofNat j)=true
    rw[hok.iff,htk]
    simp
    show N-2-q.v.taken.length≤N-2-v'.taken.length+1
    rw[htk,List.length_cons]
    omega
    have hw:=ep (T:=T) S.vs.dev hs (S.ok.full hN zO)
    rw[hw,U]
    dsimp only
    rw[show decide ((110:Int)=0)=false from rfl,BD]
    exact⟨_,110,q,rfl,S,fun _ h=>h,.inr ⟨rfl,by omega⟩⟩
theorem bE:∀(l:List (Int×BG)) (m:List (LO×Ac)),(∀s∈l,s.2.txt.length≤1048576)→m.length+l.length≤1000000000→
    ∃m',Q2 l m=some m'∧∀k:LO,D1 m' k=((l.reverse.find? fun s=>decide (s.2.txt=k.1)).map fun s=>(⟨s.2.page,s.2.tag⟩:Ac)).or (D1 m k)
  | [],m,_,_=>⟨m,rfl,fun k=>by simp⟩
  | s::l,m,h,hb=>by
    simp only[List.length_cons]at hb
    have hd:(Ib m ⟨s.2.txt,h s zS⟩).length≤m.length:=List.length_filter_le ..
    obtain⟨m',h1,h2⟩:=bE l (J6 m ⟨s.2.txt,h s zS⟩ ⟨s.2.page,s.2.tag⟩) (fun x hx=>h x (by simp[hx])) (by
      show(Ib m _).length+1+l.length≤_
      omega)
    refine⟨m',?_,fun k=>?_⟩
    rw[Q2,dq (h s zS),U]
    unfold Pp
    rw[if_pos zO,U]
    exact h1
    rw[h2 k,List.reverse_cons,List.find?_append,S8]
    cases hf:l.reverse.find? fun s=>decide (s.2.txt=k.1)with
    | some x=>rfl
    | none=>
      simp only[Option.map_none,Option.none_or,List.find?_singleton]
      by_cases e:s.2.txt=k.1
      rw[if_pos (Subtype.ext e),if_pos (by simpa using e)]
      rfl
      rw[if_neg (fun e'=>e (congrArg Subtype.val e')),if_neg (by simpa using e)]
      rfl
theorem YQ{α:Type}(xs:List α):(FA xs).reverse.map (·.2)=xs:=by
  unfold FA
  rw[List.reverse_reverse,List.map_map]
  have:((fun x:Int×α=>x.2)∘fun p:α×Nat=>((p.2:Int),p.1))=Prod.fst:=rfl
  rw[this,List.zipIdx_map_fst]
theorem gr{α:Type}{xs:List α}{s:Int×α}(h:s∈FA xs):s.2∈xs:=by
  rw[←YQ xs]
  exact List.mem_map_of_mem (List.mem_reverse.2 h)
theorem i0(had:List BG)(h:∀s∈had,s.txt.length≤1048576)(hb:had.length≤1000000000):∃th,Q2 (FA had) []=some th∧∀k:LO,D1 th k=(had.find? fun s=>decide (s.txt=k.1)).map fun s=>(⟨s.page,s.tag⟩:Ac):=by
  obtain⟨th,h1,h2⟩:=bE (FA had) [] (fun s hs=>h _ (gr hs)) (by rw[Ji];simpa using hb)
  refine⟨th,h1,fun k=>?_⟩
  rw[h2 k,show D1 ([]:List (LO×Ac)) k=none from rfl,Option.or_none]
  conv=>rhs;rw[←YQ had]
  rw[List.find?_map,Option.map_map]
  rfl
theorem Z0{N:Nat}(hN:N≤4096):∀(tk:List UInt32) (v:Bs) (d:BM) (base:List (UInt32×Bool)),d.blocks.length=N→v.taken=(tk.map fun p=>(p,true)).reverse++base→(v.taken.map (·.1)).Nodup→(∀p∈tk,2≤p.toNat∧p.toNat<N)→
    SU tk v d=some { v with taken:=base }
  | [],v,d,base,_,h,_,_=>by
    simp at h
    rw[SU,←h]
  | p::tk,v,d,base,hd,h,hn,hr=>by
    obtain⟨r1,r2⟩:=hr p zS
    have hmem:(p,true)∈v.taken:=by rw[h];simp
    have hg:=RF hn hmem
    have hdel:Ib v.taken p=(tk.map fun p=>(p,true)).reverse++base:=by
      rw[h]at hn ⊢
      simp only[List.map_cons,List.reverse_cons,List.append_assoc,List.singleton_append,List.map_append]at hn ⊢
      obtain⟨n1,n2,n3⟩:=List.nodup_append.1 hn
      obtain⟨n4,n5⟩:=List.nodup_cons.1 n2
      unfold Ib
      rw[List.filter_append,List.filter_cons_of_neg zS]
      congr 1
      exact YH (m:=(tk.map fun p=>(p,true)).reverse) fun hp=>n3 p hp p zS rfl
      exact YH n4
    have hi:Kt v d p=some true:=by
      have:=YT v d p.toNat r1 zO
      rw[ofNat_toNat,hd,zt r2]at this
      exact this
    have hgive:Oy v d p=some (0,{ v with taken:=Ib v.taken p }):=by
      unfold Oy
      rw[hi,U,A9,hg]
      rfl
    rw[SU,hgive,U]
    have:=Z0 hN tk { v with taken:=Ib v.taken p } d base hd hdel (by
      show((Ib v.taken p).map (·.1)).Nodup
      exact WY hn) (fun q hq=>hr q (by simp[hq]))
    exact this
theorem MB{l:List AP}(h:Cx l=true):l.length≤1000:=by
  unfold Cx at h
  simp only[Bool.and_eq_true,decide_eq_true_eq]at h
  omega
theorem ko{n N c0:Nat}{T:List UInt32}{R:List BT}{g:UInt32}{vb:Bs}{db:BM}{k:BT}{l:List AP}{had:List BG}(hn:1100≤n)(hN:N≤4096)(V9:VS N c0 R g vb db)(hb:Sh N vb)(hk:C0 R g=(k,0))(hl:Cx l=true)
(hhad:∀s∈had,Rd T R N vb db s)(hlen:had.length≤100000)(hlim:c0+(N-2-vb.taken.length)≤100):
    ∃t th,Ke n l=some (t,0)∧Tr n l t∧(∀k:LO,D1 th k=(had.find? fun s=>decide (s.txt=k.1)).map fun s=>(⟨s.page,s.tag⟩:Ac))∧
      ((∃r out q,R0 n T vb db l had=some (out,0,q.v,q.d)∧RR n t out r∧DY r=true∧ka N c0 R g vb db q∧(∀s∈out,Rd T R N q.v q.d s)∧out.length=OC n t∧N8 (Sc T th) ⟨[],vb,db⟩ out q∧N-2-vb.taken.length≤N-2-q.v.taken.length+OC n t)∨
       (∃v d c,R0 n T vb db l had=some ([],110,v,d)∧N-2-vb.taken.length<OC n t∧v.taken=vb.taken∧VS N c R g v d)):=by
  obtain⟨t,h1,_,hT⟩:=VZ (n:=n) (l:=l) zO hl
  obtain⟨th,h2,h3⟩:=i0 had (fun s hs=>by have:=((hhad s hs).ok V9).2.2;omega) zO
  have hth:∀(key:LO) r,D1 th key=some r→Rd T R N vb db ⟨key.1,r.page,r.tag⟩:=by
    intro key r hr
    rw[h3 key]at hr
    obtain⟨s,hs,rfl⟩:=Option.map_eq_some_iff.1 hr
    have h5:=List.find?_some hs
    simp only[decide_eq_true_eq]at h5
    rw[←h5]
    exact hhad s (List.mem_of_find?_eq_some hs)
  have W:=qP (T:=T) (c0:=c0) (db:=db) hb hN hk hth
  have hpg:=Yk hT (MB hl)
  have hl1:=MB hl
  have S0:ka N c0 R g vb db ⟨[],vb,db⟩:=⟨V9,by simp,by simp,hb,fun _ _=>rfl,by simpa using hlim⟩
  obtain⟨r,p',q,e1,e2,e3,e4,e5⟩:=aS W (n:=n) zO n l t ⟨[],0⟩ ⟨[],vb,db⟩ hT hl S0 rfl zQ
  refine⟨t,th,h1,hT,h3,?_⟩
  have hsave:R0 n T vb db l had=bQ (r,(p',q)):=by
    unfold R0
    rw[h1,U,show(!decide ((0:Int)=0))=false from rfl,BD,if_neg zO,h2,U,e1,U]
  rw[hsave]
  unfold bQ
  rcases e5 with⟨w,seg,o1,o2,o3,o4,o5,o6⟩ | ⟨w,o6⟩
  left
  simp only[List.nil_append]at o1
  refine⟨r,seg,q,?_,o3,e2 w,e3,o5,o2,o4,o6⟩
  dsimp only
  rw[w,show(!decide ((0:Int)=0))=false from rfl,BD,o1]
  right
  have hlim2:=e3.lim
  refine⟨{ q.v with taken:=vb.taken },q.d,c0+q.tk.length,?_,o6,rfl,?_⟩
  dsimp only
  rw[w,show(!decide ((110:Int)=0))=true from rfl,Be,if_neg zO,Z0 hN q.tk q.v q.d vb.taken e3.vs.dev.blen e3.tak e3.ok.nd (fun p hp=>by
    have:=e3.ok.tr (p,true) (by rw[e3.tak];refine List.mem_append_left _ ?_;rw[List.mem_reverse];exact List.mem_map.2 ⟨p,hp,rfl⟩)
    exact this.2),U]
  have V':=e3.vs
  exact⟨V'.dev,V'.ring,V'.rlen,V'.gen,V'.boot,Nat.le_trans V9.tlen (Nat.le_add_right ..)⟩
end

section
variable {P:Program}{ro:Option Nat}{K:Nat→Prop}{w0:World}{N:Nat}{Q:C7}{D:List Nat}{l l':Tm}{H H' Hs L:List AV}{ops:Array Oper}{items:Ic}
variable {tk:Bool}{o:Oper}{t:Nat}{v:Value}{x y z:Operand}
def aZ(by_:Nat)(c:Int):Option Unit:=if 0≤c∧(by_:Int)*c≤281474976710656∧c≤9223372036854775807 then some ()else none
theorem pw{α:Type}{e ty:TypeId}{sz by_:Nat}{c:Int}{u:Unit}{zv:Value}{k k':IntKind}(hn:aZ by_ c=some u)(enc:α→List Value)(ho:At ops N l o t (.makeSlice ty x y))(hty:P.underlying ty=some (.slice e))(hsz:C3 P e=some sz)(hby:PD P e=some by_)(hze:ES P e=some zv)(hzs:zv.cells.size=sz)
(hx:Bf l x=some (.int k 0))(hy:Bf l y=some (.int k' c))
(hs:∀v',En Hs (AH e sz v' enc ([]:List α)::H))(h:∀v',SL P ro K w0 N ops Hs items Q D ((t,v')::l) (AH e sz v' enc ([]:List α)::H)):SL P ro K w0 N ops Hs (.cons (false,o) items) Q D l H:=by
 unfold aZ at hn
 split at hn
 rename_i hc
 obtain⟨h1,h2,h3⟩:=hc
 obtain⟨n,rfl⟩:∃n:Nat,c=(n:Int):=⟨c.toNat,by omega⟩
 refine bg (n:=n) enc ho hty hsz hby hze hzs hx hy (Nat.ble_eq_true_of_le ?_) (Nat.ble_eq_true_of_le zO) hs h
 rw[←Int.natCast_mul]at h2
 omega
 cases hn
theorem CJ.cut{α:Type}{enc:α→List Value}{sz b off cap q:Nat}{xs:List α}(hl:∀x,(enc x).length=sz)(hcap:xs.length≤cap)(hc:∀j u,(xs.flatMap enc)[j]? = some u→K b∧w0.cell? ⟨b,off+j,none⟩=some u)(hq:q≤xs.length):CJ K w0 enc sz (.slice (some ⟨b,off+q*sz,none⟩) (xs.length-q) (cap-q)) (xs.drop q):=by
 refine⟨hl,.inr ⟨b,off+q*sz,cap-q,by simp,by simp;omega,fun j u hu=>?_⟩⟩
 have hpre:(xs.take q).flatMap enc++(xs.drop q).flatMap enc=xs.flatMap enc:=by
  rw[←List.flatMap_append,List.take_append_drop]
 have hlen:((xs.take q).flatMap enc).length=q*sz:=by rw[H8 hl,List.length_take,Nat.min_eq_left hq]
 have:=hc (q*sz+j) u (by
  rw[←hpre,List.getElem?_append_right zO,hlen,Nat.add_sub_cancel_left]
  exact hu)
 rw[Nat.add_assoc]
 exact this
end

section
variable {K:Nat→Prop}{w0:World}{H:List AV}
def Gs(n:Nat)(p0:Int):Option (Option (Bs×BM×CK×BY)×Bool):=
 (LN p0).bind fun y1=>
 (y1.1).bind fun d1=>
 (IF n p0).bind fun y2=>
 (y2.1).bind fun d2=>
 cond ((!decide (y1.2=0))||(!decide (y2.2=0)))
 (
  some (none,false))
 (
  (FG n 1).bind fun y3=>
  (Gp d1 y3 1 7).bind fun y4=>
  (y4.1).bind fun d3=>
  (FG n 1).bind fun y5=>
  (I8 n d2 y5 1 7).bind fun y6=>
  (y6.1).bind fun d4=>
  ret ((decide (y4.2=0))&&(decide (y6.2=0))) fun x1=>
  some (some (d3,d1,d4,d2),x1))
theorem TY{n:Nat}{p0:Int}{r:Option (Bs×BM×CK×BY)×Bool}(h:Gs n p0=some r): zC K w0 12 [vI p0] [] H (fun u M=>(r.1=none∧u=.tuple #[.pointer none,.pointer none,.pointer none,vB r.2]∧M=[])∨(∃(d:Bs×BM×CK×BY) (bn0:Nat) (vn0x1:Value) (mn0x5:Nat) (bn1:Nat) (vn1x4:Value) (mn1x5:Nat) (mn1x6:Nat) (bn2:Nat) (vn2x1:Value) (vn2x5:Value) (bn3:Nat) (vn3x0:Value) (vn3x1:Value) (vn3x2:Value),r.1=some d∧u=.tuple #[vP bn0 0,vP bn1 0,vP bn2 0,vB r.2]∧M=[AN bn0 (.cells #[vP bn1 0,vn0x1,AA d.1.gen,AA d.1.boot,Ap d.1.seals,.map (some mn0x5)] 96),AH 138 2 vn0x1 A7 d.1.ring,BQ mn0x5 AA vB d.1.taken,AN bn1 (.cells #[vB d.2.1.off,vB d.2.1.isCut,vI d.2.1.lasts,vI d.2.1.counts,vn1x4,.map (some mn1x5),.map (some mn1x6),Ap d.2.1.rcnt,vS d.2.1.rtag,AA d.2.1.rboots] 130),AH 9 1 vn1x4 eS d.2.1.blocks,BQ mn1x5 AA vS d.2.1.pend,BQ mn1x6 AA vB d.2.1.bad,AN bn2 (.cells #[vP bn3 0,vn2x1,AA d.2.2.1.gen,AA d.2.2.1.boot,Ap d.2.2.1.num,vn2x5] 69),AH 138 2 vn2x1 A7 d.2.2.1.ring,AH 4 1 vn2x5 eB d.2.2.1.taken,AN bn3 (.cells #[vn3x0,vn3x1,vn3x2,Ap d.2.2.2.rcnt,vS d.2.2.2.rtag,AA d.2.2.2.rboots,vI d.2.2.2.left,vB d.2.2.2.off] 132),AH 9 1 vn3x0 eS d.2.2.2.blk,AH 9 1 vn3x1 eS d.2.2.2.pnd,AH 4 1 vn3x2 eB d.2.2.2.bads])):=by
 unfold Gs at h
 refine UJ.enter Tryz.func12 rfl rfl ?_
 refine Z (O E (O E (O E (O E (Y (Z ?_))))))
 refine AC h fun y1 hy1 h=>?_
 refine AC h fun d1 hd1 h=>?_
 refine J E ?_
 refine Bm (vs:=[_]) (Hin:=[]) (Hr:=_) E E ⟨E,zT⟩ r7 E E (ZW hy1) ?_
 rintro _ _ (⟨hn,-,-⟩ | ⟨d_,b1,v1,m1,m2,hn,rfl,rfl⟩)
 rw[hd1]at hn;cases hn
 obtain rfl:d1=d_:=zI (hd1.symm.trans hn)
 refine⟨trivial,?_⟩
 refine J E (Al E E E (Al E E E (O E (O E (Y (Z ?_))))))
 refine AC h fun y2 hy2 h=>?_
 refine AC h fun d2 hd2 h=>?_
 refine J E ?_
 refine Bm (vs:=[_]) (Hin:=[]) (Hr:=_::_::_::_::_) E E ⟨E,zT⟩ rg E E (dY hy2) ?_
 rintro _ _ (⟨hn,-,-⟩ | ⟨d_,b2,v2,v3,v4,hn,rfl,rfl⟩)
 rw[hd2]at hn;cases hn
 obtain rfl:d2=d_:=zI (hd2.symm.trans hn)
 refine⟨trivial,?_⟩
 refine J E (Al E E E (Al E E E (O E (O E (Y (AE (Z (J E (V E Bg (J E ?_))))))))))
 refine DL (c := !decide (y2.2=0)) 26 3 29 E (fun hb k=>?_) (fun hb k=>?_) ?_
 refine AB E (AB E (Ae E E E ?_))
 exact k.mono tL
 refine J E (V E Bg (Ae E E E ?_))
 exact k.mono tL
 refine Y ?_
 refine AT h E (fun hc1 h=>?_) fun hc1 h=>?_
 refine Z (O E (O E (O E (O E (Y (AL (Aa ?_)))))))
 obtain rfl:=zI h
 exact AX (rG E E E E E) (AY (M:=[]) (.inl ⟨E,E,E⟩) fun _ hw=>BZ.pick (H:=[_,_,_,_,_,_,_,_]) hw [] 8 E)
 refine AI (AG (Z ?_))
 refine AC h fun y3 hy3 h=>?_
 refine AC h fun y4 hy4 h=>?_
 refine AC h fun d3 hd3 h=>?_
 refine J E ?_
 refine Bm (vs:=[_]) (Hin:=[]) (Hr:=_::_::_::_::_::_::_::_::_) E E ⟨E,zT⟩ lM E E (Tq hy3) ?_
 rintro v5 _ ⟨_,rfl,rfl⟩
 refine⟨trivial,?_⟩
 refine SL.pick [0,5,6,7,8,1,2,3,4] 9 ?_
 refine Bm (vs:=[_,_,AA 1,AA 7]) (Hin:=[_,_,_,_,_]) (Hr:=_::_::_::_::_) E E ⟨E,E,E,E,zT⟩ rZ E E (Cb (B:=[_]) (Hin:=[_,_,_,_]) fun K' w1 hk hB=>bZ hy4 (CC (e:=138) (v:=v5) zV (hB _ zS))) ?_
 rintro _ _ ⟨_,rfl,(⟨hn,-,-⟩ | ⟨d_,b3,v6,m3,hn,rfl,rfl⟩)⟩
 rw[hd3]at hn;cases hn
 obtain rfl:d3=d_:=zI (hd3.symm.trans hn)
 refine⟨trivial,?_⟩
 refine J E (Al E E E (Al E E E (O E (O E (Y (Z ?_))))))
 refine AC h fun y5 hy5 h=>?_
 refine AC h fun y6 hy6 h=>?_
 refine AC h fun d4 hd4 h=>?_
 refine J E ?_
 refine Bm (vs:=[_]) (Hin:=[]) (Hr:=_::_::_::_::_::_::_::_::_::_::_::_::_) E E ⟨E,zT⟩ lM E E (Tq hy5) ?_
 rintro v7 _ ⟨_,rfl,rfl⟩
 refine⟨trivial,?_⟩
 refine SL.pick [9,10,11,12,0,1,2,3,4,5,6,7,8] 13 ?_
 refine Bm (vs:=[_,_,AA 1,AA 7]) (Hin:=[_,_,_,_,_]) (Hr:=_::_::_::_::_::_::_::_::_) E E ⟨E,E,E,E,zT⟩ tT E E (cS hy6) ?_
 rintro _ _ (⟨hn,-,-⟩ | ⟨d_,b4,v8,v9,hn,rfl,rfl⟩)
 rw[hd4]at hn;cases hn
 obtain rfl:d4=d_:=zI (hd4.symm.trans hn)
 refine⟨trivial,?_⟩
 refine J E (Al E E E (Al E E E (O E (O E (Y (Z ?_))))))
 obtain⟨x1,ex1,h⟩:=Bn h
 refine J E (J E (J E (J E (V E CH (J E ?_)))))
 refine Cw (c:=decide (y6.2=0)) 47 3 50 E (fun hb k=>?_) (fun hb k=>?_) ?_
 refine J E (V E CH (Ae E E E ?_))
 exact k.mono tL
 refine AB E (AB E (Ae E E E ?_))
 exact k.mono tL
 refine O E (O E (O E ?_))
 refine Am (u:=vB x1) E E (congrArg vB ex1) ?_
 refine Y (AL ?_)
 obtain rfl:=zI h
 exact AX (rG E E E E E) (AY (M:=[_,_,_,_,_,_,_,_,_,_,_,_,_,_]) (.inr ⟨_,b3,v6,m3,b1,v1,m1,m2,b4,v8,v9,b2,v2,v3,v4,E,E,E⟩) fun _ hw=>BZ.pick (H:=[_,_,_,_,_,_,_,_,_,_,_,_,_,_,_]) hw [8,9,10,11,12,13,14,0,1,2,3,4,5,6] 15 E)
def KJ(n:Nat)(T:List UInt32):Option Bool:=
 (Gs n 12).bind fun y1=>
 (y1.1).bind fun d1=>
 (R0 n T d1.1 d1.2.1 [(⟨1,0,0,[]⟩:AP),(⟨2,0,0,[]⟩:AP),(⟨3,0,0,[]⟩:AP),(⟨4,0,0,[]⟩:AP),(⟨5,0,0,[]⟩:AP),(⟨6,8,0,[]⟩:AP)] []).bind fun y2=>
 (Jk y2.1).bind fun y3=>
 (Qi n T y2.2.2.1 y2.2.2.2 y3).bind fun y4=>
 (FZ (((y1.2&&(decide (y2.2.1=0)))&&(decide (y4.2.2=0)))&&(decide ((y2.1.length:Int)=4))) ((IV n [(⟨1,0,0,[]⟩:AP),(⟨2,0,0,[]⟩:AP),(⟨3,0,0,[]⟩:AP),(⟨4,0,0,[]⟩:AP),(⟨5,0,0,[]⟩:AP),(⟨6,8,0,[]⟩:AP)] y4.1).bind fun y5=>some (y5))).bind fun y6=>
 (FZ y6 ((Jn n y2.1 y4.2.1).bind fun y7=>some (y7))).bind fun y8=>
 (FZ y8 ((PV y2.2.2.1 y2.2.2.2).bind fun y9=>some (decide (y9=4)))).bind fun y10=>
 some y10
theorem Xu{n:Nat}{T:List UInt32}{r:Bool}(h:KJ n T=some r)(hS:Hd K w0 T):zC K w0 11 [] [] H (fun u M=>u=vB r∧M=[]):=by
 unfold KJ at h
 refine UJ.enter Tryz.func11 rfl rfl ?_
 refine Z (O E (Y (Z ?_)))
 refine AC h fun y1 hy1 h=>?_
 refine AC h fun d1 hd1 h=>?_
 refine Bm (vs:=[_]) (Hin:=[]) (Hr:=_) E E ⟨E,zT⟩ oP E E (TY hy1) ?_
 rintro _ _ (⟨hn,-,-⟩ | ⟨d_,b1,v1,m1,b2,v2,m2,m3,b3,v3,v4,b4,v5,v6,v7,hn,rfl,rfl⟩)
 rw[hd1]at hn;cases hn
 obtain rfl:d1=d_:=zI (hd1.symm.trans hn)
 refine⟨trivial,?_⟩
 refine J E (Al E E E (Al E E E (Al E E E (Al E E E (O E (O E (O E ?_)))))))
 refine O E (Y (Z (BK [_] E R4 Si EJ ⟨E,zT⟩ E (BK [_] E R4 Si EJ ⟨E,zT⟩ E (BK [_] E R4 Si EJ ⟨E,zT⟩ E (BK [_] E R4 Si EJ ⟨E,zT⟩ E (BK [_] E R4 Si EJ ⟨E,zT⟩ E (BK [_,_] E R4 Si EJ ⟨E,E,zT⟩ E ?_))))))))
 refine Bz [_,_,_,_,_,_] rfl Bt B2 EJ ⟨rfl,rfl,rfl,rfl,rfl,rfl,trivial⟩ rfl rfl rfl (by first | (simp[Value.cells];done) | (intro v hv;simp only[List.mem_cons,List.not_mem_nil,or_false]at hv;rcases hv with rfl | rfl | rfl | rfl | rfl | rfl<;>rfl)) rfl rfl zU fun b5=>?_
 refine B4 AJ 4 ([(⟨1,0,0,[]⟩:AP),(⟨2,0,0,[]⟩:AP),(⟨3,0,0,[]⟩:AP),(⟨4,0,0,[]⟩:AP),(⟨5,0,0,[]⟩:AP),(⟨6,8,0,[]⟩:AP)]:List AP) E zV E ?_
 refine O E (Y (Z ?_))
 refine AC h fun y2 hy2 h=>?_
 refine J E (J E ?_)
 refine Bm (vs:=[_,_,_]) (Hin:=[_,_,_,_,_,_,_,_]) (Hr:=_::_::_::_::_::_::_::_) E E ⟨E,E,E,zT⟩ t0 E E (Cb (B:=[_]) (Hin:=[_,_,_,_,_,_,_]) fun K' w1 hk hB=>rA hy2 (hS.keeps hk) (CC (e:=79) (v:=.slice (some ⟨b5,0,none⟩) 6 6) zV (hB _ zS)) (CJ.nil zV)) ?_
 rintro _ _ ⟨_,rfl,v8,rfl,rfl⟩
 refine⟨trivial,?_⟩
 refine J E (Al E E E (Al E E E (O E (O E (Y (Z ?_))))))
 refine AC h fun y3 hy3 h=>?_
 refine AC h fun y4 hy4 h=>?_
 refine J E (J E (SL.pick [1,0] 2 ?_))
 refine Bm (vs:=[_]) (Hin:=[_]) (Hr:=_::_::_::_::_::_::_::_::_::_::_::_::_::_::_::_) E E ⟨E,zT⟩ sV E E (Cb (B:=[_]) (Hin:=[]) fun K' w1 hk hB=>Zh hy3 (CC (e:=72) (v:=v8) zV (hB _ zS))) ?_
 rintro _ _ ⟨_,rfl,rfl,rfl⟩
 refine⟨trivial,?_⟩
 refine SL.pick [2,3,4,5,6,7,8,0,1] 9 (Bp 7 nM ((jx hy4 hS :)) E ?_)
 rintro _ _ ⟨v9,v10,rfl,rfl⟩
 refine J E (Al E E E (Al E E E (Al E E E (O E (O E (O E (Y (Z ?_))))))))
 refine AC h fun y6 hy6 h=>?_
 refine AC h fun y8 hy8 h=>?_
 refine AC h fun y10 hy10 h=>?_
 refine J E (J E ?_)
 refine Cw (c:=decide (y2.2.1=0)) 39 3 42 E (fun hb k=>?_) (fun hb k=>?_) ?_
 refine J E (V E CH (Ae E E E ?_))
 exact k.mono tL
 refine AB E (AB E (Ae E E E ?_))
 exact k.mono tL
 refine J E ?_
 refine Cw (c:=decide (y4.2.2=0)) 43 3 46 E (fun hb k=>?_) (fun hb k=>?_) ?_
 refine J E (V E CH (Ae E E E ?_))
 exact k.mono tL
 refine AB E (AB E (Ae E E E ?_))
 exact k.mono tL
 refine J E ?_
 refine Cw (c:=decide ((y2.1.length:Int)=4)) 47 4 51 E (fun hb k=>?_) (fun hb k=>?_) ?_
 refine J E (D0 9 E He E E (V E CH (Ae E E E ?_)))
 exact k.mono tL
 refine AB E (AB E (AB E (Ae E E E ?_)))
 exact k.mono tL
 refine J E ?_
 refine EA 52 4 56 hy6 E (fun hb hg4 k=>?_) (fun hb k=>?_) ?_
 obtain⟨y5,hy5,hg4⟩:=bnd hg4
 obtain rfl:=zI hg4
 refine J E (J E (SL.pick [10,0,1,2,3,4,5,6,7,8,9] 11 ?_))
 refine Bm (vs:=[_,_]) (Hin:=[_,_]) (Hr:=_::_::_::_::_::_::_::_::_::_::_::_::_::_::_::_::_) E E ⟨E,E,zT⟩ mg E E (Cb (B:=[_,_]) (Hin:=[]) fun K' w1 hk hB=>To hy5 (CC (e:=79) (v:=.slice (some ⟨b5,0,none⟩) 6 6) zV (hB _ zS)) (CC (e:=79) (v:=v9) zV (hB _ zS))) ?_
 rintro _ _ ⟨_,rfl,rfl,rfl⟩
 refine⟨trivial,?_⟩
 refine Ae E E E ?_
 exact SL.mono (SL.heap k fun _ hw=>BZ.pick (H:=[_,_,_,_,_,_,_,_,_,_,_,_,_,_,_,_,_,_]) hw [1,2,3,4,5,6,7,8,9,10,0,11,12,13,14,15,16,17] 18 E) tL
 refine AB E (AB E (AB E (Ae E E E ?_)))
 exact k.mono tL
 refine J E ?_
 refine EA 57 4 61 hy8 E (fun hb hg5 k=>?_) (fun hb k=>?_) ?_
 obtain⟨y7,hy7,hg5⟩:=bnd hg5
 obtain rfl:=zI hg5
 refine J E (J E (SL.pick [9,1,0,2,3,4,5,6,7,8] 10 ?_))
 refine Bm (vs:=[_,_]) (Hin:=[_,_]) (Hr:=_::_::_::_::_::_::_::_::_::_::_::_::_::_::_::_::_) E E ⟨E,E,zT⟩ oN E E (Cb (B:=[_,_]) (Hin:=[]) fun K' w1 hk hB=>TT hy7 (CC (e:=72) (v:=v8) zV (hB _ zS)) (CC (e:=72) (v:=v10) zV (hB _ zS))) ?_
 rintro _ _ ⟨_,rfl,rfl,rfl⟩
 refine⟨trivial,?_⟩
 refine Ae E E E ?_
 exact SL.mono (SL.heap k fun _ hw=>BZ.pick (H:=[_,_,_,_,_,_,_,_,_,_,_,_,_,_,_,_,_,_]) hw [2,1,3,4,5,6,7,8,9,0,10,11,12,13,14,15,16,17] 18 E) tL
 refine AB E (AB E (AB E (Ae E E E ?_)))
 exact k.mono tL
 refine J E ?_
 refine EA 62 4 66 hy10 E (fun hb hg6 k=>?_) (fun hb k=>?_) ?_
 obtain⟨y9,hy9,hg6⟩:=bnd hg6
 obtain rfl:=zI hg6
 refine J E (SL.pick [2,3,4,5,6,7,8,0,1] 9 (AQ 7 uA (gA hy9) E ?_))
 refine V E (Vg (b:=4)) ?_
 refine Ae E E E ?_
 exact SL.mono (SL.heap k fun _ hw=>BZ.pick (H:=[_,_,_,_,_,_,_,_,_,_,_,_,_,_,_,_,_,_]) hw [7,8,0,1,2,3,4,5,6,9,10,11,12,13,14,15,16,17] 18 E) tL
 refine AB E (AB E (AB E (Ae E E E ?_)))
 exact k.mono tL
 refine O E (Y (AL ?_))
 obtain rfl:=zI h
 exact Ad [] 18 E E E
end

section
variable {K:Nat→Prop}{w0:World}{H:List AV}
end

section
theorem gL{N n:Nat}(h4:4≤N)(hN:N≤4096)(hn:4200≤n):∃w c,Gs n (N:Int)=some (some (v0,d0 N,w,c),true):=by
 obtain⟨r,hr,hrl⟩:=tv h4 hN (show N<n by omega)
 obtain⟨b1,hb1⟩:∃w,I8 n r (Fs 1) 1 7=some (some w,0):=by
  unfold I8
  have hm:UV 1 (r.blk.length:Int) false=some (List.replicate N false):=by
   unfold UV
   rw[hrl,if_pos ⟨by omega,by omega,by omega⟩]
   simp
  have h0:Ao (List.replicate N false) 0=some false:=by
   have:=CF (l:=List.replicate N false) (i:=0) (k:=0) false rfl zQ
   rw[this]
   congr 1
   cases N<;>rfl
  have h1:F6 (List.replicate N false) 0 true=some ((List.replicate N false).set 0 true):=Jd rfl zQ
  have h2:∃x,Ao ((List.replicate N false).set 0 true) 1=some x:=⟨_,CF (k:=1) false rfl zQ⟩
  obtain⟨x,h2⟩:=h2
  have h3:F6 ((List.replicate N false).set 0 true) 1 true=some (((List.replicate N false).set 0 true).set 1 true):=Jd rfl zQ
  rw[W3 (Fs 1) 1 (by rw[Ds];omega) zO,V7 zO zO,U,hm,U,h0,U,h1,U,h2,U,h3,U]
  exact⟨_,rfl⟩
 refine⟨b1,r,?_⟩
 have hv:Gp (d0 N) (Fs 1) 1 7=some (some v0,0):=by
  unfold Gp ZA
  rw[if_pos (by rw[Ds];omega),U,V7 zO zO,CB (by simp[Ds]) (by simp[Ds]),U]
  rfl
 have hring:FG n 1=some (Fs 1):=fj 1 zO zO
 unfold Gs
 rw[jR zO zO,U,U,hr,U,U]
 show(FG n 1).bind _=_
 rw[hring,U]
 show(Gp (d0 N) (Fs 1) 1 7).bind _=_
 rw[hv,U,U,U,hb1,U,U]
 rfl
theorem Xb{n:Nat}(l:List AP)(hn:l.length<n)(hb:l.length≤1000000):IV n l l=some true:=by
 unfold IV
 rw[show(!decide ((l.length:Int)=(l.length:Int)))=false by simp,BD]
 unfold Ki
 refine Dq (fun i=>(i:Int)) l.length (fun i hi k=>?_) (fun k=>?_) hn
 unfold HA
 have h1:Ao l (i:Int)=some l[i]:=by rw[Ft];exact List.getElem?_eq_getElem hi
 rw[zt zO,Be,h1,U,U,A9,A8 zO zO]
 simp
 unfold HA
 rw[zf zO,BD]
 rfl
theorem WE{n:Nat}(l:List BG)(hn:l.length<n)(hb:l.length≤1000000):Jn n l l=some true:=by
 unfold Jn
 rw[show(!decide ((l.length:Int)=(l.length:Int)))=false by simp,BD]
 unfold Kl
 refine Dq (fun i=>(i:Int)) l.length (fun i hi k=>?_) (fun k=>?_) hn
 unfold HM
 have h1:Ao l (i:Int)=some l[i]:=by rw[Ft];exact List.getElem?_eq_getElem hi
 rw[zt zO,Be,h1,U,U,A9,A8 zO zO]
 simp
 unfold HM
 rw[zf zO,BD]
 rfl
theorem tF(N:Nat):Sh N v0:=⟨List.nodup_nil,fun e he=>by simp[v0]at he⟩
theorem il{n N c0:Nat}{T:List UInt32}{R:List BT}{g:UInt32}{vb:Bs}{db:BM}{q:Za}{l:List AP}{t:Bc}{out:List BG}{r:Ac}(hn:2110≤n)(hl:Cx l=true)(hb:Ke n l=some (t,0))(hT:Tr n l t)(hR:RR n t out r)
(S:ka N c0 R g vb db q)(hrd:∀s∈out,Rd T R N q.v q.d s)(ho:out.length=OC n t):Jk out=some r∧Qi n T q.v q.d r=some (l,out,0):=by
 have hpg:=Yk hT (MB hl)
 have hl1:=MB hl
 constructor
 obtain⟨a,s,rfl⟩:=hR.lastE
 simp only[List.length_append,List.length_singleton]at ho
 exact nB zO
 exact nn hn hl hb hT hR (fun s hs=>⟨((hrd s hs).ok S.vs).1,((hrd s hs).ok S.vs).2.1⟩) zO
theorem eQ{T:List UInt32}{th:List (LO×Ac)}(hth:∀k:LO,D1 th k=none):∀(seg:List BG) (q q':Za),N8 (Sc T th) q seg q'→q'.tk.length=q.tk.length+seg.length
 | [],q,q',h=>by rw[show q=q' from h];rfl
 | s::seg,q,q',h=>by
  obtain⟨q1,h1,h2⟩:=h
  have ih:=eQ hth seg q1 q' h2
  unfold Sc at h1
  obtain⟨k,hk,h1⟩:=bnd h1
  rw[hth k,show(none:Option Ac).isSome=false from rfl,BD]at h1
  obtain⟨y,hy,h1⟩:=bnd h1
  cases he:decide (y.2.1=0)with
  | true=>
   rw[he,Be]at h1
   obtain⟨l,hl,h1⟩:=bnd h1
   have h3:=zI h1
   have hq:q1=⟨l,y.2.2.1,y.2.2.2⟩:=(congrArg Prod.snd h3).symm
   unfold Cp at hl
   split at hl
   have hl:=zI hl
   rw[ih,hq,←hl]
   simp only[List.length_append,List.length_cons,List.length_nil]
   omega
   cases hl
  | false=>
   rw[he,BD]at h1
   have h3:=congrArg (fun z=>z.1.2) (zI h1)
   simp only at h3
   rw[h3]at he
   simp at he
abbrev T4:List AP:=[⟨1,0,0,[]⟩,⟨2,0,0,[]⟩,⟨3,0,0,[]⟩,⟨4,0,0,[]⟩,⟨5,0,0,[]⟩,⟨6,8,0,[]⟩]
abbrev im:Bc:=.mk 0 0 4 [] [.mk 0 0 0 [⟨1,0,0,[]⟩,⟨2,0,0,[]⟩,⟨3,0,0,[]⟩,⟨4,0,0,[]⟩,⟨5,0,0,[]⟩] [],.mk 8 0 0 [⟨6,8,0,[]⟩] []]
theorem al:Cx T4=true:=by decide +kernel
end

section
end

section
theorem AR.uniq{c c':Bb}{l:List AP}{L L':Nat}(hl:l≠[])(A:AR c l L)(A':AR c' l L'):c=c'∧L=L':=by
 have key:∀ {c c':Bb} {L L':Nat},AR c l L→AR c' l L'→¬L<L':=by
  intro c c' L L' A A' h
  obtain⟨r,hr,s,hs,hne⟩:=A'.two zO
  refine hne ?_
  have hd:∀ {a b:Nat},a / 2^L=b / 2^L→a / 2^(L'-1)=b / 2^(L'-1):=by
   intro a b e
   have:2^(L'-1)=2^L*2^(L'-1-L):=by rw[←Nat.pow_add];congr 1;omega
   rw[this,←Nat.div_div_eq_div_mul,←Nat.div_div_eq_div_mul,e]
  unfold qd
  rw[hd ((A.inn r hr).1.trans (A.inn s hs).1.symm),hd ((A.inn r hr).2.trans (A.inn s hs).2.symm)]
 have hL:L=L':=by
  have h1:=key A A'
  have h2:=key A' A
  omega
 subst hL
 refine⟨?_,rfl⟩
 obtain⟨r,hr⟩:=List.exists_mem_of_ne_nil l hl
 have e1:=(A.inn r hr).1.symm.trans (A'.inn r hr).1
 have e2:=(A.inn r hr).2.symm.trans (A'.inn r hr).2
 have m:∀ {a b P:Nat},a%P=0→b%P=0→a / P=b / P→a=b:=by
  intro a b P h1 h2 h3
  have g1:=Nat.div_add_mod a P
  have g2:=Nat.div_add_mod b P
  rw[h1,h3]at g1
  rw[h2]at g2
  omega
 have x:=UInt32.toNat_inj.1 (m A.cx A'.cx e1)
 have y:=UInt32.toNat_inj.1 (m A.cy A'.cy e2)
 have z:=A.lev.trans A'.lev.symm
 cases c
 cases c'
 simp only at x y z
 rw[x,y,z]
theorem WT{R R':List AP→Bc→Prop}(h:∀x a b,R x a→R' x b→a=b):∀ {xs:List (List AP)} {as' bs':List Bc},R5 R xs as'→R5 R' xs bs'→as'=bs'
 | [],_,_,.nil,.nil=>rfl
 | _::_,_,_,.cons h1 h2,.cons h3 h4=>by rw[h _ _ _ h1 h3,WT h h2 h4]
theorem Tr.uniq:∀ {f f':Nat} {l:List AP} {t t':Bc} ,Tr f l t→Tr f' l t'→t=t'
 | 0,_,_,_,_,h,_=>h.elim
 | _+1,0,_,_,_,_,h=>h.elim
 | f+1,f'+1,l,t,t',h,h'=>by
  rcases h with⟨rfl,rfl⟩ | ⟨hne,c,L,A,h⟩
  rcases h' with⟨_,rfl⟩ | ⟨hne,_⟩
  rfl
  exact absurd rfl hne
  rcases h' with⟨h0,_⟩ | ⟨_,c',L',A',h'⟩
  exact absurd h0 hne
  obtain⟨rfl,rfl⟩:=A.uniq hne A'
  rcases h with⟨h1,rfl⟩ | ⟨h1,h2,ks,rfl,hk⟩
  rcases h' with⟨_,rfl⟩ | ⟨h3,h4,_⟩
  rfl
  omega
  rcases h' with⟨h3,_⟩ | ⟨_,_,ks',rfl,hk'⟩
  omega
  rw[WT (R:=Tr f) (R':=Tr f') (fun x a b ha hb=>Tr.uniq ha hb) hk hk']
abbrev uG(s:BG):Ac:=⟨s.page,s.tag⟩
structure um(xs:List BR)(seg:List BG)(rows:List AP)(roots:List Ac):Prop where
 txt:seg.map (·.txt)=xs.map Cj
 ok:∀x∈xs,CL x=true
 rws:(xs.flatMap (·.rows)).Perm rows
 rfs:(xs.flatMap V5++roots).Perm (seg.map uG)
end

section
variable {K:Nat→Prop}{w0:World}{H:List AV}
def Qx(q:Bb):List AP→List AP→Option (List AP)
 | [],acc=>some acc
 | r::l,acc=>(FT q r.x r.y).bind fun b=>cond b ((Cp 32 acc [r]).bind fun a=>Qx q l a) (Qx q l acc)
def Qz(rec_:List AP→Option Bc)(c:Bb)(l:List AP):Nat→Nat→List Bc→Option (List Bc)
 | 0,_,acc=>some acc
 | m+1,i,acc=>(G6 c (i:Int)).bind fun q=>(Qx q.1 l []).bind fun p=>cond (decide (0<(p.length:Int))) ((rec_ p).bind fun n=>(Cp 64 acc [n]).bind fun a=>Qz rec_ c l m (i+1) a) (Qz rec_ c l m (i+1) acc)
def PY(n:Nat):Nat→List AP→Option Bc
 | 0,_=>none
 | f+1,l=>
  if 1048576<l.length then none else cond (decide ((l.length:Int)=0)) (some (.mk 0 0 0 [] []))
   ((Hj n l).bind fun c=>cond (decide ((l.length:Int)≤4)||decide (c.lev=0)) ((aZ 32 (l.length:Int)).bind fun _=>(Cp 32 [] l).bind fun rs=>some (.mk c.x c.y c.lev rs []))
    ((Qz (PY n f) c l 4 0 []).bind fun ks=>some (.mk c.x c.y c.lev [] ks)))
theorem aB(n:Nat):∀(f:Nat) {K:Nat→Prop} {w0:World} {H:List AV} {v:Value} {l:List AP} {t:Bc},PY n f l=some t→CJ K w0 AJ 4 v l→
  zC K w0 64 [v] [] H (fun u M=>∃(nv:Et) (L:GT),u=.agg (B9 nv).toArray∧MR L nv t∧M=[Fd L])
 | 0,K,w0,H,v,l,t,h,_=>by cases h
 | f+1,K,w0,H,v,l,t,h,hs=>by
  have h:(if 1048576<l.length then none else cond (decide ((l.length:Int)=0)) (some (.mk 0 0 0 [] []))
   ((Hj n l).bind fun c=>cond (decide ((l.length:Int)≤4)||decide (c.lev=0)) ((aZ 32 (l.length:Int)).bind fun _=>(Cp 32 [] l).bind fun rs=>some (.mk c.x c.y c.lev rs []))
    ((Qz (PY n f) c l 4 0 []).bind fun ks=>some (.mk c.x c.y c.lev [] ks))))=some t:=h
  by_cases hbig:1048576<l.length
  rw[if_pos hbig]at h;cases h
  rw[if_neg hbig]at h
  refine UJ.enter Tryz.func64 rfl rfl ?_
  refine Z ?_
  refine Ag E I4 zU fun b2=>?_
  refine Y (AE (Z (J E (B1 hs E Bt E (V E CH (Y ?_))))))
  refine As E (fun hc1=>?_) (fun hc1=>?_)
  rw[hc1,Be]at h
  obtain rfl:=zI h
  refine Z (BK [] E aq Zs I4 zT E (Aj 0 E E E E Ia E E E zT (Y (AL (Aa (XM ?_))))))
  exact AX (FD E (BC 1 [AA 0,AA 0,vI 0,zN,zN] MK E E E E)) (AY (M:=[_]) ⟨⟨0,0,0,⟨none,0,0⟩,⟨none,0,0⟩⟩,[],E,.mk (RT.nil fun _=>rfl) (RT.nil fun _=>rfl) (kvs:=[]) E (fun i a b ha=>by simp at ha),E⟩ fun _ hw=>BZ.pick (H:=[_,_]) hw [0] 2 E)
  rw[hc1,BD]at h
  refine AC h fun c hc h=>?_
  refine AI (AG (Z (J E (AQ 0 sF (Wq hc hs) E (BK [_] E aq Zs I4 ⟨E,zT⟩ E ?_)))))
  refine Ag E I4 zU fun b3=>?_
  refine Aj 0 E E E E Ia E E E zT (Y ?_)
  try dsimp only
  refine AE (Z (J E (B1 hs E Bt E (V E IK (J E ?_)))))
  refine DL (c:=decide (c.lev=0)) 20 5 25 E (fun hb k=>?_) (fun hb k=>?_) ?_
  refine AB E (AB E (AB E (AB E (Ae E E E ?_))))
  exact k.mono tL
  refine AD E OD (AD E EX (AF 0 D3 E (V E CH (Ae E E E ?_))))
  exact k.mono tL
  refine Y ?_
  refine As E (fun hc2=>?_) (fun hc2=>?_)
  rw[hc2,Be]at h
  refine AC h fun u0 hu0 h=>?_
  refine AC h fun rs hrs h=>?_
  obtain rfl:=zI h
  refine Z (J E (B1 hs E Bt E ?_))
  refine pw hu0 AJ E Bt B2 Oq EJ E E E zU fun v0=>?_
  refine J E ?_
  refine U4 0 hrs hs (sz:=4) (enc:=AJ) zV E Bt B2 Oq EJ E zD E E E (by simp[AJ,Value.oneCell']) zU fun v1=>?_
  refine AD E S9 ?_
  refine Br 0 E fun hv1 ho1=>?_
  refine Dy 1 E E E E K8 hv1 ho1 E zT (Y (Z (Ab [AA c.x,AA c.y,vI c.lev,v1,zN] E MK E E (AZ 1 E) ?_)))
  refine QN 0 E fun s0 hs0=>?_
  subst hs0
  refine Aj 2 E E E E Ia E (List.all_eq_true.2 (Hy ⟨c.x,c.y,c.lev,s0,⟨none,0,0⟩⟩)) E zT (Y (AL (Aa ?_)))
  refine Qu zV fun L hL=>?_
  exact AX (FD E (BC 2 [AA c.x,AA c.y,vI c.lev,s0.val,zN] MK E E E E)) (AY (M:=[_]) ⟨⟨c.x,c.y,c.lev,s0,⟨none,0,0⟩⟩,L,E,.mk hL (RT.nil fun _=>rfl) (kvs:=[]) E (fun i a b ha=>by simp at ha),E⟩ fun _ hw=>BZ.pick (H:=[_,_,_]) hw [0] 3 E)
  rw[hc2,BD]at h
  refine AC h fun ks hks h=>?_
  obtain rfl:=zI h
  refine AI (AG (AE (Z (O E (Y (Ox 57 5 B9 (jX (AM ?_))))))))
  refine SX.mono (A5 (α:=Nat×List Et×List Bc×Value×GT) (fun x=>x.1≤4∧Qz (PY n f) c l (4-x.1) x.1 x.2.2.1=some ks∧TB x.2.2.2.2 x.2.1 x.2.2.1) (fun x=>[(0,v),(2,vP b2 0),(3,vP b3 0),(4,vI x.1)])
    (fun x=>Fd x.2.2.2.2::AH 57 5 x.2.2.2.1 B9 x.2.1::AN b3 (.cells #[AA c.x,AA c.y,vI c.lev,zN,x.2.2.2.1] 57)::AN b2 (.cells #[AA 0,AA 0,vI 0,zN,zN] 57)::H)
    (fun x=>4-x.1) (fun x D hp=>?_) (0,[],[],zN,[]) ⟨Nat.zero_le _,hks,rfl,fun i a b ha=>by simp at ha⟩) tL
  obtain⟨i,gs,ks',kv,L⟩:=x
  obtain⟨hi,hkf,hkz⟩:=hp
  dsimp only at hi hkf hkz ⊢
  refine AE (Z (J E (V E Aw (Y ?_))))
  refine As E (fun hc4=>?_) (fun hc4=>?_)
  have hlt:i<4:=by have:=of_decide_eq_true hc4;omega
  clear hc4
  rw[show 4-i=(4-(i+1))+1 by omega]at hkf
  obtain⟨⟨q,eq⟩,hq,hkf⟩:=bnd hkf
  obtain⟨p,hpt,hkf⟩:=bnd hkf
  dsimp only at hpt
  refine AI (AG (AE (AM (Z (AD rfl OD (Ab [AA c.x,AA c.y,vI c.lev] rfl Eg rfl rfl (Cd 2 rfl (by rintro(_ | _ | _ | j) u hj<;>first | exact hj | exact absurd hj zS)) (J rfl (AQ 0 rO (VX hq :) rfl (J rfl (Al rfl rfl rfl (Al rfl rfl rfl ?_)))))))))))
  refine Ag E J8 zU fun b5=>?_
  refine Aj 0 E E E E N7 E E E zT (O E (Y (Z (O E (Y (Ox 79 4 AJ (AE (Z (O E (Y (AM ?_)))))))))))
  refine SX.mono (A5 (α:=Nat×List AP×Value) (fun x=>x.1≤l.length∧Qx q (l.drop x.1) x.2.1=some p) (fun x=>[(0,v),(2,vP b2 0),(3,vP b3 0),(4,vI i),(5,vP b5 0),(7,x.2.2),(8,vI x.1)])
   (fun x=>AH 79 4 x.2.2 AJ x.2.1::AN b5 (.cells #[AA q.x,AA q.y,vI q.lev] 54)::Fd L::AH 57 5 kv B9 gs::AN b3 (.cells #[AA c.x,AA c.y,vI c.lev,zN,kv] 57)::AN b2 (.cells #[AA 0,AA 0,vI 0,zN,zN] 57)::H)
   (fun x=>l.length-x.1) (fun x D hp=>?_) (0,[],zN) ⟨Nat.zero_le _,hpt⟩) tL
  obtain⟨k,acc,vp⟩:=x
  obtain⟨hk,hp⟩:=hp
  dsimp only at hk hp ⊢
  refine AE (Z (J E (J E (B1 hs E Bt E (V E Aw (Y ?_))))))
  refine As E (fun hc5=>?_) (fun hc5=>?_)
  have hkl:k<l.length:=by have:=of_decide_eq_true hc5;omega
  have hr:Ao l (k:Int)=some l[k]:=by simp[Ao,hkl]
  rw[List.drop_eq_getElem_cons hkl]at hp
  generalize l[k]=r at hr hp
  obtain⟨b,hb,hp⟩:=bnd hp
  refine AI (AG (AE (AM (AE (Ak Ca [1] (Bo [(true,0),(true,1),(true,2),(true,3),(true,4),(true,5),(true,6),(true,7),(true,8),(true,9),(true,10),(false,11)] (.last 12 .nil)) zK (Ab [AA q.x,AA q.y,vI q.lev] E Eg E E (AZ 0 E) (J E (J E ?_))))))))
  refine Cm hr hs E Bt B2 E E fun be1 of1 hcc1=>?_
  refine AD E Ig ?_
  refine Bh E A6 E (DA (j:=1) hcc1 E) ?_
  refine J E (J E ?_)
  refine Cm hr hs E Bt B2 E E fun be2 of2 hcc2=>?_
  refine AD E Ii ?_
  refine Bh E A6 E (DA (j:=2) hcc2 E) ?_
  refine BO 0 iQ (Q7 hb :) E ⟨⟨1,E⟩,zT⟩ (BN (O E (Y (Z (J E (Y ?_))))))
  refine AT hp E (fun hc6 hp=>?_) fun hc6 hp=>?_
  obtain⟨u,hu,hp⟩:=bnd hp
  refine AK (J E (J E (J E ?_)))
  refine Cm hr hs E Bt B2 E E fun be3 of3 hcc3=>?_
  refine Ab (AJ r) E Eo E E (C2 hcc3) ?_
  refine Bz [_] E Bt B2 EJ ⟨E,zT⟩ E E E (by intro v hv;simp only[List.mem_cons,List.not_mem_nil,or_false]at hv;subst hv;rfl) E E zU fun b7=>?_
  refine B4 AJ 4 ([r]:List AP) E zV E ?_
  refine CW 1 hu (sz:=4) (enc:=AJ) zV E Bt B2 Oq EJ E zD E E E E (By (sz:=4) (enc:=AJ) 0 zV E) (by simp[AJ,Value.oneCell']) zU fun v7=>?_
  refine O E (AU (An (AG (AK (J E (V E (BU zO zO) (O E (AU ?_))))))))
  exact Ai (k+1,u,v7) ⟨hkl,hp⟩ (by dsimp only;omega) tL (BB [1,2,3,4,5,6] 7 E E E)
  refine AI (An (AG (AK (J E (V E (BU zO zO) (O E (AU ?_)))))))
  exact Ai (k+1,acc,vp) ⟨hkl,hp⟩ (by dsimp only;omega) tL (fun _ h=>h)
  have hle:k=l.length:=by have:=of_decide_eq_false hc5;omega
  subst hle
  rw[List.drop_length]at hp
  obtain rfl:=zI hp
  clear hc5
  refine Ax (A3 (BL (Az (AG (Z (J E (D0 0 E Bt E E (V E CY (Y ?_)))))))))
  refine AT hkf E (fun hc6 hkf=>?_) fun hc6 hkf=>?_
  obtain⟨nd,hnd,hkf⟩:=bnd hkf
  obtain⟨ac,hacc,hkf⟩:=bnd hkf
  refine Ak Ca [4] (Bo [(true,0),(true,1),(true,2),(false,3),(false,4),(false,5),(true,6)] (.last 7 .nil)) zK (AD E JT (AF 0 Tp E (J E ?_)))
  refine Bm (vs:=[_]) (Hin:=[_]) (Hr:=_::_::_::_::_::_) E E ⟨E,zT⟩ nU E E (Cb (B:=[_]) (Hin:=[]) fun K' w1 hk hB=>aB n f hnd (CC (e:=79) zV (hB _ zS))) ?_
  rintro _ _ ⟨_,rfl,nv,L2,rfl,hnz,rfl⟩
  refine⟨⟨⟨5,rfl⟩,trivial⟩,?_⟩
  obtain⟨hg,rfl⟩:=QH (xs':=gs) (ys':=[nv]) hacc hkz.1 rfl
  refine Bz [_] E OB Ia I4 ⟨E,zT⟩ E E E (by intro v hv;simp only[List.mem_cons,List.not_mem_nil,or_false]at hv;subst hv;rfl) E E (fun _=>⟨⟨6,E⟩,zT⟩) fun b7=>?_
  refine B4 B9 5 ([nv]:List Et) E zV E ?_
  refine CW 5 hg (sz:=5) (enc:=B9) zV E OB Ia fB I4 E zD E E E E (By (sz:=5) (enc:=B9) 0 zV E) Hy (fun _=>⟨⟨6,E⟩,zT⟩) fun v7=>?_
  refine AD E JT (BN ?_)
  refine Br 5 E fun hv7 ho7=>?_
  refine Dy 6 E E E E f5 hv7 ho7 E zT (AU (An (AG ?_)))
  refine SX.heap (H':=Fd L::Fd L2::AH 57 5 v7 B9 (gs++[nv])::AN b3 (.cells #[AA c.x,AA c.y,vI c.lev,zN,v7] 57)::AN b2 (.cells #[AA 0,AA 0,vI 0,zN,zN] 57)::H) (Oi ?_) (BB [4,2,5,6,7] 8 E E E)
  refine AK (J E (V E (BU zO zO) (O E (AU ?_))))
  exact Ai (i+1,gs++[nv],ks'++[nd],v7,L++L2) ⟨by omega,hkf,(hkz.mono fun p hp=>List.mem_append_left _ hp).snoc (hnz.mono fun p hp=>List.mem_append_right _ hp)⟩ (by dsimp only;omega) tL (fun _ h=>h)
  refine AI (An (AG (AK (J E (V E (BU zO zO) (O E (AU ?_)))))))
  exact Ai (i+1,gs,ks',kv,L) ⟨by omega,hkf,hkz⟩ (by dsimp only;omega) tL (BB [2,3,4,5] 6 E E E)
  have hle:i=4:=by have:=of_decide_eq_false hc4;omega
  subst hle
  obtain rfl:=zI (show some ks'=some ks from hkf)
  refine Ax (A3 (BL (Az (AG (Z (Ab [AA c.x,AA c.y,vI c.lev,zN,kv] E MK E E (AZ 2 E) ?_))))))
  refine QN 1 E fun s0 hs0=>?_
  subst hs0
  refine Aj 3 E E E E Ia E (List.all_eq_true.2 (Hy ⟨c.x,c.y,c.lev,⟨none,0,0⟩,s0⟩)) E zT (Y (AL ?_))
  refine SQ.heap (H':=AH 57 5 s0.val B9 gs::Fd L::AN b2 (.cells #[AA c.x,AA c.y,vI c.lev,zN,s0.val] 57)::H) (Qu zV fun Lk hLk=>?_) (BB [1,0,3] 4 E E E)
  refine Yw ?_
  exact AX (FD E (BC 1 [AA c.x,AA c.y,vI c.lev,zN,s0.val] MK E E E E)) (AY (M:=[_]) ⟨⟨c.x,c.y,c.lev,⟨none,0,0⟩,s0⟩,Lk++L,E,.mk (RT.nil fun _=>rfl) (hLk.mono fun p hp=>List.mem_append_left _ hp) hkz.1 (fun i a b ha hb=>(hkz.2 i a b ha hb).mono fun p hp=>List.mem_append_right _ hp),E⟩ fun _ hw=>BZ.pick (H:=[_,_]) hw [0] 2 E)
def O8(n:Nat)(l:List AP):Option (Bc×Int):=
 (GF n l).bind fun r=>cond (!r) (some (.mk 0 0 0 [] [],80)) ((PY n n l).bind fun t=>some (t,0))
theorem iZ{n:Nat}{v:Value}{l:List AP}{r:Bc×Int}(h:O8 n l=some r)(hs:CJ K w0 AJ 4 v l):
  zC K w0 26 [v] [] H (fun u M=>∃(nv:Et) (L:GT),u=.tuple #[.agg (B9 nv).toArray,vI r.2]∧MR L nv r.1∧M=[Fd L]):=by
 unfold O8 at h
 refine AC h fun y hy h=>?_
 refine UJ.enter Tryz.func26 rfl rfl ?_
 refine Z ?_
 refine Ag E I4 zU fun b2=>?_
 refine O E (Y (Z (J E (AQ 0 mK (SM hy hs) E (O E (Y (AE (Z (J E (CN E E (Y ?_)))))))))))
 refine As E (fun hc=>?_) (fun hc=>?_)
 rw[hc,Be]at h
 obtain rfl:=zI h
 refine Z (BK [] E aq Zs I4 zT E (Aj 0 E E E E Ia E E E zT (O E (Y (AL (Aa (XM ?_)))))))
 exact AX (DR E (BC 1 [AA 0,AA 0,vI 0,zN,zN] MK E E E E) E) (AY (M:=[_]) ⟨⟨0,0,0,⟨none,0,0⟩,⟨none,0,0⟩⟩,[],E,.mk (RT.nil fun _=>rfl) (RT.nil fun _=>rfl) (kvs:=[]) E (fun i a b ha=>by simp at ha),E⟩ fun _ hw=>BZ.pick (H:=[_,_]) hw [0] 2 E)
 rw[hc,BD]at h
 refine AC h fun t ht h=>?_
 obtain rfl:=zI h
 refine AI (AG (Z (J E (Bp 0 nU (aB n n ht hs) E ?_))))
 rintro _ _ ⟨nv,L,rfl,hnz,rfl⟩
 refine Aj 1 E E E E Ia E (List.all_eq_true.2 (Hy nv)) E zT (O E (Y (AL ?_)))
 exact AX (DR E (BC 1 (B9 nv) MK E E E E) E) (AY (M:=[_]) ⟨nv,L,E,hnz,E⟩ fun _ hw=>BZ.pick (H:=[_,_]) hw [0] 2 E)
end

section
variable {K:Nat→Prop}{w0:World}{H:List AV}
end

section
theorem XO{c:Bb}{L:Nat}(h:c.lev=(L:Int))(hL:L≤31):F2 c=some (shl64 1 L):=by
 unfold F2
 rw[h,Cu zO,A9]
theorem bf{x:UInt32}{L:Nat}(hL:L≤31):WC x.toUInt64 (shl64 1 L)=some (x.toUInt64%shl64 1 L):=by
 unfold WC
 rw[if_neg]
 intro e
 have h1:=congrArg UInt64.toNat e
 rw[L3 hL]at h1
 have:=Nat.two_pow_pos L
 have h2:(0:UInt64).toNat=0:=rfl
 omega
theorem dy{c:Bb}{L:Nat}(h:c.lev=(L:Int))(hL:L≤31)(hx:c.x.toNat%2^L=0)(hy:c.y.toNat%2^L=0)(lx:c.x.toNat<2147483648)(ly:c.y.toNat<2147483648):Ee c=some true:=by
 unfold Ee
 have a:∀x:UInt32,x.toNat<2147483648→decide ((2147483648:UInt32)≤x)=false:=fun x hx=>by
  refine zf fun e=>?_
  have h1:=UInt32.le_iff_toNat_le.1 e
  have h5:(2147483648:UInt32).toNat=2147483648:=rfl
  omega
 rw[a _ lx,a _ ly,h,zf (show ¬(L:Int)<0 by omega),zf (show ¬31<(L:Int) by omega)]
 simp only[Bool.or_false,BD]
 have z:∀x:UInt32,x.toNat%2^L=0→decide (x.toUInt64%shl64 1 L=0)=true:=fun x hx=>by
  rw[decide_eq_true_eq,←UInt64.toNat_inj,UInt64.toNat_mod,UInt32.toNat_toUInt64,L3 hL,hx]
  rfl
 rw[XO h hL,U,bf hL,U,z _ hx]
 unfold FZ
 rw[Be,U,bf hL,U,z _ hy]
 rfl
def X5(c:Bb)(L:Nat)(x y:UInt32):Bool:=decide (x.toNat / 2^L=c.x.toNat / 2^L)&&decide (y.toNat / 2^L=c.y.toNat / 2^L)
theorem nH{q:Bb}{M:Nat}(x y:UInt32)(h:q.lev=(M:Int))(hM:M≤31)(hx:q.x.toNat%2^M=0)(hy:q.y.toNat%2^M=0)(lx:q.x.toNat<2147483648)(ly:q.y.toNat<2147483648):
  FT q x y=some (X5 q M x y):=by
 have hp:=Nat.two_pow_pos M
 unfold FT X5
 rw[dy h hM hx hy lx ly,U,XO h hM,U,U]
 have key:∀a b:UInt32,b.toNat%2^M=0→b.toNat<2147483648→decide (a.toNat / 2^M=b.toNat / 2^M)=(decide (b≤a)&&decide (a.toUInt64<b.toUInt64+shl64 1 M)):=by
  intro a b hb lb
  have e:(b.toUInt64+shl64 1 M).toNat=b.toNat+2^M:=by
   have h1:=L3 hM
   have h2:2^M≤2^31:=Nat.pow_le_pow_right zD hM
   rw[UInt64.toNat_add,UInt32.toNat_toUInt64,h1]
   omega
  rw[Bool.eq_iff_iff]
  simp only[Bool.and_eq_true,decide_eq_true_eq,UInt32.le_iff_toNat_le,UInt64.lt_iff_toNat_lt,←XY hp hb,e,UInt32.toNat_toUInt64]
  omega
 rw[key x q.x hx lx,key y q.y hy ly]
 generalize decide (q.x≤x)=A
 generalize decide (q.y≤y)=B
 generalize decide (x.toUInt64<q.x.toUInt64+shl64 1 M)=C
 generalize decide (y.toUInt64<q.y.toUInt64+shl64 1 M)=D
 cases A<;>cases B<;>cases C<;>cases D<;>rfl
theorem gQ{c:Bb}{l:List AP}{L:Nat}(A:AR c l L)(h0:0<L){i:Nat}(hi:i<4):∃q,G6 c (i:Int)=some (q,0)∧∀r∈l,FT q r.x r.y=some (decide (qd L r=i)):=by
 have hL:=A.le
 have hp:=Nat.two_pow_pos (L-1)
 have mx:=QX A.cx A.lx (M9 hL)
 have my:=QX A.cy A.ly (M9 hL)
 have e2:2^L=2^(L-1)*2:=by rw[←Nat.pow_succ,Nat.succ_eq_add_one,Nat.sub_add_cancel h0]
 have hh:(shl64 1 L / 2).toUInt32.toNat=2^(L-1):=by
  rw[UInt64.toNat_toUInt32,UInt64.toNat_div,L3 hL,show(2:UInt64).toNat=2 from rfl,e2,Nat.mul_div_cancel _ zD]
  show _%4294967296=_
  have:2^(L-1)≤2^31:=Nat.pow_le_pow_right zD zO
  exact Nat.mod_eq_of_lt zO
 have half:∀a:Nat,a%2^L=0→a%2^(L-1)=0∧a / 2^(L-1)%2=0:=by
  intro a ha
  rw[e2]at ha
  constructor
  rw[←Nat.mod_mul_right_mod a (2^(L-1)) 2,ha]
  simp
  rw[Nat.mod_mul]at ha
  have h5:2^(L-1)*(a / 2^(L-1)%2)=0:=zO
  rcases Nat.mul_eq_zero.1 h5 with h6 | h6
  omega
  exact h6
 obtain⟨hx2,cxe⟩:=half _ A.cx
 obtain⟨hy2,cye⟩:=half _ A.cy
 have gx:=FV (a:=c.x.toNat) h0
 have gy:=FV (a:=c.y.toNat) h0
 generalize hhd:(shl64 1 L / 2).toUInt32=hf at hh
 have hlev:wI (c.lev-1)=((L-1:Nat):Int):=by rw[A.lev,A8 zO zO];omega
 have mv:∀(a:UInt32) (b:Nat),b≤1→a.toNat+2^L≤2147483648→(a+hf*FC (b:Int)).toNat=a.toNat+b*2^(L-1):=by
  intro a b hb ha
  rw[e2]at ha
  rcases(show b=0∨b=1 by omega)with rfl | rfl
  rw[show FC ((0:Nat):Int)=0 from rfl]
  simp
  rw[show FC ((1:Nat):Int)=1 from rfl,UInt32.mul_one,UInt32.toNat_add,hh]
  omega
 have fin:∀bx by_:Nat,bx≤1→by_≤1→∀r∈l,FT ⟨c.x+hf*FC (bx:Int),c.y+hf*FC (by_:Int),wI (c.lev-1)⟩ r.x r.y=some (decide (qd L r=bx+2*by_)):=by
  intro bx by_ hbx hby r hr
  obtain⟨i1,i2⟩:=A.inn r hr
  have rx:=FV (a:=r.x.toNat) h0
  have ry:=FV (a:=r.y.toNat) h0
  have e1:=mv c.x bx hbx mx
  have e3:=mv c.y by_ hby my
  generalize c.x+hf*FC (bx:Int)=qx at e1 ⊢
  generalize c.y+hf*FC (by_:Int)=qy at e3 ⊢
  have bxl:bx*2^(L-1)≤2^(L-1):=by
   calc bx*2^(L-1)≤1*2^(L-1):=Nat.mul_le_mul_right _ hbx
    _=2^(L-1):=Nat.one_mul _
  have byl:by_*2^(L-1)≤2^(L-1):=by
   calc by_*2^(L-1)≤1*2^(L-1):=Nat.mul_le_mul_right _ hby
    _=2^(L-1):=Nat.one_mul _
  rw[nH (M:=L-1) r.x r.y (show wI (c.lev-1)=_ from hlev) zO (show qx.toNat%_=0 by rw[e1,Nat.add_mul_mod_self_right];exact hx2) (show qy.toNat%_=0 by rw[e3,Nat.add_mul_mod_self_right];exact hy2) (show qx.toNat<_ by rw[e1];omega) (show qy.toNat<_ by rw[e3];omega)]
  have f1:qx.toNat / 2^(L-1)=c.x.toNat / 2^(L-1)+bx:=by rw[e1];exact Nat.add_mul_div_right _ _ hp
  have f2:qy.toNat / 2^(L-1)=c.y.toNat / 2^(L-1)+by_:=by rw[e3];exact Nat.add_mul_div_right _ _ hp
  congr 1
  unfold X5 qd
  rw[Bool.eq_iff_iff]
  simp only[Bool.and_eq_true,decide_eq_true_eq,f1,f2]
  omega
 have run:∀bx by_:Nat,RX (i:Int) 2=some (bx:Int)→Td (i:Int) 2=some (by_:Int)→G6 c (i:Int)=some (⟨c.x+hf*FC (bx:Int),c.y+hf*FC (by_:Int),wI (c.lev-1)⟩,0):=by
  intro bx by_ h1 h2
  unfold G6
  rw[dy A.lev A.le A.cx A.cy A.lx A.ly,U,show(((!true||decide (c.lev=0))||decide ((i:Int)<0))||decide (3<(i:Int)))=false by rw[A.lev];simp;omega,BD,XO A.lev hL,U]
  unfold Pd
  rw[if_neg zD,U,h1,U,h2,U,hhd]
 rcases(show i=0∨i=1∨i=2∨i=3 by omega)with rfl | rfl | rfl | rfl
 exact⟨_,run 0 0 rfl rfl,fin 0 0 zO zO⟩
 exact⟨_,run 1 0 rfl rfl,fin 1 0 zO zO⟩
 exact⟨_,run 0 1 rfl rfl,fin 0 1 zO zO⟩
 exact⟨_,run 1 1 rfl rfl,fin 1 1 zO zO⟩
structure IC(c:Bb)(l:List AP)(L:Nat):Prop where
 lev:c.lev=(L:Int)
 le:L≤31
 cx:c.x.toNat%2^L=0
 cy:c.y.toNat%2^L=0
 lx:c.x.toNat<2147483648
 ly:c.y.toNat<2147483648
 inn:∀r∈l,r.x.toNat / 2^L=c.x.toNat / 2^L∧r.y.toNat / 2^L=c.y.toNat / 2^L
theorem AR.ic{c:Bb}{l:List AP}{L:Nat}(A:AR c l L):IC c l L:=⟨A.lev,A.le,A.cx,A.cy,A.lx,A.ly,A.inn⟩
theorem IC.has{c:Bb}{l:List AP}{L:Nat}(I:IC c l L)(x y:UInt32):FT c x y=some (X5 c L x y):=nH x y I.lev I.le I.cx I.cy I.lx I.ly
theorem Uv{S:List AP}{far r0:AP}(h0:r0∈S)(okf:GR far=true)(a1:Int)(nx:UInt32×UInt32×Int×Int→Option Bb):
  ∀(k m:Nat) (c:Bb) (L:Nat),31-L≤k→k<m→IC c S L→(0<L→(∃r∈S,∃s∈S,qd L r≠qd L s)∨¬(far.x.toNat / 2^(L-1)=r0.x.toNat / 2^(L-1)∧far.y.toNat / 2^(L-1)=r0.y.toNat / 2^(L-1)))→
   ∃c' L',AR c' (S++[far]) L'∧Fp a1 far nx m (c.x,c.y,(L:Int),X5 c L far.x far.y)=HV a1 nx c'.x c'.y c'.lev
 | _,0,_,_,_,h,_,_=>absurd h (Nat.not_lt_zero _)
 | k,m+1,c,L,hk,hm,I,ht=>by
  have e:Fp a1 far nx (m+1) (c.x,c.y,(L:Int),X5 c L far.x far.y)=F8 a1 far nx (Fp a1 far nx m) c.x c.y L (X5 c L far.x far.y):=rfl
  rw[e]
  unfold F8
  obtain⟨i1,i2⟩:=I.inn r0 h0
  cases hb:X5 c L far.x far.y with
  | true=>
   unfold X5 at hb
   simp only[Bool.and_eq_true,decide_eq_true_eq]at hb
   refine⟨c,L,⟨I.lev,I.le,I.cx,I.cy,I.lx,I.ly,fun r hr=>?_,fun h=>?_⟩,?_⟩
   rcases List.mem_append.1 hr with hr | hr
   exact I.inn r hr
   rw[List.mem_singleton.1 hr]
   exact hb
   rcases ht h with⟨r,hr,s,hs,hne⟩ | hne
   exact⟨r,List.mem_append_left _ hr,s,List.mem_append_left _ hs,hne⟩
   refine⟨r0,List.mem_append_left _ h0,far,by simp,fun e=>hne ?_⟩
   have g1:=FV (a:=r0.x.toNat) h
   have g2:=FV (a:=r0.y.toNat) h
   have g3:=FV (a:=far.x.toNat) h
   have g4:=FV (a:=far.y.toNat) h
   unfold qd at e
   omega
   rw[Bool.not_true,BD,I.lev]
  | false=>
   have hfar:=NM okf
   have hL:L<31:=by
    rcases Nat.lt_or_ge L 31 with h | h
    exact h
    have:L=31:=by have:=I.le;omega
    subst this
    unfold X5 at hb
    rw[Nat.div_eq_of_lt (show far.x.toNat<2^31 from hfar.1),Nat.div_eq_of_lt (show far.y.toNat<2^31 from hfar.2.1),Nat.div_eq_of_lt (show c.x.toNat<2^31 from I.lx),Nat.div_eq_of_lt (show c.y.toNat<2^31 from I.ly)]at hb
    simp at hb
   have hX:∀x:UInt32,(shl64 (shr64 x.toUInt64 (L+1)) (L+1)).toUInt32.toNat=x.toNat / 2^(L+1)*2^(L+1):=by
    intro x
    have hlt:=x.toNat_lt
    have h1:x.toNat / 2^(L+1)*2^(L+1)≤x.toNat:=Nat.div_mul_le_self _ _
    have h2:(shr64 x.toUInt64 (L+1)).toNat=x.toNat / 2^(L+1):=by
     unfold shr64
     rw[UInt64.toNat_ofNat',Nat.min_eq_left zO,UInt32.toNat_toUInt64]
     exact Nat.mod_eq_of_lt (Nat.lt_of_le_of_lt (Nat.div_le_self _ _) zO)
    rw[UInt64.toNat_toUInt32]
    unfold shl64
    rw[UInt64.toNat_ofNat',Nat.min_eq_left zO,h2]
    omega
   have hpp:=Nat.two_pow_pos (L+1)
   have up:∀a:Nat,a / 2^(L+1)=a / 2^L / 2:=fun a=>by rw[Nat.div_div_eq_div_mul,←Nat.pow_succ]
   have I':IC ⟨(shl64 (shr64 c.x.toUInt64 (L+1)) (L+1)).toUInt32,(shl64 (shr64 c.y.toUInt64 (L+1)) (L+1)).toUInt32,((L+1:Nat):Int)⟩ S (L+1):=by
    refine⟨rfl,by omega,?_,?_,?_,?_,fun r hr=>?_⟩
    show(shl64 _ _).toUInt32.toNat%_=0
    rw[hX]
    exact Nat.mul_mod_left _ _
    show(shl64 _ _).toUInt32.toNat%_=0
    rw[hX]
    exact Nat.mul_mod_left _ _
    show(shl64 _ _).toUInt32.toNat<_
    rw[hX]
    exact Nat.lt_of_le_of_lt (Nat.div_mul_le_self _ _) I.lx
    show(shl64 _ _).toUInt32.toNat<_
    rw[hX]
    exact Nat.lt_of_le_of_lt (Nat.div_mul_le_self _ _) I.ly
    show _=(shl64 _ _).toUInt32.toNat / _∧_=(shl64 _ _).toUInt32.toNat / _
    rw[hX,hX,Nat.mul_div_cancel _ hpp,Nat.mul_div_cancel _ hpp,up,up,up,up,(I.inn r hr).1,(I.inn r hr).2]
    exact⟨rfl,rfl⟩
   have hk1:31-(L+1)≤k-1:=by clear ht;omega
   have hk2:k-1<m:=by clear ht;omega
   obtain⟨c',L',A,e2⟩:=Uv h0 okf a1 nx (k-1) m _ (L+1) hk1 hk2 I' (fun _=>.inr (by
    rw[Nat.add_sub_cancel,i1,i2]
    intro hc
    unfold X5 at hb
    rw[hc.1,hc.2]at hb
    simp at hb))
   refine⟨c',L',A,?_⟩
   have hw:wI ((L:Int)+1)=((L+1:Nat):Int):=by rw[A8 zO zO];omega
   rw[Bool.not_false,Be,hw,Cu zO,I'.has,U]
   exact e2
theorem YB{n:Nat}{l:List AP}(hl:l≠[])(hn:l.length<n)(hn2:40≤n)(hb:l.length≤1000000)(ok:∀r∈l,GR r=true):∃c L,Hj n l=some c∧AR c l L:=by
 have key:∀(T S:List AP) (c:Bb) (L:Nat),l=S++T→S≠[]→AR c S L→∀m,T.length<m→∃c' L',C4 n l m (c.x,c.y,c.lev,(S.length:Int))=some c'∧AR c' l L':=by
  intro T
  induction T with
  | nil=>
   intro S c L hS hne A m hm
   obtain⟨m,rfl⟩:∃k,m=k+1:=⟨m-1,by omega⟩
   simp only[List.append_nil]at hS
   subst hS
   refine⟨c,L,?_,A⟩
   show D9 n l (C4 n l m) _ _ _ _=_
   unfold D9
   dsimp only
   rw[zf zO,BD]
   rfl
  | cons r T ih=>
   intro S c L hS hne A m hm
   obtain⟨m,rfl⟩:∃k,m=k+1:=⟨m-1,by omega⟩
   have hlen:l.length=S.length+(T.length+1):=by rw[hS];simp
   have hr:r∈l:=by rw[hS];simp
   have n1:Ao l (S.length:Int)=some r:=by
    rw[EF rfl,hS]
    simp
   obtain⟨r0,hr0⟩:=List.exists_mem_of_ne_nil S hne
   have hA0:=A.two
   obtain⟨c',L',A',e⟩:=Uv hr0 (ok r hr) (S.length:Int) (C4 n l m) 31 n c L zO zO A.ic (fun h=>.inl (hA0 h))
   obtain⟨c2,L2,h1,h2⟩:=ih (S++[r]) c' L' (by rw[hS];simp) zS A' m (by simp at hm;omega)
   refine⟨c2,L2,?_,h2⟩
   show D9 n l (C4 n l m) _ _ _ _=_
   unfold D9
   dsimp only
   rw[zt zO,Be,n1,U,show(⟨c.x,c.y,c.lev⟩:Bb)=c from rfl,A.ic.has,U,A.lev,e]
   unfold HV
   rw[A9,A8 zO zO]
   rw[show((S++[r]).length:Int)=(S.length:Int)+1 by simp only[List.length_append,List.length_singleton];omega]at h1
   exact h1
 obtain⟨r0,l0,rfl⟩:∃r0 l0,l=r0::l0:=by
  cases l with
  | nil=>exact absurd rfl hl
  | cons r0 l0=>exact⟨r0,l0,rfl⟩
 have h0:=NM (ok r0 zS)
 obtain⟨c,L,hc,hA⟩:=key l0 [r0] ⟨r0.x,r0.y,0⟩ 0 rfl zS ⟨rfl,by omega,by simp[Nat.mod_one],by simp[Nat.mod_one],h0.1,h0.2.1,fun r hr=>by rw[List.mem_singleton.1 hr];exact⟨rfl,rfl⟩,fun h=>absurd h (Nat.lt_irrefl _)⟩ n (by simp at hn;omega)
 refine⟨c,L,?_,hA⟩
 unfold Hj
 have n0:Ao (r0::l0) 0=some r0:=rfl
 rw[n0,U,U]
 exact hc
end

section
theorem Tu{q:Bb}{l:List AP}{L i:Nat}(hq:∀r∈l,FT q r.x r.y=some (decide (qd L r=i))):∀(T acc:List AP),(∀r∈T,r∈l)→acc.length+T.length≤100000→Qx q T acc=some (acc++T.filter fun r=>decide (qd L r=i))
 | [],acc,_,_=>by simp[Qx]
 | r::T,acc,hT,hb=>by
  simp only[List.length_cons]at hb
  unfold Qx
  rw[hq r (hT r zS),U]
  cases hd:decide (qd L r=i)with
  | false=>
   rw[BD,Tu hq T acc (fun s hs=>hT s (by simp[hs])) zO]
   simp[hd]
  | true=>
   rw[Be,CB zQ zQ,U,Tu hq T _ (fun s hs=>hT s (by simp[hs])) zQ]
   simp[hd]
theorem Yc{rec_:List AP→Option Bc}{c:Bb}{l:List AP}{L:Nat}(A:AR c l L)(h0:0<L)(hb:l.length≤1000):∀(m i:Nat) (acc:List Bc),i+m=4→
  Qz rec_ c l m i acc=Ea rec_ ((List.range' i m).map fun j=>l.filter fun r=>decide (qd L r=j)) acc
 | 0,_,_,_=>rfl
 | m+1,i,acc,h=>by
  obtain⟨q,h1,h2⟩:=gQ A h0 (i:=i) zO
  unfold Qz
  rw[h1,U,Tu h2 l [] (fun r hr=>hr) zQ,U,List.range'_succ,List.map_cons,List.nil_append]
  unfold Ea
  simp only[Yc A h0 hb m (i+1) _ zO]
theorem XT{n:Nat}(hn2:40≤n):∀(f:Nat) (l:List AP),l.length<f→(∀r∈l,GR r=true)→l.length≤1000→l.length<n→∃t,PY n f l=some t∧Tr f l t
 | 0,l,h,_,_,_=>by omega
 | f+1,l,h,ok,hb,hn=>by
  unfold PY
  rw[if_neg zO]
  by_cases hl:l=[]
  subst hl
  exact⟨.mk 0 0 0 [] [],rfl,.inl ⟨rfl,rfl⟩⟩
  have hp:=List.length_pos_iff.2 hl
  obtain⟨c,L,hc,A⟩:=YB hl hn hn2 zO ok
  rw[zf zO,BD,hc,U]
  by_cases hleaf:l.length≤4∨L=0
  rw[show(decide ((l.length:Int)≤4)||decide (c.lev=0))=true by rw[A.lev];simp;omega,Be]
  have hcap:aZ 32 (l.length:Int)=some ():=by
   unfold aZ
   rw[if_pos ⟨by omega,by omega,by omega⟩]
  rw[hcap,U,CB zQ zQ,U]
  exact⟨_,rfl,.inr ⟨hl,c,L,A,.inl ⟨hleaf,rfl⟩⟩⟩
  have h0:0<L:=zO
  rw[show(decide ((l.length:Int)≤4)||decide (c.lev=0))=false by rw[A.lev];simp;omega,BD,Yc A h0 hb 4 0 [] rfl]
  obtain⟨_,h2⟩:=PI A h0
  obtain⟨ks,h3,h4⟩:=UP (rec_:=PY n f) (R:=Tr f) (Mf L l) [] (fun p hp' hne=>by
   have hq:p∈L4 L l:=List.mem_filter.2 ⟨hp',by simpa using hne⟩
   have:=h2 p hq
   exact XT hn2 f p zO (fun r hr=>ok r ((NF hq).subset hr)) zO zO) (by simp[Mf])
  rw[show(List.range' 0 4).map (fun j=>l.filter fun r=>decide (qd L r=j))=Mf L l from rfl,h3,U]
  exact⟨_,rfl,.inr ⟨hl,c,L,A,.inr ⟨by omega,h0,ks,by simp,h4⟩⟩⟩
theorem oL{n:Nat}{l:List AP}(hn:l.length<n)(h:Cx l=true):GF n l=some true:=by
 have hb:=MB h
 unfold Cx at h
 simp only[Bool.and_eq_true,decide_eq_true_eq]at h
 have hr:=(Ng l).1 h.1.2
 have ok:∀r∈l,GR r=true:=fun r hr=>List.all_eq_true.1 h.1.1 r hr
 unfold GF
 rw[zf zO,BD]
 have key:∀(d k m:Nat),k+d=l.length→d<m→Dd l m (k:Int)=some true:=by
  intro d
  induction d with
  | zero=>
   intro k m hk hm
   obtain⟨m,rfl⟩:∃j,m=j+1:=⟨m-1,by omega⟩
   show Cy l (Dd l m) _=_
   unfold Cy
   rw[zf zO,BD]
   rfl
  | succ d ih=>
   intro k m hk hm
   obtain⟨m,rfl⟩:∃j,m=j+1:=⟨m-1,by omega⟩
   have hkl:k<l.length:=zO
   have n1:Ao l (k:Int)=some l[k]:=by rw[EF rfl,List.getElem?_eq_getElem hkl]
   have hrow:FQ l[k]=some true:=by
    have h5:=NM (ok l[k] (List.getElem_mem hkl))
    unfold FQ
    have h6:(2147483648:UInt32).toNat=2147483648:=rfl
    rw[A9,zt (UInt32.lt_iff_toNat_lt.2 zO),zt (UInt32.lt_iff_toNat_lt.2 zO),zt zO]
    rfl
   show Cy l (Dd l m) _=_
   unfold Cy
   rw[zt zO,Be,n1,U,hrow,U]
   have hor:(OF (!true) ((FZ (decide (0<(k:Int))) ((Ao l (wI ((k:Int)-1))).bind fun x2=>(Ao l (k:Int)).bind fun x3=>some (decide (x3.id≤x2.id)))).bind fun y2=>some (y2)))=some false:=by
    rcases Nat.eq_zero_or_pos k with rfl | hk0
    rfl
    have n2:Ao l (wI ((k:Int)-1))=some l[k-1]:=by
     rw[A8 zO zO,EF (k:=k-1) zO,List.getElem?_eq_getElem zO]
    have hlt:=List.pairwise_iff_getElem.1 hr (k-1) k zO hkl zO
    have h7:decide (l[k].id≤l[k-1].id)=false:=zf fun e=>by
     have e1:=UInt64.le_iff_toNat_le.1 e
     have e2:=UInt64.lt_iff_toNat_lt.1 hlt
     omega
    rw[zt zO,n2,n1]
    simp only[OF,FZ,Bool.not_true,BD,Be,U,h7]
   rw[n1]at hor
   rw[hor,U,BD,A9,A8 zO zO]
   exact ih (k+1) m zO zO
 exact key l.length 0 n zO hn
theorem fN{n:Nat}{l:List AP}(hn:1100≤n)(h:Cx l=true):∃t,O8 n l=some (t,0)∧Tr n l t:=by
 have hb:=MB h
 have h':=h
 unfold Cx at h'
 simp only[Bool.and_eq_true,decide_eq_true_eq]at h'
 obtain⟨t,h1,h2⟩:=XT (n:=n) zO n l zO (fun r hr=>List.all_eq_true.1 h'.1.1 r hr) hb zO
 refine⟨t,?_,h2⟩
 unfold O8
 rw[oL zO h,U,Bool.not_true,BD,h1,U]
end
end Go.Proofs.YtkibffdipniemaaGreatDoor
