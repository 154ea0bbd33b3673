/- The texts GG23, GG24, GG25, GG26, GG27, GG28, GG29, GG30, GG31, LG1, LG8, LG9, YI, Y1a, YF, V3f, VG1, VG2, LG10, LG11, S25, GG32, GG33, LG12, LG13, LG14, GG34, GG35, LG19, LG20, one behind the other: walks of the program, and plain laws of what it computes. Conditions: as each theorem says. -/
import Derived.Test.YtkibffdipniemaaGreatDoorMK1
import Derived.Test.YtkibffdipniemaaGreatDoorMK2
import Derived.Test.YtkibffdipniemaaGreatDoorMK3
import Derived.Test.YtkibffdipniemaaGreatDoorMK4

set_option linter.unusedVariables false
set_option linter.unusedSimpArgs false
set_option maxHeartbeats 4000000
set_option maxRecDepth 100000
namespace Go.Proofs.YtkibffdipniemaaGreatDoor
open Go
section
variable {K:Nat→Prop}{w0:World}{H:List AW}
def Tj(l7:List AM):Option (List AM):=
 some l7
def Kg(a5:Int)(nx_f_sym_l4:List AM×Int→Option (List AM))(l8:List AM)(a8:Int):Option (List AM):=
 cond (decide (a5<a8))
 (
  (Aq l8 (wI (a8-1))).bind fun x11=>
  (Aq l8 a8).bind fun x12=>
  (Aq l8 a8).bind fun x13=>
  (FR l8 a8 x11).bind fun l9=>
  (Aq l9 (wI (a8-1))).bind fun x14=>
  (FR l9 (wI (a8-1)) x12).bind fun l10=>
  ret (wI (a8-1)) fun k_2=>
  nx_f_sym_l4 (l10,k_2))
 (
  Tj l8)
def O4(a5:Int):Nat→(List AM×Int)→Option (List AM):=By fun nx x=>Kg a5 nx x.1 x.2
def Qc(n:Nat)(p2:Int)(l1:List AM)(a5:Int):Option (List AM):=
 O4 a5 n (l1,p2)
def MS(n:Nat)(p2:Int)(l1:List AM)(nx_f_sym_l3:Int×Int→Option (List AM))(a6:Int)(a7:Int):Option (List AM):=
 cond (decide (a6<a7))
 (
  ret (wI ((shr64 (BX (wI (a6+a7))) 1).toNat:Int)) fun x8=>
  (Aq l1 p2).bind fun x9=>
  (Aq l1 x8).bind fun x10=>
  (Eu x9 x10).bind fun y2=>
  cond (!(decide (y2<0)))
  (
   ret (wI (x8+1)) fun i_2=>
   nx_f_sym_l3 (i_2,a7))
  (
   nx_f_sym_l3 (a6,x8)))
 (
  Qc n p2 l1 a6)
def Tk(n:Nat)(p2:Int)(l1:List AM):Nat→(Int×Int)→Option (List AM):=By fun nx x=>MS n p2 l1 nx x.1 x.2
def MN(p3:Int)(rec_:(List AM)→Int→Int→Int→Option (List AM))(mid_1:Int)(x19:Int)(l12:List AM):Option (List AM):=
 cond ((decide (mid_1<x19))&&(decide (x19<p3)))
 (
  (rec_ l12 mid_1 x19 p3).bind fun y6=>
  some y6)
 (
  some l12)
def Nl(p1:Int)(p3:Int)(rec_:(List AM)→Int→Int→Int→Option (List AM))(mid_1:Int)(a11:Int)(x19:Int)(l11:List AM):Option (List AM):=
 cond ((decide (p1<a11))&&(decide (a11<mid_1)))
 (
  (rec_ l11 p1 a11 mid_1).bind fun y5=>
  MN p3 rec_ mid_1 x19 y5)
 (
  MN p3 rec_ mid_1 x19 l11)
def Oy(n:Nat)(p1:Int)(p2:Int)(p3:Int)(rec_:(List AM)→Int→Int→Int→Option (List AM))(l6:List AM)(mid_1:Int)(x15:Int)(a11:Int):Option (List AM):=
 ret (wI (x15-a11)) fun x19=>
 cond ((decide (a11<p2))&&(decide (p2<x19)))
 (
  (YX n l6 a11 p2 x19).bind fun y4=>
  Nl p1 p3 rec_ mid_1 a11 x19 y4)
 (
  Nl p1 p3 rec_ mid_1 a11 x19 l6)
def Ma(n:Nat)(p1:Int)(p2:Int)(p3:Int)(rec_:(List AM)→Int→Int→Int→Option (List AM))(l6:List AM)(mid_1:Int)(x15:Int)(p_1:Int)(nx_f_sym_l5:Int×Int→Option (List AM))(a12:Int)(a13:Int):Option (List AM):=
 cond (decide (a12<a13))
 (
  ret (wI ((shr64 (BX (wI (a12+a13))) 1).toNat:Int)) fun x16=>
  (Aq l6 (wI (p_1-x16))).bind fun x17=>
  (Aq l6 x16).bind fun x18=>
  (Eu x17 x18).bind fun y3=>
  cond (!(decide (y3<0)))
  (
   ret (wI (x16+1)) fun start_2=>
   nx_f_sym_l5 (start_2,a13))
  (
   nx_f_sym_l5 (a12,x16)))
 (
  Oy n p1 p2 p3 rec_ l6 mid_1 x15 a12)
def Tv(n:Nat)(p1:Int)(p2:Int)(p3:Int)(rec_:(List AM)→Int→Int→Int→Option (List AM))(l6:List AM)(mid_1:Int)(x15:Int)(p_1:Int):Nat→(Int×Int)→Option (List AM):=By fun nx x=>Ma n p1 p2 p3 rec_ l6 mid_1 x15 p_1 nx x.1 x.2
def Ow(n:Nat)(p1:Int)(p2:Int)(p3:Int)(rec_:(List AM)→Int→Int→Int→Option (List AM))(l6:List AM)(mid_1:Int)(x15:Int)(a9:Int)(a10:Int):Option (List AM):=
 ret (wI (x15-1)) fun p_1=>
 Tv n p1 p2 p3 rec_ l6 mid_1 x15 p_1 n (a9,a10)
def RH(n:Nat)(p1:Int)(p2:Int)(p3:Int)(rec_:(List AM)→Int→Int→Int→Option (List AM))(l6:List AM):Option (List AM):=
 ret (wI ((shr64 (BX (wI (p1+p3))) 1).toNat:Int)) fun mid_1=>
 ret (wI (mid_1+p2)) fun x15=>
 cond (decide (mid_1<p2))
 (
  ret (wI (x15-p3)) fun start_1=>
  Ow n p1 p2 p3 rec_ l6 mid_1 x15 start_1 mid_1)
 (
  Ow n p1 p2 p3 rec_ l6 mid_1 x15 p1 p2)
def TT(n:Nat)(p1:Int)(p2:Int)(p3:Int)(rec_:(List AM)→Int→Int→Int→Option (List AM))(l1:List AM):Option (List AM):=
 cond (decide (wI (p3-p2)=1))
 (
  Tk n p2 l1 n (p1,p2))
 (
  RH n p1 p2 p3 rec_ l1)
def Tn(l2:List AM):Option (List AM):=
 some l2
def Ki(a1:Int)(nx_f_sym_l2:List AM×Int→Option (List AM))(l3:List AM)(a4:Int):Option (List AM):=
 cond (decide (a4<wI (a1-1)))
 (
  (Aq l3 (wI (a4+1))).bind fun x4=>
  (Aq l3 a4).bind fun x5=>
  (Aq l3 a4).bind fun x6=>
  (FR l3 a4 x4).bind fun l4=>
  (Aq l4 (wI (a4+1))).bind fun x7=>
  (FR l4 (wI (a4+1)) x5).bind fun l5=>
  ret (wI (a4+1)) fun k_1=>
  nx_f_sym_l2 (l5,k_1))
 (
  Tn l3)
def Ox(a1:Int):Nat→(List AM×Int)→Option (List AM):=By fun nx x=>Ki a1 nx x.1 x.2
def Q3(n:Nat)(p0:List AM)(p1:Int)(a1:Int):Option (List AM):=
 Ox a1 n (p0,p1)
def Mf(n:Nat)(p0:List AM)(p1:Int)(nx_f_sym_l1:Int×Int→Option (List AM))(a2:Int)(a3:Int):Option (List AM):=
 cond (decide (a2<a3))
 (
  ret (wI ((shr64 (BX (wI (a2+a3))) 1).toNat:Int)) fun x1=>
  (Aq p0 x1).bind fun x2=>
  (Aq p0 p1).bind fun x3=>
  (Eu x2 x3).bind fun y1=>
  cond (decide (y1<0))
  (
   ret (wI (x1+1)) fun i_1=>
   nx_f_sym_l1 (i_1,a3))
  (
   nx_f_sym_l1 (a2,x1)))
 (
  Q3 n p0 p1 a2)
def TV(n:Nat)(p0:List AM)(p1:Int):Nat→(Int×Int)→Option (List AM):=By fun nx x=>Mf n p0 p1 nx x.1 x.2
def Zg(rec_:(List AM)→Int→Int→Int→Option (List AM))(n:Nat)(p0:List AM)(p1:Int)(p2:Int)(p3:Int):Option (List AM):=
 cond (decide (wI (p2-p1)=1))
 (
  TV n p0 p1 n (p2,p3))
 (
  TT n p1 p2 p3 rec_ p0)
theorem vX{rec_:(List AM)→Int→Int→Int→Option (List AM)}{n:Nat}{B6:Value}{p0 r:List AM}{p1 p2 p3:Int}(h:Zg rec_ n p0 p1 p2 p3=some r)(hrec:∀ {H:List AW} {B6:Value} {p0:List AM} {p1:Int} {p2:Int} {p3:Int} {r:List AM},rec_ p0 p1 p2 p3=some r→zC K w0 124 [B6,vI p1,vI p2,vI p3,.func (.func 50) #[] #[]] [AH 79 4 B6 AJ p0] H (fun u M=>u=.tuple #[]∧M=[AH 79 4 B6 AJ r])):zC K w0 124 [B6,vI p1,vI p2,vI p3,.func (.func 50) #[] #[]] [AH 79 4 B6 AJ p0] H (fun u M=>u=.tuple #[]∧M=[AH 79 4 B6 AJ r]):=by
 unfold Zg at h
 refine Ua.enter Tryz.func124 rfl rfl ?_
 refine A5 (α:=List AM) (fun x=>TT n p1 p2 p3 rec_ x=some r) (fun x=>[(0,B6),(1,vI p1),(2,vI p2),(3,vI p3),(4,.func (.func 50) #[] #[])]) (fun x=>AH 79 4 B6 AJ x::H) ?_ (fun l1 D h=>?_)
 refine Z (J E (J E (Y E B5 (Y E CE (V ?_)))))
 refine AT h E (fun hc1 h=>?_) fun hc1 h=>?_
 refine Z (J E (O E (V (Z (J E (O E (V ?_)))))))
 refine A5 (α:=Int) (fun x=>Q3 n p0 p1 x=some r) (fun x=>[(0,B6),(1,vI p1),(10,vI x)]) (fun x=>AH 79 4 B6 AJ p0::H) ?_ (fun a1 D h=>?_)
 refine AN ?_
 refine SX.heap (SX.mono (A6 (α:=Nat×Int×Int) (fun x=>TV n p0 p1 x.1 (x.2.1,x.2.2)=some r) (fun x=>[(0,B6),(1,vI p1),(4,.func (.func 50) #[] #[]),(10,vI x.2.1),(11,vI x.2.2)]) (fun x=>AH 79 4 B6 AJ p0::H) (fun x=>x.1) (fun x D h=>?_) (n,p2,p3) h) tL) (BG [0] 1 E E E)
 obtain⟨m1,a2,a3⟩:=x
 dsimp only at h
 rcases m1 with _ | m1
 cases (show(none:Option _)=some r from h)
 replace h:Mf n p0 p1 (TV n p0 p1 m1) a2 a3=some r:=h
 unfold Mf at h
 try dsimp only
 refine AE (Z (J E (J E (Y E Aw (V ?_)))))
 refine AT h E (fun hc2 h=>?_) fun hc2 h=>?_
 refine AI (AG (AN (Z ?_)))
 obtain⟨x1,ex1,h⟩:=Bp h
 refine J E (J E (Y E Az (Av E E (De FY I8) ?_)))
 refine Y E (FB.shr64 (n:=1)) ?_
 refine Av E E (Pv I8 FY) ?_
 refine An (u:=vI x1) E E (congrArg vI ex1) ?_
 refine V (AE ?_)
 refine AC h fun x2 hx2 h=>?_
 refine AC h fun x3 hx3 h=>?_
 refine AC h fun y1 hy1 h=>?_
 refine Ai CY [0] (Bm [(true,0),(true,1),(true,2),(true,3),(true,4),(true,5),(true,6),(true,7),(true,8)] (.last 9 (Pl.of [(false,10)]))) zK (J E (J E (J E ?_)))
 refine BR 0 hx2 E Bt B4 E E E fun g1 m2 cp1 hv1=>?_
 refine Ac (AJ x2) E Ex E E (Cd (sz:=4) (enc:=AJ) 0 zV E hv1 hx2) ?_
 refine J E (J E ?_)
 refine BR 0 hx3 E Bt B4 E E E fun g2 m3 cp2 hv2=>?_
 refine Ac (AJ x3) E Ex E E (Cd (sz:=4) (enc:=AJ) 0 zV E hv2 hx3) ?_
 refine BK (AQ 0 ec ((L7 hy1 :)) E (Y E Aw (V ?_)))
 refine AT h E (fun hc3 h=>?_) fun hc3 h=>?_
 refine AK ?_
 obtain⟨i_1,ei_1,h⟩:=Bp h
 refine J E (Y E Az ?_)
 refine An (u:=vI i_1) E E (congrArg vI ei_1) ?_
 refine AU (Ao ?_)
 exact Al (m1,i_1,a3) h (Nat.lt_succ_self _) tL (BG [0] 1 E E E)
 refine AK (J E (O E (AU (Ao ?_))))
 exact Al (m1,a2,x1) h (Nat.lt_succ_self _) tL (BG [0] 1 E E E)
 refine Ax (A3 (BO (A0 ?_)))
 exact Au a2 h tL (BG [0] 1 E E E)
 unfold Q3 at h
 try dsimp only
 refine A5 (α:=List AM) (fun x=>Tn x=some r) (fun x=>[(0,B6)]) (fun x=>AH 79 4 B6 AJ x::H) ?_ (fun l2 D h=>?_)
 refine Z (J E (O E (V (AN ?_))))
 refine SX.heap (SX.mono (A6 (α:=Nat×List AM×Int) (fun x=>Ox a1 x.1 (x.2.1,x.2.2)=some r) (fun x=>[(0,B6),(10,vI a1),(13,vI x.2.2)]) (fun x=>AH 79 4 B6 AJ x.2.1::H) (fun x=>x.1) (fun x D h=>?_) (n,p0,p1) h) tL) (BG [0] 1 E E E)
 obtain⟨m4,l3,a4⟩:=x
 dsimp only at h
 rcases m4 with _ | m4
 cases (show(none:Option _)=some r from h)
 replace h:Ki a1 (Ox a1 m4) l3 a4=some r:=h
 unfold Ki at h
 try dsimp only
 refine AE (Z (J E (J E (Y E B5 (Y E Aw (V ?_))))))
 refine AT h E (fun hc4 h=>?_) fun hc4 h=>?_
 refine AI (AG (AE (AN ?_)))
 refine AC h fun x4 hx4 h=>?_
 refine AC h fun x5 hx5 h=>?_
 refine AC h fun x6 hx6 h=>?_
 refine AC h fun l4 hl4 h=>?_
 refine AC h fun x7 hx7 h=>?_
 refine AC h fun l5 hl5 h=>?_
 refine Ai CY [] (Bm [(true,0),(true,1),(true,2),(true,3),(true,4),(true,5),(true,6),(true,7),(true,8),(true,10),(true,11),(true,12)] (.alt 9 (Bm [(false,13),(true,14),(false,15),(true,16)] (.last 17 .nil)) (.cons (false,13) (Bm [(false,9),(true,14),(false,15),(true,16)] (.last 17 .nil))))) zK (J E (J E (J E (J E (Y E Az (J E (J E ?_)))))))
 refine Y E Az ?_
 refine BR 0 hx4 E Bt B4 E E E fun g3 m5 cp3 hv3=>?_
 refine J E (J E ?_)
 refine BR 0 hx5 E Bt B4 E E E fun g4 m6 cp4 hv4=>?_
 refine Mr ?_ ?_
 refine Ac (AJ x4) E Ex E E (Cd (sz:=4) (enc:=AJ) 0 zV E hv3 hx4) ?_
 refine Ac (AJ x5) E Ex E E (Cd (sz:=4) (enc:=AJ) 0 zV E hv4 hx5) ?_
 refine BR 0 hx6 E Bt B4 E E E fun g5 m7 cp5 hv5=>?_
 refine Cz (sz:=4) (enc:=AJ) 0 hl4 zV rfl rfl rfl rfl rfl hv5 B4 (by first | (simp[Value.oneCell'];done) | simp[AJ,Value.oneCell']) trivial ?_
 refine BR 0 hx7 E Bt B4 E E E fun g6 m8 cp6 hv6=>?_
 refine BK ?_
 refine Cz (sz:=4) (enc:=AJ) 0 hl5 zV rfl rfl rfl rfl rfl hv6 B4 (by first | (simp[Value.oneCell'];done) | simp[AJ,Value.oneCell']) trivial ?_
 refine AU (Ao (AG (AK ?_)))
 obtain⟨k_1,ek_1,h⟩:=Bp h
 refine J E (Y E Az ?_)
 refine An (u:=vI k_1) E E (congrArg vI ek_1) ?_
 refine AU ?_
 exact Al (m4,l5,k_1) h (Nat.lt_succ_self _) tL (BG [0] 1 E E E)
 refine Ac (AJ x5) E Ex E E (Cd (sz:=4) (enc:=AJ) 0 zV E hv4 hx5) ?_
 refine Ac (AJ x4) E Ex E E (Cd (sz:=4) (enc:=AJ) 0 zV E hv3 hx4) ?_
 refine BR 0 hx6 E Bt B4 E E E fun g5 m7 cp5 hv5=>?_
 refine Cz (sz:=4) (enc:=AJ) 0 hl4 zV rfl rfl rfl rfl rfl hv5 B4 (by first | (simp[Value.oneCell'];done) | simp[AJ,Value.oneCell']) trivial ?_
 refine BR 0 hx7 E Bt B4 E E E fun g6 m8 cp6 hv6=>?_
 refine BK ?_
 refine Cz (sz:=4) (enc:=AJ) 0 hl5 zV rfl rfl rfl rfl rfl hv6 B4 (by first | (simp[Value.oneCell'];done) | simp[AJ,Value.oneCell']) trivial ?_
 refine AU (Ao (AG (AK ?_)))
 obtain⟨k_1,ek_1,h⟩:=Bp h
 refine J E (Y E Az ?_)
 refine An (u:=vI k_1) E E (congrArg vI ek_1) ?_
 refine AU ?_
 exact Al (m4,l5,k_1) h (Nat.lt_succ_self _) tL (BG [0] 1 E E E)
 refine Ax (A3 (BO (A0 ?_)))
 exact Au l3 h tL (BG [0] 1 E E E)
 unfold Tn at h
 try dsimp only
 refine AL (Eg ?_)
 obtain rfl:=zI h
 exact Ab [0] 1 E E E
 refine AI ?_
 exact Au p0 h tL (BG [0] 1 E E E)
 unfold TT at h
 try dsimp only
 refine A5 (α:=List AM) (fun x=>RH n p1 p2 p3 rec_ x=some r) (fun x=>[(0,B6),(1,vI p1),(2,vI p2),(3,vI p3),(4,.func (.func 50) #[] #[])]) (fun x=>AH 79 4 B6 AJ x::H) ?_ (fun l6 D h=>?_)
 refine Z (J E (J E (Y E B5 (Y E CE (V ?_)))))
 refine AT h E (fun hc5 h=>?_) fun hc5 h=>?_
 refine Z (J E (O E (V (Z (J E (O E (V ?_)))))))
 refine A5 (α:=Int) (fun x=>Qc n p2 l1 x=some r) (fun x=>[(0,B6),(2,vI p2),(14,vI x)]) (fun x=>AH 79 4 B6 AJ l1::H) ?_ (fun a5 D h=>?_)
 refine AN ?_
 refine SX.heap (SX.mono (A6 (α:=Nat×Int×Int) (fun x=>Tk n p2 l1 x.1 (x.2.1,x.2.2)=some r) (fun x=>[(0,B6),(2,vI p2),(4,.func (.func 50) #[] #[]),(14,vI x.2.1),(15,vI x.2.2)]) (fun x=>AH 79 4 B6 AJ l1::H) (fun x=>x.1) (fun x D h=>?_) (n,p1,p2) h) tL) (BG [0] 1 E E E)
 obtain⟨m9,a6,a7⟩:=x
 dsimp only at h
 rcases m9 with _ | m9
 cases (show(none:Option _)=some r from h)
 replace h:MS n p2 l1 (Tk n p2 l1 m9) a6 a7=some r:=h
 unfold MS at h
 try dsimp only
 refine AE (Z (J E (J E (Y E Aw (V ?_)))))
 refine AT h E (fun hc6 h=>?_) fun hc6 h=>?_
 refine AI (AG (AN (Z ?_)))
 obtain⟨x8,ex8,h⟩:=Bp h
 refine J E (J E (Y E Az (Av E E (De FY I8) ?_)))
 refine Y E (FB.shr64 (n:=1)) ?_
 refine Av E E (Pv I8 FY) ?_
 refine An (u:=vI x8) E E (congrArg vI ex8) ?_
 refine V (AE ?_)
 refine AC h fun x9 hx9 h=>?_
 refine AC h fun x10 hx10 h=>?_
 refine AC h fun y2 hy2 h=>?_
 refine Ai CY [0] (Bm [(true,0),(true,1),(true,2),(true,3),(true,4),(true,5),(true,6),(true,7),(true,8)] (.last 9 (Pl.of [(false,10),(false,11)]))) zK (J E (J E (J E ?_)))
 refine BR 0 hx9 E Bt B4 E E E fun g7 m10 cp7 hv7=>?_
 refine Ac (AJ x9) E Ex E E (Cd (sz:=4) (enc:=AJ) 0 zV E hv7 hx9) ?_
 refine J E (J E ?_)
 refine BR 0 hx10 E Bt B4 E E E fun g8 m11 cp8 hv8=>?_
 refine Ac (AJ x10) E Ex E E (Cd (sz:=4) (enc:=AJ) 0 zV E hv8 hx10) ?_
 refine BK (AQ 0 ec ((L7 hy2 :)) E (Y E Aw (CH E E (V ?_))))
 refine AT h E (fun hc7 h=>?_) fun hc7 h=>?_
 refine AK ?_
 obtain⟨i_2,ei_2,h⟩:=Bp h
 refine J E (Y E Az ?_)
 refine An (u:=vI i_2) E E (congrArg vI ei_2) ?_
 refine AU (Ao ?_)
 exact Al (m9,i_2,a7) h (Nat.lt_succ_self _) tL (BG [0] 1 E E E)
 refine AK (J E (O E (AU (Ao ?_))))
 exact Al (m9,a6,x8) h (Nat.lt_succ_self _) tL (BG [0] 1 E E E)
 refine Ax (A3 (BO (A0 ?_)))
 exact Au a6 h tL (BG [0] 1 E E E)
 unfold Qc at h
 try dsimp only
 refine A5 (α:=List AM) (fun x=>Tj x=some r) (fun x=>[(0,B6)]) (fun x=>AH 79 4 B6 AJ x::H) ?_ (fun l7 D h=>?_)
 refine Z (J E (O E (V (AN ?_))))
 refine SX.heap (SX.mono (A6 (α:=Nat×List AM×Int) (fun x=>O4 a5 x.1 (x.2.1,x.2.2)=some r) (fun x=>[(0,B6),(14,vI a5),(17,vI x.2.2)]) (fun x=>AH 79 4 B6 AJ x.2.1::H) (fun x=>x.1) (fun x D h=>?_) (n,l1,p2) h) tL) (BG [0] 1 E E E)
 obtain⟨m12,l8,a8⟩:=x
 dsimp only at h
 rcases m12 with _ | m12
 cases (show(none:Option _)=some r from h)
 replace h:Kg a5 (O4 a5 m12) l8 a8=some r:=h
 unfold Kg at h
 try dsimp only
 refine AE (Z (J E (J E (Y E Ca (V ?_)))))
 refine AT h E (fun hc8 h=>?_) fun hc8 h=>?_
 refine AI (AG (AE (AN ?_)))
 refine AC h fun x11 hx11 h=>?_
 refine AC h fun x12 hx12 h=>?_
 refine AC h fun x13 hx13 h=>?_
 refine AC h fun l9 hl9 h=>?_
 refine AC h fun x14 hx14 h=>?_
 refine AC h fun l10 hl10 h=>?_
 refine Ai CY [] (Bm [(true,0),(true,1),(true,2),(true,3),(true,4),(true,5),(true,6),(true,7),(true,8),(true,10),(true,11),(true,12)] (.alt 9 (Bm [(false,13),(true,14),(false,15),(true,16)] (.last 17 .nil)) (.cons (false,13) (Bm [(false,9),(true,14),(false,15),(true,16)] (.last 17 .nil))))) zK (J E (J E (J E (J E (Y E B5 (J E (J E ?_)))))))
 refine Y E B5 ?_
 refine BR 0 hx11 E Bt B4 E E E fun g9 m13 cp9 hv9=>?_
 refine J E (J E ?_)
 refine BR 0 hx12 E Bt B4 E E E fun g10 m14 cp10 hv10=>?_
 refine Mr ?_ ?_
 refine Ac (AJ x11) E Ex E E (Cd (sz:=4) (enc:=AJ) 0 zV E hv9 hx11) ?_
 refine Ac (AJ x12) E Ex E E (Cd (sz:=4) (enc:=AJ) 0 zV E hv10 hx12) ?_
 refine BR 0 hx13 E Bt B4 E E E fun g11 m15 cp11 hv11=>?_
 refine Cz (sz:=4) (enc:=AJ) 0 hl9 zV rfl rfl rfl rfl rfl hv11 B4 (by first | (simp[Value.oneCell'];done) | simp[AJ,Value.oneCell']) trivial ?_
 refine BR 0 hx14 E Bt B4 E E E fun g12 m16 cp12 hv12=>?_
 refine BK ?_
 refine Cz (sz:=4) (enc:=AJ) 0 hl10 zV rfl rfl rfl rfl rfl hv12 B4 (by first | (simp[Value.oneCell'];done) | simp[AJ,Value.oneCell']) trivial ?_
 refine AU (Ao (AG (AK ?_)))
 obtain⟨k_2,ek_2,h⟩:=Bp h
 refine J E (Y E B5 ?_)
 refine An (u:=vI k_2) E E (congrArg vI ek_2) ?_
 refine AU ?_
 exact Al (m12,l10,k_2) h (Nat.lt_succ_self _) tL (BG [0] 1 E E E)
 refine Ac (AJ x12) E Ex E E (Cd (sz:=4) (enc:=AJ) 0 zV E hv10 hx12) ?_
 refine Ac (AJ x11) E Ex E E (Cd (sz:=4) (enc:=AJ) 0 zV E hv9 hx11) ?_
 refine BR 0 hx13 E Bt B4 E E E fun g11 m15 cp11 hv11=>?_
 refine Cz (sz:=4) (enc:=AJ) 0 hl9 zV rfl rfl rfl rfl rfl hv11 B4 (by first | (simp[Value.oneCell'];done) | simp[AJ,Value.oneCell']) trivial ?_
 refine BR 0 hx14 E Bt B4 E E E fun g12 m16 cp12 hv12=>?_
 refine BK ?_
 refine Cz (sz:=4) (enc:=AJ) 0 hl10 zV rfl rfl rfl rfl rfl hv12 B4 (by first | (simp[Value.oneCell'];done) | simp[AJ,Value.oneCell']) trivial ?_
 refine AU (Ao (AG (AK ?_)))
 obtain⟨k_2,ek_2,h⟩:=Bp h
 refine J E (Y E B5 ?_)
 refine An (u:=vI k_2) E E (congrArg vI ek_2) ?_
 refine AU ?_
 exact Al (m12,l10,k_2) h (Nat.lt_succ_self _) tL (BG [0] 1 E E E)
 refine Ax (A3 (BO (A0 ?_)))
 exact Au l8 h tL (BG [0] 1 E E E)
 unfold Tj at h
 try dsimp only
 refine AL (Eg ?_)
 obtain rfl:=zI h
 exact Ab [0] 1 E E E
 refine AI ?_
 exact Au l1 h tL (BG [0] 1 E E E)
 unfold RH at h
 try dsimp only
 refine Z ?_
 obtain⟨mid_1,emid_1,h⟩:=Bp h
 refine J E (J E (Y E Az (Av E E (De FY I8) ?_)))
 refine Y E (FB.shr64 (n:=1)) ?_
 refine Av E E (Pv I8 FY) ?_
 refine An (u:=vI mid_1) E E (congrArg vI emid_1) ?_
 refine V (Z ?_)
 obtain⟨x15,ex15,h⟩:=Bp h
 refine J E (J E (Y E Az ?_))
 refine An (u:=vI x15) E E (congrArg vI ex15) ?_
 refine V (Z (O E (O E (V ?_))))
 refine A5 (α:=Int×Int) (fun x=>Ow n p1 p2 p3 rec_ l6 mid_1 x15 x.1 x.2=some r) (fun x=>[(0,B6),(1,vI p1),(2,vI p2),(3,vI p3),(4,.func (.func 50) #[] #[]),(18,vI mid_1),(19,vI x15),(20,vI x.1),(21,vI x.2)]) (fun x=>AH 79 4 B6 AJ l6::H) ?_ (fun x D h=>?_)
 refine Z (J E (J E (Y E Ca (V ?_))))
 refine AT h E (fun hc9 h=>?_) fun hc9 h=>?_
 refine Z ?_
 obtain⟨start_1,estart_1,h⟩:=Bp h
 refine J E (J E (Y E B5 ?_))
 refine An (u:=vI start_1) E E (congrArg vI estart_1) ?_
 refine V (AK (J E (O E (AU ?_))))
 exact Au (start_1,mid_1) h tL (BG [0] 1 E E E)
 refine Z (J E (O E (V (AK (J E (O E (AU ?_)))))))
 exact Au (p1,p2) h tL (BG [0] 1 E E E)
 obtain⟨a9,a10⟩:=x
 dsimp only at h
 unfold Ow at h
 try dsimp only
 refine Z ?_
 obtain⟨p_1,ep_1,h⟩:=Bp h
 refine J E (Y E B5 ?_)
 refine An (u:=vI p_1) E E (congrArg vI ep_1) ?_
 refine V ?_
 refine A5 (α:=Int) (fun x=>Oy n p1 p2 p3 rec_ l6 mid_1 x15 x=some r) (fun x=>[(0,B6),(1,vI p1),(2,vI p2),(3,vI p3),(4,.func (.func 50) #[] #[]),(18,vI mid_1),(19,vI x15),(20,vI x)]) (fun x=>AH 79 4 B6 AJ l6::H) ?_ (fun a11 D h=>?_)
 refine AN ?_
 refine SX.heap (SX.mono (A6 (α:=Nat×Int×Int) (fun x=>Tv n p1 p2 p3 rec_ l6 mid_1 x15 p_1 x.1 (x.2.1,x.2.2)=some r) (fun x=>[(0,B6),(1,vI p1),(2,vI p2),(3,vI p3),(4,.func (.func 50) #[] #[]),(18,vI mid_1),(19,vI x15),(20,vI x.2.1),(21,vI x.2.2),(22,vI p_1)]) (fun x=>AH 79 4 B6 AJ l6::H) (fun x=>x.1) (fun x D h=>?_) (n,a9,a10) h) tL) (BG [0] 1 E E E)
 obtain⟨m17,a12,a13⟩:=x
 dsimp only at h
 rcases m17 with _ | m17
 cases (show(none:Option _)=some r from h)
 replace h:Ma n p1 p2 p3 rec_ l6 mid_1 x15 p_1 (Tv n p1 p2 p3 rec_ l6 mid_1 x15 p_1 m17) a12 a13=some r:=h
 unfold Ma at h
 try dsimp only
 refine AE (Z (J E (J E (Y E Aw (V ?_)))))
 refine AT h E (fun hc10 h=>?_) fun hc10 h=>?_
 refine AI (AG (AN (Z ?_)))
 obtain⟨x16,ex16,h⟩:=Bp h
 refine J E (J E (Y E Az (Av E E (De FY I8) ?_)))
 refine Y E (FB.shr64 (n:=1)) ?_
 refine Av E E (Pv I8 FY) ?_
 refine An (u:=vI x16) E E (congrArg vI ex16) ?_
 refine V (AE ?_)
 refine AC h fun x17 hx17 h=>?_
 refine AC h fun x18 hx18 h=>?_
 refine AC h fun y3 hy3 h=>?_
 refine Ai CY [0] (Bm [(true,0),(true,1),(true,2),(true,3),(true,4),(true,5),(true,6),(true,7),(true,8),(true,9),(true,10)] (.last 11 (Pl.of [(false,12),(false,13)]))) zK (J E (J E (J E (J E (Y E B5 ?_)))))
 refine BR 0 hx17 E Bt B4 E E E fun g13 m18 cp13 hv13=>?_
 refine Ac (AJ x17) E Ex E E (Cd (sz:=4) (enc:=AJ) 0 zV E hv13 hx17) ?_
 refine J E (J E ?_)
 refine BR 0 hx18 E Bt B4 E E E fun g14 m19 cp14 hv14=>?_
 refine Ac (AJ x18) E Ex E E (Cd (sz:=4) (enc:=AJ) 0 zV E hv14 hx18) ?_
 refine BK (AQ 0 ec ((L7 hy3 :)) E (Y E Aw (CH E E (V ?_))))
 refine AT h E (fun hc11 h=>?_) fun hc11 h=>?_
 refine AK ?_
 obtain⟨start_2,estart_2,h⟩:=Bp h
 refine J E (Y E Az ?_)
 refine An (u:=vI start_2) E E (congrArg vI estart_2) ?_
 refine AU (Ao ?_)
 exact Al (m17,start_2,a13) h (Nat.lt_succ_self _) tL (BG [0] 1 E E E)
 refine AK (J E (O E (AU (Ao ?_))))
 exact Al (m17,a12,x16) h (Nat.lt_succ_self _) tL (BG [0] 1 E E E)
 refine Ax (A3 (BO (A0 ?_)))
 exact Au a12 h tL (BG [0] 1 E E E)
 unfold Oy at h
 try dsimp only
 refine Z ?_
 obtain⟨x19,ex19,h⟩:=Bp h
 refine J E (J E (Y E B5 ?_))
 refine An (u:=vI x19) E E (congrArg vI ex19) ?_
 refine V ?_
 refine A5 (α:=List AM) (fun x=>Nl p1 p3 rec_ mid_1 a11 x19 x=some r) (fun x=>[(0,B6),(1,vI p1),(3,vI p3),(4,.func (.func 50) #[] #[]),(18,vI mid_1),(20,vI a11),(24,vI x19)]) (fun x=>AH 79 4 B6 AJ x::H) ?_ (fun l11 D h=>?_)
 refine Z (J E (J E (Y E Aw (J E ?_))))
 refine C5 (c:=decide (p2<x19)) 181 4 185 E (fun hb k=>?_) (fun hb k=>?_) ?_
 refine J E (J E (Y E Aw (Ae E E E ?_)))
 exact k.mono tL
 refine AB E (AB E (AB E (Ae E E E ?_)))
 exact k.mono tL
 refine V ?_
 refine AT h E (fun hc12 h=>?_) fun hc12 h=>?_
 refine AK ?_
 refine AC h fun y4 hy4 h=>?_
 refine J E (J E (J E (J E (J E (AQ 1 qV (uZ hy4) E (AU ?_))))))
 exact Au y4 h tL (BG [0] 1 E E E)
 refine AI ?_
 exact Au l6 h tL (BG [0] 1 E E E)
 unfold Nl at h
 try dsimp only
 refine A5 (α:=List AM) (fun x=>MN p3 rec_ mid_1 x19 x=some r) (fun x=>[(0,B6),(3,vI p3),(4,.func (.func 50) #[] #[]),(18,vI mid_1),(24,vI x19)]) (fun x=>AH 79 4 B6 AJ x::H) ?_ (fun l12 D h=>?_)
 refine Z (J E (J E (Y E Aw (J E ?_))))
 refine C5 (c:=decide (a11<mid_1)) 195 4 199 E (fun hb k=>?_) (fun hb k=>?_) ?_
 refine J E (J E (Y E Aw (Ae E E E ?_)))
 exact k.mono tL
 refine AB E (AB E (AB E (Ae E E E ?_)))
 exact k.mono tL
 refine V ?_
 refine AT h E (fun hc13 h=>?_) fun hc13 h=>?_
 refine AK ?_
 refine AC h fun y5 hy5 h=>?_
 refine J E (J E (J E (J E (J E (AQ 1 Xv (hrec hy5) E (AU ?_))))))
 exact Au y5 h tL (BG [0] 1 E E E)
 refine AI ?_
 exact Au l11 h tL (BG [0] 1 E E E)
 unfold MN at h
 try dsimp only
 refine Z (J E (J E (Y E Aw (J E ?_))))
 refine C5 (c:=decide (x19<p3)) 209 4 213 E (fun hb k=>?_) (fun hb k=>?_) ?_
 refine J E (J E (Y E Aw (Ae E E E ?_)))
 exact k.mono tL
 refine AB E (AB E (AB E (Ae E E E ?_)))
 exact k.mono tL
 refine V ?_
 refine AT h E (fun hc14 h=>?_) fun hc14 h=>?_
 refine AK ?_
 refine AC h fun y6 hy6 h=>?_
 refine J E (J E (J E (J E (J E (AQ 1 Xv (hrec hy6) E (AU ?_))))))
 obtain rfl:=zI h
 exact Cy (DY E) (AY (M:=[_]) ⟨E,E⟩ fun _ hw=>Bc.pick (H:=[_]) hw [0] 1 E)
 refine AI ?_
 obtain rfl:=zI h
 exact Cy (DY E) (AY (M:=[_]) ⟨E,E⟩ fun _ hw=>Bc.pick (H:=[_]) hw [0] 1 E)
end

section
def PG(n:Nat):Nat→List AM→Int→Int→Int→Option (List AM)
 | 0=>fun _ _ _ _=>none
 | f+1=>Zg (PG n f) n
def gf(n:Nat):List AM→Int→Int→Int→Option (List AM):=PG n n
theorem kX(n:Nat):∀(f:Nat) {K:Nat→Prop} {w0:World} {H:List AW} {B6:Value} {p0:List AM} {p1 p2 p3:Int} {r:List AM},PG n f p0 p1 p2 p3=some r→zC K w0 124 [B6,vI p1,vI p2,vI p3,.func (.func 50) #[] #[]] [AH 79 4 B6 AJ p0] H (fun u M=>u=.tuple #[]∧M=[AH 79 4 B6 AJ r])
 | 0,_,_,_,_,_,_,_,_,_,h=>by cases h
 | f+1,_,_,_,_,_,_,_,_,_,h=>vX h (fun h=>kX n f h)
theorem kd{K:Nat→Prop}{w0:World}{H:List AW}{n:Nat}{B6:Value}{p0 r:List AM}{p1 p2 p3:Int}(h:gf n p0 p1 p2 p3=some r):zC K w0 124 [B6,vI p1,vI p2,vI p3,.func (.func 50) #[] #[]] [AH 79 4 B6 AJ p0] H (fun u M=>u=.tuple #[]∧M=[AH 79 4 B6 AJ r]):=kX n n h
end

section
variable {K:Nat→Prop}{w0:World}{H:List AW}
def LJ(a4:Int)(nx_f_stb_l2:List AM×Int→Option (List AM))(l6:List AM):Option (List AM):=
 ret (wI (a4*2)) fun blockSize_1=>
 nx_f_stb_l2 (l6,blockSize_1)
def NR(n:Nat)(p1:Int)(a4:Int)(nx_f_stb_l2:List AM×Int→Option (List AM))(l4:List AM)(a5:Int):Option (List AM):=
 ret (wI (a5+a4)) fun x4=>
 cond (decide (x4<p1))
 (
  (gf n l4 a5 x4 p1).bind fun y4=>
  LJ a4 nx_f_stb_l2 y4)
 (
  LJ a4 nx_f_stb_l2 l4)
def FC(n:Nat)(p1:Int)(a4:Int)(nx_f_stb_l2:List AM×Int→Option (List AM))(nx_f_stb_l3:List AM×Int×Int→Option (List AM))(l5:List AM)(a6:Int)(a7:Int):Option (List AM):=
 cond (decide (a7≤p1))
 (
  (gf n l5 a6 (wI (a6+a4)) a7).bind fun y3=>
  ret (wI (a7+(wI (2*a4)))) fun x3=>
  nx_f_stb_l3 (y3,a7,x3))
 (
  NR n p1 a4 nx_f_stb_l2 l5 a6)
def Hv(n:Nat)(p1:Int)(a4:Int)(nx_f_stb_l2:List AM×Int→Option (List AM)):Nat→(List AM×Int×Int)→Option (List AM):=By fun nx x=>FC n p1 a4 nx_f_stb_l2 nx x.1 x.2.1 x.2.2
def IA(n:Nat)(p1:Int)(nx_f_stb_l2:List AM×Int→Option (List AM))(l3:List AM)(a4:Int):Option (List AM):=
 cond (decide (a4<p1))
 (
  ret (wI (2*a4)) fun x2=>
  Hv n p1 a4 nx_f_stb_l2 n (l3,0,x2))
 (
  some l3)
def GS(n:Nat)(p1:Int):Nat→(List AM×Int)→Option (List AM):=By fun nx x=>IA n p1 nx x.1 x.2
def TO(n:Nat)(p1:Int)(l1:List AM)(a1:Int):Option (List AM):=
 (Wl n l1 a1 p1).bind fun y2=>
 GS n p1 n (y2,20)
def Kd(n:Nat)(p1:Int)(nx_f_stb_l1:List AM×Int×Int→Option (List AM))(l2:List AM)(a2:Int)(a3:Int):Option (List AM):=
 cond (decide (a3≤p1))
 (
  (Wl n l2 a2 a3).bind fun y1=>
  ret (wI (a3+20)) fun x1=>
  nx_f_stb_l1 (y1,a3,x1))
 (
  TO n p1 l2 a2)
def Nq(n:Nat)(p1:Int):Nat→(List AM×Int×Int)→Option (List AM):=By fun nx x=>Kd n p1 nx x.1 x.2.1 x.2.2
def eK(n:Nat)(p0:List AM)(p1:Int):Option (List AM):=
 Nq n p1 n (p0,0,20)
theorem tc{n:Nat}{B6:Value}{p0 r:List AM}{p1:Int}(h:eK n p0 p1=some r): zC K w0 83 [B6,vI p1,.func (.func 50) #[] #[]] [AH 79 4 B6 AJ p0] H (fun u M=>u=.tuple #[]∧M=[AH 79 4 B6 AJ r]):=by
 unfold eK at h
 refine Ua.enter Tryz.func83 rfl rfl ?_
 refine Z (O E (V (Z (J E (O E (O E (V ?_)))))))
 refine A5 (α:=List AM×Int) (fun x=>TO n p1 x.1 x.2=some r) (fun x=>[(0,B6),(1,vI p1),(2,.func (.func 50) #[] #[]),(6,vI 20),(7,vI x.2)]) (fun x=>AH 79 4 B6 AJ x.1::H) ?_ (fun x D h=>?_)
 refine AN ?_
 refine SX.heap (SX.mono (A6 (α:=Nat×List AM×Int×Int) (fun x=>Nq n p1 x.1 (x.2.1,x.2.2.1,x.2.2.2)=some r) (fun x=>[(0,B6),(1,vI p1),(2,.func (.func 50) #[] #[]),(6,vI 20),(7,vI x.2.2.1),(8,vI x.2.2.2)]) (fun x=>AH 79 4 B6 AJ x.2.1::H) (fun x=>x.1) (fun x D h=>?_) (n,p0,0,20) h) tL) (BG [0] 1 E E E)
 obtain⟨m1,l2,a2,a3⟩:=x
 dsimp only at h
 rcases m1 with _ | m1
 cases (show(none:Option _)=some r from h)
 replace h:Kd n p1 (Nq n p1 m1) l2 a2 a3=some r:=h
 unfold Kd at h
 try dsimp only
 refine AE (Z (J E (J E (Y E IR (V ?_)))))
 refine AT h E (fun hc1 h=>?_) fun hc1 h=>?_
 refine AI (AG (AN (Z ?_)))
 refine AC h fun y1 hy1 h=>?_
 refine J E (J E (J E (J E (AQ 1 kF (ph hy1) E (V (Z (J E (O E (V (AK ?_))))))))))
 obtain⟨x1,ex1,h⟩:=Bp h
 refine J E (J E (Y E Az ?_))
 refine An (u:=vI x1) E E (congrArg vI ex1) ?_
 refine AU (Ao ?_)
 exact Al (m1,y1,a3,x1) h (Nat.lt_succ_self _) tL (BG [0] 1 E E E)
 refine Ax (A3 (BO (A0 ?_)))
 exact Au (l2,a2) h tL (BG [0] 1 E E E)
 obtain⟨l1,a1⟩:=x
 dsimp only at h
 unfold TO at h
 try dsimp only
 refine Z ?_
 refine AC h fun y2 hy2 h=>?_
 refine J E (J E (J E (J E (AQ 1 kF (ph hy2) E (V (AN ?_))))))
 refine SX.heap (SX.mono (A6 (α:=Nat×List AM×Int) (fun x=>GS n p1 x.1 (x.2.1,x.2.2)=some r) (fun x=>[(0,B6),(1,vI p1),(2,.func (.func 50) #[] #[]),(6,vI x.2.2)]) (fun x=>AH 79 4 B6 AJ x.2.1::H) (fun x=>x.1) (fun x D h=>?_) (n,y2,20) h) tL) (BG [0] 1 E E E)
 obtain⟨m2,l3,a4⟩:=x
 dsimp only at h
 rcases m2 with _ | m2
 cases (show(none:Option _)=some r from h)
 replace h:IA n p1 (GS n p1 m2) l3 a4=some r:=h
 unfold IA at h
 try dsimp only
 refine AE (Z (J E (J E (Y E Aw (V ?_)))))
 refine AT h E (fun hc2 h=>?_) fun hc2 h=>?_
 refine AI (AG (AN (Z ?_)))
 obtain⟨x2,ex2,h⟩:=Bp h
 refine J E (Y E I4 (O E ?_))
 refine An (u:=vI x2) E E (congrArg vI ex2) ?_
 refine V ?_
 refine A5 (α:=List AM×Int) (fun x=>NR n p1 a4 (GS n p1 m2) x.1 x.2=some r) (fun x=>[(0,B6),(1,vI p1),(2,.func (.func 50) #[] #[]),(6,vI a4),(7,vI x.2)]) (fun x=>AH 79 4 B6 AJ x.1::H) ?_ (fun x D h=>?_)
 refine AN ?_
 refine SX.heap (SX.mono (A6 (α:=Nat×List AM×Int×Int) (fun x=>Hv n p1 a4 (GS n p1 m2) x.1 (x.2.1,x.2.2.1,x.2.2.2)=some r) (fun x=>[(0,B6),(1,vI p1),(2,.func (.func 50) #[] #[]),(6,vI a4),(7,vI x.2.2.1),(8,vI x.2.2.2)]) (fun x=>AH 79 4 B6 AJ x.2.1::H) (fun x=>x.1) (fun x D h=>?_) (n,l3,0,x2) h) tL) (BG [0] 1 E E E)
 obtain⟨m3,l5,a6,a7⟩:=x
 dsimp only at h
 rcases m3 with _ | m3
 cases (show(none:Option _)=some r from h)
 replace h:FC n p1 a4 (GS n p1 m2) (Hv n p1 a4 (GS n p1 m2) m3) l5 a6 a7=some r:=h
 unfold FC at h
 try dsimp only
 refine AE (Z (J E (J E (Y E IR (V ?_)))))
 refine AT h E (fun hc3 h=>?_) fun hc3 h=>?_
 refine AI (AG (AN (Z ?_)))
 refine AC h fun y3 hy3 h=>?_
 refine J E (J E (J E (J E (Y E Az (J E (J E (AQ 1 Xv (kd hy3) E (V (Z ?_)))))))))
 refine J E (O E (V (AK ?_)))
 obtain⟨x3,ex3,h⟩:=Bp h
 refine J E (J E (Y E I4 (Y E Az ?_)))
 refine An (u:=vI x3) E E (congrArg vI ex3) ?_
 refine AU (Ao ?_)
 exact Al (m3,y3,a7,x3) h (Nat.lt_succ_self _) tL (BG [0] 1 E E E)
 refine Ax (A3 (BO (A0 ?_)))
 exact Au (l5,a6) h tL (BG [0] 1 E E E)
 obtain⟨l4,a5⟩:=x
 dsimp only at h
 unfold NR at h
 try dsimp only
 refine A5 (α:=List AM) (fun x=>LJ a4 (GS n p1 m2) x=some r) (fun x=>[(0,B6),(1,vI p1),(2,.func (.func 50) #[] #[]),(6,vI a4)]) (fun x=>AH 79 4 B6 AJ x::H) ?_ (fun l6 D h=>?_)
 refine Z ?_
 obtain⟨x4,ex4,h⟩:=Bp h
 refine J E (J E (Y E Az ?_))
 refine An (u:=vI x4) E E (congrArg vI ex4) ?_
 refine V (Z (J E (J E (Y E Aw (V ?_)))))
 refine AT h E (fun hc4 h=>?_) fun hc4 h=>?_
 refine AK ?_
 refine AC h fun y4 hy4 h=>?_
 refine J E (J E (J E (J E (J E (AQ 1 Xv (kd hy4) E (AU ?_))))))
 exact Au y4 h tL (BG [0] 1 E E E)
 refine AI ?_
 exact Au l4 h tL (BG [0] 1 E E E)
 unfold LJ at h
 try dsimp only
 refine AK ?_
 obtain⟨blockSize_1,eblockSize_1,h⟩:=Bp h
 refine J E (Y E I4 ?_)
 refine An (u:=vI blockSize_1) E E (congrArg vI eblockSize_1) ?_
 refine AU (Ao ?_)
 exact Al (m2,l6,blockSize_1) h (Nat.lt_succ_self _) tL (BG [0] 1 E E E)
 refine Ax (A3 (BO (A0 ?_)))
 obtain rfl:=zI h
 exact Cy (DY E) (AY (M:=[_]) ⟨E,E⟩ fun _ hw=>Bc.pick (H:=[_]) hw [0] 1 E)
def Zl(n:Nat)(p0:List AM):Option (List AM):=
 (eK n p0 (p0.length:Int)).bind fun y1=>
 some y1
theorem uK{n:Nat}{B6:Value}{p0 r:List AM}(h:Zl n p0=some r): zC K w0 49 [B6,.func (.func 50) #[] #[]] [AH 79 4 B6 AJ p0] H (fun u M=>u=.tuple #[]∧M=[AH 79 4 B6 AJ r]):=by
 unfold Zl at h
 refine Ua.enter Tryz.func49 rfl rfl ?_
 refine AK ?_
 refine AC h fun y1 hy1 h=>?_
 refine J E (J E (Dg 0 E Bt E E (J E (AQ 1 uz (tc hy1) E (AU ?_)))))
 obtain rfl:=zI h
 exact Cy (DY E) (AY (M:=[_]) ⟨E,E⟩ fun _ hw=>Bc.pick (H:=[_]) hw [0] 1 E)
end

section
variable {K:Nat→Prop}{w0:World}{H:List AW}
abbrev JF:={s:List UInt8 // s.length≤1048576}
def XF(s:List UInt8):Option JF:=if h:s.length≤1048576 then some ⟨s,h⟩else none
theorem Un{s:List UInt8}{k:JF}(h:XF s=some k):k.1=s:=by
 unfold XF at h
 split at h
 rw[←zI h]
 cases h
def QQ(k:JF):Value:=vS k.1
theorem gu{P:Program}{k:TypeId}(hk:P.underlying k=some .string)(a:JF):∃l,keyOf P k (QQ a)=some l:=by
 refine⟨.string a.1,?_⟩
 have:=a.2
 simp[keyOf,hk,mapKey,vS,QQ]
 show a.1.length≤maxLen
 simp[maxLen]
 omega
def TA(r:Ad):Value:=.agg (Af r).toArray
theorem Vx{P:Program}{k:TypeId}(hk:P.underlying k=some .string):Qr P k QQ TA:=
 ⟨Maps.string_keyed hk,gu hk,⟨fun v=>match v with | .string b=>XF b.data.toList | _=>none,fun x=>by
  show XF x.1=some x
  unfold XF
  rw[dif_pos x.2]⟩,⟨fun v=>match v with | .agg a=>(match a.toList with | [.int _ p,.string b]=>some ⟨UInt32.ofNat p.toNat,b.data.toList⟩ | _=>none) | _=>none,fun x=>by
  cases x
  simp[TA,Af,AA,vS]⟩⟩
structure OY where
 b:Nat
 rv:Value
 mt:Nat
 d:Nat
 bv:Value
 mp:Nat
 mb:Nat
abbrev F3(B:OY)(v:Bx)(d:BH):List AW:=
 [AP B.b (.cells #[vP B.d 0,B.rv,AA v.gen,AA v.boot,Ar v.seals,.map (some B.mt)] 96),AH 138 2 B.rv BA v.ring,BQ B.mt AA vB v.taken,AP B.d (.cells #[vB d.off,vB d.isCut,vI d.lasts,vI d.counts,B.bv,.map (some B.mp),.map (some B.mb),Ar d.rcnt,vS d.rtag,AA d.rboots] 130),AH 9 1 B.bv eS d.blocks,BQ B.mp AA vS d.pend,BQ B.mb AA vB d.bad]
structure QR where
 tk:List UInt32
 v:Bx
 d:BH
abbrev UP(bt bm bv bk:Nat)(B:OY)(th:List (JF×Ad))(a:Value)(q:QR):List AW:=
 AP bt (.cells #[.map (some bm)] 116)::BQ bm QQ TA th::AP bv (.cells #[vP B.b 0] 24)::AP bk (.cells #[a] 113)::AH 29 1 a Bw q.tk::F3 B q.v q.d
def NX(T:List UInt32)(th:List (JF×Ad)):UX QR:=fun q s=>
 (XF s).bind fun k=>cond (DN th k).isSome (some (((DN th k).getD ⟨0,[]⟩,0),q))
  ((G7 T q.v q.d s).bind fun y=>cond (decide (y.2.1=0)) ((Ci 4 q.tk [y.1.page]).bind fun l=>some ((y.1,y.2.1),⟨l,y.2.2.1,y.2.2.2⟩)) (some ((y.1,y.2.1),⟨q.tk,y.2.2.1,y.2.2.2⟩)))
theorem ne{T:List UInt32}{bt bm bv bk:Nat}{B:OY}{th:List (JF×Ad)}:dP T 58 #[vP bt 0,vP bv 0,vP bk 0] (UP bt bm bv bk B th) (NX T th):=by
 intro K w0 H a q s r hS h
 unfold NX at h
 refine AC h fun k hk h=>?_
 have hks:=Un hk
 refine Ua.enter Tryz.func58 rfl rfl ?_
 show SX _ _ _ _ _ _ _ _ _ (UP bt bm bv bk B th a q++H)
 refine Z ?_
 refine Ag E DX zU fun b0=>?_
 refine O E (V (AE (Z (AF 1 pV E (J E ?_)))))
 refine an (zv:=(⟨0,[]⟩:Ad)) 2 (Vx Bo) E oD DX E (by rw[←hks];rfl) E ?_
 refine J E (Am E E E (Am E E E ?_))
 refine Ag E DX zU fun b1=>?_
 refine Ak 0 E E E E DD E E E zT (Du 0 (AP b1 (.cells #[AA ((DN th k).getD ⟨0,[]⟩).page,vS ((DN th k).getD ⟨0,[]⟩).tag] 31)) (O E (V (Z (J E (V ?_))))))
 refine AT h E (fun hc1 h=>?_) fun hc1 h=>?_
 obtain rfl:=zI h
 refine Z (Ac (Af ((DN th k).getD ⟨0,[]⟩)) E Cb E E (Aa 0 E) (Ak 1 E E E E DD E E E zT (O E (V (AL (AZ ?_))))))
 exact AX (DV E (BB 1 (Af ((DN th k).getD ⟨0,[]⟩)) Cb E E E E) E) (AY (M:=UP bt bm bv bk B th a q) ⟨E,a,E⟩ fun _ hw=>Bc.pick (H:=[_,_]) hw [] 2 E)
 refine AC h fun y hy h=>?_
 refine AI (AG (Z (AF 4 av E (J E ?_))))
 refine SL.heap (H':=F3 B q.v q.d++([_,_,_,_,_,_,_]++H)) ?_ (fun _ hw=>EE (A:=[_,_,_,_,_,_,_]) (B:=F3 B q.v q.d) (R:=H) hw)
 have hcon:=fF (K:=K) (w0:=w0) (H:=([AP b1 (.cells #[AA ((DN th k).getD ⟨0,[]⟩).page,vS ((DN th k).getD ⟨0,[]⟩).tag] 31),AP b0 (.cells #[AA 0,vS []] 31),AP bt (.cells #[.map (some bm)] 116),BQ bm QQ TA th,AP bv (.cells #[vP B.b 0] 24),AP bk (.cells #[a] 113),AH 29 1 a Bw q.tk]++H)++[BU []]) (BD:=B.b) (Ap:=B.rv) (BF:=B.mt) (A1:=B.d) (BM:=B.bv) (A2:=B.mp) (BL:=B.mb) hy hS
 refine Bg (vs:=[_,_]) (Hin:=F3 B q.v q.d) (Hr:=[_,_,_,_,_,_,_]++H) E E ⟨E,E,zT⟩ uV E E hcon ?_
 rintro _ _ ⟨rfl,rfl⟩
 refine⟨trivial,?_⟩
 refine SL.heap (H':=[_,_,_,_,_,_,_]++(F3 B y.2.2.1 y.2.2.2++H)) ?_ (fun _ hw=>EE (A:=F3 B y.2.2.1 y.2.2.2) (B:=[_,_,_,_,_,_,_]) (R:=H) hw)
 refine J E (Am E E E (Am E E E ?_))
 refine Ag E DX zU fun b2=>?_
 refine Ak 0 E E E E DD E E E zT (Du 0 (AP b2 (.cells #[AA y.1.page,vS y.1.tag] 31)) (O E (V ?_)))
 refine A5 (α:=List UInt32×Value) (fun w=>some ((y.1,y.2.1),(⟨w.1,y.2.2.1,y.2.2.2⟩:QR))=some r) (fun w=>[(9,vP b2 0),(10,vI y.2.1),(5,vP b0 0)])
  (fun w=>AP b2 (.cells #[AA y.1.page,vS y.1.tag] 31)::AP b0 (.cells #[AA 0,vS []] 31)::(UP bt bm bv bk B th w.2 ⟨w.1,y.2.2.1,y.2.2.2⟩++H)) ?_ (fun w D h=>?_)
 refine Z (J E (Y E CE (V ?_)))
 refine AT h E (fun hc2 h=>?_) fun hc2 h=>?_
 refine AC h fun l hl h=>?_
 refine AK (AF 6 Zr E (AD E KE (AF 0 A8 E ?_)))
 refine Bz [_] rfl CO Bj LT ⟨rfl,trivial⟩ rfl rfl rfl zW rfl rfl zU fun b3=>?_
 refine B2 Bw 1 ([y.1.page]:List UInt32) E zV E ?_
 refine CQ 8 hl (sz:=1) (enc:=Bw) zV E CO Bj Sb LT E zD E E E E (Bs (sz:=1) (enc:=Bw) 0 zV E) (by simp[Bw,Value.oneCell']) zU fun v3=>?_
 refine Bq 8 E fun hv3 ho3=>?_
 refine Dk 7 E E E E ov hv3 ho3 E zT (AU ?_)
 exact Au (l,v3) h tL (BG [1,3,4,5,6,7,8] 9 E E E)
 refine AI ?_
 exact Au (q.tk,a) h tL (BG [0,2,3,4,5,6,7] 8 E E E)
 obtain⟨l,v3⟩:=w
 obtain rfl:=zI h
 dsimp only
 refine Z (Ac (Af y.1) E Cb E E (Aa 0 E) (J E (Ak 1 E E E E DD E E E zT (O E (V (AL ?_))))))
 exact AX (DV E (BB 1 (Af y.1) Cb E E E E) E) (AY (M:=UP bt bm bv bk B th v3 ⟨l,y.2.2.1,y.2.2.2⟩) ⟨E,v3,E⟩ fun _ hw=>Bc.pick (H:=[_,_]) hw [] 2 E)
end

section
variable {K:Nat→Prop}{w0:World}{H:List AW}
def Ry:List (Int×A4)→List (JF×Ad)→Option (List (JF×Ad))
 | [],m=>some m
 | s::l,m=>(XF s.2.txt).bind fun k=>(OQ m k ⟨s.2.page,s.2.tag⟩).bind fun m'=>Ry l m'
def QF:List UInt32→Bx→BH→Option Bx
 | [],v,_=>some v
 | x::l,v,d=>(ML v d x).bind fun y=>QF l y.2 d
def Um(y:Ad×(Fo×QR)):Option (List A4×Int×Bx×BH):=
 cond (!decide (y.2.1.wrong=0)) (if 1048576<y.2.2.tk.length then none else(QF y.2.2.tk y.2.2.v y.2.2.d).bind fun v'=>some ([],y.2.1.wrong,v',y.2.2.d)) (some (y.2.1.out,0,y.2.2.v,y.2.2.d))
def KA(n:Nat)(T:List UInt32)(p0:Bx)(p0_1:BH)(p1:List AM)(p2:List A4):Option (List A4×Int×Bx×BH):=
 (KY n p1).bind fun b=>cond (!decide (b.2=0)) (some ([],b.2,p0,p0_1))
  (if 1048576<p2.length then none else(Ry (FK p2) []).bind fun th=>(Ev n (NX T th) n b.1 ⟨[],0⟩ ⟨[],p0,p0_1⟩).bind Um)
theorem kI{n BD BF A1 A2 BL:Nat}{T:List UInt32}{Ap BM Q5 vn:Value}{p0:Bx}{p0_1:BH}{p1:List AM}{p2:List A4}{r:List A4×Int×Bx×BH}(h:KA n T p0 p0_1 p1 p2=some r)(hS:Ho K w0 T)(hs1_:CD K w0 AJ 4 Q5 p1)(hs2_:CD K w0 Ah 3 vn p2):
  zC K w0 19 [vP BD 0,Q5,vn] (F3 ⟨BD,Ap,BF,A1,BM,A2,BL⟩ p0 p0_1) H (fun u M=>∃v0:Value,u=.tuple #[v0,vI r.2.1]∧M=AH 72 3 v0 Ah r.1::F3 ⟨BD,Ap,BF,A1,BM,A2,BL⟩ r.2.2.1 r.2.2.2):=by
 unfold KA at h
 refine AC h fun b hb h=>?_
 refine Ua.enter Tryz.func19 rfl rfl ?_
 show SX _ _ _ _ _ _ _ _ _ (F3 ⟨BD,Ap,BF,A1,BM,A2,BL⟩ p0 p0_1++H)
 refine Z ?_
 refine Bf E E zU fun b0=>?_
 refine O E (O E (V (AE (Z (AF 0 av E (Fu E Yn E E (V (D5 E (AI (AG (Z (J E ?_))))))))))))
 refine Bg (vs:=[_]) (Hin:=[]) (Hr:=_::(F3 ⟨BD,Ap,BF,A1,BM,A2,BL⟩ p0 p0_1++H)) E E ⟨E,zT⟩ oo E E (hE hb hs1_) ?_
 rintro _ _ ⟨nv,L,rfl,hnz,rfl⟩
 refine⟨trivial,?_⟩
 refine J E (Am E E E (Am E E E ?_))
 refine Ag E JA zU fun b1=>?_
 refine Ak 0 E E E E H7 E (List.all_eq_true.2 (Hd nv)) E zT (Du 0 (AP b1 (.cells (B8 nv).toArray 57)) (O E (V (AE (Z (J E (Y E Bb (V ?_))))))))
 refine AT h E (fun hc2 h=>?_) fun hc2 h=>?_
 obtain rfl:=zI h
 refine Z (J E (O E (O E (V (AL (AZ (GK 72 3 Ah ?_)))))))
 exact AX (GV E E E) (AY (M:=_::F3 ⟨BD,Ap,BF,A1,BM,A2,BL⟩ p0 p0_1) ⟨_,E,E⟩ fun _ hw=>Bc.pick (H:=[_,_,_,_]) hw [0] 4 E)
 split at h
 cases h
 rename_i hbig
 obtain⟨th,hth,h3⟩:=bnd h
 clear h
 obtain⟨y,hy,h⟩:=bnd h3
 clear h3
 refine AI (AG (Z ?_))
 refine YB QQ TA E zU fun bm=>?_
 refine Ag E uW zU fun b2=>?_
 refine Ak 0 E E E E un E E E zT (Du 0 (AP b2 (.cells #[.map (some bm)] 116)) (V (AE (Z (J E ?_)))))
 refine Bg (vs:=[_]) (Hin:=[]) (Hr:=_::_::_::_::_::(F3 ⟨BD,Ap,BF,A1,BM,A2,BL⟩ p0 p0_1++H)) E E ⟨E,zT⟩ tU E E (px hs2_.one) ?_
 rintro _ _ ⟨bx,rfl,rfl⟩
 refine⟨trivial,?_⟩
 refine V (AN ?_)
 refine N3 (enc:=pv) (FK p2) (G0:=(AP b2 (.cells #[.map (some bm)] 116)::BQ bm QQ TA []::AP b1 (.cells (B8 nv).toArray 57)::Fi L::AP b0 (.cells #[vP BD 0] 24)::(F3 ⟨BD,Ap,BF,A1,BM,A2,BL⟩ p0 p0_1++H))) (fun pre G=>∃m:List (JF×Ad),(∀suf,FK p2=pre++suf→Ry suf m=some th)∧G=(AP b2 (.cells #[.map (some bm)] 116)::BQ bm QQ TA m::AP b1 (.cells (B8 nv).toArray 57)::Fi L::AP b0 (.cells #[vP BD 0] 24)::(F3 ⟨BD,Ap,BF,A1,BM,A2,BL⟩ p0 p0_1++H))) (fun c G=>False) E uT E zV (pD zO hs2_) E ⟨[],fun suf e=>by rw[←show FK p2=suf from e];exact hth,E⟩ (fun pre x suf G hxs hJ lr lp Rest=>?_) (fun G D hJ=>?_) (fun c G D hX=>hX.elim)
 obtain⟨m,hm,rfl⟩:=hJ
 have h1:=hm (x::suf) hxs
 rw[Ry]at h1
 obtain⟨k,hk,h1⟩:=bnd h1
 obtain⟨m1,hm1,h1⟩:=bnd h1
 have hks:=Un hk
 refine AK ?_
 refine Ag E NO zU fun b3=>?_
 refine Ak 0 E E E E JE E E E zT (AU ?_)
 refine Lv (G:=AP b3 (.cells #[vS x.2.txt,AA x.2.page,vS x.2.tag] 72)::(AP b2 (.cells #[.map (some bm)] 116)::BQ bm QQ TA m::AP b1 (.cells (B8 nv).toArray 57)::Fi L::AP b0 (.cells #[vP BD 0] 24)::(F3 ⟨BD,Ap,BF,A1,BM,A2,BL⟩ p0 p0_1++H))) ?_
 refine AN (AK (AF 1 pV rfl (AD rfl X0 (AF 0 Fm rfl (AD rfl Ps (Ac [AA x.2.page,vS x.2.tag] rfl Cb rfl rfl (Ce 0 rfl (by rintro(_ | (_ | j)) u hj<;>first | exact hj | exact absurd hj zS)) ?_))))))
 refine V4 (a:=(⟨x.2.page,x.2.tag⟩:Ad)) 2 hm1 (Vx Bo) E oD E (by rw[QQ,hks];rfl) E E zT ?_
 refine AU (Ao ?_)
 exact I7 ⟨m1,fun suf' e=>by rw[eN hxs e];exact h1,E⟩ (BG [] 1 E E E)
 obtain⟨m,hm,rfl⟩:=hJ
 have h1:=hm [] (List.append_nil _).symm
 obtain rfl:m=th:=zI h1
 refine Ao (AG (Z ?_))
 refine Ag E uI zU fun b3=>?_
 refine Du 0 (AP b3 (.cells #[zN] 113)) (Bk 29 1 Bw (V (Z ?_)))
 refine Hj (fv:=#[]) (cv:=#[_,_,_]) E E E ?_
 refine BJ [_] E nr ny oR ⟨E,zT⟩ E ?_
 refine Bf E E zU fun b4=>?_
 refine Bk 72 3 Ah (O E (V ?_))
 have hcon:=CV (K:=K) (w0:=w0) (H:=(AP b1 (.cells (B8 nv).toArray 57)::H)++[BU D]) (f:=53) (B:=[Fi L]) (Hin:=Kt b4 (.func (.func 58) #[] #[vP b2 0,vP b0 0,vP b3 0]) (.slice none 0 0) ⟨[],0⟩::AH 72 3 (.slice none 0 0) Ah []::UP b2 bm b0 b3 (⟨BD,Ap,BF,A1,BM,A2,BL⟩:OY) m (.slice none 0 0) ⟨[],p0,p0_1⟩) fun K' w1 hkk hB=>
  ON (C:=UP b2 bm b0 b3 (⟨BD,Ap,BF,A1,BM,A2,BL⟩:OY) m) (bp:=b4) (vo:=.slice none 0 0) (ca:=.slice none 0 0) (cs:=#[vP b2 0,vP b0 0,vP b3 0]) tw ne n (hS.keeps hkk) hy (hnz.lent (hB _ zS))
 generalize hpo:(fun(u:Value) (M:List AW)=>∃M',M=[Fi L]++M'∧(u=.agg (Af y.1).toArray∧∃vo' ca',M'=Kt b4 (.func (.func 58) #[] #[vP b2 0,vP b0 0,vP b3 0]) vo' y.2.1::AH 72 3 vo' Ah y.2.1.out::UP b2 bm b0 b3 (⟨BD,Ap,BF,A1,BM,A2,BL⟩:OY) m ca' y.2.2))=po at hcon
 refine Z (J E (Ac (B8 nv) E Lc E E (Aa 6 E) ?_))
 refine SL.heap (H':=([Fi L]++(Kt b4 (.func (.func 58) #[] #[vP b2 0,vP b0 0,vP b3 0]) zN ⟨[],0⟩::AH 72 3 zN Ah []::UP b2 bm b0 b3 (⟨BD,Ap,BF,A1,BM,A2,BL⟩:OY) m zN ⟨[],p0,p0_1⟩))++(AP b1 (.cells (B8 nv).toArray 57)::H)) ?_ (BG [7,1,0,4,5,8,3,2,9,10,11,12,13,14,15,6] 16 E E E)
 refine Bg (vs:=[_,_]) (Hin:=[Fi L]++(Kt b4 (.func (.func 58) #[] #[vP b2 0,vP b0 0,vP b3 0]) zN ⟨[],0⟩::AH 72 3 zN Ah []::UP b2 bm b0 b3 (⟨BD,Ap,BF,A1,BM,A2,BL⟩:OY) m zN ⟨[],p0,p0_1⟩)) (Hr:=AP b1 (.cells (B8 nv).toArray 57)::H) E E ⟨E,E,zT⟩ jj E E hcon ?_
 intro u0 M0 hpost
 rw[←hpo]at hpost
 obtain⟨_,rfl,rfl,vo,ca,rfl⟩:=hpost
 refine⟨trivial,?_⟩
 refine V ?_
 unfold Um at h
 refine AE (Z (J E (AV E E (AD E RC (AF 1 PO E (Y E Bb (V ?_)))))))
 refine AT h E (fun hc3 h=>?_) fun hc3 h=>?_
 split at h
 cases h
 rename_i hbt
 refine AC h fun v' hv' h=>?_
 obtain rfl:=zI h
 refine AE (Z (AF 6 Zr E (Dg 7 E CO E E (J E (V (AN ?_))))))
 refine SX.heap (SX.mono (A6 (α:=Nat×Bx) (fun x=>x.1≤y.2.2.tk.length∧QF (y.2.2.tk.drop x.1) x.2 y.2.2.d=some v') (fun x=>[(3,vP b0 0),(14,vP b4 0),(48,ca),(49,vI (y.2.2.tk.length:Int)),(50,vI (x.1:Int))])
  (fun x=>Kt b4 (.func (.func 58) #[] #[vP b2 0,vP b0 0,vP b3 0]) vo y.2.1::AP b0 (.cells #[vP BD 0] 24)::AH 29 1 ca Bw y.2.2.tk::(F3 (⟨BD,Ap,BF,A1,BM,A2,BL⟩:OY) x.2 y.2.2.d++H))
  (fun x=>y.2.2.tk.length-x.1) (fun x D hp=>?_) (0,y.2.2.v) ⟨Nat.zero_le _,hv'⟩) tL) (BG [1,5,7,8,9,10,11,12,13,14] 16 rfl rfl rfl)
 obtain⟨i,v1⟩:=x
 obtain⟨hi,hg⟩:=hp
 dsimp only at hi hg ⊢
 refine Z (Y E Aw (V (AE ?_)))
 refine As E (fun hc4=>?_) (fun hc4=>?_)
 have hlt:i<y.2.2.tk.length:=by
  have:=of_decide_eq_true hc4
  omega
 clear hc4
 have hnth:Aq y.2.2.tk (i:Int)=some y.2.2.tk[i]:=by
  rw[Aq,if_pos zO]
  exact List.getElem?_eq_getElem hlt
 rw[List.drop_eq_getElem_cons hlt,QF]at hg
 refine AC hg fun z hz hg=>?_
 refine AI (AG (AE (AN (Z ?_))))
 refine BR 2 hnth E CO Bj E E E fun g1 m1 cp1 hv1=>?_
 refine Bi E A8 E (Br (sz:=1) (enc:=Bw) 2 0 zV E hv1 hnth E) ?_
 refine O E (V (AK (AF 1 av E (J E ?_))))
 refine SL.heap (H':=F3 (⟨BD,Ap,BF,A1,BM,A2,BL⟩:OY) v1 y.2.2.d++([_,_,_]++H)) ?_ (fun _ hw=>EE (A:=[_,_,_]) (B:=F3 (⟨BD,Ap,BF,A1,BM,A2,BL⟩:OY) v1 y.2.2.d) (R:=H) hw)
 have hcon:=jm (K:=K) (w0:=w0) (H:=([Kt b4 (.func (.func 58) #[] #[vP b2 0,vP b0 0,vP b3 0]) vo y.2.1,AP b0 (.cells #[vP BD 0] 24),AH 29 1 ca Bw y.2.2.tk]++H)++[BU D]) (BD:=BD) (Ap:=Ap) (BF:=BF) (A1:=A1) (BM:=BM) (A2:=A2) (BL:=BL) hz
 refine Bg (vs:=[_,_]) (Hin:=F3 (⟨BD,Ap,BF,A1,BM,A2,BL⟩:OY) v1 y.2.2.d) (Hr:=[_,_,_]++H) E E ⟨E,E,zT⟩ uE E E hcon ?_
 rintro _ _ ⟨rfl,rfl⟩
 refine⟨trivial,?_⟩
 refine SL.heap (H':=[_,_,_]++(F3 (⟨BD,Ap,BF,A1,BM,A2,BL⟩:OY) z.2 y.2.2.d++H)) ?_ (fun _ hw=>EE (A:=F3 (⟨BD,Ap,BF,A1,BM,A2,BL⟩:OY) z.2 y.2.2.d) (B:=[_,_,_]) (R:=H) hw)
 refine AU (Ao (AG (AK (Y E (BV zO zO) (J E (AU ?_))))))
 exact Al (i+1,z.2) ⟨hlt,hg⟩ (by dsimp only;omega) tL (BG [0,1,2] 3 E E E)
 have hge:i=y.2.2.tk.length:=by
  have:=of_decide_eq_false hc4
  omega
 subst hge
 rw[List.drop_length,QF]at hg
 obtain rfl:v1=v':=zI hg
 refine Ax (A3 (BO (A0 (AG (AE (Ai CY [0] (Bm [(true,0),(true,1),(true,2),(true,3),(true,4),(true,5)] .nil) zK (J E (AV E E (AD E RC (AF 0 PO E (O E (O E (V (AL (AZ (GK 72 3 Ah ?_))))))))))))))))
 exact AX (GV E E E) (AY (M:=_::F3 (⟨BD,Ap,BF,A1,BM,A2,BL⟩:OY) v1 y.2.2.d) ⟨_,E,E⟩ fun _ hw=>Bc.pick (H:=[_,_,_,_]) hw [0] 4 E)
 obtain rfl:=zI h
 refine AI (AG (Z (J E (AV E E (AD E YJ (AF 1 In E (O E (O E (V (AL ?_))))))))))
 exact AX (GV E E E) (AY (M:=AH 72 3 vo Ah y.2.1.out::F3 (⟨BD,Ap,BF,A1,BM,A2,BL⟩:OY) y.2.2.v y.2.2.d) ⟨_,E,E⟩ fun _ hw=>Bc.pick (H:=[_,_,_,_,_,_,_,_,_,_,_,_,_,_,_,_]) hw [2,8,9,10,11,12,13,14] 16 E)
end

section
structure Et where
 out:List A4
 rows:List AM
 count:Int
end

section
variable {K:Nat→Prop}{w0:World}{H:List AW}
def MX(p1:Ad)(y1:List UInt8×Int)(o1:Et):Option (Int×Et):=
 (Ci 40 o1.out [(⟨y1.1,p1.page,p1.tag⟩:A4)]).bind fun l4=>
 some (0,{ o1 with out:=l4 })
def D8(p0_1:Bx)(p0_2:BH)(p1:Ad)(rec_:Et→Bx→BH→Ad→Option (Int×Et))(y1:List UInt8×Int)(l2:List Ad)(nx_f_gpg_l1:Et×Int→Option (Int×Et))(o2:Et)(a1:Int):Option (Int×Et):=
 cond (decide (a1<(l2.length:Int)))
 (
  (Aq l2 a1).bind fun x1=>
  (rec_ o2 p0_1 p0_2 x1).bind fun y3=>
  cond (!decide (y3.1=0))
  (
   some (y3.1,y3.2))
  (
   nx_f_gpg_l1 (y3.2,wI (a1+1))))
 (
  MX p1 y1 o2)
def Hx(p0_1:Bx)(p0_2:BH)(p1:Ad)(rec_:Et→Bx→BH→Ad→Option (Int×Et))(y1:List UInt8×Int)(l2:List Ad):Nat→(Et×Int)→Option (Int×Et):=By fun nx x=>D8 p0_1 p0_2 p1 rec_ y1 l2 nx x.1 x.2
def RD(n:Nat)(p0:Et)(p0_1:Bx)(p0_2:BH)(p1:Ad)(rec_:Et→Bx→BH→Ad→Option (Int×Et))(y1:List UInt8×Int)(l1:List AM)(l2:List Ad):Option (Int×Et):=
 Hx p0_1 p0_2 p1 rec_ y1 l2 n ({ p0 with rows:=l1,count:=wI (p0.count+1) },0)
def QS(rec_:Et→Bx→BH→Ad→Option (Int×Et))(n:Nat)(T:List UInt32)(p0:Et)(p0_1:Bx)(p0_2:BH)(p1:Ad):Option (Int×Et):=
 cond (decide (p0.count=2100))
 (
  some (61,p0))
 (
  (HZ T p0_1 p0_2 p1).bind fun y1=>
  cond (!decide (y1.2=0))
  (
   some (y1.2,{ p0 with count:=wI (p0.count+1) }))
  (
   (Er n y1.1).bind fun y2=>
   cond (!decide (y2.2=0))
   (
    some (61,{ p0 with count:=wI (p0.count+1) }))
   (
    (Ci 32 p0.rows y2.1.rows).bind fun l1=>
    cond (!(decide (y2.1.npage=0)&&(decide (y2.1.ntag=[])&&true)))
    (
     (Ci 24 y2.1.kids [(⟨y2.1.npage,y2.1.ntag⟩:Ad)]).bind fun l3=>
     RD n p0 p0_1 p0_2 p1 rec_ y1 l1 l3)
    (
     RD n p0 p0_1 p0_2 p1 rec_ y1 l1 y2.1.kids))))
theorem tA{rec_:Et→Bx→BH→Ad→Option (Int×Et)}{n BD A1 A2 CT DQ DP:Nat}{T:List UInt32}{Ap CJ BY DR:Value}{p0:Et}{p0_1:Bx}{p0_2:BH}{p1:Ad}{r:Int×Et}(h:QS rec_ n T p0 p0_1 p0_2 p1=some r)(hS:Ho K w0 T)(hrec:∀ {H:List AW} {BD:Nat} {Ap:Value} {CJ:Value} {A1:Nat} {BY:Value} {A2:Nat} {CT:Nat} {DR:Value} {DQ:Nat} {DP:Nat} {p0:Et} {p0_1:Bx} {p0_2:BH} {p1:Ad} {r:Int×Et},rec_ p0 p0_1 p0_2 p1=some r→zC K w0 48 [vP BD 0,.agg (Af p1).toArray] [AP BD (.cells #[vP A1 0,Ap,CJ,vI p0.count] 99),AH 72 3 Ap Ah p0.out,AH 79 4 CJ AJ p0.rows,AP A1 (.cells #[vP CT 0,BY,AA p0_1.gen,AA p0_1.boot,Ar p0_1.seals,.map (some A2)] 96),AH 138 2 BY BA p0_1.ring,BQ A2 AA vB p0_1.taken,AP CT (.cells #[vB p0_2.off,vB p0_2.isCut,vI p0_2.lasts,vI p0_2.counts,DR,.map (some DQ),.map (some DP),Ar p0_2.rcnt,vS p0_2.rtag,AA p0_2.rboots] 130),AH 9 1 DR eS p0_2.blocks,BQ DQ AA vS p0_2.pend,BQ DP AA vB p0_2.bad] H (fun u M=>∃vs0_0_1 vs0_0_2:Value,u=vI r.1∧M=[AP BD (.cells #[vP A1 0,vs0_0_1,vs0_0_2,vI r.2.count] 99),AH 72 3 vs0_0_1 Ah r.2.out,AH 79 4 vs0_0_2 AJ r.2.rows,AP A1 (.cells #[vP CT 0,BY,AA p0_1.gen,AA p0_1.boot,Ar p0_1.seals,.map (some A2)] 96),AH 138 2 BY BA p0_1.ring,BQ A2 AA vB p0_1.taken,AP CT (.cells #[vB p0_2.off,vB p0_2.isCut,vI p0_2.lasts,vI p0_2.counts,DR,.map (some DQ),.map (some DP),Ar p0_2.rcnt,vS p0_2.rtag,AA p0_2.rboots] 130),AH 9 1 DR eS p0_2.blocks,BQ DQ AA vS p0_2.pend,BQ DP AA vB p0_2.bad])):zC K w0 48 [vP BD 0,.agg (Af p1).toArray] [AP BD (.cells #[vP A1 0,Ap,CJ,vI p0.count] 99),AH 72 3 Ap Ah p0.out,AH 79 4 CJ AJ p0.rows,AP A1 (.cells #[vP CT 0,BY,AA p0_1.gen,AA p0_1.boot,Ar p0_1.seals,.map (some A2)] 96),AH 138 2 BY BA p0_1.ring,BQ A2 AA vB p0_1.taken,AP CT (.cells #[vB p0_2.off,vB p0_2.isCut,vI p0_2.lasts,vI p0_2.counts,DR,.map (some DQ),.map (some DP),Ar p0_2.rcnt,vS p0_2.rtag,AA p0_2.rboots] 130),AH 9 1 DR eS p0_2.blocks,BQ DQ AA vS p0_2.pend,BQ DP AA vB p0_2.bad] H (fun u M=>∃vs0_0_1 vs0_0_2:Value,u=vI r.1∧M=[AP BD (.cells #[vP A1 0,vs0_0_1,vs0_0_2,vI r.2.count] 99),AH 72 3 vs0_0_1 Ah r.2.out,AH 79 4 vs0_0_2 AJ r.2.rows,AP A1 (.cells #[vP CT 0,BY,AA p0_1.gen,AA p0_1.boot,Ar p0_1.seals,.map (some A2)] 96),AH 138 2 BY BA p0_1.ring,BQ A2 AA vB p0_1.taken,AP CT (.cells #[vB p0_2.off,vB p0_2.isCut,vI p0_2.lasts,vI p0_2.counts,DR,.map (some DQ),.map (some DP),Ar p0_2.rcnt,vS p0_2.rtag,AA p0_2.rboots] 130),AH 9 1 DR eS p0_2.blocks,BQ DQ AA vS p0_2.pend,BQ DP AA vB p0_2.bad]):=by
 unfold QS at h
 refine Ua.enter Tryz.func48 rfl rfl ?_
 refine Z ?_
 refine Bf E E zU fun b1=>?_
 refine O E (V (AE (Z (J E (AV E E (AD E dU (AF 1 D6 E (Y E CE (V ?_)))))))))
 refine AT h E (fun hc1 h=>?_) fun hc1 h=>?_
 refine Z (O E (V (AL (AZ ?_))))
 obtain rfl:=zI h
 exact DL [1,2,3,4,5,6,7,8,9,10] 11 (Df E E) E E ⟨Ap,CJ,E,E⟩
 refine AI (AG (Z (J E (AV E E (AD E dU (AF 1 D6 E (Y E Az (AV E E (AD E dU (Ak 1 E E E E NK E E E zT (V (AE ?_))))))))))))
 refine AC h fun y1 hy1 h=>?_
 refine Ai CY [0,1] (Bm [(true,0),(true,1),(true,2),(true,3),(true,4),(false,5),(false,6),(true,7),(true,8),(false,9)] (.last 10 .nil)) zK (J E (AV E E (AD E r9 (AF 1 av E (Ac [AA p1.page,vS p1.tag] E Cb E E (Aa 0 E) (SL.pick [4,5,6,7,8,9,10,0,1,2,3] 11 (BS 7 vO ((io hy1 hS :)) E ⟨⟨7,E⟩,⟨8,E⟩,zT⟩ ?_)))))))
 refine J E (Am E E E (Am E E E (O E (BK (O E (V (AE (Z (J E (Y E Bb (V ?_)))))))))))
 refine AT h E (fun hc2 h=>?_) fun hc2 h=>?_
 refine Z (J E (O E (V (AL (AZ ?_)))))
 obtain rfl:=zI h
 exact DL [8,9,10,0,1,2,3,4,5,6] 11 (Df E E) E E ⟨Ap,CJ,E,E⟩
 refine AI (AG (Z ?_))
 refine AC h fun y2 hy2 h=>?_
 refine J E (Bn 0 vH (Y0 hy2) E ?_)
 rintro _ _ ⟨v1,v2,rfl,rfl⟩
 refine J E (Am E E E (Am E E E ?_))
 refine Ag E Gy zU fun b2=>?_
 refine Bk 79 4 AJ (Bk 31 2 Af ?_)
 refine Bq 3 E fun hv1 ho1=>?_
 refine Bq 4 E fun hv2 ho2=>?_
 refine Ak 2 E E E E HL E (by simp only[Value.oneCell']at ho1 ho2;simp[Value.cells,Value.cells,Value.oneCell',ho1,ho2]) E zT (Du 2 (AP b2 (.cells #[vI y2.1.kind,AA y2.1.cx,AA y2.1.cy,vI y2.1.lev,v1,v2,AA y2.1.npage,vS y2.1.ntag] 148)) (O E (V (AE (Z (J E (Y E Bb (V ?_))))))))
 refine AT h E (fun hc3 h=>?_) fun hc3 h=>?_
 refine Z (O E (V (AL (AZ ?_))))
 obtain rfl:=zI h
 exact DL [13,14,15,5,6,7,8,9,10,11] 16 (Df E E) E E ⟨Ap,CJ,E,E⟩
 refine AI (AG (AE ?_))
 refine AC h fun l1 hl1 h=>?_
 refine Ai CY [2,13] (Bm [(true,0),(true,1),(true,2),(true,3),(true,4),(true,5),(true,6),(false,7),(true,8),(true,9)] (.last 10 .nil)) zK (J E (J E (AV E E (AD E Vp (AF 1 FO E (AD E Fx (AF 0 FO E ?_)))))))
 refine Zk 15 3 hl1 (sz:=4) (enc:=AJ) zV E Bt B4 PM EN E zD E E E E (by simp[AJ,Value.oneCell']) (fun _=>⟨⟨2,E⟩,⟨13,E⟩,zT⟩) fun v3=>?_
 refine AV E E (AD E Vp (BK ?_))
 refine Bq 15 E fun hv3 ho3=>?_
 refine Dk 13 E E E E LS hv3 ho3 E zT (V (Z (AD E Dn (AF 2 Hq E (O E (V ?_))))))
 refine A5 (α:=List Ad×Value) (fun x=>RD n p0 p0_1 p0_2 p1 rec_ y1 l1 x.1=some r) (fun x=>[(0,vP BD 0),(3,vP b1 0),(5,vS y1.1),(8,x.2)]) (fun x=>AP BD (.cells #[vP A1 0,Ap,v3,vI (wI (p0.count+1))] 99)::AP A1 (.cells #[vP CT 0,BY,AA p0_1.gen,AA p0_1.boot,Ar p0_1.seals,.map (some A2)] 96)::AP CT (.cells #[vB p0_2.off,vB p0_2.isCut,vI p0_2.lasts,vI p0_2.counts,DR,.map (some DQ),.map (some DP),Ar p0_2.rcnt,vS p0_2.rtag,AA p0_2.rboots] 130)::AH 9 1 DR eS p0_2.blocks::BQ DQ AA vS p0_2.pend::BQ DP AA vB p0_2.bad::AH 138 2 BY BA p0_1.ring::BQ A2 AA vB p0_1.taken::AH 72 3 Ap Ah p0.out::AH 79 4 v3 AJ l1::AP b1 (.cells #[AA p1.page,vS p1.tag] 31)::AH 31 2 x.2 Af x.1::H) ?_ (fun x D h=>?_)
 refine Z (AD rfl FF (Ac [AA y2.1.npage,vS y2.1.ntag] rfl Cb rfl rfl (Ce 2 rfl (by rintro(_ | (_ | j)) u hj<;>first | exact hj | exact absurd hj zS)) (BJ [] rfl Km Kl DX trivial rfl ?_)))
 refine Qs E gG E E (Cc E E (KD (a:=y2.1.npage) (b:=0)) (Cc E E (Sp (a:=y2.1.ntag) (b:=[])) If)) ?_
 refine V ?_
 refine AT h E (fun hc4 h=>?_) fun hc4 h=>?_
 refine AK ?_
 refine AC h fun l3 hl3 h=>?_
 refine J rfl (AD rfl FF (Ac [AA y2.1.npage,vS y2.1.ntag] rfl Cb rfl rfl (Ce 2 rfl (by rintro(_ | (_ | j)) u hj<;>first | exact hj | exact absurd hj zS)) ?_))
 refine Bz [_] rfl E1 DD DX ⟨rfl,trivial⟩ rfl rfl rfl zW rfl rfl zU fun b3=>?_
 refine B2 Af 2 ([(⟨y2.1.npage,y2.1.ntag⟩:Ad)]:List Ad) E zV E ?_
 refine CQ 5 hl3 (sz:=2) (enc:=Af) zV E E1 DD gH DX E zD E E E E (Bs (sz:=2) (enc:=Af) 0 zV E) (by simp[Af,Value.oneCell']) zU fun v5=>?_
 refine O E (AU ?_)
 exact Au (l3,v5) h tL (BG [14,6,9,10,11,12,7,8,15,16,13,5] 17 E E E)
 refine AI ?_
 exact Au (y2.1.kids,v2) h tL (BG [13,5,8,9,10,11,6,7,14,15,12,4] 16 E E E)
 obtain⟨l2,v4⟩:=x
 dsimp only at h
 unfold RD at h
 try dsimp only
 refine A5 (α:=Et×Value×Value) (fun x=>MX p1 y1 x.1=some r) (fun x=>[(0,vP BD 0),(3,vP b1 0),(5,vS y1.1)]) (fun x=>AP BD (.cells #[vP A1 0,x.2.1,x.2.2,vI x.1.count] 99)::AP A1 (.cells #[vP CT 0,BY,AA p0_1.gen,AA p0_1.boot,Ar p0_1.seals,.map (some A2)] 96)::AP CT (.cells #[vB p0_2.off,vB p0_2.isCut,vI p0_2.lasts,vI p0_2.counts,DR,.map (some DQ),.map (some DP),Ar p0_2.rcnt,vS p0_2.rtag,AA p0_2.rboots] 130)::AH 9 1 DR eS p0_2.blocks::BQ DQ AA vS p0_2.pend::BQ DP AA vB p0_2.bad::AH 138 2 BY BA p0_1.ring::BQ A2 AA vB p0_1.taken::AH 72 3 x.2.1 Ah x.1.out::AH 79 4 x.2.2 AJ x.1.rows::AP b1 (.cells #[AA p1.page,vS p1.tag] 31)::H) ?_ (fun x D h=>?_)
 refine Z (J E (Dg 11 E E1 E E (J E (V (AN ?_)))))
 refine SX.heap (SX.mono (A6 (α:=Nat×Et×Value×Value×Int) (fun x=>Hx p0_1 p0_2 p1 rec_ y1 l2 x.1 (x.2.1,x.2.2.2.2)=some r) (fun x=>[(0,vP BD 0),(3,vP b1 0),(5,vS y1.1),(64,v4),(65,vI (l2.length:Int)),(66,vI x.2.2.2.2)]) (fun x=>AP BD (.cells #[vP A1 0,x.2.2.1,x.2.2.2.1,vI x.2.1.count] 99)::AP A1 (.cells #[vP CT 0,BY,AA p0_1.gen,AA p0_1.boot,Ar p0_1.seals,.map (some A2)] 96)::AP CT (.cells #[vB p0_2.off,vB p0_2.isCut,vI p0_2.lasts,vI p0_2.counts,DR,.map (some DQ),.map (some DP),Ar p0_2.rcnt,vS p0_2.rtag,AA p0_2.rboots] 130)::AH 9 1 DR eS p0_2.blocks::BQ DQ AA vS p0_2.pend::BQ DP AA vB p0_2.bad::AH 138 2 BY BA p0_1.ring::BQ A2 AA vB p0_1.taken::AH 72 3 x.2.2.1 Ah x.2.1.out::AH 79 4 x.2.2.2.1 AJ x.2.1.rows::AP b1 (.cells #[AA p1.page,vS p1.tag] 31)::AH 31 2 v4 Af l2::H) (fun x=>x.1) (fun x D h=>?_) (n,{ p0 with rows:=l1,count:=wI (p0.count+1) },Ap,v3,0) h) tL) (BG [0,1,2,3,4,5,6,7,8,9,10,11] 12 rfl rfl rfl)
 obtain⟨m1,o2,v8,v9,a1⟩:=x
 dsimp only at h
 rcases m1 with _ | m1
 cases (show(none:Option _)=some r from h)
 replace h:D8 p0_1 p0_2 p1 rec_ y1 l2 (Hx p0_1 p0_2 p1 rec_ y1 l2 m1) o2 a1=some r:=h
 unfold D8 at h
 try dsimp only
 refine Z (Y E Aw (V (AE ?_)))
 refine AT h E (fun hc5 h=>?_) fun hc5 h=>?_
 refine AI (AG (AE (AN (Z ?_))))
 refine AC h fun x1 hx1 h=>?_
 refine BR 11 hx1 E E1 DD E E E fun g1 m2 cp1 hv4=>?_
 refine Ac (Af x1) E Cb E E (Cd (sz:=2) (enc:=Af) 11 zV E hv4 hx1) ?_
 refine Ag E DX zU fun b4=>?_
 refine Ak 0 E E E E DD E E E zT (V (Z ?_))
 refine AC h fun y3 hy3 h=>?_
 refine J E (Ac [AA x1.page,vS x1.tag] E Cb E E (Aa 0 E) (SL.pick [1,9,10,2,7,8,3,4,5,6,0] 11 (Bn 10 nL ((hrec hy3 :)) E ?_)))
 rintro _ _ ⟨v10,v11,rfl,rfl⟩
 refine O E (V (Z (J E (Y E Bb (V ?_)))))
 refine AT h E (fun hc6 h=>?_) fun hc6 h=>?_
 refine Z (J E (O E (V (AL (Ba (AZ (Dq (Ba (Eg ?_)))))))))
 obtain rfl:=zI h
 exact DL [0,1,2,3,4,5,6,7,8,9] 13 (Df E E) E E ⟨v10,v11,E,E⟩
 refine AI (Ao (AG (AK (Y E Az (J E (AU ?_))))))
 exact Al (m1,y3.2,v10,v11,wI (a1+1)) h (Nat.lt_succ_self _) tL (BG [0,3,6,7,8,9,4,5,1,2,11,12] 13 E E E)
 refine Ax (A3 (BO (A0 ?_)))
 exact Au (o2,v8,v9) h tL (BG [0,1,2,3,4,5,6,7,8,9,10] 12 E E E)
 obtain⟨o1,v6,v7⟩:=x
 dsimp only at h
 unfold MX at h
 try dsimp only
 refine AE ?_
 refine AC h fun l4 hl4 h=>?_
 refine Ai CY [0,10] (Bm [(true,0),(true,1),(true,2),(true,3),(true,4),(true,5),(true,6),(true,7),(false,8),(false,9),(true,10),(true,11)] (.last 12 .nil)) zK (J E (J E (AV E E (AD E R2 (AF 0 In E (J E (Ac [AA p1.page,vS p1.tag] E Cb E E (Aa 1 E) ?_)))))))
 refine BJ [_,_] E iG gI NO ⟨E,E,zT⟩ E ?_
 refine Bz [_] rfl FD JE NO ⟨rfl,trivial⟩ rfl rfl rfl zW rfl rfl (fun _=>⟨⟨1,rfl⟩,⟨11,rfl⟩,trivial⟩) fun b5=>?_
 refine B2 Ah 3 ([(⟨y1.1,p1.page,p1.tag⟩:A4)]:List A4) E zV E ?_
 refine CQ 9 hl4 (sz:=3) (enc:=Ah) zV E FD JE aq NO E zD E E E E (Bs (sz:=3) (enc:=Ah) 0 zV E) (by simp[Ah,Value.oneCell']) (fun _=>⟨⟨1,E⟩,⟨11,E⟩,zT⟩) fun v12=>?_
 refine AV E E (AD E R2 (BK ?_))
 refine Bq 9 E fun hv5 ho4=>?_
 refine Dk 1 E E E E bO hv5 ho4 E zT (V (Z (O E (V (AL ?_)))))
 obtain rfl:=zI h
 exact DL [1,9,10,2,7,8,3,4,5,6] 12 (Df E E) E E ⟨v12,v7,E,E⟩
end

section
variable {K:Nat→Prop}{w0:World}{H:List AW}
def Qa(n:Nat)(T:List UInt32):Nat→Et→Bx→BH→Ad→Option (Int×Et)
 | 0=>fun _ _ _ _=>none
 | f+1=>QS (Qa n T f) n T
theorem nK(n:Nat)(T:List UInt32):∀(f:Nat) {K:Nat→Prop} {w0:World} {H:List AW} {BD:Nat} {Ap:Value} {CJ:Value} {A1:Nat} {BY:Value} {A2:Nat} {CT:Nat} {DR:Value} {DQ:Nat} {DP:Nat} {p0:Et} {p0_1:Bx} {p0_2:BH} {p1:Ad} {r:Int×Et},Qa n T f p0 p0_1 p0_2 p1=some r→Ho K w0 T→zC K w0 48 [vP BD 0,.agg (Af p1).toArray] [AP BD (.cells #[vP A1 0,Ap,CJ,vI p0.count] 99),AH 72 3 Ap Ah p0.out,AH 79 4 CJ AJ p0.rows,AP A1 (.cells #[vP CT 0,BY,AA p0_1.gen,AA p0_1.boot,Ar p0_1.seals,.map (some A2)] 96),AH 138 2 BY BA p0_1.ring,BQ A2 AA vB p0_1.taken,AP CT (.cells #[vB p0_2.off,vB p0_2.isCut,vI p0_2.lasts,vI p0_2.counts,DR,.map (some DQ),.map (some DP),Ar p0_2.rcnt,vS p0_2.rtag,AA p0_2.rboots] 130),AH 9 1 DR eS p0_2.blocks,BQ DQ AA vS p0_2.pend,BQ DP AA vB p0_2.bad] H (fun u M=>∃vs0_0_1 vs0_0_2:Value,u=vI r.1∧M=[AP BD (.cells #[vP A1 0,vs0_0_1,vs0_0_2,vI r.2.count] 99),AH 72 3 vs0_0_1 Ah r.2.out,AH 79 4 vs0_0_2 AJ r.2.rows,AP A1 (.cells #[vP CT 0,BY,AA p0_1.gen,AA p0_1.boot,Ar p0_1.seals,.map (some A2)] 96),AH 138 2 BY BA p0_1.ring,BQ A2 AA vB p0_1.taken,AP CT (.cells #[vB p0_2.off,vB p0_2.isCut,vI p0_2.lasts,vI p0_2.counts,DR,.map (some DQ),.map (some DP),Ar p0_2.rcnt,vS p0_2.rtag,AA p0_2.rboots] 130),AH 9 1 DR eS p0_2.blocks,BQ DQ AA vS p0_2.pend,BQ DP AA vB p0_2.bad])
 | 0,_,_,_,_,_,_,_,_,_,_,_,_,_,_,_,_,_,_,h,_=>by cases h
 | f+1,_,_,_,_,_,_,_,_,_,_,_,_,_,_,_,_,_,_,h,hS=>tA h hS (fun h=>nK n T f h hS)
def SF(outs:List A4):UX Int:=fun q s=>
 (Nn (decide (q=(outs.length:Int))) ((Aq outs q).bind fun x=>some (!decide (x.txt=s)))).bind fun c=>
  cond c (some ((⟨0,[]⟩,61),q)) ((Aq outs (wI (wI (q+1)-1))).bind fun x=>some ((⟨x.page,x.tag⟩,0),wI (q+1)))
abbrev gj(ba bx br:Nat)(vv vo vr:Value)(cnt:Int)(outs:List A4)(_:Value)(q:Int):List AW:=
 [AP ba (.cells #[vI q] 3),AP bx (.cells #[vP br 0] 97),AP br (.cells #[vv,vo,vr,vI cnt] 99),AH 72 3 vo Ah outs]
theorem m0{T:List UInt32}{ba bx br:Nat}{vv vo vr:Value}{cnt:Int}{outs:List A4}:dP T 52 #[vP ba 0,vP bx 0] (gj ba bx br vv vo vr cnt outs) (SF outs):=by
 intro K w0 H a q s r hS h
 unfold SF at h
 refine AC h fun c hc h=>?_
 refine Ua.enter Tryz.func52 rfl rfl ?_
 show SX _ _ _ _ _ _ _ _ _ (gj ba bx br vv vo vr cnt outs a q++H)
 refine Z ?_
 refine Ag E DX zU fun b0=>?_
 refine O E (V (AE (AE (Ai CY [1,2,3,4] (Pl.of [(true,0),(true,1),(true,2),(true,3),(true,4),(true,5),(true,6),(true,7),(true,8),(true,9),(true,10),(true,11),(true,12),(true,13),(true,14),(true,15),(true,16),(true,17),(true,18)]) zK (AF 0 D6 E (AF 1 WA E (AV E E (AD E R2 (AF 2 In E (Dg 3 E FD E E ?_))))))))))
 refine Y E CE (J E ?_)
 refine KM 13 11 24 hc E (fun hb k=>?_) (fun hb hg k=>?_) ?_
 refine AB E (AB E (AB E (AB E (AB E (AB E (AB E (AB E ?_)))))))
 refine AB E (AB E (Ae E E E ?_))
 exact k.mono tL
 refine AC hg fun x hx hg=>?_
 obtain rfl:=zI hg
 refine AF 1 WA E (AV E E (AD E R2 (AF 2 In E (AF 0 D6 E ?_))))
 refine BR 4 hx E FD JE E E E fun g1 m1 cp1 hv1=>?_
 refine AD E X0 ?_
 refine Bi E Fm E (Br (sz:=3) (enc:=Ah) 3 0 zV E hv1 hx E) ?_
 refine J E (Y E I1 (Ae E E E ?_))
 exact k.mono tL
 refine V ?_
 refine AT h E (fun hc1 h=>?_) fun hc1 h=>?_
 obtain rfl:=zI h
 refine Z (BJ [] E Km Kl DX zT E (Ak 0 E E E E DD E E E zT (O E (V (AL (AZ ?_))))))
 exact AX (DV E (BB 0 (Af ⟨0,[]⟩) Cb E E E E) E) (AY (M:=gj ba bx br vv vo vr cnt outs a q) ⟨E,a,E⟩ fun _ hw=>Bc.pick (H:=[_]) hw [] 1 E)
 refine AC h fun x hx h=>?_
 obtain rfl:=zI h
 refine AI (AG (Z (AF 1 D6 E (Y E Az (Ak 1 E E E E NK E E E zT (V (AE (Ai CY [1,2,3,4] (Bm [(true,0),(true,1),(true,2),(true,3),(true,4),(true,5),(true,6),(true,7),(true,8)] (.last 9 (Pl.of [(false,10)]))) zK (AF 1 WA E (AV E E (AD E R2 (AF 2 In E ?_))))))))))))
 refine AF 0 D6 E (Y E B5 ?_)
 refine BR 4 hx E FD JE E E E fun g1 m1 cp1 hv1=>?_
 refine AD E Ps ?_
 refine Ac [AA x.page,vS x.tag] E Cb E E (Xf (sz:=3) (enc:=Ah) 3 zV E hv1 hx E) ?_
 refine BK (Ak 0 E E E E DD E E E zT (O E (V (AL ?_))))
 exact AX (DV E (BB 0 (Af ⟨x.page,x.tag⟩) Cb E E E E) E) (AY (M:=gj ba bx br vv vo vr cnt outs a (wI (q+1))) ⟨E,a,E⟩ fun _ hw=>Bc.pick (H:=[_]) hw [] 1 E)
end

section
variable {K:Nat→Prop}{w0:World}{H:List AW}
def Y7(a b:Ad):Bool:=decide (a.page=b.page)&&(decide (a.tag=b.tag)&&true)
def Rm(n:Nat)(T:List UInt32)(p0:Bx)(p0_1:BH)(p1:Ad):Option (List AM×List A4×Int):=
 (Qa n T n ⟨[],[],0⟩ p0 p0_1 p1).bind fun y=>cond (!decide (y.1=0)) (some ([],[],y.1))
  ((Zl n y.2.rows).bind fun l=>(KY n l).bind fun b=>cond (!decide (b.2=0)) (some ([],[],61))
   ((Ev n (SF y.2.out) n b.1 ⟨[],0⟩ 0).bind fun z=>cond ((!decide (z.2.1.wrong=0) || !decide (z.2.2=(y.2.out.length:Int))) || !Y7 z.1 p1) (some ([],[],61)) (some (l,y.2.out,0))))
theorem kL{n BD BF A1 A2 BL:Nat}{T:List UInt32}{Ap BM:Value}{p0:Bx}{p0_1:BH}{p1:Ad}{r:List AM×List A4×Int}(h:Rm n T p0 p0_1 p1=some r)(hS:Ho K w0 T):
  zC K w0 15 [vP BD 0,.agg (Af p1).toArray] (F3 ⟨BD,Ap,BF,A1,BM,A2,BL⟩ p0 p0_1) H (fun u M=>∃v0 v1:Value,u=.tuple #[v0,v1,vI r.2.2]∧M=AH 79 4 v0 AJ r.1::AH 72 3 v1 Ah r.2.1::F3 ⟨BD,Ap,BF,A1,BM,A2,BL⟩ p0 p0_1):=by
 unfold Rm at h
 obtain⟨⟨ye,y⟩,hy,h1⟩:=bnd h
 clear h
 dsimp only at h1
 refine Ua.enter Tryz.func15 rfl rfl ?_
 show SX _ _ _ _ _ _ _ _ _ (F3 ⟨BD,Ap,BF,A1,BM,A2,BL⟩ p0 p0_1++H)
 refine Z ?_
 refine Bf E E zU fun b0=>?_
 refine O E (O E (O E (V (AE (Z (J E (Fu E Yn E E (V (D5 E (AI (AG (Z (J E (BJ [_] E wO vc vi ⟨E,zT⟩ E ?_))))))))))))))
 refine Bf E E zU fun b1=>?_
 refine Du 0 (AP b1 (.cells #[vP BD 0,zN,zN,vI 0] 99)) ?_
 refine Ag E wK zU fun b2=>?_
 refine Ak 0 E E E E vg E E E zT (Du 0 (AP b2 (.cells #[vP b1 0] 97)) (Bk 79 4 AJ (Bk 72 3 Ah (V (AE (Z (AF 2 WA E (Ac (Af p1) E Cb E E (Aa 4 E) (SL.pick [3,0,1,5,6,7,8,9,10,11,2,4] 12 ?_)))))))))
 have hcon:=nK (K:=K) (w0:=w0) (H:=(AP b2 (.cells #[vP b1 0] 97)::AP b0 (.cells #[AA p1.page,vS p1.tag] 31)::H)++[BU []]) (BD:=b1) (Ap:=.slice none 0 0) (CJ:=.slice none 0 0) (A1:=BD) (BY:=Ap) (A2:=BF) (CT:=A1) (DR:=BM) (DQ:=A2) (DP:=BL) n T n hy hS
 refine Bg (vs:=[_,_]) (Hin:=AP b1 (.cells #[vP BD 0,zN,zN,vI 0] 99)::AH 72 3 zN Ah []::AH 79 4 zN AJ []::F3 ⟨BD,Ap,BF,A1,BM,A2,BL⟩ p0 p0_1) (Hr:=AP b2 (.cells #[vP b1 0] 97)::AP b0 (.cells #[AA p1.page,vS p1.tag] 31)::H) E E ⟨E,E,zT⟩ nL E E hcon ?_
 rintro _ _ ⟨vo,vr,rfl,rfl⟩
 refine⟨trivial,?_⟩
 refine O E (V (Z (J E (Y E Bb (V ?_)))))
 refine AT h1 E (fun hc2 h1=>?_) fun hc2 h1=>?_
 obtain rfl:=zI h1
 refine Z (J E (O E (O E (O E (V (AL (AZ (GK 72 3 Ah (GK 79 4 AJ ?_)))))))))
 exact AX (SU E E E E) (AY (M:=_::_::F3 ⟨BD,Ap,BF,A1,BM,A2,BL⟩ p0 p0_1) ⟨_,_,E,E⟩ fun _ hw=>Bc.pick (H:=[_,_,_,_,_,_,_,_,_,_,_,_,_,_]) hw [0,1,5,6,7,8,9,10,11] 14 E)
 obtain⟨l,hl,h2⟩:=bnd h1
 clear h1
 obtain⟨⟨b,be⟩,hb,h3⟩:=bnd h2
 clear h2
 dsimp only at h3
 refine AI (AG (Z (AF 10 WA E (AV E E (AD E Vp (AF 0 FO E (SL.pick [2,0,1,3,4,5,6,7,8,9,10,11] 12 ?_)))))))
 refine Bg (vs:=[_,_]) (Hin:=[AH 79 4 vr AJ y.rows]) (Hr:=_::_::(F3 ⟨BD,Ap,BF,A1,BM,A2,BL⟩ p0 p0_1++(_::_::H))) E E ⟨E,E,zT⟩ t9 E E (uK hl) ?_
 rintro _ _ ⟨rfl,rfl⟩
 refine⟨trivial,?_⟩
 refine V (Z (AF 10 WA E (AV E E (AD E Vp (AF 1 FO E ?_)))))
 have hcon2:=CV (K:=K) (w0:=w0) (H:=(AP b1 (.cells #[vP BD 0,vo,vr,vI y.count] 99)::AH 72 3 vo Ah y.out::(F3 ⟨BD,Ap,BF,A1,BM,A2,BL⟩ p0 p0_1++(AP b2 (.cells #[vP b1 0] 97)::AP b0 (.cells #[AA p1.page,vS p1.tag] 31)::H)))++[BU []]) (f:=25) (B:=[AH 79 4 vr AJ l]) (Hin:=[]) fun K' w1 hkk hB=>
  hE hb (B7 (e:=79) (v:=vr) zV (hB _ zS))
 refine Bg (vs:=[_]) (Hin:=[AH 79 4 vr AJ l]) (Hr:=AP b1 (.cells #[vP BD 0,vo,vr,vI y.count] 99)::AH 72 3 vo Ah y.out::(F3 ⟨BD,Ap,BF,A1,BM,A2,BL⟩ p0 p0_1++(AP b2 (.cells #[vP b1 0] 97)::AP b0 (.cells #[AA p1.page,vS p1.tag] 31)::H))) E E ⟨E,zT⟩ oo E E hcon2 ?_
 rintro _ _ ⟨_,rfl,nv,L,rfl,hnz,rfl⟩
 refine⟨trivial,?_⟩
 refine J E (Am E E E (Am E E E ?_))
 refine Ag E JA zU fun b3=>?_
 refine Ak 0 E E E E H7 E (List.all_eq_true.2 (Hd nv)) E zT (Du 0 (AP b3 (.cells (B8 nv).toArray 57)) (O E (V (AE (Z (J E (Y E Bb (V ?_))))))))
 refine AT h3 E (fun hc3 h3=>?_) fun hc3 h3=>?_
 obtain rfl:=zI h3
 refine Z (O E (O E (O E (V (AL (AZ (GK 72 3 Ah (GK 79 4 AJ ?_))))))))
 exact AX (SU E E E E) (AY (M:=_::_::F3 ⟨BD,Ap,BF,A1,BM,A2,BL⟩ p0 p0_1) ⟨_,_,E,E⟩ fun _ hw=>Bc.pick (H:=[_,_,_,_,_,_,_,_,_,_,_,_,_,_,_,_]) hw [0,1,7,8,9,10,11,12,13] 16 E)
 obtain⟨z,hz,h4⟩:=bnd h3
 clear h3
 refine AI (AG (Z ?_))
 refine Ag E rM zU fun b4=>?_
 refine Ak 0 E E E E NK E E E zT (Du 0 (AP b4 (.cells #[vI 0] 3)) (V (Z ?_)))
 refine Hj (fv:=#[]) (cv:=#[_,_]) E E E ?_
 refine BJ [_] E nr ny oR ⟨E,zT⟩ E ?_
 refine Bf E E zU fun b5=>?_
 refine Bk 72 3 Ah (O E (V ?_))
 have hcon3:=CV (K:=K) (w0:=w0) (H:=(AP b3 (.cells (B8 nv).toArray 57)::AH 79 4 vr AJ l::(F3 ⟨BD,Ap,BF,A1,BM,A2,BL⟩ p0 p0_1++(AP b0 (.cells #[AA p1.page,vS p1.tag] 31)::H)))++[BU []]) (f:=53) (B:=[Fi L]) (Hin:=Kt b5 (.func (.func 52) #[] #[vP b4 0,vP b2 0]) (.slice none 0 0) ⟨[],0⟩::AH 72 3 (.slice none 0 0) Ah []::gj b4 b2 b1 (vP BD 0) vo vr y.count y.out vo 0) fun K' w1 hkk hB=>
  ON (C:=gj b4 b2 b1 (vP BD 0) vo vr y.count y.out) (bp:=b5) (vo:=.slice none 0 0) (ca:=vo) (cs:=#[vP b4 0,vP b2 0]) uv m0 n (hS.keeps hkk) hz (hnz.lent (hB _ zS))
 generalize hpo:(fun(u:Value) (M:List AW)=>∃M',M=[Fi L]++M'∧(u=.agg (Af z.1).toArray∧∃vo' ca',M'=Kt b5 (.func (.func 52) #[] #[vP b4 0,vP b2 0]) vo' z.2.1::AH 72 3 vo' Ah z.2.1.out::gj b4 b2 b1 (vP BD 0) vo vr y.count y.out ca' z.2.2))=po at hcon3
 refine AE (Z (J E (Ac (B8 nv) E Lc E E (Aa 3 E) (SL.pick [5,1,0,2,15,6,7,3,4,8,9,10,11,12,13,14,16] 17 ?_))))
 refine Bg (vs:=[_,_]) (Hin:=[Fi L]++(Kt b5 (.func (.func 52) #[] #[vP b4 0,vP b2 0]) zN ⟨[],0⟩::AH 72 3 zN Ah []::gj b4 b2 b1 (vP BD 0) vo vr y.count y.out vo 0)) (Hr:=AP b3 (.cells (B8 nv).toArray 57)::AH 79 4 vr AJ l::(F3 ⟨BD,Ap,BF,A1,BM,A2,BL⟩ p0 p0_1++(AP b0 (.cells #[AA p1.page,vS p1.tag] 31)::H))) E E ⟨E,E,zT⟩ jj E E hcon3 ?_
 intro u0 M0 hpost
 rw[←hpo]at hpost
 obtain⟨_,rfl,rfl,vo2,ca2,rfl⟩:=hpost
 refine⟨trivial,?_⟩
 refine Ag E DX zU fun b6=>?_
 refine Ak 0 E E E E DD E E E zT (Du 0 (AP b6 (.cells #[AA z.1.page,vS z.1.tag] 31)) (V (AE (Ai CY [2,4,5,6,7,0,17] (Pl.of [(true,0),(true,1),(true,2),(true,3),(true,4),(true,5),(true,6),(true,7),(true,8),(true,9),(true,10),(true,11),(true,12),(true,13),(true,14),(true,15),(true,16),(true,17),(true,18)]) zK (J E (AV E E (AD E RC (AF 0 PO E (Y E Bb ?_)))))))))
 refine J E ?_
 refine C9 (c := !decide (z.2.2=(y.out.length:Int))) 51 8 59 E (fun hb k=>?_) (fun hb k=>?_) ?_
 refine AB E (AB E (AB E (AB E (AB E (AB E (AB E (Ae E E E ?_)))))))
 exact k.mono tL
 refine AF 1 D6 E (AF 2 WA E (AV E E (AD E R2 (AF 3 In E (Dg 4 E FD E E (Y E Bb (Ae E E E ?_)))))))
 exact k.mono tL
 refine J E ?_
 refine C9 (c := !Y7 z.1 p1) 60 4 64 E (fun hb k=>?_) (fun hb k=>?_) ?_
 refine AB E (AB E (AB E (Ae E E E ?_)))
 exact k.mono tL
 refine Ac (Af z.1) E Cb E E (Aa 5 E) (Ac (Af p1) E Cb E E (Aa 6 E) ?_)
 refine Qs E gG E E (Cc E E (KD (a:=z.1.page) (b:=p1.page)) (Cc E E (Sp (a:=z.1.tag) (b:=p1.tag)) If)) ?_
 refine Ae E E E ?_
 exact k.mono tL
 refine V ?_
 refine AT h4 E (fun hc4 h4=>?_) fun hc4 h4=>?_
 obtain rfl:=zI h4
 refine Z (O E (O E (O E (V (AL (AZ (GK 72 3 Ah (GK 79 4 AJ ?_))))))))
 exact AX (SU E E E E) (AY (M:=_::_::F3 ⟨BD,Ap,BF,A1,BM,A2,BL⟩ p0 p0_1) ⟨_,_,E,E⟩ fun _ hw=>Bc.pick (H:=[_,_,_,_,_,_,_,_,_,_,_,_,_,_,_,_,_,_,_,_]) hw [0,1,12,13,14,15,16,17,18] 20 E)
 obtain rfl:=zI h4
 refine AI (AG (AE (Ai CY [5,6] (Pl.of [(true,0),(true,1),(true,2),(true,3),(true,4),(true,5),(true,6),(true,7),(true,8),(true,9),(true,10)]) zK (AF 0 WA E (AV E E (AD E Vp (AF 1 FO E (AF 0 WA E (AV E E (AD E R2 ?_))))))))))
 refine AF 1 In E (O E (O E (O E (V (AL ?_)))))
 exact AX (SU E E E E) (AY (M:=AH 79 4 vr AJ l::AH 72 3 vo Ah y.out::F3 ⟨BD,Ap,BF,A1,BM,A2,BL⟩ p0 p0_1) ⟨_,_,E,E⟩ fun _ hw=>Bc.pick (H:=[_,_,_,_,_,_,_,_,_,_,_,_,_,_,_,_,_,_]) hw [9,7,10,11,12,13,14,15,16] 18 E)
end

section
theorem Jn{α:Type}(A:List α)(x:α)(B:List α){i:Int}(h:i=(A.length:Int)):Aq (A++x::B) i=some x:=by
 rw[D1 h]
 simp
theorem OB{α:Type}(A:List α)(x y:α)(B:List α){i:Int}(h:i=(A.length:Int)):FR (A++x::B) i y=some (A++y::B):=by
 rw[GI h zS]
 simp
def Js(l:List AM):Prop:=l.Pairwise fun a b=>a.id≤b.id
theorem Wu(a b:AM):∃y,Eu a b=some y∧decide (y<0)=decide (a.id<b.id):=by
 unfold Eu Hm Gs
 simp only[A7,U,decide_true,Bool.not_true,A9]
 by_cases h:a.id<b.id
 rw[zt h]
 exact⟨-1,rfl,rfl⟩
 rw[zf h]
 by_cases h2:b.id<a.id
 rw[zt h2]
 exact⟨1,rfl,rfl⟩
 rw[zf h2]
 exact⟨0,rfl,rfl⟩
theorem JG{a b:List AM}:Js (a++b)↔Js a∧Js b∧∀x∈a,∀y∈b,x.id≤y.id:=List.pairwise_append
theorem KS{a b:UInt64}(h:¬a<b):b≤a:=by
 rw[UInt64.lt_iff_toNat_lt]at h
 rw[UInt64.le_iff_toNat_le]
 omega
theorem UL{a b:UInt64}(h:a<b):a≤b:=by
 rw[UInt64.lt_iff_toNat_lt]at h
 rw[UInt64.le_iff_toNat_le]
 omega
theorem F7{a b c:UInt64}(h:a≤b)(h':b≤c):a≤c:=by
 rw[UInt64.le_iff_toNat_le]at*
 omega
theorem iO{a b c:UInt64}(h:a≤b)(h':b<c):a<c:=by
 rw[UInt64.le_iff_toNat_le]at*
 rw[UInt64.lt_iff_toNat_lt]at*
 omega
theorem hC{a b:UInt64}(h:a<b)(h':b≤a):False:=by
 rw[UInt64.le_iff_toNat_le]at*
 rw[UInt64.lt_iff_toNat_lt]at*
 omega
abbrev Ju:Nat:=1073741824
theorem al(p1:Int)(A:List AM)(x:AM)(R:List AM)(ha:p1=(A.length:Int)):
  ∀(k:Nat) (S T:List AM),S.length=k→(A++S++x::T++R).length≤Ju→Js (S++T)→(∀y∈T,x.id≤y.id)→
  ∃S',S'.Perm (S++x::T)∧Js S'∧∀(a1:Int) (nx1:List AM×Int→Option (List AM)) (m:Nat),k<m→Na p1 a1 nx1 m (A++S++x::T++R,((A.length+k:Nat):Int))=Qp a1 nx1 (A++S'++R)
 | 0,S,T,hk,hlen,hs,hx=>by
  have hS:S=[]:=List.length_eq_zero_iff.1 hk
  subst hS
  refine⟨x::T,List.Perm.refl _,List.pairwise_cons.2 ⟨hx,by simpa[Js]using hs⟩,fun a1 nx1 m hm=>?_⟩
  obtain⟨m,rfl⟩:∃k,m=k+1:=⟨m-1,by omega⟩
  show IM p1 a1 nx1 (Na p1 a1 nx1 m) _ _=_
  unfold IM
  dsimp only
  rw[zf zO]
  simp only[FQ,A9,U,List.append_nil]
 | k+1,S,T,hk,hlen,hs,hx=>by
  obtain⟨S0,z,rfl⟩:∃S0 z,S=S0++[z]:=⟨_,_,(List.dropLast_concat_getLast (by intro e;rw[e]at hk;simp at hk)).symm⟩
  have hk0:S0.length=k:=by simpa using hk
  obtain⟨y,hy,hlt⟩:=Wu x z
  have n1:∀i:Int,i=((A.length+(k+1):Nat):Int)→Aq (A++(S0++[z])++x::T++R) i=some x:=fun i hi=>by
   have:=Jn (A++(S0++[z])) x (T++R) (i:=i) (by rw[hi];simp;omega)
   simpa using this
  have n2:∀i:Int,i=((A.length+k:Nat):Int)→Aq (A++(S0++[z])++x::T++R) i=some z:=fun i hi=>by
   have:=Jn (A++S0) z (x::T++R) (i:=i) (by rw[hi];simp;omega)
   simpa using this
  have hb:(A.length:Int)+k+1≤1073741824:=by
   simp at hlen
   unfold Ju at hlen
   omega
  have e1:wI (((A.length+(k+1):Nat):Int)-1)=((A.length+k:Nat):Int):=by rw[BC zO zO];omega
  by_cases hc:x.id<z.id
  have hs':Js (S0++z::T):=by simpa using hs
  obtain⟨S',hp,hss,hf⟩:=al p1 A x R ha k S0 (z::T) hk0 (by simpa using hlen) hs' (fun w hw=>by
   rcases List.mem_cons.1 hw with rfl | hw
   exact UL hc
   exact hx w hw)
  refine⟨S',hp.trans ?_,hss,fun a1 nx1 m hm=>?_⟩
  rw[List.append_assoc]
  exact List.Perm.append_left _ (List.Perm.swap _ _ _)
  obtain⟨m,rfl⟩:∃k,m=k+1:=⟨m-1,by omega⟩
  show IM p1 a1 nx1 (Na p1 a1 nx1 m) _ _=_
  unfold IM
  dsimp only
  rw[zt zO,e1,n1 _ rfl,n2 _ rfl]
  simp only[FQ,BZ,U,hy,hlt,zt hc]
  have s1:FR (A++(S0++[z])++x::T++R) ((A.length+(k+1):Nat):Int) z=some (A++S0++z::z::T++R):=by
   have:=OB (A++(S0++[z])) x z (T++R) (i:=((A.length+(k+1):Nat):Int)) zQ
   simpa using this
  rw[s1,U]
  have n3:Aq (A++S0++z::z::T++R) ((A.length+k:Nat):Int)=some z:=by
   have:=Jn (A++S0) z (z::T++R) (i:=((A.length+k:Nat):Int)) zQ
   simpa using this
  have s2:FR (A++S0++z::z::T++R) ((A.length+k:Nat):Int) x=some (A++S0++x::z::T++R):=by
   have:=OB (A++S0) z x (z::T++R) (i:=((A.length+k:Nat):Int)) zQ
   simpa using this
  rw[n3,U,s2,U,A7]
  exact hf a1 nx1 m zO
  refine⟨S0++[z]++x::T,List.Perm.refl _,?_,fun a1 nx1 m hm=>?_⟩
  have h1:=JG.1 hs
  have hzx:=KS hc
  refine JG.2 ⟨h1.1,List.pairwise_cons.2 ⟨hx,h1.2.1⟩,fun w hw y hy=>?_⟩
  rcases List.mem_cons.1 hy with rfl | hy
  rcases List.mem_append.1 hw with hw0 | hw0
  have:=(JG.1 h1.1).2.2 w hw0 z zS
  exact F7 this hzx
  rw[List.mem_singleton.1 hw0]
  exact hzx
  exact h1.2.2 w hw y hy
  obtain⟨m,rfl⟩:∃k,m=k+1:=⟨m-1,by omega⟩
  show IM p1 a1 nx1 (Na p1 a1 nx1 m) _ _=_
  unfold IM
  dsimp only
  rw[zt zO,e1,n1 _ rfl,n2 _ rfl]
  simp only[FQ,BZ,U,hy,hlt,zf hc,A9]
  simp
theorem kS{n:Nat}(A:List AM)(X B:List AM)(hn:X.length+2≤n)(hlen:(A++X++B).length≤Ju):
  ∃X',X'.Perm X∧Js X'∧Wl n (A++X++B) (A.length:Int) ((A.length+X.length:Nat):Int)=some (A++X'++B):=by
 unfold Ju at hlen
 simp only[List.length_append]at hlen
 
 have key:∀(d:Nat) (S T:List AM),T.length=d→Js S→(S++T).length=X.length→(S++T).Perm X→∃X',X'.Perm X∧Js X'∧∀m,d<m→
   H2 n (A.length:Int) ((A.length+X.length:Nat):Int) m (A++S++T++B,((A.length+S.length:Nat):Int))=some (A++X'++B):=by
  intro d
  induction d with
  | zero=>
   intro S T hT hS hl hp
   have hT0:T=[]:=List.length_eq_zero_iff.1 hT
   subst hT0
   refine⟨S,by simpa using hp,hS,fun m hm=>?_⟩
   obtain⟨m,rfl⟩:∃k,m=k+1:=⟨m-1,by omega⟩
   show IL n _ _ (H2 n _ _ m) _ _=_
   unfold IL
   dsimp only
   rw[zf (by simp at hl;omega),A9]
   simp
  | succ d ih=>
   intro S T hT hS hl hp
   obtain⟨x,T',rfl⟩:∃x T',T=x::T':=by
    cases T with
    | nil=>simp at hT
    | cons x T'=>exact⟨x,T',rfl⟩
   have hT':T'.length=d:=by simpa using hT
   simp only[List.length_append,List.length_cons]at hl
   obtain⟨S',hp',hs',hf⟩:=al (A.length:Int) A x (T'++B) rfl S.length S [] rfl (by simp;unfold Ju;omega) (by simpa using hS) zS
   have hlS:S'.length=S.length+1:=by simpa using hp'.length_eq
   obtain⟨X',hX,hXs,hXf⟩:=ih S' T' hT' hs' (by simp[hlS];omega) (by
    refine(List.Perm.append_right T' hp').trans ?_
    simpa using hp)
   refine⟨X',hX,hXs,fun m hm=>?_⟩
   obtain⟨m,rfl⟩:∃k,m=k+1:=⟨m-1,by omega⟩
   show IL n _ _ (H2 n _ _ m) _ _=_
   unfold IL
   dsimp only
   rw[zt zO,BZ]
   have hf1:=hf ((A.length+S.length:Nat):Int) (H2 n (A.length:Int) ((A.length+X.length:Nat):Int) m) n zO
   rw[show A++S++x::T'++B=A++S++x::[]++(T'++B) by simp]
   refine hf1.trans ?_
   unfold Qp
   rw[A7,BC zO zO]
   have:=hXf m zO
   rw[hlS,show((A.length+(S.length+1):Nat):Int)=((A.length+S.length:Nat):Int)+1 by omega]at this
   rw[show A++S'++(T'++B)=A++S'++T'++B by simp]
   exact this
 unfold Wl
 rw[A7,BC zO zO]
 cases X with
 | nil=>
  refine⟨[],List.Perm.refl _,List.Pairwise.nil,?_⟩
  obtain⟨n,rfl⟩:∃k,n=k+1:=⟨n-1,by omega⟩
  show IL _ _ _ (H2 (n+1) _ _ n) _ _=_
  unfold IL
  dsimp only
  rw[zf zQ,A9]
 | cons x X=>
  obtain⟨X',h1,h2,h3⟩:=key X.length [x] X rfl (by simp[Js]) zS zS
  refine⟨X',h1,h2,?_⟩
  have:=h3 n (by simp at hn;omega)
  simpa using this
theorem am(A M B:List AM)(p1 p2 p3:Int)(h1:p1=(A.length:Int)):∀(X2 Y2 X1 Y1:List AM),X2.length=Y2.length→X1.length=Y1.length→p2=((A.length+X1.length+X2.length+M.length:Nat):Int)→p3=((X1.length+X2.length:Nat):Int)→
  (A++(Y1++X2)++M++(X1++Y2)++B).length≤Ju→∀m,X2.length<m→O5 p1 p2 p3 m (A++(Y1++X2)++M++(X1++Y2)++B,(X1.length:Int))=some (A++(Y1++Y2)++M++(X1++X2)++B)
 | [],Y2,X1,Y1,hl,hl1,h2,h3,hlen,m,hm=>by
  have hY:Y2=[]:=List.length_eq_zero_iff.1 hl.symm
  subst hY
  obtain⟨m,rfl⟩:∃k,m=k+1:=⟨m-1,by omega⟩
  show Kq _ _ _ (O5 _ _ _ m) _ _=_
  unfold Kq
  dsimp only
  rw[h3,zf zS,A9]
 | x::X2,Y2,X1,Y1,hl,hl1,h2,h3,hlen,m,hm=>by
  obtain⟨y,Y2',rfl⟩:∃y Y2',Y2=y::Y2':=by
   cases Y2 with
   | nil=>simp at hl
   | cons y Y2'=>exact⟨y,Y2',rfl⟩
  have hl':X2.length=Y2'.length:=by simpa using hl
  obtain⟨m,rfl⟩:∃k,m=k+1:=⟨m-1,by omega⟩
  unfold Ju at hlen
  simp only[List.length_append,List.length_cons]at hlen h2 h3 hm
  have e1:wI (p1+(X1.length:Int))=((A.length+X1.length:Nat):Int):=by rw[h1,BC zO zO];omega
  have e2:wI (p2+(X1.length:Int))=((A.length+X1.length+(X2.length+1)+M.length+X1.length:Nat):Int):=by rw[h2,BC zO zO];omega
  have n2:Aq (A++(Y1++x::X2)++M++(X1++y::Y2')++B) ((A.length+X1.length+(X2.length+1)+M.length+X1.length:Nat):Int)=some y:=by
   have:=Jn (A++(Y1++x::X2)++M++X1) y (Y2'++B) (i:=((A.length+X1.length+(X2.length+1)+M.length+X1.length:Nat):Int)) zQ
   simpa using this
  have n1:Aq (A++(Y1++x::X2)++M++(X1++y::Y2')++B) ((A.length+X1.length:Nat):Int)=some x:=by
   have:=Jn (A++Y1) x (X2++M++(X1++y::Y2')++B) (i:=((A.length+X1.length:Nat):Int)) zQ
   simpa using this
  have s1:FR (A++(Y1++x::X2)++M++(X1++y::Y2')++B) ((A.length+X1.length:Nat):Int) y=some (A++(Y1++y::X2)++M++(X1++y::Y2')++B):=by
   have:=OB (A++Y1) x y (X2++M++(X1++y::Y2')++B) (i:=((A.length+X1.length:Nat):Int)) zQ
   simpa using this
  have n3:Aq (A++(Y1++y::X2)++M++(X1++y::Y2')++B) ((A.length+X1.length+(X2.length+1)+M.length+X1.length:Nat):Int)=some y:=by
   have:=Jn (A++(Y1++y::X2)++M++X1) y (Y2'++B) (i:=((A.length+X1.length+(X2.length+1)+M.length+X1.length:Nat):Int)) zQ
   simpa using this
  have s2:FR (A++(Y1++y::X2)++M++(X1++y::Y2')++B) ((A.length+X1.length+(X2.length+1)+M.length+X1.length:Nat):Int) x=some (A++(Y1++y::X2)++M++(X1++x::Y2')++B):=by
   have:=OB (A++(Y1++y::X2)++M++X1) y x (Y2'++B) (i:=((A.length+X1.length+(X2.length+1)+M.length+X1.length:Nat):Int)) zQ
   simpa using this
  show Kq _ _ _ (O5 _ _ _ m) _ _=_
  unfold Kq
  dsimp only
  rw[zt zO,BZ,e1,e2,n2,U,n1,U,U,s1,U,n3,U,s2,U,A7,BC zO zO]
  have:=am A M B p1 p2 p3 h1 X2 Y2' (X1++[x]) (Y1++[y]) hl' (by simp[hl1]) (by rw[h2];simp;omega) (by rw[h3];simp;omega) (by unfold Ju;simp;omega) m zO
  simpa using this
theorem c6{n:Nat}(A X M Y9 B:List AM){p1 p2 p3:Int}(h1:p1=(A.length:Int))(h2:p2=((A.length+X.length+M.length:Nat):Int))(h3:p3=(X.length:Int))(hl:X.length=Y9.length)(hn:X.length<n)(hlen:(A++X++M++Y9++B).length≤Ju):
  Uz n (A++X++M++Y9++B) p1 p2 p3=some (A++Y9++M++X++B):=by
 unfold Uz
 have:=am A M B p1 p2 p3 h1 X Y9 [] [] hl rfl (by rw[h2];simp) (by rw[h3];simp) (by simpa using hlen) n hn
 simpa using this
theorem WZ{n:Nat}:∀(k:Nat) (A X Y9 B:List AM) (p2:Int),X≠[]→Y9≠[]→X.length+Y9.length≤k→k<n→p2=((A.length+X.length:Nat):Int)→(A++X++Y9++B).length≤Ju→∀m,k≤m→
  QZ n p2 m (A++X++Y9++B,(X.length:Int),(Y9.length:Int))=some (A++Y9++X++B)
 | 0,A,X,Y9,B,p2,hX,hY,hk,hkn,h2,hlen,m,hm=>absurd (List.length_eq_zero_iff.1 zO) hX
 | k+1,A,X,Y9,B,p2,hX,hY,hk,hkn,h2,hlen,m,hm=>by
  have hX1:=List.length_pos_iff.2 hX
  have hY1:=List.length_pos_iff.2 hY
  obtain⟨m,rfl⟩:∃k,m=k+1:=⟨m-1,by omega⟩
  unfold Ju at hlen
  simp only[List.length_append]at hlen
  have e0:wI (p2-(X.length:Int))=(A.length:Int):=by rw[h2,BC zO zO];omega
  show OJ _ _ (QZ _ _ m) _ _ _=_
  unfold OJ
  dsimp only
  by_cases heq:X.length=Y9.length
  rw[zt zO,Bool.not_true,A9]
  unfold Ta
  have hs:=c6 (n:=n) A X [] Y9 B (p1:=(A.length:Int)) (p2:=p2) (p3:=(X.length:Int)) rfl (by rw[h2];simp) rfl heq zO (by unfold Ju;simp;omega)
  simp only[List.append_nil]at hs
  rw[e0,hs]
  rfl
  rw[zf zO,Bool.not_false,BZ]
  by_cases hlt:Y9.length<X.length
  rw[zt zO,BZ]
  obtain⟨X1,X2,hXX,hX1l⟩:∃X1 X2,X=X1++X2∧X1.length=Y9.length:=⟨X.take Y9.length,X.drop Y9.length,(List.take_append_drop ..).symm,by simp;omega⟩
  subst hXX
  simp only[List.length_append]at*
  have hs:=c6 (n:=n) A X1 X2 Y9 B (p1:=(A.length:Int)) (p2:=p2) (p3:=(Y9.length:Int)) rfl (by rw[h2];omega) zO hX1l zO (by unfold Ju;simp;omega)
  rw[e0,show A++(X1++X2)++Y9++B=A++X1++X2++Y9++B by simp,hs,U,A7]
  have e1:wI (((X1.length+X2.length:Nat):Int)-(Y9.length:Int))=(X2.length:Int):=by rw[BC zO zO];omega
  have:=WZ (n:=n) k (A++Y9) X2 X1 B p2 (List.length_pos_iff.1 zO) (List.length_pos_iff.1 zO) zO zO (by rw[h2];simp;omega) (by unfold Ju;simp;omega) m zO
  rw[e1,←hX1l]
  rw[this]
  simp
  rw[zf zO,A9]
  obtain⟨Y1,Y2,hYY,hY2l⟩:∃Y1 Y2,Y9=Y1++Y2∧Y2.length=X.length:=⟨Y9.take (Y9.length-X.length),Y9.drop (Y9.length-X.length),(List.take_append_drop ..).symm,by simp;omega⟩
  subst hYY
  simp only[List.length_append]at*
  have e2:wI (wI (p2+((Y1.length+Y2.length:Nat):Int))-(X.length:Int))=((A.length+X.length+Y1.length:Nat):Int):=by
   rw[h2,BC (x:=_+_) zO zO,BC zO zO]
   omega
  have hs:=c6 (n:=n) A X Y1 Y2 B (p1:=(A.length:Int)) (p2:=((A.length+X.length+Y1.length:Nat):Int)) (p3:=(X.length:Int)) rfl rfl rfl hY2l.symm zO (by unfold Ju;simp;omega)
  rw[e0,e2,show A++X++(Y1++Y2)++B=A++X++Y1++Y2++B by simp,hs,U,A7]
  have e1:wI (((Y1.length+Y2.length:Nat):Int)-(X.length:Int))=(Y1.length:Int):=by rw[BC zO zO];omega
  have:=WZ (n:=n) k A Y2 Y1 (X++B) p2 (List.length_pos_iff.1 zO) (List.length_pos_iff.1 zO) zO zO (by rw[h2];simp;omega) (by unfold Ju;simp;omega) m zO
  rw[e1,←hY2l]
  rw[show A++Y2++Y1++X++B=A++Y2++Y1++(X++B) by simp,this]
  simp
theorem sB{n:Nat}(A X Y9 B:List AM){p1 p2 p3:Int}(hX:X≠[])(hY:Y9≠[])(hn:X.length+Y9.length<n)(h1:p1=(A.length:Int))(h2:p2=((A.length+X.length:Nat):Int))(h3:p3=((A.length+X.length+Y9.length:Nat):Int))(hlen:(A++X++Y9++B).length≤Ju):
  YX n (A++X++Y9++B) p1 p2 p3=some (A++Y9++X++B):=by
 have hb:=hlen
 unfold Ju at hb
 simp only[List.length_append]at hb
 unfold YX
 have e1:wI (p2-p1)=(X.length:Int):=by rw[h1,h2,BC zO zO];omega
 have e2:wI (p3-p2)=(Y9.length:Int):=by rw[h2,h3,BC zO zO];omega
 rw[A7,A7,e1,e2]
 exact WZ (n:=n) (X.length+Y9.length) A X Y9 B p2 hX hY (Nat.le_refl _) hn h2 hlen n zO
theorem Vr{x:Nat}(h:x≤4294967296):wI ((shr64 (BX (wI (x:Int))) 1).toNat:Int)=((x / 2:Nat):Int):=by
 have e:(BX (wI (x:Int))).toNat=x:=by
  rw[BC zO zO]
  simp only[BX,UInt64.toNat_ofNat']
  omega
 rw[JW _ _ zD,e,BC zO zO]
theorem ZQ{β:Type}{F:(Int×Int→Option β)→Int×Int→Option β}{z:Nat→Option β}(test:Nat→Bool)(lo hi:Nat)
(hs:∀i j:Nat,lo≤i→i<j→j≤hi→∀nx,F nx ((i:Int),(j:Int))=cond (test ((i+j) / 2)) (nx ((((i+j) / 2+1:Nat):Int),(j:Int))) (nx ((i:Int),(((i+j) / 2:Nat):Int))))
(he:∀(i:Nat) nx,lo≤i→i≤hi→F nx ((i:Int),(i:Int))=z i)(hmono:∀c d,lo≤c→c≤d→d<hi→test d=true→test c=true)(hlh:lo≤hi):
  ∃s,lo≤s∧s≤hi∧(∀c,lo≤c→c<s→test c=true)∧(∀c,s≤c→c<hi→test c=false)∧∀m,hi-lo<m→By F m ((lo:Int),(hi:Int))=z s:=by
 have key:∀(d i j:Nat),j-i≤d→lo≤i→i≤j→j≤hi→(∀c,lo≤c→c<i→test c=true)→(∀c,j≤c→c<hi→test c=false)→
   ∃s,lo≤s∧s≤hi∧(∀c,lo≤c→c<s→test c=true)∧(∀c,s≤c→c<hi→test c=false)∧∀m,j-i<m→By F m ((i:Int),(j:Int))=z s:=by
  intro d
  induction d with
  | zero=>
   intro i j hd h1 h2 h3 h4 h5
   obtain rfl:i=j:=zO
   refine⟨i,h1,h3,h4,h5,fun m hm=>?_⟩
   obtain⟨m,rfl⟩:∃k,m=k+1:=⟨m-1,by omega⟩
   exact he i _ h1 h3
  | succ d ih=>
   intro i j hd h1 h2 h3 h4 h5
   by_cases hij:i=j
   subst hij
   refine⟨i,h1,h3,h4,h5,fun m hm=>?_⟩
   obtain⟨m,rfl⟩:∃k,m=k+1:=⟨m-1,by omega⟩
   exact he i _ h1 h3
   have hlt:i<j:=zO
   have hc1:i≤(i+j) / 2:=zO
   have hc2:(i+j) / 2<j:=zO
   by_cases ht:test ((i+j) / 2)=true
   obtain⟨s,a1,a2,a3,a4,a5⟩:=ih ((i+j) / 2+1) j zO zO zO h3 (fun c hc hc'=>hmono c ((i+j) / 2) hc zO zO ht) h5
   refine⟨s,a1,a2,a3,a4,fun m hm=>?_⟩
   obtain⟨m,rfl⟩:∃k,m=k+1:=⟨m-1,by omega⟩
   show F (By F m) _=_
   rw[hs i j h1 hlt h3,ht,BZ]
   exact a5 m zO
   have ht':test ((i+j) / 2)=false:=by simpa using ht
   obtain⟨s,a1,a2,a3,a4,a5⟩:=ih i ((i+j) / 2) zO h1 zO zO h4 (fun c hc hc'=>by
    by_cases hcj:test c=true
    exact absurd (hmono ((i+j) / 2) c zO hc hc' hcj) ht
    simpa using hcj)
   refine⟨s,a1,a2,a3,a4,fun m hm=>?_⟩
   obtain⟨m,rfl⟩:∃k,m=k+1:=⟨m-1,by omega⟩
   show F (By F m) _=_
   rw[hs i j h1 hlt h3,ht',A9]
   exact a5 m zO
 exact key (hi-lo) lo hi (Nat.le_refl _) (Nat.le_refl _) hlh (Nat.le_refl _) (fun c h1 h2=>by omega) (fun c h1 h2=>by omega)
def Lp:AM:=⟨0,0,0,[]⟩
theorem Jy{l:List AM}{i:Nat}(h:i<l.length):l.getD i Lp=l[i]:=by simp[List.getD_eq_getElem?_getD,h]
theorem NG{X:List AM}(h:Js X){i j:Nat}(hij:i≤j)(hj:j<X.length):(X.getD i Lp).id≤(X.getD j Lp).id:=by
 rw[Jy (show i<X.length by omega),Jy hj]
 rcases Nat.lt_or_ge i j with h1 | h1
 exact List.pairwise_iff_getElem.1 h i j zO hj h1
 obtain rfl:i=j:=zO
 exact UInt64.le_refl _
theorem kD{A X R:List AM}{i:Nat}(h:i<X.length):(A++X++R).getD (A.length+i) Lp=X.getD i Lp:=by
 simp only[List.getD_eq_getElem?_getD]
 rw[List.append_assoc,List.getElem?_append_right zO,Nat.add_sub_cancel_left,List.getElem?_append_left h]
theorem qi{A X Y9 R:List AM}{i:Nat}(h:i<Y9.length):(A++X++Y9++R).getD (A.length+X.length+i) Lp=Y9.getD i Lp:=by
 have:=kD (A:=A++X) (X:=Y9) (R:=R) (i:=i) h
 simpa using this
theorem cX(R:List AM)(x:AM)(a1:Int):∀(Y9 A:List AM),a1=((A.length+Y9.length+1:Nat):Int)→(A++x::Y9++R).length≤Ju→∀m,Y9.length<m→
  Ox a1 m (A++x::Y9++R,(A.length:Int))=some (A++Y9++x::R)
 | [],A,h1,hlen,m,hm=>by
  obtain⟨m,rfl⟩:∃k,m=k+1:=⟨m-1,by omega⟩
  unfold Ju at hlen
  simp at hlen
  show Ki _ (Ox _ m) _ _=_
  unfold Ki
  dsimp only
  simp only[List.length_nil]at h1
  rw[h1,BC zO zO,zf zO,A9]
  unfold Tn
  simp
 | y::Y9,A,h1,hlen,m,hm=>by
  obtain⟨m,rfl⟩:∃k,m=k+1:=⟨m-1,by omega⟩
  unfold Ju at hlen
  simp only[List.length_append,List.length_cons]at hlen h1 hm
  have e1:wI ((A.length:Int)+1)=((A.length+1:Nat):Int):=by rw[BC zO zO];omega
  have n1:Aq (A++x::y::Y9++R) ((A.length+1:Nat):Int)=some y:=by
   have:=Jn (A++[x]) y (Y9++R) (i:=((A.length+1:Nat):Int)) zS
   simpa using this
  have n2:Aq (A++x::y::Y9++R) (A.length:Int)=some x:=by
   have:=Jn A x (y::Y9++R) (i:=(A.length:Int)) rfl
   simpa using this
  have s1:FR (A++x::y::Y9++R) (A.length:Int) y=some (A++y::y::Y9++R):=by
   have:=OB A x y (y::Y9++R) (i:=(A.length:Int)) rfl
   simpa using this
  have n3:Aq (A++y::y::Y9++R) ((A.length+1:Nat):Int)=some y:=by
   have:=Jn (A++[y]) y (Y9++R) (i:=((A.length+1:Nat):Int)) zS
   simpa using this
  have s2:FR (A++y::y::Y9++R) ((A.length+1:Nat):Int) x=some (A++y::x::Y9++R):=by
   have:=OB (A++[y]) y x (Y9++R) (i:=((A.length+1:Nat):Int)) zS
   simpa using this
  show Ki _ (Ox _ m) _ _=_
  unfold Ki
  dsimp only
  rw[h1,BC (x:=_-1) zO zO,zt zO,BZ,e1,n1,U,n2,U,U,s1,U,n3,U,s2,U,A7]
  have:=cX R x a1 Y9 (A++[y]) (by rw[h1];simp;omega) (by unfold Ju;simp;omega) m zO
  rw[h1]at this
  simpa using this
theorem fO(A:List AM)(y:AM):∀(k:Nat) (S R:List AM),S.length=k→(A++S++y::R).length≤Ju→∀m,k<m→
  O4 (A.length:Int) m (A++S++y::R,((A.length+k:Nat):Int))=some (A++y::S++R)
 | 0,S,R,hk,hlen,m,hm=>by
  have hS:S=[]:=List.length_eq_zero_iff.1 hk
  subst hS
  obtain⟨m,rfl⟩:∃k,m=k+1:=⟨m-1,by omega⟩
  show Kg _ (O4 _ m) _ _=_
  unfold Kg
  dsimp only
  rw[zf zO,A9]
  unfold Tj
  simp
 | k+1,S,R,hk,hlen,m,hm=>by
  obtain⟨S,z,rfl⟩:∃S0 z,S=S0++[z]:=⟨_,_,(List.dropLast_concat_getLast (by intro e;rw[e]at hk;simp at hk)).symm⟩
  have hk0:S.length=k:=by simpa using hk
  obtain⟨m,rfl⟩:∃k,m=k+1:=⟨m-1,by omega⟩
  unfold Ju at hlen
  simp only[List.length_append,List.length_cons,List.length_nil]at hlen
  have e1:wI (((A.length+(k+1):Nat):Int)-1)=((A.length+k:Nat):Int):=by rw[BC zO zO];omega
  have n1:Aq (A++(S++[z])++y::R) ((A.length+k:Nat):Int)=some z:=by
   have:=Jn (A++S) z (y::R) (i:=((A.length+k:Nat):Int)) zQ
   simpa using this
  have n2:Aq (A++(S++[z])++y::R) ((A.length+(k+1):Nat):Int)=some y:=by
   have:=Jn (A++(S++[z])) y R (i:=((A.length+(k+1):Nat):Int)) zQ
   simpa using this
  have s1:FR (A++(S++[z])++y::R) ((A.length+(k+1):Nat):Int) z=some (A++(S++[z])++z::R):=by
   have:=OB (A++(S++[z])) y z R (i:=((A.length+(k+1):Nat):Int)) zQ
   simpa using this
  have n3:Aq (A++(S++[z])++z::R) ((A.length+k:Nat):Int)=some z:=by
   have:=Jn (A++S) z (z::R) (i:=((A.length+k:Nat):Int)) zQ
   simpa using this
  have s2:FR (A++(S++[z])++z::R) ((A.length+k:Nat):Int) y=some (A++(S++[y])++z::R):=by
   have:=OB (A++S) z y (z::R) (i:=((A.length+k:Nat):Int)) zQ
   simpa using this
  show Kg _ (O4 _ m) _ _=_
  unfold Kg
  dsimp only
  rw[zt zO,BZ,e1,n1,U,n2,U,U,s1,U,n3,U,s2,U,A7]
  have:=fO A y k S (z::R) hk0 (by unfold Ju;simp;omega) m zO
  simpa using this
theorem Zc(a b:AM):∃y,Eu a b=some y∧(!(decide (y<0)))=decide (b.id≤a.id):=by
 obtain⟨y,h1,h2⟩:=Wu a b
 refine⟨y,h1,?_⟩
 rw[h2,Bool.eq_iff_iff]
 simp only[Bool.not_eq_true',decide_eq_false_iff_not,decide_eq_true_eq]
 exact⟨KS,fun h h'=>hC h' h⟩
theorem df(n:Nat):∀(f:Nat) (A X Y9 B:List AM) (p1 p2 p3:Int),X≠[]→Y9≠[]→X.length+Y9.length≤f→X.length+Y9.length+1<n→p1=(A.length:Int)→p2=((A.length+X.length:Nat):Int)→p3=((A.length+X.length+Y9.length:Nat):Int)→
  (A++X++Y9++B).length≤Ju→Js X→Js Y9→∃Z9,Z9.Perm (X++Y9)∧Js Z9∧PG n f (A++X++Y9++B) p1 p2 p3=some (A++Z9++B)
 | 0,A,X,Y9,B,p1,p2,p3,hX,hY,hf,hn,h1,h2,h3,hlen,hsX,hsY=>absurd (List.length_eq_zero_iff.1 zO) hX
 | f+1,A,X,Y9,B,p1,p2,p3,hX,hY,hf,hn,h1,h2,h3,hlen,hsX,hsY=>by
  have hX1:=List.length_pos_iff.2 hX
  have hY1:=List.length_pos_iff.2 hY
  have hb:=hlen
  unfold Ju at hb
  simp only[List.length_append]at hb
  have gX:∀i,i<X.length→Aq (A++X++Y9++B) ((A.length+i:Nat):Int)=some (X.getD i Lp):=fun i hi=>by
   rw[CK Lp rfl zQ,List.append_assoc (A++X),kD hi]
  have gY:∀i,i<Y9.length→Aq (A++X++Y9++B) ((A.length+X.length+i:Nat):Int)=some (Y9.getD i Lp):=fun i hi=>by
   rw[CK Lp rfl zQ,qi hi]
  have e21:wI (p2-p1)=(X.length:Int):=by rw[h1,h2,BC zO zO];omega
  have e32:wI (p3-p2)=(Y9.length:Int):=by rw[h3,h2,BC zO zO];omega
  show ∃Z9,Z9.Perm (X++Y9)∧Js Z9∧Zg (PG n f) n _ _ _ _=_
  unfold Zg
  rw[e21]
  by_cases hx1:X.length=1
  
  obtain⟨x,rfl⟩:=List.length_eq_one_iff.1 hx1
  rw[zt zS,BZ]
  simp only[List.length_singleton]at*
  obtain⟨s,b1,b2,b3,b4,b5⟩:=ZQ (F:=fun nx ww=>Mf n (A++[x]++Y9++B) p1 nx ww.1 ww.2) (z:=fun i=>Q3 n (A++[x]++Y9++B) p1 (i:Int))
   (fun c=>decide ((Y9.getD (c-(A.length+1)) Lp).id<x.id)) (A.length+1) (A.length+1+Y9.length) (fun i j hi hij hj nx=>by
    obtain⟨y,hy,hlt⟩:=Wu (Y9.getD ((i+j) / 2-(A.length+1)) Lp) x
    have g:=gY ((i+j) / 2-(A.length+1)) zO
    rw[show A.length+1+((i+j) / 2-(A.length+1))=(i+j) / 2 by omega]at g
    have gx:=gX 0 zO
    simp only[Mf]
    rw[zt zO,BZ,A7,show(i:Int)+(j:Int)=((i+j:Nat):Int) by omega,Vr zO,g,U,h1,show(A.length:Int)=((A.length+0:Nat):Int)from rfl,gx,U]
    rw[show([x]:List AM).getD 0 Lp=x from rfl,hy,U,hlt,A7,BC zO zO]
    rfl) (fun i nx _ _=>by
    simp only[Mf]
    rw[zf zO,A9]) (fun c d hc hcd hd ht=>by
    rw[decide_eq_true_eq]at ht ⊢
    exact iO (NG hsY zO zO) ht) zO
  refine⟨Y9.take (s-(A.length+1))++x::Y9.drop (s-(A.length+1)),?_,?_,?_⟩
  refine List.perm_middle.trans ?_
  rw[List.take_append_drop]
  exact List.Perm.refl _
  refine JG.2 ⟨List.Pairwise.sublist (List.take_sublist ..) hsY,List.pairwise_cons.2 ⟨fun y hy=>?_,List.Pairwise.sublist (List.drop_sublist ..) hsY⟩,fun u hu w hw=>?_⟩
  obtain⟨i,hi,rfl⟩:=List.getElem_of_mem hy
  simp only[List.length_drop]at hi
  have:=b4 s zO zO
  rw[decide_eq_false_iff_not]at this
  have h5:=KS this
  rw[List.getElem_drop]
  have h6:=NG hsY (i:=s-(A.length+1)) (j:=s-(A.length+1)+i) zO zO
  rw[Jy (show s-(A.length+1)+i<Y9.length by omega)]at h6
  exact F7 h5 h6
  obtain⟨i,hi,rfl⟩:=List.getElem_of_mem hu
  simp only[List.length_take]at hi
  have:=b3 (A.length+1+i) zO zO
  rw[decide_eq_true_eq,Nat.add_sub_cancel_left,Jy zO]at this
  rw[List.getElem_take]
  rcases List.mem_cons.1 hw with rfl | hw
  exact UL this
  obtain⟨k,hk,rfl⟩:=List.getElem_of_mem hw
  simp only[List.length_drop]at hk
  rw[List.getElem_drop]
  exact List.pairwise_iff_getElem.1 hsY i (s-(A.length+1)+k) zO zO zO
  have e2:p2=((A.length+1:Nat):Int):=h2
  have e3:p3=((A.length+1+Y9.length:Nat):Int):=h3
  have hb5:=b5 n zO
  unfold TV
  rw[e2,e3,hb5]
  unfold Q3
  have:=cX (Y9.drop (s-(A.length+1))++B) x (s:Int) (Y9.take (s-(A.length+1))) A zQ (by unfold Ju;simp;omega) n zQ
  rw[h1,show A++[x]++Y9++B=A++x::Y9.take (s-(A.length+1))++(Y9.drop (s-(A.length+1))++B) by
   conv=>lhs;rw[←List.take_append_drop (s-(A.length+1)) Y9]
   simp only[List.append_assoc,List.cons_append,List.nil_append],this]
  simp
  rw[zf zO,A9]
  unfold TT
  rw[e32]
  by_cases hy1:Y9.length=1
  
  obtain⟨y,rfl⟩:=List.length_eq_one_iff.1 hy1
  rw[zt zS,BZ]
  simp only[List.length_singleton]at*
  obtain⟨s,b1,b2,b3,b4,b5⟩:=ZQ (F:=fun nx ww=>MS n p2 (A++X++[y]++B) nx ww.1 ww.2) (z:=fun i=>Qc n p2 (A++X++[y]++B) (i:Int))
   (fun c=>decide ((X.getD (c-A.length) Lp).id≤y.id)) A.length (A.length+X.length) (fun i j hi hij hj nx=>by
    obtain⟨u,hu,hlt⟩:=Zc y (X.getD ((i+j) / 2-A.length) Lp)
    have g:=gX ((i+j) / 2-A.length) zO
    rw[show A.length+((i+j) / 2-A.length)=(i+j) / 2 by omega]at g
    have gy:=gY 0 zO
    simp only[MS]
    rw[zt zO,BZ,A7,show(i:Int)+(j:Int)=((i+j:Nat):Int) by omega,Vr zO,h2,show((A.length+X.length:Nat):Int)=((A.length+X.length+0:Nat):Int)from rfl,gy,U,g,U]
    rw[show([y]:List AM).getD 0 Lp=y from rfl,hu,U,hlt,A7,BC zO zO]
    rfl) (fun i nx _ _=>by
    simp only[MS]
    rw[zf zO,A9]) (fun c d hc hcd hd ht=>by
    rw[decide_eq_true_eq]at ht ⊢
    exact F7 (NG hsX zO zO) ht) zO
  refine⟨X.take (s-A.length)++y::X.drop (s-A.length),?_,?_,?_⟩
  refine List.perm_middle.trans ?_
  rw[List.take_append_drop]
  exact(List.perm_append_singleton y X).symm
  refine JG.2 ⟨List.Pairwise.sublist (List.take_sublist ..) hsX,List.pairwise_cons.2 ⟨fun w hw=>?_,List.Pairwise.sublist (List.drop_sublist ..) hsX⟩,fun u hu w hw=>?_⟩
  obtain⟨i,hi,rfl⟩:=List.getElem_of_mem hw
  simp only[List.length_drop]at hi
  have:=b4 (s+i) zO zO
  rw[decide_eq_false_iff_not,show s+i-A.length=s-A.length+i by omega,Jy (show s-A.length+i<X.length by omega)]at this
  rw[List.getElem_drop]
  rw[UInt64.le_iff_toNat_le]at*
  omega
  obtain⟨i,hi,rfl⟩:=List.getElem_of_mem hu
  simp only[List.length_take]at hi
  have:=b3 (A.length+i) zO zO
  rw[decide_eq_true_eq,Nat.add_sub_cancel_left,Jy zO]at this
  rw[List.getElem_take]
  rcases List.mem_cons.1 hw with rfl | hw
  exact this
  obtain⟨k,hk,rfl⟩:=List.getElem_of_mem hw
  simp only[List.length_drop]at hk
  rw[List.getElem_drop]
  exact List.pairwise_iff_getElem.1 hsX i (s-A.length+k) zO zO zO
  have hb5:=b5 n zO
  unfold Tk
  rw[h1]
  conv=>lhs;rw[show p2=((A.length+X.length:Nat):Int)from h2]
  rw[h2]at hb5
  rw[hb5]
  unfold Qc
  have:=fO (A++X.take (s-A.length)) y (A.length+X.length-s) (X.drop (s-A.length)) B zQ (by unfold Ju;simp;omega) n zO
  rw[show(A++X.take (s-A.length)).length=s by simp;omega]at this
  rw[show s+(A.length+X.length-s)=A.length+X.length by omega]at this
  rw[show A++X++[y]++B=A++X.take (s-A.length)++X.drop (s-A.length)++y::B by
   conv=>lhs;rw[←List.take_append_drop (s-A.length) X]
   simp only[List.append_assoc,List.cons_append,List.nil_append],this]
  simp
  rw[zf zO,A9]
  
  obtain⟨a,ha⟩:∃a,a=A.length:=⟨_,rfl⟩
  obtain⟨m,hm⟩:∃m,m=A.length+X.length:=⟨_,rfl⟩
  obtain⟨b,hbb⟩:∃b,b=A.length+X.length+Y9.length:=⟨_,rfl⟩
  obtain⟨mid,hmid⟩:∃mid,mid=(a+b) / 2:=⟨_,rfl⟩
  obtain⟨lo,hi,hlh⟩:∃lo hi:Nat,(mid<m∧lo=mid+m-b∧hi=mid)∨(m≤mid∧lo=a∧hi=m):=by
   rcases Nat.lt_or_ge mid m with h | h
   exact⟨_,_,.inl ⟨h,rfl,rfl⟩⟩
   exact⟨_,_,.inr ⟨h,rfl,rfl⟩⟩
  rw[←ha]at h1
  rw[←hm]at h2
  rw[←hbb]at h3
  have hj4:RH n p1 p2 p3 (PG n f) (A++X++Y9++B)=Ow n p1 p2 p3 (PG n f) (A++X++Y9++B) (mid:Int) ((mid+m:Nat):Int) (lo:Int) (hi:Int):=by
   unfold RH
   rw[A7,A7,h1,h2,h3,show(a:Int)+(b:Int)=((a+b:Nat):Int) by omega,Vr zO,←hmid,BC (x:=(mid:Int)+_) zO zO,show(mid:Int)+(m:Int)=((mid+m:Nat):Int) by omega]
   rcases hlh with⟨h5,rfl,rfl⟩ | ⟨h5,rfl,rfl⟩
   rw[zt zO,BZ,A7,BC zO zO]
   congr 1
   omega
   rw[zf zO,A9]
  rw[hj4]
  clear hj4
  unfold Ow
  rw[A7,BC zO zO]
  have hloa:a≤lo:=zO
  have hlh2:lo≤hi:=zO
  have him:hi≤m:=zO
  have hpb:∀c,lo≤c→c<hi→m≤mid+m-1-c∧mid+m-1-c<b:=by
   intro c h5 h6
   omega
  obtain⟨s,b1,b2,b3,b4,b5⟩:=ZQ (F:=fun nx ww=>Ma n p1 p2 p3 (PG n f) (A++X++Y9++B) (mid:Int) ((mid+m:Nat):Int) (((mid+m:Nat):Int)-1) nx ww.1 ww.2)
   (z:=fun i=>Oy n p1 p2 p3 (PG n f) (A++X++Y9++B) (mid:Int) ((mid+m:Nat):Int) (i:Int))
   (fun c=>decide ((X.getD (c-a) Lp).id≤(Y9.getD (mid+m-1-c-m) Lp).id)) lo hi (fun i j hi1 hij hj nx=>by
    have hpp:=hpb ((i+j) / 2) zO zO
    obtain⟨u,hu,hlt⟩:=Zc (Y9.getD (mid+m-1-(i+j) / 2-m) Lp) (X.getD ((i+j) / 2-a) Lp)
    have g:=gX ((i+j) / 2-a) zO
    rw[show A.length+((i+j) / 2-a)=(i+j) / 2 by omega]at g
    have gy:=gY (mid+m-1-(i+j) / 2-m) zO
    rw[show A.length+X.length+(mid+m-1-(i+j) / 2-m)=mid+m-1-(i+j) / 2 by omega]at gy
    simp only[Ma]
    rw[zt zO,BZ,A7,show(i:Int)+(j:Int)=((i+j:Nat):Int) by omega,Vr zO,BC (x:=((mid+m:Nat):Int)-1-_) zO zO,show((mid+m:Nat):Int)-1-(((i+j) / 2:Nat):Int)=((mid+m-1-(i+j) / 2:Nat):Int) by omega,gy,U,g,U]
    rw[hu,U,hlt,A7,BC zO zO]
    rfl) (fun i nx _ _=>by
    simp only[Ma]
    rw[zf zO,A9]) (fun c d hc hcd hd ht=>by
    rw[decide_eq_true_eq]at ht ⊢
    have hp1:=hpb c hc zO
    have hp2:=hpb d zO hd
    refine F7 (NG hsX (show c-a≤d-a by omega) zO) (F7 ht (NG hsY zO zO))) hlh2
  have hb5:=b5 n zO
  unfold Tv
  rw[hb5]
  clear hb5 b5
  obtain⟨e,he⟩:∃e,e=mid+m-s:=⟨_,rfl⟩
  have hem:m≤e:=zO
  have heb:e≤b:=zO
  have hx12:X=X.take (s-a)++X.drop (s-a):=(List.take_append_drop ..).symm
  have hy12:Y9=Y9.take (e-m)++Y9.drop (e-m):=(List.take_append_drop ..).symm
  have lX1:(X.take (s-a)).length=s-a:=by simp;omega
  have lX2:(X.drop (s-a)).length=m-s:=by simp;omega
  have lY1:(Y9.take (e-m)).length=e-m:=by simp;omega
  have lY2:(Y9.drop (e-m)).length=b-e:=by simp;omega
  have q1:∀u∈X.take (s-a),∀w∈Y9.drop (e-m),u.id≤w.id:=by
   intro u hu w hw
   obtain⟨i,hi,rfl⟩:=List.getElem_of_mem hu
   obtain⟨k,hk,rfl⟩:=List.getElem_of_mem hw
   rw[lX1]at hi
   rw[lY2]at hk
   rw[List.getElem_take,List.getElem_drop]
   have hs1:lo<s:=zO
   have:=b3 (s-1) zO zO
   rw[decide_eq_true_eq]at this
   have h6:=NG hsX (i:=i) (j:=s-1-a) zO zO
   have h7:=NG hsY (i:=mid+m-1-(s-1)-m) (j:=e-m+k) zO zO
   rw[Jy (show i<X.length by omega)]at h6
   rw[Jy (show e-m+k<Y9.length by omega)]at h7
   exact F7 h6 (F7 this h7)
  have q2:∀u∈Y9.take (e-m),∀w∈X.drop (s-a),u.id≤w.id:=by
   intro u hu w hw
   obtain⟨i,hii,rfl⟩:=List.getElem_of_mem hu
   obtain⟨k,hk,rfl⟩:=List.getElem_of_mem hw
   rw[lY1]at hii
   rw[lX2]at hk
   rw[List.getElem_take,List.getElem_drop]
   have hs1:s<hi:=zO
   have:=b4 s zO hs1
   rw[decide_eq_false_iff_not]at this
   have h6:=NG hsY (i:=i) (j:=mid+m-1-s-m) zO zO
   have h7:=NG hsX (i:=s-a) (j:=s-a+k) zO zO
   rw[Jy (show i<Y9.length by omega)]at h6
   rw[Jy (show s-a+k<X.length by omega)]at h7
   refine F7 h6 (F7 ?_ h7)
   rw[UInt64.le_iff_toNat_le]at*
   omega
  clear b3 b4
  generalize X.take (s-a)=X1 at*
  generalize X.drop (s-a)=X2 at*
  generalize Y9.take (e-m)=Y1 at*
  generalize Y9.drop (e-m)=Y2 at*
  subst hx12 hy12
  have sX:=JG.1 hsX
  have sY:=JG.1 hsY
  simp only[List.length_append]at*
  have hj8:Oy n p1 p2 p3 (PG n f) (A++(X1++X2)++(Y1++Y2)++B) (mid:Int) ((mid+m:Nat):Int) (s:Int)=Nl p1 p3 (PG n f) (mid:Int) (s:Int) (e:Int) (A++(X1++Y1)++(X2++Y2)++B):=by
   unfold Oy
   rw[A7,BC zO zO,show((mid+m:Nat):Int)-(s:Int)=(e:Int) by omega,h2]
   by_cases hc:s<m∧m<e
   rw[zt zO,zt zO]
   simp only[Bool.and_self,BZ]
   have:=sB (n:=n) (A++X1) X2 Y1 (Y2++B) (p1:=(s:Int)) (p2:=(m:Int)) (p3:=(e:Int)) (List.length_pos_iff.1 zO) (List.length_pos_iff.1 zO) zO zQ zQ zQ (by unfold Ju;simp;omega)
   rw[show A++(X1++X2)++(Y1++Y2)++B=A++X1++X2++Y1++(Y2++B) by simp,this,U]
   congr 1
   simp
   rw[show(decide ((s:Int)<(m:Int))&&decide ((m:Int)<(e:Int)))=false by
    simp only[Bool.and_eq_false_iff,decide_eq_false_iff_not]
    omega,A9]
   congr 1
   by_cases hc1:s<m
   have:Y1=[]:=List.length_eq_zero_iff.1 zO
   subst this
   simp
   have:X2=[]:=List.length_eq_zero_iff.1 zO
   subst this
   simp
  rw[hj8]
  clear hj8
  obtain⟨Z1,z1,z2,z3⟩:∃Z1,Z1.Perm (X1++Y1)∧Js Z1∧Nl p1 p3 (PG n f) (mid:Int) (s:Int) (e:Int) (A++(X1++Y1)++(X2++Y2)++B)=MN p3 (PG n f) (mid:Int) (e:Int) (A++Z1++(X2++Y2)++B):=by
   unfold Nl
   by_cases hc:a<s∧s<mid
   obtain⟨Z1,z1,z2,z3⟩:=df n f A X1 Y1 ((X2++Y2)++B) p1 (s:Int) (mid:Int) (List.length_pos_iff.1 zO) (List.length_pos_iff.1 zO) zO zO zO zO zO (by unfold Ju;simp;omega) sX.1 sY.1
   refine⟨Z1,z1,z2,?_⟩
   rw[zt zO,zt zO]
   simp only[Bool.and_self,BZ]
   rw[show A++(X1++Y1)++(X2++Y2)++B=A++X1++Y1++((X2++Y2)++B) by simp,z3,U]
   congr 1
   simp
   refine⟨X1++Y1,List.Perm.refl _,?_,?_⟩
   by_cases hc1:a<s
   have:Y1=[]:=List.length_eq_zero_iff.1 zO
   subst this
   simpa using sX.1
   have:X1=[]:=List.length_eq_zero_iff.1 zO
   subst this
   simpa using sY.1
   rw[show(decide (p1<(s:Int))&&decide ((s:Int)<(mid:Int)))=false by
    simp only[Bool.and_eq_false_iff,decide_eq_false_iff_not]
    omega,A9]
  rw[z3]
  clear z3
  have lZ1:Z1.length=mid-a:=by
   rw[z1.length_eq]
   simp
   omega
  obtain⟨Z2,y1,y2,y3⟩:∃Z2,Z2.Perm (X2++Y2)∧Js Z2∧MN p3 (PG n f) (mid:Int) (e:Int) (A++Z1++(X2++Y2)++B)=some (A++Z1++Z2++B):=by
   unfold MN
   by_cases hc:mid<e∧e<b
   obtain⟨Z2,y1,y2,y3⟩:=df n f (A++Z1) X2 Y2 B (mid:Int) (e:Int) p3 (List.length_pos_iff.1 zO) (List.length_pos_iff.1 zO) zO zO zQ zQ zQ (by unfold Ju;simp;omega) sX.2.1 sY.2.1
   refine⟨Z2,y1,y2,?_⟩
   rw[zt zO,zt zO]
   simp only[Bool.and_self,BZ]
   rw[show A++Z1++(X2++Y2)++B=A++Z1++X2++Y2++B by simp,y3,U]
   refine⟨X2++Y2,List.Perm.refl _,?_,?_⟩
   by_cases hc1:mid<e
   have:Y2=[]:=List.length_eq_zero_iff.1 zO
   subst this
   simpa using sX.2.1
   have:X2=[]:=List.length_eq_zero_iff.1 zO
   subst this
   simpa using sY.2.1
   rw[show(decide ((mid:Int)<(e:Int))&&decide ((e:Int)<p3))=false by
    simp only[Bool.and_eq_false_iff,decide_eq_false_iff_not]
    omega,A9]
  rw[y3]
  refine⟨Z1++Z2,?_,?_,by simp⟩
  refine(z1.append y1).trans ?_
  rw[List.append_assoc,List.append_assoc]
  refine List.Perm.append_left X1 ?_
  rw[←List.append_assoc,←List.append_assoc]
  exact List.Perm.append_right Y2 List.perm_append_comm
  refine JG.2 ⟨z2,y2,fun u hu w hw=>?_⟩
  have hu:=z1.mem_iff.1 hu
  have hw:=y1.mem_iff.1 hw
  rcases List.mem_append.1 hu with hu | hu<;>rcases List.mem_append.1 hw with hw | hw
  exact sX.2.2 u hu w hw
  exact q1 u hu w hw
  exact q2 u hu w hw
  exact sY.2.2 u hu w hw
inductive SB (bs:Nat):List AM→Prop
 | last (S:List AM):S.length≤bs→Js S→SB bs S
 | more (S R:List AM):S.length=bs→Js S→SB bs R→SB bs (S++R)
theorem SB.one{bs:Nat}{l:List AM}(h:SB bs l)(hl:l.length≤bs):Js l:=by
 cases h with
 | last _ _ hs=>exact hs
 | more S R hS hs hR=>
  have:R=[]:=List.length_eq_zero_iff.1 (by simp at hl;omega)
  subst this
  simpa using hs
theorem gb{n bs:Nat}(hbs:0<bs)(N:Nat)(hN:N+2≤n)(hNb:N+4*bs≤Ju):∀(k:Nat) (D R:List AM),R.length≤k→D.length+R.length=N→SB bs R→
  ∃R',R'.Perm R∧SB (2*bs) R'∧∀(nx:List AM×Int→Option (List AM)) (m:Nat),k<m→Hv n (N:Int) (bs:Int) nx m (D++R,(D.length:Int),((D.length+2*bs:Nat):Int))=LJ (bs:Int) nx (D++R'):=by
 unfold Ju at hNb
 intro k
 induction k with
 | zero=>
  intro D R hk hN' h
  have hR:R=[]:=List.length_eq_zero_iff.1 zO
  subst hR
  refine⟨[],List.Perm.refl _,.last [] zS List.Pairwise.nil,fun nx m hm=>?_⟩
  obtain⟨m,rfl⟩:∃k,m=k+1:=⟨m-1,by omega⟩
  simp at hN'
  show FC _ _ _ _ (Hv _ _ _ _ m) _ _ _=_
  unfold FC
  dsimp only
  rw[zf zO,A9]
  unfold NR
  rw[A7,BC zO zO,zf zO,A9]
 | succ k ih=>
  intro D R hk hN' h
  
  have two:∀(S T U9:List AM),S.length=bs→T≠[]→D.length+S.length+T.length+U9.length=N→Js S→Js T→∃Z9,Z9.Perm (S++T)∧Js Z9∧gf n (D++(S++(T++U9))) (D.length:Int) ((D.length+bs:Nat):Int) ((D.length+bs+T.length:Nat):Int)=some (D++(Z9++U9)):=by
   intro S T U9 hS hT hl h1 h2
   have hTp:=List.length_pos_iff.2 hT
   obtain⟨Z9,a1,a2,a3⟩:=df n n D S T U9 (D.length:Int) ((D.length+bs:Nat):Int) ((D.length+bs+T.length:Nat):Int) (List.length_pos_iff.1 zO) hT zO zO rfl (by rw[hS]) (by rw[hS]) (by unfold Ju;simp;omega) h1 h2
   refine⟨Z9,a1,a2,?_⟩
   have:gf n=PG n n:=rfl
   rw[this]
   simpa using a3
  have big3:∀(S T U9:List AM),S.length=bs→T.length=bs→R=S++(T++U9)→Js S→Js T→SB bs U9→∃R',R'.Perm R∧SB (2*bs) R'∧∀(nx:List AM×Int→Option (List AM)) (m:Nat),k+1<m→Hv n (N:Int) (bs:Int) nx m (D++R,(D.length:Int),((D.length+2*bs:Nat):Int))=LJ (bs:Int) nx (D++R'):=by
   intro S T U9 hS hT hR h1 h2 h3
   subst hR
   simp only[List.length_append]at hk hN'
   obtain⟨Z9,a1,a2,a3⟩:=two S T U9 hS (List.length_pos_iff.1 zO) zO h1 h2
   have hZ:Z9.length=2*bs:=by rw[a1.length_eq];simp;omega
   obtain⟨U',u1,u2,u3⟩:=ih (D++Z9) U9 zO zQ h3
   refine⟨Z9++U',?_,.more Z9 U' hZ a2 u2,fun nx m hm=>?_⟩
   refine(a1.append u1).trans ?_
   simp
   obtain⟨m,rfl⟩:∃k,m=k+1:=⟨m-1,by omega⟩
   show FC _ _ _ _ (Hv _ _ _ _ m) _ _ _=_
   unfold FC
   dsimp only
   rw[zt zO,BZ,BC (x:=(D.length:Int)+_) zO zO,show(D.length:Int)+(bs:Int)=((D.length+bs:Nat):Int) by omega,show((D.length+2*bs:Nat):Int)=((D.length+bs+T.length:Nat):Int) by omega,a3,U,A7,BC (x:=2*(bs:Int)) zO zO,BC zO zO]
   have:=u3 nx m zO
   rw[show(D++Z9).length=D.length+bs+T.length by simp;omega]at this
   rw[show((D.length+bs+T.length:Nat):Int)+2*(bs:Int)=((D.length+bs+T.length+2*bs:Nat):Int) by omega]
   simpa using this
  
  have fin:∀(S T:List AM),S.length=bs→T.length<bs→R=S++T→Js S→Js T→∃R',R'.Perm R∧SB (2*bs) R'∧∀(nx:List AM×Int→Option (List AM)) (m:Nat),k+1<m→Hv n (N:Int) (bs:Int) nx m (D++R,(D.length:Int),((D.length+2*bs:Nat):Int))=LJ (bs:Int) nx (D++R'):=by
   intro S T hS hT hR h1 h2
   subst hR
   simp only[List.length_append]at hk hN'
   by_cases hT0:T=[]
   subst hT0
   refine⟨S++[],List.Perm.refl _,.last _ zQ (by simpa using h1),fun nx m hm=>?_⟩
   obtain⟨m,rfl⟩:∃k,m=k+1:=⟨m-1,by omega⟩
   simp only[List.length_nil]at*
   show FC _ _ _ _ (Hv _ _ _ _ m) _ _ _=_
   unfold FC
   dsimp only
   rw[zf zO,A9]
   unfold NR
   rw[A7,BC zO zO,zf zO,A9]
   obtain⟨Z9,a1,a2,a3⟩:=two S T [] hS hT0 zQ h1 h2
   have hTp:=List.length_pos_iff.2 hT0
   refine⟨Z9,a1,.last Z9 (by rw[a1.length_eq];simp;omega) a2,fun nx m hm=>?_⟩
   obtain⟨m,rfl⟩:∃k,m=k+1:=⟨m-1,by omega⟩
   show FC _ _ _ _ (Hv _ _ _ _ m) _ _ _=_
   unfold FC
   dsimp only
   rw[zf zO,A9]
   unfold NR
   rw[A7,BC zO zO,zt zO,BZ,show(D.length:Int)+(bs:Int)=((D.length+bs:Nat):Int) by omega,show(N:Int)=((D.length+bs+T.length:Nat):Int) by omega]
   simp only[List.append_nil]at a3
   rw[a3,U]
  cases h with
  | last S hl hs=>
   by_cases hlt:R.length<bs
   refine⟨R,List.Perm.refl _,.last R zO hs,fun nx m hm=>?_⟩
   obtain⟨m,rfl⟩:∃k,m=k+1:=⟨m-1,by omega⟩
   show FC _ _ _ _ (Hv _ _ _ _ m) _ _ _=_
   unfold FC
   dsimp only
   rw[zf zO,A9]
   unfold NR
   rw[A7,BC zO zO,zf zO,A9]
   exact fin R [] zO (by simpa using hbs) zS hs List.Pairwise.nil
  | more S R1 hS hs hR=>
   cases hR with
   | last T hl ht=>
    by_cases hlt:R1.length<bs
    exact fin S R1 hS hlt rfl hs ht
    exact big3 S R1 [] hS zO zS hs ht (.last [] zS List.Pairwise.nil)
   | more T U9 hT ht hU=>exact big3 S T U9 hS hT rfl hs ht hU
theorem en{n:Nat}(N:Nat)(hN:2*N+2≤n)(hNb:6*N≤1073741824):∀(k bs:Nat) (l:List AM),0<bs→N-bs≤k→l.length=N→SB bs l→∃l',l'.Perm l∧Js l'∧∀m,k<m→GS n (N:Int) m (l,(bs:Int))=some l':=by
 intro k
 induction k with
 | zero=>
  intro bs l hbs hk hl h
  refine⟨l,List.Perm.refl _,h.one zO,fun m hm=>?_⟩
  obtain⟨m,rfl⟩:∃k,m=k+1:=⟨m-1,by omega⟩
  show IA _ _ (GS _ _ m) _ _=_
  unfold IA
  dsimp only
  rw[zf zO,A9]
 | succ k ih=>
  intro bs l hbs hk hl h
  by_cases hlt:bs<N
  obtain⟨R',r1,r2,r3'⟩:=gb (n:=n) hbs N zO (by unfold Ju;omega) N [] l zO (by simp[hl]) h
  have r3:∀(nx:List AM×Int→Option (List AM)) (m:Nat),N<m→Hv n (N:Int) (bs:Int) nx m (l,0,((2*bs:Nat):Int))=LJ (bs:Int) nx R':=fun nx m hm=>by
   have:=r3' nx m hm
   simpa using this
  obtain⟨l',b1,b2,b3⟩:=ih (2*bs) R' zO zO (by rw[r1.length_eq,hl]) r2
  refine⟨l',b1.trans r1,b2,fun m hm=>?_⟩
  obtain⟨m,rfl⟩:∃k,m=k+1:=⟨m-1,by omega⟩
  show IA _ _ (GS _ _ m) _ _=_
  unfold IA
  dsimp only
  rw[zt zO,BZ,A7,BC zO zO,show(2:Int)*(bs:Int)=((2*bs:Nat):Int) by omega,r3 _ n zO]
  unfold LJ
  rw[A7,BC zO zO,show(bs:Int)*2=((2*bs:Nat):Int) by omega]
  exact b3 m zO
  refine⟨l,List.Perm.refl _,h.one zO,fun m hm=>?_⟩
  obtain⟨m,rfl⟩:∃k,m=k+1:=⟨m-1,by omega⟩
  show IA _ _ (GS _ _ m) _ _=_
  unfold IA
  dsimp only
  rw[zf zO,A9]
theorem ab{n:Nat}(N:Nat)(hN:2*N+60≤n)(hNb:6*N+1000≤1073741824):∀(k:Nat) (D R:List AM),R.length≤k→D.length+R.length=N→
  ∃R',R'.Perm R∧SB 20 R'∧∀m,k<m→Nq n (N:Int) m (D++R,(D.length:Int),((D.length+20:Nat):Int))=GS n (N:Int) n (D++R',20):=by
 have one:∀(D R:List AM),R.length<20→D.length+R.length=N→∃R',R'.Perm R∧SB 20 R'∧∀m,0<m→Nq n (N:Int) m (D++R,(D.length:Int),((D.length+20:Nat):Int))=GS n (N:Int) n (D++R',20):=by
  intro D R hR hl
  obtain⟨R',a1,a2,a3⟩:=kS (n:=n) D R [] zO (by unfold Ju;simp;omega)
  refine⟨R',a1,.last R' (by rw[a1.length_eq];omega) a2,fun m hm=>?_⟩
  obtain⟨m,rfl⟩:∃k,m=k+1:=⟨m-1,by omega⟩
  show Kd _ _ (Nq _ _ m) _ _ _=_
  unfold Kd
  dsimp only
  rw[zf zO,A9]
  unfold TO
  simp only[List.append_nil]at a3
  rw[show(N:Int)=((D.length+R.length:Nat):Int) by omega,a3,U]
 intro k
 induction k with
 | zero=>
  intro D R hk hl
  obtain⟨R',a1,a2,a3⟩:=one D R zO hl
  exact⟨R',a1,a2,fun m hm=>a3 m hm⟩
 | succ k ih=>
  intro D R hk hl
  by_cases hR:R.length<20
  obtain⟨R',a1,a2,a3⟩:=one D R hR hl
  exact⟨R',a1,a2,fun m hm=>a3 m zO⟩
  obtain⟨S,U9,rfl,hS⟩:∃S U9,R=S++U9∧S.length=20:=⟨R.take 20,R.drop 20,(List.take_append_drop ..).symm,by simp;omega⟩
  simp only[List.length_append]at*
  obtain⟨S',a1,a2,a3⟩:=kS (n:=n) D S U9 zO (by unfold Ju;simp;omega)
  have hS':S'.length=20:=by rw[a1.length_eq,hS]
  obtain⟨U',u1,u2,u3⟩:=ih (D++S') U9 zO zQ
  refine⟨S'++U',a1.append u1,.more S' U' hS' a2 u2,fun m hm=>?_⟩
  obtain⟨m,rfl⟩:∃k,m=k+1:=⟨m-1,by omega⟩
  show Kd _ _ (Nq _ _ m) _ _ _=_
  unfold Kd
  dsimp only
  rw[hS]at a3
  rw[zt zO,BZ,←List.append_assoc,a3,U,A7,BC zO zO]
  have:=u3 m zO
  rw[show(D++S').length=D.length+20 by simp[hS']]at this
  simpa using this
theorem UU{n:Nat}(l:List AM)(hn:2*l.length+60≤n)(hb:l.length≤1048576):∃l',l'.Perm l∧Js l'∧Zl n l=some l':=by
 obtain⟨R',a1,a2,a3⟩:=ab (n:=n) l.length hn zO l.length [] l (Nat.le_refl _) zS
 obtain⟨l',b1,b2,b3⟩:=en (n:=n) l.length zO zO l.length 20 R' zO zO a1.length_eq a2
 refine⟨l',b1.trans a1,b2,?_⟩
 unfold Zl eK
 have h1:=a3 n zO
 have h2:=b3 n zO
 simp only[List.nil_append,List.length_nil,Nat.zero_add]at h1
 rw[show((0:Nat):Int)=0 from rfl]at h1
 rw[show((20:Nat):Int)=20 from rfl]at h1 h2
 rw[h1,h2]
 rfl
end

section
def U8(T:List UInt32)(v:Bx)(d:BH)(seg:List A4):Prop:=∀s∈seg,HZ T v d ⟨s.page,s.tag⟩=some (s.txt,0)∧DW ⟨s.page,s.tag⟩=true
theorem U8.left{T:List UInt32}{v:Bx}{d:BH}{a b:List A4}(h:U8 T v d (a++b)):U8 T v d a:=fun s hs=>h s (List.mem_append_left _ hs)
theorem U8.right{T:List UInt32}{v:Bx}{d:BH}{a b:List A4}(h:U8 T v d (a++b)):U8 T v d b:=fun s hs=>h s (List.mem_append_right _ hs)
variable {n:Nat}{T:List UInt32}{v:Bx}{d:BH}
def Wf(x:BP):List Ad:=if J7 ⟨x.npage,x.ntag⟩=true then x.kids else x.kids++[⟨x.npage,x.ntag⟩]
theorem Pp{x:BP}(h:CN x=true):x.rows.length≤4∧x.kids.length≤4:=by
 by_cases hk:x.kind=1
 obtain⟨h1,h2,h3,h4,h5,h6,h7⟩:=EP h hk
 rw[h4]
 exact⟨h5,by simp⟩
 obtain⟨hk2,h1,h2,h3,h4,h5,h6,h7,h8⟩:=Dx h hk
 rw[h2]
 exact⟨by simp,h6⟩
theorem Ux{rec_:Et→Bx→BH→Ad→Option (Int×Et)}{x:Et}{P:BP}{r:Ad}(hn:10≤n)(h:CN P=true)(hrd:HZ T v d r=some (Cm P,0))(h0:0≤x.count)(hc:x.count<2100)(hb:x.rows.length≤100000):
  QS rec_ n T x v d r=Hx v d r rec_ (Cm P,0) (Wf P) n ({ x with rows:=x.rows++P.rows,count:=x.count+1 },0):=by
 obtain⟨l1,l2⟩:=Pp h
 unfold QS
 rw[zf zO,A9,hrd,U,show(!decide ((0:Int)=0))=false from rfl,A9,SM hn h,U,show(!decide ((0:Int)=0))=false from rfl,A9]
 dsimp only
 rw[CG zO zO,U]
 unfold Wf J7 RD
 rw[Bool.and_true,BC zO zO]
 by_cases hno:(decide (P.npage=0)&&decide (P.ntag=[]))=true
 rw[hno,Bool.not_true,A9,if_pos rfl]
 have hno':(decide (P.npage=0)&&decide (P.ntag=[]))=false:=by simpa using hno
 rw[hno',Bool.not_false,BZ,CG zQ zQ,U,if_neg zD]
theorem Ul{rec_:Et→Bx→BH→Ad→Option (Int×Et)}{R:Bd→List A4→Ad→Prop}{lv:Bd→List AM}{rr:Ad}{y1:List UInt8×Int}{rs:List Ad}{M:Nat}
(hrec:∀(k:Bd) (s:List A4) (r:Ad) (x:Et),R k s r→U8 T v d s→s.length≤M→0≤x.count→x.count+s.length≤2100→x.out.length+s.length≤100000→x.rows.length+4*s.length≤100000→rec_ x v d r=some (0,⟨x.out++s,x.rows++lv k,x.count+s.length⟩)∧(lv k).length≤4*s.length):
  ∀(ks:List Bd) (seg:List A4) (rest done:List Ad) (x:Et),cG R ks seg rest→rs=done++rest→U8 T v d seg→seg.length≤M→rs.length≤1000→0≤x.count→x.count+seg.length≤2100→x.out.length+seg.length≤100000→x.rows.length+4*seg.length≤100000→
   (ks.map lv).flatten.length≤4*seg.length∧∀m,ks.length<m→Hx v d rr rec_ y1 rs m (x,(done.length:Int))=MX rr y1 ⟨x.out++seg,x.rows++(ks.map lv).flatten,x.count+seg.length⟩
 | [],seg,rest,done,x,h,hrs,hrd,hM,hr,h0,hc,ho,hw=>by
  obtain⟨rfl,rfl⟩:=h
  refine⟨by simp,fun m hm=>?_⟩
  obtain⟨m,rfl⟩:∃k,m=k+1:=⟨m-1,by omega⟩
  show D8 v d rr rec_ y1 rs (Hx v d rr rec_ y1 rs m) x _=_
  unfold D8
  rw[hrs,zf zS,A9]
  simp
 | k::ks,seg,rest,done,x,h,hrs,hrd,hM,hr,h0,hc,ho,hw=>by
  obtain⟨s1,r1,s2,rs',h1,h2,rfl,rfl⟩:=h
  simp only[List.length_append]at hM hc ho hw
  have hl:rs.length=done.length+(rs'.length+1):=by rw[hrs];simp
  obtain⟨e1,e2⟩:=hrec k s1 r1 x h1 hrd.left zO h0 zO zO zO
  obtain⟨e3,e4⟩:=Ul hrec ks s2 rs' (done++[r1]) ⟨x.out++s1,x.rows++lv k,x.count+s1.length⟩ h2 (by rw[hrs];simp) hrd.right zO hr (by simp only;omega) (by simp only;omega) zQ zQ
  refine⟨by simp only[List.map_cons,List.flatten_cons,List.length_append];omega,fun m hm=>?_⟩
  obtain⟨m,rfl⟩:∃k,m=k+1:=⟨m-1,by omega⟩
  have n1:Aq rs (done.length:Int)=some r1:=by
   rw[D1 rfl,hrs]
   simp
  show D8 v d rr rec_ y1 rs (Hx v d rr rec_ y1 rs m) x _=_
  unfold D8
  rw[zt zO,BZ,n1,U,e1,U,show(!decide ((0:Int)=0))=false from rfl,A9,BC zO zO]
  have:=e4 m (by simp at hm;omega)
  rw[show((done++[r1]).length:Int)=(done.length:Int)+1 by simp only[List.length_append,List.length_singleton];omega]at this
  rw[this]
  congr 1
  simp only[List.map_cons,List.flatten_cons,List.append_assoc,List.length_append,Et.mk.injEq,true_and]
  omega
theorem UE.snoc:∀ {ls:List (List AM)} {l:List AM} {r0 r:Ad} {seg:List A4} ,UE (ls++[l]) r0 seg r→∃seg' r1,UE ls r0 seg' r1∧CN (ND l r1)=true∧seg=seg'++[⟨Cm (ND l r1),r.page,r.tag⟩]
 | [],l,r0,seg,r,h=>by
  obtain⟨r1,seg',h1,rfl,h2,rfl⟩:=h
  subst h2
  exact⟨[],r0,⟨rfl,rfl⟩,h1,rfl⟩
 | a::ls,l,r0,seg,r,h=>by
  obtain⟨r1,seg',h1,rfl,h2⟩:=h
  obtain⟨seg2,r2,h3,h4,rfl⟩:=UE.snoc h2
  exact⟨_::seg2,r2,⟨r1,seg2,h1,rfl,h3⟩,h4,rfl⟩
theorem UE.last:∀ {ls:List (List AM)} {r0 r:Ad} {seg:List A4} ,UE ls r0 seg r→(ls=[]∧r=r0)∨∃s∈seg,(⟨s.page,s.tag⟩:Ad)=r
 | [],_,_,_,h=>.inl ⟨rfl,h.2⟩
 | a::ls,r0,seg,r,h=>by
  obtain⟨r1,seg',h1,rfl,h2⟩:=h
  rcases UE.last h2 with⟨rfl,rfl⟩ | ⟨s,hs,e⟩
  exact .inr ⟨_,List.mem_cons_self ..,rfl⟩
  exact .inr ⟨s,List.mem_cons_of_mem _ hs,e⟩
theorem WO{rr:Ad}{s:List UInt8}{e:Int}{x:Et}(h:x.out.length≤100000):MX rr (s,e) x=some (0,⟨x.out++[⟨s,rr.page,rr.tag⟩],x.rows,x.count⟩):=by
 unfold MX
 rw[CG zQ zQ,U]
theorem aH(hn:10≤n):∀(m:Nat) (ls:List (List AM)) (seg:List A4) (r:Ad) (x:Et),ls≠[]→UE ls ⟨0,[]⟩ seg r→U8 T v d seg→seg.length≤m→0≤x.count→x.count+seg.length≤2100→x.out.length+seg.length≤100000→x.rows.length+4*seg.length≤100000→
  Qa n T m x v d r=some (0,⟨x.out++seg,x.rows++ls.reverse.flatten,x.count+seg.length⟩)∧ls.reverse.flatten.length≤4*seg.length
 | 0,ls,seg,r,x,hne,h,hrd,hm,h0,hc,ho,hw=>by
  have:=h.len
  have:=List.length_pos_iff.2 hne
  omega
 | m+1,ls,seg,r,x,hne,h,hrd,hm,h0,hc,ho,hw=>by
  obtain⟨ls,l,rfl⟩:∃S0 z,ls=S0++[z]:=⟨_,_,(List.dropLast_concat_getLast hne).symm⟩
  obtain⟨seg',r1,h1,h2,rfl⟩:=h.snoc
  simp only[List.length_append,List.length_singleton]at hm hc ho hw
  have hrd1:=(hrd ⟨Cm (ND l r1),r.page,r.tag⟩ zS).1
  have hl4:=(Pp h2).1
  simp only at hl4
  have e0:=Ux (n:=n) (rec_:=Qa n T m) (x:=x) (r:=r) hn h2 hrd1 h0 zO zO
  show QS (Qa n T m) n T x v d r=_∧_
  rw[e0]
  rcases h1.last with⟨rfl,rfl⟩ | ⟨s,hs,es⟩
  obtain⟨rfl,_⟩:=h1
  have hon:Wf (ND l ⟨0,[]⟩)=[]:=if_pos rfl
  rw[hon]
  have hloop:=Ul (T:=T) (v:=v) (d:=d) (rec_:=Qa n T m) (R:=fun _ _ _=>False) (lv:=fun _=>[]) (rr:=r) (y1:=(Cm (ND l ⟨0,[]⟩),0)) (rs:=[]) (M:=0) (fun k s r x hR=>hR.elim) [] [] [] [] { x with rows:=x.rows++l,count:=x.count+1 } ⟨rfl,rfl⟩ rfl (fun s hs=>by simp at hs) zS zS (by simp only;omega) zQ zQ zQ
  have:=hloop.2 n zQ
  simp only[List.length_nil]at this
  rw[show((0:Nat):Int)=0 from rfl]at this
  rw[this,WO zQ]
  constructor
  simp
  simpa using hl4
  have hok:=(hrd s (List.mem_append_left _ hs)).2
  rw[es]at hok
  have hne1:ls≠[]:=by
   intro e
   subst e
   rw[h1.1]at hs
   simp at hs
  have hon:Wf (ND l r1)=[r1]:=by
   unfold Wf
   have:J7 ⟨r1.page,r1.tag⟩=false:=by
    have h5:=(D0 hok).1
    unfold J7
    simp only[Bool.and_eq_false_iff,decide_eq_false_iff_not]
    right
    intro e
    have e:r1.tag=[]:=e
    rw[e]at h5
    simp at h5
   rw[this,if_neg zD]
   rfl
  rw[hon]
  obtain⟨e1,e2⟩:=aH hn m ls seg' r1 { x with rows:=x.rows++l,count:=x.count+1 } hne1 h1 hrd.left zO (by simp only;omega) (by simp only;omega) (by simp only;omega) zQ
  obtain⟨n,rfl⟩:∃k,n=k+1:=⟨n-1,by omega⟩
  obtain⟨n,rfl⟩:∃k,n=k+1:=⟨n-1,by omega⟩
  show D8 v d r (Qa (n+1+1) T m) (Cm (ND l r1),0) [r1] (Hx v d r (Qa (n+1+1) T m) (Cm (ND l r1),0) [r1] (n+1)) _ 0=_∧_
  unfold D8
  rw[show decide ((0:Int)<(([r1]:List Ad).length:Int))=true from rfl,BZ,show Aq [r1] 0=some r1 from rfl,U,e1,U,show(!decide ((0:Int)=0))=false from rfl,A9,show wI (0+1)=1 from rfl]
  show D8 v d r (Qa (n+1+1) T m) (Cm (ND l r1),0) [r1] (Hx v d r (Qa (n+1+1) T m) (Cm (ND l r1),0) [r1] n) _ 1=_∧_
  unfold D8
  rw[show decide ((1:Int)<(([r1]:List Ad).length:Int))=false from rfl,A9,WO zQ]
  constructor
  congr 2
  simp only[List.reverse_append,List.reverse_cons,List.reverse_nil,List.nil_append,List.singleton_append,List.flatten_cons,List.append_assoc,List.length_append,List.length_singleton,Et.mk.injEq,true_and]
  omega
  simp only[List.reverse_append,List.reverse_cons,List.reverse_nil,List.nil_append,List.singleton_append,List.flatten_cons,List.length_append,List.length_singleton]
  omega
theorem Yl(hn:1010≤n):∀(f:Nat) (t:Bd) (seg:List A4) (r:Ad) (x:Et) (m:Nat),Qg f t seg r→U8 T v d seg→seg.length≤m→0≤x.count→x.count+seg.length≤2100→x.out.length+seg.length≤100000→x.rows.length+4*seg.length≤100000→
  Qa n T m x v d r=some (0,⟨x.out++seg,x.rows++aY f t,x.count+seg.length⟩)∧(aY f t).length≤4*seg.length
 | 0,_,_,_,_,_,h,_,_,_,_,_,_=>h.elim
 | f+1,t,seg,r,x,m,h,hrd,hm,h0,hc,ho,hw=>by
  obtain⟨⟨b1,b2⟩,h⟩:=h
  rcases h with⟨h1,h2⟩ | ⟨h1,segs,rs,h2,h3,rfl⟩
  have hne:(JZ t.rows).reverse≠[]:=by
   intro e
   have:=congrArg List.length e
   rw[List.length_reverse,PN,List.length_nil]at this
   omega
  have:=aH (n:=n) zO m (JZ t.rows).reverse seg r x hne h2 hrd hm h0 hc ho hw
  rw[List.reverse_reverse,fR]at this
  rw[aY,if_pos (by rw[h1];rfl)]
  exact this
  have hk0:=List.length_pos_iff.2 h1
  simp only[List.length_append,List.length_singleton]at hm hc ho hw
  obtain⟨m,rfl⟩:∃k,m=k+1:=⟨m-1,by omega⟩
  have hrd1:=(hrd ⟨Cm (N1 t rs),r.page,r.tag⟩ zS).1
  have e0:=Ux (n:=n) (rec_:=Qa n T m) (x:=x) (r:=r) zO h3 hrd1 h0 zO zO
  show QS (Qa n T m) n T x v d r=_∧_
  have hon:Wf (N1 t rs)=rs:=if_pos rfl
  have hl4:=(Pp h3).2
  simp only at hl4
  obtain⟨e3,e4⟩:=Ul (T:=T) (v:=v) (d:=d) (rec_:=Qa n T m) (R:=Qg f) (lv:=aY f) (rr:=r) (y1:=(Cm (N1 t rs),0)) (rs:=rs) (M:=m) (fun k s r x hR hrd hM h0 hc ho hw=>Yl hn f k s r x m hR hrd hM h0 hc ho hw) t.kids segs rs [] { x with rows:=x.rows++[],count:=x.count+1 } h2 rfl hrd.left zO zO (by simp only;omega) (by simp only;omega) (by simp only;omega) zQ
  have e5:=e4 n zO
  simp only[List.length_nil]at e5
  rw[show((0:Nat):Int)=0 from rfl]at e5
  rw[aY,if_neg zO,e0,hon]
  rw[show({ x with rows:=x.rows++(N1 t rs).rows,count:=x.count+1 }:Et)={ x with rows:=x.rows++[],count:=x.count+1 }from rfl,e5,WO zQ]
  constructor
  congr 2
  simp only[List.append_assoc,List.append_nil,List.length_append,List.length_singleton,Et.mk.injEq,true_and]
  omega
  simp only[List.length_append,List.length_singleton]
  omega
end

section
theorem ae{R:List AM→Bd→Prop}{lv:Bd→List AM}{xs:List (List AM)}{ks:List Bd}(h:SW R xs ks)(hR:∀x k,R x k→(lv k).Perm x):(ks.map lv).flatten.Perm xs.flatten:=by
 induction h with
 | nil=>exact List.Perm.refl _
 | cons h1 _ ih=>
  simp only[List.map_cons,List.flatten_cons]
  exact(hR _ _ h1).append ih
theorem Tr.leaves:∀ {f:Nat} {l:List AM} {t:Bd} ,Tr f l t→(aY f t).Perm l
 | 0,_,_,h=>h.elim
 | f+1,l,t,h=>by
  rcases h with⟨rfl,rfl⟩ | ⟨_,c,L,A,⟨_,rfl⟩ | ⟨h4,hL,ks,rfl,hk⟩⟩
  exact List.Perm.refl _
  exact List.Perm.refl _
  have hkl:=hk.length
  have hq2:=(Pj A hL).1
  rw[aY,if_neg (by simp only[Bd.kids];omega)]
  exact(ae (lv:=aY f) hk fun x k hT=>Tr.leaves hT).trans (XC L l)
theorem Re:∀(l l':List AM),(l.Pairwise fun a b=>a.id<b.id)→l'.Perm l→Js l'→l'=l
 | [],l',_,hp,_=>List.perm_nil.1 hp
 | a::t,l',hl,hp,hs=>by
  rcases l' with _ | ⟨b,t'⟩
  exact absurd hp.length_eq zS
  obtain⟨h1,h2⟩:=List.pairwise_cons.1 hl
  obtain⟨h3,h4⟩:=List.pairwise_cons.1 hs
  have hba:b.id≤a.id:=by
   have:a∈b::t':=hp.mem_iff.2 zS
   rcases List.mem_cons.1 this with e | e
   rw[e];exact UInt64.le_refl _
   exact h3 a e
  have hb:b∈a::t:=hp.mem_iff.1 zS
  rcases List.mem_cons.1 hb with rfl | hb
  rw[Re t t' h2 hp.cons_inv h4]
  exact(hC (h1 b hb) hba).elim
theorem UE.lastE:∀ {ls:List (List AM)} {r0 r:Ad} {seg:List A4} ,ls≠[]→UE ls r0 seg r→∃a s,seg=a++[⟨s,r.page,r.tag⟩]
 | [],_,_,_,h,_=>absurd rfl h
 | l::ls,r0,seg,r,_,h=>by
  obtain⟨r1,seg',h1,rfl,h2⟩:=h
  rcases ls with _ | ⟨l2,ls⟩
  obtain⟨rfl,rfl⟩:=h2
  exact⟨[],_,rfl⟩
  obtain⟨a,s,rfl⟩:=UE.lastE zS h2
  exact⟨_::a,s,rfl⟩
theorem Qg.lastE{f:Nat}{t:Bd}{seg:List A4}{r:Ad}(h:Qg f t seg r):∃a s,seg=a++[⟨s,r.page,r.tag⟩]:=by
 cases f with
 | zero=>exact h.elim
 | succ f=>
  rcases h.2 with⟨_,h2⟩ | ⟨_,segs,rs,_,_,rfl⟩
  refine UE.lastE ?_ h2
  intro e
  have:=congrArg List.length e
  rw[List.length_reverse,PN,List.length_nil]at this
  omega
  exact⟨segs,_,rfl⟩
theorem fE{a:List A4}{s:List UInt8}{r:Ad}(hb:a.length≤1000000):HA (a++[⟨s,r.page,r.tag⟩])=some r:=by
 unfold HA
 rw[zf zQ,A9]
 have e:wI (((a++[(⟨s,r.page,r.tag⟩:A4)]).length:Int)-1)=(a.length:Int):=by
  simp only[List.length_append,List.length_singleton]
  rw[BC zO zO]
  omega
 rw[e,D1 rfl]
 simp
theorem fT(r:Ad):Y7 r r=true:=by simp[Y7]
theorem gZ{L:List A4}(hb:L.length≤100000):∀(seg pre rest:List A4),L=pre++seg++rest→N9 (SF L) (pre.length:Int) seg ((pre.length+seg.length:Nat):Int)
 | [],pre,rest,_=>by simp[N9]
 | s::seg,pre,rest,h=>by
  have hl:L.length=pre.length+(seg.length+1)+rest.length:=by rw[h];simp;omega
  have n1:Aq L (pre.length:Int)=some s:=by
   rw[D1 rfl,h]
   simp
  refine⟨((pre.length+1:Nat):Int),?_,?_⟩
  unfold SF
  rw[zf zO,n1]
  simp only[Nn,A9,U,decide_true,Bool.not_true]
  rw[BC (x:=(pre.length:Int)+1) zO zO,BC zO zO,Int.add_sub_cancel,n1,U]
  rfl
  have:=gZ hb seg (pre++[s]) rest (by rw[h];simp)
  simp only[List.length_append,List.length_cons,List.length_nil,Nat.zero_add]at this ⊢
  rw[show pre.length+(seg.length+1)=pre.length+1+seg.length by omega]
  exact this
theorem og{n:Nat}{T:List UInt32}{v:Bx}{d:BH}{l:List AM}{t:Bd}{seg:List A4}{r:Ad}(hn:2110≤n)(hl:Cp l=true)(hb:KY n l=some (t,0))(hT:Tr n l t)(hR:Qg n t seg r)(hrd:U8 T v d seg)(hs:seg.length≤2000):
  Rm n T v d r=some (l,seg,0):=by
 have hl':=hl
 unfold Cp at hl'
 simp only[Bool.and_eq_true,decide_eq_true_eq]at hl'
 obtain⟨e1,e2⟩:=Yl (n:=n) (T:=T) (v:=v) (d:=d) zO n t seg r ⟨[],[],0⟩ n hR hrd zO zS zQ zQ zQ
 have hp:=hT.leaves
 obtain⟨l',s1,s2,s3⟩:=UU (n:=n) (aY n t) (by rw[hp.length_eq];omega) (by rw[hp.length_eq];omega)
 have hll:l'=l:=Re l l' ((OA l).1 hl'.1.2) (s1.trans hp) s2
 subst hll
 have hpath:=gZ (L:=seg) zO seg [] [] zS
 have hnode:=YV (n:=n) (wh:=SF seg) zO n (o:=[]) hR hpath zQ
 unfold Rm
 rw[e1,U]
 rw[show(!decide ((0:Int)=0))=false from rfl,A9]
 simp only[List.nil_append]
 rw[s3,U,hb,U]
 simp only[List.length_nil,Nat.zero_add,List.nil_append]at hnode
 rw[show(!decide ((0:Int)=0))=false from rfl,A9]
 have hnode':Ev n (SF seg) n t ⟨[],0⟩ 0=some (r,(⟨seg,0⟩,(seg.length:Int))):=hnode
 dsimp only
 rw[hnode',U]
 simp only[fT]
 simp
end



section
theorem WR{n:Int}(h0:0≤n)(h1:n≤1048576):Dd n=some (List.replicate n.toNat 0):=by
 unfold Dd VT
 rw[if_pos ⟨h0,by omega,by omega⟩,U]
def We(d:BH):Bool := !(d.isCut&&decide (d.lasts=0)||d.off)
def Uw(d:BH):BH:={ d with lasts:=if d.isCut then wI (d.lasts-1)else d.lasts,counts:=wI (d.counts+1) }
def Wb(d:BH):BH:={ d with off:=true }
theorem mf(d:BH):Fq d=some (if We d then(0,Uw d)else(71,Wb d)):=by
 obtain⟨off,isCut,lasts,counts,bl,pd,bd,rc,rt,rb⟩:=d
 unfold Fq Em Ek
 by_cases h0:lasts=0<;>cases off<;>cases isCut<;>simp[We,Uw,Wb,h0]
def je(d:BH)(r:BH):Int×BH:=if We d then(0,r)else(71,Wb d)
theorem P5(d:BH)(p:UInt32):Md d p=some (decide (p.toNat<d.blocks.length)):=by
 unfold Md
 rw[A7]
 congr 1
 simp
theorem bP{d:BH}{p:UInt32}{s:List UInt8}(hp:p.toNat<d.blocks.length)(hs:s.length=256)(hm:d.pend.length<9223372036854775807):H9 d p s=some (je d { Uw d with pend:=JH d.pend p s }):=by
 unfold H9 Kh
 rw[P5,U,A7,zt hp,hs]
 simp only[mf,U]
 cases h:We d
 simp[je,h,Wb]
 simp only[je,h,if_true]
 have:(Uw d).pend=d.pend:=rfl
 simp[OQ,this,hm]
theorem iy{d:BH}{p:UInt32}{s:List UInt8}(hp:¬(p.toNat<d.blocks.length)∨s.length≠256):H9 d p s=some (2,d):=by
 unfold H9
 rw[P5,U,A7]
 have:((!decide (p.toNat<d.blocks.length)) || !decide ((s.length:Int)=256))=true:=by
  rcases hp with hp | hp
  simp[hp]
  have:¬((s.length:Int)=256):=zO
  simp[this]
 rw[this,BZ]
theorem rS{d:BH}{p:UInt32}{s:List UInt8}(hp:p.toNat<d.blocks.length)(hs:s.length=256):LK d p s=some (0,{ d with blocks:=d.blocks.set p.toNat s,pend:=Gf d.pend p }):=by
 unfold LK
 rw[P5,U,A7,zt hp,hs,ET,List.getElem?_eq_getElem hp]
 simp only[U]
 rw[GI rfl hp]
 simp
theorem nA{d:BH}{p:UInt32}{s:List UInt8}(hp:¬(p.toNat<d.blocks.length)∨s.length≠256):LK d p s=some (2,d):=by
 unfold LK
 rw[P5,U,A7]
 have:((!decide (p.toNat<d.blocks.length)) || !decide ((s.length:Int)=256))=true:=by
  rcases hp with hp | hp
  simp[hp]
  have:¬((s.length:Int)=256):=zO
  simp[this]
 rw[this,BZ]
def Kc(d:BH)(p:UInt32):List UInt8:=(DN d.pend p).getD (d.blocks.getD p.toNat [])
theorem lS{d:BH}{p:UInt32}(hp:p.toNat<d.blocks.length):N8 d p=some (Kc d p):=by
 unfold N8 Kc
 rw[A7,A7]
 cases h:DN d.pend p with
 | some s=>simp
 | none=>
  rw[ET,List.getElem?_eq_getElem hp]
  simp[hp]
theorem Ym{d:BH}{p:UInt32}(hp:p.toNat<d.blocks.length):F2 d p=some (if d.off then([],71)else if(DN d.bad p).getD false then([],70)else(Kc d p,0)):=by
 unfold F2
 rw[P5,U,A7,zt hp,lS hp]
 cases d.off
 cases h:(DN d.bad p).getD false<;>simp[A7,h]
 simp
theorem bz{d:BH}{p:UInt32}(hp:¬p.toNat<d.blocks.length):F2 d p=some ([],2):=by
 unfold F2
 rw[P5,U,A7,zf hp]
 rfl
theorem PZ{l:List UInt32}{N:Nat}(hn:l.Nodup)(h:∀k∈l,k.toNat<N):l.length≤N:=by
 have h1:(l.map UInt32.toNat).Nodup:=by
  rw[List.nodup_iff_pairwise_ne,List.pairwise_map]
  exact hn.imp fun hne e=>hne (UInt32.toNat_inj.1 e)
 have:=RL (l':=List.range N) h1 (fun a ha=>by
  obtain⟨k,hk,rfl⟩:=List.mem_map.1 ha
  exact List.mem_range.2 (h k hk))
 simpa using this
theorem kK{n:Int}(h1:4≤n)(h2:n≤4096):Li n=some (some { off:=false,isCut:=false,lasts:=0,counts:=0,blocks:=List.replicate n.toNat (List.replicate 256 0),pend:=[],bad:=[],rcnt:=0,rtag:=List.replicate 32 0,rboots:=0 },0):=by
 unfold Li PF di
 have e:(decide (n<4)||decide (4096<n))=false:=by simp;omega
 rw[e,A9]
 simp only[U]
 rw[if_pos zS,U,if_pos zS,U,if_pos ⟨by omega,by omega⟩,U]
 rfl
theorem k6{d r:BH}(h:We d=true):je d r=(0,r):=by simp[je,h]
theorem nR{d r:BH}(h:We d=false):je d r=(71,Wb d):=by simp[je,h]
end



section
theorem Z8(l:List BW)(hl:l.length≤1048576){n:Nat}(hm:16<n):HQ n l=some (Db l):=by
 unfold HQ Db
 by_cases h16:l.length≤16
 rw[show decide (16<(l.length:Int))=false by simp;omega,show decide (l.length≤16)=true by simp[h16]]
 simp only[A9,Bool.true_and]
 unfold KX
 refine(congrArg (By _ n) ?_).trans ((mo (fun i=>(Kf l i,(i:Int))) (fun i=>some (((LY l).drop i).all (·.2))) l.length (fun i hi k hk=>?_) (fun k=>?_) zO).trans ?_)
 rfl
 have ei:((i+1:Nat):Int)=(i:Int)+1:=zO
 have st:(LY l).drop i=((l.getD i HB).gen,OT l i)::(LY l).drop (i+1):=by
  rw[List.drop_eq_getElem_cons (by rw[QG];exact hi)]
  congr 1
  exact zI ((List.getElem?_eq_getElem _).symm.trans (U1 l i hi))
 dsimp only at hk ⊢
 rw[st,List.all_cons]
 simp only[Gr,show decide ((i:Int)<(l.length:Int))=true by simp;omega,BZ]
 rw[CK (k:=i) HB rfl hi,U,U]
 have hko:OT l i = !((decide ((l.getD i HB).gen≤Kf l i))||(!decide (((l.getD i HB).secret.length:Int)=32))):=by
  unfold OT
  rw[Bool.not_or,Bool.not_not]
  congr 1
  rw[Bool.eq_iff_iff]
  simp[UInt32.not_le]
 generalize hg:(decide ((l.getD i HB).gen≤Kf l i))=p at hko
 generalize (!decide (((l.getD i HB).secret.length:Int)=32))=q at hko
 have ho:Nn p (some q)=some (p||q):=by cases p<;>rfl
 rw[ho,U,hko]
 cases hpq:(p||q)with
 | true=>simp only[BZ,Bool.not_true,Bool.false_and]
 | false=>
  simp only[A9,Bool.not_false,Bool.true_and]
  rw[U,A7,BC zO zO,←ei]
  exact hk
 simp only[Gr,show decide ((l.length:Int)<(l.length:Int))=false by simp,A9,KW]
 rw[List.drop_of_length_le (by rw[QG];exact Nat.le_refl _)]
 rfl
 simp
 rw[show decide (16<(l.length:Int))=true by simp;omega,show decide (l.length≤16)=false by simp;omega]
 rfl
theorem X3(l:List BW)(g:UInt32)(hl:l.length≤1048576){n:Nat}(hm:16<n):Ii n l g=some (C4 l g):=by
 unfold Ii
 rw[Z8 l hl hm,U]
 cases hr:Db l with
 | false=>
  simp only[Bool.not_false,BZ]
  unfold C4
  rw[if_pos hr]
  rfl
 | true=>
  simp only[Bool.not_true,A9]
  have h16:=((N4 l).1 hr).1
  unfold K3
  have hno:(∀k∈l,k.gen≠g)→C4 l g=(HB,41):=fun h=>by
   unfold C4
   rw[if_neg (by simp[hr])]
   split
   rename_i k hk
   rw[if_neg (h k (List.mem_of_getElem? hk))]
   rfl
  refine(congrArg (By _ n) ?_).trans (cC (fun i=>((0:UInt32),([]:List UInt8),(i:Int))) (fun i=>∀k∈l.take i,k.gen≠g) l.length (fun i hi hp k hk=>?_) (fun hp k=>?_) zS zO)
  rfl
  have ei:((i+1:Nat):Int)=(i:Int)+1:=zO
  have hgi:l[i]? = some (l.getD i HB):=I6 HB hi
  dsimp only at hk ⊢
  simp only[Hh,show decide ((i:Int)<(l.length:Int))=true by simp;omega,BZ]
  rw[CK (k:=i) HB rfl hi,U]
  by_cases hg:(l.getD i HB).gen=g
  rw[show decide ((l.getD i HB).gen=g)=true by simp only[hg,decide_true]]
  simp only[BZ]
  rw[U,bw.2 ⟨hr,List.mem_of_getElem? hgi,hg⟩]
  rw[show decide ((l.getD i HB).gen=g)=false by simp only[hg,decide_false]]
  simp only[A9]
  rw[A7,BC zO zO,←ei]
  refine hk fun k' hk'=>?_
  rw[List.take_add_one,hgi]at hk'
  rcases List.mem_append.1 hk' with h | h
  exact hp k' h
  simp only[Option.toList_some,List.mem_singleton]at h
  rw[h];exact hg
  simp only[Hh,show decide ((l.length:Int)<(l.length:Int))=false by simp,A9,LQ]
  rw[List.take_length]at hp
  rw[hno hp]
  rfl
end

section
def ik(a b c d:UInt8):UInt32:=((a.toUInt32 ||| shl32 b.toUInt32 8) ||| shl32 c.toUInt32 16) ||| shl32 d.toUInt32 24
def Ip(b:List UInt8):UInt32:=ik (b.getD 0 0) (b.getD 1 0) (b.getD 2 0) (b.getD 3 0)
theorem SY(b:UInt8)(k:Nat)(h:k≤24):(shl32 b.toUInt32 k).toNat=b.toNat*2^k:=by
 have h1:=b.toNat_lt
 simp only[shl32,UInt32.toNat_ofNat',Nat.min_eq_left (show k≤32 by omega),UInt8.toNat_toUInt32]
 refine Nat.mod_eq_of_lt ?_
 calc b.toNat*2^k<2^8*2^k:=Nat.mul_lt_mul_of_pos_right h1 (Nat.two_pow_pos k)
  _=2^(8+k):=(Nat.pow_add 2 8 k).symm
  _≤2^32:=Nat.pow_le_pow_right zD zO
theorem eG{u v k:Nat}(h:u<2^k):u ||| v*2^k=u+v*2^k:=by
 rw[Nat.or_comm,Nat.mul_comm,←Nat.two_pow_add_eq_or_of_lt h,Nat.add_comm]
theorem Yx(a b c d:UInt8):(ik a b c d).toNat=a.toNat+b.toNat*2^8+c.toNat*2^16+d.toNat*2^24:=by
 have ha:=a.toNat_lt
 have hb:=b.toNat_lt
 have hc:=c.toNat_lt
 unfold ik
 rw[UInt32.toNat_or,UInt32.toNat_or,UInt32.toNat_or,SY _ 8 zD,SY _ 16 zD,SY _ 24 zD,UInt8.toNat_toUInt32]
 rw[eG (u:=a.toNat) (k:=8) zO,eG (k:=16) zO,eG (k:=24) zO]
theorem gk(x:UInt32)(r:List UInt8):Ip (BE x.toUInt64 4++r)=x:=by
 apply UInt32.toNat_inj.1
 have hx:=x.toNat_lt
 unfold Ip
 rw[Yx]
 simp only[N2 _ 4 _ (show 0<4 by decide),N2 _ 4 _ (show 1<4 by decide),N2 _ 4 _ (show 2<4 by decide),N2 _ 4 _ (show 3<4 by decide),UInt64.toNat_toUInt8]
 rw[JW _ _ zD,JW _ _ zD,JW _ _ zD,JW _ _ zD]
 simp only[UInt32.toNat_toUInt64]
 omega
theorem fV(T:List UInt32)(k:BW)(h:CB)(s:List UInt8):Ip (JI T k h s)=h.page:=by
 rw[JI,JO,Sa]
 simp only[List.append_assoc]
 exact gk _ _
theorem kN{b:List UInt8}(h:b.length=256):UW b=some (b.drop 224):=by
 unfold UW
 rw[if_pos zO,h]
theorem pQ{T:List UInt32}{v:Bx}{d:BH}{p:UInt32}{tag b:List UInt8}(hr:F2 d p=some (b,0))(hb:b.length=256)(hl:v.ring.length≤1099511627776):
  NY T v d p tag=some (if b.drop 224=tag∧Ip b=p then Fy T v.ring b else(EB,[],61)):=by
 unfold NY
 have g:∀i:Nat,i<4→Aq b (i:Int)=some (b.getD i 0):=fun i hi=>CK 0 rfl zO
 have g0:=g 0 zO
 have g1:=g 1 zO
 have g2:=g 2 zO
 have g3:=g 3 zO
 rw[hr,U]
 show(Aq b 0).bind _=_
 rw[show Aq b 0=some (b.getD 0 0)from g0,U,show Aq b 1=some (b.getD 1 0)from g1,U,show Aq b 2=some (b.getD 2 0)from g2,U,show Aq b 3=some (b.getD 3 0)from g3,U,A7,kN hb,U]
 change cond (!decide (b.drop 224=tag) || !decide (Ip b=p)) _ _=_
 by_cases h:b.drop 224=tag∧Ip b=p
 rw[if_pos h,zt h.1,zt h.2]
 unfold Yg
 rw[if_pos ⟨hl,by show b.length≤_;omega⟩]
 rfl
 rw[if_neg h]
 have:(!decide (b.drop 224=tag) || !decide (Ip b=p))=true:=by
  simp only[Bool.or_eq_true,Bool.not_eq_true',decide_eq_false_iff_not]
  exact Classical.not_and_iff_not_or_not.1 h
 rw[this]
 rfl
theorem jN{r:Ad}(h1:2≤r.page.toNat)(h2:r.tag.length=32):ER r=some true:=by
 unfold ER
 have e1:decide ((2:UInt32)≤r.page)=true:=by rw[decide_eq_true_eq,UInt32.le_iff_toNat_le];exact h1
 have e2:decide ((r.tag.length:Int)=32)=true:=by rw[decide_eq_true_eq];omega
 rw[e1,e2]
 rfl
theorem oV{T:List UInt32}{v:Bx}{d:BH}{r:Ad}{b:List UInt8}(h1:2≤r.page.toNat)(h2:r.tag.length=32)(hr:F2 d r.page=some (b,0))(hb:b.length=256)(hl:v.ring.length≤1099511627776):
  HZ T v d r=some (if b.drop 224=r.tag∧Ip b=r.page then(Fy T v.ring b).2 else([],61)):=by
 unfold HZ
 rw[jN h1 h2,U,A7]
 unfold OI
 rw[pQ hr hb hl]
 simp only[U,Bool.not_true,A9]
 split<;>rfl
abbrev hd(v:Bx)(p:UInt32):CB:=⟨p,v.gen,v.boot,v.seals⟩
structure gv(N c:Nat)(d:BH):Prop where
 blen:d.blocks.length=N
 nle:N≤4096
 on:d.off=false
 uncut:d.isCut=false
 good:d.bad=[]
 plen:d.pend.length≤c
 cle:c≤100
theorem gv.write{N c:Nat}{d:BH}(D:gv N c d)(hc:c+1≤100){p:UInt32}{b:List UInt8}(hp:p.toNat<N)(hb:b.length=256):
  H9 d p b=some (0,{ d with counts:=wI (d.counts+1),pend:=JH d.pend p b })∧gv N (c+1) { d with counts:=wI (d.counts+1),pend:=JH d.pend p b }:=by
 have h0:We d=true:=by simp[We,D.on,D.uncut]
 constructor
 rw[bP (by rw[D.blen];exact hp) hb (by have:=D.plen;have:=D.cle;omega),k6 h0]
 simp[Uw,D.uncut]
 refine⟨D.blen,D.nle,D.on,D.uncut,D.good,?_,hc⟩
 have:(Gf d.pend p).length≤d.pend.length:=List.length_filter_le ..
 have:=D.plen
 show(Gf d.pend p).length+1≤c+1
 omega
theorem gv.read{N c:Nat}{d:BH}(D:gv N c d){p:UInt32}(hp:p.toNat<N):F2 d p=some (Kc d p,0):=by
 rw[Ym (by rw[D.blen];exact hp),D.on,D.good]
 rfl
theorem cB{d:BH}{p q:UInt32}{b:List UInt8}{c:Int}:Kc { d with counts:=c,pend:=JH d.pend p b } q=if p=q then b else Kc d q:=by
 unfold Kc
 rw[RE]
 split<;>rfl
theorem lh{T:List UInt32}{l:List BW}{h:CB}{s:List UInt8}{k:BW}(hl:l.length≤1099511627776)(hk:C4 l h.gen=(k,0))(hs:s.length≤198):WV T l h s=some (JI T k h s,0):=by
 unfold WV Fe
 rw[if_pos ⟨hl,by omega⟩,hk]
 simp
 omega
theorem qA{T:List UInt32}{v:Bx}{d:BH}{N c:Nat}{k:BW}{p:UInt32}{s:List UInt8}(D:gv N c d)(hc:c+1≤100)(hl:v.ring.length≤1099511627776)(hk:C4 v.ring v.gen=(k,0))(hp:p.toNat<N)(hs:s.length≤198):
  MM T v d p s=some ((JI T k (hd v p) s).drop 224,0,{ v with seals:=v.seals+1 },{ d with counts:=wI (d.counts+1),pend:=JH d.pend p (JI T k (hd v p) s) }):=by
 unfold MM
 have hb:=Oi T k (hd v p) hs
 rw[lh (h:=hd v p) hl hk hs,U,(D.write hc hp hb).1]
 simp only[U,kN hb]
 rfl
theorem Zo(v:Bx):∀(k i:Nat),(∀x,i≤x→x<i+k→DU v (UInt32.ofNat x)=true)→Eh v i k=[]
 | 0,i,_=>rfl
 | k+1,i,h=>by
  rw[Eh,if_pos (h i (Nat.le_refl _) zO)]
  exact Zo v k (i+1) fun x h1 h2=>h x zO zO
theorem gC(v:Bx)(j:Nat)(hj:DU v (UInt32.ofNat j)=false):∀(k i:Nat),i≤j→j<i+k→(∀x,i≤x→x<j→DU v (UInt32.ofNat x)=true)→Eh v i k=[UInt32.ofNat j]
 | 0,i,h1,h2,_=>by omega
 | k+1,i,h1,h2,h=>by
  by_cases e:i=j
  subst e
  rw[Eh,if_neg (by rw[hj];decide)]
  rw[Eh,if_pos (h i (Nat.le_refl _) zO)]
  exact gC v j hj k (i+1) zO zO fun x h1 h2=>h x zO zO
theorem lP{T:List UInt32}{v:Bx}{d:BH}{N c j:Nat}{k:BW}{s:List UInt8}(D:gv N c d)(hc:c+1≤100)(hl:v.ring.length≤1099511627776)(hk:C4 v.ring v.gen=(k,0))(hs:s.length≤198)
(h2:2≤j)(hj:j<N)(hfree:DU v (UInt32.ofNat j)=false)(htk:∀x,2≤x→x<j→DU v (UInt32.ofNat x)=true)(ht:v.taken.length≤100):
  G7 T v d s=some (⟨UInt32.ofNat j,(JI T k (hd v (UInt32.ofNat j)) s).drop 224⟩,0,{ v with seals:=v.seals+1,taken:=JH v.taken (UInt32.ofNat j) true },{ d with counts:=wI (d.counts+1),pend:=JH d.pend (UInt32.ofNat j) (JI T k (hd v (UInt32.ofNat j)) s) }):=by
 have hN:=D.nle
 have hjn:(UInt32.ofNat j).toNat=j:=by simp;omega
 unfold G7 aG R0
 rw[A7,zf zO,A9,U,D.blen,if_pos zO,U,gC v j hfree (N-2) 2 h2 zO htk]
 show GO T v d s (UInt32.ofNat j)=_
 unfold GO
 have h0:decide (UInt32.ofNat j=0)=false:=by
  rw[decide_eq_false_iff_not]
  intro e
  have:=congrArg UInt32.toNat e
  rw[hjn]at this
  simp at this
  omega
 rw[h0,A9,qA D hc hl hk (by rw[hjn];exact hj) hs]
 simp only[U,OQ]
 rw[if_pos zO]
 rfl
theorem fL{T:List UInt32}{v:Bx}{d:BH}{N c:Nat}{s:List UInt8}(D:gv N c d)(hs:s.length≤198)(htk:∀x,2≤x→x<N→DU v (UInt32.ofNat x)=true):
  G7 T v d s=some (⟨0,[]⟩,110,v,d):=by
 have hN:=D.nle
 unfold G7 aG R0
 rw[A7,zf zO,A9,U,D.blen,if_pos zO,U,Zo v (N-2) 2 (fun x h1 h2=>htk x h1 zO)]
 rfl
def Xc(i:Nat):BW:=⟨UInt32.ofNat (i+1),List.replicate 32 (UInt8.ofNat (65+i))⟩
def Fp(m:Nat):List BW:=(List.range m).map Xc
theorem Dy(m:Nat):(Fp m).length=m:=by simp[Fp]
theorem gE(m:Nat):Fp (m+1)=Fp m++[Xc m]:=by simp[Fp,List.range_succ]
theorem iC(m:Nat)(hm:m≤30){n:Nat}(hn:40≤n):FS n (m:Int)=some (Fp m):=by
 unfold FS EQ
 refine Dw (fun i=>(Fp i,((i+1:Nat):Int))) m ?_ ?_ zO
 intro i hi k
 simp only[Hg]
 rw[zt zO,BZ]
 unfold LF
 refine Dw (fun j=>(List.replicate j (UInt8.ofNat (65+i)),(j:Int))) 32 ?_ ?_ zO
 intro j hj k'
 simp only[HW]
 rw[zt zO,BZ,CG zQ zQ,U,A7]
 have e:HN (wI (64+((i+1:Nat):Int)))=UInt8.ofNat (65+i):=by
  rw[BC zO zO]
  unfold HN
  congr 1
  omega
 rw[e,BC zO zO,←List.replicate_succ']
 rfl
 intro k'
 simp only[HW]
 rw[zf zO,A9]
 unfold LE
 rw[CG (by simp[Dy];omega) (by simp[Dy];omega),U]
 unfold LN
 rw[A7,BC zO zO]
 have e:FL ((i+1:Nat):Int)=UInt32.ofNat (i+1):=by
  unfold FL
  congr 1
  omega
 rw[e,gE]
 rfl
 intro k
 simp only[Hg]
 rw[zf zO,A9]
 rfl
theorem Wn{i:Nat}(h:i<30):(Xc i).gen.toNat=i+1:=by simp[Xc];omega
theorem eh(m:Nat)(hm:m≤16):Db (Fp m)=true:=by
 refine(jT _).2 ⟨by rw[Dy];exact hm,?_,?_⟩
 unfold Fp
 rw[List.pairwise_map]
 refine List.Pairwise.imp_of_mem ?_ List.pairwise_lt_range
 intro a b ha hb hlt
 have h1:=List.mem_range.1 ha
 have h2:=List.mem_range.1 hb
 rw[UInt32.lt_iff_toNat_lt,Wn zO,Wn zO]
 omega
 intro k hk
 obtain⟨i,hi,rfl⟩:=List.mem_map.1 hk
 have h1:=List.mem_range.1 hi
 refine⟨?_,by simp[Xc]⟩
 rw[UInt32.lt_iff_toNat_lt,Wn zO]
 simp
theorem gT{m i:Nat}(hm:m≤16)(hi:i<m):C4 (Fp m) (Xc i).gen=(Xc i,0):=
 bw.2 ⟨eh m hm,List.mem_map.2 ⟨i,List.mem_range.2 hi,rfl⟩,rfl⟩
end

section
structure VS(N c:Nat)(R:List BW)(g:UInt32)(v:Bx)(d:BH):Prop where
 dev:gv N c d
 ring:v.ring=R
 rlen:R.length≤1099511627776
 gen:v.gen=g
 boot:v.boot=7
 tlen:v.taken.length≤c
structure XZ(T:List UInt32)(R:List BW)(d:BH)(p g:UInt32)(q:UInt64)(s b:List UInt8):Prop where
 key:∃k,C4 R g=(k,0)∧b=JI T k ⟨p,g,7,q⟩ s
 txt:s.length≤198
 is:Kc d p=b
theorem XZ.len{T:List UInt32}{R:List BW}{d:BH}{p g:UInt32}{q:UInt64}{s b:List UInt8}(h:XZ T R d p g q s b):b.length=256:=by
 obtain⟨k,_,rfl⟩:=h.key
 exact Oi T k _ h.txt
theorem XZ.page{T:List UInt32}{R:List BW}{d:BH}{p g:UInt32}{q:UInt64}{s b:List UInt8}(h:XZ T R d p g q s b):Ip b=p:=by
 obtain⟨k,_,rfl⟩:=h.key
 exact fV T k _ s
theorem XZ.opens{T:List UInt32}{R:List BW}{d:BH}{p g:UInt32}{q:UInt64}{s b:List UInt8}(h:XZ T R d p g q s b):Fy T R b=(⟨p,g,7,q⟩,s,0):=by
 obtain⟨k,hk,rfl⟩:=h.key
 have hs:Fe T R ⟨p,g,7,q⟩ s=(JI T k ⟨p,g,7,q⟩ s,0):=by
  unfold Fe
  have:=h.txt
  simp[hk]
  omega
 have:=iS (T:=T) (l:=R) (h:=⟨p,g,7,q⟩) (s:=s) (by rw[hs])
 rwa [hs]at this
theorem XZ.put{T:List UInt32}{R:List BW}{d d':BH}{p p' g:UInt32}{q:UInt64}{s b b':List UInt8}(h:XZ T R d p g q s b)(hd:∀x,Kc d' x=if p'=x then b' else Kc d x)(hne:p'≠p):XZ T R d' p g q s b:=
 ⟨h.key,h.txt,by rw[hd,if_neg hne];exact h.is⟩
theorem mj{i j:Nat}(hi:i<4294967296)(hj:j<4294967296)(h:i≠j):UInt32.ofNat i≠UInt32.ofNat j:=fun e=>h (by
 have:=congrArg UInt32.toNat e
 simpa[Nat.mod_eq_of_lt hi,Nat.mod_eq_of_lt hj]using this)
theorem VS.write{T:List UInt32}{N c:Nat}{R:List BW}{g:UInt32}{v:Bx}{d:BH}(V9:VS N c R g v d)(hc:c+1≤100){k:BW}(hk:C4 R g=(k,0)){s:List UInt8}(hs:s.length≤198)(j:Nat)
(h2:2≤j)(hj:j<N)(hfree:DU v (UInt32.ofNat j)=false)(htk:∀x,2≤x→x<j→DU v (UInt32.ofNat x)=true):
  ∃v' d' b,G7 T v d s=some (⟨UInt32.ofNat j,b.drop 224⟩,0,v',d')∧VS N (c+1) R g v' d'∧v'.seals=v.seals+1∧v'.taken=JH v.taken (UInt32.ofNat j) true∧
   (∀q,Kc d' q=if UInt32.ofNat j=q then b else Kc d q)∧XZ T R d' (UInt32.ofNat j) g v.seals s b∧b=JI T k ⟨UInt32.ofNat j,g,7,v.seals⟩ s∧d'.blocks=d.blocks:=by
 have hN:=V9.dev.nle
 have hjn:(UInt32.ofNat j).toNat=j:=by simp;omega
 have hh:hd v (UInt32.ofNat j)=⟨UInt32.ofNat j,g,7,v.seals⟩:=by simp only[hd,V9.gen,V9.boot]
 have hb:=Oi T k (hd v (UInt32.ofNat j)) hs
 have hw:=lP (T:=T) V9.dev hc (by rw[V9.ring];exact V9.rlen) (by rw[V9.ring,V9.gen];exact hk) hs h2 hj hfree htk (by have:=V9.tlen;omega)
 refine⟨_,_,_,hw,⟨(V9.dev.write hc (by rw[hjn];exact hj) hb).2,V9.ring,V9.rlen,V9.gen,V9.boot,?_⟩,rfl,rfl,fun q=>cB,⟨⟨k,hk,by rw[hh]⟩,hs,?_⟩,by rw[hh],rfl⟩
 have:(Gf v.taken (UInt32.ofNat j)).length≤v.taken.length:=List.length_filter_le ..
 have:=V9.tlen
 show(Gf v.taken (UInt32.ofNat j)).length+1≤c+1
 omega
 rw[cB,if_pos rfl]
theorem VS.read{T:List UInt32}{N c:Nat}{R:List BW}{g g':UInt32}{v:Bx}{d:BH}(V9:VS N c R g v d){p:UInt32}{q:UInt64}{s b:List UInt8}(h:XZ T R d p g' q s b)(hp2:2≤p.toNat)(hp:p.toNat<N):
  HZ T v d ⟨p,b.drop 224⟩=some (s,0):=by
 have hb:=h.len
 have hr:F2 d p=some (b,0):=by rw[V9.dev.read hp,h.is]
 have ht:(b.drop 224).length=32:=by simp[hb]
 have hl:v.ring.length≤1099511627776:=by rw[V9.ring];exact V9.rlen
 have h1:=oV (T:=T) (v:=v) (d:=d) (r:=⟨p,b.drop 224⟩) hp2 ht hr hb hl
 rw[if_pos ⟨rfl,h.page⟩,V9.ring,h.opens]at h1
 exact h1
def d0(N:Nat):BH:={ off:=false,isCut:=false,lasts:=0,counts:=0,blocks:=List.replicate N (List.replicate 256 0),pend:=[],bad:=[],rcnt:=0,rtag:=List.replicate 32 0,rboots:=0 }
def v0:Bx:={ ring:=Fp 1,gen:=1,boot:=7,seals:=0,taken:=[] }
theorem tF{N:Nat}(h:N≤4096):gv N 0 (d0 N):=⟨List.length_replicate ..,h,rfl,rfl,rfl,Nat.le_refl 0,by omega⟩
theorem py{N:Nat}(h:N≤4096):VS N 0 (Fp 1) 1 v0 (d0 N):=⟨tF h,rfl,by rw[Dy];omega,rfl,rfl,Nat.le_refl 0⟩
theorem Wv{m:Nat}(h:1≤m)(hm:m≤16):C4 (Fp m) 1=(Xc 0,0):=gT hm h
theorem tX{N n:Nat}(h4:4≤N)(hN:N≤4096)(hn:N<n):∃r:BI,IQ n (N:Int)=some (some r,0)∧r.blk.length=N:=by
 refine⟨{ blk:=List.replicate N (List.replicate 256 0),pnd:=List.replicate N [],bads:=List.replicate N false,rcnt:=0,rtag:=List.replicate 32 0,rboots:=0,left := -1,off:=false },?_,List.length_replicate ..⟩
 have z:∀k:Nat,k≤1048576→Dd (k:Int)=some (List.replicate k 0):=fun k hk=>by
  rw[WR zO zO]
  simp
 have z1:=z 32 zO
 have z2:=z 256 zO
 clear z
 unfold IQ
 have hc:(decide ((N:Int)<4)||decide (4096<(N:Int)))=false:=by simp;omega
 rw[hc,A9]
 show(Dd ((32:Nat):Int)).bind _=_
 rw[z1,U]
 generalize List.replicate 32 (0:UInt8)=Y9
 generalize List.replicate 256 (0:UInt8)=Z9 at z2 ⊢
 unfold Jm
 refine Dw (fun i=>(List.replicate i Z9,List.replicate i [],List.replicate i false,(i:Int))) N ?_ ?_ hn
 intro i hi k
 simp only[FZ]
 rw[zt zO,BZ]
 show(Dd ((256:Nat):Int)).bind _=_
 rw[z2,U,CG zQ zQ,U,CG zQ zQ,U,CG zQ zQ,U,A7,BC zO zO]
 rw[←List.replicate_succ',←List.replicate_succ',←List.replicate_succ']
 rfl
 intro k
 simp only[FZ]
 rw[zf zO,A9]
 rfl
end

section
structure SD(N:Nat)(v:Bx):Prop where
 nd:(v.taken.map (·.1)).Nodup
 tr:∀e∈v.taken,e.2=true∧2≤e.1.toNat∧e.1.toNat<N
theorem SD.iff{N:Nat}{v:Bx}(h:SD N v)(p:UInt32):DU v p=true↔p∈v.taken.map (·.1):=by
 unfold DU
 constructor
 intro hp
 by_cases hm:∃e∈v.taken,e.1=p
 obtain⟨e,he,rfl⟩:=hm
 exact List.mem_map_of_mem he
 rw[RO (fun e he e'=>hm ⟨e,he,e'⟩)]at hp
 exact absurd hp zD
 intro hp
 obtain⟨e,he,rfl⟩:=List.mem_map.1 hp
 rw[RZ h.nd he]
 exact(h.tr e he).1
theorem ofNat_toNat{x:UInt32}:UInt32.ofNat x.toNat=x:=UInt32.toNat_inj.1 zS
theorem SD.full{N:Nat}{v:Bx}(h:SD N v)(hN:N≤4096)(hl:N-2≤v.taken.length):∀x,2≤x→x<N→DU v (UInt32.ofNat x)=true:=by
 intro x h1 h2
 rw[h.iff]
 by_cases hm:UInt32.ofNat x∈v.taken.map (·.1)
 exact hm
 exfalso
 have hnd:(x::v.taken.map fun e=>e.1.toNat).Nodup:=by
  refine List.nodup_cons.2 ⟨fun hx=>?_,?_⟩
  obtain⟨e,he,e'⟩:=List.mem_map.1 hx
  refine hm ?_
  rw[←e',ofNat_toNat]
  exact List.mem_map_of_mem he
  have:=h.nd
  rw[show(v.taken.map fun e=>e.1.toNat)=(v.taken.map (·.1)).map UInt32.toNat by simp]
  exact List.Pairwise.map _ (fun a b hab e=>hab (UInt32.toNat_inj.1 e)) this
 have:=RL hnd (l':=(List.range (N-2)).map (·+2)) (fun a ha=>by
  have hb:2≤a∧a<N:=by
   rcases List.mem_cons.1 ha with rfl | ha
   exact⟨h1,h2⟩
   obtain⟨e,he,rfl⟩:=List.mem_map.1 ha
   exact(h.tr e he).2
  exact List.mem_map.2 ⟨a-2,List.mem_range.2 zO,by omega⟩)
 simp at this
 omega
theorem cD{P:Nat→Prop}:∀k,(∃j,j<k∧P j)→∃j,j<k∧P j∧∀x,x<j→¬P x
 | 0,⟨j,h,_⟩=>by omega
 | k+1,⟨j,h,hP⟩=>by
  by_cases hk:∃i,i<k∧P i
  obtain⟨i,h1,h2,h3⟩:=cD k hk
  exact⟨i,by omega,h2,h3⟩
  have:j=k:=by
   rcases Nat.lt_or_ge j k with h' | h'
   exact absurd ⟨j,h',hP⟩ hk
   omega
  subst this
  exact⟨j,by omega,hP,fun x hx hPx=>hk ⟨x,hx,hPx⟩⟩
theorem SD.free{N:Nat}{v:Bx}(h:SD N v)(hN:N≤4096)(hl:v.taken.length<N-2):∃j,2≤j∧j<N∧DU v (UInt32.ofNat j)=false∧∀x,2≤x→x<j→DU v (UInt32.ofNat x)=true:=by
 have:∃j,j<N∧(2≤j∧DU v (UInt32.ofNat j)=false):=by
  by_cases hx:∃j,j<N∧(2≤j∧DU v (UInt32.ofNat j)=false)
  exact hx
  exfalso
  have hnd:((List.range (N-2)).map (fun i=>UInt32.ofNat (i+2))).Nodup:=by
   refine List.pairwise_map.2 (List.Pairwise.imp_of_mem ?_ List.nodup_range)
   intro a b ha hb hne
   have ha:=List.mem_range.1 ha
   have hb:=List.mem_range.1 hb
   exact mj zO zO zO
  have:=RL hnd (l':=v.taken.map (·.1)) (fun a ha=>by
   obtain⟨i,hi,rfl⟩:=List.mem_map.1 ha
   have hi:=List.mem_range.1 hi
   rw[←h.iff]
   cases hc:DU v (UInt32.ofNat (i+2))with
   | true=>rfl
   | false=>exact absurd ⟨i+2,by omega,by omega,hc⟩ hx)
  simp at this
  omega
 obtain⟨j,h1,⟨h2,h3⟩,h4⟩:=cD N this
 refine⟨j,h2,h1,h3,fun x hx1 hx2=>?_⟩
 cases hc:DU v (UInt32.ofNat x)with
 | true=>rfl
 | false=>exact absurd ⟨hx1,hc⟩ (h4 x hx2)
def Rd(T:List UInt32)(R:List BW)(N:Nat)(v:Bx)(d:BH)(s:A4):Prop:=2≤s.page.toNat∧s.page.toNat<N∧DU v s.page=true∧∃g' qn b,XZ T R d s.page g' qn s.txt b∧s.tag=b.drop 224
theorem Rd.ok{T:List UInt32}{R:List BW}{N c:Nat}{g:UInt32}{v:Bx}{d:BH}{s:A4}(V9:VS N c R g v d)(h:Rd T R N v d s):HZ T v d ⟨s.page,s.tag⟩=some (s.txt,0)∧DW ⟨s.page,s.tag⟩=true∧s.txt.length≤198:=by
 obtain⟨h1,h2,_,g',qn,b,hb,ht⟩:=h
 have hl:=hb.len
 refine⟨by rw[ht];exact V9.read hb h1 h2,?_,hb.txt⟩
 unfold DW
 rw[Bool.and_eq_true,decide_eq_true_eq,decide_eq_true_eq]
 refine⟨UInt32.le_iff_toNat_le.2 h1,?_⟩
 show(s.tag.length:Int)=32
 rw[ht,List.length_drop,hl]
 rfl
structure fe(N c0:Nat)(R:List BW)(g:UInt32)(vb:Bx)(db:BH)(q:QR):Prop where
 vs:VS N (c0+q.tk.length) R g q.v q.d
 seals:q.v.seals=vb.seals+UInt64.ofNat q.tk.length
 tak:q.v.taken=(q.tk.map fun p=>(p,true)).reverse++vb.taken
 ok:SD N q.v
 keep:∀p,p∉q.tk→Kc q.d p=Kc db p
 lim:c0+q.tk.length+(N-2-q.v.taken.length)≤100
theorem fe.notin{N c0:Nat}{R:List BW}{g:UInt32}{vb:Bx}{db:BH}{q:QR}(S:fe N c0 R g vb db q)(hb:SD N vb){p:UInt32}(h:DU vb p=true):p∉q.tk∧DU q.v p=true:=by
 rw[hb.iff]at h
 constructor
 intro hp
 have:=S.ok.nd
 rw[S.tak,List.map_append]at this
 refine(List.nodup_append.1 this).2.2 p ?_ p h rfl
 rw[List.map_reverse,List.mem_reverse,List.map_map]
 exact List.mem_map.2 ⟨p,hp,rfl⟩
 rw[S.ok.iff,S.tak,List.map_append]
 exact List.mem_append_right _ h
theorem fe.base{T:List UInt32}{N c0:Nat}{R:List BW}{g:UInt32}{vb:Bx}{db:BH}{q:QR}(S:fe N c0 R g vb db q)(hb:SD N vb){s:A4}(h:Rd T R N vb db s):Rd T R N q.v q.d s:=by
 obtain⟨h1,h2,h3,g',qn,b,hb',ht⟩:=h
 obtain⟨h4,h5⟩:=S.notin hb h3
 exact⟨h1,h2,h5,g',qn,b,⟨hb'.key,hb'.txt,by rw[S.keep _ h4];exact hb'.is⟩,ht⟩
end

section
theorem cI:∀ {f:Nat} {l:List AM} {t:Bd} ,Tr f l t→(l=[]→Nd f t=1)∧(l≠[]→Nd f t+1≤2*l.length)
  | 0,_,_,h=>h.elim
  | f+1,l,t,h=>by
    rcases h with⟨rfl,rfl⟩ | ⟨hne,c,L,A,⟨_,rfl⟩ | ⟨h4,hL,ks,rfl,hk⟩⟩
    exact⟨fun _=>rfl,fun h=>absurd rfl h⟩
    refine⟨fun h=>absurd h hne,fun _=>?_⟩
    have:=List.length_pos_iff.2 hne
    rw[Nd,if_pos (show(Bd.mk c.x c.y c.lev l []).kids.length=0 from rfl)]
    simp only[Bd.rows]
    omega
    refine⟨fun h=>absurd h hne,fun _=>?_⟩
    have hkl:=hk.length
    have hq2:=(Pj A hL).1
    rw[Nd,if_neg (by simp only[Bd.kids];omega)]
    simp only[Bd.kids]
    have key:∀ {xs:List (List AM)} {ys:List Bd},SW (Tr f) xs ys→(∀x∈xs,x≠[])→(ys.map (Nd f)).sum+xs.length≤2*xs.flatten.length:=by
      intro xs ys h
      induction h with
      | nil=>simp
      | @cons x y xs ys h1 h2 ih=>
        intro hx
        have a1:=(cI h1).2 (hx _ zS)
        have a2:=ih fun x hx'=>hx x (by simp[hx'])
        simp only[List.map_cons,List.sum_cons,List.length_cons,List.flatten_cons,List.length_append]
        omega
    have:=key hk fun x hx=>(U3 hx).1
    rw[(XC L l).length_eq]at this
    omega
theorem RR{f:Nat}{l:List AM}{t:Bd}(h:Tr f l t)(hl:l.length≤1000):Nd f t≤max 1 (2*l.length):=by
  obtain⟨h1,h2⟩:=cI h
  by_cases e:l=[]
  rw[h1 e];omega
  have:=h2 e
  omega
theorem fN{s:List UInt8}(h:s.length≤1048576):XF s=some ⟨s,h⟩:=dif_pos h
theorem Za{m:List (UInt32×Bool)}{p:UInt32}(h:p∉m.map (·.1)):Gf m p=m:=TR fun e he e'=>h (by rw[←e'];exact List.mem_map_of_mem he)
theorem kG{T:List UInt32}{N c0:Nat}{R:List BW}{g:UInt32}{vb:Bx}{db:BH}{th:List (JF×Ad)}{k:BW}(hb:SD N vb)(hN:N≤4096)(hk:C4 R g=(k,0))(hth:∀key r,DN th key=some r→Rd T R N vb db ⟨key.1,r.page,r.tag⟩):
    kY (NX T th) (fe N c0 R g vb db) (fun q s=>Rd T R N q.v q.d s) (fun q=>N-2-q.v.taken.length):=by
  refine⟨fun q s S hs=>?_⟩
  unfold NX
  rw[fN (show s.length≤1048576 by omega),U]
  cases hm:DN th ⟨s,by omega⟩with
  | some r=>
    have hr:=S.base hb (hth _ r hm)
    exact⟨r,0,q,rfl,S,fun _ h=>h,.inl ⟨rfl,(hr.ok S.vs).2.1,hr,Nat.le_succ _⟩⟩
  | none=>
    rw[show(none:Option Ad).isSome=false from rfl,A9]
    by_cases hroom:q.v.taken.length<N-2
    obtain⟨j,j1,j2,j3,j4⟩:=S.ok.free hN hroom
    have hlim:=S.lim
    obtain⟨v',d',b,e1,V1,s1,t1,h1,H1,_,_⟩:=S.vs.write (T:=T) zO hk hs j j1 j2 j3 j4
    have hjn:(UInt32.ofNat j).toNat=j:=by simp;omega
    have hnin:UInt32.ofNat j∉q.v.taken.map (·.1):=by
      rw[←S.ok.iff,j3]
      decide
    have htk:v'.taken=(UInt32.ofNat j,true)::q.v.taken:=by rw[t1,JH,Za hnin]
    have hok:SD N v':=by
      refine⟨?_,fun e he=>?_⟩
      rw[htk,List.map_cons]
      exact List.nodup_cons.2 ⟨hnin,S.ok.nd⟩
      rw[htk]at he
      rcases List.mem_cons.1 he with rfl | he
      exact⟨rfl,by rw[hjn];exact j1,by rw[hjn];exact j2⟩
      exact S.ok.tr e he
    have hntk:UInt32.ofNat j∉q.tk:=fun hj=>hnin (by
      rw[S.tak,List.map_append]
      refine List.mem_append_left _ ?_
      rw[List.map_reverse,List.mem_reverse,List.map_map]
      exact List.mem_map.2 ⟨_,hj,rfl⟩)
    rw[e1,U]
    dsimp only
    rw[show decide ((0:Int)=0)=true from rfl,BZ,CG zQ zQ,U]
    have hlen:(q.tk++[UInt32.ofNat j]).length=q.tk.length+1:=by simp
    refine⟨_,0,⟨q.tk++[UInt32.ofNat j],v',d'⟩,rfl,⟨?_,?_,?_,hok,fun p hp=>?_,?_⟩,fun x hx=>?_,.inl ⟨rfl,?_,?_,?_⟩⟩
    show VS N (c0+(q.tk++[UInt32.ofNat j]).length) R g v' d'
    rw[hlen]
    exact V1
    show v'.seals=vb.seals+UInt64.ofNat (q.tk++[UInt32.ofNat j]).length
    rw[s1,S.seals,hlen,UInt64.ofNat_add,UInt64.add_assoc]
    rfl
    show v'.taken=_
    rw[htk,S.tak]
    simp
    simp only[List.mem_append,List.mem_singleton,not_or]at hp
    show Kc d' p=_
    rw[h1,if_neg (fun e=>hp.2 e.symm)]
    exact S.keep p hp.1
    show c0+(q.tk++[UInt32.ofNat j]).length+(N-2-v'.taken.length)≤100
    rw[hlen,htk,List.length_cons]
    omega
    obtain⟨x1,x2,x3,g',qn,b',x4,x5⟩:=hx
    have hne:UInt32.ofNat j≠x.page:=fun e=>by
      rw[←e,j3]at x3
      exact absurd x3 zD
    refine⟨x1,x2,?_,g',qn,b',x4.put h1 hne,x5⟩
    show DU v' x.page=true
    rw[hok.iff,htk,List.map_cons]
    exact List.mem_cons_of_mem _ ((S.ok.iff _).1 x3)
    have hl:=H1.len
    unfold DW
    rw[Bool.and_eq_true,decide_eq_true_eq,decide_eq_true_eq]
    refine⟨UInt32.le_iff_toNat_le.2 (by rw[hjn];exact j1),?_⟩
    rw[List.length_drop,hl]
    rfl
    refine⟨by rw[hjn];exact j1,by rw[hjn];exact j2,?_,g,q.v.seals,b,H1,rfl⟩
    show DU v' (UInt32.ofNat j)=true
    rw[hok.iff,htk]
    simp
    show N-2-q.v.taken.length≤N-2-v'.taken.length+1
    rw[htk,List.length_cons]
    omega
    have hw:=fL (T:=T) S.vs.dev hs (S.ok.full hN zO)
    rw[hw,U]
    dsimp only
    rw[show decide ((110:Int)=0)=false from rfl,A9]
    exact⟨_,110,q,rfl,S,fun _ h=>h,.inr ⟨rfl,by omega⟩⟩
theorem bU:∀(l:List (Int×A4)) (m:List (JF×Ad)),(∀s∈l,s.2.txt.length≤1048576)→m.length+l.length≤1000000000→
    ∃m',Ry l m=some m'∧∀k:JF,DN m' k=((l.reverse.find? fun s=>decide (s.2.txt=k.1)).map fun s=>(⟨s.2.page,s.2.tag⟩:Ad)).or (DN m k)
  | [],m,_,_=>⟨m,rfl,fun k=>by simp⟩
  | s::l,m,h,hb=>by
    simp only[List.length_cons]at hb
    have hd:(Gf m ⟨s.2.txt,h s zS⟩).length≤m.length:=List.length_filter_le ..
    obtain⟨m',h1,h2⟩:=bU l (JH m ⟨s.2.txt,h s zS⟩ ⟨s.2.page,s.2.tag⟩) (fun x hx=>h x (by simp[hx])) (by
      show(Gf m _).length+1+l.length≤_
      omega)
    refine⟨m',?_,fun k=>?_⟩
    rw[Ry,fN (h s zS),U]
    unfold OQ
    rw[if_pos zO,U]
    exact h1
    rw[h2 k,List.reverse_cons,List.find?_append,RE]
    cases hf:l.reverse.find? fun s=>decide (s.2.txt=k.1)with
    | some x=>rfl
    | none=>
      simp only[Option.map_none,Option.none_or,List.find?_singleton]
      by_cases e:s.2.txt=k.1
      rw[if_pos (Subtype.ext e),if_pos (by simpa using e)]
      rfl
      rw[if_neg (fun e'=>e (congrArg Subtype.val e')),if_neg (by simpa using e)]
      rfl
theorem Zj{α:Type}(xs:List α):(FK xs).reverse.map (·.2)=xs:=by
  unfold FK
  rw[List.reverse_reverse,List.map_map]
  have:((fun x:Int×α=>x.2)∘fun p:α×Nat=>((p.2:Int),p.1))=Prod.fst:=rfl
  rw[this,List.zipIdx_map_fst]
theorem jX{α:Type}{xs:List α}{s:Int×α}(h:s∈FK xs):s.2∈xs:=by
  rw[←Zj xs]
  exact List.mem_map_of_mem (List.mem_reverse.2 h)
theorem Uj(had:List A4)(h:∀s∈had,s.txt.length≤1048576)(hb:had.length≤1000000000):∃th,Ry (FK had) []=some th∧∀k:JF,DN th k=(had.find? fun s=>decide (s.txt=k.1)).map fun s=>(⟨s.page,s.tag⟩:Ad):=by
  obtain⟨th,h1,h2⟩:=bU (FK had) [] (fun s hs=>h _ (jX hs)) (by rw[Jz];simpa using hb)
  refine⟨th,h1,fun k=>?_⟩
  rw[h2 k,show DN ([]:List (JF×Ad)) k=none from rfl,Option.or_none]
  conv=>rhs;rw[←Zj had]
  rw[List.find?_map,Option.map_map]
  rfl
theorem WT{N:Nat}(hN:N≤4096):∀(tk:List UInt32) (v:Bx) (d:BH) (base:List (UInt32×Bool)),d.blocks.length=N→v.taken=(tk.map fun p=>(p,true)).reverse++base→(v.taken.map (·.1)).Nodup→(∀p∈tk,2≤p.toNat∧p.toNat<N)→
    QF tk v d=some { v with taken:=base }
  | [],v,d,base,_,h,_,_=>by
    simp at h
    rw[QF,←h]
  | p::tk,v,d,base,hd,h,hn,hr=>by
    obtain⟨r1,r2⟩:=hr p zS
    have hmem:(p,true)∈v.taken:=by rw[h];simp
    have hg:=RZ hn hmem
    have hdel:Gf v.taken p=(tk.map fun p=>(p,true)).reverse++base:=by
      rw[h]at hn ⊢
      simp only[List.map_cons,List.reverse_cons,List.append_assoc,List.singleton_append,List.map_append]at hn ⊢
      obtain⟨n1,n2,n3⟩:=List.nodup_append.1 hn
      obtain⟨n4,n5⟩:=List.nodup_cons.1 n2
      unfold Gf
      rw[List.filter_append,List.filter_cons_of_neg zS]
      congr 1
      exact Za (m:=(tk.map fun p=>(p,true)).reverse) fun hp=>n3 p hp p zS rfl
      exact Za n4
    have hi:JR v d p=some true:=by
      have:=YU v d p.toNat r1 zO
      rw[ofNat_toNat,hd,zt r2]at this
      exact this
    have hgive:ML v d p=some (0,{ v with taken:=Gf v.taken p }):=by
      unfold ML
      rw[hi,U,A7,hg]
      rfl
    rw[QF,hgive,U]
    have:=WT hN tk { v with taken:=Gf v.taken p } d base hd hdel (by
      show((Gf v.taken p).map (·.1)).Nodup
      exact P1 hn) (fun q hq=>hr q (by simp[hq]))
    exact this
theorem IV{l:List AM}(h:Cp l=true):l.length≤1000:=by
  unfold Cp at h
  simp only[Bool.and_eq_true,decide_eq_true_eq]at h
  omega
theorem mg{n N c0:Nat}{T:List UInt32}{R:List BW}{g:UInt32}{vb:Bx}{db:BH}{k:BW}{l:List AM}{had:List A4}(hn:1100≤n)(hN:N≤4096)(V9:VS N c0 R g vb db)(hb:SD N vb)(hk:C4 R g=(k,0))(hl:Cp l=true)
(hhad:∀s∈had,Rd T R N vb db s)(hlen:had.length≤100000)(hlim:c0+(N-2-vb.taken.length)≤100):
    ∃t th,KY n l=some (t,0)∧Tr n l t∧(∀k:JF,DN th k=(had.find? fun s=>decide (s.txt=k.1)).map fun s=>(⟨s.page,s.tag⟩:Ad))∧
      ((∃r out q,KA n T vb db l had=some (out,0,q.v,q.d)∧Qg n t out r∧DW r=true∧fe N c0 R g vb db q∧(∀s∈out,Rd T R N q.v q.d s)∧out.length=Nd n t∧N9 (NX T th) ⟨[],vb,db⟩ out q∧N-2-vb.taken.length≤N-2-q.v.taken.length+Nd n t)∨
       (∃v d c,KA n T vb db l had=some ([],110,v,d)∧N-2-vb.taken.length<Nd n t∧v.taken=vb.taken∧VS N c R g v d)):=by
  obtain⟨t,h1,_,hT⟩:=Tu (n:=n) (l:=l) zO hl
  obtain⟨th,h2,h3⟩:=Uj had (fun s hs=>by have:=((hhad s hs).ok V9).2.2;omega) zO
  have hth:∀(key:JF) r,DN th key=some r→Rd T R N vb db ⟨key.1,r.page,r.tag⟩:=by
    intro key r hr
    rw[h3 key]at hr
    obtain⟨s,hs,rfl⟩:=Option.map_eq_some_iff.1 hr
    have h5:=List.find?_some hs
    simp only[decide_eq_true_eq]at h5
    rw[←h5]
    exact hhad s (List.mem_of_find?_eq_some hs)
  have W:=kG (T:=T) (c0:=c0) (db:=db) hb hN hk hth
  have hpg:=RR hT (IV hl)
  have hl1:=IV hl
  have S0:fe N c0 R g vb db ⟨[],vb,db⟩:=⟨V9,by simp,by simp,hb,fun _ _=>rfl,by simpa using hlim⟩
  obtain⟨r,p',q,e1,e2,e3,e4,e5⟩:=Wh W (n:=n) zO n l t ⟨[],0⟩ ⟨[],vb,db⟩ hT hl S0 rfl zQ
  refine⟨t,th,h1,hT,h3,?_⟩
  have hsave:KA n T vb db l had=Um (r,(p',q)):=by
    unfold KA
    rw[h1,U,show(!decide ((0:Int)=0))=false from rfl,A9,if_neg zO,h2,U,e1,U]
  rw[hsave]
  unfold Um
  rcases e5 with⟨w,seg,o1,o2,o3,o4,o5,o6⟩ | ⟨w,o6⟩
  left
  simp only[List.nil_append]at o1
  refine⟨r,seg,q,?_,o3,e2 w,e3,o5,o2,o4,o6⟩
  dsimp only
  rw[w,show(!decide ((0:Int)=0))=false from rfl,A9,o1]
  right
  have hlim2:=e3.lim
  refine⟨{ q.v with taken:=vb.taken },q.d,c0+q.tk.length,?_,o6,rfl,?_⟩
  dsimp only
  rw[w,show(!decide ((110:Int)=0))=true from rfl,BZ,if_neg zO,WT hN q.tk q.v q.d vb.taken e3.vs.dev.blen e3.tak e3.ok.nd (fun p hp=>by
    have:=e3.ok.tr (p,true) (by rw[e3.tak];refine List.mem_append_left _ ?_;rw[List.mem_reverse];exact List.mem_map.2 ⟨p,hp,rfl⟩)
    exact this.2),U]
  have V':=e3.vs
  exact⟨V'.dev,V'.ring,V'.rlen,V'.gen,V'.boot,Nat.le_trans V9.tlen (Nat.le_add_right ..)⟩
end

section
variable {P:Program}{ro:Option Nat}{K:Nat→Prop}{w0:World}{N:Nat}{Q:DF}{D:List Nat}{l l':Tm}{H H' Hs L:List AW}{ops:Array Oper}{items:Io}
variable {tk:Bool}{o:Oper}{t:Nat}{v:Value}{x y z:Operand}
def bL(by_:Nat)(c:Int):Option Unit:=if 0≤c∧(by_:Int)*c≤281474976710656∧c≤9223372036854775807 then some ()else none
theorem r5{α:Type}{e ty:TypeId}{sz by_:Nat}{c:Int}{u:Unit}{zv:Value}{k k':IntKind}(hn:bL by_ c=some u)(enc:α→List Value)(ho:At ops N l o t (.makeSlice ty x y))(hty:P.underlying ty=some (.slice e))(hsz:C8 P e=some sz)(hby:Pa P e=some by_)(hze:EY P e=some zv)(hzs:zv.cells.size=sz)
(hx:Bh l x=some (.int k 0))(hy:Bh l y=some (.int k' c))
(hs:∀v',Ey Hs (AH e sz v' enc ([]:List α)::H))(h:∀v',SL P ro K w0 N ops Hs items Q D ((t,v')::l) (AH e sz v' enc ([]:List α)::H)):SL P ro K w0 N ops Hs (.cons (false,o) items) Q D l H:=by
 unfold bL at hn
 split at hn
 rename_i hc
 obtain⟨h1,h2,h3⟩:=hc
 obtain⟨n,rfl⟩:∃n:Nat,c=(n:Int):=⟨c.toNat,by omega⟩
 refine cw (n:=n) enc ho hty hsz hby hze hzs hx hy (Nat.ble_eq_true_of_le ?_) (Nat.ble_eq_true_of_le zO) hs h
 rw[←Int.natCast_mul]at h2
 omega
 cases hn
theorem CD.cut{α:Type}{enc:α→List Value}{sz b off cap q:Nat}{xs:List α}(hl:∀x,(enc x).length=sz)(hcap:xs.length≤cap)(hc:∀j u,(xs.flatMap enc)[j]? = some u→K b∧w0.cell? ⟨b,off+j,none⟩=some u)(hq:q≤xs.length):CD K w0 enc sz (.slice (some ⟨b,off+q*sz,none⟩) (xs.length-q) (cap-q)) (xs.drop q):=by
 refine⟨hl,.inr ⟨b,off+q*sz,cap-q,by simp,by simp;omega,fun j u hu=>?_⟩⟩
 have hpre:(xs.take q).flatMap enc++(xs.drop q).flatMap enc=xs.flatMap enc:=by
  rw[←List.flatMap_append,List.take_append_drop]
 have hlen:((xs.take q).flatMap enc).length=q*sz:=by rw[IY hl,List.length_take,Nat.min_eq_left hq]
 have:=hc (q*sz+j) u (by
  rw[←hpre,List.getElem?_append_right zO,hlen,Nat.add_sub_cancel_left]
  exact hu)
 rw[Nat.add_assoc]
 exact this
end

section
variable {K:Nat→Prop}{w0:World}{H:List AW}
def G9(n:Nat)(p0:Int):Option (Option (Bx×BH×B1×BI)×Bool):=
 (Li p0).bind fun y1=>
 (y1.1).bind fun d1=>
 (IQ n p0).bind fun y2=>
 (y2.1).bind fun d2=>
 cond ((!decide (y1.2=0))||(!decide (y2.2=0)))
 (
  some (none,false))
 (
  (FS n 1).bind fun y3=>
  (G5 d1 y3 1 7).bind fun y4=>
  (y4.1).bind fun d3=>
  (FS n 1).bind fun y5=>
  (Jl n d2 y5 1 7).bind fun y6=>
  (y6.1).bind fun d4=>
  ret ((decide (y4.2=0))&&(decide (y6.2=0))) fun x1=>
  some (some (d3,d1,d4,d2),x1))
theorem UC{n:Nat}{p0:Int}{r:Option (Bx×BH×B1×BI)×Bool}(h:G9 n p0=some r): zC K w0 12 [vI p0] [] H (fun u M=>(r.1=none∧u=.tuple #[.pointer none,.pointer none,.pointer none,vB r.2]∧M=[])∨(∃(d:Bx×BH×B1×BI) (bn0:Nat) (vn0x1:Value) (mn0x5:Nat) (bn1:Nat) (vn1x4:Value) (mn1x5:Nat) (mn1x6:Nat) (bn2:Nat) (vn2x1:Value) (vn2x5:Value) (bn3:Nat) (vn3x0:Value) (vn3x1:Value) (vn3x2:Value),r.1=some d∧u=.tuple #[vP bn0 0,vP bn1 0,vP bn2 0,vB r.2]∧M=[AP bn0 (.cells #[vP bn1 0,vn0x1,AA d.1.gen,AA d.1.boot,Ar d.1.seals,.map (some mn0x5)] 96),AH 138 2 vn0x1 BA d.1.ring,BQ mn0x5 AA vB d.1.taken,AP bn1 (.cells #[vB d.2.1.off,vB d.2.1.isCut,vI d.2.1.lasts,vI d.2.1.counts,vn1x4,.map (some mn1x5),.map (some mn1x6),Ar d.2.1.rcnt,vS d.2.1.rtag,AA d.2.1.rboots] 130),AH 9 1 vn1x4 eS d.2.1.blocks,BQ mn1x5 AA vS d.2.1.pend,BQ mn1x6 AA vB d.2.1.bad,AP bn2 (.cells #[vP bn3 0,vn2x1,AA d.2.2.1.gen,AA d.2.2.1.boot,Ar d.2.2.1.num,vn2x5] 69),AH 138 2 vn2x1 BA d.2.2.1.ring,AH 4 1 vn2x5 eB d.2.2.1.taken,AP bn3 (.cells #[vn3x0,vn3x1,vn3x2,Ar d.2.2.2.rcnt,vS d.2.2.2.rtag,AA d.2.2.2.rboots,vI d.2.2.2.left,vB d.2.2.2.off] 132),AH 9 1 vn3x0 eS d.2.2.2.blk,AH 9 1 vn3x1 eS d.2.2.2.pnd,AH 4 1 vn3x2 eB d.2.2.2.bads])):=by
 unfold G9 at h
 refine Ua.enter Tryz.func12 rfl rfl ?_
 refine Z (O E (O E (O E (O E (V (Z ?_))))))
 refine AC h fun y1 hy1 h=>?_
 refine AC h fun d1 hd1 h=>?_
 refine J E ?_
 refine Bg (vs:=[_]) (Hin:=[]) (Hr:=_) E E ⟨E,zT⟩ ui E E (aQ hy1) ?_
 rintro _ _ (⟨hn,-,-⟩ | ⟨d_,b1,v1,m1,m2,hn,rfl,rfl⟩)
 rw[hd1]at hn;cases hn
 obtain rfl:d1=d_:=zI (hd1.symm.trans hn)
 refine⟨trivial,?_⟩
 refine J E (Am E E E (Am E E E (O E (O E (V (Z ?_))))))
 refine AC h fun y2 hy2 h=>?_
 refine AC h fun d2 hd2 h=>?_
 refine J E ?_
 refine Bg (vs:=[_]) (Hin:=[]) (Hr:=_::_::_::_::_) E E ⟨E,zT⟩ tH E E (cp hy2) ?_
 rintro _ _ (⟨hn,-,-⟩ | ⟨d_,b2,v2,v3,v4,hn,rfl,rfl⟩)
 rw[hd2]at hn;cases hn
 obtain rfl:d2=d_:=zI (hd2.symm.trans hn)
 refine⟨trivial,?_⟩
 refine J E (Am E E E (Am E E E (O E (O E (V (AE (Z (J E (Y E Bb (J E ?_))))))))))
 refine C9 (c := !decide (y2.2=0)) 26 3 29 E (fun hb k=>?_) (fun hb k=>?_) ?_
 refine AB E (AB E (Ae E E E ?_))
 exact k.mono tL
 refine J E (Y E Bb (Ae E E E ?_))
 exact k.mono tL
 refine V ?_
 refine AT h E (fun hc1 h=>?_) fun hc1 h=>?_
 refine Z (O E (O E (O E (O E (V (AL (AZ ?_)))))))
 obtain rfl:=zI h
 exact AX (su E E E E E) (AY (M:=[]) (.inl ⟨E,E,E⟩) fun _ hw=>Bc.pick (H:=[_,_,_,_,_,_,_,_]) hw [] 8 E)
 refine AI (AG (Z ?_))
 refine AC h fun y3 hy3 h=>?_
 refine AC h fun y4 hy4 h=>?_
 refine AC h fun d3 hd3 h=>?_
 refine J E ?_
 refine Bg (vs:=[_]) (Hin:=[]) (Hr:=_::_::_::_::_::_::_::_::_) E E ⟨E,zT⟩ pE E E (UD hy3) ?_
 rintro v5 _ ⟨_,rfl,rfl⟩
 refine⟨trivial,?_⟩
 refine SL.pick [0,5,6,7,8,1,2,3,4] 9 ?_
 refine Bg (vs:=[_,_,AA 1,AA 7]) (Hin:=[_,_,_,_,_]) (Hr:=_::_::_::_::_) E E ⟨E,E,E,E,zT⟩ tN E E (CV (B:=[_]) (Hin:=[_,_,_,_]) fun K' w1 hk hB=>dD hy4 (B7 (e:=138) (v:=v5) zV (hB _ zS))) ?_
 rintro _ _ ⟨_,rfl,(⟨hn,-,-⟩ | ⟨d_,b3,v6,m3,hn,rfl,rfl⟩)⟩
 rw[hd3]at hn;cases hn
 obtain rfl:d3=d_:=zI (hd3.symm.trans hn)
 refine⟨trivial,?_⟩
 refine J E (Am E E E (Am E E E (O E (O E (V (Z ?_))))))
 refine AC h fun y5 hy5 h=>?_
 refine AC h fun y6 hy6 h=>?_
 refine AC h fun d4 hd4 h=>?_
 refine J E ?_
 refine Bg (vs:=[_]) (Hin:=[]) (Hr:=_::_::_::_::_::_::_::_::_::_::_::_::_) E E ⟨E,zT⟩ pE E E (UD hy5) ?_
 rintro v7 _ ⟨_,rfl,rfl⟩
 refine⟨trivial,?_⟩
 refine SL.pick [9,10,11,12,0,1,2,3,4,5,6,7,8] 13 ?_
 refine Bg (vs:=[_,_,AA 1,AA 7]) (Hin:=[_,_,_,_,_]) (Hr:=_::_::_::_::_::_::_::_::_) E E ⟨E,E,E,E,zT⟩ uo E E (cb hy6) ?_
 rintro _ _ (⟨hn,-,-⟩ | ⟨d_,b4,v8,v9,hn,rfl,rfl⟩)
 rw[hd4]at hn;cases hn
 obtain rfl:d4=d_:=zI (hd4.symm.trans hn)
 refine⟨trivial,?_⟩
 refine J E (Am E E E (Am E E E (O E (O E (V (Z ?_))))))
 obtain⟨x1,ex1,h⟩:=Bp h
 refine J E (J E (J E (J E (Y E CE (J E ?_)))))
 refine C5 (c:=decide (y6.2=0)) 47 3 50 E (fun hb k=>?_) (fun hb k=>?_) ?_
 refine J E (Y E CE (Ae E E E ?_))
 exact k.mono tL
 refine AB E (AB E (Ae E E E ?_))
 exact k.mono tL
 refine O E (O E (O E ?_))
 refine An (u:=vB x1) E E (congrArg vB ex1) ?_
 refine V (AL ?_)
 obtain rfl:=zI h
 exact AX (su E E E E E) (AY (M:=[_,_,_,_,_,_,_,_,_,_,_,_,_,_]) (.inr ⟨_,b3,v6,m3,b1,v1,m1,m2,b4,v8,v9,b2,v2,v3,v4,E,E,E⟩) fun _ hw=>Bc.pick (H:=[_,_,_,_,_,_,_,_,_,_,_,_,_,_,_]) hw [8,9,10,11,12,13,14,0,1,2,3,4,5,6] 15 E)
def Ke(n:Nat)(T:List UInt32):Option Bool:=
 (G9 n 12).bind fun y1=>
 (y1.1).bind fun d1=>
 (KA n T d1.1 d1.2.1 [(⟨1,0,0,[]⟩:AM),(⟨2,0,0,[]⟩:AM),(⟨3,0,0,[]⟩:AM),(⟨4,0,0,[]⟩:AM),(⟨5,0,0,[]⟩:AM),(⟨6,8,0,[]⟩:AM)] []).bind fun y2=>
 (HA y2.1).bind fun y3=>
 (Rm n T y2.2.2.1 y2.2.2.2 y3).bind fun y4=>
 (FQ (((y1.2&&(decide (y2.2.1=0)))&&(decide (y4.2.2=0)))&&(decide ((y2.1.length:Int)=4))) ((Ig n [(⟨1,0,0,[]⟩:AM),(⟨2,0,0,[]⟩:AM),(⟨3,0,0,[]⟩:AM),(⟨4,0,0,[]⟩:AM),(⟨5,0,0,[]⟩:AM),(⟨6,8,0,[]⟩:AM)] y4.1).bind fun y5=>some (y5))).bind fun y6=>
 (FQ y6 ((Im n y2.1 y4.2.1).bind fun y7=>some (y7))).bind fun y8=>
 (FQ y8 ((Pq y2.2.2.1 y2.2.2.2).bind fun y9=>some (decide (y9=4)))).bind fun y10=>
 some y10
theorem YT{n:Nat}{T:List UInt32}{r:Bool}(h:Ke n T=some r)(hS:Ho K w0 T):zC K w0 11 [] [] H (fun u M=>u=vB r∧M=[]):=by
 unfold Ke at h
 refine Ua.enter Tryz.func11 rfl rfl ?_
 refine Z (O E (V (Z ?_)))
 refine AC h fun y1 hy1 h=>?_
 refine AC h fun d1 hd1 h=>?_
 refine Bg (vs:=[_]) (Hin:=[]) (Hr:=_) E E ⟨E,zT⟩ nW E E (UC hy1) ?_
 rintro _ _ (⟨hn,-,-⟩ | ⟨d_,b1,v1,m1,b2,v2,m2,m3,b3,v3,v4,b4,v5,v6,v7,hn,rfl,rfl⟩)
 rw[hd1]at hn;cases hn
 obtain rfl:d1=d_:=zI (hd1.symm.trans hn)
 refine⟨trivial,?_⟩
 refine J E (Am E E E (Am E E E (Am E E E (Am E E E (O E (O E (O E ?_)))))))
 refine O E (V (Z (BJ [_] E Sy TG EN ⟨E,zT⟩ E (BJ [_] E Sy TG EN ⟨E,zT⟩ E (BJ [_] E Sy TG EN ⟨E,zT⟩ E (BJ [_] E Sy TG EN ⟨E,zT⟩ E (BJ [_] E Sy TG EN ⟨E,zT⟩ E (BJ [_,_] E Sy TG EN ⟨E,E,zT⟩ E ?_))))))))
 refine Bz [_,_,_,_,_,_] rfl Bt B4 EN ⟨rfl,rfl,rfl,rfl,rfl,rfl,trivial⟩ rfl rfl rfl (by first | (simp[Value.cells];done) | (intro v hv;simp only[List.mem_cons,List.not_mem_nil,or_false]at hv;rcases hv with rfl | rfl | rfl | rfl | rfl | rfl<;>rfl)) rfl rfl zU fun b5=>?_
 refine B2 AJ 4 ([(⟨1,0,0,[]⟩:AM),(⟨2,0,0,[]⟩:AM),(⟨3,0,0,[]⟩:AM),(⟨4,0,0,[]⟩:AM),(⟨5,0,0,[]⟩:AM),(⟨6,8,0,[]⟩:AM)]:List AM) E zV E ?_
 refine O E (V (Z ?_))
 refine AC h fun y2 hy2 h=>?_
 refine J E (J E ?_)
 refine Bg (vs:=[_,_,_]) (Hin:=[_,_,_,_,_,_,_,_]) (Hr:=_::_::_::_::_::_::_::_) E E ⟨E,E,E,zT⟩ pT E E (CV (B:=[_]) (Hin:=[_,_,_,_,_,_,_]) fun K' w1 hk hB=>kI hy2 (hS.keeps hk) (B7 (e:=79) (v:=.slice (some ⟨b5,0,none⟩) 6 6) zV (hB _ zS)) (CD.nil zV)) ?_
 rintro _ _ ⟨_,rfl,v8,rfl,rfl⟩
 refine⟨trivial,?_⟩
 refine J E (Am E E E (Am E E E (O E (O E (V (Z ?_))))))
 refine AC h fun y3 hy3 h=>?_
 refine AC h fun y4 hy4 h=>?_
 refine J E (J E (SL.pick [1,0] 2 ?_))
 refine Bg (vs:=[_]) (Hin:=[_]) (Hr:=_::_::_::_::_::_::_::_::_::_::_::_::_::_::_::_) E E ⟨E,zT⟩ ng E E (CV (B:=[_]) (Hin:=[]) fun K' w1 hk hB=>UK hy3 (B7 (e:=72) (v:=v8) zV (hB _ zS))) ?_
 rintro _ _ ⟨_,rfl,rfl,rfl⟩
 refine⟨trivial,?_⟩
 refine SL.pick [2,3,4,5,6,7,8,0,1] 9 (Bn 7 pP ((kL hy4 hS :)) E ?_)
 rintro _ _ ⟨v9,v10,rfl,rfl⟩
 refine J E (Am E E E (Am E E E (Am E E E (O E (O E (O E (V (Z ?_))))))))
 refine AC h fun y6 hy6 h=>?_
 refine AC h fun y8 hy8 h=>?_
 refine AC h fun y10 hy10 h=>?_
 refine J E (J E ?_)
 refine C5 (c:=decide (y2.2.1=0)) 39 3 42 E (fun hb k=>?_) (fun hb k=>?_) ?_
 refine J E (Y E CE (Ae E E E ?_))
 exact k.mono tL
 refine AB E (AB E (Ae E E E ?_))
 exact k.mono tL
 refine J E ?_
 refine C5 (c:=decide (y4.2.2=0)) 43 3 46 E (fun hb k=>?_) (fun hb k=>?_) ?_
 refine J E (Y E CE (Ae E E E ?_))
 exact k.mono tL
 refine AB E (AB E (Ae E E E ?_))
 exact k.mono tL
 refine J E ?_
 refine C5 (c:=decide ((y2.1.length:Int)=4)) 47 4 51 E (fun hb k=>?_) (fun hb k=>?_) ?_
 refine J E (Dg 9 E FD E E (Y E CE (Ae E E E ?_)))
 exact k.mono tL
 refine AB E (AB E (AB E (Ae E E E ?_)))
 exact k.mono tL
 refine J E ?_
 refine D9 52 4 56 hy6 E (fun hb hg4 k=>?_) (fun hb k=>?_) ?_
 obtain⟨y5,hy5,hg4⟩:=bnd hg4
 obtain rfl:=zI hg4
 refine J E (J E (SL.pick [10,0,1,2,3,4,5,6,7,8,9] 11 ?_))
 refine Bg (vs:=[_,_]) (Hin:=[_,_]) (Hr:=_::_::_::_::_::_::_::_::_::_::_::_::_::_::_::_::_) E E ⟨E,E,zT⟩ pu E E (CV (B:=[_,_]) (Hin:=[]) fun K' w1 hk hB=>UB hy5 (B7 (e:=79) (v:=.slice (some ⟨b5,0,none⟩) 6 6) zV (hB _ zS)) (B7 (e:=79) (v:=v9) zV (hB _ zS))) ?_
 rintro _ _ ⟨_,rfl,rfl,rfl⟩
 refine⟨trivial,?_⟩
 refine Ae E E E ?_
 exact SL.mono (SL.heap k fun _ hw=>Bc.pick (H:=[_,_,_,_,_,_,_,_,_,_,_,_,_,_,_,_,_,_]) hw [1,2,3,4,5,6,7,8,9,10,0,11,12,13,14,15,16,17] 18 E) tL
 refine AB E (AB E (AB E (Ae E E E ?_)))
 exact k.mono tL
 refine J E ?_
 refine D9 57 4 61 hy8 E (fun hb hg5 k=>?_) (fun hb k=>?_) ?_
 obtain⟨y7,hy7,hg5⟩:=bnd hg5
 obtain rfl:=zI hg5
 refine J E (J E (SL.pick [9,1,0,2,3,4,5,6,7,8] 10 ?_))
 refine Bg (vs:=[_,_]) (Hin:=[_,_]) (Hr:=_::_::_::_::_::_::_::_::_::_::_::_::_::_::_::_::_) E E ⟨E,E,zT⟩ jI E E (CV (B:=[_,_]) (Hin:=[]) fun K' w1 hk hB=>QU hy7 (B7 (e:=72) (v:=v8) zV (hB _ zS)) (B7 (e:=72) (v:=v10) zV (hB _ zS))) ?_
 rintro _ _ ⟨_,rfl,rfl,rfl⟩
 refine⟨trivial,?_⟩
 refine Ae E E E ?_
 exact SL.mono (SL.heap k fun _ hw=>Bc.pick (H:=[_,_,_,_,_,_,_,_,_,_,_,_,_,_,_,_,_,_]) hw [2,1,3,4,5,6,7,8,9,0,10,11,12,13,14,15,16,17] 18 E) tL
 refine AB E (AB E (AB E (Ae E E E ?_)))
 exact k.mono tL
 refine J E ?_
 refine D9 62 4 66 hy10 E (fun hb hg6 k=>?_) (fun hb k=>?_) ?_
 obtain⟨y9,hy9,hg6⟩:=bnd hg6
 obtain rfl:=zI hg6
 refine J E (SL.pick [2,3,4,5,6,7,8,0,1] 9 (AQ 7 vU (iD hy9) E ?_))
 refine Y E (Wp (b:=4)) ?_
 refine Ae E E E ?_
 exact SL.mono (SL.heap k fun _ hw=>Bc.pick (H:=[_,_,_,_,_,_,_,_,_,_,_,_,_,_,_,_,_,_]) hw [7,8,0,1,2,3,4,5,6,9,10,11,12,13,14,15,16,17] 18 E) tL
 refine AB E (AB E (AB E (Ae E E E ?_)))
 exact k.mono tL
 refine O E (V (AL ?_))
 obtain rfl:=zI h
 exact Ab [] 18 E E E
end

section
variable {K:Nat→Prop}{w0:World}{H:List AW}
end

section
theorem jg{N n:Nat}(h4:4≤N)(hN:N≤4096)(hn:4200≤n):∃w c,G9 n (N:Int)=some (some (v0,d0 N,w,c),true):=by
 obtain⟨r,hr,hrl⟩:=tX h4 hN (show N<n by omega)
 obtain⟨b1,hb1⟩:∃w,Jl n r (Fp 1) 1 7=some (some w,0):=by
  unfold Jl
  have hm:VT 1 (r.blk.length:Int) false=some (List.replicate N false):=by
   unfold VT
   rw[hrl,if_pos ⟨by omega,by omega,by omega⟩]
   simp
  have h0:Aq (List.replicate N false) 0=some false:=by
   have:=CK (l:=List.replicate N false) (i:=0) (k:=0) false rfl zQ
   rw[this]
   congr 1
   cases N<;>rfl
  have h1:FR (List.replicate N false) 0 true=some ((List.replicate N false).set 0 true):=GI rfl zQ
  have h2:∃x,Aq ((List.replicate N false).set 0 true) 1=some x:=⟨_,CK (k:=1) false rfl zQ⟩
  obtain⟨x,h2⟩:=h2
  have h3:FR ((List.replicate N false).set 0 true) 1 true=some (((List.replicate N false).set 0 true).set 1 true):=GI rfl zQ
  rw[X3 (Fp 1) 1 (by rw[Dy];omega) zO,Wv zO zO,U,hm,U,h0,U,h1,U,h2,U,h3,U]
  exact⟨_,rfl⟩
 refine⟨b1,r,?_⟩
 have hv:G5 (d0 N) (Fp 1) 1 7=some (some v0,0):=by
  unfold G5 Z3
  rw[if_pos (by rw[Dy];omega),U,Wv zO zO,CG (by simp[Dy]) (by simp[Dy]),U]
  rfl
 have hring:FS n 1=some (Fp 1):=iC 1 zO zO
 unfold G9
 rw[kK zO zO,U,U,hr,U,U]
 show(FS n 1).bind _=_
 rw[hring,U]
 show(G5 (d0 N) (Fp 1) 1 7).bind _=_
 rw[hv,U,U,U,hb1,U,U]
 rfl
theorem aB{n:Nat}(l:List AM)(hn:l.length<n)(hb:l.length≤1000000):Ig n l l=some true:=by
 unfold Ig
 rw[show(!decide ((l.length:Int)=(l.length:Int)))=false by simp,A9]
 unfold Kx
 refine Dw (fun i=>(i:Int)) l.length (fun i hi k=>?_) (fun k=>?_) hn
 unfold HP
 have h1:Aq l (i:Int)=some l[i]:=by rw[ET];exact List.getElem?_eq_getElem hi
 rw[zt zO,BZ,h1,U,U,A7,BC zO zO]
 simp
 unfold HP
 rw[zf zO,A9]
 rfl
theorem Si{n:Nat}(l:List A4)(hn:l.length<n)(hb:l.length≤1000000):Im n l l=some true:=by
 unfold Im
 rw[show(!decide ((l.length:Int)=(l.length:Int)))=false by simp,A9]
 unfold LA
 refine Dw (fun i=>(i:Int)) l.length (fun i hi k=>?_) (fun k=>?_) hn
 unfold Hc
 have h1:Aq l (i:Int)=some l[i]:=by rw[ET];exact List.getElem?_eq_getElem hi
 rw[zt zO,BZ,h1,U,U,A7,BC zO zO]
 simp
 unfold Hc
 rw[zf zO,A9]
 rfl
theorem sK(l:List AM):K5 l=some (l.take 24):=by
 unfold K5
 have h0:Cr l 0 (min (l.length:Int) 24)=some ((l.drop 0).take (min l.length 24-0)):=Dm rfl zO zO zO
 rw[h0,U]
 simp only[List.drop_zero,Nat.sub_zero]
 congr 1
 rcases Nat.le_total l.length 24 with h | h
 rw[Nat.min_eq_left h,List.take_of_length_le (Nat.le_refl _),List.take_of_length_le h]
 rw[Nat.min_eq_right h]
theorem oc(l:List AM):(l.take 24).length≤24:=by simp;omega
theorem nY(N:Nat):SD N v0:=⟨List.nodup_nil,fun e he=>by simp[v0]at he⟩
theorem jB{n N c0:Nat}{T:List UInt32}{R:List BW}{g:UInt32}{vb:Bx}{db:BH}{q:QR}{l:List AM}{t:Bd}{out:List A4}{r:Ad}(hn:2110≤n)(hl:Cp l=true)(hb:KY n l=some (t,0))(hT:Tr n l t)(hR:Qg n t out r)
(S:fe N c0 R g vb db q)(hrd:∀s∈out,Rd T R N q.v q.d s)(ho:out.length=Nd n t):HA out=some r∧Rm n T q.v q.d r=some (l,out,0):=by
 have hpg:=RR hT (IV hl)
 have hl1:=IV hl
 constructor
 obtain⟨a,s,rfl⟩:=hR.lastE
 simp only[List.length_append,List.length_singleton]at ho
 exact fE zO
 exact og hn hl hb hT hR (fun s hs=>⟨((hrd s hs).ok S.vs).1,((hrd s hs).ok S.vs).2.1⟩) zO
theorem fS{T:List UInt32}{th:List (JF×Ad)}(hth:∀k:JF,DN th k=none):∀(seg:List A4) (q q':QR),N9 (NX T th) q seg q'→q'.tk.length=q.tk.length+seg.length
 | [],q,q',h=>by rw[show q=q' from h];rfl
 | s::seg,q,q',h=>by
  obtain⟨q1,h1,h2⟩:=h
  have ih:=fS hth seg q1 q' h2
  unfold NX at h1
  obtain⟨k,hk,h1⟩:=bnd h1
  rw[hth k,show(none:Option Ad).isSome=false from rfl,A9]at h1
  obtain⟨y,hy,h1⟩:=bnd h1
  cases he:decide (y.2.1=0)with
  | true=>
   rw[he,BZ]at h1
   obtain⟨l,hl,h1⟩:=bnd h1
   have h3:=zI h1
   have hq:q1=⟨l,y.2.2.1,y.2.2.2⟩:=(congrArg Prod.snd h3).symm
   unfold Ci at hl
   split at hl
   have hl:=zI hl
   rw[ih,hq,←hl]
   simp only[List.length_append,List.length_cons,List.length_nil]
   omega
   cases hl
  | false=>
   rw[he,A9]at h1
   have h3:=congrArg (fun z=>z.1.2) (zI h1)
   simp only at h3
   rw[h3]at he
   simp at he
abbrev Uf:List AM:=[⟨1,0,0,[]⟩,⟨2,0,0,[]⟩,⟨3,0,0,[]⟩,⟨4,0,0,[]⟩,⟨5,0,0,[]⟩,⟨6,8,0,[]⟩]
abbrev iL:Bd:=.mk 0 0 4 [] [.mk 0 0 0 [⟨1,0,0,[]⟩,⟨2,0,0,[]⟩,⟨3,0,0,[]⟩,⟨4,0,0,[]⟩,⟨5,0,0,[]⟩] [],.mk 8 0 0 [⟨6,8,0,[]⟩] []]
theorem bN:Cp Uf=true:=by decide +kernel
end

section
theorem mN{n:Nat}{T:List UInt32}{v:Bx}{d:BH}{l:List AM}{had:List A4}(hn:1100≤n)(hl:l.length≤1000)(h:Cp l=false):KA n T v d l had=some ([],80,v,d):=by
 unfold KA
 rw[Tt zO zO h,U]
 rfl
end

section
theorem AR.uniq{c c':Be}{l:List AM}{L L':Nat}(hl:l≠[])(A:AR c l L)(A':AR c' l L'):c=c'∧L=L':=by
 have key:∀ {c c':Be} {L L':Nat},AR c l L→AR c' l L'→¬L<L':=by
  intro c c' L L' A A' h
  obtain⟨r,hr,s,hs,hne⟩:=A'.two zO
  refine hne ?_
  have hd:∀ {a b:Nat},a / 2^L=b / 2^L→a / 2^(L'-1)=b / 2^(L'-1):=by
   intro a b e
   have:2^(L'-1)=2^L*2^(L'-1-L):=by rw[←Nat.pow_add];congr 1;omega
   rw[this,←Nat.div_div_eq_div_mul,←Nat.div_div_eq_div_mul,e]
  unfold qd
  rw[hd ((A.inn r hr).1.trans (A.inn s hs).1.symm),hd ((A.inn r hr).2.trans (A.inn s hs).2.symm)]
 have hL:L=L':=by
  have h1:=key A A'
  have h2:=key A' A
  omega
 subst hL
 refine⟨?_,rfl⟩
 obtain⟨r,hr⟩:=List.exists_mem_of_ne_nil l hl
 have e1:=(A.inn r hr).1.symm.trans (A'.inn r hr).1
 have e2:=(A.inn r hr).2.symm.trans (A'.inn r hr).2
 have m:∀ {a b P:Nat},a%P=0→b%P=0→a / P=b / P→a=b:=by
  intro a b P h1 h2 h3
  have g1:=Nat.div_add_mod a P
  have g2:=Nat.div_add_mod b P
  rw[h1,h3]at g1
  rw[h2]at g2
  omega
 have x:=UInt32.toNat_inj.1 (m A.cx A'.cx e1)
 have y:=UInt32.toNat_inj.1 (m A.cy A'.cy e2)
 have z:=A.lev.trans A'.lev.symm
 cases c
 cases c'
 simp only at x y z
 rw[x,y,z]
theorem W2{R R':List AM→Bd→Prop}(h:∀x a b,R x a→R' x b→a=b):∀ {xs:List (List AM)} {as' bs':List Bd},SW R xs as'→SW R' xs bs'→as'=bs'
 | [],_,_,.nil,.nil=>rfl
 | _::_,_,_,.cons h1 h2,.cons h3 h4=>by rw[h _ _ _ h1 h3,W2 h h2 h4]
theorem Tr.uniq:∀ {f f':Nat} {l:List AM} {t t':Bd} ,Tr f l t→Tr f' l t'→t=t'
 | 0,_,_,_,_,h,_=>h.elim
 | _+1,0,_,_,_,_,h=>h.elim
 | f+1,f'+1,l,t,t',h,h'=>by
  rcases h with⟨rfl,rfl⟩ | ⟨hne,c,L,A,h⟩
  rcases h' with⟨_,rfl⟩ | ⟨hne,_⟩
  rfl
  exact absurd rfl hne
  rcases h' with⟨h0,_⟩ | ⟨_,c',L',A',h'⟩
  exact absurd h0 hne
  obtain⟨rfl,rfl⟩:=A.uniq hne A'
  rcases h with⟨h1,rfl⟩ | ⟨h1,h2,ks,rfl,hk⟩
  rcases h' with⟨_,rfl⟩ | ⟨h3,h4,_⟩
  rfl
  omega
  rcases h' with⟨h3,_⟩ | ⟨_,_,ks',rfl,hk'⟩
  omega
  rw[W2 (R:=Tr f) (R':=Tr f') (fun x a b ha hb=>Tr.uniq ha hb) hk hk']
abbrev wN(s:A4):Ad:=⟨s.page,s.tag⟩
structure wV(xs:List BP)(seg:List A4)(rows:List AM)(roots:List Ad):Prop where
 txt:seg.map (·.txt)=xs.map Cm
 ok:∀x∈xs,CN x=true
 rws:(xs.flatMap (·.rows)).Perm rows
 rfs:(xs.flatMap Wf++roots).Perm (seg.map wN)
end

section
variable {K:Nat→Prop}{w0:World}{H:List AW}
def RK(q:Be):List AM→List AM→Option (List AM)
 | [],acc=>some acc
 | r::l,acc=>(FW q r.x r.y).bind fun b=>cond b ((Ci 32 acc [r]).bind fun a=>RK q l a) (RK q l acc)
def RS(rec_:List AM→Option Bd)(c:Be)(l:List AM):Nat→Nat→List Bd→Option (List Bd)
 | 0,_,acc=>some acc
 | m+1,i,acc=>(HD c (i:Int)).bind fun q=>(RK q.1 l []).bind fun p=>cond (decide (0<(p.length:Int))) ((rec_ p).bind fun n=>(Ci 64 acc [n]).bind fun a=>RS rec_ c l m (i+1) a) (RS rec_ c l m (i+1) acc)
def Px(n:Nat):Nat→List AM→Option Bd
 | 0,_=>none
 | f+1,l=>
  if 1048576<l.length then none else cond (decide ((l.length:Int)=0)) (some (.mk 0 0 0 [] []))
   ((Hw n l).bind fun c=>cond (decide ((l.length:Int)≤4)||decide (c.lev=0)) ((bL 32 (l.length:Int)).bind fun _=>(Ci 32 [] l).bind fun rs=>some (.mk c.x c.y c.lev rs []))
    ((RS (Px n f) c l 4 0 []).bind fun ks=>some (.mk c.x c.y c.lev [] ks)))
theorem bZ(n:Nat):∀(f:Nat) {K:Nat→Prop} {w0:World} {H:List AW} {v:Value} {l:List AM} {t:Bd},Px n f l=some t→CD K w0 AJ 4 v l→
  zC K w0 64 [v] [] H (fun u M=>∃(nv:E5) (L:Ga),u=.agg (B8 nv).toArray∧Ml L nv t∧M=[Fi L])
 | 0,K,w0,H,v,l,t,h,_=>by cases h
 | f+1,K,w0,H,v,l,t,h,hs=>by
  have h:(if 1048576<l.length then none else cond (decide ((l.length:Int)=0)) (some (.mk 0 0 0 [] []))
   ((Hw n l).bind fun c=>cond (decide ((l.length:Int)≤4)||decide (c.lev=0)) ((bL 32 (l.length:Int)).bind fun _=>(Ci 32 [] l).bind fun rs=>some (.mk c.x c.y c.lev rs []))
    ((RS (Px n f) c l 4 0 []).bind fun ks=>some (.mk c.x c.y c.lev [] ks))))=some t:=h
  by_cases hbig:1048576<l.length
  rw[if_pos hbig]at h;cases h
  rw[if_neg hbig]at h
  refine Ua.enter Tryz.func64 rfl rfl ?_
  refine Z ?_
  refine Ag E JA zU fun b2=>?_
  refine V (AE (Z (J E (B3 hs E Bt E (Y E CE (V ?_))))))
  refine As E (fun hc1=>?_) (fun hc1=>?_)
  rw[hc1,BZ]at h
  obtain rfl:=zI h
  refine Z (BJ [] E cM cW JA zT E (Ak 0 E E E E H7 E E E zT (V (AL (AZ (Xu ?_))))))
  exact AX (ES E (BB 1 [AA 0,AA 0,vI 0,zN,zN] Lc E E E E)) (AY (M:=[_]) ⟨⟨0,0,0,⟨none,0,0⟩,⟨none,0,0⟩⟩,[],E,.mk (R8.nil fun _=>rfl) (R8.nil fun _=>rfl) (kvs:=[]) E (fun i a b ha=>by simp at ha),E⟩ fun _ hw=>Bc.pick (H:=[_,_]) hw [0] 2 E)
  rw[hc1,A9]at h
  refine AC h fun c hc h=>?_
  refine AI (AG (Z (J E (AQ 0 ur (Xh hc hs) E (BJ [_] E cM cW JA ⟨E,zT⟩ E ?_)))))
  refine Ag E JA zU fun b3=>?_
  refine Ak 0 E E E E H7 E E E zT (V ?_)
  try dsimp only
  refine AE (Z (J E (B3 hs E Bt E (Y E IR (J E ?_)))))
  refine C9 (c:=decide (c.lev=0)) 20 5 25 E (fun hb k=>?_) (fun hb k=>?_) ?_
  refine AB E (AB E (AB E (AB E (Ae E E E ?_))))
  exact k.mono tL
  refine AD E Oj (AD E Ef (AF 0 D6 E (Y E CE (Ae E E E ?_))))
  exact k.mono tL
  refine V ?_
  refine As E (fun hc2=>?_) (fun hc2=>?_)
  rw[hc2,BZ]at h
  refine AC h fun u0 hu0 h=>?_
  refine AC h fun rs hrs h=>?_
  obtain rfl:=zI h
  refine Z (J E (B3 hs E Bt E ?_))
  refine r5 hu0 AJ E Bt B4 PM EN E E E zU fun v0=>?_
  refine J E ?_
  refine VA 0 hrs hs (sz:=4) (enc:=AJ) zV E Bt B4 PM EN E zD E E E (by simp[AJ,Value.oneCell']) zU fun v1=>?_
  refine AD E Td ?_
  refine Bq 0 E fun hv1 ho1=>?_
  refine Dk 1 E E E E LS hv1 ho1 E zT (V (Z (Ac [AA c.x,AA c.y,vI c.lev,v1,zN] E Lc E E (Aa 1 E) ?_)))
  refine Qi 0 E fun s0 hs0=>?_
  subst hs0
  refine Ak 2 E E E E H7 E (List.all_eq_true.2 (Hd ⟨c.x,c.y,c.lev,s0,⟨none,0,0⟩⟩)) E zT (V (AL (AZ ?_)))
  refine Rb zV fun L hL=>?_
  exact AX (ES E (BB 2 [AA c.x,AA c.y,vI c.lev,s0.val,zN] Lc E E E E)) (AY (M:=[_]) ⟨⟨c.x,c.y,c.lev,s0,⟨none,0,0⟩⟩,L,E,.mk hL (R8.nil fun _=>rfl) (kvs:=[]) E (fun i a b ha=>by simp at ha),E⟩ fun _ hw=>Bc.pick (H:=[_,_,_]) hw [0] 3 E)
  rw[hc2,A9]at h
  refine AC h fun ks hks h=>?_
  obtain rfl:=zI h
  refine AI (AG (AE (Z (O E (V (M5 57 5 B8 (ky (AN ?_))))))))
  refine SX.mono (A6 (α:=Nat×List E5×List Bd×Value×Ga) (fun x=>x.1≤4∧RS (Px n f) c l (4-x.1) x.1 x.2.2.1=some ks∧Tq x.2.2.2.2 x.2.1 x.2.2.1) (fun x=>[(0,v),(2,vP b2 0),(3,vP b3 0),(4,vI x.1)])
    (fun x=>Fi x.2.2.2.2::AH 57 5 x.2.2.2.1 B8 x.2.1::AP b3 (.cells #[AA c.x,AA c.y,vI c.lev,zN,x.2.2.2.1] 57)::AP b2 (.cells #[AA 0,AA 0,vI 0,zN,zN] 57)::H)
    (fun x=>4-x.1) (fun x D hp=>?_) (0,[],[],zN,[]) ⟨Nat.zero_le _,hks,rfl,fun i a b ha=>by simp at ha⟩) tL
  obtain⟨i,gs,ks',kv,L⟩:=x
  obtain⟨hi,hkf,hkz⟩:=hp
  dsimp only at hi hkf hkz ⊢
  refine AE (Z (J E (Y E Aw (V ?_))))
  refine As E (fun hc4=>?_) (fun hc4=>?_)
  have hlt:i<4:=by have:=of_decide_eq_true hc4;omega
  clear hc4
  rw[show 4-i=(4-(i+1))+1 by omega]at hkf
  obtain⟨⟨q,eq⟩,hq,hkf⟩:=bnd hkf
  obtain⟨p,hpt,hkf⟩:=bnd hkf
  dsimp only at hpt
  refine AI (AG (AE (AN (Z (AD rfl Oj (Ac [AA c.x,AA c.y,vI c.lev] rfl Es rfl rfl (Ce 2 rfl (by rintro(_ | _ | _ | j) u hj<;>first | exact hj | exact absurd hj zS)) (J rfl (AQ 0 uS (Wm hq :) rfl (J rfl (Am rfl rfl rfl (Am rfl rfl rfl ?_)))))))))))
  refine Ag E KN zU fun b5=>?_
  refine Ak 0 E E E E OZ E E E zT (O E (V (Z (O E (V (M5 79 4 AJ (AE (Z (O E (V (AN ?_)))))))))))
  refine SX.mono (A6 (α:=Nat×List AM×Value) (fun x=>x.1≤l.length∧RK q (l.drop x.1) x.2.1=some p) (fun x=>[(0,v),(2,vP b2 0),(3,vP b3 0),(4,vI i),(5,vP b5 0),(7,x.2.2),(8,vI x.1)])
   (fun x=>AH 79 4 x.2.2 AJ x.2.1::AP b5 (.cells #[AA q.x,AA q.y,vI q.lev] 54)::Fi L::AH 57 5 kv B8 gs::AP b3 (.cells #[AA c.x,AA c.y,vI c.lev,zN,kv] 57)::AP b2 (.cells #[AA 0,AA 0,vI 0,zN,zN] 57)::H)
   (fun x=>l.length-x.1) (fun x D hp=>?_) (0,[],zN) ⟨Nat.zero_le _,hpt⟩) tL
  obtain⟨k,acc,vp⟩:=x
  obtain⟨hk,hp⟩:=hp
  dsimp only at hk hp ⊢
  refine AE (Z (J E (J E (B3 hs E Bt E (Y E Aw (V ?_))))))
  refine As E (fun hc5=>?_) (fun hc5=>?_)
  have hkl:k<l.length:=by have:=of_decide_eq_true hc5;omega
  have hr:Aq l (k:Int)=some l[k]:=by simp[Aq,hkl]
  rw[List.drop_eq_getElem_cons hkl]at hp
  generalize l[k]=r at hr hp
  obtain⟨b,hb,hp⟩:=bnd hp
  refine AI (AG (AE (AN (AE (Ai CY [1] (Bm [(true,0),(true,1),(true,2),(true,3),(true,4),(true,5),(true,6),(true,7),(true,8),(true,9),(true,10),(false,11)] (.last 12 .nil)) zK (Ac [AA q.x,AA q.y,vI q.lev] E Es E E (Aa 0 E) (J E (J E ?_))))))))
  refine Cj hr hs E Bt B4 E E fun be1 of1 hcc1=>?_
  refine AD E Iq ?_
  refine Bi E A8 E (DS (j:=1) hcc1 E) ?_
  refine J E (J E ?_)
  refine Cj hr hs E Bt B4 E E fun be2 of2 hcc2=>?_
  refine AD E Iu ?_
  refine Bi E A8 E (DS (j:=2) hcc2 E) ?_
  refine BS 0 jW (Rh hb :) E ⟨⟨1,E⟩,zT⟩ (BK (O E (V (Z (J E (V ?_))))))
  refine AT hp E (fun hc6 hp=>?_) fun hc6 hp=>?_
  obtain⟨u,hu,hp⟩:=bnd hp
  refine AK (J E (J E (J E ?_)))
  refine Cj hr hs E Bt B4 E E fun be3 of3 hcc3=>?_
  refine Ac (AJ r) E Ex E E (C7 hcc3) ?_
  refine Bz [_] E Bt B4 EN ⟨E,zT⟩ E E E (by intro v hv;simp only[List.mem_cons,List.not_mem_nil,or_false]at hv;subst hv;rfl) E E zU fun b7=>?_
  refine B2 AJ 4 ([r]:List AM) E zV E ?_
  refine CQ 1 hu (sz:=4) (enc:=AJ) zV E Bt B4 PM EN E zD E E E E (Bs (sz:=4) (enc:=AJ) 0 zV E) (by simp[AJ,Value.oneCell']) zU fun v7=>?_
  refine O E (AU (Ao (AG (AK (J E (Y E (BV zO zO) (O E (AU ?_))))))))
  exact Al (k+1,u,v7) ⟨hkl,hp⟩ (by dsimp only;omega) tL (BG [1,2,3,4,5,6] 7 E E E)
  refine AI (Ao (AG (AK (J E (Y E (BV zO zO) (O E (AU ?_)))))))
  exact Al (k+1,acc,vp) ⟨hkl,hp⟩ (by dsimp only;omega) tL (fun _ h=>h)
  have hle:k=l.length:=by have:=of_decide_eq_false hc5;omega
  subst hle
  rw[List.drop_length]at hp
  obtain rfl:=zI hp
  clear hc5
  refine Ax (A3 (BO (A0 (AG (Z (J E (Dg 0 E Bt E E (Y E Ca (V ?_)))))))))
  refine AT hkf E (fun hc6 hkf=>?_) fun hc6 hkf=>?_
  obtain⟨nd,hnd,hkf⟩:=bnd hkf
  obtain⟨ac,hacc,hkf⟩:=bnd hkf
  refine Ai CY [4] (Bm [(true,0),(true,1),(true,2),(false,3),(false,4),(false,5),(true,6)] (.last 7 .nil)) zK (AD E Jj (AF 0 US E (J E ?_)))
  refine Bg (vs:=[_]) (Hin:=[_]) (Hr:=_::_::_::_::_::_) E E ⟨E,zT⟩ pX E E (CV (B:=[_]) (Hin:=[]) fun K' w1 hk hB=>bZ n f hnd (B7 (e:=79) zV (hB _ zS))) ?_
  rintro _ _ ⟨_,rfl,nv,L2,rfl,hnz,rfl⟩
  refine⟨⟨⟨5,rfl⟩,trivial⟩,?_⟩
  obtain⟨hg,rfl⟩:=Qt (xs':=gs) (ys':=[nv]) hacc hkz.1 rfl
  refine Bz [_] E Oc H7 JA ⟨E,zT⟩ E E E (by intro v hv;simp only[List.mem_cons,List.not_mem_nil,or_false]at hv;subst hv;rfl) E E (fun _=>⟨⟨6,E⟩,zT⟩) fun b7=>?_
  refine B2 B8 5 ([nv]:List E5) E zV E ?_
  refine CQ 5 hg (sz:=5) (enc:=B8) zV E Oc H7 fx JA E zD E E E E (Bs (sz:=5) (enc:=B8) 0 zV E) Hd (fun _=>⟨⟨6,E⟩,zT⟩) fun v7=>?_
  refine AD E Jj (BK ?_)
  refine Bq 5 E fun hv7 ho7=>?_
  refine Dk 6 E E E E fU hv7 ho7 E zT (AU (Ao (AG ?_)))
  refine SX.heap (H':=Fi L::Fi L2::AH 57 5 v7 B8 (gs++[nv])::AP b3 (.cells #[AA c.x,AA c.y,vI c.lev,zN,v7] 57)::AP b2 (.cells #[AA 0,AA 0,vI 0,zN,zN] 57)::H) (Pg ?_) (BG [4,2,5,6,7] 8 E E E)
  refine AK (J E (Y E (BV zO zO) (O E (AU ?_))))
  exact Al (i+1,gs++[nv],ks'++[nd],v7,L++L2) ⟨by omega,hkf,(hkz.mono fun p hp=>List.mem_append_left _ hp).snoc (hnz.mono fun p hp=>List.mem_append_right _ hp)⟩ (by dsimp only;omega) tL (fun _ h=>h)
  refine AI (Ao (AG (AK (J E (Y E (BV zO zO) (O E (AU ?_)))))))
  exact Al (i+1,gs,ks',kv,L) ⟨by omega,hkf,hkz⟩ (by dsimp only;omega) tL (BG [2,3,4,5] 6 E E E)
  have hle:i=4:=by have:=of_decide_eq_false hc4;omega
  subst hle
  obtain rfl:=zI (show some ks'=some ks from hkf)
  refine Ax (A3 (BO (A0 (AG (Z (Ac [AA c.x,AA c.y,vI c.lev,zN,kv] E Lc E E (Aa 2 E) ?_))))))
  refine Qi 1 E fun s0 hs0=>?_
  subst hs0
  refine Ak 3 E E E E H7 E (List.all_eq_true.2 (Hd ⟨c.x,c.y,c.lev,⟨none,0,0⟩,s0⟩)) E zT (V (AL ?_))
  refine SQ.heap (H':=AH 57 5 s0.val B8 gs::Fi L::AP b2 (.cells #[AA c.x,AA c.y,vI c.lev,zN,s0.val] 57)::H) (Rb zV fun Lk hLk=>?_) (BG [1,0,3] 4 E E E)
  refine Zy ?_
  exact AX (ES E (BB 1 [AA c.x,AA c.y,vI c.lev,zN,s0.val] Lc E E E E)) (AY (M:=[_]) ⟨⟨c.x,c.y,c.lev,⟨none,0,0⟩,s0⟩,Lk++L,E,.mk (R8.nil fun _=>rfl) (hLk.mono fun p hp=>List.mem_append_left _ hp) hkz.1 (fun i a b ha hb=>(hkz.2 i a b ha hb).mono fun p hp=>List.mem_append_right _ hp),E⟩ fun _ hw=>Bc.pick (H:=[_,_]) hw [0] 2 E)
def OE(n:Nat)(l:List AM):Option (Bd×Int):=
 (GG n l).bind fun r=>cond (!r) (some (.mk 0 0 0 [] [],80)) ((Px n n l).bind fun t=>some (t,0))
theorem ZC{n:Nat}{v:Value}{l:List AM}{r:Bd×Int}(h:OE n l=some r)(hs:CD K w0 AJ 4 v l):
  zC K w0 26 [v] [] H (fun u M=>∃(nv:E5) (L:Ga),u=.tuple #[.agg (B8 nv).toArray,vI r.2]∧Ml L nv r.1∧M=[Fi L]):=by
 unfold OE at h
 refine AC h fun y hy h=>?_
 refine Ua.enter Tryz.func26 rfl rfl ?_
 refine Z ?_
 refine Ag E JA zU fun b2=>?_
 refine O E (V (Z (J E (AQ 0 nu (Sw hy hs) E (O E (V (AE (Z (J E (CH E E (V ?_)))))))))))
 refine As E (fun hc=>?_) (fun hc=>?_)
 rw[hc,BZ]at h
 obtain rfl:=zI h
 refine Z (BJ [] E cM cW JA zT E (Ak 0 E E E E H7 E E E zT (O E (V (AL (AZ (Xu ?_)))))))
 exact AX (DV E (BB 1 [AA 0,AA 0,vI 0,zN,zN] Lc E E E E) E) (AY (M:=[_]) ⟨⟨0,0,0,⟨none,0,0⟩,⟨none,0,0⟩⟩,[],E,.mk (R8.nil fun _=>rfl) (R8.nil fun _=>rfl) (kvs:=[]) E (fun i a b ha=>by simp at ha),E⟩ fun _ hw=>Bc.pick (H:=[_,_]) hw [0] 2 E)
 rw[hc,A9]at h
 refine AC h fun t ht h=>?_
 obtain rfl:=zI h
 refine AI (AG (Z (J E (Bn 0 pX (bZ n n ht hs) E ?_))))
 rintro _ _ ⟨nv,L,rfl,hnz,rfl⟩
 refine Ak 1 E E E E H7 E (List.all_eq_true.2 (Hd nv)) E zT (O E (V (AL ?_)))
 exact AX (DV E (BB 1 (B8 nv) Lc E E E E) E) (AY (M:=[_]) ⟨nv,L,E,hnz,E⟩ fun _ hw=>Bc.pick (H:=[_,_]) hw [0] 2 E)
end

section
variable {K:Nat→Prop}{w0:World}{H:List AW}
end

section
theorem X4{c:Be}{L:Nat}(h:c.lev=(L:Int))(hL:L≤31):F4 c=some (shl64 1 L):=by
 unfold F4
 rw[h,Cq zO,A7]
theorem ed{x:UInt32}{L:Nat}(hL:L≤31):Wj x.toUInt64 (shl64 1 L)=some (x.toUInt64%shl64 1 L):=by
 unfold Wj
 rw[if_neg]
 intro e
 have h1:=congrArg UInt64.toNat e
 rw[MO hL]at h1
 have:=Nat.two_pow_pos L
 have h2:(0:UInt64).toNat=0:=rfl
 omega
theorem gM{c:Be}{L:Nat}(h:c.lev=(L:Int))(hL:L≤31)(hx:c.x.toNat%2^L=0)(hy:c.y.toNat%2^L=0)(lx:c.x.toNat<2147483648)(ly:c.y.toNat<2147483648):Ep c=some true:=by
 unfold Ep
 have a:∀x:UInt32,x.toNat<2147483648→decide ((2147483648:UInt32)≤x)=false:=fun x hx=>by
  refine zf fun e=>?_
  have h1:=UInt32.le_iff_toNat_le.1 e
  have h5:(2147483648:UInt32).toNat=2147483648:=rfl
  omega
 rw[a _ lx,a _ ly,h,zf (show ¬(L:Int)<0 by omega),zf (show ¬31<(L:Int) by omega)]
 simp only[Bool.or_false,A9]
 have z:∀x:UInt32,x.toNat%2^L=0→decide (x.toUInt64%shl64 1 L=0)=true:=fun x hx=>by
  rw[decide_eq_true_eq,←UInt64.toNat_inj,UInt64.toNat_mod,UInt32.toNat_toUInt64,MO hL,hx]
  rfl
 rw[X4 h hL,U,ed hL,U,z _ hx]
 unfold FQ
 rw[BZ,U,ed hL,U,z _ hy]
 rfl
def Yh(c:Be)(L:Nat)(x y:UInt32):Bool:=decide (x.toNat / 2^L=c.x.toNat / 2^L)&&decide (y.toNat / 2^L=c.y.toNat / 2^L)
theorem pF{q:Be}{M:Nat}(x y:UInt32)(h:q.lev=(M:Int))(hM:M≤31)(hx:q.x.toNat%2^M=0)(hy:q.y.toNat%2^M=0)(lx:q.x.toNat<2147483648)(ly:q.y.toNat<2147483648):
  FW q x y=some (Yh q M x y):=by
 have hp:=Nat.two_pow_pos M
 unfold FW Yh
 rw[gM h hM hx hy lx ly,U,X4 h hM,U,U]
 have key:∀a b:UInt32,b.toNat%2^M=0→b.toNat<2147483648→decide (a.toNat / 2^M=b.toNat / 2^M)=(decide (b≤a)&&decide (a.toUInt64<b.toUInt64+shl64 1 M)):=by
  intro a b hb lb
  have e:(b.toUInt64+shl64 1 M).toNat=b.toNat+2^M:=by
   have h1:=MO hM
   have h2:2^M≤2^31:=Nat.pow_le_pow_right zD hM
   rw[UInt64.toNat_add,UInt32.toNat_toUInt64,h1]
   omega
  rw[Bool.eq_iff_iff]
  simp only[Bool.and_eq_true,decide_eq_true_eq,UInt32.le_iff_toNat_le,UInt64.lt_iff_toNat_lt,←ZR hp hb,e,UInt32.toNat_toUInt64]
  omega
 rw[key x q.x hx lx,key y q.y hy ly]
 generalize decide (q.x≤x)=A
 generalize decide (q.y≤y)=B
 generalize decide (x.toUInt64<q.x.toUInt64+shl64 1 M)=C
 generalize decide (y.toUInt64<q.y.toUInt64+shl64 1 M)=D
 cases A<;>cases B<;>cases C<;>cases D<;>rfl
theorem jU{c:Be}{l:List AM}{L:Nat}(A:AR c l L)(h0:0<L){i:Nat}(hi:i<4):∃q,HD c (i:Int)=some (q,0)∧∀r∈l,FW q r.x r.y=some (decide (qd L r=i)):=by
 have hL:=A.le
 have hp:=Nat.two_pow_pos (L-1)
 have mx:=Q0 A.cx A.lx (NT hL)
 have my:=Q0 A.cy A.ly (NT hL)
 have e2:2^L=2^(L-1)*2:=by rw[←Nat.pow_succ,Nat.succ_eq_add_one,Nat.sub_add_cancel h0]
 have hh:(shl64 1 L / 2).toUInt32.toNat=2^(L-1):=by
  rw[UInt64.toNat_toUInt32,UInt64.toNat_div,MO hL,show(2:UInt64).toNat=2 from rfl,e2,Nat.mul_div_cancel _ zD]
  show _%4294967296=_
  have:2^(L-1)≤2^31:=Nat.pow_le_pow_right zD zO
  exact Nat.mod_eq_of_lt zO
 have half:∀a:Nat,a%2^L=0→a%2^(L-1)=0∧a / 2^(L-1)%2=0:=by
  intro a ha
  rw[e2]at ha
  constructor
  rw[←Nat.mod_mul_right_mod a (2^(L-1)) 2,ha]
  simp
  rw[Nat.mod_mul]at ha
  have h5:2^(L-1)*(a / 2^(L-1)%2)=0:=zO
  rcases Nat.mul_eq_zero.1 h5 with h6 | h6
  omega
  exact h6
 obtain⟨hx2,cxe⟩:=half _ A.cx
 obtain⟨hy2,cye⟩:=half _ A.cy
 have gx:=Fg (a:=c.x.toNat) h0
 have gy:=Fg (a:=c.y.toNat) h0
 generalize hhd:(shl64 1 L / 2).toUInt32=hf at hh
 have hlev:wI (c.lev-1)=((L-1:Nat):Int):=by rw[A.lev,BC zO zO];omega
 have mv:∀(a:UInt32) (b:Nat),b≤1→a.toNat+2^L≤2147483648→(a+hf*FL (b:Int)).toNat=a.toNat+b*2^(L-1):=by
  intro a b hb ha
  rw[e2]at ha
  rcases(show b=0∨b=1 by omega)with rfl | rfl
  rw[show FL ((0:Nat):Int)=0 from rfl]
  simp
  rw[show FL ((1:Nat):Int)=1 from rfl,UInt32.mul_one,UInt32.toNat_add,hh]
  omega
 have fin:∀bx by_:Nat,bx≤1→by_≤1→∀r∈l,FW ⟨c.x+hf*FL (bx:Int),c.y+hf*FL (by_:Int),wI (c.lev-1)⟩ r.x r.y=some (decide (qd L r=bx+2*by_)):=by
  intro bx by_ hbx hby r hr
  obtain⟨i1,i2⟩:=A.inn r hr
  have rx:=Fg (a:=r.x.toNat) h0
  have ry:=Fg (a:=r.y.toNat) h0
  have e1:=mv c.x bx hbx mx
  have e3:=mv c.y by_ hby my
  generalize c.x+hf*FL (bx:Int)=qx at e1 ⊢
  generalize c.y+hf*FL (by_:Int)=qy at e3 ⊢
  have bxl:bx*2^(L-1)≤2^(L-1):=by
   calc bx*2^(L-1)≤1*2^(L-1):=Nat.mul_le_mul_right _ hbx
    _=2^(L-1):=Nat.one_mul _
  have byl:by_*2^(L-1)≤2^(L-1):=by
   calc by_*2^(L-1)≤1*2^(L-1):=Nat.mul_le_mul_right _ hby
    _=2^(L-1):=Nat.one_mul _
  rw[pF (M:=L-1) r.x r.y (show wI (c.lev-1)=_ from hlev) zO (show qx.toNat%_=0 by rw[e1,Nat.add_mul_mod_self_right];exact hx2) (show qy.toNat%_=0 by rw[e3,Nat.add_mul_mod_self_right];exact hy2) (show qx.toNat<_ by rw[e1];omega) (show qy.toNat<_ by rw[e3];omega)]
  have f1:qx.toNat / 2^(L-1)=c.x.toNat / 2^(L-1)+bx:=by rw[e1];exact Nat.add_mul_div_right _ _ hp
  have f2:qy.toNat / 2^(L-1)=c.y.toNat / 2^(L-1)+by_:=by rw[e3];exact Nat.add_mul_div_right _ _ hp
  congr 1
  unfold Yh qd
  rw[Bool.eq_iff_iff]
  simp only[Bool.and_eq_true,decide_eq_true_eq,f1,f2]
  omega
 have run:∀bx by_:Nat,SE (i:Int) 2=some (bx:Int)→UN (i:Int) 2=some (by_:Int)→HD c (i:Int)=some (⟨c.x+hf*FL (bx:Int),c.y+hf*FL (by_:Int),wI (c.lev-1)⟩,0):=by
  intro bx by_ h1 h2
  unfold HD
  rw[gM A.lev A.le A.cx A.cy A.lx A.ly,U,show(((!true||decide (c.lev=0))||decide ((i:Int)<0))||decide (3<(i:Int)))=false by rw[A.lev];simp;omega,A9,X4 A.lev hL,U]
  unfold QP
  rw[if_neg zD,U,h1,U,h2,U,hhd]
 rcases(show i=0∨i=1∨i=2∨i=3 by omega)with rfl | rfl | rfl | rfl
 exact⟨_,run 0 0 rfl rfl,fin 0 0 zO zO⟩
 exact⟨_,run 1 0 rfl rfl,fin 1 0 zO zO⟩
 exact⟨_,run 0 1 rfl rfl,fin 0 1 zO zO⟩
 exact⟨_,run 1 1 rfl rfl,fin 1 1 zO zO⟩
structure IC(c:Be)(l:List AM)(L:Nat):Prop where
 lev:c.lev=(L:Int)
 le:L≤31
 cx:c.x.toNat%2^L=0
 cy:c.y.toNat%2^L=0
 lx:c.x.toNat<2147483648
 ly:c.y.toNat<2147483648
 inn:∀r∈l,r.x.toNat / 2^L=c.x.toNat / 2^L∧r.y.toNat / 2^L=c.y.toNat / 2^L
theorem AR.ic{c:Be}{l:List AM}{L:Nat}(A:AR c l L):IC c l L:=⟨A.lev,A.le,A.cx,A.cy,A.lx,A.ly,A.inn⟩
theorem IC.has{c:Be}{l:List AM}{L:Nat}(I:IC c l L)(x y:UInt32):FW c x y=some (Yh c L x y):=pF x y I.lev I.le I.cx I.cy I.lx I.ly
theorem Vi{S:List AM}{far r0:AM}(h0:r0∈S)(okf:Gb far=true)(a1:Int)(nx:UInt32×UInt32×Int×Int→Option Be):
  ∀(k m:Nat) (c:Be) (L:Nat),31-L≤k→k<m→IC c S L→(0<L→(∃r∈S,∃s∈S,qd L r≠qd L s)∨¬(far.x.toNat / 2^(L-1)=r0.x.toNat / 2^(L-1)∧far.y.toNat / 2^(L-1)=r0.y.toNat / 2^(L-1)))→
   ∃c' L',AR c' (S++[far]) L'∧F0 a1 far nx m (c.x,c.y,(L:Int),Yh c L far.x far.y)=HU a1 nx c'.x c'.y c'.lev
 | _,0,_,_,_,h,_,_=>absurd h (Nat.not_lt_zero _)
 | k,m+1,c,L,hk,hm,I,ht=>by
  have e:F0 a1 far nx (m+1) (c.x,c.y,(L:Int),Yh c L far.x far.y)=GM a1 far nx (F0 a1 far nx m) c.x c.y L (Yh c L far.x far.y):=rfl
  rw[e]
  unfold GM
  obtain⟨i1,i2⟩:=I.inn r0 h0
  cases hb:Yh c L far.x far.y with
  | true=>
   unfold Yh at hb
   simp only[Bool.and_eq_true,decide_eq_true_eq]at hb
   refine⟨c,L,⟨I.lev,I.le,I.cx,I.cy,I.lx,I.ly,fun r hr=>?_,fun h=>?_⟩,?_⟩
   rcases List.mem_append.1 hr with hr | hr
   exact I.inn r hr
   rw[List.mem_singleton.1 hr]
   exact hb
   rcases ht h with⟨r,hr,s,hs,hne⟩ | hne
   exact⟨r,List.mem_append_left _ hr,s,List.mem_append_left _ hs,hne⟩
   refine⟨r0,List.mem_append_left _ h0,far,by simp,fun e=>hne ?_⟩
   have g1:=Fg (a:=r0.x.toNat) h
   have g2:=Fg (a:=r0.y.toNat) h
   have g3:=Fg (a:=far.x.toNat) h
   have g4:=Fg (a:=far.y.toNat) h
   unfold qd at e
   omega
   rw[Bool.not_true,A9,I.lev]
  | false=>
   have hfar:=Nc okf
   have hL:L<31:=by
    rcases Nat.lt_or_ge L 31 with h | h
    exact h
    have:L=31:=by have:=I.le;omega
    subst this
    unfold Yh at hb
    rw[Nat.div_eq_of_lt (show far.x.toNat<2^31 from hfar.1),Nat.div_eq_of_lt (show far.y.toNat<2^31 from hfar.2.1),Nat.div_eq_of_lt (show c.x.toNat<2^31 from I.lx),Nat.div_eq_of_lt (show c.y.toNat<2^31 from I.ly)]at hb
    simp at hb
   have hX:∀x:UInt32,(shl64 (shr64 x.toUInt64 (L+1)) (L+1)).toUInt32.toNat=x.toNat / 2^(L+1)*2^(L+1):=by
    intro x
    have hlt:=x.toNat_lt
    have h1:x.toNat / 2^(L+1)*2^(L+1)≤x.toNat:=Nat.div_mul_le_self _ _
    have h2:(shr64 x.toUInt64 (L+1)).toNat=x.toNat / 2^(L+1):=by
     unfold shr64
     rw[UInt64.toNat_ofNat',Nat.min_eq_left zO,UInt32.toNat_toUInt64]
     exact Nat.mod_eq_of_lt (Nat.lt_of_le_of_lt (Nat.div_le_self _ _) zO)
    rw[UInt64.toNat_toUInt32]
    unfold shl64
    rw[UInt64.toNat_ofNat',Nat.min_eq_left zO,h2]
    omega
   have hpp:=Nat.two_pow_pos (L+1)
   have up:∀a:Nat,a / 2^(L+1)=a / 2^L / 2:=fun a=>by rw[Nat.div_div_eq_div_mul,←Nat.pow_succ]
   have I':IC ⟨(shl64 (shr64 c.x.toUInt64 (L+1)) (L+1)).toUInt32,(shl64 (shr64 c.y.toUInt64 (L+1)) (L+1)).toUInt32,((L+1:Nat):Int)⟩ S (L+1):=by
    refine⟨rfl,by omega,?_,?_,?_,?_,fun r hr=>?_⟩
    show(shl64 _ _).toUInt32.toNat%_=0
    rw[hX]
    exact Nat.mul_mod_left _ _
    show(shl64 _ _).toUInt32.toNat%_=0
    rw[hX]
    exact Nat.mul_mod_left _ _
    show(shl64 _ _).toUInt32.toNat<_
    rw[hX]
    exact Nat.lt_of_le_of_lt (Nat.div_mul_le_self _ _) I.lx
    show(shl64 _ _).toUInt32.toNat<_
    rw[hX]
    exact Nat.lt_of_le_of_lt (Nat.div_mul_le_self _ _) I.ly
    show _=(shl64 _ _).toUInt32.toNat / _∧_=(shl64 _ _).toUInt32.toNat / _
    rw[hX,hX,Nat.mul_div_cancel _ hpp,Nat.mul_div_cancel _ hpp,up,up,up,up,(I.inn r hr).1,(I.inn r hr).2]
    exact⟨rfl,rfl⟩
   have hk1:31-(L+1)≤k-1:=by clear ht;omega
   have hk2:k-1<m:=by clear ht;omega
   obtain⟨c',L',A,e2⟩:=Vi h0 okf a1 nx (k-1) m _ (L+1) hk1 hk2 I' (fun _=>.inr (by
    rw[Nat.add_sub_cancel,i1,i2]
    intro hc
    unfold Yh at hb
    rw[hc.1,hc.2]at hb
    simp at hb))
   refine⟨c',L',A,?_⟩
   have hw:wI ((L:Int)+1)=((L+1:Nat):Int):=by rw[BC zO zO];omega
   rw[Bool.not_false,BZ,hw,Cq zO,I'.has,U]
   exact e2
theorem ZV{n:Nat}{l:List AM}(hl:l≠[])(hn:l.length<n)(hn2:40≤n)(hb:l.length≤1000000)(ok:∀r∈l,Gb r=true):∃c L,Hw n l=some c∧AR c l L:=by
 have key:∀(T S:List AM) (c:Be) (L:Nat),l=S++T→S≠[]→AR c S L→∀m,T.length<m→∃c' L',DA n l m (c.x,c.y,c.lev,(S.length:Int))=some c'∧AR c' l L':=by
  intro T
  induction T with
  | nil=>
   intro S c L hS hne A m hm
   obtain⟨m,rfl⟩:∃k,m=k+1:=⟨m-1,by omega⟩
   simp only[List.append_nil]at hS
   subst hS
   refine⟨c,L,?_,A⟩
   show EI n l (DA n l m) _ _ _ _=_
   unfold EI
   dsimp only
   rw[zf zO,A9]
   rfl
  | cons r T ih=>
   intro S c L hS hne A m hm
   obtain⟨m,rfl⟩:∃k,m=k+1:=⟨m-1,by omega⟩
   have hlen:l.length=S.length+(T.length+1):=by rw[hS];simp
   have hr:r∈l:=by rw[hS];simp
   have n1:Aq l (S.length:Int)=some r:=by
    rw[D1 rfl,hS]
    simp
   obtain⟨r0,hr0⟩:=List.exists_mem_of_ne_nil S hne
   have hA0:=A.two
   obtain⟨c',L',A',e⟩:=Vi hr0 (ok r hr) (S.length:Int) (DA n l m) 31 n c L zO zO A.ic (fun h=>.inl (hA0 h))
   obtain⟨c2,L2,h1,h2⟩:=ih (S++[r]) c' L' (by rw[hS];simp) zS A' m (by simp at hm;omega)
   refine⟨c2,L2,?_,h2⟩
   show EI n l (DA n l m) _ _ _ _=_
   unfold EI
   dsimp only
   rw[zt zO,BZ,n1,U,show(⟨c.x,c.y,c.lev⟩:Be)=c from rfl,A.ic.has,U,A.lev,e]
   unfold HU
   rw[A7,BC zO zO]
   rw[show((S++[r]).length:Int)=(S.length:Int)+1 by simp only[List.length_append,List.length_singleton];omega]at h1
   exact h1
 obtain⟨r0,l0,rfl⟩:∃r0 l0,l=r0::l0:=by
  cases l with
  | nil=>exact absurd rfl hl
  | cons r0 l0=>exact⟨r0,l0,rfl⟩
 have h0:=Nc (ok r0 zS)
 obtain⟨c,L,hc,hA⟩:=key l0 [r0] ⟨r0.x,r0.y,0⟩ 0 rfl zS ⟨rfl,by omega,by simp[Nat.mod_one],by simp[Nat.mod_one],h0.1,h0.2.1,fun r hr=>by rw[List.mem_singleton.1 hr];exact⟨rfl,rfl⟩,fun h=>absurd h (Nat.lt_irrefl _)⟩ n (by simp at hn;omega)
 refine⟨c,L,?_,hA⟩
 unfold Hw
 have n0:Aq (r0::l0) 0=some r0:=rfl
 rw[n0,U,U]
 exact hc
end

section
theorem Ud{q:Be}{l:List AM}{L i:Nat}(hq:∀r∈l,FW q r.x r.y=some (decide (qd L r=i))):∀(T acc:List AM),(∀r∈T,r∈l)→acc.length+T.length≤100000→RK q T acc=some (acc++T.filter fun r=>decide (qd L r=i))
 | [],acc,_,_=>by simp[RK]
 | r::T,acc,hT,hb=>by
  simp only[List.length_cons]at hb
  unfold RK
  rw[hq r (hT r zS),U]
  cases hd:decide (qd L r=i)with
  | false=>
   rw[A9,Ud hq T acc (fun s hs=>hT s (by simp[hs])) zO]
   simp[hd]
  | true=>
   rw[BZ,CG zQ zQ,U,Ud hq T _ (fun s hs=>hT s (by simp[hs])) zQ]
   simp[hd]
theorem Yq{rec_:List AM→Option Bd}{c:Be}{l:List AM}{L:Nat}(A:AR c l L)(h0:0<L)(hb:l.length≤1000):∀(m i:Nat) (acc:List Bd),i+m=4→
  RS rec_ c l m i acc=Ej rec_ ((List.range' i m).map fun j=>l.filter fun r=>decide (qd L r=j)) acc
 | 0,_,_,_=>rfl
 | m+1,i,acc,h=>by
  obtain⟨q,h1,h2⟩:=jU A h0 (i:=i) zO
  unfold RS
  rw[h1,U,Ud h2 l [] (fun r hr=>hr) zQ,U,List.range'_succ,List.map_cons,List.nil_append]
  unfold Ej
  simp only[Yq A h0 hb m (i+1) _ zO]
theorem Yi{n:Nat}(hn2:40≤n):∀(f:Nat) (l:List AM),l.length<f→(∀r∈l,Gb r=true)→l.length≤1000→l.length<n→∃t,Px n f l=some t∧Tr f l t
 | 0,l,h,_,_,_=>by omega
 | f+1,l,h,ok,hb,hn=>by
  unfold Px
  rw[if_neg zO]
  by_cases hl:l=[]
  subst hl
  exact⟨.mk 0 0 0 [] [],rfl,.inl ⟨rfl,rfl⟩⟩
  have hp:=List.length_pos_iff.2 hl
  obtain⟨c,L,hc,A⟩:=ZV hl hn hn2 zO ok
  rw[zf zO,A9,hc,U]
  by_cases hleaf:l.length≤4∨L=0
  rw[show(decide ((l.length:Int)≤4)||decide (c.lev=0))=true by rw[A.lev];simp;omega,BZ]
  have hcap:bL 32 (l.length:Int)=some ():=by
   unfold bL
   rw[if_pos ⟨by omega,by omega,by omega⟩]
  rw[hcap,U,CG zQ zQ,U]
  exact⟨_,rfl,.inr ⟨hl,c,L,A,.inl ⟨hleaf,rfl⟩⟩⟩
  have h0:0<L:=zO
  rw[show(decide ((l.length:Int)≤4)||decide (c.lev=0))=false by rw[A.lev];simp;omega,A9,Yq A h0 hb 4 0 [] rfl]
  obtain⟨_,h2⟩:=Pj A h0
  obtain⟨ks,h3,h4⟩:=VD (rec_:=Px n f) (R:=Tr f) (NE L l) [] (fun p hp' hne=>by
   have hq:p∈MI L l:=List.mem_filter.2 ⟨hp',by simpa using hne⟩
   have:=h2 p hq
   exact Yi hn2 f p zO (fun r hr=>ok r ((No hq).subset hr)) zO zO) (by simp[NE])
  rw[show(List.range' 0 4).map (fun j=>l.filter fun r=>decide (qd L r=j))=NE L l from rfl,h3,U]
  exact⟨_,rfl,.inr ⟨hl,c,L,A,.inr ⟨by omega,h0,ks,by simp,h4⟩⟩⟩
theorem oH{n:Nat}{l:List AM}(hn:l.length<n)(h:Cp l=true):GG n l=some true:=by
 have hb:=IV h
 unfold Cp at h
 simp only[Bool.and_eq_true,decide_eq_true_eq]at h
 have hr:=(OA l).1 h.1.2
 have ok:∀r∈l,Gb r=true:=fun r hr=>List.all_eq_true.1 h.1.1 r hr
 unfold GG
 rw[zf zO,A9]
 have key:∀(d k m:Nat),k+d=l.length→d<m→Dl l m (k:Int)=some true:=by
  intro d
  induction d with
  | zero=>
   intro k m hk hm
   obtain⟨m,rfl⟩:∃j,m=j+1:=⟨m-1,by omega⟩
   show C2 l (Dl l m) _=_
   unfold C2
   rw[zf zO,A9]
   rfl
  | succ d ih=>
   intro k m hk hm
   obtain⟨m,rfl⟩:∃j,m=j+1:=⟨m-1,by omega⟩
   have hkl:k<l.length:=zO
   have n1:Aq l (k:Int)=some l[k]:=by rw[D1 rfl,List.getElem?_eq_getElem hkl]
   have hrow:FX l[k]=some true:=by
    have h5:=Nc (ok l[k] (List.getElem_mem hkl))
    unfold FX
    have h6:(2147483648:UInt32).toNat=2147483648:=rfl
    rw[A7,zt (UInt32.lt_iff_toNat_lt.2 zO),zt (UInt32.lt_iff_toNat_lt.2 zO),zt zO]
    rfl
   show C2 l (Dl l m) _=_
   unfold C2
   rw[zt zO,BZ,n1,U,hrow,U]
   have hor:(Nn (!true) ((FQ (decide (0<(k:Int))) ((Aq l (wI ((k:Int)-1))).bind fun x2=>(Aq l (k:Int)).bind fun x3=>some (decide (x3.id≤x2.id)))).bind fun y2=>some (y2)))=some false:=by
    rcases Nat.eq_zero_or_pos k with rfl | hk0
    rfl
    have n2:Aq l (wI ((k:Int)-1))=some l[k-1]:=by
     rw[BC zO zO,D1 (k:=k-1) zO,List.getElem?_eq_getElem zO]
    have hlt:=List.pairwise_iff_getElem.1 hr (k-1) k zO hkl zO
    have h7:decide (l[k].id≤l[k-1].id)=false:=zf fun e=>by
     have e1:=UInt64.le_iff_toNat_le.1 e
     have e2:=UInt64.lt_iff_toNat_lt.1 hlt
     omega
    rw[zt zO,n2,n1]
    simp only[Nn,FQ,Bool.not_true,A9,BZ,U,h7]
   rw[n1]at hor
   rw[hor,U,A9,A7,BC zO zO]
   exact ih (k+1) m zO zO
 exact key l.length 0 n zO hn
theorem fj{n:Nat}{l:List AM}(hn:1100≤n)(h:Cp l=true):∃t,OE n l=some (t,0)∧Tr n l t:=by
 have hb:=IV h
 have h':=h
 unfold Cp at h'
 simp only[Bool.and_eq_true,decide_eq_true_eq]at h'
 obtain⟨t,h1,h2⟩:=Yi (n:=n) zO n l zO (fun r hr=>List.all_eq_true.1 h'.1.1 r hr) hb zO
 refine⟨t,?_,h2⟩
 unfold OE
 rw[oH zO h,U,Bool.not_true,A9,h1,U]
end
end Go.Proofs.YtkibffdipniemaaGreatDoor
