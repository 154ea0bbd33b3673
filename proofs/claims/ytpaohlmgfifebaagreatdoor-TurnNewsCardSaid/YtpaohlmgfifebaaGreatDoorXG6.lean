/- The texts FP2, FB0, FB1, FP6, FL1a, FL1, YR2, LG25, LG26, LG27, LG28, LG29, LG30, FR1, FR9, TL1, FM1, TL2, FM2, TL3, FM4, FL4a, FT0, S31, FS1, FS2, VT1, FT1, one behind the other: walks of the program, and plain laws of what it computes. Conditions: as each theorem says. -/
import Derived.Test.YtpaohlmgfifebaaGreatDoorXG1
import Derived.Test.YtpaohlmgfifebaaGreatDoorXG2
import Derived.Test.YtpaohlmgfifebaaGreatDoorXG3
import Derived.Test.YtpaohlmgfifebaaGreatDoorXG4
import Derived.Test.YtpaohlmgfifebaaGreatDoorXG5

set_option linter.unusedVariables false
set_option linter.unusedSimpArgs false
set_option maxHeartbeats 4000000
set_option maxRecDepth 100000
namespace Go.Proofs.YtpaohlmgfifebaaGreatDoor
open Go
section
variable {K:Nat→Prop}{w0:World}{H:List AX}
def Mb(p0:Aj)(p1:UInt64):Option Int:=
 (LN p0.id p1).bind fun y1=>
 some y1
theorem Se{p0:Aj}{p1:UInt64}{r:Int}(h:Mb p0 p1=some r): zC K w0 144 [.agg (AV p0).toArray,Be p1] [] H (fun u M=>u=vI r∧M=[]):=by
 unfold Mb at h
 refine WN.enter Tryz.func144 rfl rfl ?_
 refine Y ?_
 refine Bg E E zU fun b1=>?_
 refine U E (V (Y ?_))
 refine AF h fun y1 hy1 h=>?_
 refine AE E Mq (AG 0 Gl E (J E (AQ 0 tv (UA hy1) E (U E (V (AK ?_))))))
 obtain rfl:=zI h
 exact Ac [] 1 E E E
def DY(p0:List Aj)(p1:UInt64)(a1:Int):Option (Int×Bool):=
 (GA (decide (a1<(p0.length:Int))) ((BE p0 a1).bind fun x3=>(Mb x3 p1).bind fun y2=>some (decide (y2=0)))).bind fun y3=>
 some (a1,y3)
def DS(p0:List Aj)(p1:UInt64)(nx_f_slices_BinarySearchFunc_api_Row_api_Row_uint64_l1:Int×Int→Option (Int×Bool))(a2:Int)(a3:Int):Option (Int×Bool):=
 cond (decide (a2<a3))
 (
  ret (wI ((shr64 (B9 (wI (a2+a3))) 1).toNat:Int)) fun x1=>
  (BE p0 x1).bind fun x2=>
  (Mb x2 p1).bind fun y1=>
  cond (decide (y1<0))
  (
   ret (wI (x1+1)) fun i_1=>
   nx_f_slices_BinarySearchFunc_api_Row_api_Row_uint64_l1 (i_1,a3))
  (
   nx_f_slices_BinarySearchFunc_api_Row_api_Row_uint64_l1 (a2,x1)))
 (
  DY p0 p1 a2)
def DZ(p0:List Aj)(p1:UInt64):Nat→(Int×Int)→Option (Int×Bool):=CI fun nx x=>DS p0 p1 nx x.1 x.2
def Dq(n:Nat)(p0:List Aj)(p1:UInt64):Option (Int×Bool):=
 DZ p0 p1 n (0,(p0.length:Int))
theorem It{n:Nat}{Cn:Value}{p0:List Aj}{p1:UInt64}{r:Int×Bool}(h:Dq n p0 p1=some r)(hs0_:By K w0 AV 4 Cn p0):zC K w0 143 [Cn,Be p1,.func (.func 144) #[] #[]] [] H (fun u M=>u=.tuple #[vI r.1,vB r.2]∧M=[]):=by
 unfold Dq at h
 refine WN.enter Tryz.func143 rfl rfl ?_
 refine Y (U E (U E (V (Y (J E (Bt hs0_ E Ca E (U E (V (Y (J E (U E (U E (V ?_)))))))))))))
 refine A8 (α:=Int) (fun x=>DY p0 p1 x=some r) (fun x=>[(0,Cn),(1,Be p1),(2,.func (.func 144) #[] #[]),(8,vI (p0.length:Int)),(9,vI x)]) (fun x=>H) ?_ (fun a1 D h=>?_)
 refine AN ?_
 refine SX.heap (SX.mono (BK (α:=Nat×Int×Int) (fun x=>DZ p0 p1 x.1 (x.2.1,x.2.2)=some r) (fun x=>[(0,Cn),(1,Be p1),(2,.func (.func 144) #[] #[]),(8,vI (p0.length:Int)),(9,vI x.2.1),(10,vI x.2.2)]) (fun x=>H) (fun x=>x.1) (fun x D h=>?_) (n,0,(p0.length:Int)) h) tL) (BM [] 0 E E E)
 obtain⟨m1,a2,a3⟩:=x
 dsimp only at h
 rcases m1 with _ | m1
 cases (show(none:Option _)=some r from h)
 replace h:DS p0 p1 (DZ p0 p1 m1) a2 a3=some r:=h
 unfold DS at h
 try dsimp only
 refine AH (Y (J E (J E (Z E A9 (V ?_)))))
 refine AL h E (fun hc1 h=>?_) fun hc1 h=>?_
 refine AI (AJ (AN (Y ?_)))
 obtain⟨x1,ex1,h⟩:=Bz h
 refine J E (J E (Z E Bc (BO E E (Ee Im N2) ?_)))
 refine Z E (GT.shr64 (n:=1)) ?_
 refine BO E E (so N2 Im) ?_
 refine Ay (u:=vI x1) E E (congrArg vI ex1) ?_
 refine V (Y ?_)
 refine AF h fun x2 hx2 h=>?_
 refine AF h fun y1 hy1 h=>?_
 refine J E (J E (J E ?_))
 refine Co hx2 hs0_ E Ca DQ E E fun be1 of1 hc2=>?_
 refine Aw (AV x2) E Hy E E (DT hc2) (J E (AQ 0 mj ((Se hy1 :)) E (Z E A9 (V ?_))))
 refine AL h E (fun hc3 h=>?_) fun hc3 h=>?_
 refine AM ?_
 obtain⟨i_1,ei_1,h⟩:=Bz h
 refine J E (Z E Bc ?_)
 refine Ay (u:=vI i_1) E E (congrArg vI ei_1) ?_
 refine AZ (Av ?_)
 exact A1 (m1,i_1,a3) h (Nat.lt_succ_self _) tL (BM [] 0 E E E)
 refine AM (J E (U E (AZ (Av ?_))))
 exact A1 (m1,a2,x1) h (Nat.lt_succ_self _) tL (BM [] 0 E E E)
 refine A5 (BC (Bb (BB ?_)))
 exact Aq a2 h tL (BM [] 0 E E E)
 unfold DY at h
 try dsimp only
 refine Y ?_
 refine AF h fun y3 hy3 h=>?_
 refine J E (J E (J E (Z E A9 (J E ?_))))
 refine E0 39 9 48 hy3 E (fun hb hg1 k=>?_) (fun hb k=>?_) ?_
 obtain⟨x3,hx3,hg1⟩:=bnd hg1
 obtain⟨y2,hy2,hg1⟩:=bnd hg1
 obtain rfl:=zI hg1
 refine J E (J E (J E ?_))
 refine Co hx3 hs0_ E Ca DQ E E fun be2 of2 hc4=>?_
 refine Aw (AV x3) E Hy E E (DT hc4) (J E (AQ 0 mj ((Se hy2 :)) E (Z E Ba (Ag E E E ?_))))
 exact k.mono tL
 refine AC E (AC E (AC E (AC E (AC E (AC E (AC E (AC E ?_)))))))
 refine Ag E E E ?_
 exact k.mono tL
 refine U E (U E (V (AK ?_)))
 obtain rfl:=zI h
 exact Ac [] 0 E E E
def Q7(n:Nat)(p0:List Aj)(p1:UInt64):Option (Int×Bool):=
 (Dq n p0 p1).bind fun y1=>
 some (y1.1,y1.2)
theorem aa{n:Nat}{Cn:Value}{p0:List Aj}{p1:UInt64}{r:Int×Bool}(h:Q7 n p0 p1=some r)(hs0_:By K w0 AV 4 Cn p0):zC K w0 104 [Cn,Be p1] [] H (fun u M=>u=.tuple #[vI r.1,vB r.2]∧M=[]):=by
 unfold Q7 at h
 refine WN.enter Tryz.func104 rfl rfl ?_
 refine Y (U E (U E (V (Y ?_))))
 refine AF h fun y1 hy1 h=>?_
 refine J E (J E (AQ 0 tu (It hy1 hs0_) E (Ah E E E (Ah E E E (U E (U E (V (AK ?_))))))))
 obtain rfl:=zI h
 exact Ac [] 0 E E E
def LZ(p0:Iv)(y1:List UInt8):Option Int:=
 (H6 (⟨p0.id,p0.x,p0.y,y1⟩:Aj)).bind fun y2=>
 cond (!y2)
 (
  some 80)
 (
  some 0)
def Q6(p0:Iv):Option Int:=
 ret (decide (p0.kind=3)) fun x1=>
 cond x1
 (
  some 0)
 (
  ret (decide (p0.kind=2)) fun x2=>
  cond x2
  (
   LZ p0 [])
  (
   ret (decide (p0.kind=1)) fun x3=>
   cond x3
   (
    LZ p0 p0.txt)
   (
    some 2)))
theorem aZ{p0:Iv}{r:Int}(h:Q6 p0=some r): zC K w0 136 [.agg (Hp p0).toArray] [] H (fun u M=>u=vI r∧M=[]):=by
 unfold Q6 at h
 refine WN.enter Tryz.func136 rfl rfl ?_
 refine Y ?_
 refine Bg E E zU fun b1=>?_
 refine U rfl (V (Y (AE rfl Oq (Aw [Be p0.id,AB p0.x,AB p0.y,vS p0.txt] rfl Hy rfl rfl (Ct 0 rfl (by rintro(_ | (_ | (_ | (_ | j)))) u hj<;>first | exact hj | exact absurd hj zS)) ?_))))
 refine Au E Gm zU fun b2=>?_
 refine A3 0 E E E E DQ E E E zT (V (AH (Y (AE E L7 (AG 1 EF E (V (AN ?_)))))))
 refine A8 (α:=List UInt8) (fun x=>LZ p0 x=some r) (fun x=>[(3,vP b2 0)]) (fun x=>own b2 (.cells #[Be p0.id,AB p0.x,AB p0.y,vS x] 43)::H) ?_ (fun y1 D h=>?_)
 refine AN (AH (AN (AH (AN (AH (AH (Y ?_)))))))
 obtain⟨x1,ex1,h⟩:=Bz h
 refine Z E Ba ?_
 refine Ay (u:=vB x1) E E (congrArg vB ex1) ?_
 refine V ?_
 refine AL h E (fun hc1 h=>?_) fun hc1 h=>?_
 refine A5 (BC (BC (BB (AJ (AH (Y (U E (V (AK (Aa (BI (Aa (BI (FY (BI (Aa ?_))))))))))))))))
 obtain rfl:=zI h
 exact Ac [] 2 E E E
 refine AI (AJ (AH (Y ?_)))
 obtain⟨x2,ex2,h⟩:=Bz h
 refine Z E Ba ?_
 refine Ay (u:=vB x2) E E (congrArg vB ex2) ?_
 refine V ?_
 refine AL h E (fun hc2 h=>?_) fun hc2 h=>?_
 refine A5 (BC (BC (Hc (BC (BB (AJ (AM (AE E Ov (A3 0 E E E E Il E E E zT (AZ (Av ?_)))))))))))
 exact Aq [] h tL (BM [0] 2 E E E)
 refine AI (AJ (Y ?_))
 obtain⟨x3,ex3,h⟩:=Bz h
 refine Z E Ba ?_
 refine Ay (u:=vB x3) E E (congrArg vB ex3) ?_
 refine V ?_
 refine AL h E (fun hc3 h=>?_) fun hc3 h=>?_
 refine A5 (BC (Hc (BC (Hc (BC (BB ?_))))))
 exact Aq p0.txt h tL (BM [0] 2 E E E)
 refine AI (AJ (A5 (Hc (BC (Hc (BC (Hc (oJ (BB (AJ (Y (U E (V (AK ?_))))))))))))))
 obtain rfl:=zI h
 exact Ac [] 2 E E E
 unfold LZ at h
 try dsimp only
 refine AH (AH (Y ?_))
 refine AF h fun y2 hy2 h=>?_
 refine Aw [Be p0.id,AB p0.x,AB p0.y,vS y1] E Hy E E (Ap 0 E) (AQ 0 mh ((Sf hy2 :)) E (CF E E (V ?_)))
 refine AL h E (fun hc4 h=>?_) fun hc4 h=>?_
 refine Y (U E (V (AK (Aa (Aa (BI (Aa ?_)))))))
 obtain rfl:=zI h
 exact Ac [] 1 E E E
 refine AI (AJ (Y (U E (V (AK (Aa (BI (Aa ?_))))))))
 obtain rfl:=zI h
 exact Ac [] 1 E E E
def LY(p0:List Aj)(a1:Int)(l2:List Aj):Option (List Aj×Int):=
 (Iu p0 a1 (p0.length:Int)).bind fun l4=>
 (C8 32 l2 l4).bind fun l5=>
 some (l5,0)
def JH(p0:List Aj)(p1:Iv)(y3:Int×Bool)(a1:Int)(y4:List UInt8):Option (List Aj×Int):=
 (Iu p0 0 y3.1).bind fun l1=>
 (Ve l1).bind fun y5=>
 cond (!decide (p1.kind=3))
 (
  (C8 32 y5 [(⟨p1.id,p1.x,p1.y,y4⟩:Aj)]).bind fun l3=>
  LY p0 a1 l3)
 (
  LY p0 a1 y5)
def Jw(n:Nat)(p0:List Aj)(p1:Iv):Option (List Aj×Int):=
 (H4 n p0).bind fun y1=>
 cond (!y1)
 (
  some ([],80))
 (
  (Q6 p1).bind fun y2=>
  cond (!decide (y2=0))
  (
   some ([],y2))
  (
   (Q7 n p0 p1.id).bind fun y3=>
   ret ((!y3.2)&&(!decide (p1.kind=1))) fun x1=>
   cond x1
   (
    some ([],100))
   (
    ret ((!y3.2)&&(decide ((p0.length:Int)=1000))) fun x2=>
    cond x2
    (
     some ([],82))
    (
     cond y3.2
     (
      ret (wI (y3.1+1)) fun x3=>
      (BE p0 y3.1).bind fun x4=>
      cond ((decide (p1.kind=2))&&(!(decide (x4.id=p1.id)&&(decide (x4.x=p1.x)&&(decide (x4.y=p1.y)&&(decide (x4.txt=p1.txt)&&true))))))
      (
       JH p0 p1 y3 x3 x4.txt)
      (
       JH p0 p1 y3 x3 p1.txt))
     (
      JH p0 p1 y3 y3.1 p1.txt)))))
theorem aY{n:Nat}{Cn:Value}{p0:List Aj}{p1:Iv}{r:List Aj×Int}(h:Jw n p0 p1=some r)(hs0_:By K w0 AV 4 Cn p0):zC K w0 95 [Cn,.agg (Hp p1).toArray] [] H (fun u M=>∃v0:Value,u=.tuple #[v0,vI r.2]∧M=[AD 43 4 v0 AV r.1]):=by
 unfold Jw at h
 refine WN.enter Tryz.func95 rfl rfl ?_
 refine Y ?_
 refine Bg E E zU fun b1=>?_
 refine CE 43 4 AV (U E (U E (V (AH (Y ?_)))))
 refine AF h fun y1 hy1 h=>?_
 refine J E (AQ 0 f9 (Pn hy1 hs0_) E (CF E E (V ?_)))
 refine AL h E (fun hc1 h=>?_) fun hc1 h=>?_
 refine Y (CE 43 4 AV (U E (U E (V (AK (Aa ?_))))))
 obtain rfl:=zI h
 exact BH [0] 3 (C9 E E E) E E ⟨(.slice none 0 0),E,E⟩
 refine AI (AJ (AH (Y ?_)))
 refine AF h fun y2 hy2 h=>?_
 refine Aw [vI p1.kind,Be p1.id,AB p1.x,AB p1.y,vS p1.txt] E fB E E (Ap 1 E) (AQ 0 tn ((aZ hy2 :)) E (U E (V (Y (J E (Z E BQ (V ?_)))))))
 refine AL h E (fun hc2 h=>?_) fun hc2 h=>?_
 refine Y (J E (CE 43 4 AV (U E (U E (V (AK (Aa ?_)))))))
 obtain rfl:=zI h
 exact BH [0] 3 (C9 E E E) E E ⟨(.slice none 0 0),E,E⟩
 refine AI (AJ (Y ?_))
 refine AF h fun y3 hy3 h=>?_
 refine J E (AE E Oq (AE E Mq (AG 1 Gl E (AQ 0 tV (aa hy3 hs0_) E (J E (Ah E E E (Ah E E E ?_)))))))
 refine U E (U E (V (AH (AN (Y ?_)))))
 obtain⟨x1,ex1,h⟩:=Bz h
 refine J E (CF E E (J E ?_))
 refine CV (c := !decide (p1.kind=1)) 32 4 36 E (fun hb k=>?_) (fun hb k=>?_) ?_
 refine AE E L7 (AG 1 EF E (Z E BQ (Ag E E E ?_)))
 exact k.mono tL
 refine AC E (AC E (AC E (Ag E E E ?_)))
 exact k.mono tL
 refine Ay (u:=vB x1) E E (congrArg vB ex1) ?_
 refine V ?_
 refine AL h E (fun hc3 h=>?_) fun hc3 h=>?_
 refine Y (CE 43 4 AV (U E (U E (V (AK (BI (Aa ?_)))))))
 obtain rfl:=zI h
 exact BH [0] 3 (C9 E E E) E E ⟨(.slice none 0 0),E,E⟩
 refine Y ?_
 obtain⟨x2,ex2,h⟩:=Bz h
 refine J E (CF E E (J E ?_))
 refine CV (c:=decide ((p0.length:Int)=1000)) 40 4 44 E (fun hb k=>?_) (fun hb k=>?_) ?_
 refine J E (Bt hs0_ E Ca E (Z E Ba (Ag E E E ?_)))
 exact k.mono tL
 refine AC E (AC E (AC E (Ag E E E ?_)))
 exact k.mono tL
 refine Ay (u:=vB x2) E E (congrArg vB ex2) ?_
 refine V ?_
 refine AL h E (fun hc4 h=>?_) fun hc4 h=>?_
 refine Y (CE 43 4 AV (U E (U E (V (AK (BI (Aa ?_)))))))
 obtain rfl:=zI h
 exact BH [0] 3 (C9 E E E) E E ⟨(.slice none 0 0),E,E⟩
 refine AI (Av (AJ (Y (J rfl (U rfl (V (Y (AE rfl Oq (Aw [Be p1.id,AB p1.x,AB p1.y,vS p1.txt] rfl Hy rfl rfl (Ct 1 rfl (by rintro(_ | (_ | (_ | (_ | j)))) u hj<;>first | exact hj | exact absurd hj zS)) ?_)))))))))
 refine Au E Gm zU fun b2=>?_
 refine A3 0 E E E E DQ E E E zT (V ?_)
 refine A8 (α:=Int×List UInt8) (fun x=>JH p0 p1 y3 x.1 x.2=some r) (fun x=>[(0,Cn),(3,vP b1 0),(7,vI y3.1),(9,vI x.1),(10,vP b2 0)]) (fun x=>own b1 (.cells #[vI p1.kind,Be p1.id,AB p1.x,AB p1.y,vS p1.txt] 105)::own b2 (.cells #[Be p1.id,AB p1.x,AB p1.y,vS x.2] 43)::H) ?_ (fun x D h=>?_)
 refine Y (J E (V ?_))
 refine AL h E (fun hc5 h=>?_) fun hc5 h=>?_
 refine Y ?_
 obtain⟨x3,ex3,h⟩:=Bz h
 refine J E (Z E Bc ?_)
 refine Ay (u:=vI x3) E E (congrArg vI ex3) ?_
 refine V (Y ?_)
 refine AF h fun x4 hx4 h=>?_
 refine J E (J E ?_)
 refine Co hx4 hs0_ E Ca DQ E E fun be1 of1 hc6=>?_
 refine Aw (AV x4) E Hy E E (DT hc6) ?_
 refine Au E Gm zU fun b3=>?_
 refine A3 0 E E E E DQ E E E zT (V ?_)
 refine kP [(0,Cn),(3,vP b1 0),(7,vI y3.1),(9,vI x3),(10,vP b2 0),(11,vP b3 0)] (own b3 (.cells #[Be x4.id,AB x4.x,AB x4.y,vS x4.txt] 43)::own b2 (.cells #[Be p1.id,AB p1.x,AB p1.y,vS p1.txt] 43)::AD 43 4 zN AV []::own b1 (.cells #[vI p1.kind,Be p1.id,AB p1.x,AB p1.y,vS p1.txt] 105)::H) ?_ tL
 refine Y (AE E L7 (AG 3 EF E (Z E Ba (J E ?_))))
 refine CV (c := !(decide (x4.id=p1.id)&&(decide (x4.x=p1.x)&&(decide (x4.y=p1.y)&&(decide (x4.txt=p1.txt)&&true))))) 58 4 62 E (fun hb k=>?_) (fun hb k=>?_) ?_
 refine Aw [Be x4.id,AB x4.x,AB x4.y,vS x4.txt] E Hy E E (Ap 0 E) (Aw [Be p1.id,AB p1.x,AB p1.y,vS p1.txt] E Hy E E (Ap 1 E) ?_)
 refine dN E zA E E (C2 E E (vW (a:=x4.id) (b:=p1.id)) (C2 E E (MT (a:=x4.x) (b:=p1.x)) (C2 E E (MT (a:=x4.y) (b:=p1.y)) (C2 E E (TK (a:=x4.txt) (b:=p1.txt)) Kj)))) ?_
 refine Ag E E E ?_
 exact k.mono tL
 refine AC E (AC E (AC E (Ag E E E ?_)))
 exact k.mono tL
 refine V ?_
 refine AL h E (fun hc7 h=>?_) fun hc7 h=>?_
 refine AM (AE E Ov (AG 0 HJ E (AE E Ov (A3 1 E E E E Il E E E zT (AZ ?_)))))
 exact Aq (x3,x4.txt) h tL (BM [3,1] 4 E E E)
 refine AI ?_
 exact Aq (x3,p1.txt) h tL (BM [3,1] 4 E E E)
 refine AI ?_
 exact Aq (y3.1,p1.txt) h tL (BM [2,0] 3 E E E)
 obtain⟨a1,y4⟩:=x
 dsimp only at h
 unfold JH at h
 try dsimp only
 refine Y ?_
 refine AF h fun l1 hl1 h=>?_
 refine AF h fun y5 hy5 h=>?_
 refine J E (J E (J E ?_))
 refine ij hl1 hs0_ E Ca DQ E E E fun v1 hs1=>?_
 refine BT (vs:=[_]) (Hin:=[]) (Hr:=_::_::_) E E ⟨E,zT⟩ qZ E E (kC hy5 hs1) ?_
 rintro v2 _ ⟨_,rfl,rfl⟩
 refine⟨trivial,?_⟩
 refine U E (V ?_)
 refine A8 (α:=List Aj×Value) (fun x=>LY p0 a1 x.1=some r) (fun x=>[(0,Cn),(9,vI a1),(12,x.2)]) (fun x=>AD 43 4 x.2 AV x.1::H) ?_ (fun x D h=>?_)
 refine Y (AE E L7 (AG 1 EF E (Z E BQ (V ?_))))
 refine AL h E (fun hc8 h=>?_) fun hc8 h=>?_
 refine AM ?_
 refine AF h fun l3 hl3 h=>?_
 refine J E (Aw [Be p1.id,AB p1.x,AB p1.y,vS y4] E Hy E E (Ap 2 E) ?_)
 refine CA [_] rfl Ca DQ Gm ⟨rfl,trivial⟩ rfl rfl rfl zW rfl rfl zU fun b4=>?_
 refine B4 AV 4 ([(⟨p1.id,p1.x,p1.y,y4⟩:Aj)]:List Aj) E zV E ?_
 refine Cr 1 hl3 (sz:=4) (enc:=AV) zV E Ca DQ Sc Gm E zD E E E E (B8 (sz:=4) (enc:=AV) 0 zV E) (by simp[AV,Value.oneCell']) zU fun v4=>?_
 refine U E (AZ ?_)
 exact Aq (l3,v4) h tL (BM [1] 4 E E E)
 refine AI ?_
 exact Aq (y5,v2) h tL (BM [0] 3 E E E)
 obtain⟨l2,v3⟩:=x
 dsimp only at h
 unfold LY at h
 try dsimp only
 refine Y ?_
 refine AF h fun l4 hl4 h=>?_
 refine AF h fun l5 hl5 h=>?_
 refine J E (J E (J E ?_))
 refine aJ hl4 hs0_ E Ca DQ E E fun v5 hs2=>?_
 refine Px 0 hl5 hs2 (sz:=4) (enc:=AV) zV E Ca DQ Sc Gm E zD E E E (by simp[AV,Value.oneCell']) zU fun v6=>?_
 refine U E (U E (V (AK ?_)))
 obtain rfl:=zI h
 exact BH [0] 1 (C9 E E E) E E ⟨v6,E,E⟩
end

section
variable {K:Nat→Prop}{w0:World}{H:List AX}
abbrev UV:=Nat×Option (Value×List Aj)
def Zo(v0:Value)(s:UV):Value:=s.2.elim v0 (·.1)
def Yt(p0:List Aj)(s:UV):List Aj:=s.2.elim p0 (·.2)
def VK(s:UV):AX:=AD 43 4 (Zo (.slice none 0 0) s) AV (Yt [] s)
def rB(x:Value×Int):List Value:=[x.1,vI x.2]
def yt(n:Nat)(p0:List Aj)(ops:List Iv)(s:UV)(x:Value×Int)(s':UV):Prop:=∃o m,ops[s.1]? = some o∧Jw n (Yt p0 s) o=some (m,x.2)∧s'=(s.1+1,some (x.1,m))
def yr(n:Nat)(p0:List Aj)(ops:List Iv)(s:UV):Prop:=∀o,ops[s.1]? = some o→∃r,Jw n (Yt p0 s) o=some r
theorem wm{n:Nat}{v0:Value}{p0:List Aj}{s:UV}{o:Iv}{r:List Aj×Int}(h:Jw n (Yt p0 s) o=some r)(hs0:By K w0 AV 4 v0 p0):zC K w0 95 [Zo v0 s,.agg (Hp o).toArray] [VK s] H (fun u M=>∃v:Value,u=.tuple #[v,vI r.2]∧M=[VK s,AD 43 4 v AV r.1]):=by
 refine WN.mono (CJ (B:=[VK s]) (Hin:=[]) (fun K' w1 hk hB=>aY h ?_)) ?_
 obtain⟨k,_ | ⟨v,m⟩⟩:=s
 exact hs0.keeps hk
 exact Bp (e:=43) (v:=v) zV (hB _ (by simp[VK,Zo,Yt]))
 rintro _ _ ⟨_,rfl,v,rfl,rfl⟩
 exact⟨v,rfl,rfl⟩
theorem r6{n:Nat}{v0 vo:Value}{p0:List Aj}{ops:List Iv}(hs0:By K w0 AV 4 v0 p0)(hs1:By K w0 Hp 5 vo ops)(hl:ops.length≤1000000)(bo bl:Nat):
  Zs Tryz.prog K w0 134 [vP bo 0,vP bl 0] [own bo (.cells #[vo] 79),own bl (.cells #[v0] 22)] rB (fun s=>[VK s]) (yt n p0 ops) (fun s=>ops.length≤s.1) (yr n p0 ops) (0,none):=by
 intro lp J9 X T rc G0 hy hdef h0
 refine WN.enter Tryz.func134 rfl rfl ?_
 show SX _ _ _ _ _ _ _ _ _ (own bo (.cells #[vo] 79)::own bl (.cells #[v0] 22)::VK (0,none)::((rc::G0)++T))
 refine SX.pick [2,0,1] 3 (Y (AG 1 ze E (Bt hs1 E VO E (J E (V (AN ?_))))))
 refine SX.mono (BK (α:=UV×List AX) (fun x=>J9 x.1 x.2) (fun x=>[(0,vY lp),(1,vP bo 0),(2,vP bl 0),(8,vo),(9,vI (ops.length:Int)),(10,vI x.1.1)])
  (fun x=>VK x.1::own bo (.cells #[vo] 79)::own bl (.cells #[Zo v0 x.1] 22)::(x.2++T)) (fun x=>ops.length-x.1.1) (fun x D hp=>?_) ((0,none),rc::G0) h0) tL
 obtain⟨s,G⟩:=x
 have hJ:J9 s G:=hp
 clear hp
 dsimp only
 refine Y (Z E A9 (V (AH ?_)))
 refine A7 E (fun hc1=>?_) (fun hc1=>?_)
 have hlt:s.1<ops.length:=by
  have:=of_decide_eq_true hc1
  omega
 clear hc1
 obtain⟨o,ho⟩:∃o,ops[s.1]? = some o:=⟨_,List.getElem?_eq_getElem hlt⟩
 obtain⟨r,hr⟩:=hdef _ _ hJ o ho
 have hn:BE ops ((s.1:Nat):Int)=some o:=by rw[EP];exact ho
 refine AI (AJ (AH (AN (Y ?_))))
 refine Co hn hs1 E VO cV E E fun be of hc=>?_
 refine Aw (Hp o) E fB E E (DT hc) ?_
 refine Au E mI zU fun b0=>?_
 refine A3 0 E E E E cV E E E zT (V (Y (AG 3 HI E (Aw (Hp o) E fB E E (Ap 0 E) (SL.pick [1,0] 2 (BY 1 xR (wm hr hs0) E ?_))))))
 rintro _ _ ⟨v1,rfl,rfl⟩
 refine J E (Ah E E E (Ah E E E (U E (U E (V (SX.pick [0,2,3,4,1] 5 (AH (Y (J E (J E ?_))))))))))
 refine J E ?_
 refine I8 (M2:=[_,_,_,_]) (G:=VK (s.1+1,some (v1,r.1))::G) (T:=T) (vs:=[_,_]) (ok:=fun G1=>∃G2,G1=VK (s.1+1,some (v1,r.1))::G2∧J9 (s.1+1,some (v1,r.1)) G2) (no:=X) E E ⟨E,E,zT⟩ E ?_ (fun bb G1 hG1=>⟨zT,?_⟩)
 intro M
 exact hy s (v1,r.2) (s.1+1,some (v1,r.1)) ⟨o,r.1,ho,hr,rfl⟩ G hJ M
 refine CF E E (V ?_)
 refine A7 E (fun hc3=>?_) (fun hc3=>?_)
 obtain rfl:bb=false:=by simpa using hc3
 refine AK (Aa (BI (Aa (EX (BI ?_)))))
 exact An (Ed E) (Ao (M:=G1) (.inr hG1) fun _ h=>h.skip [_,_,_,_])
 obtain rfl:bb=true:=by simpa using hc3
 obtain⟨G2,rfl,hJ2⟩:=hG1
 refine AI (AJ (AM (J E ?_)))
 refine Cs 4 E fun hv1 ho1=>?_
 refine EW 3 E E E E My hv1 ho1 E zT (AZ (Av (AJ (AM (Z E (Bh zO zO) (J E (AZ ?_)))))))
 exact A1 ((s.1+1,some (v1,r.1)),G2) hJ2 (by dsimp only;omega) tL (BM [4,2,3] 5 E E E)
 have hge:ops.length≤s.1:=by simpa using hc1
 refine A5 (BC (Bb (BB ?_)))
 exact Da (Ed E) (Ao (M:=VK s::G) (.inl ⟨s,G,hge,E,hJ⟩) fun _ hw=>Bj.pick (H:=[_,_,_]) hw [0] 3 E)
theorem sb{v0 v1:Value}{p0:List Aj}{ops:List Iv}(hs0:By K w0 AV 4 v0 p0)(hs1:By K w0 Hp 5 v1 ops):zC K w0 93 [v0,v1] [] H (fun u M=>∃bo bl:Nat,u=.func (.func 134) #[] #[vP bo 0,vP bl 0]∧M=[own bo (.cells #[v1] 79),own bl (.cells #[v0] 22)]):=by
 refine WN.enter Tryz.func93 rfl rfl ?_
 refine Y ?_
 refine aI hs0 fun hv0 ho0=>?_
 refine iU hv0 E E zU fun b0=>?_
 refine aI hs1 fun hv1 ho1=>?_
 refine iU hv1 E E zU fun b1=>?_
 refine U E (V (Y ?_))
 refine HK (fv:=#[]) (cv:=#[_,_]) E E E ?_
 refine U E (V (AK ?_))
 exact BH [0,1] 2 (Cx E E) E E ⟨_,_,E,E⟩
def RZ(n:Nat):List Iv→List Aj→Int→Option (List Aj×Int×Int)
 | [],cur,_=>some (cur,0,0)
 | o::r,cur,at_=>(Jw n cur o).bind fun y=>cond (decide (y.2=0)) (RZ n r y.1 (at_+1)) (some ([],at_,y.2))
def Pj(n:Nat)(l:List Aj)(ops:List Iv):Option (List Aj×Int×Int):=(H4 n l).bind fun y=>cond (!y) (some ([],0,80)) (cond (decide ((ops.length:Int)=0)||decide (64<(ops.length:Int))) (some ([],0,101)) (RZ n ops l 0))
theorem eZ{s:UV}(h:s.2≠none)(v0:Value)(p0:List Aj):VK s=AD 43 4 (Zo v0 s) AV (Yt p0 s):=by
 obtain⟨k,_ | ⟨v,m⟩⟩:=s
 exact absurd rfl h
 rfl
theorem qU{n:Nat}{v0 v1:Value}{p0:List Aj}{ops:List Iv}{r:List Aj×Int×Int}(h:Pj n p0 ops=some r)(hs0:By K w0 AV 4 v0 p0)(hs1:By K w0 Hp 5 v1 ops):zC K w0 62 [v0,v1] [] H (fun u M=>∃v:Value,u=.tuple #[v,vI r.2.1,vI r.2.2]∧M=[AD 43 4 v AV r.1]):=by
 unfold Pj at h
 refine WN.enter Tryz.func62 rfl rfl ?_
 refine Y (U E (U E (U E (V (LA (AH (AN (Y ?_))))))))
 refine AF h fun y1 hy1 h=>?_
 refine J E (AQ 0 f9 (Pn hy1 hs0) E (CF E E (U E (V ?_))))
 refine AL h E (fun hc1 h=>?_) fun hc1 h=>?_
 refine Y (U E (U E (U E (V (AK (BI (Aa (ES ?_))))))))
 obtain rfl:=zI h
 refine OK 43 4 AV ?_
 exact BH [0] 1 (VA E E E E) E E ⟨_,E,E⟩
 refine Y (J E (Bt hs1 E VO E (Z E Ba (J E ?_))))
 refine Dw (c:=decide (64<(ops.length:Int))) 20 4 24 E (fun hb k=>?_) (fun hb k=>?_) ?_
 refine AC E (AC E (AC E (Ag E E E ?_)))
 exact k.mono tL
 refine J E (Bt hs1 E VO E (Z E Cj (Ag E E E ?_)))
 exact k.mono tL
 refine U E (V ?_)
 refine AL h E (fun hc2 h=>?_) fun hc2 h=>?_
 refine Y (U E (U E (U E (V (AK (BI (Aa (ES ?_))))))))
 obtain rfl:=zI h
 refine OK 43 4 AV ?_
 exact BH [0] 1 (VA E E E E) E E ⟨_,E,E⟩
 have hl:0<ops.length∧ops.length≤64:=by
  simp only[Bool.or_eq_false_iff,decide_eq_false_iff_not]at hc2
  omega
 refine AI (Av (AJ (Y ?_)))
 refine Au E pY zU fun b0=>?_
 refine A3 0 E E E E PB E E E zT (V (Y (J E ?_)))
 refine Au E oC zU fun b1=>?_
 refine aI hs0 fun hv0 ho0=>?_
 refine EW 0 E E E E My hv0 ho0 E zT (V (Y ?_))
 refine Au E wY zU fun b2=>?_
 refine A3 0 E E E E cX E E E zT (V (AH (K9 (AJ (AH (Y (J E (J E (CE 43 4 AV (BY 0 xQ (sb hs0 hs1) E ?_))))))))))
 rintro _ _ ⟨b3,b4,rfl,rfl⟩
 refine V (AN ?_)
 refine S7 (enc:=rB) (C:=fun s=>[VK s]) (0,none) (G0:=own b2 (.cells #[vI 0] 30)::own b1 (.cells #[v0] 22)::own b0 (.cells #[vI 0] 3)::H)
  (fun s G=>RZ n (ops.drop s.1) (Yt p0 s) s.1=some r∧(s.2=none→s.1=0)∧G=own b2 (.cells #[vI 0] 30)::own b1 (.cells #[Zo v0 s] 22)::own b0 (.cells #[vI s.1] 3)::H)
  (fun c G=>c=.exit 1∧∃v:Value,r.2.2≠0∧r.1=[]∧G=own b2 (.cells #[vI r.2.2] 30)::own b1 (.cells #[v] 22)::own b0 (.cells #[vI r.2.1] 3)::H)
  rfl tj rfl zV (r6 (n:=n) hs0 hs1 zO _ _) rfl ⟨h,fun _=>rfl,rfl⟩ ?_ (fun s x s1 G hst hJ lr lp Rest=>?_) (fun s G D hds hJ=>?_) (fun c G D hX=>?_)
 rintro s G ⟨h,-,-⟩ o ho
 obtain⟨hlt,hg⟩:=List.getElem?_eq_some_iff.1 ho
 rw[List.drop_eq_getElem_cons hlt,hg,RZ]at h
 obtain⟨y,hy,-⟩:=bnd h
 exact⟨y,hy⟩
 obtain⟨h,-,rfl⟩:=hJ
 obtain⟨o,m,ho,hm,rfl⟩:=hst
 obtain⟨v,e⟩:=x
 obtain⟨hlt,hg⟩:=List.getElem?_eq_some_iff.1 ho
 rw[List.drop_eq_getElem_cons hlt,hg,RZ,hm]at h
 replace h:cond (decide (e=0)) (RZ n (ops.drop (s.1+1)) m (s.1+1)) (some ([],(s.1:Int),e))=some r:=h
 refine Y (U E (V (AM (U E (AZ (Jm (AN (AH (Y (J E (Z E BQ (V ?_))))))))))))
 refine A7 E (fun hc3=>?_) (fun hc3=>?_)
 have he:e≠0:=by simpa using hc3
 rw[zf he,BZ]at h
 obtain rfl:=zI h
 refine Y (J E (A3 1 E E E E cX E E E zT (V (A5 (BC (Hc ?_))))))
 exact NB ⟨E,_,he,E,E⟩ (BM [1,2,3] 4 E E E)
 obtain rfl:e=0:=by simpa using hc3
 replace h:RZ n (ops.drop (s.1+1)) m (s.1+1)=some r:=h
 refine AI (AJ (Y (J E ?_)))
 refine Cs 0 E fun hv1 ho1=>?_
 refine EW 2 E E E E My hv1 ho1 E zT (V (AM (AG 3 EF E (Z E (Bh zO zO) (A3 3 E E E E PB E E E zT (AZ (Av ?_)))))))
 exact IK ⟨_,E,h,(fun e=>absurd e zS),E⟩ (BM [0,1,2,3] 4 E E E)
 obtain⟨h,hn,rfl⟩:=hJ
 rw[List.drop_eq_nil_of_le hds,RZ]at h
 obtain rfl:=zI h
 have hs:s.2≠none:=fun e=>by
  have:=hn e
  omega
 refine SX.heap (H':=AD 43 4 (Zo v0 s) AV (Yt p0 s)::own b2 (.cells #[vI 0] 30)::own b1 (.cells #[Zo v0 s] 22)::own b0 (.cells #[vI s.1] 3)::H) ?_ (fun _ hw=>by rw[←eZ hs];exact hw) |> fun h=>Av (AJ h)
 refine AH (Y (AG 1 Sw E (Z E BQ (V (C1 E (AI (AJ (Y (AG 2 HI E (U E (U E (U E (V (AK (ES ?_)))))))))))))))
 exact BH [0] 4 (VA E E E E) E E ⟨_,E,E⟩
 obtain⟨rfl,v,he,hr,rfl⟩:=hX
 refine A5 (BB (AJ (AH (Y (AG 0 Sw E (Z E BQ (V ?_)))))))
 refine A7 E (fun hc5=>?_) (fun hc5=>absurd hc5 (by simp[he]))
 refine AH (Ax Cz [0,2] (Pl.of (G4 0 5)) zK (AG 1 EF E (AG 0 Sw E (U E (U E (U E (V (AK (Aa (ES (OK 43 4 AV ?_)))))))))))
 exact BH [0] 4 (VA E E E E) E E ⟨_,E,by rw[hr]<;>rfl⟩
end

section
variable {K:Nat→Prop}{w0:World}{H:List AX}
end

section
variable {K:Nat→Prop}{w0:World}{H:List AX}
def GU(p0:Ai):Option Bool:=
 (E1 p0).bind fun y1=>
 ret (decide (y1.cnt=18446744073709551615)) fun x1=>
 some x1
theorem QF{Az BJ CG:Nat}{CH:Value}{p0:Ai}{r:Bool}(h:GU p0=some r): zC K w0 53 [vP Az 0] [dO Az CH BJ CG p0,AD 9 1 CH eS p0.blocks,AY BJ AB vS p0.pend,AY CG AB vB p0.bad] H (fun u M=>u=vB r∧M=[dO Az CH BJ CG p0,AD 9 1 CH eS p0.blocks,AY BJ AB vS p0.pend,AY CG AB vB p0.bad]):=by
 unfold GU at h
 refine WN.enter Tryz.func53 rfl rfl ?_
 refine Y (U E (V (Y ?_)))
 refine AF h fun y1 hy1 h=>?_
 obtain⟨x1,ex1,h⟩:=Bz h
 refine J E (AQ 4 YQ (Jq hy1) E (RX E (show WF Tryz.prog 38 0=some 0 by kernel_rfl) E E ?_))
 refine Z E (MM (b:=18446744073709551615)) ?_
 refine Ay (u:=vB x1) E E (congrArg vB ex1) ?_
 refine V (AK ?_)
 obtain rfl:=zI h
 exact Ac [0,1,2,3] 4 E E E
def L5(p0:Ai)(p1:List BD):Option (Option (BF×Am)×Int×Ai):=
 (Cf p1).bind fun y1=>
 cond (!decide (y1.2=0))
 (
  some (none,y1.2,p0))
 (
  (H3 p0).bind fun y2=>
  cond (!decide (y2.2.1=0))
  (
   some (none,y2.2.1,y2.2.2))
  (
   (Oo y2.2.2 p1 y1.1 y2.1).bind fun y3=>
   (y3.1).bind fun d1=>
   (P6 p1).bind fun y4=>
   some (some (({ rows:=[],pages:=[],gens:=[],ring:=y4,gen:=y1.1,bad:=false }:BF),d1),y3.2,y2.2.2)))
theorem ar{Az BJ CG:Nat}{CH DE:Value}{p0:Ai}{p1:List BD}{r:Option (BF×Am)×Int×Ai}(h:L5 p0 p1=some r)(hs1_:By K w0 AU 2 DE p1):zC K w0 54 [vP Az 0,DE] [dO Az CH BJ CG p0,AD 9 1 CH eS p0.blocks,AY BJ AB vS p0.pend,AY CG AB vB p0.bad] H (fun u M=>(r.1=none∧u=.tuple #[.pointer none,vI r.2.1]∧M=[dO Az CH BJ CG r.2.2,AD 9 1 CH eS r.2.2.blocks,AY BJ AB vS r.2.2.pend,AY CG AB vB r.2.2.bad])∨(∃(d:BF×Am) (bn0:Nat) (vn0x0:Value) (vn0x1:Value) (vn0x2:Value) (vn0x5:Value) (bn1:Nat) (vn1x1:Value) (mn1x5:Nat),r.1=some d∧u=.tuple #[vP bn0 0,vI r.2.1]∧M=[sO bn0 vn0x0 vn0x1 vn0x2 Az bn1 vn0x5 d.1,AD 43 4 vn0x0 AV d.1.rows,AD 148 3 vn0x1 AS d.1.pages,Cb vn0x2 AB AB d.1.gens,AD 55 2 vn0x5 AU d.1.ring,vO bn1 Az vn1x1 mn1x5 d.2,AD 55 2 vn1x1 AU d.2.ring,AY mn1x5 AB vB d.2.taken,dO Az CH BJ CG r.2.2,AD 9 1 CH eS r.2.2.blocks,AY BJ AB vS r.2.2.pend,AY CG AB vB r.2.2.bad])):=by
 unfold L5 at h
 refine WN.enter Tryz.func54 rfl rfl ?_
 refine Y (U E (U E (V (Y ?_))))
 refine AF h fun y1 hy1 h=>?_
 refine J E (AQ 0 f3 (ON hy1 hs1_) E (J E (Ah E E E (Ah E E E (U E (U E (V (AH (Y (J E ?_))))))))))
 refine Z E BQ (V ?_)
 refine AL h E (fun hc1 h=>?_) fun hc1 h=>?_
 refine Y (J E (U E (U E (V (AK (Aa ?_))))))
 obtain rfl:=zI h
 exact An (C9 E E E) (Ao (M:=[_,_,_,_]) (.inl ⟨E,E,E⟩) fun _ hw=>Bj.pick (H:=[_,_,_,_]) hw [0,1,2,3] 4 E)
 refine AI (AJ (Y ?_))
 refine AF h fun y2 hy2 h=>?_
 refine J E (AQ 4 xO (iy hy2) E (J E (Ah E E E (Ah E E E (U E (U E (V (AH (Y (J E ?_))))))))))
 refine Z E BQ (V ?_)
 refine AL h E (fun hc2 h=>?_) fun hc2 h=>?_
 refine Y (J E (U E (U E (V (AK (Aa ?_))))))
 obtain rfl:=zI h
 exact An (C9 E E E) (Ao (M:=[_,_,_,_]) (.inl ⟨E,E,E⟩) fun _ hw=>Bj.pick (H:=[_,_,_,_]) hw [0,1,2,3] 4 E)
 refine AI (AJ (Y ?_))
 refine AF h fun y3 hy3 h=>?_
 refine AF h fun d1 hd1 h=>?_
 refine J E (J E (J E (J E ?_)))
 refine BT (vs:=[_,_,_,_]) (Hin:=[_,_,_,_]) (Hr:=_) E E ⟨E,E,E,E,zT⟩ xP E E (fg hy3 hs1_) ?_
 rintro _ _ (⟨hn,-,-⟩ | ⟨d_,b1,v1,m1,hn,rfl,rfl⟩)
 rw[hd1]at hn;cases hn
 obtain rfl:d1=d_:=zI (hd1.symm.trans hn)
 refine⟨trivial,?_⟩
 refine J E (Ah E E E (Ah E E E (U E (U E (V (Y ?_))))))
 refine AF h fun y4 hy4 h=>?_
 refine J E (J E (J E ?_))
 refine BT (vs:=[_]) (Hin:=[]) (Hr:=_::_::_::_::_::_::_::_) E E ⟨E,zT⟩ f7 E E (Vm hy4 hs1_) ?_
 rintro v2 _ ⟨_,rfl,rfl⟩
 refine⟨trivial,?_⟩
 refine J E ?_
 refine Cs 0 E fun hv1 ho1=>?_
 refine UP [vP Az 0,vP b1 0,v2,AB y1.1] [#[vP Az 0],#[vP b1 0],#[v2],#[AB y1.1]] (by simp only[List.map_cons,List.map_nil,hv1];rfl) E zY zL zk ⟨E,E,E,E,zT⟩ E ?_
 refine Bg E E zU fun b2=>?_
 refine CE 43 4 AV (CE 148 3 AS (pm AB AB (J E (U E (U E (V (AK ?_)))))))
 obtain rfl:=zI h
 exact An (C9 E E E) (Ao (M:=[_,_,_,_,_,_,_,_,_,_,_,_]) (.inr ⟨_,b2,zN,zN,(.map none),v2,b1,v1,m1,E,E,E⟩) fun _ hw=>Bj.pick (H:=[_,_,_,_,_,_,_,_,_,_,_,_]) hw [3,2,1,0,4,5,6,7,8,9,10,11] 12 E)
def EA(n:Nat)(T:List UInt32)(p0:BF)(p0_1:Am)(p0_2:Ai)(p1:List Aj)(p2:List Ak):Option (Int×Am×Ai):=
 (Ek p0_2).bind fun y1=>
 cond (!decide (y1.1=0))
 (
  some (y1.1,p0_1,y1.2))
 (
  (E1 y1.2).bind fun y2=>
  (BE p2 (wI ((p2.length:Int)-1))).bind fun x1=>
  (JQ y2.cnt p0.gen (p1.length:Int) (⟨x1.page,x1.tag⟩:BR)).bind fun y3=>
  cond (!decide (y3.2=0))
  (
   some (y3.2,p0_1,y1.2))
  (
   (GH n y3.1).bind fun y4=>
   (Mn y3.1.cnt).bind fun y5=>
   (KQ T p0_1 y1.2 y5 y4.1).bind fun y6=>
   cond (!decide (y6.2.1=0))
   (
    some (y6.2.1,y6.2.2.1,y6.2.2.2))
   (
    (Ek y6.2.2.2).bind fun y7=>
    cond (!decide (y7.1=0))
    (
     some (y7.1,y6.2.2.1,y7.2))
    (
     (FC y7.2 y6.1).bind fun y8=>
     some (y8.1,y6.2.2.1,y8.2)))))
theorem OS{n Az BL Ar Ab Ad Ae:Nat}{T:List UInt32}{As AW Al BA A0 Af DE D8:Value}{p0:BF}{p0_1:Am}{p0_2:Ai}{p1:List Aj}{p2:List Ak}{r:Int×Am×Ai}(h:EA n T p0 p0_1 p0_2 p1 p2=some r)(hS:Gk K w0 T)(hs1_:By K w0 AV 4 DE p1)(hs2_:By K w0 AS 3 D8 p2):zC K w0 84 [vP Az 0,DE,D8] [sO Az As AW Al Ab BL BA p0,AD 43 4 As AV p0.rows,AD 148 3 AW AS p0.pages,Cb Al AB AB p0.gens,AD 55 2 BA AU p0.ring,vO BL Ab A0 Ar p0_1,AD 55 2 A0 AU p0_1.ring,AY Ar AB vB p0_1.taken,dO Ab Af Ad Ae p0_2,AD 9 1 Af eS p0_2.blocks,AY Ad AB vS p0_2.pend,AY Ae AB vB p0_2.bad] H (fun u M=>u=vI r.1∧M=[sO Az As AW Al Ab BL BA p0,AD 43 4 As AV p0.rows,AD 148 3 AW AS p0.pages,Cb Al AB AB p0.gens,AD 55 2 BA AU p0.ring,vO BL Ab A0 Ar r.2.1,AD 55 2 A0 AU r.2.1.ring,AY Ar AB vB r.2.1.taken,dO Ab Af Ad Ae r.2.2,AD 9 1 Af eS r.2.2.blocks,AY Ad AB vS r.2.2.pend,AY Ae AB vB r.2.2.bad]):=by
 unfold EA at h
 refine WN.enter Tryz.func84 rfl rfl ?_
 refine Y (U E (V (AH (Y ?_))))
 refine AF h fun y1 hy1 h=>?_
 refine J E (AT E E (AE E Kk (AG 0 K6 E (SL.pick [8,9,10,11,0,1,2,3,4,5,6,7] 12 (AQ 4 Vb (N9 hy1) E (U E (V (Y (J E ?_)))))))))
 refine Z E BQ (V ?_)
 refine AL h E (fun hc1 h=>?_) fun hc1 h=>?_
 refine Y (J E (U E (V (AK (Aa ?_)))))
 obtain rfl:=zI h
 exact Ac [4,5,6,7,8,9,10,11,0,1,2,3] 12 E E E
 refine AI (AJ (AH ?_))
 refine AF h fun y2 hy2 h=>?_
 refine AF h fun x1 hx1 h=>?_
 refine AF h fun y3 hy3 h=>?_
 refine Ax Cz [4] (Bs [(true,0),(true,1),(true,2),(true,3),(true,6),(true,7),(true,8),(true,9),(true,10),(true,11),(true,12),(true,13),(true,14),(true,15),(true,16),(true,17),(true,18)] (.alt 4 (Bs [(true,5)] (.alt 19 (Bs [(true,20),(true,21),(true,22),(false,23),(false,24)] (.last 25 .nil)) (.cons (false,23) (Bs [(false,19),(true,20),(true,21),(true,22),(false,24)] (.last 25 .nil))))) (.cons (false,23) (Bs [(false,4),(true,5),(false,19),(true,20),(true,21),(true,22),(false,24)] (.last 25 .nil))))) zK (J E (AT E E (AE E Kk (AG 0 K6 E (J E (AT E E (AE E Qg ?_)))))))
 refine AG 0 A4 E (J E (Bt hs1_ E Ca E (J E (J E (Bt hs2_ E FH E (Z E Dc ?_))))))
 refine Co hx1 hs2_ E FH Ea E E fun be1 of1 hc2=>?_
 refine AE E EU ?_
 refine Aw [AB x1.page,vS x1.tag] E DC E E (Wd (d:=1) hc2 E) ?_
 refine OJ ?_ ?_
 focus
  refine BS 4 YQ (Jq hy2) E ⟨⟨4,E⟩,zT⟩ (RX E (show WF Tryz.prog 38 0=some 0 by kernel_rfl) E E ?_)
  refine OJ ?_ ?_
  refine BS 0 Vc ((MR hy3 :)) E ⟨⟨4,E⟩,zT⟩ (J E (Ah E E E (Ah E E E ?_)))
  refine Au E Kq (fun _=>⟨⟨5,E⟩,zT⟩) fun b1=>?_
  rotate_left
  refine Au E Kq (fun _=>⟨⟨5,E⟩,zT⟩) fun b1=>?_
  refine BS 0 Vc ((MR hy3 :)) E ⟨⟨5,E⟩,zT⟩ (J E (Ah E E E (Ah E E E ?_)))
  all_goals
   refine A3 0 E E E E O4 E E E ⟨⟨5,E⟩,zT⟩ (BU (U E (V (AH (Y (J E (Z E BQ (V ?_))))))))
   refine AL h E (fun hc3 h=>?_) fun hc3 h=>?_
   refine Y (J E (U E (V (AK (Aa ?_)))))
   obtain rfl:=zI h
   exact Ac [5,6,7,8,9,10,11,12,1,2,3,4] 13 E E E
   refine AI (AJ (Y ?_))
   refine AF h fun y4 hy4 h=>?_
   refine Aw [Be y3.1.cnt,AB y3.1.gen,AB y3.1.rows,AB y3.1.page,vS y3.1.tag] E KT E E (Ap 0 E) (AQ 0 Zv ((OQ hy4 :)) E (J E (Ah E E E (Ah E E E (U E (U E (V (AH ?_))))))))
   refine AF h fun y5 hy5 h=>?_
   refine AF h fun y6 hy6 h=>?_
   refine Ax Cz [0,5] (Bs [(true,0),(true,1),(true,2),(true,3),(true,4),(true,5),(true,7),(false,6),(false,8),(false,9),(true,10),(true,11),(false,12)] (.last 13 .nil)) zK (J E (AT E E (AE E Nj (AG 1 QA E (AE E NM (AG 0 Gl E (J E ?_)))))))
   refine BS 0 Zx (Qe hy5) E ⟨⟨0,E⟩,⟨5,E⟩,zT⟩ (SL.pick [10,11,12,1,2,3,4,0,5,6,7,8,9] 13 (BS 7 Zw (Re hy6 hS) E ⟨⟨7,E⟩,⟨8,E⟩,zT⟩ (J E (Ah E E E (Ah E E E (U E (BU (U E (V (AH (Y ?_)))))))))))
   refine J E (Z E BQ (V ?_))
   refine AL h E (fun hc4 h=>?_) fun hc4 h=>?_
   refine Y (J E (U E (V (AK (Aa ?_)))))
   obtain rfl:=zI h
   exact Ac [8,9,10,11,12,0,1,2,3,4,5,6] 13 E E E
   refine AI (AJ (AH (Y ?_)))
   refine AF h fun y7 hy7 h=>?_
   refine J E (AT E E (AE E Kk (AG 8 K6 E (SL.pick [3,4,5,6,0,1,2] 7 (AQ 4 Vb (N9 hy7) E (U E (V (Y (J E ?_)))))))))
   refine Z E BQ (V ?_)
   refine AL h E (fun hc5 h=>?_) fun hc5 h=>?_
   refine Y (J E (U E (V (AK (Aa ?_)))))
   obtain rfl:=zI h
   exact Ac [8,9,10,11,12,4,5,6,0,1,2,3] 13 E E E
   refine AI (AJ (Y ?_))
   refine AF h fun y8 hy8 h=>?_
   refine J E (AT E E (AE E Kk (AG 8 K6 E (J E (AQ 4 Zy (Pm hy8) E (U E (V (AK ?_))))))))
   obtain rfl:=zI h
   exact Ac [8,9,10,11,12,4,5,6,0,1,2,3] 13 E E E
 refine Au E Kq (fun _=>⟨⟨5,E⟩,zT⟩) fun b1=>?_
 refine SL.pick [1,2,3,4,0] 5 (BS 4 YQ (Jq hy2) E ⟨⟨5,E⟩,zT⟩ (RX E (show WF Tryz.prog 38 0=some 0 by kernel_rfl) E E (BS 0 Vc ((MR hy3 :)) E ⟨⟨5,E⟩,zT⟩ (J E (Ah E E E (Ah E E E (A3 4 E E E E O4 E E E ⟨⟨5,E⟩,zT⟩ (BU ?_))))))))
 refine U E (V (AH (Y (J E (Z E BQ (V ?_))))))
 refine AL h E (fun hc3 h=>?_) fun hc3 h=>?_
 refine Y (J E (U E (V (AK (Aa ?_)))))
 obtain rfl:=zI h
 exact Ac [5,6,7,8,9,10,11,12,0,1,2,3] 13 E E E
 refine AI (AJ (Y ?_))
 refine AF h fun y4 hy4 h=>?_
 refine Aw [Be y3.1.cnt,AB y3.1.gen,AB y3.1.rows,AB y3.1.page,vS y3.1.tag] E KT E E (Ap 4 E) (AQ 0 Zv ((OQ hy4 :)) E (J E (Ah E E E (Ah E E E (U E (U E (V (AH ?_))))))))
 refine AF h fun y5 hy5 h=>?_
 refine AF h fun y6 hy6 h=>?_
 refine Ax Cz [4,5] (Bs [(true,0),(true,1),(true,2),(true,3),(true,4),(true,5),(true,7),(false,6),(false,8),(false,9),(true,10),(true,11),(false,12)] (.last 13 .nil)) zK (J E (AT E E (AE E Nj (AG 1 QA E (AE E NM (AG 0 Gl E (J E ?_)))))))
 refine BS 0 Zx (Qe hy5) E ⟨⟨4,E⟩,⟨5,E⟩,zT⟩ (SL.pick [10,11,12,0,1,2,3,4,5,6,7,8,9] 13 (BS 7 Zw (Re hy6 hS) E ⟨⟨7,E⟩,⟨8,E⟩,zT⟩ (J E (Ah E E E (Ah E E E (U E (BU (U E (V (AH (Y ?_)))))))))))
 refine J E (Z E BQ (V ?_))
 refine AL h E (fun hc4 h=>?_) fun hc4 h=>?_
 refine Y (J E (U E (V (AK (Aa ?_)))))
 obtain rfl:=zI h
 exact Ac [8,9,10,11,12,0,1,2,3,4,5,6] 13 E E E
 refine AI (AJ (AH (Y ?_)))
 refine AF h fun y7 hy7 h=>?_
 refine J E (AT E E (AE E Kk (AG 8 K6 E (SL.pick [3,4,5,6,0,1,2] 7 (AQ 4 Vb (N9 hy7) E (U E (V (Y (J E ?_)))))))))
 refine Z E BQ (V ?_)
 refine AL h E (fun hc5 h=>?_) fun hc5 h=>?_
 refine Y (J E (U E (V (AK (Aa ?_)))))
 obtain rfl:=zI h
 exact Ac [8,9,10,11,12,4,5,6,0,1,2,3] 13 E E E
 refine AI (AJ (Y ?_))
 refine AF h fun y8 hy8 h=>?_
 refine J E (AT E E (AE E Kk (AG 8 K6 E (J E (AQ 4 Zy (Pm hy8) E (U E (V (AK ?_))))))))
 obtain rfl:=zI h
 exact Ac [8,9,10,11,12,4,5,6,0,1,2,3] 13 E E E
def Es(a2:Int)(nx_f_store_Store_moves_l2:List (UInt32×UInt32)×Int→Option (BF×Am))(l6:List (UInt32×UInt32)):Option (BF×Am):=
 nx_f_store_Store_moves_l2 (l6,wI (a2+1))
def Do(a3:Int)(nx_f_store_Store_moves_l3:Am×Int→Option (BF×Am))(o3:Am):Option (BF×Am):=
 nx_f_store_Store_moves_l3 (o3,wI (a3+1))
def KB(p0:BF)(p1:List Aj)(p2:List Ak)(l4:List (UInt32×UInt32))(o1:Am):Option (BF×Am):=
 some ({ p0 with rows:=p1,pages:=p2,gens:=l4 },o1)
def Cl(p0:BF)(p0_2:Ai)(p1:List Aj)(p2:List Ak)(l4:List (UInt32×UInt32))(nx_f_store_Store_moves_l3:Am×Int→Option (BF×Am))(o2:Am)(a3:Int):Option (BF×Am):=
 cond (decide (a3<(p0.pages.length:Int)))
 (
  (BE p0.pages a3).bind fun x3=>
  ret ((Bn l4 x3.page).getD 0) fun x4=>
  ret ((Bn l4 x3.page).isSome) fun ok_1=>
  cond (!ok_1)
  (
   (Gi o2 p0_2 x3.page).bind fun y1=>
   Do a3 nx_f_store_Store_moves_l3 y1.2)
  (
   Do a3 nx_f_store_Store_moves_l3 o2))
 (
  KB p0 p1 p2 l4 o2)
def Cy(p0:BF)(p0_2:Ai)(p1:List Aj)(p2:List Ak)(l4:List (UInt32×UInt32)):Nat→(Am×Int)→Option (BF×Am):=CI fun nx x=>Cl p0 p0_2 p1 p2 l4 nx x.1 x.2
def KA(n:Nat)(p0:BF)(p0_1:Am)(p0_2:Ai)(p1:List Aj)(p2:List Ak)(l4:List (UInt32×UInt32)):Option (BF×Am):=
 Cy p0 p0_2 p1 p2 l4 n (p0_1,0)
def D6(n:Nat)(p0:BF)(p0_1:Am)(p0_2:Ai)(p1:List Aj)(p2:List Ak)(l1:List (UInt32×Ak))(nx_f_store_Store_moves_l2:List (UInt32×UInt32)×Int→Option (BF×Am))(l5:List (UInt32×UInt32))(a2:Int):Option (BF×Am):=
 cond (decide (a2<(p2.length:Int)))
 (
  (BE p2 a2).bind fun x2=>
  (Km l5 x2.page p0.gen).bind fun l7=>
  cond (decide (((Bn l1 x2.page).getD (⟨[],0,[]⟩:Ak)).txt=x2.txt)&&(decide (((Bn l1 x2.page).getD (⟨[],0,[]⟩:Ak)).page=x2.page)&&(decide (((Bn l1 x2.page).getD (⟨[],0,[]⟩:Ak)).tag=x2.tag)&&true)))
  (
   (Km l7 x2.page ((Bn p0.gens x2.page).getD 0)).bind fun l8=>
   Es a2 nx_f_store_Store_moves_l2 l8)
  (
   Es a2 nx_f_store_Store_moves_l2 l7))
 (
  KA n p0 p0_1 p0_2 p1 p2 l5)
def Dp(n:Nat)(p0:BF)(p0_1:Am)(p0_2:Ai)(p1:List Aj)(p2:List Ak)(l1:List (UInt32×Ak)):Nat→(List (UInt32×UInt32)×Int)→Option (BF×Am):=CI fun nx x=>D6 n p0 p0_1 p0_2 p1 p2 l1 nx x.1 x.2
def J8(n:Nat)(p0:BF)(p0_1:Am)(p0_2:Ai)(p1:List Aj)(p2:List Ak)(l1:List (UInt32×Ak)):Option (BF×Am):=
 Dp n p0 p0_1 p0_2 p1 p2 l1 n ([],0)
def D5(n:Nat)(p0:BF)(p0_1:Am)(p0_2:Ai)(p1:List Aj)(p2:List Ak)(nx_f_store_Store_moves_l1:List (UInt32×Ak)×Int→Option (BF×Am))(l2:List (UInt32×Ak))(a1:Int):Option (BF×Am):=
 cond (decide (a1<(p0.pages.length:Int)))
 (
  (BE p0.pages a1).bind fun x1=>
  (Km l2 x1.page x1).bind fun l3=>
  nx_f_store_Store_moves_l1 (l3,wI (a1+1)))
 (
  J8 n p0 p0_1 p0_2 p1 p2 l2)
def EO(n:Nat)(p0:BF)(p0_1:Am)(p0_2:Ai)(p1:List Aj)(p2:List Ak):Nat→(List (UInt32×Ak)×Int)→Option (BF×Am):=CI fun nx x=>D5 n p0 p0_1 p0_2 p1 p2 nx x.1 x.2
def ET(n:Nat)(p0:BF)(p0_1:Am)(p0_2:Ai)(p1:List Aj)(p2:List Ak):Option (BF×Am):=
 EO n p0 p0_1 p0_2 p1 p2 n ([],0)
theorem P1{n Az BL Ar Ab Ad Ae:Nat}{As AW Al BA A0 Af DE D8:Value}{p0:BF}{p0_1:Am}{p0_2:Ai}{p1:List Aj}{p2:List Ak}{r:BF×Am}(h:ET n p0 p0_1 p0_2 p1 p2=some r): zC K w0 85 [vP Az 0,DE,D8] [sO Az As AW Al Ab BL BA p0,AD 43 4 As AV p0.rows,AD 148 3 AW AS p0.pages,Cb Al AB AB p0.gens,AD 55 2 BA AU p0.ring,vO BL Ab A0 Ar p0_1,AD 55 2 A0 AU p0_1.ring,AY Ar AB vB p0_1.taken,dO Ab Af Ad Ae p0_2,AD 9 1 Af eS p0_2.blocks,AY Ad AB vS p0_2.pend,AY Ae AB vB p0_2.bad,AD 43 4 DE AV p1,AD 148 3 D8 AS p2] H (fun u M=>∃vs0_0_0 vs0_0_1 vs0_0_2:Value,u=.tuple #[]∧M=[sO Az vs0_0_0 vs0_0_1 vs0_0_2 Ab BL BA r.1,AD 43 4 vs0_0_0 AV r.1.rows,AD 148 3 vs0_0_1 AS r.1.pages,Cb vs0_0_2 AB AB r.1.gens,AD 55 2 BA AU r.1.ring,vO BL Ab A0 Ar r.2,AD 55 2 A0 AU r.2.ring,AY Ar AB vB r.2.taken,dO Ab Af Ad Ae p0_2,AD 9 1 Af eS p0_2.blocks,AY Ad AB vS p0_2.pend,AY Ae AB vB p0_2.bad]):=by
 unfold ET at h
 refine WN.enter Tryz.func85 rfl rfl ?_
 refine Y ?_
 refine QZ AB QG E zU fun b1=>?_
 refine U E (V ?_)
 refine A8 (α:=List (UInt32×Ak)) (fun x=>J8 n p0 p0_1 p0_2 p1 p2 x=some r) (fun x=>[(0,vP Az 0),(1,DE),(2,D8),(6,.map (some b1))]) (fun x=>sO Az As AW Al Ab BL BA p0::AD 43 4 As AV p0.rows::AD 148 3 AW AS p0.pages::Cb Al AB AB p0.gens::dO Ab Af Ad Ae p0_2::AD 9 1 Af eS p0_2.blocks::AY Ad AB vS p0_2.pend::AY Ae AB vB p0_2.bad::vO BL Ab A0 Ar p0_1::AD 55 2 A0 AU p0_1.ring::AY Ar AB vB p0_1.taken::AD 55 2 BA AU p0.ring::AD 43 4 DE AV p1::AD 148 3 D8 AS p2::AY b1 AB QG x::H) ?_ (fun l1 D h=>?_)
 refine Y (J E (AT E E (AE E Iq (AE E Rk (AG 1 K7 E (DL 3 E FH E E (J E (V (AN ?_)))))))))
 refine SX.heap (SX.mono (BK (α:=Nat×List (UInt32×Ak)×Int) (fun x=>EO n p0 p0_1 p0_2 p1 p2 x.1 (x.2.1,x.2.2)=some r) (fun x=>[(0,vP Az 0),(1,DE),(2,D8),(6,.map (some b1)),(21,AW),(22,vI (p0.pages.length:Int)),(23,vI x.2.2)]) (fun x=>sO Az As AW Al Ab BL BA p0::AD 43 4 As AV p0.rows::AD 148 3 AW AS p0.pages::Cb Al AB AB p0.gens::dO Ab Af Ad Ae p0_2::AD 9 1 Af eS p0_2.blocks::AY Ad AB vS p0_2.pend::AY Ae AB vB p0_2.bad::vO BL Ab A0 Ar p0_1::AD 55 2 A0 AU p0_1.ring::AY Ar AB vB p0_1.taken::AD 55 2 BA AU p0.ring::AD 43 4 DE AV p1::AD 148 3 D8 AS p2::AY b1 AB QG x.2.1::H) (fun x=>x.1) (fun x D h=>?_) (n,[],0) h) tL) (BM [1,2,3,4,9,10,11,12,6,7,8,5,13,14,0] 15 E E E)
 obtain⟨m1,l2,a1⟩:=x
 dsimp only at h
 rcases m1 with _ | m1
 cases (show(none:Option _)=some r from h)
 replace h:D5 n p0 p0_1 p0_2 p1 p2 (EO n p0 p0_1 p0_2 p1 p2 m1) l2 a1=some r:=h
 unfold D5 at h
 try dsimp only
 refine Y (Z E A9 (V (AH ?_)))
 refine AL h E (fun hc1 h=>?_) fun hc1 h=>?_
 refine AI (AJ (AH (AN (Y ?_))))
 refine AF h fun x1 hx1 h=>?_
 refine B6 2 hx1 E FH Ea E E E fun g1 m2 cp1 hv1=>?_
 refine Aw (AS x1) E Lr E E (H2 (sz:=3) (enc:=AS) 2 zV E hv1 hx1) ?_
 refine Au E In zU fun b2=>?_
 refine A3 0 E E E E Ea E E E zT (V (AM ?_))
 refine AF h fun l3 hl3 h=>?_
 refine J E (AE E EU (AE E Ds (AG 0 A4 E (Aw [vS x1.txt,AB x1.page,vS x1.tag] E Lr E E (Ap 0 E) ?_))))
 refine M9 (a:=x1) 15 hl3 (QY CD) E hY E E E E zT ?_
 refine AZ (Av (AJ (AM (Z E Bc (J E (AZ ?_))))))
 exact A1 (m1,l3,wI (a1+1)) h (Nat.lt_succ_self _) tL (BM [1,2,3,4,5,6,7,8,9,10,11,12,13,14,15] 16 E E E)
 refine A5 (BC (Bb (BB ?_)))
 exact Aq l2 h tL (BM [0,1,2,3,4,5,6,7,8,9,10,11,12,13,14] 15 E E E)
 unfold J8 at h
 try dsimp only
 refine Y ?_
 refine QZ AB AB E zU fun b3=>?_
 refine U E (V ?_)
 refine A8 (α:=List (UInt32×UInt32)) (fun x=>KA n p0 p0_1 p0_2 p1 p2 x=some r) (fun x=>[(0,vP Az 0),(1,DE),(2,D8),(9,.map (some b3))]) (fun x=>sO Az As AW Al Ab BL BA p0::AD 43 4 As AV p0.rows::AD 148 3 AW AS p0.pages::Cb Al AB AB p0.gens::dO Ab Af Ad Ae p0_2::AD 9 1 Af eS p0_2.blocks::AY Ad AB vS p0_2.pend::AY Ae AB vB p0_2.bad::vO BL Ab A0 Ar p0_1::AD 55 2 A0 AU p0_1.ring::AY Ar AB vB p0_1.taken::AD 55 2 BA AU p0.ring::AD 43 4 DE AV p1::AD 148 3 D8 AS p2::AY b3 AB AB x::H) ?_ (fun l4 D h=>?_)
 refine Y (J E (DL 14 E FH E E (J E (V (AN ?_)))))
 refine SX.heap (SX.mono (BK (α:=Nat×List (UInt32×UInt32)×Int) (fun x=>Dp n p0 p0_1 p0_2 p1 p2 l1 x.1 (x.2.1,x.2.2)=some r) (fun x=>[(0,vP Az 0),(1,DE),(2,D8),(6,.map (some b1)),(9,.map (some b3)),(34,D8),(35,vI (p2.length:Int)),(36,vI x.2.2)]) (fun x=>sO Az As AW Al Ab BL BA p0::AD 43 4 As AV p0.rows::AD 148 3 AW AS p0.pages::Cb Al AB AB p0.gens::dO Ab Af Ad Ae p0_2::AD 9 1 Af eS p0_2.blocks::AY Ad AB vS p0_2.pend::AY Ae AB vB p0_2.bad::vO BL Ab A0 Ar p0_1::AD 55 2 A0 AU p0_1.ring::AY Ar AB vB p0_1.taken::AD 55 2 BA AU p0.ring::AD 43 4 DE AV p1::AD 148 3 D8 AS p2::AY b1 AB QG l1::AY b3 AB AB x.2.1::H) (fun x=>x.1) (fun x D h=>?_) (n,[],0) h) tL) (BM [1,2,3,4,5,6,7,8,9,10,11,12,13,14,15,0] 16 E E E)
 obtain⟨m3,l5,a2⟩:=x
 dsimp only at h
 rcases m3 with _ | m3
 cases (show(none:Option _)=some r from h)
 replace h:D6 n p0 p0_1 p0_2 p1 p2 l1 (Dp n p0 p0_1 p0_2 p1 p2 l1 m3) l5 a2=some r:=h
 unfold D6 at h
 try dsimp only
 refine Y (Z E A9 (V (AH ?_)))
 refine AL h E (fun hc2 h=>?_) fun hc2 h=>?_
 refine AI (AJ ?_)
 refine A8 (α:=List (UInt32×UInt32)) (fun x=>Es a2 (Dp n p0 p0_1 p0_2 p1 p2 l1 m3) x=some r) (fun x=>[(0,vP Az 0),(1,DE),(2,D8),(6,.map (some b1)),(9,.map (some b3)),(34,D8),(35,vI (p2.length:Int)),(36,vI a2)]) (fun x=>sO Az As AW Al Ab BL BA p0::AD 43 4 As AV p0.rows::AD 148 3 AW AS p0.pages::Cb Al AB AB p0.gens::dO Ab Af Ad Ae p0_2::AD 9 1 Af eS p0_2.blocks::AY Ad AB vS p0_2.pend::AY Ae AB vB p0_2.bad::vO BL Ab A0 Ar p0_1::AD 55 2 A0 AU p0_1.ring::AY Ar AB vB p0_1.taken::AD 55 2 BA AU p0.ring::AD 43 4 DE AV p1::AD 148 3 D8 AS p2::AY b1 AB QG l1::AY b3 AB AB x::H) ?_ (fun l6 D h=>?_)
 refine AN (Y ?_)
 refine AF h fun x2 hx2 h=>?_
 refine B6 13 hx2 E FH Ea E E E fun g2 m4 cp2 hv2=>?_
 refine Aw (AS x2) E Lr E E (H2 (sz:=3) (enc:=AS) 13 zV E hv2 hx2) ?_
 refine Au E In zU fun b4=>?_
 refine A3 0 E E E E Ea E E E zT (V (AH ?_))
 refine AF h fun l7 hl7 h=>?_
 refine Ax Cz [0,1] (Bs (G4 0 8) (.last 8 .nil)) zK (J E (AE E EU (AE E Ds (AG 0 A4 E (J E (AT E E (AE E Qg ?_)))))))
 refine AG 1 A4 E (BU (M9 16 hl7 (Ja CD) E WL E E E E zT (V (Y (J E (AE E EU (AE E Ds (AG 0 A4 E ?_))))))))
 refine VZ (zv:=(⟨[],0,[]⟩:Ak)) 15 (QY CD) E hY In E E E ?_
 refine Aw [vS x2.txt,AB x2.page,vS x2.tag] E Lr E E (Ap 0 E) ?_
 refine WR E (show dg Tryz.prog 148=some [(0,.string),(1,.int .u32),(2,.string)] by kernel_rfl) E E (C2 E E (TK (a:=((Bn l1 x2.page).getD (⟨[],0,[]⟩:Ak)).txt) (b:=x2.txt)) (C2 E E (MT (a:=((Bn l1 x2.page).getD (⟨[],0,[]⟩:Ak)).page) (b:=x2.page)) (C2 E E (TK (a:=((Bn l1 x2.page).getD (⟨[],0,[]⟩:Ak)).tag) (b:=x2.tag)) Kj))) ?_
 refine V ?_
 refine AL h E (fun hc3 h=>?_) fun hc3 h=>?_
 refine AF h fun l8 hl8 h=>?_
 refine Ax Cz [0,1,4] (Bs (G4 0 13) (.last 13 .nil)) zK (J E (AE E EU (AE E Ds (AG 0 A4 E (J E (AT E E (AE E Iq ?_)))))))
 refine AE E Z7 (AG 1 nr E (AE E EU (AE E Ds (AG 0 A4 E ?_))))
 refine XB (zv:=0) 2 (Ja CD) E WL H5 E E E ?_
 refine BU (M9 16 hl8 (Ja CD) E WL E E E E zT (AZ (Av ?_)))
 exact Aq l8 h tL (BM [1,2,3,4,5,6,7,8,9,10,11,12,13,14,15,16] 17 E E E)
 refine AI (Av ?_)
 exact Aq l7 h tL (BM [1,2,3,4,5,6,7,8,9,10,11,12,13,14,15,16] 17 E E E)
 unfold Es at h
 try dsimp only
 refine AM (Z E Bc (J E (AZ ?_)))
 exact A1 (m3,l6,wI (a2+1)) h (Nat.lt_succ_self _) tL (BM [0,1,2,3,4,5,6,7,8,9,10,11,12,13,14,15] 16 E E E)
 refine A5 (BC (Bb (BB ?_)))
 exact Aq l5 h tL (BM [0,1,2,3,4,5,6,7,8,9,10,11,12,13,15] 16 E E E)
 unfold KA at h
 try dsimp only
 refine A8 (α:=Am) (fun x=>KB p0 p1 p2 l4 x=some r) (fun x=>[(0,vP Az 0),(1,DE),(2,D8),(9,.map (some b3))]) (fun x=>sO Az As AW Al Ab BL BA p0::AD 43 4 As AV p0.rows::AD 148 3 AW AS p0.pages::Cb Al AB AB p0.gens::dO Ab Af Ad Ae p0_2::AD 9 1 Af eS p0_2.blocks::AY Ad AB vS p0_2.pend::AY Ae AB vB p0_2.bad::vO BL Ab A0 Ar x::AD 55 2 A0 AU x.ring::AY Ar AB vB x.taken::AD 55 2 BA AU p0.ring::AD 43 4 DE AV p1::AD 148 3 D8 AS p2::AY b3 AB AB l4::H) ?_ (fun o1 D h=>?_)
 refine Y (J E (AT E E (AE E Iq (AE E Rk (AG 0 K7 E (DL 2 E FH E E (J E (V (AN ?_)))))))))
 refine SX.heap (SX.mono (BK (α:=Nat×Am×Int) (fun x=>Cy p0 p0_2 p1 p2 l4 x.1 (x.2.1,x.2.2)=some r) (fun x=>[(0,vP Az 0),(1,DE),(2,D8),(9,.map (some b3)),(73,AW),(74,vI (p0.pages.length:Int)),(75,vI x.2.2)]) (fun x=>sO Az As AW Al Ab BL BA p0::AD 43 4 As AV p0.rows::AD 148 3 AW AS p0.pages::Cb Al AB AB p0.gens::dO Ab Af Ad Ae p0_2::AD 9 1 Af eS p0_2.blocks::AY Ad AB vS p0_2.pend::AY Ae AB vB p0_2.bad::vO BL Ab A0 Ar x.2.1::AD 55 2 A0 AU x.2.1.ring::AY Ar AB vB x.2.1.taken::AD 55 2 BA AU p0.ring::AD 43 4 DE AV p1::AD 148 3 D8 AS p2::AY b3 AB AB l4::H) (fun x=>x.1) (fun x D h=>?_) (n,p0_1,0) h) tL) (BM [0,1,2,3,4,5,6,7,8,9,10,11,12,13,14] 15 E E E)
 obtain⟨m5,o2,a3⟩:=x
 dsimp only at h
 rcases m5 with _ | m5
 cases (show(none:Option _)=some r from h)
 replace h:Cl p0 p0_2 p1 p2 l4 (Cy p0 p0_2 p1 p2 l4 m5) o2 a3=some r:=h
 unfold Cl at h
 try dsimp only
 refine Y (Z E A9 (V (AH ?_)))
 refine AL h E (fun hc4 h=>?_) fun hc4 h=>?_
 refine AI (AJ ?_)
 refine A8 (α:=Am) (fun x=>Do a3 (Cy p0 p0_2 p1 p2 l4 m5) x=some r) (fun x=>[(0,vP Az 0),(1,DE),(2,D8),(9,.map (some b3)),(73,AW),(74,vI (p0.pages.length:Int)),(75,vI a3)]) (fun x=>sO Az As AW Al Ab BL BA p0::AD 43 4 As AV p0.rows::AD 148 3 AW AS p0.pages::Cb Al AB AB p0.gens::dO Ab Af Ad Ae p0_2::AD 9 1 Af eS p0_2.blocks::AY Ad AB vS p0_2.pend::AY Ae AB vB p0_2.bad::vO BL Ab A0 Ar x::AD 55 2 A0 AU x.ring::AY Ar AB vB x.taken::AD 55 2 BA AU p0.ring::AD 43 4 DE AV p1::AD 148 3 D8 AS p2::AY b3 AB AB l4::H) ?_ (fun o3 D h=>?_)
 refine AN (Y ?_)
 refine AF h fun x3 hx3 h=>?_
 refine B6 2 hx3 E FH Ea E E E fun g3 m6 cp3 hv3=>?_
 refine Aw (AS x3) E Lr E E (H2 (sz:=3) (enc:=AS) 2 zV E hv3 hx3) ?_
 refine Au E In zU fun b5=>?_
 refine A3 0 E E E E Ea E E E zT (V (Y ?_))
 obtain⟨x4,ex4,h⟩:=Bz h
 obtain⟨ok_1,eok_1,h⟩:=Bz h
 refine J E (AE E EU (AE E Ds (AG 0 A4 E ?_)))
 refine YE (zv:=0) 15 (Ja CD) E WL H5 E E E ?_
 refine J E (Ah E E E (Ah E E E ?_))
 refine Ay (u:=AB x4) E E (congrArg AB ex4) ?_
 refine Ay (u:=vB ok_1) E E (congrArg vB eok_1) ?_
 refine V (Y (J E (CF E E (V ?_))))
 refine AL h E (fun hc5 h=>?_) fun hc5 h=>?_
 refine AF h fun y1 hy1 h=>?_
 refine Ax Cz [0,1] (Bs (G4 0 7) (.last 7 .nil)) zK (J E (AT E E (AE E Nj (AG 1 QA E (AE E EU (AE E Ds (AG 0 A4 E (BU ?_))))))))
 refine SL.pick [9,10,11,5,6,7,8,0,1,2,3,4] 12 (AQ 7 fi (Wb hy1) E (AZ (Av ?_)))
 exact Aq y1.2 h tL (BM [8,9,10,11,3,4,5,6,0,1,2,12,13,14,15] 16 E E E)
 refine AI (Av ?_)
 exact Aq o2 h tL (BM [1,2,3,4,5,6,7,8,9,10,11,12,13,14,15] 16 E E E)
 unfold Do at h
 try dsimp only
 refine AM (Z E Bc (J E (AZ ?_)))
 exact A1 (m5,o3,wI (a3+1)) h (Nat.lt_succ_self _) tL (BM [0,1,2,3,4,5,6,7,8,9,10,11,12,13,14] 15 E E E)
 refine A5 (BC (Bb (BB ?_)))
 exact Aq o2 h tL (BM [0,1,2,3,4,5,6,7,8,9,10,11,12,13,14] 15 E E E)
 unfold KB at h
 try dsimp only
 refine AM (J E (J E (J E (J E ?_))))
 refine Cs 12 E fun hv4 ho1=>?_
 refine Cs 13 E fun hv5 ho2=>?_
 refine UP [DE,D8,.map (some b3)] [#[DE],#[D8],#[.map (some b3)]] (by simp only[List.map_cons,List.map_nil,hv4,hv5];rfl) E wS wQ wa ⟨E,E,E,zT⟩ E (AT E E (AE E Iq ?_))
 refine Cs 12 E fun hv6 ho3=>?_
 refine Cs 13 E fun hv7 ho4=>?_
 refine A3 0 E E E E wW E (show[DE,D8,.map (some b3)].all (·.oneCell')=true by simp only[List.all_cons,ho3,ho4];rfl) E zT ?_
 refine mS 14 E ?_ zT
 refine AZ ?_
 obtain rfl:=zI h
 exact Da (Ed E) (Ao (M:=[_,_,_,_,_,_,_,_,_,_,_,_]) ⟨DE,D8,(.map (some b3)),E,E⟩ fun _ hw=>Bj.pick (H:=[_,_,_,_,_,_,_,_,_,_,_,_,_,_,_]) hw [0,12,13,14,11,8,9,10,4,5,6,7] 15 E)
def ED(n:Nat)(p0:BF)(p1:List Aj)(y1:List Ak×Int×Am×Ai)(o1:Ai)(o2:Am)(a1:Int):Option (Int×BF×Am×Ai):=
 cond (!decide (a1=0))
 (
  some (a1,{ p0 with bad:=true },o2,o1))
 (
  (ET n p0 o2 o1 p1 y1.1).bind fun y3=>
  some (0,y3.1,y3.2,o1))
def DR(n:Nat)(T:List UInt32)(p0:BF)(p0_1:Am)(p0_2:Ai)(p1:List Aj)(p2:List Ak):Option (Int×BF×Am×Ai):=
 (Pe n T p0_1 p0_2 p1 p2).bind fun y1=>
 ret (decide (y1.2.1=110)) fun x1=>
 cond x1
 (
  some (y1.2.1,p0,y1.2.2.1,y1.2.2.2))
 (
  ret (decide (y1.2.1=0)) fun x2=>
  cond x2
  (
   (EA n T p0 y1.2.2.1 y1.2.2.2 p1 y1.1).bind fun y2=>
   ED n p0 p1 y1 y2.2.2 y2.2.1 y2.1)
  (
   ED n p0 p1 y1 y1.2.2.2 y1.2.2.1 y1.2.1))
theorem UH{n Az BL Ar Ab Ad Ae:Nat}{T:List UInt32}{As AW Al BA A0 Af DE D8:Value}{p0:BF}{p0_1:Am}{p0_2:Ai}{p1:List Aj}{p2:List Ak}{r:Int×BF×Am×Ai}(h:DR n T p0 p0_1 p0_2 p1 p2=some r)(hS:Gk K w0 T)(hs2_:By K w0 AS 3 D8 p2):zC K w0 55 [vP Az 0,DE,D8] [sO Az As AW Al Ab BL BA p0,AD 43 4 As AV p0.rows,AD 148 3 AW AS p0.pages,Cb Al AB AB p0.gens,AD 55 2 BA AU p0.ring,vO BL Ab A0 Ar p0_1,AD 55 2 A0 AU p0_1.ring,AY Ar AB vB p0_1.taken,dO Ab Af Ad Ae p0_2,AD 9 1 Af eS p0_2.blocks,AY Ad AB vS p0_2.pend,AY Ae AB vB p0_2.bad,AD 43 4 DE AV p1] H (fun u M=>∃vs0_0_0 vs0_0_1 vs0_0_2:Value,u=vI r.1∧M=[sO Az vs0_0_0 vs0_0_1 vs0_0_2 Ab BL BA r.2.1,AD 43 4 vs0_0_0 AV r.2.1.rows,AD 148 3 vs0_0_1 AS r.2.1.pages,Cb vs0_0_2 AB AB r.2.1.gens,AD 55 2 BA AU r.2.1.ring,vO BL Ab A0 Ar r.2.2.1,AD 55 2 A0 AU r.2.2.1.ring,AY Ar AB vB r.2.2.1.taken,dO Ab Af Ad Ae r.2.2.2,AD 9 1 Af eS r.2.2.2.blocks,AY Ad AB vS r.2.2.2.pend,AY Ae AB vB r.2.2.2.bad]):=by
 unfold DR at h
 refine WN.enter Tryz.func55 rfl rfl ?_
 refine Y (U E (V (Y ?_)))
 refine AF h fun y1 hy1 h=>?_
 refine J E (AT E E (AE E Nj (AG 0 QA E (J E (J E (SL.pick [12,5,6,7,8,9,10,11,0,1,2,3,4] 13 ?_))))))
 refine BT (vs:=[_,_,_]) (Hin:=[_,_,_,_,_,_,_,_]) (Hr:=_::_::_::_::_::_) E E ⟨E,E,E,zT⟩ ku E E (CJ (B:=[_]) (Hin:=[_,_,_,_,_,_,_]) fun K' w1 hk hB=>iG hy1 (hS.keeps hk) (Bp (e:=43) (v:=DE) zV (hB _ zS)) (hs2_.keeps hk)) ?_
 rintro _ _ ⟨_,rfl,v1,rfl,rfl⟩
 refine⟨trivial,?_⟩
 refine J E (Ah E E E (Ah E E E (U E (U E (V ?_)))))
 refine A8 (α:=Ai×Am×Int) (fun x=>ED n p0 p1 y1 x.1 x.2.1 x.2.2=some r) (fun x=>[(0,vP Az 0),(1,DE),(7,v1),(8,vI x.2.2)]) (fun x=>sO Az As AW Al Ab BL BA p0::AD 43 4 As AV p0.rows::AD 148 3 AW AS p0.pages::Cb Al AB AB p0.gens::dO Ab Af Ad Ae x.1::AD 9 1 Af eS x.1.blocks::AY Ad AB vS x.1.pend::AY Ae AB vB x.1.bad::vO BL Ab A0 Ar x.2.1::AD 55 2 A0 AU x.2.1.ring::AY Ar AB vB x.2.1.taken::AD 55 2 BA AU p0.ring::AD 43 4 DE AV p1::AD 148 3 v1 AS y1.1::H) ?_ (fun x D h=>?_)
 refine Y (J E (V (AN (Y ?_))))
 obtain⟨x1,ex1,h⟩:=Bz h
 refine Z E Ba ?_
 refine Ay (u:=vB x1) E E (congrArg vB ex1) ?_
 refine V ?_
 refine AL h E (fun hc1 h=>?_) fun hc1 h=>?_
 refine Y (J E (U E (V (AK (BI (FY ?_))))))
 obtain rfl:=zI h
 exact BH [9,10,11,12,13,2,3,4,5,6,7,8] 14 (Cx E E) E E ⟨As,AW,Al,E,E⟩
 refine Y ?_
 obtain⟨x2,ex2,h⟩:=Bz h
 refine Z E Ba ?_
 refine Ay (u:=vB x2) E E (congrArg vB ex2) ?_
 refine V ?_
 refine AL h E (fun hc2 h=>?_) fun hc2 h=>?_
 refine AM ?_
 refine AF h fun y2 hy2 h=>?_
 refine J E (J E (J E (SL.pick [0,1,9,10,11,12,13,2,3,4,5,6,7,8] 14 ?_)))
 refine BT (vs:=[_,_,_]) (Hin:=[_,_,_,_,_,_,_,_,_,_,_,_,_,_]) (Hr:=_) E E ⟨E,E,E,zT⟩ kw E E (CJ (B:=[_,_]) (Hin:=[_,_,_,_,_,_,_,_,_,_,_,_]) fun K' w1 hk hB=>OS hy2 (hS.keeps hk) (Bp (e:=43) (v:=DE) zV (hB _ zS)) (Bp (e:=148) (v:=v1) zV (hB _ zS))) ?_
 rintro _ _ ⟨_,rfl,rfl,rfl⟩
 refine⟨trivial,?_⟩
 refine U E (AZ (Av ?_))
 exact Aq (y2.2.2,y2.2.1,y2.1) h tL (BM [2,3,4,5,10,11,12,13,7,8,9,6,0,1] 14 E E E)
 refine AI (Av ?_)
 exact Aq (y1.2.2.2,y1.2.2.1,y1.2.1) h tL (BM [9,10,11,12,5,6,7,8,2,3,4,13,0,1] 14 E E E)
 obtain⟨o1,o2,a1⟩:=x
 dsimp only at h
 unfold ED at h
 try dsimp only
 refine AH (Y (J E (Z E BQ (V ?_))))
 refine AL h E (fun hc3 h=>?_) fun hc3 h=>?_
 refine Y (J E (AT E E (AE E Z8 (A3 0 E E E E Ql E E E zT (V (Y (J E (U E (V (AK (Aa ?_)))))))))))
 obtain rfl:=zI h
 exact BH [0,1,2,3,11,8,9,10,4,5,6,7] 14 (Cx E E) E E ⟨As,AW,Al,E,E⟩
 refine AI (AJ (Y ?_))
 refine AF h fun y3 hy3 h=>?_
 refine J E (J E (J E (SL.pick [0,1,2,3,11,8,9,10,4,5,6,7,12,13] 14 (BY 14 kx (P1 hy3) E ?_))))
 rintro _ _ ⟨v2,v3,v4,rfl,rfl⟩
 refine V (Y (U E (V (AK ?_))))
 obtain rfl:=zI h
 exact BH [0,1,2,3,4,5,6,7,8,9,10,11] 12 (Cx E E) E E ⟨v2,v3,v4,E,E⟩
def GZ(n:Nat)(p0:BF)(p1:List Aj)(y1:List Ak×Int×Am×Ai)(o1:Ai)(o2:Am)(a1:Int):Option (Int×BF×Am×Ai):=
 cond (!decide (a1=0))
 (
  some (a1,{ p0 with bad:=true },o2,o1))
 (
  (ET n p0 o2 o1 p1 y1.1).bind fun y3=>
  some (0,y3.1,y3.2,o1))
def GJ(n:Nat)(T:List UInt32)(p0:BF)(p0_1:Am)(p0_2:Ai)(p1:List Aj):Option (Int×BF×Am×Ai):=
 (Pe n T p0_1 p0_2 p1 p0.pages).bind fun y1=>
 ret (decide (y1.2.1=110)) fun x1=>
 cond x1
 (
  some (y1.2.1,p0,y1.2.2.1,y1.2.2.2))
 (
  ret (decide (y1.2.1=0)) fun x2=>
  cond x2
  (
   (EA n T p0 y1.2.2.1 y1.2.2.2 p1 y1.1).bind fun y2=>
   GZ n p0 p1 y1 y2.2.2 y2.2.1 y2.1)
  (
   GZ n p0 p1 y1 y1.2.2.2 y1.2.2.1 y1.2.1))
theorem TH{n Az BL Ar Ab Ad Ae:Nat}{T:List UInt32}{As AW Al BA A0 Af DE:Value}{p0:BF}{p0_1:Am}{p0_2:Ai}{p1:List Aj}{r:Int×BF×Am×Ai}(h:GJ n T p0 p0_1 p0_2 p1=some r)(hS:Gk K w0 T):zC K w0 55 [vP Az 0,DE,AW] [sO Az As AW Al Ab BL BA p0,AD 43 4 As AV p0.rows,AD 148 3 AW AS p0.pages,Cb Al AB AB p0.gens,AD 55 2 BA AU p0.ring,vO BL Ab A0 Ar p0_1,AD 55 2 A0 AU p0_1.ring,AY Ar AB vB p0_1.taken,dO Ab Af Ad Ae p0_2,AD 9 1 Af eS p0_2.blocks,AY Ad AB vS p0_2.pend,AY Ae AB vB p0_2.bad,AD 43 4 DE AV p1] H (fun u M=>∃vs0_0_0 vs0_0_1 vs0_0_2:Value,u=vI r.1∧M=[sO Az vs0_0_0 vs0_0_1 vs0_0_2 Ab BL BA r.2.1,AD 43 4 vs0_0_0 AV r.2.1.rows,AD 148 3 vs0_0_1 AS r.2.1.pages,Cb vs0_0_2 AB AB r.2.1.gens,AD 55 2 BA AU r.2.1.ring,vO BL Ab A0 Ar r.2.2.1,AD 55 2 A0 AU r.2.2.1.ring,AY Ar AB vB r.2.2.1.taken,dO Ab Af Ad Ae r.2.2.2,AD 9 1 Af eS r.2.2.2.blocks,AY Ad AB vS r.2.2.2.pend,AY Ae AB vB r.2.2.2.bad]):=by
 unfold GJ at h
 refine WN.enter Tryz.func55 rfl rfl ?_
 refine Y (U E (V (Y ?_)))
 refine AF h fun y1 hy1 h=>?_
 refine J E (AT E E (AE E Nj (AG 0 QA E (J E (J E (SL.pick [12,2,5,6,7,8,9,10,11,0,1,3,4] 13 ?_))))))
 refine BT (vs:=[_,_,_]) (Hin:=[_,_,_,_,_,_,_,_,_]) (Hr:=_::_::_::_::_) E E ⟨E,E,E,zT⟩ ku E E (CJ (B:=[_,_]) (Hin:=[_,_,_,_,_,_,_]) fun K' w1 hk hB=>iG hy1 (hS.keeps hk) (Bp (e:=43) (v:=DE) zV (hB _ zS)) (Bp (e:=148) (v:=AW) zV (hB _ zS))) ?_
 rintro _ _ ⟨_,rfl,v1,rfl,rfl⟩
 refine⟨trivial,?_⟩
 refine J E (Ah E E E (Ah E E E (U E (U E (V ?_)))))
 refine A8 (α:=Ai×Am×Int) (fun x=>GZ n p0 p1 y1 x.1 x.2.1 x.2.2=some r) (fun x=>[(0,vP Az 0),(1,DE),(7,v1),(8,vI x.2.2)]) (fun x=>sO Az As AW Al Ab BL BA p0::AD 43 4 As AV p0.rows::AD 148 3 AW AS p0.pages::Cb Al AB AB p0.gens::dO Ab Af Ad Ae x.1::AD 9 1 Af eS x.1.blocks::AY Ad AB vS x.1.pend::AY Ae AB vB x.1.bad::vO BL Ab A0 Ar x.2.1::AD 55 2 A0 AU x.2.1.ring::AY Ar AB vB x.2.1.taken::AD 55 2 BA AU p0.ring::AD 43 4 DE AV p1::AD 148 3 v1 AS y1.1::H) ?_ (fun x D h=>?_)
 refine Y (J E (V (AN (Y ?_))))
 obtain⟨x1,ex1,h⟩:=Bz h
 refine Z E Ba ?_
 refine Ay (u:=vB x1) E E (congrArg vB ex1) ?_
 refine V ?_
 refine AL h E (fun hc1 h=>?_) fun hc1 h=>?_
 refine Y (J E (U E (V (AK (BI (FY ?_))))))
 obtain rfl:=zI h
 exact BH [10,11,1,12,13,3,4,5,6,7,8,9] 14 (Cx E E) E E ⟨As,AW,Al,E,E⟩
 refine Y ?_
 obtain⟨x2,ex2,h⟩:=Bz h
 refine Z E Ba ?_
 refine Ay (u:=vB x2) E E (congrArg vB ex2) ?_
 refine V ?_
 refine AL h E (fun hc2 h=>?_) fun hc2 h=>?_
 refine AM ?_
 refine AF h fun y2 hy2 h=>?_
 refine J E (J E (J E (SL.pick [0,2,10,11,1,12,13,3,4,5,6,7,8,9] 14 ?_)))
 refine BT (vs:=[_,_,_]) (Hin:=[_,_,_,_,_,_,_,_,_,_,_,_,_,_]) (Hr:=_) E E ⟨E,E,E,zT⟩ kw E E (CJ (B:=[_,_]) (Hin:=[_,_,_,_,_,_,_,_,_,_,_,_]) fun K' w1 hk hB=>OS hy2 (hS.keeps hk) (Bp (e:=43) (v:=DE) zV (hB _ zS)) (Bp (e:=148) (v:=v1) zV (hB _ zS))) ?_
 rintro _ _ ⟨_,rfl,rfl,rfl⟩
 refine⟨trivial,?_⟩
 refine U E (AZ (Av ?_))
 exact Aq (y2.2.2,y2.2.1,y2.1) h tL (BM [2,3,4,5,10,11,12,13,7,8,9,6,0,1] 14 E E E)
 refine AI (Av ?_)
 exact Aq (y1.2.2.2,y1.2.2.1,y1.2.1) h tL (BM [10,11,1,12,6,7,8,9,3,4,5,13,0,2] 14 E E E)
 obtain⟨o1,o2,a1⟩:=x
 dsimp only at h
 unfold GZ at h
 try dsimp only
 refine AH (Y (J E (Z E BQ (V ?_))))
 refine AL h E (fun hc3 h=>?_) fun hc3 h=>?_
 refine Y (J E (AT E E (AE E Z8 (A3 0 E E E E Ql E E E zT (V (Y (J E (U E (V (AK (Aa ?_)))))))))))
 obtain rfl:=zI h
 exact BH [0,1,2,3,11,8,9,10,4,5,6,7] 14 (Cx E E) E E ⟨As,AW,Al,E,E⟩
 refine AI (AJ (Y ?_))
 refine AF h fun y3 hy3 h=>?_
 refine J E (J E (J E (SL.pick [0,1,2,3,11,8,9,10,4,5,6,7,12,13] 14 (BY 14 kx (P1 hy3) E ?_))))
 rintro _ _ ⟨v2,v3,v4,rfl,rfl⟩
 refine V (Y (U E (V (AK ?_))))
 obtain rfl:=zI h
 exact BH [0,1,2,3,4,5,6,7,8,9,10,11] 12 (Cx E E) E E ⟨v2,v3,v4,E,E⟩
def Ki(o1:Ai)(o2:BF)(o3:Am)(a1:Int):Option (Option (BF×Am)×Int×Ai):=
 cond (!decide (a1=0))
 (
  some (none,a1,o1))
 (
  some (some (o2,o3),0,o1))
def I3(n:Nat)(T:List UInt32)(p0:Ai)(p1:List BD):Option (Option (BF×Am)×Int×Ai):=
 (Cf p1).bind fun y1=>
 (GA (decide (y1.2=0)) ((GU p0).bind fun y2=>some (y2))).bind fun y3=>
 cond y3
 (
  some (none,72,p0))
 (
  (L5 p0 p1).bind fun y4=>
  (y4.1).bind fun d1=>
  cond (decide (y4.2.1=0))
  (
   (DR n T d1.1 d1.2 y4.2.2 [] []).bind fun y5=>
   Ki y5.2.2.2 y5.2.1 y5.2.2.1 y5.1)
  (
   Ki y4.2.2 d1.1 d1.2 y4.2.1))
theorem Zk{n Az BJ CG:Nat}{T:List UInt32}{CH DE:Value}{p0:Ai}{p1:List BD}{r:Option (BF×Am)×Int×Ai}(h:I3 n T p0 p1=some r)(hS:Gk K w0 T)(hs1_:By K w0 AU 2 DE p1):zC K w0 29 [vP Az 0,DE] [dO Az CH BJ CG p0,AD 9 1 CH eS p0.blocks,AY BJ AB vS p0.pend,AY CG AB vB p0.bad] H (fun u M=>(r.1=none∧u=.tuple #[.pointer none,vI r.2.1]∧M=[dO Az CH BJ CG r.2.2,AD 9 1 CH eS r.2.2.blocks,AY BJ AB vS r.2.2.pend,AY CG AB vB r.2.2.bad])∨(∃(d:BF×Am) (bn0:Nat) (vn0x0:Value) (vn0x1:Value) (vn0x2:Value) (vn0x5:Value) (bn1:Nat) (vn1x1:Value) (mn1x5:Nat),r.1=some d∧u=.tuple #[vP bn0 0,vI r.2.1]∧M=[sO bn0 vn0x0 vn0x1 vn0x2 Az bn1 vn0x5 d.1,AD 43 4 vn0x0 AV d.1.rows,AD 148 3 vn0x1 AS d.1.pages,Cb vn0x2 AB AB d.1.gens,AD 55 2 vn0x5 AU d.1.ring,vO bn1 Az vn1x1 mn1x5 d.2,AD 55 2 vn1x1 AU d.2.ring,AY mn1x5 AB vB d.2.taken,dO Az CH BJ CG r.2.2,AD 9 1 CH eS r.2.2.blocks,AY BJ AB vS r.2.2.pend,AY CG AB vB r.2.2.bad])):=by
 unfold I3 at h
 refine WN.enter Tryz.func29 rfl rfl ?_
 refine Y (U E (U E (V (AH (Y (J E (Dr E ZX E E (V (C1 E (AI (AJ (AH (Y ?_)))))))))))))
 refine AF h fun y1 hy1 h=>?_
 refine J E (AQ 0 f3 (ON hy1 hs1_) E (J E (Ah E E E (Ah E E E (U E (U E (V (Y ?_))))))))
 refine AF h fun y3 hy3 h=>?_
 refine J E (Z E Ba (J E ?_))
 refine E0 19 3 22 hy3 E (fun hb hg1 k=>?_) (fun hb k=>?_) ?_
 obtain⟨y2,hy2,hg1⟩:=bnd hg1
 obtain rfl:=zI hg1
 refine J E (AQ 4 kp (QF hy2) E (Ag E E E ?_))
 exact k.mono tL
 refine AC E (AC E (Ag E E E ?_))
 exact k.mono tL
 refine V ?_
 refine AL h E (fun hc2 h=>?_) fun hc2 h=>?_
 refine Y (U E (U E (V (AK (Aa ?_)))))
 obtain rfl:=zI h
 exact An (C9 E E E) (Ao (M:=[_,_,_,_]) (.inl ⟨E,E,E⟩) fun _ hw=>Bj.pick (H:=[_,_,_,_]) hw [0,1,2,3] 4 E)
 refine AI (AJ (Y ?_))
 refine AF h fun y4 hy4 h=>?_
 refine AF h fun d1 hd1 h=>?_
 refine J E (J E ?_)
 refine BT (vs:=[_,_]) (Hin:=[_,_,_,_]) (Hr:=_) E E ⟨E,E,zT⟩ xF E E (ar hy4 hs1_) ?_
 rintro _ _ (⟨hn,-,-⟩ | ⟨d_,b1,v1,v2,v3,v4,b2,v5,m1,hn,rfl,rfl⟩)
 rw[hd1]at hn;cases hn
 obtain rfl:d1=d_:=zI (hd1.symm.trans hn)
 refine⟨trivial,?_⟩
 refine J E (Ah E E E (Ah E E E (U E (U E (V ?_)))))
 refine A8 (α:=Ai×BF×Value×Value×Value×Am×Int) (fun x=>Ki x.1 x.2.1 x.2.2.2.2.2.1 x.2.2.2.2.2.2=some r) (fun x=>[(0,vP Az 0),(8,vP b1 0),(9,vI x.2.2.2.2.2.2)]) (fun x=>dO Az CH BJ CG x.1::AD 9 1 CH eS x.1.blocks::AY BJ AB vS x.1.pend::AY CG AB vB x.1.bad::sO b1 x.2.2.1 x.2.2.2.1 x.2.2.2.2.1 Az b2 v4 x.2.1::AD 43 4 x.2.2.1 AV x.2.1.rows::AD 148 3 x.2.2.2.1 AS x.2.1.pages::Cb x.2.2.2.2.1 AB AB x.2.1.gens::vO b2 Az v5 m1 x.2.2.2.2.2.1::AD 55 2 v5 AU x.2.2.2.2.2.1.ring::AY m1 AB vB x.2.2.2.2.2.1.taken::AD 55 2 v4 AU x.2.1.ring::H) ?_ (fun x D h=>?_)
 refine Y (J E (Z E Ba (V ?_)))
 refine AL h E (fun hc3 h=>?_) fun hc3 h=>?_
 refine AM ?_
 refine AF h fun y5 hy5 h=>?_
 refine J E (CE 43 4 AV (SL.pick [1,2,3,4,5,6,7,8,9,10,11,12,0] 13 ?_))
 refine BY 13 kq (UH hy5 hS (By.nil zV)) E ?_
 rintro _ _ ⟨v9,v10,v11,rfl,rfl⟩
 refine U E (AZ ?_)
 exact Aq (y5.2.2.2,y5.2.1,v9,v10,v11,y5.2.2.1,y5.1) h tL (BM [8,9,10,11,0,1,2,3,5,6,7,4] 12 E E E)
 refine AI ?_
 exact Aq (y4.2.2,d1.1,v1,v2,v3,d1.2,y4.2.1) h tL (BM [8,9,10,11,0,1,2,3,5,6,7,4] 12 E E E)
 obtain⟨o1,o2,v6,v7,v8,o3,a1⟩:=x
 dsimp only at h
 unfold Ki at h
 try dsimp only
 refine AH (Y (J E (Z E BQ (V ?_))))
 refine AL h E (fun hc4 h=>?_) fun hc4 h=>?_
 refine Y (J E (U E (U E (V (AK (Aa ?_))))))
 obtain rfl:=zI h
 exact An (C9 E E E) (Ao (M:=[_,_,_,_]) (.inl ⟨E,E,E⟩) fun _ hw=>Bj.pick (H:=[_,_,_,_,_,_,_,_,_,_,_,_]) hw [0,1,2,3] 12 E)
 refine AI (AJ (Y (J E (U E (U E (V (AK ?_)))))))
 obtain rfl:=zI h
 exact An (C9 E E E) (Ao (M:=[_,_,_,_,_,_,_,_,_,_,_,_]) (.inr ⟨_,b1,v6,v7,v8,v4,b2,v5,m1,E,E,E⟩) fun _ hw=>Bj.pick (H:=[_,_,_,_,_,_,_,_,_,_,_,_]) hw [4,5,6,7,11,8,9,10,0,1,2,3] 12 E)
def Cp(p0:BF)(p0_1:Am)(p0_2:Ai):Option Int:=
 cond p0.bad
 (
  some 131)
 (
  some 0)
theorem JC{Az BL Ar Ab Ad Ae:Nat}{As AW Al BA A0 Af:Value}{p0:BF}{p0_1:Am}{p0_2:Ai}{r:Int}(h:Cp p0 p0_1 p0_2=some r): zC K w0 61 [vP Az 0] [sO Az As AW Al Ab BL BA p0,AD 43 4 As AV p0.rows,AD 148 3 AW AS p0.pages,Cb Al AB AB p0.gens,AD 55 2 BA AU p0.ring,vO BL Ab A0 Ar p0_1,AD 55 2 A0 AU p0_1.ring,AY Ar AB vB p0_1.taken,dO Ab Af Ad Ae p0_2,AD 9 1 Af eS p0_2.blocks,AY Ad AB vS p0_2.pend,AY Ae AB vB p0_2.bad] H (fun u M=>u=vI r∧M=[sO Az As AW Al Ab BL BA p0,AD 43 4 As AV p0.rows,AD 148 3 AW AS p0.pages,Cb Al AB AB p0.gens,AD 55 2 BA AU p0.ring,vO BL Ab A0 Ar p0_1,AD 55 2 A0 AU p0_1.ring,AY Ar AB vB p0_1.taken,dO Ab Af Ad Ae p0_2,AD 9 1 Af eS p0_2.blocks,AY Ad AB vS p0_2.pend,AY Ae AB vB p0_2.bad]):=by
 unfold Cp at h
 refine WN.enter Tryz.func61 rfl rfl ?_
 refine Y (U E (V (AH (AN (Y (J E (Dr E n6 E E (U E (V (C1 E (Y (J E (AT E E (AE E Z8 ?_))))))))))))))
 refine AG 0 cR E (U E (V ?_))
 refine AL h E (fun hc2 h=>?_) fun hc2 h=>?_
 refine Y (U E (V (AK (BI (Aa ?_)))))
 obtain rfl:=zI h
 exact Ac [0,1,2,3,4,5,6,7,8,9,10,11] 12 E E E
 refine AI (Av (AJ (Y (U E (V (AK ?_))))))
 obtain rfl:=zI h
 exact Ac [0,1,2,3,4,5,6,7,8,9,10,11] 12 E E E
def EK(n:Nat)(T:List UInt32)(p0:BF)(p0_1:Am)(p0_2:Ai)(p1:List Iv):Option (Int×Int×BF×Am×Ai):=
 (Cp p0 p0_1 p0_2).bind fun y1=>
 cond (!decide (y1=0))
 (
  some (0,y1,p0,p0_1,p0_2))
 (
  (Pj n p0.rows p1).bind fun y2=>
  ret (!decide (y2.2.2=0)) fun x1=>
  cond x1
  (
   some (y2.2.1,y2.2.2,p0,p0_1,p0_2))
  (
   (GU p0_2).bind fun y3=>
   cond y3
   (
    some (0,72,p0,p0_1,p0_2))
   (
    (GJ n T p0 p0_1 p0_2 y2.1).bind fun y4=>
    some (0,y4.1,y4.2.1,y4.2.2.1,y4.2.2.2))))
theorem UG{n Az BL Ar Ab Ad Ae:Nat}{T:List UInt32}{As AW Al BA A0 Af DE:Value}{p0:BF}{p0_1:Am}{p0_2:Ai}{p1:List Iv}{r:Int×Int×BF×Am×Ai}(h:EK n T p0 p0_1 p0_2 p1=some r)(hS:Gk K w0 T)(hs1_:By K w0 Hp 5 DE p1):zC K w0 36 [vP Az 0,DE] [sO Az As AW Al Ab BL BA p0,AD 43 4 As AV p0.rows,AD 148 3 AW AS p0.pages,Cb Al AB AB p0.gens,AD 55 2 BA AU p0.ring,vO BL Ab A0 Ar p0_1,AD 55 2 A0 AU p0_1.ring,AY Ar AB vB p0_1.taken,dO Ab Af Ad Ae p0_2,AD 9 1 Af eS p0_2.blocks,AY Ad AB vS p0_2.pend,AY Ae AB vB p0_2.bad] H (fun u M=>∃vs0_0_0 vs0_0_1 vs0_0_2:Value,u=.tuple #[vI r.1,vI r.2.1]∧M=[sO Az vs0_0_0 vs0_0_1 vs0_0_2 Ab BL BA r.2.2.1,AD 43 4 vs0_0_0 AV r.2.2.1.rows,AD 148 3 vs0_0_1 AS r.2.2.1.pages,Cb vs0_0_2 AB AB r.2.2.1.gens,AD 55 2 BA AU r.2.2.1.ring,vO BL Ab A0 Ar r.2.2.2.1,AD 55 2 A0 AU r.2.2.2.1.ring,AY Ar AB vB r.2.2.2.1.taken,dO Ab Af Ad Ae r.2.2.2.2,AD 9 1 Af eS r.2.2.2.2.blocks,AY Ad AB vS r.2.2.2.2.pend,AY Ae AB vB r.2.2.2.2.bad]):=by
 unfold EK at h
 refine WN.enter Tryz.func36 rfl rfl ?_
 refine Y (U E (U E (V (AH (Y ?_)))))
 refine AF h fun y1 hy1 h=>?_
 refine J E (AQ 12 f4 (JC hy1) E (U E (V (Y (J E (Z E BQ (V ?_)))))))
 refine AL h E (fun hc1 h=>?_) fun hc1 h=>?_
 refine Y (J E (U E (U E (V (AK (Aa ?_))))))
 obtain rfl:=zI h
 exact BH [0,1,2,3,4,5,6,7,8,9,10,11] 12 (C9 E E E) E E ⟨As,AW,Al,E,E⟩
 refine AI (AJ (Y ?_))
 refine AF h fun y2 hy2 h=>?_
 refine J E (AT E E (AE E Iq (AE E gJ (AG 0 HI E (J E (SL.pick [1,0] 2 ?_))))))
 refine BT (vs:=[_,_]) (Hin:=[_]) (Hr:=_::_::_::_::_::_::_::_::_::_::_::_) E E ⟨E,E,zT⟩ xJ E E (CJ (B:=[_]) (Hin:=[]) fun K' w1 hk hB=>qU hy2 (Bp (e:=43) (v:=As) zV (hB _ zS)) (hs1_.keeps hk)) ?_
 rintro _ _ ⟨_,rfl,v1,rfl,rfl⟩
 refine⟨trivial,?_⟩
 refine J E (Ah E E E (Ah E E E (Ah E E E (U E (U E (U E (V (AH (AN (Y ?_))))))))))
 obtain⟨x1,ex1,h⟩:=Bz h
 refine J E (Z E BQ ?_)
 refine Ay (u:=vB x1) E E (congrArg vB ex1) ?_
 refine V ?_
 refine AL h E (fun hc2 h=>?_) fun hc2 h=>?_
 refine Y (J E (J E (U E (U E (V (AK (BI (Aa ?_))))))))
 obtain rfl:=zI h
 exact BH [2,0,3,4,5,6,7,8,9,10,11,12] 13 (C9 E E E) E E ⟨As,AW,Al,E,E⟩
 refine Y ?_
 refine AF h fun y3 hy3 h=>?_
 refine J E (AT E E (AE E Kk (AG 2 K6 E (SL.pick [9,10,11,12,0,1,2,3,4,5,6,7,8] 13 (AQ 4 kp (QF hy3) E (U E (V ?_)))))))
 refine AL h E (fun hc3 h=>?_) fun hc3 h=>?_
 refine Y (U E (U E (V (AK (BI (Aa ?_))))))
 obtain rfl:=zI h
 exact BH [6,4,7,8,9,10,11,12,0,1,2,3] 13 (C9 E E E) E E ⟨As,AW,Al,E,E⟩
 refine AI (Av (AJ (Y ?_)))
 refine AF h fun y4 hy4 h=>?_
 refine J E (J E (J E (AT E E (AE E Iq (AE E Rk (AG 6 K7 E (SL.pick [6,4,7,8,9,10,11,12,0,1,2,3,5] 13 ?_)))))))
 refine BY 13 kq (TH hy4 hS) E ?_
 rintro _ _ ⟨v2,v3,v4,rfl,rfl⟩
 refine U E (U E (V (AK ?_)))
 obtain rfl:=zI h
 exact BH [0,1,2,3,4,5,6,7,8,9,10,11] 12 (C9 E E E) E E ⟨v2,v3,v4,E,E⟩
end

section
structure Dv(N m:Nat)(c:UInt64)(d:Ai):Prop where
 bl:d.blocks.length=N
 pl:d.pend.length≤m
 pk:∀e∈d.pend,e.1.toNat<N
 rc:d.rcnt=c
theorem Dv.up{N m m':Nat}{c:UInt64}{d:Ai}(D:Dv N m c d)(h:m≤m'):Dv N m' c d:=⟨D.bl,Nat.le_trans D.pl h,D.pk,D.rc⟩
theorem oV{N m:Nat}{c:UInt64}{d:Ai}{p:UInt32}{s:List UInt8}{y:Int×Ai}(h:G6 d p s=some y)(D:Dv N m c d):Dv N (m+1) c y.2:=by
 unfold G6 at h
 rw[aA,AA,BN]at h
 cases hh:((!decide (p.toNat<d.blocks.length))||(!decide ((s.length:Int)=256)))with
 | true=>
  rw[hh,CC]at h
  obtain rfl:=zI h
  exact D.up (Nat.le_succ _)
 | false=>
  rw[hh,BZ,Mv,AA]at h
  have hp:p.toNat<N:=by
   simp at hh
   rw[←D.bl]
   exact hh.1
  cases hon:PA d with
  | true=>
   rw[hon]at h
   simp only[if_true,decide_true,CC]at h
   refine AF h fun l hl h=>?_
   obtain⟨-,rfl⟩:=ZJ hl
   obtain rfl:=zI (show some _=some y from h)
   refine⟨D.bl,?_,?_,D.rc⟩
   have:(Eu d.pend p).length≤d.pend.length:=List.length_filter_le ..
   have:=D.pl
   show(Eu d.pend p).length+1≤m+1
   omega
   intro e he
   rcases List.mem_cons.1 (show e∈(p,s)::Eu d.pend p from he)with rfl | he
   exact hp
   exact D.pk e (List.mem_filter.1 he).1
  | false=>
   rw[hon]at h
   obtain rfl:=zI (show some _=some y from h)
   exact⟨D.bl,Nat.le_succ_of_le D.pl,D.pk,D.rc⟩
theorem jE{T:List UInt32}{N m:Nat}{c:UInt64}{v:Am}{d:Ai}{p:UInt32}{s:List UInt8}{y:List UInt8×Int×Am×Ai}(h:Jh T v d p s=some y)(D:Dv N m c d):Dv N (m+1) c y.2.2.2:=by
 unfold Jh at h
 obtain⟨y1,-,h⟩:=bnd h
 cases h1:(!decide (y1.2=0))with
 | true=>
  rw[h1,CC]at h
  obtain rfl:=zI h
  exact D.up (Nat.le_succ _)
 | false=>
  rw[h1,BZ]at h
  refine AF h fun y2 h2 h=>?_
  have D2:=oV h2 D
  cases h3:(!decide (y2.1=0))with
  | true=>
   rw[h3,CC]at h
   obtain rfl:=zI h
   exact D2
  | false=>
   rw[h3,BZ]at h
   obtain⟨y3,-,h⟩:=bnd h
   obtain rfl:=zI h
   exact D2
theorem xU{T:List UInt32}{N m:Nat}{c:UInt64}{v:Am}{d:Ai}{s:List UInt8}{y:BR×Int×Am×Ai}(h:GV T v d s=some y)(D:Dv N m c d):Dv N (m+1) c y.2.2.2:=by
 have key:∀ {p:UInt32},Fm T v d s p=some y→Dv N (m+1) c y.2.2.2:=by
  intro p h
  unfold Fm at h
  cases h1:decide (p=0)with
  | true=>
   rw[h1,CC]at h
   obtain rfl:=zI h
   exact D.up (Nat.le_succ _)
  | false=>
   rw[h1,BZ]at h
   refine AF h fun y4 h4 h=>?_
   have D4:=jE h4 D
   cases h3:(!decide (y4.2.1=0))with
   | true=>
    rw[h3,CC]at h
    obtain rfl:=zI h
    exact D4
   | false=>
    rw[h3,BZ]at h
    obtain⟨l,-,h⟩:=bnd h
    obtain rfl:=zI h
    exact D4
 unfold GV at h
 rw[BN]at h
 cases h1:decide (198<(s.length:Int))with
 | true=>
  rw[h1,CC]at h
  obtain rfl:=zI h
  exact D.up (Nat.le_succ _)
 | false=>
  rw[h1,BZ]at h
  obtain⟨_,-,h⟩:=bnd h
  obtain⟨xs,-,h⟩:=bnd h
  cases xs with
  | nil=>exact key (p:=0) h
  | cons e xs=>exact key (p:=e) h
theorem jm{T:List UInt32}{th:List (KN×BR)}{N:Nat}{c:UInt64}:∀(seg:List Ak) (m:Nat) (q q':PM),W6 (M5 T th) q seg q'→Dv N m c q.d→Dv N (m+seg.length) c q'.d∧q'.tk.length≤q.tk.length+seg.length
 | [],m,q,q',h,D=>by rw[←show q=q' from h];exact⟨D,Nat.le_refl _⟩
 | s::seg,m,q,q',h,D=>by
  obtain⟨q1,h1,h2⟩:=h
  have D1:Dv N (m+1) c q1.d∧q1.tk.length≤q.tk.length+1:=by
   unfold M5 at h1
   obtain⟨k,hk,h1⟩:=bnd h1
   cases hs:(Bn th k).isSome with
   | true=>
    rw[hs,CC]at h1
    have h3:=congrArg Prod.snd (zI h1)
    rw[←show q=q1 from h3]
    exact⟨D.up (Nat.le_succ _),Nat.le_succ _⟩
   | false=>
    rw[hs,BZ]at h1
    obtain⟨y,hy,h1⟩:=bnd h1
    have D2:=xU hy D
    cases he:decide (y.2.1=0)with
    | true=>
     rw[he,CC]at h1
     obtain⟨l,hl,h1⟩:=bnd h1
     rw[←show(⟨l,y.2.2.1,y.2.2.2⟩:PM)=q1 from congrArg Prod.snd (zI h1)]
     refine⟨D2,?_⟩
     unfold C8 at hl
     split at hl
     obtain rfl:=zI hl
     simp
     cases hl
    | false=>
     rw[he,BZ]at h1
     rw[←show(⟨q.tk,y.2.2.1,y.2.2.2⟩:PM)=q1 from congrArg Prod.snd (zI h1)]
     exact⟨D2,Nat.le_succ _⟩
  have:=jm seg (m+1) q1 q' h2 D1.1
  have h5:=D1.2
  rw[List.length_cons,show m+(seg.length+1)=m+1+seg.length by omega]
  exact⟨this.1,by omega⟩
theorem oL{N:Nat}{c:UInt64}{d:Ai}{tag:List UInt8}(D:Dv N 0 c d)(K:T9 N 0 d)(ht:tag.length=32)(hc:c≠18446744073709551615):∃d',FC d tag=some (0,d')∧Dv N 0 (c+1) d'∧T9 N 0 d'∧∀p,JU d' p=JU d p:=by
 have hon:PA d=true:=by simp[PA,K.on,K.uncut]
 refine⟨{ Kn d with rcnt:=d.rcnt+1,rtag:=tag },?_,⟨D.bl,D.pl,D.pk,by rw[←D.rc]⟩,⟨K.blen,K.nle,K.on,K.uncut,K.good,K.plen,by omega⟩,fun p=>rfl⟩
 unfold FC
 rw[BN,zt (by omega:(tag.length:Int)=32)]
 simp only[Bool.not_true,BZ]
 rw[BN,zf (by rw[D.rc];exact hc),BZ,Mv,hon,AA]
 rfl
theorem vz{T:List UInt32}{N:Nat}{c:UInt64}{v:Am}{d:Ai}{k:BD}{s:List UInt8}(D:Dv N 0 c d)(K:T9 N 0 d)(hr:v.ring.length≤1099511627776)(hk:C6 v.ring v.gen=(k,0))(hs:s.length≤198)(p:UInt32)(hp:p.toNat<2)(hN:4≤N):
  ∃tag d',KQ T v d p s=some (tag,0,{ v with seals:=v.seals+1 },d')∧tag.length=32∧Dv N 1 c d'∧T9 N 1 d'∧∀q:UInt32,2≤q.toNat→JU d' q=JU d q:=by
 have hb:=OM T k (hd v p) hs
 have hw:=j0 (T:=T) K zO hr hk (show p.toNat<N by omega) hs
 refine⟨(Jp T k (hd v p) s).drop 224,{ d with counts:=wI (d.counts+1),pend:=Hn d.pend p (Jp T k (hd v p) s) },?_,by simp[hb],jE hw D,(K.write zO (show p.toNat<N by omega) hb).2,fun q hq=>?_⟩
 unfold KQ
 have h1:decide ((2:UInt32)≤p)=false:=by rw[decide_eq_false_iff_not,UInt32.le_iff_toNat_le];exact Nat.not_le.2 hp
 rw[BN,h1,BZ,BN,zf zO,BZ,hw,AA]
 rw[YY,if_neg (fun e=>by subst e;omega)]
theorem tR(x:UInt64):∃l,F9 2200000 x 8=some l∧l.length=8:=⟨_,rfl,rfl⟩
theorem fJ(x:UInt64):∃l,F9 2200000 x 4=some l∧l.length=4:=⟨_,rfl,rfl⟩
theorem lZ(r:Ez)(h:r.tag.length=32):∃s,Kh 2200000 r=some s∧s.length=56:=by
 obtain⟨a,ha,la⟩:=tR r.cnt
 obtain⟨b,hb,lb⟩:=fJ r.gen.toUInt64
 obtain⟨c,hc,lc⟩:=fJ r.rows.toUInt64
 obtain⟨e,he,le⟩:=fJ r.page.toUInt64
 have hl:([[115,112,104,114],a,b,c,e,r.tag]:List (List UInt8)).flatten.length=56:=by simp[la,lb,lc,le,h]
 refine⟨_,?_,hl⟩
 unfold Kh On bu
 rw[ha,AA,hb,AA,hc,AA,he,AA,if_pos ⟨rfl,by simp,by simp,by omega,by omega⟩]
 rfl
end

section
def Lm(m:List (UInt32×List UInt8))(bl:List (List UInt8)):List (List UInt8):=(Qh m).foldl (fun b p=>b.set p.toNat ((Bn m p).getD [])) bl
theorem KI(f:UInt32→List UInt8):∀(ks:List UInt32) (bl:List (List UInt8)),(ks.foldl (fun b p=>b.set p.toNat (f p)) bl).length=bl.length
 | [],bl=>rfl
 | k::ks,bl=>by rw[List.foldl_cons,KI f ks];simp
theorem P7{α:Type}{m:List (UInt32×α)}{k:UInt32}:k∈Qh m↔k∈m.map (·.1):=(List.mergeSort_perm _ _).mem_iff
theorem ZE(y:Int×Ai):∀(es:List (Int×UInt32)) (x:Ai),(∀e∈es,e.2.toNat<x.blocks.length)→
  Lw y es x=some (y.1,{ x with blocks:=es.foldl (fun b e=>b.set e.2.toNat ((Bn x.pend e.2).getD [])) x.blocks,pend:=[] })
 | [],x,_=>rfl
 | e::es,x,h=>by
  have he:=h e (List.mem_cons_self ..)
  show Jt y (Lw y es) e x=_
  unfold Jt
  rw[EP,List.getElem?_eq_getElem he,AA,KH rfl he,AA]
  exact ZE y es _ (fun e' h'=>by show _<(List.set ..).length;rw[List.length_set];exact h e' (List.mem_cons_of_mem _ h'))
theorem bG{β:Type}(g:β→UInt32→β):∀(ks:List UInt32) (j:Nat) (b:β),((ks.zipIdx j).map fun q=>((q.2:Int),q.1)).foldl (fun b e=>g b e.2) b=ks.foldl g b
 | [],j,b=>rfl
 | k::ks,j,b=>by simp only[List.zipIdx_cons,List.map_cons,List.foldl_cons];exact bG g ks (j+1) _
theorem k6{ks:List UInt32}{e:Int×UInt32}(h:e∈R2 ks):e.2∈ks:=by
 obtain⟨q,hq,rfl⟩:=List.mem_map.1 h
 obtain⟨_,_,h2⟩:=List.mem_zipIdx hq
 rw[h2]
 exact List.getElem_mem _
theorem di{d:Ai}(hl:d.pend.length≤QQ)(hk:∀q∈d.pend,q.1.toNat<d.blocks.length)(hon:PA d=true):Ek d=some (0,{ Kn d with blocks:=Lm d.pend d.blocks,pend:=[] }):=by
 unfold Ek
 rw[Mv,hon]
 simp only[if_true,AA,decide_true,CC]
 unfold Vn X9
 rw[AA,show(Kn d).pend=d.pend from rfl,if_pos hl,AA,ZE _ _ _ (fun e he=>?_)]
 rw[show(Kn d).pend=d.pend from rfl,show(Kn d).blocks=d.blocks from rfl,show(R2 (Qh d.pend)).foldl (fun b e=>b.set e.2.toNat ((Bn d.pend e.2).getD [])) d.blocks=Lm d.pend d.blocks from bG (fun(b:List (List UInt8)) p=>b.set p.toNat ((Bn d.pend p).getD [])) (Qh d.pend) 0 d.blocks]
 have:=P7.1 (k6 he)
 obtain⟨q,hq,e1⟩:=List.mem_map.1 this
 rw[show(Kn d).blocks=d.blocks from rfl,←e1]
 exact hk q hq
theorem WJ(f:UInt32→List UInt8):∀(ks:List UInt32) (bl:List (List UInt8)) (p:UInt32),(∀k∈ks,k.toNat<bl.length)→p.toNat<bl.length→
  (ks.foldl (fun b q=>b.set q.toNat (f q)) bl).getD p.toNat []=if p∈ks then f p else bl.getD p.toNat []
 | [],bl,p,_,_=>by simp
 | k::ks,bl,p,h,hp=>by
  have hk:=h k (List.mem_cons_self ..)
  rw[List.foldl_cons,WJ f ks _ p (fun q hq=>by rw[List.length_set];exact h q (List.mem_cons_of_mem _ hq)) (by rw[List.length_set];exact hp)]
  by_cases h1:p∈ks
  rw[if_pos h1,if_pos (List.mem_cons_of_mem _ h1)]
  rw[if_neg h1]
  by_cases e:k=p
  subst e
  rw[if_pos (List.mem_cons_self ..),List.getD_eq_getElem?_getD,List.getElem?_set_self hk]
  rfl
  have hne:k.toNat≠p.toNat:=fun h=>e (UInt32.toNat_inj.1 h)
  rw[if_neg (by intro h;rcases List.mem_cons.1 h with h | h;exact e h.symm;exact h1 h),List.getD_eq_getElem?_getD,List.getElem?_set_ne hne,List.getD_eq_getElem?_getD]
theorem nW{N m c0:Nat}{c:UInt64}{d:Ai}(D:Dv N m c d)(hm:m≤QQ)(K:T9 N c0 d):∃d',Ek d=some (0,d')∧Dv N 0 c d'∧T9 N 0 d'∧∀p:UInt32,p.toNat<N→JU d' p=JU d p:=by
 have hon:PA d=true:=by simp[PA,K.on,K.uncut]
 have hk:∀q∈d.pend,q.1.toNat<d.blocks.length:=fun q hq=>by rw[D.bl];exact D.pk q hq
 have hb:(Lm d.pend d.blocks).length=N:=by unfold Lm;rw[KI,D.bl]
 refine⟨{ Kn d with blocks:=Lm d.pend d.blocks,pend:=[] },?_,⟨hb,Nat.zero_le _,fun _ h=>(by cases h),D.rc⟩,⟨hb,K.nle,K.on,K.uncut,K.good,Nat.zero_le _,by omega⟩,fun p hp=>?_⟩
 exact di (Nat.le_trans D.pl hm) hk hon
 show(Lm d.pend d.blocks).getD p.toNat []=(Bn d.pend p).getD (d.blocks.getD p.toNat [])
 unfold Lm
 rw[WJ _ _ _ _ (fun k hk'=>by obtain⟨q,hq,rfl⟩:=List.mem_map.1 (P7.1 hk');exact hk q hq) (by rw[D.bl];exact hp)]
 by_cases h:p∈Qh d.pend
 rw[if_pos h]
 have h2:=P7.1 h
 cases hg:Bn d.pend p with
 | some s=>rfl
 | none=>
  exfalso
  obtain⟨q,hq,rfl⟩:=List.mem_map.1 h2
  unfold Bn at hg
  have:=List.find?_eq_none.1 (Option.map_eq_none_iff.1 hg) q hq
  simp at this
 rw[if_neg h]
 have:Bn d.pend p=none:=PZ fun q hq e=>h (P7.2 (by rw[←e];exact List.mem_map_of_mem hq))
 rw[this]
 rfl
theorem vX{N c0:Nat}{c:UInt64}{d:Ai}(D:Dv N 1 c d)(K:T9 N c0 d):∃d',Ek d=some (0,d')∧Dv N 0 c d'∧T9 N 0 d'∧∀p:UInt32,p.toNat<N→JU d' p=JU d p:=nW D (Nat.le_trans zO lD) K
end

section
variable {N:Nat}{d:Ai}{r:A6}
theorem pO{d:Ai}(h:d.rboots≠4294967295):H3 d=some (if PA d then(d.rboots+1,0,{ Kn d with rboots:=d.rboots+1 })else(0,71,U5 d)):=by
 unfold H3
 rw[BN,zf h,Mv]
 simp only[BZ,AA]
 cases h:PA d
 simp
 simp only[if_true]
 rw[show(Kn d).rboots=d.rboots from rfl]
 simp[BN]
theorem il{d:Ai}{s:List UInt8}(hs:s.length=32)(h:d.rcnt≠18446744073709551615):FC d s=some (cE d { Kn d with rcnt:=d.rcnt+1,rtag:=s }):=by
 unfold FC Js
 rw[BN,hs,BN,zf h,Mv]
 simp only[AA]
 cases h:PA d
 simp[cE,h,U5]
 simp only[cE,h,if_true]
 rw[show(Kn d).rcnt=d.rcnt from rfl]
 simp
theorem vZ{d:Ai}(hl:d.pend.length≤QQ)(hk:∀q∈d.pend,q.1.toNat<d.blocks.length):Ek d=some (cE d { Kn d with blocks:=Lm d.pend d.blocks,pend:=[] }):=by
 cases h:PA d with
 | true=>rw[di hl hk h,X1 h]
 | false=>
  unfold Ek
  rw[Mv,AA,h,X0 h]
  rfl
theorem RV.start(R:RV N d r):∃(e:UInt32×Int) (d':Ai) (r':A6),H3 d=some (e.1,e.2,d')∧Dj r=some (e.1,e.2,r')∧RV N d' r':=by
 by_cases hb:d.rboots=4294967295
 refine⟨(0,72),d,r,?_,?_,R⟩
 unfold H3
 rw[BN,zt hb,CC]
 unfold Dj
 rw[R.boots,zt hb,CC]
 have hw:=pO hb
 have hr:Dj r=some (if Yj r then(r.rboots+1,0,{ O0 r with rboots:=r.rboots+1 })else(0,71,Th r)):=by
  unfold Dj
  rw[zf (by rw[R.boots];exact hb),gV,BZ,AA]
  cases h:Yj r<;>rfl
 rw[R.on]at hr
 cases h:PA d
 rw[h]at hw hr
 exact⟨(0,71),_,_,hw,hr,R.dead⟩
 rw[h]at hw hr
 have T:=R.tick h
 rw[R.boots]at hr
 exact⟨(d.rboots+1,0),_,_,hw,hr,⟨T.inv.of rfl rfl,R.nle,R.blk,R.plen,R.pnd,R.blen,R.bad,R.bnd,R.blt,R.cnt,R.tag,rfl,R.off,T.cut,T.uncut⟩⟩
theorem fA{s:List UInt8}(hs:s.length≠32):FC d s=some (2,d):=by
 unfold FC
 rw[BN,zf zO]
 rfl
theorem RV.advance(R:RV N d r)(s:List UInt8):∃e d' r',FC d s=some (e,d')∧DN r s=some (e,r')∧RV N d' r':=by
 by_cases hs:s.length=32
 by_cases hb:d.rcnt=18446744073709551615
 refine⟨72,d,r,?_,?_,R⟩
 unfold FC
 rw[BN,zt (show(s.length:Int)=32 by omega),BN,zt hb]
 rfl
 unfold DN
 rw[zt (show(s.length:Int)=32 by omega),R.cnt,zt hb]
 rfl
 have hw:=il hs hb
 have hr:DN r s=some (if Yj r then(0,{ O0 r with rcnt:=r.rcnt+1,rtag:=s })else(71,Th r)):=by
  unfold DN
  rw[zt (show(s.length:Int)=32 by omega),zf (by rw[R.cnt];exact hb),gV,Bool.not_true,BZ,BZ,AA]
  cases h:Yj r<;>rfl
 rw[R.on]at hr
 cases h:PA d
 rw[X0 h]at hw
 rw[h]at hr
 exact⟨_,_,_,hw,hr,R.dead⟩
 rw[X1 h]at hw
 rw[h]at hr
 have T:=R.tick h
 rw[R.cnt]at hr
 exact⟨_,_,_,hw,hr,⟨T.inv.of rfl rfl,R.nle,R.blk,R.plen,R.pnd,R.blen,R.bad,R.bnd,R.blt,rfl,rfl,R.boots,R.off,T.cut,T.uncut⟩⟩
 refine⟨2,d,r,fA hs,?_,R⟩
 unfold DN
 rw[zf (show ¬(s.length:Int)=32 by omega)]
 rfl
def QP(pn:List (List UInt8))(i:Nat):List UInt32:=((List.range i).filter fun j => !decide (pn.getD j []=[])).map UInt32.ofNat
theorem jf(pn:List (List UInt8))(i:Nat):QP pn (i+1)=QP pn i++if pn.getD i []=[]then[]else[UInt32.ofNat i]:=by
 unfold QP
 rw[List.range_succ,List.filter_append,List.map_append]
 congr 1
 by_cases h:pn.getD i []=[]
 rw[if_pos h,List.filter_cons_of_neg (by show ¬(!decide (pn.getD i []=[]))=true;rw[zt h];decide)]
 rfl
 rw[if_neg h,List.filter_cons_of_pos (by show(!decide (pn.getD i []=[]))=true;rw[zf h];rfl)]
 rfl
theorem RV.keys(R:RV N d r):Qh d.pend=QP r.pnd N:=by
 have hn:=R.nle
 have hs:(QP r.pnd N).Pairwise (fun x y=>decide (x≤y)=true):=by
  unfold QP
  rw[List.pairwise_map]
  refine((List.pairwise_lt_range (n:=N)).sublist List.filter_sublist).imp_of_mem fun{a b} ha hb hlt=>?_
  have h1:=List.mem_range.1 (List.mem_filter.1 ha).1
  have h2:=List.mem_range.1 (List.mem_filter.1 hb).1
  rw[decide_eq_true_eq,UInt32.le_iff_toNat_le,Nv zO,Nv zO]
  omega
 have hnd:(QP r.pnd N).Nodup:=by
  unfold QP
  rw[List.nodup_iff_pairwise_ne,List.pairwise_map]
  refine((List.pairwise_lt_range (n:=N)).sublist List.filter_sublist).imp_of_mem fun{a b} ha hb hlt e=>?_
  have h1:=List.mem_range.1 (List.mem_filter.1 ha).1
  have h2:=List.mem_range.1 (List.mem_filter.1 hb).1
  have:=congrArg UInt32.toNat e
  rw[Nv zO,Nv zO]at this
  omega
 have hp:(d.pend.map (·.1)).Perm (QP r.pnd N):=by
  refine(List.perm_ext_iff_of_nodup R.inv.knd hnd).2 fun k=>⟨fun hk=>?_,fun hk=>?_⟩
  obtain⟨q,hq,rfl⟩:=List.mem_map.1 hk
  have hlt:=(R.inv.klt q hq).1
  have hg:=R.pnd q.1 hlt
  rw[RE R.inv.knd hq]at hg
  refine List.mem_map.2 ⟨q.1.toNat,List.mem_filter.2 ⟨List.mem_range.2 hlt,?_⟩,by simp⟩
  by_cases e:r.pnd.getD q.1.toNat []=[]
  rw[if_pos e]at hg;cases hg
  rw[zf e]
  rfl
  obtain⟨j,hj,rfl⟩:=List.mem_map.1 hk
  obtain⟨h1,h2⟩:=List.mem_filter.1 hj
  have hjN:=List.mem_range.1 h1
  have hjn:=Nv (show j<4294967296 by omega)
  have hg:=R.pnd (UInt32.ofNat j) (by rw[hjn];exact hjN)
  rw[hjn]at hg
  simp only[Bool.not_eq_true',decide_eq_false_iff_not]at h2
  rw[if_neg h2]at hg
  refine Classical.byContradiction fun hno=>?_
  rw[PZ (fun q hq e=>hno (List.mem_map.2 ⟨q,hq,e⟩))]at hg
  cases hg
 exact Tp ((List.mergeSort_perm _ _).trans hp) (TZ _) hs
theorem RV.got(R:RV N d r){i:Nat}(hi:i<N)(h:r.pnd.getD i []≠[]):(Bn d.pend (UInt32.ofNat i)).getD []=r.pnd.getD i []∧(r.pnd.getD i []).length=256:=by
 have hn:=R.nle
 have hin:=Nv (show i<4294967296 by omega)
 have hg:=R.pnd (UInt32.ofNat i) (by rw[hin];exact hi)
 rw[hin,if_neg h]at hg
 rw[hg]
 refine⟨rfl,?_⟩
 have hm:UInt32.ofNat i∈d.pend.map (·.1):=Classical.byContradiction fun hno=>by
  rw[PZ (fun q hq e=>hno (List.mem_map.2 ⟨q,hq,e⟩))]at hg
  cases hg
 have:=R.inv.get256 hm
 rw[hg]at this
 exact this
def YU(pn:List (List UInt8))(i:Nat):List (List UInt8):=List.replicate i []++pn.drop i
theorem qr{pn:List (List UInt8)}{i:Nat}(h:i≤pn.length):(YU pn i).length=pn.length:=by simp[YU];omega
theorem qq{pn:List (List UInt8)}{i:Nat}(h:i<pn.length):(YU pn i)[i]? = some (pn.getD i []):=by
 unfold YU
 rw[List.getElem?_append_right zS]
 simp[h]
theorem qs{pn:List (List UInt8)}{i:Nat}(h:i<pn.length):(YU pn i).set i []=YU pn (i+1):=by
 unfold YU
 rw[List.set_append_right _ _ zS]
 simp only[List.length_replicate,Nat.sub_self]
 rw[List.drop_eq_getElem_cons h,List.set_cons_zero,List.replicate_succ',List.append_assoc]
 rfl
theorem oT{pn:List (List UInt8)}{i:Nat}(h:i<pn.length)(he:pn.getD i []=[]):YU pn i=YU pn (i+1):=by
 unfold YU
 rw[List.drop_eq_getElem_cons h,List.replicate_succ',List.append_assoc]
 rw[Xu _ h]at he
 rw[he]
 rfl
theorem qp(pn:List (List UInt8)):YU pn pn.length=List.replicate pn.length []:=by simp[YU]
theorem RV.cleared(R:RV N d r){d':Ai}{r':A6}(h1:d'.pend=[])(h2:r'.pnd=List.replicate N []):∀p:UInt32,p.toNat<N→Bn d'.pend p=if r'.pnd.getD p.toNat []=[]then none else some (r'.pnd.getD p.toNat []):=fun p hp=>by
 rw[h1,h2,Xu _ (by simpa using hp)]
 simp[Bn]
theorem RV.flush(R:RV N d r){n:Nat}(hn:N<n)(hpl:d.pend.length≤QQ):∃e d' r',Ek d=some (e,d')∧EH n r=some (e,r')∧RV N d' r':=by
 have hN:=R.nle
 have hw:=vZ hpl (fun q hq=>by rw[R.inv.blen];exact(R.inv.klt q hq).1)
 have hr:EH n r=some (if Yj r then(0,{ O0 r with blk:=Lm d.pend d.blocks,pnd:=List.replicate N [] })else(71,Th r)):=by
  unfold EH
  rw[gV,AA]
  unfold Fi
  cases h:Yj r
  refine Et (fun _=>(Th r,0)) 0 (fun i hi=>absurd hi (Nat.not_lt_zero _)) (fun k=>?_) zO
  simp only[Dh]
  rw[if_neg zD,show decide ((71:Int)=0)=false from rfl,Bool.and_false,BZ]
  rfl
  have key:=Et (F:=fun nx (x:A6×Int)=>Dh (0,O0 r) nx x.1 x.2) (fun i=>({ O0 r with blk:=(QP r.pnd i).foldl (fun b p=>b.set p.toNat ((Bn d.pend p).getD [])) d.blocks,pnd:=YU r.pnd i },(i:Int))) N
   (z:=some (0,{ O0 r with blk:=Lm d.pend d.blocks,pnd:=List.replicate N [] })) ?_ ?_ hn
  rw[if_pos rfl,if_pos rfl]
  refine Eq.trans (congrArg (CI _ n) ?_) key
  show(O0 r,(0:Int))=({ O0 r with blk:=d.blocks,pnd:=r.pnd },0)
  rw[←R.blk]
  rfl
  intro i hi k
  have hlen:((QP r.pnd i).foldl (fun b p=>b.set p.toNat ((Bn d.pend p).getD [])) d.blocks).length=N:=by rw[KI,R.inv.blen]
  have hin:=Nv (show i<4294967296 by omega)
  have hip:i<r.pnd.length:=by rw[R.plen];exact hi
  simp only[Dh]
  rw[hlen,zt zO]
  simp only[decide_true,Bool.and_self,CC]
  rw[EP,qq hip,AA,jf,List.foldl_append]
  by_cases e:r.pnd.getD i []=[]
  rw[zt e,if_pos e,Bool.not_true,BZ,←oT hip e]
  unfold Ei
  rw[BN,CR zO zO]
  rfl
  obtain⟨g1,_⟩:=R.got hi e
  rw[zf e,if_neg e,Bool.not_false,CC,AA,EP,List.getElem?_eq_getElem (by rw[hlen];exact hi),AA,KH rfl (by rw[hlen];exact hi),AA,AA,KH rfl (by rw[qr zO];exact hip),AA,qs hip]
  unfold Ei
  rw[BN,CR zO zO]
  simp only[List.foldl_cons,List.foldl_nil]
  rw[g1,hin]
  rfl
  intro k
  have hlen:((QP r.pnd N).foldl (fun b p=>b.set p.toNat ((Bn d.pend p).getD [])) d.blocks).length=N:=by rw[KI,R.inv.blen]
  simp only[Dh]
  rw[hlen,zf zO,Bool.false_and,BZ,←R.keys,←R.plen,qp]
  rfl
 rw[R.on]at hr
 cases h:PA d
 rw[X0 h]at hw
 rw[h]at hr
 exact⟨_,_,_,hw,hr,R.dead⟩
 rw[X1 h]at hw
 rw[h]at hr
 have T:=R.tick h
 have hb:(Lm d.pend d.blocks).length=N:=by unfold Lm;rw[KI,R.inv.blen]
 refine⟨_,_,_,hw,hr,⟨⟨hb,?_,List.nodup_nil,fun q hq=>by cases hq⟩,R.nle,rfl,by simp,R.cleared rfl rfl,R.blen,R.bad,R.bnd,R.blt,R.cnt,R.tag,R.boots,R.off,T.cut,T.uncut⟩⟩
 show ∀s∈Lm d.pend d.blocks,s.length=256
 unfold Lm
 have gen:∀(ks:List UInt32) (bl:List (List UInt8)),(∀k∈ks,k∈d.pend.map (·.1))→(∀s∈bl,s.length=256)→∀s∈ks.foldl (fun b p=>b.set p.toNat ((Bn d.pend p).getD [])) bl,s.length=256:=by
  intro ks
  induction ks with
  | nil=>intro bl _ hb;exact hb
  | cons k ks ih=>
   intro bl hk hb
   rw[List.foldl_cons]
   refine ih _ (fun q hq=>hk q (List.mem_cons_of_mem _ hq)) fun s hs=>?_
   rcases List.mem_or_eq_of_mem_set hs with hs | rfl
   exact hb s hs
   exact R.inv.get256 (hk k (List.mem_cons_self ..))
 exact gen _ _ (fun k hk=>P7.1 hk) R.inv.b256
end

section
structure VR(N:Nat)(v:Am)(d:Ai)(w:BW)(c:A6):Prop where
 dev:RV N d c
 ring:w.ring=v.ring
 rlen:v.ring.length≤1048576
 gen:w.gen=v.gen
 boot:w.boot=v.boot
 num:w.num=v.seals
 tlen:w.taken.length=N
 n4:4≤N
 low:∀i,i<2→w.taken.getD i false=true
 tak:∀p:UInt32,2≤p.toNat→p.toNat<N→w.taken.getD p.toNat false=EB v p
 tnd:(v.taken.map (·.1)).Nodup
 tok:∀e∈v.taken,e.2=true∧2≤e.1.toNat∧e.1.toNat<N
variable {N n:Nat}{T:List UInt32}{v:Am}{d:Ai}{w:BW}{c:A6}
theorem VR.seal(V9:VR N v d w c)(hT:T.length=64)(hn:2097152<n)(p:UInt32){s:List UInt8}(hs:s.length≤1048576):
  ∃t e v' d' w' c',Jh T v d p s=some (t,e,v',d')∧E7 n T w c p s=some (t,e,w',c')∧VR N v' d' w' c'∧v'.taken=v.taken∧w'.taken=w.taken:=by
 have hrl:=V9.rlen
 unfold Jh E7
 rw[V9.ring,V9.gen,V9.boot,V9.num,vx T v.ring _ s hT hrl hn,AA]
 have hso:Ys T v.ring ⟨p,v.gen,v.boot,v.seals⟩ s=some (Ik T v.ring ⟨p,v.gen,v.boot,v.seals⟩ s):=if_pos ⟨by omega,by omega⟩
 rw[hso,AA]
 generalize Ik T v.ring ⟨p,v.gen,v.boot,v.seals⟩ s=y
 cases he:decide (y.2=0)with
 | false=>
  rw[Bool.not_false,CC,CC]
  exact⟨_,_,v,d,w,c,rfl,rfl,V9,rfl,rfl⟩
 | true=>
  rw[Bool.not_true,BZ,BZ]
  obtain⟨e,d',c',h1,h2,h3⟩:=V9.dev.write p y.1
  rw[h1,h2,AA,AA]
  dsimp only
  have V':VR N { v with seals:=v.seals+1 } d' ⟨v.ring,v.gen,v.boot,v.seals+1,w.taken⟩ c':=⟨h3,rfl,V9.rlen,rfl,rfl,rfl,V9.tlen,V9.n4,V9.low,V9.tak,V9.tnd,V9.tok⟩
  cases he2:decide (e=0)with
  | false=>
   rw[Bool.not_false,CC,CC]
   exact⟨_,_,_,_,_,_,rfl,rfl,V',rfl,rfl⟩
  | true=>
   rw[Bool.not_true,BZ,BZ]
   have he0:=of_decide_eq_true he2
   have hy:y.1.length=256:=by
    by_cases hy:y.1.length=256
    exact hy
    have hb:=V9.dev.rlen
    have hN:=V9.dev.nle
    unfold EI at h2
    rw[lC c p zO,AA,zf (show ¬(y.1.length:Int)=256 by omega),Bool.not_false,Bool.or_true,CC]at h2
    have h5:=congrArg Prod.fst (zI h2)
    simp only at h5
    omega
   have h6:ZW y.1=some (y.1.drop 224):=by
    unfold ZW
    rw[if_pos zO,hy]
   have h7:Iu y.1 224 (y.1.length:Int)=some (y.1.drop 224):=(VJ (l:=y.1) (p:=224) (q:=y.1.length) rfl rfl zO zO).trans (congrArg some (List.take_of_length_le zS))
   rw[h6,h7,AA,AA]
   exact⟨_,_,_,_,_,_,rfl,rfl,V',rfl,rfl⟩
end

section
variable {N n:Nat}{T:List UInt32}{v:Am}{d:Ai}{w:BW}{c:A6}
def qK(n:Nat)(T:List UInt32)(w:BW)(c:A6)(s:List UInt8)(a1:Int):Option (BR×Int×BW×A6):=
 (E7 n T w c (De a1) s).bind fun y5=>
  cond (!decide (y5.2.1=0)) (some ((⟨0,[]⟩:BR),y5.2.1,y5.2.2.1,y5.2.2.2))
   ((BE y5.2.2.1.taken a1).bind fun _=>(Mx y5.2.2.1.taken a1 true).bind fun l1=>some ((⟨De a1,y5.1⟩:BR),0,{ y5.2.2.1 with taken:=l1 },y5.2.2.2))
theorem VR.scan(V9:VR N v d w c)(s:List UInt8):∀(k i m:Nat),2≤i→i+k=N→k<m→
  (Fe v i k=[]∧CZ n T s m (w,c,0,[],(i:Int))=Fz w c 0 [])∨
  ∃j,i≤j∧j<N∧Fe v i k=[UInt32.ofNat j]∧CZ n T s m (w,c,0,[],(i:Int))=qK n T w c s (j:Int)
 | _,_,0,_,_,h=>absurd h (Nat.not_lt_zero _)
 | 0,i,m+1,_,hi,_=>by
  left
  refine⟨rfl,?_⟩
  have hl:=V9.tlen
  show DB n T s (CZ n T s m) _ _ _ _ _=_
  unfold DB
  dsimp only
  rw[zf zO,BZ]
 | k+1,i,m+1,h2i,hi,hm=>by
  have hl:=V9.tlen
  have hN:=V9.dev.nle
  have hil:i<w.taken.length:=zO
  have hin:(UInt32.ofNat i).toNat=i:=by simp;omega
  have ht:=V9.tak (UInt32.ofNat i) (by rw[hin];exact h2i) (by rw[hin];omega)
  rw[hin,List.getD_eq_getElem?_getD,List.getElem?_eq_getElem hil]at ht
  simp only[Option.getD_some]at ht
  have n1:BE w.taken (i:Int)=some w.taken[i]:=by rw[Fo rfl,List.getElem?_eq_getElem hil]
  have e:CZ n T s (m+1) (w,c,0,[],(i:Int))=cond w.taken[i] (CZ n T s m (w,c,0,[],((i+1:Nat):Int))) (qK n T w c s (i:Int)):=by
   show DB n T s (CZ n T s m) _ _ _ _ _=_
   unfold DB
   dsimp only
   rw[zt zO,CC,n1,AA,BN,CR zO zO]
   rfl
  rw[e,ht]
  unfold Fe
  cases hc:EB v (UInt32.ofNat i)with
  | true=>
   rw[if_pos rfl,CC]
   rcases VR.scan V9 s k (i+1) m zO zO zO with h | ⟨j,h1,h2,h3,h4⟩
   exact .inl h
   exact .inr ⟨j,by omega,h2,h3,h4⟩
  | false=>
   right
   exact⟨i,Nat.le_refl _,by omega,by simp,by rw[BZ]⟩
theorem VR.write(V9:VR N v d w c)(hT:T.length=64)(hn:2097152<n){s:List UInt8}(hs:s.length≤1048576):
  ∃r e v' d' w' c',GV T v d s=some (r,e,v',d')∧HC n T w c s=some (r,e,w',c')∧VR N v' d' w' c':=by
 have hl:=V9.tlen
 have hN:=V9.dev.nle
 have hbl:=V9.dev.inv.blen
 unfold GV HC
 rw[BN]
 cases h198:decide (198<(s.length:Int))with
 | true=>
  rw[CC,CC]
  exact⟨_,_,v,d,w,c,rfl,rfl,V9⟩
 | false=>
  have hfr:TT v d=some (Fe v 2 (N-2)):=by
   unfold TT
   rw[if_pos zO,hbl]
  rw[BZ,BZ,show bZ v d=some ()from rfl,AA,hfr,AA]
  by_cases h2N:N<2
  have e1:N-2=0:=zO
  rw[e1]
  obtain⟨m,rfl⟩:∃m,n=m+1:=⟨n-1,by omega⟩
  have e2:CZ (m+1) T s (m+1) (w,c,0,[],2)=Fz w c 0 []:=by
   show DB (m+1) T s (CZ (m+1) T s m) _ _ _ _ _=_
   unfold DB
   dsimp only
   rw[zf zO,BZ]
  rw[e2]
  exact⟨_,_,v,d,w,c,rfl,rfl,V9⟩
  rcases V9.scan (n:=n) (T:=T) s (N-2) 2 n zO zO zO with⟨h1,h2⟩ | ⟨j,hj2,hjN,h1,h2⟩
  rw[h1,show CZ n T s n (w,c,0,[],2)=_ from h2]
  exact⟨_,_,v,d,w,c,rfl,rfl,V9⟩
  have hjn:(UInt32.ofNat j).toNat=j:=by simp;omega
  rw[h1,show CZ n T s n (w,c,0,[],2)=_ from h2]
  show ∃r e v' d' w' c',Fm T v d s (UInt32.ofNat j)=some (r,e,v',d')∧_∧_
  unfold Fm qK
  have hne:decide (UInt32.ofNat j=0)=false:=zf fun e=>by
   have:=congrArg UInt32.toNat e
   rw[hjn]at this
   have h0:(0:UInt32).toNat=0:=rfl
   omega
  obtain⟨t,e,v',d',w',c',g1,g2,V',g3,g4⟩:=V9.seal hT hn (UInt32.ofNat j) hs
  rw[hne,BZ,g1,AA,hO,g2,AA]
  dsimp only
  cases he:decide (e=0)with
  | false=>
   rw[Bool.not_false,CC,CC]
   exact⟨_,_,_,_,_,_,rfl,rfl,V'⟩
  | true=>
   have hl':=V'.tlen
   have hmlen:v'.taken.length<9223372036854775807:=by
    have:=cD V'.tnd (N:=N) (fun k hk=>by
     obtain⟨q,hq,rfl⟩:=List.mem_map.1 hk
     exact(V'.tok q hq).2.2)
    simp at this
    omega
   rw[Bool.not_true,BZ,BZ,show Km v'.taken (UInt32.ofNat j) true=some (Hn v'.taken (UInt32.ofNat j) true)from if_pos hmlen,AA,Fo rfl,List.getElem?_eq_getElem zO,AA,KH rfl zO,AA]
   refine⟨_,_,_,_,_,_,rfl,rfl,⟨V'.dev,V'.ring,V'.rlen,V'.gen,V'.boot,V'.num,by simpa using V'.tlen,V'.n4,fun i hi=>?_,fun p hp2 hp=>?_,ZK V'.tnd,fun q hq=>?_⟩⟩
   rw[PX zO,if_neg zO]
   exact V'.low i hi
   rw[PX zO]
   unfold EB
   rw[I5]
   by_cases hpj:j=p.toNat
   subst hpj
   rw[if_pos rfl,if_pos zS]
   rfl
   rw[if_neg hpj,if_neg (fun e=>hpj (by rw[←e,hjn]))]
   exact V'.tak p hp2 hp
   rcases List.mem_cons.1 hq with rfl | hq
   exact⟨rfl,by rw[hjn];exact hj2,by rw[hjn];exact hjN⟩
   exact V'.tok q (List.mem_filter.1 hq).1
theorem VR.give(V9:VR N v d w c)(p:UInt32):∃e v' w',Gi v d p=some (e,v')∧GR w c p=some (e,w')∧VR N v' d w' c:=by
 have hl:=V9.tlen
 have hN:=V9.dev.nle
 have hbl:=V9.dev.inv.blen
 have hu:(B9 (w.taken.length:Int)).toNat=N:=by rw[hl,W1 zO]
 unfold Gi GR Hw KW
 have e2:(2:UInt32).toNat=2:=rfl
 by_cases hp:2≤p.toNat∧p.toNat<N
 obtain⟨hp2,hpN⟩:=hp
 have ht:=V9.tak p hp2 hpN
 have n1:BE w.taken (p.toNat:Int)=some (EB v p):=by
  rw[Fo rfl,List.getElem?_eq_getElem zO]
  rw[List.getD_eq_getElem?_getD,List.getElem?_eq_getElem zO]at ht
  simpa using ht
 rw[zt (UInt32.le_iff_toNat_le.2 zO),zf (fun h=>by have:=UInt32.lt_iff_toNat_lt.1 h;omega),zf (fun h=>by have:=UInt64.le_iff_toNat_le.1 h;rw[hu,UInt32.toNat_toUInt64]at this;omega),n1]
 simp only[GA,Tc,CC,BZ,AA,BN,Bool.or_false,hbl]
 rw[zt (show(p.toNat:Int)<(N:Int) by omega)]
 show ∃e v' w',(cond (!true || !EB v p) _ _=_)∧_
 cases hta:EB v p with
 | false=>exact⟨_,v,w,rfl,rfl,V9⟩
 | true=>
  rw[KH rfl zO]
  refine⟨_,_,_,rfl,rfl,⟨V9.dev,V9.ring,V9.rlen,V9.gen,V9.boot,V9.num,by simpa using hl,V9.n4,fun i hi=>?_,fun q hq2 hq=>?_,U3 V9.tnd,fun q hq=>V9.tok q (List.mem_filter.1 hq).1⟩⟩
  rw[PX zO,if_neg zO]
  exact V9.low i hi
  rw[PX zO]
  unfold EB
  rw[ou]
  by_cases hpq:p.toNat=q.toNat
  rw[if_pos hpq,if_pos (UInt32.toNat_inj.1 hpq)]
  rfl
  rw[if_neg hpq,if_neg (fun e=>hpq (by rw[e]))]
  exact V9.tak q hq2 hq
 have hb:(decide (p<2)||decide (B9 (w.taken.length:Int)≤p.toUInt64))=true:=by
  rw[Bool.or_eq_true,decide_eq_true_eq,decide_eq_true_eq,UInt32.lt_iff_toNat_lt,UInt64.le_iff_toNat_le,hu,UInt32.toNat_toUInt64]
  omega
 rw[hb]
 have hx:(GA (decide (2≤p)) ((some (d.blocks.length:Int)).bind fun y1=>some (decide ((p.toNat:Int)<y1))))=some false:=by
  rw[AA,PO]
  congr 1
  rw[Bool.and_eq_false_iff,decide_eq_false_iff_not,decide_eq_false_iff_not,UInt32.le_iff_toNat_le,hbl]
  omega
 refine⟨2,v,w,?_,rfl,V9⟩
 first
  | (rw[hx];rfl)
  | (rw[BN,hx];rfl)
  | (simp only[BN];rw[hx];rfl)
end

section
end

section
structure SR(N:Nat)(p:IG)(q:PM)(k:WP)(w:BW)(c:A6):Prop where
 out:k.out=p.out
 err:k.err=p.wrong
 took:k.took=q.tk
 vr:VR N q.v q.d w c
variable {N n:Nat}{T:List UInt32}{th:List (KN×BR)}{had:List Ak}
theorem Xa{x:C4}(hn:10≤n)(hr:x.rows.length<n)(hk:x.kids.length<n)(hb:x.rows.length≤1048576)(hc:x.kids.length≤1048576):∃y,Fl n x=some y:=by
 cases h:GL x with
 | true=>exact⟨_,We hn h⟩
 | false=>exact⟨_,bF hr hk zO zO h⟩
theorem cI(hth:∀k:KN,Bn th k=(had.find? fun s=>decide (s.txt=k.1)).map fun s=>(⟨s.page,s.tag⟩:BR))(hh:had.length≤1048576)(hT:T.length=64)(hn:2097152<n){x:C4}(hb:x.rows.length≤1048576)(hc:x.kids.length≤1048576)
{p:IG}{q:PM}{k:WP}{w:BW}{c:A6}(S:SR N p q k w c){r:BR×(IG×PM)}(h:Is n (M5 T th) x p q=some r):
  ∃k' w' c',Ps n T had x (k,w,c)=some (r.1,(k',w',c'))∧SR N r.2.1 r.2.2 k' w' c':=by
 obtain⟨ko,kt,ke⟩:=k
 obtain⟨po,pw⟩:=p
 obtain⟨qt,qv,qd⟩:=q
 obtain⟨e1,e2,e3,V9⟩:=S
 dsimp only at e1 e2 e3 V9
 subst e1 e2 e3
 obtain⟨⟨s,e⟩,hy⟩:=Xa (n:=n) (x:=x) zO zO zO hb hc
 unfold Ps
 rw[dZ zO zO zO hb hc,hy,AA]
 unfold Is at h
 dsimp only at h ⊢
 cases hw:decide (ke=0)with
 | false=>
  rw[hw,Bool.not_false,CC]at h
  obtain rfl:=zI h
  rw[Bool.and_false,BZ]
  unfold RI
  rw[hw,Bool.not_false,CC]
  exact⟨_,_,_,rfl,⟨rfl,rfl,rfl,V9⟩⟩
 | true=>
  have hk0:=of_decide_eq_true hw
  subst hk0
  rw[hw,Bool.not_true,BZ,hy,AA]at h
  dsimp only at h
  cases he:decide (e=0)with
  | false=>
   rw[he,BZ]at h
   unfold RH at h
   dsimp only at h
   rw[he,Bool.not_false,CC]at h
   obtain rfl:=zI h
   rw[Bool.not_false,Bool.and_true,CC]
   unfold RI
   rw[he,Bool.not_false,CC]
   exact⟨_,_,_,rfl,⟨rfl,rfl,rfl,V9⟩⟩
  | true=>
   rw[he,CC]at h
   refine AF h fun wr hwr h=>?_
   rw[Bool.not_true,Bool.false_and,BZ]
   unfold RI
   rw[show decide ((0:Int)=0)=true from rfl,Bool.not_true,BZ,if_neg zO]
   unfold M5 at hwr
   obtain⟨kk,hkk,hwr⟩:=bnd hwr
   have hks:=Wl hkk
   have hm:=hth kk
   have hkl:=kk.2
   rw[hks]at hm hkl
   cases hf:had.find? (fun x=>decide (x.txt=s))with
   | some y=>
    rw[hf]at hm
    simp only[Option.map_some]at hm
    rw[hm]at hwr
    obtain rfl:=zI hwr
    unfold RH at h
    obtain⟨l,hl,h⟩:=bnd (show((C8 40 ko [⟨s,y.page,y.tag⟩]).bind fun l=>some ((⟨y.page,y.tag⟩:BR),((⟨l,0⟩:IG),(⟨kt,qv,qd⟩:PM))))=some r from h)
    obtain rfl:=zI h
    dsimp only
    rw[hl,AA]
    exact⟨_,_,_,rfl,⟨rfl,rfl,rfl,V9⟩⟩
   | none=>
    rw[hf]at hm
    simp only[Option.map_none]at hm
    rw[hm]at hwr
    obtain⟨rr,ee,v',d',w',c',g1,g2,V'⟩:=V9.write hT hn (s:=s) zO
    simp only[Option.isSome_none,BZ]at hwr
    rw[g1,AA]at hwr
    dsimp only at hwr ⊢
    rw[g2,AA]
    dsimp only
    cases hee:decide (ee=0)with
    | false=>
     rw[hee,BZ]at hwr
     obtain rfl:=zI hwr
     unfold RH at h
     dsimp only at h
     rw[hee,Bool.not_false,CC]at h
     obtain rfl:=zI h
     rw[Bool.not_false,CC]
     exact⟨_,_,_,rfl,⟨rfl,rfl,rfl,V'⟩⟩
    | true=>
     rw[hee,CC]at hwr
     obtain⟨tk,htk,hwr⟩:=bnd hwr
     obtain rfl:=zI hwr
     unfold RH at h
     dsimp only at h
     rw[hee,Bool.not_true,BZ]at h
     refine AF h fun l hl h=>?_
     obtain rfl:=zI h
     rw[Bool.not_true,BZ,htk,AA,hl,AA]
     exact⟨_,_,_,rfl,⟨rfl,rfl,rfl,V'⟩⟩
end

section
variable {N n:Nat}{T:List UInt32}{th:List (KN×BR)}{had:List Ak}
theorem dI{x:C4}(hn:2097152<n)(hb:x.rows.length≤1048576)(hc:x.kids.length≤1048576){k:WP}{w:BW}{c:A6}(he:k.err≠0):Ps n T had x (k,w,c)=some (⟨0,[]⟩,(k,w,c)):=by
 obtain⟨y,hy⟩:=Xa (n:=n) (x:=x) zO zO zO hb hc
 unfold Ps
 rw[dZ zO zO zO hb hc,hy,AA]
 dsimp only
 rw[zf he,Bool.and_false,BZ]
 unfold RI
 rw[zf he,Bool.not_false,CC]
theorem dH{σ:Type}{wh:YG σ}{x:C4}{p:IG}{q:σ}{r:BR×(IG×σ)}(h:Is n wh x p q=some r)(hw:r.2.1.wrong≠0):r.1=⟨0,[]⟩:=by
 have put:∀ {e:List UInt8} {w:BR×Int×σ},p.wrong=0→RH e p w=some r→r.1=⟨0,[]⟩:=by
  intro e w hp h
  unfold RH at h
  cases hd:decide (w.2.1=0)with
  | false=>
   rw[hd,Bool.not_false,CC]at h
   rw[←zI h]
  | true=>
   rw[hd,Bool.not_true,BZ]at h
   refine AF h fun l _ h=>?_
   exfalso
   rw[←zI h]at hw
   exact hw hp
 unfold Is at h
 cases hd:decide (p.wrong=0)with
 | false=>
  rw[hd,Bool.not_false,CC]at h
  rw[←zI h]
 | true=>
  have hp:=of_decide_eq_true hd
  rw[hd,Bool.not_true,BZ]at h
  refine AF h fun e _ h=>?_
  cases h2:decide (e.2=0)with
  | true=>
   rw[h2,CC]at h
   refine AF h fun w _ h=>?_
   exact put hp h
  | false=>
   rw[h2,BZ]at h
   exact put hp h
def Tf(l:List Aj)(i:Nat):List Aj:=(l.drop (4*i)).take (min (4*i+4) l.length-4*i)
theorem cH{l:List Aj}{i:Nat}(h:4*i≤l.length):Iu l (4*(i:Int)) (min (l.length:Int) (4*(i:Int)+4))=some (Tf l i):=by
 rw[VJ (p:=4*i) (q:=min (4*i+4) l.length) zO zO zO zO]
 rfl
theorem ZO(l:List Aj)(i:Nat):(Tf l i).length≤4:=by
 unfold Tf
 rw[List.length_take]
 omega
theorem X6(hn:2097152<n){l:List Aj}{k:WP}{w:BW}{c:A6}(he:k.err≠0):∀(m:Nat),(∀i,i<m→4*i≤l.length)→VE (Ps n T had) l m ⟨0,[]⟩ (k,w,c)=some (⟨0,[]⟩,(k,w,c))
 | 0,_=>rfl
 | m+1,h=>by
  have h4:=ZO l m
  unfold VE
  rw[cH (h m zO),AA,dI hn (show(Tf l m).length≤_ by omega) (Nat.zero_le _) he,AA]
  exact X6 hn he m (fun i hi=>h i zO)
theorem eQ(hth:∀k:KN,Bn th k=(had.find? fun s=>decide (s.txt=k.1)).map fun s=>(⟨s.page,s.tag⟩:BR))(hh:had.length≤1048576)(hT:T.length=64)(hn:2097152<n){l:List Aj}:
  ∀(m:Nat),(∀i,i<m→4*i≤l.length)→∀ {r:BR} {p:IG} {q:PM} {k:WP} {w:BW} {c:A6},SR N p q k w c→∀ {y:BR×(IG×PM)},O2 n (M5 T th) (((List.range m).map (Tf l)).reverse) r p q=some y→
   ∃k' w' c',VE (Ps n T had) l m r (k,w,c)=some (y.1,(k',w',c'))∧SR N y.2.1 y.2.2 k' w' c'
 | 0,_,r,p,q,k,w,c,S,y,h=>by
  obtain rfl:=zI (show some (r,(p,q))=some y from h)
  exact⟨_,_,_,rfl,S⟩
 | m+1,hm,r,p,q,k,w,c,S,y,h=>by
  have h4:=ZO l m
  rw[List.range_succ,List.map_append,List.reverse_append]at h
  simp only[List.map_cons,List.map_nil,List.reverse_cons,List.reverse_nil,List.nil_append,List.cons_append]at h
  unfold O2 at h
  refine AF h fun z hz h=>?_
  obtain⟨k',w',c',g1,S'⟩:=cI hth hh hT hn (x:=⟨1,0,0,0,Tf l m,[],r.page,r.tag⟩) (show(Tf l m).length≤_ by omega) (Nat.zero_le _) S hz
  unfold VE
  rw[cH (hm m zO),AA,g1,AA]
  dsimp only
  cases hw:decide (z.2.1.wrong=0)with
  | false=>
   rw[hw,Bool.not_false,CC]at h
   obtain rfl:=zI h
   have h0:=dH hz (of_decide_eq_false hw)
   rw[h0]
   exact⟨k',w',c',X6 hn (by rw[S'.err];exact of_decide_eq_false hw) m (fun i hi=>hm i zO),S'⟩
  | true=>
   rw[hw,Bool.not_true,BZ]at h
   exact eQ hth hh hT hn m (fun i hi=>hm i zO) S' h
theorem dp{rec1:CB→IG→PM→Option (BR×(IG×PM))}{rec2:CB→WP×BW×A6→Option (BR×(WP×BW×A6))}:
  ∀(ks:List CB),(∀t∈ks,∀ {p q k w c},SR N p q k w c→∀ {y},rec1 t p q=some y→∃k' w' c',rec2 t (k,w,c)=some (y.1,(k',w',c'))∧SR N y.2.1 y.2.2 k' w' c')→
   ∀ {p:IG} {q:PM} {k:WP} {w:BW} {c:A6} {acc:List BR},SR N p q k w c→∀ {y:List BR×(IG×PM)},Kl rec1 ks p q acc=some y→∃k' w' c',TV rec2 ks (k,w,c) acc=some (y.1,(k',w',c'))∧SR N y.2.1 y.2.2 k' w' c'∧y.1.length=acc.length+ks.length
 | [],_,p,q,k,w,c,acc,S,y,h=>by
  obtain rfl:=zI (show some (acc,(p,q))=some y from h)
  exact⟨_,_,_,rfl,S,rfl⟩
 | t::ks,hr,p,q,k,w,c,acc,S,y,h=>by
  unfold Kl at h
  refine AF h fun z hz h=>?_
  refine AF h fun a ha h=>?_
  obtain⟨k',w',c',g1,S'⟩:=hr t zS S hz
  obtain⟨k2,w2,c2,g2,S2,g3⟩:=dp ks (fun u hu=>hr u (by simp[hu])) S' h
  have hal:a.length=acc.length+1:=by
   unfold C8 at ha
   split at ha
   rw[←zI ha]
   simp
   cases ha
  refine⟨k2,w2,c2,?_,S2,by rw[g3,hal,List.length_cons];omega⟩
  unfold TV
  rw[g1,AA]
  dsimp only
  rw[ha,AA]
  exact g2
theorem eA(hth:∀k:KN,Bn th k=(had.find? fun s=>decide (s.txt=k.1)).map fun s=>(⟨s.page,s.tag⟩:BR))(hh:had.length≤1048576)(hT:T.length=64)(hn:2097152<n):
  ∀(f:Nat) (t:CB) {p:IG} {q:PM} {k:WP} {w:BW} {c:A6},SR N p q k w c→∀ {y:BR×(IG×PM)},Ir n (M5 T th) f t p q=some y→∃k' w' c',U4 (Ps n T had) f t (k,w,c)=some (y.1,(k',w',c'))∧SR N y.2.1 y.2.2 k' w' c'
 | 0,_,_,_,_,_,_,_,_,h=>by cases h
 | f+1,t,p,q,k,w,c,S,y,h=>by
  unfold Ir at h
  unfold U4
  split at h
  cases h
  rename_i hbig
  rw[if_neg hbig]
  cases hk:decide (0<(t.kids.length:Int))with
  | true=>
   rw[hk,CC]at h
   refine AF h fun z hz h=>?_
   obtain⟨k',w',c',g1,S',g2⟩:=dp t.kids (fun u _=>fun S=>fun h=>eA hth hh hT hn f u S h) S hz
   rw[CC,g1,AA]
   exact cI hth hh hT hn (Nat.zero_le _) (show z.1.length≤_ by rw[g2];simp;omega) S' h
  | false=>
   rw[hk,BZ]at h
   rw[BZ]
   have hm:∀i,i<(max t.rows.length 1-1) / 4+1→4*i≤t.rows.length:=fun i hi=>by omega
   refine eQ hth hh hT hn _ hm S ?_
   rw[←h]
   congr 2
   unfold PW
   by_cases hl:t.rows=[]
   rw[if_pos hl,hl]
   rfl
   have:=List.length_pos_iff.2 hl
   rw[if_neg hl,show(max t.rows.length 1-1) / 4+1=(t.rows.length+3) / 4 by omega]
   rfl
end

section
variable {N n:Nat}{T:List UInt32}{had:List Ak}
theorem bh{d:Ai}{c:A6}:∀(tk:List UInt32) {v:Am} {w:BW},VR N v d w c→∀ {v'},SA tk v d=some v'→∃w',Sr c w tk=some w'∧VR N v' d w' c
 | [],v,w,V9,v',h=>by
  obtain rfl:=zI (show some v=some v' from h)
  exact⟨w,rfl,V9⟩
 | x::tk,v,w,V9,v',h=>by
  obtain⟨e,v2,w2,g1,g2,V2⟩:=V9.give x
  unfold SA at h
  rw[g1,AA]at h
  obtain⟨w',h1,h2⟩:=bh tk V2 h
  refine⟨w',?_,h2⟩
  unfold Sr
  rw[g2,AA]
  exact h1
theorem pJ(hT:T.length=64)(hn:2097152<n){v:Am}{d:Ai}{w:BW}{c:A6}(V9:VR N v d w c){l:List Aj}(hl:l.length≤1048576)(hh:had.length≤1048576)(hht:∀s∈had,s.txt.length≤1048576)
{r:List Ak×Int×Am×Ai}(h:Pe n T v d l had=some r):∃w' c',Vl n T w c l had=some (r.1,r.2.1,w',c')∧VR N r.2.2.1 r.2.2.2 w' c':=by
 unfold Pe at h
 refine AF h fun b hb h=>?_
 unfold Vl
 rw[ip zO zO hl,hb,AA]
 cases hd:decide (b.2=0)with
 | false=>
  rw[hd,Bool.not_false,CC]at h
  obtain rfl:=zI h
  rw[Bool.not_false,CC]
  exact⟨w,c,rfl,V9⟩
 | true=>
  rw[hd,Bool.not_true,BZ,if_neg zO]at h
  obtain⟨th,h2,h3⟩:=cZ had hht zO
  rw[h2,AA]at h
  refine AF h fun y hy h=>?_
  obtain⟨k',w',c',g1,S⟩:=eA h3 hh hT hn n b.1 (k:=⟨[],[],0⟩) (⟨rfl,rfl,rfl,V9⟩:SR N ⟨[],0⟩ ⟨[],v,d⟩ ⟨[],[],0⟩ w c) hy
  rw[Bool.not_true,BZ,g1,AA]
  dsimp only
  unfold cP at h
  rw[S.err,S.took,S.out]
  cases hw:decide (y.2.1.wrong=0)with
  | true=>
   rw[hw,Bool.not_true,BZ]at h
   obtain rfl:=zI h
   rw[Bool.not_true,BZ]
   exact⟨w',c',rfl,S.vr⟩
  | false=>
   rw[hw,Bool.not_false,CC]at h
   rw[Bool.not_false,CC]
   split at h
   cases h
   rename_i hbig
   refine AF h fun v2 hv2 h=>?_
   obtain rfl:=zI h
   obtain⟨w2,f1,f2⟩:=bh y.2.2.tk S.vr hv2
   rw[if_neg hbig,f1,AA]
   exact⟨w2,c',rfl,f2⟩
end

section
variable {K:Nat→Prop}{w0:World}{H:List AX}
def QK(y2:UInt64)(y3:UInt32)(y4:UInt32)(y5:List UInt8):Option (Aj×Int):=
 some ((⟨0,0,0,[]⟩:Aj),100)
def Oj(p0:List Aj)(p1:UInt64)(nx_f_ref12_Get_l1:UInt64×UInt32×UInt32×List UInt8×Int→Option (Aj×Int))(y6:UInt64)(y7:UInt32)(y8:UInt32)(y9:List UInt8)(a1:Int):Option (Aj×Int):=
 cond (decide (a1<(p0.length:Int)))
 (
  (BE p0 a1).bind fun x1=>
  cond (decide (x1.id=p1))
  (
   (BE p0 a1).bind fun x2=>
   some (x2,0))
  (
   ret (wI (a1+1)) fun i_1=>
   nx_f_ref12_Get_l1 (y6,y7,y8,y9,i_1)))
 (
  QK y6 y7 y8 y9)
def QL(p0:List Aj)(p1:UInt64):Nat→(UInt64×UInt32×UInt32×List UInt8×Int)→Option (Aj×Int):=CI fun nx x=>Oj p0 p1 nx x.1 x.2.1 x.2.2.1 x.2.2.2.1 x.2.2.2.2
def TM(n:Nat)(p0:List Aj)(p1:UInt64):Option (Aj×Int):=
 (E3 n p0).bind fun y1=>
 cond (!y1)
 (
  some ((⟨0,0,0,[]⟩:Aj),80))
 (
  QL p0 p1 n (0,0,0,[],0))
theorem fV{n:Nat}{Cn:Value}{p0:List Aj}{p1:UInt64}{r:Aj×Int}(h:TM n p0 p1=some r)(hs0_:By K w0 AV 4 Cn p0):zC K w0 138 [Cn,Be p1] [] H (fun u M=>u=.tuple #[.agg (AV r.1).toArray,vI r.2]∧M=[]):=by
 unfold TM at h
 refine WN.enter Tryz.func138 rfl rfl ?_
 refine Y ?_
 refine Au E Gm zU fun b1=>?_
 refine U E (V (Y ?_))
 refine AF h fun y1 hy1 h=>?_
 refine J E (AQ 0 ay (Ls hy1 hs0_) E (U E (V (AH (Y (J E (CF E E (V ?_))))))))
 refine AL h E (fun hc1 h=>?_) fun hc1 h=>?_
 refine Y (B5 [] E wR wP Gm zT E (A3 0 E E E E DQ E E E zT (U E (V (AK (Aa ?_))))))
 obtain rfl:=zI h
 exact An (FA E (B2 0 (AV (⟨0,0,0,[]⟩:Aj)) Hy E E E E) E) (Ao (M:=[]) ⟨E,E⟩ fun _ hw=>Bj.pick (H:=[_]) hw [] 1 E)
 refine AI (AJ ?_)
 refine A8 (α:=UInt64×UInt32×UInt32×List UInt8) (fun x=>QK x.1 x.2.1 x.2.2.1 x.2.2.2=some r) (fun x=>[(4,vP b1 0)]) (fun x=>own b1 (.cells #[Be x.1,AB x.2.1,AB x.2.2.1,vS x.2.2.2] 43)::H) ?_ (fun x D h=>?_)
 refine Y (U E (V (AN ?_)))
 refine SX.heap (SX.mono (BK (α:=Nat×UInt64×UInt32×UInt32×List UInt8×Int) (fun x=>QL p0 p1 x.1 (x.2.1,x.2.2.1,x.2.2.2.1,x.2.2.2.2.1,x.2.2.2.2.2)=some r) (fun x=>[(0,Cn),(1,Be p1),(4,vP b1 0),(7,vI x.2.2.2.2.2)]) (fun x=>own b1 (.cells #[Be x.2.1,AB x.2.2.1,AB x.2.2.2.1,vS x.2.2.2.2.1] 43)::H) (fun x=>x.1) (fun x D h=>?_) (n,0,0,0,[],0) h) tL) (BM [0] 1 E E E)
 obtain⟨m1,y6,y7,y8,y9,a1⟩:=x
 dsimp only at h
 rcases m1 with _ | m1
 cases (show(none:Option _)=some r from h)
 replace h:Oj p0 p1 (QL p0 p1 m1) y6 y7 y8 y9 a1=some r:=h
 unfold Oj at h
 try dsimp only
 refine AH (Y (J E (J E (Bt hs0_ E Ca E (Z E A9 (V ?_))))))
 refine AL h E (fun hc2 h=>?_) fun hc2 h=>?_
 refine AI (AJ (AH (AN (Y ?_))))
 refine AF h fun x1 hx1 h=>?_
 refine J E (J E ?_)
 refine Co hx1 hs0_ E Ca DQ E E fun be1 of1 hc3=>?_
 refine AE E Mq ?_
 refine Bm E Gl E (C5 (j:=0) hc3 E) ?_
 refine J E (Z E MM (V ?_))
 refine AL h E (fun hc4 h=>?_) fun hc4 h=>?_
 refine Y ?_
 refine AF h fun x2 hx2 h=>?_
 refine J E (J E ?_)
 refine Co hx2 hs0_ E Ca DQ E E fun be2 of2 hc5=>?_
 refine Aw (AV x2) E Hy E E (DT hc5) (A3 0 E E E E DQ E E E zT (U E (V (AK (BI (Aa (EX (BI (FY ?_)))))))))
 obtain rfl:=zI h
 exact An (FA E (B2 0 (AV x2) Hy E E E E) E) (Ao (M:=[]) ⟨E,E⟩ fun _ hw=>Bj.pick (H:=[_]) hw [] 1 E)
 refine AI (Av (AJ (AM ?_)))
 obtain⟨i_1,ei_1,h⟩:=Bz h
 refine J E (Z E Bc ?_)
 refine Ay (u:=vI i_1) E E (congrArg vI ei_1) ?_
 refine AZ ?_
 exact A1 (m1,y6,y7,y8,y9,i_1) h (Nat.lt_succ_self _) tL (BM [0] 1 E E E)
 refine A5 (BC (Bb (BB ?_)))
 exact Aq (y6,y7,y8,y9) h tL (BM [0] 1 E E E)
 obtain⟨y2,y3,y4,y5⟩:=x
 dsimp only at h
 unfold QK at h
 try dsimp only
 refine Y (B5 [] E wR wP Gm zT E (A3 0 E E E E DQ E E E zT (U E (V (AK ?_)))))
 obtain rfl:=zI h
 exact An (FA E (B2 0 (AV (⟨0,0,0,[]⟩:Aj)) Hy E E E E) E) (Ao (M:=[]) ⟨E,E⟩ fun _ hw=>Bj.pick (H:=[_]) hw [] 1 E)
def Mm(l7:List Aj):Option (List Aj):=
 some l7
def PU(p2:Aj)(l1:List Aj)(a1:Bool):Option (List Aj):=
 cond (!a1)
 (
  (C8 32 l1 [p2]).bind fun l8=>
  Mm l8)
 (
  Mm l1)
def Mk(a3:Int)(nx_f_ref12_with_l1:List Aj×Bool×Int→Option (List Aj))(l3:List Aj)(a4:Bool):Option (List Aj):=
 ret (wI (a3+1)) fun i_1=>
 nx_f_ref12_with_l1 (l3,a4,i_1)
def Ml(p0:List Aj)(p1:UInt64)(a3:Int)(nx_f_ref12_with_l1:List Aj×Bool×Int→Option (List Aj))(l4:List Aj)(a5:Bool):Option (List Aj):=
 (BE p0 a3).bind fun x2=>
 cond (!decide (x2.id=p1))
 (
  (BE p0 a3).bind fun x3=>
  (C8 32 l4 [x3]).bind fun l6=>
  Mk a3 nx_f_ref12_with_l1 l6 a5)
 (
  Mk a3 nx_f_ref12_with_l1 l4 a5)
def Ns(p0:List Aj)(p1:UInt64)(p2:Aj)(nx_f_ref12_with_l1:List Aj×Bool×Int→Option (List Aj))(l2:List Aj)(a2:Bool)(a3:Int):Option (List Aj):=
 cond (decide (a3<(p0.length:Int)))
 (
  (GA (!a2) ((BE p0 a3).bind fun x1=>some (decide (p1≤x1.id)))).bind fun y1=>
  cond y1
  (
   (C8 32 l2 [p2]).bind fun l5=>
   Ml p0 p1 a3 nx_f_ref12_with_l1 l5 true)
  (
   Ml p0 p1 a3 nx_f_ref12_with_l1 l2 a2))
 (
  PU p2 l2 a2)
def J1(p0:List Aj)(p1:UInt64)(p2:Aj):Nat→(List Aj×Bool×Int)→Option (List Aj):=CI fun nx x=>Ns p0 p1 p2 nx x.1 x.2.1 x.2.2
def R5(n:Nat)(p0:List Aj)(p1:UInt64)(p2:Aj)(p3:Bool):Option (List Aj):=
 ret (!p3) fun done_1=>
 J1 p0 p1 p2 n ([],done_1,0)
theorem c9{n:Nat}{Cn:Value}{p0 r:List Aj}{p1:UInt64}{p2:Aj}{p3:Bool}(h:R5 n p0 p1 p2 p3=some r)(hs0_:By K w0 AV 4 Cn p0):zC K w0 139 [Cn,Be p1,.agg (AV p2).toArray,vB p3] [] H (fun u M=>∃v0:Value,u=v0∧M=[AD 43 4 v0 AV r]):=by
 unfold R5 at h
 refine WN.enter Tryz.func139 rfl rfl ?_
 refine Y ?_
 refine Bg E E zU fun b1=>?_
 refine CE 43 4 AV (U E (V (Y (CE 43 4 AV (U E (V (Y ?_)))))))
 obtain⟨done_1,edone_1,h⟩:=Bz h
 refine J E (CF E E ?_)
 refine Ay (u:=vB done_1) E E (congrArg vB edone_1) ?_
 refine V ?_
 refine A8 (α:=List Aj×Value×Bool) (fun x=>PU p2 x.1 x.2.2=some r) (fun x=>[(6,vP b1 0),(9,x.2.1),(10,vB x.2.2)]) (fun x=>own b1 (.cells #[Be p2.id,AB p2.x,AB p2.y,vS p2.txt] 43)::AD 43 4 x.2.1 AV x.1::H) ?_ (fun x D h=>?_)
 refine Y (U E (V (AN ?_)))
 refine SX.heap (SX.mono (BK (α:=Nat×List Aj×Value×Bool×Int) (fun x=>J1 p0 p1 p2 x.1 (x.2.1,x.2.2.2.1,x.2.2.2.2)=some r) (fun x=>[(0,Cn),(1,Be p1),(6,vP b1 0),(9,x.2.2.1),(10,vB x.2.2.2.1),(11,vI x.2.2.2.2)]) (fun x=>own b1 (.cells #[Be p2.id,AB p2.x,AB p2.y,vS p2.txt] 43)::AD 43 4 x.2.2.1 AV x.2.1::H) (fun x=>x.1) (fun x D h=>?_) (n,[],zN,done_1,0) h) tL) (BM [2,0] 3 E E E)
 obtain⟨m1,l2,v2,a2,a3⟩:=x
 dsimp only at h
 rcases m1 with _ | m1
 cases (show(none:Option _)=some r from h)
 replace h:Ns p0 p1 p2 (J1 p0 p1 p2 m1) l2 a2 a3=some r:=h
 unfold Ns at h
 try dsimp only
 refine AH (Y (J E (J E (Bt hs0_ E Ca E (Z E A9 (V ?_))))))
 refine AL h E (fun hc1 h=>?_) fun hc1 h=>?_
 refine AI (AJ ?_)
 refine A8 (α:=List Aj×Value×Bool) (fun x=>Mk a3 (J1 p0 p1 p2 m1) x.1 x.2.2=some r) (fun x=>[(0,Cn),(1,Be p1),(6,vP b1 0),(9,x.2.1),(10,vB x.2.2),(11,vI a3)]) (fun x=>own b1 (.cells #[Be p2.id,AB p2.x,AB p2.y,vS p2.txt] 43)::AD 43 4 x.2.1 AV x.1::H) ?_ (fun x D h=>?_)
 refine AN ?_
 refine A8 (α:=List Aj×Value×Bool) (fun x=>Ml p0 p1 a3 (J1 p0 p1 p2 m1) x.1 x.2.2=some r) (fun x=>[(0,Cn),(1,Be p1),(6,vP b1 0),(9,x.2.1),(10,vB x.2.2),(11,vI a3)]) (fun x=>own b1 (.cells #[Be p2.id,AB p2.x,AB p2.y,vS p2.txt] 43)::AD 43 4 x.2.1 AV x.1::H) ?_ (fun x D h=>?_)
 refine Y ?_
 refine AF h fun y1 hy1 h=>?_
 refine J E (CF E E (J E ?_))
 refine E0 22 8 30 hy1 E (fun hb hg1 k=>?_) (fun hb k=>?_) ?_
 obtain⟨x1,hx1,hg1⟩:=bnd hg1
 obtain rfl:=zI hg1
 refine J E (J E ?_)
 refine Co hx1 hs0_ E Ca DQ E E fun be1 of1 hc2=>?_
 refine AE E Mq ?_
 refine Bm E Gl E (C5 (j:=0) hc2 E) ?_
 refine J E (Z E PF (Ag E E E ?_))
 exact k.mono tL
 refine AC E (AC E (AC E (AC E (AC E (AC E (AC E (Ag E E E ?_)))))))
 exact k.mono tL
 refine V ?_
 refine AL h E (fun hc3 h=>?_) fun hc3 h=>?_
 refine Y ?_
 refine AF h fun l5 hl5 h=>?_
 refine J E (Aw [Be p2.id,AB p2.x,AB p2.y,vS p2.txt] E Hy E E (Ap 0 E) ?_)
 refine CA [_] rfl Ca DQ Gm ⟨rfl,trivial⟩ rfl rfl rfl zW rfl rfl zU fun b2=>?_
 refine B4 AV 4 ([p2]:List Aj) E zV E ?_
 refine Cr 2 hl5 (sz:=4) (enc:=AV) zV E Ca DQ Sc Gm E zD E E E E (B8 (sz:=4) (enc:=AV) 0 zV E) (by simp[AV,Value.oneCell']) zU fun v5=>?_
 refine U E (V (AM (U E (AZ ?_))))
 exact Aq (l5,v5,true) h tL (BM [1,2] 3 E E E)
 refine AI ?_
 exact Aq (l2,v2,a2) h tL (BM [0,1] 2 E E E)
 obtain⟨l4,v4,a5⟩:=x
 dsimp only at h
 unfold Ml at h
 try dsimp only
 refine Y ?_
 refine AF h fun x2 hx2 h=>?_
 refine J E (J E ?_)
 refine Co hx2 hs0_ E Ca DQ E E fun be2 of2 hc4=>?_
 refine AE E Mq ?_
 refine Bm E Gl E (C5 (j:=0) hc4 E) ?_
 refine J E (Z E dK (V ?_))
 refine AL h E (fun hc5 h=>?_) fun hc5 h=>?_
 refine AM ?_
 refine AF h fun x3 hx3 h=>?_
 refine AF h fun l6 hl6 h=>?_
 refine J E (J E (J E ?_))
 refine Co hx3 hs0_ E Ca DQ E E fun be3 of3 hc6=>?_
 refine Aw (AV x3) E Hy E E (DT hc6) ?_
 refine CA [_] rfl Ca DQ Gm ⟨rfl,trivial⟩ rfl rfl rfl zW rfl rfl zU fun b3=>?_
 refine B4 AV 4 ([x3]:List Aj) E zV E ?_
 refine Cr 2 hl6 (sz:=4) (enc:=AV) zV E Ca DQ Sc Gm E zD E E E E (B8 (sz:=4) (enc:=AV) 0 zV E) (by simp[AV,Value.oneCell']) zU fun v6=>?_
 refine U E (AZ (Av ?_))
 exact Aq (l6,v6,a5) h tL (BM [1,2] 3 E E E)
 refine AI (Av ?_)
 exact Aq (l4,v4,a5) h tL (BM [0,1] 2 E E E)
 obtain⟨l3,v3,a4⟩:=x
 dsimp only at h
 unfold Mk at h
 try dsimp only
 refine AM ?_
 obtain⟨i_1,ei_1,h⟩:=Bz h
 refine J E (Z E Bc ?_)
 refine Ay (u:=vI i_1) E E (congrArg vI ei_1) ?_
 refine AZ ?_
 exact A1 (m1,l3,v3,a4,i_1) h (Nat.lt_succ_self _) tL (BM [0,1] 2 E E E)
 refine A5 (BC (Bb (BB ?_)))
 exact Aq (l2,v2,a2) h tL (BM [0,1] 2 E E E)
 obtain⟨l1,v1,a1⟩:=x
 dsimp only at h
 unfold PU at h
 try dsimp only
 refine A8 (α:=List Aj×Value) (fun x=>Mm x.1=some r) (fun x=>[(9,x.2)]) (fun x=>AD 43 4 x.2 AV x.1::H) ?_ (fun x D h=>?_)
 refine Y (J E (CF E E (V ?_)))
 refine AL h E (fun hc7 h=>?_) fun hc7 h=>?_
 refine AM ?_
 refine AF h fun l8 hl8 h=>?_
 refine J E (Aw [Be p2.id,AB p2.x,AB p2.y,vS p2.txt] E Hy E E (Ap 0 E) ?_)
 refine CA [_] rfl Ca DQ Gm ⟨rfl,trivial⟩ rfl rfl rfl zW rfl rfl zU fun b4=>?_
 refine B4 AV 4 ([p2]:List Aj) E zV E ?_
 refine Cr 2 hl8 (sz:=4) (enc:=AV) zV E Ca DQ Sc Gm E zD E E E E (B8 (sz:=4) (enc:=AV) 0 zV E) (by simp[AV,Value.oneCell']) zU fun v8=>?_
 refine U E (AZ ?_)
 exact Aq (l8,v8) h tL (BM [2] 3 E E E)
 refine AI ?_
 exact Aq (l1,v1) h tL (BM [1] 2 E E E)
 obtain⟨l7,v7⟩:=x
 dsimp only at h
 unfold Mm at h
 try dsimp only
 refine Y (J E (U E (V (AK ?_))))
 obtain rfl:=zI h
 exact BH [0] 1 (Cx E E) E E ⟨v7,E,E⟩
def Ll(n:Nat)(p0:List Aj)(p1:Iv)(y4:List UInt8):Option (List Aj×Int):=
 (R5 n p0 p1.id (⟨p1.id,p1.x,p1.y,y4⟩:Aj) (!decide (p1.kind=3))).bind fun y5=>
 cond (decide (1000<(y5.length:Int)))
 (
  some ([],82))
 (
  some (y5,0))
def Og(n:Nat)(p0:List Aj)(p1:Iv):Option (List Aj×Int):=
 (E3 n p0).bind fun y1=>
 cond (!y1)
 (
  some ([],80))
 (
  cond ((decide (p1.kind<1))||(decide (3<p1.kind)))
  (
   some ([],2))
  (
   (FV (⟨p1.id,p1.x,p1.y,p1.txt⟩:Aj)).bind fun y2=>
   cond (((decide (p1.kind=1))&&(!y2))||((decide (p1.kind=2))&&((decide (2147483648≤p1.x))||(decide (2147483648≤p1.y)))))
   (
    some ([],80))
   (
    (TM n p0 p1.id).bind fun y3=>
    cond ((!decide (p1.kind=1))&&(!decide (y3.2=0)))
    (
     some ([],y3.2))
    (
     cond (decide (p1.kind=2))
     (
      Ll n p0 p1 y3.1.txt)
     (
      Ll n p0 p1 p1.txt)))))
theorem am{n:Nat}{Cn:Value}{p0:List Aj}{p1:Iv}{r:List Aj×Int}(h:Og n p0 p1=some r)(hs0_:By K w0 AV 4 Cn p0):zC K w0 98 [Cn,.agg (Hp p1).toArray] [] H (fun u M=>∃v0:Value,u=.tuple #[v0,vI r.2]∧M=[AD 43 4 v0 AV r.1]):=by
 unfold Og at h
 refine WN.enter Tryz.func98 rfl rfl ?_
 refine Y ?_
 refine Bg E E zU fun b1=>?_
 refine CE 43 4 AV (U E (U E (V (Y ?_))))
 refine AF h fun y1 hy1 h=>?_
 refine J E (AQ 0 ay (Ls hy1 hs0_) E (U E (V (AH (Y (J E (CF E E (V ?_))))))))
 refine AL h E (fun hc1 h=>?_) fun hc1 h=>?_
 refine Y (CE 43 4 AV (U E (U E (V (AK (Aa ?_))))))
 obtain rfl:=zI h
 exact BH [0] 3 (C9 E E E) E E ⟨(.slice none 0 0),E,E⟩
 refine AI (AJ (AH (Y (AE E L7 (AG 1 EF E (Z E A9 (J E ?_)))))))
 refine Dw (c:=decide (3<p1.kind)) 19 4 23 E (fun hb k=>?_) (fun hb k=>?_) ?_
 refine AC E (AC E (AC E (Ag E E E ?_)))
 exact k.mono tL
 refine AE E L7 (AG 1 EF E (Z E Cj (Ag E E E ?_)))
 exact k.mono tL
 refine V ?_
 refine AL h E (fun hc2 h=>?_) fun hc2 h=>?_
 refine Y (CE 43 4 AV (U E (U E (V (AK (Aa ?_))))))
 obtain rfl:=zI h
 exact BH [0] 3 (C9 E E E) E E ⟨(.slice none 0 0),E,E⟩
 refine AI (AJ (Y ?_))
 refine AF h fun y2 hy2 h=>?_
 refine AE rfl Oq (Aw [Be p1.id,AB p1.x,AB p1.y,vS p1.txt] rfl Hy rfl rfl (Ct 1 rfl (by rintro(_ | (_ | (_ | (_ | j)))) u hj<;>first | exact hj | exact absurd hj zS)) (AQ 0 mi ((Rb hy2 :)) rfl (U rfl (V (AH (Y (AE rfl L7 (AG 1 EF rfl (Z rfl Ba (J rfl ?_))))))))))
 refine CV (c := !y2) 30 3 33 E (fun hb k=>?_) (fun hb k=>?_) ?_
 refine J E (CF E E (Ag E E E ?_))
 exact k.mono tL
 refine AC E (AC E (Ag E E E ?_))
 exact k.mono tL
 refine J E ?_
 refine Dw (c:=(decide (p1.kind=2))&&((decide (2147483648≤p1.x))||(decide (2147483648≤p1.y)))) 34 16 50 E (fun hb k=>?_) (fun hb k=>?_) ?_
 refine AC E (AC E (AC E (AC E (AC E (AC E (AC E (AC E ?_)))))))
 refine AC E (AC E (AC E (AC E (AC E (AC E (AC E (Ag E E E ?_)))))))
 exact k.mono tL
 refine AE E L7 (AG 1 EF E (Z E Ba (J E ?_)))
 refine CV (c:=(decide (2147483648≤p1.x))||(decide (2147483648≤p1.y))) 38 11 49 E (fun hb k=>?_) (fun hb k=>?_) ?_
 refine AE E Oq (AE E JS (AG 1 A4 E ?_))
 refine Z E (GN (b:=2147483648)) ?_
 refine J E ?_
 refine Dw (c:=decide (2147483648≤p1.y)) 43 5 48 E (fun hb k=>?_) (fun hb k=>?_) ?_
 refine AC E (AC E (AC E (AC E (Ag E E E ?_))))
 exact k.mono tL
 refine AE E Oq (AE E JT (AG 1 A4 E ?_))
 refine Z E (GN (b:=2147483648)) ?_
 refine Ag E E E ?_
 exact k.mono tL
 refine Ag E E E ?_
 exact k.mono tL
 refine AC E (AC E (AC E (AC E (AC E (AC E (AC E (AC E ?_)))))))
 refine AC E (AC E (Ag E E E ?_))
 exact k.mono tL
 refine Ag E E E ?_
 exact k.mono tL
 refine V ?_
 refine AL h E (fun hc3 h=>?_) fun hc3 h=>?_
 refine Y (CE 43 4 AV (U E (U E (V (AK (Aa ?_))))))
 obtain rfl:=zI h
 exact BH [0] 3 (C9 E E E) E E ⟨(.slice none 0 0),E,E⟩
 refine AI (AJ (Y ?_))
 refine AF h fun y3 hy3 h=>?_
 refine J E (AE E Oq (AE E Mq (AG 1 Gl E (AQ 0 to (fV hy3 hs0_) E (J E (Ah E E E (Ah E E E ?_)))))))
 refine Au E Gm zU fun b2=>?_
 refine A3 0 E E E E DQ E E E zT (U E (V (AH (Y (AE E L7 (AG 2 EF E (Z E BQ (J E ?_))))))))
 refine CV (c := !decide (y3.2=0)) 62 3 65 E (fun hb k=>?_) (fun hb k=>?_) ?_
 refine J E (Z E BQ (Ag E E E ?_))
 exact k.mono tL
 refine AC E (AC E (Ag E E E ?_))
 exact k.mono tL
 refine V ?_
 refine AL h E (fun hc4 h=>?_) fun hc4 h=>?_
 refine Y (J E (CE 43 4 AV (U E (U E (V (AK (Aa ?_)))))))
 obtain rfl:=zI h
 exact BH [0] 4 (C9 E E E) E E ⟨(.slice none 0 0),E,E⟩
 refine AI (AJ (Y (AE rfl Oq (Aw [Be p1.id,AB p1.x,AB p1.y,vS p1.txt] rfl Hy rfl rfl (Ct 2 rfl (by rintro(_ | (_ | (_ | (_ | j)))) u hj<;>first | exact hj | exact absurd hj zS)) ?_))))
 refine Au E Gm zU fun b3=>?_
 refine A3 0 E E E E DQ E E E zT (V ?_)
 refine A8 (α:=List UInt8) (fun x=>Ll n p0 p1 x=some r) (fun x=>[(0,Cn),(3,vP b1 0),(10,vP b3 0)]) (fun x=>own b1 (.cells #[vI p1.kind,Be p1.id,AB p1.x,AB p1.y,vS p1.txt] 105)::own b3 (.cells #[Be p1.id,AB p1.x,AB p1.y,vS x] 43)::H) ?_ (fun y4 D h=>?_)
 refine Y (AE E L7 (AG 3 EF E (Z E Ba (V ?_))))
 refine AL h E (fun hc5 h=>?_) fun hc5 h=>?_
 refine AM (AE E Ov (AG 1 HJ E (AE E Ov (A3 0 E E E E Il E E E zT (AZ ?_)))))
 exact Aq y3.1.txt h tL (BM [3,0] 4 E E E)
 refine AI ?_
 exact Aq p1.txt h tL (BM [3,0] 4 E E E)
 unfold Ll at h
 try dsimp only
 refine Y ?_
 refine AF h fun y5 hy5 h=>?_
 refine J E (AE E Oq (AE E Mq (AG 0 Gl E (Aw [Be p1.id,AB p1.x,AB p1.y,vS y4] E Hy E E (Ap 1 E) (AE E L7 (AG 0 EF E (Z E BQ ?_)))))))
 refine BT (vs:=[_,_,_,_]) (Hin:=[]) (Hr:=_::_::_) E E ⟨E,E,E,E,zT⟩ tp E E ((c9 hy5 hs0_ :)) ?_
 rintro v1 _ ⟨_,rfl,rfl⟩
 refine⟨trivial,?_⟩
 refine U E (V (AH (Y (J E (DL 0 E Ca E E (Z E Cj (V ?_)))))))
 refine AL h E (fun hc6 h=>?_) fun hc6 h=>?_
 refine Y (CE 43 4 AV (U E (U E (V (AK (Aa ?_))))))
 obtain rfl:=zI h
 exact BH [0] 4 (C9 E E E) E E ⟨(.slice none 0 0),E,E⟩
 refine AI (AJ (Y (J E (U E (U E (V (AK ?_)))))))
 obtain rfl:=zI h
 exact BH [0] 3 (C9 E E E) E E ⟨v1,E,E⟩
theorem qI{n:Nat}{v0:Value}{p0:List Aj}{s:UV}{o:Iv}{r:List Aj×Int}(h:Og n (Yt p0 s) o=some r)(hs0:By K w0 AV 4 v0 p0):zC K w0 98 [Zo v0 s,.agg (Hp o).toArray] [VK s] H (fun u M=>∃v:Value,u=.tuple #[v,vI r.2]∧M=[VK s,AD 43 4 v AV r.1]):=by
 refine WN.mono (CJ (B:=[VK s]) (Hin:=[]) (fun K' w1 hk hB=>am h ?_)) ?_
 obtain⟨k,_ | ⟨v,m⟩⟩:=s
 exact hs0.keeps hk
 exact Bp (e:=43) (v:=v) zV (hB _ (by simp[VK,Zo,Yt]))
 rintro _ _ ⟨_,rfl,v,rfl,rfl⟩
 exact⟨v,rfl,rfl⟩
def Oh(l1:List Aj):Option (List Aj×Int×Int):=
 some (l1,0,0)
def M3(n:Nat)(p1:List Iv)(nx_f_ref12_Batch_l1:List Aj×Int→Option (List Aj×Int×Int))(l2:List Aj)(a1:Int):Option (List Aj×Int×Int):=
 cond (decide (a1<(p1.length:Int)))
 (
  (BE p1 a1).bind fun x1=>
  (Og n l2 x1).bind fun y2=>
  cond (!decide (y2.2=0))
  (
   some ([],a1,y2.2))
  (
   ret (wI (a1+1)) fun i_1=>
   nx_f_ref12_Batch_l1 (y2.1,i_1)))
 (
  Oh l2)
def Oi(n:Nat)(p1:List Iv):Nat→(List Aj×Int)→Option (List Aj×Int×Int):=CI fun nx x=>M3 n p1 nx x.1 x.2
def HA(n:Nat)(p0:List Aj)(p1:List Iv):Option (List Aj×Int×Int):=
 (E3 n p0).bind fun y1=>
 cond (!y1)
 (
  some ([],0,80))
 (
  cond ((decide ((p1.length:Int)<1))||(decide (64<(p1.length:Int))))
  (
   some ([],0,101))
  (
   Oi n p1 n (p0,0)))
theorem an{n:Nat}{Cn DE:Value}{p0:List Aj}{p1:List Iv}{r:List Aj×Int×Int}(h:HA n p0 p1=some r)(hs0_:By K w0 AV 4 Cn p0)(hs1_:By K w0 Hp 5 DE p1):zC K w0 66 [Cn,DE] [] H (fun u M=>∃v0:Value,u=.tuple #[v0,vI r.2.1,vI r.2.2]∧M=[AD 43 4 v0 AV r.1]):=by
 unfold HA at h
 refine WN.enter Tryz.func66 rfl rfl ?_
 refine Y (CE 43 4 AV (U E (U E (U E (V (Y ?_))))))
 refine AF h fun y1 hy1 h=>?_
 refine J E (AQ 0 ay (Ls hy1 hs0_) E (U E (V (AH (Y (J E (CF E E (V ?_))))))))
 refine AL h E (fun hc1 h=>?_) fun hc1 h=>?_
 refine Y (CE 43 4 AV (U E (U E (U E (V (AK (Aa ?_)))))))
 obtain rfl:=zI h
 exact BH [0] 2 (VA E E E E) E E ⟨(.slice none 0 0),E,E⟩
 refine AI (AJ (AH (Y (J E (Bt hs1_ E VO E (Z E A9 (J E ?_)))))))
 refine Dw (c:=decide (64<(p1.length:Int))) 18 4 22 E (fun hb k=>?_) (fun hb k=>?_) ?_
 refine AC E (AC E (AC E (Ag E E E ?_)))
 exact k.mono tL
 refine J E (Bt hs1_ E VO E (Z E Cj (Ag E E E ?_)))
 exact k.mono tL
 refine V ?_
 refine AL h E (fun hc2 h=>?_) fun hc2 h=>?_
 refine Y (CE 43 4 AV (U E (U E (U E (V (AK (Aa ?_)))))))
 obtain rfl:=zI h
 exact BH [0] 2 (VA E E E E) E E ⟨(.slice none 0 0),E,E⟩
 refine AI (AJ ?_)
 refine A8 (α:=List Aj×Value) (fun x=>Oh x.1=some r) (fun x=>[(0,x.2)]) (fun x=>AD 43 4 x.2 AV x.1::H) ?_ (fun x D h=>?_)
 refine Y (U E (V (AN ?_)))
 refine SX.heap (SX.mono (BK (α:=Nat×UV×Int) (fun x=>Oi n p1 x.1 (Yt p0 x.2.1,x.2.2)=some r∧(x.2.1.2=none→x.2.2=0)) (fun x=>[(0,Zo Cn x.2.1),(1,DE),(8,vI x.2.2)]) (fun x=>VK x.2.1::H) (fun x=>x.1) (fun x D h=>?_) (n,(0,none),0) ⟨h,fun _=>rfl⟩) tL) (BM [0] 1 E E E)
 obtain⟨m1,s2,a1⟩:=x
 obtain⟨h,h0⟩:=h
 dsimp only at h h0
 rcases m1 with _ | m1
 cases (show(none:Option _)=some r from h)
 replace h:M3 n p1 (Oi n p1 m1) (Yt p0 s2) a1=some r:=h
 unfold M3 at h
 try dsimp only
 refine AH (Y (J E (J E (Bt hs1_ E VO E (Z E A9 (V ?_))))))
 refine AL h E (fun hc3 h=>?_) fun hc3 h=>?_
 refine AI (AJ (AH (AN (Y ?_))))
 refine AF h fun x1 hx1 h=>?_
 refine AF h fun y2 hy2 h=>?_
 refine J E (J E (J E ?_))
 refine Co hx1 hs1_ E VO cV E E fun be1 of1 hc4=>?_
 refine Aw (Hp x1) E fB E E (DT hc4) (BY 1 xS (qI hy2 hs0_) E ?_)
 rintro _ _ ⟨v3,rfl,rfl⟩
 refine J E (Ah E E E (Ah E E E (U E (U E (V (AH (Y (J E (Z E BQ (V ?_))))))))))
 refine AL h E (fun hc5 h=>?_) fun hc5 h=>?_
 refine Y (J E (J E (CE 43 4 AV (U E (U E (U E (V (AK (Aa (BI (Aa (EX (BI (FY ?_))))))))))))))
 obtain rfl:=zI h
 exact BH [0] 3 (VA E E E E) E E ⟨(.slice none 0 0),E,E⟩
 refine AI (AJ (AM (J E (U E (AZ (Av (AJ (AM ?_))))))))
 obtain⟨i_1,ei_1,h⟩:=Bz h
 refine J E (Z E Bc ?_)
 refine Ay (u:=vI i_1) E E (congrArg vI ei_1) ?_
 refine AZ ?_
 exact A1 (m1,(s2.1+1,some (v3,y2.1)),i_1) ⟨h,fun e=>by cases e⟩ (Nat.lt_succ_self _) tL (BM [1] 2 E E E)
 have hs:s2.2≠none:=fun e=>by
  have h1:=h0 e
  simp at hc2 hc3
  omega
 rw[eZ hs Cn p0]
 refine A5 (BC (Bb (BB ?_)))
 exact Aq (Yt p0 s2,Zo Cn s2) h tL (BM [0] 1 E E E)
 obtain⟨l1,v1⟩:=x
 dsimp only at h
 unfold Oh at h
 try dsimp only
 refine Y (J E (U E (U E (U E (V (AK ?_))))))
 obtain rfl:=zI h
 exact BH [0] 1 (VA E E E E) E E ⟨v1,E,E⟩
end

section
variable {K:Nat→Prop}{w0:World}{H:List AX}
def LK(p0:A6):Option Bool:=
 ret (decide (p0.rcnt=18446744073709551615)) fun x1=>
 some x1
theorem V7{Az:Nat}{As AW Al:Value}{p0:A6}{r:Bool}(h:LK p0=some r): zC K w0 57 [vP Az 0] [eO Az As AW Al p0,AD 9 1 As eS p0.blk,AD 9 1 AW eS p0.pnd,AD 4 1 Al eB p0.bads] H (fun u M=>u=vB r∧M=[eO Az As AW Al p0,AD 9 1 As eS p0.blk,AD 9 1 AW eS p0.pnd,AD 4 1 Al eB p0.bads]):=by
 unfold LK at h
 refine WN.enter Tryz.func57 rfl rfl ?_
 refine Y (U E (V (Y ?_)))
 obtain⟨x1,ex1,h⟩:=Bz h
 refine J E (AT E E (AE E NL (AE E Ri (AG 0 Gl E ?_))))
 refine Z E (MM (b:=18446744073709551615)) ?_
 refine Ay (u:=vB x1) E E (congrArg vB ex1) ?_
 refine V (AK ?_)
 obtain rfl:=zI h
 exact Ac [0,1,2,3] 4 E E E
def Om:Option Int:=
 some (-1)
def FR(p0:List Ak)(p1:UInt32)(nx_f_ref16_place_l1:Int→Option Int)(a1:Int):Option Int:=
 cond (decide (a1<(p0.length:Int)))
 (
  (BE p0 a1).bind fun x1=>
  cond (decide (x1.page=p1))
  (
   some a1)
  (
   ret (wI (a1+1)) fun i_1=>
   nx_f_ref16_place_l1 i_1))
 (
  Om)
def HO(p0:List Ak)(p1:UInt32):Nat→Int→Option Int:=CI fun nx x=>FR p0 p1 nx x
def L4(n:Nat)(p0:List Ak)(p1:UInt32):Option Int:=
 HO p0 p1 n 0
theorem Uh{n:Nat}{Cn:Value}{p0:List Ak}{p1:UInt32}{r:Int}(h:L4 n p0 p1=some r)(hs0_:By K w0 AS 3 Cn p0):zC K w0 132 [Cn,AB p1] [] H (fun u M=>u=vI r∧M=[]):=by
 unfold L4 at h
 refine WN.enter Tryz.func132 rfl rfl ?_
 refine Y (U E (V ?_))
 refine A8 (α:=Unit) (fun x=>Om=some r) (fun x=>[]) (fun x=>H) ?_ (fun x D h=>?_)
 refine Y (U E (V (AN ?_)))
 refine SX.heap (SX.mono (BK (α:=Nat×Int) (fun x=>HO p0 p1 x.1 x.2=some r) (fun x=>[(0,Cn),(1,AB p1),(5,vI x.2)]) (fun x=>H) (fun x=>x.1) (fun x D h=>?_) (n,0) h) tL) (BM [] 0 E E E)
 obtain⟨m1,a1⟩:=x
 dsimp only at h
 rcases m1 with _ | m1
 cases (show(none:Option _)=some r from h)
 replace h:FR p0 p1 (HO p0 p1 m1) a1=some r:=h
 unfold FR at h
 try dsimp only
 refine AH (Y (J E (J E (Bt hs0_ E FH E (Z E A9 (V ?_))))))
 refine AL h E (fun hc1 h=>?_) fun hc1 h=>?_
 refine AI (AJ (AH (AN (Y ?_))))
 refine AF h fun x1 hx1 h=>?_
 refine J E (J E ?_)
 refine Co hx1 hs0_ E FH Ea E E fun be1 of1 hc2=>?_
 refine AE E EU (AE E Ds ?_)
 refine Bm E A4 E (C5 (j:=1) hc2 E) ?_
 refine J E (Z E Iz (V ?_))
 refine AL h E (fun hc3 h=>?_) fun hc3 h=>?_
 refine Y (J E (U E (V (AK (BI (Aa (EX (BI (FY ?_)))))))))
 obtain rfl:=zI h
 exact Ac [] 0 E E E
 refine AI (Av (AJ (AM ?_)))
 obtain⟨i_1,ei_1,h⟩:=Bz h
 refine J E (Z E Bc ?_)
 refine Ay (u:=vI i_1) E E (congrArg vI ei_1) ?_
 refine AZ ?_
 exact A1 (m1,i_1) h (Nat.lt_succ_self _) tL (BM [] 0 E E E)
 refine A5 (BC (Bb (BB ?_)))
 exact Aq () h tL (BM [] 0 E E E)
 unfold Om at h
 try dsimp only
 refine Y (U E (V (AK ?_)))
 obtain rfl:=zI h
 exact Ac [] 0 E E E
def FJ(n:Nat)(T:List UInt32)(p0:C3)(p0_1:BW)(p0_2:A6)(p1:List Aj)(p2:List Ak):Option (Int×BW×A6):=
 (EH n p0_2).bind fun y1=>
 cond (!decide (y1.1=0))
 (
  some (y1.1,p0_1,y1.2))
 (
  (BE p2 (wI ((p2.length:Int)-1))).bind fun x1=>
  (NI y1.2.rcnt p0_1.gen (p1.length:Int) (⟨x1.page,x1.tag⟩:BR)).bind fun y2=>
  cond (!decide (y2.2=0))
  (
   some (y2.2,p0_1,y1.2))
  (
   (Kx n y2.1).bind fun y3=>
   (SK y2.1.cnt 2).bind fun q1=>
   (HB n T p0_1 y1.2 q1.toUInt32 y3.1).bind fun y4=>
   cond (!decide (y4.2.1=0))
   (
    some (y4.2.1,y4.2.2.1,y4.2.2.2))
   (
    (EH n y4.2.2.2).bind fun y5=>
    cond (!decide (y5.1=0))
    (
     some (y5.1,y4.2.2.1,y5.2))
    (
     (DN y5.2 y4.1).bind fun y6=>
     some (y6.1,y4.2.2.1,y6.2)))))
theorem OP{n Az BG C0:Nat}{T:List UInt32}{AW Al Ec BX B1 CK CL CM DE D8:Value}{p0:C3}{p0_1:BW}{p0_2:A6}{p1:List Aj}{p2:List Ak}{r:Int×BW×A6}(h:FJ n T p0 p0_1 p0_2 p1 p2=some r)(hT:Jl K w0 2 64 T)(hs1_:By K w0 AV 4 DE p1)(hs2_:By K w0 AS 3 D8 p2):zC K w0 90 [vP Az 0,DE,D8] [own Az (.cells #[vP BG 0,AW,Al,Ec,vB p0.bad] 131),AD 43 4 AW AV p0.rows,AD 148 3 Al AS p0.had,AD 36 1 Ec BV p0.gens,wO BG C0 BX B1 p0_1,AD 55 2 BX AU p0_1.ring,AD 4 1 B1 eB p0_1.taken,eO C0 CK CL CM p0_2,AD 9 1 CK eS p0_2.blk,AD 9 1 CL eS p0_2.pnd,AD 4 1 CM eB p0_2.bads] H (fun u M=>u=vI r.1∧M=[own Az (.cells #[vP BG 0,AW,Al,Ec,vB p0.bad] 131),AD 43 4 AW AV p0.rows,AD 148 3 Al AS p0.had,AD 36 1 Ec BV p0.gens,wO BG C0 BX B1 r.2.1,AD 55 2 BX AU r.2.1.ring,AD 4 1 B1 eB r.2.1.taken,eO C0 CK CL CM r.2.2,AD 9 1 CK eS r.2.2.blk,AD 9 1 CL eS r.2.2.pnd,AD 4 1 CM eB r.2.2.bads]):=by
 unfold FJ at h
 refine WN.enter Tryz.func90 rfl rfl ?_
 refine Y (U E (V (Y ?_)))
 refine AF h fun y1 hy1 h=>?_
 refine J E (AT E E (AE E L8 (AG 0 Pf E (AT E E (AE E Sm (AG 4 eW E (SL.pick [7,8,9,10,0,1,2,3,4,5,6] 11 ?_)))))))
 refine AQ 4 me (PD hy1) E (U E (V (AH (Y (J E (Z E BQ (V ?_)))))))
 refine A7 E (fun hc1=>?_) (fun hc1=>?_)
 replace h:=cT hc1 h
 refine Y (J E (U E (V (AK (Aa ?_)))))
 obtain rfl:=zI h
 exact Ac [4,5,6,7,8,9,10,0,1,2,3] 11 E E E
 focus
  replace h:=cF hc1 h
  refine AI (AJ (AH ?_))
  refine AF h fun x1 hx1 h=>?_
  refine AF h fun y2 hy2 h=>?_
  refine Ax Cz [0,4,8] (Bs (G4 0 27) (.alt 27 (Bs [(true,28),(true,29),(true,30),(false,31),(false,32)] (.last 33 .nil)) (.cons (false,31) (Bs [(false,27),(true,28),(true,29),(true,30),(false,32)] (.last 33 .nil))))) zK (J E (AT E E (AE E L8 (AG 1 Pf E (AT E E (AE E Sm (AG 2 eW E ?_)))))))
  refine AT E E (AE E NL (AE E Ri (AG 0 Gl E (J E (AT E E (AE E L8 (AG 1 Pf E ?_)))))))
  refine AT E E (AE E bQ (AG 2 A4 E (J E (Bt hs1_ E Ca E (J E (J E (Bt hs2_ E FH E ?_)))))))
  refine Z E Dc ?_
  refine Co hx1 hs2_ E FH Ea E E fun be1 of1 hc2=>?_
  refine AE E EU ?_
  refine Aw [AB x1.page,vS x1.tag] E DC E E (Wd (d:=1) hc2 E) ?_
  refine OJ ?_ ?_
  refine BS 0 mf ((V6 hy2 :)) E ⟨⟨0,E⟩,⟨4,E⟩,⟨8,E⟩,zT⟩ (J E (Ah E E E (Ah E E E ?_)))
  refine Au E Kq (fun _=>⟨⟨1,E⟩,⟨5,E⟩,⟨9,E⟩,zT⟩) fun b1=>?_
  rotate_left
  refine Au E Kq (fun _=>⟨⟨1,E⟩,⟨5,E⟩,⟨9,E⟩,zT⟩) fun b1=>?_
  refine BS 0 mf ((V6 hy2 :)) E ⟨⟨1,E⟩,⟨5,E⟩,⟨9,E⟩,zT⟩ (J E (Ah E E E (Ah E E E ?_)))
  all_goals
   refine A3 0 E E E E O4 E E E ⟨⟨1,E⟩,⟨5,E⟩,⟨9,E⟩,zT⟩ (BU (U E (V (AH (Y (J E (Z E BQ (V ?_))))))))
   refine AL h E (fun hc3 h=>?_) fun hc3 h=>?_
   refine Y (J E (U E (V (AK (Aa ?_)))))
   obtain rfl:=zI h
   exact Ac [5,6,7,8,9,10,11,1,2,3,4] 12 E E E
   refine AI (AJ (Y ?_))
   refine AF h fun y3 hy3 h=>?_
   refine Aw [Be y2.1.cnt,AB y2.1.gen,AB y2.1.rows,AB y2.1.page,vS y2.1.tag] E KT E E (Ap 0 E) (AQ 0 tf ((Zh hy3 :)) E (J E (Ah E E E (Ah E E E (U E (U E (V (AH ?_))))))))
   refine AF h fun q1 hq1 h=>?_
   refine AF h fun y4 hy4 h=>?_
   refine Ax Cz [0,5] (Bs [(true,0),(true,1),(true,2),(true,3),(true,4),(true,5),(true,6),(true,7),(true,8),(false,9),(false,10),(true,11),(true,12),(false,13)] (.last 14 .nil)) zK (J E (AT E E (AE E L8 (AG 1 Pf E (AE E NM (AG 0 Gl E ?_))))))
   refine Z E (UM (b:=2) hq1) ?_
   refine BO E E (Lq DH CD) (J E (SL.pick [9,10,11,1,2,3,4,0,5,6,7,8] 12 (BS 7 tg (Ue hy4 hT) E ⟨⟨7,E⟩,⟨8,E⟩,zT⟩ (J E (Ah E E E (Ah E E E (U E (BU ?_))))))))
   refine U E (V (AH (Y (J E (Z E BQ (V ?_))))))
   refine AL h E (fun hc4 h=>?_) fun hc4 h=>?_
   refine Y (J E (U E (V (AK (Aa ?_)))))
   obtain rfl:=zI h
   exact Ac [8,9,10,11,0,1,2,3,4,5,6] 12 E E E
   refine AI (AJ (Y ?_))
   refine AF h fun y5 hy5 h=>?_
   refine J E (AT E E (AE E L8 (AG 8 Pf E (AT E E (AE E Sm (AG 0 eW E (SL.pick [3,4,5,6,0,1,2] 7 ?_)))))))
   refine AQ 4 me (PD hy5) E (U E (V (AH (Y (J E (Z E BQ (V ?_)))))))
   refine AL h E (fun hc5 h=>?_) fun hc5 h=>?_
   refine Y (J E (U E (V (AK (Aa ?_)))))
   obtain rfl:=zI h
   exact Ac [8,9,10,11,4,5,6,0,1,2,3] 12 E E E
   refine AI (AJ (Y ?_))
   refine AF h fun y6 hy6 h=>?_
   refine J E (AT E E (AE E L8 (AG 8 Pf E (AT E E (AE E Sm (AG 4 eW E (J E ?_)))))))
   refine AQ 4 ti (Sh hy6) E (U E (V (AK ?_)))
   obtain rfl:=zI h
   exact Ac [8,9,10,11,4,5,6,0,1,2,3] 12 E E E
def Ep(a3:Int)(nx_f_ref16_Store_moved_l2:BW×Int→Option (C3×BW))(o3:BW):Option (C3×BW):=
 ret (wI (a3+1)) fun i_2=>
 nx_f_ref16_Store_moved_l2 (o3,i_2)
def J4(p0:C3)(p1:List Aj)(p2:List Ak)(l1:List UInt32)(o1:BW):Option (C3×BW):=
 some ({ p0 with rows:=p1,had:=p2,gens:=l1 },o1)
def Dz(n:Nat)(p0:C3)(p0_2:A6)(p1:List Aj)(p2:List Ak)(l1:List UInt32)(nx_f_ref16_Store_moved_l2:BW×Int→Option (C3×BW))(o2:BW)(a3:Int):Option (C3×BW):=
 cond (decide (a3<(p0.had.length:Int)))
 (
  (BE p0.had a3).bind fun x5=>
  (L4 n p2 x5.page).bind fun y3=>
  cond (decide (y3<0))
  (
   (BE p0.had a3).bind fun x6=>
   (GR o2 p0_2 x6.page).bind fun y4=>
   Ep a3 nx_f_ref16_Store_moved_l2 y4.2)
  (
   Ep a3 nx_f_ref16_Store_moved_l2 o2))
 (
  J4 p0 p1 p2 l1 o2)
def DO(n:Nat)(p0:C3)(p0_2:A6)(p1:List Aj)(p2:List Ak)(l1:List UInt32):Nat→(BW×Int)→Option (C3×BW):=CI fun nx x=>Dz n p0 p0_2 p1 p2 l1 nx x.1 x.2
def J3(n:Nat)(p0:C3)(p0_1:BW)(p0_2:A6)(p1:List Aj)(p2:List Ak)(l1:List UInt32):Option (C3×BW):=
 DO n p0 p0_2 p1 p2 l1 n (p0_1,0)
def EN(l2:List UInt32)(a1:Int)(nx_f_ref16_Store_moved_l1:List UInt32×Int→Option (C3×BW))(a2:UInt32):Option (C3×BW):=
 (C8 4 l2 [a2]).bind fun l3=>
 ret (wI (a1+1)) fun i_1=>
 nx_f_ref16_Store_moved_l1 (l3,i_1)
def Dy(n:Nat)(p0:C3)(p0_1:BW)(p0_2:A6)(p1:List Aj)(p2:List Ak)(nx_f_ref16_Store_moved_l1:List UInt32×Int→Option (C3×BW))(l2:List UInt32)(a1:Int):Option (C3×BW):=
 cond (decide (a1<(p2.length:Int)))
 (
  (BE p2 a1).bind fun x1=>
  (L4 n p0.had x1.page).bind fun y1=>
  (GA (decide (0≤y1)) ((BE p0.had y1).bind fun x2=>(BE p2 a1).bind fun x3=>some (decide (x2.txt=x3.txt)&&(decide (x2.page=x3.page)&&(decide (x2.tag=x3.tag)&&true))))).bind fun y2=>
  cond y2
  (
   (BE p0.gens y1).bind fun x4=>
   EN l2 a1 nx_f_ref16_Store_moved_l1 x4)
  (
   EN l2 a1 nx_f_ref16_Store_moved_l1 p0_1.gen))
 (
  J3 n p0 p0_1 p0_2 p1 p2 l2)
def Dm(n:Nat)(p0:C3)(p0_1:BW)(p0_2:A6)(p1:List Aj)(p2:List Ak):Nat→(List UInt32×Int)→Option (C3×BW):=CI fun nx x=>Dy n p0 p0_1 p0_2 p1 p2 nx x.1 x.2
def F0(n:Nat)(p0:C3)(p0_1:BW)(p0_2:A6)(p1:List Aj)(p2:List Ak):Option (C3×BW):=
 Dm n p0 p0_1 p0_2 p1 p2 n ([],0)
theorem P0{n Az BG C0:Nat}{AW Al Ec BX B1 CK CL CM DE D8:Value}{p0:C3}{p0_1:BW}{p0_2:A6}{p1:List Aj}{p2:List Ak}{r:C3×BW}(h:F0 n p0 p0_1 p0_2 p1 p2=some r): zC K w0 91 [vP Az 0,DE,D8] [own Az (.cells #[vP BG 0,AW,Al,Ec,vB p0.bad] 131),AD 43 4 AW AV p0.rows,AD 148 3 Al AS p0.had,AD 36 1 Ec BV p0.gens,wO BG C0 BX B1 p0_1,AD 55 2 BX AU p0_1.ring,AD 4 1 B1 eB p0_1.taken,eO C0 CK CL CM p0_2,AD 9 1 CK eS p0_2.blk,AD 9 1 CL eS p0_2.pnd,AD 4 1 CM eB p0_2.bads,AD 43 4 DE AV p1,AD 148 3 D8 AS p2] H (fun u M=>∃vs0_0_1 vs0_0_2 vs0_0_3:Value,u=.tuple #[]∧M=[own Az (.cells #[vP BG 0,vs0_0_1,vs0_0_2,vs0_0_3,vB r.1.bad] 131),AD 43 4 vs0_0_1 AV r.1.rows,AD 148 3 vs0_0_2 AS r.1.had,AD 36 1 vs0_0_3 BV r.1.gens,wO BG C0 BX B1 r.2,AD 55 2 BX AU r.2.ring,AD 4 1 B1 eB r.2.taken,eO C0 CK CL CM p0_2,AD 9 1 CK eS p0_2.blk,AD 9 1 CL eS p0_2.pnd,AD 4 1 CM eB p0_2.bads]):=by
 unfold F0 at h
 refine WN.enter Tryz.func91 rfl rfl ?_
 refine Y (CE 36 1 BV (U E (V ?_)))
 refine A8 (α:=List UInt32×Value) (fun x=>J3 n p0 p0_1 p0_2 p1 p2 x.1=some r) (fun x=>[(0,vP Az 0),(1,DE),(2,D8),(6,x.2)]) (fun x=>own Az (.cells #[vP BG 0,AW,Al,Ec,vB p0.bad] 131)::wO BG C0 BX B1 p0_1::eO C0 CK CL CM p0_2::AD 9 1 CK eS p0_2.blk::AD 9 1 CL eS p0_2.pnd::AD 4 1 CM eB p0_2.bads::AD 55 2 BX AU p0_1.ring::AD 4 1 B1 eB p0_1.taken::AD 43 4 AW AV p0.rows::AD 148 3 Al AS p0.had::AD 36 1 Ec BV p0.gens::AD 43 4 DE AV p1::AD 148 3 D8 AS p2::AD 36 1 x.2 BV x.1::H) ?_ (fun x D h=>?_)
 refine Y (U E (V (AN ?_)))
 refine SX.heap (SX.mono (BK (α:=Nat×List UInt32×Value×Int) (fun x=>Dm n p0 p0_1 p0_2 p1 p2 x.1 (x.2.1,x.2.2.2)=some r) (fun x=>[(0,vP Az 0),(1,DE),(2,D8),(6,x.2.2.1),(7,vI x.2.2.2)]) (fun x=>own Az (.cells #[vP BG 0,AW,Al,Ec,vB p0.bad] 131)::wO BG C0 BX B1 p0_1::eO C0 CK CL CM p0_2::AD 9 1 CK eS p0_2.blk::AD 9 1 CL eS p0_2.pnd::AD 4 1 CM eB p0_2.bads::AD 55 2 BX AU p0_1.ring::AD 4 1 B1 eB p0_1.taken::AD 43 4 AW AV p0.rows::AD 148 3 Al AS p0.had::AD 36 1 Ec BV p0.gens::AD 43 4 DE AV p1::AD 148 3 D8 AS p2::AD 36 1 x.2.2.1 BV x.2.1::H) (fun x=>x.1) (fun x D h=>?_) (n,[],zN,0) h) tL) (BM [1,5,8,9,10,11,6,7,2,3,4,12,13,0] 14 E E E)
 obtain⟨m1,l2,v2,a1⟩:=x
 dsimp only at h
 rcases m1 with _ | m1
 cases (show(none:Option _)=some r from h)
 replace h:Dy n p0 p0_1 p0_2 p1 p2 (Dm n p0 p0_1 p0_2 p1 p2 m1) l2 a1=some r:=h
 unfold Dy at h
 try dsimp only
 refine AH (Y (J E (J E (DL 12 E FH E E (Z E A9 (V ?_))))))
 refine AL h E (fun hc1 h=>?_) fun hc1 h=>?_
 refine AI (AJ (AH (AN (AH ?_))))
 refine AF h fun x1 hx1 h=>?_
 refine AF h fun y1 hy1 h=>?_
 refine Ax Cz [0,12] (Bs (G4 0 10) (.last 10 (Pl.of [(false,11)]))) zK (J E (AT E E (AE E RB (AG 0 K7 E (J E (J E ?_))))))
 refine B6 12 hx1 E FH Ea E E E fun g1 m2 cp1 hv1=>?_
 refine AE E EU (AE E Ds ?_)
 refine Bm E A4 E (Bq (sz:=3) (enc:=AS) 1 1 zV E hv1 hx1 E) ?_
 refine BU (SL.pick [9,0,1,2,3,4,5,6,7,8] 10 ?_)
 refine BT (vs:=[_,_]) (Hin:=[_]) (Hr:=_::_::_::_::_::_::_::_::_::_::_::_::_::_) E E ⟨E,E,zT⟩ mg E E (CJ (B:=[_]) (Hin:=[]) fun K' w1 hk hB=>Uh hy1 (Bp (e:=148) (v:=Al) zV (hB _ zS))) ?_
 rintro _ _ ⟨_,rfl,rfl,rfl⟩
 refine⟨trivial,?_⟩
 refine U E (V (Y (J E (AT E E (AE E L8 (AG 1 Pf E (AT E E (AE E bQ (AG 2 A4 E ?_)))))))))
 refine U E (V ?_)
 refine A8 (α:=UInt32) (fun x=>EN l2 a1 (Dm n p0 p0_1 p0_2 p1 p2 m1) x=some r) (fun x=>[(0,vP Az 0),(1,DE),(2,D8),(6,v2),(7,vI a1),(9,AB x)]) (fun x=>own Az (.cells #[vP BG 0,AW,Al,Ec,vB p0.bad] 131)::wO BG C0 BX B1 p0_1::eO C0 CK CL CM p0_2::AD 9 1 CK eS p0_2.blk::AD 9 1 CL eS p0_2.pnd::AD 4 1 CM eB p0_2.bads::AD 55 2 BX AU p0_1.ring::AD 4 1 B1 eB p0_1.taken::AD 43 4 AW AV p0.rows::AD 148 3 Al AS p0.had::AD 36 1 Ec BV p0.gens::AD 43 4 DE AV p1::AD 148 3 D8 AS p2::AD 36 1 v2 BV l2::H) ?_ (fun a2 D h=>?_)
 refine AH ?_
 refine AF h fun y2 hy2 h=>?_
 refine Ax Cz [0,1,12] (Pl.of (G4 0 16)) zK (J E (Z E M8 (J E ?_)))
 refine E0 37 13 50 hy2 E (fun hb hg1 k=>?_) (fun hb k=>?_) ?_
 obtain⟨x2,hx2,hg1⟩:=bnd hg1
 obtain⟨x3,hx3,hg1⟩:=bnd hg1
 obtain rfl:=zI hg1
 refine J E (AT E E (AE E RB (AG 1 K7 E (J E ?_))))
 refine B6 0 hx2 E FH Ea E E E fun g2 m3 cp2 hv2=>?_
 refine Aw (AS x2) E Lr E E (H2 (sz:=3) (enc:=AS) 0 zV E hv2 hx2) ?_
 refine J E (J E ?_)
 refine B6 12 hx3 E FH Ea E E E fun g3 m4 cp3 hv3=>?_
 refine Aw (AS x3) E Lr E E (H2 (sz:=3) (enc:=AS) 2 zV E hv3 hx3) ?_
 refine WR E (show dg Tryz.prog 148=some [(0,.string),(1,.int .u32),(2,.string)] by kernel_rfl) E E (C2 E E (TK (a:=x2.txt) (b:=x3.txt)) (C2 E E (MT (a:=x2.page) (b:=x3.page)) (C2 E E (TK (a:=x2.tag) (b:=x3.tag)) Kj))) ?_
 refine Ag E E E ?_
 exact k.mono tL
 refine AC E (AC E (AC E (AC E (AC E (AC E (AC E (AC E ?_)))))))
 refine AC E (AC E (AC E (AC E (Ag E E E ?_))))
 exact k.mono tL
 refine V ?_
 refine AL h E (fun hc2 h=>?_) fun hc2 h=>?_
 refine AM ?_
 refine AF h fun x4 hx4 h=>?_
 refine J E (AT E E (AE E jS (AG 1 Yq E (J E ?_))))
 refine B6 10 hx4 E CT Bx E E E fun g4 m5 cp4 hv4=>?_
 refine Bm E A4 E (Bq (sz:=1) (enc:=BV) 10 0 zV E hv4 hx4 E) ?_
 refine U E (AZ ?_)
 exact Aq x4 h tL (BM [1,2,3,4,5,6,7,8,9,0,10,11,12,13] 14 E E E)
 refine AI ?_
 exact Aq p0_1.gen h tL (BM [1,2,3,4,5,6,7,8,9,0,10,11,12,13] 14 E E E)
 unfold EN at h
 try dsimp only
 refine AM ?_
 refine AF h fun l3 hl3 h=>?_
 refine J E (J E ?_)
 refine CA [_] rfl CT Bx H5 ⟨rfl,trivial⟩ rfl rfl rfl zW rfl rfl zU fun b1=>?_
 refine B4 BV 1 ([a2]:List UInt32) E zV E ?_
 refine Cr 14 hl3 (sz:=1) (enc:=BV) zV E CT Bx Sb H5 E zD E E E E (B8 (sz:=1) (enc:=BV) 0 zV E) (by simp[BV,Value.oneCell']) zU fun v3=>?_
 refine U E (AZ (Av (AJ (AM ?_))))
 obtain⟨i_1,ei_1,h⟩:=Bz h
 refine J E (Z E Bc ?_)
 refine Ay (u:=vI i_1) E E (congrArg vI ei_1) ?_
 refine AZ ?_
 exact A1 (m1,l3,v3,i_1) h (Nat.lt_succ_self _) tL (BM [1,2,3,4,5,6,7,8,9,10,11,12,13,14] 15 E E E)
 refine A5 (BC (Bb (BB ?_)))
 exact Aq (l2,v2) h tL (BM [0,1,2,3,4,5,6,7,8,9,10,11,12,13] 14 E E E)
 obtain⟨l1,v1⟩:=x
 dsimp only at h
 unfold J3 at h
 try dsimp only
 refine A8 (α:=BW) (fun x=>J4 p0 p1 p2 l1 x=some r) (fun x=>[(0,vP Az 0),(1,DE),(2,D8),(6,v1)]) (fun x=>own Az (.cells #[vP BG 0,AW,Al,Ec,vB p0.bad] 131)::wO BG C0 BX B1 x::eO C0 CK CL CM p0_2::AD 9 1 CK eS p0_2.blk::AD 9 1 CL eS p0_2.pnd::AD 4 1 CM eB p0_2.bads::AD 55 2 BX AU x.ring::AD 4 1 B1 eB x.taken::AD 43 4 AW AV p0.rows::AD 148 3 Al AS p0.had::AD 36 1 Ec BV p0.gens::AD 43 4 DE AV p1::AD 148 3 D8 AS p2::AD 36 1 v1 BV l1::H) ?_ (fun o1 D h=>?_)
 refine Y (U E (V (AN ?_)))
 refine SX.heap (SX.mono (BK (α:=Nat×BW×Int) (fun x=>DO n p0 p0_2 p1 p2 l1 x.1 (x.2.1,x.2.2)=some r) (fun x=>[(0,vP Az 0),(1,DE),(2,D8),(6,v1),(10,vI x.2.2)]) (fun x=>own Az (.cells #[vP BG 0,AW,Al,Ec,vB p0.bad] 131)::wO BG C0 BX B1 x.2.1::eO C0 CK CL CM p0_2::AD 9 1 CK eS p0_2.blk::AD 9 1 CL eS p0_2.pnd::AD 4 1 CM eB p0_2.bads::AD 55 2 BX AU x.2.1.ring::AD 4 1 B1 eB x.2.1.taken::AD 43 4 AW AV p0.rows::AD 148 3 Al AS p0.had::AD 36 1 Ec BV p0.gens::AD 43 4 DE AV p1::AD 148 3 D8 AS p2::AD 36 1 v1 BV l1::H) (fun x=>x.1) (fun x D h=>?_) (n,p0_1,0) h) tL) (BM [0,1,2,3,4,5,6,7,8,9,10,11,12,13] 14 E E E)
 obtain⟨m6,o2,a3⟩:=x
 dsimp only at h
 rcases m6 with _ | m6
 cases (show(none:Option _)=some r from h)
 replace h:Dz n p0 p0_2 p1 p2 l1 (DO n p0 p0_2 p1 p2 l1 m6) o2 a3=some r:=h
 unfold Dz at h
 try dsimp only
 refine AH (Y (J E (J E (AT E E (AE E RB (AG 0 K7 E (DL 9 E FH E E (Z E A9 (V ?_)))))))))
 refine AL h E (fun hc3 h=>?_) fun hc3 h=>?_
 refine AI (AJ ?_)
 refine A8 (α:=BW) (fun x=>Ep a3 (DO n p0 p0_2 p1 p2 l1 m6) x=some r) (fun x=>[(0,vP Az 0),(1,DE),(2,D8),(6,v1),(10,vI a3)]) (fun x=>own Az (.cells #[vP BG 0,AW,Al,Ec,vB p0.bad] 131)::wO BG C0 BX B1 x::eO C0 CK CL CM p0_2::AD 9 1 CK eS p0_2.blk::AD 9 1 CL eS p0_2.pnd::AD 4 1 CM eB p0_2.bads::AD 55 2 BX AU x.ring::AD 4 1 B1 eB x.taken::AD 43 4 AW AV p0.rows::AD 148 3 Al AS p0.had::AD 36 1 Ec BV p0.gens::AD 43 4 DE AV p1::AD 148 3 D8 AS p2::AD 36 1 v1 BV l1::H) ?_ (fun o3 D h=>?_)
 refine AN (Y ?_)
 refine AF h fun x5 hx5 h=>?_
 refine AF h fun y3 hy3 h=>?_
 refine J E (J E (AT E E (AE E RB (AG 0 K7 E (J E ?_)))))
 refine B6 9 hx5 E FH Ea E E E fun g5 m7 cp5 hv5=>?_
 refine AE E EU (AE E Ds ?_)
 refine Bm E A4 E (Bq (sz:=3) (enc:=AS) 9 1 zV E hv5 hx5 E) ?_
 refine SL.pick [12,0,1,2,3,4,5,6,7,8,9,10,11] 13 ?_
 refine BT (vs:=[_,_]) (Hin:=[_]) (Hr:=_::_::_::_::_::_::_::_::_::_::_::_::_::_) E E ⟨E,E,zT⟩ mg E E (CJ (B:=[_]) (Hin:=[]) fun K' w1 hk hB=>Uh hy3 (Bp (e:=148) (v:=D8) zV (hB _ zS))) ?_
 rintro _ _ ⟨_,rfl,rfl,rfl⟩
 refine⟨trivial,?_⟩
 refine Z E A9 (V ?_)
 refine AL h E (fun hc4 h=>?_) fun hc4 h=>?_
 refine AF h fun x6 hx6 h=>?_
 refine AF h fun y4 hy4 h=>?_
 refine Ax Cz [1,10] (Bs (G4 0 13) (.last 13 .nil)) zK (J E (AT E E (AE E L8 (AG 0 Pf E (J E (AT E E (AE E RB ?_)))))))
 refine AG 0 K7 E (J E ?_)
 refine B6 10 hx6 E FH Ea E E E fun g6 m8 cp6 hv6=>?_
 refine AE E EU (AE E Ds ?_)
 refine Bm E A4 E (Bq (sz:=3) (enc:=AS) 1 1 zV E hv6 hx6 E) ?_
 refine BU (SL.pick [2,7,8,3,4,5,6,0,1] 9 (AQ 7 md (QX hy4) E (AZ (Av ?_))))
 exact Aq y4.2 h tL (BM [8,0,3,4,5,6,1,2,9,10,11,12,7,13] 14 E E E)
 refine AI (Av ?_)
 exact Aq o2 h tL (BM [1,2,3,4,5,6,7,8,9,10,11,12,0,13] 14 E E E)
 unfold Ep at h
 try dsimp only
 refine AM ?_
 obtain⟨i_2,ei_2,h⟩:=Bz h
 refine J E (Z E Bc ?_)
 refine Ay (u:=vI i_2) E E (congrArg vI ei_2) ?_
 refine AZ ?_
 exact A1 (m6,o3,i_2) h (Nat.lt_succ_self _) tL (BM [0,1,2,3,4,5,6,7,8,9,10,11,12,13] 14 E E E)
 refine A5 (BC (Bb (BB ?_)))
 exact Aq o2 h tL (BM [0,1,2,3,4,5,6,7,8,9,10,11,12,13] 14 E E E)
 unfold J4 at h
 try dsimp only
 refine Y (J E (J E (AT E E (AE E jR ?_))))
 refine Cs 11 E fun hv7 ho1=>?_
 refine EW 0 E E E E My hv7 ho1 E zT (V (Y (J E (J E (AT E E (AE E RB ?_))))))
 refine Cs 12 E fun hv8 ho2=>?_
 refine EW 0 E E E E ny hv8 ho2 E zT (V (AM (J E (J E (AT E E (AE E jS ?_))))))
 refine Cs 13 E fun hv9 ho3=>?_
 refine EW 0 E E E E ln hv9 ho3 E zT (AZ ?_)
 obtain rfl:=zI h
 exact Da (Ed E) (Ao (M:=[_,_,_,_,_,_,_,_,_,_,_]) ⟨DE,D8,v1,E,E⟩ fun _ hw=>Bj.pick (H:=[_,_,_,_,_,_,_,_,_,_,_,_,_,_]) hw [0,11,12,13,1,6,7,2,3,4,5] 14 E)
def Fk(n:Nat)(p0:C3)(p1:List Aj)(y1:List Ak×Int×BW×A6)(o1:BW)(o2:A6)(a1:Int):Option (Int×C3×BW×A6):=
 cond (!decide (a1=0))
 (
  some (a1,{ p0 with bad:=true },o1,o2))
 (
  (F0 n p0 o1 o2 p1 y1.1).bind fun y3=>
  some (0,y3.1,y3.2,o2))
def Fd(n:Nat)(T:List UInt32)(p0:C3)(p0_1:BW)(p0_2:A6)(p1:List Aj)(p2:List Ak):Option (Int×C3×BW×A6):=
 (Vl n T p0_1 p0_2 p1 p2).bind fun y1=>
 cond (decide (y1.2.1=0))
 (
  (FJ n T p0 y1.2.2.1 y1.2.2.2 p1 y1.1).bind fun y2=>
  Fk n p0 p1 y1 y2.2.1 y2.2.2 y2.1)
 (
  cond (decide (y1.2.1=110))
  (
   some (y1.2.1,p0,y1.2.2.1,y1.2.2.2))
  (
   Fk n p0 p1 y1 y1.2.2.1 y1.2.2.2 y1.2.1))
theorem UE{n Az BG C0:Nat}{T:List UInt32}{AW Al Ec BX B1 CK CL CM DE D8:Value}{p0:C3}{p0_1:BW}{p0_2:A6}{p1:List Aj}{p2:List Ak}{r:Int×C3×BW×A6}(h:Fd n T p0 p0_1 p0_2 p1 p2=some r)(hT:Jl K w0 2 64 T)(hs2_:By K w0 AS 3 D8 p2):zC K w0 60 [vP Az 0,DE,D8] [own Az (.cells #[vP BG 0,AW,Al,Ec,vB p0.bad] 131),AD 43 4 AW AV p0.rows,AD 148 3 Al AS p0.had,AD 36 1 Ec BV p0.gens,wO BG C0 BX B1 p0_1,AD 55 2 BX AU p0_1.ring,AD 4 1 B1 eB p0_1.taken,eO C0 CK CL CM p0_2,AD 9 1 CK eS p0_2.blk,AD 9 1 CL eS p0_2.pnd,AD 4 1 CM eB p0_2.bads,AD 43 4 DE AV p1] H (fun u M=>∃vs0_0_1 vs0_0_2 vs0_0_3:Value,u=vI r.1∧M=[own Az (.cells #[vP BG 0,vs0_0_1,vs0_0_2,vs0_0_3,vB r.2.1.bad] 131),AD 43 4 vs0_0_1 AV r.2.1.rows,AD 148 3 vs0_0_2 AS r.2.1.had,AD 36 1 vs0_0_3 BV r.2.1.gens,wO BG C0 BX B1 r.2.2.1,AD 55 2 BX AU r.2.2.1.ring,AD 4 1 B1 eB r.2.2.1.taken,eO C0 CK CL CM r.2.2.2,AD 9 1 CK eS r.2.2.2.blk,AD 9 1 CL eS r.2.2.2.pnd,AD 4 1 CM eB r.2.2.2.bads]):=by
 unfold Fd at h
 refine WN.enter Tryz.func60 rfl rfl ?_
 refine Y (U E (V (Y ?_)))
 refine AF h fun y1 hy1 h=>?_
 refine J E (AT E E (AE E L8 (AG 0 Pf E (J E (J E (SL.pick [11,4,5,6,7,8,9,10,0,1,2,3] 12 ?_))))))
 refine BT (vs:=[_,_,_]) (Hin:=[_,_,_,_,_,_,_,_]) (Hr:=_::_::_::_::_) E E ⟨E,E,E,zT⟩ ql E E (CJ (B:=[_]) (Hin:=[_,_,_,_,_,_,_]) fun K' w1 hk hB=>ef hy1 (hT.keeps hk) (Bp (e:=43) (v:=DE) zV (hB _ zS)) (hs2_.keeps hk)) ?_
 rintro _ _ ⟨_,rfl,v1,rfl,rfl⟩
 refine⟨trivial,?_⟩
 refine J E (Ah E E E (Ah E E E (U E (U E (V ?_)))))
 refine A8 (α:=BW×A6×Int) (fun x=>Fk n p0 p1 y1 x.1 x.2.1 x.2.2=some r) (fun x=>[(0,vP Az 0),(1,DE),(7,v1),(8,vI x.2.2)]) (fun x=>own Az (.cells #[vP BG 0,AW,Al,Ec,vB p0.bad] 131)::wO BG C0 BX B1 x.1::eO C0 CK CL CM x.2.1::AD 9 1 CK eS x.2.1.blk::AD 9 1 CL eS x.2.1.pnd::AD 4 1 CM eB x.2.1.bads::AD 55 2 BX AU x.1.ring::AD 4 1 B1 eB x.1.taken::AD 43 4 AW AV p0.rows::AD 148 3 Al AS p0.had::AD 36 1 Ec BV p0.gens::AD 43 4 DE AV p1::AD 148 3 v1 AS y1.1::H) ?_ (fun x D h=>?_)
 refine Y (J E (Z E Ba (V ?_)))
 refine AL h E (fun hc1 h=>?_) fun hc1 h=>?_
 refine AM ?_
 refine AF h fun y2 hy2 h=>?_
 refine J E (J E (J E (SL.pick [0,1,9,10,11,12,2,3,4,5,6,7,8] 13 ?_)))
 refine BT (vs:=[_,_,_]) (Hin:=[_,_,_,_,_,_,_,_,_,_,_,_,_]) (Hr:=_) E E ⟨E,E,E,zT⟩ qm E E (CJ (B:=[_,_]) (Hin:=[_,_,_,_,_,_,_,_,_,_,_]) fun K' w1 hk hB=>OP hy2 (hT.keeps hk) (Bp (e:=43) (v:=DE) zV (hB _ zS)) (Bp (e:=148) (v:=v1) zV (hB _ zS))) ?_
 rintro _ _ ⟨_,rfl,rfl,rfl⟩
 refine⟨trivial,?_⟩
 refine U E (AZ ?_)
 exact Aq (y2.2.1,y2.2.2,y2.1) h tL (BM [2,6,9,10,11,12,7,8,3,4,5,0,1] 13 E E E)
 refine Y (J E (Z E Ba (V ?_)))
 refine AL h E (fun hc2 h=>?_) fun hc2 h=>?_
 refine Y (J E (U E (V (AK (FY ?_)))))
 obtain rfl:=zI h
 exact BH [9,10,11,12,2,3,4,5,6,7,8] 13 (Cx E E) E E ⟨AW,Al,Ec,E,E⟩
 refine AI ?_
 exact Aq (y1.2.2.1,y1.2.2.2,y1.2.1) h tL (BM [9,2,5,6,7,8,3,4,10,11,12,0,1] 13 E E E)
 obtain⟨o1,o2,a1⟩:=x
 dsimp only at h
 unfold Fk at h
 try dsimp only
 refine AH (Y (J E (Z E BQ (V ?_))))
 refine AL h E (fun hc3 h=>?_) fun hc3 h=>?_
 refine Y (J E (AT E E (AE E bN (A3 0 E E E E Ql E E E zT (V (Y (J E (U E (V (AK (Aa ?_)))))))))))
 obtain rfl:=zI h
 exact BH [0,8,9,10,1,6,7,2,3,4,5] 13 (Cx E E) E E ⟨AW,Al,Ec,E,E⟩
 refine AI (AJ (Y ?_))
 refine AF h fun y3 hy3 h=>?_
 refine J E (J E (J E (SL.pick [0,8,9,10,1,6,7,2,3,4,5,11,12] 13 (BY 13 qo (P0 hy3) E ?_))))
 rintro _ _ ⟨v2,v3,v4,rfl,rfl⟩
 refine V (Y (U E (V (AK ?_))))
 obtain rfl:=zI h
 exact BH [0,1,2,3,4,5,6,7,8,9,10] 11 (Cx E E) E E ⟨v2,v3,v4,E,E⟩
def GY(n:Nat)(p0:C3)(p1:List Aj)(y1:List Ak×Int×BW×A6)(o1:BW)(o2:A6)(a1:Int):Option (Int×C3×BW×A6):=
 cond (!decide (a1=0))
 (
  some (a1,{ p0 with bad:=true },o1,o2))
 (
  (F0 n p0 o1 o2 p1 y1.1).bind fun y3=>
  some (0,y3.1,y3.2,o2))
def Ht(n:Nat)(T:List UInt32)(p0:C3)(p0_1:BW)(p0_2:A6)(p1:List Aj):Option (Int×C3×BW×A6):=
 (Vl n T p0_1 p0_2 p1 p0.had).bind fun y1=>
 cond (decide (y1.2.1=0))
 (
  (FJ n T p0 y1.2.2.1 y1.2.2.2 p1 y1.1).bind fun y2=>
  GY n p0 p1 y1 y2.2.1 y2.2.2 y2.1)
 (
  cond (decide (y1.2.1=110))
  (
   some (y1.2.1,p0,y1.2.2.1,y1.2.2.2))
  (
   GY n p0 p1 y1 y1.2.2.1 y1.2.2.2 y1.2.1))
theorem TF{n Az BG C0:Nat}{T:List UInt32}{AW Al Ec BX B1 CK CL CM DE:Value}{p0:C3}{p0_1:BW}{p0_2:A6}{p1:List Aj}{r:Int×C3×BW×A6}(h:Ht n T p0 p0_1 p0_2 p1=some r)(hT:Jl K w0 2 64 T):zC K w0 60 [vP Az 0,DE,Al] [own Az (.cells #[vP BG 0,AW,Al,Ec,vB p0.bad] 131),AD 43 4 AW AV p0.rows,AD 148 3 Al AS p0.had,AD 36 1 Ec BV p0.gens,wO BG C0 BX B1 p0_1,AD 55 2 BX AU p0_1.ring,AD 4 1 B1 eB p0_1.taken,eO C0 CK CL CM p0_2,AD 9 1 CK eS p0_2.blk,AD 9 1 CL eS p0_2.pnd,AD 4 1 CM eB p0_2.bads,AD 43 4 DE AV p1] H (fun u M=>∃vs0_0_1 vs0_0_2 vs0_0_3:Value,u=vI r.1∧M=[own Az (.cells #[vP BG 0,vs0_0_1,vs0_0_2,vs0_0_3,vB r.2.1.bad] 131),AD 43 4 vs0_0_1 AV r.2.1.rows,AD 148 3 vs0_0_2 AS r.2.1.had,AD 36 1 vs0_0_3 BV r.2.1.gens,wO BG C0 BX B1 r.2.2.1,AD 55 2 BX AU r.2.2.1.ring,AD 4 1 B1 eB r.2.2.1.taken,eO C0 CK CL CM r.2.2.2,AD 9 1 CK eS r.2.2.2.blk,AD 9 1 CL eS r.2.2.2.pnd,AD 4 1 CM eB r.2.2.2.bads]):=by
 unfold Ht at h
 refine WN.enter Tryz.func60 rfl rfl ?_
 refine Y (U E (V (Y ?_)))
 refine AF h fun y1 hy1 h=>?_
 refine J E (AT E E (AE E L8 (AG 0 Pf E (J E (J E (SL.pick [11,2,4,5,6,7,8,9,10,0,1,3] 12 ?_))))))
 refine BT (vs:=[_,_,_]) (Hin:=[_,_,_,_,_,_,_,_,_]) (Hr:=_::_::_::_) E E ⟨E,E,E,zT⟩ ql E E (CJ (B:=[_,_]) (Hin:=[_,_,_,_,_,_,_]) fun K' w1 hk hB=>ef hy1 (hT.keeps hk) (Bp (e:=43) (v:=DE) zV (hB _ zS)) (Bp (e:=148) (v:=Al) zV (hB _ zS))) ?_
 rintro _ _ ⟨_,rfl,v1,rfl,rfl⟩
 refine⟨trivial,?_⟩
 refine J E (Ah E E E (Ah E E E (U E (U E (V ?_)))))
 refine A8 (α:=BW×A6×Int) (fun x=>GY n p0 p1 y1 x.1 x.2.1 x.2.2=some r) (fun x=>[(0,vP Az 0),(1,DE),(7,v1),(8,vI x.2.2)]) (fun x=>own Az (.cells #[vP BG 0,AW,Al,Ec,vB p0.bad] 131)::wO BG C0 BX B1 x.1::eO C0 CK CL CM x.2.1::AD 9 1 CK eS x.2.1.blk::AD 9 1 CL eS x.2.1.pnd::AD 4 1 CM eB x.2.1.bads::AD 55 2 BX AU x.1.ring::AD 4 1 B1 eB x.1.taken::AD 43 4 AW AV p0.rows::AD 148 3 Al AS p0.had::AD 36 1 Ec BV p0.gens::AD 43 4 DE AV p1::AD 148 3 v1 AS y1.1::H) ?_ (fun x D h=>?_)
 refine Y (J E (Z E Ba (V ?_)))
 refine AL h E (fun hc1 h=>?_) fun hc1 h=>?_
 refine AM ?_
 refine AF h fun y2 hy2 h=>?_
 refine J E (J E (J E (SL.pick [0,2,10,11,1,12,3,4,5,6,7,8,9] 13 ?_)))
 refine BT (vs:=[_,_,_]) (Hin:=[_,_,_,_,_,_,_,_,_,_,_,_,_]) (Hr:=_) E E ⟨E,E,E,zT⟩ qm E E (CJ (B:=[_,_]) (Hin:=[_,_,_,_,_,_,_,_,_,_,_]) fun K' w1 hk hB=>OP hy2 (hT.keeps hk) (Bp (e:=43) (v:=DE) zV (hB _ zS)) (Bp (e:=148) (v:=v1) zV (hB _ zS))) ?_
 rintro _ _ ⟨_,rfl,rfl,rfl⟩
 refine⟨trivial,?_⟩
 refine U E (AZ ?_)
 exact Aq (y2.2.1,y2.2.2,y2.1) h tL (BM [2,6,9,10,11,12,7,8,3,4,5,0,1] 13 E E E)
 refine Y (J E (Z E Ba (V ?_)))
 refine AL h E (fun hc2 h=>?_) fun hc2 h=>?_
 refine Y (J E (U E (V (AK (FY ?_)))))
 obtain rfl:=zI h
 exact BH [10,11,1,12,3,4,5,6,7,8,9] 13 (Cx E E) E E ⟨AW,Al,Ec,E,E⟩
 refine AI ?_
 exact Aq (y1.2.2.1,y1.2.2.2,y1.2.1) h tL (BM [10,3,6,7,8,9,4,5,11,1,12,0,2] 13 E E E)
 obtain⟨o1,o2,a1⟩:=x
 dsimp only at h
 unfold GY at h
 try dsimp only
 refine AH (Y (J E (Z E BQ (V ?_))))
 refine AL h E (fun hc3 h=>?_) fun hc3 h=>?_
 refine Y (J E (AT E E (AE E bN (A3 0 E E E E Ql E E E zT (V (Y (J E (U E (V (AK (Aa ?_)))))))))))
 obtain rfl:=zI h
 exact BH [0,8,9,10,1,6,7,2,3,4,5] 13 (Cx E E) E E ⟨AW,Al,Ec,E,E⟩
 refine AI (AJ (Y ?_))
 refine AF h fun y3 hy3 h=>?_
 refine J E (J E (J E (SL.pick [0,8,9,10,1,6,7,2,3,4,5,11,12] 13 (BY 13 qo (P0 hy3) E ?_))))
 rintro _ _ ⟨v2,v3,v4,rfl,rfl⟩
 refine V (Y (U E (V (AK ?_))))
 obtain rfl:=zI h
 exact BH [0,1,2,3,4,5,6,7,8,9,10] 11 (Cx E E) E E ⟨v2,v3,v4,E,E⟩
def Ky(n:Nat)(T:List UInt32)(p0:A6)(p1:List BD):Option (Option (C3×BW)×Int×A6):=
 (Kw n p1).bind fun y1=>
 cond (!decide (y1.2=0))
 (
  some (none,y1.2,p0))
 (
  (LK p0).bind fun y2=>
  cond y2
  (
   some (none,72,p0))
  (
   (Dj p0).bind fun y3=>
   cond (!decide (y3.2.1=0))
   (
    some (none,y3.2.1,y3.2.2))
   (
    (Ok n y3.2.2 p1 y1.1 y3.1).bind fun y4=>
    (y4.1).bind fun d1=>
    (Fd n T ({ rows:=[],had:=[],gens:=[],bad:=false }:C3) d1 y3.2.2 [] []).bind fun y5=>
    cond (!decide (y5.1=0))
    (
     some (none,y5.1,y5.2.2.2))
    (
     some (some (y5.2.1,y5.2.2.1),0,y5.2.2.2)))))
theorem Zi{n Az:Nat}{T:List UInt32}{As AW Al DE:Value}{p0:A6}{p1:List BD}{r:Option (C3×BW)×Int×A6}(h:Ky n T p0 p1=some r)(hT:Jl K w0 2 64 T):zC K w0 31 [vP Az 0,DE] [eO Az As AW Al p0,AD 9 1 As eS p0.blk,AD 9 1 AW eS p0.pnd,AD 4 1 Al eB p0.bads,AD 55 2 DE AU p1] H (fun u M=>(r.1=none∧u=.tuple #[.pointer none,vI r.2.1]∧M=[eO Az As AW Al r.2.2,AD 9 1 As eS r.2.2.blk,AD 9 1 AW eS r.2.2.pnd,AD 4 1 Al eB r.2.2.bads])∨(∃(d:C3×BW) (bn0:Nat) (vn0x1:Value) (vn0x2:Value) (vn0x3:Value) (bn1:Nat) (vn1x1:Value) (vn1x5:Value),r.1=some d∧u=.tuple #[vP bn0 0,vI r.2.1]∧M=[own bn0 (.cells #[vP bn1 0,vn0x1,vn0x2,vn0x3,vB d.1.bad] 131),AD 43 4 vn0x1 AV d.1.rows,AD 148 3 vn0x2 AS d.1.had,AD 36 1 vn0x3 BV d.1.gens,wO bn1 Az vn1x1 vn1x5 d.2,AD 55 2 vn1x1 AU d.2.ring,AD 4 1 vn1x5 eB d.2.taken,eO Az As AW Al r.2.2,AD 9 1 As eS r.2.2.blk,AD 9 1 AW eS r.2.2.pnd,AD 4 1 Al eB r.2.2.bads])):=by
 unfold Ky at h
 refine WN.enter Tryz.func31 rfl rfl ?_
 refine Y (U E (U E (V (Y ?_))))
 refine AF h fun y1 hy1 h=>?_
 refine J E (SL.pick [4,0,1,2,3] 5 ?_)
 refine BT (vs:=[_]) (Hin:=[_]) (Hr:=_::_::_::_::_) E E ⟨E,zT⟩ xG E E (CJ (B:=[_]) (Hin:=[]) fun K' w1 hk hB=>Ze hy1 (Bp (e:=55) (v:=DE) zV (hB _ zS))) ?_
 rintro _ _ ⟨_,rfl,rfl,rfl⟩
 refine⟨trivial,?_⟩
 refine J E (Ah E E E (Ah E E E (U E (U E (V (AH (Y (J E (Z E BQ (V ?_))))))))))
 refine AL h E (fun hc1 h=>?_) fun hc1 h=>?_
 refine Y (J E (U E (U E (V (AK (Aa ?_))))))
 obtain rfl:=zI h
 exact An (C9 E E E) (Ao (M:=[_,_,_,_]) (.inl ⟨E,E,E⟩) fun _ hw=>Bj.pick (H:=[_,_,_,_,_]) hw [1,2,3,4] 5 E)
 refine AI (AJ (AH (Y ?_)))
 refine AF h fun y2 hy2 h=>?_
 refine J E (SL.pick [1,2,3,4,0] 5 (AQ 4 qc (V7 hy2) E (V ?_)))
 refine AL h E (fun hc2 h=>?_) fun hc2 h=>?_
 refine Y (U E (U E (V (AK (Aa ?_)))))
 obtain rfl:=zI h
 exact An (C9 E E E) (Ao (M:=[_,_,_,_]) (.inl ⟨E,E,E⟩) fun _ hw=>Bj.pick (H:=[_,_,_,_,_]) hw [0,1,2,3] 5 E)
 refine AI (AJ (Y ?_))
 refine AF h fun y3 hy3 h=>?_
 refine J E (AQ 4 xH (UB hy3) E (J E (Ah E E E (Ah E E E (U E (U E (V (AH (Y (J E ?_))))))))))
 refine Z E BQ (V ?_)
 refine AL h E (fun hc3 h=>?_) fun hc3 h=>?_
 refine Y (J E (U E (U E (V (AK (Aa ?_))))))
 obtain rfl:=zI h
 exact An (C9 E E E) (Ao (M:=[_,_,_,_]) (.inl ⟨E,E,E⟩) fun _ hw=>Bj.pick (H:=[_,_,_,_,_]) hw [0,1,2,3] 5 E)
 refine AI (AJ (Y ?_))
 refine AF h fun y4 hy4 h=>?_
 refine AF h fun d1 hd1 h=>?_
 refine J E (J E (J E (J E ?_)))
 refine BT (vs:=[_,_,_,_]) (Hin:=[_,_,_,_,_]) (Hr:=_) E E ⟨E,E,E,E,zT⟩ xI E E (fW hy4) ?_
 rintro _ _ (⟨hn,-,-⟩ | ⟨d_,b1,v1,v2,hn,rfl,rfl⟩)
 rw[hd1]at hn;cases hn
 obtain rfl:d1=d_:=zI (hd1.symm.trans hn)
 refine⟨trivial,?_⟩
 refine J E (Ah E E E (Ah E E E (U E (U E (V (Y (J E (B5 [_] E xu xf yc ⟨E,zT⟩ E ?_))))))))
 refine Bg E E zU fun b2=>?_
 refine CE 43 4 AV (CE 148 3 AS (CE 36 1 BV (U E (V (Y ?_)))))
 refine AF h fun y5 hy5 h=>?_
 refine J E (CE 43 4 AV (SL.pick [4,3,2,1,5,6,7,8,9,10,11,0] 12 ?_))
 refine BY 12 qe (UE hy5 hT (By.nil zV)) E ?_
 rintro _ _ ⟨v3,v4,v5,rfl,rfl⟩
 refine U E (V (AH (Y (J E (Z E BQ (V ?_))))))
 refine AL h E (fun hc4 h=>?_) fun hc4 h=>?_
 refine Y (J E (U E (U E (V (AK (Aa ?_))))))
 obtain rfl:=zI h
 exact An (C9 E E E) (Ao (M:=[_,_,_,_]) (.inl ⟨E,E,E⟩) fun _ hw=>Bj.pick (H:=[_,_,_,_,_,_,_,_,_,_,_]) hw [7,8,9,10] 11 E)
 refine AI (AJ (Y (J E (U E (U E (V (AK ?_)))))))
 obtain rfl:=zI h
 exact An (C9 E E E) (Ao (M:=[_,_,_,_,_,_,_,_,_,_,_]) (.inr ⟨_,b2,v3,v4,v5,b1,v1,v2,E,E,E⟩) fun _ hw=>Bj.pick (H:=[_,_,_,_,_,_,_,_,_,_,_]) hw [0,1,2,3,4,5,6,7,8,9,10] 11 E)
def EJ(n:Nat)(T:List UInt32)(p0:C3)(p0_1:BW)(p0_2:A6)(p1:List Iv):Option (Int×Int×C3×BW×A6):=
 cond p0.bad
 (
  some (0,131,p0,p0_1,p0_2))
 (
  (HA n p0.rows p1).bind fun y1=>
  cond (!decide (y1.2.2=0))
  (
   some (y1.2.1,y1.2.2,p0,p0_1,p0_2))
  (
   (LK p0_2).bind fun y2=>
   cond y2
   (
    some (0,72,p0,p0_1,p0_2))
   (
    (Ht n T p0 p0_1 p0_2 y1.1).bind fun y3=>
    some (0,y3.1,y3.2.1,y3.2.2.1,y3.2.2.2))))
theorem UD{n Az BG C0:Nat}{T:List UInt32}{AW Al Ec BX B1 CK CL CM DE:Value}{p0:C3}{p0_1:BW}{p0_2:A6}{p1:List Iv}{r:Int×Int×C3×BW×A6}(h:EJ n T p0 p0_1 p0_2 p1=some r)(hT:Jl K w0 2 64 T)(hs1_:By K w0 Hp 5 DE p1):zC K w0 43 [vP Az 0,DE] [own Az (.cells #[vP BG 0,AW,Al,Ec,vB p0.bad] 131),AD 43 4 AW AV p0.rows,AD 148 3 Al AS p0.had,AD 36 1 Ec BV p0.gens,wO BG C0 BX B1 p0_1,AD 55 2 BX AU p0_1.ring,AD 4 1 B1 eB p0_1.taken,eO C0 CK CL CM p0_2,AD 9 1 CK eS p0_2.blk,AD 9 1 CL eS p0_2.pnd,AD 4 1 CM eB p0_2.bads] H (fun u M=>∃vs0_0_1 vs0_0_2 vs0_0_3:Value,u=.tuple #[vI r.1,vI r.2.1]∧M=[own Az (.cells #[vP BG 0,vs0_0_1,vs0_0_2,vs0_0_3,vB r.2.2.1.bad] 131),AD 43 4 vs0_0_1 AV r.2.2.1.rows,AD 148 3 vs0_0_2 AS r.2.2.1.had,AD 36 1 vs0_0_3 BV r.2.2.1.gens,wO BG C0 BX B1 r.2.2.2.1,AD 55 2 BX AU r.2.2.2.1.ring,AD 4 1 B1 eB r.2.2.2.1.taken,eO C0 CK CL CM r.2.2.2.2,AD 9 1 CK eS r.2.2.2.2.blk,AD 9 1 CL eS r.2.2.2.2.pnd,AD 4 1 CM eB r.2.2.2.2.bads]):=by
 unfold EJ at h
 refine WN.enter Tryz.func43 rfl rfl ?_
 refine Y (U E (U E (V (AH (Y (J E (AT E E (AE E bN (AG 0 cR E (V ?_))))))))))
 refine AL h E (fun hc1 h=>?_) fun hc1 h=>?_
 refine Y (U E (U E (V (AK (Aa ?_)))))
 obtain rfl:=zI h
 exact BH [0,1,2,3,4,5,6,7,8,9,10] 11 (C9 E E E) E E ⟨AW,Al,Ec,E,E⟩
 refine AI (AJ (Y ?_))
 refine AF h fun y1 hy1 h=>?_
 refine J E (AT E E (AE E jR (AG 0 HI E (J E (SL.pick [1,0] 2 ?_)))))
 refine BT (vs:=[_,_]) (Hin:=[_]) (Hr:=_::_::_::_::_::_::_::_::_::_::_) E E ⟨E,E,zT⟩ xK E E (CJ (B:=[_]) (Hin:=[]) fun K' w1 hk hB=>an hy1 (Bp (e:=43) (v:=AW) zV (hB _ zS)) (hs1_.keeps hk)) ?_
 rintro _ _ ⟨_,rfl,v1,rfl,rfl⟩
 refine⟨trivial,?_⟩
 refine J E (Ah E E E (Ah E E E (Ah E E E (U E (U E (U E (V (AH (Y (J E ?_))))))))))
 refine Z E BQ (V ?_)
 refine AL h E (fun hc2 h=>?_) fun hc2 h=>?_
 refine Y (J E (J E (U E (U E (V (AK (Aa ?_)))))))
 obtain rfl:=zI h
 exact BH [2,0,3,4,5,6,7,8,9,10,11] 12 (C9 E E E) E E ⟨AW,Al,Ec,E,E⟩
 refine AI (AJ (AH (Y ?_)))
 refine AF h fun y2 hy2 h=>?_
 refine J E (AT E E (AE E L8 (AG 2 Pf E (AT E E (AE E Sm (AG 5 eW E (SL.pick [8,9,10,11,0,1,2,3,4,5,6,7] 12 ?_)))))))
 refine AQ 4 qc (V7 hy2) E (V ?_)
 refine AL h E (fun hc3 h=>?_) fun hc3 h=>?_
 refine Y (U E (U E (V (AK (Aa ?_)))))
 obtain rfl:=zI h
 exact BH [6,4,7,8,9,10,11,0,1,2,3] 12 (C9 E E E) E E ⟨AW,Al,Ec,E,E⟩
 refine AI (AJ (Y ?_))
 refine AF h fun y3 hy3 h=>?_
 refine J E (J E (J E (AT E E (AE E RB (AG 6 K7 E (SL.pick [6,4,7,8,9,10,11,0,1,2,3,5] 12 (BY 12 qe (TF hy3 hT) E ?_)))))))
 rintro _ _ ⟨v2,v3,v4,rfl,rfl⟩
 refine U E (U E (V (AK ?_)))
 obtain rfl:=zI h
 exact BH [0,1,2,3,4,5,6,7,8,9,10] 11 (C9 E E E) E E ⟨v2,v3,v4,E,E⟩
end

section
theorem rn(x:UInt64)(w:Nat)(hw:w≤8){n:Nat}(hm:8<n):JP n x (w:Int)=some (B0 x w):=
 (show JP n x (w:Int)=EL n x (w:Int)from rfl).trans (Yh x w hw hm)
theorem nq(x:UInt64)(w:Nat)(hw:w≤8){n:Nat}(hm:8<n):F9 n x (w:Int)=some (B0 x w):=by
 unfold F9 Mp
 refine(congrArg (CI _ n) ?_).trans (Et (fun i=>(B0 x i,(i:Int))) w (fun i hi k=>?_) (fun k=>?_) zO)
 rfl
 have hl:=BP x i
 have ei:((i+1:Nat):Int)=(i:Int)+1:=zO
 dsimp only
 rw[ei,Rl]
 simp only[Ic,show decide ((i:Int)<(w:Int))=true by simp;omega,CC]
 rw[CR zO zO,show(8*(i:Int))=((8*i:Nat):Int) by omega,VH,AA,DM zQ zQ,AA,CR zO zO]
 simp only[Ic,show decide ((w:Int)<(w:Int))=false by simp,BZ,Mo]
theorem eT(r:Ez):J2 r=F8 r:=by
 unfold J2 F8
 rw[gq,Ms,AA,AA,BN]
 cases (decide (0<r.cnt)&&decide (0<r.gen)&&decide (r.rows≤1000))<;>cases Eo ⟨r.page,r.tag⟩<;>rfl
theorem Tk(r:Ez):∃b,F8 r=some b∧(b=true→r.tag.length=32):=by
 unfold F8
 rw[Ms,AA]
 cases (decide (0<r.cnt)&&decide (0<r.gen)&&decide (r.rows≤1000))with
 | false=>exact⟨false,rfl,fun h=>by cases h⟩
 | true=>exact⟨_,rfl,fun h=>(MG h).1⟩
theorem sF(c:UInt64)(g:UInt32)(m:Int)(t:BR):∃y,JQ c g m t=some y∧NI c g m t=some y:=by
 obtain⟨b,hb,-⟩:=Tk ⟨c+1,g,De m,t.page,t.tag⟩
 unfold JQ NI
 rw[eT,hb,BN,AA,AA]
 have hc:decide (c+1=0)=decide (c=18446744073709551615):=by
  rw[decide_eq_decide]
  constructor
  intro h
  have h1:=congrArg UInt64.toNat h
  rw[UInt64.toNat_add]at h1
  have h2:=c.toNat_lt
  have h3:(1:UInt64).toNat=1:=rfl
  have h4:(0:UInt64).toNat=0:=rfl
  apply UInt64.toNat_inj.1
  show c.toNat=18446744073709551615
  omega
  rintro rfl
  rfl
 rw[hc]
 cases decide (c=18446744073709551615)with
 | true=>exact⟨_,rfl,rfl⟩
 | false=>
  rw[BZ,BZ]
  cases (decide (m<0)||decide (1000<m))with
  | true=>exact⟨_,rfl,rfl⟩
  | false=>cases b<;>exact⟨_,rfl,rfl⟩
theorem vv{n:Nat}(hn:8<n)(r:Ez):∃y,GH n r=some y∧Kx n r=some y∧(y.2=0→y.1.length=56):=by
 obtain⟨b,hb,hl⟩:=Tk r
 unfold GH Kx
 rw[eT,hb,AA,AA]
 cases b with
 | false=>exact⟨([],120),rfl,rfl,fun h=>by cases h⟩
 | true=>
  have ht:=hl rfl
  rw[show(!true)=false from rfl,BZ,BZ]
  unfold Kh On bu
  have b8:=fun x=>nq x 8 zO hn
  have b4:=fun x=>nq x 4 zO hn
  have p8:=fun x=>rn x 8 zO hn
  have p4:=fun x=>rn x 4 zO hn
  have e8:((8:Nat):Int)=8:=rfl
  have e4:((4:Nat):Int)=4:=rfl
  rw[e8]at b8 p8
  rw[e4]at b4 p4
  have l8:=fun x=>BP x 8
  have l4:=fun x=>BP x 4
  refine⟨([115,112,104,114]++B0 r.cnt 8++B0 r.gen.toUInt64 4++B0 r.rows.toUInt64 4++B0 r.page.toUInt64 4++r.tag,0),?_,?_,fun _=>?_⟩
  have hlen:([[115,112,104,114],B0 r.cnt 8,B0 r.gen.toUInt64 4,B0 r.rows.toUInt64 4,B0 r.page.toUInt64 4,r.tag]:List (List UInt8)).flatten.length=56:=by simp[l8,l4,ht]
  rw[b8,AA,b4,AA,b4,AA,b4,AA,if_pos ⟨rfl,by simp,by simp,by omega,by omega⟩]
  simp
  unfold FG
  rw[p8,AA,if_pos (by simp[l8]),AA,p4,AA,if_pos (by simp[l8,l4]),AA,p4,AA,if_pos (by simp[l8,l4]),AA,p4,AA,if_pos (by simp[l8,l4]),AA,if_pos (by simp[l8,l4,ht]),AA]
  simp[l8,l4,ht]
theorem vy(c:UInt64):∃p,Mn c=some p∧(SK c 2).bind (fun q=>some q.toUInt32)=some p:=by
 refine⟨(c &&& 1).toUInt32,rfl,?_⟩
 show some (c%2).toUInt32=_
 congr 2
 apply UInt64.toNat_inj.1
 rw[UInt64.toNat_mod,UInt64.toNat_and]
 show c.toNat%2=c.toNat &&& 1
 rw[Nat.and_one_is_mod]
end

section
theorem nn:∀ {f:Nat} {l:List Aj} {t:CB} ,Tr f l t→(l.length≤4→OF f t=1)∧(5≤l.length→OF f t+5≤2*l.length)
 | 0,_,_,h=>h.elim
 | f+1,l,t,h=>by
  rcases h with⟨rfl,rfl⟩ | ⟨hne,c,L,A,⟨_,rfl⟩ | ⟨h4,hL,ks,rfl,hk⟩⟩
  exact⟨fun _=>rfl,fun h=>by simp at h⟩
  rw[OF,if_pos (show(CB.mk c.x c.y c.lev l []).kids.length=0 from rfl)]
  simp only[CB.rows]
  exact⟨fun h=>by omega,fun h=>by omega⟩
  refine⟨fun h=>absurd h zO,fun _=>?_⟩
  have hkl:=hk.length
  have hq2:=(RL A hL).1
  have hq4:=Wv L l
  rw[OF,if_neg (by simp only[CB.kids];omega)]
  simp only[CB.kids]
  have key:∀ {xs:List (List Aj)} {ys:List CB},UK (Tr f) xs ys→(∀x∈xs,x≠[])→
    (ys.map (OF f)).sum+xs.length≤2*xs.flatten.length∧((ys.map (OF f)).sum=xs.length∨(ys.map (OF f)).sum+xs.length+4≤2*xs.flatten.length):=by
   intro xs ys h
   induction h with
   | nil=>simp
   | @cons x y xs ys h1 h2 ih=>
    intro hx
    have a1:=nn h1
    obtain⟨a2,a3⟩:=ih fun x hx'=>hx x (by simp[hx'])
    have a4:=List.length_pos_iff.2 (hx x zS)
    simp only[List.map_cons,List.sum_cons,List.length_cons,List.flatten_cons,List.length_append]
    by_cases h5:x.length≤4
    have:=a1.1 h5
    omega
    have:=a1.2 zO
    omega
  have:=key hk fun x hx=>(Tg hx).1
  rw[(ZP L l).length_eq]at this
  omega
def Ow(k:Nat):Nat:=if k≤4 then 1 else 2*k-5
theorem ZM{f:Nat}{l:List Aj}{t:CB}(h:Tr f l t):OF f t≤Ow l.length:=by
 have:=nn h
 unfold Ow
 split<;>omega
theorem jn{T:List UInt32}{th:List (KN×BR)}:∀(seg:List Ak) (q q':PM),W6 (M5 T th) q seg q'→∀p∈q'.tk,p∈q.tk∨p∈seg.map (·.page)
 | [],q,q',h,p,hp=>by rw[←show q=q' from h]at hp;exact .inl hp
 | s::seg,q,q',h,p,hp=>by
  obtain⟨q1,h1,h2⟩:=h
  have D1:∀p∈q1.tk,p∈q.tk∨p=s.page:=by
   unfold M5 at h1
   obtain⟨k,hk,h1⟩:=bnd h1
   cases hs:(Bn th k).isSome with
   | true=>
    rw[hs,CC]at h1
    have h3:=congrArg Prod.snd (zI h1)
    rw[←show q=q1 from h3]
    exact fun p hp=>.inl hp
   | false=>
    rw[hs,BZ]at h1
    obtain⟨y,hy,h1⟩:=bnd h1
    cases he:decide (y.2.1=0)with
    | true=>
     rw[he,CC]at h1
     obtain⟨l,hl,h1⟩:=bnd h1
     have h5:=zI h1
     rw[←show(⟨l,y.2.2.1,y.2.2.2⟩:PM)=q1 from congrArg Prod.snd h5]
     have h6:y.1=⟨s.page,s.tag⟩:=congrArg (fun x=>x.1.1) h5
     unfold C8 at hl
     split at hl
     obtain rfl:=zI hl
     intro p hp
     rcases List.mem_append.1 hp with hp | hp
     exact .inl hp
     right
     rw[List.mem_singleton.1 hp,h6]
     cases hl
    | false=>
     rw[he,BZ]at h1
     rw[←show(⟨q.tk,y.2.2.1,y.2.2.2⟩:PM)=q1 from congrArg Prod.snd (zI h1)]
     exact fun p hp=>.inl hp
  rcases jn seg q1 q' h2 p hp with h | h
  rcases D1 p h with h | rfl
  exact .inl h
  exact .inr (List.mem_cons_self ..)
  exact .inr (List.mem_cons_of_mem _ h)
theorem rL{v:Am}{d:Ai}{p:UInt32}(hb:d.blocks.length=60)(h2:2≤p.toNat)(h60:p.toNat<60):∃e,Gi v d p=some (e,{ v with taken:=Eu v.taken p })∨(Gi v d p=some (e,v)∧Eu v.taken p=v.taken)∨(∃q∈v.taken,q.2=false):=by
 have h1:Hw v d p=some true:=by
  unfold Hw KW
  have:decide (2≤p)=true:=zt (UInt32.le_iff_toNat_le.2 h2)
  rw[this,hb]
  show(some (decide ((p.toNat:Int)<((60:Nat):Int)))).bind _=_
  rw[zt zO]
  rfl
 unfold Gi
 rw[h1,AA,BN]
 cases hm:Bn v.taken p with
 | none=>
  refine⟨2,.inr (.inl ⟨rfl,Qs fun e he hep=>?_⟩)⟩
  unfold Bn at hm
  have:=List.find?_eq_none.1 (Option.map_eq_none_iff.1 hm) e he
  simp[hep]at this
 | some b=>
  cases b with
  | true=>exact⟨0,.inl rfl⟩
  | false=>
   refine⟨2,.inr (.inr ?_)⟩
   unfold Bn at hm
   obtain⟨q,hq,hb⟩:=Option.map_eq_some_iff.1 hm
   exact⟨q,List.mem_of_find?_eq_some hq,hb⟩
theorem rM{v:Am}{d:Ai}{p:UInt32}(hb:d.blocks.length=60)(h2:2≤p.toNat)(h60:p.toNat<60)(ht:∀q∈v.taken,q.2=true):∃e,Gi v d p=some (e,{ v with taken:=Eu v.taken p }):=by
 obtain⟨e,h | ⟨h,h3⟩ | ⟨q,hq,hf⟩⟩:=rL (v:=v) hb h2 h60
 exact⟨e,h⟩
 refine⟨e,?_⟩
 rw[h,h3]
 rw[ht q hq]at hf
 cases hf
def Nt(g:List (UInt32×UInt32)):List Ak→List (UInt32×Bool)→List (UInt32×Bool)
 | [],t=>t
 | s::r,t=>Nt g r (if(Bn g s.page).isSome then t else Eu t s.page)
theorem Wk(g:List (UInt32×UInt32)):∀(r:List Ak) (t:List (UInt32×Bool)),(Nt g r t).Sublist t∧∀e∈t,(e∈Nt g r t↔∀s∈r,s.page=e.1→(Bn g s.page).isSome=true)
 | [],t=>⟨List.Sublist.refl _,fun e he=>by simp[Nt,he]⟩
 | s::r,t=>by
  rw[Nt]
  cases hs:(Bn g s.page).isSome with
  | true=>
   rw[if_pos rfl]
   obtain⟨h1,h2⟩:=Wk g r t
   refine⟨h1,fun e he=>?_⟩
   rw[h2 e he]
   constructor
   intro h x hx hp
   rcases List.mem_cons.1 hx with rfl | hx
   exact hs
   exact h x hx hp
   exact fun h x hx hp=>h x (List.mem_cons_of_mem _ hx) hp
  | false=>
   rw[if_neg zD]
   obtain⟨h1,h2⟩:=Wk g r (Eu t s.page)
   refine⟨h1.trans List.filter_sublist,fun e he=>?_⟩
   by_cases hp:e.1=s.page
   constructor
   intro h
   have:=(List.mem_filter.1 (h1.subset h)).2
   simp[hp]at this
   intro h
   have:=h s (List.mem_cons_self ..) hp.symm
   rw[hs]at this
   cases this
   rw[h2 e (List.mem_filter.2 ⟨he,by simpa using hp⟩)]
   constructor
   intro h x hx hp'
   rcases List.mem_cons.1 hx with rfl | hx
   exact absurd hp'.symm hp
   exact h x hx hp'
   exact fun h x hx hp=>h x (List.mem_cons_of_mem _ hx) hp
variable {o:BF}{d:Ai}{l:List Aj}{ps:List Ak}
theorem gS{g:List (UInt32×UInt32)}(hb:d.blocks.length=60)(ho:∀s∈o.pages,2≤s.page.toNat∧s.page.toNat<60)(hl:o.pages.length≤100000):∀(k i m:Nat) (v:Am),i+k=o.pages.length→k<m→(∀q∈v.taken,q.2=true)→
  Cy o d l ps g m (v,(i:Int))=some ({ o with rows:=l,pages:=ps,gens:=g },{ v with taken:=Nt g (o.pages.drop i) v.taken })
 | _,_,0,_,_,h,_=>absurd h (Nat.not_lt_zero _)
 | 0,i,m+1,v,hi,_,_=>by
  show Cl o d l ps g (Cy o d l ps g m) v (i:Int)=_
  unfold Cl
  rw[zf zO,BZ,List.drop_eq_nil_of_le zO]
  rfl
 | k+1,i,m+1,v,hi,hm,ht=>by
  have hil:i<o.pages.length:=zO
  have n1:BE o.pages (i:Int)=some o.pages[i]:=by rw[Fo rfl,List.getElem?_eq_getElem hil]
  show Cl o d l ps g (Cy o d l ps g m) v (i:Int)=_
  unfold Cl
  rw[zt zO,CC,n1,AA,BN,BN,List.drop_eq_getElem_cons hil,Nt]
  have hsx:=ho _ (List.getElem_mem hil)
  cases hg:(Bn g o.pages[i].page).isSome with
  | true=>
   rw[show(!true)=false from rfl,BZ]
   unfold Do
   rw[CR zO zO,show(i:Int)+1=((i+1:Nat):Int) by omega,gS hb ho hl k (i+1) m v zO zO ht,if_pos rfl]
  | false=>
   obtain⟨e,he⟩:=rM (v:=v) hb hsx.1 hsx.2 ht
   rw[show(!false)=true from rfl,CC,he,AA]
   unfold Do
   rw[CR zO zO,show(i:Int)+1=((i+1:Nat):Int) by omega,gS hb ho hl k (i+1) m _ zO zO (fun q hq=>ht q (List.mem_filter.1 hq).1),if_neg zD]
theorem Vj{α:Type}{m:List (UInt32×α)}{p:UInt32}{a:α}:(Hn m p a).length≤m.length+1:=by
 show(Eu m p).length+1≤_
 have:(Eu m p).length≤m.length:=List.length_filter_le ..
 omega
theorem Vi{α:Type}{m:List (UInt32×α)}{p:UInt32}{a:α}(h:m.length≤1000000):Km m p a=some (Hn m p a):=by
 unfold Km
 rw[if_pos zO]
def MA(o:BF)(was:List (UInt32×Ak)):List Ak→List (UInt32×UInt32)→List (UInt32×UInt32)
 | [],g=>g
 | s::r,g=>MA o was r (Hn g s.page (if Bn was s.page=some s∨(Bn was s.page=none∧s=⟨[],0,[]⟩)then(Bn o.gens s.page).getD 0 else o.gen))
theorem ox{α:Type}{m:List (UInt32×α)}{p:UInt32}{a b:α}:Hn (Hn m p a) p b=Hn m p b:=by
 show(p,b)::Eu ((p,a)::Eu m p) p=(p,b)::Eu m p
 have:Eu ((p,a)::Eu m p) p=Eu (Eu m p) p:=by simp[Eu]
 rw[this]
 congr 1
 exact Qs fun e he=>by simpa using(List.mem_filter.1 he).2
theorem aB{was:List (UInt32×Ak)}{n:Nat}{v:Am}(hl:ps.length≤100000):∀(k i m:Nat) (g:List (UInt32×UInt32)),i+k=ps.length→k<m→g.length≤i→
  Dp n o v d l ps was m (g,(i:Int))=Cy o d l ps (MA o was (ps.drop i) g) n (v,0)
 | _,_,0,_,_,h,_=>absurd h (Nat.not_lt_zero _)
 | 0,i,m+1,g,hi,_,_=>by
  show D6 n o v d l ps was (Dp n o v d l ps was m) g (i:Int)=_
  unfold D6
  rw[zf zO,BZ,List.drop_eq_nil_of_le zO]
  rfl
 | k+1,i,m+1,g,hi,hm,hg=>by
  have hil:i<ps.length:=zO
  have n1:BE ps (i:Int)=some ps[i]:=by rw[Fo rfl,List.getElem?_eq_getElem hil]
  show D6 n o v d l ps was (Dp n o v d l ps was m) g (i:Int)=_
  unfold D6
  rw[zt zO,CC,n1,AA,Vi zO,AA,List.drop_eq_getElem_cons hil,MA]
  have hmp:=Vj (m:=g) (p:=ps[i].page) (a:=o.gen)
  have hq:(decide (((Bn was ps[i].page).getD ⟨[],0,[]⟩).txt=ps[i].txt)&&(decide (((Bn was ps[i].page).getD ⟨[],0,[]⟩).page=ps[i].page)&&(decide (((Bn was ps[i].page).getD ⟨[],0,[]⟩).tag=ps[i].tag)&&true)))=decide (Bn was ps[i].page=some ps[i]∨(Bn was ps[i].page=none∧ps[i]=⟨[],0,[]⟩)):=by
   have e1:∀a b:Ak,(decide (a.txt=b.txt)&&(decide (a.page=b.page)&&(decide (a.tag=b.tag)&&true)))=decide (a=b):=fun a b=>by
    obtain⟨a1,a2,a3⟩:=a
    obtain⟨b1,b2,b3⟩:=b
    simp[Ak.mk.injEq]
   rw[e1]
   cases Bn was ps[i].page with
   | none=>simp[eq_comm]
   | some x=>simp
  rw[hq]
  by_cases hc:Bn was ps[i].page=some ps[i]∨(Bn was ps[i].page=none∧ps[i]=⟨[],0,[]⟩)
  rw[zt hc,CC,Vi zO,AA,ox,if_pos hc]
  have hmp2:=Vj (m:=g) (p:=ps[i].page) (a:=(Bn o.gens ps[i].page).getD 0)
  unfold Es
  rw[CR zO zO,show(i:Int)+1=((i+1:Nat):Int) by omega,aB hl k (i+1) m _ zO zO zO]
  rw[zf hc,BZ,if_neg hc]
  unfold Es
  rw[CR zO zO,show(i:Int)+1=((i+1:Nat):Int) by omega,aB hl k (i+1) m _ zO zO zO]
def PE:List Ak→List (UInt32×Ak)→List (UInt32×Ak)
 | [],w=>w
 | s::r,w=>PE r (Hn w s.page s)
theorem gR{n:Nat}{v:Am}(hl:o.pages.length≤100000):∀(k i m:Nat) (w:List (UInt32×Ak)),i+k=o.pages.length→k<m→w.length≤i→
  EO n o v d l ps m (w,(i:Int))=Dp n o v d l ps (PE (o.pages.drop i) w) n ([],0)
 | _,_,0,_,_,h,_=>absurd h (Nat.not_lt_zero _)
 | 0,i,m+1,w,hi,_,_=>by
  show D5 n o v d l ps (EO n o v d l ps m) w (i:Int)=_
  unfold D5
  rw[zf zO,BZ,List.drop_eq_nil_of_le zO]
  rfl
 | k+1,i,m+1,w,hi,hm,hw=>by
  have hil:i<o.pages.length:=zO
  have n1:BE o.pages (i:Int)=some o.pages[i]:=by rw[Fo rfl,List.getElem?_eq_getElem hil]
  show D5 n o v d l ps (EO n o v d l ps m) w (i:Int)=_
  unfold D5
  have hmp:=Vj (m:=w) (p:=o.pages[i].page) (a:=o.pages[i])
  rw[zt zO,CC,n1,AA,Vi zO,AA,List.drop_eq_getElem_cons hil,PE,CR zO zO,show(i:Int)+1=((i+1:Nat):Int) by omega,gR hl k (i+1) m _ zO zO zO]
theorem Uz(o:BF)(was:List (UInt32×Ak)):∀(r:List Ak) (g:List (UInt32×UInt32)) (p:UInt32),(Bn (MA o was r g) p).isSome=true↔(Bn g p).isSome=true∨p∈r.map (·.page)
 | [],g,p=>by simp[MA]
 | s::r,g,p=>by
  rw[MA,Uz o was r,I5]
  by_cases h:s.page=p
  simp[h]
  have h':p≠s.page:=fun e=>h e.symm
  simp[h,h']
theorem lG{n:Nat}{v:Am}(hb:d.blocks.length=60)(ho:∀s∈o.pages,2≤s.page.toNat∧s.page.toNat<60)(hl:o.pages.length≤1000)(hp:ps.length≤1000)(hn:1001≤n)(ht:∀q∈v.taken,q.2=true):
  ET n o v d l ps=some ({ o with rows:=l,pages:=ps,gens:=MA o (PE o.pages []) ps [] },{ v with taken:=Nt (MA o (PE o.pages []) ps []) o.pages v.taken }):=by
 unfold ET
 have h1:=gR (o:=o) (d:=d) (l:=l) (ps:=ps) (n:=n) (v:=v) zO o.pages.length 0 n [] zO zO (Nat.zero_le _)
 have h2:=aB (o:=o) (d:=d) (l:=l) (ps:=ps) (n:=n) (v:=v) (was:=PE o.pages []) zO ps.length 0 n [] zO zO (Nat.zero_le _)
 have h3:=gS (o:=o) (d:=d) (l:=l) (ps:=ps) (g:=MA o (PE o.pages []) ps []) hb ho zO o.pages.length 0 n v zO zO ht
 exact h1.trans (h2.trans h3)
end

section
variable {N n:Nat}{T:List UInt32}
theorem dj{d d':Ai}{r:A6}(R:RV N d r)(hn:N<n)(h:Ek d=some (0,d')):∃r',EH n r=some (0,r')∧RV N d' r':=by
 have hon:PA d=true:=by
  cases hh:PA d with
  | true=>rfl
  | false=>
   exfalso
   unfold Ek at h
   rw[Mv,hh]at h
   have h5:=congrArg Prod.fst (zI h)
   exact absurd (show(71:Int)=0 from h5) zD
 have hpl:d.pend.length≤QQ:=by
  unfold Ek at h
  rw[Mv,hon]at h
  simp only[if_true,AA,decide_true,CC]at h
  unfold Vn X9 at h
  rw[AA]at h
  split at h
  assumption
  cases h
 obtain⟨e,d2,r2,h1,h2,h3⟩:=R.flush hn hpl
 rw[h]at h1
 obtain⟨rfl,rfl⟩:=Prod.mk.inj (zI h1)
 exact⟨r2,h2,h3⟩
theorem VR.dev'{v:Am}{d d':Ai}{w:BW}{c c':A6}(V9:VR N v d w c)(R:RV N d' c'):VR N v d' w c':=⟨R,V9.ring,V9.rlen,V9.gen,V9.boot,V9.num,V9.tlen,V9.n4,V9.low,V9.tak,V9.tnd,V9.tok⟩
theorem VR.super{v:Am}{d:Ai}{w:BW}{c:A6}(V9:VR N v d w c)(hT:T.length=64)(hn:2097152<n)(p:UInt32){s:List UInt8}(hs:s.length≤1048576):
  ∃t e v' d' w' c',KQ T v d p s=some (t,e,v',d')∧HB n T w c p s=some (t,e,w',c')∧VR N v' d' w' c':=by
 unfold KQ HB
 have hp:decide (2≤p)=decide (1<p):=by
  rw[decide_eq_decide,UInt32.le_iff_toNat_le,UInt32.lt_iff_toNat_lt]
  show 2≤p.toNat↔1<p.toNat
  omega
 rw[BN,hp]
 cases decide (1<p)with
 | true=>exact⟨_,_,_,_,_,_,rfl,rfl,V9⟩
 | false=>
  rw[BZ,BZ,BN]
  cases decide (198<(s.length:Int))with
  | true=>exact⟨_,_,_,_,_,_,rfl,rfl,V9⟩
  | false=>
   obtain⟨t,e,v',d',w',c',h1,h2,h3,-⟩:=V9.seal hT hn p hs
   rw[BZ,BZ,h1,h2,AA,AA]
   exact⟨_,_,_,_,_,_,rfl,rfl,h3⟩
theorem vj{o:BF}{v v':Am}{d d':Ai}{s:C3}{w:BW}{c:A6}{l:List Aj}{ps:List Ak}(V9:VR N v d w c)(hT:T.length=64)(hn:2097152<n)(hg:o.gen=v.gen)
(h:EA n T o v d l ps=some (0,v',d')):∃w' c',FJ n T s w c l ps=some (0,w',c')∧VR N v' d' w' c':=by
 have hN:=V9.dev.nle
 unfold EA at h
 obtain⟨⟨e1,d1⟩,h1,h⟩:=bnd h
 obtain rfl:e1=0:=by
  cases he:decide (e1=0)with
  | true=>exact of_decide_eq_true he
  | false=>
   rw[he]at h
   exact congrArg Prod.fst (zI h)
 obtain⟨c1,g1,R1⟩:=dj (n:=n) V9.dev zO h1
 dsimp only at h
 rw[show(!decide ((0:Int)=0))=false from rfl,BZ]at h
 unfold E1 at h
 rw[AA]at h
 refine AF h fun x hx h=>?_
 obtain⟨y,n1,n2⟩:=sF d1.rcnt o.gen (l.length:Int) ⟨x.page,x.tag⟩
 rw[n1,AA]at h
 unfold FJ
 rw[g1,AA]
 show ∃w' c',((BE ps (wI ((ps.length:Int)-1))).bind _)=_∧_
 rw[hx,AA,R1.cnt,V9.gen,←hg,n2,AA]
 cases he:decide (y.2=0)with
 | false=>
  rw[he,Bool.not_false,CC]at h
  have h5:y.2=0:=congrArg Prod.fst (zI h)
  rw[h5]at he
  cases he
 | true=>
  rw[he,Bool.not_true,BZ]at h
  rw[Bool.not_true,BZ]
  obtain⟨z,z1,z2,z3⟩:=vv (n:=n) zO y.1
  obtain⟨p,p1,p2⟩:=vy y.1.cnt
  rw[z1,AA,p1,AA]at h
  rw[z2,AA]
  have hrem:∃q,SK y.1.cnt 2=some q∧q.toUInt32=p:=by
   cases hq:SK y.1.cnt 2 with
   | none=>rw[hq]at p2;cases p2
   | some q=>
    rw[hq]at p2
    exact⟨q,rfl,zI p2⟩
  obtain⟨q,q1,rfl⟩:=hrem
  rw[q1,AA]
  have hzl:z.1.length≤1048576:=by
   obtain⟨b,hb,hl⟩:=Tk y.1
   unfold GH at z1
   rw[hb,AA]at z1
   cases b with
   | false=>
    obtain rfl:=zI z1
    show 0≤_
    omega
   | true=>
    obtain⟨t,ht,z1⟩:=bnd (show(Kh n y.1).bind _=some z from z1)
    obtain rfl:=zI z1
    have:=z3 rfl
    omega
  obtain⟨t,e,v2,d2,w2,c2,s1,s2,V2⟩:=(V9.dev' R1).super (T:=T) (n:=n) hT hn q.toUInt32 hzl
  rw[s1,AA]at h
  rw[s2,AA]
  dsimp only at h ⊢
  cases he2:decide (e=0)with
  | false=>
   rw[he2,Bool.not_false,CC]at h
   have h5:e=0:=congrArg Prod.fst (zI h)
   rw[h5]at he2
   cases he2
  | true=>
   rw[he2,Bool.not_true,BZ]at h
   rw[Bool.not_true,BZ]
   obtain⟨⟨e3,d3⟩,h3,h⟩:=bnd h
   obtain rfl:e3=0:=by
    cases he:decide (e3=0)with
    | true=>exact of_decide_eq_true he
    | false=>
     rw[he]at h
     exact congrArg Prod.fst (zI h)
   obtain⟨c3,g3,R3⟩:=dj (n:=n) V2.dev zO h3
   rw[g3,AA]
   dsimp only at h
   rw[show(!decide ((0:Int)=0))=false from rfl,BZ]at h
   show ∃w' c',(DN c3 t).bind _=_∧_
   obtain⟨e4,d4,c4,a1,a2,R4⟩:=R3.advance t
   rw[a1,AA]at h
   rw[a2,AA]
   have h6:=zI h
   simp only[Prod.mk.injEq]at h6
   obtain⟨rfl,rfl,rfl⟩:=h6
   exact⟨w2,c4,rfl,V2.dev' R4⟩
theorem jo{ps:List Ak}{p:UInt32}(hn:ps.length<n)(hb:ps.length≤1000000):∃z:Int,L4 n ps p=some z∧((z<0∧p∉ps.map (·.page))∨∃j:Nat,z=(j:Int)∧j<ps.length∧p∈ps.map (·.page)):=by
 have key:∀(k i m:Nat),i+k=ps.length→k<m→(∀x∈ps.take i,x.page≠p)→∃z:Int,HO ps p m (i:Int)=some z∧((z<0∧p∉ps.map (·.page))∨∃j:Nat,z=(j:Int)∧j<ps.length∧p∈ps.map (·.page)):=by
  intro k
  induction k with
  | zero=>
   intro i m hi hm ht
   obtain⟨m,rfl⟩:∃q,m=q+1:=⟨m-1,by omega⟩
   show ∃z:Int,FR ps p (HO ps p m) (i:Int)=some z∧_
   unfold FR
   rw[zf zO,BZ]
   refine⟨-1,rfl,.inl ⟨by decide,fun hp=>?_⟩⟩
   obtain⟨x,hx,hxp⟩:=List.mem_map.1 hp
   rw[List.take_of_length_le zO]at ht
   exact ht x hx hxp
  | succ k ih=>
   intro i m hi hm ht
   obtain⟨m,rfl⟩:∃q,m=q+1:=⟨m-1,by omega⟩
   have hil:i<ps.length:=zO
   show ∃z:Int,FR ps p (HO ps p m) (i:Int)=some z∧_
   unfold FR
   rw[zt zO,CC,EP,List.getElem?_eq_getElem hil,AA]
   by_cases hc:ps[i].page=p
   rw[zt hc,CC]
   exact⟨(i:Int),rfl,.inr ⟨i,rfl,hil,List.mem_map.2 ⟨_,List.getElem_mem hil,hc⟩⟩⟩
   rw[zf hc,BZ,BN,CR zO zO]
   refine ih (i+1) m zO zO fun x hx=>?_
   rw[List.take_succ_eq_append_getElem hil]at hx
   rcases List.mem_append.1 hx with hx | hx
   exact ht x hx
   rw[List.mem_singleton.1 hx]
   exact hc
 exact key ps.length 0 n zO hn (fun x hx=>by simp at hx)
theorem Yb{o:BF}{d:Ai}{s:C3}{c:A6}{l:List Aj}{ps:List Ak}{G:List (UInt32×UInt32)}{gl:List UInt32}(hn:ps.length<n)(hb:ps.length≤1000000)(hh:s.had=o.pages)(hl:o.pages.length≤1000000)
(hG:∀p,(Bn G p).isSome=true↔p∈ps.map (·.page)):∀(k i m m':Nat) (v:Am) (w:BW) (r:BF×Am),VR N v d w c→i+k=o.pages.length→k<m'→Cy o d l ps G m (v,(i:Int))=some r→
  ∃w',DO n s c l ps gl m' (w,(i:Int))=some ({ s with rows:=l,had:=ps,gens:=gl },w')∧VR N r.2 d w' c∧r.1={ o with rows:=l,pages:=ps,gens:=G }
 | _,_,0,_,_,_,_,_,_,_,h=>by cases h
 | 0,i,m+1,m',v,w,r,V9,hi,hm,h=>by
  obtain⟨m',rfl⟩:∃q,m'=q+1:=⟨m'-1,by omega⟩
  replace h:Cl o d l ps G (Cy o d l ps G m) v (i:Int)=some r:=h
  unfold Cl at h
  rw[zf zO,BZ]at h
  obtain rfl:=zI (show some _=some r from h)
  show ∃w',Dz n s c l ps gl (DO n s c l ps gl m') w (i:Int)=_∧_
  unfold Dz
  rw[hh,zf zO,BZ]
  exact⟨w,rfl,V9,rfl⟩
 | k+1,i,m+1,m',v,w,r,V9,hi,hm,h=>by
  obtain⟨m',rfl⟩:∃q,m'=q+1:=⟨m'-1,by omega⟩
  have hil:i<o.pages.length:=zO
  have n1:BE o.pages (i:Int)=some o.pages[i]:=by rw[EP,List.getElem?_eq_getElem hil]
  replace h:Cl o d l ps G (Cy o d l ps G m) v (i:Int)=some r:=h
  unfold Cl at h
  rw[zt zO,CC,n1,AA,BN,BN]at h
  show ∃w',Dz n s c l ps gl (DO n s c l ps gl m') w (i:Int)=_∧_
  unfold Dz
  obtain⟨z,hz,hz2⟩:=jo (n:=n) (ps:=ps) (p:=o.pages[i].page) hn hb
  rw[hh,zt zO,CC,n1,AA,hz,AA]
  rcases hz2 with⟨hz2,hno⟩ | ⟨j,rfl,hj,hin⟩
  rw[zt hz2,CC,AA]
  have hs:(Bn G o.pages[i].page).isSome=false:=by
   cases hq:(Bn G o.pages[i].page).isSome with
   | false=>rfl
   | true=>exact absurd ((hG _).1 hq) hno
  rw[hs,Bool.not_false,CC]at h
  obtain⟨e,v2,w2,g1,g2,V2⟩:=V9.give o.pages[i].page
  rw[g1,AA]at h
  rw[g2,AA]
  unfold Do at h
  unfold Ep
  rw[CR zO zO,show(i:Int)+1=((i+1:Nat):Int) by omega]at h
  rw[BN,CR zO zO,show(i:Int)+1=((i+1:Nat):Int) by omega]
  exact Yb hn hb hh hl hG k (i+1) m m' v2 w2 r V2 zO zO h
  rw[zf zO,BZ]
  rw[(hG _).2 hin,Bool.not_true,BZ]at h
  unfold Do at h
  unfold Ep
  rw[CR zO zO,show(i:Int)+1=((i+1:Nat):Int) by omega]at h
  rw[BN,CR zO zO,show(i:Int)+1=((i+1:Nat):Int) by omega]
  exact Yb hn hb hh hl hG k (i+1) m m' v w r V9 zO zO h
theorem d9{s:C3}{w:BW}{c:A6}{l:List Aj}{ps:List Ak}(hn:s.had.length<n)(hb:s.had.length≤1000000)(hg:s.gens.length=s.had.length)(hl:ps.length≤1000000):∀(k i m:Nat) (g:List UInt32),i+k=ps.length→k<m→g.length=i→
  ∃gl,gl.length=ps.length∧Dm n s w c l ps m (g,(i:Int))=DO n s c l ps gl n (w,0)
 | _,_,0,_,_,h,_=>absurd h (Nat.not_lt_zero _)
 | 0,i,m+1,g,hi,_,hgl=>by
  show ∃gl,_∧Dy n s w c l ps (Dm n s w c l ps m) g (i:Int)=_
  unfold Dy
  rw[zf zO,BZ]
  exact⟨g,by omega,rfl⟩
 | k+1,i,m+1,g,hi,hm,hgl=>by
  have hil:i<ps.length:=zO
  have n1:BE ps (i:Int)=some ps[i]:=by rw[EP,List.getElem?_eq_getElem hil]
  have hstep:∀x:UInt32,∃gl,gl.length=ps.length∧EN g (i:Int) (Dm n s w c l ps m) x=DO n s c l ps gl n (w,0):=by
   intro x
   unfold EN
   rw[DM zQ zQ,AA,BN,CR zO zO,show(i:Int)+1=((i+1:Nat):Int) by omega]
   exact d9 hn hb hg hl k (i+1) m (g++[x]) zO zO zQ
  show ∃gl,_∧Dy n s w c l ps (Dm n s w c l ps m) g (i:Int)=_
  unfold Dy
  obtain⟨z,hz,hz2⟩:=jo (n:=n) (ps:=s.had) (p:=ps[i].page) hn hb
  rw[zt zO,CC,n1,AA,hz,AA]
  rcases hz2 with⟨hz2,hno⟩ | ⟨j,rfl,hj,hin⟩
  rw[zf (show ¬(0≤z) by omega)]
  show ∃gl,_∧EN g (i:Int) _ w.gen=_
  exact hstep _
  have n2:BE s.had (j:Int)=some s.had[j]:=by rw[EP,List.getElem?_eq_getElem hj]
  have n3:BE s.gens (j:Int)=some (s.gens[j]' zO):=by rw[EP,List.getElem?_eq_getElem zO]
  rw[zt (show(0:Int)≤(j:Int) by omega),n2,AA,AA]
  show ∃gl,_∧cond _ _ _=_
  cases (decide (s.had[j].txt=ps[i].txt)&&(decide (s.had[j].page=ps[i].page)&&(decide (s.had[j].tag=ps[i].tag)&&true)))with
  | true=>
   rw[CC,n3,AA]
   exact hstep _
  | false=>
   rw[BZ]
   exact hstep _
structure XG(N:Nat)(o:BF)(v:Am)(d:Ai)(s:C3)(w:BW)(c:A6):Prop where
 rows:s.rows=o.rows
 had:s.had=o.pages
 glen:s.gens.length=s.had.length
 bad:s.bad=o.bad
 gen:o.gen=v.gen
 vr:VR N v d w c
theorem ow{o o':BF}{v v':Am}{d:Ai}{s:C3}{w:BW}{c:A6}{l:List Aj}{ps:List Ak}(V9:VR N v d w c)(hh:s.had=o.pages)(hg:s.gens.length=s.had.length)(hbd:s.bad=o.bad)(hp:ps.length<n)(hpb:ps.length≤100000)(ho:o.pages.length<n)(hob:o.pages.length≤100000)(hgn:o.gen=v'.gen)
(h:ET n o v d l ps=some (o',v')):∃s' w',F0 n s w c l ps=some (s',w')∧XG N o' v' d s' w' c:=by
 have h':EO n o v d l ps n ([],0)=some (o',v'):=h
 have h1:=gR (o:=o) (d:=d) (l:=l) (ps:=ps) (n:=n) (v:=v) hob o.pages.length 0 n [] zO zO (Nat.zero_le _)
 have h2:=aB (o:=o) (d:=d) (l:=l) (ps:=ps) (n:=n) (v:=v) (was:=PE o.pages []) hpb ps.length 0 n [] zO zO (Nat.zero_le _)
 have h3:=(h1.trans h2).symm.trans h'
 obtain⟨gl,hgl,e1⟩:=d9 (n:=n) (s:=s) (w:=w) (c:=c) (l:=l) (ps:=ps) (by rw[hh];omega) (by rw[hh];omega) hg zO ps.length 0 n [] zO hp rfl
 have hG:∀p,(Bn (MA o (PE o.pages []) (ps.drop 0) []) p).isSome=true↔p∈ps.map (·.page):=fun p=>by
  rw[Uz]
  simp[Bn]
 obtain⟨w',e2,V',eo⟩:=Yb (n:=n) (s:=s) (gl:=gl) hp zO hh zO hG o.pages.length 0 n n v w _ V9 zO ho h3
 refine⟨{ s with rows:=l,had:=ps,gens:=gl },w',?_,⟨?_,?_,?_,?_,?_,V'⟩⟩
 unfold F0
 exact e1.trans e2
 rw[show o'=_ from eo]
 rw[show o'=_ from eo]
 exact hgl
 rw[show o'=_ from eo];exact hbd
 rw[show o'=_ from eo];exact hgn
end

section
theorem T9.le'{N c c':Nat}{d:Ai}(K:T9 N c d)(h:d.pend.length≤c')(h2:c'≤100):T9 N c' d:=⟨K.blen,K.nle,K.on,K.uncut,K.good,h,h2⟩
theorem gd{T:List UInt32}{c0 m:Nat}{R:List BD}{g:UInt32}{k:BD}{c:UInt64}{o:BF}{v:Am}{d:Ai}{l:List Aj}{ps:List Ak}{s:Ak}(V9:VS 60 c0 R g v d)(D:Dv 60 m c d)(hm:m≤QQ)(hc:c.toNat<1000000)(hg:o.gen=g)(h0:0<g)(hk:C6 R g=(k,0))
(hl:l.length≤1000)(hp:ps.length≤1000)(hs:Eo ⟨s.page,s.tag⟩=true):
  ∃d',EA 2200000 T o v d l (ps++[s])=some (0,{ v with seals:=v.seals+1 },d')∧Dv 60 0 (c+1) d'∧T9 60 0 d'∧∀q:UInt32,2≤q.toNat→q.toNat<60→JU d' q=JU d q:=by
 obtain⟨d1,h1,D1,K1,e1⟩:=nW D hm V9.dev
 have hc1:(c+1).toNat=c.toNat+1:=by
  rw[UInt64.toNat_add]
  show(c.toNat+1)%_=_
  omega
 have hu:(De (l.length:Int)).toNat=l.length:=by simp only[De,UInt32.toNat_ofNat'];omega
 have hr:F8 ⟨c+1,g,De (l.length:Int),s.page,s.tag⟩=some true:=by
  unfold F8
  rw[Ms,hs,zt (show 0<c+1 by rw[UInt64.lt_iff_toNat_lt,hc1];exact Nat.succ_pos _),zt h0,zt (show De (l.length:Int)≤1000 by rw[UInt32.le_iff_toNat_le,hu];exact hl)]
  rfl
 have hn:JQ c g (l.length:Int) ⟨s.page,s.tag⟩=some (⟨c+1,g,De (l.length:Int),s.page,s.tag⟩,0):=by
  unfold JQ
  have h0:decide (c+1=0)=false:=zf fun e=>by
   have:=congrArg UInt64.toNat e
   rw[hc1]at this
   cases this
  have h2:(decide ((l.length:Int)<0)||decide (1000<(l.length:Int)))=false:=by simp;omega
  rw[BN,h0,BZ,h2,hr]
  rfl
 obtain⟨t,ht,htl⟩:=lZ ⟨c+1,g,De (l.length:Int),s.page,s.tag⟩ (MG hs).1
 have he:GH 2200000 ⟨c+1,g,De (l.length:Int),s.page,s.tag⟩=some (t,0):=by
  unfold GH
  rw[hr,AA,ht]
  rfl
 have hsl:((c+1) &&& 1).toUInt32.toNat<2:=by
  have:((c+1) &&& 1).toNat<2:=by
   rw[UInt64.toNat_and]
   exact Nat.lt_succ_of_le Nat.and_le_right
  simp only[UInt64.toNat_toUInt32]
  omega
 obtain⟨tag,d2,h2,lt,D2,K2,e2⟩:=vz (T:=T) D1 K1 (by rw[V9.ring];exact V9.rlen) (by rw[V9.ring,V9.gen];exact hk) (show t.length≤198 by omega) ((c+1) &&& 1).toUInt32 hsl zO
 obtain⟨d3,h3,D3,K3,e3⟩:=vX D2 K2
 obtain⟨d4,h4,D4,K4,e4⟩:=oL D3 K3 lt (by rintro rfl;exact absurd hc zD)
 refine⟨d4,?_,D4,K4,fun q hq hq2=>?_⟩
 unfold EA E1 Mn
 rw[h1,AA]
 simp only[decide_true,Bool.not_true,BZ,AA]
 have hlast:BE (ps++[s]) (wI (((ps++[s]).length:Int)-1))=some s:=by
  rw[List.length_append,List.length_singleton,CR zO zO,show((ps.length+1:Nat):Int)-1=(ps.length:Int) by omega,EP,List.getElem?_append_right (Nat.le_refl _)]
  simp
 rw[hlast,AA,D1.rc,hg,hn,AA]
 simp only[decide_true,Bool.not_true,BZ]
 rw[he,AA,BN,AA,h2,AA]
 simp only[decide_true,Bool.not_true,BZ]
 rw[h3,AA]
 simp only[decide_true,Bool.not_true,BZ]
 rw[h4,AA]
 rw[e4,e3 q hq2,e2 q hq,e1 q hq2]
structure UU(T:List UInt32)(R:List BD)(g:UInt32)(c:UInt64)(o:BF)(v:Am)(d:Ai):Prop where
 vs:VS 60 v.taken.length R g v d
 tk:UW 60 v
 dv:Dv 60 0 c d
 gen:o.gen=g
 few:o.pages.length≤24
 rd:∀s∈o.pages,Rd T R 60 v d s
 own:∀e∈v.taken,e.1∈o.pages.map (·.page)
 bad:o.bad=false
theorem UU.len{T:List UInt32}{R:List BD}{g:UInt32}{c:UInt64}{o:BF}{v:Am}{d:Ai}(S:UU T R g c o v d):v.taken.length≤o.pages.length:=by
 have:=Nu S.tk.nd (l':=o.pages.map (·.page)) fun x hx=>by
  obtain⟨e,he,rfl⟩:=List.mem_map.1 hx
  exact S.own e he
 simpa using this
theorem eH{T:List UInt32}{th:List (KN×BR)}{wth:List Ak}(hth:∀(k:KN) r,Bn th k=some r→(⟨k.1,r.page,r.tag⟩:Ak)∈wth):∀(seg:List Ak) (q q':PM),W6 (M5 T th) q seg q'→(∀p∈q.tk,p∈q'.tk)∧∀s∈seg,s∈wth∨s.page∈q'.tk
 | [],q,q',h=>by rw[←show q=q' from h];exact⟨fun _ h=>h,fun _ h=>(by cases h)⟩
 | s::seg,q,q',h=>by
  obtain⟨q1,h1,h2⟩:=h
  obtain⟨a1,a2⟩:=eH hth seg q1 q' h2
  have D1:(∀p∈q.tk,p∈q1.tk)∧(s∈wth∨s.page∈q1.tk):=by
   unfold M5 at h1
   obtain⟨k,hk,h1⟩:=bnd h1
   have hks:k.1=s.txt:=by
    unfold Xx at hk
    split at hk
    obtain rfl:=zI hk
    rfl
    cases hk
   cases hm:Bn th k with
   | some r=>
    rw[hm,show(some r:Option BR).isSome=true from rfl,CC]at h1
    have h5:=zI h1
    have h6:r=⟨s.page,s.tag⟩:=congrArg (fun x=>x.1.1) h5
    have h7:q=q1:=congrArg Prod.snd h5
    subst h7
    have h8:=hth k r hm
    rw[h6,hks]at h8
    exact⟨fun _ h=>h,.inl h8⟩
   | none=>
    rw[hm,show(none:Option BR).isSome=false from rfl,BZ]at h1
    obtain⟨y,hy,h1⟩:=bnd h1
    cases he:decide (y.2.1=0)with
    | true=>
     rw[he,CC]at h1
     obtain⟨l,hl,h1⟩:=bnd h1
     have h5:=zI h1
     rw[←show(⟨l,y.2.2.1,y.2.2.2⟩:PM)=q1 from congrArg Prod.snd h5]
     have h6:y.1=⟨s.page,s.tag⟩:=congrArg (fun x=>x.1.1) h5
     unfold C8 at hl
     split at hl
     obtain rfl:=zI hl
     exact⟨fun p hp=>List.mem_append_left _ hp,.inr (List.mem_append_right _ (by rw[h6];exact List.mem_singleton.2 rfl))⟩
     cases hl
    | false=>
     rw[he,BZ]at h1
     have h5:=zI h1
     have h6:y.2.1=0:=congrArg (fun x=>x.1.2) h5
     rw[h6]at he
     cases he
  exact⟨fun p hp=>a1 p (D1.1 p hp),fun x hx=>by
   rcases List.mem_cons.1 hx with rfl | hx
   exact D1.2.imp id (a1 _)
   exact a2 x hx⟩
theorem Uo{T:List UInt32}{R:List BD}{g:UInt32}{k:BD}{c:UInt64}{o:BF}{v:Am}{d:Ai}{l:List Aj}{wth:List Ak}(S:UU T R g c o v d)(hc:c.toNat<1000000)(h0:0<g)(hk:C6 R g=(k,0))(hl:Ow l.length≤QQ)(hl3:Ow l.length≤24)(hl2:l.length≤1000)
(hr:Du l=true)(hw:∀s∈wth,Rd T R 60 v d s)(hwl:wth.length≤1000):
  ∃o' v' d',DR 2200000 T o v d l wth=some (0,o',v',d')∧o'.rows=l∧o'.ring=o.ring∧UU T R g (c+1) o' v' d'∧o'.gens=MA o (PE o.pages []) o'.pages []∧(∀s∈o'.pages,s∈wth∨s.page∉o.pages.map (·.page))∧v'.boot=v.boot∧o'.pages.length≤Ow l.length:=by
 have htl:=S.len
 have hfew:=S.few
 obtain⟨t,th,hb,hT,hth,h⟩:=eV (T:=T) (n:=2200000) (N:=60) (l:=l) (had:=wth) zO zO S.vs S.tk hk hr hw zO zO
 have hpg:=ZM hT
 rcases h with⟨r,out,q,hsv,hR,hrf,SI,hrd,hlen,hp,-⟩ | ⟨v',d',c',hsv,hlt,-,-⟩
 obtain⟨a,s,hs⟩:=hR.lastE
 obtain⟨D1,ltk⟩:=jm out 0 _ _ hp S.dv
 have hal:a.length≤1000:=by
  have:=congrArg List.length hs
  rw[List.length_append,List.length_singleton]at this
  omega
 obtain⟨d2,hpub,D2,K2,e2⟩:=gd (T:=T) (o:=o) (l:=l) (ps:=a) (s:=⟨s,r.page,r.tag⟩) SI.vs D1 (Nat.le_trans zO hl) hc S.gen h0 hk hl2 hal hrf
 rw[←hs]at hpub
 have hmv:=lG (o:=o) (d:=d2) (l:=l) (ps:=out) (n:=2200000) (v:={ q.v with seals:=q.v.seals+1 }) D2.bl (fun x hx=>⟨(S.rd x hx).1,(S.rd x hx).2.1⟩) zO zO zO (fun x hx=>(SI.ok.tr x hx).1)
 generalize hG:MA o (PE o.pages []) out []=G at hmv
 have hGs:∀p,(Bn G p).isSome=true↔p∈out.map (·.page):=fun p=>by
  rw[←hG,Uz]
  simp[Bn]
 obtain⟨hsub,hgm⟩:=Wk G o.pages q.v.taken
 have hnd:((Nt G o.pages q.v.taken).map (·.1)).Nodup:=SI.ok.nd.sublist (hsub.map _)
 have hown:∀e∈Nt G o.pages q.v.taken,e.1∈out.map (·.page):=fun e he=>by
  have h1:=hsub.subset he
  have h2:=(hgm e h1).1 he
  rw[SI.tak]at h1
  rcases List.mem_append.1 h1 with h3 | h3
  obtain⟨p,hp',rfl⟩:=List.mem_map.1 (List.mem_reverse.1 h3)
  rcases jn out _ _ hp p hp' with h4 | h4
  cases h4
  exact h4
  obtain⟨x,hx,hxe⟩:=List.mem_map.1 (S.own e h3)
  have h5:=h2 x hx hxe
  rw[hxe]at h5
  exact(hGs _).1 h5
 have hlen3:(Nt G o.pages q.v.taken).length≤out.length:=by
  have:=Nu hnd (l':=out.map (·.page)) fun x hx=>by
   obtain⟨e,he,rfl⟩:=List.mem_map.1 hx
   exact hown e he
  simpa using this
 have hp2:d2.pend.length≤0:=D2.pl
 refine⟨{ o with rows:=l,pages:=out,gens:=G },{ q.v with seals:=q.v.seals+1,taken:=Nt G o.pages q.v.taken },d2,?_,rfl,rfl,⟨⟨K2.le' zO (by show(Nt G o.pages q.v.taken).length≤100;omega),SI.vs.ring,SI.vs.rlen,SI.vs.gen,SI.vs.boot,Nat.le_refl _⟩,⟨hnd,fun e he=>SI.ok.tr e (hsub.subset he)⟩,D2,S.gen,by show out.length≤24;omega,fun x hx=>?_,hown,S.bad⟩,hG.symm,fun x hx=>?_,SI.vs.boot.trans S.vs.boot.symm,by show out.length≤_;omega⟩
 unfold DR
 rw[hsv,AA,BN]
 show cond (decide ((0:Int)=110)) _ _=_
 rw[show decide ((0:Int)=110)=false from rfl,BZ,BN]
 show cond (decide ((0:Int)=0)) _ _=_
 rw[show decide ((0:Int)=0)=true from rfl,CC,hpub,AA]
 unfold ED
 show cond (!decide ((0:Int)=0)) _ _=_
 rw[show(!decide ((0:Int)=0))=false from rfl,BZ,hmv,AA]
 obtain⟨h1,h2,h3,g',qn,b,hh,hb⟩:=hrd x hx
 refine⟨h1,h2,?_,g',qn,b,⟨hh.key,hh.txt,by rw[e2 _ h1 h2];exact hh.is⟩,hb⟩
 rw[SI.ok.iff]at h3
 obtain⟨e,he,hex⟩:=List.mem_map.1 h3
 have h4:e∈Nt G o.pages q.v.taken:=(hgm e he).2 fun y _ hye=>by
  rw[hye,hGs,hex]
  exact List.mem_map_of_mem hx
 have h5:UW 60 ({ q.v with seals:=q.v.seals+1,taken:=Nt G o.pages q.v.taken }:Am):=⟨hnd,fun e he=>SI.ok.tr e (hsub.subset he)⟩
 rw[h5.iff]
 exact List.mem_map.2 ⟨e,h4,hex⟩
 have h1:=(eH (T:=T) (th:=th) (wth:=wth) (fun k r hr=>by
  rw[hth]at hr
  obtain⟨y,hy,rfl⟩:=Option.map_eq_some_iff.1 hr
  have h5:=List.find?_some hy
  simp only[decide_eq_true_eq]at h5
  rw[←h5]
  exact List.mem_of_find?_eq_some hy) out _ _ hp).2 x hx
 refine h1.imp id fun h1 hxo=>?_
 obtain⟨y,hy,hye⟩:=List.mem_map.1 hxo
 have h2:=(S.rd y hy).2.2.1
 rw[hye]at h2
 exact(SI.notin S.tk h2).1 h1
 exfalso
 omega
end

section
variable {N n:Nat}{T:List UInt32}
theorem ZB{o o':BF}{v v':Am}{d d':Ai}{s:C3}{w:BW}{c:A6}{l:List Aj}{wth:List Ak}(S:XG N o v d s w c)(hT:T.length=64)(hn:2097152<n)(hl:l.length≤1048576)(hw:wth.length≤1048576)(hwt:∀x∈wth,x.txt.length≤1048576)
(hps:∀ps v1 d1,Pe n T v d l wth=some (ps,0,v1,d1)→ps.length≤1000∧v1.gen=v.gen)(hob:o.pages.length≤1000)(hgn:v'.gen=v.gen)
(h:DR n T o v d l wth=some (0,o',v',d')):∃s' w' c',Fd n T s w c l wth=some (0,s',w',c')∧XG N o' v' d' s' w' c':=by
 unfold DR at h
 obtain⟨⟨ps,e,v1,d1⟩,h1,h⟩:=bnd h
 obtain⟨w1,c1,g1,V1⟩:=pJ hT hn S.vr hl hw hwt h1
 dsimp only at h g1 V1
 have hj:∀ {a:Int} {v2:Am} {d2:Ai},ED n o l (ps,e,v1,d1) d2 v2 a=some (0,o',v',d')→a=0∧ET n o v2 d2 l ps=some (o',v')∧d2=d':=by
  intro a v2 d2 h
  unfold ED at h
  cases ha:decide (a=0)with
  | false=>
   rw[ha,Bool.not_false,CC]at h
   have h5:a=0:=congrArg Prod.fst (zI h)
   rw[h5]at ha
   cases ha
  | true=>
   rw[ha,Bool.not_true,BZ]at h
   refine AF h fun y hy h=>?_
   have h5:=zI h
   simp only[Prod.mk.injEq]at h5
   obtain⟨-,rfl,rfl,rfl⟩:=h5
   exact⟨of_decide_eq_true ha,hy,rfl⟩
 rw[BN,BN]at h
 by_cases h110:e=110
 subst h110
 have h5:=congrArg Prod.fst (zI h)
 exact absurd (show(110:Int)=0 from h5) zD
 rw[zf h110,BZ]at h
 by_cases h0:e=0
 subst h0
 obtain⟨hpl,hg1⟩:=hps _ _ _ h1
 rw[zt rfl,CC]at h
 obtain⟨⟨e2,v2,d2⟩,h2,h⟩:=bnd h
 obtain⟨rfl,h3,rfl⟩:=hj h
 obtain⟨w2,c2,g2,V2⟩:=vj (s:=s) V1 hT hn (S.gen.trans hg1.symm) h2
 obtain⟨s',w',g3,S'⟩:=ow (n:=n) V2 S.had S.glen S.bad zO zO zO zO (S.gen.trans hgn.symm) h3
 refine⟨s',w',c2,?_,S'⟩
 unfold Fd
 rw[g1,AA]
 dsimp only
 rw[zt rfl,CC,g2,AA]
 unfold Fk
 dsimp only
 rw[zt rfl,Bool.not_true,BZ,g3,AA]
 rw[zf h0,BZ]at h
 exact absurd (hj h).1 h0
theorem vq:∃w c,Dj (r0 60)=some (1,0,c)∧c.rcnt=0∧Ok 2200000 c (DI 1) 1 1=some (some w,0)∧VR 60 v0 { d0 60 with counts:=1,rboots:=1 } w c:=by
 obtain⟨e,d',c,h1,h2,R⟩:=(za (N:=60) zO).start
 have hst:H3 (d0 60)=some (1,0,{ d0 60 with counts:=1,rboots:=1 }):=rfl
 have h1':=(show H3 (d0 60)=_ from h1).symm.trans hst
 have h5:=zI h1'
 simp only[Prod.mk.injEq]at h5
 obtain⟨e1,e2,rfl⟩:=h5
 refine⟨{ ring:=DI 1,gen:=1,boot:=1,num:=0,taken:=((List.replicate 60 false).set 0 true).set 1 true },c,?_,?_,?_,?_⟩
 rw[show Dj (r0 60)=_ from h2,e1,e2]
 rw[R.cnt]
 rfl
 have hb:c.blk.length=60:=R.rlen
 unfold Ok
 rw[nV (DI 1) 1 (by rw[DA];omega) zO,YX zO zO,AA,hb]
 rfl
 refine⟨R,rfl,by show(DI 1).length≤_;rw[DA];omega,rfl,rfl,rfl,rfl,by omega,fun i hi=>?_,fun p hp hp2=>?_,List.nodup_nil,fun q hq=>by simp[v0]at hq⟩
 have:i=0∨i=1:=zO
 rcases this with rfl | rfl<;>rfl
 show(((List.replicate 60 false).set 0 true).set 1 true).getD p.toNat false=false
 rw[PX zS,if_neg zO,PX zS,if_neg zO,List.getD_eq_getElem?_getD,List.getElem?_replicate]
 simp[hp2]
theorem eU{R:List BD}{g:UInt32}{k:BD}{c:UInt64}{o:BF}{v:Am}{d:Ai}{l:List Aj}{wth:List Ak}(S:UU T R g c o v d)(hk:C6 R g=(k,0))(hl2:l.length≤1000)(hl3:Ow l.length≤24)(hr:Du l=true)(hw:∀s∈wth,Rd T R 60 v d s)(hwl:wth.length≤1000):
  ∀ps v1 d1,Pe 2200000 T v d l wth=some (ps,0,v1,d1)→ps.length≤1000∧v1.gen=v.gen:=by
 intro ps v1 d1 h1
 have htl:=S.len
 have hfew:=S.few
 obtain⟨t,th,hb,hT,hth,h⟩:=eV (T:=T) (n:=2200000) (N:=60) (l:=l) (had:=wth) zO zO S.vs S.tk hk hr hw zO zO
 have hpg:=ZM hT
 rcases h with⟨r,out,q,hsv,hR,hrf,SI,hrd,hlen,hp,-⟩ | ⟨v',d',c',hsv,hlt,-,-⟩
 have h5:=zI (hsv.symm.trans h1)
 simp only[Prod.mk.injEq]at h5
 obtain⟨rfl,-,rfl,rfl⟩:=h5
 exact⟨by omega,by rw[SI.vs.gen,S.vs.gen]⟩
 have h5:=zI (hsv.symm.trans h1)
 simp only[Prod.mk.injEq]at h5
 exact absurd h5.2.1 zD
theorem vu{R:List BD}{v:Am}{d:Ai}{s:Ak}(h:Rd T R N v d s):s.txt.length≤198:=by
 obtain⟨_,_,_,_,_,_,hh,_⟩:=h
 exact hh.txt
end

section
def WO(o:BF)(g:UInt32):Prop:=∀s∈o.pages,Bn o.gens s.page=some g
theorem eg:∀(r:List Ak) (w:List (UInt32×Ak)) (p:UInt32) (s:Ak),Bn (PE r w) p=some s→s∈r∨Bn w p=some s
 | [],w,p,s,h=>.inr h
 | x::r,w,p,s,h=>by
  rw[PE]at h
  rcases eg r _ p s h with h1 | h1
  exact .inl (List.mem_cons_of_mem _ h1)
  rw[I5]at h1
  split at h1
  obtain rfl:=zI h1
  exact .inl (List.mem_cons_self ..)
  exact .inr h1
theorem dm{o:BF}{was:List (UInt32×Ak)}{g:UInt32}:∀(r:List Ak) (gm:List (UInt32×UInt32)),(∀s∈r,(if Bn was s.page=some s∨(Bn was s.page=none∧s=⟨[],0,[]⟩)then(Bn o.gens s.page).getD 0 else o.gen)=g)→∀p,p∈r.map (·.page)∨Bn gm p=some g→Bn (MA o was r gm) p=some g
 | [],gm,_,p,hp=>by
  rcases hp with hp | hp
  cases hp
  exact hp
 | s::r,gm,h,p,hp=>by
  unfold MA
  rw[h s (List.mem_cons_self ..)]
  refine dm r _ (fun x hx=>h x (List.mem_cons_of_mem _ hx)) p ?_
  by_cases e:s.page=p
  exact .inr (by rw[I5,if_pos e])
  rcases hp with hp | hp
  rcases List.mem_cons.1 hp with hp | hp
  exact absurd hp.symm e
  exact .inl hp
  exact .inr (by rw[I5,if_neg e];exact hp)
theorem WO.change{o o':BF}{g:UInt32}(h:WO o g)(hg:o.gen=g)(hgens:o'.gens=MA o (PE o.pages []) o'.pages [])(hp:∀s∈o'.pages,2≤s.page.toNat):WO o' g:=by
 intro s hs
 rw[hgens]
 refine dm o'.pages [] (fun x hx=>?_) s.page (.inl (List.mem_map_of_mem hs))
 split
 rename_i hc
 rcases hc with hc | ⟨-,hc⟩
 rcases eg o.pages [] _ _ hc with h1 | h1
 rw[h x h1]
 rfl
 cases h1
 have:=hp x hx
 rw[hc]at this
 exact absurd this zD
 exact hg
end

section
def O1:BF:={ rows:=[],pages:=[],gens:=[],ring:=DI 1,gen:=1,bad:=false }
def D1:Ai:={ d0 60 with counts:=1,rboots:=1 }
theorem dR{T:List UInt32}:UU T (DI 1) 1 0 O1 v0 D1:=
 ⟨⟨⟨List.length_replicate ..,by omega,rfl,rfl,rfl,Nat.le_refl _,Nat.zero_le _⟩,rfl,by rw[DA];omega,rfl,rfl,Nat.le_refl 0⟩,⟨List.nodup_nil,fun e he=>by simp[v0]at he⟩,⟨List.length_replicate ..,Nat.le_refl _,fun _ h=>(by cases h),rfl⟩,rfl,Nat.zero_le _,fun s hs=>(by cases hs),fun e he=>by simp[v0]at he,rfl⟩
theorem gL{T:List UInt32}:∃o v d,I3 2200000 T (d0 60) (DI 1)=some (some (o,v),0,d)∧DR 2200000 T O1 v0 D1 [] []=some (0,o,v,d)∧UU T (DI 1) 1 1 o v d∧o.rows=[]∧o.ring=DI 1∧WO o 1:=by
 have hr1:Dt (DI 1)=true:=Mt 1 zO
 have hn:Cf (DI 1)=some (1,0):=by
  unfold Cf NV
  rw[if_pos (by rw[DA];omega),AA,hr1]
  rfl
 have hst:H3 (d0 60)=some (1,0,D1):=rfl
 have hv:Oo D1 (DI 1) 1 1=some (some v0,0):=by
  unfold Oo R7
  rw[if_pos (by rw[DA];omega),AA,YX zO zO,DM (by simp[DA]) (by simp[DA]),AA]
  rfl
 have hb:L5 (d0 60) (DI 1)=some (some (O1,v0),0,D1):=by
  unfold L5 P6
  rw[hn,AA]
  simp only[decide_true,Bool.not_true,BZ]
  rw[hst,AA]
  simp only[decide_true,Bool.not_true,BZ]
  rw[hv,AA,AA,DM (by simp[DA]) (by simp[DA]),AA]
  rfl
 obtain⟨o',v',d',hch,hrw,hrg,hS,hgn,-⟩:=Uo (T:=T) (l:=[]) (wth:=[]) (o:=O1) (v:=v0) (d:=D1) dR zD zD (YX (m:=1) zO zO) zD zD (Nat.zero_le _) (by decide +kernel) (fun s hs=>(by cases hs)) (Nat.zero_le _)
 refine⟨o',v',d',?_,hch,hS,hrw,hrg,WO.change (o:=O1) (fun s hs=>(by cases hs)) rfl hgn fun s hs=>(hS.rd s hs).1⟩
 have hL:GU (d0 60)=some false:=rfl
 have hch':DR 2200000 T O1 v0 D1 [] []=some (0,o',v',d'):=hch
 unfold I3
 rw[hn,AA,hL,show GA (decide ((((1:UInt32),(0:Int)):UInt32×Int).2=0)) ((some false).bind fun y2=>some y2)=some false from rfl,AA,BZ,hb,AA,AA]
 simp only[decide_true,CC]
 rw[hch',AA]
 rfl
end

section
variable {K:Nat→Prop}{w0:World}{H:List AX}
def U8(l:List BD)(g:UInt32):Option (Int×Bool):=if l.length≤1099511627776 then some ((Ln g l:Int),Qm g l)else none
theorem pT{v:Value}{l:List BD}{g:UInt32}{r:Int×Bool}(h:U8 l g=some r)(hk:By K w0 AU 2 v l):zC K w0 100 [v,AB g] [] H (fun u M=>u=.tuple #[vI r.1,vB r.2]∧M=[]):=by
 unfold U8 at h
 split at h
 rename_i hn
 obtain rfl:=zI h
 exact Vx v l g hk hn
 cases h
end

section
variable {P:Program}{ro:Option Nat}{K:Nat→Prop}{w0:World}{N:Nat}{Q:Dg}{D:List Nat}{l l':Tm}{H H' Hs L:List AX}{ops:Array Oper}{items:I6}
def e7(P:Program)(K:Nat→Prop)(w0:World)(f:FuncId)(cap:List Value)(Hit F:List AX){α:Type}(enc:α→List Value)(xs:List α):Prop:=
 Zs P K w0 f cap Hit enc (fun _:List α=>F) (fun pre x pre'=>pre'=pre++[x]∧∃suf,xs=pre++x::suf) (fun pre=>pre=xs) (fun _=>True) []
theorem S6{α:Type}{g:Operand}{ps:Array Tmp}{assign body:Code}{f:FuncId}{cap:List Value}{Hit:List AX}{enc:α→List Value}(xs:List α)(F:List AX){G0:List AX}
(J9:List α→List AX→Prop)(X:Code→List AX→Prop)
(hg:Bo l g=some (.func (.func f) #[] cap.toArray))(hf:AP P f=true)(hps:ps.toList.all (fun p=>Nat.blt p N)=true)(hlen:∀x,(enc x).length=ps.size)
(hseq:e7 P K w0 f cap Hit F enc xs)(hH:H=Hit++(F++G0))(h0:J9 [] G0)
(hbody:∀pre x suf G,xs=pre++x::suf→J9 pre G→∀r lp Rest,SX P (some lp) K w0 N assign (bgn P lp body (jy K w0 (fun(_:List α) Gx=>∃G2,Gx=F++G2∧J9 (pre++[x]) G2) X [] x (Tl r lp Rest .busy))) [] (SH ps.toList (enc x) l) ((F++G)++Tl r lp Rest .ready))
(hdone:∀G D,J9 xs G→SQ K w0 N Q .normal D l (F++G))
(hstop:∀c G D,X c G→SX P none K w0 N c Q D l G):SX P none K w0 N (.rangeFunc g ps assign body) Q D l H:=by
 refine S7 (C:=fun _:List α=>F) [] J9 X hg hf hps hlen hseq hH h0 (fun _ _ _=>trivial) ?_ ?_ hstop
 rintro pre x _ G ⟨rfl,suf,hs⟩ hJ r lp Rest
 exact hbody pre x suf G hs hJ r lp Rest
 rintro s G D rfl hJ
 exact hdone G D hJ
end

section
variable {K:Nat→Prop}{w0:World}{H:List AX}
structure aN where
 rows:Int
 pages:Int
 free:Int
 count:UInt64
 gen:UInt32
 old:Int
def jG(s:aN):List Value:=[vI s.rows,vI s.pages,vI s.free,Be s.count,AB s.gen,vI s.old]
def XY(p:Int×Ak):List Value:=[vI p.1,.agg (AS p.2).toArray]
def KF(o:BF)(g:UInt32)(s:Ak):Bool:=decide ((Bn o.gens s.page).getD 0<g)
def Nw(o:BF)(g:UInt32):Nat→List Ak→List (Int×Ak)
 | _,[]=>[]
 | i,s::r=>if KF o g s then((i:Int),s)::Nw o g (i+1) r else Nw o g (i+1) r
def Rm(o:BF)(g:UInt32):Option (List (Int×Ak)):=if o.pages.length≤1048576 then some (Nw o g 0 o.pages)else none
def Tb(_:BF)(_:Am)(_:Ai)(_:UInt32):Option Unit:=some ()
theorem cj{b:Nat}{o:BF}{v:Am}{d:Ai}{g:UInt32}{r:Unit}(_:Tb o v d g=some r):zC K w0 65 [vP b 0,AB g] [] H (fun u M=>∃bx bg:Nat,u=.func (.func 96) #[] #[vP bx 0,vP bg 0]∧M=[own bx (.cells #[vP b 0] 184),own bg (.cells #[AB g] 36)]):=by
 refine WN.enter Tryz.func65 rfl rfl ?_
 refine Y ?_
 refine Bg E E zU fun b0=>?_
 refine Bg E E zU fun b1=>?_
 refine U E (V (Y ?_))
 refine HK (fv:=#[]) (cv:=#[_,_]) E E E ?_
 refine U E (V (AK ?_))
 exact BH [1,0] 2 (Cx E E) E E ⟨_,_,E,E⟩
abbrev wN(b:Nat)(c0 c1 c2 c3 c4 c5 c6 c7:Value)(o:BF):List AX:=[own b (.cells #[c0,c1,c2,c3,c4,c5,c6,c7] 95),AD 148 3 c1 AS o.pages,Cb c2 AB AB o.gens]
theorem r5(b bx bg:Nat)(c0 c1 c2 c3 c4 c5 c6 c7:Value)(o:BF)(g:UInt32)(hl:o.pages.length≤1048576):
  e7 Tryz.prog K w0 96 [vP bx 0,vP bg 0] [own bx (.cells #[vP b 0] 184),own bg (.cells #[AB g] 36)] (wN b c0 c1 c2 c3 c4 c5 c6 c7 o) XY (Nw o g 0 o.pages):=by
 intro lp J9 X T rc G0 hy _ h0
 refine WN.enter Tryz.func96 rfl rfl ?_
 show SX _ _ _ _ _ _ _ _ _ (own bx (.cells #[vP b 0] 184)::own bg (.cells #[AB g] 36)::own b (.cells #[c0,c1,c2,c3,c4,c5,c6,c7] 95)::AD 148 3 c1 AS o.pages::Cb c2 AB AB o.gens::((rc::G0)++T))
 refine Y (AG 0 sH E (AT E E (AE E Rk (AG 2 K7 E (DL 3 E FH E E (J E (V (AN ?_))))))))
 refine SX.mono (BK (α:=Nat×List (Int×Ak)×List AX) (fun x=>J9 x.2.1 x.2.2∧x.2.1++Nw o g x.1 (o.pages.drop x.1)=Nw o g 0 o.pages) (fun x=>[(0,vY lp),(1,vP bx 0),(2,vP bg 0),(9,c1),(10,vI (o.pages.length:Int)),(11,vI x.1)])
  (fun x=>own bx (.cells #[vP b 0] 184)::own bg (.cells #[AB g] 36)::own b (.cells #[c0,c1,c2,c3,c4,c5,c6,c7] 95)::AD 148 3 c1 AS o.pages::Cb c2 AB AB o.gens::(x.2.2++T)) (fun x=>o.pages.length-x.1) (fun x D hp=>?_) (0,[],rc::G0) ⟨h0,rfl⟩) tL
 obtain⟨i,pre,G⟩:=x
 obtain⟨hJ,hpre⟩:=hp
 dsimp only at hJ hpre ⊢
 refine Y (Z E A9 (V (AH ?_)))
 refine A7 E (fun hc1=>?_) (fun hc1=>?_)
 have hlt:i<o.pages.length:=by
  have:=of_decide_eq_true hc1
  omega
 clear hc1
 obtain⟨s,hs⟩:∃s,o.pages[i]? = some s:=⟨_,List.getElem?_eq_getElem hlt⟩
 have hn:BE o.pages (i:Int)=some s:=by rw[EP];exact hs
 have hd:o.pages.drop i=s::o.pages.drop (i+1):=by
  rw[List.drop_eq_getElem_cons hlt]
  rw[List.getElem?_eq_getElem hlt]at hs
  rw[zI hs]
 rw[hd,Nw]at hpre
 refine AI (AJ (AH (AN (Y (J E ?_)))))
 refine B6 3 hn E FH Ea E E E fun gx m cp hv=>?_
 refine Aw (AS s) E Lr E E (H2 (sz:=3) (enc:=AS) 3 zV E hv hn) ?_
 refine Au E In zU fun b0=>?_
 refine U E (A3 0 E E E E Ea E E E zT (V (AH (Ax Cz [0,1,2,3,5] (Bs (G4 0 14) (.last 14 (Pl.of [(false,15),(false,16)]))) zK (AG 1 sH E (AT E E (AE E Z7 (AG 3 nr E (AE E EU ?_)))))))))
 refine AE E Ds (AG 0 A4 E ?_)
 refine XB (zv:=0) 4 (Ja CD) E WL H5 E E E ?_
 refine AG 2 A4 E (Z E N4 (J E ?_))
 refine Qo 26 E (fun e=>?_) (fun e=>?_)
 have ho:KF o g s=true:=e
 rw[if_pos ho]at hpre
 refine J E (J E (Aw (AS s) E Lr E E (Ap 0 E) (BU ?_)))
 refine I8 (M2:=[_,_,_]) (G:=own b (.cells #[c0,c1,c2,c3,c4,c5,c6,c7] 95)::AD 148 3 c1 AS o.pages::Cb c2 AB AB o.gens::G) (T:=T) (vs:=[_,_]) (ok:=fun G1=>∃G2,G1=own b (.cells #[c0,c1,c2,c3,c4,c5,c6,c7] 95)::AD 148 3 c1 AS o.pages::Cb c2 AB AB o.gens::G2∧J9 (pre++[((i:Int),s)]) G2) (no:=X) E E ⟨E,E,zT⟩ E ?_ (fun bb G1 hG1=>⟨zT,?_⟩)
 intro M
 exact hy pre ((i:Int),s) (pre++[((i:Int),s)]) ⟨rfl,_,hpre.symm⟩ G hJ M
 refine CF E E (Ag E E E (V ?_))
 refine A7 E (fun hc3=>?_) (fun hc3=>?_)
 obtain rfl:bb=false:=by simpa using hc3
 refine AK (BI (Aa (EX (BI ?_))))
 exact An (Ed E) (Ao (M:=G1) (.inr hG1) fun _ h=>h.skip [_,_,_])
 obtain rfl:bb=true:=by simpa using hc3
 obtain⟨G2,rfl,hJ2⟩:=hG1
 refine AI (Av (AJ (AM (Z E (Bh zO zO) (J E (AZ ?_))))))
 exact A1 (i+1,pre++[((i:Int),s)],G2) ⟨hJ2,by dsimp only;rw[←hpre,List.append_assoc];rfl⟩ (by dsimp only;omega) tL (fun _ h=>h.skip [_])
 have ho:KF o g s=false:=e
 rw[if_neg (by rw[ho];decide)]at hpre
 refine AC E (AC E (AC E (BU (AC E (AC E (Ag E E E (V (C1 E (AI (Av (AJ (AM (Z E (Bh zO zO) ?_)))))))))))))
 refine J E (AZ ?_)
 exact A1 (i+1,pre,G) ⟨hJ,hpre⟩ (by dsimp only;omega) tL (fun _ h=>h.skip [_])
 have hge:o.pages.length≤i:=by simpa using hc1
 refine A5 (BC (Bb (BB ?_)))
 rw[List.drop_eq_nil_of_le hge,Nw,List.append_nil]at hpre
 exact Da (Ed E) (Ao (M:=own b (.cells #[c0,c1,c2,c3,c4,c5,c6,c7] 95)::AD 148 3 c1 AS o.pages::Cb c2 AB AB o.gens::G) (.inl ⟨pre,G,hpre,E,hJ⟩) fun _ h=>h.skip [_,_])
theorem Yi{b bx bg:Nat}{c0 c1 c2 c3 c4 c5 c6 c7:Value}{o:BF}{g:UInt32}{xs:List (Int×Ak)}(h:Rm o g=some xs):
  e7 Tryz.prog K w0 96 [vP bx 0,vP bg 0] [own bx (.cells #[vP b 0] 184),own bg (.cells #[AB g] 36)] (wN b c0 c1 c2 c3 c4 c5 c6 c7 o) XY xs:=by
 unfold Rm at h
 split at h
 rename_i hl
 obtain rfl:=zI h
 exact r5 b bx bg c0 c1 c2 c3 c4 c5 c6 c7 o g hl
 cases h
end

section
variable {K:Nat→Prop}{w0:World}{H:List AX}
def LP(y2:Int):Option Int:=
 some y2
def LQ(y4:Int):Option Int:=
 LP y4
def KC(nx_f_store_Store_old_r1:Int→Option Int)(e1:Int×Ak)(y4:Int):Option Int:=
 nx_f_store_Store_old_r1 (wI (y4+1))
def Gf:List (Int×Ak)→Int→Option Int:=Rn (fun nx e x=>KC  nx e x) (fun x=>LQ x)
def Fw(p0:BF)(p0_1:Am)(p0_2:Ai):Option Int:=
 (Cf p0.ring).bind fun y1=>
 (Tb p0 p0_1 p0_2 y1.1).bind fun y3=>
 (Rm p0 y1.1).bind fun xs1=>
 Gf xs1 0
theorem Np{Az BL Ar Ab Ad Ae:Nat}{As AW Al BA A0 Af:Value}{p0:BF}{p0_1:Am}{p0_2:Ai}{r:Int}(h:Fw p0 p0_1 p0_2=some r): zC K w0 40 [vP Az 0] [sO Az As AW Al Ab BL BA p0,AD 43 4 As AV p0.rows,AD 148 3 AW AS p0.pages,Cb Al AB AB p0.gens,AD 55 2 BA AU p0.ring,vO BL Ab A0 Ar p0_1,AD 55 2 A0 AU p0_1.ring,AY Ar AB vB p0_1.taken,dO Ab Af Ad Ae p0_2,AD 9 1 Af eS p0_2.blocks,AY Ad AB vS p0_2.pend,AY Ae AB vB p0_2.bad] H (fun u M=>u=vI r∧M=[sO Az As AW Al Ab BL BA p0,AD 43 4 As AV p0.rows,AD 148 3 AW AS p0.pages,Cb Al AB AB p0.gens,AD 55 2 BA AU p0.ring,vO BL Ab A0 Ar p0_1,AD 55 2 A0 AU p0_1.ring,AY Ar AB vB p0_1.taken,dO Ab Af Ad Ae p0_2,AD 9 1 Af eS p0_2.blocks,AY Ad AB vS p0_2.pend,AY Ae AB vB p0_2.bad]):=by
 unfold Fw at h
 refine WN.enter Tryz.func40 rfl rfl ?_
 refine Y (U E (V (Y ?_)))
 refine AF h fun y1 hy1 h=>?_
 refine J E (AT E E (AE E Vg (AG 0 ZU E (SL.pick [4,0,1,2,3] 5 ?_))))
 refine BT (vs:=[_]) (Hin:=[_]) (Hr:=_::_::_::_::_::_::_::_::_::_::_::_) E E ⟨E,zT⟩ f3 E E (CJ (B:=[_]) (Hin:=[]) fun K' w1 hk hB=>ON hy1 (Bp (e:=55) (v:=BA) zV (hB _ zS))) ?_
 rintro _ _ ⟨_,rfl,rfl,rfl⟩
 refine⟨trivial,?_⟩
 refine J E (Ah E E E (Ah E E E (U E (U E (V (Y ?_))))))
 refine Au E pY zU fun b1=>?_
 refine A3 0 E E E E PB E E E zT (V ?_)
 refine A8 (α:=Int) (fun x=>LP x=some r) (fun x=>[(0,vP Az 0),(5,vP b1 0)]) (fun x=>sO Az As AW Al Ab BL BA p0::AD 43 4 As AV p0.rows::AD 148 3 AW AS p0.pages::Cb Al AB AB p0.gens::dO Ab Af Ad Ae p0_2::AD 9 1 Af eS p0_2.blocks::AY Ad AB vS p0_2.pend::AY Ae AB vB p0_2.bad::vO BL Ab A0 Ar p0_1::AD 55 2 A0 AU p0_1.ring::AY Ar AB vB p0_1.taken::AD 55 2 BA AU p0.ring::own b1 (.cells #[vI x] 3)::H) ?_ (fun y2 D h=>?_)
 refine Y ?_
 refine AF h fun y3 hy3 h=>?_
 refine J E (AT E E (AE E Iq (J E (BY 0 kr ((cj hy3 :)) E ?_))))
 rintro _ _ ⟨b2,b3,rfl,rfl⟩
 refine V (AN ?_)
 refine AF h fun xs1 hxs1 h=>?_
 refine SX.heap (S6 (enc:=XY) xs1 [sO Az As AW Al Ab BL BA p0,AD 148 3 AW AS p0.pages,Cb Al AB AB p0.gens] (G0:=AD 43 4 As AV p0.rows::AD 55 2 BA AU p0.ring::vO BL Ab A0 Ar p0_1::AD 55 2 A0 AU p0_1.ring::AY Ar AB vB p0_1.taken::dO Ab Af Ad Ae p0_2::AD 9 1 Af eS p0_2.blocks::AY Ad AB vS p0_2.pend::AY Ae AB vB p0_2.bad::own b1 (.cells #[vI 0] 3)::H) (fun pre G=>∃x:Int,(∀suf,xs1=pre++suf→Gf suf x=some r)∧G=AD 43 4 As AV p0.rows::AD 55 2 BA AU p0.ring::vO BL Ab A0 Ar p0_1::AD 55 2 A0 AU p0_1.ring::AY Ar AB vB p0_1.taken::dO Ab Af Ad Ae p0_2::AD 9 1 Af eS p0_2.blocks::AY Ad AB vS p0_2.pend::AY Ae AB vB p0_2.bad::own b1 (.cells #[vI x] 3)::H) (fun c G=>False) E kz E zV (Yi hxs1) E ⟨0,fun suf e=>by rw[←show xs1=suf from e];exact h,E⟩ (fun pre e1 suf1 G hpre hJ lr lp Rest=>?_) (fun G D hJ=>?_) (fun c G D hX=>?_)) (BM [0,1,4,6,7,5,3,8,9,10,11,12,13,14,2] 15 E E E)
 obtain⟨y4,h,rfl⟩:=hJ
 replace h:KC (Gf suf1) e1 y4=some r:=h _ hpre
 unfold KC at h
 refine AI ?_
 refine Jm (G:=sO Az As AW Al Ab BL BA p0::AD 148 3 AW AS p0.pages::Cb Al AB AB p0.gens::AD 43 4 As AV p0.rows::AD 55 2 BA AU p0.ring::vO BL Ab A0 Ar p0_1::AD 55 2 A0 AU p0_1.ring::AY Ar AB vB p0_1.taken::dO Ab Af Ad Ae p0_2::AD 9 1 Af eS p0_2.blocks::AY Ad AB vS p0_2.pend::AY Ae AB vB p0_2.bad::own b1 (.cells #[vI y4] 3)::H) ?_
 refine AN (AM (AG 12 EF E (Z E Bc (A3 12 E E E E PB E E E zT (AZ (Av ?_))))))
 exact IK ⟨_,E,(wI (y4+1)),fun suf e=>by rw[Ts hpre e];exact h,E⟩ (BM [0,1,2,3,4,5,6,7,8,9,10,11,12] 13 E E E)
 obtain⟨y4,h,rfl⟩:=hJ
 replace h:LQ y4=some r:=h [] (List.append_nil _).symm
 unfold LQ at h
 refine Av ?_
 exact Aq y4 h tL (BM [0,3,1,2,8,9,10,11,5,6,7,4,12] 13 E E E)
 exact hX.elim
 unfold LP at h
 try dsimp only
 refine Y (AG 12 EF E (U E (V (AK ?_))))
 obtain rfl:=zI h
 exact Ac [0,1,2,3,11,8,9,10,4,5,6,7] 13 E E E
def E8(p0:BF)(p0_1:Am)(p0_2:Ai):Option aN:=
 (TN p0_1 p0_2).bind fun y1=>
 (E1 p0_2).bind fun y2=>
 (Fw p0 p0_1 p0_2).bind fun y3=>
 some (⟨(p0.rows.length:Int),(p0.pages.length:Int),y1,y2.cnt,p0.gen,y3⟩:aN)
theorem Lt{Az BL Ar Ab Ad Ae:Nat}{As AW Al BA A0 Af:Value}{p0:BF}{p0_1:Am}{p0_2:Ai}{r:aN}(h:E8 p0 p0_1 p0_2=some r): zC K w0 16 [vP Az 0] [sO Az As AW Al Ab BL BA p0,AD 43 4 As AV p0.rows,AD 148 3 AW AS p0.pages,Cb Al AB AB p0.gens,AD 55 2 BA AU p0.ring,vO BL Ab A0 Ar p0_1,AD 55 2 A0 AU p0_1.ring,AY Ar AB vB p0_1.taken,dO Ab Af Ad Ae p0_2,AD 9 1 Af eS p0_2.blocks,AY Ad AB vS p0_2.pend,AY Ae AB vB p0_2.bad] H (fun u M=>u=.agg (jG r).toArray∧M=[sO Az As AW Al Ab BL BA p0,AD 43 4 As AV p0.rows,AD 148 3 AW AS p0.pages,Cb Al AB AB p0.gens,AD 55 2 BA AU p0.ring,vO BL Ab A0 Ar p0_1,AD 55 2 A0 AU p0_1.ring,AY Ar AB vB p0_1.taken,dO Ab Af Ad Ae p0_2,AD 9 1 Af eS p0_2.blocks,AY Ad AB vS p0_2.pend,AY Ae AB vB p0_2.bad]):=by
 unfold E8 at h
 refine WN.enter Tryz.func16 rfl rfl ?_
 refine Y ?_
 refine Au E sn zU fun b1=>?_
 refine V (AH (Y (J E (Dr E n6 E E (V (C1 E (AI (AJ (AH ?_)))))))))
 refine AF h fun y1 hy1 h=>?_
 refine AF h fun y2 hy2 h=>?_
 refine AF h fun y3 hy3 h=>?_
 refine Ax Cz [1,2,3] (Bs [(true,0),(true,1),(true,2),(true,3),(true,4),(true,5),(true,6),(true,7),(true,8),(true,9),(true,10),(true,11),(true,12),(true,13),(true,14),(true,15),(true,17),(true,18),(true,19),(true,20),(true,23),(true,24),(true,25),(true,26),(true,27),(false,16),(false,21),(true,22),(false,28),(true,29)] (.last 30 .nil)) zK (J E (AT E E (AE E Iq (AE E gJ (AG 0 HI E (DL 1 E Ca E E (J E ?_)))))))
 refine AT E E (AE E Iq (AE E Rk (AG 0 K7 E (DL 2 E FH E E (J E (AT E E (AE E Nj ?_)))))))
 refine AG 0 QA E (J E (AT E E (AE E Kk (AG 0 K6 E (J E (AT E E (AE E Qg ?_)))))))
 refine AG 0 A4 E (J E (SL.pick [6,7,8,9,10,11,12,0,1,2,3,4,5] 13 (BS 7 w7 (kh hy1) E ⟨⟨8,E⟩,⟨9,E⟩,⟨10,E⟩,zT⟩ (SL.pick [3,4,5,6,0,1,2] 7 (BS 4 YQ (Jq hy2) E ⟨⟨8,E⟩,⟨9,E⟩,⟨10,E⟩,zT⟩ (RX E (show WF Tryz.prog 38 0=some 0 by kernel_rfl) E E (SL.pick [8,9,10,11,12,4,5,6,0,1,2,3,7] 13 ?_)))))))
 refine BS 12 kn (Np hy3) E ⟨⟨0,E⟩,⟨1,E⟩,⟨2,E⟩,zT⟩ (B5 [_,_,_,_,_,_] E zP zJ sn ⟨E,E,E,E,E,E,zT⟩ E (BU (A3 12 E E E E wU E E E zT (V (AK ?_)))))
 obtain rfl:=zI h
 exact An (GM E (B2 12 (jG (⟨(p0.rows.length:Int),(p0.pages.length:Int),y1,y2.cnt,p0.gen,y3⟩:aN)) yv E E E E)) (Ao (M:=[_,_,_,_,_,_,_,_,_,_,_,_]) ⟨E,E⟩ fun _ hw=>Bj.pick (H:=[_,_,_,_,_,_,_,_,_,_,_,_,_]) hw [0,1,2,3,4,5,6,7,8,9,10,11] 13 E)
end

section
variable {K:Nat→Prop}{w0:World}{H:List AX}
def Pr(p0:Am)(y1:BD×Int)(l1:List BD)(y2:UInt32):Option (Int×Am):=
 some (y1.2,{ p0 with ring:=l1,gen:=y2 })
def L6(p0:Am)(p0_1:Ai)(p1:List BD)(p2:UInt32):Option (Int×Am):=
 (R7 p1 p2).bind fun y1=>
 cond (decide (y1.2=0))
 (
  (C8 24 [] p1).bind fun l2=>
  Pr p0 y1 l2 p2)
 (
  Pr p0 y1 p0.ring p0.gen)
theorem au{Az BJ BG Bu Bv:Nat}{AW Bw DE:Value}{p0:Am}{p0_1:Ai}{p1:List BD}{p2:UInt32}{r:Int×Am}(h:L6 p0 p0_1 p1 p2=some r)(hs1_:By K w0 AU 2 DE p1):zC K w0 67 [vP Az 0,DE,AB p2] [vO Az BG AW BJ p0,AD 55 2 AW AU p0.ring,AY BJ AB vB p0.taken,dO BG Bw Bu Bv p0_1,AD 9 1 Bw eS p0_1.blocks,AY Bu AB vS p0_1.pend,AY Bv AB vB p0_1.bad] H (fun u M=>∃vs0_0_1:Value,u=vI r.1∧M=[vO Az BG vs0_0_1 BJ r.2,AD 55 2 vs0_0_1 AU r.2.ring,AY BJ AB vB r.2.taken,dO BG Bw Bu Bv p0_1,AD 9 1 Bw eS p0_1.blocks,AY Bu AB vS p0_1.pend,AY Bv AB vB p0_1.bad]):=by
 unfold L6 at h
 refine WN.enter Tryz.func67 rfl rfl ?_
 refine Y (U E (V (AH (Y (J E (Dr E ec E E (V (C1 E (AI (AJ (Y ?_)))))))))))
 refine AF h fun y1 hy1 h=>?_
 refine J E (J E (AQ 0 gA (iE hy1 hs1_) E (J E (Ah E E E (Ah E E E ?_)))))
 refine Au E KL zU fun b1=>?_
 refine A3 0 E E E E Fq E E E zT (U E (V ?_))
 refine A8 (α:=List BD×Value×UInt32) (fun x=>Pr p0 y1 x.1 x.2.2=some r) (fun x=>[(0,vP Az 0),(8,vI y1.2)]) (fun x=>own Az (.cells #[vP BG 0,x.2.1,AB x.2.2,AB p0.boot,Be p0.seals,.map (some BJ)] 137)::dO BG Bw Bu Bv p0_1::AD 9 1 Bw eS p0_1.blocks::AY Bu AB vS p0_1.pend::AY Bv AB vB p0_1.bad::AD 55 2 x.2.1 AU x.1::AY BJ AB vB p0.taken::H) ?_ (fun x D h=>?_)
 refine Y (J E (Z E Ba (V ?_)))
 refine AL h E (fun hc2 h=>?_) fun hc2 h=>?_
 refine AM ?_
 refine AF h fun l2 hl2 h=>?_
 refine J E (J E ?_)
 refine W9 E FW Fq zU fun b2=>?_
 refine B4 AU 2 ([]:List BD) E zV E ?_
 refine J E ?_
 refine Px 0 hl2 hs1_ (sz:=2) (enc:=AU) zV E FW Fq dU KL E zD E E E (by simp[AU,Value.oneCell']) zU fun v2=>?_
 refine J E (AT E E (AE E jT ?_))
 refine Cs 0 E fun hv1 ho1=>?_
 refine EW 2 E E E E wV hv1 ho1 E zT (AT E E (AE E jU (A3 2 E E E E Bx E E E zT (AZ ?_))))
 exact Aq (l2,v2,p2) h tL (BM [2,5,6,7,8,0,4] 9 E E E)
 refine AI ?_
 exact Aq (p0.ring,AW,p0.gen) h tL (BM [1,4,5,6,7,2,3] 8 E E E)
 obtain⟨l1,v1,y2⟩:=x
 dsimp only at h
 unfold Pr at h
 try dsimp only
 refine Y (J E (U E (V (AK ?_))))
 obtain rfl:=zI h
 exact BH [0,5,6,1,2,3,4] 7 (Cx E E) E E ⟨v1,E,E⟩
end

section
variable {K:Nat→Prop}{w0:World}{H:List AX}
def D9(p0:List BD)(p1:Int)(p2:List BD):Option (List BD):=
 (Iu p0 p1 (p0.length:Int)).bind fun l1=>
 cond (decide ((p2.length:Int)=0))
 (
  none)
 (
  cond (decide (p1=(p0.length:Int)))
  (
   (C8 24 p0 p2).bind fun l2=>
   some l2)
  (
   none))
theorem OR{Cn D8:Value}{p0 p2 r:List BD}{p1:Int}(h:D9 p0 p1 p2=some r): zC K w0 101 [Cn,vI p1,D8] [AD 55 2 Cn AU p0,AD 55 2 D8 AU p2] H (fun u M=>∃v0:Value,u=v0∧M=[AD 55 2 v0 AU r]):=by
 unfold D9 at h
 refine WN.enter Tryz.func101 rfl rfl ?_
 refine Y (CE 55 2 AU (U E (V (Y ?_))))
 refine AF h fun l1 hl1 h=>?_
 refine J E (J E ?_)
 refine pv (enc:=AU) (sz:=2) 1 hl1 zV E FW Fq E E E fun v1 pc1=>?_
 refine V (Y (J E (DL 2 E FW E E (U E (V (AH (Y (J E (Z E Ba (V ?_))))))))))
 refine AL h E (fun hc1 h=>?_) fun hc1 h=>?_
 cases h
 refine AI (AJ (Y (J E (DL 1 E FW E E (U E (V (AH (Y (J E (J E (Z E Ba (V ?_))))))))))))
 refine AL h E (fun hc2 h=>?_) fun hc2 h=>?_
 refine Y ?_
 refine AF h fun l2 hl2 h=>?_
 refine J E (J E ?_)
 refine iT 1 2 hl2 (sz:=2) (enc:=AU) zV E FW Fq dU KL E zD E E E E (by simp[AU,Value.oneCell']) zU fun v2=>?_
 refine U E (V (AK (Aa ?_)))
 obtain rfl:=zI h
 exact BH [1] 3 (Cx E E) E E ⟨v2,E,E⟩
 cases h
def P3(p0:List BD)(p1:BD):Option (List BD×Int):=
 (U8 p0 p1.gen).bind fun y1=>
 (P6 p0).bind fun y2=>
 (D9 y2 y1.1 [p1]).bind fun y3=>
 (Tc y1.2 ((NV p0).bind fun y4=>some (!y4))).bind fun y5=>
 (Tc y5 ((NV y3).bind fun y6=>some (!y6))).bind fun y7=>
 cond y7
 (
  some ([],40))
 (
  some (y3,0))
theorem i0{Cn:Value}{p0:List BD}{p1:BD}{r:List BD×Int}(h:P3 p0 p1=some r)(hs0_:By K w0 AU 2 Cn p0):zC K w0 69 [Cn,.agg (AU p1).toArray] [] H (fun u M=>∃v0:Value,u=.tuple #[v0,vI r.2]∧M=[AD 55 2 v0 AU r.1]):=by
 unfold P3 at h
 refine WN.enter Tryz.func69 rfl rfl ?_
 refine Y ?_
 refine Bg E E zU fun b1=>?_
 refine CE 55 2 AU (U E (U E (V (Y ?_))))
 refine AF h fun y1 hy1 h=>?_
 refine J E (AE E Gy (AG 1 A4 E (AQ 0 mY (pT hy1 hs0_) E (J E (Ah E E E (Ah E E E (U E ?_)))))))
 refine U E (V (AH ?_))
 refine AF h fun y2 hy2 h=>?_
 refine AF h fun y3 hy3 h=>?_
 refine Ax Cz [1] (Bs [(true,0),(true,2),(true,3)] (.alt 1 (Pl.of [(false,4),(false,5),(false,6)]) (.cons (false,4) (Pl.of [(false,1),(false,5),(false,6)])))) zK (J E (J E (Aw [AB p1.gen,vS p1.secret] E Mw E E (Ap 0 E) ?_)))
 focus
  refine OJ ?_ ?_
  refine BT (vs:=[_]) (Hin:=[]) (Hr:=_::_::_) E E ⟨E,zT⟩ f7 E E (Vm hy2 hs0_) ?_
  rintro v1 _ ⟨_,rfl,rfl⟩
  refine⟨⟨⟨2,rfl⟩,trivial⟩,?_⟩
  refine CA [_] rfl FW Fq KL ⟨rfl,trivial⟩ rfl rfl rfl zW rfl rfl (fun _=>⟨⟨3,rfl⟩,trivial⟩) fun b2=>?_
  refine B4 AU 2 ([p1]:List BD) E zV E ?_
  refine SL.pick [1,0] 2 ?_
  rotate_left
  refine CA [_] rfl FW Fq KL ⟨rfl,trivial⟩ rfl rfl rfl zW rfl rfl (fun _=>⟨⟨2,rfl⟩,trivial⟩) fun b2=>?_
  refine B4 AU 2 ([p1]:List BD) E zV E ?_
  refine BT (vs:=[_]) (Hin:=[]) (Hr:=_::_::_::_) E E ⟨E,zT⟩ f7 E E (Vm hy2 hs0_) ?_
  rintro v1 _ ⟨_,rfl,rfl⟩
  refine⟨⟨⟨3,rfl⟩,trivial⟩,?_⟩
  all_goals
   refine BT (vs:=[_,_,_]) (Hin:=[_,_]) (Hr:=_::_::_) E E ⟨E,E,E,zT⟩ tT E E (OR hy3) ?_
   rintro v2 _ ⟨_,rfl,rfl⟩
   refine⟨⟨⟨2,rfl⟩,trivial⟩,?_⟩
   refine U E (V (AH (Y ?_)))
   refine AF h fun y5 hy5 h=>?_
   refine AF h fun y7 hy7 h=>?_
   refine J E (J E ?_)
   refine Pi 23 4 27 hy5 E (fun hb k=>?_) (fun hb hg1 k=>?_) ?_
   refine AC E (AC E (AC E (Ag E E E ?_)))
   exact k.mono tL
   obtain⟨y4,hy4,hg1⟩:=bnd hg1
   obtain rfl:=zI hg1
   refine J E (AQ 0 ax (Yy hy4 hs0_) E (CF E E (Ag E E E ?_)))
   exact k.mono tL
   refine J E ?_
   refine Pi 28 4 32 hy7 E (fun hb k=>?_) (fun hb hg2 k=>?_) ?_
   refine AC E (AC E (AC E (Ag E E E ?_)))
   exact k.mono tL
   obtain⟨y6,hy6,hg2⟩:=bnd hg2
   obtain rfl:=zI hg2
   refine J E ?_
   refine BT (vs:=[_]) (Hin:=[_]) (Hr:=_::_::_) E E ⟨E,zT⟩ ax E E (CJ (B:=[_]) (Hin:=[]) fun K' w1 hk hB=>Yy hy6 (Bp (e:=55) (v:=v2) zV (hB _ zS))) ?_
   rintro _ _ ⟨_,rfl,rfl,rfl⟩
   refine⟨trivial,?_⟩
   refine CF E E (Ag E E E ?_)
   exact k.mono tL
   refine V ?_
   refine AL h E (fun hc1 h=>?_) fun hc1 h=>?_
   refine Y (CE 55 2 AU (U E (U E (V (AK (Aa ?_))))))
   obtain rfl:=zI h
   exact BH [0] 4 (C9 E E E) E E ⟨(.slice none 0 0),E,E⟩
   refine AI (AJ (Y (J E (U E (U E (V (AK ?_)))))))
   obtain rfl:=zI h
   exact BH [0] 3 (C9 E E E) E E ⟨v2,E,E⟩
end
end Go.Proofs.YtpaohlmgfifebaaGreatDoor
