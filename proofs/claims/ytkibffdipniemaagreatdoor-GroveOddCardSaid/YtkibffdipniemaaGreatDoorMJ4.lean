/- The texts GG6, GG7, GG8, GG9, GG10, GG11, GG12, GG13, LG2, LG3, LG4, LG5, LG6, S24, GG14, GG15, GG16, GG17, GG18, GG19, GG20, LG7, GG21, GG22, one behind the other: walks of the program, and plain laws of what it computes. Conditions: as each theorem says. -/
import Derived.Test.YtkibffdipniemaaGreatDoorMJ1
import Derived.Test.YtkibffdipniemaaGreatDoorMJ2
import Derived.Test.YtkibffdipniemaaGreatDoorMJ3

set_option linter.unusedVariables false
set_option linter.unusedSimpArgs false
set_option maxHeartbeats 4000000
set_option maxRecDepth 100000
namespace Go.Proofs.YtkibffdipniemaaGreatDoor
open Go
section
variable {K:Nat→Prop}{w0:World}{H:List AV}
def JV(p0:Ac):Option Bool:=
 (EM p0).bind fun y1=>
 ret (!y1) fun x1=>
 some x1
theorem Wz{p0:Ac}{r:Bool}(h:JV p0=some r): zC K w0 167 [.agg (Af p0).toArray] [] H (fun u M=>u=vB r∧M=[]):=by
 unfold JV at h
 refine UJ.enter Tryz.func167 rfl rfl ?_
 refine Z ?_
 refine Bd E E zU fun b1=>?_
 refine O E (Y (Z ?_))
 refine AC h fun y1 hy1 h=>?_
 obtain⟨x1,ex1,h⟩:=Bn h
 refine Ab [AA p0.page,vS p0.tag] E Cf E E (AZ 0 E) (AQ 0 bX ((NJ hy1 :)) E (CN E E ?_))
 refine Am (u:=vB x1) E E (congrArg vB ex1) ?_
 refine Y (AL ?_)
 obtain rfl:=zI h
 exact Ad [] 1 E E E
def WB:Option Int:=
 some (-1)
def ID(p0:List Ac)(nx_f_idx_l1:Int→Option Int)(a1:Int):Option Int:=
 cond (decide (a1<(p0.length:Int)))
 (
  (Ao p0 a1).bind fun x1=>
  (JV x1).bind fun y1=>
  cond y1
  (
   some a1)
  (
   nx_f_idx_l1 (wI (a1+1))))
 (
  WB)
def L8(p0:List Ac):Nat→Int→Option Int:=Bu fun nx x=>ID p0 nx x
def cA(n:Nat)(p0:List Ac):Option Int:=
 L8 p0 n 0
theorem tV{n:Nat}{B3:Value}{p0:List Ac}{r:Int}(h:cA n p0=some r)(hs0_:CJ K w0 Af 2 B3 p0):zC K w0 205 [B3,.func (.func 167) #[] #[]] [] H (fun u M=>u=vI r∧M=[]):=by
 unfold cA at h
 refine UJ.enter Tryz.func205 rfl rfl ?_
 refine Z (O E (Y ?_))
 refine A4 (α:=Unit) (fun x=>WB=some r) (fun x=>[]) (fun x=>H) ?_ (fun x D h=>?_)
 refine Z (J E (B1 hs0_ E Ep E (J E (Y (AM ?_)))))
 refine SX.heap (SX.mono (A5 (α:=Nat×Int) (fun x=>L8 p0 x.1 x.2=some r) (fun x=>[(0,B3),(1,.func (.func 167) #[] #[]),(7,vI (p0.length:Int)),(8,vI x.2)]) (fun x=>H) (fun x=>x.1) (fun x D h=>?_) (n,0) h) tL) (BB [] 0 E E E)
 obtain⟨m1,a1⟩:=x
 dsimp only at h
 rcases m1 with _ | m1
 cases (show(none:Option _)=some r from h)
 replace h:ID p0 (L8 p0 m1) a1=some r:=h
 unfold ID at h
 try dsimp only
 refine Z (V E Aw (Y (AE ?_)))
 refine AT h E (fun hc1 h=>?_) fun hc1 h=>?_
 refine AI (AG (AE (AM (Z (J E (O E (Y (Z ?_))))))))
 refine AC h fun x1 hx1 h=>?_
 refine AC h fun y1 hy1 h=>?_
 refine J E (J E (J E ?_))
 refine Cm hx1 hs0_ E Ep DH E E fun be1 of1 hc2=>?_
 refine Ab (Af x1) E Cf E E (C2 hc2) (AQ 0 pC ((Wz hy1 :)) E (Y ?_))
 refine AT h E (fun hc3 h=>?_) fun hc3 h=>?_
 refine Z (J E (O E (Y (AL (BX (Aa (Dj (BX (EO ?_)))))))))
 obtain rfl:=zI h
 exact Ad [] 0 E E E
 refine AI (An (AG (AK (V E Ay (J E (AU ?_))))))
 exact Ai (m1,wI (a1+1)) h (Nat.lt_succ_self _) tL (BB [] 0 E E E)
 refine Ax (A3 (BL (Az ?_)))
 exact Av () h tL (BB [] 0 E E E)
 unfold WB at h
 try dsimp only
 refine Z (O E (Y (AL ?_)))
 obtain rfl:=zI h
 exact Ad [] 0 E E E
def Ya(n:Nat)(p0:List Ac):Option Bool:=
 (cA n p0).bind fun y1=>
 ret (decide (0≤y1)) fun x1=>
 some x1
theorem rW{n:Nat}{B3:Value}{p0:List Ac}{r:Bool}(h:Ya n p0=some r)(hs0_:CJ K w0 Af 2 B3 p0):zC K w0 166 [B3,.func (.func 167) #[] #[]] [] H (fun u M=>u=vB r∧M=[]):=by
 unfold Ya at h
 refine UJ.enter Tryz.func166 rfl rfl ?_
 refine Z (O E (Y (Z ?_)))
 refine AC h fun y1 hy1 h=>?_
 obtain⟨x1,ex1,h⟩:=Bn h
 refine J E (J E (AQ 0 qO (tV hy1 hs0_) E (V E Iy ?_)))
 refine Am (u:=vB x1) E E (congrArg vB ex1) ?_
 refine Y (AL ?_)
 obtain rfl:=zI h
 exact Ad [] 0 E E E
def Jp(n:Nat)(p0:BR):Option Bool:=
 ret (decide (p0.kind=1)) fun x1=>
 cond x1
 (
  (FZ (((decide (p0.cx=0)&&(decide (p0.cy=0)&&(decide (p0.lev=0)&&true)))&&(decide ((p0.kids.length:Int)=0)))&&(decide ((p0.rows.length:Int)≤4))) ((Jo n p0.rows).bind fun y1=>some (y1))).bind fun y2=>
  (FZ y2 ((Il (⟨p0.npage,p0.ntag⟩:Ac)).bind fun y3=>(OF y3 ((EM (⟨p0.npage,p0.ntag⟩:Ac)).bind fun y4=>some (y4))).bind fun y5=>some (y5))).bind fun y6=>
  some y6)
 (
  ret (decide (p0.kind=2)) fun x2=>
  cond x2
  (
   (Ya n p0.kids).bind fun y7=>
   (FZ ((!y7)&&(decide ((p0.rows.length:Int)=0))) ((Il (⟨p0.npage,p0.ntag⟩:Ac)).bind fun y8=>some (y8))).bind fun y9=>
   (FZ ((y9&&(decide (2≤(p0.kids.length:Int))))&&(decide ((p0.kids.length:Int)≤4))) ((IY (⟨p0.cx,p0.cy,p0.lev⟩:Bb)).bind fun y10=>some (y10))).bind fun y11=>
   ret (y11&&(decide (0<p0.lev))) fun x3=>
   some x3)
  (
   some false))
theorem TR{n:Nat}{Fm Fi:Value}{p0:BR}{r:Bool}(h:Jp n p0=some r)(hs0_4:CJ K w0 AJ 4 Fm p0.rows)(hs0_5:CJ K w0 Af 2 Fi p0.kids):zC K w0 122 [.agg #[vI p0.kind,AA p0.cx,AA p0.cy,vI p0.lev,Fm,Fi,AA p0.npage,vS p0.ntag]] [] H (fun u M=>u=vB r∧M=[]):=by
 unfold Jp at h
 refine UJ.enter Tryz.func122 rfl rfl ?_
 refine Z ?_
 refine Bd E E zU fun b1=>?_
 refine O E (Y (AE (Z (AD E Oh (AF 0 D3 E (Y (AM (Z ?_))))))))
 obtain⟨x1,ex1,h⟩:=Bn h
 refine V E CH ?_
 refine Am (u:=vB x1) E E (congrArg vB ex1) ?_
 refine Y ?_
 refine AT h E (fun hc1 h=>?_) fun hc1 h=>?_
 refine Z ?_
 refine AC h fun y2 hy2 h=>?_
 refine AC h fun y6 hy6 h=>?_
 refine AD rfl GW (Ab [AA p0.cx,AA p0.cy,vI p0.lev] rfl Eg rfl rfl (Cd 0 rfl (by rintro(_ | (_ | (_ | j))) u hj<;>first | exact hj | exact absurd hj zS)) (BK [] rfl P0 QE J8 trivial rfl ?_))
 refine TE E nO E E (CT E E (I6 (a:=p0.cx) (b:=0)) (CT E E (I6 (a:=p0.cy) (b:=0)) (CT E E (XW (a:=p0.lev) (b:=0)) HK))) ?_
 refine J E ?_
 refine Cw (c:=decide ((p0.kids.length:Int)=0)) 12 5 17 E (fun hb k=>?_) (fun hb k=>?_) ?_
 refine AD E Dg (AF 0 Hi E (B1 hs0_5 E Ep E (V E CH (Ae E E E ?_))))
 exact k.mono tL
 refine AB E (AB E (AB E (AB E (Ae E E E ?_))))
 exact k.mono tL
 refine J E ?_
 refine Cw (c:=decide ((p0.rows.length:Int)≤4)) 18 5 23 E (fun hb k=>?_) (fun hb k=>?_) ?_
 refine AD E Fk (AF 0 FF E (B1 hs0_4 E Bt E (V E IK (Ae E E E ?_))))
 exact k.mono tL
 refine AB E (AB E (AB E (AB E (Ae E E E ?_))))
 exact k.mono tL
 refine J E ?_
 refine EA 24 4 28 hy2 E (fun hb hg3 k=>?_) (fun hb k=>?_) ?_
 obtain⟨y1,hy1,hg3⟩:=bnd hg3
 obtain rfl:=zI hg3
 refine AD E Fk (AF 0 FF E (AQ 0 m0 (TS hy1 hs0_4) E (Ae E E E ?_)))
 exact k.mono tL
 refine AB E (AB E (AB E (Ae E E E ?_)))
 exact k.mono tL
 refine J E ?_
 refine EA 29 9 38 hy6 E (fun hb hg4 k=>?_) (fun hb k=>?_) ?_
 obtain⟨y3,hy3,hg4⟩:=bnd hg4
 obtain⟨y5,hy5,hg4⟩:=bnd hg4
 obtain rfl:=zI hg4
 refine AD rfl E4 (Ab [AA p0.npage,vS p0.ntag] rfl Cf rfl rfl (Cd 0 rfl (by rintro(_ | (_ | j)) u hj<;>first | exact hj | exact absurd hj zS)) (AQ 0 jM ((SD hy3 :)) rfl (J rfl ?_)))
 refine Lp 33 4 37 hy5 E (fun hb k=>?_) (fun hb hg5 k=>?_) ?_
 refine AB E (AB E (AB E (Ae E E E ?_)))
 exact k.mono tL
 obtain⟨y4,hy4,hg5⟩:=bnd hg5
 obtain rfl:=zI hg5
 refine AD rfl E4 (Ab [AA p0.npage,vS p0.ntag] rfl Cf rfl rfl (Cd 0 rfl (by rintro(_ | (_ | j)) u hj<;>first | exact hj | exact absurd hj zS)) (AQ 0 bX ((NJ hy4 :)) rfl (Ae rfl rfl rfl ?_)))
 exact k.mono tL
 refine Ae E E E ?_
 exact k.mono tL
 refine AB E (AB E (AB E (AB E (AB E (AB E (AB E (AB E ?_)))))))
 refine Ae E E E ?_
 exact k.mono tL
 refine O E (Y (AL (BX (Aa ?_))))
 obtain rfl:=zI h
 exact Ad [] 1 E E E
 refine Z ?_
 obtain⟨x2,ex2,h⟩:=Bn h
 refine V E CH ?_
 refine Am (u:=vB x2) E E (congrArg vB ex2) ?_
 refine Y ?_
 refine AT h E (fun hc2 h=>?_) fun hc2 h=>?_
 refine Z ?_
 refine AC h fun y7 hy7 h=>?_
 refine AD E Dg (AF 0 Hi E (AQ 0 pX (rW hy7 hs0_5) E (O E (Y (Z ?_)))))
 refine AC h fun y9 hy9 h=>?_
 refine AC h fun y11 hy11 h=>?_
 obtain⟨x3,ex3,h⟩:=Bn h
 refine J E (CN E E (J E ?_))
 refine Cw (c:=decide ((p0.rows.length:Int)=0)) 46 5 51 E (fun hb k=>?_) (fun hb k=>?_) ?_
 refine AD E Fk (AF 0 FF E (B1 hs0_4 E Bt E (V E CH (Ae E E E ?_))))
 exact k.mono tL
 refine AB E (AB E (AB E (AB E (Ae E E E ?_))))
 exact k.mono tL
 refine J E ?_
 refine EA 52 4 56 hy9 E (fun hb hg7 k=>?_) (fun hb k=>?_) ?_
 obtain⟨y8,hy8,hg7⟩:=bnd hg7
 obtain rfl:=zI hg7
 refine AD rfl E4 (Ab [AA p0.npage,vS p0.ntag] rfl Cf rfl rfl (Cd 0 rfl (by rintro(_ | (_ | j)) u hj<;>first | exact hj | exact absurd hj zS)) (AQ 0 jM ((SD hy8 :)) rfl (Ae rfl rfl rfl ?_)))
 exact k.mono tL
 refine AB E (AB E (AB E (Ae E E E ?_)))
 exact k.mono tL
 refine J E ?_
 refine Cw (c:=decide (2≤(p0.kids.length:Int))) 57 5 62 E (fun hb k=>?_) (fun hb k=>?_) ?_
 refine AD E Dg (AF 0 Hi E (B1 hs0_5 E Ep E (V E Iy (Ae E E E ?_))))
 exact k.mono tL
 refine AB E (AB E (AB E (AB E (Ae E E E ?_))))
 exact k.mono tL
 refine J E ?_
 refine Cw (c:=decide ((p0.kids.length:Int)≤4)) 63 5 68 E (fun hb k=>?_) (fun hb k=>?_) ?_
 refine AD E Dg (AF 0 Hi E (B1 hs0_5 E Ep E (V E IK (Ae E E E ?_))))
 exact k.mono tL
 refine AB E (AB E (AB E (AB E (Ae E E E ?_))))
 exact k.mono tL
 refine J E ?_
 refine EA 69 4 73 hy11 E (fun hb hg10 k=>?_) (fun hb k=>?_) ?_
 obtain⟨y10,hy10,hg10⟩:=bnd hg10
 obtain rfl:=zI hg10
 refine AD rfl GW (Ab [AA p0.cx,AA p0.cy,vI p0.lev] rfl Eg rfl rfl (Cd 0 rfl (by rintro(_ | (_ | (_ | j))) u hj<;>first | exact hj | exact absurd hj zS)) (AQ 0 cD ((Pa hy10 :)) rfl (Ae rfl rfl rfl ?_)))
 exact k.mono tL
 refine AB E (AB E (AB E (Ae E E E ?_)))
 exact k.mono tL
 refine J E ?_
 refine Cw (c:=decide (0<p0.lev)) 74 5 79 E (fun hb k=>?_) (fun hb k=>?_) ?_
 refine AD E GW (AD E EX (AF 0 D3 E (V E CY (Ae E E E ?_))))
 exact k.mono tL
 refine AB E (AB E (AB E (AB E (Ae E E E ?_))))
 exact k.mono tL
 refine Am (u:=vB x3) E E (congrArg vB ex3) ?_
 refine Y (AL (BX (Aa ?_)))
 obtain rfl:=zI h
 exact Ad [] 1 E E E
 refine AI (An (AG (Z (O E (Y (AL ?_))))))
 obtain rfl:=zI h
 exact Ad [] 1 E E E
def FL(p0:Ac):Option Bool:=
 ret ((decide (2≤p0.page))&&(decide ((p0.tag.length:Int)=32))) fun x1=>
 some x1
theorem Ml{p0:Ac}{r:Bool}(h:FL p0=some r): zC K w0 130 [.agg (Af p0).toArray] [] H (fun u M=>u=vB r∧M=[]):=by
 unfold FL at h
 refine UJ.enter Tryz.func130 rfl rfl ?_
 refine Z ?_
 refine Bd E E zU fun b1=>?_
 refine O E (Y (Z ?_))
 obtain⟨x1,ex1,h⟩:=Bn h
 refine AD E MY (AF 0 A6 E ?_)
 refine V E (Gy (b:=2)) ?_
 refine J E ?_
 refine Cw (c:=decide ((p0.tag.length:Int)=32)) 6 5 11 E (fun hb k=>?_) (fun hb k=>?_) ?_
 refine AD E Ld (AF 0 FX E (BS E Bj E (V E CH (Ae E E E ?_))))
 exact k.mono tL
 refine AB E (AB E (AB E (AB E (Ae E E E ?_))))
 exact k.mono tL
 refine Am (u:=vB x1) E E (congrArg vB ex1) ?_
 refine Y (AL ?_)
 obtain rfl:=zI h
 exact Ad [] 1 E E E
def Jj(p0:Ac):Option Bool:=
 ret ((decide (p0.page=0))&&(decide (p0.tag=[]))) fun x1=>
 some x1
theorem TX{p0:Ac}{r:Bool}(h:Jj p0=some r): zC K w0 177 [.agg (Af p0).toArray] [] H (fun u M=>u=vB r∧M=[]):=by
 unfold Jj at h
 refine UJ.enter Tryz.func177 rfl rfl ?_
 refine Z ?_
 refine Bd E E zU fun b1=>?_
 refine O E (Y (Z ?_))
 obtain⟨x1,ex1,h⟩:=Bn h
 refine AD E MY (AF 0 A6 E ?_)
 refine V E (OZ (b:=0)) ?_
 refine J E ?_
 refine Cw (c:=decide (p0.tag=[])) 6 4 10 E (fun hb k=>?_) (fun hb k=>?_) ?_
 refine AD E Ld (AF 0 FX E (V E Y6 (Ae E E E ?_)))
 exact k.mono tL
 refine AB E (AB E (AB E (Ae E E E ?_)))
 exact k.mono tL
 refine Am (u:=vB x1) E E (congrArg vB ex1) ?_
 refine Y (AL ?_)
 obtain rfl:=zI h
 exact Ad [] 1 E E E
def Jz(p0:BR):Option Bool:=
 (Ee (⟨p0.cx,p0.cy,p0.lev⟩:Bb)).bind fun y9=>
 some y9
def EU(p0:BR)(nx_f_ref10_Right_l1:Int→Option Bool)(a1:Int):Option Bool:=
 cond (decide (a1<(p0.kids.length:Int)))
 (
  (Ao p0.kids a1).bind fun x2=>
  (FL x2).bind fun y8=>
  cond (!y8)
  (
   some false)
  (
   ret (wI (a1+1)) fun i_1=>
   nx_f_ref10_Right_l1 i_1))
 (
  Jz p0)
def FI(p0:BR):Nat→Int→Option Bool:=Bu fun nx x=>EU p0 nx x
def Io(n:Nat)(p0:BR):Option Bool:=
 cond (decide (p0.kind=1))
 (
  (GF n p0.rows).bind fun y1=>
  (FL (⟨p0.npage,p0.ntag⟩:Ac)).bind fun y2=>
  (FZ ((decide ((p0.rows.length:Int)≤4))&&y1) ((OF y2 ((Jj (⟨p0.npage,p0.ntag⟩:Ac)).bind fun y3=>some (y3))).bind fun y4=>some (y4))).bind fun y5=>
  ret ((y5&&(decide ((p0.kids.length:Int)=0)))&&(decide (p0.cx=0)&&(decide (p0.cy=0)&&(decide (p0.lev=0)&&true)))) fun x1=>
  some x1)
 (
  (OF ((!decide (p0.kind=2))||(decide (0<(p0.rows.length:Int)))) ((Jj (⟨p0.npage,p0.ntag⟩:Ac)).bind fun y6=>some (!y6))).bind fun y7=>
  cond (((y7||(decide ((p0.kids.length:Int)<2)))||(decide (4<(p0.kids.length:Int))))||(decide (p0.lev<1)))
  (
   some false)
  (
   FI p0 n 0))
theorem SZ{n:Nat}{Fm Fi:Value}{p0:BR}{r:Bool}(h:Io n p0=some r)(hs0_4:CJ K w0 AJ 4 Fm p0.rows)(hs0_5:CJ K w0 Af 2 Fi p0.kids):zC K w0 134 [.agg #[vI p0.kind,AA p0.cx,AA p0.cy,vI p0.lev,Fm,Fi,AA p0.npage,vS p0.ntag]] [] H (fun u M=>u=vB r∧M=[]):=by
 unfold Io at h
 refine UJ.enter Tryz.func134 rfl rfl ?_
 refine Z ?_
 refine Bd E E zU fun b1=>?_
 refine O E (Y (AE (Z (AD E Oh (AF 0 D3 E (V E CH (Y ?_)))))))
 refine AT h E (fun hc1 h=>?_) fun hc1 h=>?_
 refine Z ?_
 refine AC h fun y1 hy1 h=>?_
 refine AD E Fk (AF 0 FF E (AQ 0 mK (SM hy1 hs0_4) E (O E (Y (Z ?_)))))
 refine AC h fun y2 hy2 h=>?_
 refine AD rfl E4 (Ab [AA p0.npage,vS p0.ntag] rfl Cf rfl rfl (Cd 0 rfl (by rintro(_ | (_ | j)) u hj<;>first | exact hj | exact absurd hj zS)) (AQ 0 bR ((Ml hy2 :)) rfl (O rfl (Y (Z ?_)))))
 refine AC h fun y5 hy5 h=>?_
 obtain⟨x1,ex1,h⟩:=Bn h
 refine AD E Fk (AF 0 FF E (B1 hs0_4 E Bt E (V E IK (J E ?_))))
 refine Cw (c:=y1) 20 2 22 E (fun hb k=>?_) (fun hb k=>?_) ?_
 refine J E (Ae E E E ?_)
 exact k.mono tL
 refine AB E (Ae E E E ?_)
 exact k.mono tL
 refine J E ?_
 refine EA 23 7 30 hy5 E (fun hb hg2 k=>?_) (fun hb k=>?_) ?_
 obtain⟨y4,hy4,hg2⟩:=bnd hg2
 obtain rfl:=zI hg2
 refine J E (J E ?_)
 refine Lp 25 4 29 hy4 E (fun hb k=>?_) (fun hb hg3 k=>?_) ?_
 refine AB E (AB E (AB E (Ae E E E ?_)))
 exact k.mono tL
 obtain⟨y3,hy3,hg3⟩:=bnd hg3
 obtain rfl:=zI hg3
 refine AD rfl E4 (Ab [AA p0.npage,vS p0.ntag] rfl Cf rfl rfl (Cd 0 rfl (by rintro(_ | (_ | j)) u hj<;>first | exact hj | exact absurd hj zS)) (AQ 0 jg ((TX hy3 :)) rfl (Ae rfl rfl rfl ?_)))
 exact k.mono tL
 refine Ae E E E ?_
 exact k.mono tL
 refine AB E (AB E (AB E (AB E (AB E (AB E (Ae E E E ?_))))))
 exact k.mono tL
 refine J E ?_
 refine Cw (c:=decide ((p0.kids.length:Int)=0)) 31 5 36 E (fun hb k=>?_) (fun hb k=>?_) ?_
 refine AD E Dg (AF 0 Hi E (B1 hs0_5 E Ep E (V E CH (Ae E E E ?_))))
 exact k.mono tL
 refine AB E (AB E (AB E (AB E (Ae E E E ?_))))
 exact k.mono tL
 refine J E ?_
 refine Cw (c:=decide (p0.cx=0)&&(decide (p0.cy=0)&&(decide (p0.lev=0)&&true))) 37 5 42 E (fun hb k=>?_) (fun hb k=>?_) ?_
 refine AD rfl GW (Ab [AA p0.cx,AA p0.cy,vI p0.lev] rfl Eg rfl rfl (Cd 0 rfl (by rintro(_ | (_ | (_ | j))) u hj<;>first | exact hj | exact absurd hj zS)) (BK [] rfl P0 QE J8 trivial rfl ?_))
 refine TE E nO E E (CT E E (I6 (a:=p0.cx) (b:=0)) (CT E E (I6 (a:=p0.cy) (b:=0)) (CT E E (XW (a:=p0.lev) (b:=0)) HK))) ?_
 refine Ae E E E ?_
 exact k.mono tL
 refine AB E (AB E (AB E (AB E (Ae E E E ?_))))
 exact k.mono tL
 refine Am (u:=vB x1) E E (congrArg vB ex1) ?_
 refine Y (AL (Aa ?_))
 obtain rfl:=zI h
 exact Ad [] 1 E E E
 refine AI (AG (AE (Z ?_)))
 refine AC h fun y7 hy7 h=>?_
 refine AD E Oh (AF 0 D3 E (V E Bg (J E ?_)))
 refine DL (c:=decide (0<(p0.rows.length:Int))) 46 5 51 E (fun hb k=>?_) (fun hb k=>?_) ?_
 refine AB E (AB E (AB E (AB E (Ae E E E ?_))))
 exact k.mono tL
 refine AD E Fk (AF 0 FF E (B1 hs0_4 E Bt E (V E CY (Ae E E E ?_))))
 exact k.mono tL
 refine J E ?_
 refine Lp 52 5 57 hy7 E (fun hb k=>?_) (fun hb hg7 k=>?_) ?_
 refine AB E (AB E (AB E (AB E (Ae E E E ?_))))
 exact k.mono tL
 obtain⟨y6,hy6,hg7⟩:=bnd hg7
 obtain rfl:=zI hg7
 refine AD rfl E4 (Ab [AA p0.npage,vS p0.ntag] rfl Cf rfl rfl (Cd 0 rfl (by rintro(_ | (_ | j)) u hj<;>first | exact hj | exact absurd hj zS)) (AQ 0 jg ((TX hy6 :)) rfl (CN rfl rfl (Ae rfl rfl rfl ?_))))
 exact k.mono tL
 refine J E ?_
 refine DL (c:=decide ((p0.kids.length:Int)<2)) 58 5 63 E (fun hb k=>?_) (fun hb k=>?_) ?_
 refine AB E (AB E (AB E (AB E (Ae E E E ?_))))
 exact k.mono tL
 refine AD E Dg (AF 0 Hi E (B1 hs0_5 E Ep E (V E Aw (Ae E E E ?_))))
 exact k.mono tL
 refine J E ?_
 refine DL (c:=decide (4<(p0.kids.length:Int))) 64 5 69 E (fun hb k=>?_) (fun hb k=>?_) ?_
 refine AB E (AB E (AB E (AB E (Ae E E E ?_))))
 exact k.mono tL
 refine AD E Dg (AF 0 Hi E (B1 hs0_5 E Ep E (V E CY (Ae E E E ?_))))
 exact k.mono tL
 refine J E ?_
 refine DL (c:=decide (p0.lev<1)) 70 5 75 E (fun hb k=>?_) (fun hb k=>?_) ?_
 refine AB E (AB E (AB E (AB E (Ae E E E ?_))))
 exact k.mono tL
 refine AD E GW (AD E EX (AF 0 D3 E (V E Aw (Ae E E E ?_))))
 exact k.mono tL
 refine Y ?_
 refine AT h E (fun hc2 h=>?_) fun hc2 h=>?_
 refine Z (O E (Y (AL (Aa ?_))))
 obtain rfl:=zI h
 exact Ad [] 1 E E E
 refine AI (AG ?_)
 refine A4 (α:=Unit) (fun x=>Jz p0=some r) (fun x=>[(1,vP b1 0)]) (fun x=>AN b1 (.cells #[vI p0.kind,AA p0.cx,AA p0.cy,vI p0.lev,Fm,Fi,AA p0.npage,vS p0.ntag] 148)::H) ?_ (fun x D h=>?_)
 refine Z (O E (Y (AM ?_)))
 refine SX.heap (SX.mono (A5 (α:=Nat×Int) (fun x=>FI p0 x.1 x.2=some r) (fun x=>[(1,vP b1 0),(5,vI x.2)]) (fun x=>AN b1 (.cells #[vI p0.kind,AA p0.cx,AA p0.cy,vI p0.lev,Fm,Fi,AA p0.npage,vS p0.ntag] 148)::H) (fun x=>x.1) (fun x D h=>?_) (n,0) h) tL) (BB [0] 1 E E E)
 obtain⟨m1,a1⟩:=x
 dsimp only at h
 rcases m1 with _ | m1
 cases (show(none:Option _)=some r from h)
 replace h:EU p0 (FI p0 m1) a1=some r:=h
 unfold EU at h
 try dsimp only
 refine AE (Z (J E (AD E Dg (AF 0 Hi E (B1 hs0_5 E Ep E (V E Aw (Y ?_)))))))
 refine AT h E (fun hc3 h=>?_) fun hc3 h=>?_
 refine AI (AG (AE (AM (Z ?_))))
 refine AC h fun x2 hx2 h=>?_
 refine AC h fun y8 hy8 h=>?_
 refine AD E Dg (AF 0 Hi E (J E ?_))
 refine Cm hx2 hs0_5 E Ep DH E E fun be1 of1 hc4=>?_
 refine Ab (Af x2) E Cf E E (C2 hc4) (AQ 0 bR ((Ml hy8 :)) E (O E (Y (Z (J E (CN E E (Y ?_)))))))
 refine AT h E (fun hc5 h=>?_) fun hc5 h=>?_
 refine Z (O E (Y (AL (BX (Aa (Dj (BX (EO ?_))))))))
 obtain rfl:=zI h
 exact Ad [] 1 E E E
 refine AI (An (AG (AK ?_)))
 obtain⟨i_1,ei_1,h⟩:=Bn h
 refine J E (V E Ay ?_)
 refine Am (u:=vI i_1) E E (congrArg vI ei_1) ?_
 refine AU ?_
 exact Ai (m1,i_1) h (Nat.lt_succ_self _) tL (BB [0] 1 E E E)
 refine Ax (A3 (BL (Az ?_)))
 exact Av () h tL (BB [0] 1 E E E)
 unfold Jz at h
 try dsimp only
 refine Z ?_
 refine AC h fun y9 hy9 h=>?_
 refine AD rfl GW (Ab [AA p0.cx,AA p0.cy,vI p0.lev] rfl Eg rfl rfl (Cd 0 rfl (by rintro(_ | (_ | (_ | j))) u hj<;>first | exact hj | exact absurd hj zS)) (AQ 0 dA ((Ou hy9 :)) rfl (O rfl (Y (AL ?_)))))
 obtain rfl:=zI h
 exact Ad [] 1 E E E
def N2(a1:List UInt8):Option (List UInt8):=
 some a1
def Mq(p1:Int)(nx_f_ref10_put_l1:UInt64×List UInt8×Int→Option (List UInt8))(a2:UInt64)(a3:List UInt8)(a4:Int):Option (List UInt8):=
 cond (decide (a4<p1))
 (
  (FR a3 [a2.toUInt8]).bind fun s1=>
  (Pd a2 256).bind fun q1=>
  ret (wI (a4+1)) fun i_1=>
  nx_f_ref10_put_l1 (q1,s1,i_1))
 (
  N2 a3)
def N5(p1:Int):Nat→(UInt64×List UInt8×Int)→Option (List UInt8):=Bu fun nx x=>Mq p1 nx x.1 x.2.1 x.2.2
def C5(n:Nat)(p0:UInt64)(p1:Int):Option (List UInt8):=
 N5 p1 n (p0,[],0)
theorem FM{n:Nat}{p0:UInt64}{p1:Int}{r:List UInt8}(h:C5 n p0 p1=some r): zC K w0 178 [Ap p0,vI p1] [] H (fun u M=>u=vS r∧M=[]):=by
 unfold C5 at h
 refine UJ.enter Tryz.func178 rfl rfl ?_
 refine Z (O E (Y (Z (O E (Y ?_)))))
 refine A4 (α:=List UInt8) (fun x=>N2 x=some r) (fun x=>[(5,vS x)]) (fun x=>H) ?_ (fun a1 D h=>?_)
 refine Z (O E (Y (AM ?_)))
 refine SX.heap (SX.mono (A5 (α:=Nat×UInt64×List UInt8×Int) (fun x=>N5 p1 x.1 (x.2.1,x.2.2.1,x.2.2.2)=some r) (fun x=>[(0,Ap x.2.1),(1,vI p1),(5,vS x.2.2.1),(6,vI x.2.2.2)]) (fun x=>H) (fun x=>x.1) (fun x D h=>?_) (n,p0,[],0) h) tL) (BB [] 0 E E E)
 obtain⟨m1,a2,a3,a4⟩:=x
 dsimp only at h
 rcases m1 with _ | m1
 cases (show(none:Option _)=some r from h)
 replace h:Mq p1 (N5 p1 m1) a2 a3 a4=some r:=h
 unfold Mq at h
 try dsimp only
 refine AE (Z (J E (J E (V E Aw (Y ?_)))))
 refine AT h E (fun hc1 h=>?_) fun hc1 h=>?_
 refine AI (AG (AE (AM (Z ?_))))
 refine AC h fun s1 hs1 h=>?_
 refine J E (J E (Au E E (Gu CQ Cl) ?_))
 refine Bz [_] rfl CM KH LA ⟨rfl,trivial⟩ rfl rfl rfl zW rfl rfl zU fun b1=>?_
 refine B4 GQ 1 ([a2.toUInt8]:List UInt8) E zV E ?_
 refine Hq 0 E CM Cl Bj E E (V E (CV hs1) (O E (Y (AK ?_))))
 refine AC h fun q1 hq1 h=>?_
 refine J E ?_
 refine V E (PR (b:=256) hq1) ?_
 refine O E (AU (An (AG (AK ?_))))
 obtain⟨i_1,ei_1,h⟩:=Bn h
 refine J E (V E Ay ?_)
 refine Am (u:=vI i_1) E E (congrArg vI ei_1) ?_
 refine AU ?_
 exact Ai (m1,q1,s1,i_1) h (Nat.lt_succ_self _) tL (BB [] 1 E E E)
 refine Ax (A3 (BL (Az ?_)))
 exact Av a3 h tL (BB [] 0 E E E)
 unfold N2 at h
 try dsimp only
 refine Z (J E (O E (Y (AL ?_))))
 obtain rfl:=zI h
 exact Ad [] 0 E E E
def Nx(a1:UInt64):Option UInt64:=
 some a1
def MT(p0:List UInt8)(nx_f_ref10_get_l1:UInt64×Int→Option UInt64)(a2:UInt64)(a3:Int):Option UInt64:=
 cond (decide (0≤a3))
 (
  (Ao p0 a3).bind fun c1=>
  ret ((256*a2)+c1.toUInt64) fun x1=>
  ret (wI (a3-1)) fun i_2=>
  nx_f_ref10_get_l1 (x1,i_2))
 (
  Nx a2)
def Ny(p0:List UInt8):Nat→(UInt64×Int)→Option UInt64:=Bu fun nx x=>MT p0 nx x.1 x.2
def El(n:Nat)(p0:List UInt8):Option UInt64:=
 ret (wI ((p0.length:Int)-1)) fun i_1=>
 Ny p0 n (0,i_1)
theorem JM{n:Nat}{p0:List UInt8}{r:UInt64}(h:El n p0=some r): zC K w0 176 [vS p0] [] H (fun u M=>u=Ap r∧M=[]):=by
 unfold El at h
 refine UJ.enter Tryz.func176 rfl rfl ?_
 refine Z (O E (Y (Z (O E (Y ?_)))))
 refine A4 (α:=UInt64) (fun x=>Nx x=some r) (fun x=>[(3,Ap x)]) (fun x=>H) ?_ (fun a1 D h=>?_)
 refine Z ?_
 obtain⟨i_1,ei_1,h⟩:=Bn h
 refine J E (BS E Bj E (V E B5 ?_))
 refine Am (u:=vI i_1) E E (congrArg vI ei_1) ?_
 refine Y (AM ?_)
 refine SX.heap (SX.mono (A5 (α:=Nat×UInt64×Int) (fun x=>Ny p0 x.1 (x.2.1,x.2.2)=some r) (fun x=>[(0,vS p0),(3,Ap x.2.1),(4,vI x.2.2)]) (fun x=>H) (fun x=>x.1) (fun x D h=>?_) (n,0,i_1) h) tL) (BB [] 0 E E E)
 obtain⟨m1,a2,a3⟩:=x
 dsimp only at h
 rcases m1 with _ | m1
 cases (show(none:Option _)=some r from h)
 replace h:MT p0 (Ny p0 m1) a2 a3=some r:=h
 unfold MT at h
 try dsimp only
 refine AE (Z (J E (V E Iy (Y ?_))))
 refine AT h E (fun hc1 h=>?_) fun hc1 h=>?_
 refine AI (AG (AE (AM (AK ?_))))
 refine AC h fun c1 hc1 h=>?_
 obtain⟨x1,ex1,h⟩:=Bn h
 refine J E ?_
 refine V E (JS (a:=256)) ?_
 refine J E (J E (Di hc1 E Bj E E (Au E E (Sn Cl CQ) (V E IW ?_))))
 refine Am (u:=Ap x1) E E (congrArg Ap ex1) ?_
 refine AU (An (AG (AK ?_)))
 obtain⟨i_2,ei_2,h⟩:=Bn h
 refine J E (V E B5 ?_)
 refine Am (u:=vI i_2) E E (congrArg vI ei_2) ?_
 refine AU ?_
 exact Ai (m1,x1,i_2) h (Nat.lt_succ_self _) tL (BB [] 0 E E E)
 refine Ax (A3 (BL (Az ?_)))
 exact Av a2 h tL (BB [] 0 E E E)
 unfold Nx at h
 try dsimp only
 refine Z (J E (O E (Y (AL ?_))))
 obtain rfl:=zI h
 exact Ad [] 0 E E E
def JQ(a5:List UInt8):Option (List UInt8×Int):=
 some (a5,0)
def D7(n:Nat)(p0:BR)(nx_f_ref10_Encode_l2:List UInt8×Int→Option (List UInt8×Int))(a6:List UInt8)(a7:Int):Option (List UInt8×Int):=
 cond (decide (a7<(p0.rows.length:Int)))
 (
  (Ao p0.rows a7).bind fun x3=>
  (C5 n x3.id 8).bind fun y9=>
  (FR a6 y9).bind fun s10=>
  (C5 n x3.x.toUInt64 4).bind fun y10=>
  (FR s10 y10).bind fun s11=>
  (C5 n x3.y.toUInt64 4).bind fun y11=>
  (FR s11 y11).bind fun s12=>
  (C5 n (BW (x3.txt.length:Int)) 1).bind fun y12=>
  (FR s12 y12).bind fun s13=>
  (FR s13 x3.txt).bind fun s14=>
  ret (wI (a7+1)) fun i_2=>
  nx_f_ref10_Encode_l2 (s14,i_2))
 (
  JQ a6)
def Er(n:Nat)(p0:BR):Nat→(List UInt8×Int)→Option (List UInt8×Int):=Bu fun nx x=>D7 n p0 nx x.1 x.2
def Fv(n:Nat)(p0:BR)(a4:List UInt8):Option (List UInt8×Int):=
 (C5 n (BW (p0.rows.length:Int)) 1).bind fun y7=>
 (FR [1] y7).bind fun s7=>
 (C5 n p0.npage.toUInt64 4).bind fun y8=>
 (FR s7 y8).bind fun s8=>
 (FR s8 a4).bind fun s9=>
 Er n p0 n (s9,0)
def JP(n:Nat)(p0:BR):Option (List UInt8×Int):=
 cond (decide (p0.ntag=[]))
 (
  (UV 1 32 0).bind fun l1=>
  Fv n p0 l1)
 (
  Fv n p0 p0.ntag)
def I7(a1:List UInt8):Option (List UInt8×Int):=
 some (a1,0)
def EE(n:Nat)(p0:BR)(nx_f_ref10_Encode_l1:List UInt8×Int→Option (List UInt8×Int))(a2:List UInt8)(a3:Int):Option (List UInt8×Int):=
 cond (decide (a3<(p0.kids.length:Int)))
 (
  (Ao p0.kids a3).bind fun x1=>
  (C5 n x1.page.toUInt64 4).bind fun y6=>
  (FR a2 y6).bind fun s5=>
  (Ao p0.kids a3).bind fun x2=>
  (FR s5 x2.tag).bind fun s6=>
  ret (wI (a3+1)) fun i_1=>
  nx_f_ref10_Encode_l1 (s6,i_1))
 (
  I7 a2)
def Es(n:Nat)(p0:BR):Nat→(List UInt8×Int)→Option (List UInt8×Int):=Bu fun nx x=>EE n p0 nx x.1 x.2
def Ej(n:Nat)(p0:BR):Option (List UInt8×Int):=
 (Io n p0).bind fun y1=>
 cond (!y1)
 (
  some ([],90))
 (
  cond (decide (p0.kind=2))
  (
   (C5 n (BW (p0.kids.length:Int)) 1).bind fun y2=>
   (FR [2] y2).bind fun s1=>
   (C5 n (BW p0.lev) 1).bind fun y3=>
   (FR s1 y3).bind fun s2=>
   (C5 n p0.cx.toUInt64 4).bind fun y4=>
   (FR s2 y4).bind fun s3=>
   (C5 n p0.cy.toUInt64 4).bind fun y5=>
   (FR s3 y5).bind fun s4=>
   Es n p0 n (s4,0))
  (
   JP n p0))
theorem Ws{n:Nat}{Fm Fi:Value}{p0:BR}{r:List UInt8×Int}(h:Ej n p0=some r)(hs0_4:CJ K w0 AJ 4 Fm p0.rows)(hs0_5:CJ K w0 Af 2 Fi p0.kids):zC K w0 135 [.agg #[vI p0.kind,AA p0.cx,AA p0.cy,vI p0.lev,Fm,Fi,AA p0.npage,vS p0.ntag]] [] H (fun u M=>u=.tuple #[vS r.1,vI r.2]∧M=[]):=by
 unfold Ej at h
 refine UJ.enter Tryz.func135 rfl rfl ?_
 refine Z ?_
 refine Bd E E zU fun b1=>?_
 refine O E (O E (Y (Z ?_)))
 refine AC h fun y1 hy1 h=>?_
 refine Ab [vI p0.kind,AA p0.cx,AA p0.cy,vI p0.lev,Fm,Fi,AA p0.npage,vS p0.ntag] E FE E E (AZ 0 E) (AQ 0 jK ((SZ hy1 hs0_4 hs0_5 :)) E (O E (Y (AE (Z (J E (CN E E (Y ?_))))))))
 refine AT h E (fun hc1 h=>?_) fun hc1 h=>?_
 refine Z (O E (O E (Y (AL (Aa ?_)))))
 obtain rfl:=zI h
 exact Ad [] 1 E E E
 refine AI (AG ?_)
 refine A4 (α:=Unit) (fun x=>JP n p0=some r) (fun x=>[(1,vP b1 0)]) (fun x=>AN b1 (.cells #[vI p0.kind,AA p0.cx,AA p0.cy,vI p0.lev,Fm,Fi,AA p0.npage,vS p0.ntag] 148)::H) ?_ (fun x D h=>?_)
 refine Z (AD E Oh (AF 0 D3 E (V E CH (Y ?_))))
 refine AT h E (fun hc2 h=>?_) fun hc2 h=>?_
 refine AE ?_
 refine AC h fun y2 hy2 h=>?_
 refine AC h fun s1 hs1 h=>?_
 refine AC h fun y3 hy3 h=>?_
 refine AC h fun s2 hs2 h=>?_
 refine AC h fun y4 hy4 h=>?_
 refine AC h fun s3 hs3 h=>?_
 refine AC h fun y5 hy5 h=>?_
 refine AC h fun s4 hs4 h=>?_
 refine Ak Ca [0] (Bo [(true,0),(true,1),(true,2),(true,3),(true,6),(true,7),(true,8),(true,9),(true,12),(true,13),(true,14),(true,15),(true,18),(true,19),(true,20),(true,21),(false,4),(true,5),(false,10),(true,11),(false,16),(true,17),(false,22)] (.last 23 (Pl.of [(false,24)]))) zK (AD E Dg (AF 0 Hi E (B1 hs0_5 E Ep E (Au E E (Df FW CQ) (AD E GW (AD E EX (AF 0 D3 E ?_)))))))
 refine Au E E (Df FW CQ) (AD E GW (AD E Ha (AF 0 A6 E (Au E E (Ci Bv CQ) (AD E GW (AD E HY (AF 0 A6 E ?_)))))))
 refine Au E E (Ci Bv CQ) (BO 0 Mg (FM hy2) E ⟨⟨0,E⟩,zT⟩ (V E (CV hs1) (BO 0 Mg (FM hy3) E ⟨⟨0,E⟩,zT⟩ (V E (CV hs2) (BO 0 Mg (FM hy4) E ⟨⟨0,E⟩,zT⟩ (V E (CV hs3) (BO 0 Mg (FM hy5) E ⟨⟨0,E⟩,zT⟩ (BN ?_))))))))
 refine V E (CV hs4) (O E (Y ?_))
 refine A4 (α:=List UInt8) (fun x=>I7 x=some r) (fun x=>[(5,vS x)]) (fun x=>H) ?_ (fun a1 D h=>?_)
 refine Z (O E (Y (AM ?_)))
 refine SX.heap (SX.mono (A5 (α:=Nat×List UInt8×Int) (fun x=>Es n p0 x.1 (x.2.1,x.2.2)=some r) (fun x=>[(1,vP b1 0),(5,vS x.2.1),(6,vI x.2.2)]) (fun x=>AN b1 (.cells #[vI p0.kind,AA p0.cx,AA p0.cy,vI p0.lev,Fm,Fi,AA p0.npage,vS p0.ntag] 148)::H) (fun x=>x.1) (fun x D h=>?_) (n,s4,0) h) tL) (BB [0] 1 E E E)
 obtain⟨m1,a2,a3⟩:=x
 dsimp only at h
 rcases m1 with _ | m1
 cases (show(none:Option _)=some r from h)
 replace h:EE n p0 (Es n p0 m1) a2 a3=some r:=h
 unfold EE at h
 try dsimp only
 refine AE (Z (J E (AD E Dg (AF 0 Hi E (B1 hs0_5 E Ep E (V E Aw (Y ?_)))))))
 refine AT h E (fun hc3 h=>?_) fun hc3 h=>?_
 refine AI (AG (AE (AM ?_)))
 refine AC h fun x1 hx1 h=>?_
 refine AC h fun y6 hy6 h=>?_
 refine AC h fun s5 hs5 h=>?_
 refine AC h fun x2 hx2 h=>?_
 refine AC h fun s6 hs6 h=>?_
 refine Ak Ca [0] (Bo [(true,0),(true,1),(true,2),(true,3),(true,4),(true,5),(true,6),(true,7),(true,10),(true,11),(true,12),(true,13),(true,14),(true,15),(false,8),(false,9)] (.last 16 (Pl.of [(false,17)]))) zK (J E (AD E Dg (AF 0 Hi E (J E ?_))))
 refine Cm hx1 hs0_5 E Ep DH E E fun be1 of1 hc4=>?_
 refine AD E MY ?_
 refine Bh E A6 E (DA (j:=0) hc4 E) ?_
 refine Au E E (Ci Bv CQ) (AD E Dg (AF 0 Hi E (J E ?_)))
 refine Cm hx2 hs0_5 E Ep DH E E fun be2 of2 hc5=>?_
 refine AD E Ld ?_
 refine Bh E FX E (DA (j:=1) hc5 E) ?_
 refine BO 0 Mg (FM hy6) E ⟨⟨0,E⟩,zT⟩ (V E (CV hs5) (BN (V E (CV hs6) (O E (AU (An (AG (AK ?_))))))))
 obtain⟨i_1,ei_1,h⟩:=Bn h
 refine J E (V E Ay ?_)
 refine Am (u:=vI i_1) E E (congrArg vI ei_1) ?_
 refine AU ?_
 exact Ai (m1,s6,i_1) h (Nat.lt_succ_self _) tL (BB [0] 1 E E E)
 refine Ax (A3 (BL (Az ?_)))
 exact Av a2 h tL (BB [] 1 E E E)
 unfold I7 at h
 try dsimp only
 refine Z (J E (O E (O E (Y (AL (EO ?_))))))
 obtain rfl:=zI h
 exact Ad [] 0 E E E
 refine AI ?_
 exact Av () h tL (BB [0] 1 E E E)
 unfold JP at h
 try dsimp only
 refine Z (AD E E4 (AD E Ld (AF 0 FX E (O E (Y ?_)))))
 refine A4 (α:=List UInt8) (fun x=>Fv n p0 x=some r) (fun x=>[(1,vP b1 0),(7,vS x)]) (fun x=>AN b1 (.cells #[vI p0.kind,AA p0.cx,AA p0.cy,vI p0.lev,Fm,Fi,AA p0.npage,vS p0.ntag] 148)::H) ?_ (fun a4 D h=>?_)
 refine Z (J E (V E Y6 (Y ?_)))
 refine AT h E (fun hc6 h=>?_) fun hc6 h=>?_
 refine AK ?_
 refine AC h fun l1 hl1 h=>?_
 refine XG hl1 GQ E CM KH Vs LA E E E E zU fun v1=>?_
 refine Hq 0 E CM Cl Bj E E (O E (AU ?_))
 exact Av l1 h tL (BB [1] 2 E E E)
 refine AI ?_
 exact Av p0.ntag h tL (BB [0] 1 E E E)
 unfold Fv at h
 try dsimp only
 refine AE ?_
 refine AC h fun y7 hy7 h=>?_
 refine AC h fun s7 hs7 h=>?_
 refine AC h fun y8 hy8 h=>?_
 refine AC h fun s8 hs8 h=>?_
 refine AC h fun s9 hs9 h=>?_
 refine Ak Ca [0] (Bo [(true,0),(true,1),(true,2),(true,3),(true,6),(true,7),(true,8),(true,9),(true,12),(false,4),(true,5),(false,10),(false,11)] (.last 13 (Pl.of [(false,14)]))) zK (AD E Fk (AF 0 FF E (B1 hs0_4 E Bt E (Au E E (Df FW CQ) (AD E E4 (AD E MY (AF 0 A6 E ?_)))))))
 refine Au E E (Ci Bv CQ) (J E (BO 0 Mg (FM hy7) E ⟨⟨0,E⟩,zT⟩ (V E (CV hs7) (BO 0 Mg (FM hy8) E ⟨⟨0,E⟩,zT⟩ (V E (CV hs8) (BN (V E (CV hs9) (O E (Y ?_)))))))))
 refine A4 (α:=List UInt8) (fun x=>JQ x=some r) (fun x=>[(8,vS x)]) (fun x=>H) ?_ (fun a5 D h=>?_)
 refine Z (O E (Y (AM ?_)))
 refine SX.heap (SX.mono (A5 (α:=Nat×List UInt8×Int) (fun x=>Er n p0 x.1 (x.2.1,x.2.2)=some r) (fun x=>[(1,vP b1 0),(8,vS x.2.1),(9,vI x.2.2)]) (fun x=>AN b1 (.cells #[vI p0.kind,AA p0.cx,AA p0.cy,vI p0.lev,Fm,Fi,AA p0.npage,vS p0.ntag] 148)::H) (fun x=>x.1) (fun x D h=>?_) (n,s9,0) h) tL) (BB [0] 1 E E E)
 obtain⟨m2,a6,a7⟩:=x
 dsimp only at h
 rcases m2 with _ | m2
 cases (show(none:Option _)=some r from h)
 replace h:D7 n p0 (Er n p0 m2) a6 a7=some r:=h
 unfold D7 at h
 try dsimp only
 refine AE (Z (J E (AD E Fk (AF 0 FF E (B1 hs0_4 E Bt E (V E Aw (Y ?_)))))))
 refine AT h E (fun hc7 h=>?_) fun hc7 h=>?_
 refine AI (AG (AE (AM (Z ?_))))
 refine AC h fun x3 hx3 h=>?_
 refine AD E Fk (AF 0 FF E (J E ?_))
 refine Cm hx3 hs0_4 E Bt B2 E E fun be3 of3 hc8=>?_
 refine Ab (AJ x3) E Eo E E (C2 hc8) ?_
 refine Ag E EJ zU fun b2=>?_
 refine Aj 0 E E E E B2 E E E zT (Y ?_)
 refine AC h fun y9 hy9 h=>?_
 refine AC h fun s10 hs10 h=>?_
 refine AC h fun y10 hy10 h=>?_
 refine AC h fun s11 hs11 h=>?_
 refine AC h fun y11 hy11 h=>?_
 refine AC h fun s12 hs12 h=>?_
 refine AC h fun y12 hy12 h=>?_
 refine AC h fun s13 hs13 h=>?_
 refine AC h fun s14 hs14 h=>?_
 refine Ak Ca [0] (Bo [(true,0),(true,1),(true,2),(true,5),(true,6),(true,7),(true,10),(true,11),(true,12),(true,15),(true,16),(true,17),(true,18),(true,21),(true,22),(false,3),(true,4),(false,8),(true,9),(false,13),(true,14),(false,19),(false,20)] (.last 23 (Pl.of [(false,24)]))) zK (J E (AD E Nb (AF 0 M1 E (AD E Ig (AF 0 A6 E (Au E E (Ci Bv CQ) (AD E Ii ?_)))))))
 refine AF 0 A6 E (Au E E (Ci Bv CQ) (AD E Qo (AF 0 FX E (BS E Bj E (Au E E (Df FW CQ) (AD E Qo (AF 0 FX E ?_)))))))
 refine BO 0 Mg (FM hy9) E ⟨⟨0,E⟩,zT⟩ (V E (CV hs10) (BO 0 Mg (FM hy10) E ⟨⟨0,E⟩,zT⟩ (V E (CV hs11) (BO 0 Mg (FM hy11) E ⟨⟨0,E⟩,zT⟩ (V E (CV hs12) (BO 0 Mg (FM hy12) E ⟨⟨0,E⟩,zT⟩ (V E (CV hs13) (BN ?_))))))))
 refine V E (CV hs14) (O E (AU (An (AG (AK ?_)))))
 obtain⟨i_2,ei_2,h⟩:=Bn h
 refine J E (V E Ay ?_)
 refine Am (u:=vI i_2) E E (congrArg vI ei_2) ?_
 refine AU ?_
 exact Ai (m2,s14,i_2) h (Nat.lt_succ_self _) tL (BB [1] 2 E E E)
 refine Ax (A3 (BL (Az ?_)))
 exact Av a6 h tL (BB [] 1 E E E)
 unfold JQ at h
 try dsimp only
 refine Z (J E (O E (O E (Y (AL ?_)))))
 obtain rfl:=zI h
 exact Ad [] 0 E E E
def K5(p0:List UInt8)(y1:UInt64)(y2:List UInt8)(y4:Int)(y5:UInt32)(y6:UInt32)(y7:Int)(l2:List AP)(l3:List Ac)(y8:UInt32)(y9:List UInt8)(l4:List AP)(a1:Int):Option (BR×Bool):=
 ret (decide (a1=(p0.length:Int))) fun x2=>
 some ((⟨1,0,0,0,l4,[],y1.toUInt32,y2⟩:BR),x2)
def Ev(n:Nat)(p0:List UInt8)(y1:UInt64)(y2:List UInt8)(nx_f_ref10_leaf_l1:Int×UInt32×UInt32×Int×List AP×List Ac×UInt32×List UInt8×List AP×Int×Int→Option (BR×Bool))(y10:Int)(y11:UInt32)(y12:UInt32)(y13:Int)(l5:List AP)(l6:List Ac)(y14:UInt32)(y15:List UInt8)(l7:List AP)(a2:Int)(a3:Int):Option (BR×Bool):=
 (Ao p0 1).bind fun c1=>
 cond (decide (a3<(c1.toNat:Int)))
 (
  cond (decide ((p0.length:Int)<wI (a2+17)))
  (
   some ((⟨1,0,0,0,l7,[],y1.toUInt32,y2⟩:BR),false))
  (
   (Ao p0 (wI (a2+16))).bind fun c2=>
   cond (decide ((p0.length:Int)<wI ((wI (a2+17))+(c2.toNat:Int))))
   (
    some ((⟨1,0,0,0,l7,[],y1.toUInt32,y2⟩:BR),false))
   (
    (Cz p0 a2 (wI (a2+8))).bind fun s3=>
    (El n s3).bind fun y16=>
    (Cz p0 (wI (a2+8)) (wI (a2+12))).bind fun s4=>
    (El n s4).bind fun y17=>
    (Cz p0 (wI (a2+12)) (wI (a2+16))).bind fun s5=>
    (El n s5).bind fun y18=>
    (Cz p0 (wI (a2+17)) (wI ((wI (a2+17))+(c2.toNat:Int)))).bind fun s6=>
    (Cp 32 l7 [(⟨y16,y17.toUInt32,y18.toUInt32,s6⟩:AP)]).bind fun l8=>
    ret (wI ((wI (a2+17))+(c2.toNat:Int))) fun x1=>
    ret (wI (a3+1)) fun i_1=>
    nx_f_ref10_leaf_l1 (y10,y11,y12,y13,l5,l6,y14,y15,l8,x1,i_1))))
 (
  K5 p0 y1 y2 y10 y11 y12 y13 l5 l6 y14 y15 l7 a2)
def E2(n:Nat)(p0:List UInt8)(y1:UInt64)(y2:List UInt8):Nat→(Int×UInt32×UInt32×Int×List AP×List Ac×UInt32×List UInt8×List AP×Int×Int)→Option (BR×Bool):=Bu fun nx x=>Ev n p0 y1 y2 nx x.1 x.2.1 x.2.2.1 x.2.2.2.1 x.2.2.2.2.1 x.2.2.2.2.2.1 x.2.2.2.2.2.2.1 x.2.2.2.2.2.2.2.1 x.2.2.2.2.2.2.2.2.1 x.2.2.2.2.2.2.2.2.2.1 x.2.2.2.2.2.2.2.2.2.2
def Ex(n:Nat)(p0:List UInt8)(y1:UInt64)(y2:List UInt8):Option (BR×Bool):=
 E2 n p0 y1 y2 n (0,0,0,0,[],[],0,[],[],38,0)
def Fx(n:Nat)(p0:List UInt8):Option (BR×Bool):=
 cond (decide ((p0.length:Int)<38))
 (
  some ((⟨1,0,0,0,[],[],0,[]⟩:BR),false))
 (
  (Cz p0 2 6).bind fun s1=>
  (El n s1).bind fun y1=>
  (Cz p0 6 38).bind fun s2=>
  (FZ (decide (y1.toUInt32=0)) ((UV 1 32 0).bind fun l1=>some (decide (s2=l1)))).bind fun y3=>
  cond y3
  (
   Ex n p0 y1 [])
  (
   Ex n p0 y1 s2))
theorem Zb{n:Nat}{p0:List UInt8}{r:BR×Bool}(h:Fx n p0=some r): zC K w0 132 [vS p0] [] H (fun u M=>∃Fm Fi:Value,u=.tuple #[.agg #[vI r.1.kind,AA r.1.cx,AA r.1.cy,vI r.1.lev,Fm,Fi,AA r.1.npage,vS r.1.ntag],vB r.2]∧M=[AH 79 4 Fm AJ r.1.rows,AH 31 2 Fi Af r.1.kids]):=by
 unfold Fx at h
 refine UJ.enter Tryz.func132 rfl rfl ?_
 refine Z ?_
 refine Ag E Gk zU fun b1=>?_
 refine Bi 79 4 AJ (Bi 31 2 Af (O E (Y (Z (BK [_] E Pu Ph Gk ⟨E,zT⟩ E ?_)))))
 refine Ag E Gk zU fun b2=>?_
 refine Bi 79 4 AJ (Bi 31 2 Af (Aj 2 E E E E HD E E E zT (Bi 79 4 AJ (Bi 31 2 Af (Y (AE (Z (J E (BS E Bj E (V E Aw (Y ?_)))))))))))
 refine AT h E (fun hc1 h=>?_) fun hc1 h=>?_
 refine Z (Ab [vI 1,AA 0,AA 0,vI 0,zN,zN,AA 0,vS []] E FE E E (AZ 4 E) ?_)
 refine Br 1 E fun hv1 ho1=>?_
 refine Br 0 E fun hv2 ho2=>?_
 refine Aj 7 E E E E HD E (by simp only[Value.oneCell']at ho1 ho2;simp[Value.cells,Value.cells,Value.oneCell',ho1,ho2]) E zT (O E (Y (AL (Aa ?_))))
 obtain rfl:=zI h
 exact AX (DR E (BC 7 [vI 1,AA 0,AA 0,vI 0,zN,zN,AA 0,vS []] FE E E E E) E) (AY (M:=[_,_]) ⟨zN,zN,E,E⟩ fun _ hw=>BZ.pick (H:=[_,_,_,_,_,_,_,_]) hw [1,0] 8 E)
 refine AI (AG (AE ?_))
 refine AC h fun s1 hs1 h=>?_
 refine AC h fun y1 hy1 h=>?_
 refine AC h fun s2 hs2 h=>?_
 refine Ak Ca [] (Bo [(true,0),(true,1),(true,4),(true,5),(false,2),(true,3),(true,6),(true,7)] (.last 8 .nil)) zK (J E (Id hs1 E Bj E E E (J E (Id hs2 E Bj E E E (AQ 0 Q1 (JM hy1) E (Au E E (Ce CQ Bv) (BK [_,_] E LR LU Dc ⟨E,E,zT⟩ E ?_)))))))
 refine AD E E4 (BN (Aj 4 E E E E DH E E E zT (Y ?_)))
 refine A4 (α:=List UInt8) (fun x=>Ex n p0 y1 x=some r) (fun x=>[(0,vS p0),(2,vP b1 0),(4,vP b2 0)]) (fun x=>AN b1 (.cells #[vI 0,AA 0,AA 0,vI 0,zN,zN,AA 0,vS []] 148)::AH 79 4 zN AJ []::AH 31 2 zN Af []::AN b2 (.cells #[vI 1,AA 0,AA 0,vI 0,zN,zN,AA y1.toUInt32,vS x] 148)::AH 79 4 zN AJ []::AH 31 2 zN Af []::H) ?_ (fun y2 D h=>?_)
 refine AE ?_
 refine AC h fun y3 hy3 h=>?_
 refine Ak Ca [4] (Pl.of [(true,0),(true,1),(true,2),(true,3),(true,4),(true,5),(true,6),(true,7),(false,8),(false,9),(false,10),(false,11)]) zK (AD E E4 (AD E MY (AF 0 A6 E ?_)))
 refine V E (OZ (b:=0)) ?_
 refine J E ?_
 refine EA 25 7 32 hy3 E (fun hb hg1 k=>?_) (fun hb k=>?_) ?_
 obtain⟨l1,hl1,hg1⟩:=bnd hg1
 obtain rfl:=zI hg1
 refine AD E E4 (AD E Ld (AF 0 FX E ?_))
 refine XG hl1 GQ E CM KH Vs LA E E E E (fun _=>⟨⟨5,E⟩,zT⟩) fun v1=>?_
 refine Hq 0 E CM Cl Bj E E (V E Y6 (Ae E E E ?_))
 exact SL.mono (SL.heap k fun _ hw=>BZ.pick (H:=[_,_,_,_,_,_,_,_,_]) hw [1,2,3,4,5,6,7,8] 9 E) tL
 refine AB E (AB E (AB E (AB E (AB E (AB E (Ae E E E ?_))))))
 exact k.mono tL
 refine Y ?_
 refine AT h E (fun hc2 h=>?_) fun hc2 h=>?_
 refine AK (AD E E4 (AD E Ld (Aj 4 E E E E Ix E E E zT (AU ?_))))
 exact Av [] h tL (BB [7,6,5,4,1,0] 8 E E E)
 refine AI ?_
 exact Av s2 h tL (BB [7,6,5,4,1,0] 8 E E E)
 unfold Ex at h
 try dsimp only
 refine Z (O E (Y ?_))
 refine A4 (α:=Int×UInt32×UInt32×Int×List AP×Value×List Ac×Value×UInt32×List UInt8×List AP×Value×Int) (fun x=>K5 p0 y1 y2 x.1 x.2.1 x.2.2.1 x.2.2.2.1 x.2.2.2.2.1 x.2.2.2.2.2.2.1 x.2.2.2.2.2.2.2.2.1 x.2.2.2.2.2.2.2.2.2.1 x.2.2.2.2.2.2.2.2.2.2.1 x.2.2.2.2.2.2.2.2.2.2.2.2=some r) (fun x=>[(0,vS p0),(2,vP b1 0),(4,vP b2 0),(5,vI x.2.2.2.2.2.2.2.2.2.2.2.2)]) (fun x=>AN b1 (.cells #[vI x.1,AA x.2.1,AA x.2.2.1,vI x.2.2.2.1,x.2.2.2.2.2.1,x.2.2.2.2.2.2.2.1,AA x.2.2.2.2.2.2.2.2.1,vS x.2.2.2.2.2.2.2.2.2.1] 148)::AH 79 4 x.2.2.2.2.2.1 AJ x.2.2.2.2.1::AH 31 2 x.2.2.2.2.2.2.2.1 Af x.2.2.2.2.2.2.1::AN b2 (.cells #[vI 1,AA 0,AA 0,vI 0,x.2.2.2.2.2.2.2.2.2.2.2.1,zN,AA y1.toUInt32,vS y2] 148)::AH 79 4 x.2.2.2.2.2.2.2.2.2.2.2.1 AJ x.2.2.2.2.2.2.2.2.2.2.1::AH 31 2 zN Af []::H) ?_ (fun x D h=>?_)
 refine Z (O E (Y (AM ?_)))
 refine SX.heap (SX.mono (A5 (α:=Nat×Int×UInt32×UInt32×Int×List AP×Value×List Ac×Value×UInt32×List UInt8×List AP×Value×Int×Int) (fun x=>E2 n p0 y1 y2 x.1 (x.2.1,x.2.2.1,x.2.2.2.1,x.2.2.2.2.1,x.2.2.2.2.2.1,x.2.2.2.2.2.2.2.1,x.2.2.2.2.2.2.2.2.2.1,x.2.2.2.2.2.2.2.2.2.2.1,x.2.2.2.2.2.2.2.2.2.2.2.1,x.2.2.2.2.2.2.2.2.2.2.2.2.2.1,x.2.2.2.2.2.2.2.2.2.2.2.2.2.2)=some r) (fun x=>[(0,vS p0),(2,vP b1 0),(4,vP b2 0),(5,vI x.2.2.2.2.2.2.2.2.2.2.2.2.2.1),(6,vI x.2.2.2.2.2.2.2.2.2.2.2.2.2.2)]) (fun x=>AN b1 (.cells #[vI x.2.1,AA x.2.2.1,AA x.2.2.2.1,vI x.2.2.2.2.1,x.2.2.2.2.2.2.1,x.2.2.2.2.2.2.2.2.1,AA x.2.2.2.2.2.2.2.2.2.1,vS x.2.2.2.2.2.2.2.2.2.2.1] 148)::AH 79 4 x.2.2.2.2.2.2.1 AJ x.2.2.2.2.2.1::AH 31 2 x.2.2.2.2.2.2.2.2.1 Af x.2.2.2.2.2.2.2.1::AN b2 (.cells #[vI 1,AA 0,AA 0,vI 0,x.2.2.2.2.2.2.2.2.2.2.2.2.1,zN,AA y1.toUInt32,vS y2] 148)::AH 79 4 x.2.2.2.2.2.2.2.2.2.2.2.2.1 AJ x.2.2.2.2.2.2.2.2.2.2.2.1::AH 31 2 zN Af []::H) (fun x=>x.1) (fun x D h=>?_) (n,0,0,0,0,[],zN,[],zN,0,[],[],zN,38,0) h) tL) (BB [0,1,2,3,4,5] 6 E E E)
 obtain⟨m1,y10,y11,y12,y13,l5,v5,l6,v6,y14,y15,l7,v7,a2,a3⟩:=x
 dsimp only at h
 rcases m1 with _ | m1
 cases (show(none:Option _)=some r from h)
 replace h:Ev n p0 y1 y2 (E2 n p0 y1 y2 m1) y10 y11 y12 y13 l5 l6 y14 y15 l7 a2 a3=some r:=h
 unfold Ev at h
 try dsimp only
 refine AE (Z ?_)
 refine AC h fun c1 hc1 h=>?_
 refine J E (J E (Di hc1 E Bj E E (Au E E (Ma Cl FW) (V E Aw (Y ?_)))))
 refine AT h E (fun hc3 h=>?_) fun hc3 h=>?_
 refine AI (AG (AE (AM (AE (Z (J E (BS E Bj E (J E (V E Ay (V E Aw (Y ?_)))))))))))
 refine AT h E (fun hc4 h=>?_) fun hc4 h=>?_
 refine Z (Ab [vI 1,AA 0,AA 0,vI 0,v7,zN,AA y1.toUInt32,vS y2] E FE E E (AZ 3 E) ?_)
 refine Br 4 E fun hv3 ho3=>?_
 refine Br 5 E fun hv4 ho4=>?_
 refine Aj 0 E E E E HD E (by simp only[Value.oneCell']at ho3 ho4;simp[Value.cells,Value.cells,Value.oneCell',ho3,ho4]) E zT (O E (Y (AL (Aa (BX (Aa (Dj (BX (EO ?_)))))))))
 obtain rfl:=zI h
 exact AX (DR E (BC 0 [vI 1,AA 0,AA 0,vI 0,v7,zN,AA y1.toUInt32,vS y2] FE E E E E) E) (AY (M:=[_,_]) ⟨v7,zN,E,E⟩ fun _ hw=>BZ.pick (H:=[_,_,_,_,_,_]) hw [4,5] 6 E)
 refine AI (AG (Z ?_))
 refine AC h fun c2 hc2 h=>?_
 refine J E (J E (V E Ay (Di hc2 E Bj E E (Au E E (Ma Cl FW) (O E (Y (AE (Z (J E (BS E Bj E ?_))))))))))
 refine J E (V E Ay (J E (V E Ay (V E Aw (Y ?_)))))
 refine AT h E (fun hc5 h=>?_) fun hc5 h=>?_
 refine Z (Ab [vI 1,AA 0,AA 0,vI 0,v7,zN,AA y1.toUInt32,vS y2] E FE E E (AZ 3 E) ?_)
 refine Br 4 E fun hv5 ho5=>?_
 refine Br 5 E fun hv6 ho6=>?_
 refine Aj 0 E E E E HD E (by simp only[Value.oneCell']at ho5 ho6;simp[Value.cells,Value.cells,Value.oneCell',ho5,ho6]) E zT (O E (Y (AL (Aa (BX (Aa (Dj (BX (EO ?_)))))))))
 obtain rfl:=zI h
 exact AX (DR E (BC 0 [vI 1,AA 0,AA 0,vI 0,v7,zN,AA y1.toUInt32,vS y2] FE E E E E) E) (AY (M:=[_,_]) ⟨v7,zN,E,E⟩ fun _ hw=>BZ.pick (H:=[_,_,_,_,_,_]) hw [4,5] 6 E)
 refine AI (AG (AE ?_))
 refine AC h fun s3 hs3 h=>?_
 refine AC h fun y16 hy16 h=>?_
 refine AC h fun s4 hs4 h=>?_
 refine AC h fun y17 hy17 h=>?_
 refine AC h fun s5 hs5 h=>?_
 refine AC h fun y18 hy18 h=>?_
 refine AC h fun s6 hs6 h=>?_
 refine AC h fun l8 hl8 h=>?_
 refine Ak Ca [3] (Bo [(true,0),(true,1),(true,2),(true,3),(true,4),(true,5),(true,6),(true,8),(true,9),(true,10),(true,11),(true,12),(true,13),(true,16),(true,17),(true,18),(true,19),(true,20),(true,21),(true,24),(true,25),(true,26),(true,27),(true,28),(true,29),(true,30),(true,31),(false,7),(false,14),(true,15),(false,22),(true,23),(true,32),(false,33),(false,34),(true,35)] (.last 36 .nil)) zK (AD E Fk (AF 0 FF E (J E (J E (J E (V E Ay (Id hs3 E Bj E E E ?_)))))))
 refine J E (J E (V E Ay (J E (V E Ay (Id hs4 E Bj E E E (J E (J E ?_)))))))
 refine V E Ay (J E (V E Ay (Id hs5 E Bj E E E (J E (J E (V E Ay (J E ?_)))))))
 refine V E Ay (J E (V E Ay (Id hs6 E Bj E E E (BO 0 Q1 (JM hy16) E ⟨⟨3,E⟩,zT⟩ (BO 0 Q1 (JM hy17) E ⟨⟨3,E⟩,zT⟩ (Au E E (Ce CQ Bv) (BO 0 Q1 (JM hy18) E ⟨⟨3,E⟩,zT⟩ ?_)))))))
 refine Au E E (Ce CQ Bv) (BK [_,_,_,_] E R4 Si EJ ⟨E,E,E,E,zT⟩ E ?_)
 refine Bz [_] rfl Bt B2 EJ ⟨rfl,trivial⟩ rfl rfl rfl zW rfl rfl (fun _=>⟨⟨4,rfl⟩,trivial⟩) fun b3=>?_
 refine B4 AJ 4 ([(⟨y16,y17.toUInt32,y18.toUInt32,s6⟩:AP)]:List AP) E zV E ?_
 refine CW 5 hl8 (sz:=4) (enc:=AJ) zV E Bt B2 Oq EJ E zD E E E E (By (sz:=4) (enc:=AJ) 0 zV E) (by simp[AJ,Value.oneCell']) (fun _=>⟨⟨4,E⟩,zT⟩) fun v8=>?_
 refine AD E Fk (BN ?_)
 refine Br 5 E fun hv7 ho7=>?_
 refine Dy 4 E E E E K8 hv7 ho7 E zT (Y (AK ?_))
 obtain⟨x1,ex1,h⟩:=Bn h
 refine J E (V E Ay (J E (V E Ay ?_)))
 refine Am (u:=vI x1) E E (congrArg vI ex1) ?_
 refine AU (An (AG (AK ?_)))
 obtain⟨i_1,ei_1,h⟩:=Bn h
 refine J E (V E Ay ?_)
 refine Am (u:=vI i_1) E E (congrArg vI ei_1) ?_
 refine AU ?_
 exact Ai (m1,y10,y11,y12,y13,l5,v5,l6,v6,y14,y15,l8,v8,x1,i_1) h (Nat.lt_succ_self _) tL (BB [1,2,3,4,5,6] 7 E E E)
 refine Ax (A3 (BL (Az ?_)))
 exact Av (y10,y11,y12,y13,l5,v5,l6,v6,y14,y15,l7,v7,a2) h tL (BB [0,1,2,3,4,5] 6 E E E)
 obtain⟨y4,y5,y6,y7,l2,v2,l3,v3,y8,y9,l4,v4,a1⟩:=x
 dsimp only at h
 unfold K5 at h
 try dsimp only
 refine Z ?_
 obtain⟨x2,ex2,h⟩:=Bn h
 refine Ab [vI 1,AA 0,AA 0,vI 0,v4,zN,AA y1.toUInt32,vS y2] E FE E E (AZ 3 E) (J E (J E (BS E Bj E (V E CH ?_))))
 refine Br 4 E fun hv8 ho8=>?_
 refine Br 5 E fun hv9 ho9=>?_
 refine Aj 0 E E E E HD E (by simp only[Value.oneCell']at ho8 ho9;simp[Value.cells,Value.cells,Value.oneCell',ho8,ho9]) E zT ?_
 refine Am (u:=vB x2) E E (congrArg vB ex2) ?_
 refine Y (AL ?_)
 obtain rfl:=zI h
 exact AX (DR E (BC 0 [vI 1,AA 0,AA 0,vI 0,v4,zN,AA y1.toUInt32,vS y2] FE E E E E) E) (AY (M:=[_,_]) ⟨v4,zN,E,E⟩ fun _ hw=>BZ.pick (H:=[_,_,_,_,_,_]) hw [4,5] 6 E)
def Jw(y2:UInt64)(y3:UInt64)(c2:UInt8)(l1:List Ac):Option (BR×Bool):=
 some ((⟨2,y2.toUInt32,y3.toUInt32,(c2.toNat:Int),[],l1,0,[]⟩:BR),true)
def EQ(n:Nat)(p0:List UInt8)(y2:UInt64)(y3:UInt64)(c2:UInt8)(nx_f_ref10_inner_l1:List Ac×Int→Option (BR×Bool))(l2:List Ac)(a1:Int):Option (BR×Bool):=
 cond (decide (a1<(p0.length:Int)))
 (
  (Cz p0 a1 (wI (a1+4))).bind fun s3=>
  (El n s3).bind fun y4=>
  (Cz p0 (wI (a1+4)) (wI (a1+36))).bind fun s4=>
  (Cp 24 l2 [(⟨y4.toUInt32,s4⟩:Ac)]).bind fun l3=>
  ret (wI (a1+36)) fun x1=>
  nx_f_ref10_inner_l1 (l3,x1))
 (
  Jw y2 y3 c2 l2)
def EY(n:Nat)(p0:List UInt8)(y2:UInt64)(y3:UInt64)(c2:UInt8):Nat→(List Ac×Int)→Option (BR×Bool):=Bu fun nx x=>EQ n p0 y2 y3 c2 nx x.1 x.2
def GH(n:Nat)(p0:List UInt8):Option (BR×Bool):=
 (OF (decide ((p0.length:Int)<11)) ((Ao p0 1).bind fun c1=>some (!decide ((p0.length:Int)=wI (11+(wI (36*(c1.toNat:Int)))))))).bind fun y1=>
 cond y1
 (
  some ((⟨2,0,0,0,[],[],0,[]⟩:BR),false))
 (
  (Cz p0 3 7).bind fun s1=>
  (El n s1).bind fun y2=>
  (Cz p0 7 11).bind fun s2=>
  (El n s2).bind fun y3=>
  (Ao p0 2).bind fun c2=>
  EY n p0 y2 y3 c2 n ([],11))
theorem Xf{n:Nat}{p0:List UInt8}{r:BR×Bool}(h:GH n p0=some r): zC K w0 133 [vS p0] [] H (fun u M=>∃Fm Fi:Value,u=.tuple #[.agg #[vI r.1.kind,AA r.1.cx,AA r.1.cy,vI r.1.lev,Fm,Fi,AA r.1.npage,vS r.1.ntag],vB r.2]∧M=[AH 79 4 Fm AJ r.1.rows,AH 31 2 Fi Af r.1.kids]):=by
 unfold GH at h
 refine UJ.enter Tryz.func133 rfl rfl ?_
 refine Z ?_
 refine Ag E Gk zU fun b1=>?_
 refine Bi 79 4 AJ (Bi 31 2 Af (O E (Y (Z (BK [_] E Pu Ph Gk ⟨E,zT⟩ E ?_)))))
 refine Ag E Gk zU fun b2=>?_
 refine Bi 79 4 AJ (Bi 31 2 Af (Aj 2 E E E E HD E E E zT (Bi 79 4 AJ (Bi 31 2 Af (Y (AE (Z ?_)))))))
 refine AC h fun y1 hy1 h=>?_
 refine J E (BS E Bj E (V E Aw (J E ?_)))
 refine Lp 10 9 19 hy1 E (fun hb k=>?_) (fun hb hg1 k=>?_) ?_
 refine AB E (AB E (AB E (AB E (AB E (AB E (AB E (AB E ?_)))))))
 refine Ae E E E ?_
 exact k.mono tL
 obtain⟨c1,hc1,hg1⟩:=bnd hg1
 obtain rfl:=zI hg1
 refine J E (BS E Bj E (J E (Di hc1 E Bj E E (Au E E (Ma Cl FW) (V E Ir (V E Ay (V E Bg ?_)))))))
 refine Ae E E E ?_
 exact k.mono tL
 refine Y ?_
 refine AT h E (fun hc1 h=>?_) fun hc1 h=>?_
 refine Z (Ab [vI 2,AA 0,AA 0,vI 0,zN,zN,AA 0,vS []] E FE E E (AZ 4 E) ?_)
 refine Br 1 E fun hv1 ho1=>?_
 refine Br 0 E fun hv2 ho2=>?_
 refine Aj 7 E E E E HD E (by simp only[Value.oneCell']at ho1 ho2;simp[Value.cells,Value.cells,Value.oneCell',ho1,ho2]) E zT (O E (Y (AL (Aa ?_))))
 obtain rfl:=zI h
 exact AX (DR E (BC 7 [vI 2,AA 0,AA 0,vI 0,zN,zN,AA 0,vS []] FE E E E E) E) (AY (M:=[_,_]) ⟨zN,zN,E,E⟩ fun _ hw=>BZ.pick (H:=[_,_,_,_,_,_,_,_]) hw [1,0] 8 E)
 refine AI (AG (AE ?_))
 refine AC h fun s1 hs1 h=>?_
 refine AC h fun y2 hy2 h=>?_
 refine AC h fun s2 hs2 h=>?_
 refine AC h fun y3 hy3 h=>?_
 refine AC h fun c2 hc2 h=>?_
 refine Ak Ca [] (Bo [(true,0),(true,1),(true,4),(true,5),(true,8),(true,9),(true,10),(false,2),(true,3),(false,6),(true,7),(true,11),(true,12)] (.last 13 .nil)) zK (J E (Id hs1 E Bj E E E (J E (Id hs2 E Bj E E E (J E (Di hc2 E Bj E E (Au E E (Ma Cl FW) ?_)))))))
 refine AQ 0 Q1 (JM hy2) E (Au E E (Ce CQ Bv) (AQ 0 Q1 (JM hy3) E (Au E E (Ce CQ Bv) (BK [_,_,_] E P0 QE J8 ⟨E,E,E,zT⟩ E (AD E GW (BN (Aj 4 E E E E N7 E E E zT (Y ?_))))))))
 refine A4 (α:=List Ac×Value) (fun x=>Jw y2 y3 c2 x.1=some r) (fun x=>[(2,vP b1 0),(4,vP b2 0)]) (fun x=>AN b1 (.cells #[vI 0,AA 0,AA 0,vI 0,zN,zN,AA 0,vS []] 148)::AH 79 4 zN AJ []::AH 31 2 zN Af []::AN b2 (.cells #[vI 2,AA y2.toUInt32,AA y3.toUInt32,vI (c2.toNat:Int),zN,x.2,AA 0,vS []] 148)::AH 79 4 zN AJ []::AH 31 2 x.2 Af x.1::H) ?_ (fun x D h=>?_)
 refine Z (O E (Y (AM ?_)))
 refine SX.heap (SX.mono (A5 (α:=Nat×List Ac×Value×Int) (fun x=>EY n p0 y2 y3 c2 x.1 (x.2.1,x.2.2.2)=some r) (fun x=>[(0,vS p0),(2,vP b1 0),(4,vP b2 0),(5,vI x.2.2.2)]) (fun x=>AN b1 (.cells #[vI 0,AA 0,AA 0,vI 0,zN,zN,AA 0,vS []] 148)::AH 79 4 zN AJ []::AH 31 2 zN Af []::AN b2 (.cells #[vI 2,AA y2.toUInt32,AA y3.toUInt32,vI (c2.toNat:Int),zN,x.2.2.1,AA 0,vS []] 148)::AH 79 4 zN AJ []::AH 31 2 x.2.2.1 Af x.2.1::H) (fun x=>x.1) (fun x D h=>?_) (n,[],zN,11) h) tL) (BB [7,6,5,4,1,0] 8 E E E)
 obtain⟨m1,l2,v2,a1⟩:=x
 dsimp only at h
 rcases m1 with _ | m1
 cases (show(none:Option _)=some r from h)
 replace h:EQ n p0 y2 y3 c2 (EY n p0 y2 y3 c2 m1) l2 a1=some r:=h
 unfold EQ at h
 try dsimp only
 refine AE (Z (J E (J E (BS E Bj E (V E Aw (Y ?_))))))
 refine AT h E (fun hc2 h=>?_) fun hc2 h=>?_
 refine AI (AG (AE (AM ?_)))
 refine AC h fun s3 hs3 h=>?_
 refine AC h fun y4 hy4 h=>?_
 refine AC h fun s4 hs4 h=>?_
 refine AC h fun l3 hl3 h=>?_
 refine Ak Ca [3] (Bo [(true,0),(true,1),(true,2),(true,3),(true,4),(true,5),(true,6),(true,9),(true,10),(true,11),(true,12),(true,13),(true,14),(false,7),(true,8),(true,15),(false,16),(false,17),(true,18)] (.last 19 .nil)) zK (AD E Dg (AF 0 Hi E (J E (J E (J E (V E Ay (Id hs3 E Bj E E E ?_)))))))
 refine J E (J E (V E Ay (J E (V E Ay (Id hs4 E Bj E E E (BO 0 Q1 (JM hy4) E ⟨⟨3,E⟩,zT⟩ (Au E E (Ce CQ Bv) ?_)))))))
 refine BK [_,_] E LR LU Dc ⟨E,E,zT⟩ E ?_
 refine Bz [_] rfl Ep DH Dc ⟨rfl,trivial⟩ rfl rfl rfl zW rfl rfl (fun _=>⟨⟨4,rfl⟩,trivial⟩) fun b3=>?_
 refine B4 Af 2 ([(⟨y4.toUInt32,s4⟩:Ac)]:List Ac) E zV E ?_
 refine CW 6 hl3 (sz:=2) (enc:=Af) zV E Ep DH en Dc E zD E E E E (By (sz:=2) (enc:=Af) 0 zV E) (by simp[Af,Value.oneCell']) (fun _=>⟨⟨4,E⟩,zT⟩) fun v3=>?_
 refine AD E Dg (BN ?_)
 refine Br 6 E fun hv3 ho3=>?_
 refine Dy 4 E E E E bj hv3 ho3 E zT (AU (An (AG (AK ?_))))
 obtain⟨x1,ex1,h⟩:=Bn h
 refine J E (V E Ay ?_)
 refine Am (u:=vI x1) E E (congrArg vI ex1) ?_
 refine AU ?_
 exact Ai (m1,l3,v3,x1) h (Nat.lt_succ_self _) tL (BB [1,2,3,4,5,6] 7 E E E)
 refine Ax (A3 (BL (Az ?_)))
 exact Av (l2,v2) h tL (BB [0,1,2,3,4,5] 6 E E E)
 obtain⟨l1,v1⟩:=x
 dsimp only at h
 unfold Jw at h
 try dsimp only
 refine Z (Ab [vI 2,AA y2.toUInt32,AA y3.toUInt32,vI (c2.toNat:Int),zN,v1,AA 0,vS []] E FE E E (AZ 3 E) ?_)
 refine Br 4 E fun hv4 ho4=>?_
 refine Br 5 E fun hv5 ho5=>?_
 refine Aj 0 E E E E HD E (by simp only[Value.oneCell']at ho4 ho5;simp[Value.cells,Value.cells,Value.oneCell',ho4,ho5]) E zT (O E (Y (AL ?_)))
 obtain rfl:=zI h
 exact AX (DR E (BC 0 [vI 2,AA y2.toUInt32,AA y3.toUInt32,vI (c2.toNat:Int),zN,v1,AA 0,vS []] FE E E E E) E) (AY (M:=[_,_]) ⟨zN,v1,E,E⟩ fun _ hw=>BZ.pick (H:=[_,_,_,_,_,_]) hw [4,5] 6 E)
def Ck(n:Nat)(y1:Int)(y2:UInt32)(y3:UInt32)(y4:Int)(l1:List AP)(l2:List Ac)(y5:UInt32)(y6:List UInt8)(a1:Bool):Option (BR×Int):=
 (Io n (⟨y1,y2,y3,y4,l1,l2,y5,y6⟩:BR)).bind fun y11=>
 cond ((!a1)||(!y11))
 (
  some ((⟨0,0,0,0,[],[],0,[]⟩:BR),90))
 (
  some ((⟨y1,y2,y3,y4,l1,l2,y5,y6⟩:BR),0))
def Fa(n:Nat)(p0:List UInt8):Option (BR×Int):=
 (FZ (decide (0<(p0.length:Int))) ((Ao p0 0).bind fun c1=>some (decide (c1=1)))).bind fun y7=>
 cond y7
 (
  (Fx n p0).bind fun y8=>
  Ck n y8.1.kind y8.1.cx y8.1.cy y8.1.lev y8.1.rows y8.1.kids y8.1.npage y8.1.ntag y8.2)
 (
  (FZ (decide (0<(p0.length:Int))) ((Ao p0 0).bind fun c2=>some (decide (c2=2)))).bind fun y9=>
  cond y9
  (
   (GH n p0).bind fun y10=>
   Ck n y10.1.kind y10.1.cx y10.1.cy y10.1.lev y10.1.rows y10.1.kids y10.1.npage y10.1.ntag y10.2)
  (
   Ck n 0 0 0 0 [] [] 0 [] false))
theorem Wy{n:Nat}{p0:List UInt8}{r:BR×Int}(h:Fa n p0=some r): zC K w0 88 [vS p0] [] H (fun u M=>∃Fm Fi:Value,u=.tuple #[.agg #[vI r.1.kind,AA r.1.cx,AA r.1.cy,vI r.1.lev,Fm,Fi,AA r.1.npage,vS r.1.ntag],vI r.2]∧M=[AH 79 4 Fm AJ r.1.rows,AH 31 2 Fi Af r.1.kids]):=by
 unfold Fa at h
 refine UJ.enter Tryz.func88 rfl rfl ?_
 refine Z ?_
 refine Ag E Gk zU fun b1=>?_
 refine Bi 79 4 AJ (Bi 31 2 Af (O E (Y (Z (BK [] E Pu Ph Gk zT E ?_)))))
 refine Ag E Gk zU fun b2=>?_
 refine Bi 79 4 AJ (Bi 31 2 Af (Aj 2 E E E E HD E E E zT (Bi 79 4 AJ (Bi 31 2 Af (Y (Z (O E (Y ?_))))))))
 refine A4 (α:=Int×UInt32×UInt32×Int×List AP×Value×List Ac×Value×UInt32×List UInt8×Bool) (fun x=>Ck n x.1 x.2.1 x.2.2.1 x.2.2.2.1 x.2.2.2.2.1 x.2.2.2.2.2.2.1 x.2.2.2.2.2.2.2.2.1 x.2.2.2.2.2.2.2.2.2.1 x.2.2.2.2.2.2.2.2.2.2=some r) (fun x=>[(2,vP b1 0),(4,vP b2 0),(5,vB x.2.2.2.2.2.2.2.2.2.2)]) (fun x=>AN b1 (.cells #[vI 0,AA 0,AA 0,vI 0,zN,zN,AA 0,vS []] 148)::AH 79 4 zN AJ []::AH 31 2 zN Af []::AN b2 (.cells #[vI x.1,AA x.2.1,AA x.2.2.1,vI x.2.2.2.1,x.2.2.2.2.2.1,x.2.2.2.2.2.2.2.1,AA x.2.2.2.2.2.2.2.2.1,vS x.2.2.2.2.2.2.2.2.2.1] 148)::AH 79 4 x.2.2.2.2.2.1 AJ x.2.2.2.2.1::AH 31 2 x.2.2.2.2.2.2.2.1 Af x.2.2.2.2.2.2.1::H) ?_ (fun x D h=>?_)
 refine Z ?_
 refine AC h fun y7 hy7 h=>?_
 refine J E (BS E Bj E (V E CY (J E ?_)))
 refine EA 11 4 15 hy7 E (fun hb hg1 k=>?_) (fun hb k=>?_) ?_
 obtain⟨c1,hc1,hg1⟩:=bnd hg1
 obtain rfl:=zI hg1
 refine J E (Di hc1 E Bj E E ?_)
 refine V E (Nf (b:=1)) ?_
 refine Ae E E E ?_
 exact k.mono tL
 refine AB E (AB E (AB E (Ae E E E ?_)))
 exact k.mono tL
 refine Y ?_
 refine AT h E (fun hc1 h=>?_) fun hc1 h=>?_
 refine AK ?_
 refine AC h fun y8 hy8 h=>?_
 refine J E (Bp 0 pA (Zb hy8) E ?_)
 rintro _ _ ⟨v3,v4,rfl,rfl⟩
 refine J E (Al E E E (Al E E E ?_))
 refine Br 0 E fun hv1 ho1=>?_
 refine Br 1 E fun hv2 ho2=>?_
 refine Aj 6 E E E E HD E (by simp only[Value.oneCell']at ho1 ho2;simp[Value.cells,Value.cells,Value.oneCell',ho1,ho2]) E zT (O E (AU ?_))
 exact Av (y8.1.kind,y8.1.cx,y8.1.cy,y8.1.lev,y8.1.rows,v3,y8.1.kids,v4,y8.1.npage,y8.1.ntag,y8.2) h tL (BB [9,8,7,6,0,1] 10 E E E)
 refine Z ?_
 refine AC h fun y9 hy9 h=>?_
 refine J E (BS E Bj E (V E CY (J E ?_)))
 refine EA 24 4 28 hy9 E (fun hb hg2 k=>?_) (fun hb k=>?_) ?_
 obtain⟨c2,hc2,hg2⟩:=bnd hg2
 obtain rfl:=zI hg2
 refine J E (Di hc2 E Bj E E ?_)
 refine V E (Nf (b:=2)) ?_
 refine Ae E E E ?_
 exact k.mono tL
 refine AB E (AB E (AB E (Ae E E E ?_)))
 exact k.mono tL
 refine Y ?_
 refine AT h E (fun hc2 h=>?_) fun hc2 h=>?_
 refine AK ?_
 refine AC h fun y10 hy10 h=>?_
 refine J E (Bp 0 q9 (Xf hy10) E ?_)
 rintro _ _ ⟨v5,v6,rfl,rfl⟩
 refine J E (Al E E E (Al E E E ?_))
 refine Br 0 E fun hv3 ho3=>?_
 refine Br 1 E fun hv4 ho4=>?_
 refine Aj 6 E E E E HD E (by simp only[Value.oneCell']at ho3 ho4;simp[Value.cells,Value.cells,Value.oneCell',ho3,ho4]) E zT (O E (AU ?_))
 exact Av (y10.1.kind,y10.1.cx,y10.1.cy,y10.1.lev,y10.1.rows,v5,y10.1.kids,v6,y10.1.npage,y10.1.ntag,y10.2) h tL (BB [9,8,7,6,0,1] 10 E E E)
 refine AI ?_
 exact Av (0,0,0,0,[],zN,[],zN,0,[],false) h tL (BB [7,6,5,4,1,0] 8 E E E)
 obtain⟨y1,y2,y3,y4,l1,v1,l2,v2,y5,y6,a1⟩:=x
 dsimp only at h
 unfold Ck at h
 try dsimp only
 refine Z ?_
 refine AC h fun y11 hy11 h=>?_
 refine Ab [vI y1,AA y2,AA y3,vI y4,v1,v2,AA y5,vS y6] E FE E E (AZ 3 E) (SL.pick [4,5,0,1,2,3] 6 ?_)
 refine Bm (vs:=[_]) (Hin:=[_,_]) (Hr:=_::_::_::_::_) E E ⟨E,zT⟩ jK E E (Cb (B:=[_,_]) (Hin:=[]) fun K' w1 hk hB=>(SZ hy11 (CC (e:=79) (v:=v1) zV (hB _ zS)) (CC (e:=31) (v:=v2) zV (hB _ zS)) :)) ?_
 rintro _ _ ⟨_,rfl,rfl,rfl⟩
 refine⟨trivial,?_⟩
 refine O E (Y (AE (Z (J E (CN E E (J E ?_))))))
 refine DL (c := !y11) 38 3 41 E (fun hb k=>?_) (fun hb k=>?_) ?_
 refine AB E (AB E (Ae E E E ?_))
 exact k.mono tL
 refine J E (CN E E (Ae E E E ?_))
 exact k.mono tL
 refine Y ?_
 refine AT h E (fun hc3 h=>?_) fun hc3 h=>?_
 refine Z (BK [] E Pu Ph Gk zT E (Aj 2 E E E E HD E E E zT (Bi 79 4 AJ (Bi 31 2 Af (O E (Y (AL (Aa ?_))))))))
 obtain rfl:=zI h
 exact AX (DR E (BC 4 [vI 0,AA 0,AA 0,vI 0,zN,zN,AA 0,vS []] FE E E E E) E) (AY (M:=[_,_]) ⟨zN,zN,E,E⟩ fun _ hw=>BZ.pick (H:=[_,_,_,_,_,_,_,_]) hw [1,0] 8 E)
 refine AI (AG (Z (Ab [vI y1,AA y2,AA y3,vI y4,v1,v2,AA y5,vS y6] E FE E E (AZ 5 E) ?_)))
 refine Br 0 E fun hv5 ho5=>?_
 refine Br 1 E fun hv6 ho6=>?_
 refine Aj 2 E E E E HD E (by simp only[Value.oneCell']at ho5 ho6;simp[Value.cells,Value.cells,Value.oneCell',ho5,ho6]) E zT (O E (Y (AL ?_)))
 obtain rfl:=zI h
 exact AX (DR E (BC 2 [vI y1,AA y2,AA y3,vI y4,v1,v2,AA y5,vS y6] FE E E E E) E) (AY (M:=[_,_]) ⟨v1,v2,E,E⟩ fun _ hw=>BZ.pick (H:=[_,_,_,_,_,_]) hw [0,1] 6 E)
end

section
variable {K:Nat→Prop}{w0:World}{H:List AV}
theorem ir(b:Nat)(p v:Value)(e:TypeId)(n:UInt64)(w m:Nat)(xs:List UInt8)(hp:PH b p)(hl:Zy e)(hw:w≤8)(hm:m≤1048576):zC K w0 170 [vP b 0,Ap n,vI w] [AN b (.cells #[p,v] e),DF 5 1 v m (xs.map fun b=>Dn b)] H (fun r M=>r=.tuple #[]∧∃p' v',PH b p'∧M=[AN b (.cells #[p',v'] e),DF 5 1 v' (m+w) ((xs++BA n w).map fun b=>Dn b)]):=by
 refine UJ.enter Tryz.func170 rfl rfl ?_
 refine Z (J E (J E (Y (AM ?_))))
 refine SX.mono (A5 (α:=Nat×Value×Value) (fun x=>x.1≤w∧PH b x.2.1) (fun x=>[(0,vP b 0),(1,Ap n),(7,vI w),(8,vI x.1)]) (fun x=>AN b (.cells #[x.2.1,x.2.2] e)::DF 5 1 x.2.2 (m+x.1) ((xs++BA n x.1).map fun b=>Dn b)::H) (fun x=>w-x.1) (fun x D hp=>?_) (0,p,v) ⟨Nat.zero_le _,hp⟩ |>.heap (fun w h=>by simpa[BA]using h)) tL
 obtain⟨i,p,v⟩:=x
 obtain⟨hi,hadr⟩:=hp
 simp only at hi hadr
 refine Z (V E Aw (Y (AE ?_)))
 refine As E (fun hc1=>?_) (fun hc1=>?_)
 have hlt:i<w:=by simpa using hc1
 refine AI (AG (AE (AM (Z (J E (O E (Y (Ak Ca [] (Bo [(true,0),(true,1),(true,2),(true,3),(true,4),(true,5),(true,6),(true,7)] (.last 8 .nil)) zK (J E (AW E E (AD E Sd (J E (J E ?_)))))))))))))
 refine V E (Ky zO zO) ?_
 refine V E (E0.shr64 (n:=(8*i))) ?_
 refine Au E E (Gu CQ Cl) (BN (Bp 2 XD (OM e b p v (m+i) _ _ hadr hl zO) E ?_))
 rintro _ _ ⟨rfl,v',rfl⟩
 refine AU (An (AG (AK (V E (BU zO zO) (J E (AU ?_))))))
 refine Ai (i+1,vP b 0,v') ⟨hlt,.inr E⟩ (by simp only;omega) tL (fun w hw=>?_)
 simp only
 rw[R9,←List.append_assoc,List.map_append (l₁:=xs++BA n i),←Nat.add_assoc]
 exact hw
 have hie:i=w:=by simp at hc1;omega
 subst hie
 refine Ax (A3 (BL (Az ?_)))
 exact Cr (DU E) (AY (M:=[_,_]) ⟨E,p,v,hadr,E⟩ fun _ h=>h)
abbrev Ti(v:Value)(s:List UInt8):AV:=DF 5 1 v s.length (s.map fun b=>Dn b)
abbrev fS(b:Nat)(p v:Value):AV:=AN b (.cells #[p,v] 243)
def Js(s:List UInt8)(n:UInt64)(w:Int):Option (List UInt8):=if s.length≤1048576∧0≤w∧w≤8 then some (s++BA n w.toNat)else none
def Yd(s t:List UInt8):Option (List UInt8):=if s.length≤1048576∧t.length≤1048576 then some (s++t)else none
def bD(s:List UInt8):Option (List UInt8×Int):=if s.length≤4194304 then some (s,0)else none
theorem Mr{b:Nat}{p v:Value}{s r:List UInt8}{n:UInt64}{w:Int}(h:Js s n w=some r)(ha:PH b p):zC K w0 170 [vP b 0,Ap n,vI w] [fS b p v,Ti v s] H (fun u M=>u=.tuple #[]∧∃p' v',PH b p'∧M=[fS b p' v',Ti v' r]):=by
 unfold Js at h
 split at h
 rename_i hc
 obtain⟨hl,h0,h8⟩:=hc
 obtain rfl:=zI h
 obtain⟨k,rfl⟩:=Int.eq_ofNat_of_zero_le h0
 have hk:(s++BA n k).length=s.length+k:=by simp[Ah]
 have:=ir (K:=K) (w0:=w0) (H:=H) b p v 243 n k s.length s ha nF zO hl
 refine UJ.mono this ?_
 rintro u M ⟨rfl,p',v',ha',rfl⟩
 refine⟨rfl,p',v',ha',?_⟩
 rw[Ti,Int.toNat_natCast,hk]
 cases h
theorem jd{b:Nat}{p v:Value}{s t r:List UInt8}(h:Yd s t=some r)(ha:PH b p):zC K w0 101 [vP b 0,vS t] [fS b p v,Ti v s] H (fun u M=>u=.tuple #[vI t.length,.nilIface]∧∃p' v',PH b p'∧M=[fS b p' v',Ti v' r]):=by
 unfold Yd at h
 split at h
 rename_i hc
 obtain⟨hl,ht⟩:=hc
 obtain rfl:=zI h
 refine UJ.mono (Mc 243 b p v s.length (s.map fun b=>Dn b) t ha nF zO) ?_
 rintro u M ⟨rfl,v',rfl⟩
 refine⟨rfl,vP b 0,v',.inr rfl,?_⟩
 simp[Ti,List.length_append]
 cases h
def Vt(s:List UInt8)(r:Ac):Option (List UInt8):=
 if r.tag.length≤32 then(Js s r.page.toUInt64 4).bind fun s1=>(O6 [0] (32-(r.tag.length:Int))).bind fun z=>(FR r.tag z).bind fun u=>Yd s1 u else none
theorem je{b:Nat}{p v:Value}{s r:List UInt8}{x:Ac}(h:Vt s x=some r)(ha:PH b p):zC K w0 171 [vP b 0,.agg (Af x).toArray] [fS b p v,Ti v s] H (fun u M=>u=.tuple #[]∧∃p' v',PH b p'∧M=[fS b p' v',Ti v' r]):=by
 unfold Vt at h
 split at h
 case isFalse=>cases h
 rename_i hlen
 refine AC h fun s1 hs1 h=>?_
 refine AC h fun z hz h=>?_
 refine AC h fun u hu h=>?_
 refine UJ.enter Tryz.func171 rfl rfl ?_
 refine Z ?_
 refine Bd E E zU fun b0=>?_
 refine Y (SX.pick [1,2,0] 3 (Z (J E (AD E MY (AF 2 A6 E (Au E E (Ci Bv CQ) (Bp 2 MW (Mr hs1 ha) E ?_)))))))
 rintro _ _ ⟨rfl,p1,v1,ha1,rfl⟩
 refine Y (Ak Ca [2] (Bo [(true,0),(true,1),(true,2),(true,3),(true,4),(true,5),(true,6),(true,7),(true,8),(false,9),(true,10)] (.last 11 .nil)) zK (J E (AW E E (AD E Sd (AD E Ld (AF 0 FX E (AD E Ld (AF 0 FX E ?_))))))))
 refine BS E Bj E (V E (Dh zO zO) (BO 0 Ps (UO hz) E ⟨⟨2,E⟩,zT⟩ (V E (CV hu) (BN (Bp 2 U8 (jd h ha1) E ?_)))))
 rintro _ _ ⟨rfl,p2,v2,ha2,rfl⟩
 refine AU ?_
 exact Cr (DU E) (AY (M:=[_,_]) ⟨E,p2,v2,ha2,E⟩ fun _ hw=>BZ.pick (H:=[_,_,_]) hw [0,1] 3 E)
def ER(p0:BR)(nx:List UInt8×Int→Option (List UInt8×Int))(s:List UInt8)(i:Int):Option (List UInt8×Int):=
 cond (decide (i<(p0.kids.length:Int))) ((Ao p0.kids i).bind fun x=>(Vt s x).bind fun s1=>nx (s1,wI (i+1))) (bD s)
def GL(p0:BR):Nat→List UInt8×Int→Option (List UInt8×Int):=Bu fun nx x=>ER p0 nx x.1 x.2
def ET(p0:BR)(nx:List UInt8×Int→Option (List UInt8×Int))(s:List UInt8)(i:Int):Option (List UInt8×Int):=
 cond (decide (i<(p0.rows.length:Int))) ((Ao p0.rows i).bind fun x=>(Js s x.id 8).bind fun s1=>(Js s1 x.x.toUInt64 4).bind fun s2=>(Js s2 x.y.toUInt64 4).bind fun s3=>(Js s3 (BW (x.txt.length:Int)) 1).bind fun s4=>(Yd s4 x.txt).bind fun s5=>nx (s5,wI (i+1))) (bD s)
def GM(p0:BR):Nat→List UInt8×Int→Option (List UInt8×Int):=Bu fun nx x=>ET p0 nx x.1 x.2
def Eh(n:Nat)(p0:BR):Option (List UInt8×Int):=
 (Jp n p0).bind fun y=>cond (!y) (some ([],90))
  ((Js [] (BW p0.kind) 1).bind fun s1=>cond (decide (p0.kind=2))
   ((Js s1 (BW (p0.kids.length:Int)) 1).bind fun s2=>(Js s2 (BW p0.lev) 1).bind fun s3=>(Js s3 p0.cx.toUInt64 4).bind fun s4=>(Js s4 p0.cy.toUInt64 4).bind fun s5=>GL p0 n (s5,0))
   ((Js s1 (BW (p0.rows.length:Int)) 1).bind fun s2=>(Vt s2 ⟨p0.npage,p0.ntag⟩).bind fun s3=>GM p0 n (s3,0)))
theorem ZC{n:Nat}{Fm Fi:Value}{p0:BR}{r:List UInt8×Int}(h:Eh n p0=some r)(hs0_4:CJ K w0 AJ 4 Fm p0.rows)(hs0_5:CJ K w0 Af 2 Fi p0.kids):zC K w0 125 [.agg #[vI p0.kind,AA p0.cx,AA p0.cy,vI p0.lev,Fm,Fi,AA p0.npage,vS p0.ntag]] [] H (fun u M=>u=.tuple #[vS r.1,vI r.2]∧M=[]):=by
 unfold Eh at h
 refine AC h fun y hy h=>?_
 refine UJ.enter Tryz.func125 rfl rfl ?_
 refine Z ?_
 refine Bd E E zU fun b0=>?_
 refine O E (O E (Y (AE (Z (Ab [vI p0.kind,AA p0.cx,AA p0.cy,vI p0.lev,Fm,Fi,AA p0.npage,vS p0.ntag] E FE E E (AZ 0 E) (AQ 0 jP (TR hy hs0_4 hs0_5) E (CN E E (Y ?_))))))))
 refine AT h E (fun hc1 h=>?_) fun hc1 h=>?_
 obtain rfl:=zI h
 refine Z (O E (O E (Y (AL (Aa ?_)))))
 exact Ad [] 1 E E E
 refine AC h fun s1 hs1 h=>?_
 refine AI (AG (Z ?_))
 refine Ag E sP zU fun b1=>?_
 refine Y (Z ?_)
 refine Hb (fv:=#[_]) (cv:=#[]) E E E ?_
 refine O E (Y (JG 5 1 (SX.pick [1,0,2] 3 (Z (J E (AD E Oh (AF 2 D3 E (Au E E (Df FW CQ) (Bp 2 MW (Mr hs1 (.inl E)) E ?_)))))))))
 rintro _ _ ⟨rfl,p1,v1,ha1,rfl⟩
 refine Y (AE (Z (AD E Oh (AF 2 D3 E (V E CH (Y ?_))))))
 refine AT h E (fun hc2 h=>?_) fun hc2 h=>?_
 refine AC h fun s2 hs2 h=>?_
 refine AC h fun s3 hs3 h=>?_
 refine AC h fun s4 hs4 h=>?_
 refine AC h fun s5 hs5 h=>?_
 refine Z (J E (AD E Dg (AF 2 Hi E (B1 hs0_5 E Ep E (Au E E (Df FW CQ) (Bp 2 MW (Mr hs2 ha1) E ?_))))))
 rintro _ _ ⟨rfl,p2,v2,ha2,rfl⟩
 refine Y (Z (J E (AD E GW (AD E EX (AF 2 D3 E (Au E E (Df FW CQ) (Bp 2 MW (Mr hs3 ha2) E ?_)))))))
 rintro _ _ ⟨rfl,p3,v3,ha3,rfl⟩
 refine Y (Z (J E (AD E GW (AD E Ha (AF 2 A6 E (Au E E (Ci Bv CQ) (Bp 2 MW (Mr hs4 ha3) E ?_)))))))
 rintro _ _ ⟨rfl,p4,v4,ha4,rfl⟩
 refine Y (Z (J E (AD E GW (AD E HY (AF 2 A6 E (Au E E (Ci Bv CQ) (Bp 2 MW (Mr hs5 ha4) E ?_)))))))
 rintro _ _ ⟨rfl,p5,v5,ha5,rfl⟩
 refine Y (AE (Z (AD E Dg (AF 2 Hi E (B1 hs0_5 E Ep E (J E (Y (AM ?_))))))))
 refine SX.mono (A5 (α:=Nat×List UInt8×Int×Value×Value) (fun x=>GL p0 x.1 (x.2.1,x.2.2.1)=some r∧PH b1 x.2.2.2.1) (fun x=>[(4,vP b1 0),(47,Fi),(48,vI (p0.kids.length:Int)),(49,vI x.2.2.1)]) (fun x=>fS b1 x.2.2.2.1 x.2.2.2.2::Ti x.2.2.2.2 x.2.1::AN b0 (.cells #[vI p0.kind,AA p0.cx,AA p0.cy,vI p0.lev,Fm,Fi,AA p0.npage,vS p0.ntag] 148)::H) (fun x=>x.1) (fun x D hp=>?_) (n,s5,0,p5,v5) ⟨h,ha5⟩) tL
 obtain⟨m1,s,i,p,v⟩:=x
 obtain⟨h,ha⟩:=hp
 dsimp only at h ha
 rcases m1 with _ | m1
 cases (show(none:Option _)=some r from h)
 replace h:ER p0 (GL p0 m1) s i=some r:=h
 unfold ER at h
 try dsimp only
 refine Z (V E Aw (Y (AE ?_)))
 refine AT h E (fun hc3 h=>?_) fun hc3 h=>?_
 refine AC h fun x1 hx1 h=>?_
 refine AC h fun t1 ht1 h=>?_
 refine AI (AG (AE (AM (Z ?_))))
 refine Cm hx1 hs0_5 E Ep DH E E fun be1 of1 hc4=>?_
 refine Ab (Af x1) E Cf E E (C2 hc4) ?_
 refine Ag E Dc zU fun b2=>?_
 refine Aj 0 E E E E DH E E E zT (Y (SX.pick [1,2,0,3] 4 (AK (Ab (Af x1) E Cf E E (AZ 2 E) (Bp 2 jV (je ht1 ha) E ?_)))))
 rintro _ _ ⟨rfl,p6,v6,ha6,rfl⟩
 refine AU (An (AG (AK (V E Ay (J E (AU ?_))))))
 exact Ai (m1,t1,wI (i+1),p6,v6) ⟨h,ha6⟩ (Nat.lt_succ_self _) tL (BB [0,1,3] 4 E E E)
 have hend:s.length≤140737488355328∧r=(s,0):=by
  unfold bD at h
  split at h
  rename_i hc
  exact⟨by omega,(zI h).symm⟩
  cases h
 obtain⟨hend,rfl⟩:=hend
 refine Ax (A3 (BL (Az (AG (Z (AD E Sd (AQ 2 OK (Ku 243 b1 p v s.length s hend) E (O E (O E (Y (AL (Aa ?_))))))))))))
 exact Ad [] 3 E E E
 refine AC h fun s2 hs2 h=>?_
 refine AC h fun s3 hs3 h=>?_
 refine AI (AG (Z (J E (AD E Fk (AF 2 FF E (B1 hs0_4 E Bt E (Au E E (Df FW CQ) (Bp 2 MW (Mr hs2 ha1) E ?_))))))))
 rintro _ _ ⟨rfl,p2,v2,ha2,rfl⟩
 refine Y (Z (AD rfl E4 (Ab (Af ⟨p0.npage,p0.ntag⟩) rfl Cf rfl rfl (Cd 2 rfl (by rintro(_ | (_ | j)) u hj<;>first | exact hj | exact absurd hj (by simp[Af]))) (Bp 2 jV (je hs3 ha2) rfl ?_))))
 rintro _ _ ⟨rfl,p3,v3,ha3,rfl⟩
 refine Y (AE (Z (AD E Fk (AF 2 FF E (B1 hs0_4 E Bt E (J E (Y (AM ?_))))))))
 refine SX.mono (A5 (α:=Nat×List UInt8×Int×Value×Value) (fun x=>GM p0 x.1 (x.2.1,x.2.2.1)=some r∧PH b1 x.2.2.2.1) (fun x=>[(4,vP b1 0),(68,Fm),(69,vI (p0.rows.length:Int)),(5,.func (.func 170) #[vP b1 0] #[]),(70,vI x.2.2.1)]) (fun x=>fS b1 x.2.2.2.1 x.2.2.2.2::Ti x.2.2.2.2 x.2.1::AN b0 (.cells #[vI p0.kind,AA p0.cx,AA p0.cy,vI p0.lev,Fm,Fi,AA p0.npage,vS p0.ntag] 148)::H) (fun x=>x.1) (fun x D hp=>?_) (n,s3,0,p3,v3) ⟨h,ha3⟩) tL
 obtain⟨m1,s,i,p,v⟩:=x
 obtain⟨h,ha⟩:=hp
 dsimp only at h ha
 rcases m1 with _ | m1
 cases (show(none:Option _)=some r from h)
 replace h:ET p0 (GM p0 m1) s i=some r:=h
 unfold ET at h
 try dsimp only
 refine Z (V E Aw (Y (AE ?_)))
 refine AT h E (fun hc3 h=>?_) fun hc3 h=>?_
 refine AC h fun x1 hx1 h=>?_
 refine AC h fun t1 ht1 h=>?_
 refine AC h fun t2 ht2 h=>?_
 refine AC h fun t3 ht3 h=>?_
 refine AC h fun t4 ht4 h=>?_
 refine AC h fun t5 ht5 h=>?_
 refine AI (AG (AE (AM (Z ?_))))
 refine Cm hx1 hs0_4 E Bt B2 E E fun be1 of1 hc4=>?_
 refine Ab (AJ x1) E Eo E E (C2 hc4) ?_
 refine Ag E EJ zU fun b2=>?_
 refine Aj 0 E E E E B2 E E E zT (Y (SX.pick [1,2,0,3] 4 (Z (J E (AD E Nb (AF 2 M1 E (Bp 2 MW (Mr ht1 ha) E ?_)))))))
 rintro _ _ ⟨rfl,p4,v4,ha4,rfl⟩
 refine Y (Z (J E (AD E Ig (AF 2 A6 E (Au E E (Ci Bv CQ) (Bp 2 MW (Mr ht2 ha4) E ?_))))))
 rintro _ _ ⟨rfl,p5,v5,ha5,rfl⟩
 refine Y (Z (J E (AD E Ii (AF 2 A6 E (Au E E (Ci Bv CQ) (Bp 2 MW (Mr ht3 ha5) E ?_))))))
 rintro _ _ ⟨rfl,p6,v6,ha6,rfl⟩
 refine Y (Z (J E (AD E Qo (AF 2 FX E (BS E Bj E (Au E E (Df FW CQ) (Bp 2 MW (Mr ht4 ha6) E ?_)))))))
 rintro _ _ ⟨rfl,p7,v7,ha7,rfl⟩
 refine Y (AK (AD E Sd (AD E Qo (AF 2 FX E (Bp 2 U8 (jd ht5 ha7) E ?_)))))
 rintro _ _ ⟨rfl,p8,v8,ha8,rfl⟩
 refine AU (An (AG (AK (V E Ay (J E (AU ?_))))))
 exact Ai (m1,t5,wI (i+1),p8,v8) ⟨h,ha8⟩ (Nat.lt_succ_self _) tL (BB [0,1,3] 4 E E E)
 have hend:s.length≤140737488355328∧r=(s,0):=by
  unfold bD at h
  split at h
  rename_i hc
  exact⟨by omega,(zI h).symm⟩
  cases h
 obtain⟨hend,rfl⟩:=hend
 refine Ax (A3 (BL (Az (AG (Z (AD E Sd (AQ 2 OK (Ku 243 b1 p v s.length s hend) E (O E (O E (Y (AL ?_)))))))))))
 exact Ad [] 3 E E E
end

section
variable {K:Nat→Prop}{w0:World}{H:List AV}
def DV(p0:Co)(p1:Int):Option (List UInt8×Co):=
 cond (decide ((p0.s.length:Int)<p1))
 (
  (O6 [0] p1).bind fun y1=>
  some (y1,{ p0 with short:=true }))
 (
  (Cz p0.s 0 p1).bind fun s1=>
  (Cz p0.s p1 (p0.s.length:Int)).bind fun s2=>
  some (s1,{ p0 with s:=s2 }))
theorem LF{BH:Nat}{p0:Co}{p1:Int}{r:List UInt8×Co}(h:DV p0 p1=some r): zC K w0 203 [vP BH 0,vI p1] [AN BH (.cells #[vS p0.s,vB p0.short] 194)] H (fun u M=>u=vS r.1∧M=[AN BH (.cells #[vS r.2.s,vB r.2.short] 194)]):=by
 unfold DV at h
 refine UJ.enter Tryz.func203 rfl rfl ?_
 refine Z (O E (Y (AE (Z (J E (AW E E (AD E Rz (AF 0 FX E (BS E Bj E (J E (V E Aw (Y ?_))))))))))))
 refine AT h E (fun hc1 h=>?_) fun hc1 h=>?_
 refine Z (J E (AW E E (AD E Yx (Aj 0 E E E E TO E E E zT (Y (Z ?_))))))
 refine AC h fun y1 hy1 h=>?_
 refine J E (AQ 0 Ps (UO hy1) E (O E (Y (AL (Aa ?_)))))
 obtain rfl:=zI h
 exact Ad [0] 1 E E E
 refine AI (AG (Z ?_))
 refine AC h fun s1 hs1 h=>?_
 refine J E (AW E E (AD E Rz (AF 0 FX E (J E (PK hs1 E Bj E E (O E (Y (Z ?_))))))))
 refine AC h fun s2 hs2 h=>?_
 refine J E (J E (AW E E (AD E Rz (AF 0 FX E (J E (SJ hs2 E Bj E E (AW E E ?_)))))))
 refine AD E Rz (Aj 0 E E E E Ix E E E zT (Y (Z (J E (O E (Y (AL ?_)))))))
 obtain rfl:=zI h
 exact Ad [0] 1 E E E
end

section
variable {K:Nat→Prop}{w0:World}{H:List AV}
def CA(p0:Co)(p1:Int):Option (UInt64×Co):=(DV p0 p1).bind fun y=>if y.1.length≤8 then some (B6 y.1 y.1.length,y.2)else none
theorem CO{BH:Nat}{p0:Co}{p1:Int}{r:UInt64×Co}(h:CA p0 p1=some r):zC K w0 162 [vP BH 0,vI p1] [AN BH (.cells #[vS p0.s,vB p0.short] 194)] H (fun u M=>u=Ap r.1∧M=[AN BH (.cells #[vS r.2.s,vB r.2.short] 194)]):=by
 unfold CA at h
 obtain⟨⟨s,q⟩,hy,h⟩:=bnd h
 dsimp only at h
 split at h
 case isFalse=>cases h
 rename_i hlen
 obtain rfl:=zI h
 refine UJ.enter Tryz.func162 rfl rfl ?_
 refine Z (O E (Y (Z (O E (Y (AE (Z (J E (J E (AQ 1 dX (LF hy) E ?_))))))))))
 refine pm E Bj CM Cl E zU fun v1 L1 hL=>?_
 refine nX hL E CM E (J E (Y (AM ?_)))
 refine SX.mono (A5 (α:=Nat) (fun k=>k≤s.length) (fun k=>[(5,Ap (B6 s k)),(11,v1),(12,vI (s.length:Nat)),(13,vI k)]) (fun k=>Fd L1::AN BH (.cells #[vS q.s,vB q.short] 194)::H) (fun k=>s.length-k) (fun k D hp=>?_) 0 (Nat.zero_le _)) tL
 refine Z (V E Aw (Y (AE ?_)))
 refine As E (fun hc1=>?_) (fun hc1=>?_)
 have hk:k<s.length:=by simpa using hc1
 have hn:Ao s (k:Int)=some (s.getD k 0):=by
  rw[Ao,if_pos zO]
  simp[hk]
 refine AI (AG (AE (AM (Z (J E ?_)))))
 refine pu hn hL E CM KH E E fun b1 of1 hc=>?_
 refine Bh E uh E (nz (j:=0) 0 E hc E) ?_
 refine O E (O E (Y (AK (J E (J E (Au E E (Sn Cl CQ) (J E (V E (Ky zO zO) ?_))))))))
 refine V E (E0.shl64 (n:=(8*k))) ?_
 refine V E aL (O E (AU (An (AG (AK (V E (BU zO zO) (J E (AU ?_))))))))
 exact Ai (k+1) hk zO tL
 have hk:k=s.length:=by simp at hc1;omega
 subst hk
 refine Ax (A3 (BL (Az (AG (Z (J E (O E (Y (AL ?_)))))))))
 exact Ad [1] 2 E E E
end

section
variable {K:Nat→Prop}{w0:World}{H:List AV}
def EG(p0:Co):Option (Ac×Co):=
 (CA p0 4).bind fun y1=>
 (DV y1.2 32).bind fun y2=>
 some ((⟨y1.1.toUInt32,y2.1⟩:Ac),y2.2)
theorem PM{BH:Nat}{p0:Co}{r:Ac×Co}(h:EG p0=some r): zC K w0 163 [vP BH 0] [AN BH (.cells #[vS p0.s,vB p0.short] 194)] H (fun u M=>u=.agg (Af r.1).toArray∧M=[AN BH (.cells #[vS r.2.s,vB r.2.short] 194)]):=by
 unfold EG at h
 refine UJ.enter Tryz.func163 rfl rfl ?_
 refine Z ?_
 refine Ag E Dc zU fun b1=>?_
 refine Y (Z ?_)
 refine AC h fun y1 hy1 h=>?_
 refine AC h fun y2 hy2 h=>?_
 refine J E (SL.pick [1,0] 2 (AQ 1 Ie (CO hy1) E (Au E E (Ce CQ Bv) (J E (AQ 1 dX (LF hy2) E (BK [_,_] E LR LU Dc ⟨E,E,zT⟩ E (Aj 1 E E E E DH E E E zT (Y (AL ?_)))))))))
 obtain rfl:=zI h
 exact AX (FD E (BC 1 (Af (⟨y1.1.toUInt32,y2.1⟩:Ac)) Cf E E E E)) (AY (M:=[_]) ⟨E,E⟩ fun _ hw=>BZ.pick (H:=[_,_]) hw [0] 2 E)
end

section
variable {K:Nat→Prop}{w0:World}{H:List AV}
abbrev eR(b:Nat)(q:Co):AV:=AN b (.cells #[vS q.s,vB q.short] 194)
def LL(q:Co):Option (AP×Co):=
 (CA q 8).bind fun a=>(CA a.2 4).bind fun b=>(CA b.2 4).bind fun c=>(CA c.2 1).bind fun d=>(DV d.2 (wI (d.1.toNat:Int))).bind fun e=>some (⟨a.1,b.1.toUInt32,c.1.toUInt32,e.1⟩,e.2)
def Hu(n:Int)(s:Nat×Co):Option (AP×(Nat×Co)):=if(s.1:Int)<n then(LL s.2).bind fun y=>some (y.1,(s.1+1,y.2))else none
def N9(n:Int)(s:Nat×Co):Bool:=decide (n≤(s.1:Int))
theorem gg{n:Int}(s:Nat×Co)(y:AP×(Nat×Co))(h:Hu n s=some y):N9 n s=false:=by
 unfold Hu at h
 split at h
 rename_i hlt
 exact zf zO
 cases h
def Se(_:Co)(n:Int):Option Unit:=if n≤1000000 then some ()else none
theorem lH{q:Co}{n:Int}{u:Unit}(h:Se q n=some u):n≤1000000:=by
 unfold Se at h
 split at h
 assumption
 cases h
theorem qW{b:Nat}{q:Co}{n:Int}{r:Unit}(_:Se q n=some r):zC K w0 164 [vP b 0,vI n] [] H (fun u M=>∃bn bq:Nat,u=.func (.func 204) #[] #[vP bn 0,vP bq 0]∧M=[AN bn (.cells #[vI n] 3),AN bq (.cells #[vP b 0] 192)]):=by
 refine UJ.enter Tryz.func164 rfl rfl ?_
 refine Z ?_
 refine Bd E E zU fun b0=>?_
 refine Bd E E zU fun b1=>?_
 refine O E (Y (Z ?_))
 refine Hb (fv:=#[]) (cv:=#[_,_]) E E E ?_
 refine O E (Y (AL ?_))
 exact DM [0,1] 2 (De E E) E E ⟨_,_,E,E⟩
def md(r:AP):List Value:=[.agg (AJ r).toArray]
theorem qK{bn bq br:Nat}{n:Int}{q0:Co}{u0:Unit}(hu:Se q0 n=some u0)(s0:Co):
  lX Tryz.prog K w0 204 [vP bn 0,vP bq 0] [AN bn (.cells #[vI n] 3),AN bq (.cells #[vP br 0] 192)] md (fun s=>eR br s.2) (Hu n) (fun s=>N9 n s=true) (0,s0):=by
 have hn:=lH hu
 intro lp J9 X T rc G0 hy hdef h0
 refine UJ.enter Tryz.func204 rfl rfl ?_
 show SX _ _ _ _ _ _ _ _ _ (AN bn (.cells #[vI n] 3)::AN bq (.cells #[vP br 0] 192)::eR br s0::((rc::G0)++T))
 refine SX.pick [2,0,1] 3 (Z (AF 1 D3 E (J E (Y (AM ?_)))))
 refine SX.mono (A5 (α:=Nat×Co×List AV) (fun x=>J9 (x.1,x.2.1) x.2.2) (fun x=>[(0,vY lp),(2,vP bq 0),(5,vI n),(6,vI x.1)])
  (fun x=>eR br x.2.1::AN bn (.cells #[vI n] 3)::AN bq (.cells #[vP br 0] 192)::(x.2.2++T)) (fun x=>n.toNat-x.1) (fun x D hp=>?_) (0,s0,rc::G0) h0) tL
 obtain⟨k,q,G⟩:=x
 have hJ:J9 (k,q) G:=hp
 clear hp
 dsimp only
 refine Z (V E Aw (Y (AE ?_)))
 refine As E (fun hc1=>?_) (fun hc1=>?_)
 have hlt:(k:Int)<n:=of_decide_eq_true hc1
 clear hc1
 obtain⟨x,s1,hst⟩:∃x s1,Hu n (k,q)=some (x,s1):=by
  rcases hdef _ _ hJ with hd | hd
  exact absurd hd (by simp[N9];omega)
  exact hd
 have hst0:=hst
 unfold Hu at hst
 rw[if_pos (show(((k,q):Nat×Co).1:Int)<n from hlt)]at hst
 obtain⟨y,hy1,hst⟩:=bnd hst
 unfold LL at hy1
 dsimp only at hy1
 obtain⟨a,ha,hy1⟩:=bnd hy1
 obtain⟨b,hb,hy1⟩:=bnd hy1
 obtain⟨c,hc,hy1⟩:=bnd hy1
 obtain⟨d,hd,hy1⟩:=bnd hy1
 obtain⟨e,he,hy1⟩:=bnd hy1
 obtain rfl:=zI hy1
 obtain⟨rfl,rfl⟩:(⟨a.1,b.1.toUInt32,c.1.toUInt32,e.1⟩:AP)=x∧(k+1,e.2)=s1:=by
  have:=zI hst
  exact⟨congrArg Prod.fst this,congrArg Prod.snd this⟩
 refine AI (AG (AE (AM ?_)))
 refine A4 (α:=Nat) (fun _=>True) (fun b0=>[(0,vY lp),(2,vP bq 0),(4,vP b0 0),(5,vI n),(6,vI k)]) (fun b0=>AN b0 (.cells #[Ap a.1,AA b.1.toUInt32,AA c.1.toUInt32,vS []] 79)::eR br c.2::AN bn (.cells #[vI n] 3)::AN bq (.cells #[vP br 0] 192)::(G++T)) ?_ (fun b0 D _=>?_)
 refine Ak Ca [2] (Bo [(true,0),(true,2),(true,5)] (.alt 1 (.alt 3 (Bo [(true,4)] (.alt 6 (Bo [(true,7),(true,8),(false,9)] (.last 10 .nil)) (.cons (false,9) (Bo [(false,6),(true,7),(true,8)] (.last 10 .nil))))) (.cons (false,9) (Bo [(false,3),(true,4),(false,6),(true,7),(true,8)] (.last 10 .nil)))) (.cons (false,9) (Bo [(false,1),(false,3),(true,4),(false,6),(true,7),(true,8)] (.last 10 .nil))))) zK (AF 0 Mn E (AF 0 Mn E (AF 0 Mn E ?_)))
 refine Mp ?_ ?_
 refine BO 1 Ie (CO ha) E ⟨⟨2,E⟩,zT⟩ ?_
 refine Mp ?_ ?_
 refine BO 1 Ie (CO hb) E ⟨⟨2,E⟩,zT⟩ (Au E E (Ce CQ Bv) ?_)
 refine Mp ?_ ?_
 refine BO 1 Ie (CO hc) E ⟨⟨2,E⟩,zT⟩ (Au E E (Ce CQ Bv) (BK [_,_,_] E R4 Si EJ ⟨E,E,E,zT⟩ E ?_))
 refine Ag E EJ (fun _=>⟨⟨3,E⟩,zT⟩) fun b0=>?_
 refine BN (Aj 0 E E E E B2 E E E zT (AU ?_))
 exact Av b0 zT tL (BB [0,1] 2 E E E)
 refine Ag E EJ (fun _=>⟨⟨3,E⟩,zT⟩) fun b0=>?_
 refine SL.pick [1,0] 2 (BO 1 Ie (CO hc) E ⟨⟨3,E⟩,zT⟩ (Au E E (Ce CQ Bv) (BK [_,_,_] E R4 Si EJ ⟨E,E,E,zT⟩ E (BN (Aj 1 E E E E B2 E E E zT (AU ?_))))))
 exact Av b0 zT tL (BB [1,0] 2 E E E)
 refine Ag E EJ (fun _=>⟨⟨3,E⟩,zT⟩) fun b0=>?_
 refine SL.pick [1,0] 2 (BO 1 Ie (CO hb) E ⟨⟨3,E⟩,zT⟩ (Au E E (Ce CQ Bv) (BO 1 Ie (CO hc) E ⟨⟨3,E⟩,zT⟩ (Au E E (Ce CQ Bv) (BK [_,_,_] E R4 Si EJ ⟨E,E,E,zT⟩ E (BN (Aj 1 E E E E B2 E E E zT (AU ?_))))))))
 exact Av b0 zT tL (BB [1,0] 2 E E E)
 refine Ag E EJ (fun _=>⟨⟨3,E⟩,zT⟩) fun b0=>?_
 refine SL.pick [1,0] 2 (BO 1 Ie (CO ha) E ⟨⟨3,E⟩,zT⟩ (BO 1 Ie (CO hb) E ⟨⟨3,E⟩,zT⟩ (Au E E (Ce CQ Bv) (BO 1 Ie (CO hc) E ⟨⟨3,E⟩,zT⟩ (Au E E (Ce CQ Bv) (BK [_,_,_] E R4 Si EJ ⟨E,E,E,zT⟩ E (BN (Aj 1 E E E E B2 E E E zT (AU ?_)))))))))
 exact Av b0 zT tL (BB [1,0] 2 E E E)
 refine AE (Ak Ca [3] (Bo [(true,0),(true,1),(false,2),(true,3),(false,4),(true,5)] (.last 6 .nil)) zK (AF 0 Mn E (AF 0 Mn E (SL.pick [1,0] 2 (BO 1 Ie (CO hd) E ⟨⟨3,E⟩,zT⟩ (Au E E (PQ CQ FW) (BO 1 dX (LF he) E ⟨⟨3,E⟩,zT⟩ (AD E Qo (BN ?_)))))))))
 refine Aj 1 E E E E Ix E E E zT (Y (SX.pick [1,2,3,0] 4 (Z (J E (Ab (AJ ⟨a.1,b.1.toUInt32,c.1.toUInt32,e.1⟩) E Eo E E (AZ 0 E) ?_)))))
 refine JJ (M2:=[_,_,_]) (G:=eR br e.2::G) (T:=T) (vs:=[_]) (ok:=fun G1=>∃G2,G1=eR br e.2::G2∧J9 (k+1,e.2) G2) (no:=X) E E ⟨E,zT⟩ E ?_ (fun bb G1 hG1=>⟨zT,?_⟩)
 intro M
 exact hy (k,q) ⟨a.1,b.1.toUInt32,c.1.toUInt32,e.1⟩ (k+1,e.2) hst0 G hJ M
 refine CN E E (Y ?_)
 refine As E (fun hc3=>?_) (fun hc3=>?_)
 obtain rfl:bb=false:=by simpa using hc3
 refine AL (BX (Aa (Dj (BX ?_))))
 exact AX (DU E) (AY (M:=G1) (.inr hG1) fun _ h=>h.skip [_,_,_])
 obtain rfl:bb=true:=by simpa using hc3
 obtain⟨G2,rfl,hJ2⟩:=hG1
 refine AI (An (AG (AK (V E (BU zO zO) (J E (AU ?_))))))
 exact Ai (k+1,e.2,G2) hJ2 (by dsimp only;omega) tL (BB [3,1,2] 4 E E E)
 have hge:n≤(k:Int):=by simpa using hc1
 refine Ax (A3 (BL (Az ?_)))
 exact Cr (DU E) (AY (M:=eR br q::G) (.inl ⟨(k,q),G,zt hge,E,hJ⟩) fun _ hw=>BZ.pick (H:=[_,_,_]) hw [0] 3 E)
end

section
variable {K:Nat→Prop}{w0:World}{H:List AV}
def M7(y1:UInt64×Co)(y9:UInt32)(y10:UInt32)(y11:Int)(l3:List Ac)(y16:Ac×Co)(y17:List UInt8)(o4:Co)(l7:List AP):Option (BR×Co):=
 some ((⟨wI (y1.1.toNat:Int),y9,y10,y11,l7,l3,y16.1.page,y17⟩:BR),o4)
def Sr(y1:UInt64×Co)(y9:UInt32)(y10:UInt32)(y11:Int)(l3:List Ac)(y16:Ac×Co)(y17:List UInt8)(o5:Co)(l8:List AP):Option (BR×Co):=
 M7 y1 y9 y10 y11 l3 y16 y17 o5 l8
def P3(y1:UInt64×Co)(y9:UInt32)(y10:UInt32)(y11:Int)(l3:List Ac)(y16:Ac×Co)(y17:List UInt8)(o5:Co)(l8:List AP):Option (BR×Co):=
 M7 y1 y9 y10 y11 l3 y16 y17 o5 l8
def MN(y1:UInt64×Co)(y9:UInt32)(y10:UInt32)(y11:Int)(l3:List Ac)(y16:Ac×Co)(y17:List UInt8)(nx_f_rpg_r1:Co×List AP→Option (BR×Co))(e1:AP)(o5:Co)(l8:List AP):Option (BR×Co):=
 (Cp 32 l8 [e1]).bind fun l9=>
 cond (o5.short||(decide (4<(l9.length:Int))))
 (
  Sr y1 y9 y10 y11 l3 y16 y17 o5 l9)
 (
  nx_f_rpg_r1 (o5,l9))
def Jq(y1:UInt64×Co)(y9:UInt32)(y10:UInt32)(y11:Int)(l3:List Ac)(y16:Ac×Co)(y17:List UInt8)(step:Nat×Co→Option (AP×(Nat×Co)))(done:Nat×Co→Bool):Nat→Nat×Co→(Co×List AP)→Option (BR×Co):=Ll step done (fun nx e s x=>MN y1 y9 y10 y11 l3 y16 y17 (nx s) e s.2 x.2) (fun s x=>P3 y1 y9 y10 y11 l3 y16 y17 s.2 x.2)
def MA(n:Nat)(y1:UInt64×Co)(x1:Int)(y9:UInt32)(y10:UInt32)(y11:Int)(l3:List Ac)(y16:Ac×Co)(y17:List UInt8):Option (BR×Co):=
 (Se y16.2 x1).bind fun y19=>
 Jq y1 y9 y10 y11 l3 y16 y17 (Hu x1) (N9 x1) n (0,y16.2) (y16.2,[])
def QG(n:Nat)(y1:UInt64×Co)(x1:Int)(o1:Co)(y3:Int)(y4:UInt32)(y5:UInt32)(y6:Int)(l1:List AP)(l2:List Ac)(y7:UInt32)(y8:List UInt8)(y9:UInt32)(y10:UInt32)(y11:Int)(l3:List Ac):Option (BR×Co):=
 (EG o1).bind fun y16=>
 (O6 [0] 32).bind fun y18=>
 cond (decide (y16.1.page=0)&&(decide (y16.1.tag=y18)&&true))
 (
  MA n y1 x1 y9 y10 y11 l3 y16 [])
 (
  MA n y1 x1 y9 y10 y11 l3 y16 y16.1.tag)
def QU(y1:UInt64×Co)(y12:UInt64×Co)(y13:UInt64×Co)(y14:UInt64×Co)(o2:Co)(l4:List Ac):Option (BR×Co):=
 some ((⟨wI (y1.1.toNat:Int),y13.1.toUInt32,y14.1.toUInt32,wI (y12.1.toNat:Int),[],l4,0,[]⟩:BR),o2)
def GA(y1:UInt64×Co)(x1:Int)(y12:UInt64×Co)(y13:UInt64×Co)(y14:UInt64×Co)(nx_f_rpg_l1:Co×List Ac×Int→Option (BR×Co))(o3:Co)(l5:List Ac)(a1:Int):Option (BR×Co):=
 cond (decide (a1<min x1 5))
 (
  (EG o3).bind fun y15=>
  (Cp 24 l5 [y15.1]).bind fun l6=>
  nx_f_rpg_l1 (y15.2,l6,wI (a1+1)))
 (
  QU y1 y12 y13 y14 o3 l5)
def K2(y1:UInt64×Co)(x1:Int)(y12:UInt64×Co)(y13:UInt64×Co)(y14:UInt64×Co):Nat→(Co×List Ac×Int)→Option (BR×Co):=Bu fun nx x=>GA y1 x1 y12 y13 y14 nx x.1 x.2.1 x.2.2
def T2(n:Nat)(p0:Co):Option (BR×Co):=
 (CA p0 1).bind fun y1=>
 (CA y1.2 1).bind fun y2=>
 ret (wI (y2.1.toNat:Int)) fun x1=>
 cond (decide (wI (y1.1.toNat:Int)=2))
 (
  (CA y2.2 1).bind fun y12=>
  (CA y12.2 4).bind fun y13=>
  (CA y13.2 4).bind fun y14=>
  K2 y1 x1 y12 y13 y14 n (y14.2,[],0))
 (
  QG n y1 x1 y2.2 0 0 0 0 [] [] 0 [] 0 0 0 [])
theorem sN{n BH:Nat}{p0:Co}{r:BR×Co}(h:T2 n p0=some r): zC K w0 121 [vP BH 0] [AN BH (.cells #[vS p0.s,vB p0.short] 194)] H (fun u M=>∃Fm Fi:Value,u=.agg #[vI r.1.kind,AA r.1.cx,AA r.1.cy,vI r.1.lev,Fm,Fi,AA r.1.npage,vS r.1.ntag]∧M=[AH 79 4 Fm AJ r.1.rows,AH 31 2 Fi Af r.1.kids,AN BH (.cells #[vS r.2.s,vB r.2.short] 194)]):=by
 unfold T2 at h
 refine UJ.enter Tryz.func121 rfl rfl ?_
 refine Z ?_
 refine Bd E E zU fun b1=>?_
 refine Ag E Gk zU fun b2=>?_
 refine Bi 79 4 AJ (Bi 31 2 Af (Y (K6 (Z ?_))))
 refine AC h fun y1 hy1 h=>?_
 refine AF 3 Mn E (SL.pick [4,0,1,2,3] 5 (AQ 1 Ie (CO hy1) E (Au E E (PQ CQ FW) (BK [_] E Pu Ph Gk ⟨E,zT⟩ E ?_))))
 refine Ag E Gk zU fun b3=>?_
 refine Bi 79 4 AJ (Bi 31 2 Af (Aj 2 E E E E HD E E E zT (Dv 2 (AN b3 (.cells #[vI (wI (y1.1.toNat:Int)),AA 0,AA 0,vI 0,zN,zN,AA 0,vS []] 148)) (Bi 79 4 AJ (Bi 31 2 Af (Y (Z ?_)))))))
 refine AC h fun y2 hy2 h=>?_
 obtain⟨x1,ex1,h⟩:=Bn h
 refine AF 9 Mn E (SL.pick [5,0,1,2,3,4] 6 (AQ 1 Ie (CO hy2) E (Au E E (PQ CQ FW) ?_)))
 refine Am (u:=vI x1) E E (congrArg vI ex1) ?_
 refine Y ?_
 refine A4 (α:=Co×Int×UInt32×UInt32×Int×List AP×Value×List Ac×Value×UInt32×List UInt8×UInt32×UInt32×Int×List Ac×Value) (fun x=>QG n y1 x1 x.1 x.2.1 x.2.2.1 x.2.2.2.1 x.2.2.2.2.1 x.2.2.2.2.2.1 x.2.2.2.2.2.2.2.1 x.2.2.2.2.2.2.2.2.2.1 x.2.2.2.2.2.2.2.2.2.2.1 x.2.2.2.2.2.2.2.2.2.2.2.1 x.2.2.2.2.2.2.2.2.2.2.2.2.1 x.2.2.2.2.2.2.2.2.2.2.2.2.2.1 x.2.2.2.2.2.2.2.2.2.2.2.2.2.2.1=some r) (fun x=>[(0,vP BH 0),(1,vP b1 0),(2,vP b2 0),(3,vP b3 0),(4,vI x1)]) (fun x=>AN BH (.cells #[vS x.1.s,vB x.1.short] 194)::AN b1 (.cells #[vP BH 0] 192)::AN b2 (.cells #[vI x.2.1,AA x.2.2.1,AA x.2.2.2.1,vI x.2.2.2.2.1,x.2.2.2.2.2.2.1,x.2.2.2.2.2.2.2.2.1,AA x.2.2.2.2.2.2.2.2.2.1,vS x.2.2.2.2.2.2.2.2.2.2.1] 148)::AH 79 4 x.2.2.2.2.2.2.1 AJ x.2.2.2.2.2.1::AH 31 2 x.2.2.2.2.2.2.2.2.1 Af x.2.2.2.2.2.2.2.1::AN b3 (.cells #[vI (wI (y1.1.toNat:Int)),AA x.2.2.2.2.2.2.2.2.2.2.2.1,AA x.2.2.2.2.2.2.2.2.2.2.2.2.1,vI x.2.2.2.2.2.2.2.2.2.2.2.2.2.1,zN,x.2.2.2.2.2.2.2.2.2.2.2.2.2.2.2,AA 0,vS []] 148)::AH 79 4 zN AJ []::AH 31 2 x.2.2.2.2.2.2.2.2.2.2.2.2.2.2.2 Af x.2.2.2.2.2.2.2.2.2.2.2.2.2.2.1::H) ?_ (fun x D h=>?_)
 refine Z (AD E Oh (AF 5 D3 E (V E CH (Y ?_))))
 refine AT h E (fun hc1 h=>?_) fun hc1 h=>?_
 refine Z ?_
 refine AC h fun y12 hy12 h=>?_
 refine AF 9 Mn E (AQ 1 Ie (CO hy12) E (Au E E (PQ CQ FW) (AD E GW (AD E EX (Aj 5 E E E E Mw E E E zT (Dv 5 (AN b3 (.cells #[vI (wI (y1.1.toNat:Int)),AA 0,AA 0,vI (wI (y12.1.toNat:Int)),zN,zN,AA 0,vS []] 148)) (Y (AE ?_))))))))
 refine AC h fun y13 hy13 h=>?_
 refine AC h fun y14 hy14 h=>?_
 refine Ak Ca [9] (Bo [(true,0),(true,3),(false,1),(true,2),(true,6),(true,7),(false,4),(true,5),(false,8),(true,9),(true,10)] (.last 11 .nil)) zK (AF 0 Mn E (AF 0 Mn E (BO 1 Ie (CO hy13) E ⟨⟨9,E⟩,zT⟩ (Au E E (Ce CQ Bv) (AD E GW (AD E Ha (BO 1 Ie (CO hy14) E ⟨⟨9,E⟩,zT⟩ ?_)))))))
 refine Au E E (Ce CQ Bv) (Aj 5 E E E E Bk E E E ⟨⟨9,E⟩,zT⟩ (Dv 5 (AN b3 (.cells #[vI (wI (y1.1.toNat:Int)),AA y13.1.toUInt32,AA 0,vI (wI (y12.1.toNat:Int)),zN,zN,AA 0,vS []] 148)) (AD E GW (AD E HY (BN (Aj 5 E E E E Bk E E E zT (Dv 5 (AN b3 (.cells #[vI (wI (y1.1.toNat:Int)),AA y13.1.toUInt32,AA y14.1.toUInt32,vI (wI (y12.1.toNat:Int)),zN,zN,AA 0,vS []] 148)) (Y ?_))))))))
 refine A4 (α:=Co×List Ac×Value) (fun x=>QU y1 y12 y13 y14 x.1 x.2.1=some r) (fun x=>[(0,vP BH 0),(2,vP b2 0),(3,vP b3 0)]) (fun x=>AN BH (.cells #[vS x.1.s,vB x.1.short] 194)::AN b2 (.cells #[vI 0,AA 0,AA 0,vI 0,zN,zN,AA 0,vS []] 148)::AH 79 4 zN AJ []::AH 31 2 zN Af []::AN b3 (.cells #[vI (wI (y1.1.toNat:Int)),AA y13.1.toUInt32,AA y14.1.toUInt32,vI (wI (y12.1.toNat:Int)),zN,x.2.2,AA 0,vS []] 148)::AH 79 4 zN AJ []::AH 31 2 x.2.2 Af x.2.1::H) ?_ (fun x D h=>?_)
 refine Z (J E (P2 E E E (J E (Y (AM ?_)))))
 refine SX.heap (SX.mono (A5 (α:=Nat×Co×List Ac×Value×Int) (fun x=>K2 y1 x1 y12 y13 y14 x.1 (x.2.1,x.2.2.1,x.2.2.2.2)=some r) (fun x=>[(0,vP BH 0),(1,vP b1 0),(2,vP b2 0),(3,vP b3 0),(32,vI (min x1 5)),(33,vI x.2.2.2.2)]) (fun x=>AN BH (.cells #[vS x.2.1.s,vB x.2.1.short] 194)::AN b1 (.cells #[vP BH 0] 192)::AN b2 (.cells #[vI 0,AA 0,AA 0,vI 0,zN,zN,AA 0,vS []] 148)::AH 79 4 zN AJ []::AH 31 2 zN Af []::AN b3 (.cells #[vI (wI (y1.1.toNat:Int)),AA y13.1.toUInt32,AA y14.1.toUInt32,vI (wI (y12.1.toNat:Int)),zN,x.2.2.2.1,AA 0,vS []] 148)::AH 79 4 zN AJ []::AH 31 2 x.2.2.2.1 Af x.2.2.1::H) (fun x=>x.1) (fun x D h=>?_) (n,y14.2,[],zN,0) h) tL) (BB [0,9,8,7,6,5,2,1] 10 E E E)
 obtain⟨m1,o3,l5,v5,a1⟩:=x
 dsimp only at h
 rcases m1 with _ | m1
 cases (show(none:Option _)=some r from h)
 replace h:GA y1 x1 y12 y13 y14 (K2 y1 x1 y12 y13 y14 m1) o3 l5 a1=some r:=h
 unfold GA at h
 try dsimp only
 refine Z (V E Aw (Y (AE ?_)))
 refine AT h E (fun hc2 h=>?_) fun hc2 h=>?_
 refine AI (AG (AE (AM ?_)))
 refine AC h fun y15 hy15 h=>?_
 refine AC h fun l6 hl6 h=>?_
 refine Ak Ca [1,5] (Bo [(true,0),(true,1),(true,2),(false,3),(false,4),(false,5),(true,6)] (.last 7 .nil)) zK (AD E Dg (AF 1 Hi E (AF 0 Mn E (BO 1 ju (PM hy15) E ⟨⟨1,E⟩,⟨5,E⟩,zT⟩ ?_))))
 refine Bz [_] rfl Ep DH Dc ⟨rfl,trivial⟩ rfl rfl rfl zW rfl rfl (fun _=>⟨⟨2,rfl⟩,⟨6,rfl⟩,trivial⟩) fun b4=>?_
 refine B4 Af 2 ([y15.1]:List Ac) E zV E ?_
 refine CW 8 hl6 (sz:=2) (enc:=Af) zV E Ep DH en Dc E zD E E E E (By (sz:=2) (enc:=Af) 0 zV E) (by simp[Af,Value.oneCell']) (fun _=>⟨⟨2,E⟩,⟨6,E⟩,zT⟩) fun v6=>?_
 refine AD E Dg (BN ?_)
 refine Br 8 E fun hv1 ho1=>?_
 refine Dy 6 E E E E bj hv1 ho1 E zT (AU (An (AG (AK (V E Ay (J E (AU ?_)))))))
 exact Ai (m1,y15.2,l6,v6,wI (a1+1)) h (Nat.lt_succ_self _) tL (BB [1,2,3,4,5,6,7,8] 9 E E E)
 refine Ax (A3 (BL (Az ?_)))
 exact Av (o3,l5,v5) h tL (BB [0,2,3,4,5,6,7] 8 E E E)
 obtain⟨o2,l4,v4⟩:=x
 dsimp only at h
 unfold QU at h
 try dsimp only
 refine Z (Ab [vI (wI (y1.1.toNat:Int)),AA y13.1.toUInt32,AA y14.1.toUInt32,vI (wI (y12.1.toNat:Int)),zN,v4,AA 0,vS []] E FE E E (AZ 4 E) ?_)
 refine Br 5 E fun hv2 ho2=>?_
 refine Br 6 E fun hv3 ho3=>?_
 refine Aj 1 E E E E HD E (by simp only[Value.oneCell']at ho2 ho3;simp[Value.cells,Value.cells,Value.oneCell',ho2,ho3]) E zT (Y (AL (EO (FN ?_))))
 obtain rfl:=zI h
 exact AX (FD E (BC 1 [vI (wI (y1.1.toNat:Int)),AA y13.1.toUInt32,AA y14.1.toUInt32,vI (wI (y12.1.toNat:Int)),zN,v4,AA 0,vS []] FE E E E E)) (AY (M:=[_,_,_]) ⟨zN,v4,E,E⟩ fun _ hw=>BZ.pick (H:=[_,_,_,_,_,_,_]) hw [5,6,0] 7 E)
 refine AI ?_
 exact Av (y2.2,0,0,0,0,[],zN,[],zN,0,[],0,0,0,[],zN) h tL (BB [0,9,8,7,6,5,2,1] 10 E E E)
 obtain⟨o1,y3,y4,y5,y6,l1,v1,l2,v2,y7,y8,y9,y10,y11,l3,v3⟩:=x
 dsimp only at h
 unfold QG at h
 try dsimp only
 refine Z ?_
 refine AC h fun y16 hy16 h=>?_
 refine AF 1 Mn E (AQ 1 ju (PM hy16) E (AD E E4 (Aj 5 E E E E DH E E E zT (Dv 5 (AN b3 (.cells #[vI (wI (y1.1.toNat:Int)),AA y9,AA y10,vI y11,zN,v3,AA y16.1.page,vS y16.1.tag] 148)) (Y ?_)))))
 refine A4 (α:=List UInt8) (fun x=>MA n y1 x1 y9 y10 y11 l3 y16 x=some r) (fun x=>[(0,vP BH 0),(1,vP b1 0),(2,vP b2 0),(3,vP b3 0),(4,vI x1)]) (fun x=>AN BH (.cells #[vS y16.2.s,vB y16.2.short] 194)::AN b1 (.cells #[vP BH 0] 192)::AN b2 (.cells #[vI y3,AA y4,AA y5,vI y6,v1,v2,AA y7,vS y8] 148)::AH 79 4 v1 AJ l1::AH 31 2 v2 Af l2::AN b3 (.cells #[vI (wI (y1.1.toNat:Int)),AA y9,AA y10,vI y11,zN,v3,AA y16.1.page,vS x] 148)::AH 79 4 zN AJ []::AH 31 2 v3 Af l3::H) ?_ (fun y17 D h=>?_)
 refine AE ?_
 refine AC h fun y18 hy18 h=>?_
 refine Ak Ca [5] (Bo [(true,0),(true,1),(false,2),(false,3)] (.last 4 .nil)) zK (AD rfl E4 (Ab [AA y16.1.page,vS y16.1.tag] rfl Cf rfl rfl (Cd 0 rfl (by rintro(_ | (_ | j)) u hj<;>first | exact hj | exact absurd hj zS)) (BO 0 Ps (UO hy18) rfl ⟨⟨5,rfl⟩,trivial⟩ (BK [_] rfl LR LU Dc ⟨rfl,trivial⟩ rfl (BN ?_)))))
 refine TE E aG E E (CT E E (I6 (a:=y16.1.page) (b:=0)) (CT E E (Qf (a:=y16.1.tag) (b:=y18)) HK)) ?_
 refine Y ?_
 refine AT h E (fun hc3 h=>?_) fun hc3 h=>?_
 refine AK (AD E E4 (AD E Ld (Aj 5 E E E E Ix E E E zT (Dv 5 (AN b3 (.cells #[vI (wI (y1.1.toNat:Int)),AA y9,AA y10,vI y11,zN,v3,AA y16.1.page,vS []] 148)) (AU ?_)))))
 exact Av [] h tL (BB [0,1,2,3,4,5,6,7] 8 E E E)
 refine AI ?_
 exact Av y16.1.tag h tL (BB [0,1,2,3,4,5,6,7] 8 E E E)
 unfold MA at h
 try dsimp only
 refine AE (Kn (AG ?_))
 refine A4 (α:=Co×List AP×Value) (fun x=>M7 y1 y9 y10 y11 l3 y16 y17 x.1 x.2.1=some r) (fun x=>[(0,vP BH 0),(2,vP b2 0),(3,vP b3 0)]) (fun x=>AN BH (.cells #[vS x.1.s,vB x.1.short] 194)::AN b2 (.cells #[vI y3,AA y4,AA y5,vI y6,v1,v2,AA y7,vS y8] 148)::AH 79 4 v1 AJ l1::AH 31 2 v2 Af l2::AN b3 (.cells #[vI (wI (y1.1.toNat:Int)),AA y9,AA y10,vI y11,x.2.2,v3,AA y16.1.page,vS y17] 148)::AH 79 4 x.2.2 AJ x.2.1::AH 31 2 v3 Af l3::H) ?_ (fun x D h=>?_)
 refine Z ?_
 refine AC h fun y19 hy19 h=>?_
 refine AF 1 Mn E (J E (Bp 0 pn (qW hy19) E ?_))
 rintro _ _ ⟨b5,b6,rfl,rfl⟩
 refine Y (AM ?_)
 refine SX.heap (fQ (enc:=md) (C:=fun s=>eR BH s.2) (0,y16.2) (G0:=AN b1 (.cells #[vP BH 0] 192)::AN b2 (.cells #[vI y3,AA y4,AA y5,vI y6,v1,v2,AA y7,vS y8] 148)::AH 79 4 v1 AJ l1::AH 31 2 v2 Af l2::AN b3 (.cells #[vI (wI (y1.1.toNat:Int)),AA y9,AA y10,vI y11,zN,v3,AA y16.1.page,vS y17] 148)::AH 79 4 zN AJ []::AH 31 2 v3 Af l3::H) (fun s G=>∃(m:Nat) (x:Co×List AP×Value),Jq y1 y9 y10 y11 l3 y16 y17 (Hu x1) (N9 x1) m s (x.1,x.2.1)=some r∧G=AN b1 (.cells #[vP BH 0] 192)::AN b2 (.cells #[vI y3,AA y4,AA y5,vI y6,v1,v2,AA y7,vS y8] 148)::AH 79 4 v1 AJ l1::AH 31 2 v2 Af l2::AN b3 (.cells #[vI (wI (y1.1.toNat:Int)),AA y9,AA y10,vI y11,x.2.2,v3,AA y16.1.page,vS y17] 148)::AH 79 4 x.2.2 AJ x.2.1::AH 31 2 v3 Af l3::H) (fun c G=>(c=.exit 2∧∃x:Co×List AP×Value,Sr y1 y9 y10 y11 l3 y16 y17 x.1 x.2.1=some r∧G=AN BH (.cells #[vS x.1.s,vB x.1.short] 194)::AN b1 (.cells #[vP BH 0] 192)::AN b2 (.cells #[vI y3,AA y4,AA y5,vI y6,v1,v2,AA y7,vS y8] 148)::AH 79 4 v1 AJ l1::AH 31 2 v2 Af l2::AN b3 (.cells #[vI (wI (y1.1.toNat:Int)),AA y9,AA y10,vI y11,x.2.2,v3,AA y16.1.page,vS y17] 148)::AH 79 4 x.2.2 AJ x.2.1::AH 31 2 v3 Af l3::H)) rfl qX rfl zV (qK hy19 _) rfl ⟨n,(y16.2,[],zN),h,rfl⟩ (fun s G hJ=>by obtain⟨m,x,h,_⟩:=hJ;exact eH h) (fun s0 e1 s1 G hst hJ lr lp Rest=>?_) (fun s G D hds hJ=>?_) (fun c G D hX=>?_)) (BB [0,1,2,3,4,5,6,7,8,9] 10 rfl rfl rfl)
 obtain⟨m1,⟨_,l8,v8⟩,h,rfl⟩:=hJ
 obtain⟨k1,o5⟩:=s1
 unfold Jq at h
 obtain⟨m2,h⟩:=cO gg h hst
 replace h:MN y1 y9 y10 y11 l3 y16 y17 (Jq y1 y9 y10 y11 l3 y16 y17 (Hu x1) (N9 x1) m2 (k1,o5)) e1 o5 l8=some r:=h
 unfold MN at h
 refine AK ?_
 refine Ag E EJ zU fun b7=>?_
 refine Aj 0 E E E E B2 E E E zT (AU ?_)
 refine Lo (G:=AN b7 (.cells #[Ap e1.id,AA e1.x,AA e1.y,vS e1.txt] 79)::AN BH (.cells #[vS o5.s,vB o5.short] 194)::AN b1 (.cells #[vP BH 0] 192)::AN b2 (.cells #[vI y3,AA y4,AA y5,vI y6,v1,v2,AA y7,vS y8] 148)::AH 79 4 v1 AJ l1::AH 31 2 v2 Af l2::AN b3 (.cells #[vI (wI (y1.1.toNat:Int)),AA y9,AA y10,vI y11,v8,v3,AA y16.1.page,vS y17] 148)::AH 79 4 v8 AJ l8::AH 31 2 v3 Af l3::H) ?_
 refine AM (Z ?_)
 refine AC h fun l9 hl9 h=>?_
 refine AD E Fk (AF 6 FF E (Ab [Ap e1.id,AA e1.x,AA e1.y,vS e1.txt] E Eo E E (AZ 0 E) ?_))
 refine Bz [_] rfl Bt B2 EJ ⟨rfl,trivial⟩ rfl rfl rfl zW rfl rfl zU fun b8=>?_
 refine B4 AJ 4 ([e1]:List AP) E zV E ?_
 refine CW 8 hl9 (sz:=4) (enc:=AJ) zV E Bt B2 Oq EJ E zD E E E E (By (sz:=4) (enc:=AJ) 0 zV E) (by simp[AJ,Value.oneCell']) zU fun v9=>?_
 refine AD E Fk ?_
 refine Br 8 E fun hv4 ho4=>?_
 refine Dy 7 E E E E K8 hv4 ho4 E zT (Y (Z (AF 3 Mn E (AW E E (AD E Yx (AF 2 Ww E (J E ?_)))))))
 refine DL (c:=decide (4<(l9.length:Int))) 68 5 73 E (fun hb k=>?_) (fun hb k=>?_) ?_
 refine AB E (AB E (AB E (AB E (Ae E E E ?_))))
 exact k.mono tL
 refine AD E Fk (AF 7 FF E (D0 8 E Bt E E (V E CY (Ae E E E ?_))))
 exact k.mono tL
 refine Y ?_
 refine AT h E (fun hc4 h=>?_) fun hc4 h=>?_
 refine Ax (MS ?_)
 exact Nv ⟨E,(o5,l9,v9),h,E⟩ (BB [2,3,4,5,6,7,8,9] 10 E E E)
 refine AI (An ?_)
 exact Iq ⟨_,E,m2,(o5,l9,v9),h,E⟩ (BB [2,3,4,5,6,7,8,9] 10 E E E)
 obtain⟨m1,⟨_,l8,v8⟩,h,rfl⟩:=hJ
 obtain⟨k1,o5⟩:=s
 unfold Jq at h
 replace h:=eo h hds
 replace h:P3 y1 y9 y10 y11 l3 y16 y17 o5 l8=some r:=h
 unfold P3 at h
 refine An ?_
 exact Av (o5,l8,v8) h tL (BB [0,2,3,4,5,6,7] 8 E E E)
 obtain⟨rfl,hJ⟩:=hX
 obtain⟨⟨o5,l8,v8⟩,h,rfl⟩:=hJ
 dsimp only at h
 unfold Sr at h
 refine Ax (Az ?_)
 exact Av (o5,l8,v8) h tL (BB [0,2,3,4,5,6,7] 8 E E E)
 obtain⟨o4,l7,v7⟩:=x
 dsimp only at h
 unfold M7 at h
 try dsimp only
 refine Z (Ab [vI (wI (y1.1.toNat:Int)),AA y9,AA y10,vI y11,v7,v3,AA y16.1.page,vS y17] E FE E E (AZ 4 E) ?_)
 refine Br 5 E fun hv5 ho5=>?_
 refine Br 6 E fun hv6 ho6=>?_
 refine Aj 1 E E E E HD E (by simp only[Value.oneCell']at ho5 ho6;simp[Value.cells,Value.cells,Value.oneCell',ho5,ho6]) E zT (Y (AL (FN ?_)))
 obtain rfl:=zI h
 exact AX (FD E (BC 1 [vI (wI (y1.1.toNat:Int)),AA y9,AA y10,vI y11,v7,v3,AA y16.1.page,vS y17] FE E E E E)) (AY (M:=[_,_,_]) ⟨v7,v3,E,E⟩ fun _ hw=>BZ.pick (H:=[_,_,_,_,_,_,_]) hw [5,6,0] 7 E)
end

section
variable {K:Nat→Prop}{w0:World}{H:List AV}
def Eb(n:Nat)(p0:List UInt8):Option (BR×Int):=
 (T2 n ({ s:=p0,short:=false }:Co)).bind fun y1=>
 (OF (y1.2.short||(!decide (y1.2.s=[]))) ((Jp n y1.1).bind fun y2=>some (!y2))).bind fun y3=>
 cond y3
 (
  some ((⟨0,0,0,0,[],[],0,[]⟩:BR),90))
 (
  some (y1.1,0))
theorem XU{n:Nat}{p0:List UInt8}{r:BR×Int}(h:Eb n p0=some r): zC K w0 82 [vS p0] [] H (fun u M=>∃Fm Fi:Value,u=.tuple #[.agg #[vI r.1.kind,AA r.1.cx,AA r.1.cy,vI r.1.lev,Fm,Fi,AA r.1.npage,vS r.1.ntag],vI r.2]∧M=[AH 79 4 Fm AJ r.1.rows,AH 31 2 Fi Af r.1.kids]):=by
 unfold Eb at h
 refine UJ.enter Tryz.func82 rfl rfl ?_
 refine Z ?_
 refine Ag E Gk zU fun b1=>?_
 refine Bi 79 4 AJ (Bi 31 2 Af (O E (Y (Z (J E (BK [_] E r9 sL rR ⟨E,zT⟩ E ?_))))))
 refine Bd E E zU fun b2=>?_
 refine O E (Y (Z ?_))
 refine AC h fun y1 hy1 h=>?_
 refine J E (Bp 1 pY (sN hy1) E ?_)
 rintro _ _ ⟨v1,v2,rfl,rfl⟩
 refine Ag E Gk zU fun b3=>?_
 refine Bi 79 4 AJ (Bi 31 2 Af ?_)
 refine Br 3 E fun hv1 ho1=>?_
 refine Br 4 E fun hv2 ho2=>?_
 refine Aj 2 E E E E HD E (by simp only[Value.oneCell']at ho1 ho2;simp[Value.cells,Value.cells,Value.oneCell',ho1,ho2]) E zT (Dv 2 (AN b3 (.cells #[vI y1.1.kind,AA y1.1.cx,AA y1.1.cy,vI y1.1.lev,v1,v2,AA y1.1.npage,vS y1.1.ntag] 148)) (Y (AE (Z ?_))))
 refine AC h fun y3 hy3 h=>?_
 refine J E (AW E E (AD E Yx (AF 5 Ww E (J E ?_))))
 refine DL (c := !decide (y1.2.s=[])) 15 6 21 E (fun hb k=>?_) (fun hb k=>?_) ?_
 refine AB E (AB E (AB E (AB E (AB E (Ae E E E ?_)))))
 exact k.mono tL
 refine J E (AW E E (AD E Rz (AF 5 FX E (V E Ij (Ae E E E ?_)))))
 exact k.mono tL
 refine J E ?_
 refine Lp 22 4 26 hy3 E (fun hb k=>?_) (fun hb hg2 k=>?_) ?_
 refine AB E (AB E (AB E (Ae E E E ?_)))
 exact k.mono tL
 obtain⟨y2,hy2,hg2⟩:=bnd hg2
 obtain rfl:=zI hg2
 refine Ab [vI y1.1.kind,AA y1.1.cx,AA y1.1.cy,vI y1.1.lev,v1,v2,AA y1.1.npage,vS y1.1.ntag] E FE E E (AZ 2 E) (SL.pick [3,4,0,1,2] 5 ?_)
 refine Bm (vs:=[_]) (Hin:=[_,_]) (Hr:=_::_::_::_::_::_::_::_) E E ⟨E,zT⟩ jP E E (Cb (B:=[_,_]) (Hin:=[]) fun K' w1 hk hB=>(TR hy2 (CC (e:=79) (v:=v1) zV (hB _ zS)) (CC (e:=31) (v:=v2) zV (hB _ zS)) :)) ?_
 rintro _ _ ⟨_,rfl,rfl,rfl⟩
 refine⟨trivial,?_⟩
 refine CN E E (Ae E E E ?_)
 exact SL.mono (SL.heap k fun _ hw=>BZ.pick (H:=[_,_,_,_,_,_,_,_,_]) hw [2,3,4,0,1,5,6,7,8] 9 E) tL
 refine Y ?_
 refine AT h E (fun hc1 h=>?_) fun hc1 h=>?_
 refine Z (BK [] E Pu Ph Gk zT E (Aj 8 E E E E HD E E E zT (Dv 8 (AN b1 (.cells #[vI 0,AA 0,AA 0,vI 0,zN,zN,AA 0,vS []] 148)) (Bi 79 4 AJ (Bi 31 2 Af (O E (Y (AL (Aa ?_)))))))))
 obtain rfl:=zI h
 exact AX (DR E (BC 10 [vI 0,AA 0,AA 0,vI 0,zN,zN,AA 0,vS []] FE E E E E) E) (AY (M:=[_,_]) ⟨zN,zN,E,E⟩ fun _ hw=>BZ.pick (H:=[_,_,_,_,_,_,_,_,_,_,_]) hw [1,0] 11 E)
 refine AI (AG (Z (Ab [vI y1.1.kind,AA y1.1.cx,AA y1.1.cy,vI y1.1.lev,v1,v2,AA y1.1.npage,vS y1.1.ntag] E FE E E (AZ 2 E) ?_)))
 refine Br 3 E fun hv3 ho3=>?_
 refine Br 4 E fun hv4 ho4=>?_
 refine Aj 8 E E E E HD E (by simp only[Value.oneCell']at ho3 ho4;simp[Value.cells,Value.cells,Value.oneCell',ho3,ho4]) E zT (Dv 8 (AN b1 (.cells #[vI y1.1.kind,AA y1.1.cx,AA y1.1.cy,vI y1.1.lev,v1,v2,AA y1.1.npage,vS y1.1.ntag] 148)) (O E (Y (AL ?_))))
 obtain rfl:=zI h
 exact AX (DR E (BC 8 [vI y1.1.kind,AA y1.1.cx,AA y1.1.cy,vI y1.1.lev,v1,v2,AA y1.1.npage,vS y1.1.ntag] FE E E E E) E) (AY (M:=[_,_]) ⟨v1,v2,E,E⟩ fun _ hw=>BZ.pick (H:=[_,_,_,_,_,_,_,_,_]) hw [3,4] 9 E)
end

section
def GR(r:AP):Bool:=decide (max r.x r.y<2147483648)&&decide ((r.txt.length:Int)≤16)
def EN:List AP→Bool
 | []=>true
 | [_]=>true
 | a::b::l=>decide (a.id<b.id)&&EN (b::l)
def Cx(l:List AP):Bool:=l.all GR&&EN l&&decide ((l.length:Int)≤1000)
theorem WK{a b:UInt64}:decide (b≤a) = !decide (a<b):=by
 rw[Bool.eq_iff_iff]
 simp only[Bool.not_eq_true',decide_eq_false_iff_not,decide_eq_true_eq]
 rw[UInt64.le_iff_toNat_le,UInt64.lt_iff_toNat_lt]
 omega
theorem RD:∀(l:List AP) (a b:AP),EN (l++[a,b])=(EN (l++[a])&&decide (a.id<b.id))
 | [],a,b=>by simp[EN]
 | [x],a,b=>by simp[EN]
 | x::y::l,a,b=>by
  have:=RD (y::l) a b
  simp only[List.cons_append,EN]at this ⊢
  rw[this,Bool.and_assoc]
theorem dK(l r:List AP)(h:EN (l++r)=true):EN l=true:=by
 induction l with
 | nil=>rfl
 | cons a l ih=>
  cases l with
  | nil=>rfl
  | cons b l=>
   simp only[List.cons_append,EN,Bool.and_eq_true]at h ⊢
   exact⟨h.1,ih h.2⟩
theorem Ng(l:List AP):EN l=true↔l.Pairwise fun a b=>a.id<b.id:=by
 induction l with
 | nil=>simp[EN]
 | cons a l ih=>
  cases l with
  | nil=>simp[EN]
  | cons b l=>
   simp only[EN,Bool.and_eq_true,decide_eq_true_eq,ih]
   constructor
   rintro⟨h1,h2⟩
   refine List.pairwise_cons.2 ⟨fun c hc=>?_,h2⟩
   rcases List.mem_cons.1 hc with rfl | hc
   exact h1
   have:=(List.pairwise_cons.1 h2).1 c hc
   rw[UInt64.lt_iff_toNat_lt]at*
   omega
   intro h
   exact⟨(List.pairwise_cons.1 h).1 b zS,(List.pairwise_cons.1 h).2⟩
theorem Pw{n:Nat}(l:List AP)(hn:l.length<n)(hb:l.length≤1073741824):Jo n l=some (Cx l):=by
 have key:∀(T S:List AP),l=S++T→S.all GR=true→EN S=true→∀m,T.length<m→Gz l m (S.length:Int)=some (Cx l):=by
  intro T
  induction T with
  | nil=>
   intro S hl h1 h2 m hm
   obtain⟨m,rfl⟩:∃k,m=k+1:=⟨m-1,by omega⟩
   show Ew l (Gz l m) _=_
   unfold Ew
   simp only[List.append_nil]at hl
   subst hl
   rw[zf zO,BD]
   unfold Ko Cx
   rw[A9,h1,h2]
   rfl
  | cons r T ih=>
   intro S hl h1 h2 m hm
   obtain⟨m,rfl⟩:∃k,m=k+1:=⟨m-1,by omega⟩
   have hlen:l.length=S.length+(T.length+1):=by rw[hl];simp
   show Ew l (Gz l m) _=_
   unfold Ew
   have n1:Ao l (S.length:Int)=some r:=by
    rw[EF rfl,hl]
    simp
   have hrow:I0 r=some (GR r):=by
    unfold I0
    rw[A9]
    rfl
   rw[zt zO,Be,n1,U,hrow,U]
   have hall:l.all GR=(GR r&&T.all GR):=by rw[hl];simp[h1]
   by_cases hr:GR r=true
   rw[hr]
   simp only[OF,Bool.not_true,BD]
   rcases List.eq_nil_or_concat S with rfl | ⟨S0,a,rfl⟩
   have hz:decide (0<((([]:List AP).length:Nat):Int))=false:=rfl
   rw[hz]
   simp only[FZ,BD,U]
   rw[A8 zS zS]
   have:=ih [r] (by rw[hl];rfl) (by simp[hr]) rfl m (by simp at hm;omega)
   simpa using this
   have hz:decide (0<(((S0.concat a).length:Nat):Int))=true:=by simp
   have hcl:(S0.concat a).length=S0.length+1:=by simp
   have n2:Ao l (wI (((S0.concat a).length:Int)-1))=some a:=by
    rw[A8 zO zO,EF (k:=S0.length) zO,hl]
    simp
   rw[hz]
   simp only[FZ,Be,n2,U,WK]
   have hl':l=(S0.concat a++[r])++T:=by rw[hl];simp
   by_cases hlt:a.id<r.id
   rw[zt hlt,Bool.not_true,BD,A8 zO zO]
   have hri:EN (S0.concat a++[r])=true:=by
    have:=RD S0 a r
    rw[List.concat_eq_append,List.append_assoc]
    show EN (S0++[a,r])=true
    rw[this,←List.concat_eq_append,h2,zt hlt]
    rfl
   have:=ih (S0.concat a++[r]) hl' (by simp only[List.all_append,h1];simp[hr]) hri m (by simp at hm;omega)
   rw[show((S0.concat a++[r]).length:Int)=((S0.concat a).length:Int)+1 by simp only[List.length_append,List.length_singleton];omega]at this
   exact this
   rw[zf hlt,Bool.not_false,Be]
   have:EN l=false:=by
    cases hx:EN l with
    | false=>rfl
    | true=>
     rw[hl']at hx
     have h5:=dK _ _ hx
     rw[List.concat_eq_append,List.append_assoc]at h5
     have h6:EN (S0++[a,r])=true:=h5
     rw[RD,zf hlt]at h6
     simp at h6
   unfold Cx
   rw[this]
   simp
   have hr':GR r=false:=by simpa using hr
   rw[hr']
   simp only[OF,Bool.not_false,Be,U]
   unfold Cx
   rw[hall,hr']
   simp
 have:=key l [] rfl rfl rfl n hn
 unfold Jo
 simpa using this
def DY(r:Ac):Bool:=decide (2≤r.page)&&decide ((r.tag.length:Int)=32)
def Jt(r:Ac):Bool:=decide (r.page=0)&&decide (r.tag=[])
theorem OJ(r:Ac):EM r=some (DY r):=by
 unfold EM
 rw[A9]
 rfl
def H7(c:Bb):Bool:=cond (decide (c.lev<0)||decide (31<c.lev)) false (decide ((c.x ||| c.y) &&& (shl64 1 c.lev.toNat-1).toUInt32=0)&&decide (max c.x c.y<2147483648))
theorem Pk(c:Bb):IY c=some (H7 c):=by
 unfold IY H7
 cases h:decide (c.lev<0)||decide (31<c.lev)with
 | true=>rfl
 | false=>
  simp only[Bool.or_eq_false_iff,decide_eq_false_iff_not]at h
  unfold Ht Sa
  rw[BD,BD,if_pos zO,U,A9,U,A9,A9]
theorem dS{n:Nat}(l:List Ac)(hn:l.length<n)(hb:l.length≤1073741824):Ya n l=some (!l.all DY):=by
 have key:∀(T S:List Ac),l=S++T→S.all DY=true→∀m,T.length<m→∃y,L8 l m (S.length:Int)=some y∧decide (0≤y) = !l.all DY:=by
  intro T
  induction T with
  | nil=>
   intro S hl h1 m hm
   obtain⟨m,rfl⟩:∃k,m=k+1:=⟨m-1,by omega⟩
   simp only[List.append_nil]at hl
   subst hl
   refine⟨-1,?_,by rw[h1];rfl⟩
   show ID l (L8 l m) _=_
   unfold ID
   rw[zf zO,BD]
   rfl
  | cons r T ih=>
   intro S hl h1 m hm
   obtain⟨m,rfl⟩:∃k,m=k+1:=⟨m-1,by omega⟩
   have hlen:l.length=S.length+(T.length+1):=by rw[hl];simp
   have n1:Ao l (S.length:Int)=some r:=by
    rw[EF rfl,hl]
    simp
   by_cases hr:DY r=true
   obtain⟨y,h5,h6⟩:=ih (S++[r]) (by rw[hl];simp) (by simp only[List.all_append,h1];simp[hr]) m (by simp at hm;omega)
   refine⟨y,?_,h6⟩
   show ID l (L8 l m) _=_
   unfold ID JV
   rw[zt zO,Be,n1,U,OJ,U,A9,U,hr,Bool.not_true,BD,A8 zO zO]
   simpa using h5
   have hr':DY r=false:=by simpa using hr
   refine⟨(S.length:Int),?_,?_⟩
   show ID l (L8 l m) _=_
   unfold ID JV
   rw[zt zO,Be,n1,U,OJ,U,A9,U,hr',Bool.not_false,Be]
   rw[hl]
   simp[hr']
 obtain⟨y,h1,h2⟩:=key l [] rfl rfl n hn
 unfold Ya cA
 have h1':L8 l n 0=some y:=by simpa using h1
 rw[h1',U,A9,h2]
def CL(x:BR):Bool:=
 cond (decide (x.kind=1)) ((((decide (x.cx=0)&&(decide (x.cy=0)&&(decide (x.lev=0)&&true)))&&decide ((x.kids.length:Int)=0))&&decide ((x.rows.length:Int)≤4))&&Cx x.rows&&(Jt ⟨x.npage,x.ntag⟩||DY ⟨x.npage,x.ntag⟩))
  (cond (decide (x.kind=2)) ((x.kids.all DY&&decide ((x.rows.length:Int)=0))&&Jt ⟨x.npage,x.ntag⟩&&decide (2≤(x.kids.length:Int))&&decide ((x.kids.length:Int)≤4)&&H7 ⟨x.cx,x.cy,x.lev⟩&&decide (0<x.lev)) false)
theorem G7(b c:Bool):FZ b (some c)=some (b&&c):=by cases b<;>rfl
theorem M6(b c:Bool):OF b (some c)=some (b||c):=by cases b<;>rfl
theorem Ym(r:Ac):Il r=some (Jt r):=by
 unfold Il
 rw[A9]
 unfold Jt
 simp
theorem LW{n:Nat}(x:BR)(hr:x.rows.length<n)(hk:x.kids.length<n)(hb:x.rows.length≤1073741824)(hc:x.kids.length≤1073741824):Jp n x=some (CL x):=by
 unfold Jp CL
 rw[A9]
 cases hk1:decide (x.kind=1)with
 | true=>
  rw[Be,Be,Pw x.rows hr hb,U,G7,U,Ym,U,OJ,U,M6,U,G7,U]
 | false=>
  rw[BD,BD,A9]
  cases hk2:decide (x.kind=2)with
  | true=>
   rw[Be,Be,dS x.kids hk hc,U,Ym,U,G7,U,Pk,U,G7,U,A9,Bool.not_not]
  | false=>rfl
end

section
def CS(r:Ac):List UInt8:=BA r.page.toUInt64 4++(r.tag++List.replicate (32-r.tag.length) 0)
def CD(r:AP):List UInt8:=BA r.id 8++(BA r.x.toUInt64 4++(BA r.y.toUInt64 4++(BA (BW (r.txt.length:Int)) 1++r.txt)))
def Cj(x:BR):List UInt8:=
 BA (BW x.kind) 1++cond (decide (x.kind=2)) (BA (BW (x.kids.length:Int)) 1++(BA (BW x.lev) 1++(BA x.cx.toUInt64 4++(BA x.cy.toUInt64 4++(x.kids.map CS).flatten))))
  (BA (BW (x.rows.length:Int)) 1++(CS ⟨x.npage,x.ntag⟩++(x.rows.map CD).flatten))
theorem ZJ{s:List UInt8}{n:UInt64}{w:Int}(k:Nat)(hw:w=(k:Int))(hs:s.length≤1048576)(h:k≤8):Js s n w=some (s++BA n k):=by
 subst hw
 unfold Js
 rw[if_pos ⟨hs,by omega,by omega⟩]
 rfl
theorem VN{s:List UInt8}{n:UInt64}(hs:s.length≤1048576):Js s n 1=some (s++BA n 1):=ZJ 1 rfl hs zO
theorem Xh{s:List UInt8}{n:UInt64}(hs:s.length≤1048576):Js s n 4=some (s++BA n 4):=ZJ 4 rfl hs zO
theorem sT{s:List UInt8}{n:UInt64}(hs:s.length≤1048576):Js s n 8=some (s++BA n 8):=ZJ 8 rfl hs zO
theorem Yg{n:Int}(k:Nat)(h:n=(k:Int))(hk:k≤8192):O6 [0] n=some (List.replicate k 0):=by
 subst h
 unfold O6
 rw[if_pos ⟨rfl,by omega,by omega⟩]
 rfl
theorem iv:O6 [0] 32=some (List.replicate 32 0):=Yg 32 rfl zO
theorem eN{s t:List UInt8}(hs:s.length≤1048576)(ht:t.length≤1048576):Yd s t=some (s++t):=if_pos ⟨hs,ht⟩
theorem Gl{r:Ac}(h:r.tag.length≤32):(CS r).length=36:=by
 unfold CS
 simp[Ah]
 omega
theorem ed{s:List UInt8}{r:Ac}(hs:s.length≤1000000)(h:r.tag.length≤32):Vt s r=some (s++CS r):=by
 unfold Vt CS
 rw[if_pos h,Xh zO,U,Yg (32-r.tag.length) zO zO,U,Cn zQ,U,eN (by simp[Ah];omega) zQ,List.append_assoc]
theorem Du{r:Ac}(h:DY r=true):r.tag.length=32∧2≤r.page.toNat:=by
 unfold DY at h
 simp only[Bool.and_eq_true,decide_eq_true_eq]at h
 exact⟨by omega,by have:=UInt32.le_iff_toNat_le.1 h.1;simpa using this⟩
theorem aT{r:Ac}(h:Jt r=true):r=⟨0,[]⟩:=by
 unfold Jt at h
 simp only[Bool.and_eq_true,decide_eq_true_eq]at h
 cases r
 simp only at h
 rw[h.1,h.2]
theorem j9(x:BR)(hb:x.kids.length≤1000):∀(T S:List Ac) (s:List UInt8),x.kids=S++T→(∀r∈T,r.tag.length≤32)→s.length+36*T.length≤100000→∀m,T.length<m→GL x m (s,(S.length:Int))=some (s++(T.map CS).flatten,0)
 | [],S,s,hk,ht,hs,m,hm=>by
  obtain⟨m,rfl⟩:∃k,m=k+1:=⟨m-1,by omega⟩
  show ER x (GL x m) _ _=_
  unfold ER bD
  rw[hk]
  simp only[List.append_nil]
  rw[zf zO,BD,if_pos (by simp at hs ⊢;omega)]
  simp
 | r::T,S,s,hk,ht,hs,m,hm=>by
  obtain⟨m,rfl⟩:∃k,m=k+1:=⟨m-1,by omega⟩
  have hlen:x.kids.length=S.length+(T.length+1):=by rw[hk];simp
  have n1:Ao x.kids (S.length:Int)=some r:=by
   rw[EF rfl,hk]
   simp
  simp only[List.length_cons]at hs hm
  have h32:=ht r zS
  show ER x (GL x m) _ _=_
  unfold ER
  dsimp only
  rw[zt zO,Be,n1,U,ed zO h32,U,A8 zO zO]
  have:=j9 x hb T (S++[r]) (s++CS r) (by rw[hk];simp) (fun q hq=>ht q (by simp[hq])) (by simp[Gl h32];omega) m zO
  simpa using this
theorem OH(r:AP):(CD r).length=17+r.txt.length:=by
 unfold CD
 simp[Ah]
 omega
theorem jc(x:BR)(hb:x.rows.length≤1000):∀(T S:List AP) (s:List UInt8),x.rows=S++T→(∀r∈T,r.txt.length≤16)→s.length+33*T.length≤100000→∀m,T.length<m→GM x m (s,(S.length:Int))=some (s++(T.map CD).flatten,0)
 | [],S,s,hk,ht,hs,m,hm=>by
  obtain⟨m,rfl⟩:∃k,m=k+1:=⟨m-1,by omega⟩
  show ET x (GM x m) _ _=_
  unfold ET bD
  rw[hk]
  simp only[List.append_nil]
  rw[zf zO,BD,if_pos (by simp at hs ⊢;omega)]
  simp
 | r::T,S,s,hk,ht,hs,m,hm=>by
  obtain⟨m,rfl⟩:∃k,m=k+1:=⟨m-1,by omega⟩
  have hlen:x.rows.length=S.length+(T.length+1):=by rw[hk];simp
  have n1:Ao x.rows (S.length:Int)=some r:=by
   rw[EF rfl,hk]
   simp
  simp only[List.length_cons]at hs hm
  have h16:=ht r zS
  show ET x (GM x m) _ _=_
  unfold ET
  dsimp only
  rw[zt zO,Be,n1,U,sT zO,U,Xh (by simp[Ah];omega),U,Xh (by simp[Ah];omega),U,
   VN (by simp[Ah];omega),U,eN (by simp[Ah];omega) zO,U,A8 zO zO]
  have:=jc x hb T (S++[r]) (s++CD r) (by rw[hk];simp) (fun q hq=>ht q (by simp[hq])) (by simp[OH];omega) m zO
  simpa[CD]using this
theorem EL{x:BR}(h:CL x=true)(hk:x.kind=1):x.cx=0∧x.cy=0∧x.lev=0∧x.kids=[]∧x.rows.length≤4∧Cx x.rows=true∧((x.npage=0∧x.ntag=[])∨DY ⟨x.npage,x.ntag⟩=true):=by
 unfold CL at h
 rw[zt hk,Be]at h
 simp only[Bool.and_eq_true,decide_eq_true_eq,Bool.or_eq_true,Bool.and_true]at h
 obtain⟨⟨⟨⟨⟨h1,h2,h3⟩,h4⟩,h5⟩,h6⟩,h7⟩:=h
 refine⟨h1,h2,h3,List.length_eq_zero_iff.1 zO,by omega,h6,?_⟩
 rcases h7 with h7 | h7
 have:=aT h7
 simp only[Ac.mk.injEq]at this
 exact .inl this
 exact .inr h7
theorem Dr{x:BR}(h:CL x=true)(hk:x.kind≠1):x.kind=2∧(∀r∈x.kids,DY r=true)∧x.rows=[]∧x.npage=0∧x.ntag=[]∧2≤x.kids.length∧x.kids.length≤4∧H7 ⟨x.cx,x.cy,x.lev⟩=true∧0<x.lev:=by
 unfold CL at h
 rw[zf hk,BD]at h
 cases hk2:decide (x.kind=2)with
 | false=>rw[hk2]at h;cases h
 | true=>
  rw[hk2,Be]at h
  simp only[Bool.and_eq_true,decide_eq_true_eq]at h
  obtain⟨⟨⟨⟨⟨⟨h1,h2⟩,h3⟩,h4⟩,h5⟩,h6⟩,h7⟩:=h
  have:=aT h3
  simp only[Ac.mk.injEq]at this
  exact⟨by simpa using hk2,fun r hr=>List.all_eq_true.1 h1 r hr,List.length_eq_zero_iff.1 zO,this.1,this.2,by omega,by omega,h6,h7⟩
theorem Kb{l:List AP}(h:Cx l=true):∀r∈l,r.txt.length≤16:=fun r hr=>by
 unfold Cx at h
 simp only[Bool.and_eq_true]at h
 have:=List.all_eq_true.1 h.1.1 r hr
 unfold GR at this
 simp only[Bool.and_eq_true,decide_eq_true_eq]at this
 omega
theorem Qm{n:Nat}{x:BR}(hn:10≤n)(h:CL x=true):Eh n x=some (Cj x,0):=by
 by_cases hk:x.kind=1
 obtain⟨h1,h2,h3,h4,h5,h6,h7⟩:=EL h hk
 have h32:x.ntag.length≤32:=by
  rcases h7 with h7 | h7
  rw[h7.2];simp
  have:=(Du h7).1
  simp only at this
  omega
 unfold Eh Cj
 rw[LW x zO (by rw[h4];simp;omega) zO (by rw[h4];simp),U,h,Bool.not_true,BD,VN zS,U,show decide (x.kind=2)=false by rw[hk];rfl,BD,BD,
  VN (by simp[Ah]),U,ed (by simp[Ah]) h32,U]
 have:=jc x zO x.rows [] (BA (BW x.kind) 1++(BA (BW (x.rows.length:Int)) 1++CS ⟨x.npage,x.ntag⟩)) rfl (Kb h6) (by simp[Ah,Gl (r:=⟨x.npage,x.ntag⟩) h32];omega) n zO
 simpa using this
 obtain⟨hk2,h1,h2,h3,h4,h5,h6,h7,h8⟩:=Dr h hk
 unfold Eh Cj
 rw[LW x (by rw[h2];simp;omega) zO (by rw[h2];simp) zO,U,h,Bool.not_true,BD,VN zS,U,show decide (x.kind=2)=true by rw[hk2];rfl,Be,Be,
  VN (by simp[Ah]),U,VN (by simp[Ah]),U,Xh (by simp[Ah]),U,Xh (by simp[Ah]),U]
 have:=j9 x zO x.kids [] (BA (BW x.kind) 1++(BA (BW (x.kids.length:Int)) 1++(BA (BW x.lev) 1++(BA x.cx.toUInt64 4++BA x.cy.toUInt64 4)))) rfl (fun r hr=>by have:=(Du (h1 r hr)).1;omega) (by simp[Ah];omega) n zO
 simpa using this
theorem Xj{n:Nat}{x:BR}(hr:x.rows.length<n)(hk:x.kids.length<n)(hb:x.rows.length≤1073741824)(hc:x.kids.length≤1073741824)(h:CL x=false):Eh n x=some ([],90):=by
 unfold Eh
 rw[LW x hr hk hb hc,U,h]
 rfl
theorem Sg{a b:List UInt8}{sh:Bool}{k:Int}(hk:k=(a.length:Int)):DV ⟨a++b,sh⟩ k=some (a,⟨b,sh⟩):=by
 subst hk
 unfold DV
 have h1:Cz (a++b) 0 (a.length:Int)=some (((a++b).drop 0).take (a.length-0)):=Dz rfl rfl zO zS
 have h2:Cz (a++b) (a.length:Int) ((a++b).length:Int)=some (((a++b).drop a.length).take ((a++b).length-a.length)):=Dz rfl rfl zS zS
 rw[zf zQ,BD]
 dsimp only
 rw[h1,U,h2,U]
 simp
theorem dH{v:UInt64}{w:Nat}{k:Int}{b:List UInt8}{sh:Bool}(hk:k=(w:Int))(hw:w≤8)(hv:v.toNat<2^(8*w)):CA ⟨BA v w++b,sh⟩ k=some (v,⟨b,sh⟩):=by
 unfold CA
 rw[Sg (by rw[Ah];exact hk),U]
 simp only[Ah]
 rw[if_pos hw]
 congr 2
 apply UInt64.toNat_inj.1
 have:=NR v w [] hw w (Nat.le_refl _)
 simp only[List.append_nil]at this
 rw[this,Nat.mod_eq_of_lt hv]
theorem WN{v:UInt64}{b:List UInt8}{sh:Bool}(hv:v.toNat<256):CA ⟨BA v 1++b,sh⟩ 1=some (v,⟨b,sh⟩):=dH (w:=1) rfl zO hv
theorem Uu{v:UInt64}{b:List UInt8}{sh:Bool}(hv:v.toNat<4294967296):CA ⟨BA v 4++b,sh⟩ 4=some (v,⟨b,sh⟩):=dH (w:=4) rfl zO hv
theorem n7{v:UInt64}{b:List UInt8}{sh:Bool}:CA ⟨BA v 8++b,sh⟩ 8=some (v,⟨b,sh⟩):=dH (w:=8) rfl zO (by have:=v.toNat_lt;omega)
theorem da{r:Ac}{b:List UInt8}{sh:Bool}(h:r.tag.length≤32):EG ⟨CS r++b,sh⟩=some (⟨r.page,r.tag++List.replicate (32-r.tag.length) 0⟩,⟨b,sh⟩):=by
 unfold EG CS
 rw[List.append_assoc,Uu (by have:=r.page.toNat_lt;simp;omega),U,Sg zQ,U]
 simp
theorem ZT{r:Ac}(h:DY r=true):(⟨r.page,r.tag++List.replicate (32-r.tag.length) 0⟩:Ac)=r:=by
 have:=(Du h).1
 rw[this]
 simp
theorem Cu{k:Nat}(h:k<4294967296):(BW (k:Int)).toNat=k:=by
 simp only[BW,UInt64.toNat_ofNat']
 omega
theorem ft{r:AP}{b:List UInt8}{sh:Bool}(h:r.txt.length≤16):LL ⟨CD r++b,sh⟩=some (r,⟨b,sh⟩):=by
 unfold LL CD
 simp only[List.append_assoc]
 rw[n7,U,Uu (by have:=r.x.toNat_lt;simp;omega),U,Uu (by have:=r.y.toNat_lt;simp;omega),U,
  WN (by rw[Cu zO];omega),U]
 simp only
 rw[Cu zO,A8 zO zO,Sg rfl,U]
 simp
theorem Tz{n:Nat}{y1:UInt64×Co}{y9 y10:UInt32}{y11:Int}{l3:List Ac}{y16:Ac×Co}{y17:List UInt8}(N:Nat)(hN:N≤4):∀(T S:List AP),S.length+T.length=N→(∀r∈T,r.txt.length≤16)→∀m,T.length<m→
  Jq y1 y9 y10 y11 l3 y16 y17 (Hu (N:Int)) (N9 (N:Int)) m (S.length,⟨(T.map CD).flatten,false⟩) (⟨(T.map CD).flatten,false⟩,S)=some (⟨wI (y1.1.toNat:Int),y9,y10,y11,S++T,l3,y16.1.page,y17⟩,⟨[],false⟩)
 | [],S,hl,ht,m,hm=>by
  obtain⟨m,rfl⟩:∃k,m=k+1:=⟨m-1,by omega⟩
  unfold Jq
  rw[Ll,show N9 (N:Int) (S.length,⟨(([]:List AP).map CD).flatten,false⟩)=true by simp only[N9,decide_eq_true_eq];simp at hl;omega,Be]
  unfold P3 M7
  simp
 | r::T,S,hl,ht,m,hm=>by
  obtain⟨m,rfl⟩:∃k,m=k+1:=⟨m-1,by omega⟩
  simp only[List.length_cons]at hl hm
  have ih:=Tz (n:=n) (y1:=y1) (y9:=y9) (y10:=y10) (y11:=y11) (l3:=l3) (y16:=y16) (y17:=y17) N hN T (S++[r]) zQ (fun q hq=>ht q (by simp[hq])) m zO
  unfold Jq at ih ⊢
  rw[Ll,show N9 (N:Int) (S.length,⟨((r::T).map CD).flatten,false⟩)=false by simp only[N9,decide_eq_false_iff_not];omega,BD]
  have hst:Hu (N:Int) (S.length,⟨((r::T).map CD).flatten,false⟩)=some (r,(S.length+1,⟨(T.map CD).flatten,false⟩)):=by
   unfold Hu
   simp only[List.map_cons,List.flatten_cons]
   rw[if_pos zO,ft (ht r zS),U]
  rw[hst,U]
  dsimp only
  have body:∀nx,MN y1 y9 y10 y11 l3 y16 y17 nx r ⟨(T.map CD).flatten,false⟩ S=nx (⟨(T.map CD).flatten,false⟩,S++[r]):=fun nx=>by
   unfold MN
   rw[CB zQ zQ,U,show((false:Bool)||decide (4<((S++[r]).length:Int)))=false by simp;omega,BD]
  rw[body]
  simpa using ih
theorem Xo{y1:UInt64×Co}{y12 y13 y14:UInt64×Co}(N:Nat)(hN:N≤4):∀(T S:List Ac),S.length+T.length=N→(∀r∈T,DY r=true)→∀m,T.length<m→
  K2 y1 (N:Int) y12 y13 y14 m (⟨(T.map CS).flatten,false⟩,S,(S.length:Int))=some (⟨wI (y1.1.toNat:Int),y13.1.toUInt32,y14.1.toUInt32,wI (y12.1.toNat:Int),[],S++T,0,[]⟩,⟨[],false⟩)
 | [],S,hl,ht,m,hm=>by
  obtain⟨m,rfl⟩:∃k,m=k+1:=⟨m-1,by omega⟩
  simp at hl
  show GA _ _ _ _ _ (K2 _ _ _ _ _ m) _ _ _=_
  unfold GA
  dsimp only
  rw[zf zO,BD]
  unfold QU
  simp
 | r::T,S,hl,ht,m,hm=>by
  obtain⟨m,rfl⟩:∃k,m=k+1:=⟨m-1,by omega⟩
  simp only[List.length_cons]at hl hm
  have hr:=ht r zS
  have ih:=Xo (y1:=y1) (y12:=y12) (y13:=y13) (y14:=y14) N hN T (S++[r]) zQ (fun q hq=>ht q (by simp[hq])) m zO
  show GA _ _ _ _ _ (K2 _ _ _ _ _ m) _ _ _=_
  unfold GA
  dsimp only
  rw[zt zO,Be]
  simp only[List.map_cons,List.flatten_cons]
  rw[da (by have:=(Du hr).1;omega),U]
  simp only[ZT hr]
  rw[CB zQ zQ,U,A8 zO zO]
  simpa using ih
theorem Rl{n:Nat}{x:BR}(hn:10≤n)(h:CL x=true):Eb n (Cj x)=some (x,0):=by
 have key:T2 n ⟨Cj x,false⟩=some (x,⟨[],false⟩):=by
  unfold T2 Cj
  by_cases hk:x.kind=1
  obtain⟨h1,h2,h3,h4,h5,h6,h7⟩:=EL h hk
  rw[WN (by rw[hk];decide),U,show decide (x.kind=2)=false by rw[hk];rfl,BD,WN (by rw[Cu zO];omega),U,A9]
  simp only
  have e1:wI ((BW x.kind).toNat:Int)=1:=by rw[hk];rfl
  rw[e1,show decide ((1:Int)=2)=false from rfl,BD,Cu zO,A8 zO zO]
  unfold QG
  have hx:(⟨1,0,0,0,x.rows,[],x.npage,x.ntag⟩:BR)=x:=by
   cases x
   simp only at h1 h2 h3 h4 hk
   rw[h1,h2,h3,h4,hk]
  rcases h7 with h7 | h7
  rw[da (by simp only;rw[h7.2];simp),U,iv,U]
  have hcond:(decide (x.npage=0)&&(decide (x.ntag++List.replicate (32-x.ntag.length) 0=List.replicate 32 0)&&true))=true:=by rw[h7.1,h7.2];rfl
  dsimp only
  rw[hcond,Be]
  unfold MA Se
  rw[if_pos zO,U]
  have:=Tz (n:=n) (y1:=(BW x.kind,⟨BA (BW (x.rows.length:Int)) 1++(CS ⟨x.npage,x.ntag⟩++(x.rows.map CD).flatten),false⟩)) (y9:=0) (y10:=0) (y11:=0) (l3:=[]) (y16:=(⟨x.npage,x.ntag++List.replicate (32-x.ntag.length) 0⟩,⟨(x.rows.map CD).flatten,false⟩)) (y17:=[]) x.rows.length h5 x.rows [] zS (Kb h6) n zO
  rw[h7.2]at hx
  simp only[e1,List.nil_append,List.length_nil,hx]at this
  exact this
  have h32:=(Du h7).1
  have h2':=(Du h7).2
  simp only at h32 h2'
  rw[da (by simp only;omega),U,iv,U]
  have ht:=ZT h7
  simp only[Ac.mk.injEq,true_and]at ht
  simp only[ht]
  have h0:decide (x.npage=0)=false:=by
   rw[decide_eq_false_iff_not]
   intro e
   rw[e]at h2'
   simp at h2'
  rw[h0,Bool.false_and,BD]
  unfold MA Se
  rw[if_pos zO,U]
  have:=Tz (n:=n) (y1:=(BW x.kind,⟨BA (BW (x.rows.length:Int)) 1++(CS ⟨x.npage,x.ntag⟩++(x.rows.map CD).flatten),false⟩)) (y9:=0) (y10:=0) (y11:=0) (l3:=[]) (y16:=(⟨x.npage,x.ntag⟩,⟨(x.rows.map CD).flatten,false⟩)) (y17:=x.ntag) x.rows.length h5 x.rows [] zS (Kb h6) n zO
  simp only[e1,List.nil_append,List.length_nil,hx]at this ⊢
  exact this
  obtain⟨hk2,h1,h2,h3,h4,h5,h6,h7,h8⟩:=Dr h hk
  have hlev:x.lev≤31:=by
   unfold H7 at h7
   cases hc:decide (x.lev<0)||decide (31<x.lev)with
   | true=>simp only[hc,Be]at h7;cases h7
   | false=>
    simp only[Bool.or_eq_false_iff,decide_eq_false_iff_not]at hc
    omega
  obtain⟨L,hL⟩:∃L:Nat,x.lev=(L:Int):=⟨x.lev.toNat,by omega⟩
  rw[WN (by rw[hk2];decide),U,show decide (x.kind=2)=true by rw[hk2];rfl,Be,WN (by rw[Cu zO];omega),U,A9]
  simp only
  have e1:wI ((BW x.kind).toNat:Int)=2:=by rw[hk2];rfl
  rw[e1,show decide ((2:Int)=2)=true from rfl,Be,WN (by rw[hL,Cu zO];omega),U,Uu (by have:=x.cx.toNat_lt;simp;omega),U,Uu (by have:=x.cy.toNat_lt;simp;omega),U,Cu zO,A8 zO zO]
  have:=Xo (y1:=(BW x.kind,⟨BA (BW (x.kids.length:Int)) 1++(BA (BW x.lev) 1++(BA x.cx.toUInt64 4++(BA x.cy.toUInt64 4++(x.kids.map CS).flatten))),false⟩)) (y12:=(BW x.lev,⟨BA x.cx.toUInt64 4++(BA x.cy.toUInt64 4++(x.kids.map CS).flatten),false⟩)) (y13:=(x.cx.toUInt64,⟨BA x.cy.toUInt64 4++(x.kids.map CS).flatten,false⟩)) (y14:=(x.cy.toUInt64,⟨(x.kids.map CS).flatten,false⟩)) x.kids.length h6 x.kids [] zS h1 n zO
  have hx:(⟨2,x.cx,x.cy,x.lev,[],x.kids,0,[]⟩:BR)=x:=by
   cases x
   simp only at h2 h3 h4 hk2
   rw[h2,h3,h4,hk2]
  have e2:wI ((BW x.lev).toNat:Int)=x.lev:=by rw[hL,Cu zO,A8 zO zO]
  simp only[e1,e2,List.nil_append,List.length_nil,UInt32.toUInt32_toUInt64,hx]at this ⊢
  exact this
 unfold Eb
 rw[key,U]
 have hl:x.rows.length≤4∧x.kids.length≤4:=by
  by_cases hk:x.kind=1
  obtain⟨h1,h2,h3,h4,h5,h6,h7⟩:=EL h hk
  rw[h4]
  exact⟨h5,by simp⟩
  obtain⟨hk2,h1,h2,h3,h4,h5,h6,h7,h8⟩:=Dr h hk
  rw[h2]
  exact⟨by simp,h6⟩
 rw[LW x zO zO zO zO,U,h]
 rfl
end

section
def bl(n:Nat):Nat:=if n=0 then 0 else Nat.log2 n+1
theorem gP(n:Nat):n<2^bl n:=by
 unfold bl
 split
 rename_i h;subst h;simp
 exact Nat.lt_log2_self
theorem cp{n k:Nat}(h:n<2^k):bl n≤k:=by
 unfold bl
 split
 omega
 rename_i h0
 exact(Nat.log2_lt h0).2 h
theorem mo{n:Nat}(h:0<bl n):2^(bl n-1)≤n:=by
 rcases Nat.lt_or_ge n (2^(bl n-1))with h1 | h1
 have:=cp h1
 omega
 exact h1
theorem lq{n L:Nat}(h1:n<2^L)(h2:L=0∨2^(L-1)≤n):bl n=L:=by
 have a:=cp h1
 rcases h2 with h2 | h2
 omega
 rcases Nat.lt_or_ge (bl n) L with h | h
 have h3:2^bl n≤2^(L-1):=Nat.pow_le_pow_right zD zO
 have h4:=gP n
 omega
 omega
theorem bC{n k:Nat}(h:2^k≤n):bl n=k+bl (n / 2^k):=by
 have hp:=Nat.two_pow_pos k
 have h0:0<n / 2^k:=Nat.div_pos h hp
 have hb:0<bl (n / 2^k):=by
  unfold bl
  rw[if_neg zO]
  omega
 refine lq ?_ (.inr ?_)
 rw[Nat.pow_add]
 have:=gP (n / 2^k)
 rw[Nat.mul_comm]
 exact(Nat.div_lt_iff_lt_mul hp).1 this
 have:=mo hb
 rw[show k+bl (n / 2^k)-1=k+(bl (n / 2^k)-1) by omega,Nat.pow_add]
 calc 2^k*2^(bl (n / 2^k)-1)≤2^k*(n / 2^k):=Nat.mul_le_mul_left _ this
  _≤n:=Nat.mul_div_le _ _
def jl:List UInt8:=[0,1,2,2,3,3,3,3,4,4,4,4,4,4,4,4,5,5,5,5,5,5,5,5,5,5,5,5,5,5,5,5]++List.replicate 32 6++List.replicate 64 7++List.replicate 128 8
theorem qN:∀b:Fin 256,jl[b.val]? = some (UInt8.ofNat (bl b.val)):=by decide +kernel
theorem jY(a:UInt32)(ha:a.toNat<256)(k:Nat)(hk:k≤24):OS a (k:Int)=some ((k+bl a.toNat:Nat):Int):=by
 have hb:a.toUInt8.toNat=a.toNat:=by
  rw[UInt32.toNat_toUInt8]
  omega
 have h8:bl a.toNat≤8:=cp zO
 unfold OS
 have ht:Ao jl (a.toUInt8.toNat:Int)=some (UInt8.ofNat (bl a.toNat)):=by
  rw[Ft,hb]
  exact qN ⟨a.toNat,ha⟩
 refine(congrArg (fun x=>Option.bind x _) (show Ao _ _=some (UInt8.ofNat (bl a.toNat))from ht)).trans ?_
 rw[U,A9]
 have:(UInt8.ofNat (bl a.toNat)).toNat=bl a.toNat:=by simp;omega
 rw[this,A8 zO zO]
 rfl
theorem YE(n:UInt32)(k:Nat)(h:k≤32):(shr32 n k).toNat=n.toNat / 2^k:=by
 have h1:=n.toNat_lt
 simp only[shr32,UInt32.toNat_ofNat',Nat.min_eq_left h]
 exact Nat.mod_eq_of_lt (Nat.lt_of_le_of_lt (Nat.div_le_self _ _) h1)
theorem jQ(a:UInt32)(ha:a.toNat<65536)(k:Nat)(hk:k≤16):OX a (k:Int)=some ((k+bl a.toNat:Nat):Int):=by
 unfold OX
 by_cases h:256≤a.toNat
 rw[zt (show(256:UInt32)≤a by rw[UInt32.le_iff_toNat_le];exact h),Be,A9,A9,A8 zO zO]
 have hs:=YE a 8 zD
 have:=jY (shr32 a 8) (by rw[hs];omega) (k+8) zO
 rw[show(k:Int)+8=((k+8:Nat):Int) by omega,this,hs]
 have hb:=bC (n:=a.toNat) (k:=8) zO
 congr 2
 omega
 rw[zf (show ¬(256:UInt32)≤a by rw[UInt32.le_iff_toNat_le];exact h),BD]
 exact jY a zO k zO
theorem kl(a:UInt32):YZ a=some ((bl a.toNat:Nat):Int):=by
 have h32:=a.toNat_lt
 unfold YZ
 by_cases h:65536≤a.toNat
 rw[zt (show(65536:UInt32)≤a by rw[UInt32.le_iff_toNat_le];exact h),Be,A9]
 have hs:=YE a 16 zD
 have:=jQ (shr32 a 16) (by rw[hs];omega) 16 zO
 rw[show((16:Nat):Int)=16 from rfl]at this
 rw[this,hs]
 have hb:=bC (n:=a.toNat) (k:=16) zO
 congr 2
 omega
 rw[zf (show ¬(65536:UInt32)≤a by rw[UInt32.le_iff_toNat_le];exact h),BD]
 have:=jQ a zO 0 zO
 rw[show((0:Nat):Int)=0 from rfl,Nat.zero_add]at this
 exact this
theorem WM{a b L:Nat}:a ^^^ b<2^L↔a / 2^L=b / 2^L:=by
 constructor
 intro h
 have h1:(a ^^^ b) / 2^L=0:=Nat.div_eq_of_lt h
 have h2:(a / 2^L) ^^^ (b / 2^L)=0:=by rw[←Nat.xor_div_two_pow];exact h1
 calc a / 2^L=a / 2^L ^^^ (b / 2^L ^^^ b / 2^L):=by rw[Nat.xor_self,Nat.xor_zero]
  _=b / 2^L:=by rw[←Nat.xor_assoc,h2,Nat.zero_xor]
 intro h
 have h2:(a ^^^ b) / 2^L=0:=by rw[Nat.xor_div_two_pow,h,Nat.xor_self]
 exact(Nat.div_eq_zero_iff_lt (Nat.two_pow_pos L)).1 h2
theorem gU{a b L:Nat}:a ||| b<2^L↔a<2^L∧b<2^L:=by
 constructor
 intro h
 exact⟨Nat.lt_of_le_of_lt Nat.left_le_or h,Nat.lt_of_le_of_lt Nat.right_le_or h⟩
 intro h
 exact Nat.or_lt_two_pow h.1 h.2
theorem gb{L:Nat}(h:L≤31):(shl32 1 L).toNat=2^L:=by
 simp only[shl32,UInt32.toNat_ofNat',Nat.min_eq_left (show L≤32 by omega)]
 have:2^L≤2^31:=Nat.pow_le_pow_right zD h
 rw[show(1:UInt32).toNat=1 from rfl,Nat.one_mul]
 exact Nat.mod_eq_of_lt (Nat.lt_of_le_of_lt this zD)
theorem ri{L:Nat}(h:L≤31):(shl32 1 L-1).toNat=2^L-1:=by
 have h1:=gb h
 have h2:=Nat.two_pow_pos L
 have h3:2^L≤2^31:=Nat.pow_le_pow_right zD h
 rw[UInt32.toNat_sub_of_le _ _ (by rw[UInt32.le_iff_toNat_le,h1];exact h2),h1]
 rfl
theorem kT{a L:Nat}(hL:L≤32)(ha:a<2^32):a &&& (2^32-2^L)=a / 2^L*2^L:=by
 apply Nat.eq_of_testBit_eq
 intro i
 have hp:=Nat.two_pow_pos L
 have hx:2^L-1<2^32:=by
  have:2^L≤2^32:=Nat.pow_le_pow_right zD hL
  omega
 rw[Nat.testBit_and,show 2^32-2^L=2^32-((2^L-1)+1) by rw[Nat.sub_add_cancel hp],Nat.testBit_two_pow_sub_succ hx,Nat.testBit_two_pow_sub_one,Nat.testBit_mul_two_pow,Nat.testBit_div_two_pow]
 by_cases h1:i<L
 rw[zt h1,zf (show ¬L≤i by omega)]
 simp
 rw[zf h1,zt (show L≤i by omega),Nat.sub_add_cancel zO]
 by_cases h2:i<32
 rw[zt h2];simp
 rw[Nat.testBit_lt_two_pow (Nat.lt_of_lt_of_le ha (Nat.pow_le_pow_right zD zO))]
 simp
theorem Sy(a:UInt32){L:Nat}(h:L≤31):(a &&& ~~~(shl32 1 L-1)).toNat=a.toNat / 2^L*2^L:=by
 have h1:=ri h
 have h2:=Nat.two_pow_pos L
 rw[UInt32.toNat_and,UInt32.toNat_not,h1,show UInt32.size-1-(2^L-1)=2^32-2^L by
  show 4294967296-1-(2^L-1)=4294967296-2^L
  omega]
 exact kT zO a.toNat_lt
theorem Xn(x y:UInt32){L:Nat}(h:L≤31):Im x y (L:Int)=some ⟨x &&& ~~~(shl32 1 L-1),y &&& ~~~(shl32 1 L-1),L⟩:=by
 unfold Im Sa
 rw[if_pos zO,U,A9]
 rfl
theorem kb{x y u v:UInt32}(hx:x.toNat<2147483648)(hy:y.toNat<2147483648)(hu:u.toNat<2147483648)(hv:v.toNat<2147483648):
  ∃L:Nat,L≤31∧LJ x y u v=some (⟨x &&& ~~~(shl32 1 L-1),y &&& ~~~(shl32 1 L-1),L⟩,0)∧x.toNat / 2^L=u.toNat / 2^L∧y.toNat / 2^L=v.toNat / 2^L∧
   (0<L→x.toNat / 2^(L-1)≠u.toNat / 2^(L-1)∨y.toNat / 2^(L-1)≠v.toNat / 2^(L-1)):=by
 have hn:((x ^^^ u) ||| (y ^^^ v)).toNat=(x.toNat ^^^ u.toNat) ||| (y.toNat ^^^ v.toNat):=by rw[UInt32.toNat_or,UInt32.toNat_xor,UInt32.toNat_xor]
 have hk:∀L,((x ^^^ u) ||| (y ^^^ v)).toNat<2^L↔x.toNat / 2^L=u.toNat / 2^L∧y.toNat / 2^L=v.toNat / 2^L:=fun L=>by
  rw[hn,gU,WM,WM]
 have h31:((x ^^^ u) ||| (y ^^^ v)).toNat<2^31:=(hk 31).2 ⟨by omega,by omega⟩
 have hL:=cp h31
 obtain⟨e1,e2⟩:=(hk _).1 (gP ((x ^^^ u) ||| (y ^^^ v)).toNat)
 refine⟨bl ((x ^^^ u) ||| (y ^^^ v)).toNat,hL,?_,e1,e2,fun h0=>?_⟩
 unfold LJ
 have hm:decide (2147483648≤max (max (max x y) u) v)=false:=by
  rw[decide_eq_false_iff_not,UInt32.le_iff_toNat_le,Jc,Jc,Jc]
  show ¬(2147483648≤_)
  omega
 rw[hm,BD,kl,U,Xn x y hL,U,Xn u v hL,U]
 have ex:x &&& ~~~(shl32 1 (bl ((x ^^^ u) ||| (y ^^^ v)).toNat)-1)=u &&& ~~~(shl32 1 (bl ((x ^^^ u) ||| (y ^^^ v)).toNat)-1):=UInt32.toNat_inj.1 (by rw[Sy x hL,Sy u hL,e1])
 have ey:y &&& ~~~(shl32 1 (bl ((x ^^^ u) ||| (y ^^^ v)).toNat)-1)=v &&& ~~~(shl32 1 (bl ((x ^^^ u) ||| (y ^^^ v)).toNat)-1):=UInt32.toNat_inj.1 (by rw[Sy y hL,Sy v hL,e2])
 simp only[ex,ey,decide_true,Bool.and_self,Bool.not_true,BD]
 have hge:=mo h0
 have:¬((x ^^^ u) ||| (y ^^^ v)).toNat<2^(bl ((x ^^^ u) ||| (y ^^^ v)).toNat-1):=zO
 rw[hk]at this
 exact Classical.not_and_iff_not_or_not.1 this
end

section
def qd(L:Nat)(r:AP):Nat:=(r.x.toNat / 2^(L-1))%2+2*((r.y.toNat / 2^(L-1))%2)
structure AR(c:Bb)(l:List AP)(L:Nat):Prop where
 lev:c.lev=(L:Int)
 le:L≤31
 cx:c.x.toNat%2^L=0
 cy:c.y.toNat%2^L=0
 lx:c.x.toNat<2147483648
 ly:c.y.toNat<2147483648
 inn:∀r∈l,r.x.toNat / 2^L=c.x.toNat / 2^L∧r.y.toNat / 2^L=c.y.toNat / 2^L
 two:0<L→∃r∈l,∃s∈l,qd L r≠qd L s
theorem NM{r:AP}(h:GR r=true):r.x.toNat<2147483648∧r.y.toNat<2147483648∧r.txt.length≤16:=by
 unfold GR at h
 simp only[Bool.and_eq_true,decide_eq_true_eq]at h
 have:=UInt32.lt_iff_toNat_lt.1 h.1
 rw[Jc]at this
 have h2:max r.x.toNat r.y.toNat<2147483648:=this
 omega
theorem FV{a L:Nat}(h:0<L):a / 2^(L-1) / 2=a / 2^L:=by
 rw[Nat.div_div_eq_div_mul,←Nat.pow_succ,Nat.succ_eq_add_one,Nat.sub_add_cancel h]
theorem ct{n:Nat}{l:List AP}(hl:l≠[])(hn:l.length<n)(hb:l.length≤1000000)(ok:∀r∈l,GR r=true):∃c L,Iu n l=some c∧AR c l L:=by
 have key:∀(T S:List AP) (x y u v:UInt32),l=S++T→(∀r∈S,x.toNat≤r.x.toNat∧r.x.toNat≤u.toNat∧y.toNat≤r.y.toNat∧r.y.toNat≤v.toNat)→(∃r∈l,r.x=x)→(∃r∈l,r.y=y)→(∃r∈l,r.x=u)→(∃r∈l,r.y=v)→
   ∀m,T.length<m→∃c L,GI l m (x,y,u,v,(S.length:Int))=some c∧AR c l L:=by
  intro T
  induction T with
  | nil=>
   intro S x y u v hS hin hx hy hu hv m hm
   obtain⟨m,rfl⟩:∃k,m=k+1:=⟨m-1,by omega⟩
   simp only[List.append_nil]at hS
   subst hS
   obtain⟨rx,hrx,ex⟩:=hx
   obtain⟨ry,hry,ey⟩:=hy
   obtain⟨ru,hru,eu⟩:=hu
   obtain⟨rv,hrv,ev⟩:=hv
   have lx:=(NM (ok rx hrx)).1
   have ly:=(NM (ok ry hry)).2.1
   have lu:=(NM (ok ru hru)).1
   have lv:=(NM (ok rv hrv)).2.1
   rw[ex]at lx
   rw[ey]at ly
   rw[eu]at lu
   rw[ev]at lv
   obtain⟨L,hL,hle,d1,d2,d3⟩:=kb lx ly lu lv
   have hp:=Nat.two_pow_pos L
   have hcx:=Sy x hL
   have hcy:=Sy y hL
   refine⟨⟨x &&& ~~~(shl32 1 L-1),y &&& ~~~(shl32 1 L-1),L⟩,L,?_,⟨rfl,hL,?_,?_,?_,?_,fun r hr=>?_,fun h0=>?_⟩⟩
   show EV l (GI l m) _ _ _ _ _=_
   unfold EV
   dsimp only
   rw[zf zO,BD]
   unfold J7
   rw[hle,U]
   show(x &&& ~~~(shl32 1 L-1)).toNat%2^L=0
   rw[hcx]
   exact Nat.mul_mod_left _ _
   show(y &&& ~~~(shl32 1 L-1)).toNat%2^L=0
   rw[hcy]
   exact Nat.mul_mod_left _ _
   show(x &&& ~~~(shl32 1 L-1)).toNat<_
   rw[hcx]
   exact Nat.lt_of_le_of_lt (Nat.div_mul_le_self _ _) lx
   show(y &&& ~~~(shl32 1 L-1)).toNat<_
   rw[hcy]
   exact Nat.lt_of_le_of_lt (Nat.div_mul_le_self _ _) ly
   show r.x.toNat / 2^L=(x &&& ~~~(shl32 1 L-1)).toNat / 2^L∧r.y.toNat / 2^L=(y &&& ~~~(shl32 1 L-1)).toNat / 2^L
   rw[hcx,hcy,Nat.mul_div_cancel _ hp,Nat.mul_div_cancel _ hp]
   obtain⟨a1,a2,a3,a4⟩:=hin r hr
   have b1:=Nat.div_le_div_right (c:=2^L) a1
   have b2:=Nat.div_le_div_right (c:=2^L) a2
   have b3:=Nat.div_le_div_right (c:=2^L) a3
   have b4:=Nat.div_le_div_right (c:=2^L) a4
   omega
   have g1:=FV (a:=x.toNat) h0
   have g2:=FV (a:=u.toNat) h0
   have g3:=FV (a:=y.toNat) h0
   have g4:=FV (a:=v.toNat) h0
   rcases d3 h0 with d | d
   refine⟨rx,hrx,ru,hru,fun e=>?_⟩
   unfold qd at e
   rw[ex,eu]at e
   omega
   refine⟨ry,hry,rv,hrv,fun e=>?_⟩
   unfold qd at e
   rw[ey,ev]at e
   omega
  | cons r T ih=>
   intro S x y u v hS hin hx hy hu hv m hm
   obtain⟨m,rfl⟩:∃k,m=k+1:=⟨m-1,by omega⟩
   have hlen:l.length=S.length+(T.length+1):=by rw[hS];simp
   have hr:r∈l:=by rw[hS];simp
   have n1:Ao l (S.length:Int)=some r:=by
    rw[EF rfl,hS]
    simp
   have hmin:∀a b:UInt32,min a b=a∨min a b=b:=fun a b=>by
    show(if a≤b then a else b)=a∨(if a≤b then a else b)=b
    split
    exact .inl rfl
    exact .inr rfl
   have hmax:∀a b:UInt32,max a b=a∨max a b=b:=fun a b=>by
    show(if a≤b then b else a)=a∨(if a≤b then b else a)=b
    split
    exact .inr rfl
    exact .inl rfl
   obtain⟨c,L,hc,hA⟩:=ih (S++[r]) (min x r.x) (min y r.y) (max u r.x) (max v r.y) (by rw[hS];simp) (fun q hq=>by
    rw[ZE,ZE,Jc,Jc]
    rcases List.mem_append.1 hq with hq | hq
    have:=hin q hq
    omega
    rw[List.mem_singleton.1 hq]
    omega) (by
    rcases hmin x r.x with e | e<;>rw[e]
    exact hx
    exact⟨r,hr,rfl⟩) (by
    rcases hmin y r.y with e | e<;>rw[e]
    exact hy
    exact⟨r,hr,rfl⟩) (by
    rcases hmax u r.x with e | e<;>rw[e]
    exact hu
    exact⟨r,hr,rfl⟩) (by
    rcases hmax v r.y with e | e<;>rw[e]
    exact hv
    exact⟨r,hr,rfl⟩) m (by simp at hm;omega)
   refine⟨c,L,?_,hA⟩
   show EV l (GI l m) _ _ _ _ _=_
   unfold EV
   dsimp only
   rw[zt zO,Be,n1,U,A9,A9,A9,A9,A8 zO zO]
   rw[show((S++[r]).length:Int)=(S.length:Int)+1 by simp only[List.length_append,List.length_singleton];omega]at hc
   exact hc
 obtain⟨r0,l0,rfl⟩:∃r0 l0,l=r0::l0:=by
  cases l with
  | nil=>exact absurd rfl hl
  | cons r0 l0=>exact⟨r0,l0,rfl⟩
 obtain⟨c,L,hc,hA⟩:=key (r0::l0) [] r0.x r0.y r0.x r0.y rfl zS ⟨r0,by simp,rfl⟩ ⟨r0,by simp,rfl⟩ ⟨r0,by simp,rfl⟩ ⟨r0,by simp,rfl⟩ n hn
 refine⟨c,L,?_,hA⟩
 unfold Iu
 have n0:Ao (r0::l0) 0=some r0:=rfl
 rw[n0,U,U,U,U]
 exact hc
theorem size_eq{c:Bb}{L:Nat}(h:c.lev=(L:Int)):Ht c=some (shl64 1 L):=by
 unfold Ht Sa
 rw[h,if_pos zO,U,A9]
 rfl
theorem L3{L:Nat}(h:L≤31):(shl64 1 L).toNat=2^L:=by
 simp only[shl64,UInt64.toNat_ofNat',Nat.min_eq_left (show L≤64 by omega)]
 have:2^L≤2^31:=Nat.pow_le_pow_right zD h
 rw[show(1:UInt64).toNat=1 from rfl,Nat.one_mul]
 exact Nat.mod_eq_of_lt (Nat.lt_of_le_of_lt this zD)
theorem hO{L:Nat}(h:L≤31):(shl64 1 L-1).toUInt32.toNat=2^L-1:=by
 have h1:=L3 h
 have h2:=Nat.two_pow_pos L
 have h3:2^L≤2^31:=Nat.pow_le_pow_right zD h
 rw[UInt64.toNat_toUInt32,UInt64.toNat_sub_of_le _ _ (by rw[UInt64.le_iff_toNat_le,h1];exact h2),h1]
 show(2^L-1)%4294967296=_
 exact Nat.mod_eq_of_lt zO
theorem XZ{c:Bb}{L:Nat}(h:c.lev=(L:Int))(hL:L≤31)(hx:c.x.toNat%2^L=0)(hy:c.y.toNat%2^L=0)(lx:c.x.toNat<2147483648)(ly:c.y.toNat<2147483648):H7 c=true:=by
 unfold H7
 rw[h,show(decide ((L:Int)<0)||decide (31<(L:Int)))=false by simp;omega,BD,Int.toNat_natCast,Bool.and_eq_true,decide_eq_true_eq,decide_eq_true_eq]
 constructor
 apply UInt32.toNat_inj.1
 rw[UInt32.toNat_and,hO hL,UInt32.toNat_or,Nat.and_two_pow_sub_one_eq_mod,Nat.or_mod_two_pow,hx,hy]
 rfl
 rw[UInt32.lt_iff_toNat_lt,Jc]
 show max _ _<2147483648
 omega
theorem AR.ok{c:Bb}{l:List AP}{L:Nat}(A:AR c l L):H7 c=true:=XZ A.lev A.le A.cx A.cy A.lx A.ly
theorem QX{a P:Nat}(hP:a%P=0)(ha:a<2147483648)(hd:∃k,k*P=2147483648):a+P≤2147483648:=by
 obtain⟨k,hk⟩:=hd
 have h1:a=a / P*P:=by
  have:=Nat.div_add_mod a P
  rw[hP,Nat.add_zero,Nat.mul_comm]at this
  exact this.symm
 have h2:a / P<k:=by
  rcases Nat.lt_or_ge (a / P) k with h | h
  exact h
  have:=Nat.mul_le_mul_right P h
  omega
 have h3:(a / P+1)*P≤k*P:=Nat.mul_le_mul_right P h2
 rw[Nat.add_mul,Nat.one_mul]at h3
 omega
theorem M9{L:Nat}(h:L≤31):∃k,k*2^L=2147483648:=⟨2^(31-L),by rw[←Nat.pow_add,Nat.sub_add_cancel h]⟩
theorem XY{a q P:Nat}(hP:0<P)(hq:q%P=0):(q≤a∧a≤q+(P-1))↔a / P=q / P:=by
 have h1:q=q / P*P:=by
  have:=Nat.div_add_mod q P
  rw[hq,Nat.add_zero,Nat.mul_comm]at this
  exact this.symm
 have h2:=Nat.div_add_mod a P
 have h3:=Nat.mod_lt a hP
 constructor
 rintro⟨g1,g2⟩
 have g3:q / P≤a / P:=Nat.div_le_div_right g1
 have g4:a / P<q / P+1:=by
  refine(Nat.div_lt_iff_lt_mul hP).2 ?_
  rw[Nat.add_mul,Nat.one_mul,←h1]
  omega
 omega
 intro g
 rw[g,Nat.mul_comm,←h1]at h2
 omega
theorem d8{q:Bb}{M:Nat}(x y:UInt32)(h:q.lev=(M:Int))(hM:M≤31)(hx:q.x.toNat%2^M=0)(hy:q.y.toNat%2^M=0)(lx:q.x.toNat<2147483648)(ly:q.y.toNat<2147483648):
  MO q x y=some (decide (x.toNat / 2^M=q.x.toNat / 2^M)&&decide (y.toNat / 2^M=q.y.toNat / 2^M)):=by
 have hp:=Nat.two_pow_pos M
 have mx:=QX hx lx (M9 hM)
 have my:=QX hy ly (M9 hM)
 have hf:=hO hM
 have ex:(q.x+(shl64 1 M-1).toUInt32).toNat=q.x.toNat+(2^M-1):=by rw[UInt32.toNat_add,hf];omega
 have ey:(q.y+(shl64 1 M-1).toUInt32).toNat=q.y.toNat+(2^M-1):=by rw[UInt32.toNat_add,hf];omega
 unfold MO
 rw[Pk,XZ h hM hx hy lx ly,U]
 unfold PW RK Kx
 rw[size_eq h]
 simp only[U,A9,FZ,Be]
 congr 1
 rw[Bool.eq_iff_iff]
 simp only[Bool.and_eq_true,decide_eq_true_eq,UInt32.le_iff_toNat_le,UInt32.lt_iff_toNat_lt,Jc,ex,ey,←XY hp hx,←XY hp hy]
 constructor
 rintro⟨⟨⟨⟨_,h1⟩,h2⟩,h3⟩,h4⟩
 exact⟨⟨h1,h2⟩,h3,h4⟩
 rintro⟨⟨h1,h2⟩,h3,h4⟩
 refine⟨⟨⟨⟨⟨⟨by omega,by omega⟩,?_⟩,h1⟩,h2⟩,h3⟩,h4⟩
 show max _ _<2147483648
 omega
theorem kR{c:Bb}{l:List AP}{L:Nat}(A:AR c l L)(h0:0<L){r:AP}(hr:r∈l):F0 c r.x r.y=some ((qd L r:Int),0):=by
 have hL:=A.le
 have hp:=Nat.two_pow_pos (L-1)
 obtain⟨i1,i2⟩:=A.inn r hr
 have mx:=QX A.cx A.lx (M9 hL)
 have my:=QX A.cy A.ly (M9 hL)
 have e2:2^L=2^(L-1)*2:=by rw[←Nat.pow_succ,Nat.succ_eq_add_one,Nat.sub_add_cancel h0]
 have hh:(shl64 1 L / 2).toUInt32.toNat=2^(L-1):=by
  rw[UInt64.toNat_toUInt32,UInt64.toNat_div,L3 hL,show(2:UInt64).toNat=2 from rfl,e2,Nat.mul_div_cancel _ zD]
  show _%4294967296=_
  have:2^(L-1)≤2^31:=Nat.pow_le_pow_right zD zO
  exact Nat.mod_eq_of_lt zO
 have hx2:c.x.toNat%2^(L-1)=0:=by
  have:=A.cx
  rw[e2]at this
  rw[←Nat.mod_mul_right_mod c.x.toNat (2^(L-1)) 2,this]
  simp
 have hy2:c.y.toNat%2^(L-1)=0:=by
  have:=A.cy
  rw[e2]at this
  rw[←Nat.mod_mul_right_mod c.y.toNat (2^(L-1)) 2,this]
  simp
 have gx:=FV (a:=c.x.toNat) h0
 have gy:=FV (a:=c.y.toNat) h0
 have rx:=FV (a:=r.x.toNat) h0
 have ry:=FV (a:=r.y.toNat) h0
 have cxe:c.x.toNat / 2^(L-1)%2=0:=by
  have:=A.cx
  rw[e2,Nat.mod_mul]at this
  have h5:2^(L-1)*(c.x.toNat / 2^(L-1)%2)=0:=zO
  rcases Nat.mul_eq_zero.1 h5 with h6 | h6
  omega
  exact h6
 have cye:c.y.toNat / 2^(L-1)%2=0:=by
  have:=A.cy
  rw[e2,Nat.mod_mul]at this
  have h5:2^(L-1)*(c.y.toNat / 2^(L-1)%2)=0:=zO
  rcases Nat.mul_eq_zero.1 h5 with h6 | h6
  omega
  exact h6
 generalize hhd:(shl64 1 L / 2).toUInt32=hf at hh
 
 have c0:∀a:UInt32,(a+hf*0)=a:=fun a=>by simp
 have c1:∀a:UInt32,a.toNat+2^L≤2147483648→(a+hf*1).toNat=a.toNat+2^(L-1):=fun a ha=>by
  rw[UInt32.mul_one,UInt32.toNat_add,hh]
  rw[e2]at ha
  omega
 have m1:∀a:Nat,a%2^(L-1)=0→(a+2^(L-1))%2^(L-1)=0:=fun a ha=>by simp[ha]
 have d1:∀a:Nat,(a+2^(L-1)) / 2^(L-1)=a / 2^(L-1)+1:=fun a=>Nat.add_div_right a hp
 have hlev:wI (c.lev-1)=((L-1:Nat):Int):=by rw[A.lev,A8 zO zO];omega
 have hasq:∀(qx qy:UInt32) (bx by_:Nat),qx.toNat=c.x.toNat+bx*2^(L-1)→qy.toNat=c.y.toNat+by_*2^(L-1)→bx≤1→by_≤1→
   MO ⟨qx,qy,((L-1:Nat):Int)⟩ r.x r.y=some (decide (r.x.toNat / 2^(L-1)%2=bx)&&decide (r.y.toNat / 2^(L-1)%2=by_)):=by
  intro qx qy bx by_ e1 e3 hbx hby
  have hxm:qx.toNat%2^(L-1)=0:=by
   rw[e1,Nat.add_mul_mod_self_right]
   exact hx2
  have hym:qy.toNat%2^(L-1)=0:=by
   rw[e3,Nat.add_mul_mod_self_right]
   exact hy2
  have bxl:bx*2^(L-1)≤2^(L-1):=by
   calc bx*2^(L-1)≤1*2^(L-1):=Nat.mul_le_mul_right _ hbx
    _=2^(L-1):=Nat.one_mul _
  have byl:by_*2^(L-1)≤2^(L-1):=by
   calc by_*2^(L-1)≤1*2^(L-1):=Nat.mul_le_mul_right _ hby
    _=2^(L-1):=Nat.one_mul _
  rw[d8 (M:=L-1) r.x r.y rfl zO hxm hym (by rw[e1];omega) (by rw[e3];omega)]
  have f1:qx.toNat / 2^(L-1)=c.x.toNat / 2^(L-1)+bx:=by rw[e1];exact Nat.add_mul_div_right _ _ hp
  have f2:qy.toNat / 2^(L-1)=c.y.toNat / 2^(L-1)+by_:=by rw[e3];exact Nat.add_mul_div_right _ _ hp
  congr 2
  rw[decide_eq_decide]
  show r.x.toNat / 2^(L-1)=qx.toNat / 2^(L-1)↔_
  rw[f1]
  omega
  rw[decide_eq_decide]
  show r.y.toNat / 2^(L-1)=qy.toNat / 2^(L-1)↔_
  rw[f2]
  omega
 unfold F0 bG Ty
 rw[U,Pk,A.ok,U,show(!true||decide (c.lev=0))=false by rw[A.lev];simp;omega,BD,size_eq A.lev,U]
 have hq:Pd (shl64 1 L) 2=some (shl64 1 L / 2):=by
  unfold Pd
  rw[if_neg zD]
 rw[hq,U,U,hhd]
 unfold Eu
 rw[hlev,c0,c0]
 have q00:=hasq c.x c.y 0 0 zS zS zO zO
 have q10:=hasq (c.x+hf*1) c.y 1 0 (by rw[c1 _ mx];omega) zS zO zO
 have q01:=hasq c.x (c.y+hf*1) 0 1 zS (by rw[c1 _ my];omega) zO zO
 have q11:=hasq (c.x+hf*1) (c.y+hf*1) 1 1 (by rw[c1 _ mx];omega) (by rw[c1 _ my];omega) zO zO
 unfold Kf qd
 simp only[W4,JB,q00,q10,q01,q11,U]
 have bx:=Nat.mod_two_eq_zero_or_one (r.x.toNat / 2^(L-1))
 have by_:=Nat.mod_two_eq_zero_or_one (r.y.toNat / 2^(L-1))
 rcases bx with bx | bx<;>rcases by_ with by_ | by_<;>rw[bx,by_]<;>rfl
end

section
inductive R5 {α β:Type} (R:α→β→Prop):List α→List β→Prop
 | nil:R5 R [] []
 | cons {a b xs ys}:R a b→R5 R xs ys→R5 R (a::xs) (b::ys)
theorem R5.length{α β:Type}{R:α→β→Prop}{xs:List α}{ys:List β}(h:R5 R xs ys):xs.length=ys.length:=by
 induction h with
 | nil=>rfl
 | cons _ _ ih=>simp[ih]
def Mf(L:Nat)(l:List AP):List (List AP):=[l.filter fun r=>decide (qd L r=0),l.filter fun r=>decide (qd L r=1),l.filter fun r=>decide (qd L r=2),l.filter fun r=>decide (qd L r=3)]
def L4(L:Nat)(l:List AP):List (List AP):=(Mf L l).filter fun p => !p.isEmpty
theorem ip(L:Nat)(r:AP):qd L r<4:=by
 unfold qd
 omega
theorem Z3{c:Bb}{l:List AP}{L:Nat}(A:AR c l L)(h0:0<L):∀(T:List AP) (p:P4),(∀r∈T,r∈l)→p.1.length+p.2.1.length+p.2.2.1.length+p.2.2.2.length+T.length≤100000→
  L5 c T p=some (p.1++T.filter (fun r=>decide (qd L r=0)),p.2.1++T.filter (fun r=>decide (qd L r=1)),p.2.2.1++T.filter (fun r=>decide (qd L r=2)),p.2.2.2++T.filter (fun r=>decide (qd L r=3)))
 | [],p,_,_=>by simp[L5]
 | r::T,p,hT,hb=>by
  simp only[List.length_cons]at hb
  have hw:=kR A h0 (hT r zS)
  have h4:=ip L r
  have ih:=fun p hp=>Z3 A h0 T p (fun q hq=>hT q (by simp[hq])) hp
  unfold L5 S2
  rw[hw,U]
  dsimp only
  rcases(show qd L r=0∨qd L r=1∨qd L r=2∨qd L r=3 by omega)with e | e | e | e
  rw[e,if_pos (show((0:Nat):Int)=0 from rfl),CB zQ zQ,U,U,ih _ zQ]
  simp[e]
  rw[e,if_neg zD,if_pos (show((1:Nat):Int)=1 from rfl),CB zQ zQ,U,U,ih _ zQ]
  simp[e]
  rw[e,if_neg zD,if_neg zD,if_pos (show((2:Nat):Int)=2 from rfl),CB zQ zQ,U,U,ih _ zQ]
  simp[e]
  rw[e,if_neg zD,if_neg zD,if_neg zD,if_pos (show((3:Nat):Int)=3 from rfl),CB zQ zQ,U,U,ih _ zQ]
  simp[e]
theorem bI(L:Nat)(l:List AP):(Mf L l).flatten.Perm l:=by
 unfold Mf
 simp only[List.flatten_cons,List.flatten_nil,List.append_nil]
 induction l with
 | nil=>exact List.Perm.refl _
 | cons r l ih=>
  have h4:=ip L r
  rcases(show qd L r=0∨qd L r=1∨qd L r=2∨qd L r=3 by omega)with e | e | e | e<;>simp only[List.filter_cons,e,decide_true,if_true]<;>simp only[show decide ((0:Nat)=1)=false from rfl,show decide ((0:Nat)=2)=false from rfl,show decide ((0:Nat)=3)=false from rfl,show decide ((1:Nat)=0)=false from rfl,show decide ((1:Nat)=2)=false from rfl,show decide ((1:Nat)=3)=false from rfl,show decide ((2:Nat)=0)=false from rfl,show decide ((2:Nat)=1)=false from rfl,show decide ((2:Nat)=3)=false from rfl,show decide ((3:Nat)=0)=false from rfl,show decide ((3:Nat)=1)=false from rfl,show decide ((3:Nat)=2)=false from rfl,Bool.false_eq_true,if_false]
  all_goals
   refine List.perm_iff_count.2 fun x=>?_
   have:=List.perm_iff_count.1 ih x
   simp only[List.count_append,List.count_cons]at this ⊢
   omega
theorem Uj(ps:List (List AP)):(ps.filter fun p => !p.isEmpty).flatten=ps.flatten:=by
 induction ps with
 | nil=>rfl
 | cons p ps ih=>
  cases p with
  | nil=>simpa using ih
  | cons r p=>simp[ih]
theorem Wj(L:Nat)(l:List AP):(L4 L l).flatten.Perm l:=by
 unfold L4
 rw[Uj]
 exact bI L l
theorem UE{L:Nat}{l p:List AP}(h:p∈L4 L l):p≠[]∧∃i,p=l.filter fun r=>decide (qd L r=i):=by
 unfold L4 at h
 obtain⟨h1,h2⟩:=List.mem_filter.1 h
 refine⟨by simpa using h2,?_⟩
 unfold Mf at h1
 simp only[List.mem_cons,List.not_mem_nil,or_false]at h1
 rcases h1 with rfl | rfl | rfl | rfl
 exact⟨0,rfl⟩
 exact⟨1,rfl⟩
 exact⟨2,rfl⟩
 exact⟨3,rfl⟩
theorem NF{L:Nat}{l p:List AP}(h:p∈L4 L l):p.Sublist l:=by
 obtain⟨_,i,rfl⟩:=UE h
 exact List.filter_sublist ..
theorem Y3(L:Nat)(l:List AP):(L4 L l).length≤4:=by
 unfold L4
 exact Nat.le_trans (List.length_filter_le ..) (Nat.le_refl 4)
theorem Y4{L:Nat}{l:List AP}{r:AP}(h:r∈l):(l.filter fun s=>decide (qd L s=qd L r))∈L4 L l:=by
 have h4:=ip L r
 unfold L4
 refine List.mem_filter.2 ⟨?_,?_⟩
 unfold Mf
 rcases(show qd L r=0∨qd L r=1∨qd L r=2∨qd L r=3 by omega)with e | e | e | e<;>rw[e]<;>simp
 have:r∈l.filter fun s=>decide (qd L s=qd L r):=List.mem_filter.2 ⟨h,by simp⟩
 cases hx:l.filter fun s=>decide (qd L s=qd L r)with
 | nil=>rw[hx]at this;simp at this
 | cons a b=>rfl
theorem PI{c:Bb}{l:List AP}{L:Nat}(A:AR c l L)(h0:0<L):2≤(L4 L l).length∧∀p∈L4 L l,p.length<l.length:=by
 obtain⟨r,hr,s,hs,hne⟩:=A.two h0
 have h1:=Y4 (L:=L) hr
 have h2:=Y4 (L:=L) hs
 have hd:(l.filter fun q=>decide (qd L q=qd L r))≠(l.filter fun q=>decide (qd L q=qd L s)):=by
  intro e
  have:r∈l.filter fun q=>decide (qd L q=qd L r):=List.mem_filter.2 ⟨hr,by simp⟩
  rw[e]at this
  have:=(List.mem_filter.1 this).2
  simp only[decide_eq_true_eq]at this
  exact hne this
 constructor
 rcases hq:L4 L l with _ | ⟨a,_ | ⟨b,q⟩⟩
 rw[hq]at h1;simp at h1
 rw[hq]at h1 h2
 simp only[List.mem_singleton]at h1 h2
 exact absurd (h1.trans h2.symm) hd
 simp
 intro p hp
 obtain⟨_,i,rfl⟩:=UE hp
 have:∃q∈l,qd L q≠i:=by
  by_cases e:qd L r=i
  exact⟨s,hs,fun e'=>hne (e.trans e'.symm)⟩
  exact⟨r,hr,e⟩
 obtain⟨q,hq,hqi⟩:=this
 rcases Nat.lt_or_ge (l.filter fun r=>decide (qd L r=i)).length l.length with h | h
 exact h
 have:=(List.filter_sublist (p:=fun r=>decide (qd L r=i)) (l:=l)).eq_of_length_le h
 have h5:=List.filter_eq_self.1 this q hq
 simp only[decide_eq_true_eq]at h5
 exact absurd h5 hqi
def Tr:Nat→List AP→Bc→Prop
 | 0,_,_=>False
 | f+1,l,t=>(l=[]∧t=.mk 0 0 0 [] [])∨(l≠[]∧∃c L,AR c l L∧(((l.length≤4∨L=0)∧t=.mk c.x c.y c.lev l [])∨
   (4<l.length∧0<L∧∃ks,t=.mk c.x c.y c.lev [] ks∧R5 (Tr f) (L4 L l) ks)))
theorem UP{rec_:List AP→Option Bc}{R:List AP→Bc→Prop}:∀(ps:List (List AP)) (acc:List Bc),(∀p∈ps,p≠[]→∃t,rec_ p=some t∧R p t)→acc.length+ps.length≤1000→∃ks,Ea rec_ ps acc=some (acc++ks)∧R5 R (ps.filter fun p => !p.isEmpty) ks
 | [],acc,_,_=>⟨[],by simp[Ea],.nil⟩
 | p::ps,acc,h,hb=>by
  simp only[List.length_cons]at hb
  unfold Ea
  cases p with
  | nil=>
   obtain⟨ks,h1,h2⟩:=UP ps acc (fun q hq=>h q (by simp[hq])) zO
   exact⟨ks,by simpa using h1,by simpa using h2⟩
  | cons r p=>
   obtain⟨t,ht,hR⟩:=h (r::p) zS zS
   obtain⟨ks,h1,h2⟩:=UP ps (acc++[t]) (fun q hq=>h q (by simp[hq])) zQ
   refine⟨t::ks,?_,?_⟩
   rw[zt (by simp only[List.length_cons];omega),Be,ht,U,CB zQ zQ,U,h1]
   simp
   simp only[List.filter_cons,List.isEmpty_cons,Bool.not_false,if_true]
   exact .cons hR h2
theorem fF{n:Nat}:∀(f:Nat) (l:List AP),l.length<f→(∀r∈l,GR r=true)→l.length≤1000→l.length<n→∃t,IZ n f l=some t∧Tr f l t
 | 0,l,h,_,_,_=>by omega
 | f+1,l,h,ok,hb,hn=>by
  unfold IZ
  rw[if_neg zO]
  by_cases hl:l=[]
  subst hl
  exact⟨.mk 0 0 0 [] [],rfl,.inl ⟨rfl,rfl⟩⟩
  have hp:=List.length_pos_iff.2 hl
  obtain⟨c,L,hc,A⟩:=ct hl hn zO ok
  rw[zf zO,BD,hc,U]
  by_cases hleaf:l.length≤4∨L=0
  rw[show(decide ((l.length:Int)≤4)||decide (c.lev=0))=true by rw[A.lev];simp;omega,Be]
  unfold U5
  rw[CB zQ zQ,U]
  exact⟨_,rfl,.inr ⟨hl,c,L,A,.inl ⟨hleaf,rfl⟩⟩⟩
  have h0:0<L:=zO
  rw[show(decide ((l.length:Int)≤4)||decide (c.lev=0))=false by rw[A.lev];simp;omega,BD,Z3 A h0 l _ (fun r hr=>hr) zQ,U]
  simp only[List.nil_append]
  obtain⟨_,h2⟩:=PI A h0
  obtain⟨ks,h3,h4⟩:=UP (rec_:=IZ n f) (R:=Tr f) (Mf L l) [] (fun p hp' hne=>by
   have hq:p∈L4 L l:=List.mem_filter.2 ⟨hp',by simpa using hne⟩
   have:=h2 p hq
   exact fF f p zO (fun r hr=>ok r ((NF hq).subset hr)) zO zO) (by simp[Mf])
  unfold Mf at h3
  rw[h3,U]
  exact⟨_,rfl,.inr ⟨hl,c,L,A,.inr ⟨by omega,h0,ks,by simp,h4⟩⟩⟩
theorem VZ{n:Nat}{l:List AP}(hn:1002≤n)(h:Cx l=true):∃t,Ke n l=some (t,0)∧IZ n n l=some t∧Tr n l t:=by
 have h':=h
 unfold Cx at h'
 simp only[Bool.and_eq_true,decide_eq_true_eq]at h'
 have hb:l.length≤1000:=zO
 obtain⟨t,h1,h2⟩:=fF (n:=n) n l zO (fun r hr=>List.all_eq_true.1 h'.1.1 r hr) hb zO
 refine⟨t,?_,h1,h2⟩
 unfold Ke
 rw[Pw l zO zO,U,h,Bool.not_true,BD,h1,U]
theorem Vn{n:Nat}{l:List AP}(hn:l.length<n)(hb:l.length≤1073741824)(h:Cx l=false):Ke n l=some (.mk 0 0 0 [] [],80):=by
 unfold Ke
 rw[Pw l hn hb,U,h]
 rfl
end

section
variable {P:Program}{ro:Option Nat}{K:Nat→Prop}{w0:World}{N:Nat}{Q:C7}{D:List Nat}{l l':Tm}{H H' Hs:List AV}{ops:Array Oper}{items:Ic}
variable {tk:Bool}{o:Oper}{t:Nat}{v:Value}{x y z u:Operand}
theorem qF{b off n c sz:Nat}{k k' k'':IntKind}{i j m:Int}{ty e:TypeId}(p q:Nat)(ho:At ops N l o t (.slice ty x (some y) (some z) (some u)))(hty:P.underlying ty=some (.slice e))(hsz:C3 P e=some sz)(hx:Bf l x=some (.slice (some ⟨b,off,none⟩) n c))(hy:Bf l y=some (.int k i))(hz:Bf l z=some (.int k' j))(hu:Bf l u=some (.int k'' m))
(hi:i=(p:Int))(hj:j=(q:Int))(hm:m=(q:Int))(hp:p<q)(hq:q≤c)(h:SL P ro K w0 N ops Hs items Q D ((t,.slice (some ⟨b,off+p*sz,none⟩) (q-p) (q-p))::l) H):SL P ro K w0 N ops Hs (.cons (tk,o) items) Q D l H:=
 SL.val ho rfl (fun a w ha _=>by
  subst hi hj hm
  have hle:p≤q:=Nat.le_of_lt hp
  have hne:¬q=p:=zO
  simp only[execOp,ho.op,Instr.sliceAt,Instr.slice,Option.map]
  simp[ha.eval hx,ha.eval hy,ha.eval hz,ha.eval hu,A0 hty,CZ hsz,Instr.sliceBounds,Instr.sliceBound,asIntOf,hq,hle,hne,CE]) h
theorem CJ.piece{α:Type}{enc:α→List Value}{sz b off n cap:Nat}{xs:List α}(h:CJ K w0 enc sz (.slice (some ⟨b,off,none⟩) n cap) xs)(p q:Nat)(hpq:p≤q)(hq:q≤xs.length):CJ K w0 enc sz (.slice (some ⟨b,off+p*sz,none⟩) (q-p) (q-p)) ((xs.drop p).take (q-p)):=by
 have hl:((xs.drop p).take (q-p)).length=q-p:=by simp;omega
 refine⟨h.len,?_⟩
 rcases h.at_ with⟨a0,e,rfl⟩ | ⟨b',off',cap',e,hcap,hc⟩
 have:q=0:=by simpa using hq
 subst this
 obtain rfl:p=0:=zO
 exact .inl ⟨_,rfl,by simp⟩
 simp only[Value.slice.injEq,Option.some.injEq,Addr.mk.injEq]at e
 obtain⟨⟨rfl,rfl,_⟩,_,_⟩:=e
 refine .inr ⟨b,off+p*sz,q-p,by rw[hl],by omega,fun j u hu=>?_⟩
 have hfl:(xs.take p).flatMap enc++(((xs.drop p).take (q-p)).flatMap enc++((xs.drop p).drop (q-p)).flatMap enc)=xs.flatMap enc:=by
  rw[←List.flatMap_append,List.take_append_drop,←List.flatMap_append,List.take_append_drop]
 have hj:j<(((xs.drop p).take (q-p)).flatMap enc).length:=(List.getElem?_eq_some_iff.1 hu).1
 have hpl:((xs.take p).flatMap enc).length=p*sz:=by
  rw[H8 h.len,List.length_take,Nat.min_eq_left zO]
 have:=hc (p*sz+j) u (by
  rw[←hfl,List.getElem?_append_right zO,hpl,Nat.add_sub_cancel_left,List.getElem?_append_left hj]
  exact hu)
 rw[Nat.add_assoc]
 exact this
end

section
variable {K:Nat→Prop}{w0:World}{H:List AV}
theorem EB{A B R M:List AV}{w:World}(h:BZ K w0 ((A++(B++R))++M) w):BZ K w0 ((B++(A++R))++M) w:=by
 refine h.perm (List.Perm.append_right _ ?_)
 rw[←List.append_assoc,←List.append_assoc]
 exact List.Perm.append_right _ List.perm_append_comm
structure H5 where
 out:List BG
 wrong:Int
abbrev VG(σ:Type):=σ→List UInt8→Option ((Ac×Int)×σ)
def cQ{σ:Type}(T:List UInt32)(fid:FuncId)(cs:Array Value)(C:Value→σ→List AV)(wh:VG σ):Prop:=
 ∀(K:Nat→Prop) (w0:World) (H:List AV) (a:Value) (q:σ) (s:List UInt8) (r:(Ac×Int)×σ),Hd K w0 T→wh q s=some r→
  zC K w0 fid (vS s::cs.toList) (C a q) H (fun u M=>u=.tuple #[.agg (Af r.1.1).toArray,vI r.1.2]∧∃a',M=C a' r.2)
def Rm{σ:Type}(e:List UInt8)(p:H5)(w:Ac×Int×σ):Option (Ac×(H5×σ)):=
 cond (!decide (w.2.1=0)) (some (⟨0,[]⟩,({ p with wrong:=w.2.1 },w.2.2))) ((Cp 40 p.out [⟨e,w.1.page,w.1.tag⟩]).bind fun l=>some (w.1,({ p with out:=l },w.2.2)))
def Gi{σ:Type}(n:Nat)(wh:VG σ)(x:BR)(p:H5)(q:σ):Option (Ac×(H5×σ)):=
 cond (!decide (p.wrong=0)) (some (⟨0,[]⟩,(p,q)))
  ((Eh n x).bind fun e=>cond (decide (e.2=0)) ((wh q e.1).bind fun w=>Rm e.1 p (w.1.1,w.1.2,w.2)) (Rm e.1 p (⟨0,[]⟩,e.2,q)))
abbrev KW(bp:Nat)(fw vo:Value)(p:H5):AV:=AN bp (.cells #[fw,vo,vI p.wrong] 106)
theorem RM{σ:Type}{C:Value→σ→List AV}{wh:VG σ}{fid:FuncId}{cs:Array Value}{T:List UInt32}{n bp:Nat}{vo v4 v5 a:Value}{x:BR}{p:H5}{q:σ}{r:Ac×(H5×σ)}(hcal:AS Tryz.prog fid=true)(hwh:cQ T fid cs C wh)(hS:Hd K w0 T)
(h:Gi n wh x p q=some r)(hs4:CJ K w0 AJ 4 v4 x.rows)(hs5:CJ K w0 Af 2 v5 x.kids):
  zC K w0 85 [vP bp 0,.agg #[vI x.kind,AA x.cx,AA x.cy,vI x.lev,v4,v5,AA x.npage,vS x.ntag]] (KW bp (.func (.func fid) #[] cs) vo p::AH 72 3 vo Ar p.out::C a q) H
   (fun u M=>u=.agg (Af r.1).toArray∧∃vo' a',M=KW bp (.func (.func fid) #[] cs) vo' r.2.1::AH 72 3 vo' Ar r.2.1.out::C a' r.2.2):=by
 unfold Gi at h
 refine UJ.enter Tryz.func85 rfl rfl ?_
 show SX _ _ _ _ _ _ _ _ _ (KW bp (.func (.func fid) #[] cs) vo p::AH 72 3 vo Ar p.out::(C a q++H))
 refine Z ?_
 refine Bd E E zU fun b0=>?_
 refine Ag E Dc zU fun b1=>?_
 refine Y (AE (Z (J E (AW E E (AD E QZ (AF 2 Rq E (V E Bg (Y ?_))))))))
 refine AT h E (fun hc1 h=>?_) fun hc1 h=>?_
 obtain rfl:=zI h
 refine Z (BK [] E LR LU Dc zT E (Aj 0 E E E E DH E E E zT (Y (AL (Aa ?_)))))
 exact AX (FD E (BC 0 (Af ⟨0,[]⟩) Cf E E E E)) (AY (M:=_::_::C a q) ⟨E,vo,a,E⟩ fun _ hw=>BZ.pick (H:=[_,_,_,_]) hw [2,3] 4 E)
 refine AC h fun e he h=>?_
 refine AI (AG (Z (Ab [vI x.kind,AA x.cx,AA x.cy,vI x.lev,v4,v5,AA x.npage,vS x.ntag] E FE E E (AZ 1 E) (AQ 0 oz (ZC he hs4 hs5) E (J E (Al E E E (Al E E E (O E (O E (Y (Z ?_)))))))))))
 refine Ag E Dc zU fun b2=>?_
 refine Y ?_
 refine A4 (α:=Ac×Int×σ×Value) (fun w=>Rm e.1 p (w.1,w.2.1,w.2.2.1)=some r) (fun w=>[(0,vP bp 0),(4,vP b1 0),(5,vS e.1),(6,vI w.2.1),(7,vP b2 0)])
  (fun w=>AN b2 (.cells #[AA w.1.page,vS w.1.tag] 31)::AN b1 (.cells #[AA 0,vS []] 31)::KW bp (.func (.func fid) #[] cs) vo p::AH 72 3 vo Ar p.out::(C w.2.2.2 w.2.2.1++H)) ?_ (fun w D h=>?_)
 refine Z (J E (V E CH (Y ?_)))
 refine AT h E (fun hc2 h=>?_) fun hc2 h=>?_
 refine AC h fun w hw1 h=>?_
 refine AK (J E (AW E E (AD E nK (AF 3 uI E (J E ?_)))))
 refine SL.heap (H':=C a q++([_,_,_,_,_]++H)) ?_ (fun _ hw=>EB (A:=[_,_,_,_,_]) (B:=C a q) (R:=H) hw)
 refine Bm (vs:=[_]) (Hin:=C a q) (Hr:=[_,_,_,_,_]++H) E E ⟨E,zT⟩ hcal E E (hwh K w0 _ a q e.1 w hS hw1) ?_
 rintro _ _ ⟨rfl,a1,rfl⟩
 refine⟨trivial,?_⟩
 refine SL.heap ?_ (fun _ hw=>EB (A:=C a1 w.2) (B:=[_,_,_,_,_]) (R:=H) hw)
 refine J E (Al E E E (Al E E E (Aj 0 E E E E DH E E E zT (O E (AU ?_)))))
 exact Av (w.1.1,w.1.2,w.2,a1) h tL (BB [0,1,3,4] 5 E E E)
 refine AI ?_
 exact Av (⟨0,[]⟩,e.2,q,a) h tL (BB [0,1,3,4] 5 E E E)
 obtain⟨w,we,q1,a1⟩:=w
 unfold Rm at h
 dsimp only at h
 try dsimp only
 refine AE (Z (J E (V E Bg (Y ?_))))
 refine AT h E (fun hc3 h=>?_) fun hc3 h=>?_
 obtain rfl:=zI h
 refine Z (J E (J E (AW E E (AD E QZ (Aj 2 E E E E aR E E E zT (Y (Z (BK [] E LR LU Dc zT E (Aj 1 E E E E DH E E E zT (Y (AL (Aa ?_))))))))))))
 exact AX (FD E (BC 1 (Af ⟨0,[]⟩) Cf E E E E)) (AY (M:=_::_::C a1 q1) ⟨E,vo,a1,E⟩ fun _ hw=>BZ.pick (H:=[_,_,_,_]) hw [2,3] 4 E)
 refine AC h fun l hl h=>?_
 obtain rfl:=zI h
 refine AI (AG (AE (Ak Ca [0,2] (Bo [(true,0),(true,1),(true,2),(true,3),(true,4),(true,5),(true,6),(true,7),(false,8),(false,9),(true,10),(true,11)] (.last 12 .nil)) zK (J E (J E (AW E E (AD E Yr (AF 1 LH E (J E (Ab (Af w) E Cf E E (AZ 0 E) ?_))))))))))
 refine BK [_,_] E lm oV RU ⟨E,E,zT⟩ E ?_
 refine Bz [_] rfl He Mz RU ⟨rfl,trivial⟩ rfl rfl rfl zW rfl rfl (fun _=>⟨⟨1,rfl⟩,⟨3,rfl⟩,trivial⟩) fun b3=>?_
 refine B4 Ar 3 ([(⟨e.1,w.page,w.tag⟩:BG)]:List BG) E zV E ?_
 refine CW 4 hl (sz:=3) (enc:=Ar) zV E He Mz jm RU E zD E E E E (By (sz:=3) (enc:=Ar) 0 zV E) (by simp[Ar,Value.oneCell']) (fun _=>⟨⟨1,E⟩,⟨3,E⟩,zT⟩) fun v3=>?_
 refine AW E E (AD E Yr (BN ?_))
 refine Br 4 E fun hv3 ho3=>?_
 refine Dy 3 E E E E jT hv3 ho3 E zT (Y (Z (Ab (Af w) E Cf E E (AZ 1 E) (Aj 2 E E E E DH E E E zT (Y (AL ?_))))))
 exact AX (FD E (BC 2 (Af w) Cf E E E E)) (AY (M:=_::_::C a1 q1) ⟨E,v3,a1,E⟩ fun _ hw=>BZ.pick (H:=[_,_,_,_,_]) hw [3,4] 5 E)
end

section
variable {K:Nat→Prop}{w0:World}{H:List AV}
abbrev Ly:=Xm×List AP
def Jb(a:Ly):List Value:=[a.1.val]
def Rg(b off:Nat)(l:List AP)(i:Nat):Ly:=
 (⟨some ⟨b,off+4*i*4,none⟩,min (4*i+4) l.length-4*i,min (4*i+4) l.length-4*i⟩,(l.drop (4*i)).take (min (4*i+4) l.length-4*i))
def KZ(b off:Nat)(l:List AP)(n:Nat):List Ly:=(List.range n).map (Rg b off l)
def LP(b off:Nat)(l:List AP):List Ly:=KZ b off l ((l.length+3) / 4)
theorem f4{b off n cap:Nat}{l:List AP}(h:CJ K w0 AJ 4 (.slice (some ⟨b,off,none⟩) n cap) l):∀a∈LP b off l,CJ K w0 AJ 4 a.1.val a.2:=by
 intro a ha
 obtain⟨i,hi,rfl⟩:=List.mem_map.1 ha
 have hi':=List.mem_range.1 hi
 exact h.piece (4*i) (min (4*i+4) l.length) zO zO
theorem Zq(b off:Nat)(l:List AP)(n:Nat):KZ b off l (n+1)=KZ b off l n++[Rg b off l n]:=by
 simp[KZ,List.range_succ]
theorem ZD(b off:Nat)(l:List AP)(k:Nat)(h:4*k<l.length):∃suf,LP b off l=KZ b off l k++Rg b off l k::suf:=by
 obtain⟨m,hm⟩:∃m,(l.length+3) / 4=k+1+m:=⟨(l.length+3) / 4-(k+1),by omega⟩
 refine⟨(List.range m).map fun j=>Rg b off l (k+1+j),?_⟩
 rw[LP,hm,KZ,List.range_add,List.map_append,List.map_map,List.range_succ,List.map_append,List.append_assoc]
 rfl
theorem fx{b1 b2 b off cap:Nat}{l:List AP}{G0:List AV}(hl:l.length≤1048576)(hs:CJ K w0 AJ 4 (.slice (some ⟨b,off,none⟩) l.length cap) l)(hcap:l.length≤cap):
  Pf Tryz.prog K w0 173 [vP b1 0,vP b2 0] [AN b1 (.cells #[.slice (some ⟨b,off,none⟩) l.length cap] 35),AN b2 (.cells #[vI 4] 3)] G0 Jb (LP b off l):=by
 intro lp J9 X T rc hy h0
 refine UJ.enter Tryz.func173 rfl rfl ?_
 show SX _ _ _ _ _ _ _ _ _ (AN b1 (.cells #[.slice (some ⟨b,off,none⟩) l.length cap] 35)::AN b2 (.cells #[vI 4] 3)::((rc::G0)++T))
 refine Z (O E (Y (AM ?_)))
 refine SX.mono (A5 (α:=Nat×List AV) (fun x=>4*x.1≤l.length+3∧J9 (KZ b off l x.1) x.2) (fun x=>[(0,vY lp),(1,vP b1 0),(2,vP b2 0),(4,vI ((4*x.1:Nat):Int))])
  (fun x=>AN b1 (.cells #[.slice (some ⟨b,off,none⟩) l.length cap] 35)::AN b2 (.cells #[vI 4] 3)::(x.2++T)) (fun x=>l.length-x.1) (fun x D hp=>?_) (0,rc::G0) ⟨by omega,h0⟩) tL
 obtain⟨k,G⟩:=x
 obtain⟨hk,hJ⟩:=hp
 dsimp only at hk hJ ⊢
 refine AE (Z (J E (AF 0 FF E (Nl E Bt E (V E Aw (Y ?_))))))
 refine As E (fun hc1=>?_) (fun hc1=>?_)
 have hlt:4*k<l.length:=by
  have:=of_decide_eq_true hc1
  omega
 clear hc1
 obtain⟨suf,hsp⟩:=ZD b off l k hlt
 refine AI (AG (AE (AM (AE (Ak Ca [0,1] (Pl.of [(true,0),(true,1),(true,2),(true,3),(true,4),(true,5),(true,6)]) zK (AF 1 D3 E (AF 0 FF E (J E (ZR (4*k) E Bt B2 E E E zO zO (Nl E Bt E (P2 E E E (O E (Y (Z ?_))))))))))))))
 refine J E (AF 0 FF E (J E (J E (J E (V E (BU zO zO) (J E (J E ?_)))))))
 refine V E (BU zO zO) (qF (4*k) (min (4*k+4) l.length) E Bt B2 E E E E E zO zO zO zO ?_)
 refine JJ (M2:=[_,_]) (G:=G) (T:=T) (vs:=[_]) (ok:=fun G1=>J9 (KZ b off l (k+1)) G1) (no:=X) E E ⟨E,zT⟩ E ?_ (fun bb G1 hG1=>⟨zT,?_⟩)
 intro M
 have:=hy (KZ b off l k) (Rg b off l k) suf hsp G hJ M
 rw[←Zq]at this
 exact this
 refine CN E E (Y ?_)
 refine As E (fun hc3=>?_) (fun hc3=>?_)
 obtain rfl:bb=false:=by simpa using hc3
 refine AL (BX (Aa (Dj (BX ?_))))
 exact AX (DU E) (AY (M:=G1) (.inr hG1) fun _ h=>h.skip [_,_])
 obtain rfl:bb=true:=by simpa using hc3
 refine AI (An (AG (AK (J E (AF 1 D3 E (V E (BU zO zO) ?_))))))
 refine Am (u:=vI ((4*(k+1):Nat):Int)) E E (congrArg vI zO) ?_
 refine AU ?_
 exact Ai (k+1,G1) ⟨by omega,hG1⟩ (by dsimp only;omega) tL (BB [0,1] 2 E E E)
 have hge:l.length≤4*k:=by
  have:=of_decide_eq_false hc1
  omega
 have hkk:(l.length+3) / 4=k:=zO
 refine Ax (A3 (BL (Az ?_)))
 exact Cr (DU E) (AY (M:=G) (.inl (by rw[LP,hkk];exact hJ)) fun _ h=>h.skip [_,_])
end

section
variable {K:Nat→Prop}{w0:World}{H:List AV}
theorem iq{α:Type}{by_:Nat}{xs:List α}{x:α}(h:xs.length+1≤1048576)(hb:by_≤1024):Cp by_ xs [x]=some (xs++[x]):=by
 have h1:(xs.length+1)*by_≤1048576*1024:=Nat.mul_le_mul h hb
 rw[Cp,if_pos ⟨by simp only[List.length_cons,List.length_nil,Nat.zero_add];omega,by simp only[List.length_cons,List.length_nil,Nat.zero_add];omega⟩]
theorem k6(a:Ly)(u:Value)(h:u∈Jb a):u.oneCell'=true:=by
 obtain rfl:u=a.1.val:=by simpa[Jb]using h
 rfl
theorem mZ{v:Value}:zC K w0 128 [v,vI 4] [] H (fun u M=>∃b1 b2:Nat,u=.func (.func 173) #[] #[vP b1 0,vP b2 0]∧M=[AN b1 (.cells v.cells 35),AN b2 (.cells #[vI 4] 3)]):=by
 refine UJ.enter Tryz.func128 rfl rfl ?_
 refine Z ?_
 refine Bd E E zU fun b1=>?_
 refine Bd E E zU fun b2=>?_
 refine O E (Y (AE (Z (AF 0 D3 E (V E Aw (Y (E5 E (AI (AG (Z ?_))))))))))
 refine Hb (fv:=#[]) (cv:=#[_,_]) E E E ?_
 refine O E (Y (AL ?_))
 exact DM [1,0] 2 (De E E) E E ⟨_,_,E,E⟩
theorem dG{f:FuncId}{cap:List Value}{Hit:List AV}{xs:List Ly}(hcal:AS Tryz.prog f=true)(hn:xs.length≤1048576)(hseq:∀G0,Pf Tryz.prog K w0 f cap Hit G0 Jb xs):
  zC K w0 172 [.slice none 0 0,.func (.func f) #[] cap.toArray] Hit H (fun u M=>∃v0:Value,u=v0∧M=[AH 35 1 v0 Jb xs]):=by
 refine UJ.enter Tryz.func172 rfl rfl ?_
 refine Z ?_
 refine Bd E E zU fun b0=>?_
 refine O E (Y (Ox 35 1 Jb (SX.pick [1,0] 2 (AE (Z (J E (Y (AM ?_))))))))
 refine SX.heap (Nn (enc:=Jb) xs (G0:=AN b0 (.cells #[zN] 200)::AH 35 1 zN Jb []::H) (fun pre G=>∃vr:Value,G=AN b0 (.cells #[vr] 200)::AH 35 1 vr Jb pre::H) (fun _ _=>False) E hcal E zV (hseq _) E ⟨_,E⟩ (fun pre x suf G hxs hJ r lp Rest=>?_) (fun G D hJ=>?_) (fun c G D hX=>hX.elim)) (fun _ hw=>EB (A:=[_,_]) (B:=Hit) (R:=H) hw)
 obtain⟨vr,rfl⟩:=hJ
 have hlen:pre.length+1≤1048576:=by
  have:=congrArg List.length hxs
  simp only[List.length_append,List.length_cons]at this
  omega
 refine AK (O E (AU ?_))
 refine Lo (G:=AN b0 (.cells #[vr] 200)::AH 35 1 vr Jb pre::H) ?_
 refine AM (AK (AF 0 dN E (J E ?_)))
 refine Bz [_] rfl Vb K8 ln ⟨rfl,trivial⟩ rfl rfl rfl (by intro v hv;simp only[List.mem_cons,List.not_mem_nil,or_false]at hv;rcases hv with rfl;rfl) rfl rfl zU fun b1=>?_
 refine B4 Jb 1 ([x]:List Ly) E zV E ?_
 refine CW 2 (iq hlen (by decide:24≤1024)) (sz:=1) (enc:=Jb) zV E Vb K8 uS ln E zD E E E E (By (sz:=1) (enc:=Jb) 0 zV E) k6 zU fun v3=>?_
 refine Br 2 E fun hv3 ho3=>?_
 refine Dy 1 E E E E tO hv3 ho3 E zT (AU (An ?_))
 exact Iq ⟨v3,E⟩ (BB [1,2] 3 E E E)
 obtain⟨vr,rfl⟩:=hJ
 refine An (AG (Z (AF 0 dN E (O E (Y (AL ?_))))))
 exact DM [1] 2 (De E E) E E ⟨_,E,E⟩
theorem iB{f:FuncId}{cap:List Value}{Hit:List AV}{xs:List Ly}(hcal:AS Tryz.prog f=true)(hn:xs.length≤1048576)(hseq:∀G0,Pf Tryz.prog K w0 f cap Hit G0 Jb xs):
  zC K w0 127 [.func (.func f) #[] cap.toArray] Hit H (fun u M=>∃v0:Value,u=v0∧M=[AH 35 1 v0 Jb xs]):=by
 refine UJ.enter Tryz.func127 rfl rfl ?_
 refine Z (O E (Y (Z (J E ?_))))
 refine Bm (vs:=[_,_]) (Hin:=Hit) (Hr:=_) E E ⟨E,E,zT⟩ qb E E (dG hcal hn hseq) ?_
 rintro v1 _ ⟨_,rfl,rfl⟩
 refine⟨trivial,?_⟩
 refine O E (Y (AL ?_))
 exact DM [0] 1 (De E E) E E ⟨_,E,E⟩
end

section
variable {K:Nat→Prop}{w0:World}{H:List AV}
def FA{α:Type}(xs:List α):List (Int×α):=(xs.zipIdx.map fun p=>((p.2:Int),p.1)).reverse
theorem Ji{α:Type}(xs:List α):(FA xs).length=xs.length:=by simp[FA]
theorem Yl{α:Type}(xs:List α)(k:Nat)(h:k<xs.length):(FA xs)[k]'(by rw[Ji];exact h)=(((xs.length-1-k:Nat):Int),xs[xs.length-1-k]' zO):=by
 simp[FA,List.getElem_reverse,List.getElem_map,List.getElem_zipIdx]
theorem bA{α:Type}(ys:List α)(k:Nat)(h:k<ys.length):ys=ys.take k++ys[k]::ys.drop (k+1):=by
 rw[←List.drop_eq_getElem_cons h,List.take_append_drop]
theorem Yz{α:Type}(ys:List α)(k:Nat)(h:k<ys.length):ys.take k++[ys[k]]=ys.take (k+1):=by
 rw[List.take_add_one,List.getElem?_eq_getElem h]
 rfl
def mq(a:Int×Ly):List Value:=[vI a.1,a.2.1.val]
theorem rC{bx:Nat}{va:Value}{xs:List Ly}{G0:List AV}(hn:xs.length≤1048576):
  Pf Tryz.prog K w0 174 [vP bx 0] [AN bx (.cells #[va] 200),AH 35 1 va Jb xs] G0 mq (FA xs):=by
 intro lp J9 X T rc hy h0
 refine UJ.enter Tryz.func174 rfl rfl ?_
 show SX _ _ _ _ _ _ _ _ _ (AN bx (.cells #[va] 200)::AH 35 1 va Jb xs::((rc::G0)++T))
 refine Z ?_
 refine Br 1 E fun hva hoa=>?_
 refine AF 0 dN E (D0 1 E Vb E E (V E (Dh zO zO) (O E (Y (AM ?_)))))
 refine SX.mono (A5 (α:=Nat×List AV) (fun x=>x.1≤xs.length∧J9 ((FA xs).take x.1) x.2) (fun x=>[(0,vY lp),(1,vP bx 0),(3,vI ((xs.length:Int)-1-(x.1:Int)))])
  (fun x=>AN bx (.cells #[va] 200)::AH 35 1 va Jb xs::(x.2++T)) (fun x=>xs.length-x.1) (fun x D hp=>?_) (0,rc::G0) ⟨Nat.zero_le _,h0⟩) (by simpa using tL)
 obtain⟨k,G⟩:=x
 obtain⟨hk,hJ⟩:=hp
 dsimp only at hk hJ ⊢
 refine AE (Z (J E (V E Iy (Y ?_))))
 refine As E (fun hc1=>?_) (fun hc1=>?_)
 have hlt:k<xs.length:=by
  have:=of_decide_eq_true hc1
  omega
 clear hc1
 have hb:k<(FA xs).length:=by rw[Ji];exact hlt
 have hget:=Yl xs k hlt
 have hx:Ao xs ((xs.length:Int)-1-(k:Int))=some (xs[xs.length-1-k]' zO):=by
  rw[Ao,if_pos zO,show((xs.length:Int)-1-(k:Int)).toNat=xs.length-1-k by omega]
  exact List.getElem?_eq_getElem _
 refine AI (AG (AE (AM (Z (J E (J E (AF 0 dN E (J E ?_))))))))
 refine BV 1 hx E Vb K8 E E E fun g1 m1 cp1 hv1=>?_
 refine Bh E FF E (Bw (sz:=1) (enc:=Jb) 1 0 zV E hv1 hx E) ?_
 refine JJ (M2:=[_,_]) (G:=G) (T:=T) (vs:=[_,_]) (ok:=fun G1=>J9 ((FA xs).take (k+1)) G1) (no:=X) E E ⟨E,E,zT⟩ E ?_ (fun bb G1 hG1=>⟨zT,?_⟩)
 intro M
 have:=hy ((FA xs).take k) ((FA xs)[k]) ((FA xs).drop (k+1)) (bA _ k hb) G hJ M
 rw[Yz _ k hb,hget]at this
 rw[show((xs.length:Int)-1-(k:Int))=((xs.length-1-k:Nat):Int) by omega]
 exact this
 refine CN E E (Y ?_)
 refine As E (fun hc3=>?_) (fun hc3=>?_)
 obtain rfl:bb=false:=by simpa using hc3
 refine AL (BX (Aa (Dj (BX ?_))))
 exact AX (DU E) (AY (M:=G1) (.inr hG1) fun _ h=>h.skip [_,_])
 obtain rfl:bb=true:=by simpa using hc3
 refine AI (An (AG (AK (J E (V E (Dh zO zO) ?_)))))
 refine Am (u:=vI ((xs.length:Int)-1-((k+1:Nat):Int))) E E (congrArg vI zO) ?_
 refine AU ?_
 exact Ai (k+1,G1) ⟨hlt,hG1⟩ (by dsimp only;omega) tL (BB [0,1] 2 E E E)
 have hge:k=xs.length:=by
  have:=of_decide_eq_false hc1
  omega
 subst hge
 rw[List.take_of_length_le (by rw[Ji];exact Nat.le_refl _)]at hJ
 refine Ax (A3 (BL (Az ?_)))
 exact Cr (DU E) (AY (M:=G) (.inl hJ) fun _ h=>h.skip [_,_])
theorem pM{va:Value}(hva:va.cells=#[va]):zC K w0 129 [va] [] H (fun u M=>∃bx:Nat,u=.func (.func 174) #[] #[vP bx 0]∧M=[AN bx (.cells #[va] 200)]):=by
 refine UJ.enter Tryz.func129 rfl rfl ?_
 refine Z ?_
 refine Bd E E zU fun b1=>?_
 rw[hva]
 refine O E (Y (Z ?_))
 refine Hb (fv:=#[]) (cv:=#[_]) E E E ?_
 refine O E (Y (AL ?_))
 exact DM [0] 1 (De E E) E E ⟨_,E,E⟩
end

section
variable {K:Nat→Prop}{w0:World}{H:List AV}
theorem Xe{α:Type}(xs:List α):(FA xs).map (·.2)=xs.reverse:=by
 rw[FA,List.map_reverse,List.map_map]
 congr 1
 have:((fun x:Int×α=>x.2)∘fun p:α×Nat=>((p.2:Int),p.1))=Prod.fst:=rfl
 rw[this,List.zipIdx_map_fst]
def Oz(v:Value)(l:List AP):List Ly:=
 match v,l with
 | _,[]=>[(⟨none,0,0⟩,[])]
 | .slice (some a) _ _,l=>LP a.block a.off l
 | _,l=>[]
theorem Vo(v:Value):Oz v []=[(⟨none,0,0⟩,[])]:=by cases v<;>rfl
theorem Ol{b off n c:Nat}{l:List AP}(h:l≠[]):Oz (.slice (some ⟨b,off,none⟩) n c) l=LP b off l:=by
 cases l with
 | nil=>exact absurd rfl h
 | cons _ _=>rfl
theorem mR{v:Value}{l:List AP}(h:CJ K w0 AJ 4 v l):∀a∈Oz v l,CJ K w0 AJ 4 a.1.val a.2:=by
 by_cases hl:l=[]
 subst hl
 rw[Vo]
 intro a ha
 obtain rfl:=List.mem_singleton.1 ha
 exact⟨h.len,.inl ⟨_,rfl,rfl⟩⟩
 rcases h.at_ with⟨_,_,e⟩ | ⟨b,off,cap,rfl,hc,hcell⟩
 exact absurd e hl
 rw[Ol hl]
 exact f4 h
theorem Z7{b1 b2:Nat}{a:Option Addr}{G0:List AV}:
  Pf Tryz.prog K w0 173 [vP b1 0,vP b2 0] [AN b1 (.cells #[.slice a 0 0] 35),AN b2 (.cells #[vI 4] 3)] G0 Jb []:=by
 intro lp J9 X T rc hy h0
 refine UJ.enter Tryz.func173 rfl rfl ?_
 show SX _ _ _ _ _ _ _ _ _ (AN b1 (.cells #[.slice a 0 0] 35)::AN b2 (.cells #[vI 4] 3)::((rc::G0)++T))
 refine Z (O E (Y (AM ?_)))
 refine SX.mono (A5 (α:=Unit) (fun _=>True) (fun _=>[(0,vY lp),(1,vP b1 0),(2,vP b2 0),(4,vI 0)])
  (fun _=>AN b1 (.cells #[.slice a 0 0] 35)::AN b2 (.cells #[vI 4] 3)::((rc::G0)++T)) (fun _=>0) (fun x D hp=>?_) () trivial) tL
 refine AE (Z (J E (AF 0 FF E (Nl E Bt E (V E Aw (Y (E5 E (Ax (A3 (BL (Az ?_)))))))))))
 exact Cr (DU E) (AY (M:=rc::G0) (.inl h0) fun _ h=>h.skip [_,_])
def IP(v:Value)(l:List AP):List Ly:=if l=[]then[]else Oz v l
theorem kg{b1 b2:Nat}{v:Value}{l:List AP}(hl:l.length≤1048576)(hs:CJ K w0 AJ 4 v l)(G0:List AV):
  Pf Tryz.prog K w0 173 [vP b1 0,vP b2 0] [AN b1 (.cells v.cells 35),AN b2 (.cells #[vI 4] 3)] G0 Jb (IP v l):=by
 by_cases h0:l=[]
 subst h0
 rw[IP,if_pos rfl]
 rcases hs.at_ with⟨a,rfl,_⟩ | ⟨b,off,cap,rfl,_⟩
 exact Z7
 rcases hs.at_ with⟨a,e,_⟩ | ⟨b',off',cap',e,hc,hcell⟩
 rw[e]
 exact Z7
 have:=fx (G0:=G0) (b1:=b1) (b2:=b2) (cap:=cap) hl hs zS
 exact this
 rcases hs.at_ with⟨_,_,e⟩ | ⟨b,off,cap,rfl,hc,hcell⟩
 exact absurd e h0
 rw[IP,if_neg h0,Ol h0]
 exact fx hl hs hc
theorem RN(b off:Nat)(l:List AP):(LP b off l).length=(l.length+3) / 4:=by simp[LP,KZ]
theorem W2{v:Value}{l:List AP}(hs:CJ K w0 AJ 4 v l)(hl:l.length≤1048576):(IP v l).length≤1048576:=by
 by_cases h0:l=[]
 rw[IP,if_pos h0];simp
 rcases hs.at_ with⟨_,_,e⟩ | ⟨b,off,cap,rfl,hc,hcell⟩
 exact absurd e h0
 rw[IP,if_neg h0,Ol h0,RN]
 omega
theorem Yq{v:Value}{l:List AP}(hs:CJ K w0 AJ 4 v l):(if(IP v l).length=0 then[((⟨none,0,0⟩:Xm),([]:List AP))]else IP v l)=Oz v l:=by
 by_cases h0:l=[]
 subst h0
 rw[IP,if_pos rfl,Vo]
 rfl
 rcases hs.at_ with⟨_,_,e⟩ | ⟨b,off,cap,rfl,hc,hcell⟩
 exact absurd e h0
 have hp:0<l.length:=List.length_pos_iff.2 h0
 rw[IP,if_neg h0,Ol h0,if_neg (by rw[RN];omega)]
end

section
variable {K:Nat→Prop}{w0:World}{H:List AV}
theorem CJ.one{α:Type}{enc:α→List Value}{sz:Nat}{v:Value}{xs:List α}(h:CJ K w0 enc sz v xs):v.cells=#[v]:=by
 rcases h.at_ with⟨_,rfl,_⟩ | ⟨_,_,_,rfl,_⟩<;>rfl
theorem kL{bx:Nat}{v:Value}{l:List AP}{G0:List AV}(hl:l.length≤1048576)(hs:CJ K w0 AJ 4 v l):
  Pf Tryz.prog K w0 126 [vP bx 0] [AN bx (.cells #[v] 35)] G0 Jb (Oz v l).reverse:=by
 intro lp J9 X T rc hy h0
 refine UJ.enter Tryz.func126 rfl rfl ?_
 show SX _ _ _ _ _ _ _ _ _ (AN bx (.cells #[v] 35)::((rc::G0)++T))
 have hlen:=W2 hs hl
 refine Z ?_
 refine Bd E E zU fun b0=>?_
 refine Y (Z (AF 1 FF E (Bp 0 qg mZ E ?_)))
 rintro _ _ ⟨b1,b2,rfl,rfl⟩
 refine Bm (vs:=[_]) (Hin:=[_,_]) (Hr:=_::_::_) E E ⟨E,zT⟩ ot E E (iB (cap:=[vP b1 0,vP b2 0]) qr hlen (fun G0=>kg hl hs G0)) ?_
 rintro va _ ⟨_,rfl,rfl⟩
 refine⟨trivial,?_⟩
 refine O E (Y ?_)
 refine A4 (α:=Value×List Ly) (fun x=>x.2=Oz v l) (fun x=>[(0,vY lp),(2,vP b0 0),(3,x.1)]) (fun x=>AH 35 1 x.1 Jb x.2::AN b0 (.cells #[vY lp] 46)::((rc::G0)++T)) ?_ (fun x D hx=>?_)
 refine Z (J E (D0 0 E Vb E E (V E CH (Y ?_))))
 refine As E (fun hc1=>?_) (fun hc1=>?_)
 have hz:(IP v l).length=0:=by
  have:=of_decide_eq_true hc1
  omega
 refine AK ?_
 refine Bz [_] E Vb K8 ln ⟨E,zT⟩ E E E zX E E zU fun b3=>?_
 refine B4 Jb 1 ([(⟨none,0,0⟩,[])]:List Ly) E zV E ?_
 refine O E (AU ?_)
 exact Av (.slice (some ⟨b3,0,none⟩) 1 1,[(⟨none,0,0⟩,[])]) (show([(⟨none,0,0⟩,[])]:List Ly)=Oz v l by rw[←Yq hs,if_pos hz]) tL (BB [0,2] 4 E E E)
 have hz:¬(IP v l).length=0:=by
  have:=of_decide_eq_false hc1
  omega
 refine AI ?_
 exact Av (va,IP v l) (show IP v l=Oz v l by rw[←Yq hs,if_neg hz]) tL (BB [0,1] 3 E E E)
 obtain⟨va,xs⟩:=x
 have hx:xs=Oz v l:=hx
 have hxn:xs.length≤1048576:=by
  rw[hx,←Yq hs]
  split
  simp
  exact hlen
 rw[←hx]at hy ⊢
 clear hx
 try dsimp only
 refine Z ?_
 refine QN 0 E fun sv hsv=>?_
 refine J E ?_
 refine Bp 0 qY (pM (va:=va) (by rw[hsv];rfl)) E ?_
 rintro _ _ ⟨b4,rfl,rfl⟩
 refine Y (AM ?_)
 refine Nn (enc:=mq) (FA xs) (Hit:=[_,_]) (G0:=AN b0 (.cells #[vY lp] 46)::((rc::G0)++T)) (fun pre Gx=>∃G,J9 (pre.map (·.2)) G∧Gx=AN b0 (.cells #[vY lp] 46)::(G++T)) (fun c Gx=>c=.ret∧∃G,X G∧Gx=AN b0 (.cells #[vY lp] 46)::(G++T)) E pp E zV (rC hxn) E ⟨rc::G0,h0,E⟩ (fun pre x suf Gx hxs hJ r lr Rest=>?_) (fun Gx D hJ=>?_) (fun c Gx D hX=>?_)
 obtain⟨G,hJ,rfl⟩:=hJ
 refine AK (O E (AU ?_))
 refine Lo (G:=AN b0 (.cells #[vY lp] 46)::(G++T)) ?_
 refine AM (Z (AF 0 uc E (J E ?_)))
 refine JJ (M2:=[AN b0 (.cells #[vY lp] 46)]) (G:=G) (T:=T++Tl r lr Rest .busy) (vs:=[_]) (ok:=fun G1=>J9 ((pre++[x]).map (·.2)) G1) (no:=X) E E ⟨E,zT⟩ (by simp[List.append_assoc]) ?_ (fun bb G1 hG1=>⟨zT,?_⟩)
 intro M
 have hsp:xs.reverse=pre.map (·.2)++x.2::suf.map (·.2):=by
  rw[←Xe,hxs,List.map_append,List.map_cons]
 have:=hy (pre.map (·.2)) x.2 (suf.map (·.2)) hsp G hJ M
 rw[List.map_append,List.map_cons,List.map_nil]
 exact this
 refine CN E E (Y ?_)
 refine As E (fun hc2=>?_) (fun hc2=>?_)
 obtain rfl:bb=false:=by simpa using hc2
 refine AL (BX ?_)
 exact na ⟨E,G1,hG1,E⟩ (fun _ hw=>by simpa[List.append_assoc]using hw)
 obtain rfl:bb=true:=by simpa using hc2
 refine AI (An ?_)
 exact Iq ⟨G1,hG1,E⟩ (fun _ hw=>by simpa[List.append_assoc]using hw)
 obtain⟨G,hJ,rfl⟩:=hJ
 rw[Xe]at hJ
 refine An ?_
 exact Cr (DU E) (AY (M:=G) (.inl hJ) fun _ h=>h.skip [_])
 obtain⟨rfl,G,hX,rfl⟩:=hX
 refine AL (BX ?_)
 exact AX (DU E) (AY (M:=G) (.inr hX) fun _ h=>h.skip [_])
theorem lE{v:Value}(hv:v.cells=#[v]):zC K w0 86 [v] [] H (fun u M=>∃bx:Nat,u=.func (.func 126) #[] #[vP bx 0]∧M=[AN bx (.cells #[v] 35)]):=by
 refine UJ.enter Tryz.func86 rfl rfl ?_
 refine Z ?_
 refine Bd E E zU fun b1=>?_
 rw[hv]
 refine O E (Y (Z ?_))
 refine Hb (fv:=#[]) (cv:=#[_]) E E E ?_
 refine O E (Y (AL ?_))
 exact DM [0] 1 (De E E) E E ⟨_,E,E⟩
end

section
variable {K:Nat→Prop}{w0:World}{H:List AV}
theorem En.mid:∀ {Hs A B R:List AV},En Hs A→En Hs (B++(A++R))
 | [],_,_,_,_=>trivial
 | c::r,A,B,R,⟨⟨i,hi⟩,h⟩=>⟨⟨B.length+i,by
   have hlt:=(List.getElem?_eq_some_iff.1 hi).1
   rw[List.getElem?_append_right zO,Nat.add_sub_cancel_left,List.getElem?_append_left hlt,hi]⟩,En.mid h⟩
theorem Y7{k:AV}{A B R M:List AV}{w:World}(h:BZ K w0 ((k::(A++(B++R)))++M) w):BZ K w0 ((k::(B++(A++R)))++M) w:=by
 refine h.perm (List.Perm.append_right _ (List.Perm.cons _ ?_))
 rw[←List.append_assoc,←List.append_assoc]
 exact List.Perm.append_right _ List.perm_append_comm
theorem Qr{α:Type}{enc:α→List Value}{sz:Nat}(hl:∀x,(enc x).length=sz):CJ K w0 enc sz zN []:=⟨hl,.inl ⟨_,rfl,rfl⟩⟩
def Jv(l:List AP):List (List AP):=if l=[]then[[]]else(List.range ((l.length+3) / 4)).map fun i=>(l.drop (4*i)).take (min (4*i+4) l.length-4*i)
theorem dr{v:Value}{l:List AP}(h:CJ K w0 AJ 4 v l):(Oz v l).map (·.2)=Jv l:=by
 by_cases hl:l=[]
 subst hl
 rw[Vo]
 rfl
 rcases h.at_ with⟨_,_,e⟩ | ⟨b,off,cap,rfl,hc,hcell⟩
 exact absurd e hl
 rw[Ol hl,Jv,if_neg hl,LP,KZ,List.map_map]
 rfl
def Hc{σ:Type}(rec_:Bc→H5→σ→Option (Ac×(H5×σ))):List Bc→H5→σ→List Ac→Option (List Ac×(H5×σ))
 | [],p,q,acc=>some (acc,(p,q))
 | k::ks,p,q,acc=>(rec_ k p q).bind fun y=>(Cp 24 acc [y.1]).bind fun acc'=>Hc rec_ ks y.2.1 y.2.2 acc'
def KD{σ:Type}(n:Nat)(wh:VG σ):List (List AP)→Ac→H5→σ→Option (Ac×(H5×σ))
 | [],r,p,q=>some (r,(p,q))
 | l::ls,r,p,q=>(Gi n wh ⟨1,0,0,0,l,[],r.page,r.tag⟩ p q).bind fun y=>cond (!decide (y.2.1.wrong=0)) (some y) (KD n wh ls y.1 y.2.1 y.2.2)
def FH{σ:Type}(n:Nat)(wh:VG σ):Nat→Bc→H5→σ→Option (Ac×(H5×σ))
 | 0,_,_,_=>none
 | f+1,t,p,q=>if 1048576<t.rows.length∨1048576<t.kids.length then none else cond (decide (0<(t.kids.length:Int)))
   ((Hc (FH n wh f) t.kids p q []).bind fun y=>Gi n wh ⟨2,t.cx,t.cy,t.lev,[],y.1,0,[]⟩ y.2.1 y.2.2)
   (KD n wh (Jv t.rows).reverse ⟨0,[]⟩ p q)
theorem N3{σ:Type}{C:Value→σ→List AV}{wh:VG σ}{fid:FuncId}{cs:Array Value}{T:List UInt32}{n bp:Nat}(hcal:AS Tryz.prog fid=true)(hwh:cQ T fid cs C wh):
  ∀(f:Nat) {K:Nat→Prop} {w0:World} {H:List AV} {vo ca:Value} {a:Et} {t:Bc} {p:H5} {q:σ} {r:Ac×(H5×σ)},Hd K w0 T→FH n wh f t p q=some r→NX K w0 a t→
  zC K w0 53 [vP bp 0,.agg (B9 a).toArray] (KW bp (.func (.func fid) #[] cs) vo p::AH 72 3 vo Ar p.out::C ca q) H
   (fun u M=>u=.agg (Af r.1).toArray∧∃vo' ca',M=KW bp (.func (.func fid) #[] cs) vo' r.2.1::AH 72 3 vo' Ar r.2.1.out::C ca' r.2.2)
 | 0,K,w0,H,vo,ca,a,t,p,q,r,hS,h,hN=>by cases h
 | f+1,K,w0,H,vo,ca,a,t,p,q,r,hS,h,hN=>by
  have h:(if 1048576<t.rows.length∨1048576<t.kids.length then none else cond (decide (0<(t.kids.length:Int)))
   ((Hc (FH n wh f) t.kids p q []).bind fun y=>Gi n wh ⟨2,t.cx,t.cy,t.lev,[],y.1,0,[]⟩ y.2.1 y.2.2)
   (KD n wh (Jv t.rows).reverse ⟨0,[]⟩ p q))=some r:=h
  split at h
  cases h
  rename_i hbig
  have hrl:t.rows.length≤1048576:=zO
  have hkl:t.kids.length≤1048576:=zO
  clear hbig
  obtain⟨rv,kv,rfl,hr,hk⟩:=hN.parts
  refine UJ.enter Tryz.func53 rfl rfl ?_
  show SX _ _ _ _ _ _ _ _ _ (KW bp (.func (.func fid) #[] cs) vo p::AH 72 3 vo Ar p.out::(C ca q++H))
  refine Z ?_
  refine Bd E E zU fun b0=>?_
  refine Bd E E zU fun b1=>?_
  refine Ag E Dc zU fun b2=>?_
  refine Y (K6 (AE (Z (AD E JT (AF 1 Tp E (Ss hk E OB E (V E CY (Y ?_))))))))
  refine AT h E (fun hc1 h=>?_) fun hc1 h=>?_
  refine Z (AD rfl OD (Ab [AA t.cx,AA t.cy,vI t.lev] rfl Eg rfl rfl (Cd 1 rfl (by rintro(_ | (_ | (_ | j))) u hj<;>first | exact hj | exact absurd hj zS)) (BK [_,_] rfl Pu Ph Gk ⟨rfl,rfl,trivial⟩ rfl ?_)))
  refine Ag E Gk zU fun b3=>?_
  refine Aj 0 E E E E HD E E E zT (Dv 0 (AN b3 (.cells #[vI 2,AA t.cx,AA t.cy,vI t.lev,zN,zN,AA 0,vS []] 148)) (Bi 31 2 Af (Y (AE (Z (AD E JT (AF 3 Tp E (Ss hk E OB E (J E (Y (AM ?_)))))))))))
  refine SX.heap (SX.mono (A5 (α:=Nat×List Ac×Value×H5×σ×Value×Value) (fun x=>x.1≤t.kids.length∧((Hc (FH n wh f) (t.kids.drop x.1) x.2.2.2.1 x.2.2.2.2.1 x.2.1).bind fun y=>Gi n wh ⟨2,t.cx,t.cy,t.lev,[],y.1,0,[]⟩ y.2.1 y.2.2)=some r)
   (fun x=>[(2,vP b0 0),(4,vP b2 0),(5,vP b3 0),(18,kv.val),(19,vI (t.kids.length:Int)),(20,vI (x.1:Int))])
   (fun x=>AN b3 (.cells #[vI 2,AA t.cx,AA t.cy,vI t.lev,zN,x.2.2.1,AA 0,vS []] 148)::AH 31 2 x.2.2.1 Af x.2.1::AN b2 (.cells #[AA 0,vS []] 31)::AN b0 (.cells #[vP bp 0] 104)::KW bp (.func (.func fid) #[] cs) x.2.2.2.2.2.1 x.2.2.2.1::AH 72 3 x.2.2.2.2.2.1 Ar x.2.2.2.1.out::(C x.2.2.2.2.2.2 x.2.2.2.2.1++H))
   (fun x=>t.kids.length-x.1) (fun x D hp=>?_) (0,[],zN,p,q,vo,ca) ⟨Nat.zero_le _,h⟩) tL) (BB [1,0,2,4,5,6] 7 rfl rfl rfl)
  clear h
  obtain⟨i,ks,vk,p1,q1,vo1,ca1⟩:=x
  obtain⟨hi,h⟩:=hp
  dsimp only at hi h ⊢
  refine Z (V E Aw (Y (AE ?_)))
  refine As E (fun hc2=>?_) (fun hc2=>?_)
  have hlt:i<t.kids.length:=by
   have:=of_decide_eq_true hc2
   omega
  clear hc2
  have hnth:Ao t.kids (i:Int)=some t.kids[i]:=by
   rw[Ao,if_pos zO]
   exact List.getElem?_eq_getElem hlt
  rw[List.drop_eq_getElem_cons hlt,Hc]at h
  refine AC h fun z hz h=>?_
  obtain⟨y,hy,hz⟩:=bnd hz
  obtain⟨ac,hac,hz⟩:=bnd hz
  have h2:((Hc (FH n wh f) (t.kids.drop (i+1)) y.2.1 y.2.2 ac).bind fun y=>Gi n wh ⟨2,t.cx,t.cy,t.lev,[],y.1,0,[]⟩ y.2.1 y.2.2)=some r:=by
   rw[hz];exact h
  refine AI (AG (AE (AM (Z ?_))))
  refine dz hnth hk E OB Ia E E fun b5 of5 rv5 kv5 hr5 hk5 hc5=>?_
  obtain⟨rs5,rfl⟩:=hr5.slv
  obtain⟨kk5,hk51,hk52⟩:=hk5
  obtain⟨ks5,rfl⟩:=hk51.slv
  have hN5:NX K w0 ⟨t.kids[i].cx,t.kids[i].cy,t.kids[i].lev,rs5,ks5⟩ t.kids[i]:=NX.of hr5 ⟨kk5,hk51,hk52⟩
  refine Ab [AA t.kids[i].cx,AA t.kids[i].cy,vI t.kids[i].lev,rs5.val,ks5.val] E MK E E (C2 hc5) ?_
  refine Ag E I4 zU fun b4=>?_
  refine Aj 0 E E E E Ia E E E zT (Dv 0 (AN b4 (.cells #[AA t.kids[i].cx,AA t.kids[i].cy,vI t.kids[i].lev,rs5.val,ks5.val] 57)) (Y (Ak Ca [0,1,4] (Bo [(true,0),(true,1),(true,2),(true,3),(false,4),(false,5),(false,6),(true,7)] (.last 8 .nil)) zK (AD E Dg (AF 1 Hi E (AF 2 cB E (Ab [AA t.kids[i].cx,AA t.kids[i].cy,vI t.kids[i].lev,rs5.val,ks5.val] E MK E E (AZ 0 E) ?_)))))))
  refine SL.heap ?_ (fun _ hw=>EB (A:=[AN b4 (.cells #[AA t.kids[i].cx,AA t.kids[i].cy,vI t.kids[i].lev,rs5.val,ks5.val] 57),AN b3 (.cells #[vI 2,AA t.cx,AA t.cy,vI t.lev,zN,vk,AA 0,vS []] 148),AH 31 2 vk Af ks,AN b2 (.cells #[AA 0,vS []] 31),AN b0 (.cells #[vP bp 0] 104)]) (B:=KW bp (.func (.func fid) #[] cs) vo1 p1::AH 72 3 vo1 Ar p1.out::C ca1 q1) (R:=H) hw)
  have hcon:=N3 (bp:=bp) hcal hwh f (ca:=ca1) (K:=K) (w0:=w0) (H:=([AN b4 (.cells #[AA t.kids[i].cx,AA t.kids[i].cy,vI t.kids[i].lev,rs5.val,ks5.val] 57),AN b3 (.cells #[vI 2,AA t.cx,AA t.cy,vI t.lev,.slice none 0 0,vk,AA 0,vS []] 148),AH 31 2 vk Af ks,AN b2 (.cells #[AA 0,vS []] 31),AN b0 (.cells #[vP bp 0] 104)]++H)++[BP D]) (vo:=vo1) hS hy hN5
  generalize hpo:(fun(u:Value) (M:List AV)=>u=.agg (Af y.1).toArray∧∃vo' ca',M=KW bp (.func (.func fid) #[] cs) vo' y.2.1::AH 72 3 vo' Ar y.2.1.out::C ca' y.2.2)=po at hcon
  refine Bm (vs:=[_,_]) (Hin:=KW bp (.func (.func fid) #[] cs) vo1 p1::AH 72 3 vo1 Ar p1.out::C ca1 q1) (Hr:=[AN b4 (.cells #[AA t.kids[i].cx,AA t.kids[i].cy,vI t.kids[i].lev,rs5.val,ks5.val] 57),AN b3 (.cells #[vI 2,AA t.cx,AA t.cy,vI t.lev,zN,vk,AA 0,vS []] 148),AH 31 2 vk Af ks,AN b2 (.cells #[AA 0,vS []] 31),AN b0 (.cells #[vP bp 0] 104)]++H) E E ⟨E,E,zT⟩ iz E E hcon ?_
  intro u0 M0 hpost
  rw[←hpo]at hpost
  obtain⟨rfl,vo2,ca2,rfl⟩:=hpost
  refine⟨En.mid (A:=[AN b4 (.cells #[AA t.kids[i].cx,AA t.kids[i].cy,vI t.kids[i].lev,rs5.val,ks5.val] 57),AN b3 (.cells #[vI 2,AA t.cx,AA t.cy,vI t.lev,zN,vk,AA 0,vS []] 148),AH 31 2 vk Af ks,AN b2 (.cells #[AA 0,vS []] 31),AN b0 (.cells #[vP bp 0] 104)]) ⟨⟨0,rfl⟩,⟨1,rfl⟩,⟨4,rfl⟩,trivial⟩,?_⟩
  refine SL.heap ?_ (fun _ hw=>EB (A:=KW bp (.func (.func fid) #[] cs) vo2 y.2.1::AH 72 3 vo2 Ar y.2.1.out::C ca2 y.2.2) (B:=[AN b4 (.cells #[AA t.kids[i].cx,AA t.kids[i].cy,vI t.kids[i].lev,rs5.val,ks5.val] 57),AN b3 (.cells #[vI 2,AA t.cx,AA t.cy,vI t.lev,zN,vk,AA 0,vS []] 148),AH 31 2 vk Af ks,AN b2 (.cells #[AA 0,vS []] 31),AN b0 (.cells #[vP bp 0] 104)]) (R:=H) hw)
  refine Bz [_] rfl Ep DH Dc ⟨rfl,trivial⟩ rfl rfl rfl zW rfl rfl (fun _=>⟨⟨1,rfl⟩,⟨2,rfl⟩,⟨5,rfl⟩,trivial⟩) fun b6=>?_
  refine B4 Af 2 ([y.1]:List Ac) E zV E ?_
  refine CW 3 hac (sz:=2) (enc:=Af) zV E Ep DH en Dc E zD E E E E (By (sz:=2) (enc:=Af) 0 zV E) (by simp[Af,Value.oneCell']) (fun _=>⟨⟨1,E⟩,⟨2,E⟩,⟨5,E⟩,zT⟩) fun v6=>?_
  refine AD E Dg (BN ?_)
  refine Br 3 E fun hv6 ho6=>?_
  refine Dy 2 E E E E bj hv6 ho6 E zT (AU (An (AG (AK (V E (BU zO zO) (J E (AU ?_)))))))
  exact Ai (i+1,ac,v6,y.2.1,y.2.2,vo2,ca2) ⟨hlt,h2⟩ (by dsimp only;omega) tL (BB [2,3,4,5] 6 E E E)
  have hge:i=t.kids.length:=by
   have:=of_decide_eq_false hc2
   omega
  subst hge
  rw[List.drop_length,Hc]at h
  replace h:Gi n wh ⟨2,t.cx,t.cy,t.lev,[],ks,0,[]⟩ p1 q1=some r:=h
  refine Ax (A3 (BL (Az (AG (SX.pick [1,0,2,3] 4 (Z (AF 3 cB E (Ab [vI 2,AA t.cx,AA t.cy,vI t.lev,zN,vk,AA 0,vS []] E FE E E (AZ 1 E) ?_))))))))
  refine SL.heap ?_ (fun _ hw=>Y7 (A:=[AN b3 (.cells #[vI 2,AA t.cx,AA t.cy,vI t.lev,zN,vk,AA 0,vS []] 148),AN b2 (.cells #[AA 0,vS []] 31),AN b0 (.cells #[vP bp 0] 104)]) (B:=(KW bp (.func (.func fid) #[] cs) vo1 p1::AH 72 3 vo1 Ar p1.out::C ca1 q1)) (R:=H) hw)
  have hcon:=Cb (K:=K) (w0:=w0) (H:=([AN b3 (.cells #[vI 2,AA t.cx,AA t.cy,vI t.lev,.slice none 0 0,vk,AA 0,vS []] 148),AN b2 (.cells #[AA 0,vS []] 31),AN b0 (.cells #[vP bp 0] 104)]++H)++[BP D]) (f:=85) (B:=[AH 31 2 vk Af ks]) (Hin:=(KW bp (.func (.func fid) #[] cs) vo1 p1::AH 72 3 vo1 Ar p1.out::C ca1 q1)) fun K' w1 hkk hB=>RM (bp:=bp) (a:=ca1) (vo:=vo1) (v4:=.slice none 0 0) (v5:=vk) hcal hwh (hS.keeps hkk) h (Qr zV) (CC (e:=31) (v:=vk) zV (hB _ zS))
  refine Bm (vs:=[_,_]) (Hin:=AH 31 2 vk Af ks::(KW bp (.func (.func fid) #[] cs) vo1 p1::AH 72 3 vo1 Ar p1.out::C ca1 q1)) (Hr:=[AN b3 (.cells #[vI 2,AA t.cx,AA t.cy,vI t.lev,zN,vk,AA 0,vS []] 148),AN b2 (.cells #[AA 0,vS []] 31),AN b0 (.cells #[vP bp 0] 104)]++H) E E ⟨E,E,zT⟩ mE E E hcon ?_
  rintro _ _ ⟨_,rfl,rfl,vo2,ca2,rfl⟩
  refine⟨trivial,?_⟩
  refine SL.heap ?_ (fun _ hw=>EB (A:=AH 31 2 vk Af ks::KW bp (.func (.func fid) #[] cs) vo2 r.2.1::AH 72 3 vo2 Ar r.2.1.out::C ca2 r.2.2) (B:=[AN b3 (.cells #[vI 2,AA t.cx,AA t.cy,vI t.lev,zN,vk,AA 0,vS []] 148),AN b2 (.cells #[AA 0,vS []] 31),AN b0 (.cells #[vP bp 0] 104)]) (R:=H) hw)
  refine Aj 1 E E E E DH E E E zT (Y (AL (Aa (FN ?_))))
  exact AX (FD E (BC 1 (Af r.1) Cf E E E E)) (AY (M:=KW bp (.func (.func fid) #[] cs) vo2 r.2.1::AH 72 3 vo2 Ar r.2.1.out::C ca2 r.2.2) ⟨E,vo2,ca2,E⟩ fun _ hw=>BZ.pick (H:=[_,_,_,_]) hw [] 4 E)
  refine AI (AG (Z ?_))
  refine Ag E Dc zU fun b3=>?_
  refine Y (AE (Kn (AG (AE (Z (AD E S9 (AF 2 FF E (Bp 0 tQ (lE hr.one) E ?_))))))))
  rintro _ _ ⟨bx,rfl,rfl⟩
  refine Y (AM ?_)
  have h0:KD n wh (((Oz rv.val t.rows).reverse).map (·.2)) ⟨0,[]⟩ p q=some r:=by
   rw[List.map_reverse,dr hr];exact h
  refine SX.heap (Nn (enc:=Jb) (Oz rv.val t.rows).reverse (G0:=(AN b3 (.cells #[AA 0,vS []] 31)::AN b2 (.cells #[AA 0,vS []] 31)::AN b0 (.cells #[vP bp 0] 104)::KW bp (.func (.func fid) #[] cs) vo p::AH 72 3 vo Ar p.out::(C ca q++H))) (fun pre G=>∃(x:Ac) (p1:H5) (q1:σ) (vo1 ca1:Value),(∀suf,(Oz rv.val t.rows).reverse=pre++suf→KD n wh (suf.map (·.2)) x p1 q1=some r)∧G=(AN b3 (.cells #[AA x.page,vS x.tag] 31)::AN b2 (.cells #[AA 0,vS []] 31)::AN b0 (.cells #[vP bp 0] 104)::KW bp (.func (.func fid) #[] cs) vo1 p1::AH 72 3 vo1 Ar p1.out::(C ca1 q1++H))) (fun c G=>c=.exit 2∧∃vo1 ca1:Value,G=(AN b3 (.cells #[AA r.1.page,vS r.1.tag] 31)::AN b2 (.cells #[AA 0,vS []] 31)::AN b0 (.cells #[vP bp 0] 104)::KW bp (.func (.func fid) #[] cs) vo1 r.2.1::AH 72 3 vo1 Ar r.2.1.out::(C ca1 r.2.2++H))) E rB E zV (kL hrl hr) E ⟨⟨0,[]⟩,p,q,vo,ca,fun suf e=>by rw[←show(Oz rv.val t.rows).reverse=suf from e];exact h0,E⟩ (fun pre x suf G hxs hJ lr lp Rest=>?_) (fun G D hJ=>?_) (fun c G D hX=>?_)) (BB [0,1,2,4,5,6] 7 E E E)
  obtain⟨w,p1,q1,vo1,ca1,h,rfl⟩:=hJ
  have h1:=h (x::suf) hxs
  rw[List.map_cons,KD]at h1
  obtain⟨y,hy,h1⟩:=bnd h1
  have hx:CJ K w0 AJ 4 x.1.val x.2:=mR hr x (List.mem_reverse.1 (by rw[hxs];simp))
  refine AK (O E (AU ?_))
  refine Lo (G:=AN b3 (.cells #[AA w.page,vS w.tag] 31)::AN b2 (.cells #[AA 0,vS []] 31)::AN b0 (.cells #[vP bp 0] 104)::KW bp (.func (.func fid) #[] cs) vo1 p1::AH 72 3 vo1 Ar p1.out::(C ca1 q1++H)) ?_
  refine AM (Z (AF 2 cB E (J E (Ab (Af w) E Cf E E (AZ 0 E) (BK [_,_,_] E Pu Ph Gk ⟨E,E,E,zT⟩ E ?_)))))
  refine SL.heap ?_ (fun _ hw=>EB (A:=[AN b3 (.cells #[AA w.page,vS w.tag] 31),AN b2 (.cells #[AA 0,vS []] 31),AN b0 (.cells #[vP bp 0] 104)]) (B:=(KW bp (.func (.func fid) #[] cs) vo1 p1::AH 72 3 vo1 Ar p1.out::C ca1 q1)) (R:=(H++Tl lr lp Rest .busy)) (by simp only[List.append_assoc,List.cons_append,List.nil_append]at hw ⊢;exact hw))
  have hcon:=RM (K:=K) (w0:=w0) (H:=([AN b3 (.cells #[AA w.page,vS w.tag] 31),AN b2 (.cells #[AA 0,vS []] 31),AN b0 (.cells #[vP bp 0] 104)]++(H++Tl lr lp Rest .busy))++[BP []]) (bp:=bp) (a:=ca1) (vo:=vo1) (v4:=x.1.val) (v5:=.slice none 0 0) hcal hwh hS hy hx (Qr zV)
  refine Bm (vs:=[_,_]) (Hin:=(KW bp (.func (.func fid) #[] cs) vo1 p1::AH 72 3 vo1 Ar p1.out::C ca1 q1)) (Hr:=[AN b3 (.cells #[AA w.page,vS w.tag] 31),AN b2 (.cells #[AA 0,vS []] 31),AN b0 (.cells #[vP bp 0] 104)]++(H++Tl lr lp Rest .busy)) E E ⟨E,E,zT⟩ mE E E hcon ?_
  rintro _ _ ⟨rfl,vo2,ca2,rfl⟩
  refine⟨trivial,?_⟩
  refine SL.heap ?_ (fun _ hw=>EB (A:=(KW bp (.func (.func fid) #[] cs) vo2 y.2.1::AH 72 3 vo2 Ar y.2.1.out::C ca2 y.2.2)) (B:=[AN b3 (.cells #[AA w.page,vS w.tag] 31),AN b2 (.cells #[AA 0,vS []] 31),AN b0 (.cells #[vP bp 0] 104)]) (R:=(H++Tl lr lp Rest .busy)) hw)
  refine Aj 0 E E E E DH E E E zT (Dv 0 (AN b3 (.cells #[AA y.1.page,vS y.1.tag] 31)) (Y (Z (AF 2 cB E (AW E E (AD E QZ (AF 3 Rq E (V E Bg (Y ?_)))))))))
  have hheap:∀w1:World,BZ K w0 ((AN b3 (.cells #[AA y.1.page,vS y.1.tag] 31)::AN b2 (.cells #[AA 0,vS []] 31)::AN b0 (.cells #[vP bp 0] 104)::((KW bp (.func (.func fid) #[] cs) vo2 y.2.1::AH 72 3 vo2 Ar y.2.1.out::C ca2 y.2.2)++(H++Tl lr lp Rest .busy)))) w1→BZ K w0 ((AN b3 (.cells #[AA y.1.page,vS y.1.tag] 31)::AN b2 (.cells #[AA 0,vS []] 31)::AN b0 (.cells #[vP bp 0] 104)::KW bp (.func (.func fid) #[] cs) vo2 y.2.1::AH 72 3 vo2 Ar y.2.1.out::(C ca2 y.2.2++H))++Tl lr lp Rest .busy) w1:=by
   intro w1 hw
   simp only[List.append_assoc,List.cons_append]at hw ⊢
   exact hw
  refine AT h1 E (fun hc3 h1=>?_) fun hc3 h1=>?_
  obtain rfl:=zI h1
  refine Ax (MS ?_)
  exact Nv ⟨E,vo2,ca2,E⟩ hheap
  refine AI (An ?_)
  exact Iq ⟨y.1,y.2.1,y.2.2,vo2,ca2,fun suf' e=>by rw[cJ hxs e];exact h1,E⟩ hheap
  obtain⟨x,p1,q1,vo1,ca1,h,rfl⟩:=hJ
  replace h:=h [] (List.append_nil _).symm
  obtain rfl:(x,(p1,q1))=r:=zI h
  refine An (AG (Z (Ab (Af x) E Cf E E (AZ 0 E) (Aj 1 E E E E DH E E E zT (Y (AL (FN ?_)))))))
  exact AX (FD E (BC 1 (Af x) Cf E E E E)) (AY (M:=_::_::C ca1 q1) ⟨E,vo1,ca1,E⟩ fun _ hw=>BZ.pick (H:=[_,_,_]) hw [] 3 E)
  obtain⟨rfl,vo1,ca1,rfl⟩:=hX
  refine Ax (Az (AG (Z (Ab (Af r.1) E Cf E E (AZ 0 E) (Aj 1 E E E E DH E E E zT (Y (AL (FN ?_))))))))
  exact AX (FD E (BC 1 (Af r.1) Cf E E E E)) (AY (M:=_::_::C ca1 r.2.2) ⟨E,vo1,ca1,E⟩ fun _ hw=>BZ.pick (H:=[_,_,_]) hw [] 3 E)
end

section
theorem Te(l:List AP):∀k,((List.range k).map fun i=>(l.drop (4*i)).take (min (4*i+4) l.length-4*i)).flatten=l.take (4*k)
 | 0=>by simp
 | k+1=>by
  rw[List.range_succ,List.map_append,List.flatten_append,Te l k]
  simp only[List.map_cons,List.map_nil,List.flatten_cons,List.flatten_nil,List.append_nil]
  rw[show 4*(k+1)=4*k+4 by omega,List.take_add]
  congr 1
  rcases Nat.lt_or_ge (4*k+4) l.length with h | h
  rw[Nat.min_eq_left zO]
  congr 1
  omega
  rw[Nat.min_eq_right h]
  rw[List.take_of_length_le zS,List.take_of_length_le zQ]
theorem d7(l:List AP):(Jv l).flatten=l:=by
 unfold Jv
 split
 rename_i h;subst h;rfl
 rw[Te,List.take_of_length_le zO]
theorem PJ(l:List AP):(Jv l).length=max 1 ((l.length+3) / 4):=by
 unfold Jv
 split
 rename_i h;subst h;rfl
 rename_i h
 have:=List.length_pos_iff.2 h
 simp
 omega
theorem gp{l p:List AP}(h:p∈Jv l):p.length≤4∧p.Sublist l:=by
 unfold Jv at h
 split at h
 rename_i hl
 subst hl
 simp only[List.mem_singleton]at h
 subst h
 exact⟨by simp,List.Sublist.refl _⟩
 obtain⟨i,_,rfl⟩:=List.mem_map.1 h
 exact⟨by simp;omega,(List.take_sublist ..).trans (List.drop_sublist ..)⟩
theorem Wc{l p:List AP}(h:Cx l=true)(hs:p.Sublist l):Cx p=true:=by
 unfold Cx at h ⊢
 simp only[Bool.and_eq_true,decide_eq_true_eq]at h ⊢
 refine⟨⟨List.all_eq_true.2 fun r hr=>List.all_eq_true.1 h.1.1 r (hs.subset hr),(Ng p).2 (((Ng l).1 h.1.2).sublist hs)⟩,?_⟩
 have:=hs.length_le
 omega
abbrev MX(l:List AP)(r:Ac):BR:=⟨1,0,0,0,l,[],r.page,r.tag⟩
abbrev NZ(t:Bc)(rs:List Ac):BR:=⟨2,t.cx,t.cy,t.lev,[],rs,0,[]⟩
def TZ:List (List AP)→Ac→List BG→Ac→Prop
 | [],r0,seg,r=>seg=[]∧r=r0
 | l::ls,r0,seg,r=>∃r1 seg',CL (MX l r0)=true∧seg=⟨Cj (MX l r0),r1.page,r1.tag⟩::seg'∧TZ ls r1 seg' r
def aY(R:Bc→List BG→Ac→Prop):List Bc→List BG→List Ac→Prop
 | [],seg,rs=>seg=[]∧rs=[]
 | k::ks,seg,rs=>∃s1 r1 s2 rs',R k s1 r1∧aY R ks s2 rs'∧seg=s1++s2∧rs=r1::rs'
def RR:Nat→Bc→List BG→Ac→Prop
 | 0,_,_,_=>False
 | f+1,t,seg,r=>(t.rows.length≤1000∧t.kids.length≤1000)∧((t.kids=[]∧TZ (Jv t.rows).reverse ⟨0,[]⟩ seg r)∨(t.kids≠[]∧∃segs rs,aY (RR f) t.kids segs rs∧CL (NZ t rs)=true∧seg=segs++[⟨Cj (NZ t rs),r.page,r.tag⟩]))
def OC:Nat→Bc→Nat
 | 0,_=>0
 | f+1,t=>if t.kids.length=0 then max 1 ((t.rows.length+3) / 4)else(t.kids.map (OC f)).sum+1
def Zl:Nat→Bc→List AP
 | 0,_=>[]
 | f+1,t=>if t.kids.length=0 then t.rows else(t.kids.map (Zl f)).flatten
theorem TZ.len:∀ {ls:List (List AP)} {r0 r:Ac} {seg:List BG} ,TZ ls r0 seg r→seg.length=ls.length
 | [],_,_,_,h=>by rw[h.1];rfl
 | _::_,_,_,_,h=>by
  obtain⟨r1,seg',_,e,h'⟩:=h
  rw[e,List.length_cons,TZ.len h',List.length_cons]
theorem aY.len{R:Bc→List BG→Ac→Prop}{g:Bc→Nat}(hg:∀k s r,R k s r→s.length=g k):∀ {ks:List Bc} {seg:List BG} {rs:List Ac},aY R ks seg rs→seg.length=(ks.map g).sum∧rs.length=ks.length
 | [],_,_,h=>by rw[h.1,h.2];simp
 | k::ks,_,_,h=>by
  obtain⟨s1,r1,s2,rs',h1,h2,e1,e2⟩:=h
  have ih:=aY.len hg h2
  rw[e1,e2,List.length_append,hg _ _ _ h1,ih.1,List.length_cons,ih.2]
  simp
theorem RR.len:∀(f:Nat) {t:Bc} {seg:List BG} {r:Ac} ,RR f t seg r→seg.length=OC f t
 | 0,_,_,_,h=>h.elim
 | f+1,t,seg,r,h=>by
  rcases h.2 with⟨h1,h2⟩ | ⟨h1,segs,rs,h2,_,e⟩
  rw[h2.len,OC,if_pos (by rw[h1];rfl),List.length_reverse,PJ]
  have h0:=List.length_pos_iff.2 h1
  rw[e,OC,if_neg zO,List.length_append,(aY.len (fun k s r hr=>RR.len f hr) h2).1]
  rfl
def N8{σ:Type}(wh:VG σ):σ→List BG→σ→Prop
 | q,[],q'=>q=q'
 | q,s::ss,q'=>∃q1,wh q s.txt=some ((⟨s.page,s.tag⟩,0),q1)∧N8 wh q1 ss q'
theorem N8.split{σ:Type}{wh:VG σ}:∀ {a b:List BG} {q q':σ},N8 wh q (a++b) q'→∃q1,N8 wh q a q1∧N8 wh q1 b q'
 | [],_,q,_,h=>⟨q,rfl,h⟩
 | _::_,_,_,_,⟨q1,h1,h2⟩=>by
  obtain⟨q2,h3,h4⟩:=N8.split h2
  exact⟨q2,⟨q1,h1,h3⟩,h4⟩
theorem N8.join{σ:Type}{wh:VG σ}:∀ {a b:List BG} {q q1 q':σ},N8 wh q a q1→N8 wh q1 b q'→N8 wh q (a++b) q'
 | [],_,_,_,_,h,h'=>by cases h;exact h'
 | _::_,_,_,_,_,⟨q1,h1,h2⟩,h'=>⟨q1,h1,h2.join h'⟩
variable {σ:Type}{wh:VG σ}{n:Nat}
theorem ZB{x:BR}{o:List BG}{q q':σ}{r:Ac}(hn:10≤n)(h:CL x=true)(hw:wh q (Cj x)=some ((r,0),q'))(hb:o.length≤100000):Gi n wh x ⟨o,0⟩ q=some (r,(⟨o++[⟨Cj x,r.page,r.tag⟩],0⟩,q')):=by
 unfold Gi
 rw[show(!decide ((0:Int)=0))=false from rfl,BD,Qm hn h,U,show decide ((0:Int)=0)=true from rfl,Be,hw,U]
 unfold Rm
 rw[show(!decide ((0:Int)=0))=false from rfl,BD,CB zQ zQ,U]
theorem Xz(hn:10≤n):∀ {ls:List (List AP)} {r0:Ac} {seg:List BG} {r:Ac} {o:List BG} {q q':σ},TZ ls r0 seg r→N8 wh q seg q'→o.length+seg.length≤100000→KD n wh ls r0 ⟨o,0⟩ q=some (r,(⟨o++seg,0⟩,q'))
 | [],r0,seg,r,o,q,q',h,hp,hb=>by
  obtain⟨rfl,rfl⟩:=h
  obtain rfl:q=q':=hp
  simp[KD]
 | l::ls,r0,seg,r,o,q,q',h,hp,hb=>by
  obtain⟨r1,seg',hok,rfl,h'⟩:=h
  obtain⟨q1,hw,hp'⟩:=hp
  simp only[List.length_cons]at hb
  unfold KD
  rw[ZB hn hok hw zO,U,show(!decide ((0:Int)=0))=false from rfl,BD,Xz hn h' hp' zQ]
  simp
theorem Xw{rec_:Bc→H5→σ→Option (Ac×(H5×σ))}{R:Bc→List BG→Ac→Prop}(hrec:∀k s r o q q',R k s r→N8 wh q s q'→o.length+s.length≤100000→rec_ k ⟨o,0⟩ q=some (r,(⟨o++s,0⟩,q'))):
  ∀ {ks:List Bc} {seg:List BG} {rs:List Ac} {acc:List Ac} {o:List BG} {q q':σ},aY R ks seg rs→N8 wh q seg q'→o.length+seg.length≤100000→acc.length+ks.length≤2000000→Hc rec_ ks ⟨o,0⟩ q acc=some (acc++rs,(⟨o++seg,0⟩,q'))
 | [],seg,rs,acc,o,q,q',h,hp,hb,ha=>by
  obtain⟨rfl,rfl⟩:=h
  obtain rfl:q=q':=hp
  simp[Hc]
 | k::ks,seg,rs,acc,o,q,q',h,hp,hb,ha=>by
  obtain⟨s1,r1,s2,rs',h1,h2,rfl,rfl⟩:=h
  obtain⟨q1,p1,p2⟩:=hp.split
  simp only[List.length_append,List.length_cons]at hb ha
  unfold Hc
  rw[hrec k s1 r1 o q q1 h1 p1 zO,U,CB zQ zQ,U,Xw hrec h2 p2 zQ zQ]
  simp
theorem ZN(hn:10≤n):∀(f:Nat) {t:Bc} {seg:List BG} {r:Ac} {o:List BG} {q q':σ},RR f t seg r→N8 wh q seg q'→o.length+seg.length≤100000→FH n wh f t ⟨o,0⟩ q=some (r,(⟨o++seg,0⟩,q'))
 | 0,_,_,_,_,_,_,h,_,_=>h.elim
 | f+1,t,seg,r,o,q,q',h,hp,hb=>by
  obtain⟨⟨b1,b2⟩,h⟩:=h
  unfold FH
  rw[if_neg zO]
  rcases h with⟨h1,h2⟩ | ⟨h1,segs,rs,h2,h3,rfl⟩
  rw[zf (by rw[h1];simp),BD]
  exact Xz hn h2 hp hb
  have h0:=List.length_pos_iff.2 h1
  obtain⟨q1,p1,q2,p2,p3⟩:=hp.split
  obtain rfl:q2=q':=p3
  simp only[List.length_append,List.length_singleton]at hb
  rw[zt zO,Be,Xw (fun k s r o q q' hr hp hb=>ZN hn f hr hp hb) h2 p1 zO zQ,U]
  have:=ZB (x:=NZ t rs) (o:=o++segs) hn h3 p2 zQ
  simpa using this
structure jj{σ:Type}(wh:VG σ)(Inv:σ→Prop)(Good:σ→BG→Prop)(room:σ→Nat):Prop where
 step:∀q s,Inv q→s.length≤198→∃r e q',wh q s=some ((r,e),q')∧Inv q'∧(∀x,Good q x→Good q' x)∧((e=0∧DY r=true∧Good q' ⟨s,r.page,r.tag⟩∧room q≤room q'+1)∨(e=110∧room q=0))
def kq(wh:VG σ)(Inv:σ→Prop)(Good:σ→BG→Prop)(room:σ→Nat)(k:Nat)(Run:List BG→Prop)(p:H5)(q:σ)(p':H5)(q':σ):Prop:=
 Inv q'∧(∀x,Good q x→Good q' x)∧((p'.wrong=0∧∃seg,p'.out=p.out++seg∧seg.length=k∧Run seg∧N8 wh q seg q'∧(∀x∈seg,Good q' x)∧room q≤room q'+k)∨(p'.wrong=110∧room q<k))
variable {Inv:σ→Prop}{Good:σ→BG→Prop}{room:σ→Nat}
theorem Sb{x:BR}{p:H5}{q:σ}(h:p.wrong≠0):Gi n wh x p q=some (⟨0,[]⟩,(p,q)):=by
 unfold Gi
 rw[zf h]
 rfl
theorem XR{α:Type}(f:α→List UInt8)(m:Nat):∀(l:List α),(∀a∈l,(f a).length≤m)→(l.map f).flatten.length≤m*l.length
 | [],_=>by simp
 | a::l,h=>by
  have h1:=h a zS
  have h2:=XR f m l (fun b hb=>h b (by simp[hb]))
  simp only[List.map_cons,List.flatten_cons,List.length_append,List.length_cons,Nat.mul_add,Nat.mul_one]
  omega
theorem k9{x:BR}(h:CL x=true):(Cj x).length≤198:=by
 unfold Cj
 by_cases hk:x.kind=1
 obtain⟨h1,h2,h3,h4,h5,h6,h7⟩:=EL h hk
 have h32:x.ntag.length≤32:=by
  rcases h7 with h7 | h7
  rw[h7.2];simp
  have:=(Du h7).1
  simp only at this
  omega
 have:=XR CD 33 x.rows (fun r hr=>by rw[OH];have:=Kb h6 r hr;omega)
 have h36:=Gl (r:=⟨x.npage,x.ntag⟩) h32
 rw[show decide (x.kind=2)=false by rw[hk];rfl,BD]
 simp only[List.length_append,Ah,h36]
 omega
 obtain⟨hk2,h1,h2,h3,h4,h5,h6,h7,h8⟩:=Dr h hk
 have:=XR CS 36 x.kids (fun r hr=>by rw[Gl (by have:=(Du (h1 r hr)).1;omega)];exact Nat.le_refl _)
 rw[show decide (x.kind=2)=true by rw[hk2];rfl,Be]
 simp only[List.length_append,Ah]
 omega
theorem ax(W:jj wh Inv Good room)(hn:10≤n){x:BR}{p:H5}{q:σ}(h:CL x=true)(hi:Inv q)(hw:p.wrong=0)(hb:p.out.length≤100000):
  ∃r p' q',Gi n wh x p q=some (r,(p',q'))∧(p'.wrong=0→DY r=true)∧kq wh Inv Good room 1 (fun seg=>seg=[⟨Cj x,r.page,r.tag⟩]) p q p' q':=by
 obtain⟨r,e,q',h1,h2,h3,h4⟩:=W.step q (Cj x) hi (k9 h)
 unfold Gi
 rw[hw,show(!decide ((0:Int)=0))=false from rfl,BD,Qm hn h,U,show decide ((0:Int)=0)=true from rfl,Be,h1,U]
 unfold Rm
 rcases h4 with⟨rfl,h5,h6,h7⟩ | ⟨rfl,h5⟩
 rw[show(!decide ((0:Int)=0))=false from rfl,BD,CB zQ zQ,U]
 exact⟨r,_,q',rfl,fun _=>h5,h2,h3,.inl ⟨hw,_,rfl,rfl,rfl,⟨q',h1,rfl⟩,fun y hy=>by rw[List.mem_singleton.1 hy];exact h6,h7⟩⟩
 rw[show(!decide ((110:Int)=0))=true from rfl,Be]
 exact⟨⟨0,[]⟩,_,q',rfl,fun h0=>absurd h0 (show ¬((110:Int)=0) by decide),h2,h3,.inr ⟨rfl,by omega⟩⟩
theorem Z4(W:jj wh Inv Good room)(hn:10≤n):∀(ls:List (List AP)) (r0:Ac) (p:H5) (q:σ),(∀l∈ls,l.length≤4∧Cx l=true)→(r0=⟨0,[]⟩∨DY r0=true)→Inv q→p.wrong=0→p.out.length+ls.length≤100000→
  ∃r p' q',KD n wh ls r0 p q=some (r,(p',q'))∧(p'.wrong=0→DY r=true∨(ls=[]∧r=r0))∧kq wh Inv Good room ls.length (fun seg=>TZ ls r0 seg r) p q p' q'
 | [],r0,p,q,hl,h0,hi,hw,hb=>⟨r0,p,q,rfl,fun _=>.inr ⟨rfl,rfl⟩,hi,fun _ h=>h,.inl ⟨hw,[],by simp,rfl,⟨rfl,rfl⟩,rfl,by simp,by simp⟩⟩
 | l::ls,r0,p,q,hl,h0,hi,hw,hb=>by
  obtain⟨l4,lr⟩:=hl l zS
  simp only[List.length_cons]at hb
  have hok:CL (MX l r0)=true:=by
   unfold CL MX
   rw[show decide ((1:Int)=1)=true from rfl,Be,lr]
   have:(Jt ⟨r0.page,r0.tag⟩||DY ⟨r0.page,r0.tag⟩)=true:=by
    rcases h0 with rfl | h0
    rfl
    rw[show DY ⟨r0.page,r0.tag⟩=true from h0];simp
   rw[this]
   simp
   omega
  obtain⟨r1,p1,q1,e1,k1,i1,g1,s1⟩:=ax W hn hok hi hw zO
  unfold KD
  rw[show Gi n wh ⟨1,0,0,0,l,[],r0.page,r0.tag⟩ p q=some (r1,(p1,q1))from e1,U]
  rcases s1 with⟨w1,seg1,o1,le1,rfl,pa1,go1,ro1⟩ | ⟨w1,ro1⟩
  rw[w1,show(!decide ((0:Int)=0))=false from rfl,BD]
  obtain⟨r,p',q',e2,k2,i2,g2,s2⟩:=Z4 W hn ls r1 p1 q1 (fun q hq=>hl q (by simp[hq])) (.inr (k1 w1)) i1 w1 (by rw[o1];simp;omega)
  refine⟨r,p',q',e2,fun h=>?_,i2,fun x hx=>g2 x (g1 x hx),?_⟩
  rcases k2 h with h | ⟨_,h⟩
  exact .inl h
  rw[h]
  exact .inl (k1 w1)
  rcases s2 with⟨w2,seg2,o2,le2,ru2,pa2,go2,ro2⟩ | ⟨w2,ro2⟩
  refine .inl ⟨w2,_::seg2,by rw[o2,o1];simp,by simp[le2],⟨r1,seg2,hok,rfl,ru2⟩,pa1.join pa2,fun x hx=>?_,?_⟩
  rcases List.mem_cons.1 hx with rfl | hx
  exact g2 _ (go1 _ zS)
  exact go2 x hx
  simp only[List.length_cons]
  omega
  exact .inr ⟨w2,by simp only[List.length_cons];omega⟩
  rw[w1,show(!decide ((110:Int)=0))=true from rfl,Be]
  exact⟨r1,p1,q1,rfl,fun h=>absurd (w1.symm.trans h) zD,i1,g1,.inr ⟨w1,by simp only[List.length_cons];omega⟩⟩
theorem Tr.rows:∀ {f:Nat} {l:List AP} {t:Bc} ,Tr f l t→t.rows.length≤l.length∧t.kids.length≤4
 | 0,_,_,h=>h.elim
 | f+1,l,t,h=>by
  rcases h with⟨rfl,rfl⟩ | ⟨_,c,L,A,⟨_,rfl⟩ | ⟨_,_,ks,rfl,hk⟩⟩
  simp[Bc.rows,Bc.kids]
  simp[Bc.rows,Bc.kids]
  have:=hk.length
  have:=Y3 L l
  simp only[Bc.rows,Bc.kids,List.length_nil]
  omega
theorem Rf{rec_:Bc→H5→σ→Option (Ac×(H5×σ))}{p:H5}{q:σ}:∀(ks:List Bc) (acc:List Ac),(∀k∈ks,∃r,rec_ k p q=some (r,(p,q)))→acc.length+ks.length≤1000→∃rs,Hc rec_ ks p q acc=some (acc++rs,(p,q))
 | [],acc,_,_=>⟨[],by simp[Hc]⟩
 | k::ks,acc,h,hb=>by
  simp only[List.length_cons]at hb
  obtain⟨r,hr⟩:=h k zS
  obtain⟨rs,h'⟩:=Rf ks (acc++[r]) (fun j hj=>h j (by simp[hj])) zQ
  refine⟨r::rs,?_⟩
  unfold Hc
  rw[hr,U,CB zQ zQ,U,h']
  simp
theorem R5.right{α β:Type}{R:α→β→Prop}{xs:List α}{ys:List β}(h:R5 R xs ys):∀y∈ys,∃x∈xs,R x y:=by
 induction h with
 | nil=>simp
 | cons h1 _ ih=>
  intro y hy
  rcases List.mem_cons.1 hy with rfl | hy
  exact⟨_,by simp,h1⟩
  obtain⟨x,hx,hR⟩:=ih y hy
  exact⟨x,by simp[hx],hR⟩
theorem Wo{p:H5}{q:σ}(hw:p.wrong≠0):∀(f:Nat) {l:List AP} {t:Bc},Tr f l t→l.length≤1000→∃r,FH n wh f t p q=some (r,(p,q))
 | 0,_,_,h,_=>h.elim
 | f+1,l,t,h,hl=>by
  have hb:=Tr.rows h
  unfold FH
  rw[if_neg zO]
  by_cases h0:0<(t.kids.length:Int)
  rw[zt h0,Be]
  have hk:∀k∈t.kids,∃r,FH n wh f k p q=some (r,(p,q)):=by
   rcases h with⟨rfl,rfl⟩ | ⟨_,c,L,A,⟨_,rfl⟩ | ⟨_,_,ks,rfl,hk⟩⟩
   simp[Bc.kids]
   simp[Bc.kids]
   intro k hkm
   obtain⟨l',hl',hT⟩:=hk.right k hkm
   exact Wo hw f hT (by have:=(NF hl').length_le;omega)
  obtain⟨acc',h'⟩:=Rf (rec_:=FH n wh f) t.kids [] hk zQ
  rw[h',U,Sb hw]
  exact⟨_,rfl⟩
  rw[zf h0,BD]
  rcases hls:(Jv t.rows).reverse with _ | ⟨x,ls⟩
  exact⟨_,rfl⟩
  unfold KD
  rw[Sb hw,U,zf hw]
  exact⟨_,rfl⟩
theorem ar{rec_:Bc→H5→σ→Option (Ac×(H5×σ))}{R:Bc→List BG→Ac→Prop}{g:Bc→Nat}:∀(ks:List Bc) (acc:List Ac) (p:H5) (q:σ),
  (∀k∈ks,∀p q,Inv q→p.wrong=0→p.out.length+g k≤100000→∃r p' q',rec_ k p q=some (r,(p',q'))∧(p'.wrong=0→DY r=true)∧kq wh Inv Good room (g k) (fun seg=>R k seg r) p q p' q')→
  (∀k∈ks,∀p q,p.wrong≠0→∃r,rec_ k p q=some (r,(p,q)))→Inv q→p.wrong=0→p.out.length+(ks.map g).sum≤100000→acc.length+ks.length≤1000→
  ∃rs p' q',Hc rec_ ks p q acc=some (acc++rs,(p',q'))∧(p'.wrong=0→∀r∈rs,DY r=true)∧kq wh Inv Good room (ks.map g).sum (fun seg=>aY R ks seg rs) p q p' q'
 | [],acc,p,q,_,_,hi,hw,_,_=>⟨[],p,q,by simp[Hc],by simp,hi,fun _ h=>h,.inl ⟨hw,[],by simp,rfl,⟨rfl,rfl⟩,rfl,by simp,by simp⟩⟩
 | k::ks,acc,p,q,hk,hkw,hi,hw,hb,ha=>by
  simp only[List.map_cons,List.sum_cons,List.length_cons]at hb ha
  obtain⟨r1,p1,q1,e1,k1,i1,g1,s1⟩:=hk k zS p q hi hw zO
  unfold Hc
  rw[e1,U,CB zQ zQ,U]
  rcases s1 with⟨w1,seg1,o1,le1,ru1,pa1,go1,ro1⟩ | ⟨w1,ro1⟩
  obtain⟨rs,p',q',e2,k2,i2,g2,s2⟩:=ar ks (acc++[r1]) p1 q1 (fun j hj=>hk j (by simp[hj])) (fun j hj=>hkw j (by simp[hj])) i1 w1 (by rw[o1];simp;omega) zQ
  refine⟨r1::rs,p',q',by simpa using e2,fun h r hr=>?_,i2,fun x hx=>g2 x (g1 x hx),?_⟩
  rcases List.mem_cons.1 hr with rfl | hr
  exact k1 w1
  exact k2 h r hr
  rcases s2 with⟨w2,seg2,o2,le2,ru2,pa2,go2,ro2⟩ | ⟨w2,ro2⟩
  refine .inl ⟨w2,seg1++seg2,by rw[o2,o1];simp,by simp[le1,le2],⟨seg1,r1,seg2,rs,ru1,ru2,rfl,rfl⟩,pa1.join pa2,fun x hx=>?_,?_⟩
  rcases List.mem_append.1 hx with hx | hx
  exact g2 _ (go1 _ hx)
  exact go2 x hx
  simp only[List.map_cons,List.sum_cons]
  omega
  exact .inr ⟨w2,by simp only[List.map_cons,List.sum_cons];omega⟩
  obtain⟨acc',h'⟩:=Rf (rec_:=rec_) (p:=p1) (q:=q1) ks (acc++[r1]) (fun j hj=>hkw j (by simp[hj]) p1 q1 (by rw[w1];decide)) zQ
  exact⟨r1::acc',p1,q1,by simpa using h',fun h=>absurd (w1.symm.trans h) zD,i1,g1,.inr ⟨w1,by simp only[List.map_cons,List.sum_cons];omega⟩⟩
theorem aS(W:jj wh Inv Good room)(hn:10≤n):∀(f:Nat) (l:List AP) (t:Bc) (p:H5) (q:σ),Tr f l t→Cx l=true→Inv q→p.wrong=0→p.out.length+OC f t≤100000→
  ∃r p' q',FH n wh f t p q=some (r,(p',q'))∧(p'.wrong=0→DY r=true)∧kq wh Inv Good room (OC f t) (fun seg=>RR f t seg r) p q p' q'
 | 0,_,_,_,_,h,_,_,_,_=>h.elim
 | f+1,l,t,p,q,h,hr,hi,hw,hb=>by
  have hl:l.length≤1000:=by
   unfold Cx at hr
   simp only[Bool.and_eq_true,decide_eq_true_eq]at hr
   omega
  have hbd:=Tr.rows h
  have leaf:t.kids=[]→Cx t.rows=true→∃r p' q',FH n wh (f+1) t p q=some (r,(p',q'))∧(p'.wrong=0→DY r=true)∧kq wh Inv Good room (OC (f+1) t) (fun seg=>RR (f+1) t seg r) p q p' q':=by
   intro hk hrr
   have hpg:OC (f+1) t=(Jv t.rows).reverse.length:=by rw[OC,if_pos (by rw[hk];rfl),List.length_reverse,PJ]
   obtain⟨r,p',q',e,k,i,g,s⟩:=Z4 W hn (Jv t.rows).reverse ⟨0,[]⟩ p q (fun x hx=>by
    have:=gp (List.mem_reverse.1 hx)
    exact⟨this.1,Wc hrr this.2⟩) (.inl rfl) hi hw zO
   refine⟨r,p',q',?_,fun h0=>?_,i,g,?_⟩
   unfold FH
   rw[if_neg zO,zf (by rw[hk];simp),BD]
   exact e
   rcases k h0 with h1 | ⟨h1,_⟩
   exact h1
   have:=congrArg List.length h1
   rw[List.length_reverse,PJ,List.length_nil]at this
   omega
   rw[hpg]
   rcases s with⟨w,seg,o,le,ru,pa,go,ro⟩ | s
   exact .inl ⟨w,seg,o,le,⟨⟨by omega,by omega⟩,.inl ⟨hk,ru⟩⟩,pa,go,ro⟩
   exact .inr s
  rcases h with⟨rfl,rfl⟩ | ⟨_,c,L,A,⟨_,rfl⟩ | ⟨h4,hL,ks,rfl,hk⟩⟩
  exact leaf rfl hr
  exact leaf rfl hr
  have hkl:=hk.length
  have hq4:=Y3 L l
  have hq2:=(PI A hL).1
  have hpg:OC (f+1) (.mk c.x c.y c.lev [] ks)=(ks.map (OC f)).sum+1:=by
   rw[OC,if_neg (by simp only[Bc.kids];omega)]
   rfl
  rw[hpg]at hb ⊢
  obtain⟨rs,p1,q1,e1,k1,i1,g1,s1⟩:=ar (wh:=wh) (Inv:=Inv) (Good:=Good) (room:=room) (rec_:=FH n wh f) (R:=RR f) (g:=OC f) ks [] p q (fun k hkm p q hi hw hb=>by
   obtain⟨l',hl',hT⟩:=hk.right k hkm
   exact aS W hn f l' k p q hT (Wc hr (NF hl')) hi hw hb) (fun k hkm p q hw=>by
   obtain⟨l',hl',hT⟩:=hk.right k hkm
   exact Wo hw f hT (by have:=(NF hl').length_le;omega)) hi hw zO zQ
  have hrun:FH n wh (f+1) (.mk c.x c.y c.lev [] ks) p q=Gi n wh (NZ (.mk c.x c.y c.lev [] ks) rs) p1 q1:=by
   unfold FH
   rw[if_neg zO,zt (by simp only[Bc.kids];omega),Be,show(Bc.mk c.x c.y c.lev [] ks).kids=ks from rfl,e1,U]
   rfl
  rw[hrun]
  rcases s1 with⟨w1,seg1,o1,le1,ru1,pa1,go1,ro1⟩ | ⟨w1,ro1⟩
  have hrl:=(aY.len (fun k s r hr=>RR.len f hr) ru1).2
  have hok:CL (NZ (.mk c.x c.y c.lev [] ks) rs)=true:=by
   unfold CL NZ
   rw[show decide ((2:Int)=1)=false from rfl,BD,show decide ((2:Int)=2)=true from rfl,Be]
   have h5:rs.all DY=true:=List.all_eq_true.2 (k1 w1)
   have h6:H7 ⟨c.x,c.y,c.lev⟩=true:=A.ok
   have h7:=A.lev
   show(((rs.all DY&&decide ((([]:List AP).length:Int)=0))&&Jt ⟨0,[]⟩&&decide (2≤(rs.length:Int)))&&decide ((rs.length:Int)≤4)&&H7 ⟨c.x,c.y,c.lev⟩&&decide (0<c.lev))=true
   rw[h5,h6,zt (show 2≤(rs.length:Int) by omega),zt (show(rs.length:Int)≤4 by omega),zt (show 0<c.lev by omega)]
   rfl
  obtain⟨r,p',q',e2,k2,i2,g2,s2⟩:=ax W hn hok i1 w1 (by rw[o1];simp;omega)
  refine⟨r,p',q',e2,k2,i2,fun x hx=>g2 x (g1 x hx),?_⟩
  rcases s2 with⟨w2,seg2,o2,le2,rfl,pa2,go2,ro2⟩ | ⟨w2,ro2⟩
  refine .inl ⟨w2,seg1++[_],by rw[o2,o1];simp,by simp[le1],⟨⟨by simp[Bc.rows],by simp only[Bc.kids];omega⟩,.inr ⟨by
   intro e
   have:ks=[]:=e
   rw[this,List.length_nil]at hkl
   omega,seg1,rs,ru1,hok,rfl⟩⟩,pa1.join pa2,fun x hx=>?_,by omega⟩
  rcases List.mem_append.1 hx with hx | hx
  exact g2 _ (go1 _ hx)
  exact go2 x hx
  exact .inr ⟨w2,by omega⟩
  rw[Sb (by rw[w1];decide)]
  exact⟨_,p1,q1,rfl,fun h=>absurd (w1.symm.trans h) zD,i1,g1,.inr ⟨w1,by omega⟩⟩
end

section
variable {K:Nat→Prop}{w0:World}{H:List AV}
def lZ(a:Int×BG):List Value:=[vI a.1,.agg (Ar a.2).toArray]
theorem mf{bx:Nat}{va:Value}{xs:List BG}{G0:List AV}(hn:xs.length≤1048576)(hs:CJ K w0 Ar 3 va xs):
  Pf Tryz.prog K w0 90 [vP bx 0] [AN bx (.cells #[va] 36)] G0 lZ (FA xs):=by
 intro lp J9 X T rc hy h0
 refine UJ.enter Tryz.func90 rfl rfl ?_
 show SX _ _ _ _ _ _ _ _ _ (AN bx (.cells #[va] 36)::((rc::G0)++T))
 refine Z (AF 0 LH E (B1 hs E He E (V E (Dh zO zO) (O E (Y (AM ?_))))))
 refine SX.mono (A5 (α:=Nat×List AV) (fun x=>x.1≤xs.length∧J9 ((FA xs).take x.1) x.2) (fun x=>[(0,vY lp),(1,vP bx 0),(3,vI ((xs.length:Int)-1-(x.1:Int)))])
  (fun x=>AN bx (.cells #[va] 36)::(x.2++T)) (fun x=>xs.length-x.1) (fun x D hp=>?_) (0,rc::G0) ⟨Nat.zero_le _,h0⟩) (by simpa using tL)
 obtain⟨k,G⟩:=x
 obtain⟨hk,hJ⟩:=hp
 dsimp only at hk hJ ⊢
 refine AE (Z (J E (V E Iy (Y ?_))))
 refine As E (fun hc1=>?_) (fun hc1=>?_)
 have hlt:k<xs.length:=by
  have:=of_decide_eq_true hc1
  omega
 clear hc1
 have hb:k<(FA xs).length:=by rw[Ji];exact hlt
 have hget:=Yl xs k hlt
 have hx:Ao xs ((xs.length:Int)-1-(k:Int))=some (xs[xs.length-1-k]' zO):=by
  rw[Ao,if_pos zO,show((xs.length:Int)-1-(k:Int)).toNat=xs.length-1-k by omega]
  exact List.getElem?_eq_getElem _
 refine AI (AG (AE (AM (Z (J E (J E (AF 0 LH E (J E ?_))))))))
 refine Cm hx hs E He Mz E E fun be1 of1 hc1=>?_
 refine Ab (Ar _) E i6 E E (C2 hc1) ?_
 refine JJ (M2:=[_]) (G:=G) (T:=T) (vs:=[_,_]) (ok:=fun G1=>J9 ((FA xs).take (k+1)) G1) (no:=X) E E ⟨E,E,zT⟩ E ?_ (fun bb G1 hG1=>⟨zT,?_⟩)
 intro M
 have:=hy ((FA xs).take k) ((FA xs)[k]) ((FA xs).drop (k+1)) (bA _ k hb) G hJ M
 rw[Yz _ k hb,hget]at this
 rw[show((xs.length:Int)-1-(k:Int))=((xs.length-1-k:Nat):Int) by omega]
 exact this
 refine CN E E (Y ?_)
 refine As E (fun hc3=>?_) (fun hc3=>?_)
 obtain rfl:bb=false:=by simpa using hc3
 refine AL (BX (Aa (Dj (BX ?_))))
 exact AX (DU E) (AY (M:=G1) (.inr hG1) fun _ h=>h.skip [_])
 obtain rfl:bb=true:=by simpa using hc3
 refine AI (An (AG (AK (J E (V E (Dh zO zO) ?_)))))
 refine Am (u:=vI ((xs.length:Int)-1-((k+1:Nat):Int))) E E (congrArg vI zO) ?_
 refine AU ?_
 exact Ai (k+1,G1) ⟨hlt,hG1⟩ (by dsimp only;omega) tL (BB [0] 1 E E E)
 have hge:k=xs.length:=by
  have:=of_decide_eq_false hc1
  omega
 subst hge
 rw[List.take_of_length_le (by rw[Ji];exact Nat.le_refl _)]at hJ
 refine Ax (A3 (BL (Az ?_)))
 exact Cr (DU E) (AY (M:=G) (.inl hJ) fun _ h=>h.skip [_])
theorem lS{va:Value}(hva:va.cells=#[va]):zC K w0 57 [va] [] H (fun u M=>∃bx:Nat,u=.func (.func 90) #[] #[vP bx 0]∧M=[AN bx (.cells #[va] 36)]):=by
 refine UJ.enter Tryz.func57 rfl rfl ?_
 refine Z ?_
 refine Bd E E zU fun b1=>?_
 rw[hva]
 refine O E (Y (Z ?_))
 refine Hb (fv:=#[]) (cv:=#[_]) E E E ?_
 refine O E (Y (AL ?_))
 exact DM [0] 1 (De E E) E E ⟨_,E,E⟩
end

section
variable {K:Nat→Prop}{w0:World}{H:List AV}
def QO(a1:Int)(nx_f_ins_l1:List AP×Int→Option (List AP))(l2:List AP):Option (List AP):=
 ret (wI (a1+1)) fun i_2=>
 nx_f_ins_l1 (l2,i_2)
def Hz(p1:Int)(a1:Int)(nx_f_ins_l1:List AP×Int→Option (List AP))(nx_f_ins_l2:List AP×Int→Option (List AP))(l3:List AP)(a2:Int):Option (List AP):=
 (FZ (decide (p1<a2)) ((Ao l3 a2).bind fun x1=>(Ao l3 (wI (a2-1))).bind fun x2=>(Ek x1 x2).bind fun y1=>some (decide (y1<0)))).bind fun y2=>
 cond y2
 (
  (Ao l3 (wI (a2-1))).bind fun x3=>
  (Ao l3 a2).bind fun x4=>
  (Ao l3 a2).bind fun x5=>
  (F6 l3 a2 x3).bind fun l4=>
  (Ao l4 (wI (a2-1))).bind fun x6=>
  (F6 l4 (wI (a2-1)) x4).bind fun l5=>
  ret (wI (a2-1)) fun j_1=>
  nx_f_ins_l2 (l5,j_1))
 (
  QO a1 nx_f_ins_l1 l3)
def NH(p1:Int)(a1:Int)(nx_f_ins_l1:List AP×Int→Option (List AP)):Nat→(List AP×Int)→Option (List AP):=Bu fun nx x=>Hz p1 a1 nx_f_ins_l1 nx x.1 x.2
def IH(n:Nat)(p1:Int)(p2:Int)(nx_f_ins_l1:List AP×Int→Option (List AP))(l1:List AP)(a1:Int):Option (List AP):=
 cond (decide (a1<p2))
 (
  NH p1 a1 nx_f_ins_l1 n (l1,a1))
 (
  some l1)
def Hn(n:Nat)(p1:Int)(p2:Int):Nat→(List AP×Int)→Option (List AP):=Bu fun nx x=>IH n p1 p2 nx x.1 x.2
def Vu(n:Nat)(p0:List AP)(p1:Int)(p2:Int):Option (List AP):=
 ret (wI (p1+1)) fun i_1=>
 Hn n p1 p2 n (p0,i_1)
theorem lz{n:Nat}{B3:Value}{p0 r:List AP}{p1 p2:Int}(h:Vu n p0 p1 p2=some r): zC K w0 123 [B3,vI p1,vI p2,.func (.func 50) #[] #[]] [AH 79 4 B3 AJ p0] H (fun u M=>u=.tuple #[]∧M=[AH 79 4 B3 AJ r]):=by
 unfold Vu at h
 refine UJ.enter Tryz.func123 rfl rfl ?_
 refine Z ?_
 obtain⟨i_1,ei_1,h⟩:=Bn h
 refine J E (V E Ay ?_)
 refine Am (u:=vI i_1) E E (congrArg vI ei_1) ?_
 refine Y (AM ?_)
 refine SX.heap (SX.mono (A5 (α:=Nat×List AP×Int) (fun x=>Hn n p1 p2 x.1 (x.2.1,x.2.2)=some r) (fun x=>[(0,B3),(1,vI p1),(2,vI p2),(3,.func (.func 50) #[] #[]),(8,vI x.2.2)]) (fun x=>AH 79 4 B3 AJ x.2.1::H) (fun x=>x.1) (fun x D h=>?_) (n,p0,i_1) h) tL) (BB [0] 1 E E E)
 obtain⟨m1,l1,a1⟩:=x
 dsimp only at h
 rcases m1 with _ | m1
 cases (show(none:Option _)=some r from h)
 replace h:IH n p1 p2 (Hn n p1 p2 m1) l1 a1=some r:=h
 unfold IH at h
 try dsimp only
 refine AE (Z (J E (J E (V E Aw (Y ?_)))))
 refine AT h E (fun hc1 h=>?_) fun hc1 h=>?_
 refine AI (AG ?_)
 refine A4 (α:=List AP) (fun x=>QO a1 (Hn n p1 p2 m1) x=some r) (fun x=>[(0,B3),(1,vI p1),(2,vI p2),(3,.func (.func 50) #[] #[]),(8,vI a1)]) (fun x=>AH 79 4 B3 AJ x::H) ?_ (fun l2 D h=>?_)
 refine AM (Z (J E (O E (Y (AM ?_)))))
 refine SX.heap (SX.mono (A5 (α:=Nat×List AP×Int) (fun x=>NH p1 a1 (Hn n p1 p2 m1) x.1 (x.2.1,x.2.2)=some r) (fun x=>[(0,B3),(1,vI p1),(2,vI p2),(3,.func (.func 50) #[] #[]),(8,vI a1),(9,vI x.2.2)]) (fun x=>AH 79 4 B3 AJ x.2.1::H) (fun x=>x.1) (fun x D h=>?_) (n,l1,a1) h) tL) (BB [0] 1 E E E)
 obtain⟨m2,l3,a2⟩:=x
 dsimp only at h
 rcases m2 with _ | m2
 cases (show(none:Option _)=some r from h)
 replace h:Hz p1 a1 (Hn n p1 p2 m1) (NH p1 a1 (Hn n p1 p2 m1) m2) l3 a2=some r:=h
 unfold Hz at h
 try dsimp only
 refine AE (AE ?_)
 refine AC h fun y2 hy2 h=>?_
 refine Ak Ca [0] (Pl.of [(true,0),(true,1),(true,2),(true,3),(true,4),(true,5),(true,6),(true,7),(true,8),(true,9),(true,10),(true,11),(true,12),(true,13),(false,14),(false,15),(false,16)]) zK (J E (J E (V E CY (J E ?_))))
 refine EA 21 13 34 hy2 E (fun hb hg1 k=>?_) (fun hb k=>?_) ?_
 obtain⟨x1,hx1,hg1⟩:=bnd hg1
 obtain⟨x2,hx2,hg1⟩:=bnd hg1
 obtain⟨y1,hy1,hg1⟩:=bnd hg1
 obtain rfl:=zI hg1
 refine J E (J E (J E ?_))
 refine BV 0 hx1 E Bt B2 E E E fun g1 m3 cp1 hv1=>?_
 refine Ab (AJ x1) E Eo E E (Cc (sz:=4) (enc:=AJ) 0 zV E hv1 hx1) ?_
 refine J E (J E (V E B5 ?_))
 refine BV 0 hx2 E Bt B2 E E E fun g2 m4 cp2 hv2=>?_
 refine Ab (AJ x2) E Eo E E (Cc (sz:=4) (enc:=AJ) 0 zV E hv2 hx2) ?_
 refine BO 0 cg ((Ln hy1 :)) E ⟨⟨0,E⟩,zT⟩ (V E Aw (Ae E E E ?_))
 exact k.mono tL
 refine AB E (AB E (AB E (AB E (AB E (AB E (AB E (AB E ?_)))))))
 refine AB E (AB E (AB E (AB E (Ae E E E ?_))))
 exact k.mono tL
 refine Y ?_
 refine AT h E (fun hc2 h=>?_) fun hc2 h=>?_
 refine AI (AG (AE (AM ?_)))
 refine AC h fun x3 hx3 h=>?_
 refine AC h fun x4 hx4 h=>?_
 refine AC h fun x5 hx5 h=>?_
 refine AC h fun l4 hl4 h=>?_
 refine AC h fun x6 hx6 h=>?_
 refine AC h fun l5 hl5 h=>?_
 refine Ak Ca [] (Bo [(true,0),(true,1),(true,2),(true,3),(true,4),(true,5),(true,6),(true,7),(true,8),(true,10),(true,11),(true,12)] (.alt 9 (Bo [(false,13),(true,14),(false,15),(true,16)] (.last 17 .nil)) (.cons (false,13) (Bo [(false,9),(true,14),(false,15),(true,16)] (.last 17 .nil))))) zK (J E (J E (J E (J E (V E B5 (J E (J E ?_)))))))
 refine V E B5 ?_
 refine BV 0 hx3 E Bt B2 E E E fun g3 m5 cp3 hv3=>?_
 refine J E (J E ?_)
 refine BV 0 hx4 E Bt B2 E E E fun g4 m6 cp4 hv4=>?_
 refine Mp ?_ ?_
 refine Ab (AJ x3) E Eo E E (Cc (sz:=4) (enc:=AJ) 0 zV E hv3 hx3) ?_
 refine Ab (AJ x4) E Eo E E (Cc (sz:=4) (enc:=AJ) 0 zV E hv4 hx4) ?_
 refine BV 0 hx5 E Bt B2 E E E fun g5 m7 cp5 hv5=>?_
 refine DE (sz:=4) (enc:=AJ) 0 hl4 zV rfl rfl rfl rfl rfl hv5 B2 (by first | (simp[Value.oneCell'];done) | simp[AJ,Value.oneCell']) trivial ?_
 refine BV 0 hx6 E Bt B2 E E E fun g6 m8 cp6 hv6=>?_
 refine BN ?_
 refine DE (sz:=4) (enc:=AJ) 0 hl5 zV rfl rfl rfl rfl rfl hv6 B2 (by first | (simp[Value.oneCell'];done) | simp[AJ,Value.oneCell']) trivial ?_
 refine AU (An (AG (AK ?_)))
 obtain⟨j_1,ej_1,h⟩:=Bn h
 refine J E (V E B5 ?_)
 refine Am (u:=vI j_1) E E (congrArg vI ej_1) ?_
 refine AU ?_
 exact Ai (m2,l5,j_1) h (Nat.lt_succ_self _) tL (BB [0] 1 E E E)
 refine Ab (AJ x4) E Eo E E (Cc (sz:=4) (enc:=AJ) 0 zV E hv4 hx4) ?_
 refine Ab (AJ x3) E Eo E E (Cc (sz:=4) (enc:=AJ) 0 zV E hv3 hx3) ?_
 refine BV 0 hx5 E Bt B2 E E E fun g5 m7 cp5 hv5=>?_
 refine DE (sz:=4) (enc:=AJ) 0 hl4 zV rfl rfl rfl rfl rfl hv5 B2 (by first | (simp[Value.oneCell'];done) | simp[AJ,Value.oneCell']) trivial ?_
 refine BV 0 hx6 E Bt B2 E E E fun g6 m8 cp6 hv6=>?_
 refine BN ?_
 refine DE (sz:=4) (enc:=AJ) 0 hl5 zV rfl rfl rfl rfl rfl hv6 B2 (by first | (simp[Value.oneCell'];done) | simp[AJ,Value.oneCell']) trivial ?_
 refine AU (An (AG (AK ?_)))
 obtain⟨j_1,ej_1,h⟩:=Bn h
 refine J E (V E B5 ?_)
 refine Am (u:=vI j_1) E E (congrArg vI ej_1) ?_
 refine AU ?_
 exact Ai (m2,l5,j_1) h (Nat.lt_succ_self _) tL (BB [0] 1 E E E)
 refine Ax (A3 (BL (Az (An ?_))))
 exact Av l3 h tL (BB [0] 1 E E E)
 unfold QO at h
 try dsimp only
 refine AK ?_
 obtain⟨i_2,ei_2,h⟩:=Bn h
 refine J E (V E Ay ?_)
 refine Am (u:=vI i_2) E E (congrArg vI ei_2) ?_
 refine AU ?_
 exact Ai (m1,l2,i_2) h (Nat.lt_succ_self _) tL (BB [0] 1 E E E)
 refine Ax (A3 (BL (Az ?_)))
 obtain rfl:=zI h
 exact Cr (DU E) (AY (M:=[_]) ⟨E,E⟩ fun _ hw=>BZ.pick (H:=[_]) hw [0] 1 E)
def KK(p1:Int)(p2:Int)(p3:Int)(nx_f_swp_l1:List AP×Int→Option (List AP))(l1:List AP)(a1:Int):Option (List AP):=
 cond (decide (a1<p3))
 (
  (Ao l1 (wI (p2+a1))).bind fun x1=>
  (Ao l1 (wI (p1+a1))).bind fun x2=>
  (Ao l1 (wI (p1+a1))).bind fun x3=>
  (F6 l1 (wI (p1+a1)) x1).bind fun l2=>
  (Ao l2 (wI (p2+a1))).bind fun x4=>
  (F6 l2 (wI (p2+a1)) x2).bind fun l3=>
  ret (wI (a1+1)) fun i_1=>
  nx_f_swp_l1 (l3,i_1))
 (
  some l1)
def Oe(p1:Int)(p2:Int)(p3:Int):Nat→(List AP×Int)→Option (List AP):=Bu fun nx x=>KK p1 p2 p3 nx x.1 x.2
def UG(n:Nat)(p0:List AP)(p1:Int)(p2:Int)(p3:Int):Option (List AP):=
 Oe p1 p2 p3 n (p0,0)
theorem iY{n:Nat}{B3:Value}{p0 r:List AP}{p1 p2 p3:Int}(h:UG n p0 p1 p2 p3=some r): zC K w0 206 [B3,vI p1,vI p2,vI p3,.func (.func 50) #[] #[]] [AH 79 4 B3 AJ p0] H (fun u M=>u=.tuple #[]∧M=[AH 79 4 B3 AJ r]):=by
 unfold UG at h
 refine UJ.enter Tryz.func206 rfl rfl ?_
 refine Z (O E (Y (AM ?_)))
 refine SX.heap (SX.mono (A5 (α:=Nat×List AP×Int) (fun x=>Oe p1 p2 p3 x.1 (x.2.1,x.2.2)=some r) (fun x=>[(0,B3),(1,vI p1),(2,vI p2),(3,vI p3),(10,vI x.2.2)]) (fun x=>AH 79 4 B3 AJ x.2.1::H) (fun x=>x.1) (fun x D h=>?_) (n,p0,0) h) tL) (BB [0] 1 E E E)
 obtain⟨m1,l1,a1⟩:=x
 dsimp only at h
 rcases m1 with _ | m1
 cases (show(none:Option _)=some r from h)
 replace h:KK p1 p2 p3 (Oe p1 p2 p3 m1) l1 a1=some r:=h
 unfold KK at h
 try dsimp only
 refine AE (Z (J E (J E (V E Aw (Y ?_)))))
 refine AT h E (fun hc1 h=>?_) fun hc1 h=>?_
 refine AI (AG (AE (AM ?_)))
 refine AC h fun x1 hx1 h=>?_
 refine AC h fun x2 hx2 h=>?_
 refine AC h fun x3 hx3 h=>?_
 refine AC h fun l2 hl2 h=>?_
 refine AC h fun x4 hx4 h=>?_
 refine AC h fun l3 hl3 h=>?_
 refine Ak Ca [] (Bo [(true,0),(true,1),(true,2),(true,3),(true,4),(true,5),(true,6),(true,7),(true,8),(true,9),(true,10),(true,11),(true,12),(true,14),(true,15),(true,16),(true,17),(true,18)] (.alt 13 (Bo [(false,19),(true,20),(false,21),(true,22)] (.last 23 .nil)) (.cons (false,19) (Bo [(false,13),(true,20),(false,21),(true,22)] (.last 23 .nil))))) zK (J E (J E (J E (V E Ay (J E (J E (J E ?_)))))))
 refine V E Ay (J E (J E (J E (V E Ay ?_))))
 refine BV 0 hx1 E Bt B2 E E E fun g1 m2 cp1 hv1=>?_
 refine J E (J E (J E (V E Ay ?_)))
 refine BV 0 hx2 E Bt B2 E E E fun g2 m3 cp2 hv2=>?_
 refine Mp ?_ ?_
 refine Ab (AJ x1) E Eo E E (Cc (sz:=4) (enc:=AJ) 0 zV E hv1 hx1) ?_
 refine Ab (AJ x2) E Eo E E (Cc (sz:=4) (enc:=AJ) 0 zV E hv2 hx2) ?_
 refine BV 0 hx3 E Bt B2 E E E fun g3 m4 cp3 hv3=>?_
 refine DE (sz:=4) (enc:=AJ) 0 hl2 zV rfl rfl rfl rfl rfl hv3 B2 (by first | (simp[Value.oneCell'];done) | simp[AJ,Value.oneCell']) trivial ?_
 refine BV 0 hx4 E Bt B2 E E E fun g4 m5 cp4 hv4=>?_
 refine BN ?_
 refine DE (sz:=4) (enc:=AJ) 0 hl3 zV rfl rfl rfl rfl rfl hv4 B2 (by first | (simp[Value.oneCell'];done) | simp[AJ,Value.oneCell']) trivial ?_
 refine AU (An (AG (AK ?_)))
 obtain⟨i_1,ei_1,h⟩:=Bn h
 refine J E (V E Ay ?_)
 refine Am (u:=vI i_1) E E (congrArg vI ei_1) ?_
 refine AU ?_
 exact Ai (m1,l3,i_1) h (Nat.lt_succ_self _) tL (BB [0] 1 E E E)
 refine Ab (AJ x2) E Eo E E (Cc (sz:=4) (enc:=AJ) 0 zV E hv2 hx2) ?_
 refine Ab (AJ x1) E Eo E E (Cc (sz:=4) (enc:=AJ) 0 zV E hv1 hx1) ?_
 refine BV 0 hx3 E Bt B2 E E E fun g3 m4 cp3 hv3=>?_
 refine DE (sz:=4) (enc:=AJ) 0 hl2 zV rfl rfl rfl rfl rfl hv3 B2 (by first | (simp[Value.oneCell'];done) | simp[AJ,Value.oneCell']) trivial ?_
 refine BV 0 hx4 E Bt B2 E E E fun g4 m5 cp4 hv4=>?_
 refine BN ?_
 refine DE (sz:=4) (enc:=AJ) 0 hl3 zV rfl rfl rfl rfl rfl hv4 B2 (by first | (simp[Value.oneCell'];done) | simp[AJ,Value.oneCell']) trivial ?_
 refine AU (An (AG (AK ?_)))
 obtain⟨i_1,ei_1,h⟩:=Bn h
 refine J E (V E Ay ?_)
 refine Am (u:=vI i_1) E E (congrArg vI ei_1) ?_
 refine AU ?_
 exact Ai (m1,l3,i_1) h (Nat.lt_succ_self _) tL (BB [0] 1 E E E)
 refine Ax (A3 (BL (Az ?_)))
 obtain rfl:=zI h
 exact Cr (DU E) (AY (M:=[_]) ⟨E,E⟩ fun _ hw=>BZ.pick (H:=[_]) hw [0] 1 E)
def St(n:Nat)(p2:Int)(l1:List AP)(a1:Int):Option (List AP):=
 (UG n l1 (wI (p2-a1)) p2 a1).bind fun y3=>
 some y3
def Nj(n:Nat)(p2:Int)(nx_f_rot_l1:List AP×Int×Int→Option (List AP))(l2:List AP)(a2:Int)(a3:Int):Option (List AP):=
 cond (!decide (a2=a3))
 (
  cond (decide (a3<a2))
  (
   (UG n l2 (wI (p2-a2)) p2 a3).bind fun y1=>
   ret (wI (a2-a3)) fun i_2=>
   nx_f_rot_l1 (y1,i_2,a3))
  (
   (UG n l2 (wI (p2-a2)) (wI ((wI (p2+a3))-a2)) a2).bind fun y2=>
   ret (wI (a3-a2)) fun j_2=>
   nx_f_rot_l1 (y2,a2,j_2)))
 (
  St n p2 l2 a2)
def QD(n:Nat)(p2:Int):Nat→(List AP×Int×Int)→Option (List AP):=Bu fun nx x=>Nj n p2 nx x.1 x.2.1 x.2.2
def ZH(n:Nat)(p0:List AP)(p1:Int)(p2:Int)(p3:Int):Option (List AP):=
 ret (wI (p2-p1)) fun i_1=>
 ret (wI (p3-p2)) fun j_1=>
 QD n p2 n (p0,i_1,j_1)
theorem to{n:Nat}{B3:Value}{p0 r:List AP}{p1 p2 p3:Int}(h:ZH n p0 p1 p2 p3=some r): zC K w0 169 [B3,vI p1,vI p2,vI p3,.func (.func 50) #[] #[]] [AH 79 4 B3 AJ p0] H (fun u M=>u=.tuple #[]∧M=[AH 79 4 B3 AJ r]):=by
 unfold ZH at h
 refine UJ.enter Tryz.func169 rfl rfl ?_
 refine Z ?_
 obtain⟨i_1,ei_1,h⟩:=Bn h
 refine J E (J E (V E B5 ?_))
 refine Am (u:=vI i_1) E E (congrArg vI ei_1) ?_
 refine Y (Z ?_)
 obtain⟨j_1,ej_1,h⟩:=Bn h
 refine J E (J E (V E B5 ?_))
 refine Am (u:=vI j_1) E E (congrArg vI ej_1) ?_
 refine Y ?_
 refine A4 (α:=List AP×Int) (fun x=>St n p2 x.1 x.2=some r) (fun x=>[(0,B3),(2,vI p2),(4,.func (.func 50) #[] #[]),(10,vI x.2)]) (fun x=>AH 79 4 B3 AJ x.1::H) ?_ (fun x D h=>?_)
 refine AM ?_
 refine SX.heap (SX.mono (A5 (α:=Nat×List AP×Int×Int) (fun x=>QD n p2 x.1 (x.2.1,x.2.2.1,x.2.2.2)=some r) (fun x=>[(0,B3),(2,vI p2),(4,.func (.func 50) #[] #[]),(10,vI x.2.2.1),(11,vI x.2.2.2)]) (fun x=>AH 79 4 B3 AJ x.2.1::H) (fun x=>x.1) (fun x D h=>?_) (n,p0,i_1,j_1) h) tL) (BB [0] 1 E E E)
 obtain⟨m1,l2,a2,a3⟩:=x
 dsimp only at h
 rcases m1 with _ | m1
 cases (show(none:Option _)=some r from h)
 replace h:Nj n p2 (QD n p2 m1) l2 a2 a3=some r:=h
 unfold Nj at h
 try dsimp only
 refine AE (Z (J E (J E (V E Bg (Y ?_)))))
 refine AT h E (fun hc1 h=>?_) fun hc1 h=>?_
 refine AI (AG (AM (Z (J E (J E (V E CY (Y ?_)))))))
 refine AT h E (fun hc2 h=>?_) fun hc2 h=>?_
 refine Z ?_
 refine AC h fun y1 hy1 h=>?_
 refine J E (J E (J E (V E B5 (J E (J E (J E (AQ 1 cN (iY hy1) E (Y (AK ?_)))))))))
 obtain⟨i_2,ei_2,h⟩:=Bn h
 refine J E (J E (V E B5 ?_))
 refine Am (u:=vI i_2) E E (congrArg vI ei_2) ?_
 refine AU (An ?_)
 exact Ai (m1,y1,i_2,a3) h (Nat.lt_succ_self _) tL (BB [0] 1 E E E)
 refine Z ?_
 refine AC h fun y2 hy2 h=>?_
 refine J E (J E (J E (V E B5 (J E (J E (V E Ay (J E ?_)))))))
 refine V E B5 (J E (J E (AQ 1 cN (iY hy2) E (Y (AK ?_)))))
 obtain⟨j_2,ej_2,h⟩:=Bn h
 refine J E (J E (V E B5 ?_))
 refine Am (u:=vI j_2) E E (congrArg vI ej_2) ?_
 refine AU (An ?_)
 exact Ai (m1,y2,a2,j_2) h (Nat.lt_succ_self _) tL (BB [0] 1 E E E)
 refine Ax (A3 (BL (Az ?_)))
 exact Av (l2,a2) h tL (BB [0] 1 E E E)
 obtain⟨l1,a1⟩:=x
 dsimp only at h
 unfold St at h
 try dsimp only
 refine AK ?_
 refine AC h fun y3 hy3 h=>?_
 refine J E (J E (J E (V E B5 (J E (J E (J E (AQ 1 cN (iY hy3) E (AU ?_))))))))
 obtain rfl:=zI h
 exact Cr (DU E) (AY (M:=[_]) ⟨E,E⟩ fun _ hw=>BZ.pick (H:=[_]) hw [0] 1 E)
end
end Go.Proofs.YtkibffdipniemaaGreatDoor
