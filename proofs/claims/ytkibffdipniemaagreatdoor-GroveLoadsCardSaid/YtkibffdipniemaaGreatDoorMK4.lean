/- The texts GG6, GG7, GG8, GG9, GG10, GG11, GG12, GG13, LG2, LG3, LG4, LG5, LG6, S24, GG14, GG15, GG16, GG17, GG18, GG19, GG20, LG7, GG21, GG22, one behind the other: walks of the program, and plain laws of what it computes. Conditions: as each theorem says. -/
import Derived.Test.YtkibffdipniemaaGreatDoorMK1
import Derived.Test.YtkibffdipniemaaGreatDoorMK2
import Derived.Test.YtkibffdipniemaaGreatDoorMK3

set_option linter.unusedVariables false
set_option linter.unusedSimpArgs false
set_option maxHeartbeats 4000000
set_option maxRecDepth 100000
namespace Go.Proofs.YtkibffdipniemaaGreatDoor
open Go
section
variable {K:Nat→Prop}{w0:World}{H:List AW}
def Jq(p0:Ad):Option Bool:=
 (ER p0).bind fun y1=>
 ret (!y1) fun x1=>
 some x1
theorem Xn{p0:Ad}{r:Bool}(h:Jq p0=some r): zC K w0 167 [.agg (Af p0).toArray] [] H (fun u M=>u=vB r∧M=[]):=by
 unfold Jq at h
 refine Ua.enter Tryz.func167 rfl rfl ?_
 refine Z ?_
 refine Bf E E zU fun b1=>?_
 refine O E (V (Z ?_))
 refine AC h fun y1 hy1 h=>?_
 obtain⟨x1,ex1,h⟩:=Bp h
 refine Ac [AA p0.page,vS p0.tag] E Cb E E (Aa 0 E) (AQ 0 cj ((Nj hy1 :)) E (CH E E ?_))
 refine An (u:=vB x1) E E (congrArg vB ex1) ?_
 refine V (AL ?_)
 obtain rfl:=zI h
 exact Ab [] 1 E E E
def Wk:Option Int:=
 some (-1)
def II(p0:List Ad)(nx_f_idx_l1:Int→Option Int)(a1:Int):Option Int:=
 cond (decide (a1<(p0.length:Int)))
 (
  (Aq p0 a1).bind fun x1=>
  (Jq x1).bind fun y1=>
  cond y1
  (
   some a1)
  (
   nx_f_idx_l1 (wI (a1+1))))
 (
  Wk)
def MU(p0:List Ad):Nat→Int→Option Int:=By fun nx x=>II p0 nx x
def fA(n:Nat)(p0:List Ad):Option Int:=
 MU p0 n 0
theorem te{n:Nat}{B6:Value}{p0:List Ad}{r:Int}(h:fA n p0=some r)(hs0_:CD K w0 Af 2 B6 p0):zC K w0 205 [B6,.func (.func 167) #[] #[]] [] H (fun u M=>u=vI r∧M=[]):=by
 unfold fA at h
 refine Ua.enter Tryz.func205 rfl rfl ?_
 refine Z (O E (V ?_))
 refine A5 (α:=Unit) (fun x=>Wk=some r) (fun x=>[]) (fun x=>H) ?_ (fun x D h=>?_)
 refine Z (J E (B3 hs0_ E E1 E (J E (V (AN ?_)))))
 refine SX.heap (SX.mono (A6 (α:=Nat×Int) (fun x=>MU p0 x.1 x.2=some r) (fun x=>[(0,B6),(1,.func (.func 167) #[] #[]),(7,vI (p0.length:Int)),(8,vI x.2)]) (fun x=>H) (fun x=>x.1) (fun x D h=>?_) (n,0) h) tL) (BG [] 0 E E E)
 obtain⟨m1,a1⟩:=x
 dsimp only at h
 rcases m1 with _ | m1
 cases (show(none:Option _)=some r from h)
 replace h:II p0 (MU p0 m1) a1=some r:=h
 unfold II at h
 try dsimp only
 refine Z (Y E Aw (V (AE ?_)))
 refine AT h E (fun hc1 h=>?_) fun hc1 h=>?_
 refine AI (AG (AE (AN (Z (J E (O E (V (Z ?_))))))))
 refine AC h fun x1 hx1 h=>?_
 refine AC h fun y1 hy1 h=>?_
 refine J E (J E (J E ?_))
 refine Cj hx1 hs0_ E E1 DD E E fun be1 of1 hc2=>?_
 refine Ac (Af x1) E Cb E E (C7 hc2) (AQ 0 qF ((Xn hy1 :)) E (V ?_))
 refine AT h E (fun hc3 h=>?_) fun hc3 h=>?_
 refine Z (J E (O E (V (AL (Ba (AZ (Dq (Ba (Eg ?_)))))))))
 obtain rfl:=zI h
 exact Ab [] 0 E E E
 refine AI (Ao (AG (AK (Y E Az (J E (AU ?_))))))
 exact Al (m1,wI (a1+1)) h (Nat.lt_succ_self _) tL (BG [] 0 E E E)
 refine Ax (A3 (BO (A0 ?_)))
 exact Au () h tL (BG [] 0 E E E)
 unfold Wk at h
 try dsimp only
 refine Z (O E (V (AL ?_)))
 obtain rfl:=zI h
 exact Ab [] 0 E E E
def Yj(n:Nat)(p0:List Ad):Option Bool:=
 (fA n p0).bind fun y1=>
 ret (decide (0≤y1)) fun x1=>
 some x1
theorem tT{n:Nat}{B6:Value}{p0:List Ad}{r:Bool}(h:Yj n p0=some r)(hs0_:CD K w0 Af 2 B6 p0):zC K w0 166 [B6,.func (.func 167) #[] #[]] [] H (fun u M=>u=vB r∧M=[]):=by
 unfold Yj at h
 refine Ua.enter Tryz.func166 rfl rfl ?_
 refine Z (O E (V (Z ?_)))
 refine AC h fun y1 hy1 h=>?_
 obtain⟨x1,ex1,h⟩:=Bp h
 refine J E (J E (AQ 0 rz (te hy1 hs0_) E (Y E IW ?_)))
 refine An (u:=vB x1) E E (congrArg vB ex1) ?_
 refine V (AL ?_)
 obtain rfl:=zI h
 exact Ab [] 0 E E E
def J2(n:Nat)(p0:BP):Option Bool:=
 ret (decide (p0.kind=1)) fun x1=>
 cond x1
 (
  (FQ (((decide (p0.cx=0)&&(decide (p0.cy=0)&&(decide (p0.lev=0)&&true)))&&(decide ((p0.kids.length:Int)=0)))&&(decide ((p0.rows.length:Int)≤4))) ((J4 n p0.rows).bind fun y1=>some (y1))).bind fun y2=>
  (FQ y2 ((I5 (⟨p0.npage,p0.ntag⟩:Ad)).bind fun y3=>(Nn y3 ((ER (⟨p0.npage,p0.ntag⟩:Ad)).bind fun y4=>some (y4))).bind fun y5=>some (y5))).bind fun y6=>
  some y6)
 (
  ret (decide (p0.kind=2)) fun x2=>
  cond x2
  (
   (Yj n p0.kids).bind fun y7=>
   (FQ ((!y7)&&(decide ((p0.rows.length:Int)=0))) ((I5 (⟨p0.npage,p0.ntag⟩:Ad)).bind fun y8=>some (y8))).bind fun y9=>
   (FQ ((y9&&(decide (2≤(p0.kids.length:Int))))&&(decide ((p0.kids.length:Int)≤4))) ((Ib (⟨p0.cx,p0.cy,p0.lev⟩:Be)).bind fun y10=>some (y10))).bind fun y11=>
   ret (y11&&(decide (0<p0.lev))) fun x3=>
   some x3)
  (
   some false))
theorem UJ{n:Nat}{Fv Fr:Value}{p0:BP}{r:Bool}(h:J2 n p0=some r)(hs0_4:CD K w0 AJ 4 Fv p0.rows)(hs0_5:CD K w0 Af 2 Fr p0.kids):zC K w0 122 [.agg #[vI p0.kind,AA p0.cx,AA p0.cy,vI p0.lev,Fv,Fr,AA p0.npage,vS p0.ntag]] [] H (fun u M=>u=vB r∧M=[]):=by
 unfold J2 at h
 refine Ua.enter Tryz.func122 rfl rfl ?_
 refine Z ?_
 refine Bf E E zU fun b1=>?_
 refine O E (V (AE (Z (AD E Ph (AF 0 D6 E (V (AN (Z ?_))))))))
 obtain⟨x1,ex1,h⟩:=Bp h
 refine Y E CE ?_
 refine An (u:=vB x1) E E (congrArg vB ex1) ?_
 refine V ?_
 refine AT h E (fun hc1 h=>?_) fun hc1 h=>?_
 refine Z ?_
 refine AC h fun y2 hy2 h=>?_
 refine AC h fun y6 hy6 h=>?_
 refine AD rfl Gh (Ac [AA p0.cx,AA p0.cy,vI p0.lev] rfl Es rfl rfl (Ce 0 rfl (by rintro(_ | (_ | (_ | j))) u hj<;>first | exact hj | exact absurd hj zS)) (BJ [] rfl Qz Ql KN trivial rfl ?_))
 refine Tg E pA E E (Cc E E (KD (a:=p0.cx) (b:=0)) (Cc E E (KD (a:=p0.cy) (b:=0)) (Cc E E (Yd (a:=p0.lev) (b:=0)) If))) ?_
 refine J E ?_
 refine C5 (c:=decide ((p0.kids.length:Int)=0)) 12 5 17 E (fun hb k=>?_) (fun hb k=>?_) ?_
 refine AD E Dn (AF 0 Hq E (B3 hs0_5 E E1 E (Y E CE (Ae E E E ?_))))
 exact k.mono tL
 refine AB E (AB E (AB E (AB E (Ae E E E ?_))))
 exact k.mono tL
 refine J E ?_
 refine C5 (c:=decide ((p0.rows.length:Int)≤4)) 18 5 23 E (fun hb k=>?_) (fun hb k=>?_) ?_
 refine AD E Fx (AF 0 FO E (B3 hs0_4 E Bt E (Y E IR (Ae E E E ?_))))
 exact k.mono tL
 refine AB E (AB E (AB E (AB E (Ae E E E ?_))))
 exact k.mono tL
 refine J E ?_
 refine D9 24 4 28 hy2 E (fun hb hg3 k=>?_) (fun hb k=>?_) ?_
 obtain⟨y1,hy1,hg3⟩:=bnd hg3
 obtain rfl:=zI hg3
 refine AD E Fx (AF 0 FO E (AQ 0 pq (UQ hy1 hs0_4) E (Ae E E E ?_)))
 exact k.mono tL
 refine AB E (AB E (AB E (Ae E E E ?_)))
 exact k.mono tL
 refine J E ?_
 refine D9 29 9 38 hy6 E (fun hb hg4 k=>?_) (fun hb k=>?_) ?_
 obtain⟨y3,hy3,hg4⟩:=bnd hg4
 obtain⟨y5,hy5,hg4⟩:=bnd hg4
 obtain rfl:=zI hg4
 refine AD rfl FF (Ac [AA p0.npage,vS p0.ntag] rfl Cb rfl rfl (Ce 0 rfl (by rintro(_ | (_ | j)) u hj<;>first | exact hj | exact absurd hj zS)) (AQ 0 lN ((TH hy3 :)) rfl (J rfl ?_)))
 refine KM 33 4 37 hy5 E (fun hb k=>?_) (fun hb hg5 k=>?_) ?_
 refine AB E (AB E (AB E (Ae E E E ?_)))
 exact k.mono tL
 obtain⟨y4,hy4,hg5⟩:=bnd hg5
 obtain rfl:=zI hg5
 refine AD rfl FF (Ac [AA p0.npage,vS p0.ntag] rfl Cb rfl rfl (Ce 0 rfl (by rintro(_ | (_ | j)) u hj<;>first | exact hj | exact absurd hj zS)) (AQ 0 cj ((Nj hy4 :)) rfl (Ae rfl rfl rfl ?_)))
 exact k.mono tL
 refine Ae E E E ?_
 exact k.mono tL
 refine AB E (AB E (AB E (AB E (AB E (AB E (AB E (AB E ?_)))))))
 refine Ae E E E ?_
 exact k.mono tL
 refine O E (V (AL (Ba (AZ ?_))))
 obtain rfl:=zI h
 exact Ab [] 1 E E E
 refine Z ?_
 obtain⟨x2,ex2,h⟩:=Bp h
 refine Y E CE ?_
 refine An (u:=vB x2) E E (congrArg vB ex2) ?_
 refine V ?_
 refine AT h E (fun hc2 h=>?_) fun hc2 h=>?_
 refine Z ?_
 refine AC h fun y7 hy7 h=>?_
 refine AD E Dn (AF 0 Hq E (AQ 0 rX (tT hy7 hs0_5) E (O E (V (Z ?_)))))
 refine AC h fun y9 hy9 h=>?_
 refine AC h fun y11 hy11 h=>?_
 obtain⟨x3,ex3,h⟩:=Bp h
 refine J E (CH E E (J E ?_))
 refine C5 (c:=decide ((p0.rows.length:Int)=0)) 46 5 51 E (fun hb k=>?_) (fun hb k=>?_) ?_
 refine AD E Fx (AF 0 FO E (B3 hs0_4 E Bt E (Y E CE (Ae E E E ?_))))
 exact k.mono tL
 refine AB E (AB E (AB E (AB E (Ae E E E ?_))))
 exact k.mono tL
 refine J E ?_
 refine D9 52 4 56 hy9 E (fun hb hg7 k=>?_) (fun hb k=>?_) ?_
 obtain⟨y8,hy8,hg7⟩:=bnd hg7
 obtain rfl:=zI hg7
 refine AD rfl FF (Ac [AA p0.npage,vS p0.ntag] rfl Cb rfl rfl (Ce 0 rfl (by rintro(_ | (_ | j)) u hj<;>first | exact hj | exact absurd hj zS)) (AQ 0 lN ((TH hy8 :)) rfl (Ae rfl rfl rfl ?_)))
 exact k.mono tL
 refine AB E (AB E (AB E (Ae E E E ?_)))
 exact k.mono tL
 refine J E ?_
 refine C5 (c:=decide (2≤(p0.kids.length:Int))) 57 5 62 E (fun hb k=>?_) (fun hb k=>?_) ?_
 refine AD E Dn (AF 0 Hq E (B3 hs0_5 E E1 E (Y E IW (Ae E E E ?_))))
 exact k.mono tL
 refine AB E (AB E (AB E (AB E (Ae E E E ?_))))
 exact k.mono tL
 refine J E ?_
 refine C5 (c:=decide ((p0.kids.length:Int)≤4)) 63 5 68 E (fun hb k=>?_) (fun hb k=>?_) ?_
 refine AD E Dn (AF 0 Hq E (B3 hs0_5 E E1 E (Y E IR (Ae E E E ?_))))
 exact k.mono tL
 refine AB E (AB E (AB E (AB E (Ae E E E ?_))))
 exact k.mono tL
 refine J E ?_
 refine D9 69 4 73 hy11 E (fun hb hg10 k=>?_) (fun hb k=>?_) ?_
 obtain⟨y10,hy10,hg10⟩:=bnd hg10
 obtain rfl:=zI hg10
 refine AD rfl Gh (Ac [AA p0.cx,AA p0.cy,vI p0.lev] rfl Es rfl rfl (Ce 0 rfl (by rintro(_ | (_ | (_ | j))) u hj<;>first | exact hj | exact absurd hj zS)) (AQ 0 eU ((QT hy10 :)) rfl (Ae rfl rfl rfl ?_)))
 exact k.mono tL
 refine AB E (AB E (AB E (Ae E E E ?_)))
 exact k.mono tL
 refine J E ?_
 refine C5 (c:=decide (0<p0.lev)) 74 5 79 E (fun hb k=>?_) (fun hb k=>?_) ?_
 refine AD E Gh (AD E Ef (AF 0 D6 E (Y E Ca (Ae E E E ?_))))
 exact k.mono tL
 refine AB E (AB E (AB E (AB E (Ae E E E ?_))))
 exact k.mono tL
 refine An (u:=vB x3) E E (congrArg vB ex3) ?_
 refine V (AL (Ba (AZ ?_)))
 obtain rfl:=zI h
 exact Ab [] 1 E E E
 refine AI (Ao (AG (Z (O E (V (AL ?_))))))
 obtain rfl:=zI h
 exact Ab [] 1 E E E
def FU(p0:Ad):Option Bool:=
 ret ((decide (2≤p0.page))&&(decide ((p0.tag.length:Int)=32))) fun x1=>
 some x1
theorem Mo{p0:Ad}{r:Bool}(h:FU p0=some r): zC K w0 130 [.agg (Af p0).toArray] [] H (fun u M=>u=vB r∧M=[]):=by
 unfold FU at h
 refine Ua.enter Tryz.func130 rfl rfl ?_
 refine Z ?_
 refine Bf E E zU fun b1=>?_
 refine O E (V (Z ?_))
 obtain⟨x1,ex1,h⟩:=Bp h
 refine AD E KE (AF 0 A8 E ?_)
 refine Y E (HI (b:=2)) ?_
 refine J E ?_
 refine C5 (c:=decide ((p0.tag.length:Int)=32)) 6 5 11 E (fun hb k=>?_) (fun hb k=>?_) ?_
 refine AD E L8 (AF 0 Fm E (BT E Bo E (Y E CE (Ae E E E ?_))))
 exact k.mono tL
 refine AB E (AB E (AB E (AB E (Ae E E E ?_))))
 exact k.mono tL
 refine An (u:=vB x1) E E (congrArg vB ex1) ?_
 refine V (AL ?_)
 obtain rfl:=zI h
 exact Ab [] 1 E E E
def J5(p0:Ad):Option Bool:=
 ret ((decide (p0.page=0))&&(decide (p0.tag=[]))) fun x1=>
 some x1
theorem UF{p0:Ad}{r:Bool}(h:J5 p0=some r): zC K w0 177 [.agg (Af p0).toArray] [] H (fun u M=>u=vB r∧M=[]):=by
 unfold J5 at h
 refine Ua.enter Tryz.func177 rfl rfl ?_
 refine Z ?_
 refine Bf E E zU fun b1=>?_
 refine O E (V (Z ?_))
 obtain⟨x1,ex1,h⟩:=Bp h
 refine AD E KE (AF 0 A8 E ?_)
 refine Y E (O1 (b:=0)) ?_
 refine J E ?_
 refine C5 (c:=decide (p0.tag=[])) 6 4 10 E (fun hb k=>?_) (fun hb k=>?_) ?_
 refine AD E L8 (AF 0 Fm E (Y E VP (Ae E E E ?_)))
 exact k.mono tL
 refine AB E (AB E (AB E (Ae E E E ?_)))
 exact k.mono tL
 refine An (u:=vB x1) E E (congrArg vB ex1) ?_
 refine V (AL ?_)
 obtain rfl:=zI h
 exact Ab [] 1 E E E
def KO(p0:BP):Option Bool:=
 (Ep (⟨p0.cx,p0.cy,p0.lev⟩:Be)).bind fun y9=>
 some y9
def EV(p0:BP)(nx_f_ref10_Right_l1:Int→Option Bool)(a1:Int):Option Bool:=
 cond (decide (a1<(p0.kids.length:Int)))
 (
  (Aq p0.kids a1).bind fun x2=>
  (FU x2).bind fun y8=>
  cond (!y8)
  (
   some false)
  (
   ret (wI (a1+1)) fun i_1=>
   nx_f_ref10_Right_l1 i_1))
 (
  KO p0)
def Ff(p0:BP):Nat→Int→Option Bool:=By fun nx x=>EV p0 nx x
def Iz(n:Nat)(p0:BP):Option Bool:=
 cond (decide (p0.kind=1))
 (
  (GG n p0.rows).bind fun y1=>
  (FU (⟨p0.npage,p0.ntag⟩:Ad)).bind fun y2=>
  (FQ ((decide ((p0.rows.length:Int)≤4))&&y1) ((Nn y2 ((J5 (⟨p0.npage,p0.ntag⟩:Ad)).bind fun y3=>some (y3))).bind fun y4=>some (y4))).bind fun y5=>
  ret ((y5&&(decide ((p0.kids.length:Int)=0)))&&(decide (p0.cx=0)&&(decide (p0.cy=0)&&(decide (p0.lev=0)&&true)))) fun x1=>
  some x1)
 (
  (Nn ((!decide (p0.kind=2))||(decide (0<(p0.rows.length:Int)))) ((J5 (⟨p0.npage,p0.ntag⟩:Ad)).bind fun y6=>some (!y6))).bind fun y7=>
  cond (((y7||(decide ((p0.kids.length:Int)<2)))||(decide (4<(p0.kids.length:Int))))||(decide (p0.lev<1)))
  (
   some false)
  (
   Ff p0 n 0))
theorem SV{n:Nat}{Fv Fr:Value}{p0:BP}{r:Bool}(h:Iz n p0=some r)(hs0_4:CD K w0 AJ 4 Fv p0.rows)(hs0_5:CD K w0 Af 2 Fr p0.kids):zC K w0 134 [.agg #[vI p0.kind,AA p0.cx,AA p0.cy,vI p0.lev,Fv,Fr,AA p0.npage,vS p0.ntag]] [] H (fun u M=>u=vB r∧M=[]):=by
 unfold Iz at h
 refine Ua.enter Tryz.func134 rfl rfl ?_
 refine Z ?_
 refine Bf E E zU fun b1=>?_
 refine O E (V (AE (Z (AD E Ph (AF 0 D6 E (Y E CE (V ?_)))))))
 refine AT h E (fun hc1 h=>?_) fun hc1 h=>?_
 refine Z ?_
 refine AC h fun y1 hy1 h=>?_
 refine AD E Fx (AF 0 FO E (AQ 0 nu (Sw hy1 hs0_4) E (O E (V (Z ?_)))))
 refine AC h fun y2 hy2 h=>?_
 refine AD rfl FF (Ac [AA p0.npage,vS p0.ntag] rfl Cb rfl rfl (Ce 0 rfl (by rintro(_ | (_ | j)) u hj<;>first | exact hj | exact absurd hj zS)) (AQ 0 eO ((Mo hy2 :)) rfl (O rfl (V (Z ?_)))))
 refine AC h fun y5 hy5 h=>?_
 obtain⟨x1,ex1,h⟩:=Bp h
 refine AD E Fx (AF 0 FO E (B3 hs0_4 E Bt E (Y E IR (J E ?_))))
 refine C5 (c:=y1) 20 2 22 E (fun hb k=>?_) (fun hb k=>?_) ?_
 refine J E (Ae E E E ?_)
 exact k.mono tL
 refine AB E (Ae E E E ?_)
 exact k.mono tL
 refine J E ?_
 refine D9 23 7 30 hy5 E (fun hb hg2 k=>?_) (fun hb k=>?_) ?_
 obtain⟨y4,hy4,hg2⟩:=bnd hg2
 obtain rfl:=zI hg2
 refine J E (J E ?_)
 refine KM 25 4 29 hy4 E (fun hb k=>?_) (fun hb hg3 k=>?_) ?_
 refine AB E (AB E (AB E (Ae E E E ?_)))
 exact k.mono tL
 obtain⟨y3,hy3,hg3⟩:=bnd hg3
 obtain rfl:=zI hg3
 refine AD rfl FF (Ac [AA p0.npage,vS p0.ntag] rfl Cb rfl rfl (Ce 0 rfl (by rintro(_ | (_ | j)) u hj<;>first | exact hj | exact absurd hj zS)) (AQ 0 lA ((UF hy3 :)) rfl (Ae rfl rfl rfl ?_)))
 exact k.mono tL
 refine Ae E E E ?_
 exact k.mono tL
 refine AB E (AB E (AB E (AB E (AB E (AB E (Ae E E E ?_))))))
 exact k.mono tL
 refine J E ?_
 refine C5 (c:=decide ((p0.kids.length:Int)=0)) 31 5 36 E (fun hb k=>?_) (fun hb k=>?_) ?_
 refine AD E Dn (AF 0 Hq E (B3 hs0_5 E E1 E (Y E CE (Ae E E E ?_))))
 exact k.mono tL
 refine AB E (AB E (AB E (AB E (Ae E E E ?_))))
 exact k.mono tL
 refine J E ?_
 refine C5 (c:=decide (p0.cx=0)&&(decide (p0.cy=0)&&(decide (p0.lev=0)&&true))) 37 5 42 E (fun hb k=>?_) (fun hb k=>?_) ?_
 refine AD rfl Gh (Ac [AA p0.cx,AA p0.cy,vI p0.lev] rfl Es rfl rfl (Ce 0 rfl (by rintro(_ | (_ | (_ | j))) u hj<;>first | exact hj | exact absurd hj zS)) (BJ [] rfl Qz Ql KN trivial rfl ?_))
 refine Tg E pA E E (Cc E E (KD (a:=p0.cx) (b:=0)) (Cc E E (KD (a:=p0.cy) (b:=0)) (Cc E E (Yd (a:=p0.lev) (b:=0)) If))) ?_
 refine Ae E E E ?_
 exact k.mono tL
 refine AB E (AB E (AB E (AB E (Ae E E E ?_))))
 exact k.mono tL
 refine An (u:=vB x1) E E (congrArg vB ex1) ?_
 refine V (AL (AZ ?_))
 obtain rfl:=zI h
 exact Ab [] 1 E E E
 refine AI (AG (AE (Z ?_)))
 refine AC h fun y7 hy7 h=>?_
 refine AD E Ph (AF 0 D6 E (Y E Bb (J E ?_)))
 refine C9 (c:=decide (0<(p0.rows.length:Int))) 46 5 51 E (fun hb k=>?_) (fun hb k=>?_) ?_
 refine AB E (AB E (AB E (AB E (Ae E E E ?_))))
 exact k.mono tL
 refine AD E Fx (AF 0 FO E (B3 hs0_4 E Bt E (Y E Ca (Ae E E E ?_))))
 exact k.mono tL
 refine J E ?_
 refine KM 52 5 57 hy7 E (fun hb k=>?_) (fun hb hg7 k=>?_) ?_
 refine AB E (AB E (AB E (AB E (Ae E E E ?_))))
 exact k.mono tL
 obtain⟨y6,hy6,hg7⟩:=bnd hg7
 obtain rfl:=zI hg7
 refine AD rfl FF (Ac [AA p0.npage,vS p0.ntag] rfl Cb rfl rfl (Ce 0 rfl (by rintro(_ | (_ | j)) u hj<;>first | exact hj | exact absurd hj zS)) (AQ 0 lA ((UF hy6 :)) rfl (CH rfl rfl (Ae rfl rfl rfl ?_))))
 exact k.mono tL
 refine J E ?_
 refine C9 (c:=decide ((p0.kids.length:Int)<2)) 58 5 63 E (fun hb k=>?_) (fun hb k=>?_) ?_
 refine AB E (AB E (AB E (AB E (Ae E E E ?_))))
 exact k.mono tL
 refine AD E Dn (AF 0 Hq E (B3 hs0_5 E E1 E (Y E Aw (Ae E E E ?_))))
 exact k.mono tL
 refine J E ?_
 refine C9 (c:=decide (4<(p0.kids.length:Int))) 64 5 69 E (fun hb k=>?_) (fun hb k=>?_) ?_
 refine AB E (AB E (AB E (AB E (Ae E E E ?_))))
 exact k.mono tL
 refine AD E Dn (AF 0 Hq E (B3 hs0_5 E E1 E (Y E Ca (Ae E E E ?_))))
 exact k.mono tL
 refine J E ?_
 refine C9 (c:=decide (p0.lev<1)) 70 5 75 E (fun hb k=>?_) (fun hb k=>?_) ?_
 refine AB E (AB E (AB E (AB E (Ae E E E ?_))))
 exact k.mono tL
 refine AD E Gh (AD E Ef (AF 0 D6 E (Y E Aw (Ae E E E ?_))))
 exact k.mono tL
 refine V ?_
 refine AT h E (fun hc2 h=>?_) fun hc2 h=>?_
 refine Z (O E (V (AL (AZ ?_))))
 obtain rfl:=zI h
 exact Ab [] 1 E E E
 refine AI (AG ?_)
 refine A5 (α:=Unit) (fun x=>KO p0=some r) (fun x=>[(1,vP b1 0)]) (fun x=>AP b1 (.cells #[vI p0.kind,AA p0.cx,AA p0.cy,vI p0.lev,Fv,Fr,AA p0.npage,vS p0.ntag] 148)::H) ?_ (fun x D h=>?_)
 refine Z (O E (V (AN ?_)))
 refine SX.heap (SX.mono (A6 (α:=Nat×Int) (fun x=>Ff p0 x.1 x.2=some r) (fun x=>[(1,vP b1 0),(5,vI x.2)]) (fun x=>AP b1 (.cells #[vI p0.kind,AA p0.cx,AA p0.cy,vI p0.lev,Fv,Fr,AA p0.npage,vS p0.ntag] 148)::H) (fun x=>x.1) (fun x D h=>?_) (n,0) h) tL) (BG [0] 1 E E E)
 obtain⟨m1,a1⟩:=x
 dsimp only at h
 rcases m1 with _ | m1
 cases (show(none:Option _)=some r from h)
 replace h:EV p0 (Ff p0 m1) a1=some r:=h
 unfold EV at h
 try dsimp only
 refine AE (Z (J E (AD E Dn (AF 0 Hq E (B3 hs0_5 E E1 E (Y E Aw (V ?_)))))))
 refine AT h E (fun hc3 h=>?_) fun hc3 h=>?_
 refine AI (AG (AE (AN (Z ?_))))
 refine AC h fun x2 hx2 h=>?_
 refine AC h fun y8 hy8 h=>?_
 refine AD E Dn (AF 0 Hq E (J E ?_))
 refine Cj hx2 hs0_5 E E1 DD E E fun be1 of1 hc4=>?_
 refine Ac (Af x2) E Cb E E (C7 hc4) (AQ 0 eO ((Mo hy8 :)) E (O E (V (Z (J E (CH E E (V ?_)))))))
 refine AT h E (fun hc5 h=>?_) fun hc5 h=>?_
 refine Z (O E (V (AL (Ba (AZ (Dq (Ba (Eg ?_))))))))
 obtain rfl:=zI h
 exact Ab [] 1 E E E
 refine AI (Ao (AG (AK ?_)))
 obtain⟨i_1,ei_1,h⟩:=Bp h
 refine J E (Y E Az ?_)
 refine An (u:=vI i_1) E E (congrArg vI ei_1) ?_
 refine AU ?_
 exact Al (m1,i_1) h (Nat.lt_succ_self _) tL (BG [0] 1 E E E)
 refine Ax (A3 (BO (A0 ?_)))
 exact Au () h tL (BG [0] 1 E E E)
 unfold KO at h
 try dsimp only
 refine Z ?_
 refine AC h fun y9 hy9 h=>?_
 refine AD rfl Gh (Ac [AA p0.cx,AA p0.cy,vI p0.lev] rfl Es rfl rfl (Ce 0 rfl (by rintro(_ | (_ | (_ | j))) u hj<;>first | exact hj | exact absurd hj zS)) (AQ 0 eW ((O7 hy9 :)) rfl (O rfl (V (AL ?_)))))
 obtain rfl:=zI h
 exact Ab [] 1 E E E
def OO(a1:List UInt8):Option (List UInt8):=
 some a1
def Mq(p1:Int)(nx_f_ref10_put_l1:UInt64×List UInt8×Int→Option (List UInt8))(a2:UInt64)(a3:List UInt8)(a4:Int):Option (List UInt8):=
 cond (decide (a4<p1))
 (
  (FN a3 [a2.toUInt8]).bind fun s1=>
  (QP a2 256).bind fun q1=>
  ret (wI (a4+1)) fun i_1=>
  nx_f_ref10_put_l1 (q1,s1,i_1))
 (
  OO a3)
def OV(p1:Int):Nat→(UInt64×List UInt8×Int)→Option (List UInt8):=By fun nx x=>Mq p1 nx x.1 x.2.1 x.2.2
def DC(n:Nat)(p0:UInt64)(p1:Int):Option (List UInt8):=
 OV p1 n (p0,[],0)
theorem FV{n:Nat}{p0:UInt64}{p1:Int}{r:List UInt8}(h:DC n p0 p1=some r): zC K w0 178 [Ar p0,vI p1] [] H (fun u M=>u=vS r∧M=[]):=by
 unfold DC at h
 refine Ua.enter Tryz.func178 rfl rfl ?_
 refine Z (O E (V (Z (O E (V ?_)))))
 refine A5 (α:=List UInt8) (fun x=>OO x=some r) (fun x=>[(5,vS x)]) (fun x=>H) ?_ (fun a1 D h=>?_)
 refine Z (O E (V (AN ?_)))
 refine SX.heap (SX.mono (A6 (α:=Nat×UInt64×List UInt8×Int) (fun x=>OV p1 x.1 (x.2.1,x.2.2.1,x.2.2.2)=some r) (fun x=>[(0,Ar x.2.1),(1,vI p1),(5,vS x.2.2.1),(6,vI x.2.2.2)]) (fun x=>H) (fun x=>x.1) (fun x D h=>?_) (n,p0,[],0) h) tL) (BG [] 0 E E E)
 obtain⟨m1,a2,a3,a4⟩:=x
 dsimp only at h
 rcases m1 with _ | m1
 cases (show(none:Option _)=some r from h)
 replace h:Mq p1 (OV p1 m1) a2 a3 a4=some r:=h
 unfold Mq at h
 try dsimp only
 refine AE (Z (J E (J E (Y E Aw (V ?_)))))
 refine AT h E (fun hc1 h=>?_) fun hc1 h=>?_
 refine AI (AG (AE (AN (Z ?_))))
 refine AC h fun s1 hs1 h=>?_
 refine J E (J E (Av E E (HG CR Cn) ?_))
 refine Bz [_] rfl CP KZ LW ⟨rfl,trivial⟩ rfl rfl rfl zW rfl rfl zU fun b1=>?_
 refine B2 GY 1 ([a2.toUInt8]:List UInt8) E zV E ?_
 refine ID 0 E CP Cn Bo E E (Y E (CW hs1) (O E (V (AK ?_))))
 refine AC h fun q1 hq1 h=>?_
 refine J E ?_
 refine Y E (P3 (b:=256) hq1) ?_
 refine O E (AU (Ao (AG (AK ?_))))
 obtain⟨i_1,ei_1,h⟩:=Bp h
 refine J E (Y E Az ?_)
 refine An (u:=vI i_1) E E (congrArg vI ei_1) ?_
 refine AU ?_
 exact Al (m1,q1,s1,i_1) h (Nat.lt_succ_self _) tL (BG [] 1 E E E)
 refine Ax (A3 (BO (A0 ?_)))
 exact Au a3 h tL (BG [] 0 E E E)
 unfold OO at h
 try dsimp only
 refine Z (J E (O E (V (AL ?_))))
 obtain rfl:=zI h
 exact Ab [] 0 E E E
def OM(a1:UInt64):Option UInt64:=
 some a1
def M8(p0:List UInt8)(nx_f_ref10_get_l1:UInt64×Int→Option UInt64)(a2:UInt64)(a3:Int):Option UInt64:=
 cond (decide (0≤a3))
 (
  (Aq p0 a3).bind fun c1=>
  ret ((256*a2)+c1.toUInt64) fun x1=>
  ret (wI (a3-1)) fun i_2=>
  nx_f_ref10_get_l1 (x1,i_2))
 (
  OM a2)
def OX(p0:List UInt8):Nat→(UInt64×Int)→Option UInt64:=By fun nx x=>M8 p0 nx x.1 x.2
def Ew(n:Nat)(p0:List UInt8):Option UInt64:=
 ret (wI ((p0.length:Int)-1)) fun i_1=>
 OX p0 n (0,i_1)
theorem Je{n:Nat}{p0:List UInt8}{r:UInt64}(h:Ew n p0=some r): zC K w0 176 [vS p0] [] H (fun u M=>u=Ar r∧M=[]):=by
 unfold Ew at h
 refine Ua.enter Tryz.func176 rfl rfl ?_
 refine Z (O E (V (Z (O E (V ?_)))))
 refine A5 (α:=UInt64) (fun x=>OM x=some r) (fun x=>[(3,Ar x)]) (fun x=>H) ?_ (fun a1 D h=>?_)
 refine Z ?_
 obtain⟨i_1,ei_1,h⟩:=Bp h
 refine J E (BT E Bo E (Y E B5 ?_))
 refine An (u:=vI i_1) E E (congrArg vI ei_1) ?_
 refine V (AN ?_)
 refine SX.heap (SX.mono (A6 (α:=Nat×UInt64×Int) (fun x=>OX p0 x.1 (x.2.1,x.2.2)=some r) (fun x=>[(0,vS p0),(3,Ar x.2.1),(4,vI x.2.2)]) (fun x=>H) (fun x=>x.1) (fun x D h=>?_) (n,0,i_1) h) tL) (BG [] 0 E E E)
 obtain⟨m1,a2,a3⟩:=x
 dsimp only at h
 rcases m1 with _ | m1
 cases (show(none:Option _)=some r from h)
 replace h:M8 p0 (OX p0 m1) a2 a3=some r:=h
 unfold M8 at h
 try dsimp only
 refine AE (Z (J E (Y E IW (V ?_))))
 refine AT h E (fun hc1 h=>?_) fun hc1 h=>?_
 refine AI (AG (AE (AN (AK ?_))))
 refine AC h fun c1 hc1 h=>?_
 obtain⟨x1,ex1,h⟩:=Bp h
 refine J E ?_
 refine Y E (JS (a:=256)) ?_
 refine J E (J E (Dr hc1 E Bo E E (Av E E (Th Cn CR) (Y E Ie ?_))))
 refine An (u:=Ar x1) E E (congrArg Ar ex1) ?_
 refine AU (Ao (AG (AK ?_)))
 obtain⟨i_2,ei_2,h⟩:=Bp h
 refine J E (Y E B5 ?_)
 refine An (u:=vI i_2) E E (congrArg vI ei_2) ?_
 refine AU ?_
 exact Al (m1,x1,i_2) h (Nat.lt_succ_self _) tL (BG [] 0 E E E)
 refine Ax (A3 (BO (A0 ?_)))
 exact Au a2 h tL (BG [] 0 E E E)
 unfold OM at h
 try dsimp only
 refine Z (J E (O E (V (AL ?_))))
 obtain rfl:=zI h
 exact Ab [] 0 E E E
def JY(a5:List UInt8):Option (List UInt8×Int):=
 some (a5,0)
def EF(n:Nat)(p0:BP)(nx_f_ref10_Encode_l2:List UInt8×Int→Option (List UInt8×Int))(a6:List UInt8)(a7:Int):Option (List UInt8×Int):=
 cond (decide (a7<(p0.rows.length:Int)))
 (
  (Aq p0.rows a7).bind fun x3=>
  (DC n x3.id 8).bind fun y9=>
  (FN a6 y9).bind fun s10=>
  (DC n x3.x.toUInt64 4).bind fun y10=>
  (FN s10 y10).bind fun s11=>
  (DC n x3.y.toUInt64 4).bind fun y11=>
  (FN s11 y11).bind fun s12=>
  (DC n (BX (x3.txt.length:Int)) 1).bind fun y12=>
  (FN s12 y12).bind fun s13=>
  (FN s13 x3.txt).bind fun s14=>
  ret (wI (a7+1)) fun i_2=>
  nx_f_ref10_Encode_l2 (s14,i_2))
 (
  JY a6)
def E0(n:Nat)(p0:BP):Nat→(List UInt8×Int)→Option (List UInt8×Int):=By fun nx x=>EF n p0 nx x.1 x.2
def Fz(n:Nat)(p0:BP)(a4:List UInt8):Option (List UInt8×Int):=
 (DC n (BX (p0.rows.length:Int)) 1).bind fun y7=>
 (FN [1] y7).bind fun s7=>
 (DC n p0.npage.toUInt64 4).bind fun y8=>
 (FN s7 y8).bind fun s8=>
 (FN s8 a4).bind fun s9=>
 E0 n p0 n (s9,0)
def JT(n:Nat)(p0:BP):Option (List UInt8×Int):=
 cond (decide (p0.ntag=[]))
 (
  (VT 1 32 0).bind fun l1=>
  Fz n p0 l1)
 (
  Fz n p0 p0.ntag)
def Jf(a1:List UInt8):Option (List UInt8×Int):=
 some (a1,0)
def ED(n:Nat)(p0:BP)(nx_f_ref10_Encode_l1:List UInt8×Int→Option (List UInt8×Int))(a2:List UInt8)(a3:Int):Option (List UInt8×Int):=
 cond (decide (a3<(p0.kids.length:Int)))
 (
  (Aq p0.kids a3).bind fun x1=>
  (DC n x1.page.toUInt64 4).bind fun y6=>
  (FN a2 y6).bind fun s5=>
  (Aq p0.kids a3).bind fun x2=>
  (FN s5 x2.tag).bind fun s6=>
  ret (wI (a3+1)) fun i_1=>
  nx_f_ref10_Encode_l1 (s6,i_1))
 (
  Jf a2)
def Ez(n:Nat)(p0:BP):Nat→(List UInt8×Int)→Option (List UInt8×Int):=By fun nx x=>ED n p0 nx x.1 x.2
def EK(n:Nat)(p0:BP):Option (List UInt8×Int):=
 (Iz n p0).bind fun y1=>
 cond (!y1)
 (
  some ([],90))
 (
  cond (decide (p0.kind=2))
  (
   (DC n (BX (p0.kids.length:Int)) 1).bind fun y2=>
   (FN [2] y2).bind fun s1=>
   (DC n (BX p0.lev) 1).bind fun y3=>
   (FN s1 y3).bind fun s2=>
   (DC n p0.cx.toUInt64 4).bind fun y4=>
   (FN s2 y4).bind fun s3=>
   (DC n p0.cy.toUInt64 4).bind fun y5=>
   (FN s3 y5).bind fun s4=>
   Ez n p0 n (s4,0))
  (
   JT n p0))
theorem R7{n:Nat}{Fv Fr:Value}{p0:BP}{r:List UInt8×Int}(h:EK n p0=some r)(hs0_4:CD K w0 AJ 4 Fv p0.rows)(hs0_5:CD K w0 Af 2 Fr p0.kids):zC K w0 135 [.agg #[vI p0.kind,AA p0.cx,AA p0.cy,vI p0.lev,Fv,Fr,AA p0.npage,vS p0.ntag]] [] H (fun u M=>u=.tuple #[vS r.1,vI r.2]∧M=[]):=by
 unfold EK at h
 refine Ua.enter Tryz.func135 rfl rfl ?_
 refine Z ?_
 refine Bf E E zU fun b1=>?_
 refine O E (O E (V (Z ?_)))
 refine AC h fun y1 hy1 h=>?_
 refine Ac [vI p0.kind,AA p0.cx,AA p0.cy,vI p0.lev,Fv,Fr,AA p0.npage,vS p0.ntag] E E6 E E (Aa 0 E) (AQ 0 kJ ((SV hy1 hs0_4 hs0_5 :)) E (O E (V (AE (Z (J E (CH E E (V ?_))))))))
 refine AT h E (fun hc1 h=>?_) fun hc1 h=>?_
 refine Z (O E (O E (V (AL (AZ ?_)))))
 obtain rfl:=zI h
 exact Ab [] 1 E E E
 refine AI (AG ?_)
 refine A5 (α:=Unit) (fun x=>JT n p0=some r) (fun x=>[(1,vP b1 0)]) (fun x=>AP b1 (.cells #[vI p0.kind,AA p0.cx,AA p0.cy,vI p0.lev,Fv,Fr,AA p0.npage,vS p0.ntag] 148)::H) ?_ (fun x D h=>?_)
 refine Z (AD E Ph (AF 0 D6 E (Y E CE (V ?_))))
 refine AT h E (fun hc2 h=>?_) fun hc2 h=>?_
 refine AE ?_
 refine AC h fun y2 hy2 h=>?_
 refine AC h fun s1 hs1 h=>?_
 refine AC h fun y3 hy3 h=>?_
 refine AC h fun s2 hs2 h=>?_
 refine AC h fun y4 hy4 h=>?_
 refine AC h fun s3 hs3 h=>?_
 refine AC h fun y5 hy5 h=>?_
 refine AC h fun s4 hs4 h=>?_
 refine Ai CY [0] (Bm [(true,0),(true,1),(true,2),(true,3),(true,6),(true,7),(true,8),(true,9),(true,12),(true,13),(true,14),(true,15),(true,18),(true,19),(true,20),(true,21),(false,4),(true,5),(false,10),(true,11),(false,16),(true,17),(false,22)] (.last 23 (Pl.of [(false,24)]))) zK (AD E Dn (AF 0 Hq E (B3 hs0_5 E E1 E (Av E E (De FY CR) (AD E Gh (AD E Ef (AF 0 D6 E ?_)))))))
 refine Av E E (De FY CR) (AD E Gh (AD E Hi (AF 0 A8 E (Av E E (Cf Bv CR) (AD E Gh (AD E Hl (AF 0 A8 E ?_)))))))
 refine Av E E (Cf Bv CR) (BS 0 M6 (FV hy2) E ⟨⟨0,E⟩,zT⟩ (Y E (CW hs1) (BS 0 M6 (FV hy3) E ⟨⟨0,E⟩,zT⟩ (Y E (CW hs2) (BS 0 M6 (FV hy4) E ⟨⟨0,E⟩,zT⟩ (Y E (CW hs3) (BS 0 M6 (FV hy5) E ⟨⟨0,E⟩,zT⟩ (BK ?_))))))))
 refine Y E (CW hs4) (O E (V ?_))
 refine A5 (α:=List UInt8) (fun x=>Jf x=some r) (fun x=>[(5,vS x)]) (fun x=>H) ?_ (fun a1 D h=>?_)
 refine Z (O E (V (AN ?_)))
 refine SX.heap (SX.mono (A6 (α:=Nat×List UInt8×Int) (fun x=>Ez n p0 x.1 (x.2.1,x.2.2)=some r) (fun x=>[(1,vP b1 0),(5,vS x.2.1),(6,vI x.2.2)]) (fun x=>AP b1 (.cells #[vI p0.kind,AA p0.cx,AA p0.cy,vI p0.lev,Fv,Fr,AA p0.npage,vS p0.ntag] 148)::H) (fun x=>x.1) (fun x D h=>?_) (n,s4,0) h) tL) (BG [0] 1 E E E)
 obtain⟨m1,a2,a3⟩:=x
 dsimp only at h
 rcases m1 with _ | m1
 cases (show(none:Option _)=some r from h)
 replace h:ED n p0 (Ez n p0 m1) a2 a3=some r:=h
 unfold ED at h
 try dsimp only
 refine AE (Z (J E (AD E Dn (AF 0 Hq E (B3 hs0_5 E E1 E (Y E Aw (V ?_)))))))
 refine AT h E (fun hc3 h=>?_) fun hc3 h=>?_
 refine AI (AG (AE (AN ?_)))
 refine AC h fun x1 hx1 h=>?_
 refine AC h fun y6 hy6 h=>?_
 refine AC h fun s5 hs5 h=>?_
 refine AC h fun x2 hx2 h=>?_
 refine AC h fun s6 hs6 h=>?_
 refine Ai CY [0] (Bm [(true,0),(true,1),(true,2),(true,3),(true,4),(true,5),(true,6),(true,7),(true,10),(true,11),(true,12),(true,13),(true,14),(true,15),(false,8),(false,9)] (.last 16 (Pl.of [(false,17)]))) zK (J E (AD E Dn (AF 0 Hq E (J E ?_))))
 refine Cj hx1 hs0_5 E E1 DD E E fun be1 of1 hc4=>?_
 refine AD E KE ?_
 refine Bi E A8 E (DS (j:=0) hc4 E) ?_
 refine Av E E (Cf Bv CR) (AD E Dn (AF 0 Hq E (J E ?_)))
 refine Cj hx2 hs0_5 E E1 DD E E fun be2 of2 hc5=>?_
 refine AD E L8 ?_
 refine Bi E Fm E (DS (j:=1) hc5 E) ?_
 refine BS 0 M6 (FV hy6) E ⟨⟨0,E⟩,zT⟩ (Y E (CW hs5) (BK (Y E (CW hs6) (O E (AU (Ao (AG (AK ?_))))))))
 obtain⟨i_1,ei_1,h⟩:=Bp h
 refine J E (Y E Az ?_)
 refine An (u:=vI i_1) E E (congrArg vI ei_1) ?_
 refine AU ?_
 exact Al (m1,s6,i_1) h (Nat.lt_succ_self _) tL (BG [0] 1 E E E)
 refine Ax (A3 (BO (A0 ?_)))
 exact Au a2 h tL (BG [] 1 E E E)
 unfold Jf at h
 try dsimp only
 refine Z (J E (O E (O E (V (AL (Eg ?_))))))
 obtain rfl:=zI h
 exact Ab [] 0 E E E
 refine AI ?_
 exact Au () h tL (BG [0] 1 E E E)
 unfold JT at h
 try dsimp only
 refine Z (AD E FF (AD E L8 (AF 0 Fm E (O E (V ?_)))))
 refine A5 (α:=List UInt8) (fun x=>Fz n p0 x=some r) (fun x=>[(1,vP b1 0),(7,vS x)]) (fun x=>AP b1 (.cells #[vI p0.kind,AA p0.cx,AA p0.cy,vI p0.lev,Fv,Fr,AA p0.npage,vS p0.ntag] 148)::H) ?_ (fun a4 D h=>?_)
 refine Z (J E (Y E VP (V ?_)))
 refine AT h E (fun hc6 h=>?_) fun hc6 h=>?_
 refine AK ?_
 refine AC h fun l1 hl1 h=>?_
 refine Xx hl1 GY E CP KZ Wx LW E E E E zU fun v1=>?_
 refine ID 0 E CP Cn Bo E E (O E (AU ?_))
 exact Au l1 h tL (BG [1] 2 E E E)
 refine AI ?_
 exact Au p0.ntag h tL (BG [0] 1 E E E)
 unfold Fz at h
 try dsimp only
 refine AE ?_
 refine AC h fun y7 hy7 h=>?_
 refine AC h fun s7 hs7 h=>?_
 refine AC h fun y8 hy8 h=>?_
 refine AC h fun s8 hs8 h=>?_
 refine AC h fun s9 hs9 h=>?_
 refine Ai CY [0] (Bm [(true,0),(true,1),(true,2),(true,3),(true,6),(true,7),(true,8),(true,9),(true,12),(false,4),(true,5),(false,10),(false,11)] (.last 13 (Pl.of [(false,14)]))) zK (AD E Fx (AF 0 FO E (B3 hs0_4 E Bt E (Av E E (De FY CR) (AD E FF (AD E KE (AF 0 A8 E ?_)))))))
 refine Av E E (Cf Bv CR) (J E (BS 0 M6 (FV hy7) E ⟨⟨0,E⟩,zT⟩ (Y E (CW hs7) (BS 0 M6 (FV hy8) E ⟨⟨0,E⟩,zT⟩ (Y E (CW hs8) (BK (Y E (CW hs9) (O E (V ?_)))))))))
 refine A5 (α:=List UInt8) (fun x=>JY x=some r) (fun x=>[(8,vS x)]) (fun x=>H) ?_ (fun a5 D h=>?_)
 refine Z (O E (V (AN ?_)))
 refine SX.heap (SX.mono (A6 (α:=Nat×List UInt8×Int) (fun x=>E0 n p0 x.1 (x.2.1,x.2.2)=some r) (fun x=>[(1,vP b1 0),(8,vS x.2.1),(9,vI x.2.2)]) (fun x=>AP b1 (.cells #[vI p0.kind,AA p0.cx,AA p0.cy,vI p0.lev,Fv,Fr,AA p0.npage,vS p0.ntag] 148)::H) (fun x=>x.1) (fun x D h=>?_) (n,s9,0) h) tL) (BG [0] 1 E E E)
 obtain⟨m2,a6,a7⟩:=x
 dsimp only at h
 rcases m2 with _ | m2
 cases (show(none:Option _)=some r from h)
 replace h:EF n p0 (E0 n p0 m2) a6 a7=some r:=h
 unfold EF at h
 try dsimp only
 refine AE (Z (J E (AD E Fx (AF 0 FO E (B3 hs0_4 E Bt E (Y E Aw (V ?_)))))))
 refine AT h E (fun hc7 h=>?_) fun hc7 h=>?_
 refine AI (AG (AE (AN (Z ?_))))
 refine AC h fun x3 hx3 h=>?_
 refine AD E Fx (AF 0 FO E (J E ?_))
 refine Cj hx3 hs0_4 E Bt B4 E E fun be3 of3 hc8=>?_
 refine Ac (AJ x3) E Ex E E (C7 hc8) ?_
 refine Ag E EN zU fun b2=>?_
 refine Ak 0 E E E E B4 E E E zT (V ?_)
 refine AC h fun y9 hy9 h=>?_
 refine AC h fun s10 hs10 h=>?_
 refine AC h fun y10 hy10 h=>?_
 refine AC h fun s11 hs11 h=>?_
 refine AC h fun y11 hy11 h=>?_
 refine AC h fun s12 hs12 h=>?_
 refine AC h fun y12 hy12 h=>?_
 refine AC h fun s13 hs13 h=>?_
 refine AC h fun s14 hs14 h=>?_
 refine Ai CY [0] (Bm [(true,0),(true,1),(true,2),(true,5),(true,6),(true,7),(true,10),(true,11),(true,12),(true,15),(true,16),(true,17),(true,18),(true,21),(true,22),(false,3),(true,4),(false,8),(true,9),(false,13),(true,14),(false,19),(false,20)] (.last 23 (Pl.of [(false,24)]))) zK (J E (AD E Ny (AF 0 NM E (AD E Iq (AF 0 A8 E (Av E E (Cf Bv CR) (AD E Iu ?_)))))))
 refine AF 0 A8 E (Av E E (Cf Bv CR) (AD E Rr (AF 0 Fm E (BT E Bo E (Av E E (De FY CR) (AD E Rr (AF 0 Fm E ?_)))))))
 refine BS 0 M6 (FV hy9) E ⟨⟨0,E⟩,zT⟩ (Y E (CW hs10) (BS 0 M6 (FV hy10) E ⟨⟨0,E⟩,zT⟩ (Y E (CW hs11) (BS 0 M6 (FV hy11) E ⟨⟨0,E⟩,zT⟩ (Y E (CW hs12) (BS 0 M6 (FV hy12) E ⟨⟨0,E⟩,zT⟩ (Y E (CW hs13) (BK ?_))))))))
 refine Y E (CW hs14) (O E (AU (Ao (AG (AK ?_)))))
 obtain⟨i_2,ei_2,h⟩:=Bp h
 refine J E (Y E Az ?_)
 refine An (u:=vI i_2) E E (congrArg vI ei_2) ?_
 refine AU ?_
 exact Al (m2,s14,i_2) h (Nat.lt_succ_self _) tL (BG [1] 2 E E E)
 refine Ax (A3 (BO (A0 ?_)))
 exact Au a6 h tL (BG [] 1 E E E)
 unfold JY at h
 try dsimp only
 refine Z (J E (O E (O E (V (AL ?_)))))
 obtain rfl:=zI h
 exact Ab [] 0 E E E
def LP(p0:List UInt8)(y1:UInt64)(y2:List UInt8)(y4:Int)(y5:UInt32)(y6:UInt32)(y7:Int)(l2:List AM)(l3:List Ad)(y8:UInt32)(y9:List UInt8)(l4:List AM)(a1:Int):Option (BP×Bool):=
 ret (decide (a1=(p0.length:Int))) fun x2=>
 some ((⟨1,0,0,0,l4,[],y1.toUInt32,y2⟩:BP),x2)
def E3(n:Nat)(p0:List UInt8)(y1:UInt64)(y2:List UInt8)(nx_f_ref10_leaf_l1:Int×UInt32×UInt32×Int×List AM×List Ad×UInt32×List UInt8×List AM×Int×Int→Option (BP×Bool))(y10:Int)(y11:UInt32)(y12:UInt32)(y13:Int)(l5:List AM)(l6:List Ad)(y14:UInt32)(y15:List UInt8)(l7:List AM)(a2:Int)(a3:Int):Option (BP×Bool):=
 (Aq p0 1).bind fun c1=>
 cond (decide (a3<(c1.toNat:Int)))
 (
  cond (decide ((p0.length:Int)<wI (a2+17)))
  (
   some ((⟨1,0,0,0,l7,[],y1.toUInt32,y2⟩:BP),false))
  (
   (Aq p0 (wI (a2+16))).bind fun c2=>
   cond (decide ((p0.length:Int)<wI ((wI (a2+17))+(c2.toNat:Int))))
   (
    some ((⟨1,0,0,0,l7,[],y1.toUInt32,y2⟩:BP),false))
   (
    (Cr p0 a2 (wI (a2+8))).bind fun s3=>
    (Ew n s3).bind fun y16=>
    (Cr p0 (wI (a2+8)) (wI (a2+12))).bind fun s4=>
    (Ew n s4).bind fun y17=>
    (Cr p0 (wI (a2+12)) (wI (a2+16))).bind fun s5=>
    (Ew n s5).bind fun y18=>
    (Cr p0 (wI (a2+17)) (wI ((wI (a2+17))+(c2.toNat:Int)))).bind fun s6=>
    (Ci 32 l7 [(⟨y16,y17.toUInt32,y18.toUInt32,s6⟩:AM)]).bind fun l8=>
    ret (wI ((wI (a2+17))+(c2.toNat:Int))) fun x1=>
    ret (wI (a3+1)) fun i_1=>
    nx_f_ref10_leaf_l1 (y10,y11,y12,y13,l5,l6,y14,y15,l8,x1,i_1))))
 (
  LP p0 y1 y2 y10 y11 y12 y13 l5 l6 y14 y15 l7 a2)
def E7(n:Nat)(p0:List UInt8)(y1:UInt64)(y2:List UInt8):Nat→(Int×UInt32×UInt32×Int×List AM×List Ad×UInt32×List UInt8×List AM×Int×Int)→Option (BP×Bool):=By fun nx x=>E3 n p0 y1 y2 nx x.1 x.2.1 x.2.2.1 x.2.2.2.1 x.2.2.2.2.1 x.2.2.2.2.2.1 x.2.2.2.2.2.2.1 x.2.2.2.2.2.2.2.1 x.2.2.2.2.2.2.2.2.1 x.2.2.2.2.2.2.2.2.2.1 x.2.2.2.2.2.2.2.2.2.2
def FH(n:Nat)(p0:List UInt8)(y1:UInt64)(y2:List UInt8):Option (BP×Bool):=
 E7 n p0 y1 y2 n (0,0,0,0,[],[],0,[],[],38,0)
def GB(n:Nat)(p0:List UInt8):Option (BP×Bool):=
 cond (decide ((p0.length:Int)<38))
 (
  some ((⟨1,0,0,0,[],[],0,[]⟩:BP),false))
 (
  (Cr p0 2 6).bind fun s1=>
  (Ew n s1).bind fun y1=>
  (Cr p0 6 38).bind fun s2=>
  (FQ (decide (y1.toUInt32=0)) ((VT 1 32 0).bind fun l1=>some (decide (s2=l1)))).bind fun y3=>
  cond y3
  (
   FH n p0 y1 [])
  (
   FH n p0 y1 s2))
theorem aW{n:Nat}{p0:List UInt8}{r:BP×Bool}(h:GB n p0=some r): zC K w0 132 [vS p0] [] H (fun u M=>∃Fv Fr:Value,u=.tuple #[.agg #[vI r.1.kind,AA r.1.cx,AA r.1.cy,vI r.1.lev,Fv,Fr,AA r.1.npage,vS r.1.ntag],vB r.2]∧M=[AH 79 4 Fv AJ r.1.rows,AH 31 2 Fr Af r.1.kids]):=by
 unfold GB at h
 refine Ua.enter Tryz.func132 rfl rfl ?_
 refine Z ?_
 refine Ag E Gy zU fun b1=>?_
 refine Bk 79 4 AJ (Bk 31 2 Af (O E (V (Z (BJ [_] E QH QN Gy ⟨E,zT⟩ E ?_)))))
 refine Ag E Gy zU fun b2=>?_
 refine Bk 79 4 AJ (Bk 31 2 Af (Ak 2 E E E E HL E E E zT (Bk 79 4 AJ (Bk 31 2 Af (V (AE (Z (J E (BT E Bo E (Y E Aw (V ?_)))))))))))
 refine AT h E (fun hc1 h=>?_) fun hc1 h=>?_
 refine Z (Ac [vI 1,AA 0,AA 0,vI 0,zN,zN,AA 0,vS []] E E6 E E (Aa 4 E) ?_)
 refine Bq 1 E fun hv1 ho1=>?_
 refine Bq 0 E fun hv2 ho2=>?_
 refine Ak 7 E E E E HL E (by simp only[Value.oneCell']at ho1 ho2;simp[Value.cells,Value.cells,Value.oneCell',ho1,ho2]) E zT (O E (V (AL (AZ ?_))))
 obtain rfl:=zI h
 exact AX (DV E (BB 7 [vI 1,AA 0,AA 0,vI 0,zN,zN,AA 0,vS []] E6 E E E E) E) (AY (M:=[_,_]) ⟨zN,zN,E,E⟩ fun _ hw=>Bc.pick (H:=[_,_,_,_,_,_,_,_]) hw [1,0] 8 E)
 refine AI (AG (AE ?_))
 refine AC h fun s1 hs1 h=>?_
 refine AC h fun y1 hy1 h=>?_
 refine AC h fun s2 hs2 h=>?_
 refine Ai CY [] (Bm [(true,0),(true,1),(true,4),(true,5),(false,2),(true,3),(true,6),(true,7)] (.last 8 .nil)) zK (J E (It hs1 E Bo E E E (J E (It hs2 E Bo E E E (AQ 0 RM (Je hy1) E (Av E E (Cg CR Bv) (BJ [_,_] E Km Kl DX ⟨E,E,zT⟩ E ?_)))))))
 refine AD E FF (BK (Ak 4 E E E E DD E E E zT (V ?_)))
 refine A5 (α:=List UInt8) (fun x=>FH n p0 y1 x=some r) (fun x=>[(0,vS p0),(2,vP b1 0),(4,vP b2 0)]) (fun x=>AP b1 (.cells #[vI 0,AA 0,AA 0,vI 0,zN,zN,AA 0,vS []] 148)::AH 79 4 zN AJ []::AH 31 2 zN Af []::AP b2 (.cells #[vI 1,AA 0,AA 0,vI 0,zN,zN,AA y1.toUInt32,vS x] 148)::AH 79 4 zN AJ []::AH 31 2 zN Af []::H) ?_ (fun y2 D h=>?_)
 refine AE ?_
 refine AC h fun y3 hy3 h=>?_
 refine Ai CY [4] (Pl.of [(true,0),(true,1),(true,2),(true,3),(true,4),(true,5),(true,6),(true,7),(false,8),(false,9),(false,10),(false,11)]) zK (AD E FF (AD E KE (AF 0 A8 E ?_)))
 refine Y E (O1 (b:=0)) ?_
 refine J E ?_
 refine D9 25 7 32 hy3 E (fun hb hg1 k=>?_) (fun hb k=>?_) ?_
 obtain⟨l1,hl1,hg1⟩:=bnd hg1
 obtain rfl:=zI hg1
 refine AD E FF (AD E L8 (AF 0 Fm E ?_))
 refine Xx hl1 GY E CP KZ Wx LW E E E E (fun _=>⟨⟨5,E⟩,zT⟩) fun v1=>?_
 refine ID 0 E CP Cn Bo E E (Y E VP (Ae E E E ?_))
 exact SL.mono (SL.heap k fun _ hw=>Bc.pick (H:=[_,_,_,_,_,_,_,_,_]) hw [1,2,3,4,5,6,7,8] 9 E) tL
 refine AB E (AB E (AB E (AB E (AB E (AB E (Ae E E E ?_))))))
 exact k.mono tL
 refine V ?_
 refine AT h E (fun hc2 h=>?_) fun hc2 h=>?_
 refine AK (AD E FF (AD E L8 (Ak 4 E E E E Hp E E E zT (AU ?_))))
 exact Au [] h tL (BG [7,6,5,4,1,0] 8 E E E)
 refine AI ?_
 exact Au s2 h tL (BG [7,6,5,4,1,0] 8 E E E)
 unfold FH at h
 try dsimp only
 refine Z (O E (V ?_))
 refine A5 (α:=Int×UInt32×UInt32×Int×List AM×Value×List Ad×Value×UInt32×List UInt8×List AM×Value×Int) (fun x=>LP p0 y1 y2 x.1 x.2.1 x.2.2.1 x.2.2.2.1 x.2.2.2.2.1 x.2.2.2.2.2.2.1 x.2.2.2.2.2.2.2.2.1 x.2.2.2.2.2.2.2.2.2.1 x.2.2.2.2.2.2.2.2.2.2.1 x.2.2.2.2.2.2.2.2.2.2.2.2=some r) (fun x=>[(0,vS p0),(2,vP b1 0),(4,vP b2 0),(5,vI x.2.2.2.2.2.2.2.2.2.2.2.2)]) (fun x=>AP b1 (.cells #[vI x.1,AA x.2.1,AA x.2.2.1,vI x.2.2.2.1,x.2.2.2.2.2.1,x.2.2.2.2.2.2.2.1,AA x.2.2.2.2.2.2.2.2.1,vS x.2.2.2.2.2.2.2.2.2.1] 148)::AH 79 4 x.2.2.2.2.2.1 AJ x.2.2.2.2.1::AH 31 2 x.2.2.2.2.2.2.2.1 Af x.2.2.2.2.2.2.1::AP b2 (.cells #[vI 1,AA 0,AA 0,vI 0,x.2.2.2.2.2.2.2.2.2.2.2.1,zN,AA y1.toUInt32,vS y2] 148)::AH 79 4 x.2.2.2.2.2.2.2.2.2.2.2.1 AJ x.2.2.2.2.2.2.2.2.2.2.1::AH 31 2 zN Af []::H) ?_ (fun x D h=>?_)
 refine Z (O E (V (AN ?_)))
 refine SX.heap (SX.mono (A6 (α:=Nat×Int×UInt32×UInt32×Int×List AM×Value×List Ad×Value×UInt32×List UInt8×List AM×Value×Int×Int) (fun x=>E7 n p0 y1 y2 x.1 (x.2.1,x.2.2.1,x.2.2.2.1,x.2.2.2.2.1,x.2.2.2.2.2.1,x.2.2.2.2.2.2.2.1,x.2.2.2.2.2.2.2.2.2.1,x.2.2.2.2.2.2.2.2.2.2.1,x.2.2.2.2.2.2.2.2.2.2.2.1,x.2.2.2.2.2.2.2.2.2.2.2.2.2.1,x.2.2.2.2.2.2.2.2.2.2.2.2.2.2)=some r) (fun x=>[(0,vS p0),(2,vP b1 0),(4,vP b2 0),(5,vI x.2.2.2.2.2.2.2.2.2.2.2.2.2.1),(6,vI x.2.2.2.2.2.2.2.2.2.2.2.2.2.2)]) (fun x=>AP b1 (.cells #[vI x.2.1,AA x.2.2.1,AA x.2.2.2.1,vI x.2.2.2.2.1,x.2.2.2.2.2.2.1,x.2.2.2.2.2.2.2.2.1,AA x.2.2.2.2.2.2.2.2.2.1,vS x.2.2.2.2.2.2.2.2.2.2.1] 148)::AH 79 4 x.2.2.2.2.2.2.1 AJ x.2.2.2.2.2.1::AH 31 2 x.2.2.2.2.2.2.2.2.1 Af x.2.2.2.2.2.2.2.1::AP b2 (.cells #[vI 1,AA 0,AA 0,vI 0,x.2.2.2.2.2.2.2.2.2.2.2.2.1,zN,AA y1.toUInt32,vS y2] 148)::AH 79 4 x.2.2.2.2.2.2.2.2.2.2.2.2.1 AJ x.2.2.2.2.2.2.2.2.2.2.2.1::AH 31 2 zN Af []::H) (fun x=>x.1) (fun x D h=>?_) (n,0,0,0,0,[],zN,[],zN,0,[],[],zN,38,0) h) tL) (BG [0,1,2,3,4,5] 6 E E E)
 obtain⟨m1,y10,y11,y12,y13,l5,v5,l6,v6,y14,y15,l7,v7,a2,a3⟩:=x
 dsimp only at h
 rcases m1 with _ | m1
 cases (show(none:Option _)=some r from h)
 replace h:E3 n p0 y1 y2 (E7 n p0 y1 y2 m1) y10 y11 y12 y13 l5 l6 y14 y15 l7 a2 a3=some r:=h
 unfold E3 at h
 try dsimp only
 refine AE (Z ?_)
 refine AC h fun c1 hc1 h=>?_
 refine J E (J E (Dr hc1 E Bo E E (Av E E (Mx Cn FY) (Y E Aw (V ?_)))))
 refine AT h E (fun hc3 h=>?_) fun hc3 h=>?_
 refine AI (AG (AE (AN (AE (Z (J E (BT E Bo E (J E (Y E Az (Y E Aw (V ?_)))))))))))
 refine AT h E (fun hc4 h=>?_) fun hc4 h=>?_
 refine Z (Ac [vI 1,AA 0,AA 0,vI 0,v7,zN,AA y1.toUInt32,vS y2] E E6 E E (Aa 3 E) ?_)
 refine Bq 4 E fun hv3 ho3=>?_
 refine Bq 5 E fun hv4 ho4=>?_
 refine Ak 0 E E E E HL E (by simp only[Value.oneCell']at ho3 ho4;simp[Value.cells,Value.cells,Value.oneCell',ho3,ho4]) E zT (O E (V (AL (AZ (Ba (AZ (Dq (Ba (Eg ?_)))))))))
 obtain rfl:=zI h
 exact AX (DV E (BB 0 [vI 1,AA 0,AA 0,vI 0,v7,zN,AA y1.toUInt32,vS y2] E6 E E E E) E) (AY (M:=[_,_]) ⟨v7,zN,E,E⟩ fun _ hw=>Bc.pick (H:=[_,_,_,_,_,_]) hw [4,5] 6 E)
 refine AI (AG (Z ?_))
 refine AC h fun c2 hc2 h=>?_
 refine J E (J E (Y E Az (Dr hc2 E Bo E E (Av E E (Mx Cn FY) (O E (V (AE (Z (J E (BT E Bo E ?_))))))))))
 refine J E (Y E Az (J E (Y E Az (Y E Aw (V ?_)))))
 refine AT h E (fun hc5 h=>?_) fun hc5 h=>?_
 refine Z (Ac [vI 1,AA 0,AA 0,vI 0,v7,zN,AA y1.toUInt32,vS y2] E E6 E E (Aa 3 E) ?_)
 refine Bq 4 E fun hv5 ho5=>?_
 refine Bq 5 E fun hv6 ho6=>?_
 refine Ak 0 E E E E HL E (by simp only[Value.oneCell']at ho5 ho6;simp[Value.cells,Value.cells,Value.oneCell',ho5,ho6]) E zT (O E (V (AL (AZ (Ba (AZ (Dq (Ba (Eg ?_)))))))))
 obtain rfl:=zI h
 exact AX (DV E (BB 0 [vI 1,AA 0,AA 0,vI 0,v7,zN,AA y1.toUInt32,vS y2] E6 E E E E) E) (AY (M:=[_,_]) ⟨v7,zN,E,E⟩ fun _ hw=>Bc.pick (H:=[_,_,_,_,_,_]) hw [4,5] 6 E)
 refine AI (AG (AE ?_))
 refine AC h fun s3 hs3 h=>?_
 refine AC h fun y16 hy16 h=>?_
 refine AC h fun s4 hs4 h=>?_
 refine AC h fun y17 hy17 h=>?_
 refine AC h fun s5 hs5 h=>?_
 refine AC h fun y18 hy18 h=>?_
 refine AC h fun s6 hs6 h=>?_
 refine AC h fun l8 hl8 h=>?_
 refine Ai CY [3] (Bm [(true,0),(true,1),(true,2),(true,3),(true,4),(true,5),(true,6),(true,8),(true,9),(true,10),(true,11),(true,12),(true,13),(true,16),(true,17),(true,18),(true,19),(true,20),(true,21),(true,24),(true,25),(true,26),(true,27),(true,28),(true,29),(true,30),(true,31),(false,7),(false,14),(true,15),(false,22),(true,23),(true,32),(false,33),(false,34),(true,35)] (.last 36 .nil)) zK (AD E Fx (AF 0 FO E (J E (J E (J E (Y E Az (It hs3 E Bo E E E ?_)))))))
 refine J E (J E (Y E Az (J E (Y E Az (It hs4 E Bo E E E (J E (J E ?_)))))))
 refine Y E Az (J E (Y E Az (It hs5 E Bo E E E (J E (J E (Y E Az (J E ?_)))))))
 refine Y E Az (J E (Y E Az (It hs6 E Bo E E E (BS 0 RM (Je hy16) E ⟨⟨3,E⟩,zT⟩ (BS 0 RM (Je hy17) E ⟨⟨3,E⟩,zT⟩ (Av E E (Cg CR Bv) (BS 0 RM (Je hy18) E ⟨⟨3,E⟩,zT⟩ ?_)))))))
 refine Av E E (Cg CR Bv) (BJ [_,_,_,_] E Sy TG EN ⟨E,E,E,E,zT⟩ E ?_)
 refine Bz [_] rfl Bt B4 EN ⟨rfl,trivial⟩ rfl rfl rfl zW rfl rfl (fun _=>⟨⟨4,rfl⟩,trivial⟩) fun b3=>?_
 refine B2 AJ 4 ([(⟨y16,y17.toUInt32,y18.toUInt32,s6⟩:AM)]:List AM) E zV E ?_
 refine CQ 5 hl8 (sz:=4) (enc:=AJ) zV E Bt B4 PM EN E zD E E E E (Bs (sz:=4) (enc:=AJ) 0 zV E) (by simp[AJ,Value.oneCell']) (fun _=>⟨⟨4,E⟩,zT⟩) fun v8=>?_
 refine AD E Fx (BK ?_)
 refine Bq 5 E fun hv7 ho7=>?_
 refine Dk 4 E E E E LS hv7 ho7 E zT (V (AK ?_))
 obtain⟨x1,ex1,h⟩:=Bp h
 refine J E (Y E Az (J E (Y E Az ?_)))
 refine An (u:=vI x1) E E (congrArg vI ex1) ?_
 refine AU (Ao (AG (AK ?_)))
 obtain⟨i_1,ei_1,h⟩:=Bp h
 refine J E (Y E Az ?_)
 refine An (u:=vI i_1) E E (congrArg vI ei_1) ?_
 refine AU ?_
 exact Al (m1,y10,y11,y12,y13,l5,v5,l6,v6,y14,y15,l8,v8,x1,i_1) h (Nat.lt_succ_self _) tL (BG [1,2,3,4,5,6] 7 E E E)
 refine Ax (A3 (BO (A0 ?_)))
 exact Au (y10,y11,y12,y13,l5,v5,l6,v6,y14,y15,l7,v7,a2) h tL (BG [0,1,2,3,4,5] 6 E E E)
 obtain⟨y4,y5,y6,y7,l2,v2,l3,v3,y8,y9,l4,v4,a1⟩:=x
 dsimp only at h
 unfold LP at h
 try dsimp only
 refine Z ?_
 obtain⟨x2,ex2,h⟩:=Bp h
 refine Ac [vI 1,AA 0,AA 0,vI 0,v4,zN,AA y1.toUInt32,vS y2] E E6 E E (Aa 3 E) (J E (J E (BT E Bo E (Y E CE ?_))))
 refine Bq 4 E fun hv8 ho8=>?_
 refine Bq 5 E fun hv9 ho9=>?_
 refine Ak 0 E E E E HL E (by simp only[Value.oneCell']at ho8 ho9;simp[Value.cells,Value.cells,Value.oneCell',ho8,ho9]) E zT ?_
 refine An (u:=vB x2) E E (congrArg vB ex2) ?_
 refine V (AL ?_)
 obtain rfl:=zI h
 exact AX (DV E (BB 0 [vI 1,AA 0,AA 0,vI 0,v4,zN,AA y1.toUInt32,vS y2] E6 E E E E) E) (AY (M:=[_,_]) ⟨v4,zN,E,E⟩ fun _ hw=>Bc.pick (H:=[_,_,_,_,_,_]) hw [4,5] 6 E)
def KI(y2:UInt64)(y3:UInt64)(c2:UInt8)(l1:List Ad):Option (BP×Bool):=
 some ((⟨2,y2.toUInt32,y3.toUInt32,(c2.toNat:Int),[],l1,0,[]⟩:BP),true)
def Ed(n:Nat)(p0:List UInt8)(y2:UInt64)(y3:UInt64)(c2:UInt8)(nx_f_ref10_inner_l1:List Ad×Int→Option (BP×Bool))(l2:List Ad)(a1:Int):Option (BP×Bool):=
 cond (decide (a1<(p0.length:Int)))
 (
  (Cr p0 a1 (wI (a1+4))).bind fun s3=>
  (Ew n s3).bind fun y4=>
  (Cr p0 (wI (a1+4)) (wI (a1+36))).bind fun s4=>
  (Ci 24 l2 [(⟨y4.toUInt32,s4⟩:Ad)]).bind fun l3=>
  ret (wI (a1+36)) fun x1=>
  nx_f_ref10_inner_l1 (l3,x1))
 (
  KI y2 y3 c2 l2)
def Ee(n:Nat)(p0:List UInt8)(y2:UInt64)(y3:UInt64)(c2:UInt8):Nat→(List Ad×Int)→Option (BP×Bool):=By fun nx x=>Ed n p0 y2 y3 c2 nx x.1 x.2
def GJ(n:Nat)(p0:List UInt8):Option (BP×Bool):=
 (Nn (decide ((p0.length:Int)<11)) ((Aq p0 1).bind fun c1=>some (!decide ((p0.length:Int)=wI (11+(wI (36*(c1.toNat:Int)))))))).bind fun y1=>
 cond y1
 (
  some ((⟨2,0,0,0,[],[],0,[]⟩:BP),false))
 (
  (Cr p0 3 7).bind fun s1=>
  (Ew n s1).bind fun y2=>
  (Cr p0 7 11).bind fun s2=>
  (Ew n s2).bind fun y3=>
  (Aq p0 2).bind fun c2=>
  Ee n p0 y2 y3 c2 n ([],11))
theorem Y5{n:Nat}{p0:List UInt8}{r:BP×Bool}(h:GJ n p0=some r): zC K w0 133 [vS p0] [] H (fun u M=>∃Fv Fr:Value,u=.tuple #[.agg #[vI r.1.kind,AA r.1.cx,AA r.1.cy,vI r.1.lev,Fv,Fr,AA r.1.npage,vS r.1.ntag],vB r.2]∧M=[AH 79 4 Fv AJ r.1.rows,AH 31 2 Fr Af r.1.kids]):=by
 unfold GJ at h
 refine Ua.enter Tryz.func133 rfl rfl ?_
 refine Z ?_
 refine Ag E Gy zU fun b1=>?_
 refine Bk 79 4 AJ (Bk 31 2 Af (O E (V (Z (BJ [_] E QH QN Gy ⟨E,zT⟩ E ?_)))))
 refine Ag E Gy zU fun b2=>?_
 refine Bk 79 4 AJ (Bk 31 2 Af (Ak 2 E E E E HL E E E zT (Bk 79 4 AJ (Bk 31 2 Af (V (AE (Z ?_)))))))
 refine AC h fun y1 hy1 h=>?_
 refine J E (BT E Bo E (Y E Aw (J E ?_)))
 refine KM 10 9 19 hy1 E (fun hb k=>?_) (fun hb hg1 k=>?_) ?_
 refine AB E (AB E (AB E (AB E (AB E (AB E (AB E (AB E ?_)))))))
 refine Ae E E E ?_
 exact k.mono tL
 obtain⟨c1,hc1,hg1⟩:=bnd hg1
 obtain rfl:=zI hg1
 refine J E (BT E Bo E (J E (Dr hc1 E Bo E E (Av E E (Mx Cn FY) (Y E I4 (Y E Az (Y E Bb ?_)))))))
 refine Ae E E E ?_
 exact k.mono tL
 refine V ?_
 refine AT h E (fun hc1 h=>?_) fun hc1 h=>?_
 refine Z (Ac [vI 2,AA 0,AA 0,vI 0,zN,zN,AA 0,vS []] E E6 E E (Aa 4 E) ?_)
 refine Bq 1 E fun hv1 ho1=>?_
 refine Bq 0 E fun hv2 ho2=>?_
 refine Ak 7 E E E E HL E (by simp only[Value.oneCell']at ho1 ho2;simp[Value.cells,Value.cells,Value.oneCell',ho1,ho2]) E zT (O E (V (AL (AZ ?_))))
 obtain rfl:=zI h
 exact AX (DV E (BB 7 [vI 2,AA 0,AA 0,vI 0,zN,zN,AA 0,vS []] E6 E E E E) E) (AY (M:=[_,_]) ⟨zN,zN,E,E⟩ fun _ hw=>Bc.pick (H:=[_,_,_,_,_,_,_,_]) hw [1,0] 8 E)
 refine AI (AG (AE ?_))
 refine AC h fun s1 hs1 h=>?_
 refine AC h fun y2 hy2 h=>?_
 refine AC h fun s2 hs2 h=>?_
 refine AC h fun y3 hy3 h=>?_
 refine AC h fun c2 hc2 h=>?_
 refine Ai CY [] (Bm [(true,0),(true,1),(true,4),(true,5),(true,8),(true,9),(true,10),(false,2),(true,3),(false,6),(true,7),(true,11),(true,12)] (.last 13 .nil)) zK (J E (It hs1 E Bo E E E (J E (It hs2 E Bo E E E (J E (Dr hc2 E Bo E E (Av E E (Mx Cn FY) ?_)))))))
 refine AQ 0 RM (Je hy2) E (Av E E (Cg CR Bv) (AQ 0 RM (Je hy3) E (Av E E (Cg CR Bv) (BJ [_,_,_] E Qz Ql KN ⟨E,E,E,zT⟩ E (AD E Gh (BK (Ak 4 E E E E OZ E E E zT (V ?_))))))))
 refine A5 (α:=List Ad×Value) (fun x=>KI y2 y3 c2 x.1=some r) (fun x=>[(2,vP b1 0),(4,vP b2 0)]) (fun x=>AP b1 (.cells #[vI 0,AA 0,AA 0,vI 0,zN,zN,AA 0,vS []] 148)::AH 79 4 zN AJ []::AH 31 2 zN Af []::AP b2 (.cells #[vI 2,AA y2.toUInt32,AA y3.toUInt32,vI (c2.toNat:Int),zN,x.2,AA 0,vS []] 148)::AH 79 4 zN AJ []::AH 31 2 x.2 Af x.1::H) ?_ (fun x D h=>?_)
 refine Z (O E (V (AN ?_)))
 refine SX.heap (SX.mono (A6 (α:=Nat×List Ad×Value×Int) (fun x=>Ee n p0 y2 y3 c2 x.1 (x.2.1,x.2.2.2)=some r) (fun x=>[(0,vS p0),(2,vP b1 0),(4,vP b2 0),(5,vI x.2.2.2)]) (fun x=>AP b1 (.cells #[vI 0,AA 0,AA 0,vI 0,zN,zN,AA 0,vS []] 148)::AH 79 4 zN AJ []::AH 31 2 zN Af []::AP b2 (.cells #[vI 2,AA y2.toUInt32,AA y3.toUInt32,vI (c2.toNat:Int),zN,x.2.2.1,AA 0,vS []] 148)::AH 79 4 zN AJ []::AH 31 2 x.2.2.1 Af x.2.1::H) (fun x=>x.1) (fun x D h=>?_) (n,[],zN,11) h) tL) (BG [7,6,5,4,1,0] 8 E E E)
 obtain⟨m1,l2,v2,a1⟩:=x
 dsimp only at h
 rcases m1 with _ | m1
 cases (show(none:Option _)=some r from h)
 replace h:Ed n p0 y2 y3 c2 (Ee n p0 y2 y3 c2 m1) l2 a1=some r:=h
 unfold Ed at h
 try dsimp only
 refine AE (Z (J E (J E (BT E Bo E (Y E Aw (V ?_))))))
 refine AT h E (fun hc2 h=>?_) fun hc2 h=>?_
 refine AI (AG (AE (AN ?_)))
 refine AC h fun s3 hs3 h=>?_
 refine AC h fun y4 hy4 h=>?_
 refine AC h fun s4 hs4 h=>?_
 refine AC h fun l3 hl3 h=>?_
 refine Ai CY [3] (Bm [(true,0),(true,1),(true,2),(true,3),(true,4),(true,5),(true,6),(true,9),(true,10),(true,11),(true,12),(true,13),(true,14),(false,7),(true,8),(true,15),(false,16),(false,17),(true,18)] (.last 19 .nil)) zK (AD E Dn (AF 0 Hq E (J E (J E (J E (Y E Az (It hs3 E Bo E E E ?_)))))))
 refine J E (J E (Y E Az (J E (Y E Az (It hs4 E Bo E E E (BS 0 RM (Je hy4) E ⟨⟨3,E⟩,zT⟩ (Av E E (Cg CR Bv) ?_)))))))
 refine BJ [_,_] E Km Kl DX ⟨E,E,zT⟩ E ?_
 refine Bz [_] rfl E1 DD DX ⟨rfl,trivial⟩ rfl rfl rfl zW rfl rfl (fun _=>⟨⟨4,rfl⟩,trivial⟩) fun b3=>?_
 refine B2 Af 2 ([(⟨y4.toUInt32,s4⟩:Ad)]:List Ad) E zV E ?_
 refine CQ 6 hl3 (sz:=2) (enc:=Af) zV E E1 DD gH DX E zD E E E E (Bs (sz:=2) (enc:=Af) 0 zV E) (by simp[Af,Value.oneCell']) (fun _=>⟨⟨4,E⟩,zT⟩) fun v3=>?_
 refine AD E Dn (BK ?_)
 refine Bq 6 E fun hv3 ho3=>?_
 refine Dk 4 E E E E dC hv3 ho3 E zT (AU (Ao (AG (AK ?_))))
 obtain⟨x1,ex1,h⟩:=Bp h
 refine J E (Y E Az ?_)
 refine An (u:=vI x1) E E (congrArg vI ex1) ?_
 refine AU ?_
 exact Al (m1,l3,v3,x1) h (Nat.lt_succ_self _) tL (BG [1,2,3,4,5,6] 7 E E E)
 refine Ax (A3 (BO (A0 ?_)))
 exact Au (l2,v2) h tL (BG [0,1,2,3,4,5] 6 E E E)
 obtain⟨l1,v1⟩:=x
 dsimp only at h
 unfold KI at h
 try dsimp only
 refine Z (Ac [vI 2,AA y2.toUInt32,AA y3.toUInt32,vI (c2.toNat:Int),zN,v1,AA 0,vS []] E E6 E E (Aa 3 E) ?_)
 refine Bq 4 E fun hv4 ho4=>?_
 refine Bq 5 E fun hv5 ho5=>?_
 refine Ak 0 E E E E HL E (by simp only[Value.oneCell']at ho4 ho5;simp[Value.cells,Value.cells,Value.oneCell',ho4,ho5]) E zT (O E (V (AL ?_)))
 obtain rfl:=zI h
 exact AX (DV E (BB 0 [vI 2,AA y2.toUInt32,AA y3.toUInt32,vI (c2.toNat:Int),zN,v1,AA 0,vS []] E6 E E E E) E) (AY (M:=[_,_]) ⟨zN,v1,E,E⟩ fun _ hw=>Bc.pick (H:=[_,_,_,_,_,_]) hw [4,5] 6 E)
def Cl(n:Nat)(y1:Int)(y2:UInt32)(y3:UInt32)(y4:Int)(l1:List AM)(l2:List Ad)(y5:UInt32)(y6:List UInt8)(a1:Bool):Option (BP×Int):=
 (Iz n (⟨y1,y2,y3,y4,l1,l2,y5,y6⟩:BP)).bind fun y11=>
 cond ((!a1)||(!y11))
 (
  some ((⟨0,0,0,0,[],[],0,[]⟩:BP),90))
 (
  some ((⟨y1,y2,y3,y4,l1,l2,y5,y6⟩:BP),0))
def Fj(n:Nat)(p0:List UInt8):Option (BP×Int):=
 (FQ (decide (0<(p0.length:Int))) ((Aq p0 0).bind fun c1=>some (decide (c1=1)))).bind fun y7=>
 cond y7
 (
  (GB n p0).bind fun y8=>
  Cl n y8.1.kind y8.1.cx y8.1.cy y8.1.lev y8.1.rows y8.1.kids y8.1.npage y8.1.ntag y8.2)
 (
  (FQ (decide (0<(p0.length:Int))) ((Aq p0 0).bind fun c2=>some (decide (c2=2)))).bind fun y9=>
  cond y9
  (
   (GJ n p0).bind fun y10=>
   Cl n y10.1.kind y10.1.cx y10.1.cy y10.1.lev y10.1.rows y10.1.kids y10.1.npage y10.1.ntag y10.2)
  (
   Cl n 0 0 0 0 [] [] 0 [] false))
theorem Xj{n:Nat}{p0:List UInt8}{r:BP×Int}(h:Fj n p0=some r): zC K w0 88 [vS p0] [] H (fun u M=>∃Fv Fr:Value,u=.tuple #[.agg #[vI r.1.kind,AA r.1.cx,AA r.1.cy,vI r.1.lev,Fv,Fr,AA r.1.npage,vS r.1.ntag],vI r.2]∧M=[AH 79 4 Fv AJ r.1.rows,AH 31 2 Fr Af r.1.kids]):=by
 unfold Fj at h
 refine Ua.enter Tryz.func88 rfl rfl ?_
 refine Z ?_
 refine Ag E Gy zU fun b1=>?_
 refine Bk 79 4 AJ (Bk 31 2 Af (O E (V (Z (BJ [] E QH QN Gy zT E ?_)))))
 refine Ag E Gy zU fun b2=>?_
 refine Bk 79 4 AJ (Bk 31 2 Af (Ak 2 E E E E HL E E E zT (Bk 79 4 AJ (Bk 31 2 Af (V (Z (O E (V ?_))))))))
 refine A5 (α:=Int×UInt32×UInt32×Int×List AM×Value×List Ad×Value×UInt32×List UInt8×Bool) (fun x=>Cl n x.1 x.2.1 x.2.2.1 x.2.2.2.1 x.2.2.2.2.1 x.2.2.2.2.2.2.1 x.2.2.2.2.2.2.2.2.1 x.2.2.2.2.2.2.2.2.2.1 x.2.2.2.2.2.2.2.2.2.2=some r) (fun x=>[(2,vP b1 0),(4,vP b2 0),(5,vB x.2.2.2.2.2.2.2.2.2.2)]) (fun x=>AP b1 (.cells #[vI 0,AA 0,AA 0,vI 0,zN,zN,AA 0,vS []] 148)::AH 79 4 zN AJ []::AH 31 2 zN Af []::AP b2 (.cells #[vI x.1,AA x.2.1,AA x.2.2.1,vI x.2.2.2.1,x.2.2.2.2.2.1,x.2.2.2.2.2.2.2.1,AA x.2.2.2.2.2.2.2.2.1,vS x.2.2.2.2.2.2.2.2.2.1] 148)::AH 79 4 x.2.2.2.2.2.1 AJ x.2.2.2.2.1::AH 31 2 x.2.2.2.2.2.2.2.1 Af x.2.2.2.2.2.2.1::H) ?_ (fun x D h=>?_)
 refine Z ?_
 refine AC h fun y7 hy7 h=>?_
 refine J E (BT E Bo E (Y E Ca (J E ?_)))
 refine D9 11 4 15 hy7 E (fun hb hg1 k=>?_) (fun hb k=>?_) ?_
 obtain⟨c1,hc1,hg1⟩:=bnd hg1
 obtain rfl:=zI hg1
 refine J E (Dr hc1 E Bo E E ?_)
 refine Y E (N5 (b:=1)) ?_
 refine Ae E E E ?_
 exact k.mono tL
 refine AB E (AB E (AB E (Ae E E E ?_)))
 exact k.mono tL
 refine V ?_
 refine AT h E (fun hc1 h=>?_) fun hc1 h=>?_
 refine AK ?_
 refine AC h fun y8 hy8 h=>?_
 refine J E (Bn 0 qb (aW hy8) E ?_)
 rintro _ _ ⟨v3,v4,rfl,rfl⟩
 refine J E (Am E E E (Am E E E ?_))
 refine Bq 0 E fun hv1 ho1=>?_
 refine Bq 1 E fun hv2 ho2=>?_
 refine Ak 6 E E E E HL E (by simp only[Value.oneCell']at ho1 ho2;simp[Value.cells,Value.cells,Value.oneCell',ho1,ho2]) E zT (O E (AU ?_))
 exact Au (y8.1.kind,y8.1.cx,y8.1.cy,y8.1.lev,y8.1.rows,v3,y8.1.kids,v4,y8.1.npage,y8.1.ntag,y8.2) h tL (BG [9,8,7,6,0,1] 10 E E E)
 refine Z ?_
 refine AC h fun y9 hy9 h=>?_
 refine J E (BT E Bo E (Y E Ca (J E ?_)))
 refine D9 24 4 28 hy9 E (fun hb hg2 k=>?_) (fun hb k=>?_) ?_
 obtain⟨c2,hc2,hg2⟩:=bnd hg2
 obtain rfl:=zI hg2
 refine J E (Dr hc2 E Bo E E ?_)
 refine Y E (N5 (b:=2)) ?_
 refine Ae E E E ?_
 exact k.mono tL
 refine AB E (AB E (AB E (Ae E E E ?_)))
 exact k.mono tL
 refine V ?_
 refine AT h E (fun hc2 h=>?_) fun hc2 h=>?_
 refine AK ?_
 refine AC h fun y10 hy10 h=>?_
 refine J E (Bn 0 sV (Y5 hy10) E ?_)
 rintro _ _ ⟨v5,v6,rfl,rfl⟩
 refine J E (Am E E E (Am E E E ?_))
 refine Bq 0 E fun hv3 ho3=>?_
 refine Bq 1 E fun hv4 ho4=>?_
 refine Ak 6 E E E E HL E (by simp only[Value.oneCell']at ho3 ho4;simp[Value.cells,Value.cells,Value.oneCell',ho3,ho4]) E zT (O E (AU ?_))
 exact Au (y10.1.kind,y10.1.cx,y10.1.cy,y10.1.lev,y10.1.rows,v5,y10.1.kids,v6,y10.1.npage,y10.1.ntag,y10.2) h tL (BG [9,8,7,6,0,1] 10 E E E)
 refine AI ?_
 exact Au (0,0,0,0,[],zN,[],zN,0,[],false) h tL (BG [7,6,5,4,1,0] 8 E E E)
 obtain⟨y1,y2,y3,y4,l1,v1,l2,v2,y5,y6,a1⟩:=x
 dsimp only at h
 unfold Cl at h
 try dsimp only
 refine Z ?_
 refine AC h fun y11 hy11 h=>?_
 refine Ac [vI y1,AA y2,AA y3,vI y4,v1,v2,AA y5,vS y6] E E6 E E (Aa 3 E) (SL.pick [4,5,0,1,2,3] 6 ?_)
 refine Bg (vs:=[_]) (Hin:=[_,_]) (Hr:=_::_::_::_::_) E E ⟨E,zT⟩ kJ E E (CV (B:=[_,_]) (Hin:=[]) fun K' w1 hk hB=>(SV hy11 (B7 (e:=79) (v:=v1) zV (hB _ zS)) (B7 (e:=31) (v:=v2) zV (hB _ zS)) :)) ?_
 rintro _ _ ⟨_,rfl,rfl,rfl⟩
 refine⟨trivial,?_⟩
 refine O E (V (AE (Z (J E (CH E E (J E ?_))))))
 refine C9 (c := !y11) 38 3 41 E (fun hb k=>?_) (fun hb k=>?_) ?_
 refine AB E (AB E (Ae E E E ?_))
 exact k.mono tL
 refine J E (CH E E (Ae E E E ?_))
 exact k.mono tL
 refine V ?_
 refine AT h E (fun hc3 h=>?_) fun hc3 h=>?_
 refine Z (BJ [] E QH QN Gy zT E (Ak 2 E E E E HL E E E zT (Bk 79 4 AJ (Bk 31 2 Af (O E (V (AL (AZ ?_))))))))
 obtain rfl:=zI h
 exact AX (DV E (BB 4 [vI 0,AA 0,AA 0,vI 0,zN,zN,AA 0,vS []] E6 E E E E) E) (AY (M:=[_,_]) ⟨zN,zN,E,E⟩ fun _ hw=>Bc.pick (H:=[_,_,_,_,_,_,_,_]) hw [1,0] 8 E)
 refine AI (AG (Z (Ac [vI y1,AA y2,AA y3,vI y4,v1,v2,AA y5,vS y6] E E6 E E (Aa 5 E) ?_)))
 refine Bq 0 E fun hv5 ho5=>?_
 refine Bq 1 E fun hv6 ho6=>?_
 refine Ak 2 E E E E HL E (by simp only[Value.oneCell']at ho5 ho6;simp[Value.cells,Value.cells,Value.oneCell',ho5,ho6]) E zT (O E (V (AL ?_)))
 obtain rfl:=zI h
 exact AX (DV E (BB 2 [vI y1,AA y2,AA y3,vI y4,v1,v2,AA y5,vS y6] E6 E E E E) E) (AY (M:=[_,_]) ⟨v1,v2,E,E⟩ fun _ hw=>Bc.pick (H:=[_,_,_,_,_,_]) hw [0,1] 6 E)
end

section
variable {K:Nat→Prop}{w0:World}{H:List AW}
theorem il(b:Nat)(p v:Value)(e:TypeId)(n:UInt64)(w m:Nat)(xs:List UInt8)(hp:Pn b p)(hl:bT e)(hw:w≤8)(hm:m≤1048576):zC K w0 170 [vP b 0,Ar n,vI w] [AP b (.cells #[p,v] e),DM 5 1 v m (xs.map fun b=>Dt b)] H (fun r M=>r=.tuple #[]∧∃p' v',Pn b p'∧M=[AP b (.cells #[p',v'] e),DM 5 1 v' (m+w) ((xs++BE n w).map fun b=>Dt b)]):=by
 refine Ua.enter Tryz.func170 rfl rfl ?_
 refine Z (J E (J E (V (AN ?_))))
 refine SX.mono (A6 (α:=Nat×Value×Value) (fun x=>x.1≤w∧Pn b x.2.1) (fun x=>[(0,vP b 0),(1,Ar n),(7,vI w),(8,vI x.1)]) (fun x=>AP b (.cells #[x.2.1,x.2.2] e)::DM 5 1 x.2.2 (m+x.1) ((xs++BE n x.1).map fun b=>Dt b)::H) (fun x=>w-x.1) (fun x D hp=>?_) (0,p,v) ⟨Nat.zero_le _,hp⟩ |>.heap (fun w h=>by simpa[BE]using h)) tL
 obtain⟨i,p,v⟩:=x
 obtain⟨hi,hadr⟩:=hp
 simp only at hi hadr
 refine Z (Y E Aw (V (AE ?_)))
 refine As E (fun hc1=>?_) (fun hc1=>?_)
 have hlt:i<w:=by simpa using hc1
 refine AI (AG (AE (AN (Z (J E (O E (V (Ai CY [] (Bm [(true,0),(true,1),(true,2),(true,3),(true,4),(true,5),(true,6),(true,7)] (.last 8 .nil)) zK (J E (AV E E (AD E Sk (J E (J E ?_)))))))))))))
 refine Y E (LC zO zO) ?_
 refine Y E (FB.shr64 (n:=(8*i))) ?_
 refine Av E E (HG CR Cn) (BK (Bn 2 X6 (Oe e b p v (m+i) _ _ hadr hl zO) E ?_))
 rintro _ _ ⟨rfl,v',rfl⟩
 refine AU (Ao (AG (AK (Y E (BV zO zO) (J E (AU ?_))))))
 refine Al (i+1,vP b 0,v') ⟨hlt,.inr E⟩ (by simp only;omega) tL (fun w hw=>?_)
 simp only
 rw[S9,←List.append_assoc,List.map_append (l₁:=xs++BE n i),←Nat.add_assoc]
 exact hw
 have hie:i=w:=by simp at hc1;omega
 subst hie
 refine Ax (A3 (BO (A0 ?_)))
 exact Cy (DY E) (AY (M:=[_,_]) ⟨E,p,v,hadr,E⟩ fun _ h=>h)
abbrev UM(v:Value)(s:List UInt8):AW:=DM 5 1 v s.length (s.map fun b=>Dt b)
abbrev gr(b:Nat)(p v:Value):AW:=AP b (.cells #[p,v] 243)
def J8(s:List UInt8)(n:UInt64)(w:Int):Option (List UInt8):=if s.length≤1048576∧0≤w∧w≤8 then some (s++BE n w.toNat)else none
def YR(s t:List UInt8):Option (List UInt8):=if s.length≤1048576∧t.length≤1048576 then some (s++t)else none
def ax(s:List UInt8):Option (List UInt8×Int):=if s.length≤4194304 then some (s,0)else none
theorem Ms{b:Nat}{p v:Value}{s r:List UInt8}{n:UInt64}{w:Int}(h:J8 s n w=some r)(ha:Pn b p):zC K w0 170 [vP b 0,Ar n,vI w] [gr b p v,UM v s] H (fun u M=>u=.tuple #[]∧∃p' v',Pn b p'∧M=[gr b p' v',UM v' r]):=by
 unfold J8 at h
 split at h
 rename_i hc
 obtain⟨hl,h0,h8⟩:=hc
 obtain rfl:=zI h
 obtain⟨k,rfl⟩:=Int.eq_ofNat_of_zero_le h0
 have hk:(s++BE n k).length=s.length+k:=by simp[Aj]
 have:=il (K:=K) (w0:=w0) (H:=H) b p v 243 n k s.length s ha oT zO hl
 refine Ua.mono this ?_
 rintro u M ⟨rfl,p',v',ha',rfl⟩
 refine⟨rfl,p',v',ha',?_⟩
 rw[UM,Int.toNat_natCast,hk]
 cases h
theorem kP{b:Nat}{p v:Value}{s t r:List UInt8}(h:YR s t=some r)(ha:Pn b p):zC K w0 101 [vP b 0,vS t] [gr b p v,UM v s] H (fun u M=>u=.tuple #[vI t.length,.nilIface]∧∃p' v',Pn b p'∧M=[gr b p' v',UM v' r]):=by
 unfold YR at h
 split at h
 rename_i hc
 obtain⟨hl,ht⟩:=hc
 obtain rfl:=zI h
 refine Ua.mono (M9 243 b p v s.length (s.map fun b=>Dt b) t ha oT zO) ?_
 rintro u M ⟨rfl,v',rfl⟩
 refine⟨rfl,vP b 0,v',.inr rfl,?_⟩
 simp[UM,List.length_append]
 cases h
def WS(s:List UInt8)(r:Ad):Option (List UInt8):=
 if r.tag.length≤32 then(J8 s r.page.toUInt64 4).bind fun s1=>(PF [0] (32-(r.tag.length:Int))).bind fun z=>(FN r.tag z).bind fun u=>YR s1 u else none
theorem kr{b:Nat}{p v:Value}{s r:List UInt8}{x:Ad}(h:WS s x=some r)(ha:Pn b p):zC K w0 171 [vP b 0,.agg (Af x).toArray] [gr b p v,UM v s] H (fun u M=>u=.tuple #[]∧∃p' v',Pn b p'∧M=[gr b p' v',UM v' r]):=by
 unfold WS at h
 split at h
 case isFalse=>cases h
 rename_i hlen
 refine AC h fun s1 hs1 h=>?_
 refine AC h fun z hz h=>?_
 refine AC h fun u hu h=>?_
 refine Ua.enter Tryz.func171 rfl rfl ?_
 refine Z ?_
 refine Bf E E zU fun b0=>?_
 refine V (SX.pick [1,2,0] 3 (Z (J E (AD E KE (AF 2 A8 E (Av E E (Cf Bv CR) (Bn 2 Mp (Ms hs1 ha) E ?_)))))))
 rintro _ _ ⟨rfl,p1,v1,ha1,rfl⟩
 refine V (Ai CY [2] (Bm [(true,0),(true,1),(true,2),(true,3),(true,4),(true,5),(true,6),(true,7),(true,8),(false,9),(true,10)] (.last 11 .nil)) zK (J E (AV E E (AD E Sk (AD E L8 (AF 0 Fm E (AD E L8 (AF 0 Fm E ?_))))))))
 refine BT E Bo E (Y E (Do zO zO) (BS 0 QV (U4 hz) E ⟨⟨2,E⟩,zT⟩ (Y E (CW hu) (BK (Bn 2 VF (kP h ha1) E ?_)))))
 rintro _ _ ⟨rfl,p2,v2,ha2,rfl⟩
 refine AU ?_
 exact Cy (DY E) (AY (M:=[_,_]) ⟨E,p2,v2,ha2,E⟩ fun _ hw=>Bc.pick (H:=[_,_,_]) hw [0,1] 3 E)
def Ec(p0:BP)(nx:List UInt8×Int→Option (List UInt8×Int))(s:List UInt8)(i:Int):Option (List UInt8×Int):=
 cond (decide (i<(p0.kids.length:Int))) ((Aq p0.kids i).bind fun x=>(WS s x).bind fun s1=>nx (s1,wI (i+1))) (ax s)
def GX(p0:BP):Nat→List UInt8×Int→Option (List UInt8×Int):=By fun nx x=>Ec p0 nx x.1 x.2
def Ea(p0:BP)(nx:List UInt8×Int→Option (List UInt8×Int))(s:List UInt8)(i:Int):Option (List UInt8×Int):=
 cond (decide (i<(p0.rows.length:Int))) ((Aq p0.rows i).bind fun x=>(J8 s x.id 8).bind fun s1=>(J8 s1 x.x.toUInt64 4).bind fun s2=>(J8 s2 x.y.toUInt64 4).bind fun s3=>(J8 s3 (BX (x.txt.length:Int)) 1).bind fun s4=>(YR s4 x.txt).bind fun s5=>nx (s5,wI (i+1))) (ax s)
def GQ(p0:BP):Nat→List UInt8×Int→Option (List UInt8×Int):=By fun nx x=>Ea p0 nx x.1 x.2
def El(n:Nat)(p0:BP):Option (List UInt8×Int):=
 (J2 n p0).bind fun y=>cond (!y) (some ([],90))
  ((J8 [] (BX p0.kind) 1).bind fun s1=>cond (decide (p0.kind=2))
   ((J8 s1 (BX (p0.kids.length:Int)) 1).bind fun s2=>(J8 s2 (BX p0.lev) 1).bind fun s3=>(J8 s3 p0.cx.toUInt64 4).bind fun s4=>(J8 s4 p0.cy.toUInt64 4).bind fun s5=>GX p0 n (s5,0))
   ((J8 s1 (BX (p0.rows.length:Int)) 1).bind fun s2=>(WS s2 ⟨p0.npage,p0.ntag⟩).bind fun s3=>GQ p0 n (s3,0)))
theorem YE{n:Nat}{Fv Fr:Value}{p0:BP}{r:List UInt8×Int}(h:El n p0=some r)(hs0_4:CD K w0 AJ 4 Fv p0.rows)(hs0_5:CD K w0 Af 2 Fr p0.kids):zC K w0 125 [.agg #[vI p0.kind,AA p0.cx,AA p0.cy,vI p0.lev,Fv,Fr,AA p0.npage,vS p0.ntag]] [] H (fun u M=>u=.tuple #[vS r.1,vI r.2]∧M=[]):=by
 unfold El at h
 refine AC h fun y hy h=>?_
 refine Ua.enter Tryz.func125 rfl rfl ?_
 refine Z ?_
 refine Bf E E zU fun b0=>?_
 refine O E (O E (V (AE (Z (Ac [vI p0.kind,AA p0.cx,AA p0.cy,vI p0.lev,Fv,Fr,AA p0.npage,vS p0.ntag] E E6 E E (Aa 0 E) (AQ 0 kH (UJ hy hs0_4 hs0_5) E (CH E E (V ?_))))))))
 refine AT h E (fun hc1 h=>?_) fun hc1 h=>?_
 obtain rfl:=zI h
 refine Z (O E (O E (V (AL (AZ ?_)))))
 exact Ab [] 1 E E E
 refine AC h fun s1 hs1 h=>?_
 refine AI (AG (Z ?_))
 refine Ag E vV zU fun b1=>?_
 refine V (Z ?_)
 refine Hj (fv:=#[_]) (cv:=#[]) E E E ?_
 refine O E (V (JN 5 1 (SX.pick [1,0,2] 3 (Z (J E (AD E Ph (AF 2 D6 E (Av E E (De FY CR) (Bn 2 Mp (Ms hs1 (.inl E)) E ?_)))))))))
 rintro _ _ ⟨rfl,p1,v1,ha1,rfl⟩
 refine V (AE (Z (AD E Ph (AF 2 D6 E (Y E CE (V ?_))))))
 refine AT h E (fun hc2 h=>?_) fun hc2 h=>?_
 refine AC h fun s2 hs2 h=>?_
 refine AC h fun s3 hs3 h=>?_
 refine AC h fun s4 hs4 h=>?_
 refine AC h fun s5 hs5 h=>?_
 refine Z (J E (AD E Dn (AF 2 Hq E (B3 hs0_5 E E1 E (Av E E (De FY CR) (Bn 2 Mp (Ms hs2 ha1) E ?_))))))
 rintro _ _ ⟨rfl,p2,v2,ha2,rfl⟩
 refine V (Z (J E (AD E Gh (AD E Ef (AF 2 D6 E (Av E E (De FY CR) (Bn 2 Mp (Ms hs3 ha2) E ?_)))))))
 rintro _ _ ⟨rfl,p3,v3,ha3,rfl⟩
 refine V (Z (J E (AD E Gh (AD E Hi (AF 2 A8 E (Av E E (Cf Bv CR) (Bn 2 Mp (Ms hs4 ha3) E ?_)))))))
 rintro _ _ ⟨rfl,p4,v4,ha4,rfl⟩
 refine V (Z (J E (AD E Gh (AD E Hl (AF 2 A8 E (Av E E (Cf Bv CR) (Bn 2 Mp (Ms hs5 ha4) E ?_)))))))
 rintro _ _ ⟨rfl,p5,v5,ha5,rfl⟩
 refine V (AE (Z (AD E Dn (AF 2 Hq E (B3 hs0_5 E E1 E (J E (V (AN ?_))))))))
 refine SX.mono (A6 (α:=Nat×List UInt8×Int×Value×Value) (fun x=>GX p0 x.1 (x.2.1,x.2.2.1)=some r∧Pn b1 x.2.2.2.1) (fun x=>[(4,vP b1 0),(47,Fr),(48,vI (p0.kids.length:Int)),(49,vI x.2.2.1)]) (fun x=>gr b1 x.2.2.2.1 x.2.2.2.2::UM x.2.2.2.2 x.2.1::AP b0 (.cells #[vI p0.kind,AA p0.cx,AA p0.cy,vI p0.lev,Fv,Fr,AA p0.npage,vS p0.ntag] 148)::H) (fun x=>x.1) (fun x D hp=>?_) (n,s5,0,p5,v5) ⟨h,ha5⟩) tL
 obtain⟨m1,s,i,p,v⟩:=x
 obtain⟨h,ha⟩:=hp
 dsimp only at h ha
 rcases m1 with _ | m1
 cases (show(none:Option _)=some r from h)
 replace h:Ec p0 (GX p0 m1) s i=some r:=h
 unfold Ec at h
 try dsimp only
 refine Z (Y E Aw (V (AE ?_)))
 refine AT h E (fun hc3 h=>?_) fun hc3 h=>?_
 refine AC h fun x1 hx1 h=>?_
 refine AC h fun t1 ht1 h=>?_
 refine AI (AG (AE (AN (Z ?_))))
 refine Cj hx1 hs0_5 E E1 DD E E fun be1 of1 hc4=>?_
 refine Ac (Af x1) E Cb E E (C7 hc4) ?_
 refine Ag E DX zU fun b2=>?_
 refine Ak 0 E E E E DD E E E zT (V (SX.pick [1,2,0,3] 4 (AK (Ac (Af x1) E Cb E E (Aa 2 E) (Bn 2 kE (kr ht1 ha) E ?_)))))
 rintro _ _ ⟨rfl,p6,v6,ha6,rfl⟩
 refine AU (Ao (AG (AK (Y E Az (J E (AU ?_))))))
 exact Al (m1,t1,wI (i+1),p6,v6) ⟨h,ha6⟩ (Nat.lt_succ_self _) tL (BG [0,1,3] 4 E E E)
 have hend:s.length≤140737488355328∧r=(s,0):=by
  unfold ax at h
  split at h
  rename_i hc
  exact⟨by omega,(zI h).symm⟩
  cases h
 obtain⟨hend,rfl⟩:=hend
 refine Ax (A3 (BO (A0 (AG (Z (AD E Sk (AQ 2 Oo (LG 243 b1 p v s.length s hend) E (O E (O E (V (AL (AZ ?_))))))))))))
 exact Ab [] 3 E E E
 refine AC h fun s2 hs2 h=>?_
 refine AC h fun s3 hs3 h=>?_
 refine AI (AG (Z (J E (AD E Fx (AF 2 FO E (B3 hs0_4 E Bt E (Av E E (De FY CR) (Bn 2 Mp (Ms hs2 ha1) E ?_))))))))
 rintro _ _ ⟨rfl,p2,v2,ha2,rfl⟩
 refine V (Z (AD rfl FF (Ac (Af ⟨p0.npage,p0.ntag⟩) rfl Cb rfl rfl (Ce 2 rfl (by rintro(_ | (_ | j)) u hj<;>first | exact hj | exact absurd hj (by simp[Af]))) (Bn 2 kE (kr hs3 ha2) rfl ?_))))
 rintro _ _ ⟨rfl,p3,v3,ha3,rfl⟩
 refine V (AE (Z (AD E Fx (AF 2 FO E (B3 hs0_4 E Bt E (J E (V (AN ?_))))))))
 refine SX.mono (A6 (α:=Nat×List UInt8×Int×Value×Value) (fun x=>GQ p0 x.1 (x.2.1,x.2.2.1)=some r∧Pn b1 x.2.2.2.1) (fun x=>[(4,vP b1 0),(68,Fv),(69,vI (p0.rows.length:Int)),(5,.func (.func 170) #[vP b1 0] #[]),(70,vI x.2.2.1)]) (fun x=>gr b1 x.2.2.2.1 x.2.2.2.2::UM x.2.2.2.2 x.2.1::AP b0 (.cells #[vI p0.kind,AA p0.cx,AA p0.cy,vI p0.lev,Fv,Fr,AA p0.npage,vS p0.ntag] 148)::H) (fun x=>x.1) (fun x D hp=>?_) (n,s3,0,p3,v3) ⟨h,ha3⟩) tL
 obtain⟨m1,s,i,p,v⟩:=x
 obtain⟨h,ha⟩:=hp
 dsimp only at h ha
 rcases m1 with _ | m1
 cases (show(none:Option _)=some r from h)
 replace h:Ea p0 (GQ p0 m1) s i=some r:=h
 unfold Ea at h
 try dsimp only
 refine Z (Y E Aw (V (AE ?_)))
 refine AT h E (fun hc3 h=>?_) fun hc3 h=>?_
 refine AC h fun x1 hx1 h=>?_
 refine AC h fun t1 ht1 h=>?_
 refine AC h fun t2 ht2 h=>?_
 refine AC h fun t3 ht3 h=>?_
 refine AC h fun t4 ht4 h=>?_
 refine AC h fun t5 ht5 h=>?_
 refine AI (AG (AE (AN (Z ?_))))
 refine Cj hx1 hs0_4 E Bt B4 E E fun be1 of1 hc4=>?_
 refine Ac (AJ x1) E Ex E E (C7 hc4) ?_
 refine Ag E EN zU fun b2=>?_
 refine Ak 0 E E E E B4 E E E zT (V (SX.pick [1,2,0,3] 4 (Z (J E (AD E Ny (AF 2 NM E (Bn 2 Mp (Ms ht1 ha) E ?_)))))))
 rintro _ _ ⟨rfl,p4,v4,ha4,rfl⟩
 refine V (Z (J E (AD E Iq (AF 2 A8 E (Av E E (Cf Bv CR) (Bn 2 Mp (Ms ht2 ha4) E ?_))))))
 rintro _ _ ⟨rfl,p5,v5,ha5,rfl⟩
 refine V (Z (J E (AD E Iu (AF 2 A8 E (Av E E (Cf Bv CR) (Bn 2 Mp (Ms ht3 ha5) E ?_))))))
 rintro _ _ ⟨rfl,p6,v6,ha6,rfl⟩
 refine V (Z (J E (AD E Rr (AF 2 Fm E (BT E Bo E (Av E E (De FY CR) (Bn 2 Mp (Ms ht4 ha6) E ?_)))))))
 rintro _ _ ⟨rfl,p7,v7,ha7,rfl⟩
 refine V (AK (AD E Sk (AD E Rr (AF 2 Fm E (Bn 2 VF (kP ht5 ha7) E ?_)))))
 rintro _ _ ⟨rfl,p8,v8,ha8,rfl⟩
 refine AU (Ao (AG (AK (Y E Az (J E (AU ?_))))))
 exact Al (m1,t5,wI (i+1),p8,v8) ⟨h,ha8⟩ (Nat.lt_succ_self _) tL (BG [0,1,3] 4 E E E)
 have hend:s.length≤140737488355328∧r=(s,0):=by
  unfold ax at h
  split at h
  rename_i hc
  exact⟨by omega,(zI h).symm⟩
  cases h
 obtain⟨hend,rfl⟩:=hend
 refine Ax (A3 (BO (A0 (AG (Z (AD E Sk (AQ 2 Oo (LG 243 b1 p v s.length s hend) E (O E (O E (V (AL ?_)))))))))))
 exact Ab [] 3 E E E
end

section
variable {K:Nat→Prop}{w0:World}{H:List AW}
def Da(p0:Cs)(p1:Int):Option (List UInt8×Cs):=
 cond (decide ((p0.s.length:Int)<p1))
 (
  (PF [0] p1).bind fun y1=>
  some (y1,{ p0 with short:=true }))
 (
  (Cr p0.s 0 p1).bind fun s1=>
  (Cr p0.s p1 (p0.s.length:Int)).bind fun s2=>
  some (s1,{ p0 with s:=s2 }))
theorem LX{BD:Nat}{p0:Cs}{p1:Int}{r:List UInt8×Cs}(h:Da p0 p1=some r): zC K w0 203 [vP BD 0,vI p1] [AP BD (.cells #[vS p0.s,vB p0.short] 194)] H (fun u M=>u=vS r.1∧M=[AP BD (.cells #[vS r.2.s,vB r.2.short] 194)]):=by
 unfold Da at h
 refine Ua.enter Tryz.func203 rfl rfl ?_
 refine Z (O E (V (AE (Z (J E (AV E E (AD E Sn (AF 0 Fm E (BT E Bo E (J E (Y E Aw (V ?_))))))))))))
 refine AT h E (fun hc1 h=>?_) fun hc1 h=>?_
 refine Z (J E (AV E E (AD E YL (Ak 0 E E E E P7 E E E zT (V (Z ?_))))))
 refine AC h fun y1 hy1 h=>?_
 refine J E (AQ 0 QV (U4 hy1) E (O E (V (AL (AZ ?_)))))
 obtain rfl:=zI h
 exact Ab [0] 1 E E E
 refine AI (AG (Z ?_))
 refine AC h fun s1 hs1 h=>?_
 refine J E (AV E E (AD E Sn (AF 0 Fm E (J E (PX hs1 E Bo E E (O E (V (Z ?_))))))))
 refine AC h fun s2 hs2 h=>?_
 refine J E (J E (AV E E (AD E Sn (AF 0 Fm E (J E (S5 hs2 E Bo E E (AV E E ?_)))))))
 refine AD E Sn (Ak 0 E E E E Hp E E E zT (V (Z (J E (O E (V (AL ?_)))))))
 obtain rfl:=zI h
 exact Ab [0] 1 E E E
end

section
variable {K:Nat→Prop}{w0:World}{H:List AW}
def CF(p0:Cs)(p1:Int):Option (UInt64×Cs):=(Da p0 p1).bind fun y=>if y.1.length≤8 then some (B9 y.1 y.1.length,y.2)else none
theorem CS{BD:Nat}{p0:Cs}{p1:Int}{r:UInt64×Cs}(h:CF p0 p1=some r):zC K w0 162 [vP BD 0,vI p1] [AP BD (.cells #[vS p0.s,vB p0.short] 194)] H (fun u M=>u=Ar r.1∧M=[AP BD (.cells #[vS r.2.s,vB r.2.short] 194)]):=by
 unfold CF at h
 obtain⟨⟨s,q⟩,hy,h⟩:=bnd h
 dsimp only at h
 split at h
 case isFalse=>cases h
 rename_i hlen
 obtain rfl:=zI h
 refine Ua.enter Tryz.func162 rfl rfl ?_
 refine Z (O E (V (Z (O E (V (AE (Z (J E (J E (AQ 1 eM (LX hy) E ?_))))))))))
 refine qo E Bo CP Cn E zU fun v1 L1 hL=>?_
 refine ni hL E CP E (J E (V (AN ?_)))
 refine SX.mono (A6 (α:=Nat) (fun k=>k≤s.length) (fun k=>[(5,Ar (B9 s k)),(11,v1),(12,vI (s.length:Nat)),(13,vI k)]) (fun k=>Fi L1::AP BD (.cells #[vS q.s,vB q.short] 194)::H) (fun k=>s.length-k) (fun k D hp=>?_) 0 (Nat.zero_le _)) tL
 refine Z (Y E Aw (V (AE ?_)))
 refine As E (fun hc1=>?_) (fun hc1=>?_)
 have hk:k<s.length:=by simpa using hc1
 have hn:Aq s (k:Int)=some (s.getD k 0):=by
  rw[Aq,if_pos zO]
  simp[hk]
 refine AI (AG (AE (AN (Z (J E ?_)))))
 refine qM hn hL E CP KZ E E fun b1 of1 hc=>?_
 refine Bi E wP E (nC (j:=0) 0 E hc E) ?_
 refine O E (O E (V (AK (J E (J E (Av E E (Th Cn CR) (J E (Y E (LC zO zO) ?_))))))))
 refine Y E (FB.shl64 (n:=(8*k))) ?_
 refine Y E bc (O E (AU (Ao (AG (AK (Y E (BV zO zO) (J E (AU ?_))))))))
 exact Al (k+1) hk zO tL
 have hk:k=s.length:=by simp at hc1;omega
 subst hk
 refine Ax (A3 (BO (A0 (AG (Z (J E (O E (V (AL ?_)))))))))
 exact Ab [1] 2 E E E
end

section
variable {K:Nat→Prop}{w0:World}{H:List AW}
def EJ(p0:Cs):Option (Ad×Cs):=
 (CF p0 4).bind fun y1=>
 (Da y1.2 32).bind fun y2=>
 some ((⟨y1.1.toUInt32,y2.1⟩:Ad),y2.2)
theorem PQ{BD:Nat}{p0:Cs}{r:Ad×Cs}(h:EJ p0=some r): zC K w0 163 [vP BD 0] [AP BD (.cells #[vS p0.s,vB p0.short] 194)] H (fun u M=>u=.agg (Af r.1).toArray∧M=[AP BD (.cells #[vS r.2.s,vB r.2.short] 194)]):=by
 unfold EJ at h
 refine Ua.enter Tryz.func163 rfl rfl ?_
 refine Z ?_
 refine Ag E DX zU fun b1=>?_
 refine V (Z ?_)
 refine AC h fun y1 hy1 h=>?_
 refine AC h fun y2 hy2 h=>?_
 refine J E (SL.pick [1,0] 2 (AQ 1 Iv (CS hy1) E (Av E E (Cg CR Bv) (J E (AQ 1 eM (LX hy2) E (BJ [_,_] E Km Kl DX ⟨E,E,zT⟩ E (Ak 1 E E E E DD E E E zT (V (AL ?_)))))))))
 obtain rfl:=zI h
 exact AX (ES E (BB 1 (Af (⟨y1.1.toUInt32,y2.1⟩:Ad)) Cb E E E E)) (AY (M:=[_]) ⟨E,E⟩ fun _ hw=>Bc.pick (H:=[_,_]) hw [0] 2 E)
end

section
variable {K:Nat→Prop}{w0:World}{H:List AW}
abbrev fg(b:Nat)(q:Cs):AW:=AP b (.cells #[vS q.s,vB q.short] 194)
def Lb(q:Cs):Option (AM×Cs):=
 (CF q 8).bind fun a=>(CF a.2 4).bind fun b=>(CF b.2 4).bind fun c=>(CF c.2 1).bind fun d=>(Da d.2 (wI (d.1.toNat:Int))).bind fun e=>some (⟨a.1,b.1.toUInt32,c.1.toUInt32,e.1⟩,e.2)
def H4(n:Int)(s:Nat×Cs):Option (AM×(Nat×Cs)):=if(s.1:Int)<n then(Lb s.2).bind fun y=>some (y.1,(s.1+1,y.2))else none
def Oa(n:Int)(s:Nat×Cs):Bool:=decide (n≤(s.1:Int))
theorem iJ{n:Int}(s:Nat×Cs)(y:AM×(Nat×Cs))(h:H4 n s=some y):Oa n s=false:=by
 unfold H4 at h
 split at h
 rename_i hlt
 exact zf zO
 cases h
def TF(_:Cs)(n:Int):Option Unit:=if n≤1000000 then some ()else none
theorem mZ{q:Cs}{n:Int}{u:Unit}(h:TF q n=some u):n≤1000000:=by
 unfold TF at h
 split at h
 assumption
 cases h
theorem qh{b:Nat}{q:Cs}{n:Int}{r:Unit}(_:TF q n=some r):zC K w0 164 [vP b 0,vI n] [] H (fun u M=>∃bn bq:Nat,u=.func (.func 204) #[] #[vP bn 0,vP bq 0]∧M=[AP bn (.cells #[vI n] 3),AP bq (.cells #[vP b 0] 192)]):=by
 refine Ua.enter Tryz.func164 rfl rfl ?_
 refine Z ?_
 refine Bf E E zU fun b0=>?_
 refine Bf E E zU fun b1=>?_
 refine O E (V (Z ?_))
 refine Hj (fv:=#[]) (cv:=#[_,_]) E E E ?_
 refine O E (V (AL ?_))
 exact DL [0,1] 2 (Df E E) E E ⟨_,_,E,E⟩
def oz(r:AM):List Value:=[.agg (AJ r).toArray]
theorem sG{bn bq br:Nat}{n:Int}{q0:Cs}{u0:Unit}(hu:TF q0 n=some u0)(s0:Cs):
  pf Tryz.prog K w0 204 [vP bn 0,vP bq 0] [AP bn (.cells #[vI n] 3),AP bq (.cells #[vP br 0] 192)] oz (fun s=>fg br s.2) (H4 n) (fun s=>Oa n s=true) (0,s0):=by
 have hn:=mZ hu
 intro lp J9 X T rc G0 hy hdef h0
 refine Ua.enter Tryz.func204 rfl rfl ?_
 show SX _ _ _ _ _ _ _ _ _ (AP bn (.cells #[vI n] 3)::AP bq (.cells #[vP br 0] 192)::fg br s0::((rc::G0)++T))
 refine SX.pick [2,0,1] 3 (Z (AF 1 D6 E (J E (V (AN ?_)))))
 refine SX.mono (A6 (α:=Nat×Cs×List AW) (fun x=>J9 (x.1,x.2.1) x.2.2) (fun x=>[(0,vY lp),(2,vP bq 0),(5,vI n),(6,vI x.1)])
  (fun x=>fg br x.2.1::AP bn (.cells #[vI n] 3)::AP bq (.cells #[vP br 0] 192)::(x.2.2++T)) (fun x=>n.toNat-x.1) (fun x D hp=>?_) (0,s0,rc::G0) h0) tL
 obtain⟨k,q,G⟩:=x
 have hJ:J9 (k,q) G:=hp
 clear hp
 dsimp only
 refine Z (Y E Aw (V (AE ?_)))
 refine As E (fun hc1=>?_) (fun hc1=>?_)
 have hlt:(k:Int)<n:=of_decide_eq_true hc1
 clear hc1
 obtain⟨x,s1,hst⟩:∃x s1,H4 n (k,q)=some (x,s1):=by
  rcases hdef _ _ hJ with hd | hd
  exact absurd hd (by simp[Oa];omega)
  exact hd
 have hst0:=hst
 unfold H4 at hst
 rw[if_pos (show(((k,q):Nat×Cs).1:Int)<n from hlt)]at hst
 obtain⟨y,hy1,hst⟩:=bnd hst
 unfold Lb at hy1
 dsimp only at hy1
 obtain⟨a,ha,hy1⟩:=bnd hy1
 obtain⟨b,hb,hy1⟩:=bnd hy1
 obtain⟨c,hc,hy1⟩:=bnd hy1
 obtain⟨d,hd,hy1⟩:=bnd hy1
 obtain⟨e,he,hy1⟩:=bnd hy1
 obtain rfl:=zI hy1
 obtain⟨rfl,rfl⟩:(⟨a.1,b.1.toUInt32,c.1.toUInt32,e.1⟩:AM)=x∧(k+1,e.2)=s1:=by
  have:=zI hst
  exact⟨congrArg Prod.fst this,congrArg Prod.snd this⟩
 refine AI (AG (AE (AN ?_)))
 refine A5 (α:=Nat) (fun _=>True) (fun b0=>[(0,vY lp),(2,vP bq 0),(4,vP b0 0),(5,vI n),(6,vI k)]) (fun b0=>AP b0 (.cells #[Ar a.1,AA b.1.toUInt32,AA c.1.toUInt32,vS []] 79)::fg br c.2::AP bn (.cells #[vI n] 3)::AP bq (.cells #[vP br 0] 192)::(G++T)) ?_ (fun b0 D _=>?_)
 refine Ai CY [2] (Bm [(true,0),(true,2),(true,5)] (.alt 1 (.alt 3 (Bm [(true,4)] (.alt 6 (Bm [(true,7),(true,8),(false,9)] (.last 10 .nil)) (.cons (false,9) (Bm [(false,6),(true,7),(true,8)] (.last 10 .nil))))) (.cons (false,9) (Bm [(false,3),(true,4),(false,6),(true,7),(true,8)] (.last 10 .nil)))) (.cons (false,9) (Bm [(false,1),(false,3),(true,4),(false,6),(true,7),(true,8)] (.last 10 .nil))))) zK (AF 0 M3 E (AF 0 M3 E (AF 0 M3 E ?_)))
 refine Mr ?_ ?_
 refine BS 1 Iv (CS ha) E ⟨⟨2,E⟩,zT⟩ ?_
 refine Mr ?_ ?_
 refine BS 1 Iv (CS hb) E ⟨⟨2,E⟩,zT⟩ (Av E E (Cg CR Bv) ?_)
 refine Mr ?_ ?_
 refine BS 1 Iv (CS hc) E ⟨⟨2,E⟩,zT⟩ (Av E E (Cg CR Bv) (BJ [_,_,_] E Sy TG EN ⟨E,E,E,zT⟩ E ?_))
 refine Ag E EN (fun _=>⟨⟨3,E⟩,zT⟩) fun b0=>?_
 refine BK (Ak 0 E E E E B4 E E E zT (AU ?_))
 exact Au b0 zT tL (BG [0,1] 2 E E E)
 refine Ag E EN (fun _=>⟨⟨3,E⟩,zT⟩) fun b0=>?_
 refine SL.pick [1,0] 2 (BS 1 Iv (CS hc) E ⟨⟨3,E⟩,zT⟩ (Av E E (Cg CR Bv) (BJ [_,_,_] E Sy TG EN ⟨E,E,E,zT⟩ E (BK (Ak 1 E E E E B4 E E E zT (AU ?_))))))
 exact Au b0 zT tL (BG [1,0] 2 E E E)
 refine Ag E EN (fun _=>⟨⟨3,E⟩,zT⟩) fun b0=>?_
 refine SL.pick [1,0] 2 (BS 1 Iv (CS hb) E ⟨⟨3,E⟩,zT⟩ (Av E E (Cg CR Bv) (BS 1 Iv (CS hc) E ⟨⟨3,E⟩,zT⟩ (Av E E (Cg CR Bv) (BJ [_,_,_] E Sy TG EN ⟨E,E,E,zT⟩ E (BK (Ak 1 E E E E B4 E E E zT (AU ?_))))))))
 exact Au b0 zT tL (BG [1,0] 2 E E E)
 refine Ag E EN (fun _=>⟨⟨3,E⟩,zT⟩) fun b0=>?_
 refine SL.pick [1,0] 2 (BS 1 Iv (CS ha) E ⟨⟨3,E⟩,zT⟩ (BS 1 Iv (CS hb) E ⟨⟨3,E⟩,zT⟩ (Av E E (Cg CR Bv) (BS 1 Iv (CS hc) E ⟨⟨3,E⟩,zT⟩ (Av E E (Cg CR Bv) (BJ [_,_,_] E Sy TG EN ⟨E,E,E,zT⟩ E (BK (Ak 1 E E E E B4 E E E zT (AU ?_)))))))))
 exact Au b0 zT tL (BG [1,0] 2 E E E)
 refine AE (Ai CY [3] (Bm [(true,0),(true,1),(false,2),(true,3),(false,4),(true,5)] (.last 6 .nil)) zK (AF 0 M3 E (AF 0 M3 E (SL.pick [1,0] 2 (BS 1 Iv (CS hd) E ⟨⟨3,E⟩,zT⟩ (Av E E (Pv CR FY) (BS 1 eM (LX he) E ⟨⟨3,E⟩,zT⟩ (AD E Rr (BK ?_)))))))))
 refine Ak 1 E E E E Hp E E E zT (V (SX.pick [1,2,3,0] 4 (Z (J E (Ac (AJ ⟨a.1,b.1.toUInt32,c.1.toUInt32,e.1⟩) E Ex E E (Aa 0 E) ?_)))))
 refine Jb (M2:=[_,_,_]) (G:=fg br e.2::G) (T:=T) (vs:=[_]) (ok:=fun G1=>∃G2,G1=fg br e.2::G2∧J9 (k+1,e.2) G2) (no:=X) E E ⟨E,zT⟩ E ?_ (fun bb G1 hG1=>⟨zT,?_⟩)
 intro M
 exact hy (k,q) ⟨a.1,b.1.toUInt32,c.1.toUInt32,e.1⟩ (k+1,e.2) hst0 G hJ M
 refine CH E E (V ?_)
 refine As E (fun hc3=>?_) (fun hc3=>?_)
 obtain rfl:bb=false:=by simpa using hc3
 refine AL (Ba (AZ (Dq (Ba ?_))))
 exact AX (DY E) (AY (M:=G1) (.inr hG1) fun _ h=>h.skip [_,_,_])
 obtain rfl:bb=true:=by simpa using hc3
 obtain⟨G2,rfl,hJ2⟩:=hG1
 refine AI (Ao (AG (AK (Y E (BV zO zO) (J E (AU ?_))))))
 exact Al (k+1,e.2,G2) hJ2 (by dsimp only;omega) tL (BG [3,1,2] 4 E E E)
 have hge:n≤(k:Int):=by simpa using hc1
 refine Ax (A3 (BO (A0 ?_)))
 exact Cy (DY E) (AY (M:=fg br q::G) (.inl ⟨(k,q),G,zt hge,E,hJ⟩) fun _ hw=>Bc.pick (H:=[_,_,_]) hw [0] 3 E)
end

section
variable {K:Nat→Prop}{w0:World}{H:List AW}
def Ni(y1:UInt64×Cs)(y9:UInt32)(y10:UInt32)(y11:Int)(l3:List Ad)(y16:Ad×Cs)(y17:List UInt8)(o4:Cs)(l7:List AM):Option (BP×Cs):=
 some ((⟨wI (y1.1.toNat:Int),y9,y10,y11,l7,l3,y16.1.page,y17⟩:BP),o4)
def Ts(y1:UInt64×Cs)(y9:UInt32)(y10:UInt32)(y11:Int)(l3:List Ad)(y16:Ad×Cs)(y17:List UInt8)(o5:Cs)(l8:List AM):Option (BP×Cs):=
 Ni y1 y9 y10 y11 l3 y16 y17 o5 l8
def Qv(y1:UInt64×Cs)(y9:UInt32)(y10:UInt32)(y11:Int)(l3:List Ad)(y16:Ad×Cs)(y17:List UInt8)(o5:Cs)(l8:List AM):Option (BP×Cs):=
 Ni y1 y9 y10 y11 l3 y16 y17 o5 l8
def MW(y1:UInt64×Cs)(y9:UInt32)(y10:UInt32)(y11:Int)(l3:List Ad)(y16:Ad×Cs)(y17:List UInt8)(nx_f_rpg_r1:Cs×List AM→Option (BP×Cs))(e1:AM)(o5:Cs)(l8:List AM):Option (BP×Cs):=
 (Ci 32 l8 [e1]).bind fun l9=>
 cond (o5.short||(decide (4<(l9.length:Int))))
 (
  Ts y1 y9 y10 y11 l3 y16 y17 o5 l9)
 (
  nx_f_rpg_r1 (o5,l9))
def J3(y1:UInt64×Cs)(y9:UInt32)(y10:UInt32)(y11:Int)(l3:List Ad)(y16:Ad×Cs)(y17:List UInt8)(step:Nat×Cs→Option (AM×(Nat×Cs)))(done:Nat×Cs→Bool):Nat→Nat×Cs→(Cs×List AM)→Option (BP×Cs):=L9 step done (fun nx e s x=>MW y1 y9 y10 y11 l3 y16 y17 (nx s) e s.2 x.2) (fun s x=>Qv y1 y9 y10 y11 l3 y16 y17 s.2 x.2)
def MV(n:Nat)(y1:UInt64×Cs)(x1:Int)(y9:UInt32)(y10:UInt32)(y11:Int)(l3:List Ad)(y16:Ad×Cs)(y17:List UInt8):Option (BP×Cs):=
 (TF y16.2 x1).bind fun y19=>
 J3 y1 y9 y10 y11 l3 y16 y17 (H4 x1) (Oa x1) n (0,y16.2) (y16.2,[])
def Qy(n:Nat)(y1:UInt64×Cs)(x1:Int)(o1:Cs)(y3:Int)(y4:UInt32)(y5:UInt32)(y6:Int)(l1:List AM)(l2:List Ad)(y7:UInt32)(y8:List UInt8)(y9:UInt32)(y10:UInt32)(y11:Int)(l3:List Ad):Option (BP×Cs):=
 (EJ o1).bind fun y16=>
 (PF [0] 32).bind fun y18=>
 cond (decide (y16.1.page=0)&&(decide (y16.1.tag=y18)&&true))
 (
  MV n y1 x1 y9 y10 y11 l3 y16 [])
 (
  MV n y1 x1 y9 y10 y11 l3 y16 y16.1.tag)
def Qe(y1:UInt64×Cs)(y12:UInt64×Cs)(y13:UInt64×Cs)(y14:UInt64×Cs)(o2:Cs)(l4:List Ad):Option (BP×Cs):=
 some ((⟨wI (y1.1.toNat:Int),y13.1.toUInt32,y14.1.toUInt32,wI (y12.1.toNat:Int),[],l4,0,[]⟩:BP),o2)
def GE(y1:UInt64×Cs)(x1:Int)(y12:UInt64×Cs)(y13:UInt64×Cs)(y14:UInt64×Cs)(nx_f_rpg_l1:Cs×List Ad×Int→Option (BP×Cs))(o3:Cs)(l5:List Ad)(a1:Int):Option (BP×Cs):=
 cond (decide (a1<min x1 5))
 (
  (EJ o3).bind fun y15=>
  (Ci 24 l5 [y15.1]).bind fun l6=>
  nx_f_rpg_l1 (y15.2,l6,wI (a1+1)))
 (
  Qe y1 y12 y13 y14 o3 l5)
def LM(y1:UInt64×Cs)(x1:Int)(y12:UInt64×Cs)(y13:UInt64×Cs)(y14:UInt64×Cs):Nat→(Cs×List Ad×Int)→Option (BP×Cs):=By fun nx x=>GE y1 x1 y12 y13 y14 nx x.1 x.2.1 x.2.2
def Uk(n:Nat)(p0:Cs):Option (BP×Cs):=
 (CF p0 1).bind fun y1=>
 (CF y1.2 1).bind fun y2=>
 ret (wI (y2.1.toNat:Int)) fun x1=>
 cond (decide (wI (y1.1.toNat:Int)=2))
 (
  (CF y2.2 1).bind fun y12=>
  (CF y12.2 4).bind fun y13=>
  (CF y13.2 4).bind fun y14=>
  LM y1 x1 y12 y13 y14 n (y14.2,[],0))
 (
  Qy n y1 x1 y2.2 0 0 0 0 [] [] 0 [] 0 0 0 [])
theorem u7{n BD:Nat}{p0:Cs}{r:BP×Cs}(h:Uk n p0=some r): zC K w0 121 [vP BD 0] [AP BD (.cells #[vS p0.s,vB p0.short] 194)] H (fun u M=>∃Fv Fr:Value,u=.agg #[vI r.1.kind,AA r.1.cx,AA r.1.cy,vI r.1.lev,Fv,Fr,AA r.1.npage,vS r.1.ntag]∧M=[AH 79 4 Fv AJ r.1.rows,AH 31 2 Fr Af r.1.kids,AP BD (.cells #[vS r.2.s,vB r.2.short] 194)]):=by
 unfold Uk at h
 refine Ua.enter Tryz.func121 rfl rfl ?_
 refine Z ?_
 refine Bf E E zU fun b1=>?_
 refine Ag E Gy zU fun b2=>?_
 refine Bk 79 4 AJ (Bk 31 2 Af (V (LB (Z ?_))))
 refine AC h fun y1 hy1 h=>?_
 refine AF 3 M3 E (SL.pick [4,0,1,2,3] 5 (AQ 1 Iv (CS hy1) E (Av E E (Pv CR FY) (BJ [_] E QH QN Gy ⟨E,zT⟩ E ?_))))
 refine Ag E Gy zU fun b3=>?_
 refine Bk 79 4 AJ (Bk 31 2 Af (Ak 2 E E E E HL E E E zT (Du 2 (AP b3 (.cells #[vI (wI (y1.1.toNat:Int)),AA 0,AA 0,vI 0,zN,zN,AA 0,vS []] 148)) (Bk 79 4 AJ (Bk 31 2 Af (V (Z ?_)))))))
 refine AC h fun y2 hy2 h=>?_
 obtain⟨x1,ex1,h⟩:=Bp h
 refine AF 9 M3 E (SL.pick [5,0,1,2,3,4] 6 (AQ 1 Iv (CS hy2) E (Av E E (Pv CR FY) ?_)))
 refine An (u:=vI x1) E E (congrArg vI ex1) ?_
 refine V ?_
 refine A5 (α:=Cs×Int×UInt32×UInt32×Int×List AM×Value×List Ad×Value×UInt32×List UInt8×UInt32×UInt32×Int×List Ad×Value) (fun x=>Qy n y1 x1 x.1 x.2.1 x.2.2.1 x.2.2.2.1 x.2.2.2.2.1 x.2.2.2.2.2.1 x.2.2.2.2.2.2.2.1 x.2.2.2.2.2.2.2.2.2.1 x.2.2.2.2.2.2.2.2.2.2.1 x.2.2.2.2.2.2.2.2.2.2.2.1 x.2.2.2.2.2.2.2.2.2.2.2.2.1 x.2.2.2.2.2.2.2.2.2.2.2.2.2.1 x.2.2.2.2.2.2.2.2.2.2.2.2.2.2.1=some r) (fun x=>[(0,vP BD 0),(1,vP b1 0),(2,vP b2 0),(3,vP b3 0),(4,vI x1)]) (fun x=>AP BD (.cells #[vS x.1.s,vB x.1.short] 194)::AP b1 (.cells #[vP BD 0] 192)::AP b2 (.cells #[vI x.2.1,AA x.2.2.1,AA x.2.2.2.1,vI x.2.2.2.2.1,x.2.2.2.2.2.2.1,x.2.2.2.2.2.2.2.2.1,AA x.2.2.2.2.2.2.2.2.2.1,vS x.2.2.2.2.2.2.2.2.2.2.1] 148)::AH 79 4 x.2.2.2.2.2.2.1 AJ x.2.2.2.2.2.1::AH 31 2 x.2.2.2.2.2.2.2.2.1 Af x.2.2.2.2.2.2.2.1::AP b3 (.cells #[vI (wI (y1.1.toNat:Int)),AA x.2.2.2.2.2.2.2.2.2.2.2.1,AA x.2.2.2.2.2.2.2.2.2.2.2.2.1,vI x.2.2.2.2.2.2.2.2.2.2.2.2.2.1,zN,x.2.2.2.2.2.2.2.2.2.2.2.2.2.2.2,AA 0,vS []] 148)::AH 79 4 zN AJ []::AH 31 2 x.2.2.2.2.2.2.2.2.2.2.2.2.2.2.2 Af x.2.2.2.2.2.2.2.2.2.2.2.2.2.2.1::H) ?_ (fun x D h=>?_)
 refine Z (AD E Ph (AF 5 D6 E (Y E CE (V ?_))))
 refine AT h E (fun hc1 h=>?_) fun hc1 h=>?_
 refine Z ?_
 refine AC h fun y12 hy12 h=>?_
 refine AF 9 M3 E (AQ 1 Iv (CS hy12) E (Av E E (Pv CR FY) (AD E Gh (AD E Ef (Ak 5 E E E E NK E E E zT (Du 5 (AP b3 (.cells #[vI (wI (y1.1.toNat:Int)),AA 0,AA 0,vI (wI (y12.1.toNat:Int)),zN,zN,AA 0,vS []] 148)) (V (AE ?_))))))))
 refine AC h fun y13 hy13 h=>?_
 refine AC h fun y14 hy14 h=>?_
 refine Ai CY [9] (Bm [(true,0),(true,3),(false,1),(true,2),(true,6),(true,7),(false,4),(true,5),(false,8),(true,9),(true,10)] (.last 11 .nil)) zK (AF 0 M3 E (AF 0 M3 E (BS 1 Iv (CS hy13) E ⟨⟨9,E⟩,zT⟩ (Av E E (Cg CR Bv) (AD E Gh (AD E Hi (BS 1 Iv (CS hy14) E ⟨⟨9,E⟩,zT⟩ ?_)))))))
 refine Av E E (Cg CR Bv) (Ak 5 E E E E Bj E E E ⟨⟨9,E⟩,zT⟩ (Du 5 (AP b3 (.cells #[vI (wI (y1.1.toNat:Int)),AA y13.1.toUInt32,AA 0,vI (wI (y12.1.toNat:Int)),zN,zN,AA 0,vS []] 148)) (AD E Gh (AD E Hl (BK (Ak 5 E E E E Bj E E E zT (Du 5 (AP b3 (.cells #[vI (wI (y1.1.toNat:Int)),AA y13.1.toUInt32,AA y14.1.toUInt32,vI (wI (y12.1.toNat:Int)),zN,zN,AA 0,vS []] 148)) (V ?_))))))))
 refine A5 (α:=Cs×List Ad×Value) (fun x=>Qe y1 y12 y13 y14 x.1 x.2.1=some r) (fun x=>[(0,vP BD 0),(2,vP b2 0),(3,vP b3 0)]) (fun x=>AP BD (.cells #[vS x.1.s,vB x.1.short] 194)::AP b2 (.cells #[vI 0,AA 0,AA 0,vI 0,zN,zN,AA 0,vS []] 148)::AH 79 4 zN AJ []::AH 31 2 zN Af []::AP b3 (.cells #[vI (wI (y1.1.toNat:Int)),AA y13.1.toUInt32,AA y14.1.toUInt32,vI (wI (y12.1.toNat:Int)),zN,x.2.2,AA 0,vS []] 148)::AH 79 4 zN AJ []::AH 31 2 x.2.2 Af x.2.1::H) ?_ (fun x D h=>?_)
 refine Z (J E (PW E E E (J E (V (AN ?_)))))
 refine SX.heap (SX.mono (A6 (α:=Nat×Cs×List Ad×Value×Int) (fun x=>LM y1 x1 y12 y13 y14 x.1 (x.2.1,x.2.2.1,x.2.2.2.2)=some r) (fun x=>[(0,vP BD 0),(1,vP b1 0),(2,vP b2 0),(3,vP b3 0),(32,vI (min x1 5)),(33,vI x.2.2.2.2)]) (fun x=>AP BD (.cells #[vS x.2.1.s,vB x.2.1.short] 194)::AP b1 (.cells #[vP BD 0] 192)::AP b2 (.cells #[vI 0,AA 0,AA 0,vI 0,zN,zN,AA 0,vS []] 148)::AH 79 4 zN AJ []::AH 31 2 zN Af []::AP b3 (.cells #[vI (wI (y1.1.toNat:Int)),AA y13.1.toUInt32,AA y14.1.toUInt32,vI (wI (y12.1.toNat:Int)),zN,x.2.2.2.1,AA 0,vS []] 148)::AH 79 4 zN AJ []::AH 31 2 x.2.2.2.1 Af x.2.2.1::H) (fun x=>x.1) (fun x D h=>?_) (n,y14.2,[],zN,0) h) tL) (BG [0,9,8,7,6,5,2,1] 10 E E E)
 obtain⟨m1,o3,l5,v5,a1⟩:=x
 dsimp only at h
 rcases m1 with _ | m1
 cases (show(none:Option _)=some r from h)
 replace h:GE y1 x1 y12 y13 y14 (LM y1 x1 y12 y13 y14 m1) o3 l5 a1=some r:=h
 unfold GE at h
 try dsimp only
 refine Z (Y E Aw (V (AE ?_)))
 refine AT h E (fun hc2 h=>?_) fun hc2 h=>?_
 refine AI (AG (AE (AN ?_)))
 refine AC h fun y15 hy15 h=>?_
 refine AC h fun l6 hl6 h=>?_
 refine Ai CY [1,5] (Bm [(true,0),(true,1),(true,2),(false,3),(false,4),(false,5),(true,6)] (.last 7 .nil)) zK (AD E Dn (AF 1 Hq E (AF 0 M3 E (BS 1 k7 (PQ hy15) E ⟨⟨1,E⟩,⟨5,E⟩,zT⟩ ?_))))
 refine Bz [_] rfl E1 DD DX ⟨rfl,trivial⟩ rfl rfl rfl zW rfl rfl (fun _=>⟨⟨2,rfl⟩,⟨6,rfl⟩,trivial⟩) fun b4=>?_
 refine B2 Af 2 ([y15.1]:List Ad) E zV E ?_
 refine CQ 8 hl6 (sz:=2) (enc:=Af) zV E E1 DD gH DX E zD E E E E (Bs (sz:=2) (enc:=Af) 0 zV E) (by simp[Af,Value.oneCell']) (fun _=>⟨⟨2,E⟩,⟨6,E⟩,zT⟩) fun v6=>?_
 refine AD E Dn (BK ?_)
 refine Bq 8 E fun hv1 ho1=>?_
 refine Dk 6 E E E E dC hv1 ho1 E zT (AU (Ao (AG (AK (Y E Az (J E (AU ?_)))))))
 exact Al (m1,y15.2,l6,v6,wI (a1+1)) h (Nat.lt_succ_self _) tL (BG [1,2,3,4,5,6,7,8] 9 E E E)
 refine Ax (A3 (BO (A0 ?_)))
 exact Au (o3,l5,v5) h tL (BG [0,2,3,4,5,6,7] 8 E E E)
 obtain⟨o2,l4,v4⟩:=x
 dsimp only at h
 unfold Qe at h
 try dsimp only
 refine Z (Ac [vI (wI (y1.1.toNat:Int)),AA y13.1.toUInt32,AA y14.1.toUInt32,vI (wI (y12.1.toNat:Int)),zN,v4,AA 0,vS []] E E6 E E (Aa 4 E) ?_)
 refine Bq 5 E fun hv2 ho2=>?_
 refine Bq 6 E fun hv3 ho3=>?_
 refine Ak 1 E E E E HL E (by simp only[Value.oneCell']at ho2 ho3;simp[Value.cells,Value.cells,Value.oneCell',ho2,ho3]) E zT (V (AL (Eg (Fa ?_))))
 obtain rfl:=zI h
 exact AX (ES E (BB 1 [vI (wI (y1.1.toNat:Int)),AA y13.1.toUInt32,AA y14.1.toUInt32,vI (wI (y12.1.toNat:Int)),zN,v4,AA 0,vS []] E6 E E E E)) (AY (M:=[_,_,_]) ⟨zN,v4,E,E⟩ fun _ hw=>Bc.pick (H:=[_,_,_,_,_,_,_]) hw [5,6,0] 7 E)
 refine AI ?_
 exact Au (y2.2,0,0,0,0,[],zN,[],zN,0,[],0,0,0,[],zN) h tL (BG [0,9,8,7,6,5,2,1] 10 E E E)
 obtain⟨o1,y3,y4,y5,y6,l1,v1,l2,v2,y7,y8,y9,y10,y11,l3,v3⟩:=x
 dsimp only at h
 unfold Qy at h
 try dsimp only
 refine Z ?_
 refine AC h fun y16 hy16 h=>?_
 refine AF 1 M3 E (AQ 1 k7 (PQ hy16) E (AD E FF (Ak 5 E E E E DD E E E zT (Du 5 (AP b3 (.cells #[vI (wI (y1.1.toNat:Int)),AA y9,AA y10,vI y11,zN,v3,AA y16.1.page,vS y16.1.tag] 148)) (V ?_)))))
 refine A5 (α:=List UInt8) (fun x=>MV n y1 x1 y9 y10 y11 l3 y16 x=some r) (fun x=>[(0,vP BD 0),(1,vP b1 0),(2,vP b2 0),(3,vP b3 0),(4,vI x1)]) (fun x=>AP BD (.cells #[vS y16.2.s,vB y16.2.short] 194)::AP b1 (.cells #[vP BD 0] 192)::AP b2 (.cells #[vI y3,AA y4,AA y5,vI y6,v1,v2,AA y7,vS y8] 148)::AH 79 4 v1 AJ l1::AH 31 2 v2 Af l2::AP b3 (.cells #[vI (wI (y1.1.toNat:Int)),AA y9,AA y10,vI y11,zN,v3,AA y16.1.page,vS x] 148)::AH 79 4 zN AJ []::AH 31 2 v3 Af l3::H) ?_ (fun y17 D h=>?_)
 refine AE ?_
 refine AC h fun y18 hy18 h=>?_
 refine Ai CY [5] (Bm [(true,0),(true,1),(false,2),(false,3)] (.last 4 .nil)) zK (AD rfl FF (Ac [AA y16.1.page,vS y16.1.tag] rfl Cb rfl rfl (Ce 0 rfl (by rintro(_ | (_ | j)) u hj<;>first | exact hj | exact absurd hj zS)) (BS 0 QV (U4 hy18) rfl ⟨⟨5,rfl⟩,trivial⟩ (BJ [_] rfl Km Kl DX ⟨rfl,trivial⟩ rfl (BK ?_)))))
 refine Tg E gG E E (Cc E E (KD (a:=y16.1.page) (b:=0)) (Cc E E (Sp (a:=y16.1.tag) (b:=y18)) If)) ?_
 refine V ?_
 refine AT h E (fun hc3 h=>?_) fun hc3 h=>?_
 refine AK (AD E FF (AD E L8 (Ak 5 E E E E Hp E E E zT (Du 5 (AP b3 (.cells #[vI (wI (y1.1.toNat:Int)),AA y9,AA y10,vI y11,zN,v3,AA y16.1.page,vS []] 148)) (AU ?_)))))
 exact Au [] h tL (BG [0,1,2,3,4,5,6,7] 8 E E E)
 refine AI ?_
 exact Au y16.1.tag h tL (BG [0,1,2,3,4,5,6,7] 8 E E E)
 unfold MV at h
 try dsimp only
 refine AE (K4 (AG ?_))
 refine A5 (α:=Cs×List AM×Value) (fun x=>Ni y1 y9 y10 y11 l3 y16 y17 x.1 x.2.1=some r) (fun x=>[(0,vP BD 0),(2,vP b2 0),(3,vP b3 0)]) (fun x=>AP BD (.cells #[vS x.1.s,vB x.1.short] 194)::AP b2 (.cells #[vI y3,AA y4,AA y5,vI y6,v1,v2,AA y7,vS y8] 148)::AH 79 4 v1 AJ l1::AH 31 2 v2 Af l2::AP b3 (.cells #[vI (wI (y1.1.toNat:Int)),AA y9,AA y10,vI y11,x.2.2,v3,AA y16.1.page,vS y17] 148)::AH 79 4 x.2.2 AJ x.2.1::AH 31 2 v3 Af l3::H) ?_ (fun x D h=>?_)
 refine Z ?_
 refine AC h fun y19 hy19 h=>?_
 refine AF 1 M3 E (J E (Bn 0 rN (qh hy19) E ?_))
 rintro _ _ ⟨b5,b6,rfl,rfl⟩
 refine V (AN ?_)
 refine SX.heap (fX (enc:=oz) (C:=fun s=>fg BD s.2) (0,y16.2) (G0:=AP b1 (.cells #[vP BD 0] 192)::AP b2 (.cells #[vI y3,AA y4,AA y5,vI y6,v1,v2,AA y7,vS y8] 148)::AH 79 4 v1 AJ l1::AH 31 2 v2 Af l2::AP b3 (.cells #[vI (wI (y1.1.toNat:Int)),AA y9,AA y10,vI y11,zN,v3,AA y16.1.page,vS y17] 148)::AH 79 4 zN AJ []::AH 31 2 v3 Af l3::H) (fun s G=>∃(m:Nat) (x:Cs×List AM×Value),J3 y1 y9 y10 y11 l3 y16 y17 (H4 x1) (Oa x1) m s (x.1,x.2.1)=some r∧G=AP b1 (.cells #[vP BD 0] 192)::AP b2 (.cells #[vI y3,AA y4,AA y5,vI y6,v1,v2,AA y7,vS y8] 148)::AH 79 4 v1 AJ l1::AH 31 2 v2 Af l2::AP b3 (.cells #[vI (wI (y1.1.toNat:Int)),AA y9,AA y10,vI y11,x.2.2,v3,AA y16.1.page,vS y17] 148)::AH 79 4 x.2.2 AJ x.2.1::AH 31 2 v3 Af l3::H) (fun c G=>(c=.exit 2∧∃x:Cs×List AM×Value,Ts y1 y9 y10 y11 l3 y16 y17 x.1 x.2.1=some r∧G=AP BD (.cells #[vS x.1.s,vB x.1.short] 194)::AP b1 (.cells #[vP BD 0] 192)::AP b2 (.cells #[vI y3,AA y4,AA y5,vI y6,v1,v2,AA y7,vS y8] 148)::AH 79 4 v1 AJ l1::AH 31 2 v2 Af l2::AP b3 (.cells #[vI (wI (y1.1.toNat:Int)),AA y9,AA y10,vI y11,x.2.2,v3,AA y16.1.page,vS y17] 148)::AH 79 4 x.2.2 AJ x.2.1::AH 31 2 v3 Af l3::H)) rfl qg rfl zV (sG hy19 _) rfl ⟨n,(y16.2,[],zN),h,rfl⟩ (fun s G hJ=>by obtain⟨m,x,h,_⟩:=hJ;exact fK h) (fun s0 e1 s1 G hst hJ lr lp Rest=>?_) (fun s G D hds hJ=>?_) (fun c G D hX=>?_)) (BG [0,1,2,3,4,5,6,7,8,9] 10 rfl rfl rfl)
 obtain⟨m1,⟨_,l8,v8⟩,h,rfl⟩:=hJ
 obtain⟨k1,o5⟩:=s1
 unfold J3 at h
 obtain⟨m2,h⟩:=dd iJ h hst
 replace h:MW y1 y9 y10 y11 l3 y16 y17 (J3 y1 y9 y10 y11 l3 y16 y17 (H4 x1) (Oa x1) m2 (k1,o5)) e1 o5 l8=some r:=h
 unfold MW at h
 refine AK ?_
 refine Ag E EN zU fun b7=>?_
 refine Ak 0 E E E E B4 E E E zT (AU ?_)
 refine Lv (G:=AP b7 (.cells #[Ar e1.id,AA e1.x,AA e1.y,vS e1.txt] 79)::AP BD (.cells #[vS o5.s,vB o5.short] 194)::AP b1 (.cells #[vP BD 0] 192)::AP b2 (.cells #[vI y3,AA y4,AA y5,vI y6,v1,v2,AA y7,vS y8] 148)::AH 79 4 v1 AJ l1::AH 31 2 v2 Af l2::AP b3 (.cells #[vI (wI (y1.1.toNat:Int)),AA y9,AA y10,vI y11,v8,v3,AA y16.1.page,vS y17] 148)::AH 79 4 v8 AJ l8::AH 31 2 v3 Af l3::H) ?_
 refine AN (Z ?_)
 refine AC h fun l9 hl9 h=>?_
 refine AD E Fx (AF 6 FO E (Ac [Ar e1.id,AA e1.x,AA e1.y,vS e1.txt] E Ex E E (Aa 0 E) ?_))
 refine Bz [_] rfl Bt B4 EN ⟨rfl,trivial⟩ rfl rfl rfl zW rfl rfl zU fun b8=>?_
 refine B2 AJ 4 ([e1]:List AM) E zV E ?_
 refine CQ 8 hl9 (sz:=4) (enc:=AJ) zV E Bt B4 PM EN E zD E E E E (Bs (sz:=4) (enc:=AJ) 0 zV E) (by simp[AJ,Value.oneCell']) zU fun v9=>?_
 refine AD E Fx ?_
 refine Bq 8 E fun hv4 ho4=>?_
 refine Dk 7 E E E E LS hv4 ho4 E zT (V (Z (AF 3 M3 E (AV E E (AD E YL (AF 2 Wi E (J E ?_)))))))
 refine C9 (c:=decide (4<(l9.length:Int))) 68 5 73 E (fun hb k=>?_) (fun hb k=>?_) ?_
 refine AB E (AB E (AB E (AB E (Ae E E E ?_))))
 exact k.mono tL
 refine AD E Fx (AF 7 FO E (Dg 8 E Bt E E (Y E Ca (Ae E E E ?_))))
 exact k.mono tL
 refine V ?_
 refine AT h E (fun hc4 h=>?_) fun hc4 h=>?_
 refine Ax (M7 ?_)
 exact N6 ⟨E,(o5,l9,v9),h,E⟩ (BG [2,3,4,5,6,7,8,9] 10 E E E)
 refine AI (Ao ?_)
 exact I7 ⟨_,E,m2,(o5,l9,v9),h,E⟩ (BG [2,3,4,5,6,7,8,9] 10 E E E)
 obtain⟨m1,⟨_,l8,v8⟩,h,rfl⟩:=hJ
 obtain⟨k1,o5⟩:=s
 unfold J3 at h
 replace h:=ff h hds
 replace h:Qv y1 y9 y10 y11 l3 y16 y17 o5 l8=some r:=h
 unfold Qv at h
 refine Ao ?_
 exact Au (o5,l8,v8) h tL (BG [0,2,3,4,5,6,7] 8 E E E)
 obtain⟨rfl,hJ⟩:=hX
 obtain⟨⟨o5,l8,v8⟩,h,rfl⟩:=hJ
 dsimp only at h
 unfold Ts at h
 refine Ax (A0 ?_)
 exact Au (o5,l8,v8) h tL (BG [0,2,3,4,5,6,7] 8 E E E)
 obtain⟨o4,l7,v7⟩:=x
 dsimp only at h
 unfold Ni at h
 try dsimp only
 refine Z (Ac [vI (wI (y1.1.toNat:Int)),AA y9,AA y10,vI y11,v7,v3,AA y16.1.page,vS y17] E E6 E E (Aa 4 E) ?_)
 refine Bq 5 E fun hv5 ho5=>?_
 refine Bq 6 E fun hv6 ho6=>?_
 refine Ak 1 E E E E HL E (by simp only[Value.oneCell']at ho5 ho6;simp[Value.cells,Value.cells,Value.oneCell',ho5,ho6]) E zT (V (AL (Fa ?_)))
 obtain rfl:=zI h
 exact AX (ES E (BB 1 [vI (wI (y1.1.toNat:Int)),AA y9,AA y10,vI y11,v7,v3,AA y16.1.page,vS y17] E6 E E E E)) (AY (M:=[_,_,_]) ⟨v7,v3,E,E⟩ fun _ hw=>Bc.pick (H:=[_,_,_,_,_,_,_]) hw [5,6,0] 7 E)
end

section
variable {K:Nat→Prop}{w0:World}{H:List AW}
def Er(n:Nat)(p0:List UInt8):Option (BP×Int):=
 (Uk n ({ s:=p0,short:=false }:Cs)).bind fun y1=>
 (Nn (y1.2.short||(!decide (y1.2.s=[]))) ((J2 n y1.1).bind fun y2=>some (!y2))).bind fun y3=>
 cond y3
 (
  some ((⟨0,0,0,0,[],[],0,[]⟩:BP),90))
 (
  some (y1.1,0))
theorem Y0{n:Nat}{p0:List UInt8}{r:BP×Int}(h:Er n p0=some r): zC K w0 82 [vS p0] [] H (fun u M=>∃Fv Fr:Value,u=.tuple #[.agg #[vI r.1.kind,AA r.1.cx,AA r.1.cy,vI r.1.lev,Fv,Fr,AA r.1.npage,vS r.1.ntag],vI r.2]∧M=[AH 79 4 Fv AJ r.1.rows,AH 31 2 Fr Af r.1.kids]):=by
 unfold Er at h
 refine Ua.enter Tryz.func82 rfl rfl ?_
 refine Z ?_
 refine Ag E Gy zU fun b1=>?_
 refine Bk 79 4 AJ (Bk 31 2 Af (O E (V (Z (J E (BJ [_] E tZ vD tO ⟨E,zT⟩ E ?_))))))
 refine Bf E E zU fun b2=>?_
 refine O E (V (Z ?_))
 refine AC h fun y1 hy1 h=>?_
 refine J E (Bn 1 rj (u7 hy1) E ?_)
 rintro _ _ ⟨v1,v2,rfl,rfl⟩
 refine Ag E Gy zU fun b3=>?_
 refine Bk 79 4 AJ (Bk 31 2 Af ?_)
 refine Bq 3 E fun hv1 ho1=>?_
 refine Bq 4 E fun hv2 ho2=>?_
 refine Ak 2 E E E E HL E (by simp only[Value.oneCell']at ho1 ho2;simp[Value.cells,Value.cells,Value.oneCell',ho1,ho2]) E zT (Du 2 (AP b3 (.cells #[vI y1.1.kind,AA y1.1.cx,AA y1.1.cy,vI y1.1.lev,v1,v2,AA y1.1.npage,vS y1.1.ntag] 148)) (V (AE (Z ?_))))
 refine AC h fun y3 hy3 h=>?_
 refine J E (AV E E (AD E YL (AF 5 Wi E (J E ?_))))
 refine C9 (c := !decide (y1.2.s=[])) 15 6 21 E (fun hb k=>?_) (fun hb k=>?_) ?_
 refine AB E (AB E (AB E (AB E (AB E (Ae E E E ?_)))))
 exact k.mono tL
 refine J E (AV E E (AD E Sn (AF 5 Fm E (Y E I1 (Ae E E E ?_)))))
 exact k.mono tL
 refine J E ?_
 refine KM 22 4 26 hy3 E (fun hb k=>?_) (fun hb hg2 k=>?_) ?_
 refine AB E (AB E (AB E (Ae E E E ?_)))
 exact k.mono tL
 obtain⟨y2,hy2,hg2⟩:=bnd hg2
 obtain rfl:=zI hg2
 refine Ac [vI y1.1.kind,AA y1.1.cx,AA y1.1.cy,vI y1.1.lev,v1,v2,AA y1.1.npage,vS y1.1.ntag] E E6 E E (Aa 2 E) (SL.pick [3,4,0,1,2] 5 ?_)
 refine Bg (vs:=[_]) (Hin:=[_,_]) (Hr:=_::_::_::_::_::_::_::_) E E ⟨E,zT⟩ kH E E (CV (B:=[_,_]) (Hin:=[]) fun K' w1 hk hB=>(UJ hy2 (B7 (e:=79) (v:=v1) zV (hB _ zS)) (B7 (e:=31) (v:=v2) zV (hB _ zS)) :)) ?_
 rintro _ _ ⟨_,rfl,rfl,rfl⟩
 refine⟨trivial,?_⟩
 refine CH E E (Ae E E E ?_)
 exact SL.mono (SL.heap k fun _ hw=>Bc.pick (H:=[_,_,_,_,_,_,_,_,_]) hw [2,3,4,0,1,5,6,7,8] 9 E) tL
 refine V ?_
 refine AT h E (fun hc1 h=>?_) fun hc1 h=>?_
 refine Z (BJ [] E QH QN Gy zT E (Ak 8 E E E E HL E E E zT (Du 8 (AP b1 (.cells #[vI 0,AA 0,AA 0,vI 0,zN,zN,AA 0,vS []] 148)) (Bk 79 4 AJ (Bk 31 2 Af (O E (V (AL (AZ ?_)))))))))
 obtain rfl:=zI h
 exact AX (DV E (BB 10 [vI 0,AA 0,AA 0,vI 0,zN,zN,AA 0,vS []] E6 E E E E) E) (AY (M:=[_,_]) ⟨zN,zN,E,E⟩ fun _ hw=>Bc.pick (H:=[_,_,_,_,_,_,_,_,_,_,_]) hw [1,0] 11 E)
 refine AI (AG (Z (Ac [vI y1.1.kind,AA y1.1.cx,AA y1.1.cy,vI y1.1.lev,v1,v2,AA y1.1.npage,vS y1.1.ntag] E E6 E E (Aa 2 E) ?_)))
 refine Bq 3 E fun hv3 ho3=>?_
 refine Bq 4 E fun hv4 ho4=>?_
 refine Ak 8 E E E E HL E (by simp only[Value.oneCell']at ho3 ho4;simp[Value.cells,Value.cells,Value.oneCell',ho3,ho4]) E zT (Du 8 (AP b1 (.cells #[vI y1.1.kind,AA y1.1.cx,AA y1.1.cy,vI y1.1.lev,v1,v2,AA y1.1.npage,vS y1.1.ntag] 148)) (O E (V (AL ?_))))
 obtain rfl:=zI h
 exact AX (DV E (BB 8 [vI y1.1.kind,AA y1.1.cx,AA y1.1.cy,vI y1.1.lev,v1,v2,AA y1.1.npage,vS y1.1.ntag] E6 E E E E) E) (AY (M:=[_,_]) ⟨v1,v2,E,E⟩ fun _ hw=>Bc.pick (H:=[_,_,_,_,_,_,_,_,_]) hw [3,4] 9 E)
end

section
def Gb(r:AM):Bool:=decide (max r.x r.y<2147483648)&&decide ((r.txt.length:Int)≤16)
def EO:List AM→Bool
 | []=>true
 | [_]=>true
 | a::b::l=>decide (a.id<b.id)&&EO (b::l)
def Cp(l:List AM):Bool:=l.all Gb&&EO l&&decide ((l.length:Int)≤1000)
theorem XM{a b:UInt64}:decide (b≤a) = !decide (a<b):=by
 rw[Bool.eq_iff_iff]
 simp only[Bool.not_eq_true',decide_eq_false_iff_not,decide_eq_true_eq]
 rw[UInt64.le_iff_toNat_le,UInt64.lt_iff_toNat_lt]
 omega
theorem Rl:∀(l:List AM) (a b:AM),EO (l++[a,b])=(EO (l++[a])&&decide (a.id<b.id))
 | [],a,b=>by simp[EO]
 | [x],a,b=>by simp[EO]
 | x::y::l,a,b=>by
  have:=Rl (y::l) a b
  simp only[List.cons_append,EO]at this ⊢
  rw[this,Bool.and_assoc]
theorem c8(l r:List AM)(h:EO (l++r)=true):EO l=true:=by
 induction l with
 | nil=>rfl
 | cons a l ih=>
  cases l with
  | nil=>rfl
  | cons b l=>
   simp only[List.cons_append,EO,Bool.and_eq_true]at h ⊢
   exact⟨h.1,ih h.2⟩
theorem OA(l:List AM):EO l=true↔l.Pairwise fun a b=>a.id<b.id:=by
 induction l with
 | nil=>simp[EO]
 | cons a l ih=>
  cases l with
  | nil=>simp[EO]
  | cons b l=>
   simp only[EO,Bool.and_eq_true,decide_eq_true_eq,ih]
   constructor
   rintro⟨h1,h2⟩
   refine List.pairwise_cons.2 ⟨fun c hc=>?_,h2⟩
   rcases List.mem_cons.1 hc with rfl | hc
   exact h1
   have:=(List.pairwise_cons.1 h2).1 c hc
   rw[UInt64.lt_iff_toNat_lt]at*
   omega
   intro h
   exact⟨(List.pairwise_cons.1 h).1 b zS,(List.pairwise_cons.1 h).2⟩
theorem QB{n:Nat}(l:List AM)(hn:l.length<n)(hb:l.length≤1073741824):J4 n l=some (Cp l):=by
 have key:∀(T S:List AM),l=S++T→S.all Gb=true→EO S=true→∀m,T.length<m→HJ l m (S.length:Int)=some (Cp l):=by
  intro T
  induction T with
  | nil=>
   intro S hl h1 h2 m hm
   obtain⟨m,rfl⟩:∃k,m=k+1:=⟨m-1,by omega⟩
   show E4 l (HJ l m) _=_
   unfold E4
   simp only[List.append_nil]at hl
   subst hl
   rw[zf zO,A9]
   unfold K7 Cp
   rw[A7,h1,h2]
   rfl
  | cons r T ih=>
   intro S hl h1 h2 m hm
   obtain⟨m,rfl⟩:∃k,m=k+1:=⟨m-1,by omega⟩
   have hlen:l.length=S.length+(T.length+1):=by rw[hl];simp
   show E4 l (HJ l m) _=_
   unfold E4
   have n1:Aq l (S.length:Int)=some r:=by
    rw[D1 rfl,hl]
    simp
   have hrow:I2 r=some (Gb r):=by
    unfold I2
    rw[A7]
    rfl
   rw[zt zO,BZ,n1,U,hrow,U]
   have hall:l.all Gb=(Gb r&&T.all Gb):=by rw[hl];simp[h1]
   by_cases hr:Gb r=true
   rw[hr]
   simp only[Nn,Bool.not_true,A9]
   rcases List.eq_nil_or_concat S with rfl | ⟨S0,a,rfl⟩
   have hz:decide (0<((([]:List AM).length:Nat):Int))=false:=rfl
   rw[hz]
   simp only[FQ,A9,U]
   rw[BC zS zS]
   have:=ih [r] (by rw[hl];rfl) (by simp[hr]) rfl m (by simp at hm;omega)
   simpa using this
   have hz:decide (0<(((S0.concat a).length:Nat):Int))=true:=by simp
   have hcl:(S0.concat a).length=S0.length+1:=by simp
   have n2:Aq l (wI (((S0.concat a).length:Int)-1))=some a:=by
    rw[BC zO zO,D1 (k:=S0.length) zO,hl]
    simp
   rw[hz]
   simp only[FQ,BZ,n2,U,XM]
   have hl':l=(S0.concat a++[r])++T:=by rw[hl];simp
   by_cases hlt:a.id<r.id
   rw[zt hlt,Bool.not_true,A9,BC zO zO]
   have hri:EO (S0.concat a++[r])=true:=by
    have:=Rl S0 a r
    rw[List.concat_eq_append,List.append_assoc]
    show EO (S0++[a,r])=true
    rw[this,←List.concat_eq_append,h2,zt hlt]
    rfl
   have:=ih (S0.concat a++[r]) hl' (by simp only[List.all_append,h1];simp[hr]) hri m (by simp at hm;omega)
   rw[show((S0.concat a++[r]).length:Int)=((S0.concat a).length:Int)+1 by simp only[List.length_append,List.length_singleton];omega]at this
   exact this
   rw[zf hlt,Bool.not_false,BZ]
   have:EO l=false:=by
    cases hx:EO l with
    | false=>rfl
    | true=>
     rw[hl']at hx
     have h5:=c8 _ _ hx
     rw[List.concat_eq_append,List.append_assoc]at h5
     have h6:EO (S0++[a,r])=true:=h5
     rw[Rl,zf hlt]at h6
     simp at h6
   unfold Cp
   rw[this]
   simp
   have hr':Gb r=false:=by simpa using hr
   rw[hr']
   simp only[Nn,Bool.not_false,BZ,U]
   unfold Cp
   rw[hall,hr']
   simp
 have:=key l [] rfl rfl rfl n hn
 unfold J4
 simpa using this
def DW(r:Ad):Bool:=decide (2≤r.page)&&decide ((r.tag.length:Int)=32)
def J7(r:Ad):Bool:=decide (r.page=0)&&decide (r.tag=[])
theorem Om(r:Ad):ER r=some (DW r):=by
 unfold ER
 rw[A7]
 rfl
def Ia(c:Be):Bool:=cond (decide (c.lev<0)||decide (31<c.lev)) false (decide ((c.x ||| c.y) &&& (shl64 1 c.lev.toNat-1).toUInt32=0)&&decide (max c.x c.y<2147483648))
theorem P9(c:Be):Ib c=some (Ia c):=by
 unfold Ib Ia
 cases h:decide (c.lev<0)||decide (31<c.lev)with
 | true=>rfl
 | false=>
  simp only[Bool.or_eq_false_iff,decide_eq_false_iff_not]at h
  unfold H5 Sq
  rw[A9,A9,if_pos zO,U,A7,U,A7,A7]
theorem dy{n:Nat}(l:List Ad)(hn:l.length<n)(hb:l.length≤1073741824):Yj n l=some (!l.all DW):=by
 have key:∀(T S:List Ad),l=S++T→S.all DW=true→∀m,T.length<m→∃y,MU l m (S.length:Int)=some y∧decide (0≤y) = !l.all DW:=by
  intro T
  induction T with
  | nil=>
   intro S hl h1 m hm
   obtain⟨m,rfl⟩:∃k,m=k+1:=⟨m-1,by omega⟩
   simp only[List.append_nil]at hl
   subst hl
   refine⟨-1,?_,by rw[h1];rfl⟩
   show II l (MU l m) _=_
   unfold II
   rw[zf zO,A9]
   rfl
  | cons r T ih=>
   intro S hl h1 m hm
   obtain⟨m,rfl⟩:∃k,m=k+1:=⟨m-1,by omega⟩
   have hlen:l.length=S.length+(T.length+1):=by rw[hl];simp
   have n1:Aq l (S.length:Int)=some r:=by
    rw[D1 rfl,hl]
    simp
   by_cases hr:DW r=true
   obtain⟨y,h5,h6⟩:=ih (S++[r]) (by rw[hl];simp) (by simp only[List.all_append,h1];simp[hr]) m (by simp at hm;omega)
   refine⟨y,?_,h6⟩
   show II l (MU l m) _=_
   unfold II Jq
   rw[zt zO,BZ,n1,U,Om,U,A7,U,hr,Bool.not_true,A9,BC zO zO]
   simpa using h5
   have hr':DW r=false:=by simpa using hr
   refine⟨(S.length:Int),?_,?_⟩
   show II l (MU l m) _=_
   unfold II Jq
   rw[zt zO,BZ,n1,U,Om,U,A7,U,hr',Bool.not_false,BZ]
   rw[hl]
   simp[hr']
 obtain⟨y,h1,h2⟩:=key l [] rfl rfl n hn
 unfold Yj fA
 have h1':MU l n 0=some y:=by simpa using h1
 rw[h1',U,A7,h2]
def CN(x:BP):Bool:=
 cond (decide (x.kind=1)) ((((decide (x.cx=0)&&(decide (x.cy=0)&&(decide (x.lev=0)&&true)))&&decide ((x.kids.length:Int)=0))&&decide ((x.rows.length:Int)≤4))&&Cp x.rows&&(J7 ⟨x.npage,x.ntag⟩||DW ⟨x.npage,x.ntag⟩))
  (cond (decide (x.kind=2)) ((x.kids.all DW&&decide ((x.rows.length:Int)=0))&&J7 ⟨x.npage,x.ntag⟩&&decide (2≤(x.kids.length:Int))&&decide ((x.kids.length:Int)≤4)&&Ia ⟨x.cx,x.cy,x.lev⟩&&decide (0<x.lev)) false)
theorem GZ(b c:Bool):FQ b (some c)=some (b&&c):=by cases b<;>rfl
theorem Mh(b c:Bool):Nn b (some c)=some (b||c):=by cases b<;>rfl
theorem Z0(r:Ad):I5 r=some (J7 r):=by
 unfold I5
 rw[A7]
 unfold J7
 simp
theorem Le{n:Nat}(x:BP)(hr:x.rows.length<n)(hk:x.kids.length<n)(hb:x.rows.length≤1073741824)(hc:x.kids.length≤1073741824):J2 n x=some (CN x):=by
 unfold J2 CN
 rw[A7]
 cases hk1:decide (x.kind=1)with
 | true=>
  rw[BZ,BZ,QB x.rows hr hb,U,GZ,U,Z0,U,Om,U,Mh,U,GZ,U]
 | false=>
  rw[A9,A9,A7]
  cases hk2:decide (x.kind=2)with
  | true=>
   rw[BZ,BZ,dy x.kids hk hc,U,Z0,U,GZ,U,P9,U,GZ,U,A7,Bool.not_not]
  | false=>rfl
end

section
def CX(r:Ad):List UInt8:=BE r.page.toUInt64 4++(r.tag++List.replicate (32-r.tag.length) 0)
def CI(r:AM):List UInt8:=BE r.id 8++(BE r.x.toUInt64 4++(BE r.y.toUInt64 4++(BE (BX (r.txt.length:Int)) 1++r.txt)))
def Cm(x:BP):List UInt8:=
 BE (BX x.kind) 1++cond (decide (x.kind=2)) (BE (BX (x.kids.length:Int)) 1++(BE (BX x.lev) 1++(BE x.cx.toUInt64 4++(BE x.cy.toUInt64 4++(x.kids.map CX).flatten))))
  (BE (BX (x.rows.length:Int)) 1++(CX ⟨x.npage,x.ntag⟩++(x.rows.map CI).flatten))
theorem ZT{s:List UInt8}{n:UInt64}{w:Int}(k:Nat)(hw:w=(k:Int))(hs:s.length≤1048576)(h:k≤8):J8 s n w=some (s++BE n k):=by
 subst hw
 unfold J8
 rw[if_pos ⟨hs,by omega,by omega⟩]
 rfl
theorem WH{s:List UInt8}{n:UInt64}(hs:s.length≤1048576):J8 s n 1=some (s++BE n 1):=ZT 1 rfl hs zO
theorem Yy{s:List UInt8}{n:UInt64}(hs:s.length≤1048576):J8 s n 4=some (s++BE n 4):=ZT 4 rfl hs zO
theorem vG{s:List UInt8}{n:UInt64}(hs:s.length≤1048576):J8 s n 8=some (s++BE n 8):=ZT 8 rfl hs zO
theorem Yz{n:Int}(k:Nat)(h:n=(k:Int))(hk:k≤8192):PF [0] n=some (List.replicate k 0):=by
 subst h
 unfold PF
 rw[if_pos ⟨rfl,by omega,by omega⟩]
 rfl
theorem js:PF [0] 32=some (List.replicate 32 0):=Yz 32 rfl zO
theorem gA{s t:List UInt8}(hs:s.length≤1048576)(ht:t.length≤1048576):YR s t=some (s++t):=if_pos ⟨hs,ht⟩
theorem G3{r:Ad}(h:r.tag.length≤32):(CX r).length=36:=by
 unfold CX
 simp[Aj]
 omega
theorem gl{s:List UInt8}{r:Ad}(hs:s.length≤1000000)(h:r.tag.length≤32):WS s r=some (s++CX r):=by
 unfold WS CX
 rw[if_pos h,Yy zO,U,Yz (32-r.tag.length) zO zO,U,Co zQ,U,gA (by simp[Aj];omega) zQ,List.append_assoc]
theorem D0{r:Ad}(h:DW r=true):r.tag.length=32∧2≤r.page.toNat:=by
 unfold DW at h
 simp only[Bool.and_eq_true,decide_eq_true_eq]at h
 exact⟨by omega,by have:=UInt32.le_iff_toNat_le.1 h.1;simpa using this⟩
theorem az{r:Ad}(h:J7 r=true):r=⟨0,[]⟩:=by
 unfold J7 at h
 simp only[Bool.and_eq_true,decide_eq_true_eq]at h
 cases r
 simp only at h
 rw[h.1,h.2]
theorem k0(x:BP)(hb:x.kids.length≤1000):∀(T S:List Ad) (s:List UInt8),x.kids=S++T→(∀r∈T,r.tag.length≤32)→s.length+36*T.length≤100000→∀m,T.length<m→GX x m (s,(S.length:Int))=some (s++(T.map CX).flatten,0)
 | [],S,s,hk,ht,hs,m,hm=>by
  obtain⟨m,rfl⟩:∃k,m=k+1:=⟨m-1,by omega⟩
  show Ec x (GX x m) _ _=_
  unfold Ec ax
  rw[hk]
  simp only[List.append_nil]
  rw[zf zO,A9,if_pos (by simp at hs ⊢;omega)]
  simp
 | r::T,S,s,hk,ht,hs,m,hm=>by
  obtain⟨m,rfl⟩:∃k,m=k+1:=⟨m-1,by omega⟩
  have hlen:x.kids.length=S.length+(T.length+1):=by rw[hk];simp
  have n1:Aq x.kids (S.length:Int)=some r:=by
   rw[D1 rfl,hk]
   simp
  simp only[List.length_cons]at hs hm
  have h32:=ht r zS
  show Ec x (GX x m) _ _=_
  unfold Ec
  dsimp only
  rw[zt zO,BZ,n1,U,gl zO h32,U,BC zO zO]
  have:=k0 x hb T (S++[r]) (s++CX r) (by rw[hk];simp) (fun q hq=>ht q (by simp[hq])) (by simp[G3 h32];omega) m zO
  simpa using this
theorem Oq(r:AM):(CI r).length=17+r.txt.length:=by
 unfold CI
 simp[Aj]
 omega
theorem kM(x:BP)(hb:x.rows.length≤1000):∀(T S:List AM) (s:List UInt8),x.rows=S++T→(∀r∈T,r.txt.length≤16)→s.length+33*T.length≤100000→∀m,T.length<m→GQ x m (s,(S.length:Int))=some (s++(T.map CI).flatten,0)
 | [],S,s,hk,ht,hs,m,hm=>by
  obtain⟨m,rfl⟩:∃k,m=k+1:=⟨m-1,by omega⟩
  show Ea x (GQ x m) _ _=_
  unfold Ea ax
  rw[hk]
  simp only[List.append_nil]
  rw[zf zO,A9,if_pos (by simp at hs ⊢;omega)]
  simp
 | r::T,S,s,hk,ht,hs,m,hm=>by
  obtain⟨m,rfl⟩:∃k,m=k+1:=⟨m-1,by omega⟩
  have hlen:x.rows.length=S.length+(T.length+1):=by rw[hk];simp
  have n1:Aq x.rows (S.length:Int)=some r:=by
   rw[D1 rfl,hk]
   simp
  simp only[List.length_cons]at hs hm
  have h16:=ht r zS
  show Ea x (GQ x m) _ _=_
  unfold Ea
  dsimp only
  rw[zt zO,BZ,n1,U,vG zO,U,Yy (by simp[Aj];omega),U,Yy (by simp[Aj];omega),U,
   WH (by simp[Aj];omega),U,gA (by simp[Aj];omega) zO,U,BC zO zO]
  have:=kM x hb T (S++[r]) (s++CI r) (by rw[hk];simp) (fun q hq=>ht q (by simp[hq])) (by simp[Oq];omega) m zO
  simpa[CI]using this
theorem EP{x:BP}(h:CN x=true)(hk:x.kind=1):x.cx=0∧x.cy=0∧x.lev=0∧x.kids=[]∧x.rows.length≤4∧Cp x.rows=true∧((x.npage=0∧x.ntag=[])∨DW ⟨x.npage,x.ntag⟩=true):=by
 unfold CN at h
 rw[zt hk,BZ]at h
 simp only[Bool.and_eq_true,decide_eq_true_eq,Bool.or_eq_true,Bool.and_true]at h
 obtain⟨⟨⟨⟨⟨h1,h2,h3⟩,h4⟩,h5⟩,h6⟩,h7⟩:=h
 refine⟨h1,h2,h3,List.length_eq_zero_iff.1 zO,by omega,h6,?_⟩
 rcases h7 with h7 | h7
 have:=az h7
 simp only[Ad.mk.injEq]at this
 exact .inl this
 exact .inr h7
theorem Dx{x:BP}(h:CN x=true)(hk:x.kind≠1):x.kind=2∧(∀r∈x.kids,DW r=true)∧x.rows=[]∧x.npage=0∧x.ntag=[]∧2≤x.kids.length∧x.kids.length≤4∧Ia ⟨x.cx,x.cy,x.lev⟩=true∧0<x.lev:=by
 unfold CN at h
 rw[zf hk,A9]at h
 cases hk2:decide (x.kind=2)with
 | false=>rw[hk2]at h;cases h
 | true=>
  rw[hk2,BZ]at h
  simp only[Bool.and_eq_true,decide_eq_true_eq]at h
  obtain⟨⟨⟨⟨⟨⟨h1,h2⟩,h3⟩,h4⟩,h5⟩,h6⟩,h7⟩:=h
  have:=az h3
  simp only[Ad.mk.injEq]at this
  exact⟨by simpa using hk2,fun r hr=>List.all_eq_true.1 h1 r hr,List.length_eq_zero_iff.1 zO,this.1,this.2,by omega,by omega,h6,h7⟩
theorem Kp{l:List AM}(h:Cp l=true):∀r∈l,r.txt.length≤16:=fun r hr=>by
 unfold Cp at h
 simp only[Bool.and_eq_true]at h
 have:=List.all_eq_true.1 h.1.1 r hr
 unfold Gb at this
 simp only[Bool.and_eq_true,decide_eq_true_eq]at this
 omega
theorem Rt{n:Nat}{x:BP}(hn:10≤n)(h:CN x=true):El n x=some (Cm x,0):=by
 by_cases hk:x.kind=1
 obtain⟨h1,h2,h3,h4,h5,h6,h7⟩:=EP h hk
 have h32:x.ntag.length≤32:=by
  rcases h7 with h7 | h7
  rw[h7.2];simp
  have:=(D0 h7).1
  simp only at this
  omega
 unfold El Cm
 rw[Le x zO (by rw[h4];simp;omega) zO (by rw[h4];simp),U,h,Bool.not_true,A9,WH zS,U,show decide (x.kind=2)=false by rw[hk];rfl,A9,A9,
  WH (by simp[Aj]),U,gl (by simp[Aj]) h32,U]
 have:=kM x zO x.rows [] (BE (BX x.kind) 1++(BE (BX (x.rows.length:Int)) 1++CX ⟨x.npage,x.ntag⟩)) rfl (Kp h6) (by simp[Aj,G3 (r:=⟨x.npage,x.ntag⟩) h32];omega) n zO
 simpa using this
 obtain⟨hk2,h1,h2,h3,h4,h5,h6,h7,h8⟩:=Dx h hk
 unfold El Cm
 rw[Le x (by rw[h2];simp;omega) zO (by rw[h2];simp) zO,U,h,Bool.not_true,A9,WH zS,U,show decide (x.kind=2)=true by rw[hk2];rfl,BZ,BZ,
  WH (by simp[Aj]),U,WH (by simp[Aj]),U,Yy (by simp[Aj]),U,Yy (by simp[Aj]),U]
 have:=k0 x zO x.kids [] (BE (BX x.kind) 1++(BE (BX (x.kids.length:Int)) 1++(BE (BX x.lev) 1++(BE x.cx.toUInt64 4++BE x.cy.toUInt64 4)))) rfl (fun r hr=>by have:=(D0 (h1 r hr)).1;omega) (by simp[Aj];omega) n zO
 simpa using this
theorem Zw{n:Nat}{x:BP}(hr:x.rows.length<n)(hk:x.kids.length<n)(hb:x.rows.length≤1073741824)(hc:x.kids.length≤1073741824)(h:CN x=false):El n x=some ([],90):=by
 unfold El
 rw[Le x hr hk hb hc,U,h]
 rfl
theorem S8{a b:List UInt8}{sh:Bool}{k:Int}(hk:k=(a.length:Int)):Da ⟨a++b,sh⟩ k=some (a,⟨b,sh⟩):=by
 subst hk
 unfold Da
 have h1:Cr (a++b) 0 (a.length:Int)=some (((a++b).drop 0).take (a.length-0)):=Dm rfl rfl zO zS
 have h2:Cr (a++b) (a.length:Int) ((a++b).length:Int)=some (((a++b).drop a.length).take ((a++b).length-a.length)):=Dm rfl rfl zS zS
 rw[zf zQ,A9]
 dsimp only
 rw[h1,U,h2,U]
 simp
theorem da{v:UInt64}{w:Nat}{k:Int}{b:List UInt8}{sh:Bool}(hk:k=(w:Int))(hw:w≤8)(hv:v.toNat<2^(8*w)):CF ⟨BE v w++b,sh⟩ k=some (v,⟨b,sh⟩):=by
 unfold CF
 rw[S8 (by rw[Aj];exact hk),U]
 simp only[Aj]
 rw[if_pos hw]
 congr 2
 apply UInt64.toNat_inj.1
 have:=NV v w [] hw w (Nat.le_refl _)
 simp only[List.append_nil]at this
 rw[this,Nat.mod_eq_of_lt hv]
theorem W7{v:UInt64}{b:List UInt8}{sh:Bool}(hv:v.toNat<256):CF ⟨BE v 1++b,sh⟩ 1=some (v,⟨b,sh⟩):=da (w:=1) rfl zO hv
theorem VH{v:UInt64}{b:List UInt8}{sh:Bool}(hv:v.toNat<4294967296):CF ⟨BE v 4++b,sh⟩ 4=some (v,⟨b,sh⟩):=da (w:=4) rfl zO hv
theorem pO{v:UInt64}{b:List UInt8}{sh:Bool}:CF ⟨BE v 8++b,sh⟩ 8=some (v,⟨b,sh⟩):=da (w:=8) rfl zO (by have:=v.toNat_lt;omega)
theorem eP{r:Ad}{b:List UInt8}{sh:Bool}(h:r.tag.length≤32):EJ ⟨CX r++b,sh⟩=some (⟨r.page,r.tag++List.replicate (32-r.tag.length) 0⟩,⟨b,sh⟩):=by
 unfold EJ CX
 rw[List.append_assoc,VH (by have:=r.page.toNat_lt;simp;omega),U,S8 zQ,U]
 simp
theorem Ya{r:Ad}(h:DW r=true):(⟨r.page,r.tag++List.replicate (32-r.tag.length) 0⟩:Ad)=r:=by
 have:=(D0 h).1
 rw[this]
 simp
theorem Cq{k:Nat}(h:k<4294967296):(BX (k:Int)).toNat=k:=by
 simp only[BX,UInt64.toNat_ofNat']
 omega
theorem fQ{r:AM}{b:List UInt8}{sh:Bool}(h:r.txt.length≤16):Lb ⟨CI r++b,sh⟩=some (r,⟨b,sh⟩):=by
 unfold Lb CI
 simp only[List.append_assoc]
 rw[pO,U,VH (by have:=r.x.toNat_lt;simp;omega),U,VH (by have:=r.y.toNat_lt;simp;omega),U,
  W7 (by rw[Cq zO];omega),U]
 simp only
 rw[Cq zO,BC zO zO,S8 rfl,U]
 simp
theorem Ui{n:Nat}{y1:UInt64×Cs}{y9 y10:UInt32}{y11:Int}{l3:List Ad}{y16:Ad×Cs}{y17:List UInt8}(N:Nat)(hN:N≤4):∀(T S:List AM),S.length+T.length=N→(∀r∈T,r.txt.length≤16)→∀m,T.length<m→
  J3 y1 y9 y10 y11 l3 y16 y17 (H4 (N:Int)) (Oa (N:Int)) m (S.length,⟨(T.map CI).flatten,false⟩) (⟨(T.map CI).flatten,false⟩,S)=some (⟨wI (y1.1.toNat:Int),y9,y10,y11,S++T,l3,y16.1.page,y17⟩,⟨[],false⟩)
 | [],S,hl,ht,m,hm=>by
  obtain⟨m,rfl⟩:∃k,m=k+1:=⟨m-1,by omega⟩
  unfold J3
  rw[L9,show Oa (N:Int) (S.length,⟨(([]:List AM).map CI).flatten,false⟩)=true by simp only[Oa,decide_eq_true_eq];simp at hl;omega,BZ]
  unfold Qv Ni
  simp
 | r::T,S,hl,ht,m,hm=>by
  obtain⟨m,rfl⟩:∃k,m=k+1:=⟨m-1,by omega⟩
  simp only[List.length_cons]at hl hm
  have ih:=Ui (n:=n) (y1:=y1) (y9:=y9) (y10:=y10) (y11:=y11) (l3:=l3) (y16:=y16) (y17:=y17) N hN T (S++[r]) zQ (fun q hq=>ht q (by simp[hq])) m zO
  unfold J3 at ih ⊢
  rw[L9,show Oa (N:Int) (S.length,⟨((r::T).map CI).flatten,false⟩)=false by simp only[Oa,decide_eq_false_iff_not];omega,A9]
  have hst:H4 (N:Int) (S.length,⟨((r::T).map CI).flatten,false⟩)=some (r,(S.length+1,⟨(T.map CI).flatten,false⟩)):=by
   unfold H4
   simp only[List.map_cons,List.flatten_cons]
   rw[if_pos zO,fQ (ht r zS),U]
  rw[hst,U]
  dsimp only
  have body:∀nx,MW y1 y9 y10 y11 l3 y16 y17 nx r ⟨(T.map CI).flatten,false⟩ S=nx (⟨(T.map CI).flatten,false⟩,S++[r]):=fun nx=>by
   unfold MW
   rw[CG zQ zQ,U,show((false:Bool)||decide (4<((S++[r]).length:Int)))=false by simp;omega,A9]
  rw[body]
  simpa using ih
theorem ZW{y1:UInt64×Cs}{y12 y13 y14:UInt64×Cs}(N:Nat)(hN:N≤4):∀(T S:List Ad),S.length+T.length=N→(∀r∈T,DW r=true)→∀m,T.length<m→
  LM y1 (N:Int) y12 y13 y14 m (⟨(T.map CX).flatten,false⟩,S,(S.length:Int))=some (⟨wI (y1.1.toNat:Int),y13.1.toUInt32,y14.1.toUInt32,wI (y12.1.toNat:Int),[],S++T,0,[]⟩,⟨[],false⟩)
 | [],S,hl,ht,m,hm=>by
  obtain⟨m,rfl⟩:∃k,m=k+1:=⟨m-1,by omega⟩
  simp at hl
  show GE _ _ _ _ _ (LM _ _ _ _ _ m) _ _ _=_
  unfold GE
  dsimp only
  rw[zf zO,A9]
  unfold Qe
  simp
 | r::T,S,hl,ht,m,hm=>by
  obtain⟨m,rfl⟩:∃k,m=k+1:=⟨m-1,by omega⟩
  simp only[List.length_cons]at hl hm
  have hr:=ht r zS
  have ih:=ZW (y1:=y1) (y12:=y12) (y13:=y13) (y14:=y14) N hN T (S++[r]) zQ (fun q hq=>ht q (by simp[hq])) m zO
  show GE _ _ _ _ _ (LM _ _ _ _ _ m) _ _ _=_
  unfold GE
  dsimp only
  rw[zt zO,BZ]
  simp only[List.map_cons,List.flatten_cons]
  rw[eP (by have:=(D0 hr).1;omega),U]
  simp only[Ya hr]
  rw[CG zQ zQ,U,BC zO zO]
  simpa using ih
theorem SM{n:Nat}{x:BP}(hn:10≤n)(h:CN x=true):Er n (Cm x)=some (x,0):=by
 have key:Uk n ⟨Cm x,false⟩=some (x,⟨[],false⟩):=by
  unfold Uk Cm
  by_cases hk:x.kind=1
  obtain⟨h1,h2,h3,h4,h5,h6,h7⟩:=EP h hk
  rw[W7 (by rw[hk];decide),U,show decide (x.kind=2)=false by rw[hk];rfl,A9,W7 (by rw[Cq zO];omega),U,A7]
  simp only
  have e1:wI ((BX x.kind).toNat:Int)=1:=by rw[hk];rfl
  rw[e1,show decide ((1:Int)=2)=false from rfl,A9,Cq zO,BC zO zO]
  unfold Qy
  have hx:(⟨1,0,0,0,x.rows,[],x.npage,x.ntag⟩:BP)=x:=by
   cases x
   simp only at h1 h2 h3 h4 hk
   rw[h1,h2,h3,h4,hk]
  rcases h7 with h7 | h7
  rw[eP (by simp only;rw[h7.2];simp),U,js,U]
  have hcond:(decide (x.npage=0)&&(decide (x.ntag++List.replicate (32-x.ntag.length) 0=List.replicate 32 0)&&true))=true:=by rw[h7.1,h7.2];rfl
  dsimp only
  rw[hcond,BZ]
  unfold MV TF
  rw[if_pos zO,U]
  have:=Ui (n:=n) (y1:=(BX x.kind,⟨BE (BX (x.rows.length:Int)) 1++(CX ⟨x.npage,x.ntag⟩++(x.rows.map CI).flatten),false⟩)) (y9:=0) (y10:=0) (y11:=0) (l3:=[]) (y16:=(⟨x.npage,x.ntag++List.replicate (32-x.ntag.length) 0⟩,⟨(x.rows.map CI).flatten,false⟩)) (y17:=[]) x.rows.length h5 x.rows [] zS (Kp h6) n zO
  rw[h7.2]at hx
  simp only[e1,List.nil_append,List.length_nil,hx]at this
  exact this
  have h32:=(D0 h7).1
  have h2':=(D0 h7).2
  simp only at h32 h2'
  rw[eP (by simp only;omega),U,js,U]
  have ht:=Ya h7
  simp only[Ad.mk.injEq,true_and]at ht
  simp only[ht]
  have h0:decide (x.npage=0)=false:=by
   rw[decide_eq_false_iff_not]
   intro e
   rw[e]at h2'
   simp at h2'
  rw[h0,Bool.false_and,A9]
  unfold MV TF
  rw[if_pos zO,U]
  have:=Ui (n:=n) (y1:=(BX x.kind,⟨BE (BX (x.rows.length:Int)) 1++(CX ⟨x.npage,x.ntag⟩++(x.rows.map CI).flatten),false⟩)) (y9:=0) (y10:=0) (y11:=0) (l3:=[]) (y16:=(⟨x.npage,x.ntag⟩,⟨(x.rows.map CI).flatten,false⟩)) (y17:=x.ntag) x.rows.length h5 x.rows [] zS (Kp h6) n zO
  simp only[e1,List.nil_append,List.length_nil,hx]at this ⊢
  exact this
  obtain⟨hk2,h1,h2,h3,h4,h5,h6,h7,h8⟩:=Dx h hk
  have hlev:x.lev≤31:=by
   unfold Ia at h7
   cases hc:decide (x.lev<0)||decide (31<x.lev)with
   | true=>simp only[hc,BZ]at h7;cases h7
   | false=>
    simp only[Bool.or_eq_false_iff,decide_eq_false_iff_not]at hc
    omega
  obtain⟨L,hL⟩:∃L:Nat,x.lev=(L:Int):=⟨x.lev.toNat,by omega⟩
  rw[W7 (by rw[hk2];decide),U,show decide (x.kind=2)=true by rw[hk2];rfl,BZ,W7 (by rw[Cq zO];omega),U,A7]
  simp only
  have e1:wI ((BX x.kind).toNat:Int)=2:=by rw[hk2];rfl
  rw[e1,show decide ((2:Int)=2)=true from rfl,BZ,W7 (by rw[hL,Cq zO];omega),U,VH (by have:=x.cx.toNat_lt;simp;omega),U,VH (by have:=x.cy.toNat_lt;simp;omega),U,Cq zO,BC zO zO]
  have:=ZW (y1:=(BX x.kind,⟨BE (BX (x.kids.length:Int)) 1++(BE (BX x.lev) 1++(BE x.cx.toUInt64 4++(BE x.cy.toUInt64 4++(x.kids.map CX).flatten))),false⟩)) (y12:=(BX x.lev,⟨BE x.cx.toUInt64 4++(BE x.cy.toUInt64 4++(x.kids.map CX).flatten),false⟩)) (y13:=(x.cx.toUInt64,⟨BE x.cy.toUInt64 4++(x.kids.map CX).flatten,false⟩)) (y14:=(x.cy.toUInt64,⟨(x.kids.map CX).flatten,false⟩)) x.kids.length h6 x.kids [] zS h1 n zO
  have hx:(⟨2,x.cx,x.cy,x.lev,[],x.kids,0,[]⟩:BP)=x:=by
   cases x
   simp only at h2 h3 h4 hk2
   rw[h2,h3,h4,hk2]
  have e2:wI ((BX x.lev).toNat:Int)=x.lev:=by rw[hL,Cq zO,BC zO zO]
  simp only[e1,e2,List.nil_append,List.length_nil,UInt32.toUInt32_toUInt64,hx]at this ⊢
  exact this
 unfold Er
 rw[key,U]
 have hl:x.rows.length≤4∧x.kids.length≤4:=by
  by_cases hk:x.kind=1
  obtain⟨h1,h2,h3,h4,h5,h6,h7⟩:=EP h hk
  rw[h4]
  exact⟨h5,by simp⟩
  obtain⟨hk2,h1,h2,h3,h4,h5,h6,h7,h8⟩:=Dx h hk
  rw[h2]
  exact⟨by simp,h6⟩
 rw[Le x zO zO zO zO,U,h]
 rfl
end

section
def bl(n:Nat):Nat:=if n=0 then 0 else Nat.log2 n+1
theorem ie(n:Nat):n<2^bl n:=by
 unfold bl
 split
 rename_i h;subst h;simp
 exact Nat.lt_log2_self
theorem d7{n k:Nat}(h:n<2^k):bl n≤k:=by
 unfold bl
 split
 omega
 rename_i h0
 exact(Nat.log2_lt h0).2 h
theorem n8{n:Nat}(h:0<bl n):2^(bl n-1)≤n:=by
 rcases Nat.lt_or_ge n (2^(bl n-1))with h1 | h1
 have:=d7 h1
 omega
 exact h1
theorem nT{n L:Nat}(h1:n<2^L)(h2:L=0∨2^(L-1)≤n):bl n=L:=by
 have a:=d7 h1
 rcases h2 with h2 | h2
 omega
 rcases Nat.lt_or_ge (bl n) L with h | h
 have h3:2^bl n≤2^(L-1):=Nat.pow_le_pow_right zD zO
 have h4:=ie n
 omega
 omega
theorem bM{n k:Nat}(h:2^k≤n):bl n=k+bl (n / 2^k):=by
 have hp:=Nat.two_pow_pos k
 have h0:0<n / 2^k:=Nat.div_pos h hp
 have hb:0<bl (n / 2^k):=by
  unfold bl
  rw[if_neg zO]
  omega
 refine nT ?_ (.inr ?_)
 rw[Nat.pow_add]
 have:=ie (n / 2^k)
 rw[Nat.mul_comm]
 exact(Nat.div_lt_iff_lt_mul hp).1 this
 have:=n8 hb
 rw[show k+bl (n / 2^k)-1=k+(bl (n / 2^k)-1) by omega,Nat.pow_add]
 calc 2^k*2^(bl (n / 2^k)-1)≤2^k*(n / 2^k):=Nat.mul_le_mul_left _ this
  _≤n:=Nat.mul_div_le _ _
def k8:List UInt8:=[0,1,2,2,3,3,3,3,4,4,4,4,4,4,4,4,5,5,5,5,5,5,5,5,5,5,5,5,5,5,5,5]++List.replicate 32 6++List.replicate 64 7++List.replicate 128 8
theorem sC:∀b:Fin 256,k8[b.val]? = some (UInt8.ofNat (bl b.val)):=by decide +kernel
theorem lD(a:UInt32)(ha:a.toNat<256)(k:Nat)(hk:k≤24):O6 a (k:Int)=some ((k+bl a.toNat:Nat):Int):=by
 have hb:a.toUInt8.toNat=a.toNat:=by
  rw[UInt32.toNat_toUInt8]
  omega
 have h8:bl a.toNat≤8:=d7 zO
 unfold O6
 have ht:Aq k8 (a.toUInt8.toNat:Int)=some (UInt8.ofNat (bl a.toNat)):=by
  rw[ET,hb]
  exact sC ⟨a.toNat,ha⟩
 refine(congrArg (fun x=>Option.bind x _) (show Aq _ _=some (UInt8.ofNat (bl a.toNat))from ht)).trans ?_
 rw[U,A7]
 have:(UInt8.ofNat (bl a.toNat)).toNat=bl a.toNat:=by simp;omega
 rw[this,BC zO zO]
 rfl
theorem YH(n:UInt32)(k:Nat)(h:k≤32):(shr32 n k).toNat=n.toNat / 2^k:=by
 have h1:=n.toNat_lt
 simp only[shr32,UInt32.toNat_ofNat',Nat.min_eq_left h]
 exact Nat.mod_eq_of_lt (Nat.lt_of_le_of_lt (Nat.div_le_self _ _) h1)
theorem kb(a:UInt32)(ha:a.toNat<65536)(k:Nat)(hk:k≤16):Ov a (k:Int)=some ((k+bl a.toNat:Nat):Int):=by
 unfold Ov
 by_cases h:256≤a.toNat
 rw[zt (show(256:UInt32)≤a by rw[UInt32.le_iff_toNat_le];exact h),BZ,A7,A7,BC zO zO]
 have hs:=YH a 8 zD
 have:=lD (shr32 a 8) (by rw[hs];omega) (k+8) zO
 rw[show(k:Int)+8=((k+8:Nat):Int) by omega,this,hs]
 have hb:=bM (n:=a.toNat) (k:=8) zO
 congr 2
 omega
 rw[zf (show ¬(256:UInt32)≤a by rw[UInt32.le_iff_toNat_le];exact h),A9]
 exact lD a zO k zO
theorem lz(a:UInt32):Yk a=some ((bl a.toNat:Nat):Int):=by
 have h32:=a.toNat_lt
 unfold Yk
 by_cases h:65536≤a.toNat
 rw[zt (show(65536:UInt32)≤a by rw[UInt32.le_iff_toNat_le];exact h),BZ,A7]
 have hs:=YH a 16 zD
 have:=kb (shr32 a 16) (by rw[hs];omega) 16 zO
 rw[show((16:Nat):Int)=16 from rfl]at this
 rw[this,hs]
 have hb:=bM (n:=a.toNat) (k:=16) zO
 congr 2
 omega
 rw[zf (show ¬(65536:UInt32)≤a by rw[UInt32.le_iff_toNat_le];exact h),A9]
 have:=kb a zO 0 zO
 rw[show((0:Nat):Int)=0 from rfl,Nat.zero_add]at this
 exact this
theorem XD{a b L:Nat}:a ^^^ b<2^L↔a / 2^L=b / 2^L:=by
 constructor
 intro h
 have h1:(a ^^^ b) / 2^L=0:=Nat.div_eq_of_lt h
 have h2:(a / 2^L) ^^^ (b / 2^L)=0:=by rw[←Nat.xor_div_two_pow];exact h1
 calc a / 2^L=a / 2^L ^^^ (b / 2^L ^^^ b / 2^L):=by rw[Nat.xor_self,Nat.xor_zero]
  _=b / 2^L:=by rw[←Nat.xor_assoc,h2,Nat.zero_xor]
 intro h
 have h2:(a ^^^ b) / 2^L=0:=by rw[Nat.xor_div_two_pow,h,Nat.xor_self]
 exact(Nat.div_eq_zero_iff_lt (Nat.two_pow_pos L)).1 h2
theorem jP{a b L:Nat}:a ||| b<2^L↔a<2^L∧b<2^L:=by
 constructor
 intro h
 exact⟨Nat.lt_of_le_of_lt Nat.left_le_or h,Nat.lt_of_le_of_lt Nat.right_le_or h⟩
 intro h
 exact Nat.or_lt_two_pow h.1 h.2
theorem jh{L:Nat}(h:L≤31):(shl32 1 L).toNat=2^L:=by
 simp only[shl32,UInt32.toNat_ofNat',Nat.min_eq_left (show L≤32 by omega)]
 have:2^L≤2^31:=Nat.pow_le_pow_right zD h
 rw[show(1:UInt32).toNat=1 from rfl,Nat.one_mul]
 exact Nat.mod_eq_of_lt (Nat.lt_of_le_of_lt this zD)
theorem ue{L:Nat}(h:L≤31):(shl32 1 L-1).toNat=2^L-1:=by
 have h1:=jh h
 have h2:=Nat.two_pow_pos L
 have h3:2^L≤2^31:=Nat.pow_le_pow_right zD h
 rw[UInt32.toNat_sub_of_le _ _ (by rw[UInt32.le_iff_toNat_le,h1];exact h2),h1]
 rfl
theorem lQ{a L:Nat}(hL:L≤32)(ha:a<2^32):a &&& (2^32-2^L)=a / 2^L*2^L:=by
 apply Nat.eq_of_testBit_eq
 intro i
 have hp:=Nat.two_pow_pos L
 have hx:2^L-1<2^32:=by
  have:2^L≤2^32:=Nat.pow_le_pow_right zD hL
  omega
 rw[Nat.testBit_and,show 2^32-2^L=2^32-((2^L-1)+1) by rw[Nat.sub_add_cancel hp],Nat.testBit_two_pow_sub_succ hx,Nat.testBit_two_pow_sub_one,Nat.testBit_mul_two_pow,Nat.testBit_div_two_pow]
 by_cases h1:i<L
 rw[zt h1,zf (show ¬L≤i by omega)]
 simp
 rw[zf h1,zt (show L≤i by omega),Nat.sub_add_cancel zO]
 by_cases h2:i<32
 rw[zt h2];simp
 rw[Nat.testBit_lt_two_pow (Nat.lt_of_lt_of_le ha (Nat.pow_le_pow_right zD zO))]
 simp
theorem Tp(a:UInt32){L:Nat}(h:L≤31):(a &&& ~~~(shl32 1 L-1)).toNat=a.toNat / 2^L*2^L:=by
 have h1:=ue h
 have h2:=Nat.two_pow_pos L
 rw[UInt32.toNat_and,UInt32.toNat_not,h1,show UInt32.size-1-(2^L-1)=2^32-2^L by
  show 4294967296-1-(2^L-1)=4294967296-2^L
  omega]
 exact lQ zO a.toNat_lt
theorem ZG(x y:UInt32){L:Nat}(h:L≤31):I9 x y (L:Int)=some ⟨x &&& ~~~(shl32 1 L-1),y &&& ~~~(shl32 1 L-1),L⟩:=by
 unfold I9 Sq
 rw[if_pos zO,U,A7]
 rfl
theorem lZ{x y u v:UInt32}(hx:x.toNat<2147483648)(hy:y.toNat<2147483648)(hu:u.toNat<2147483648)(hv:v.toNat<2147483648):
  ∃L:Nat,L≤31∧Ls x y u v=some (⟨x &&& ~~~(shl32 1 L-1),y &&& ~~~(shl32 1 L-1),L⟩,0)∧x.toNat / 2^L=u.toNat / 2^L∧y.toNat / 2^L=v.toNat / 2^L∧
   (0<L→x.toNat / 2^(L-1)≠u.toNat / 2^(L-1)∨y.toNat / 2^(L-1)≠v.toNat / 2^(L-1)):=by
 have hn:((x ^^^ u) ||| (y ^^^ v)).toNat=(x.toNat ^^^ u.toNat) ||| (y.toNat ^^^ v.toNat):=by rw[UInt32.toNat_or,UInt32.toNat_xor,UInt32.toNat_xor]
 have hk:∀L,((x ^^^ u) ||| (y ^^^ v)).toNat<2^L↔x.toNat / 2^L=u.toNat / 2^L∧y.toNat / 2^L=v.toNat / 2^L:=fun L=>by
  rw[hn,jP,XD,XD]
 have h31:((x ^^^ u) ||| (y ^^^ v)).toNat<2^31:=(hk 31).2 ⟨by omega,by omega⟩
 have hL:=d7 h31
 obtain⟨e1,e2⟩:=(hk _).1 (ie ((x ^^^ u) ||| (y ^^^ v)).toNat)
 refine⟨bl ((x ^^^ u) ||| (y ^^^ v)).toNat,hL,?_,e1,e2,fun h0=>?_⟩
 unfold Ls
 have hm:decide (2147483648≤max (max (max x y) u) v)=false:=by
  rw[decide_eq_false_iff_not,UInt32.le_iff_toNat_le,Jt,Jt,Jt]
  show ¬(2147483648≤_)
  omega
 rw[hm,A9,lz,U,ZG x y hL,U,ZG u v hL,U]
 have ex:x &&& ~~~(shl32 1 (bl ((x ^^^ u) ||| (y ^^^ v)).toNat)-1)=u &&& ~~~(shl32 1 (bl ((x ^^^ u) ||| (y ^^^ v)).toNat)-1):=UInt32.toNat_inj.1 (by rw[Tp x hL,Tp u hL,e1])
 have ey:y &&& ~~~(shl32 1 (bl ((x ^^^ u) ||| (y ^^^ v)).toNat)-1)=v &&& ~~~(shl32 1 (bl ((x ^^^ u) ||| (y ^^^ v)).toNat)-1):=UInt32.toNat_inj.1 (by rw[Tp y hL,Tp v hL,e2])
 simp only[ex,ey,decide_true,Bool.and_self,Bool.not_true,A9]
 have hge:=n8 h0
 have:¬((x ^^^ u) ||| (y ^^^ v)).toNat<2^(bl ((x ^^^ u) ||| (y ^^^ v)).toNat-1):=zO
 rw[hk]at this
 exact Classical.not_and_iff_not_or_not.1 this
end

section
def qd(L:Nat)(r:AM):Nat:=(r.x.toNat / 2^(L-1))%2+2*((r.y.toNat / 2^(L-1))%2)
structure AR(c:Be)(l:List AM)(L:Nat):Prop where
 lev:c.lev=(L:Int)
 le:L≤31
 cx:c.x.toNat%2^L=0
 cy:c.y.toNat%2^L=0
 lx:c.x.toNat<2147483648
 ly:c.y.toNat<2147483648
 inn:∀r∈l,r.x.toNat / 2^L=c.x.toNat / 2^L∧r.y.toNat / 2^L=c.y.toNat / 2^L
 two:0<L→∃r∈l,∃s∈l,qd L r≠qd L s
theorem Nc{r:AM}(h:Gb r=true):r.x.toNat<2147483648∧r.y.toNat<2147483648∧r.txt.length≤16:=by
 unfold Gb at h
 simp only[Bool.and_eq_true,decide_eq_true_eq]at h
 have:=UInt32.lt_iff_toNat_lt.1 h.1
 rw[Jt]at this
 have h2:max r.x.toNat r.y.toNat<2147483648:=this
 omega
theorem Fg{a L:Nat}(h:0<L):a / 2^(L-1) / 2=a / 2^L:=by
 rw[Nat.div_div_eq_div_mul,←Nat.pow_succ,Nat.succ_eq_add_one,Nat.sub_add_cancel h]
theorem dF{n:Nat}{l:List AM}(hl:l≠[])(hn:l.length<n)(hb:l.length≤1000000)(ok:∀r∈l,Gb r=true):∃c L,JC n l=some c∧AR c l L:=by
 have key:∀(T S:List AM) (x y u v:UInt32),l=S++T→(∀r∈S,x.toNat≤r.x.toNat∧r.x.toNat≤u.toNat∧y.toNat≤r.y.toNat∧r.y.toNat≤v.toNat)→(∃r∈l,r.x=x)→(∃r∈l,r.y=y)→(∃r∈l,r.x=u)→(∃r∈l,r.y=v)→
   ∀m,T.length<m→∃c L,GT l m (x,y,u,v,(S.length:Int))=some c∧AR c l L:=by
  intro T
  induction T with
  | nil=>
   intro S x y u v hS hin hx hy hu hv m hm
   obtain⟨m,rfl⟩:∃k,m=k+1:=⟨m-1,by omega⟩
   simp only[List.append_nil]at hS
   subst hS
   obtain⟨rx,hrx,ex⟩:=hx
   obtain⟨ry,hry,ey⟩:=hy
   obtain⟨ru,hru,eu⟩:=hu
   obtain⟨rv,hrv,ev⟩:=hv
   have lx:=(Nc (ok rx hrx)).1
   have ly:=(Nc (ok ry hry)).2.1
   have lu:=(Nc (ok ru hru)).1
   have lv:=(Nc (ok rv hrv)).2.1
   rw[ex]at lx
   rw[ey]at ly
   rw[eu]at lu
   rw[ev]at lv
   obtain⟨L,hL,hle,d1,d2,d3⟩:=lZ lx ly lu lv
   have hp:=Nat.two_pow_pos L
   have hcx:=Tp x hL
   have hcy:=Tp y hL
   refine⟨⟨x &&& ~~~(shl32 1 L-1),y &&& ~~~(shl32 1 L-1),L⟩,L,?_,⟨rfl,hL,?_,?_,?_,?_,fun r hr=>?_,fun h0=>?_⟩⟩
   show Eb l (GT l m) _ _ _ _ _=_
   unfold Eb
   dsimp only
   rw[zf zO,A9]
   unfold KC
   rw[hle,U]
   show(x &&& ~~~(shl32 1 L-1)).toNat%2^L=0
   rw[hcx]
   exact Nat.mul_mod_left _ _
   show(y &&& ~~~(shl32 1 L-1)).toNat%2^L=0
   rw[hcy]
   exact Nat.mul_mod_left _ _
   show(x &&& ~~~(shl32 1 L-1)).toNat<_
   rw[hcx]
   exact Nat.lt_of_le_of_lt (Nat.div_mul_le_self _ _) lx
   show(y &&& ~~~(shl32 1 L-1)).toNat<_
   rw[hcy]
   exact Nat.lt_of_le_of_lt (Nat.div_mul_le_self _ _) ly
   show r.x.toNat / 2^L=(x &&& ~~~(shl32 1 L-1)).toNat / 2^L∧r.y.toNat / 2^L=(y &&& ~~~(shl32 1 L-1)).toNat / 2^L
   rw[hcx,hcy,Nat.mul_div_cancel _ hp,Nat.mul_div_cancel _ hp]
   obtain⟨a1,a2,a3,a4⟩:=hin r hr
   have b1:=Nat.div_le_div_right (c:=2^L) a1
   have b2:=Nat.div_le_div_right (c:=2^L) a2
   have b3:=Nat.div_le_div_right (c:=2^L) a3
   have b4:=Nat.div_le_div_right (c:=2^L) a4
   omega
   have g1:=Fg (a:=x.toNat) h0
   have g2:=Fg (a:=u.toNat) h0
   have g3:=Fg (a:=y.toNat) h0
   have g4:=Fg (a:=v.toNat) h0
   rcases d3 h0 with d | d
   refine⟨rx,hrx,ru,hru,fun e=>?_⟩
   unfold qd at e
   rw[ex,eu]at e
   omega
   refine⟨ry,hry,rv,hrv,fun e=>?_⟩
   unfold qd at e
   rw[ey,ev]at e
   omega
  | cons r T ih=>
   intro S x y u v hS hin hx hy hu hv m hm
   obtain⟨m,rfl⟩:∃k,m=k+1:=⟨m-1,by omega⟩
   have hlen:l.length=S.length+(T.length+1):=by rw[hS];simp
   have hr:r∈l:=by rw[hS];simp
   have n1:Aq l (S.length:Int)=some r:=by
    rw[D1 rfl,hS]
    simp
   have hmin:∀a b:UInt32,min a b=a∨min a b=b:=fun a b=>by
    show(if a≤b then a else b)=a∨(if a≤b then a else b)=b
    split
    exact .inl rfl
    exact .inr rfl
   have hmax:∀a b:UInt32,max a b=a∨max a b=b:=fun a b=>by
    show(if a≤b then b else a)=a∨(if a≤b then b else a)=b
    split
    exact .inr rfl
    exact .inl rfl
   obtain⟨c,L,hc,hA⟩:=ih (S++[r]) (min x r.x) (min y r.y) (max u r.x) (max v r.y) (by rw[hS];simp) (fun q hq=>by
    rw[ZY,ZY,Jt,Jt]
    rcases List.mem_append.1 hq with hq | hq
    have:=hin q hq
    omega
    rw[List.mem_singleton.1 hq]
    omega) (by
    rcases hmin x r.x with e | e<;>rw[e]
    exact hx
    exact⟨r,hr,rfl⟩) (by
    rcases hmin y r.y with e | e<;>rw[e]
    exact hy
    exact⟨r,hr,rfl⟩) (by
    rcases hmax u r.x with e | e<;>rw[e]
    exact hu
    exact⟨r,hr,rfl⟩) (by
    rcases hmax v r.y with e | e<;>rw[e]
    exact hv
    exact⟨r,hr,rfl⟩) m (by simp at hm;omega)
   refine⟨c,L,?_,hA⟩
   show Eb l (GT l m) _ _ _ _ _=_
   unfold Eb
   dsimp only
   rw[zt zO,BZ,n1,U,A7,A7,A7,A7,BC zO zO]
   rw[show((S++[r]).length:Int)=(S.length:Int)+1 by simp only[List.length_append,List.length_singleton];omega]at hc
   exact hc
 obtain⟨r0,l0,rfl⟩:∃r0 l0,l=r0::l0:=by
  cases l with
  | nil=>exact absurd rfl hl
  | cons r0 l0=>exact⟨r0,l0,rfl⟩
 obtain⟨c,L,hc,hA⟩:=key (r0::l0) [] r0.x r0.y r0.x r0.y rfl zS ⟨r0,by simp,rfl⟩ ⟨r0,by simp,rfl⟩ ⟨r0,by simp,rfl⟩ ⟨r0,by simp,rfl⟩ n hn
 refine⟨c,L,?_,hA⟩
 unfold JC
 have n0:Aq (r0::l0) 0=some r0:=rfl
 rw[n0,U,U,U,U]
 exact hc
theorem size_eq{c:Be}{L:Nat}(h:c.lev=(L:Int)):H5 c=some (shl64 1 L):=by
 unfold H5 Sq
 rw[h,if_pos zO,U,A7]
 rfl
theorem MO{L:Nat}(h:L≤31):(shl64 1 L).toNat=2^L:=by
 simp only[shl64,UInt64.toNat_ofNat',Nat.min_eq_left (show L≤64 by omega)]
 have:2^L≤2^31:=Nat.pow_le_pow_right zD h
 rw[show(1:UInt64).toNat=1 from rfl,Nat.one_mul]
 exact Nat.mod_eq_of_lt (Nat.lt_of_le_of_lt this zD)
theorem iW{L:Nat}(h:L≤31):(shl64 1 L-1).toUInt32.toNat=2^L-1:=by
 have h1:=MO h
 have h2:=Nat.two_pow_pos L
 have h3:2^L≤2^31:=Nat.pow_le_pow_right zD h
 rw[UInt64.toNat_toUInt32,UInt64.toNat_sub_of_le _ _ (by rw[UInt64.le_iff_toNat_le,h1];exact h2),h1]
 show(2^L-1)%4294967296=_
 exact Nat.mod_eq_of_lt zO
theorem aD{c:Be}{L:Nat}(h:c.lev=(L:Int))(hL:L≤31)(hx:c.x.toNat%2^L=0)(hy:c.y.toNat%2^L=0)(lx:c.x.toNat<2147483648)(ly:c.y.toNat<2147483648):Ia c=true:=by
 unfold Ia
 rw[h,show(decide ((L:Int)<0)||decide (31<(L:Int)))=false by simp;omega,A9,Int.toNat_natCast,Bool.and_eq_true,decide_eq_true_eq,decide_eq_true_eq]
 constructor
 apply UInt32.toNat_inj.1
 rw[UInt32.toNat_and,iW hL,UInt32.toNat_or,Nat.and_two_pow_sub_one_eq_mod,Nat.or_mod_two_pow,hx,hy]
 rfl
 rw[UInt32.lt_iff_toNat_lt,Jt]
 show max _ _<2147483648
 omega
theorem AR.ok{c:Be}{l:List AM}{L:Nat}(A:AR c l L):Ia c=true:=aD A.lev A.le A.cx A.cy A.lx A.ly
theorem Q0{a P:Nat}(hP:a%P=0)(ha:a<2147483648)(hd:∃k,k*P=2147483648):a+P≤2147483648:=by
 obtain⟨k,hk⟩:=hd
 have h1:a=a / P*P:=by
  have:=Nat.div_add_mod a P
  rw[hP,Nat.add_zero,Nat.mul_comm]at this
  exact this.symm
 have h2:a / P<k:=by
  rcases Nat.lt_or_ge (a / P) k with h | h
  exact h
  have:=Nat.mul_le_mul_right P h
  omega
 have h3:(a / P+1)*P≤k*P:=Nat.mul_le_mul_right P h2
 rw[Nat.add_mul,Nat.one_mul]at h3
 omega
theorem NT{L:Nat}(h:L≤31):∃k,k*2^L=2147483648:=⟨2^(31-L),by rw[←Nat.pow_add,Nat.sub_add_cancel h]⟩
theorem ZR{a q P:Nat}(hP:0<P)(hq:q%P=0):(q≤a∧a≤q+(P-1))↔a / P=q / P:=by
 have h1:q=q / P*P:=by
  have:=Nat.div_add_mod q P
  rw[hq,Nat.add_zero,Nat.mul_comm]at this
  exact this.symm
 have h2:=Nat.div_add_mod a P
 have h3:=Nat.mod_lt a hP
 constructor
 rintro⟨g1,g2⟩
 have g3:q / P≤a / P:=Nat.div_le_div_right g1
 have g4:a / P<q / P+1:=by
  refine(Nat.div_lt_iff_lt_mul hP).2 ?_
  rw[Nat.add_mul,Nat.one_mul,←h1]
  omega
 omega
 intro g
 rw[g,Nat.mul_comm,←h1]at h2
 omega
theorem fY{q:Be}{M:Nat}(x y:UInt32)(h:q.lev=(M:Int))(hM:M≤31)(hx:q.x.toNat%2^M=0)(hy:q.y.toNat%2^M=0)(lx:q.x.toNat<2147483648)(ly:q.y.toNat<2147483648):
  MZ q x y=some (decide (x.toNat / 2^M=q.x.toNat / 2^M)&&decide (y.toNat / 2^M=q.y.toNat / 2^M)):=by
 have hp:=Nat.two_pow_pos M
 have mx:=Q0 hx lx (NT hM)
 have my:=Q0 hy ly (NT hM)
 have hf:=iW hM
 have ex:(q.x+(shl64 1 M-1).toUInt32).toNat=q.x.toNat+(2^M-1):=by rw[UInt32.toNat_add,hf];omega
 have ey:(q.y+(shl64 1 M-1).toUInt32).toNat=q.y.toNat+(2^M-1):=by rw[UInt32.toNat_add,hf];omega
 unfold MZ
 rw[P9,aD h hM hx hy lx ly,U]
 unfold P6 RP LI
 rw[size_eq h]
 simp only[U,A7,FQ,BZ]
 congr 1
 rw[Bool.eq_iff_iff]
 simp only[Bool.and_eq_true,decide_eq_true_eq,UInt32.le_iff_toNat_le,UInt32.lt_iff_toNat_lt,Jt,ex,ey,←ZR hp hx,←ZR hp hy]
 constructor
 rintro⟨⟨⟨⟨_,h1⟩,h2⟩,h3⟩,h4⟩
 exact⟨⟨h1,h2⟩,h3,h4⟩
 rintro⟨⟨h1,h2⟩,h3,h4⟩
 refine⟨⟨⟨⟨⟨⟨by omega,by omega⟩,?_⟩,h1⟩,h2⟩,h3⟩,h4⟩
 show max _ _<2147483648
 omega
theorem me{c:Be}{l:List AM}{L:Nat}(A:AR c l L)(h0:0<L){r:AM}(hr:r∈l):F8 c r.x r.y=some ((qd L r:Int),0):=by
 have hL:=A.le
 have hp:=Nat.two_pow_pos (L-1)
 obtain⟨i1,i2⟩:=A.inn r hr
 have mx:=Q0 A.cx A.lx (NT hL)
 have my:=Q0 A.cy A.ly (NT hL)
 have e2:2^L=2^(L-1)*2:=by rw[←Nat.pow_succ,Nat.succ_eq_add_one,Nat.sub_add_cancel h0]
 have hh:(shl64 1 L / 2).toUInt32.toNat=2^(L-1):=by
  rw[UInt64.toNat_toUInt32,UInt64.toNat_div,MO hL,show(2:UInt64).toNat=2 from rfl,e2,Nat.mul_div_cancel _ zD]
  show _%4294967296=_
  have:2^(L-1)≤2^31:=Nat.pow_le_pow_right zD zO
  exact Nat.mod_eq_of_lt zO
 have hx2:c.x.toNat%2^(L-1)=0:=by
  have:=A.cx
  rw[e2]at this
  rw[←Nat.mod_mul_right_mod c.x.toNat (2^(L-1)) 2,this]
  simp
 have hy2:c.y.toNat%2^(L-1)=0:=by
  have:=A.cy
  rw[e2]at this
  rw[←Nat.mod_mul_right_mod c.y.toNat (2^(L-1)) 2,this]
  simp
 have gx:=Fg (a:=c.x.toNat) h0
 have gy:=Fg (a:=c.y.toNat) h0
 have rx:=Fg (a:=r.x.toNat) h0
 have ry:=Fg (a:=r.y.toNat) h0
 have cxe:c.x.toNat / 2^(L-1)%2=0:=by
  have:=A.cx
  rw[e2,Nat.mod_mul]at this
  have h5:2^(L-1)*(c.x.toNat / 2^(L-1)%2)=0:=zO
  rcases Nat.mul_eq_zero.1 h5 with h6 | h6
  omega
  exact h6
 have cye:c.y.toNat / 2^(L-1)%2=0:=by
  have:=A.cy
  rw[e2,Nat.mod_mul]at this
  have h5:2^(L-1)*(c.y.toNat / 2^(L-1)%2)=0:=zO
  rcases Nat.mul_eq_zero.1 h5 with h6 | h6
  omega
  exact h6
 generalize hhd:(shl64 1 L / 2).toUInt32=hf at hh
 
 have c0:∀a:UInt32,(a+hf*0)=a:=fun a=>by simp
 have c1:∀a:UInt32,a.toNat+2^L≤2147483648→(a+hf*1).toNat=a.toNat+2^(L-1):=fun a ha=>by
  rw[UInt32.mul_one,UInt32.toNat_add,hh]
  rw[e2]at ha
  omega
 have m1:∀a:Nat,a%2^(L-1)=0→(a+2^(L-1))%2^(L-1)=0:=fun a ha=>by simp[ha]
 have d1:∀a:Nat,(a+2^(L-1)) / 2^(L-1)=a / 2^(L-1)+1:=fun a=>Nat.add_div_right a hp
 have hlev:wI (c.lev-1)=((L-1:Nat):Int):=by rw[A.lev,BC zO zO];omega
 have hasq:∀(qx qy:UInt32) (bx by_:Nat),qx.toNat=c.x.toNat+bx*2^(L-1)→qy.toNat=c.y.toNat+by_*2^(L-1)→bx≤1→by_≤1→
   MZ ⟨qx,qy,((L-1:Nat):Int)⟩ r.x r.y=some (decide (r.x.toNat / 2^(L-1)%2=bx)&&decide (r.y.toNat / 2^(L-1)%2=by_)):=by
  intro qx qy bx by_ e1 e3 hbx hby
  have hxm:qx.toNat%2^(L-1)=0:=by
   rw[e1,Nat.add_mul_mod_self_right]
   exact hx2
  have hym:qy.toNat%2^(L-1)=0:=by
   rw[e3,Nat.add_mul_mod_self_right]
   exact hy2
  have bxl:bx*2^(L-1)≤2^(L-1):=by
   calc bx*2^(L-1)≤1*2^(L-1):=Nat.mul_le_mul_right _ hbx
    _=2^(L-1):=Nat.one_mul _
  have byl:by_*2^(L-1)≤2^(L-1):=by
   calc by_*2^(L-1)≤1*2^(L-1):=Nat.mul_le_mul_right _ hby
    _=2^(L-1):=Nat.one_mul _
  rw[fY (M:=L-1) r.x r.y rfl zO hxm hym (by rw[e1];omega) (by rw[e3];omega)]
  have f1:qx.toNat / 2^(L-1)=c.x.toNat / 2^(L-1)+bx:=by rw[e1];exact Nat.add_mul_div_right _ _ hp
  have f2:qy.toNat / 2^(L-1)=c.y.toNat / 2^(L-1)+by_:=by rw[e3];exact Nat.add_mul_div_right _ _ hp
  congr 2
  rw[decide_eq_decide]
  show r.x.toNat / 2^(L-1)=qx.toNat / 2^(L-1)↔_
  rw[f1]
  omega
  rw[decide_eq_decide]
  show r.y.toNat / 2^(L-1)=qy.toNat / 2^(L-1)↔_
  rw[f2]
  omega
 unfold F8 dJ Ut
 rw[U,P9,A.ok,U,show(!true||decide (c.lev=0))=false by rw[A.lev];simp;omega,A9,size_eq A.lev,U]
 have hq:QP (shl64 1 L) 2=some (shl64 1 L / 2):=by
  unfold QP
  rw[if_neg zD]
 rw[hq,U,U,hhd]
 unfold E2
 rw[hlev,c0,c0]
 have q00:=hasq c.x c.y 0 0 zS zS zO zO
 have q10:=hasq (c.x+hf*1) c.y 1 0 (by rw[c1 _ mx];omega) zS zO zO
 have q01:=hasq c.x (c.y+hf*1) 0 1 zS (by rw[c1 _ my];omega) zO zO
 have q11:=hasq (c.x+hf*1) (c.y+hf*1) 1 1 (by rw[c1 _ mx];omega) (by rw[c1 _ my];omega) zO zO
 unfold K9 qd
 simp only[X8,Jc,q00,q10,q01,q11,U]
 have bx:=Nat.mod_two_eq_zero_or_one (r.x.toNat / 2^(L-1))
 have by_:=Nat.mod_two_eq_zero_or_one (r.y.toNat / 2^(L-1))
 rcases bx with bx | bx<;>rcases by_ with by_ | by_<;>rw[bx,by_]<;>rfl
end

section
inductive SW {α β:Type} (R:α→β→Prop):List α→List β→Prop
 | nil:SW R [] []
 | cons {a b xs ys}:R a b→SW R xs ys→SW R (a::xs) (b::ys)
theorem SW.length{α β:Type}{R:α→β→Prop}{xs:List α}{ys:List β}(h:SW R xs ys):xs.length=ys.length:=by
 induction h with
 | nil=>rfl
 | cons _ _ ih=>simp[ih]
def NE(L:Nat)(l:List AM):List (List AM):=[l.filter fun r=>decide (qd L r=0),l.filter fun r=>decide (qd L r=1),l.filter fun r=>decide (qd L r=2),l.filter fun r=>decide (qd L r=3)]
def MI(L:Nat)(l:List AM):List (List AM):=(NE L l).filter fun p => !p.isEmpty
theorem jz(L:Nat)(r:AM):qd L r<4:=by
 unfold qd
 omega
theorem bC{c:Be}{l:List AM}{L:Nat}(A:AR c l L)(h0:0<L):∀(T:List AM) (p:P4),(∀r∈T,r∈l)→p.1.length+p.2.1.length+p.2.2.1.length+p.2.2.2.length+T.length≤100000→
  MH c T p=some (p.1++T.filter (fun r=>decide (qd L r=0)),p.2.1++T.filter (fun r=>decide (qd L r=1)),p.2.2.1++T.filter (fun r=>decide (qd L r=2)),p.2.2.2++T.filter (fun r=>decide (qd L r=3)))
 | [],p,_,_=>by simp[MH]
 | r::T,p,hT,hb=>by
  simp only[List.length_cons]at hb
  have hw:=me A h0 (hT r zS)
  have h4:=jz L r
  have ih:=fun p hp=>bC A h0 T p (fun q hq=>hT q (by simp[hq])) hp
  unfold MH TY
  rw[hw,U]
  dsimp only
  rcases(show qd L r=0∨qd L r=1∨qd L r=2∨qd L r=3 by omega)with e | e | e | e
  rw[e,if_pos (show((0:Nat):Int)=0 from rfl),CG zQ zQ,U,U,ih _ zQ]
  simp[e]
  rw[e,if_neg zD,if_pos (show((1:Nat):Int)=1 from rfl),CG zQ zQ,U,U,ih _ zQ]
  simp[e]
  rw[e,if_neg zD,if_neg zD,if_pos (show((2:Nat):Int)=2 from rfl),CG zQ zQ,U,U,ih _ zQ]
  simp[e]
  rw[e,if_neg zD,if_neg zD,if_neg zD,if_pos (show((3:Nat):Int)=3 from rfl),CG zQ zQ,U,U,ih _ zQ]
  simp[e]
theorem eD(L:Nat)(l:List AM):(NE L l).flatten.Perm l:=by
 unfold NE
 simp only[List.flatten_cons,List.flatten_nil,List.append_nil]
 induction l with
 | nil=>exact List.Perm.refl _
 | cons r l ih=>
  have h4:=jz L r
  rcases(show qd L r=0∨qd L r=1∨qd L r=2∨qd L r=3 by omega)with e | e | e | e<;>simp only[List.filter_cons,e,decide_true,if_true]<;>simp only[show decide ((0:Nat)=1)=false from rfl,show decide ((0:Nat)=2)=false from rfl,show decide ((0:Nat)=3)=false from rfl,show decide ((1:Nat)=0)=false from rfl,show decide ((1:Nat)=2)=false from rfl,show decide ((1:Nat)=3)=false from rfl,show decide ((2:Nat)=0)=false from rfl,show decide ((2:Nat)=1)=false from rfl,show decide ((2:Nat)=3)=false from rfl,show decide ((3:Nat)=0)=false from rfl,show decide ((3:Nat)=1)=false from rfl,show decide ((3:Nat)=2)=false from rfl,Bool.false_eq_true,if_false]
  all_goals
   refine List.perm_iff_count.2 fun x=>?_
   have:=List.perm_iff_count.1 ih x
   simp only[List.count_append,List.count_cons]at this ⊢
   omega
theorem VB(ps:List (List AM)):(ps.filter fun p => !p.isEmpty).flatten=ps.flatten:=by
 induction ps with
 | nil=>rfl
 | cons p ps ih=>
  cases p with
  | nil=>simpa using ih
  | cons r p=>simp[ih]
theorem XC(L:Nat)(l:List AM):(MI L l).flatten.Perm l:=by
 unfold MI
 rw[VB]
 exact eD L l
theorem U3{L:Nat}{l p:List AM}(h:p∈MI L l):p≠[]∧∃i,p=l.filter fun r=>decide (qd L r=i):=by
 unfold MI at h
 obtain⟨h1,h2⟩:=List.mem_filter.1 h
 refine⟨by simpa using h2,?_⟩
 unfold NE at h1
 simp only[List.mem_cons,List.not_mem_nil,or_false]at h1
 rcases h1 with rfl | rfl | rfl | rfl
 exact⟨0,rfl⟩
 exact⟨1,rfl⟩
 exact⟨2,rfl⟩
 exact⟨3,rfl⟩
theorem No{L:Nat}{l p:List AM}(h:p∈MI L l):p.Sublist l:=by
 obtain⟨_,i,rfl⟩:=U3 h
 exact List.filter_sublist ..
theorem Ze(L:Nat)(l:List AM):(MI L l).length≤4:=by
 unfold MI
 exact Nat.le_trans (List.length_filter_le ..) (Nat.le_refl 4)
theorem Yb{L:Nat}{l:List AM}{r:AM}(h:r∈l):(l.filter fun s=>decide (qd L s=qd L r))∈MI L l:=by
 have h4:=jz L r
 unfold MI
 refine List.mem_filter.2 ⟨?_,?_⟩
 unfold NE
 rcases(show qd L r=0∨qd L r=1∨qd L r=2∨qd L r=3 by omega)with e | e | e | e<;>rw[e]<;>simp
 have:r∈l.filter fun s=>decide (qd L s=qd L r):=List.mem_filter.2 ⟨h,by simp⟩
 cases hx:l.filter fun s=>decide (qd L s=qd L r)with
 | nil=>rw[hx]at this;simp at this
 | cons a b=>rfl
theorem Pj{c:Be}{l:List AM}{L:Nat}(A:AR c l L)(h0:0<L):2≤(MI L l).length∧∀p∈MI L l,p.length<l.length:=by
 obtain⟨r,hr,s,hs,hne⟩:=A.two h0
 have h1:=Yb (L:=L) hr
 have h2:=Yb (L:=L) hs
 have hd:(l.filter fun q=>decide (qd L q=qd L r))≠(l.filter fun q=>decide (qd L q=qd L s)):=by
  intro e
  have:r∈l.filter fun q=>decide (qd L q=qd L r):=List.mem_filter.2 ⟨hr,by simp⟩
  rw[e]at this
  have:=(List.mem_filter.1 this).2
  simp only[decide_eq_true_eq]at this
  exact hne this
 constructor
 rcases hq:MI L l with _ | ⟨a,_ | ⟨b,q⟩⟩
 rw[hq]at h1;simp at h1
 rw[hq]at h1 h2
 simp only[List.mem_singleton]at h1 h2
 exact absurd (h1.trans h2.symm) hd
 simp
 intro p hp
 obtain⟨_,i,rfl⟩:=U3 hp
 have:∃q∈l,qd L q≠i:=by
  by_cases e:qd L r=i
  exact⟨s,hs,fun e'=>hne (e.trans e'.symm)⟩
  exact⟨r,hr,e⟩
 obtain⟨q,hq,hqi⟩:=this
 rcases Nat.lt_or_ge (l.filter fun r=>decide (qd L r=i)).length l.length with h | h
 exact h
 have:=(List.filter_sublist (p:=fun r=>decide (qd L r=i)) (l:=l)).eq_of_length_le h
 have h5:=List.filter_eq_self.1 this q hq
 simp only[decide_eq_true_eq]at h5
 exact absurd h5 hqi
def Tr:Nat→List AM→Bd→Prop
 | 0,_,_=>False
 | f+1,l,t=>(l=[]∧t=.mk 0 0 0 [] [])∨(l≠[]∧∃c L,AR c l L∧(((l.length≤4∨L=0)∧t=.mk c.x c.y c.lev l [])∨
   (4<l.length∧0<L∧∃ks,t=.mk c.x c.y c.lev [] ks∧SW (Tr f) (MI L l) ks)))
theorem VD{rec_:List AM→Option Bd}{R:List AM→Bd→Prop}:∀(ps:List (List AM)) (acc:List Bd),(∀p∈ps,p≠[]→∃t,rec_ p=some t∧R p t)→acc.length+ps.length≤1000→∃ks,Ej rec_ ps acc=some (acc++ks)∧SW R (ps.filter fun p => !p.isEmpty) ks
 | [],acc,_,_=>⟨[],by simp[Ej],.nil⟩
 | p::ps,acc,h,hb=>by
  simp only[List.length_cons]at hb
  unfold Ej
  cases p with
  | nil=>
   obtain⟨ks,h1,h2⟩:=VD ps acc (fun q hq=>h q (by simp[hq])) zO
   exact⟨ks,by simpa using h1,by simpa using h2⟩
  | cons r p=>
   obtain⟨t,ht,hR⟩:=h (r::p) zS zS
   obtain⟨ks,h1,h2⟩:=VD ps (acc++[t]) (fun q hq=>h q (by simp[hq])) zQ
   refine⟨t::ks,?_,?_⟩
   rw[zt (by simp only[List.length_cons];omega),BZ,ht,U,CG zQ zQ,U,h1]
   simp
   simp only[List.filter_cons,List.isEmpty_cons,Bool.not_false,if_true]
   exact .cons hR h2
theorem fB{n:Nat}:∀(f:Nat) (l:List AM),l.length<f→(∀r∈l,Gb r=true)→l.length≤1000→l.length<n→∃t,Il n f l=some t∧Tr f l t
 | 0,l,h,_,_,_=>by omega
 | f+1,l,h,ok,hb,hn=>by
  unfold Il
  rw[if_neg zO]
  by_cases hl:l=[]
  subst hl
  exact⟨.mk 0 0 0 [] [],rfl,.inl ⟨rfl,rfl⟩⟩
  have hp:=List.length_pos_iff.2 hl
  obtain⟨c,L,hc,A⟩:=dF hl hn zO ok
  rw[zf zO,A9,hc,U]
  by_cases hleaf:l.length≤4∨L=0
  rw[show(decide ((l.length:Int)≤4)||decide (c.lev=0))=true by rw[A.lev];simp;omega,BZ]
  unfold VE
  rw[CG zQ zQ,U]
  exact⟨_,rfl,.inr ⟨hl,c,L,A,.inl ⟨hleaf,rfl⟩⟩⟩
  have h0:0<L:=zO
  rw[show(decide ((l.length:Int)≤4)||decide (c.lev=0))=false by rw[A.lev];simp;omega,A9,bC A h0 l _ (fun r hr=>hr) zQ,U]
  simp only[List.nil_append]
  obtain⟨_,h2⟩:=Pj A h0
  obtain⟨ks,h3,h4⟩:=VD (rec_:=Il n f) (R:=Tr f) (NE L l) [] (fun p hp' hne=>by
   have hq:p∈MI L l:=List.mem_filter.2 ⟨hp',by simpa using hne⟩
   have:=h2 p hq
   exact fB f p zO (fun r hr=>ok r ((No hq).subset hr)) zO zO) (by simp[NE])
  unfold NE at h3
  rw[h3,U]
  exact⟨_,rfl,.inr ⟨hl,c,L,A,.inr ⟨by omega,h0,ks,by simp,h4⟩⟩⟩
theorem Tu{n:Nat}{l:List AM}(hn:1002≤n)(h:Cp l=true):∃t,KY n l=some (t,0)∧Il n n l=some t∧Tr n l t:=by
 have h':=h
 unfold Cp at h'
 simp only[Bool.and_eq_true,decide_eq_true_eq]at h'
 have hb:l.length≤1000:=zO
 obtain⟨t,h1,h2⟩:=fB (n:=n) n l zO (fun r hr=>List.all_eq_true.1 h'.1.1 r hr) hb zO
 refine⟨t,?_,h1,h2⟩
 unfold KY
 rw[QB l zO zO,U,h,Bool.not_true,A9,h1,U]
theorem Tt{n:Nat}{l:List AM}(hn:l.length<n)(hb:l.length≤1073741824)(h:Cp l=false):KY n l=some (.mk 0 0 0 [] [],80):=by
 unfold KY
 rw[QB l hn hb,U,h]
 rfl
end

section
variable {P:Program}{ro:Option Nat}{K:Nat→Prop}{w0:World}{N:Nat}{Q:DF}{D:List Nat}{l l':Tm}{H H' Hs:List AW}{ops:Array Oper}{items:Io}
variable {tk:Bool}{o:Oper}{t:Nat}{v:Value}{x y z u:Operand}
theorem rT{b off n c sz:Nat}{k k' k'':IntKind}{i j m:Int}{ty e:TypeId}(p q:Nat)(ho:At ops N l o t (.slice ty x (some y) (some z) (some u)))(hty:P.underlying ty=some (.slice e))(hsz:C8 P e=some sz)(hx:Bh l x=some (.slice (some ⟨b,off,none⟩) n c))(hy:Bh l y=some (.int k i))(hz:Bh l z=some (.int k' j))(hu:Bh l u=some (.int k'' m))
(hi:i=(p:Int))(hj:j=(q:Int))(hm:m=(q:Int))(hp:p<q)(hq:q≤c)(h:SL P ro K w0 N ops Hs items Q D ((t,.slice (some ⟨b,off+p*sz,none⟩) (q-p) (q-p))::l) H):SL P ro K w0 N ops Hs (.cons (tk,o) items) Q D l H:=
 SL.val ho rfl (fun a w ha _=>by
  subst hi hj hm
  have hle:p≤q:=Nat.le_of_lt hp
  have hne:¬q=p:=zO
  simp only[execOp,ho.op,Instr.sliceAt,Instr.slice,Option.map]
  simp[ha.eval hx,ha.eval hy,ha.eval hz,ha.eval hu,Ay hty,CU hsz,Instr.sliceBounds,Instr.sliceBound,asIntOf,hq,hle,hne,CA]) h
theorem CD.piece{α:Type}{enc:α→List Value}{sz b off n cap:Nat}{xs:List α}(h:CD K w0 enc sz (.slice (some ⟨b,off,none⟩) n cap) xs)(p q:Nat)(hpq:p≤q)(hq:q≤xs.length):CD K w0 enc sz (.slice (some ⟨b,off+p*sz,none⟩) (q-p) (q-p)) ((xs.drop p).take (q-p)):=by
 have hl:((xs.drop p).take (q-p)).length=q-p:=by simp;omega
 refine⟨h.len,?_⟩
 rcases h.at_ with⟨a0,e,rfl⟩ | ⟨b',off',cap',e,hcap,hc⟩
 have:q=0:=by simpa using hq
 subst this
 obtain rfl:p=0:=zO
 exact .inl ⟨_,rfl,by simp⟩
 simp only[Value.slice.injEq,Option.some.injEq,Addr.mk.injEq]at e
 obtain⟨⟨rfl,rfl,_⟩,_,_⟩:=e
 refine .inr ⟨b,off+p*sz,q-p,by rw[hl],by omega,fun j u hu=>?_⟩
 have hfl:(xs.take p).flatMap enc++(((xs.drop p).take (q-p)).flatMap enc++((xs.drop p).drop (q-p)).flatMap enc)=xs.flatMap enc:=by
  rw[←List.flatMap_append,List.take_append_drop,←List.flatMap_append,List.take_append_drop]
 have hj:j<(((xs.drop p).take (q-p)).flatMap enc).length:=(List.getElem?_eq_some_iff.1 hu).1
 have hpl:((xs.take p).flatMap enc).length=p*sz:=by
  rw[IY h.len,List.length_take,Nat.min_eq_left zO]
 have:=hc (p*sz+j) u (by
  rw[←hfl,List.getElem?_append_right zO,hpl,Nat.add_sub_cancel_left,List.getElem?_append_left hj]
  exact hu)
 rw[Nat.add_assoc]
 exact this
end

section
variable {K:Nat→Prop}{w0:World}{H:List AW}
theorem EE{A B R M:List AW}{w:World}(h:Bc K w0 ((A++(B++R))++M) w):Bc K w0 ((B++(A++R))++M) w:=by
 refine h.perm (List.Perm.append_right _ ?_)
 rw[←List.append_assoc,←List.append_assoc]
 exact List.Perm.append_right _ List.perm_append_comm
structure Fo where
 out:List A4
 wrong:Int
abbrev UX(σ:Type):=σ→List UInt8→Option ((Ad×Int)×σ)
def dP{σ:Type}(T:List UInt32)(fid:FuncId)(cs:Array Value)(C:Value→σ→List AW)(wh:UX σ):Prop:=
 ∀(K:Nat→Prop) (w0:World) (H:List AW) (a:Value) (q:σ) (s:List UInt8) (r:(Ad×Int)×σ),Ho K w0 T→wh q s=some r→
  zC K w0 fid (vS s::cs.toList) (C a q) H (fun u M=>u=.tuple #[.agg (Af r.1.1).toArray,vI r.1.2]∧∃a',M=C a' r.2)
def Mi{σ:Type}(e:List UInt8)(p:Fo)(w:Ad×Int×σ):Option (Ad×(Fo×σ)):=
 cond (!decide (w.2.1=0)) (some (⟨0,[]⟩,({ p with wrong:=w.2.1 },w.2.2))) ((Ci 40 p.out [⟨e,w.1.page,w.1.tag⟩]).bind fun l=>some (w.1,({ p with out:=l },w.2.2)))
def FT{σ:Type}(n:Nat)(wh:UX σ)(x:BP)(p:Fo)(q:σ):Option (Ad×(Fo×σ)):=
 cond (!decide (p.wrong=0)) (some (⟨0,[]⟩,(p,q)))
  ((El n x).bind fun e=>cond (decide (e.2=0)) ((wh q e.1).bind fun w=>Mi e.1 p (w.1.1,w.1.2,w.2)) (Mi e.1 p (⟨0,[]⟩,e.2,q)))
abbrev Kt(bp:Nat)(fw vo:Value)(p:Fo):AW:=AP bp (.cells #[fw,vo,vI p.wrong] 106)
theorem R4{σ:Type}{C:Value→σ→List AW}{wh:UX σ}{fid:FuncId}{cs:Array Value}{T:List UInt32}{n bp:Nat}{vo v4 v5 a:Value}{x:BP}{p:Fo}{q:σ}{r:Ad×(Fo×σ)}(hcal:AS Tryz.prog fid=true)(hwh:dP T fid cs C wh)(hS:Ho K w0 T)
(h:FT n wh x p q=some r)(hs4:CD K w0 AJ 4 v4 x.rows)(hs5:CD K w0 Af 2 v5 x.kids):
  zC K w0 85 [vP bp 0,.agg #[vI x.kind,AA x.cx,AA x.cy,vI x.lev,v4,v5,AA x.npage,vS x.ntag]] (Kt bp (.func (.func fid) #[] cs) vo p::AH 72 3 vo Ah p.out::C a q) H
   (fun u M=>u=.agg (Af r.1).toArray∧∃vo' a',M=Kt bp (.func (.func fid) #[] cs) vo' r.2.1::AH 72 3 vo' Ah r.2.1.out::C a' r.2.2):=by
 unfold FT at h
 refine Ua.enter Tryz.func85 rfl rfl ?_
 show SX _ _ _ _ _ _ _ _ _ (Kt bp (.func (.func fid) #[] cs) vo p::AH 72 3 vo Ah p.out::(C a q++H))
 refine Z ?_
 refine Bf E E zU fun b0=>?_
 refine Ag E DX zU fun b1=>?_
 refine V (AE (Z (J E (AV E E (AD E RC (AF 2 PO E (Y E Bb (V ?_))))))))
 refine AT h E (fun hc1 h=>?_) fun hc1 h=>?_
 obtain rfl:=zI h
 refine Z (BJ [] E Km Kl DX zT E (Ak 0 E E E E DD E E E zT (V (AL (AZ ?_)))))
 exact AX (ES E (BB 0 (Af ⟨0,[]⟩) Cb E E E E)) (AY (M:=_::_::C a q) ⟨E,vo,a,E⟩ fun _ hw=>Bc.pick (H:=[_,_,_,_]) hw [2,3] 4 E)
 refine AC h fun e he h=>?_
 refine AI (AG (Z (Ac [vI x.kind,AA x.cx,AA x.cy,vI x.lev,v4,v5,AA x.npage,vS x.ntag] E E6 E E (Aa 1 E) (AQ 0 sS (YE he hs4 hs5) E (J E (Am E E E (Am E E E (O E (O E (V (Z ?_)))))))))))
 refine Ag E DX zU fun b2=>?_
 refine V ?_
 refine A5 (α:=Ad×Int×σ×Value) (fun w=>Mi e.1 p (w.1,w.2.1,w.2.2.1)=some r) (fun w=>[(0,vP bp 0),(4,vP b1 0),(5,vS e.1),(6,vI w.2.1),(7,vP b2 0)])
  (fun w=>AP b2 (.cells #[AA w.1.page,vS w.1.tag] 31)::AP b1 (.cells #[AA 0,vS []] 31)::Kt bp (.func (.func fid) #[] cs) vo p::AH 72 3 vo Ah p.out::(C w.2.2.2 w.2.2.1++H)) ?_ (fun w D h=>?_)
 refine Z (J E (Y E CE (V ?_)))
 refine AT h E (fun hc2 h=>?_) fun hc2 h=>?_
 refine AC h fun w hw1 h=>?_
 refine AK (J E (AV E E (AD E nq (AF 3 wB E (J E ?_)))))
 refine SL.heap (H':=C a q++([_,_,_,_,_]++H)) ?_ (fun _ hw=>EE (A:=[_,_,_,_,_]) (B:=C a q) (R:=H) hw)
 refine Bg (vs:=[_]) (Hin:=C a q) (Hr:=[_,_,_,_,_]++H) E E ⟨E,zT⟩ hcal E E (hwh K w0 _ a q e.1 w hS hw1) ?_
 rintro _ _ ⟨rfl,a1,rfl⟩
 refine⟨trivial,?_⟩
 refine SL.heap ?_ (fun _ hw=>EE (A:=C a1 w.2) (B:=[_,_,_,_,_]) (R:=H) hw)
 refine J E (Am E E E (Am E E E (Ak 0 E E E E DD E E E zT (O E (AU ?_)))))
 exact Au (w.1.1,w.1.2,w.2,a1) h tL (BG [0,1,3,4] 5 E E E)
 refine AI ?_
 exact Au (⟨0,[]⟩,e.2,q,a) h tL (BG [0,1,3,4] 5 E E E)
 obtain⟨w,we,q1,a1⟩:=w
 unfold Mi at h
 dsimp only at h
 try dsimp only
 refine AE (Z (J E (Y E Bb (V ?_))))
 refine AT h E (fun hc3 h=>?_) fun hc3 h=>?_
 obtain rfl:=zI h
 refine Z (J E (J E (AV E E (AD E RC (Ak 2 E E E E XR E E E zT (V (Z (BJ [] E Km Kl DX zT E (Ak 1 E E E E DD E E E zT (V (AL (AZ ?_))))))))))))
 exact AX (ES E (BB 1 (Af ⟨0,[]⟩) Cb E E E E)) (AY (M:=_::_::C a1 q1) ⟨E,vo,a1,E⟩ fun _ hw=>Bc.pick (H:=[_,_,_,_]) hw [2,3] 4 E)
 refine AC h fun l hl h=>?_
 obtain rfl:=zI h
 refine AI (AG (AE (Ai CY [0,2] (Bm [(true,0),(true,1),(true,2),(true,3),(true,4),(true,5),(true,6),(true,7),(false,8),(false,9),(true,10),(true,11)] (.last 12 .nil)) zK (J E (J E (AV E E (AD E YJ (AF 1 In E (J E (Ac (Af w) E Cb E E (Aa 0 E) ?_))))))))))
 refine BJ [_,_] E iG gI NO ⟨E,E,zT⟩ E ?_
 refine Bz [_] rfl FD JE NO ⟨rfl,trivial⟩ rfl rfl rfl zW rfl rfl (fun _=>⟨⟨1,rfl⟩,⟨3,rfl⟩,trivial⟩) fun b3=>?_
 refine B2 Ah 3 ([(⟨e.1,w.page,w.tag⟩:A4)]:List A4) E zV E ?_
 refine CQ 4 hl (sz:=3) (enc:=Ah) zV E FD JE aq NO E zD E E E E (Bs (sz:=3) (enc:=Ah) 0 zV E) (by simp[Ah,Value.oneCell']) (fun _=>⟨⟨1,E⟩,⟨3,E⟩,zT⟩) fun v3=>?_
 refine AV E E (AD E YJ (BK ?_))
 refine Bq 4 E fun hv3 ho3=>?_
 refine Dk 3 E E E E bO hv3 ho3 E zT (V (Z (Ac (Af w) E Cb E E (Aa 1 E) (Ak 2 E E E E DD E E E zT (V (AL ?_))))))
 exact AX (ES E (BB 2 (Af w) Cb E E E E)) (AY (M:=_::_::C a1 q1) ⟨E,v3,a1,E⟩ fun _ hw=>Bc.pick (H:=[_,_,_,_,_]) hw [3,4] 5 E)
end

section
variable {K:Nat→Prop}{w0:World}{H:List AW}
abbrev MG:=Zx×List AM
def Jr(a:MG):List Value:=[a.1.val]
def Su(b off:Nat)(l:List AM)(i:Nat):MG:=
 (⟨some ⟨b,off+4*i*4,none⟩,min (4*i+4) l.length-4*i,min (4*i+4) l.length-4*i⟩,(l.drop (4*i)).take (min (4*i+4) l.length-4*i))
def Kb(b off:Nat)(l:List AM)(n:Nat):List MG:=(List.range n).map (Su b off l)
def Lr(b off:Nat)(l:List AM):List MG:=Kb b off l ((l.length+3) / 4)
theorem gd{b off n cap:Nat}{l:List AM}(h:CD K w0 AJ 4 (.slice (some ⟨b,off,none⟩) n cap) l):∀a∈Lr b off l,CD K w0 AJ 4 a.1.val a.2:=by
 intro a ha
 obtain⟨i,hi,rfl⟩:=List.mem_map.1 ha
 have hi':=List.mem_range.1 hi
 exact h.piece (4*i) (min (4*i+4) l.length) zO zO
theorem aK(b off:Nat)(l:List AM)(n:Nat):Kb b off l (n+1)=Kb b off l n++[Su b off l n]:=by
 simp[Kb,List.range_succ]
theorem Y4(b off:Nat)(l:List AM)(k:Nat)(h:4*k<l.length):∃suf,Lr b off l=Kb b off l k++Su b off l k::suf:=by
 obtain⟨m,hm⟩:∃m,(l.length+3) / 4=k+1+m:=⟨(l.length+3) / 4-(k+1),by omega⟩
 refine⟨(List.range m).map fun j=>Su b off l (k+1+j),?_⟩
 rw[Lr,hm,Kb,List.range_add,List.map_append,List.map_map,List.range_succ,List.map_append,List.append_assoc]
 rfl
theorem f7{b1 b2 b off cap:Nat}{l:List AM}{G0:List AW}(hl:l.length≤1048576)(hs:CD K w0 AJ 4 (.slice (some ⟨b,off,none⟩) l.length cap) l)(hcap:l.length≤cap):
  QD Tryz.prog K w0 173 [vP b1 0,vP b2 0] [AP b1 (.cells #[.slice (some ⟨b,off,none⟩) l.length cap] 35),AP b2 (.cells #[vI 4] 3)] G0 Jr (Lr b off l):=by
 intro lp J9 X T rc hy h0
 refine Ua.enter Tryz.func173 rfl rfl ?_
 show SX _ _ _ _ _ _ _ _ _ (AP b1 (.cells #[.slice (some ⟨b,off,none⟩) l.length cap] 35)::AP b2 (.cells #[vI 4] 3)::((rc::G0)++T))
 refine Z (O E (V (AN ?_)))
 refine SX.mono (A6 (α:=Nat×List AW) (fun x=>4*x.1≤l.length+3∧J9 (Kb b off l x.1) x.2) (fun x=>[(0,vY lp),(1,vP b1 0),(2,vP b2 0),(4,vI ((4*x.1:Nat):Int))])
  (fun x=>AP b1 (.cells #[.slice (some ⟨b,off,none⟩) l.length cap] 35)::AP b2 (.cells #[vI 4] 3)::(x.2++T)) (fun x=>l.length-x.1) (fun x D hp=>?_) (0,rc::G0) ⟨by omega,h0⟩) tL
 obtain⟨k,G⟩:=x
 obtain⟨hk,hJ⟩:=hp
 dsimp only at hk hJ ⊢
 refine AE (Z (J E (AF 0 FO E (OG E Bt E (Y E Aw (V ?_))))))
 refine As E (fun hc1=>?_) (fun hc1=>?_)
 have hlt:4*k<l.length:=by
  have:=of_decide_eq_true hc1
  omega
 clear hc1
 obtain⟨suf,hsp⟩:=Y4 b off l k hlt
 refine AI (AG (AE (AN (AE (Ai CY [0,1] (Pl.of [(true,0),(true,1),(true,2),(true,3),(true,4),(true,5),(true,6)]) zK (AF 1 D6 E (AF 0 FO E (J E (YW (4*k) E Bt B4 E E E zO zO (OG E Bt E (PW E E E (O E (V (Z ?_))))))))))))))
 refine J E (AF 0 FO E (J E (J E (J E (Y E (BV zO zO) (J E (J E ?_)))))))
 refine Y E (BV zO zO) (rT (4*k) (min (4*k+4) l.length) E Bt B4 E E E E E zO zO zO zO ?_)
 refine Jb (M2:=[_,_]) (G:=G) (T:=T) (vs:=[_]) (ok:=fun G1=>J9 (Kb b off l (k+1)) G1) (no:=X) E E ⟨E,zT⟩ E ?_ (fun bb G1 hG1=>⟨zT,?_⟩)
 intro M
 have:=hy (Kb b off l k) (Su b off l k) suf hsp G hJ M
 rw[←aK]at this
 exact this
 refine CH E E (V ?_)
 refine As E (fun hc3=>?_) (fun hc3=>?_)
 obtain rfl:bb=false:=by simpa using hc3
 refine AL (Ba (AZ (Dq (Ba ?_))))
 exact AX (DY E) (AY (M:=G1) (.inr hG1) fun _ h=>h.skip [_,_])
 obtain rfl:bb=true:=by simpa using hc3
 refine AI (Ao (AG (AK (J E (AF 1 D6 E (Y E (BV zO zO) ?_))))))
 refine An (u:=vI ((4*(k+1):Nat):Int)) E E (congrArg vI zO) ?_
 refine AU ?_
 exact Al (k+1,G1) ⟨by omega,hG1⟩ (by dsimp only;omega) tL (BG [0,1] 2 E E E)
 have hge:l.length≤4*k:=by
  have:=of_decide_eq_false hc1
  omega
 have hkk:(l.length+3) / 4=k:=zO
 refine Ax (A3 (BO (A0 ?_)))
 exact Cy (DY E) (AY (M:=G) (.inl (by rw[Lr,hkk];exact hJ)) fun _ h=>h.skip [_,_])
end

section
variable {K:Nat→Prop}{w0:World}{H:List AW}
theorem jv{α:Type}{by_:Nat}{xs:List α}{x:α}(h:xs.length+1≤1048576)(hb:by_≤1024):Ci by_ xs [x]=some (xs++[x]):=by
 have h1:(xs.length+1)*by_≤1048576*1024:=Nat.mul_le_mul h hb
 rw[Ci,if_pos ⟨by simp only[List.length_cons,List.length_nil,Nat.zero_add];omega,by simp only[List.length_cons,List.length_nil,Nat.zero_add];omega⟩]
theorem la(a:MG)(u:Value)(h:u∈Jr a):u.oneCell'=true:=by
 obtain rfl:u=a.1.val:=by simpa[Jr]using h
 rfl
theorem oE{v:Value}:zC K w0 128 [v,vI 4] [] H (fun u M=>∃b1 b2:Nat,u=.func (.func 173) #[] #[vP b1 0,vP b2 0]∧M=[AP b1 (.cells v.cells 35),AP b2 (.cells #[vI 4] 3)]):=by
 refine Ua.enter Tryz.func128 rfl rfl ?_
 refine Z ?_
 refine Bf E E zU fun b1=>?_
 refine Bf E E zU fun b2=>?_
 refine O E (V (AE (Z (AF 0 D6 E (Y E Aw (V (D5 E (AI (AG (Z ?_))))))))))
 refine Hj (fv:=#[]) (cv:=#[_,_]) E E E ?_
 refine O E (V (AL ?_))
 exact DL [1,0] 2 (Df E E) E E ⟨_,_,E,E⟩
theorem dM{f:FuncId}{cap:List Value}{Hit:List AW}{xs:List MG}(hcal:AS Tryz.prog f=true)(hn:xs.length≤1048576)(hseq:∀G0,QD Tryz.prog K w0 f cap Hit G0 Jr xs):
  zC K w0 172 [.slice none 0 0,.func (.func f) #[] cap.toArray] Hit H (fun u M=>∃v0:Value,u=v0∧M=[AH 35 1 v0 Jr xs]):=by
 refine Ua.enter Tryz.func172 rfl rfl ?_
 refine Z ?_
 refine Bf E E zU fun b0=>?_
 refine O E (V (M5 35 1 Jr (SX.pick [1,0] 2 (AE (Z (J E (V (AN ?_))))))))
 refine SX.heap (N3 (enc:=Jr) xs (G0:=AP b0 (.cells #[zN] 200)::AH 35 1 zN Jr []::H) (fun pre G=>∃vr:Value,G=AP b0 (.cells #[vr] 200)::AH 35 1 vr Jr pre::H) (fun _ _=>False) E hcal E zV (hseq _) E ⟨_,E⟩ (fun pre x suf G hxs hJ r lp Rest=>?_) (fun G D hJ=>?_) (fun c G D hX=>hX.elim)) (fun _ hw=>EE (A:=[_,_]) (B:=Hit) (R:=H) hw)
 obtain⟨vr,rfl⟩:=hJ
 have hlen:pre.length+1≤1048576:=by
  have:=congrArg List.length hxs
  simp only[List.length_append,List.length_cons]at this
  omega
 refine AK (O E (AU ?_))
 refine Lv (G:=AP b0 (.cells #[vr] 200)::AH 35 1 vr Jr pre::H) ?_
 refine AN (AK (AF 0 ef E (J E ?_)))
 refine Bz [_] rfl Wz LS pB ⟨rfl,trivial⟩ rfl rfl rfl (by intro v hv;simp only[List.mem_cons,List.not_mem_nil,or_false]at hv;rcases hv with rfl;rfl) rfl rfl zU fun b1=>?_
 refine B2 Jr 1 ([x]:List MG) E zV E ?_
 refine CQ 2 (jv hlen (by decide:24≤1024)) (sz:=1) (enc:=Jr) zV E Wz LS wH pB E zD E E E E (Bs (sz:=1) (enc:=Jr) 0 zV E) la zU fun v3=>?_
 refine Bq 2 E fun hv3 ho3=>?_
 refine Dk 1 E E E E ux hv3 ho3 E zT (AU (Ao ?_))
 exact I7 ⟨v3,E⟩ (BG [1,2] 3 E E E)
 obtain⟨vr,rfl⟩:=hJ
 refine Ao (AG (Z (AF 0 ef E (O E (V (AL ?_))))))
 exact DL [1] 2 (Df E E) E E ⟨_,E,E⟩
theorem jE{f:FuncId}{cap:List Value}{Hit:List AW}{xs:List MG}(hcal:AS Tryz.prog f=true)(hn:xs.length≤1048576)(hseq:∀G0,QD Tryz.prog K w0 f cap Hit G0 Jr xs):
  zC K w0 127 [.func (.func f) #[] cap.toArray] Hit H (fun u M=>∃v0:Value,u=v0∧M=[AH 35 1 v0 Jr xs]):=by
 refine Ua.enter Tryz.func127 rfl rfl ?_
 refine Z (O E (V (Z (J E ?_))))
 refine Bg (vs:=[_,_]) (Hin:=Hit) (Hr:=_) E E ⟨E,E,zT⟩ rk E E (dM hcal hn hseq) ?_
 rintro v1 _ ⟨_,rfl,rfl⟩
 refine⟨trivial,?_⟩
 refine O E (V (AL ?_))
 exact DL [0] 1 (Df E E) E E ⟨_,E,E⟩
end

section
variable {K:Nat→Prop}{w0:World}{H:List AW}
def FK{α:Type}(xs:List α):List (Int×α):=(xs.zipIdx.map fun p=>((p.2:Int),p.1)).reverse
theorem Jz{α:Type}(xs:List α):(FK xs).length=xs.length:=by simp[FK]
theorem Yu{α:Type}(xs:List α)(k:Nat)(h:k<xs.length):(FK xs)[k]'(by rw[Jz];exact h)=(((xs.length-1-k:Nat):Int),xs[xs.length-1-k]' zO):=by
 simp[FK,List.getElem_reverse,List.getElem_map,List.getElem_zipIdx]
theorem bS{α:Type}(ys:List α)(k:Nat)(h:k<ys.length):ys=ys.take k++ys[k]::ys.drop (k+1):=by
 rw[←List.drop_eq_getElem_cons h,List.take_append_drop]
theorem YM{α:Type}(ys:List α)(k:Nat)(h:k<ys.length):ys.take k++[ys[k]]=ys.take (k+1):=by
 rw[List.take_add_one,List.getElem?_eq_getElem h]
 rfl
def oP(a:Int×MG):List Value:=[vI a.1,a.2.1.val]
theorem r6{bx:Nat}{va:Value}{xs:List MG}{G0:List AW}(hn:xs.length≤1048576):
  QD Tryz.prog K w0 174 [vP bx 0] [AP bx (.cells #[va] 200),AH 35 1 va Jr xs] G0 oP (FK xs):=by
 intro lp J9 X T rc hy h0
 refine Ua.enter Tryz.func174 rfl rfl ?_
 show SX _ _ _ _ _ _ _ _ _ (AP bx (.cells #[va] 200)::AH 35 1 va Jr xs::((rc::G0)++T))
 refine Z ?_
 refine Bq 1 E fun hva hoa=>?_
 refine AF 0 ef E (Dg 1 E Wz E E (Y E (Do zO zO) (O E (V (AN ?_)))))
 refine SX.mono (A6 (α:=Nat×List AW) (fun x=>x.1≤xs.length∧J9 ((FK xs).take x.1) x.2) (fun x=>[(0,vY lp),(1,vP bx 0),(3,vI ((xs.length:Int)-1-(x.1:Int)))])
  (fun x=>AP bx (.cells #[va] 200)::AH 35 1 va Jr xs::(x.2++T)) (fun x=>xs.length-x.1) (fun x D hp=>?_) (0,rc::G0) ⟨Nat.zero_le _,h0⟩) (by simpa using tL)
 obtain⟨k,G⟩:=x
 obtain⟨hk,hJ⟩:=hp
 dsimp only at hk hJ ⊢
 refine AE (Z (J E (Y E IW (V ?_))))
 refine As E (fun hc1=>?_) (fun hc1=>?_)
 have hlt:k<xs.length:=by
  have:=of_decide_eq_true hc1
  omega
 clear hc1
 have hb:k<(FK xs).length:=by rw[Jz];exact hlt
 have hget:=Yu xs k hlt
 have hx:Aq xs ((xs.length:Int)-1-(k:Int))=some (xs[xs.length-1-k]' zO):=by
  rw[Aq,if_pos zO,show((xs.length:Int)-1-(k:Int)).toNat=xs.length-1-k by omega]
  exact List.getElem?_eq_getElem _
 refine AI (AG (AE (AN (Z (J E (J E (AF 0 ef E (J E ?_))))))))
 refine BR 1 hx E Wz LS E E E fun g1 m1 cp1 hv1=>?_
 refine Bi E FO E (Br (sz:=1) (enc:=Jr) 1 0 zV E hv1 hx E) ?_
 refine Jb (M2:=[_,_]) (G:=G) (T:=T) (vs:=[_,_]) (ok:=fun G1=>J9 ((FK xs).take (k+1)) G1) (no:=X) E E ⟨E,E,zT⟩ E ?_ (fun bb G1 hG1=>⟨zT,?_⟩)
 intro M
 have:=hy ((FK xs).take k) ((FK xs)[k]) ((FK xs).drop (k+1)) (bS _ k hb) G hJ M
 rw[YM _ k hb,hget]at this
 rw[show((xs.length:Int)-1-(k:Int))=((xs.length-1-k:Nat):Int) by omega]
 exact this
 refine CH E E (V ?_)
 refine As E (fun hc3=>?_) (fun hc3=>?_)
 obtain rfl:bb=false:=by simpa using hc3
 refine AL (Ba (AZ (Dq (Ba ?_))))
 exact AX (DY E) (AY (M:=G1) (.inr hG1) fun _ h=>h.skip [_,_])
 obtain rfl:bb=true:=by simpa using hc3
 refine AI (Ao (AG (AK (J E (Y E (Do zO zO) ?_)))))
 refine An (u:=vI ((xs.length:Int)-1-((k+1:Nat):Int))) E E (congrArg vI zO) ?_
 refine AU ?_
 exact Al (k+1,G1) ⟨hlt,hG1⟩ (by dsimp only;omega) tL (BG [0,1] 2 E E E)
 have hge:k=xs.length:=by
  have:=of_decide_eq_false hc1
  omega
 subst hge
 rw[List.take_of_length_le (by rw[Jz];exact Nat.le_refl _)]at hJ
 refine Ax (A3 (BO (A0 ?_)))
 exact Cy (DY E) (AY (M:=G) (.inl hJ) fun _ h=>h.skip [_,_])
theorem rf{va:Value}(hva:va.cells=#[va]):zC K w0 129 [va] [] H (fun u M=>∃bx:Nat,u=.func (.func 174) #[] #[vP bx 0]∧M=[AP bx (.cells #[va] 200)]):=by
 refine Ua.enter Tryz.func129 rfl rfl ?_
 refine Z ?_
 refine Bf E E zU fun b1=>?_
 rw[hva]
 refine O E (V (Z ?_))
 refine Hj (fv:=#[]) (cv:=#[_]) E E E ?_
 refine O E (V (AL ?_))
 exact DL [0] 1 (Df E E) E E ⟨_,E,E⟩
end

section
variable {K:Nat→Prop}{w0:World}{H:List AW}
theorem Yw{α:Type}(xs:List α):(FK xs).map (·.2)=xs.reverse:=by
 rw[FK,List.map_reverse,List.map_map]
 congr 1
 have:((fun x:Int×α=>x.2)∘fun p:α×Nat=>((p.2:Int),p.1))=Prod.fst:=rfl
 rw[this,List.zipIdx_map_fst]
def PP(v:Value)(l:List AM):List MG:=
 match v,l with
 | _,[]=>[(⟨none,0,0⟩,[])]
 | .slice (some a) _ _,l=>Lr a.block a.off l
 | _,l=>[]
theorem WI(v:Value):PP v []=[(⟨none,0,0⟩,[])]:=by cases v<;>rfl
theorem PT{b off n c:Nat}{l:List AM}(h:l≠[]):PP (.slice (some ⟨b,off,none⟩) n c) l=Lr b off l:=by
 cases l with
 | nil=>exact absurd rfl h
 | cons _ _=>rfl
theorem nl{v:Value}{l:List AM}(h:CD K w0 AJ 4 v l):∀a∈PP v l,CD K w0 AJ 4 a.1.val a.2:=by
 by_cases hl:l=[]
 subst hl
 rw[WI]
 intro a ha
 obtain rfl:=List.mem_singleton.1 ha
 exact⟨h.len,.inl ⟨_,rfl,rfl⟩⟩
 rcases h.at_ with⟨_,_,e⟩ | ⟨b,off,cap,rfl,hc,hcell⟩
 exact absurd e hl
 rw[PT hl]
 exact gd h
theorem bE{b1 b2:Nat}{a:Option Addr}{G0:List AW}:
  QD Tryz.prog K w0 173 [vP b1 0,vP b2 0] [AP b1 (.cells #[.slice a 0 0] 35),AP b2 (.cells #[vI 4] 3)] G0 Jr []:=by
 intro lp J9 X T rc hy h0
 refine Ua.enter Tryz.func173 rfl rfl ?_
 show SX _ _ _ _ _ _ _ _ _ (AP b1 (.cells #[.slice a 0 0] 35)::AP b2 (.cells #[vI 4] 3)::((rc::G0)++T))
 refine Z (O E (V (AN ?_)))
 refine SX.mono (A6 (α:=Unit) (fun _=>True) (fun _=>[(0,vY lp),(1,vP b1 0),(2,vP b2 0),(4,vI 0)])
  (fun _=>AP b1 (.cells #[.slice a 0 0] 35)::AP b2 (.cells #[vI 4] 3)::((rc::G0)++T)) (fun _=>0) (fun x D hp=>?_) () trivial) tL
 refine AE (Z (J E (AF 0 FO E (OG E Bt E (Y E Aw (V (D5 E (Ax (A3 (BO (A0 ?_)))))))))))
 exact Cy (DY E) (AY (M:=rc::G0) (.inl h0) fun _ h=>h.skip [_,_])
def IK(v:Value)(l:List AM):List MG:=if l=[]then[]else PP v l
theorem mA{b1 b2:Nat}{v:Value}{l:List AM}(hl:l.length≤1048576)(hs:CD K w0 AJ 4 v l)(G0:List AW):
  QD Tryz.prog K w0 173 [vP b1 0,vP b2 0] [AP b1 (.cells v.cells 35),AP b2 (.cells #[vI 4] 3)] G0 Jr (IK v l):=by
 by_cases h0:l=[]
 subst h0
 rw[IK,if_pos rfl]
 rcases hs.at_ with⟨a,rfl,_⟩ | ⟨b,off,cap,rfl,_⟩
 exact bE
 rcases hs.at_ with⟨a,e,_⟩ | ⟨b',off',cap',e,hc,hcell⟩
 rw[e]
 exact bE
 have:=f7 (G0:=G0) (b1:=b1) (b2:=b2) (cap:=cap) hl hs zS
 exact this
 rcases hs.at_ with⟨_,_,e⟩ | ⟨b,off,cap,rfl,hc,hcell⟩
 exact absurd e h0
 rw[IK,if_neg h0,PT h0]
 exact f7 hl hs hc
theorem SC(b off:Nat)(l:List AM):(Lr b off l).length=(l.length+3) / 4:=by simp[Lr,Kb]
theorem Xl{v:Value}{l:List AM}(hs:CD K w0 AJ 4 v l)(hl:l.length≤1048576):(IK v l).length≤1048576:=by
 by_cases h0:l=[]
 rw[IK,if_pos h0];simp
 rcases hs.at_ with⟨_,_,e⟩ | ⟨b,off,cap,rfl,hc,hcell⟩
 exact absurd e h0
 rw[IK,if_neg h0,PT h0,SC]
 omega
theorem ZD{v:Value}{l:List AM}(hs:CD K w0 AJ 4 v l):(if(IK v l).length=0 then[((⟨none,0,0⟩:Zx),([]:List AM))]else IK v l)=PP v l:=by
 by_cases h0:l=[]
 subst h0
 rw[IK,if_pos rfl,WI]
 rfl
 rcases hs.at_ with⟨_,_,e⟩ | ⟨b,off,cap,rfl,hc,hcell⟩
 exact absurd e h0
 have hp:0<l.length:=List.length_pos_iff.2 h0
 rw[IK,if_neg h0,PT h0,if_neg (by rw[SC];omega)]
end

section
variable {K:Nat→Prop}{w0:World}{H:List AW}
theorem CD.one{α:Type}{enc:α→List Value}{sz:Nat}{v:Value}{xs:List α}(h:CD K w0 enc sz v xs):v.cells=#[v]:=by
 rcases h.at_ with⟨_,rfl,_⟩ | ⟨_,_,_,rfl,_⟩<;>rfl
theorem mC{bx:Nat}{v:Value}{l:List AM}{G0:List AW}(hl:l.length≤1048576)(hs:CD K w0 AJ 4 v l):
  QD Tryz.prog K w0 126 [vP bx 0] [AP bx (.cells #[v] 35)] G0 Jr (PP v l).reverse:=by
 intro lp J9 X T rc hy h0
 refine Ua.enter Tryz.func126 rfl rfl ?_
 show SX _ _ _ _ _ _ _ _ _ (AP bx (.cells #[v] 35)::((rc::G0)++T))
 have hlen:=Xl hs hl
 refine Z ?_
 refine Bf E E zU fun b0=>?_
 refine V (Z (AF 1 FO E (Bn 0 rU oE E ?_)))
 rintro _ _ ⟨b1,b2,rfl,rfl⟩
 refine Bg (vs:=[_]) (Hin:=[_,_]) (Hr:=_::_::_) E E ⟨E,zT⟩ qT E E (jE (cap:=[vP b1 0,vP b2 0]) sb hlen (fun G0=>mA hl hs G0)) ?_
 rintro va _ ⟨_,rfl,rfl⟩
 refine⟨trivial,?_⟩
 refine O E (V ?_)
 refine A5 (α:=Value×List MG) (fun x=>x.2=PP v l) (fun x=>[(0,vY lp),(2,vP b0 0),(3,x.1)]) (fun x=>AH 35 1 x.1 Jr x.2::AP b0 (.cells #[vY lp] 46)::((rc::G0)++T)) ?_ (fun x D hx=>?_)
 refine Z (J E (Dg 0 E Wz E E (Y E CE (V ?_))))
 refine As E (fun hc1=>?_) (fun hc1=>?_)
 have hz:(IK v l).length=0:=by
  have:=of_decide_eq_true hc1
  omega
 refine AK ?_
 refine Bz [_] E Wz LS pB ⟨E,zT⟩ E E E zX E E zU fun b3=>?_
 refine B2 Jr 1 ([(⟨none,0,0⟩,[])]:List MG) E zV E ?_
 refine O E (AU ?_)
 exact Au (.slice (some ⟨b3,0,none⟩) 1 1,[(⟨none,0,0⟩,[])]) (show([(⟨none,0,0⟩,[])]:List MG)=PP v l by rw[←ZD hs,if_pos hz]) tL (BG [0,2] 4 E E E)
 have hz:¬(IK v l).length=0:=by
  have:=of_decide_eq_false hc1
  omega
 refine AI ?_
 exact Au (va,IK v l) (show IK v l=PP v l by rw[←ZD hs,if_neg hz]) tL (BG [0,1] 3 E E E)
 obtain⟨va,xs⟩:=x
 have hx:xs=PP v l:=hx
 have hxn:xs.length≤1048576:=by
  rw[hx,←ZD hs]
  split
  simp
  exact hlen
 rw[←hx]at hy ⊢
 clear hx
 try dsimp only
 refine Z ?_
 refine Qi 0 E fun sv hsv=>?_
 refine J E ?_
 refine Bn 0 qj (rf (va:=va) (by rw[hsv];rfl)) E ?_
 rintro _ _ ⟨b4,rfl,rfl⟩
 refine V (AN ?_)
 refine N3 (enc:=oP) (FK xs) (Hit:=[_,_]) (G0:=AP b0 (.cells #[vY lp] 46)::((rc::G0)++T)) (fun pre Gx=>∃G,J9 (pre.map (·.2)) G∧Gx=AP b0 (.cells #[vY lp] 46)::(G++T)) (fun c Gx=>c=.ret∧∃G,X G∧Gx=AP b0 (.cells #[vY lp] 46)::(G++T)) E qN E zV (r6 hxn) E ⟨rc::G0,h0,E⟩ (fun pre x suf Gx hxs hJ r lr Rest=>?_) (fun Gx D hJ=>?_) (fun c Gx D hX=>?_)
 obtain⟨G,hJ,rfl⟩:=hJ
 refine AK (O E (AU ?_))
 refine Lv (G:=AP b0 (.cells #[vY lp] 46)::(G++T)) ?_
 refine AN (Z (AF 0 wG E (J E ?_)))
 refine Jb (M2:=[AP b0 (.cells #[vY lp] 46)]) (G:=G) (T:=T++Tl r lr Rest .busy) (vs:=[_]) (ok:=fun G1=>J9 ((pre++[x]).map (·.2)) G1) (no:=X) E E ⟨E,zT⟩ (by simp[List.append_assoc]) ?_ (fun bb G1 hG1=>⟨zT,?_⟩)
 intro M
 have hsp:xs.reverse=pre.map (·.2)++x.2::suf.map (·.2):=by
  rw[←Yw,hxs,List.map_append,List.map_cons]
 have:=hy (pre.map (·.2)) x.2 (suf.map (·.2)) hsp G hJ M
 rw[List.map_append,List.map_cons,List.map_nil]
 exact this
 refine CH E E (V ?_)
 refine As E (fun hc2=>?_) (fun hc2=>?_)
 obtain rfl:bb=false:=by simpa using hc2
 refine AL (Ba ?_)
 exact nS ⟨E,G1,hG1,E⟩ (fun _ hw=>by simpa[List.append_assoc]using hw)
 obtain rfl:bb=true:=by simpa using hc2
 refine AI (Ao ?_)
 exact I7 ⟨G1,hG1,E⟩ (fun _ hw=>by simpa[List.append_assoc]using hw)
 obtain⟨G,hJ,rfl⟩:=hJ
 rw[Yw]at hJ
 refine Ao ?_
 exact Cy (DY E) (AY (M:=G) (.inl hJ) fun _ h=>h.skip [_])
 obtain⟨rfl,G,hX,rfl⟩:=hX
 refine AL (Ba ?_)
 exact AX (DY E) (AY (M:=G) (.inr hX) fun _ h=>h.skip [_])
theorem mr{v:Value}(hv:v.cells=#[v]):zC K w0 86 [v] [] H (fun u M=>∃bx:Nat,u=.func (.func 126) #[] #[vP bx 0]∧M=[AP bx (.cells #[v] 35)]):=by
 refine Ua.enter Tryz.func86 rfl rfl ?_
 refine Z ?_
 refine Bf E E zU fun b1=>?_
 rw[hv]
 refine O E (V (Z ?_))
 refine Hj (fv:=#[]) (cv:=#[_]) E E E ?_
 refine O E (V (AL ?_))
 exact DL [0] 1 (Df E E) E E ⟨_,E,E⟩
end

section
variable {K:Nat→Prop}{w0:World}{H:List AW}
theorem Ey.mid:∀ {Hs A B R:List AW},Ey Hs A→Ey Hs (B++(A++R))
 | [],_,_,_,_=>trivial
 | c::r,A,B,R,⟨⟨i,hi⟩,h⟩=>⟨⟨B.length+i,by
   have hlt:=(List.getElem?_eq_some_iff.1 hi).1
   rw[List.getElem?_append_right zO,Nat.add_sub_cancel_left,List.getElem?_append_left hlt,hi]⟩,Ey.mid h⟩
theorem Ys{k:AW}{A B R M:List AW}{w:World}(h:Bc K w0 ((k::(A++(B++R)))++M) w):Bc K w0 ((k::(B++(A++R)))++M) w:=by
 refine h.perm (List.Perm.append_right _ (List.Perm.cons _ ?_))
 rw[←List.append_assoc,←List.append_assoc]
 exact List.Perm.append_right _ List.perm_append_comm
theorem RQ{α:Type}{enc:α→List Value}{sz:Nat}(hl:∀x,(enc x).length=sz):CD K w0 enc sz zN []:=⟨hl,.inl ⟨_,rfl,rfl⟩⟩
def JZ(l:List AM):List (List AM):=if l=[]then[[]]else(List.range ((l.length+3) / 4)).map fun i=>(l.drop (4*i)).take (min (4*i+4) l.length-4*i)
theorem ge{v:Value}{l:List AM}(h:CD K w0 AJ 4 v l):(PP v l).map (·.2)=JZ l:=by
 by_cases hl:l=[]
 subst hl
 rw[WI]
 rfl
 rcases h.at_ with⟨_,_,e⟩ | ⟨b,off,cap,rfl,hc,hcell⟩
 exact absurd e hl
 rw[PT hl,JZ,if_neg hl,Lr,Kb,List.map_map]
 rfl
def GR{σ:Type}(rec_:Bd→Fo→σ→Option (Ad×(Fo×σ))):List Bd→Fo→σ→List Ad→Option (List Ad×(Fo×σ))
 | [],p,q,acc=>some (acc,(p,q))
 | k::ks,p,q,acc=>(rec_ k p q).bind fun y=>(Ci 24 acc [y.1]).bind fun acc'=>GR rec_ ks y.2.1 y.2.2 acc'
def Ir{σ:Type}(n:Nat)(wh:UX σ):List (List AM)→Ad→Fo→σ→Option (Ad×(Fo×σ))
 | [],r,p,q=>some (r,(p,q))
 | l::ls,r,p,q=>(FT n wh ⟨1,0,0,0,l,[],r.page,r.tag⟩ p q).bind fun y=>cond (!decide (y.2.1.wrong=0)) (some y) (Ir n wh ls y.1 y.2.1 y.2.2)
def Ev{σ:Type}(n:Nat)(wh:UX σ):Nat→Bd→Fo→σ→Option (Ad×(Fo×σ))
 | 0,_,_,_=>none
 | f+1,t,p,q=>if 1048576<t.rows.length∨1048576<t.kids.length then none else cond (decide (0<(t.kids.length:Int)))
   ((GR (Ev n wh f) t.kids p q []).bind fun y=>FT n wh ⟨2,t.cx,t.cy,t.lev,[],y.1,0,[]⟩ y.2.1 y.2.2)
   (Ir n wh (JZ t.rows).reverse ⟨0,[]⟩ p q)
theorem ON{σ:Type}{C:Value→σ→List AW}{wh:UX σ}{fid:FuncId}{cs:Array Value}{T:List UInt32}{n bp:Nat}(hcal:AS Tryz.prog fid=true)(hwh:dP T fid cs C wh):
  ∀(f:Nat) {K:Nat→Prop} {w0:World} {H:List AW} {vo ca:Value} {a:E5} {t:Bd} {p:Fo} {q:σ} {r:Ad×(Fo×σ)},Ho K w0 T→Ev n wh f t p q=some r→Nr K w0 a t→
  zC K w0 53 [vP bp 0,.agg (B8 a).toArray] (Kt bp (.func (.func fid) #[] cs) vo p::AH 72 3 vo Ah p.out::C ca q) H
   (fun u M=>u=.agg (Af r.1).toArray∧∃vo' ca',M=Kt bp (.func (.func fid) #[] cs) vo' r.2.1::AH 72 3 vo' Ah r.2.1.out::C ca' r.2.2)
 | 0,K,w0,H,vo,ca,a,t,p,q,r,hS,h,hN=>by cases h
 | f+1,K,w0,H,vo,ca,a,t,p,q,r,hS,h,hN=>by
  have h:(if 1048576<t.rows.length∨1048576<t.kids.length then none else cond (decide (0<(t.kids.length:Int)))
   ((GR (Ev n wh f) t.kids p q []).bind fun y=>FT n wh ⟨2,t.cx,t.cy,t.lev,[],y.1,0,[]⟩ y.2.1 y.2.2)
   (Ir n wh (JZ t.rows).reverse ⟨0,[]⟩ p q))=some r:=h
  split at h
  cases h
  rename_i hbig
  have hrl:t.rows.length≤1048576:=zO
  have hkl:t.kids.length≤1048576:=zO
  clear hbig
  obtain⟨rv,kv,rfl,hr,hk⟩:=hN.parts
  refine Ua.enter Tryz.func53 rfl rfl ?_
  show SX _ _ _ _ _ _ _ _ _ (Kt bp (.func (.func fid) #[] cs) vo p::AH 72 3 vo Ah p.out::(C ca q++H))
  refine Z ?_
  refine Bf E E zU fun b0=>?_
  refine Bf E E zU fun b1=>?_
  refine Ag E DX zU fun b2=>?_
  refine V (LB (AE (Z (AD E Jj (AF 1 US E (To hk E Oc E (Y E Ca (V ?_))))))))
  refine AT h E (fun hc1 h=>?_) fun hc1 h=>?_
  refine Z (AD rfl Oj (Ac [AA t.cx,AA t.cy,vI t.lev] rfl Es rfl rfl (Ce 1 rfl (by rintro(_ | (_ | (_ | j))) u hj<;>first | exact hj | exact absurd hj zS)) (BJ [_,_] rfl QH QN Gy ⟨rfl,rfl,trivial⟩ rfl ?_)))
  refine Ag E Gy zU fun b3=>?_
  refine Ak 0 E E E E HL E E E zT (Du 0 (AP b3 (.cells #[vI 2,AA t.cx,AA t.cy,vI t.lev,zN,zN,AA 0,vS []] 148)) (Bk 31 2 Af (V (AE (Z (AD E Jj (AF 3 US E (To hk E Oc E (J E (V (AN ?_)))))))))))
  refine SX.heap (SX.mono (A6 (α:=Nat×List Ad×Value×Fo×σ×Value×Value) (fun x=>x.1≤t.kids.length∧((GR (Ev n wh f) (t.kids.drop x.1) x.2.2.2.1 x.2.2.2.2.1 x.2.1).bind fun y=>FT n wh ⟨2,t.cx,t.cy,t.lev,[],y.1,0,[]⟩ y.2.1 y.2.2)=some r)
   (fun x=>[(2,vP b0 0),(4,vP b2 0),(5,vP b3 0),(18,kv.val),(19,vI (t.kids.length:Int)),(20,vI (x.1:Int))])
   (fun x=>AP b3 (.cells #[vI 2,AA t.cx,AA t.cy,vI t.lev,zN,x.2.2.1,AA 0,vS []] 148)::AH 31 2 x.2.2.1 Af x.2.1::AP b2 (.cells #[AA 0,vS []] 31)::AP b0 (.cells #[vP bp 0] 104)::Kt bp (.func (.func fid) #[] cs) x.2.2.2.2.2.1 x.2.2.2.1::AH 72 3 x.2.2.2.2.2.1 Ah x.2.2.2.1.out::(C x.2.2.2.2.2.2 x.2.2.2.2.1++H))
   (fun x=>t.kids.length-x.1) (fun x D hp=>?_) (0,[],zN,p,q,vo,ca) ⟨Nat.zero_le _,h⟩) tL) (BG [1,0,2,4,5,6] 7 rfl rfl rfl)
  clear h
  obtain⟨i,ks,vk,p1,q1,vo1,ca1⟩:=x
  obtain⟨hi,h⟩:=hp
  dsimp only at hi h ⊢
  refine Z (Y E Aw (V (AE ?_)))
  refine As E (fun hc2=>?_) (fun hc2=>?_)
  have hlt:i<t.kids.length:=by
   have:=of_decide_eq_true hc2
   omega
  clear hc2
  have hnth:Aq t.kids (i:Int)=some t.kids[i]:=by
   rw[Aq,if_pos zO]
   exact List.getElem?_eq_getElem hlt
  rw[List.drop_eq_getElem_cons hlt,GR]at h
  refine AC h fun z hz h=>?_
  obtain⟨y,hy,hz⟩:=bnd hz
  obtain⟨ac,hac,hz⟩:=bnd hz
  have h2:((GR (Ev n wh f) (t.kids.drop (i+1)) y.2.1 y.2.2 ac).bind fun y=>FT n wh ⟨2,t.cx,t.cy,t.lev,[],y.1,0,[]⟩ y.2.1 y.2.2)=some r:=by
   rw[hz];exact h
  refine AI (AG (AE (AN (Z ?_))))
  refine gc hnth hk E Oc H7 E E fun b5 of5 rv5 kv5 hr5 hk5 hc5=>?_
  obtain⟨rs5,rfl⟩:=hr5.slv
  obtain⟨kk5,hk51,hk52⟩:=hk5
  obtain⟨ks5,rfl⟩:=hk51.slv
  have hN5:Nr K w0 ⟨t.kids[i].cx,t.kids[i].cy,t.kids[i].lev,rs5,ks5⟩ t.kids[i]:=Nr.of hr5 ⟨kk5,hk51,hk52⟩
  refine Ac [AA t.kids[i].cx,AA t.kids[i].cy,vI t.kids[i].lev,rs5.val,ks5.val] E Lc E E (C7 hc5) ?_
  refine Ag E JA zU fun b4=>?_
  refine Ak 0 E E E E H7 E E E zT (Du 0 (AP b4 (.cells #[AA t.kids[i].cx,AA t.kids[i].cy,vI t.kids[i].lev,rs5.val,ks5.val] 57)) (V (Ai CY [0,1,4] (Bm [(true,0),(true,1),(true,2),(true,3),(false,4),(false,5),(false,6),(true,7)] (.last 8 .nil)) zK (AD E Dn (AF 1 Hq E (AF 2 eJ E (Ac [AA t.kids[i].cx,AA t.kids[i].cy,vI t.kids[i].lev,rs5.val,ks5.val] E Lc E E (Aa 0 E) ?_)))))))
  refine SL.heap ?_ (fun _ hw=>EE (A:=[AP b4 (.cells #[AA t.kids[i].cx,AA t.kids[i].cy,vI t.kids[i].lev,rs5.val,ks5.val] 57),AP b3 (.cells #[vI 2,AA t.cx,AA t.cy,vI t.lev,zN,vk,AA 0,vS []] 148),AH 31 2 vk Af ks,AP b2 (.cells #[AA 0,vS []] 31),AP b0 (.cells #[vP bp 0] 104)]) (B:=Kt bp (.func (.func fid) #[] cs) vo1 p1::AH 72 3 vo1 Ah p1.out::C ca1 q1) (R:=H) hw)
  have hcon:=ON (bp:=bp) hcal hwh f (ca:=ca1) (K:=K) (w0:=w0) (H:=([AP b4 (.cells #[AA t.kids[i].cx,AA t.kids[i].cy,vI t.kids[i].lev,rs5.val,ks5.val] 57),AP b3 (.cells #[vI 2,AA t.cx,AA t.cy,vI t.lev,.slice none 0 0,vk,AA 0,vS []] 148),AH 31 2 vk Af ks,AP b2 (.cells #[AA 0,vS []] 31),AP b0 (.cells #[vP bp 0] 104)]++H)++[BU D]) (vo:=vo1) hS hy hN5
  generalize hpo:(fun(u:Value) (M:List AW)=>u=.agg (Af y.1).toArray∧∃vo' ca',M=Kt bp (.func (.func fid) #[] cs) vo' y.2.1::AH 72 3 vo' Ah y.2.1.out::C ca' y.2.2)=po at hcon
  refine Bg (vs:=[_,_]) (Hin:=Kt bp (.func (.func fid) #[] cs) vo1 p1::AH 72 3 vo1 Ah p1.out::C ca1 q1) (Hr:=[AP b4 (.cells #[AA t.kids[i].cx,AA t.kids[i].cy,vI t.kids[i].lev,rs5.val,ks5.val] 57),AP b3 (.cells #[vI 2,AA t.cx,AA t.cy,vI t.lev,zN,vk,AA 0,vS []] 148),AH 31 2 vk Af ks,AP b2 (.cells #[AA 0,vS []] 31),AP b0 (.cells #[vP bp 0] 104)]++H) E E ⟨E,E,zT⟩ jj E E hcon ?_
  intro u0 M0 hpost
  rw[←hpo]at hpost
  obtain⟨rfl,vo2,ca2,rfl⟩:=hpost
  refine⟨Ey.mid (A:=[AP b4 (.cells #[AA t.kids[i].cx,AA t.kids[i].cy,vI t.kids[i].lev,rs5.val,ks5.val] 57),AP b3 (.cells #[vI 2,AA t.cx,AA t.cy,vI t.lev,zN,vk,AA 0,vS []] 148),AH 31 2 vk Af ks,AP b2 (.cells #[AA 0,vS []] 31),AP b0 (.cells #[vP bp 0] 104)]) ⟨⟨0,rfl⟩,⟨1,rfl⟩,⟨4,rfl⟩,trivial⟩,?_⟩
  refine SL.heap ?_ (fun _ hw=>EE (A:=Kt bp (.func (.func fid) #[] cs) vo2 y.2.1::AH 72 3 vo2 Ah y.2.1.out::C ca2 y.2.2) (B:=[AP b4 (.cells #[AA t.kids[i].cx,AA t.kids[i].cy,vI t.kids[i].lev,rs5.val,ks5.val] 57),AP b3 (.cells #[vI 2,AA t.cx,AA t.cy,vI t.lev,zN,vk,AA 0,vS []] 148),AH 31 2 vk Af ks,AP b2 (.cells #[AA 0,vS []] 31),AP b0 (.cells #[vP bp 0] 104)]) (R:=H) hw)
  refine Bz [_] rfl E1 DD DX ⟨rfl,trivial⟩ rfl rfl rfl zW rfl rfl (fun _=>⟨⟨1,rfl⟩,⟨2,rfl⟩,⟨5,rfl⟩,trivial⟩) fun b6=>?_
  refine B2 Af 2 ([y.1]:List Ad) E zV E ?_
  refine CQ 3 hac (sz:=2) (enc:=Af) zV E E1 DD gH DX E zD E E E E (Bs (sz:=2) (enc:=Af) 0 zV E) (by simp[Af,Value.oneCell']) (fun _=>⟨⟨1,E⟩,⟨2,E⟩,⟨5,E⟩,zT⟩) fun v6=>?_
  refine AD E Dn (BK ?_)
  refine Bq 3 E fun hv6 ho6=>?_
  refine Dk 2 E E E E dC hv6 ho6 E zT (AU (Ao (AG (AK (Y E (BV zO zO) (J E (AU ?_)))))))
  exact Al (i+1,ac,v6,y.2.1,y.2.2,vo2,ca2) ⟨hlt,h2⟩ (by dsimp only;omega) tL (BG [2,3,4,5] 6 E E E)
  have hge:i=t.kids.length:=by
   have:=of_decide_eq_false hc2
   omega
  subst hge
  rw[List.drop_length,GR]at h
  replace h:FT n wh ⟨2,t.cx,t.cy,t.lev,[],ks,0,[]⟩ p1 q1=some r:=h
  refine Ax (A3 (BO (A0 (AG (SX.pick [1,0,2,3] 4 (Z (AF 3 eJ E (Ac [vI 2,AA t.cx,AA t.cy,vI t.lev,zN,vk,AA 0,vS []] E E6 E E (Aa 1 E) ?_))))))))
  refine SL.heap ?_ (fun _ hw=>Ys (A:=[AP b3 (.cells #[vI 2,AA t.cx,AA t.cy,vI t.lev,zN,vk,AA 0,vS []] 148),AP b2 (.cells #[AA 0,vS []] 31),AP b0 (.cells #[vP bp 0] 104)]) (B:=(Kt bp (.func (.func fid) #[] cs) vo1 p1::AH 72 3 vo1 Ah p1.out::C ca1 q1)) (R:=H) hw)
  have hcon:=CV (K:=K) (w0:=w0) (H:=([AP b3 (.cells #[vI 2,AA t.cx,AA t.cy,vI t.lev,.slice none 0 0,vk,AA 0,vS []] 148),AP b2 (.cells #[AA 0,vS []] 31),AP b0 (.cells #[vP bp 0] 104)]++H)++[BU D]) (f:=85) (B:=[AH 31 2 vk Af ks]) (Hin:=(Kt bp (.func (.func fid) #[] cs) vo1 p1::AH 72 3 vo1 Ah p1.out::C ca1 q1)) fun K' w1 hkk hB=>R4 (bp:=bp) (a:=ca1) (vo:=vo1) (v4:=.slice none 0 0) (v5:=vk) hcal hwh (hS.keeps hkk) h (RQ zV) (B7 (e:=31) (v:=vk) zV (hB _ zS))
  refine Bg (vs:=[_,_]) (Hin:=AH 31 2 vk Af ks::(Kt bp (.func (.func fid) #[] cs) vo1 p1::AH 72 3 vo1 Ah p1.out::C ca1 q1)) (Hr:=[AP b3 (.cells #[vI 2,AA t.cx,AA t.cy,vI t.lev,zN,vk,AA 0,vS []] 148),AP b2 (.cells #[AA 0,vS []] 31),AP b0 (.cells #[vP bp 0] 104)]++H) E E ⟨E,E,zT⟩ pn E E hcon ?_
  rintro _ _ ⟨_,rfl,rfl,vo2,ca2,rfl⟩
  refine⟨trivial,?_⟩
  refine SL.heap ?_ (fun _ hw=>EE (A:=AH 31 2 vk Af ks::Kt bp (.func (.func fid) #[] cs) vo2 r.2.1::AH 72 3 vo2 Ah r.2.1.out::C ca2 r.2.2) (B:=[AP b3 (.cells #[vI 2,AA t.cx,AA t.cy,vI t.lev,zN,vk,AA 0,vS []] 148),AP b2 (.cells #[AA 0,vS []] 31),AP b0 (.cells #[vP bp 0] 104)]) (R:=H) hw)
  refine Ak 1 E E E E DD E E E zT (V (AL (AZ (Fa ?_))))
  exact AX (ES E (BB 1 (Af r.1) Cb E E E E)) (AY (M:=Kt bp (.func (.func fid) #[] cs) vo2 r.2.1::AH 72 3 vo2 Ah r.2.1.out::C ca2 r.2.2) ⟨E,vo2,ca2,E⟩ fun _ hw=>Bc.pick (H:=[_,_,_,_]) hw [] 4 E)
  refine AI (AG (Z ?_))
  refine Ag E DX zU fun b3=>?_
  refine V (AE (K4 (AG (AE (Z (AD E Td (AF 2 FO E (Bn 0 uO (mr hr.one) E ?_))))))))
  rintro _ _ ⟨bx,rfl,rfl⟩
  refine V (AN ?_)
  have h0:Ir n wh (((PP rv.val t.rows).reverse).map (·.2)) ⟨0,[]⟩ p q=some r:=by
   rw[List.map_reverse,ge hr];exact h
  refine SX.heap (N3 (enc:=Jr) (PP rv.val t.rows).reverse (G0:=(AP b3 (.cells #[AA 0,vS []] 31)::AP b2 (.cells #[AA 0,vS []] 31)::AP b0 (.cells #[vP bp 0] 104)::Kt bp (.func (.func fid) #[] cs) vo p::AH 72 3 vo Ah p.out::(C ca q++H))) (fun pre G=>∃(x:Ad) (p1:Fo) (q1:σ) (vo1 ca1:Value),(∀suf,(PP rv.val t.rows).reverse=pre++suf→Ir n wh (suf.map (·.2)) x p1 q1=some r)∧G=(AP b3 (.cells #[AA x.page,vS x.tag] 31)::AP b2 (.cells #[AA 0,vS []] 31)::AP b0 (.cells #[vP bp 0] 104)::Kt bp (.func (.func fid) #[] cs) vo1 p1::AH 72 3 vo1 Ah p1.out::(C ca1 q1++H))) (fun c G=>c=.exit 2∧∃vo1 ca1:Value,G=(AP b3 (.cells #[AA r.1.page,vS r.1.tag] 31)::AP b2 (.cells #[AA 0,vS []] 31)::AP b0 (.cells #[vP bp 0] 104)::Kt bp (.func (.func fid) #[] cs) vo1 r.2.1::AH 72 3 vo1 Ah r.2.1.out::(C ca1 r.2.2++H))) E si E zV (mC hrl hr) E ⟨⟨0,[]⟩,p,q,vo,ca,fun suf e=>by rw[←show(PP rv.val t.rows).reverse=suf from e];exact h0,E⟩ (fun pre x suf G hxs hJ lr lp Rest=>?_) (fun G D hJ=>?_) (fun c G D hX=>?_)) (BG [0,1,2,4,5,6] 7 E E E)
  obtain⟨w,p1,q1,vo1,ca1,h,rfl⟩:=hJ
  have h1:=h (x::suf) hxs
  rw[List.map_cons,Ir]at h1
  obtain⟨y,hy,h1⟩:=bnd h1
  have hx:CD K w0 AJ 4 x.1.val x.2:=nl hr x (List.mem_reverse.1 (by rw[hxs];simp))
  refine AK (O E (AU ?_))
  refine Lv (G:=AP b3 (.cells #[AA w.page,vS w.tag] 31)::AP b2 (.cells #[AA 0,vS []] 31)::AP b0 (.cells #[vP bp 0] 104)::Kt bp (.func (.func fid) #[] cs) vo1 p1::AH 72 3 vo1 Ah p1.out::(C ca1 q1++H)) ?_
  refine AN (Z (AF 2 eJ E (J E (Ac (Af w) E Cb E E (Aa 0 E) (BJ [_,_,_] E QH QN Gy ⟨E,E,E,zT⟩ E ?_)))))
  refine SL.heap ?_ (fun _ hw=>EE (A:=[AP b3 (.cells #[AA w.page,vS w.tag] 31),AP b2 (.cells #[AA 0,vS []] 31),AP b0 (.cells #[vP bp 0] 104)]) (B:=(Kt bp (.func (.func fid) #[] cs) vo1 p1::AH 72 3 vo1 Ah p1.out::C ca1 q1)) (R:=(H++Tl lr lp Rest .busy)) (by simp only[List.append_assoc,List.cons_append,List.nil_append]at hw ⊢;exact hw))
  have hcon:=R4 (K:=K) (w0:=w0) (H:=([AP b3 (.cells #[AA w.page,vS w.tag] 31),AP b2 (.cells #[AA 0,vS []] 31),AP b0 (.cells #[vP bp 0] 104)]++(H++Tl lr lp Rest .busy))++[BU []]) (bp:=bp) (a:=ca1) (vo:=vo1) (v4:=x.1.val) (v5:=.slice none 0 0) hcal hwh hS hy hx (RQ zV)
  refine Bg (vs:=[_,_]) (Hin:=(Kt bp (.func (.func fid) #[] cs) vo1 p1::AH 72 3 vo1 Ah p1.out::C ca1 q1)) (Hr:=[AP b3 (.cells #[AA w.page,vS w.tag] 31),AP b2 (.cells #[AA 0,vS []] 31),AP b0 (.cells #[vP bp 0] 104)]++(H++Tl lr lp Rest .busy)) E E ⟨E,E,zT⟩ pn E E hcon ?_
  rintro _ _ ⟨rfl,vo2,ca2,rfl⟩
  refine⟨trivial,?_⟩
  refine SL.heap ?_ (fun _ hw=>EE (A:=(Kt bp (.func (.func fid) #[] cs) vo2 y.2.1::AH 72 3 vo2 Ah y.2.1.out::C ca2 y.2.2)) (B:=[AP b3 (.cells #[AA w.page,vS w.tag] 31),AP b2 (.cells #[AA 0,vS []] 31),AP b0 (.cells #[vP bp 0] 104)]) (R:=(H++Tl lr lp Rest .busy)) hw)
  refine Ak 0 E E E E DD E E E zT (Du 0 (AP b3 (.cells #[AA y.1.page,vS y.1.tag] 31)) (V (Z (AF 2 eJ E (AV E E (AD E RC (AF 3 PO E (Y E Bb (V ?_)))))))))
  have hheap:∀w1:World,Bc K w0 ((AP b3 (.cells #[AA y.1.page,vS y.1.tag] 31)::AP b2 (.cells #[AA 0,vS []] 31)::AP b0 (.cells #[vP bp 0] 104)::((Kt bp (.func (.func fid) #[] cs) vo2 y.2.1::AH 72 3 vo2 Ah y.2.1.out::C ca2 y.2.2)++(H++Tl lr lp Rest .busy)))) w1→Bc K w0 ((AP b3 (.cells #[AA y.1.page,vS y.1.tag] 31)::AP b2 (.cells #[AA 0,vS []] 31)::AP b0 (.cells #[vP bp 0] 104)::Kt bp (.func (.func fid) #[] cs) vo2 y.2.1::AH 72 3 vo2 Ah y.2.1.out::(C ca2 y.2.2++H))++Tl lr lp Rest .busy) w1:=by
   intro w1 hw
   simp only[List.append_assoc,List.cons_append]at hw ⊢
   exact hw
  refine AT h1 E (fun hc3 h1=>?_) fun hc3 h1=>?_
  obtain rfl:=zI h1
  refine Ax (M7 ?_)
  exact N6 ⟨E,vo2,ca2,E⟩ hheap
  refine AI (Ao ?_)
  exact I7 ⟨y.1,y.2.1,y.2.2,vo2,ca2,fun suf' e=>by rw[eN hxs e];exact h1,E⟩ hheap
  obtain⟨x,p1,q1,vo1,ca1,h,rfl⟩:=hJ
  replace h:=h [] (List.append_nil _).symm
  obtain rfl:(x,(p1,q1))=r:=zI h
  refine Ao (AG (Z (Ac (Af x) E Cb E E (Aa 0 E) (Ak 1 E E E E DD E E E zT (V (AL (Fa ?_)))))))
  exact AX (ES E (BB 1 (Af x) Cb E E E E)) (AY (M:=_::_::C ca1 q1) ⟨E,vo1,ca1,E⟩ fun _ hw=>Bc.pick (H:=[_,_,_]) hw [] 3 E)
  obtain⟨rfl,vo1,ca1,rfl⟩:=hX
  refine Ax (A0 (AG (Z (Ac (Af r.1) E Cb E E (Aa 0 E) (Ak 1 E E E E DD E E E zT (V (AL (Fa ?_))))))))
  exact AX (ES E (BB 1 (Af r.1) Cb E E E E)) (AY (M:=_::_::C ca1 r.2.2) ⟨E,vo1,ca1,E⟩ fun _ hw=>Bc.pick (H:=[_,_,_]) hw [] 3 E)
end

section
theorem T9(l:List AM):∀k,((List.range k).map fun i=>(l.drop (4*i)).take (min (4*i+4) l.length-4*i)).flatten=l.take (4*k)
 | 0=>by simp
 | k+1=>by
  rw[List.range_succ,List.map_append,List.flatten_append,T9 l k]
  simp only[List.map_cons,List.map_nil,List.flatten_cons,List.flatten_nil,List.append_nil]
  rw[show 4*(k+1)=4*k+4 by omega,List.take_add]
  congr 1
  rcases Nat.lt_or_ge (4*k+4) l.length with h | h
  rw[Nat.min_eq_left zO]
  congr 1
  omega
  rw[Nat.min_eq_right h]
  rw[List.take_of_length_le zS,List.take_of_length_le zQ]
theorem fR(l:List AM):(JZ l).flatten=l:=by
 unfold JZ
 split
 rename_i h;subst h;rfl
 rw[T9,List.take_of_length_le zO]
theorem PN(l:List AM):(JZ l).length=max 1 ((l.length+3) / 4):=by
 unfold JZ
 split
 rename_i h;subst h;rfl
 rename_i h
 have:=List.length_pos_iff.2 h
 simp
 omega
theorem jR{l p:List AM}(h:p∈JZ l):p.length≤4∧p.Sublist l:=by
 unfold JZ at h
 split at h
 rename_i hl
 subst hl
 simp only[List.mem_singleton]at h
 subst h
 exact⟨by simp,List.Sublist.refl _⟩
 obtain⟨i,_,rfl⟩:=List.mem_map.1 h
 exact⟨by simp;omega,(List.take_sublist ..).trans (List.drop_sublist ..)⟩
theorem XW{l p:List AM}(h:Cp l=true)(hs:p.Sublist l):Cp p=true:=by
 unfold Cp at h ⊢
 simp only[Bool.and_eq_true,decide_eq_true_eq]at h ⊢
 refine⟨⟨List.all_eq_true.2 fun r hr=>List.all_eq_true.1 h.1.1 r (hs.subset hr),(OA p).2 (((OA l).1 h.1.2).sublist hs)⟩,?_⟩
 have:=hs.length_le
 omega
abbrev ND(l:List AM)(r:Ad):BP:=⟨1,0,0,0,l,[],r.page,r.tag⟩
abbrev N1(t:Bd)(rs:List Ad):BP:=⟨2,t.cx,t.cy,t.lev,[],rs,0,[]⟩
def UE:List (List AM)→Ad→List A4→Ad→Prop
 | [],r0,seg,r=>seg=[]∧r=r0
 | l::ls,r0,seg,r=>∃r1 seg',CN (ND l r0)=true∧seg=⟨Cm (ND l r0),r1.page,r1.tag⟩::seg'∧UE ls r1 seg' r
def cG(R:Bd→List A4→Ad→Prop):List Bd→List A4→List Ad→Prop
 | [],seg,rs=>seg=[]∧rs=[]
 | k::ks,seg,rs=>∃s1 r1 s2 rs',R k s1 r1∧cG R ks s2 rs'∧seg=s1++s2∧rs=r1::rs'
def Qg:Nat→Bd→List A4→Ad→Prop
 | 0,_,_,_=>False
 | f+1,t,seg,r=>(t.rows.length≤1000∧t.kids.length≤1000)∧((t.kids=[]∧UE (JZ t.rows).reverse ⟨0,[]⟩ seg r)∨(t.kids≠[]∧∃segs rs,cG (Qg f) t.kids segs rs∧CN (N1 t rs)=true∧seg=segs++[⟨Cm (N1 t rs),r.page,r.tag⟩]))
def Nd:Nat→Bd→Nat
 | 0,_=>0
 | f+1,t=>if t.kids.length=0 then max 1 ((t.rows.length+3) / 4)else(t.kids.map (Nd f)).sum+1
def aY:Nat→Bd→List AM
 | 0,_=>[]
 | f+1,t=>if t.kids.length=0 then t.rows else(t.kids.map (aY f)).flatten
theorem UE.len:∀ {ls:List (List AM)} {r0 r:Ad} {seg:List A4} ,UE ls r0 seg r→seg.length=ls.length
 | [],_,_,_,h=>by rw[h.1];rfl
 | _::_,_,_,_,h=>by
  obtain⟨r1,seg',_,e,h'⟩:=h
  rw[e,List.length_cons,UE.len h',List.length_cons]
theorem cG.len{R:Bd→List A4→Ad→Prop}{g:Bd→Nat}(hg:∀k s r,R k s r→s.length=g k):∀ {ks:List Bd} {seg:List A4} {rs:List Ad},cG R ks seg rs→seg.length=(ks.map g).sum∧rs.length=ks.length
 | [],_,_,h=>by rw[h.1,h.2];simp
 | k::ks,_,_,h=>by
  obtain⟨s1,r1,s2,rs',h1,h2,e1,e2⟩:=h
  have ih:=cG.len hg h2
  rw[e1,e2,List.length_append,hg _ _ _ h1,ih.1,List.length_cons,ih.2]
  simp
theorem Qg.len:∀(f:Nat) {t:Bd} {seg:List A4} {r:Ad} ,Qg f t seg r→seg.length=Nd f t
 | 0,_,_,_,h=>h.elim
 | f+1,t,seg,r,h=>by
  rcases h.2 with⟨h1,h2⟩ | ⟨h1,segs,rs,h2,_,e⟩
  rw[h2.len,Nd,if_pos (by rw[h1];rfl),List.length_reverse,PN]
  have h0:=List.length_pos_iff.2 h1
  rw[e,Nd,if_neg zO,List.length_append,(cG.len (fun k s r hr=>Qg.len f hr) h2).1]
  rfl
def N9{σ:Type}(wh:UX σ):σ→List A4→σ→Prop
 | q,[],q'=>q=q'
 | q,s::ss,q'=>∃q1,wh q s.txt=some ((⟨s.page,s.tag⟩,0),q1)∧N9 wh q1 ss q'
theorem N9.split{σ:Type}{wh:UX σ}:∀ {a b:List A4} {q q':σ},N9 wh q (a++b) q'→∃q1,N9 wh q a q1∧N9 wh q1 b q'
 | [],_,q,_,h=>⟨q,rfl,h⟩
 | _::_,_,_,_,⟨q1,h1,h2⟩=>by
  obtain⟨q2,h3,h4⟩:=N9.split h2
  exact⟨q2,⟨q1,h1,h3⟩,h4⟩
theorem N9.join{σ:Type}{wh:UX σ}:∀ {a b:List A4} {q q1 q':σ},N9 wh q a q1→N9 wh q1 b q'→N9 wh q (a++b) q'
 | [],_,_,_,_,h,h'=>by cases h;exact h'
 | _::_,_,_,_,_,⟨q1,h1,h2⟩,h'=>⟨q1,h1,h2.join h'⟩
variable {σ:Type}{wh:UX σ}{n:Nat}
theorem Y3{x:BP}{o:List A4}{q q':σ}{r:Ad}(hn:10≤n)(h:CN x=true)(hw:wh q (Cm x)=some ((r,0),q'))(hb:o.length≤100000):FT n wh x ⟨o,0⟩ q=some (r,(⟨o++[⟨Cm x,r.page,r.tag⟩],0⟩,q')):=by
 unfold FT
 rw[show(!decide ((0:Int)=0))=false from rfl,A9,Rt hn h,U,show decide ((0:Int)=0)=true from rfl,BZ,hw,U]
 unfold Mi
 rw[show(!decide ((0:Int)=0))=false from rfl,A9,CG zQ zQ,U]
theorem Zp(hn:10≤n):∀ {ls:List (List AM)} {r0:Ad} {seg:List A4} {r:Ad} {o:List A4} {q q':σ},UE ls r0 seg r→N9 wh q seg q'→o.length+seg.length≤100000→Ir n wh ls r0 ⟨o,0⟩ q=some (r,(⟨o++seg,0⟩,q'))
 | [],r0,seg,r,o,q,q',h,hp,hb=>by
  obtain⟨rfl,rfl⟩:=h
  obtain rfl:q=q':=hp
  simp[Ir]
 | l::ls,r0,seg,r,o,q,q',h,hp,hb=>by
  obtain⟨r1,seg',hok,rfl,h'⟩:=h
  obtain⟨q1,hw,hp'⟩:=hp
  simp only[List.length_cons]at hb
  unfold Ir
  rw[Y3 hn hok hw zO,U,show(!decide ((0:Int)=0))=false from rfl,A9,Zp hn h' hp' zQ]
  simp
theorem Zz{rec_:Bd→Fo→σ→Option (Ad×(Fo×σ))}{R:Bd→List A4→Ad→Prop}(hrec:∀k s r o q q',R k s r→N9 wh q s q'→o.length+s.length≤100000→rec_ k ⟨o,0⟩ q=some (r,(⟨o++s,0⟩,q'))):
  ∀ {ks:List Bd} {seg:List A4} {rs:List Ad} {acc:List Ad} {o:List A4} {q q':σ},cG R ks seg rs→N9 wh q seg q'→o.length+seg.length≤100000→acc.length+ks.length≤2000000→GR rec_ ks ⟨o,0⟩ q acc=some (acc++rs,(⟨o++seg,0⟩,q'))
 | [],seg,rs,acc,o,q,q',h,hp,hb,ha=>by
  obtain⟨rfl,rfl⟩:=h
  obtain rfl:q=q':=hp
  simp[GR]
 | k::ks,seg,rs,acc,o,q,q',h,hp,hb,ha=>by
  obtain⟨s1,r1,s2,rs',h1,h2,rfl,rfl⟩:=h
  obtain⟨q1,p1,p2⟩:=hp.split
  simp only[List.length_append,List.length_cons]at hb ha
  unfold GR
  rw[hrec k s1 r1 o q q1 h1 p1 zO,U,CG zQ zQ,U,Zz hrec h2 p2 zQ zQ]
  simp
theorem YV(hn:10≤n):∀(f:Nat) {t:Bd} {seg:List A4} {r:Ad} {o:List A4} {q q':σ},Qg f t seg r→N9 wh q seg q'→o.length+seg.length≤100000→Ev n wh f t ⟨o,0⟩ q=some (r,(⟨o++seg,0⟩,q'))
 | 0,_,_,_,_,_,_,h,_,_=>h.elim
 | f+1,t,seg,r,o,q,q',h,hp,hb=>by
  obtain⟨⟨b1,b2⟩,h⟩:=h
  unfold Ev
  rw[if_neg zO]
  rcases h with⟨h1,h2⟩ | ⟨h1,segs,rs,h2,h3,rfl⟩
  rw[zf (by rw[h1];simp),A9]
  exact Zp hn h2 hp hb
  have h0:=List.length_pos_iff.2 h1
  obtain⟨q1,p1,q2,p2,p3⟩:=hp.split
  obtain rfl:q2=q':=p3
  simp only[List.length_append,List.length_singleton]at hb
  rw[zt zO,BZ,Zz (fun k s r o q q' hr hp hb=>YV hn f hr hp hb) h2 p1 zO zQ,U]
  have:=Y3 (x:=N1 t rs) (o:=o++segs) hn h3 p2 zQ
  simpa using this
structure kY{σ:Type}(wh:UX σ)(Inv:σ→Prop)(Good:σ→A4→Prop)(room:σ→Nat):Prop where
 step:∀q s,Inv q→s.length≤198→∃r e q',wh q s=some ((r,e),q')∧Inv q'∧(∀x,Good q x→Good q' x)∧((e=0∧DW r=true∧Good q' ⟨s,r.page,r.tag⟩∧room q≤room q'+1)∨(e=110∧room q=0))
def mX(wh:UX σ)(Inv:σ→Prop)(Good:σ→A4→Prop)(room:σ→Nat)(k:Nat)(Run:List A4→Prop)(p:Fo)(q:σ)(p':Fo)(q':σ):Prop:=
 Inv q'∧(∀x,Good q x→Good q' x)∧((p'.wrong=0∧∃seg,p'.out=p.out++seg∧seg.length=k∧Run seg∧N9 wh q seg q'∧(∀x∈seg,Good q' x)∧room q≤room q'+k)∨(p'.wrong=110∧room q<k))
variable {Inv:σ→Prop}{Good:σ→A4→Prop}{room:σ→Nat}
theorem TN{x:BP}{p:Fo}{q:σ}(h:p.wrong≠0):FT n wh x p q=some (⟨0,[]⟩,(p,q)):=by
 unfold FT
 rw[zf h]
 rfl
theorem Yo{α:Type}(f:α→List UInt8)(m:Nat):∀(l:List α),(∀a∈l,(f a).length≤m)→(l.map f).flatten.length≤m*l.length
 | [],_=>by simp
 | a::l,h=>by
  have h1:=h a zS
  have h2:=Yo f m l (fun b hb=>h b (by simp[hb]))
  simp only[List.map_cons,List.flatten_cons,List.length_append,List.length_cons,Nat.mul_add,Nat.mul_one]
  omega
theorem mT{x:BP}(h:CN x=true):(Cm x).length≤198:=by
 unfold Cm
 by_cases hk:x.kind=1
 obtain⟨h1,h2,h3,h4,h5,h6,h7⟩:=EP h hk
 have h32:x.ntag.length≤32:=by
  rcases h7 with h7 | h7
  rw[h7.2];simp
  have:=(D0 h7).1
  simp only at this
  omega
 have:=Yo CI 33 x.rows (fun r hr=>by rw[Oq];have:=Kp h6 r hr;omega)
 have h36:=G3 (r:=⟨x.npage,x.ntag⟩) h32
 rw[show decide (x.kind=2)=false by rw[hk];rfl,A9]
 simp only[List.length_append,Aj,h36]
 omega
 obtain⟨hk2,h1,h2,h3,h4,h5,h6,h7,h8⟩:=Dx h hk
 have:=Yo CX 36 x.kids (fun r hr=>by rw[G3 (by have:=(D0 (h1 r hr)).1;omega)];exact Nat.le_refl _)
 rw[show decide (x.kind=2)=true by rw[hk2];rfl,BZ]
 simp only[List.length_append,Aj]
 omega
theorem cH(W:kY wh Inv Good room)(hn:10≤n){x:BP}{p:Fo}{q:σ}(h:CN x=true)(hi:Inv q)(hw:p.wrong=0)(hb:p.out.length≤100000):
  ∃r p' q',FT n wh x p q=some (r,(p',q'))∧(p'.wrong=0→DW r=true)∧mX wh Inv Good room 1 (fun seg=>seg=[⟨Cm x,r.page,r.tag⟩]) p q p' q':=by
 obtain⟨r,e,q',h1,h2,h3,h4⟩:=W.step q (Cm x) hi (mT h)
 unfold FT
 rw[hw,show(!decide ((0:Int)=0))=false from rfl,A9,Rt hn h,U,show decide ((0:Int)=0)=true from rfl,BZ,h1,U]
 unfold Mi
 rcases h4 with⟨rfl,h5,h6,h7⟩ | ⟨rfl,h5⟩
 rw[show(!decide ((0:Int)=0))=false from rfl,A9,CG zQ zQ,U]
 exact⟨r,_,q',rfl,fun _=>h5,h2,h3,.inl ⟨hw,_,rfl,rfl,rfl,⟨q',h1,rfl⟩,fun y hy=>by rw[List.mem_singleton.1 hy];exact h6,h7⟩⟩
 rw[show(!decide ((110:Int)=0))=true from rfl,BZ]
 exact⟨⟨0,[]⟩,_,q',rfl,fun h0=>absurd h0 (show ¬((110:Int)=0) by decide),h2,h3,.inr ⟨rfl,by omega⟩⟩
theorem cS(W:kY wh Inv Good room)(hn:10≤n):∀(ls:List (List AM)) (r0:Ad) (p:Fo) (q:σ),(∀l∈ls,l.length≤4∧Cp l=true)→(r0=⟨0,[]⟩∨DW r0=true)→Inv q→p.wrong=0→p.out.length+ls.length≤100000→
  ∃r p' q',Ir n wh ls r0 p q=some (r,(p',q'))∧(p'.wrong=0→DW r=true∨(ls=[]∧r=r0))∧mX wh Inv Good room ls.length (fun seg=>UE ls r0 seg r) p q p' q'
 | [],r0,p,q,hl,h0,hi,hw,hb=>⟨r0,p,q,rfl,fun _=>.inr ⟨rfl,rfl⟩,hi,fun _ h=>h,.inl ⟨hw,[],by simp,rfl,⟨rfl,rfl⟩,rfl,by simp,by simp⟩⟩
 | l::ls,r0,p,q,hl,h0,hi,hw,hb=>by
  obtain⟨l4,lr⟩:=hl l zS
  simp only[List.length_cons]at hb
  have hok:CN (ND l r0)=true:=by
   unfold CN ND
   rw[show decide ((1:Int)=1)=true from rfl,BZ,lr]
   have:(J7 ⟨r0.page,r0.tag⟩||DW ⟨r0.page,r0.tag⟩)=true:=by
    rcases h0 with rfl | h0
    rfl
    rw[show DW ⟨r0.page,r0.tag⟩=true from h0];simp
   rw[this]
   simp
   omega
  obtain⟨r1,p1,q1,e1,k1,i1,g1,s1⟩:=cH W hn hok hi hw zO
  unfold Ir
  rw[show FT n wh ⟨1,0,0,0,l,[],r0.page,r0.tag⟩ p q=some (r1,(p1,q1))from e1,U]
  rcases s1 with⟨w1,seg1,o1,le1,rfl,pa1,go1,ro1⟩ | ⟨w1,ro1⟩
  rw[w1,show(!decide ((0:Int)=0))=false from rfl,A9]
  obtain⟨r,p',q',e2,k2,i2,g2,s2⟩:=cS W hn ls r1 p1 q1 (fun q hq=>hl q (by simp[hq])) (.inr (k1 w1)) i1 w1 (by rw[o1];simp;omega)
  refine⟨r,p',q',e2,fun h=>?_,i2,fun x hx=>g2 x (g1 x hx),?_⟩
  rcases k2 h with h | ⟨_,h⟩
  exact .inl h
  rw[h]
  exact .inl (k1 w1)
  rcases s2 with⟨w2,seg2,o2,le2,ru2,pa2,go2,ro2⟩ | ⟨w2,ro2⟩
  refine .inl ⟨w2,_::seg2,by rw[o2,o1];simp,by simp[le2],⟨r1,seg2,hok,rfl,ru2⟩,pa1.join pa2,fun x hx=>?_,?_⟩
  rcases List.mem_cons.1 hx with rfl | hx
  exact g2 _ (go1 _ zS)
  exact go2 x hx
  simp only[List.length_cons]
  omega
  exact .inr ⟨w2,by simp only[List.length_cons];omega⟩
  rw[w1,show(!decide ((110:Int)=0))=true from rfl,BZ]
  exact⟨r1,p1,q1,rfl,fun h=>absurd (w1.symm.trans h) zD,i1,g1,.inr ⟨w1,by simp only[List.length_cons];omega⟩⟩
theorem Tr.rows:∀ {f:Nat} {l:List AM} {t:Bd} ,Tr f l t→t.rows.length≤l.length∧t.kids.length≤4
 | 0,_,_,h=>h.elim
 | f+1,l,t,h=>by
  rcases h with⟨rfl,rfl⟩ | ⟨_,c,L,A,⟨_,rfl⟩ | ⟨_,_,ks,rfl,hk⟩⟩
  simp[Bd.rows,Bd.kids]
  simp[Bd.rows,Bd.kids]
  have:=hk.length
  have:=Ze L l
  simp only[Bd.rows,Bd.kids,List.length_nil]
  omega
theorem S7{rec_:Bd→Fo→σ→Option (Ad×(Fo×σ))}{p:Fo}{q:σ}:∀(ks:List Bd) (acc:List Ad),(∀k∈ks,∃r,rec_ k p q=some (r,(p,q)))→acc.length+ks.length≤1000→∃rs,GR rec_ ks p q acc=some (acc++rs,(p,q))
 | [],acc,_,_=>⟨[],by simp[GR]⟩
 | k::ks,acc,h,hb=>by
  simp only[List.length_cons]at hb
  obtain⟨r,hr⟩:=h k zS
  obtain⟨rs,h'⟩:=S7 ks (acc++[r]) (fun j hj=>h j (by simp[hj])) zQ
  refine⟨r::rs,?_⟩
  unfold GR
  rw[hr,U,CG zQ zQ,U,h']
  simp
theorem SW.right{α β:Type}{R:α→β→Prop}{xs:List α}{ys:List β}(h:SW R xs ys):∀y∈ys,∃x∈xs,R x y:=by
 induction h with
 | nil=>simp
 | cons h1 _ ih=>
  intro y hy
  rcases List.mem_cons.1 hy with rfl | hy
  exact⟨_,by simp,h1⟩
  obtain⟨x,hx,hR⟩:=ih y hy
  exact⟨x,by simp[hx],hR⟩
theorem XS{p:Fo}{q:σ}(hw:p.wrong≠0):∀(f:Nat) {l:List AM} {t:Bd},Tr f l t→l.length≤1000→∃r,Ev n wh f t p q=some (r,(p,q))
 | 0,_,_,h,_=>h.elim
 | f+1,l,t,h,hl=>by
  have hb:=Tr.rows h
  unfold Ev
  rw[if_neg zO]
  by_cases h0:0<(t.kids.length:Int)
  rw[zt h0,BZ]
  have hk:∀k∈t.kids,∃r,Ev n wh f k p q=some (r,(p,q)):=by
   rcases h with⟨rfl,rfl⟩ | ⟨_,c,L,A,⟨_,rfl⟩ | ⟨_,_,ks,rfl,hk⟩⟩
   simp[Bd.kids]
   simp[Bd.kids]
   intro k hkm
   obtain⟨l',hl',hT⟩:=hk.right k hkm
   exact XS hw f hT (by have:=(No hl').length_le;omega)
  obtain⟨acc',h'⟩:=S7 (rec_:=Ev n wh f) t.kids [] hk zQ
  rw[h',U,TN hw]
  exact⟨_,rfl⟩
  rw[zf h0,A9]
  rcases hls:(JZ t.rows).reverse with _ | ⟨x,ls⟩
  exact⟨_,rfl⟩
  unfold Ir
  rw[TN hw,U,zf hw]
  exact⟨_,rfl⟩
theorem bG{rec_:Bd→Fo→σ→Option (Ad×(Fo×σ))}{R:Bd→List A4→Ad→Prop}{g:Bd→Nat}:∀(ks:List Bd) (acc:List Ad) (p:Fo) (q:σ),
  (∀k∈ks,∀p q,Inv q→p.wrong=0→p.out.length+g k≤100000→∃r p' q',rec_ k p q=some (r,(p',q'))∧(p'.wrong=0→DW r=true)∧mX wh Inv Good room (g k) (fun seg=>R k seg r) p q p' q')→
  (∀k∈ks,∀p q,p.wrong≠0→∃r,rec_ k p q=some (r,(p,q)))→Inv q→p.wrong=0→p.out.length+(ks.map g).sum≤100000→acc.length+ks.length≤1000→
  ∃rs p' q',GR rec_ ks p q acc=some (acc++rs,(p',q'))∧(p'.wrong=0→∀r∈rs,DW r=true)∧mX wh Inv Good room (ks.map g).sum (fun seg=>cG R ks seg rs) p q p' q'
 | [],acc,p,q,_,_,hi,hw,_,_=>⟨[],p,q,by simp[GR],by simp,hi,fun _ h=>h,.inl ⟨hw,[],by simp,rfl,⟨rfl,rfl⟩,rfl,by simp,by simp⟩⟩
 | k::ks,acc,p,q,hk,hkw,hi,hw,hb,ha=>by
  simp only[List.map_cons,List.sum_cons,List.length_cons]at hb ha
  obtain⟨r1,p1,q1,e1,k1,i1,g1,s1⟩:=hk k zS p q hi hw zO
  unfold GR
  rw[e1,U,CG zQ zQ,U]
  rcases s1 with⟨w1,seg1,o1,le1,ru1,pa1,go1,ro1⟩ | ⟨w1,ro1⟩
  obtain⟨rs,p',q',e2,k2,i2,g2,s2⟩:=bG ks (acc++[r1]) p1 q1 (fun j hj=>hk j (by simp[hj])) (fun j hj=>hkw j (by simp[hj])) i1 w1 (by rw[o1];simp;omega) zQ
  refine⟨r1::rs,p',q',by simpa using e2,fun h r hr=>?_,i2,fun x hx=>g2 x (g1 x hx),?_⟩
  rcases List.mem_cons.1 hr with rfl | hr
  exact k1 w1
  exact k2 h r hr
  rcases s2 with⟨w2,seg2,o2,le2,ru2,pa2,go2,ro2⟩ | ⟨w2,ro2⟩
  refine .inl ⟨w2,seg1++seg2,by rw[o2,o1];simp,by simp[le1,le2],⟨seg1,r1,seg2,rs,ru1,ru2,rfl,rfl⟩,pa1.join pa2,fun x hx=>?_,?_⟩
  rcases List.mem_append.1 hx with hx | hx
  exact g2 _ (go1 _ hx)
  exact go2 x hx
  simp only[List.map_cons,List.sum_cons]
  omega
  exact .inr ⟨w2,by simp only[List.map_cons,List.sum_cons];omega⟩
  obtain⟨acc',h'⟩:=S7 (rec_:=rec_) (p:=p1) (q:=q1) ks (acc++[r1]) (fun j hj=>hkw j (by simp[hj]) p1 q1 (by rw[w1];decide)) zQ
  exact⟨r1::acc',p1,q1,by simpa using h',fun h=>absurd (w1.symm.trans h) zD,i1,g1,.inr ⟨w1,by simp only[List.map_cons,List.sum_cons];omega⟩⟩
theorem Wh(W:kY wh Inv Good room)(hn:10≤n):∀(f:Nat) (l:List AM) (t:Bd) (p:Fo) (q:σ),Tr f l t→Cp l=true→Inv q→p.wrong=0→p.out.length+Nd f t≤100000→
  ∃r p' q',Ev n wh f t p q=some (r,(p',q'))∧(p'.wrong=0→DW r=true)∧mX wh Inv Good room (Nd f t) (fun seg=>Qg f t seg r) p q p' q'
 | 0,_,_,_,_,h,_,_,_,_=>h.elim
 | f+1,l,t,p,q,h,hr,hi,hw,hb=>by
  have hl:l.length≤1000:=by
   unfold Cp at hr
   simp only[Bool.and_eq_true,decide_eq_true_eq]at hr
   omega
  have hbd:=Tr.rows h
  have leaf:t.kids=[]→Cp t.rows=true→∃r p' q',Ev n wh (f+1) t p q=some (r,(p',q'))∧(p'.wrong=0→DW r=true)∧mX wh Inv Good room (Nd (f+1) t) (fun seg=>Qg (f+1) t seg r) p q p' q':=by
   intro hk hrr
   have hpg:Nd (f+1) t=(JZ t.rows).reverse.length:=by rw[Nd,if_pos (by rw[hk];rfl),List.length_reverse,PN]
   obtain⟨r,p',q',e,k,i,g,s⟩:=cS W hn (JZ t.rows).reverse ⟨0,[]⟩ p q (fun x hx=>by
    have:=jR (List.mem_reverse.1 hx)
    exact⟨this.1,XW hrr this.2⟩) (.inl rfl) hi hw zO
   refine⟨r,p',q',?_,fun h0=>?_,i,g,?_⟩
   unfold Ev
   rw[if_neg zO,zf (by rw[hk];simp),A9]
   exact e
   rcases k h0 with h1 | ⟨h1,_⟩
   exact h1
   have:=congrArg List.length h1
   rw[List.length_reverse,PN,List.length_nil]at this
   omega
   rw[hpg]
   rcases s with⟨w,seg,o,le,ru,pa,go,ro⟩ | s
   exact .inl ⟨w,seg,o,le,⟨⟨by omega,by omega⟩,.inl ⟨hk,ru⟩⟩,pa,go,ro⟩
   exact .inr s
  rcases h with⟨rfl,rfl⟩ | ⟨_,c,L,A,⟨_,rfl⟩ | ⟨h4,hL,ks,rfl,hk⟩⟩
  exact leaf rfl hr
  exact leaf rfl hr
  have hkl:=hk.length
  have hq4:=Ze L l
  have hq2:=(Pj A hL).1
  have hpg:Nd (f+1) (.mk c.x c.y c.lev [] ks)=(ks.map (Nd f)).sum+1:=by
   rw[Nd,if_neg (by simp only[Bd.kids];omega)]
   rfl
  rw[hpg]at hb ⊢
  obtain⟨rs,p1,q1,e1,k1,i1,g1,s1⟩:=bG (wh:=wh) (Inv:=Inv) (Good:=Good) (room:=room) (rec_:=Ev n wh f) (R:=Qg f) (g:=Nd f) ks [] p q (fun k hkm p q hi hw hb=>by
   obtain⟨l',hl',hT⟩:=hk.right k hkm
   exact Wh W hn f l' k p q hT (XW hr (No hl')) hi hw hb) (fun k hkm p q hw=>by
   obtain⟨l',hl',hT⟩:=hk.right k hkm
   exact XS hw f hT (by have:=(No hl').length_le;omega)) hi hw zO zQ
  have hrun:Ev n wh (f+1) (.mk c.x c.y c.lev [] ks) p q=FT n wh (N1 (.mk c.x c.y c.lev [] ks) rs) p1 q1:=by
   unfold Ev
   rw[if_neg zO,zt (by simp only[Bd.kids];omega),BZ,show(Bd.mk c.x c.y c.lev [] ks).kids=ks from rfl,e1,U]
   rfl
  rw[hrun]
  rcases s1 with⟨w1,seg1,o1,le1,ru1,pa1,go1,ro1⟩ | ⟨w1,ro1⟩
  have hrl:=(cG.len (fun k s r hr=>Qg.len f hr) ru1).2
  have hok:CN (N1 (.mk c.x c.y c.lev [] ks) rs)=true:=by
   unfold CN N1
   rw[show decide ((2:Int)=1)=false from rfl,A9,show decide ((2:Int)=2)=true from rfl,BZ]
   have h5:rs.all DW=true:=List.all_eq_true.2 (k1 w1)
   have h6:Ia ⟨c.x,c.y,c.lev⟩=true:=A.ok
   have h7:=A.lev
   show(((rs.all DW&&decide ((([]:List AM).length:Int)=0))&&J7 ⟨0,[]⟩&&decide (2≤(rs.length:Int)))&&decide ((rs.length:Int)≤4)&&Ia ⟨c.x,c.y,c.lev⟩&&decide (0<c.lev))=true
   rw[h5,h6,zt (show 2≤(rs.length:Int) by omega),zt (show(rs.length:Int)≤4 by omega),zt (show 0<c.lev by omega)]
   rfl
  obtain⟨r,p',q',e2,k2,i2,g2,s2⟩:=cH W hn hok i1 w1 (by rw[o1];simp;omega)
  refine⟨r,p',q',e2,k2,i2,fun x hx=>g2 x (g1 x hx),?_⟩
  rcases s2 with⟨w2,seg2,o2,le2,rfl,pa2,go2,ro2⟩ | ⟨w2,ro2⟩
  refine .inl ⟨w2,seg1++[_],by rw[o2,o1];simp,by simp[le1],⟨⟨by simp[Bd.rows],by simp only[Bd.kids];omega⟩,.inr ⟨by
   intro e
   have:ks=[]:=e
   rw[this,List.length_nil]at hkl
   omega,seg1,rs,ru1,hok,rfl⟩⟩,pa1.join pa2,fun x hx=>?_,by omega⟩
  rcases List.mem_append.1 hx with hx | hx
  exact g2 _ (go1 _ hx)
  exact go2 x hx
  exact .inr ⟨w2,by omega⟩
  rw[TN (by rw[w1];decide)]
  exact⟨_,p1,q1,rfl,fun h=>absurd (w1.symm.trans h) zD,i1,g1,.inr ⟨w1,by omega⟩⟩
end

section
variable {K:Nat→Prop}{w0:World}{H:List AW}
def pv(a:Int×A4):List Value:=[vI a.1,.agg (Ah a.2).toArray]
theorem pD{bx:Nat}{va:Value}{xs:List A4}{G0:List AW}(hn:xs.length≤1048576)(hs:CD K w0 Ah 3 va xs):
  QD Tryz.prog K w0 90 [vP bx 0] [AP bx (.cells #[va] 36)] G0 pv (FK xs):=by
 intro lp J9 X T rc hy h0
 refine Ua.enter Tryz.func90 rfl rfl ?_
 show SX _ _ _ _ _ _ _ _ _ (AP bx (.cells #[va] 36)::((rc::G0)++T))
 refine Z (AF 0 In E (B3 hs E FD E (Y E (Do zO zO) (O E (V (AN ?_))))))
 refine SX.mono (A6 (α:=Nat×List AW) (fun x=>x.1≤xs.length∧J9 ((FK xs).take x.1) x.2) (fun x=>[(0,vY lp),(1,vP bx 0),(3,vI ((xs.length:Int)-1-(x.1:Int)))])
  (fun x=>AP bx (.cells #[va] 36)::(x.2++T)) (fun x=>xs.length-x.1) (fun x D hp=>?_) (0,rc::G0) ⟨Nat.zero_le _,h0⟩) (by simpa using tL)
 obtain⟨k,G⟩:=x
 obtain⟨hk,hJ⟩:=hp
 dsimp only at hk hJ ⊢
 refine AE (Z (J E (Y E IW (V ?_))))
 refine As E (fun hc1=>?_) (fun hc1=>?_)
 have hlt:k<xs.length:=by
  have:=of_decide_eq_true hc1
  omega
 clear hc1
 have hb:k<(FK xs).length:=by rw[Jz];exact hlt
 have hget:=Yu xs k hlt
 have hx:Aq xs ((xs.length:Int)-1-(k:Int))=some (xs[xs.length-1-k]' zO):=by
  rw[Aq,if_pos zO,show((xs.length:Int)-1-(k:Int)).toNat=xs.length-1-k by omega]
  exact List.getElem?_eq_getElem _
 refine AI (AG (AE (AN (Z (J E (J E (AF 0 In E (J E ?_))))))))
 refine Cj hx hs E FD JE E E fun be1 of1 hc1=>?_
 refine Ac (Ah _) E lB E E (C7 hc1) ?_
 refine Jb (M2:=[_]) (G:=G) (T:=T) (vs:=[_,_]) (ok:=fun G1=>J9 ((FK xs).take (k+1)) G1) (no:=X) E E ⟨E,E,zT⟩ E ?_ (fun bb G1 hG1=>⟨zT,?_⟩)
 intro M
 have:=hy ((FK xs).take k) ((FK xs)[k]) ((FK xs).drop (k+1)) (bS _ k hb) G hJ M
 rw[YM _ k hb,hget]at this
 rw[show((xs.length:Int)-1-(k:Int))=((xs.length-1-k:Nat):Int) by omega]
 exact this
 refine CH E E (V ?_)
 refine As E (fun hc3=>?_) (fun hc3=>?_)
 obtain rfl:bb=false:=by simpa using hc3
 refine AL (Ba (AZ (Dq (Ba ?_))))
 exact AX (DY E) (AY (M:=G1) (.inr hG1) fun _ h=>h.skip [_])
 obtain rfl:bb=true:=by simpa using hc3
 refine AI (Ao (AG (AK (J E (Y E (Do zO zO) ?_)))))
 refine An (u:=vI ((xs.length:Int)-1-((k+1:Nat):Int))) E E (congrArg vI zO) ?_
 refine AU ?_
 exact Al (k+1,G1) ⟨hlt,hG1⟩ (by dsimp only;omega) tL (BG [0] 1 E E E)
 have hge:k=xs.length:=by
  have:=of_decide_eq_false hc1
  omega
 subst hge
 rw[List.take_of_length_le (by rw[Jz];exact Nat.le_refl _)]at hJ
 refine Ax (A3 (BO (A0 ?_)))
 exact Cy (DY E) (AY (M:=G) (.inl hJ) fun _ h=>h.skip [_])
theorem px{va:Value}(hva:va.cells=#[va]):zC K w0 57 [va] [] H (fun u M=>∃bx:Nat,u=.func (.func 90) #[] #[vP bx 0]∧M=[AP bx (.cells #[va] 36)]):=by
 refine Ua.enter Tryz.func57 rfl rfl ?_
 refine Z ?_
 refine Bf E E zU fun b1=>?_
 rw[hva]
 refine O E (V (Z ?_))
 refine Hj (fv:=#[]) (cv:=#[_]) E E E ?_
 refine O E (V (AL ?_))
 exact DL [0] 1 (Df E E) E E ⟨_,E,E⟩
end

section
variable {K:Nat→Prop}{w0:World}{H:List AW}
def Qp(a1:Int)(nx_f_ins_l1:List AM×Int→Option (List AM))(l2:List AM):Option (List AM):=
 ret (wI (a1+1)) fun i_2=>
 nx_f_ins_l1 (l2,i_2)
def IM(p1:Int)(a1:Int)(nx_f_ins_l1:List AM×Int→Option (List AM))(nx_f_ins_l2:List AM×Int→Option (List AM))(l3:List AM)(a2:Int):Option (List AM):=
 (FQ (decide (p1<a2)) ((Aq l3 a2).bind fun x1=>(Aq l3 (wI (a2-1))).bind fun x2=>(Eu x1 x2).bind fun y1=>some (decide (y1<0)))).bind fun y2=>
 cond y2
 (
  (Aq l3 (wI (a2-1))).bind fun x3=>
  (Aq l3 a2).bind fun x4=>
  (Aq l3 a2).bind fun x5=>
  (FR l3 a2 x3).bind fun l4=>
  (Aq l4 (wI (a2-1))).bind fun x6=>
  (FR l4 (wI (a2-1)) x4).bind fun l5=>
  ret (wI (a2-1)) fun j_1=>
  nx_f_ins_l2 (l5,j_1))
 (
  Qp a1 nx_f_ins_l1 l3)
def Na(p1:Int)(a1:Int)(nx_f_ins_l1:List AM×Int→Option (List AM)):Nat→(List AM×Int)→Option (List AM):=By fun nx x=>IM p1 a1 nx_f_ins_l1 nx x.1 x.2
def IL(n:Nat)(p1:Int)(p2:Int)(nx_f_ins_l1:List AM×Int→Option (List AM))(l1:List AM)(a1:Int):Option (List AM):=
 cond (decide (a1<p2))
 (
  Na p1 a1 nx_f_ins_l1 n (l1,a1))
 (
  some l1)
def H2(n:Nat)(p1:Int)(p2:Int):Nat→(List AM×Int)→Option (List AM):=By fun nx x=>IL n p1 p2 nx x.1 x.2
def Wl(n:Nat)(p0:List AM)(p1:Int)(p2:Int):Option (List AM):=
 ret (wI (p1+1)) fun i_1=>
 H2 n p1 p2 n (p0,i_1)
theorem ph{n:Nat}{B6:Value}{p0 r:List AM}{p1 p2:Int}(h:Wl n p0 p1 p2=some r): zC K w0 123 [B6,vI p1,vI p2,.func (.func 50) #[] #[]] [AH 79 4 B6 AJ p0] H (fun u M=>u=.tuple #[]∧M=[AH 79 4 B6 AJ r]):=by
 unfold Wl at h
 refine Ua.enter Tryz.func123 rfl rfl ?_
 refine Z ?_
 obtain⟨i_1,ei_1,h⟩:=Bp h
 refine J E (Y E Az ?_)
 refine An (u:=vI i_1) E E (congrArg vI ei_1) ?_
 refine V (AN ?_)
 refine SX.heap (SX.mono (A6 (α:=Nat×List AM×Int) (fun x=>H2 n p1 p2 x.1 (x.2.1,x.2.2)=some r) (fun x=>[(0,B6),(1,vI p1),(2,vI p2),(3,.func (.func 50) #[] #[]),(8,vI x.2.2)]) (fun x=>AH 79 4 B6 AJ x.2.1::H) (fun x=>x.1) (fun x D h=>?_) (n,p0,i_1) h) tL) (BG [0] 1 E E E)
 obtain⟨m1,l1,a1⟩:=x
 dsimp only at h
 rcases m1 with _ | m1
 cases (show(none:Option _)=some r from h)
 replace h:IL n p1 p2 (H2 n p1 p2 m1) l1 a1=some r:=h
 unfold IL at h
 try dsimp only
 refine AE (Z (J E (J E (Y E Aw (V ?_)))))
 refine AT h E (fun hc1 h=>?_) fun hc1 h=>?_
 refine AI (AG ?_)
 refine A5 (α:=List AM) (fun x=>Qp a1 (H2 n p1 p2 m1) x=some r) (fun x=>[(0,B6),(1,vI p1),(2,vI p2),(3,.func (.func 50) #[] #[]),(8,vI a1)]) (fun x=>AH 79 4 B6 AJ x::H) ?_ (fun l2 D h=>?_)
 refine AN (Z (J E (O E (V (AN ?_)))))
 refine SX.heap (SX.mono (A6 (α:=Nat×List AM×Int) (fun x=>Na p1 a1 (H2 n p1 p2 m1) x.1 (x.2.1,x.2.2)=some r) (fun x=>[(0,B6),(1,vI p1),(2,vI p2),(3,.func (.func 50) #[] #[]),(8,vI a1),(9,vI x.2.2)]) (fun x=>AH 79 4 B6 AJ x.2.1::H) (fun x=>x.1) (fun x D h=>?_) (n,l1,a1) h) tL) (BG [0] 1 E E E)
 obtain⟨m2,l3,a2⟩:=x
 dsimp only at h
 rcases m2 with _ | m2
 cases (show(none:Option _)=some r from h)
 replace h:IM p1 a1 (H2 n p1 p2 m1) (Na p1 a1 (H2 n p1 p2 m1) m2) l3 a2=some r:=h
 unfold IM at h
 try dsimp only
 refine AE (AE ?_)
 refine AC h fun y2 hy2 h=>?_
 refine Ai CY [0] (Pl.of [(true,0),(true,1),(true,2),(true,3),(true,4),(true,5),(true,6),(true,7),(true,8),(true,9),(true,10),(true,11),(true,12),(true,13),(false,14),(false,15),(false,16)]) zK (J E (J E (Y E Ca (J E ?_))))
 refine D9 21 13 34 hy2 E (fun hb hg1 k=>?_) (fun hb k=>?_) ?_
 obtain⟨x1,hx1,hg1⟩:=bnd hg1
 obtain⟨x2,hx2,hg1⟩:=bnd hg1
 obtain⟨y1,hy1,hg1⟩:=bnd hg1
 obtain rfl:=zI hg1
 refine J E (J E (J E ?_))
 refine BR 0 hx1 E Bt B4 E E E fun g1 m3 cp1 hv1=>?_
 refine Ac (AJ x1) E Ex E E (Cd (sz:=4) (enc:=AJ) 0 zV E hv1 hx1) ?_
 refine J E (J E (Y E B5 ?_))
 refine BR 0 hx2 E Bt B4 E E E fun g2 m4 cp2 hv2=>?_
 refine Ac (AJ x2) E Ex E E (Cd (sz:=4) (enc:=AJ) 0 zV E hv2 hx2) ?_
 refine BS 0 ec ((L7 hy1 :)) E ⟨⟨0,E⟩,zT⟩ (Y E Aw (Ae E E E ?_))
 exact k.mono tL
 refine AB E (AB E (AB E (AB E (AB E (AB E (AB E (AB E ?_)))))))
 refine AB E (AB E (AB E (AB E (Ae E E E ?_))))
 exact k.mono tL
 refine V ?_
 refine AT h E (fun hc2 h=>?_) fun hc2 h=>?_
 refine AI (AG (AE (AN ?_)))
 refine AC h fun x3 hx3 h=>?_
 refine AC h fun x4 hx4 h=>?_
 refine AC h fun x5 hx5 h=>?_
 refine AC h fun l4 hl4 h=>?_
 refine AC h fun x6 hx6 h=>?_
 refine AC h fun l5 hl5 h=>?_
 refine Ai CY [] (Bm [(true,0),(true,1),(true,2),(true,3),(true,4),(true,5),(true,6),(true,7),(true,8),(true,10),(true,11),(true,12)] (.alt 9 (Bm [(false,13),(true,14),(false,15),(true,16)] (.last 17 .nil)) (.cons (false,13) (Bm [(false,9),(true,14),(false,15),(true,16)] (.last 17 .nil))))) zK (J E (J E (J E (J E (Y E B5 (J E (J E ?_)))))))
 refine Y E B5 ?_
 refine BR 0 hx3 E Bt B4 E E E fun g3 m5 cp3 hv3=>?_
 refine J E (J E ?_)
 refine BR 0 hx4 E Bt B4 E E E fun g4 m6 cp4 hv4=>?_
 refine Mr ?_ ?_
 refine Ac (AJ x3) E Ex E E (Cd (sz:=4) (enc:=AJ) 0 zV E hv3 hx3) ?_
 refine Ac (AJ x4) E Ex E E (Cd (sz:=4) (enc:=AJ) 0 zV E hv4 hx4) ?_
 refine BR 0 hx5 E Bt B4 E E E fun g5 m7 cp5 hv5=>?_
 refine Cz (sz:=4) (enc:=AJ) 0 hl4 zV rfl rfl rfl rfl rfl hv5 B4 (by first | (simp[Value.oneCell'];done) | simp[AJ,Value.oneCell']) trivial ?_
 refine BR 0 hx6 E Bt B4 E E E fun g6 m8 cp6 hv6=>?_
 refine BK ?_
 refine Cz (sz:=4) (enc:=AJ) 0 hl5 zV rfl rfl rfl rfl rfl hv6 B4 (by first | (simp[Value.oneCell'];done) | simp[AJ,Value.oneCell']) trivial ?_
 refine AU (Ao (AG (AK ?_)))
 obtain⟨j_1,ej_1,h⟩:=Bp h
 refine J E (Y E B5 ?_)
 refine An (u:=vI j_1) E E (congrArg vI ej_1) ?_
 refine AU ?_
 exact Al (m2,l5,j_1) h (Nat.lt_succ_self _) tL (BG [0] 1 E E E)
 refine Ac (AJ x4) E Ex E E (Cd (sz:=4) (enc:=AJ) 0 zV E hv4 hx4) ?_
 refine Ac (AJ x3) E Ex E E (Cd (sz:=4) (enc:=AJ) 0 zV E hv3 hx3) ?_
 refine BR 0 hx5 E Bt B4 E E E fun g5 m7 cp5 hv5=>?_
 refine Cz (sz:=4) (enc:=AJ) 0 hl4 zV rfl rfl rfl rfl rfl hv5 B4 (by first | (simp[Value.oneCell'];done) | simp[AJ,Value.oneCell']) trivial ?_
 refine BR 0 hx6 E Bt B4 E E E fun g6 m8 cp6 hv6=>?_
 refine BK ?_
 refine Cz (sz:=4) (enc:=AJ) 0 hl5 zV rfl rfl rfl rfl rfl hv6 B4 (by first | (simp[Value.oneCell'];done) | simp[AJ,Value.oneCell']) trivial ?_
 refine AU (Ao (AG (AK ?_)))
 obtain⟨j_1,ej_1,h⟩:=Bp h
 refine J E (Y E B5 ?_)
 refine An (u:=vI j_1) E E (congrArg vI ej_1) ?_
 refine AU ?_
 exact Al (m2,l5,j_1) h (Nat.lt_succ_self _) tL (BG [0] 1 E E E)
 refine Ax (A3 (BO (A0 (Ao ?_))))
 exact Au l3 h tL (BG [0] 1 E E E)
 unfold Qp at h
 try dsimp only
 refine AK ?_
 obtain⟨i_2,ei_2,h⟩:=Bp h
 refine J E (Y E Az ?_)
 refine An (u:=vI i_2) E E (congrArg vI ei_2) ?_
 refine AU ?_
 exact Al (m1,l2,i_2) h (Nat.lt_succ_self _) tL (BG [0] 1 E E E)
 refine Ax (A3 (BO (A0 ?_)))
 obtain rfl:=zI h
 exact Cy (DY E) (AY (M:=[_]) ⟨E,E⟩ fun _ hw=>Bc.pick (H:=[_]) hw [0] 1 E)
def Kq(p1:Int)(p2:Int)(p3:Int)(nx_f_swp_l1:List AM×Int→Option (List AM))(l1:List AM)(a1:Int):Option (List AM):=
 cond (decide (a1<p3))
 (
  (Aq l1 (wI (p2+a1))).bind fun x1=>
  (Aq l1 (wI (p1+a1))).bind fun x2=>
  (Aq l1 (wI (p1+a1))).bind fun x3=>
  (FR l1 (wI (p1+a1)) x1).bind fun l2=>
  (Aq l2 (wI (p2+a1))).bind fun x4=>
  (FR l2 (wI (p2+a1)) x2).bind fun l3=>
  ret (wI (a1+1)) fun i_1=>
  nx_f_swp_l1 (l3,i_1))
 (
  some l1)
def O5(p1:Int)(p2:Int)(p3:Int):Nat→(List AM×Int)→Option (List AM):=By fun nx x=>Kq p1 p2 p3 nx x.1 x.2
def Uz(n:Nat)(p0:List AM)(p1:Int)(p2:Int)(p3:Int):Option (List AM):=
 O5 p1 p2 p3 n (p0,0)
theorem jf{n:Nat}{B6:Value}{p0 r:List AM}{p1 p2 p3:Int}(h:Uz n p0 p1 p2 p3=some r): zC K w0 206 [B6,vI p1,vI p2,vI p3,.func (.func 50) #[] #[]] [AH 79 4 B6 AJ p0] H (fun u M=>u=.tuple #[]∧M=[AH 79 4 B6 AJ r]):=by
 unfold Uz at h
 refine Ua.enter Tryz.func206 rfl rfl ?_
 refine Z (O E (V (AN ?_)))
 refine SX.heap (SX.mono (A6 (α:=Nat×List AM×Int) (fun x=>O5 p1 p2 p3 x.1 (x.2.1,x.2.2)=some r) (fun x=>[(0,B6),(1,vI p1),(2,vI p2),(3,vI p3),(10,vI x.2.2)]) (fun x=>AH 79 4 B6 AJ x.2.1::H) (fun x=>x.1) (fun x D h=>?_) (n,p0,0) h) tL) (BG [0] 1 E E E)
 obtain⟨m1,l1,a1⟩:=x
 dsimp only at h
 rcases m1 with _ | m1
 cases (show(none:Option _)=some r from h)
 replace h:Kq p1 p2 p3 (O5 p1 p2 p3 m1) l1 a1=some r:=h
 unfold Kq at h
 try dsimp only
 refine AE (Z (J E (J E (Y E Aw (V ?_)))))
 refine AT h E (fun hc1 h=>?_) fun hc1 h=>?_
 refine AI (AG (AE (AN ?_)))
 refine AC h fun x1 hx1 h=>?_
 refine AC h fun x2 hx2 h=>?_
 refine AC h fun x3 hx3 h=>?_
 refine AC h fun l2 hl2 h=>?_
 refine AC h fun x4 hx4 h=>?_
 refine AC h fun l3 hl3 h=>?_
 refine Ai CY [] (Bm [(true,0),(true,1),(true,2),(true,3),(true,4),(true,5),(true,6),(true,7),(true,8),(true,9),(true,10),(true,11),(true,12),(true,14),(true,15),(true,16),(true,17),(true,18)] (.alt 13 (Bm [(false,19),(true,20),(false,21),(true,22)] (.last 23 .nil)) (.cons (false,19) (Bm [(false,13),(true,20),(false,21),(true,22)] (.last 23 .nil))))) zK (J E (J E (J E (Y E Az (J E (J E (J E ?_)))))))
 refine Y E Az (J E (J E (J E (Y E Az ?_))))
 refine BR 0 hx1 E Bt B4 E E E fun g1 m2 cp1 hv1=>?_
 refine J E (J E (J E (Y E Az ?_)))
 refine BR 0 hx2 E Bt B4 E E E fun g2 m3 cp2 hv2=>?_
 refine Mr ?_ ?_
 refine Ac (AJ x1) E Ex E E (Cd (sz:=4) (enc:=AJ) 0 zV E hv1 hx1) ?_
 refine Ac (AJ x2) E Ex E E (Cd (sz:=4) (enc:=AJ) 0 zV E hv2 hx2) ?_
 refine BR 0 hx3 E Bt B4 E E E fun g3 m4 cp3 hv3=>?_
 refine Cz (sz:=4) (enc:=AJ) 0 hl2 zV rfl rfl rfl rfl rfl hv3 B4 (by first | (simp[Value.oneCell'];done) | simp[AJ,Value.oneCell']) trivial ?_
 refine BR 0 hx4 E Bt B4 E E E fun g4 m5 cp4 hv4=>?_
 refine BK ?_
 refine Cz (sz:=4) (enc:=AJ) 0 hl3 zV rfl rfl rfl rfl rfl hv4 B4 (by first | (simp[Value.oneCell'];done) | simp[AJ,Value.oneCell']) trivial ?_
 refine AU (Ao (AG (AK ?_)))
 obtain⟨i_1,ei_1,h⟩:=Bp h
 refine J E (Y E Az ?_)
 refine An (u:=vI i_1) E E (congrArg vI ei_1) ?_
 refine AU ?_
 exact Al (m1,l3,i_1) h (Nat.lt_succ_self _) tL (BG [0] 1 E E E)
 refine Ac (AJ x2) E Ex E E (Cd (sz:=4) (enc:=AJ) 0 zV E hv2 hx2) ?_
 refine Ac (AJ x1) E Ex E E (Cd (sz:=4) (enc:=AJ) 0 zV E hv1 hx1) ?_
 refine BR 0 hx3 E Bt B4 E E E fun g3 m4 cp3 hv3=>?_
 refine Cz (sz:=4) (enc:=AJ) 0 hl2 zV rfl rfl rfl rfl rfl hv3 B4 (by first | (simp[Value.oneCell'];done) | simp[AJ,Value.oneCell']) trivial ?_
 refine BR 0 hx4 E Bt B4 E E E fun g4 m5 cp4 hv4=>?_
 refine BK ?_
 refine Cz (sz:=4) (enc:=AJ) 0 hl3 zV rfl rfl rfl rfl rfl hv4 B4 (by first | (simp[Value.oneCell'];done) | simp[AJ,Value.oneCell']) trivial ?_
 refine AU (Ao (AG (AK ?_)))
 obtain⟨i_1,ei_1,h⟩:=Bp h
 refine J E (Y E Az ?_)
 refine An (u:=vI i_1) E E (congrArg vI ei_1) ?_
 refine AU ?_
 exact Al (m1,l3,i_1) h (Nat.lt_succ_self _) tL (BG [0] 1 E E E)
 refine Ax (A3 (BO (A0 ?_)))
 obtain rfl:=zI h
 exact Cy (DY E) (AY (M:=[_]) ⟨E,E⟩ fun _ hw=>Bc.pick (H:=[_]) hw [0] 1 E)
def Ta(n:Nat)(p2:Int)(l1:List AM)(a1:Int):Option (List AM):=
 (Uz n l1 (wI (p2-a1)) p2 a1).bind fun y3=>
 some y3
def OJ(n:Nat)(p2:Int)(nx_f_rot_l1:List AM×Int×Int→Option (List AM))(l2:List AM)(a2:Int)(a3:Int):Option (List AM):=
 cond (!decide (a2=a3))
 (
  cond (decide (a3<a2))
  (
   (Uz n l2 (wI (p2-a2)) p2 a3).bind fun y1=>
   ret (wI (a2-a3)) fun i_2=>
   nx_f_rot_l1 (y1,i_2,a3))
  (
   (Uz n l2 (wI (p2-a2)) (wI ((wI (p2+a3))-a2)) a2).bind fun y2=>
   ret (wI (a3-a2)) fun j_2=>
   nx_f_rot_l1 (y2,a2,j_2)))
 (
  Ta n p2 l2 a2)
def QZ(n:Nat)(p2:Int):Nat→(List AM×Int×Int)→Option (List AM):=By fun nx x=>OJ n p2 nx x.1 x.2.1 x.2.2
def YX(n:Nat)(p0:List AM)(p1:Int)(p2:Int)(p3:Int):Option (List AM):=
 ret (wI (p2-p1)) fun i_1=>
 ret (wI (p3-p2)) fun j_1=>
 QZ n p2 n (p0,i_1,j_1)
theorem uZ{n:Nat}{B6:Value}{p0 r:List AM}{p1 p2 p3:Int}(h:YX n p0 p1 p2 p3=some r): zC K w0 169 [B6,vI p1,vI p2,vI p3,.func (.func 50) #[] #[]] [AH 79 4 B6 AJ p0] H (fun u M=>u=.tuple #[]∧M=[AH 79 4 B6 AJ r]):=by
 unfold YX at h
 refine Ua.enter Tryz.func169 rfl rfl ?_
 refine Z ?_
 obtain⟨i_1,ei_1,h⟩:=Bp h
 refine J E (J E (Y E B5 ?_))
 refine An (u:=vI i_1) E E (congrArg vI ei_1) ?_
 refine V (Z ?_)
 obtain⟨j_1,ej_1,h⟩:=Bp h
 refine J E (J E (Y E B5 ?_))
 refine An (u:=vI j_1) E E (congrArg vI ej_1) ?_
 refine V ?_
 refine A5 (α:=List AM×Int) (fun x=>Ta n p2 x.1 x.2=some r) (fun x=>[(0,B6),(2,vI p2),(4,.func (.func 50) #[] #[]),(10,vI x.2)]) (fun x=>AH 79 4 B6 AJ x.1::H) ?_ (fun x D h=>?_)
 refine AN ?_
 refine SX.heap (SX.mono (A6 (α:=Nat×List AM×Int×Int) (fun x=>QZ n p2 x.1 (x.2.1,x.2.2.1,x.2.2.2)=some r) (fun x=>[(0,B6),(2,vI p2),(4,.func (.func 50) #[] #[]),(10,vI x.2.2.1),(11,vI x.2.2.2)]) (fun x=>AH 79 4 B6 AJ x.2.1::H) (fun x=>x.1) (fun x D h=>?_) (n,p0,i_1,j_1) h) tL) (BG [0] 1 E E E)
 obtain⟨m1,l2,a2,a3⟩:=x
 dsimp only at h
 rcases m1 with _ | m1
 cases (show(none:Option _)=some r from h)
 replace h:OJ n p2 (QZ n p2 m1) l2 a2 a3=some r:=h
 unfold OJ at h
 try dsimp only
 refine AE (Z (J E (J E (Y E Bb (V ?_)))))
 refine AT h E (fun hc1 h=>?_) fun hc1 h=>?_
 refine AI (AG (AN (Z (J E (J E (Y E Ca (V ?_)))))))
 refine AT h E (fun hc2 h=>?_) fun hc2 h=>?_
 refine Z ?_
 refine AC h fun y1 hy1 h=>?_
 refine J E (J E (J E (Y E B5 (J E (J E (J E (AQ 1 dq (jf hy1) E (V (AK ?_)))))))))
 obtain⟨i_2,ei_2,h⟩:=Bp h
 refine J E (J E (Y E B5 ?_))
 refine An (u:=vI i_2) E E (congrArg vI ei_2) ?_
 refine AU (Ao ?_)
 exact Al (m1,y1,i_2,a3) h (Nat.lt_succ_self _) tL (BG [0] 1 E E E)
 refine Z ?_
 refine AC h fun y2 hy2 h=>?_
 refine J E (J E (J E (Y E B5 (J E (J E (Y E Az (J E ?_)))))))
 refine Y E B5 (J E (J E (AQ 1 dq (jf hy2) E (V (AK ?_)))))
 obtain⟨j_2,ej_2,h⟩:=Bp h
 refine J E (J E (Y E B5 ?_))
 refine An (u:=vI j_2) E E (congrArg vI ej_2) ?_
 refine AU (Ao ?_)
 exact Al (m1,y2,a2,j_2) h (Nat.lt_succ_self _) tL (BG [0] 1 E E E)
 refine Ax (A3 (BO (A0 ?_)))
 exact Au (l2,a2) h tL (BG [0] 1 E E E)
 obtain⟨l1,a1⟩:=x
 dsimp only at h
 unfold Ta at h
 try dsimp only
 refine AK ?_
 refine AC h fun y3 hy3 h=>?_
 refine J E (J E (J E (Y E B5 (J E (J E (J E (AQ 1 dq (jf hy3) E (AU ?_))))))))
 obtain rfl:=zI h
 exact Cy (DY E) (AY (M:=[_]) ⟨E,E⟩ fun _ hw=>Bc.pick (H:=[_]) hw [0] 1 E)
end
end Go.Proofs.YtkibffdipniemaaGreatDoor
