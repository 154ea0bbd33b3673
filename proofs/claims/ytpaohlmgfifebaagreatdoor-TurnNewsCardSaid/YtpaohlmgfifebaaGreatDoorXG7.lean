/- The texts FT2, FT3, FT4, S32, FT5, FT6, S33, FU1, FU2, FU3, FU4, FU6, TL4, TL5, FU5, TL6, one behind the other: walks of the program, and plain laws of what it computes. Conditions: as each theorem says. -/
import Derived.Test.YtpaohlmgfifebaaGreatDoorXG1
import Derived.Test.YtpaohlmgfifebaaGreatDoorXG2
import Derived.Test.YtpaohlmgfifebaaGreatDoorXG3
import Derived.Test.YtpaohlmgfifebaaGreatDoorXG4
import Derived.Test.YtpaohlmgfifebaaGreatDoorXG5
import Derived.Test.YtpaohlmgfifebaaGreatDoorXG6

set_option linter.unusedVariables false
set_option linter.unusedSimpArgs false
set_option maxHeartbeats 4000000
set_option maxRecDepth 100000
namespace Go.Proofs.YtpaohlmgfifebaaGreatDoor
open Go
section
variable {K:Nat→Prop}{w0:World}{H:List AX}
def U1(x k:BD):Bool:=decide (x.gen=k.gen)&&(decide (x.secret=k.secret)&&true)
theorem aW(x k:BD)(b:Nat):zC K w0 103 [.agg (AU x).toArray,vP b 0] [own b (.cells #[AB k.gen,vS k.secret] 55)] H (fun r M=>r=vB (U1 x k)∧M=[own b (.cells #[AB k.gen,vS k.secret] 55)]):=by
 refine WN.enter Tryz.func103 rfl rfl ?_
 refine Y ?_
 refine Bg E E zU fun b1=>?_
 refine U E (V (Y (Aw [AB x.gen,vS x.secret] E Mw E E (Ap 0 E) (Aw [AB k.gen,vS k.secret] E Mw E E (Ap 1 E) ?_))))
 refine VX E zB E E (C2 E E (MT (a:=x.gen) (b:=k.gen)) (C2 E E (TK (a:=x.secret) (b:=k.secret)) Kj)) ?_
 refine U E (V (AK ?_))
 exact An (Cx E E) (Ao (M:=[_]) ⟨E,E⟩ fun _ h=>h.skip [_])
def bD(l:List BD)(g:UInt32):Option (List BD×Int):=
 (R7 l g).bind fun y=>cond (!decide (y.2=0)) (some ([],y.2)) (cond (decide (l.findIdx (fun x=>U1 x y.1)<l.length))
  ((Iu l 0 (l.findIdx (fun x=>U1 x y.1):Int)).bind fun l1=>(P6 l1).bind fun y2=>(Iu l (wI ((l.findIdx (fun x=>U1 x y.1):Int)+1)) (l.length:Int)).bind fun l2=>(C8 24 y2 l2).bind fun l3=>some (l3,0)) none)
theorem k8{l:List BD}{g:UInt32}{y:BD×Int}(h:R7 l g=some y):l.length≤1099511627776:=by
 unfold R7 at h
 split at h
 assumption
 cases h
theorem fO{Cn:Value}{p0:List BD}{p1:UInt32}{r:List BD×Int}(h:bD p0 p1=some r)(hs0_:By K w0 AU 2 Cn p0):zC K w0 71 [Cn,AB p1] [] H (fun u M=>∃v0:Value,u=.tuple #[v0,vI r.2]∧M=[AD 55 2 v0 AU r.1]):=by
 unfold bD at h
 refine WN.enter Tryz.func71 rfl rfl ?_
 refine Y (U E (U E (V (Y ?_))))
 refine AF h fun y1 hy1 h=>?_
 have hn:=k8 hy1
 refine J E (J E (AQ 0 gA (iE hy1 hs0_) E (J E (Ah E E E (Ah E E E ?_)))))
 refine Au E KL zU fun b1=>?_
 refine A3 0 E E E E Fq E E E zT (U E (V (AH (Y (J E (Z E BQ (V ?_)))))))
 refine AL h E (fun hc1 h=>?_) fun hc1 h=>?_
 refine Y (J E (CE 55 2 AU (U E (U E (V (AK (Aa ?_)))))))
 obtain rfl:=zI h
 exact BH [0] 2 (C9 E E E) E E ⟨_,E,E⟩
 refine AI (AJ (Y (J E ?_)))
 refine HK (fv:=#[]) (cv:=#[_]) E E E ?_
 refine AQ 1 mZ (Sd Cn p0 103 [vP b1 0] [own b1 (.cells #[AB y1.1.gen,vS y1.1.secret] 55)] (fun x=>U1 x y1.1) hs0_ hn tU (fun H k=>aW k y1.1 b1)) E ?_
 by_cases hlt:p0.findIdx (fun x=>U1 x y1.1)<p0.length
 rw[if_pos hlt]
 rw[zt hlt,CC]at h
 generalize p0.findIdx (fun x=>U1 x y1.1)=i at h hlt
 refine AF h fun l1 hl1 h=>?_
 refine AF h fun y2 hy2 h=>?_
 refine AF h fun l2 hl2 h=>?_
 refine AF h fun l3 hl3 h=>?_
 refine U E (V (AH (Ax Cz [] (Bs [(true,0),(true,1),(true,2),(true,3),(true,5),(true,6),(true,7),(true,8),(false,4)] (.last 9 (Pl.of [(false,10),(false,11)]))) zK (J E (J E (J E ?_))))))
 refine ij hl1 hs0_ E FW Fq E E E fun v1 hs1=>?_
 refine J E (J E (Z E Bc ?_))
 refine aJ hl2 hs0_ E FW Fq E E fun v2 hs2=>?_
 refine BY 0 f7 (Vm hy2 hs1) E ?_
 rintro _ _ ⟨v3,rfl,rfl⟩
 refine BU ?_
 refine Px 0 hl3 hs2 (sz:=2) (enc:=AU) zV E FW Fq dU KL E zD E E E (by simp[AU,Value.oneCell']) zU fun v4=>?_
 refine U E (U E (V (AK ?_)))
 obtain rfl:=zI h
 exact BH [0] 2 (C9 E E E) E E ⟨v4,E,E⟩
 rw[zf hlt]at h
 cases h
end

section
variable {K:Nat→Prop}{w0:World}{H:List AX}
def HS(p0:BF)(y1:Int×Am)(l1:List BD):Option (Int×BF×Am):=
 some (y1.1,{ p0 with ring:=l1 },y1.2)
def F4(p0:BF)(p0_1:Am)(p0_2:Ai)(p1:List BD):Option (Int×BF×Am):=
 (L6 p0_1 p0_2 p1 p0.gen).bind fun y1=>
 cond (decide (y1.1=0))
 (
  HS p0 y1 p1)
 (
  HS p0 y1 p0.ring)
theorem P2{Az BL Ar Ab Ad Ae:Nat}{As AW Al BA A0 Af DE:Value}{p0:BF}{p0_1:Am}{p0_2:Ai}{p1:List BD}{r:Int×BF×Am}(h:F4 p0 p0_1 p0_2 p1=some r): zC K w0 70 [vP Az 0,DE] [sO Az As AW Al Ab BL BA p0,AD 43 4 As AV p0.rows,AD 148 3 AW AS p0.pages,Cb Al AB AB p0.gens,AD 55 2 BA AU p0.ring,vO BL Ab A0 Ar p0_1,AD 55 2 A0 AU p0_1.ring,AY Ar AB vB p0_1.taken,dO Ab Af Ad Ae p0_2,AD 9 1 Af eS p0_2.blocks,AY Ad AB vS p0_2.pend,AY Ae AB vB p0_2.bad,AD 55 2 DE AU p1] H (fun u M=>∃vs0_0_5 vs0_1_1:Value,u=vI r.1∧M=[sO Az As AW Al Ab BL vs0_0_5 r.2.1,AD 43 4 As AV r.2.1.rows,AD 148 3 AW AS r.2.1.pages,Cb Al AB AB r.2.1.gens,AD 55 2 vs0_0_5 AU r.2.1.ring,vO BL Ab vs0_1_1 Ar r.2.2,AD 55 2 vs0_1_1 AU r.2.2.ring,AY Ar AB vB r.2.2.taken,dO Ab Af Ad Ae p0_2,AD 9 1 Af eS p0_2.blocks,AY Ad AB vS p0_2.pend,AY Ae AB vB p0_2.bad]):=by
 unfold F4 at h
 refine WN.enter Tryz.func70 rfl rfl ?_
 refine Y (U E (V (AH ?_)))
 refine AF h fun y1 hy1 h=>?_
 refine Ax Cz [0] (Bs (G4 0 9) (.last 9 (Pl.of [(false,10)]))) zK (J E (AT E E (AE E Nj (AG 0 QA E (J E (J E (AT E E ?_)))))))
 refine AE E Qg (AG 0 A4 E (BU (SL.pick [12,5,6,7,8,9,10,11,0,1,2,3,4] 13 ?_)))
 refine BT (vs:=[_,_,_]) (Hin:=[_,_,_,_,_,_,_,_]) (Hr:=_::_::_::_::_::_) E E ⟨E,E,E,zT⟩ qg E E (CJ (B:=[_]) (Hin:=[_,_,_,_,_,_,_]) fun K' w1 hk hB=>au hy1 (Bp (e:=55) (v:=DE) zV (hB _ zS))) ?_
 rintro _ _ ⟨_,rfl,v1,rfl,rfl⟩
 refine⟨trivial,?_⟩
 refine U E (V ?_)
 refine A8 (α:=List BD×Value) (fun x=>HS p0 y1 x.1=some r) (fun x=>[(0,vP Az 0),(5,vI y1.1)]) (fun x=>sO Az As AW Al Ab BL x.2 p0::AD 43 4 As AV p0.rows::AD 148 3 AW AS p0.pages::Cb Al AB AB p0.gens::dO Ab Af Ad Ae p0_2::AD 9 1 Af eS p0_2.blocks::AY Ad AB vS p0_2.pend::AY Ae AB vB p0_2.bad::vO BL Ab v1 Ar y1.2::AD 55 2 v1 AU y1.2.ring::AY Ar AB vB y1.2.taken::AD 55 2 x.2 AU x.1::H) ?_ (fun x D h=>?_)
 refine Y (J E (Z E Ba (V ?_)))
 refine AL h E (fun hc1 h=>?_) fun hc1 h=>?_
 refine AM (J E (J E (AT E E (AE E Vg ?_))))
 refine Cs 0 E fun hv1 ho1=>?_
 refine EW 8 E E E E wV hv1 ho1 E zT (AZ ?_)
 exact Aq (p1,DE) h tL (BM [8,9,10,11,4,5,6,7,1,2,3,0] 13 E E E)
 refine AI ?_
 exact Aq (p0.ring,BA) h tL (BM [8,9,10,11,4,5,6,7,1,2,3,12] 13 E E E)
 obtain⟨l1,v2⟩:=x
 dsimp only at h
 unfold HS at h
 try dsimp only
 refine Y (J E (U E (V (AK ?_))))
 obtain rfl:=zI h
 exact BH [0,1,2,3,11,8,9,10,4,5,6,7] 12 (Cx E E) E E ⟨v2,v1,E,E⟩
end

section
variable {K:Nat→Prop}{w0:World}{H:List AX}
def Ge(p0:BF)(p0_1:Am)(p0_2:Ai)(p1:BD):Option (Int×BF×Am):=
 (Cp p0 p0_1 p0_2).bind fun y1=>
 cond (!decide (y1=0))
 (
  some (y1,p0,p0_1))
 (
  (P3 p0.ring p1).bind fun y2=>
  cond (!decide (y2.2=0))
  (
   some (y2.2,p0,p0_1))
  (
   (F4 p0 p0_1 p0_2 y2.1).bind fun y3=>
   some (y3.1,y3.2.1,y3.2.2)))
theorem UF{Az BL Ar Ab Ad Ae:Nat}{As AW Al BA A0 Af:Value}{p0:BF}{p0_1:Am}{p0_2:Ai}{p1:BD}{r:Int×BF×Am}(h:Ge p0 p0_1 p0_2 p1=some r): zC K w0 46 [vP Az 0,.agg (AU p1).toArray] [sO Az As AW Al Ab BL BA p0,AD 43 4 As AV p0.rows,AD 148 3 AW AS p0.pages,Cb Al AB AB p0.gens,AD 55 2 BA AU p0.ring,vO BL Ab A0 Ar p0_1,AD 55 2 A0 AU p0_1.ring,AY Ar AB vB p0_1.taken,dO Ab Af Ad Ae p0_2,AD 9 1 Af eS p0_2.blocks,AY Ad AB vS p0_2.pend,AY Ae AB vB p0_2.bad] H (fun u M=>∃vs0_0_5 vs0_1_1:Value,u=vI r.1∧M=[sO Az As AW Al Ab BL vs0_0_5 r.2.1,AD 43 4 As AV r.2.1.rows,AD 148 3 AW AS r.2.1.pages,Cb Al AB AB r.2.1.gens,AD 55 2 vs0_0_5 AU r.2.1.ring,vO BL Ab vs0_1_1 Ar r.2.2,AD 55 2 vs0_1_1 AU r.2.2.ring,AY Ar AB vB r.2.2.taken,dO Ab Af Ad Ae p0_2,AD 9 1 Af eS p0_2.blocks,AY Ad AB vS p0_2.pend,AY Ae AB vB p0_2.bad]):=by
 unfold Ge at h
 refine WN.enter Tryz.func46 rfl rfl ?_
 refine Y ?_
 refine Bg E E zU fun b1=>?_
 refine U E (V (AH (Y ?_)))
 refine AF h fun y1 hy1 h=>?_
 refine J E (SL.pick [1,2,3,4,5,6,7,8,9,10,11,12,0] 13 (AQ 12 f4 (JC hy1) E (U E (V (Y (J E (Z E BQ (V ?_))))))))
 refine AL h E (fun hc1 h=>?_) fun hc1 h=>?_
 refine Y (J E (U E (V (AK (Aa ?_)))))
 obtain rfl:=zI h
 exact BH [0,1,2,3,4,5,6,7,8,9,10,11] 13 (Cx E E) E E ⟨BA,A0,E,E⟩
 refine AI (AJ (AH ?_))
 refine AF h fun y2 hy2 h=>?_
 refine Ax Cz [0,12] (Bs [(true,0),(true,1),(true,2),(true,3),(true,4),(false,5),(false,6),(true,7),(true,8),(false,9)] (.last 10 .nil)) zK (J E (AT E E (AE E Vg (AG 0 ZU E (Aw [AB p1.gen,vS p1.secret] E Mw E E (Ap 1 E) (SL.pick [4,0,1,2,3] 5 ?_))))))
 refine BT (vs:=[_,_]) (Hin:=[_]) (Hr:=_::_::_::_::_::_::_::_::_::_::_::_::_) E E ⟨E,E,zT⟩ xM E E (CJ (B:=[_]) (Hin:=[]) fun K' w1 hk hB=>(i0 hy2 (Bp (e:=55) (v:=BA) zV (hB _ zS)) :)) ?_
 rintro _ _ ⟨_,rfl,v1,rfl,rfl⟩
 refine⟨⟨⟨2,rfl⟩,⟨13,rfl⟩,trivial⟩,?_⟩
 refine J E (Ah E E E (Ah E E E (U E (BU (U E (V (AH (Y (J E (Z E BQ (V ?_)))))))))))
 refine AL h E (fun hc2 h=>?_) fun hc2 h=>?_
 refine Y (J E (U E (V (AK (Aa ?_)))))
 obtain rfl:=zI h
 exact BH [2,3,4,5,0,6,7,8,9,10,11,12] 14 (Cx E E) E E ⟨BA,A0,E,E⟩
 refine AI (AJ (Y ?_))
 refine AF h fun y3 hy3 h=>?_
 refine J E (J E (SL.pick [2,3,4,5,0,6,7,8,9,10,11,12,1] 13 (BY 13 qh (P2 hy3) E ?_)))
 rintro _ _ ⟨v2,v3,rfl,rfl⟩
 refine U E (V (AK ?_))
 obtain rfl:=zI h
 exact BH [0,1,2,3,4,5,6,7,8,9,10,11] 13 (Cx E E) E E ⟨v2,v3,E,E⟩
def FL(p0:BF)(p0_1:Am)(p0_2:Ai)(y2:List BD×Int)(y3:Bool):Option (Int×BF×Am):=
 cond y3
 (
  some (2,p0,p0_1))
 (
  (F4 p0 p0_1 p0_2 y2.1).bind fun y6=>
  some (y6.1,y6.2.1,y6.2.2))
def Ix(p0:BF)(p0_1:Am)(p0_2:Ai)(y2:List BD×Int)(y5:Bool):Option (Int×BF×Am):=
 FL p0 p0_1 p0_2 y2 y5
def FM(p0:BF)(p0_1:Am)(p0_2:Ai)(y2:List BD×Int)(y5:Bool):Option (Int×BF×Am):=
 FL p0 p0_1 p0_2 y2 y5
def Hu(p0:BF)(p0_1:Am)(p0_2:Ai)(p1:UInt32)(y2:List BD×Int)(nx_f_store_Store_DropKey_r1:Bool→Option (Int×BF×Am))(e1:Int×Ak)(y5:Bool):Option (Int×BF×Am):=
 cond (decide ((Bn p0.gens e1.2.page).getD 0=p1))
 (
  Ix p0 p0_1 p0_2 y2 true)
 (
  nx_f_store_Store_DropKey_r1 y5)
def Iy(p0:BF)(p0_1:Am)(p0_2:Ai)(p1:UInt32)(y2:List BD×Int):List (Int×Ak)→Bool→Option (Int×BF×Am):=Rn (fun nx e x=>Hu p0 p0_1 p0_2 p1 y2 nx e x) (fun x=>FM p0 p0_1 p0_2 y2 x)
def GI(p0:BF)(p0_1:Am)(p0_2:Ai)(p1:UInt32):Option (Int×BF×Am):=
 (Cp p0 p0_1 p0_2).bind fun y1=>
 cond (!decide (y1=0))
 (
  some (y1,p0,p0_1))
 (
  (bD p0.ring p1).bind fun y2=>
  cond (!decide (y2.2=0))
  (
   some (y2.2,p0,p0_1))
  (
   (Tb p0 p0_1 p0_2 (p1+1)).bind fun y4=>
   (Rm p0 (p1+1)).bind fun xs1=>
   Iy p0 p0_1 p0_2 p1 y2 xs1 (decide (p0.gen=p1))))
theorem TG{Az BL Ar Ab Ad Ae:Nat}{As AW Al BA A0 Af:Value}{p0:BF}{p0_1:Am}{p0_2:Ai}{p1:UInt32}{r:Int×BF×Am}(h:GI p0 p0_1 p0_2 p1=some r): zC K w0 47 [vP Az 0,AB p1] [sO Az As AW Al Ab BL BA p0,AD 43 4 As AV p0.rows,AD 148 3 AW AS p0.pages,Cb Al AB AB p0.gens,AD 55 2 BA AU p0.ring,vO BL Ab A0 Ar p0_1,AD 55 2 A0 AU p0_1.ring,AY Ar AB vB p0_1.taken,dO Ab Af Ad Ae p0_2,AD 9 1 Af eS p0_2.blocks,AY Ad AB vS p0_2.pend,AY Ae AB vB p0_2.bad] H (fun u M=>∃vs0_0_5 vs0_1_1:Value,u=vI r.1∧M=[sO Az As AW Al Ab BL vs0_0_5 r.2.1,AD 43 4 As AV r.2.1.rows,AD 148 3 AW AS r.2.1.pages,Cb Al AB AB r.2.1.gens,AD 55 2 vs0_0_5 AU r.2.1.ring,vO BL Ab vs0_1_1 Ar r.2.2,AD 55 2 vs0_1_1 AU r.2.2.ring,AY Ar AB vB r.2.2.taken,dO Ab Af Ad Ae p0_2,AD 9 1 Af eS p0_2.blocks,AY Ad AB vS p0_2.pend,AY Ae AB vB p0_2.bad]):=by
 unfold GI at h
 refine WN.enter Tryz.func47 rfl rfl ?_
 refine Y ?_
 refine Bg E E zU fun b1=>?_
 refine Bg E E zU fun b2=>?_
 refine U E (V (LA (AH (Y ?_))))
 refine AF h fun y1 hy1 h=>?_
 refine AG 1 VG E (SL.pick [2,3,4,5,6,7,8,9,10,11,12,13,0,1] 14 (AQ 12 f4 (JC hy1) E (U E (V (Y (J E (Z E BQ (V ?_))))))))
 refine AL h E (fun hc1 h=>?_) fun hc1 h=>?_
 refine Y (J E (U E (V (AK (Aa (ES ?_))))))
 obtain rfl:=zI h
 exact BH [0,1,2,3,4,5,6,7,8,9,10,11] 14 (Cx E E) E E ⟨BA,A0,E,E⟩
 refine AI (AJ (AH ?_))
 refine AF h fun y2 hy2 h=>?_
 refine Ax Cz [0,12,13] (Bs [(true,0),(true,1),(true,2),(true,3),(true,4),(false,5),(false,6),(true,7),(true,8),(false,9)] (.last 10 .nil)) zK (AG 2 VG E (AT E E (AE E Vg (AG 0 ZU E (AG 1 A4 E (SL.pick [4,0,1,2,3] 5 ?_))))))
 refine BT (vs:=[_,_]) (Hin:=[_]) (Hr:=_::_::_::_::_::_::_::_::_::_::_::_::_::_) E E ⟨E,E,zT⟩ xN E E (CJ (B:=[_]) (Hin:=[]) fun K' w1 hk hB=>fO hy2 (Bp (e:=55) (v:=BA) zV (hB _ zS))) ?_
 rintro _ _ ⟨_,rfl,v1,rfl,rfl⟩
 refine⟨⟨⟨2,rfl⟩,⟨13,rfl⟩,⟨14,rfl⟩,trivial⟩,?_⟩
 refine J E (Ah E E E (Ah E E E (U E (BU (U E (V (AH (Y (J E (Z E BQ (V ?_)))))))))))
 refine AL h E (fun hc2 h=>?_) fun hc2 h=>?_
 refine Y (J E (U E (V (AK (Aa (ES ?_))))))
 obtain rfl:=zI h
 exact BH [2,3,4,5,0,6,7,8,9,10,11,12] 15 (Cx E E) E E ⟨BA,A0,E,E⟩
 refine AI (AJ (AH (Ax Cz [2,13,14] (Bs [(true,0),(true,1),(true,2),(true,3),(true,4),(true,5),(false,6)] (.last 7 .nil)) zK (AG 2 VG E (AT E E (AE E Qg (AG 0 A4 E (AG 1 A4 E (Z E Iz ?_)))))))))
 refine Au E kJ (fun _=>⟨⟨3,E⟩,⟨14,E⟩,⟨15,E⟩,zT⟩) fun b3=>?_
 refine BU (A3 0 E E E E Ql E E E zT (V (AH (K9 (AJ ?_)))))
 refine A8 (α:=Bool) (fun x=>FL p0 p0_1 p0_2 y2 x=some r) (fun x=>[(0,vP Az 0),(2,vP b1 0),(6,v1),(8,vP b3 0)]) (fun x=>sO Az As AW Al Ab BL BA p0::AD 43 4 As AV p0.rows::AD 148 3 AW AS p0.pages::Cb Al AB AB p0.gens::dO Ab Af Ad Ae p0_2::AD 9 1 Af eS p0_2.blocks::AY Ad AB vS p0_2.pend::AY Ae AB vB p0_2.bad::vO BL Ab A0 Ar p0_1::AD 55 2 A0 AU p0_1.ring::AY Ar AB vB p0_1.taken::AD 55 2 BA AU p0.ring::own b1 (.cells #[vP Az 0] 25)::AD 55 2 v1 AU y2.1::own b3 (.cells #[vB x] 4)::H) ?_ (fun y3 D h=>?_)
 refine AH ?_
 refine AF h fun y4 hy4 h=>?_
 refine Ax Cz [14,15] (Bs (G4 0 5) (.last 5 .nil)) zK (AG 1 VG E (AT E E (AE E Iq (AG 0 A4 E ?_))))
 refine Z E (B3 (b:=1)) ?_
 refine BU (BY 0 kr ((cj hy4 :)) E ?_)
 rintro _ _ ⟨b4,b5,rfl,rfl⟩
 refine V (AN ?_)
 refine AF h fun xs1 hxs1 h=>?_
 refine SX.heap (S6 (enc:=XY) xs1 [sO Az As AW Al Ab BL BA p0,AD 148 3 AW AS p0.pages,Cb Al AB AB p0.gens] (G0:=AD 43 4 As AV p0.rows::AD 55 2 BA AU p0.ring::vO BL Ab A0 Ar p0_1::AD 55 2 A0 AU p0_1.ring::AY Ar AB vB p0_1.taken::dO Ab Af Ad Ae p0_2::AD 9 1 Af eS p0_2.blocks::AY Ad AB vS p0_2.pend::AY Ae AB vB p0_2.bad::own b1 (.cells #[vP Az 0] 25)::own b2 (.cells #[AB p1] 36)::AD 55 2 v1 AU y2.1::own b3 (.cells #[vB (decide (p0.gen=p1))] 4)::H) (fun pre G=>∃x:Bool,(∀suf,xs1=pre++suf→Iy p0 p0_1 p0_2 p1 y2 suf x=some r)∧G=AD 43 4 As AV p0.rows::AD 55 2 BA AU p0.ring::vO BL Ab A0 Ar p0_1::AD 55 2 A0 AU p0_1.ring::AY Ar AB vB p0_1.taken::dO Ab Af Ad Ae p0_2::AD 9 1 Af eS p0_2.blocks::AY Ad AB vS p0_2.pend::AY Ae AB vB p0_2.bad::own b1 (.cells #[vP Az 0] 25)::own b2 (.cells #[AB p1] 36)::AD 55 2 v1 AU y2.1::own b3 (.cells #[vB x] 4)::H) (fun c G=>(c=.exit 0∧∃x:Bool,Ix p0 p0_1 p0_2 y2 x=some r∧G=sO Az As AW Al Ab BL BA p0::AD 148 3 AW AS p0.pages::Cb Al AB AB p0.gens::AD 43 4 As AV p0.rows::AD 55 2 BA AU p0.ring::vO BL Ab A0 Ar p0_1::AD 55 2 A0 AU p0_1.ring::AY Ar AB vB p0_1.taken::dO Ab Af Ad Ae p0_2::AD 9 1 Af eS p0_2.blocks::AY Ad AB vS p0_2.pend::AY Ae AB vB p0_2.bad::own b1 (.cells #[vP Az 0] 25)::own b2 (.cells #[AB p1] 36)::AD 55 2 v1 AU y2.1::own b3 (.cells #[vB x] 4)::H)) E kz E zV (Yi hxs1) E ⟨(decide (p0.gen=p1)),fun suf e=>by rw[←show xs1=suf from e];exact h,E⟩ (fun pre e1 suf1 G hpre hJ lr lp Rest=>?_) (fun G D hJ=>?_) (fun c G D hX=>?_)) (BM [0,1,5,7,8,6,3,9,10,11,12,13,14,15,17,16,4,2] 18 E E E)
 obtain⟨y5,h,rfl⟩:=hJ
 replace h:Hu p0 p0_1 p0_2 p1 y2 (Iy p0 p0_1 p0_2 p1 y2 suf1) e1 y5=some r:=h _ hpre
 unfold Hu at h
 refine AM ?_
 refine Au E In zU fun b6=>?_
 refine A3 0 E E E E Ea E E E zT (AZ ?_)
 refine Jm (G:=own b6 (.cells #[vS e1.2.txt,AB e1.2.page,vS e1.2.tag] 148)::sO Az As AW Al Ab BL BA p0::AD 148 3 AW AS p0.pages::Cb Al AB AB p0.gens::AD 43 4 As AV p0.rows::AD 55 2 BA AU p0.ring::vO BL Ab A0 Ar p0_1::AD 55 2 A0 AU p0_1.ring::AY Ar AB vB p0_1.taken::dO Ab Af Ad Ae p0_2::AD 9 1 Af eS p0_2.blocks::AY Ad AB vS p0_2.pend::AY Ae AB vB p0_2.bad::own b1 (.cells #[vP Az 0] 25)::own b2 (.cells #[AB p1] 36)::AD 55 2 v1 AU y2.1::own b3 (.cells #[vB y5] 4)::H) ?_
 refine AN (AH (Ax Cz [0,1,3,13,14] (Pl.of (G4 0 11)) zK (AG 3 VG E (AT E E (AE E Iq (AE E Z7 (AG 1 nr E (AE E EU (AE E Ds ?_)))))))))
 refine AG 0 A4 E ?_
 refine XB (zv:=0) 2 (Ja CD) E WL H5 E E E ?_
 refine AG 4 A4 E (Z E Iz (V ?_))
 refine AL h E (fun hc3 h=>?_) fun hc3 h=>?_
 refine Y (A3 16 E E E E Ql E E E zT (V (A5 (Hc ?_))))
 exact NB ⟨E,true,h,E⟩ (BM [1,2,3,4,5,6,7,8,9,10,11,12,13,14,15,16] 17 E E E)
 refine AI (Av ?_)
 exact IK ⟨_,E,y5,fun suf e=>by rw[Ts hpre e];exact h,E⟩ (BM [1,2,3,4,5,6,7,8,9,10,11,12,13,14,15,16] 17 E E E)
 obtain⟨y5,h,rfl⟩:=hJ
 replace h:FM p0 p0_1 p0_2 y2 y5=some r:=h [] (List.append_nil _).symm
 unfold FM at h
 refine Av ?_
 exact Aq y5 h tL (BM [0,3,1,2,8,9,10,11,5,6,7,4,12,14,15] 16 E E E)
 obtain⟨rfl,hJ⟩:=hX
 obtain⟨y5,h,rfl⟩:=hJ
 unfold Ix at h
 refine A5 (BB ?_)
 exact Aq y5 h tL (BM [0,3,1,2,8,9,10,11,5,6,7,4,12,14,15] 16 E E E)
 unfold FL at h
 try dsimp only
 refine AH (Y (AG 14 cR E (V ?_)))
 refine AL h E (fun hc4 h=>?_) fun hc4 h=>?_
 refine Y (U E (V (AK (Aa (ES ?_)))))
 obtain rfl:=zI h
 exact BH [0,1,2,3,11,8,9,10,4,5,6,7] 15 (Cx E E) E E ⟨BA,A0,E,E⟩
 refine AI (AJ (Y ?_))
 refine AF h fun y6 hy6 h=>?_
 refine AG 12 VG E (J E (SL.pick [0,1,2,3,11,8,9,10,4,5,6,7,13,12] 14 (BY 13 qh (P2 hy6) E ?_)))
 rintro _ _ ⟨v2,v3,rfl,rfl⟩
 refine U E (V (AK (ES ?_)))
 obtain rfl:=zI h
 exact BH [0,1,2,3,4,5,6,7,8,9,10,11] 14 (Cx E E) E E ⟨v2,v3,E,E⟩
end

section
def bE(k:UInt32):Value:=vI (k.toNat:Int)
def bw(z:Int):Option UInt32:=if 0≤z∧z<4294967296 then some (UInt32.ofNat z.toNat)else none
theorem oe{z:Int}{k:UInt32}(h:bw z=some k):z=(k.toNat:Int):=by
 unfold bw at h
 split at h
 obtain rfl:=zI h
 simp
 omega
 cases h
theorem nf{l:Tm}{y:Operand}{z:Int}{k:UInt32}(h:Bo l y=some (vI z))(hk:bw z=some k):Bo l y=some (bE k):=by
 rw[h,oe hk]
 rfl
theorem iP{P:Program}{k:TypeId}(hk:P.underlying k=some (.int .i64)):OG P k bE vB:=
 ⟨Maps.int_keyed hk,fun a=>⟨_,Maps.keyOf_int_mk hk (by have:=a.toNat_lt;simp[Lit.wf,IntKind.min,IntKind.max,IntKind.signed,IntKind.bits];omega)⟩,
  ⟨fun v=>match v with | .int _ a=>some (UInt32.ofNat a.toNat) | _=>none,fun x=>by simp[bE]⟩,⟨fun v=>match v with | .bool b=>some b | _=>none,fun x=>rfl⟩⟩
end

section
variable {K:Nat→Prop}{w0:World}{H:List AX}
def Gt(a2:Int)(nx_f_store_Store_movesD_l2:List (UInt32×UInt32)×Int→Option (BF×Am))(l6:List (UInt32×UInt32)):Option (BF×Am):=
 nx_f_store_Store_movesD_l2 (l6,wI (a2+1))
def Gu(a3:Int)(nx_f_store_Store_movesD_l3:Am×Int→Option (BF×Am))(o3:Am):Option (BF×Am):=
 nx_f_store_Store_movesD_l3 (o3,wI (a3+1))
def Jf(p0:BF)(p2:List Ak)(l4:List (UInt32×UInt32))(o1:Am):Option (BF×Am):=
 some ({ p0 with pages:=p2,gens:=l4 },o1)
def If(p0:BF)(p0_2:Ai)(p2:List Ak)(l4:List (UInt32×UInt32))(nx_f_store_Store_movesD_l3:Am×Int→Option (BF×Am))(o2:Am)(a3:Int):Option (BF×Am):=
 cond (decide (a3<(p0.pages.length:Int)))
 (
  (BE p0.pages a3).bind fun x3=>
  ret ((Bn l4 x3.page).getD 0) fun x4=>
  ret ((Bn l4 x3.page).isSome) fun ok_1=>
  cond (!ok_1)
  (
   (Gi o2 p0_2 x3.page).bind fun y1=>
   Gu a3 nx_f_store_Store_movesD_l3 y1.2)
  (
   Gu a3 nx_f_store_Store_movesD_l3 o2))
 (
  Jf p0 p2 l4 o2)
def Gw(p0:BF)(p0_2:Ai)(p2:List Ak)(l4:List (UInt32×UInt32)):Nat→(Am×Int)→Option (BF×Am):=CI fun nx x=>If p0 p0_2 p2 l4 nx x.1 x.2
def Je(n:Nat)(p0:BF)(p0_1:Am)(p0_2:Ai)(p2:List Ak)(l4:List (UInt32×UInt32)):Option (BF×Am):=
 Gw p0 p0_2 p2 l4 n (p0_1,0)
def Ie(n:Nat)(p0:BF)(p0_1:Am)(p0_2:Ai)(p2:List Ak)(l1:List (UInt32×Ak))(nx_f_store_Store_movesD_l2:List (UInt32×UInt32)×Int→Option (BF×Am))(l5:List (UInt32×UInt32))(a2:Int):Option (BF×Am):=
 cond (decide (a2<(p2.length:Int)))
 (
  (BE p2 a2).bind fun x2=>
  (Km l5 x2.page p0.gen).bind fun l7=>
  cond (decide (((Bn l1 x2.page).getD (⟨[],0,[]⟩:Ak)).txt=x2.txt)&&(decide (((Bn l1 x2.page).getD (⟨[],0,[]⟩:Ak)).page=x2.page)&&(decide (((Bn l1 x2.page).getD (⟨[],0,[]⟩:Ak)).tag=x2.tag)&&true)))
  (
   (Km l7 x2.page ((Bn p0.gens x2.page).getD 0)).bind fun l8=>
   Gt a2 nx_f_store_Store_movesD_l2 l8)
  (
   Gt a2 nx_f_store_Store_movesD_l2 l7))
 (
  Je n p0 p0_1 p0_2 p2 l5)
def Gv(n:Nat)(p0:BF)(p0_1:Am)(p0_2:Ai)(p2:List Ak)(l1:List (UInt32×Ak)):Nat→(List (UInt32×UInt32)×Int)→Option (BF×Am):=CI fun nx x=>Ie n p0 p0_1 p0_2 p2 l1 nx x.1 x.2
def Jd(n:Nat)(p0:BF)(p0_1:Am)(p0_2:Ai)(p2:List Ak)(l1:List (UInt32×Ak)):Option (BF×Am):=
 Gv n p0 p0_1 p0_2 p2 l1 n ([],0)
def Id(n:Nat)(p0:BF)(p0_1:Am)(p0_2:Ai)(p2:List Ak)(nx_f_store_Store_movesD_l1:List (UInt32×Ak)×Int→Option (BF×Am))(l2:List (UInt32×Ak))(a1:Int):Option (BF×Am):=
 cond (decide (a1<(p0.pages.length:Int)))
 (
  (BE p0.pages a1).bind fun x1=>
  (Km l2 x1.page x1).bind fun l3=>
  nx_f_store_Store_movesD_l1 (l3,wI (a1+1)))
 (
  Jd n p0 p0_1 p0_2 p2 l2)
def Jg(n:Nat)(p0:BF)(p0_1:Am)(p0_2:Ai)(p2:List Ak):Nat→(List (UInt32×Ak)×Int)→Option (BF×Am):=CI fun nx x=>Id n p0 p0_1 p0_2 p2 nx x.1 x.2
def LO(n:Nat)(p0:BF)(p0_1:Am)(p0_2:Ai)(p2:List Ak):Option (BF×Am):=
 Jg n p0 p0_1 p0_2 p2 n ([],0)
theorem UI{n Az BL Ar Ab Ad Ae:Nat}{As AW Al BA A0 Af D8:Value}{p0:BF}{p0_1:Am}{p0_2:Ai}{p2:List Ak}{r:BF×Am}(h:LO n p0 p0_1 p0_2 p2=some r): zC K w0 85 [vP Az 0,As,D8] [sO Az As AW Al Ab BL BA p0,AD 43 4 As AV p0.rows,AD 148 3 AW AS p0.pages,Cb Al AB AB p0.gens,AD 55 2 BA AU p0.ring,vO BL Ab A0 Ar p0_1,AD 55 2 A0 AU p0_1.ring,AY Ar AB vB p0_1.taken,dO Ab Af Ad Ae p0_2,AD 9 1 Af eS p0_2.blocks,AY Ad AB vS p0_2.pend,AY Ae AB vB p0_2.bad,AD 148 3 D8 AS p2] H (fun u M=>∃vs0_0_1 vs0_0_2:Value,u=.tuple #[]∧M=[sO Az As vs0_0_1 vs0_0_2 Ab BL BA r.1,AD 43 4 As AV r.1.rows,AD 148 3 vs0_0_1 AS r.1.pages,Cb vs0_0_2 AB AB r.1.gens,AD 55 2 BA AU r.1.ring,vO BL Ab A0 Ar r.2,AD 55 2 A0 AU r.2.ring,AY Ar AB vB r.2.taken,dO Ab Af Ad Ae p0_2,AD 9 1 Af eS p0_2.blocks,AY Ad AB vS p0_2.pend,AY Ae AB vB p0_2.bad]):=by
 unfold LO at h
 refine WN.enter Tryz.func85 rfl rfl ?_
 refine Y ?_
 refine QZ AB QG E zU fun b1=>?_
 refine U E (V ?_)
 refine A8 (α:=List (UInt32×Ak)) (fun x=>Jd n p0 p0_1 p0_2 p2 x=some r) (fun x=>[(0,vP Az 0),(1,As),(2,D8),(6,.map (some b1))]) (fun x=>sO Az As AW Al Ab BL BA p0::AD 43 4 As AV p0.rows::AD 148 3 AW AS p0.pages::Cb Al AB AB p0.gens::dO Ab Af Ad Ae p0_2::AD 9 1 Af eS p0_2.blocks::AY Ad AB vS p0_2.pend::AY Ae AB vB p0_2.bad::vO BL Ab A0 Ar p0_1::AD 55 2 A0 AU p0_1.ring::AY Ar AB vB p0_1.taken::AD 55 2 BA AU p0.ring::AD 148 3 D8 AS p2::AY b1 AB QG x::H) ?_ (fun l1 D h=>?_)
 refine Y (J E (AT E E (AE E Iq (AE E Rk (AG 1 K7 E (DL 3 E FH E E (J E (V (AN ?_)))))))))
 refine SX.heap (SX.mono (BK (α:=Nat×List (UInt32×Ak)×Int) (fun x=>Jg n p0 p0_1 p0_2 p2 x.1 (x.2.1,x.2.2)=some r) (fun x=>[(0,vP Az 0),(1,As),(2,D8),(6,.map (some b1)),(21,AW),(22,vI (p0.pages.length:Int)),(23,vI x.2.2)]) (fun x=>sO Az As AW Al Ab BL BA p0::AD 43 4 As AV p0.rows::AD 148 3 AW AS p0.pages::Cb Al AB AB p0.gens::dO Ab Af Ad Ae p0_2::AD 9 1 Af eS p0_2.blocks::AY Ad AB vS p0_2.pend::AY Ae AB vB p0_2.bad::vO BL Ab A0 Ar p0_1::AD 55 2 A0 AU p0_1.ring::AY Ar AB vB p0_1.taken::AD 55 2 BA AU p0.ring::AD 148 3 D8 AS p2::AY b1 AB QG x.2.1::H) (fun x=>x.1) (fun x D h=>?_) (n,[],0) h) tL) (BM [1,2,3,4,9,10,11,12,6,7,8,5,13,0] 14 E E E)
 obtain⟨m1,l2,a1⟩:=x
 dsimp only at h
 rcases m1 with _ | m1
 cases (show(none:Option _)=some r from h)
 replace h:Id n p0 p0_1 p0_2 p2 (Jg n p0 p0_1 p0_2 p2 m1) l2 a1=some r:=h
 unfold Id at h
 try dsimp only
 refine Y (Z E A9 (V (AH ?_)))
 refine AL h E (fun hc1 h=>?_) fun hc1 h=>?_
 refine AI (AJ (AH (AN (Y ?_))))
 refine AF h fun x1 hx1 h=>?_
 refine B6 2 hx1 E FH Ea E E E fun g1 m2 cp1 hv1=>?_
 refine Aw (AS x1) E Lr E E (H2 (sz:=3) (enc:=AS) 2 zV E hv1 hx1) ?_
 refine Au E In zU fun b2=>?_
 refine A3 0 E E E E Ea E E E zT (V (AM ?_))
 refine AF h fun l3 hl3 h=>?_
 refine J E (AE E EU (AE E Ds (AG 0 A4 E (Aw [vS x1.txt,AB x1.page,vS x1.tag] E Lr E E (Ap 0 E) ?_))))
 refine M9 (a:=x1) 14 hl3 (QY CD) E hY E E E E zT ?_
 refine AZ (Av (AJ (AM (Z E Bc (J E (AZ ?_))))))
 exact A1 (m1,l3,wI (a1+1)) h (Nat.lt_succ_self _) tL (BM [1,2,3,4,5,6,7,8,9,10,11,12,13,14] 15 E E E)
 refine A5 (BC (Bb (BB ?_)))
 exact Aq l2 h tL (BM [0,1,2,3,4,5,6,7,8,9,10,11,12,13] 14 E E E)
 unfold Jd at h
 try dsimp only
 refine Y ?_
 refine QZ AB AB E zU fun b3=>?_
 refine U E (V ?_)
 refine A8 (α:=List (UInt32×UInt32)) (fun x=>Je n p0 p0_1 p0_2 p2 x=some r) (fun x=>[(0,vP Az 0),(1,As),(2,D8),(9,.map (some b3))]) (fun x=>sO Az As AW Al Ab BL BA p0::AD 43 4 As AV p0.rows::AD 148 3 AW AS p0.pages::Cb Al AB AB p0.gens::dO Ab Af Ad Ae p0_2::AD 9 1 Af eS p0_2.blocks::AY Ad AB vS p0_2.pend::AY Ae AB vB p0_2.bad::vO BL Ab A0 Ar p0_1::AD 55 2 A0 AU p0_1.ring::AY Ar AB vB p0_1.taken::AD 55 2 BA AU p0.ring::AD 148 3 D8 AS p2::AY b3 AB AB x::H) ?_ (fun l4 D h=>?_)
 refine Y (J E (DL 13 E FH E E (J E (V (AN ?_)))))
 refine SX.heap (SX.mono (BK (α:=Nat×List (UInt32×UInt32)×Int) (fun x=>Gv n p0 p0_1 p0_2 p2 l1 x.1 (x.2.1,x.2.2)=some r) (fun x=>[(0,vP Az 0),(1,As),(2,D8),(6,.map (some b1)),(9,.map (some b3)),(34,D8),(35,vI (p2.length:Int)),(36,vI x.2.2)]) (fun x=>sO Az As AW Al Ab BL BA p0::AD 43 4 As AV p0.rows::AD 148 3 AW AS p0.pages::Cb Al AB AB p0.gens::dO Ab Af Ad Ae p0_2::AD 9 1 Af eS p0_2.blocks::AY Ad AB vS p0_2.pend::AY Ae AB vB p0_2.bad::vO BL Ab A0 Ar p0_1::AD 55 2 A0 AU p0_1.ring::AY Ar AB vB p0_1.taken::AD 55 2 BA AU p0.ring::AD 148 3 D8 AS p2::AY b1 AB QG l1::AY b3 AB AB x.2.1::H) (fun x=>x.1) (fun x D h=>?_) (n,[],0) h) tL) (BM [1,2,3,4,5,6,7,8,9,10,11,12,13,14,0] 15 E E E)
 obtain⟨m3,l5,a2⟩:=x
 dsimp only at h
 rcases m3 with _ | m3
 cases (show(none:Option _)=some r from h)
 replace h:Ie n p0 p0_1 p0_2 p2 l1 (Gv n p0 p0_1 p0_2 p2 l1 m3) l5 a2=some r:=h
 unfold Ie at h
 try dsimp only
 refine Y (Z E A9 (V (AH ?_)))
 refine AL h E (fun hc2 h=>?_) fun hc2 h=>?_
 refine AI (AJ ?_)
 refine A8 (α:=List (UInt32×UInt32)) (fun x=>Gt a2 (Gv n p0 p0_1 p0_2 p2 l1 m3) x=some r) (fun x=>[(0,vP Az 0),(1,As),(2,D8),(6,.map (some b1)),(9,.map (some b3)),(34,D8),(35,vI (p2.length:Int)),(36,vI a2)]) (fun x=>sO Az As AW Al Ab BL BA p0::AD 43 4 As AV p0.rows::AD 148 3 AW AS p0.pages::Cb Al AB AB p0.gens::dO Ab Af Ad Ae p0_2::AD 9 1 Af eS p0_2.blocks::AY Ad AB vS p0_2.pend::AY Ae AB vB p0_2.bad::vO BL Ab A0 Ar p0_1::AD 55 2 A0 AU p0_1.ring::AY Ar AB vB p0_1.taken::AD 55 2 BA AU p0.ring::AD 148 3 D8 AS p2::AY b1 AB QG l1::AY b3 AB AB x::H) ?_ (fun l6 D h=>?_)
 refine AN (Y ?_)
 refine AF h fun x2 hx2 h=>?_
 refine B6 12 hx2 E FH Ea E E E fun g2 m4 cp2 hv2=>?_
 refine Aw (AS x2) E Lr E E (H2 (sz:=3) (enc:=AS) 12 zV E hv2 hx2) ?_
 refine Au E In zU fun b4=>?_
 refine A3 0 E E E E Ea E E E zT (V (AH ?_))
 refine AF h fun l7 hl7 h=>?_
 refine Ax Cz [0,1] (Bs (G4 0 8) (.last 8 .nil)) zK (J E (AE E EU (AE E Ds (AG 0 A4 E (J E (AT E E (AE E Qg ?_)))))))
 refine AG 1 A4 E (BU (M9 15 hl7 (Ja CD) E WL E E E E zT (V (Y (J E (AE E EU (AE E Ds (AG 0 A4 E ?_))))))))
 refine VZ (zv:=(⟨[],0,[]⟩:Ak)) 14 (QY CD) E hY In E E E ?_
 refine Aw [vS x2.txt,AB x2.page,vS x2.tag] E Lr E E (Ap 0 E) ?_
 refine WR E (show dg Tryz.prog 148=some [(0,.string),(1,.int .u32),(2,.string)] by kernel_rfl) E E (C2 E E (TK (a:=((Bn l1 x2.page).getD (⟨[],0,[]⟩:Ak)).txt) (b:=x2.txt)) (C2 E E (MT (a:=((Bn l1 x2.page).getD (⟨[],0,[]⟩:Ak)).page) (b:=x2.page)) (C2 E E (TK (a:=((Bn l1 x2.page).getD (⟨[],0,[]⟩:Ak)).tag) (b:=x2.tag)) Kj))) ?_
 refine V ?_
 refine AL h E (fun hc3 h=>?_) fun hc3 h=>?_
 refine AF h fun l8 hl8 h=>?_
 refine Ax Cz [0,1,4] (Bs (G4 0 13) (.last 13 .nil)) zK (J E (AE E EU (AE E Ds (AG 0 A4 E (J E (AT E E (AE E Iq ?_)))))))
 refine AE E Z7 (AG 1 nr E (AE E EU (AE E Ds (AG 0 A4 E ?_))))
 refine XB (zv:=0) 2 (Ja CD) E WL H5 E E E ?_
 refine BU (M9 15 hl8 (Ja CD) E WL E E E E zT (AZ (Av ?_)))
 exact Aq l8 h tL (BM [1,2,3,4,5,6,7,8,9,10,11,12,13,14,15] 16 E E E)
 refine AI (Av ?_)
 exact Aq l7 h tL (BM [1,2,3,4,5,6,7,8,9,10,11,12,13,14,15] 16 E E E)
 unfold Gt at h
 try dsimp only
 refine AM (Z E Bc (J E (AZ ?_)))
 exact A1 (m3,l6,wI (a2+1)) h (Nat.lt_succ_self _) tL (BM [0,1,2,3,4,5,6,7,8,9,10,11,12,13,14] 15 E E E)
 refine A5 (BC (Bb (BB ?_)))
 exact Aq l5 h tL (BM [0,1,2,3,4,5,6,7,8,9,10,11,12,14] 15 E E E)
 unfold Je at h
 try dsimp only
 refine A8 (α:=Am) (fun x=>Jf p0 p2 l4 x=some r) (fun x=>[(0,vP Az 0),(1,As),(2,D8),(9,.map (some b3))]) (fun x=>sO Az As AW Al Ab BL BA p0::AD 43 4 As AV p0.rows::AD 148 3 AW AS p0.pages::Cb Al AB AB p0.gens::dO Ab Af Ad Ae p0_2::AD 9 1 Af eS p0_2.blocks::AY Ad AB vS p0_2.pend::AY Ae AB vB p0_2.bad::vO BL Ab A0 Ar x::AD 55 2 A0 AU x.ring::AY Ar AB vB x.taken::AD 55 2 BA AU p0.ring::AD 148 3 D8 AS p2::AY b3 AB AB l4::H) ?_ (fun o1 D h=>?_)
 refine Y (J E (AT E E (AE E Iq (AE E Rk (AG 0 K7 E (DL 2 E FH E E (J E (V (AN ?_)))))))))
 refine SX.heap (SX.mono (BK (α:=Nat×Am×Int) (fun x=>Gw p0 p0_2 p2 l4 x.1 (x.2.1,x.2.2)=some r) (fun x=>[(0,vP Az 0),(1,As),(2,D8),(9,.map (some b3)),(73,AW),(74,vI (p0.pages.length:Int)),(75,vI x.2.2)]) (fun x=>sO Az As AW Al Ab BL BA p0::AD 43 4 As AV p0.rows::AD 148 3 AW AS p0.pages::Cb Al AB AB p0.gens::dO Ab Af Ad Ae p0_2::AD 9 1 Af eS p0_2.blocks::AY Ad AB vS p0_2.pend::AY Ae AB vB p0_2.bad::vO BL Ab A0 Ar x.2.1::AD 55 2 A0 AU x.2.1.ring::AY Ar AB vB x.2.1.taken::AD 55 2 BA AU p0.ring::AD 148 3 D8 AS p2::AY b3 AB AB l4::H) (fun x=>x.1) (fun x D h=>?_) (n,p0_1,0) h) tL) (BM [0,1,2,3,4,5,6,7,8,9,10,11,12,13] 14 E E E)
 obtain⟨m5,o2,a3⟩:=x
 dsimp only at h
 rcases m5 with _ | m5
 cases (show(none:Option _)=some r from h)
 replace h:If p0 p0_2 p2 l4 (Gw p0 p0_2 p2 l4 m5) o2 a3=some r:=h
 unfold If at h
 try dsimp only
 refine Y (Z E A9 (V (AH ?_)))
 refine AL h E (fun hc4 h=>?_) fun hc4 h=>?_
 refine AI (AJ ?_)
 refine A8 (α:=Am) (fun x=>Gu a3 (Gw p0 p0_2 p2 l4 m5) x=some r) (fun x=>[(0,vP Az 0),(1,As),(2,D8),(9,.map (some b3)),(73,AW),(74,vI (p0.pages.length:Int)),(75,vI a3)]) (fun x=>sO Az As AW Al Ab BL BA p0::AD 43 4 As AV p0.rows::AD 148 3 AW AS p0.pages::Cb Al AB AB p0.gens::dO Ab Af Ad Ae p0_2::AD 9 1 Af eS p0_2.blocks::AY Ad AB vS p0_2.pend::AY Ae AB vB p0_2.bad::vO BL Ab A0 Ar x::AD 55 2 A0 AU x.ring::AY Ar AB vB x.taken::AD 55 2 BA AU p0.ring::AD 148 3 D8 AS p2::AY b3 AB AB l4::H) ?_ (fun o3 D h=>?_)
 refine AN (Y ?_)
 refine AF h fun x3 hx3 h=>?_
 refine B6 2 hx3 E FH Ea E E E fun g3 m6 cp3 hv3=>?_
 refine Aw (AS x3) E Lr E E (H2 (sz:=3) (enc:=AS) 2 zV E hv3 hx3) ?_
 refine Au E In zU fun b5=>?_
 refine A3 0 E E E E Ea E E E zT (V (Y ?_))
 obtain⟨x4,ex4,h⟩:=Bz h
 obtain⟨ok_1,eok_1,h⟩:=Bz h
 refine J E (AE E EU (AE E Ds (AG 0 A4 E ?_)))
 refine YE (zv:=0) 14 (Ja CD) E WL H5 E E E ?_
 refine J E (Ah E E E (Ah E E E ?_))
 refine Ay (u:=AB x4) E E (congrArg AB ex4) ?_
 refine Ay (u:=vB ok_1) E E (congrArg vB eok_1) ?_
 refine V (Y (J E (CF E E (V ?_))))
 refine AL h E (fun hc5 h=>?_) fun hc5 h=>?_
 refine AF h fun y1 hy1 h=>?_
 refine Ax Cz [0,1] (Bs (G4 0 7) (.last 7 .nil)) zK (J E (AT E E (AE E Nj (AG 1 QA E (AE E EU (AE E Ds (AG 0 A4 E (BU ?_))))))))
 refine SL.pick [9,10,11,5,6,7,8,0,1,2,3,4] 12 (AQ 7 fi (Wb hy1) E (AZ (Av ?_)))
 exact Aq y1.2 h tL (BM [8,9,10,11,3,4,5,6,0,1,2,12,13,14] 15 E E E)
 refine AI (Av ?_)
 exact Aq o2 h tL (BM [1,2,3,4,5,6,7,8,9,10,11,12,13,14] 15 E E E)
 unfold Gu at h
 try dsimp only
 refine AM (Z E Bc (J E (AZ ?_)))
 exact A1 (m5,o3,wI (a3+1)) h (Nat.lt_succ_self _) tL (BM [0,1,2,3,4,5,6,7,8,9,10,11,12,13] 14 E E E)
 refine A5 (BC (Bb (BB ?_)))
 exact Aq o2 h tL (BM [0,1,2,3,4,5,6,7,8,9,10,11,12,13] 14 E E E)
 unfold Jf at h
 try dsimp only
 refine AM (J E (J E (J E (J E ?_))))
 refine Cs 1 E fun hv4 ho1=>?_
 refine Cs 12 E fun hv5 ho2=>?_
 refine UP [As,D8,.map (some b3)] [#[As],#[D8],#[.map (some b3)]] (by simp only[List.map_cons,List.map_nil,hv4,hv5];rfl) E wS wQ wa ⟨E,E,E,zT⟩ E (AT E E (AE E Iq ?_))
 refine Cs 1 E fun hv6 ho3=>?_
 refine Cs 12 E fun hv7 ho4=>?_
 refine A3 0 E E E E wW E (show[As,D8,.map (some b3)].all (·.oneCell')=true by simp only[List.all_cons,ho3,ho4];rfl) E zT ?_
 refine mS 13 E ?_ zT
 refine AZ ?_
 obtain rfl:=zI h
 exact Da (Ed E) (Ao (M:=[_,_,_,_,_,_,_,_,_,_,_,_]) ⟨D8,(.map (some b3)),E,E⟩ fun _ hw=>Bj.pick (H:=[_,_,_,_,_,_,_,_,_,_,_,_,_,_]) hw [0,1,12,13,11,8,9,10,4,5,6,7] 14 E)
def KD(n:Nat)(T:List UInt32)(p0:BF)(p0_1:Am)(p0_2:Ai)(p2:List Ak):Option (Int×Am×Ai):=
 (Ek p0_2).bind fun y1=>
 cond (!decide (y1.1=0))
 (
  some (y1.1,p0_1,y1.2))
 (
  (E1 y1.2).bind fun y2=>
  (BE p2 (wI ((p2.length:Int)-1))).bind fun x1=>
  (JQ y2.cnt p0.gen (p0.rows.length:Int) (⟨x1.page,x1.tag⟩:BR)).bind fun y3=>
  cond (!decide (y3.2=0))
  (
   some (y3.2,p0_1,y1.2))
  (
   (GH n y3.1).bind fun y4=>
   (Mn y3.1.cnt).bind fun y5=>
   (KQ T p0_1 y1.2 y5 y4.1).bind fun y6=>
   cond (!decide (y6.2.1=0))
   (
    some (y6.2.1,y6.2.2.1,y6.2.2.2))
   (
    (Ek y6.2.2.2).bind fun y7=>
    cond (!decide (y7.1=0))
    (
     some (y7.1,y6.2.2.1,y7.2))
    (
     (FC y7.2 y6.1).bind fun y8=>
     some (y8.1,y6.2.2.1,y8.2)))))
theorem Si{n Az BL Ar Ab Ad Ae:Nat}{T:List UInt32}{As AW Al BA A0 Af D8:Value}{p0:BF}{p0_1:Am}{p0_2:Ai}{p2:List Ak}{r:Int×Am×Ai}(h:KD n T p0 p0_1 p0_2 p2=some r)(hS:Gk K w0 T)(hs2_:By K w0 AS 3 D8 p2):zC K w0 84 [vP Az 0,As,D8] [sO Az As AW Al Ab BL BA p0,AD 43 4 As AV p0.rows,AD 148 3 AW AS p0.pages,Cb Al AB AB p0.gens,AD 55 2 BA AU p0.ring,vO BL Ab A0 Ar p0_1,AD 55 2 A0 AU p0_1.ring,AY Ar AB vB p0_1.taken,dO Ab Af Ad Ae p0_2,AD 9 1 Af eS p0_2.blocks,AY Ad AB vS p0_2.pend,AY Ae AB vB p0_2.bad] H (fun u M=>u=vI r.1∧M=[sO Az As AW Al Ab BL BA p0,AD 43 4 As AV p0.rows,AD 148 3 AW AS p0.pages,Cb Al AB AB p0.gens,AD 55 2 BA AU p0.ring,vO BL Ab A0 Ar r.2.1,AD 55 2 A0 AU r.2.1.ring,AY Ar AB vB r.2.1.taken,dO Ab Af Ad Ae r.2.2,AD 9 1 Af eS r.2.2.blocks,AY Ad AB vS r.2.2.pend,AY Ae AB vB r.2.2.bad]):=by
 unfold KD at h
 refine WN.enter Tryz.func84 rfl rfl ?_
 refine Y (U E (V (AH (Y ?_))))
 refine AF h fun y1 hy1 h=>?_
 refine J E (AT E E (AE E Kk (AG 0 K6 E (SL.pick [8,9,10,11,0,1,2,3,4,5,6,7] 12 (AQ 4 Vb (N9 hy1) E (U E (V (Y (J E ?_)))))))))
 refine Z E BQ (V ?_)
 refine AL h E (fun hc1 h=>?_) fun hc1 h=>?_
 refine Y (J E (U E (V (AK (Aa ?_)))))
 obtain rfl:=zI h
 exact Ac [4,5,6,7,8,9,10,11,0,1,2,3] 12 E E E
 refine AI (AJ (AH ?_))
 refine AF h fun y2 hy2 h=>?_
 refine AF h fun x1 hx1 h=>?_
 refine AF h fun y3 hy3 h=>?_
 refine Ax Cz [4,5] (Bs [(true,0),(true,1),(true,2),(true,3),(true,6),(true,7),(true,8),(true,9),(true,10),(true,11),(true,12),(true,13),(true,14),(true,15),(true,16),(true,17),(true,18)] (.alt 4 (Bs [(true,5)] (.alt 19 (Bs [(true,20),(true,21),(true,22),(false,23),(false,24)] (.last 25 .nil)) (.cons (false,23) (Bs [(false,19),(true,20),(true,21),(true,22),(false,24)] (.last 25 .nil))))) (.cons (false,23) (Bs [(false,4),(true,5),(false,19),(true,20),(true,21),(true,22),(false,24)] (.last 25 .nil))))) zK (J E (AT E E (AE E Kk (AG 0 K6 E (J E (AT E E (AE E Qg ?_)))))))
 refine AG 0 A4 E (J E (DL 1 E Ca E E (J E (J E (Bt hs2_ E FH E (Z E Dc ?_))))))
 refine Co hx1 hs2_ E FH Ea E E fun be1 of1 hc2=>?_
 refine AE E EU ?_
 refine Aw [AB x1.page,vS x1.tag] E DC E E (Wd (d:=1) hc2 E) ?_
 refine OJ ?_ ?_
 focus
  refine BS 4 YQ (Jq hy2) E ⟨⟨4,E⟩,⟨5,E⟩,zT⟩ (RX E (show WF Tryz.prog 38 0=some 0 by kernel_rfl) E E ?_)
  refine OJ ?_ ?_
  refine BS 0 Vc ((MR hy3 :)) E ⟨⟨4,E⟩,⟨5,E⟩,zT⟩ (J E (Ah E E E (Ah E E E ?_)))
  refine Au E Kq (fun _=>⟨⟨5,E⟩,⟨6,E⟩,zT⟩) fun b1=>?_
  rotate_left
  refine Au E Kq (fun _=>⟨⟨5,E⟩,⟨6,E⟩,zT⟩) fun b1=>?_
  refine BS 0 Vc ((MR hy3 :)) E ⟨⟨5,E⟩,⟨6,E⟩,zT⟩ (J E (Ah E E E (Ah E E E ?_)))
  all_goals
   refine A3 0 E E E E O4 E E E ⟨⟨5,E⟩,⟨6,E⟩,zT⟩ (BU (U E (V (AH (Y (J E (Z E BQ (V ?_))))))))
   refine AL h E (fun hc3 h=>?_) fun hc3 h=>?_
   refine Y (J E (U E (V (AK (Aa ?_)))))
   obtain rfl:=zI h
   exact Ac [5,6,7,8,9,10,11,12,1,2,3,4] 13 E E E
   refine AI (AJ (Y ?_))
   refine AF h fun y4 hy4 h=>?_
   refine Aw [Be y3.1.cnt,AB y3.1.gen,AB y3.1.rows,AB y3.1.page,vS y3.1.tag] E KT E E (Ap 0 E) (AQ 0 Zv ((OQ hy4 :)) E (J E (Ah E E E (Ah E E E (U E (U E (V (AH ?_))))))))
   refine AF h fun y5 hy5 h=>?_
   refine AF h fun y6 hy6 h=>?_
   refine Ax Cz [0,5] (Bs [(true,0),(true,1),(true,2),(true,3),(true,4),(true,5),(true,7),(false,6),(false,8),(false,9),(true,10),(true,11),(false,12)] (.last 13 .nil)) zK (J E (AT E E (AE E Nj (AG 1 QA E (AE E NM (AG 0 Gl E (J E ?_)))))))
   refine BS 0 Zx (Qe hy5) E ⟨⟨0,E⟩,⟨5,E⟩,zT⟩ (SL.pick [10,11,12,1,2,3,4,0,5,6,7,8,9] 13 (BS 7 Zw (Re hy6 hS) E ⟨⟨7,E⟩,⟨8,E⟩,zT⟩ (J E (Ah E E E (Ah E E E (U E (BU (U E (V (AH (Y ?_)))))))))))
   refine J E (Z E BQ (V ?_))
   refine AL h E (fun hc4 h=>?_) fun hc4 h=>?_
   refine Y (J E (U E (V (AK (Aa ?_)))))
   obtain rfl:=zI h
   exact Ac [8,9,10,11,12,0,1,2,3,4,5,6] 13 E E E
   refine AI (AJ (AH (Y ?_)))
   refine AF h fun y7 hy7 h=>?_
   refine J E (AT E E (AE E Kk (AG 8 K6 E (SL.pick [3,4,5,6,0,1,2] 7 (AQ 4 Vb (N9 hy7) E (U E (V (Y (J E ?_)))))))))
   refine Z E BQ (V ?_)
   refine AL h E (fun hc5 h=>?_) fun hc5 h=>?_
   refine Y (J E (U E (V (AK (Aa ?_)))))
   obtain rfl:=zI h
   exact Ac [8,9,10,11,12,4,5,6,0,1,2,3] 13 E E E
   refine AI (AJ (Y ?_))
   refine AF h fun y8 hy8 h=>?_
   refine J E (AT E E (AE E Kk (AG 8 K6 E (J E (AQ 4 Zy (Pm hy8) E (U E (V (AK ?_))))))))
   obtain rfl:=zI h
   exact Ac [8,9,10,11,12,4,5,6,0,1,2,3] 13 E E E
 refine Au E Kq (fun _=>⟨⟨5,E⟩,⟨6,E⟩,zT⟩) fun b1=>?_
 refine SL.pick [1,2,3,4,0] 5 (BS 4 YQ (Jq hy2) E ⟨⟨5,E⟩,⟨6,E⟩,zT⟩ (RX E (show WF Tryz.prog 38 0=some 0 by kernel_rfl) E E (BS 0 Vc ((MR hy3 :)) E ⟨⟨5,E⟩,⟨6,E⟩,zT⟩ (J E (Ah E E E (Ah E E E (A3 4 E E E E O4 E E E ⟨⟨5,E⟩,⟨6,E⟩,zT⟩ (BU ?_))))))))
 refine U E (V (AH (Y (J E (Z E BQ (V ?_))))))
 refine AL h E (fun hc3 h=>?_) fun hc3 h=>?_
 refine Y (J E (U E (V (AK (Aa ?_)))))
 obtain rfl:=zI h
 exact Ac [5,6,7,8,9,10,11,12,0,1,2,3] 13 E E E
 refine AI (AJ (Y ?_))
 refine AF h fun y4 hy4 h=>?_
 refine Aw [Be y3.1.cnt,AB y3.1.gen,AB y3.1.rows,AB y3.1.page,vS y3.1.tag] E KT E E (Ap 4 E) (AQ 0 Zv ((OQ hy4 :)) E (J E (Ah E E E (Ah E E E (U E (U E (V (AH ?_))))))))
 refine AF h fun y5 hy5 h=>?_
 refine AF h fun y6 hy6 h=>?_
 refine Ax Cz [4,5] (Bs [(true,0),(true,1),(true,2),(true,3),(true,4),(true,5),(true,7),(false,6),(false,8),(false,9),(true,10),(true,11),(false,12)] (.last 13 .nil)) zK (J E (AT E E (AE E Nj (AG 1 QA E (AE E NM (AG 0 Gl E (J E ?_)))))))
 refine BS 0 Zx (Qe hy5) E ⟨⟨4,E⟩,⟨5,E⟩,zT⟩ (SL.pick [10,11,12,0,1,2,3,4,5,6,7,8,9] 13 (BS 7 Zw (Re hy6 hS) E ⟨⟨7,E⟩,⟨8,E⟩,zT⟩ (J E (Ah E E E (Ah E E E (U E (BU (U E (V (AH (Y ?_)))))))))))
 refine J E (Z E BQ (V ?_))
 refine AL h E (fun hc4 h=>?_) fun hc4 h=>?_
 refine Y (J E (U E (V (AK (Aa ?_)))))
 obtain rfl:=zI h
 exact Ac [8,9,10,11,12,0,1,2,3,4,5,6] 13 E E E
 refine AI (AJ (AH (Y ?_)))
 refine AF h fun y7 hy7 h=>?_
 refine J E (AT E E (AE E Kk (AG 8 K6 E (SL.pick [3,4,5,6,0,1,2] 7 (AQ 4 Vb (N9 hy7) E (U E (V (Y (J E ?_)))))))))
 refine Z E BQ (V ?_)
 refine AL h E (fun hc5 h=>?_) fun hc5 h=>?_
 refine Y (J E (U E (V (AK (Aa ?_)))))
 obtain rfl:=zI h
 exact Ac [8,9,10,11,12,4,5,6,0,1,2,3] 13 E E E
 refine AI (AJ (Y ?_))
 refine AF h fun y8 hy8 h=>?_
 refine J E (AT E E (AE E Kk (AG 8 K6 E (J E (AQ 4 Zy (Pm hy8) E (U E (V (AK ?_))))))))
 obtain rfl:=zI h
 exact Ac [8,9,10,11,12,4,5,6,0,1,2,3] 13 E E E
def Ga(n:Nat)(p0:BF)(y1:List Ak×Int×Am×Ai)(o1:Ai)(o2:Am)(a1:Int):Option (Int×BF×Am×Ai):=
 cond (!decide (a1=0))
 (
  some (a1,{ p0 with bad:=true },o2,o1))
 (
  (LO n p0 o2 o1 y1.1).bind fun y3=>
  some (0,y3.1,y3.2,o1))
def Hv(n:Nat)(T:List UInt32)(p0:BF)(p0_1:Am)(p0_2:Ai)(p2:List Ak):Option (Int×BF×Am×Ai):=
 (Pe n T p0_1 p0_2 p0.rows p2).bind fun y1=>
 ret (decide (y1.2.1=110)) fun x1=>
 cond x1
 (
  some (y1.2.1,p0,y1.2.2.1,y1.2.2.2))
 (
  ret (decide (y1.2.1=0)) fun x2=>
  cond x2
  (
   (KD n T p0 y1.2.2.1 y1.2.2.2 y1.1).bind fun y2=>
   Ga n p0 y1 y2.2.2 y2.2.1 y2.1)
  (
   Ga n p0 y1 y1.2.2.2 y1.2.2.1 y1.2.1))
theorem TI{n Az BL Ar Ab Ad Ae:Nat}{T:List UInt32}{As AW Al BA A0 Af D8:Value}{p0:BF}{p0_1:Am}{p0_2:Ai}{p2:List Ak}{r:Int×BF×Am×Ai}(h:Hv n T p0 p0_1 p0_2 p2=some r)(hS:Gk K w0 T)(hs2_:By K w0 AS 3 D8 p2):zC K w0 55 [vP Az 0,As,D8] [sO Az As AW Al Ab BL BA p0,AD 43 4 As AV p0.rows,AD 148 3 AW AS p0.pages,Cb Al AB AB p0.gens,AD 55 2 BA AU p0.ring,vO BL Ab A0 Ar p0_1,AD 55 2 A0 AU p0_1.ring,AY Ar AB vB p0_1.taken,dO Ab Af Ad Ae p0_2,AD 9 1 Af eS p0_2.blocks,AY Ad AB vS p0_2.pend,AY Ae AB vB p0_2.bad] H (fun u M=>∃vs0_0_1 vs0_0_2:Value,u=vI r.1∧M=[sO Az As vs0_0_1 vs0_0_2 Ab BL BA r.2.1,AD 43 4 As AV r.2.1.rows,AD 148 3 vs0_0_1 AS r.2.1.pages,Cb vs0_0_2 AB AB r.2.1.gens,AD 55 2 BA AU r.2.1.ring,vO BL Ab A0 Ar r.2.2.1,AD 55 2 A0 AU r.2.2.1.ring,AY Ar AB vB r.2.2.1.taken,dO Ab Af Ad Ae r.2.2.2,AD 9 1 Af eS r.2.2.2.blocks,AY Ad AB vS r.2.2.2.pend,AY Ae AB vB r.2.2.2.bad]):=by
 unfold Hv at h
 refine WN.enter Tryz.func55 rfl rfl ?_
 refine Y (U E (V (Y ?_)))
 refine AF h fun y1 hy1 h=>?_
 refine J E (AT E E (AE E Nj (AG 0 QA E (J E (J E (SL.pick [1,5,6,7,8,9,10,11,0,2,3,4] 12 ?_))))))
 refine BT (vs:=[_,_,_]) (Hin:=[_,_,_,_,_,_,_,_]) (Hr:=_::_::_::_::_) E E ⟨E,E,E,zT⟩ ku E E (CJ (B:=[_]) (Hin:=[_,_,_,_,_,_,_]) fun K' w1 hk hB=>iG hy1 (hS.keeps hk) (Bp (e:=43) (v:=As) zV (hB _ zS)) (hs2_.keeps hk)) ?_
 rintro _ _ ⟨_,rfl,v1,rfl,rfl⟩
 refine⟨trivial,?_⟩
 refine J E (Ah E E E (Ah E E E (U E (U E (V ?_)))))
 refine A8 (α:=Ai×Am×Int) (fun x=>Ga n p0 y1 x.1 x.2.1 x.2.2=some r) (fun x=>[(0,vP Az 0),(1,As),(7,v1),(8,vI x.2.2)]) (fun x=>sO Az As AW Al Ab BL BA p0::AD 43 4 As AV p0.rows::AD 148 3 AW AS p0.pages::Cb Al AB AB p0.gens::dO Ab Af Ad Ae x.1::AD 9 1 Af eS x.1.blocks::AY Ad AB vS x.1.pend::AY Ae AB vB x.1.bad::vO BL Ab A0 Ar x.2.1::AD 55 2 A0 AU x.2.1.ring::AY Ar AB vB x.2.1.taken::AD 55 2 BA AU p0.ring::AD 148 3 v1 AS y1.1::H) ?_ (fun x D h=>?_)
 refine Y (J E (V (AN (Y ?_))))
 obtain⟨x1,ex1,h⟩:=Bz h
 refine Z E Ba ?_
 refine Ay (u:=vB x1) E E (congrArg vB ex1) ?_
 refine V ?_
 refine AL h E (fun hc1 h=>?_) fun hc1 h=>?_
 refine Y (J E (U E (V (AK (BI (FY ?_))))))
 obtain rfl:=zI h
 exact BH [9,0,10,11,12,2,3,4,5,6,7,8] 13 (Cx E E) E E ⟨AW,Al,E,E⟩
 refine Y ?_
 obtain⟨x2,ex2,h⟩:=Bz h
 refine Z E Ba ?_
 refine Ay (u:=vB x2) E E (congrArg vB ex2) ?_
 refine V ?_
 refine AL h E (fun hc2 h=>?_) fun hc2 h=>?_
 refine AM ?_
 refine AF h fun y2 hy2 h=>?_
 refine J E (J E (J E (SL.pick [1,9,0,10,11,12,2,3,4,5,6,7,8] 13 ?_)))
 refine BT (vs:=[_,_,_]) (Hin:=[_,_,_,_,_,_,_,_,_,_,_,_,_]) (Hr:=_) E E ⟨E,E,E,zT⟩ kw E E (CJ (B:=[_]) (Hin:=[_,_,_,_,_,_,_,_,_,_,_,_]) fun K' w1 hk hB=>Si hy2 (hS.keeps hk) (Bp (e:=148) (v:=v1) zV (hB _ zS))) ?_
 rintro _ _ ⟨_,rfl,rfl,rfl⟩
 refine⟨trivial,?_⟩
 refine U E (AZ (Av ?_))
 exact Aq (y2.2.2,y2.2.1,y2.1) h tL (BM [1,2,3,4,9,10,11,12,6,7,8,5,0] 13 E E E)
 refine AI (Av ?_)
 exact Aq (y1.2.2.2,y1.2.2.1,y1.2.1) h tL (BM [9,0,10,11,5,6,7,8,2,3,4,12,1] 13 E E E)
 obtain⟨o1,o2,a1⟩:=x
 dsimp only at h
 unfold Ga at h
 try dsimp only
 refine AH (Y (J E (Z E BQ (V ?_))))
 refine AL h E (fun hc3 h=>?_) fun hc3 h=>?_
 refine Y (J E (AT E E (AE E Z8 (A3 0 E E E E Ql E E E zT (V (Y (J E (U E (V (AK (Aa ?_)))))))))))
 obtain rfl:=zI h
 exact BH [0,1,2,3,11,8,9,10,4,5,6,7] 13 (Cx E E) E E ⟨AW,Al,E,E⟩
 refine AI (AJ (Y ?_))
 refine AF h fun y3 hy3 h=>?_
 refine J E (J E (J E (SL.pick [0,1,2,3,11,8,9,10,4,5,6,7,12] 13 (BY 13 kx (UI hy3) E ?_))))
 rintro _ _ ⟨v2,v3,rfl,rfl⟩
 refine V (Y (U E (V (AK ?_))))
 obtain rfl:=zI h
 exact BH [0,1,2,3,4,5,6,7,8,9,10,11] 12 (Cx E E) E E ⟨v2,v3,E,E⟩
end

section
variable {K:Nat→Prop}{w0:World}{H:List AX}
def Er(a1:Int)(nx_f_store_Store_Rekey_l1:List Ak×Int→Option (Int×Int×BF×Am×Ai))(l6:List Ak):Option (Int×Int×BF×Am×Ai):=
 nx_f_store_Store_Rekey_l1 (l6,wI (a1+1))
def F2(n:Nat)(T:List UInt32)(p0:BF)(p0_2:Ai)(y2:UInt32×Int)(y5:Int×Am)(l4:List Ak):Option (Int×Int×BF×Am×Ai):=
 (Hv n T ({ p0 with gen:=y2.1 }) y5.2 p0_2 l4).bind fun y7=>
 cond (!decide (y7.1=0))
 (
  some (0,y7.1,y7.2.1,y7.2.2.1,y7.2.2.2))
 (
  (Fw y7.2.1 y7.2.2.1 y7.2.2.2).bind fun y8=>
  some (y8,0,y7.2.1,y7.2.2.1,y7.2.2.2))
def D0(n:Nat)(T:List UInt32)(p0:BF)(p0_2:Ai)(y2:UInt32×Int)(y5:Int×Am)(l1:List (UInt32×Bool))(nx_f_store_Store_Rekey_l1:List Ak×Int→Option (Int×Int×BF×Am×Ai))(l5:List Ak)(a1:Int):Option (Int×Int×BF×Am×Ai):=
 cond (decide (a1<(p0.pages.length:Int)))
 (
  (BE p0.pages a1).bind fun x3=>
  (bw a1).bind fun k2=>
  cond (!((Bn l1 k2).getD false))
  (
   (C8 40 l5 [x3]).bind fun l7=>
   Er a1 nx_f_store_Store_Rekey_l1 l7)
  (
   Er a1 nx_f_store_Store_Rekey_l1 l5))
 (
  F2 n T p0 p0_2 y2 y5 l5)
def Dn(n:Nat)(T:List UInt32)(p0:BF)(p0_2:Ai)(y2:UInt32×Int)(y5:Int×Am)(l1:List (UInt32×Bool)):Nat→(List Ak×Int)→Option (Int×Int×BF×Am×Ai):=CI fun nx x=>D0 n T p0 p0_2 y2 y5 l1 nx x.1 x.2
def HR(n:Nat)(T:List UInt32)(p0:BF)(p0_2:Ai)(y2:UInt32×Int)(y5:Int×Am)(l1:List (UInt32×Bool)):Option (Int×Int×BF×Am×Ai):=
 Dn n T p0 p0_2 y2 y5 l1 n ([],0)
def J7(n:Nat)(T:List UInt32)(p0:BF)(p0_2:Ai)(y2:UInt32×Int)(y5:Int×Am)(l2:List (UInt32×Bool)):Option (Int×Int×BF×Am×Ai):=
 HR n T p0 p0_2 y2 y5 l2
def J6(n:Nat)(T:List UInt32)(p0:BF)(p0_2:Ai)(y2:UInt32×Int)(y5:Int×Am)(l2:List (UInt32×Bool)):Option (Int×Int×BF×Am×Ai):=
 HR n T p0 p0_2 y2 y5 l2
def FN(n:Nat)(T:List UInt32)(p0:BF)(p0_2:Ai)(p1:Int)(y2:UInt32×Int)(y5:Int×Am)(nx_f_store_Store_Rekey_r1:List (UInt32×Bool)→Option (Int×Int×BF×Am×Ai))(e1:Int×Ak)(l2:List (UInt32×Bool)):Option (Int×Int×BF×Am×Ai):=
 cond (decide ((l2.length:Int)=p1))
 (
  J7 n T p0 p0_2 y2 y5 l2)
 (
  (bw e1.1).bind fun k1=>
  (Km l2 k1 true).bind fun l3=>
  nx_f_store_Store_Rekey_r1 l3)
def F3(n:Nat)(T:List UInt32)(p0:BF)(p0_2:Ai)(p1:Int)(y2:UInt32×Int)(y5:Int×Am):List (Int×Ak)→List (UInt32×Bool)→Option (Int×Int×BF×Am×Ai):=Rn (fun nx e x=>FN n T p0 p0_2 p1 y2 y5 nx e x) (fun x=>J6 n T p0 p0_2 y2 y5 x)
def F1(n:Nat)(T:List UInt32)(p0:BF)(p0_1:Am)(p0_2:Ai)(p1:Int):Option (Int×Int×BF×Am×Ai):=
 (Cp p0 p0_1 p0_2).bind fun y1=>
 cond (!decide (y1=0))
 (
  some (0,y1,p0,p0_1,p0_2))
 (
  (Cf p0.ring).bind fun y2=>
  ret (decide (p1<1)) fun x1=>
  cond x1
  (
   some (0,2,p0,p0_1,p0_2))
  (
   (Fw p0 p0_1 p0_2).bind fun y3=>
   ret ((decide (y3=0))&&(decide (p0.gen=y2.1))) fun x2=>
   cond x2
   (
    some (0,0,p0,p0_1,p0_2))
   (
    (GU p0_2).bind fun y4=>
    cond y4
    (
     some (0,72,p0,p0_1,p0_2))
    (
     (L6 p0_1 p0_2 p0.ring y2.1).bind fun y5=>
     (Tb ({ p0 with gen:=y2.1 }) y5.2 p0_2 y2.1).bind fun y6=>
     (Rm ({ p0 with gen:=y2.1 }) y2.1).bind fun xs1=>
     F3 n T p0 p0_2 p1 y2 y5 xs1 []))))
theorem Uj{n Az BL Ar Ab Ad Ae:Nat}{T:List UInt32}{As AW Al BA A0 Af:Value}{p0:BF}{p0_1:Am}{p0_2:Ai}{p1:Int}{r:Int×Int×BF×Am×Ai}(h:F1 n T p0 p0_1 p0_2 p1=some r)(hS:Gk K w0 T):zC K w0 44 [vP Az 0,vI p1] [sO Az As AW Al Ab BL BA p0,AD 43 4 As AV p0.rows,AD 148 3 AW AS p0.pages,Cb Al AB AB p0.gens,AD 55 2 BA AU p0.ring,vO BL Ab A0 Ar p0_1,AD 55 2 A0 AU p0_1.ring,AY Ar AB vB p0_1.taken,dO Ab Af Ad Ae p0_2,AD 9 1 Af eS p0_2.blocks,AY Ad AB vS p0_2.pend,AY Ae AB vB p0_2.bad] H (fun u M=>∃vs0_0_1 vs0_0_2 vs0_1_1:Value,u=.tuple #[vI r.1,vI r.2.1]∧M=[sO Az As vs0_0_1 vs0_0_2 Ab BL BA r.2.2.1,AD 43 4 As AV r.2.2.1.rows,AD 148 3 vs0_0_1 AS r.2.2.1.pages,Cb vs0_0_2 AB AB r.2.2.1.gens,AD 55 2 BA AU r.2.2.1.ring,vO BL Ab vs0_1_1 Ar r.2.2.2.1,AD 55 2 vs0_1_1 AU r.2.2.2.1.ring,AY Ar AB vB r.2.2.2.1.taken,dO Ab Af Ad Ae r.2.2.2.2,AD 9 1 Af eS r.2.2.2.2.blocks,AY Ad AB vS r.2.2.2.2.pend,AY Ae AB vB r.2.2.2.2.bad]):=by
 unfold F1 at h
 refine WN.enter Tryz.func44 rfl rfl ?_
 refine Y ?_
 refine Bg E E zU fun b1=>?_
 refine U E (U E (V (AH (Y ?_))))
 refine AF h fun y1 hy1 h=>?_
 refine J E (SL.pick [1,2,3,4,5,6,7,8,9,10,11,12,0] 13 (AQ 12 f4 (JC hy1) E (U E (V (Y (J E (Z E BQ (V ?_))))))))
 refine AL h E (fun hc1 h=>?_) fun hc1 h=>?_
 refine Y (J E (U E (U E (V (AK (Aa ?_))))))
 obtain rfl:=zI h
 exact BH [0,1,2,3,4,5,6,7,8,9,10,11] 13 (C9 E E E) E E ⟨AW,Al,A0,E,E⟩
 refine AI (AJ (Y ?_))
 refine AF h fun y2 hy2 h=>?_
 refine J E (AT E E (AE E Vg (AG 0 ZU E (SL.pick [4,0,1,2,3] 5 ?_))))
 refine BT (vs:=[_]) (Hin:=[_]) (Hr:=_::_::_::_::_::_::_::_::_::_::_::_::_) E E ⟨E,zT⟩ f3 E E (CJ (B:=[_]) (Hin:=[]) fun K' w1 hk hB=>ON hy2 (Bp (e:=55) (v:=BA) zV (hB _ zS))) ?_
 rintro _ _ ⟨_,rfl,rfl,rfl⟩
 refine⟨trivial,?_⟩
 refine J E (Ah E E E (Ah E E E (U E (U E (V (AH (AN (Y ?_))))))))
 obtain⟨x1,ex1,h⟩:=Bz h
 refine AG 12 EF E (Z E A9 ?_)
 refine Ay (u:=vB x1) E E (congrArg vB ex1) ?_
 refine V ?_
 refine AL h E (fun hc2 h=>?_) fun hc2 h=>?_
 refine Y (U E (U E (V (AK (BI (Aa ?_))))))
 obtain rfl:=zI h
 exact BH [1,2,3,4,0,5,6,7,8,9,10,11] 13 (C9 E E E) E E ⟨AW,Al,A0,E,E⟩
 refine Y ?_
 refine AF h fun y3 hy3 h=>?_
 obtain⟨x2,ex2,h⟩:=Bz h
 refine J E (SL.pick [1,2,3,4,0,5,6,7,8,9,10,11] 12 (AQ 12 kn (Np hy3) E (Z E Ba (J E ?_))))
 refine CV (c:=decide (p0.gen=y2.1)) 35 7 42 E (fun hb k=>?_) (fun hb k=>?_) ?_
 refine J E (AT E E (AE E Qg (AG 0 A4 E (J E (Z E Iz (Ag E E E ?_))))))
 exact k.mono tL
 refine AC E (AC E (AC E (AC E (AC E (AC E (Ag E E E ?_))))))
 exact k.mono tL
 refine Ay (u:=vB x2) E E (congrArg vB ex2) ?_
 refine V ?_
 refine AL h E (fun hc3 h=>?_) fun hc3 h=>?_
 refine Y (U E (U E (V (AK (BI (Aa ?_))))))
 obtain rfl:=zI h
 exact BH [0,1,2,3,4,5,6,7,8,9,10,11] 13 (C9 E E E) E E ⟨AW,Al,A0,E,E⟩
 refine Y ?_
 refine AF h fun y4 hy4 h=>?_
 refine J E (AT E E (AE E Kk (AG 0 K6 E (SL.pick [8,9,10,11,0,1,2,3,4,5,6,7] 12 (AQ 4 kp (QF hy4) E (U E (V ?_)))))))
 refine AL h E (fun hc4 h=>?_) fun hc4 h=>?_
 refine Y (U E (U E (V (AK (BI (Aa ?_))))))
 obtain rfl:=zI h
 exact BH [4,5,6,7,8,9,10,11,0,1,2,3] 13 (C9 E E E) E E ⟨AW,Al,A0,E,E⟩
 refine AI (Av (AJ (AH ?_)))
 refine AF h fun y5 hy5 h=>?_
 refine Ax Cz [4] (Bs (G4 0 9) (.last 9 .nil)) zK (J E (AT E E (AE E Nj (AG 0 QA E (J E (AT E E (AE E Vg ?_)))))))
 refine AG 0 ZU E (J E (BU (SL.pick [8,9,10,11,0,1,2,3,4,5,6,7] 12 ?_)))
 refine BT (vs:=[_,_,_]) (Hin:=[_,_,_,_,_,_,_,_]) (Hr:=_::_::_::_::_::_) E E ⟨E,E,E,zT⟩ qg E E (CJ (B:=[_]) (Hin:=[_,_,_,_,_,_,_]) fun K' w1 hk hB=>au hy5 (Bp (e:=55) (v:=BA) zV (hB _ zS))) ?_
 rintro _ _ ⟨_,rfl,v1,rfl,rfl⟩
 refine⟨trivial,?_⟩
 refine V (Y (J E (J E (AT E E (AE E Qg (A3 8 E E E E Bx E E E zT (V (Y ?_))))))))
 refine QZ bE vB E zU fun b2=>?_
 refine Au E yf zU fun b3=>?_
 refine A3 0 E E E E yJ E E E zT (V ?_)
 refine A8 (α:=List (UInt32×Bool)) (fun x=>HR n T p0 p0_2 y2 y5 x=some r) (fun x=>[(0,vP Az 0),(9,vP b3 0)]) (fun x=>own Az (.cells #[As,AW,Al,vP Ab 0,vP BL 0,BA,AB y2.1,vB p0.bad] 95)::AD 43 4 As AV p0.rows::AD 148 3 AW AS p0.pages::Cb Al AB AB p0.gens::dO Ab Af Ad Ae p0_2::AD 9 1 Af eS p0_2.blocks::AY Ad AB vS p0_2.pend::AY Ae AB vB p0_2.bad::vO BL Ab v1 Ar y5.2::AD 55 2 v1 AU y5.2.ring::AY Ar AB vB y5.2.taken::AD 55 2 BA AU p0.ring::own b3 (.cells #[.map (some b2)] 144)::AY b2 bE vB x::H) ?_ (fun l1 D h=>?_)
 refine Y ?_
 refine AF h fun y6 hy6 h=>?_
 refine J E (AT E E (AE E Iq (J E (BY 0 kr ((cj hy6 :)) E ?_))))
 rintro _ _ ⟨b4,b5,rfl,rfl⟩
 refine V (AN ?_)
 refine AF h fun xs1 hxs1 h=>?_
 refine SX.heap (S6 (enc:=XY) xs1 [own Az (.cells #[As,AW,Al,vP Ab 0,vP BL 0,BA,AB y2.1,vB p0.bad] 95),AD 148 3 AW AS p0.pages,Cb Al AB AB p0.gens] (G0:=AD 43 4 As AV p0.rows::AD 55 2 BA AU p0.ring::vO BL Ab v1 Ar y5.2::AD 55 2 v1 AU y5.2.ring::AY Ar AB vB y5.2.taken::dO Ab Af Ad Ae p0_2::AD 9 1 Af eS p0_2.blocks::AY Ad AB vS p0_2.pend::AY Ae AB vB p0_2.bad::own b1 (.cells #[vI p1] 3)::own b3 (.cells #[.map (some b2)] 144)::AY b2 bE vB []::H) (fun pre G=>∃x:List (UInt32×Bool),(∀suf,xs1=pre++suf→F3 n T p0 p0_2 p1 y2 y5 suf x=some r)∧G=AD 43 4 As AV p0.rows::AD 55 2 BA AU p0.ring::vO BL Ab v1 Ar y5.2::AD 55 2 v1 AU y5.2.ring::AY Ar AB vB y5.2.taken::dO Ab Af Ad Ae p0_2::AD 9 1 Af eS p0_2.blocks::AY Ad AB vS p0_2.pend::AY Ae AB vB p0_2.bad::own b1 (.cells #[vI p1] 3)::own b3 (.cells #[.map (some b2)] 144)::AY b2 bE vB x::H) (fun c G=>(c=.exit 1∧∃x:List (UInt32×Bool),J7 n T p0 p0_2 y2 y5 x=some r∧G=own Az (.cells #[As,AW,Al,vP Ab 0,vP BL 0,BA,AB y2.1,vB p0.bad] 95)::AD 148 3 AW AS p0.pages::Cb Al AB AB p0.gens::AD 43 4 As AV p0.rows::AD 55 2 BA AU p0.ring::vO BL Ab v1 Ar y5.2::AD 55 2 v1 AU y5.2.ring::AY Ar AB vB y5.2.taken::dO Ab Af Ad Ae p0_2::AD 9 1 Af eS p0_2.blocks::AY Ad AB vS p0_2.pend::AY Ae AB vB p0_2.bad::own b1 (.cells #[vI p1] 3)::own b3 (.cells #[.map (some b2)] 144)::AY b2 bE vB x::H)) E kz E zV (Yi hxs1 :) E ⟨[],fun suf e=>by rw[←show xs1=suf from e];exact h,E⟩ (fun pre e1 suf1 G hpre hJ lr lp Rest=>?_) (fun G D hJ=>?_) (fun c G D hX=>?_)) (BM [0,1,12,14,15,13,4,5,6,7,8,9,10,11,16,2,3] 17 E E E)
 obtain⟨l2,h,rfl⟩:=hJ
 replace h:FN n T p0 p0_2 p1 y2 y5 (F3 n T p0 p0_2 p1 y2 y5 suf1) e1 l2=some r:=h _ hpre
 unfold FN at h
 refine AM (U E (AZ ?_))
 refine Jm (G:=own Az (.cells #[As,AW,Al,vP Ab 0,vP BL 0,BA,AB y2.1,vB p0.bad] 95)::AD 148 3 AW AS p0.pages::Cb Al AB AB p0.gens::AD 43 4 As AV p0.rows::AD 55 2 BA AU p0.ring::vO BL Ab v1 Ar y5.2::AD 55 2 v1 AU y5.2.ring::AY Ar AB vB y5.2.taken::dO Ab Af Ad Ae p0_2::AD 9 1 Af eS p0_2.blocks::AY Ad AB vS p0_2.pend::AY Ae AB vB p0_2.bad::own b1 (.cells #[vI p1] 3)::own b3 (.cells #[.map (some b2)] 144)::AY b2 bE vB l2::H) ?_
 refine AN (AH (Y (AG 13 li E (iY 14 E lz E E (AG 12 EF E (Z E Ba (V ?_)))))))
 refine AL h E (fun hc5 h=>?_) fun hc5 h=>?_
 refine A5 (BC (Hc ?_))
 exact NB ⟨E,l2,h,E⟩ (BM [0,1,2,3,4,5,6,7,8,9,10,11,12,13,14] 15 E E E)
 refine AI (AJ (AM ?_))
 refine AF h fun k1 hk1 h=>?_
 refine AF h fun l3 hl3 h=>?_
 refine AG 13 li E (J E (M9 14 hl3 (iP Im) E lz E (nf E hk1) E E zT (AZ (Av ?_))))
 exact IK ⟨_,E,l3,fun suf e=>by rw[Ts hpre e];exact h,E⟩ (BM [0,1,2,3,4,5,6,7,8,9,10,11,12,13,14] 15 E E E)
 obtain⟨l2,h,rfl⟩:=hJ
 replace h:J6 n T p0 p0_2 y2 y5 l2=some r:=h [] (List.append_nil _).symm
 unfold J6 at h
 refine Av ?_
 exact Aq l2 h tL (BM [0,3,1,2,8,9,10,11,5,6,7,4,13,14] 15 E E E)
 obtain⟨rfl,hJ⟩:=hX
 obtain⟨l2,h,rfl⟩:=hJ
 unfold J7 at h
 refine A5 (BB ?_)
 exact Aq l2 h tL (BM [0,3,1,2,8,9,10,11,5,6,7,4,13,14] 15 E E E)
 unfold HR at h
 try dsimp only
 refine Y (CE 148 3 AS (U E (V ?_)))
 refine A8 (α:=List Ak×Value) (fun x=>F2 n T p0 p0_2 y2 y5 x.1=some r) (fun x=>[(0,vP Az 0),(11,x.2)]) (fun x=>own Az (.cells #[As,AW,Al,vP Ab 0,vP BL 0,BA,AB y2.1,vB p0.bad] 95)::AD 43 4 As AV p0.rows::AD 148 3 AW AS p0.pages::Cb Al AB AB p0.gens::dO Ab Af Ad Ae p0_2::AD 9 1 Af eS p0_2.blocks::AY Ad AB vS p0_2.pend::AY Ae AB vB p0_2.bad::vO BL Ab v1 Ar y5.2::AD 55 2 v1 AU y5.2.ring::AY Ar AB vB y5.2.taken::AD 55 2 BA AU p0.ring::AD 148 3 x.2 AS x.1::H) ?_ (fun x D h=>?_)
 refine Y (J E (AT E E (AE E Iq (AE E Rk (AG 1 K7 E (DL 3 E FH E E (J E (V (AN ?_)))))))))
 refine SX.heap (SX.mono (BK (α:=Nat×List Ak×Value×Int) (fun x=>Dn n T p0 p0_2 y2 y5 l1 x.1 (x.2.1,x.2.2.2)=some r) (fun x=>[(0,vP Az 0),(9,vP b3 0),(11,x.2.2.1),(81,AW),(82,vI (p0.pages.length:Int)),(83,vI x.2.2.2)]) (fun x=>own Az (.cells #[As,AW,Al,vP Ab 0,vP BL 0,BA,AB y2.1,vB p0.bad] 95)::AD 43 4 As AV p0.rows::AD 148 3 AW AS p0.pages::Cb Al AB AB p0.gens::dO Ab Af Ad Ae p0_2::AD 9 1 Af eS p0_2.blocks::AY Ad AB vS p0_2.pend::AY Ae AB vB p0_2.bad::vO BL Ab v1 Ar y5.2::AD 55 2 v1 AU y5.2.ring::AY Ar AB vB y5.2.taken::AD 55 2 BA AU p0.ring::own b3 (.cells #[.map (some b2)] 144)::AY b2 bE vB l1::AD 148 3 x.2.2.1 AS x.2.1::H) (fun x=>x.1) (fun x D h=>?_) (n,[],zN,0) h) tL) (BM [1,2,3,4,5,6,7,8,9,10,11,12,13,14,0] 15 E E E)
 obtain⟨m1,l5,v3,a1⟩:=x
 dsimp only at h
 rcases m1 with _ | m1
 cases (show(none:Option _)=some r from h)
 replace h:D0 n T p0 p0_2 y2 y5 l1 (Dn n T p0 p0_2 y2 y5 l1 m1) l5 a1=some r:=h
 unfold D0 at h
 try dsimp only
 refine Y (Z E A9 (V (AH ?_)))
 refine AL h E (fun hc6 h=>?_) fun hc6 h=>?_
 refine AI (AJ ?_)
 refine A8 (α:=List Ak×Value) (fun x=>Er a1 (Dn n T p0 p0_2 y2 y5 l1 m1) x.1=some r) (fun x=>[(0,vP Az 0),(9,vP b3 0),(11,x.2),(81,AW),(82,vI (p0.pages.length:Int)),(83,vI a1)]) (fun x=>own Az (.cells #[As,AW,Al,vP Ab 0,vP BL 0,BA,AB y2.1,vB p0.bad] 95)::AD 43 4 As AV p0.rows::AD 148 3 AW AS p0.pages::Cb Al AB AB p0.gens::dO Ab Af Ad Ae p0_2::AD 9 1 Af eS p0_2.blocks::AY Ad AB vS p0_2.pend::AY Ae AB vB p0_2.bad::vO BL Ab v1 Ar y5.2::AD 55 2 v1 AU y5.2.ring::AY Ar AB vB y5.2.taken::AD 55 2 BA AU p0.ring::own b3 (.cells #[.map (some b2)] 144)::AY b2 bE vB l1::AD 148 3 x.2 AS x.1::H) ?_ (fun x D h=>?_)
 refine AN (Y ?_)
 refine AF h fun x3 hx3 h=>?_
 refine J E ?_
 refine B6 2 hx3 E FH Ea E E E fun g1 m2 cp1 hv1=>?_
 refine Aw (AS x3) E Lr E E (H2 (sz:=3) (enc:=AS) 2 zV E hv1 hx3) ?_
 refine Au E In zU fun b6=>?_
 refine U E (A3 0 E E E E Ea E E E zT (V (Y ?_)))
 refine AF h fun k2 hk2 h=>?_
 refine AG 13 li E (J E ?_)
 refine VZ (zv:=false) 14 (iP Im) E lz kJ E (nf E hk2) E ?_
 refine CF E E (V ?_)
 refine AL h E (fun hc7 h=>?_) fun hc7 h=>?_
 refine AM ?_
 refine AF h fun l7 hl7 h=>?_
 refine J E (Aw [vS x3.txt,AB x3.page,vS x3.tag] E Lr E E (Ap 0 E) ?_)
 refine CA [_] rfl FH Ea In ⟨rfl,trivial⟩ rfl rfl rfl zW rfl rfl zU fun b7=>?_
 refine B4 AS 3 ([x3]:List Ak) E zV E ?_
 refine Cr 16 hl7 (sz:=3) (enc:=AS) zV E FH Ea fI In E zD E E E E (B8 (sz:=3) (enc:=AS) 0 zV E) (by simp[AS,Value.oneCell']) zU fun v5=>?_
 refine U E (AZ (Av ?_))
 exact Aq (l7,v5) h tL (BM [2,3,4,5,6,7,8,9,10,11,12,13,14,15,16] 17 E E E)
 refine AI (Av ?_)
 exact Aq (l5,v3) h tL (BM [1,2,3,4,5,6,7,8,9,10,11,12,13,14,15] 16 E E E)
 obtain⟨l6,v4⟩:=x
 dsimp only at h
 unfold Er at h
 try dsimp only
 refine AM (Z E Bc (J E (AZ ?_)))
 exact A1 (m1,l6,v4,wI (a1+1)) h (Nat.lt_succ_self _) tL (BM [0,1,2,3,4,5,6,7,8,9,10,11,12,13,14] 15 E E E)
 refine A5 (BC (Bb (BB ?_)))
 exact Aq (l5,v3) h tL (BM [0,1,2,3,4,5,6,7,8,9,10,11,14] 15 E E E)
 obtain⟨l4,v2⟩:=x
 dsimp only at h
 unfold F2 at h
 try dsimp only
 refine AH (Y ?_)
 refine AF h fun y7 hy7 h=>?_
 refine J E (J E (AT E E (AE E Iq (AE E gJ (AG 0 HI E (J E (SL.pick [12,0,1,2,3,11,8,9,10,4,5,6,7] 13 ?_)))))))
 refine BT (vs:=[_,_,_]) (Hin:=[_,_,_,_,_,_,_,_,_,_,_,_,_]) (Hr:=_) E E ⟨E,E,E,zT⟩ kq E E (CJ (B:=[_]) (Hin:=[_,_,_,_,_,_,_,_,_,_,_,_]) fun K' w1 hk hB=>TI hy7 (hS.keeps hk) (Bp (e:=148) (v:=v2) zV (hB _ zS))) ?_
 rintro _ _ ⟨_,rfl,v6,v7,rfl,rfl⟩
 refine⟨trivial,?_⟩
 refine U E (V (Y (J E (Z E BQ (V ?_)))))
 refine AL h E (fun hc8 h=>?_) fun hc8 h=>?_
 refine Y (J E (U E (U E (V (AK (Aa ?_))))))
 obtain rfl:=zI h
 exact BH [1,2,3,4,5,6,7,8,9,10,11,12] 13 (C9 E E E) E E ⟨v6,v7,v1,E,E⟩
 refine AI (AJ (Y ?_))
 refine AF h fun y8 hy8 h=>?_
 refine J E (SL.pick [1,2,3,4,5,6,7,8,9,10,11,12,0] 13 (AQ 12 kn (Np hy8) E (U E (U E (V (AK ?_))))))
 obtain rfl:=zI h
 exact BH [0,1,2,3,4,5,6,7,8,9,10,11] 13 (C9 E E E) E E ⟨v6,v7,v1,E,E⟩
end

section
structure I9 where
 pace:Int
 gen:UInt32
end

section
variable {K:Nat→Prop}{w0:World}{H:List AX}
def KP(p0:BF)(p0_1:Am)(p0_2:Ai)(p1:Int):Option (Option I9×Int):=
 ret ((decide (p1<1))||(decide (1000<p1))) fun x1=>
 cond x1
 (
  some (none,2))
 (
  some (some ({ pace:=p1,gen:=0 }:I9),0))
theorem Uk{Az BL Ar Ab Ad Ae:Nat}{As AW Al BA A0 Af:Value}{p0:BF}{p0_1:Am}{p0_2:Ai}{p1:Int}{r:Option I9×Int}(h:KP p0 p0_1 p0_2 p1=some r): zC K w0 19 [vP Az 0,vI p1] [sO Az As AW Al Ab BL BA p0,AD 43 4 As AV p0.rows,AD 148 3 AW AS p0.pages,Cb Al AB AB p0.gens,AD 55 2 BA AU p0.ring,vO BL Ab A0 Ar p0_1,AD 55 2 A0 AU p0_1.ring,AY Ar AB vB p0_1.taken,dO Ab Af Ad Ae p0_2,AD 9 1 Af eS p0_2.blocks,AY Ad AB vS p0_2.pend,AY Ae AB vB p0_2.bad] H (fun u M=>(r.1=none∧u=.tuple #[.pointer none,vI r.2]∧M=[sO Az As AW Al Ab BL BA p0,AD 43 4 As AV p0.rows,AD 148 3 AW AS p0.pages,Cb Al AB AB p0.gens,AD 55 2 BA AU p0.ring,vO BL Ab A0 Ar p0_1,AD 55 2 A0 AU p0_1.ring,AY Ar AB vB p0_1.taken,dO Ab Af Ad Ae p0_2,AD 9 1 Af eS p0_2.blocks,AY Ad AB vS p0_2.pend,AY Ae AB vB p0_2.bad])∨(∃(d:I9) (bn0:Nat),r.1=some d∧u=.tuple #[vP bn0 0,vI r.2]∧M=[own bn0 (.cells #[vP Az 0,vI d.pace,AB d.gen] 109),sO Az As AW Al Ab BL BA p0,AD 43 4 As AV p0.rows,AD 148 3 AW AS p0.pages,Cb Al AB AB p0.gens,AD 55 2 BA AU p0.ring,vO BL Ab A0 Ar p0_1,AD 55 2 A0 AU p0_1.ring,AY Ar AB vB p0_1.taken,dO Ab Af Ad Ae p0_2,AD 9 1 Af eS p0_2.blocks,AY Ad AB vS p0_2.pend,AY Ae AB vB p0_2.bad])):=by
 unfold KP at h
 refine WN.enter Tryz.func19 rfl rfl ?_
 refine Y (U E (U E (V (AH (AN (Y (J E (Dr E n6 E E (U E (V (C1 E (Y ?_))))))))))))
 obtain⟨x1,ex1,h⟩:=Bz h
 refine J E (Z E A9 (J E ?_))
 refine Dw (c:=decide (1000<p1)) 12 3 15 E (fun hb k=>?_) (fun hb k=>?_) ?_
 refine AC E (AC E (Ag E E E ?_))
 exact k.mono tL
 refine J E (Z E Cj (Ag E E E ?_))
 exact k.mono tL
 refine Ay (u:=vB x1) E E (congrArg vB ex1) ?_
 refine V ?_
 refine AL h E (fun hc2 h=>?_) fun hc2 h=>?_
 refine Y (U E (U E (V (AK (BI (Aa ?_))))))
 obtain rfl:=zI h
 exact An (C9 E E E) (Ao (M:=[_,_,_,_,_,_,_,_,_,_,_,_]) (.inl ⟨E,E,E⟩) fun _ hw=>Bj.pick (H:=[_,_,_,_,_,_,_,_,_,_,_,_]) hw [0,1,2,3,4,5,6,7,8,9,10,11] 12 E)
 refine AI (Av (AJ (Y (J E (J E (B5 [_,_] E xr xd yZ ⟨E,E,zT⟩ E ?_))))))
 refine Bg E E zU fun b1=>?_
 refine U E (U E (V (AK ?_)))
 obtain rfl:=zI h
 exact An (C9 E E E) (Ao (M:=[_,_,_,_,_,_,_,_,_,_,_,_,_]) (.inr ⟨_,b1,E,E,E⟩) fun _ hw=>Bj.pick (H:=[_,_,_,_,_,_,_,_,_,_,_,_,_]) hw [0,1,2,3,4,5,6,7,8,9,10,11,12] 13 E)
def I4(p1:Int):Option Int:=
 some 1
theorem T3{p1 r:Int}(h:I4 p1=some r): zC K w0 19 [.pointer none,vI p1] [] H (fun u M=>u=.tuple #[.pointer none,vI r]∧M=[]):=by
 unfold I4 at h
 refine WN.enter Tryz.func19 rfl rfl ?_
 refine Y (U E (U E (V (AH (AN (Y (J E (Dr E n6 E E (U E (V (PK E (Y (U E (U E (V (AK (BI (Aa ?_))))))))))))))))))
 obtain rfl:=zI h
 exact Ac [] 0 E E E
def Ci(p0:I9)(p0_1:BF)(p0_2:Am)(p0_3:Ai):Option Bool:=
 (E8 p0_1 p0_2 p0_3).bind fun y1=>
 ret ((decide (0<y1.old))||(decide (y1.gen<p0.gen))) fun x1=>
 some x1
theorem HL{Az BG EE C7 CO Cc Cd:Nat}{CS BX Cg B1 Eb Ce:Value}{p0:I9}{p0_1:BF}{p0_2:Am}{p0_3:Ai}{r:Bool}(h:Ci p0 p0_1 p0_2 p0_3=some r): zC K w0 20 [vP Az 0] [own Az (.cells #[vP BG 0,vI p0.pace,AB p0.gen] 109),sO BG CS BX Cg CO EE B1 p0_1,AD 43 4 CS AV p0_1.rows,AD 148 3 BX AS p0_1.pages,Cb Cg AB AB p0_1.gens,AD 55 2 B1 AU p0_1.ring,vO EE CO Eb C7 p0_2,AD 55 2 Eb AU p0_2.ring,AY C7 AB vB p0_2.taken,dO CO Ce Cc Cd p0_3,AD 9 1 Ce eS p0_3.blocks,AY Cc AB vS p0_3.pend,AY Cd AB vB p0_3.bad] H (fun u M=>u=vB r∧M=[own Az (.cells #[vP BG 0,vI p0.pace,AB p0.gen] 109),sO BG CS BX Cg CO EE B1 p0_1,AD 43 4 CS AV p0_1.rows,AD 148 3 BX AS p0_1.pages,Cb Cg AB AB p0_1.gens,AD 55 2 B1 AU p0_1.ring,vO EE CO Eb C7 p0_2,AD 55 2 Eb AU p0_2.ring,AY C7 AB vB p0_2.taken,dO CO Ce Cc Cd p0_3,AD 9 1 Ce eS p0_3.blocks,AY Cc AB vS p0_3.pend,AY Cd AB vB p0_3.bad]):=by
 unfold Ci at h
 refine WN.enter Tryz.func20 rfl rfl ?_
 refine Y (U E (V (AH (Y (J E (Dr E ZY E E (V (C1 E (AI (AJ (Y ?_)))))))))))
 refine AF h fun y1 hy1 h=>?_
 refine J E (AT E E (AE E Uu (AG 0 VG E (SL.pick [1,2,3,4,5,6,7,8,9,10,11,12,0] 13 (AQ 12 kj (Lt hy1) E ?_)))))
 refine Au E sn zU fun b1=>?_
 refine A3 0 E E E E wU E E E zT (V (AH ?_))
 obtain⟨x1,ex1,h⟩:=Bz h
 refine Ax Cz [0,13] (Pl.of (G4 0 13)) zK (AE E vd (AG 0 EF E (Z E Cj (J E ?_))))
 refine Dw (c:=decide (y1.gen<p0.gen)) 14 8 22 E (fun hb k=>?_) (fun hb k=>?_) ?_
 refine AC E (AC E (AC E (AC E (AC E (AC E (AC E (Ag E E E ?_)))))))
 exact k.mono tL
 refine J E (AT E E (AE E jO (AG 1 A4 E (AE E vc (AG 0 A4 E (Z E ST (Ag E E E ?_)))))))
 exact k.mono tL
 refine Ay (u:=vB x1) E E (congrArg vB ex1) ?_
 refine V (AK ?_)
 obtain rfl:=zI h
 exact Ac [13,1,2,3,4,5,6,7,8,9,10,11,12] 14 E E E
def LR:Option Bool:=
 some false
theorem UJ{r:Bool}(h:LR=some r): zC K w0 20 [.pointer none] [] H (fun u M=>u=vB r∧M=[]):=by
 unfold LR at h
 refine WN.enter Tryz.func20 rfl rfl ?_
 refine Y (U E (V (AH (Y (J E (Dr E ZY E E (V (PK E (Y (U E (V (AK (Aa ?_)))))))))))))
 obtain rfl:=zI h
 exact Ac [] 0 E E E
def HT(y2:Int×BF×Am)(o1:I9):Option (Int×I9×BF×Am):=
 some (y2.1,o1,y2.2.1,y2.2.2)
def HD(p0:I9)(p0_1:BF)(p0_2:Am)(p0_3:Ai)(p1:BD):Option (Int×I9×BF×Am):=
 (E8 p0_1 p0_2 p0_3).bind fun y1=>
 ret (decide (p1.gen≤y1.gen)) fun x1=>
 cond x1
 (
  some (2,p0,p0_1,p0_2))
 (
  (Ge p0_1 p0_2 p0_3 p1).bind fun y2=>
  cond (decide (y2.1=0))
  (
   HT y2 ({ pace:=p0.pace,gen:=p1.gen }:I9))
  (
   HT y2 p0))
theorem Ul{Az BG EE C7 CO Cc Cd:Nat}{CS BX Cg B1 Eb Ce:Value}{p0:I9}{p0_1:BF}{p0_2:Am}{p0_3:Ai}{p1:BD}{r:Int×I9×BF×Am}(h:HD p0 p0_1 p0_2 p0_3 p1=some r): zC K w0 23 [vP Az 0,.agg (AU p1).toArray] [own Az (.cells #[vP BG 0,vI p0.pace,AB p0.gen] 109),sO BG CS BX Cg CO EE B1 p0_1,AD 43 4 CS AV p0_1.rows,AD 148 3 BX AS p0_1.pages,Cb Cg AB AB p0_1.gens,AD 55 2 B1 AU p0_1.ring,vO EE CO Eb C7 p0_2,AD 55 2 Eb AU p0_2.ring,AY C7 AB vB p0_2.taken,dO CO Ce Cc Cd p0_3,AD 9 1 Ce eS p0_3.blocks,AY Cc AB vS p0_3.pend,AY Cd AB vB p0_3.bad] H (fun u M=>∃vs0_1_5 vs0_2_1:Value,u=vI r.1∧M=[own Az (.cells #[vP BG 0,vI r.2.1.pace,AB r.2.1.gen] 109),sO BG CS BX Cg CO EE vs0_1_5 r.2.2.1,AD 43 4 CS AV r.2.2.1.rows,AD 148 3 BX AS r.2.2.1.pages,Cb Cg AB AB r.2.2.1.gens,AD 55 2 vs0_1_5 AU r.2.2.1.ring,vO EE CO vs0_2_1 C7 r.2.2.2,AD 55 2 vs0_2_1 AU r.2.2.2.ring,AY C7 AB vB r.2.2.2.taken,dO CO Ce Cc Cd p0_3,AD 9 1 Ce eS p0_3.blocks,AY Cc AB vS p0_3.pend,AY Cd AB vB p0_3.bad]):=by
 unfold HD at h
 refine WN.enter Tryz.func23 rfl rfl ?_
 refine Y ?_
 refine Bg E E zU fun b1=>?_
 refine U E (V (AH (AN (Y (J E (Dr E ZY E E (U E (V (C1 E (AH ?_))))))))))
 refine AF h fun y1 hy1 h=>?_
 obtain⟨x1,ex1,h⟩:=Bz h
 refine Ax Cz [0,1] (Bs [(true,0),(true,1),(true,2),(true,3),(true,4),(true,5),(false,6),(false,7)] (.last 8 (Pl.of [(false,9)]))) zK (AE E Gy (AG 0 A4 E (J E (AT E E (AE E Uu (AG 1 VG E (SL.pick [2,3,4,5,6,7,8,9,10,11,12,13,0,1] 14 ?_)))))))
 refine BS 12 kj (Lt hy1) E ⟨⟨12,E⟩,⟨13,E⟩,zT⟩ (RX E (show WF Tryz.prog 45 4=some 4 by kernel_rfl) E E (BU (Z E N3 ?_)))
 refine Ay (u:=vB x1) E E (congrArg vB ex1) ?_
 refine V ?_
 refine AL h E (fun hc2 h=>?_) fun hc2 h=>?_
 refine Y (U E (V (AK (BI (Aa ?_)))))
 obtain rfl:=zI h
 exact BH [13,0,1,2,3,4,5,6,7,8,9,10,11] 14 (Cx E E) E E ⟨B1,Eb,E,E⟩
 refine AI (Av (AJ (AH ?_)))
 refine AF h fun y2 hy2 h=>?_
 refine Ax Cz [12,13] (Bs (G4 0 5) (.last 5 (Pl.of [(false,6)]))) zK (J E (AT E E (AE E Uu (AG 1 VG E (Aw [AB p1.gen,vS p1.secret] E Mw E E (Ap 0 E) (BU (BY 12 xC ((UF hy2 :)) E ?_)))))))
 rintro _ _ ⟨v1,v2,rfl,rfl⟩
 refine U E (V ?_)
 refine A8 (α:=I9) (fun x=>HT y2 x=some r) (fun x=>[(0,vP Az 0),(5,vI y2.1)]) (fun x=>own Az (.cells #[vP BG 0,vI x.pace,AB x.gen] 109)::sO BG CS BX Cg CO EE v1 y2.2.1::AD 43 4 CS AV y2.2.1.rows::AD 148 3 BX AS y2.2.1.pages::Cb Cg AB AB y2.2.1.gens::dO CO Ce Cc Cd p0_3::AD 9 1 Ce eS p0_3.blocks::AY Cc AB vS p0_3.pend::AY Cd AB vB p0_3.bad::vO EE CO v2 C7 y2.2.2::AD 55 2 v2 AU y2.2.2.ring::AY C7 AB vB y2.2.2.taken::AD 55 2 v1 AU y2.2.1.ring::H) ?_ (fun o1 D h=>?_)
 refine Y (J E (Z E Ba (V ?_)))
 refine AL h E (fun hc3 h=>?_) fun hc3 h=>?_
 refine AM (J E (AE E Gy (AG 12 A4 E (AT E E (AE E jO (A3 13 E E E E Bx E E E zT (AZ ?_)))))))
 exact Aq ({ pace:=p0.pace,gen:=p1.gen }:I9) h tL (BM [13,0,1,2,3,8,9,10,11,5,6,7,4] 14 E E E)
 refine AI ?_
 exact Aq p0 h tL (BM [13,0,1,2,3,8,9,10,11,5,6,7,4] 14 E E E)
 unfold HT at h
 try dsimp only
 refine Y (J E (U E (V (AK ?_))))
 obtain rfl:=zI h
 exact BH [0,1,2,3,4,12,9,10,11,5,6,7,8] 13 (Cx E E) E E ⟨v1,v2,E,E⟩
def El(n:Nat)(T:List UInt32)(p0:I9)(p0_1:BF)(p0_2:Am)(p0_3:Ai):Option (Bool×Int×BF×Am×Ai):=
 (F1 n T p0_1 p0_2 p0_3 p0.pace).bind fun y1=>
 cond (!decide (y1.2.1=0))
 (
  some (true,y1.2.1,y1.2.2.1,y1.2.2.2.1,y1.2.2.2.2))
 (
  (Ci p0 y1.2.2.1 y1.2.2.2.1 y1.2.2.2.2).bind fun y2=>
  some (y2,0,y1.2.2.1,y1.2.2.2.1,y1.2.2.2.2))
theorem Vq{n Az BG EE C7 CO Cc Cd:Nat}{T:List UInt32}{CS BX Cg B1 Eb Ce:Value}{p0:I9}{p0_1:BF}{p0_2:Am}{p0_3:Ai}{r:Bool×Int×BF×Am×Ai}(h:El n T p0 p0_1 p0_2 p0_3=some r)(hS:Gk K w0 T):zC K w0 21 [vP Az 0] [own Az (.cells #[vP BG 0,vI p0.pace,AB p0.gen] 109),sO BG CS BX Cg CO EE B1 p0_1,AD 43 4 CS AV p0_1.rows,AD 148 3 BX AS p0_1.pages,Cb Cg AB AB p0_1.gens,AD 55 2 B1 AU p0_1.ring,vO EE CO Eb C7 p0_2,AD 55 2 Eb AU p0_2.ring,AY C7 AB vB p0_2.taken,dO CO Ce Cc Cd p0_3,AD 9 1 Ce eS p0_3.blocks,AY Cc AB vS p0_3.pend,AY Cd AB vB p0_3.bad] H (fun u M=>∃vs0_1_1 vs0_1_2 vs0_2_1:Value,u=.tuple #[vB r.1,vI r.2.1]∧M=[own Az (.cells #[vP BG 0,vI p0.pace,AB p0.gen] 109),sO BG CS vs0_1_1 vs0_1_2 CO EE B1 r.2.2.1,AD 43 4 CS AV r.2.2.1.rows,AD 148 3 vs0_1_1 AS r.2.2.1.pages,Cb vs0_1_2 AB AB r.2.2.1.gens,AD 55 2 B1 AU r.2.2.1.ring,vO EE CO vs0_2_1 C7 r.2.2.2.1,AD 55 2 vs0_2_1 AU r.2.2.2.1.ring,AY C7 AB vB r.2.2.2.1.taken,dO CO Ce Cc Cd r.2.2.2.2,AD 9 1 Ce eS r.2.2.2.2.blocks,AY Cc AB vS r.2.2.2.2.pend,AY Cd AB vB r.2.2.2.2.bad]):=by
 unfold El at h
 refine WN.enter Tryz.func21 rfl rfl ?_
 refine Y (U E (U E (V (AH (Y (J E (Dr E ZY E E (V (C1 E (AI (AJ (AH (AH ?_)))))))))))))
 refine AF h fun y1 hy1 h=>?_
 refine Ax Cz [0] (Bs [(true,0),(true,1),(true,2),(true,3),(true,4),(true,5),(true,6),(true,7),(false,8),(false,9),(true,10),(true,11),(false,12)] (.last 13 .nil)) zK (J E (AT E E (AE E Uu (AG 0 VG E (J E (AT E E (AE E rE ?_)))))))
 refine AG 0 EF E (SL.pick [1,2,3,4,5,6,7,8,9,10,11,12,0] 13 ?_)
 refine BT (vs:=[_,_]) (Hin:=[_,_,_,_,_,_,_,_,_,_,_,_]) (Hr:=_::_) E E ⟨E,E,zT⟩ xA E E (Uj hy1 hS) ?_
 rintro _ _ ⟨v1,v2,v3,rfl,rfl⟩
 refine⟨⟨⟨12,rfl⟩,trivial⟩,?_⟩
 refine J E (Ah E E E (Ah E E E (U E (BU (U E (V (Y (J E (Z E BQ (V ?_))))))))))
 refine AL h E (fun hc2 h=>?_) fun hc2 h=>?_
 refine Y (J E (U E (U E (V (AK (Aa ?_))))))
 obtain rfl:=zI h
 exact BH [12,0,1,2,3,4,5,6,7,8,9,10,11] 13 (C9 E E E) E E ⟨v1,v2,v3,E,E⟩
 refine AI (AJ (Y ?_))
 refine AF h fun y2 hy2 h=>?_
 refine J E (SL.pick [12,0,1,2,3,4,5,6,7,8,9,10,11] 13 (AQ 13 Wc (HL hy2) E (U E (U E (V (AK ?_))))))
 obtain rfl:=zI h
 exact BH [0,1,2,3,4,5,6,7,8,9,10,11,12] 13 (C9 E E E) E E ⟨v1,v2,v3,E,E⟩
def Ig(p0:I9)(p0_1:BF)(p0_2:Am)(p0_3:Ai)(p1:UInt32):Option (Int×BF×Am):=
 (Ci p0 p0_1 p0_2 p0_3).bind fun y1=>
 cond y1
 (
  some (2,p0_1,p0_2))
 (
  (GI p0_1 p0_2 p0_3 p1).bind fun y2=>
  some (y2.1,y2.2.1,y2.2.2))
theorem Wa{Az BG EE C7 CO Cc Cd:Nat}{CS BX Cg B1 Eb Ce:Value}{p0:I9}{p0_1:BF}{p0_2:Am}{p0_3:Ai}{p1:UInt32}{r:Int×BF×Am}(h:Ig p0 p0_1 p0_2 p0_3 p1=some r): zC K w0 24 [vP Az 0,AB p1] [own Az (.cells #[vP BG 0,vI p0.pace,AB p0.gen] 109),sO BG CS BX Cg CO EE B1 p0_1,AD 43 4 CS AV p0_1.rows,AD 148 3 BX AS p0_1.pages,Cb Cg AB AB p0_1.gens,AD 55 2 B1 AU p0_1.ring,vO EE CO Eb C7 p0_2,AD 55 2 Eb AU p0_2.ring,AY C7 AB vB p0_2.taken,dO CO Ce Cc Cd p0_3,AD 9 1 Ce eS p0_3.blocks,AY Cc AB vS p0_3.pend,AY Cd AB vB p0_3.bad] H (fun u M=>∃vs0_1_5 vs0_2_1:Value,u=vI r.1∧M=[own Az (.cells #[vP BG 0,vI p0.pace,AB p0.gen] 109),sO BG CS BX Cg CO EE vs0_1_5 r.2.1,AD 43 4 CS AV r.2.1.rows,AD 148 3 BX AS r.2.1.pages,Cb Cg AB AB r.2.1.gens,AD 55 2 vs0_1_5 AU r.2.1.ring,vO EE CO vs0_2_1 C7 r.2.2,AD 55 2 vs0_2_1 AU r.2.2.ring,AY C7 AB vB r.2.2.taken,dO CO Ce Cc Cd p0_3,AD 9 1 Ce eS p0_3.blocks,AY Cc AB vS p0_3.pend,AY Cd AB vB p0_3.bad]):=by
 unfold Ig at h
 refine WN.enter Tryz.func24 rfl rfl ?_
 refine Y (U E (V (AH (AN (Y (J E (Dr E ZY E E (U E (V (C1 E (Y ?_)))))))))))
 refine AF h fun y1 hy1 h=>?_
 refine J E (AQ 13 Wc (HL hy1) E (U E (V ?_)))
 refine AL h E (fun hc2 h=>?_) fun hc2 h=>?_
 refine Y (U E (V (AK (BI (Aa ?_)))))
 obtain rfl:=zI h
 exact BH [0,1,2,3,4,5,6,7,8,9,10,11,12] 13 (Cx E E) E E ⟨B1,Eb,E,E⟩
 refine AI (Av (AJ (Y ?_)))
 refine AF h fun y2 hy2 h=>?_
 refine J E (AT E E (AE E Uu (AG 0 VG E (J E (SL.pick [1,2,3,4,5,6,7,8,9,10,11,12,0] 13 (BY 12 xD (TG hy2) E ?_))))))
 rintro _ _ ⟨v1,v2,rfl,rfl⟩
 refine U E (V (AK ?_))
 obtain rfl:=zI h
 exact BH [12,0,1,2,3,4,5,6,7,8,9,10,11] 13 (Cx E E) E E ⟨v1,v2,E,E⟩
end

section
variable {K:Nat→Prop}{w0:World}{H:List AX}
structure kQ where
 k:Nat
 vp:Value
 vg:Value
 vr:Value
 o:BF
 v:Am
 d:Ai
abbrev lw(b bs bv bd mt mp mb:Nat)(rw rg bl:Value)(t:I9)(s:kQ):List AX:=[own b (.cells #[vP bs 0,vI t.pace,AB t.gen] 109),sO bs rw s.vp s.vg bd bv rg s.o,AD 43 4 rw AV s.o.rows,AD 148 3 s.vp AS s.o.pages,Cb s.vg AB AB s.o.gens,AD 55 2 rg AU s.o.ring,vO bv bd s.vr mt s.v,AD 55 2 s.vr AU s.v.ring,AY mt AB vB s.v.taken,dO bd bl mp mb s.d,AD 9 1 bl eS s.d.blocks,AY mp AB vS s.d.pend,AY mb AB vB s.d.bad]
def zo(n:Nat)(T:List UInt32)(t:I9)(s:kQ)(e:Int)(s':kQ):Prop:=s.k=s'.k+1∧Ci t s.o s.v s.d=some true∧∃b,El n T t s.o s.v s.d=some (b,e,s'.o,s'.v,s'.d)
def zm(t:I9)(s:kQ):Prop:=Ci t s.o s.v s.d=some false
def zn(n:Nat)(T:List UInt32)(t:I9)(s:kQ):Prop:=0<s.k∧∃b,Ci t s.o s.v s.d=some b∧(b=true→∃y,El n T t s.o s.v s.d=some y)
def q8(e:Int):List Value:=[vI e]
theorem pD{n b bs bv bd mt mp mb bx:Nat}{T:List UInt32}{rw rg bl:Value}{t:I9}(hS:Gk K w0 T)(s0:kQ):
  Zs Tryz.prog K w0 68 [vP bx 0] [own bx (.cells #[vP b 0] 50)] q8 (lw b bs bv bd mt mp mb rw rg bl t) (zo n T t) (zm t) (zn n T t) s0:=by
 intro lp J9 X Tt rc G0 hy hdef h0
 refine WN.enter Tryz.func68 rfl rfl ?_
 refine AN ?_
 refine SX.mono (BK (α:=kQ×List AX) (fun x=>J9 x.1 x.2) (fun x=>[(0,vY lp),(1,vP bx 0)])
  (fun x=>own bx (.cells #[vP b 0] 50)::(lw b bs bv bd mt mp mb rw rg bl t x.1++x.2++Tt)) (fun x=>x.1.k) (fun x D hp=>?_) (s0,rc::G0) h0) tL
 obtain⟨s,G⟩:=x
 have hJ:J9 s G:=hp
 clear hp
 dsimp only
 obtain⟨hk,b_,hon,hst⟩:=hdef s G hJ
 refine AH (Y (AG 0 wT E (SL.pick [1,2,3,4,5,6,7,8,9,10,11,12,13,0] 14 (AQ 13 Wc (HL hon) E (V ?_)))))
 refine A7 E (fun hc1=>?_) (fun hc1=>?_)
 obtain rfl:=hc1
 obtain⟨⟨b1,e,o',v',d'⟩,hy1⟩:=hst rfl
 refine AI (AJ (AN (Y (AG 13 wT E (BY 13 wu (Vq hy1 hS) E ?_)))))
 rintro _ _ ⟨v1,v2,v3,rfl,rfl⟩
 refine J E (Ah E E E (Ah E E E (U E (U E (V (SX.pick [13,0,1,2,3,4,5,6,7,8,9,10,11,12] 14 (Y (J E (J E ?_)))))))))
 refine I8 (M2:=[_]) (G:=lw b bs bv bd mt mp mb rw rg bl t ⟨s.k-1,v1,v2,v3,o',v',d'⟩++G) (T:=Tt) (vs:=[_]) (ok:=fun G1=>∃G2,G1=lw b bs bv bd mt mp mb rw rg bl t ⟨s.k-1,v1,v2,v3,o',v',d'⟩++G2∧J9 ⟨s.k-1,v1,v2,v3,o',v',d'⟩ G2) (no:=X) E E ⟨E,zT⟩ E ?_ (fun bb G1 hG1=>⟨zT,?_⟩)
 intro M
 exact hy s e ⟨s.k-1,v1,v2,v3,o',v',d'⟩ ⟨by show s.k=s.k-1+1;omega,hon,b1,hy1⟩ G hJ M
 refine CF E E (V ?_)
 refine A7 E (fun hc3=>?_) (fun hc3=>?_)
 obtain rfl:bb=false:=by simpa using hc3
 refine AK (BI (EX (BI ?_)))
 exact An (Ed E) (Ao (M:=G1) (.inr hG1) fun _ h=>h.skip [_])
 obtain rfl:bb=true:=by simpa using hc3
 obtain⟨G2,rfl,hJ2⟩:=hG1
 refine AI (Av ?_)
 exact A1 (⟨s.k-1,v1,v2,v3,o',v',d'⟩,G2) hJ2 (by dsimp only;omega) tL (fun _ hw=>hw)
 obtain rfl:=hc1
 refine A5 (BC (Bb (BB ?_)))
 exact Da (Ed E) (Ao (M:=lw b bs bv bd mt mp mb rw rg bl t s++G) (.inl ⟨s,G,hon,E,hJ⟩) fun _ hw=>Bj.pick (H:=[_,_,_,_,_,_,_,_,_,_,_,_,_,_]) hw [0,1,2,3,4,5,6,7,8,9,10,11,12] 14 E)
theorem pV{b:Nat}:zC K w0 45 [vP b 0] [] H (fun u M=>∃bx:Nat,u=.func (.func 68) #[] #[vP bx 0]∧M=[own bx (.cells #[vP b 0] 50)]):=by
 refine WN.enter Tryz.func45 rfl rfl ?_
 refine Y ?_
 refine Bg E E zU fun b0=>?_
 refine U E (V (Y ?_))
 refine HK (fv:=#[]) (cv:=#[_]) E E E ?_
 refine U E (V (AK ?_))
 exact BH [0] 1 (Cx E E) E E ⟨_,E,E⟩
def XJ(n:Nat)(T:List UInt32)(t:I9)(most:Int):Nat→Int→Int→BF→Am→Ai→Option (Int×Int×BF×Am×Ai)
 | 0,_,_,_,_,_=>none
 | m+1,k,e,o,v,d=>(Ci t o v d).bind fun b=>cond b ((El n T t o v d).bind fun y=>cond ((!decide (y.2.1=0))||decide (wI (k+1)=most)) (some (wI (k+1),y.2.1,y.2.2.1,y.2.2.2.1,y.2.2.2.2)) (XJ n T t most m (wI (k+1)) y.2.1 y.2.2.1 y.2.2.2.1 y.2.2.2.2)) (some (k,e,o,v,d))
def mW(n:Nat)(T:List UInt32)(t:I9)(o:BF)(v:Am)(d:Ai)(most:Int):Option (Int×Int×BF×Am×Ai):=cond (decide (most<0)) (some (0,2,o,v,d)) (cond (decide (most=0)) (some (0,0,o,v,d)) (XJ n T t most n 0 0 o v d))
end

section
variable {K:Nat→Prop}{w0:World}{H:List AX}
theorem WZ{n Az BG EE C7 CO Cc Cd:Nat}{T:List UInt32}{CS BX Cg B1 Eb Ce:Value}{p0:I9}{p0_1:BF}{p0_2:Am}{p0_3:Ai}{p1:Int}{r:Int×Int×BF×Am×Ai}(h:mW n T p0 p0_1 p0_2 p0_3 p1=some r)(hS:Gk K w0 T):zC K w0 22 [vP Az 0,vI p1] [own Az (.cells #[vP BG 0,vI p0.pace,AB p0.gen] 109),sO BG CS BX Cg CO EE B1 p0_1,AD 43 4 CS AV p0_1.rows,AD 148 3 BX AS p0_1.pages,Cb Cg AB AB p0_1.gens,AD 55 2 B1 AU p0_1.ring,vO EE CO Eb C7 p0_2,AD 55 2 Eb AU p0_2.ring,AY C7 AB vB p0_2.taken,dO CO Ce Cc Cd p0_3,AD 9 1 Ce eS p0_3.blocks,AY Cc AB vS p0_3.pend,AY Cd AB vB p0_3.bad] H (fun u M=>∃vs0_1_1 vs0_1_2 vs0_2_1:Value,u=.tuple #[vI r.1,vI r.2.1]∧M=[own Az (.cells #[vP BG 0,vI p0.pace,AB p0.gen] 109),sO BG CS vs0_1_1 vs0_1_2 CO EE B1 r.2.2.1,AD 43 4 CS AV r.2.2.1.rows,AD 148 3 vs0_1_1 AS r.2.2.1.pages,Cb vs0_1_2 AB AB r.2.2.1.gens,AD 55 2 B1 AU r.2.2.1.ring,vO EE CO vs0_2_1 C7 r.2.2.2.1,AD 55 2 vs0_2_1 AU r.2.2.2.1.ring,AY C7 AB vB r.2.2.2.1.taken,dO CO Ce Cc Cd r.2.2.2.2,AD 9 1 Ce eS r.2.2.2.2.blocks,AY Cc AB vS r.2.2.2.2.pend,AY Cd AB vB r.2.2.2.2.bad]):=by
 unfold mW at h
 refine WN.enter Tryz.func22 rfl rfl ?_
 refine Y ?_
 refine Bg E E zU fun b1=>?_
 refine U E (U E (V (LA (AH (AN (Y (J E (Dr E ZY E E (U E (V (C1 E (Y (AG 0 EF E (Z E A9 ?_))))))))))))))
 refine U E (V ?_)
 refine AL h E (fun hc1 h=>?_) fun hc1 h=>?_
 refine Y (U E (U E (V (AK (BI (Aa (ES ?_)))))))
 obtain rfl:=zI h
 exact BH [1,2,3,4,5,6,7,8,9,10,11,12,13] 14 (C9 E E E) E E ⟨_,_,_,E,E⟩
 refine Y (AG 0 EF E (Z E Ba (U E (V ?_))))
 refine AL h E (fun hc2 h=>?_) fun hc2 h=>?_
 refine Y (U E (U E (V (AK (BI (Aa (ES ?_)))))))
 obtain rfl:=zI h
 exact BH [1,2,3,4,5,6,7,8,9,10,11,12,13] 14 (C9 E E E) E E ⟨_,_,_,E,E⟩
 refine AI (Av (AJ (Y ?_)))
 refine Au E pY zU fun b2=>?_
 refine A3 0 E E E E PB E E E zT (V (Y ?_))
 refine Au E wY zU fun b3=>?_
 refine A3 0 E E E E cX E E E zT (V (AH (K9 (AJ (AH (Y (J E (BY 0 xB pV E ?_))))))))
 rintro _ _ ⟨b4,rfl,rfl⟩
 refine V (AN (SX.pick [0,4,5,6,7,8,9,10,11,12,13,14,15,16,1,2,3] 17 ?_))
 refine S7 (enc:=q8) (C:=lw Az BG EE CO C7 Cc Cd CS B1 Ce p0) ⟨n,BX,Cg,Eb,p0_1,p0_2,p0_3⟩ (G0:=own b3 (.cells #[vI 0] 30)::own b2 (.cells #[vI 0] 3)::own b1 (.cells #[vI p1] 3)::H)
  (fun s G=>∃k e:Int,XJ n T p0 p1 s.k k e s.o s.v s.d=some r∧G=own b3 (.cells #[vI e] 30)::own b2 (.cells #[vI k] 3)::own b1 (.cells #[vI p1] 3)::H)
  (fun c G=>c=.exit 1∧∃v1 v2 v3:Value,G=lw Az BG EE CO C7 Cc Cd CS B1 Ce p0 ⟨0,v1,v2,v3,r.2.2.1,r.2.2.2.1,r.2.2.2.2⟩++(own b3 (.cells #[vI r.2.1] 30)::own b2 (.cells #[vI r.1] 3)::own b1 (.cells #[vI p1] 3)::H))
  rfl xL rfl zV (pD (n:=n) hS _) rfl ⟨0,0,h,rfl⟩ ?_ (fun s x s1 G hst hJ lr lp Rest=>?_) (fun s G D hds hJ=>?_) (fun c G D hX=>?_)
 rintro⟨k,v1,v2,v3,o,v,d⟩ G ⟨k1,e,h,-⟩
 rcases k with _ | k
 cases h
 unfold XJ at h
 refine AF h fun b hb h=>?_
 refine⟨Nat.succ_pos _,b,hb,?_⟩
 rintro rfl
 obtain⟨y,hy,-⟩:=bnd (show(El n T p0 o v d).bind _=some r from h)
 exact⟨y,hy⟩
 obtain⟨k,e,h,rfl⟩:=hJ
 obtain⟨hk,hon,b,hy⟩:=hst
 rw[hk,XJ,hon,AA,CC,hy,AA]at h
 dsimp only at h
 refine AM (U E (AZ (Jm (AN (Y (AG 14 EF E (Z E Bc (A3 14 E E E E PB E E E zT (V (Y (J E (A3 13 E E E E cX E E E zT (V (Y (J E (Z E BQ ?_))))))))))))))))
 refine J E ?_
 refine Dw (c:=decide (wI (k+1)=p1)) 26 4 30 E (fun hb k=>?_) (fun hb k=>?_) ?_
 refine AC E (AC E (AC E (Ag E E E ?_)))
 exact k.mono tL
 refine AG 14 EF E (AG 15 EF E (Z E Ba (Ag E E E ?_)))
 exact k.mono tL
 refine V ?_
 refine AL h E (fun hc3 h=>?_) fun hc3 h=>?_
 obtain rfl:=zI h
 refine A5 (Hc ?_)
 exact NB ⟨E,_,_,_,E⟩ (fun _ hw=>hw)
 refine AI (Av ?_)
 exact IK ⟨_,E,_,_,h,E⟩ (fun _ hw=>hw)
 obtain⟨k,e,h,rfl⟩:=hJ
 obtain⟨kk,v1,v2,v3,o,v,d⟩:=s
 have hds':Ci p0 o v d=some false:=hds
 rcases kk with _ | kk
 cases h
 rw[XJ,hds',AA,BZ]at h
 obtain rfl:=zI h
 refine Av (AJ (AH (Ax Cz [14,13] (Pl.of (G4 0 4)) zK (AG 0 EF E (AG 1 Sw E (U E (U E (V (AK (ES ?_))))))))))
 exact BH [0,1,2,3,4,5,6,7,8,9,10,11,12] 16 (C9 E E E) E E ⟨_,_,_,E,E⟩
 obtain⟨rfl,v1,v2,v3,rfl⟩:=hX
 refine A5 (BB (AJ (AH (Ax Cz [14,13] (Pl.of (G4 0 4)) zK (AG 0 EF E (AG 1 Sw E (U E (U E (V (AK (ES ?_)))))))))))
 exact BH [0,1,2,3,4,5,6,7,8,9,10,11,12] 16 (C9 E E E) E E ⟨_,_,_,E,E⟩
end

section
variable {K:Nat→Prop}{w0:World}{H:List AX}
def OY(n:Nat)(p0:UInt32):Option BD:=
 (Gp n 1).bind fun y1=>
 (BE y1 0).bind fun x1=>
 some (⟨p0,x1.secret⟩:BD)
theorem fQ{n:Nat}{p0:UInt32}{r:BD}(h:OY n p0=some r): zC K w0 41 [AB p0] [] H (fun u M=>u=.agg (AU r).toArray∧M=[]):=by
 unfold OY at h
 refine WN.enter Tryz.func41 rfl rfl ?_
 refine Y ?_
 refine Au E KL zU fun b1=>?_
 refine V (Y ?_)
 refine AF h fun y1 hy1 h=>?_
 refine AF h fun x1 hx1 h=>?_
 refine J E ?_
 refine BT (vs:=[_]) (Hin:=[]) (Hr:=_::_) E E ⟨E,zT⟩ km E E (Rv hy1) ?_
 rintro v1 _ ⟨_,rfl,rfl⟩
 refine⟨trivial,?_⟩
 refine B6 0 hx1 E FW Fq E E E fun g1 m1 cp1 hv1=>?_
 refine AE E TR ?_
 refine Bm E HJ E (Bq (sz:=2) (enc:=AU) 0 1 zV E hv1 hx1 E) ?_
 refine B5 [_,_] E eJ eI KL ⟨E,E,zT⟩ E (A3 1 E E E E Fq E E E zT (V (AK ?_)))
 obtain rfl:=zI h
 exact An (GM E (B2 1 (AU (⟨p0,x1.secret⟩:BD)) Mw E E E E)) (Ao (M:=[]) ⟨E,E⟩ fun _ hw=>Bj.pick (H:=[_,_]) hw [] 2 E)
def Ma(p0:List Iv):Option (List Iv):=
 (Iu p0 0 (min (p0.length:Int) 5)).bind fun l1=>
 some l1
theorem XQ{Cn:Value}{p0:List Iv}{r:List Iv}(h:Ma p0=some r)(hs0_:By K w0 Hp 5 Cn p0):zC K w0 42 [Cn] [] H (fun u M=>∃v0:Value,u=v0∧By K w0 Hp 5 v0 r∧M=[]):=by
 unfold Ma at h
 refine WN.enter Tryz.func42 rfl rfl ?_
 refine Y (CE 105 5 Hp (U E (V (Y ?_))))
 refine AF h fun l1 hl1 h=>?_
 refine J E (J E (Bt hs0_ E VO E (XC E E E ?_)))
 refine py hl1 hs0_ E VO cV E E fun v1 hs1=>?_
 refine U E (V (AK ?_))
 obtain rfl:=zI h
 exact BH [] 1 (Cx E E) E E ⟨v1,E,hs1,E⟩
def Gq(n:Nat)(T:List UInt32)(p0:List Iv):Option (Option (BF×Am×Ai×C3×BW×A6)×Bool):=
 (LE 60).bind fun y1=>
 (y1.1).bind fun d1=>
 (Mj n 60).bind fun y2=>
 (y2.1).bind fun d2=>
 cond ((!decide (y1.2=0))||(!decide (y2.2=0)))
 (
  some (none,false))
 (
  (Gp n 1).bind fun y3=>
  (I3 n T d1 y3).bind fun y4=>
  (y4.1).bind fun d3=>
  (Gp n 1).bind fun y5=>
  (Ky n T d2 y5).bind fun y6=>
  (y6.1).bind fun d4=>
  cond ((!decide (y4.2.1=0))||(!decide (y6.2.1=0)))
  (
   some (none,false))
  (
   (Ma p0).bind fun y7=>
   (EK n T d3.1 d3.2 y4.2.2 y7).bind fun y8=>
   (Ma p0).bind fun y9=>
   (EJ n T d4.1 d4.2 y6.2.2 y9).bind fun y10=>
   ret (decide (y8.2.1=y10.2.1)) fun x1=>
   some (some (y8.2.2.1,y8.2.2.2.1,y8.2.2.2.2,y10.2.2.1,y10.2.2.2.1,y10.2.2.2.2),x1)))
theorem Rw{n:Nat}{T:List UInt32}{Cn:Value}{p0:List Iv}{r:Option (BF×Am×Ai×C3×BW×A6)×Bool}(h:Gq n T p0=some r)(hS:Gk K w0 T)(hT:Jl K w0 2 64 T)(hs0_:By K w0 Hp 5 Cn p0):zC K w0 18 [Cn] [] H (fun u M=>(r.1=none∧u=.tuple #[.pointer none,.pointer none,.pointer none,vB r.2]∧M=[])∨(∃(d:BF×Am×Ai×C3×BW×A6) (bn0:Nat) (vn0x0:Value) (vn0x1:Value) (vn0x2:Value) (vn0x5:Value) (bn1:Nat) (vn1x1:Value) (mn1x5:Nat) (bn2:Nat) (vn2x4:Value) (mn2x5:Nat) (mn2x6:Nat) (bn3:Nat) (vn3x1:Value) (vn3x2:Value) (vn3x3:Value) (bn4:Nat) (vn4x1:Value) (vn4x5:Value) (bn5:Nat) (vn5x0:Value) (vn5x1:Value) (vn5x2:Value),r.1=some d∧u=.tuple #[vP bn0 0,vP bn2 0,vP bn3 0,vB r.2]∧M=[sO bn0 vn0x0 vn0x1 vn0x2 bn2 bn1 vn0x5 d.1,AD 43 4 vn0x0 AV d.1.rows,AD 148 3 vn0x1 AS d.1.pages,Cb vn0x2 AB AB d.1.gens,AD 55 2 vn0x5 AU d.1.ring,vO bn1 bn2 vn1x1 mn1x5 d.2.1,AD 55 2 vn1x1 AU d.2.1.ring,AY mn1x5 AB vB d.2.1.taken,dO bn2 vn2x4 mn2x5 mn2x6 d.2.2.1,AD 9 1 vn2x4 eS d.2.2.1.blocks,AY mn2x5 AB vS d.2.2.1.pend,AY mn2x6 AB vB d.2.2.1.bad,own bn3 (.cells #[vP bn4 0,vn3x1,vn3x2,vn3x3,vB d.2.2.2.1.bad] 131),AD 43 4 vn3x1 AV d.2.2.2.1.rows,AD 148 3 vn3x2 AS d.2.2.2.1.had,AD 36 1 vn3x3 BV d.2.2.2.1.gens,wO bn4 bn5 vn4x1 vn4x5 d.2.2.2.2.1,AD 55 2 vn4x1 AU d.2.2.2.2.1.ring,AD 4 1 vn4x5 eB d.2.2.2.2.1.taken,eO bn5 vn5x0 vn5x1 vn5x2 d.2.2.2.2.2,AD 9 1 vn5x0 eS d.2.2.2.2.2.blk,AD 9 1 vn5x1 eS d.2.2.2.2.2.pnd,AD 4 1 vn5x2 eB d.2.2.2.2.2.bads])):=by
 unfold Gq at h
 refine WN.enter Tryz.func18 rfl rfl ?_
 refine Y (U E (U E (U E (U E (V (Y ?_))))))
 refine AF h fun y1 hy1 h=>?_
 refine AF h fun d1 hd1 h=>?_
 refine BT (vs:=[_]) (Hin:=[]) (Hr:=_) E E ⟨E,zT⟩ wy E E (cw hy1) ?_
 rintro _ _ (⟨hn,-,-⟩ | ⟨d_,b1,v1,m1,m2,hn,rfl,rfl⟩)
 rw[hd1]at hn;cases hn
 obtain rfl:d1=d_:=zI (hd1.symm.trans hn)
 refine⟨trivial,?_⟩
 refine J E (Ah E E E (Ah E E E (U E (U E (V (Y ?_))))))
 refine AF h fun y2 hy2 h=>?_
 refine AF h fun d2 hd2 h=>?_
 refine BT (vs:=[_]) (Hin:=[]) (Hr:=_::_::_::_::_) E E ⟨E,zT⟩ wz E E (fU hy2) ?_
 rintro _ _ (⟨hn,-,-⟩ | ⟨d_,b2,v2,v3,v4,hn,rfl,rfl⟩)
 rw[hd2]at hn;cases hn
 obtain rfl:d2=d_:=zI (hd2.symm.trans hn)
 refine⟨trivial,?_⟩
 refine J E (Ah E E E (Ah E E E (U E (U E (V (AH (Y (J E (Z E BQ (J E ?_))))))))))
 refine Dw (c := !decide (y2.2=0)) 28 3 31 E (fun hb k=>?_) (fun hb k=>?_) ?_
 refine AC E (AC E (Ag E E E ?_))
 exact k.mono tL
 refine J E (Z E BQ (Ag E E E ?_))
 exact k.mono tL
 refine V ?_
 refine AL h E (fun hc1 h=>?_) fun hc1 h=>?_
 refine Y (U E (U E (U E (U E (V (AK (Aa ?_)))))))
 obtain rfl:=zI h
 exact An (sC E E E E E) (Ao (M:=[]) (.inl ⟨E,E,E⟩) fun _ hw=>Bj.pick (H:=[_,_,_,_,_,_,_,_]) hw [] 8 E)
 refine AI (AJ (Y ?_))
 refine AF h fun y3 hy3 h=>?_
 refine AF h fun y4 hy4 h=>?_
 refine AF h fun d3 hd3 h=>?_
 refine J E ?_
 refine BT (vs:=[_]) (Hin:=[]) (Hr:=_::_::_::_::_::_::_::_::_) E E ⟨E,zT⟩ km E E (Rv hy3) ?_
 rintro v5 _ ⟨_,rfl,rfl⟩
 refine⟨trivial,?_⟩
 refine SL.pick [0,5,6,7,8,1,2,3,4] 9 ?_
 refine BT (vs:=[_,_]) (Hin:=[_,_,_,_,_]) (Hr:=_::_::_::_::_) E E ⟨E,E,zT⟩ w4 E E (CJ (B:=[_]) (Hin:=[_,_,_,_]) fun K' w1 hk hB=>Zk hy4 (hS.keeps hk) (Bp (e:=55) (v:=v5) zV (hB _ zS))) ?_
 rintro _ _ ⟨_,rfl,(⟨hn,-,-⟩ | ⟨d_,b3,v6,v7,v8,v9,b4,v10,m3,hn,rfl,rfl⟩)⟩
 rw[hd3]at hn;cases hn
 obtain rfl:d3=d_:=zI (hd3.symm.trans hn)
 refine⟨trivial,?_⟩
 refine J E (Ah E E E (Ah E E E (U E (U E (V (Y ?_))))))
 refine AF h fun y5 hy5 h=>?_
 refine AF h fun y6 hy6 h=>?_
 refine AF h fun d4 hd4 h=>?_
 refine J E ?_
 refine BT (vs:=[_]) (Hin:=[]) (Hr:=_::_::_::_::_::_::_::_::_::_::_::_::_::_::_::_::_::_) E E ⟨E,zT⟩ km E E (Rv hy5) ?_
 rintro v11 _ ⟨_,rfl,rfl⟩
 refine⟨trivial,?_⟩
 refine SL.pick [14,15,16,17,0,1,2,3,4,5,6,7,8,9,10,11,12,13] 18 ?_
 refine BT (vs:=[_,_]) (Hin:=[_,_,_,_,_]) (Hr:=_::_::_::_::_::_::_::_::_::_::_::_::_::_) E E ⟨E,E,zT⟩ w5 E E (Zi hy6 hT) ?_
 rintro _ _ (⟨hn,-,-⟩ | ⟨d_,b5,v12,v13,v14,b6,v15,v16,hn,rfl,rfl⟩)
 rw[hd4]at hn;cases hn
 obtain rfl:d4=d_:=zI (hd4.symm.trans hn)
 refine⟨trivial,?_⟩
 refine J E (Ah E E E (Ah E E E (U E (U E (V (AH (Y (J E (Z E BQ (J E ?_))))))))))
 refine Dw (c := !decide (y6.2.1=0)) 46 3 49 E (fun hb k=>?_) (fun hb k=>?_) ?_
 refine AC E (AC E (Ag E E E ?_))
 exact k.mono tL
 refine J E (Z E BQ (Ag E E E ?_))
 exact k.mono tL
 refine V ?_
 refine AL h E (fun hc2 h=>?_) fun hc2 h=>?_
 refine Y (U E (U E (U E (U E (V (AK (Aa ?_)))))))
 obtain rfl:=zI h
 exact An (sC E E E E E) (Ao (M:=[]) (.inl ⟨E,E,E⟩) fun _ hw=>Bj.pick (H:=[_,_,_,_,_,_,_,_,_,_,_,_,_,_,_,_,_,_,_,_,_,_,_,_]) hw [] 24 E)
 refine AI (AJ (Y ?_))
 refine AF h fun y7 hy7 h=>?_
 refine AF h fun y8 hy8 h=>?_
 refine J E (J E ?_)
 refine BT (vs:=[_]) (Hin:=[]) (Hr:=_::_::_::_::_::_::_::_::_::_::_::_::_::_::_::_::_::_::_::_::_::_::_::_::_) E E ⟨E,zT⟩ qa E E (XQ hy7 hs0_) ?_
 rintro v17 _ ⟨_,rfl,hs1,rfl⟩
 refine⟨trivial,?_⟩
 refine SL.pick [12,13,14,15,16,17,18,19,20,21,22,23,0,1,2,3,4,5,6,7,8,9,10,11] 24 (BY 12 w6 (UG hy8 hS hs1) E ?_)
 rintro _ _ ⟨v18,v19,v20,rfl,rfl⟩
 refine J E (Ah E E E (Ah E E E (U E (U E (V (Y ?_))))))
 refine AF h fun y9 hy9 h=>?_
 refine AF h fun y10 hy10 h=>?_
 refine J E (J E ?_)
 refine BT (vs:=[_]) (Hin:=[]) (Hr:=_::_::_::_::_::_::_::_::_::_::_::_::_::_::_::_::_::_::_::_::_::_::_::_::_) E E ⟨E,zT⟩ qa E E (XQ hy9 hs0_) ?_
 rintro v21 _ ⟨_,rfl,hs2,rfl⟩
 refine⟨trivial,?_⟩
 refine SL.pick [12,13,14,15,16,17,18,19,20,21,22,0,1,2,3,4,5,6,7,8,9,10,11] 23 (BY 11 w9 (UD hy10 hT hs2) E ?_)
 rintro _ _ ⟨v22,v23,v24,rfl,rfl⟩
 refine J E (Ah E E E (Ah E E E (U E (U E (V (Y ?_))))))
 obtain⟨x1,ex1,h⟩:=Bz h
 refine J E (J E (J E (J E (J E (Z E Ba (U E (U E ?_)))))))
 refine U E ?_
 refine Ay (u:=vB x1) E E (congrArg vB ex1) ?_
 refine V (AK ?_)
 obtain rfl:=zI h
 exact An (sC E E E E E) (Ao (M:=[_,_,_,_,_,_,_,_,_,_,_,_,_,_,_,_,_,_,_,_,_,_,_]) (.inr ⟨_,b3,v18,v19,v20,v9,b4,v10,m3,b1,v1,m1,m2,b5,v22,v23,v24,b6,v15,v16,b2,v2,v3,v4,E,E,E⟩) fun _ hw=>Bj.pick (H:=[_,_,_,_,_,_,_,_,_,_,_,_,_,_,_,_,_,_,_,_,_,_,_,_]) hw [11,12,13,14,15,16,17,18,19,20,21,22,0,1,2,3,4,5,6,7,8,9,10] 24 E)
def Ju(n:Nat)(T:List UInt32):Option Bool:=
 (Gq n T [(⟨1,0,0,0,[]⟩:Iv)]).bind fun y1=>
 (y1.1).bind fun d1=>
 (KP d1.1 d1.2.1 d1.2.2.1 5).bind fun y2=>
 (y2.1).bind fun d2=>
 (OY n 2).bind fun y3=>
 (HD d2 d1.1 d1.2.1 d1.2.2.1 y3).bind fun y4=>
 (Ci y4.2.1 y4.2.2.1 y4.2.2.2 d1.2.2.1).bind fun y5=>
 (mW n T y4.2.1 y4.2.2.1 y4.2.2.2 d1.2.2.1 9).bind fun y6=>
 (Ig y4.2.1 y6.2.2.1 y6.2.2.2.1 y6.2.2.2.2 1).bind fun y7=>
 (GA ((((((y1.2&&(decide (y2.2=0)))&&(decide (y4.1=0)))&&y5)&&(decide (y6.1=1)))&&(decide (y6.2.1=0)))&&(decide (y7.1=0))) ((Ci y4.2.1 y7.2.1 y7.2.2 y6.2.2.2.2).bind fun y8=>some (!y8))).bind fun y9=>
 (GA y9 ((E8 y7.2.1 y7.2.2 y6.2.2.2.2).bind fun y10=>some (decide (y10.gen=2)))).bind fun y11=>
 some y11
theorem Uc{n:Nat}{T:List UInt32}{r:Bool}(h:Ju n T=some r)(hS:Gk K w0 T)(hT:Jl K w0 2 64 T):zC K w0 17 [] [] H (fun u M=>u=vB r∧M=[]):=by
 unfold Ju at h
 refine WN.enter Tryz.func17 rfl rfl ?_
 refine Y (U E (V (Y ?_)))
 refine AF h fun y1 hy1 h=>?_
 refine AF h fun d1 hd1 h=>?_
 refine B5 [_] E xq xc mI ⟨E,zT⟩ E ?_
 refine CA [_] rfl VO cV mI ⟨rfl,trivial⟩ rfl rfl rfl zW rfl rfl zU fun b1=>?_
 refine B4 Hp 5 ([(⟨1,0,0,0,[]⟩:Iv)]:List Iv) E zV E ?_
 refine BT (vs:=[_]) (Hin:=[_]) (Hr:=_) E E ⟨E,zT⟩ kl E E (CJ (B:=[_]) (Hin:=[]) fun K' w1 hk hB=>Rw hy1 (hS.keeps hk) (hT.keeps hk) (Bp (e:=105) (v:=.slice (some ⟨b1,0,none⟩) 1 1) zV (hB _ zS))) ?_
 rintro _ _ ⟨_,rfl,(⟨hn,-,-⟩ | ⟨d_,b2,v1,v2,v3,v4,b3,v5,m1,b4,v6,m2,m3,b5,v7,v8,v9,b6,v10,v11,b7,v12,v13,v14,hn,rfl,rfl⟩)⟩
 rw[hd1]at hn;cases hn
 obtain rfl:d1=d_:=zI (hd1.symm.trans hn)
 refine⟨trivial,?_⟩
 refine J E (Ah E E E (Ah E E E (Ah E E E (Ah E E E (U E (U E (U E ?_)))))))
 refine U E (V (Y ?_))
 refine AF h fun y2 hy2 h=>?_
 refine AF h fun d2 hd2 h=>?_
 refine J E (SL.pick [1,2,3,4,5,6,7,8,9,10,11,12,0] 13 ?_)
 refine BT (vs:=[_,_]) (Hin:=[_,_,_,_,_,_,_,_,_,_,_,_]) (Hr:=_::_::_::_::_::_::_::_::_::_::_::_::_) E E ⟨E,E,zT⟩ aw E E (Uk hy2) ?_
 rintro _ _ (⟨hn,-,-⟩ | ⟨d_,b8,hn,rfl,rfl⟩)
 rw[hd2]at hn;cases hn
 obtain rfl:d2=d_:=zI (hd2.symm.trans hn)
 refine⟨trivial,?_⟩
 refine J E (Ah E E E (Ah E E E (U E (U E (V (Y ?_))))))
 refine AF h fun y3 hy3 h=>?_
 refine AF h fun y4 hy4 h=>?_
 refine J E (AQ 0 w8 (fQ hy3) E (BY 13 ww ((Ul hy4 :)) E ?_))
 rintro _ _ ⟨v15,v16,rfl,rfl⟩
 refine U E (V (Y ?_))
 refine AF h fun y5 hy5 h=>?_
 refine J E (AQ 13 Wc (HL hy5) E (U E (V (Y ?_))))
 refine AF h fun y6 hy6 h=>?_
 refine J E (BY 13 wv (WZ hy6 hS) E ?_)
 rintro _ _ ⟨v17,v18,v19,rfl,rfl⟩
 refine J E (Ah E E E (Ah E E E (U E (U E (V (Y ?_))))))
 refine AF h fun y7 hy7 h=>?_
 refine J E (BY 13 wx (Wa hy7) E ?_)
 rintro _ _ ⟨v20,v21,rfl,rfl⟩
 refine U E (V (Y ?_))
 refine AF h fun y9 hy9 h=>?_
 refine AF h fun y11 hy11 h=>?_
 refine J E (J E ?_)
 refine CV (c:=decide (y2.2=0)) 38 3 41 E (fun hb k=>?_) (fun hb k=>?_) ?_
 refine J E (Z E Ba (Ag E E E ?_))
 exact k.mono tL
 refine AC E (AC E (Ag E E E ?_))
 exact k.mono tL
 refine J E ?_
 refine CV (c:=decide (y4.1=0)) 42 3 45 E (fun hb k=>?_) (fun hb k=>?_) ?_
 refine J E (Z E Ba (Ag E E E ?_))
 exact k.mono tL
 refine AC E (AC E (Ag E E E ?_))
 exact k.mono tL
 refine J E ?_
 refine CV (c:=y5) 46 2 48 E (fun hb k=>?_) (fun hb k=>?_) ?_
 refine J E (Ag E E E ?_)
 exact k.mono tL
 refine AC E (Ag E E E ?_)
 exact k.mono tL
 refine J E ?_
 refine CV (c:=decide (y6.1=1)) 49 3 52 E (fun hb k=>?_) (fun hb k=>?_) ?_
 refine J E (Z E Ba (Ag E E E ?_))
 exact k.mono tL
 refine AC E (AC E (Ag E E E ?_))
 exact k.mono tL
 refine J E ?_
 refine CV (c:=decide (y6.2.1=0)) 53 3 56 E (fun hb k=>?_) (fun hb k=>?_) ?_
 refine J E (Z E Ba (Ag E E E ?_))
 exact k.mono tL
 refine AC E (AC E (Ag E E E ?_))
 exact k.mono tL
 refine J E ?_
 refine CV (c:=decide (y7.1=0)) 57 3 60 E (fun hb k=>?_) (fun hb k=>?_) ?_
 refine J E (Z E Ba (Ag E E E ?_))
 exact k.mono tL
 refine AC E (AC E (Ag E E E ?_))
 exact k.mono tL
 refine J E ?_
 refine E0 61 4 65 hy9 E (fun hb hg7 k=>?_) (fun hb k=>?_) ?_
 obtain⟨y8,hy8,hg7⟩:=bnd hg7
 obtain rfl:=zI hg7
 refine J E (AQ 13 Wc (HL hy8) E (CF E E (Ag E E E ?_)))
 exact k.mono tL
 refine AC E (AC E (AC E (Ag E E E ?_)))
 exact k.mono tL
 refine J E ?_
 refine E0 66 5 71 hy11 E (fun hb hg8 k=>?_) (fun hb k=>?_) ?_
 obtain⟨y10,hy10,hg8⟩:=bnd hg8
 obtain rfl:=zI hg8
 refine J E (SL.pick [1,2,3,4,5,6,7,8,9,10,11,12,0] 13 (AQ 12 kj (Lt hy10) E (RX E (show WF Tryz.prog 45 4=some 4 by kernel_rfl) E E ?_)))
 refine Z E (Iz (b:=2)) ?_
 refine Ag E E E ?_
 exact SL.mono (SL.heap k fun _ hw=>Bj.pick (H:=[_,_,_,_,_,_,_,_,_,_,_,_,_,_,_,_,_,_,_,_,_,_,_,_,_]) hw [12,0,1,2,3,4,5,6,7,8,9,10,11,13,14,15,16,17,18,19,20,21,22,23,24] 25 E) tL
 refine AC E (AC E (AC E (AC E (Ag E E E ?_))))
 exact k.mono tL
 refine U E (V (AK ?_))
 obtain rfl:=zI h
 exact Ac [] 25 E E E
end

section
variable {K:Nat→Prop}{w0:World}{H:List AX}
def LX(n:Nat)(T:List UInt32)(p0:Int):Option Bool:=
 (Ju n T).bind fun y1=>
 (Gq n T []).bind fun y2=>
 (y2.1).bind fun d1=>
 (KP d1.1 d1.2.1 d1.2.2.1 p0).bind fun y3=>
 (y3.1).bind fun d2=>
 (I4 p0).bind fun y4=>
 cond ((decide (p0<1))||(decide (1000<p0)))
 (
  ret ((((y1&&y2.2)&&(decide (y3.2=2)))&&(decide (y4=1)))&&false) fun x1=>
  some x1)
 (
  (GA (((y1&&y2.2)&&(decide (y3.2=0)))&&(decide (y4=1))) ((Ci d2 d1.1 d1.2.1 d1.2.2.1).bind fun y5=>some (!y5))).bind fun y6=>
  some y6)
theorem XP{n:Nat}{T:List UInt32}{p0:Int}{r:Bool}(h:LX n T p0=some r)(hS:Gk K w0 T)(hT:Jl K w0 2 64 T):zC K w0 5 [vI p0] [] H (fun u M=>u=vB r∧M=[]):=by
 unfold LX at h
 refine WN.enter Tryz.func5 rfl rfl ?_
 refine Y (U E (V (Y ?_)))
 refine AF h fun y1 hy1 h=>?_
 refine AQ 0 qY (Uc hy1 hS hT) E (U E (V (Y ?_)))
 refine AF h fun y2 hy2 h=>?_
 refine AF h fun d1 hd1 h=>?_
 refine BT (vs:=[_]) (Hin:=[]) (Hr:=_) E E ⟨E,zT⟩ kl E E (Rw hy2 hS hT (By.nil zV)) ?_
 rintro _ _ (⟨hn,-,-⟩ | ⟨d_,b1,v1,v2,v3,v4,b2,v5,m1,b3,v6,m2,m3,b4,v7,v8,v9,b5,v10,v11,b6,v12,v13,v14,hn,rfl,rfl⟩)
 rw[hd1]at hn;cases hn
 obtain rfl:d1=d_:=zI (hd1.symm.trans hn)
 refine⟨trivial,?_⟩
 refine J E (Ah E E E (Ah E E E (Ah E E E (Ah E E E (U E (U E (U E ?_)))))))
 refine U E (V (Y ?_))
 refine AF h fun y3 hy3 h=>?_
 refine AF h fun d2 hd2 h=>?_
 refine J E (J E ?_)
 refine BT (vs:=[_,_]) (Hin:=[_,_,_,_,_,_,_,_,_,_,_,_]) (Hr:=_::_::_::_::_::_::_::_::_::_::_::_) E E ⟨E,E,zT⟩ aw E E (Uk hy3) ?_
 rintro _ _ (⟨hn,-,-⟩ | ⟨d_,b7,hn,rfl,rfl⟩)
 rw[hd2]at hn;cases hn
 obtain rfl:d2=d_:=zI (hd2.symm.trans hn)
 refine⟨trivial,?_⟩
 refine J E (Ah E E E (Ah E E E (U E (U E (V (Y ?_))))))
 refine AF h fun y4 hy4 h=>?_
 refine J E (AQ 0 aw (T3 hy4) E (J E (Ah E E E (Ah E E E (U E (U E (V (AH (Y (J E ?_))))))))))
 refine Z E A9 (J E ?_)
 refine Dw (c:=decide (1000<p0)) 32 3 35 E (fun hb k=>?_) (fun hb k=>?_) ?_
 refine AC E (AC E (Ag E E E ?_))
 exact k.mono tL
 refine J E (Z E Cj (Ag E E E ?_))
 exact k.mono tL
 refine V ?_
 refine AL h E (fun hc1 h=>?_) fun hc1 h=>?_
 refine Y ?_
 obtain⟨x1,ex1,h⟩:=Bz h
 refine J E (J E ?_)
 refine CV (c:=y2.2) 37 2 39 E (fun hb k=>?_) (fun hb k=>?_) ?_
 refine J E (Ag E E E ?_)
 exact k.mono tL
 refine AC E (Ag E E E ?_)
 exact k.mono tL
 refine J E ?_
 refine CV (c:=decide (y3.2=2)) 40 3 43 E (fun hb k=>?_) (fun hb k=>?_) ?_
 refine J E (Z E Ba (Ag E E E ?_))
 exact k.mono tL
 refine AC E (AC E (Ag E E E ?_))
 exact k.mono tL
 refine J E ?_
 refine CV (c:=decide (y4=1)) 44 3 47 E (fun hb k=>?_) (fun hb k=>?_) ?_
 refine J E (Z E Ba (Ag E E E ?_))
 exact k.mono tL
 refine AC E (AC E (Ag E E E ?_))
 exact k.mono tL
 refine J E ?_
 refine CV (c:=false) 48 3 51 E (fun hb k=>?_) (fun hb k=>?_) ?_
 refine J E (Dr E ZY E E (Ag E E E ?_))
 exact k.mono tL
 refine AC E (AC E (Ag E E E ?_))
 exact k.mono tL
 refine Ay (u:=vB x1) E E (congrArg vB ex1) ?_
 refine V (AK (Aa ?_))
 obtain rfl:=zI h
 exact Ac [] 24 E E E
 refine AI (AJ (Y ?_))
 refine AF h fun y6 hy6 h=>?_
 refine J E (J E ?_)
 refine CV (c:=y2.2) 53 2 55 E (fun hb k=>?_) (fun hb k=>?_) ?_
 refine J E (Ag E E E ?_)
 exact k.mono tL
 refine AC E (Ag E E E ?_)
 exact k.mono tL
 refine J E ?_
 refine CV (c:=decide (y3.2=0)) 56 3 59 E (fun hb k=>?_) (fun hb k=>?_) ?_
 refine J E (Z E Ba (Ag E E E ?_))
 exact k.mono tL
 refine AC E (AC E (Ag E E E ?_))
 exact k.mono tL
 refine J E ?_
 refine CV (c:=decide (y4=1)) 60 3 63 E (fun hb k=>?_) (fun hb k=>?_) ?_
 refine J E (Z E Ba (Ag E E E ?_))
 exact k.mono tL
 refine AC E (AC E (Ag E E E ?_))
 exact k.mono tL
 refine J E ?_
 refine E0 64 4 68 hy6 E (fun hb hg9 k=>?_) (fun hb k=>?_) ?_
 obtain⟨y5,hy5,hg9⟩:=bnd hg9
 obtain rfl:=zI hg9
 refine J E (AQ 13 Wc (HL hy5) E (CF E E (Ag E E E ?_)))
 exact k.mono tL
 refine AC E (AC E (AC E (Ag E E E ?_)))
 exact k.mono tL
 refine U E (V (AK ?_))
 obtain rfl:=zI h
 exact Ac [] 24 E E E
def KX(n:Nat)(T:List UInt32)(p0:Int):Option Bool:=
 (Ju n T).bind fun y1=>
 (Gq n T []).bind fun y2=>
 (y2.1).bind fun d1=>
 (KP d1.1 d1.2.1 d1.2.2.1 p0).bind fun y3=>
 (wM y3.1).bind fun u1=>
 (I4 p0).bind fun y4=>
 cond ((decide (p0<1))||(decide (1000<p0)))
 (
  ret ((((y1&&y2.2)&&(decide (y3.2=2)))&&(decide (y4=1)))&&true) fun x1=>
  some x1)
 (
  (GA (((y1&&y2.2)&&(decide (y3.2=0)))&&(decide (y4=1))) ((LR).bind fun y5=>some (!y5))).bind fun y6=>
  some y6)
theorem WV{n:Nat}{T:List UInt32}{p0:Int}{r:Bool}(h:KX n T p0=some r)(hS:Gk K w0 T)(hT:Jl K w0 2 64 T):zC K w0 5 [vI p0] [] H (fun u M=>u=vB r∧M=[]):=by
 unfold KX at h
 refine WN.enter Tryz.func5 rfl rfl ?_
 refine Y (U E (V (Y ?_)))
 refine AF h fun y1 hy1 h=>?_
 refine AQ 0 qY (Uc hy1 hS hT) E (U E (V (Y ?_)))
 refine AF h fun y2 hy2 h=>?_
 refine AF h fun d1 hd1 h=>?_
 refine BT (vs:=[_]) (Hin:=[]) (Hr:=_) E E ⟨E,zT⟩ kl E E (Rw hy2 hS hT (By.nil zV)) ?_
 rintro _ _ (⟨hn,-,-⟩ | ⟨d_,b1,v1,v2,v3,v4,b2,v5,m1,b3,v6,m2,m3,b4,v7,v8,v9,b5,v10,v11,b6,v12,v13,v14,hn,rfl,rfl⟩)
 rw[hd1]at hn;cases hn
 obtain rfl:d1=d_:=zI (hd1.symm.trans hn)
 refine⟨trivial,?_⟩
 refine J E (Ah E E E (Ah E E E (Ah E E E (Ah E E E (U E (U E (U E ?_)))))))
 refine U E (V (Y ?_))
 refine AF h fun y3 hy3 h=>?_
 refine AF h fun u1 hu1 h=>?_
 refine J E (J E ?_)
 refine BT (vs:=[_,_]) (Hin:=[_,_,_,_,_,_,_,_,_,_,_,_]) (Hr:=_::_::_::_::_::_::_::_::_::_::_::_) E E ⟨E,E,zT⟩ aw E E (Uk hy3) ?_
 rintro _ _ hq
 rcases hq.symm with⟨d_,_,hn,-,-⟩ | ⟨-,rfl,rfl⟩
 exact(rW hu1 hn).elim
 refine⟨trivial,?_⟩
 refine J E (Ah E E E (Ah E E E (U E (U E (V (Y ?_))))))
 refine AF h fun y4 hy4 h=>?_
 refine J E (AQ 0 aw (T3 hy4) E (J E (Ah E E E (Ah E E E (U E (U E (V (AH (Y (J E ?_))))))))))
 refine Z E A9 (J E ?_)
 refine Dw (c:=decide (1000<p0)) 32 3 35 E (fun hb k=>?_) (fun hb k=>?_) ?_
 refine AC E (AC E (Ag E E E ?_))
 exact k.mono tL
 refine J E (Z E Cj (Ag E E E ?_))
 exact k.mono tL
 refine V ?_
 refine AL h E (fun hc1 h=>?_) fun hc1 h=>?_
 refine Y ?_
 obtain⟨x1,ex1,h⟩:=Bz h
 refine J E (J E ?_)
 refine CV (c:=y2.2) 37 2 39 E (fun hb k=>?_) (fun hb k=>?_) ?_
 refine J E (Ag E E E ?_)
 exact k.mono tL
 refine AC E (Ag E E E ?_)
 exact k.mono tL
 refine J E ?_
 refine CV (c:=decide (y3.2=2)) 40 3 43 E (fun hb k=>?_) (fun hb k=>?_) ?_
 refine J E (Z E Ba (Ag E E E ?_))
 exact k.mono tL
 refine AC E (AC E (Ag E E E ?_))
 exact k.mono tL
 refine J E ?_
 refine CV (c:=decide (y4=1)) 44 3 47 E (fun hb k=>?_) (fun hb k=>?_) ?_
 refine J E (Z E Ba (Ag E E E ?_))
 exact k.mono tL
 refine AC E (AC E (Ag E E E ?_))
 exact k.mono tL
 refine J E ?_
 refine CV (c:=true) 48 3 51 E (fun hb k=>?_) (fun hb k=>?_) ?_
 refine J E (Dr E ZY E E (Ag E E E ?_))
 exact k.mono tL
 refine AC E (AC E (Ag E E E ?_))
 exact k.mono tL
 refine Ay (u:=vB x1) E E (congrArg vB ex1) ?_
 refine V (AK (Aa ?_))
 obtain rfl:=zI h
 exact Ac [] 23 E E E
 refine AI (AJ (Y ?_))
 refine AF h fun y6 hy6 h=>?_
 refine J E (J E ?_)
 refine CV (c:=y2.2) 53 2 55 E (fun hb k=>?_) (fun hb k=>?_) ?_
 refine J E (Ag E E E ?_)
 exact k.mono tL
 refine AC E (Ag E E E ?_)
 exact k.mono tL
 refine J E ?_
 refine CV (c:=decide (y3.2=0)) 56 3 59 E (fun hb k=>?_) (fun hb k=>?_) ?_
 refine J E (Z E Ba (Ag E E E ?_))
 exact k.mono tL
 refine AC E (AC E (Ag E E E ?_))
 exact k.mono tL
 refine J E ?_
 refine CV (c:=decide (y4=1)) 60 3 63 E (fun hb k=>?_) (fun hb k=>?_) ?_
 refine J E (Z E Ba (Ag E E E ?_))
 exact k.mono tL
 refine AC E (AC E (Ag E E E ?_))
 exact k.mono tL
 refine J E ?_
 refine E0 64 4 68 hy6 E (fun hb hg9 k=>?_) (fun hb k=>?_) ?_
 obtain⟨y5,hy5,hg9⟩:=bnd hg9
 obtain rfl:=zI hg9
 refine J E (AQ 0 Wc (UJ hy5) E (CF E E (Ag E E E ?_)))
 exact k.mono tL
 refine AC E (AC E (AC E (Ag E E E ?_)))
 exact k.mono tL
 refine U E (V (AK ?_))
 obtain rfl:=zI h
 exact Ac [] 23 E E E
end

section
variable {T:List UInt32}
theorem ja(hT:T.length=64):∃o v d s w c,I3 2200000 T (d0 60) (DI 1)=some (some (o,v),0,d)∧Ky 2200000 T (r0 60) (DI 1)=some (some (s,w),0,c)∧XG 60 o v d s w c∧UU T (DI 1) 1 1 o v d∧o.rows=[]∧o.ring=DI 1∧WO o 1:=by
 obtain⟨o,v,d,h1,hch,S,hrw,hrg,hgi⟩:=gL (T:=T)
 obtain⟨w0,c0,g1,gc,g2,V9⟩:=vq
 have R0:XG 60 O1 v0 D1 { rows:=[],had:=[],gens:=[],bad:=false } w0 c0:=⟨rfl,rfl,rfl,rfl,rfl,V9⟩
 obtain⟨s,w,c,g3,R⟩:=ZB R0 hT zO (Nat.zero_le _) (Nat.zero_le _) (fun x hx=>(by cases hx)) (eU dR (YX (m:=1) zO zO) (Nat.zero_le _) zD (by decide +kernel) (fun s hs=>(by cases hs)) (Nat.zero_le _)) (Nat.zero_le _) (S.vs.gen.trans rfl) hch
 refine⟨o,v,d,s,w,c,h1,?_,R,S,hrw,hrg,hgi⟩
 have hn:Kw 2200000 (DI 1)=some (1,0):=by
  unfold Kw
  rw[cL _ (by rw[DA];omega) zO,Mt 1 zO]
  rfl
 unfold Ky LK
 rw[hn,AA]
 simp only[decide_true,Bool.not_true,BZ]
 rw[BN,AA,show decide ((r0 60).rcnt=18446744073709551615)=false from rfl,BZ,g1,AA]
 simp only[decide_true,Bool.not_true,BZ]
 rw[g2,AA,AA,g3,AA]
 rfl
theorem jC{c:UInt64}{o:BF}{v:Am}{d:Ai}{s:C3}{w:BW}{x:A6}{l:List Aj}{ops:List Iv}(R:XG 60 o v d s w x)(hT:T.length=64)(S:UU T (DI 1) 1 c o v d)(hcn:c.toNat<1000000)(hb:Pj 2200000 o.rows ops=some (l,0,0))(hb12:HA 2200000 o.rows ops=some (l,0,0))(hl:Ow l.length≤QQ)(hl3:Ow l.length≤24)(hl2:l.length≤1000)(hr:Du l=true)(hgi:WO o 1):
  ∃o' v' d' s' w' x',EK 2200000 T o v d ops=some (0,0,o',v',d')∧EJ 2200000 T s w x ops=some (0,0,s',w',x')∧XG 60 o' v' d' s' w' x'∧o'.rows=l∧o'.ring=o.ring∧UU T (DI 1) 1 (c+1) o' v' d'∧WO o' 1∧o'.pages.length≤Ow l.length:=by
 have hk:=YX (m:=1) zO zO
 obtain⟨o',v',d',hch,hrw,hrg,hS,hgn,-,-,hpl⟩:=Uo (T:=T) (l:=l) (wth:=o.pages) S hcn zD hk hl hl3 hl2 hr S.rd (by have:=S.few;omega)
 have hfew:=S.few
 obtain⟨s',w',x',g,R'⟩:=ZB R hT zO zO zO (fun y hy=>by have:=vu (S.rd y hy);omega) (eU S hk hl2 hl3 hr S.rd zO) zO (hS.vs.gen.trans S.vs.gen.symm) hch
 have hc:¬c=18446744073709551615:=by rintro rfl;exact absurd hcn zD
 refine⟨o',v',d',s',w',x',?_,?_,R',hrw,hrg,hS,hgi.change S.gen hgn fun s hs=>(hS.rd s hs).1,hpl⟩
 unfold EK Cp
 rw[S.bad,BZ,AA]
 show(Pj 2200000 o.rows ops).bind _=_
 rw[hb,AA]
 unfold GU E1
 rw[BN]
 simp only[decide_true,Bool.not_true,BZ]
 rw[AA,BN,AA,S.dv.rc,zf hc,BZ]
 show(GJ 2200000 T o v d l).bind _=_
 rw[show GJ 2200000 T o v d l=DR 2200000 T o v d l o.pages from rfl,hch,AA]
 unfold EJ LK
 rw[R.bad,S.bad,BZ,R.rows,hb12,AA]
 simp only[decide_true,Bool.not_true,BZ]
 rw[BN,AA,R.vr.dev.cnt,S.dv.rc,zf hc,BZ]
 rw[show Ht 2200000 T s w x l=Fd 2200000 T s w x l s.had from rfl,R.had,g,AA]
theorem jB{c:UInt64}{o:BF}{v:Am}{d:Ai}{s:C3}{w:BW}{x:A6}{l l':List Aj}{a e:Int}{ops:List Iv}(R:XG 60 o v d s w x)(S:UU T (DI 1) 1 c o v d)(he:e≠0)(hb:Pj 2200000 o.rows ops=some (l,a,e))(hb12:HA 2200000 o.rows ops=some (l',a,e)):
  EK 2200000 T o v d ops=some (a,e,o,v,d)∧EJ 2200000 T s w x ops=some (a,e,s,w,x):=by
 constructor
 unfold EK Cp
 rw[S.bad,BZ,AA]
 show(Pj 2200000 o.rows ops).bind _=_
 rw[hb,AA,BN]
 dsimp only
 rw[zf he]
 rfl
 unfold EJ
 rw[R.bad,S.bad,BZ,R.rows,hb12,AA]
 dsimp only
 rw[zf he]
 rfl
theorem nj(hT:T.length=64)(ops:List Iv)(l:List Aj)(a e:Int)(hb:Pj 2200000 [] (ops.take 5)=some (l,a,e))(l':List Aj)(hb12:HA 2200000 [] (ops.take 5)=some (l',a,e))
(hok:e=0→a=0∧l'=l∧Ow l.length≤QQ∧Ow l.length≤24∧l.length≤1000∧Du l=true):
  ∃(k:UInt64) (o:BF) (v:Am) (d:Ai) (s:C3) (w:BW) (x:A6),Gq 2200000 T ops=some (some (o,v,d,s,w,x),true)∧k.toNat≤2∧UU T (DI 1) 1 k o v d∧o.rows=(if e=0 then l else[])∧o.ring=DI 1∧XG 60 o v d s w x∧WO o 1∧(e=0→o.pages.length≤Ow l.length):=by
 obtain⟨o,v,d,s,w,x,h1,h2,R,S,hrw,hrg,hgi⟩:=ja hT
 have e1:LE 60=some (some (d0 60),0):=vf zO zO
 have e2:Mj 2200000 60=some (some (r0 60),0):=ve (N:=60) zO zO zO
 have e3:Gp 2200000 1=some (DI 1):=jx 1 zO zO
 have e4:Ma ops=some (ops.take 5):=by
  unfold Ma
  have h0:Iu ops 0 (min (ops.length:Int) 5)=some ((ops.drop 0).take (min ops.length 5-0)):=VJ rfl zO zO zO
  rw[h0,AA]
  rw[List.drop_zero,Nat.sub_zero]
  refine congrArg some ?_
  rcases Nat.le_total ops.length 5 with h | h
  rw[Nat.min_eq_left h,List.take_of_length_le (Nat.le_refl _),List.take_of_length_le h]
  rw[Nat.min_eq_right h]
 have fin:∀ {o':BF} {v':Am} {d':Ai} {s':C3} {w':BW} {x':A6},EK 2200000 T o v d (ops.take 5)=some (a,e,o',v',d')→EJ 2200000 T s w x (ops.take 5)=some (a,e,s',w',x')→
   Gq 2200000 T ops=some (some (o',v',d',s',w',x'),true):=by
  intro o' v' d' s' w' x' c1 c2
  unfold Gq
  rw[e1,AA,AA,e2,AA,AA]
  simp only[decide_true,Bool.not_true,Bool.or_false,BZ]
  rw[e3,AA,h1,AA,AA,AA,h2,AA,AA]
  simp only[decide_true,Bool.not_true,Bool.or_false,BZ]
  rw[e4,AA,c1,AA,AA,c2,AA,BN,zt rfl]
 by_cases he:e=0
 subst he
 obtain⟨rfl,rfl,q1,q2,q3,q4⟩:=hok rfl
 obtain⟨o',v',d',s',w',x',c1,c2,R',hrw',hrg',S',hgi',hpl⟩:=jC R hT S zD (by rw[hrw];exact hb) (by rw[hrw];exact hb12) q1 q2 q3 q4 hgi
 exact⟨_,o',v',d',s',w',x',fin c1 c2,by decide,S',hrw',hrg'.trans hrg,R',hgi',fun _=>hpl⟩
 obtain⟨c1,c2⟩:=jB (T:=T) R S he (by rw[hrw];exact hb) (by rw[hrw];exact hb12)
 exact⟨_,o,v,d,s,w,x,fin c1 c2,by decide,S,by rw[if_neg he];exact hrw,hrg,R,hgi,fun h=>absurd h he⟩
end

section
variable {T:List UInt32}{R:List BD}{g g2:UInt32}
theorem Wq(o:BF)(g:UInt32):∀(r:List Ak) (i:Nat),(Nw o g i r).length=(r.filter (KF o g)).length
 | [],_=>rfl
 | s::r,i=>by
  unfold Nw
  rw[List.filter_cons]
  cases KF o g s<;>simp[Wq o g r]
theorem nl:∀(xs:List (Int×Ak)) (k:Nat),k+xs.length≤1000000→Gf xs (k:Int)=some ((k+xs.length:Nat):Int)
 | [],k,_=>rfl
 | x::xs,k,h=>by
  rw[List.length_cons]at h
  show Gf xs (wI ((k:Int)+1))=_
  rw[CR zO zO,show(k:Int)+1=((k+1:Nat):Int) by omega,nl xs (k+1) zO,List.length_cons,show k+1+xs.length=k+(xs.length+1) by omega]
theorem gT{o:BF}{v:Am}{d:Ai}{e:Int}(hN:Cf o.ring=some (g,e))(hl:o.pages.length≤1000):Fw o v d=some ((o.pages.filter (KF o g)).length:Int):=by
 unfold Fw Tb Rm
 have h1:=Wq o g o.pages 0
 have h2:(o.pages.filter (KF o g)).length≤o.pages.length:=List.length_filter_le ..
 rw[hN,AA,AA,if_pos zO,AA]
 have h3:=nl (Nw o g 0 o.pages) 0 zO
 rw[show((0:Nat):Int)=0 from rfl]at h3
 rw[h3,Nat.zero_add,h1]
theorem Yu{o:BF}{v:Am}{d:Ai}{e:Int}(hN:Cf o.ring=some (g,e))(hl:o.pages.length≤1000):∃fr,E8 o v d=some ⟨(o.rows.length:Int),(o.pages.length:Int),fr,d.rcnt,o.gen,((o.pages.filter (KF o g)).length:Int)⟩:=by
 unfold E8 TN E1
 rw[gT hN hl]
 exact⟨_,rfl⟩
theorem gU{t:I9}{o:BF}{v:Am}{d:Ai}{e:Int}(hN:Cf o.ring=some (g,e))(hl:o.pages.length≤1000):Ci t o v d=some (decide (0<((o.pages.filter (KF o g)).length:Int))||decide (o.gen<t.gen)):=by
 obtain⟨fr,h⟩:=Yu (v:=v) (d:=d) hN hl
 unfold Ci
 rw[h,AA,BN]
theorem je{i:Nat}(h:i<4294967296):bw (i:Int)=some (UInt32.ofNat i):=by
 unfold bw
 rw[if_pos zO,show(i:Int).toNat=i from rfl]
theorem eN{n p1:Nat}{o:BF}{d:Ai}{y2:UInt32×Int}{y5:Int×Am}{O:BF}:∀(r:List Ak) (i:Nat) (m:List (UInt32×Bool)),(∀s∈r,KF O g2 s=true)→i+r.length≤p1→p1≤1000000→m.length≤i→(∀j,j<i→Bn m (UInt32.ofNat j)=some true)→
  ∃m',(∀j,j<i+r.length→Bn m' (UInt32.ofNat j)=some true)∧F3 n T o d (p1:Int) y2 y5 (Nw O g2 i r) m=Dn n T o d y2 y5 m' n ([],0)
 | [],i,m,_,_,_,_,hm=>⟨m,by simpa using hm,rfl⟩
 | s::r,i,m,ho,hi,hp,hl,hm=>by
  rw[List.length_cons]at hi
  unfold Nw
  rw[ho s (List.mem_cons_self ..),if_pos rfl]
  have h1:=Vj (m:=m) (p:=UInt32.ofNat i) (a:=true)
  obtain⟨m',h2,h3⟩:=eN (n:=n) (o:=o) (d:=d) (p1:=p1) (y2:=y2) (y5:=y5) (O:=O) r (i+1) (Hn m (UInt32.ofNat i) true) (fun x hx=>ho x (List.mem_cons_of_mem _ hx)) zO hp zO (fun j hj=>by
   rw[I5]
   by_cases e:UInt32.ofNat i=UInt32.ofNat j
   rw[if_pos e]
   rw[if_neg e]
   exact hm j (by
    have:i≠j:=fun h=>e (by rw[h])
    omega))
  refine⟨m',fun j hj=>h2 j (by rw[List.length_cons]at hj;omega),?_⟩
  show FN n T o d (p1:Int) y2 y5 (F3 n T o d (p1:Int) y2 y5 (Nw O g2 (i+1) r)) ((i:Int),s) m=_
  unfold FN
  rw[zf zO,BZ,je zO,AA,Vi zO,AA]
  exact h3
theorem eM{n:Nat}{o:BF}{d:Ai}{y2:UInt32×Int}{y5:Int×Am}{m':List (UInt32×Bool)}(hl:o.pages.length≤1000000)(hm:∀j,j<o.pages.length→Bn m' (UInt32.ofNat j)=some true):∀(k i m:Nat),i+k=o.pages.length→k<m→
  Dn n T o d y2 y5 m' m ([],(i:Int))=F2 n T o d y2 y5 []
 | _,_,0,_,h=>absurd h (Nat.not_lt_zero _)
 | 0,i,m+1,hi,_=>by
  show D0 n T o d y2 y5 m' (Dn n T o d y2 y5 m' m) [] (i:Int)=_
  unfold D0
  rw[zf zO,BZ]
 | k+1,i,m+1,hi,hk=>by
  have hil:i<o.pages.length:=zO
  show D0 n T o d y2 y5 m' (Dn n T o d y2 y5 m' m) [] (i:Int)=_
  unfold D0
  rw[zt zO,CC,EP,List.getElem?_eq_getElem hil,AA,je zO,AA,hm i hil]
  show Er (i:Int) _ []=_
  unfold Er
  rw[CR zO zO,show(i:Int)+1=((i+1:Nat):Int) by omega]
  exact eM hl hm k (i+1) m zO zO
theorem bc{o:BF}{was:List (UInt32×Ak)}:∀(r:List Ak) (gm:List (UInt32×UInt32)),(∀s∈r,¬(Bn was s.page=some s∨(Bn was s.page=none∧s=⟨[],0,[]⟩)))→∀p,p∈r.map (·.page)∨Bn gm p=some o.gen→Bn (MA o was r gm) p=some o.gen
 | [],gm,_,p,hp=>by
  rcases hp with hp | hp
  cases hp
  exact hp
 | s::r,gm,h,p,hp=>by
  unfold MA
  rw[if_neg (h s (List.mem_cons_self ..))]
  refine bc r _ (fun x hx=>h x (List.mem_cons_of_mem _ hx)) p ?_
  by_cases e:s.page=p
  exact .inr (by rw[I5,if_pos e])
  rcases hp with hp | hp
  rcases List.mem_cons.1 hp with hp | hp
  exact absurd hp.symm e
  exact .inl hp
  exact .inr (by rw[I5,if_neg e];exact hp)
theorem ck:∀(r:List Ak) (w:List (UInt32×Ak)) (p:UInt32),p∉r.map (·.page)→Bn (PE r w) p=Bn w p
 | [],w,p,_=>rfl
 | s::r,w,p,h=>by
  rw[List.map_cons,List.mem_cons,not_or]at h
  rw[PE,ck r _ p h.2,I5,if_neg (fun e=>h.1 e.symm)]
theorem cd{v:Am}{d:Ai}{k:BD}(hR:R.length≤1000)(hf:C6 R g=(k,0)):L6 v d R g=some (0,{ v with ring:=R,gen:=g }):=by
 unfold L6 R7
 rw[if_pos zO,AA,hf]
 dsimp only
 rw[zt rfl,CC,DM zQ zQ,AA]
 rfl
theorem lV{k:UInt64}{kk:BD}{o:BF}{v:Am}{d:Ai}{p1:Nat}(S:UU T R g k o v d)(hk:k.toNat<1000000)(hring:o.ring=R)(hR:R.length≤1000)(hN:Cf R=some (g2,0))(hg:g≠g2)(h0:0<g2)(hf:C6 R g2=(kk,0))(hp0:1≤p1)(hp:o.pages.length≤p1)(hp2:p1≤1000)
(JU:∀s∈o.pages,KF o g2 s=true)(hl:Ow o.rows.length≤QQ)(hl3:Ow o.rows.length≤24)(hl2:o.rows.length≤1000)(hr:Du o.rows=true):
  ∃o' v' d',F1 2200000 T o v d (p1:Int)=some (0,0,o',v',d')∧o'.rows=o.rows∧o'.ring=R∧UU T R g2 (k+1) o' v' d'∧o'.pages.filter (KF o' g2)=[]:=by
 have hfew:=S.few
 subst hring
 have S2:UU T o.ring g2 k { o with gen:=g2 } { v with ring:=o.ring,gen:=g2 } d:=
  ⟨⟨S.vs.dev,rfl,S.vs.rlen,rfl,S.vs.boot,S.vs.tlen⟩,⟨S.tk.nd,S.tk.tr⟩,S.dv,rfl,S.few,S.rd,S.own,S.bad⟩
 obtain⟨o',v',d',hch,hrw,hrg,hS,hgens,hnew,-,-⟩:=Uo (T:=T) (l:=o.rows) (wth:=[]) S2 hk h0 hf hl hl3 hl2 hr (fun s hs=>(by cases hs)) (Nat.zero_le _)
 have hno:o'.pages.filter (KF o' g2)=[]:=by
  rw[List.filter_eq_nil_iff]
  intro s hs
  have h1:s.page∉o.pages.map (·.page):=(hnew s hs).resolve_left (fun h=>by cases h)
  have h2:Bn o'.gens s.page=some g2:=by
   rw[hgens]
   refine bc (o:={ o with gen:=g2 }) o'.pages [] (fun x hx=>?_) s.page (.inl (List.mem_map_of_mem hs))
   have h3:x.page∉o.pages.map (·.page):=(hnew x hx).resolve_left (fun h=>by cases h)
   have h4:Bn (PE o.pages []) x.page=none:=(ck o.pages [] x.page h3).trans rfl
   show ¬(Bn (PE o.pages []) x.page=some x∨_)
   rw[h4]
   rintro(h5 | ⟨-,h5⟩)
   cases h5
   have h6:=(hS.rd x hx).1
   rw[h5]at h6
   exact absurd h6 zD
  unfold KF
  rw[h2]
  simp
 refine⟨o',v',d',?_,hrw,hrg,hS,hno⟩
 have hN':Cf o.ring=some (g2,0):=hN
 have hold':∀s∈o.pages,KF { o with gen:=g2 } g2 s=true:=JU
 obtain⟨m',hm1,hm2⟩:=eN (T:=T) (g2:=g2) (n:=2200000) (o:=o) (d:=d) (p1:=p1) (y2:=(g2,0)) (y5:=(0,{ v with ring:=o.ring,gen:=g2 })) (O:={ o with gen:=g2 }) o.pages 0 [] hold' zO zO (Nat.zero_le _) (fun j hj=>absurd hj (Nat.not_lt_zero _))
 have hl1:=eM (T:=T) (n:=2200000) (o:=o) (d:=d) (y2:=(g2,0)) (y5:=(0,{ v with ring:=o.ring,gen:=g2 })) (m':=m') zO (fun j hj=>hm1 j zO) o.pages.length 0 2200000 zO zO
 have hcD:Hv 2200000 T { o with gen:=g2 } { v with ring:=o.ring,gen:=g2 } d []=some (0,o',v',d'):=by
  rw[←hch]
  rfl
 have hrd:Cp o v d=some 0:=by
  unfold Cp
  rw[S.bad]
  rfl
 unfold F1
 rw[hrd,AA]
 simp only[decide_true,Bool.not_true,BZ]
 rw[hN',AA,BN,zf zO,BZ,gT hN' zO,AA,BN,S.gen]
 dsimp only
 rw[zf hg,Bool.and_false,BZ]
 unfold GU E1
 rw[AA,BN,AA,S.dv.rc,zf (show ¬k=18446744073709551615 by rintro rfl;exact absurd hk zD),BZ,cd (R:=o.ring) hR hf,AA]
 unfold Tb Rm
 dsimp only
 rw[AA,if_pos zO,AA]
 refine hm2.trans (hl1.trans ?_)
 unfold F2
 dsimp only
 rw[hcD,AA]
 dsimp only
 rw[zt rfl,Bool.not_true,BZ,gT (g:=g2) (e:=0) (by rw[hrg];exact hN) (by have:=hS.few;omega),hno,AA]
 rfl
end

section
variable {K:Nat→Prop}{w0:World}{H:List AX}
end

section
variable {T:List UInt32}
def JV:BD:=⟨2,List.replicate 32 65⟩
def Ij:List BD:=[T5 0,JV]
theorem rP:OY 2200000 2=some JV:=by
 unfold OY
 rw[show Gp 2200000 1=some (DI 1)from jx 1 zO zO]
 rfl
theorem Ti:C6 Ij 1=(T5 0,0):=by decide +kernel
theorem gj:C6 Ij 2=(JV,0):=by decide +kernel
theorem Wx:Cf Ij=some (2,0):=by
 unfold Cf NV
 rw[if_pos zD,AA,show Dt Ij=true by decide +kernel]
 rfl
theorem rY:Cf [JV]=some (2,0):=by
 unfold Cf NV
 rw[if_pos zD,AA,show Dt [JV]=true by decide +kernel]
 rfl
theorem ZT:Cf (DI 1)=some (1,0):=by
 unfold Cf NV
 rw[if_pos (by rw[DA];omega),AA,Mt 1 zO]
 rfl
theorem o7:C6 [JV] 2=(JV,0):=by decide +kernel
theorem yu:P3 (DI 1) JV=some (Ij,0):=by
 have h1:U8 (DI 1) JV.gen=some (1,false):=by
  unfold U8
  rw[if_pos (by rw[DA];omega)]
  have:((Ln JV.gen (DI 1):Int),Qm JV.gen (DI 1))=((1:Int),false):=by decide +kernel
  rw[this]
 have h2:P6 (DI 1)=some (DI 1):=by
  unfold P6
  rw[DM (by simp[DA]) (by simp[DA])]
  rfl
 have h3:D9 (DI 1) 1 [JV]=some Ij:=by
  unfold D9
  rw[show Iu (DI 1) 1 ((DI 1).length:Int)=some []from rfl,AA,DM (by simp[DA]) (by simp[DA])]
  rfl
 unfold P3 NV
 rw[h1,AA,h2,AA,h3,AA,if_pos (by rw[DA];omega),if_pos zD,Mt 1 zO,show Dt Ij=true by decide +kernel]
 rfl
theorem xT:bD Ij 1=some ([JV],0):=by
 unfold bD R7
 rw[if_pos zD,AA,Ti]
 have h:Ij.findIdx (fun x=>U1 x (T5 0))=0:=by decide +kernel
 dsimp only
 rw[h]
 rfl
theorem r8{v v':Am}{d:Ai}{s:Ak}(h:Rd T (DI 1) 60 v d s)(hv:v'.taken=v.taken):Rd T Ij 60 v' d s:=by
 obtain⟨h1,h2,h3,g',qn,b,hh,hb⟩:=h
 obtain⟨k,hk,hb'⟩:=hh.key
 refine⟨h1,h2,by unfold EB at h3 ⊢;rw[hv];exact h3,g',qn,b,hh.ringed ?_,hb⟩
 by_cases hg:g'=1
 rw[hg,Ti]
 exact(YX (m:=1) zO zO).symm
 have:C6 (DI 1) g'=(HU,41):=jI (Mt 1 zO) fun k hk e=>hg (by
  have:k=T5 0:=by simpa[DI]using hk
  rw[this]at e
  exact e.symm)
 rw[this]at hk
 cases hk
theorem kS{k:UInt64}{o:BF}{v:Am}{d:Ai}(S:UU T (DI 1) 1 k o v d)(hrg:o.ring=DI 1):Ge o v d JV=some (0,{ o with ring:=Ij },{ v with ring:=Ij,gen:=1 })∧UU T Ij 1 k { o with ring:=Ij } { v with ring:=Ij,gen:=1 } d:=by
 constructor
 have hrd:Cp o v d=some 0:=by
  unfold Cp
  rw[S.bad]
  rfl
 unfold Ge F4
 rw[hrd,AA]
 simp only[decide_true,Bool.not_true,BZ]
 rw[hrg,yu,AA]
 simp only[decide_true,Bool.not_true,BZ]
 have ht:L6 v d Ij o.gen=some (0,{ v with ring:=Ij,gen:=1 }):=by
  rw[S.gen]
  exact cd zD Ti
 rw[ht,AA]
 rfl
 exact⟨⟨S.vs.dev,rfl,by decide,rfl,S.vs.boot,S.vs.tlen⟩,⟨S.tk.nd,S.tk.tr⟩,S.dv,S.gen,S.few,fun s hs=>r8 (S.rd s hs) rfl,S.own,S.bad⟩
theorem qu{k:UInt64}{o:BF}{v:Am}{d:Ai}(S:UU T Ij 2 k o v d)(hrg:o.ring=Ij)(hno:o.pages.filter (KF o 2)=[]):GI o v d 1=some (0,{ o with ring:=[JV] },{ v with ring:=[JV],gen:=2 }):=by
 have hrd:Cp o v d=some 0:=by
  unfold Cp
  rw[S.bad]
  rfl
 have hol:Nw o (1+1) 0 o.pages=[]:=by
  have h1:=Wq o 2 o.pages 0
  rw[hno]at h1
  exact List.length_eq_zero_iff.1 h1
 have hfew:=S.few
 unfold GI Tb Rm
 rw[hrd,AA]
 simp only[decide_true,Bool.not_true,BZ]
 rw[hrg,xT,AA]
 simp only[decide_true,Bool.not_true,BZ]
 rw[AA,if_pos zO,AA,hol,show decide (o.gen=1)=false by rw[S.gen];rfl]
 show FM o v d ([JV],0) false=_
 unfold FM FL F4
 rw[BZ]
 dsimp only
 have ht:L6 v d [JV] o.gen=some (0,{ v with ring:=[JV],gen:=2 }):=by
  rw[S.gen]
  exact cd zD o7
 rw[ht,AA]
 rfl
theorem cG(hT:T.length=64):Ju 2200000 T=some true:=by
 have hb:Pj 2200000 [] (([⟨1,0,0,0,[]⟩]:List Iv).take 5)=some ([⟨0,0,0,[]⟩],0,0):=zK
 have hb12:HA 2200000 [] (([⟨1,0,0,0,[]⟩]:List Iv).take 5)=some ([⟨0,0,0,[]⟩],0,0):=zK
 have hr1:Du [(⟨0,0,0,[]⟩:Aj)]=true:=by decide +kernel
 obtain⟨k,o,v,d,s,w,x,hm,hk,S,hrw,hrg,-,hgi,hpl⟩:=nj hT [⟨1,0,0,0,[]⟩] [⟨0,0,0,[]⟩] 0 0 hb [⟨0,0,0,[]⟩] hb12 (fun _=>⟨rfl,rfl,Nat.le_trans (show 1≤12 by omega) lD,by decide,by decide,hr1⟩)
 rw[if_pos rfl]at hrw
 have hp1:o.pages.length≤1:=hpl rfl
 have hN:Cf o.ring=some (1,0):=by rw[hrg];exact ZT
 
 obtain⟨fr,hst⟩:=Yu (v:=v) (d:=d) hN zO
 obtain⟨hadd,S1⟩:=kS S hrg
 have hbeg:HD ⟨5,0⟩ o v d JV=some (0,⟨5,2⟩,{ o with ring:=Ij },{ v with ring:=Ij,gen:=1 }):=by
  unfold HD
  rw[hst,AA,BN]
  dsimp only
  rw[show decide (JV.gen≤o.gen)=false by rw[S.gen];decide,BZ,hadd,AA]
  rfl
 generalize ho1:({ o with ring:=Ij }:BF)=o1 at hbeg S1
 generalize hv1:({ v with ring:=Ij,gen:=1 }:Am)=v1 at hbeg S1
 have hN1:Cf o1.ring=some (2,0):=by rw[←ho1];exact Wx
 have hp1':o1.pages.length≤1:=by rw[←ho1];exact hp1
 have hg1:o1.gen=1:=S1.gen
 have hrw1:o1.rows=[⟨0,0,0,[]⟩]:=by rw[←ho1];exact hrw
 have hon1:Ci ⟨5,2⟩ o1 v1 d=some true:=by
  rw[gU hN1 zO,hg1]
  simp
 
 obtain⟨o2,v2,d2,hrk,hrw2,hrg2,S2,hno2⟩:=lV (p1:=5) S1 zO (by rw[←ho1]) zD Wx zD zD gj zO zO zO (fun s hs=>by
  have:=hgi s (by rw[←ho1]at hs;exact hs)
  unfold KF
  rw[←ho1]
  show decide ((Bn o.gens s.page).getD 0<2)=true
  rw[this]
  decide) (by rw[hrw1];exact Nat.le_trans (show 1≤12 by omega) lD) (by rw[hrw1];decide) (by rw[hrw1];decide) (by rw[hrw1];exact hr1)
 have hN2:Cf o2.ring=some (2,0):=by rw[hrg2];exact Wx
 have hon2:Ci ⟨5,2⟩ o2 v2 d2=some false:=by
  have:=S2.few
  rw[gU hN2 zO,hno2,S2.gen]
  rfl
 have hstep:El 2200000 T ⟨5,2⟩ o1 v1 d=some (false,0,o2,v2,d2):=by
  unfold El
  rw[show F1 2200000 T o1 v1 d 5=_ from hrk,AA]
  dsimp only
  rw[zt rfl,Bool.not_true,BZ,hon2,AA]
 have hall:mW 2200000 T ⟨5,2⟩ o1 v1 d 9=some (1,0,o2,v2,d2):=by
  show XJ 2200000 T ⟨5,2⟩ 9 2200000 0 0 o1 v1 d=_
  rw[show(2200000:Nat)=2199998+1+1 from rfl,XJ,hon1,AA,CC,hstep,AA]
  dsimp only
  rw[show((!decide ((0:Int)=0))||decide (wI (0+1)=9))=false from rfl,BZ,XJ,hon2]
  rfl
 
 have hdr:=qu S2 hrg2 hno2
 have hend:Ig ⟨5,2⟩ o2 v2 d2 1=some (0,{ o2 with ring:=[JV] },{ v2 with ring:=[JV],gen:=2 }):=by
  unfold Ig
  rw[hon2,AA,BZ,hdr,AA]
 have hfew2:=S2.few
 have hN3:Cf ({ o2 with ring:=[JV] }:BF).ring=some (2,0):=rY
 have hon3:Ci ⟨5,2⟩ { o2 with ring:=[JV] } { v2 with ring:=[JV],gen:=2 } d2=some false:=by
  have h1:({ o2 with ring:=[JV] }:BF).pages.filter (KF { o2 with ring:=[JV] } 2)=[]:=hno2
  rw[gU hN3 (by show o2.pages.length≤1000;omega),h1]
  show some (decide ((0:Int)<0)||decide (o2.gen<2))=_
  rw[S2.gen]
  rfl
 obtain⟨fr3,hst3⟩:=Yu (v:={ v2 with ring:=[JV],gen:=2 }) (d:=d2) hN3 (by show o2.pages.length≤1000;omega)
 unfold Ju
 rw[hm,AA,AA]
 dsimp only
 rw[show KP o v d 5=some (some ⟨5,0⟩,0)from rfl,AA,AA,rP,AA,hbeg,AA]
 dsimp only
 rw[hon1,AA,hall,AA]
 dsimp only
 rw[hend,AA]
 dsimp only
 rw[hon3,hst3]
 dsimp only
 rw[S2.gen]
 rfl
theorem rU(hT:T.length=64):∃(o:BF) (v:Am) (d:Ai) (s:C3) (w:BW) (x:A6),Gq 2200000 T []=some (some (o,v,d,s,w,x),true)∧∀t:I9,t.gen=0→Ci t o v d=some false:=by
 have hb:Pj 2200000 [] (([]:List Iv).take 5)=some ([],0,101):=zK
 have hb12:HA 2200000 [] (([]:List Iv).take 5)=some ([],0,101):=zK
 obtain⟨k,o,v,d,s,w,x,hm,hk,S,hrw,hrg,-,hgi,-⟩:=nj hT [] [] 0 101 hb [] hb12 (fun h=>absurd h zD)
 refine⟨o,v,d,s,w,x,hm,fun t ht=>?_⟩
 have hfew:=S.few
 have hno:o.pages.filter (KF o 1)=[]:=by
  rw[List.filter_eq_nil_iff]
  intro s hs
  unfold KF
  rw[hgi s hs]
  decide
 rw[gU (by rw[hrg];exact ZT) zO,hno,S.gen,ht]
 rfl
theorem jj(T:List UInt32)(p:Int)(h:(decide (p<1)||decide (1000<p))=false)(hT:T.length=64):LX 2200000 T p=some true:=by
 obtain⟨o,v,d,s,w,x,hm,hon⟩:=rU hT
 unfold LX KP I4
 rw[cG hT,AA,hm,AA,AA,BN,h,BZ,AA,AA,AA]
 simp only[BZ]
 rw[hon _ rfl]
 rfl
theorem gX(T:List UInt32)(p:Int)(h:(decide (p<1)||decide (1000<p))=true)(hT:T.length=64):KX 2200000 T p=some true:=by
 obtain⟨o,v,d,s,w,x,hm,-⟩:=rU hT
 unfold KX KP I4
 rw[cG hT,AA,hm,AA,AA,BN,h,CC,AA]
 rfl
end
end Go.Proofs.YtpaohlmgfifebaaGreatDoor
