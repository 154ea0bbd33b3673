/- The texts GG7, GG8, GG9, GG10, GG11, GG12, GG13, LG2, LG3, LG4, LG5, LG6, S24, GG14, GG15, GG16, GG17, GG18, GG19, GG20, LG7, GG21, GG22, GG23, GG24, GG25, GG26, GG27, GG28, GG29, GG30, GG31, LG1, LG8, LG9, LG10, LG11, S25, GG32, GG33, LG12, LG13, LG14, GG34, GG35, LG19, LG20, U1, one behind the other: walks of the program, and plain laws of what it computes. Conditions: as each theorem says. -/
import Derived.Test.YtpaohlmgfifebaaGreatDoorXG1
import Derived.Test.YtpaohlmgfifebaaGreatDoorXG2
import Derived.Test.YtpaohlmgfifebaaGreatDoorXG3

set_option linter.unusedVariables false
set_option linter.unusedSimpArgs false
set_option maxHeartbeats 4000000
set_option maxRecDepth 100000
namespace Go.Proofs.YtpaohlmgfifebaaGreatDoor
open Go
section
variable {K:Nat→Prop}{w0:World}{H:List AX}
theorem kc(b:Nat)(p v:Value)(e:TypeId)(n:UInt64)(w m:Nat)(xs:List UInt8)(hp:Qw b p)(hl:dz e)(hw:w≤8)(hm:m≤1048576):zC K w0 202 [vP b 0,Be n,vI w] [own b (.cells #[p,v] e),D7 5 1 v m (xs.map fun b=>FE b)] H (fun r M=>r=.tuple #[]∧∃p' v',Qw b p'∧M=[own b (.cells #[p',v'] e),D7 5 1 v' (m+w) ((xs++B0 n w).map fun b=>FE b)]):=by
 refine WN.enter Tryz.func202 rfl rfl ?_
 refine Y (J E (J E (V (AN ?_))))
 refine SX.mono (BK (α:=Nat×Value×Value) (fun x=>x.1≤w∧Qw b x.2.1) (fun x=>[(0,vP b 0),(1,Be n),(7,vI w),(8,vI x.1)]) (fun x=>own b (.cells #[x.2.1,x.2.2] e)::D7 5 1 x.2.2 (m+x.1) ((xs++B0 n x.1).map fun b=>FE b)::H) (fun x=>w-x.1) (fun x D hp=>?_) (0,p,v) ⟨Nat.zero_le _,hp⟩ |>.heap (fun w h=>by simpa[B0]using h)) tL
 obtain⟨i,p,v⟩:=x
 obtain⟨hi,hadr⟩:=hp
 simp only at hi hadr
 refine Y (Z E A9 (V (AH ?_)))
 refine A7 E (fun hc1=>?_) (fun hc1=>?_)
 have hlt:i<w:=by simpa using hc1
 refine AI (AJ (AH (AN (Y (J E (U E (V (Ax Cz [] (Bs (G4 0 8) (.last 8 .nil)) zK (J E (AT E E (AE E Uy (J E (J E ?_)))))))))))))
 refine Z E (PH zO zO) ?_
 refine Z E (GT.shr64 (n:=(8*i))) ?_
 refine BO E E (GO DH Dl) (BU (BY 2 Z2 (Qc e b p v (m+i) _ _ hadr hl zO) E ?_))
 rintro _ _ ⟨rfl,v',rfl⟩
 refine AZ (Av (AJ (AM (Z E (Bh zO zO) (J E (AZ ?_))))))
 refine A1 (i+1,vP b 0,v') ⟨hlt,.inr E⟩ (by simp only;omega) tL (fun w hw=>?_)
 simp only
 rw[Rl,←List.append_assoc,List.map_append (l₁:=xs++B0 n i),←Nat.add_assoc]
 exact hw
 have hie:i=w:=by simp at hc1;omega
 subst hie
 refine A5 (BC (Bb (BB ?_)))
 exact Da (Ed E) (Ao (M:=[_,_]) ⟨E,p,v,hadr,E⟩ fun _ h=>h)
abbrev Vw(v:Value)(s:List UInt8):AX:=D7 5 1 v s.length (s.map fun b=>FE b)
abbrev kF(b:Nat)(p v:Value):AX:=own b (.cells #[p,v] 298)
def LT(s:List UInt8)(n:UInt64)(w:Int):Option (List UInt8):=if s.length≤1048576∧0≤w∧w≤8 then some (s++B0 n w.toNat)else none
def cn(s t:List UInt8):Option (List UInt8):=if s.length≤1048576∧t.length≤1048576 then some (s++t)else none
def da(s:List UInt8):Option (List UInt8×Int):=if s.length≤4194304 then some (s,0)else none
theorem O6{b:Nat}{p v:Value}{s r:List UInt8}{n:UInt64}{w:Int}(h:LT s n w=some r)(ha:Qw b p):zC K w0 202 [vP b 0,Be n,vI w] [kF b p v,Vw v s] H (fun u M=>u=.tuple #[]∧∃p' v',Qw b p'∧M=[kF b p' v',Vw v' r]):=by
 unfold LT at h
 split at h
 rename_i hc
 obtain⟨hl,h0,h8⟩:=hc
 obtain rfl:=zI h
 obtain⟨k,rfl⟩:=Int.eq_ofNat_of_zero_le h0
 have hk:(s++B0 n k).length=s.length+k:=by simp[BP]
 have:=kc (K:=K) (w0:=w0) (H:=H) b p v 298 n k s.length s ha rS zO hl
 refine WN.mono this ?_
 rintro u M ⟨rfl,p',v',ha',rfl⟩
 refine⟨rfl,p',v',ha',?_⟩
 rw[Vw,Int.toNat_natCast,hk]
 cases h
theorem n9{b:Nat}{p v:Value}{s t r:List UInt8}(h:cn s t=some r)(ha:Qw b p):zC K w0 76 [vP b 0,vS t] [kF b p v,Vw v s] H (fun u M=>u=.tuple #[vI t.length,.nilIface]∧∃p' v',Qw b p'∧M=[kF b p' v',Vw v' r]):=by
 unfold cn at h
 split at h
 rename_i hc
 obtain⟨hl,ht⟩:=hc
 obtain rfl:=zI h
 refine WN.mono (IN 298 b p v s.length (s.map fun b=>FE b) t ha rS zO) ?_
 rintro u M ⟨rfl,v',rfl⟩
 refine⟨rfl,vP b 0,v',.inr rfl,?_⟩
 simp[Vw,List.length_append]
 cases h
def Y0(s:List UInt8)(r:BR):Option (List UInt8):=
 if r.tag.length≤32 then(LT s r.page.toUInt64 4).bind fun s1=>(U9 [0] (32-(r.tag.length:Int))).bind fun z=>(FG r.tag z).bind fun u=>cn s1 u else none
theorem n8{b:Nat}{p v:Value}{s r:List UInt8}{x:BR}(h:Y0 s x=some r)(ha:Qw b p):zC K w0 203 [vP b 0,.agg (Bd x).toArray] [kF b p v,Vw v s] H (fun u M=>u=.tuple #[]∧∃p' v',Qw b p'∧M=[kF b p' v',Vw v' r]):=by
 unfold Y0 at h
 split at h
 case isFalse=>cases h
 rename_i hlen
 refine AF h fun s1 hs1 h=>?_
 refine AF h fun z hz h=>?_
 refine AF h fun u hu h=>?_
 refine WN.enter Tryz.func203 rfl rfl ?_
 refine Y ?_
 refine Bg E E zU fun b0=>?_
 refine V (SX.pick [1,2,0] 3 (Y (J E (AE E Ds (AG 2 A4 E (BO E E (Ck CD DH) (BY 2 OT (O6 hs1 ha) E ?_)))))))
 rintro _ _ ⟨rfl,p1,v1,ha1,rfl⟩
 refine V (Ax Cz [2] (Bs [(true,0),(true,1),(true,2),(true,3),(true,4),(true,5),(true,6),(true,7),(true,8),(false,9),(true,10)] (.last 11 .nil)) zK (J E (AT E E (AE E Uy (AE E Or (AG 0 HJ E (AE E Or (AG 0 HJ E ?_))))))))
 refine B7 E Cu E (Z E (EV zO zO) (BS 0 Um (iF hz) E ⟨⟨2,E⟩,zT⟩ (Z E (CX hu) (BU (BY 2 Un (n9 h ha1) E ?_)))))
 rintro _ _ ⟨rfl,p2,v2,ha2,rfl⟩
 refine AZ ?_
 exact Da (Ed E) (Ao (M:=[_,_]) ⟨E,p2,v2,ha2,E⟩ fun _ hw=>Bj.pick (H:=[_,_,_]) hw [0,1] 3 E)
def FS(p0:C4)(nx:List UInt8×Int→Option (List UInt8×Int))(s:List UInt8)(i:Int):Option (List UInt8×Int):=
 cond (decide (i<(p0.kids.length:Int))) ((BE p0.kids i).bind fun x=>(Y0 s x).bind fun s1=>nx (s1,wI (i+1))) (da s)
def HP(p0:C4):Nat→List UInt8×Int→Option (List UInt8×Int):=CI fun nx x=>FS p0 nx x.1 x.2
def FT(p0:C4)(nx:List UInt8×Int→Option (List UInt8×Int))(s:List UInt8)(i:Int):Option (List UInt8×Int):=
 cond (decide (i<(p0.rows.length:Int))) ((BE p0.rows i).bind fun x=>(LT s x.id 8).bind fun s1=>(LT s1 x.x.toUInt64 4).bind fun s2=>(LT s2 x.y.toUInt64 4).bind fun s3=>(LT s3 (B9 (x.txt.length:Int)) 1).bind fun s4=>(cn s4 x.txt).bind fun s5=>nx (s5,wI (i+1))) (da s)
def HQ(p0:C4):Nat→List UInt8×Int→Option (List UInt8×Int):=CI fun nx x=>FT p0 nx x.1 x.2
def Fl(n:Nat)(p0:C4):Option (List UInt8×Int):=
 (NJ n p0).bind fun y=>cond (!y) (some ([],90))
  ((LT [] (B9 p0.kind) 1).bind fun s1=>cond (decide (p0.kind=2))
   ((LT s1 (B9 (p0.kids.length:Int)) 1).bind fun s2=>(LT s2 (B9 p0.lev) 1).bind fun s3=>(LT s3 p0.cx.toUInt64 4).bind fun s4=>(LT s4 p0.cy.toUInt64 4).bind fun s5=>HP p0 n (s5,0))
   ((LT s1 (B9 (p0.rows.length:Int)) 1).bind fun s2=>(Y0 s2 ⟨p0.npage,p0.ntag⟩).bind fun s3=>HQ p0 n (s3,0)))
theorem aq{n:Nat}{Mz M1:Value}{p0:C4}{r:List UInt8×Int}(h:Fl n p0=some r)(hs0_4:By K w0 AV 4 Mz p0.rows)(hs0_5:By K w0 Bd 2 M1 p0.kids):zC K w0 172 [.agg #[vI p0.kind,AB p0.cx,AB p0.cy,vI p0.lev,Mz,M1,AB p0.npage,vS p0.ntag]] [] H (fun u M=>u=.tuple #[vS r.1,vI r.2]∧M=[]):=by
 unfold Fl at h
 refine AF h fun y hy h=>?_
 refine WN.enter Tryz.func172 rfl rfl ?_
 refine Y ?_
 refine Bg E E zU fun b0=>?_
 refine U E (U E (V (AH (Y (Aw [vI p0.kind,AB p0.cx,AB p0.cy,vI p0.lev,Mz,M1,AB p0.npage,vS p0.ntag] E YI E E (Ap 0 E) (AQ 0 uc (dA hy hs0_4 hs0_5) E (CF E E (V ?_))))))))
 refine AL h E (fun hc1 h=>?_) fun hc1 h=>?_
 obtain rfl:=zI h
 refine Y (U E (U E (V (AK (Aa ?_)))))
 exact Ac [] 1 E E E
 refine AF h fun s1 hs1 h=>?_
 refine AI (AJ (Y ?_))
 refine Au E yk zU fun b1=>?_
 refine V (Y ?_)
 refine HK (fv:=#[_]) (cv:=#[]) E E E ?_
 refine U E (V (KR 5 1 (SX.pick [1,0,2] 3 (Y (J E (AE E Sq (AG 2 EF E (BO E E (Ee Im DH) (BY 2 OT (O6 hs1 (.inl E)) E ?_)))))))))
 rintro _ _ ⟨rfl,p1,v1,ha1,rfl⟩
 refine V (AH (Y (AE E Sq (AG 2 EF E (Z E Ba (V ?_))))))
 refine AL h E (fun hc2 h=>?_) fun hc2 h=>?_
 refine AF h fun s2 hs2 h=>?_
 refine AF h fun s3 hs3 h=>?_
 refine AF h fun s4 hs4 h=>?_
 refine AF h fun s5 hs5 h=>?_
 refine Y (J E (AE E GK (AG 2 MI E (Bt hs0_5 E Jk E (BO E E (Ee Im DH) (BY 2 OT (O6 hs2 ha1) E ?_))))))
 rintro _ _ ⟨rfl,p2,v2,ha2,rfl⟩
 refine V (Y (J E (AE E K0 (AE E Eg (AG 2 EF E (BO E E (Ee Im DH) (BY 2 OT (O6 hs3 ha2) E ?_)))))))
 rintro _ _ ⟨rfl,p3,v3,ha3,rfl⟩
 refine V (Y (J E (AE E K0 (AE E HE (AG 2 A4 E (BO E E (Ck CD DH) (BY 2 OT (O6 hs4 ha3) E ?_)))))))
 rintro _ _ ⟨rfl,p4,v4,ha4,rfl⟩
 refine V (Y (J E (AE E K0 (AE E HF (AG 2 A4 E (BO E E (Ck CD DH) (BY 2 OT (O6 hs5 ha4) E ?_)))))))
 rintro _ _ ⟨rfl,p5,v5,ha5,rfl⟩
 refine V (AH (Y (AE E GK (AG 2 MI E (Bt hs0_5 E Jk E (J E (V (AN ?_))))))))
 refine SX.mono (BK (α:=Nat×List UInt8×Int×Value×Value) (fun x=>HP p0 x.1 (x.2.1,x.2.2.1)=some r∧Qw b1 x.2.2.2.1) (fun x=>[(4,vP b1 0),(47,M1),(48,vI (p0.kids.length:Int)),(49,vI x.2.2.1)]) (fun x=>kF b1 x.2.2.2.1 x.2.2.2.2::Vw x.2.2.2.2 x.2.1::own b0 (.cells #[vI p0.kind,AB p0.cx,AB p0.cy,vI p0.lev,Mz,M1,AB p0.npage,vS p0.ntag] 250)::H) (fun x=>x.1) (fun x D hp=>?_) (n,s5,0,p5,v5) ⟨h,ha5⟩) tL
 obtain⟨m1,s,i,p,v⟩:=x
 obtain⟨h,ha⟩:=hp
 dsimp only at h ha
 rcases m1 with _ | m1
 cases (show(none:Option _)=some r from h)
 replace h:FS p0 (HP p0 m1) s i=some r:=h
 unfold FS at h
 try dsimp only
 refine Y (Z E A9 (V (AH ?_)))
 refine AL h E (fun hc3 h=>?_) fun hc3 h=>?_
 refine AF h fun x1 hx1 h=>?_
 refine AF h fun t1 ht1 h=>?_
 refine AI (AJ (AH (AN (Y ?_))))
 refine Co hx1 hs0_5 E Jk EZ E E fun be1 of1 hc4=>?_
 refine Aw (Bd x1) E DC E E (DT hc4) ?_
 refine Au E FU zU fun b2=>?_
 refine A3 0 E E E E EZ E E E zT (V (SX.pick [1,2,0,3] 4 (AM (Aw (Bd x1) E DC E E (Ap 2 E) (BY 2 nA (n8 ht1 ha) E ?_)))))
 rintro _ _ ⟨rfl,p6,v6,ha6,rfl⟩
 refine AZ (Av (AJ (AM (Z E Bc (J E (AZ ?_))))))
 exact A1 (m1,t1,wI (i+1),p6,v6) ⟨h,ha6⟩ (Nat.lt_succ_self _) tL (BM [0,1,3] 4 E E E)
 have hend:s.length≤140737488355328∧r=(s,0):=by
  unfold da at h
  split at h
  rename_i hc
  exact⟨by omega,(zI h).symm⟩
  cases h
 obtain⟨hend,rfl⟩:=hend
 refine A5 (BC (Bb (BB (AJ (Y (AE E Uy (AQ 2 Rx (LD 298 b1 p v s.length s hend) E (U E (U E (V (AK (Aa ?_))))))))))))
 exact Ac [] 3 E E E
 refine AF h fun s2 hs2 h=>?_
 refine AF h fun s3 hs3 h=>?_
 refine AI (AJ (Y (J E (AE E L9 (AG 2 HI E (Bt hs0_4 E Ca E (BO E E (Ee Im DH) (BY 2 OT (O6 hs2 ha1) E ?_))))))))
 rintro _ _ ⟨rfl,p2,v2,ha2,rfl⟩
 refine V (Y (AE rfl Ou (Aw (Bd ⟨p0.npage,p0.ntag⟩) rfl DC rfl rfl (Ct 2 rfl (by rintro(_ | (_ | j)) u hj<;>first | exact hj | exact absurd hj (by simp[Bd]))) (BY 2 nA (n8 hs3 ha2) rfl ?_))))
 rintro _ _ ⟨rfl,p3,v3,ha3,rfl⟩
 refine V (AH (Y (AE E L9 (AG 2 HI E (Bt hs0_4 E Ca E (J E (V (AN ?_))))))))
 refine SX.mono (BK (α:=Nat×List UInt8×Int×Value×Value) (fun x=>HQ p0 x.1 (x.2.1,x.2.2.1)=some r∧Qw b1 x.2.2.2.1) (fun x=>[(4,vP b1 0),(68,Mz),(69,vI (p0.rows.length:Int)),(5,.func (.func 202) #[vP b1 0] #[]),(70,vI x.2.2.1)]) (fun x=>kF b1 x.2.2.2.1 x.2.2.2.2::Vw x.2.2.2.2 x.2.1::own b0 (.cells #[vI p0.kind,AB p0.cx,AB p0.cy,vI p0.lev,Mz,M1,AB p0.npage,vS p0.ntag] 250)::H) (fun x=>x.1) (fun x D hp=>?_) (n,s3,0,p3,v3) ⟨h,ha3⟩) tL
 obtain⟨m1,s,i,p,v⟩:=x
 obtain⟨h,ha⟩:=hp
 dsimp only at h ha
 rcases m1 with _ | m1
 cases (show(none:Option _)=some r from h)
 replace h:FT p0 (HQ p0 m1) s i=some r:=h
 unfold FT at h
 try dsimp only
 refine Y (Z E A9 (V (AH ?_)))
 refine AL h E (fun hc3 h=>?_) fun hc3 h=>?_
 refine AF h fun x1 hx1 h=>?_
 refine AF h fun t1 ht1 h=>?_
 refine AF h fun t2 ht2 h=>?_
 refine AF h fun t3 ht3 h=>?_
 refine AF h fun t4 ht4 h=>?_
 refine AF h fun t5 ht5 h=>?_
 refine AI (AJ (AH (AN (Y ?_))))
 refine Co hx1 hs0_4 E Ca DQ E E fun be1 of1 hc4=>?_
 refine Aw (AV x1) E Hy E E (DT hc4) ?_
 refine Au E Gm zU fun b2=>?_
 refine A3 0 E E E E DQ E E E zT (V (SX.pick [1,2,0,3] 4 (Y (J E (AE E Mq (AG 2 Gl E (BY 2 OT (O6 ht1 ha) E ?_)))))))
 rintro _ _ ⟨rfl,p4,v4,ha4,rfl⟩
 refine V (Y (J E (AE E JS (AG 2 A4 E (BO E E (Ck CD DH) (BY 2 OT (O6 ht2 ha4) E ?_))))))
 rintro _ _ ⟨rfl,p5,v5,ha5,rfl⟩
 refine V (Y (J E (AE E JT (AG 2 A4 E (BO E E (Ck CD DH) (BY 2 OT (O6 ht3 ha5) E ?_))))))
 rintro _ _ ⟨rfl,p6,v6,ha6,rfl⟩
 refine V (Y (J E (AE E Ov (AG 2 HJ E (B7 E Cu E (BO E E (Ee Im DH) (BY 2 OT (O6 ht4 ha6) E ?_)))))))
 rintro _ _ ⟨rfl,p7,v7,ha7,rfl⟩
 refine V (AM (AE E Uy (AE E Ov (AG 2 HJ E (BY 2 Un (n9 ht5 ha7) E ?_)))))
 rintro _ _ ⟨rfl,p8,v8,ha8,rfl⟩
 refine AZ (Av (AJ (AM (Z E Bc (J E (AZ ?_))))))
 exact A1 (m1,t5,wI (i+1),p8,v8) ⟨h,ha8⟩ (Nat.lt_succ_self _) tL (BM [0,1,3] 4 E E E)
 have hend:s.length≤140737488355328∧r=(s,0):=by
  unfold da at h
  split at h
  rename_i hc
  exact⟨by omega,(zI h).symm⟩
  cases h
 obtain⟨hend,rfl⟩:=hend
 refine A5 (BC (Bb (BB (AJ (Y (AE E Uy (AQ 2 Rx (LD 298 b1 p v s.length s hend) E (U E (U E (V (AK ?_)))))))))))
 exact Ac [] 3 E E E
end

section
variable {K:Nat→Prop}{w0:World}{H:List AX}
end

section
variable {K:Nat→Prop}{w0:World}{H:List AX}
end

section
variable {K:Nat→Prop}{w0:World}{H:List AX}
end

section
variable {K:Nat→Prop}{w0:World}{H:List AX}
end

section
variable {K:Nat→Prop}{w0:World}{H:List AX}
end

section
variable {K:Nat→Prop}{w0:World}{H:List AX}
end

section
def HY(r:Aj):Bool:=decide (max r.x r.y<2147483648)&&decide ((r.txt.length:Int)≤16)
def FK:List Aj→Bool
 | []=>true
 | [_]=>true
 | a::b::l=>decide (a.id<b.id)&&FK (b::l)
def Du(l:List Aj):Bool:=l.all HY&&FK l&&decide ((l.length:Int)≤1000)
theorem ZZ{a b:UInt64}:decide (b≤a) = !decide (a<b):=by
 rw[Bool.eq_iff_iff]
 simp only[Bool.not_eq_true',decide_eq_false_iff_not,decide_eq_true_eq]
 rw[UInt64.le_iff_toNat_le,UInt64.lt_iff_toNat_lt]
 omega
theorem Tj:∀(l:List Aj) (a b:Aj),FK (l++[a,b])=(FK (l++[a])&&decide (a.id<b.id))
 | [],a,b=>by simp[FK]
 | [x],a,b=>by simp[FK]
 | x::y::l,a,b=>by
  have:=Tj (y::l) a b
  simp only[List.cons_append,FK]at this ⊢
  rw[this,Bool.and_assoc]
theorem gn(l r:List Aj)(h:FK (l++r)=true):FK l=true:=by
 induction l with
 | nil=>rfl
 | cons a l ih=>
  cases l with
  | nil=>rfl
  | cons b l=>
   simp only[List.cons_append,FK,Bool.and_eq_true]at h ⊢
   exact⟨h.1,ih h.2⟩
theorem VD(l:List Aj):FK l=true↔l.Pairwise fun a b=>a.id<b.id:=by
 induction l with
 | nil=>simp[FK]
 | cons a l ih=>
  cases l with
  | nil=>simp[FK]
  | cons b l=>
   simp only[FK,Bool.and_eq_true,decide_eq_true_eq,ih]
   constructor
   rintro⟨h1,h2⟩
   refine List.pairwise_cons.2 ⟨fun c hc=>?_,h2⟩
   rcases List.mem_cons.1 hc with rfl | hc
   exact h1
   have:=(List.pairwise_cons.1 h2).1 c hc
   rw[UInt64.lt_iff_toNat_lt]at*
   omega
   intro h
   exact⟨(List.pairwise_cons.1 h).1 b zS,(List.pairwise_cons.1 h).2⟩
theorem SJ{n:Nat}(l:List Aj)(hn:l.length<n)(hb:l.length≤1073741824):H4 n l=some (Du l):=by
 have key:∀(T S:List Aj),l=S++T→S.all HY=true→FK S=true→∀m,T.length<m→H7 l m (S.length:Int)=some (Du l):=by
  intro T
  induction T with
  | nil=>
   intro S hl h1 h2 m hm
   obtain⟨m,rfl⟩:∃k,m=k+1:=⟨m-1,by omega⟩
   show Ft l (H7 l m) _=_
   unfold Ft
   simp only[List.append_nil]at hl
   subst hl
   rw[zf zO,BZ]
   unfold Mc Du
   rw[BN,h1,h2]
   rfl
  | cons r T ih=>
   intro S hl h1 h2 m hm
   obtain⟨m,rfl⟩:∃k,m=k+1:=⟨m-1,by omega⟩
   have hlen:l.length=S.length+(T.length+1):=by rw[hl];simp
   show Ft l (H7 l m) _=_
   unfold Ft
   have n1:BE l (S.length:Int)=some r:=by
    rw[Fo rfl,hl]
    simp
   have hrow:H6 r=some (HY r):=by
    unfold H6
    rw[BN]
    rfl
   rw[zt zO,CC,n1,AA,hrow,AA]
   have hall:l.all HY=(HY r&&T.all HY):=by rw[hl];simp[h1]
   by_cases hr:HY r=true
   rw[hr]
   simp only[Tc,Bool.not_true,BZ]
   rcases List.eq_nil_or_concat S with rfl | ⟨S0,a,rfl⟩
   have hz:decide (0<((([]:List Aj).length:Nat):Int))=false:=rfl
   rw[hz]
   simp only[GA,BZ,AA]
   rw[CR zS zS]
   have:=ih [r] (by rw[hl];rfl) (by simp[hr]) rfl m (by simp at hm;omega)
   simpa using this
   have hz:decide (0<(((S0.concat a).length:Nat):Int))=true:=by simp
   have hcl:(S0.concat a).length=S0.length+1:=by simp
   have n2:BE l (wI (((S0.concat a).length:Int)-1))=some a:=by
    rw[CR zO zO,Fo (k:=S0.length) zO,hl]
    simp
   rw[hz]
   simp only[GA,CC,n2,AA,ZZ]
   have hl':l=(S0.concat a++[r])++T:=by rw[hl];simp
   by_cases hlt:a.id<r.id
   rw[zt hlt,Bool.not_true,BZ,CR zO zO]
   have hri:FK (S0.concat a++[r])=true:=by
    have:=Tj S0 a r
    rw[List.concat_eq_append,List.append_assoc]
    show FK (S0++[a,r])=true
    rw[this,←List.concat_eq_append,h2,zt hlt]
    rfl
   have:=ih (S0.concat a++[r]) hl' (by simp only[List.all_append,h1];simp[hr]) hri m (by simp at hm;omega)
   rw[show((S0.concat a++[r]).length:Int)=((S0.concat a).length:Int)+1 by simp only[List.length_append,List.length_singleton];omega]at this
   exact this
   rw[zf hlt,Bool.not_false,CC]
   have:FK l=false:=by
    cases hx:FK l with
    | false=>rfl
    | true=>
     rw[hl']at hx
     have h5:=gn _ _ hx
     rw[List.concat_eq_append,List.append_assoc]at h5
     have h6:FK (S0++[a,r])=true:=h5
     rw[Tj,zf hlt]at h6
     simp at h6
   unfold Du
   rw[this]
   simp
   have hr':HY r=false:=by simpa using hr
   rw[hr']
   simp only[Tc,Bool.not_false,CC,AA]
   unfold Du
   rw[hall,hr']
   simp
 have:=key l [] rfl rfl rfl n hn
 unfold H4
 simpa using this
def Eo(r:BR):Bool:=decide (2≤r.page)&&decide ((r.tag.length:Int)=32)
def Pb(r:BR):Bool:=decide (r.page=0)&&decide (r.tag=[])
theorem Ms(r:BR):Ej r=some (Eo r):=by
 unfold Ej
 rw[BN]
 rfl
def LW(c:Br):Bool:=cond (decide (c.lev<0)||decide (31<c.lev)) false (decide ((c.x ||| c.y) &&& (shl64 1 c.lev.toNat-1).toUInt32=0)&&decide (max c.x c.y<2147483648))
theorem Ry(c:Br):Jb c=some (LW c):=by
 unfold Jb LW
 cases h:decide (c.lev<0)||decide (31<c.lev)with
 | true=>rfl
 | false=>
  simp only[Bool.or_eq_false_iff,decide_eq_false_iff_not]at h
  unfold JF Sx
  rw[BZ,BZ,if_pos zO,AA,BN,AA,BN,BN]
theorem gC{n:Nat}(l:List BR)(hn:l.length<n)(hb:l.length≤1073741824):bI n l=some (!l.all Eo):=by
 have key:∀(T S:List BR),l=S++T→S.all Eo=true→∀m,T.length<m→∃y,OB l m (S.length:Int)=some y∧decide (0≤y) = !l.all Eo:=by
  intro T
  induction T with
  | nil=>
   intro S hl h1 m hm
   obtain⟨m,rfl⟩:∃k,m=k+1:=⟨m-1,by omega⟩
   simp only[List.append_nil]at hl
   subst hl
   refine⟨-1,?_,by rw[h1];rfl⟩
   show JG l (OB l m) _=_
   unfold JG
   rw[zf zO,BZ]
   rfl
  | cons r T ih=>
   intro S hl h1 m hm
   obtain⟨m,rfl⟩:∃k,m=k+1:=⟨m-1,by omega⟩
   have hlen:l.length=S.length+(T.length+1):=by rw[hl];simp
   have n1:BE l (S.length:Int)=some r:=by
    rw[Fo rfl,hl]
    simp
   by_cases hr:Eo r=true
   obtain⟨y,h5,h6⟩:=ih (S++[r]) (by rw[hl];simp) (by simp only[List.all_append,h1];simp[hr]) m (by simp at hm;omega)
   refine⟨y,?_,h6⟩
   show JG l (OB l m) _=_
   unfold JG Kz
   rw[zt zO,CC,n1,AA,Ms,AA,BN,AA,hr,Bool.not_true,BZ,CR zO zO]
   simpa using h5
   have hr':Eo r=false:=by simpa using hr
   refine⟨(S.length:Int),?_,?_⟩
   show JG l (OB l m) _=_
   unfold JG Kz
   rw[zt zO,CC,n1,AA,Ms,AA,BN,AA,hr',Bool.not_false,CC]
   rw[hl]
   simp[hr']
 obtain⟨y,h1,h2⟩:=key l [] rfl rfl n hn
 unfold bI gG
 have h1':OB l n 0=some y:=by simpa using h1
 rw[h1',AA,BN,h2]
def GL(x:C4):Bool:=
 cond (decide (x.kind=1)) ((((decide (x.cx=0)&&(decide (x.cy=0)&&(decide (x.lev=0)&&true)))&&decide ((x.kids.length:Int)=0))&&decide ((x.rows.length:Int)≤4))&&Du x.rows&&(Pb ⟨x.npage,x.ntag⟩||Eo ⟨x.npage,x.ntag⟩))
  (cond (decide (x.kind=2)) ((x.kids.all Eo&&decide ((x.rows.length:Int)=0))&&Pb ⟨x.npage,x.ntag⟩&&decide (2≤(x.kids.length:Int))&&decide ((x.kids.length:Int)≤4)&&LW ⟨x.cx,x.cy,x.lev⟩&&decide (0<x.lev)) false)
theorem PO(b c:Bool):GA b (some c)=some (b&&c):=by cases b<;>rfl
theorem Ye(b c:Bool):Tc b (some c)=some (b||c):=by cases b<;>rfl
theorem bq(r:BR):J5 r=some (Pb r):=by
 unfold J5
 rw[BN]
 unfold Pb
 simp
theorem SG{n:Nat}(x:C4)(hr:x.rows.length<n)(hk:x.kids.length<n)(hb:x.rows.length≤1073741824)(hc:x.kids.length≤1073741824):NJ n x=some (GL x):=by
 unfold NJ GL
 rw[BN]
 cases hk1:decide (x.kind=1)with
 | true=>
  rw[CC,CC,SJ x.rows hr hb,AA,PO,AA,bq,AA,Ms,AA,Ye,AA,PO,AA]
 | false=>
  rw[BZ,BZ,BN]
  cases hk2:decide (x.kind=2)with
  | true=>
   rw[CC,CC,gC x.kids hk hc,AA,bq,AA,PO,AA,Ry,AA,PO,AA,BN,Bool.not_not]
  | false=>rfl
end

section
def He(r:BR):List UInt8:=B0 r.page.toUInt64 4++(r.tag++List.replicate (32-r.tag.length) 0)
def Ks(r:Aj):List UInt8:=B0 r.id 8++(B0 r.x.toUInt64 4++(B0 r.y.toUInt64 4++(B0 (B9 (r.txt.length:Int)) 1++r.txt)))
def OW(x:C4):List UInt8:=
 B0 (B9 x.kind) 1++cond (decide (x.kind=2)) (B0 (B9 (x.kids.length:Int)) 1++(B0 (B9 x.lev) 1++(B0 x.cx.toUInt64 4++(B0 x.cy.toUInt64 4++(x.kids.map He).flatten))))
  (B0 (B9 (x.rows.length:Int)) 1++(He ⟨x.npage,x.ntag⟩++(x.rows.map Ks).flatten))
theorem cm{s:List UInt8}{n:UInt64}{w:Int}(k:Nat)(hw:w=(k:Int))(hs:s.length≤1048576)(h:k≤8):LT s n w=some (s++B0 n k):=by
 subst hw
 unfold LT
 rw[if_pos ⟨hs,by omega,by omega⟩]
 rfl
theorem Yz{s:List UInt8}{n:UInt64}(hs:s.length≤1048576):LT s n 1=some (s++B0 n 1):=cm 1 rfl hs zO
theorem cl{s:List UInt8}{n:UInt64}(hs:s.length≤1048576):LT s n 4=some (s++B0 n 4):=cm 4 rfl hs zO
theorem yW{s:List UInt8}{n:UInt64}(hs:s.length≤1048576):LT s n 8=some (s++B0 n 8):=cm 8 rfl hs zO
theorem sB{n:Int}(k:Nat)(h:n=(k:Int))(hk:k≤8192):U9 [0] n=some (List.replicate k 0):=by
 subst h
 unfold U9
 rw[if_pos ⟨rfl,by omega,by omega⟩]
 rfl
theorem kI{s t:List UInt8}(hs:s.length≤1048576)(ht:t.length≤1048576):cn s t=some (s++t):=if_pos ⟨hs,ht⟩
theorem Qf{r:BR}(h:r.tag.length≤32):(He r).length=36:=by
 unfold He
 simp[BP]
 omega
theorem kG{s:List UInt8}{r:BR}(hs:s.length≤1000000)(h:r.tag.length≤32):Y0 s r=some (s++He r):=by
 unfold Y0 He
 rw[if_pos h,cl zO,AA,sB (32-r.tag.length) zO zO,AA,DF zQ,AA,kI (by simp[BP];omega) zQ,List.append_assoc]
theorem MG{r:BR}(h:Eo r=true):r.tag.length=32∧2≤r.page.toNat:=by
 unfold Eo at h
 simp only[Bool.and_eq_true,decide_eq_true_eq]at h
 exact⟨by omega,by have:=UInt32.le_iff_toNat_le.1 h.1;simpa using this⟩
theorem eL{r:BR}(h:Pb r=true):r=⟨0,[]⟩:=by
 unfold Pb at h
 simp only[Bool.and_eq_true,decide_eq_true_eq]at h
 cases r
 simp only at h
 rw[h.1,h.2]
theorem nT(x:C4)(hb:x.kids.length≤1000):∀(T S:List BR) (s:List UInt8),x.kids=S++T→(∀r∈T,r.tag.length≤32)→s.length+36*T.length≤100000→∀m,T.length<m→HP x m (s,(S.length:Int))=some (s++(T.map He).flatten,0)
 | [],S,s,hk,ht,hs,m,hm=>by
  obtain⟨m,rfl⟩:∃k,m=k+1:=⟨m-1,by omega⟩
  show FS x (HP x m) _ _=_
  unfold FS da
  rw[hk]
  simp only[List.append_nil]
  rw[zf zO,BZ,if_pos (by simp at hs ⊢;omega)]
  simp
 | r::T,S,s,hk,ht,hs,m,hm=>by
  obtain⟨m,rfl⟩:∃k,m=k+1:=⟨m-1,by omega⟩
  have hlen:x.kids.length=S.length+(T.length+1):=by rw[hk];simp
  have n1:BE x.kids (S.length:Int)=some r:=by
   rw[Fo rfl,hk]
   simp
  simp only[List.length_cons]at hs hm
  have h32:=ht r zS
  show FS x (HP x m) _ _=_
  unfold FS
  dsimp only
  rw[zt zO,CC,n1,AA,kG zO h32,AA,CR zO zO]
  have:=nT x hb T (S++[r]) (s++He r) (by rw[hk];simp) (fun q hq=>ht q (by simp[hq])) (by simp[Qf h32];omega) m zO
  simpa using this
theorem XZ(r:Aj):(Ks r).length=17+r.txt.length:=by
 unfold Ks
 simp[BP]
 omega
theorem nU(x:C4)(hb:x.rows.length≤1000):∀(T S:List Aj) (s:List UInt8),x.rows=S++T→(∀r∈T,r.txt.length≤16)→s.length+33*T.length≤100000→∀m,T.length<m→HQ x m (s,(S.length:Int))=some (s++(T.map Ks).flatten,0)
 | [],S,s,hk,ht,hs,m,hm=>by
  obtain⟨m,rfl⟩:∃k,m=k+1:=⟨m-1,by omega⟩
  show FT x (HQ x m) _ _=_
  unfold FT da
  rw[hk]
  simp only[List.append_nil]
  rw[zf zO,BZ,if_pos (by simp at hs ⊢;omega)]
  simp
 | r::T,S,s,hk,ht,hs,m,hm=>by
  obtain⟨m,rfl⟩:∃k,m=k+1:=⟨m-1,by omega⟩
  have hlen:x.rows.length=S.length+(T.length+1):=by rw[hk];simp
  have n1:BE x.rows (S.length:Int)=some r:=by
   rw[Fo rfl,hk]
   simp
  simp only[List.length_cons]at hs hm
  have h16:=ht r zS
  show FT x (HQ x m) _ _=_
  unfold FT
  dsimp only
  rw[zt zO,CC,n1,AA,yW zO,AA,cl (by simp[BP];omega),AA,cl (by simp[BP];omega),AA,
   Yz (by simp[BP];omega),AA,kI (by simp[BP];omega) zO,AA,CR zO zO]
  have:=nU x hb T (S++[r]) (s++Ks r) (by rw[hk];simp) (fun q hq=>ht q (by simp[hq])) (by simp[XZ];omega) m zO
  simpa[Ks]using this
theorem Td{x:C4}(h:GL x=true)(hk:x.kind=1):x.cx=0∧x.cy=0∧x.lev=0∧x.kids=[]∧x.rows.length≤4∧Du x.rows=true∧((x.npage=0∧x.ntag=[])∨Eo ⟨x.npage,x.ntag⟩=true):=by
 unfold GL at h
 rw[zt hk,CC]at h
 simp only[Bool.and_eq_true,decide_eq_true_eq,Bool.or_eq_true,Bool.and_true]at h
 obtain⟨⟨⟨⟨⟨h1,h2,h3⟩,h4⟩,h5⟩,h6⟩,h7⟩:=h
 refine⟨h1,h2,h3,List.length_eq_zero_iff.1 zO,by omega,h6,?_⟩
 rcases h7 with h7 | h7
 have:=eL h7
 simp only[BR.mk.injEq]at this
 exact .inl this
 exact .inr h7
theorem SF{x:C4}(h:GL x=true)(hk:x.kind≠1):x.kind=2∧(∀r∈x.kids,Eo r=true)∧x.rows=[]∧x.npage=0∧x.ntag=[]∧2≤x.kids.length∧x.kids.length≤4∧LW ⟨x.cx,x.cy,x.lev⟩=true∧0<x.lev:=by
 unfold GL at h
 rw[zf hk,BZ]at h
 cases hk2:decide (x.kind=2)with
 | false=>rw[hk2]at h;cases h
 | true=>
  rw[hk2,CC]at h
  simp only[Bool.and_eq_true,decide_eq_true_eq]at h
  obtain⟨⟨⟨⟨⟨⟨h1,h2⟩,h3⟩,h4⟩,h5⟩,h6⟩,h7⟩:=h
  have:=eL h3
  simp only[BR.mk.injEq]at this
  exact⟨by simpa using hk2,fun r hr=>List.all_eq_true.1 h1 r hr,List.length_eq_zero_iff.1 zO,this.1,this.2,by omega,by omega,h6,h7⟩
theorem VC{l:List Aj}(h:Du l=true):∀r∈l,r.txt.length≤16:=fun r hr=>by
 unfold Du at h
 simp only[Bool.and_eq_true]at h
 have:=List.all_eq_true.1 h.1.1 r hr
 unfold HY at this
 simp only[Bool.and_eq_true,decide_eq_true_eq]at this
 omega
theorem We{n:Nat}{x:C4}(hn:10≤n)(h:GL x=true):Fl n x=some (OW x,0):=by
 by_cases hk:x.kind=1
 obtain⟨h1,h2,h3,h4,h5,h6,h7⟩:=Td h hk
 have h32:x.ntag.length≤32:=by
  rcases h7 with h7 | h7
  rw[h7.2];simp
  have:=(MG h7).1
  simp only at this
  omega
 unfold Fl OW
 rw[SG x zO (by rw[h4];simp;omega) zO (by rw[h4];simp),AA,h,Bool.not_true,BZ,Yz zS,AA,show decide (x.kind=2)=false by rw[hk];rfl,BZ,BZ,
  Yz (by simp[BP]),AA,kG (by simp[BP]) h32,AA]
 have:=nU x zO x.rows [] (B0 (B9 x.kind) 1++(B0 (B9 (x.rows.length:Int)) 1++He ⟨x.npage,x.ntag⟩)) rfl (VC h6) (by simp[BP,Qf (r:=⟨x.npage,x.ntag⟩) h32];omega) n zO
 simpa using this
 obtain⟨hk2,h1,h2,h3,h4,h5,h6,h7,h8⟩:=SF h hk
 unfold Fl OW
 rw[SG x (by rw[h2];simp;omega) zO (by rw[h2];simp) zO,AA,h,Bool.not_true,BZ,Yz zS,AA,show decide (x.kind=2)=true by rw[hk2];rfl,CC,CC,
  Yz (by simp[BP]),AA,Yz (by simp[BP]),AA,cl (by simp[BP]),AA,cl (by simp[BP]),AA]
 have:=nT x zO x.kids [] (B0 (B9 x.kind) 1++(B0 (B9 (x.kids.length:Int)) 1++(B0 (B9 x.lev) 1++(B0 x.cx.toUInt64 4++B0 x.cy.toUInt64 4)))) rfl (fun r hr=>by have:=(MG (h1 r hr)).1;omega) (by simp[BP];omega) n zO
 simpa using this
theorem bF{n:Nat}{x:C4}(hr:x.rows.length<n)(hk:x.kids.length<n)(hb:x.rows.length≤1073741824)(hc:x.kids.length≤1073741824)(h:GL x=false):Fl n x=some ([],90):=by
 unfold Fl
 rw[SG x hr hk hb hc,AA,h]
 rfl
theorem W1{k:Nat}(h:k<4294967296):(B9 (k:Int)).toNat=k:=by
 simp only[B9,UInt64.toNat_ofNat']
 omega
end

section
def bl(n:Nat):Nat:=if n=0 then 0 else Nat.log2 n+1
theorem kY(n:Nat):n<2^bl n:=by
 unfold bl
 split
 rename_i h;subst h;simp
 exact Nat.lt_log2_self
theorem fF{n k:Nat}(h:n<2^k):bl n≤k:=by
 unfold bl
 split
 omega
 rename_i h0
 exact(Nat.log2_lt h0).2 h
theorem qN{n:Nat}(h:0<bl n):2^(bl n-1)≤n:=by
 rcases Nat.lt_or_ge n (2^(bl n-1))with h1 | h1
 have:=fF h1
 omega
 exact h1
theorem qO{n L:Nat}(h1:n<2^L)(h2:L=0∨2^(L-1)≤n):bl n=L:=by
 have a:=fF h1
 rcases h2 with h2 | h2
 omega
 rcases Nat.lt_or_ge (bl n) L with h | h
 have h3:2^bl n≤2^(L-1):=Nat.pow_le_pow_right zD zO
 have h4:=kY n
 omega
 omega
theorem dS{n k:Nat}(h:2^k≤n):bl n=k+bl (n / 2^k):=by
 have hp:=Nat.two_pow_pos k
 have h0:0<n / 2^k:=Nat.div_pos h hp
 have hb:0<bl (n / 2^k):=by
  unfold bl
  rw[if_neg zO]
  omega
 refine qO ?_ (.inr ?_)
 rw[Nat.pow_add]
 have:=kY (n / 2^k)
 rw[Nat.mul_comm]
 exact(Nat.div_lt_iff_lt_mul hp).1 this
 have:=qN hb
 rw[show k+bl (n / 2^k)-1=k+(bl (n / 2^k)-1) by omega,Nat.pow_add]
 calc 2^k*2^(bl (n / 2^k)-1)≤2^k*(n / 2^k):=Nat.mul_le_mul_left _ this
  _≤n:=Nat.mul_div_le _ _
def ng:List UInt8:=[0,1,2,2,3,3,3,3,4,4,4,4,4,4,4,4,5,5,5,5,5,5,5,5,5,5,5,5,5,5,5,5]++List.replicate 32 6++List.replicate 64 7++List.replicate 128 8
theorem wB:∀b:Fin 256,ng[b.val]? = some (UInt8.ofNat (bl b.val)):=by decide +kernel
theorem ni(a:UInt32)(ha:a.toNat<256)(k:Nat)(hk:k≤24):Qr a (k:Int)=some ((k+bl a.toNat:Nat):Int):=by
 have hb:a.toUInt8.toNat=a.toNat:=by
  rw[UInt32.toNat_toUInt8]
  omega
 have h8:bl a.toNat≤8:=fF zO
 unfold Qr
 have ht:BE ng (a.toUInt8.toNat:Int)=some (UInt8.ofNat (bl a.toNat)):=by
  rw[EP,hb]
  exact wB ⟨a.toNat,ha⟩
 refine(congrArg (fun x=>Option.bind x _) (show BE _ _=some (UInt8.ofNat (bl a.toNat))from ht)).trans ?_
 rw[AA,BN]
 have:(UInt8.ofNat (bl a.toNat)).toNat=bl a.toNat:=by simp;omega
 rw[this,CR zO zO]
 rfl
theorem cU(n:UInt32)(k:Nat)(h:k≤32):(shr32 n k).toNat=n.toNat / 2^k:=by
 have h1:=n.toNat_lt
 simp only[shr32,UInt32.toNat_ofNat',Nat.min_eq_left h]
 exact Nat.mod_eq_of_lt (Nat.lt_of_le_of_lt (Nat.div_le_self _ _) h1)
theorem nh(a:UInt32)(ha:a.toNat<65536)(k:Nat)(hk:k≤16):Qq a (k:Int)=some ((k+bl a.toNat:Nat):Int):=by
 unfold Qq
 by_cases h:256≤a.toNat
 rw[zt (show(256:UInt32)≤a by rw[UInt32.le_iff_toNat_le];exact h),CC,BN,BN,CR zO zO]
 have hs:=cU a 8 zD
 have:=ni (shr32 a 8) (by rw[hs];omega) (k+8) zO
 rw[show(k:Int)+8=((k+8:Nat):Int) by omega,this,hs]
 have hb:=dS (n:=a.toNat) (k:=8) zO
 congr 2
 omega
 rw[zf (show ¬(256:UInt32)≤a by rw[UInt32.le_iff_toNat_le];exact h),BZ]
 exact ni a zO k zO
theorem om(a:UInt32):bJ a=some ((bl a.toNat:Nat):Int):=by
 have h32:=a.toNat_lt
 unfold bJ
 by_cases h:65536≤a.toNat
 rw[zt (show(65536:UInt32)≤a by rw[UInt32.le_iff_toNat_le];exact h),CC,BN]
 have hs:=cU a 16 zD
 have:=nh (shr32 a 16) (by rw[hs];omega) 16 zO
 rw[show((16:Nat):Int)=16 from rfl]at this
 rw[this,hs]
 have hb:=dS (n:=a.toNat) (k:=16) zO
 congr 2
 omega
 rw[zf (show ¬(65536:UInt32)≤a by rw[UInt32.le_iff_toNat_le];exact h),BZ]
 have:=nh a zO 0 zO
 rw[show((0:Nat):Int)=0 from rfl,Nat.zero_add]at this
 exact this
theorem Za{a b L:Nat}:a ^^^ b<2^L↔a / 2^L=b / 2^L:=by
 constructor
 intro h
 have h1:(a ^^^ b) / 2^L=0:=Nat.div_eq_of_lt h
 have h2:(a / 2^L) ^^^ (b / 2^L)=0:=by rw[←Nat.xor_div_two_pow];exact h1
 calc a / 2^L=a / 2^L ^^^ (b / 2^L ^^^ b / 2^L):=by rw[Nat.xor_self,Nat.xor_zero]
  _=b / 2^L:=by rw[←Nat.xor_assoc,h2,Nat.zero_xor]
 intro h
 have h2:(a ^^^ b) / 2^L=0:=by rw[Nat.xor_div_two_pow,h,Nat.xor_self]
 exact(Nat.div_eq_zero_iff_lt (Nat.two_pow_pos L)).1 h2
theorem lI{a b L:Nat}:a ||| b<2^L↔a<2^L∧b<2^L:=by
 constructor
 intro h
 exact⟨Nat.lt_of_le_of_lt Nat.left_le_or h,Nat.lt_of_le_of_lt Nat.right_le_or h⟩
 intro h
 exact Nat.or_lt_two_pow h.1 h.2
theorem lk{L:Nat}(h:L≤31):(shl32 1 L).toNat=2^L:=by
 simp only[shl32,UInt32.toNat_ofNat',Nat.min_eq_left (show L≤32 by omega)]
 have:2^L≤2^31:=Nat.pow_le_pow_right zD h
 rw[show(1:UInt32).toNat=1 from rfl,Nat.one_mul]
 exact Nat.mod_eq_of_lt (Nat.lt_of_le_of_lt this zD)
theorem xY{L:Nat}(h:L≤31):(shl32 1 L-1).toNat=2^L-1:=by
 have h1:=lk h
 have h2:=Nat.two_pow_pos L
 have h3:2^L≤2^31:=Nat.pow_le_pow_right zD h
 rw[UInt32.toNat_sub_of_le _ _ (by rw[UInt32.le_iff_toNat_le,h1];exact h2),h1]
 rfl
theorem oM{a L:Nat}(hL:L≤32)(ha:a<2^32):a &&& (2^32-2^L)=a / 2^L*2^L:=by
 apply Nat.eq_of_testBit_eq
 intro i
 have hp:=Nat.two_pow_pos L
 have hx:2^L-1<2^32:=by
  have:2^L≤2^32:=Nat.pow_le_pow_right zD hL
  omega
 rw[Nat.testBit_and,show 2^32-2^L=2^32-((2^L-1)+1) by rw[Nat.sub_add_cancel hp],Nat.testBit_two_pow_sub_succ hx,Nat.testBit_two_pow_sub_one,Nat.testBit_mul_two_pow,Nat.testBit_div_two_pow]
 by_cases h1:i<L
 rw[zt h1,zf (show ¬L≤i by omega)]
 simp
 rw[zf h1,zt (show L≤i by omega),Nat.sub_add_cancel zO]
 by_cases h2:i<32
 rw[zt h2];simp
 rw[Nat.testBit_lt_two_pow (Nat.lt_of_lt_of_le ha (Nat.pow_le_pow_right zD zO))]
 simp
theorem Vh(a:UInt32){L:Nat}(h:L≤31):(a &&& ~~~(shl32 1 L-1)).toNat=a.toNat / 2^L*2^L:=by
 have h1:=xY h
 have h2:=Nat.two_pow_pos L
 rw[UInt32.toNat_and,UInt32.toNat_not,h1,show UInt32.size-1-(2^L-1)=2^32-2^L by
  show 4294967296-1-(2^L-1)=4294967296-2^L
  omega]
 exact oM zO a.toNat_lt
theorem aR(x y:UInt32){L:Nat}(h:L≤31):Jr x y (L:Int)=some ⟨x &&& ~~~(shl32 1 L-1),y &&& ~~~(shl32 1 L-1),L⟩:=by
 unfold Jr Sx
 rw[if_pos zO,AA,BN]
 rfl
theorem oh{x y u v:UInt32}(hx:x.toNat<2147483648)(hy:y.toNat<2147483648)(hu:u.toNat<2147483648)(hv:v.toNat<2147483648):
  ∃L:Nat,L≤31∧NF x y u v=some (⟨x &&& ~~~(shl32 1 L-1),y &&& ~~~(shl32 1 L-1),L⟩,0)∧x.toNat / 2^L=u.toNat / 2^L∧y.toNat / 2^L=v.toNat / 2^L∧
   (0<L→x.toNat / 2^(L-1)≠u.toNat / 2^(L-1)∨y.toNat / 2^(L-1)≠v.toNat / 2^(L-1)):=by
 have hn:((x ^^^ u) ||| (y ^^^ v)).toNat=(x.toNat ^^^ u.toNat) ||| (y.toNat ^^^ v.toNat):=by rw[UInt32.toNat_or,UInt32.toNat_xor,UInt32.toNat_xor]
 have hk:∀L,((x ^^^ u) ||| (y ^^^ v)).toNat<2^L↔x.toNat / 2^L=u.toNat / 2^L∧y.toNat / 2^L=v.toNat / 2^L:=fun L=>by
  rw[hn,lI,Za,Za]
 have h31:((x ^^^ u) ||| (y ^^^ v)).toNat<2^31:=(hk 31).2 ⟨by omega,by omega⟩
 have hL:=fF h31
 obtain⟨e1,e2⟩:=(hk _).1 (kY ((x ^^^ u) ||| (y ^^^ v)).toNat)
 refine⟨bl ((x ^^^ u) ||| (y ^^^ v)).toNat,hL,?_,e1,e2,fun h0=>?_⟩
 unfold NF
 have hm:decide (2147483648≤max (max (max x y) u) v)=false:=by
  rw[decide_eq_false_iff_not,UInt32.le_iff_toNat_le,K8,K8,K8]
  show ¬(2147483648≤_)
  omega
 rw[hm,BZ,om,AA,aR x y hL,AA,aR u v hL,AA]
 have ex:x &&& ~~~(shl32 1 (bl ((x ^^^ u) ||| (y ^^^ v)).toNat)-1)=u &&& ~~~(shl32 1 (bl ((x ^^^ u) ||| (y ^^^ v)).toNat)-1):=UInt32.toNat_inj.1 (by rw[Vh x hL,Vh u hL,e1])
 have ey:y &&& ~~~(shl32 1 (bl ((x ^^^ u) ||| (y ^^^ v)).toNat)-1)=v &&& ~~~(shl32 1 (bl ((x ^^^ u) ||| (y ^^^ v)).toNat)-1):=UInt32.toNat_inj.1 (by rw[Vh y hL,Vh v hL,e2])
 simp only[ex,ey,decide_true,Bool.and_self,Bool.not_true,BZ]
 have hge:=qN h0
 have:¬((x ^^^ u) ||| (y ^^^ v)).toNat<2^(bl ((x ^^^ u) ||| (y ^^^ v)).toNat-1):=zO
 rw[hk]at this
 exact Classical.not_and_iff_not_or_not.1 this
end

section
def qd(L:Nat)(r:Aj):Nat:=(r.x.toNat / 2^(L-1))%2+2*((r.y.toNat / 2^(L-1))%2)
structure AR(c:Br)(l:List Aj)(L:Nat):Prop where
 lev:c.lev=(L:Int)
 le:L≤31
 cx:c.x.toNat%2^L=0
 cy:c.y.toNat%2^L=0
 lx:c.x.toNat<2147483648
 ly:c.y.toNat<2147483648
 inn:∀r∈l,r.x.toNat / 2^L=c.x.toNat / 2^L∧r.y.toNat / 2^L=c.y.toNat / 2^L
 two:0<L→∃r∈l,∃s∈l,qd L r≠qd L s
theorem Pc{r:Aj}(h:HY r=true):r.x.toNat<2147483648∧r.y.toNat<2147483648∧r.txt.length≤16:=by
 unfold HY at h
 simp only[Bool.and_eq_true,decide_eq_true_eq]at h
 have:=UInt32.lt_iff_toNat_lt.1 h.1
 rw[K8]at this
 have h2:max r.x.toNat r.y.toNat<2147483648:=this
 omega
theorem GQ{a L:Nat}(h:0<L):a / 2^(L-1) / 2=a / 2^L:=by
 rw[Nat.div_div_eq_div_mul,←Nat.pow_succ,Nat.succ_eq_add_one,Nat.sub_add_cancel h]
theorem fE{n:Nat}{l:List Aj}(hl:l≠[])(hn:l.length<n)(hb:l.length≤1000000)(ok:∀r∈l,HY r=true):∃c L,Jx n l=some c∧AR c l L:=by
 have key:∀(T S:List Aj) (x y u v:UInt32),l=S++T→(∀r∈S,x.toNat≤r.x.toNat∧r.x.toNat≤u.toNat∧y.toNat≤r.y.toNat∧r.y.toNat≤v.toNat)→(∃r∈l,r.x=x)→(∃r∈l,r.y=y)→(∃r∈l,r.x=u)→(∃r∈l,r.y=v)→
   ∀m,T.length<m→∃c L,HM l m (x,y,u,v,(S.length:Int))=some c∧AR c l L:=by
  intro T
  induction T with
  | nil=>
   intro S x y u v hS hin hx hy hu hv m hm
   obtain⟨m,rfl⟩:∃k,m=k+1:=⟨m-1,by omega⟩
   simp only[List.append_nil]at hS
   subst hS
   obtain⟨rx,hrx,ex⟩:=hx
   obtain⟨ry,hry,ey⟩:=hy
   obtain⟨ru,hru,eu⟩:=hu
   obtain⟨rv,hrv,ev⟩:=hv
   have lx:=(Pc (ok rx hrx)).1
   have ly:=(Pc (ok ry hry)).2.1
   have lu:=(Pc (ok ru hru)).1
   have lv:=(Pc (ok rv hrv)).2.1
   rw[ex]at lx
   rw[ey]at ly
   rw[eu]at lu
   rw[ev]at lv
   obtain⟨L,hL,hle,d1,d2,d3⟩:=oh lx ly lu lv
   have hp:=Nat.two_pow_pos L
   have hcx:=Vh x hL
   have hcy:=Vh y hL
   refine⟨⟨x &&& ~~~(shl32 1 L-1),y &&& ~~~(shl32 1 L-1),L⟩,L,?_,⟨rfl,hL,?_,?_,?_,?_,fun r hr=>?_,fun h0=>?_⟩⟩
   show FO l (HM l m) _ _ _ _ _=_
   unfold FO
   dsimp only
   rw[zf zO,BZ]
   unfold La
   rw[hle,AA]
   show(x &&& ~~~(shl32 1 L-1)).toNat%2^L=0
   rw[hcx]
   exact Nat.mul_mod_left _ _
   show(y &&& ~~~(shl32 1 L-1)).toNat%2^L=0
   rw[hcy]
   exact Nat.mul_mod_left _ _
   show(x &&& ~~~(shl32 1 L-1)).toNat<_
   rw[hcx]
   exact Nat.lt_of_le_of_lt (Nat.div_mul_le_self _ _) lx
   show(y &&& ~~~(shl32 1 L-1)).toNat<_
   rw[hcy]
   exact Nat.lt_of_le_of_lt (Nat.div_mul_le_self _ _) ly
   show r.x.toNat / 2^L=(x &&& ~~~(shl32 1 L-1)).toNat / 2^L∧r.y.toNat / 2^L=(y &&& ~~~(shl32 1 L-1)).toNat / 2^L
   rw[hcx,hcy,Nat.mul_div_cancel _ hp,Nat.mul_div_cancel _ hp]
   obtain⟨a1,a2,a3,a4⟩:=hin r hr
   have b1:=Nat.div_le_div_right (c:=2^L) a1
   have b2:=Nat.div_le_div_right (c:=2^L) a2
   have b3:=Nat.div_le_div_right (c:=2^L) a3
   have b4:=Nat.div_le_div_right (c:=2^L) a4
   omega
   have g1:=GQ (a:=x.toNat) h0
   have g2:=GQ (a:=u.toNat) h0
   have g3:=GQ (a:=y.toNat) h0
   have g4:=GQ (a:=v.toNat) h0
   rcases d3 h0 with d | d
   refine⟨rx,hrx,ru,hru,fun e=>?_⟩
   unfold qd at e
   rw[ex,eu]at e
   omega
   refine⟨ry,hry,rv,hrv,fun e=>?_⟩
   unfold qd at e
   rw[ey,ev]at e
   omega
  | cons r T ih=>
   intro S x y u v hS hin hx hy hu hv m hm
   obtain⟨m,rfl⟩:∃k,m=k+1:=⟨m-1,by omega⟩
   have hlen:l.length=S.length+(T.length+1):=by rw[hS];simp
   have hr:r∈l:=by rw[hS];simp
   have n1:BE l (S.length:Int)=some r:=by
    rw[Fo rfl,hS]
    simp
   have hmin:∀a b:UInt32,min a b=a∨min a b=b:=fun a b=>by
    show(if a≤b then a else b)=a∨(if a≤b then a else b)=b
    split
    exact .inl rfl
    exact .inr rfl
   have hmax:∀a b:UInt32,max a b=a∨max a b=b:=fun a b=>by
    show(if a≤b then b else a)=a∨(if a≤b then b else a)=b
    split
    exact .inr rfl
    exact .inl rfl
   obtain⟨c,L,hc,hA⟩:=ih (S++[r]) (min x r.x) (min y r.y) (max u r.x) (max v r.y) (by rw[hS];simp) (fun q hq=>by
    rw[ci,ci,K8,K8]
    rcases List.mem_append.1 hq with hq | hq
    have:=hin q hq
    omega
    rw[List.mem_singleton.1 hq]
    omega) (by
    rcases hmin x r.x with e | e<;>rw[e]
    exact hx
    exact⟨r,hr,rfl⟩) (by
    rcases hmin y r.y with e | e<;>rw[e]
    exact hy
    exact⟨r,hr,rfl⟩) (by
    rcases hmax u r.x with e | e<;>rw[e]
    exact hu
    exact⟨r,hr,rfl⟩) (by
    rcases hmax v r.y with e | e<;>rw[e]
    exact hv
    exact⟨r,hr,rfl⟩) m (by simp at hm;omega)
   refine⟨c,L,?_,hA⟩
   show FO l (HM l m) _ _ _ _ _=_
   unfold FO
   dsimp only
   rw[zt zO,CC,n1,AA,BN,BN,BN,BN,CR zO zO]
   rw[show((S++[r]).length:Int)=(S.length:Int)+1 by simp only[List.length_append,List.length_singleton];omega]at hc
   exact hc
 obtain⟨r0,l0,rfl⟩:∃r0 l0,l=r0::l0:=by
  cases l with
  | nil=>exact absurd rfl hl
  | cons r0 l0=>exact⟨r0,l0,rfl⟩
 obtain⟨c,L,hc,hA⟩:=key (r0::l0) [] r0.x r0.y r0.x r0.y rfl zS ⟨r0,by simp,rfl⟩ ⟨r0,by simp,rfl⟩ ⟨r0,by simp,rfl⟩ ⟨r0,by simp,rfl⟩ n hn
 refine⟨c,L,?_,hA⟩
 unfold Jx
 have n0:BE (r0::l0) 0=some r0:=rfl
 rw[n0,AA,AA,AA,AA]
 exact hc
theorem size_eq{c:Br}{L:Nat}(h:c.lev=(L:Int)):JF c=some (shl64 1 L):=by
 unfold JF Sx
 rw[h,if_pos zO,AA,BN]
 rfl
theorem Nz{L:Nat}(h:L≤31):(shl64 1 L).toNat=2^L:=by
 simp only[shl64,UInt64.toNat_ofNat',Nat.min_eq_left (show L≤64 by omega)]
 have:2^L≤2^31:=Nat.pow_le_pow_right zD h
 rw[show(1:UInt64).toNat=1 from rfl,Nat.one_mul]
 exact Nat.mod_eq_of_lt (Nat.lt_of_le_of_lt this zD)
theorem k7{L:Nat}(h:L≤31):(shl64 1 L-1).toUInt32.toNat=2^L-1:=by
 have h1:=Nz h
 have h2:=Nat.two_pow_pos L
 have h3:2^L≤2^31:=Nat.pow_le_pow_right zD h
 rw[UInt64.toNat_toUInt32,UInt64.toNat_sub_of_le _ _ (by rw[UInt64.le_iff_toNat_le,h1];exact h2),h1]
 show(2^L-1)%4294967296=_
 exact Nat.mod_eq_of_lt zO
theorem bA{c:Br}{L:Nat}(h:c.lev=(L:Int))(hL:L≤31)(hx:c.x.toNat%2^L=0)(hy:c.y.toNat%2^L=0)(lx:c.x.toNat<2147483648)(ly:c.y.toNat<2147483648):LW c=true:=by
 unfold LW
 rw[h,show(decide ((L:Int)<0)||decide (31<(L:Int)))=false by simp;omega,BZ,Int.toNat_natCast,Bool.and_eq_true,decide_eq_true_eq,decide_eq_true_eq]
 constructor
 apply UInt32.toNat_inj.1
 rw[UInt32.toNat_and,k7 hL,UInt32.toNat_or,Nat.and_two_pow_sub_one_eq_mod,Nat.or_mod_two_pow,hx,hy]
 rfl
 rw[UInt32.lt_iff_toNat_lt,K8]
 show max _ _<2147483648
 omega
theorem AR.ok{c:Br}{l:List Aj}{L:Nat}(A:AR c l L):LW c=true:=bA A.lev A.le A.cx A.cy A.lx A.ly
theorem Ss{a P:Nat}(hP:a%P=0)(ha:a<2147483648)(hd:∃k,k*P=2147483648):a+P≤2147483648:=by
 obtain⟨k,hk⟩:=hd
 have h1:a=a / P*P:=by
  have:=Nat.div_add_mod a P
  rw[hP,Nat.add_zero,Nat.mul_comm]at this
  exact this.symm
 have h2:a / P<k:=by
  rcases Nat.lt_or_ge (a / P) k with h | h
  exact h
  have:=Nat.mul_le_mul_right P h
  omega
 have h3:(a / P+1)*P≤k*P:=Nat.mul_le_mul_right P h2
 rw[Nat.add_mul,Nat.one_mul]at h3
 omega
theorem Pa{L:Nat}(h:L≤31):∃k,k*2^L=2147483648:=⟨2^(31-L),by rw[←Nat.pow_add,Nat.sub_add_cancel h]⟩
theorem bn{a q P:Nat}(hP:0<P)(hq:q%P=0):(q≤a∧a≤q+(P-1))↔a / P=q / P:=by
 have h1:q=q / P*P:=by
  have:=Nat.div_add_mod q P
  rw[hq,Nat.add_zero,Nat.mul_comm]at this
  exact this.symm
 have h2:=Nat.div_add_mod a P
 have h3:=Nat.mod_lt a hP
 constructor
 rintro⟨g1,g2⟩
 have g3:q / P≤a / P:=Nat.div_le_div_right g1
 have g4:a / P<q / P+1:=by
  refine(Nat.div_lt_iff_lt_mul hP).2 ?_
  rw[Nat.add_mul,Nat.one_mul,←h1]
  omega
 omega
 intro g
 rw[g,Nat.mul_comm,←h1]at h2
 omega
theorem i9{q:Br}{M:Nat}(x y:UInt32)(h:q.lev=(M:Int))(hM:M≤31)(hx:q.x.toNat%2^M=0)(hy:q.y.toNat%2^M=0)(lx:q.x.toNat<2147483648)(ly:q.y.toNat<2147483648):
  OA q x y=some (decide (x.toNat / 2^M=q.x.toNat / 2^M)&&decide (y.toNat / 2^M=q.y.toNat / 2^M)):=by
 have hp:=Nat.two_pow_pos M
 have mx:=Ss hx lx (Pa hM)
 have my:=Ss hy ly (Pa hM)
 have hf:=k7 hM
 have ex:(q.x+(shl64 1 M-1).toUInt32).toNat=q.x.toNat+(2^M-1):=by rw[UInt32.toNat_add,hf];omega
 have ey:(q.y+(shl64 1 M-1).toUInt32).toNat=q.y.toNat+(2^M-1):=by rw[UInt32.toNat_add,hf];omega
 unfold OA
 rw[Ry,bA h hM hx hy lx ly,AA]
 unfold Rh TL MU
 rw[size_eq h]
 simp only[AA,BN,GA,CC]
 congr 1
 rw[Bool.eq_iff_iff]
 simp only[Bool.and_eq_true,decide_eq_true_eq,UInt32.le_iff_toNat_le,UInt32.lt_iff_toNat_lt,K8,ex,ey,←bn hp hx,←bn hp hy]
 constructor
 rintro⟨⟨⟨⟨_,h1⟩,h2⟩,h3⟩,h4⟩
 exact⟨⟨h1,h2⟩,h3,h4⟩
 rintro⟨⟨h1,h2⟩,h3,h4⟩
 refine⟨⟨⟨⟨⟨⟨by omega,by omega⟩,?_⟩,h1⟩,h2⟩,h3⟩,h4⟩
 show max _ _<2147483648
 omega
theorem pW{c:Br}{l:List Aj}{L:Nat}(A:AR c l L)(h0:0<L){r:Aj}(hr:r∈l):Gn c r.x r.y=some ((qd L r:Int),0):=by
 have hL:=A.le
 have hp:=Nat.two_pow_pos (L-1)
 obtain⟨i1,i2⟩:=A.inn r hr
 have mx:=Ss A.cx A.lx (Pa hL)
 have my:=Ss A.cy A.ly (Pa hL)
 have e2:2^L=2^(L-1)*2:=by rw[←Nat.pow_succ,Nat.succ_eq_add_one,Nat.sub_add_cancel h0]
 have hh:(shl64 1 L / 2).toUInt32.toNat=2^(L-1):=by
  rw[UInt64.toNat_toUInt32,UInt64.toNat_div,Nz hL,show(2:UInt64).toNat=2 from rfl,e2,Nat.mul_div_cancel _ zD]
  show _%4294967296=_
  have:2^(L-1)≤2^31:=Nat.pow_le_pow_right zD zO
  exact Nat.mod_eq_of_lt zO
 have hx2:c.x.toNat%2^(L-1)=0:=by
  have:=A.cx
  rw[e2]at this
  rw[←Nat.mod_mul_right_mod c.x.toNat (2^(L-1)) 2,this]
  simp
 have hy2:c.y.toNat%2^(L-1)=0:=by
  have:=A.cy
  rw[e2]at this
  rw[←Nat.mod_mul_right_mod c.y.toNat (2^(L-1)) 2,this]
  simp
 have gx:=GQ (a:=c.x.toNat) h0
 have gy:=GQ (a:=c.y.toNat) h0
 have rx:=GQ (a:=r.x.toNat) h0
 have ry:=GQ (a:=r.y.toNat) h0
 have cxe:c.x.toNat / 2^(L-1)%2=0:=by
  have:=A.cx
  rw[e2,Nat.mod_mul]at this
  have h5:2^(L-1)*(c.x.toNat / 2^(L-1)%2)=0:=zO
  rcases Nat.mul_eq_zero.1 h5 with h6 | h6
  omega
  exact h6
 have cye:c.y.toNat / 2^(L-1)%2=0:=by
  have:=A.cy
  rw[e2,Nat.mod_mul]at this
  have h5:2^(L-1)*(c.y.toNat / 2^(L-1)%2)=0:=zO
  rcases Nat.mul_eq_zero.1 h5 with h6 | h6
  omega
  exact h6
 generalize hhd:(shl64 1 L / 2).toUInt32=hf at hh
 
 have c0:∀a:UInt32,(a+hf*0)=a:=fun a=>by simp
 have c1:∀a:UInt32,a.toNat+2^L≤2147483648→(a+hf*1).toNat=a.toNat+2^(L-1):=fun a ha=>by
  rw[UInt32.mul_one,UInt32.toNat_add,hh]
  rw[e2]at ha
  omega
 have m1:∀a:Nat,a%2^(L-1)=0→(a+2^(L-1))%2^(L-1)=0:=fun a ha=>by simp[ha]
 have d1:∀a:Nat,(a+2^(L-1)) / 2^(L-1)=a / 2^(L-1)+1:=fun a=>Nat.add_div_right a hp
 have hlev:wI (c.lev-1)=((L-1:Nat):Int):=by rw[A.lev,CR zO zO];omega
 have hasq:∀(qx qy:UInt32) (bx by_:Nat),qx.toNat=c.x.toNat+bx*2^(L-1)→qy.toNat=c.y.toNat+by_*2^(L-1)→bx≤1→by_≤1→
   OA ⟨qx,qy,((L-1:Nat):Int)⟩ r.x r.y=some (decide (r.x.toNat / 2^(L-1)%2=bx)&&decide (r.y.toNat / 2^(L-1)%2=by_)):=by
  intro qx qy bx by_ e1 e3 hbx hby
  have hxm:qx.toNat%2^(L-1)=0:=by
   rw[e1,Nat.add_mul_mod_self_right]
   exact hx2
  have hym:qy.toNat%2^(L-1)=0:=by
   rw[e3,Nat.add_mul_mod_self_right]
   exact hy2
  have bxl:bx*2^(L-1)≤2^(L-1):=by
   calc bx*2^(L-1)≤1*2^(L-1):=Nat.mul_le_mul_right _ hbx
    _=2^(L-1):=Nat.one_mul _
  have byl:by_*2^(L-1)≤2^(L-1):=by
   calc by_*2^(L-1)≤1*2^(L-1):=Nat.mul_le_mul_right _ hby
    _=2^(L-1):=Nat.one_mul _
  rw[i9 (M:=L-1) r.x r.y rfl zO hxm hym (by rw[e1];omega) (by rw[e3];omega)]
  have f1:qx.toNat / 2^(L-1)=c.x.toNat / 2^(L-1)+bx:=by rw[e1];exact Nat.add_mul_div_right _ _ hp
  have f2:qy.toNat / 2^(L-1)=c.y.toNat / 2^(L-1)+by_:=by rw[e3];exact Nat.add_mul_div_right _ _ hp
  congr 2
  rw[decide_eq_decide]
  show r.x.toNat / 2^(L-1)=qx.toNat / 2^(L-1)↔_
  rw[f1]
  omega
  rw[decide_eq_decide]
  show r.y.toNat / 2^(L-1)=qy.toNat / 2^(L-1)↔_
  rw[f2]
  omega
 unfold Gn gh Ww
 rw[AA,Ry,A.ok,AA,show(!true||decide (c.lev=0))=false by rw[A.lev];simp;omega,BZ,size_eq A.lev,AA]
 have hq:RM (shl64 1 L) 2=some (shl64 1 L / 2):=by
  unfold RM
  rw[if_neg zD]
 rw[hq,AA,AA,hhd]
 unfold Fx
 rw[hlev,c0,c0]
 have q00:=hasq c.x c.y 0 0 zS zS zO zO
 have q10:=hasq (c.x+hf*1) c.y 1 0 (by rw[c1 _ mx];omega) zS zO zO
 have q01:=hasq c.x (c.y+hf*1) 0 1 zS (by rw[c1 _ my];omega) zO zO
 have q11:=hasq (c.x+hf*1) (c.y+hf*1) 1 1 (by rw[c1 _ mx];omega) (by rw[c1 _ my];omega) zO zO
 unfold MW qd
 simp only[Rn,KV,q00,q10,q01,q11,AA]
 have bx:=Nat.mod_two_eq_zero_or_one (r.x.toNat / 2^(L-1))
 have by_:=Nat.mod_two_eq_zero_or_one (r.y.toNat / 2^(L-1))
 rcases bx with bx | bx<;>rcases by_ with by_ | by_<;>rw[bx,by_]<;>rfl
end

section
inductive UK {α β:Type} (R:α→β→Prop):List α→List β→Prop
 | nil:UK R [] []
 | cons {a b xs ys}:R a b→UK R xs ys→UK R (a::xs) (b::ys)
theorem UK.length{α β:Type}{R:α→β→Prop}{xs:List α}{ys:List β}(h:UK R xs ys):xs.length=ys.length:=by
 induction h with
 | nil=>rfl
 | cons _ _ ih=>simp[ih]
def Oz(L:Nat)(l:List Aj):List (List Aj):=[l.filter fun r=>decide (qd L r=0),l.filter fun r=>decide (qd L r=1),l.filter fun r=>decide (qd L r=2),l.filter fun r=>decide (qd L r=3)]
def Ny(L:Nat)(l:List Aj):List (List Aj):=(Oz L l).filter fun p => !p.isEmpty
theorem lS(L:Nat)(r:Aj):qd L r<4:=by
 unfold qd
 omega
theorem eG{c:Br}{l:List Aj}{L:Nat}(A:AR c l L)(h0:0<L):∀(T:List Aj) (p:P4),(∀r∈T,r∈l)→p.1.length+p.2.1.length+p.2.2.1.length+p.2.2.2.length+T.length≤100000→
  Nx c T p=some (p.1++T.filter (fun r=>decide (qd L r=0)),p.2.1++T.filter (fun r=>decide (qd L r=1)),p.2.2.1++T.filter (fun r=>decide (qd L r=2)),p.2.2.2++T.filter (fun r=>decide (qd L r=3)))
 | [],p,_,_=>by simp[Nx]
 | r::T,p,hT,hb=>by
  simp only[List.length_cons]at hb
  have hw:=pW A h0 (hT r zS)
  have h4:=lS L r
  have ih:=fun p hp=>eG A h0 T p (fun q hq=>hT q (by simp[hq])) hp
  unfold Nx Vk
  rw[hw,AA]
  dsimp only
  rcases(show qd L r=0∨qd L r=1∨qd L r=2∨qd L r=3 by omega)with e | e | e | e
  rw[e,if_pos (show((0:Nat):Int)=0 from rfl),DM zQ zQ,AA,AA,ih _ zQ]
  simp[e]
  rw[e,if_neg zD,if_pos (show((1:Nat):Int)=1 from rfl),DM zQ zQ,AA,AA,ih _ zQ]
  simp[e]
  rw[e,if_neg zD,if_neg zD,if_pos (show((2:Nat):Int)=2 from rfl),DM zQ zQ,AA,AA,ih _ zQ]
  simp[e]
  rw[e,if_neg zD,if_neg zD,if_neg zD,if_pos (show((3:Nat):Int)=3 from rfl),DM zQ zQ,AA,AA,ih _ zQ]
  simp[e]
theorem gg(L:Nat)(l:List Aj):(Oz L l).flatten.Perm l:=by
 unfold Oz
 simp only[List.flatten_cons,List.flatten_nil,List.append_nil]
 induction l with
 | nil=>exact List.Perm.refl _
 | cons r l ih=>
  have h4:=lS L r
  rcases(show qd L r=0∨qd L r=1∨qd L r=2∨qd L r=3 by omega)with e | e | e | e<;>simp only[List.filter_cons,e,decide_true,if_true]<;>simp only[show decide ((0:Nat)=1)=false from rfl,show decide ((0:Nat)=2)=false from rfl,show decide ((0:Nat)=3)=false from rfl,show decide ((1:Nat)=0)=false from rfl,show decide ((1:Nat)=2)=false from rfl,show decide ((1:Nat)=3)=false from rfl,show decide ((2:Nat)=0)=false from rfl,show decide ((2:Nat)=1)=false from rfl,show decide ((2:Nat)=3)=false from rfl,show decide ((3:Nat)=0)=false from rfl,show decide ((3:Nat)=1)=false from rfl,show decide ((3:Nat)=2)=false from rfl,Bool.false_eq_true,if_false]
  all_goals
   refine List.perm_iff_count.2 fun x=>?_
   have:=List.perm_iff_count.1 ih x
   simp only[List.count_append,List.count_cons]at this ⊢
   omega
theorem Xi(ps:List (List Aj)):(ps.filter fun p => !p.isEmpty).flatten=ps.flatten:=by
 induction ps with
 | nil=>rfl
 | cons p ps ih=>
  cases p with
  | nil=>simpa using ih
  | cons r p=>simp[ih]
theorem ZP(L:Nat)(l:List Aj):(Ny L l).flatten.Perm l:=by
 unfold Ny
 rw[Xi]
 exact gg L l
theorem Tg{L:Nat}{l p:List Aj}(h:p∈Ny L l):p≠[]∧∃i,p=l.filter fun r=>decide (qd L r=i):=by
 unfold Ny at h
 obtain⟨h1,h2⟩:=List.mem_filter.1 h
 refine⟨by simpa using h2,?_⟩
 unfold Oz at h1
 simp only[List.mem_cons,List.not_mem_nil,or_false]at h1
 rcases h1 with rfl | rfl | rfl | rfl
 exact⟨0,rfl⟩
 exact⟨1,rfl⟩
 exact⟨2,rfl⟩
 exact⟨3,rfl⟩
theorem RK{L:Nat}{l p:List Aj}(h:p∈Ny L l):p.Sublist l:=by
 obtain⟨_,i,rfl⟩:=Tg h
 exact List.filter_sublist ..
theorem Wv(L:Nat)(l:List Aj):(Ny L l).length≤4:=by
 unfold Ny
 exact Nat.le_trans (List.length_filter_le ..) (Nat.le_refl 4)
theorem bK{L:Nat}{l:List Aj}{r:Aj}(h:r∈l):(l.filter fun s=>decide (qd L s=qd L r))∈Ny L l:=by
 have h4:=lS L r
 unfold Ny
 refine List.mem_filter.2 ⟨?_,?_⟩
 unfold Oz
 rcases(show qd L r=0∨qd L r=1∨qd L r=2∨qd L r=3 by omega)with e | e | e | e<;>rw[e]<;>simp
 have:r∈l.filter fun s=>decide (qd L s=qd L r):=List.mem_filter.2 ⟨h,by simp⟩
 cases hx:l.filter fun s=>decide (qd L s=qd L r)with
 | nil=>rw[hx]at this;simp at this
 | cons a b=>rfl
theorem RL{c:Br}{l:List Aj}{L:Nat}(A:AR c l L)(h0:0<L):2≤(Ny L l).length∧∀p∈Ny L l,p.length<l.length:=by
 obtain⟨r,hr,s,hs,hne⟩:=A.two h0
 have h1:=bK (L:=L) hr
 have h2:=bK (L:=L) hs
 have hd:(l.filter fun q=>decide (qd L q=qd L r))≠(l.filter fun q=>decide (qd L q=qd L s)):=by
  intro e
  have:r∈l.filter fun q=>decide (qd L q=qd L r):=List.mem_filter.2 ⟨hr,by simp⟩
  rw[e]at this
  have:=(List.mem_filter.1 this).2
  simp only[decide_eq_true_eq]at this
  exact hne this
 constructor
 rcases hq:Ny L l with _ | ⟨a,_ | ⟨b,q⟩⟩
 rw[hq]at h1;simp at h1
 rw[hq]at h1 h2
 simp only[List.mem_singleton]at h1 h2
 exact absurd (h1.trans h2.symm) hd
 simp
 intro p hp
 obtain⟨_,i,rfl⟩:=Tg hp
 have:∃q∈l,qd L q≠i:=by
  by_cases e:qd L r=i
  exact⟨s,hs,fun e'=>hne (e.trans e'.symm)⟩
  exact⟨r,hr,e⟩
 obtain⟨q,hq,hqi⟩:=this
 rcases Nat.lt_or_ge (l.filter fun r=>decide (qd L r=i)).length l.length with h | h
 exact h
 have:=(List.filter_sublist (p:=fun r=>decide (qd L r=i)) (l:=l)).eq_of_length_le h
 have h5:=List.filter_eq_self.1 this q hq
 simp only[decide_eq_true_eq]at h5
 exact absurd h5 hqi
def Tr:Nat→List Aj→CB→Prop
 | 0,_,_=>False
 | f+1,l,t=>(l=[]∧t=.mk 0 0 0 [] [])∨(l≠[]∧∃c L,AR c l L∧(((l.length≤4∨L=0)∧t=.mk c.x c.y c.lev l [])∨
   (4<l.length∧0<L∧∃ks,t=.mk c.x c.y c.lev [] ks∧UK (Tr f) (Ny L l) ks)))
theorem Xy{rec_:List Aj→Option CB}{R:List Aj→CB→Prop}:∀(ps:List (List Aj)) (acc:List CB),(∀p∈ps,p≠[]→∃t,rec_ p=some t∧R p t)→acc.length+ps.length≤1000→∃ks,Ff rec_ ps acc=some (acc++ks)∧UK R (ps.filter fun p => !p.isEmpty) ks
 | [],acc,_,_=>⟨[],by simp[Ff],.nil⟩
 | p::ps,acc,h,hb=>by
  simp only[List.length_cons]at hb
  unfold Ff
  cases p with
  | nil=>
   obtain⟨ks,h1,h2⟩:=Xy ps acc (fun q hq=>h q (by simp[hq])) zO
   exact⟨ks,by simpa using h1,by simpa using h2⟩
  | cons r p=>
   obtain⟨t,ht,hR⟩:=h (r::p) zS zS
   obtain⟨ks,h1,h2⟩:=Xy ps (acc++[t]) (fun q hq=>h q (by simp[hq])) zQ
   refine⟨t::ks,?_,?_⟩
   rw[zt (by simp only[List.length_cons];omega),CC,ht,AA,DM zQ zQ,AA,h1]
   simp
   simp only[List.filter_cons,List.isEmpty_cons,Bool.not_false,if_true]
   exact .cons hR h2
theorem kB{n:Nat}:∀(f:Nat) (l:List Aj),l.length<f→(∀r∈l,HY r=true)→l.length≤1000→l.length<n→∃t,Jj n f l=some t∧Tr f l t
 | 0,l,h,_,_,_=>by omega
 | f+1,l,h,ok,hb,hn=>by
  unfold Jj
  rw[if_neg zO]
  by_cases hl:l=[]
  subst hl
  exact⟨.mk 0 0 0 [] [],rfl,.inl ⟨rfl,rfl⟩⟩
  have hp:=List.length_pos_iff.2 hl
  obtain⟨c,L,hc,A⟩:=fE hl hn zO ok
  rw[zf zO,BZ,hc,AA]
  by_cases hleaf:l.length≤4∨L=0
  rw[show(decide ((l.length:Int)≤4)||decide (c.lev=0))=true by rw[A.lev];simp;omega,CC]
  unfold Ve
  rw[DM zQ zQ,AA]
  exact⟨_,rfl,.inr ⟨hl,c,L,A,.inl ⟨hleaf,rfl⟩⟩⟩
  have h0:0<L:=zO
  rw[show(decide ((l.length:Int)≤4)||decide (c.lev=0))=false by rw[A.lev];simp;omega,BZ,eG A h0 l _ (fun r hr=>hr) zQ,AA]
  simp only[List.nil_append]
  obtain⟨_,h2⟩:=RL A h0
  obtain⟨ks,h3,h4⟩:=Xy (rec_:=Jj n f) (R:=Tr f) (Oz L l) [] (fun p hp' hne=>by
   have hq:p∈Ny L l:=List.mem_filter.2 ⟨hp',by simpa using hne⟩
   have:=h2 p hq
   exact kB f p zO (fun r hr=>ok r ((RK hq).subset hr)) zO zO) (by simp[Oz])
  unfold Oz at h3
  rw[h3,AA]
  exact⟨_,rfl,.inr ⟨hl,c,L,A,.inr ⟨by omega,h0,ks,by simp,h4⟩⟩⟩
theorem dT{n:Nat}{l:List Aj}(hn:1002≤n)(h:Du l=true):∃t,Qa n l=some (t,0)∧Jj n n l=some t∧Tr n l t:=by
 have h':=h
 unfold Du at h'
 simp only[Bool.and_eq_true,decide_eq_true_eq]at h'
 have hb:l.length≤1000:=zO
 obtain⟨t,h1,h2⟩:=kB (n:=n) n l zO (fun r hr=>List.all_eq_true.1 h'.1.1 r hr) hb zO
 refine⟨t,?_,h1,h2⟩
 unfold Qa
 rw[SJ l zO zO,AA,h,Bool.not_true,BZ,h1,AA]
theorem oQ{n:Nat}{l:List Aj}(hn:l.length<n)(hb:l.length≤1073741824)(h:Du l=false):Qa n l=some (.mk 0 0 0 [] [],80):=by
 unfold Qa
 rw[SJ l hn hb,AA,h]
 rfl
end

section
variable {P:Program}{ro:Option Nat}{K:Nat→Prop}{w0:World}{N:Nat}{Q:Dg}{D:List Nat}{l l':Tm}{H H' Hs:List AX}{ops:Array Oper}{items:I6}
variable {tk:Bool}{o:Oper}{t:Nat}{v:Value}{x y z u:Operand}
theorem tJ{b off n c sz:Nat}{k k' k'':IntKind}{i j m:Int}{ty e:TypeId}(p q:Nat)(ho:At ops N l o t (.slice ty x (some y) (some z) (some u)))(hty:P.underlying ty=some (.slice e))(hsz:DU P e=some sz)(hx:Bo l x=some (.slice (some ⟨b,off,none⟩) n c))(hy:Bo l y=some (.int k i))(hz:Bo l z=some (.int k' j))(hu:Bo l u=some (.int k'' m))
(hi:i=(p:Int))(hj:j=(q:Int))(hm:m=(q:Int))(hp:p<q)(hq:q≤c)(h:SL P ro K w0 N ops Hs items Q D ((t,.slice (some ⟨b,off+p*sz,none⟩) (q-p) (q-p))::l) H):SL P ro K w0 N ops Hs (.cons (tk,o) items) Q D l H:=
 SL.val ho rfl (fun a w ha _=>by
  subst hi hj hm
  have hle:p≤q:=Nat.le_of_lt hp
  have hne:¬q=p:=zO
  simp only[execOp,ho.op,Instr.sliceAt,Instr.slice,Option.map]
  simp[ha.eval hx,ha.eval hy,ha.eval hz,ha.eval hu,A2 hty,CY hsz,Instr.sliceBounds,Instr.sliceBound,asIntOf,hq,hle,hne,CU]) h
theorem By.piece{α:Type}{enc:α→List Value}{sz b off n cap:Nat}{xs:List α}(h:By K w0 enc sz (.slice (some ⟨b,off,none⟩) n cap) xs)(p q:Nat)(hpq:p≤q)(hq:q≤xs.length):By K w0 enc sz (.slice (some ⟨b,off+p*sz,none⟩) (q-p) (q-p)) ((xs.drop p).take (q-p)):=by
 have hl:((xs.drop p).take (q-p)).length=q-p:=by simp;omega
 refine⟨h.len,?_⟩
 rcases h.at_ with⟨a0,e,rfl⟩ | ⟨b',off',cap',e,hcap,hc⟩
 have:q=0:=by simpa using hq
 subst this
 obtain rfl:p=0:=zO
 exact .inl ⟨_,rfl,by simp⟩
 simp only[Value.slice.injEq,Option.some.injEq,Addr.mk.injEq]at e
 obtain⟨⟨rfl,rfl,_⟩,_,_⟩:=e
 refine .inr ⟨b,off+p*sz,q-p,by rw[hl],by omega,fun j u hu=>?_⟩
 have hfl:(xs.take p).flatMap enc++(((xs.drop p).take (q-p)).flatMap enc++((xs.drop p).drop (q-p)).flatMap enc)=xs.flatMap enc:=by
  rw[←List.flatMap_append,List.take_append_drop,←List.flatMap_append,List.take_append_drop]
 have hj:j<(((xs.drop p).take (q-p)).flatMap enc).length:=(List.getElem?_eq_some_iff.1 hu).1
 have hpl:((xs.take p).flatMap enc).length=p*sz:=by
  rw[JR h.len,List.length_take,Nat.min_eq_left zO]
 have:=hc (p*sz+j) u (by
  rw[←hfl,List.getElem?_append_right zO,hpl,Nat.add_sub_cancel_left,List.getElem?_append_left hj]
  exact hu)
 rw[Nat.add_assoc]
 exact this
end

section
variable {K:Nat→Prop}{w0:World}{H:List AX}
theorem Ey{A B R M:List AX}{w:World}(h:Bj K w0 ((A++(B++R))++M) w):Bj K w0 ((B++(A++R))++M) w:=by
 refine h.perm (List.Perm.append_right _ ?_)
 rw[←List.append_assoc,←List.append_assoc]
 exact List.Perm.append_right _ List.perm_append_comm
structure IG where
 out:List Ak
 wrong:Int
abbrev YG(σ:Type):=σ→List UInt8→Option ((BR×Int)×σ)
def kR{σ:Type}(T:List UInt32)(fid:FuncId)(cs:Array Value)(C:Value→σ→List AX)(wh:YG σ):Prop:=
 ∀(K:Nat→Prop) (w0:World) (H:List AX) (a:Value) (q:σ) (s:List UInt8) (r:(BR×Int)×σ),Gk K w0 T→wh q s=some r→
  zC K w0 fid (vS s::cs.toList) (C a q) H (fun u M=>u=.tuple #[.agg (Bd r.1.1).toArray,vI r.1.2]∧∃a',M=C a' r.2)
def RH{σ:Type}(e:List UInt8)(p:IG)(w:BR×Int×σ):Option (BR×(IG×σ)):=
 cond (!decide (w.2.1=0)) (some (⟨0,[]⟩,({ p with wrong:=w.2.1 },w.2.2))) ((C8 40 p.out [⟨e,w.1.page,w.1.tag⟩]).bind fun l=>some (w.1,({ p with out:=l },w.2.2)))
def Is{σ:Type}(n:Nat)(wh:YG σ)(x:C4)(p:IG)(q:σ):Option (BR×(IG×σ)):=
 cond (!decide (p.wrong=0)) (some (⟨0,[]⟩,(p,q)))
  ((Fl n x).bind fun e=>cond (decide (e.2=0)) ((wh q e.1).bind fun w=>RH e.1 p (w.1.1,w.1.2,w.2)) (RH e.1 p (⟨0,[]⟩,e.2,q)))
abbrev NR(bp:Nat)(fw vo:Value)(p:IG):AX:=own bp (.cells #[fw,vo,vI p.wrong] 214)
theorem T0{σ:Type}{C:Value→σ→List AX}{wh:YG σ}{fid:FuncId}{cs:Array Value}{T:List UInt32}{n bp:Nat}{vo v4 v5 a:Value}{x:C4}{p:IG}{q:σ}{r:BR×(IG×σ)}(hcal:AP Tryz.prog fid=true)(hwh:kR T fid cs C wh)(hS:Gk K w0 T)
(h:Is n wh x p q=some r)(hs4:By K w0 AV 4 v4 x.rows)(hs5:By K w0 Bd 2 v5 x.kids):
  zC K w0 153 [vP bp 0,.agg #[vI x.kind,AB x.cx,AB x.cy,vI x.lev,v4,v5,AB x.npage,vS x.ntag]] (NR bp (.func (.func fid) #[] cs) vo p::AD 148 3 vo AS p.out::C a q) H
   (fun u M=>u=.agg (Bd r.1).toArray∧∃vo' a',M=NR bp (.func (.func fid) #[] cs) vo' r.2.1::AD 148 3 vo' AS r.2.1.out::C a' r.2.2):=by
 unfold Is at h
 refine WN.enter Tryz.func153 rfl rfl ?_
 show SX _ _ _ _ _ _ _ _ _ (NR bp (.func (.func fid) #[] cs) vo p::AD 148 3 vo AS p.out::(C a q++H))
 refine Y ?_
 refine Bg E E zU fun b0=>?_
 refine Au E FU zU fun b1=>?_
 refine V (AH (Y (J E (AT E E (AE E Uw (AG 2 Sw E (Z E BQ (V ?_))))))))
 refine AL h E (fun hc1 h=>?_) fun hc1 h=>?_
 obtain rfl:=zI h
 refine Y (B5 [] E Oy Ox FU zT E (A3 0 E E E E EZ E E E zT (V (AK (Aa ?_)))))
 exact An (GM E (B2 0 (Bd ⟨0,[]⟩) DC E E E E)) (Ao (M:=_::_::C a q) ⟨E,vo,a,E⟩ fun _ hw=>Bj.pick (H:=[_,_,_,_]) hw [2,3] 4 E)
 refine AF h fun e he h=>?_
 refine AI (AJ (Y (Aw [vI x.kind,AB x.cx,AB x.cy,vI x.lev,v4,v5,AB x.npage,vS x.ntag] E YI E E (Ap 1 E) (AQ 0 uG (aq he hs4 hs5) E (J E (Ah E E E (Ah E E E (U E (U E (V (Y ?_)))))))))))
 refine Au E FU zU fun b2=>?_
 refine V ?_
 refine A8 (α:=BR×Int×σ×Value) (fun w=>RH e.1 p (w.1,w.2.1,w.2.2.1)=some r) (fun w=>[(0,vP bp 0),(4,vP b1 0),(5,vS e.1),(6,vI w.2.1),(7,vP b2 0)])
  (fun w=>own b2 (.cells #[AB w.1.page,vS w.1.tag] 146)::own b1 (.cells #[AB 0,vS []] 146)::NR bp (.func (.func fid) #[] cs) vo p::AD 148 3 vo AS p.out::(C w.2.2.2 w.2.2.1++H)) ?_ (fun w D h=>?_)
 refine Y (J E (Z E Ba (V ?_)))
 refine AL h E (fun hc2 h=>?_) fun hc2 h=>?_
 refine AF h fun w hw1 h=>?_
 refine AM (J E (AT E E (AE E rI (AG 3 yH E (J E ?_)))))
 refine SL.heap (H':=C a q++([_,_,_,_,_]++H)) ?_ (fun _ hw=>Ey (A:=[_,_,_,_,_]) (B:=C a q) (R:=H) hw)
 refine BT (vs:=[_]) (Hin:=C a q) (Hr:=[_,_,_,_,_]++H) E E ⟨E,zT⟩ hcal E E (hwh K w0 _ a q e.1 w hS hw1) ?_
 rintro _ _ ⟨rfl,a1,rfl⟩
 refine⟨trivial,?_⟩
 refine SL.heap ?_ (fun _ hw=>Ey (A:=C a1 w.2) (B:=[_,_,_,_,_]) (R:=H) hw)
 refine J E (Ah E E E (Ah E E E (A3 0 E E E E EZ E E E zT (U E (AZ ?_)))))
 exact Aq (w.1.1,w.1.2,w.2,a1) h tL (BM [0,1,3,4] 5 E E E)
 refine AI ?_
 exact Aq (⟨0,[]⟩,e.2,q,a) h tL (BM [0,1,3,4] 5 E E E)
 obtain⟨w,we,q1,a1⟩:=w
 unfold RH at h
 dsimp only at h
 try dsimp only
 refine AH (Y (J E (Z E BQ (V ?_))))
 refine AL h E (fun hc3 h=>?_) fun hc3 h=>?_
 obtain rfl:=zI h
 refine Y (J E (J E (AT E E (AE E Uw (A3 2 E E E E cX E E E zT (V (Y (B5 [] E Oy Ox FU zT E (A3 1 E E E E EZ E E E zT (V (AK (Aa ?_))))))))))))
 exact An (GM E (B2 1 (Bd ⟨0,[]⟩) DC E E E E)) (Ao (M:=_::_::C a1 q1) ⟨E,vo,a1,E⟩ fun _ hw=>Bj.pick (H:=[_,_,_,_]) hw [2,3] 4 E)
 refine AF h fun l hl h=>?_
 obtain rfl:=zI h
 refine AI (AJ (AH (Ax Cz [0,2] (Bs [(true,0),(true,1),(true,2),(true,3),(true,4),(true,5),(true,6),(true,7),(false,8),(false,9),(true,10),(true,11)] (.last 12 .nil)) zK (J E (J E (AT E E (AE E bS (AG 1 K7 E (J E (Aw (Bd w) E DC E E (Ap 0 E) ?_))))))))))
 refine B5 [_,_] E lN lM In ⟨E,E,zT⟩ E ?_
 refine CA [_] rfl FH Ea In ⟨rfl,trivial⟩ rfl rfl rfl zW rfl rfl (fun _=>⟨⟨1,rfl⟩,⟨3,rfl⟩,trivial⟩) fun b3=>?_
 refine B4 AS 3 ([(⟨e.1,w.page,w.tag⟩:Ak)]:List Ak) E zV E ?_
 refine Cr 4 hl (sz:=3) (enc:=AS) zV E FH Ea fI In E zD E E E E (B8 (sz:=3) (enc:=AS) 0 zV E) (by simp[AS,Value.oneCell']) (fun _=>⟨⟨1,E⟩,⟨3,E⟩,zT⟩) fun v3=>?_
 refine AT E E (AE E bS (BU ?_))
 refine Cs 4 E fun hv3 ho3=>?_
 refine EW 3 E E E E ny hv3 ho3 E zT (V (Y (Aw (Bd w) E DC E E (Ap 1 E) (A3 2 E E E E EZ E E E zT (V (AK ?_))))))
 exact An (GM E (B2 2 (Bd w) DC E E E E)) (Ao (M:=_::_::C a1 q1) ⟨E,v3,a1,E⟩ fun _ hw=>Bj.pick (H:=[_,_,_,_,_]) hw [3,4] 5 E)
end

section
variable {K:Nat→Prop}{w0:World}{H:List AX}
abbrev No:=aM×List Aj
def Kr(a:No):List Value:=[a.1.val]
def U7(b off:Nat)(l:List Aj)(i:Nat):No:=
 (⟨some ⟨b,off+4*i*4,none⟩,min (4*i+4) l.length-4*i,min (4*i+4) l.length-4*i⟩,(l.drop (4*i)).take (min (4*i+4) l.length-4*i))
def ME(b off:Nat)(l:List Aj)(n:Nat):List No:=(List.range n).map (U7 b off l)
def NE(b off:Nat)(l:List Aj):List No:=ME b off l ((l.length+3) / 4)
theorem jA{b off n cap:Nat}{l:List Aj}(h:By K w0 AV 4 (.slice (some ⟨b,off,none⟩) n cap) l):∀a∈NE b off l,By K w0 AV 4 a.1.val a.2:=by
 intro a ha
 obtain⟨i,hi,rfl⟩:=List.mem_map.1 ha
 have hi':=List.mem_range.1 hi
 exact h.piece (4*i) (min (4*i+4) l.length) zO zO
theorem dG(b off:Nat)(l:List Aj)(n:Nat):ME b off l (n+1)=ME b off l n++[U7 b off l n]:=by
 simp[ME,List.range_succ]
theorem bC(b off:Nat)(l:List Aj)(k:Nat)(h:4*k<l.length):∃suf,NE b off l=ME b off l k++U7 b off l k::suf:=by
 obtain⟨m,hm⟩:∃m,(l.length+3) / 4=k+1+m:=⟨(l.length+3) / 4-(k+1),by omega⟩
 refine⟨(List.range m).map fun j=>U7 b off l (k+1+j),?_⟩
 rw[NE,hm,ME,List.range_add,List.map_append,List.map_map,List.range_succ,List.map_append,List.append_assoc]
 rfl
theorem jp{b1 b2 b off cap:Nat}{l:List Aj}{G0:List AX}(hl:l.length≤1048576)(hs:By K w0 AV 4 (.slice (some ⟨b,off,none⟩) l.length cap) l)(hcap:l.length≤cap):
  QC Tryz.prog K w0 205 [vP b1 0,vP b2 0] [own b1 (.cells #[.slice (some ⟨b,off,none⟩) l.length cap] 22),own b2 (.cells #[vI 4] 3)] G0 Kr (NE b off l):=by
 intro lp J9 X T rc hy h0
 refine WN.enter Tryz.func205 rfl rfl ?_
 show SX _ _ _ _ _ _ _ _ _ (own b1 (.cells #[.slice (some ⟨b,off,none⟩) l.length cap] 22)::own b2 (.cells #[vI 4] 3)::((rc::G0)++T))
 refine Y (U E (V (AN ?_)))
 refine SX.mono (BK (α:=Nat×List AX) (fun x=>4*x.1≤l.length+3∧J9 (ME b off l x.1) x.2) (fun x=>[(0,vY lp),(1,vP b1 0),(2,vP b2 0),(4,vI ((4*x.1:Nat):Int))])
  (fun x=>own b1 (.cells #[.slice (some ⟨b,off,none⟩) l.length cap] 22)::own b2 (.cells #[vI 4] 3)::(x.2++T)) (fun x=>l.length-x.1) (fun x D hp=>?_) (0,rc::G0) ⟨by omega,h0⟩) tL
 obtain⟨k,G⟩:=x
 obtain⟨hk,hJ⟩:=hp
 dsimp only at hk hJ ⊢
 refine AH (Y (J E (AG 0 HI E (Py E Ca E (Z E A9 (V ?_))))))
 refine A7 E (fun hc1=>?_) (fun hc1=>?_)
 have hlt:4*k<l.length:=by
  have:=of_decide_eq_true hc1
  omega
 clear hc1
 obtain⟨suf,hsp⟩:=bC b off l k hlt
 refine AI (AJ (AH (AN (AH (Ax Cz [0,1] (Pl.of (G4 0 7)) zK (AG 1 EF E (AG 0 HI E (J E (XD (4*k) E Ca DQ E E E zO zO (Py E Ca E (XC E E E (U E (V (Y ?_))))))))))))))
 refine J E (AG 0 HI E (J E (J E (J E (Z E (Bh zO zO) (J E (J E ?_)))))))
 refine Z E (Bh zO zO) (tJ (4*k) (min (4*k+4) l.length) E Ca DQ E E E E E zO zO zO zO ?_)
 refine I8 (M2:=[_,_]) (G:=G) (T:=T) (vs:=[_]) (ok:=fun G1=>J9 (ME b off l (k+1)) G1) (no:=X) E E ⟨E,zT⟩ E ?_ (fun bb G1 hG1=>⟨zT,?_⟩)
 intro M
 have:=hy (ME b off l k) (U7 b off l k) suf hsp G hJ M
 rw[←dG]at this
 exact this
 refine CF E E (V ?_)
 refine A7 E (fun hc3=>?_) (fun hc3=>?_)
 obtain rfl:bb=false:=by simpa using hc3
 refine AK (BI (Aa (EX (BI ?_))))
 exact An (Ed E) (Ao (M:=G1) (.inr hG1) fun _ h=>h.skip [_,_])
 obtain rfl:bb=true:=by simpa using hc3
 refine AI (Av (AJ (AM (J E (AG 1 EF E (Z E (Bh zO zO) ?_))))))
 refine Ay (u:=vI ((4*(k+1):Nat):Int)) E E (congrArg vI zO) ?_
 refine AZ ?_
 exact A1 (k+1,G1) ⟨by omega,hG1⟩ (by dsimp only;omega) tL (BM [0,1] 2 E E E)
 have hge:l.length≤4*k:=by
  have:=of_decide_eq_false hc1
  omega
 have hkk:(l.length+3) / 4=k:=zO
 refine A5 (BC (Bb (BB ?_)))
 exact Da (Ed E) (Ao (M:=G) (.inl (by rw[NE,hkk];exact hJ)) fun _ h=>h.skip [_,_])
end

section
variable {K:Nat→Prop}{w0:World}{H:List AX}
theorem kV{α:Type}{by_:Nat}{xs:List α}{x:α}(h:xs.length+1≤1048576)(hb:by_≤1024):C8 by_ xs [x]=some (xs++[x]):=by
 have h1:(xs.length+1)*by_≤1048576*1024:=Nat.mul_le_mul h hb
 rw[C8,if_pos ⟨by simp only[List.length_cons,List.length_nil,Nat.zero_add];omega,by simp only[List.length_cons,List.length_nil,Nat.zero_add];omega⟩]
theorem oW(a:No)(u:Value)(h:u∈Kr a):u.oneCell'=true:=by
 obtain rfl:u=a.1.val:=by simpa[Kr]using h
 rfl
theorem sa{v:Value}:zC K w0 175 [v,vI 4] [] H (fun u M=>∃b1 b2:Nat,u=.func (.func 205) #[] #[vP b1 0,vP b2 0]∧M=[own b1 (.cells v.cells 22),own b2 (.cells #[vI 4] 3)]):=by
 refine WN.enter Tryz.func175 rfl rfl ?_
 refine Y ?_
 refine Bg E E zU fun b1=>?_
 refine Bg E E zU fun b2=>?_
 refine U E (V (AH (Y (AG 0 EF E (Z E A9 (V (C1 E (AI (AJ (Y ?_))))))))))
 refine HK (fv:=#[]) (cv:=#[_,_]) E E E ?_
 refine U E (V (AK ?_))
 exact BH [1,0] 2 (Cx E E) E E ⟨_,_,E,E⟩
theorem iD{f:FuncId}{cap:List Value}{Hit:List AX}{xs:List No}(hcal:AP Tryz.prog f=true)(hn:xs.length≤1048576)(hseq:∀G0,QC Tryz.prog K w0 f cap Hit G0 Kr xs):
  zC K w0 204 [.slice none 0 0,.func (.func f) #[] cap.toArray] Hit H (fun u M=>∃v0:Value,u=v0∧M=[AD 22 1 v0 Kr xs]):=by
 refine WN.enter Tryz.func204 rfl rfl ?_
 refine Y ?_
 refine Bg E E zU fun b0=>?_
 refine U E (V (SY 22 1 Kr (SX.pick [1,0] 2 (AH (Y (J E (V (AN ?_))))))))
 refine SX.heap (N7 (enc:=Kr) xs (G0:=own b0 (.cells #[zN] 272)::AD 22 1 zN Kr []::H) (fun pre G=>∃vr:Value,G=own b0 (.cells #[vr] 272)::AD 22 1 vr Kr pre::H) (fun _ _=>False) E hcal E zV (hseq _) E ⟨_,E⟩ (fun pre x suf G hxs hJ r lp Rest=>?_) (fun G D hJ=>?_) (fun c G D hX=>hX.elim)) (fun _ hw=>Ey (A:=[_,_]) (B:=Hit) (R:=H) hw)
 obtain⟨vr,rfl⟩:=hJ
 have hlen:pre.length+1≤1048576:=by
  have:=congrArg List.length hxs
  simp only[List.length_append,List.length_cons]at this
  omega
 refine AM (U E (AZ ?_))
 refine Jm (G:=own b0 (.cells #[vr] 272)::AD 22 1 vr Kr pre::H) ?_
 refine AN (AM (AG 0 gt E (J E ?_)))
 refine CA [_] rfl Yv My oC ⟨rfl,trivial⟩ rfl rfl rfl (by intro v hv;simp only[List.mem_cons,List.not_mem_nil,or_false]at hv;rcases hv with rfl;rfl) rfl rfl zU fun b1=>?_
 refine B4 Kr 1 ([x]:List No) E zV E ?_
 refine Cr 2 (kV hlen (by decide:24≤1024)) (sz:=1) (enc:=Kr) zV E Yv My yx oC E zD E E E E (B8 (sz:=1) (enc:=Kr) 0 zV E) oW zU fun v3=>?_
 refine Cs 2 E fun hv3 ho3=>?_
 refine EW 1 E E E E yN hv3 ho3 E zT (AZ (Av ?_))
 exact IK ⟨v3,E⟩ (BM [1,2] 3 E E E)
 obtain⟨vr,rfl⟩:=hJ
 refine Av (AJ (Y (AG 0 gt E (U E (V (AK ?_))))))
 exact BH [1] 2 (Cx E E) E E ⟨_,E,E⟩
theorem mC{f:FuncId}{cap:List Value}{Hit:List AX}{xs:List No}(hcal:AP Tryz.prog f=true)(hn:xs.length≤1048576)(hseq:∀G0,QC Tryz.prog K w0 f cap Hit G0 Kr xs):
  zC K w0 174 [.func (.func f) #[] cap.toArray] Hit H (fun u M=>∃v0:Value,u=v0∧M=[AD 22 1 v0 Kr xs]):=by
 refine WN.enter Tryz.func174 rfl rfl ?_
 refine Y (U E (V (Y (J E ?_))))
 refine BT (vs:=[_,_]) (Hin:=Hit) (Hr:=_) E E ⟨E,E,zT⟩ ud E E (iD hcal hn hseq) ?_
 rintro v1 _ ⟨_,rfl,rfl⟩
 refine⟨trivial,?_⟩
 refine U E (V (AK ?_))
 exact BH [0] 1 (Cx E E) E E ⟨_,E,E⟩
end

section
variable {K:Nat→Prop}{w0:World}{H:List AX}
def F7{α:Type}(xs:List α):List (Int×α):=(xs.zipIdx.map fun p=>((p.2:Int),p.1)).reverse
theorem LC{α:Type}(xs:List α):(F7 xs).length=xs.length:=by simp[F7]
theorem aS{α:Type}(xs:List α)(k:Nat)(h:k<xs.length):(F7 xs)[k]'(by rw[LC];exact h)=(((xs.length-1-k:Nat):Int),xs[xs.length-1-k]' zO):=by
 simp[F7,List.getElem_reverse,List.getElem_map,List.getElem_zipIdx]
theorem eY{α:Type}(ys:List α)(k:Nat)(h:k<ys.length):ys=ys.take k++ys[k]::ys.drop (k+1):=by
 rw[←List.drop_eq_getElem_cons h,List.take_append_drop]
theorem cY{α:Type}(ys:List α)(k:Nat)(h:k<ys.length):ys.take k++[ys[k]]=ys.take (k+1):=by
 rw[List.take_add_one,List.getElem?_eq_getElem h]
 rfl
def qw(a:Int×No):List Value:=[vI a.1,a.2.1.val]
theorem vm{bx:Nat}{va:Value}{xs:List No}{G0:List AX}(hn:xs.length≤1048576):
  QC Tryz.prog K w0 206 [vP bx 0] [own bx (.cells #[va] 272),AD 22 1 va Kr xs] G0 qw (F7 xs):=by
 intro lp J9 X T rc hy h0
 refine WN.enter Tryz.func206 rfl rfl ?_
 show SX _ _ _ _ _ _ _ _ _ (own bx (.cells #[va] 272)::AD 22 1 va Kr xs::((rc::G0)++T))
 refine Y ?_
 refine Cs 1 E fun hva hoa=>?_
 refine AG 0 gt E (DL 1 E Yv E E (Z E (EV zO zO) (U E (V (AN ?_)))))
 refine SX.mono (BK (α:=Nat×List AX) (fun x=>x.1≤xs.length∧J9 ((F7 xs).take x.1) x.2) (fun x=>[(0,vY lp),(1,vP bx 0),(3,vI ((xs.length:Int)-1-(x.1:Int)))])
  (fun x=>own bx (.cells #[va] 272)::AD 22 1 va Kr xs::(x.2++T)) (fun x=>xs.length-x.1) (fun x D hp=>?_) (0,rc::G0) ⟨Nat.zero_le _,h0⟩) (by simpa using tL)
 obtain⟨k,G⟩:=x
 obtain⟨hk,hJ⟩:=hp
 dsimp only at hk hJ ⊢
 refine AH (Y (J E (Z E M8 (V ?_))))
 refine A7 E (fun hc1=>?_) (fun hc1=>?_)
 have hlt:k<xs.length:=by
  have:=of_decide_eq_true hc1
  omega
 clear hc1
 have hb:k<(F7 xs).length:=by rw[LC];exact hlt
 have hget:=aS xs k hlt
 have hx:BE xs ((xs.length:Int)-1-(k:Int))=some (xs[xs.length-1-k]' zO):=by
  rw[BE,if_pos zO,show((xs.length:Int)-1-(k:Int)).toNat=xs.length-1-k by omega]
  exact List.getElem?_eq_getElem _
 refine AI (AJ (AH (AN (Y (J E (J E (AG 0 gt E (J E ?_))))))))
 refine B6 1 hx E Yv My E E E fun g1 m1 cp1 hv1=>?_
 refine Bm E HI E (Bq (sz:=1) (enc:=Kr) 1 0 zV E hv1 hx E) ?_
 refine I8 (M2:=[_,_]) (G:=G) (T:=T) (vs:=[_,_]) (ok:=fun G1=>J9 ((F7 xs).take (k+1)) G1) (no:=X) E E ⟨E,E,zT⟩ E ?_ (fun bb G1 hG1=>⟨zT,?_⟩)
 intro M
 have:=hy ((F7 xs).take k) ((F7 xs)[k]) ((F7 xs).drop (k+1)) (eY _ k hb) G hJ M
 rw[cY _ k hb,hget]at this
 rw[show((xs.length:Int)-1-(k:Int))=((xs.length-1-k:Nat):Int) by omega]
 exact this
 refine CF E E (V ?_)
 refine A7 E (fun hc3=>?_) (fun hc3=>?_)
 obtain rfl:bb=false:=by simpa using hc3
 refine AK (BI (Aa (EX (BI ?_))))
 exact An (Ed E) (Ao (M:=G1) (.inr hG1) fun _ h=>h.skip [_,_])
 obtain rfl:bb=true:=by simpa using hc3
 refine AI (Av (AJ (AM (J E (Z E (EV zO zO) ?_)))))
 refine Ay (u:=vI ((xs.length:Int)-1-((k+1:Nat):Int))) E E (congrArg vI zO) ?_
 refine AZ ?_
 exact A1 (k+1,G1) ⟨hlt,hG1⟩ (by dsimp only;omega) tL (BM [0,1] 2 E E E)
 have hge:k=xs.length:=by
  have:=of_decide_eq_false hc1
  omega
 subst hge
 rw[List.take_of_length_le (by rw[LC];exact Nat.le_refl _)]at hJ
 refine A5 (BC (Bb (BB ?_)))
 exact Da (Ed E) (Ao (M:=G) (.inl hJ) fun _ h=>h.skip [_,_])
theorem wD{va:Value}(hva:va.cells=#[va]):zC K w0 176 [va] [] H (fun u M=>∃bx:Nat,u=.func (.func 206) #[] #[vP bx 0]∧M=[own bx (.cells #[va] 272)]):=by
 refine WN.enter Tryz.func176 rfl rfl ?_
 refine Y ?_
 refine Bg E E zU fun b1=>?_
 rw[hva]
 refine U E (V (Y ?_))
 refine HK (fv:=#[]) (cv:=#[_]) E E E ?_
 refine U E (V (AK ?_))
 exact BH [0] 1 (Cx E E) E E ⟨_,E,E⟩
end

section
variable {K:Nat→Prop}{w0:World}{H:List AX}
theorem aT{α:Type}(xs:List α):(F7 xs).map (·.2)=xs.reverse:=by
 rw[F7,List.map_reverse,List.map_map]
 congr 1
 have:((fun x:Int×α=>x.2)∘fun p:α×Nat=>((p.2:Int),p.1))=Prod.fst:=rfl
 rw[this,List.zipIdx_map_fst]
def Qx(v:Value)(l:List Aj):List No:=
 match v,l with
 | _,[]=>[(⟨none,0,0⟩,[])]
 | .slice (some a) _ _,l=>NE a.block a.off l
 | _,l=>[]
theorem YK(v:Value):Qx v []=[(⟨none,0,0⟩,[])]:=by cases v<;>rfl
theorem Qy{b off n c:Nat}{l:List Aj}(h:l≠[]):Qx (.slice (some ⟨b,off,none⟩) n c) l=NE b off l:=by
 cases l with
 | nil=>exact absurd rfl h
 | cons _ _=>rfl
theorem qH{v:Value}{l:List Aj}(h:By K w0 AV 4 v l):∀a∈Qx v l,By K w0 AV 4 a.1.val a.2:=by
 by_cases hl:l=[]
 subst hl
 rw[YK]
 intro a ha
 obtain rfl:=List.mem_singleton.1 ha
 exact⟨h.len,.inl ⟨_,rfl,rfl⟩⟩
 rcases h.at_ with⟨_,_,e⟩ | ⟨b,off,cap,rfl,hc,hcell⟩
 exact absurd e hl
 rw[Qy hl]
 exact jA h
theorem eK{b1 b2:Nat}{a:Option Addr}{G0:List AX}:
  QC Tryz.prog K w0 205 [vP b1 0,vP b2 0] [own b1 (.cells #[.slice a 0 0] 22),own b2 (.cells #[vI 4] 3)] G0 Kr []:=by
 intro lp J9 X T rc hy h0
 refine WN.enter Tryz.func205 rfl rfl ?_
 show SX _ _ _ _ _ _ _ _ _ (own b1 (.cells #[.slice a 0 0] 22)::own b2 (.cells #[vI 4] 3)::((rc::G0)++T))
 refine Y (U E (V (AN ?_)))
 refine SX.mono (BK (α:=Unit) (fun _=>True) (fun _=>[(0,vY lp),(1,vP b1 0),(2,vP b2 0),(4,vI 0)])
  (fun _=>own b1 (.cells #[.slice a 0 0] 22)::own b2 (.cells #[vI 4] 3)::((rc::G0)++T)) (fun _=>0) (fun x D hp=>?_) () trivial) tL
 refine AH (Y (J E (AG 0 HI E (Py E Ca E (Z E A9 (V (C1 E (A5 (BC (Bb (BB ?_)))))))))))
 exact Da (Ed E) (Ao (M:=rc::G0) (.inl h0) fun _ h=>h.skip [_,_])
def JD(v:Value)(l:List Aj):List No:=if l=[]then[]else Qx v l
theorem pB{b1 b2:Nat}{v:Value}{l:List Aj}(hl:l.length≤1048576)(hs:By K w0 AV 4 v l)(G0:List AX):
  QC Tryz.prog K w0 205 [vP b1 0,vP b2 0] [own b1 (.cells v.cells 22),own b2 (.cells #[vI 4] 3)] G0 Kr (JD v l):=by
 by_cases h0:l=[]
 subst h0
 rw[JD,if_pos rfl]
 rcases hs.at_ with⟨a,rfl,_⟩ | ⟨b,off,cap,rfl,_⟩
 exact eK
 rcases hs.at_ with⟨a,e,_⟩ | ⟨b',off',cap',e,hc,hcell⟩
 rw[e]
 exact eK
 have:=jp (G0:=G0) (b1:=b1) (b2:=b2) (cap:=cap) hl hs zS
 exact this
 rcases hs.at_ with⟨_,_,e⟩ | ⟨b,off,cap,rfl,hc,hcell⟩
 exact absurd e h0
 rw[JD,if_neg h0,Qy h0]
 exact jp hl hs hc
theorem T4(b off:Nat)(l:List Aj):(NE b off l).length=(l.length+3) / 4:=by simp[NE,ME]
theorem Zl{v:Value}{l:List Aj}(hs:By K w0 AV 4 v l)(hl:l.length≤1048576):(JD v l).length≤1048576:=by
 by_cases h0:l=[]
 rw[JD,if_pos h0];simp
 rcases hs.at_ with⟨_,_,e⟩ | ⟨b,off,cap,rfl,hc,hcell⟩
 exact absurd e h0
 rw[JD,if_neg h0,Qy h0,T4]
 omega
theorem aO{v:Value}{l:List Aj}(hs:By K w0 AV 4 v l):(if(JD v l).length=0 then[((⟨none,0,0⟩:aM),([]:List Aj))]else JD v l)=Qx v l:=by
 by_cases h0:l=[]
 subst h0
 rw[JD,if_pos rfl,YK]
 rfl
 rcases hs.at_ with⟨_,_,e⟩ | ⟨b,off,cap,rfl,hc,hcell⟩
 exact absurd e h0
 have hp:0<l.length:=List.length_pos_iff.2 h0
 rw[JD,if_neg h0,Qy h0,if_neg (by rw[T4];omega)]
end

section
variable {K:Nat→Prop}{w0:World}{H:List AX}
theorem By.one{α:Type}{enc:α→List Value}{sz:Nat}{v:Value}{xs:List α}(h:By K w0 enc sz v xs):v.cells=#[v]:=by
 rcases h.at_ with⟨_,rfl,_⟩ | ⟨_,_,_,rfl,_⟩<;>rfl
theorem pC{bx:Nat}{v:Value}{l:List Aj}{G0:List AX}(hl:l.length≤1048576)(hs:By K w0 AV 4 v l):
  QC Tryz.prog K w0 173 [vP bx 0] [own bx (.cells #[v] 22)] G0 Kr (Qx v l).reverse:=by
 intro lp J9 X T rc hy h0
 refine WN.enter Tryz.func173 rfl rfl ?_
 show SX _ _ _ _ _ _ _ _ _ (own bx (.cells #[v] 22)::((rc::G0)++T))
 have hlen:=Zl hs hl
 refine Y ?_
 refine Bg E E zU fun b0=>?_
 refine V (Y (AG 1 HI E (BY 0 uJ sa E ?_)))
 rintro _ _ ⟨b1,b2,rfl,rfl⟩
 refine BT (vs:=[_]) (Hin:=[_,_]) (Hr:=_::_::_) E E ⟨E,zT⟩ uI E E (mC (cap:=[vP b1 0,vP b2 0]) ue hlen (fun G0=>pB hl hs G0)) ?_
 rintro va _ ⟨_,rfl,rfl⟩
 refine⟨trivial,?_⟩
 refine U E (V ?_)
 refine A8 (α:=Value×List No) (fun x=>x.2=Qx v l) (fun x=>[(0,vY lp),(2,vP b0 0),(3,x.1)]) (fun x=>AD 22 1 x.1 Kr x.2::own b0 (.cells #[vY lp] 40)::((rc::G0)++T)) ?_ (fun x D hx=>?_)
 refine Y (J E (DL 0 E Yv E E (Z E Ba (V ?_))))
 refine A7 E (fun hc1=>?_) (fun hc1=>?_)
 have hz:(JD v l).length=0:=by
  have:=of_decide_eq_true hc1
  omega
 refine AM ?_
 refine CA [_] E Yv My oC ⟨E,zT⟩ E E E zX E E zU fun b3=>?_
 refine B4 Kr 1 ([(⟨none,0,0⟩,[])]:List No) E zV E ?_
 refine U E (AZ ?_)
 exact Aq (.slice (some ⟨b3,0,none⟩) 1 1,[(⟨none,0,0⟩,[])]) (show([(⟨none,0,0⟩,[])]:List No)=Qx v l by rw[←aO hs,if_pos hz]) tL (BM [0,2] 4 E E E)
 have hz:¬(JD v l).length=0:=by
  have:=of_decide_eq_false hc1
  omega
 refine AI ?_
 exact Aq (va,JD v l) (show JD v l=Qx v l by rw[←aO hs,if_neg hz]) tL (BM [0,1] 3 E E E)
 obtain⟨va,xs⟩:=x
 have hx:xs=Qx v l:=hx
 have hxn:xs.length≤1048576:=by
  rw[hx,←aO hs]
  split
  simp
  exact hlen
 rw[←hx]at hy ⊢
 clear hx
 try dsimp only
 refine Y ?_
 refine US 0 E fun sv hsv=>?_
 refine J E ?_
 refine BY 0 uK (wD (va:=va) (by rw[hsv];rfl)) E ?_
 rintro _ _ ⟨b4,rfl,rfl⟩
 refine V (AN ?_)
 refine N7 (enc:=qw) (F7 xs) (Hit:=[_,_]) (G0:=own b0 (.cells #[vY lp] 40)::((rc::G0)++T)) (fun pre Gx=>∃G,J9 (pre.map (·.2)) G∧Gx=own b0 (.cells #[vY lp] 40)::(G++T)) (fun c Gx=>c=.ret∧∃G,X G∧Gx=own b0 (.cells #[vY lp] 40)::(G++T)) E uf E zV (vm hxn) E ⟨rc::G0,h0,E⟩ (fun pre x suf Gx hxs hJ r lr Rest=>?_) (fun Gx D hJ=>?_) (fun c Gx D hX=>?_)
 obtain⟨G,hJ,rfl⟩:=hJ
 refine AM (U E (AZ ?_))
 refine Jm (G:=own b0 (.cells #[vY lp] 40)::(G++T)) ?_
 refine AN (Y (AG 0 zd E (J E ?_)))
 refine I8 (M2:=[own b0 (.cells #[vY lp] 40)]) (G:=G) (T:=T++Tl r lr Rest .busy) (vs:=[_]) (ok:=fun G1=>J9 ((pre++[x]).map (·.2)) G1) (no:=X) E E ⟨E,zT⟩ (by simp[List.append_assoc]) ?_ (fun bb G1 hG1=>⟨zT,?_⟩)
 intro M
 have hsp:xs.reverse=pre.map (·.2)++x.2::suf.map (·.2):=by
  rw[←aT,hxs,List.map_append,List.map_cons]
 have:=hy (pre.map (·.2)) x.2 (suf.map (·.2)) hsp G hJ M
 rw[List.map_append,List.map_cons,List.map_nil]
 exact this
 refine CF E E (V ?_)
 refine A7 E (fun hc2=>?_) (fun hc2=>?_)
 obtain rfl:bb=false:=by simpa using hc2
 refine AK (BI ?_)
 exact qA ⟨E,G1,hG1,E⟩ (fun _ hw=>by simpa[List.append_assoc]using hw)
 obtain rfl:bb=true:=by simpa using hc2
 refine AI (Av ?_)
 exact IK ⟨G1,hG1,E⟩ (fun _ hw=>by simpa[List.append_assoc]using hw)
 obtain⟨G,hJ,rfl⟩:=hJ
 rw[aT]at hJ
 refine Av ?_
 exact Da (Ed E) (Ao (M:=G) (.inl hJ) fun _ h=>h.skip [_])
 obtain⟨rfl,G,hX,rfl⟩:=hX
 refine AK (BI ?_)
 exact An (Ed E) (Ao (M:=G) (.inr hX) fun _ h=>h.skip [_])
theorem pU{v:Value}(hv:v.cells=#[v]):zC K w0 154 [v] [] H (fun u M=>∃bx:Nat,u=.func (.func 173) #[] #[vP bx 0]∧M=[own bx (.cells #[v] 22)]):=by
 refine WN.enter Tryz.func154 rfl rfl ?_
 refine Y ?_
 refine Bg E E zU fun b1=>?_
 rw[hv]
 refine U E (V (Y ?_))
 refine HK (fv:=#[]) (cv:=#[_]) E E E ?_
 refine U E (V (AK ?_))
 exact BH [0] 1 (Cx E E) E E ⟨_,E,E⟩
end

section
variable {K:Nat→Prop}{w0:World}{H:List AX}
theorem FF.mid:∀ {Hs A B R:List AX},FF Hs A→FF Hs (B++(A++R))
 | [],_,_,_,_=>trivial
 | c::r,A,B,R,⟨⟨i,hi⟩,h⟩=>⟨⟨B.length+i,by
   have hlt:=(List.getElem?_eq_some_iff.1 hi).1
   rw[List.getElem?_append_right zO,Nat.add_sub_cancel_left,List.getElem?_append_left hlt,hi]⟩,FF.mid h⟩
theorem aE{k:AX}{A B R M:List AX}{w:World}(h:Bj K w0 ((k::(A++(B++R)))++M) w):Bj K w0 ((k::(B++(A++R)))++M) w:=by
 refine h.perm (List.Perm.append_right _ (List.Perm.cons _ ?_))
 rw[←List.append_assoc,←List.append_assoc]
 exact List.Perm.append_right _ List.perm_append_comm
theorem S8{α:Type}{enc:α→List Value}{sz:Nat}(hl:∀x,(enc x).length=sz):By K w0 enc sz zN []:=⟨hl,.inl ⟨_,rfl,rfl⟩⟩
def PW(l:List Aj):List (List Aj):=if l=[]then[[]]else(List.range ((l.length+3) / 4)).map fun i=>(l.drop (4*i)).take (min (4*i+4) l.length-4*i)
theorem im{v:Value}{l:List Aj}(h:By K w0 AV 4 v l):(Qx v l).map (·.2)=PW l:=by
 by_cases hl:l=[]
 subst hl
 rw[YK]
 rfl
 rcases h.at_ with⟨_,_,e⟩ | ⟨b,off,cap,rfl,hc,hcell⟩
 exact absurd e hl
 rw[Qy hl,PW,if_neg hl,NE,ME,List.map_map]
 rfl
def Kl{σ:Type}(rec_:CB→IG→σ→Option (BR×(IG×σ))):List CB→IG→σ→List BR→Option (List BR×(IG×σ))
 | [],p,q,acc=>some (acc,(p,q))
 | k::ks,p,q,acc=>(rec_ k p q).bind fun y=>(C8 24 acc [y.1]).bind fun acc'=>Kl rec_ ks y.2.1 y.2.2 acc'
def O2{σ:Type}(n:Nat)(wh:YG σ):List (List Aj)→BR→IG→σ→Option (BR×(IG×σ))
 | [],r,p,q=>some (r,(p,q))
 | l::ls,r,p,q=>(Is n wh ⟨1,0,0,0,l,[],r.page,r.tag⟩ p q).bind fun y=>cond (!decide (y.2.1.wrong=0)) (some y) (O2 n wh ls y.1 y.2.1 y.2.2)
def Ir{σ:Type}(n:Nat)(wh:YG σ):Nat→CB→IG→σ→Option (BR×(IG×σ))
 | 0,_,_,_=>none
 | f+1,t,p,q=>if 1048576<t.rows.length∨1048576<t.kids.length then none else cond (decide (0<(t.kids.length:Int)))
   ((Kl (Ir n wh f) t.kids p q []).bind fun y=>Is n wh ⟨2,t.cx,t.cy,t.lev,[],y.1,0,[]⟩ y.2.1 y.2.2)
   (O2 n wh (PW t.rows).reverse ⟨0,[]⟩ p q)
theorem Tz{σ:Type}{C:Value→σ→List AX}{wh:YG σ}{fid:FuncId}{cs:Array Value}{T:List UInt32}{n bp:Nat}(hcal:AP Tryz.prog fid=true)(hwh:kR T fid cs C wh):
  ∀(f:Nat) {K:Nat→Prop} {w0:World} {H:List AX} {vo ca:Value} {a:Fs} {t:CB} {p:IG} {q:σ} {r:BR×(IG×σ)},Gk K w0 T→Ir n wh f t p q=some r→Ph K w0 a t→
  zC K w0 116 [vP bp 0,.agg (CW a).toArray] (NR bp (.func (.func fid) #[] cs) vo p::AD 148 3 vo AS p.out::C ca q) H
   (fun u M=>u=.agg (Bd r.1).toArray∧∃vo' ca',M=NR bp (.func (.func fid) #[] cs) vo' r.2.1::AD 148 3 vo' AS r.2.1.out::C ca' r.2.2)
 | 0,K,w0,H,vo,ca,a,t,p,q,r,hS,h,hN=>by cases h
 | f+1,K,w0,H,vo,ca,a,t,p,q,r,hS,h,hN=>by
  have h:(if 1048576<t.rows.length∨1048576<t.kids.length then none else cond (decide (0<(t.kids.length:Int)))
   ((Kl (Ir n wh f) t.kids p q []).bind fun y=>Is n wh ⟨2,t.cx,t.cy,t.lev,[],y.1,0,[]⟩ y.2.1 y.2.2)
   (O2 n wh (PW t.rows).reverse ⟨0,[]⟩ p q))=some r:=h
  split at h
  cases h
  rename_i hbig
  have hrl:t.rows.length≤1048576:=zO
  have hkl:t.kids.length≤1048576:=zO
  clear hbig
  obtain⟨rv,kv,rfl,hr,hk⟩:=hN.parts
  refine WN.enter Tryz.func116 rfl rfl ?_
  show SX _ _ _ _ _ _ _ _ _ (NR bp (.func (.func fid) #[] cs) vo p::AD 148 3 vo AS p.out::(C ca q++H))
  refine Y ?_
  refine Bg E E zU fun b0=>?_
  refine Bg E E zU fun b1=>?_
  refine Au E FU zU fun b2=>?_
  refine V (LA (AH (Y (AE E Ih (AG 1 SO E (VY hk E M7 E (Z E Cj (V ?_))))))))
  refine AL h E (fun hc1 h=>?_) fun hc1 h=>?_
  refine Y (AE rfl Ot (Aw [AB t.cx,AB t.cy,vI t.lev] rfl EC rfl rfl (Ct 1 rfl (by rintro(_ | (_ | (_ | j))) u hj<;>first | exact hj | exact absurd hj zS)) (B5 [_,_] rfl ga gY Y1 ⟨rfl,rfl,trivial⟩ rfl ?_)))
  refine Au E Y1 zU fun b3=>?_
  refine A3 0 E E E E sQ E E E zT (NA 0 (own b3 (.cells #[vI 2,AB t.cx,AB t.cy,vI t.lev,zN,zN,AB 0,vS []] 250)) (CE 146 2 Bd (V (AH (Y (AE E Ih (AG 3 SO E (VY hk E M7 E (J E (V (AN ?_)))))))))))
  refine SX.heap (SX.mono (BK (α:=Nat×List BR×Value×IG×σ×Value×Value) (fun x=>x.1≤t.kids.length∧((Kl (Ir n wh f) (t.kids.drop x.1) x.2.2.2.1 x.2.2.2.2.1 x.2.1).bind fun y=>Is n wh ⟨2,t.cx,t.cy,t.lev,[],y.1,0,[]⟩ y.2.1 y.2.2)=some r)
   (fun x=>[(2,vP b0 0),(4,vP b2 0),(5,vP b3 0),(18,kv.val),(19,vI (t.kids.length:Int)),(20,vI (x.1:Int))])
   (fun x=>own b3 (.cells #[vI 2,AB t.cx,AB t.cy,vI t.lev,zN,x.2.2.1,AB 0,vS []] 250)::AD 146 2 x.2.2.1 Bd x.2.1::own b2 (.cells #[AB 0,vS []] 146)::own b0 (.cells #[vP bp 0] 209)::NR bp (.func (.func fid) #[] cs) x.2.2.2.2.2.1 x.2.2.2.1::AD 148 3 x.2.2.2.2.2.1 AS x.2.2.2.1.out::(C x.2.2.2.2.2.2 x.2.2.2.2.1++H))
   (fun x=>t.kids.length-x.1) (fun x D hp=>?_) (0,[],zN,p,q,vo,ca) ⟨Nat.zero_le _,h⟩) tL) (BM [1,0,2,4,5,6] 7 rfl rfl rfl)
  clear h
  obtain⟨i,ks,vk,p1,q1,vo1,ca1⟩:=x
  obtain⟨hi,h⟩:=hp
  dsimp only at hi h ⊢
  refine Y (Z E A9 (V (AH ?_)))
  refine A7 E (fun hc2=>?_) (fun hc2=>?_)
  have hlt:i<t.kids.length:=by
   have:=of_decide_eq_true hc2
   omega
  clear hc2
  have hnth:BE t.kids (i:Int)=some t.kids[i]:=by
   rw[BE,if_pos zO]
   exact List.getElem?_eq_getElem hlt
  rw[List.drop_eq_getElem_cons hlt,Kl]at h
  refine AF h fun z hz h=>?_
  obtain⟨y,hy,hz⟩:=bnd hz
  obtain⟨ac,hac,hz⟩:=bnd hz
  have h2:((Kl (Ir n wh f) (t.kids.drop (i+1)) y.2.1 y.2.2 ac).bind fun y=>Is n wh ⟨2,t.cx,t.cy,t.lev,[],y.1,0,[]⟩ y.2.1 y.2.2)=some r:=by
   rw[hz];exact h
  refine AI (AJ (AH (AN (Y ?_))))
  refine iX hnth hk E M7 Gj E E fun b5 of5 rv5 kv5 hr5 hk5 hc5=>?_
  obtain⟨rs5,rfl⟩:=hr5.slv
  obtain⟨kk5,hk51,hk52⟩:=hk5
  obtain⟨ks5,rfl⟩:=hk51.slv
  have hN5:Ph K w0 ⟨t.kids[i].cx,t.kids[i].cy,t.kids[i].lev,rs5,ks5⟩ t.kids[i]:=Ph.of hr5 ⟨kk5,hk51,hk52⟩
  refine Aw [AB t.kids[i].cx,AB t.kids[i].cy,vI t.kids[i].lev,rs5.val,ks5.val] E KS E E (DT hc5) ?_
  refine Au E Ha zU fun b4=>?_
  refine A3 0 E E E E Gj E E E zT (NA 0 (own b4 (.cells #[AB t.kids[i].cx,AB t.kids[i].cy,vI t.kids[i].lev,rs5.val,ks5.val] 204)) (V (Ax Cz [0,1,4] (Bs [(true,0),(true,1),(true,2),(true,3),(false,4),(false,5),(false,6),(true,7)] (.last 8 .nil)) zK (AE E GK (AG 1 MI E (AG 2 gr E (Aw [AB t.kids[i].cx,AB t.kids[i].cy,vI t.kids[i].lev,rs5.val,ks5.val] E KS E E (Ap 0 E) ?_)))))))
  refine SL.heap ?_ (fun _ hw=>Ey (A:=[own b4 (.cells #[AB t.kids[i].cx,AB t.kids[i].cy,vI t.kids[i].lev,rs5.val,ks5.val] 204),own b3 (.cells #[vI 2,AB t.cx,AB t.cy,vI t.lev,zN,vk,AB 0,vS []] 250),AD 146 2 vk Bd ks,own b2 (.cells #[AB 0,vS []] 146),own b0 (.cells #[vP bp 0] 209)]) (B:=NR bp (.func (.func fid) #[] cs) vo1 p1::AD 148 3 vo1 AS p1.out::C ca1 q1) (R:=H) hw)
  have hcon:=Tz (bp:=bp) hcal hwh f (ca:=ca1) (K:=K) (w0:=w0) (H:=([own b4 (.cells #[AB t.kids[i].cx,AB t.kids[i].cy,vI t.kids[i].lev,rs5.val,ks5.val] 204),own b3 (.cells #[vI 2,AB t.cx,AB t.cy,vI t.lev,.slice none 0 0,vk,AB 0,vS []] 250),AD 146 2 vk Bd ks,own b2 (.cells #[AB 0,vS []] 146),own b0 (.cells #[vP bp 0] 209)]++H)++[Bf D]) (vo:=vo1) hS hy hN5
  generalize hpo:(fun(u:Value) (M:List AX)=>u=.agg (Bd y.1).toArray∧∃vo' ca',M=NR bp (.func (.func fid) #[] cs) vo' y.2.1::AD 148 3 vo' AS y.2.1.out::C ca' y.2.2)=po at hcon
  refine BT (vs:=[_,_]) (Hin:=NR bp (.func (.func fid) #[] cs) vo1 p1::AD 148 3 vo1 AS p1.out::C ca1 q1) (Hr:=[own b4 (.cells #[AB t.kids[i].cx,AB t.kids[i].cy,vI t.kids[i].lev,rs5.val,ks5.val] 204),own b3 (.cells #[vI 2,AB t.cx,AB t.cy,vI t.lev,zN,vk,AB 0,vS []] 250),AD 146 2 vk Bd ks,own b2 (.cells #[AB 0,vS []] 146),own b0 (.cells #[vP bp 0] 209)]++H) E E ⟨E,E,zT⟩ ma E E hcon ?_
  intro u0 M0 hpost
  rw[←hpo]at hpost
  obtain⟨rfl,vo2,ca2,rfl⟩:=hpost
  refine⟨FF.mid (A:=[own b4 (.cells #[AB t.kids[i].cx,AB t.kids[i].cy,vI t.kids[i].lev,rs5.val,ks5.val] 204),own b3 (.cells #[vI 2,AB t.cx,AB t.cy,vI t.lev,zN,vk,AB 0,vS []] 250),AD 146 2 vk Bd ks,own b2 (.cells #[AB 0,vS []] 146),own b0 (.cells #[vP bp 0] 209)]) ⟨⟨0,rfl⟩,⟨1,rfl⟩,⟨4,rfl⟩,trivial⟩,?_⟩
  refine SL.heap ?_ (fun _ hw=>Ey (A:=NR bp (.func (.func fid) #[] cs) vo2 y.2.1::AD 148 3 vo2 AS y.2.1.out::C ca2 y.2.2) (B:=[own b4 (.cells #[AB t.kids[i].cx,AB t.kids[i].cy,vI t.kids[i].lev,rs5.val,ks5.val] 204),own b3 (.cells #[vI 2,AB t.cx,AB t.cy,vI t.lev,zN,vk,AB 0,vS []] 250),AD 146 2 vk Bd ks,own b2 (.cells #[AB 0,vS []] 146),own b0 (.cells #[vP bp 0] 209)]) (R:=H) hw)
  refine CA [_] rfl Jk EZ FU ⟨rfl,trivial⟩ rfl rfl rfl zW rfl rfl (fun _=>⟨⟨1,rfl⟩,⟨2,rfl⟩,⟨5,rfl⟩,trivial⟩) fun b6=>?_
  refine B4 Bd 2 ([y.1]:List BR) E zV E ?_
  refine Cr 3 hac (sz:=2) (enc:=Bd) zV E Jk EZ qR FU E zD E E E E (B8 (sz:=2) (enc:=Bd) 0 zV E) (by simp[Bd,Value.oneCell']) (fun _=>⟨⟨1,E⟩,⟨2,E⟩,⟨5,E⟩,zT⟩) fun v6=>?_
  refine AE E GK (BU ?_)
  refine Cs 3 E fun hv6 ho6=>?_
  refine EW 2 E E E E sP hv6 ho6 E zT (AZ (Av (AJ (AM (Z E (Bh zO zO) (J E (AZ ?_)))))))
  exact A1 (i+1,ac,v6,y.2.1,y.2.2,vo2,ca2) ⟨hlt,h2⟩ (by dsimp only;omega) tL (BM [2,3,4,5] 6 E E E)
  have hge:i=t.kids.length:=by
   have:=of_decide_eq_false hc2
   omega
  subst hge
  rw[List.drop_length,Kl]at h
  replace h:Is n wh ⟨2,t.cx,t.cy,t.lev,[],ks,0,[]⟩ p1 q1=some r:=h
  refine A5 (BC (Bb (BB (AJ (SX.pick [1,0,2,3] 4 (Y (AG 3 gr E (Aw [vI 2,AB t.cx,AB t.cy,vI t.lev,zN,vk,AB 0,vS []] E YI E E (Ap 1 E) ?_))))))))
  refine SL.heap ?_ (fun _ hw=>aE (A:=[own b3 (.cells #[vI 2,AB t.cx,AB t.cy,vI t.lev,zN,vk,AB 0,vS []] 250),own b2 (.cells #[AB 0,vS []] 146),own b0 (.cells #[vP bp 0] 209)]) (B:=(NR bp (.func (.func fid) #[] cs) vo1 p1::AD 148 3 vo1 AS p1.out::C ca1 q1)) (R:=H) hw)
  have hcon:=CJ (K:=K) (w0:=w0) (H:=([own b3 (.cells #[vI 2,AB t.cx,AB t.cy,vI t.lev,.slice none 0 0,vk,AB 0,vS []] 250),own b2 (.cells #[AB 0,vS []] 146),own b0 (.cells #[vP bp 0] 209)]++H)++[Bf D]) (f:=153) (B:=[AD 146 2 vk Bd ks]) (Hin:=(NR bp (.func (.func fid) #[] cs) vo1 p1::AD 148 3 vo1 AS p1.out::C ca1 q1)) fun K' w1 hkk hB=>T0 (bp:=bp) (a:=ca1) (vo:=vo1) (v4:=.slice none 0 0) (v5:=vk) hcal hwh (hS.keeps hkk) h (S8 zV) (Bp (e:=146) (v:=vk) zV (hB _ zS))
  refine BT (vs:=[_,_]) (Hin:=AD 146 2 vk Bd ks::(NR bp (.func (.func fid) #[] cs) vo1 p1::AD 148 3 vo1 AS p1.out::C ca1 q1)) (Hr:=[own b3 (.cells #[vI 2,AB t.cx,AB t.cy,vI t.lev,zN,vk,AB 0,vS []] 250),own b2 (.cells #[AB 0,vS []] 146),own b0 (.cells #[vP bp 0] 209)]++H) E E ⟨E,E,zT⟩ mm E E hcon ?_
  rintro _ _ ⟨_,rfl,rfl,vo2,ca2,rfl⟩
  refine⟨trivial,?_⟩
  refine SL.heap ?_ (fun _ hw=>Ey (A:=AD 146 2 vk Bd ks::NR bp (.func (.func fid) #[] cs) vo2 r.2.1::AD 148 3 vo2 AS r.2.1.out::C ca2 r.2.2) (B:=[own b3 (.cells #[vI 2,AB t.cx,AB t.cy,vI t.lev,zN,vk,AB 0,vS []] 250),own b2 (.cells #[AB 0,vS []] 146),own b0 (.cells #[vP bp 0] 209)]) (R:=H) hw)
  refine A3 1 E E E E EZ E E E zT (V (AK (Aa (ES ?_))))
  exact An (GM E (B2 1 (Bd r.1) DC E E E E)) (Ao (M:=NR bp (.func (.func fid) #[] cs) vo2 r.2.1::AD 148 3 vo2 AS r.2.1.out::C ca2 r.2.2) ⟨E,vo2,ca2,E⟩ fun _ hw=>Bj.pick (H:=[_,_,_,_]) hw [] 4 E)
  refine AI (AJ (Y ?_))
  refine Au E FU zU fun b3=>?_
  refine V (AH (K9 (AJ (AH (Y (AE E Sn (AG 2 HI E (BY 0 t0 (pU hr.one) E ?_))))))))
  rintro _ _ ⟨bx,rfl,rfl⟩
  refine V (AN ?_)
  have h0:O2 n wh (((Qx rv.val t.rows).reverse).map (·.2)) ⟨0,[]⟩ p q=some r:=by
   rw[List.map_reverse,im hr];exact h
  refine SX.heap (N7 (enc:=Kr) (Qx rv.val t.rows).reverse (G0:=(own b3 (.cells #[AB 0,vS []] 146)::own b2 (.cells #[AB 0,vS []] 146)::own b0 (.cells #[vP bp 0] 209)::NR bp (.func (.func fid) #[] cs) vo p::AD 148 3 vo AS p.out::(C ca q++H))) (fun pre G=>∃(x:BR) (p1:IG) (q1:σ) (vo1 ca1:Value),(∀suf,(Qx rv.val t.rows).reverse=pre++suf→O2 n wh (suf.map (·.2)) x p1 q1=some r)∧G=(own b3 (.cells #[AB x.page,vS x.tag] 146)::own b2 (.cells #[AB 0,vS []] 146)::own b0 (.cells #[vP bp 0] 209)::NR bp (.func (.func fid) #[] cs) vo1 p1::AD 148 3 vo1 AS p1.out::(C ca1 q1++H))) (fun c G=>c=.exit 2∧∃vo1 ca1:Value,G=(own b3 (.cells #[AB r.1.page,vS r.1.tag] 146)::own b2 (.cells #[AB 0,vS []] 146)::own b0 (.cells #[vP bp 0] 209)::NR bp (.func (.func fid) #[] cs) vo1 r.2.1::AD 148 3 vo1 AS r.2.1.out::(C ca1 r.2.2++H))) E uH E zV (pC hrl hr) E ⟨⟨0,[]⟩,p,q,vo,ca,fun suf e=>by rw[←show(Qx rv.val t.rows).reverse=suf from e];exact h0,E⟩ (fun pre x suf G hxs hJ lr lp Rest=>?_) (fun G D hJ=>?_) (fun c G D hX=>?_)) (BM [0,1,2,4,5,6] 7 E E E)
  obtain⟨w,p1,q1,vo1,ca1,h,rfl⟩:=hJ
  have h1:=h (x::suf) hxs
  rw[List.map_cons,O2]at h1
  obtain⟨y,hy,h1⟩:=bnd h1
  have hx:By K w0 AV 4 x.1.val x.2:=qH hr x (List.mem_reverse.1 (by rw[hxs];simp))
  refine AM (U E (AZ ?_))
  refine Jm (G:=own b3 (.cells #[AB w.page,vS w.tag] 146)::own b2 (.cells #[AB 0,vS []] 146)::own b0 (.cells #[vP bp 0] 209)::NR bp (.func (.func fid) #[] cs) vo1 p1::AD 148 3 vo1 AS p1.out::(C ca1 q1++H)) ?_
  refine AN (Y (AG 2 gr E (J E (Aw (Bd w) E DC E E (Ap 0 E) (B5 [_,_,_] E ga gY Y1 ⟨E,E,E,zT⟩ E ?_)))))
  refine SL.heap ?_ (fun _ hw=>Ey (A:=[own b3 (.cells #[AB w.page,vS w.tag] 146),own b2 (.cells #[AB 0,vS []] 146),own b0 (.cells #[vP bp 0] 209)]) (B:=(NR bp (.func (.func fid) #[] cs) vo1 p1::AD 148 3 vo1 AS p1.out::C ca1 q1)) (R:=(H++Tl lr lp Rest .busy)) (by simp only[List.append_assoc,List.cons_append,List.nil_append]at hw ⊢;exact hw))
  have hcon:=T0 (K:=K) (w0:=w0) (H:=([own b3 (.cells #[AB w.page,vS w.tag] 146),own b2 (.cells #[AB 0,vS []] 146),own b0 (.cells #[vP bp 0] 209)]++(H++Tl lr lp Rest .busy))++[Bf []]) (bp:=bp) (a:=ca1) (vo:=vo1) (v4:=x.1.val) (v5:=.slice none 0 0) hcal hwh hS hy hx (S8 zV)
  refine BT (vs:=[_,_]) (Hin:=(NR bp (.func (.func fid) #[] cs) vo1 p1::AD 148 3 vo1 AS p1.out::C ca1 q1)) (Hr:=[own b3 (.cells #[AB w.page,vS w.tag] 146),own b2 (.cells #[AB 0,vS []] 146),own b0 (.cells #[vP bp 0] 209)]++(H++Tl lr lp Rest .busy)) E E ⟨E,E,zT⟩ mm E E hcon ?_
  rintro _ _ ⟨rfl,vo2,ca2,rfl⟩
  refine⟨trivial,?_⟩
  refine SL.heap ?_ (fun _ hw=>Ey (A:=(NR bp (.func (.func fid) #[] cs) vo2 y.2.1::AD 148 3 vo2 AS y.2.1.out::C ca2 y.2.2)) (B:=[own b3 (.cells #[AB w.page,vS w.tag] 146),own b2 (.cells #[AB 0,vS []] 146),own b0 (.cells #[vP bp 0] 209)]) (R:=(H++Tl lr lp Rest .busy)) hw)
  refine A3 0 E E E E EZ E E E zT (NA 0 (own b3 (.cells #[AB y.1.page,vS y.1.tag] 146)) (V (Y (AG 2 gr E (AT E E (AE E Uw (AG 3 Sw E (Z E BQ (V ?_)))))))))
  have hheap:∀w1:World,Bj K w0 ((own b3 (.cells #[AB y.1.page,vS y.1.tag] 146)::own b2 (.cells #[AB 0,vS []] 146)::own b0 (.cells #[vP bp 0] 209)::((NR bp (.func (.func fid) #[] cs) vo2 y.2.1::AD 148 3 vo2 AS y.2.1.out::C ca2 y.2.2)++(H++Tl lr lp Rest .busy)))) w1→Bj K w0 ((own b3 (.cells #[AB y.1.page,vS y.1.tag] 146)::own b2 (.cells #[AB 0,vS []] 146)::own b0 (.cells #[vP bp 0] 209)::NR bp (.func (.func fid) #[] cs) vo2 y.2.1::AD 148 3 vo2 AS y.2.1.out::(C ca2 y.2.2++H))++Tl lr lp Rest .busy) w1:=by
   intro w1 hw
   simp only[List.append_assoc,List.cons_append]at hw ⊢
   exact hw
  refine AL h1 E (fun hc3 h1=>?_) fun hc3 h1=>?_
  obtain rfl:=zI h1
  refine A5 (Hc ?_)
  exact NB ⟨E,vo2,ca2,E⟩ hheap
  refine AI (Av ?_)
  exact IK ⟨y.1,y.2.1,y.2.2,vo2,ca2,fun suf' e=>by rw[Ts hxs e];exact h1,E⟩ hheap
  obtain⟨x,p1,q1,vo1,ca1,h,rfl⟩:=hJ
  replace h:=h [] (List.append_nil _).symm
  obtain rfl:(x,(p1,q1))=r:=zI h
  refine Av (AJ (Y (Aw (Bd x) E DC E E (Ap 0 E) (A3 1 E E E E EZ E E E zT (V (AK (ES ?_)))))))
  exact An (GM E (B2 1 (Bd x) DC E E E E)) (Ao (M:=_::_::C ca1 q1) ⟨E,vo1,ca1,E⟩ fun _ hw=>Bj.pick (H:=[_,_,_]) hw [] 3 E)
  obtain⟨rfl,vo1,ca1,rfl⟩:=hX
  refine A5 (BB (AJ (Y (Aw (Bd r.1) E DC E E (Ap 0 E) (A3 1 E E E E EZ E E E zT (V (AK (ES ?_))))))))
  exact An (GM E (B2 1 (Bd r.1) DC E E E E)) (Ao (M:=_::_::C ca1 r.2.2) ⟨E,vo1,ca1,E⟩ fun _ hw=>Bj.pick (H:=[_,_,_]) hw [] 3 E)
end

section
theorem TS(l:List Aj):(PW l).length=max 1 ((l.length+3) / 4):=by
 unfold PW
 split
 rename_i h;subst h;rfl
 rename_i h
 have:=List.length_pos_iff.2 h
 simp
 omega
theorem lA{l p:List Aj}(h:p∈PW l):p.length≤4∧p.Sublist l:=by
 unfold PW at h
 split at h
 rename_i hl
 subst hl
 simp only[List.mem_singleton]at h
 subst h
 exact⟨by simp,List.Sublist.refl _⟩
 obtain⟨i,_,rfl⟩:=List.mem_map.1 h
 exact⟨by simp;omega,(List.take_sublist ..).trans (List.drop_sublist ..)⟩
theorem ZS{l p:List Aj}(h:Du l=true)(hs:p.Sublist l):Du p=true:=by
 unfold Du at h ⊢
 simp only[Bool.and_eq_true,decide_eq_true_eq]at h ⊢
 refine⟨⟨List.all_eq_true.2 fun r hr=>List.all_eq_true.1 h.1.1 r (hs.subset hr),(VD p).2 (((VD l).1 h.1.2).sublist hs)⟩,?_⟩
 have:=hs.length_le
 omega
abbrev gP(l:List Aj)(r:BR):C4:=⟨1,0,0,0,l,[],r.page,r.tag⟩
abbrev Xv(t:CB)(rs:List BR):C4:=⟨2,t.cx,t.cy,t.lev,[],rs,0,[]⟩
def iR:List (List Aj)→BR→List Ak→BR→Prop
 | [],r0,seg,r=>seg=[]∧r=r0
 | l::ls,r0,seg,r=>∃r1 seg',GL (gP l r0)=true∧seg=⟨OW (gP l r0),r1.page,r1.tag⟩::seg'∧iR ls r1 seg' r
def mM(R:CB→List Ak→BR→Prop):List CB→List Ak→List BR→Prop
 | [],seg,rs=>seg=[]∧rs=[]
 | k::ks,seg,rs=>∃s1 r1 s2 rs',R k s1 r1∧mM R ks s2 rs'∧seg=s1++s2∧rs=r1::rs'
def aG:Nat→CB→List Ak→BR→Prop
 | 0,_,_,_=>False
 | f+1,t,seg,r=>(t.rows.length≤1000∧t.kids.length≤1000)∧((t.kids=[]∧iR (PW t.rows).reverse ⟨0,[]⟩ seg r)∨(t.kids≠[]∧∃segs rs,mM (aG f) t.kids segs rs∧GL (Xv t rs)=true∧seg=segs++[⟨OW (Xv t rs),r.page,r.tag⟩]))
def OF:Nat→CB→Nat
 | 0,_=>0
 | f+1,t=>if t.kids.length=0 then max 1 ((t.rows.length+3) / 4)else(t.kids.map (OF f)).sum+1
theorem iR.len:∀ {ls:List (List Aj)} {r0 r:BR} {seg:List Ak} ,iR ls r0 seg r→seg.length=ls.length
 | [],_,_,_,h=>by rw[h.1];rfl
 | _::_,_,_,_,h=>by
  obtain⟨r1,seg',_,e,h'⟩:=h
  rw[e,List.length_cons,iR.len h',List.length_cons]
theorem mM.len{R:CB→List Ak→BR→Prop}{g:CB→Nat}(hg:∀k s r,R k s r→s.length=g k):∀ {ks:List CB} {seg:List Ak} {rs:List BR},mM R ks seg rs→seg.length=(ks.map g).sum∧rs.length=ks.length
 | [],_,_,h=>by rw[h.1,h.2];simp
 | k::ks,_,_,h=>by
  obtain⟨s1,r1,s2,rs',h1,h2,e1,e2⟩:=h
  have ih:=mM.len hg h2
  rw[e1,e2,List.length_append,hg _ _ _ h1,ih.1,List.length_cons,ih.2]
  simp
theorem aG.len:∀(f:Nat) {t:CB} {seg:List Ak} {r:BR} ,aG f t seg r→seg.length=OF f t
 | 0,_,_,_,h=>h.elim
 | f+1,t,seg,r,h=>by
  rcases h.2 with⟨h1,h2⟩ | ⟨h1,segs,rs,h2,_,e⟩
  rw[h2.len,OF,if_pos (by rw[h1];rfl),List.length_reverse,TS]
  have h0:=List.length_pos_iff.2 h1
  rw[e,OF,if_neg zO,List.length_append,(mM.len (fun k s r hr=>aG.len f hr) h2).1]
  rfl
def W6{σ:Type}(wh:YG σ):σ→List Ak→σ→Prop
 | q,[],q'=>q=q'
 | q,s::ss,q'=>∃q1,wh q s.txt=some ((⟨s.page,s.tag⟩,0),q1)∧W6 wh q1 ss q'
theorem W6.join{σ:Type}{wh:YG σ}:∀ {a b:List Ak} {q q1 q':σ},W6 wh q a q1→W6 wh q1 b q'→W6 wh q (a++b) q'
 | [],_,_,_,_,h,h'=>by cases h;exact h'
 | _::_,_,_,_,_,⟨q1,h1,h2⟩,h'=>⟨q1,h1,h2.join h'⟩
variable {σ:Type}{wh:YG σ}{n:Nat}
structure mV{σ:Type}(wh:YG σ)(Inv:σ→Prop)(Good:σ→Ak→Prop)(room:σ→Nat):Prop where
 step:∀q s,Inv q→s.length≤198→∃r e q',wh q s=some ((r,e),q')∧Inv q'∧(∀x,Good q x→Good q' x)∧((e=0∧Eo r=true∧Good q' ⟨s,r.page,r.tag⟩∧room q≤room q'+1)∨(e=110∧room q=0))
def oG(wh:YG σ)(Inv:σ→Prop)(Good:σ→Ak→Prop)(room:σ→Nat)(k:Nat)(Run:List Ak→Prop)(p:IG)(q:σ)(p':IG)(q':σ):Prop:=
 Inv q'∧(∀x,Good q x→Good q' x)∧((p'.wrong=0∧∃seg,p'.out=p.out++seg∧seg.length=k∧Run seg∧W6 wh q seg q'∧(∀x∈seg,Good q' x)∧room q≤room q'+k)∨(p'.wrong=110∧room q<k))
variable {Inv:σ→Prop}{Good:σ→Ak→Prop}{room:σ→Nat}
theorem U6{x:C4}{p:IG}{q:σ}(h:p.wrong≠0):Is n wh x p q=some (⟨0,[]⟩,(p,q)):=by
 unfold Is
 rw[zf h]
 rfl
theorem bL{α:Type}(f:α→List UInt8)(m:Nat):∀(l:List α),(∀a∈l,(f a).length≤m)→(l.map f).flatten.length≤m*l.length
 | [],_=>by simp
 | a::l,h=>by
  have h1:=h a zS
  have h2:=bL f m l (fun b hb=>h b (by simp[hb]))
  simp only[List.map_cons,List.flatten_cons,List.length_append,List.length_cons,Nat.mul_add,Nat.mul_one]
  omega
theorem oX{x:C4}(h:GL x=true):(OW x).length≤198:=by
 unfold OW
 by_cases hk:x.kind=1
 obtain⟨h1,h2,h3,h4,h5,h6,h7⟩:=Td h hk
 have h32:x.ntag.length≤32:=by
  rcases h7 with h7 | h7
  rw[h7.2];simp
  have:=(MG h7).1
  simp only at this
  omega
 have:=bL Ks 33 x.rows (fun r hr=>by rw[XZ];have:=VC h6 r hr;omega)
 have h36:=Qf (r:=⟨x.npage,x.ntag⟩) h32
 rw[show decide (x.kind=2)=false by rw[hk];rfl,BZ]
 simp only[List.length_append,BP,h36]
 omega
 obtain⟨hk2,h1,h2,h3,h4,h5,h6,h7,h8⟩:=SF h hk
 have:=bL He 36 x.kids (fun r hr=>by rw[Qf (by have:=(MG (h1 r hr)).1;omega)];exact Nat.le_refl _)
 rw[show decide (x.kind=2)=true by rw[hk2];rfl,CC]
 simp only[List.length_append,BP]
 omega
theorem eE(W:mV wh Inv Good room)(hn:10≤n){x:C4}{p:IG}{q:σ}(h:GL x=true)(hi:Inv q)(hw:p.wrong=0)(hb:p.out.length≤100000):
  ∃r p' q',Is n wh x p q=some (r,(p',q'))∧(p'.wrong=0→Eo r=true)∧oG wh Inv Good room 1 (fun seg=>seg=[⟨OW x,r.page,r.tag⟩]) p q p' q':=by
 obtain⟨r,e,q',h1,h2,h3,h4⟩:=W.step q (OW x) hi (oX h)
 unfold Is
 rw[hw,show(!decide ((0:Int)=0))=false from rfl,BZ,We hn h,AA,show decide ((0:Int)=0)=true from rfl,CC,h1,AA]
 unfold RH
 rcases h4 with⟨rfl,h5,h6,h7⟩ | ⟨rfl,h5⟩
 rw[show(!decide ((0:Int)=0))=false from rfl,BZ,DM zQ zQ,AA]
 exact⟨r,_,q',rfl,fun _=>h5,h2,h3,.inl ⟨hw,_,rfl,rfl,rfl,⟨q',h1,rfl⟩,fun y hy=>by rw[List.mem_singleton.1 hy];exact h6,h7⟩⟩
 rw[show(!decide ((110:Int)=0))=true from rfl,CC]
 exact⟨⟨0,[]⟩,_,q',rfl,fun h0=>absurd h0 (show ¬((110:Int)=0) by decide),h2,h3,.inr ⟨rfl,by omega⟩⟩
theorem eR(W:mV wh Inv Good room)(hn:10≤n):∀(ls:List (List Aj)) (r0:BR) (p:IG) (q:σ),(∀l∈ls,l.length≤4∧Du l=true)→(r0=⟨0,[]⟩∨Eo r0=true)→Inv q→p.wrong=0→p.out.length+ls.length≤100000→
  ∃r p' q',O2 n wh ls r0 p q=some (r,(p',q'))∧(p'.wrong=0→Eo r=true∨(ls=[]∧r=r0))∧oG wh Inv Good room ls.length (fun seg=>iR ls r0 seg r) p q p' q'
 | [],r0,p,q,hl,h0,hi,hw,hb=>⟨r0,p,q,rfl,fun _=>.inr ⟨rfl,rfl⟩,hi,fun _ h=>h,.inl ⟨hw,[],by simp,rfl,⟨rfl,rfl⟩,rfl,by simp,by simp⟩⟩
 | l::ls,r0,p,q,hl,h0,hi,hw,hb=>by
  obtain⟨l4,lr⟩:=hl l zS
  simp only[List.length_cons]at hb
  have hok:GL (gP l r0)=true:=by
   unfold GL gP
   rw[show decide ((1:Int)=1)=true from rfl,CC,lr]
   have:(Pb ⟨r0.page,r0.tag⟩||Eo ⟨r0.page,r0.tag⟩)=true:=by
    rcases h0 with rfl | h0
    rfl
    rw[show Eo ⟨r0.page,r0.tag⟩=true from h0];simp
   rw[this]
   simp
   omega
  obtain⟨r1,p1,q1,e1,k1,i1,g1,s1⟩:=eE W hn hok hi hw zO
  unfold O2
  rw[show Is n wh ⟨1,0,0,0,l,[],r0.page,r0.tag⟩ p q=some (r1,(p1,q1))from e1,AA]
  rcases s1 with⟨w1,seg1,o1,le1,rfl,pa1,go1,ro1⟩ | ⟨w1,ro1⟩
  rw[w1,show(!decide ((0:Int)=0))=false from rfl,BZ]
  obtain⟨r,p',q',e2,k2,i2,g2,s2⟩:=eR W hn ls r1 p1 q1 (fun q hq=>hl q (by simp[hq])) (.inr (k1 w1)) i1 w1 (by rw[o1];simp;omega)
  refine⟨r,p',q',e2,fun h=>?_,i2,fun x hx=>g2 x (g1 x hx),?_⟩
  rcases k2 h with h | ⟨_,h⟩
  exact .inl h
  rw[h]
  exact .inl (k1 w1)
  rcases s2 with⟨w2,seg2,o2,le2,ru2,pa2,go2,ro2⟩ | ⟨w2,ro2⟩
  refine .inl ⟨w2,_::seg2,by rw[o2,o1];simp,by simp[le2],⟨r1,seg2,hok,rfl,ru2⟩,pa1.join pa2,fun x hx=>?_,?_⟩
  rcases List.mem_cons.1 hx with rfl | hx
  exact g2 _ (go1 _ zS)
  exact go2 x hx
  simp only[List.length_cons]
  omega
  exact .inr ⟨w2,by simp only[List.length_cons];omega⟩
  rw[w1,show(!decide ((110:Int)=0))=true from rfl,CC]
  exact⟨r1,p1,q1,rfl,fun h=>absurd (w1.symm.trans h) zD,i1,g1,.inr ⟨w1,by simp only[List.length_cons];omega⟩⟩
theorem Tr.rows:∀ {f:Nat} {l:List Aj} {t:CB} ,Tr f l t→t.rows.length≤l.length∧t.kids.length≤4
 | 0,_,_,h=>h.elim
 | f+1,l,t,h=>by
  rcases h with⟨rfl,rfl⟩ | ⟨_,c,L,A,⟨_,rfl⟩ | ⟨_,_,ks,rfl,hk⟩⟩
  simp[CB.rows,CB.kids]
  simp[CB.rows,CB.kids]
  have:=hk.length
  have:=Wv L l
  simp only[CB.rows,CB.kids,List.length_nil]
  omega
theorem U2{rec_:CB→IG→σ→Option (BR×(IG×σ))}{p:IG}{q:σ}:∀(ks:List CB) (acc:List BR),(∀k∈ks,∃r,rec_ k p q=some (r,(p,q)))→acc.length+ks.length≤1000→∃rs,Kl rec_ ks p q acc=some (acc++rs,(p,q))
 | [],acc,_,_=>⟨[],by simp[Kl]⟩
 | k::ks,acc,h,hb=>by
  simp only[List.length_cons]at hb
  obtain⟨r,hr⟩:=h k zS
  obtain⟨rs,h'⟩:=U2 ks (acc++[r]) (fun j hj=>h j (by simp[hj])) zQ
  refine⟨r::rs,?_⟩
  unfold Kl
  rw[hr,AA,DM zQ zQ,AA,h']
  simp
theorem UK.right{α β:Type}{R:α→β→Prop}{xs:List α}{ys:List β}(h:UK R xs ys):∀y∈ys,∃x∈xs,R x y:=by
 induction h with
 | nil=>simp
 | cons h1 _ ih=>
  intro y hy
  rcases List.mem_cons.1 hy with rfl | hy
  exact⟨_,by simp,h1⟩
  obtain⟨x,hx,hR⟩:=ih y hy
  exact⟨x,by simp[hx],hR⟩
theorem ZL{p:IG}{q:σ}(hw:p.wrong≠0):∀(f:Nat) {l:List Aj} {t:CB},Tr f l t→l.length≤1000→∃r,Ir n wh f t p q=some (r,(p,q))
 | 0,_,_,h,_=>h.elim
 | f+1,l,t,h,hl=>by
  have hb:=Tr.rows h
  unfold Ir
  rw[if_neg zO]
  by_cases h0:0<(t.kids.length:Int)
  rw[zt h0,CC]
  have hk:∀k∈t.kids,∃r,Ir n wh f k p q=some (r,(p,q)):=by
   rcases h with⟨rfl,rfl⟩ | ⟨_,c,L,A,⟨_,rfl⟩ | ⟨_,_,ks,rfl,hk⟩⟩
   simp[CB.kids]
   simp[CB.kids]
   intro k hkm
   obtain⟨l',hl',hT⟩:=hk.right k hkm
   exact ZL hw f hT (by have:=(RK hl').length_le;omega)
  obtain⟨acc',h'⟩:=U2 (rec_:=Ir n wh f) t.kids [] hk zQ
  rw[h',AA,U6 hw]
  exact⟨_,rfl⟩
  rw[zf h0,BZ]
  rcases hls:(PW t.rows).reverse with _ | ⟨x,ls⟩
  exact⟨_,rfl⟩
  unfold O2
  rw[U6 hw,AA,zf hw]
  exact⟨_,rfl⟩
theorem dq{rec_:CB→IG→σ→Option (BR×(IG×σ))}{R:CB→List Ak→BR→Prop}{g:CB→Nat}:∀(ks:List CB) (acc:List BR) (p:IG) (q:σ),
  (∀k∈ks,∀p q,Inv q→p.wrong=0→p.out.length+g k≤100000→∃r p' q',rec_ k p q=some (r,(p',q'))∧(p'.wrong=0→Eo r=true)∧oG wh Inv Good room (g k) (fun seg=>R k seg r) p q p' q')→
  (∀k∈ks,∀p q,p.wrong≠0→∃r,rec_ k p q=some (r,(p,q)))→Inv q→p.wrong=0→p.out.length+(ks.map g).sum≤100000→acc.length+ks.length≤1000→
  ∃rs p' q',Kl rec_ ks p q acc=some (acc++rs,(p',q'))∧(p'.wrong=0→∀r∈rs,Eo r=true)∧oG wh Inv Good room (ks.map g).sum (fun seg=>mM R ks seg rs) p q p' q'
 | [],acc,p,q,_,_,hi,hw,_,_=>⟨[],p,q,by simp[Kl],by simp,hi,fun _ h=>h,.inl ⟨hw,[],by simp,rfl,⟨rfl,rfl⟩,rfl,by simp,by simp⟩⟩
 | k::ks,acc,p,q,hk,hkw,hi,hw,hb,ha=>by
  simp only[List.map_cons,List.sum_cons,List.length_cons]at hb ha
  obtain⟨r1,p1,q1,e1,k1,i1,g1,s1⟩:=hk k zS p q hi hw zO
  unfold Kl
  rw[e1,AA,DM zQ zQ,AA]
  rcases s1 with⟨w1,seg1,o1,le1,ru1,pa1,go1,ro1⟩ | ⟨w1,ro1⟩
  obtain⟨rs,p',q',e2,k2,i2,g2,s2⟩:=dq ks (acc++[r1]) p1 q1 (fun j hj=>hk j (by simp[hj])) (fun j hj=>hkw j (by simp[hj])) i1 w1 (by rw[o1];simp;omega) zQ
  refine⟨r1::rs,p',q',by simpa using e2,fun h r hr=>?_,i2,fun x hx=>g2 x (g1 x hx),?_⟩
  rcases List.mem_cons.1 hr with rfl | hr
  exact k1 w1
  exact k2 h r hr
  rcases s2 with⟨w2,seg2,o2,le2,ru2,pa2,go2,ro2⟩ | ⟨w2,ro2⟩
  refine .inl ⟨w2,seg1++seg2,by rw[o2,o1];simp,by simp[le1,le2],⟨seg1,r1,seg2,rs,ru1,ru2,rfl,rfl⟩,pa1.join pa2,fun x hx=>?_,?_⟩
  rcases List.mem_append.1 hx with hx | hx
  exact g2 _ (go1 _ hx)
  exact go2 x hx
  simp only[List.map_cons,List.sum_cons]
  omega
  exact .inr ⟨w2,by simp only[List.map_cons,List.sum_cons];omega⟩
  obtain⟨acc',h'⟩:=U2 (rec_:=rec_) (p:=p1) (q:=q1) ks (acc++[r1]) (fun j hj=>hkw j (by simp[hj]) p1 q1 (by rw[w1];decide)) zQ
  exact⟨r1::acc',p1,q1,by simpa using h',fun h=>absurd (w1.symm.trans h) zD,i1,g1,.inr ⟨w1,by simp only[List.map_cons,List.sum_cons];omega⟩⟩
theorem eC(W:mV wh Inv Good room)(hn:10≤n):∀(f:Nat) (l:List Aj) (t:CB) (p:IG) (q:σ),Tr f l t→Du l=true→Inv q→p.wrong=0→p.out.length+OF f t≤100000→
  ∃r p' q',Ir n wh f t p q=some (r,(p',q'))∧(p'.wrong=0→Eo r=true)∧oG wh Inv Good room (OF f t) (fun seg=>aG f t seg r) p q p' q'
 | 0,_,_,_,_,h,_,_,_,_=>h.elim
 | f+1,l,t,p,q,h,hr,hi,hw,hb=>by
  have hl:l.length≤1000:=by
   unfold Du at hr
   simp only[Bool.and_eq_true,decide_eq_true_eq]at hr
   omega
  have hbd:=Tr.rows h
  have leaf:t.kids=[]→Du t.rows=true→∃r p' q',Ir n wh (f+1) t p q=some (r,(p',q'))∧(p'.wrong=0→Eo r=true)∧oG wh Inv Good room (OF (f+1) t) (fun seg=>aG (f+1) t seg r) p q p' q':=by
   intro hk hrr
   have hpg:OF (f+1) t=(PW t.rows).reverse.length:=by rw[OF,if_pos (by rw[hk];rfl),List.length_reverse,TS]
   obtain⟨r,p',q',e,k,i,g,s⟩:=eR W hn (PW t.rows).reverse ⟨0,[]⟩ p q (fun x hx=>by
    have:=lA (List.mem_reverse.1 hx)
    exact⟨this.1,ZS hrr this.2⟩) (.inl rfl) hi hw zO
   refine⟨r,p',q',?_,fun h0=>?_,i,g,?_⟩
   unfold Ir
   rw[if_neg zO,zf (by rw[hk];simp),BZ]
   exact e
   rcases k h0 with h1 | ⟨h1,_⟩
   exact h1
   have:=congrArg List.length h1
   rw[List.length_reverse,TS,List.length_nil]at this
   omega
   rw[hpg]
   rcases s with⟨w,seg,o,le,ru,pa,go,ro⟩ | s
   exact .inl ⟨w,seg,o,le,⟨⟨by omega,by omega⟩,.inl ⟨hk,ru⟩⟩,pa,go,ro⟩
   exact .inr s
  rcases h with⟨rfl,rfl⟩ | ⟨_,c,L,A,⟨_,rfl⟩ | ⟨h4,hL,ks,rfl,hk⟩⟩
  exact leaf rfl hr
  exact leaf rfl hr
  have hkl:=hk.length
  have hq4:=Wv L l
  have hq2:=(RL A hL).1
  have hpg:OF (f+1) (.mk c.x c.y c.lev [] ks)=(ks.map (OF f)).sum+1:=by
   rw[OF,if_neg (by simp only[CB.kids];omega)]
   rfl
  rw[hpg]at hb ⊢
  obtain⟨rs,p1,q1,e1,k1,i1,g1,s1⟩:=dq (wh:=wh) (Inv:=Inv) (Good:=Good) (room:=room) (rec_:=Ir n wh f) (R:=aG f) (g:=OF f) ks [] p q (fun k hkm p q hi hw hb=>by
   obtain⟨l',hl',hT⟩:=hk.right k hkm
   exact eC W hn f l' k p q hT (ZS hr (RK hl')) hi hw hb) (fun k hkm p q hw=>by
   obtain⟨l',hl',hT⟩:=hk.right k hkm
   exact ZL hw f hT (by have:=(RK hl').length_le;omega)) hi hw zO zQ
  have hrun:Ir n wh (f+1) (.mk c.x c.y c.lev [] ks) p q=Is n wh (Xv (.mk c.x c.y c.lev [] ks) rs) p1 q1:=by
   unfold Ir
   rw[if_neg zO,zt (by simp only[CB.kids];omega),CC,show(CB.mk c.x c.y c.lev [] ks).kids=ks from rfl,e1,AA]
   rfl
  rw[hrun]
  rcases s1 with⟨w1,seg1,o1,le1,ru1,pa1,go1,ro1⟩ | ⟨w1,ro1⟩
  have hrl:=(mM.len (fun k s r hr=>aG.len f hr) ru1).2
  have hok:GL (Xv (.mk c.x c.y c.lev [] ks) rs)=true:=by
   unfold GL Xv
   rw[show decide ((2:Int)=1)=false from rfl,BZ,show decide ((2:Int)=2)=true from rfl,CC]
   have h5:rs.all Eo=true:=List.all_eq_true.2 (k1 w1)
   have h6:LW ⟨c.x,c.y,c.lev⟩=true:=A.ok
   have h7:=A.lev
   show(((rs.all Eo&&decide ((([]:List Aj).length:Int)=0))&&Pb ⟨0,[]⟩&&decide (2≤(rs.length:Int)))&&decide ((rs.length:Int)≤4)&&LW ⟨c.x,c.y,c.lev⟩&&decide (0<c.lev))=true
   rw[h5,h6,zt (show 2≤(rs.length:Int) by omega),zt (show(rs.length:Int)≤4 by omega),zt (show 0<c.lev by omega)]
   rfl
  obtain⟨r,p',q',e2,k2,i2,g2,s2⟩:=eE W hn hok i1 w1 (by rw[o1];simp;omega)
  refine⟨r,p',q',e2,k2,i2,fun x hx=>g2 x (g1 x hx),?_⟩
  rcases s2 with⟨w2,seg2,o2,le2,rfl,pa2,go2,ro2⟩ | ⟨w2,ro2⟩
  refine .inl ⟨w2,seg1++[_],by rw[o2,o1];simp,by simp[le1],⟨⟨by simp[CB.rows],by simp only[CB.kids];omega⟩,.inr ⟨by
   intro e
   have:ks=[]:=e
   rw[this,List.length_nil]at hkl
   omega,seg1,rs,ru1,hok,rfl⟩⟩,pa1.join pa2,fun x hx=>?_,by omega⟩
  rcases List.mem_append.1 hx with hx | hx
  exact g2 _ (go1 _ hx)
  exact go2 x hx
  exact .inr ⟨w2,by omega⟩
  rw[U6 (by rw[w1];decide)]
  exact⟨_,p1,q1,rfl,fun h=>absurd (w1.symm.trans h) zD,i1,g1,.inr ⟨w1,by omega⟩⟩
end

section
variable {K:Nat→Prop}{w0:World}{H:List AX}
def qz(a:Int×Ak):List Value:=[vI a.1,.agg (AS a.2).toArray]
theorem rq{bx:Nat}{va:Value}{xs:List Ak}{G0:List AX}(hn:xs.length≤1048576)(hs:By K w0 AS 3 va xs):
  QC Tryz.prog K w0 150 [vP bx 0] [own bx (.cells #[va] 89)] G0 qz (F7 xs):=by
 intro lp J9 X T rc hy h0
 refine WN.enter Tryz.func150 rfl rfl ?_
 show SX _ _ _ _ _ _ _ _ _ (own bx (.cells #[va] 89)::((rc::G0)++T))
 refine Y (AG 0 K7 E (Bt hs E FH E (Z E (EV zO zO) (U E (V (AN ?_))))))
 refine SX.mono (BK (α:=Nat×List AX) (fun x=>x.1≤xs.length∧J9 ((F7 xs).take x.1) x.2) (fun x=>[(0,vY lp),(1,vP bx 0),(3,vI ((xs.length:Int)-1-(x.1:Int)))])
  (fun x=>own bx (.cells #[va] 89)::(x.2++T)) (fun x=>xs.length-x.1) (fun x D hp=>?_) (0,rc::G0) ⟨Nat.zero_le _,h0⟩) (by simpa using tL)
 obtain⟨k,G⟩:=x
 obtain⟨hk,hJ⟩:=hp
 dsimp only at hk hJ ⊢
 refine AH (Y (J E (Z E M8 (V ?_))))
 refine A7 E (fun hc1=>?_) (fun hc1=>?_)
 have hlt:k<xs.length:=by
  have:=of_decide_eq_true hc1
  omega
 clear hc1
 have hb:k<(F7 xs).length:=by rw[LC];exact hlt
 have hget:=aS xs k hlt
 have hx:BE xs ((xs.length:Int)-1-(k:Int))=some (xs[xs.length-1-k]' zO):=by
  rw[BE,if_pos zO,show((xs.length:Int)-1-(k:Int)).toNat=xs.length-1-k by omega]
  exact List.getElem?_eq_getElem _
 refine AI (AJ (AH (AN (Y (J E (J E (AG 0 K7 E (J E ?_))))))))
 refine Co hx hs E FH Ea E E fun be1 of1 hc1=>?_
 refine Aw (AS _) E Lr E E (DT hc1) ?_
 refine I8 (M2:=[_]) (G:=G) (T:=T) (vs:=[_,_]) (ok:=fun G1=>J9 ((F7 xs).take (k+1)) G1) (no:=X) E E ⟨E,E,zT⟩ E ?_ (fun bb G1 hG1=>⟨zT,?_⟩)
 intro M
 have:=hy ((F7 xs).take k) ((F7 xs)[k]) ((F7 xs).drop (k+1)) (eY _ k hb) G hJ M
 rw[cY _ k hb,hget]at this
 rw[show((xs.length:Int)-1-(k:Int))=((xs.length-1-k:Nat):Int) by omega]
 exact this
 refine CF E E (V ?_)
 refine A7 E (fun hc3=>?_) (fun hc3=>?_)
 obtain rfl:bb=false:=by simpa using hc3
 refine AK (BI (Aa (EX (BI ?_))))
 exact An (Ed E) (Ao (M:=G1) (.inr hG1) fun _ h=>h.skip [_])
 obtain rfl:bb=true:=by simpa using hc3
 refine AI (Av (AJ (AM (J E (Z E (EV zO zO) ?_)))))
 refine Ay (u:=vI ((xs.length:Int)-1-((k+1:Nat):Int))) E E (congrArg vI zO) ?_
 refine AZ ?_
 exact A1 (k+1,G1) ⟨hlt,hG1⟩ (by dsimp only;omega) tL (BM [0] 1 E E E)
 have hge:k=xs.length:=by
  have:=of_decide_eq_false hc1
  omega
 subst hge
 rw[List.take_of_length_le (by rw[LC];exact Nat.le_refl _)]at hJ
 refine A5 (BC (Bb (BB ?_)))
 exact Da (Ed E) (Ao (M:=G) (.inl hJ) fun _ h=>h.skip [_])
theorem sY{va:Value}(hva:va.cells=#[va]):zC K w0 113 [va] [] H (fun u M=>∃bx:Nat,u=.func (.func 150) #[] #[vP bx 0]∧M=[own bx (.cells #[va] 89)]):=by
 refine WN.enter Tryz.func113 rfl rfl ?_
 refine Y ?_
 refine Bg E E zU fun b1=>?_
 rw[hva]
 refine U E (V (Y ?_))
 refine HK (fv:=#[]) (cv:=#[_]) E E E ?_
 refine U E (V (AK ?_))
 exact BH [0] 1 (Cx E E) E E ⟨_,E,E⟩
end

section
variable {K:Nat→Prop}{w0:World}{H:List AX}
end

section
variable {K:Nat→Prop}{w0:World}{H:List AX}
end

section
end

section
variable {K:Nat→Prop}{w0:World}{H:List AX}
end

section
variable {K:Nat→Prop}{w0:World}{H:List AX}
abbrev KN:={s:List UInt8 // s.length≤1048576}
def Xx(s:List UInt8):Option KN:=if h:s.length≤1048576 then some ⟨s,h⟩else none
theorem Wl{s:List UInt8}{k:KN}(h:Xx s=some k):k.1=s:=by
 unfold Xx at h
 split at h
 rw[←zI h]
 cases h
def Rz(k:KN):Value:=vS k.1
theorem j8{P:Program}{k:TypeId}(hk:P.underlying k=some .string)(a:KN):∃l,keyOf P k (Rz a)=some l:=by
 refine⟨.string a.1,?_⟩
 have:=a.2
 simp[keyOf,hk,mapKey,vS,Rz]
 show a.1.length≤maxLen
 simp[maxLen]
 omega
def Uq(r:BR):Value:=.agg (Bd r).toArray
theorem W5{P:Program}{k:TypeId}(hk:P.underlying k=some .string):OG P k Rz Uq:=
 ⟨Maps.string_keyed hk,j8 hk,⟨fun v=>match v with | .string b=>Xx b.data.toList | _=>none,fun x=>by
  show Xx x.1=some x
  unfold Xx
  rw[dif_pos x.2]⟩,⟨fun v=>match v with | .agg a=>(match a.toList with | [.int _ p,.string b]=>some ⟨UInt32.ofNat p.toNat,b.data.toList⟩ | _=>none) | _=>none,fun x=>by
  cases x
  simp[Uq,Bd,AB,vS]⟩⟩
structure QU where
 b:Nat
 rv:Value
 mt:Nat
 d:Nat
 bv:Value
 mp:Nat
 mb:Nat
abbrev MK(B:QU)(v:Am)(d:Ai):List AX:=
 [vO B.b B.d B.rv B.mt v,AD 55 2 B.rv AU v.ring,AY B.mt AB vB v.taken,dO B.d B.bv B.mp B.mb d,AD 9 1 B.bv eS d.blocks,AY B.mp AB vS d.pend,AY B.mb AB vB d.bad]
structure PM where
 tk:List UInt32
 v:Am
 d:Ai
abbrev WI(bt bm bv bk:Nat)(B:QU)(th:List (KN×BR))(a:Value)(q:PM):List AX:=
 own bt (.cells #[.map (some bm)] 207)::AY bm Rz Uq th::own bv (.cells #[vP B.b 0] 93)::own bk (.cells #[a] 129)::AD 36 1 a BV q.tk::MK B q.v q.d
def M5(T:List UInt32)(th:List (KN×BR)):YG PM:=fun q s=>
 (Xx s).bind fun k=>cond (Bn th k).isSome (some (((Bn th k).getD ⟨0,[]⟩,0),q))
  ((GV T q.v q.d s).bind fun y=>cond (decide (y.2.1=0)) ((C8 4 q.tk [y.1.page]).bind fun l=>some ((y.1,y.2.1),⟨l,y.2.2.1,y.2.2.2⟩)) (some ((y.1,y.2.1),⟨q.tk,y.2.2.1,y.2.2.2⟩)))
theorem qW{T:List UInt32}{bt bm bv bk:Nat}{B:QU}{th:List (KN×BR)}:kR T 114 #[vP bt 0,vP bv 0,vP bk 0] (WI bt bm bv bk B th) (M5 T th):=by
 intro K w0 H a q s r hS h
 unfold M5 at h
 refine AF h fun k hk h=>?_
 have hks:=Wl hk
 refine WN.enter Tryz.func114 rfl rfl ?_
 show SX _ _ _ _ _ _ _ _ _ (WI bt bm bv bk B th a q++H)
 refine Y ?_
 refine Au E FU zU fun b0=>?_
 refine U E (V (AH (Y (AG 1 sI E (J E ?_)))))
 refine YE (zv:=(⟨0,[]⟩:BR)) 2 (W5 Cu) E sU FU E (by rw[←hks];rfl) E ?_
 refine J E (Ah E E E (Ah E E E ?_))
 refine Au E FU zU fun b1=>?_
 refine A3 0 E E E E EZ E E E zT (NA 0 (own b1 (.cells #[AB ((Bn th k).getD ⟨0,[]⟩).page,vS ((Bn th k).getD ⟨0,[]⟩).tag] 146)) (U E (V (Y (J E (V ?_))))))
 refine AL h E (fun hc1 h=>?_) fun hc1 h=>?_
 obtain rfl:=zI h
 refine Y (Aw (Bd ((Bn th k).getD ⟨0,[]⟩)) E DC E E (Ap 0 E) (A3 1 E E E E EZ E E E zT (U E (V (AK (Aa ?_))))))
 exact An (FA E (B2 1 (Bd ((Bn th k).getD ⟨0,[]⟩)) DC E E E E) E) (Ao (M:=WI bt bm bv bk B th a q) ⟨E,a,E⟩ fun _ hw=>Bj.pick (H:=[_,_]) hw [] 2 E)
 refine AF h fun y hy h=>?_
 refine AI (AJ (Y (AG 4 QA E (J E ?_))))
 refine SL.heap (H':=MK B q.v q.d++([_,_,_,_,_,_,_]++H)) ?_ (fun _ hw=>Ey (A:=[_,_,_,_,_,_,_]) (B:=MK B q.v q.d) (R:=H) hw)
 have hcon:=i8 (K:=K) (w0:=w0) (H:=([own b1 (.cells #[AB ((Bn th k).getD ⟨0,[]⟩).page,vS ((Bn th k).getD ⟨0,[]⟩).tag] 146),own b0 (.cells #[AB 0,vS []] 146),own bt (.cells #[.map (some bm)] 207),AY bm Rz Uq th,own bv (.cells #[vP B.b 0] 93),own bk (.cells #[a] 129),AD 36 1 a BV q.tk]++H)++[Bf []]) (Az:=B.b) (AW:=B.rv) (BJ:=B.mt) (BG:=B.d) (Bw:=B.bv) (Bu:=B.mp) (Bv:=B.mb) hy hS
 refine BT (vs:=[_,_]) (Hin:=MK B q.v q.d) (Hr:=[_,_,_,_,_,_,_]++H) E E ⟨E,E,zT⟩ td E E hcon ?_
 rintro _ _ ⟨rfl,rfl⟩
 refine⟨trivial,?_⟩
 refine SL.heap (H':=[_,_,_,_,_,_,_]++(MK B y.2.2.1 y.2.2.2++H)) ?_ (fun _ hw=>Ey (A:=MK B y.2.2.1 y.2.2.2) (B:=[_,_,_,_,_,_,_]) (R:=H) hw)
 refine J E (Ah E E E (Ah E E E ?_))
 refine Au E FU zU fun b2=>?_
 refine A3 0 E E E E EZ E E E zT (NA 0 (own b2 (.cells #[AB y.1.page,vS y.1.tag] 146)) (U E (V ?_)))
 refine A8 (α:=List UInt32×Value) (fun w=>some ((y.1,y.2.1),(⟨w.1,y.2.2.1,y.2.2.2⟩:PM))=some r) (fun w=>[(9,vP b2 0),(10,vI y.2.1),(5,vP b0 0)])
  (fun w=>own b2 (.cells #[AB y.1.page,vS y.1.tag] 146)::own b0 (.cells #[AB 0,vS []] 146)::(WI bt bm bv bk B th w.2 ⟨w.1,y.2.2.1,y.2.2.2⟩++H)) ?_ (fun w D h=>?_)
 refine Y (J E (Z E Ba (V ?_)))
 refine AL h E (fun hc2 h=>?_) fun hc2 h=>?_
 refine AF h fun l hl h=>?_
 refine AM (AG 6 Yq E (AE E Ds (AG 0 A4 E ?_)))
 refine CA [_] rfl CT Bx H5 ⟨rfl,trivial⟩ rfl rfl rfl zW rfl rfl zU fun b3=>?_
 refine B4 BV 1 ([y.1.page]:List UInt32) E zV E ?_
 refine Cr 8 hl (sz:=1) (enc:=BV) zV E CT Bx Sb H5 E zD E E E E (B8 (sz:=1) (enc:=BV) 0 zV E) (by simp[BV,Value.oneCell']) zU fun v3=>?_
 refine Cs 8 E fun hv3 ho3=>?_
 refine EW 7 E E E E ln hv3 ho3 E zT (AZ ?_)
 exact Aq (l,v3) h tL (BM [1,3,4,5,6,7,8] 9 E E E)
 refine AI ?_
 exact Aq (q.tk,a) h tL (BM [0,2,3,4,5,6,7] 8 E E E)
 obtain⟨l,v3⟩:=w
 obtain rfl:=zI h
 dsimp only
 refine Y (Aw (Bd y.1) E DC E E (Ap 0 E) (J E (A3 1 E E E E EZ E E E zT (U E (V (AK ?_))))))
 exact An (FA E (B2 1 (Bd y.1) DC E E E E) E) (Ao (M:=WI bt bm bv bk B th v3 ⟨l,y.2.2.1,y.2.2.2⟩) ⟨E,v3,E⟩ fun _ hw=>Bj.pick (H:=[_,_]) hw [] 2 E)
end

section
variable {K:Nat→Prop}{w0:World}{H:List AX}
def Tu:List (Int×Ak)→List (KN×BR)→Option (List (KN×BR))
 | [],m=>some m
 | s::l,m=>(Xx s.2.txt).bind fun k=>(Km m k ⟨s.2.page,s.2.tag⟩).bind fun m'=>Tu l m'
def SA:List UInt32→Am→Ai→Option Am
 | [],v,_=>some v
 | x::l,v,d=>(Gi v d x).bind fun y=>SA l y.2 d
def cP(y:BR×(IG×PM)):Option (List Ak×Int×Am×Ai):=
 cond (!decide (y.2.1.wrong=0)) (if 1048576<y.2.2.tk.length then none else(SA y.2.2.tk y.2.2.v y.2.2.d).bind fun v'=>some ([],y.2.1.wrong,v',y.2.2.d)) (some (y.2.1.out,0,y.2.2.v,y.2.2.d))
def Pe(n:Nat)(T:List UInt32)(p0:Am)(p0_1:Ai)(p1:List Aj)(p2:List Ak):Option (List Ak×Int×Am×Ai):=
 (Qa n p1).bind fun b=>cond (!decide (b.2=0)) (some ([],b.2,p0,p0_1))
  (if 1048576<p2.length then none else(Tu (F7 p2) []).bind fun th=>(Ir n (M5 T th) n b.1 ⟨[],0⟩ ⟨[],p0,p0_1⟩).bind cP)
theorem iG{n Az BJ BG Bu Bv:Nat}{T:List UInt32}{AW Bw DE D8:Value}{p0:Am}{p0_1:Ai}{p1:List Aj}{p2:List Ak}{r:List Ak×Int×Am×Ai}(h:Pe n T p0 p0_1 p1 p2=some r)(hS:Gk K w0 T)(hs1_:By K w0 AV 4 DE p1)(hs2_:By K w0 AS 3 D8 p2):
  zC K w0 83 [vP Az 0,DE,D8] (MK ⟨Az,AW,BJ,BG,Bw,Bu,Bv⟩ p0 p0_1) H (fun u M=>∃v0:Value,u=.tuple #[v0,vI r.2.1]∧M=AD 148 3 v0 AS r.1::MK ⟨Az,AW,BJ,BG,Bw,Bu,Bv⟩ r.2.2.1 r.2.2.2):=by
 unfold Pe at h
 refine AF h fun b hb h=>?_
 refine WN.enter Tryz.func83 rfl rfl ?_
 show SX _ _ _ _ _ _ _ _ _ (MK ⟨Az,AW,BJ,BG,Bw,Bu,Bv⟩ p0 p0_1++H)
 refine Y ?_
 refine Bg E E zU fun b0=>?_
 refine U E (U E (V (AH (Y (AG 0 QA E (Dr E ec E E (V (C1 E (AI (AJ (Y (J E ?_))))))))))))
 refine BT (vs:=[_]) (Hin:=[]) (Hr:=_::(MK ⟨Az,AW,BJ,BG,Bw,Bu,Bv⟩ p0 p0_1++H)) E E ⟨E,zT⟩ tZ E E (sZ hb hs1_) ?_
 rintro _ _ ⟨nv,L,rfl,hnz,rfl⟩
 refine⟨trivial,?_⟩
 refine J E (Ah E E E (Ah E E E ?_))
 refine Au E Ha zU fun b1=>?_
 refine A3 0 E E E E Gj E (List.all_eq_true.2 (KG nv)) E zT (NA 0 (own b1 (.cells (CW nv).toArray 204)) (U E (V (AH (Y (J E (Z E BQ (V ?_))))))))
 refine AL h E (fun hc2 h=>?_) fun hc2 h=>?_
 obtain rfl:=zI h
 refine Y (J E (U E (U E (V (AK (Aa (OK 148 3 AS ?_)))))))
 exact An (C9 E E E) (Ao (M:=_::MK ⟨Az,AW,BJ,BG,Bw,Bu,Bv⟩ p0 p0_1) ⟨_,E,E⟩ fun _ hw=>Bj.pick (H:=[_,_,_,_]) hw [0] 4 E)
 split at h
 cases h
 rename_i hbig
 obtain⟨th,hth,h3⟩:=bnd h
 clear h
 obtain⟨y,hy,h⟩:=bnd h3
 clear h3
 refine AI (AJ (Y ?_))
 refine QZ Rz Uq E zU fun bm=>?_
 refine Au E yg zU fun b2=>?_
 refine A3 0 E E E E yL E E E zT (NA 0 (own b2 (.cells #[.map (some bm)] 207)) (V (AH (Y (J E ?_)))))
 refine BT (vs:=[_]) (Hin:=[]) (Hr:=_::_::_::_::_::(MK ⟨Az,AW,BJ,BG,Bw,Bu,Bv⟩ p0 p0_1++H)) E E ⟨E,zT⟩ ta E E (sY hs2_.one) ?_
 rintro _ _ ⟨bx,rfl,rfl⟩
 refine⟨trivial,?_⟩
 refine V (AN ?_)
 refine N7 (enc:=qz) (F7 p2) (G0:=(own b2 (.cells #[.map (some bm)] 207)::AY bm Rz Uq []::own b1 (.cells (CW nv).toArray 204)::Hm L::own b0 (.cells #[vP Az 0] 93)::(MK ⟨Az,AW,BJ,BG,Bw,Bu,Bv⟩ p0 p0_1++H))) (fun pre G=>∃m:List (KN×BR),(∀suf,F7 p2=pre++suf→Tu suf m=some th)∧G=(own b2 (.cells #[.map (some bm)] 207)::AY bm Rz Uq m::own b1 (.cells (CW nv).toArray 204)::Hm L::own b0 (.cells #[vP Az 0] 93)::(MK ⟨Az,AW,BJ,BG,Bw,Bu,Bv⟩ p0 p0_1++H))) (fun c G=>False) E tx E zV (rq zO hs2_) E ⟨[],fun suf e=>by rw[←show F7 p2=suf from e];exact hth,E⟩ (fun pre x suf G hxs hJ lr lp Rest=>?_) (fun G D hJ=>?_) (fun c G D hX=>hX.elim)
 obtain⟨m,hm,rfl⟩:=hJ
 have h1:=hm (x::suf) hxs
 rw[Tu]at h1
 obtain⟨k,hk,h1⟩:=bnd h1
 obtain⟨m1,hm1,h1⟩:=bnd h1
 have hks:=Wl hk
 refine AM ?_
 refine Au E In zU fun b3=>?_
 refine A3 0 E E E E Ea E E E zT (AZ ?_)
 refine Jm (G:=own b3 (.cells #[vS x.2.txt,AB x.2.page,vS x.2.tag] 148)::(own b2 (.cells #[.map (some bm)] 207)::AY bm Rz Uq m::own b1 (.cells (CW nv).toArray 204)::Hm L::own b0 (.cells #[vP Az 0] 93)::(MK ⟨Az,AW,BJ,BG,Bw,Bu,Bv⟩ p0 p0_1++H))) ?_
 refine AN (AM (AG 1 sI rfl (AE rfl jV (AG 0 HJ rfl (AE rfl EU (Aw [AB x.2.page,vS x.2.tag] rfl DC rfl rfl (Ct 0 rfl (by rintro(_ | (_ | j)) u hj<;>first | exact hj | exact absurd hj zS)) ?_))))))
 refine M9 (a:=(⟨x.2.page,x.2.tag⟩:BR)) 2 hm1 (W5 Cu) E sU E (by rw[Rz,hks];rfl) E E zT ?_
 refine AZ (Av ?_)
 exact IK ⟨m1,fun suf' e=>by rw[Ts hxs e];exact h1,E⟩ (BM [] 1 E E E)
 obtain⟨m,hm,rfl⟩:=hJ
 have h1:=hm [] (List.append_nil _).symm
 obtain rfl:m=th:=zI h1
 refine Av (AJ (Y ?_))
 refine Au E yb zU fun b3=>?_
 refine NA 0 (own b3 (.cells #[zN] 129)) (CE 36 1 BV (V (Y ?_)))
 refine HK (fv:=#[]) (cv:=#[_,_,_]) E E E ?_
 refine B5 [_] E xx xi yh ⟨E,zT⟩ E ?_
 refine Bg E E zU fun b4=>?_
 refine CE 148 3 AS (U E (V ?_))
 have hcon:=CJ (K:=K) (w0:=w0) (H:=(own b1 (.cells (CW nv).toArray 204)::H)++[Bf D]) (f:=116) (B:=[Hm L]) (Hin:=NR b4 (.func (.func 114) #[] #[vP b2 0,vP b0 0,vP b3 0]) (.slice none 0 0) ⟨[],0⟩::AD 148 3 (.slice none 0 0) AS []::WI b2 bm b0 b3 (⟨Az,AW,BJ,BG,Bw,Bu,Bv⟩:QU) m (.slice none 0 0) ⟨[],p0,p0_1⟩) fun K' w1 hkk hB=>
  Tz (C:=WI b2 bm b0 b3 (⟨Az,AW,BJ,BG,Bw,Bu,Bv⟩:QU) m) (bp:=b4) (vo:=.slice none 0 0) (ca:=.slice none 0 0) (cs:=#[vP b2 0,vP b0 0,vP b3 0]) tc qW n (hS.keeps hkk) hy (hnz.lent (hB _ zS))
 generalize hpo:(fun(u:Value) (M:List AX)=>∃M',M=[Hm L]++M'∧(u=.agg (Bd y.1).toArray∧∃vo' ca',M'=NR b4 (.func (.func 114) #[] #[vP b2 0,vP b0 0,vP b3 0]) vo' y.2.1::AD 148 3 vo' AS y.2.1.out::WI b2 bm b0 b3 (⟨Az,AW,BJ,BG,Bw,Bu,Bv⟩:QU) m ca' y.2.2))=po at hcon
 refine Y (J E (Aw (CW nv) E KS E E (Ap 6 E) ?_))
 refine SL.heap (H':=([Hm L]++(NR b4 (.func (.func 114) #[] #[vP b2 0,vP b0 0,vP b3 0]) zN ⟨[],0⟩::AD 148 3 zN AS []::WI b2 bm b0 b3 (⟨Az,AW,BJ,BG,Bw,Bu,Bv⟩:QU) m zN ⟨[],p0,p0_1⟩))++(own b1 (.cells (CW nv).toArray 204)::H)) ?_ (BM [7,1,0,4,5,8,3,2,9,10,11,12,13,14,15,6] 16 E E E)
 refine BT (vs:=[_,_]) (Hin:=[Hm L]++(NR b4 (.func (.func 114) #[] #[vP b2 0,vP b0 0,vP b3 0]) zN ⟨[],0⟩::AD 148 3 zN AS []::WI b2 bm b0 b3 (⟨Az,AW,BJ,BG,Bw,Bu,Bv⟩:QU) m zN ⟨[],p0,p0_1⟩)) (Hr:=own b1 (.cells (CW nv).toArray 204)::H) E E ⟨E,E,zT⟩ ma E E hcon ?_
 intro u0 M0 hpost
 rw[←hpo]at hpost
 obtain⟨_,rfl,rfl,vo,ca,rfl⟩:=hpost
 refine⟨trivial,?_⟩
 refine V ?_
 unfold cP at h
 refine AH (Y (J E (AT E E (AE E Uw (AG 1 Sw E (Z E BQ (V ?_)))))))
 refine AL h E (fun hc3 h=>?_) fun hc3 h=>?_
 split at h
 cases h
 rename_i hbt
 refine AF h fun v' hv' h=>?_
 obtain rfl:=zI h
 refine AH (Y (AG 6 Yq E (DL 7 E CT E E (J E (V (AN ?_))))))
 refine SX.heap (SX.mono (BK (α:=Nat×Am) (fun x=>x.1≤y.2.2.tk.length∧SA (y.2.2.tk.drop x.1) x.2 y.2.2.d=some v') (fun x=>[(3,vP b0 0),(14,vP b4 0),(48,ca),(49,vI (y.2.2.tk.length:Int)),(50,vI (x.1:Int))])
  (fun x=>NR b4 (.func (.func 114) #[] #[vP b2 0,vP b0 0,vP b3 0]) vo y.2.1::own b0 (.cells #[vP Az 0] 93)::AD 36 1 ca BV y.2.2.tk::(MK (⟨Az,AW,BJ,BG,Bw,Bu,Bv⟩:QU) x.2 y.2.2.d++H))
  (fun x=>y.2.2.tk.length-x.1) (fun x D hp=>?_) (0,y.2.2.v) ⟨Nat.zero_le _,hv'⟩) tL) (BM [1,5,7,8,9,10,11,12,13,14] 16 rfl rfl rfl)
 obtain⟨i,v1⟩:=x
 obtain⟨hi,hg⟩:=hp
 dsimp only at hi hg ⊢
 refine Y (Z E A9 (V (AH ?_)))
 refine A7 E (fun hc4=>?_) (fun hc4=>?_)
 have hlt:i<y.2.2.tk.length:=by
  have:=of_decide_eq_true hc4
  omega
 clear hc4
 have hnth:BE y.2.2.tk (i:Int)=some y.2.2.tk[i]:=by
  rw[BE,if_pos zO]
  exact List.getElem?_eq_getElem hlt
 rw[List.drop_eq_getElem_cons hlt,SA]at hg
 refine AF hg fun z hz hg=>?_
 refine AI (AJ (AH (AN (Y ?_))))
 refine B6 2 hnth E CT Bx E E E fun g1 m1 cp1 hv1=>?_
 refine Bm E A4 E (Bq (sz:=1) (enc:=BV) 2 0 zV E hv1 hnth E) ?_
 refine U E (V (AM (AG 1 QA E (J E ?_))))
 refine SL.heap (H':=MK (⟨Az,AW,BJ,BG,Bw,Bu,Bv⟩:QU) v1 y.2.2.d++([_,_,_]++H)) ?_ (fun _ hw=>Ey (A:=[_,_,_]) (B:=MK (⟨Az,AW,BJ,BG,Bw,Bu,Bv⟩:QU) v1 y.2.2.d) (R:=H) hw)
 have hcon:=Wb (K:=K) (w0:=w0) (H:=([NR b4 (.func (.func 114) #[] #[vP b2 0,vP b0 0,vP b3 0]) vo y.2.1,own b0 (.cells #[vP Az 0] 93),AD 36 1 ca BV y.2.2.tk]++H)++[Bf D]) (Az:=Az) (AW:=AW) (BJ:=BJ) (BG:=BG) (Bw:=Bw) (Bu:=Bu) (Bv:=Bv) hz
 refine BT (vs:=[_,_]) (Hin:=MK (⟨Az,AW,BJ,BG,Bw,Bu,Bv⟩:QU) v1 y.2.2.d) (Hr:=[_,_,_]++H) E E ⟨E,E,zT⟩ fi E E hcon ?_
 rintro _ _ ⟨rfl,rfl⟩
 refine⟨trivial,?_⟩
 refine SL.heap (H':=[_,_,_]++(MK (⟨Az,AW,BJ,BG,Bw,Bu,Bv⟩:QU) z.2 y.2.2.d++H)) ?_ (fun _ hw=>Ey (A:=MK (⟨Az,AW,BJ,BG,Bw,Bu,Bv⟩:QU) z.2 y.2.2.d) (B:=[_,_,_]) (R:=H) hw)
 refine AZ (Av (AJ (AM (Z E (Bh zO zO) (J E (AZ ?_))))))
 exact A1 (i+1,z.2) ⟨hlt,hg⟩ (by dsimp only;omega) tL (BM [0,1,2] 3 E E E)
 have hge:i=y.2.2.tk.length:=by
  have:=of_decide_eq_false hc4
  omega
 subst hge
 rw[List.drop_length,SA]at hg
 obtain rfl:v1=v':=zI hg
 refine A5 (BC (Bb (BB (AJ (AH (Ax Cz [0] (Bs (G4 0 6) .nil) zK (J E (AT E E (AE E Uw (AG 0 Sw E (U E (U E (V (AK (Aa (OK 148 3 AS ?_))))))))))))))))
 exact An (C9 E E E) (Ao (M:=_::MK (⟨Az,AW,BJ,BG,Bw,Bu,Bv⟩:QU) v1 y.2.2.d) ⟨_,E,E⟩ fun _ hw=>Bj.pick (H:=[_,_,_,_]) hw [0] 4 E)
 obtain rfl:=zI h
 refine AI (AJ (Y (J E (AT E E (AE E bS (AG 1 K7 E (U E (U E (V (AK ?_))))))))))
 exact An (C9 E E E) (Ao (M:=AD 148 3 vo AS y.2.1.out::MK (⟨Az,AW,BJ,BG,Bw,Bu,Bv⟩:QU) y.2.2.v y.2.2.d) ⟨_,E,E⟩ fun _ hw=>Bj.pick (H:=[_,_,_,_,_,_,_,_,_,_,_,_,_,_,_,_]) hw [2,8,9,10,11,12,13,14] 16 E)
end

section
structure LdA where
 out:List Ak
 rows:List Aj
 count:Int
end

section
variable {K:Nat→Prop}{w0:World}{H:List AX}
end

section
variable {K:Nat→Prop}{w0:World}{H:List AX}
end

section
variable {K:Nat→Prop}{w0:World}{H:List AX}
end

section
def yq(l:List Aj):Prop:=l.Pairwise fun a b=>a.id≤b.id
inductive SB (bs:Nat):List Aj→Prop
 | last (S:List Aj):S.length≤bs→yq S→SB bs S
 | more (S R:List Aj):S.length=bs→yq S→SB bs R→SB bs (S++R)
end

section
variable {n:Nat}{T:List UInt32}{v:Am}{d:Ai}
def z6(x:C4):List BR:=if Pb ⟨x.npage,x.ntag⟩=true then x.kids else x.kids++[⟨x.npage,x.ntag⟩]
end

section
theorem iR.lastE:∀ {ls:List (List Aj)} {r0 r:BR} {seg:List Ak} ,ls≠[]→iR ls r0 seg r→∃a s,seg=a++[⟨s,r.page,r.tag⟩]
 | [],_,_,_,h,_=>absurd rfl h
 | l::ls,r0,seg,r,_,h=>by
  obtain⟨r1,seg',h1,rfl,h2⟩:=h
  rcases ls with _ | ⟨l2,ls⟩
  obtain⟨rfl,rfl⟩:=h2
  exact⟨[],_,rfl⟩
  obtain⟨a,s,rfl⟩:=iR.lastE zS h2
  exact⟨_::a,s,rfl⟩
theorem aG.lastE{f:Nat}{t:CB}{seg:List Ak}{r:BR}(h:aG f t seg r):∃a s,seg=a++[⟨s,r.page,r.tag⟩]:=by
 cases f with
 | zero=>exact h.elim
 | succ f=>
  rcases h.2 with⟨_,h2⟩ | ⟨_,segs,rs,_,_,rfl⟩
  refine iR.lastE ?_ h2
  intro e
  have:=congrArg List.length e
  rw[List.length_reverse,TS,List.length_nil]at this
  omega
  exact⟨segs,_,rfl⟩
end

section
structure UW(N:Nat)(v:Am):Prop where
 nd:(v.taken.map (·.1)).Nodup
 tr:∀e∈v.taken,e.2=true∧2≤e.1.toNat∧e.1.toNat<N
theorem UW.iff{N:Nat}{v:Am}(h:UW N v)(p:UInt32):EB v p=true↔p∈v.taken.map (·.1):=by
 unfold EB
 constructor
 intro hp
 by_cases hm:∃e∈v.taken,e.1=p
 obtain⟨e,he,rfl⟩:=hm
 exact List.mem_map_of_mem he
 rw[PZ (fun e he e'=>hm ⟨e,he,e'⟩)]at hp
 exact absurd hp zD
 intro hp
 obtain⟨e,he,rfl⟩:=List.mem_map.1 hp
 rw[RE h.nd he]
 exact(h.tr e he).1
theorem ofNat_toNat{x:UInt32}:UInt32.ofNat x.toNat=x:=UInt32.toNat_inj.1 zS
theorem UW.full{N:Nat}{v:Am}(h:UW N v)(hN:N≤4096)(hl:N-2≤v.taken.length):∀x,2≤x→x<N→EB v (UInt32.ofNat x)=true:=by
 intro x h1 h2
 rw[h.iff]
 by_cases hm:UInt32.ofNat x∈v.taken.map (·.1)
 exact hm
 exfalso
 have hnd:(x::v.taken.map fun e=>e.1.toNat).Nodup:=by
  refine List.nodup_cons.2 ⟨fun hx=>?_,?_⟩
  obtain⟨e,he,e'⟩:=List.mem_map.1 hx
  refine hm ?_
  rw[←e',ofNat_toNat]
  exact List.mem_map_of_mem he
  have:=h.nd
  rw[show(v.taken.map fun e=>e.1.toNat)=(v.taken.map (·.1)).map UInt32.toNat by simp]
  exact List.Pairwise.map _ (fun a b hab e=>hab (UInt32.toNat_inj.1 e)) this
 have:=Nu hnd (l':=(List.range (N-2)).map (·+2)) (fun a ha=>by
  have hb:2≤a∧a<N:=by
   rcases List.mem_cons.1 ha with rfl | ha
   exact⟨h1,h2⟩
   obtain⟨e,he,rfl⟩:=List.mem_map.1 ha
   exact(h.tr e he).2
  exact List.mem_map.2 ⟨a-2,List.mem_range.2 zO,by omega⟩)
 simp at this
 omega
theorem dt{P:Nat→Prop}:∀k,(∃j,j<k∧P j)→∃j,j<k∧P j∧∀x,x<j→¬P x
 | 0,⟨j,h,_⟩=>by omega
 | k+1,⟨j,h,hP⟩=>by
  by_cases hk:∃i,i<k∧P i
  obtain⟨i,h1,h2,h3⟩:=dt k hk
  exact⟨i,by omega,h2,h3⟩
  have:j=k:=by
   rcases Nat.lt_or_ge j k with h' | h'
   exact absurd ⟨j,h',hP⟩ hk
   omega
  subst this
  exact⟨j,by omega,hP,fun x hx hPx=>hk ⟨x,hx,hPx⟩⟩
theorem UW.free{N:Nat}{v:Am}(h:UW N v)(hN:N≤4096)(hl:v.taken.length<N-2):∃j,2≤j∧j<N∧EB v (UInt32.ofNat j)=false∧∀x,2≤x→x<j→EB v (UInt32.ofNat x)=true:=by
 have:∃j,j<N∧(2≤j∧EB v (UInt32.ofNat j)=false):=by
  by_cases hx:∃j,j<N∧(2≤j∧EB v (UInt32.ofNat j)=false)
  exact hx
  exfalso
  have hnd:((List.range (N-2)).map (fun i=>UInt32.ofNat (i+2))).Nodup:=by
   refine List.pairwise_map.2 (List.Pairwise.imp_of_mem ?_ List.nodup_range)
   intro a b ha hb hne
   have ha:=List.mem_range.1 ha
   have hb:=List.mem_range.1 hb
   exact oz zO zO zO
  have:=Nu hnd (l':=v.taken.map (·.1)) (fun a ha=>by
   obtain⟨i,hi,rfl⟩:=List.mem_map.1 ha
   have hi:=List.mem_range.1 hi
   rw[←h.iff]
   cases hc:EB v (UInt32.ofNat (i+2))with
   | true=>rfl
   | false=>exact absurd ⟨i+2,by omega,by omega,hc⟩ hx)
  simp at this
  omega
 obtain⟨j,h1,⟨h2,h3⟩,h4⟩:=dt N this
 refine⟨j,h2,h1,h3,fun x hx1 hx2=>?_⟩
 cases hc:EB v (UInt32.ofNat x)with
 | true=>rfl
 | false=>exact absurd ⟨hx1,hc⟩ (h4 x hx2)
def Rd(T:List UInt32)(R:List BD)(N:Nat)(v:Am)(d:Ai)(s:Ak):Prop:=2≤s.page.toNat∧s.page.toNat<N∧EB v s.page=true∧∃g' qn b,Vv T R d s.page g' qn s.txt b∧s.tag=b.drop 224
theorem Rd.ok{T:List UInt32}{R:List BD}{N c:Nat}{g:UInt32}{v:Am}{d:Ai}{s:Ak}(V9:VS N c R g v d)(h:Rd T R N v d s):TO T v d ⟨s.page,s.tag⟩=some (s.txt,0)∧Eo ⟨s.page,s.tag⟩=true∧s.txt.length≤198:=by
 obtain⟨h1,h2,_,g',qn,b,hb,ht⟩:=h
 have hl:=hb.len
 refine⟨by rw[ht];exact V9.read hb h1 h2,?_,hb.txt⟩
 unfold Eo
 rw[Bool.and_eq_true,decide_eq_true_eq,decide_eq_true_eq]
 refine⟨UInt32.le_iff_toNat_le.2 h1,?_⟩
 show(s.tag.length:Int)=32
 rw[ht,List.length_drop,hl]
 rfl
structure qD(N c0:Nat)(R:List BD)(g:UInt32)(vb:Am)(db:Ai)(q:PM):Prop where
 vs:VS N (c0+q.tk.length) R g q.v q.d
 seals:q.v.seals=vb.seals+UInt64.ofNat q.tk.length
 tak:q.v.taken=(q.tk.map fun p=>(p,true)).reverse++vb.taken
 ok:UW N q.v
 keep:∀p,p∉q.tk→JU q.d p=JU db p
 lim:c0+q.tk.length+(N-2-q.v.taken.length)≤100
theorem qD.notin{N c0:Nat}{R:List BD}{g:UInt32}{vb:Am}{db:Ai}{q:PM}(S:qD N c0 R g vb db q)(hb:UW N vb){p:UInt32}(h:EB vb p=true):p∉q.tk∧EB q.v p=true:=by
 rw[hb.iff]at h
 constructor
 intro hp
 have:=S.ok.nd
 rw[S.tak,List.map_append]at this
 refine(List.nodup_append.1 this).2.2 p ?_ p h rfl
 rw[List.map_reverse,List.mem_reverse,List.map_map]
 exact List.mem_map.2 ⟨p,hp,rfl⟩
 rw[S.ok.iff,S.tak,List.map_append]
 exact List.mem_append_right _ h
theorem qD.base{T:List UInt32}{N c0:Nat}{R:List BD}{g:UInt32}{vb:Am}{db:Ai}{q:PM}(S:qD N c0 R g vb db q)(hb:UW N vb){s:Ak}(h:Rd T R N vb db s):Rd T R N q.v q.d s:=by
 obtain⟨h1,h2,h3,g',qn,b,hb',ht⟩:=h
 obtain⟨h4,h5⟩:=S.notin hb h3
 exact⟨h1,h2,h5,g',qn,b,⟨hb'.key,hb'.txt,by rw[S.keep _ h4];exact hb'.is⟩,ht⟩
end

section
theorem eF:∀ {f:Nat} {l:List Aj} {t:CB} ,Tr f l t→(l=[]→OF f t=1)∧(l≠[]→OF f t+1≤2*l.length)
  | 0,_,_,h=>h.elim
  | f+1,l,t,h=>by
    rcases h with⟨rfl,rfl⟩ | ⟨hne,c,L,A,⟨_,rfl⟩ | ⟨h4,hL,ks,rfl,hk⟩⟩
    exact⟨fun _=>rfl,fun h=>absurd rfl h⟩
    refine⟨fun h=>absurd h hne,fun _=>?_⟩
    have:=List.length_pos_iff.2 hne
    rw[OF,if_pos (show(CB.mk c.x c.y c.lev l []).kids.length=0 from rfl)]
    simp only[CB.rows]
    omega
    refine⟨fun h=>absurd h hne,fun _=>?_⟩
    have hkl:=hk.length
    have hq2:=(RL A hL).1
    rw[OF,if_neg (by simp only[CB.kids];omega)]
    simp only[CB.kids]
    have key:∀ {xs:List (List Aj)} {ys:List CB},UK (Tr f) xs ys→(∀x∈xs,x≠[])→(ys.map (OF f)).sum+xs.length≤2*xs.flatten.length:=by
      intro xs ys h
      induction h with
      | nil=>simp
      | @cons x y xs ys h1 h2 ih=>
        intro hx
        have a1:=(eF h1).2 (hx _ zS)
        have a2:=ih fun x hx'=>hx x (by simp[hx'])
        simp only[List.map_cons,List.sum_cons,List.length_cons,List.flatten_cons,List.length_append]
        omega
    have:=key hk fun x hx=>(Tg hx).1
    rw[(ZP L l).length_eq]at this
    omega
theorem lL{f:Nat}{l:List Aj}{t:CB}(h:Tr f l t)(hl:l.length≤1000):OF f t≤max 1 (2*l.length):=by
  obtain⟨h1,h2⟩:=eF h
  by_cases e:l=[]
  rw[h1 e];omega
  have:=h2 e
  omega
theorem jd{s:List UInt8}(h:s.length≤1048576):Xx s=some ⟨s,h⟩:=dif_pos h
theorem cA{m:List (UInt32×Bool)}{p:UInt32}(h:p∉m.map (·.1)):Eu m p=m:=Qs fun e he e'=>h (by rw[←e'];exact List.mem_map_of_mem he)
theorem vw{T:List UInt32}{N c0:Nat}{R:List BD}{g:UInt32}{vb:Am}{db:Ai}{th:List (KN×BR)}{k:BD}(hb:UW N vb)(hN:N≤4096)(hk:C6 R g=(k,0))(hth:∀key r,Bn th key=some r→Rd T R N vb db ⟨key.1,r.page,r.tag⟩):
    mV (M5 T th) (qD N c0 R g vb db) (fun q s=>Rd T R N q.v q.d s) (fun q=>N-2-q.v.taken.length):=by
  refine⟨fun q s S hs=>?_⟩
  unfold M5
  rw[jd (show s.length≤1048576 by omega),AA]
  cases hm:Bn th ⟨s,by omega⟩with
  | some r=>
    have hr:=S.base hb (hth _ r hm)
    exact⟨r,0,q,rfl,S,fun _ h=>h,.inl ⟨rfl,(hr.ok S.vs).2.1,hr,Nat.le_succ _⟩⟩
  | none=>
    rw[show(none:Option BR).isSome=false from rfl,BZ]
    by_cases hroom:q.v.taken.length<N-2
    obtain⟨j,j1,j2,j3,j4⟩:=S.ok.free hN hroom
    have hlim:=S.lim
    obtain⟨v',d',b,e1,V1,s1,t1,h1,H1,_,_⟩:=S.vs.write (T:=T) zO hk hs j j1 j2 j3 j4
    have hjn:(UInt32.ofNat j).toNat=j:=by simp;omega
    have hnin:UInt32.ofNat j∉q.v.taken.map (·.1):=by
      rw[←S.ok.iff,j3]
      decide
    have htk:v'.taken=(UInt32.ofNat j,true)::q.v.taken:=by rw[t1,Hn,cA hnin]
    have hok:UW N v':=by
      refine⟨?_,fun e he=>?_⟩
      rw[htk,List.map_cons]
      exact List.nodup_cons.2 ⟨hnin,S.ok.nd⟩
      rw[htk]at he
      rcases List.mem_cons.1 he with rfl | he
      exact⟨rfl,by rw[hjn];exact j1,by rw[hjn];exact j2⟩
      exact S.ok.tr e he
    have hntk:UInt32.ofNat j∉q.tk:=fun hj=>hnin (by
      rw[S.tak,List.map_append]
      refine List.mem_append_left _ ?_
      rw[List.map_reverse,List.mem_reverse,List.map_map]
      exact List.mem_map.2 ⟨_,hj,rfl⟩)
    rw[e1,AA]
    dsimp only
    rw[show decide ((0:Int)=0)=true from rfl,CC,DM zQ zQ,AA]
    have hlen:(q.tk++[UInt32.ofNat j]).length=q.tk.length+1:=by simp
    refine⟨_,0,⟨q.tk++[UInt32.ofNat j],v',d'⟩,rfl,⟨?_,?_,?_,hok,fun p hp=>?_,?_⟩,fun x hx=>?_,.inl ⟨rfl,?_,?_,?_⟩⟩
    show VS N (c0+(q.tk++[UInt32.ofNat j]).length) R g v' d'
    rw[hlen]
    exact V1
    show v'.seals=vb.seals+UInt64.ofNat (q.tk++[UInt32.ofNat j]).length
    rw[s1,S.seals,hlen,UInt64.ofNat_add,UInt64.add_assoc]
    rfl
    show v'.taken=_
    rw[htk,S.tak]
    simp
    simp only[List.mem_append,List.mem_singleton,not_or]at hp
    show JU d' p=_
    rw[h1,if_neg (fun e=>hp.2 e.symm)]
    exact S.keep p hp.1
    show c0+(q.tk++[UInt32.ofNat j]).length+(N-2-v'.taken.length)≤100
    rw[hlen,htk,List.length_cons]
    omega
    obtain⟨x1,x2,x3,g',qn,b',x4,x5⟩:=hx
    have hne:UInt32.ofNat j≠x.page:=fun e=>by
      rw[←e,j3]at x3
      exact absurd x3 zD
    refine⟨x1,x2,?_,g',qn,b',x4.put h1 hne,x5⟩
    show EB v' x.page=true
    rw[hok.iff,htk,List.map_cons]
    exact List.mem_cons_of_mem _ ((S.ok.iff _).1 x3)
    have hl:=H1.len
    unfold Eo
    rw[Bool.and_eq_true,decide_eq_true_eq,decide_eq_true_eq]
    refine⟨UInt32.le_iff_toNat_le.2 (by rw[hjn];exact j1),?_⟩
    rw[List.length_drop,hl]
    rfl
    refine⟨by rw[hjn];exact j1,by rw[hjn];exact j2,?_,g,q.v.seals,b,H1,rfl⟩
    show EB v' (UInt32.ofNat j)=true
    rw[hok.iff,htk]
    simp
    show N-2-q.v.taken.length≤N-2-v'.taken.length+1
    rw[htk,List.length_cons]
    omega
    have hw:=kH (T:=T) S.vs.dev hs (S.ok.full hN zO)
    rw[hw,AA]
    dsimp only
    rw[show decide ((110:Int)=0)=false from rfl,BZ]
    exact⟨_,110,q,rfl,S,fun _ h=>h,.inr ⟨rfl,by omega⟩⟩
theorem ea:∀(l:List (Int×Ak)) (m:List (KN×BR)),(∀s∈l,s.2.txt.length≤1048576)→m.length+l.length≤1000000000→
    ∃m',Tu l m=some m'∧∀k:KN,Bn m' k=((l.reverse.find? fun s=>decide (s.2.txt=k.1)).map fun s=>(⟨s.2.page,s.2.tag⟩:BR)).or (Bn m k)
  | [],m,_,_=>⟨m,rfl,fun k=>by simp⟩
  | s::l,m,h,hb=>by
    simp only[List.length_cons]at hb
    have hd:(Eu m ⟨s.2.txt,h s zS⟩).length≤m.length:=List.length_filter_le ..
    obtain⟨m',h1,h2⟩:=ea l (Hn m ⟨s.2.txt,h s zS⟩ ⟨s.2.page,s.2.tag⟩) (fun x hx=>h x (by simp[hx])) (by
      show(Eu m _).length+1+l.length≤_
      omega)
    refine⟨m',?_,fun k=>?_⟩
    rw[Tu,jd (h s zS),AA]
    unfold Km
    rw[if_pos zO,AA]
    exact h1
    rw[h2 k,List.reverse_cons,List.find?_append,I5]
    cases hf:l.reverse.find? fun s=>decide (s.2.txt=k.1)with
    | some x=>rfl
    | none=>
      simp only[Option.map_none,Option.none_or,List.find?_singleton]
      by_cases e:s.2.txt=k.1
      rw[if_pos (Subtype.ext e),if_pos (by simpa using e)]
      rfl
      rw[if_neg (fun e'=>e (congrArg Subtype.val e')),if_neg (by simpa using e)]
      rfl
theorem aU{α:Type}(xs:List α):(F7 xs).reverse.map (·.2)=xs:=by
  unfold F7
  rw[List.reverse_reverse,List.map_map]
  have:((fun x:Int×α=>x.2)∘fun p:α×Nat=>((p.2:Int),p.1))=Prod.fst:=rfl
  rw[this,List.zipIdx_map_fst]
theorem kW{α:Type}{xs:List α}{s:Int×α}(h:s∈F7 xs):s.2∈xs:=by
  rw[←aU xs]
  exact List.mem_map_of_mem (List.mem_reverse.2 h)
theorem cZ(had:List Ak)(h:∀s∈had,s.txt.length≤1048576)(hb:had.length≤1000000000):∃th,Tu (F7 had) []=some th∧∀k:KN,Bn th k=(had.find? fun s=>decide (s.txt=k.1)).map fun s=>(⟨s.page,s.tag⟩:BR):=by
  obtain⟨th,h1,h2⟩:=ea (F7 had) [] (fun s hs=>h _ (kW hs)) (by rw[LC];simpa using hb)
  refine⟨th,h1,fun k=>?_⟩
  rw[h2 k,show Bn ([]:List (KN×BR)) k=none from rfl,Option.or_none]
  conv=>rhs;rw[←aU had]
  rw[List.find?_map,Option.map_map]
  rfl
theorem dn{N:Nat}(hN:N≤4096):∀(tk:List UInt32) (v:Am) (d:Ai) (base:List (UInt32×Bool)),d.blocks.length=N→v.taken=(tk.map fun p=>(p,true)).reverse++base→(v.taken.map (·.1)).Nodup→(∀p∈tk,2≤p.toNat∧p.toNat<N)→
    SA tk v d=some { v with taken:=base }
  | [],v,d,base,_,h,_,_=>by
    simp at h
    rw[SA,←h]
  | p::tk,v,d,base,hd,h,hn,hr=>by
    obtain⟨r1,r2⟩:=hr p zS
    have hmem:(p,true)∈v.taken:=by rw[h];simp
    have hg:=RE hn hmem
    have hdel:Eu v.taken p=(tk.map fun p=>(p,true)).reverse++base:=by
      rw[h]at hn ⊢
      simp only[List.map_cons,List.reverse_cons,List.append_assoc,List.singleton_append,List.map_append]at hn ⊢
      obtain⟨n1,n2,n3⟩:=List.nodup_append.1 hn
      obtain⟨n4,n5⟩:=List.nodup_cons.1 n2
      unfold Eu
      rw[List.filter_append,List.filter_cons_of_neg zS]
      congr 1
      exact cA (m:=(tk.map fun p=>(p,true)).reverse) fun hp=>n3 p hp p zS rfl
      exact cA n4
    have hi:Hw v d p=some true:=by
      have:=br v d p.toNat r1 zO
      rw[ofNat_toNat,hd,zt r2]at this
      exact this
    have hgive:Gi v d p=some (0,{ v with taken:=Eu v.taken p }):=by
      unfold Gi
      rw[hi,AA,BN,hg]
      rfl
    rw[SA,hgive,AA]
    have:=dn hN tk { v with taken:=Eu v.taken p } d base hd hdel (by
      show((Eu v.taken p).map (·.1)).Nodup
      exact U3 hn) (fun q hq=>hr q (by simp[hq]))
    exact this
theorem Ro{l:List Aj}(h:Du l=true):l.length≤1000:=by
  unfold Du at h
  simp only[Bool.and_eq_true,decide_eq_true_eq]at h
  omega
theorem eV{n N c0:Nat}{T:List UInt32}{R:List BD}{g:UInt32}{vb:Am}{db:Ai}{k:BD}{l:List Aj}{had:List Ak}(hn:1100≤n)(hN:N≤4096)(V9:VS N c0 R g vb db)(hb:UW N vb)(hk:C6 R g=(k,0))(hl:Du l=true)
(hhad:∀s∈had,Rd T R N vb db s)(hlen:had.length≤100000)(hlim:c0+(N-2-vb.taken.length)≤100):
    ∃t th,Qa n l=some (t,0)∧Tr n l t∧(∀k:KN,Bn th k=(had.find? fun s=>decide (s.txt=k.1)).map fun s=>(⟨s.page,s.tag⟩:BR))∧
      ((∃r out q,Pe n T vb db l had=some (out,0,q.v,q.d)∧aG n t out r∧Eo r=true∧qD N c0 R g vb db q∧(∀s∈out,Rd T R N q.v q.d s)∧out.length=OF n t∧W6 (M5 T th) ⟨[],vb,db⟩ out q∧N-2-vb.taken.length≤N-2-q.v.taken.length+OF n t)∨
       (∃v d c,Pe n T vb db l had=some ([],110,v,d)∧N-2-vb.taken.length<OF n t∧v.taken=vb.taken∧VS N c R g v d)):=by
  obtain⟨t,h1,_,hT⟩:=dT (n:=n) (l:=l) zO hl
  obtain⟨th,h2,h3⟩:=cZ had (fun s hs=>by have:=((hhad s hs).ok V9).2.2;omega) zO
  have hth:∀(key:KN) r,Bn th key=some r→Rd T R N vb db ⟨key.1,r.page,r.tag⟩:=by
    intro key r hr
    rw[h3 key]at hr
    obtain⟨s,hs,rfl⟩:=Option.map_eq_some_iff.1 hr
    have h5:=List.find?_some hs
    simp only[decide_eq_true_eq]at h5
    rw[←h5]
    exact hhad s (List.mem_of_find?_eq_some hs)
  have W:=vw (T:=T) (c0:=c0) (db:=db) hb hN hk hth
  have hpg:=lL hT (Ro hl)
  have hl1:=Ro hl
  have S0:qD N c0 R g vb db ⟨[],vb,db⟩:=⟨V9,by simp,by simp,hb,fun _ _=>rfl,by simpa using hlim⟩
  obtain⟨r,p',q,e1,e2,e3,e4,e5⟩:=eC W (n:=n) zO n l t ⟨[],0⟩ ⟨[],vb,db⟩ hT hl S0 rfl zQ
  refine⟨t,th,h1,hT,h3,?_⟩
  have hsave:Pe n T vb db l had=cP (r,(p',q)):=by
    unfold Pe
    rw[h1,AA,show(!decide ((0:Int)=0))=false from rfl,BZ,if_neg zO,h2,AA,e1,AA]
  rw[hsave]
  unfold cP
  rcases e5 with⟨w,seg,o1,o2,o3,o4,o5,o6⟩ | ⟨w,o6⟩
  left
  simp only[List.nil_append]at o1
  refine⟨r,seg,q,?_,o3,e2 w,e3,o5,o2,o4,o6⟩
  dsimp only
  rw[w,show(!decide ((0:Int)=0))=false from rfl,BZ,o1]
  right
  have hlim2:=e3.lim
  refine⟨{ q.v with taken:=vb.taken },q.d,c0+q.tk.length,?_,o6,rfl,?_⟩
  dsimp only
  rw[w,show(!decide ((110:Int)=0))=true from rfl,CC,if_neg zO,dn hN q.tk q.v q.d vb.taken e3.vs.dev.blen e3.tak e3.ok.nd (fun p hp=>by
    have:=e3.ok.tr (p,true) (by rw[e3.tak];refine List.mem_append_left _ ?_;rw[List.mem_reverse];exact List.mem_map.2 ⟨p,hp,rfl⟩)
    exact this.2),AA]
  have V':=e3.vs
  exact⟨V'.dev,V'.ring,V'.rlen,V'.gen,V'.boot,Nat.le_trans V9.tlen (Nat.le_add_right ..)⟩
end

section
variable {P:Program}{ro:Option Nat}{K:Nat→Prop}{w0:World}{N:Nat}{Q:Dg}{D:List Nat}{l l':Tm}{H H' Hs L:List AX}{ops:Array Oper}{items:I6}
variable {tk:Bool}{o:Oper}{t:Nat}{v:Value}{x y z:Operand}
def dW(by_:Nat)(c:Int):Option Unit:=if 0≤c∧(by_:Int)*c≤281474976710656∧c≤9223372036854775807 then some ()else none
theorem tD{α:Type}{e ty:TypeId}{sz by_:Nat}{c:Int}{u:Unit}{zv:Value}{k k':IntKind}(hn:dW by_ c=some u)(enc:α→List Value)(ho:At ops N l o t (.makeSlice ty x y))(hty:P.underlying ty=some (.slice e))(hsz:DU P e=some sz)(hby:RW P e=some by_)(hze:Ev P e=some zv)(hzs:zv.cells.size=sz)
(hx:Bo l x=some (.int k 0))(hy:Bo l y=some (.int k' c))
(hs:∀v',FF Hs (AD e sz v' enc ([]:List α)::H))(h:∀v',SL P ro K w0 N ops Hs items Q D ((t,v')::l) (AD e sz v' enc ([]:List α)::H)):SL P ro K w0 N ops Hs (.cons (false,o) items) Q D l H:=by
 unfold dW at hn
 split at hn
 rename_i hc
 obtain⟨h1,h2,h3⟩:=hc
 obtain⟨n,rfl⟩:∃n:Nat,c=(n:Int):=⟨c.toNat,by omega⟩
 refine ew (n:=n) enc ho hty hsz hby hze hzs hx hy (Nat.ble_eq_true_of_le ?_) (Nat.ble_eq_true_of_le zO) hs h
 rw[←Int.natCast_mul]at h2
 omega
 cases hn
theorem By.cut{α:Type}{enc:α→List Value}{sz b off cap q:Nat}{xs:List α}(hl:∀x,(enc x).length=sz)(hcap:xs.length≤cap)(hc:∀j u,(xs.flatMap enc)[j]? = some u→K b∧w0.cell? ⟨b,off+j,none⟩=some u)(hq:q≤xs.length):By K w0 enc sz (.slice (some ⟨b,off+q*sz,none⟩) (xs.length-q) (cap-q)) (xs.drop q):=by
 refine⟨hl,.inr ⟨b,off+q*sz,cap-q,by simp,by simp;omega,fun j u hu=>?_⟩⟩
 have hpre:(xs.take q).flatMap enc++(xs.drop q).flatMap enc=xs.flatMap enc:=by
  rw[←List.flatMap_append,List.take_append_drop]
 have hlen:((xs.take q).flatMap enc).length=q*sz:=by rw[JR hl,List.length_take,Nat.min_eq_left hq]
 have:=hc (q*sz+j) u (by
  rw[←hpre,List.getElem?_append_right zO,hlen,Nat.add_sub_cancel_left]
  exact hu)
 rw[Nat.add_assoc]
 exact this
theorem aJ{α:Type}{enc:α→List Value}{sz:Nat}{xs us:List α}{k:IntKind}{j:Int}{ty e:TypeId}(hn:Iu xs j (xs.length:Int)=some us)(hk:By K w0 enc sz v xs)(ho:At ops N l o t (.slice ty x (some z) none none))(hty:P.underlying ty=some (.slice e))(hsz:DU P e=some sz)(hx:Bo l x=some v)(hz:Bo l z=some (.int k j))
(h:∀v',By K w0 enc sz v' us→SL P ro K w0 N ops Hs items Q D ((t,v')::l) H):SL P ro K w0 N ops Hs (.cons (tk,o) items) Q D l H:=by
 obtain⟨h1,h2,h3,h4,rfl⟩:=MJ hn
 have e2:(xs.drop j.toNat).take ((xs.length:Int).toNat-j.toNat)=xs.drop j.toNat:=List.take_of_length_le zS
 rw[e2]at h
 generalize j.toNat=q at*
 subst h1
 simp only[Int.toNat_natCast]at h3
 rcases hk.at_ with⟨a0,rfl,rfl⟩ | ⟨b,off,cap,rfl,hcap,hc⟩
 have hq:q=0:=by simpa using h3
 subst hq
 refine SL.val (v:=.slice a0 0 0) ho E (fun a w ha _=>?_) (h _ ⟨hk.len,.inl ⟨_,E,by simp⟩⟩)
 simp only[execOp,ho.op,Instr.sliceAt,Instr.slice,Option.map]
 cases a0<;>simp[ha.eval hx,ha.eval hz,A2 hty,CY hsz,Instr.sliceBounds,Instr.sliceBound,asIntOf]
 by_cases hqc:q<cap
 exact XD q ho hty hsz hx hz E h3 hqc (h _ (By.cut hk.len hcap hc h3))
 have hqe:q=xs.length:=zO
 have hce:cap=xs.length:=zO
 subst hqe hce
 refine SL.val (v:=.slice (some ⟨b,off,none⟩) 0 0) ho E (fun a w ha _=>?_) (h _ ⟨hk.len,.inl ⟨_,E,by simp⟩⟩)
 simp only[execOp,ho.op,Instr.sliceAt,Instr.slice,Option.map]
 simp[ha.eval hx,ha.eval hz,A2 hty,CY hsz,Instr.sliceBounds,Instr.sliceBound,asIntOf,CU]
end

section
variable {K:Nat→Prop}{w0:World}{H:List AX}
end

section
variable {K:Nat→Prop}{w0:World}{H:List AX}
end

section
end

section
end

section
theorem AR.uniq{c c':Br}{l:List Aj}{L L':Nat}(hl:l≠[])(A:AR c l L)(A':AR c' l L'):c=c'∧L=L':=by
 have key:∀ {c c':Br} {L L':Nat},AR c l L→AR c' l L'→¬L<L':=by
  intro c c' L L' A A' h
  obtain⟨r,hr,s,hs,hne⟩:=A'.two zO
  refine hne ?_
  have hd:∀ {a b:Nat},a / 2^L=b / 2^L→a / 2^(L'-1)=b / 2^(L'-1):=by
   intro a b e
   have:2^(L'-1)=2^L*2^(L'-1-L):=by rw[←Nat.pow_add];congr 1;omega
   rw[this,←Nat.div_div_eq_div_mul,←Nat.div_div_eq_div_mul,e]
  unfold qd
  rw[hd ((A.inn r hr).1.trans (A.inn s hs).1.symm),hd ((A.inn r hr).2.trans (A.inn s hs).2.symm)]
 have hL:L=L':=by
  have h1:=key A A'
  have h2:=key A' A
  omega
 subst hL
 refine⟨?_,rfl⟩
 obtain⟨r,hr⟩:=List.exists_mem_of_ne_nil l hl
 have e1:=(A.inn r hr).1.symm.trans (A'.inn r hr).1
 have e2:=(A.inn r hr).2.symm.trans (A'.inn r hr).2
 have m:∀ {a b P:Nat},a%P=0→b%P=0→a / P=b / P→a=b:=by
  intro a b P h1 h2 h3
  have g1:=Nat.div_add_mod a P
  have g2:=Nat.div_add_mod b P
  rw[h1,h3]at g1
  rw[h2]at g2
  omega
 have x:=UInt32.toNat_inj.1 (m A.cx A'.cx e1)
 have y:=UInt32.toNat_inj.1 (m A.cy A'.cy e2)
 have z:=A.lev.trans A'.lev.symm
 cases c
 cases c'
 simp only at x y z
 rw[x,y,z]
theorem Y2{R R':List Aj→CB→Prop}(h:∀x a b,R x a→R' x b→a=b):∀ {xs:List (List Aj)} {as' bs':List CB},UK R xs as'→UK R' xs bs'→as'=bs'
 | [],_,_,.nil,.nil=>rfl
 | _::_,_,_,.cons h1 h2,.cons h3 h4=>by rw[h _ _ _ h1 h3,Y2 h h2 h4]
theorem Tr.uniq:∀ {f f':Nat} {l:List Aj} {t t':CB} ,Tr f l t→Tr f' l t'→t=t'
 | 0,_,_,_,_,h,_=>h.elim
 | _+1,0,_,_,_,_,h=>h.elim
 | f+1,f'+1,l,t,t',h,h'=>by
  rcases h with⟨rfl,rfl⟩ | ⟨hne,c,L,A,h⟩
  rcases h' with⟨_,rfl⟩ | ⟨hne,_⟩
  rfl
  exact absurd rfl hne
  rcases h' with⟨h0,_⟩ | ⟨_,c',L',A',h'⟩
  exact absurd h0 hne
  obtain⟨rfl,rfl⟩:=A.uniq hne A'
  rcases h with⟨h1,rfl⟩ | ⟨h1,h2,ks,rfl,hk⟩
  rcases h' with⟨_,rfl⟩ | ⟨h3,h4,_⟩
  rfl
  omega
  rcases h' with⟨h3,_⟩ | ⟨_,_,ks',rfl,hk'⟩
  omega
  rw[Y2 (R:=Tr f) (R':=Tr f') (fun x a b ha hb=>Tr.uniq ha hb) hk hk']
abbrev zZ(s:Ak):BR:=⟨s.page,s.tag⟩
structure Pgs(xs:List C4)(seg:List Ak)(rows:List Aj)(roots:List BR):Prop where
 txt:seg.map (·.txt)=xs.map OW
 ok:∀x∈xs,GL x=true
 rws:(xs.flatMap (·.rows)).Perm rows
 rfs:(xs.flatMap z6++roots).Perm (seg.map zZ)
end

section
variable {K:Nat→Prop}{w0:World}{H:List AX}
def Te(q:Br):List Aj→List Aj→Option (List Aj)
 | [],acc=>some acc
 | r::l,acc=>(GE q r.x r.y).bind fun b=>cond b ((C8 32 acc [r]).bind fun a=>Te q l a) (Te q l acc)
def TU(rec_:List Aj→Option CB)(c:Br)(l:List Aj):Nat→Nat→List CB→Option (List CB)
 | 0,_,acc=>some acc
 | m+1,i,acc=>(IE c (i:Int)).bind fun q=>(Te q.1 l []).bind fun p=>cond (decide (0<(p.length:Int))) ((rec_ p).bind fun n=>(C8 64 acc [n]).bind fun a=>TU rec_ c l m (i+1) a) (TU rec_ c l m (i+1) acc)
def Rr(n:Nat):Nat→List Aj→Option CB
 | 0,_=>none
 | f+1,l=>
  if 1048576<l.length then none else cond (decide ((l.length:Int)=0)) (some (.mk 0 0 0 [] []))
   ((I2 n l).bind fun c=>cond (decide ((l.length:Int)≤4)||decide (c.lev=0)) ((dW 32 (l.length:Int)).bind fun _=>(C8 32 [] l).bind fun rs=>some (.mk c.x c.y c.lev rs []))
    ((TU (Rr n f) c l 4 0 []).bind fun ks=>some (.mk c.x c.y c.lev [] ks)))
theorem dV(n:Nat):∀(f:Nat) {K:Nat→Prop} {w0:World} {H:List AX} {v:Value} {l:List Aj} {t:CB},Rr n f l=some t→By K w0 AV 4 v l→
  zC K w0 159 [v] [] H (fun u M=>∃(nv:Fs) (L:JZ),u=.agg (CW nv).toArray∧OI L nv t∧M=[Hm L])
 | 0,K,w0,H,v,l,t,h,_=>by cases h
 | f+1,K,w0,H,v,l,t,h,hs=>by
  have h:(if 1048576<l.length then none else cond (decide ((l.length:Int)=0)) (some (.mk 0 0 0 [] []))
   ((I2 n l).bind fun c=>cond (decide ((l.length:Int)≤4)||decide (c.lev=0)) ((dW 32 (l.length:Int)).bind fun _=>(C8 32 [] l).bind fun rs=>some (.mk c.x c.y c.lev rs []))
    ((TU (Rr n f) c l 4 0 []).bind fun ks=>some (.mk c.x c.y c.lev [] ks))))=some t:=h
  by_cases hbig:1048576<l.length
  rw[if_pos hbig]at h;cases h
  rw[if_neg hbig]at h
  refine WN.enter Tryz.func159 rfl rfl ?_
  refine Y ?_
  refine Au E Ha zU fun b2=>?_
  refine V (AH (Y (J E (Bt hs E Ca E (Z E Ba (V ?_))))))
  refine A7 E (fun hc1=>?_) (fun hc1=>?_)
  rw[hc1,CC]at h
  obtain rfl:=zI h
  refine Y (B5 [] E Yg Yf Ha zT E (A3 0 E E E E Gj E E E zT (V (AK (Aa (Zr ?_))))))
  exact An (GM E (B2 1 [AB 0,AB 0,vI 0,zN,zN] KS E E E E)) (Ao (M:=[_]) ⟨⟨0,0,0,⟨none,0,0⟩,⟨none,0,0⟩⟩,[],E,.mk (Y5.nil fun _=>rfl) (Y5.nil fun _=>rfl) (kvs:=[]) E (fun i a b ha=>by simp at ha),E⟩ fun _ hw=>Bj.pick (H:=[_,_]) hw [0] 2 E)
  rw[hc1,BZ]at h
  refine AF h fun c hc h=>?_
  refine AI (AJ (Y (J E (AQ 0 uO (Zf hc hs) E (B5 [_] E Yg Yf Ha ⟨E,zT⟩ E ?_)))))
  refine Au E Ha zU fun b3=>?_
  refine A3 0 E E E E Gj E E E zT (V ?_)
  refine kP [(0,v),(2,vP b2 0),(3,vP b3 0)] (own b3 (.cells #[AB c.x,AB c.y,vI c.lev,zN,zN] 204)::own b2 (.cells #[AB 0,AB 0,vI 0,zN,zN] 204)::H) ?_ tL
  refine AH (Y (J E (Bt hs E Ca E (Z E Jo (J E ?_)))))
  refine Dw (c:=decide (c.lev=0)) 20 5 25 E (fun hb k=>?_) (fun hb k=>?_) ?_
  refine AC E (AC E (AC E (AC E (Ag E E E ?_))))
  exact k.mono tL
  refine AE E Ot (AE E Eg (AG 0 EF E (Z E Ba (Ag E E E ?_))))
  exact k.mono tL
  refine V ?_
  refine A7 E (fun hc2=>?_) (fun hc2=>?_)
  rw[hc2,CC]at h
  refine AF h fun u0 hu0 h=>?_
  refine AF h fun rs hrs h=>?_
  obtain rfl:=zI h
  refine Y (J E (Bt hs E Ca E ?_))
  refine tD hu0 AV E Ca DQ Sc Gm E E E zU fun v0=>?_
  refine J E ?_
  refine Px 0 hrs hs (sz:=4) (enc:=AV) zV E Ca DQ Sc Gm E zD E E E (by simp[AV,Value.oneCell']) zU fun v1=>?_
  refine AE E Sn ?_
  refine Cs 0 E fun hv1 ho1=>?_
  refine EW 1 E E E E My hv1 ho1 E zT (V (Y (Aw [AB c.x,AB c.y,vI c.lev,v1,zN] E KS E E (Ap 1 E) ?_)))
  refine US 0 E fun s0 hs0=>?_
  subst hs0
  refine A3 2 E E E E Gj E (List.all_eq_true.2 (KG ⟨c.x,c.y,c.lev,s0,⟨none,0,0⟩⟩)) E zT (V (AK (Aa ?_)))
  refine S5 zV fun L hL=>?_
  exact An (GM E (B2 2 [AB c.x,AB c.y,vI c.lev,s0.val,zN] KS E E E E)) (Ao (M:=[_]) ⟨⟨c.x,c.y,c.lev,s0,⟨none,0,0⟩⟩,L,E,.mk hL (Y5.nil fun _=>rfl) (kvs:=[]) E (fun i a b ha=>by simp at ha),E⟩ fun _ hw=>Bj.pick (H:=[_,_,_]) hw [0] 3 E)
  rw[hc2,BZ]at h
  refine AF h fun ks hks h=>?_
  obtain rfl:=zI h
  refine AI (AJ (AH (Y (U E (V (SY 204 5 CW (mU (AN ?_))))))))
  refine SX.mono (BK (α:=Nat×List Fs×List CB×Value×JZ) (fun x=>x.1≤4∧TU (Rr n f) c l (4-x.1) x.1 x.2.2.1=some ks∧VV x.2.2.2.2 x.2.1 x.2.2.1) (fun x=>[(0,v),(2,vP b2 0),(3,vP b3 0),(4,vI x.1)])
    (fun x=>Hm x.2.2.2.2::AD 204 5 x.2.2.2.1 CW x.2.1::own b3 (.cells #[AB c.x,AB c.y,vI c.lev,zN,x.2.2.2.1] 204)::own b2 (.cells #[AB 0,AB 0,vI 0,zN,zN] 204)::H)
    (fun x=>4-x.1) (fun x D hp=>?_) (0,[],[],zN,[]) ⟨Nat.zero_le _,hks,rfl,fun i a b ha=>by simp at ha⟩) tL
  obtain⟨i,gs,ks',kv,L⟩:=x
  obtain⟨hi,hkf,hkz⟩:=hp
  dsimp only at hi hkf hkz ⊢
  refine AH (Y (J E (Z E A9 (V ?_))))
  refine A7 E (fun hc4=>?_) (fun hc4=>?_)
  have hlt:i<4:=by have:=of_decide_eq_true hc4;omega
  clear hc4
  rw[show 4-i=(4-(i+1))+1 by omega]at hkf
  obtain⟨⟨q,eq⟩,hq,hkf⟩:=bnd hkf
  obtain⟨p,hpt,hkf⟩:=bnd hkf
  dsimp only at hpt
  refine AI (AJ (AH (AN (Y (AE rfl Ot (Aw [AB c.x,AB c.y,vI c.lev] rfl EC rfl rfl (Ct 2 rfl (by rintro(_ | _ | _ | j) u hj<;>first | exact hj | exact absurd hj zS)) (J rfl (AQ 0 uP (YP hq :) rfl (J rfl (Ah rfl rfl rfl (Ah rfl rfl rfl ?_)))))))))))
  refine Au E Io zU fun b5=>?_
  refine A3 0 E E E E N1 E E E zT (U E (V (Y (U E (V (SY 43 4 AV (AH (Y (U E (V (AN ?_)))))))))))
  refine SX.mono (BK (α:=Nat×List Aj×Value) (fun x=>x.1≤l.length∧Te q (l.drop x.1) x.2.1=some p) (fun x=>[(0,v),(2,vP b2 0),(3,vP b3 0),(4,vI i),(5,vP b5 0),(7,x.2.2),(8,vI x.1)])
   (fun x=>AD 43 4 x.2.2 AV x.2.1::own b5 (.cells #[AB q.x,AB q.y,vI q.lev] 201)::Hm L::AD 204 5 kv CW gs::own b3 (.cells #[AB c.x,AB c.y,vI c.lev,zN,kv] 204)::own b2 (.cells #[AB 0,AB 0,vI 0,zN,zN] 204)::H)
   (fun x=>l.length-x.1) (fun x D hp=>?_) (0,[],zN) ⟨Nat.zero_le _,hpt⟩) tL
  obtain⟨k,acc,vp⟩:=x
  obtain⟨hk,hp⟩:=hp
  dsimp only at hk hp ⊢
  refine AH (Y (J E (J E (Bt hs E Ca E (Z E A9 (V ?_))))))
  refine A7 E (fun hc5=>?_) (fun hc5=>?_)
  have hkl:k<l.length:=by have:=of_decide_eq_true hc5;omega
  have hr:BE l (k:Int)=some l[k]:=by simp[BE,hkl]
  rw[List.drop_eq_getElem_cons hkl]at hp
  generalize l[k]=r at hr hp
  obtain⟨b,hb,hp⟩:=bnd hp
  refine AI (AJ (AH (AN (AH (Ax Cz [1] (Bs [(true,0),(true,1),(true,2),(true,3),(true,4),(true,5),(true,6),(true,7),(true,8),(true,9),(true,10),(false,11)] (.last 12 .nil)) zK (Aw [AB q.x,AB q.y,vI q.lev] E EC E E (Ap 0 E) (J E (J E ?_))))))))
  refine Co hr hs E Ca DQ E E fun be1 of1 hcc1=>?_
  refine AE E JS ?_
  refine Bm E A4 E (C5 (j:=1) hcc1 E) ?_
  refine J E (J E ?_)
  refine Co hr hs E Ca DQ E E fun be2 of2 hcc2=>?_
  refine AE E JT ?_
  refine Bm E A4 E (C5 (j:=2) hcc2 E) ?_
  refine BS 0 fm (TE hb :) E ⟨⟨1,E⟩,zT⟩ (BU (U E (V (Y (J E (V ?_))))))
  refine AL hp E (fun hc6 hp=>?_) fun hc6 hp=>?_
  obtain⟨u,hu,hp⟩:=bnd hp
  refine AM (J E (J E (J E ?_)))
  refine Co hr hs E Ca DQ E E fun be3 of3 hcc3=>?_
  refine Aw (AV r) E Hy E E (DT hcc3) ?_
  refine CA [_] E Ca DQ Gm ⟨E,zT⟩ E E E (by intro v hv;simp only[List.mem_cons,List.not_mem_nil,or_false]at hv;subst hv;rfl) E E zU fun b7=>?_
  refine B4 AV 4 ([r]:List Aj) E zV E ?_
  refine Cr 1 hu (sz:=4) (enc:=AV) zV E Ca DQ Sc Gm E zD E E E E (B8 (sz:=4) (enc:=AV) 0 zV E) (by simp[AV,Value.oneCell']) zU fun v7=>?_
  refine U E (AZ (Av (AJ (AM (J E (Z E (Bh zO zO) (U E (AZ ?_))))))))
  exact A1 (k+1,u,v7) ⟨hkl,hp⟩ (by dsimp only;omega) tL (BM [1,2,3,4,5,6] 7 E E E)
  refine AI (Av (AJ (AM (J E (Z E (Bh zO zO) (U E (AZ ?_)))))))
  exact A1 (k+1,acc,vp) ⟨hkl,hp⟩ (by dsimp only;omega) tL (fun _ h=>h)
  have hle:k=l.length:=by have:=of_decide_eq_false hc5;omega
  subst hle
  rw[List.drop_length]at hp
  obtain rfl:=zI hp
  clear hc5
  refine A5 (BC (Bb (BB (AJ (Y (J E (DL 0 E Ca E E (Z E Cj (V ?_)))))))))
  refine AL hkf E (fun hc6 hkf=>?_) fun hc6 hkf=>?_
  obtain⟨nd,hnd,hkf⟩:=bnd hkf
  obtain⟨ac,hacc,hkf⟩:=bnd hkf
  refine Ax Cz [4] (Bs [(true,0),(true,1),(true,2),(false,3),(false,4),(false,5),(true,6)] (.last 7 .nil)) zK (AE E Ih (AG 0 SO E (J E ?_)))
  refine BT (vs:=[_]) (Hin:=[_]) (Hr:=_::_::_::_::_::_) E E ⟨E,zT⟩ mq E E (CJ (B:=[_]) (Hin:=[]) fun K' w1 hk hB=>dV n f hnd (Bp (e:=43) zV (hB _ zS))) ?_
  rintro _ _ ⟨_,rfl,nv,L2,rfl,hnz,rfl⟩
  refine⟨⟨⟨5,rfl⟩,trivial⟩,?_⟩
  obtain⟨hg,rfl⟩:=SZ (xs':=gs) (ys':=[nv]) hacc hkz.1 rfl
  refine CA [_] E M7 Gj Ha ⟨E,zT⟩ E E E (by intro v hv;simp only[List.mem_cons,List.not_mem_nil,or_false]at hv;subst hv;rfl) E E (fun _=>⟨⟨6,E⟩,zT⟩) fun b7=>?_
  refine B4 CW 5 ([nv]:List Fs) E zV E ?_
  refine Cr 5 hg (sz:=5) (enc:=CW) zV E M7 Gj aV Ha E zD E E E E (B8 (sz:=5) (enc:=CW) 0 zV E) KG (fun _=>⟨⟨6,E⟩,zT⟩) fun v7=>?_
  refine AE E Ih (BU ?_)
  refine Cs 5 E fun hv7 ho7=>?_
  refine EW 6 E E E E cW hv7 ho7 E zT (AZ (Av (AJ ?_)))
  refine SX.heap (H':=Hm L::Hm L2::AD 204 5 v7 CW (gs++[nv])::own b3 (.cells #[AB c.x,AB c.y,vI c.lev,zN,v7] 204)::own b2 (.cells #[AB 0,AB 0,vI 0,zN,zN] 204)::H) (Qv ?_) (BM [4,2,5,6,7] 8 E E E)
  refine AM (J E (Z E (Bh zO zO) (U E (AZ ?_))))
  exact A1 (i+1,gs++[nv],ks'++[nd],v7,L++L2) ⟨by omega,hkf,(hkz.mono fun p hp=>List.mem_append_left _ hp).snoc (hnz.mono fun p hp=>List.mem_append_right _ hp)⟩ (by dsimp only;omega) tL (fun _ h=>h)
  refine AI (Av (AJ (AM (J E (Z E (Bh zO zO) (U E (AZ ?_)))))))
  exact A1 (i+1,gs,ks',kv,L) ⟨by omega,hkf,hkz⟩ (by dsimp only;omega) tL (BM [2,3,4,5] 6 E E E)
  have hle:i=4:=by have:=of_decide_eq_false hc4;omega
  subst hle
  obtain rfl:=zI (show some ks'=some ks from hkf)
  refine A5 (BC (Bb (BB (AJ (Y (Aw [AB c.x,AB c.y,vI c.lev,zN,kv] E KS E E (Ap 2 E) ?_))))))
  refine US 1 E fun s0 hs0=>?_
  subst hs0
  refine A3 3 E E E E Gj E (List.all_eq_true.2 (KG ⟨c.x,c.y,c.lev,⟨none,0,0⟩,s0⟩)) E zT (V (AK ?_))
  refine SQ.heap (H':=AD 204 5 s0.val CW gs::Hm L::own b2 (.cells #[AB c.x,AB c.y,vI c.lev,zN,s0.val] 204)::H) (S5 zV fun Lk hLk=>?_) (BM [1,0,3] 4 E E E)
  refine aK ?_
  exact An (GM E (B2 1 [AB c.x,AB c.y,vI c.lev,zN,s0.val] KS E E E E)) (Ao (M:=[_]) ⟨⟨c.x,c.y,c.lev,⟨none,0,0⟩,s0⟩,Lk++L,E,.mk (Y5.nil fun _=>rfl) (hLk.mono fun p hp=>List.mem_append_left _ hp) hkz.1 (fun i a b ha hb=>(hkz.2 i a b ha hb).mono fun p hp=>List.mem_append_right _ hp),E⟩ fun _ hw=>Bj.pick (H:=[_,_]) hw [0] 2 E)
def Qz(n:Nat)(l:List Aj):Option (CB×Int):=
 (E3 n l).bind fun r=>cond (!r) (some (.mk 0 0 0 [] [],80)) ((Rr n n l).bind fun t=>some (t,0))
theorem mB{n:Nat}{v:Value}{l:List Aj}{r:CB×Int}(h:Qz n l=some r)(hs:By K w0 AV 4 v l):
  zC K w0 124 [v] [] H (fun u M=>∃(nv:Fs) (L:JZ),u=.tuple #[.agg (CW nv).toArray,vI r.2]∧OI L nv r.1∧M=[Hm L]):=by
 unfold Qz at h
 refine AF h fun y hy h=>?_
 refine WN.enter Tryz.func124 rfl rfl ?_
 refine Y ?_
 refine Au E Ha zU fun b2=>?_
 refine U E (V (Y (J E (AQ 0 ay (Ls hy hs) E (U E (V (AH (Y (J E (CF E E (V ?_)))))))))))
 refine A7 E (fun hc=>?_) (fun hc=>?_)
 rw[hc,CC]at h
 obtain rfl:=zI h
 refine Y (B5 [] E Yg Yf Ha zT E (A3 0 E E E E Gj E E E zT (U E (V (AK (Aa (Zr ?_)))))))
 exact An (FA E (B2 1 [AB 0,AB 0,vI 0,zN,zN] KS E E E E) E) (Ao (M:=[_]) ⟨⟨0,0,0,⟨none,0,0⟩,⟨none,0,0⟩⟩,[],E,.mk (Y5.nil fun _=>rfl) (Y5.nil fun _=>rfl) (kvs:=[]) E (fun i a b ha=>by simp at ha),E⟩ fun _ hw=>Bj.pick (H:=[_,_]) hw [0] 2 E)
 rw[hc,BZ]at h
 refine AF h fun t ht h=>?_
 obtain rfl:=zI h
 refine AI (AJ (Y (J E (BY 0 mq (dV n n ht hs) E ?_))))
 rintro _ _ ⟨nv,L,rfl,hnz,rfl⟩
 refine A3 1 E E E E Gj E (List.all_eq_true.2 (KG nv)) E zT (U E (V (AK ?_)))
 exact An (FA E (B2 1 (CW nv) KS E E E E) E) (Ao (M:=[_]) ⟨nv,L,E,hnz,E⟩ fun _ hw=>Bj.pick (H:=[_,_]) hw [0] 2 E)
end

section
variable {K:Nat→Prop}{w0:World}{H:List AX}
end

section
theorem aC{c:Br}{L:Nat}(h:c.lev=(L:Int))(hL:L≤31):Gs c=some (shl64 1 L):=by
 unfold Gs
 rw[h,W1 zO,BN]
theorem gi{x:UInt32}{L:Nat}(hL:L≤31):SK x.toUInt64 (shl64 1 L)=some (x.toUInt64%shl64 1 L):=by
 unfold SK
 rw[if_neg]
 intro e
 have h1:=congrArg UInt64.toNat e
 rw[Nz hL]at h1
 have:=Nat.two_pow_pos L
 have h2:(0:UInt64).toNat=0:=rfl
 omega
theorem ju{c:Br}{L:Nat}(h:c.lev=(L:Int))(hL:L≤31)(hx:c.x.toNat%2^L=0)(hy:c.y.toNat%2^L=0)(lx:c.x.toNat<2147483648)(ly:c.y.toNat<2147483648):Fj c=some true:=by
 unfold Fj
 have a:∀x:UInt32,x.toNat<2147483648→decide ((2147483648:UInt32)≤x)=false:=fun x hx=>by
  refine zf fun e=>?_
  have h1:=UInt32.le_iff_toNat_le.1 e
  have h5:(2147483648:UInt32).toNat=2147483648:=rfl
  omega
 rw[a _ lx,a _ ly,h,zf (show ¬(L:Int)<0 by omega),zf (show ¬31<(L:Int) by omega)]
 simp only[Bool.or_false,BZ]
 have z:∀x:UInt32,x.toNat%2^L=0→decide (x.toUInt64%shl64 1 L=0)=true:=fun x hx=>by
  rw[decide_eq_true_eq,←UInt64.toNat_inj,UInt64.toNat_mod,UInt32.toNat_toUInt64,Nz hL,hx]
  rfl
 rw[aC h hL,AA,gi hL,AA,z _ hx]
 unfold GA
 rw[CC,AA,gi hL,AA,z _ hy]
 rfl
def bj(c:Br)(L:Nat)(x y:UInt32):Bool:=decide (x.toNat / 2^L=c.x.toNat / 2^L)&&decide (y.toNat / 2^L=c.y.toNat / 2^L)
theorem rN{q:Br}{M:Nat}(x y:UInt32)(h:q.lev=(M:Int))(hM:M≤31)(hx:q.x.toNat%2^M=0)(hy:q.y.toNat%2^M=0)(lx:q.x.toNat<2147483648)(ly:q.y.toNat<2147483648):
  GE q x y=some (bj q M x y):=by
 have hp:=Nat.two_pow_pos M
 unfold GE bj
 rw[ju h hM hx hy lx ly,AA,aC h hM,AA,AA]
 have key:∀a b:UInt32,b.toNat%2^M=0→b.toNat<2147483648→decide (a.toNat / 2^M=b.toNat / 2^M)=(decide (b≤a)&&decide (a.toUInt64<b.toUInt64+shl64 1 M)):=by
  intro a b hb lb
  have e:(b.toUInt64+shl64 1 M).toNat=b.toNat+2^M:=by
   have h1:=Nz hM
   have h2:2^M≤2^31:=Nat.pow_le_pow_right zD hM
   rw[UInt64.toNat_add,UInt32.toNat_toUInt64,h1]
   omega
  rw[Bool.eq_iff_iff]
  simp only[Bool.and_eq_true,decide_eq_true_eq,UInt32.le_iff_toNat_le,UInt64.lt_iff_toNat_lt,←bn hp hb,e,UInt32.toNat_toUInt64]
  omega
 rw[key x q.x hx lx,key y q.y hy ly]
 generalize decide (q.x≤x)=A
 generalize decide (q.y≤y)=B
 generalize decide (x.toUInt64<q.x.toUInt64+shl64 1 M)=C
 generalize decide (y.toUInt64<q.y.toUInt64+shl64 1 M)=D
 cases A<;>cases B<;>cases C<;>cases D<;>rfl
theorem lU{c:Br}{l:List Aj}{L:Nat}(A:AR c l L)(h0:0<L){i:Nat}(hi:i<4):∃q,IE c (i:Int)=some (q,0)∧∀r∈l,GE q r.x r.y=some (decide (qd L r=i)):=by
 have hL:=A.le
 have hp:=Nat.two_pow_pos (L-1)
 have mx:=Ss A.cx A.lx (Pa hL)
 have my:=Ss A.cy A.ly (Pa hL)
 have e2:2^L=2^(L-1)*2:=by rw[←Nat.pow_succ,Nat.succ_eq_add_one,Nat.sub_add_cancel h0]
 have hh:(shl64 1 L / 2).toUInt32.toNat=2^(L-1):=by
  rw[UInt64.toNat_toUInt32,UInt64.toNat_div,Nz hL,show(2:UInt64).toNat=2 from rfl,e2,Nat.mul_div_cancel _ zD]
  show _%4294967296=_
  have:2^(L-1)≤2^31:=Nat.pow_le_pow_right zD zO
  exact Nat.mod_eq_of_lt zO
 have half:∀a:Nat,a%2^L=0→a%2^(L-1)=0∧a / 2^(L-1)%2=0:=by
  intro a ha
  rw[e2]at ha
  constructor
  rw[←Nat.mod_mul_right_mod a (2^(L-1)) 2,ha]
  simp
  rw[Nat.mod_mul]at ha
  have h5:2^(L-1)*(a / 2^(L-1)%2)=0:=zO
  rcases Nat.mul_eq_zero.1 h5 with h6 | h6
  omega
  exact h6
 obtain⟨hx2,cxe⟩:=half _ A.cx
 obtain⟨hy2,cye⟩:=half _ A.cy
 have gx:=GQ (a:=c.x.toNat) h0
 have gy:=GQ (a:=c.y.toNat) h0
 generalize hhd:(shl64 1 L / 2).toUInt32=hf at hh
 have hlev:wI (c.lev-1)=((L-1:Nat):Int):=by rw[A.lev,CR zO zO];omega
 have mv:∀(a:UInt32) (b:Nat),b≤1→a.toNat+2^L≤2147483648→(a+hf*De (b:Int)).toNat=a.toNat+b*2^(L-1):=by
  intro a b hb ha
  rw[e2]at ha
  rcases(show b=0∨b=1 by omega)with rfl | rfl
  rw[show De ((0:Nat):Int)=0 from rfl]
  simp
  rw[show De ((1:Nat):Int)=1 from rfl,UInt32.mul_one,UInt32.toNat_add,hh]
  omega
 have fin:∀bx by_:Nat,bx≤1→by_≤1→∀r∈l,GE ⟨c.x+hf*De (bx:Int),c.y+hf*De (by_:Int),wI (c.lev-1)⟩ r.x r.y=some (decide (qd L r=bx+2*by_)):=by
  intro bx by_ hbx hby r hr
  obtain⟨i1,i2⟩:=A.inn r hr
  have rx:=GQ (a:=r.x.toNat) h0
  have ry:=GQ (a:=r.y.toNat) h0
  have e1:=mv c.x bx hbx mx
  have e3:=mv c.y by_ hby my
  generalize c.x+hf*De (bx:Int)=qx at e1 ⊢
  generalize c.y+hf*De (by_:Int)=qy at e3 ⊢
  have bxl:bx*2^(L-1)≤2^(L-1):=by
   calc bx*2^(L-1)≤1*2^(L-1):=Nat.mul_le_mul_right _ hbx
    _=2^(L-1):=Nat.one_mul _
  have byl:by_*2^(L-1)≤2^(L-1):=by
   calc by_*2^(L-1)≤1*2^(L-1):=Nat.mul_le_mul_right _ hby
    _=2^(L-1):=Nat.one_mul _
  rw[rN (M:=L-1) r.x r.y (show wI (c.lev-1)=_ from hlev) zO (show qx.toNat%_=0 by rw[e1,Nat.add_mul_mod_self_right];exact hx2) (show qy.toNat%_=0 by rw[e3,Nat.add_mul_mod_self_right];exact hy2) (show qx.toNat<_ by rw[e1];omega) (show qy.toNat<_ by rw[e3];omega)]
  have f1:qx.toNat / 2^(L-1)=c.x.toNat / 2^(L-1)+bx:=by rw[e1];exact Nat.add_mul_div_right _ _ hp
  have f2:qy.toNat / 2^(L-1)=c.y.toNat / 2^(L-1)+by_:=by rw[e3];exact Nat.add_mul_div_right _ _ hp
  congr 1
  unfold bj qd
  rw[Bool.eq_iff_iff]
  simp only[Bool.and_eq_true,decide_eq_true_eq,f1,f2]
  omega
 have run:∀bx by_:Nat,T8 (i:Int) 2=some (bx:Int)→WH (i:Int) 2=some (by_:Int)→IE c (i:Int)=some (⟨c.x+hf*De (bx:Int),c.y+hf*De (by_:Int),wI (c.lev-1)⟩,0):=by
  intro bx by_ h1 h2
  unfold IE
  rw[ju A.lev A.le A.cx A.cy A.lx A.ly,AA,show(((!true||decide (c.lev=0))||decide ((i:Int)<0))||decide (3<(i:Int)))=false by rw[A.lev];simp;omega,BZ,aC A.lev hL,AA]
  unfold RM
  rw[if_neg zD,AA,h1,AA,h2,AA,hhd]
 rcases(show i=0∨i=1∨i=2∨i=3 by omega)with rfl | rfl | rfl | rfl
 exact⟨_,run 0 0 rfl rfl,fin 0 0 zO zO⟩
 exact⟨_,run 1 0 rfl rfl,fin 1 0 zO zO⟩
 exact⟨_,run 0 1 rfl rfl,fin 0 1 zO zO⟩
 exact⟨_,run 1 1 rfl rfl,fin 1 1 zO zO⟩
structure IC(c:Br)(l:List Aj)(L:Nat):Prop where
 lev:c.lev=(L:Int)
 le:L≤31
 cx:c.x.toNat%2^L=0
 cy:c.y.toNat%2^L=0
 lx:c.x.toNat<2147483648
 ly:c.y.toNat<2147483648
 inn:∀r∈l,r.x.toNat / 2^L=c.x.toNat / 2^L∧r.y.toNat / 2^L=c.y.toNat / 2^L
theorem AR.ic{c:Br}{l:List Aj}{L:Nat}(A:AR c l L):IC c l L:=⟨A.lev,A.le,A.cx,A.cy,A.lx,A.ly,A.inn⟩
theorem IC.has{c:Br}{l:List Aj}{L:Nat}(I:IC c l L)(x y:UInt32):GE c x y=some (bj c L x y):=rN x y I.lev I.le I.cx I.cy I.lx I.ly
theorem XK{S:List Aj}{far r0:Aj}(h0:r0∈S)(okf:HY far=true)(a1:Int)(nx:UInt32×UInt32×Int×Int→Option Br):
  ∀(k m:Nat) (c:Br) (L:Nat),31-L≤k→k<m→IC c S L→(0<L→(∃r∈S,∃s∈S,qd L r≠qd L s)∨¬(far.x.toNat / 2^(L-1)=r0.x.toNat / 2^(L-1)∧far.y.toNat / 2^(L-1)=r0.y.toNat / 2^(L-1)))→
   ∃c' L',AR c' (S++[far]) L'∧Gg a1 far nx m (c.x,c.y,(L:Int),bj c L far.x far.y)=Ib a1 nx c'.x c'.y c'.lev
 | _,0,_,_,_,h,_,_=>absurd h (Nat.not_lt_zero _)
 | k,m+1,c,L,hk,hm,I,ht=>by
  have e:Gg a1 far nx (m+1) (c.x,c.y,(L:Int),bj c L far.x far.y)=G9 a1 far nx (Gg a1 far nx m) c.x c.y L (bj c L far.x far.y):=rfl
  rw[e]
  unfold G9
  obtain⟨i1,i2⟩:=I.inn r0 h0
  cases hb:bj c L far.x far.y with
  | true=>
   unfold bj at hb
   simp only[Bool.and_eq_true,decide_eq_true_eq]at hb
   refine⟨c,L,⟨I.lev,I.le,I.cx,I.cy,I.lx,I.ly,fun r hr=>?_,fun h=>?_⟩,?_⟩
   rcases List.mem_append.1 hr with hr | hr
   exact I.inn r hr
   rw[List.mem_singleton.1 hr]
   exact hb
   rcases ht h with⟨r,hr,s,hs,hne⟩ | hne
   exact⟨r,List.mem_append_left _ hr,s,List.mem_append_left _ hs,hne⟩
   refine⟨r0,List.mem_append_left _ h0,far,by simp,fun e=>hne ?_⟩
   have g1:=GQ (a:=r0.x.toNat) h
   have g2:=GQ (a:=r0.y.toNat) h
   have g3:=GQ (a:=far.x.toNat) h
   have g4:=GQ (a:=far.y.toNat) h
   unfold qd at e
   omega
   rw[Bool.not_true,BZ,I.lev]
  | false=>
   have hfar:=Pc okf
   have hL:L<31:=by
    rcases Nat.lt_or_ge L 31 with h | h
    exact h
    have:L=31:=by have:=I.le;omega
    subst this
    unfold bj at hb
    rw[Nat.div_eq_of_lt (show far.x.toNat<2^31 from hfar.1),Nat.div_eq_of_lt (show far.y.toNat<2^31 from hfar.2.1),Nat.div_eq_of_lt (show c.x.toNat<2^31 from I.lx),Nat.div_eq_of_lt (show c.y.toNat<2^31 from I.ly)]at hb
    simp at hb
   have hX:∀x:UInt32,(shl64 (shr64 x.toUInt64 (L+1)) (L+1)).toUInt32.toNat=x.toNat / 2^(L+1)*2^(L+1):=by
    intro x
    have hlt:=x.toNat_lt
    have h1:x.toNat / 2^(L+1)*2^(L+1)≤x.toNat:=Nat.div_mul_le_self _ _
    have h2:(shr64 x.toUInt64 (L+1)).toNat=x.toNat / 2^(L+1):=by
     unfold shr64
     rw[UInt64.toNat_ofNat',Nat.min_eq_left zO,UInt32.toNat_toUInt64]
     exact Nat.mod_eq_of_lt (Nat.lt_of_le_of_lt (Nat.div_le_self _ _) zO)
    rw[UInt64.toNat_toUInt32]
    unfold shl64
    rw[UInt64.toNat_ofNat',Nat.min_eq_left zO,h2]
    omega
   have hpp:=Nat.two_pow_pos (L+1)
   have up:∀a:Nat,a / 2^(L+1)=a / 2^L / 2:=fun a=>by rw[Nat.div_div_eq_div_mul,←Nat.pow_succ]
   have I':IC ⟨(shl64 (shr64 c.x.toUInt64 (L+1)) (L+1)).toUInt32,(shl64 (shr64 c.y.toUInt64 (L+1)) (L+1)).toUInt32,((L+1:Nat):Int)⟩ S (L+1):=by
    refine⟨rfl,by omega,?_,?_,?_,?_,fun r hr=>?_⟩
    show(shl64 _ _).toUInt32.toNat%_=0
    rw[hX]
    exact Nat.mul_mod_left _ _
    show(shl64 _ _).toUInt32.toNat%_=0
    rw[hX]
    exact Nat.mul_mod_left _ _
    show(shl64 _ _).toUInt32.toNat<_
    rw[hX]
    exact Nat.lt_of_le_of_lt (Nat.div_mul_le_self _ _) I.lx
    show(shl64 _ _).toUInt32.toNat<_
    rw[hX]
    exact Nat.lt_of_le_of_lt (Nat.div_mul_le_self _ _) I.ly
    show _=(shl64 _ _).toUInt32.toNat / _∧_=(shl64 _ _).toUInt32.toNat / _
    rw[hX,hX,Nat.mul_div_cancel _ hpp,Nat.mul_div_cancel _ hpp,up,up,up,up,(I.inn r hr).1,(I.inn r hr).2]
    exact⟨rfl,rfl⟩
   have hk1:31-(L+1)≤k-1:=by clear ht;omega
   have hk2:k-1<m:=by clear ht;omega
   obtain⟨c',L',A,e2⟩:=XK h0 okf a1 nx (k-1) m _ (L+1) hk1 hk2 I' (fun _=>.inr (by
    rw[Nat.add_sub_cancel,i1,i2]
    intro hc
    unfold bj at hb
    rw[hc.1,hc.2]at hb
    simp at hb))
   refine⟨c',L',A,?_⟩
   have hw:wI ((L:Int)+1)=((L+1:Nat):Int):=by rw[CR zO zO];omega
   rw[Bool.not_false,CC,hw,W1 zO,I'.has,AA]
   exact e2
theorem aQ{n:Nat}{l:List Aj}(hl:l≠[])(hn:l.length<n)(hn2:40≤n)(hb:l.length≤1000000)(ok:∀r∈l,HY r=true):∃c L,I2 n l=some c∧AR c l L:=by
 have key:∀(T S:List Aj) (c:Br) (L:Nat),l=S++T→S≠[]→AR c S L→∀m,T.length<m→∃c' L',Di n l m (c.x,c.y,c.lev,(S.length:Int))=some c'∧AR c' l L':=by
  intro T
  induction T with
  | nil=>
   intro S c L hS hne A m hm
   obtain⟨m,rfl⟩:∃k,m=k+1:=⟨m-1,by omega⟩
   simp only[List.append_nil]at hS
   subst hS
   refine⟨c,L,?_,A⟩
   show E4 n l (Di n l m) _ _ _ _=_
   unfold E4
   dsimp only
   rw[zf zO,BZ]
   rfl
  | cons r T ih=>
   intro S c L hS hne A m hm
   obtain⟨m,rfl⟩:∃k,m=k+1:=⟨m-1,by omega⟩
   have hlen:l.length=S.length+(T.length+1):=by rw[hS];simp
   have hr:r∈l:=by rw[hS];simp
   have n1:BE l (S.length:Int)=some r:=by
    rw[Fo rfl,hS]
    simp
   obtain⟨r0,hr0⟩:=List.exists_mem_of_ne_nil S hne
   have hA0:=A.two
   obtain⟨c',L',A',e⟩:=XK hr0 (ok r hr) (S.length:Int) (Di n l m) 31 n c L zO zO A.ic (fun h=>.inl (hA0 h))
   obtain⟨c2,L2,h1,h2⟩:=ih (S++[r]) c' L' (by rw[hS];simp) zS A' m (by simp at hm;omega)
   refine⟨c2,L2,?_,h2⟩
   show E4 n l (Di n l m) _ _ _ _=_
   unfold E4
   dsimp only
   rw[zt zO,CC,n1,AA,show(⟨c.x,c.y,c.lev⟩:Br)=c from rfl,A.ic.has,AA,A.lev,e]
   unfold Ib
   rw[BN,CR zO zO]
   rw[show((S++[r]).length:Int)=(S.length:Int)+1 by simp only[List.length_append,List.length_singleton];omega]at h1
   exact h1
 obtain⟨r0,l0,rfl⟩:∃r0 l0,l=r0::l0:=by
  cases l with
  | nil=>exact absurd rfl hl
  | cons r0 l0=>exact⟨r0,l0,rfl⟩
 have h0:=Pc (ok r0 zS)
 obtain⟨c,L,hc,hA⟩:=key l0 [r0] ⟨r0.x,r0.y,0⟩ 0 rfl zS ⟨rfl,by omega,by simp[Nat.mod_one],by simp[Nat.mod_one],h0.1,h0.2.1,fun r hr=>by rw[List.mem_singleton.1 hr];exact⟨rfl,rfl⟩,fun h=>absurd h (Nat.lt_irrefl _)⟩ n (by simp at hn;omega)
 refine⟨c,L,?_,hA⟩
 unfold I2
 have n0:BE (r0::l0) 0=some r0:=rfl
 rw[n0,AA,AA]
 exact hc
end

section
theorem Wr{q:Br}{l:List Aj}{L i:Nat}(hq:∀r∈l,GE q r.x r.y=some (decide (qd L r=i))):∀(T acc:List Aj),(∀r∈T,r∈l)→acc.length+T.length≤100000→Te q T acc=some (acc++T.filter fun r=>decide (qd L r=i))
 | [],acc,_,_=>by simp[Te]
 | r::T,acc,hT,hb=>by
  simp only[List.length_cons]at hb
  unfold Te
  rw[hq r (hT r zS),AA]
  cases hd:decide (qd L r=i)with
  | false=>
   rw[BZ,Wr hq T acc (fun s hs=>hT s (by simp[hs])) zO]
   simp[hd]
  | true=>
   rw[CC,DM zQ zQ,AA,Wr hq T _ (fun s hs=>hT s (by simp[hs])) zQ]
   simp[hd]
theorem bz{rec_:List Aj→Option CB}{c:Br}{l:List Aj}{L:Nat}(A:AR c l L)(h0:0<L)(hb:l.length≤1000):∀(m i:Nat) (acc:List CB),i+m=4→
  TU rec_ c l m i acc=Ff rec_ ((List.range' i m).map fun j=>l.filter fun r=>decide (qd L r=j)) acc
 | 0,_,_,_=>rfl
 | m+1,i,acc,h=>by
  obtain⟨q,h1,h2⟩:=lU A h0 (i:=i) zO
  unfold TU
  rw[h1,AA,Wr h2 l [] (fun r hr=>hr) zQ,AA,List.range'_succ,List.map_cons,List.nil_append]
  unfold Ff
  simp only[bz A h0 hb m (i+1) _ zO]
theorem cb{n:Nat}(hn2:40≤n):∀(f:Nat) (l:List Aj),l.length<f→(∀r∈l,HY r=true)→l.length≤1000→l.length<n→∃t,Rr n f l=some t∧Tr f l t
 | 0,l,h,_,_,_=>by omega
 | f+1,l,h,ok,hb,hn=>by
  unfold Rr
  rw[if_neg zO]
  by_cases hl:l=[]
  subst hl
  exact⟨.mk 0 0 0 [] [],rfl,.inl ⟨rfl,rfl⟩⟩
  have hp:=List.length_pos_iff.2 hl
  obtain⟨c,L,hc,A⟩:=aQ hl hn hn2 zO ok
  rw[zf zO,BZ,hc,AA]
  by_cases hleaf:l.length≤4∨L=0
  rw[show(decide ((l.length:Int)≤4)||decide (c.lev=0))=true by rw[A.lev];simp;omega,CC]
  have hcap:dW 32 (l.length:Int)=some ():=by
   unfold dW
   rw[if_pos ⟨by omega,by omega,by omega⟩]
  rw[hcap,AA,DM zQ zQ,AA]
  exact⟨_,rfl,.inr ⟨hl,c,L,A,.inl ⟨hleaf,rfl⟩⟩⟩
  have h0:0<L:=zO
  rw[show(decide ((l.length:Int)≤4)||decide (c.lev=0))=false by rw[A.lev];simp;omega,BZ,bz A h0 hb 4 0 [] rfl]
  obtain⟨_,h2⟩:=RL A h0
  obtain⟨ks,h3,h4⟩:=Xy (rec_:=Rr n f) (R:=Tr f) (Oz L l) [] (fun p hp' hne=>by
   have hq:p∈Ny L l:=List.mem_filter.2 ⟨hp',by simpa using hne⟩
   have:=h2 p hq
   exact cb hn2 f p zO (fun r hr=>ok r ((RK hq).subset hr)) zO zO) (by simp[Oz])
  rw[show(List.range' 0 4).map (fun j=>l.filter fun r=>decide (qd L r=j))=Oz L l from rfl,h3,AA]
  exact⟨_,rfl,.inr ⟨hl,c,L,A,.inr ⟨by omega,h0,ks,by simp,h4⟩⟩⟩
theorem sE{n:Nat}{l:List Aj}(hn:l.length<n)(h:Du l=true):E3 n l=some true:=by
 have hb:=Ro h
 unfold Du at h
 simp only[Bool.and_eq_true,decide_eq_true_eq]at h
 have hr:=(VD l).1 h.1.2
 have ok:∀r∈l,HY r=true:=fun r hr=>List.all_eq_true.1 h.1.1 r hr
 unfold E3
 rw[zf zO,BZ]
 have key:∀(d k m:Nat),k+d=l.length→d<m→EQ l m (k:Int)=some true:=by
  intro d
  induction d with
  | zero=>
   intro k m hk hm
   obtain⟨m,rfl⟩:∃j,m=j+1:=⟨m-1,by omega⟩
   show DV l (EQ l m) _=_
   unfold DV
   rw[zf zO,BZ]
   rfl
  | succ d ih=>
   intro k m hk hm
   obtain⟨m,rfl⟩:∃j,m=j+1:=⟨m-1,by omega⟩
   have hkl:k<l.length:=zO
   have n1:BE l (k:Int)=some l[k]:=by rw[Fo rfl,List.getElem?_eq_getElem hkl]
   have hrow:FV l[k]=some true:=by
    have h5:=Pc (ok l[k] (List.getElem_mem hkl))
    unfold FV
    have h6:(2147483648:UInt32).toNat=2147483648:=rfl
    rw[BN,zt (UInt32.lt_iff_toNat_lt.2 zO),zt (UInt32.lt_iff_toNat_lt.2 zO),zt zO]
    rfl
   show DV l (EQ l m) _=_
   unfold DV
   rw[zt zO,CC,n1,AA,hrow,AA]
   have hor:(Tc (!true) ((GA (decide (0<(k:Int))) ((BE l (wI ((k:Int)-1))).bind fun x2=>(BE l (k:Int)).bind fun x3=>some (decide (x3.id≤x2.id)))).bind fun y2=>some (y2)))=some false:=by
    rcases Nat.eq_zero_or_pos k with rfl | hk0
    rfl
    have n2:BE l (wI ((k:Int)-1))=some l[k-1]:=by
     rw[CR zO zO,Fo (k:=k-1) zO,List.getElem?_eq_getElem zO]
    have hlt:=List.pairwise_iff_getElem.1 hr (k-1) k zO hkl zO
    have h7:decide (l[k].id≤l[k-1].id)=false:=zf fun e=>by
     have e1:=UInt64.le_iff_toNat_le.1 e
     have e2:=UInt64.lt_iff_toNat_lt.1 hlt
     omega
    rw[zt zO,n2,n1]
    simp only[Tc,GA,Bool.not_true,BZ,CC,AA,h7]
   rw[n1]at hor
   rw[hor,AA,BZ,BN,CR zO zO]
   exact ih (k+1) m zO zO
 exact key l.length 0 n zO hn
theorem iq{n:Nat}{l:List Aj}(hn:1100≤n)(h:Du l=true):∃t,Qz n l=some (t,0)∧Tr n l t:=by
 have hb:=Ro h
 have h':=h
 unfold Du at h'
 simp only[Bool.and_eq_true,decide_eq_true_eq]at h'
 obtain⟨t,h1,h2⟩:=cb (n:=n) zO n l zO (fun r hr=>List.all_eq_true.1 h'.1.1 r hr) hb zO
 refine⟨t,?_,h2⟩
 unfold Qz
 rw[sE zO h,AA,Bool.not_true,BZ,h1,AA]
end

section
variable {K:Nat→Prop}{w0:World}{H:List AX}
def EM(p0:UInt32)(p1:Int):Option UInt32:=
 (Sx p1).bind fun n1=>
 (Sx (wI (32-p1))).bind fun n2=>
 ret ((shl32 p0 n1) ||| (shr32 p0 n2)) fun x1=>
 some x1
theorem NY{p0 r:UInt32}{p1:Int}(h:EM p0 p1=some r): zC K w0 291 [AB p0,vI p1] [] H (fun u M=>u=AB r∧M=[]):=by
 unfold EM at h
 refine WN.enter Tryz.func291 rfl rfl ?_
 refine Y (U E (V (AH ?_)))
 refine AF h fun n1 hn1 h=>?_
 refine AF h fun n2 hn2 h=>?_
 obtain⟨x1,ex1,h⟩:=Bz h
 refine Ax Cz [] (Pl.of (G4 0 9)) zK (J E (J E (Z E (UN hn1) (J E (J E (Z E Dc (Z E (Y4 hn2) ?_)))))))
 refine Z E Fy ?_
 refine Ay (u:=AB x1) E E (by rw[ex1]) ?_
 refine V (AK ?_)
 obtain rfl:=zI h
 exact Ac [] 0 E E E
def Jy(p0:UInt32)(p1:UInt32)(p2:UInt32)(p3:UInt32):Option (List UInt32):=
 ret (p0+p1) fun a_1=>
 (EM (p3 ^^^ a_1) 16).bind fun y1=>
 ret (p2+y1) fun x1=>
 (EM (p1 ^^^ x1) 12).bind fun y2=>
 ret (a_1+y2) fun a_2=>
 (EM (y1 ^^^ a_2) 8).bind fun y3=>
 ret (x1+y3) fun x2=>
 (EM (y2 ^^^ x2) 7).bind fun y4=>
 some [a_2,y4,x2,y3]
theorem Sg{p0 p1 p2 p3:UInt32}{r:List UInt32}(h:Jy p0 p1 p2 p3=some r): zC K w0 290 [AB p0,AB p1,AB p2,AB p3] [] H (fun u M=>u=.agg (Dx AB r)∧r.length=4∧M=[]):=by
 unfold Jy at h
 refine WN.enter Tryz.func290 rfl rfl ?_
 refine Y ?_
 refine Au E VQ zU fun b1=>?_
 refine V (Y ?_)
 obtain⟨a_1,ea_1,h⟩:=Bz h
 refine J E (J E (Z E B3 ?_))
 refine Ay (u:=AB a_1) E E (by rw[ea_1]) ?_
 refine V (Y ?_)
 refine AF h fun y1 hy1 h=>?_
 refine J E (J E (Z E Cw (AQ 0 Z4 (NY hy1) E (U E (V (Y ?_))))))
 obtain⟨x1,ex1,h⟩:=Bz h
 refine J E (J E (Z E B3 ?_))
 refine Ay (u:=AB x1) E E (by rw[ex1]) ?_
 refine V (Y ?_)
 refine AF h fun y2 hy2 h=>?_
 refine J E (J E (Z E Cw (AQ 0 Z4 (NY hy2) E (U E (V (Y ?_))))))
 obtain⟨a_2,ea_2,h⟩:=Bz h
 refine J E (J E (Z E B3 ?_))
 refine Ay (u:=AB a_2) E E (by rw[ea_2]) ?_
 refine V (Y ?_)
 refine AF h fun y3 hy3 h=>?_
 refine J E (J E (Z E Cw (AQ 0 Z4 (NY hy3) E (U E (V (Y ?_))))))
 obtain⟨x2,ex2,h⟩:=Bz h
 refine J E (J E (Z E B3 ?_))
 refine Ay (u:=AB x2) E E (by rw[ex2]) ?_
 refine V (Y ?_)
 refine AF h fun y4 hy4 h=>?_
 refine J E (J E (Z E Cw (AQ 0 Z4 (NY hy4) E (U E (V (Y (J E (J E (J E ?_)))))))))
 refine J E (B5 [_,_,_,_] E yC xn VQ ⟨E,E,E,E,zT⟩ E (A3 0 E E E E hE E E E zT (V (AK ?_))))
 obtain rfl:=zI h
 exact An (GM E (B2 0 (([a_2,y4,x2,y3]).map AB) kU E E E E)) (Ao (M:=[]) ⟨E,E,E⟩ fun _ hw=>Bj.pick (H:=[_]) hw [] 1 E)
def LF(p0:List UInt8)(p1:Int):Option UInt32:=
 (BE p0 p1).bind fun c1=>
 (BE p0 (wI (p1+1))).bind fun c2=>
 (BE p0 (wI (p1+2))).bind fun c3=>
 (BE p0 (wI (p1+3))).bind fun c4=>
 ret (((c1.toUInt32 ||| (shl32 c2.toUInt32 8)) ||| (shl32 c3.toUInt32 16)) ||| (shl32 c4.toUInt32 24)) fun x1=>
 some x1
theorem Vz{p0:List UInt8}{p1:Int}{r:UInt32}(h:LF p0 p1=some r): zC K w0 289 [vS p0,vI p1] [] H (fun u M=>u=AB r∧M=[]):=by
 unfold LF at h
 refine WN.enter Tryz.func289 rfl rfl ?_
 refine Y (U E (V (AH ?_)))
 refine AF h fun c1 hc1 h=>?_
 refine AF h fun c2 hc2 h=>?_
 refine AF h fun c3 hc3 h=>?_
 refine AF h fun c4 hc4 h=>?_
 obtain⟨x1,ex1,h⟩:=Bz h
 refine Ax Cz [] (Pl.of (G4 0 26)) zK (J E (J E (MN hc1 E Cu E E (BO E E (GP Dl CD) (J E (J E (Z E Bc ?_)))))))
 refine MN hc2 E Cu E E (BO E E (GP Dl CD) ?_)
 refine Z E (GT.shl32 (n:=8)) ?_
 refine Z E Fy (J E (J E (Z E Bc (MN hc3 E Cu E E (BO E E (GP Dl CD) ?_)))))
 refine Z E (GT.shl32 (n:=16)) ?_
 refine Z E Fy (J E (J E (Z E Bc (MN hc4 E Cu E E (BO E E (GP Dl CD) ?_)))))
 refine Z E (GT.shl32 (n:=24)) ?_
 refine Z E Fy ?_
 refine Ay (u:=AB x1) E E (by rw[ex1]) ?_
 refine V (AK ?_)
 obtain rfl:=zI h
 exact Ac [] 0 E E E
def Le(l5:List UInt32):Option (List UInt32):=
 some l5
def Hj(p2:List UInt8)(nx_f_ref01_State_l2:List UInt32×Int→Option (List UInt32))(l6:List UInt32)(a2:Int):Option (List UInt32):=
 cond (decide (a2<3))
 (
  (LF p2 (wI (4*a2))).bind fun y2=>
  (C8 4 l6 [y2]).bind fun l7=>
  ret (wI (a2+1)) fun i_2=>
  nx_f_ref01_State_l2 (l7,i_2))
 (
  Le l6)
def Lg(p2:List UInt8):Nat→(List UInt32×Int)→Option (List UInt32):=CI fun nx x=>Hj p2 nx x.1 x.2
def JI(n:Nat)(p1:UInt32)(p2:List UInt8)(l1:List UInt32):Option (List UInt32):=
 (C8 4 l1 [p1]).bind fun l4=>
 Lg p2 n (l4,0)
def Hi(n:Nat)(p0:List UInt8)(p1:UInt32)(p2:List UInt8)(nx_f_ref01_State_l1:List UInt32×Int→Option (List UInt32))(l2:List UInt32)(a1:Int):Option (List UInt32):=
 cond (decide (a1<8))
 (
  (LF p0 (wI (4*a1))).bind fun y1=>
  (C8 4 l2 [y1]).bind fun l3=>
  ret (wI (a1+1)) fun i_1=>
  nx_f_ref01_State_l1 (l3,i_1))
 (
  JI n p1 p2 l2)
def Lf(n:Nat)(p0:List UInt8)(p1:UInt32)(p2:List UInt8):Nat→(List UInt32×Int)→Option (List UInt32):=CI fun nx x=>Hi n p0 p1 p2 nx x.1 x.2
def Ly(n:Nat)(p0:List UInt8)(p1:UInt32)(p2:List UInt8):Option (List UInt32):=
 Lf n p0 p1 p2 n ([1634760805,857760878,2036477234,1797285236],0)
theorem af{n:Nat}{p0 p2:List UInt8}{p1:UInt32}{r:List UInt32}(h:Ly n p0 p1 p2=some r): zC K w0 280 [vS p0,AB p1,vS p2] [] H (fun u M=>∃v0:Value,u=v0∧M=[AD 36 1 v0 BV r]):=by
 unfold Ly at h
 refine WN.enter Tryz.func280 rfl rfl ?_
 refine Y (CE 36 1 BV (U E (V (Y ?_))))
 refine CA [_,_,_,_] E CT Bx H5 ⟨E,E,E,E,zT⟩ E E E zX E E zU fun b1=>?_
 refine B4 BV 1 ([1634760805,857760878,2036477234,1797285236]:List UInt32) E zV E ?_
 refine U E (V ?_)
 refine A8 (α:=List UInt32×Value) (fun x=>JI n p1 p2 x.1=some r) (fun x=>[(1,AB p1),(2,vS p2),(7,x.2)]) (fun x=>AD 36 1 x.2 BV x.1::H) ?_ (fun x D h=>?_)
 refine Y (U E (V (AN ?_)))
 refine SX.heap (SX.mono (BK (α:=Nat×List UInt32×Value×Int) (fun x=>Lf n p0 p1 p2 x.1 (x.2.1,x.2.2.2)=some r) (fun x=>[(0,vS p0),(1,AB p1),(2,vS p2),(7,x.2.2.1),(8,vI x.2.2.2)]) (fun x=>AD 36 1 x.2.2.1 BV x.2.1::H) (fun x=>x.1) (fun x D h=>?_) (n,[1634760805,857760878,2036477234,1797285236],.slice (some ⟨b1,0,none⟩) 4 4,0) h) tL) (BM [0] 2 E E E)
 obtain⟨m1,l2,v2,a1⟩:=x
 dsimp only at h
 rcases m1 with _ | m1
 cases (show(none:Option _)=some r from h)
 replace h:Hi n p0 p1 p2 (Lf n p0 p1 p2 m1) l2 a1=some r:=h
 unfold Hi at h
 try dsimp only
 refine AH (Y (J E (Z E A9 (V ?_))))
 refine AL h E (fun hc1 h=>?_) fun hc1 h=>?_
 refine AI (AJ (AH (AN (AM ?_))))
 refine AF h fun y1 hy1 h=>?_
 refine AF h fun l3 hl3 h=>?_
 refine J E (J E (J E (Z E PI (AQ 0 nP (Vz hy1) E ?_))))
 refine CA [_] E CT Bx H5 ⟨E,zT⟩ E E E zX E E zU fun b2=>?_
 refine B4 BV 1 ([y1]:List UInt32) E zV E ?_
 refine Cr 1 hl3 (sz:=1) (enc:=BV) zV E CT Bx Sb H5 E zD E E E E (B8 (sz:=1) (enc:=BV) 0 zV E) (by simp[BV,Value.oneCell']) zU fun v3=>?_
 refine U E (AZ (Av (AJ (AM ?_))))
 obtain⟨i_1,ei_1,h⟩:=Bz h
 refine J E (Z E Bc ?_)
 refine Ay (u:=vI i_1) E E (by rw[ei_1]) ?_
 refine AZ ?_
 exact A1 (m1,l3,v3,i_1) h (Nat.lt_succ_self _) tL (BM [1] 2 E E E)
 refine A5 (BC (Bb (BB ?_)))
 exact Aq (l2,v2) h tL (BM [0] 1 E E E)
 obtain⟨l1,v1⟩:=x
 dsimp only at h
 unfold JI at h
 try dsimp only
 refine Y ?_
 refine AF h fun l4 hl4 h=>?_
 refine J E (J E ?_)
 refine CA [_] E CT Bx H5 ⟨E,zT⟩ E E E zX E E zU fun b3=>?_
 refine B4 BV 1 ([p1]:List UInt32) E zV E ?_
 refine Cr 1 hl4 (sz:=1) (enc:=BV) zV E CT Bx Sb H5 E zD E E E E (B8 (sz:=1) (enc:=BV) 0 zV E) (by simp[BV,Value.oneCell']) zU fun v4=>?_
 refine U E (V ?_)
 refine A8 (α:=List UInt32×Value) (fun x=>Le x.1=some r) (fun x=>[(7,x.2)]) (fun x=>AD 36 1 x.2 BV x.1::H) ?_ (fun x D h=>?_)
 refine Y (U E (V (AN ?_)))
 refine SX.heap (SX.mono (BK (α:=Nat×List UInt32×Value×Int) (fun x=>Lg p2 x.1 (x.2.1,x.2.2.2)=some r) (fun x=>[(2,vS p2),(7,x.2.2.1),(9,vI x.2.2.2)]) (fun x=>AD 36 1 x.2.2.1 BV x.2.1::H) (fun x=>x.1) (fun x D h=>?_) (n,l4,v4,0) h) tL) (BM [1] 2 E E E)
 obtain⟨m2,l6,v6,a2⟩:=x
 dsimp only at h
 rcases m2 with _ | m2
 cases (show(none:Option _)=some r from h)
 replace h:Hj p2 (Lg p2 m2) l6 a2=some r:=h
 unfold Hj at h
 try dsimp only
 refine AH (Y (J E (Z E A9 (V ?_))))
 refine AL h E (fun hc2 h=>?_) fun hc2 h=>?_
 refine AI (AJ (AH (AN (AM ?_))))
 refine AF h fun y2 hy2 h=>?_
 refine AF h fun l7 hl7 h=>?_
 refine J E (J E (J E (Z E PI (AQ 0 nP (Vz hy2) E ?_))))
 refine CA [_] E CT Bx H5 ⟨E,zT⟩ E E E zX E E zU fun b4=>?_
 refine B4 BV 1 ([y2]:List UInt32) E zV E ?_
 refine Cr 1 hl7 (sz:=1) (enc:=BV) zV E CT Bx Sb H5 E zD E E E E (B8 (sz:=1) (enc:=BV) 0 zV E) (by simp[BV,Value.oneCell']) zU fun v7=>?_
 refine U E (AZ (Av (AJ (AM ?_))))
 obtain⟨i_2,ei_2,h⟩:=Bz h
 refine J E (Z E Bc ?_)
 refine Ay (u:=vI i_2) E E (by rw[ei_2]) ?_
 refine AZ ?_
 exact A1 (m2,l7,v7,i_2) h (Nat.lt_succ_self _) tL (BM [1] 2 E E E)
 refine A5 (BC (Bb (BB ?_)))
 exact Aq (l6,v6) h tL (BM [0] 1 E E E)
 obtain⟨l5,v5⟩:=x
 dsimp only at h
 unfold Le at h
 try dsimp only
 refine Y (J E (U E (V (AK ?_))))
 obtain rfl:=zI h
 exact BH [0] 1 (Cx E E) E E ⟨v5,E,E⟩
def Db(p0:List UInt32)(p1:Int)(p2:Int)(p3:Int)(p4:Int):Option (List UInt32):=
 (BE p0 p1).bind fun x1=>
 (BE p0 p2).bind fun x2=>
 (BE p0 p3).bind fun x3=>
 (BE p0 p4).bind fun x4=>
 (Jy x1 x2 x3 x4).bind fun y1=>
 (BE y1 0).bind fun x5=>
 (BE p0 p1).bind fun x6=>
 (Mx p0 p1 x5).bind fun l1=>
 (BE y1 1).bind fun x7=>
 (BE l1 p2).bind fun x8=>
 (Mx l1 p2 x7).bind fun l2=>
 (BE y1 2).bind fun x9=>
 (BE l2 p3).bind fun x10=>
 (Mx l2 p3 x9).bind fun l3=>
 (BE y1 3).bind fun x11=>
 (BE l3 p4).bind fun x12=>
 (Mx l3 p4 x11).bind fun l4=>
 some l4
theorem KO{Cn:Value}{p0 r:List UInt32}{p1 p2 p3 p4:Int}(h:Db p0 p1 p2 p3 p4=some r): zC K w0 281 [Cn,vI p1,vI p2,vI p3,vI p4] [AD 36 1 Cn BV p0] H (fun u M=>u=.tuple #[]∧M=[AD 36 1 Cn BV r]):=by
 unfold Db at h
 refine WN.enter Tryz.func281 rfl rfl ?_
 refine AH ?_
 refine AF h fun x1 hx1 h=>?_
 refine AF h fun x2 hx2 h=>?_
 refine AF h fun x3 hx3 h=>?_
 refine AF h fun x4 hx4 h=>?_
 refine AF h fun y1 hy1 h=>?_
 refine Ax Cz [0] (Bs (G4 0 16) (.alt 16 (Pl.of [(false,17),(false,18)]) (.cons (false,17) (Pl.of [(false,16),(false,18)])))) zK (J E (J E ?_))
 refine B6 0 hx1 E CT Bx E E E fun g1 m1 cp1 hv1=>?_
 refine Bm E A4 E (Bq (sz:=1) (enc:=BV) 0 0 zV E hv1 hx1 E) ?_
 refine J E (J E ?_)
 refine B6 0 hx2 E CT Bx E E E fun g2 m2 cp2 hv2=>?_
 refine Bm E A4 E (Bq (sz:=1) (enc:=BV) 0 0 zV E hv2 hx2 E) ?_
 refine J E (J E ?_)
 refine B6 0 hx3 E CT Bx E E E fun g3 m3 cp3 hv3=>?_
 refine Bm E A4 E (Bq (sz:=1) (enc:=BV) 0 0 zV E hv3 hx3 E) ?_
 refine J E (J E ?_)
 refine B6 0 hx4 E CT Bx E E E fun g4 m4 cp4 hv4=>?_
 refine Bm E A4 E (Bq (sz:=1) (enc:=BV) 0 0 zV E hv4 hx4 E) ?_
 focus
  refine OJ ?_ ?_
  refine BT (vs:=[_,_,_,_]) (Hin:=[]) (Hr:=_::_) E E ⟨E,E,E,E,zT⟩ nQ E E (Sg hy1) ?_
  rintro _ _ ⟨rfl,hn1,rfl⟩
  refine⟨⟨⟨0,rfl⟩,trivial⟩,?_⟩
  refine Au E VQ (fun _=>⟨⟨1,E⟩,zT⟩) fun b1=>?_
  rotate_left
  refine Au E VQ (fun _=>⟨⟨1,E⟩,zT⟩) fun b1=>?_
  refine BT (vs:=[_,_,_,_]) (Hin:=[]) (Hr:=_::_::_) E E ⟨E,E,E,E,zT⟩ nQ E E (Sg hy1) ?_
  rintro _ _ ⟨rfl,hn1,rfl⟩
  refine⟨⟨⟨1,rfl⟩,trivial⟩,?_⟩
  all_goals
   refine S4 0 E E E E hE ((YL ..).trans hn1) E (Sa (f:=AB) zV y1) ⟨⟨1,E⟩,zT⟩ ?_
   refine V (Y ?_)
   refine AF h fun x5 hx5 h=>?_
   refine AF h fun x6 hx6 h=>?_
   refine AF h fun l1 hl1 h=>?_
   refine J E (J E ?_)
   refine UQ (xs:=y1) hx5 E Yx Bx E E hn1 ?_
   refine Bm E A4 E (Dd 0 E (Hd (Ii hx5).2.2)) ?_
   refine B6 1 hx6 E CT Bx E E E fun g5 m5 cp5 hv5=>?_
   refine II (sz:=1) (enc:=BV) 1 hl1 zV E E E E E hv5 Bx (by simp[Value.oneCell']) zT ?_
   refine V (Y ?_)
   refine AF h fun x7 hx7 h=>?_
   refine AF h fun x8 hx8 h=>?_
   refine AF h fun l2 hl2 h=>?_
   refine J E (J E ?_)
   refine UQ (xs:=y1) hx7 E Yx Bx E E hn1 ?_
   refine Bm E A4 E (Dd 0 E (Hd (Ii hx7).2.2)) ?_
   refine B6 1 hx8 E CT Bx E E E fun g6 m6 cp6 hv6=>?_
   refine II (sz:=1) (enc:=BV) 1 hl2 zV E E E E E hv6 Bx (by simp[Value.oneCell']) zT ?_
   refine V (Y ?_)
   refine AF h fun x9 hx9 h=>?_
   refine AF h fun x10 hx10 h=>?_
   refine AF h fun l3 hl3 h=>?_
   refine J E (J E ?_)
   refine UQ (xs:=y1) hx9 E Yx Bx E E hn1 ?_
   refine Bm E A4 E (Dd 0 E (Hd (Ii hx9).2.2)) ?_
   refine B6 1 hx10 E CT Bx E E E fun g7 m7 cp7 hv7=>?_
   refine II (sz:=1) (enc:=BV) 1 hl3 zV E E E E E hv7 Bx (by simp[Value.oneCell']) zT ?_
   refine V (AM ?_)
   refine AF h fun x11 hx11 h=>?_
   refine AF h fun x12 hx12 h=>?_
   refine AF h fun l4 hl4 h=>?_
   refine J E (J E ?_)
   refine UQ (xs:=y1) hx11 E Yx Bx E E hn1 ?_
   refine Bm E A4 E (Dd 0 E (Hd (Ii hx11).2.2)) ?_
   refine B6 1 hx12 E CT Bx E E E fun g8 m8 cp8 hv8=>?_
   refine II (sz:=1) (enc:=BV) 1 hl4 zV E E E E E hv8 Bx (by simp[Value.oneCell']) zT ?_
   refine AZ ?_
   obtain rfl:=zI h
   exact Da (Ed E) (Ao (M:=[_]) ⟨E,E⟩ fun _ hw=>Bj.pick (H:=[_,_]) hw [1] 2 E)
def Lb(l4:List UInt8):Option (List UInt8×Int):=
 some (l4,0)
def Hh(y1:List UInt32)(l2:List UInt32)(nx_f_ref01_Block_l2:List UInt8×Int→Option (List UInt8×Int))(l5:List UInt8)(a2:Int):Option (List UInt8×Int):=
 cond (decide (a2<16))
 (
  (BE l2 a2).bind fun x2=>
  (BE y1 a2).bind fun x3=>
  ret (x2+x3) fun x4=>
  (C8 1 l5 [x4.toUInt8,(shr32 x4 8).toUInt8,(shr32 x4 16).toUInt8,(shr32 x4 24).toUInt8]).bind fun l6=>
  ret (wI (a2+1)) fun x5=>
  nx_f_ref01_Block_l2 (l6,x5))
 (
  Lb l5)
def Ld(y1:List UInt32)(l2:List UInt32):Nat→(List UInt8×Int)→Option (List UInt8×Int):=CI fun nx x=>Hh y1 l2 nx x.1 x.2
def HN(n:Nat)(y1:List UInt32)(l2:List UInt32):Option (List UInt8×Int):=
 Ld y1 l2 n ([],0)
def Hg(n:Nat)(y1:List UInt32)(nx_f_ref01_Block_l1:List UInt32×Int→Option (List UInt8×Int))(l3:List UInt32)(a1:Int):Option (List UInt8×Int):=
 cond (decide (a1<10))
 (
  (Db l3 0 4 8 12).bind fun y2=>
  (Db y2 1 5 9 13).bind fun y3=>
  (Db y3 2 6 10 14).bind fun y4=>
  (Db y4 3 7 11 15).bind fun y5=>
  (Db y5 0 5 10 15).bind fun y6=>
  (Db y6 1 6 11 12).bind fun y7=>
  (Db y7 2 7 8 13).bind fun y8=>
  (Db y8 3 4 9 14).bind fun y9=>
  ret (wI (a1+1)) fun x1=>
  nx_f_ref01_Block_l1 (y9,x1))
 (
  HN n y1 l3)
def Lc(n:Nat)(y1:List UInt32):Nat→(List UInt32×Int)→Option (List UInt8×Int):=CI fun nx x=>Hg n y1 nx x.1 x.2
def IT(n:Nat)(p0:List UInt8)(p1:UInt32)(p2:List UInt8):Option (List UInt8×Int):=
 cond ((!decide ((p0.length:Int)=32))||(!decide ((p2.length:Int)=12)))
 (
  some ([],2))
 (
  (Ly n p0 p1 p2).bind fun y1=>
  (C8 4 [] y1).bind fun l1=>
  Lc n y1 n (l1,0))
theorem ae{n:Nat}{p0 p2:List UInt8}{p1:UInt32}{r:List UInt8×Int}(h:IT n p0 p1 p2=some r): zC K w0 267 [vS p0,AB p1,vS p2] [] H (fun u M=>u=.tuple #[vS r.1,vI r.2]∧M=[]):=by
 unfold IT at h
 refine WN.enter Tryz.func267 rfl rfl ?_
 refine Y (U E (U E (V (AH (Y (J E (B7 E Cu E (Z E BQ (J E ?_)))))))))
 refine Dw (c := !decide ((p2.length:Int)=12)) 17 4 21 E (fun hb k=>?_) (fun hb k=>?_) ?_
 refine AC E (AC E (AC E (Ag E E E ?_)))
 exact k.mono tL
 refine J E (B7 E Cu E (Z E BQ (Ag E E E ?_)))
 exact k.mono tL
 refine V ?_
 refine AL h E (fun hc1 h=>?_) fun hc1 h=>?_
 refine Y (U E (U E (V (AK (Aa ?_)))))
 obtain rfl:=zI h
 exact Ac [] 0 E E E
 refine AI (AJ (Y ?_))
 refine AF h fun y1 hy1 h=>?_
 refine J E (J E (J E ?_))
 refine BT (vs:=[_,_,_]) (Hin:=[]) (Hr:=_) E E ⟨E,E,E,zT⟩ vQ E E (af hy1) ?_
 rintro v1 _ ⟨_,rfl,rfl⟩
 refine⟨trivial,?_⟩
 refine U E (V (Y ?_))
 refine AF h fun l1 hl1 h=>?_
 refine ew (n:=16) BV E CT Bx Sb H5 E E E E E zU fun v2=>?_
 refine J E ?_
 refine iT 0 1 hl1 (sz:=1) (enc:=BV) zV E CT Bx Sb H5 E zD E E E E (by simp[BV,Value.oneCell']) zU fun v3=>?_
 refine U E (V ?_)
 refine A8 (α:=List UInt32×Value) (fun x=>HN n y1 x.1=some r) (fun x=>[(8,v1),(9,x.2)]) (fun x=>AD 36 1 v1 BV y1::AD 36 1 x.2 BV x.1::H) ?_ (fun x D h=>?_)
 refine Y (U E (V (AN ?_)))
 refine SX.heap (SX.mono (BK (α:=Nat×List UInt32×Value×Int) (fun x=>Lc n y1 x.1 (x.2.1,x.2.2.2)=some r) (fun x=>[(8,v1),(9,x.2.2.1),(10,vI x.2.2.2)]) (fun x=>AD 36 1 v1 BV y1::AD 36 1 x.2.2.1 BV x.2.1::H) (fun x=>x.1) (fun x D h=>?_) (n,l1,v3,0) h) tL) (BM [1,0] 2 E E E)
 obtain⟨m1,l3,v5,a1⟩:=x
 dsimp only at h
 rcases m1 with _ | m1
 cases (show(none:Option _)=some r from h)
 replace h:Hg n y1 (Lc n y1 m1) l3 a1=some r:=h
 unfold Hg at h
 try dsimp only
 refine AH (Y (J E (Z E A9 (V ?_))))
 refine AL h E (fun hc2 h=>?_) fun hc2 h=>?_
 refine AI (AJ (AH (AN (Y ?_))))
 refine AF h fun y2 hy2 h=>?_
 refine J E (SL.pick [1,0] 2 (AQ 1 Rf (KO hy2) E (V (Y ?_))))
 refine AF h fun y3 hy3 h=>?_
 refine J E (AQ 1 Rf (KO hy3) E (V (Y ?_)))
 refine AF h fun y4 hy4 h=>?_
 refine J E (AQ 1 Rf (KO hy4) E (V (Y ?_)))
 refine AF h fun y5 hy5 h=>?_
 refine J E (AQ 1 Rf (KO hy5) E (V (Y ?_)))
 refine AF h fun y6 hy6 h=>?_
 refine J E (AQ 1 Rf (KO hy6) E (V (Y ?_)))
 refine AF h fun y7 hy7 h=>?_
 refine J E (AQ 1 Rf (KO hy7) E (V (Y ?_)))
 refine AF h fun y8 hy8 h=>?_
 refine J E (AQ 1 Rf (KO hy8) E (V (AM ?_)))
 refine AF h fun y9 hy9 h=>?_
 refine J E (AQ 1 Rf (KO hy9) E (AZ (Av (AJ (AM ?_)))))
 obtain⟨x1,ex1,h⟩:=Bz h
 refine J E (Z E Bc ?_)
 refine Ay (u:=vI x1) E E (by rw[ex1]) ?_
 refine AZ ?_
 exact A1 (m1,y9,v5,x1) h (Nat.lt_succ_self _) tL (BM [1,0] 2 E E E)
 refine A5 (BC (Bb (BB ?_)))
 exact Aq (l3,v5) h tL (BM [0,1] 2 E E E)
 obtain⟨l2,v4⟩:=x
 dsimp only at h
 unfold HN at h
 try dsimp only
 refine Y (CE 5 1 Gb (U E (V ?_)))
 refine A8 (α:=List UInt8×Value) (fun x=>Lb x.1=some r) (fun x=>[(11,x.2)]) (fun x=>AD 5 1 x.2 Gb x.1::H) ?_ (fun x D h=>?_)
 refine Y (U E (V (AN ?_)))
 refine SX.heap (SX.mono (BK (α:=Nat×List UInt8×Value×Int) (fun x=>Ld y1 l2 x.1 (x.2.1,x.2.2.2)=some r) (fun x=>[(8,v1),(9,v4),(11,x.2.2.1),(12,vI x.2.2.2)]) (fun x=>AD 36 1 v1 BV y1::AD 36 1 v4 BV l2::AD 5 1 x.2.2.1 Gb x.2.1::H) (fun x=>x.1) (fun x D h=>?_) (n,[],zN,0) h) tL) (BM [1,2,0] 3 E E E)
 obtain⟨m2,l5,v7,a2⟩:=x
 dsimp only at h
 rcases m2 with _ | m2
 cases (show(none:Option _)=some r from h)
 replace h:Hh y1 l2 (Ld y1 l2 m2) l5 a2=some r:=h
 unfold Hh at h
 try dsimp only
 refine AH (Y (J E (Z E A9 (V ?_))))
 refine AL h E (fun hc3 h=>?_) fun hc3 h=>?_
 refine AI (AJ (AH (AN (AH ?_))))
 refine AF h fun x2 hx2 h=>?_
 refine AF h fun x3 hx3 h=>?_
 obtain⟨x4,ex4,h⟩:=Bz h
 refine Ax Cz [0,1] (Pl.of (G4 0 10)) zK (J E (J E ?_))
 refine B6 1 hx2 E CT Bx E E E fun g1 m3 cp1 hv1=>?_
 refine Bm E A4 E (Bq (sz:=1) (enc:=BV) 1 0 zV E hv1 hx2 E) ?_
 refine J E (J E ?_)
 refine B6 0 hx3 E CT Bx E E E fun g2 m4 cp2 hv2=>?_
 refine Bm E A4 E (Bq (sz:=1) (enc:=BV) 0 0 zV E hv2 hx3 E) ?_
 refine Z E B3 ?_
 refine Ay (u:=AB x4) E E (by rw[ex4]) ?_
 refine V (AM ?_)
 refine AF h fun l6 hl6 h=>?_
 refine J E (J E (BO E E (DJ CD Dl) (J E ?_)))
 refine Z E (GT.shr32 (n:=8)) ?_
 refine BO E E (DJ CD Dl) (J E ?_)
 refine Z E (GT.shr32 (n:=16)) ?_
 refine BO E E (DJ CD Dl) (J E ?_)
 refine Z E (GT.shr32 (n:=24)) ?_
 refine BO E E (DJ CD Dl) ?_
 refine CA [_,_,_,_] E Cm LS ML ⟨E,E,E,E,zT⟩ E E E zX E E zU fun b1=>?_
 refine B4 Gb 1 ([x4.toUInt8,(shr32 x4 8).toUInt8,(shr32 x4 16).toUInt8,(shr32 x4 24).toUInt8]:List UInt8) E zV E ?_
 refine Cr 3 hl6 (sz:=1) (enc:=Gb) zV E Cm LS YM ML E zD E E E E (B8 (sz:=1) (enc:=Gb) 0 zV E) (by simp[Gb,Value.oneCell']) zU fun v8=>?_
 refine U E (AZ (Av (AJ (AM ?_))))
 obtain⟨x5,ex5,h⟩:=Bz h
 refine J E (Z E Bc ?_)
 refine Ay (u:=vI x5) E E (by rw[ex5]) ?_
 refine AZ ?_
 exact A1 (m2,l6,v8,x5) h (Nat.lt_succ_self _) tL (BM [1,2,3] 4 E E E)
 refine A5 (BC (Bb (BB ?_)))
 exact Aq (l5,v7) h tL (BM [2] 3 E E E)
 obtain⟨l4,v6⟩:=x
 dsimp only at h
 unfold Lb at h
 try dsimp only
 refine Y (J E (IH 0 E Cm Dl Cu E E (U E (U E (V (AK ?_))))))
 obtain rfl:=zI h
 exact Ac [] 1 E E E
def NZ(l1:List UInt8):Option (List UInt8×Int):=
 some (l1,0)
def I0(p2:List UInt8)(l2:List UInt8)(a2:Int)(nx_f_ref01_Xor_l1:List UInt8×List UInt8×Int→Option (List UInt8×Int))(a3:List UInt8):Option (List UInt8×Int):=
 (BE p2 a2).bind fun c1=>
 (T8 a2 64).bind fun q3=>
 (BE a3 q3).bind fun c2=>
 (C8 1 l2 [c1 ^^^ c2]).bind fun l3=>
 ret (wI (a2+1)) fun i_1=>
 nx_f_ref01_Xor_l1 (l3,a3,i_1)
def JJ(n:Nat)(p0:List UInt8)(p1:List UInt8)(p2:List UInt8)(nx_f_ref01_Xor_l1:List UInt8×List UInt8×Int→Option (List UInt8×Int))(l2:List UInt8)(a1:List UInt8)(a2:Int):Option (List UInt8×Int):=
 cond (decide (a2<(p2.length:Int)))
 (
  (T8 a2 64).bind fun q1=>
  cond (decide (q1=0))
  (
   (WH a2 64).bind fun q2=>
   (IT n p0 (De q2) p1).bind fun y1=>
   I0 p2 l2 a2 nx_f_ref01_Xor_l1 y1.1)
  (
   I0 p2 l2 a2 nx_f_ref01_Xor_l1 a1))
 (
  NZ l2)
def Kt(n:Nat)(p0:List UInt8)(p1:List UInt8)(p2:List UInt8):Nat→(List UInt8×List UInt8×Int)→Option (List UInt8×Int):=CI fun nx x=>JJ n p0 p1 p2 nx x.1 x.2.1 x.2.2
def OZ(n:Nat)(p0:List UInt8)(p1:List UInt8)(p2:List UInt8):Option (List UInt8×Int):=
 cond (((!decide ((p0.length:Int)=32))||(!decide ((p1.length:Int)=12)))||(decide (1048576<(p2.length:Int))))
 (
  some ([],2))
 (
  Kt n p0 p1 p2 n ([],[],0))
theorem fR{n:Nat}{p0 p1 p2:List UInt8}{r:List UInt8×Int}(h:OZ n p0 p1 p2=some r): zC K w0 246 [vS p0,vS p1,vS p2] [] H (fun u M=>u=.tuple #[vS r.1,vI r.2]∧M=[]):=by
 unfold OZ at h
 refine WN.enter Tryz.func246 rfl rfl ?_
 refine Y (U E (U E (V (AH (Y (J E (B7 E Cu E (Z E BQ (J E ?_)))))))))
 refine Dw (c := !decide ((p1.length:Int)=12)) 16 4 20 E (fun hb k=>?_) (fun hb k=>?_) ?_
 refine AC E (AC E (AC E (Ag E E E ?_)))
 exact k.mono tL
 refine J E (B7 E Cu E (Z E BQ (Ag E E E ?_)))
 exact k.mono tL
 refine J E ?_
 refine Dw (c:=decide (1048576<(p2.length:Int))) 21 4 25 E (fun hb k=>?_) (fun hb k=>?_) ?_
 refine AC E (AC E (AC E (Ag E E E ?_)))
 exact k.mono tL
 refine J E (B7 E Cu E (Z E Cj (Ag E E E ?_)))
 exact k.mono tL
 refine V ?_
 refine AL h E (fun hc1 h=>?_) fun hc1 h=>?_
 refine Y (U E (U E (V (AK (Aa ?_)))))
 obtain rfl:=zI h
 exact Ac [] 0 E E E
 refine AI (AJ (Y (CE 5 1 Gb (U E (V (Y (U E (V ?_))))))))
 refine A8 (α:=List UInt8×Value) (fun x=>NZ x.1=some r) (fun x=>[(8,x.2)]) (fun x=>AD 5 1 x.2 Gb x.1::H) ?_ (fun x D h=>?_)
 refine Y (U E (V (AN ?_)))
 refine SX.heap (SX.mono (BK (α:=Nat×List UInt8×Value×List UInt8×Int) (fun x=>Kt n p0 p1 p2 x.1 (x.2.1,x.2.2.2.1,x.2.2.2.2)=some r) (fun x=>[(0,vS p0),(1,vS p1),(2,vS p2),(8,x.2.2.1),(9,vS x.2.2.2.1),(10,vI x.2.2.2.2)]) (fun x=>AD 5 1 x.2.2.1 Gb x.2.1::H) (fun x=>x.1) (fun x D h=>?_) (n,[],zN,[],0) h) tL) (BM [0] 1 E E E)
 obtain⟨m1,l2,v2,a1,a2⟩:=x
 dsimp only at h
 rcases m1 with _ | m1
 cases (show(none:Option _)=some r from h)
 replace h:JJ n p0 p1 p2 (Kt n p0 p1 p2 m1) l2 a1 a2=some r:=h
 unfold JJ at h
 try dsimp only
 refine AH (Y (J E (J E (B7 E Cu E (Z E A9 (V ?_))))))
 refine AL h E (fun hc2 h=>?_) fun hc2 h=>?_
 refine AI (AJ (AH (AN ?_)))
 refine A8 (α:=List UInt8) (fun x=>I0 p2 l2 a2 (Kt n p0 p1 p2 m1) x=some r) (fun x=>[(0,vS p0),(1,vS p1),(2,vS p2),(8,v2),(9,vS x),(10,vI a2)]) (fun x=>AD 5 1 v2 Gb l2::H) ?_ (fun a3 D h=>?_)
 refine Y ?_
 refine AF h fun q1 hq1 h=>?_
 refine J E (Z E (SU hq1) (Z E Ba (V ?_)))
 refine AL h E (fun hc3 h=>?_) fun hc3 h=>?_
 refine Y ?_
 refine AF h fun q2 hq2 h=>?_
 refine AF h fun y1 hy1 h=>?_
 refine J E (J E (Z E (YB hq2) (BO E E (Pw Im CD) (J E (AQ 0 vF (ae hy1) E (J E (Ah E E E ?_)))))))
 refine Ah E E E (U E (U E (V (AM (J E (U E (AZ ?_)))))))
 exact Aq y1.1 h tL (BM [0] 1 E E E)
 refine AI ?_
 exact Aq a1 h tL (BM [0] 1 E E E)
 unfold I0 at h
 try dsimp only
 refine AF h fun c1 hc1 h=>?_
 refine AF h fun q3 hq3 h=>?_
 refine AF h fun c2 hc2 h=>?_
 refine AF h fun l3 hl3 h=>?_
 refine Ax Cz [] (Bs [(true,0),(true,1),(true,2),(true,3),(true,4),(true,5),(true,6),(true,7),(true,8),(false,9)] (.last 10 (Pl.of [(false,11)]))) zK (J E (J E (J E (MN hc1 E Cu E E (J E (J E (Z E (SU hq3) ?_)))))))
 refine MN hc2 E Cu E E (Z E VU ?_)
 refine CA [_] E Cm LS ML ⟨E,zT⟩ E E E zX E E zU fun b1=>?_
 refine B4 Gb 1 ([c1 ^^^ c2]:List UInt8) E zV E ?_
 refine BU ?_
 refine Cr 1 hl3 (sz:=1) (enc:=Gb) zV E Cm LS YM ML E zD E E E E (B8 (sz:=1) (enc:=Gb) 0 zV E) (by simp[Gb,Value.oneCell']) zU fun v3=>?_
 refine U E (AZ (Av (AJ (AM ?_))))
 obtain⟨i_1,ei_1,h⟩:=Bz h
 refine J E (Z E Bc ?_)
 refine Ay (u:=vI i_1) E E (by rw[ei_1]) ?_
 refine AZ ?_
 exact A1 (m1,l3,v3,a3,i_1) h (Nat.lt_succ_self _) tL (BM [1] 2 E E E)
 refine A5 (BC (Bb (BB ?_)))
 exact Aq (l2,v2) h tL (BM [0] 1 E E E)
 obtain⟨l1,v1⟩:=x
 dsimp only at h
 unfold NZ at h
 try dsimp only
 refine Y (J E (IH 0 E Cm Dl Cu E E (U E (U E (V (AK ?_))))))
 obtain rfl:=zI h
 exact Ac [] 1 E E E
end
end Go.Proofs.YtpaohlmgfifebaaGreatDoor
