/- The texts LG24, LG35, LG36, LG37, LG38, YR1, LG25, LG26, LG27, LG39, LG40, LG28, LG41, LG42, LG29, LG30, LG31, LG43, one behind the other: walks of the program, and plain laws of what it computes. Conditions: as each theorem says. -/
import Derived.Test.YtkibffdipniemaaGreatDoorMJ1
import Derived.Test.YtkibffdipniemaaGreatDoorMJ2
import Derived.Test.YtkibffdipniemaaGreatDoorMJ3
import Derived.Test.YtkibffdipniemaaGreatDoorMJ4
import Derived.Test.YtkibffdipniemaaGreatDoorMJ5
import Derived.Test.YtkibffdipniemaaGreatDoorMJ6

set_option linter.unusedVariables false
set_option linter.unusedSimpArgs false
set_option maxHeartbeats 4000000
set_option maxRecDepth 100000
namespace Go.Proofs.YtkibffdipniemaaGreatDoor
open Go
section
theorem Uh{x:UInt64}{n:Nat}(hm:8<n):C5 n x 1=some (BA x 1):=iH x 1 zO hm
theorem P1{x:UInt64}{n:Nat}(hm:8<n):C5 n x 4=some (BA x 4):=iH x 4 zO hm
theorem mG{x:UInt64}{n:Nat}(hm:8<n):C5 n x 8=some (BA x 8):=iH x 8 zO hm
theorem IS{r:Ac}(h:r.tag.length=32):CS r=BA r.page.toUInt64 4++r.tag:=by
 unfold CS
 rw[h]
 simp
theorem aU{n:Nat}(x:BR)(hn:8<n)(hb:x.kids.length≤4):∀(T S:List Ac) (s:List UInt8),x.kids=S++T→(∀r∈T,r.tag.length=32)→s.length+36*T.length≤100000→∀m,T.length<m→
  Es n x m (s,(S.length:Int))=some (s++(T.map CS).flatten,0)
 | _,_,_,_,_,_,0,h=>absurd h (Nat.not_lt_zero _)
 | [],S,s,hS,_,_,m+1,_=>by
  have hl:=congrArg List.length hS
  simp only[List.append_nil]at hl
  show EE n x (Es n x m) _ _=_
  unfold EE I7
  dsimp only
  rw[zf zO,BD]
  simp
 | r::T,S,s,hS,ht,hl,m+1,hm=>by
  have hlen:=congrArg List.length hS
  simp only[List.length_append,List.length_cons]at hlen hl hm
  have n1:Ao x.kids (S.length:Int)=some r:=by
   rw[EF rfl,hS]
   simp
  have h32:=ht r zS
  have ih:=aU x hn hb T (S++[r]) (s++CS r) (by rw[hS];simp) (fun q hq=>ht q (by simp[hq])) (by rw[IS h32];simp[Ah,h32];omega) m zO
  show EE n x (Es n x m) _ _=_
  unfold EE
  dsimp only
  rw[zt zO,Be,n1,U,P1 hn,U,Cn (by simp[Ah];omega),U,U,Cn (by simp[Ah,h32];omega),U,A9,A8 zO zO]
  rw[show((S++[r]).length:Int)=(S.length:Int)+1 by simp only[List.length_append,List.length_singleton];omega]at ih
  rw[show s++BA r.page.toUInt64 4++r.tag=s++CS r by rw[IS h32,List.append_assoc],ih]
  simp
theorem aJ{n:Nat}(x:BR)(hn:8<n)(hb:x.rows.length≤4):∀(T S:List AP) (s:List UInt8),x.rows=S++T→(∀r∈T,r.txt.length≤16)→s.length+33*T.length≤100000→∀m,T.length<m→
  Er n x m (s,(S.length:Int))=some (s++(T.map CD).flatten,0)
 | _,_,_,_,_,_,0,h=>absurd h (Nat.not_lt_zero _)
 | [],S,s,hS,_,_,m+1,_=>by
  have hl:=congrArg List.length hS
  simp only[List.append_nil]at hl
  show D7 n x (Er n x m) _ _=_
  unfold D7 JQ
  dsimp only
  rw[zf zO,BD]
  simp
 | r::T,S,s,hS,ht,hl,m+1,hm=>by
  have hlen:=congrArg List.length hS
  simp only[List.length_append,List.length_cons]at hlen hl hm
  have n1:Ao x.rows (S.length:Int)=some r:=by
   rw[EF rfl,hS]
   simp
  have h16:=ht r zS
  have ih:=aJ x hn hb T (S++[r]) (s++CD r) (by rw[hS];simp) (fun q hq=>ht q (by simp[hq])) (by unfold CD;simp[Ah];omega) m zO
  show D7 n x (Er n x m) _ _=_
  unfold D7
  dsimp only
  rw[zt zO,Be,n1,U,mG hn,U,Cn (by simp[Ah];omega),U,P1 hn,U,Cn (by simp[Ah];omega),U,P1 hn,U,Cn (by simp[Ah];omega),U,
   Uh hn,U,Cn (by simp[Ah];omega),U,Cn (by simp[Ah];omega),U,A9,A8 zO zO]
  rw[show((S++[r]).length:Int)=(S.length:Int)+1 by simp only[List.length_append,List.length_singleton];omega]at ih
  rw[show s++BA r.id 8++BA r.x.toUInt64 4++BA r.y.toUInt64 4++BA (BW (r.txt.length:Int)) 1++r.txt=s++CD r by unfold CD;simp,ih]
  simp
theorem de{n:Nat}{x:BR}(hn:10≤n)(h:CL x=true):Ej n x=some (Cj x,0):=by
 by_cases hk:x.kind=1
 obtain⟨h1,h2,h3,h4,h5,h6,h7⟩:=EL h hk
 unfold Ej
 rw[Nm x zO (by rw[h4];simp;omega) zO (by rw[h4];simp),U,h,Bool.not_true,BD,show decide (x.kind=2)=false by rw[hk];rfl,BD]
 have run:∀tag:List UInt8,tag.length=32→tag=x.ntag++List.replicate (32-x.ntag.length) 0→Fv n x tag=some (Cj x,0):=by
  intro tag ht he
  unfold Fv
  rw[Uh zO,U,Cn (by simp[Ah]),U,P1 zO,U,Cn (by simp[Ah]),U,Cn (by simp[Ah,ht]),U]
  have:=aJ (n:=n) x zO zO x.rows [] ([1]++BA (BW (x.rows.length:Int)) 1++BA x.npage.toUInt64 4++tag) rfl (Kb h6) (by simp[Ah,ht];omega) n zO
  refine(show Er n x n _=_ from this).trans ?_
  unfold Cj CS
  rw[show decide (x.kind=2)=false by rw[hk];rfl,BD,hk,he]
  rw[show BA (BW 1) 1=[1]from rfl]
  simp
 unfold JP
 rcases h7 with h7 | h7
 rw[h7.2,show decide (([]:List UInt8)=[])=true from rfl,Be]
 have:UV 1 32 (0:UInt8)=some (List.replicate 32 0):=if_pos ⟨by omega,by decide,by omega⟩
 rw[this,U]
 exact run _ zS (by rw[h7.2];rfl)
 have h32:=(Du h7).1
 simp only at h32
 rw[show decide (x.ntag=[])=false from zf (fun e=>by rw[e]at h32;simp at h32),BD]
 exact run _ h32 (by rw[h32];simp)
 obtain⟨hk2,h1,h2,h3,h4,h5,h6,h7,h8⟩:=Dr h hk
 unfold Ej
 rw[Nm x (by rw[h2];simp;omega) zO (by rw[h2];simp) zO,U,h,Bool.not_true,BD,show decide (x.kind=2)=true by rw[hk2];rfl,Be,
  Uh zO,U,Cn (by simp[Ah]),U,Uh zO,U,Cn (by simp[Ah]),U,P1 zO,U,Cn (by simp[Ah]),U,P1 zO,U,Cn (by simp[Ah]),U]
 have:=aU (n:=n) x zO zO x.kids [] ([2]++BA (BW (x.kids.length:Int)) 1++BA (BW x.lev) 1++BA x.cx.toUInt64 4++BA x.cy.toUInt64 4) rfl (fun r hr=>(Du (h1 r hr)).1) (by simp[Ah];omega) n zO
 refine(show Es n x n _=_ from this).trans ?_
 unfold Cj
 rw[show decide (x.kind=2)=true by rw[hk2];rfl,Be,hk2,show BA (BW 2) 1=[2]from rfl]
 simp
theorem dm{n:Nat}{x:BR}(hr:x.rows.length<n)(hk:x.kids.length<n)(hb:x.rows.length≤1048576)(hc:x.kids.length≤1048576)(h:CL x=false):Ej n x=some ([],90):=by
 unfold Ej
 rw[Nm x hr hk hb hc,U,h]
 rfl
theorem aA{n:Nat}{x:BR}(hn:10≤n)(hr:x.rows.length<n)(hk:x.kids.length<n)(hb:x.rows.length≤1048576)(hc:x.kids.length≤1048576):Ej n x=Eh n x:=by
 cases h:CL x with
 | true=>rw[de hn h,Qm hn h]
 | false=>rw[dm hr hk hb hc h,Xj hr hk zO zO h]
end

section
theorem RE{b:List UInt8}{w:Nat}(h:b.length=w)(hw:w≤8):BA (B6 b w) w=b:=by
 rw[SE b w hw zO,←h,List.take_length]
theorem aM{b:List UInt8}{w:Nat}(h:b.length=w)(hw:w≤8):(B6 b w).toNat<2^(8*w):=by
 have h1:=NR (B6 b w) w [] hw w (Nat.le_refl _)
 rw[List.append_nil,RE h hw]at h1
 rw[h1]
 exact Nat.mod_lt _ (Nat.two_pow_pos _)
def Uw(q q':Co)(b:List UInt8):Prop:=q'.short=false→q.short=false∧q.s=b++q'.s
theorem Uw.trans{q q' q'':Co}{a b:List UInt8}(h:Uw q q' a)(h':Uw q' q'' b):Uw q q'' (a++b):=fun h0=>by
 obtain⟨h1,h2⟩:=h' h0
 obtain⟨h3,h4⟩:=h h1
 exact⟨h3,by rw[h4,h2,List.append_assoc]⟩
theorem VQ(q:Co){k:Nat}{K:Int}(hK:K=(k:Int))(hk:k≤8192):∃b q',DV q K=some (b,q')∧b.length=k∧Uw q q' b:=by
 subst hK
 obtain⟨s,sh⟩:=q
 unfold DV
 by_cases h:s.length<k
 rw[zt (by simp only;omega),Be,Yg k rfl hk,U]
 exact⟨_,_,rfl,by simp,fun h=>by simp at h⟩
 rw[zf (by simp only;omega),BD]
 dsimp only
 rw[Dz (l:=s) (i:=0) (p:=0) (q:=k) rfl rfl zO zO,U,Dz (l:=s) (p:=k) (q:=s.length) rfl rfl zO zO,U]
 refine⟨_,_,rfl,by simp;omega,fun h'=>⟨h',?_⟩⟩
 simp only[List.drop_zero,Nat.sub_zero]
 rw[List.take_of_length_le (i:=s.length-k) zS,List.take_append_drop]
theorem LM(q:Co){w:Nat}{K:Int}(hK:K=(w:Int))(hw:w≤8):∃v q',CA q K=some (v,q')∧v.toNat<2^(8*w)∧Uw q q' (BA v w):=by
 obtain⟨b,q',h1,h2,h3⟩:=VQ q hK zO
 unfold CA
 rw[h1,U]
 simp only
 rw[if_pos zO,h2]
 exact⟨_,_,rfl,aM h2 hw,by rw[RE h2 hw];exact h3⟩
theorem OU{v:UInt64}(h:v.toNat<2^(8*4)):v.toUInt32.toUInt64=v:=by
 apply UInt64.toNat_inj.1
 simp
 omega
theorem eK(q:Co):∃r q',EG q=some (r,q')∧r.tag.length=32∧Uw q q' (CS r):=by
 obtain⟨v,q1,h1,h2,h3⟩:=LM q (w:=4) (K:=4) rfl zO
 obtain⟨b,q2,g1,g2,g3⟩:=VQ q1 (k:=32) (K:=32) rfl zO
 unfold EG
 rw[h1,U,g1,U]
 refine⟨_,_,rfl,g2,?_⟩
 have:=h3.trans g3
 rw[IS g2]
 simpa only[OU h2]using this
theorem MD{v:UInt64}(h:v.toNat<256):BW ((v.toNat:Nat):Int)=v:=by
 apply UInt64.toNat_inj.1
 rw[Cu zO]
theorem ng(q:Co):∃r q',LL q=some (r,q')∧Uw q q' (CD r):=by
 obtain⟨a,q1,h1,h2,h3⟩:=LM q (w:=8) (K:=8) rfl zO
 obtain⟨b,q2,g1,g2,g3⟩:=LM q1 (w:=4) (K:=4) rfl zO
 obtain⟨c,q3,i1,i2,i3⟩:=LM q2 (w:=4) (K:=4) rfl zO
 obtain⟨d,q4,j1,j2,j3⟩:=LM q3 (w:=1) (K:=1) rfl zO
 have hd:d.toNat<256:=j2
 obtain⟨e,q5,k1,k2,k3⟩:=VQ q4 (k:=d.toNat) (K:=wI (d.toNat:Int)) (A8 zO zO) zO
 unfold LL
 rw[h1,U,g1,U,i1,U,j1,U,k1,U]
 refine⟨_,_,rfl,?_⟩
 have:=h3.trans (g3.trans (i3.trans (j3.trans k3)))
 simpa only[CD,OU g2,OU i2,k2,MD hd]using this
theorem an{y1:UInt64×Co}{y9 y10:UInt32}{y11:Int}{l3:List Ac}{y16:Ac×Co}{y17:List UInt8}(N:Nat):∀(k:Nat) (S:List AP) (q:Co) (m:Nat),S.length+k=5→k<m→S.length≤4→
  ∃S' q',Jq y1 y9 y10 y11 l3 y16 y17 (Hu (N:Int)) (N9 (N:Int)) m (S.length,q) (q,S)=some (⟨wI (y1.1.toNat:Int),y9,y10,y11,S',l3,y16.1.page,y17⟩,q')∧S'.length≤5∧
   (S'.length≤4→q'.short=false→∃T,S'=S++T∧S'.length=max N S.length∧Uw q q' (T.map CD).flatten)
 | 0,S,q,m,hk,_,hl=>by omega
 | k+1,S,q,m,hk,hm,hl=>by
  obtain⟨m,rfl⟩:∃j,m=j+1:=⟨m-1,by omega⟩
  unfold Jq
  rw[Ll]
  by_cases hN:N≤S.length
  rw[show N9 (N:Int) (S.length,q)=true by simp only[N9,decide_eq_true_eq];omega,Be]
  unfold P3 M7
  exact⟨S,q,rfl,by omega,fun _ h=>⟨[],by simp,by omega,fun h=>⟨h,rfl⟩⟩⟩
  rw[show N9 (N:Int) (S.length,q)=false by simp only[N9,decide_eq_false_iff_not];omega,BD]
  obtain⟨r,q1,h1,h2⟩:=ng q
  have hst:Hu (N:Int) (S.length,q)=some (r,(S.length+1,q1)):=by
   unfold Hu
   simp only
   rw[if_pos zO,h1,U]
  rw[hst,U]
  simp only[MN]
  rw[CB zQ zQ,U]
  cases hb:q1.short||decide (4<((S++[r]).length:Int))with
  | true=>
   rw[Be]
   unfold Sr M7
   refine⟨_,_,rfl,by simp;omega,fun h4 hs=>?_⟩
   rw[hs,Bool.false_or,decide_eq_true_eq]at hb
   omega
  | false=>
   rw[BD]
   rw[Bool.or_eq_false_iff,decide_eq_false_iff_not]at hb
   have hl':(S++[r]).length=S.length+1:=by simp
   obtain⟨S',q',g1,g2,g3⟩:=an (y1:=y1) (y9:=y9) (y10:=y10) (y11:=y11) (l3:=l3) (y16:=y16) (y17:=y17) N k (S++[r]) q1 m zO zO zO
   rw[hl']at g1
   refine⟨S',q',g1,g2,fun h4 hs=>?_⟩
   obtain⟨T,e1,e2,e3⟩:=g3 h4 hs
   refine⟨r::T,by rw[e1];simp,by rw[e2,hl'];omega,?_⟩
   simpa using h2.trans e3
theorem aV{y1:UInt64×Co}{y12 y13 y14:UInt64×Co}(N:Nat):∀(k:Nat) (S:List Ac) (q:Co) (m:Nat),S.length+k=min N 5→k<m→
  ∃S' q',K2 y1 (N:Int) y12 y13 y14 m (q,S,(S.length:Int))=some (⟨wI (y1.1.toNat:Int),y13.1.toUInt32,y14.1.toUInt32,wI (y12.1.toNat:Int),[],S',0,[]⟩,q')∧S'.length=min N 5∧
   ∃T,S'=S++T∧Uw q q' (T.map CS).flatten
 | 0,S,q,m,hk,hm=>by
  obtain⟨m,rfl⟩:∃j,m=j+1:=⟨m-1,by omega⟩
  show ∃S' q',GA _ _ _ _ _ (K2 _ _ _ _ _ m) _ _ _=_∧_
  unfold GA
  dsimp only
  rw[zf zO,BD]
  unfold QU
  exact⟨S,q,rfl,by omega,[],by simp,fun h=>⟨h,rfl⟩⟩
 | k+1,S,q,m,hk,hm=>by
  obtain⟨m,rfl⟩:∃j,m=j+1:=⟨m-1,by omega⟩
  show ∃S' q',GA _ _ _ _ _ (K2 _ _ _ _ _ m) _ _ _=_∧_
  unfold GA
  dsimp only
  obtain⟨r,q1,h1,-,h2⟩:=eK q
  have hl':(S++[r]).length=S.length+1:=by simp
  rw[zt zO,Be,h1,U,CB zQ zQ,U,A8 zO zO]
  obtain⟨S',q',g1,g2,T,g3,g4⟩:=aV (y1:=y1) (y12:=y12) (y13:=y13) (y14:=y14) N k (S++[r]) q1 m zO zO
  rw[hl']at g1
  refine⟨S',q',by simpa using g1,g2,r::T,by rw[g3];simp,?_⟩
  simpa using h2.trans g4
theorem kK{n:Nat}(hn:10≤n)(s:List UInt8):∃x q',T2 n ⟨s,false⟩=some (x,q')∧x.rows.length≤5∧x.kids.length≤5∧(q'.short=false→q'.s=[]→CL x=true→s=Cj x):=by
 obtain⟨a,q1,h1,h2,h3⟩:=LM ⟨s,false⟩ (w:=1) (K:=1) rfl zO
 obtain⟨b,q2,g1,g2,g3⟩:=LM q1 (w:=1) (K:=1) rfl zO
 have ha:a.toNat<256:=h2
 have hb:b.toNat<256:=g2
 have ea:wI (a.toNat:Int)=(a.toNat:Int):=A8 zO zO
 unfold T2
 rw[h1,U,g1,U,A9]
 simp only
 rw[ea,A8 (x:=(b.toNat:Int)) zO zO]
 by_cases hk:(a.toNat:Int)=2
 rw[zt hk,Be]
 obtain⟨c,q3,i1,i2,i3⟩:=LM q2 (w:=1) (K:=1) rfl zO
 obtain⟨d,q4,j1,j2,j3⟩:=LM q3 (w:=4) (K:=4) rfl zO
 obtain⟨e,q5,k1,k2,k3⟩:=LM q4 (w:=4) (K:=4) rfl zO
 rw[i1,U,j1,U,k1,U]
 have hc:c.toNat<256:=i2
 obtain⟨S',q',l1,l2,T,l3,l4⟩:=aV (y1:=(a,q1)) (y12:=(c,q3)) (y13:=(d,q4)) (y14:=(e,q5)) b.toNat (min b.toNat 5) [] q5 n zS zO
 rw[List.nil_append]at l3
 subst l3
 refine⟨_,_,l1,by simp,by simp only;omega,fun hs he hp=>?_⟩
 simp only[ea,A8 (x:=(c.toNat:Int)) zO zO]at hp ⊢
 obtain⟨-,-,-,-,-,-,hle,-⟩:=Dr hp (by simp only;omega)
 simp only at hle
 have ht:=(h3.trans (g3.trans (i3.trans (j3.trans (k3.trans l4))))) hs
 rw[he,List.append_nil]at ht
 unfold Cj
 simp only
 rw[zt hk,Be,OU j2,OU k2,MD ha,MD hc,show(S'.length:Int)=((b.toNat:Nat):Int) by omega,MD hb]
 exact ht.2
 rw[zf hk,BD]
 unfold QG
 obtain⟨r,q3,i1,i2,i3⟩:=eK q2
 rw[i1,U,iv,U]
 have key:∀tg:List UInt8,CS ⟨r.page,tg⟩=CS r→∃x q',MA n (a,q1) (b.toNat:Int) 0 0 0 [] (r,q3) tg=some (x,q')∧x.rows.length≤5∧x.kids.length≤5∧(q'.short=false→q'.s=[]→CL x=true→s=Cj x):=by
  intro tg htg
  unfold MA Se
  rw[if_pos zO,U]
  obtain⟨S',q',l1,l2,l3⟩:=an (y1:=(a,q1)) (y9:=0) (y10:=0) (y11:=0) (l3:=[]) (y16:=(r,q3)) (y17:=tg) b.toNat 5 [] q3 n rfl zO zS
  refine⟨_,_,l1,l2,by simp,fun hs he hp=>?_⟩
  simp only[ea]at hp ⊢
  have hk1:(a.toNat:Int)=1:=by
   by_cases h:(a.toNat:Int)=1
   exact h
   exact absurd (Dr hp h).1 hk
  have hle:=(EL hp hk1).2.2.2.2.1
  simp only at hle
  obtain⟨T,e1,e2,e3⟩:=l3 hle hs
  rw[List.nil_append]at e1
  subst e1
  have ht:=(h3.trans (g3.trans (i3.trans e3))) hs
  rw[he,List.append_nil]at ht
  unfold Cj
  simp only
  rw[zf hk,BD,MD ha,show(S'.length:Int)=((b.toNat:Nat):Int) by simp at e2;omega,MD hb,htg]
  exact ht.2
 cases hc:decide (r.page=0)&&(decide (r.tag=List.replicate 32 0)&&true)with
 | true=>
  rw[Be]
  simp only[Bool.and_true,Bool.and_eq_true,decide_eq_true_eq]at hc
  refine key [] ?_
  unfold CS
  rw[hc.2]
  rfl
 | false=>
  rw[BD]
  exact key r.tag rfl
def Rt:BR:=⟨0,0,0,0,[],[],0,[]⟩
theorem WO{n:Nat}(hn:10≤n)(s:List UInt8):(∃x,CL x=true∧s=Cj x∧Eb n s=some (x,0))∨((∀x,CL x=true→s≠Cj x)∧Eb n s=some (Rt,90)):=by
 obtain⟨x,q',h1,h2,h3,h4⟩:=kK hn s
 have hd:Eb n s=cond ((q'.short || !decide (q'.s=[])) || !CL x) (some (Rt,90)) (some (x,0)):=by
  unfold Eb
  rw[h1,U,LW x zO zO zO zO,U,M6,U]
  rfl
 cases hc:(q'.short || !decide (q'.s=[])) || !CL x with
 | false=>
  rw[hc,BD]at hd
  simp only[Bool.or_eq_false_iff,Bool.not_eq_false',decide_eq_true_eq]at hc
  exact .inl ⟨x,hc.2,h4 hc.1.1 hc.1.2 hc.2,hd⟩
 | true=>
  rw[hc,Be]at hd
  refine .inr ⟨fun z hz e=>?_,hd⟩
  rw[e,Rl hn hz]at hd
  have h:(0:Int)=90:=congrArg (·.2) (zI hd)
  cases h
end

section
theorem X6{n:Nat}(hn:8<n){s:List UInt8}(hs:s.length≤8):El n s=some (B6 s s.length):=
 (show El n s=Fz n s from rfl).trans (oM s hs hn)
theorem MV{v:UInt64}{w:Nat}(hw:w≤8)(hv:v.toNat<2^(8*w)):B6 (BA v w) w=v:=by
 apply UInt64.toNat_inj.1
 have:=NR v w [] hw w (Nat.le_refl _)
 simp only[List.append_nil]at this
 rw[this,Nat.mod_eq_of_lt hv]
theorem T7{n:Nat}(hn:8<n){v:UInt64}{w:Nat}(hw:w≤8)(hv:v.toNat<2^(8*w)):El n (BA v w)=some v:=by
 rw[X6 hn (by rw[Ah];exact hw),Ah,MV hw hv]
theorem NV{s a b c:List UInt8}{i j:Int}(h:s=a++(b++c))(hi:i=(a.length:Int))(hj:j=((a.length+b.length:Nat):Int)):Cz s i j=some b:=by
 rw[Dz (p:=a.length) (q:=a.length+b.length) hi hj zO (by rw[h];simp),h]
 simp
theorem Ni{k:Nat}(h:k<256):∃c:UInt8,BA (BW (k:Int)) 1=[c]∧c.toNat=k:=by
 obtain⟨c,hc⟩:∃c,BA (BW (k:Int)) 1=[c]:=List.length_eq_one_iff.1 (Ah _ _)
 refine⟨c,hc,?_⟩
 have h1:=MV (v:=BW (k:Int)) (w:=1) zO (by rw[Cu zO];omega)
 have h2:=NK [c] 1 zO zS
 rw[←hc,h1,Cu zO,hc]at h2
 simp[N0]at h2
 omega
theorem PT(c:UInt8):BA (BW (c.toNat:Int)) 1=[c]:=by
 have:=c.toNat_lt
 obtain⟨d,h1,h2⟩:=Ni (k:=c.toNat) zO
 rw[h1,UInt8.toNat_inj.1 h2]
theorem FO{b:List UInt8}{k:Nat}(h:k≤b.length):∃u v,b=u++v∧u.length=k:=⟨b.take k,b.drop k,(List.take_append_drop k b).symm,by simp;omega⟩
theorem QY{u:List UInt8}(h:u.length=4):BA (B6 u 4).toUInt32.toUInt64 4=u:=by
 rw[OU (aM h zO),RE h zO]
theorem iw{b:List UInt8}(h:17≤b.length){c:UInt8}(hc:b[16]? = some c)(hl:17+c.toNat≤b.length):∃r rest,b=CD r++rest∧r.txt.length=c.toNat:=by
 obtain⟨u1,b1,rfl,l1⟩:=FO (show 8≤b.length by omega)
 obtain⟨u2,b2,rfl,l2⟩:=FO (show 4≤b1.length by simp at h;omega)
 obtain⟨u3,b3,rfl,l3⟩:=FO (show 4≤b2.length by simp at h;omega)
 obtain⟨u4,b4,rfl,l4⟩:=FO (show 1≤b3.length by simp at h;omega)
 obtain⟨u5,b5,rfl,l5⟩:=FO (show c.toNat≤b4.length by simp at hl;omega)
 obtain⟨d,rfl⟩:=List.length_eq_one_iff.1 l4
 have hd:d=c:=by
  have e:(u1++(u2++(u3++([d]++(u5++b5)))))[16]? = some d:=by
   rw[show u1++(u2++(u3++([d]++(u5++b5))))=(u1++u2++u3)++(d::(u5++b5)) by simp,List.getElem?_append_right zQ]
   simp[l1,l2,l3]
  exact zI (e.symm.trans hc)
 subst hd
 refine⟨⟨B6 u1 8,(B6 u2 4).toUInt32,(B6 u3 4).toUInt32,u5⟩,b5,?_,l5⟩
 unfold CD
 simp only
 rw[RE l1 zO,QY l2,QY l3,l5,PT]
 simp
theorem jD{r:AP}(h:r.txt.length≤255)(rest:List UInt8):17+r.txt.length≤(CD r++rest).length∧∃c:UInt8,(CD r++rest)[16]? = some c∧c.toNat=r.txt.length:=by
 obtain⟨c,h1,h2⟩:=Ni (k:=r.txt.length) zO
 refine⟨by rw[List.length_append,OH];omega,c,?_,h2⟩
 unfold CD
 rw[h1,show(BA r.id 8++(BA r.x.toUInt64 4++(BA r.y.toUInt64 4++([c]++r.txt))))++rest=(BA r.id 8++BA r.x.toUInt64 4++BA r.y.toUInt64 4)++(c::(r.txt++rest)) by simp,
  List.getElem?_append_right (by simp[Ah])]
 simp[Ah]
theorem YG{n:Nat}(hn:8<n){s:List UInt8}(hs:s.length≤1048576){c:UInt8}(hc:Ao s 1=some c){y1:UInt64}{y2:List UInt8}:∀(k:Nat) (S:List AP) (pre b:List UInt8) (m:Nat),s=pre++b→S.length+k=c.toNat→k<m→
  (∃(T:List AP) (rest:List UInt8),b=(T.map CD).flatten++rest∧T.length=k∧(∀r∈T,r.txt.length≤255)∧
   E2 n s y1 y2 m (0,0,0,0,[],[],0,[],S,(pre.length:Int),(S.length:Int))=some (⟨1,0,0,0,S++T,[],y1.toUInt32,y2⟩,decide (rest=[])))∨
  ((∀(T:List AP) (rest:List UInt8),T.length=k→(∀r∈T,r.txt.length≤255)→b≠(T.map CD).flatten++rest)∧
   ∃R:List AP,R.length≤255∧E2 n s y1 y2 m (0,0,0,0,[],[],0,[],S,(pre.length:Int),(S.length:Int))=some (⟨1,0,0,0,R,[],y1.toUInt32,y2⟩,false))
 | 0,S,pre,b,m,hb,hk,hm=>by
  obtain⟨m,rfl⟩:∃j,m=j+1:=⟨m-1,by omega⟩
  refine .inl ⟨[],b,by simp,rfl,by simp,?_⟩
  show Ev n s y1 y2 (E2 n s y1 y2 m) 0 0 0 0 [] [] 0 [] S _ _=_
  unfold Ev
  dsimp only
  rw[hc,U,zf zO,BD]
  unfold K5
  rw[A9,List.append_nil]
  have:decide ((pre.length:Int)=(s.length:Int))=decide (b=[]):=by
   rw[decide_eq_decide,hb,List.length_append,←List.length_eq_zero_iff]
   omega
  rw[this]
 | k+1,S,pre,b,m,hb,hk,hm=>by
  obtain⟨m,rfl⟩:∃j,m=j+1:=⟨m-1,by omega⟩
  have hc255:=c.toNat_lt
  have hsl:s.length=pre.length+b.length:=by rw[hb];simp
  have hstep:E2 n s y1 y2 (m+1) (0,0,0,0,[],[],0,[],S,(pre.length:Int),(S.length:Int))=Ev n s y1 y2 (E2 n s y1 y2 m) 0 0 0 0 [] [] 0 [] S (pre.length:Int) (S.length:Int):=rfl
  rw[hstep]
  unfold Ev
  rw[hc,U,zt zO,Be,A8 (x:=(pre.length:Int)+17) zO zO]
  by_cases h17:b.length<17
  rw[zt zO,Be]
  refine .inr ⟨fun T rest hT ht e=>?_,S,by omega,rfl⟩
  obtain _ | ⟨r,T⟩:=T
  cases hT
  have:=(jD (ht r zS) ((T.map CD).flatten++rest)).1
  rw[List.map_cons,List.flatten_cons,List.append_assoc]at e
  rw[←e]at this
  omega
  rw[zf zO,BD,A8 (x:=(pre.length:Int)+16) zO zO]
  obtain⟨d,hd⟩:∃d,b[16]? = some d:=⟨_,List.getElem?_eq_getElem zO⟩
  have hd':Ao s ((pre.length:Int)+16)=some d:=by
   rw[show(pre.length:Int)+16=((pre.length+16:Nat):Int) by omega,Ft,hb,List.getElem?_append_right zO,show pre.length+16-pre.length=16 by omega,hd]
  have hd255:=d.toNat_lt
  rw[hd',U,A8 (x:=(pre.length:Int)+17+(d.toNat:Int)) zO zO]
  by_cases hl:b.length<17+d.toNat
  rw[zt zO,Be]
  refine .inr ⟨fun T rest hT ht e=>?_,S,by omega,rfl⟩
  obtain _ | ⟨r,T⟩:=T
  cases hT
  obtain⟨g1,c',g2,g3⟩:=jD (ht r zS) ((T.map CD).flatten++rest)
  rw[List.map_cons,List.flatten_cons,List.append_assoc]at e
  rw[←e]at g1 g2
  rw[hd]at g2
  obtain rfl:=zI g2
  omega
  rw[zf zO,BD]
  obtain⟨r,rest,hr,hrl⟩:=iw zO hd zO
  obtain⟨c',hc1,hc2⟩:=Ni (k:=r.txt.length) zO
  have hs':s=pre++((BA r.id 8++(BA r.x.toUInt64 4++(BA r.y.toUInt64 4++([c']++r.txt))))++rest):=by rw[hb,hr];unfold CD;rw[hc1]
  rw[A8 (x:=(pre.length:Int)+8) zO zO,A8 (x:=(pre.length:Int)+12) zO zO,
   NV (a:=pre) (b:=BA r.id 8) (c:=BA r.x.toUInt64 4++(BA r.y.toUInt64 4++([c']++r.txt))++rest) (by rw[hs'];simp) rfl (by rw[Ah];omega),U,
   T7 hn zO (by have:=r.id.toNat_lt;omega),U,
   NV (a:=pre++BA r.id 8) (b:=BA r.x.toUInt64 4) (c:=(BA r.y.toUInt64 4++([c']++r.txt))++rest) (by rw[hs'];simp) (by rw[List.length_append,Ah];omega) (by rw[List.length_append,Ah,Ah];omega),U,
   T7 hn zO (by have:=r.x.toNat_lt;simp;omega),U,
   NV (a:=pre++BA r.id 8++BA r.x.toUInt64 4) (b:=BA r.y.toUInt64 4) (c:=([c']++r.txt)++rest) (by rw[hs'];simp) (by simp[Ah]<;>omega) (by simp[Ah]<;>omega),U,
   T7 hn zO (by have:=r.y.toNat_lt;simp;omega),U,
   NV (a:=pre++BA r.id 8++BA r.x.toUInt64 4++BA r.y.toUInt64 4++[c']) (b:=r.txt) (c:=rest) (by rw[hs'];simp) (by simp[Ah]<;>omega) (by simp[Ah]<;>omega),U,
   CB zQ zQ,U,A9,A8 (x:=(S.length:Int)+1) zO zO,A9]
  have hrr:(⟨r.id,r.x.toUInt64.toUInt32,r.y.toUInt64.toUInt32,r.txt⟩:AP)=r:=by simp
  rw[hrr]
  have e1:(pre.length:Int)+17+(d.toNat:Int)=((pre++CD r).length:Int):=by rw[List.length_append,OH];omega
  have e2:(S.length:Int)+1=((S++[r]).length:Int):=by simp
  rw[e1,e2]
  rcases YG hn hs hc (y1:=y1) (y2:=y2) k (S++[r]) (pre++CD r) rest m (by rw[hb,hr];simp) zQ zO with⟨T,rest',g1,g2,g3,g4⟩ | ⟨g1,R,g2,g3⟩
  refine .inl ⟨r::T,rest',by rw[hr,g1];simp,by simp[g2],fun q hq=>?_,by rw[g4];simp⟩
  rcases List.mem_cons.1 hq with rfl | hq
  omega
  exact g3 q hq
  refine .inr ⟨fun T rest' hT ht e=>?_,R,g2,g3⟩
  obtain _ | ⟨r',T⟩:=T
  cases hT
  rw[hr,List.map_cons,List.flatten_cons,List.append_assoc]at e
  have hrow:∀(q:AP) (t:List UInt8),q.txt.length≤255→LL ⟨CD q++t,false⟩=some (q,⟨t,false⟩):=fun q t hq=>by
   unfold LL CD
   simp only[List.append_assoc]
   rw[n7,U,Uu (by have:=q.x.toNat_lt;simp;omega),U,Uu (by have:=q.y.toNat_lt;simp;omega),U,
    WN (by rw[Cu zO];omega),U]
   simp only
   rw[Cu zO,A8 zO zO,Sg rfl,U]
   simp
  have h1:=hrow r rest zO
  rw[e,hrow r' _ (ht r' zS)]at h1
  have h2:=zI h1
  injection h2 with h3 h4
  injection h4 with h5 _
  exact g1 T rest' (by simpa using hT) (fun q hq=>ht q (by simp[hq])) h5.symm
theorem WS{n:Nat}(hn:8<n){s:List UInt8}(hs:s.length≤1048576){y2 y3:UInt64}{c:UInt8}:∀(k:Nat) (S:List Ac) (pre b:List UInt8) (m:Nat),s=pre++b→b.length=36*k→S.length+k≤255→k<m→
  ∃T:List Ac,b=(T.map CS).flatten∧T.length=k∧(∀r∈T,r.tag.length=32)∧EY n s y2 y3 c m (S,(pre.length:Int))=some (⟨2,y2.toUInt32,y3.toUInt32,(c.toNat:Int),[],S++T,0,[]⟩,true)
 | 0,S,pre,b,m,hb,hk,hS,hm=>by
  obtain⟨m,rfl⟩:∃j,m=j+1:=⟨m-1,by omega⟩
  obtain rfl:b=[]:=List.length_eq_zero_iff.1 zO
  refine⟨[],rfl,rfl,by simp,?_⟩
  show EQ n s y2 y3 c (EY n s y2 y3 c m) S _=_
  unfold EQ
  dsimp only
  rw[zf (by rw[hb];simp),BD]
  unfold Jw
  simp
 | k+1,S,pre,b,m,hb,hk,hS,hm=>by
  obtain⟨m,rfl⟩:∃j,m=j+1:=⟨m-1,by omega⟩
  have hsl:s.length=pre.length+b.length:=by rw[hb];simp
  obtain⟨u1,b1,rfl,l1⟩:=FO (show 4≤b.length by omega)
  obtain⟨u2,b2,rfl,l2⟩:=FO (show 32≤b1.length by simp at hk;omega)
  have hstep:EY n s y2 y3 c (m+1) (S,(pre.length:Int))=EQ n s y2 y3 c (EY n s y2 y3 c m) S (pre.length:Int):=rfl
  rw[hstep]
  unfold EQ
  rw[zt zO,Be,A8 (x:=(pre.length:Int)+4) zO zO,A8 (x:=(pre.length:Int)+36) zO zO,
   NV (a:=pre) (b:=u1) (c:=u2++b2) hb rfl (by rw[l1];omega),U,X6 hn zO,U,
   NV (a:=pre++u1) (b:=u2) (c:=b2) (by rw[hb];simp) (by rw[List.length_append,l1];omega) (by rw[List.length_append,l1,l2];omega),U,
   CB zQ zQ,U,A9,l1]
  have e1:(pre.length:Int)+36=((pre++(u1++u2)).length:Int):=by simp only[List.length_append];omega
  rw[e1]
  obtain⟨T,g1,g2,g4,g3⟩:=WS hn hs (y2:=y2) (y3:=y3) (c:=c) k (S++[⟨(B6 u1 4).toUInt32,u2⟩]) (pre++(u1++u2)) b2 m (by rw[hb];simp) (by simp at hk;omega) zQ zO
  refine⟨⟨(B6 u1 4).toUInt32,u2⟩::T,?_,by simp[g2],fun r hr=>?_,by rw[g3];simp⟩
  rotate_left
  rcases List.mem_cons.1 hr with rfl | hr
  exact l2
  exact g4 r hr
  rw[List.map_cons,List.flatten_cons,←g1,IS l2,QY l1]
  simp
end

section
theorem O4{a b:UInt64}{w:Nat}(hw:w≤8)(ha:a.toNat<2^(8*w))(hb:b.toNat<2^(8*w))(h:BA a w=BA b w):a=b:=by
 rw[←MV hw ha,h,MV hw hb]
theorem Uz{q:AP}{t:List UInt8}(hq:q.txt.length≤255):LL ⟨CD q++t,false⟩=some (q,⟨t,false⟩):=by
 unfold LL CD
 simp only[List.append_assoc]
 rw[n7,U,Uu (by have:=q.x.toNat_lt;simp;omega),U,Uu (by have:=q.y.toNat_lt;simp;omega),U,
  WN (by rw[Cu zO];omega),U]
 simp only
 rw[Cu zO,A8 zO zO,Sg rfl,U]
 simp
theorem Zv:∀(T T':List AP) (a a':List UInt8),T.length=T'.length→(∀r∈T,r.txt.length≤255)→(∀r∈T',r.txt.length≤255)→(T.map CD).flatten++a=(T'.map CD).flatten++a'→T=T'∧a=a'
 | [],[],a,a',_,_,_,h=>⟨rfl,by simpa using h⟩
 | [],_::_,_,_,h,_,_,_=>by cases h
 | _::_,[],_,_,h,_,_,_=>by cases h
 | r::T,r'::T',a,a',hl,ht,ht',h=>by
  rw[List.map_cons,List.flatten_cons,List.append_assoc,List.map_cons,List.flatten_cons,List.append_assoc]at h
  have h1:=Uz (q:=r) (t:=(T.map CD).flatten++a) (ht r zS)
  rw[h,Uz (ht' r' zS)]at h1
  have h2:=zI h1
  injection h2 with h3 h4
  injection h4 with h5 _
  obtain⟨h6,h7⟩:=Zv T T' a a' (by simpa using hl) (fun q hq=>ht q (by simp[hq])) (fun q hq=>ht' q (by simp[hq])) h5.symm
  exact⟨by rw[h3,h6],h7⟩
theorem kd{r r':Ac}(h:r.tag.length=32)(h':r'.tag.length=32)(e:CS r=CS r'):r=r':=by
 rw[IS h,IS h']at e
 obtain⟨e1,e2⟩:=List.append_inj e (by rw[Ah,Ah])
 have e3:=O4 zO (by have:=r.page.toNat_lt;simp;omega) (by have:=r'.page.toNat_lt;simp;omega) e1
 have e4:r.page=r'.page:=by
  have:=congrArg UInt64.toUInt32 e3
  simpa using this
 cases r;cases r'
 simp only at e2 e4
 rw[e2,e4]
theorem ay:∀(T T':List Ac),T.length=T'.length→(∀r∈T,r.tag.length=32)→(∀r∈T',r.tag.length=32)→(T.map CS).flatten=(T'.map CS).flatten→T=T'
 | [],[],_,_,_,_=>rfl
 | [],_::_,h,_,_,_=>by cases h
 | _::_,[],h,_,_,_=>by cases h
 | r::T,r'::T',hl,ht,ht',h=>by
  rw[List.map_cons,List.flatten_cons,List.map_cons,List.flatten_cons]at h
  have l1:=ht r zS
  have l2:=ht' r' zS
  obtain⟨h1,h2⟩:=List.append_inj h (by rw[Gl zO,Gl zO])
  rw[kd l1 l2 h1,ay T T' (by simpa using hl) (fun q hq=>ht q (by simp[hq])) (fun q hq=>ht' q (by simp[hq])) h2]
theorem MM{x:BR}(h:x.kind=1):Cj x=[1]++(BA (BW (x.rows.length:Int)) 1++(CS ⟨x.npage,x.ntag⟩++(x.rows.map CD).flatten)):=by
 unfold Cj
 rw[h,show decide ((1:Int)=2)=false from rfl,BD,show BA (BW 1) 1=[1]from rfl]
theorem H2{x:BR}(h:x.kind=2):Cj x=[2]++(BA (BW (x.kids.length:Int)) 1++(BA (BW x.lev) 1++(BA x.cx.toUInt64 4++(BA x.cy.toUInt64 4++(x.kids.map CS).flatten)))):=by
 unfold Cj
 rw[h,show decide ((2:Int)=2)=true from rfl,Be,show BA (BW 2) 1=[2]from rfl]
theorem pJ{c:Bb}(h:H7 c=true):0≤c.lev∧c.lev≤31:=by
 unfold H7 at h
 cases hc:decide (c.lev<0)||decide (31<c.lev)with
 | true=>rw[hc,Be]at h;cases h
 | false=>
  simp only[Bool.or_eq_false_iff,decide_eq_false_iff_not]at hc
  omega
theorem Sw{x:BR}(h:CL x=true):x.kind=1∨x.kind=2:=by
 by_cases hk:x.kind=1
 exact .inl hk
 exact .inr (Dr h hk).1
theorem Uo{a b:UInt32}(h:a.toUInt64=b.toUInt64):a=b:=by
 have:=congrArg UInt64.toUInt32 h
 simpa using this
theorem iT{x X:BR}(hx:CL x=true)(hk:x.kind=2)(hK:X.kind=2)(h1:X.rows=[])(h2:X.npage=0)(h3:X.ntag=[])(h4:X.kids.length<256)(h5:0≤X.lev)(h6:X.lev<256)(h7:∀r∈X.kids,r.tag.length=32)(h:Cj x=Cj X):x=X:=by
 obtain⟨-,g1,g2,g3,g4,g5,g6,g7,g8⟩:=Dr hx zO
 have g9:=pJ g7
 simp only at g9
 rw[H2 hk,H2 hK]at h
 obtain⟨-,h⟩:=List.append_inj h rfl
 obtain⟨e1,h⟩:=List.append_inj h (by rw[Ah,Ah])
 obtain⟨e2,h⟩:=List.append_inj h (by rw[Ah,Ah])
 obtain⟨e3,h⟩:=List.append_inj h (by rw[Ah,Ah])
 obtain⟨e4,h⟩:=List.append_inj h (by rw[Ah,Ah])
 obtain⟨l1,hl1⟩:=Int.eq_ofNat_of_zero_le g9.1
 obtain⟨l2,hl2⟩:=Int.eq_ofNat_of_zero_le h5
 have c1:=congrArg UInt64.toNat (O4 zO (by rw[Cu zO];omega) (by rw[Cu zO];omega) e1)
 rw[Cu zO,Cu zO]at c1
 rw[hl1,hl2]at e2
 have c2:=congrArg UInt64.toNat (O4 zO (by rw[Cu zO];omega) (by rw[Cu zO];omega) e2)
 rw[Cu zO,Cu zO]at c2
 have c3:=Uo (O4 zO (by have:=x.cx.toNat_lt;simp;omega) (by have:=X.cx.toNat_lt;simp;omega) e3)
 have c4:=Uo (O4 zO (by have:=x.cy.toNat_lt;simp;omega) (by have:=X.cy.toNat_lt;simp;omega) e4)
 have c5:=ay _ _ c1 (fun r hr=>(Du (g1 r hr)).1) h7 h
 cases x;cases X
 simp only at*
 subst hk hK h1 h2 h3 g2 g3 g4 c3 c4 c5
 rw[hl1,hl2,c2]
theorem Q9{n:Nat}{x:BR}{ok:Bool}(hn:256≤n)(hr:x.rows.length≤255)(hk:x.kids.length≤255)(h:(ok&&CL x)=false):Ck n x.kind x.cx x.cy x.lev x.rows x.kids x.npage x.ntag ok=some (Rt,90):=by
 unfold Ck
 rw[Nm (⟨x.kind,x.cx,x.cy,x.lev,x.rows,x.kids,x.npage,x.ntag⟩:BR) (show x.rows.length<n by omega) (show x.kids.length<n by omega) (show x.rows.length≤1048576 by omega) (show x.kids.length≤1048576 by omega),U]
 have:((!ok) || !CL ⟨x.kind,x.cx,x.cy,x.lev,x.rows,x.kids,x.npage,x.ntag⟩)=true:=by
  rw[←Bool.not_and,show CL ⟨x.kind,x.cx,x.cy,x.lev,x.rows,x.kids,x.npage,x.ntag⟩=CL x from rfl,h]
  rfl
 rw[this,Be]
 rfl
theorem ez{n:Nat}{x:BR}{ok:Bool}(hn:256≤n)(hr:x.rows.length≤255)(hk:x.kids.length≤255)(h:(ok&&CL x)=true):Ck n x.kind x.cx x.cy x.lev x.rows x.kids x.npage x.ntag ok=some (x,0):=by
 unfold Ck
 rw[Nm (⟨x.kind,x.cx,x.cy,x.lev,x.rows,x.kids,x.npage,x.ntag⟩:BR) (show x.rows.length<n by omega) (show x.kids.length<n by omega) (show x.rows.length≤1048576 by omega) (show x.kids.length≤1048576 by omega),U]
 have:((!ok) || !CL ⟨x.kind,x.cx,x.cy,x.lev,x.rows,x.kids,x.npage,x.ntag⟩)=false:=by
  rw[←Bool.not_and,show CL ⟨x.kind,x.cx,x.cy,x.lev,x.rows,x.kids,x.npage,x.ntag⟩=CL x from rfl,h]
  rfl
 rw[this,BD]
def jA(n:Nat)(s:List UInt8):Prop:=(∃x,CL x=true∧s=Cj x∧Fa n s=some (x,0))∨((∀x,CL x=true→s≠Cj x)∧Fa n s=some (Rt,90))
theorem Tv{n:Nat}{s:List UInt8}{c:UInt8}:Fa n (c::s)=cond (decide (c=1)) ((Fx n (c::s)).bind fun y=>Ck n y.1.kind y.1.cx y.1.cy y.1.lev y.1.rows y.1.kids y.1.npage y.1.ntag y.2)
  (cond (decide (c=2)) ((GH n (c::s)).bind fun y=>Ck n y.1.kind y.1.cx y.1.cy y.1.lev y.1.rows y.1.kids y.1.npage y.1.ntag y.2) (Ck n 0 0 0 0 [] [] 0 [] false)):=by
 unfold Fa
 have h0:Ao (c::s) 0=some c:=rfl
 rw[h0,U,U,G7,U,G7,U,zt (by simp<;>omega),Bool.true_and,Bool.true_and]
theorem lK{n:Nat}(hn:256≤n){t:List UInt8}(hs:t.length≤1000000):jA n (1::t):=by
 have hd:=Tv (n:=n) (s:=t) (c:=1)
 rw[show decide ((1:UInt8)=1)=true from rfl,Be]at hd
 have hk:∀x,CL x=true→(1::t)=Cj x→x.kind=1:=fun x hx e=>by
  rcases Sw hx with h | h
  exact h
  rw[H2 h]at e
  exact absurd (List.cons.inj e).1 zD
 by_cases h38:t.length<37
 have hl:Fx n (1::t)=some (⟨1,0,0,0,[],[],0,[]⟩,false):=by
  unfold Fx
  rw[zt zQ,Be]
 rw[hl,U]at hd
 refine .inr ⟨fun x hx e=>?_,hd.trans (Q9 (x:=⟨1,0,0,0,[],[],0,[]⟩) hn zS zS rfl)⟩
 have hk1:=hk x hx e
 have h7:=(EL hx hk1).2.2.2.2.2.2
 have h32:x.ntag.length≤32:=by
  rcases h7 with h7 | h7
  rw[h7.2];simp
  exact Nat.le_of_eq (Du h7).1
 rw[MM hk1]at e
 have:=congrArg List.length e
 simp only[List.length_cons,List.length_append,Ah,Gl (r:=⟨x.npage,x.ntag⟩) h32,List.length_nil]at this
 omega
 obtain⟨u1,t1,rfl,l1⟩:=FO (show 1≤t.length by omega)
 obtain⟨c,rfl⟩:=List.length_eq_one_iff.1 l1
 obtain⟨u4,t2,rfl,l4⟩:=FO (show 4≤t1.length by simp at h38;omega)
 obtain⟨u5,b,rfl,l5⟩:=FO (show 32≤t2.length by simp at h38;omega)
 have hc255:=c.toNat_lt
 have hsl:(1::([c]++(u4++(u5++b)))).length≤1048576:=by simp at hs ⊢;omega
 have hc:Ao (1::([c]++(u4++(u5++b)))) 1=some c:=rfl
 
 have main:∀tg:List UInt8,CS ⟨(B6 u4 4).toUInt32,tg⟩=u4++u5→(∀x,CL x=true→CS ⟨x.npage,x.ntag⟩=u4++u5→x.npage=(B6 u4 4).toUInt32∧x.ntag=tg)→
   Fx n (1::([c]++(u4++(u5++b))))=Ex n (1::([c]++(u4++(u5++b)))) (B6 u4 4) tg→jA n (1::([c]++(u4++(u5++b)))):=by
  intro tg htg huni hl
  have hbt:∀x,CL x=true→(1::([c]++(u4++(u5++b))))=Cj x→x.kind=1∧x.rows.length=c.toNat∧b=(x.rows.map CD).flatten∧x.npage=(B6 u4 4).toUInt32∧x.ntag=tg:=fun x hx e=>by
   have hk1:=hk x hx e
   have h57:=(EL hx hk1).2.2.2.2
   have h32:x.ntag.length≤32:=by
    rcases h57.2.2 with h7 | h7
    rw[h7.2];simp
    exact Nat.le_of_eq (Du h7).1
   rw[MM hk1]at e
   obtain⟨-,e⟩:=List.append_inj (s₁:=[1]) (t₁:=[c]++(u4++(u5++b))) e rfl
   obtain⟨e1,e⟩:=List.append_inj e (by simp[Ah])
   rw[←List.append_assoc]at e
   obtain⟨e2,e⟩:=List.append_inj e (by rw[Gl h32,List.length_append];omega)
   obtain⟨d,g1,g2⟩:=Ni (k:=x.rows.length) zO
   rw[g1]at e1
   have:=(List.cons.inj e1).1
   obtain⟨g3,g4⟩:=huni x hx e2.symm
   exact⟨hk1,by rw[this];exact g2.symm,e,g3,g4⟩
  rw[hl]at hd
  unfold Ex at hd
  rcases YG (n:=n) zO hsl hc (y1:=B6 u4 4) (y2:=tg) c.toNat [] (1::([c]++(u4++u5))) b n zS zS zO with⟨T,rest,g1,g2,g3,g4⟩ | ⟨g1,R,g2,g3⟩
  rw[show(((1::([c]++(u4++u5)):List UInt8)).length:Int)=38 by simp[l4,l5]]at g4
  simp only[List.length_nil,List.nil_append]at g4
  rw[show((0:Nat):Int)=0 from rfl]at g4
  rw[g4,U]at hd
  cases hok:decide (rest=[])&&CL ⟨1,0,0,0,T,[],(B6 u4 4).toUInt32,tg⟩with
  | true=>
   have hh:=hok
   simp only[Bool.and_eq_true,decide_eq_true_eq]at hh
   refine .inl ⟨_,hh.2,?_,hd.trans (ez (x:=⟨1,0,0,0,T,[],(B6 u4 4).toUInt32,tg⟩) hn (by simp only;omega) zS hok)⟩
   rw[MM rfl]
   simp only
   rw[htg,g2,PT,g1,hh.1]
   simp
  | false=>
   refine .inr ⟨fun x hx e=>?_,hd.trans (Q9 (x:=⟨1,0,0,0,T,[],(B6 u4 4).toUInt32,tg⟩) hn (by simp only;omega) zS hok)⟩
   obtain⟨k1,k2,k3,k4,k5⟩:=hbt x hx e
   obtain⟨m1,m2,m3,m4,m5,m6,-⟩:=EL hx k1
   have:=Zv T x.rows rest [] zO g3 (fun r hr=>by have:=Kb m6 r hr;omega) (by rw[←g1,k3];simp)
   have hx':x=⟨1,0,0,0,T,[],(B6 u4 4).toUInt32,tg⟩:=by
    cases x
    simp only at*
    subst k1 k4 k5 m1 m2 m3 m4
    rw[this.1]
   rw[this.2,←hx',hx]at hok
   cases hok
  rw[show(((1::([c]++(u4++u5)):List UInt8)).length:Int)=38 by simp[l4,l5]]at g3
  simp only[List.length_nil]at g3
  rw[show((0:Nat):Int)=0 from rfl]at g3
  rw[g3,U]at hd
  refine .inr ⟨fun x hx e=>?_,hd.trans (Q9 (x:=⟨1,0,0,0,R,[],(B6 u4 4).toUInt32,tg⟩) hn g2 zS rfl)⟩
  obtain⟨k1,k2,k3,k4,k5⟩:=hbt x hx e
  have m6:=(EL hx k1).2.2.2.2.2.1
  exact g1 x.rows [] k2 (fun r hr=>by have:=Kb m6 r hr;omega) (by rw[k3];simp)
 have hleaf:Fx n (1::([c]++(u4++(u5++b))))=cond (decide ((B6 u4 4).toUInt32=0)&&decide (u5=List.replicate 32 0)) (Ex n (1::([c]++(u4++(u5++b)))) (B6 u4 4) []) (Ex n (1::([c]++(u4++(u5++b)))) (B6 u4 4) u5):=by
  unfold Fx
  rw[zf zQ,BD,NV (s:=1::([c]++(u4++(u5++b)))) (i:=2) (j:=6) (a:=[1,c]) (b:=u4) (c:=u5++b) zS rfl (by rw[l4];rfl),U,X6 zO zO,U,
   NV (s:=1::([c]++(u4++(u5++b)))) (i:=6) (j:=38) (a:=[1,c]++u4) (b:=u5) (c:=b) zS (by rw[List.length_append,l4];rfl) (by rw[List.length_append,l4,l5];rfl),U,l4]
  have hm:UV 1 32 (0:UInt8)=some (List.replicate 32 0):=rfl
  rw[hm,U,G7,U]
 have h45:CS ⟨(B6 u4 4).toUInt32,u5⟩=u4++u5:=by rw[IS l5,QY l4]
 have huni:∀x,CL x=true→CS ⟨x.npage,x.ntag⟩=u4++u5→x.npage=(B6 u4 4).toUInt32∧((x.npage=0∧x.ntag=[]∧u5=List.replicate 32 0)∨(2≤x.npage.toNat∧x.ntag=u5)):=fun x hx e=>by
  have hr:(x.npage=0∧x.ntag=[])∨DY ⟨x.npage,x.ntag⟩=true:=by
   rcases Sw hx with h | h
   exact(EL hx h).2.2.2.2.2.2
   obtain⟨-,-,-,h1,h2,-⟩:=Dr hx zO
   exact .inl ⟨h1,h2⟩
  unfold CS at e
  simp only at e
  obtain⟨e1,e2⟩:=List.append_inj e (by rw[Ah,l4])
  have e3:x.npage=(B6 u4 4).toUInt32:=by
   rw[←e1,MV zO (by have:=x.npage.toNat_lt;simp;omega)]
   simp
  refine⟨e3,?_⟩
  rcases hr with hr | hr
  rw[hr.2]at e2
  exact .inl ⟨hr.1,hr.2,by rw[←e2];rfl⟩
  have h1:=(Du hr).1
  have h2:=(Du hr).2
  simp only at h1 h2
  rw[h1]at e2
  exact .inr ⟨h2,by simpa using e2⟩
 cases hc0:decide ((B6 u4 4).toUInt32=0)&&decide (u5=List.replicate 32 0)with
 | true=>
  have hh:=hc0
  simp only[Bool.and_eq_true,decide_eq_true_eq]at hh
  rw[hc0,Be]at hleaf
  refine main [] ?_ (fun x hx e=>?_) hleaf
  rw[←h45,hh.2]
  rfl
  obtain⟨g1,g2 | g2⟩:=huni x hx e
  exact⟨g1,g2.2.1⟩
  rw[g1,hh.1]at g2
  simp at g2
 | false=>
  rw[hc0,BD]at hleaf
  refine main u5 h45 (fun x hx e=>?_) hleaf
  obtain⟨g1,g2 | g2⟩:=huni x hx e
  rw[←g1,g2.1,g2.2.2]at hc0
  simp at hc0
  exact⟨g1,g2.2⟩
end

section
theorem gh{n:Nat}(hn:256≤n){t:List UInt8}(hs:t.length≤1000000):jA n (2::t):=by
 have hd:=Tv (n:=n) (s:=t) (c:=2)
 rw[show decide ((2:UInt8)=1)=false from rfl,BD,show decide ((2:UInt8)=2)=true from rfl,Be]at hd
 have hk:∀x,CL x=true→(2::t)=Cj x→x.kind=2:=fun x hx e=>by
  rcases Sw hx with h | h
  rw[MM h]at e
  exact absurd (List.cons.inj e).1 zD
  exact h
 have hlen:∀x,CL x=true→(2::t)=Cj x→x.kids.length≤4∧t.length=10+36*x.kids.length:=fun x hx e=>by
  obtain⟨-,g1,-,-,-,-,g6,-⟩:=Dr hx (by rw[hk x hx e];decide)
  rw[H2 (hk x hx e)]at e
  have h36:∀l:List Ac,(∀r∈l,DY r=true)→((l.map CS).flatten).length=36*l.length:=by
   intro l
   induction l with
   | nil=>intro _;rfl
   | cons r l ih=>
    intro h
    rw[List.map_cons,List.flatten_cons,List.length_append,ih (fun q hq=>h q (by simp[hq])),Gl (by have:=(Du (h r zS)).1;omega),List.length_cons]
    omega
  have:=congrArg List.length e
  simp only[List.length_cons,List.length_append,Ah,List.length_nil,h36 _ g1]at this
  exact⟨g6,by omega⟩
 by_cases h10:t.length<10
 have hl:GH n (2::t)=some (⟨2,0,0,0,[],[],0,[]⟩,false):=by
  unfold GH
  rw[zt zQ,show ∀z,OF true z=some true from fun z=>rfl,U,Be]
 rw[hl,U]at hd
 exact .inr ⟨fun x hx e=>by have:=(hlen x hx e).2;omega,hd.trans (Q9 (x:=⟨2,0,0,0,[],[],0,[]⟩) hn zS zS rfl)⟩
 obtain⟨u1,t1,rfl,l1⟩:=FO (show 1≤t.length by omega)
 obtain⟨c,rfl⟩:=List.length_eq_one_iff.1 l1
 obtain⟨u2,t2,rfl,l2⟩:=FO (show 1≤t1.length by simp at h10;omega)
 obtain⟨lv,rfl⟩:=List.length_eq_one_iff.1 l2
 obtain⟨u3,t3,rfl,l3⟩:=FO (show 4≤t2.length by simp at h10;omega)
 obtain⟨u4,b,rfl,l4⟩:=FO (show 4≤t3.length by simp at h10;omega)
 have hc255:=c.toNat_lt
 have hsl:(2::([c]++([lv]++(u3++(u4++b))))).length≤1048576:=by simp at hs ⊢;omega
 have hb:(2::([c]++([lv]++(u3++(u4++b))))).length=11+b.length:=by simp[l3,l4];omega
 have hcond:GH n (2::([c]++([lv]++(u3++(u4++b)))))=cond (!decide (b.length=36*c.toNat)) (some (⟨2,0,0,0,[],[],0,[]⟩,false))
   (EY n (2::([c]++([lv]++(u3++(u4++b))))) (B6 u3 4) (B6 u4 4) lv n ([],11)):=by
  unfold GH
  have h1:Ao (2::([c]++([lv]++(u3++(u4++b))))) 1=some c:=rfl
  have h2:Ao (2::([c]++([lv]++(u3++(u4++b))))) 2=some lv:=rfl
  rw[h1,U,M6,U,A8 (x:=36*(c.toNat:Int)) zO zO,A8 zO zO,hb,zf zO,Bool.false_or,
   NV (s:=2::([c]++([lv]++(u3++(u4++b))))) (i:=3) (j:=7) (a:=[2,c,lv]) (b:=u3) (c:=u4++b) zS rfl (by rw[l3];rfl),U,X6 zO zO,U,
   NV (s:=2::([c]++([lv]++(u3++(u4++b))))) (i:=7) (j:=11) (a:=[2,c,lv]++u3) (b:=u4) (c:=b) zS (by rw[List.length_append,l3];rfl) (by rw[List.length_append,l3,l4];rfl),U,X6 zO zO,U,h2,U,l3,l4]
  congr 2
  rw[decide_eq_decide]
  omega
 rw[hcond]at hd
 by_cases h36:b.length=36*c.toNat
 rw[zt h36,Bool.not_true,BD]at hd
 obtain⟨T,g1,g2,g3,g4⟩:=WS (n:=n) zO hsl (y2:=B6 u3 4) (y3:=B6 u4 4) (c:=lv) c.toNat [] (2::([c]++([lv]++(u3++u4)))) b n zS h36 zQ zO
 rw[show(((2::([c]++([lv]++(u3++u4))):List UInt8)).length:Int)=11 by simp[l3,l4]]at g4
 rw[g4,U]at hd
 simp only[List.nil_append]at hd
 have hlv:=lv.toNat_lt
 have henc:(2::([c]++([lv]++(u3++(u4++b)))))=Cj ⟨2,(B6 u3 4).toUInt32,(B6 u4 4).toUInt32,(lv.toNat:Int),[],T,0,[]⟩:=by
  rw[H2 rfl]
  simp only
  rw[g2,PT,PT,QY l3,QY l4,g1]
  simp
 cases hok:CL ⟨2,(B6 u3 4).toUInt32,(B6 u4 4).toUInt32,(lv.toNat:Int),[],T,0,[]⟩with
 | true=>exact .inl ⟨_,hok,henc,hd.trans (ez (x:=⟨2,(B6 u3 4).toUInt32,(B6 u4 4).toUInt32,(lv.toNat:Int),[],T,0,[]⟩) hn zS (by simp only;omega) (by rw[hok];rfl))⟩
 | false=>
  refine .inr ⟨fun x hx e=>?_,hd.trans (Q9 (x:=⟨2,(B6 u3 4).toUInt32,(B6 u4 4).toUInt32,(lv.toNat:Int),[],T,0,[]⟩) hn zS (by simp only;omega) (by rw[hok];rfl))⟩
  have:=iT hx (hk x hx e) rfl rfl rfl rfl (by simp only;omega) (by simp only;omega) (by simp only;omega) g3 (e.symm.trans henc)
  rw[this,hok]at hx
  cases hx
 rw[zf h36,Bool.not_false,Be,U]at hd
 refine .inr ⟨fun x hx e=>?_,hd.trans (Q9 (x:=⟨2,0,0,0,[],[],0,[]⟩) hn zS zS rfl)⟩
 obtain⟨g1,g2⟩:=hlen x hx e
 rw[H2 (hk x hx e)]at e
 obtain⟨-,e⟩:=List.append_inj (s₁:=[2]) (t₁:=[c]++([lv]++(u3++(u4++b)))) e rfl
 obtain⟨e1,e⟩:=List.append_inj e (by simp[Ah])
 obtain⟨d,m1,m2⟩:=Ni (k:=x.kids.length) zO
 rw[m1]at e1
 have:=(List.cons.inj e1).1
 subst this
 simp at g2
 omega
theorem Ze{n:Nat}(hn:256≤n){s:List UInt8}(hs:s.length≤1000000):jA n s:=by
 have h0:Ck n 0 0 0 0 [] [] 0 [] false=some (Rt,90):=Q9 (x:=Rt) hn (by simp[Rt]) (by simp[Rt]) rfl
 obtain _ | ⟨c,t⟩:=s
 refine .inr ⟨fun x hx e=>?_,h0⟩
 rcases Sw hx with h | h
 rw[MM h]at e;cases e
 rw[H2 h]at e;cases e
 have hl:t.length≤1000000:=by simp at hs;omega
 by_cases h1:c=1
 subst h1;exact lK hn hl
 by_cases h2:c=2
 subst h2;exact gh hn hl
 refine .inr ⟨fun x hx e=>?_,?_⟩
 rcases Sw hx with h | h
 rw[MM h]at e;exact h1 (List.cons.inj e).1
 rw[H2 h]at e;exact h2 (List.cons.inj e).1
 rw[Tv,zf h1,BD,zf h2,BD,h0]
theorem k0{n:Nat}(hn:256≤n){s:List UInt8}(hs:s.length≤1000000):Fa n s=Eb n s:=by
 rcases Ze hn hs with⟨x,h1,h2,h3⟩ | ⟨h1,h2⟩
 rw[h3,h2,Rl zO h1]
 rcases WO (n:=n) zO s with⟨x,g1,g2,g3⟩ | ⟨g1,g2⟩
 exact absurd g2 (h1 x g1)
 rw[h2,g2]
end

section
def iA(r:BY):Bool := !(decide (r.left=0)||r.off)
def Vf(r:BY):BY:={ r with left:=if 0<r.left then wI (r.left-1)else r.left }
def Yu(r:BY):BY:={ r with off:=true }
theorem sO(r:BY):HC r=some (if iA r then(0,Vf r)else(71,Yu r)):=by
 obtain⟨bl,pd,bd,rc,rt,rb,left,off⟩:=r
 unfold HC Fh Fj
 by_cases h0:left=0
 subst h0;cases off<;>simp[iA,Yu]
 by_cases h1:0<left<;>cases off<;>simp[iA,Vf,Yu,h0,h1]
theorem ZO(r:BY)(p:UInt32)(h:r.blk.length≤4096):Fo r p=some (decide (p.toNat<r.blk.length)):=by
 unfold Fo
 rw[A9]
 congr 1
 rw[decide_eq_decide,UInt64.lt_iff_toNat_lt]
 have:(BW (r.blk.length:Int)).toNat=r.blk.length:=by simp only[BW,UInt64.toNat_ofNat'];omega
 rw[this,UInt32.toNat_toUInt64]
structure Yf(N:Nat)(d:BM):Prop where
 blen:d.blocks.length=N
 b256:∀s∈d.blocks,s.length=256
 knd:(d.pend.map (·.1)).Nodup
 klt:∀q∈d.pend,q.1.toNat<N∧q.2.length=256
theorem Yf.plen{N:Nat}{d:BM}(I:Yf N d):d.pend.length≤N:=by
 have:=Xr I.knd (fun k hk=>by
  obtain⟨q,hq,rfl⟩:=List.mem_map.1 hk
  exact(I.klt q hq).1)
 simpa using this
theorem Yf.of{N:Nat}{d d':BM}(I:Yf N d)(h1:d'.blocks=d.blocks)(h2:d'.pend=d.pend):Yf N d':=⟨by rw[h1];exact I.blen,by rw[h1];exact I.b256,by rw[h2];exact I.knd,by rw[h2];exact I.klt⟩
theorem Yf.put{N:Nat}{d d':BM}{p:UInt32}{s:List UInt8}(I:Yf N d)(hp:p.toNat<N)(hs:s.length=256)(h1:d'.blocks=d.blocks)(h2:d'.pend=J6 d.pend p s):Yf N d':=
 ⟨by rw[h1];exact I.blen,by rw[h1];exact I.b256,by rw[h2];exact Wg I.knd,by
  rw[h2]
  intro q hq
  rcases List.mem_cons.1 hq with rfl | hq
  exact⟨hp,hs⟩
  exact I.klt q (List.mem_filter.1 hq).1⟩
structure WA(N:Nat)(d:BM)(r:BY):Prop where
 inv:Yf N d
 nle:N≤4096
 blk:r.blk=d.blocks
 plen:r.pnd.length=N
 pnd:∀p:UInt32,p.toNat<N→D1 d.pend p=if r.pnd.getD p.toNat []=[]then none else some (r.pnd.getD p.toNat [])
 blen:r.bads.length=N
 bad:∀p:UInt32,p.toNat<N→(D1 d.bad p).getD false=r.bads.getD p.toNat false
 bnd:(d.bad.map (·.1)).Nodup
 blt:∀q∈d.bad,q.1.toNat<N
 cnt:r.rcnt=d.rcnt
 tag:r.rtag=d.rtag
 boots:r.rboots=d.rboots
 off:r.off=d.off
 cut:d.isCut=true→0≤d.lasts∧d.lasts≤9223372036854775807∧r.left=d.lasts
 uncut:d.isCut=false→r.left = -1
variable {N:Nat}{d:BM}{r:BY}
theorem WA.rlen(R:WA N d r):r.blk.length=N:=by rw[R.blk];exact R.inv.blen
theorem WA.on(R:WA N d r):iA r=VY d:=by
 unfold iA VY
 rw[R.off]
 cases h:d.isCut
 rw[R.uncut h]
 simp
 obtain⟨h1,h2,h3⟩:=R.cut h
 rw[h3]
 simp
theorem WA.tick(R:WA N d r)(h:VY d=true):WA N (UH d) (Vf r):=by
 have hs:(Vf r).left=if 0<r.left then wI (r.left-1)else r.left:=rfl
 refine⟨R.inv.of rfl rfl,R.nle,R.blk,R.plen,R.pnd,R.blen,R.bad,R.bnd,R.blt,R.cnt,R.tag,R.boots,R.off,fun hc=>?_,fun hc=>?_⟩
 have hc':d.isCut=true:=hc
 obtain⟨h1,h2,h3⟩:=R.cut hc'
 have h0:d.lasts≠0:=fun e=>by simp[VY,hc',e]at h
 have hl:(UH d).lasts=d.lasts-1:=by
  show(if d.isCut then wI (d.lasts-1)else d.lasts)=_
  rw[hc',if_pos rfl,A8 zO zO]
 rw[hl,hs,h3,if_pos zO,A8 zO zO]
 exact⟨by omega,by omega,rfl⟩
 have hc':d.isCut=false:=hc
 rw[hs,R.uncut hc',if_neg zO]
theorem WA.dead(R:WA N d r):WA N (V2 d) (Yu r):=
 ⟨R.inv.of rfl rfl,R.nle,R.blk,R.plen,R.pnd,R.blen,R.bad,R.bnd,R.blt,R.cnt,R.tag,R.boots,rfl,R.cut,R.uncut⟩
theorem ND{α:Type}{l:List α}{i j:Nat}{a x:α}(hi:i<l.length):(l.set i a).getD j x=if i=j then a else l.getD j x:=by
 rw[List.getD_eq_getElem?_getD,List.getD_eq_getElem?_getD,List.getElem?_set]
 split
 rename_i h
 subst h
 simp
 rfl
theorem WA.write(R:WA N d r)(p:UInt32)(s:List UInt8):∃e d' r',Hv d p s=some (e,d')∧DT r p s=some (e,r')∧WA N d' r':=by
 by_cases hp:p.toNat<N∧s.length=256
 obtain⟨h1,h2⟩:=hp
 have hp':p.toNat<d.blocks.length:=by rw[R.inv.blen];exact h1
 have hpl:=R.inv.plen
 have hn:=R.nle
 have hw:=af (d:=d) hp' h2 zO
 have hr:DT r p s=some (if iA r then(0,{ Vf r with pnd:=r.pnd.set p.toNat s })else(71,Yu r)):=by
  unfold DT
  have hc:(!decide (p.toNat<r.blk.length) || !decide ((s.length:Int)=256))=false:=by
   rw[R.rlen,zt h1,zt zO]
   rfl
  rw[ZO r p (by rw[R.rlen];omega),U,hc,BD,sO,U]
  cases h:iA r
  rfl
  rw[if_pos rfl,if_pos rfl]
  show cond (decide ((0:Int)=0)) _ _=_
  rw[zt rfl,Be]
  have hl:p.toNat<(Vf r).pnd.length:=by show p.toNat<r.pnd.length;rw[R.plen];exact h1
  rw[Ft,List.getElem?_eq_getElem hl,U,Jd rfl hl,U]
  rfl
 rw[R.on]at hr
 cases h:VY d
 rw[nm h]at hw
 rw[h]at hr
 exact⟨_,_,_,hw,hr,R.dead⟩
 rw[jG h]at hw
 rw[h]at hr
 have T:=R.tick h
 refine⟨_,_,_,hw,hr,⟨T.inv.put h1 h2 rfl rfl,R.nle,R.blk,by rw[List.length_set];exact R.plen,fun q hq=>?_,R.blen,R.bad,R.bnd,R.blt,R.cnt,R.tag,R.boots,R.off,T.cut,T.uncut⟩⟩
 have hne:s≠[]:=fun e=>by rw[e]at h2;simp at h2
 show D1 (J6 d.pend p s) q=if(r.pnd.set p.toNat s).getD q.toNat []=[]then none else some ((r.pnd.set p.toNat s).getD q.toNat [])
 rw[S8,ND (by rw[R.plen];exact h1)]
 by_cases e:p=q
 subst e
 rw[if_pos rfl,if_pos rfl,if_neg hne]
 rw[if_neg e,if_neg (fun h=>e (UInt32.toNat_inj.1 h))]
 exact R.pnd q hq
 have hb:¬p.toNat<d.blocks.length∨s.length≠256:=by rw[R.inv.blen];omega
 refine⟨_,_,_,iW hb,?_,R⟩
 unfold DT
 have hc:(!decide (p.toNat<r.blk.length) || !decide ((s.length:Int)=256))=true:=by
  rw[R.rlen]
  simp only[Bool.or_eq_true,Bool.not_eq_true',decide_eq_false_iff_not]
  omega
 rw[ZO r p (by rw[R.rlen];exact R.nle),U,hc,Be]
theorem WA.holds(R:WA N d r)(p:UInt32)(hp:p.toNat<N):Ff r p=some (K9 d p):=by
 unfold Ff K9
 have hl:p.toNat<r.pnd.length:=by rw[R.plen];exact hp
 have hb:p.toNat<r.blk.length:=by rw[R.rlen];exact hp
 have g:=R.pnd p hp
 rw[Ow _ hl]at g
 rw[Ft,List.getElem?_eq_getElem hl,U]
 by_cases e:r.pnd[p.toNat]=[]
 rw[if_pos e]at g
 rw[g,zt e,Ft,List.getElem?_eq_getElem hb,U]
 simp only[Bool.not_true,BD,Option.getD_none]
 rw[←R.blk,Ow _ hb]
 rfl
 rw[if_neg e]at g
 rw[g,zf e]
 rfl
theorem WA.read(R:WA N d r)(p:UInt32):∃e,Fr d p=some e∧D5 r p=some e:=by
 by_cases hp:p.toNat<N
 have hp':p.toNat<d.blocks.length:=by rw[R.inv.blen];exact hp
 refine⟨_,Xc hp',?_⟩
 unfold D5
 have hl:p.toNat<r.bads.length:=by rw[R.blen];exact hp
 rw[ZO r p (by rw[R.rlen];exact R.nle),U,R.rlen,zt hp,Bool.not_true,BD,R.off,Ft,List.getElem?_eq_getElem hl,U,R.holds p hp,R.bad p hp,Ow _ hl]
 cases d.off<;>cases r.bads[p.toNat]<;>rfl
 have hb:¬p.toNat<d.blocks.length:=by rw[R.inv.blen];exact hp
 refine⟨_,bB hb,?_⟩
 unfold D5
 rw[ZO r p (by rw[R.rlen];exact R.nle),U,R.rlen,zf hp]
 rfl
theorem dT(i:Nat):FC (i:Int)=UInt32.ofNat i:=by
 apply UInt32.toNat_inj.1
 simp only[FC,UInt32.toNat_ofNat']
 omega
def uV(N:Nat):BM:={ off:=false,isCut:=false,lasts:=0,counts:=0,blocks:=List.replicate N (List.replicate 256 0),pend:=[],bad:=[],rcnt:=0,rtag:=List.replicate 32 0,rboots:=0 }
def Rk(N:Nat):BY:={ blk:=List.replicate N (List.replicate 256 0),pnd:=List.replicate N [],bads:=List.replicate N false,rcnt:=0,rtag:=List.replicate 32 0,rboots:=0,left := -1,off:=false }
theorem nk{N n:Nat}(h4:4≤N)(hN:N≤4096)(hn:N<n):IF n (N:Int)=some (some (Rk N),0):=by
 have z:∀k:Nat,k≤1048576→Dl (k:Int)=some (List.replicate k 0):=fun k hk=>by
  rw[aD zO zO]
  simp
 have z1:=z 32 zO
 have z2:=z 256 zO
 clear z
 unfold IF Rk
 have hc:(decide ((N:Int)<4)||decide (4096<(N:Int)))=false:=by simp;omega
 rw[hc,BD]
 show(Dl ((32:Nat):Int)).bind _=_
 rw[z1,U]
 generalize List.replicate 32 (0:UInt8)=Y9
 generalize List.replicate 256 (0:UInt8)=Z9 at z2 ⊢
 unfold JW
 refine Dq (fun i=>(List.replicate i Z9,List.replicate i [],List.replicate i false,(i:Int))) N ?_ ?_ hn
 intro i hi k
 simp only[FJ]
 rw[zt zO,Be]
 show(Dl ((256:Nat):Int)).bind _=_
 rw[z2,U,CB zQ zQ,U,CB zQ zQ,U,CB zQ zQ,U,A9,A8 zO zO]
 rw[←List.replicate_succ',←List.replicate_succ',←List.replicate_succ']
 rfl
 intro k
 simp only[FJ]
 rw[zf zO,BD]
 rfl
theorem uY{N:Nat}(hN:N≤4096):WA N (uV N) (Rk N):=by
 refine⟨⟨List.length_replicate ..,fun s hs=>?_,List.nodup_nil,(fun q hq=>by cases hq)⟩,hN,rfl,List.length_replicate ..,fun p hp=>?_,List.length_replicate ..,fun p hp=>?_,List.nodup_nil,(fun q hq=>by cases hq),rfl,rfl,rfl,rfl,(fun h=>by cases h),fun _=>rfl⟩
 rw[List.eq_of_mem_replicate hs,List.length_replicate]
 show D1 [] p=if(List.replicate N ([]:List UInt8)).getD p.toNat []=[]then none else some ((List.replicate N ([]:List UInt8)).getD p.toNat [])
 rw[Ow _ (by simpa using hp)]
 simp[D1]
 show(D1 ([]:List (UInt32×Bool)) p).getD false=(List.replicate N false).getD p.toNat false
 rw[Ow _ (by simpa using hp)]
 simp[D1]
end

section
structure VR(N:Nat)(v:Bs)(d:BM)(w:CK)(c:BY):Prop where
 dev:WA N d c
 ring:w.ring=v.ring
 rlen:v.ring.length≤1048576
 gen:w.gen=v.gen
 boot:w.boot=v.boot
 num:w.num=v.seals
 tlen:w.taken.length=N
 n4:4≤N
 low:∀i,i<2→w.taken.getD i false=true
 tak:∀p:UInt32,2≤p.toNat→p.toNat<N→w.taken.getD p.toNat false=Dp v p
 tnd:(v.taken.map (·.1)).Nodup
 tok:∀e∈v.taken,e.2=true∧2≤e.1.toNat∧e.1.toNat<N
variable {N n:Nat}{T:List UInt32}{v:Bs}{d:BM}{w:CK}{c:BY}
theorem VR.seal(V9:VR N v d w c)(hT:T.length=64)(hn:2097152<n)(p:UInt32){s:List UInt8}(hs:s.length≤1048576):
  ∃t e v' d' w' c',L7 T v d p s=some (t,e,v',d')∧E1 n T w c p s=some (t,e,w',c')∧VR N v' d' w' c'∧v'.taken=v.taken∧w'.taken=w.taken:=by
 have hrl:=V9.rlen
 unfold L7 E1
 rw[V9.ring,V9.gen,V9.boot,V9.num,qV T v.ring _ s hT hrl hn,U]
 have hso:Vw T v.ring ⟨p,v.gen,v.boot,v.seals⟩ s=some (FS T v.ring ⟨p,v.gen,v.boot,v.seals⟩ s):=if_pos ⟨by omega,by omega⟩
 rw[hso,U]
 generalize FS T v.ring ⟨p,v.gen,v.boot,v.seals⟩ s=y
 cases he:decide (y.2=0)with
 | false=>
  rw[Bool.not_false,Be,Be]
  exact⟨_,_,v,d,w,c,rfl,rfl,V9,rfl,rfl⟩
 | true=>
  rw[Bool.not_true,BD,BD]
  obtain⟨e,d',c',h1,h2,h3⟩:=V9.dev.write p y.1
  rw[h1,h2,U,U]
  dsimp only
  have V':VR N { v with seals:=v.seals+1 } d' ⟨v.ring,v.gen,v.boot,v.seals+1,w.taken⟩ c':=⟨h3,rfl,V9.rlen,rfl,rfl,rfl,V9.tlen,V9.n4,V9.low,V9.tak,V9.tnd,V9.tok⟩
  cases he2:decide (e=0)with
  | false=>
   rw[Bool.not_false,Be,Be]
   exact⟨_,_,_,_,_,_,rfl,rfl,V',rfl,rfl⟩
  | true=>
   rw[Bool.not_true,BD,BD]
   have he0:=of_decide_eq_true he2
   have hy:y.1.length=256:=by
    by_cases hy:y.1.length=256
    exact hy
    have hb:=V9.dev.rlen
    have hN:=V9.dev.nle
    unfold DT at h2
    rw[ZO c p zO,U,zf (show ¬(y.1.length:Int)=256 by omega),Bool.not_false,Bool.or_true,Be]at h2
    have h5:=congrArg Prod.fst (zI h2)
    simp only at h5
    omega
   have h6:Ta y.1=some (y.1.drop 224):=by
    unfold Ta
    rw[if_pos zO,hy]
   have h7:Cz y.1 224 (y.1.length:Int)=some (y.1.drop 224):=(Dz (l:=y.1) (p:=224) (q:=y.1.length) rfl rfl zO zO).trans (congrArg some (List.take_of_length_le zS))
   rw[h6,h7,U,U]
   exact⟨_,_,_,_,_,_,rfl,rfl,V',rfl,rfl⟩
end

section
variable {N n:Nat}{T:List UInt32}{v:Bs}{d:BM}{w:CK}{c:BY}
def oJ(n:Nat)(T:List UInt32)(w:CK)(c:BY)(s:List UInt8)(a1:Int):Option (Ac×Int×CK×BY):=
 (E1 n T w c (FC a1) s).bind fun y5=>
  cond (!decide (y5.2.1=0)) (some ((⟨0,[]⟩:Ac),y5.2.1,y5.2.2.1,y5.2.2.2))
   ((Ao y5.2.2.1.taken a1).bind fun _=>(F6 y5.2.2.1.taken a1 true).bind fun l1=>some ((⟨FC a1,y5.1⟩:Ac),0,{ y5.2.2.1 with taken:=l1 },y5.2.2.2))
theorem VR.scan(V9:VR N v d w c)(s:List UInt8):∀(k i m:Nat),2≤i→i+k=N→k<m→
  (EZ v i k=[]∧CG n T s m (w,c,0,[],(i:Int))=Ey w c 0 [])∨
  ∃j,i≤j∧j<N∧EZ v i k=[UInt32.ofNat j]∧CG n T s m (w,c,0,[],(i:Int))=oJ n T w c s (j:Int)
 | _,_,0,_,_,h=>absurd h (Nat.not_lt_zero _)
 | 0,i,m+1,_,hi,_=>by
  left
  refine⟨rfl,?_⟩
  have hl:=V9.tlen
  show Cg n T s (CG n T s m) _ _ _ _ _=_
  unfold Cg
  dsimp only
  rw[zf zO,BD]
 | k+1,i,m+1,h2i,hi,hm=>by
  have hl:=V9.tlen
  have hN:=V9.dev.nle
  have hil:i<w.taken.length:=zO
  have hin:(UInt32.ofNat i).toNat=i:=by simp;omega
  have ht:=V9.tak (UInt32.ofNat i) (by rw[hin];exact h2i) (by rw[hin];omega)
  rw[hin,List.getD_eq_getElem?_getD,List.getElem?_eq_getElem hil]at ht
  simp only[Option.getD_some]at ht
  have n1:Ao w.taken (i:Int)=some w.taken[i]:=by rw[EF rfl,List.getElem?_eq_getElem hil]
  have e:CG n T s (m+1) (w,c,0,[],(i:Int))=cond w.taken[i] (CG n T s m (w,c,0,[],((i+1:Nat):Int))) (oJ n T w c s (i:Int)):=by
   show Cg n T s (CG n T s m) _ _ _ _ _=_
   unfold Cg
   dsimp only
   rw[zt zO,Be,n1,U,A9,A8 zO zO]
   rfl
  rw[e,ht]
  unfold EZ
  cases hc:Dp v (UInt32.ofNat i)with
  | true=>
   rw[if_pos rfl,Be]
   rcases VR.scan V9 s k (i+1) m zO zO zO with h | ⟨j,h1,h2,h3,h4⟩
   exact .inl h
   exact .inr ⟨j,by omega,h2,h3,h4⟩
  | false=>
   right
   exact⟨i,Nat.le_refl _,by omega,by simp,by rw[BD]⟩
theorem VR.write(V9:VR N v d w c)(hT:T.length=64)(hn:2097152<n){s:List UInt8}(hs:s.length≤1048576):
  ∃r e v' d' w' c',GC T v d s=some (r,e,v',d')∧F7 n T w c s=some (r,e,w',c')∧VR N v' d' w' c':=by
 have hl:=V9.tlen
 have hN:=V9.dev.nle
 have hbl:=V9.dev.inv.blen
 unfold GC F7
 rw[A9]
 cases h198:decide (198<(s.length:Int))with
 | true=>
  rw[Be,Be]
  exact⟨_,_,v,d,w,c,rfl,rfl,V9⟩
 | false=>
  have hfr:RA v d=some (EZ v 2 (N-2)):=by
   unfold RA
   rw[if_pos zO,hbl]
  rw[BD,BD,show Xx v d=some ()from rfl,U,hfr,U]
  by_cases h2N:N<2
  have e1:N-2=0:=zO
  rw[e1]
  obtain⟨m,rfl⟩:∃m,n=m+1:=⟨n-1,by omega⟩
  have e2:CG (m+1) T s (m+1) (w,c,0,[],2)=Ey w c 0 []:=by
   show Cg (m+1) T s (CG (m+1) T s m) _ _ _ _ _=_
   unfold Cg
   dsimp only
   rw[zf zO,BD]
  rw[e2]
  exact⟨_,_,v,d,w,c,rfl,rfl,V9⟩
  rcases V9.scan (n:=n) (T:=T) s (N-2) 2 n zO zO zO with⟨h1,h2⟩ | ⟨j,hj2,hjN,h1,h2⟩
  rw[h1,show CG n T s n (w,c,0,[],2)=_ from h2]
  exact⟨_,_,v,d,w,c,rfl,rfl,V9⟩
  have hjn:(UInt32.ofNat j).toNat=j:=by simp;omega
  rw[h1,show CG n T s n (w,c,0,[],2)=_ from h2]
  show ∃r e v' d' w' c',F5 T v d s (UInt32.ofNat j)=some (r,e,v',d')∧_∧_
  unfold F5 oJ
  have hne:decide (UInt32.ofNat j=0)=false:=zf fun e=>by
   have:=congrArg UInt32.toNat e
   rw[hjn]at this
   have h0:(0:UInt32).toNat=0:=rfl
   omega
  obtain⟨t,e,v',d',w',c',g1,g2,V',g3,g4⟩:=V9.seal hT hn (UInt32.ofNat j) hs
  rw[hne,BD,g1,U,dT,g2,U]
  dsimp only
  cases he:decide (e=0)with
  | false=>
   rw[Bool.not_false,Be,Be]
   exact⟨_,_,_,_,_,_,rfl,rfl,V'⟩
  | true=>
   have hl':=V'.tlen
   have hmlen:v'.taken.length<9223372036854775807:=by
    have:=Xr V'.tnd (N:=N) (fun k hk=>by
     obtain⟨q,hq,rfl⟩:=List.mem_map.1 hk
     exact(V'.tok q hq).2.2)
    simp at this
    omega
   rw[Bool.not_true,BD,BD,show Pp v'.taken (UInt32.ofNat j) true=some (J6 v'.taken (UInt32.ofNat j) true)from if_pos hmlen,U,EF rfl,List.getElem?_eq_getElem zO,U,Jd rfl zO,U]
   refine⟨_,_,_,_,_,_,rfl,rfl,⟨V'.dev,V'.ring,V'.rlen,V'.gen,V'.boot,V'.num,by simpa using V'.tlen,V'.n4,fun i hi=>?_,fun p hp2 hp=>?_,Wg V'.tnd,fun q hq=>?_⟩⟩
   rw[ND zO,if_neg zO]
   exact V'.low i hi
   rw[ND zO]
   unfold Dp
   rw[S8]
   by_cases hpj:j=p.toNat
   subst hpj
   rw[if_pos rfl,if_pos zS]
   rfl
   rw[if_neg hpj,if_neg (fun e=>hpj (by rw[←e,hjn]))]
   exact V'.tak p hp2 hp
   rcases List.mem_cons.1 hq with rfl | hq
   exact⟨rfl,by rw[hjn];exact hj2,by rw[hjn];exact hjN⟩
   exact V'.tok q (List.mem_filter.1 hq).1
end

section
theorem eh{N n:Nat}(h4:4≤N)(hN:N≤4096)(hn:4200≤n):∃w c,Gs n (N:Int)=some (some (v0,d0 N,w,c),true)∧VR N v0 (d0 N) w c:=by
 have hr:IF n (N:Int)=some (some (Rk N),0):=nk h4 hN zO
 have hrl:(Rk N).blk.length=N:=List.length_replicate ..
 have hb1:I8 n (Rk N) (Fs 1) 1 7=some (some ⟨Fs 1,1,7,0,((List.replicate N false).set 0 true).set 1 true⟩,0):=by
  unfold I8
  have hm:UV 1 ((Rk N).blk.length:Int) false=some (List.replicate N false):=by
   unfold UV
   rw[hrl,if_pos ⟨by omega,by omega,by omega⟩]
   simp
  have h0:Ao (List.replicate N false) 0=some false:=by
   have:=CF (l:=List.replicate N false) (i:=0) (k:=0) false rfl zQ
   rw[this]
   congr 1
   cases N<;>rfl
  have h1:F6 (List.replicate N false) 0 true=some ((List.replicate N false).set 0 true):=Jd rfl zQ
  have h2:∃x,Ao ((List.replicate N false).set 0 true) 1=some x:=⟨_,CF (k:=1) false rfl zQ⟩
  obtain⟨x,h2⟩:=h2
  have h3:F6 ((List.replicate N false).set 0 true) 1 true=some (((List.replicate N false).set 0 true).set 1 true):=Jd rfl zQ
  rw[W3 (Fs 1) 1 (by rw[Ds];omega) zO,V7 zO zO,U,hm,U,h0,U,h1,U,h2,U,h3,U]
  rfl
 refine⟨⟨Fs 1,1,7,0,((List.replicate N false).set 0 true).set 1 true⟩,Rk N,?_,?_⟩
 rotate_left
 refine⟨uY hN,rfl,by show(Fs 1).length≤_;rw[Ds];omega,rfl,rfl,rfl,by simp,h4,fun i hi=>?_,fun p hp2 hp=>?_,List.nodup_nil,fun e he=>by cases he⟩
 rw[ND zQ]
 by_cases h1:1=i
 rw[if_pos h1]
 rw[if_neg h1,ND zQ,if_pos zO]
 rw[ND zQ,if_neg zO,ND zQ,if_neg zO]
 rw[List.getD_eq_getElem?_getD,List.getElem?_eq_getElem (by simpa using hp),List.getElem_replicate]
 rfl
 have hv:Gp (d0 N) (Fs 1) 1 7=some (some v0,0):=by
  unfold Gp ZA
  rw[if_pos (by rw[Ds];omega),U,V7 zO zO,CB (by simp[Ds]) (by simp[Ds]),U]
  rfl
 have hring:FG n 1=some (Fs 1):=fj 1 zO zO
 unfold Gs
 rw[jR zO zO,U,U,hr,U,U]
 show(FG n 1).bind _=_
 rw[hring,U]
 show(Gp (d0 N) (Fs 1) 1 7).bind _=_
 rw[hv,U,U,U,hb1,U,U]
 rfl
end

section
theorem f0{b:List UInt8}(h:4≤b.length):(B6 b 4).toUInt32=Ih b:=by
 apply UInt32.toNat_inj.1
 have h1:=NK b 4 zO h
 unfold Ih
 rw[YA]
 obtain _ | ⟨a,_ | ⟨c,_ | ⟨e,_ | ⟨g,t⟩⟩⟩⟩:=b<;>simp at h
 simp[N0]at h1
 have:=a.toNat_lt
 have:=c.toNat_lt
 have:=e.toNat_lt
 have:=g.toNat_lt
 rw[UInt64.toNat_toUInt32,h1]
 simp
 omega
theorem Yf.hold256{N:Nat}{d:BM}(I:Yf N d){p:UInt32}(hp:p.toNat<N):(K9 d p).length=256:=by
 unfold K9
 by_cases h:p∈d.pend.map (·.1)
 obtain⟨q,hq,rfl⟩:=List.mem_map.1 h
 rw[RF I.knd hq]
 exact(I.klt q hq).2
 rw[UF (fun e he e'=>h (List.mem_map.2 ⟨e,he,e'⟩))]
 have hb:p.toNat<d.blocks.length:=by rw[I.blen];exact hp
 rw[Option.getD_none,Ow _ hb]
 exact I.b256 _ (List.getElem_mem hb)
variable {N n:Nat}{T:List UInt32}{v:Bs}{d:BM}{w:CK}{c:BY}
theorem WA.read2(R:WA N d c)(p:UInt32):∃s e,Fr d p=some (s,e)∧D5 c p=some (s,e)∧(e=0→s.length=256):=by
 obtain⟨⟨s,e⟩,h1,h2⟩:=R.read p
 refine⟨s,e,h1,h2,fun he=>?_⟩
 subst he
 by_cases hp:p.toNat<N
 rw[Xc (by rw[R.inv.blen];exact hp)]at h1
 have h3:=zI h1
 split at h3
 exact absurd (show(71:Int)=0 from congrArg Prod.snd h3) zD
 split at h3
 exact absurd (show(70:Int)=0 from congrArg Prod.snd h3) zD
 have h4:K9 d p=s:=congrArg Prod.fst h3
 rw[←h4]
 exact R.inv.hold256 hp
 rw[bB (by rw[R.inv.blen];exact hp)]at h1
 exact absurd (show(2:Int)=0 from congrArg Prod.snd (zI h1)) zD
theorem iL{s:List UInt8}(h:s.length=256)(hy:(GZ (s.take 24)).2=true):(GZ (s.take 24)).1.page=Ih s:=by
 unfold GZ at hy ⊢
 split at hy
 rw[if_pos (by assumption)]
 show(B6 ((s.take 24).drop 0) 4).toUInt32=_
 rw[List.drop_zero,SG s 24 4 zO]
 exact f0 zO
 cases hy
theorem gi{T:List UInt32}{l:List BT}{b:List UInt8}(h:b.length=256)(he:(Fq T l b).2.2=0):(Fq T l b).2.1.length≤256:=by
 have key:∀(h:B7) (u:List UInt8),(FS T l h u).2=0→u.length≤256:=fun h u hs=>by
  unfold FS at hs
  split at hs
  rename_i hn;exact absurd hs hn
  split at hs
  cases hs
  omega
 unfold Fq at he ⊢
 split at he
 cases he
 rw[if_neg (by assumption)]
 split at he
 cases he
 rw[if_neg (by assumption)]
 split at he
 cases he
 rw[if_neg (by assumption)]
 split at he
 rename_i hn;exact absurd he hn
 rw[if_neg (by assumption)]
 split at he
 cases he
 rw[if_neg (by assumption)]
 dsimp only at he ⊢
 split at he
 cases he
 rename_i hn
 rw[if_neg hn]
 refine key (GZ (b.take 24)).1 _ ?_
 by_cases h0:(FS T l (GZ (b.take 24)).1 (E8 (GY (Hf T (C0 l (GZ (b.take 24)).1.gen).1 Hg) (GJ (GZ (b.take 24)).1) ((b.drop 24).take 200))).1).2=0
 exact h0
 exact absurd (.inr (.inl h0)) hn
theorem VR.read(V9:VR N v d w c)(hT:T.length=64)(hn:2097152<n)(r:Ac):∃s e,HF T v d r=some (s,e)∧Gd n T w c r=some (s,e)∧(e=0→s.length≤256):=by
 have hrl:=V9.rlen
 unfold HF Gd
 rw[OJ,bz,U,U,A9]
 cases DY r with
 | false=>exact⟨_,_,rfl,rfl,fun h=>by cases h⟩
 | true=>
  rw[Bool.not_true,BD,BD]
  unfold Nt IB M5 If
  obtain⟨s,e,h1,h2,h3⟩:=V9.dev.read2 r.page
  rw[h1,h2,U,U]
  dsimp only
  cases he:decide (e=0)with
  | false=>
   have:e≠0:=of_decide_eq_false he
   exact⟨_,_,rfl,rfl,fun h=>absurd h this⟩
  | true=>
   have hs:=h3 (of_decide_eq_true he)
   rw[Bool.not_true,BD,BD]
   have hnth:∀i:Nat,i<256→Ao s (i:Int)=some (s.getD i 0):=fun i hi=>by
    rw[Ft,List.getD_eq_getElem?_getD,List.getElem?_eq_getElem zO]
    rfl
   have n0:=hnth 0 zO
   have n1:=hnth 1 zO
   have n2:=hnth 2 zO
   have n3:=hnth 3 zO
   rw[show((0:Nat):Int)=0 from rfl]at n0
   rw[show((1:Nat):Int)=1 from rfl]at n1
   rw[show((2:Nat):Int)=2 from rfl]at n2
   rw[show((3:Nat):Int)=3 from rfl]at n3
   have hp:((s.getD 0 0).toUInt32 ||| shl32 (s.getD 1 0).toUInt32 8 ||| shl32 (s.getD 2 0).toUInt32 16 ||| shl32 (s.getD 3 0).toUInt32 24)=Ih s:=rfl
   have ht:Ta s=some (s.drop 224):=by
    unfold Ta
    rw[if_pos zO,hs]
   have h24:Cz s 0 24=some (s.take 24):=(Dz (l:=s) (i:=0) (j:=24) (p:=0) (q:=24) rfl rfl zO zO).trans rfl
   have h7:Cz s 224 (s.length:Int)=some (s.drop 224):=(Dz (l:=s) (p:=224) (q:=s.length) rfl rfl zO zO).trans (congrArg some (List.take_of_length_le zS))
   rw[n0,n1,n2,n3,U,U,U,U,A9,hp,ht,U,h24,U,lN _ zO,U,h7,U]
   simp only[U,hp]
   rw[G7,U,M6,U]
   have hcond:(((!decide (s.drop 224=r.tag))||((!(GZ (s.take 24)).2) && !decide (Ih s=r.page)))||((GZ (s.take 24)).2 && !decide ((GZ (s.take 24)).1.page=r.page)))=((!decide (s.drop 224=r.tag)) || !decide (Ih s=r.page)):=by
    cases hg:(GZ (s.take 24)).2 with
    | false=>simp
    | true=>
     rw[iL hs hg]
     simp
   rw[hcond]
   cases hc:(!decide (s.drop 224=r.tag)) || !decide (Ih s=r.page)with
   | true=>exact⟨_,_,rfl,rfl,fun h=>by cases h⟩
   | false=>
    rw[BD,BD,V9.ring,qZ T v.ring s hT hrl hn,U]
    have hso:X0 T v.ring s=some (Fq T v.ring s):=if_pos ⟨by omega,by omega⟩
    rw[hso,U]
    exact⟨_,_,rfl,rfl,fun h=>gi hs h⟩
end

section
variable {N n:Nat}{T:List UInt32}{v:Bs}{d:BM}{w:CK}{c:BY}
def Q8(rec_:Dm→Ac→Option Dm):List Ac→Dm→Option Dm
 | [],y=>some y
 | r::l,y=>(rec_ y r).bind fun z=>Q8 rec_ l z
def ZI(rec_:Em→Ac→Option (Int×Em)):List Ac→Em→Option (Int×Em)
 | [],x=>some (0,x)
 | r::l,x=>(rec_ x r).bind fun z=>cond (!decide (z.1=0)) (some z) (ZI rec_ l z.2)
theorem WJ{rec_:Em→Bs→BM→Ac→Option (Int×Em)}{rr:Ac}{y1:List UInt8×Int}{l2:List Ac}(hl:l2.length≤1000):∀(k i m:Nat) (x:Em),i+k=l2.length→k<m→
  Ho v d rr rec_ y1 l2 m (x,(i:Int))=(ZI (fun x r=>rec_ x v d r) (l2.drop i) x).bind fun z=>cond (!decide (z.1=0)) (some z) (MC rr y1 z.2)
 | 0,i,m,x,hi,hm=>by
  obtain⟨m,rfl⟩:∃j,m=j+1:=⟨m-1,by omega⟩
  show D6 v d rr rec_ y1 l2 (Ho v d rr rec_ y1 l2 m) x _=_
  unfold D6
  rw[zf zO,BD,List.drop_eq_nil_of_le zO]
  rfl
 | k+1,i,m,x,hi,hm=>by
  obtain⟨m,rfl⟩:∃j,m=j+1:=⟨m-1,by omega⟩
  show D6 v d rr rec_ y1 l2 (Ho v d rr rec_ y1 l2 m) x _=_
  unfold D6
  have hlt:i<l2.length:=zO
  rw[zt zO,Be,Ft,List.getElem?_eq_getElem hlt,U,List.drop_eq_getElem_cons hlt]
  show _=((rec_ x v d l2[i]).bind fun z=>cond (!decide (z.1=0)) (some z) (ZI (fun x r=>rec_ x v d r) (l2.drop (i+1)) z.2)).bind _
  cases rec_ x v d l2[i]with
  | none=>rfl
  | some z=>
   simp only[U]
   cases hz : !decide (z.1=0)with
   | true=>simp only[Be,U,hz]
   | false=>
    simp only[BD]
    rw[A8 zO zO]
    exact WJ hl k (i+1) m z.2 zO zO
def XQ(P:BR):List Ac:=cond (!decide (P.npage=0)) [⟨P.npage,P.ntag⟩] []
theorem fE{P:BR}(h:CL P=true):V5 P=P.kids++XQ P:=by
 have hr:(P.npage=0∧P.ntag=[])∨DY ⟨P.npage,P.ntag⟩=true:=by
  rcases Sw h with h1 | h1
  exact(EL h h1).2.2.2.2.2.2
  obtain⟨-,-,-,h1,h2,-⟩:=Dr h zO
  exact .inl ⟨h1,h2⟩
 unfold V5 XQ
 rcases hr with⟨h1,h2⟩ | h1
 rw[h1,h2,show Jt ⟨0,[]⟩=true from rfl,if_pos rfl]
 simp
 have h2:=(Du h1).2
 have h3:P.npage≠0:=fun e=>by rw[e]at h2;simp at h2
 rw[zf h3,if_neg (by unfold Jt;simp[h3])]
 rfl
theorem WX{rec_:Dm→CK→BY→Ac→Option Dm}{rr:Ac}{y1:List UInt8×Int}{P:BR}{e0:Int}(hl:P.kids.length≤1000):∀(k i m:Nat) (y:Dm),i+k=P.kids.length→k<m→
  D2 w c rr rec_ y1 (P,e0) m (y,(i:Int))=(Q8 (fun y r=>rec_ y w c r) (P.kids.drop i++XQ P) y).bind fun z=>Da rr y1 z
 | 0,i,m,y,hi,hm=>by
  obtain⟨m,rfl⟩:∃j,m=j+1:=⟨m-1,by omega⟩
  show C8 w c rr rec_ y1 (P,e0) (D2 w c rr rec_ y1 (P,e0) m) y _=_
  unfold C8
  rw[zf (by simp only;omega),BD,List.drop_eq_nil_of_le zO]
  unfold GN XQ
  cases hz : !decide (P.npage=0)with
  | true=>
   simp only[Be,List.nil_append,Q8]
   cases rec_ y w c ⟨P.npage,P.ntag⟩<;>rfl
  | false=>simp only[BD,List.nil_append,Q8,U]
 | k+1,i,m,y,hi,hm=>by
  obtain⟨m,rfl⟩:∃j,m=j+1:=⟨m-1,by omega⟩
  show C8 w c rr rec_ y1 (P,e0) (D2 w c rr rec_ y1 (P,e0) m) y _=_
  unfold C8
  have hlt:i<P.kids.length:=zO
  rw[zt (by simp only;omega),Be,Ft,List.getElem?_eq_getElem hlt,U,List.drop_eq_getElem_cons hlt]
  show _=((rec_ y w c P.kids[i]).bind fun z=>Q8 (fun y r=>rec_ y w c r) (P.kids.drop (i+1)++XQ P) z).bind _
  cases rec_ y w c P.kids[i]with
  | none=>rfl
  | some z=>
   simp only[U]
   rw[A8 zO zO,A9]
   exact WX hl k (i+1) m z zO zO
def M4(x:Em):Dm:=⟨x.out,x.rows,x.count,0⟩
structure d5(x x':Em):Prop where
 le:x.count≤x'.count
 top:x'.count≤2100
 out:(x'.out.length:Int)≤x.out.length+(x'.count-x.count)
 rows:(x'.rows.length:Int)≤x.rows.length+4*(x'.count-x.count)
structure kx(x:Em):Prop where
 pos:0≤x.count
 top:x.count≤2100
 out:(x.out.length:Int)≤x.count
 rows:(x.rows.length:Int)≤4*x.count
theorem kx.grew{x x':Em}(h:kx x)(g:d5 x x'):kx x':=⟨by have:=h.pos;have:=g.le;omega,g.top,by have:=h.out;have:=g.out;omega,by have:=h.rows;have:=g.rows;omega⟩
theorem d5.trans{x y z:Em}(h:d5 x y)(g:d5 y z):d5 x z:=⟨by have:=h.le;have:=g.le;omega,g.top,by have:=h.out;have:=g.out;omega,by have:=h.rows;have:=g.rows;omega⟩
def jw(x:Em)(a:Option (Int×Em))(b:Option Dm):Prop:=∃e x',a=some (e,x')∧((e=0∧d5 x x'∧b=some (M4 x'))∨(e≠0∧∃y',b=some y'∧y'.err=e∧(y'.out.length:Int)≤x.out.length+(2100-x.count)))
theorem WZ{rec2:Dm→Ac→Option Dm}(hs:∀y r,y.err≠0→rec2 y r=some y):∀(l:List Ac) (y:Dm),y.err≠0→Q8 rec2 l y=some y
 | [],_,_=>rfl
 | r::l,y,h=>by
  unfold Q8
  rw[hs y r h,U]
  exact WZ hs l y h
theorem Y8{rec1:Em→Ac→Option (Int×Em)}{rec2:Dm→Ac→Option Dm}{c0:Int}(hr:∀x r,kx x→c0≤x.count→jw x (rec1 x r) (rec2 (M4 x) r))(hs:∀y r,y.err≠0→rec2 y r=some y):
  ∀(l:List Ac) (x:Em),kx x→c0≤x.count→jw x (ZI rec1 l x) (Q8 rec2 l (M4 x))
 | [],x,hx,hc=>⟨0,x,rfl,.inl ⟨rfl,⟨Int.le_refl _,hx.top,by omega,by omega⟩,rfl⟩⟩
 | r::l,x,hx,hc=>by
  obtain⟨e,x',h1,h2⟩:=hr x r hx hc
  unfold ZI Q8
  rw[h1,U]
  rcases h2 with⟨rfl,h3,h4⟩ | ⟨h3,y',h4,h5,h6⟩
  rw[h4,U,show(!decide ((0:Int)=0))=false from rfl,BD]
  obtain⟨e2,x2,g1,g2⟩:=Y8 hr hs l x' (hx.grew h3) (by have:=h3.le;omega)
  refine⟨e2,x2,g1,?_⟩
  rcases g2 with⟨g2,g3,g4⟩ | g2
  exact .inl ⟨g2,h3.trans g3,g4⟩
  obtain⟨g5,y',g6,g7,g8⟩:=g2
  exact .inr ⟨g5,y',g6,g7,by have:=h3.out;omega⟩
  rw[h4,U,zf h3,Bool.not_false,Be]
  exact⟨e,x',rfl,.inr ⟨h3,y',WZ hs l y' (by rw[h5];exact h3),h5,h6⟩⟩
theorem hQ{f:Nat}{y:Dm}{r:Ac}(hf:0<f)(h:y.err≠0):cG n T f y w c r=some y:=by
 obtain⟨f,rfl⟩:∃k,f=k+1:=⟨f-1,by omega⟩
 show EC (cG n T f) n T y w c r=_
 unfold EC
 rw[zf h]
 rfl
theorem Yj(V9:VR N v d w c)(hT:T.length=64)(hn:2097152<n):∀(f:Nat) (x:Em) (r:Ac),kx x→2101≤(f:Int)+x.count→jw x (QR n T f x v d r) (cG n T f (M4 x) w c r)
 | 0,x,r,hx,hf=>by have:=hx.top;omega
 | f+1,x,r,hx,hf=>by
  have h1:=hx.pos
  have h2:=hx.top
  have h3:=hx.out
  have h4:=hx.rows
  show jw x (Pm (QR n T f) n T x v d r) (EC (cG n T f) n T (M4 x) w c r)
  unfold Pm EC
  rw[show(!decide ((M4 x).err=0))=false from rfl,BD]
  by_cases hc:x.count=2100
  rw[zt hc,Be,zt (show 2100≤(M4 x).count by show 2100≤x.count;omega),Be]
  exact⟨61,x,rfl,.inr ⟨by decide,_,rfl,rfl,by show(x.out.length:Int)≤_;omega⟩⟩
  rw[zf hc,BD,zf (show ¬2100≤(M4 x).count by show ¬2100≤x.count;omega),BD]
  obtain⟨s,e,r1,r2,r3⟩:=V9.read hT hn r
  rw[r1,r2,U,U]
  dsimp only
  by_cases he:e=0
  subst he
  rw[show(!decide ((0:Int)=0))=false from rfl,BD,BD,k0 zO (by have:=r3 rfl;omega)]
  rcases WO (n:=n) zO s with⟨P,p1,p2,p3⟩ | ⟨-,p3⟩
  subst p2
  obtain⟨l1,l2⟩:=PN p1
  have hp:=T6 (n:=n) (T:=T) (rec_:=QR n T f) (x:=x) zO p1 r1 h1 zO zO
  unfold Pm at hp
  rw[zf hc,BD,r1,U]at hp
  dsimp only at hp
  rw[show(!decide ((0:Int)=0))=false from rfl,BD]at hp
  rw[hp,p3,U]
  dsimp only
  rw[show(!decide ((0:Int)=0))=false from rfl,BD,show(M4 x).rows=x.rows from rfl,CB zO zO,U]
  have hk:(V5 P).length≤5:=by
   rw[fE p1,List.length_append]
   have:(XQ P).length≤1:=by unfold XQ;cases !decide (P.npage=0)<;>simp
   omega
  have e1:=WJ (v:=v) (d:=d) (rec_:=QR n T f) (rr:=r) (y1:=(Cj P,0)) (l2:=V5 P) zO (V5 P).length 0 n { x with rows:=x.rows++P.rows,count:=x.count+1 } zO zO
  have e2:=WX (w:=w) (c:=c) (rec_:=cG n T f) (rr:=r) (y1:=(Cj P,0)) (P:=P) (e0:=0) zO P.kids.length 0 n (M4 { x with rows:=x.rows++P.rows,count:=x.count+1 }) zO zO
  rw[List.drop_zero]at e1
  rw[List.drop_zero,←fE p1]at e2
  have e3:({ M4 x with rows:=x.rows++P.rows,count:=wI ((M4 x).count+1) }:Dm)=M4 { x with rows:=x.rows++P.rows,count:=x.count+1 }:=by
   show(⟨x.out,x.rows++P.rows,wI (x.count+1),0⟩:Dm)=_
   rw[A8 zO zO]
   rfl
  rw[e3]
  rw[show((0:Nat):Int)=0 from rfl]at e1 e2
  rw[e1,e2]
  have hI:kx { x with rows:=x.rows++P.rows,count:=x.count+1 }:=⟨by simp only;omega,by simp only;omega,by simp only;omega,by simp only[List.length_append];omega⟩
  have hb:=Y8 (c0:=x.count+1) (rec1:=fun x r=>QR n T f x v d r) (rec2:=fun y r=>cG n T f y w c r) (fun x' r' hx' hc'=>Yj V9 hT hn f x' r' hx' zO) (fun y r' hy=>hQ zO hy) (V5 P) _ hI (Int.le_refl _)
  obtain⟨e',x',b1,b2⟩:=hb
  rw[b1,U]
  rcases b2 with⟨rfl,b3,b4⟩ | ⟨b3,y',b4,b5,b6⟩
  rw[b4,U,show(!decide ((0:Int)=0))=false from rfl,BD]
  have g1:=b3.le
  have g2:=b3.top
  have g3:=b3.out
  have g4:=b3.rows
  simp only[List.length_append]at g1 g3 g4
  have ha:Cp 40 x'.out [(⟨Cj P,r.page,r.tag⟩:BG)]=some (x'.out++[(⟨Cj P,r.page,r.tag⟩:BG)]):=CB zQ zQ
  unfold MC Da
  rw[show(M4 x').out=x'.out from rfl,ha,U,U]
  exact⟨0,_,rfl,.inl ⟨rfl,⟨by simp only;omega,g2,by simp only[List.length_append,List.length_singleton];omega,by simp only;omega⟩,rfl⟩⟩
  rw[b4,U,zf b3,Bool.not_false,Be]
  simp only at b6
  have ha:Cp 40 y'.out [(⟨Cj P,r.page,r.tag⟩:BG)]=some (y'.out++[(⟨Cj P,r.page,r.tag⟩:BG)]):=CB zQ zQ
  unfold Da
  rw[ha,U]
  exact⟨e',x',rfl,.inr ⟨b3,_,rfl,b5,by simp only[List.length_append,List.length_singleton];omega⟩⟩
  rw[p3,U]
  exact⟨61,_,rfl,.inr ⟨by decide,_,rfl,rfl,by show(x.out.length:Int)≤_;omega⟩⟩
  rw[zf he,Bool.not_false,Be,Be]
  exact⟨e,_,rfl,.inr ⟨he,_,rfl,rfl,by show(x.out.length:Int)≤_;omega⟩⟩
end

section
structure SR(N:Nat)(p:H5)(q:Za)(k:uj)(w:CK)(c:BY):Prop where
 out:k.out=p.out
 err:k.err=p.wrong
 took:k.took=q.tk
 vr:VR N q.v q.d w c
variable {N n:Nat}{T:List UInt32}{th:List (LO×Ac)}{had:List BG}
theorem UY{x:BR}(hn:10≤n)(hr:x.rows.length<n)(hk:x.kids.length<n)(hb:x.rows.length≤1048576)(hc:x.kids.length≤1048576):∃y,Eh n x=some y:=by
 cases h:CL x with
 | true=>exact⟨_,Qm hn h⟩
 | false=>exact⟨_,Xj hr hk zO zO h⟩
end

section
variable {n:Nat}{M:List BG}
def Ri(l:List AP)(i:Nat):List AP:=(l.drop (4*i)).take (min (4*i+4) l.length-4*i)
theorem aj{l:List AP}{i:Nat}(h:4*i≤l.length):Cz l (4*(i:Int)) (min (l.length:Int) (4*(i:Int)+4))=some (Ri l i):=by
 rw[Dz (p:=4*i) (q:=min (4*i+4) l.length) zO zO zO zO]
 rfl
theorem Xk(l:List AP)(i:Nat):(Ri l i).length≤4:=by
 unfold Ri
 rw[List.length_take]
 omega
structure KR(M:List BG)(p:H5)(q:Int)(k:TL):Prop where
 q:q=(k.out.length:Int)
 le:k.out.length≤M.length
 len:p.out.length=k.out.length
 err:k.err=p.wrong
def PB(M:List BG)(a:Option (Ac×(H5×Int)))(b:Option (Ac×TL)):Prop:=∃r p q k,a=some (r,(p,q))∧b=some (r,k)∧KR M p q k∧(p.wrong≠0→r=⟨0,[]⟩)
theorem TQ{x:BR}(hn:2097152<n)(hb:x.rows.length≤1048576)(hc:x.kids.length≤1048576){k:TL}(he:k.err≠0):Ms n M x k=some (⟨0,[]⟩,k):=by
 obtain⟨y,hy⟩:=UY (n:=n) (x:=x) zO zO zO hb hc
 unfold Ms
 rw[aA zO zO zO hb hc,hy,U,zf he,Bool.and_false,BD]
 unfold P5
 rw[zf he]
 rfl
theorem Wp(hM:M.length≤100000)(hn:2097152<n){x:BR}(hb:x.rows.length≤1048576)(hc:x.kids.length≤1048576){p:H5}{q:Int}{k:TL}(S:KR M p q k)(hpw:p.wrong≠0→True):PB M (Gi n (RV M) x p q) (Ms n M x k):=by
 have h1:=S.le
 have h2:=S.len
 by_cases hw:p.wrong=0
 obtain⟨y,hy⟩:=UY (n:=n) (x:=x) zO zO zO hb hc
 have hk:k.err=0:=by rw[S.err,hw]
 unfold Gi Ms
 rw[aA zO zO zO hb hc,hy,U,U,zt hw,Bool.not_true,BD,zt hk,Bool.and_true]
 by_cases he:y.2=0
 rw[zt he,Be,Bool.not_true,BD,hk]
 unfold RV P5
 rw[show(!decide ((0:Int)=0))=false from rfl,BD,S.q]
 by_cases hl:k.out.length=M.length
 rw[zt (show(k.out.length:Int)=(M.length:Int) by omega),zt (show(M.length:Int)≤(k.out.length:Int) by omega),show ∀z,OF true z=some true from fun z=>rfl,U,U,Be,Be,U]
 exact⟨_,_,_,_,rfl,rfl,⟨rfl,h1,h2,rfl⟩,fun _=>rfl⟩
 have hlt:k.out.length<M.length:=zO
 have hnth:Ao M (k.out.length:Int)=some M[k.out.length]:=by rw[Ft,List.getElem?_eq_getElem hlt]
 rw[zf (show ¬(k.out.length:Int)=(M.length:Int) by omega),zf (show ¬(M.length:Int)≤(k.out.length:Int) by omega),hnth,U,U,M6,U,U,Bool.false_or]
 cases ht : !decide (M[k.out.length].txt=y.1)with
 | true=>
  rw[Be,Be,U]
  exact⟨_,_,_,_,rfl,rfl,⟨rfl,h1,h2,rfl⟩,fun _=>rfl⟩
 | false=>
  rw[BD,BD,A8 (x:=(k.out.length:Int)+1) zO zO,A8 zO zO,show(k.out.length:Int)+1-1=(k.out.length:Int) by omega,hnth,U,U]
  unfold Rm
  dsimp only
  rw[show(!decide ((0:Int)=0))=false from rfl,BD,CB zQ zQ,U,CB zQ zQ,U]
  exact⟨_,_,_,_,rfl,rfl,⟨by simp,by simp only[List.length_append,List.length_singleton];omega,by simp only[List.length_append,List.length_singleton];omega,hw.symm⟩,fun h=>absurd hw h⟩
 rw[zf he,BD,Bool.not_false,Be]
 unfold Rm P5
 dsimp only
 rw[zf he,Bool.not_false,Be,Be]
 exact⟨_,_,_,_,rfl,rfl,⟨S.q,h1,h2,rfl⟩,fun _=>rfl⟩
 rw[TQ hn hb hc (by rw[S.err];exact hw)]
 unfold Gi
 rw[zf hw,Bool.not_false,Be]
 exact⟨_,_,_,_,rfl,rfl,S,fun _=>rfl⟩
theorem UQ(hn:2097152<n){l:List AP}{k:TL}(he:k.err≠0):∀(m:Nat),(∀i,i<m→4*i≤l.length)→Rs (Ms n M) l m ⟨0,[]⟩ k=some (⟨0,[]⟩,k)
 | 0,_=>rfl
 | m+1,h=>by
  have h4:=Xk l m
  unfold Rs
  rw[aj (h m zO),U,TQ hn (show(Ri l m).length≤_ by omega) (Nat.zero_le _) he,U]
  exact UQ hn he m (fun i hi=>h i zO)
theorem Yy(hM:M.length≤100000)(hn:2097152<n){l:List AP}:∀(m:Nat),(∀i,i<m→4*i≤l.length)→∀ {r:Ac} {p:H5} {q:Int} {k:TL},KR M p q k→(p.wrong≠0→r=⟨0,[]⟩)→
  PB M (KD n (RV M) (((List.range m).map (Ri l)).reverse) r p q) (Rs (Ms n M) l m r k)
 | 0,_,r,p,q,k,S,hr=>⟨r,p,q,k,rfl,rfl,S,hr⟩
 | m+1,hm,r,p,q,k,S,hr=>by
  have h4:=Xk l m
  rw[List.range_succ,List.map_append,List.reverse_append]
  simp only[List.map_cons,List.map_nil,List.reverse_cons,List.reverse_nil,List.nil_append,List.cons_append]
  unfold KD Rs
  obtain⟨r1,p1,q1,k1,g1,g2,S1,g3⟩:=Wp hM hn (x:=⟨1,0,0,0,Ri l m,[],r.page,r.tag⟩) (show(Ri l m).length≤_ by omega) (Nat.zero_le _) S zU
  rw[aj (hm m zO),U,g1,g2,U,U]
  dsimp only
  by_cases hw:p1.wrong=0
  rw[zt hw,Bool.not_true,BD]
  exact Yy hM hn m (fun i hi=>hm i zO) S1 g3
  rw[zf hw,Bool.not_false,Be]
  have h0:=g3 hw
  subst h0
  rw[UQ hn (by rw[S1.err];exact hw) m (fun i hi=>hm i zO)]
  exact⟨_,_,_,_,rfl,rfl,S1,g3⟩
theorem YF{rec1:Bc→H5→Int→Option (Ac×(H5×Int))}{rec2:Bc→TL→Option (Ac×TL)}:
  ∀(ks:List Bc),(∀t∈ks,∀ {p q k},KR M p q k→PB M (rec1 t p q) (rec2 t k))→∀ {p:H5} {q:Int} {k:TL} {acc:List Ac},KR M p q k→acc.length+ks.length≤1000→
   ∃l p' q' k',Hc rec1 ks p q acc=some (l,(p',q'))∧Q5 rec2 ks k acc=some (l,k')∧KR M p' q' k'∧l.length=acc.length+ks.length
 | [],_,p,q,k,acc,S,_=>⟨acc,p,q,k,rfl,rfl,S,rfl⟩
 | t::ks,hr,p,q,k,acc,S,hl=>by
  simp only[List.length_cons]at hl
  obtain⟨r1,p1,q1,k1,g1,g2,S1,-⟩:=hr t zS S
  obtain⟨l,p',q',k',i1,i2,i3,i4⟩:=YF ks (fun u hu=>hr u (by simp[hu])) (acc:=acc++[r1]) S1 zQ
  unfold Hc Q5
  rw[g1,g2,U,U]
  dsimp only
  rw[CB zQ zQ,U,U]
  exact⟨l,p',q',k',i1,i2,i3,by rw[i4];simp;omega⟩
theorem YO(hM:M.length≤100000)(hn:2097152<n):∀(f:Nat) (l:List AP) (t:Bc),Tr f l t→l.length≤1000→∀ {p:H5} {q:Int} {k:TL},KR M p q k→PB M (FH n (RV M) f t p q) (Ql (Ms n M) f t k)
 | 0,_,_,h,_,_,_,_,_=>h.elim
 | f+1,l,t,h,hl,p,q,k,S=>by
  obtain⟨b1,b2⟩:=h.rows
  have hkid:∀u∈t.kids,∃l',Tr f l' u∧l'.length≤1000:=fun u hu=>by
   rcases h with⟨rfl,rfl⟩ | ⟨_,c,L,A,⟨_,rfl⟩ | ⟨_,_,ks,rfl,hk⟩⟩
   cases hu
   cases hu
   obtain⟨x,hx,hxu⟩:=hk.right u hu
   exact⟨x,hxu,by have:=(NF hx).length_le;omega⟩
  unfold FH Ql
  rw[if_neg zO,if_neg zO]
  cases hk:decide (0<(t.kids.length:Int))with
  | true=>
   rw[Be,Be]
   obtain⟨ls,p',q',k',i1,i2,i3,i4⟩:=YF (M:=M) (rec1:=FH n (RV M) f) (rec2:=Ql (Ms n M) f) t.kids (fun u hu=>fun S=>by
    obtain⟨l',h1,h2⟩:=hkid u hu
    exact YO hM hn f l' u h1 h2 S) (acc:=[]) S zQ
   rw[i1,i2,U,U]
   exact Wp hM hn (Nat.zero_le _) (show ls.length≤_ by rw[i4];simp;omega) i3 zU
  | false=>
   rw[BD,BD]
   have hm:∀i,i<(max t.rows.length 1-1) / 4+1→4*i≤t.rows.length:=fun i hi=>by omega
   have:=Yy (n:=n) hM hn (l:=t.rows) _ hm (r:=⟨0,[]⟩) S zV
   have e:Jv t.rows=(List.range ((max t.rows.length 1-1) / 4+1)).map (Ri t.rows):=by
    unfold Jv
    by_cases hl:t.rows=[]
    rw[if_pos hl,hl]
    rfl
    have:=List.length_pos_iff.2 hl
    rw[if_neg hl,show(max t.rows.length 1-1) / 4+1=(t.rows.length+3) / 4 by omega]
    rfl
   rw[e]
   exact this
end

section
variable {N n:Nat}{T:List UInt32}{v:Bs}{d:BM}{w:CK}{c:BY}
theorem ST{l:List AP}(h:Cx l=true):l.Pairwise fun a b=>a.id<b.id:=by
 unfold Cx at h
 simp only[Bool.and_eq_true]at h
 exact(Ng l).1 h.1.2
theorem gI(V9:VR N v d w c)(hT:T.length=64)(hn:2097152<n)(r:Ac):∃l s e,Qi n T v d r=some (l,s,e)∧UN n T w c r=some (l,s,e)∧l.length≤10000∧s.length≤10000:=by
 obtain⟨e,x,h1,h2⟩:=Yj V9 hT hn n ⟨[],[],0⟩ r ⟨by simp,by simp,by simp,by simp⟩ (by simp only;omega)
 unfold Qi UN
 rw[show(⟨[],[],0,0⟩:Dm)=M4 ⟨[],[],0⟩from rfl,h1,U]
 dsimp only
 rcases h2 with⟨rfl,g,h3⟩ | ⟨he,y',h3,h4,-⟩
 have g1:=g.top
 have g2:=g.out
 have g3:=g.rows
 simp only[List.length_nil]at g2 g3
 rw[h3,U,show(!decide ((0:Int)=0))=false from rfl,BD,show(!decide ((M4 x).err=0))=false from rfl,BD]
 obtain⟨l1,p1,s1,e1⟩:=Tk (n:=n) x.rows zO zO
 obtain⟨l2,e2,p2,s2⟩:=kZ (n:=n) x.rows zO zO
 rw[e1,show(M4 x).rows=x.rows from rfl,e2,U,U]
 have q1:=p1.length_eq
 have q2:=p2.length_eq
 rw[eU zO zO zO]
 cases hr:Cx l1 with
 | true=>
  have:l2=l1:=Qj l1 l2 (ST hr) (p2.trans p1.symm) s2
  subst this
  obtain⟨t,b1,-,b2⟩:=VZ (n:=n) zO hr
  have hlen:l2.length≤1000:=by
   unfold Cx at hr
   simp only[Bool.and_eq_true,decide_eq_true_eq]at hr
   omega
  rw[b1,U,U]
  dsimp only
  rw[show(!decide ((0:Int)=0))=false from rfl,BD,BD]
  obtain⟨r',p,q,k,c1,c2,c3,-⟩:=YO (M:=x.out) (n:=n) zO hn n l2 t b2 hlen (p:=⟨[],0⟩) (q:=0) (k:=⟨[],0⟩) ⟨rfl,Nat.zero_le _,rfl,rfl⟩
  rw[show(M4 x).out=x.out from rfl,c1,c2,U,U]
  dsimp only
  rw[c3.err,←c3.q]
  unfold ZQ
  cases (!decide (p.wrong=0) || !decide (q=(x.out.length:Int))) || !(decide (r'.page=r.page)&&(decide (r'.tag=r.tag)&&true))with
  | true=>exact⟨_,_,_,rfl,rfl,by simp,by simp⟩
  | false=>exact⟨_,_,_,rfl,rfl,by omega,by omega⟩
 | false=>
  have hr2:Cx l2=false:=by
   cases hr2:Cx l2 with
   | false=>rfl
   | true=>
    have:l1=l2:=Qj l2 l1 (ST hr2) (p1.trans p2.symm) s1
    rw[this,hr2]at hr
    cases hr
  rw[Vn zO zO hr,Vn zO zO hr2,U,U]
  exact⟨_,_,_,rfl,rfl,by simp,by simp⟩
 rw[h3,U,h4,zf he,Bool.not_false,Be,Be]
 exact⟨_,_,_,rfl,rfl,by simp,by simp⟩
end

section
variable {N n:Nat}{T:List UInt32}{th:List (LO×Ac)}{had:List BG}
end

section
variable {N n:Nat}{T:List UInt32}{had:List BG}
end

section
theorem bL:Ke 2200000 T4=some (im,0):=zK
theorem gK(T:List UInt32):KJ 2200000 T=some true:=by
 obtain⟨w,c,hm⟩:=gL (N:=12) (n:=2200000) zO zO zO
 have k1:=V7 (m:=1) zO zO
 obtain⟨t,th,h1,h2,h3,h4⟩:=ko (n:=2200000) (T:=T) (l:=T4) (had:=[]) zO (N:=12) zO (lh zO) (tF 12) k1 al (fun s hs=>by simp at hs) zS (by simp[v0])
 obtain rfl:im=t:=by
  have:=h1.symm.trans bL
  simp only[Option.some.injEq,Prod.mk.injEq,and_true]at this
  exact this.symm
 have hpg:OC 2200000 im=4:=zK
 rcases h4 with⟨r,out,q,e1,e2,e3,e4,e5,e6,e7,_⟩ | ⟨v,d,c,_,e2,_,_⟩
 obtain⟨f1,f2⟩:=il (n:=2200000) zO al h1 h2 e2 e4 e5 e6
 rw[hpg]at e6
 unfold KJ
 rw[show(12:Int)=((12:Nat):Int)from rfl,hm,U,U]
 show(R0 2200000 T v0 (d0 12) T4 []).bind _=_
 rw[e1,U,f1,U]
 dsimp only
 rw[f2,U]
 dsimp only
 have hs:=e4.seals
 have htk:q.tk.length=4:=by
  rw[eQ (fun k=>h3 k) out _ _ e7,e6]
  rfl
 rw[htk]at hs
 show(FZ _ ((IV 2200000 T4 T4).bind _)).bind _=_
 rw[Xb T4 zD zD,U,WE out zO zO]
 unfold PV
 rw[hs,e6]
 rfl
 exfalso
 rw[hpg]at e2
 simp[v0]at e2
end

section
theorem fO{T:List UInt32}{v:Bs}{d:BM}{w:CK}{c:BY}{z:Option (Bs×BM×CK×BY)}{p:UInt32}{t:List UInt8}(hT:T.length=64)(V9:VR 12 v d w c):Qa 2200000 T true (z,true) v d w c p t=some true:=by
 obtain⟨l,s,e,h1,h2,h3,h4⟩:=gI (n:=2200000) V9 hT zO ⟨p,t⟩
 unfold Qa
 rw[h1,h2,U,U]
 dsimp only
 rw[Xb l zO zO,U,G7,U,WE s zO zO,U,G7,U,A9]
 simp
theorem ab{T:List UInt32}{ts:List (List UInt8)}{z:Option (Bs×BM×CK×BY)}(hT:T.length=64):∀(k i m:Nat) {v:Bs} {d:BM} {w:CK} {c:BY} {p:UInt32} {t:List UInt8},i+k=6→k<m→
  VR 12 v d w c→VS 12 i (Fs 1) 1 v d→OW 2200000 T ts true (z,true) m (v,d,w,c,p,t,(i:Int))=some true
 | 0,i,m,v,d,w,c,p,t,hi,hm,V9,S=>by
  obtain⟨m,rfl⟩:∃j,m=j+1:=⟨m-1,by omega⟩
  show Ka 2200000 T ts true (z,true) (OW 2200000 T ts true (z,true) m) v d w c p t (i:Int)=_
  unfold Ka
  rw[zf (show ¬(i:Int)<6 by omega),Bool.and_false,BD]
  exact fO hT V9
 | k+1,i,m,v,d,w,c,p,t,hi,hm,V9,S=>by
  obtain⟨m,rfl⟩:∃j,m=j+1:=⟨m-1,by omega⟩
  show Ka 2200000 T ts true (z,true) (OW 2200000 T ts true (z,true) m) v d w c p t (i:Int)=_
  unfold Ka
  by_cases hlt:i<ts.length
  rw[zt (show(i:Int)<(ts.length:Int) by omega),zt (show(i:Int)<6 by omega),Bool.and_true,Be,Ft,List.getElem?_eq_getElem hlt,U,U]
  have hsl:Cz ts[i] 0 (min (ts[i].length:Int) 198)=some (ts[i].take (min ts[i].length 198)):=(Dz (l:=ts[i]) (p:=0) (q:=min ts[i].length 198) rfl zO zO zO).trans rfl
  rw[hsl,U]
  have hs:(ts[i].take (min ts[i].length 198)).length≤198:=by rw[List.length_take];omega
  have k1:=V7 (m:=1) zO zO
  have tk:Sh 12 v:=⟨V9.tnd,V9.tok⟩
  obtain⟨j,j1,j2,j3,j4⟩:=tk.free zO (by have:=S.tlen;omega)
  obtain⟨v',d',b,e1,S',-⟩:=S.write (T:=T) zO k1 hs j j1 j2 j3 j4
  obtain⟨r,e,v2,d2,w2,c2,g1,g2,V'⟩:=V9.write hT (n:=2200000) zO (s:=ts[i].take (min ts[i].length 198)) zO
  rw[e1]at g1
  obtain⟨rfl,rfl,rfl,rfl⟩:(⟨UInt32.ofNat j,b.drop 224⟩:Ac)=r∧(0:Int)=e∧v'=v2∧d'=d2:=by
   have:=zI g1
   simp only[Prod.mk.injEq]at this
   exact this
  rw[e1,g2,U,U]
  simp only[decide_true,Bool.and_self,Bool.not_true,Bool.or_self,BD]
  rw[A9,A8 zO zO]
  exact ab hT k (i+1) m zO zO V' S'
  rw[zf (show ¬(i:Int)<(ts.length:Int) by omega),Bool.false_and,BD]
  exact fO hT V9
theorem du(T:List UInt32)(ts:List (List UInt8))(hT:T.length=64):dg 2200000 T ts=some true:=by
 unfold dg
 obtain⟨w,c,hm,V9⟩:=eh (N:=12) (n:=2200000) zO zO zO
 rw[gK,U,show(12:Int)=((12:Nat):Int)from rfl,hm,U]
 dsimp only
 rw[U]
 exact ab hT 6 0 2200000 rfl zO V9 (lh zO)
end
end Go.Proofs.YtkibffdipniemaaGreatDoor
