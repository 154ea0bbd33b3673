/- The texts LG5, LG6, S24, GG14, GG15, GG16, GG17, GG18, GG19, GG20, LG7, GG21, GG22, GG23, GG24, GG25, GG26, GG27, GG28, GG29, GG30, GG31, LG1, LG8, LG9, YI, Y1a, YF, V3f, VG1, VG2, LG10, LG11, U1, U2, U3, S25, GG36, one behind the other: walks of the program, and plain laws of what it computes. Conditions: as each theorem says. -/
import Derived.Test.YtpaohlmgfifebaaGreatDoorXE1
import Derived.Test.YtpaohlmgfifebaaGreatDoorXE2
import Derived.Test.YtpaohlmgfifebaaGreatDoorXE3

set_option linter.unusedVariables false
set_option linter.unusedSimpArgs false
set_option maxHeartbeats 4000000
set_option maxRecDepth 100000
namespace Go.Proofs.YtpaohlmgfifebaaGreatDoor
open Go
section
def qd(L:Nat)(r:A3):Nat:=(r.x.toNat / 2^(L-1))%2+2*((r.y.toNat / 2^(L-1))%2)
structure AR(c:Dn)(l:List A3)(L:Nat):Prop where
 lev:c.lev=(L:Int)
 le:L≤31
 cx:c.x.toNat%2^L=0
 cy:c.y.toNat%2^L=0
 lx:c.x.toNat<2147483648
 ly:c.y.toNat<2147483648
 inn:∀r∈l,r.x.toNat / 2^L=c.x.toNat / 2^L∧r.y.toNat / 2^L=c.y.toNat / 2^L
 two:0<L→∃r∈l,∃s∈l,qd L r≠qd L s
theorem U5{r:A3}(h:LL r=true):r.x.toNat<2147483648∧r.y.toNat<2147483648∧r.txt.length≤16:=by
 unfold LL at h
 simp only[Bool.and_eq_true,decide_eq_true_eq]at h
 have:=UInt32.lt_iff_toNat_lt.1 h.1
 rw[NQ]at this
 have h2:max r.x.toNat r.y.toNat<2147483648:=this
 omega
theorem N5{a L:Nat}(h:0<L):a / 2^(L-1) / 2=a / 2^L:=by
 rw[Nat.div_div_eq_div_mul,←Nat.pow_succ,Nat.succ_eq_add_one,Nat.sub_add_cancel h]
theorem cu{n:Nat}{l:List A3}(hl:l≠[])(hn:l.length<n)(hb:l.length≤1000000)(ok:∀r∈l,LL r=true):∃c L,Js n l=some c∧AR c l L:=by
 have key:∀(T S:List A3) (x y u v:UInt32),l=S++T→(∀r∈S,x.toNat≤r.x.toNat∧r.x.toNat≤u.toNat∧y.toNat≤r.y.toNat∧r.y.toNat≤v.toNat)→(∃r∈l,r.x=x)→(∃r∈l,r.y=y)→(∃r∈l,r.x=u)→(∃r∈l,r.y=v)→
   ∀m,T.length<m→∃c L,Hb l m (x,y,u,v,(S.length:Int))=some c∧AR c l L:=by
  intro T
  induction T with
  | nil=>
   intro S x y u v hS hin hx hy hu hv m hm
   obtain⟨m,rfl⟩:∃k,m=k+1:=⟨m-1,by omega⟩
   simp only[List.append_nil]at hS
   subst hS
   obtain⟨rx,hrx,ex⟩:=hx
   obtain⟨ry,hry,ey⟩:=hy
   obtain⟨ru,hru,eu⟩:=hu
   obtain⟨rv,hrv,ev⟩:=hv
   have lx:=(U5 (ok rx hrx)).1
   have ly:=(U5 (ok ry hry)).2.1
   have lu:=(U5 (ok ru hru)).1
   have lv:=(U5 (ok rv hrv)).2.1
   rw[ex]at lx
   rw[ey]at ly
   rw[eu]at lu
   rw[ev]at lv
   obtain⟨L,hL,hle,d1,d2,d3⟩:=mn lx ly lu lv
   have hp:=Nat.two_pow_pos L
   have hcx:=U3 x hL
   have hcy:=U3 y hL
   refine⟨⟨x &&& ~~~(shl32 1 L-1),y &&& ~~~(shl32 1 L-1),L⟩,L,?_,⟨rfl,hL,?_,?_,?_,?_,fun r hr=>?_,fun h0=>?_⟩⟩
   show F3 l (Hb l m) _ _ _ _ _=_
   unfold F3
   dsimp only
   rw[zf zO,Bq]
   unfold LR
   rw[hle,Z]
   show(x &&& ~~~(shl32 1 L-1)).toNat%2^L=0
   rw[hcx]
   exact Nat.mul_mod_left _ _
   show(y &&& ~~~(shl32 1 L-1)).toNat%2^L=0
   rw[hcy]
   exact Nat.mul_mod_left _ _
   show(x &&& ~~~(shl32 1 L-1)).toNat<_
   rw[hcx]
   exact Nat.lt_of_le_of_lt (Nat.div_mul_le_self _ _) lx
   show(y &&& ~~~(shl32 1 L-1)).toNat<_
   rw[hcy]
   exact Nat.lt_of_le_of_lt (Nat.div_mul_le_self _ _) ly
   show r.x.toNat / 2^L=(x &&& ~~~(shl32 1 L-1)).toNat / 2^L∧r.y.toNat / 2^L=(y &&& ~~~(shl32 1 L-1)).toNat / 2^L
   rw[hcx,hcy,Nat.mul_div_cancel _ hp,Nat.mul_div_cancel _ hp]
   obtain⟨a1,a2,a3,a4⟩:=hin r hr
   have b1:=Nat.div_le_div_right (c:=2^L) a1
   have b2:=Nat.div_le_div_right (c:=2^L) a2
   have b3:=Nat.div_le_div_right (c:=2^L) a3
   have b4:=Nat.div_le_div_right (c:=2^L) a4
   omega
   have g1:=N5 (a:=x.toNat) h0
   have g2:=N5 (a:=u.toNat) h0
   have g3:=N5 (a:=y.toNat) h0
   have g4:=N5 (a:=v.toNat) h0
   rcases d3 h0 with d | d
   refine⟨rx,hrx,ru,hru,fun e=>?_⟩
   unfold qd at e
   rw[ex,eu]at e
   omega
   refine⟨ry,hry,rv,hrv,fun e=>?_⟩
   unfold qd at e
   rw[ey,ev]at e
   omega
  | cons r T ih=>
   intro S x y u v hS hin hx hy hu hv m hm
   obtain⟨m,rfl⟩:∃k,m=k+1:=⟨m-1,by omega⟩
   have hlen:l.length=S.length+(T.length+1):=by rw[hS];simp
   have hr:r∈l:=by rw[hS];simp
   have n1:A1 l (S.length:Int)=some r:=by
    rw[L5 rfl,hS]
    simp
   have hmin:∀a b:UInt32,min a b=a∨min a b=b:=fun a b=>by
    show(if a≤b then a else b)=a∨(if a≤b then a else b)=b
    split
    exact .inl rfl
    exact .inr rfl
   have hmax:∀a b:UInt32,max a b=a∨max a b=b:=fun a b=>by
    show(if a≤b then b else a)=a∨(if a≤b then b else a)=b
    split
    exact .inr rfl
    exact .inl rfl
   obtain⟨c,L,hc,hA⟩:=ih (S++[r]) (min x r.x) (min y r.y) (max u r.x) (max v r.y) (by rw[hS];simp) (fun q hq=>by
    rw[av,av,NQ,NQ]
    rcases List.mem_append.1 hq with hq | hq
    have:=hin q hq
    omega
    rw[List.mem_singleton.1 hq]
    omega) (by
    rcases hmin x r.x with e | e<;>rw[e]
    exact hx
    exact⟨r,hr,rfl⟩) (by
    rcases hmin y r.y with e | e<;>rw[e]
    exact hy
    exact⟨r,hr,rfl⟩) (by
    rcases hmax u r.x with e | e<;>rw[e]
    exact hu
    exact⟨r,hr,rfl⟩) (by
    rcases hmax v r.y with e | e<;>rw[e]
    exact hv
    exact⟨r,hr,rfl⟩) m (by simp at hm;omega)
   refine⟨c,L,?_,hA⟩
   show F3 l (Hb l m) _ _ _ _ _=_
   unfold F3
   dsimp only
   rw[zt zO,Ch,n1,Z,BE,BE,BE,BE,BV zO zO]
   rw[show((S++[r]).length:Int)=(S.length:Int)+1 by simp only[List.length_append,List.length_singleton];omega]at hc
   exact hc
 obtain⟨r0,l0,rfl⟩:∃r0 l0,l=r0::l0:=by
  cases l with
  | nil=>exact absurd rfl hl
  | cons r0 l0=>exact⟨r0,l0,rfl⟩
 obtain⟨c,L,hc,hA⟩:=key (r0::l0) [] r0.x r0.y r0.x r0.y rfl zS ⟨r0,by simp,rfl⟩ ⟨r0,by simp,rfl⟩ ⟨r0,by simp,rfl⟩ ⟨r0,by simp,rfl⟩ n hn
 refine⟨c,L,?_,hA⟩
 unfold Js
 have n0:A1 (r0::l0) 0=some r0:=rfl
 rw[n0,Z,Z,Z,Z]
 exact hc
theorem size_eq{c:Dn}{L:Nat}(h:c.lev=(L:Int)):JD c=some (shl64 1 L):=by
 unfold JD Q6
 rw[h,if_pos zO,Z,BE]
 rfl
theorem ak{L:Nat}(h:L≤31):(shl64 1 L).toNat=2^L:=by
 simp only[shl64,UInt64.toNat_ofNat',Nat.min_eq_left (show L≤64 by omega)]
 have:2^L≤2^31:=Nat.pow_le_pow_right zD h
 rw[show(1:UInt64).toNat=1 from rfl,Nat.one_mul]
 exact Nat.mod_eq_of_lt (Nat.lt_of_le_of_lt this zD)
theorem pH{L:Nat}(h:L≤31):(shl64 1 L-1).toUInt32.toNat=2^L-1:=by
 have h1:=ak h
 have h2:=Nat.two_pow_pos L
 have h3:2^L≤2^31:=Nat.pow_le_pow_right zD h
 rw[UInt64.toNat_toUInt32,UInt64.toNat_sub_of_le _ _ (by rw[UInt64.le_iff_toNat_le,h1];exact h2),h1]
 show(2^L-1)%4294967296=_
 exact Nat.mod_eq_of_lt zO
theorem Zr{c:Dn}{L:Nat}(h:c.lev=(L:Int))(hL:L≤31)(hx:c.x.toNat%2^L=0)(hy:c.y.toNat%2^L=0)(lx:c.x.toNat<2147483648)(ly:c.y.toNat<2147483648):QD c=true:=by
 unfold QD
 rw[h,show(decide ((L:Int)<0)||decide (31<(L:Int)))=false by simp;omega,Bq,Int.toNat_natCast,Bool.and_eq_true,decide_eq_true_eq,decide_eq_true_eq]
 constructor
 apply UInt32.toNat_inj.1
 rw[UInt32.toNat_and,pH hL,UInt32.toNat_or,Nat.and_two_pow_sub_one_eq_mod,Nat.or_mod_two_pow,hx,hy]
 rfl
 rw[UInt32.lt_iff_toNat_lt,NQ]
 show max _ _<2147483648
 omega
theorem AR.ok{c:Dn}{l:List A3}{L:Nat}(A:AR c l L):QD c=true:=Zr A.lev A.le A.cx A.cy A.lx A.ly
theorem XC{a P:Nat}(hP:a%P=0)(ha:a<2147483648)(hd:∃k,k*P=2147483648):a+P≤2147483648:=by
 obtain⟨k,hk⟩:=hd
 have h1:a=a / P*P:=by
  have:=Nat.div_add_mod a P
  rw[hP,Nat.add_zero,Nat.mul_comm]at this
  exact this.symm
 have h2:a / P<k:=by
  rcases Nat.lt_or_ge (a / P) k with h | h
  exact h
  have:=Nat.mul_le_mul_right P h
  omega
 have h3:(a / P+1)*P≤k*P:=Nat.mul_le_mul_right P h2
 rw[Nat.add_mul,Nat.one_mul]at h3
 omega
theorem TB{L:Nat}(h:L≤31):∃k,k*2^L=2147483648:=⟨2^(31-L),by rw[←Nat.pow_add,Nat.sub_add_cancel h]⟩
theorem gh{a q P:Nat}(hP:0<P)(hq:q%P=0):(q≤a∧a≤q+(P-1))↔a / P=q / P:=by
 have h1:q=q / P*P:=by
  have:=Nat.div_add_mod q P
  rw[hq,Nat.add_zero,Nat.mul_comm]at this
  exact this.symm
 have h2:=Nat.div_add_mod a P
 have h3:=Nat.mod_lt a hP
 constructor
 rintro⟨g1,g2⟩
 have g3:q / P≤a / P:=Nat.div_le_div_right g1
 have g4:a / P<q / P+1:=by
  refine(Nat.div_lt_iff_lt_mul hP).2 ?_
  rw[Nat.add_mul,Nat.one_mul,←h1]
  omega
 omega
 intro g
 rw[g,Nat.mul_comm,←h1]at h2
 omega
theorem gK{q:Dn}{M:Nat}(x y:UInt32)(h:q.lev=(M:Int))(hM:M≤31)(hx:q.x.toNat%2^M=0)(hy:q.y.toNat%2^M=0)(lx:q.x.toNat<2147483648)(ly:q.y.toNat<2147483648):
  N6 q x y=some (decide (x.toNat / 2^M=q.x.toNat / 2^M)&&decide (y.toNat / 2^M=q.y.toNat / 2^M)):=by
 have hp:=Nat.two_pow_pos M
 have mx:=XC hx lx (TB hM)
 have my:=XC hy ly (TB hM)
 have hf:=pH hM
 have ex:(q.x+(shl64 1 M-1).toUInt32).toNat=q.x.toNat+(2^M-1):=by rw[UInt32.toNat_add,hf];omega
 have ey:(q.y+(shl64 1 M-1).toUInt32).toNat=q.y.toNat+(2^M-1):=by rw[UInt32.toNat_add,hf];omega
 unfold N6
 rw[Rh,Zr h hM hx hy lx ly,Z]
 unfold RM Su MQ
 rw[size_eq h]
 simp only[Z,BE,E3,Ch]
 congr 1
 rw[Bool.eq_iff_iff]
 simp only[Bool.and_eq_true,decide_eq_true_eq,UInt32.le_iff_toNat_le,UInt32.lt_iff_toNat_lt,NQ,ex,ey,←gh hp hx,←gh hp hy]
 constructor
 rintro⟨⟨⟨⟨_,h1⟩,h2⟩,h3⟩,h4⟩
 exact⟨⟨h1,h2⟩,h3,h4⟩
 rintro⟨⟨h1,h2⟩,h3,h4⟩
 refine⟨⟨⟨⟨⟨⟨by omega,by omega⟩,?_⟩,h1⟩,h2⟩,h3⟩,h4⟩
 show max _ _<2147483648
 omega
theorem nf{c:Dn}{l:List A3}{L:Nat}(A:AR c l L)(h0:0<L){r:A3}(hr:r∈l):HI c r.x r.y=some ((qd L r:Int),0):=by
 have hL:=A.le
 have hp:=Nat.two_pow_pos (L-1)
 obtain⟨i1,i2⟩:=A.inn r hr
 have mx:=XC A.cx A.lx (TB hL)
 have my:=XC A.cy A.ly (TB hL)
 have e2:2^L=2^(L-1)*2:=by rw[←Nat.pow_succ,Nat.succ_eq_add_one,Nat.sub_add_cancel h0]
 have hh:(shl64 1 L / 2).toUInt32.toNat=2^(L-1):=by
  rw[UInt64.toNat_toUInt32,UInt64.toNat_div,ak hL,show(2:UInt64).toNat=2 from rfl,e2,Nat.mul_div_cancel _ zD]
  show _%4294967296=_
  have:2^(L-1)≤2^31:=Nat.pow_le_pow_right zD zO
  exact Nat.mod_eq_of_lt zO
 have hx2:c.x.toNat%2^(L-1)=0:=by
  have:=A.cx
  rw[e2]at this
  rw[←Nat.mod_mul_right_mod c.x.toNat (2^(L-1)) 2,this]
  simp
 have hy2:c.y.toNat%2^(L-1)=0:=by
  have:=A.cy
  rw[e2]at this
  rw[←Nat.mod_mul_right_mod c.y.toNat (2^(L-1)) 2,this]
  simp
 have gx:=N5 (a:=c.x.toNat) h0
 have gy:=N5 (a:=c.y.toNat) h0
 have rx:=N5 (a:=r.x.toNat) h0
 have ry:=N5 (a:=r.y.toNat) h0
 have cxe:c.x.toNat / 2^(L-1)%2=0:=by
  have:=A.cx
  rw[e2,Nat.mod_mul]at this
  have h5:2^(L-1)*(c.x.toNat / 2^(L-1)%2)=0:=zO
  rcases Nat.mul_eq_zero.1 h5 with h6 | h6
  omega
  exact h6
 have cye:c.y.toNat / 2^(L-1)%2=0:=by
  have:=A.cy
  rw[e2,Nat.mod_mul]at this
  have h5:2^(L-1)*(c.y.toNat / 2^(L-1)%2)=0:=zO
  rcases Nat.mul_eq_zero.1 h5 with h6 | h6
  omega
  exact h6
 generalize hhd:(shl64 1 L / 2).toUInt32=hf at hh
 
 have c0:∀a:UInt32,(a+hf*0)=a:=fun a=>by simp
 have c1:∀a:UInt32,a.toNat+2^L≤2147483648→(a+hf*1).toNat=a.toNat+2^(L-1):=fun a ha=>by
  rw[UInt32.mul_one,UInt32.toNat_add,hh]
  rw[e2]at ha
  omega
 have m1:∀a:Nat,a%2^(L-1)=0→(a+2^(L-1))%2^(L-1)=0:=fun a ha=>by simp[ha]
 have d1:∀a:Nat,(a+2^(L-1)) / 2^(L-1)=a / 2^(L-1)+1:=fun a=>Nat.add_div_right a hp
 have hlev:wI (c.lev-1)=((L-1:Nat):Int):=by rw[A.lev,BV zO zO];omega
 have hasq:∀(qx qy:UInt32) (bx by_:Nat),qx.toNat=c.x.toNat+bx*2^(L-1)→qy.toNat=c.y.toNat+by_*2^(L-1)→bx≤1→by_≤1→
   N6 ⟨qx,qy,((L-1:Nat):Int)⟩ r.x r.y=some (decide (r.x.toNat / 2^(L-1)%2=bx)&&decide (r.y.toNat / 2^(L-1)%2=by_)):=by
  intro qx qy bx by_ e1 e3 hbx hby
  have hxm:qx.toNat%2^(L-1)=0:=by
   rw[e1,Nat.add_mul_mod_self_right]
   exact hx2
  have hym:qy.toNat%2^(L-1)=0:=by
   rw[e3,Nat.add_mul_mod_self_right]
   exact hy2
  have bxl:bx*2^(L-1)≤2^(L-1):=by
   calc bx*2^(L-1)≤1*2^(L-1):=Nat.mul_le_mul_right _ hbx
    _=2^(L-1):=Nat.one_mul _
  have byl:by_*2^(L-1)≤2^(L-1):=by
   calc by_*2^(L-1)≤1*2^(L-1):=Nat.mul_le_mul_right _ hby
    _=2^(L-1):=Nat.one_mul _
  rw[gK (M:=L-1) r.x r.y rfl zO hxm hym (by rw[e1];omega) (by rw[e3];omega)]
  have f1:qx.toNat / 2^(L-1)=c.x.toNat / 2^(L-1)+bx:=by rw[e1];exact Nat.add_mul_div_right _ _ hp
  have f2:qy.toNat / 2^(L-1)=c.y.toNat / 2^(L-1)+by_:=by rw[e3];exact Nat.add_mul_div_right _ _ hp
  congr 2
  rw[decide_eq_decide]
  show r.x.toNat / 2^(L-1)=qx.toNat / 2^(L-1)↔_
  rw[f1]
  omega
  rw[decide_eq_decide]
  show r.y.toNat / 2^(L-1)=qy.toNat / 2^(L-1)↔_
  rw[f2]
  omega
 unfold HI eq WA
 rw[Z,Rh,A.ok,Z,show(!true||decide (c.lev=0))=false by rw[A.lev];simp;omega,Bq,size_eq A.lev,Z]
 have hq:TF (shl64 1 L) 2=some (shl64 1 L / 2):=by
  unfold TF
  rw[if_neg zD]
 rw[hq,Z,Z,hhd]
 unfold GV
 rw[hlev,c0,c0]
 have q00:=hasq c.x c.y 0 0 zS zS zO zO
 have q10:=hasq (c.x+hf*1) c.y 1 0 (by rw[c1 _ mx];omega) zS zO zO
 have q01:=hasq c.x (c.y+hf*1) 0 1 zS (by rw[c1 _ my];omega) zO zO
 have q11:=hasq (c.x+hf*1) (c.y+hf*1) 1 1 (by rw[c1 _ mx];omega) (by rw[c1 _ my];omega) zO zO
 unfold MS qd
 simp only[XF,KP,q00,q10,q01,q11,Z]
 have bx:=Nat.mod_two_eq_zero_or_one (r.x.toNat / 2^(L-1))
 have by_:=Nat.mod_two_eq_zero_or_one (r.y.toNat / 2^(L-1))
 rcases bx with bx | bx<;>rcases by_ with by_ | by_<;>rw[bx,by_]<;>rfl
end

section
inductive WI {α β:Type} (R:α→β→Prop):List α→List β→Prop
 | nil:WI R [] []
 | cons {a b xs ys}:R a b→WI R xs ys→WI R (a::xs) (b::ys)
theorem WI.length{α β:Type}{R:α→β→Prop}{xs:List α}{ys:List β}(h:WI R xs ys):xs.length=ys.length:=by
 induction h with
 | nil=>rfl
 | cons _ _ ih=>simp[ih]
def RW(L:Nat)(l:List A3):List (List A3):=[l.filter fun r=>decide (qd L r=0),l.filter fun r=>decide (qd L r=1),l.filter fun r=>decide (qd L r=2),l.filter fun r=>decide (qd L r=3)]
def Ok(L:Nat)(l:List A3):List (List A3):=(RW L l).filter fun p => !p.isEmpty
theorem jk(L:Nat)(r:A3):qd L r<4:=by
 unfold qd
 omega
theorem cN{c:Dn}{l:List A3}{L:Nat}(A:AR c l L)(h0:0<L):∀(T:List A3) (p:P4),(∀r∈T,r∈l)→p.1.length+p.2.1.length+p.2.2.1.length+p.2.2.2.length+T.length≤100000→
  Nv c T p=some (p.1++T.filter (fun r=>decide (qd L r=0)),p.2.1++T.filter (fun r=>decide (qd L r=1)),p.2.2.1++T.filter (fun r=>decide (qd L r=2)),p.2.2.2++T.filter (fun r=>decide (qd L r=3)))
 | [],p,_,_=>by simp[Nv]
 | r::T,p,hT,hb=>by
  simp only[List.length_cons]at hb
  have hw:=nf A h0 (hT r zS)
  have h4:=jk L r
  have ih:=fun p hp=>cN A h0 T p (fun q hq=>hT q (by simp[hq])) hp
  unfold Nv U4
  rw[hw,Z]
  dsimp only
  rcases(show qd L r=0∨qd L r=1∨qd L r=2∨qd L r=3 by omega)with e | e | e | e
  rw[e,if_pos (show((0:Nat):Int)=0 from rfl),FA zQ zQ,Z,Z,ih _ zQ]
  simp[e]
  rw[e,if_neg zD,if_pos (show((1:Nat):Int)=1 from rfl),FA zQ zQ,Z,Z,ih _ zQ]
  simp[e]
  rw[e,if_neg zD,if_neg zD,if_pos (show((2:Nat):Int)=2 from rfl),FA zQ zQ,Z,Z,ih _ zQ]
  simp[e]
  rw[e,if_neg zD,if_neg zD,if_neg zD,if_pos (show((3:Nat):Int)=3 from rfl),FA zQ zQ,Z,Z,ih _ zQ]
  simp[e]
theorem en(L:Nat)(l:List A3):(RW L l).flatten.Perm l:=by
 unfold RW
 simp only[List.flatten_cons,List.flatten_nil,List.append_nil]
 induction l with
 | nil=>exact List.Perm.refl _
 | cons r l ih=>
  have h4:=jk L r
  rcases(show qd L r=0∨qd L r=1∨qd L r=2∨qd L r=3 by omega)with e | e | e | e<;>simp only[List.filter_cons,e,decide_true,if_true]<;>simp only[show decide ((0:Nat)=1)=false from rfl,show decide ((0:Nat)=2)=false from rfl,show decide ((0:Nat)=3)=false from rfl,show decide ((1:Nat)=0)=false from rfl,show decide ((1:Nat)=2)=false from rfl,show decide ((1:Nat)=3)=false from rfl,show decide ((2:Nat)=0)=false from rfl,show decide ((2:Nat)=1)=false from rfl,show decide ((2:Nat)=3)=false from rfl,show decide ((3:Nat)=0)=false from rfl,show decide ((3:Nat)=1)=false from rfl,show decide ((3:Nat)=2)=false from rfl,Bool.false_eq_true,if_false]
  all_goals
   refine List.perm_iff_count.2 fun x=>?_
   have:=List.perm_iff_count.1 ih x
   simp only[List.count_append,List.count_cons]at this ⊢
   omega
theorem Wu(ps:List (List A3)):(ps.filter fun p => !p.isEmpty).flatten=ps.flatten:=by
 induction ps with
 | nil=>rfl
 | cons p ps ih=>
  cases p with
  | nil=>simpa using ih
  | cons r p=>simp[ih]
theorem YT(L:Nat)(l:List A3):(Ok L l).flatten.Perm l:=by
 unfold Ok
 rw[Wu]
 exact en L l
theorem TC{L:Nat}{l p:List A3}(h:p∈Ok L l):p≠[]∧∃i,p=l.filter fun r=>decide (qd L r=i):=by
 unfold Ok at h
 obtain⟨h1,h2⟩:=List.mem_filter.1 h
 refine⟨by simpa using h2,?_⟩
 unfold RW at h1
 simp only[List.mem_cons,List.not_mem_nil,or_false]at h1
 rcases h1 with rfl | rfl | rfl | rfl
 exact⟨0,rfl⟩
 exact⟨1,rfl⟩
 exact⟨2,rfl⟩
 exact⟨3,rfl⟩
theorem TD{L:Nat}{l p:List A3}(h:p∈Ok L l):p.Sublist l:=by
 obtain⟨_,i,rfl⟩:=TC h
 exact List.filter_sublist ..
theorem V8(L:Nat)(l:List A3):(Ok L l).length≤4:=by
 unfold Ok
 exact Nat.le_trans (List.length_filter_le ..) (Nat.le_refl 4)
theorem Zz{L:Nat}{l:List A3}{r:A3}(h:r∈l):(l.filter fun s=>decide (qd L s=qd L r))∈Ok L l:=by
 have h4:=jk L r
 unfold Ok
 refine List.mem_filter.2 ⟨?_,?_⟩
 unfold RW
 rcases(show qd L r=0∨qd L r=1∨qd L r=2∨qd L r=3 by omega)with e | e | e | e<;>rw[e]<;>simp
 have:r∈l.filter fun s=>decide (qd L s=qd L r):=List.mem_filter.2 ⟨h,by simp⟩
 cases hx:l.filter fun s=>decide (qd L s=qd L r)with
 | nil=>rw[hx]at this;simp at this
 | cons a b=>rfl
theorem TE{c:Dn}{l:List A3}{L:Nat}(A:AR c l L)(h0:0<L):2≤(Ok L l).length∧∀p∈Ok L l,p.length<l.length:=by
 obtain⟨r,hr,s,hs,hne⟩:=A.two h0
 have h1:=Zz (L:=L) hr
 have h2:=Zz (L:=L) hs
 have hd:(l.filter fun q=>decide (qd L q=qd L r))≠(l.filter fun q=>decide (qd L q=qd L s)):=by
  intro e
  have:r∈l.filter fun q=>decide (qd L q=qd L r):=List.mem_filter.2 ⟨hr,by simp⟩
  rw[e]at this
  have:=(List.mem_filter.1 this).2
  simp only[decide_eq_true_eq]at this
  exact hne this
 constructor
 rcases hq:Ok L l with _ | ⟨a,_ | ⟨b,q⟩⟩
 rw[hq]at h1;simp at h1
 rw[hq]at h1 h2
 simp only[List.mem_singleton]at h1 h2
 exact absurd (h1.trans h2.symm) hd
 simp
 intro p hp
 obtain⟨_,i,rfl⟩:=TC hp
 have:∃q∈l,qd L q≠i:=by
  by_cases e:qd L r=i
  exact⟨s,hs,fun e'=>hne (e.trans e'.symm)⟩
  exact⟨r,hr,e⟩
 obtain⟨q,hq,hqi⟩:=this
 rcases Nat.lt_or_ge (l.filter fun r=>decide (qd L r=i)).length l.length with h | h
 exact h
 have:=(List.filter_sublist (p:=fun r=>decide (qd L r=i)) (l:=l)).eq_of_length_le h
 have h5:=List.filter_eq_self.1 this q hq
 simp only[decide_eq_true_eq]at h5
 exact absurd h5 hqi
def Tr:Nat→List A3→DB→Prop
 | 0,_,_=>False
 | f+1,l,t=>(l=[]∧t=.mk 0 0 0 [] [])∨(l≠[]∧∃c L,AR c l L∧(((l.length≤4∨L=0)∧t=.mk c.x c.y c.lev l [])∨
   (4<l.length∧0<L∧∃ks,t=.mk c.x c.y c.lev [] ks∧WI (Tr f) (Ok L l) ks)))
theorem aO{rec_:List A3→Option DB}{R:List A3→DB→Prop}:∀(ps:List (List A3)) (acc:List DB),(∀p∈ps,p≠[]→∃t,rec_ p=some t∧R p t)→acc.length+ps.length≤1000→∃ks,Gv rec_ ps acc=some (acc++ks)∧WI R (ps.filter fun p => !p.isEmpty) ks
 | [],acc,_,_=>⟨[],by simp[Gv],.nil⟩
 | p::ps,acc,h,hb=>by
  simp only[List.length_cons]at hb
  unfold Gv
  cases p with
  | nil=>
   obtain⟨ks,h1,h2⟩:=aO ps acc (fun q hq=>h q (by simp[hq])) zO
   exact⟨ks,by simpa using h1,by simpa using h2⟩
  | cons r p=>
   obtain⟨t,ht,hR⟩:=h (r::p) zS zS
   obtain⟨ks,h1,h2⟩:=aO ps (acc++[t]) (fun q hq=>h q (by simp[hq])) zQ
   refine⟨t::ks,?_,?_⟩
   rw[zt (by simp only[List.length_cons];omega),Ch,ht,Z,FA zQ zQ,Z,h1]
   simp
   simp only[List.filter_cons,List.isEmpty_cons,Bool.not_false,if_true]
   exact .cons hR h2
theorem iO{n:Nat}:∀(f:Nat) (l:List A3),l.length<f→(∀r∈l,LL r=true)→l.length≤1000→l.length<n→∃t,Je n f l=some t∧Tr f l t
 | 0,l,h,_,_,_=>by omega
 | f+1,l,h,ok,hb,hn=>by
  unfold Je
  rw[if_neg zO]
  by_cases hl:l=[]
  subst hl
  exact⟨.mk 0 0 0 [] [],rfl,.inl ⟨rfl,rfl⟩⟩
  have hp:=List.length_pos_iff.2 hl
  obtain⟨c,L,hc,A⟩:=cu hl hn zO ok
  rw[zf zO,Bq,hc,Z]
  by_cases hleaf:l.length≤4∨L=0
  rw[show(decide ((l.length:Int)≤4)||decide (c.lev=0))=true by rw[A.lev];simp;omega,Ch]
  unfold PS
  rw[FA zQ zQ,Z]
  exact⟨_,rfl,.inr ⟨hl,c,L,A,.inl ⟨hleaf,rfl⟩⟩⟩
  have h0:0<L:=zO
  rw[show(decide ((l.length:Int)≤4)||decide (c.lev=0))=false by rw[A.lev];simp;omega,Bq,cN A h0 l _ (fun r hr=>hr) zQ,Z]
  simp only[List.nil_append]
  obtain⟨_,h2⟩:=TE A h0
  obtain⟨ks,h3,h4⟩:=aO (rec_:=Je n f) (R:=Tr f) (RW L l) [] (fun p hp' hne=>by
   have hq:p∈Ok L l:=List.mem_filter.2 ⟨hp',by simpa using hne⟩
   have:=h2 p hq
   exact iO f p zO (fun r hr=>ok r ((TD hq).subset hr)) zO zO) (by simp[RW])
  unfold RW at h3
  rw[h3,Z]
  exact⟨_,rfl,.inr ⟨hl,c,L,A,.inr ⟨by omega,h0,ks,by simp,h4⟩⟩⟩
theorem mS{n:Nat}{l:List A3}(hn:1002≤n)(h:Er l=true):∃t,Ux n l=some (t,0)∧Je n n l=some t∧Tr n l t:=by
 have h':=h
 unfold Er at h'
 simp only[Bool.and_eq_true,decide_eq_true_eq]at h'
 have hb:l.length≤1000:=zO
 obtain⟨t,h1,h2⟩:=iO (n:=n) n l zO (fun r hr=>List.all_eq_true.1 h'.1.1 r hr) hb zO
 refine⟨t,?_,h1,h2⟩
 unfold Ux
 rw[NN l zO zO,Z,h,Bool.not_true,Bq,h1,Z]
end

section
variable {P:Program}{ro:Option Nat}{K:Nat→Prop}{w0:World}{N:Nat}{Q:Eg}{D:List Nat}{l l':Tm}{H H' Hs:List Ab}{ops:Array Oper}{items:I5}
variable {tk:Bool}{o:Oper}{t:Nat}{v:Value}{x y z u:Operand}
theorem rK{b off n c sz:Nat}{k k' k'':IntKind}{i j m:Int}{ty e:TypeId}(p q:Nat)(ho:At ops N l o t (.slice ty x (some y) (some z) (some u)))(hty:P.underlying ty=some (.slice e))(hsz:Ee P e=some sz)(hx:B4 l x=some (.slice (some ⟨b,off,none⟩) n c))(hy:B4 l y=some (.int k i))(hz:B4 l z=some (.int k' j))(hu:B4 l u=some (.int k'' m))
(hi:i=(p:Int))(hj:j=(q:Int))(hm:m=(q:Int))(hp:p<q)(hq:q≤c)(h:SL P ro K w0 N ops Hs items Q D ((t,.slice (some ⟨b,off+p*sz,none⟩) (q-p) (q-p))::l) H):SL P ro K w0 N ops Hs (.cons (tk,o) items) Q D l H:=
 SL.val ho rfl (fun a w ha _=>by
  subst hi hj hm
  have hle:p≤q:=Nat.le_of_lt hp
  have hne:¬q=p:=zO
  simp only[execOp,ho.op,Instr.sliceAt,Instr.slice,Option.map]
  simp[ha.eval hx,ha.eval hy,ha.eval hz,ha.eval hu,A8 hty,Dc hsz,Instr.sliceBounds,Instr.sliceBound,asIntOf,hq,hle,hne,Dd]) h
theorem CR.piece{α:Type}{enc:α→List Value}{sz b off n cap:Nat}{xs:List α}(h:CR K w0 enc sz (.slice (some ⟨b,off,none⟩) n cap) xs)(p q:Nat)(hpq:p≤q)(hq:q≤xs.length):CR K w0 enc sz (.slice (some ⟨b,off+p*sz,none⟩) (q-p) (q-p)) ((xs.drop p).take (q-p)):=by
 have hl:((xs.drop p).take (q-p)).length=q-p:=by simp;omega
 refine⟨h.len,?_⟩
 rcases h.at_ with⟨a0,e,rfl⟩ | ⟨b',off',cap',e,hcap,hc⟩
 have:q=0:=by simpa using hq
 subst this
 obtain rfl:p=0:=zO
 exact .inl ⟨_,rfl,by simp⟩
 simp only[Value.slice.injEq,Option.some.injEq,Addr.mk.injEq]at e
 obtain⟨⟨rfl,rfl,_⟩,_,_⟩:=e
 refine .inr ⟨b,off+p*sz,q-p,by rw[hl],by omega,fun j u hu=>?_⟩
 have hfl:(xs.take p).flatMap enc++(((xs.drop p).take (q-p)).flatMap enc++((xs.drop p).drop (q-p)).flatMap enc)=xs.flatMap enc:=by
  rw[←List.flatMap_append,List.take_append_drop,←List.flatMap_append,List.take_append_drop]
 have hj:j<(((xs.drop p).take (q-p)).flatMap enc).length:=(List.getElem?_eq_some_iff.1 hu).1
 have hpl:((xs.take p).flatMap enc).length=p*sz:=by
  rw[Kd h.len,List.length_take,Nat.min_eq_left zO]
 have:=hc (p*sz+j) u (by
  rw[←hfl,List.getElem?_append_right zO,hpl,Nat.add_sub_cancel_left,List.getElem?_append_left hj]
  exact hu)
 rw[Nat.add_assoc]
 exact this
end

section
variable {K:Nat→Prop}{w0:World}{H:List Ab}
theorem Hm{A B R M:List Ab}{w:World}(h:Br K w0 ((A++(B++R))++M) w):Br K w0 ((B++(A++R))++M) w:=by
 refine h.perm (List.Perm.append_right _ ?_)
 rw[←List.append_assoc,←List.append_assoc]
 exact List.Perm.append_right _ List.perm_append_comm
structure Mm where
 out:List BU
 wrong:Int
abbrev Yb(σ:Type):=σ→List UInt8→Option ((Bo×Int)×σ)
def ik{σ:Type}(T:List UInt32)(fid:FuncId)(cs:Array Value)(C:Value→σ→List Ab)(wh:Yb σ):Prop:=
 ∀(K:Nat→Prop) (w0:World) (H:List Ab) (a:Value) (q:σ) (s:List UInt8) (r:(Bo×Int)×σ),Hq K w0 T→wh q s=some r→
  zC K w0 fid (vS s::cs.toList) (C a q) H (fun u M=>u=.tuple #[.agg (CP r.1.1).toArray,vI r.1.2]∧∃a',M=C a' r.2)
def aW{σ:Type}(e:List UInt8)(p:Mm)(w:Bo×Int×σ):Option (Bo×(Mm×σ)):=
 cond (!decide (w.2.1=0)) (some (⟨0,[]⟩,({ p with wrong:=w.2.1 },w.2.2))) ((Eh 40 p.out [⟨e,w.1.page,w.1.tag⟩]).bind fun l=>some (w.1,({ p with out:=l },w.2.2)))
def La{σ:Type}(n:Nat)(wh:Yb σ)(x:FF)(p:Mm)(q:σ):Option (Bo×(Mm×σ)):=
 cond (!decide (p.wrong=0)) (some (⟨0,[]⟩,(p,q)))
  ((J3 n x).bind fun e=>cond (decide (e.2=0)) ((wh q e.1).bind fun w=>aW e.1 p (w.1.1,w.1.2,w.2)) (aW e.1 p (⟨0,[]⟩,e.2,q)))
abbrev NJ(bp:Nat)(fw vo:Value)(p:Mm):Ab:=own bp (.cells #[fw,vo,vI p.wrong] 214)
theorem TR{σ:Type}{C:Value→σ→List Ab}{wh:Yb σ}{fid:FuncId}{cs:Array Value}{T:List UInt32}{n bp:Nat}{vo v4 v5 a:Value}{x:FF}{p:Mm}{q:σ}{r:Bo×(Mm×σ)}(hcal:AP Tryz.prog fid=true)(hwh:ik T fid cs C wh)(hS:Hq K w0 T)
(h:La n wh x p q=some r)(hs4:CR K w0 Ac 4 v4 x.rows)(hs5:CR K w0 CP 2 v5 x.kids):
  zC K w0 153 [vP bp 0,.agg #[vI x.kind,AC x.cx,AC x.cy,vI x.lev,v4,v5,AC x.npage,vS x.ntag]] (NJ bp (.func (.func fid) #[] cs) vo p::AD 148 3 vo AY p.out::C a q) H
   (fun u M=>u=.agg (CP r.1).toArray∧∃vo' a',M=NJ bp (.func (.func fid) #[] cs) vo' r.2.1::AD 148 3 vo' AY r.2.1.out::C a' r.2.2):=by
 unfold La at h
 refine Vf.enter Tryz.func153 rfl rfl ?_
 show SX _ _ _ _ _ _ _ _ _ (NJ bp (.func (.func fid) #[] cs) vo p::AD 148 3 vo AY p.out::(C a q++H))
 refine Y ?_
 refine Bw E E zU fun b0=>?_
 refine A6 E Gs zU fun b1=>?_
 refine U (AE (Y (J E (AV E E (AF E UP (AG 2 ST E (V E Bg (U ?_))))))))
 refine AL h E (fun hc1 h=>?_) fun hc1 h=>?_
 obtain rfl:=zI h
 refine Y (Cf [] E P0 Pz Gs zT E (BN 0 E E E E F6 E E E zT (U (AM (Ag ?_)))))
 exact Ax (KC E (Cj 0 (CP ⟨0,[]⟩) EZ E E E E)) (As (M:=_::_::C a q) ⟨E,vo,a,E⟩ fun _ hw=>Br.pick (H:=[_,_,_,_]) hw [2,3] 4 E)
 refine AB h fun e he h=>?_
 refine AH (AI (Y (BA [vI x.kind,AC x.cx,AC x.cy,vI x.lev,v4,v5,AC x.npage,vS x.ntag] E ZO E E (A2 1 E) (AN 0 sN (Zk he hs4 hs5) E (J E (Ap E E E (Ap E E E (O E (O E (U (Y ?_)))))))))))
 refine A6 E Gs zU fun b2=>?_
 refine U ?_
 refine Az (α:=Bo×Int×σ×Value) (fun w=>aW e.1 p (w.1,w.2.1,w.2.2.1)=some r) (fun w=>[(0,vP bp 0),(4,vP b1 0),(5,vS e.1),(6,vI w.2.1),(7,vP b2 0)])
  (fun w=>own b2 (.cells #[AC w.1.page,vS w.1.tag] 146)::own b1 (.cells #[AC 0,vS []] 146)::NJ bp (.func (.func fid) #[] cs) vo p::AD 148 3 vo AY p.out::(C w.2.2.2 w.2.2.1++H)) ?_ (fun w D h=>?_)
 refine Y (J E (V E Bv (U ?_)))
 refine AL h E (fun hc2 h=>?_) fun hc2 h=>?_
 refine AB h fun w hw1 h=>?_
 refine AJ (J E (AV E E (AF E pS (AG 3 wc E (J E ?_)))))
 refine SL.heap (H':=C a q++([_,_,_,_,_]++H)) ?_ (fun _ hw=>Hm (A:=[_,_,_,_,_]) (B:=C a q) (R:=H) hw)
 refine Bx (vs:=[_]) (Hin:=C a q) (Hr:=[_,_,_,_,_]++H) E E ⟨E,zT⟩ hcal E E (hwh K w0 _ a q e.1 w hS hw1) ?_
 rintro _ _ ⟨rfl,a1,rfl⟩
 refine⟨trivial,?_⟩
 refine SL.heap ?_ (fun _ hw=>Hm (A:=C a1 w.2) (B:=[_,_,_,_,_]) (R:=H) hw)
 refine J E (Ap E E E (Ap E E E (BN 0 E E E E F6 E E E zT (O E (AT ?_)))))
 exact Ak (w.1.1,w.1.2,w.2,a1) h tL (A5 [0,1,3,4] 5 E E E)
 refine AH ?_
 exact Ak (⟨0,[]⟩,e.2,q,a) h tL (A5 [0,1,3,4] 5 E E E)
 obtain⟨w,we,q1,a1⟩:=w
 unfold aW at h
 dsimp only at h
 try dsimp only
 refine AE (Y (J E (V E Bg (U ?_))))
 refine AL h E (fun hc3 h=>?_) fun hc3 h=>?_
 obtain rfl:=zI h
 refine Y (J E (J E (AV E E (AF E UP (BN 2 E E E E iL E E E zT (U (Y (Cf [] E P0 Pz Gs zT E (BN 1 E E E E F6 E E E zT (U (AM (Ag ?_))))))))))))
 exact Ax (KC E (Cj 1 (CP ⟨0,[]⟩) EZ E E E E)) (As (M:=_::_::C a1 q1) ⟨E,vo,a1,E⟩ fun _ hw=>Br.pick (H:=[_,_,_,_]) hw [2,3] 4 E)
 refine AB h fun l hl h=>?_
 obtain rfl:=zI h
 refine AH (AI (AE (Ai C2 [0,2] (BJ [(true,0),(true,1),(true,2),(true,3),(true,4),(true,5),(true,6),(true,7),(false,8),(false,9),(true,10),(true,11)] (.last 12 .nil)) zK (J E (J E (AV E E (AF E Z8 (AG 1 SU E (J E (BA (CP w) E EZ E E (A2 0 E) ?_))))))))))
 refine Cf [_,_] E p9 py RA ⟨E,E,zT⟩ E ?_
 refine Ck [_] rfl MD MC RA ⟨rfl,trivial⟩ rfl rfl rfl zW rfl rfl (fun _=>⟨⟨1,rfl⟩,⟨3,rfl⟩,trivial⟩) fun b3=>?_
 refine Cp AY 3 ([(⟨e.1,w.page,w.tag⟩:BU)]:List BU) E zV E ?_
 refine EF 4 hl (sz:=3) (enc:=AY) zV E MD MC oS RA E zD E E E E (Ct (sz:=3) (enc:=AY) 0 zV E) (by simp[AY,Value.oneCell']) (fun _=>⟨⟨1,E⟩,⟨3,E⟩,zT⟩) fun v3=>?_
 refine AV E E (AF E Z8 (A4 ?_))
 refine EI 4 E fun hv3 ho3=>?_
 refine FV 3 E E E E qW hv3 ho3 E zT (U (Y (BA (CP w) E EZ E E (A2 1 E) (BN 2 E E E E F6 E E E zT (U (AM ?_))))))
 exact Ax (KC E (Cj 2 (CP w) EZ E E E E)) (As (M:=_::_::C a1 q1) ⟨E,v3,a1,E⟩ fun _ hw=>Br.pick (H:=[_,_,_,_,_]) hw [3,4] 5 E)
end

section
variable {K:Nat→Prop}{w0:World}{H:List Ab}
abbrev Nm:=ZN×List A3
def Km(a:Nm):List Value:=[a.1.val]
def UZ(b off:Nat)(l:List A3)(i:Nat):Nm:=
 (⟨some ⟨b,off+4*i*4,none⟩,min (4*i+4) l.length-4*i,min (4*i+4) l.length-4*i⟩,(l.drop (4*i)).take (min (4*i+4) l.length-4*i))
def L7(b off:Nat)(l:List A3)(n:Nat):List Nm:=(List.range n).map (UZ b off l)
def M3(b off:Nat)(l:List A3):List Nm:=L7 b off l ((l.length+3) / 4)
theorem gL{b off n cap:Nat}{l:List A3}(h:CR K w0 Ac 4 (.slice (some ⟨b,off,none⟩) n cap) l):∀a∈M3 b off l,CR K w0 Ac 4 a.1.val a.2:=by
 intro a ha
 obtain⟨i,hi,rfl⟩:=List.mem_map.1 ha
 have hi':=List.mem_range.1 hi
 exact h.piece (4*i) (min (4*i+4) l.length) zO zO
theorem bT(b off:Nat)(l:List A3)(n:Nat):L7 b off l (n+1)=L7 b off l n++[UZ b off l n]:=by
 simp[L7,List.range_succ]
theorem Zu(b off:Nat)(l:List A3)(k:Nat)(h:4*k<l.length):∃suf,M3 b off l=L7 b off l k++UZ b off l k::suf:=by
 obtain⟨m,hm⟩:∃m,(l.length+3) / 4=k+1+m:=⟨(l.length+3) / 4-(k+1),by omega⟩
 refine⟨(List.range m).map fun j=>UZ b off l (k+1+j),?_⟩
 rw[M3,hm,L7,List.range_add,List.map_append,List.map_map,List.range_succ,List.map_append,List.append_assoc]
 rfl
theorem hK{b1 b2 b off cap:Nat}{l:List A3}{G0:List Ab}(hl:l.length≤1048576)(hs:CR K w0 Ac 4 (.slice (some ⟨b,off,none⟩) l.length cap) l)(hcap:l.length≤cap):
  Pm Tryz.prog K w0 205 [vP b1 0,vP b2 0] [own b1 (.cells #[.slice (some ⟨b,off,none⟩) l.length cap] 22),own b2 (.cells #[vI 4] 3)] G0 Km (M3 b off l):=by
 intro lp J9 X T rc hy h0
 refine Vf.enter Tryz.func205 rfl rfl ?_
 show SX _ _ _ _ _ _ _ _ _ (own b1 (.cells #[.slice (some ⟨b,off,none⟩) l.length cap] 22)::own b2 (.cells #[vI 4] 3)::((rc::G0)++T))
 refine Y (O E (U (AK ?_)))
 refine SX.mono (A9 (α:=Nat×List Ab) (fun x=>4*x.1≤l.length+3∧J9 (L7 b off l x.1) x.2) (fun x=>[(0,vY lp),(1,vP b1 0),(2,vP b2 0),(4,vI ((4*x.1:Nat):Int))])
  (fun x=>own b1 (.cells #[.slice (some ⟨b,off,none⟩) l.length cap] 22)::own b2 (.cells #[vI 4] 3)::(x.2++T)) (fun x=>l.length-x.1) (fun x D hp=>?_) (0,rc::G0) ⟨by omega,h0⟩) tL
 obtain⟨k,G⟩:=x
 obtain⟨hk,hJ⟩:=hp
 dsimp only at hk hJ ⊢
 refine AE (Y (J E (AG 0 HC E (Jk E D8 E (V E BL (U ?_))))))
 refine BH E (fun hc1=>?_) (fun hc1=>?_)
 have hlt:4*k<l.length:=by
  have:=of_decide_eq_true hc1
  omega
 clear hc1
 obtain⟨suf,hsp⟩:=Zu b off l k hlt
 refine AH (AI (AE (AK (AE (Ai C2 [0,1] (C0 (Hp 0 7)) zK (AG 1 Gi E (AG 0 HC E (J E (ZI (4*k) E D8 FE E E E zO zO (Jk E D8 E (ZG E E E (O E (U (Y ?_))))))))))))))
 refine J E (AG 0 HC E (J E (J E (J E (V E (B2 zO zO) (J E (J E ?_)))))))
 refine V E (B2 zO zO) (rK (4*k) (min (4*k+4) l.length) E D8 FE E E E E E zO zO zO zO ?_)
 refine I7 (M2:=[_,_]) (G:=G) (T:=T) (vs:=[_]) (ok:=fun G1=>J9 (L7 b off l (k+1)) G1) (no:=X) E E ⟨E,zT⟩ E ?_ (fun bb G1 hG1=>⟨zT,?_⟩)
 intro M
 have:=hy (L7 b off l k) (UZ b off l k) suf hsp G hJ M
 rw[←bT]at this
 exact this
 refine CO E E (U ?_)
 refine BH E (fun hc3=>?_) (fun hc3=>?_)
 obtain rfl:bb=false:=by simpa using hc3
 refine AM (BO (Ag (FB (BO ?_))))
 exact Ax (E4 E) (As (M:=G1) (.inr hG1) fun _ h=>h.skip [_,_])
 obtain rfl:bb=true:=by simpa using hc3
 refine AH (Ao (AI (AJ (J E (AG 1 Gi E (V E (B2 zO zO) ?_))))))
 refine AX (u:=vI ((4*(k+1):Nat):Int)) E E (congrArg vI zO) ?_
 refine AT ?_
 exact Am (k+1,G1) ⟨by omega,hG1⟩ (by dsimp only;omega) tL (A5 [0,1] 2 E E E)
 have hge:l.length≤4*k:=by
  have:=of_decide_eq_false hc1
  omega
 have hkk:(l.length+3) / 4=k:=zO
 refine Av (Ay (BP (A0 ?_)))
 exact D5 (E4 E) (As (M:=G) (.inl (by rw[M3,hkk];exact hJ)) fun _ h=>h.skip [_,_])
end

section
variable {K:Nat→Prop}{w0:World}{H:List Ab}
theorem iq{α:Type}{by_:Nat}{xs:List α}{x:α}(h:xs.length+1≤1048576)(hb:by_≤1024):Eh by_ xs [x]=some (xs++[x]):=by
 have h1:(xs.length+1)*by_≤1048576*1024:=Nat.mul_le_mul h hb
 rw[Eh,if_pos ⟨by simp only[List.length_cons,List.length_nil,Nat.zero_add];omega,by simp only[List.length_cons,List.length_nil,Nat.zero_add];omega⟩]
theorem mX(a:Nm)(u:Value)(h:u∈Km a):u.oneCell'=true:=by
 obtain rfl:u=a.1.val:=by simpa[Km]using h
 rfl
theorem qj{v:Value}:zC K w0 175 [v,vI 4] [] H (fun u M=>∃b1 b2:Nat,u=.func (.func 205) #[] #[vP b1 0,vP b2 0]∧M=[own b1 (.cells v.cells 22),own b2 (.cells #[vI 4] 3)]):=by
 refine Vf.enter Tryz.func175 rfl rfl ?_
 refine Y ?_
 refine Bw E E zU fun b1=>?_
 refine Bw E E zU fun b2=>?_
 refine O E (U (AE (Y (AG 0 Gi E (V E BL (U (EO E (AH (AI (Y ?_))))))))))
 refine Im (fv:=#[]) (cv:=#[_,_]) E E E ?_
 refine O E (U (AM ?_))
 exact CC [1,0] 2 (D7 E E) E E ⟨_,_,E,E⟩
theorem fS{f:FuncId}{cap:List Value}{Hit:List Ab}{xs:List Nm}(hcal:AP Tryz.prog f=true)(hn:xs.length≤1048576)(hseq:∀G0,Pm Tryz.prog K w0 f cap Hit G0 Km xs):
  zC K w0 204 [.slice none 0 0,.func (.func f) #[] cap.toArray] Hit H (fun u M=>∃v0:Value,u=v0∧M=[AD 22 1 v0 Km xs]):=by
 refine Vf.enter Tryz.func204 rfl rfl ?_
 refine Y ?_
 refine Bw E E zU fun b0=>?_
 refine O E (U (fy 22 1 Km (SX.pick [1,0] 2 (AE (Y (J E (U (AK ?_))))))))
 refine SX.heap (N1 (enc:=Km) xs (G0:=own b0 (.cells #[zN] 272)::AD 22 1 zN Km []::H) (fun pre G=>∃vr:Value,G=own b0 (.cells #[vr] 272)::AD 22 1 vr Km pre::H) (fun _ _=>False) E hcal E zV (hseq _) E ⟨_,E⟩ (fun pre x suf G hxs hJ r lp Rest=>?_) (fun G D hJ=>?_) (fun c G D hX=>hX.elim)) (fun _ hw=>Hm (A:=[_,_]) (B:=Hit) (R:=H) hw)
 obtain⟨vr,rfl⟩:=hJ
 have hlen:pre.length+1≤1048576:=by
  have:=congrArg List.length hxs
  simp only[List.length_append,List.length_cons]at this
  omega
 refine AJ (O E (AT ?_))
 refine MI (G:=own b0 (.cells #[vr] 272)::AD 22 1 vr Km pre::H) ?_
 refine AK (AJ (AG 0 fB E (J E ?_)))
 refine Ck [_] rfl Xz K5 iW ⟨rfl,trivial⟩ rfl rfl rfl (by intro v hv;simp only[List.mem_cons,List.not_mem_nil,or_false]at hv;rcases hv with rfl;rfl) rfl rfl zU fun b1=>?_
 refine Cp Km 1 ([x]:List Nm) E zV E ?_
 refine EF 2 (iq hlen (by decide:24≤1024)) (sz:=1) (enc:=Km) zV E Xz K5 xV iW E zD E E E E (Ct (sz:=1) (enc:=Km) 0 zV E) mX zU fun v3=>?_
 refine EI 2 E fun hv3 ho3=>?_
 refine FV 1 E E E E wo hv3 ho3 E zT (AT (Ao ?_))
 exact Jl ⟨v3,E⟩ (A5 [1,2] 3 E E E)
 obtain⟨vr,rfl⟩:=hJ
 refine Ao (AI (Y (AG 0 fB E (O E (U (AM ?_))))))
 exact CC [1] 2 (D7 E E) E E ⟨_,E,E⟩
theorem j7{f:FuncId}{cap:List Value}{Hit:List Ab}{xs:List Nm}(hcal:AP Tryz.prog f=true)(hn:xs.length≤1048576)(hseq:∀G0,Pm Tryz.prog K w0 f cap Hit G0 Km xs):
  zC K w0 174 [.func (.func f) #[] cap.toArray] Hit H (fun u M=>∃v0:Value,u=v0∧M=[AD 22 1 v0 Km xs]):=by
 refine Vf.enter Tryz.func174 rfl rfl ?_
 refine Y (O E (U (Y (J E ?_))))
 refine Bx (vs:=[_,_]) (Hin:=Hit) (Hr:=_) E E ⟨E,E,zT⟩ sk E E (fS hcal hn hseq) ?_
 rintro v1 _ ⟨_,rfl,rfl⟩
 refine⟨trivial,?_⟩
 refine O E (U (AM ?_))
 exact CC [0] 1 (D7 E E) E E ⟨_,E,E⟩
end

section
variable {K:Nat→Prop}{w0:World}{H:List Ab}
def Gh{α:Type}(xs:List α):List (Int×α):=(xs.zipIdx.map fun p=>((p.2:Int),p.1)).reverse
theorem K9{α:Type}(xs:List α):(Gh xs).length=xs.length:=by simp[Gh]
theorem ZS{α:Type}(xs:List α)(k:Nat)(h:k<xs.length):(Gh xs)[k]'(by rw[K9];exact h)=(((xs.length-1-k:Nat):Int),xs[xs.length-1-k]' zO):=by
 simp[Gh,List.getElem_reverse,List.getElem_map,List.getElem_zipIdx]
theorem cY{α:Type}(ys:List α)(k:Nat)(h:k<ys.length):ys=ys.take k++ys[k]::ys.drop (k+1):=by
 rw[←List.drop_eq_getElem_cons h,List.take_append_drop]
theorem aq{α:Type}(ys:List α)(k:Nat)(h:k<ys.length):ys.take k++[ys[k]]=ys.take (k+1):=by
 rw[List.take_add_one,List.getElem?_eq_getElem h]
 rfl
def pC(a:Int×Nm):List Value:=[vI a.1,a.2.1.val]
theorem uG{bx:Nat}{va:Value}{xs:List Nm}{G0:List Ab}(hn:xs.length≤1048576):
  Pm Tryz.prog K w0 206 [vP bx 0] [own bx (.cells #[va] 272),AD 22 1 va Km xs] G0 pC (Gh xs):=by
 intro lp J9 X T rc hy h0
 refine Vf.enter Tryz.func206 rfl rfl ?_
 show SX _ _ _ _ _ _ _ _ _ (own bx (.cells #[va] 272)::AD 22 1 va Km xs::((rc::G0)++T))
 refine Y ?_
 refine EI 1 E fun hva hoa=>?_
 refine AG 0 fB E (FJ 1 E Xz E E (V E (FZ zO zO) (O E (U (AK ?_)))))
 refine SX.mono (A9 (α:=Nat×List Ab) (fun x=>x.1≤xs.length∧J9 ((Gh xs).take x.1) x.2) (fun x=>[(0,vY lp),(1,vP bx 0),(3,vI ((xs.length:Int)-1-(x.1:Int)))])
  (fun x=>own bx (.cells #[va] 272)::AD 22 1 va Km xs::(x.2++T)) (fun x=>xs.length-x.1) (fun x D hp=>?_) (0,rc::G0) ⟨Nat.zero_le _,h0⟩) (by simpa using tL)
 obtain⟨k,G⟩:=x
 obtain⟨hk,hJ⟩:=hp
 dsimp only at hk hJ ⊢
 refine AE (Y (J E (V E FH (U ?_))))
 refine BH E (fun hc1=>?_) (fun hc1=>?_)
 have hlt:k<xs.length:=by
  have:=of_decide_eq_true hc1
  omega
 clear hc1
 have hb:k<(Gh xs).length:=by rw[K9];exact hlt
 have hget:=ZS xs k hlt
 have hx:A1 xs ((xs.length:Int)-1-(k:Int))=some (xs[xs.length-1-k]' zO):=by
  rw[A1,if_pos zO,show((xs.length:Int)-1-(k:Int)).toNat=xs.length-1-k by omega]
  exact List.getElem?_eq_getElem _
 refine AH (AI (AE (AK (Y (J E (J E (AG 0 fB E (J E ?_))))))))
 refine AZ 1 hx E Xz K5 E E E fun g1 m1 cp1 hv1=>?_
 refine Aq E HC E (AS (sz:=1) (enc:=Km) 1 0 zV E hv1 hx E) ?_
 refine I7 (M2:=[_,_]) (G:=G) (T:=T) (vs:=[_,_]) (ok:=fun G1=>J9 ((Gh xs).take (k+1)) G1) (no:=X) E E ⟨E,E,zT⟩ E ?_ (fun bb G1 hG1=>⟨zT,?_⟩)
 intro M
 have:=hy ((Gh xs).take k) ((Gh xs)[k]) ((Gh xs).drop (k+1)) (cY _ k hb) G hJ M
 rw[aq _ k hb,hget]at this
 rw[show((xs.length:Int)-1-(k:Int))=((xs.length-1-k:Nat):Int) by omega]
 exact this
 refine CO E E (U ?_)
 refine BH E (fun hc3=>?_) (fun hc3=>?_)
 obtain rfl:bb=false:=by simpa using hc3
 refine AM (BO (Ag (FB (BO ?_))))
 exact Ax (E4 E) (As (M:=G1) (.inr hG1) fun _ h=>h.skip [_,_])
 obtain rfl:bb=true:=by simpa using hc3
 refine AH (Ao (AI (AJ (J E (V E (FZ zO zO) ?_)))))
 refine AX (u:=vI ((xs.length:Int)-1-((k+1:Nat):Int))) E E (congrArg vI zO) ?_
 refine AT ?_
 exact Am (k+1,G1) ⟨hlt,hG1⟩ (by dsimp only;omega) tL (A5 [0,1] 2 E E E)
 have hge:k=xs.length:=by
  have:=of_decide_eq_false hc1
  omega
 subst hge
 rw[List.take_of_length_le (by rw[K9];exact Nat.le_refl _)]at hJ
 refine Av (Ay (BP (A0 ?_)))
 exact D5 (E4 E) (As (M:=G) (.inl hJ) fun _ h=>h.skip [_,_])
theorem uS{va:Value}(hva:va.cells=#[va]):zC K w0 176 [va] [] H (fun u M=>∃bx:Nat,u=.func (.func 206) #[] #[vP bx 0]∧M=[own bx (.cells #[va] 272)]):=by
 refine Vf.enter Tryz.func176 rfl rfl ?_
 refine Y ?_
 refine Bw E E zU fun b1=>?_
 rw[hva]
 refine O E (U (Y ?_))
 refine Im (fv:=#[]) (cv:=#[_]) E E E ?_
 refine O E (U (AM ?_))
 exact CC [0] 1 (D7 E E) E E ⟨_,E,E⟩
end

section
variable {K:Nat→Prop}{w0:World}{H:List Ab}
theorem ZT{α:Type}(xs:List α):(Gh xs).map (·.2)=xs.reverse:=by
 rw[Gh,List.map_reverse,List.map_map]
 congr 1
 have:((fun x:Int×α=>x.2)∘fun p:α×Nat=>((p.2:Int),p.1))=Prod.fst:=rfl
 rw[this,List.zipIdx_map_fst]
def Qa(v:Value)(l:List A3):List Nm:=
 match v,l with
 | _,[]=>[(⟨none,0,0⟩,[])]
 | .slice (some a) _ _,l=>M3 a.block a.off l
 | _,l=>[]
theorem XU(v:Value):Qa v []=[(⟨none,0,0⟩,[])]:=by cases v<;>rfl
theorem Qc{b off n c:Nat}{l:List A3}(h:l≠[]):Qa (.slice (some ⟨b,off,none⟩) n c) l=M3 b off l:=by
 cases l with
 | nil=>exact absurd rfl h
 | cons _ _=>rfl
theorem oK{v:Value}{l:List A3}(h:CR K w0 Ac 4 v l):∀a∈Qa v l,CR K w0 Ac 4 a.1.val a.2:=by
 by_cases hl:l=[]
 subst hl
 rw[XU]
 intro a ha
 obtain rfl:=List.mem_singleton.1 ha
 exact⟨h.len,.inl ⟨_,rfl,rfl⟩⟩
 rcases h.at_ with⟨_,_,e⟩ | ⟨b,off,cap,rfl,hc,hcell⟩
 exact absurd e hl
 rw[Qc hl]
 exact gL h
theorem cQ{b1 b2:Nat}{a:Option Addr}{G0:List Ab}:
  Pm Tryz.prog K w0 205 [vP b1 0,vP b2 0] [own b1 (.cells #[.slice a 0 0] 22),own b2 (.cells #[vI 4] 3)] G0 Km []:=by
 intro lp J9 X T rc hy h0
 refine Vf.enter Tryz.func205 rfl rfl ?_
 show SX _ _ _ _ _ _ _ _ _ (own b1 (.cells #[.slice a 0 0] 22)::own b2 (.cells #[vI 4] 3)::((rc::G0)++T))
 refine Y (O E (U (AK ?_)))
 refine SX.mono (A9 (α:=Unit) (fun _=>True) (fun _=>[(0,vY lp),(1,vP b1 0),(2,vP b2 0),(4,vI 0)])
  (fun _=>own b1 (.cells #[.slice a 0 0] 22)::own b2 (.cells #[vI 4] 3)::((rc::G0)++T)) (fun _=>0) (fun x D hp=>?_) () trivial) tL
 refine AE (Y (J E (AG 0 HC E (Jk E D8 E (V E BL (U (EO E (Av (Ay (BP (A0 ?_)))))))))))
 exact D5 (E4 E) (As (M:=rc::G0) (.inl h0) fun _ h=>h.skip [_,_])
def JB(v:Value)(l:List A3):List Nm:=if l=[]then[]else Qa v l
theorem nI{b1 b2:Nat}{v:Value}{l:List A3}(hl:l.length≤1048576)(hs:CR K w0 Ac 4 v l)(G0:List Ab):
  Pm Tryz.prog K w0 205 [vP b1 0,vP b2 0] [own b1 (.cells v.cells 22),own b2 (.cells #[vI 4] 3)] G0 Km (JB v l):=by
 by_cases h0:l=[]
 subst h0
 rw[JB,if_pos rfl]
 rcases hs.at_ with⟨a,rfl,_⟩ | ⟨b,off,cap,rfl,_⟩
 exact cQ
 rcases hs.at_ with⟨a,e,_⟩ | ⟨b',off',cap',e,hc,hcell⟩
 rw[e]
 exact cQ
 have:=hK (G0:=G0) (b1:=b1) (b2:=b2) (cap:=cap) hl hs zS
 exact this
 rcases hs.at_ with⟨_,_,e⟩ | ⟨b,off,cap,rfl,hc,hcell⟩
 exact absurd e h0
 rw[JB,if_neg h0,Qc h0]
 exact hK hl hs hc
theorem TV(b off:Nat)(l:List A3):(M3 b off l).length=(l.length+3) / 4:=by simp[M3,L7]
theorem Ym{v:Value}{l:List A3}(hs:CR K w0 Ac 4 v l)(hl:l.length≤1048576):(JB v l).length≤1048576:=by
 by_cases h0:l=[]
 rw[JB,if_pos h0];simp
 rcases hs.at_ with⟨_,_,e⟩ | ⟨b,off,cap,rfl,hc,hcell⟩
 exact absurd e h0
 rw[JB,if_neg h0,Qc h0,TV]
 omega
theorem ZP{v:Value}{l:List A3}(hs:CR K w0 Ac 4 v l):(if(JB v l).length=0 then[((⟨none,0,0⟩:ZN),([]:List A3))]else JB v l)=Qa v l:=by
 by_cases h0:l=[]
 subst h0
 rw[JB,if_pos rfl,XU]
 rfl
 rcases hs.at_ with⟨_,_,e⟩ | ⟨b,off,cap,rfl,hc,hcell⟩
 exact absurd e h0
 have hp:0<l.length:=List.length_pos_iff.2 h0
 rw[JB,if_neg h0,Qc h0,if_neg (by rw[TV];omega)]
end

section
variable {K:Nat→Prop}{w0:World}{H:List Ab}
theorem CR.one{α:Type}{enc:α→List Value}{sz:Nat}{v:Value}{xs:List α}(h:CR K w0 enc sz v xs):v.cells=#[v]:=by
 rcases h.at_ with⟨_,rfl,_⟩ | ⟨_,_,_,rfl,_⟩<;>rfl
theorem nJ{bx:Nat}{v:Value}{l:List A3}{G0:List Ab}(hl:l.length≤1048576)(hs:CR K w0 Ac 4 v l):
  Pm Tryz.prog K w0 173 [vP bx 0] [own bx (.cells #[v] 22)] G0 Km (Qa v l).reverse:=by
 intro lp J9 X T rc hy h0
 refine Vf.enter Tryz.func173 rfl rfl ?_
 show SX _ _ _ _ _ _ _ _ _ (own bx (.cells #[v] 22)::((rc::G0)++T))
 have hlen:=Ym hs hl
 refine Y ?_
 refine Bw E E zU fun b0=>?_
 refine U (Y (AG 1 HC E (Bi 0 sR qj E ?_)))
 rintro _ _ ⟨b1,b2,rfl,rfl⟩
 refine Bx (vs:=[_]) (Hin:=[_,_]) (Hr:=_::_::_) E E ⟨E,zT⟩ sQ E E (j7 (cap:=[vP b1 0,vP b2 0]) sm hlen (fun G0=>nI hl hs G0)) ?_
 rintro va _ ⟨_,rfl,rfl⟩
 refine⟨trivial,?_⟩
 refine O E (U ?_)
 refine Az (α:=Value×List Nm) (fun x=>x.2=Qa v l) (fun x=>[(0,vY lp),(2,vP b0 0),(3,x.1)]) (fun x=>AD 22 1 x.1 Km x.2::own b0 (.cells #[vY lp] 40)::((rc::G0)++T)) ?_ (fun x D hx=>?_)
 refine Y (J E (FJ 0 E Xz E E (V E Bv (U ?_))))
 refine BH E (fun hc1=>?_) (fun hc1=>?_)
 have hz:(JB v l).length=0:=by
  have:=of_decide_eq_true hc1
  omega
 refine AJ ?_
 refine Ck [_] E Xz K5 iW ⟨E,zT⟩ E E E zX E E zU fun b3=>?_
 refine Cp Km 1 ([(⟨none,0,0⟩,[])]:List Nm) E zV E ?_
 refine O E (AT ?_)
 exact Ak (.slice (some ⟨b3,0,none⟩) 1 1,[(⟨none,0,0⟩,[])]) (show([(⟨none,0,0⟩,[])]:List Nm)=Qa v l by rw[←ZP hs,if_pos hz]) tL (A5 [0,2] 4 E E E)
 have hz:¬(JB v l).length=0:=by
  have:=of_decide_eq_false hc1
  omega
 refine AH ?_
 exact Ak (va,JB v l) (show JB v l=Qa v l by rw[←ZP hs,if_neg hz]) tL (A5 [0,1] 3 E E E)
 obtain⟨va,xs⟩:=x
 have hx:xs=Qa v l:=hx
 have hxn:xs.length≤1048576:=by
  rw[hx,←ZP hs]
  split
  simp
  exact hlen
 rw[←hx]at hy ⊢
 clear hx
 try dsimp only
 refine Y ?_
 refine ZH 0 E fun sv hsv=>?_
 refine J E ?_
 refine Bi 0 sS (uS (va:=va) (by rw[hsv];rfl)) E ?_
 rintro _ _ ⟨b4,rfl,rfl⟩
 refine U (AK ?_)
 refine N1 (enc:=pC) (Gh xs) (Hit:=[_,_]) (G0:=own b0 (.cells #[vY lp] 40)::((rc::G0)++T)) (fun pre Gx=>∃G,J9 (pre.map (·.2)) G∧Gx=own b0 (.cells #[vY lp] 40)::(G++T)) (fun c Gx=>c=.ret∧∃G,X G∧Gx=own b0 (.cells #[vY lp] 40)::(G++T)) E sn E zV (uG hxn) E ⟨rc::G0,h0,E⟩ (fun pre x suf Gx hxs hJ r lr Rest=>?_) (fun Gx D hJ=>?_) (fun c Gx D hX=>?_)
 obtain⟨G,hJ,rfl⟩:=hJ
 refine AJ (O E (AT ?_))
 refine MI (G:=own b0 (.cells #[vY lp] 40)::(G++T)) ?_
 refine AK (Y (AG 0 xp E (J E ?_)))
 refine I7 (M2:=[own b0 (.cells #[vY lp] 40)]) (G:=G) (T:=T++Tl r lr Rest .busy) (vs:=[_]) (ok:=fun G1=>J9 ((pre++[x]).map (·.2)) G1) (no:=X) E E ⟨E,zT⟩ (by simp[List.append_assoc]) ?_ (fun bb G1 hG1=>⟨zT,?_⟩)
 intro M
 have hsp:xs.reverse=pre.map (·.2)++x.2::suf.map (·.2):=by
  rw[←ZT,hxs,List.map_append,List.map_cons]
 have:=hy (pre.map (·.2)) x.2 (suf.map (·.2)) hsp G hJ M
 rw[List.map_append,List.map_cons,List.map_nil]
 exact this
 refine CO E E (U ?_)
 refine BH E (fun hc2=>?_) (fun hc2=>?_)
 obtain rfl:bb=false:=by simpa using hc2
 refine AM (BO ?_)
 exact oD ⟨E,G1,hG1,E⟩ (fun _ hw=>by simpa[List.append_assoc]using hw)
 obtain rfl:bb=true:=by simpa using hc2
 refine AH (Ao ?_)
 exact Jl ⟨G1,hG1,E⟩ (fun _ hw=>by simpa[List.append_assoc]using hw)
 obtain⟨G,hJ,rfl⟩:=hJ
 rw[ZT]at hJ
 refine Ao ?_
 exact D5 (E4 E) (As (M:=G) (.inl hJ) fun _ h=>h.skip [_])
 obtain⟨rfl,G,hX,rfl⟩:=hX
 refine AM (BO ?_)
 exact Ax (E4 E) (As (M:=G) (.inr hX) fun _ h=>h.skip [_])
theorem ne{v:Value}(hv:v.cells=#[v]):zC K w0 154 [v] [] H (fun u M=>∃bx:Nat,u=.func (.func 173) #[] #[vP bx 0]∧M=[own bx (.cells #[v] 22)]):=by
 refine Vf.enter Tryz.func154 rfl rfl ?_
 refine Y ?_
 refine Bw E E zU fun b1=>?_
 rw[hv]
 refine O E (U (Y ?_))
 refine Im (fv:=#[]) (cv:=#[_]) E E E ?_
 refine O E (U (AM ?_))
 exact CC [0] 1 (D7 E E) E E ⟨_,E,E⟩
end

section
variable {K:Nat→Prop}{w0:World}{H:List Ab}
theorem Fy.mid:∀ {Hs A B R:List Ab},Fy Hs A→Fy Hs (B++(A++R))
 | [],_,_,_,_=>trivial
 | c::r,A,B,R,⟨⟨i,hi⟩,h⟩=>⟨⟨B.length+i,by
   have hlt:=(List.getElem?_eq_some_iff.1 hi).1
   rw[List.getElem?_append_right zO,Nat.add_sub_cancel_left,List.getElem?_append_left hlt,hi]⟩,Fy.mid h⟩
theorem ic{k:Ab}{A B R M:List Ab}{w:World}(h:Br K w0 ((k::(A++(B++R)))++M) w):Br K w0 ((k::(B++(A++R)))++M) w:=by
 refine h.perm (List.Perm.append_right _ (List.Perm.cons _ ?_))
 rw[←List.append_assoc,←List.append_assoc]
 exact List.Perm.append_right _ List.perm_append_comm
theorem ZM{α:Type}{enc:α→List Value}{sz:Nat}(hl:∀x,(enc x).length=sz):CR K w0 enc sz zN []:=⟨hl,.inl ⟨_,rfl,rfl⟩⟩
def Pw(l:List A3):List (List A3):=if l=[]then[[]]else(List.range ((l.length+3) / 4)).map fun i=>(l.drop (4*i)).take (min (4*i+4) l.length-4*i)
theorem f5{v:Value}{l:List A3}(h:CR K w0 Ac 4 v l):(Qa v l).map (·.2)=Pw l:=by
 by_cases hl:l=[]
 subst hl
 rw[XU]
 rfl
 rcases h.at_ with⟨_,_,e⟩ | ⟨b,off,cap,rfl,hc,hcell⟩
 exact absurd e hl
 rw[Qc hl,Pw,if_neg hl,M3,L7,List.map_map]
 rfl
def Mg{σ:Type}(rec_:DB→Mm→σ→Option (Bo×(Mm×σ))):List DB→Mm→σ→List Bo→Option (List Bo×(Mm×σ))
 | [],p,q,acc=>some (acc,(p,q))
 | k::ks,p,q,acc=>(rec_ k p q).bind fun y=>(Eh 24 acc [y.1]).bind fun acc'=>Mg rec_ ks y.2.1 y.2.2 acc'
def QM{σ:Type}(n:Nat)(wh:Yb σ):List (List A3)→Bo→Mm→σ→Option (Bo×(Mm×σ))
 | [],r,p,q=>some (r,(p,q))
 | l::ls,r,p,q=>(La n wh ⟨1,0,0,0,l,[],r.page,r.tag⟩ p q).bind fun y=>cond (!decide (y.2.1.wrong=0)) (some y) (QM n wh ls y.1 y.2.1 y.2.2)
def Jj{σ:Type}(n:Nat)(wh:Yb σ):Nat→DB→Mm→σ→Option (Bo×(Mm×σ))
 | 0,_,_,_=>none
 | f+1,t,p,q=>if 1048576<t.rows.length∨1048576<t.kids.length then none else cond (decide (0<(t.kids.length:Int)))
   ((Mg (Jj n wh f) t.kids p q []).bind fun y=>La n wh ⟨2,t.cx,t.cy,t.lev,[],y.1,0,[]⟩ y.2.1 y.2.2)
   (QM n wh (Pw t.rows).reverse ⟨0,[]⟩ p q)
theorem TQ{σ:Type}{C:Value→σ→List Ab}{wh:Yb σ}{fid:FuncId}{cs:Array Value}{T:List UInt32}{n bp:Nat}(hcal:AP Tryz.prog fid=true)(hwh:ik T fid cs C wh):
  ∀(f:Nat) {K:Nat→Prop} {w0:World} {H:List Ab} {vo ca:Value} {a:HO} {t:DB} {p:Mm} {q:σ} {r:Bo×(Mm×σ)},Hq K w0 T→Jj n wh f t p q=some r→RF K w0 a t→
  zC K w0 116 [vP bp 0,.agg (EG a).toArray] (NJ bp (.func (.func fid) #[] cs) vo p::AD 148 3 vo AY p.out::C ca q) H
   (fun u M=>u=.agg (CP r.1).toArray∧∃vo' ca',M=NJ bp (.func (.func fid) #[] cs) vo' r.2.1::AD 148 3 vo' AY r.2.1.out::C ca' r.2.2)
 | 0,K,w0,H,vo,ca,a,t,p,q,r,hS,h,hN=>by cases h
 | f+1,K,w0,H,vo,ca,a,t,p,q,r,hS,h,hN=>by
  have h:(if 1048576<t.rows.length∨1048576<t.kids.length then none else cond (decide (0<(t.kids.length:Int)))
   ((Mg (Jj n wh f) t.kids p q []).bind fun y=>La n wh ⟨2,t.cx,t.cy,t.lev,[],y.1,0,[]⟩ y.2.1 y.2.2)
   (QM n wh (Pw t.rows).reverse ⟨0,[]⟩ p q))=some r:=h
  split at h
  cases h
  rename_i hbig
  have hrl:t.rows.length≤1048576:=zO
  have hkl:t.kids.length≤1048576:=zO
  clear hbig
  obtain⟨rv,kv,rfl,hr,hk⟩:=hN.parts
  refine Vf.enter Tryz.func116 rfl rfl ?_
  show SX _ _ _ _ _ _ _ _ _ (NJ bp (.func (.func fid) #[] cs) vo p::AD 148 3 vo AY p.out::(C ca q++H))
  refine Y ?_
  refine Bw E E zU fun b0=>?_
  refine Bw E E zU fun b1=>?_
  refine A6 E Gs zU fun b2=>?_
  refine U (MK (AE (Y (AF E Ly (AG 1 WB E (bX hk E P2 E (V E C8 (U ?_))))))))
  refine AL h E (fun hc1 h=>?_) fun hc1 h=>?_
  refine Y (AF rfl SN (BA [AC t.cx,AC t.cy,vI t.lev] rfl HD rfl rfl (Dy 1 rfl (by rintro(_ | (_ | (_ | j))) u hj<;>first | exact hj | exact absurd hj zS)) (Cf [_,_] rfl jf je fW ⟨rfl,rfl,trivial⟩ rfl ?_)))
  refine A6 E fW zU fun b3=>?_
  refine BN 0 E E E E wm E E E zT (PX 0 (own b3 (.cells #[vI 2,AC t.cx,AC t.cy,vI t.lev,zN,zN,AC 0,vS []] 250)) (Ci 146 2 CP (U (AE (Y (AF E Ly (AG 3 WB E (bX hk E P2 E (J E (U (AK ?_)))))))))))
  refine SX.heap (SX.mono (A9 (α:=Nat×List Bo×Value×Mm×σ×Value×Value) (fun x=>x.1≤t.kids.length∧((Mg (Jj n wh f) (t.kids.drop x.1) x.2.2.2.1 x.2.2.2.2.1 x.2.1).bind fun y=>La n wh ⟨2,t.cx,t.cy,t.lev,[],y.1,0,[]⟩ y.2.1 y.2.2)=some r)
   (fun x=>[(2,vP b0 0),(4,vP b2 0),(5,vP b3 0),(18,kv.val),(19,vI (t.kids.length:Int)),(20,vI (x.1:Int))])
   (fun x=>own b3 (.cells #[vI 2,AC t.cx,AC t.cy,vI t.lev,zN,x.2.2.1,AC 0,vS []] 250)::AD 146 2 x.2.2.1 CP x.2.1::own b2 (.cells #[AC 0,vS []] 146)::own b0 (.cells #[vP bp 0] 209)::NJ bp (.func (.func fid) #[] cs) x.2.2.2.2.2.1 x.2.2.2.1::AD 148 3 x.2.2.2.2.2.1 AY x.2.2.2.1.out::(C x.2.2.2.2.2.2 x.2.2.2.2.1++H))
   (fun x=>t.kids.length-x.1) (fun x D hp=>?_) (0,[],zN,p,q,vo,ca) ⟨Nat.zero_le _,h⟩) tL) (A5 [1,0,2,4,5,6] 7 rfl rfl rfl)
  clear h
  obtain⟨i,ks,vk,p1,q1,vo1,ca1⟩:=x
  obtain⟨hi,h⟩:=hp
  dsimp only at hi h ⊢
  refine Y (V E BL (U (AE ?_)))
  refine BH E (fun hc2=>?_) (fun hc2=>?_)
  have hlt:i<t.kids.length:=by
   have:=of_decide_eq_true hc2
   omega
  clear hc2
  have hnth:A1 t.kids (i:Int)=some t.kids[i]:=by
   rw[A1,if_pos zO]
   exact List.getElem?_eq_getElem hlt
  rw[List.drop_eq_getElem_cons hlt,Mg]at h
  refine AB h fun z hz h=>?_
  obtain⟨y,hy,hz⟩:=Da hz
  obtain⟨ac,hac,hz⟩:=Da hz
  have h2:((Mg (Jj n wh f) (t.kids.drop (i+1)) y.2.1 y.2.2 ac).bind fun y=>La n wh ⟨2,t.cx,t.cy,t.lev,[],y.1,0,[]⟩ y.2.1 y.2.2)=some r:=by
   rw[hz];exact h
  refine AH (AI (AE (AK (Y ?_))))
  refine nq hnth hk E P2 KD E E fun b5 of5 rv5 kv5 hr5 hk5 hc5=>?_
  obtain⟨rs5,rfl⟩:=hr5.slv
  obtain⟨kk5,hk51,hk52⟩:=hk5
  obtain⟨ks5,rfl⟩:=hk51.slv
  have hN5:RF K w0 ⟨t.kids[i].cx,t.kids[i].cy,t.kids[i].lev,rs5,ks5⟩ t.kids[i]:=ie hr5 ⟨kk5,hk51,hk52⟩
  refine BA [AC t.kids[i].cx,AC t.kids[i].cy,vI t.kids[i].lev,rs5.val,ks5.val] E O4 E E (Ek hc5) ?_
  refine A6 E KG zU fun b4=>?_
  refine BN 0 E E E E KD E E E zT (PX 0 (own b4 (.cells #[AC t.kids[i].cx,AC t.kids[i].cy,vI t.kids[i].lev,rs5.val,ks5.val] 204)) (U (Ai C2 [0,1,4] (BJ [(true,0),(true,1),(true,2),(true,3),(false,4),(false,5),(false,6),(true,7)] (.last 8 .nil)) zK (AF E HW (AG 1 Mv E (AG 2 fA E (BA [AC t.kids[i].cx,AC t.kids[i].cy,vI t.kids[i].lev,rs5.val,ks5.val] E O4 E E (A2 0 E) ?_)))))))
  refine SL.heap ?_ (fun _ hw=>Hm (A:=[own b4 (.cells #[AC t.kids[i].cx,AC t.kids[i].cy,vI t.kids[i].lev,rs5.val,ks5.val] 204),own b3 (.cells #[vI 2,AC t.cx,AC t.cy,vI t.lev,zN,vk,AC 0,vS []] 250),AD 146 2 vk CP ks,own b2 (.cells #[AC 0,vS []] 146),own b0 (.cells #[vP bp 0] 209)]) (B:=NJ bp (.func (.func fid) #[] cs) vo1 p1::AD 148 3 vo1 AY p1.out::C ca1 q1) (R:=H) hw)
  have hcon:=TQ (bp:=bp) hcal hwh f (ca:=ca1) (K:=K) (w0:=w0) (H:=([own b4 (.cells #[AC t.kids[i].cx,AC t.kids[i].cy,vI t.kids[i].lev,rs5.val,ks5.val] 204),own b3 (.cells #[vI 2,AC t.cx,AC t.cy,vI t.lev,.slice none 0 0,vk,AC 0,vS []] 250),AD 146 2 vk CP ks,own b2 (.cells #[AC 0,vS []] 146),own b0 (.cells #[vP bp 0] 209)]++H)++[Bp D]) (vo:=vo1) hS hy hN5
  generalize hpo:(fun(u:Value) (M:List Ab)=>u=.agg (CP y.1).toArray∧∃vo' ca',M=NJ bp (.func (.func fid) #[] cs) vo' y.2.1::AD 148 3 vo' AY y.2.1.out::C ca' y.2.2)=po at hcon
  refine Bx (vs:=[_,_]) (Hin:=NJ bp (.func (.func fid) #[] cs) vo1 p1::AD 148 3 vo1 AY p1.out::C ca1 q1) (Hr:=[own b4 (.cells #[AC t.kids[i].cx,AC t.kids[i].cy,vI t.kids[i].lev,rs5.val,ks5.val] 204),own b3 (.cells #[vI 2,AC t.cx,AC t.cy,vI t.lev,zN,vk,AC 0,vS []] 250),AD 146 2 vk CP ks,own b2 (.cells #[AC 0,vS []] 146),own b0 (.cells #[vP bp 0] 209)]++H) E E ⟨E,E,zT⟩ kU E E hcon ?_
  intro u0 M0 hpost
  rw[←hpo]at hpost
  obtain⟨rfl,vo2,ca2,rfl⟩:=hpost
  refine⟨Fy.mid (A:=[own b4 (.cells #[AC t.kids[i].cx,AC t.kids[i].cy,vI t.kids[i].lev,rs5.val,ks5.val] 204),own b3 (.cells #[vI 2,AC t.cx,AC t.cy,vI t.lev,zN,vk,AC 0,vS []] 250),AD 146 2 vk CP ks,own b2 (.cells #[AC 0,vS []] 146),own b0 (.cells #[vP bp 0] 209)]) ⟨⟨0,rfl⟩,⟨1,rfl⟩,⟨4,rfl⟩,trivial⟩,?_⟩
  refine SL.heap ?_ (fun _ hw=>Hm (A:=NJ bp (.func (.func fid) #[] cs) vo2 y.2.1::AD 148 3 vo2 AY y.2.1.out::C ca2 y.2.2) (B:=[own b4 (.cells #[AC t.kids[i].cx,AC t.kids[i].cy,vI t.kids[i].lev,rs5.val,ks5.val] 204),own b3 (.cells #[vI 2,AC t.cx,AC t.cy,vI t.lev,zN,vk,AC 0,vS []] 250),AD 146 2 vk CP ks,own b2 (.cells #[AC 0,vS []] 146),own b0 (.cells #[vP bp 0] 209)]) (R:=H) hw)
  refine Ck [_] rfl Kk F6 Gs ⟨rfl,trivial⟩ rfl rfl rfl zW rfl rfl (fun _=>⟨⟨1,rfl⟩,⟨2,rfl⟩,⟨5,rfl⟩,trivial⟩) fun b6=>?_
  refine Cp CP 2 ([y.1]:List Bo) E zV E ?_
  refine EF 3 hac (sz:=2) (enc:=CP) zV E Kk F6 uv Gs E zD E E E E (Ct (sz:=2) (enc:=CP) 0 zV E) (by simp[CP,Value.oneCell']) (fun _=>⟨⟨1,E⟩,⟨2,E⟩,⟨5,E⟩,zT⟩) fun v6=>?_
  refine AF E HW (A4 ?_)
  refine EI 3 E fun hv6 ho6=>?_
  refine FV 2 E E E E wl hv6 ho6 E zT (AT (Ao (AI (AJ (V E (B2 zO zO) (J E (AT ?_)))))))
  exact Am (i+1,ac,v6,y.2.1,y.2.2,vo2,ca2) ⟨hlt,h2⟩ (by dsimp only;omega) tL (A5 [2,3,4,5] 6 E E E)
  have hge:i=t.kids.length:=by
   have:=of_decide_eq_false hc2
   omega
  subst hge
  rw[List.drop_length,Mg]at h
  replace h:La n wh ⟨2,t.cx,t.cy,t.lev,[],ks,0,[]⟩ p1 q1=some r:=h
  refine Av (Ay (BP (A0 (AI (SX.pick [1,0,2,3] 4 (Y (AG 3 fA E (BA [vI 2,AC t.cx,AC t.cy,vI t.lev,zN,vk,AC 0,vS []] E ZO E E (A2 1 E) ?_))))))))
  refine SL.heap ?_ (fun _ hw=>ic (A:=[own b3 (.cells #[vI 2,AC t.cx,AC t.cy,vI t.lev,zN,vk,AC 0,vS []] 250),own b2 (.cells #[AC 0,vS []] 146),own b0 (.cells #[vP bp 0] 209)]) (B:=(NJ bp (.func (.func fid) #[] cs) vo1 p1::AD 148 3 vo1 AY p1.out::C ca1 q1)) (R:=H) hw)
  have hcon:=Dm (K:=K) (w0:=w0) (H:=([own b3 (.cells #[vI 2,AC t.cx,AC t.cy,vI t.lev,.slice none 0 0,vk,AC 0,vS []] 250),own b2 (.cells #[AC 0,vS []] 146),own b0 (.cells #[vP bp 0] 209)]++H)++[Bp D]) (f:=153) (B:=[AD 146 2 vk CP ks]) (Hin:=(NJ bp (.func (.func fid) #[] cs) vo1 p1::AD 148 3 vo1 AY p1.out::C ca1 q1)) fun K' w1 hkk hB=>TR (bp:=bp) (a:=ca1) (vo:=vo1) (v4:=.slice none 0 0) (v5:=vk) hcal hwh (hS.keeps hkk) h (ZM zV) (C1 (e:=146) (v:=vk) zV (hB _ zS))
  refine Bx (vs:=[_,_]) (Hin:=AD 146 2 vk CP ks::(NJ bp (.func (.func fid) #[] cs) vo1 p1::AD 148 3 vo1 AY p1.out::C ca1 q1)) (Hr:=[own b3 (.cells #[vI 2,AC t.cx,AC t.cy,vI t.lev,zN,vk,AC 0,vS []] 250),own b2 (.cells #[AC 0,vS []] 146),own b0 (.cells #[vP bp 0] 209)]++H) E E ⟨E,E,zT⟩ kd E E hcon ?_
  rintro _ _ ⟨_,rfl,rfl,vo2,ca2,rfl⟩
  refine⟨trivial,?_⟩
  refine SL.heap ?_ (fun _ hw=>Hm (A:=AD 146 2 vk CP ks::NJ bp (.func (.func fid) #[] cs) vo2 r.2.1::AD 148 3 vo2 AY r.2.1.out::C ca2 r.2.2) (B:=[own b3 (.cells #[vI 2,AC t.cx,AC t.cy,vI t.lev,zN,vk,AC 0,vS []] 250),own b2 (.cells #[AC 0,vS []] 146),own b0 (.cells #[vP bp 0] 209)]) (R:=H) hw)
  refine BN 1 E E E E F6 E E E zT (U (AM (Ag (Fx ?_))))
  exact Ax (KC E (Cj 1 (CP r.1) EZ E E E E)) (As (M:=NJ bp (.func (.func fid) #[] cs) vo2 r.2.1::AD 148 3 vo2 AY r.2.1.out::C ca2 r.2.2) ⟨E,vo2,ca2,E⟩ fun _ hw=>Br.pick (H:=[_,_,_,_]) hw [] 4 E)
  refine AH (AI (Y ?_))
  refine A6 E Gs zU fun b3=>?_
  refine U (AE (MJ (AI (AE (Y (AF E UO (AG 2 HC E (Bi 0 sD (ne hr.one) E ?_))))))))
  rintro _ _ ⟨bx,rfl,rfl⟩
  refine U (AK ?_)
  have h0:QM n wh (((Qa rv.val t.rows).reverse).map (·.2)) ⟨0,[]⟩ p q=some r:=by
   rw[List.map_reverse,f5 hr];exact h
  refine SX.heap (N1 (enc:=Km) (Qa rv.val t.rows).reverse (G0:=(own b3 (.cells #[AC 0,vS []] 146)::own b2 (.cells #[AC 0,vS []] 146)::own b0 (.cells #[vP bp 0] 209)::NJ bp (.func (.func fid) #[] cs) vo p::AD 148 3 vo AY p.out::(C ca q++H))) (fun pre G=>∃(x:Bo) (p1:Mm) (q1:σ) (vo1 ca1:Value),(∀suf,(Qa rv.val t.rows).reverse=pre++suf→QM n wh (suf.map (·.2)) x p1 q1=some r)∧G=(own b3 (.cells #[AC x.page,vS x.tag] 146)::own b2 (.cells #[AC 0,vS []] 146)::own b0 (.cells #[vP bp 0] 209)::NJ bp (.func (.func fid) #[] cs) vo1 p1::AD 148 3 vo1 AY p1.out::(C ca1 q1++H))) (fun c G=>c=.exit 2∧∃vo1 ca1:Value,G=(own b3 (.cells #[AC r.1.page,vS r.1.tag] 146)::own b2 (.cells #[AC 0,vS []] 146)::own b0 (.cells #[vP bp 0] 209)::NJ bp (.func (.func fid) #[] cs) vo1 r.2.1::AD 148 3 vo1 AY r.2.1.out::(C ca1 r.2.2++H))) E sP E zV (nJ hrl hr) E ⟨⟨0,[]⟩,p,q,vo,ca,fun suf e=>by rw[←show(Qa rv.val t.rows).reverse=suf from e];exact h0,E⟩ (fun pre x suf G hxs hJ lr lp Rest=>?_) (fun G D hJ=>?_) (fun c G D hX=>?_)) (A5 [0,1,2,4,5,6] 7 E E E)
  obtain⟨w,p1,q1,vo1,ca1,h,rfl⟩:=hJ
  have h1:=h (x::suf) hxs
  rw[List.map_cons,QM]at h1
  obtain⟨y,hy,h1⟩:=Da h1
  have hx:CR K w0 Ac 4 x.1.val x.2:=oK hr x (List.mem_reverse.1 (by rw[hxs];simp))
  refine AJ (O E (AT ?_))
  refine MI (G:=own b3 (.cells #[AC w.page,vS w.tag] 146)::own b2 (.cells #[AC 0,vS []] 146)::own b0 (.cells #[vP bp 0] 209)::NJ bp (.func (.func fid) #[] cs) vo1 p1::AD 148 3 vo1 AY p1.out::(C ca1 q1++H)) ?_
  refine AK (Y (AG 2 fA E (J E (BA (CP w) E EZ E E (A2 0 E) (Cf [_,_,_] E jf je fW ⟨E,E,E,zT⟩ E ?_)))))
  refine SL.heap ?_ (fun _ hw=>Hm (A:=[own b3 (.cells #[AC w.page,vS w.tag] 146),own b2 (.cells #[AC 0,vS []] 146),own b0 (.cells #[vP bp 0] 209)]) (B:=(NJ bp (.func (.func fid) #[] cs) vo1 p1::AD 148 3 vo1 AY p1.out::C ca1 q1)) (R:=(H++Tl lr lp Rest .busy)) (by simp only[List.append_assoc,List.cons_append,List.nil_append]at hw ⊢;exact hw))
  have hcon:=TR (K:=K) (w0:=w0) (H:=([own b3 (.cells #[AC w.page,vS w.tag] 146),own b2 (.cells #[AC 0,vS []] 146),own b0 (.cells #[vP bp 0] 209)]++(H++Tl lr lp Rest .busy))++[Bp []]) (bp:=bp) (a:=ca1) (vo:=vo1) (v4:=x.1.val) (v5:=.slice none 0 0) hcal hwh hS hy hx (ZM zV)
  refine Bx (vs:=[_,_]) (Hin:=(NJ bp (.func (.func fid) #[] cs) vo1 p1::AD 148 3 vo1 AY p1.out::C ca1 q1)) (Hr:=[own b3 (.cells #[AC w.page,vS w.tag] 146),own b2 (.cells #[AC 0,vS []] 146),own b0 (.cells #[vP bp 0] 209)]++(H++Tl lr lp Rest .busy)) E E ⟨E,E,zT⟩ kd E E hcon ?_
  rintro _ _ ⟨rfl,vo2,ca2,rfl⟩
  refine⟨trivial,?_⟩
  refine SL.heap ?_ (fun _ hw=>Hm (A:=(NJ bp (.func (.func fid) #[] cs) vo2 y.2.1::AD 148 3 vo2 AY y.2.1.out::C ca2 y.2.2)) (B:=[own b3 (.cells #[AC w.page,vS w.tag] 146),own b2 (.cells #[AC 0,vS []] 146),own b0 (.cells #[vP bp 0] 209)]) (R:=(H++Tl lr lp Rest .busy)) hw)
  refine BN 0 E E E E F6 E E E zT (PX 0 (own b3 (.cells #[AC y.1.page,vS y.1.tag] 146)) (U (Y (AG 2 fA E (AV E E (AF E UP (AG 3 ST E (V E Bg (U ?_)))))))))
  have hheap:∀w1:World,Br K w0 ((own b3 (.cells #[AC y.1.page,vS y.1.tag] 146)::own b2 (.cells #[AC 0,vS []] 146)::own b0 (.cells #[vP bp 0] 209)::((NJ bp (.func (.func fid) #[] cs) vo2 y.2.1::AD 148 3 vo2 AY y.2.1.out::C ca2 y.2.2)++(H++Tl lr lp Rest .busy)))) w1→Br K w0 ((own b3 (.cells #[AC y.1.page,vS y.1.tag] 146)::own b2 (.cells #[AC 0,vS []] 146)::own b0 (.cells #[vP bp 0] 209)::NJ bp (.func (.func fid) #[] cs) vo2 y.2.1::AD 148 3 vo2 AY y.2.1.out::(C ca2 y.2.2++H))++Tl lr lp Rest .busy) w1:=by
   intro w1 hw
   simp only[List.append_assoc,List.cons_append]at hw ⊢
   exact hw
  refine AL h1 E (fun hc3 h1=>?_) fun hc3 h1=>?_
  obtain rfl:=zI h1
  refine Av (FK ?_)
  exact PY ⟨E,vo2,ca2,E⟩ hheap
  refine AH (Ao ?_)
  exact Jl ⟨y.1,y.2.1,y.2.2,vo2,ca2,fun suf' e=>by rw[Y6 hxs e];exact h1,E⟩ hheap
  obtain⟨x,p1,q1,vo1,ca1,h,rfl⟩:=hJ
  replace h:=h [] (List.append_nil _).symm
  obtain rfl:(x,(p1,q1))=r:=zI h
  refine Ao (AI (Y (BA (CP x) E EZ E E (A2 0 E) (BN 1 E E E E F6 E E E zT (U (AM (Fx ?_)))))))
  exact Ax (KC E (Cj 1 (CP x) EZ E E E E)) (As (M:=_::_::C ca1 q1) ⟨E,vo1,ca1,E⟩ fun _ hw=>Br.pick (H:=[_,_,_]) hw [] 3 E)
  obtain⟨rfl,vo1,ca1,rfl⟩:=hX
  refine Av (A0 (AI (Y (BA (CP r.1) E EZ E E (A2 0 E) (BN 1 E E E E F6 E E E zT (U (AM (Fx ?_))))))))
  exact Ax (KC E (Cj 1 (CP r.1) EZ E E E E)) (As (M:=_::_::C ca1 r.2.2) ⟨E,vo1,ca1,E⟩ fun _ hw=>Br.pick (H:=[_,_,_]) hw [] 3 E)
end

section
theorem Sz(l:List A3):(Pw l).length=max 1 ((l.length+3) / 4):=by
 unfold Pw
 split
 rename_i h;subst h;rfl
 rename_i h
 have:=List.length_pos_iff.2 h
 simp
 omega
theorem jM{l p:List A3}(h:p∈Pw l):p.length≤4∧p.Sublist l:=by
 unfold Pw at h
 split at h
 rename_i hl
 subst hl
 simp only[List.mem_singleton]at h
 subst h
 exact⟨by simp,List.Sublist.refl _⟩
 obtain⟨i,_,rfl⟩:=List.mem_map.1 h
 exact⟨by simp;omega,(List.take_sublist ..).trans (List.drop_sublist ..)⟩
theorem YW{l p:List A3}(h:Er l=true)(hs:p.Sublist l):Er p=true:=by
 unfold Er at h ⊢
 simp only[Bool.and_eq_true,decide_eq_true_eq]at h ⊢
 refine⟨⟨List.all_eq_true.2 fun r hr=>List.all_eq_true.1 h.1.1 r (hs.subset hr),(Pi p).2 (((Pi l).1 h.1.2).sublist hs)⟩,?_⟩
 have:=hs.length_le
 omega
abbrev eN(l:List A3)(r:Bo):FF:=⟨1,0,0,0,l,[],r.page,r.tag⟩
abbrev W8(t:DB)(rs:List Bo):FF:=⟨2,t.cx,t.cy,t.lev,[],rs,0,[]⟩
def fh:List (List A3)→Bo→List BU→Bo→Prop
 | [],r0,seg,r=>seg=[]∧r=r0
 | l::ls,r0,seg,r=>∃r1 seg',Kf (eN l r0)=true∧seg=⟨Sr (eN l r0),r1.page,r1.tag⟩::seg'∧fh ls r1 seg' r
def kG(R:DB→List BU→Bo→Prop):List DB→List BU→List Bo→Prop
 | [],seg,rs=>seg=[]∧rs=[]
 | k::ks,seg,rs=>∃s1 r1 s2 rs',R k s1 r1∧kG R ks s2 rs'∧seg=s1++s2∧rs=r1::rs'
def ZB:Nat→DB→List BU→Bo→Prop
 | 0,_,_,_=>False
 | f+1,t,seg,r=>(t.rows.length≤1000∧t.kids.length≤1000)∧((t.kids=[]∧fh (Pw t.rows).reverse ⟨0,[]⟩ seg r)∨(t.kids≠[]∧∃segs rs,kG (ZB f) t.kids segs rs∧Kf (W8 t rs)=true∧seg=segs++[⟨Sr (W8 t rs),r.page,r.tag⟩]))
def OB:Nat→DB→Nat
 | 0,_=>0
 | f+1,t=>if t.kids.length=0 then max 1 ((t.rows.length+3) / 4)else(t.kids.map (OB f)).sum+1
theorem fh.len:∀ {ls:List (List A3)} {r0 r:Bo} {seg:List BU} ,fh ls r0 seg r→seg.length=ls.length
 | [],_,_,_,h=>by rw[h.1];rfl
 | _::_,_,_,_,h=>by
  obtain⟨r1,seg',_,e,h'⟩:=h
  rw[e,List.length_cons,fh.len h',List.length_cons]
theorem kG.len{R:DB→List BU→Bo→Prop}{g:DB→Nat}(hg:∀k s r,R k s r→s.length=g k):∀ {ks:List DB} {seg:List BU} {rs:List Bo},kG R ks seg rs→seg.length=(ks.map g).sum∧rs.length=ks.length
 | [],_,_,h=>by rw[h.1,h.2];simp
 | k::ks,_,_,h=>by
  obtain⟨s1,r1,s2,rs',h1,h2,e1,e2⟩:=h
  have ih:=kG.len hg h2
  rw[e1,e2,List.length_append,hg _ _ _ h1,ih.1,List.length_cons,ih.2]
  simp
theorem ZB.len:∀(f:Nat) {t:DB} {seg:List BU} {r:Bo} ,ZB f t seg r→seg.length=OB f t
 | 0,_,_,_,h=>h.elim
 | f+1,t,seg,r,h=>by
  rcases h.2 with⟨h1,h2⟩ | ⟨h1,segs,rs,h2,_,e⟩
  rw[h2.len,OB,if_pos (by rw[h1];rfl),List.length_reverse,Sz]
  have h0:=List.length_pos_iff.2 h1
  rw[e,OB,if_neg zO,List.length_append,(kG.len (fun k s r hr=>ZB.len f hr) h2).1]
  rfl
def WP{σ:Type}(wh:Yb σ):σ→List BU→σ→Prop
 | q,[],q'=>q=q'
 | q,s::ss,q'=>∃q1,wh q s.txt=some ((⟨s.page,s.tag⟩,0),q1)∧WP wh q1 ss q'
theorem WP.join{σ:Type}{wh:Yb σ}:∀ {a b:List BU} {q q1 q':σ},WP wh q a q1→WP wh q1 b q'→WP wh q (a++b) q'
 | [],_,_,_,_,h,h'=>by cases h;exact h'
 | _::_,_,_,_,_,⟨q1,h1,h2⟩,h'=>⟨q1,h1,h2.join h'⟩
variable {σ:Type}{wh:Yb σ}{n:Nat}
structure kP{σ:Type}(wh:Yb σ)(Inv:σ→Prop)(Good:σ→BU→Prop)(room:σ→Nat):Prop where
 step:∀q s,Inv q→s.length≤198→∃r e q',wh q s=some ((r,e),q')∧Inv q'∧(∀x,Good q x→Good q' x)∧((e=0∧Gr r=true∧Good q' ⟨s,r.page,r.tag⟩∧room q≤room q'+1)∨(e=110∧room q=0))
def mH(wh:Yb σ)(Inv:σ→Prop)(Good:σ→BU→Prop)(room:σ→Nat)(k:Nat)(Run:List BU→Prop)(p:Mm)(q:σ)(p':Mm)(q':σ):Prop:=
 Inv q'∧(∀x,Good q x→Good q' x)∧((p'.wrong=0∧∃seg,p'.out=p.out++seg∧seg.length=k∧Run seg∧WP wh q seg q'∧(∀x∈seg,Good q' x)∧room q≤room q'+k)∨(p'.wrong=110∧room q<k))
variable {Inv:σ→Prop}{Good:σ→BU→Prop}{room:σ→Nat}
theorem UX{x:FF}{p:Mm}{q:σ}(h:p.wrong≠0):La n wh x p q=some (⟨0,[]⟩,(p,q)):=by
 unfold La
 rw[zf h]
 rfl
theorem Z1{α:Type}(f:α→List UInt8)(m:Nat):∀(l:List α),(∀a∈l,(f a).length≤m)→(l.map f).flatten.length≤m*l.length
 | [],_=>by simp
 | a::l,h=>by
  have h1:=h a zS
  have h2:=Z1 f m l (fun b hb=>h b (by simp[hb]))
  simp only[List.map_cons,List.flatten_cons,List.length_append,List.length_cons,Nat.mul_add,Nat.mul_one]
  omega
theorem mY{x:FF}(h:Kf x=true):(Sr x).length≤198:=by
 unfold Sr
 by_cases hk:x.kind=1
 obtain⟨h1,h2,h3,h4,h5,h6,h7⟩:=XD h hk
 have h32:x.ntag.length≤32:=by
  rcases h7 with h7 | h7
  rw[h7.2];simp
  have:=(Q1 h7).1
  simp only at this
  omega
 have:=Z1 Qj 33 x.rows (fun r hr=>by rw[Wm];have:=YX h6 r hr;omega)
 have h36:=QE (r:=⟨x.npage,x.ntag⟩) h32
 rw[show decide (x.kind=2)=false by rw[hk];rfl,Bq]
 simp only[List.length_append,Ca,h36]
 omega
 obtain⟨hk2,h1,h2,h3,h4,h5,h6,h7,h8⟩:=VY h hk
 have:=Z1 M4 36 x.kids (fun r hr=>by rw[QE (by have:=(Q1 (h1 r hr)).1;omega)];exact Nat.le_refl _)
 rw[show decide (x.kind=2)=true by rw[hk2];rfl,Ch]
 simp only[List.length_append,Ca]
 omega
theorem cL(W:kP wh Inv Good room)(hn:10≤n){x:FF}{p:Mm}{q:σ}(h:Kf x=true)(hi:Inv q)(hw:p.wrong=0)(hb:p.out.length≤100000):
  ∃r p' q',La n wh x p q=some (r,(p',q'))∧(p'.wrong=0→Gr r=true)∧mH wh Inv Good room 1 (fun seg=>seg=[⟨Sr x,r.page,r.tag⟩]) p q p' q':=by
 obtain⟨r,e,q',h1,h2,h3,h4⟩:=W.step q (Sr x) hi (mY h)
 unfold La
 rw[hw,show(!decide ((0:Int)=0))=false from rfl,Bq,jG hn h,Z,show decide ((0:Int)=0)=true from rfl,Ch,h1,Z]
 unfold aW
 rcases h4 with⟨rfl,h5,h6,h7⟩ | ⟨rfl,h5⟩
 rw[show(!decide ((0:Int)=0))=false from rfl,Bq,FA zQ zQ,Z]
 exact⟨r,_,q',rfl,fun _=>h5,h2,h3,.inl ⟨hw,_,rfl,rfl,rfl,⟨q',h1,rfl⟩,fun y hy=>by rw[List.mem_singleton.1 hy];exact h6,h7⟩⟩
 rw[show(!decide ((110:Int)=0))=true from rfl,Ch]
 exact⟨⟨0,[]⟩,_,q',rfl,fun h0=>absurd h0 (show ¬((110:Int)=0) by decide),h2,h3,.inr ⟨rfl,by omega⟩⟩
theorem cU(W:kP wh Inv Good room)(hn:10≤n):∀(ls:List (List A3)) (r0:Bo) (p:Mm) (q:σ),(∀l∈ls,l.length≤4∧Er l=true)→(r0=⟨0,[]⟩∨Gr r0=true)→Inv q→p.wrong=0→p.out.length+ls.length≤100000→
  ∃r p' q',QM n wh ls r0 p q=some (r,(p',q'))∧(p'.wrong=0→Gr r=true∨(ls=[]∧r=r0))∧mH wh Inv Good room ls.length (fun seg=>fh ls r0 seg r) p q p' q'
 | [],r0,p,q,hl,h0,hi,hw,hb=>⟨r0,p,q,rfl,fun _=>.inr ⟨rfl,rfl⟩,hi,fun _ h=>h,.inl ⟨hw,[],by simp,rfl,⟨rfl,rfl⟩,rfl,by simp,by simp⟩⟩
 | l::ls,r0,p,q,hl,h0,hi,hw,hb=>by
  obtain⟨l4,lr⟩:=hl l zS
  simp only[List.length_cons]at hb
  have hok:Kf (eN l r0)=true:=by
   unfold Kf eN
   rw[show decide ((1:Int)=1)=true from rfl,Ch,lr]
   have:(Ua ⟨r0.page,r0.tag⟩||Gr ⟨r0.page,r0.tag⟩)=true:=by
    rcases h0 with rfl | h0
    rfl
    rw[show Gr ⟨r0.page,r0.tag⟩=true from h0];simp
   rw[this]
   simp
   omega
  obtain⟨r1,p1,q1,e1,k1,i1,g1,s1⟩:=cL W hn hok hi hw zO
  unfold QM
  rw[show La n wh ⟨1,0,0,0,l,[],r0.page,r0.tag⟩ p q=some (r1,(p1,q1))from e1,Z]
  rcases s1 with⟨w1,seg1,o1,le1,rfl,pa1,go1,ro1⟩ | ⟨w1,ro1⟩
  rw[w1,show(!decide ((0:Int)=0))=false from rfl,Bq]
  obtain⟨r,p',q',e2,k2,i2,g2,s2⟩:=cU W hn ls r1 p1 q1 (fun q hq=>hl q (by simp[hq])) (.inr (k1 w1)) i1 w1 (by rw[o1];simp;omega)
  refine⟨r,p',q',e2,fun h=>?_,i2,fun x hx=>g2 x (g1 x hx),?_⟩
  rcases k2 h with h | ⟨_,h⟩
  exact .inl h
  rw[h]
  exact .inl (k1 w1)
  rcases s2 with⟨w2,seg2,o2,le2,ru2,pa2,go2,ro2⟩ | ⟨w2,ro2⟩
  refine .inl ⟨w2,_::seg2,by rw[o2,o1];simp,by simp[le2],⟨r1,seg2,hok,rfl,ru2⟩,pa1.join pa2,fun x hx=>?_,?_⟩
  rcases List.mem_cons.1 hx with rfl | hx
  exact g2 _ (go1 _ zS)
  exact go2 x hx
  simp only[List.length_cons]
  omega
  exact .inr ⟨w2,by simp only[List.length_cons];omega⟩
  rw[w1,show(!decide ((110:Int)=0))=true from rfl,Ch]
  exact⟨r1,p1,q1,rfl,fun h=>absurd (w1.symm.trans h) zD,i1,g1,.inr ⟨w1,by simp only[List.length_cons];omega⟩⟩
theorem Tr.rows:∀ {f:Nat} {l:List A3} {t:DB} ,Tr f l t→t.rows.length≤l.length∧t.kids.length≤4
 | 0,_,_,h=>h.elim
 | f+1,l,t,h=>by
  rcases h with⟨rfl,rfl⟩ | ⟨_,c,L,A,⟨_,rfl⟩ | ⟨_,_,ks,rfl,hk⟩⟩
  simp[DB.rows,DB.kids]
  simp[DB.rows,DB.kids]
  have:=hk.length
  have:=V8 L l
  simp only[DB.rows,DB.kids,List.length_nil]
  omega
theorem UV{rec_:DB→Mm→σ→Option (Bo×(Mm×σ))}{p:Mm}{q:σ}:∀(ks:List DB) (acc:List Bo),(∀k∈ks,∃r,rec_ k p q=some (r,(p,q)))→acc.length+ks.length≤1000→∃rs,Mg rec_ ks p q acc=some (acc++rs,(p,q))
 | [],acc,_,_=>⟨[],by simp[Mg]⟩
 | k::ks,acc,h,hb=>by
  simp only[List.length_cons]at hb
  obtain⟨r,hr⟩:=h k zS
  obtain⟨rs,h'⟩:=UV ks (acc++[r]) (fun j hj=>h j (by simp[hj])) zQ
  refine⟨r::rs,?_⟩
  unfold Mg
  rw[hr,Z,FA zQ zQ,Z,h']
  simp
theorem WI.right{α β:Type}{R:α→β→Prop}{xs:List α}{ys:List β}(h:WI R xs ys):∀y∈ys,∃x∈xs,R x y:=by
 induction h with
 | nil=>simp
 | cons h1 _ ih=>
  intro y hy
  rcases List.mem_cons.1 hy with rfl | hy
  exact⟨_,by simp,h1⟩
  obtain⟨x,hx,hR⟩:=ih y hy
  exact⟨x,by simp[hx],hR⟩
theorem YQ{p:Mm}{q:σ}(hw:p.wrong≠0):∀(f:Nat) {l:List A3} {t:DB},Tr f l t→l.length≤1000→∃r,Jj n wh f t p q=some (r,(p,q))
 | 0,_,_,h,_=>h.elim
 | f+1,l,t,h,hl=>by
  have hb:=Tr.rows h
  unfold Jj
  rw[if_neg zO]
  by_cases h0:0<(t.kids.length:Int)
  rw[zt h0,Ch]
  have hk:∀k∈t.kids,∃r,Jj n wh f k p q=some (r,(p,q)):=by
   rcases h with⟨rfl,rfl⟩ | ⟨_,c,L,A,⟨_,rfl⟩ | ⟨_,_,ks,rfl,hk⟩⟩
   simp[DB.kids]
   simp[DB.kids]
   intro k hkm
   obtain⟨l',hl',hT⟩:=hk.right k hkm
   exact YQ hw f hT (by have:=(TD hl').length_le;omega)
  obtain⟨acc',h'⟩:=UV (rec_:=Jj n wh f) t.kids [] hk zQ
  rw[h',Z,UX hw]
  exact⟨_,rfl⟩
  rw[zf h0,Bq]
  rcases hls:(Pw t.rows).reverse with _ | ⟨x,ls⟩
  exact⟨_,rfl⟩
  unfold QM
  rw[UX hw,Z,zf hw]
  exact⟨_,rfl⟩
theorem cA{rec_:DB→Mm→σ→Option (Bo×(Mm×σ))}{R:DB→List BU→Bo→Prop}{g:DB→Nat}:∀(ks:List DB) (acc:List Bo) (p:Mm) (q:σ),
  (∀k∈ks,∀p q,Inv q→p.wrong=0→p.out.length+g k≤100000→∃r p' q',rec_ k p q=some (r,(p',q'))∧(p'.wrong=0→Gr r=true)∧mH wh Inv Good room (g k) (fun seg=>R k seg r) p q p' q')→
  (∀k∈ks,∀p q,p.wrong≠0→∃r,rec_ k p q=some (r,(p,q)))→Inv q→p.wrong=0→p.out.length+(ks.map g).sum≤100000→acc.length+ks.length≤1000→
  ∃rs p' q',Mg rec_ ks p q acc=some (acc++rs,(p',q'))∧(p'.wrong=0→∀r∈rs,Gr r=true)∧mH wh Inv Good room (ks.map g).sum (fun seg=>kG R ks seg rs) p q p' q'
 | [],acc,p,q,_,_,hi,hw,_,_=>⟨[],p,q,by simp[Mg],by simp,hi,fun _ h=>h,.inl ⟨hw,[],by simp,rfl,⟨rfl,rfl⟩,rfl,by simp,by simp⟩⟩
 | k::ks,acc,p,q,hk,hkw,hi,hw,hb,ha=>by
  simp only[List.map_cons,List.sum_cons,List.length_cons]at hb ha
  obtain⟨r1,p1,q1,e1,k1,i1,g1,s1⟩:=hk k zS p q hi hw zO
  unfold Mg
  rw[e1,Z,FA zQ zQ,Z]
  rcases s1 with⟨w1,seg1,o1,le1,ru1,pa1,go1,ro1⟩ | ⟨w1,ro1⟩
  obtain⟨rs,p',q',e2,k2,i2,g2,s2⟩:=cA ks (acc++[r1]) p1 q1 (fun j hj=>hk j (by simp[hj])) (fun j hj=>hkw j (by simp[hj])) i1 w1 (by rw[o1];simp;omega) zQ
  refine⟨r1::rs,p',q',by simpa using e2,fun h r hr=>?_,i2,fun x hx=>g2 x (g1 x hx),?_⟩
  rcases List.mem_cons.1 hr with rfl | hr
  exact k1 w1
  exact k2 h r hr
  rcases s2 with⟨w2,seg2,o2,le2,ru2,pa2,go2,ro2⟩ | ⟨w2,ro2⟩
  refine .inl ⟨w2,seg1++seg2,by rw[o2,o1];simp,by simp[le1,le2],⟨seg1,r1,seg2,rs,ru1,ru2,rfl,rfl⟩,pa1.join pa2,fun x hx=>?_,?_⟩
  rcases List.mem_append.1 hx with hx | hx
  exact g2 _ (go1 _ hx)
  exact go2 x hx
  simp only[List.map_cons,List.sum_cons]
  omega
  exact .inr ⟨w2,by simp only[List.map_cons,List.sum_cons];omega⟩
  obtain⟨acc',h'⟩:=UV (rec_:=rec_) (p:=p1) (q:=q1) ks (acc++[r1]) (fun j hj=>hkw j (by simp[hj]) p1 q1 (by rw[w1];decide)) zQ
  exact⟨r1::acc',p1,q1,by simpa using h',fun h=>absurd (w1.symm.trans h) zD,i1,g1,.inr ⟨w1,by simp only[List.map_cons,List.sum_cons];omega⟩⟩
theorem cJ(W:kP wh Inv Good room)(hn:10≤n):∀(f:Nat) (l:List A3) (t:DB) (p:Mm) (q:σ),Tr f l t→Er l=true→Inv q→p.wrong=0→p.out.length+OB f t≤100000→
  ∃r p' q',Jj n wh f t p q=some (r,(p',q'))∧(p'.wrong=0→Gr r=true)∧mH wh Inv Good room (OB f t) (fun seg=>ZB f t seg r) p q p' q'
 | 0,_,_,_,_,h,_,_,_,_=>h.elim
 | f+1,l,t,p,q,h,hr,hi,hw,hb=>by
  have hl:l.length≤1000:=by
   unfold Er at hr
   simp only[Bool.and_eq_true,decide_eq_true_eq]at hr
   omega
  have hbd:=Tr.rows h
  have leaf:t.kids=[]→Er t.rows=true→∃r p' q',Jj n wh (f+1) t p q=some (r,(p',q'))∧(p'.wrong=0→Gr r=true)∧mH wh Inv Good room (OB (f+1) t) (fun seg=>ZB (f+1) t seg r) p q p' q':=by
   intro hk hrr
   have hpg:OB (f+1) t=(Pw t.rows).reverse.length:=by rw[OB,if_pos (by rw[hk];rfl),List.length_reverse,Sz]
   obtain⟨r,p',q',e,k,i,g,s⟩:=cU W hn (Pw t.rows).reverse ⟨0,[]⟩ p q (fun x hx=>by
    have:=jM (List.mem_reverse.1 hx)
    exact⟨this.1,YW hrr this.2⟩) (.inl rfl) hi hw zO
   refine⟨r,p',q',?_,fun h0=>?_,i,g,?_⟩
   unfold Jj
   rw[if_neg zO,zf (by rw[hk];simp),Bq]
   exact e
   rcases k h0 with h1 | ⟨h1,_⟩
   exact h1
   have:=congrArg List.length h1
   rw[List.length_reverse,Sz,List.length_nil]at this
   omega
   rw[hpg]
   rcases s with⟨w,seg,o,le,ru,pa,go,ro⟩ | s
   exact .inl ⟨w,seg,o,le,⟨⟨by omega,by omega⟩,.inl ⟨hk,ru⟩⟩,pa,go,ro⟩
   exact .inr s
  rcases h with⟨rfl,rfl⟩ | ⟨_,c,L,A,⟨_,rfl⟩ | ⟨h4,hL,ks,rfl,hk⟩⟩
  exact leaf rfl hr
  exact leaf rfl hr
  have hkl:=hk.length
  have hq4:=V8 L l
  have hq2:=(TE A hL).1
  have hpg:OB (f+1) (.mk c.x c.y c.lev [] ks)=(ks.map (OB f)).sum+1:=by
   rw[OB,if_neg (by simp only[DB.kids];omega)]
   rfl
  rw[hpg]at hb ⊢
  obtain⟨rs,p1,q1,e1,k1,i1,g1,s1⟩:=cA (wh:=wh) (Inv:=Inv) (Good:=Good) (room:=room) (rec_:=Jj n wh f) (R:=ZB f) (g:=OB f) ks [] p q (fun k hkm p q hi hw hb=>by
   obtain⟨l',hl',hT⟩:=hk.right k hkm
   exact cJ W hn f l' k p q hT (YW hr (TD hl')) hi hw hb) (fun k hkm p q hw=>by
   obtain⟨l',hl',hT⟩:=hk.right k hkm
   exact YQ hw f hT (by have:=(TD hl').length_le;omega)) hi hw zO zQ
  have hrun:Jj n wh (f+1) (.mk c.x c.y c.lev [] ks) p q=La n wh (W8 (.mk c.x c.y c.lev [] ks) rs) p1 q1:=by
   unfold Jj
   rw[if_neg zO,zt (by simp only[DB.kids];omega),Ch,show(DB.mk c.x c.y c.lev [] ks).kids=ks from rfl,e1,Z]
   rfl
  rw[hrun]
  rcases s1 with⟨w1,seg1,o1,le1,ru1,pa1,go1,ro1⟩ | ⟨w1,ro1⟩
  have hrl:=(kG.len (fun k s r hr=>ZB.len f hr) ru1).2
  have hok:Kf (W8 (.mk c.x c.y c.lev [] ks) rs)=true:=by
   unfold Kf W8
   rw[show decide ((2:Int)=1)=false from rfl,Bq,show decide ((2:Int)=2)=true from rfl,Ch]
   have h5:rs.all Gr=true:=List.all_eq_true.2 (k1 w1)
   have h6:QD ⟨c.x,c.y,c.lev⟩=true:=A.ok
   have h7:=A.lev
   show(((rs.all Gr&&decide ((([]:List A3).length:Int)=0))&&Ua ⟨0,[]⟩&&decide (2≤(rs.length:Int)))&&decide ((rs.length:Int)≤4)&&QD ⟨c.x,c.y,c.lev⟩&&decide (0<c.lev))=true
   rw[h5,h6,zt (show 2≤(rs.length:Int) by omega),zt (show(rs.length:Int)≤4 by omega),zt (show 0<c.lev by omega)]
   rfl
  obtain⟨r,p',q',e2,k2,i2,g2,s2⟩:=cL W hn hok i1 w1 (by rw[o1];simp;omega)
  refine⟨r,p',q',e2,k2,i2,fun x hx=>g2 x (g1 x hx),?_⟩
  rcases s2 with⟨w2,seg2,o2,le2,rfl,pa2,go2,ro2⟩ | ⟨w2,ro2⟩
  refine .inl ⟨w2,seg1++[_],by rw[o2,o1];simp,by simp[le1],⟨⟨by simp[DB.rows],by simp only[DB.kids];omega⟩,.inr ⟨by
   intro e
   have:ks=[]:=e
   rw[this,List.length_nil]at hkl
   omega,seg1,rs,ru1,hok,rfl⟩⟩,pa1.join pa2,fun x hx=>?_,by omega⟩
  rcases List.mem_append.1 hx with hx | hx
  exact g2 _ (go1 _ hx)
  exact go2 x hx
  exact .inr ⟨w2,by omega⟩
  rw[UX (by rw[w1];decide)]
  exact⟨_,p1,q1,rfl,fun h=>absurd (w1.symm.trans h) zD,i1,g1,.inr ⟨w1,by omega⟩⟩
end

section
variable {K:Nat→Prop}{w0:World}{H:List Ab}
def pD(a:Int×BU):List Value:=[vI a.1,.agg (AY a.2).toArray]
theorem qB{bx:Nat}{va:Value}{xs:List BU}{G0:List Ab}(hn:xs.length≤1048576)(hs:CR K w0 AY 3 va xs):
  Pm Tryz.prog K w0 150 [vP bx 0] [own bx (.cells #[va] 89)] G0 pD (Gh xs):=by
 intro lp J9 X T rc hy h0
 refine Vf.enter Tryz.func150 rfl rfl ?_
 show SX _ _ _ _ _ _ _ _ _ (own bx (.cells #[va] 89)::((rc::G0)++T))
 refine Y (AG 0 SU E (CW hs E MD E (V E (FZ zO zO) (O E (U (AK ?_))))))
 refine SX.mono (A9 (α:=Nat×List Ab) (fun x=>x.1≤xs.length∧J9 ((Gh xs).take x.1) x.2) (fun x=>[(0,vY lp),(1,vP bx 0),(3,vI ((xs.length:Int)-1-(x.1:Int)))])
  (fun x=>own bx (.cells #[va] 89)::(x.2++T)) (fun x=>xs.length-x.1) (fun x D hp=>?_) (0,rc::G0) ⟨Nat.zero_le _,h0⟩) (by simpa using tL)
 obtain⟨k,G⟩:=x
 obtain⟨hk,hJ⟩:=hp
 dsimp only at hk hJ ⊢
 refine AE (Y (J E (V E FH (U ?_))))
 refine BH E (fun hc1=>?_) (fun hc1=>?_)
 have hlt:k<xs.length:=by
  have:=of_decide_eq_true hc1
  omega
 clear hc1
 have hb:k<(Gh xs).length:=by rw[K9];exact hlt
 have hget:=ZS xs k hlt
 have hx:A1 xs ((xs.length:Int)-1-(k:Int))=some (xs[xs.length-1-k]' zO):=by
  rw[A1,if_pos zO,show((xs.length:Int)-1-(k:Int)).toNat=xs.length-1-k by omega]
  exact List.getElem?_eq_getElem _
 refine AH (AI (AE (AK (Y (J E (J E (AG 0 SU E (J E ?_))))))))
 refine EL hx hs E MD MC E E fun be1 of1 hc1=>?_
 refine BA (AY _) E Tx E E (Ek hc1) ?_
 refine I7 (M2:=[_]) (G:=G) (T:=T) (vs:=[_,_]) (ok:=fun G1=>J9 ((Gh xs).take (k+1)) G1) (no:=X) E E ⟨E,E,zT⟩ E ?_ (fun bb G1 hG1=>⟨zT,?_⟩)
 intro M
 have:=hy ((Gh xs).take k) ((Gh xs)[k]) ((Gh xs).drop (k+1)) (cY _ k hb) G hJ M
 rw[aq _ k hb,hget]at this
 rw[show((xs.length:Int)-1-(k:Int))=((xs.length-1-k:Nat):Int) by omega]
 exact this
 refine CO E E (U ?_)
 refine BH E (fun hc3=>?_) (fun hc3=>?_)
 obtain rfl:bb=false:=by simpa using hc3
 refine AM (BO (Ag (FB (BO ?_))))
 exact Ax (E4 E) (As (M:=G1) (.inr hG1) fun _ h=>h.skip [_])
 obtain rfl:bb=true:=by simpa using hc3
 refine AH (Ao (AI (AJ (J E (V E (FZ zO zO) ?_)))))
 refine AX (u:=vI ((xs.length:Int)-1-((k+1:Nat):Int))) E E (congrArg vI zO) ?_
 refine AT ?_
 exact Am (k+1,G1) ⟨hlt,hG1⟩ (by dsimp only;omega) tL (A5 [0] 1 E E E)
 have hge:k=xs.length:=by
  have:=of_decide_eq_false hc1
  omega
 subst hge
 rw[List.take_of_length_le (by rw[K9];exact Nat.le_refl _)]at hJ
 refine Av (Ay (BP (A0 ?_)))
 exact D5 (E4 E) (As (M:=G) (.inl hJ) fun _ h=>h.skip [_])
theorem qh{va:Value}(hva:va.cells=#[va]):zC K w0 113 [va] [] H (fun u M=>∃bx:Nat,u=.func (.func 150) #[] #[vP bx 0]∧M=[own bx (.cells #[va] 89)]):=by
 refine Vf.enter Tryz.func113 rfl rfl ?_
 refine Y ?_
 refine Bw E E zU fun b1=>?_
 rw[hva]
 refine O E (U (Y ?_))
 refine Im (fv:=#[]) (cv:=#[_]) E E E ?_
 refine O E (U (AM ?_))
 exact CC [0] 1 (D7 E E) E E ⟨_,E,E⟩
end

section
variable {K:Nat→Prop}{w0:World}{H:List Ab}
end

section
variable {K:Nat→Prop}{w0:World}{H:List Ab}
end

section
end

section
variable {K:Nat→Prop}{w0:World}{H:List Ab}
end

section
variable {K:Nat→Prop}{w0:World}{H:List Ab}
abbrev Nz:={s:List UInt8 // s.length≤1048576}
def YK(s:List UInt8):Option Nz:=if h:s.length≤1048576 then some ⟨s,h⟩else none
theorem aN{s:List UInt8}{k:Nz}(h:YK s=some k):k.1=s:=by
 unfold YK at h
 split at h
 rw[←zI h]
 cases h
def Ri(k:Nz):Value:=vS k.1
theorem iK{P:Program}{k:TypeId}(hk:P.underlying k=some .string)(a:Nz):∃l,keyOf P k (Ri a)=some l:=by
 refine⟨.string a.1,?_⟩
 have:=a.2
 simp[keyOf,hk,mapKey,vS,Ri]
 show a.1.length≤maxLen
 simp[maxLen]
 omega
def UH(r:Bo):Value:=.agg (CP r).toArray
theorem WN{P:Program}{k:TypeId}(hk:P.underlying k=some .string):Ot P k Ri UH:=
 ⟨Maps.string_keyed hk,iK hk,⟨fun v=>match v with | .string b=>YK b.data.toList | _=>none,fun x=>by
  show YK x.1=some x
  unfold YK
  rw[dif_pos x.2]⟩,⟨fun v=>match v with | .agg a=>(match a.toList with | [.int _ p,.string b]=>some ⟨UInt32.ofNat p.toNat,b.data.toList⟩ | _=>none) | _=>none,fun x=>by
  cases x
  simp[UH,CP,AC,vS]⟩⟩
structure P5 where
 b:Nat
 rv:Value
 mt:Nat
 d:Nat
 bv:Value
 mp:Nat
 mb:Nat
abbrev ME(B:P5)(v:BD)(d:Au):List Ab:=
 [vO B.b B.d B.rv B.mt v,AD 55 2 B.rv Ad v.ring,Al B.mt AC vB v.taken,dO B.d B.bv B.mp B.mb d,AD 9 1 B.bv eS d.blocks,Al B.mp AC vS d.pend,Al B.mb AC vB d.bad]
structure Vh where
 tk:List UInt32
 v:BD
 d:Au
abbrev Vb(bt bm bv bk:Nat)(B:P5)(th:List (Nz×Bo))(a:Value)(q:Vh):List Ab:=
 own bt (.cells #[.map (some bm)] 207)::Al bm Ri UH th::own bv (.cells #[vP B.b 0] 93)::own bk (.cells #[a] 129)::AD 36 1 a AQ q.tk::ME B q.v q.d
def P1(T:List UInt32)(th:List (Nz×Bo)):Yb Vh:=fun q s=>
 (YK s).bind fun k=>cond (Db th k).isSome (some (((Db th k).getD ⟨0,[]⟩,0),q))
  ((ID T q.v q.d s).bind fun y=>cond (decide (y.2.1=0)) ((Eh 4 q.tk [y.1.page]).bind fun l=>some ((y.1,y.2.1),⟨l,y.2.2.1,y.2.2.2⟩)) (some ((y.1,y.2.1),⟨q.tk,y.2.2.1,y.2.2.2⟩)))
theorem oZ{T:List UInt32}{bt bm bv bk:Nat}{B:P5}{th:List (Nz×Bo)}:ik T 114 #[vP bt 0,vP bv 0,vP bk 0] (Vb bt bm bv bk B th) (P1 T th):=by
 intro K w0 H a q s r hS h
 unfold P1 at h
 refine AB h fun k hk h=>?_
 have hks:=aN hk
 refine Vf.enter Tryz.func114 rfl rfl ?_
 show SX _ _ _ _ _ _ _ _ _ (Vb bt bm bv bk B th a q++H)
 refine Y ?_
 refine A6 E Gs zU fun b0=>?_
 refine O E (U (AE (Y (AG 1 qM E (J E ?_)))))
 refine bY (zv:=(⟨0,[]⟩:Bo)) 2 (WN De) E qZ Gs E (by rw[←hks];rfl) E ?_
 refine J E (Ap E E E (Ap E E E ?_))
 refine A6 E Gs zU fun b1=>?_
 refine BN 0 E E E E F6 E E E zT (PX 0 (own b1 (.cells #[AC ((Db th k).getD ⟨0,[]⟩).page,vS ((Db th k).getD ⟨0,[]⟩).tag] 146)) (O E (U (Y (J E (U ?_))))))
 refine AL h E (fun hc1 h=>?_) fun hc1 h=>?_
 obtain rfl:=zI h
 refine Y (BA (CP ((Db th k).getD ⟨0,[]⟩)) E EZ E E (A2 0 E) (BN 1 E E E E F6 E E E zT (O E (U (AM (Ag ?_))))))
 exact Ax (Fi E (Cj 1 (CP ((Db th k).getD ⟨0,[]⟩)) EZ E E E E) E) (As (M:=Vb bt bm bv bk B th a q) ⟨E,a,E⟩ fun _ hw=>Br.pick (H:=[_,_]) hw [] 2 E)
 refine AB h fun y hy h=>?_
 refine AH (AI (Y (AG 4 Ue E (J E ?_))))
 refine SL.heap (H':=ME B q.v q.d++([_,_,_,_,_,_,_]++H)) ?_ (fun _ hw=>Hm (A:=[_,_,_,_,_,_,_]) (B:=ME B q.v q.d) (R:=H) hw)
 have hcon:=gJ (K:=K) (w0:=w0) (H:=([own b1 (.cells #[AC ((Db th k).getD ⟨0,[]⟩).page,vS ((Db th k).getD ⟨0,[]⟩).tag] 146),own b0 (.cells #[AC 0,vS []] 146),own bt (.cells #[.map (some bm)] 207),Al bm Ri UH th,own bv (.cells #[vP B.b 0] 93),own bk (.cells #[a] 129),AD 36 1 a AQ q.tk]++H)++[Bp []]) (A7:=B.b) (Aj:=B.rv) (BX:=B.mt) (Bb:=B.d) (CZ:=B.bv) (CX:=B.mp) (CY:=B.mb) hy hS
 refine Bx (vs:=[_,_]) (Hin:=ME B q.v q.d) (Hr:=[_,_,_,_,_,_,_]++H) E E ⟨E,E,zT⟩ rh E E hcon ?_
 rintro _ _ ⟨rfl,rfl⟩
 refine⟨trivial,?_⟩
 refine SL.heap (H':=[_,_,_,_,_,_,_]++(ME B y.2.2.1 y.2.2.2++H)) ?_ (fun _ hw=>Hm (A:=ME B y.2.2.1 y.2.2.2) (B:=[_,_,_,_,_,_,_]) (R:=H) hw)
 refine J E (Ap E E E (Ap E E E ?_))
 refine A6 E Gs zU fun b2=>?_
 refine BN 0 E E E E F6 E E E zT (PX 0 (own b2 (.cells #[AC y.1.page,vS y.1.tag] 146)) (O E (U ?_)))
 refine Az (α:=List UInt32×Value) (fun w=>some ((y.1,y.2.1),(⟨w.1,y.2.2.1,y.2.2.2⟩:Vh))=some r) (fun w=>[(9,vP b2 0),(10,vI y.2.1),(5,vP b0 0)])
  (fun w=>own b2 (.cells #[AC y.1.page,vS y.1.tag] 146)::own b0 (.cells #[AC 0,vS []] 146)::(Vb bt bm bv bk B th w.2 ⟨w.1,y.2.2.1,y.2.2.2⟩++H)) ?_ (fun w D h=>?_)
 refine Y (J E (V E Bv (U ?_)))
 refine AL h E (fun hc2 h=>?_) fun hc2 h=>?_
 refine AB h fun l hl h=>?_
 refine AJ (AG 6 js E (AF E HB (AG 0 Ah E ?_)))
 refine Ck [_] rfl Af Aa Jf ⟨rfl,trivial⟩ rfl rfl rfl zW rfl rfl zU fun b3=>?_
 refine Cp AQ 1 ([y.1.page]:List UInt32) E zV E ?_
 refine EF 8 hl (sz:=1) (enc:=AQ) zV E Af Aa R9 Jf E zD E E E E (Ct (sz:=1) (enc:=AQ) 0 zV E) (by simp[AQ,Value.oneCell']) zU fun v3=>?_
 refine EI 8 E fun hv3 ho3=>?_
 refine FV 7 E E E E jy hv3 ho3 E zT (AT ?_)
 exact Ak (l,v3) h tL (A5 [1,3,4,5,6,7,8] 9 E E E)
 refine AH ?_
 exact Ak (q.tk,a) h tL (A5 [0,2,3,4,5,6,7] 8 E E E)
 obtain⟨l,v3⟩:=w
 obtain rfl:=zI h
 dsimp only
 refine Y (BA (CP y.1) E EZ E E (A2 0 E) (J E (BN 1 E E E E F6 E E E zT (O E (U (AM ?_))))))
 exact Ax (Fi E (Cj 1 (CP y.1) EZ E E E E) E) (As (M:=Vb bt bm bv bk B th v3 ⟨l,y.2.2.1,y.2.2.2⟩) ⟨E,v3,E⟩ fun _ hw=>Br.pick (H:=[_,_]) hw [] 2 E)
end

section
variable {K:Nat→Prop}{w0:World}{H:List Ab}
def TL:List (Int×BU)→List (Nz×Bo)→Option (List (Nz×Bo))
 | [],m=>some m
 | s::l,m=>(YK s.2.txt).bind fun k=>(Oj m k ⟨s.2.page,s.2.tag⟩).bind fun m'=>TL l m'
def UR:List UInt32→BD→Au→Option BD
 | [],v,_=>some v
 | x::l,v,d=>(Jc v d x).bind fun y=>UR l y.2 d
def ew(y:Bo×(Mm×Vh)):Option (List BU×Int×BD×Au):=
 cond (!decide (y.2.1.wrong=0)) (if 1048576<y.2.2.tk.length then none else(UR y.2.2.tk y.2.2.v y.2.2.d).bind fun v'=>some ([],y.2.1.wrong,v',y.2.2.d)) (some (y.2.1.out,0,y.2.2.v,y.2.2.d))
def Ud(n:Nat)(T:List UInt32)(p0:BD)(p0_1:Au)(p1:List A3)(p2:List BU):Option (List BU×Int×BD×Au):=
 (Ux n p1).bind fun b=>cond (!decide (b.2=0)) (some ([],b.2,p0,p0_1))
  (if 1048576<p2.length then none else(TL (Gh p2) []).bind fun th=>(Jj n (P1 T th) n b.1 ⟨[],0⟩ ⟨[],p0,p0_1⟩).bind ew)
theorem lz{n A7 BX Bb CX CY:Nat}{T:List UInt32}{Aj CZ FU H4:Value}{p0:BD}{p0_1:Au}{p1:List A3}{p2:List BU}{r:List BU×Int×BD×Au}(h:Ud n T p0 p0_1 p1 p2=some r)(hS:Hq K w0 T)(hs1_:CR K w0 Ac 4 FU p1)(hs2_:CR K w0 AY 3 H4 p2):
  zC K w0 83 [vP A7 0,FU,H4] (ME ⟨A7,Aj,BX,Bb,CZ,CX,CY⟩ p0 p0_1) H (fun u M=>∃v0:Value,u=.tuple #[v0,vI r.2.1]∧M=AD 148 3 v0 AY r.1::ME ⟨A7,Aj,BX,Bb,CZ,CX,CY⟩ r.2.2.1 r.2.2.2):=by
 unfold Ud at h
 refine AB h fun b hb h=>?_
 refine Vf.enter Tryz.func83 rfl rfl ?_
 show SX _ _ _ _ _ _ _ _ _ (ME ⟨A7,Aj,BX,Bb,CZ,CX,CY⟩ p0 p0_1++H)
 refine Y ?_
 refine Bw E E zU fun b0=>?_
 refine O E (O E (U (AE (Y (AG 0 Ue E (GJ E lo E E (U (EO E (AH (AI (Y (J E ?_))))))))))))
 refine Bx (vs:=[_]) (Hin:=[]) (Hr:=_::(ME ⟨A7,Aj,BX,Bb,CZ,CX,CY⟩ p0 p0_1++H)) E E ⟨E,zT⟩ ra E E (qi hb hs1_) ?_
 rintro _ _ ⟨nv,L,rfl,hnz,rfl⟩
 refine⟨trivial,?_⟩
 refine J E (Ap E E E (Ap E E E ?_))
 refine A6 E KG zU fun b1=>?_
 refine BN 0 E E E E KD E (List.all_eq_true.2 (Pg nv)) E zT (PX 0 (own b1 (.cells (EG nv).toArray 204)) (O E (U (AE (Y (J E (V E Bg (U ?_))))))))
 refine AL h E (fun hc2 h=>?_) fun hc2 h=>?_
 obtain rfl:=zI h
 refine Y (J E (O E (O E (U (AM (Ag (QY 148 3 AY ?_)))))))
 exact Ax (F1 E E E) (As (M:=_::ME ⟨A7,Aj,BX,Bb,CZ,CX,CY⟩ p0 p0_1) ⟨_,E,E⟩ fun _ hw=>Br.pick (H:=[_,_,_,_]) hw [0] 4 E)
 split at h
 cases h
 rename_i hbig
 obtain⟨th,hth,h3⟩:=Da h
 clear h
 obtain⟨y,hy,h⟩:=Da h3
 clear h3
 refine AH (AI (Y ?_))
 refine Us Ri UH E zU fun bm=>?_
 refine A6 E xF zU fun b2=>?_
 refine BN 0 E E E E wk E E E zT (PX 0 (own b2 (.cells #[.map (some bm)] 207)) (U (AE (Y (J E ?_)))))
 refine Bx (vs:=[_]) (Hin:=[]) (Hr:=_::_::_::_::_::(ME ⟨A7,Aj,BX,Bb,CZ,CX,CY⟩ p0 p0_1++H)) E E ⟨E,zT⟩ rf E E (qh hs2_.one) ?_
 rintro _ _ ⟨bx,rfl,rfl⟩
 refine⟨trivial,?_⟩
 refine U (AK ?_)
 refine N1 (enc:=pD) (Gh p2) (G0:=(own b2 (.cells #[.map (some bm)] 207)::Al bm Ri UH []::own b1 (.cells (EG nv).toArray 204)::Jg L::own b0 (.cells #[vP A7 0] 93)::(ME ⟨A7,Aj,BX,Bb,CZ,CX,CY⟩ p0 p0_1++H))) (fun pre G=>∃m:List (Nz×Bo),(∀suf,Gh p2=pre++suf→TL suf m=some th)∧G=(own b2 (.cells #[.map (some bm)] 207)::Al bm Ri UH m::own b1 (.cells (EG nv).toArray 204)::Jg L::own b0 (.cells #[vP A7 0] 93)::(ME ⟨A7,Aj,BX,Bb,CZ,CX,CY⟩ p0 p0_1++H))) (fun c G=>False) E sB E zV (qB zO hs2_) E ⟨[],fun suf e=>by rw[←show Gh p2=suf from e];exact hth,E⟩ (fun pre x suf G hxs hJ lr lp Rest=>?_) (fun G D hJ=>?_) (fun c G D hX=>hX.elim)
 obtain⟨m,hm,rfl⟩:=hJ
 have h1:=hm (x::suf) hxs
 rw[TL]at h1
 obtain⟨k,hk,h1⟩:=Da h1
 obtain⟨m1,hm1,h1⟩:=Da h1
 have hks:=aN hk
 refine AJ ?_
 refine A6 E RA zU fun b3=>?_
 refine BN 0 E E E E MC E E E zT (AT ?_)
 refine MI (G:=own b3 (.cells #[vS x.2.txt,AC x.2.page,vS x.2.tag] 148)::(own b2 (.cells #[.map (some bm)] 207)::Al bm Ri UH m::own b1 (.cells (EG nv).toArray 204)::Jg L::own b0 (.cells #[vP A7 0] 93)::(ME ⟨A7,Aj,BX,Bb,CZ,CX,CY⟩ p0 p0_1++H))) ?_
 refine AK (AJ (AG 1 qM rfl (AF rfl pR (AG 0 H9 rfl (AF rfl Lx (BA [AC x.2.page,vS x.2.tag] rfl EZ rfl rfl (Dy 0 rfl (by rintro(_ | (_ | j)) u hj<;>first | exact hj | exact absurd hj zS)) ?_))))))
 refine R5 (a:=(⟨x.2.page,x.2.tag⟩:Bo)) 2 hm1 (WN De) E qZ E (by rw[Ri,hks];rfl) E E zT ?_
 refine AT (Ao ?_)
 exact Jl ⟨m1,fun suf' e=>by rw[Y6 hxs e];exact h1,E⟩ (A5 [] 1 E E E)
 obtain⟨m,hm,rfl⟩:=hJ
 have h1:=hm [] (List.append_nil _).symm
 obtain rfl:m=th:=zI h1
 refine Ao (AI (Y ?_))
 refine A6 E xB zU fun b3=>?_
 refine PX 0 (own b3 (.cells #[zN] 129)) (Ci 36 1 AQ (U (Y ?_)))
 refine Im (fv:=#[]) (cv:=#[_,_,_]) E E E ?_
 refine Cf [_] E wS wD xG ⟨E,zT⟩ E ?_
 refine Bw E E zU fun b4=>?_
 refine Ci 148 3 AY (O E (U ?_))
 have hcon:=Dm (K:=K) (w0:=w0) (H:=(own b1 (.cells (EG nv).toArray 204)::H)++[Bp D]) (f:=116) (B:=[Jg L]) (Hin:=NJ b4 (.func (.func 114) #[] #[vP b2 0,vP b0 0,vP b3 0]) (.slice none 0 0) ⟨[],0⟩::AD 148 3 (.slice none 0 0) AY []::Vb b2 bm b0 b3 (⟨A7,Aj,BX,Bb,CZ,CX,CY⟩:P5) m (.slice none 0 0) ⟨[],p0,p0_1⟩) fun K' w1 hkk hB=>
  TQ (C:=Vb b2 bm b0 b3 (⟨A7,Aj,BX,Bb,CZ,CX,CY⟩:P5) m) (bp:=b4) (vo:=.slice none 0 0) (ca:=.slice none 0 0) (cs:=#[vP b2 0,vP b0 0,vP b3 0]) rg oZ n (hS.keeps hkk) hy (hnz.lent (hB _ zS))
 generalize hpo:(fun(u:Value) (M:List Ab)=>∃M',M=[Jg L]++M'∧(u=.agg (CP y.1).toArray∧∃vo' ca',M'=NJ b4 (.func (.func 114) #[] #[vP b2 0,vP b0 0,vP b3 0]) vo' y.2.1::AD 148 3 vo' AY y.2.1.out::Vb b2 bm b0 b3 (⟨A7,Aj,BX,Bb,CZ,CX,CY⟩:P5) m ca' y.2.2))=po at hcon
 refine Y (J E (BA (EG nv) E O4 E E (A2 6 E) ?_))
 refine SL.heap (H':=([Jg L]++(NJ b4 (.func (.func 114) #[] #[vP b2 0,vP b0 0,vP b3 0]) zN ⟨[],0⟩::AD 148 3 zN AY []::Vb b2 bm b0 b3 (⟨A7,Aj,BX,Bb,CZ,CX,CY⟩:P5) m zN ⟨[],p0,p0_1⟩))++(own b1 (.cells (EG nv).toArray 204)::H)) ?_ (A5 [7,1,0,4,5,8,3,2,9,10,11,12,13,14,15,6] 16 E E E)
 refine Bx (vs:=[_,_]) (Hin:=[Jg L]++(NJ b4 (.func (.func 114) #[] #[vP b2 0,vP b0 0,vP b3 0]) zN ⟨[],0⟩::AD 148 3 zN AY []::Vb b2 bm b0 b3 (⟨A7,Aj,BX,Bb,CZ,CX,CY⟩:P5) m zN ⟨[],p0,p0_1⟩)) (Hr:=own b1 (.cells (EG nv).toArray 204)::H) E E ⟨E,E,zT⟩ kU E E hcon ?_
 intro u0 M0 hpost
 rw[←hpo]at hpost
 obtain⟨_,rfl,rfl,vo,ca,rfl⟩:=hpost
 refine⟨trivial,?_⟩
 refine U ?_
 unfold ew at h
 refine AE (Y (J E (AV E E (AF E UP (AG 1 ST E (V E Bg (U ?_)))))))
 refine AL h E (fun hc3 h=>?_) fun hc3 h=>?_
 split at h
 cases h
 rename_i hbt
 refine AB h fun v' hv' h=>?_
 obtain rfl:=zI h
 refine AE (Y (AG 6 js E (FJ 7 E Af E E (J E (U (AK ?_))))))
 refine SX.heap (SX.mono (A9 (α:=Nat×BD) (fun x=>x.1≤y.2.2.tk.length∧UR (y.2.2.tk.drop x.1) x.2 y.2.2.d=some v') (fun x=>[(3,vP b0 0),(14,vP b4 0),(48,ca),(49,vI (y.2.2.tk.length:Int)),(50,vI (x.1:Int))])
  (fun x=>NJ b4 (.func (.func 114) #[] #[vP b2 0,vP b0 0,vP b3 0]) vo y.2.1::own b0 (.cells #[vP A7 0] 93)::AD 36 1 ca AQ y.2.2.tk::(ME (⟨A7,Aj,BX,Bb,CZ,CX,CY⟩:P5) x.2 y.2.2.d++H))
  (fun x=>y.2.2.tk.length-x.1) (fun x D hp=>?_) (0,y.2.2.v) ⟨Nat.zero_le _,hv'⟩) tL) (A5 [1,5,7,8,9,10,11,12,13,14] 16 rfl rfl rfl)
 obtain⟨i,v1⟩:=x
 obtain⟨hi,hg⟩:=hp
 dsimp only at hi hg ⊢
 refine Y (V E BL (U (AE ?_)))
 refine BH E (fun hc4=>?_) (fun hc4=>?_)
 have hlt:i<y.2.2.tk.length:=by
  have:=of_decide_eq_true hc4
  omega
 clear hc4
 have hnth:A1 y.2.2.tk (i:Int)=some y.2.2.tk[i]:=by
  rw[A1,if_pos zO]
  exact List.getElem?_eq_getElem hlt
 rw[List.drop_eq_getElem_cons hlt,UR]at hg
 refine AB hg fun z hz hg=>?_
 refine AH (AI (AE (AK (Y ?_))))
 refine AZ 2 hnth E Af Aa E E E fun g1 m1 cp1 hv1=>?_
 refine Aq E Ah E (AS (sz:=1) (enc:=AQ) 2 0 zV E hv1 hnth E) ?_
 refine O E (U (AJ (AG 1 Ue E (J E ?_))))
 refine SL.heap (H':=ME (⟨A7,Aj,BX,Bb,CZ,CX,CY⟩:P5) v1 y.2.2.d++([_,_,_]++H)) ?_ (fun _ hw=>Hm (A:=[_,_,_]) (B:=ME (⟨A7,Aj,BX,Bb,CZ,CX,CY⟩:P5) v1 y.2.2.d) (R:=H) hw)
 have hcon:=Zm (K:=K) (w0:=w0) (H:=([NJ b4 (.func (.func 114) #[] #[vP b2 0,vP b0 0,vP b3 0]) vo y.2.1,own b0 (.cells #[vP A7 0] 93),AD 36 1 ca AQ y.2.2.tk]++H)++[Bp D]) (A7:=A7) (Aj:=Aj) (BX:=BX) (Bb:=Bb) (CZ:=CZ) (CX:=CX) (CY:=CY) hz
 refine Bx (vs:=[_,_]) (Hin:=ME (⟨A7,Aj,BX,Bb,CZ,CX,CY⟩:P5) v1 y.2.2.d) (Hr:=[_,_,_]++H) E E ⟨E,E,zT⟩ kV E E hcon ?_
 rintro _ _ ⟨rfl,rfl⟩
 refine⟨trivial,?_⟩
 refine SL.heap (H':=[_,_,_]++(ME (⟨A7,Aj,BX,Bb,CZ,CX,CY⟩:P5) z.2 y.2.2.d++H)) ?_ (fun _ hw=>Hm (A:=ME (⟨A7,Aj,BX,Bb,CZ,CX,CY⟩:P5) z.2 y.2.2.d) (B:=[_,_,_]) (R:=H) hw)
 refine AT (Ao (AI (AJ (V E (B2 zO zO) (J E (AT ?_))))))
 exact Am (i+1,z.2) ⟨hlt,hg⟩ (by dsimp only;omega) tL (A5 [0,1,2] 3 E E E)
 have hge:i=y.2.2.tk.length:=by
  have:=of_decide_eq_false hc4
  omega
 subst hge
 rw[List.drop_length,UR]at hg
 obtain rfl:v1=v':=zI hg
 refine Av (Ay (BP (A0 (AI (AE (Ai C2 [0] (BJ (Hp 0 6) .nil) zK (J E (AV E E (AF E UP (AG 0 ST E (O E (O E (U (AM (Ag (QY 148 3 AY ?_))))))))))))))))
 exact Ax (F1 E E E) (As (M:=_::ME (⟨A7,Aj,BX,Bb,CZ,CX,CY⟩:P5) v1 y.2.2.d) ⟨_,E,E⟩ fun _ hw=>Br.pick (H:=[_,_,_,_]) hw [0] 4 E)
 obtain rfl:=zI h
 refine AH (AI (Y (J E (AV E E (AF E Z8 (AG 1 SU E (O E (O E (U (AM ?_))))))))))
 exact Ax (F1 E E E) (As (M:=AD 148 3 vo AY y.2.1.out::ME (⟨A7,Aj,BX,Bb,CZ,CX,CY⟩:P5) y.2.2.v y.2.2.d) ⟨_,E,E⟩ fun _ hw=>Br.pick (H:=[_,_,_,_,_,_,_,_,_,_,_,_,_,_,_,_]) hw [2,8,9,10,11,12,13,14] 16 E)
end

section
structure yT where
 out:List BU
 rows:List A3
 count:Int
end

section
variable {K:Nat→Prop}{w0:World}{H:List Ab}
end

section
variable {K:Nat→Prop}{w0:World}{H:List Ab}
end

section
variable {K:Nat→Prop}{w0:World}{H:List Ab}
end

section
def xP(l:List A3):Prop:=l.Pairwise fun a b=>a.id≤b.id
inductive SB (bs:Nat):List A3→Prop
 | last (S:List A3):S.length≤bs→xP S→SB bs S
 | more (S R:List A3):S.length=bs→xP S→SB bs R→SB bs (S++R)
end

section
variable {n:Nat}{T:List UInt32}{v:BD}{d:Au}
end

section
theorem fh.lastE:∀ {ls:List (List A3)} {r0 r:Bo} {seg:List BU} ,ls≠[]→fh ls r0 seg r→∃a s,seg=a++[⟨s,r.page,r.tag⟩]
 | [],_,_,_,h,_=>absurd rfl h
 | l::ls,r0,seg,r,_,h=>by
  obtain⟨r1,seg',h1,rfl,h2⟩:=h
  rcases ls with _ | ⟨l2,ls⟩
  obtain⟨rfl,rfl⟩:=h2
  exact⟨[],_,rfl⟩
  obtain⟨a,s,rfl⟩:=fh.lastE zS h2
  exact⟨_::a,s,rfl⟩
theorem ZB.lastE{f:Nat}{t:DB}{seg:List BU}{r:Bo}(h:ZB f t seg r):∃a s,seg=a++[⟨s,r.page,r.tag⟩]:=by
 cases f with
 | zero=>exact h.elim
 | succ f=>
  rcases h.2 with⟨_,h2⟩ | ⟨_,segs,rs,_,_,rfl⟩
  refine fh.lastE ?_ h2
  intro e
  have:=congrArg List.length e
  rw[List.length_reverse,Sz,List.length_nil]at this
  omega
  exact⟨segs,_,rfl⟩
end



section
theorem nj{n:Int}(h0:0≤n)(h1:n≤1048576):Gp n=some (List.replicate n.toNat 0):=by
 unfold Gp jU
 rw[if_pos ⟨h0,by omega,by omega⟩,Z]
def Xk(d:Au):Bool := !(d.isCut&&decide (d.lasts=0)||d.off)
def Py(d:Au):Au:={ d with lasts:=if d.isCut then wI (d.lasts-1)else d.lasts,counts:=wI (d.counts+1) }
def eV(d:Au):Au:={ d with off:=true }
theorem U6(d:Au):E5 d=some (if Xk d then(0,Py d)else(71,eV d)):=by
 obtain⟨off,isCut,lasts,counts,bl,pd,bd,rc,rt,rb⟩:=d
 unfold E5 GL GM
 by_cases h0:lasts=0<;>cases off<;>cases isCut<;>simp[Xk,Py,eV,h0]
def ph(d:Au)(r:Au):Int×Au:=if Xk d then(0,r)else(71,eV d)
theorem eI(d:Au)(p:UInt32):QT d p=some (decide (p.toNat<d.blocks.length)):=by
 unfold QT
 rw[BE]
 congr 1
 simp
theorem nh{d:Au}{p:UInt32}{s:List UInt8}(hp:p.toNat<d.blocks.length)(hs:s.length=256)(hm:d.pend.length<9223372036854775807):KJ d p s=some (ph d { Py d with pend:=KB d.pend p s }):=by
 unfold KJ Lj
 rw[eI,Z,BE,zt hp,hs]
 simp only[U6,Z]
 cases h:Xk d
 simp[ph,h,eV]
 simp only[ph,h,if_true]
 have:(Py d).pend=d.pend:=rfl
 simp[Oj,this,hm]
def KA(d:Au)(p:UInt32):List UInt8:=(Db d.pend p).getD (d.blocks.getD p.toNat [])
theorem mi{d:Au}{p:UInt32}(hp:p.toNat<d.blocks.length):UK d p=some (KA d p):=by
 unfold UK KA
 rw[BE,BE]
 cases h:Db d.pend p with
 | some s=>simp
 | none=>
  rw[Fv,List.getElem?_eq_getElem hp]
  simp[hp]
theorem qH{d:Au}{p:UInt32}(hp:p.toNat<d.blocks.length):Nn d p=some (if d.off then([],71)else if(Db d.bad p).getD false then([],70)else(KA d p,0)):=by
 unfold Nn
 rw[eI,Z,BE,zt hp,mi hp]
 cases d.off
 cases h:(Db d.bad p).getD false<;>simp[BE,h]
 simp
theorem uD{n:Int}(h1:4≤n)(h2:n≤4096):LB n=some (some { off:=false,isCut:=false,lasts:=0,counts:=0,blocks:=List.replicate n.toNat (List.replicate 256 0),pend:=[],bad:=[],rcnt:=0,rtag:=List.replicate 32 0,rboots:=0 },0):=by
 unfold LB Ub fG
 have e:(decide (n<4)||decide (4096<n))=false:=by simp;omega
 rw[e,Bq]
 simp only[Z]
 rw[if_pos zS,Z,if_pos zS,Z,if_pos ⟨by omega,by omega⟩,Z]
 rfl
theorem uE{d r:Au}(h:Xk d=true):ph d r=(0,r):=by simp[ph,h]
end



section
theorem aa(l:List Bf)(hl:l.length≤1048576){n:Nat}(hm:16<n):If n l=some (E7 l):=by
 unfold If E7
 by_cases h16:l.length≤16
 rw[show decide (16<(l.length:Int))=false by simp;omega,show decide (l.length≤16)=true by simp[h16]]
 simp only[Bq,Bool.true_and]
 unfold LZ
 refine(congrArg (CH _ n) ?_).trans ((ms (fun i=>(L8 l i,(i:Int))) (fun i=>some (((Mu l).drop i).all (·.2))) l.length (fun i hi k hk=>?_) (fun k=>?_) zO).trans ?_)
 rfl
 have ei:((i+1:Nat):Int)=(i:Int)+1:=zO
 have st:(Mu l).drop i=((l.getD i IE).gen,Px l i)::(Mu l).drop (i+1):=by
  rw[List.drop_eq_getElem_cons (by rw[Rm];exact hi)]
  congr 1
  exact zI ((List.getElem?_eq_getElem _).symm.trans (Vw l i hi))
 dsimp only at hk ⊢
 rw[st,List.all_cons]
 simp only[Hz,show decide ((i:Int)<(l.length:Int))=true by simp;omega,Ch]
 rw[EK (k:=i) IE rfl hi,Z,Z]
 have hko:Px l i = !((decide ((l.getD i IE).gen≤L8 l i))||(!decide (((l.getD i IE).secret.length:Int)=32))):=by
  unfold Px
  rw[Bool.not_or,Bool.not_not]
  congr 1
  rw[Bool.eq_iff_iff]
  simp[UInt32.not_le]
 generalize hg:(decide ((l.getD i IE).gen≤L8 l i))=p at hko
 generalize (!decide (((l.getD i IE).secret.length:Int)=32))=q at hko
 have ho:Yn p (some q)=some (p||q):=by cases p<;>rfl
 rw[ho,Z,hko]
 cases hpq:(p||q)with
 | true=>simp only[Ch,Bool.not_true,Bool.false_and]
 | false=>
  simp only[Bq,Bool.not_false,Bool.true_and]
  rw[Z,BE,BV zO zO,←ei]
  exact hk
 simp only[Hz,show decide ((l.length:Int)<(l.length:Int))=false by simp,Bq,LY]
 rw[List.drop_of_length_le (by rw[Rm];exact Nat.le_refl _)]
 rfl
 simp
 rw[show decide (16<(l.length:Int))=true by simp;omega,show decide (l.length≤16)=false by simp;omega]
 rfl
theorem lJ(l:List Bf)(g:UInt32)(hl:l.length≤1048576){n:Nat}(hm:16<n):LE n l g=some (Eo l g):=by
 unfold LE
 rw[aa l hl hm,Z]
 cases hr:E7 l with
 | false=>
  simp only[Bool.not_false,Ch]
  unfold Eo
  rw[if_pos hr]
  rfl
 | true=>
  simp only[Bool.not_true,Bq]
  have h16:=((Ph l).1 hr).1
  unfold Md
  have hno:(∀k∈l,k.gen≠g)→Eo l g=(IE,41):=fun h=>by
   unfold Eo
   rw[if_neg (by simp[hr])]
   split
   rename_i k hk
   rw[if_neg (h k (List.mem_of_getElem? hk))]
   rfl
  refine(congrArg (CH _ n) ?_).trans (mu (fun i=>((0:UInt32),([]:List UInt8),(i:Int))) (fun i=>∀k∈l.take i,k.gen≠g) l.length (fun i hi hp k hk=>?_) (fun hp k=>?_) zS zO)
  rfl
  have ei:((i+1:Nat):Int)=(i:Int)+1:=zO
  have hgi:l[i]? = some (l.getD i IE):=LH IE hi
  dsimp only at hk ⊢
  simp only[Ie,show decide ((i:Int)<(l.length:Int))=true by simp;omega,Ch]
  rw[EK (k:=i) IE rfl hi,Z]
  by_cases hg:(l.getD i IE).gen=g
  rw[show decide ((l.getD i IE).gen=g)=true by simp only[hg,decide_true]]
  simp only[Ch]
  rw[Z,bu.2 ⟨hr,List.mem_of_getElem? hgi,hg⟩]
  rw[show decide ((l.getD i IE).gen=g)=false by simp only[hg,decide_false]]
  simp only[Bq]
  rw[BE,BV zO zO,←ei]
  refine hk fun k' hk'=>?_
  rw[List.take_add_one,hgi]at hk'
  rcases List.mem_append.1 hk' with h | h
  exact hp k' h
  simp only[Option.toList_some,List.mem_singleton]at h
  rw[h];exact hg
  simp only[Ie,show decide ((l.length:Int)<(l.length:Int))=false by simp,Bq,Mc]
  rw[List.take_length]at hp
  rw[hno hp]
  rfl
end

section
def jZ(a b c d:UInt8):UInt32:=((a.toUInt32 ||| shl32 b.toUInt32 8) ||| shl32 c.toUInt32 16) ||| shl32 d.toUInt32 24
def QJ(b:List UInt8):UInt32:=jZ (b.getD 0 0) (b.getD 1 0) (b.getD 2 0) (b.getD 3 0)
theorem Uf(b:UInt8)(k:Nat)(h:k≤24):(shl32 b.toUInt32 k).toNat=b.toNat*2^k:=by
 have h1:=b.toNat_lt
 simp only[shl32,UInt32.toNat_ofNat',Nat.min_eq_left (show k≤32 by omega),UInt8.toNat_toUInt32]
 refine Nat.mod_eq_of_lt ?_
 calc b.toNat*2^k<2^8*2^k:=Nat.mul_lt_mul_of_pos_right h1 (Nat.two_pow_pos k)
  _=2^(8+k):=(Nat.pow_add 2 8 k).symm
  _≤2^32:=Nat.pow_le_pow_right zD zO
theorem eT{u v k:Nat}(h:u<2^k):u ||| v*2^k=u+v*2^k:=by
 rw[Nat.or_comm,Nat.mul_comm,←Nat.two_pow_add_eq_or_of_lt h,Nat.add_comm]
theorem ja(a b c d:UInt8):(jZ a b c d).toNat=a.toNat+b.toNat*2^8+c.toNat*2^16+d.toNat*2^24:=by
 have ha:=a.toNat_lt
 have hb:=b.toNat_lt
 have hc:=c.toNat_lt
 unfold jZ
 rw[UInt32.toNat_or,UInt32.toNat_or,UInt32.toNat_or,Uf _ 8 zD,Uf _ 16 zD,Uf _ 24 zD,UInt8.toNat_toUInt32]
 rw[eT (u:=a.toNat) (k:=8) zO,eT (k:=16) zO,eT (k:=24) zO]
theorem gr(x:UInt32)(r:List UInt8):QJ (DN x.toUInt64 4++r)=x:=by
 apply UInt32.toNat_inj.1
 have hx:=x.toNat_lt
 unfold QJ
 rw[ja]
 simp only[Pf _ 4 _ (show 0<4 by decide),Pf _ 4 _ (show 1<4 by decide),Pf _ 4 _ (show 2<4 by decide),Pf _ 4 _ (show 3<4 by decide),UInt64.toNat_toUInt8]
 rw[MB _ _ zD,MB _ _ zD,MB _ _ zD,MB _ _ zD]
 simp only[UInt32.toNat_toUInt64]
 omega
theorem gq(T:List UInt32)(k:Bf)(h:EY)(s:List UInt8):QJ (I9 T k h s)=h.page:=by
 rw[I9,MM,aX]
 simp only[List.append_assoc]
 exact gr _ _
theorem ll{b:List UInt8}(h:b.length=256):cZ b=some (b.drop 224):=by
 unfold cZ
 rw[if_pos zO,h]
theorem pn{T:List UInt32}{v:BD}{d:Au}{p:UInt32}{tag b:List UInt8}(hr:Nn d p=some (b,0))(hb:b.length=256)(hl:v.ring.length≤1099511627776):
  Vt T v d p tag=some (if b.drop 224=tag∧QJ b=p then Xj T v.ring b else(US,[],61)):=by
 unfold Vt
 have g:∀i:Nat,i<4→A1 b (i:Int)=some (b.getD i 0):=fun i hi=>EK 0 rfl zO
 have g0:=g 0 zO
 have g1:=g 1 zO
 have g2:=g 2 zO
 have g3:=g 3 zO
 rw[hr,Z]
 show(A1 b 0).bind _=_
 rw[show A1 b 0=some (b.getD 0 0)from g0,Z,show A1 b 1=some (b.getD 1 0)from g1,Z,show A1 b 2=some (b.getD 2 0)from g2,Z,show A1 b 3=some (b.getD 3 0)from g3,Z,BE,ll hb,Z]
 change cond (!decide (b.drop 224=tag) || !decide (QJ b=p)) _ _=_
 by_cases h:b.drop 224=tag∧QJ b=p
 rw[if_pos h,zt h.1,zt h.2]
 unfold pm
 rw[if_pos ⟨hl,by show b.length≤_;omega⟩]
 rfl
 rw[if_neg h]
 have:(!decide (b.drop 224=tag) || !decide (QJ b=p))=true:=by
  simp only[Bool.or_eq_true,Bool.not_eq_true',decide_eq_false_iff_not]
  exact Classical.not_and_iff_not_or_not.1 h
 rw[this]
 rfl
theorem jo{r:Bo}(h1:2≤r.page.toNat)(h2:r.tag.length=32):FS r=some true:=by
 unfold FS
 have e1:decide ((2:UInt32)≤r.page)=true:=by rw[decide_eq_true_eq,UInt32.le_iff_toNat_le];exact h1
 have e2:decide ((r.tag.length:Int)=32)=true:=by rw[decide_eq_true_eq];omega
 rw[e1,e2]
 rfl
theorem qG{T:List UInt32}{v:BD}{d:Au}{r:Bo}{b:List UInt8}(h1:2≤r.page.toNat)(h2:r.tag.length=32)(hr:Nn d r.page=some (b,0))(hb:b.length=256)(hl:v.ring.length≤1099511627776):
  Sv T v d r=some (if b.drop 224=r.tag∧QJ b=r.page then(Xj T v.ring b).2 else([],61)):=by
 unfold Sv
 rw[jo h1 h2,Z,BE]
 unfold YF
 rw[pn hr hb hl]
 simp only[Z,Bool.not_true,Bq]
 split<;>rfl
abbrev hd(v:BD)(p:UInt32):EY:=⟨p,v.gen,v.boot,v.seals⟩
structure SZ(N c:Nat)(d:Au):Prop where
 blen:d.blocks.length=N
 nle:N≤4096
 on:d.off=false
 uncut:d.isCut=false
 good:d.bad=[]
 plen:d.pend.length≤c
 cle:c≤100
theorem SZ.write{N c:Nat}{d:Au}(D:SZ N c d)(hc:c+1≤100){p:UInt32}{b:List UInt8}(hp:p.toNat<N)(hb:b.length=256):
  KJ d p b=some (0,{ d with counts:=wI (d.counts+1),pend:=KB d.pend p b })∧SZ N (c+1) { d with counts:=wI (d.counts+1),pend:=KB d.pend p b }:=by
 have h0:Xk d=true:=by simp[Xk,D.on,D.uncut]
 constructor
 rw[nh (by rw[D.blen];exact hp) hb (by have:=D.plen;have:=D.cle;omega),uE h0]
 simp[Py,D.uncut]
 refine⟨D.blen,D.nle,D.on,D.uncut,D.good,?_,hc⟩
 have:(Fq d.pend p).length≤d.pend.length:=List.length_filter_le ..
 have:=D.plen
 show(Fq d.pend p).length+1≤c+1
 omega
theorem SZ.read{N c:Nat}{d:Au}(D:SZ N c d){p:UInt32}(hp:p.toNat<N):Nn d p=some (KA d p,0):=by
 rw[qH (by rw[D.blen];exact hp),D.on,D.good]
 rfl
theorem Xc{d:Au}{p q:UInt32}{b:List UInt8}{c:Int}:KA { d with counts:=c,pend:=KB d.pend p b } q=if p=q then b else KA d q:=by
 unfold KA
 rw[Xf]
 split<;>rfl
theorem cW{T:List UInt32}{l:List Bf}{h:EY}{s:List UInt8}{k:Bf}(hl:l.length≤1099511627776)(hk:Eo l h.gen=(k,0))(hs:s.length≤198):Xw T l h s=some (I9 T k h s,0):=by
 unfold Xw Iz
 rw[if_pos ⟨hl,by omega⟩,hk]
 simp
 omega
theorem iD{T:List UInt32}{v:BD}{d:Au}{N c:Nat}{k:Bf}{p:UInt32}{s:List UInt8}(D:SZ N c d)(hc:c+1≤100)(hl:v.ring.length≤1099511627776)(hk:Eo v.ring v.gen=(k,0))(hp:p.toNat<N)(hs:s.length≤198):
  Lv T v d p s=some ((I9 T k (hd v p) s).drop 224,0,{ v with seals:=v.seals+1 },{ d with counts:=wI (d.counts+1),pend:=KB d.pend p (I9 T k (hd v p) s) }):=by
 unfold Lv
 have hb:=ML T k (hd v p) hs
 rw[cW (h:=hd v p) hl hk hs,Z,(D.write hc hp hb).1]
 simp only[Z,ll hb]
 rfl
theorem aI(v:BD):∀(k i:Nat),(∀x,i≤x→x<i+k→Fw v (UInt32.ofNat x)=true)→Hj v i k=[]
 | 0,i,_=>rfl
 | k+1,i,h=>by
  rw[Hj,if_pos (h i (Nat.le_refl _) zO)]
  exact aI v k (i+1) fun x h1 h2=>h x zO zO
theorem gf(v:BD)(j:Nat)(hj:Fw v (UInt32.ofNat j)=false):∀(k i:Nat),i≤j→j<i+k→(∀x,i≤x→x<j→Fw v (UInt32.ofNat x)=true)→Hj v i k=[UInt32.ofNat j]
 | 0,i,h1,h2,_=>by omega
 | k+1,i,h1,h2,h=>by
  by_cases e:i=j
  subst e
  rw[Hj,if_neg (by rw[hj];decide)]
  rw[Hj,if_pos (h i (Nat.le_refl _) zO)]
  exact gf v j hj k (i+1) zO zO fun x h1 h2=>h x zO zO
theorem ng{T:List UInt32}{v:BD}{d:Au}{N c j:Nat}{k:Bf}{s:List UInt8}(D:SZ N c d)(hc:c+1≤100)(hl:v.ring.length≤1099511627776)(hk:Eo v.ring v.gen=(k,0))(hs:s.length≤198)
(h2:2≤j)(hj:j<N)(hfree:Fw v (UInt32.ofNat j)=false)(htk:∀x,2≤x→x<j→Fw v (UInt32.ofNat x)=true)(ht:v.taken.length≤100):
  ID T v d s=some (⟨UInt32.ofNat j,(I9 T k (hd v (UInt32.ofNat j)) s).drop 224⟩,0,{ v with seals:=v.seals+1,taken:=KB v.taken (UInt32.ofNat j) true },{ d with counts:=wI (d.counts+1),pend:=KB d.pend (UInt32.ofNat j) (I9 T k (hd v (UInt32.ofNat j)) s) }):=by
 have hN:=D.nle
 have hjn:(UInt32.ofNat j).toNat=j:=by simp;omega
 unfold ID eH W7
 rw[BE,zf zO,Bq,Z,D.blen,if_pos zO,Z,gf v j hfree (N-2) 2 h2 zO htk]
 show HV T v d s (UInt32.ofNat j)=_
 unfold HV
 have h0:decide (UInt32.ofNat j=0)=false:=by
  rw[decide_eq_false_iff_not]
  intro e
  have:=congrArg UInt32.toNat e
  rw[hjn]at this
  simp at this
  omega
 rw[h0,Bq,iD D hc hl hk (by rw[hjn];exact hj) hs]
 simp only[Z,Oj]
 rw[if_pos zO]
 rfl
theorem iU{T:List UInt32}{v:BD}{d:Au}{N c:Nat}{s:List UInt8}(D:SZ N c d)(hs:s.length≤198)(htk:∀x,2≤x→x<N→Fw v (UInt32.ofNat x)=true):
  ID T v d s=some (⟨0,[]⟩,110,v,d):=by
 have hN:=D.nle
 unfold ID eH W7
 rw[BE,zf zO,Bq,Z,D.blen,if_pos zO,Z,aI v (N-2) 2 (fun x h1 h2=>htk x h1 zO)]
 rfl
def UU(i:Nat):Bf:=⟨UInt32.ofNat (i+1),List.replicate 32 (UInt8.ofNat (65+i))⟩
def Ei(m:Nat):List Bf:=(List.range m).map UU
theorem E2(m:Nat):(Ei m).length=m:=by simp[Ei]
theorem hZ(m:Nat):Ei (m+1)=Ei m++[UU m]:=by simp[Ei,List.range_succ]
theorem qK(m:Nat)(hm:m≤30){n:Nat}(hn:40≤n):JW n (m:Int)=some (Ei m):=by
 unfold JW Fr
 refine GH (fun i=>(Ei i,((i+1:Nat):Int))) m ?_ ?_ zO
 intro i hi k
 simp only[IW]
 rw[zt zO,Ch]
 unfold MW
 refine GH (fun j=>(List.replicate j (UInt8.ofNat (65+i)),(j:Int))) 32 ?_ ?_ zO
 intro j hj k'
 simp only[IX]
 rw[zt zO,Ch,FA zQ zQ,Z,BE]
 have e:KE (wI (64+((i+1:Nat):Int)))=UInt8.ofNat (65+i):=by
  rw[BV zO zO]
  unfold KE
  congr 1
  omega
 rw[e,BV zO zO,←List.replicate_succ']
 rfl
 intro k'
 simp only[IX]
 rw[zf zO,Bq]
 unfold MV
 rw[FA (by simp[E2];omega) (by simp[E2];omega),Z]
 unfold MU
 rw[BE,BV zO zO]
 have e:GW ((i+1:Nat):Int)=UInt32.ofNat (i+1):=by
  unfold GW
  congr 1
  omega
 rw[e,hZ]
 rfl
 intro k
 simp only[IW]
 rw[zf zO,Bq]
 rfl
theorem Xd{i:Nat}(h:i<30):(UU i).gen.toNat=i+1:=by simp[UU];omega
theorem TG(m:Nat)(hm:m≤16):E7 (Ei m)=true:=by
 refine(jm _).2 ⟨by rw[E2];exact hm,?_,?_⟩
 unfold Ei
 rw[List.pairwise_map]
 refine List.Pairwise.imp_of_mem ?_ List.pairwise_lt_range
 intro a b ha hb hlt
 have h1:=List.mem_range.1 ha
 have h2:=List.mem_range.1 hb
 rw[UInt32.lt_iff_toNat_lt,Xd zO,Xd zO]
 omega
 intro k hk
 obtain⟨i,hi,rfl⟩:=List.mem_map.1 hk
 have h1:=List.mem_range.1 hi
 refine⟨?_,by simp[UU]⟩
 rw[UInt32.lt_iff_toNat_lt,Xd zO]
 simp
theorem gR{m i:Nat}(hm:m≤16)(hi:i<m):Eo (Ei m) (UU i).gen=(UU i,0):=
 bu.2 ⟨TG m hm,List.mem_map.2 ⟨i,List.mem_range.2 hi,rfl⟩,rfl⟩
end

section
structure VS(N c:Nat)(R:List Bf)(g:UInt32)(v:BD)(d:Au):Prop where
 dev:SZ N c d
 ring:v.ring=R
 rlen:R.length≤1099511627776
 gen:v.gen=g
 boot:v.boot=1
 tlen:v.taken.length≤c
structure X9(T:List UInt32)(R:List Bf)(d:Au)(p g:UInt32)(q:UInt64)(s b:List UInt8):Prop where
 key:∃k,Eo R g=(k,0)∧b=I9 T k ⟨p,g,1,q⟩ s
 txt:s.length≤198
 is:KA d p=b
theorem X9.len{T:List UInt32}{R:List Bf}{d:Au}{p g:UInt32}{q:UInt64}{s b:List UInt8}(h:X9 T R d p g q s b):b.length=256:=by
 obtain⟨k,_,rfl⟩:=h.key
 exact ML T k _ h.txt
theorem X9.page{T:List UInt32}{R:List Bf}{d:Au}{p g:UInt32}{q:UInt64}{s b:List UInt8}(h:X9 T R d p g q s b):QJ b=p:=by
 obtain⟨k,_,rfl⟩:=h.key
 exact gq T k _ s
theorem X9.opens{T:List UInt32}{R:List Bf}{d:Au}{p g:UInt32}{q:UInt64}{s b:List UInt8}(h:X9 T R d p g q s b):Xj T R b=(⟨p,g,1,q⟩,s,0):=by
 obtain⟨k,hk,rfl⟩:=h.key
 have hs:Iz T R ⟨p,g,1,q⟩ s=(I9 T k ⟨p,g,1,q⟩ s,0):=by
  unfold Iz
  have:=h.txt
  simp[hk]
  omega
 have:=jX (T:=T) (l:=R) (h:=⟨p,g,1,q⟩) (s:=s) (by rw[hs])
 rwa [hs]at this
theorem X9.put{T:List UInt32}{R:List Bf}{d d':Au}{p p' g:UInt32}{q:UInt64}{s b b':List UInt8}(h:X9 T R d p g q s b)(hd:∀x,KA d' x=if p'=x then b' else KA d x)(hne:p'≠p):X9 T R d' p g q s b:=
 ⟨h.key,h.txt,by rw[hd,if_neg hne];exact h.is⟩
theorem nB{i j:Nat}(hi:i<4294967296)(hj:j<4294967296)(h:i≠j):UInt32.ofNat i≠UInt32.ofNat j:=fun e=>h (by
 have:=congrArg UInt32.toNat e
 simpa[Nat.mod_eq_of_lt hi,Nat.mod_eq_of_lt hj]using this)
theorem VS.write{T:List UInt32}{N c:Nat}{R:List Bf}{g:UInt32}{v:BD}{d:Au}(V9:VS N c R g v d)(hc:c+1≤100){k:Bf}(hk:Eo R g=(k,0)){s:List UInt8}(hs:s.length≤198)(j:Nat)
(h2:2≤j)(hj:j<N)(hfree:Fw v (UInt32.ofNat j)=false)(htk:∀x,2≤x→x<j→Fw v (UInt32.ofNat x)=true):
  ∃v' d' b,ID T v d s=some (⟨UInt32.ofNat j,b.drop 224⟩,0,v',d')∧VS N (c+1) R g v' d'∧v'.seals=v.seals+1∧v'.taken=KB v.taken (UInt32.ofNat j) true∧
   (∀q,KA d' q=if UInt32.ofNat j=q then b else KA d q)∧X9 T R d' (UInt32.ofNat j) g v.seals s b∧b=I9 T k ⟨UInt32.ofNat j,g,1,v.seals⟩ s∧d'.blocks=d.blocks:=by
 have hN:=V9.dev.nle
 have hjn:(UInt32.ofNat j).toNat=j:=by simp;omega
 have hh:hd v (UInt32.ofNat j)=⟨UInt32.ofNat j,g,1,v.seals⟩:=by simp only[hd,V9.gen,V9.boot]
 have hb:=ML T k (hd v (UInt32.ofNat j)) hs
 have hw:=ng (T:=T) V9.dev hc (by rw[V9.ring];exact V9.rlen) (by rw[V9.ring,V9.gen];exact hk) hs h2 hj hfree htk (by have:=V9.tlen;omega)
 refine⟨_,_,_,hw,⟨(V9.dev.write hc (by rw[hjn];exact hj) hb).2,V9.ring,V9.rlen,V9.gen,V9.boot,?_⟩,rfl,rfl,fun q=>Xc,⟨⟨k,hk,by rw[hh]⟩,hs,?_⟩,by rw[hh],rfl⟩
 have:(Fq v.taken (UInt32.ofNat j)).length≤v.taken.length:=List.length_filter_le ..
 have:=V9.tlen
 show(Fq v.taken (UInt32.ofNat j)).length+1≤c+1
 omega
 rw[Xc,if_pos rfl]
theorem VS.read{T:List UInt32}{N c:Nat}{R:List Bf}{g g':UInt32}{v:BD}{d:Au}(V9:VS N c R g v d){p:UInt32}{q:UInt64}{s b:List UInt8}(h:X9 T R d p g' q s b)(hp2:2≤p.toNat)(hp:p.toNat<N):
  Sv T v d ⟨p,b.drop 224⟩=some (s,0):=by
 have hb:=h.len
 have hr:Nn d p=some (b,0):=by rw[V9.dev.read hp,h.is]
 have ht:(b.drop 224).length=32:=by simp[hb]
 have hl:v.ring.length≤1099511627776:=by rw[V9.ring];exact V9.rlen
 have h1:=qG (T:=T) (v:=v) (d:=d) (r:=⟨p,b.drop 224⟩) hp2 ht hr hb hl
 rw[if_pos ⟨rfl,h.page⟩,V9.ring,h.opens]at h1
 exact h1
def d0(N:Nat):Au:={ off:=false,isCut:=false,lasts:=0,counts:=0,blocks:=List.replicate N (List.replicate 256 0),pend:=[],bad:=[],rcnt:=0,rtag:=List.replicate 32 0,rboots:=0 }
def v0:BD:={ ring:=Ei 1,gen:=1,boot:=1,seals:=0,taken:=[] }
theorem Z0{m:Nat}(h:1≤m)(hm:m≤16):Eo (Ei m) 1=(UU 0,0):=gR hm h
def r0(N:Nat):BM:={ blk:=List.replicate N (List.replicate 256 0),pnd:=List.replicate N [],bads:=List.replicate N false,rcnt:=0,rtag:=List.replicate 32 0,rboots:=0,left := -1,off:=false }
theorem uC{N n:Nat}(h4:4≤N)(hN:N≤4096)(hn:N<n):Me n (N:Int)=some (some (r0 N),0):=by
 have z:∀k:Nat,k≤1048576→Gp (k:Int)=some (List.replicate k 0):=fun k hk=>by
  rw[nj zO zO]
  simp
 have z1:=z 32 zO
 have z2:=z 256 zO
 clear z
 unfold Me r0
 have hc:(decide ((N:Int)<4)||decide (4096<(N:Int)))=false:=by simp;omega
 rw[hc,Bq]
 show(Gp ((32:Nat):Int)).bind _=_
 rw[z1,Z]
 generalize List.replicate 32 (0:UInt8)=Y9
 generalize List.replicate 256 (0:UInt8)=Z9 at z2 ⊢
 unfold Nc
 refine GH (fun i=>(List.replicate i Z9,List.replicate i [],List.replicate i false,(i:Int))) N ?_ ?_ hn
 intro i hi k
 simp only[JO]
 rw[zt zO,Ch]
 show(Gp ((256:Nat):Int)).bind _=_
 rw[z2,Z,FA zQ zQ,Z,FA zQ zQ,Z,FA zQ zQ,Z,BE,BV zO zO]
 rw[←List.replicate_succ',←List.replicate_succ',←List.replicate_succ']
 rfl
 intro k
 simp only[JO]
 rw[zf zO,Bq]
 rfl
end

section
structure Tu(N:Nat)(v:BD):Prop where
 nd:(v.taken.map (·.1)).Nodup
 tr:∀e∈v.taken,e.2=true∧2≤e.1.toNat∧e.1.toNat<N
theorem Tu.iff{N:Nat}{v:BD}(h:Tu N v)(p:UInt32):Fw v p=true↔p∈v.taken.map (·.1):=by
 unfold Fw
 constructor
 intro hp
 by_cases hm:∃e∈v.taken,e.1=p
 obtain⟨e,he,rfl⟩:=hm
 exact List.mem_map_of_mem he
 rw[V2 (fun e he e'=>hm ⟨e,he,e'⟩)]at hp
 exact absurd hp zD
 intro hp
 obtain⟨e,he,rfl⟩:=List.mem_map.1 hp
 rw[V3 h.nd he]
 exact(h.tr e he).1
theorem ofNat_toNat{x:UInt32}:UInt32.ofNat x.toNat=x:=UInt32.toNat_inj.1 zS
theorem Tu.full{N:Nat}{v:BD}(h:Tu N v)(hN:N≤4096)(hl:N-2≤v.taken.length):∀x,2≤x→x<N→Fw v (UInt32.ofNat x)=true:=by
 intro x h1 h2
 rw[h.iff]
 by_cases hm:UInt32.ofNat x∈v.taken.map (·.1)
 exact hm
 exfalso
 have hnd:(x::v.taken.map fun e=>e.1.toNat).Nodup:=by
  refine List.nodup_cons.2 ⟨fun hx=>?_,?_⟩
  obtain⟨e,he,e'⟩:=List.mem_map.1 hx
  refine hm ?_
  rw[←e',ofNat_toNat]
  exact List.mem_map_of_mem he
  have:=h.nd
  rw[show(v.taken.map fun e=>e.1.toNat)=(v.taken.map (·.1)).map UInt32.toNat by simp]
  exact List.Pairwise.map _ (fun a b hab e=>hab (UInt32.toNat_inj.1 e)) this
 have:=PH hnd (l':=(List.range (N-2)).map (·+2)) (fun a ha=>by
  have hb:2≤a∧a<N:=by
   rcases List.mem_cons.1 ha with rfl | ha
   exact⟨h1,h2⟩
   obtain⟨e,he,rfl⟩:=List.mem_map.1 ha
   exact(h.tr e he).2
  exact List.mem_map.2 ⟨a-2,List.mem_range.2 zO,by omega⟩)
 simp at this
 omega
theorem cB{P:Nat→Prop}:∀k,(∃j,j<k∧P j)→∃j,j<k∧P j∧∀x,x<j→¬P x
 | 0,⟨j,h,_⟩=>by omega
 | k+1,⟨j,h,hP⟩=>by
  by_cases hk:∃i,i<k∧P i
  obtain⟨i,h1,h2,h3⟩:=cB k hk
  exact⟨i,by omega,h2,h3⟩
  have:j=k:=by
   rcases Nat.lt_or_ge j k with h' | h'
   exact absurd ⟨j,h',hP⟩ hk
   omega
  subst this
  exact⟨j,by omega,hP,fun x hx hPx=>hk ⟨x,hx,hPx⟩⟩
theorem Tu.free{N:Nat}{v:BD}(h:Tu N v)(hN:N≤4096)(hl:v.taken.length<N-2):∃j,2≤j∧j<N∧Fw v (UInt32.ofNat j)=false∧∀x,2≤x→x<j→Fw v (UInt32.ofNat x)=true:=by
 have:∃j,j<N∧(2≤j∧Fw v (UInt32.ofNat j)=false):=by
  by_cases hx:∃j,j<N∧(2≤j∧Fw v (UInt32.ofNat j)=false)
  exact hx
  exfalso
  have hnd:((List.range (N-2)).map (fun i=>UInt32.ofNat (i+2))).Nodup:=by
   refine List.pairwise_map.2 (List.Pairwise.imp_of_mem ?_ List.nodup_range)
   intro a b ha hb hne
   have ha:=List.mem_range.1 ha
   have hb:=List.mem_range.1 hb
   exact nB zO zO zO
  have:=PH hnd (l':=v.taken.map (·.1)) (fun a ha=>by
   obtain⟨i,hi,rfl⟩:=List.mem_map.1 ha
   have hi:=List.mem_range.1 hi
   rw[←h.iff]
   cases hc:Fw v (UInt32.ofNat (i+2))with
   | true=>rfl
   | false=>exact absurd ⟨i+2,by omega,by omega,hc⟩ hx)
  simp at this
  omega
 obtain⟨j,h1,⟨h2,h3⟩,h4⟩:=cB N this
 refine⟨j,h2,h1,h3,fun x hx1 hx2=>?_⟩
 cases hc:Fw v (UInt32.ofNat x)with
 | true=>rfl
 | false=>exact absurd ⟨hx1,hc⟩ (h4 x hx2)
def Rd(T:List UInt32)(R:List Bf)(N:Nat)(v:BD)(d:Au)(s:BU):Prop:=2≤s.page.toNat∧s.page.toNat<N∧Fw v s.page=true∧∃g' qn b,X9 T R d s.page g' qn s.txt b∧s.tag=b.drop 224
theorem Rd.ok{T:List UInt32}{R:List Bf}{N c:Nat}{g:UInt32}{v:BD}{d:Au}{s:BU}(V9:VS N c R g v d)(h:Rd T R N v d s):Sv T v d ⟨s.page,s.tag⟩=some (s.txt,0)∧Gr ⟨s.page,s.tag⟩=true∧s.txt.length≤198:=by
 obtain⟨h1,h2,_,g',qn,b,hb,ht⟩:=h
 have hl:=hb.len
 refine⟨by rw[ht];exact V9.read hb h1 h2,?_,hb.txt⟩
 unfold Gr
 rw[Bool.and_eq_true,decide_eq_true_eq,decide_eq_true_eq]
 refine⟨UInt32.le_iff_toNat_le.2 h1,?_⟩
 show(s.tag.length:Int)=32
 rw[ht,List.length_drop,hl]
 rfl
structure oG(N c0:Nat)(R:List Bf)(g:UInt32)(vb:BD)(db:Au)(q:Vh):Prop where
 vs:VS N (c0+q.tk.length) R g q.v q.d
 seals:q.v.seals=vb.seals+UInt64.ofNat q.tk.length
 tak:q.v.taken=(q.tk.map fun p=>(p,true)).reverse++vb.taken
 ok:Tu N q.v
 keep:∀p,p∉q.tk→KA q.d p=KA db p
 lim:c0+q.tk.length+(N-2-q.v.taken.length)≤100
theorem oG.notin{N c0:Nat}{R:List Bf}{g:UInt32}{vb:BD}{db:Au}{q:Vh}(S:oG N c0 R g vb db q)(hb:Tu N vb){p:UInt32}(h:Fw vb p=true):p∉q.tk∧Fw q.v p=true:=by
 rw[hb.iff]at h
 constructor
 intro hp
 have:=S.ok.nd
 rw[S.tak,List.map_append]at this
 refine(List.nodup_append.1 this).2.2 p ?_ p h rfl
 rw[List.map_reverse,List.mem_reverse,List.map_map]
 exact List.mem_map.2 ⟨p,hp,rfl⟩
 rw[S.ok.iff,S.tak,List.map_append]
 exact List.mem_append_right _ h
theorem oG.base{T:List UInt32}{N c0:Nat}{R:List Bf}{g:UInt32}{vb:BD}{db:Au}{q:Vh}(S:oG N c0 R g vb db q)(hb:Tu N vb){s:BU}(h:Rd T R N vb db s):Rd T R N q.v q.d s:=by
 obtain⟨h1,h2,h3,g',qn,b,hb',ht⟩:=h
 obtain⟨h4,h5⟩:=S.notin hb h3
 exact⟨h1,h2,h5,g',qn,b,⟨hb'.key,hb'.txt,by rw[S.keep _ h4];exact hb'.is⟩,ht⟩
end

section
theorem cM:∀ {f:Nat} {l:List A3} {t:DB} ,Tr f l t→(l=[]→OB f t=1)∧(l≠[]→OB f t+1≤2*l.length)
  | 0,_,_,h=>h.elim
  | f+1,l,t,h=>by
    rcases h with⟨rfl,rfl⟩ | ⟨hne,c,L,A,⟨_,rfl⟩ | ⟨h4,hL,ks,rfl,hk⟩⟩
    exact⟨fun _=>rfl,fun h=>absurd rfl h⟩
    refine⟨fun h=>absurd h hne,fun _=>?_⟩
    have:=List.length_pos_iff.2 hne
    rw[OB,if_pos (show(DB.mk c.x c.y c.lev l []).kids.length=0 from rfl)]
    simp only[DB.rows]
    omega
    refine⟨fun h=>absurd h hne,fun _=>?_⟩
    have hkl:=hk.length
    have hq2:=(TE A hL).1
    rw[OB,if_neg (by simp only[DB.kids];omega)]
    simp only[DB.kids]
    have key:∀ {xs:List (List A3)} {ys:List DB},WI (Tr f) xs ys→(∀x∈xs,x≠[])→(ys.map (OB f)).sum+xs.length≤2*xs.flatten.length:=by
      intro xs ys h
      induction h with
      | nil=>simp
      | @cons x y xs ys h1 h2 ih=>
        intro hx
        have a1:=(cM h1).2 (hx _ zS)
        have a2:=ih fun x hx'=>hx x (by simp[hx'])
        simp only[List.map_cons,List.sum_cons,List.length_cons,List.flatten_cons,List.length_append]
        omega
    have:=key hk fun x hx=>(TC hx).1
    rw[(YT L l).length_eq]at this
    omega
theorem jb{f:Nat}{l:List A3}{t:DB}(h:Tr f l t)(hl:l.length≤1000):OB f t≤max 1 (2*l.length):=by
  obtain⟨h1,h2⟩:=cM h
  by_cases e:l=[]
  rw[h1 e];omega
  have:=h2 e
  omega
theorem gi{s:List UInt8}(h:s.length≤1048576):YK s=some ⟨s,h⟩:=dif_pos h
theorem aP{m:List (UInt32×Bool)}{p:UInt32}(h:p∉m.map (·.1)):Fq m p=m:=QW fun e he e'=>h (by rw[←e'];exact List.mem_map_of_mem he)
theorem uI{T:List UInt32}{N c0:Nat}{R:List Bf}{g:UInt32}{vb:BD}{db:Au}{th:List (Nz×Bo)}{k:Bf}(hb:Tu N vb)(hN:N≤4096)(hk:Eo R g=(k,0))(hth:∀key r,Db th key=some r→Rd T R N vb db ⟨key.1,r.page,r.tag⟩):
    kP (P1 T th) (oG N c0 R g vb db) (fun q s=>Rd T R N q.v q.d s) (fun q=>N-2-q.v.taken.length):=by
  refine⟨fun q s S hs=>?_⟩
  unfold P1
  rw[gi (show s.length≤1048576 by omega),Z]
  cases hm:Db th ⟨s,by omega⟩with
  | some r=>
    have hr:=S.base hb (hth _ r hm)
    exact⟨r,0,q,rfl,S,fun _ h=>h,.inl ⟨rfl,(hr.ok S.vs).2.1,hr,Nat.le_succ _⟩⟩
  | none=>
    rw[show(none:Option Bo).isSome=false from rfl,Bq]
    by_cases hroom:q.v.taken.length<N-2
    obtain⟨j,j1,j2,j3,j4⟩:=S.ok.free hN hroom
    have hlim:=S.lim
    obtain⟨v',d',b,e1,V1,s1,t1,h1,H1,_,_⟩:=S.vs.write (T:=T) zO hk hs j j1 j2 j3 j4
    have hjn:(UInt32.ofNat j).toNat=j:=by simp;omega
    have hnin:UInt32.ofNat j∉q.v.taken.map (·.1):=by
      rw[←S.ok.iff,j3]
      decide
    have htk:v'.taken=(UInt32.ofNat j,true)::q.v.taken:=by rw[t1,KB,aP hnin]
    have hok:Tu N v':=by
      refine⟨?_,fun e he=>?_⟩
      rw[htk,List.map_cons]
      exact List.nodup_cons.2 ⟨hnin,S.ok.nd⟩
      rw[htk]at he
      rcases List.mem_cons.1 he with rfl | he
      exact⟨rfl,by rw[hjn];exact j1,by rw[hjn];exact j2⟩
      exact S.ok.tr e he
    have hntk:UInt32.ofNat j∉q.tk:=fun hj=>hnin (by
      rw[S.tak,List.map_append]
      refine List.mem_append_left _ ?_
      rw[List.map_reverse,List.mem_reverse,List.map_map]
      exact List.mem_map.2 ⟨_,hj,rfl⟩)
    rw[e1,Z]
    dsimp only
    rw[show decide ((0:Int)=0)=true from rfl,Ch,FA zQ zQ,Z]
    have hlen:(q.tk++[UInt32.ofNat j]).length=q.tk.length+1:=by simp
    refine⟨_,0,⟨q.tk++[UInt32.ofNat j],v',d'⟩,rfl,⟨?_,?_,?_,hok,fun p hp=>?_,?_⟩,fun x hx=>?_,.inl ⟨rfl,?_,?_,?_⟩⟩
    show VS N (c0+(q.tk++[UInt32.ofNat j]).length) R g v' d'
    rw[hlen]
    exact V1
    show v'.seals=vb.seals+UInt64.ofNat (q.tk++[UInt32.ofNat j]).length
    rw[s1,S.seals,hlen,UInt64.ofNat_add,UInt64.add_assoc]
    rfl
    show v'.taken=_
    rw[htk,S.tak]
    simp
    simp only[List.mem_append,List.mem_singleton,not_or]at hp
    show KA d' p=_
    rw[h1,if_neg (fun e=>hp.2 e.symm)]
    exact S.keep p hp.1
    show c0+(q.tk++[UInt32.ofNat j]).length+(N-2-v'.taken.length)≤100
    rw[hlen,htk,List.length_cons]
    omega
    obtain⟨x1,x2,x3,g',qn,b',x4,x5⟩:=hx
    have hne:UInt32.ofNat j≠x.page:=fun e=>by
      rw[←e,j3]at x3
      exact absurd x3 zD
    refine⟨x1,x2,?_,g',qn,b',x4.put h1 hne,x5⟩
    show Fw v' x.page=true
    rw[hok.iff,htk,List.map_cons]
    exact List.mem_cons_of_mem _ ((S.ok.iff _).1 x3)
    have hl:=H1.len
    unfold Gr
    rw[Bool.and_eq_true,decide_eq_true_eq,decide_eq_true_eq]
    refine⟨UInt32.le_iff_toNat_le.2 (by rw[hjn];exact j1),?_⟩
    rw[List.length_drop,hl]
    rfl
    refine⟨by rw[hjn];exact j1,by rw[hjn];exact j2,?_,g,q.v.seals,b,H1,rfl⟩
    show Fw v' (UInt32.ofNat j)=true
    rw[hok.iff,htk]
    simp
    show N-2-q.v.taken.length≤N-2-v'.taken.length+1
    rw[htk,List.length_cons]
    omega
    have hw:=iU (T:=T) S.vs.dev hs (S.ok.full hN zO)
    rw[hw,Z]
    dsimp only
    rw[show decide ((110:Int)=0)=false from rfl,Bq]
    exact⟨_,110,q,rfl,S,fun _ h=>h,.inr ⟨rfl,by omega⟩⟩
theorem cb:∀(l:List (Int×BU)) (m:List (Nz×Bo)),(∀s∈l,s.2.txt.length≤1048576)→m.length+l.length≤1000000000→
    ∃m',TL l m=some m'∧∀k:Nz,Db m' k=((l.reverse.find? fun s=>decide (s.2.txt=k.1)).map fun s=>(⟨s.2.page,s.2.tag⟩:Bo)).or (Db m k)
  | [],m,_,_=>⟨m,rfl,fun k=>by simp⟩
  | s::l,m,h,hb=>by
    simp only[List.length_cons]at hb
    have hd:(Fq m ⟨s.2.txt,h s zS⟩).length≤m.length:=List.length_filter_le ..
    obtain⟨m',h1,h2⟩:=cb l (KB m ⟨s.2.txt,h s zS⟩ ⟨s.2.page,s.2.tag⟩) (fun x hx=>h x (by simp[hx])) (by
      show(Fq m _).length+1+l.length≤_
      omega)
    refine⟨m',?_,fun k=>?_⟩
    rw[TL,gi (h s zS),Z]
    unfold Oj
    rw[if_pos zO,Z]
    exact h1
    rw[h2 k,List.reverse_cons,List.find?_append,Xf]
    cases hf:l.reverse.find? fun s=>decide (s.2.txt=k.1)with
    | some x=>rfl
    | none=>
      simp only[Option.map_none,Option.none_or,List.find?_singleton]
      by_cases e:s.2.txt=k.1
      rw[if_pos (Subtype.ext e),if_pos (by simpa using e)]
      rfl
      rw[if_neg (fun e'=>e (congrArg Subtype.val e')),if_neg (by simpa using e)]
      rfl
theorem ZU{α:Type}(xs:List α):(Gh xs).reverse.map (·.2)=xs:=by
  unfold Gh
  rw[List.reverse_reverse,List.map_map]
  have:((fun x:Int×α=>x.2)∘fun p:α×Nat=>((p.2:Int),p.1))=Prod.fst:=rfl
  rw[this,List.zipIdx_map_fst]
theorem ir{α:Type}{xs:List α}{s:Int×α}(h:s∈Gh xs):s.2∈xs:=by
  rw[←ZU xs]
  exact List.mem_map_of_mem (List.mem_reverse.2 h)
theorem j0(had:List BU)(h:∀s∈had,s.txt.length≤1048576)(hb:had.length≤1000000000):∃th,TL (Gh had) []=some th∧∀k:Nz,Db th k=(had.find? fun s=>decide (s.txt=k.1)).map fun s=>(⟨s.page,s.tag⟩:Bo):=by
  obtain⟨th,h1,h2⟩:=cb (Gh had) [] (fun s hs=>h _ (ir hs)) (by rw[K9];simpa using hb)
  refine⟨th,h1,fun k=>?_⟩
  rw[h2 k,show Db ([]:List (Nz×Bo)) k=none from rfl,Option.or_none]
  conv=>rhs;rw[←ZU had]
  rw[List.find?_map,Option.map_map]
  rfl
theorem bz{N:Nat}(hN:N≤4096):∀(tk:List UInt32) (v:BD) (d:Au) (base:List (UInt32×Bool)),d.blocks.length=N→v.taken=(tk.map fun p=>(p,true)).reverse++base→(v.taken.map (·.1)).Nodup→(∀p∈tk,2≤p.toNat∧p.toNat<N)→
    UR tk v d=some { v with taken:=base }
  | [],v,d,base,_,h,_,_=>by
    simp at h
    rw[UR,←h]
  | p::tk,v,d,base,hd,h,hn,hr=>by
    obtain⟨r1,r2⟩:=hr p zS
    have hmem:(p,true)∈v.taken:=by rw[h];simp
    have hg:=V3 hn hmem
    have hdel:Fq v.taken p=(tk.map fun p=>(p,true)).reverse++base:=by
      rw[h]at hn ⊢
      simp only[List.map_cons,List.reverse_cons,List.append_assoc,List.singleton_append,List.map_append]at hn ⊢
      obtain⟨n1,n2,n3⟩:=List.nodup_append.1 hn
      obtain⟨n4,n5⟩:=List.nodup_cons.1 n2
      unfold Fq
      rw[List.filter_append,List.filter_cons_of_neg zS]
      congr 1
      exact aP (m:=(tk.map fun p=>(p,true)).reverse) fun hp=>n3 p hp p zS rfl
      exact aP n4
    have hi:JR v d p=some true:=by
      have:=aM v d p.toNat r1 zO
      rw[ofNat_toNat,hd,zt r2]at this
      exact this
    have hgive:Jc v d p=some (0,{ v with taken:=Fq v.taken p }):=by
      unfold Jc
      rw[hi,Z,BE,hg]
      rfl
    rw[UR,hgive,Z]
    have:=bz hN tk { v with taken:=Fq v.taken p } d base hd hdel (by
      show((Fq v.taken p).map (·.1)).Nodup
      exact gm hn) (fun q hq=>hr q (by simp[hq]))
    exact this
theorem YV{l:List A3}(h:Er l=true):l.length≤1000:=by
  unfold Er at h
  simp only[Bool.and_eq_true,decide_eq_true_eq]at h
  omega
theorem nQ{n N c0:Nat}{T:List UInt32}{R:List Bf}{g:UInt32}{vb:BD}{db:Au}{k:Bf}{l:List A3}{had:List BU}(hn:1100≤n)(hN:N≤4096)(V9:VS N c0 R g vb db)(hb:Tu N vb)(hk:Eo R g=(k,0))(hl:Er l=true)
(hhad:∀s∈had,Rd T R N vb db s)(hlen:had.length≤100000)(hlim:c0+(N-2-vb.taken.length)≤100):
    ∃t th,Ux n l=some (t,0)∧Tr n l t∧(∀k:Nz,Db th k=(had.find? fun s=>decide (s.txt=k.1)).map fun s=>(⟨s.page,s.tag⟩:Bo))∧
      ((∃r out q,Ud n T vb db l had=some (out,0,q.v,q.d)∧ZB n t out r∧Gr r=true∧oG N c0 R g vb db q∧(∀s∈out,Rd T R N q.v q.d s)∧out.length=OB n t∧WP (P1 T th) ⟨[],vb,db⟩ out q∧N-2-vb.taken.length≤N-2-q.v.taken.length+OB n t)∨
       (∃v d c,Ud n T vb db l had=some ([],110,v,d)∧N-2-vb.taken.length<OB n t∧v.taken=vb.taken∧VS N c R g v d)):=by
  obtain⟨t,h1,_,hT⟩:=mS (n:=n) (l:=l) zO hl
  obtain⟨th,h2,h3⟩:=j0 had (fun s hs=>by have:=((hhad s hs).ok V9).2.2;omega) zO
  have hth:∀(key:Nz) r,Db th key=some r→Rd T R N vb db ⟨key.1,r.page,r.tag⟩:=by
    intro key r hr
    rw[h3 key]at hr
    obtain⟨s,hs,rfl⟩:=Option.map_eq_some_iff.1 hr
    have h5:=List.find?_some hs
    simp only[decide_eq_true_eq]at h5
    rw[←h5]
    exact hhad s (List.mem_of_find?_eq_some hs)
  have W:=uI (T:=T) (c0:=c0) (db:=db) hb hN hk hth
  have hpg:=jb hT (YV hl)
  have hl1:=YV hl
  have S0:oG N c0 R g vb db ⟨[],vb,db⟩:=⟨V9,by simp,by simp,hb,fun _ _=>rfl,by simpa using hlim⟩
  obtain⟨r,p',q,e1,e2,e3,e4,e5⟩:=cJ W (n:=n) zO n l t ⟨[],0⟩ ⟨[],vb,db⟩ hT hl S0 rfl zQ
  refine⟨t,th,h1,hT,h3,?_⟩
  have hsave:Ud n T vb db l had=ew (r,(p',q)):=by
    unfold Ud
    rw[h1,Z,show(!decide ((0:Int)=0))=false from rfl,Bq,if_neg zO,h2,Z,e1,Z]
  rw[hsave]
  unfold ew
  rcases e5 with⟨w,seg,o1,o2,o3,o4,o5,o6⟩ | ⟨w,o6⟩
  left
  simp only[List.nil_append]at o1
  refine⟨r,seg,q,?_,o3,e2 w,e3,o5,o2,o4,o6⟩
  dsimp only
  rw[w,show(!decide ((0:Int)=0))=false from rfl,Bq,o1]
  right
  have hlim2:=e3.lim
  refine⟨{ q.v with taken:=vb.taken },q.d,c0+q.tk.length,?_,o6,rfl,?_⟩
  dsimp only
  rw[w,show(!decide ((110:Int)=0))=true from rfl,Ch,if_neg zO,bz hN q.tk q.v q.d vb.taken e3.vs.dev.blen e3.tak e3.ok.nd (fun p hp=>by
    have:=e3.ok.tr (p,true) (by rw[e3.tak];refine List.mem_append_left _ ?_;rw[List.mem_reverse];exact List.mem_map.2 ⟨p,hp,rfl⟩)
    exact this.2),Z]
  have V':=e3.vs
  exact⟨V'.dev,V'.ring,V'.rlen,V'.gen,V'.boot,Nat.le_trans V9.tlen (Nat.le_add_right ..)⟩
end

section
variable {K:Nat→Prop}{w0:World}{H:List Ab}
def E8(p0:UInt32)(p1:Int):Option UInt32:=
 (Q6 p1).bind fun n1=>
 (Q6 (wI (32-p1))).bind fun n2=>
 ret ((shl32 p0 n1) ||| (shr32 p0 n2)) fun x1=>
 some x1
theorem NT{p0 r:UInt32}{p1:Int}(h:E8 p0 p1=some r): zC K w0 291 [AC p0,vI p1] [] H (fun u M=>u=AC r∧M=[]):=by
 unfold E8 at h
 refine Vf.enter Tryz.func291 rfl rfl ?_
 refine Y (O E (U (AE ?_)))
 refine AB h fun n1 hn1 h=>?_
 refine AB h fun n2 hn2 h=>?_
 obtain⟨x1,ex1,h⟩:=BG h
 refine Ai C2 [] (C0 (Hp 0 9)) zK (J E (J E (V E (Tk hn1) (J E (J E (V E BC (V E (X7 hn2) ?_)))))))
 refine V E GX ?_
 refine AX (u:=AC x1) E E (by rw[ex1]) ?_
 refine U (AM ?_)
 obtain rfl:=zI h
 exact AW [] 0 E E E
def Jt(p0:UInt32)(p1:UInt32)(p2:UInt32)(p3:UInt32):Option (List UInt32):=
 ret (p0+p1) fun a_1=>
 (E8 (p3 ^^^ a_1) 16).bind fun y1=>
 ret (p2+y1) fun x1=>
 (E8 (p1 ^^^ x1) 12).bind fun y2=>
 ret (a_1+y2) fun a_2=>
 (E8 (y1 ^^^ a_2) 8).bind fun y3=>
 ret (x1+y3) fun x2=>
 (E8 (y2 ^^^ x2) 7).bind fun y4=>
 some [a_2,y4,x2,y3]
theorem SG{p0 p1 p2 p3:UInt32}{r:List UInt32}(h:Jt p0 p1 p2 p3=some r): zC K w0 290 [AC p0,AC p1,AC p2,AC p3] [] H (fun u M=>u=.agg (Es AC r)∧r.length=4∧M=[]):=by
 unfold Jt at h
 refine Vf.enter Tryz.func290 rfl rfl ?_
 refine Y ?_
 refine A6 E Um zU fun b1=>?_
 refine U (Y ?_)
 obtain⟨a_1,ea_1,h⟩:=BG h
 refine J E (J E (V E CQ ?_))
 refine AX (u:=AC a_1) E E (by rw[ea_1]) ?_
 refine U (Y ?_)
 refine AB h fun y1 hy1 h=>?_
 refine J E (J E (V E Dg (AN 0 Y2 (NT hy1) E (O E (U (Y ?_))))))
 obtain⟨x1,ex1,h⟩:=BG h
 refine J E (J E (V E CQ ?_))
 refine AX (u:=AC x1) E E (by rw[ex1]) ?_
 refine U (Y ?_)
 refine AB h fun y2 hy2 h=>?_
 refine J E (J E (V E Dg (AN 0 Y2 (NT hy2) E (O E (U (Y ?_))))))
 obtain⟨a_2,ea_2,h⟩:=BG h
 refine J E (J E (V E CQ ?_))
 refine AX (u:=AC a_2) E E (by rw[ea_2]) ?_
 refine U (Y ?_)
 refine AB h fun y3 hy3 h=>?_
 refine J E (J E (V E Dg (AN 0 Y2 (NT hy3) E (O E (U (Y ?_))))))
 obtain⟨x2,ex2,h⟩:=BG h
 refine J E (J E (V E CQ ?_))
 refine AX (u:=AC x2) E E (by rw[ex2]) ?_
 refine U (Y ?_)
 refine AB h fun y4 hy4 h=>?_
 refine J E (J E (V E Dg (AN 0 Y2 (NT hy4) E (O E (U (Y (J E (J E (J E ?_)))))))))
 refine J E (Cf [_,_,_,_] E wX wJ Um ⟨E,E,E,E,zT⟩ E (BN 0 E E E E Xy E E E zT (U (AM ?_))))
 obtain rfl:=zI h
 exact Ax (KC E (Cj 0 (([a_2,y4,x2,y3]).map AC) im E E E E)) (As (M:=[]) ⟨E,E,E⟩ fun _ hw=>Br.pick (H:=[_]) hw [] 1 E)
def LC(p0:List UInt8)(p1:Int):Option UInt32:=
 (A1 p0 p1).bind fun c1=>
 (A1 p0 (wI (p1+1))).bind fun c2=>
 (A1 p0 (wI (p1+2))).bind fun c3=>
 (A1 p0 (wI (p1+3))).bind fun c4=>
 ret (((c1.toUInt32 ||| (shl32 c2.toUInt32 8)) ||| (shl32 c3.toUInt32 16)) ||| (shl32 c4.toUInt32 24)) fun x1=>
 some x1
theorem VJ{p0:List UInt8}{p1:Int}{r:UInt32}(h:LC p0 p1=some r): zC K w0 289 [vS p0,vI p1] [] H (fun u M=>u=AC r∧M=[]):=by
 unfold LC at h
 refine Vf.enter Tryz.func289 rfl rfl ?_
 refine Y (O E (U (AE ?_)))
 refine AB h fun c1 hc1 h=>?_
 refine AB h fun c2 hc2 h=>?_
 refine AB h fun c3 hc3 h=>?_
 refine AB h fun c4 hc4 h=>?_
 obtain⟨x1,ex1,h⟩:=BG h
 refine Ai C2 [] (C0 (Hp 0 26)) zK (J E (J E (MG hc1 E De E E (BZ E E (Gu Ej C6) (J E (J E (V E Aw ?_)))))))
 refine MG hc2 E De E E (BZ E E (Gu Ej C6) ?_)
 refine V E (Gy.shl32 (n:=8)) ?_
 refine V E GX (J E (J E (V E Aw (MG hc3 E De E E (BZ E E (Gu Ej C6) ?_)))))
 refine V E (Gy.shl32 (n:=16)) ?_
 refine V E GX (J E (J E (V E Aw (MG hc4 E De E E (BZ E E (Gu Ej C6) ?_)))))
 refine V E (Gy.shl32 (n:=24)) ?_
 refine V E GX ?_
 refine AX (u:=AC x1) E E (by rw[ex1]) ?_
 refine U (AM ?_)
 obtain rfl:=zI h
 exact AW [] 0 E E E
def LV(l5:List UInt32):Option (List UInt32):=
 some l5
def Hy(p2:List UInt8)(nx_f_ref01_State_l2:List UInt32×Int→Option (List UInt32))(l6:List UInt32)(a2:Int):Option (List UInt32):=
 cond (decide (a2<3))
 (
  (LC p2 (wI (4*a2))).bind fun y2=>
  (Eh 4 l6 [y2]).bind fun l7=>
  ret (wI (a2+1)) fun i_2=>
  nx_f_ref01_State_l2 (l7,i_2))
 (
  LV l6)
def LX(p2:List UInt8):Nat→(List UInt32×Int)→Option (List UInt32):=CH fun nx x=>Hy p2 nx x.1 x.2
def JI(n:Nat)(p1:UInt32)(p2:List UInt8)(l1:List UInt32):Option (List UInt32):=
 (Eh 4 l1 [p1]).bind fun l4=>
 LX p2 n (l4,0)
def Hx(n:Nat)(p0:List UInt8)(p1:UInt32)(p2:List UInt8)(nx_f_ref01_State_l1:List UInt32×Int→Option (List UInt32))(l2:List UInt32)(a1:Int):Option (List UInt32):=
 cond (decide (a1<8))
 (
  (LC p0 (wI (4*a1))).bind fun y1=>
  (Eh 4 l2 [y1]).bind fun l3=>
  ret (wI (a1+1)) fun i_1=>
  nx_f_ref01_State_l1 (l3,i_1))
 (
  JI n p1 p2 l2)
def LW(n:Nat)(p0:List UInt8)(p1:UInt32)(p2:List UInt8):Nat→(List UInt32×Int)→Option (List UInt32):=CH fun nx x=>Hx n p0 p1 p2 nx x.1 x.2
def Ln(n:Nat)(p0:List UInt8)(p1:UInt32)(p2:List UInt8):Option (List UInt32):=
 LW n p0 p1 p2 n ([1634760805,857760878,2036477234,1797285236],0)
theorem Zc{n:Nat}{p0 p2:List UInt8}{p1:UInt32}{r:List UInt32}(h:Ln n p0 p1 p2=some r): zC K w0 280 [vS p0,AC p1,vS p2] [] H (fun u M=>∃v0:Value,u=v0∧M=[AD 36 1 v0 AQ r]):=by
 unfold Ln at h
 refine Vf.enter Tryz.func280 rfl rfl ?_
 refine Y (Ci 36 1 AQ (O E (U (Y ?_))))
 refine Ck [_,_,_,_] E Af Aa Jf ⟨E,E,E,E,zT⟩ E E E zX E E zU fun b1=>?_
 refine Cp AQ 1 ([1634760805,857760878,2036477234,1797285236]:List UInt32) E zV E ?_
 refine O E (U ?_)
 refine Az (α:=List UInt32×Value) (fun x=>JI n p1 p2 x.1=some r) (fun x=>[(1,AC p1),(2,vS p2),(7,x.2)]) (fun x=>AD 36 1 x.2 AQ x.1::H) ?_ (fun x D h=>?_)
 refine Y (O E (U (AK ?_)))
 refine SX.heap (SX.mono (A9 (α:=Nat×List UInt32×Value×Int) (fun x=>LW n p0 p1 p2 x.1 (x.2.1,x.2.2.2)=some r) (fun x=>[(0,vS p0),(1,AC p1),(2,vS p2),(7,x.2.2.1),(8,vI x.2.2.2)]) (fun x=>AD 36 1 x.2.2.1 AQ x.2.1::H) (fun x=>x.1) (fun x D h=>?_) (n,[1634760805,857760878,2036477234,1797285236],.slice (some ⟨b1,0,none⟩) 4 4,0) h) tL) (A5 [0] 2 E E E)
 obtain⟨m1,l2,v2,a1⟩:=x
 dsimp only at h
 rcases m1 with _ | m1
 cases (show(none:Option _)=some r from h)
 replace h:Hx n p0 p1 p2 (LW n p0 p1 p2 m1) l2 a1=some r:=h
 unfold Hx at h
 try dsimp only
 refine AE (Y (J E (V E BL (U ?_))))
 refine AL h E (fun hc1 h=>?_) fun hc1 h=>?_
 refine AH (AI (AE (AK (AJ ?_))))
 refine AB h fun y1 hy1 h=>?_
 refine AB h fun l3 hl3 h=>?_
 refine J E (J E (J E (V E Ha (AN 0 lD (VJ hy1) E ?_))))
 refine Ck [_] E Af Aa Jf ⟨E,zT⟩ E E E zX E E zU fun b2=>?_
 refine Cp AQ 1 ([y1]:List UInt32) E zV E ?_
 refine EF 1 hl3 (sz:=1) (enc:=AQ) zV E Af Aa R9 Jf E zD E E E E (Ct (sz:=1) (enc:=AQ) 0 zV E) (by simp[AQ,Value.oneCell']) zU fun v3=>?_
 refine O E (AT (Ao (AI (AJ ?_))))
 obtain⟨i_1,ei_1,h⟩:=BG h
 refine J E (V E Aw ?_)
 refine AX (u:=vI i_1) E E (by rw[ei_1]) ?_
 refine AT ?_
 exact Am (m1,l3,v3,i_1) h (Nat.lt_succ_self _) tL (A5 [1] 2 E E E)
 refine Av (Ay (BP (A0 ?_)))
 exact Ak (l2,v2) h tL (A5 [0] 1 E E E)
 obtain⟨l1,v1⟩:=x
 dsimp only at h
 unfold JI at h
 try dsimp only
 refine Y ?_
 refine AB h fun l4 hl4 h=>?_
 refine J E (J E ?_)
 refine Ck [_] E Af Aa Jf ⟨E,zT⟩ E E E zX E E zU fun b3=>?_
 refine Cp AQ 1 ([p1]:List UInt32) E zV E ?_
 refine EF 1 hl4 (sz:=1) (enc:=AQ) zV E Af Aa R9 Jf E zD E E E E (Ct (sz:=1) (enc:=AQ) 0 zV E) (by simp[AQ,Value.oneCell']) zU fun v4=>?_
 refine O E (U ?_)
 refine Az (α:=List UInt32×Value) (fun x=>LV x.1=some r) (fun x=>[(7,x.2)]) (fun x=>AD 36 1 x.2 AQ x.1::H) ?_ (fun x D h=>?_)
 refine Y (O E (U (AK ?_)))
 refine SX.heap (SX.mono (A9 (α:=Nat×List UInt32×Value×Int) (fun x=>LX p2 x.1 (x.2.1,x.2.2.2)=some r) (fun x=>[(2,vS p2),(7,x.2.2.1),(9,vI x.2.2.2)]) (fun x=>AD 36 1 x.2.2.1 AQ x.2.1::H) (fun x=>x.1) (fun x D h=>?_) (n,l4,v4,0) h) tL) (A5 [1] 2 E E E)
 obtain⟨m2,l6,v6,a2⟩:=x
 dsimp only at h
 rcases m2 with _ | m2
 cases (show(none:Option _)=some r from h)
 replace h:Hy p2 (LX p2 m2) l6 a2=some r:=h
 unfold Hy at h
 try dsimp only
 refine AE (Y (J E (V E BL (U ?_))))
 refine AL h E (fun hc2 h=>?_) fun hc2 h=>?_
 refine AH (AI (AE (AK (AJ ?_))))
 refine AB h fun y2 hy2 h=>?_
 refine AB h fun l7 hl7 h=>?_
 refine J E (J E (J E (V E Ha (AN 0 lD (VJ hy2) E ?_))))
 refine Ck [_] E Af Aa Jf ⟨E,zT⟩ E E E zX E E zU fun b4=>?_
 refine Cp AQ 1 ([y2]:List UInt32) E zV E ?_
 refine EF 1 hl7 (sz:=1) (enc:=AQ) zV E Af Aa R9 Jf E zD E E E E (Ct (sz:=1) (enc:=AQ) 0 zV E) (by simp[AQ,Value.oneCell']) zU fun v7=>?_
 refine O E (AT (Ao (AI (AJ ?_))))
 obtain⟨i_2,ei_2,h⟩:=BG h
 refine J E (V E Aw ?_)
 refine AX (u:=vI i_2) E E (by rw[ei_2]) ?_
 refine AT ?_
 exact Am (m2,l7,v7,i_2) h (Nat.lt_succ_self _) tL (A5 [1] 2 E E E)
 refine Av (Ay (BP (A0 ?_)))
 exact Ak (l6,v6) h tL (A5 [0] 1 E E E)
 obtain⟨l5,v5⟩:=x
 dsimp only at h
 unfold LV at h
 try dsimp only
 refine Y (J E (O E (U (AM ?_))))
 obtain rfl:=zI h
 exact CC [0] 1 (D7 E E) E E ⟨v5,E,E⟩
def Ea(p0:List UInt32)(p1:Int)(p2:Int)(p3:Int)(p4:Int):Option (List UInt32):=
 (A1 p0 p1).bind fun x1=>
 (A1 p0 p2).bind fun x2=>
 (A1 p0 p3).bind fun x3=>
 (A1 p0 p4).bind fun x4=>
 (Jt x1 x2 x3 x4).bind fun y1=>
 (A1 y1 0).bind fun x5=>
 (A1 p0 p1).bind fun x6=>
 (FX p0 p1 x5).bind fun l1=>
 (A1 y1 1).bind fun x7=>
 (A1 l1 p2).bind fun x8=>
 (FX l1 p2 x7).bind fun l2=>
 (A1 y1 2).bind fun x9=>
 (A1 l2 p3).bind fun x10=>
 (FX l2 p3 x9).bind fun l3=>
 (A1 y1 3).bind fun x11=>
 (A1 l3 p4).bind fun x12=>
 (FX l3 p4 x11).bind fun l4=>
 some l4
theorem KH{BW:Value}{p0 r:List UInt32}{p1 p2 p3 p4:Int}(h:Ea p0 p1 p2 p3 p4=some r): zC K w0 281 [BW,vI p1,vI p2,vI p3,vI p4] [AD 36 1 BW AQ p0] H (fun u M=>u=.tuple #[]∧M=[AD 36 1 BW AQ r]):=by
 unfold Ea at h
 refine Vf.enter Tryz.func281 rfl rfl ?_
 refine AE ?_
 refine AB h fun x1 hx1 h=>?_
 refine AB h fun x2 hx2 h=>?_
 refine AB h fun x3 hx3 h=>?_
 refine AB h fun x4 hx4 h=>?_
 refine AB h fun y1 hy1 h=>?_
 refine Ai C2 [0] (BJ (Hp 0 16) (.alt 16 (C0 [(false,17),(false,18)]) (.cons (false,17) (C0 [(false,16),(false,18)])))) zK (J E (J E ?_))
 refine AZ 0 hx1 E Af Aa E E E fun g1 m1 cp1 hv1=>?_
 refine Aq E Ah E (AS (sz:=1) (enc:=AQ) 0 0 zV E hv1 hx1 E) ?_
 refine J E (J E ?_)
 refine AZ 0 hx2 E Af Aa E E E fun g2 m2 cp2 hv2=>?_
 refine Aq E Ah E (AS (sz:=1) (enc:=AQ) 0 0 zV E hv2 hx2 E) ?_
 refine J E (J E ?_)
 refine AZ 0 hx3 E Af Aa E E E fun g3 m3 cp3 hv3=>?_
 refine Aq E Ah E (AS (sz:=1) (enc:=AQ) 0 0 zV E hv3 hx3 E) ?_
 refine J E (J E ?_)
 refine AZ 0 hx4 E Af Aa E E E fun g4 m4 cp4 hv4=>?_
 refine Aq E Ah E (AS (sz:=1) (enc:=AQ) 0 0 zV E hv4 hx4 E) ?_
 refine E6 ?_ ?_
 refine Bx (vs:=[_,_,_,_]) (Hin:=[]) (Hr:=_::_) E E ⟨E,E,E,E,zT⟩ lE E E (SG hy1) ?_
 rintro _ _ ⟨rfl,hn1,rfl⟩
 refine⟨⟨⟨0,rfl⟩,trivial⟩,?_⟩
 refine A6 E Um (fun _=>⟨⟨1,E⟩,zT⟩) fun b1=>?_
 refine QA 0 E E E E Xy ((Uw ..).trans hn1) E (Pa (f:=AC) zV y1) ⟨⟨1,E⟩,zT⟩ ?_
 refine U (Y ?_)
 refine AB h fun x5 hx5 h=>?_
 refine AB h fun x6 hx6 h=>?_
 refine AB h fun l1 hl1 h=>?_
 refine J E (J E ?_)
 refine OD (xs:=y1) hx5 E Rv Aa E E hn1 ?_
 refine Aq E Ah E (EA 0 E (GY (GU hx5).2.2)) ?_
 refine AZ 1 hx6 E Af Aa E E E fun g5 m5 cp5 hv5=>?_
 refine BB (sz:=1) (enc:=AQ) 1 hl1 zV E E E E E hv5 Aa (by simp[Value.oneCell']) zT ?_
 refine U (Y ?_)
 refine AB h fun x7 hx7 h=>?_
 refine AB h fun x8 hx8 h=>?_
 refine AB h fun l2 hl2 h=>?_
 refine J E (J E ?_)
 refine OD (xs:=y1) hx7 E Rv Aa E E hn1 ?_
 refine Aq E Ah E (EA 0 E (GY (GU hx7).2.2)) ?_
 refine AZ 1 hx8 E Af Aa E E E fun g6 m6 cp6 hv6=>?_
 refine BB (sz:=1) (enc:=AQ) 1 hl2 zV E E E E E hv6 Aa (by simp[Value.oneCell']) zT ?_
 refine U (Y ?_)
 refine AB h fun x9 hx9 h=>?_
 refine AB h fun x10 hx10 h=>?_
 refine AB h fun l3 hl3 h=>?_
 refine J E (J E ?_)
 refine OD (xs:=y1) hx9 E Rv Aa E E hn1 ?_
 refine Aq E Ah E (EA 0 E (GY (GU hx9).2.2)) ?_
 refine AZ 1 hx10 E Af Aa E E E fun g7 m7 cp7 hv7=>?_
 refine BB (sz:=1) (enc:=AQ) 1 hl3 zV E E E E E hv7 Aa (by simp[Value.oneCell']) zT ?_
 refine U (AJ ?_)
 refine AB h fun x11 hx11 h=>?_
 refine AB h fun x12 hx12 h=>?_
 refine AB h fun l4 hl4 h=>?_
 refine J E (J E ?_)
 refine OD (xs:=y1) hx11 E Rv Aa E E hn1 ?_
 refine Aq E Ah E (EA 0 E (GY (GU hx11).2.2)) ?_
 refine AZ 1 hx12 E Af Aa E E E fun g8 m8 cp8 hv8=>?_
 refine BB (sz:=1) (enc:=AQ) 1 hl4 zV E E E E E hv8 Aa (by simp[Value.oneCell']) zT ?_
 refine AT ?_
 obtain rfl:=zI h
 exact D5 (E4 E) (As (M:=[_]) ⟨E,E⟩ fun _ hw=>Br.pick (H:=[_,_]) hw [1] 2 E)
 refine A6 E Um (fun _=>⟨⟨1,E⟩,zT⟩) fun b1=>?_
 refine Bx (vs:=[_,_,_,_]) (Hin:=[]) (Hr:=_::_::_) E E ⟨E,E,E,E,zT⟩ lE E E (SG hy1) ?_
 rintro _ _ ⟨rfl,hn1,rfl⟩
 refine⟨⟨⟨1,rfl⟩,trivial⟩,?_⟩
 refine QA 0 E E E E Xy ((Uw ..).trans hn1) E (Pa (f:=AC) zV y1) ⟨⟨1,E⟩,zT⟩ ?_
 refine U (Y ?_)
 refine AB h fun x5 hx5 h=>?_
 refine AB h fun x6 hx6 h=>?_
 refine AB h fun l1 hl1 h=>?_
 refine J E (J E ?_)
 refine OD (xs:=y1) hx5 E Rv Aa E E hn1 ?_
 refine Aq E Ah E (EA 0 E (GY (GU hx5).2.2)) ?_
 refine AZ 1 hx6 E Af Aa E E E fun g5 m5 cp5 hv5=>?_
 refine BB (sz:=1) (enc:=AQ) 1 hl1 zV E E E E E hv5 Aa (by simp[Value.oneCell']) zT ?_
 refine U (Y ?_)
 refine AB h fun x7 hx7 h=>?_
 refine AB h fun x8 hx8 h=>?_
 refine AB h fun l2 hl2 h=>?_
 refine J E (J E ?_)
 refine OD (xs:=y1) hx7 E Rv Aa E E hn1 ?_
 refine Aq E Ah E (EA 0 E (GY (GU hx7).2.2)) ?_
 refine AZ 1 hx8 E Af Aa E E E fun g6 m6 cp6 hv6=>?_
 refine BB (sz:=1) (enc:=AQ) 1 hl2 zV E E E E E hv6 Aa (by simp[Value.oneCell']) zT ?_
 refine U (Y ?_)
 refine AB h fun x9 hx9 h=>?_
 refine AB h fun x10 hx10 h=>?_
 refine AB h fun l3 hl3 h=>?_
 refine J E (J E ?_)
 refine OD (xs:=y1) hx9 E Rv Aa E E hn1 ?_
 refine Aq E Ah E (EA 0 E (GY (GU hx9).2.2)) ?_
 refine AZ 1 hx10 E Af Aa E E E fun g7 m7 cp7 hv7=>?_
 refine BB (sz:=1) (enc:=AQ) 1 hl3 zV E E E E E hv7 Aa (by simp[Value.oneCell']) zT ?_
 refine U (AJ ?_)
 refine AB h fun x11 hx11 h=>?_
 refine AB h fun x12 hx12 h=>?_
 refine AB h fun l4 hl4 h=>?_
 refine J E (J E ?_)
 refine OD (xs:=y1) hx11 E Rv Aa E E hn1 ?_
 refine Aq E Ah E (EA 0 E (GY (GU hx11).2.2)) ?_
 refine AZ 1 hx12 E Af Aa E E E fun g8 m8 cp8 hv8=>?_
 refine BB (sz:=1) (enc:=AQ) 1 hl4 zV E E E E E hv8 Aa (by simp[Value.oneCell']) zT ?_
 refine AT ?_
 obtain rfl:=zI h
 exact D5 (E4 E) (As (M:=[_]) ⟨E,E⟩ fun _ hw=>Br.pick (H:=[_,_]) hw [1] 2 E)
def LS(l4:List UInt8):Option (List UInt8×Int):=
 some (l4,0)
def Hw(y1:List UInt32)(l2:List UInt32)(nx_f_ref01_Block_l2:List UInt8×Int→Option (List UInt8×Int))(l5:List UInt8)(a2:Int):Option (List UInt8×Int):=
 cond (decide (a2<16))
 (
  (A1 l2 a2).bind fun x2=>
  (A1 y1 a2).bind fun x3=>
  ret (x2+x3) fun x4=>
  (Eh 1 l5 [x4.toUInt8,(shr32 x4 8).toUInt8,(shr32 x4 16).toUInt8,(shr32 x4 24).toUInt8]).bind fun l6=>
  ret (wI (a2+1)) fun x5=>
  nx_f_ref01_Block_l2 (l6,x5))
 (
  LS l5)
def LU(y1:List UInt32)(l2:List UInt32):Nat→(List UInt8×Int)→Option (List UInt8×Int):=CH fun nx x=>Hw y1 l2 nx x.1 x.2
def Hc(n:Nat)(y1:List UInt32)(l2:List UInt32):Option (List UInt8×Int):=
 LU y1 l2 n ([],0)
def Hv(n:Nat)(y1:List UInt32)(nx_f_ref01_Block_l1:List UInt32×Int→Option (List UInt8×Int))(l3:List UInt32)(a1:Int):Option (List UInt8×Int):=
 cond (decide (a1<10))
 (
  (Ea l3 0 4 8 12).bind fun y2=>
  (Ea y2 1 5 9 13).bind fun y3=>
  (Ea y3 2 6 10 14).bind fun y4=>
  (Ea y4 3 7 11 15).bind fun y5=>
  (Ea y5 0 5 10 15).bind fun y6=>
  (Ea y6 1 6 11 12).bind fun y7=>
  (Ea y7 2 7 8 13).bind fun y8=>
  (Ea y8 3 4 9 14).bind fun y9=>
  ret (wI (a1+1)) fun x1=>
  nx_f_ref01_Block_l1 (y9,x1))
 (
  Hc n y1 l3)
def LT(n:Nat)(y1:List UInt32):Nat→(List UInt32×Int)→Option (List UInt8×Int):=CH fun nx x=>Hv n y1 nx x.1 x.2
def IZ(n:Nat)(p0:List UInt8)(p1:UInt32)(p2:List UInt8):Option (List UInt8×Int):=
 cond ((!decide ((p0.length:Int)=32))||(!decide ((p2.length:Int)=12)))
 (
  some ([],2))
 (
  (Ln n p0 p1 p2).bind fun y1=>
  (Eh 4 [] y1).bind fun l1=>
  LT n y1 n (l1,0))
theorem Zb{n:Nat}{p0 p2:List UInt8}{p1:UInt32}{r:List UInt8×Int}(h:IZ n p0 p1 p2=some r): zC K w0 267 [vS p0,AC p1,vS p2] [] H (fun u M=>u=.tuple #[vS r.1,vI r.2]∧M=[]):=by
 unfold IZ at h
 refine Vf.enter Tryz.func267 rfl rfl ?_
 refine Y (O E (O E (U (AE (Y (J E (CI E De E (V E Bg (J E ?_)))))))))
 refine GR (c := !decide ((p2.length:Int)=12)) 17 4 21 E (fun hb k=>?_) (fun hb k=>?_) ?_
 refine AA E (AA E (AA E (An E E E ?_)))
 exact k.mono tL
 refine J E (CI E De E (V E Bg (An E E E ?_)))
 exact k.mono tL
 refine U ?_
 refine AL h E (fun hc1 h=>?_) fun hc1 h=>?_
 refine Y (O E (O E (U (AM (Ag ?_)))))
 obtain rfl:=zI h
 exact AW [] 0 E E E
 refine AH (AI (Y ?_))
 refine AB h fun y1 hy1 h=>?_
 refine J E (J E (J E ?_))
 refine Bx (vs:=[_,_,_]) (Hin:=[]) (Hr:=_) E E ⟨E,E,E,zT⟩ tu E E (Zc hy1) ?_
 rintro v1 _ ⟨_,rfl,rfl⟩
 refine⟨trivial,?_⟩
 refine O E (U (Y ?_))
 refine AB h fun l1 hl1 h=>?_
 refine kK (n:=16) AQ E Af Aa R9 Jf E E E E E zU fun v2=>?_
 refine J E ?_
 refine nm 0 1 hl1 (sz:=1) (enc:=AQ) zV E Af Aa R9 Jf E zD E E E E (by simp[AQ,Value.oneCell']) zU fun v3=>?_
 refine O E (U ?_)
 refine Az (α:=List UInt32×Value) (fun x=>Hc n y1 x.1=some r) (fun x=>[(8,v1),(9,x.2)]) (fun x=>AD 36 1 v1 AQ y1::AD 36 1 x.2 AQ x.1::H) ?_ (fun x D h=>?_)
 refine Y (O E (U (AK ?_)))
 refine SX.heap (SX.mono (A9 (α:=Nat×List UInt32×Value×Int) (fun x=>LT n y1 x.1 (x.2.1,x.2.2.2)=some r) (fun x=>[(8,v1),(9,x.2.2.1),(10,vI x.2.2.2)]) (fun x=>AD 36 1 v1 AQ y1::AD 36 1 x.2.2.1 AQ x.2.1::H) (fun x=>x.1) (fun x D h=>?_) (n,l1,v3,0) h) tL) (A5 [1,0] 2 E E E)
 obtain⟨m1,l3,v5,a1⟩:=x
 dsimp only at h
 rcases m1 with _ | m1
 cases (show(none:Option _)=some r from h)
 replace h:Hv n y1 (LT n y1 m1) l3 a1=some r:=h
 unfold Hv at h
 try dsimp only
 refine AE (Y (J E (V E BL (U ?_))))
 refine AL h E (fun hc2 h=>?_) fun hc2 h=>?_
 refine AH (AI (AE (AK (Y ?_))))
 refine AB h fun y2 hy2 h=>?_
 refine J E (SL.pick [1,0] 2 (AN 1 RL (KH hy2) E (U (Y ?_))))
 refine AB h fun y3 hy3 h=>?_
 refine J E (AN 1 RL (KH hy3) E (U (Y ?_)))
 refine AB h fun y4 hy4 h=>?_
 refine J E (AN 1 RL (KH hy4) E (U (Y ?_)))
 refine AB h fun y5 hy5 h=>?_
 refine J E (AN 1 RL (KH hy5) E (U (Y ?_)))
 refine AB h fun y6 hy6 h=>?_
 refine J E (AN 1 RL (KH hy6) E (U (Y ?_)))
 refine AB h fun y7 hy7 h=>?_
 refine J E (AN 1 RL (KH hy7) E (U (Y ?_)))
 refine AB h fun y8 hy8 h=>?_
 refine J E (AN 1 RL (KH hy8) E (U (AJ ?_)))
 refine AB h fun y9 hy9 h=>?_
 refine J E (AN 1 RL (KH hy9) E (AT (Ao (AI (AJ ?_)))))
 obtain⟨x1,ex1,h⟩:=BG h
 refine J E (V E Aw ?_)
 refine AX (u:=vI x1) E E (by rw[ex1]) ?_
 refine AT ?_
 exact Am (m1,y9,v5,x1) h (Nat.lt_succ_self _) tL (A5 [1,0] 2 E E E)
 refine Av (Ay (BP (A0 ?_)))
 exact Ak (l3,v5) h tL (A5 [0,1] 2 E E E)
 obtain⟨l2,v4⟩:=x
 dsimp only at h
 unfold Hc at h
 try dsimp only
 refine Y (Ci 5 1 G7 (O E (U ?_)))
 refine Az (α:=List UInt8×Value) (fun x=>LS x.1=some r) (fun x=>[(11,x.2)]) (fun x=>AD 5 1 x.2 G7 x.1::H) ?_ (fun x D h=>?_)
 refine Y (O E (U (AK ?_)))
 refine SX.heap (SX.mono (A9 (α:=Nat×List UInt8×Value×Int) (fun x=>LU y1 l2 x.1 (x.2.1,x.2.2.2)=some r) (fun x=>[(8,v1),(9,v4),(11,x.2.2.1),(12,vI x.2.2.2)]) (fun x=>AD 36 1 v1 AQ y1::AD 36 1 v4 AQ l2::AD 5 1 x.2.2.1 G7 x.2.1::H) (fun x=>x.1) (fun x D h=>?_) (n,[],zN,0) h) tL) (A5 [1,2,0] 3 E E E)
 obtain⟨m2,l5,v7,a2⟩:=x
 dsimp only at h
 rcases m2 with _ | m2
 cases (show(none:Option _)=some r from h)
 replace h:Hw y1 l2 (LU y1 l2 m2) l5 a2=some r:=h
 unfold Hw at h
 try dsimp only
 refine AE (Y (J E (V E BL (U ?_))))
 refine AL h E (fun hc3 h=>?_) fun hc3 h=>?_
 refine AH (AI (AE (AK (AE ?_))))
 refine AB h fun x2 hx2 h=>?_
 refine AB h fun x3 hx3 h=>?_
 obtain⟨x4,ex4,h⟩:=BG h
 refine Ai C2 [0,1] (C0 (Hp 0 10)) zK (J E (J E ?_))
 refine AZ 1 hx2 E Af Aa E E E fun g1 m3 cp1 hv1=>?_
 refine Aq E Ah E (AS (sz:=1) (enc:=AQ) 1 0 zV E hv1 hx2 E) ?_
 refine J E (J E ?_)
 refine AZ 0 hx3 E Af Aa E E E fun g2 m4 cp2 hv2=>?_
 refine Aq E Ah E (AS (sz:=1) (enc:=AQ) 0 0 zV E hv2 hx3 E) ?_
 refine V E CQ ?_
 refine AX (u:=AC x4) E E (by rw[ex4]) ?_
 refine U (AJ ?_)
 refine AB h fun l6 hl6 h=>?_
 refine J E (J E (BZ E E (EM C6 Ej) (J E ?_)))
 refine V E (Gy.shr32 (n:=8)) ?_
 refine BZ E E (EM C6 Ej) (J E ?_)
 refine V E (Gy.shr32 (n:=16)) ?_
 refine BZ E E (EM C6 Ej) (J E ?_)
 refine V E (Gy.shr32 (n:=24)) ?_
 refine BZ E E (EM C6 Ej) ?_
 refine Ck [_,_,_,_] E DO LM MF ⟨E,E,E,E,zT⟩ E E E zX E E zU fun b1=>?_
 refine Cp G7 1 ([x4.toUInt8,(shr32 x4 8).toUInt8,(shr32 x4 16).toUInt8,(shr32 x4 24).toUInt8]:List UInt8) E zV E ?_
 refine EF 3 hl6 (sz:=1) (enc:=G7) zV E DO LM XV MF E zD E E E E (Ct (sz:=1) (enc:=G7) 0 zV E) (by simp[G7,Value.oneCell']) zU fun v8=>?_
 refine O E (AT (Ao (AI (AJ ?_))))
 obtain⟨x5,ex5,h⟩:=BG h
 refine J E (V E Aw ?_)
 refine AX (u:=vI x5) E E (by rw[ex5]) ?_
 refine AT ?_
 exact Am (m2,l6,v8,x5) h (Nat.lt_succ_self _) tL (A5 [1,2,3] 4 E E E)
 refine Av (Ay (BP (A0 ?_)))
 exact Ak (l5,v7) h tL (A5 [2] 3 E E E)
 obtain⟨l4,v6⟩:=x
 dsimp only at h
 unfold LS at h
 try dsimp only
 refine Y (J E (IQ 0 E DO Ej De E E (O E (O E (U (AM ?_))))))
 obtain rfl:=zI h
 exact AW [] 1 E E E
def NU(l1:List UInt8):Option (List UInt8×Int):=
 some (l1,0)
def I2(p2:List UInt8)(l2:List UInt8)(a2:Int)(nx_f_ref01_Xor_l1:List UInt8×List UInt8×Int→Option (List UInt8×Int))(a3:List UInt8):Option (List UInt8×Int):=
 (A1 p2 a2).bind fun c1=>
 (Va a2 64).bind fun q3=>
 (A1 a3 q3).bind fun c2=>
 (Eh 1 l2 [c1 ^^^ c2]).bind fun l3=>
 ret (wI (a2+1)) fun i_1=>
 nx_f_ref01_Xor_l1 (l3,a3,i_1)
def JJ(n:Nat)(p0:List UInt8)(p1:List UInt8)(p2:List UInt8)(nx_f_ref01_Xor_l1:List UInt8×List UInt8×Int→Option (List UInt8×Int))(l2:List UInt8)(a1:List UInt8)(a2:Int):Option (List UInt8×Int):=
 cond (decide (a2<(p2.length:Int)))
 (
  (Va a2 64).bind fun q1=>
  cond (decide (q1=0))
  (
   (K0 a2 64).bind fun q2=>
   (IZ n p0 (GW q2) p1).bind fun y1=>
   I2 p2 l2 a2 nx_f_ref01_Xor_l1 y1.1)
  (
   I2 p2 l2 a2 nx_f_ref01_Xor_l1 a1))
 (
  NU l2)
def Kn(n:Nat)(p0:List UInt8)(p1:List UInt8)(p2:List UInt8):Nat→(List UInt8×List UInt8×Int)→Option (List UInt8×Int):=CH fun nx x=>JJ n p0 p1 p2 nx x.1 x.2.1 x.2.2
def OO(n:Nat)(p0:List UInt8)(p1:List UInt8)(p2:List UInt8):Option (List UInt8×Int):=
 cond (((!decide ((p0.length:Int)=32))||(!decide ((p1.length:Int)=12)))||(decide (1048576<(p2.length:Int))))
 (
  some ([],2))
 (
  Kn n p0 p1 p2 n ([],[],0))
theorem dG{n:Nat}{p0 p1 p2:List UInt8}{r:List UInt8×Int}(h:OO n p0 p1 p2=some r): zC K w0 246 [vS p0,vS p1,vS p2] [] H (fun u M=>u=.tuple #[vS r.1,vI r.2]∧M=[]):=by
 unfold OO at h
 refine Vf.enter Tryz.func246 rfl rfl ?_
 refine Y (O E (O E (U (AE (Y (J E (CI E De E (V E Bg (J E ?_)))))))))
 refine GR (c := !decide ((p1.length:Int)=12)) 16 4 20 E (fun hb k=>?_) (fun hb k=>?_) ?_
 refine AA E (AA E (AA E (An E E E ?_)))
 exact k.mono tL
 refine J E (CI E De E (V E Bg (An E E E ?_)))
 exact k.mono tL
 refine J E ?_
 refine GR (c:=decide (1048576<(p2.length:Int))) 21 4 25 E (fun hb k=>?_) (fun hb k=>?_) ?_
 refine AA E (AA E (AA E (An E E E ?_)))
 exact k.mono tL
 refine J E (CI E De E (V E C8 (An E E E ?_)))
 exact k.mono tL
 refine U ?_
 refine AL h E (fun hc1 h=>?_) fun hc1 h=>?_
 refine Y (O E (O E (U (AM (Ag ?_)))))
 obtain rfl:=zI h
 exact AW [] 0 E E E
 refine AH (AI (Y (Ci 5 1 G7 (O E (U (Y (O E (U ?_))))))))
 refine Az (α:=List UInt8×Value) (fun x=>NU x.1=some r) (fun x=>[(8,x.2)]) (fun x=>AD 5 1 x.2 G7 x.1::H) ?_ (fun x D h=>?_)
 refine Y (O E (U (AK ?_)))
 refine SX.heap (SX.mono (A9 (α:=Nat×List UInt8×Value×List UInt8×Int) (fun x=>Kn n p0 p1 p2 x.1 (x.2.1,x.2.2.2.1,x.2.2.2.2)=some r) (fun x=>[(0,vS p0),(1,vS p1),(2,vS p2),(8,x.2.2.1),(9,vS x.2.2.2.1),(10,vI x.2.2.2.2)]) (fun x=>AD 5 1 x.2.2.1 G7 x.2.1::H) (fun x=>x.1) (fun x D h=>?_) (n,[],zN,[],0) h) tL) (A5 [0] 1 E E E)
 obtain⟨m1,l2,v2,a1,a2⟩:=x
 dsimp only at h
 rcases m1 with _ | m1
 cases (show(none:Option _)=some r from h)
 replace h:JJ n p0 p1 p2 (Kn n p0 p1 p2 m1) l2 a1 a2=some r:=h
 unfold JJ at h
 try dsimp only
 refine AE (Y (J E (J E (CI E De E (V E BL (U ?_))))))
 refine AL h E (fun hc2 h=>?_) fun hc2 h=>?_
 refine AH (AI (AE (AK ?_)))
 refine Az (α:=List UInt8) (fun x=>I2 p2 l2 a2 (Kn n p0 p1 p2 m1) x=some r) (fun x=>[(0,vS p0),(1,vS p1),(2,vS p2),(8,v2),(9,vS x),(10,vI a2)]) (fun x=>AD 5 1 v2 G7 l2::H) ?_ (fun a3 D h=>?_)
 refine Y ?_
 refine AB h fun q1 hq1 h=>?_
 refine J E (V E (Uo hq1) (V E Bv (U ?_)))
 refine AL h E (fun hc3 h=>?_) fun hc3 h=>?_
 refine Y ?_
 refine AB h fun q2 hq2 h=>?_
 refine AB h fun y1 hy1 h=>?_
 refine J E (J E (V E (K6 hq2) (BZ E E (Rx Jh C6) (J E (AN 0 tf (Zb hy1) E (J E (Ap E E E ?_)))))))
 refine Ap E E E (O E (O E (U (AJ (J E (O E (AT ?_)))))))
 exact Ak y1.1 h tL (A5 [0] 1 E E E)
 refine AH ?_
 exact Ak a1 h tL (A5 [0] 1 E E E)
 unfold I2 at h
 try dsimp only
 refine AB h fun c1 hc1 h=>?_
 refine AB h fun q3 hq3 h=>?_
 refine AB h fun c2 hc2 h=>?_
 refine AB h fun l3 hl3 h=>?_
 refine Ai C2 [] (BJ [(true,0),(true,1),(true,2),(true,3),(true,4),(true,5),(true,6),(true,7),(true,8),(false,9)] (.last 10 (C0 [(false,11)]))) zK (J E (J E (J E (MG hc1 E De E E (J E (J E (V E (Uo hq3) ?_)))))))
 refine MG hc2 E De E E (V E Up ?_)
 refine Ck [_] E DO LM MF ⟨E,zT⟩ E E E zX E E zU fun b1=>?_
 refine Cp G7 1 ([c1 ^^^ c2]:List UInt8) E zV E ?_
 refine A4 ?_
 refine EF 1 hl3 (sz:=1) (enc:=G7) zV E DO LM XV MF E zD E E E E (Ct (sz:=1) (enc:=G7) 0 zV E) (by simp[G7,Value.oneCell']) zU fun v3=>?_
 refine O E (AT (Ao (AI (AJ ?_))))
 obtain⟨i_1,ei_1,h⟩:=BG h
 refine J E (V E Aw ?_)
 refine AX (u:=vI i_1) E E (by rw[ei_1]) ?_
 refine AT ?_
 exact Am (m1,l3,v3,a3,i_1) h (Nat.lt_succ_self _) tL (A5 [1] 2 E E E)
 refine Av (Ay (BP (A0 ?_)))
 exact Ak (l2,v2) h tL (A5 [0] 1 E E E)
 obtain⟨l1,v1⟩:=x
 dsimp only at h
 unfold NU at h
 try dsimp only
 refine Y (J E (IQ 0 E DO Ej De E E (O E (O E (U (AM ?_))))))
 obtain rfl:=zI h
 exact AW [] 1 E E E
end

section
variable {K:Nat→Prop}{w0:World}{H:List Ab}
def Co(p0:UInt32)(p1:Int):Option UInt32:=
 (Q6 p1).bind fun n1=>
 (Q6 (wI (32-p1))).bind fun n2=>
 ret ((shr32 p0 n1) ||| (shl32 p0 n2)) fun x1=>
 some x1
theorem Fl{p0 r:UInt32}{p1:Int}(h:Co p0 p1=some r): zC K w0 282 [AC p0,vI p1] [] H (fun u M=>u=AC r∧M=[]):=by
 unfold Co at h
 refine Vf.enter Tryz.func282 rfl rfl ?_
 refine Y (O E (U (AE ?_)))
 refine AB h fun n1 hn1 h=>?_
 refine AB h fun n2 hn2 h=>?_
 obtain⟨x1,ex1,h⟩:=BG h
 refine Ai C2 [] (C0 (Hp 0 9)) zK (J E (J E (V E (X7 hn1) (J E (J E (V E BC (V E (Tk hn2) ?_)))))))
 refine V E GX ?_
 refine AX (u:=AC x1) E E (by rw[ex1]) ?_
 refine U (AM ?_)
 obtain rfl:=zI h
 exact AW [] 0 E E E
def OP:Option (List UInt32):=
 some [1779033703,3144134277,1013904242,2773480762,1359893119,2600822924,528734635,1541459225]
theorem Zd{r:List UInt32}(h:OP=some r): zC K w0 270 [] [] H (fun u M=>∃v0:Value,u=v0∧M=[AD 36 1 v0 AQ r]):=by
 unfold OP at h
 refine Vf.enter Tryz.func270 rfl rfl ?_
 refine Y (Ci 36 1 AQ (O E (U (Y ?_))))
 refine Ck [_,_,_,_,_,_,_,_] E Af Aa Jf ⟨E,E,E,E,E,E,E,E,zT⟩ E E E zX E E zU fun b1=>?_
 refine Cp AQ 1 ([1779033703,3144134277,1013904242,2773480762,1359893119,2600822924,528734635,1541459225]:List UInt32) E zV E ?_
 refine O E (U (AM ?_))
 obtain rfl:=zI h
 exact CC [0] 2 (D7 E E) E E ⟨(.slice (some ⟨b1,0,none⟩) 8 8),E,E⟩
def MY(l9:List UInt32):Option (List UInt32):=
 some l9
def Ic(p0:List UInt32)(nx_f_ref02_part_l3:List UInt32×Int→Option (List UInt32))(l10:List UInt32)(a3:Int):Option (List UInt32):=
 cond (decide (a3<8))
 (
  (A1 l10 a3).bind fun x27=>
  (A1 p0 a3).bind fun x28=>
  (A1 l10 a3).bind fun x29=>
  (FX l10 a3 (x27+x28)).bind fun l11=>
  ret (wI (a3+1)) fun x30=>
  nx_f_ref02_part_l3 (l11,x30))
 (
  MY l10)
def Ma(p0:List UInt32):Nat→(List UInt32×Int)→Option (List UInt32):=CH fun nx x=>Ic p0 nx x.1 x.2
def IL(n:Nat)(p0:List UInt32)(l7:List UInt32):Option (List UInt32):=
 Ma p0 n (l7,0)
def Ib(n:Nat)(T:List UInt32)(p0:List UInt32)(l1:List UInt32)(nx_f_ref02_part_l2:List UInt32×Int→Option (List UInt32))(l8:List UInt32)(a2:Int):Option (List UInt32):=
 cond (decide (a2<64))
 (
  (A1 l8 0).bind fun x6=>
  (A1 l8 4).bind fun x7=>
  (A1 l8 7).bind fun x8=>
  (Co x7 6).bind fun y5=>
  (Co x7 11).bind fun y6=>
  (Co x7 25).bind fun y7=>
  (A1 l8 5).bind fun x9=>
  (A1 l8 6).bind fun x10=>
  (A1 T a2).bind fun x11=>
  (A1 l1 a2).bind fun x12=>
  ret ((((x8+((y5 ^^^ y6) ^^^ y7))+((x7 &&& x9) ^^^ ((4294967295 ^^^ x7) &&& x10)))+x11)+x12) fun x13=>
  (Co x6 2).bind fun y8=>
  (Co x6 13).bind fun y9=>
  (Co x6 22).bind fun y10=>
  (A1 l8 1).bind fun x14=>
  (A1 l8 2).bind fun x15=>
  (A1 l8 1).bind fun x16=>
  (A1 l8 2).bind fun x17=>
  ret (((y8 ^^^ y9) ^^^ y10)+(((x6 &&& x14) ^^^ (x6 &&& x15)) ^^^ (x16 &&& x17))) fun x18=>
  (A1 l8 0).bind fun x19=>
  (A1 l8 1).bind fun x20=>
  (A1 l8 2).bind fun x21=>
  (A1 l8 3).bind fun x22=>
  (A1 l8 4).bind fun x23=>
  (A1 l8 5).bind fun x24=>
  (A1 l8 6).bind fun x25=>
  ret (wI (a2+1)) fun x26=>
  nx_f_ref02_part_l2 ([x13+x18,x19,x20,x21,x22+x13,x23,x24,x25],x26))
 (
  IL n p0 l8)
def MZ(n:Nat)(T:List UInt32)(p0:List UInt32)(l1:List UInt32):Nat→(List UInt32×Int)→Option (List UInt32):=CH fun nx x=>Ib n T p0 l1 nx x.1 x.2
def IJ(n:Nat)(T:List UInt32)(p0:List UInt32)(l1:List UInt32):Option (List UInt32):=
 (Eh 4 [] p0).bind fun l6=>
 MZ n T p0 l1 n (l6,0)
def IK(a1:Int)(nx_f_ref02_part_l1:List UInt32×Int→Option (List UInt32))(l3:List UInt32):Option (List UInt32):=
 ret (wI (a1+1)) fun x5=>
 nx_f_ref02_part_l1 (l3,x5)
def Ia(n:Nat)(T:List UInt32)(p0:List UInt32)(p1:List UInt8)(nx_f_ref02_part_l1:List UInt32×Int→Option (List UInt32))(l2:List UInt32)(a1:Int):Option (List UInt32):=
 cond (decide (a1<64))
 (
  cond (decide (a1<16))
  (
   (A1 p1 (wI (4*a1))).bind fun c1=>
   (A1 p1 (wI ((wI (4*a1))+1))).bind fun c2=>
   (A1 p1 (wI ((wI (4*a1))+2))).bind fun c3=>
   (A1 p1 (wI ((wI (4*a1))+3))).bind fun c4=>
   (Eh 4 l2 [(((shl32 c1.toUInt32 24) ||| (shl32 c2.toUInt32 16)) ||| (shl32 c3.toUInt32 8)) ||| c4.toUInt32]).bind fun l4=>
   IK a1 nx_f_ref02_part_l1 l4)
  (
   (A1 l2 (wI (a1-15))).bind fun x1=>
   (A1 l2 (wI (a1-2))).bind fun x2=>
   (A1 l2 (wI (a1-16))).bind fun x3=>
   (Co x1 7).bind fun y1=>
   (Co x1 18).bind fun y2=>
   (A1 l2 (wI (a1-7))).bind fun x4=>
   (Co x2 17).bind fun y3=>
   (Co x2 19).bind fun y4=>
   (Eh 4 l2 [((x3+((y1 ^^^ y2) ^^^ (shr32 x1 3)))+x4)+((y3 ^^^ y4) ^^^ (shr32 x2 10))]).bind fun l5=>
   IK a1 nx_f_ref02_part_l1 l5))
 (
  IJ n T p0 l2)
def Ju(n:Nat)(T:List UInt32)(p0:List UInt32)(p1:List UInt8):Nat→(List UInt32×Int)→Option (List UInt32):=CH fun nx x=>Ia n T p0 p1 nx x.1 x.2
def M7(n:Nat)(T:List UInt32)(p0:List UInt32)(p1:List UInt8):Option (List UInt32):=
 Ju n T p0 p1 n ([],0)
theorem bG{n:Nat}{T p0 r:List UInt32}{BW:Value}{p1:List UInt8}(h:M7 n T p0 p1=some r)(hT:Kl K w0 2 64 T)(hs0_:CR K w0 AQ 1 BW p0):zC K w0 271 [BW,vS p1] [] H (fun u M=>∃v0:Value,u=v0∧M=[AD 36 1 v0 AQ r]):=by
 unfold M7 at h
 refine Vf.enter Tryz.func271 rfl rfl ?_
 refine Y (Ci 36 1 AQ (O E (U (Y (Ci 36 1 AQ (O E (U ?_)))))))
 refine Az (α:=List UInt32×Value) (fun x=>IJ n T p0 x.1=some r) (fun x=>[(0,BW),(5,x.2)]) (fun x=>AD 36 1 x.2 AQ x.1::H) ?_ (fun x D h=>?_)
 refine Y (O E (U (AK ?_)))
 refine SX.heap (SX.mono (A9 (α:=Nat×List UInt32×Value×Int) (fun x=>Ju n T p0 p1 x.1 (x.2.1,x.2.2.2)=some r) (fun x=>[(0,BW),(1,vS p1),(5,x.2.2.1),(6,vI x.2.2.2)]) (fun x=>AD 36 1 x.2.2.1 AQ x.2.1::H) (fun x=>x.1) (fun x D h=>?_) (n,[],zN,0) h) tL) (A5 [0] 2 E E E)
 obtain⟨m1,l2,v2,a1⟩:=x
 dsimp only at h
 rcases m1 with _ | m1
 cases (show(none:Option _)=some r from h)
 replace h:Ia n T p0 p1 (Ju n T p0 p1 m1) l2 a1=some r:=h
 unfold Ia at h
 try dsimp only
 refine AE (Y (J E (V E BL (U ?_))))
 refine AL h E (fun hc1 h=>?_) fun hc1 h=>?_
 refine AH (AI ?_)
 refine Az (α:=List UInt32×Value) (fun x=>IK a1 (Ju n T p0 p1 m1) x.1=some r) (fun x=>[(0,BW),(1,vS p1),(5,x.2),(6,vI a1)]) (fun x=>AD 36 1 x.2 AQ x.1::H) ?_ (fun x D h=>?_)
 refine AK (AE (Y (J E (V E BL (U ?_)))))
 refine AL h E (fun hc2 h=>?_) fun hc2 h=>?_
 refine AE ?_
 refine AB h fun c1 hc1 h=>?_
 refine AB h fun c2 hc2 h=>?_
 refine AB h fun c3 hc3 h=>?_
 refine AB h fun c4 hc4 h=>?_
 refine AB h fun l4 hl4 h=>?_
 refine Ai C2 [] (BJ [(true,0),(true,1),(true,2),(true,3),(true,4),(true,5),(true,6),(true,7),(true,8),(true,9),(true,10),(true,11),(true,12),(true,13),(true,14),(true,15),(true,16),(true,17),(true,18),(true,19),(true,20),(true,21),(true,22),(true,23),(true,24),(true,25),(true,26),(true,27),(true,28),(true,29),(false,30)] (.last 31 (C0 [(false,32)]))) zK (J E (J E (J E (V E Ha (MG hc1 E De E E (BZ E E (Gu Ej C6) ?_))))))
 refine V E (Gy.shl32 (n:=24)) ?_
 refine J E (J E (V E Ha (V E Aw (MG hc2 E De E E (BZ E E (Gu Ej C6) ?_)))))
 refine V E (Gy.shl32 (n:=16)) ?_
 refine V E GX (J E (J E (V E Ha (V E Aw (MG hc3 E De E E (BZ E E (Gu Ej C6) ?_))))))
 refine V E (Gy.shl32 (n:=8)) ?_
 refine V E GX (J E (J E (V E Ha (V E Aw (MG hc4 E De E E (BZ E E (Gu Ej C6) (V E GX ?_)))))))
 refine Ck [_] E Af Aa Jf ⟨E,zT⟩ E E E zX E E zU fun b1=>?_
 refine Cp AQ 1 ([(((shl32 c1.toUInt32 24) ||| (shl32 c2.toUInt32 16)) ||| (shl32 c3.toUInt32 8)) ||| c4.toUInt32]:List UInt32) E zV E ?_
 refine A4 ?_
 refine EF 1 hl4 (sz:=1) (enc:=AQ) zV E Af Aa R9 Jf E zD E E E E (Ct (sz:=1) (enc:=AQ) 0 zV E) (by simp[AQ,Value.oneCell']) zU fun v4=>?_
 refine O E (U (Av (Ay (A0 ?_))))
 exact Ak (l4,v4) h tL (A5 [1] 2 E E E)
 refine AH (AI (Y ?_))
 refine AB h fun x1 hx1 h=>?_
 refine J E (J E (V E BC ?_))
 refine AZ 0 hx1 E Af Aa E E E fun g1 m2 cp1 hv1=>?_
 refine Aq E Ah E (AS (sz:=1) (enc:=AQ) 0 0 zV E hv1 hx1 E) ?_
 refine O E (U (Y ?_))
 refine AB h fun x2 hx2 h=>?_
 refine J E (J E (V E BC ?_))
 refine AZ 0 hx2 E Af Aa E E E fun g2 m3 cp2 hv2=>?_
 refine Aq E Ah E (AS (sz:=1) (enc:=AQ) 0 0 zV E hv2 hx2 E) ?_
 refine O E (U ?_)
 refine AB h fun x3 hx3 h=>?_
 refine AB h fun y1 hy1 h=>?_
 refine AB h fun y2 hy2 h=>?_
 refine AB h fun x4 hx4 h=>?_
 refine AB h fun y3 hy3 h=>?_
 refine AB h fun y4 hy4 h=>?_
 refine AB h fun l5 hl5 h=>?_
 refine Ai C2 [0] (BJ [(true,0),(true,1),(true,2),(true,3),(true,4),(true,5),(true,6),(true,8),(true,11),(true,12),(true,15),(true,16),(true,17),(true,18),(true,19),(true,21),(true,23),(true,26),(true,27),(false,7),(false,9),(true,10),(true,13),(true,14),(true,20),(false,22),(false,24),(true,25),(true,28),(true,29),(false,30)] (.last 31 (C0 [(false,32)]))) zK (J E (J E (J E (V E BC ?_))))
 refine AZ 0 hx3 E Af Aa E E E fun g3 m4 cp3 hv3=>?_
 refine Aq E Ah E (AS (sz:=1) (enc:=AQ) 0 0 zV E hv3 hx3 E) ?_
 refine J E (J E (J E ?_))
 refine V E (Gy.shr32 (n:=3)) ?_
 refine J E (J E (V E BC ?_))
 refine AZ 0 hx4 E Af Aa E E E fun g4 m5 cp4 hv4=>?_
 refine Aq E Ah E (AS (sz:=1) (enc:=AQ) 0 0 zV E hv4 hx4 E) ?_
 refine J E (J E (J E ?_))
 refine V E (Gy.shr32 (n:=10)) ?_
 refine BT 0 PQ (Fl hy1) E ⟨⟨0,E⟩,zT⟩ (BT 0 PQ (Fl hy2) E ⟨⟨0,E⟩,zT⟩ (V E Dg (V E Dg (V E CQ (V E CQ (BT 0 PQ (Fl hy3) E ⟨⟨0,E⟩,zT⟩ (BT 0 PQ (Fl hy4) E ⟨⟨0,E⟩,zT⟩ ?_)))))))
 refine V E Dg (V E Dg (V E CQ ?_))
 refine Ck [_] E Af Aa Jf ⟨E,zT⟩ E E E zX E E (fun _=>⟨⟨1,E⟩,zT⟩) fun b2=>?_
 refine Cp AQ 1 ([((x3+((y1 ^^^ y2) ^^^ (shr32 x1 3)))+x4)+((y3 ^^^ y4) ^^^ (shr32 x2 10))]:List UInt32) E zV E ?_
 refine A4 ?_
 refine EF 1 hl5 (sz:=1) (enc:=AQ) zV E Af Aa R9 Jf E zD E E E E (Ct (sz:=1) (enc:=AQ) 0 zV E) (by simp[AQ,Value.oneCell']) zU fun v5=>?_
 refine O E (AT (Ao ?_))
 exact Ak (l5,v5) h tL (A5 [1] 2 E E E)
 obtain⟨l3,v3⟩:=x
 dsimp only at h
 unfold IK at h
 try dsimp only
 refine AJ ?_
 obtain⟨x5,ex5,h⟩:=BG h
 refine J E (V E Aw ?_)
 refine AX (u:=vI x5) E E (by rw[ex5]) ?_
 refine AT ?_
 exact Am (m1,l3,v3,x5) h (Nat.lt_succ_self _) tL (A5 [0] 1 E E E)
 refine Av (Ay (BP (A0 ?_)))
 exact Ak (l2,v2) h tL (A5 [0] 1 E E E)
 obtain⟨l1,v1⟩:=x
 dsimp only at h
 unfold IJ at h
 try dsimp only
 refine Y ?_
 refine AB h fun l6 hl6 h=>?_
 refine kK (n:=8) AQ E Af Aa R9 Jf E E E E E zU fun v6=>?_
 refine J E ?_
 refine Tp 0 hl6 hs0_ (sz:=1) (enc:=AQ) zV E Af Aa R9 Jf E zD E E E (by simp[AQ,Value.oneCell']) zU fun v7=>?_
 refine O E (U ?_)
 refine Az (α:=List UInt32×Value) (fun x=>IL n p0 x.1=some r) (fun x=>[(0,BW),(9,x.2)]) (fun x=>AD 36 1 x.2 AQ x.1::H) ?_ (fun x D h=>?_)
 refine Y (O E (U (AK ?_)))
 refine SX.heap (SX.mono (A9 (α:=Nat×List UInt32×Value×Int) (fun x=>MZ n T p0 l1 x.1 (x.2.1,x.2.2.2)=some r) (fun x=>[(0,BW),(5,v1),(9,x.2.2.1),(10,vI x.2.2.2)]) (fun x=>AD 36 1 v1 AQ l1::AD 36 1 x.2.2.1 AQ x.2.1::H) (fun x=>x.1) (fun x D h=>?_) (n,l6,v7,0) h) tL) (A5 [1,0] 2 E E E)
 obtain⟨m6,l8,v9,a2⟩:=x
 dsimp only at h
 rcases m6 with _ | m6
 cases (show(none:Option _)=some r from h)
 replace h:Ib n T p0 l1 (MZ n T p0 l1 m6) l8 a2=some r:=h
 unfold Ib at h
 try dsimp only
 refine AE (Y (J E (V E BL (U ?_))))
 refine AL h E (fun hc3 h=>?_) fun hc3 h=>?_
 refine AH (AI (AE (AK (Y ?_))))
 refine AB h fun x6 hx6 h=>?_
 refine J E ?_
 refine AZ 1 hx6 E Af Aa E E E fun g5 m7 cp5 hv5=>?_
 refine Aq E Ah E (AS (sz:=1) (enc:=AQ) 1 0 zV E hv5 hx6 E) ?_
 refine O E (U (Y ?_))
 refine AB h fun x7 hx7 h=>?_
 refine J E ?_
 refine AZ 1 hx7 E Af Aa E E E fun g6 m8 cp6 hv6=>?_
 refine Aq E Ah E (AS (sz:=1) (enc:=AQ) 1 0 zV E hv6 hx7 E) ?_
 refine O E (U (AE ?_))
 refine AB h fun x8 hx8 h=>?_
 refine AB h fun y5 hy5 h=>?_
 refine AB h fun y6 hy6 h=>?_
 refine AB h fun y7 hy7 h=>?_
 refine AB h fun x9 hx9 h=>?_
 refine AB h fun x10 hx10 h=>?_
 refine AB h fun x11 hx11 h=>?_
 refine AB h fun x12 hx12 h=>?_
 obtain⟨x13,ex13,h⟩:=BG h
 refine Ai C2 [0,1] (BJ [(true,0),(true,1),(true,2),(true,3),(true,5),(true,8),(true,12),(true,13),(true,14),(true,15),(true,16),(true,17),(true,18),(true,19),(true,20),(true,21),(true,22),(true,23),(true,25),(true,26),(true,27),(true,29),(true,30),(true,31),(true,32),(false,4),(false,6),(true,7),(false,9),(false,10),(false,11),(false,24),(false,28)] (.last 33 (C0 [(false,34)]))) zK (J E ?_)
 refine AZ 1 hx8 E Af Aa E E E fun g7 m9 cp7 hv7=>?_
 refine Aq E Ah E (AS (sz:=1) (enc:=AQ) 1 0 zV E hv7 hx8 E) ?_
 refine J E (J E (J E (J E (J E ?_))))
 refine AZ 1 hx9 E Af Aa E E E fun g8 m10 cp8 hv8=>?_
 refine Aq E Ah E (AS (sz:=1) (enc:=AQ) 1 0 zV E hv8 hx9 E) ?_
 refine V E IP (J E (ba E E (J E ?_)))
 refine AZ 1 hx10 E Af Aa E E E fun g9 m11 cp9 hv9=>?_
 refine Aq E Ah E (AS (sz:=1) (enc:=AQ) 1 0 zV E hv9 hx10 E) ?_
 refine V E IP (V E Dg (J E ?_))
 refine OD (xs:=T) hx11 E TM Aa E E hT.len ?_
 refine Aq E Ah E (uQ hT hx11) (J E (J E ?_))
 refine AZ 0 hx12 E Af Aa E E E fun g10 m12 cp10 hv10=>?_
 refine Aq E Ah E (AS (sz:=1) (enc:=AQ) 0 0 zV E hv10 hx12 E) ?_
 refine BT 0 PQ (Fl hy5) E ⟨⟨0,E⟩,⟨1,E⟩,zT⟩ (BT 0 PQ (Fl hy6) E ⟨⟨0,E⟩,⟨1,E⟩,zT⟩ (V E Dg (BT 0 PQ (Fl hy7) E ⟨⟨0,E⟩,⟨1,E⟩,zT⟩ (V E Dg (V E CQ (V E CQ (V E CQ (A4 ?_))))))))
 refine V E CQ ?_
 refine AX (u:=AC x13) E E (by rw[ex13]) ?_
 refine U (AE ?_)
 refine AB h fun y8 hy8 h=>?_
 refine AB h fun y9 hy9 h=>?_
 refine AB h fun y10 hy10 h=>?_
 refine AB h fun x14 hx14 h=>?_
 refine AB h fun x15 hx15 h=>?_
 refine AB h fun x16 hx16 h=>?_
 refine AB h fun x17 hx17 h=>?_
 obtain⟨x18,ex18,h⟩:=BG h
 refine Ai C2 [1] (BJ [(true,0),(true,2),(true,5),(true,8),(true,9),(true,10),(true,11),(true,12),(true,13),(true,14),(true,15),(true,16),(true,17),(true,18),(true,19),(true,20),(true,21),(true,22),(true,23),(true,24),(true,25),(true,26),(false,1),(false,3),(true,4),(false,6),(false,7)] (.last 27 (C0 [(false,28)]))) zK (J E (J E (J E (J E (J E ?_)))))
 refine AZ 1 hx14 E Af Aa E E E fun g11 m13 cp11 hv11=>?_
 refine Aq E Ah E (AS (sz:=1) (enc:=AQ) 0 0 zV E hv11 hx14 E) ?_
 refine V E IP (J E (J E ?_))
 refine AZ 1 hx15 E Af Aa E E E fun g12 m14 cp12 hv12=>?_
 refine Aq E Ah E (AS (sz:=1) (enc:=AQ) 0 0 zV E hv12 hx15 E) ?_
 refine V E IP (V E Dg (J E ?_))
 refine AZ 1 hx16 E Af Aa E E E fun g13 m15 cp13 hv13=>?_
 refine Aq E Ah E (AS (sz:=1) (enc:=AQ) 0 0 zV E hv13 hx16 E) ?_
 refine J E ?_
 refine AZ 1 hx17 E Af Aa E E E fun g14 m16 cp14 hv14=>?_
 refine Aq E Ah E (AS (sz:=1) (enc:=AQ) 0 0 zV E hv14 hx17 E) ?_
 refine V E IP (V E Dg (BT 0 PQ (Fl hy8) E ⟨⟨1,E⟩,zT⟩ (BT 0 PQ (Fl hy9) E ⟨⟨1,E⟩,zT⟩ (V E Dg (BT 0 PQ (Fl hy10) E ⟨⟨1,E⟩,zT⟩ (V E Dg (A4 (V E CQ ?_))))))))
 refine AX (u:=AC x18) E E (by rw[ex18]) ?_
 refine U ?_
 refine AB h fun x19 hx19 h=>?_
 refine AB h fun x20 hx20 h=>?_
 refine AB h fun x21 hx21 h=>?_
 refine AB h fun x22 hx22 h=>?_
 refine AB h fun x23 hx23 h=>?_
 refine AB h fun x24 hx24 h=>?_
 refine AB h fun x25 hx25 h=>?_
 refine Ai C2 [1] (BJ (Hp 0 26) (.last 26 (C0 [(false,27)]))) zK (J E (J E (V E CQ (J E ?_))))
 refine AZ 1 hx19 E Af Aa E E E fun g15 m17 cp15 hv15=>?_
 refine Aq E Ah E (AS (sz:=1) (enc:=AQ) 0 0 zV E hv15 hx19 E) ?_
 refine J E ?_
 refine AZ 1 hx20 E Af Aa E E E fun g16 m18 cp16 hv16=>?_
 refine Aq E Ah E (AS (sz:=1) (enc:=AQ) 0 0 zV E hv16 hx20 E) ?_
 refine J E ?_
 refine AZ 1 hx21 E Af Aa E E E fun g17 m19 cp17 hv17=>?_
 refine Aq E Ah E (AS (sz:=1) (enc:=AQ) 0 0 zV E hv17 hx21 E) ?_
 refine J E ?_
 refine AZ 1 hx22 E Af Aa E E E fun g18 m20 cp18 hv18=>?_
 refine Aq E Ah E (AS (sz:=1) (enc:=AQ) 0 0 zV E hv18 hx22 E) ?_
 refine J E (V E CQ (J E ?_))
 refine AZ 1 hx23 E Af Aa E E E fun g19 m21 cp19 hv19=>?_
 refine Aq E Ah E (AS (sz:=1) (enc:=AQ) 0 0 zV E hv19 hx23 E) ?_
 refine J E ?_
 refine AZ 1 hx24 E Af Aa E E E fun g20 m22 cp20 hv20=>?_
 refine Aq E Ah E (AS (sz:=1) (enc:=AQ) 0 0 zV E hv20 hx24 E) ?_
 refine J E ?_
 refine AZ 1 hx25 E Af Aa E E E fun g21 m23 cp21 hv21=>?_
 refine Aq E Ah E (AS (sz:=1) (enc:=AQ) 0 0 zV E hv21 hx25 E) ?_
 refine A4 ?_
 refine Ck [_,_,_,_,_,_,_,_] E Af Aa Jf ⟨E,E,E,E,E,E,E,E,zT⟩ E E E zX E E zU fun b3=>?_
 refine Cp AQ 1 ([x13+x18,x19,x20,x21,x22+x13,x23,x24,x25]:List UInt32) E zV E ?_
 refine O E (AT (Ao (AI (AJ ?_))))
 obtain⟨x26,ex26,h⟩:=BG h
 refine J E (V E Aw ?_)
 refine AX (u:=vI x26) E E (by rw[ex26]) ?_
 refine AT ?_
 exact Am (m6,[x13+x18,x19,x20,x21,x22+x13,x23,x24,x25],.slice (some ⟨b3,0,none⟩) 8 8,x26) h (Nat.lt_succ_self _) tL (A5 [1,0] 3 E E E)
 refine Av (Ay (BP (A0 ?_)))
 exact Ak (l8,v9) h tL (A5 [1] 2 E E E)
 obtain⟨l7,v8⟩:=x
 dsimp only at h
 unfold IL at h
 try dsimp only
 refine Az (α:=List UInt32×Value) (fun x=>MY x.1=some r) (fun x=>[(9,x.2)]) (fun x=>AD 36 1 x.2 AQ x.1::H) ?_ (fun x D h=>?_)
 refine Y (O E (U (AK ?_)))
 refine SX.heap (SX.mono (A9 (α:=Nat×List UInt32×Value×Int) (fun x=>Ma p0 x.1 (x.2.1,x.2.2.2)=some r) (fun x=>[(0,BW),(9,x.2.2.1),(15,vI x.2.2.2)]) (fun x=>AD 36 1 x.2.2.1 AQ x.2.1::H) (fun x=>x.1) (fun x D h=>?_) (n,l7,v8,0) h) tL) (A5 [0] 1 E E E)
 obtain⟨m24,l10,v11,a3⟩:=x
 dsimp only at h
 rcases m24 with _ | m24
 cases (show(none:Option _)=some r from h)
 replace h:Ic p0 (Ma p0 m24) l10 a3=some r:=h
 unfold Ic at h
 try dsimp only
 refine AE (Y (J E (V E BL (U ?_))))
 refine AL h E (fun hc4 h=>?_) fun hc4 h=>?_
 refine AH (AI (AE (AK ?_)))
 refine AB h fun x27 hx27 h=>?_
 refine AB h fun x28 hx28 h=>?_
 refine AB h fun x29 hx29 h=>?_
 refine AB h fun l11 hl11 h=>?_
 refine Ai C2 [0] (BJ (Hp 0 12) (.last 12 .nil)) zK (J E (J E (J E (J E ?_))))
 refine AZ 0 hx27 E Af Aa E E E fun g22 m25 cp22 hv22=>?_
 refine Aq E Ah E (AS (sz:=1) (enc:=AQ) 0 0 zV E hv22 hx27 E) ?_
 refine J E (J E ?_)
 refine EL hx28 hs0_ E Af Aa E E fun be1 of1 hc5=>?_
 refine Aq E Ah E (E1 (j:=0) hc5 E) ?_
 refine V E CQ ?_
 refine AZ 0 hx29 E Af Aa E E E fun g23 m26 cp23 hv23=>?_
 refine A4 ?_
 refine BB (sz:=1) (enc:=AQ) 0 hl11 zV E E E E E hv23 Aa (by simp[Value.oneCell']) zT ?_
 refine AT (Ao (AI (AJ ?_)))
 obtain⟨x30,ex30,h⟩:=BG h
 refine J E (V E Aw ?_)
 refine AX (u:=vI x30) E E (by rw[ex30]) ?_
 refine AT ?_
 exact Am (m24,l11,v11,x30) h (Nat.lt_succ_self _) tL (A5 [0] 1 E E E)
 refine Av (Ay (BP (A0 ?_)))
 exact Ak (l10,v11) h tL (A5 [0] 1 E E E)
 obtain⟨l9,v10⟩:=x
 dsimp only at h
 unfold MY at h
 try dsimp only
 refine Y (J E (O E (U (AM ?_))))
 obtain rfl:=zI h
 exact CC [0] 1 (D7 E E) E E ⟨v10,E,E⟩
def KT(p0:List UInt8)(a1:List UInt8):Option (List UInt8):=
 ret ((DJ (p0.length:Int))*8) fun x1=>
 (Fp a1 [(shr64 x1 56).toUInt8,(shr64 x1 48).toUInt8,(shr64 x1 40).toUInt8,(shr64 x1 32).toUInt8,(shr64 x1 24).toUInt8,(shr64 x1 16).toUInt8,(shr64 x1 8).toUInt8,x1.toUInt8]).bind fun s3=>
 some s3
def HQ(p0:List UInt8)(nx_f_ref02_Filled_l1:List UInt8→Option (List UInt8))(a2:List UInt8):Option (List UInt8):=
 (Va (a2.length:Int) 64).bind fun q1=>
 cond (!decide (q1=56))
 (
  (Fp a2 [0]).bind fun s2=>
  nx_f_ref02_Filled_l1 s2)
 (
  KT p0 a2)
def KU(p0:List UInt8):Nat→List UInt8→Option (List UInt8):=CH fun nx x=>HQ p0 nx x
def Ko(n:Nat)(p0:List UInt8):Option (List UInt8):=
 (Fp p0 [128]).bind fun s1=>
 KU p0 n s1
theorem Yg{n:Nat}{p0 r:List UInt8}(h:Ko n p0=some r): zC K w0 269 [vS p0] [] H (fun u M=>u=vS r∧M=[]):=by
 unfold Ko at h
 refine Vf.enter Tryz.func269 rfl rfl ?_
 refine Y (O E (U (Y ?_)))
 refine AB h fun s1 hs1 h=>?_
 refine J E (V E (C3 hs1) (O E (U ?_)))
 refine Az (α:=List UInt8) (fun x=>KT p0 x=some r) (fun x=>[(0,vS p0),(3,vS x)]) (fun x=>H) ?_ (fun a1 D h=>?_)
 refine AK ?_
 refine SX.heap (SX.mono (A9 (α:=Nat×List UInt8) (fun x=>KU p0 x.1 x.2=some r) (fun x=>[(0,vS p0),(3,vS x.2)]) (fun x=>H) (fun x=>x.1) (fun x D h=>?_) (n,s1) h) tL) (A5 [] 0 E E E)
 obtain⟨m1,a2⟩:=x
 dsimp only at h
 rcases m1 with _ | m1
 cases (show(none:Option _)=some r from h)
 replace h:HQ p0 (KU p0 m1) a2=some r:=h
 unfold HQ at h
 try dsimp only
 refine AE (Y ?_)
 refine AB h fun q1 hq1 h=>?_
 refine J E (CI E De E (V E (Uo hq1) (V E Bg (U ?_))))
 refine AL h E (fun hc1 h=>?_) fun hc1 h=>?_
 refine AH (AI (AK (AJ ?_)))
 refine AB h fun s2 hs2 h=>?_
 refine J E (V E (C3 hs2) (O E (AT (Ao ?_))))
 exact Am (m1,s2) h (Nat.lt_succ_self _) tL (A5 [] 0 E E E)
 refine Av (Ay (BP (A0 ?_)))
 exact Ak a2 h tL (A5 [] 0 E E E)
 unfold KT at h
 try dsimp only
 refine Y ?_
 obtain⟨x1,ex1,h⟩:=BG h
 refine J E (CI E De E (BZ E E (Ff Jh En) ?_))
 refine V E (Nl (b:=8)) ?_
 refine AX (u:=Bh x1) E E (by rw[ex1]) ?_
 refine U (Y ?_)
 refine AB h fun s3 hs3 h=>?_
 refine J E (J E ?_)
 refine V E (Gy.shr64 (n:=56)) ?_
 refine BZ E E (Gt En Ej) (J E ?_)
 refine V E (Gy.shr64 (n:=48)) ?_
 refine BZ E E (Gt En Ej) (J E ?_)
 refine V E (Gy.shr64 (n:=40)) ?_
 refine BZ E E (Gt En Ej) (J E ?_)
 refine V E (Gy.shr64 (n:=32)) ?_
 refine BZ E E (Gt En Ej) (J E ?_)
 refine V E (Gy.shr64 (n:=24)) ?_
 refine BZ E E (Gt En Ej) (J E ?_)
 refine V E (Gy.shr64 (n:=16)) ?_
 refine BZ E E (Gt En Ej) (J E ?_)
 refine V E (Gy.shr64 (n:=8)) ?_
 refine BZ E E (Gt En Ej) (J E (BZ E E (Gt En Ej) ?_))
 refine Ck [_,_,_,_,_,_,_,_] E DO LM MF ⟨E,E,E,E,E,E,E,E,zT⟩ E E E zX E E zU fun b1=>?_
 refine Cp G7 1 ([(shr64 x1 56).toUInt8,(shr64 x1 48).toUInt8,(shr64 x1 40).toUInt8,(shr64 x1 32).toUInt8,(shr64 x1 24).toUInt8,(shr64 x1 16).toUInt8,(shr64 x1 8).toUInt8,x1.toUInt8]:List UInt8) E zV E ?_
 refine IQ 0 E DO Ej De E E (V E (C3 hs3) (O E (U (AM ?_))))
 obtain rfl:=zI h
 exact AW [] 1 E E E
def NV(l3:List UInt8):Option (List UInt8):=
 some l3
def JL(l1:List UInt32)(nx_f_ref02_Sum_l2:List UInt8×Int→Option (List UInt8))(l4:List UInt8)(a2:Int):Option (List UInt8):=
 cond (decide (a2<8))
 (
  (A1 l1 a2).bind fun x1=>
  (A1 l1 a2).bind fun x2=>
  (A1 l1 a2).bind fun x3=>
  (A1 l1 a2).bind fun x4=>
  (Eh 1 l4 [(shr32 x1 24).toUInt8,(shr32 x2 16).toUInt8,(shr32 x3 8).toUInt8,x4.toUInt8]).bind fun l5=>
  ret (wI (a2+1)) fun i_2=>
  nx_f_ref02_Sum_l2 (l5,i_2))
 (
  NV l4)
def NX(l1:List UInt32):Nat→(List UInt8×Int)→Option (List UInt8):=CH fun nx x=>JL l1 nx x.1 x.2
def Kp(n:Nat)(l1:List UInt32):Option (List UInt8):=
 NX l1 n ([],0)
def JK(n:Nat)(T:List UInt32)(y1:List UInt8)(nx_f_ref02_Sum_l1:List UInt32×Int→Option (List UInt8))(l2:List UInt32)(a1:Int):Option (List UInt8):=
 cond (decide (a1<(y1.length:Int)))
 (
  (KK y1 a1 (wI (a1+64))).bind fun s1=>
  (M7 n T l2 s1).bind fun y3=>
  ret (wI (a1+64)) fun i_1=>
  nx_f_ref02_Sum_l1 (y3,i_1))
 (
  Kp n l2)
def NW(n:Nat)(T:List UInt32)(y1:List UInt8):Nat→(List UInt32×Int)→Option (List UInt8):=CH fun nx x=>JK n T y1 nx x.1 x.2
def KV(n:Nat)(T:List UInt32)(p0:List UInt8):Option (List UInt8):=
 (Ko n p0).bind fun y1=>
 (OP).bind fun y2=>
 NW n T y1 n (y2,0)
theorem Sl{n:Nat}{T:List UInt32}{p0 r:List UInt8}(h:KV n T p0=some r)(hT:Kl K w0 2 64 T):zC K w0 250 [vS p0] [] H (fun u M=>u=vS r∧M=[]):=by
 unfold KV at h
 refine Vf.enter Tryz.func250 rfl rfl ?_
 refine Y (O E (U (Y ?_)))
 refine AB h fun y1 hy1 h=>?_
 refine J E (AN 0 tg (Yg hy1) E (O E (U (Y ?_))))
 refine AB h fun y2 hy2 h=>?_
 refine Bx (vs:=[]) (Hin:=[]) (Hr:=_) E E zT ti E E (Zd hy2) ?_
 rintro v1 _ ⟨_,rfl,rfl⟩
 refine⟨trivial,?_⟩
 refine O E (U ?_)
 refine Az (α:=List UInt32×Value) (fun x=>Kp n x.1=some r) (fun x=>[(4,x.2)]) (fun x=>AD 36 1 x.2 AQ x.1::H) ?_ (fun x D h=>?_)
 refine Y (O E (U (AK ?_)))
 refine SX.heap (SX.mono (A9 (α:=Nat×List UInt32×Value×Int) (fun x=>NW n T y1 x.1 (x.2.1,x.2.2.2)=some r) (fun x=>[(3,vS y1),(4,x.2.2.1),(5,vI x.2.2.2)]) (fun x=>AD 36 1 x.2.2.1 AQ x.2.1::H) (fun x=>x.1) (fun x D h=>?_) (n,y2,v1,0) h) tL) (A5 [0] 1 E E E)
 obtain⟨m1,l2,v3,a1⟩:=x
 dsimp only at h
 rcases m1 with _ | m1
 cases (show(none:Option _)=some r from h)
 replace h:JK n T y1 (NW n T y1 m1) l2 a1=some r:=h
 unfold JK at h
 try dsimp only
 refine AE (Y (J E (J E (CI E De E (V E BL (U ?_))))))
 refine AL h E (fun hc1 h=>?_) fun hc1 h=>?_
 refine AH (AI (AE (AK (AJ ?_))))
 refine AB h fun s1 hs1 h=>?_
 refine AB h fun y3 hy3 h=>?_
 refine J E (J E (J E (J E (V E Aw (rL hs1 E De E E E ?_)))))
 refine Bx (vs:=[_,_]) (Hin:=[_]) (Hr:=_) E E ⟨E,E,zT⟩ tj E E (Dm (B:=[_]) (Hin:=[]) fun K' w1 hk hB=>bG hy3 (hT.keeps hk) (C1 (e:=36) zV (hB _ zS))) ?_
 rintro v4 _ ⟨_,rfl,_,rfl,rfl⟩
 refine⟨trivial,?_⟩
 refine O E (AT (Ao (AI (AJ ?_))))
 obtain⟨i_1,ei_1,h⟩:=BG h
 refine J E (V E Aw ?_)
 refine AX (u:=vI i_1) E E (by rw[ei_1]) ?_
 refine AT ?_
 exact Am (m1,y3,v4,i_1) h (Nat.lt_succ_self _) tL (A5 [1] 2 E E E)
 refine Av (Ay (BP (A0 ?_)))
 exact Ak (l2,v3) h tL (A5 [0] 1 E E E)
 obtain⟨l1,v2⟩:=x
 dsimp only at h
 unfold Kp at h
 try dsimp only
 refine Y (Ci 5 1 G7 (O E (U ?_)))
 refine Az (α:=List UInt8×Value) (fun x=>NV x.1=some r) (fun x=>[(6,x.2)]) (fun x=>AD 5 1 x.2 G7 x.1::H) ?_ (fun x D h=>?_)
 refine Y (O E (U (AK ?_)))
 refine SX.heap (SX.mono (A9 (α:=Nat×List UInt8×Value×Int) (fun x=>NX l1 x.1 (x.2.1,x.2.2.2)=some r) (fun x=>[(4,v2),(6,x.2.2.1),(7,vI x.2.2.2)]) (fun x=>AD 36 1 v2 AQ l1::AD 5 1 x.2.2.1 G7 x.2.1::H) (fun x=>x.1) (fun x D h=>?_) (n,[],zN,0) h) tL) (A5 [1,0] 2 E E E)
 obtain⟨m2,l4,v6,a2⟩:=x
 dsimp only at h
 rcases m2 with _ | m2
 cases (show(none:Option _)=some r from h)
 replace h:JL l1 (NX l1 m2) l4 a2=some r:=h
 unfold JL at h
 try dsimp only
 refine AE (Y (J E (V E BL (U ?_))))
 refine AL h E (fun hc2 h=>?_) fun hc2 h=>?_
 refine AH (AI (AE (AK ?_)))
 refine AB h fun x1 hx1 h=>?_
 refine AB h fun x2 hx2 h=>?_
 refine AB h fun x3 hx3 h=>?_
 refine AB h fun x4 hx4 h=>?_
 refine AB h fun l5 hl5 h=>?_
 refine Ai C2 [0] (BJ [(true,0),(true,1),(true,2),(true,3),(true,4),(true,5),(true,6),(true,7),(true,8),(true,9),(true,10),(true,11),(true,12),(true,13),(true,14),(true,15),(true,16),(true,17),(true,18),(true,19),(true,20),(true,21),(true,22),(true,23),(false,24)] (.last 25 (C0 [(false,26)]))) zK (J E (J E (J E ?_)))
 refine AZ 0 hx1 E Af Aa E E E fun g1 m3 cp1 hv1=>?_
 refine Aq E Ah E (AS (sz:=1) (enc:=AQ) 0 0 zV E hv1 hx1 E) ?_
 refine V E (Gy.shr32 (n:=24)) ?_
 refine BZ E E (EM C6 Ej) (J E (J E ?_))
 refine AZ 0 hx2 E Af Aa E E E fun g2 m4 cp2 hv2=>?_
 refine Aq E Ah E (AS (sz:=1) (enc:=AQ) 0 0 zV E hv2 hx2 E) ?_
 refine V E (Gy.shr32 (n:=16)) ?_
 refine BZ E E (EM C6 Ej) (J E (J E ?_))
 refine AZ 0 hx3 E Af Aa E E E fun g3 m5 cp3 hv3=>?_
 refine Aq E Ah E (AS (sz:=1) (enc:=AQ) 0 0 zV E hv3 hx3 E) ?_
 refine V E (Gy.shr32 (n:=8)) ?_
 refine BZ E E (EM C6 Ej) (J E (J E ?_))
 refine AZ 0 hx4 E Af Aa E E E fun g4 m6 cp4 hv4=>?_
 refine Aq E Ah E (AS (sz:=1) (enc:=AQ) 0 0 zV E hv4 hx4 E) ?_
 refine BZ E E (EM C6 Ej) ?_
 refine Ck [_,_,_,_] E DO LM MF ⟨E,E,E,E,zT⟩ E E E zX E E (fun _=>⟨⟨1,E⟩,zT⟩) fun b1=>?_
 refine Cp G7 1 ([(shr32 x1 24).toUInt8,(shr32 x2 16).toUInt8,(shr32 x3 8).toUInt8,x4.toUInt8]:List UInt8) E zV E ?_
 refine A4 ?_
 refine EF 2 hl5 (sz:=1) (enc:=G7) zV E DO LM XV MF E zD E E E E (Ct (sz:=1) (enc:=G7) 0 zV E) (by simp[G7,Value.oneCell']) zU fun v7=>?_
 refine O E (AT (Ao (AI (AJ ?_))))
 obtain⟨i_2,ei_2,h⟩:=BG h
 refine J E (V E Aw ?_)
 refine AX (u:=vI i_2) E E (by rw[ei_2]) ?_
 refine AT ?_
 exact Am (m2,l5,v7,i_2) h (Nat.lt_succ_self _) tL (A5 [1,2] 3 E E E)
 refine Av (Ay (BP (A0 ?_)))
 exact Ak (l4,v6) h tL (A5 [1] 2 E E E)
 obtain⟨l3,v5⟩:=x
 dsimp only at h
 unfold NV at h
 try dsimp only
 refine Y (J E (IQ 0 E DO Ej De E E (O E (U (AM ?_)))))
 obtain rfl:=zI h
 exact AW [] 1 E E E
def IN(p1:UInt8)(l2:List UInt8)(a2:Int)(nx_f_ref03_part_l1:List UInt8×Int→Option (List UInt8))(a3:UInt8):Option (List UInt8):=
 (Eh 1 l2 [a3 ^^^ p1]).bind fun l3=>
 ret (wI (a2+1)) fun i_1=>
 nx_f_ref03_part_l1 (l3,i_1)
def Mb(l1:List UInt8):Option (List UInt8):=
 some l1
def Id(p1:UInt8)(a1:List UInt8)(nx_f_ref03_part_l1:List UInt8×Int→Option (List UInt8))(l2:List UInt8)(a2:Int):Option (List UInt8):=
 cond (decide (a2<64))
 (
  cond (decide (a2<(a1.length:Int)))
  (
   (A1 a1 a2).bind fun c1=>
   IN p1 l2 a2 nx_f_ref03_part_l1 c1)
  (
   IN p1 l2 a2 nx_f_ref03_part_l1 0))
 (
  Mb l2)
def Jv(p1:UInt8)(a1:List UInt8):Nat→(List UInt8×Int)→Option (List UInt8):=CH fun nx x=>Id p1 a1 nx x.1 x.2
def IM(n:Nat)(p1:UInt8)(a1:List UInt8):Option (List UInt8):=
 Jv p1 a1 n ([],0)
def LD(n:Nat)(T:List UInt32)(p0:List UInt8)(p1:UInt8):Option (List UInt8):=
 cond (decide (64<(p0.length:Int)))
 (
  (KV n T p0).bind fun y1=>
  IM n p1 y1)
 (
  IM n p1 p0)
theorem VK{n:Nat}{T:List UInt32}{p0 r:List UInt8}{p1:UInt8}(h:LD n T p0 p1=some r)(hT:Kl K w0 2 64 T):zC K w0 272 [vS p0,Fo p1] [] H (fun u M=>u=vS r∧M=[]):=by
 unfold LD at h
 refine Vf.enter Tryz.func272 rfl rfl ?_
 refine Y (O E (U ?_))
 refine Az (α:=List UInt8) (fun x=>IM n p1 x=some r) (fun x=>[(0,vS x),(1,Fo p1)]) (fun x=>H) ?_ (fun a1 D h=>?_)
 refine Y (J E (CI E De E (V E C8 (U ?_))))
 refine AL h E (fun hc1 h=>?_) fun hc1 h=>?_
 refine AJ ?_
 refine AB h fun y1 hy1 h=>?_
 refine J E (AN 0 dm (Sl hy1 hT) E (O E (AT ?_)))
 exact Ak y1 h tL (A5 [] 0 E E E)
 refine AH ?_
 exact Ak p0 h tL (A5 [] 0 E E E)
 unfold IM at h
 try dsimp only
 refine Y (Ci 5 1 G7 (O E (U ?_)))
 refine Az (α:=List UInt8×Value) (fun x=>Mb x.1=some r) (fun x=>[(5,x.2)]) (fun x=>AD 5 1 x.2 G7 x.1::H) ?_ (fun x D h=>?_)
 refine Y (O E (U (AK ?_)))
 refine SX.heap (SX.mono (A9 (α:=Nat×List UInt8×Value×Int) (fun x=>Jv p1 a1 x.1 (x.2.1,x.2.2.2)=some r) (fun x=>[(0,vS a1),(1,Fo p1),(5,x.2.2.1),(6,vI x.2.2.2)]) (fun x=>AD 5 1 x.2.2.1 G7 x.2.1::H) (fun x=>x.1) (fun x D h=>?_) (n,[],zN,0) h) tL) (A5 [0] 1 E E E)
 obtain⟨m1,l2,v2,a2⟩:=x
 dsimp only at h
 rcases m1 with _ | m1
 cases (show(none:Option _)=some r from h)
 replace h:Id p1 a1 (Jv p1 a1 m1) l2 a2=some r:=h
 unfold Id at h
 try dsimp only
 refine AE (Y (J E (V E BL (U ?_))))
 refine AL h E (fun hc2 h=>?_) fun hc2 h=>?_
 refine AH (AI (AE (AK (Y (O E (U ?_))))))
 refine Az (α:=UInt8) (fun x=>IN p1 l2 a2 (Jv p1 a1 m1) x=some r) (fun x=>[(0,vS a1),(1,Fo p1),(5,v2),(6,vI a2),(7,Fo x)]) (fun x=>AD 5 1 v2 G7 l2::H) ?_ (fun a3 D h=>?_)
 refine Y (J E (J E (CI E De E (V E BL (U ?_)))))
 refine AL h E (fun hc3 h=>?_) fun hc3 h=>?_
 refine AJ ?_
 refine AB h fun c1 hc1 h=>?_
 refine J E (J E (MG hc1 E De E E (O E (AT ?_))))
 exact Ak c1 h tL (A5 [0] 1 E E E)
 refine AH ?_
 exact Ak 0 h tL (A5 [0] 1 E E E)
 unfold IN at h
 try dsimp only
 refine AJ ?_
 refine AB h fun l3 hl3 h=>?_
 refine J E (J E (J E (V E Up ?_)))
 refine Ck [_] E DO LM MF ⟨E,zT⟩ E E E zX E E zU fun b1=>?_
 refine Cp G7 1 ([a3 ^^^ p1]:List UInt8) E zV E ?_
 refine EF 1 hl3 (sz:=1) (enc:=G7) zV E DO LM XV MF E zD E E E E (Ct (sz:=1) (enc:=G7) 0 zV E) (by simp[G7,Value.oneCell']) zU fun v3=>?_
 refine O E (AT (Ao (AI (AJ ?_))))
 obtain⟨i_1,ei_1,h⟩:=BG h
 refine J E (V E Aw ?_)
 refine AX (u:=vI i_1) E E (by rw[ei_1]) ?_
 refine AT ?_
 exact Am (m1,l3,v3,i_1) h (Nat.lt_succ_self _) tL (A5 [1] 2 E E E)
 refine Av (Ay (BP (A0 ?_)))
 exact Ak (l2,v2) h tL (A5 [0] 1 E E E)
 obtain⟨l1,v1⟩:=x
 dsimp only at h
 unfold Mb at h
 try dsimp only
 refine Y (J E (IQ 0 E DO Ej De E E (O E (U (AM ?_)))))
 obtain rfl:=zI h
 exact AW [] 1 E E E
def OQ(n:Nat)(T:List UInt32)(p0:List UInt8)(p1:List UInt8):Option (List (List UInt8)):=
 (LD n T p0 54).bind fun y1=>
 (Fp y1 p1).bind fun s1=>
 (LD n T p0 92).bind fun y2=>
 (KV n T s1).bind fun y3=>
 (Fp y2 y3).bind fun s2=>
 some [s1,s2]
theorem Ze{n:Nat}{T:List UInt32}{p0 p1:List UInt8}{r:List (List UInt8)}(h:OQ n T p0 p1=some r)(hT:Kl K w0 2 64 T):zC K w0 251 [vS p0,vS p1] [] H (fun u M=>∃v0:Value,u=v0∧M=[AD 9 1 v0 eS r]):=by
 unfold OQ at h
 refine Vf.enter Tryz.func251 rfl rfl ?_
 refine Y (Ci 9 1 eS (O E (U (Y ?_))))
 refine AB h fun y1 hy1 h=>?_
 refine AB h fun s1 hs1 h=>?_
 refine J E (AN 0 lA (VK hy1 hT) E (J E (V E (C3 hs1) (O E (U (Y ?_))))))
 refine AB h fun y2 hy2 h=>?_
 refine AB h fun y3 hy3 h=>?_
 refine AB h fun s2 hs2 h=>?_
 refine J E (J E (AN 0 lA (VK hy2 hT) E (J E (AN 0 dm (Sl hy3 hT) E (V E (C3 hs2) ?_)))))
 refine Ck [_,_] E F8 Is VD ⟨E,E,zT⟩ E E E zX E E zU fun b1=>?_
 refine Cp eS 1 ([s1,s2]:List (List UInt8)) E zV E ?_
 refine O E (U (AM ?_))
 obtain rfl:=zI h
 exact CC [0] 2 (D7 E E) E E ⟨(.slice (some ⟨b1,0,none⟩) 2 2),E,E⟩
def KY(n:Nat)(T:List UInt32)(p0:List UInt8)(p1:List UInt8):Option (List UInt8):=
 (OQ n T p0 p1).bind fun y1=>
 (A1 y1 1).bind fun x1=>
 (KV n T x1).bind fun y2=>
 some y2
theorem Wf{n:Nat}{T:List UInt32}{p0 p1 r:List UInt8}(h:KY n T p0 p1=some r)(hT:Kl K w0 2 64 T):zC K w0 217 [vS p0,vS p1] [] H (fun u M=>u=vS r∧M=[]):=by
 unfold KY at h
 refine Vf.enter Tryz.func217 rfl rfl ?_
 refine Y (O E (U (Y ?_)))
 refine AB h fun y1 hy1 h=>?_
 refine AB h fun x1 hx1 h=>?_
 refine AB h fun y2 hy2 h=>?_
 refine J E (J E ?_)
 refine Bx (vs:=[_,_]) (Hin:=[]) (Hr:=_) E E ⟨E,E,zT⟩ tU E E (Ze hy1 hT) ?_
 rintro v1 _ ⟨_,rfl,rfl⟩
 refine⟨trivial,?_⟩
 refine AZ 0 hx1 E F8 Is E E E fun g1 m1 cp1 hv1=>?_
 refine Aq E H9 E (AS (sz:=1) (enc:=eS) 0 0 zV E hv1 hx1 E) ?_
 refine AN 0 dm (Sl hy2 hT) E (O E (U (AM ?_)))
 obtain rfl:=zI h
 exact AW [] 1 E E E
def KW(p2:Int)(a1:List UInt8):Option (List UInt8×Int):=
 (KK a1 0 p2).bind fun s4=>
 some (s4,0)
def HR(n:Nat)(T:List UInt32)(p0:List UInt8)(p1:List UInt8)(p2:Int)(nx_f_ref03_Expand_l1:List UInt8×List UInt8×Int→Option (List UInt8×Int))(a2:List UInt8)(a3:List UInt8)(a4:Int):Option (List UInt8×Int):=
 cond (decide ((a2.length:Int)<p2))
 (
  (Fp a3 p1).bind fun s1=>
  (Fp s1 [KE a4]).bind fun s2=>
  (KY n T p0 s2).bind fun y1=>
  (Fp a2 y1).bind fun s3=>
  ret (wI (a4+1)) fun i_1=>
  nx_f_ref03_Expand_l1 (s3,y1,i_1))
 (
  KW p2 a2)
def KX(n:Nat)(T:List UInt32)(p0:List UInt8)(p1:List UInt8)(p2:Int):Nat→(List UInt8×List UInt8×Int)→Option (List UInt8×Int):=CH fun nx x=>HR n T p0 p1 p2 nx x.1 x.2.1 x.2.2
def I3(n:Nat)(T:List UInt32)(p0:List UInt8)(p1:List UInt8)(p2:Int):Option (List UInt8×Int):=
 cond ((decide (p2<0))||(decide (8160<p2)))
 (
  some ([],2))
 (
  KX n T p0 p1 p2 n ([],[],1))
theorem TS{n:Nat}{T:List UInt32}{p0 p1:List UInt8}{p2:Int}{r:List UInt8×Int}(h:I3 n T p0 p1 p2=some r)(hT:Kl K w0 2 64 T):zC K w0 249 [vS p0,vS p1,vI p2] [] H (fun u M=>u=.tuple #[vS r.1,vI r.2]∧M=[]):=by
 unfold I3 at h
 refine Vf.enter Tryz.func249 rfl rfl ?_
 refine Y (O E (O E (U (AE (Y (J E (V E BL (J E ?_))))))))
 refine GR (c:=decide (8160<p2)) 13 3 16 E (fun hb k=>?_) (fun hb k=>?_) ?_
 refine AA E (AA E (An E E E ?_))
 exact k.mono tL
 refine J E (V E C8 (An E E E ?_))
 exact k.mono tL
 refine U ?_
 refine AL h E (fun hc1 h=>?_) fun hc1 h=>?_
 refine Y (O E (O E (U (AM (Ag ?_)))))
 obtain rfl:=zI h
 exact AW [] 0 E E E
 refine AH (AI (Y (O E (U (Y (O E (U ?_)))))))
 refine Az (α:=List UInt8) (fun x=>KW p2 x=some r) (fun x=>[(2,vI p2),(8,vS x)]) (fun x=>H) ?_ (fun a1 D h=>?_)
 refine Y (O E (U (AK ?_)))
 refine SX.heap (SX.mono (A9 (α:=Nat×List UInt8×List UInt8×Int) (fun x=>KX n T p0 p1 p2 x.1 (x.2.1,x.2.2.1,x.2.2.2)=some r) (fun x=>[(0,vS p0),(1,vS p1),(2,vI p2),(8,vS x.2.1),(9,vS x.2.2.1),(10,vI x.2.2.2)]) (fun x=>H) (fun x=>x.1) (fun x D h=>?_) (n,[],[],1) h) tL) (A5 [] 0 E E E)
 obtain⟨m1,a2,a3,a4⟩:=x
 dsimp only at h
 rcases m1 with _ | m1
 cases (show(none:Option _)=some r from h)
 replace h:HR n T p0 p1 p2 (KX n T p0 p1 p2 m1) a2 a3 a4=some r:=h
 unfold HR at h
 try dsimp only
 refine AE (Y (J E (CI E De E (J E (V E BL (U ?_))))))
 refine AL h E (fun hc2 h=>?_) fun hc2 h=>?_
 refine AH (AI (AE (AK (Y ?_))))
 refine AB h fun s1 hs1 h=>?_
 refine AB h fun s2 hs2 h=>?_
 refine AB h fun y1 hy1 h=>?_
 refine J E (J E (J E (V E (C3 hs1) (J E (BZ E E (SY Jh Ej) ?_)))))
 refine Ck [_] E DO LM MF ⟨E,zT⟩ E E E zX E E zU fun b1=>?_
 refine Cp G7 1 ([KE a4]:List UInt8) E zV E ?_
 refine IQ 0 E DO Ej De E E (V E (C3 hs2) (AN 0 kq (Wf hy1 hT) E (O E (U (AJ ?_)))))
 refine AB h fun s3 hs3 h=>?_
 refine J E (J E (V E (C3 hs3) (O E (AT (Ao (AI (AJ ?_)))))))
 obtain⟨i_1,ei_1,h⟩:=BG h
 refine J E (V E Aw ?_)
 refine AX (u:=vI i_1) E E (by rw[ei_1]) ?_
 refine AT ?_
 exact Am (m1,s3,y1,i_1) h (Nat.lt_succ_self _) tL (A5 [] 1 E E E)
 refine Av (Ay (BP (A0 ?_)))
 exact Ak a2 h tL (A5 [] 0 E E E)
 unfold KW at h
 try dsimp only
 refine Y ?_
 refine AB h fun s4 hs4 h=>?_
 refine J E (J E (n7 hs4 E De E E (O E (O E (U (AM ?_))))))
 obtain rfl:=zI h
 exact AW [] 0 E E E
end

section
variable {K:Nat→Prop}{w0:World}{H:List Ab}
def LF(n:Nat)(T:List UInt32)(p0:Bf):Option (List UInt8×List UInt8×Int):=
 (If n [p0]).bind fun y1=>
 cond (!y1)
 (
  some ([],[],40))
 (
  (Fp [115,101,97,108] [p0.gen.toUInt8,(shr32 p0.gen 8).toUInt8,(shr32 p0.gen 16).toUInt8,(shr32 p0.gen 24).toUInt8]).bind fun s1=>
  (I3 n T p0.secret s1 32).bind fun y2=>
  (Fp [98,105,110,100] [p0.gen.toUInt8,(shr32 p0.gen 8).toUInt8,(shr32 p0.gen 16).toUInt8,(shr32 p0.gen 24).toUInt8]).bind fun s2=>
  (I3 n T p0.secret s2 32).bind fun y3=>
  some (y2.1,y3.1,0))
theorem VM{n:Nat}{T:List UInt32}{p0:Bf}{r:List UInt8×List UInt8×Int}(h:LF n T p0=some r)(hT:Kl K w0 2 64 T):zC K w0 216 [.agg (Ad p0).toArray] [] H (fun u M=>u=.tuple #[vS r.1,vS r.2.1,vI r.2.2]∧M=[]):=by
 unfold LF at h
 refine Vf.enter Tryz.func216 rfl rfl ?_
 refine Y ?_
 refine Bw E E zU fun b1=>?_
 refine O E (O E (O E (U (Y ?_))))
 refine AB h fun y1 hy1 h=>?_
 refine BA [AC p0.gen,vS p0.secret] E P6 E E (A2 0 E) ?_
 refine Ck [_] E IF It Ox ⟨E,zT⟩ E E E zX E E zU fun b2=>?_
 refine Cp Ad 2 ([p0]:List Bf) E zV E ?_
 refine Bx (vs:=[_]) (Hin:=[_]) (Hr:=_::_) E E ⟨E,zT⟩ jB E E (Dm (B:=[_]) (Hin:=[]) fun K' w1 hk hB=>Qg hy1 (C1 (e:=55) zV (hB _ zS))) ?_
 rintro _ _ ⟨_,rfl,rfl,rfl⟩
 refine⟨trivial,?_⟩
 refine O E (U (AE (Y (J E (CO E E (U ?_))))))
 refine AL h E (fun hc1 h=>?_) fun hc1 h=>?_
 refine Y (O E (O E (O E (U (AM (Ag ?_))))))
 obtain rfl:=zI h
 exact AW [] 2 E E E
 refine AH (AI (Y (AF E Iq (AG 1 Ah E (BZ E E (EM C6 Ej) (AF E Iq (AG 1 Ah E ?_)))))))
 refine V E (Gy.shr32 (n:=8)) ?_
 refine BZ E E (EM C6 Ej) (AF E Iq (AG 1 Ah E ?_))
 refine V E (Gy.shr32 (n:=16)) ?_
 refine BZ E E (EM C6 Ej) (AF E Iq (AG 1 Ah E ?_))
 refine V E (Gy.shr32 (n:=24)) ?_
 refine BZ E E (EM C6 Ej) ?_
 refine Ck [_,_,_,_] E DO LM MF ⟨E,E,E,E,zT⟩ E E E zX E E zU fun b3=>?_
 refine Cp G7 1 ([p0.gen.toUInt8,(shr32 p0.gen 8).toUInt8,(shr32 p0.gen 16).toUInt8,(shr32 p0.gen 24).toUInt8]:List UInt8) E zV E ?_
 refine IQ 0 E DO Ej De E E (O E (U (Y ?_)))
 refine AB h fun s1 hs1 h=>?_
 refine AB h fun y2 hy2 h=>?_
 refine AF E U0 (AG 2 H9 E (J E (V E (C3 hs1) (AN 0 ky (TS hy2 hT) E (J E (Ap E E E (Ap E E E ?_)))))))
 refine O E (O E (U (Y ?_)))
 refine AB h fun s2 hs2 h=>?_
 refine AB h fun y3 hy3 h=>?_
 refine AF E U0 (AG 2 H9 E (J E (V E (C3 hs2) (AN 0 ky (TS hy3 hT) E (J E (Ap E E E (Ap E E E ?_)))))))
 refine O E (O E (U (Y (J E (J E (O E (O E (O E (U (AM ?_))))))))))
 obtain rfl:=zI h
 exact AW [] 3 E E E
def NY(a1:List UInt8):Option (List UInt8×Int):=
 some (a1,0)
def JM(nx_f_ref05_Pad_l1:List UInt8→Option (List UInt8×Int))(a2:List UInt8):Option (List UInt8×Int):=
 cond (decide ((a2.length:Int)<200))
 (
  (Fp a2 [0]).bind fun s2=>
  nx_f_ref05_Pad_l1 s2)
 (
  NY a2)
def NZ:Nat→List UInt8→Option (List UInt8×Int):=CH fun nx x=>JM  nx x
def OR(n:Nat)(p0:List UInt8):Option (List UInt8×Int):=
 cond (decide (198<(p0.length:Int)))
 (
  some ([],50))
 (
  (K0 (p0.length:Int) 256).bind fun q1=>
  (Va (p0.length:Int) 256).bind fun q2=>
  (Fp [KE q1,KE q2] p0).bind fun s1=>
  NZ n s1)
theorem dH{n:Nat}{p0:List UInt8}{r:List UInt8×Int}(h:OR n p0=some r): zC K w0 214 [vS p0] [] H (fun u M=>u=.tuple #[vS r.1,vI r.2]∧M=[]):=by
 unfold OR at h
 refine Vf.enter Tryz.func214 rfl rfl ?_
 refine Y (O E (O E (U (AE (Y (J E (CI E De E (V E C8 (U ?_)))))))))
 refine AL h E (fun hc1 h=>?_) fun hc1 h=>?_
 refine Y (O E (O E (U (AM (Ag ?_)))))
 obtain rfl:=zI h
 exact AW [] 0 E E E
 refine AH (AI (Y ?_))
 refine AB h fun q1 hq1 h=>?_
 refine AB h fun q2 hq2 h=>?_
 refine AB h fun s1 hs1 h=>?_
 refine J E (CI E De E (V E (K6 hq1) (BZ E E (SY Jh Ej) (J E (CI E De E (V E (Uo hq2) (BZ E E (SY Jh Ej) ?_)))))))
 refine Ck [_,_] E DO LM MF ⟨E,E,zT⟩ E E E zX E E zU fun b1=>?_
 refine Cp G7 1 ([KE q1,KE q2]:List UInt8) E zV E ?_
 refine IQ 0 E DO Ej De E E (J E (V E (C3 hs1) (O E (U ?_))))
 refine Az (α:=List UInt8) (fun x=>NY x=some r) (fun x=>[(4,vS x)]) (fun x=>H) ?_ (fun a1 D h=>?_)
 refine AK ?_
 refine SX.heap (SX.mono (A9 (α:=Nat×List UInt8) (fun x=>NZ x.1 x.2=some r) (fun x=>[(4,vS x.2)]) (fun x=>H) (fun x=>x.1) (fun x D h=>?_) (n,s1) h) tL) (A5 [] 1 E E E)
 obtain⟨m1,a2⟩:=x
 dsimp only at h
 rcases m1 with _ | m1
 cases (show(none:Option _)=some r from h)
 replace h:JM (NZ m1) a2=some r:=h
 unfold JM at h
 try dsimp only
 refine AE (Y (J E (CI E De E (V E BL (U ?_)))))
 refine AL h E (fun hc2 h=>?_) fun hc2 h=>?_
 refine AH (AI (AK (AJ ?_)))
 refine AB h fun s2 hs2 h=>?_
 refine J E (V E (C3 hs2) (O E (AT (Ao ?_))))
 exact Am (m1,s2) h (Nat.lt_succ_self _) tL (A5 [] 0 E E E)
 refine Av (Ay (BP (A0 ?_)))
 exact Ak a2 h tL (A5 [] 0 E E E)
 unfold NY at h
 try dsimp only
 refine Y (J E (O E (O E (U (AM ?_)))))
 obtain rfl:=zI h
 exact AW [] 0 E E E
def Na(a1:List UInt8):Option (List UInt8):=
 some a1
def JN(p1:Int)(nx_f_ref06_put_l1:UInt64×List UInt8×Int→Option (List UInt8))(a2:UInt64)(a3:List UInt8)(a4:Int):Option (List UInt8):=
 cond (decide (a4<p1))
 (
  (Fp a3 [a2.toUInt8]).bind fun s1=>
  (TF a2 256).bind fun q1=>
  ret (wI (a4+1)) fun i_1=>
  nx_f_ref06_put_l1 (q1,s1,i_1))
 (
  Na a3)
def Nb(p1:Int):Nat→(UInt64×List UInt8×Int)→Option (List UInt8):=CH fun nx x=>JN p1 nx x.1 x.2.1 x.2.2
def FW(n:Nat)(p0:UInt64)(p1:Int):Option (List UInt8):=
 Nb p1 n (p0,[],0)
theorem MN{n:Nat}{p0:UInt64}{p1:Int}{r:List UInt8}(h:FW n p0 p1=some r): zC K w0 268 [Bh p0,vI p1] [] H (fun u M=>u=vS r∧M=[]):=by
 unfold FW at h
 refine Vf.enter Tryz.func268 rfl rfl ?_
 refine Y (O E (U (Y (O E (U ?_)))))
 refine Az (α:=List UInt8) (fun x=>Na x=some r) (fun x=>[(5,vS x)]) (fun x=>H) ?_ (fun a1 D h=>?_)
 refine Y (O E (U (AK ?_)))
 refine SX.heap (SX.mono (A9 (α:=Nat×UInt64×List UInt8×Int) (fun x=>Nb p1 x.1 (x.2.1,x.2.2.1,x.2.2.2)=some r) (fun x=>[(0,Bh x.2.1),(1,vI p1),(5,vS x.2.2.1),(6,vI x.2.2.2)]) (fun x=>H) (fun x=>x.1) (fun x D h=>?_) (n,p0,[],0) h) tL) (A5 [] 0 E E E)
 obtain⟨m1,a2,a3,a4⟩:=x
 dsimp only at h
 rcases m1 with _ | m1
 cases (show(none:Option _)=some r from h)
 replace h:JN p1 (Nb p1 m1) a2 a3 a4=some r:=h
 unfold JN at h
 try dsimp only
 refine AE (Y (J E (J E (V E BL (U ?_)))))
 refine AL h E (fun hc1 h=>?_) fun hc1 h=>?_
 refine AH (AI (AE (AK (Y ?_))))
 refine AB h fun s1 hs1 h=>?_
 refine J E (J E (BZ E E (Gt En Ej) ?_))
 refine Ck [_] E DO LM MF ⟨E,zT⟩ E E E zX E E zU fun b1=>?_
 refine Cp G7 1 ([a2.toUInt8]:List UInt8) E zV E ?_
 refine IQ 0 E DO Ej De E E (V E (C3 hs1) (O E (U (AJ ?_))))
 refine AB h fun q1 hq1 h=>?_
 refine J E ?_
 refine V E (RD (b:=256) hq1) ?_
 refine O E (AT (Ao (AI (AJ ?_))))
 obtain⟨i_1,ei_1,h⟩:=BG h
 refine J E (V E Aw ?_)
 refine AX (u:=vI i_1) E E (by rw[ei_1]) ?_
 refine AT ?_
 exact Am (m1,q1,s1,i_1) h (Nat.lt_succ_self _) tL (A5 [] 1 E E E)
 refine Av (Ay (BP (A0 ?_)))
 exact Ak a3 h tL (A5 [] 0 E E E)
 unfold Na at h
 try dsimp only
 refine Y (J E (O E (U (AM ?_))))
 obtain rfl:=zI h
 exact AW [] 0 E E E
def OS(n:Nat)(p0:EY):Option (List UInt8):=
 (FW n p0.page.toUInt64 4).bind fun y1=>
 (FW n p0.gen.toUInt64 4).bind fun y2=>
 (Fp y1 y2).bind fun s1=>
 (FW n p0.boot.toUInt64 4).bind fun y3=>
 (Fp s1 y3).bind fun s2=>
 (FW n p0.seq 8).bind fun y4=>
 (Fp s2 y4).bind fun s3=>
 (Fp s3 [0,0,0,0]).bind fun s4=>
 some s4
theorem dI{n:Nat}{p0:EY}{r:List UInt8}(h:OS n p0=some r): zC K w0 248 [.agg (Lg p0).toArray] [] H (fun u M=>u=vS r∧M=[]):=by
 unfold OS at h
 refine Vf.enter Tryz.func248 rfl rfl ?_
 refine Y ?_
 refine Bw E E zU fun b1=>?_
 refine O E (U (AE ?_))
 refine AB h fun y1 hy1 h=>?_
 refine AB h fun y2 hy2 h=>?_
 refine AB h fun s1 hs1 h=>?_
 refine AB h fun y3 hy3 h=>?_
 refine AB h fun s2 hs2 h=>?_
 refine AB h fun y4 hy4 h=>?_
 refine AB h fun s3 hs3 h=>?_
 refine AB h fun s4 hs4 h=>?_
 refine Ai C2 [0] (BJ [(true,0),(true,1),(true,2),(true,4),(true,5),(true,6),(true,9),(true,10),(true,11),(true,14),(true,15),(false,3),(false,7),(true,8),(false,12),(true,13),(false,16)] (.last 17 (C0 [(false,18),(false,19)]))) zK (AF E gc (AG 0 Ah E (BZ E E (D9 C6 En) (AF E W5 (AG 0 Ah E (BZ E E (D9 C6 En) (AF E aC ?_)))))))
 refine AG 0 Ah E (BZ E E (D9 C6 En) (AF E aD (AG 0 Il E (BT 0 Uy (MN hy1) E ⟨⟨0,E⟩,zT⟩ (BT 0 Uy (MN hy2) E ⟨⟨0,E⟩,zT⟩ (V E (C3 hs1) (BT 0 Uy (MN hy3) E ⟨⟨0,E⟩,zT⟩ ?_)))))))
 refine V E (C3 hs2) (BT 0 Uy (MN hy4) E ⟨⟨0,E⟩,zT⟩ (A4 (V E (C3 hs3) (V E (C3 hs4) (O E (U (AM ?_)))))))
 obtain rfl:=zI h
 exact AW [] 1 E E E
def Lp(n:Nat)(p0:EY):Option (List UInt8):=
 (FW n p0.boot.toUInt64 4).bind fun y1=>
 (FW n p0.seq 8).bind fun y2=>
 (Fp y1 y2).bind fun s1=>
 some s1
theorem Zg{n:Nat}{p0:EY}{r:List UInt8}(h:Lp n p0=some r): zC K w0 247 [.agg (Lg p0).toArray] [] H (fun u M=>u=vS r∧M=[]):=by
 unfold Lp at h
 refine Vf.enter Tryz.func247 rfl rfl ?_
 refine Y ?_
 refine Bw E E zU fun b1=>?_
 refine O E (U (AE ?_))
 refine AB h fun y1 hy1 h=>?_
 refine AB h fun y2 hy2 h=>?_
 refine AB h fun s1 hs1 h=>?_
 refine Ai C2 [0] (BJ [(true,0),(true,1),(true,2),(true,4),(true,5),(false,3)] (.last 6 (C0 [(false,7),(false,8)]))) zK (AF E aC (AG 0 Ah E (BZ E E (D9 C6 En) (AF E aD (AG 0 Il E (BT 0 Uy (MN hy1) E ⟨⟨0,E⟩,zT⟩ (A4 (AN 0 Uy (MN hy2) E ?_))))))))
 refine V E (C3 hs1) (O E (U (AM ?_)))
 obtain rfl:=zI h
 exact AW [] 1 E E E
def Lo(n:Nat)(T:List UInt32)(p0:Bf)(p1:EY)(p2:List UInt8):Option (List UInt8):=
 (LF n T p0).bind fun y1=>
 (Lp n p1).bind fun y2=>
 (OO n y1.1 y2 p2).bind fun y3=>
 (OS n p1).bind fun y4=>
 (Fp y4 y3.1).bind fun s1=>
 some s1
theorem Zf{n:Nat}{T:List UInt32}{p0:Bf}{p1:EY}{p2 r:List UInt8}(h:Lo n T p0 p1 p2=some r)(hT:Kl K w0 2 64 T):zC K w0 215 [.agg (Ad p0).toArray,.agg (Lg p1).toArray,vS p2] [] H (fun u M=>u=vS r∧M=[]):=by
 unfold Lo at h
 refine Vf.enter Tryz.func215 rfl rfl ?_
 refine Y ?_
 refine Bw E E zU fun b1=>?_
 refine Bw E E zU fun b2=>?_
 refine O E (U (Y ?_))
 refine AB h fun y1 hy1 h=>?_
 refine BA [AC p0.gen,vS p0.secret] E P6 E E (A2 1 E) (AN 0 kp (VM hy1 hT) E (J E (Ap E E E (Ap E E E (Ap E E E (O E (O E ?_)))))))
 refine O E (U (Y ?_))
 refine AB h fun y2 hy2 h=>?_
 refine AB h fun y3 hy3 h=>?_
 refine J E (BA [AC p1.page,AC p1.gen,AC p1.boot,Bh p1.seq] E Vj E E (A2 0 E) (AN 0 tS (Zg hy2) E (J E (AN 0 tR (dG hy3) E (J E (Ap E E E (Ap E E E ?_)))))))
 refine O E (O E (U (Y ?_)))
 refine AB h fun y4 hy4 h=>?_
 refine AB h fun s1 hs1 h=>?_
 refine BA [AC p1.page,AC p1.gen,AC p1.boot,Bh p1.seq] E Vj E E (A2 0 E) (AN 0 tT (dI hy4) E (J E (V E (C3 hs1) (O E (U (AM ?_))))))
 obtain rfl:=zI h
 exact AW [] 2 E E E
def M8(n:Nat)(T:List UInt32)(p0:List Bf)(p1:EY)(p2:List UInt8):Option (List UInt8×Int):=
 (LE n p0 p1.gen).bind fun y1=>
 cond (!decide (y1.2=0))
 (
  some ([],y1.2))
 (
  (OR n p2).bind fun y2=>
  cond (!decide (y2.2=0))
  (
   some ([],y2.2))
  (
   (Lo n T y1.1 p1 y2.1).bind fun y3=>
   (LF n T y1.1).bind fun y4=>
   (KY n T y4.2.1 y3).bind fun y5=>
   (Fp y3 y5).bind fun s1=>
   some (s1,0)))
theorem bH{n:Nat}{T:List UInt32}{BW:Value}{p0:List Bf}{p1:EY}{p2:List UInt8}{r:List UInt8×Int}(h:M8 n T p0 p1 p2=some r)(hT:Kl K w0 2 64 T)(hs0_:CR K w0 Ad 2 BW p0):zC K w0 188 [BW,.agg (Lg p1).toArray,vS p2] [] H (fun u M=>u=.tuple #[vS r.1,vI r.2]∧M=[]):=by
 unfold M8 at h
 refine Vf.enter Tryz.func188 rfl rfl ?_
 refine Y ?_
 refine Bw E E zU fun b1=>?_
 refine O E (O E (U (Y ?_)))
 refine AB h fun y1 hy1 h=>?_
 refine J E (AF E W5 (AG 0 Ah E (AN 0 oz (VL hy1 hs0_) E (J E (Ap E E E (Ap E E E ?_))))))
 refine A6 E Ox zU fun b2=>?_
 refine BN 0 E E E E It E E E zT (O E (U (AE (Y (J E (V E Bg (U ?_)))))))
 refine AL h E (fun hc1 h=>?_) fun hc1 h=>?_
 refine Y (J E (O E (O E (U (AM (Ag ?_))))))
 obtain rfl:=zI h
 exact AW [] 2 E E E
 refine AH (AI (Y ?_))
 refine AB h fun y2 hy2 h=>?_
 refine J E (AN 0 sw (dH hy2) E (J E (Ap E E E (Ap E E E (O E (O E (U (AE (Y (J E ?_))))))))))
 refine V E Bg (U ?_)
 refine AL h E (fun hc2 h=>?_) fun hc2 h=>?_
 refine Y (J E (O E (O E (U (AM (Ag ?_))))))
 obtain rfl:=zI h
 exact AW [] 2 E E E
 refine AH (AI (Y ?_))
 refine AB h fun y3 hy3 h=>?_
 refine BA [AC y1.1.gen,vS y1.1.secret] E P6 E E (A2 0 E) (BA [AC p1.page,AC p1.gen,AC p1.boot,Bh p1.seq] E Vj E E (A2 1 E) (J E (AN 0 sx (Zf hy3 hT) E (O E (U (Y ?_))))))
 refine AB h fun y4 hy4 h=>?_
 refine BA [AC y1.1.gen,vS y1.1.secret] E P6 E E (A2 0 E) (AN 0 kp (VM hy4 hT) E (J E (Ap E E E (Ap E E E (Ap E E E (O E (O E ?_)))))))
 refine O E (U (Y ?_))
 refine AB h fun y5 hy5 h=>?_
 refine AB h fun s1 hs1 h=>?_
 refine J E (J E (J E (AN 0 kq (Wf hy5 hT) E (V E (C3 hs1) (O E (O E (U (AM ?_))))))))
 obtain rfl:=zI h
 exact AW [] 2 E E E
end

section
variable {P:Program}{ro:Option Nat}{K:Nat→Prop}{w0:World}{N:Nat}{Q:Eg}{D:List Nat}{l l':Tm}{H H' Hs L:List Ab}{ops:Array Oper}{items:I5}
variable {tk:Bool}{o:Oper}{t:Nat}{v:Value}{x y z:Operand}
theorem bc{α:Type}{enc:α→List Value}{sz b off cap q:Nat}{xs:List α}(hl:∀x,(enc x).length=sz)(hcap:xs.length≤cap)(hc:∀j u,(xs.flatMap enc)[j]? = some u→K b∧w0.cell? ⟨b,off+j,none⟩=some u)(hq:q≤xs.length):CR K w0 enc sz (.slice (some ⟨b,off+q*sz,none⟩) (xs.length-q) (cap-q)) (xs.drop q):=by
 refine⟨hl,.inr ⟨b,off+q*sz,cap-q,by simp,by simp;omega,fun j u hu=>?_⟩⟩
 have hpre:(xs.take q).flatMap enc++(xs.drop q).flatMap enc=xs.flatMap enc:=by
  rw[←List.flatMap_append,List.take_append_drop]
 have hlen:((xs.take q).flatMap enc).length=q*sz:=by rw[Kd hl,List.length_take,Nat.min_eq_left hq]
 have:=hc (q*sz+j) u (by
  rw[←hpre,List.getElem?_append_right zO,hlen,Nat.add_sub_cancel_left]
  exact hu)
 rw[Nat.add_assoc]
 exact this
theorem fx{α:Type}{enc:α→List Value}{sz:Nat}{xs us:List α}{k:IntKind}{j:Int}{ty e:TypeId}(hn:KK xs j (xs.length:Int)=some us)(hk:CR K w0 enc sz v xs)(ho:At ops N l o t (.slice ty x (some z) none none))(hty:P.underlying ty=some (.slice e))(hsz:Ee P e=some sz)(hx:B4 l x=some v)(hz:B4 l z=some (.int k j))
(h:∀v',CR K w0 enc sz v' us→SL P ro K w0 N ops Hs items Q D ((t,v')::l) H):SL P ro K w0 N ops Hs (.cons (tk,o) items) Q D l H:=by
 obtain⟨h1,h2,h3,h4,rfl⟩:=PM hn
 have e2:(xs.drop j.toNat).take ((xs.length:Int).toNat-j.toNat)=xs.drop j.toNat:=List.take_of_length_le zS
 rw[e2]at h
 generalize j.toNat=q at*
 subst h1
 simp only[Int.toNat_natCast]at h3
 rcases hk.at_ with⟨a0,rfl,rfl⟩ | ⟨b,off,cap,rfl,hcap,hc⟩
 have hq:q=0:=by simpa using h3
 subst hq
 refine SL.val (v:=.slice a0 0 0) ho E (fun a w ha _=>?_) (h _ ⟨hk.len,.inl ⟨_,E,by simp⟩⟩)
 simp only[execOp,ho.op,Instr.sliceAt,Instr.slice,Option.map]
 cases a0<;>simp[ha.eval hx,ha.eval hz,A8 hty,Dc hsz,Instr.sliceBounds,Instr.sliceBound,asIntOf]
 by_cases hqc:q<cap
 exact ZI q ho hty hsz hx hz E h3 hqc (h _ (bc hk.len hcap hc h3))
 have hqe:q=xs.length:=zO
 have hce:cap=xs.length:=zO
 subst hqe hce
 refine SL.val (v:=.slice (some ⟨b,off,none⟩) 0 0) ho E (fun a w ha _=>?_) (h _ ⟨hk.len,.inl ⟨_,E,by simp⟩⟩)
 simp only[execOp,ho.op,Instr.sliceAt,Instr.slice,Option.map]
 simp[ha.eval hx,ha.eval hz,A8 hty,Dc hsz,Instr.sliceBounds,Instr.sliceBound,asIntOf,Dd]
end

section
variable {K:Nat→Prop}{w0:World}{H:List Ab}
def KZ(p0:BM)(p1:UInt32):Option Bool:=
 ret (decide (p1.toUInt64<DJ (p0.blk.length:Int))) fun x1=>
 some x1
theorem Vn{A7:Nat}{BF Aj BK:Value}{p0:BM}{p1:UInt32}{r:Bool}(h:KZ p0 p1=some r): zC K w0 218 [vP A7 0,AC p1] [eO A7 BF Aj BK p0,AD 9 1 BF eS p0.blk,AD 9 1 Aj eS p0.pnd,AD 4 1 BK eB p0.bads] H (fun u M=>u=vB r∧M=[eO A7 BF Aj BK p0,AD 9 1 BF eS p0.blk,AD 9 1 Aj eS p0.pnd,AD 4 1 BK eB p0.bads]):=by
 unfold KZ at h
 refine Vf.enter Tryz.func218 rfl rfl ?_
 refine Y (O E (U (Y ?_)))
 obtain⟨x1,ex1,h⟩:=BG h
 refine J E (BZ E E (D9 C6 En) (J E (AV E E (AF E SK (AG 0 RY E (FJ 1 E F8 E E (BZ E E (Ff Jh En) ?_)))))))
 refine V E bV ?_
 refine AX (u:=vB x1) E E (congrArg vB ex1) ?_
 refine U (AM ?_)
 obtain rfl:=zI h
 exact AW [0,1,2,3] 4 E E E
def Ip(o2:BM):Option (Int×BM):=
 some (0,o2)
def G9(o1:BM):Option (Int×BM):=
 cond o1.off
 (
  some (71,o1))
 (
  cond (decide (0<o1.left))
  (
   Ip ({ o1 with left:=wI (o1.left-1) }))
  (
   Ip o1))
def FG(p0:BM):Option (Int×BM):=
 cond (decide (p0.left=0))
 (
  G9 ({ p0 with off:=true }))
 (
  G9 p0)
theorem KN{A7:Nat}{BF Aj BK:Value}{p0:BM}{r:Int×BM}(h:FG p0=some r): zC K w0 87 [vP A7 0] [eO A7 BF Aj BK p0,AD 9 1 BF eS p0.blk,AD 9 1 Aj eS p0.pnd,AD 4 1 BK eB p0.bads] H (fun u M=>u=vI r.1∧M=[eO A7 BF Aj BK r.2,AD 9 1 BF eS r.2.blk,AD 9 1 Aj eS r.2.pnd,AD 4 1 BK eB r.2.bads]):=by
 unfold FG at h
 refine Vf.enter Tryz.func87 rfl rfl ?_
 refine Y (O E (U ?_))
 refine Az (α:=BM) (fun x=>G9 x=some r) (fun x=>[(0,vP A7 0)]) (fun x=>eO A7 BF Aj BK x::AD 9 1 BF eS x.blk::AD 9 1 Aj eS x.pnd::AD 4 1 BK eB x.bads::H) ?_ (fun o1 D h=>?_)
 refine Y (J E (AV E E (AF E Wz (AG 0 Gi E (V E Bv (U ?_))))))
 refine AL h E (fun hc1 h=>?_) fun hc1 h=>?_
 refine AJ (J E (AV E E (AF E gY (BN 0 E E E E Ti E E E zT (AT ?_)))))
 exact Ak ({ p0 with off:=true }) h tL (A5 [0,1,2,3] 4 rfl rfl rfl)
 refine AH ?_
 exact Ak p0 h tL (A5 [0,1,2,3] 4 E E E)
 unfold G9 at h
 try dsimp only
 refine AE (Y (J E (AV E E (AF E gY (AG 0 Xu E (U ?_))))))
 refine AL h E (fun hc2 h=>?_) fun hc2 h=>?_
 refine Y (O E (U (AM (Ag ?_))))
 obtain rfl:=zI h
 exact AW [0,1,2,3] 4 E E E
 refine AH (AI ?_)
 refine Az (α:=BM) (fun x=>Ip x=some r) (fun x=>[(0,vP A7 0)]) (fun x=>eO A7 BF Aj BK x::AD 9 1 BF eS x.blk::AD 9 1 Aj eS x.pnd::AD 4 1 BK eB x.bads::H) ?_ (fun o2 D h=>?_)
 refine Y (J E (AV E E (AF E Wz (AG 0 Gi E (V E C8 (U ?_))))))
 refine AL h E (fun hc3 h=>?_) fun hc3 h=>?_
 refine AJ (J E (AV E E (AF E Wz (AG 0 Gi E (V E BC (AV E E (AF E Wz (BN 0 E E E E QP E E E zT (AT ?_)))))))))
 exact Ak ({ o1 with left:=wI (o1.left-1) }) h tL (A5 [0,1,2,3] 4 rfl rfl rfl)
 refine AH ?_
 exact Ak o1 h tL (A5 [0,1,2,3] 4 E E E)
 unfold Ip at h
 try dsimp only
 refine Y (O E (U (AM ?_)))
 obtain rfl:=zI h
 exact AW [0,1,2,3] 4 E E E
def HK(y2:Int×BM)(o1:BM):Option (Int×BM):=
 some (y2.1,o1)
def GF(p0:BM)(p1:UInt32)(p2:List UInt8):Option (Int×BM):=
 (KZ p0 p1).bind fun y1=>
 cond ((!y1)||(!decide ((p2.length:Int)=256)))
 (
  some (2,p0))
 (
  (FG p0).bind fun y2=>
  cond (decide (y2.1=0))
  (
   (A1 y2.2.pnd (p1.toNat:Int)).bind fun x1=>
   (FX y2.2.pnd (p1.toNat:Int) p2).bind fun l1=>
   HK y2 ({ y2.2 with pnd:=l1 }))
  (
   HK y2 y2.2))
theorem Te{A7:Nat}{BF Aj BK:Value}{p0:BM}{p1:UInt32}{p2:List UInt8}{r:Int×BM}(h:GF p0 p1 p2=some r): zC K w0 189 [vP A7 0,AC p1,vS p2] [eO A7 BF Aj BK p0,AD 9 1 BF eS p0.blk,AD 9 1 Aj eS p0.pnd,AD 4 1 BK eB p0.bads] H (fun u M=>u=vI r.1∧M=[eO A7 BF Aj BK r.2,AD 9 1 BF eS r.2.blk,AD 9 1 Aj eS r.2.pnd,AD 4 1 BK eB r.2.bads]):=by
 unfold GF at h
 refine Vf.enter Tryz.func189 rfl rfl ?_
 refine Y (O E (U (AE (Y ?_))))
 refine AB h fun y1 hy1 h=>?_
 refine J E (J E (AN 4 sy (Vn hy1) E (CO E E (J E ?_))))
 refine GR (c := !decide ((p2.length:Int)=256)) 12 4 16 E (fun hb k=>?_) (fun hb k=>?_) ?_
 refine AA E (AA E (AA E (An E E E ?_)))
 exact k.mono tL
 refine J E (CI E De E (V E Bg (An E E E ?_)))
 exact k.mono tL
 refine U ?_
 refine AL h E (fun hc1 h=>?_) fun hc1 h=>?_
 refine Y (O E (U (AM (Ag ?_))))
 obtain rfl:=zI h
 exact AW [0,1,2,3] 4 E E E
 refine AH (AI (Y ?_))
 refine AB h fun y2 hy2 h=>?_
 refine J E (AN 4 du (KN hy2) E (O E (U ?_)))
 refine Az (α:=BM) (fun x=>HK y2 x=some r) (fun x=>[(0,vP A7 0),(7,vI y2.1)]) (fun x=>eO A7 BF Aj BK x::AD 9 1 BF eS x.blk::AD 9 1 Aj eS x.pnd::AD 4 1 BK eB x.bads::H) ?_ (fun o1 D h=>?_)
 refine Y (J E (V E Bv (U ?_)))
 refine AL h E (fun hc2 h=>?_) fun hc2 h=>?_
 refine AJ ?_
 refine AB h fun x1 hx1 h=>?_
 refine AB h fun l1 hl1 h=>?_
 refine J E (AV E E (AF E SM (AG 0 RY E (J E (J E ?_)))))
 refine AZ 2 hx1 E F8 Is E E E fun g1 m1 cp1 hv1=>?_
 refine BB (sz:=1) (enc:=eS) 2 hl1 zV rfl rfl rfl rfl rfl hv1 Is (by first | (simp[Value.oneCell'];done) | simp[eS,Value.oneCell']) trivial ?_
 refine AT ?_
 exact Ak ({ y2.2 with pnd:=l1 }) h tL (A5 [0,1,2,3] 4 rfl rfl rfl)
 refine AH ?_
 exact Ak y2.2 h tL (A5 [0,1,2,3] 4 E E E)
 unfold HK at h
 try dsimp only
 refine Y (J E (O E (U (AM ?_))))
 obtain rfl:=zI h
 exact AW [0,1,2,3] 4 E E E
def Gc(n:Nat)(T:List UInt32)(p0:Bt)(p0_1:BM)(p1:UInt32)(p2:List UInt8):Option (List UInt8×Int×Bt×BM):=
 (M8 n T p0.ring (⟨p1,p0.gen,p0.boot,p0.num⟩:EY) p2).bind fun y1=>
 cond (!decide (y1.2=0))
 (
  some ([],y1.2,p0,p0_1))
 (
  (GF p0_1 p1 y1.1).bind fun y2=>
  cond (!decide (y2.1=0))
  (
   some ([],y2.1,{ p0 with num:=p0.num+1 },y2.2))
  (
   (KK y1.1 224 (y1.1.length:Int)).bind fun s1=>
   some (s1,0,{ p0 with num:=p0.num+1 },y2.2)))
theorem Pc{n A7 Bb:Nat}{T:List UInt32}{Aj Bs FM Bu FN:Value}{p0:Bt}{p0_1:BM}{p1:UInt32}{p2:List UInt8}{r:List UInt8×Int×Bt×BM}(h:Gc n T p0 p0_1 p1 p2=some r)(hT:Kl K w0 2 64 T):zC K w0 163 [vP A7 0,AC p1,vS p2] [wO A7 Bb Aj Bs p0,AD 55 2 Aj Ad p0.ring,AD 4 1 Bs eB p0.taken,eO Bb FM Bu FN p0_1,AD 9 1 FM eS p0_1.blk,AD 9 1 Bu eS p0_1.pnd,AD 4 1 FN eB p0_1.bads] H (fun u M=>u=.tuple #[vS r.1,vI r.2.1]∧M=[wO A7 Bb Aj Bs r.2.2.1,AD 55 2 Aj Ad r.2.2.1.ring,AD 4 1 Bs eB r.2.2.1.taken,eO Bb FM Bu FN r.2.2.2,AD 9 1 FM eS r.2.2.2.blk,AD 9 1 Bu eS r.2.2.2.pnd,AD 4 1 FN eB r.2.2.2.bads]):=by
 unfold Gc at h
 refine Vf.enter Tryz.func163 rfl rfl ?_
 refine Y (O E (O E (U (AE ?_))))
 refine AB h fun y1 hy1 h=>?_
 refine Ai C2 [0] (BJ [(true,0),(true,1),(true,2),(true,3),(true,4),(true,5),(true,6),(true,7),(true,8),(true,9),(true,10),(true,11),(true,12),(true,13),(true,14),(true,15),(true,16),(true,17),(true,18),(false,19),(false,20),(true,21),(true,22),(false,23)] (.last 24 .nil)) zK (J E (AV E E (AF E pP (AG 0 qN E (J E (J E (AV E E ?_)))))))
 refine AF E Z6 (AG 0 Ah E (J E (AV E E (AF E pQ (AG 0 Ah E (J E (AV E E ?_)))))))
 refine AF E Z7 (AG 0 Il E (Cf [_,_,_,_] E qA pz kC ⟨E,E,E,E,zT⟩ E (J E (SL.pick [1,0] 2 ?_))))
 refine Bx (vs:=[_,_,_]) (Hin:=[_]) (Hr:=_::_::_::_::_::_::_) E E ⟨E,E,E,zT⟩ sY E E (Dm (B:=[_]) (Hin:=[]) fun K' w1 hk hB=>(bH hy1 (hT.keeps hk) (C1 (e:=55) (v:=Aj) zV (hB _ zS)) :)) ?_
 rintro _ _ ⟨_,rfl,rfl,rfl⟩
 refine⟨⟨⟨1,rfl⟩,trivial⟩,?_⟩
 refine J E (Ap E E E (Ap E E E (O E (A4 (O E (U (AE (Y (J E (V E Bg (U ?_)))))))))))
 refine AL h E (fun hc1 h=>?_) fun hc1 h=>?_
 refine Y (J E (O E (O E (U (AM (Ag ?_))))))
 obtain rfl:=zI h
 exact AW [1,0,2,3,4,5,6] 7 E E E
 refine AH (AI (Y (J E (AV E E (AF E Z7 (AG 1 Il E ?_))))))
 refine V E (JU (b:=1)) ?_
 refine AV E E (AF E Z7 (BN 1 E E E E lk E E E zT (U (Y ?_))))
 refine AB h fun y2 hy2 h=>?_
 refine J E (AV E E (AF E Qt (AG 1 af E (J E (J E (SL.pick [3,4,5,6,0,1,2] 7 (AN 4 sZ (Te hy2) E ?_)))))))
 refine O E (U (AE (Y (J E (V E Bg (U ?_))))))
 refine AL h E (fun hc2 h=>?_) fun hc2 h=>?_
 refine Y (J E (O E (O E (U (AM (Ag ?_))))))
 obtain rfl:=zI h
 exact AW [5,4,6,0,1,2,3] 7 E E E
 refine AH (AI (Y ?_))
 refine AB h fun s1 hs1 h=>?_
 refine J E (n8 hs1 E De E E (O E (O E (U (AM ?_)))))
 obtain rfl:=zI h
 exact AW [5,4,6,0,1,2,3] 7 E E E
def Jw(o1:Bt)(o2:BM)(y1:UInt32)(y2:List UInt8):Option (Bo×Int×Bt×BM):=
 some ((⟨0,[]⟩:Bo),110,o1,o2)
def Fz(n:Nat)(T:List UInt32)(p1:List UInt8)(nx_f_ref13_Vault_Write_l1:Bt×BM×UInt32×List UInt8×Int→Option (Bo×Int×Bt×BM))(o3:Bt)(o4:BM)(y3:UInt32)(y4:List UInt8)(a1:Int):Option (Bo×Int×Bt×BM):=
 cond (decide (a1<(o3.taken.length:Int)))
 (
  (A1 o3.taken a1).bind fun x1=>
  cond x1
  (
   ret (wI (a1+1)) fun p_1=>
   nx_f_ref13_Vault_Write_l1 (o3,o4,y3,y4,p_1))
  (
   (Gc n T o3 o4 (GW a1) p1).bind fun y5=>
   cond (!decide (y5.2.1=0))
   (
    some ((⟨0,[]⟩:Bo),y5.2.1,y5.2.2.1,y5.2.2.2))
   (
    (A1 y5.2.2.1.taken a1).bind fun x2=>
    (FX y5.2.2.1.taken a1 true).bind fun l1=>
    some ((⟨GW a1,y5.1⟩:Bo),0,{ y5.2.2.1 with taken:=l1 },y5.2.2.2))))
 (
  Jw o3 o4 y3 y4)
def He(n:Nat)(T:List UInt32)(p1:List UInt8):Nat→(Bt×BM×UInt32×List UInt8×Int)→Option (Bo×Int×Bt×BM):=CH fun nx x=>Fz n T p1 nx x.1 x.2.1 x.2.2.1 x.2.2.2.1 x.2.2.2.2
def HS(n:Nat)(T:List UInt32)(p0:Bt)(p0_1:BM)(p1:List UInt8):Option (Bo×Int×Bt×BM):=
 cond (decide (198<(p1.length:Int)))
 (
  some ((⟨0,[]⟩:Bo),50,p0,p0_1))
 (
  He n T p1 n (p0,p0_1,0,[],2))
theorem T7{n A7 Bb:Nat}{T:List UInt32}{Aj Bs FM Bu FN:Value}{p0:Bt}{p0_1:BM}{p1:List UInt8}{r:Bo×Int×Bt×BM}(h:HS n T p0 p0_1 p1=some r)(hT:Kl K w0 2 64 T):zC K w0 186 [vP A7 0,vS p1] [wO A7 Bb Aj Bs p0,AD 55 2 Aj Ad p0.ring,AD 4 1 Bs eB p0.taken,eO Bb FM Bu FN p0_1,AD 9 1 FM eS p0_1.blk,AD 9 1 Bu eS p0_1.pnd,AD 4 1 FN eB p0_1.bads] H (fun u M=>u=.tuple #[.agg (CP r.1).toArray,vI r.2.1]∧M=[wO A7 Bb Aj Bs r.2.2.1,AD 55 2 Aj Ad r.2.2.1.ring,AD 4 1 Bs eB r.2.2.1.taken,eO Bb FM Bu FN r.2.2.2,AD 9 1 FM eS r.2.2.2.blk,AD 9 1 Bu eS r.2.2.2.pnd,AD 4 1 FN eB r.2.2.2.bads]):=by
 unfold HS at h
 refine Vf.enter Tryz.func186 rfl rfl ?_
 refine Y ?_
 refine A6 E Gs zU fun b1=>?_
 refine O E (U (AE (Y (J E (CI E De E (V E C8 (U ?_)))))))
 refine AL h E (fun hc1 h=>?_) fun hc1 h=>?_
 refine Y (Cf [] E P0 Pz Gs zT E (BN 0 E E E E F6 E E E zT (O E (U (AM (Ag ?_))))))
 obtain rfl:=zI h
 exact Ax (Fi E (Cj 0 (CP (⟨0,[]⟩:Bo)) EZ E E E E) E) (As (M:=[_,_,_,_,_,_,_]) ⟨E,E⟩ fun _ hw=>Br.pick (H:=[_,_,_,_,_,_,_,_]) hw [1,2,3,4,5,6,7] 8 E)
 refine AH (AI ?_)
 refine Az (α:=Bt×BM×UInt32×List UInt8) (fun x=>Jw x.1 x.2.1 x.2.2.1 x.2.2.2=some r) (fun x=>[(0,vP A7 0),(4,vP b1 0)]) (fun x=>wO A7 Bb Aj Bs x.1::eO Bb FM Bu FN x.2.1::AD 9 1 FM eS x.2.1.blk::AD 9 1 Bu eS x.2.1.pnd::AD 4 1 FN eB x.2.1.bads::AD 55 2 Aj Ad x.1.ring::AD 4 1 Bs eB x.1.taken::own b1 (.cells #[AC x.2.2.1,vS x.2.2.2] 146)::H) ?_ (fun x D h=>?_)
 refine Y (O E (U (AK ?_)))
 refine SX.heap (SX.mono (A9 (α:=Nat×Bt×BM×UInt32×List UInt8×Int) (fun x=>He n T p1 x.1 (x.2.1,x.2.2.1,x.2.2.2.1,x.2.2.2.2.1,x.2.2.2.2.2)=some r) (fun x=>[(0,vP A7 0),(1,vS p1),(4,vP b1 0),(6,vI x.2.2.2.2.2)]) (fun x=>wO A7 Bb Aj Bs x.2.1::eO Bb FM Bu FN x.2.2.1::AD 9 1 FM eS x.2.2.1.blk::AD 9 1 Bu eS x.2.2.1.pnd::AD 4 1 FN eB x.2.2.1.bads::AD 55 2 Aj Ad x.2.1.ring::AD 4 1 Bs eB x.2.1.taken::own b1 (.cells #[AC x.2.2.2.1,vS x.2.2.2.2.1] 146)::H) (fun x=>x.1) (fun x D h=>?_) (n,p0,p0_1,0,[],2) h) tL) (A5 [1,4,5,6,7,2,3,0] 8 E E E)
 obtain⟨m1,o3,o4,y3,y4,a1⟩:=x
 dsimp only at h
 rcases m1 with _ | m1
 cases (show(none:Option _)=some r from h)
 replace h:Fz n T p1 (He n T p1 m1) o3 o4 y3 y4 a1=some r:=h
 unfold Fz at h
 try dsimp only
 refine AE (Y (J E (J E (AV E E (AF E UN (AG 0 Xt E (FJ 6 E Uj E E (V E BL (U ?_)))))))))
 refine AL h E (fun hc2 h=>?_) fun hc2 h=>?_
 refine AH (AI (AE (AK (AE (Y ?_)))))
 refine AB h fun x1 hx1 h=>?_
 refine J E (AV E E (AF E UN (AG 0 Xt E (J E ?_))))
 refine AZ 6 hx1 E Uj Ti E E E fun g1 m2 cp1 hv1=>?_
 refine Aq E Xu E (AS (sz:=1) (enc:=eB) 6 0 zV E hv1 hx1 E) ?_
 refine U ?_
 refine AL h E (fun hc3 h=>?_) fun hc3 h=>?_
 refine Av (Ay (A0 (AI (AJ ?_))))
 obtain⟨p_1,ep_1,h⟩:=BG h
 refine J E (V E Aw ?_)
 refine AX (u:=vI p_1) E E (congrArg vI ep_1) ?_
 refine AT ?_
 exact Am (m1,o3,o4,y3,y4,p_1) h (Nat.lt_succ_self _) tL (A5 [0,1,2,3,4,5,6,7] 8 E E E)
 refine AH (AI (Y ?_))
 refine AB h fun y5 hy5 h=>?_
 refine J E (J E (BZ E E (Rx Jh C6) (J E (SL.pick [0,5,6,1,2,3,4] 7 (AN 7 kh (Pc hy5 hT) E (J E (Ap E E E ?_)))))))
 refine Ap E E E (O E (O E (U (AE (Y (J E (V E Bg (U ?_))))))))
 refine AL h E (fun hc4 h=>?_) fun hc4 h=>?_
 refine Y (Cf [] E P0 Pz Gs zT E (J E (BN 7 E E E E F6 E E E zT (O E (U (AM (Ag (BO (Ag (FB (BO (F9 ?_))))))))))))
 obtain rfl:=zI h
 exact Ax (Fi E (Cj 7 (CP (⟨0,[]⟩:Bo)) EZ E E E E) E) (As (M:=[_,_,_,_,_,_,_]) ⟨E,E⟩ fun _ hw=>Br.pick (H:=[_,_,_,_,_,_,_,_]) hw [0,1,2,3,4,5,6] 8 E)
 refine AH (AI (Y ?_))
 refine AB h fun x2 hx2 h=>?_
 refine AB h fun l1 hl1 h=>?_
 refine J E (AV E E (AF E UN (AG 0 Xt E (J E ?_))))
 refine AZ 2 hx2 E Uj Ti E E E fun g2 m3 cp2 hv2=>?_
 refine BB (sz:=1) (enc:=eB) 2 hl1 zV rfl rfl rfl rfl rfl hv2 Ti (by first | (simp[Value.oneCell'];done) | simp[eB,Value.oneCell']) trivial ?_
 refine U (Y (J E (BZ E E (Rx Jh C6) (J E (Cf [_,_] E P0 Pz Gs ⟨E,E,zT⟩ E (BN 7 E E E E F6 E E E zT (O E (U (AM (BO (Ag (FB (BO (F9 ?_))))))))))))))
 obtain rfl:=zI h
 exact Ax (Fi E (Cj 7 (CP (⟨GW a1,y5.1⟩:Bo)) EZ E E E E) E) (As (M:=[_,_,_,_,_,_,_]) ⟨E,E⟩ fun _ hw=>Br.pick (H:=[_,_,_,_,_,_,_,_]) hw [0,1,2,3,4,5,6] 8 E)
 refine Av (Ay (BP (A0 ?_)))
 exact Ak (o3,o4,y3,y4) h tL (A5 [0,1,2,3,4,5,6,7] 8 E E E)
 obtain⟨o1,o2,y1,y2⟩:=x
 dsimp only at h
 unfold Jw at h
 try dsimp only
 refine Y (Cf [] E P0 Pz Gs zT E (BN 7 E E E E F6 E E E zT (O E (U (AM ?_)))))
 obtain rfl:=zI h
 exact Ax (Fi E (Cj 7 (CP (⟨0,[]⟩:Bo)) EZ E E E E) E) (As (M:=[_,_,_,_,_,_,_]) ⟨E,E⟩ fun _ hw=>Br.pick (H:=[_,_,_,_,_,_,_,_]) hw [0,5,6,1,2,3,4] 8 E)
end
end Go.Proofs.YtpaohlmgfifebaaGreatDoor
