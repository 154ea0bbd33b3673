/- The texts LG5, LG6, S24, GG14, GG15, GG16, GG17, GG18, GG19, GG20, LG7, GG21, GG22, GG23, GG24, GG25, GG26, GG27, GG28, GG29, GG30, GG31, one behind the other: each bears its own sentence. Conditions: as each says. -/
import Derived.Test.YtkibffdipniemaaGreatDoorMH1
import Derived.Test.YtkibffdipniemaaGreatDoorMH2
import Derived.Test.YtkibffdipniemaaGreatDoorMH3
import Derived.Test.YtkibffdipniemaaGreatDoorMH4

set_option linter.unusedVariables false
set_option linter.unusedSimpArgs false
set_option maxHeartbeats 4000000
set_option maxRecDepth 100000
namespace Go.Proofs.YtkibffdipniemaaGreatDoor
open Go
/- Plain laws of the tree of rows: what quad.Build answers. No program in sight. Condition: at most a thousand rows, and rounds enough. -/
section
def qd(L:Nat)(r:AN):Nat:=(r.x.toNat / 2^(L-1))%2+2*((r.y.toNat / 2^(L-1))%2)
structure AR(c:BN)(l:List AN)(L:Nat):Prop where
 lev:c.lev=(L:Int)
 le:L≤31
 cx:c.x.toNat%2^L=0
 cy:c.y.toNat%2^L=0
 lx:c.x.toNat<2147483648
 ly:c.y.toNat<2147483648
 inn:∀r∈l,r.x.toNat / 2^L=c.x.toNat / 2^L∧r.y.toNat / 2^L=c.y.toNat / 2^L
 two:0<L→∃r∈l,∃s∈l,qd L r≠qd L s
theorem LU{r:AN}(h:FF r=true):r.x.toNat<2147483648∧r.y.toNat<2147483648∧r.txt.length≤16:=by
 unfold FF at h
 simp only[Bool.and_eq_true,decide_eq_true_eq]at h
 have:=UInt32.lt_iff_toNat_lt.1 h.1
 rw[Hz]at this
 have h2:max r.x.toNat r.y.toNat<2147483648:=this
 omega
theorem EO{a L:Nat}(h:0<L):a / 2^(L-1) / 2=a / 2^L:=by
 rw[Nat.div_div_eq_div_mul,←Nat.pow_succ,Nat.succ_eq_add_one,Nat.sub_add_cancel h]
theorem Zl{n:Nat}{l:List AN}(hl:l≠[])(hn:l.length<n)(hb:l.length≤1000000)(ok:∀r∈l,FF r=true):∃c L,HN n l=some c∧AR c l L:=by
 have key:∀(T S:List AN) (x y u v:UInt32),l=S++T→(∀r∈S,x.toNat≤r.x.toNat∧r.x.toNat≤u.toNat∧y.toNat≤r.y.toNat∧r.y.toNat≤v.toNat)→(∃r∈l,r.x=x)→(∃r∈l,r.y=y)→(∃r∈l,r.x=u)→(∃r∈l,r.y=v)→
   ∀m,T.length<m→∃c L,FA l m (x,y,u,v,(S.length:Int))=some c∧AR c l L:=by
  intro T
  induction T with
  | nil=>
   intro S x y u v hS hin hx hy hu hv m hm
   obtain⟨m,rfl⟩:∃k,m=k+1:=⟨m-1,by omega⟩
   simp only[List.append_nil]at hS
   subst hS
   obtain⟨rx,hrx,ex⟩:=hx
   obtain⟨ry,hry,ey⟩:=hy
   obtain⟨ru,hru,eu⟩:=hu
   obtain⟨rv,hrv,ev⟩:=hv
   have lx:=(LU (ok rx hrx)).1
   have ly:=(LU (ok ry hry)).2.1
   have lu:=(LU (ok ru hru)).1
   have lv:=(LU (ok rv hrv)).2.1
   rw[ex]at lx
   rw[ey]at ly
   rw[eu]at lu
   rw[ev]at lv
   obtain⟨L,hL,hle,d1,d2,d3⟩:=gp lx ly lu lv
   have hp:=Nat.two_pow_pos L
   have hcx:=Q1 x hL
   have hcy:=Q1 y hL
   refine⟨⟨x &&& ~~~(shl32 1 L-1),y &&& ~~~(shl32 1 L-1),L⟩,L,?_,⟨rfl,hL,?_,?_,?_,?_,fun r hr=>?_,fun h0=>?_⟩⟩
   show De l (FA l m) _ _ _ _ _=_
   unfold De
   dsimp only
   rw[decide_eq_false zO,cond_false]
   unfold If
   rw[hle,Y]
   show(x &&& ~~~(shl32 1 L-1)).toNat%2^L=0
   rw[hcx]
   exact Nat.mul_mod_left _ _
   show(y &&& ~~~(shl32 1 L-1)).toNat%2^L=0
   rw[hcy]
   exact Nat.mul_mod_left _ _
   show(x &&& ~~~(shl32 1 L-1)).toNat<_
   rw[hcx]
   exact Nat.lt_of_le_of_lt (Nat.div_mul_le_self _ _) lx
   show(y &&& ~~~(shl32 1 L-1)).toNat<_
   rw[hcy]
   exact Nat.lt_of_le_of_lt (Nat.div_mul_le_self _ _) ly
   show r.x.toNat / 2^L=(x &&& ~~~(shl32 1 L-1)).toNat / 2^L∧r.y.toNat / 2^L=(y &&& ~~~(shl32 1 L-1)).toNat / 2^L
   rw[hcx,hcy,Nat.mul_div_cancel _ hp,Nat.mul_div_cancel _ hp]
   obtain⟨a1,a2,a3,a4⟩:=hin r hr
   have b1:=Nat.div_le_div_right (c:=2^L) a1
   have b2:=Nat.div_le_div_right (c:=2^L) a2
   have b3:=Nat.div_le_div_right (c:=2^L) a3
   have b4:=Nat.div_le_div_right (c:=2^L) a4
   omega
   have g1:=EO (a:=x.toNat) h0
   have g2:=EO (a:=u.toNat) h0
   have g3:=EO (a:=y.toNat) h0
   have g4:=EO (a:=v.toNat) h0
   rcases d3 h0 with d | d
   refine⟨rx,hrx,ru,hru,fun e=>?_⟩
   unfold qd at e
   rw[ex,eu]at e
   omega
   refine⟨ry,hry,rv,hrv,fun e=>?_⟩
   unfold qd at e
   rw[ey,ev]at e
   omega
  | cons r T ih=>
   intro S x y u v hS hin hx hy hu hv m hm
   obtain⟨m,rfl⟩:∃k,m=k+1:=⟨m-1,by omega⟩
   have hlen:l.length=S.length+(T.length+1):=by rw[hS];simp
   have hr:r∈l:=by rw[hS];simp
   have n1:Aq l (S.length:Int)=some r:=by
    rw[DK rfl,hS]
    simp
   have hmin:∀a b:UInt32,min a b=a∨min a b=b:=fun a b=>by
    show(if a≤b then a else b)=a∨(if a≤b then a else b)=b
    split
    exact .inl rfl
    exact .inr rfl
   have hmax:∀a b:UInt32,max a b=a∨max a b=b:=fun a b=>by
    show(if a≤b then b else a)=a∨(if a≤b then b else a)=b
    split
    exact .inr rfl
    exact .inl rfl
   obtain⟨c,L,hc,hA⟩:=ih (S++[r]) (min x r.x) (min y r.y) (max u r.x) (max v r.y) (by rw[hS];simp) (fun q hq=>by
    rw[VJ,VJ,Hz,Hz]
    rcases List.mem_append.1 hq with hq | hq
    have:=hin q hq
    omega
    rw[List.mem_singleton.1 hq]
    omega) (by
    rcases hmin x r.x with e | e<;>rw[e]
    exact hx
    exact⟨r,hr,rfl⟩) (by
    rcases hmin y r.y with e | e<;>rw[e]
    exact hy
    exact⟨r,hr,rfl⟩) (by
    rcases hmax u r.x with e | e<;>rw[e]
    exact hu
    exact⟨r,hr,rfl⟩) (by
    rcases hmax v r.y with e | e<;>rw[e]
    exact hv
    exact⟨r,hr,rfl⟩) m (by simp at hm;omega)
   refine⟨c,L,?_,hA⟩
   show De l (FA l m) _ _ _ _ _=_
   unfold De
   dsimp only
   rw[decide_eq_true zO,cond_true,n1,Y,A7,A7,A7,A7,BD zO zO]
   rw[show((S++[r]).length:Int)=(S.length:Int)+1 by simp only[List.length_append,List.length_singleton];omega]at hc
   exact hc
 obtain⟨r0,l0,rfl⟩:∃r0 l0,l=r0::l0:=by
  cases l with
  | nil=>exact absurd rfl hl
  | cons r0 l0=>exact⟨r0,l0,rfl⟩
 obtain⟨c,L,hc,hA⟩:=key (r0::l0) [] r0.x r0.y r0.x r0.y rfl zS ⟨r0,by simp,rfl⟩ ⟨r0,by simp,rfl⟩ ⟨r0,by simp,rfl⟩ ⟨r0,by simp,rfl⟩ n hn
 refine⟨c,L,?_,hA⟩
 unfold HN
 have n0:Aq (r0::l0) 0=some r0:=rfl
 rw[n0,Y,Y,Y,Y]
 exact hc
/-! ### Quarters -/
theorem size_eq{c:BN}{L:Nat}(h:c.lev=(L:Int)):Gl c=some (shl64 1 L):=by
 unfold Gl QB
 rw[h,if_pos zO,Y,A7]
 rfl
theorem KW{L:Nat}(h:L≤31):(shl64 1 L).toNat=2^L:=by
 simp only[shl64,UInt64.toNat_ofNat',Nat.min_eq_left (show L≤64 by omega)]
 have:2^L≤2^31:=Nat.pow_le_pow_right zD h
 rw[show(1:UInt64).toNat=1 from rfl,Nat.one_mul]
 exact Nat.mod_eq_of_lt (Nat.lt_of_le_of_lt this zD)
theorem dg{L:Nat}(h:L≤31):(shl64 1 L-1).toUInt32.toNat=2^L-1:=by
 have h1:=KW h
 have h2:=Nat.two_pow_pos L
 have h3:2^L≤2^31:=Nat.pow_le_pow_right zD h
 rw[UInt64.toNat_toUInt32,UInt64.toNat_sub_of_le _ _ (by rw[UInt64.le_iff_toNat_le,h1];exact h2),h1]
 show(2^L-1)%4294967296=_
 exact Nat.mod_eq_of_lt zO
theorem WI{c:BN}{L:Nat}(h:c.lev=(L:Int))(hL:L≤31)(hx:c.x.toNat%2^L=0)(hy:c.y.toNat%2^L=0)(lx:c.x.toNat<2147483648)(ly:c.y.toNat<2147483648):Hj c=true:=by
 unfold Hj
 rw[h,show(decide ((L:Int)<0)||decide (31<(L:Int)))=false by simp;omega,cond_false,Int.toNat_natCast,Bool.and_eq_true,decide_eq_true_eq,decide_eq_true_eq]
 constructor
 apply UInt32.toNat_inj.1
 rw[UInt32.toNat_and,dg hL,UInt32.toNat_or,Nat.and_two_pow_sub_one_eq_mod,Nat.or_mod_two_pow,hx,hy]
 rfl
 rw[UInt32.lt_iff_toNat_lt,Hz]
 show max _ _<2147483648
 omega
theorem AR.ok{c:BN}{l:List AN}{L:Nat}(A:AR c l L):Hj c=true:=WI A.lev A.le A.cx A.cy A.lx A.ly
theorem On{a P:Nat}(hP:a%P=0)(ha:a<2147483648)(hd:∃k,k*P=2147483648):a+P≤2147483648:=by
 obtain⟨k,hk⟩:=hd
 have h1:a=a / P*P:=by
  have:=Nat.div_add_mod a P
  rw[hP,Nat.add_zero,Nat.mul_comm]at this
  exact this.symm
 have h2:a / P<k:=by
  rcases Nat.lt_or_ge (a / P) k with h | h
  exact h
  have:=Nat.mul_le_mul_right P h
  omega
 have h3:(a / P+1)*P≤k*P:=Nat.mul_le_mul_right P h2
 rw[Nat.add_mul,Nat.one_mul]at h3
 omega
theorem Ll{L:Nat}(h:L≤31):∃k,k*2^L=2147483648:=⟨2^(31-L),by rw[←Nat.pow_add,Nat.sub_add_cancel h]⟩
theorem Vw{a q P:Nat}(hP:0<P)(hq:q%P=0):(q≤a∧a≤q+(P-1))↔a / P=q / P:=by
 have h1:q=q / P*P:=by
  have:=Nat.div_add_mod q P
  rw[hq,Nat.add_zero,Nat.mul_comm]at this
  exact this.symm
 have h2:=Nat.div_add_mod a P
 have h3:=Nat.mod_lt a hP
 constructor
 rintro⟨g1,g2⟩
 have g3:q / P≤a / P:=Nat.div_le_div_right g1
 have g4:a / P<q / P+1:=by
  refine(Nat.div_lt_iff_lt_mul hP).2 ?_
  rw[Nat.add_mul,Nat.one_mul,←h1]
  omega
 omega
 intro g
 rw[g,Nat.mul_comm,←h1]at h2
 omega
theorem bR{q:BN}{M:Nat}(x y:UInt32)(h:q.lev=(M:Int))(hM:M≤31)(hx:q.x.toNat%2^M=0)(hy:q.y.toNat%2^M=0)(lx:q.x.toNat<2147483648)(ly:q.y.toNat<2147483648):
  Kh q x y=some (decide (x.toNat / 2^M=q.x.toNat / 2^M)&&decide (y.toNat / 2^M=q.y.toNat / 2^M)):=by
 have hp:=Nat.two_pow_pos M
 have mx:=On hx lx (Ll hM)
 have my:=On hy ly (Ll hM)
 have hf:=dg hM
 have ex:(q.x+(shl64 1 M-1).toUInt32).toNat=q.x.toNat+(2^M-1):=by rw[UInt32.toNat_add,hf];omega
 have ey:(q.y+(shl64 1 M-1).toUInt32).toNat=q.y.toNat+(2^M-1):=by rw[UInt32.toNat_add,hf];omega
 unfold Kh
 rw[N8,WI h hM hx hy lx ly,Y]
 unfold Nr PT JO
 rw[size_eq h]
 simp only[Y,A7,Ed,cond_true]
 congr 1
 rw[Bool.eq_iff_iff]
 simp only[Bool.and_eq_true,decide_eq_true_eq,UInt32.le_iff_toNat_le,UInt32.lt_iff_toNat_lt,Hz,ex,ey,←Vw hp hx,←Vw hp hy]
 constructor
 rintro⟨⟨⟨⟨_,h1⟩,h2⟩,h3⟩,h4⟩
 exact⟨⟨h1,h2⟩,h3,h4⟩
 rintro⟨⟨h1,h2⟩,h3,h4⟩
 refine⟨⟨⟨⟨⟨⟨by omega,by omega⟩,?_⟩,h1⟩,h2⟩,h3⟩,h4⟩
 show max _ _<2147483648
 omega
theorem gd{c:BN}{l:List AN}{L:Nat}(A:AR c l L)(h0:0<L){r:AN}(hr:r∈l):Er c r.x r.y=some ((qd L r:Int),0):=by
 have hL:=A.le
 have hp:=Nat.two_pow_pos (L-1)
 obtain⟨i1,i2⟩:=A.inn r hr
 have mx:=On A.cx A.lx (Ll hL)
 have my:=On A.cy A.ly (Ll hL)
 have e2:2^L=2^(L-1)*2:=by rw[←Nat.pow_succ,Nat.succ_eq_add_one,Nat.sub_add_cancel h0]
 have hh:(shl64 1 L / 2).toUInt32.toNat=2^(L-1):=by
  rw[UInt64.toNat_toUInt32,UInt64.toNat_div,KW hL,show(2:UInt64).toNat=2 from rfl,e2,Nat.mul_div_cancel _ zD]
  show _%4294967296=_
  have:2^(L-1)≤2^31:=Nat.pow_le_pow_right zD zO
  exact Nat.mod_eq_of_lt zO
 have hx2:c.x.toNat%2^(L-1)=0:=by
  have:=A.cx
  rw[e2]at this
  rw[←Nat.mod_mul_right_mod c.x.toNat (2^(L-1)) 2,this]
  simp
 have hy2:c.y.toNat%2^(L-1)=0:=by
  have:=A.cy
  rw[e2]at this
  rw[←Nat.mod_mul_right_mod c.y.toNat (2^(L-1)) 2,this]
  simp
 have gx:=EO (a:=c.x.toNat) h0
 have gy:=EO (a:=c.y.toNat) h0
 have rx:=EO (a:=r.x.toNat) h0
 have ry:=EO (a:=r.y.toNat) h0
 have cxe:c.x.toNat / 2^(L-1)%2=0:=by
  have:=A.cx
  rw[e2,Nat.mod_mul]at this
  have h5:2^(L-1)*(c.x.toNat / 2^(L-1)%2)=0:=by omega
  rcases Nat.mul_eq_zero.1 h5 with h6 | h6
  omega
  exact h6
 have cye:c.y.toNat / 2^(L-1)%2=0:=by
  have:=A.cy
  rw[e2,Nat.mod_mul]at this
  have h5:2^(L-1)*(c.y.toNat / 2^(L-1)%2)=0:=by omega
  rcases Nat.mul_eq_zero.1 h5 with h6 | h6
  omega
  exact h6
 generalize hhd:(shl64 1 L / 2).toUInt32=hf at hh
 
 have c0:∀a:UInt32,(a+hf*0)=a:=fun a=>by simp
 have c1:∀a:UInt32,a.toNat+2^L≤2147483648→(a+hf*1).toNat=a.toNat+2^(L-1):=fun a ha=>by
  rw[UInt32.mul_one,UInt32.toNat_add,hh]
  rw[e2]at ha
  omega
 have m1:∀a:Nat,a%2^(L-1)=0→(a+2^(L-1))%2^(L-1)=0:=fun a ha=>by simp[ha]
 have d1:∀a:Nat,(a+2^(L-1)) / 2^(L-1)=a / 2^(L-1)+1:=fun a=>Nat.add_div_right a hp
 have hlev:wI (c.lev-1)=((L-1:Nat):Int):=by rw[A.lev,BD zO zO];omega
 have hasq:∀(qx qy:UInt32) (bx by_:Nat),qx.toNat=c.x.toNat+bx*2^(L-1)→qy.toNat=c.y.toNat+by_*2^(L-1)→bx≤1→by_≤1→
   Kh ⟨qx,qy,((L-1:Nat):Int)⟩ r.x r.y=some (decide (r.x.toNat / 2^(L-1)%2=bx)&&decide (r.y.toNat / 2^(L-1)%2=by_)):=by
  intro qx qy bx by_ e1 e3 hbx hby
  have hxm:qx.toNat%2^(L-1)=0:=by
   rw[e1,Nat.add_mul_mod_self_right]
   exact hx2
  have hym:qy.toNat%2^(L-1)=0:=by
   rw[e3,Nat.add_mul_mod_self_right]
   exact hy2
  have bxl:bx*2^(L-1)≤2^(L-1):=by
   calc bx*2^(L-1)≤1*2^(L-1):=Nat.mul_le_mul_right _ hbx
    _=2^(L-1):=Nat.one_mul _
  have byl:by_*2^(L-1)≤2^(L-1):=by
   calc by_*2^(L-1)≤1*2^(L-1):=Nat.mul_le_mul_right _ hby
    _=2^(L-1):=Nat.one_mul _
  rw[bR (M:=L-1) r.x r.y rfl zO hxm hym (by rw[e1];omega) (by rw[e3];omega)]
  have f1:qx.toNat / 2^(L-1)=c.x.toNat / 2^(L-1)+bx:=by rw[e1];exact Nat.add_mul_div_right _ _ hp
  have f2:qy.toNat / 2^(L-1)=c.y.toNat / 2^(L-1)+by_:=by rw[e3];exact Nat.add_mul_div_right _ _ hp
  congr 2
  rw[decide_eq_decide]
  show r.x.toNat / 2^(L-1)=qx.toNat / 2^(L-1)↔_
  rw[f1]
  omega
  rw[decide_eq_decide]
  show r.y.toNat / 2^(L-1)=qy.toNat / 2^(L-1)↔_
  rw[f2]
  omega
 unfold Er Yh R8
 rw[Y,N8,A.ok,Y,show(!true||decide (c.lev=0))=false by rw[A.lev];simp;omega,cond_false,size_eq A.lev,Y]
 have hq:N1 (shl64 1 L) 2=some (shl64 1 L / 2):=by
  unfold N1
  rw[if_neg zD]
 rw[hq,Y,Y,hhd]
 unfold Dy
 rw[hlev,c0,c0]
 have q00:=hasq c.x c.y 0 0 zS zS zO zO
 have q10:=hasq (c.x+hf*1) c.y 1 0 (by rw[c1 _ mx];omega) zS zO zO
 have q01:=hasq c.x (c.y+hf*1) 0 1 zS (by rw[c1 _ my];omega) zO zO
 have q11:=hasq (c.x+hf*1) (c.y+hf*1) 1 1 (by rw[c1 _ mx];omega) (by rw[c1 _ my];omega) zO zO
 unfold Jb qd
 simp only[U5,Hq,q00,q10,q01,q11,Y]
 have bx:=Nat.mod_two_eq_zero_or_one (r.x.toNat / 2^(L-1))
 have by_:=Nat.mod_two_eq_zero_or_one (r.y.toNat / 2^(L-1))
 rcases bx with bx | bx<;>rcases by_ with by_ | by_<;>rw[bx,by_]<;>rfl
end

/- Plain laws of the tree of rows: quad.tree, quad.Build. No program in sight. Condition: at most a thousand rows, and rounds enough. -/
section
inductive P1 {α β:Type} (R:α→β→Prop):List α→List β→Prop
 | nil:P1 R [] []
 | cons {a b xs ys}:R a b→P1 R xs ys→P1 R (a::xs) (b::ys)
theorem P1.length{α β:Type}{R:α→β→Prop}{xs:List α}{ys:List β}(h:P1 R xs ys):xs.length=ys.length:=by
 induction h with
 | nil=>rfl
 | cons _ _ ih=>simp[ih]
def Kt(L:Nat)(l:List AN):List (List AN):=[l.filter fun r=>decide (qd L r=0),l.filter fun r=>decide (qd L r=1),l.filter fun r=>decide (qd L r=2),l.filter fun r=>decide (qd L r=3)]
def KX(L:Nat)(l:List AN):List (List AN):=(Kt L l).filter fun p => !p.isEmpty
theorem dy(L:Nat)(r:AN):qd L r<4:=by
 unfold qd
 omega
theorem X0{c:BN}{l:List AN}{L:Nat}(A:AR c l L)(h0:0<L):∀(T:List AN) (p:P4),(∀r∈T,r∈l)→p.1.length+p.2.1.length+p.2.2.1.length+p.2.2.2.length+T.length≤100000→
  Kd c T p=some (p.1++T.filter (fun r=>decide (qd L r=0)),p.2.1++T.filter (fun r=>decide (qd L r=1)),p.2.2.1++T.filter (fun r=>decide (qd L r=2)),p.2.2.2++T.filter (fun r=>decide (qd L r=3)))
 | [],p,_,_=>by simp[Kd]
 | r::T,p,hT,hb=>by
  simp only[List.length_cons]at hb
  have hw:=gd A h0 (hT r zS)
  have h4:=dy L r
  have ih:=fun p hp=>X0 A h0 T p (fun q hq=>hT q (by simp[hq])) hp
  unfold Kd Q2
  rw[hw,Y]
  dsimp only
  rcases(show qd L r=0∨qd L r=1∨qd L r=2∨qd L r=3 by omega)with e | e | e | e
  rw[e,if_pos (show((0:Nat):Int)=0 from rfl),B8 (by simp;omega) (by simp;omega),Y,Y,ih _ (by simp;omega)]
  simp[e]
  rw[e,if_neg zD,if_pos (show((1:Nat):Int)=1 from rfl),B8 (by simp;omega) (by simp;omega),Y,Y,ih _ (by simp;omega)]
  simp[e]
  rw[e,if_neg zD,if_neg zD,if_pos (show((2:Nat):Int)=2 from rfl),B8 (by simp;omega) (by simp;omega),Y,Y,ih _ (by simp;omega)]
  simp[e]
  rw[e,if_neg zD,if_neg zD,if_neg zD,if_pos (show((3:Nat):Int)=3 from rfl),B8 (by simp;omega) (by simp;omega),Y,Y,ih _ (by simp;omega)]
  simp[e]
theorem Ym(L:Nat)(l:List AN):(Kt L l).flatten.Perm l:=by
 unfold Kt
 simp only[List.flatten_cons,List.flatten_nil,List.append_nil]
 induction l with
 | nil=>exact List.Perm.refl _
 | cons r l ih=>
  have h4:=dy L r
  rcases(show qd L r=0∨qd L r=1∨qd L r=2∨qd L r=3 by omega)with e | e | e | e<;>simp only[List.filter_cons,e,decide_true,if_true]<;>simp only[show decide ((0:Nat)=1)=false from rfl,show decide ((0:Nat)=2)=false from rfl,show decide ((0:Nat)=3)=false from rfl,show decide ((1:Nat)=0)=false from rfl,show decide ((1:Nat)=2)=false from rfl,show decide ((1:Nat)=3)=false from rfl,show decide ((2:Nat)=0)=false from rfl,show decide ((2:Nat)=1)=false from rfl,show decide ((2:Nat)=3)=false from rfl,show decide ((3:Nat)=0)=false from rfl,show decide ((3:Nat)=1)=false from rfl,show decide ((3:Nat)=2)=false from rfl,Bool.false_eq_true,if_false]
  all_goals
   refine List.perm_iff_count.2 fun x=>?_
   have:=List.perm_iff_count.1 ih x
   simp only[List.count_append,List.count_cons]at this ⊢
   omega
theorem TA(ps:List (List AN)):(ps.filter fun p => !p.isEmpty).flatten=ps.flatten:=by
 induction ps with
 | nil=>rfl
 | cons p ps ih=>
  cases p with
  | nil=>simpa using ih
  | cons r p=>simp[ih]
theorem Uh(L:Nat)(l:List AN):(KX L l).flatten.Perm l:=by
 unfold KX
 rw[TA]
 exact Ym L l
theorem R6{L:Nat}{l p:List AN}(h:p∈KX L l):p≠[]∧∃i,p=l.filter fun r=>decide (qd L r=i):=by
 unfold KX at h
 obtain⟨h1,h2⟩:=List.mem_filter.1 h
 refine⟨by simpa using h2,?_⟩
 unfold Kt at h1
 simp only[List.mem_cons,List.not_mem_nil,or_false]at h1
 rcases h1 with rfl | rfl | rfl | rfl
 exact⟨0,rfl⟩
 exact⟨1,rfl⟩
 exact⟨2,rfl⟩
 exact⟨3,rfl⟩
theorem NI{L:Nat}{l p:List AN}(h:p∈KX L l):p.Sublist l:=by
 obtain⟨_,i,rfl⟩:=R6 h
 exact List.filter_sublist ..
theorem Ve(L:Nat)(l:List AN):(KX L l).length≤4:=by
 unfold KX
 exact Nat.le_trans (List.length_filter_le ..) (Nat.le_refl 4)
theorem VT{L:Nat}{l:List AN}{r:AN}(h:r∈l):(l.filter fun s=>decide (qd L s=qd L r))∈KX L l:=by
 have h4:=dy L r
 unfold KX
 refine List.mem_filter.2 ⟨?_,?_⟩
 unfold Kt
 rcases(show qd L r=0∨qd L r=1∨qd L r=2∨qd L r=3 by omega)with e | e | e | e<;>rw[e]<;>simp
 have:r∈l.filter fun s=>decide (qd L s=qd L r):=List.mem_filter.2 ⟨h,by simp⟩
 cases hx:l.filter fun s=>decide (qd L s=qd L r)with
 | nil=>rw[hx]at this;simp at this
 | cons a b=>rfl
theorem ND{c:BN}{l:List AN}{L:Nat}(A:AR c l L)(h0:0<L):2≤(KX L l).length∧∀p∈KX L l,p.length<l.length:=by
 obtain⟨r,hr,s,hs,hne⟩:=A.two h0
 have h1:=VT (L:=L) hr
 have h2:=VT (L:=L) hs
 have hd:(l.filter fun q=>decide (qd L q=qd L r))≠(l.filter fun q=>decide (qd L q=qd L s)):=by
  intro e
  have:r∈l.filter fun q=>decide (qd L q=qd L r):=List.mem_filter.2 ⟨hr,by simp⟩
  rw[e]at this
  have:=(List.mem_filter.1 this).2
  simp only[decide_eq_true_eq]at this
  exact hne this
 constructor
 rcases hq:KX L l with _ | ⟨a,_ | ⟨b,q⟩⟩
 rw[hq]at h1;simp at h1
 rw[hq]at h1 h2
 simp only[List.mem_singleton]at h1 h2
 exact absurd (h1.trans h2.symm) hd
 simp
 intro p hp
 obtain⟨_,i,rfl⟩:=R6 hp
 have:∃q∈l,qd L q≠i:=by
  by_cases e:qd L r=i
  exact⟨s,hs,fun e'=>hne (e.trans e'.symm)⟩
  exact⟨r,hr,e⟩
 obtain⟨q,hq,hqi⟩:=this
 rcases Nat.lt_or_ge (l.filter fun r=>decide (qd L r=i)).length l.length with h | h
 exact h
 have:=(List.filter_sublist (p:=fun r=>decide (qd L r=i)) (l:=l)).eq_of_length_le h
 have h5:=List.filter_eq_self.1 this q hq
 simp only[decide_eq_true_eq]at h5
 exact absurd h5 hqi
/-! ### Trees -/
def Tr:Nat→List AN→BO→Prop
 | 0,_,_=>False
 | f+1,l,t=>(l=[]∧t=.mk 0 0 0 [] [])∨(l≠[]∧∃c L,AR c l L∧(((l.length≤4∨L=0)∧t=.mk c.x c.y c.lev l [])∨
   (4<l.length∧0<L∧∃ks,t=.mk c.x c.y c.lev [] ks∧P1 (Tr f) (KX L l) ks)))
theorem TJ{rec_:List AN→Option BO}{R:List AN→BO→Prop}:∀(ps:List (List AN)) (acc:List BO),(∀p∈ps,p≠[]→∃t,rec_ p=some t∧R p t)→acc.length+ps.length≤1000→∃ks,Di rec_ ps acc=some (acc++ks)∧P1 R (ps.filter fun p => !p.isEmpty) ks
 | [],acc,_,_=>⟨[],by simp[Di],.nil⟩
 | p::ps,acc,h,hb=>by
  simp only[List.length_cons]at hb
  unfold Di
  cases p with
  | nil=>
   obtain⟨ks,h1,h2⟩:=TJ ps acc (fun q hq=>h q (by simp[hq])) zO
   exact⟨ks,by simpa using h1,by simpa using h2⟩
  | cons r p=>
   obtain⟨t,ht,hR⟩:=h (r::p) zS zS
   obtain⟨ks,h1,h2⟩:=TJ ps (acc++[t]) (fun q hq=>h q (by simp[hq])) (by simp;omega)
   refine⟨t::ks,?_,?_⟩
   rw[decide_eq_true (by simp only[List.length_cons];omega),cond_true,ht,Y,B8 (by simp;omega) (by simp;omega),Y,h1]
   simp
   simp only[List.filter_cons,List.isEmpty_cons,Bool.not_false,if_true]
   exact .cons hR h2
theorem cw{n:Nat}:∀(f:Nat) (l:List AN),l.length<f→(∀r∈l,FF r=true)→l.length≤1000→l.length<n→∃t,Gv n f l=some t∧Tr f l t
 | 0,l,h,_,_,_=>by omega
 | f+1,l,h,ok,hb,hn=>by
  unfold Gv
  rw[if_neg zO]
  by_cases hl:l=[]
  subst hl
  exact⟨.mk 0 0 0 [] [],rfl,.inl ⟨rfl,rfl⟩⟩
  have hp:=List.length_pos_iff.2 hl
  obtain⟨c,L,hc,A⟩:=Zl hl hn zO ok
  rw[decide_eq_false zO,cond_false,hc,Y]
  by_cases hleaf:l.length≤4∨L=0
  rw[show(decide ((l.length:Int)≤4)||decide (c.lev=0))=true by rw[A.lev];simp;omega,cond_true]
  unfold So
  rw[B8 (by simp;omega) (by simp;omega),Y]
  exact⟨_,rfl,.inr ⟨hl,c,L,A,.inl ⟨hleaf,rfl⟩⟩⟩
  have h0:0<L:=by omega
  rw[show(decide ((l.length:Int)≤4)||decide (c.lev=0))=false by rw[A.lev];simp;omega,cond_false,X0 A h0 l _ (fun r hr=>hr) (by simp;omega),Y]
  simp only[List.nil_append]
  obtain⟨_,h2⟩:=ND A h0
  obtain⟨ks,h3,h4⟩:=TJ (rec_:=Gv n f) (R:=Tr f) (Kt L l) [] (fun p hp' hne=>by
   have hq:p∈KX L l:=List.mem_filter.2 ⟨hp',by simpa using hne⟩
   have:=h2 p hq
   exact cw f p zO (fun r hr=>ok r ((NI hq).subset hr)) zO zO) (by simp[Kt])
  unfold Kt at h3
  rw[h3,Y]
  exact⟨_,rfl,.inr ⟨hl,c,L,A,.inr ⟨by omega,h0,ks,by simp,h4⟩⟩⟩
theorem UD{n:Nat}{l:List AN}(hn:1002≤n)(h:CZ l=true):∃t,Im n l=some (t,0)∧Gv n n l=some t∧Tr n l t:=by
 have h':=h
 unfold CZ at h'
 simp only[Bool.and_eq_true,decide_eq_true_eq]at h'
 have hb:l.length≤1000:=by omega
 obtain⟨t,h1,h2⟩:=cw (n:=n) n l zO (fun r hr=>List.all_eq_true.1 h'.1.1 r hr) hb zO
 refine⟨t,?_,h1,h2⟩
 unfold Im
 rw[Nz l zO zO,Y,h,Bool.not_true,cond_false,h1,Y]
theorem X8{n:Nat}{l:List AN}(hn:l.length<n)(hb:l.length≤1073741824)(h:CZ l=false):Im n l=some (.mk 0 0 0 [] [],80):=by
 unfold Im
 rw[Nz l hn hb,Y,h]
 rfl
end

/- The engine: slices cut with a limit; pieces of a slice. No condition beyond those stated. -/
section
variable {P:Program}{ro:Option Nat}{K:Nat→Prop}{w0:World}{N:Nat}{Q:Cc}{D:List Nat}{l l':Tm}{H H' Hs:List AT}{ops:Array Oper}{items:G5}
variable {tk:Bool}{o:Oper}{t:Nat}{v:Value}{x y z u:Operand}
theorem lk{b off n c sz:Nat}{k k' k'':IntKind}{i j m:Int}{ty e:TypeId}(p q:Nat)(ho:At ops N l o t (.slice ty x (some y) (some z) (some u)))(hty:P.underlying ty=some (.slice e))(hsz:CY P e=some sz)(hx:BT l x=some (.slice (some ⟨b,off,none⟩) n c))(hy:BT l y=some (.int k i))(hz:BT l z=some (.int k' j))(hu:BT l u=some (.int k'' m))
(hi:i=(p:Int))(hj:j=(q:Int))(hm:m=(q:Int))(hp:p<q)(hq:q≤c)(h:SL P ro K w0 N ops Hs items Q D ((t,.slice (some ⟨b,off+p*sz,none⟩) (q-p) (q-p))::l) H):SL P ro K w0 N ops Hs (.cons (tk,o) items) Q D l H:=
 SL.val ho rfl (fun a w ha _=>by
  subst hi hj hm
  have hle:p≤q:=Nat.le_of_lt hp
  have hne:¬q=p:=by omega
  simp only[execOp,ho.op,Instr.sliceAt,Instr.slice,Option.map]
  simp[ha.eval hx,ha.eval hy,ha.eval hz,ha.eval hu,Ar hty,CA hsz,Instr.sliceBounds,Instr.sliceBound,asIntOf,hq,hle,hne,By]) h
theorem Bn.piece{α:Type}{enc:α→List Value}{sz b off n cap:Nat}{xs:List α}(h:Bn K w0 enc sz (.slice (some ⟨b,off,none⟩) n cap) xs)(p q:Nat)(hpq:p≤q)(hq:q≤xs.length):Bn K w0 enc sz (.slice (some ⟨b,off+p*sz,none⟩) (q-p) (q-p)) ((xs.drop p).take (q-p)):=by
 have hl:((xs.drop p).take (q-p)).length=q-p:=by simp;omega
 refine⟨h.len,?_⟩
 rcases h.at_ with⟨a0,e,rfl⟩ | ⟨b',off',cap',e,hcap,hc⟩
 have:q=0:=by simpa using hq
 subst this
 obtain rfl:p=0:=by omega
 exact .inl ⟨_,rfl,by simp⟩
 simp only[Value.slice.injEq,Option.some.injEq,Addr.mk.injEq]at e
 obtain⟨⟨rfl,rfl,_⟩,_,_⟩:=e
 refine .inr ⟨b,off+p*sz,q-p,by rw[hl],by omega,fun j u hu=>?_⟩
 have hfl:(xs.take p).flatMap enc++(((xs.drop p).take (q-p)).flatMap enc++((xs.drop p).drop (q-p)).flatMap enc)=xs.flatMap enc:=by
  rw[←List.flatMap_append,List.take_append_drop,←List.flatMap_append,List.take_append_drop]
 have hj:j<(((xs.drop p).take (q-p)).flatMap enc).length:=(List.getElem?_eq_some_iff.1 hu).1
 have hpl:((xs.take p).flatMap enc).length=p*sz:=by
  rw[Hg h.len,List.length_take,Nat.min_eq_left zO]
 have:=hc (p*sz+j) u (by
  rw[←hfl,List.getElem?_append_right zO,hpl,Nat.add_sub_cancel_left,List.getElem?_append_left hj]
  exact hu)
 rw[Nat.add_assoc]
 exact this
end

/- A planter's page, wherever its pages are put. Condition: the plain functions yield. -/
section
variable {K:Nat→Prop}{w0:World}{H:List AT}
theorem DP{A B R M:List AT}{w:World}(h:BJ K w0 ((A++(B++R))++M) w):BJ K w0 ((B++(A++R))++M) w:=by
 refine h.perm (List.Perm.append_right _ ?_)
 rw[←List.append_assoc,←List.append_assoc]
 exact List.Perm.append_right _ List.perm_append_comm
structure FX where
 out:List A5
 wrong:Int
abbrev SF(σ:Type):=σ→List UInt8→Option ((Af×Int)×σ)
def Zr{σ:Type}(T:List UInt32)(fid:FuncId)(cs:Array Value)(C:Value→σ→List AT)(wh:SF σ):Prop:=
 ∀(K:Nat→Prop) (w0:World) (H:List AT) (a:Value) (q:σ) (s:List UInt8) (r:(Af×Int)×σ),GJ K w0 T→wh q s=some r→
  BH Tryz.prog K w0 fid (vS s::cs.toList) (C a q) H (fun u M=>u=.tuple #[.agg (Ae r.1.1).toArray,vI r.1.2]∧∃a',M=C a' r.2)
def ML{σ:Type}(e:List UInt8)(p:FX)(w:Af×Int×σ):Option (Af×(FX×σ)):=
 cond (!decide (w.2.1=0)) (some (⟨0,[]⟩,({ p with wrong:=w.2.1 },w.2.2))) ((CT 40 p.out [⟨e,w.1.page,w.1.tag⟩]).bind fun l=>some (w.1,({ p with out:=l },w.2.2)))
def FB{σ:Type}(n:Nat)(wh:SF σ)(x:Bj)(p:FX)(q:σ):Option (Af×(FX×σ)):=
 cond (!decide (p.wrong=0)) (some (⟨0,[]⟩,(p,q)))
  ((Dj n x).bind fun e=>cond (decide (e.2=0)) ((wh q e.1).bind fun w=>ML e.1 p (w.1.1,w.1.2,w.2)) (ML e.1 p (⟨0,[]⟩,e.2,q)))
abbrev Io(bp:Nat)(fw vo:Value)(p:FX):AT:=AI bp (.cells #[fw,vo,vI p.wrong] 106)
theorem Pk{σ:Type}{C:Value→σ→List AT}{wh:SF σ}{fid:FuncId}{cs:Array Value}{T:List UInt32}{n bp:Nat}{vo v4 v5 a:Value}{x:Bj}{p:FX}{q:σ}{r:Af×(FX×σ)}(hcal:AQ Tryz.prog fid=true)(hwh:Zr T fid cs C wh)(hS:GJ K w0 T)
(h:FB n wh x p q=some r)(hs4:Bn K w0 AK 4 v4 x.rows)(hs5:Bn K w0 Ae 2 v5 x.kids):
  BH Tryz.prog K w0 85 [vP bp 0,.agg #[vI x.kind,Z x.cx,Z x.cy,vI x.lev,v4,v5,Z x.npage,vS x.ntag]] (Io bp (.func (.func fid) #[] cs) vo p::AE 72 3 vo An p.out::C a q) H
   (fun u M=>u=.agg (Ae r.1).toArray∧∃vo' a',M=Io bp (.func (.func fid) #[] cs) vo' r.2.1::AE 72 3 vo' An r.2.1.out::C a' r.2.2):=by
 unfold FB at h
 refine BH.enter Tryz.func85 rfl rfl ?_
 show SX _ _ _ _ _ _ _ _ _ (Io bp (.func (.func fid) #[] cs) vo p::AE 72 3 vo An p.out::(C a q++H))
 refine V ?_
 refine BU zR zR (fun _=>trivial) fun b0=>?_
 refine Ah zR DQ (fun _=>trivial) fun b1=>?_
 refine U (AD (V (E zR (AW zR zR (AB zR Oc (AC 2 Sl zR (O zR Bh (U ?_))))))))
 refine AG zR (fun hc1=>?_) (fun hc1=>?_)
 replace h:=cT hc1 h
 obtain rfl:=Option.some.inj h
 refine V (BL [] zR K4 Kv DQ zT zR (Am 0 zR zR zR zR C2 zR zR zR zT (U (AM (Ab ?_)))))
 exact AU (Dx zR (BG 0 (Ae ⟨0,[]⟩) CR zR zR zR zR)) (AV (M:=_::_::C a q) ⟨zR,vo,a,zR⟩ fun _ hw=>BJ.pick (H:=[_,_,_,_]) hw [2,3] 4 zR)
 replace h:=cF hc1 h
 obtain⟨e,he,h⟩:=bnd h
 refine AH (AF (V (Aa [vI x.kind,Z x.cx,Z x.cy,vI x.lev,v4,v5,Z x.npage,vS x.ntag] zR K8 zR zR (AZ 1 zR) (AX 0 nh (Wy he hs4 hs5) zR (E zR (Ap zR zR zR (Ap zR zR zR (J zR (J zR (U (V ?_)))))))))))
 refine Ah zR DQ (fun _=>trivial) fun b2=>?_
 refine U ?_
 refine A1 (α:=Af×Int×σ×Value) (fun w=>ML e.1 p (w.1,w.2.1,w.2.2.1)=some r) (fun w=>[(0,vP bp 0),(4,vP b1 0),(5,vS e.1),(6,vI w.2.1),(7,vP b2 0)])
  (fun w=>AI b2 (.cells #[Z w.1.page,vS w.1.tag] 31)::AI b1 (.cells #[Z 0,vS []] 31)::Io bp (.func (.func fid) #[] cs) vo p::AE 72 3 vo An p.out::(C w.2.2.2 w.2.2.1++H)) ?_ (fun w D h=>?_)
 refine V (E zR (O zR Bq (U ?_)))
 refine AG zR (fun hc2=>?_) (fun hc2=>?_)
 replace h:=cT hc2 h
 obtain⟨w,hw1,h⟩:=bnd h
 refine AJ (E zR (AW zR zR (AB zR iq (AC 3 qZ zR (E zR ?_)))))
 refine SL.heap (H':=C a q++([_,_,_,_,_]++H)) ?_ (fun _ hw=>DP (A:=[_,_,_,_,_]) (B:=C a q) (R:=H) hw)
 refine AP (vs:=[_]) (Hin:=C a q) (Hr:=[_,_,_,_,_]++H) zR zR ⟨zR,zT⟩ hcal zR zR (hwh K w0 _ a q e.1 w hS hw1) ?_
 rintro _ _ ⟨rfl,a1,rfl⟩
 refine⟨trivial,?_⟩
 refine SL.heap ?_ (fun _ hw=>DP (A:=C a1 w.2) (B:=[_,_,_,_,_]) (R:=H) hw)
 refine E zR (Ap zR zR zR (Ap zR zR zR (Am 0 zR zR zR zR C2 zR zR zR zT (J zR (AS ?_)))))
 exact Av (w.1.1,w.1.2,w.2,a1) h tL (fun _ hw=>BJ.pick (H:=[_,_,_,_,_]) hw [0,1,3,4] 5 zR)
 replace h:=cF hc2 h
 refine AH ?_
 exact Av (⟨0,[]⟩,e.2,q,a) h tL (fun _ hw=>BJ.pick (H:=[_,_,_,_,_]) hw [0,1,3,4] 5 zR)
 obtain⟨w,we,q1,a1⟩:=w
 unfold ML at h
 dsimp only at h
 refine A4 [(0,vP bp 0),(4,vP b1 0),(5,vS e.1),(6,vI we),(7,vP b2 0)] (AI b2 (.cells #[Z w.page,vS w.tag] 31)::AI b1 (.cells #[Z 0,vS []] 31)::Io bp (.func (.func fid) #[] cs) vo p::AE 72 3 vo An p.out::(C a1 q1++H)) ?_ tL
 refine AD (V (E zR (O zR Bh (U ?_))))
 refine AG zR (fun hc3=>?_) (fun hc3=>?_)
 replace h:=cT hc3 h
 obtain rfl:=Option.some.inj h
 refine V (E zR (E zR (AW zR zR (AB zR Oc (Am 2 zR zR zR zR jo zR zR zR zT (U (V (BL [] zR K4 Kv DQ zT zR (Am 1 zR zR zR zR C2 zR zR zR zT (U (AM (Ab ?_))))))))))))
 exact AU (Dx zR (BG 1 (Ae ⟨0,[]⟩) CR zR zR zR zR)) (AV (M:=_::_::C a1 q1) ⟨zR,vo,a1,zR⟩ fun _ hw=>BJ.pick (H:=[_,_,_,_]) hw [2,3] 4 zR)
 replace h:=cF hc3 h
 obtain⟨l,hl,h⟩:=bnd h
 obtain rfl:=Option.some.inj h
 refine AH (AF (AD (Aj CJ [0,2] (BY [(true,0),(true,1),(true,2),(true,3),(true,4),(true,5),(true,6),(true,7),(false,8),(false,9),(true,10),(true,11)] (.last 12 .nil)) zK (E zR (E zR (AW zR zR (AB zR V7 (AC 1 MB zR (E zR (Aa (Ae w) zR CR zR zR (AZ 0 zR) ?_))))))))))
 refine BL [_,_] zR fZ fU Ol ⟨zR,zR,zT⟩ zR ?_
 refine Bd [_] rfl HG LQ Ol ⟨rfl,trivial⟩ rfl rfl rfl (by first | (simp[Value.cells];done) | (intro v hv;simp only[List.mem_cons,List.not_mem_nil,or_false]at hv;rcases hv with rfl<;>rfl)) rfl rfl (fun _=>⟨⟨1,rfl⟩,⟨3,rfl⟩,trivial⟩) fun b3=>?_
 refine Bi An 3 ([(⟨e.1,w.page,w.tag⟩:A5)]:List A5) zR (fun _=>rfl) zR ?_
 refine B7 4 hl (sz:=3) (enc:=An) (fun _=>rfl) zR HG LQ fD Ol zR zD zR zR zR zR (Ba (sz:=3) (enc:=An) 0 (fun _=>rfl) zR) (by simp[An,Value.oneCell']) (fun _=>⟨⟨1,zR⟩,⟨3,zR⟩,zT⟩) fun v3=>?_
 refine AW zR zR (AB zR V7 (BE ?_))
 refine B6 4 zR fun hv3 ho3=>?_
 refine DW 3 zR zR zR zR f7 hv3 ho3 zR zT (U (V (Aa (Ae w) zR CR zR zR (AZ 1 zR) (Am 2 zR zR zR zR C2 zR zR zR zT (U (AM ?_))))))
 exact AU (Dx zR (BG 2 (Ae w) CR zR zR zR zR)) (AV (M:=_::_::C a1 q1) ⟨zR,v3,a1,zR⟩ fun _ hw=>BJ.pick (H:=[_,_,_,_,_]) hw [3,4] 5 zR)
end

/- Rows in pieces of four: slices.Chunk. Condition: at most 2^20 rows. -/
section
variable {K:Nat→Prop}{w0:World}{H:List AT}
abbrev Kc:=Wq×List AN
def HS(a:Kc):List Value:=[a.1.val]
def QT(b off:Nat)(l:List AN)(i:Nat):Kc:=
 (⟨some ⟨b,off+4*i*4,none⟩,min (4*i+4) l.length-4*i,min (4*i+4) l.length-4*i⟩,(l.drop (4*i)).take (min (4*i+4) l.length-4*i))
def Iq(b off:Nat)(l:List AN)(n:Nat):List Kc:=(List.range n).map (QT b off l)
def J4(b off:Nat)(l:List AN):List Kc:=Iq b off l ((l.length+3) / 4)
theorem aW{b off n cap:Nat}{l:List AN}(h:Bn K w0 AK 4 (.slice (some ⟨b,off,none⟩) n cap) l):∀a∈J4 b off l,Bn K w0 AK 4 a.1.val a.2:=by
 intro a ha
 obtain⟨i,hi,rfl⟩:=List.mem_map.1 ha
 have hi':=List.mem_range.1 hi
 exact h.piece (4*i) (min (4*i+4) l.length) zO zO
theorem XP(b off:Nat)(l:List AN)(n:Nat):Iq b off l (n+1)=Iq b off l n++[QT b off l n]:=by
 simp[Iq,List.range_succ]
theorem Vq(b off:Nat)(l:List AN)(k:Nat)(h:4*k<l.length):∃suf,J4 b off l=Iq b off l k++QT b off l k::suf:=by
 obtain⟨m,hm⟩:∃m,(l.length+3) / 4=k+1+m:=⟨(l.length+3) / 4-(k+1),by omega⟩
 refine⟨(List.range m).map fun j=>QT b off l (k+1+j),?_⟩
 rw[J4,hm,Iq,List.range_add,List.map_append,List.map_map,List.range_succ,List.map_append,List.append_assoc]
 rfl
theorem aw{b1 b2 b off cap:Nat}{l:List AN}{G0:List AT}(hl:l.length≤1048576)(hs:Bn K w0 AK 4 (.slice (some ⟨b,off,none⟩) l.length cap) l)(hcap:l.length≤cap):
  N0 Tryz.prog K w0 173 [vP b1 0,vP b2 0] [AI b1 (.cells #[.slice (some ⟨b,off,none⟩) l.length cap] 35),AI b2 (.cells #[vI 4] 3)] G0 HS (J4 b off l):=by
 intro lp J9 X T rc hy h0
 refine BH.enter Tryz.func173 rfl rfl ?_
 show SX _ _ _ _ _ _ _ _ _ (AI b1 (.cells #[.slice (some ⟨b,off,none⟩) l.length cap] 35)::AI b2 (.cells #[vI 4] 3)::((rc::G0)++T))
 refine V (J zR (U (AL ?_)))
 refine SX.mono (Ay (α:=Nat×List AT) (fun x=>4*x.1≤l.length+3∧J9 (Iq b off l x.1) x.2) (fun x=>[(0,vY lp),(1,vP b1 0),(2,vP b2 0),(4,vI ((4*x.1:Nat):Int))])
  (fun x=>AI b1 (.cells #[.slice (some ⟨b,off,none⟩) l.length cap] 35)::AI b2 (.cells #[vI 4] 3)::(x.2++T)) (fun x=>l.length-x.1) (fun x D hp=>?_) (0,rc::G0) ⟨by omega,h0⟩) tL
 obtain⟨k,G⟩:=x
 obtain⟨hk,hJ⟩:=hp
 dsimp only at hk hJ ⊢
 refine AD (V (E zR (AC 0 Em zR (L4 zR Bf zR (O zR Ao (U ?_))))))
 refine AG zR (fun hc1=>?_) (fun hc1=>?_)
 have hlt:4*k<l.length:=by
  have:=of_decide_eq_true hc1
  omega
 clear hc1
 obtain⟨suf,hsp⟩:=Vq b off l k hlt
 refine AH (AF (AD (AL (AD (Aj CJ [0,1] (Pl.of [(true,0),(true,1),(true,2),(true,3),(true,4),(true,5),(true,6)]) zK (AC 1 DT zR (AC 0 Em zR (E zR (al (4*k) zR Bf Bo zR zR zR zO zO (L4 zR Bf zR (Oe zR zR zR (J zR (U (V ?_))))))))))))))
 refine E zR (AC 0 Em zR (E zR (E zR (E zR (O zR (BA zO zO) (E zR (E zR ?_)))))))
 refine O zR (BA zO zO) (lk (4*k) (min (4*k+4) l.length) zR Bf Bo zR zR zR zR zR zO zO zO zO ?_)
 refine HX (M2:=[_,_]) (G:=G) (T:=T) (vs:=[_]) (ok:=fun G1=>J9 (Iq b off l (k+1)) G1) (no:=X) zR zR ⟨zR,zT⟩ zR ?_ (fun bb G1 hG1=>⟨zT,?_⟩)
 intro M
 have:=hy (Iq b off l k) (QT b off l k) suf hsp G hJ M
 rw[←XP]at this
 exact this
 refine B9 zR zR (U ?_)
 refine AG zR (fun hc3=>?_) (fun hc3=>?_)
 obtain rfl:bb=false:=by simpa using hc3
 refine AM (BM (Ab (DD (BM ?_))))
 exact AU (C7 zR) (AV (M:=G1) (.inr hG1) fun _ h=>h.skip [_,_])
 obtain rfl:bb=true:=by simpa using hc3
 refine AH (Ai (AF (AJ (E zR (AC 1 DT zR (O zR (BA zO zO) ?_))))))
 refine Ak (u:=vI ((4*(k+1):Nat):Int)) zR zR (congrArg vI zO) ?_
 refine AS ?_
 exact Ac (k+1,G1) ⟨by omega,hG1⟩ (by dsimp only;omega) tL (fun _ hw=>BJ.pick (H:=[_,_]) hw [0,1] 2 zR)
 have hge:l.length≤4*k:=by
  have:=of_decide_eq_false hc1
  omega
 have hkk:(l.length+3) / 4=k:=by omega
 refine Al (Aw (A9 (Au ?_)))
 exact CQ (C7 zR) (AV (M:=G) (.inl (by rw[J4,hkk];exact hJ)) fun _ h=>h.skip [_,_])
end

/- Pieces collected, and gone through from the last: slices.Chunk, Collect, AppendSeq, Backward. Condition: at most 2^20 pieces. -/
section
variable {K:Nat→Prop}{w0:World}{H:List AT}
theorem eK{α:Type}{by_:Nat}{xs:List α}{x:α}(h:xs.length+1≤1048576)(hb:by_≤1024):CT by_ xs [x]=some (xs++[x]):=by
 have h1:(xs.length+1)*by_≤1048576*1024:=Nat.mul_le_mul h hb
 rw[CT,if_pos ⟨by simp only[List.length_cons,List.length_nil,Nat.zero_add];omega,by simp only[List.length_cons,List.length_nil,Nat.zero_add];omega⟩]
theorem gv(a:Kc)(u:Value)(h:u∈HS a):u.oneCell'=true:=by
 obtain rfl:u=a.1.val:=by simpa[HS]using h
 rfl
theorem kU{v:Value}:BH Tryz.prog K w0 128 [v,vI 4] [] H (fun u M=>∃b1 b2:Nat,u=.func (.func 173) #[] #[vP b1 0,vP b2 0]∧M=[AI b1 (.cells v.cells 35),AI b2 (.cells #[vI 4] 3)]):=by
 refine BH.enter Tryz.func128 rfl rfl ?_
 refine V ?_
 refine BU zR zR (fun _=>trivial) fun b1=>?_
 refine BU zR zR (fun _=>trivial) fun b2=>?_
 refine J zR (U (AD (V (AC 0 DT zR (O zR Ao (U (DE zR (AH (AF (V ?_))))))))))
 refine GD (fv:=#[]) (cv:=#[_,_]) zR zR zR ?_
 refine J zR (U (AM ?_))
 exact AU (Co zR zR) (AV (M:=[_,_]) ⟨_,_,zR,zR⟩ fun _ hw=>BJ.pick (H:=[_,_]) hw [1,0] 2 zR)
theorem Yg{f:FuncId}{cap:List Value}{Hit:List AT}{xs:List Kc}(hcal:AQ Tryz.prog f=true)(hn:xs.length≤1048576)(hseq:∀G0,N0 Tryz.prog K w0 f cap Hit G0 HS xs):
  BH Tryz.prog K w0 172 [.slice none 0 0,.func (.func f) #[] cap.toArray] Hit H (fun u M=>∃v0:Value,u=v0∧M=[AE 35 1 v0 HS xs]):=by
 refine BH.enter Tryz.func172 rfl rfl ?_
 refine V ?_
 refine BU zR zR (fun _=>trivial) fun b0=>?_
 refine J zR (U (OY 35 1 HS (SX.pick [1,0] 2 (AD (V (E zR (U (AL ?_))))))))
 refine SX.heap (L6 (enc:=HS) xs (G0:=AI b0 (.cells #[.slice none 0 0] 200)::AE 35 1 (.slice none 0 0) HS []::H) (fun pre G=>∃vr:Value,G=AI b0 (.cells #[vr] 200)::AE 35 1 vr HS pre::H) (fun _ _=>False) zR hcal zR (fun _=>rfl) (hseq _) zR ⟨_,zR⟩ (fun pre x suf G hxs hJ r lp Rest=>?_) (fun G D hJ=>?_) (fun c G D hX=>hX.elim)) (fun _ hw=>DP (A:=[_,_]) (B:=Hit) (R:=H) hw)
 obtain⟨vr,rfl⟩:=hJ
 have hlen:pre.length+1≤1048576:=by
  have:=congrArg List.length hxs
  simp only[List.length_append,List.length_cons]at this
  omega
 refine AJ (J zR (AS ?_))
 refine KL (G:=AI b0 (.cells #[vr] 200)::AE 35 1 vr HS pre::H) ?_
 refine AL (AJ (AC 0 Zs zR (E zR ?_)))
 refine Bd [_] rfl UB Ki j0 ⟨rfl,trivial⟩ rfl rfl rfl (by intro v hv;simp only[List.mem_cons,List.not_mem_nil,or_false]at hv;rcases hv with rfl;rfl) rfl rfl (fun _=>trivial) fun b1=>?_
 refine Bi HS 1 ([x]:List Kc) zR (fun _=>rfl) zR ?_
 refine B7 2 (eK hlen (by decide:24≤1024)) (sz:=1) (enc:=HS) (fun _=>rfl) zR UB Ki qh j0 zR zD zR zR zR zR (Ba (sz:=1) (enc:=HS) 0 (fun _=>rfl) zR) gv (fun _=>trivial) fun v3=>?_
 refine B6 2 zR fun hv3 ho3=>?_
 refine DW 1 zR zR zR zR qD hv3 ho3 zR zT (AS (Ai ?_))
 exact HK ⟨v3,zR⟩ (fun _ hw=>BJ.pick (H:=[_,_,_]) hw [1,2] 3 zR)
 obtain⟨vr,rfl⟩:=hJ
 refine Ai (AF (V (AC 0 Zs zR (J zR (U (AM ?_))))))
 exact AU (Co zR zR) (AV (M:=[_]) ⟨_,zR,zR⟩ fun _ hw=>BJ.pick (H:=[_,_]) hw [1] 2 zR)
theorem dK{f:FuncId}{cap:List Value}{Hit:List AT}{xs:List Kc}(hcal:AQ Tryz.prog f=true)(hn:xs.length≤1048576)(hseq:∀G0,N0 Tryz.prog K w0 f cap Hit G0 HS xs):
  BH Tryz.prog K w0 127 [.func (.func f) #[] cap.toArray] Hit H (fun u M=>∃v0:Value,u=v0∧M=[AE 35 1 v0 HS xs]):=by
 refine BH.enter Tryz.func127 rfl rfl ?_
 refine V (J zR (U (V (E zR ?_))))
 refine AP (vs:=[_,_]) (Hin:=Hit) (Hr:=_) zR zR ⟨zR,zR,zT⟩ mO zR zR (Yg hcal hn hseq) ?_
 rintro v1 _ ⟨_,rfl,rfl⟩
 refine⟨trivial,?_⟩
 refine J zR (U (AM ?_))
 exact AU (Co zR zR) (AV (M:=[_]) ⟨_,zR,zR⟩ fun _ hw=>BJ.pick (H:=[_]) hw [0] 1 zR)
end

/- A row of pieces, gone through from the last: slices.Backward. Condition: at most 2^20 pieces. -/
section
variable {K:Nat→Prop}{w0:World}{H:List AT}
def EB{α:Type}(xs:List α):List (Int×α):=(xs.zipIdx.map fun p=>((p.2:Int),p.1)).reverse
theorem IF{α:Type}(xs:List α):(EB xs).length=xs.length:=by simp[EB]
theorem Vm{α:Type}(xs:List α)(k:Nat)(h:k<xs.length):(EB xs)[k]'(by rw[IF];exact h)=(((xs.length-1-k:Nat):Int),xs[xs.length-1-k]' zO):=by
 simp[EB,List.getElem_reverse,List.getElem_map,List.getElem_zipIdx]
theorem X3{α:Type}(ys:List α)(k:Nat)(h:k<ys.length):ys=ys.take k++ys[k]::ys.drop (k+1):=by
 rw[←List.drop_eq_getElem_cons h,List.take_append_drop]
theorem VW{α:Type}(ys:List α)(k:Nat)(h:k<ys.length):ys.take k++[ys[k]]=ys.take (k+1):=by
 rw[List.take_add_one,List.getElem?_eq_getElem h]
 rfl
def lC(a:Int×Kc):List Value:=[vI a.1,a.2.1.val]
theorem lY{bx:Nat}{va:Value}{xs:List Kc}{G0:List AT}(hn:xs.length≤1048576):
  N0 Tryz.prog K w0 174 [vP bx 0] [AI bx (.cells #[va] 200),AE 35 1 va HS xs] G0 lC (EB xs):=by
 intro lp J9 X T rc hy h0
 refine BH.enter Tryz.func174 rfl rfl ?_
 show SX _ _ _ _ _ _ _ _ _ (AI bx (.cells #[va] 200)::AE 35 1 va HS xs::((rc::G0)++T))
 refine V ?_
 refine B6 1 zR fun hva hoa=>?_
 refine AC 0 Zs zR (DC 1 zR UB zR zR (O zR (Cy zO zO) (J zR (U (AL ?_)))))
 refine SX.mono (Ay (α:=Nat×List AT) (fun x=>x.1≤xs.length∧J9 ((EB xs).take x.1) x.2) (fun x=>[(0,vY lp),(1,vP bx 0),(3,vI ((xs.length:Int)-1-(x.1:Int)))])
  (fun x=>AI bx (.cells #[va] 200)::AE 35 1 va HS xs::(x.2++T)) (fun x=>xs.length-x.1) (fun x D hp=>?_) (0,rc::G0) ⟨Nat.zero_le _,h0⟩) (by simpa using tL)
 obtain⟨k,G⟩:=x
 obtain⟨hk,hJ⟩:=hp
 dsimp only at hk hJ ⊢
 refine AD (V (E zR (O zR LN (U ?_))))
 refine AG zR (fun hc1=>?_) (fun hc1=>?_)
 have hlt:k<xs.length:=by
  have:=of_decide_eq_true hc1
  omega
 clear hc1
 have hb:k<(EB xs).length:=by rw[IF];exact hlt
 have hget:=Vm xs k hlt
 have hx:Aq xs ((xs.length:Int)-1-(k:Int))=some (xs[xs.length-1-k]' zO):=by
  rw[Aq,if_pos zO,show((xs.length:Int)-1-(k:Int)).toNat=xs.length-1-k by omega]
  exact List.getElem?_eq_getElem _
 refine AH (AF (AD (AL (V (E zR (E zR (AC 0 Zs zR (E zR ?_))))))))
 refine BF 1 hx zR UB Ki zR zR zR fun g1 m1 cp1 hv1=>?_
 refine BR zR Em zR (BW (sz:=1) (enc:=HS) 1 0 (fun _=>rfl) zR hv1 hx zR) ?_
 refine HX (M2:=[_,_]) (G:=G) (T:=T) (vs:=[_,_]) (ok:=fun G1=>J9 ((EB xs).take (k+1)) G1) (no:=X) zR zR ⟨zR,zR,zT⟩ zR ?_ (fun bb G1 hG1=>⟨zT,?_⟩)
 intro M
 have:=hy ((EB xs).take k) ((EB xs)[k]) ((EB xs).drop (k+1)) (X3 _ k hb) G hJ M
 rw[VW _ k hb,hget]at this
 rw[show((xs.length:Int)-1-(k:Int))=((xs.length-1-k:Nat):Int) by omega]
 exact this
 refine B9 zR zR (U ?_)
 refine AG zR (fun hc3=>?_) (fun hc3=>?_)
 obtain rfl:bb=false:=by simpa using hc3
 refine AM (BM (Ab (DD (BM ?_))))
 exact AU (C7 zR) (AV (M:=G1) (.inr hG1) fun _ h=>h.skip [_,_])
 obtain rfl:bb=true:=by simpa using hc3
 refine AH (Ai (AF (AJ (E zR (O zR (Cy zO zO) ?_)))))
 refine Ak (u:=vI ((xs.length:Int)-1-((k+1:Nat):Int))) zR zR (congrArg vI zO) ?_
 refine AS ?_
 exact Ac (k+1,G1) ⟨hlt,hG1⟩ (by dsimp only;omega) tL (fun _ hw=>BJ.pick (H:=[_,_]) hw [0,1] 2 zR)
 have hge:k=xs.length:=by
  have:=of_decide_eq_false hc1
  omega
 subst hge
 rw[List.take_of_length_le (by rw[IF];exact Nat.le_refl _)]at hJ
 refine Al (Aw (A9 (Au ?_)))
 exact CQ (C7 zR) (AV (M:=G) (.inl hJ) fun _ h=>h.skip [_,_])
theorem nQ{va:Value}(hva:va.cells=#[va]):BH Tryz.prog K w0 129 [va] [] H (fun u M=>∃bx:Nat,u=.func (.func 174) #[] #[vP bx 0]∧M=[AI bx (.cells #[va] 200)]):=by
 refine BH.enter Tryz.func129 rfl rfl ?_
 refine V ?_
 refine BU zR zR (fun _=>trivial) fun b1=>?_
 rw[hva]
 refine J zR (U (V ?_))
 refine GD (fv:=#[]) (cv:=#[_]) zR zR zR ?_
 refine J zR (U (AM ?_))
 exact AU (Co zR zR) (AV (M:=[_]) ⟨_,zR,zR⟩ fun _ hw=>BJ.pick (H:=[_]) hw [0] 1 zR)
end

/- Rows in pieces of four, the last one ahead: grove.pieces. Condition: at most 2^20 rows. -/
section
variable {K:Nat→Prop}{w0:World}{H:List AT}
theorem WP{α:Type}(xs:List α):(EB xs).map (·.2)=xs.reverse:=by
 rw[EB,List.map_reverse,List.map_map]
 congr 1
 have:((fun x:Int×α=>x.2)∘fun p:α×Nat=>((p.2:Int),p.1))=Prod.fst:=rfl
 rw[this,List.zipIdx_map_fst]
def NS(v:Value)(l:List AN):List Kc:=
 match v,l with
 | _,[]=>[(⟨none,0,0⟩,[])]
 | .slice (some a) _ _,l=>J4 a.block a.off l
 | _,l=>[]
theorem UC(v:Value):NS v []=[(⟨none,0,0⟩,[])]:=by cases v<;>rfl
theorem M4{b off n c:Nat}{l:List AN}(h:l≠[]):NS (.slice (some ⟨b,off,none⟩) n c) l=J4 b off l:=by
 cases l with
 | nil=>exact absurd rfl h
 | cons _ _=>rfl
theorem i6{v:Value}{l:List AN}(h:Bn K w0 AK 4 v l):∀a∈NS v l,Bn K w0 AK 4 a.1.val a.2:=by
 by_cases hl:l=[]
 subst hl
 rw[UC]
 intro a ha
 obtain rfl:=List.mem_singleton.1 ha
 exact⟨h.len,.inl ⟨_,rfl,rfl⟩⟩
 rcases h.at_ with⟨_,_,e⟩ | ⟨b,off,cap,rfl,hc,hcell⟩
 exact absurd e hl
 rw[M4 hl]
 exact aW h
theorem Xt{b1 b2:Nat}{a:Option Addr}{G0:List AT}:
  N0 Tryz.prog K w0 173 [vP b1 0,vP b2 0] [AI b1 (.cells #[.slice a 0 0] 35),AI b2 (.cells #[vI 4] 3)] G0 HS []:=by
 intro lp J9 X T rc hy h0
 refine BH.enter Tryz.func173 rfl rfl ?_
 show SX _ _ _ _ _ _ _ _ _ (AI b1 (.cells #[.slice a 0 0] 35)::AI b2 (.cells #[vI 4] 3)::((rc::G0)++T))
 refine V (J zR (U (AL ?_)))
 refine SX.mono (Ay (α:=Unit) (fun _=>True) (fun _=>[(0,vY lp),(1,vP b1 0),(2,vP b2 0),(4,vI 0)])
  (fun _=>AI b1 (.cells #[.slice a 0 0] 35)::AI b2 (.cells #[vI 4] 3)::((rc::G0)++T)) (fun _=>0) (fun x D hp=>?_) () trivial) tL
 refine AD (V (E zR (AC 0 Em zR (L4 zR Bf zR (O zR Ao (U (DE zR (Al (Aw (A9 (Au ?_)))))))))))
 exact CQ (C7 zR) (AV (M:=rc::G0) (.inl h0) fun _ h=>h.skip [_,_])
def GT(v:Value)(l:List AN):List Kc:=if l=[]then[]else NS v l
theorem iS{b1 b2:Nat}{v:Value}{l:List AN}(hl:l.length≤1048576)(hs:Bn K w0 AK 4 v l)(G0:List AT):
  N0 Tryz.prog K w0 173 [vP b1 0,vP b2 0] [AI b1 (.cells v.cells 35),AI b2 (.cells #[vI 4] 3)] G0 HS (GT v l):=by
 by_cases h0:l=[]
 subst h0
 rw[GT,if_pos rfl]
 rcases hs.at_ with⟨a,rfl,_⟩ | ⟨b,off,cap,rfl,_⟩
 exact Xt
 rcases hs.at_ with⟨a,e,_⟩ | ⟨b',off',cap',e,hc,hcell⟩
 rw[e]
 exact Xt
 have:=aw (G0:=G0) (b1:=b1) (b2:=b2) (cap:=cap) hl hs zS
 exact this
 rcases hs.at_ with⟨_,_,e⟩ | ⟨b,off,cap,rfl,hc,hcell⟩
 exact absurd e h0
 rw[GT,if_neg h0,M4 h0]
 exact aw hl hs hc
theorem Pp(b off:Nat)(l:List AN):(J4 b off l).length=(l.length+3) / 4:=by simp[J4,Iq]
theorem Uo{v:Value}{l:List AN}(hs:Bn K w0 AK 4 v l)(hl:l.length≤1048576):(GT v l).length≤1048576:=by
 by_cases h0:l=[]
 rw[GT,if_pos h0];simp
 rcases hs.at_ with⟨_,_,e⟩ | ⟨b,off,cap,rfl,hc,hcell⟩
 exact absurd e h0
 rw[GT,if_neg h0,M4 h0,Pp]
 omega
theorem Vr{v:Value}{l:List AN}(hs:Bn K w0 AK 4 v l):(if(GT v l).length=0 then[((⟨none,0,0⟩:Wq),([]:List AN))]else GT v l)=NS v l:=by
 by_cases h0:l=[]
 subst h0
 rw[GT,if_pos rfl,UC]
 rfl
 rcases hs.at_ with⟨_,_,e⟩ | ⟨b,off,cap,rfl,hc,hcell⟩
 exact absurd e h0
 have hp:0<l.length:=List.length_pos_iff.2 h0
 rw[GT,if_neg h0,M4 h0,if_neg (by rw[Pp];omega)]
end

/- The range over rows' pieces: grove.pieces. Condition: at most 2^20 rows. -/
section
variable {K:Nat→Prop}{w0:World}{H:List AT}
theorem Bn.one{α:Type}{enc:α→List Value}{sz:Nat}{v:Value}{xs:List α}(h:Bn K w0 enc sz v xs):v.cells=#[v]:=by
 rcases h.at_ with⟨_,rfl,_⟩ | ⟨_,_,_,rfl,_⟩<;>rfl
theorem hC{bx:Nat}{v:Value}{l:List AN}{G0:List AT}(hl:l.length≤1048576)(hs:Bn K w0 AK 4 v l):
  N0 Tryz.prog K w0 126 [vP bx 0] [AI bx (.cells #[v] 35)] G0 HS (NS v l).reverse:=by
 intro lp J9 X T rc hy h0
 refine BH.enter Tryz.func126 rfl rfl ?_
 show SX _ _ _ _ _ _ _ _ _ (AI bx (.cells #[v] 35)::((rc::G0)++T))
 have hlen:=Uo hs hl
 refine V ?_
 refine BU zR zR (fun _=>trivial) fun b0=>?_
 refine U (V (AC 1 Em zR ?_))
 refine AP (vs:=[_,_]) (Hin:=[]) (Hr:=_::_::_) zR zR ⟨zR,zR,zT⟩ lO zR zR kU ?_
 rintro _ _ ⟨b1,b2,rfl,rfl⟩
 refine⟨trivial,?_⟩
 refine AP (vs:=[_]) (Hin:=[_,_]) (Hr:=_::_::_) zR zR ⟨zR,zT⟩ nb zR zR (dK (cap:=[vP b1 0,vP b2 0]) mj hlen (fun G0=>iS hl hs G0)) ?_
 rintro va _ ⟨_,rfl,rfl⟩
 refine⟨trivial,?_⟩
 refine J zR (U ?_)
 refine A1 (α:=Value×List Kc) (fun x=>x.2=NS v l) (fun x=>[(0,vY lp),(2,vP b0 0),(3,x.1)]) (fun x=>AE 35 1 x.1 HS x.2::AI b0 (.cells #[vY lp] 46)::((rc::G0)++T)) ?_ (fun x D hx=>?_)
 refine V (E zR (DC 0 zR UB zR zR (O zR Bq (U ?_))))
 refine AG zR (fun hc1=>?_) (fun hc1=>?_)
 have hz:(GT v l).length=0:=by
  have:=of_decide_eq_true hc1
  omega
 refine AJ ?_
 refine Bd [_] zR UB Ki j0 ⟨zR,zT⟩ zR zR zR (by simp[Value.cells]) zR zR (fun _=>trivial) fun b3=>?_
 refine Bi HS 1 ([(⟨none,0,0⟩,[])]:List Kc) zR (fun _=>rfl) zR ?_
 refine J zR (AS ?_)
 exact Av (.slice (some ⟨b3,0,none⟩) 1 1,[(⟨none,0,0⟩,[])]) (show([(⟨none,0,0⟩,[])]:List Kc)=NS v l by rw[←Vr hs,if_pos hz]) tL (fun _ hw=>BJ.pick (H:=[_,_,_,_]) hw [0,2] 4 zR)
 have hz:¬(GT v l).length=0:=by
  have:=of_decide_eq_false hc1
  omega
 refine AH ?_
 exact Av (va,GT v l) (show GT v l=NS v l by rw[←Vr hs,if_neg hz]) tL (fun _ hw=>BJ.pick (H:=[_,_,_]) hw [0,1] 3 zR)
 obtain⟨va,xs⟩:=x
 have hx:xs=NS v l:=hx
 have hxn:xs.length≤1048576:=by
  rw[hx,←Vr hs]
  split
  simp
  exact hlen
 rw[←hx]at hy ⊢
 clear hx
 refine A4 [(0,vY lp),(2,vP b0 0),(3,va)] (AE 35 1 va HS xs::AI b0 (.cells #[vY lp] 46)::((rc::G0)++T)) ?_ tL
 refine V ?_
 refine P5 0 zR fun sv hsv=>?_
 refine E zR ?_
 refine AP (vs:=[_]) (Hin:=[]) (Hr:=_::_::_) zR zR ⟨zR,zT⟩ mS zR zR (nQ (va:=va) (by rw[hsv];rfl)) ?_
 rintro _ _ ⟨b4,rfl,rfl⟩
 refine⟨trivial,?_⟩
 refine U (AL ?_)
 refine L6 (enc:=lC) (EB xs) (Hit:=[_,_]) (G0:=AI b0 (.cells #[vY lp] 46)::((rc::G0)++T)) (fun pre Gx=>∃G,J9 (pre.map (·.2)) G∧Gx=AI b0 (.cells #[vY lp] 46)::(G++T)) (fun c Gx=>c=.ret∧∃G,X G∧Gx=AI b0 (.cells #[vY lp] 46)::(G++T)) zR ni zR (fun _=>rfl) (lY hxn) zR ⟨rc::G0,h0,zR⟩ (fun pre x suf Gx hxs hJ r lr Rest=>?_) (fun Gx D hJ=>?_) (fun c Gx D hX=>?_)
 obtain⟨G,hJ,rfl⟩:=hJ
 refine AJ (J zR (AS ?_))
 refine KL (G:=AI b0 (.cells #[vY lp] 46)::(G++T)) ?_
 refine AL (V (AC 0 qb zR (E zR ?_)))
 refine HX (M2:=[AI b0 (.cells #[vY lp] 46)]) (G:=G) (T:=T++Tl r lr Rest .busy) (vs:=[_]) (ok:=fun G1=>J9 ((pre++[x]).map (·.2)) G1) (no:=X) zR zR ⟨zR,zT⟩ (by simp[List.append_assoc]) ?_ (fun bb G1 hG1=>⟨zT,?_⟩)
 intro M
 have hsp:xs.reverse=pre.map (·.2)++x.2::suf.map (·.2):=by
  rw[←WP,hxs,List.map_append,List.map_cons]
 have:=hy (pre.map (·.2)) x.2 (suf.map (·.2)) hsp G hJ M
 rw[List.map_append,List.map_cons,List.map_nil]
 exact this
 refine B9 zR zR (U ?_)
 refine AG zR (fun hc2=>?_) (fun hc2=>?_)
 obtain rfl:bb=false:=by simpa using hc2
 refine AM (BM ?_)
 exact jS ⟨zR,G1,hG1,zR⟩ (fun _ hw=>by simpa[List.append_assoc]using hw)
 obtain rfl:bb=true:=by simpa using hc2
 refine AH (Ai ?_)
 exact HK ⟨G1,hG1,zR⟩ (fun _ hw=>by simpa[List.append_assoc]using hw)
 obtain⟨G,hJ,rfl⟩:=hJ
 rw[WP]at hJ
 refine Ai ?_
 exact CQ (C7 zR) (AV (M:=G) (.inl hJ) fun _ h=>h.skip [_])
 obtain⟨rfl,G,hX,rfl⟩:=hX
 refine AM (BM ?_)
 exact AU (C7 zR) (AV (M:=G) (.inr hX) fun _ h=>h.skip [_])
theorem gj{v:Value}(hv:v.cells=#[v]):BH Tryz.prog K w0 86 [v] [] H (fun u M=>∃bx:Nat,u=.func (.func 126) #[] #[vP bx 0]∧M=[AI bx (.cells #[v] 35)]):=by
 refine BH.enter Tryz.func86 rfl rfl ?_
 refine V ?_
 refine BU zR zR (fun _=>trivial) fun b1=>?_
 rw[hv]
 refine J zR (U (V ?_))
 refine GD (fv:=#[]) (cv:=#[_]) zR zR zR ?_
 refine J zR (U (AM ?_))
 exact AU (Co zR zR) (AV (M:=[_]) ⟨_,zR,zR⟩ fun _ hw=>BJ.pick (H:=[_]) hw [0] 1 zR)
end

/- A planter's node, wherever its pages are put. Condition: the plain functions yield. -/
section
variable {K:Nat→Prop}{w0:World}{H:List AT}
theorem ED.mid:∀ {Hs A B R:List AT},ED Hs A→ED Hs (B++(A++R))
 | [],_,_,_,_=>trivial
 | c::r,A,B,R,⟨⟨i,hi⟩,h⟩=>⟨⟨B.length+i,by
   have hlt:=(List.getElem?_eq_some_iff.1 hi).1
   rw[List.getElem?_append_right zO,Nat.add_sub_cancel_left,List.getElem?_append_left hlt,hi]⟩,ED.mid h⟩
theorem Wp{k:AT}{A B R M:List AT}{w:World}(h:BJ K w0 ((k::(A++(B++R)))++M) w):BJ K w0 ((k::(B++(A++R)))++M) w:=by
 refine h.perm (List.Perm.append_right _ (List.Perm.cons _ ?_))
 rw[←List.append_assoc,←List.append_assoc]
 exact List.Perm.append_right _ List.perm_append_comm
theorem PP{α:Type}{enc:α→List Value}{sz:Nat}(hl:∀x,(enc x).length=sz):Bn K w0 enc sz (.slice none 0 0) []:=⟨hl,.inl ⟨_,rfl,rfl⟩⟩
def I7(l:List AN):List (List AN):=if l=[]then[[]]else(List.range ((l.length+3) / 4)).map fun i=>(l.drop (4*i)).take (min (4*i+4) l.length-4*i)
theorem ar{v:Value}{l:List AN}(h:Bn K w0 AK 4 v l):(NS v l).map (·.2)=I7 l:=by
 by_cases hl:l=[]
 subst hl
 rw[UC]
 rfl
 rcases h.at_ with⟨_,_,e⟩ | ⟨b,off,cap,rfl,hc,hcell⟩
 exact absurd e hl
 rw[M4 hl,I7,if_neg hl,J4,Iq,List.map_map]
 rfl
def GC{σ:Type}(rec_:BO→FX→σ→Option (Af×(FX×σ))):List BO→FX→σ→List Af→Option (List Af×(FX×σ))
 | [],p,q,acc=>some (acc,(p,q))
 | k::ks,p,q,acc=>(rec_ k p q).bind fun y=>(CT 24 acc [y.1]).bind fun acc'=>GC rec_ ks y.2.1 y.2.2 acc'
def IZ{σ:Type}(n:Nat)(wh:SF σ):List (List AN)→Af→FX→σ→Option (Af×(FX×σ))
 | [],r,p,q=>some (r,(p,q))
 | l::ls,r,p,q=>(FB n wh ⟨1,0,0,0,l,[],r.page,r.tag⟩ p q).bind fun y=>cond (!decide (y.2.1.wrong=0)) (some y) (IZ n wh ls y.1 y.2.1 y.2.2)
def EV{σ:Type}(n:Nat)(wh:SF σ):Nat→BO→FX→σ→Option (Af×(FX×σ))
 | 0,_,_,_=>none
 | f+1,t,p,q=>if 1048576<t.rows.length∨1048576<t.kids.length then none else cond (decide (0<(t.kids.length:Int)))
   ((GC (EV n wh f) t.kids p q []).bind fun y=>FB n wh ⟨2,t.cx,t.cy,t.lev,[],y.1,0,[]⟩ y.2.1 y.2.2)
   (IZ n wh (I7 t.rows).reverse ⟨0,[]⟩ p q)
theorem MP{σ:Type}{C:Value→σ→List AT}{wh:SF σ}{fid:FuncId}{cs:Array Value}{T:List UInt32}{n bp:Nat}(hcal:AQ Tryz.prog fid=true)(hwh:Zr T fid cs C wh):
  ∀(f:Nat) {K:Nat→Prop} {w0:World} {H:List AT} {vo ca:Value} {a:Dz} {t:BO} {p:FX} {q:σ} {r:Af×(FX×σ)},GJ K w0 T→EV n wh f t p q=some r→Lu K w0 a t→
  BH Tryz.prog K w0 53 [vP bp 0,.agg (Bk a).toArray] (Io bp (.func (.func fid) #[] cs) vo p::AE 72 3 vo An p.out::C ca q) H
   (fun u M=>u=.agg (Ae r.1).toArray∧∃vo' ca',M=Io bp (.func (.func fid) #[] cs) vo' r.2.1::AE 72 3 vo' An r.2.1.out::C ca' r.2.2)
 | 0,K,w0,H,vo,ca,a,t,p,q,r,hS,h,hN=>by cases h
 | f+1,K,w0,H,vo,ca,a,t,p,q,r,hS,h,hN=>by
  have h:(if 1048576<t.rows.length∨1048576<t.kids.length then none else cond (decide (0<(t.kids.length:Int)))
   ((GC (EV n wh f) t.kids p q []).bind fun y=>FB n wh ⟨2,t.cx,t.cy,t.lev,[],y.1,0,[]⟩ y.2.1 y.2.2)
   (IZ n wh (I7 t.rows).reverse ⟨0,[]⟩ p q))=some r:=h
  split at h
  cases h
  rename_i hbig
  have hrl:t.rows.length≤1048576:=by omega
  have hkl:t.kids.length≤1048576:=by omega
  clear hbig
  obtain⟨rv,kv,rfl,hr,hk⟩:=hN.parts
  refine BH.enter Tryz.func53 rfl rfl ?_
  show SX _ _ _ _ _ _ _ _ _ (Io bp (.func (.func fid) #[] cs) vo p::AE 72 3 vo An p.out::(C ca q++H))
  refine V ?_
  refine BU zR zR (fun _=>trivial) fun b0=>?_
  refine BU zR zR (fun _=>trivial) fun b1=>?_
  refine Ah zR DQ (fun _=>trivial) fun b2=>?_
  refine U (JL (AD (V (AB zR Hb (AC 1 Rc zR (Q5 hk zR MR zR (O zR CD (U ?_))))))))
  refine AG zR (fun hc1=>?_) (fun hc1=>?_)
  replace h:=cT hc1 h
  refine V (AB rfl Mk (Aa [Z t.cx,Z t.cy,vI t.lev] rfl Dm rfl rfl (CG 1 rfl (by rintro(_ | (_ | (_ | j))) u hj<;>first | exact hj | exact absurd hj zS)) (BL [_,_] rfl Tg T3 Lh ⟨rfl,rfl,trivial⟩ rfl ?_)))
  refine Ah zR Lh (fun _=>trivial) fun b3=>?_
  refine Am 0 zR zR zR zR O6 zR zR zR zT (C4 0 (AI b3 (.cells #[vI 2,Z t.cx,Z t.cy,vI t.lev,.slice none 0 0,.slice none 0 0,Z 0,vS []] 148)) (Bx 31 2 Ae (U (AD (V (AB zR Hb (AC 3 Rc zR (Q5 hk zR MR zR (E zR (U (AL ?_)))))))))))
  refine SX.heap (SX.mono (Ay (α:=Nat×List Af×Value×FX×σ×Value×Value) (fun x=>x.1≤t.kids.length∧((GC (EV n wh f) (t.kids.drop x.1) x.2.2.2.1 x.2.2.2.2.1 x.2.1).bind fun y=>FB n wh ⟨2,t.cx,t.cy,t.lev,[],y.1,0,[]⟩ y.2.1 y.2.2)=some r)
   (fun x=>[(2,vP b0 0),(4,vP b2 0),(5,vP b3 0),(18,kv.val),(19,vI (t.kids.length:Int)),(20,vI (x.1:Int))])
   (fun x=>AI b3 (.cells #[vI 2,Z t.cx,Z t.cy,vI t.lev,.slice none 0 0,x.2.2.1,Z 0,vS []] 148)::AE 31 2 x.2.2.1 Ae x.2.1::AI b2 (.cells #[Z 0,vS []] 31)::AI b0 (.cells #[vP bp 0] 104)::Io bp (.func (.func fid) #[] cs) x.2.2.2.2.2.1 x.2.2.2.1::AE 72 3 x.2.2.2.2.2.1 An x.2.2.2.1.out::(C x.2.2.2.2.2.2 x.2.2.2.2.1++H))
   (fun x=>t.kids.length-x.1) (fun x D hp=>?_) (0,[],.slice none 0 0,p,q,vo,ca) ⟨Nat.zero_le _,h⟩) tL) (fun _ hw=>BJ.pick (H:=[_,_,_,_,_,_,_]) hw [1,0,2,4,5,6] 7 rfl)
  clear h
  obtain⟨i,ks,vk,p1,q1,vo1,ca1⟩:=x
  obtain⟨hi,h⟩:=hp
  dsimp only at hi h ⊢
  refine V (O zR Ao (U (AD ?_)))
  refine AG zR (fun hc2=>?_) (fun hc2=>?_)
  have hlt:i<t.kids.length:=by
   have:=of_decide_eq_true hc2
   omega
  clear hc2
  have hnth:Aq t.kids (i:Int)=some t.kids[i]:=by
   rw[Aq,if_pos zO]
   exact List.getElem?_eq_getElem hlt
  rw[List.drop_eq_getElem_cons hlt,GC]at h
  obtain⟨z,hz,h⟩:=bnd h
  obtain⟨y,hy,hz⟩:=bnd hz
  obtain⟨ac,hac,hz⟩:=bnd hz
  have h2:((GC (EV n wh f) (t.kids.drop (i+1)) y.2.1 y.2.2 ac).bind fun y=>FB n wh ⟨2,t.cx,t.cy,t.lev,[],y.1,0,[]⟩ y.2.1 y.2.2)=some r:=by
   rw[hz];exact h
  refine AH (AF (AD (AL (V ?_))))
  refine ab hnth hk zR MR G4 zR zR fun b5 of5 rv5 kv5 hr5 hk5 hc5=>?_
  obtain⟨rs5,rfl⟩:=hr5.slv
  obtain⟨kk5,hk51,hk52⟩:=hk5
  obtain⟨ks5,rfl⟩:=hk51.slv
  have hN5:Lu K w0 ⟨t.kids[i].cx,t.kids[i].cy,t.kids[i].lev,rs5,ks5⟩ t.kids[i]:=Lu.of hr5 ⟨kk5,hk51,hk52⟩
  refine Aa [Z t.kids[i].cx,Z t.kids[i].cy,vI t.kids[i].lev,rs5.val,ks5.val] zR Kp zR zR (Cj hc5) ?_
  refine Ah zR HV (fun _=>trivial) fun b4=>?_
  refine Am 0 zR zR zR zR G4 zR zR zR zT (C4 0 (AI b4 (.cells #[Z t.kids[i].cx,Z t.kids[i].cy,vI t.kids[i].lev,rs5.val,ks5.val] 57)) (U (Aj CJ [0,1,4] (BY [(true,0),(true,1),(true,2),(true,3),(false,4),(false,5),(false,6),(true,7)] (.last 8 .nil)) zK (AB zR DZ (AC 1 Hc zR (AC 2 Zd zR (Aa [Z t.kids[i].cx,Z t.kids[i].cy,vI t.kids[i].lev,rs5.val,ks5.val] zR Kp zR zR (AZ 0 zR) ?_)))))))
  refine SL.heap ?_ (fun _ hw=>DP (A:=[AI b4 (.cells #[Z t.kids[i].cx,Z t.kids[i].cy,vI t.kids[i].lev,rs5.val,ks5.val] 57),AI b3 (.cells #[vI 2,Z t.cx,Z t.cy,vI t.lev,.slice none 0 0,vk,Z 0,vS []] 148),AE 31 2 vk Ae ks,AI b2 (.cells #[Z 0,vS []] 31),AI b0 (.cells #[vP bp 0] 104)]) (B:=Io bp (.func (.func fid) #[] cs) vo1 p1::AE 72 3 vo1 An p1.out::C ca1 q1) (R:=H) hw)
  have hcon:=MP (bp:=bp) hcal hwh f (ca:=ca1) (K:=K) (w0:=w0) (H:=([AI b4 (.cells #[Z t.kids[i].cx,Z t.kids[i].cy,vI t.kids[i].lev,rs5.val,ks5.val] 57),AI b3 (.cells #[vI 2,Z t.cx,Z t.cy,vI t.lev,.slice none 0 0,vk,Z 0,vS []] 148),AE 31 2 vk Ae ks,AI b2 (.cells #[Z 0,vS []] 31),AI b0 (.cells #[vP bp 0] 104)]++H)++[BB D]) (vo:=vo1) hS hy hN5
  generalize hpo:(fun(u:Value) (M:List AT)=>u=.agg (Ae y.1).toArray∧∃vo' ca',M=Io bp (.func (.func fid) #[] cs) vo' y.2.1::AE 72 3 vo' An y.2.1.out::C ca' y.2.2)=po at hcon
  refine AP (vs:=[_,_]) (Hin:=Io bp (.func (.func fid) #[] cs) vo1 p1::AE 72 3 vo1 An p1.out::C ca1 q1) (Hr:=[AI b4 (.cells #[Z t.kids[i].cx,Z t.kids[i].cy,vI t.kids[i].lev,rs5.val,ks5.val] 57),AI b3 (.cells #[vI 2,Z t.cx,Z t.cy,vI t.lev,.slice none 0 0,vk,Z 0,vS []] 148),AE 31 2 vk Ae ks,AI b2 (.cells #[Z 0,vS []] 31),AI b0 (.cells #[vP bp 0] 104)]++H) zR zR ⟨zR,zR,zT⟩ eU zR zR hcon ?_
  intro u0 M0 hpost
  rw[←hpo]at hpost
  obtain⟨rfl,vo2,ca2,rfl⟩:=hpost
  refine⟨ED.mid (A:=[AI b4 (.cells #[Z t.kids[i].cx,Z t.kids[i].cy,vI t.kids[i].lev,rs5.val,ks5.val] 57),AI b3 (.cells #[vI 2,Z t.cx,Z t.cy,vI t.lev,.slice none 0 0,vk,Z 0,vS []] 148),AE 31 2 vk Ae ks,AI b2 (.cells #[Z 0,vS []] 31),AI b0 (.cells #[vP bp 0] 104)]) ⟨⟨0,rfl⟩,⟨1,rfl⟩,⟨4,rfl⟩,trivial⟩,?_⟩
  refine SL.heap ?_ (fun _ hw=>DP (A:=Io bp (.func (.func fid) #[] cs) vo2 y.2.1::AE 72 3 vo2 An y.2.1.out::C ca2 y.2.2) (B:=[AI b4 (.cells #[Z t.kids[i].cx,Z t.kids[i].cy,vI t.kids[i].lev,rs5.val,ks5.val] 57),AI b3 (.cells #[vI 2,Z t.cx,Z t.cy,vI t.lev,.slice none 0 0,vk,Z 0,vS []] 148),AE 31 2 vk Ae ks,AI b2 (.cells #[Z 0,vS []] 31),AI b0 (.cells #[vP bp 0] 104)]) (R:=H) hw)
  refine Bd [_] rfl Eh C2 DQ ⟨rfl,trivial⟩ rfl rfl rfl (by first | (simp[Value.cells];done) | (intro v hv;simp only[List.mem_cons,List.not_mem_nil,or_false]at hv;rcases hv with rfl<;>rfl)) rfl rfl (fun _=>⟨⟨1,rfl⟩,⟨2,rfl⟩,⟨5,rfl⟩,trivial⟩) fun b6=>?_
  refine Bi Ae 2 ([y.1]:List Af) zR (fun _=>rfl) zR ?_
  refine B7 3 hac (sz:=2) (enc:=Ae) (fun _=>rfl) zR Eh C2 fj DQ zR zD zR zR zR zR (Ba (sz:=2) (enc:=Ae) 0 (fun _=>rfl) zR) (by simp[Ae,Value.oneCell']) (fun _=>⟨⟨1,zR⟩,⟨2,zR⟩,⟨5,zR⟩,zT⟩) fun v6=>?_
  refine AB zR DZ (BE ?_)
  refine B6 3 zR fun hv6 ho6=>?_
  refine DW 2 zR zR zR zR eE hv6 ho6 zR zT (AS (Ai (AF (AJ (O zR (BA zO zO) (E zR (AS ?_)))))))
  exact Ac (i+1,ac,v6,y.2.1,y.2.2,vo2,ca2) ⟨hlt,h2⟩ (by dsimp only;omega) tL (fun _ hw=>BJ.pick (H:=[_,_,_,_,_,_]) hw [2,3,4,5] 6 zR)
  have hge:i=t.kids.length:=by
   have:=of_decide_eq_false hc2
   omega
  subst hge
  rw[List.drop_length,GC]at h
  replace h:FB n wh ⟨2,t.cx,t.cy,t.lev,[],ks,0,[]⟩ p1 q1=some r:=h
  refine Al (Aw (A9 (Au (AF (SX.pick [1,0,2,3] 4 (V (AC 3 Zd zR (Aa [vI 2,Z t.cx,Z t.cy,vI t.lev,.slice none 0 0,vk,Z 0,vS []] zR K8 zR zR (AZ 1 zR) ?_))))))))
  refine SL.heap ?_ (fun _ hw=>Wp (A:=[AI b3 (.cells #[vI 2,Z t.cx,Z t.cy,vI t.lev,.slice none 0 0,vk,Z 0,vS []] 148),AI b2 (.cells #[Z 0,vS []] 31),AI b0 (.cells #[vP bp 0] 104)]) (B:=(Io bp (.func (.func fid) #[] cs) vo1 p1::AE 72 3 vo1 An p1.out::C ca1 q1)) (R:=H) hw)
  have hcon:=CC (K:=K) (w0:=w0) (H:=([AI b3 (.cells #[vI 2,Z t.cx,Z t.cy,vI t.lev,.slice none 0 0,vk,Z 0,vS []] 148),AI b2 (.cells #[Z 0,vS []] 31),AI b0 (.cells #[vP bp 0] 104)]++H)++[BB D]) (f:=85) (B:=[AE 31 2 vk Ae ks]) (Hin:=(Io bp (.func (.func fid) #[] cs) vo1 p1::AE 72 3 vo1 An p1.out::C ca1 q1)) fun K' w1 hkk hB=>Pk (bp:=bp) (a:=ca1) (vo:=vo1) (v4:=.slice none 0 0) (v5:=vk) hcal hwh (hS.keeps hkk) h (PP (fun _=>rfl)) (Br (e:=31) (v:=vk) (fun _=>rfl) (hB _ zS))
  refine AP (vs:=[_,_]) (Hin:=AE 31 2 vk Ae ks::(Io bp (.func (.func fid) #[] cs) vo1 p1::AE 72 3 vo1 An p1.out::C ca1 q1)) (Hr:=[AI b3 (.cells #[vI 2,Z t.cx,Z t.cy,vI t.lev,.slice none 0 0,vk,Z 0,vS []] 148),AI b2 (.cells #[Z 0,vS []] 31),AI b0 (.cells #[vP bp 0] 104)]++H) zR zR ⟨zR,zR,zT⟩ jy zR zR hcon ?_
  rintro _ _ ⟨_,rfl,rfl,vo2,ca2,rfl⟩
  refine⟨trivial,?_⟩
  refine SL.heap ?_ (fun _ hw=>DP (A:=AE 31 2 vk Ae ks::Io bp (.func (.func fid) #[] cs) vo2 r.2.1::AE 72 3 vo2 An r.2.1.out::C ca2 r.2.2) (B:=[AI b3 (.cells #[vI 2,Z t.cx,Z t.cy,vI t.lev,.slice none 0 0,vk,Z 0,vS []] 148),AI b2 (.cells #[Z 0,vS []] 31),AI b0 (.cells #[vP bp 0] 104)]) (R:=H) hw)
  refine Am 1 zR zR zR zR C2 zR zR zR zT (U (AM (Ab (EN ?_))))
  exact AU (Dx zR (BG 1 (Ae r.1) CR zR zR zR zR)) (AV (M:=Io bp (.func (.func fid) #[] cs) vo2 r.2.1::AE 72 3 vo2 An r.2.1.out::C ca2 r.2.2) ⟨zR,vo2,ca2,zR⟩ fun _ hw=>BJ.pick (H:=[_,_,_,_]) hw [] 4 zR)
  replace h:=cF hc1 h
  refine AH (AF (V ?_))
  refine Ah zR DQ (fun _=>trivial) fun b3=>?_
  refine U (AD (JS (AF (AD (V (AB zR Q0 (AC 2 Em zR ?_)))))))
  refine AP (vs:=[_]) (Hin:=[]) (Hr:=_::_::_::_::_::_::_) zR zR ⟨zR,zT⟩ qJ zR zR (gj hr.one) ?_
  rintro _ _ ⟨bx,rfl,rfl⟩
  refine⟨trivial,?_⟩
  refine U (AL ?_)
  have h0:IZ n wh (((NS rv.val t.rows).reverse).map (·.2)) ⟨0,[]⟩ p q=some r:=by
   rw[List.map_reverse,ar hr];exact h
  refine SX.heap (L6 (enc:=HS) (NS rv.val t.rows).reverse (G0:=(AI b3 (.cells #[Z 0,vS []] 31)::AI b2 (.cells #[Z 0,vS []] 31)::AI b0 (.cells #[vP bp 0] 104)::Io bp (.func (.func fid) #[] cs) vo p::AE 72 3 vo An p.out::(C ca q++H))) (fun pre G=>∃(x:Af) (p1:FX) (q1:σ) (vo1 ca1:Value),(∀suf,(NS rv.val t.rows).reverse=pre++suf→IZ n wh (suf.map (·.2)) x p1 q1=some r)∧G=(AI b3 (.cells #[Z x.page,vS x.tag] 31)::AI b2 (.cells #[Z 0,vS []] 31)::AI b0 (.cells #[vP bp 0] 104)::Io bp (.func (.func fid) #[] cs) vo1 p1::AE 72 3 vo1 An p1.out::(C ca1 q1++H))) (fun c G=>c=.exit 2∧∃vo1 ca1:Value,G=(AI b3 (.cells #[Z r.1.page,vS r.1.tag] 31)::AI b2 (.cells #[Z 0,vS []] 31)::AI b0 (.cells #[vP bp 0] 104)::Io bp (.func (.func fid) #[] cs) vo1 r.2.1::AE 72 3 vo1 An r.2.1.out::(C ca1 r.2.2++H))) zR md zR (fun _=>rfl) (hC hrl hr) zR ⟨⟨0,[]⟩,p,q,vo,ca,fun suf e=>by rw[←show(NS rv.val t.rows).reverse=suf from e];exact h0,zR⟩ (fun pre x suf G hxs hJ lr lp Rest=>?_) (fun G D hJ=>?_) (fun c G D hX=>?_)) (fun _ hw=>BJ.pick (H:=[_,_,_,_,_,_,_]) hw [0,1,2,4,5,6] 7 zR)
  obtain⟨w,p1,q1,vo1,ca1,h,rfl⟩:=hJ
  have h1:=h (x::suf) hxs
  rw[List.map_cons,IZ]at h1
  obtain⟨y,hy,h1⟩:=bnd h1
  have hx:Bn K w0 AK 4 x.1.val x.2:=i6 hr x (List.mem_reverse.1 (by rw[hxs];simp))
  refine AJ (J zR (AS ?_))
  refine KL (G:=AI b3 (.cells #[Z w.page,vS w.tag] 31)::AI b2 (.cells #[Z 0,vS []] 31)::AI b0 (.cells #[vP bp 0] 104)::Io bp (.func (.func fid) #[] cs) vo1 p1::AE 72 3 vo1 An p1.out::(C ca1 q1++H)) ?_
  refine AL (V (AC 2 Zd zR (E zR (Aa (Ae w) zR CR zR zR (AZ 0 zR) (BL [_,_,_] zR Tg T3 Lh ⟨zR,zR,zR,zT⟩ zR ?_)))))
  refine SL.heap ?_ (fun _ hw=>DP (A:=[AI b3 (.cells #[Z w.page,vS w.tag] 31),AI b2 (.cells #[Z 0,vS []] 31),AI b0 (.cells #[vP bp 0] 104)]) (B:=(Io bp (.func (.func fid) #[] cs) vo1 p1::AE 72 3 vo1 An p1.out::C ca1 q1)) (R:=(H++Tl lr lp Rest .busy)) (by simp only[List.append_assoc,List.cons_append,List.nil_append]at hw ⊢;exact hw))
  have hcon:=Pk (K:=K) (w0:=w0) (H:=([AI b3 (.cells #[Z w.page,vS w.tag] 31),AI b2 (.cells #[Z 0,vS []] 31),AI b0 (.cells #[vP bp 0] 104)]++(H++Tl lr lp Rest .busy))++[BB []]) (bp:=bp) (a:=ca1) (vo:=vo1) (v4:=x.1.val) (v5:=.slice none 0 0) hcal hwh hS hy hx (PP (fun _=>rfl))
  refine AP (vs:=[_,_]) (Hin:=(Io bp (.func (.func fid) #[] cs) vo1 p1::AE 72 3 vo1 An p1.out::C ca1 q1)) (Hr:=[AI b3 (.cells #[Z w.page,vS w.tag] 31),AI b2 (.cells #[Z 0,vS []] 31),AI b0 (.cells #[vP bp 0] 104)]++(H++Tl lr lp Rest .busy)) zR zR ⟨zR,zR,zT⟩ jy zR zR hcon ?_
  rintro _ _ ⟨rfl,vo2,ca2,rfl⟩
  refine⟨trivial,?_⟩
  refine SL.heap ?_ (fun _ hw=>DP (A:=(Io bp (.func (.func fid) #[] cs) vo2 y.2.1::AE 72 3 vo2 An y.2.1.out::C ca2 y.2.2)) (B:=[AI b3 (.cells #[Z w.page,vS w.tag] 31),AI b2 (.cells #[Z 0,vS []] 31),AI b0 (.cells #[vP bp 0] 104)]) (R:=(H++Tl lr lp Rest .busy)) hw)
  refine Am 0 zR zR zR zR C2 zR zR zR zT (C4 0 (AI b3 (.cells #[Z y.1.page,vS y.1.tag] 31)) (U (V (AC 2 Zd zR (AW zR zR (AB zR Oc (AC 3 Sl zR (O zR Bh (U ?_)))))))))
  have hheap:∀w1:World,BJ K w0 ((AI b3 (.cells #[Z y.1.page,vS y.1.tag] 31)::AI b2 (.cells #[Z 0,vS []] 31)::AI b0 (.cells #[vP bp 0] 104)::((Io bp (.func (.func fid) #[] cs) vo2 y.2.1::AE 72 3 vo2 An y.2.1.out::C ca2 y.2.2)++(H++Tl lr lp Rest .busy)))) w1→BJ K w0 ((AI b3 (.cells #[Z y.1.page,vS y.1.tag] 31)::AI b2 (.cells #[Z 0,vS []] 31)::AI b0 (.cells #[vP bp 0] 104)::Io bp (.func (.func fid) #[] cs) vo2 y.2.1::AE 72 3 vo2 An y.2.1.out::(C ca2 y.2.2++H))++Tl lr lp Rest .busy) w1:=by
   intro w1 hw
   simp only[List.append_assoc,List.cons_append]at hw ⊢
   exact hw
  refine AG zR (fun hc3=>?_) (fun hc3=>?_)
  replace h1:=cT hc3 h1
  obtain rfl:=Option.some.inj h1
  refine Al (Ks ?_)
  exact MD ⟨zR,vo2,ca2,zR⟩ hheap
  replace h1:=cF hc3 h1
  refine AH (Ai ?_)
  exact HK ⟨y.1,y.2.1,y.2.2,vo2,ca2,fun suf' e=>by rw[Zg hxs e];exact h1,zR⟩ hheap
  obtain⟨x,p1,q1,vo1,ca1,h,rfl⟩:=hJ
  replace h:=h [] (List.append_nil _).symm
  obtain rfl:(x,(p1,q1))=r:=Option.some.inj h
  refine Ai (AF (V (Aa (Ae x) zR CR zR zR (AZ 0 zR) (Am 1 zR zR zR zR C2 zR zR zR zT (U (AM (EN ?_)))))))
  exact AU (Dx zR (BG 1 (Ae x) CR zR zR zR zR)) (AV (M:=_::_::C ca1 q1) ⟨zR,vo1,ca1,zR⟩ fun _ hw=>BJ.pick (H:=[_,_,_]) hw [] 3 zR)
  obtain⟨rfl,vo1,ca1,rfl⟩:=hX
  refine Al (Au (AF (V (Aa (Ae r.1) zR CR zR zR (AZ 0 zR) (Am 1 zR zR zR zR C2 zR zR zR zT (U (AM (EN ?_))))))))
  exact AU (Dx zR (BG 1 (Ae r.1) CR zR zR zR zR)) (AV (M:=_::_::C ca1 r.2.2) ⟨zR,vo1,ca1,zR⟩ fun _ hw=>BJ.pick (H:=[_,_,_]) hw [] 3 zR)
end

/- Plain laws of a tree's pages: what a planter answers. No program in sight. Condition: as each says. -/
section
/-! ### Rows in pieces of four -/
theorem Re(l:List AN):∀k,((List.range k).map fun i=>(l.drop (4*i)).take (min (4*i+4) l.length-4*i)).flatten=l.take (4*k)
 | 0=>by simp
 | k+1=>by
  rw[List.range_succ,List.map_append,List.flatten_append,Re l k]
  simp only[List.map_cons,List.map_nil,List.flatten_cons,List.flatten_nil,List.append_nil]
  rw[show 4*(k+1)=4*k+4 by omega,List.take_add]
  congr 1
  rcases Nat.lt_or_ge (4*k+4) l.length with h | h
  rw[Nat.min_eq_left zO]
  congr 1
  omega
  rw[Nat.min_eq_right h]
  rw[List.take_of_length_le zS,List.take_of_length_le (by simp;omega)]
theorem bN(l:List AN):(I7 l).flatten=l:=by
 unfold I7
 split
 rename_i h;subst h;rfl
 rw[Re,List.take_of_length_le zO]
theorem NY(l:List AN):(I7 l).length=max 1 ((l.length+3) / 4):=by
 unfold I7
 split
 rename_i h;subst h;rfl
 rename_i h
 have:=List.length_pos_iff.2 h
 simp
 omega
theorem dt{l p:List AN}(h:p∈I7 l):p.length≤4∧p.Sublist l:=by
 unfold I7 at h
 split at h
 rename_i hl
 subst hl
 simp only[List.mem_singleton]at h
 subst h
 exact⟨by simp,List.Sublist.refl _⟩
 obtain⟨i,_,rfl⟩:=List.mem_map.1 h
 exact⟨by simp;omega,(List.take_sublist ..).trans (List.drop_sublist ..)⟩
theorem Uc{l p:List AN}(h:CZ l=true)(hs:p.Sublist l):CZ p=true:=by
 unfold CZ at h ⊢
 simp only[Bool.and_eq_true,decide_eq_true_eq]at h ⊢
 refine⟨⟨List.all_eq_true.2 fun r hr=>List.all_eq_true.1 h.1.1 r (hs.subset hr),(Nl p).2 (((Nl l).1 h.1.2).sublist hs)⟩,?_⟩
 have:=hs.length_le
 omega
/-! ### What a planter put -/
abbrev Ky(l:List AN)(r:Af):Bj:=⟨1,0,0,0,l,[],r.page,r.tag⟩
abbrev Lr(t:BO)(rs:List Af):Bj:=⟨2,t.cx,t.cy,t.lev,[],rs,0,[]⟩
def Rl:List (List AN)→Af→List A5→Af→Prop
 | [],r0,seg,r=>seg=[]∧r=r0
 | l::ls,r0,seg,r=>∃r1 seg',DI (Ky l r0)=true∧seg=⟨EC (Ky l r0),r1.page,r1.tag⟩::seg'∧Rl ls r1 seg' r
def YP(R:BO→List A5→Af→Prop):List BO→List A5→List Af→Prop
 | [],seg,rs=>seg=[]∧rs=[]
 | k::ks,seg,rs=>∃s1 r1 s2 rs',R k s1 r1∧YP R ks s2 rs'∧seg=s1++s2∧rs=r1::rs'
def Og:Nat→BO→List A5→Af→Prop
 | 0,_,_,_=>False
 | f+1,t,seg,r=>(t.rows.length≤1000∧t.kids.length≤1000)∧((t.kids=[]∧Rl (I7 t.rows).reverse ⟨0,[]⟩ seg r)∨(t.kids≠[]∧∃segs rs,YP (Og f) t.kids segs rs∧DI (Lr t rs)=true∧seg=segs++[⟨EC (Lr t rs),r.page,r.tag⟩]))
def Lg:Nat→BO→Nat
 | 0,_=>0
 | f+1,t=>if t.kids.length=0 then max 1 ((t.rows.length+3) / 4)else(t.kids.map (Lg f)).sum+1
def XU:Nat→BO→List AN
 | 0,_=>[]
 | f+1,t=>if t.kids.length=0 then t.rows else(t.kids.map (XU f)).flatten
theorem Rl.len:∀ {ls:List (List AN)} {r0:Af} {seg:List A5} {r:Af},Rl ls r0 seg r→seg.length=ls.length
 | [],_,_,_,h=>by rw[h.1];rfl
 | _::_,_,_,_,h=>by
  obtain⟨r1,seg',_,e,h'⟩:=h
  rw[e,List.length_cons,Rl.len h',List.length_cons]
theorem YP.len{R:BO→List A5→Af→Prop}{g:BO→Nat}(hg:∀k s r,R k s r→s.length=g k):∀ {ks:List BO} {seg:List A5} {rs:List Af},YP R ks seg rs→seg.length=(ks.map g).sum∧rs.length=ks.length
 | [],_,_,h=>by rw[h.1,h.2];simp
 | k::ks,_,_,h=>by
  obtain⟨s1,r1,s2,rs',h1,h2,e1,e2⟩:=h
  have ih:=YP.len hg h2
  rw[e1,e2,List.length_append,hg _ _ _ h1,ih.1,List.length_cons,ih.2]
  simp
theorem Og.len:∀(f:Nat) {t:BO} {seg:List A5} {r:Af},Og f t seg r→seg.length=Lg f t
 | 0,_,_,_,h=>h.elim
 | f+1,t,seg,r,h=>by
  rcases h.2 with⟨h1,h2⟩ | ⟨h1,segs,rs,h2,_,e⟩
  rw[h2.len,Lg,if_pos (by rw[h1];rfl),List.length_reverse,NY]
  have h0:=List.length_pos_iff.2 h1
  rw[e,Lg,if_neg zO,List.length_append,(YP.len (fun k s r hr=>Og.len f hr) h2).1]
  rfl
/-! ### A planter whose pages are taken as they come -/
def MG{σ:Type}(wh:SF σ):σ→List A5→σ→Prop
 | q,[],q'=>q=q'
 | q,s::ss,q'=>∃q1,wh q s.txt=some ((⟨s.page,s.tag⟩,0),q1)∧MG wh q1 ss q'
theorem MG.split{σ:Type}{wh:SF σ}:∀ {a b:List A5} {q q':σ},MG wh q (a++b) q'→∃q1,MG wh q a q1∧MG wh q1 b q'
 | [],_,q,_,h=>⟨q,rfl,h⟩
 | _::_,_,_,_,⟨q1,h1,h2⟩=>by
  obtain⟨q2,h3,h4⟩:=MG.split h2
  exact⟨q2,⟨q1,h1,h3⟩,h4⟩
theorem MG.join{σ:Type}{wh:SF σ}:∀ {a b:List A5} {q q1 q':σ},MG wh q a q1→MG wh q1 b q'→MG wh q (a++b) q'
 | [],_,_,_,_,h,h'=>by cases h;exact h'
 | _::_,_,_,_,_,⟨q1,h1,h2⟩,h'=>⟨q1,h1,h2.join h'⟩
variable {σ:Type}{wh:SF σ}{n:Nat}
theorem V3{x:Bj}{o:List A5}{q q':σ}{r:Af}(hn:10≤n)(h:DI x=true)(hw:wh q (EC x)=some ((r,0),q'))(hb:o.length≤100000):FB n wh x ⟨o,0⟩ q=some (r,(⟨o++[⟨EC x,r.page,r.tag⟩],0⟩,q')):=by
 unfold FB
 rw[show(!decide ((0:Int)=0))=false from rfl,cond_false,O7 hn h,Y,show decide ((0:Int)=0)=true from rfl,cond_true,hw,Y]
 unfold ML
 rw[show(!decide ((0:Int)=0))=false from rfl,cond_false,B8 (by simp;omega) (by simp;omega),Y]
theorem WX(hn:10≤n):∀ {ls:List (List AN)} {r0:Af} {seg:List A5} {r:Af} {o:List A5} {q q':σ},Rl ls r0 seg r→MG wh q seg q'→o.length+seg.length≤100000→IZ n wh ls r0 ⟨o,0⟩ q=some (r,(⟨o++seg,0⟩,q'))
 | [],r0,seg,r,o,q,q',h,hp,hb=>by
  obtain⟨rfl,rfl⟩:=h
  obtain rfl:q=q':=hp
  simp[IZ]
 | l::ls,r0,seg,r,o,q,q',h,hp,hb=>by
  obtain⟨r1,seg',hok,rfl,h'⟩:=h
  obtain⟨q1,hw,hp'⟩:=hp
  simp only[List.length_cons]at hb
  unfold IZ
  rw[V3 hn hok hw zO,Y,show(!decide ((0:Int)=0))=false from rfl,cond_false,WX hn h' hp' (by simp;omega)]
  simp
theorem WV{rec_:BO→FX→σ→Option (Af×(FX×σ))}{R:BO→List A5→Af→Prop}(hrec:∀k s r o q q',R k s r→MG wh q s q'→o.length+s.length≤100000→rec_ k ⟨o,0⟩ q=some (r,(⟨o++s,0⟩,q'))):
  ∀ {ks:List BO} {seg:List A5} {rs:List Af} {acc:List Af} {o:List A5} {q q':σ},YP R ks seg rs→MG wh q seg q'→o.length+seg.length≤100000→acc.length+ks.length≤2000000→GC rec_ ks ⟨o,0⟩ q acc=some (acc++rs,(⟨o++seg,0⟩,q'))
 | [],seg,rs,acc,o,q,q',h,hp,hb,ha=>by
  obtain⟨rfl,rfl⟩:=h
  obtain rfl:q=q':=hp
  simp[GC]
 | k::ks,seg,rs,acc,o,q,q',h,hp,hb,ha=>by
  obtain⟨s1,r1,s2,rs',h1,h2,rfl,rfl⟩:=h
  obtain⟨q1,p1,p2⟩:=hp.split
  simp only[List.length_append,List.length_cons]at hb ha
  unfold GC
  rw[hrec k s1 r1 o q q1 h1 p1 zO,Y,B8 (by simp;omega) (by simp;omega),Y,WV hrec h2 p2 (by simp;omega) (by simp;omega)]
  simp
theorem WM(hn:10≤n):∀(f:Nat) {t:BO} {seg:List A5} {r:Af} {o:List A5} {q q':σ},Og f t seg r→MG wh q seg q'→o.length+seg.length≤100000→EV n wh f t ⟨o,0⟩ q=some (r,(⟨o++seg,0⟩,q'))
 | 0,_,_,_,_,_,_,h,_,_=>h.elim
 | f+1,t,seg,r,o,q,q',h,hp,hb=>by
  obtain⟨⟨b1,b2⟩,h⟩:=h
  unfold EV
  rw[if_neg zO]
  rcases h with⟨h1,h2⟩ | ⟨h1,segs,rs,h2,h3,rfl⟩
  rw[decide_eq_false (by rw[h1];simp),cond_false]
  exact WX hn h2 hp hb
  have h0:=List.length_pos_iff.2 h1
  obtain⟨q1,p1,q2,p2,p3⟩:=hp.split
  obtain rfl:q2=q':=p3
  simp only[List.length_append,List.length_singleton]at hb
  rw[decide_eq_true zO,cond_true,WV (fun k s r o q q' hr hp hb=>WM hn f hr hp hb) h2 p1 zO (by simp;omega),Y]
  have:=V3 (x:=Lr t rs) (o:=o++segs) hn h3 p2 (by simp;omega)
  simpa using this
/-! ### A planter on its way -/
structure gG{σ:Type}(wh:SF σ)(Inv:σ→Prop)(Good:σ→A5→Prop)(room:σ→Nat):Prop where
 step:∀q s,Inv q→s.length≤198→∃r e q',wh q s=some ((r,e),q')∧Inv q'∧(∀x,Good q x→Good q' x)∧((e=0∧C6 r=true∧Good q' ⟨s,r.page,r.tag⟩∧room q≤room q'+1)∨(e=110∧room q=0))
def gi(wh:SF σ)(Inv:σ→Prop)(Good:σ→A5→Prop)(room:σ→Nat)(k:Nat)(Run:List A5→Prop)(p:FX)(q:σ)(p':FX)(q':σ):Prop:=
 Inv q'∧(∀x,Good q x→Good q' x)∧((p'.wrong=0∧∃seg,p'.out=p.out++seg∧seg.length=k∧Run seg∧MG wh q seg q'∧(∀x∈seg,Good q' x)∧room q≤room q'+k)∨(p'.wrong=110∧room q<k))
variable {Inv:σ→Prop}{Good:σ→A5→Prop}{room:σ→Nat}
theorem Qa{x:Bj}{p:FX}{q:σ}(h:p.wrong≠0):FB n wh x p q=some (⟨0,[]⟩,(p,q)):=by
 unfold FB
 rw[decide_eq_false h]
 rfl
theorem VM{α:Type}(f:α→List UInt8)(m:Nat):∀(l:List α),(∀a∈l,(f a).length≤m)→(l.map f).flatten.length≤m*l.length
 | [],_=>by simp
 | a::l,h=>by
  have h1:=h a zS
  have h2:=VM f m l (fun b hb=>h b (by simp[hb]))
  simp only[List.map_cons,List.flatten_cons,List.length_append,List.length_cons,Nat.mul_add,Nat.mul_one]
  omega
theorem iP{x:Bj}(h:DI x=true):(EC x).length≤198:=by
 unfold EC
 by_cases hk:x.kind=1
 obtain⟨h1,h2,h3,h4,h5,h6,h7⟩:=JU h hk
 have h32:x.ntag.length≤32:=by
  rcases h7 with h7 | h7
  rw[h7.2];simp
  have:=(Fr h7).1
  simp only at this
  omega
 have:=VM Cx 33 x.rows (fun r hr=>by rw[TI];have:=MI h6 r hr;omega)
 have h36:=MZ (r:=⟨x.npage,x.ntag⟩) h32
 rw[show decide (x.kind=2)=false by rw[hk];rfl,cond_false]
 simp only[List.length_append,A2,h36]
 omega
 obtain⟨hk2,h1,h2,h3,h4,h5,h6,h7,h8⟩:=IK h hk
 have:=VM C5 36 x.kids (fun r hr=>by rw[MZ (by have:=(Fr (h1 r hr)).1;omega)];exact Nat.le_refl _)
 rw[show decide (x.kind=2)=true by rw[hk2];rfl,cond_true]
 simp only[List.length_append,A2]
 omega
theorem Xg(W:gG wh Inv Good room)(hn:10≤n){x:Bj}{p:FX}{q:σ}(h:DI x=true)(hi:Inv q)(hw:p.wrong=0)(hb:p.out.length≤100000):
  ∃r p' q',FB n wh x p q=some (r,(p',q'))∧(p'.wrong=0→C6 r=true)∧gi wh Inv Good room 1 (fun seg=>seg=[⟨EC x,r.page,r.tag⟩]) p q p' q':=by
 obtain⟨r,e,q',h1,h2,h3,h4⟩:=W.step q (EC x) hi (iP h)
 unfold FB
 rw[hw,show(!decide ((0:Int)=0))=false from rfl,cond_false,O7 hn h,Y,show decide ((0:Int)=0)=true from rfl,cond_true,h1,Y]
 unfold ML
 rcases h4 with⟨rfl,h5,h6,h7⟩ | ⟨rfl,h5⟩
 rw[show(!decide ((0:Int)=0))=false from rfl,cond_false,B8 (by simp;omega) (by simp;omega),Y]
 exact⟨r,_,q',rfl,fun _=>h5,h2,h3,.inl ⟨hw,_,rfl,rfl,rfl,⟨q',h1,rfl⟩,fun y hy=>by rw[List.mem_singleton.1 hy];exact h6,h7⟩⟩
 rw[show(!decide ((110:Int)=0))=true from rfl,cond_true]
 exact⟨⟨0,[]⟩,_,q',rfl,fun h0=>absurd h0 (show ¬((110:Int)=0) by decide),h2,h3,.inr ⟨rfl,by omega⟩⟩
theorem YQ(W:gG wh Inv Good room)(hn:10≤n):∀(ls:List (List AN)) (r0:Af) (p:FX) (q:σ),(∀l∈ls,l.length≤4∧CZ l=true)→(r0=⟨0,[]⟩∨C6 r0=true)→Inv q→p.wrong=0→p.out.length+ls.length≤100000→
  ∃r p' q',IZ n wh ls r0 p q=some (r,(p',q'))∧(p'.wrong=0→C6 r=true∨(ls=[]∧r=r0))∧gi wh Inv Good room ls.length (fun seg=>Rl ls r0 seg r) p q p' q'
 | [],r0,p,q,hl,h0,hi,hw,hb=>⟨r0,p,q,rfl,fun _=>.inr ⟨rfl,rfl⟩,hi,fun _ h=>h,.inl ⟨hw,[],by simp,rfl,⟨rfl,rfl⟩,rfl,by simp,by simp⟩⟩
 | l::ls,r0,p,q,hl,h0,hi,hw,hb=>by
  obtain⟨l4,lr⟩:=hl l zS
  simp only[List.length_cons]at hb
  have hok:DI (Ky l r0)=true:=by
   unfold DI Ky
   rw[show decide ((1:Int)=1)=true from rfl,cond_true,lr]
   have:(Jv ⟨r0.page,r0.tag⟩||C6 ⟨r0.page,r0.tag⟩)=true:=by
    rcases h0 with rfl | h0
    rfl
    rw[show C6 ⟨r0.page,r0.tag⟩=true from h0];simp
   rw[this]
   simp
   omega
  obtain⟨r1,p1,q1,e1,k1,i1,g1,s1⟩:=Xg W hn hok hi hw zO
  unfold IZ
  rw[show FB n wh ⟨1,0,0,0,l,[],r0.page,r0.tag⟩ p q=some (r1,(p1,q1))from e1,Y]
  rcases s1 with⟨w1,seg1,o1,le1,rfl,pa1,go1,ro1⟩ | ⟨w1,ro1⟩
  rw[w1,show(!decide ((0:Int)=0))=false from rfl,cond_false]
  obtain⟨r,p',q',e2,k2,i2,g2,s2⟩:=YQ W hn ls r1 p1 q1 (fun q hq=>hl q (by simp[hq])) (.inr (k1 w1)) i1 w1 (by rw[o1];simp;omega)
  refine⟨r,p',q',e2,fun h=>?_,i2,fun x hx=>g2 x (g1 x hx),?_⟩
  rcases k2 h with h | ⟨_,h⟩
  exact .inl h
  rw[h]
  exact .inl (k1 w1)
  rcases s2 with⟨w2,seg2,o2,le2,ru2,pa2,go2,ro2⟩ | ⟨w2,ro2⟩
  refine .inl ⟨w2,_::seg2,by rw[o2,o1];simp,by simp[le2],⟨r1,seg2,hok,rfl,ru2⟩,pa1.join pa2,fun x hx=>?_,?_⟩
  rcases List.mem_cons.1 hx with rfl | hx
  exact g2 _ (go1 _ zS)
  exact go2 x hx
  simp only[List.length_cons]
  omega
  exact .inr ⟨w2,by simp only[List.length_cons];omega⟩
  rw[w1,show(!decide ((110:Int)=0))=true from rfl,cond_true]
  exact⟨r1,p1,q1,rfl,fun h=>absurd (w1.symm.trans h) zD,i1,g1,.inr ⟨w1,by simp only[List.length_cons];omega⟩⟩
theorem Tr.rows:∀ {f:Nat} {l:List AN} {t:BO},Tr f l t→t.rows.length≤l.length∧t.kids.length≤4
 | 0,_,_,h=>h.elim
 | f+1,l,t,h=>by
  rcases h with⟨rfl,rfl⟩ | ⟨_,c,L,A,⟨_,rfl⟩ | ⟨_,_,ks,rfl,hk⟩⟩
  simp[BO.rows,BO.kids]
  simp[BO.rows,BO.kids]
  have:=hk.length
  have:=Ve L l
  simp only[BO.rows,BO.kids,List.length_nil]
  omega
theorem Px{rec_:BO→FX→σ→Option (Af×(FX×σ))}{p:FX}{q:σ}:∀(ks:List BO) (acc:List Af),(∀k∈ks,∃r,rec_ k p q=some (r,(p,q)))→acc.length+ks.length≤1000→∃rs,GC rec_ ks p q acc=some (acc++rs,(p,q))
 | [],acc,_,_=>⟨[],by simp[GC]⟩
 | k::ks,acc,h,hb=>by
  simp only[List.length_cons]at hb
  obtain⟨r,hr⟩:=h k zS
  obtain⟨rs,h'⟩:=Px ks (acc++[r]) (fun j hj=>h j (by simp[hj])) (by simp;omega)
  refine⟨r::rs,?_⟩
  unfold GC
  rw[hr,Y,B8 (by simp;omega) (by simp;omega),Y,h']
  simp
theorem P1.right{α β:Type}{R:α→β→Prop}{xs:List α}{ys:List β}(h:P1 R xs ys):∀y∈ys,∃x∈xs,R x y:=by
 induction h with
 | nil=>simp
 | cons h1 _ ih=>
  intro y hy
  rcases List.mem_cons.1 hy with rfl | hy
  exact⟨_,by simp,h1⟩
  obtain⟨x,hx,hR⟩:=ih y hy
  exact⟨x,by simp[hx],hR⟩
theorem UN{p:FX}{q:σ}(hw:p.wrong≠0):∀(f:Nat) {l:List AN} {t:BO},Tr f l t→l.length≤1000→∃r,EV n wh f t p q=some (r,(p,q))
 | 0,_,_,h,_=>h.elim
 | f+1,l,t,h,hl=>by
  have hb:=Tr.rows h
  unfold EV
  rw[if_neg zO]
  by_cases h0:0<(t.kids.length:Int)
  rw[decide_eq_true h0,cond_true]
  have hk:∀k∈t.kids,∃r,EV n wh f k p q=some (r,(p,q)):=by
   rcases h with⟨rfl,rfl⟩ | ⟨_,c,L,A,⟨_,rfl⟩ | ⟨_,_,ks,rfl,hk⟩⟩
   simp[BO.kids]
   simp[BO.kids]
   intro k hkm
   obtain⟨l',hl',hT⟩:=hk.right k hkm
   exact UN hw f hT (by have:=(NI hl').length_le;omega)
  obtain⟨acc',h'⟩:=Px (rec_:=EV n wh f) t.kids [] hk (by simp;omega)
  rw[h',Y,Qa hw]
  exact⟨_,rfl⟩
  rw[decide_eq_false h0,cond_false]
  rcases hls:(I7 t.rows).reverse with _ | ⟨x,ls⟩
  exact⟨_,rfl⟩
  unfold IZ
  rw[Qa hw,Y,decide_eq_false hw]
  exact⟨_,rfl⟩
theorem YY{rec_:BO→FX→σ→Option (Af×(FX×σ))}{R:BO→List A5→Af→Prop}{g:BO→Nat}:∀(ks:List BO) (acc:List Af) (p:FX) (q:σ),
  (∀k∈ks,∀p q,Inv q→p.wrong=0→p.out.length+g k≤100000→∃r p' q',rec_ k p q=some (r,(p',q'))∧(p'.wrong=0→C6 r=true)∧gi wh Inv Good room (g k) (fun seg=>R k seg r) p q p' q')→
  (∀k∈ks,∀p q,p.wrong≠0→∃r,rec_ k p q=some (r,(p,q)))→Inv q→p.wrong=0→p.out.length+(ks.map g).sum≤100000→acc.length+ks.length≤1000→
  ∃rs p' q',GC rec_ ks p q acc=some (acc++rs,(p',q'))∧(p'.wrong=0→∀r∈rs,C6 r=true)∧gi wh Inv Good room (ks.map g).sum (fun seg=>YP R ks seg rs) p q p' q'
 | [],acc,p,q,_,_,hi,hw,_,_=>⟨[],p,q,by simp[GC],by simp,hi,fun _ h=>h,.inl ⟨hw,[],by simp,rfl,⟨rfl,rfl⟩,rfl,by simp,by simp⟩⟩
 | k::ks,acc,p,q,hk,hkw,hi,hw,hb,ha=>by
  simp only[List.map_cons,List.sum_cons,List.length_cons]at hb ha
  obtain⟨r1,p1,q1,e1,k1,i1,g1,s1⟩:=hk k zS p q hi hw zO
  unfold GC
  rw[e1,Y,B8 (by simp;omega) (by simp;omega),Y]
  rcases s1 with⟨w1,seg1,o1,le1,ru1,pa1,go1,ro1⟩ | ⟨w1,ro1⟩
  obtain⟨rs,p',q',e2,k2,i2,g2,s2⟩:=YY ks (acc++[r1]) p1 q1 (fun j hj=>hk j (by simp[hj])) (fun j hj=>hkw j (by simp[hj])) i1 w1 (by rw[o1];simp;omega) (by simp;omega)
  refine⟨r1::rs,p',q',by simpa using e2,fun h r hr=>?_,i2,fun x hx=>g2 x (g1 x hx),?_⟩
  rcases List.mem_cons.1 hr with rfl | hr
  exact k1 w1
  exact k2 h r hr
  rcases s2 with⟨w2,seg2,o2,le2,ru2,pa2,go2,ro2⟩ | ⟨w2,ro2⟩
  refine .inl ⟨w2,seg1++seg2,by rw[o2,o1];simp,by simp[le1,le2],⟨seg1,r1,seg2,rs,ru1,ru2,rfl,rfl⟩,pa1.join pa2,fun x hx=>?_,?_⟩
  rcases List.mem_append.1 hx with hx | hx
  exact g2 _ (go1 _ hx)
  exact go2 x hx
  simp only[List.map_cons,List.sum_cons]
  omega
  exact .inr ⟨w2,by simp only[List.map_cons,List.sum_cons];omega⟩
  obtain⟨acc',h'⟩:=Px (rec_:=rec_) (p:=p1) (q:=q1) ks (acc++[r1]) (fun j hj=>hkw j (by simp[hj]) p1 q1 (by rw[w1];decide)) (by simp;omega)
  exact⟨r1::acc',p1,q1,by simpa using h',fun h=>absurd (w1.symm.trans h) zD,i1,g1,.inr ⟨w1,by simp only[List.map_cons,List.sum_cons];omega⟩⟩
theorem TX(W:gG wh Inv Good room)(hn:10≤n):∀(f:Nat) (l:List AN) (t:BO) (p:FX) (q:σ),Tr f l t→CZ l=true→Inv q→p.wrong=0→p.out.length+Lg f t≤100000→
  ∃r p' q',EV n wh f t p q=some (r,(p',q'))∧(p'.wrong=0→C6 r=true)∧gi wh Inv Good room (Lg f t) (fun seg=>Og f t seg r) p q p' q'
 | 0,_,_,_,_,h,_,_,_,_=>h.elim
 | f+1,l,t,p,q,h,hr,hi,hw,hb=>by
  have hl:l.length≤1000:=by
   unfold CZ at hr
   simp only[Bool.and_eq_true,decide_eq_true_eq]at hr
   omega
  have hbd:=Tr.rows h
  have leaf:t.kids=[]→CZ t.rows=true→∃r p' q',EV n wh (f+1) t p q=some (r,(p',q'))∧(p'.wrong=0→C6 r=true)∧gi wh Inv Good room (Lg (f+1) t) (fun seg=>Og (f+1) t seg r) p q p' q':=by
   intro hk hrr
   have hpg:Lg (f+1) t=(I7 t.rows).reverse.length:=by rw[Lg,if_pos (by rw[hk];rfl),List.length_reverse,NY]
   obtain⟨r,p',q',e,k,i,g,s⟩:=YQ W hn (I7 t.rows).reverse ⟨0,[]⟩ p q (fun x hx=>by
    have:=dt (List.mem_reverse.1 hx)
    exact⟨this.1,Uc hrr this.2⟩) (.inl rfl) hi hw zO
   refine⟨r,p',q',?_,fun h0=>?_,i,g,?_⟩
   unfold EV
   rw[if_neg zO,decide_eq_false (by rw[hk];simp),cond_false]
   exact e
   rcases k h0 with h1 | ⟨h1,_⟩
   exact h1
   have:=congrArg List.length h1
   rw[List.length_reverse,NY,List.length_nil]at this
   omega
   rw[hpg]
   rcases s with⟨w,seg,o,le,ru,pa,go,ro⟩ | s
   exact .inl ⟨w,seg,o,le,⟨⟨by omega,by omega⟩,.inl ⟨hk,ru⟩⟩,pa,go,ro⟩
   exact .inr s
  rcases h with⟨rfl,rfl⟩ | ⟨_,c,L,A,⟨_,rfl⟩ | ⟨h4,hL,ks,rfl,hk⟩⟩
  exact leaf rfl hr
  exact leaf rfl hr
  have hkl:=hk.length
  have hq4:=Ve L l
  have hq2:=(ND A hL).1
  have hpg:Lg (f+1) (.mk c.x c.y c.lev [] ks)=(ks.map (Lg f)).sum+1:=by
   rw[Lg,if_neg (by simp only[BO.kids];omega)]
   rfl
  rw[hpg]at hb ⊢
  obtain⟨rs,p1,q1,e1,k1,i1,g1,s1⟩:=YY (wh:=wh) (Inv:=Inv) (Good:=Good) (room:=room) (rec_:=EV n wh f) (R:=Og f) (g:=Lg f) ks [] p q (fun k hkm p q hi hw hb=>by
   obtain⟨l',hl',hT⟩:=hk.right k hkm
   exact TX W hn f l' k p q hT (Uc hr (NI hl')) hi hw hb) (fun k hkm p q hw=>by
   obtain⟨l',hl',hT⟩:=hk.right k hkm
   exact UN hw f hT (by have:=(NI hl').length_le;omega)) hi hw zO (by simp;omega)
  have hrun:EV n wh (f+1) (.mk c.x c.y c.lev [] ks) p q=FB n wh (Lr (.mk c.x c.y c.lev [] ks) rs) p1 q1:=by
   unfold EV
   rw[if_neg zO,decide_eq_true (by simp only[BO.kids];omega),cond_true,show(BO.mk c.x c.y c.lev [] ks).kids=ks from rfl,e1,Y]
   rfl
  rw[hrun]
  rcases s1 with⟨w1,seg1,o1,le1,ru1,pa1,go1,ro1⟩ | ⟨w1,ro1⟩
  have hrl:=(YP.len (fun k s r hr=>Og.len f hr) ru1).2
  have hok:DI (Lr (.mk c.x c.y c.lev [] ks) rs)=true:=by
   unfold DI Lr
   rw[show decide ((2:Int)=1)=false from rfl,cond_false,show decide ((2:Int)=2)=true from rfl,cond_true]
   have h5:rs.all C6=true:=List.all_eq_true.2 (k1 w1)
   have h6:Hj ⟨c.x,c.y,c.lev⟩=true:=A.ok
   have h7:=A.lev
   show(((rs.all C6&&decide ((([]:List AN).length:Int)=0))&&Jv ⟨0,[]⟩&&decide (2≤(rs.length:Int)))&&decide ((rs.length:Int)≤4)&&Hj ⟨c.x,c.y,c.lev⟩&&decide (0<c.lev))=true
   rw[h5,h6,decide_eq_true (show 2≤(rs.length:Int) by omega),decide_eq_true (show(rs.length:Int)≤4 by omega),decide_eq_true (show 0<c.lev by omega)]
   rfl
  obtain⟨r,p',q',e2,k2,i2,g2,s2⟩:=Xg W hn hok i1 w1 (by rw[o1];simp;omega)
  refine⟨r,p',q',e2,k2,i2,fun x hx=>g2 x (g1 x hx),?_⟩
  rcases s2 with⟨w2,seg2,o2,le2,rfl,pa2,go2,ro2⟩ | ⟨w2,ro2⟩
  refine .inl ⟨w2,seg1++[_],by rw[o2,o1];simp,by simp[le1],⟨⟨by simp[BO.rows],by simp only[BO.kids];omega⟩,.inr ⟨by
   intro e
   have:ks=[]:=e
   rw[this,List.length_nil]at hkl
   omega,seg1,rs,ru1,hok,rfl⟩⟩,pa1.join pa2,fun x hx=>?_,by omega⟩
  rcases List.mem_append.1 hx with hx | hx
  exact g2 _ (go1 _ hx)
  exact go2 x hx
  exact .inr ⟨w2,by omega⟩
  rw[Qa (by rw[w1];decide)]
  exact⟨_,p1,q1,rfl,fun h=>absurd (w1.symm.trans h) zD,i1,g1,.inr ⟨w1,by omega⟩⟩
end

/- A lent slice of saved pages, gone through from the last: slices.Backward. Condition: at most 2^20 of them. -/
section
variable {K:Nat→Prop}{w0:World}{H:List AT}
def jq(a:Int×A5):List Value:=[vI a.1,.agg (An a.2).toArray]
theorem ja{bx:Nat}{va:Value}{xs:List A5}{G0:List AT}(hn:xs.length≤1048576)(hs:Bn K w0 An 3 va xs):
  N0 Tryz.prog K w0 90 [vP bx 0] [AI bx (.cells #[va] 36)] G0 jq (EB xs):=by
 intro lp J9 X T rc hy h0
 refine BH.enter Tryz.func90 rfl rfl ?_
 show SX _ _ _ _ _ _ _ _ _ (AI bx (.cells #[va] 36)::((rc::G0)++T))
 refine V (AC 0 MB zR (Bb hs zR HG zR (O zR (Cy zO zO) (J zR (U (AL ?_))))))
 refine SX.mono (Ay (α:=Nat×List AT) (fun x=>x.1≤xs.length∧J9 ((EB xs).take x.1) x.2) (fun x=>[(0,vY lp),(1,vP bx 0),(3,vI ((xs.length:Int)-1-(x.1:Int)))])
  (fun x=>AI bx (.cells #[va] 36)::(x.2++T)) (fun x=>xs.length-x.1) (fun x D hp=>?_) (0,rc::G0) ⟨Nat.zero_le _,h0⟩) (by simpa using tL)
 obtain⟨k,G⟩:=x
 obtain⟨hk,hJ⟩:=hp
 dsimp only at hk hJ ⊢
 refine AD (V (E zR (O zR LN (U ?_))))
 refine AG zR (fun hc1=>?_) (fun hc1=>?_)
 have hlt:k<xs.length:=by
  have:=of_decide_eq_true hc1
  omega
 clear hc1
 have hb:k<(EB xs).length:=by rw[IF];exact hlt
 have hget:=Vm xs k hlt
 have hx:Aq xs ((xs.length:Int)-1-(k:Int))=some (xs[xs.length-1-k]' zO):=by
  rw[Aq,if_pos zO,show((xs.length:Int)-1-(k:Int)).toNat=xs.length-1-k by omega]
  exact List.getElem?_eq_getElem _
 refine AH (AF (AD (AL (V (E zR (E zR (AC 0 MB zR (E zR ?_))))))))
 refine CP hx hs zR HG LQ zR zR fun be1 of1 hc1=>?_
 refine Aa (An _) zR kL zR zR (Cj hc1) ?_
 refine HX (M2:=[_]) (G:=G) (T:=T) (vs:=[_,_]) (ok:=fun G1=>J9 ((EB xs).take (k+1)) G1) (no:=X) zR zR ⟨zR,zR,zT⟩ zR ?_ (fun bb G1 hG1=>⟨zT,?_⟩)
 intro M
 have:=hy ((EB xs).take k) ((EB xs)[k]) ((EB xs).drop (k+1)) (X3 _ k hb) G hJ M
 rw[VW _ k hb,hget]at this
 rw[show((xs.length:Int)-1-(k:Int))=((xs.length-1-k:Nat):Int) by omega]
 exact this
 refine B9 zR zR (U ?_)
 refine AG zR (fun hc3=>?_) (fun hc3=>?_)
 obtain rfl:bb=false:=by simpa using hc3
 refine AM (BM (Ab (DD (BM ?_))))
 exact AU (C7 zR) (AV (M:=G1) (.inr hG1) fun _ h=>h.skip [_])
 obtain rfl:bb=true:=by simpa using hc3
 refine AH (Ai (AF (AJ (E zR (O zR (Cy zO zO) ?_)))))
 refine Ak (u:=vI ((xs.length:Int)-1-((k+1:Nat):Int))) zR zR (congrArg vI zO) ?_
 refine AS ?_
 exact Ac (k+1,G1) ⟨hlt,hG1⟩ (by dsimp only;omega) tL (fun _ hw=>BJ.pick (H:=[_]) hw [0] 1 zR)
 have hge:k=xs.length:=by
  have:=of_decide_eq_false hc1
  omega
 subst hge
 rw[List.take_of_length_le (by rw[IF];exact Nat.le_refl _)]at hJ
 refine Al (Aw (A9 (Au ?_)))
 exact CQ (C7 zR) (AV (M:=G) (.inl hJ) fun _ h=>h.skip [_])
theorem kX{va:Value}(hva:va.cells=#[va]):BH Tryz.prog K w0 57 [va] [] H (fun u M=>∃bx:Nat,u=.func (.func 90) #[] #[vP bx 0]∧M=[AI bx (.cells #[va] 36)]):=by
 refine BH.enter Tryz.func57 rfl rfl ?_
 refine V ?_
 refine BU zR zR (fun _=>trivial) fun b1=>?_
 rw[hva]
 refine J zR (U (V ?_))
 refine GD (fv:=#[]) (cv:=#[_]) zR zR zR ?_
 refine J zR (U (AM ?_))
 exact AU (Co zR zR) (AV (M:=[_]) ⟨_,zR,zR⟩ fun _ hw=>BJ.pick (H:=[_]) hw [0] 1 zR)
end

/- Plain functions of the references and the laws, printed from the loaded program, and the walks that show that the program computes them. Condition: the plain function yields. -/
section
variable {K:Nat→Prop}{w0:World}{H:List AT}
def Oi(a1:Int)(nx_f_ins_l1:List AN×Int→Option (List AN))(l2:List AN):Option (List AN):=
 ret (wI (a1+1)) fun i_2=>
 nx_f_ins_l1 (l2,i_2)
def GY(p1:Int)(a1:Int)(nx_f_ins_l1:List AN×Int→Option (List AN))(nx_f_ins_l2:List AN×Int→Option (List AN))(l3:List AN)(a2:Int):Option (List AN):=
 (Ed (decide (p1<a2)) ((Aq l3 a2).bind fun x1=>(Aq l3 (wI (a2-1))).bind fun x2=>(Dt x1 x2).bind fun y1=>some (decide (y1<0)))).bind fun y2=>
 cond y2
 (
  (Aq l3 (wI (a2-1))).bind fun x3=>
  (Aq l3 a2).bind fun x4=>
  (Aq l3 a2).bind fun x5=>
  (Ek l3 a2 x3).bind fun l4=>
  (Aq l4 (wI (a2-1))).bind fun x6=>
  (Ek l4 (wI (a2-1)) x4).bind fun l5=>
  ret (wI (a2-1)) fun j_1=>
  nx_f_ins_l2 (l5,j_1))
 (
  Oi a1 nx_f_ins_l1 l3)
def LR(p1:Int)(a1:Int)(nx_f_ins_l1:List AN×Int→Option (List AN)):Nat→(List AN×Int)→Option (List AN):=Be fun nx x=>GY p1 a1 nx_f_ins_l1 nx x.1 x.2
def Ge(n:Nat)(p1:Int)(p2:Int)(nx_f_ins_l1:List AN×Int→Option (List AN))(l1:List AN)(a1:Int):Option (List AN):=
 cond (decide (a1<p2))
 (
  LR p1 a1 nx_f_ins_l1 n (l1,a1))
 (
  some l1)
def GO(n:Nat)(p1:Int)(p2:Int):Nat→(List AN×Int)→Option (List AN):=Be fun nx x=>Ge n p1 p2 nx x.1 x.2
def UF(n:Nat)(p0:List AN)(p1:Int)(p2:Int):Option (List AN):=
 ret (wI (p1+1)) fun i_1=>
 GO n p1 p2 n (p0,i_1)
theorem kF{n:Nat}{v0_:Value}{p0:List AN}{p1:Int}{p2:Int}{r:List AN}(h:UF n p0 p1 p2=some r): BH Tryz.prog K w0 123 [v0_,vI p1,vI p2,.func (.func 50) #[] #[]] [AE 79 4 v0_ AK p0] H (fun u M=>u=.tuple #[]∧M=[AE 79 4 v0_ AK r]):=by
 unfold UF at h
 refine BH.enter Tryz.func123 rfl rfl ?_
 refine V ?_
 obtain⟨i_1,ei_1,h⟩:=Bc h
 refine E zR (O zR A3 ?_)
 refine Ak (u:=vI i_1) zR zR (congrArg vI ei_1) ?_
 refine U (AL ?_)
 refine SX.heap (SX.mono (Ay (α:=Nat×List AN×Int) (fun x=>GO n p1 p2 x.1 (x.2.1,x.2.2)=some r) (fun x=>[(0,v0_),(1,vI p1),(2,vI p2),(3,.func (.func 50) #[] #[]),(8,vI x.2.2)]) (fun x=>AE 79 4 v0_ AK x.2.1::H) (fun x=>x.1) (fun x D h=>?_) (n,p0,i_1) h) tL) (fun _ hw=>BJ.pick (H:=[_]) hw [0] 1 zR)
 obtain⟨m1,l1,a1⟩:=x
 dsimp only at h
 rcases m1 with _ | m1
 cases (show(none:Option _)=some r from h)
 replace h:Ge n p1 p2 (GO n p1 p2 m1) l1 a1=some r:=h
 unfold Ge at h
 refine A4 [(0,v0_),(1,vI p1),(2,vI p2),(3,.func (.func 50) #[] #[]),(8,vI a1)] (AE 79 4 v0_ AK l1::H) ?_ tL
 refine AD (V (E zR (E zR (O zR Ao (U ?_)))))
 refine AG zR (fun hc1=>?_) (fun hc1=>?_)
 replace h:=cT hc1 h
 refine AH (AF ?_)
 refine A1 (α:=List AN) (fun x=>Oi a1 (GO n p1 p2 m1) x=some r) (fun x=>[(0,v0_),(1,vI p1),(2,vI p2),(3,.func (.func 50) #[] #[]),(8,vI a1)]) (fun x=>AE 79 4 v0_ AK x::H) ?_ (fun l2 D h=>?_)
 refine AL (V (E zR (J zR (U (AL ?_)))))
 refine SX.heap (SX.mono (Ay (α:=Nat×List AN×Int) (fun x=>LR p1 a1 (GO n p1 p2 m1) x.1 (x.2.1,x.2.2)=some r) (fun x=>[(0,v0_),(1,vI p1),(2,vI p2),(3,.func (.func 50) #[] #[]),(8,vI a1),(9,vI x.2.2)]) (fun x=>AE 79 4 v0_ AK x.2.1::H) (fun x=>x.1) (fun x D h=>?_) (n,l1,a1) h) tL) (fun _ hw=>BJ.pick (H:=[_]) hw [0] 1 zR)
 obtain⟨m2,l3,a2⟩:=x
 dsimp only at h
 rcases m2 with _ | m2
 cases (show(none:Option _)=some r from h)
 replace h:GY p1 a1 (GO n p1 p2 m1) (LR p1 a1 (GO n p1 p2 m1) m2) l3 a2=some r:=h
 unfold GY at h
 refine A4 [(0,v0_),(1,vI p1),(2,vI p2),(3,.func (.func 50) #[] #[]),(8,vI a1),(9,vI a2)] (AE 79 4 v0_ AK l3::H) ?_ tL
 refine AD (AD ?_)
 obtain⟨y2,hy2,h⟩:=bnd h
 refine Aj CJ [0] (Pl.of [(true,0),(true,1),(true,2),(true,3),(true,4),(true,5),(true,6),(true,7),(true,8),(true,9),(true,10),(true,11),(true,12),(true,13),(false,14),(false,15),(false,16)]) zK (E zR (E zR (O zR CD (E zR ?_))))
 refine D1 21 13 34 hy2 zR (fun hb hg1 k=>?_) (fun hb k=>?_) ?_
 obtain⟨x1,hx1,hg1⟩:=bnd hg1
 obtain⟨x2,hx2,hg1⟩:=bnd hg1
 obtain⟨y1,hy1,hg1⟩:=bnd hg1
 obtain rfl:=Option.some.inj hg1
 refine E zR (E zR (E zR ?_))
 refine BF 0 hx1 zR Bf Bo zR zR zR fun g1 m3 cp1 hv1=>?_
 refine Aa (AK x1) zR D8 zR zR (CE (sz:=4) (enc:=AK) 0 (fun _=>rfl) zR hv1 hx1) ?_
 refine E zR (E zR (O zR Bp ?_))
 refine BF 0 hx2 zR Bf Bo zR zR zR fun g2 m4 cp2 hv2=>?_
 refine Aa (AK x2) zR D8 zR zR (CE (sz:=4) (enc:=AK) 0 (fun _=>rfl) zR hv2 hx2) ?_
 refine AP (vs:=[_,_]) (Hin:=[]) (Hr:=_::_) zR zR ⟨zR,zR,zT⟩ ZM zR zR ((KS hy1 :)) ?_
 rintro _ _ ⟨rfl,rfl⟩
 refine⟨⟨⟨0,rfl⟩,trivial⟩,?_⟩
 refine O zR Ao (Ad zR zR zR ?_)
 exact k.mono tL
 refine AA zR (AA zR (AA zR (AA zR (AA zR (AA zR (AA zR (AA zR ?_)))))))
 refine AA zR (AA zR (AA zR (AA zR (Ad zR zR zR ?_))))
 exact k.mono tL
 refine U ?_
 refine AG zR (fun hc2=>?_) (fun hc2=>?_)
 replace h:=cT hc2 h
 refine AH (AF (AD (AL ?_)))
 obtain⟨x3,hx3,h⟩:=bnd h
 obtain⟨x4,hx4,h⟩:=bnd h
 obtain⟨x5,hx5,h⟩:=bnd h
 obtain⟨l4,hl4,h⟩:=bnd h
 obtain⟨x6,hx6,h⟩:=bnd h
 obtain⟨l5,hl5,h⟩:=bnd h
 refine Aj CJ [] (BY [(true,0),(true,1),(true,2),(true,3),(true,4),(true,5),(true,6),(true,7),(true,8),(true,10),(true,11),(true,12)] (.alt 9 (BY [(false,13),(true,14),(false,15),(true,16)] (.last 17 .nil)) (.cons (false,13) (BY [(false,9),(true,14),(false,15),(true,16)] (.last 17 .nil))))) zK (E zR (E zR (E zR (E zR (O zR Bp (E zR (E zR ?_)))))))
 refine O zR Bp ?_
 refine BF 0 hx3 zR Bf Bo zR zR zR fun g3 m5 cp3 hv3=>?_
 refine E zR (E zR ?_)
 refine BF 0 hx4 zR Bf Bo zR zR zR fun g4 m6 cp4 hv4=>?_
 refine LF ?_ ?_
 refine Aa (AK x3) zR D8 zR zR (CE (sz:=4) (enc:=AK) 0 (fun _=>rfl) zR hv3 hx3) ?_
 refine Aa (AK x4) zR D8 zR zR (CE (sz:=4) (enc:=AK) 0 (fun _=>rfl) zR hv4 hx4) ?_
 refine BF 0 hx5 zR Bf Bo zR zR zR fun g5 m7 cp5 hv5=>?_
 refine Cd (sz:=4) (enc:=AK) 0 hl4 (fun _=>rfl) rfl rfl rfl rfl rfl hv5 Bo (by first | (simp[Value.oneCell'];done) | simp[AK,Value.oneCell']) trivial ?_
 refine BF 0 hx6 zR Bf Bo zR zR zR fun g6 m8 cp6 hv6=>?_
 refine BE ?_
 refine Cd (sz:=4) (enc:=AK) 0 hl5 (fun _=>rfl) rfl rfl rfl rfl rfl hv6 Bo (by first | (simp[Value.oneCell'];done) | simp[AK,Value.oneCell']) trivial ?_
 refine AS (Ai (AF (AJ ?_)))
 obtain⟨j_1,ej_1,h⟩:=Bc h
 refine E zR (O zR Bp ?_)
 refine Ak (u:=vI j_1) zR zR (congrArg vI ej_1) ?_
 refine AS ?_
 exact Ac (m2,l5,j_1) h (Nat.lt_succ_self _) tL (fun _ hw=>BJ.pick (H:=[_]) hw [0] 1 zR)
 refine Aa (AK x4) zR D8 zR zR (CE (sz:=4) (enc:=AK) 0 (fun _=>rfl) zR hv4 hx4) ?_
 refine Aa (AK x3) zR D8 zR zR (CE (sz:=4) (enc:=AK) 0 (fun _=>rfl) zR hv3 hx3) ?_
 refine BF 0 hx5 zR Bf Bo zR zR zR fun g5 m7 cp5 hv5=>?_
 refine Cd (sz:=4) (enc:=AK) 0 hl4 (fun _=>rfl) rfl rfl rfl rfl rfl hv5 Bo (by first | (simp[Value.oneCell'];done) | simp[AK,Value.oneCell']) trivial ?_
 refine BF 0 hx6 zR Bf Bo zR zR zR fun g6 m8 cp6 hv6=>?_
 refine BE ?_
 refine Cd (sz:=4) (enc:=AK) 0 hl5 (fun _=>rfl) rfl rfl rfl rfl rfl hv6 Bo (by first | (simp[Value.oneCell'];done) | simp[AK,Value.oneCell']) trivial ?_
 refine AS (Ai (AF (AJ ?_)))
 obtain⟨j_1,ej_1,h⟩:=Bc h
 refine E zR (O zR Bp ?_)
 refine Ak (u:=vI j_1) zR zR (congrArg vI ej_1) ?_
 refine AS ?_
 exact Ac (m2,l5,j_1) h (Nat.lt_succ_self _) tL (fun _ hw=>BJ.pick (H:=[_]) hw [0] 1 zR)
 replace h:=cF hc2 h
 refine Al (Aw (A9 (Au (Ai ?_))))
 exact Av l3 h tL (fun _ hw=>BJ.pick (H:=[_]) hw [0] 1 zR)
 unfold Oi at h
 refine A4 [(0,v0_),(1,vI p1),(2,vI p2),(3,.func (.func 50) #[] #[]),(8,vI a1)] (AE 79 4 v0_ AK l2::H) ?_ tL
 refine AJ ?_
 obtain⟨i_2,ei_2,h⟩:=Bc h
 refine E zR (O zR A3 ?_)
 refine Ak (u:=vI i_2) zR zR (congrArg vI ei_2) ?_
 refine AS ?_
 exact Ac (m1,l2,i_2) h (Nat.lt_succ_self _) tL (fun _ hw=>BJ.pick (H:=[_]) hw [0] 1 zR)
 replace h:=cF hc1 h
 refine Al (Aw (A9 (Au ?_)))
 obtain rfl:=Option.some.inj h
 exact CQ (C7 zR) (AV (M:=[_]) ⟨zR,zR⟩ fun _ hw=>BJ.pick (H:=[_]) hw [0] 1 zR)
def I2(p1:Int)(p2:Int)(p3:Int)(nx_f_swp_l1:List AN×Int→Option (List AN))(l1:List AN)(a1:Int):Option (List AN):=
 cond (decide (a1<p3))
 (
  (Aq l1 (wI (p2+a1))).bind fun x1=>
  (Aq l1 (wI (p1+a1))).bind fun x2=>
  (Aq l1 (wI (p1+a1))).bind fun x3=>
  (Ek l1 (wI (p1+a1)) x1).bind fun l2=>
  (Aq l2 (wI (p2+a1))).bind fun x4=>
  (Ek l2 (wI (p2+a1)) x2).bind fun l3=>
  ret (wI (a1+1)) fun i_1=>
  nx_f_swp_l1 (l3,i_1))
 (
  some l1)
def M1(p1:Int)(p2:Int)(p3:Int):Nat→(List AN×Int)→Option (List AN):=Be fun nx x=>I2 p1 p2 p3 nx x.1 x.2
def Rr(n:Nat)(p0:List AN)(p1:Int)(p2:Int)(p3:Int):Option (List AN):=
 M1 p1 p2 p3 n (p0,0)
theorem eg{n:Nat}{v0_:Value}{p0:List AN}{p1:Int}{p2:Int}{p3:Int}{r:List AN}(h:Rr n p0 p1 p2 p3=some r): BH Tryz.prog K w0 206 [v0_,vI p1,vI p2,vI p3,.func (.func 50) #[] #[]] [AE 79 4 v0_ AK p0] H (fun u M=>u=.tuple #[]∧M=[AE 79 4 v0_ AK r]):=by
 unfold Rr at h
 refine BH.enter Tryz.func206 rfl rfl ?_
 refine V (J zR (U (AL ?_)))
 refine SX.heap (SX.mono (Ay (α:=Nat×List AN×Int) (fun x=>M1 p1 p2 p3 x.1 (x.2.1,x.2.2)=some r) (fun x=>[(0,v0_),(1,vI p1),(2,vI p2),(3,vI p3),(10,vI x.2.2)]) (fun x=>AE 79 4 v0_ AK x.2.1::H) (fun x=>x.1) (fun x D h=>?_) (n,p0,0) h) tL) (fun _ hw=>BJ.pick (H:=[_]) hw [0] 1 zR)
 obtain⟨m1,l1,a1⟩:=x
 dsimp only at h
 rcases m1 with _ | m1
 cases (show(none:Option _)=some r from h)
 replace h:I2 p1 p2 p3 (M1 p1 p2 p3 m1) l1 a1=some r:=h
 unfold I2 at h
 refine A4 [(0,v0_),(1,vI p1),(2,vI p2),(3,vI p3),(10,vI a1)] (AE 79 4 v0_ AK l1::H) ?_ tL
 refine AD (V (E zR (E zR (O zR Ao (U ?_)))))
 refine AG zR (fun hc1=>?_) (fun hc1=>?_)
 replace h:=cT hc1 h
 refine AH (AF (AD (AL ?_)))
 obtain⟨x1,hx1,h⟩:=bnd h
 obtain⟨x2,hx2,h⟩:=bnd h
 obtain⟨x3,hx3,h⟩:=bnd h
 obtain⟨l2,hl2,h⟩:=bnd h
 obtain⟨x4,hx4,h⟩:=bnd h
 obtain⟨l3,hl3,h⟩:=bnd h
 refine Aj CJ [] (BY [(true,0),(true,1),(true,2),(true,3),(true,4),(true,5),(true,6),(true,7),(true,8),(true,9),(true,10),(true,11),(true,12),(true,14),(true,15),(true,16),(true,17),(true,18)] (.alt 13 (BY [(false,19),(true,20),(false,21),(true,22)] (.last 23 .nil)) (.cons (false,19) (BY [(false,13),(true,20),(false,21),(true,22)] (.last 23 .nil))))) zK (E zR (E zR (E zR (O zR A3 (E zR (E zR (E zR ?_)))))))
 refine O zR A3 (E zR (E zR (E zR (O zR A3 ?_))))
 refine BF 0 hx1 zR Bf Bo zR zR zR fun g1 m2 cp1 hv1=>?_
 refine E zR (E zR (E zR (O zR A3 ?_)))
 refine BF 0 hx2 zR Bf Bo zR zR zR fun g2 m3 cp2 hv2=>?_
 refine LF ?_ ?_
 refine Aa (AK x1) zR D8 zR zR (CE (sz:=4) (enc:=AK) 0 (fun _=>rfl) zR hv1 hx1) ?_
 refine Aa (AK x2) zR D8 zR zR (CE (sz:=4) (enc:=AK) 0 (fun _=>rfl) zR hv2 hx2) ?_
 refine BF 0 hx3 zR Bf Bo zR zR zR fun g3 m4 cp3 hv3=>?_
 refine Cd (sz:=4) (enc:=AK) 0 hl2 (fun _=>rfl) rfl rfl rfl rfl rfl hv3 Bo (by first | (simp[Value.oneCell'];done) | simp[AK,Value.oneCell']) trivial ?_
 refine BF 0 hx4 zR Bf Bo zR zR zR fun g4 m5 cp4 hv4=>?_
 refine BE ?_
 refine Cd (sz:=4) (enc:=AK) 0 hl3 (fun _=>rfl) rfl rfl rfl rfl rfl hv4 Bo (by first | (simp[Value.oneCell'];done) | simp[AK,Value.oneCell']) trivial ?_
 refine AS (Ai (AF (AJ ?_)))
 obtain⟨i_1,ei_1,h⟩:=Bc h
 refine E zR (O zR A3 ?_)
 refine Ak (u:=vI i_1) zR zR (congrArg vI ei_1) ?_
 refine AS ?_
 exact Ac (m1,l3,i_1) h (Nat.lt_succ_self _) tL (fun _ hw=>BJ.pick (H:=[_]) hw [0] 1 zR)
 refine Aa (AK x2) zR D8 zR zR (CE (sz:=4) (enc:=AK) 0 (fun _=>rfl) zR hv2 hx2) ?_
 refine Aa (AK x1) zR D8 zR zR (CE (sz:=4) (enc:=AK) 0 (fun _=>rfl) zR hv1 hx1) ?_
 refine BF 0 hx3 zR Bf Bo zR zR zR fun g3 m4 cp3 hv3=>?_
 refine Cd (sz:=4) (enc:=AK) 0 hl2 (fun _=>rfl) rfl rfl rfl rfl rfl hv3 Bo (by first | (simp[Value.oneCell'];done) | simp[AK,Value.oneCell']) trivial ?_
 refine BF 0 hx4 zR Bf Bo zR zR zR fun g4 m5 cp4 hv4=>?_
 refine BE ?_
 refine Cd (sz:=4) (enc:=AK) 0 hl3 (fun _=>rfl) rfl rfl rfl rfl rfl hv4 Bo (by first | (simp[Value.oneCell'];done) | simp[AK,Value.oneCell']) trivial ?_
 refine AS (Ai (AF (AJ ?_)))
 obtain⟨i_1,ei_1,h⟩:=Bc h
 refine E zR (O zR A3 ?_)
 refine Ak (u:=vI i_1) zR zR (congrArg vI ei_1) ?_
 refine AS ?_
 exact Ac (m1,l3,i_1) h (Nat.lt_succ_self _) tL (fun _ hw=>BJ.pick (H:=[_]) hw [0] 1 zR)
 replace h:=cF hc1 h
 refine Al (Aw (A9 (Au ?_)))
 obtain rfl:=Option.some.inj h
 exact CQ (C7 zR) (AV (M:=[_]) ⟨zR,zR⟩ fun _ hw=>BJ.pick (H:=[_]) hw [0] 1 zR)
def Qy(n:Nat)(p2:Int)(l1:List AN)(a1:Int):Option (List AN):=
 (Rr n l1 (wI (p2-a1)) p2 a1).bind fun y3=>
 some y3
def MJ(n:Nat)(p2:Int)(nx_f_rot_l1:List AN×Int×Int→Option (List AN))(l2:List AN)(a2:Int)(a3:Int):Option (List AN):=
 cond (!decide (a2=a3))
 (
  cond (decide (a3<a2))
  (
   (Rr n l2 (wI (p2-a2)) p2 a3).bind fun y1=>
   ret (wI (a2-a3)) fun i_2=>
   nx_f_rot_l1 (y1,i_2,a3))
  (
   (Rr n l2 (wI (p2-a2)) (wI ((wI (p2+a3))-a2)) a2).bind fun y2=>
   ret (wI (a3-a2)) fun j_2=>
   nx_f_rot_l1 (y2,a2,j_2)))
 (
  Qy n p2 l2 a2)
def OO(n:Nat)(p2:Int):Nat→(List AN×Int×Int)→Option (List AN):=Be fun nx x=>MJ n p2 nx x.1 x.2.1 x.2.2
def Vy(n:Nat)(p0:List AN)(p1:Int)(p2:Int)(p3:Int):Option (List AN):=
 ret (wI (p2-p1)) fun i_1=>
 ret (wI (p3-p2)) fun j_1=>
 OO n p2 n (p0,i_1,j_1)
theorem oU{n:Nat}{v0_:Value}{p0:List AN}{p1:Int}{p2:Int}{p3:Int}{r:List AN}(h:Vy n p0 p1 p2 p3=some r): BH Tryz.prog K w0 169 [v0_,vI p1,vI p2,vI p3,.func (.func 50) #[] #[]] [AE 79 4 v0_ AK p0] H (fun u M=>u=.tuple #[]∧M=[AE 79 4 v0_ AK r]):=by
 unfold Vy at h
 refine BH.enter Tryz.func169 rfl rfl ?_
 refine V ?_
 obtain⟨i_1,ei_1,h⟩:=Bc h
 refine E zR (E zR (O zR Bp ?_))
 refine Ak (u:=vI i_1) zR zR (congrArg vI ei_1) ?_
 refine U (V ?_)
 obtain⟨j_1,ej_1,h⟩:=Bc h
 refine E zR (E zR (O zR Bp ?_))
 refine Ak (u:=vI j_1) zR zR (congrArg vI ej_1) ?_
 refine U ?_
 refine A1 (α:=List AN×Int) (fun x=>Qy n p2 x.1 x.2=some r) (fun x=>[(0,v0_),(2,vI p2),(4,.func (.func 50) #[] #[]),(10,vI x.2)]) (fun x=>AE 79 4 v0_ AK x.1::H) ?_ (fun x D h=>?_)
 refine AL ?_
 refine SX.heap (SX.mono (Ay (α:=Nat×List AN×Int×Int) (fun x=>OO n p2 x.1 (x.2.1,x.2.2.1,x.2.2.2)=some r) (fun x=>[(0,v0_),(2,vI p2),(4,.func (.func 50) #[] #[]),(10,vI x.2.2.1),(11,vI x.2.2.2)]) (fun x=>AE 79 4 v0_ AK x.2.1::H) (fun x=>x.1) (fun x D h=>?_) (n,p0,i_1,j_1) h) tL) (fun _ hw=>BJ.pick (H:=[_]) hw [0] 1 zR)
 obtain⟨m1,l2,a2,a3⟩:=x
 dsimp only at h
 rcases m1 with _ | m1
 cases (show(none:Option _)=some r from h)
 replace h:MJ n p2 (OO n p2 m1) l2 a2 a3=some r:=h
 unfold MJ at h
 refine A4 [(0,v0_),(2,vI p2),(4,.func (.func 50) #[] #[]),(10,vI a2),(11,vI a3)] (AE 79 4 v0_ AK l2::H) ?_ tL
 refine AD (V (E zR (E zR (O zR Bh (U ?_)))))
 refine AG zR (fun hc1=>?_) (fun hc1=>?_)
 replace h:=cT hc1 h
 refine AH (AF (AL (V (E zR (E zR (O zR CD (U ?_)))))))
 refine AG zR (fun hc2=>?_) (fun hc2=>?_)
 replace h:=cT hc2 h
 refine V ?_
 obtain⟨y1,hy1,h⟩:=bnd h
 refine E zR (E zR (E zR (O zR Bp (E zR (E zR (E zR (AX 1 Yc (eg hy1) zR (U (AJ ?_)))))))))
 obtain⟨i_2,ei_2,h⟩:=Bc h
 refine E zR (E zR (O zR Bp ?_))
 refine Ak (u:=vI i_2) zR zR (congrArg vI ei_2) ?_
 refine AS (Ai ?_)
 exact Ac (m1,y1,i_2,a3) h (Nat.lt_succ_self _) tL (fun _ hw=>BJ.pick (H:=[_]) hw [0] 1 zR)
 replace h:=cF hc2 h
 refine V ?_
 obtain⟨y2,hy2,h⟩:=bnd h
 refine E zR (E zR (E zR (O zR Bp (E zR (E zR (O zR A3 (E zR ?_)))))))
 refine O zR Bp (E zR (E zR (AX 1 Yc (eg hy2) zR (U (AJ ?_)))))
 obtain⟨j_2,ej_2,h⟩:=Bc h
 refine E zR (E zR (O zR Bp ?_))
 refine Ak (u:=vI j_2) zR zR (congrArg vI ej_2) ?_
 refine AS (Ai ?_)
 exact Ac (m1,y2,a2,j_2) h (Nat.lt_succ_self _) tL (fun _ hw=>BJ.pick (H:=[_]) hw [0] 1 zR)
 replace h:=cF hc1 h
 refine Al (Aw (A9 (Au ?_)))
 exact Av (l2,a2) h tL (fun _ hw=>BJ.pick (H:=[_]) hw [0] 1 zR)
 obtain⟨l1,a1⟩:=x
 dsimp only at h
 unfold Qy at h
 refine A4 [(0,v0_),(2,vI p2),(4,.func (.func 50) #[] #[]),(10,vI a1)] (AE 79 4 v0_ AK l1::H) ?_ tL
 refine AJ ?_
 obtain⟨y3,hy3,h⟩:=bnd h
 refine E zR (E zR (E zR (O zR Bp (E zR (E zR (E zR (AX 1 Yc (eg hy3) zR (AS ?_))))))))
 obtain rfl:=Option.some.inj h
 exact CQ (C7 zR) (AV (M:=[_]) ⟨zR,zR⟩ fun _ hw=>BJ.pick (H:=[_]) hw [0] 1 zR)
end

/- Plain functions of the references and the laws, printed from the loaded program, and the walks that show that the program computes them. Condition: the plain function yields. -/
section
variable {K:Nat→Prop}{w0:World}{H:List AT}
def Qu(l7:List AN):Option (List AN):=
 some l7
def I3(a5:Int)(nx_f_sym_l4:List AN×Int→Option (List AN))(l8:List AN)(a8:Int):Option (List AN):=
 cond (decide (a5<a8))
 (
  (Aq l8 (wI (a8-1))).bind fun x11=>
  (Aq l8 a8).bind fun x12=>
  (Aq l8 a8).bind fun x13=>
  (Ek l8 a8 x11).bind fun l9=>
  (Aq l9 (wI (a8-1))).bind fun x14=>
  (Ek l9 (wI (a8-1)) x12).bind fun l10=>
  ret (wI (a8-1)) fun k_2=>
  nx_f_sym_l4 (l10,k_2))
 (
  Qu l8)
def Mo(a5:Int):Nat→(List AN×Int)→Option (List AN):=Be fun nx x=>I3 a5 nx x.1 x.2
def OV(n:Nat)(p2:Int)(l1:List AN)(a5:Int):Option (List AN):=
 Mo a5 n (l1,p2)
def Kj(n:Nat)(p2:Int)(l1:List AN)(nx_f_sym_l3:Int×Int→Option (List AN))(a6:Int)(a7:Int):Option (List AN):=
 cond (decide (a6<a7))
 (
  ret (wI ((shr64 (BK (wI (a6+a7))) 1).toNat:Int)) fun x8=>
  (Aq l1 p2).bind fun x9=>
  (Aq l1 x8).bind fun x10=>
  (Dt x9 x10).bind fun y2=>
  cond (!(decide (y2<0)))
  (
   ret (wI (x8+1)) fun i_2=>
   nx_f_sym_l3 (i_2,a7))
  (
   nx_f_sym_l3 (a6,x8)))
 (
  OV n p2 l1 a6)
def RC(n:Nat)(p2:Int)(l1:List AN):Nat→(Int×Int)→Option (List AN):=Be fun nx x=>Kj n p2 l1 nx x.1 x.2
def KU(p3:Int)(rec_:(List AN)→Int→Int→Int→Option (List AN))(mid_1:Int)(x19:Int)(l12:List AN):Option (List AN):=
 cond ((decide (mid_1<x19))&&(decide (x19<p3)))
 (
  (rec_ l12 mid_1 x19 p3).bind fun y6=>
  some y6)
 (
  some l12)
def Lc(p1:Int)(p3:Int)(rec_:(List AN)→Int→Int→Int→Option (List AN))(mid_1:Int)(a11:Int)(x19:Int)(l11:List AN):Option (List AN):=
 cond ((decide (p1<a11))&&(decide (a11<mid_1)))
 (
  (rec_ l11 p1 a11 mid_1).bind fun y5=>
  KU p3 rec_ mid_1 x19 y5)
 (
  KU p3 rec_ mid_1 x19 l11)
def Mt(n:Nat)(p1:Int)(p2:Int)(p3:Int)(rec_:(List AN)→Int→Int→Int→Option (List AN))(l6:List AN)(mid_1:Int)(x15:Int)(a11:Int):Option (List AN):=
 ret (wI (x15-a11)) fun x19=>
 cond ((decide (a11<p2))&&(decide (p2<x19)))
 (
  (Vy n l6 a11 p2 x19).bind fun y4=>
  Lc p1 p3 rec_ mid_1 a11 x19 y4)
 (
  Lc p1 p3 rec_ mid_1 a11 x19 l6)
def Kq(n:Nat)(p1:Int)(p2:Int)(p3:Int)(rec_:(List AN)→Int→Int→Int→Option (List AN))(l6:List AN)(mid_1:Int)(x15:Int)(p_1:Int)(nx_f_sym_l5:Int×Int→Option (List AN))(a12:Int)(a13:Int):Option (List AN):=
 cond (decide (a12<a13))
 (
  ret (wI ((shr64 (BK (wI (a12+a13))) 1).toNat:Int)) fun x16=>
  (Aq l6 (wI (p_1-x16))).bind fun x17=>
  (Aq l6 x16).bind fun x18=>
  (Dt x17 x18).bind fun y3=>
  cond (!(decide (y3<0)))
  (
   ret (wI (x16+1)) fun start_2=>
   nx_f_sym_l5 (start_2,a13))
  (
   nx_f_sym_l5 (a12,x16)))
 (
  Mt n p1 p2 p3 rec_ l6 mid_1 x15 a12)
def Qr(n:Nat)(p1:Int)(p2:Int)(p3:Int)(rec_:(List AN)→Int→Int→Int→Option (List AN))(l6:List AN)(mid_1:Int)(x15:Int)(p_1:Int):Nat→(Int×Int)→Option (List AN):=Be fun nx x=>Kq n p1 p2 p3 rec_ l6 mid_1 x15 p_1 nx x.1 x.2
def Mm(n:Nat)(p1:Int)(p2:Int)(p3:Int)(rec_:(List AN)→Int→Int→Int→Option (List AN))(l6:List AN)(mid_1:Int)(x15:Int)(a9:Int)(a10:Int):Option (List AN):=
 ret (wI (x15-1)) fun p_1=>
 Qr n p1 p2 p3 rec_ l6 mid_1 x15 p_1 n (a9,a10)
def OP(n:Nat)(p1:Int)(p2:Int)(p3:Int)(rec_:(List AN)→Int→Int→Int→Option (List AN))(l6:List AN):Option (List AN):=
 ret (wI ((shr64 (BK (wI (p1+p3))) 1).toNat:Int)) fun mid_1=>
 ret (wI (mid_1+p2)) fun x15=>
 cond (decide (mid_1<p2))
 (
  ret (wI (x15-p3)) fun start_1=>
  Mm n p1 p2 p3 rec_ l6 mid_1 x15 start_1 mid_1)
 (
  Mm n p1 p2 p3 rec_ l6 mid_1 x15 p1 p2)
def RD(n:Nat)(p1:Int)(p2:Int)(p3:Int)(rec_:(List AN)→Int→Int→Int→Option (List AN))(l1:List AN):Option (List AN):=
 cond (decide (wI (p3-p2)=1))
 (
  RC n p2 l1 n (p1,p2))
 (
  OP n p1 p2 p3 rec_ l1)
def Qz(l2:List AN):Option (List AN):=
 some l2
def Ir(a1:Int)(nx_f_sym_l2:List AN×Int→Option (List AN))(l3:List AN)(a4:Int):Option (List AN):=
 cond (decide (a4<wI (a1-1)))
 (
  (Aq l3 (wI (a4+1))).bind fun x4=>
  (Aq l3 a4).bind fun x5=>
  (Aq l3 a4).bind fun x6=>
  (Ek l3 a4 x4).bind fun l4=>
  (Aq l4 (wI (a4+1))).bind fun x7=>
  (Ek l4 (wI (a4+1)) x5).bind fun l5=>
  ret (wI (a4+1)) fun k_1=>
  nx_f_sym_l2 (l5,k_1))
 (
  Qz l3)
def Mx(a1:Int):Nat→(List AN×Int)→Option (List AN):=Be fun nx x=>Ir a1 nx x.1 x.2
def Ob(n:Nat)(p0:List AN)(p1:Int)(a1:Int):Option (List AN):=
 Mx a1 n (p0,p1)
def Ko(n:Nat)(p0:List AN)(p1:Int)(nx_f_sym_l1:Int×Int→Option (List AN))(a2:Int)(a3:Int):Option (List AN):=
 cond (decide (a2<a3))
 (
  ret (wI ((shr64 (BK (wI (a2+a3))) 1).toNat:Int)) fun x1=>
  (Aq p0 x1).bind fun x2=>
  (Aq p0 p1).bind fun x3=>
  (Dt x2 x3).bind fun y1=>
  cond (decide (y1<0))
  (
   ret (wI (x1+1)) fun i_1=>
   nx_f_sym_l1 (i_1,a3))
  (
   nx_f_sym_l1 (a2,x1)))
 (
  Ob n p0 p1 a2)
def Qs(n:Nat)(p0:List AN)(p1:Int):Nat→(Int×Int)→Option (List AN):=Be fun nx x=>Ko n p0 p1 nx x.1 x.2
def Vf(rec_:(List AN)→Int→Int→Int→Option (List AN))(n:Nat)(p0:List AN)(p1:Int)(p2:Int)(p3:Int):Option (List AN):=
 cond (decide (wI (p2-p1)=1))
 (
  Qs n p0 p1 n (p2,p3))
 (
  RD n p1 p2 p3 rec_ p0)
theorem og{rec_:(List AN)→Int→Int→Int→Option (List AN)}{n:Nat}{v0_:Value}{p0:List AN}{p1:Int}{p2:Int}{p3:Int}{r:List AN}(h:Vf rec_ n p0 p1 p2 p3=some r)(hrec:∀ {H:List AT} {v0_:Value} {p0:List AN} {p1:Int} {p2:Int} {p3:Int} {r:List AN},rec_ p0 p1 p2 p3=some r→BH Tryz.prog K w0 124 [v0_,vI p1,vI p2,vI p3,.func (.func 50) #[] #[]] [AE 79 4 v0_ AK p0] H (fun u M=>u=.tuple #[]∧M=[AE 79 4 v0_ AK r])):BH Tryz.prog K w0 124 [v0_,vI p1,vI p2,vI p3,.func (.func 50) #[] #[]] [AE 79 4 v0_ AK p0] H (fun u M=>u=.tuple #[]∧M=[AE 79 4 v0_ AK r]):=by
 unfold Vf at h
 refine BH.enter Tryz.func124 rfl rfl ?_
 refine A1 (α:=List AN) (fun x=>RD n p1 p2 p3 rec_ x=some r) (fun x=>[(0,v0_),(1,vI p1),(2,vI p2),(3,vI p3),(4,.func (.func 50) #[] #[])]) (fun x=>AE 79 4 v0_ AK x::H) ?_ (fun l1 D h=>?_)
 refine V (E zR (E zR (O zR Bp (O zR Bq (U ?_)))))
 refine AG zR (fun hc1=>?_) (fun hc1=>?_)
 replace h:=cT hc1 h
 refine V (E zR (J zR (U (V (E zR (J zR (U ?_)))))))
 refine A1 (α:=Int) (fun x=>Ob n p0 p1 x=some r) (fun x=>[(0,v0_),(1,vI p1),(10,vI x)]) (fun x=>AE 79 4 v0_ AK p0::H) ?_ (fun a1 D h=>?_)
 refine AL ?_
 refine SX.heap (SX.mono (Ay (α:=Nat×Int×Int) (fun x=>Qs n p0 p1 x.1 (x.2.1,x.2.2)=some r) (fun x=>[(0,v0_),(1,vI p1),(4,.func (.func 50) #[] #[]),(10,vI x.2.1),(11,vI x.2.2)]) (fun x=>AE 79 4 v0_ AK p0::H) (fun x=>x.1) (fun x D h=>?_) (n,p2,p3) h) tL) (fun _ hw=>BJ.pick (H:=[_]) hw [0] 1 zR)
 obtain⟨m1,a2,a3⟩:=x
 dsimp only at h
 rcases m1 with _ | m1
 cases (show(none:Option _)=some r from h)
 replace h:Ko n p0 p1 (Qs n p0 p1 m1) a2 a3=some r:=h
 unfold Ko at h
 refine A4 [(0,v0_),(1,vI p1),(4,.func (.func 50) #[] #[]),(10,vI a2),(11,vI a3)] (AE 79 4 v0_ AK p0::H) ?_ tL
 refine AD (V (E zR (E zR (O zR Ao (U ?_)))))
 refine AG zR (fun hc2=>?_) (fun hc2=>?_)
 replace h:=cT hc2 h
 refine AH (AF (AL (V ?_)))
 obtain⟨x1,ex1,h⟩:=Bc h
 refine E zR (E zR (O zR A3 (As zR zR (Cr Ef HF) ?_)))
 refine O zR (D4.shr64 (n:=1)) ?_
 refine As zR zR (No HF Ef) ?_
 refine Ak (u:=vI x1) zR zR (congrArg vI ex1) ?_
 refine U (AD ?_)
 obtain⟨x2,hx2,h⟩:=bnd h
 obtain⟨x3,hx3,h⟩:=bnd h
 obtain⟨y1,hy1,h⟩:=bnd h
 refine Aj CJ [0] (BY [(true,0),(true,1),(true,2),(true,3),(true,4),(true,5),(true,6),(true,7),(true,8)] (.last 9 (Pl.of [(false,10)]))) zK (E zR (E zR (E zR ?_)))
 refine BF 0 hx2 zR Bf Bo zR zR zR fun g1 m2 cp1 hv1=>?_
 refine Aa (AK x2) zR D8 zR zR (CE (sz:=4) (enc:=AK) 0 (fun _=>rfl) zR hv1 hx2) ?_
 refine E zR (E zR ?_)
 refine BF 0 hx3 zR Bf Bo zR zR zR fun g2 m3 cp2 hv2=>?_
 refine Aa (AK x3) zR D8 zR zR (CE (sz:=4) (enc:=AK) 0 (fun _=>rfl) zR hv2 hx3) ?_
 refine BE (AX 0 ZM ((KS hy1 :)) zR (O zR Ao (U ?_)))
 refine AG zR (fun hc3=>?_) (fun hc3=>?_)
 replace h:=cT hc3 h
 refine AJ ?_
 obtain⟨i_1,ei_1,h⟩:=Bc h
 refine E zR (O zR A3 ?_)
 refine Ak (u:=vI i_1) zR zR (congrArg vI ei_1) ?_
 refine AS (Ai ?_)
 exact Ac (m1,i_1,a3) h (Nat.lt_succ_self _) tL (fun _ hw=>BJ.pick (H:=[_]) hw [0] 1 zR)
 replace h:=cF hc3 h
 refine AJ (E zR (J zR (AS (Ai ?_))))
 exact Ac (m1,a2,x1) h (Nat.lt_succ_self _) tL (fun _ hw=>BJ.pick (H:=[_]) hw [0] 1 zR)
 replace h:=cF hc2 h
 refine Al (Aw (A9 (Au ?_)))
 exact Av a2 h tL (fun _ hw=>BJ.pick (H:=[_]) hw [0] 1 zR)
 unfold Ob at h
 refine A4 [(0,v0_),(1,vI p1),(10,vI a1)] (AE 79 4 v0_ AK p0::H) ?_ tL
 refine A1 (α:=List AN) (fun x=>Qz x=some r) (fun x=>[(0,v0_)]) (fun x=>AE 79 4 v0_ AK x::H) ?_ (fun l2 D h=>?_)
 refine V (E zR (J zR (U (AL ?_))))
 refine SX.heap (SX.mono (Ay (α:=Nat×List AN×Int) (fun x=>Mx a1 x.1 (x.2.1,x.2.2)=some r) (fun x=>[(0,v0_),(10,vI a1),(13,vI x.2.2)]) (fun x=>AE 79 4 v0_ AK x.2.1::H) (fun x=>x.1) (fun x D h=>?_) (n,p0,p1) h) tL) (fun _ hw=>BJ.pick (H:=[_]) hw [0] 1 zR)
 obtain⟨m4,l3,a4⟩:=x
 dsimp only at h
 rcases m4 with _ | m4
 cases (show(none:Option _)=some r from h)
 replace h:Ir a1 (Mx a1 m4) l3 a4=some r:=h
 unfold Ir at h
 refine A4 [(0,v0_),(10,vI a1),(13,vI a4)] (AE 79 4 v0_ AK l3::H) ?_ tL
 refine AD (V (E zR (E zR (O zR Bp (O zR Ao (U ?_))))))
 refine AG zR (fun hc4=>?_) (fun hc4=>?_)
 replace h:=cT hc4 h
 refine AH (AF (AD (AL ?_)))
 obtain⟨x4,hx4,h⟩:=bnd h
 obtain⟨x5,hx5,h⟩:=bnd h
 obtain⟨x6,hx6,h⟩:=bnd h
 obtain⟨l4,hl4,h⟩:=bnd h
 obtain⟨x7,hx7,h⟩:=bnd h
 obtain⟨l5,hl5,h⟩:=bnd h
 refine Aj CJ [] (BY [(true,0),(true,1),(true,2),(true,3),(true,4),(true,5),(true,6),(true,7),(true,8),(true,10),(true,11),(true,12)] (.alt 9 (BY [(false,13),(true,14),(false,15),(true,16)] (.last 17 .nil)) (.cons (false,13) (BY [(false,9),(true,14),(false,15),(true,16)] (.last 17 .nil))))) zK (E zR (E zR (E zR (E zR (O zR A3 (E zR (E zR ?_)))))))
 refine O zR A3 ?_
 refine BF 0 hx4 zR Bf Bo zR zR zR fun g3 m5 cp3 hv3=>?_
 refine E zR (E zR ?_)
 refine BF 0 hx5 zR Bf Bo zR zR zR fun g4 m6 cp4 hv4=>?_
 refine LF ?_ ?_
 refine Aa (AK x4) zR D8 zR zR (CE (sz:=4) (enc:=AK) 0 (fun _=>rfl) zR hv3 hx4) ?_
 refine Aa (AK x5) zR D8 zR zR (CE (sz:=4) (enc:=AK) 0 (fun _=>rfl) zR hv4 hx5) ?_
 refine BF 0 hx6 zR Bf Bo zR zR zR fun g5 m7 cp5 hv5=>?_
 refine Cd (sz:=4) (enc:=AK) 0 hl4 (fun _=>rfl) rfl rfl rfl rfl rfl hv5 Bo (by first | (simp[Value.oneCell'];done) | simp[AK,Value.oneCell']) trivial ?_
 refine BF 0 hx7 zR Bf Bo zR zR zR fun g6 m8 cp6 hv6=>?_
 refine BE ?_
 refine Cd (sz:=4) (enc:=AK) 0 hl5 (fun _=>rfl) rfl rfl rfl rfl rfl hv6 Bo (by first | (simp[Value.oneCell'];done) | simp[AK,Value.oneCell']) trivial ?_
 refine AS (Ai (AF (AJ ?_)))
 obtain⟨k_1,ek_1,h⟩:=Bc h
 refine E zR (O zR A3 ?_)
 refine Ak (u:=vI k_1) zR zR (congrArg vI ek_1) ?_
 refine AS ?_
 exact Ac (m4,l5,k_1) h (Nat.lt_succ_self _) tL (fun _ hw=>BJ.pick (H:=[_]) hw [0] 1 zR)
 refine Aa (AK x5) zR D8 zR zR (CE (sz:=4) (enc:=AK) 0 (fun _=>rfl) zR hv4 hx5) ?_
 refine Aa (AK x4) zR D8 zR zR (CE (sz:=4) (enc:=AK) 0 (fun _=>rfl) zR hv3 hx4) ?_
 refine BF 0 hx6 zR Bf Bo zR zR zR fun g5 m7 cp5 hv5=>?_
 refine Cd (sz:=4) (enc:=AK) 0 hl4 (fun _=>rfl) rfl rfl rfl rfl rfl hv5 Bo (by first | (simp[Value.oneCell'];done) | simp[AK,Value.oneCell']) trivial ?_
 refine BF 0 hx7 zR Bf Bo zR zR zR fun g6 m8 cp6 hv6=>?_
 refine BE ?_
 refine Cd (sz:=4) (enc:=AK) 0 hl5 (fun _=>rfl) rfl rfl rfl rfl rfl hv6 Bo (by first | (simp[Value.oneCell'];done) | simp[AK,Value.oneCell']) trivial ?_
 refine AS (Ai (AF (AJ ?_)))
 obtain⟨k_1,ek_1,h⟩:=Bc h
 refine E zR (O zR A3 ?_)
 refine Ak (u:=vI k_1) zR zR (congrArg vI ek_1) ?_
 refine AS ?_
 exact Ac (m4,l5,k_1) h (Nat.lt_succ_self _) tL (fun _ hw=>BJ.pick (H:=[_]) hw [0] 1 zR)
 replace h:=cF hc4 h
 refine Al (Aw (A9 (Au ?_)))
 exact Av l3 h tL (fun _ hw=>BJ.pick (H:=[_]) hw [0] 1 zR)
 unfold Qz at h
 refine A4 [(0,v0_)] (AE 79 4 v0_ AK l2::H) ?_ tL
 refine AM (ER ?_)
 obtain rfl:=Option.some.inj h
 exact AY [0] 1 zR zR zR
 replace h:=cF hc1 h
 refine AH ?_
 exact Av p0 h tL (fun _ hw=>BJ.pick (H:=[_]) hw [0] 1 zR)
 unfold RD at h
 refine A4 [(0,v0_),(1,vI p1),(2,vI p2),(3,vI p3),(4,.func (.func 50) #[] #[])] (AE 79 4 v0_ AK l1::H) ?_ tL
 refine A1 (α:=List AN) (fun x=>OP n p1 p2 p3 rec_ x=some r) (fun x=>[(0,v0_),(1,vI p1),(2,vI p2),(3,vI p3),(4,.func (.func 50) #[] #[])]) (fun x=>AE 79 4 v0_ AK x::H) ?_ (fun l6 D h=>?_)
 refine V (E zR (E zR (O zR Bp (O zR Bq (U ?_)))))
 refine AG zR (fun hc5=>?_) (fun hc5=>?_)
 replace h:=cT hc5 h
 refine V (E zR (J zR (U (V (E zR (J zR (U ?_)))))))
 refine A1 (α:=Int) (fun x=>OV n p2 l1 x=some r) (fun x=>[(0,v0_),(2,vI p2),(14,vI x)]) (fun x=>AE 79 4 v0_ AK l1::H) ?_ (fun a5 D h=>?_)
 refine AL ?_
 refine SX.heap (SX.mono (Ay (α:=Nat×Int×Int) (fun x=>RC n p2 l1 x.1 (x.2.1,x.2.2)=some r) (fun x=>[(0,v0_),(2,vI p2),(4,.func (.func 50) #[] #[]),(14,vI x.2.1),(15,vI x.2.2)]) (fun x=>AE 79 4 v0_ AK l1::H) (fun x=>x.1) (fun x D h=>?_) (n,p1,p2) h) tL) (fun _ hw=>BJ.pick (H:=[_]) hw [0] 1 zR)
 obtain⟨m9,a6,a7⟩:=x
 dsimp only at h
 rcases m9 with _ | m9
 cases (show(none:Option _)=some r from h)
 replace h:Kj n p2 l1 (RC n p2 l1 m9) a6 a7=some r:=h
 unfold Kj at h
 refine A4 [(0,v0_),(2,vI p2),(4,.func (.func 50) #[] #[]),(14,vI a6),(15,vI a7)] (AE 79 4 v0_ AK l1::H) ?_ tL
 refine AD (V (E zR (E zR (O zR Ao (U ?_)))))
 refine AG zR (fun hc6=>?_) (fun hc6=>?_)
 replace h:=cT hc6 h
 refine AH (AF (AL (V ?_)))
 obtain⟨x8,ex8,h⟩:=Bc h
 refine E zR (E zR (O zR A3 (As zR zR (Cr Ef HF) ?_)))
 refine O zR (D4.shr64 (n:=1)) ?_
 refine As zR zR (No HF Ef) ?_
 refine Ak (u:=vI x8) zR zR (congrArg vI ex8) ?_
 refine U (AD ?_)
 obtain⟨x9,hx9,h⟩:=bnd h
 obtain⟨x10,hx10,h⟩:=bnd h
 obtain⟨y2,hy2,h⟩:=bnd h
 refine Aj CJ [0] (BY [(true,0),(true,1),(true,2),(true,3),(true,4),(true,5),(true,6),(true,7),(true,8)] (.last 9 (Pl.of [(false,10),(false,11)]))) zK (E zR (E zR (E zR ?_)))
 refine BF 0 hx9 zR Bf Bo zR zR zR fun g7 m10 cp7 hv7=>?_
 refine Aa (AK x9) zR D8 zR zR (CE (sz:=4) (enc:=AK) 0 (fun _=>rfl) zR hv7 hx9) ?_
 refine E zR (E zR ?_)
 refine BF 0 hx10 zR Bf Bo zR zR zR fun g8 m11 cp8 hv8=>?_
 refine Aa (AK x10) zR D8 zR zR (CE (sz:=4) (enc:=AK) 0 (fun _=>rfl) zR hv8 hx10) ?_
 refine BE (AX 0 ZM ((KS hy2 :)) zR (O zR Ao (B9 zR zR (U ?_))))
 refine AG zR (fun hc7=>?_) (fun hc7=>?_)
 replace h:=cT hc7 h
 refine AJ ?_
 obtain⟨i_2,ei_2,h⟩:=Bc h
 refine E zR (O zR A3 ?_)
 refine Ak (u:=vI i_2) zR zR (congrArg vI ei_2) ?_
 refine AS (Ai ?_)
 exact Ac (m9,i_2,a7) h (Nat.lt_succ_self _) tL (fun _ hw=>BJ.pick (H:=[_]) hw [0] 1 zR)
 replace h:=cF hc7 h
 refine AJ (E zR (J zR (AS (Ai ?_))))
 exact Ac (m9,a6,x8) h (Nat.lt_succ_self _) tL (fun _ hw=>BJ.pick (H:=[_]) hw [0] 1 zR)
 replace h:=cF hc6 h
 refine Al (Aw (A9 (Au ?_)))
 exact Av a6 h tL (fun _ hw=>BJ.pick (H:=[_]) hw [0] 1 zR)
 unfold OV at h
 refine A4 [(0,v0_),(2,vI p2),(14,vI a5)] (AE 79 4 v0_ AK l1::H) ?_ tL
 refine A1 (α:=List AN) (fun x=>Qu x=some r) (fun x=>[(0,v0_)]) (fun x=>AE 79 4 v0_ AK x::H) ?_ (fun l7 D h=>?_)
 refine V (E zR (J zR (U (AL ?_))))
 refine SX.heap (SX.mono (Ay (α:=Nat×List AN×Int) (fun x=>Mo a5 x.1 (x.2.1,x.2.2)=some r) (fun x=>[(0,v0_),(14,vI a5),(17,vI x.2.2)]) (fun x=>AE 79 4 v0_ AK x.2.1::H) (fun x=>x.1) (fun x D h=>?_) (n,l1,p2) h) tL) (fun _ hw=>BJ.pick (H:=[_]) hw [0] 1 zR)
 obtain⟨m12,l8,a8⟩:=x
 dsimp only at h
 rcases m12 with _ | m12
 cases (show(none:Option _)=some r from h)
 replace h:I3 a5 (Mo a5 m12) l8 a8=some r:=h
 unfold I3 at h
 refine A4 [(0,v0_),(14,vI a5),(17,vI a8)] (AE 79 4 v0_ AK l8::H) ?_ tL
 refine AD (V (E zR (E zR (O zR CD (U ?_)))))
 refine AG zR (fun hc8=>?_) (fun hc8=>?_)
 replace h:=cT hc8 h
 refine AH (AF (AD (AL ?_)))
 obtain⟨x11,hx11,h⟩:=bnd h
 obtain⟨x12,hx12,h⟩:=bnd h
 obtain⟨x13,hx13,h⟩:=bnd h
 obtain⟨l9,hl9,h⟩:=bnd h
 obtain⟨x14,hx14,h⟩:=bnd h
 obtain⟨l10,hl10,h⟩:=bnd h
 refine Aj CJ [] (BY [(true,0),(true,1),(true,2),(true,3),(true,4),(true,5),(true,6),(true,7),(true,8),(true,10),(true,11),(true,12)] (.alt 9 (BY [(false,13),(true,14),(false,15),(true,16)] (.last 17 .nil)) (.cons (false,13) (BY [(false,9),(true,14),(false,15),(true,16)] (.last 17 .nil))))) zK (E zR (E zR (E zR (E zR (O zR Bp (E zR (E zR ?_)))))))
 refine O zR Bp ?_
 refine BF 0 hx11 zR Bf Bo zR zR zR fun g9 m13 cp9 hv9=>?_
 refine E zR (E zR ?_)
 refine BF 0 hx12 zR Bf Bo zR zR zR fun g10 m14 cp10 hv10=>?_
 refine LF ?_ ?_
 refine Aa (AK x11) zR D8 zR zR (CE (sz:=4) (enc:=AK) 0 (fun _=>rfl) zR hv9 hx11) ?_
 refine Aa (AK x12) zR D8 zR zR (CE (sz:=4) (enc:=AK) 0 (fun _=>rfl) zR hv10 hx12) ?_
 refine BF 0 hx13 zR Bf Bo zR zR zR fun g11 m15 cp11 hv11=>?_
 refine Cd (sz:=4) (enc:=AK) 0 hl9 (fun _=>rfl) rfl rfl rfl rfl rfl hv11 Bo (by first | (simp[Value.oneCell'];done) | simp[AK,Value.oneCell']) trivial ?_
 refine BF 0 hx14 zR Bf Bo zR zR zR fun g12 m16 cp12 hv12=>?_
 refine BE ?_
 refine Cd (sz:=4) (enc:=AK) 0 hl10 (fun _=>rfl) rfl rfl rfl rfl rfl hv12 Bo (by first | (simp[Value.oneCell'];done) | simp[AK,Value.oneCell']) trivial ?_
 refine AS (Ai (AF (AJ ?_)))
 obtain⟨k_2,ek_2,h⟩:=Bc h
 refine E zR (O zR Bp ?_)
 refine Ak (u:=vI k_2) zR zR (congrArg vI ek_2) ?_
 refine AS ?_
 exact Ac (m12,l10,k_2) h (Nat.lt_succ_self _) tL (fun _ hw=>BJ.pick (H:=[_]) hw [0] 1 zR)
 refine Aa (AK x12) zR D8 zR zR (CE (sz:=4) (enc:=AK) 0 (fun _=>rfl) zR hv10 hx12) ?_
 refine Aa (AK x11) zR D8 zR zR (CE (sz:=4) (enc:=AK) 0 (fun _=>rfl) zR hv9 hx11) ?_
 refine BF 0 hx13 zR Bf Bo zR zR zR fun g11 m15 cp11 hv11=>?_
 refine Cd (sz:=4) (enc:=AK) 0 hl9 (fun _=>rfl) rfl rfl rfl rfl rfl hv11 Bo (by first | (simp[Value.oneCell'];done) | simp[AK,Value.oneCell']) trivial ?_
 refine BF 0 hx14 zR Bf Bo zR zR zR fun g12 m16 cp12 hv12=>?_
 refine BE ?_
 refine Cd (sz:=4) (enc:=AK) 0 hl10 (fun _=>rfl) rfl rfl rfl rfl rfl hv12 Bo (by first | (simp[Value.oneCell'];done) | simp[AK,Value.oneCell']) trivial ?_
 refine AS (Ai (AF (AJ ?_)))
 obtain⟨k_2,ek_2,h⟩:=Bc h
 refine E zR (O zR Bp ?_)
 refine Ak (u:=vI k_2) zR zR (congrArg vI ek_2) ?_
 refine AS ?_
 exact Ac (m12,l10,k_2) h (Nat.lt_succ_self _) tL (fun _ hw=>BJ.pick (H:=[_]) hw [0] 1 zR)
 replace h:=cF hc8 h
 refine Al (Aw (A9 (Au ?_)))
 exact Av l8 h tL (fun _ hw=>BJ.pick (H:=[_]) hw [0] 1 zR)
 unfold Qu at h
 refine A4 [(0,v0_)] (AE 79 4 v0_ AK l7::H) ?_ tL
 refine AM (ER ?_)
 obtain rfl:=Option.some.inj h
 exact AY [0] 1 zR zR zR
 replace h:=cF hc5 h
 refine AH ?_
 exact Av l1 h tL (fun _ hw=>BJ.pick (H:=[_]) hw [0] 1 zR)
 unfold OP at h
 refine A4 [(0,v0_),(1,vI p1),(2,vI p2),(3,vI p3),(4,.func (.func 50) #[] #[])] (AE 79 4 v0_ AK l6::H) ?_ tL
 refine V ?_
 obtain⟨mid_1,emid_1,h⟩:=Bc h
 refine E zR (E zR (O zR A3 (As zR zR (Cr Ef HF) ?_)))
 refine O zR (D4.shr64 (n:=1)) ?_
 refine As zR zR (No HF Ef) ?_
 refine Ak (u:=vI mid_1) zR zR (congrArg vI emid_1) ?_
 refine U (V ?_)
 obtain⟨x15,ex15,h⟩:=Bc h
 refine E zR (E zR (O zR A3 ?_))
 refine Ak (u:=vI x15) zR zR (congrArg vI ex15) ?_
 refine U (V (J zR (J zR (U ?_))))
 refine A1 (α:=Int×Int) (fun x=>Mm n p1 p2 p3 rec_ l6 mid_1 x15 x.1 x.2=some r) (fun x=>[(0,v0_),(1,vI p1),(2,vI p2),(3,vI p3),(4,.func (.func 50) #[] #[]),(18,vI mid_1),(19,vI x15),(20,vI x.1),(21,vI x.2)]) (fun x=>AE 79 4 v0_ AK l6::H) ?_ (fun x D h=>?_)
 refine V (E zR (E zR (O zR CD (U ?_))))
 refine AG zR (fun hc9=>?_) (fun hc9=>?_)
 replace h:=cT hc9 h
 refine V ?_
 obtain⟨start_1,estart_1,h⟩:=Bc h
 refine E zR (E zR (O zR Bp ?_))
 refine Ak (u:=vI start_1) zR zR (congrArg vI estart_1) ?_
 refine U (AJ (E zR (J zR (AS ?_))))
 exact Av (start_1,mid_1) h tL (fun _ hw=>BJ.pick (H:=[_]) hw [0] 1 zR)
 replace h:=cF hc9 h
 refine V (E zR (J zR (U (AJ (E zR (J zR (AS ?_)))))))
 exact Av (p1,p2) h tL (fun _ hw=>BJ.pick (H:=[_]) hw [0] 1 zR)
 obtain⟨a9,a10⟩:=x
 dsimp only at h
 unfold Mm at h
 refine A4 [(0,v0_),(1,vI p1),(2,vI p2),(3,vI p3),(4,.func (.func 50) #[] #[]),(18,vI mid_1),(19,vI x15),(20,vI a9),(21,vI a10)] (AE 79 4 v0_ AK l6::H) ?_ tL
 refine V ?_
 obtain⟨p_1,ep_1,h⟩:=Bc h
 refine E zR (O zR Bp ?_)
 refine Ak (u:=vI p_1) zR zR (congrArg vI ep_1) ?_
 refine U ?_
 refine A1 (α:=Int) (fun x=>Mt n p1 p2 p3 rec_ l6 mid_1 x15 x=some r) (fun x=>[(0,v0_),(1,vI p1),(2,vI p2),(3,vI p3),(4,.func (.func 50) #[] #[]),(18,vI mid_1),(19,vI x15),(20,vI x)]) (fun x=>AE 79 4 v0_ AK l6::H) ?_ (fun a11 D h=>?_)
 refine AL ?_
 refine SX.heap (SX.mono (Ay (α:=Nat×Int×Int) (fun x=>Qr n p1 p2 p3 rec_ l6 mid_1 x15 p_1 x.1 (x.2.1,x.2.2)=some r) (fun x=>[(0,v0_),(1,vI p1),(2,vI p2),(3,vI p3),(4,.func (.func 50) #[] #[]),(18,vI mid_1),(19,vI x15),(20,vI x.2.1),(21,vI x.2.2),(22,vI p_1)]) (fun x=>AE 79 4 v0_ AK l6::H) (fun x=>x.1) (fun x D h=>?_) (n,a9,a10) h) tL) (fun _ hw=>BJ.pick (H:=[_]) hw [0] 1 zR)
 obtain⟨m17,a12,a13⟩:=x
 dsimp only at h
 rcases m17 with _ | m17
 cases (show(none:Option _)=some r from h)
 replace h:Kq n p1 p2 p3 rec_ l6 mid_1 x15 p_1 (Qr n p1 p2 p3 rec_ l6 mid_1 x15 p_1 m17) a12 a13=some r:=h
 unfold Kq at h
 refine A4 [(0,v0_),(1,vI p1),(2,vI p2),(3,vI p3),(4,.func (.func 50) #[] #[]),(18,vI mid_1),(19,vI x15),(20,vI a12),(21,vI a13),(22,vI p_1)] (AE 79 4 v0_ AK l6::H) ?_ tL
 refine AD (V (E zR (E zR (O zR Ao (U ?_)))))
 refine AG zR (fun hc10=>?_) (fun hc10=>?_)
 replace h:=cT hc10 h
 refine AH (AF (AL (V ?_)))
 obtain⟨x16,ex16,h⟩:=Bc h
 refine E zR (E zR (O zR A3 (As zR zR (Cr Ef HF) ?_)))
 refine O zR (D4.shr64 (n:=1)) ?_
 refine As zR zR (No HF Ef) ?_
 refine Ak (u:=vI x16) zR zR (congrArg vI ex16) ?_
 refine U (AD ?_)
 obtain⟨x17,hx17,h⟩:=bnd h
 obtain⟨x18,hx18,h⟩:=bnd h
 obtain⟨y3,hy3,h⟩:=bnd h
 refine Aj CJ [0] (BY [(true,0),(true,1),(true,2),(true,3),(true,4),(true,5),(true,6),(true,7),(true,8),(true,9),(true,10)] (.last 11 (Pl.of [(false,12),(false,13)]))) zK (E zR (E zR (E zR (E zR (O zR Bp ?_)))))
 refine BF 0 hx17 zR Bf Bo zR zR zR fun g13 m18 cp13 hv13=>?_
 refine Aa (AK x17) zR D8 zR zR (CE (sz:=4) (enc:=AK) 0 (fun _=>rfl) zR hv13 hx17) ?_
 refine E zR (E zR ?_)
 refine BF 0 hx18 zR Bf Bo zR zR zR fun g14 m19 cp14 hv14=>?_
 refine Aa (AK x18) zR D8 zR zR (CE (sz:=4) (enc:=AK) 0 (fun _=>rfl) zR hv14 hx18) ?_
 refine BE (AX 0 ZM ((KS hy3 :)) zR (O zR Ao (B9 zR zR (U ?_))))
 refine AG zR (fun hc11=>?_) (fun hc11=>?_)
 replace h:=cT hc11 h
 refine AJ ?_
 obtain⟨start_2,estart_2,h⟩:=Bc h
 refine E zR (O zR A3 ?_)
 refine Ak (u:=vI start_2) zR zR (congrArg vI estart_2) ?_
 refine AS (Ai ?_)
 exact Ac (m17,start_2,a13) h (Nat.lt_succ_self _) tL (fun _ hw=>BJ.pick (H:=[_]) hw [0] 1 zR)
 replace h:=cF hc11 h
 refine AJ (E zR (J zR (AS (Ai ?_))))
 exact Ac (m17,a12,x16) h (Nat.lt_succ_self _) tL (fun _ hw=>BJ.pick (H:=[_]) hw [0] 1 zR)
 replace h:=cF hc10 h
 refine Al (Aw (A9 (Au ?_)))
 exact Av a12 h tL (fun _ hw=>BJ.pick (H:=[_]) hw [0] 1 zR)
 unfold Mt at h
 refine A4 [(0,v0_),(1,vI p1),(2,vI p2),(3,vI p3),(4,.func (.func 50) #[] #[]),(18,vI mid_1),(19,vI x15),(20,vI a11)] (AE 79 4 v0_ AK l6::H) ?_ tL
 refine V ?_
 obtain⟨x19,ex19,h⟩:=Bc h
 refine E zR (E zR (O zR Bp ?_))
 refine Ak (u:=vI x19) zR zR (congrArg vI ex19) ?_
 refine U ?_
 refine A1 (α:=List AN) (fun x=>Lc p1 p3 rec_ mid_1 a11 x19 x=some r) (fun x=>[(0,v0_),(1,vI p1),(3,vI p3),(4,.func (.func 50) #[] #[]),(18,vI mid_1),(20,vI a11),(24,vI x19)]) (fun x=>AE 79 4 v0_ AK x::H) ?_ (fun l11 D h=>?_)
 refine V (E zR (E zR (O zR Ao (E zR ?_))))
 refine CU (c:=decide (p2<x19)) 181 4 185 zR (fun hb k=>?_) (fun hb k=>?_) ?_
 refine E zR (E zR (O zR Ao (Ad zR zR zR ?_)))
 exact k.mono tL
 refine AA zR (AA zR (AA zR (Ad zR zR zR ?_)))
 exact k.mono tL
 refine U ?_
 refine AG zR (fun hc12=>?_) (fun hc12=>?_)
 replace h:=cT hc12 h
 refine AJ ?_
 obtain⟨y4,hy4,h⟩:=bnd h
 refine E zR (E zR (E zR (E zR (E zR (AX 1 mB (oU hy4) zR (AS ?_))))))
 exact Av y4 h tL (fun _ hw=>BJ.pick (H:=[_]) hw [0] 1 zR)
 replace h:=cF hc12 h
 refine AH ?_
 exact Av l6 h tL (fun _ hw=>BJ.pick (H:=[_]) hw [0] 1 zR)
 unfold Lc at h
 refine A4 [(0,v0_),(1,vI p1),(3,vI p3),(4,.func (.func 50) #[] #[]),(18,vI mid_1),(20,vI a11),(24,vI x19)] (AE 79 4 v0_ AK l11::H) ?_ tL
 refine A1 (α:=List AN) (fun x=>KU p3 rec_ mid_1 x19 x=some r) (fun x=>[(0,v0_),(3,vI p3),(4,.func (.func 50) #[] #[]),(18,vI mid_1),(24,vI x19)]) (fun x=>AE 79 4 v0_ AK x::H) ?_ (fun l12 D h=>?_)
 refine V (E zR (E zR (O zR Ao (E zR ?_))))
 refine CU (c:=decide (a11<mid_1)) 195 4 199 zR (fun hb k=>?_) (fun hb k=>?_) ?_
 refine E zR (E zR (O zR Ao (Ad zR zR zR ?_)))
 exact k.mono tL
 refine AA zR (AA zR (AA zR (Ad zR zR zR ?_)))
 exact k.mono tL
 refine U ?_
 refine AG zR (fun hc13=>?_) (fun hc13=>?_)
 replace h:=cT hc13 h
 refine AJ ?_
 obtain⟨y5,hy5,h⟩:=bnd h
 refine E zR (E zR (E zR (E zR (E zR (AX 1 U3 (hrec hy5) zR (AS ?_))))))
 exact Av y5 h tL (fun _ hw=>BJ.pick (H:=[_]) hw [0] 1 zR)
 replace h:=cF hc13 h
 refine AH ?_
 exact Av l11 h tL (fun _ hw=>BJ.pick (H:=[_]) hw [0] 1 zR)
 unfold KU at h
 refine A4 [(0,v0_),(3,vI p3),(4,.func (.func 50) #[] #[]),(18,vI mid_1),(24,vI x19)] (AE 79 4 v0_ AK l12::H) ?_ tL
 refine V (E zR (E zR (O zR Ao (E zR ?_))))
 refine CU (c:=decide (x19<p3)) 209 4 213 zR (fun hb k=>?_) (fun hb k=>?_) ?_
 refine E zR (E zR (O zR Ao (Ad zR zR zR ?_)))
 exact k.mono tL
 refine AA zR (AA zR (AA zR (Ad zR zR zR ?_)))
 exact k.mono tL
 refine U ?_
 refine AG zR (fun hc14=>?_) (fun hc14=>?_)
 replace h:=cT hc14 h
 refine AJ ?_
 obtain⟨y6,hy6,h⟩:=bnd h
 refine E zR (E zR (E zR (E zR (E zR (AX 1 U3 (hrec hy6) zR (AS ?_))))))
 obtain rfl:=Option.some.inj h
 exact CQ (C7 zR) (AV (M:=[_]) ⟨zR,zR⟩ fun _ hw=>BJ.pick (H:=[_]) hw [0] 1 zR)
 replace h:=cF hc14 h
 refine AH ?_
 obtain rfl:=Option.some.inj h
 exact CQ (C7 zR) (AV (M:=[_]) ⟨zR,zR⟩ fun _ hw=>BJ.pick (H:=[_]) hw [0] 1 zR)
end

/- slices.symMerge of rows, tied. Condition: the plain function yields. -/
section
def M7(n:Nat):Nat→List AN→Int→Int→Int→Option (List AN)
 | 0=>fun _ _ _ _=>none
 | f+1=>Vf (M7 n f) n
def cb(n:Nat):List AN→Int→Int→Int→Option (List AN):=M7 n n
theorem gQ(n:Nat):∀(f:Nat) {K:Nat→Prop} {w0:World} {H:List AT} {v0_:Value} {p0:List AN} {p1 p2 p3:Int} {r:List AN},M7 n f p0 p1 p2 p3=some r→BH Tryz.prog K w0 124 [v0_,vI p1,vI p2,vI p3,.func (.func 50) #[] #[]] [AE 79 4 v0_ AK p0] H (fun u M=>u=.tuple #[]∧M=[AE 79 4 v0_ AK r])
 | 0,_,_,_,_,_,_,_,_,_,h=>by cases h
 | f+1,_,_,_,_,_,_,_,_,_,h=>og h (fun h=>gQ n f h)
theorem gO{K:Nat→Prop}{w0:World}{H:List AT}{n:Nat}{v0_:Value}{p0:List AN}{p1 p2 p3:Int}{r:List AN}(h:cb n p0 p1 p2 p3=some r):BH Tryz.prog K w0 124 [v0_,vI p1,vI p2,vI p3,.func (.func 50) #[] #[]] [AE 79 4 v0_ AK p0] H (fun u M=>u=.tuple #[]∧M=[AE 79 4 v0_ AK r]):=gQ n n h
end

/- Plain functions of the references and the laws, printed from the loaded program, and the walks that show that the program computes them. Condition: the plain function yields. -/
section
variable {K:Nat→Prop}{w0:World}{H:List AT}
def Jc(a4:Int)(nx_f_stb_l2:List AN×Int→Option (List AN))(l6:List AN):Option (List AN):=
 ret (wI (a4*2)) fun blockSize_1=>
 nx_f_stb_l2 (l6,blockSize_1)
def LT(n:Nat)(p1:Int)(a4:Int)(nx_f_stb_l2:List AN×Int→Option (List AN))(l4:List AN)(a5:Int):Option (List AN):=
 ret (wI (a5+a4)) fun x4=>
 cond (decide (x4<p1))
 (
  (cb n l4 a5 x4 p1).bind fun y4=>
  Jc a4 nx_f_stb_l2 y4)
 (
  Jc a4 nx_f_stb_l2 l4)
def D6(n:Nat)(p1:Int)(a4:Int)(nx_f_stb_l2:List AN×Int→Option (List AN))(nx_f_stb_l3:List AN×Int×Int→Option (List AN))(l5:List AN)(a6:Int)(a7:Int):Option (List AN):=
 cond (decide (a7≤p1))
 (
  (cb n l5 a6 (wI (a6+a4)) a7).bind fun y3=>
  ret (wI (a7+(wI (2*a4)))) fun x3=>
  nx_f_stb_l3 (y3,a7,x3))
 (
  LT n p1 a4 nx_f_stb_l2 l5 a6)
def GQ(n:Nat)(p1:Int)(a4:Int)(nx_f_stb_l2:List AN×Int→Option (List AN)):Nat→(List AN×Int×Int)→Option (List AN):=Be fun nx x=>D6 n p1 a4 nx_f_stb_l2 nx x.1 x.2.1 x.2.2
def Gj(n:Nat)(p1:Int)(nx_f_stb_l2:List AN×Int→Option (List AN))(l3:List AN)(a4:Int):Option (List AN):=
 cond (decide (a4<p1))
 (
  ret (wI (2*a4)) fun x2=>
  GQ n p1 a4 nx_f_stb_l2 n (l3,0,x2))
 (
  some l3)
def E5(n:Nat)(p1:Int):Nat→(List AN×Int)→Option (List AN):=Be fun nx x=>Gj n p1 nx x.1 x.2
def Q9(n:Nat)(p1:Int)(l1:List AN)(a1:Int):Option (List AN):=
 (UF n l1 a1 p1).bind fun y2=>
 E5 n p1 n (y2,20)
def Is(n:Nat)(p1:Int)(nx_f_stb_l1:List AN×Int×Int→Option (List AN))(l2:List AN)(a2:Int)(a3:Int):Option (List AN):=
 cond (decide (a3≤p1))
 (
  (UF n l2 a2 a3).bind fun y1=>
  ret (wI (a3+20)) fun x1=>
  nx_f_stb_l1 (y1,a3,x1))
 (
  Q9 n p1 l2 a2)
def Lm(n:Nat)(p1:Int):Nat→(List AN×Int×Int)→Option (List AN):=Be fun nx x=>Is n p1 nx x.1 x.2.1 x.2.2
def aF(n:Nat)(p0:List AN)(p1:Int):Option (List AN):=
 Lm n p1 n (p0,0,20)
theorem ox{n:Nat}{v0_:Value}{p0:List AN}{p1:Int}{r:List AN}(h:aF n p0 p1=some r): BH Tryz.prog K w0 83 [v0_,vI p1,.func (.func 50) #[] #[]] [AE 79 4 v0_ AK p0] H (fun u M=>u=.tuple #[]∧M=[AE 79 4 v0_ AK r]):=by
 unfold aF at h
 refine BH.enter Tryz.func83 rfl rfl ?_
 refine V (J zR (U (V (E zR (J zR (J zR (U ?_)))))))
 refine A1 (α:=List AN×Int) (fun x=>Q9 n p1 x.1 x.2=some r) (fun x=>[(0,v0_),(1,vI p1),(2,.func (.func 50) #[] #[]),(6,vI 20),(7,vI x.2)]) (fun x=>AE 79 4 v0_ AK x.1::H) ?_ (fun x D h=>?_)
 refine AL ?_
 refine SX.heap (SX.mono (Ay (α:=Nat×List AN×Int×Int) (fun x=>Lm n p1 x.1 (x.2.1,x.2.2.1,x.2.2.2)=some r) (fun x=>[(0,v0_),(1,vI p1),(2,.func (.func 50) #[] #[]),(6,vI 20),(7,vI x.2.2.1),(8,vI x.2.2.2)]) (fun x=>AE 79 4 v0_ AK x.2.1::H) (fun x=>x.1) (fun x D h=>?_) (n,p0,0,20) h) tL) (fun _ hw=>BJ.pick (H:=[_]) hw [0] 1 zR)
 obtain⟨m1,l2,a2,a3⟩:=x
 dsimp only at h
 rcases m1 with _ | m1
 cases (show(none:Option _)=some r from h)
 replace h:Is n p1 (Lm n p1 m1) l2 a2 a3=some r:=h
 unfold Is at h
 refine A4 [(0,v0_),(1,vI p1),(2,.func (.func 50) #[] #[]),(6,vI 20),(7,vI a2),(8,vI a3)] (AE 79 4 v0_ AK l2::H) ?_ tL
 refine AD (V (E zR (E zR (O zR Gs (U ?_)))))
 refine AG zR (fun hc1=>?_) (fun hc1=>?_)
 replace h:=cT hc1 h
 refine AH (AF (AL (V ?_)))
 obtain⟨y1,hy1,h⟩:=bnd h
 refine E zR (E zR (E zR (E zR (AX 1 gV (kF hy1) zR (U (V (E zR (J zR (U (AJ ?_))))))))))
 obtain⟨x1,ex1,h⟩:=Bc h
 refine E zR (E zR (O zR A3 ?_))
 refine Ak (u:=vI x1) zR zR (congrArg vI ex1) ?_
 refine AS (Ai ?_)
 exact Ac (m1,y1,a3,x1) h (Nat.lt_succ_self _) tL (fun _ hw=>BJ.pick (H:=[_]) hw [0] 1 zR)
 replace h:=cF hc1 h
 refine Al (Aw (A9 (Au ?_)))
 exact Av (l2,a2) h tL (fun _ hw=>BJ.pick (H:=[_]) hw [0] 1 zR)
 obtain⟨l1,a1⟩:=x
 dsimp only at h
 unfold Q9 at h
 refine A4 [(0,v0_),(1,vI p1),(2,.func (.func 50) #[] #[]),(6,vI 20),(7,vI a1)] (AE 79 4 v0_ AK l1::H) ?_ tL
 refine V ?_
 obtain⟨y2,hy2,h⟩:=bnd h
 refine E zR (E zR (E zR (E zR (AX 1 gV (kF hy2) zR (U (AL ?_))))))
 refine SX.heap (SX.mono (Ay (α:=Nat×List AN×Int) (fun x=>E5 n p1 x.1 (x.2.1,x.2.2)=some r) (fun x=>[(0,v0_),(1,vI p1),(2,.func (.func 50) #[] #[]),(6,vI x.2.2)]) (fun x=>AE 79 4 v0_ AK x.2.1::H) (fun x=>x.1) (fun x D h=>?_) (n,y2,20) h) tL) (fun _ hw=>BJ.pick (H:=[_]) hw [0] 1 zR)
 obtain⟨m2,l3,a4⟩:=x
 dsimp only at h
 rcases m2 with _ | m2
 cases (show(none:Option _)=some r from h)
 replace h:Gj n p1 (E5 n p1 m2) l3 a4=some r:=h
 unfold Gj at h
 refine A4 [(0,v0_),(1,vI p1),(2,.func (.func 50) #[] #[]),(6,vI a4)] (AE 79 4 v0_ AK l3::H) ?_ tL
 refine AD (V (E zR (E zR (O zR Ao (U ?_)))))
 refine AG zR (fun hc2=>?_) (fun hc2=>?_)
 replace h:=cT hc2 h
 refine AH (AF (AL (V ?_)))
 obtain⟨x2,ex2,h⟩:=Bc h
 refine E zR (O zR Ja (J zR ?_))
 refine Ak (u:=vI x2) zR zR (congrArg vI ex2) ?_
 refine U ?_
 refine A1 (α:=List AN×Int) (fun x=>LT n p1 a4 (E5 n p1 m2) x.1 x.2=some r) (fun x=>[(0,v0_),(1,vI p1),(2,.func (.func 50) #[] #[]),(6,vI a4),(7,vI x.2)]) (fun x=>AE 79 4 v0_ AK x.1::H) ?_ (fun x D h=>?_)
 refine AL ?_
 refine SX.heap (SX.mono (Ay (α:=Nat×List AN×Int×Int) (fun x=>GQ n p1 a4 (E5 n p1 m2) x.1 (x.2.1,x.2.2.1,x.2.2.2)=some r) (fun x=>[(0,v0_),(1,vI p1),(2,.func (.func 50) #[] #[]),(6,vI a4),(7,vI x.2.2.1),(8,vI x.2.2.2)]) (fun x=>AE 79 4 v0_ AK x.2.1::H) (fun x=>x.1) (fun x D h=>?_) (n,l3,0,x2) h) tL) (fun _ hw=>BJ.pick (H:=[_]) hw [0] 1 zR)
 obtain⟨m3,l5,a6,a7⟩:=x
 dsimp only at h
 rcases m3 with _ | m3
 cases (show(none:Option _)=some r from h)
 replace h:D6 n p1 a4 (E5 n p1 m2) (GQ n p1 a4 (E5 n p1 m2) m3) l5 a6 a7=some r:=h
 unfold D6 at h
 refine A4 [(0,v0_),(1,vI p1),(2,.func (.func 50) #[] #[]),(6,vI a4),(7,vI a6),(8,vI a7)] (AE 79 4 v0_ AK l5::H) ?_ tL
 refine AD (V (E zR (E zR (O zR Gs (U ?_)))))
 refine AG zR (fun hc3=>?_) (fun hc3=>?_)
 replace h:=cT hc3 h
 refine AH (AF (AL (V ?_)))
 obtain⟨y3,hy3,h⟩:=bnd h
 refine E zR (E zR (E zR (E zR (O zR A3 (E zR (E zR (AX 1 U3 (gO hy3) zR (U (V ?_)))))))))
 refine E zR (J zR (U (AJ ?_)))
 obtain⟨x3,ex3,h⟩:=Bc h
 refine E zR (E zR (O zR Ja (O zR A3 ?_)))
 refine Ak (u:=vI x3) zR zR (congrArg vI ex3) ?_
 refine AS (Ai ?_)
 exact Ac (m3,y3,a7,x3) h (Nat.lt_succ_self _) tL (fun _ hw=>BJ.pick (H:=[_]) hw [0] 1 zR)
 replace h:=cF hc3 h
 refine Al (Aw (A9 (Au ?_)))
 exact Av (l5,a6) h tL (fun _ hw=>BJ.pick (H:=[_]) hw [0] 1 zR)
 obtain⟨l4,a5⟩:=x
 dsimp only at h
 unfold LT at h
 refine A4 [(0,v0_),(1,vI p1),(2,.func (.func 50) #[] #[]),(6,vI a4),(7,vI a5)] (AE 79 4 v0_ AK l4::H) ?_ tL
 refine A1 (α:=List AN) (fun x=>Jc a4 (E5 n p1 m2) x=some r) (fun x=>[(0,v0_),(1,vI p1),(2,.func (.func 50) #[] #[]),(6,vI a4)]) (fun x=>AE 79 4 v0_ AK x::H) ?_ (fun l6 D h=>?_)
 refine V ?_
 obtain⟨x4,ex4,h⟩:=Bc h
 refine E zR (E zR (O zR A3 ?_))
 refine Ak (u:=vI x4) zR zR (congrArg vI ex4) ?_
 refine U (V (E zR (E zR (O zR Ao (U ?_)))))
 refine AG zR (fun hc4=>?_) (fun hc4=>?_)
 replace h:=cT hc4 h
 refine AJ ?_
 obtain⟨y4,hy4,h⟩:=bnd h
 refine E zR (E zR (E zR (E zR (E zR (AX 1 U3 (gO hy4) zR (AS ?_))))))
 exact Av y4 h tL (fun _ hw=>BJ.pick (H:=[_]) hw [0] 1 zR)
 replace h:=cF hc4 h
 refine AH ?_
 exact Av l4 h tL (fun _ hw=>BJ.pick (H:=[_]) hw [0] 1 zR)
 unfold Jc at h
 refine A4 [(0,v0_),(1,vI p1),(2,.func (.func 50) #[] #[]),(6,vI a4)] (AE 79 4 v0_ AK l6::H) ?_ tL
 refine AJ ?_
 obtain⟨blockSize_1,eblockSize_1,h⟩:=Bc h
 refine E zR (O zR Ja ?_)
 refine Ak (u:=vI blockSize_1) zR zR (congrArg vI eblockSize_1) ?_
 refine AS (Ai ?_)
 exact Ac (m2,l6,blockSize_1) h (Nat.lt_succ_self _) tL (fun _ hw=>BJ.pick (H:=[_]) hw [0] 1 zR)
 replace h:=cF hc2 h
 refine Al (Aw (A9 (Au ?_)))
 obtain rfl:=Option.some.inj h
 exact CQ (C7 zR) (AV (M:=[_]) ⟨zR,zR⟩ fun _ hw=>BJ.pick (H:=[_]) hw [0] 1 zR)
def W1(n:Nat)(p0:List AN):Option (List AN):=
 (aF n p0 (p0.length:Int)).bind fun y1=>
 some y1
theorem qG{n:Nat}{v0_:Value}{p0:List AN}{r:List AN}(h:W1 n p0=some r): BH Tryz.prog K w0 49 [v0_,.func (.func 50) #[] #[]] [AE 79 4 v0_ AK p0] H (fun u M=>u=.tuple #[]∧M=[AE 79 4 v0_ AK r]):=by
 unfold W1 at h
 refine BH.enter Tryz.func49 rfl rfl ?_
 refine AJ ?_
 obtain⟨y1,hy1,h⟩:=bnd h
 refine E zR (E zR (DC 0 zR Bf zR zR (E zR (AX 1 ou (ox hy1) zR (AS ?_)))))
 obtain rfl:=Option.some.inj h
 exact CQ (C7 zR) (AV (M:=[_]) ⟨zR,zR⟩ fun _ hw=>BJ.pick (H:=[_]) hw [0] 1 zR)
end

/- Where grove.Save puts a page: where it is there, or a block of the vault's. Condition: the plain functions yield. -/
section
variable {K:Nat→Prop}{w0:World}{H:List AT}
abbrev HU:={s:List UInt8 // s.length≤1048576}
def UW(s:List UInt8):Option HU:=if h:s.length≤1048576 then some ⟨s,h⟩else none
theorem SD{s:List UInt8}{k:HU}(h:UW s=some k):k.1=s:=by
 unfold UW at h
 split at h
 rw[←Option.some.inj h]
 cases h
def OI(k:HU):Value:=vS k.1
theorem bL{P:Program}{k:TypeId}(hk:P.underlying k=some .string)(a:HU):∃l,keyOf P k (OI a)=some l:=by
 refine⟨.string a.1,?_⟩
 have:=a.2
 simp[keyOf,hk,mapKey,vS,OI]
 show a.1.length≤maxLen
 simp[maxLen]
 omega
def QS(r:Af):Value:=.agg (Ae r).toArray
theorem SO{P:Program}{k:TypeId}(hk:P.underlying k=some .string):Of P k OI QS:=
 ⟨Maps.string_keyed hk,bL hk,⟨fun v=>match v with | .string b=>UW b.data.toList | _=>none,fun x=>by
  show UW x.1=some x
  unfold UW
  rw[dif_pos x.2]⟩,⟨fun v=>match v with | .agg a=>(match a.toList with | [.int _ p,.string b]=>some ⟨UInt32.ofNat p.toNat,b.data.toList⟩ | _=>none) | _=>none,fun x=>by
  cases x
  simp[QS,Ae,Z,vS]⟩⟩
structure MW where
 b:Nat
 rv:Value
 mt:Nat
 d:Nat
 bv:Value
 mp:Nat
 mb:Nat
abbrev El(B:MW)(v:BX)(d:A8):List AT:=
 [AI B.b (.cells #[vP B.d 0,B.rv,Z v.gen,Z v.boot,Ag v.seals,.map (some B.mt)] 96),AE 138 2 B.rv Ax v.ring,A0 B.mt Z vB v.taken,AI B.d (.cells #[vB d.off,vB d.isCut,vI d.lasts,vI d.counts,B.bv,.map (some B.mp),.map (some B.mb),Ag d.rcnt,vS d.rtag,Z d.rboots] 130),AE 9 1 B.bv eS d.blocks,A0 B.mp Z vS d.pend,A0 B.mb Z vB d.bad]
structure N4 where
 tk:List UInt32
 v:BX
 d:A8
abbrev RL(bt bm bv bk:Nat)(B:MW)(th:List (HU×Af))(a:Value)(q:N4):List AT:=
 AI bt (.cells #[.map (some bm)] 116)::A0 bm OI QS th::AI bv (.cells #[vP B.b 0] 24)::AI bk (.cells #[a] 113)::AE 29 1 a BI q.tk::El B q.v q.d
def LS(T:List UInt32)(th:List (HU×Af)):SF N4:=fun q s=>
 (UW s).bind fun k=>cond (Cm th k).isSome (some (((Cm th k).getD ⟨0,[]⟩,0),q))
  ((Fa T q.v q.d s).bind fun y=>cond (decide (y.2.1=0)) ((CT 4 q.tk [y.1.page]).bind fun l=>some ((y.1,y.2.1),⟨l,y.2.2.1,y.2.2.2⟩)) (some ((y.1,y.2.1),⟨q.tk,y.2.2.1,y.2.2.2⟩)))
theorem kH{T:List UInt32}{bt bm bv bk:Nat}{B:MW}{th:List (HU×Af)}:Zr T 58 #[vP bt 0,vP bv 0,vP bk 0] (RL bt bm bv bk B th) (LS T th):=by
 intro K w0 H a q s r hS h
 unfold LS at h
 obtain⟨k,hk,h⟩:=bnd h
 have hks:=SD hk
 refine BH.enter Tryz.func58 rfl rfl ?_
 show SX _ _ _ _ _ _ _ _ _ (RL bt bm bv bk B th a q++H)
 refine V ?_
 refine Ah zR DQ (fun _=>trivial) fun b0=>?_
 refine J zR (U (AD (V (AC 1 kV zR (E zR ?_)))))
 refine XV (zv:=(⟨0,[]⟩:Af)) 2 (SO Bu) zR jL DQ zR (by rw[←hks];rfl) zR ?_
 refine E zR (Ap zR zR zR (Ap zR zR zR ?_))
 refine Ah zR DQ (fun _=>trivial) fun b1=>?_
 refine Am 0 zR zR zR zR C2 zR zR zR zT (C4 0 (AI b1 (.cells #[Z ((Cm th k).getD ⟨0,[]⟩).page,vS ((Cm th k).getD ⟨0,[]⟩).tag] 31)) (J zR (U (V (E zR (U ?_))))))
 refine AG zR (fun hc1=>?_) (fun hc1=>?_)
 replace h:=cT hc1 h
 obtain rfl:=Option.some.inj h
 refine V (Aa (Ae ((Cm th k).getD ⟨0,[]⟩)) zR CR zR zR (AZ 0 zR) (Am 1 zR zR zR zR C2 zR zR zR zT (J zR (U (AM (Ab ?_))))))
 exact AU (Dq zR (BG 1 (Ae ((Cm th k).getD ⟨0,[]⟩)) CR zR zR zR zR) zR) (AV (M:=RL bt bm bv bk B th a q) ⟨zR,a,zR⟩ fun _ hw=>BJ.pick (H:=[_,_]) hw [] 2 zR)
 replace h:=cF hc1 h
 obtain⟨y,hy,h⟩:=bnd h
 refine AH (AF (V (AC 4 YE zR (E zR ?_))))
 refine SL.heap (H':=El B q.v q.d++([_,_,_,_,_,_,_]++H)) ?_ (fun _ hw=>DP (A:=[_,_,_,_,_,_,_]) (B:=El B q.v q.d) (R:=H) hw)
 have hcon:=cr (K:=K) (w0:=w0) (H:=([AI b1 (.cells #[Z ((Cm th k).getD ⟨0,[]⟩).page,vS ((Cm th k).getD ⟨0,[]⟩).tag] 31),AI b0 (.cells #[Z 0,vS []] 31),AI bt (.cells #[.map (some bm)] 116),A0 bm OI QS th,AI bv (.cells #[vP B.b 0] 24),AI bk (.cells #[a] 113),AE 29 1 a BI q.tk]++H)++[BB []]) (b0_:=B.b) (v0x1_:=B.rv) (m0x5_:=B.mt) (b0x0_:=B.d) (v0x0x4_:=B.bv) (m0x0x5_:=B.mp) (m0x0x6_:=B.mb) hy hS
 refine AP (vs:=[_,_]) (Hin:=El B q.v q.d) (Hr:=[_,_,_,_,_,_,_]++H) zR zR ⟨zR,zR,zT⟩ oA zR zR hcon ?_
 rintro _ _ ⟨rfl,rfl⟩
 refine⟨trivial,?_⟩
 refine SL.heap (H':=[_,_,_,_,_,_,_]++(El B y.2.2.1 y.2.2.2++H)) ?_ (fun _ hw=>DP (A:=El B y.2.2.1 y.2.2.2) (B:=[_,_,_,_,_,_,_]) (R:=H) hw)
 refine E zR (Ap zR zR zR (Ap zR zR zR ?_))
 refine Ah zR DQ (fun _=>trivial) fun b2=>?_
 refine Am 0 zR zR zR zR C2 zR zR zR zT (C4 0 (AI b2 (.cells #[Z y.1.page,vS y.1.tag] 31)) (J zR (U ?_)))
 refine A1 (α:=List UInt32×Value) (fun w=>some ((y.1,y.2.1),(⟨w.1,y.2.2.1,y.2.2.2⟩:N4))=some r) (fun w=>[(9,vP b2 0),(10,vI y.2.1),(5,vP b0 0)])
  (fun w=>AI b2 (.cells #[Z y.1.page,vS y.1.tag] 31)::AI b0 (.cells #[Z 0,vS []] 31)::(RL bt bm bv bk B th w.2 ⟨w.1,y.2.2.1,y.2.2.2⟩++H)) ?_ (fun w D h=>?_)
 refine V (E zR (O zR Bq (U ?_)))
 refine AG zR (fun hc2=>?_) (fun hc2=>?_)
 replace h:=cT hc2 h
 obtain⟨l,hl,h⟩:=bnd h
 refine AJ (AC 6 WG zR (AB zR MY (AC 0 Az zR ?_)))
 refine Bd [_] rfl Bz BQ Jq ⟨rfl,trivial⟩ rfl rfl rfl (by first | (simp[Value.cells];done) | (intro v hv;simp only[List.mem_cons,List.not_mem_nil,or_false]at hv;rcases hv with rfl<;>rfl)) rfl rfl (fun _=>trivial) fun b3=>?_
 refine Bi BI 1 ([y.1.page]:List UInt32) zR (fun _=>rfl) zR ?_
 refine B7 8 hl (sz:=1) (enc:=BI) (fun _=>rfl) zR Bz BQ QN Jq zR zD zR zR zR zR (Ba (sz:=1) (enc:=BI) 0 (fun _=>rfl) zR) (by simp[BI,Value.oneCell']) (fun _=>trivial) fun v3=>?_
 refine B6 8 zR fun hv3 ho3=>?_
 refine DW 7 zR zR zR zR ik hv3 ho3 zR zT (AS ?_)
 exact Av (l,v3) h tL (fun _ hw=>BJ.pick (H:=[_,_,_,_,_,_,_,_,_]) hw [1,3,4,5,6,7,8] 9 zR)
 replace h:=cF hc2 h
 refine AH ?_
 exact Av (q.tk,a) h tL (fun _ hw=>BJ.pick (H:=[_,_,_,_,_,_,_,_]) hw [0,2,3,4,5,6,7] 8 zR)
 obtain⟨l,v3⟩:=w
 obtain rfl:=Option.some.inj h
 dsimp only
 refine V (Aa (Ae y.1) zR CR zR zR (AZ 0 zR) (E zR (Am 1 zR zR zR zR C2 zR zR zR zT (J zR (U (AM ?_))))))
 exact AU (Dq zR (BG 1 (Ae y.1) CR zR zR zR zR) zR) (AV (M:=RL bt bm bv bk B th v3 ⟨l,y.2.2.1,y.2.2.2⟩) ⟨zR,v3,zR⟩ fun _ hw=>BJ.pick (H:=[_,_]) hw [] 2 zR)
end

/- grove.Save. Condition: the plain function yields. -/
section
variable {K:Nat→Prop}{w0:World}{H:List AT}
def Ox:List (Int×A5)→List (HU×Af)→Option (List (HU×Af))
 | [],m=>some m
 | s::l,m=>(UW s.2.txt).bind fun k=>(Nx m k ⟨s.2.page,s.2.tag⟩).bind fun m'=>Ox l m'
def N7:List UInt32→BX→A8→Option BX
 | [],v,_=>some v
 | x::l,v,d=>(Kb v d x).bind fun y=>N7 l y.2 d
def Rq(y:Af×(FX×N4)):Option (List A5×Int×BX×A8):=
 cond (!decide (y.2.1.wrong=0)) (if 1048576<y.2.2.tk.length then none else(N7 y.2.2.tk y.2.2.v y.2.2.d).bind fun v'=>some ([],y.2.1.wrong,v',y.2.2.d)) (some (y.2.1.out,0,y.2.2.v,y.2.2.d))
def Hx(n:Nat)(T:List UInt32)(p0:BX)(p0_1:A8)(p1:List AN)(p2:List A5):Option (List A5×Int×BX×A8):=
 (Im n p1).bind fun b=>cond (!decide (b.2=0)) (some ([],b.2,p0,p0_1))
  (if 1048576<p2.length then none else(Ox (EB p2) []).bind fun th=>(EV n (LS T th) n b.1 ⟨[],0⟩ ⟨[],p0,p0_1⟩).bind Rq)
theorem Yy{n:Nat}{T:List UInt32}{b0_:Nat}{v0x1_:Value}{m0x5_:Nat}{b0x0_:Nat}{v0x0x4_:Value}{m0x0x5_:Nat}{m0x0x6_:Nat}{p0:BX}{p0_1:A8}{v1_ v2_:Value}{p1:List AN}{p2:List A5}{r:List A5×Int×BX×A8}(h:Hx n T p0 p0_1 p1 p2=some r)(hS:GJ K w0 T)(hs1_:Bn K w0 AK 4 v1_ p1)(hs2_:Bn K w0 An 3 v2_ p2):
  BH Tryz.prog K w0 19 [vP b0_ 0,v1_,v2_] (El ⟨b0_,v0x1_,m0x5_,b0x0_,v0x0x4_,m0x0x5_,m0x0x6_⟩ p0 p0_1) H (fun u M=>∃v0:Value,u=.tuple #[v0,vI r.2.1]∧M=AE 72 3 v0 An r.1::El ⟨b0_,v0x1_,m0x5_,b0x0_,v0x0x4_,m0x0x5_,m0x0x6_⟩ r.2.2.1 r.2.2.2):=by
 unfold Hx at h
 obtain⟨b,hb,h⟩:=bnd h
 refine BH.enter Tryz.func19 rfl rfl ?_
 show SX _ _ _ _ _ _ _ _ _ (El ⟨b0_,v0x1_,m0x5_,b0x0_,v0x0x4_,m0x0x5_,m0x0x6_⟩ p0 p0_1++H)
 refine V ?_
 refine BU zR zR (fun _=>trivial) fun b0=>?_
 refine J zR (J zR (U (AD (V (AC 0 YE zR (Eu zR UR zR zR (U (DE zR (AH (AF (V (E zR ?_))))))))))))
 refine AP (vs:=[_]) (Hin:=[]) (Hr:=_::(El ⟨b0_,v0x1_,m0x5_,b0x0_,v0x0x4_,m0x0x5_,m0x0x6_⟩ p0 p0_1++H)) zR zR ⟨zR,zT⟩ jO zR zR (cY hb hs1_) ?_
 rintro _ _ ⟨nv,L,rfl,hnz,rfl⟩
 refine⟨trivial,?_⟩
 refine E zR (Ap zR zR zR (Ap zR zR zR ?_))
 refine Ah zR HV (fun _=>trivial) fun b1=>?_
 refine Am 0 zR zR zR zR G4 zR (List.all_eq_true.2 (Gc nv)) zR zT (C4 0 (AI b1 (.cells (Bk nv).toArray 57)) (J zR (U (AD (V (E zR (O zR Bh (U ?_))))))))
 refine AG zR (fun hc2=>?_) (fun hc2=>?_)
 replace h:=cT hc2 h
 obtain rfl:=Option.some.inj h
 refine V (E zR (J zR (J zR (U (AM (Ab (Iu 72 3 An ?_)))))))
 exact AU (E8 zR zR zR) (AV (M:=_::El ⟨b0_,v0x1_,m0x5_,b0x0_,v0x0x4_,m0x0x5_,m0x0x6_⟩ p0 p0_1) ⟨_,zR,zR⟩ fun _ hw=>BJ.pick (H:=[_,_,_,_]) hw [0] 4 zR)
 replace h:=cF hc2 h
 split at h
 cases h
 rename_i hbig
 obtain⟨th,hth,h3⟩:=bnd h
 clear h
 obtain⟨y,hy,h⟩:=bnd h3
 clear h3
 refine AH (AF (V ?_))
 refine VB OI QS zR (fun _=>trivial) fun bm=>?_
 refine Ah zR qQ (fun _=>trivial) fun b2=>?_
 refine Am 0 zR zR zR zR oQ zR zR zR zT (C4 0 (AI b2 (.cells #[.map (some bm)] 116)) (U (AD (V (E zR ?_)))))
 refine AP (vs:=[_]) (Hin:=[]) (Hr:=_::_::_::_::_::(El ⟨b0_,v0x1_,m0x5_,b0x0_,v0x0x4_,m0x0x5_,m0x0x6_⟩ p0 p0_1++H)) zR zR ⟨zR,zT⟩ n6 zR zR (kX hs2_.one) ?_
 rintro _ _ ⟨bx,rfl,rfl⟩
 refine⟨trivial,?_⟩
 refine U (AL ?_)
 refine L6 (enc:=jq) (EB p2) (G0:=(AI b2 (.cells #[.map (some bm)] 116)::A0 bm OI QS []::AI b1 (.cells (Bk nv).toArray 57)::ES L::AI b0 (.cells #[vP b0_ 0] 24)::(El ⟨b0_,v0x1_,m0x5_,b0x0_,v0x0x4_,m0x0x5_,m0x0x6_⟩ p0 p0_1++H))) (fun pre G=>∃m:List (HU×Af),(∀suf,EB p2=pre++suf→Ox suf m=some th)∧G=(AI b2 (.cells #[.map (some bm)] 116)::A0 bm OI QS m::AI b1 (.cells (Bk nv).toArray 57)::ES L::AI b0 (.cells #[vP b0_ 0] 24)::(El ⟨b0_,v0x1_,m0x5_,b0x0_,v0x0x4_,m0x0x5_,m0x0x6_⟩ p0 p0_1++H))) (fun c G=>False) zR pV zR (fun _=>rfl) (ja zO hs2_) zR ⟨[],fun suf e=>by rw[←show EB p2=suf from e];exact hth,zR⟩ (fun pre x suf G hxs hJ lr lp Rest=>?_) (fun G D hJ=>?_) (fun c G D hX=>hX.elim)
 obtain⟨m,hm,rfl⟩:=hJ
 have h1:=hm (x::suf) hxs
 rw[Ox]at h1
 obtain⟨k,hk,h1⟩:=bnd h1
 obtain⟨m1,hm1,h1⟩:=bnd h1
 have hks:=SD hk
 refine AJ ?_
 refine Ah zR Ol (fun _=>trivial) fun b3=>?_
 refine Am 0 zR zR zR zR LQ zR zR zR zT (AS ?_)
 refine KL (G:=AI b3 (.cells #[vS x.2.txt,Z x.2.page,vS x.2.tag] 72)::(AI b2 (.cells #[.map (some bm)] 116)::A0 bm OI QS m::AI b1 (.cells (Bk nv).toArray 57)::ES L::AI b0 (.cells #[vP b0_ 0] 24)::(El ⟨b0_,v0x1_,m0x5_,b0x0_,v0x0x4_,m0x0x5_,m0x0x6_⟩ p0 p0_1++H))) ?_
 refine AL (AJ (AC 1 kV rfl (AB rfl ZB (AC 0 EZ rfl (AB rfl Sr (Aa [Z x.2.page,vS x.2.tag] rfl CR rfl rfl (CG 0 rfl (by rintro(_ | (_ | j)) u hj<;>first | exact hj | exact absurd hj zS)) ?_))))))
 refine WW (a:=(⟨x.2.page,x.2.tag⟩:Af)) 2 hm1 (SO Bu) zR jL zR (by rw[OI,hks];rfl) zR zR zT ?_
 refine AS (Ai ?_)
 exact HK ⟨m1,fun suf' e=>by rw[Zg hxs e];exact h1,zR⟩ (fun _ hw=>BJ.pick (H:=[_]) hw [] 1 zR)
 obtain⟨m,hm,rfl⟩:=hJ
 have h1:=hm [] (List.append_nil _).symm
 obtain rfl:m=th:=Option.some.inj h1
 refine Ai (AF (V ?_))
 refine Ah zR pE (fun _=>trivial) fun b3=>?_
 refine C4 0 (AI b3 (.cells #[.slice none 0 0] 113)) (Bx 29 1 BI (U (V ?_)))
 refine GD (fv:=#[]) (cv:=#[_,_,_]) zR zR zR ?_
 refine BL [_] zR i9 kj kO ⟨zR,zT⟩ zR ?_
 refine BU zR zR (fun _=>trivial) fun b4=>?_
 refine Bx 72 3 An (J zR (U ?_))
 have hcon:=CC (K:=K) (w0:=w0) (H:=(AI b1 (.cells (Bk nv).toArray 57)::H)++[BB D]) (f:=53) (B:=[ES L]) (Hin:=Io b4 (.func (.func 58) #[] #[vP b2 0,vP b0 0,vP b3 0]) (.slice none 0 0) ⟨[],0⟩::AE 72 3 (.slice none 0 0) An []::RL b2 bm b0 b3 (⟨b0_,v0x1_,m0x5_,b0x0_,v0x0x4_,m0x0x5_,m0x0x6_⟩:MW) m (.slice none 0 0) ⟨[],p0,p0_1⟩) fun K' w1 hkk hB=>
  MP (C:=RL b2 bm b0 b3 (⟨b0_,v0x1_,m0x5_,b0x0_,v0x0x4_,m0x0x5_,m0x0x6_⟩:MW) m) (bp:=b4) (vo:=.slice none 0 0) (ca:=.slice none 0 0) (cs:=#[vP b2 0,vP b0 0,vP b3 0]) oh kH n (hS.keeps hkk) hy (hnz.lent (hB _ zS))
 generalize hpo:(fun(u:Value) (M:List AT)=>∃M',M=[ES L]++M'∧(u=.agg (Ae y.1).toArray∧∃vo' ca',M'=Io b4 (.func (.func 58) #[] #[vP b2 0,vP b0 0,vP b3 0]) vo' y.2.1::AE 72 3 vo' An y.2.1.out::RL b2 bm b0 b3 (⟨b0_,v0x1_,m0x5_,b0x0_,v0x0x4_,m0x0x5_,m0x0x6_⟩:MW) m ca' y.2.2))=po at hcon
 refine V (E zR (Aa (Bk nv) zR Kp zR zR (AZ 6 zR) ?_))
 refine SL.heap (H':=([ES L]++(Io b4 (.func (.func 58) #[] #[vP b2 0,vP b0 0,vP b3 0]) (.slice none 0 0) ⟨[],0⟩::AE 72 3 (.slice none 0 0) An []::RL b2 bm b0 b3 (⟨b0_,v0x1_,m0x5_,b0x0_,v0x0x4_,m0x0x5_,m0x0x6_⟩:MW) m (.slice none 0 0) ⟨[],p0,p0_1⟩))++(AI b1 (.cells (Bk nv).toArray 57)::H)) ?_ (fun _ hw=>BJ.pick (H:=[_,_,_,_,_,_,_,_,_,_,_,_,_,_,_,_]) hw [7,1,0,4,5,8,3,2,9,10,11,12,13,14,15,6] 16 zR)
 refine AP (vs:=[_,_]) (Hin:=[ES L]++(Io b4 (.func (.func 58) #[] #[vP b2 0,vP b0 0,vP b3 0]) (.slice none 0 0) ⟨[],0⟩::AE 72 3 (.slice none 0 0) An []::RL b2 bm b0 b3 (⟨b0_,v0x1_,m0x5_,b0x0_,v0x0x4_,m0x0x5_,m0x0x6_⟩:MW) m (.slice none 0 0) ⟨[],p0,p0_1⟩)) (Hr:=AI b1 (.cells (Bk nv).toArray 57)::H) zR zR ⟨zR,zR,zT⟩ eU zR zR hcon ?_
 intro u0 M0 hpost
 rw[←hpo]at hpost
 obtain⟨_,rfl,rfl,vo,ca,rfl⟩:=hpost
 refine⟨trivial,?_⟩
 refine U ?_
 unfold Rq at h
 refine AD (V (E zR (AW zR zR (AB zR Oc (AC 1 Sl zR (O zR Bh (U ?_)))))))
 refine AG zR (fun hc3=>?_) (fun hc3=>?_)
 replace h:=cT hc3 h
 split at h
 cases h
 rename_i hbt
 obtain⟨v',hv',h⟩:=bnd h
 obtain rfl:=Option.some.inj h
 refine AD (V (AC 6 WG zR (DC 7 zR Bz zR zR (E zR (U (AL ?_))))))
 refine SX.heap (SX.mono (Ay (α:=Nat×BX) (fun x=>x.1≤y.2.2.tk.length∧N7 (y.2.2.tk.drop x.1) x.2 y.2.2.d=some v') (fun x=>[(3,vP b0 0),(14,vP b4 0),(48,ca),(49,vI (y.2.2.tk.length:Int)),(50,vI (x.1:Int))])
  (fun x=>Io b4 (.func (.func 58) #[] #[vP b2 0,vP b0 0,vP b3 0]) vo y.2.1::AI b0 (.cells #[vP b0_ 0] 24)::AE 29 1 ca BI y.2.2.tk::(El (⟨b0_,v0x1_,m0x5_,b0x0_,v0x0x4_,m0x0x5_,m0x0x6_⟩:MW) x.2 y.2.2.d++H))
  (fun x=>y.2.2.tk.length-x.1) (fun x D hp=>?_) (0,y.2.2.v) ⟨Nat.zero_le _,hv'⟩) tL) (fun _ hw=>BJ.pick (H:=[_,_,_,_,_,_,_,_,_,_,_,_,_,_,_,_]) hw [1,5,7,8,9,10,11,12,13,14] 16 rfl)
 obtain⟨i,v1⟩:=x
 obtain⟨hi,hg⟩:=hp
 dsimp only at hi hg ⊢
 refine V (O zR Ao (U (AD ?_)))
 refine AG zR (fun hc4=>?_) (fun hc4=>?_)
 have hlt:i<y.2.2.tk.length:=by
  have:=of_decide_eq_true hc4
  omega
 clear hc4
 have hnth:Aq y.2.2.tk (i:Int)=some y.2.2.tk[i]:=by
  rw[Aq,if_pos zO]
  exact List.getElem?_eq_getElem hlt
 rw[List.drop_eq_getElem_cons hlt,N7]at hg
 obtain⟨z,hz,hg⟩:=bnd hg
 refine AH (AF (AD (AL (V ?_))))
 refine BF 2 hnth zR Bz BQ zR zR zR fun g1 m1 cp1 hv1=>?_
 refine BR zR Az zR (BW (sz:=1) (enc:=BI) 2 0 (fun _=>rfl) zR hv1 hnth zR) ?_
 refine J zR (U (AJ (AC 1 YE zR (E zR ?_))))
 refine SL.heap (H':=El (⟨b0_,v0x1_,m0x5_,b0x0_,v0x0x4_,m0x0x5_,m0x0x6_⟩:MW) v1 y.2.2.d++([_,_,_]++H)) ?_ (fun _ hw=>DP (A:=[_,_,_]) (B:=El (⟨b0_,v0x1_,m0x5_,b0x0_,v0x0x4_,m0x0x5_,m0x0x6_⟩:MW) v1 y.2.2.d) (R:=H) hw)
 have hcon:=eD (K:=K) (w0:=w0) (H:=([Io b4 (.func (.func 58) #[] #[vP b2 0,vP b0 0,vP b3 0]) vo y.2.1,AI b0 (.cells #[vP b0_ 0] 24),AE 29 1 ca BI y.2.2.tk]++H)++[BB D]) (b0_:=b0_) (v0x1_:=v0x1_) (m0x5_:=m0x5_) (b0x0_:=b0x0_) (v0x0x4_:=v0x0x4_) (m0x0x5_:=m0x0x5_) (m0x0x6_:=m0x0x6_) hz
 refine AP (vs:=[_,_]) (Hin:=El (⟨b0_,v0x1_,m0x5_,b0x0_,v0x0x4_,m0x0x5_,m0x0x6_⟩:MW) v1 y.2.2.d) (Hr:=[_,_,_]++H) zR zR ⟨zR,zR,zT⟩ qT zR zR hcon ?_
 rintro _ _ ⟨rfl,rfl⟩
 refine⟨trivial,?_⟩
 refine SL.heap (H':=[_,_,_]++(El (⟨b0_,v0x1_,m0x5_,b0x0_,v0x0x4_,m0x0x5_,m0x0x6_⟩:MW) z.2 y.2.2.d++H)) ?_ (fun _ hw=>DP (A:=El (⟨b0_,v0x1_,m0x5_,b0x0_,v0x0x4_,m0x0x5_,m0x0x6_⟩:MW) z.2 y.2.2.d) (B:=[_,_,_]) (R:=H) hw)
 refine AS (Ai (AF (AJ (O zR (BA zO zO) (E zR (AS ?_))))))
 exact Ac (i+1,z.2) ⟨hlt,hg⟩ (by dsimp only;omega) tL (fun _ hw=>BJ.pick (H:=[_,_,_]) hw [0,1,2] 3 zR)
 have hge:i=y.2.2.tk.length:=by
  have:=of_decide_eq_false hc4
  omega
 subst hge
 rw[List.drop_length,N7]at hg
 obtain rfl:v1=v':=Option.some.inj hg
 refine Al (Aw (A9 (Au (AF (AD (Aj CJ [0] (BY [(true,0),(true,1),(true,2),(true,3),(true,4),(true,5)] .nil) zK (E zR (AW zR zR (AB zR Oc (AC 0 Sl zR (J zR (J zR (U (AM (Ab (Iu 72 3 An ?_))))))))))))))))
 exact AU (E8 zR zR zR) (AV (M:=_::El (⟨b0_,v0x1_,m0x5_,b0x0_,v0x0x4_,m0x0x5_,m0x0x6_⟩:MW) v1 y.2.2.d) ⟨_,zR,zR⟩ fun _ hw=>BJ.pick (H:=[_,_,_,_]) hw [0] 4 zR)
 replace h:=cF hc3 h
 obtain rfl:=Option.some.inj h
 refine AH (AF (V (E zR (AW zR zR (AB zR V7 (AC 1 MB zR (J zR (J zR (U (AM ?_))))))))))
 exact AU (E8 zR zR zR) (AV (M:=AE 72 3 vo An y.2.1.out::El (⟨b0_,v0x1_,m0x5_,b0x0_,v0x0x4_,m0x0x5_,m0x0x6_⟩:MW) y.2.2.v y.2.2.d) ⟨_,zR,zR⟩ fun _ hw=>BJ.pick (H:=[_,_,_,_,_,_,_,_,_,_,_,_,_,_,_,_]) hw [2,8,9,10,11,12,13,14] 16 zR)
end

/- What a reader of pages has. No condition. -/
section
structure GH where
 out:List A5
 rows:List AN
 count:Int
end

/- Plain functions of the references and the laws, printed from the loaded program, and the walks that show that the program computes them. Condition: the plain function yields. -/
section
variable {K:Nat→Prop}{w0:World}{H:List AT}
def Mv(p1:Af)(y1:List UInt8×Int)(o1:GH):Option (Int×GH):=
 (CT 40 o1.out [(⟨y1.1,p1.page,p1.tag⟩:A5)]).bind fun l4=>
 some (0,{ o1 with out:=l4 })
def Ez(p0_1:BX)(p0_2:A8)(p1:Af)(rec_:GH→BX→A8→Af→Option (Int×GH))(y1:List UInt8×Int)(l2:List Af)(nx_f_gpg_l1:GH×Int→Option (Int×GH))(o2:GH)(a1:Int):Option (Int×GH):=
 cond (decide (a1<(l2.length:Int)))
 (
  (Aq l2 a1).bind fun x1=>
  (rec_ o2 p0_1 p0_2 x1).bind fun y3=>
  cond (!decide (y3.1=0))
  (
   some (y3.1,y3.2))
  (
   nx_f_gpg_l1 (y3.2,wI (a1+1))))
 (
  Mv p1 y1 o2)
def JP(p0_1:BX)(p0_2:A8)(p1:Af)(rec_:GH→BX→A8→Af→Option (Int×GH))(y1:List UInt8×Int)(l2:List Af):Nat→(GH×Int)→Option (Int×GH):=Be fun nx x=>Ez p0_1 p0_2 p1 rec_ y1 l2 nx x.1 x.2
def Oj(n:Nat)(p0:GH)(p0_1:BX)(p0_2:A8)(p1:Af)(rec_:GH→BX→A8→Af→Option (Int×GH))(y1:List UInt8×Int)(l1:List AN)(l2:List Af):Option (Int×GH):=
 JP p0_1 p0_2 p1 rec_ y1 l2 n ({ p0 with rows:=l1,count:=wI (p0.count+1) },0)
def Rn(rec_:GH→BX→A8→Af→Option (Int×GH))(n:Nat)(T:List UInt32)(p0:GH)(p0_1:BX)(p0_2:A8)(p1:Af):Option (Int×GH):=
 cond (decide (p0.count=2100))
 (
  some (61,p0))
 (
  (He T p0_1 p0_2 p1).bind fun y1=>
  cond (!decide (y1.2=0))
  (
   some (y1.2,{ p0 with count:=wI (p0.count+1) }))
  (
   (I4 n y1.1).bind fun y2=>
   cond (!decide (y2.2=0))
   (
    some (61,{ p0 with count:=wI (p0.count+1) }))
   (
    (CT 32 p0.rows y2.1.rows).bind fun l1=>
    cond (!(decide (y2.1.npage=0)&&(decide (y2.1.ntag=[])&&true)))
    (
     (CT 24 y2.1.kids [(⟨y2.1.npage,y2.1.ntag⟩:Af)]).bind fun l3=>
     Oj n p0 p0_1 p0_2 p1 rec_ y1 l1 l3)
    (
     Oj n p0 p0_1 p0_2 p1 rec_ y1 l1 y2.1.kids))))
theorem n8{rec_:GH→BX→A8→Af→Option (Int×GH)}{n:Nat}{T:List UInt32}{b0_:Nat}{v0x1_:Value}{v0x2_:Value}{b0x0_:Nat}{v0x0x1_:Value}{m0x0x5_:Nat}{b0x0x0_:Nat}{v0x0x0x4_:Value}{m0x0x0x5_:Nat}{m0x0x0x6_:Nat}{p0:GH}{p0_1:BX}{p0_2:A8}{p1:Af}{r:Int×GH}(h:Rn rec_ n T p0 p0_1 p0_2 p1=some r)(hS:GJ K w0 T)(hrec:∀ {H:List AT} {b0_:Nat} {v0x1_:Value} {v0x2_:Value} {b0x0_:Nat} {v0x0x1_:Value} {m0x0x5_:Nat} {b0x0x0_:Nat} {v0x0x0x4_:Value} {m0x0x0x5_:Nat} {m0x0x0x6_:Nat} {p0:GH} {p0_1:BX} {p0_2:A8} {p1:Af} {r:Int×GH},rec_ p0 p0_1 p0_2 p1=some r→BH Tryz.prog K w0 48 [vP b0_ 0,.agg (Ae p1).toArray] [AI b0_ (.cells #[vP b0x0_ 0,v0x1_,v0x2_,vI p0.count] 99),AE 72 3 v0x1_ An p0.out,AE 79 4 v0x2_ AK p0.rows,AI b0x0_ (.cells #[vP b0x0x0_ 0,v0x0x1_,Z p0_1.gen,Z p0_1.boot,Ag p0_1.seals,.map (some m0x0x5_)] 96),AE 138 2 v0x0x1_ Ax p0_1.ring,A0 m0x0x5_ Z vB p0_1.taken,AI b0x0x0_ (.cells #[vB p0_2.off,vB p0_2.isCut,vI p0_2.lasts,vI p0_2.counts,v0x0x0x4_,.map (some m0x0x0x5_),.map (some m0x0x0x6_),Ag p0_2.rcnt,vS p0_2.rtag,Z p0_2.rboots] 130),AE 9 1 v0x0x0x4_ eS p0_2.blocks,A0 m0x0x0x5_ Z vS p0_2.pend,A0 m0x0x0x6_ Z vB p0_2.bad] H (fun u M=>∃vs0_0_1 vs0_0_2:Value,u=vI r.1∧M=[AI b0_ (.cells #[vP b0x0_ 0,vs0_0_1,vs0_0_2,vI r.2.count] 99),AE 72 3 vs0_0_1 An r.2.out,AE 79 4 vs0_0_2 AK r.2.rows,AI b0x0_ (.cells #[vP b0x0x0_ 0,v0x0x1_,Z p0_1.gen,Z p0_1.boot,Ag p0_1.seals,.map (some m0x0x5_)] 96),AE 138 2 v0x0x1_ Ax p0_1.ring,A0 m0x0x5_ Z vB p0_1.taken,AI b0x0x0_ (.cells #[vB p0_2.off,vB p0_2.isCut,vI p0_2.lasts,vI p0_2.counts,v0x0x0x4_,.map (some m0x0x0x5_),.map (some m0x0x0x6_),Ag p0_2.rcnt,vS p0_2.rtag,Z p0_2.rboots] 130),AE 9 1 v0x0x0x4_ eS p0_2.blocks,A0 m0x0x0x5_ Z vS p0_2.pend,A0 m0x0x0x6_ Z vB p0_2.bad])):BH Tryz.prog K w0 48 [vP b0_ 0,.agg (Ae p1).toArray] [AI b0_ (.cells #[vP b0x0_ 0,v0x1_,v0x2_,vI p0.count] 99),AE 72 3 v0x1_ An p0.out,AE 79 4 v0x2_ AK p0.rows,AI b0x0_ (.cells #[vP b0x0x0_ 0,v0x0x1_,Z p0_1.gen,Z p0_1.boot,Ag p0_1.seals,.map (some m0x0x5_)] 96),AE 138 2 v0x0x1_ Ax p0_1.ring,A0 m0x0x5_ Z vB p0_1.taken,AI b0x0x0_ (.cells #[vB p0_2.off,vB p0_2.isCut,vI p0_2.lasts,vI p0_2.counts,v0x0x0x4_,.map (some m0x0x0x5_),.map (some m0x0x0x6_),Ag p0_2.rcnt,vS p0_2.rtag,Z p0_2.rboots] 130),AE 9 1 v0x0x0x4_ eS p0_2.blocks,A0 m0x0x0x5_ Z vS p0_2.pend,A0 m0x0x0x6_ Z vB p0_2.bad] H (fun u M=>∃vs0_0_1 vs0_0_2:Value,u=vI r.1∧M=[AI b0_ (.cells #[vP b0x0_ 0,vs0_0_1,vs0_0_2,vI r.2.count] 99),AE 72 3 vs0_0_1 An r.2.out,AE 79 4 vs0_0_2 AK r.2.rows,AI b0x0_ (.cells #[vP b0x0x0_ 0,v0x0x1_,Z p0_1.gen,Z p0_1.boot,Ag p0_1.seals,.map (some m0x0x5_)] 96),AE 138 2 v0x0x1_ Ax p0_1.ring,A0 m0x0x5_ Z vB p0_1.taken,AI b0x0x0_ (.cells #[vB p0_2.off,vB p0_2.isCut,vI p0_2.lasts,vI p0_2.counts,v0x0x0x4_,.map (some m0x0x0x5_),.map (some m0x0x0x6_),Ag p0_2.rcnt,vS p0_2.rtag,Z p0_2.rboots] 130),AE 9 1 v0x0x0x4_ eS p0_2.blocks,A0 m0x0x0x5_ Z vS p0_2.pend,A0 m0x0x0x6_ Z vB p0_2.bad]):=by
 unfold Rn at h
 refine BH.enter Tryz.func48 rfl rfl ?_
 refine V ?_
 refine BU zR zR (fun _=>trivial) fun b1=>?_
 refine J zR (U (AD (V (E zR (AW zR zR (AB zR Zy (AC 1 DT zR (O zR Bq (U ?_)))))))))
 refine AG zR (fun hc1=>?_) (fun hc1=>?_)
 replace h:=cT hc1 h
 refine V (J zR (U (AM (Ab ?_))))
 obtain rfl:=Option.some.inj h
 exact AU (Co zR zR) (AV (M:=[_,_,_,_,_,_,_,_,_,_]) ⟨v0x1_,v0x2_,zR,zR⟩ fun _ hw=>BJ.pick (H:=[_,_,_,_,_,_,_,_,_,_,_]) hw [1,2,3,4,5,6,7,8,9,10] 11 zR)
 replace h:=cF hc1 h
 refine AH (AF (V (E zR (AW zR zR (AB zR Zy (AC 1 DT zR (O zR A3 (AW zR zR (AB zR Zy (Am 1 zR zR zR zR La zR zR zR zT (U (AD ?_))))))))))))
 obtain⟨y1,hy1,h⟩:=bnd h
 refine Aj CJ [0,1] (BY [(true,0),(true,1),(true,2),(true,3),(true,4),(false,5),(false,6),(true,7),(true,8),(false,9)] (.last 10 .nil)) zK (E zR (AW zR zR (AB zR lK (AC 1 YE zR (Aa [Z p1.page,vS p1.tag] zR CR zR zR (AZ 0 zR) (SL.pick [4,5,6,7,8,9,10,0,1,2,3] 11 ?_))))))
 refine AP (vs:=[_,_]) (Hin:=[_,_,_,_,_,_,_]) (Hr:=_::_::_::_::_) zR zR ⟨zR,zR,zT⟩ o7 zR zR ((dV hy1 hS :)) ?_
 rintro _ _ ⟨rfl,rfl⟩
 refine⟨⟨⟨7,rfl⟩,⟨8,rfl⟩,trivial⟩,?_⟩
 refine E zR (Ap zR zR zR (Ap zR zR zR (J zR (BE (J zR (U (AD (V (E zR (O zR Bh (U ?_)))))))))))
 refine AG zR (fun hc2=>?_) (fun hc2=>?_)
 replace h:=cT hc2 h
 refine V (E zR (J zR (U (AM (Ab ?_)))))
 obtain rfl:=Option.some.inj h
 exact AU (Co zR zR) (AV (M:=[_,_,_,_,_,_,_,_,_,_]) ⟨v0x1_,v0x2_,zR,zR⟩ fun _ hw=>BJ.pick (H:=[_,_,_,_,_,_,_,_,_,_,_]) hw [8,9,10,0,1,2,3,4,5,6] 11 zR)
 replace h:=cF hc2 h
 refine AH (AF (V ?_))
 obtain⟨y2,hy2,h⟩:=bnd h
 refine E zR ?_
 refine AP (vs:=[_]) (Hin:=[]) (Hr:=_::_::_::_::_::_::_::_::_::_::_::_) zR zR ⟨zR,zT⟩ pG zR zR (Wa hy2) ?_
 rintro _ _ ⟨v1,v2,rfl,rfl⟩
 refine⟨trivial,?_⟩
 refine E zR (Ap zR zR zR (Ap zR zR zR ?_))
 refine Ah zR Lh (fun _=>trivial) fun b2=>?_
 refine Bx 79 4 AK (Bx 31 2 Ae ?_)
 refine B6 3 zR fun hv1 ho1=>?_
 refine B6 4 zR fun hv2 ho2=>?_
 refine Am 2 zR zR zR zR O6 zR (by simp only[Value.oneCell']at ho1 ho2;simp[Value.cells,Value.cells,Value.oneCell',ho1,ho2]) zR zT (C4 2 (AI b2 (.cells #[vI y2.1.kind,Z y2.1.cx,Z y2.1.cy,vI y2.1.lev,v1,v2,Z y2.1.npage,vS y2.1.ntag] 148)) (J zR (U (AD (V (E zR (O zR Bh (U ?_))))))))
 refine AG zR (fun hc3=>?_) (fun hc3=>?_)
 replace h:=cT hc3 h
 refine V (J zR (U (AM (Ab ?_))))
 obtain rfl:=Option.some.inj h
 exact AU (Co zR zR) (AV (M:=[_,_,_,_,_,_,_,_,_,_]) ⟨v0x1_,v0x2_,zR,zR⟩ fun _ hw=>BJ.pick (H:=[_,_,_,_,_,_,_,_,_,_,_,_,_,_,_,_]) hw [13,14,15,5,6,7,8,9,10,11] 16 zR)
 replace h:=cF hc3 h
 refine AH (AF (AD ?_))
 obtain⟨l1,hl1,h⟩:=bnd h
 refine Aj CJ [2,13] (BY [(true,0),(true,1),(true,2),(true,3),(true,4),(true,5),(true,6),(false,7),(true,8),(true,9)] (.last 10 .nil)) zK (E zR (E zR (AW zR zR (AB zR Sv (AC 1 Em zR (AB zR Fx (AC 0 Em zR ?_)))))))
 refine cP 15 3 hl1 (sz:=4) (enc:=AK) (fun _=>rfl) zR Bf Bo Rh ET zR zD zR zR zR zR (by simp[AK,Value.oneCell']) (fun _=>⟨⟨2,zR⟩,⟨13,zR⟩,zT⟩) fun v3=>?_
 refine AW zR zR (AB zR Sv (BE ?_))
 refine B6 15 zR fun hv3 ho3=>?_
 refine DW 13 zR zR zR zR Ki hv3 ho3 zR zT (U (V (AB zR DZ (AC 2 Hc zR (J zR (U ?_))))))
 refine A1 (α:=List Af×Value) (fun x=>Oj n p0 p0_1 p0_2 p1 rec_ y1 l1 x.1=some r) (fun x=>[(0,vP b0_ 0),(3,vP b1 0),(5,vS y1.1),(8,x.2)]) (fun x=>AI b0_ (.cells #[vP b0x0_ 0,v0x1_,v3,vI (wI (p0.count+1))] 99)::AI b0x0_ (.cells #[vP b0x0x0_ 0,v0x0x1_,Z p0_1.gen,Z p0_1.boot,Ag p0_1.seals,.map (some m0x0x5_)] 96)::AI b0x0x0_ (.cells #[vB p0_2.off,vB p0_2.isCut,vI p0_2.lasts,vI p0_2.counts,v0x0x0x4_,.map (some m0x0x0x5_),.map (some m0x0x0x6_),Ag p0_2.rcnt,vS p0_2.rtag,Z p0_2.rboots] 130)::AE 9 1 v0x0x0x4_ eS p0_2.blocks::A0 m0x0x0x5_ Z vS p0_2.pend::A0 m0x0x0x6_ Z vB p0_2.bad::AE 138 2 v0x0x1_ Ax p0_1.ring::A0 m0x0x5_ Z vB p0_1.taken::AE 72 3 v0x1_ An p0.out::AE 79 4 v3 AK l1::AI b1 (.cells #[Z p1.page,vS p1.tag] 31)::AE 31 2 x.2 Ae x.1::H) ?_ (fun x D h=>?_)
 refine V (AB rfl Gm (Aa [Z y2.1.npage,vS y2.1.ntag] rfl CR rfl rfl (CG 2 rfl (by rintro(_ | (_ | j)) u hj<;>first | exact hj | exact absurd hj zS)) (BL [] rfl K4 Kv DQ trivial rfl ?_)))
 refine Qw zR gC zR zR (CI zR zR (JK (a:=y2.1.npage) (b:=0)) (CI zR zR (R3 (a:=y2.1.ntag) (b:=[])) Hf)) ?_
 refine U ?_
 refine AG zR (fun hc4=>?_) (fun hc4=>?_)
 replace h:=cT hc4 h
 refine AJ ?_
 obtain⟨l3,hl3,h⟩:=bnd h
 refine E rfl (AB rfl Gm (Aa [Z y2.1.npage,vS y2.1.ntag] rfl CR rfl rfl (CG 2 rfl (by rintro(_ | (_ | j)) u hj<;>first | exact hj | exact absurd hj zS)) ?_))
 refine Bd [_] rfl Eh C2 DQ ⟨rfl,trivial⟩ rfl rfl rfl (by first | (simp[Value.cells];done) | (intro v hv;simp only[List.mem_cons,List.not_mem_nil,or_false]at hv;rcases hv with rfl<;>rfl)) rfl rfl (fun _=>trivial) fun b3=>?_
 refine Bi Ae 2 ([(⟨y2.1.npage,y2.1.ntag⟩:Af)]:List Af) zR (fun _=>rfl) zR ?_
 refine B7 5 hl3 (sz:=2) (enc:=Ae) (fun _=>rfl) zR Eh C2 fj DQ zR zD zR zR zR zR (Ba (sz:=2) (enc:=Ae) 0 (fun _=>rfl) zR) (by simp[Ae,Value.oneCell']) (fun _=>trivial) fun v5=>?_
 refine J zR (AS ?_)
 exact Av (l3,v5) h tL (fun _ hw=>BJ.pick (H:=[_,_,_,_,_,_,_,_,_,_,_,_,_,_,_,_,_]) hw [14,6,9,10,11,12,7,8,15,16,13,5] 17 zR)
 replace h:=cF hc4 h
 refine AH ?_
 exact Av (y2.1.kids,v2) h tL (fun _ hw=>BJ.pick (H:=[_,_,_,_,_,_,_,_,_,_,_,_,_,_,_,_]) hw [13,5,8,9,10,11,6,7,14,15,12,4] 16 zR)
 obtain⟨l2,v4⟩:=x
 dsimp only at h
 unfold Oj at h
 refine A4 [(0,vP b0_ 0),(3,vP b1 0),(5,vS y1.1),(8,v4)] (AI b0_ (.cells #[vP b0x0_ 0,v0x1_,v3,vI (wI (p0.count+1))] 99)::AI b0x0_ (.cells #[vP b0x0x0_ 0,v0x0x1_,Z p0_1.gen,Z p0_1.boot,Ag p0_1.seals,.map (some m0x0x5_)] 96)::AI b0x0x0_ (.cells #[vB p0_2.off,vB p0_2.isCut,vI p0_2.lasts,vI p0_2.counts,v0x0x0x4_,.map (some m0x0x0x5_),.map (some m0x0x0x6_),Ag p0_2.rcnt,vS p0_2.rtag,Z p0_2.rboots] 130)::AE 9 1 v0x0x0x4_ eS p0_2.blocks::A0 m0x0x0x5_ Z vS p0_2.pend::A0 m0x0x0x6_ Z vB p0_2.bad::AE 138 2 v0x0x1_ Ax p0_1.ring::A0 m0x0x5_ Z vB p0_1.taken::AE 72 3 v0x1_ An p0.out::AE 79 4 v3 AK l1::AI b1 (.cells #[Z p1.page,vS p1.tag] 31)::AE 31 2 v4 Ae l2::H) ?_ tL
 refine A1 (α:=GH×Value×Value) (fun x=>Mv p1 y1 x.1=some r) (fun x=>[(0,vP b0_ 0),(3,vP b1 0),(5,vS y1.1)]) (fun x=>AI b0_ (.cells #[vP b0x0_ 0,x.2.1,x.2.2,vI x.1.count] 99)::AI b0x0_ (.cells #[vP b0x0x0_ 0,v0x0x1_,Z p0_1.gen,Z p0_1.boot,Ag p0_1.seals,.map (some m0x0x5_)] 96)::AI b0x0x0_ (.cells #[vB p0_2.off,vB p0_2.isCut,vI p0_2.lasts,vI p0_2.counts,v0x0x0x4_,.map (some m0x0x0x5_),.map (some m0x0x0x6_),Ag p0_2.rcnt,vS p0_2.rtag,Z p0_2.rboots] 130)::AE 9 1 v0x0x0x4_ eS p0_2.blocks::A0 m0x0x0x5_ Z vS p0_2.pend::A0 m0x0x0x6_ Z vB p0_2.bad::AE 138 2 v0x0x1_ Ax p0_1.ring::A0 m0x0x5_ Z vB p0_1.taken::AE 72 3 x.2.1 An x.1.out::AE 79 4 x.2.2 AK x.1.rows::AI b1 (.cells #[Z p1.page,vS p1.tag] 31)::H) ?_ (fun x D h=>?_)
 refine V (E zR (DC 11 zR Eh zR zR (E zR (U (AL ?_)))))
 refine SX.heap (SX.mono (Ay (α:=Nat×GH×Value×Value×Int) (fun x=>JP p0_1 p0_2 p1 rec_ y1 l2 x.1 (x.2.1,x.2.2.2.2)=some r) (fun x=>[(0,vP b0_ 0),(3,vP b1 0),(5,vS y1.1),(64,v4),(65,vI (l2.length:Int)),(66,vI x.2.2.2.2)]) (fun x=>AI b0_ (.cells #[vP b0x0_ 0,x.2.2.1,x.2.2.2.1,vI x.2.1.count] 99)::AI b0x0_ (.cells #[vP b0x0x0_ 0,v0x0x1_,Z p0_1.gen,Z p0_1.boot,Ag p0_1.seals,.map (some m0x0x5_)] 96)::AI b0x0x0_ (.cells #[vB p0_2.off,vB p0_2.isCut,vI p0_2.lasts,vI p0_2.counts,v0x0x0x4_,.map (some m0x0x0x5_),.map (some m0x0x0x6_),Ag p0_2.rcnt,vS p0_2.rtag,Z p0_2.rboots] 130)::AE 9 1 v0x0x0x4_ eS p0_2.blocks::A0 m0x0x0x5_ Z vS p0_2.pend::A0 m0x0x0x6_ Z vB p0_2.bad::AE 138 2 v0x0x1_ Ax p0_1.ring::A0 m0x0x5_ Z vB p0_1.taken::AE 72 3 x.2.2.1 An x.2.1.out::AE 79 4 x.2.2.2.1 AK x.2.1.rows::AI b1 (.cells #[Z p1.page,vS p1.tag] 31)::AE 31 2 v4 Ae l2::H) (fun x=>x.1) (fun x D h=>?_) (n,{ p0 with rows:=l1,count:=wI (p0.count+1) },v0x1_,v3,0) h) tL) (fun _ hw=>BJ.pick (H:=[_,_,_,_,_,_,_,_,_,_,_,_]) hw [0,1,2,3,4,5,6,7,8,9,10,11] 12 rfl)
 obtain⟨m1,o2,v8,v9,a1⟩:=x
 dsimp only at h
 rcases m1 with _ | m1
 cases (show(none:Option _)=some r from h)
 replace h:Ez p0_1 p0_2 p1 rec_ y1 l2 (JP p0_1 p0_2 p1 rec_ y1 l2 m1) o2 a1=some r:=h
 unfold Ez at h
 refine A4 [(0,vP b0_ 0),(3,vP b1 0),(5,vS y1.1),(64,v4),(65,vI (l2.length:Int)),(66,vI a1)] (AI b0_ (.cells #[vP b0x0_ 0,v8,v9,vI o2.count] 99)::AI b0x0_ (.cells #[vP b0x0x0_ 0,v0x0x1_,Z p0_1.gen,Z p0_1.boot,Ag p0_1.seals,.map (some m0x0x5_)] 96)::AI b0x0x0_ (.cells #[vB p0_2.off,vB p0_2.isCut,vI p0_2.lasts,vI p0_2.counts,v0x0x0x4_,.map (some m0x0x0x5_),.map (some m0x0x0x6_),Ag p0_2.rcnt,vS p0_2.rtag,Z p0_2.rboots] 130)::AE 9 1 v0x0x0x4_ eS p0_2.blocks::A0 m0x0x0x5_ Z vS p0_2.pend::A0 m0x0x0x6_ Z vB p0_2.bad::AE 138 2 v0x0x1_ Ax p0_1.ring::A0 m0x0x5_ Z vB p0_1.taken::AE 72 3 v8 An o2.out::AE 79 4 v9 AK o2.rows::AI b1 (.cells #[Z p1.page,vS p1.tag] 31)::AE 31 2 v4 Ae l2::H) ?_ tL
 refine V (O zR Ao (U (AD ?_)))
 refine AG zR (fun hc5=>?_) (fun hc5=>?_)
 replace h:=cT hc5 h
 refine AH (AF (AD (AL (V ?_))))
 obtain⟨x1,hx1,h⟩:=bnd h
 refine BF 11 hx1 zR Eh C2 zR zR zR fun g1 m2 cp1 hv4=>?_
 refine Aa (Ae x1) zR CR zR zR (CE (sz:=2) (enc:=Ae) 11 (fun _=>rfl) zR hv4 hx1) ?_
 refine Ah zR DQ (fun _=>trivial) fun b4=>?_
 refine Am 0 zR zR zR zR C2 zR zR zR zT (U (V ?_))
 obtain⟨y3,hy3,h⟩:=bnd h
 refine E zR (Aa [Z x1.page,vS x1.tag] zR CR zR zR (AZ 0 zR) (SL.pick [1,9,10,2,7,8,3,4,5,6,0] 11 ?_))
 refine AP (vs:=[_,_]) (Hin:=[_,_,_,_,_,_,_,_,_,_]) (Hr:=_::_::_::_) zR zR ⟨zR,zR,zT⟩ jz zR zR ((hrec hy3 :)) ?_
 rintro _ _ ⟨v10,v11,rfl,rfl⟩
 refine⟨trivial,?_⟩
 refine J zR (U (V (E zR (O zR Bh (U ?_)))))
 refine AG zR (fun hc6=>?_) (fun hc6=>?_)
 replace h:=cT hc6 h
 refine V (E zR (J zR (U (AM (BM (Ab (DD (BM (ER ?_)))))))))
 obtain rfl:=Option.some.inj h
 exact AU (Co zR zR) (AV (M:=[_,_,_,_,_,_,_,_,_,_]) ⟨v10,v11,zR,zR⟩ fun _ hw=>BJ.pick (H:=[_,_,_,_,_,_,_,_,_,_,_,_,_]) hw [0,1,2,3,4,5,6,7,8,9] 13 zR)
 replace h:=cF hc6 h
 refine AH (Ai (AF (AJ (O zR A3 (E zR (AS ?_))))))
 exact Ac (m1,y3.2,v10,v11,wI (a1+1)) h (Nat.lt_succ_self _) tL (fun _ hw=>BJ.pick (H:=[_,_,_,_,_,_,_,_,_,_,_,_,_]) hw [0,3,6,7,8,9,4,5,1,2,11,12] 13 zR)
 replace h:=cF hc5 h
 refine Al (Aw (A9 (Au ?_)))
 exact Av (o2,v8,v9) h tL (fun _ hw=>BJ.pick (H:=[_,_,_,_,_,_,_,_,_,_,_,_]) hw [0,1,2,3,4,5,6,7,8,9,10] 12 zR)
 obtain⟨o1,v6,v7⟩:=x
 dsimp only at h
 unfold Mv at h
 refine A4 [(0,vP b0_ 0),(3,vP b1 0),(5,vS y1.1)] (AI b0_ (.cells #[vP b0x0_ 0,v6,v7,vI o1.count] 99)::AI b0x0_ (.cells #[vP b0x0x0_ 0,v0x0x1_,Z p0_1.gen,Z p0_1.boot,Ag p0_1.seals,.map (some m0x0x5_)] 96)::AI b0x0x0_ (.cells #[vB p0_2.off,vB p0_2.isCut,vI p0_2.lasts,vI p0_2.counts,v0x0x0x4_,.map (some m0x0x0x5_),.map (some m0x0x0x6_),Ag p0_2.rcnt,vS p0_2.rtag,Z p0_2.rboots] 130)::AE 9 1 v0x0x0x4_ eS p0_2.blocks::A0 m0x0x0x5_ Z vS p0_2.pend::A0 m0x0x0x6_ Z vB p0_2.bad::AE 138 2 v0x0x1_ Ax p0_1.ring::A0 m0x0x5_ Z vB p0_1.taken::AE 72 3 v6 An o1.out::AE 79 4 v7 AK o1.rows::AI b1 (.cells #[Z p1.page,vS p1.tag] 31)::H) ?_ tL
 refine AD ?_
 obtain⟨l4,hl4,h⟩:=bnd h
 refine Aj CJ [0,10] (BY [(true,0),(true,1),(true,2),(true,3),(true,4),(true,5),(true,6),(true,7),(false,8),(false,9),(true,10),(true,11)] (.last 12 .nil)) zK (E zR (E zR (AW zR zR (AB zR PV (AC 0 MB zR (E zR (Aa [Z p1.page,vS p1.tag] zR CR zR zR (AZ 1 zR) ?_)))))))
 refine BL [_,_] zR fZ fU Ol ⟨zR,zR,zT⟩ zR ?_
 refine Bd [_] rfl HG LQ Ol ⟨rfl,trivial⟩ rfl rfl rfl (by first | (simp[Value.cells];done) | (intro v hv;simp only[List.mem_cons,List.not_mem_nil,or_false]at hv;rcases hv with rfl<;>rfl)) rfl rfl (fun _=>⟨⟨1,rfl⟩,⟨11,rfl⟩,trivial⟩) fun b5=>?_
 refine Bi An 3 ([(⟨y1.1,p1.page,p1.tag⟩:A5)]:List A5) zR (fun _=>rfl) zR ?_
 refine B7 9 hl4 (sz:=3) (enc:=An) (fun _=>rfl) zR HG LQ fD Ol zR zD zR zR zR zR (Ba (sz:=3) (enc:=An) 0 (fun _=>rfl) zR) (by simp[An,Value.oneCell']) (fun _=>⟨⟨1,zR⟩,⟨11,zR⟩,zT⟩) fun v12=>?_
 refine AW zR zR (AB zR PV (BE ?_))
 refine B6 9 zR fun hv5 ho4=>?_
 refine DW 1 zR zR zR zR f7 hv5 ho4 zR zT (U (V (J zR (U (AM ?_)))))
 obtain rfl:=Option.some.inj h
 exact AU (Co zR zR) (AV (M:=[_,_,_,_,_,_,_,_,_,_]) ⟨v12,v7,zR,zR⟩ fun _ hw=>BJ.pick (H:=[_,_,_,_,_,_,_,_,_,_,_,_]) hw [1,9,10,2,7,8,3,4,5,6] 12 zR)
end

/- grove.reader.page, tied; where grove.Load says that a page is. Condition: the plain functions yield. -/
section
variable {K:Nat→Prop}{w0:World}{H:List AT}
def Rt(n:Nat)(T:List UInt32):Nat→GH→BX→A8→Af→Option (Int×GH)
 | 0=>fun _ _ _ _=>none
 | f+1=>Rn (Rt n T f) n T
theorem i7(n:Nat)(T:List UInt32):∀(f:Nat) {K:Nat→Prop} {w0:World} {H:List AT} {b0_:Nat} {v0x1_:Value} {v0x2_:Value} {b0x0_:Nat} {v0x0x1_:Value} {m0x0x5_:Nat} {b0x0x0_:Nat} {v0x0x0x4_:Value} {m0x0x0x5_:Nat} {m0x0x0x6_:Nat} {p0:GH} {p0_1:BX} {p0_2:A8} {p1:Af} {r:Int×GH},Rt n T f p0 p0_1 p0_2 p1=some r→GJ K w0 T→BH Tryz.prog K w0 48 [vP b0_ 0,.agg (Ae p1).toArray] [AI b0_ (.cells #[vP b0x0_ 0,v0x1_,v0x2_,vI p0.count] 99),AE 72 3 v0x1_ An p0.out,AE 79 4 v0x2_ AK p0.rows,AI b0x0_ (.cells #[vP b0x0x0_ 0,v0x0x1_,Z p0_1.gen,Z p0_1.boot,Ag p0_1.seals,.map (some m0x0x5_)] 96),AE 138 2 v0x0x1_ Ax p0_1.ring,A0 m0x0x5_ Z vB p0_1.taken,AI b0x0x0_ (.cells #[vB p0_2.off,vB p0_2.isCut,vI p0_2.lasts,vI p0_2.counts,v0x0x0x4_,.map (some m0x0x0x5_),.map (some m0x0x0x6_),Ag p0_2.rcnt,vS p0_2.rtag,Z p0_2.rboots] 130),AE 9 1 v0x0x0x4_ eS p0_2.blocks,A0 m0x0x0x5_ Z vS p0_2.pend,A0 m0x0x0x6_ Z vB p0_2.bad] H (fun u M=>∃vs0_0_1 vs0_0_2:Value,u=vI r.1∧M=[AI b0_ (.cells #[vP b0x0_ 0,vs0_0_1,vs0_0_2,vI r.2.count] 99),AE 72 3 vs0_0_1 An r.2.out,AE 79 4 vs0_0_2 AK r.2.rows,AI b0x0_ (.cells #[vP b0x0x0_ 0,v0x0x1_,Z p0_1.gen,Z p0_1.boot,Ag p0_1.seals,.map (some m0x0x5_)] 96),AE 138 2 v0x0x1_ Ax p0_1.ring,A0 m0x0x5_ Z vB p0_1.taken,AI b0x0x0_ (.cells #[vB p0_2.off,vB p0_2.isCut,vI p0_2.lasts,vI p0_2.counts,v0x0x0x4_,.map (some m0x0x0x5_),.map (some m0x0x0x6_),Ag p0_2.rcnt,vS p0_2.rtag,Z p0_2.rboots] 130),AE 9 1 v0x0x0x4_ eS p0_2.blocks,A0 m0x0x0x5_ Z vS p0_2.pend,A0 m0x0x0x6_ Z vB p0_2.bad])
 | 0,_,_,_,_,_,_,_,_,_,_,_,_,_,_,_,_,_,_,h,_=>by cases h
 | f+1,_,_,_,_,_,_,_,_,_,_,_,_,_,_,_,_,_,_,h,hS=>n8 h hS (fun h=>i7 n T f h hS)
def WF(outs:List A5):SF Int:=fun q s=>
 (PJ (decide (q=(outs.length:Int))) ((Aq outs q).bind fun x=>some (!decide (x.txt=s)))).bind fun c=>
  cond c (some ((⟨0,[]⟩,61),q)) ((Aq outs (wI (wI (q+1)-1))).bind fun x=>some ((⟨x.page,x.tag⟩,0),wI (q+1)))
abbrev aq(ba bx br:Nat)(vv vo vr:Value)(cnt:Int)(outs:List A5)(_:Value)(q:Int):List AT:=
 [AI ba (.cells #[vI q] 3),AI bx (.cells #[vP br 0] 97),AI br (.cells #[vv,vo,vr,vI cnt] 99),AE 72 3 vo An outs]
theorem kQ{T:List UInt32}{ba bx br:Nat}{vv vo vr:Value}{cnt:Int}{outs:List A5}:Zr T 52 #[vP ba 0,vP bx 0] (aq ba bx br vv vo vr cnt outs) (WF outs):=by
 intro K w0 H a q s r hS h
 unfold WF at h
 obtain⟨c,hc,h⟩:=bnd h
 refine BH.enter Tryz.func52 rfl rfl ?_
 show SX _ _ _ _ _ _ _ _ _ (aq ba bx br vv vo vr cnt outs a q++H)
 refine V ?_
 refine Ah zR DQ (fun _=>trivial) fun b0=>?_
 refine J zR (U (AD (AD (Aj CJ [1,2,3,4] (Pl.of [(true,0),(true,1),(true,2),(true,3),(true,4),(true,5),(true,6),(true,7),(true,8),(true,9),(true,10),(true,11),(true,12),(true,13),(true,14),(true,15),(true,16),(true,17),(true,18)]) zK (AC 0 DT zR (AC 1 S7 zR (AW zR zR (AB zR PV (AC 2 MB zR (DC 3 zR HG zR zR ?_))))))))))
 refine O zR Bq (E zR ?_)
 refine Ma 13 11 24 hc zR (fun hb k=>?_) (fun hb hg k=>?_) ?_
 refine AA zR (AA zR (AA zR (AA zR (AA zR (AA zR (AA zR (AA zR ?_)))))))
 refine AA zR (AA zR (Ad zR zR zR ?_))
 exact k.mono tL
 obtain⟨x,hx,hg⟩:=bnd hg
 obtain rfl:=Option.some.inj hg
 refine AC 1 S7 zR (AW zR zR (AB zR PV (AC 2 MB zR (AC 0 DT zR ?_))))
 refine BF 4 hx zR HG LQ zR zR zR fun g1 m1 cp1 hv1=>?_
 refine AB zR ZB ?_
 refine BR zR EZ zR (BW (sz:=3) (enc:=An) 3 0 (fun _=>rfl) zR hv1 hx zR) ?_
 refine E zR (O zR Jx (Ad zR zR zR ?_))
 exact k.mono tL
 refine U ?_
 refine AG zR (fun hc1=>?_) (fun hc1=>?_)
 replace h:=cT hc1 h
 obtain rfl:=Option.some.inj h
 refine V (BL [] zR K4 Kv DQ zT zR (Am 0 zR zR zR zR C2 zR zR zR zT (J zR (U (AM (Ab ?_))))))
 exact AU (Dq zR (BG 0 (Ae ⟨0,[]⟩) CR zR zR zR zR) zR) (AV (M:=aq ba bx br vv vo vr cnt outs a q) ⟨zR,a,zR⟩ fun _ hw=>BJ.pick (H:=[_]) hw [] 1 zR)
 replace h:=cF hc1 h
 obtain⟨x,hx,h⟩:=bnd h
 obtain rfl:=Option.some.inj h
 refine AH (AF (V (AC 1 DT zR (O zR A3 (Am 1 zR zR zR zR La zR zR zR zT (U (AD (Aj CJ [1,2,3,4] (BY [(true,0),(true,1),(true,2),(true,3),(true,4),(true,5),(true,6),(true,7),(true,8)] (.last 9 (Pl.of [(false,10)]))) zK (AC 1 S7 zR (AW zR zR (AB zR PV (AC 2 MB zR ?_))))))))))))
 refine AC 0 DT zR (O zR Bp ?_)
 refine BF 4 hx zR HG LQ zR zR zR fun g1 m1 cp1 hv1=>?_
 refine AB zR Sr ?_
 refine Aa [Z x.page,vS x.tag] zR CR zR zR (c5 (sz:=3) (enc:=An) 3 (fun _=>rfl) zR hv1 hx zR) ?_
 refine BE (Am 0 zR zR zR zR C2 zR zR zR zT (J zR (U (AM ?_))))
 exact AU (Dq zR (BG 0 (Ae ⟨x.page,x.tag⟩) CR zR zR zR zR) zR) (AV (M:=aq ba bx br vv vo vr cnt outs a (wI (q+1))) ⟨zR,a,zR⟩ fun _ hw=>BJ.pick (H:=[_]) hw [] 1 zR)
end

/- grove.Load. Condition: the plain function yields. -/
section
variable {K:Nat→Prop}{w0:World}{H:List AT}
def Z4(a b:Af):Bool:=decide (a.page=b.page)&&(decide (a.tag=b.tag)&&true)
def T7(n:Nat)(T:List UInt32)(p0:BX)(p0_1:A8)(p1:Af):Option (List AN×List A5×Int):=
 (Rt n T n ⟨[],[],0⟩ p0 p0_1 p1).bind fun y=>cond (!decide (y.1=0)) (some ([],[],y.1))
  ((W1 n y.2.rows).bind fun l=>(Im n l).bind fun b=>cond (!decide (b.2=0)) (some ([],[],61))
   ((EV n (WF y.2.out) n b.1 ⟨[],0⟩ 0).bind fun z=>cond ((!decide (z.2.1.wrong=0) || !decide (z.2.2=(y.2.out.length:Int))) || !Z4 z.1 p1) (some ([],[],61)) (some (l,y.2.out,0))))
theorem nE{n:Nat}{T:List UInt32}{b0_:Nat}{v0x1_:Value}{m0x5_:Nat}{b0x0_:Nat}{v0x0x4_:Value}{m0x0x5_:Nat}{m0x0x6_:Nat}{p0:BX}{p0_1:A8}{p1:Af}{r:List AN×List A5×Int}(h:T7 n T p0 p0_1 p1=some r)(hS:GJ K w0 T):
  BH Tryz.prog K w0 15 [vP b0_ 0,.agg (Ae p1).toArray] (El ⟨b0_,v0x1_,m0x5_,b0x0_,v0x0x4_,m0x0x5_,m0x0x6_⟩ p0 p0_1) H (fun u M=>∃v0 v1:Value,u=.tuple #[v0,v1,vI r.2.2]∧M=AE 79 4 v0 AK r.1::AE 72 3 v1 An r.2.1::El ⟨b0_,v0x1_,m0x5_,b0x0_,v0x0x4_,m0x0x5_,m0x0x6_⟩ p0 p0_1):=by
 unfold T7 at h
 obtain⟨⟨ye,y⟩,hy,h1⟩:=bnd h
 clear h
 dsimp only at h1
 refine BH.enter Tryz.func15 rfl rfl ?_
 show SX _ _ _ _ _ _ _ _ _ (El ⟨b0_,v0x1_,m0x5_,b0x0_,v0x0x4_,m0x0x5_,m0x0x6_⟩ p0 p0_1++H)
 refine V ?_
 refine BU zR zR (fun _=>trivial) fun b0=>?_
 refine J zR (J zR (J zR (U (AD (V (E zR (Eu zR UR zR zR (U (DE zR (AH (AF (V (E zR (BL [_] zR qq qm qj ⟨zR,zT⟩ zR ?_))))))))))))))
 refine BU zR zR (fun _=>trivial) fun b1=>?_
 refine C4 0 (AI b1 (.cells #[vP b0_ 0,.slice none 0 0,.slice none 0 0,vI 0] 99)) ?_
 refine Ah zR qs (fun _=>trivial) fun b2=>?_
 refine Am 0 zR zR zR zR rE zR zR zR zT (C4 0 (AI b2 (.cells #[vP b1 0] 97)) (Bx 79 4 AK (Bx 72 3 An (U (AD (V (AC 2 S7 zR (Aa (Ae p1) zR CR zR zR (AZ 4 zR) (SL.pick [3,0,1,5,6,7,8,9,10,11,2,4] 12 ?_)))))))))
 have hcon:=i7 (K:=K) (w0:=w0) (H:=(AI b2 (.cells #[vP b1 0] 97)::AI b0 (.cells #[Z p1.page,vS p1.tag] 31)::H)++[BB []]) (b0_:=b1) (v0x1_:=.slice none 0 0) (v0x2_:=.slice none 0 0) (b0x0_:=b0_) (v0x0x1_:=v0x1_) (m0x0x5_:=m0x5_) (b0x0x0_:=b0x0_) (v0x0x0x4_:=v0x0x4_) (m0x0x0x5_:=m0x0x5_) (m0x0x0x6_:=m0x0x6_) n T n hy hS
 refine AP (vs:=[_,_]) (Hin:=AI b1 (.cells #[vP b0_ 0,.slice none 0 0,.slice none 0 0,vI 0] 99)::AE 72 3 (.slice none 0 0) An []::AE 79 4 (.slice none 0 0) AK []::El ⟨b0_,v0x1_,m0x5_,b0x0_,v0x0x4_,m0x0x5_,m0x0x6_⟩ p0 p0_1) (Hr:=AI b2 (.cells #[vP b1 0] 97)::AI b0 (.cells #[Z p1.page,vS p1.tag] 31)::H) zR zR ⟨zR,zR,zT⟩ jz zR zR hcon ?_
 rintro _ _ ⟨vo,vr,rfl,rfl⟩
 refine⟨trivial,?_⟩
 refine J zR (U (V (E zR (O zR Bh (U ?_)))))
 refine AG zR (fun hc2=>?_) (fun hc2=>?_)
 replace h1:=cT hc2 h1
 obtain rfl:=Option.some.inj h1
 refine V (E zR (J zR (J zR (J zR (U (AM (Ab (Iu 72 3 An (Iu 79 4 AK ?_)))))))))
 exact AU (Vi zR zR zR zR) (AV (M:=_::_::El ⟨b0_,v0x1_,m0x5_,b0x0_,v0x0x4_,m0x0x5_,m0x0x6_⟩ p0 p0_1) ⟨_,_,zR,zR⟩ fun _ hw=>BJ.pick (H:=[_,_,_,_,_,_,_,_,_,_,_,_,_,_]) hw [0,1,5,6,7,8,9,10,11] 14 zR)
 replace h1:=cF hc2 h1
 obtain⟨l,hl,h2⟩:=bnd h1
 clear h1
 obtain⟨⟨b,be⟩,hb,h3⟩:=bnd h2
 clear h2
 dsimp only at h3
 refine AH (AF (V (AC 10 S7 zR (AW zR zR (AB zR Sv (AC 0 Em zR (SL.pick [2,0,1,3,4,5,6,7,8,9,10,11] 12 ?_)))))))
 refine AP (vs:=[_,_]) (Hin:=[AE 79 4 vr AK y.rows]) (Hr:=_::_::(El ⟨b0_,v0x1_,m0x5_,b0x0_,v0x0x4_,m0x0x5_,m0x0x6_⟩ p0 p0_1++(_::_::H))) zR zR ⟨zR,zR,zT⟩ pz zR zR (qG hl) ?_
 rintro _ _ ⟨rfl,rfl⟩
 refine⟨trivial,?_⟩
 refine U (V (AC 10 S7 zR (AW zR zR (AB zR Sv (AC 1 Em zR ?_)))))
 have hcon2:=CC (K:=K) (w0:=w0) (H:=(AI b1 (.cells #[vP b0_ 0,vo,vr,vI y.count] 99)::AE 72 3 vo An y.out::(El ⟨b0_,v0x1_,m0x5_,b0x0_,v0x0x4_,m0x0x5_,m0x0x6_⟩ p0 p0_1++(AI b2 (.cells #[vP b1 0] 97)::AI b0 (.cells #[Z p1.page,vS p1.tag] 31)::H)))++[BB []]) (f:=25) (B:=[AE 79 4 vr AK l]) (Hin:=[]) fun K' w1 hkk hB=>
  cY hb (Br (e:=79) (v:=vr) (fun _=>rfl) (hB _ zS))
 refine AP (vs:=[_]) (Hin:=[AE 79 4 vr AK l]) (Hr:=AI b1 (.cells #[vP b0_ 0,vo,vr,vI y.count] 99)::AE 72 3 vo An y.out::(El ⟨b0_,v0x1_,m0x5_,b0x0_,v0x0x4_,m0x0x5_,m0x0x6_⟩ p0 p0_1++(AI b2 (.cells #[vP b1 0] 97)::AI b0 (.cells #[Z p1.page,vS p1.tag] 31)::H))) zR zR ⟨zR,zT⟩ jO zR zR hcon2 ?_
 rintro _ _ ⟨_,rfl,nv,L,rfl,hnz,rfl⟩
 refine⟨trivial,?_⟩
 refine E zR (Ap zR zR zR (Ap zR zR zR ?_))
 refine Ah zR HV (fun _=>trivial) fun b3=>?_
 refine Am 0 zR zR zR zR G4 zR (List.all_eq_true.2 (Gc nv)) zR zT (C4 0 (AI b3 (.cells (Bk nv).toArray 57)) (J zR (U (AD (V (E zR (O zR Bh (U ?_))))))))
 refine AG zR (fun hc3=>?_) (fun hc3=>?_)
 replace h3:=cT hc3 h3
 obtain rfl:=Option.some.inj h3
 refine V (J zR (J zR (J zR (U (AM (Ab (Iu 72 3 An (Iu 79 4 AK ?_))))))))
 exact AU (Vi zR zR zR zR) (AV (M:=_::_::El ⟨b0_,v0x1_,m0x5_,b0x0_,v0x0x4_,m0x0x5_,m0x0x6_⟩ p0 p0_1) ⟨_,_,zR,zR⟩ fun _ hw=>BJ.pick (H:=[_,_,_,_,_,_,_,_,_,_,_,_,_,_,_,_]) hw [0,1,7,8,9,10,11,12,13] 16 zR)
 replace h3:=cF hc3 h3
 obtain⟨z,hz,h4⟩:=bnd h3
 clear h3
 refine AH (AF (V ?_))
 refine Ah zR nD (fun _=>trivial) fun b4=>?_
 refine Am 0 zR zR zR zR La zR zR zR zT (C4 0 (AI b4 (.cells #[vI 0] 3)) (U (V ?_)))
 refine GD (fv:=#[]) (cv:=#[_,_]) zR zR zR ?_
 refine BL [_] zR i9 kj kO ⟨zR,zT⟩ zR ?_
 refine BU zR zR (fun _=>trivial) fun b5=>?_
 refine Bx 72 3 An (J zR (U ?_))
 have hcon3:=CC (K:=K) (w0:=w0) (H:=(AI b3 (.cells (Bk nv).toArray 57)::AE 79 4 vr AK l::(El ⟨b0_,v0x1_,m0x5_,b0x0_,v0x0x4_,m0x0x5_,m0x0x6_⟩ p0 p0_1++(AI b0 (.cells #[Z p1.page,vS p1.tag] 31)::H)))++[BB []]) (f:=53) (B:=[ES L]) (Hin:=Io b5 (.func (.func 52) #[] #[vP b4 0,vP b2 0]) (.slice none 0 0) ⟨[],0⟩::AE 72 3 (.slice none 0 0) An []::aq b4 b2 b1 (vP b0_ 0) vo vr y.count y.out vo 0) fun K' w1 hkk hB=>
  MP (C:=aq b4 b2 b1 (vP b0_ 0) vo vr y.count y.out) (bp:=b5) (vo:=.slice none 0 0) (ca:=vo) (cs:=#[vP b4 0,vP b2 0]) qA kQ n (hS.keeps hkk) hz (hnz.lent (hB _ zS))
 generalize hpo:(fun(u:Value) (M:List AT)=>∃M',M=[ES L]++M'∧(u=.agg (Ae z.1).toArray∧∃vo' ca',M'=Io b5 (.func (.func 52) #[] #[vP b4 0,vP b2 0]) vo' z.2.1::AE 72 3 vo' An z.2.1.out::aq b4 b2 b1 (vP b0_ 0) vo vr y.count y.out ca' z.2.2))=po at hcon3
 refine AD (V (E zR (Aa (Bk nv) zR Kp zR zR (AZ 3 zR) (SL.pick [5,1,0,2,15,6,7,3,4,8,9,10,11,12,13,14,16] 17 ?_))))
 refine AP (vs:=[_,_]) (Hin:=[ES L]++(Io b5 (.func (.func 52) #[] #[vP b4 0,vP b2 0]) (.slice none 0 0) ⟨[],0⟩::AE 72 3 (.slice none 0 0) An []::aq b4 b2 b1 (vP b0_ 0) vo vr y.count y.out vo 0)) (Hr:=AI b3 (.cells (Bk nv).toArray 57)::AE 79 4 vr AK l::(El ⟨b0_,v0x1_,m0x5_,b0x0_,v0x0x4_,m0x0x5_,m0x0x6_⟩ p0 p0_1++(AI b0 (.cells #[Z p1.page,vS p1.tag] 31)::H))) zR zR ⟨zR,zR,zT⟩ eU zR zR hcon3 ?_
 intro u0 M0 hpost
 rw[←hpo]at hpost
 obtain⟨_,rfl,rfl,vo2,ca2,rfl⟩:=hpost
 refine⟨trivial,?_⟩
 refine Ah zR DQ (fun _=>trivial) fun b6=>?_
 refine Am 0 zR zR zR zR C2 zR zR zR zT (C4 0 (AI b6 (.cells #[Z z.1.page,vS z.1.tag] 31)) (U (AD (Aj CJ [2,4,5,6,7,0,17] (Pl.of [(true,0),(true,1),(true,2),(true,3),(true,4),(true,5),(true,6),(true,7),(true,8),(true,9),(true,10),(true,11),(true,12),(true,13),(true,14),(true,15),(true,16),(true,17),(true,18)]) zK (E zR (AW zR zR (AB zR Oc (AC 0 Sl zR (O zR Bh ?_)))))))))
 refine E zR ?_
 refine C1 (c := !decide (z.2.2=(y.out.length:Int))) 51 8 59 zR (fun hb k=>?_) (fun hb k=>?_) ?_
 refine AA zR (AA zR (AA zR (AA zR (AA zR (AA zR (AA zR (Ad zR zR zR ?_)))))))
 exact k.mono tL
 refine AC 1 DT zR (AC 2 S7 zR (AW zR zR (AB zR PV (AC 3 MB zR (DC 4 zR HG zR zR (O zR Bh (Ad zR zR zR ?_)))))))
 exact k.mono tL
 refine E zR ?_
 refine C1 (c := !Z4 z.1 p1) 60 4 64 zR (fun hb k=>?_) (fun hb k=>?_) ?_
 refine AA zR (AA zR (AA zR (Ad zR zR zR ?_)))
 exact k.mono tL
 refine Aa (Ae z.1) zR CR zR zR (AZ 5 zR) (Aa (Ae p1) zR CR zR zR (AZ 6 zR) ?_)
 refine Qw zR gC zR zR (CI zR zR (JK (a:=z.1.page) (b:=p1.page)) (CI zR zR (R3 (a:=z.1.tag) (b:=p1.tag)) Hf)) ?_
 refine Ad zR zR zR ?_
 exact k.mono tL
 refine U ?_
 refine AG zR (fun hc4=>?_) (fun hc4=>?_)
 replace h4:=cT hc4 h4
 obtain rfl:=Option.some.inj h4
 refine V (J zR (J zR (J zR (U (AM (Ab (Iu 72 3 An (Iu 79 4 AK ?_))))))))
 exact AU (Vi zR zR zR zR) (AV (M:=_::_::El ⟨b0_,v0x1_,m0x5_,b0x0_,v0x0x4_,m0x0x5_,m0x0x6_⟩ p0 p0_1) ⟨_,_,zR,zR⟩ fun _ hw=>BJ.pick (H:=[_,_,_,_,_,_,_,_,_,_,_,_,_,_,_,_,_,_,_,_]) hw [0,1,12,13,14,15,16,17,18] 20 zR)
 replace h4:=cF hc4 h4
 obtain rfl:=Option.some.inj h4
 refine AH (AF (AD (Aj CJ [5,6] (Pl.of [(true,0),(true,1),(true,2),(true,3),(true,4),(true,5),(true,6),(true,7),(true,8),(true,9),(true,10)]) zK (AC 0 S7 zR (AW zR zR (AB zR Sv (AC 1 Em zR (AC 0 S7 zR (AW zR zR (AB zR PV ?_))))))))))
 refine AC 1 MB zR (J zR (J zR (J zR (U (AM ?_)))))
 exact AU (Vi zR zR zR zR) (AV (M:=AE 79 4 vr AK l::AE 72 3 vo An y.out::El ⟨b0_,v0x1_,m0x5_,b0x0_,v0x0x4_,m0x0x5_,m0x0x6_⟩ p0 p0_1) ⟨_,_,zR,zR⟩ fun _ hw=>BJ.pick (H:=[_,_,_,_,_,_,_,_,_,_,_,_,_,_,_,_,_,_]) hw [9,7,10,11,12,13,14,15,16] 18 zR)
end
end Go.Proofs.YtkibffdipniemaaGreatDoor
