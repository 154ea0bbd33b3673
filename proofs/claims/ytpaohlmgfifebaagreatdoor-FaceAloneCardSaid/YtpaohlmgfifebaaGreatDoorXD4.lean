/- The texts LG4, LG5, LG6, S24, GG14, GG15, GG16, GG17, GG18, GG19, GG20, LG7, GG21, GG22, GG23, GG24, GG25, GG26, GG27, GG28, GG29, GG30, GG31, LG1, LG8, LG9, YI, Y1a, YF, V3f, VG1, VG2, LG10, LG11, U1, U2, U3, S25, one behind the other: walks of the program, and plain laws of what it computes. Conditions: as each theorem says. -/
import Derived.Test.YtpaohlmgfifebaaGreatDoorXD1
import Derived.Test.YtpaohlmgfifebaaGreatDoorXD2
import Derived.Test.YtpaohlmgfifebaaGreatDoorXD3

set_option linter.unusedVariables false
set_option linter.unusedSimpArgs false
set_option maxHeartbeats 4000000
set_option maxRecDepth 100000
namespace Go.Proofs.YtpaohlmgfifebaaGreatDoor
open Go
section
def bl(n:Nat):Nat:=if n=0 then 0 else Nat.log2 n+1
theorem fR(n:Nat):n<2^bl n:=by
 unfold bl
 split
 rename_i h;subst h;simp
 exact Nat.lt_log2_self
theorem aM{n k:Nat}(h:n<2^k):bl n≤k:=by
 unfold bl
 split
 omega
 rename_i h0
 exact(Nat.log2_lt h0).2 h
theorem lH{n:Nat}(h:0<bl n):2^(bl n-1)≤n:=by
 rcases Nat.lt_or_ge n (2^(bl n-1))with h1 | h1
 have:=aM h1
 omega
 exact h1
theorem lI{n L:Nat}(h1:n<2^L)(h2:L=0∨2^(L-1)≤n):bl n=L:=by
 have a:=aM h1
 rcases h2 with h2 | h2
 omega
 rcases Nat.lt_or_ge (bl n) L with h | h
 have h3:2^bl n≤2^(L-1):=Nat.pow_le_pow_right zD zO
 have h4:=fR n
 omega
 omega
theorem ZX{n k:Nat}(h:2^k≤n):bl n=k+bl (n / 2^k):=by
 have hp:=Nat.two_pow_pos k
 have h0:0<n / 2^k:=Nat.div_pos h hp
 have hb:0<bl (n / 2^k):=by
  unfold bl
  rw[if_neg zO]
  omega
 refine lI ?_ (.inr ?_)
 rw[Nat.pow_add]
 have:=fR (n / 2^k)
 rw[Nat.mul_comm]
 exact(Nat.div_lt_iff_lt_mul hp).1 this
 have:=lH hb
 rw[show k+bl (n / 2^k)-1=k+(bl (n / 2^k)-1) by omega,Nat.pow_add]
 calc 2^k*2^(bl (n / 2^k)-1)≤2^k*(n / 2^k):=Nat.mul_le_mul_left _ this
  _≤n:=Nat.mul_div_le _ _
def i5:List UInt8:=[0,1,2,2,3,3,3,3,4,4,4,4,4,4,4,4,5,5,5,5,5,5,5,5,5,5,5,5,5,5,5,5]++List.replicate 32 6++List.replicate 64 7++List.replicate 128 8
theorem qo:∀b:Fin 256,i5[b.val]? = some (UInt8.ofNat (bl b.val)):=by decide +kernel
theorem i7(a:UInt32)(ha:a.toNat<256)(k:Nat)(hk:k≤24):O0 a (k:Int)=some ((k+bl a.toNat:Nat):Int):=by
 have hb:a.toUInt8.toNat=a.toNat:=by
  rw[UInt32.toNat_toUInt8]
  omega
 have h8:bl a.toNat≤8:=aM zO
 unfold O0
 have ht:BB i5 (a.toUInt8.toNat:Int)=some (UInt8.ofNat (bl a.toNat)):=by
  rw[Dp,hb]
  exact qo ⟨a.toNat,ha⟩
 refine(congrArg (fun x=>Option.bind x _) (show BB _ _=some (UInt8.ofNat (bl a.toNat))from ht)).trans ?_
 rw[AA,Be]
 have:(UInt8.ofNat (bl a.toNat)).toNat=bl a.toNat:=by simp;omega
 rw[this,Cm zO zO]
 rfl
theorem Yu(n:UInt32)(k:Nat)(h:k≤32):(shr32 n k).toNat=n.toNat / 2^k:=by
 have h1:=n.toNat_lt
 simp only[shr32,UInt32.toNat_ofNat',Nat.min_eq_left h]
 exact Nat.mod_eq_of_lt (Nat.lt_of_le_of_lt (Nat.div_le_self _ _) h1)
theorem i6(a:UInt32)(ha:a.toNat<65536)(k:Nat)(hk:k≤16):Oz a (k:Int)=some ((k+bl a.toNat:Nat):Int):=by
 unfold Oz
 by_cases h:256≤a.toNat
 rw[zt (show(256:UInt32)≤a by rw[UInt32.le_iff_toNat_le];exact h),Cs,Be,Be,Cm zO zO]
 have hs:=Yu a 8 zD
 have:=i7 (shr32 a 8) (by rw[hs];omega) (k+8) zO
 rw[show(k:Int)+8=((k+8:Nat):Int) by omega,this,hs]
 have hb:=ZX (n:=a.toNat) (k:=8) zO
 congr 2
 omega
 rw[zf (show ¬(256:UInt32)≤a by rw[UInt32.le_iff_toNat_le];exact h),B0]
 exact i7 a zO k zO
theorem jy(a:UInt32):YH a=some ((bl a.toNat:Nat):Int):=by
 have h32:=a.toNat_lt
 unfold YH
 by_cases h:65536≤a.toNat
 rw[zt (show(65536:UInt32)≤a by rw[UInt32.le_iff_toNat_le];exact h),Cs,Be]
 have hs:=Yu a 16 zD
 have:=i6 (shr32 a 16) (by rw[hs];omega) 16 zO
 rw[show((16:Nat):Int)=16 from rfl]at this
 rw[this,hs]
 have hb:=ZX (n:=a.toNat) (k:=16) zO
 congr 2
 omega
 rw[zf (show ¬(65536:UInt32)≤a by rw[UInt32.le_iff_toNat_le];exact h),B0]
 have:=i6 a zO 0 zO
 rw[show((0:Nat):Int)=0 from rfl,Nat.zero_add]at this
 exact this
theorem Wv{a b L:Nat}:a ^^^ b<2^L↔a / 2^L=b / 2^L:=by
 constructor
 intro h
 have h1:(a ^^^ b) / 2^L=0:=Nat.div_eq_of_lt h
 have h2:(a / 2^L) ^^^ (b / 2^L)=0:=by rw[←Nat.xor_div_two_pow];exact h1
 calc a / 2^L=a / 2^L ^^^ (b / 2^L ^^^ b / 2^L):=by rw[Nat.xor_self,Nat.xor_zero]
  _=b / 2^L:=by rw[←Nat.xor_assoc,h2,Nat.zero_xor]
 intro h
 have h2:(a ^^^ b) / 2^L=0:=by rw[Nat.xor_div_two_pow,h,Nat.xor_self]
 exact(Nat.div_eq_zero_iff_lt (Nat.two_pow_pos L)).1 h2
theorem gF{a b L:Nat}:a ||| b<2^L↔a<2^L∧b<2^L:=by
 constructor
 intro h
 exact⟨Nat.lt_of_le_of_lt Nat.left_le_or h,Nat.lt_of_le_of_lt Nat.right_le_or h⟩
 intro h
 exact Nat.or_lt_two_pow h.1 h.2
theorem gY{L:Nat}(h:L≤31):(shl32 1 L).toNat=2^L:=by
 simp only[shl32,UInt32.toNat_ofNat',Nat.min_eq_left (show L≤32 by omega)]
 have:2^L≤2^31:=Nat.pow_le_pow_right zD h
 rw[show(1:UInt32).toNat=1 from rfl,Nat.one_mul]
 exact Nat.mod_eq_of_lt (Nat.lt_of_le_of_lt this zD)
theorem sP{L:Nat}(h:L≤31):(shl32 1 L-1).toNat=2^L-1:=by
 have h1:=gY h
 have h2:=Nat.two_pow_pos L
 have h3:2^L≤2^31:=Nat.pow_le_pow_right zD h
 rw[UInt32.toNat_sub_of_le _ _ (by rw[UInt32.le_iff_toNat_le,h1];exact h2),h1]
 rfl
theorem jZ{a L:Nat}(hL:L≤32)(ha:a<2^32):a &&& (2^32-2^L)=a / 2^L*2^L:=by
 apply Nat.eq_of_testBit_eq
 intro i
 have hp:=Nat.two_pow_pos L
 have hx:2^L-1<2^32:=by
  have:2^L≤2^32:=Nat.pow_le_pow_right zD hL
  omega
 rw[Nat.testBit_and,show 2^32-2^L=2^32-((2^L-1)+1) by rw[Nat.sub_add_cancel hp],Nat.testBit_two_pow_sub_succ hx,Nat.testBit_two_pow_sub_one,Nat.testBit_mul_two_pow,Nat.testBit_div_two_pow]
 by_cases h1:i<L
 rw[zt h1,zf (show ¬L≤i by omega)]
 simp
 rw[zf h1,zt (show L≤i by omega),Nat.sub_add_cancel zO]
 by_cases h2:i<32
 rw[zt h2];simp
 rw[Nat.testBit_lt_two_pow (Nat.lt_of_lt_of_le ha (Nat.pow_le_pow_right zD zO))]
 simp
theorem TP(a:UInt32){L:Nat}(h:L≤31):(a &&& ~~~(shl32 1 L-1)).toNat=a.toNat / 2^L*2^L:=by
 have h1:=sP h
 have h2:=Nat.two_pow_pos L
 rw[UInt32.toNat_and,UInt32.toNat_not,h1,show UInt32.size-1-(2^L-1)=2^32-2^L by
  show 4294967296-1-(2^L-1)=4294967296-2^L
  omega]
 exact jZ zO a.toNat_lt
theorem Xl(x y:UInt32){L:Nat}(h:L≤31):IR x y (L:Int)=some ⟨x &&& ~~~(shl32 1 L-1),y &&& ~~~(shl32 1 L-1),L⟩:=by
 unfold IR Qq
 rw[if_pos zO,AA,Be]
 rfl
theorem jw{x y u v:UInt32}(hx:x.toNat<2147483648)(hy:y.toNat<2147483648)(hu:u.toNat<2147483648)(hv:v.toNat<2147483648):
  ∃L:Nat,L≤31∧LZ x y u v=some (⟨x &&& ~~~(shl32 1 L-1),y &&& ~~~(shl32 1 L-1),L⟩,0)∧x.toNat / 2^L=u.toNat / 2^L∧y.toNat / 2^L=v.toNat / 2^L∧
   (0<L→x.toNat / 2^(L-1)≠u.toNat / 2^(L-1)∨y.toNat / 2^(L-1)≠v.toNat / 2^(L-1)):=by
 have hn:((x ^^^ u) ||| (y ^^^ v)).toNat=(x.toNat ^^^ u.toNat) ||| (y.toNat ^^^ v.toNat):=by rw[UInt32.toNat_or,UInt32.toNat_xor,UInt32.toNat_xor]
 have hk:∀L,((x ^^^ u) ||| (y ^^^ v)).toNat<2^L↔x.toNat / 2^L=u.toNat / 2^L∧y.toNat / 2^L=v.toNat / 2^L:=fun L=>by
  rw[hn,gF,Wv,Wv]
 have h31:((x ^^^ u) ||| (y ^^^ v)).toNat<2^31:=(hk 31).2 ⟨by omega,by omega⟩
 have hL:=aM h31
 obtain⟨e1,e2⟩:=(hk _).1 (fR ((x ^^^ u) ||| (y ^^^ v)).toNat)
 refine⟨bl ((x ^^^ u) ||| (y ^^^ v)).toNat,hL,?_,e1,e2,fun h0=>?_⟩
 unfold LZ
 have hm:decide (2147483648≤max (max (max x y) u) v)=false:=by
  rw[decide_eq_false_iff_not,UInt32.le_iff_toNat_le,Ls,Ls,Ls]
  show ¬(2147483648≤_)
  omega
 rw[hm,B0,jy,AA,Xl x y hL,AA,Xl u v hL,AA]
 have ex:x &&& ~~~(shl32 1 (bl ((x ^^^ u) ||| (y ^^^ v)).toNat)-1)=u &&& ~~~(shl32 1 (bl ((x ^^^ u) ||| (y ^^^ v)).toNat)-1):=UInt32.toNat_inj.1 (by rw[TP x hL,TP u hL,e1])
 have ey:y &&& ~~~(shl32 1 (bl ((x ^^^ u) ||| (y ^^^ v)).toNat)-1)=v &&& ~~~(shl32 1 (bl ((x ^^^ u) ||| (y ^^^ v)).toNat)-1):=UInt32.toNat_inj.1 (by rw[TP y hL,TP v hL,e2])
 simp only[ex,ey,decide_true,Bool.and_self,Bool.not_true,B0]
 have hge:=lH h0
 have:¬((x ^^^ u) ||| (y ^^^ v)).toNat<2^(bl ((x ^^^ u) ||| (y ^^^ v)).toNat-1):=zO
 rw[hk]at this
 exact Classical.not_and_iff_not_or_not.1 this
end

section
def qd(L:Nat)(r:Ak):Nat:=(r.x.toNat / 2^(L-1))%2+2*((r.y.toNat / 2^(L-1))%2)
structure AR(c:Cp)(l:List Ak)(L:Nat):Prop where
 lev:c.lev=(L:Int)
 le:L≤31
 cx:c.x.toNat%2^L=0
 cy:c.y.toNat%2^L=0
 lx:c.x.toNat<2147483648
 ly:c.y.toNat<2147483648
 inn:∀r∈l,r.x.toNat / 2^L=c.x.toNat / 2^L∧r.y.toNat / 2^L=c.y.toNat / 2^L
 two:0<L→∃r∈l,∃s∈l,qd L r≠qd L s
theorem TS{r:Ak}(h:Jw r=true):r.x.toNat<2147483648∧r.y.toNat<2147483648∧r.txt.length≤16:=by
 unfold Jw at h
 simp only[Bool.and_eq_true,decide_eq_true_eq]at h
 have:=UInt32.lt_iff_toNat_lt.1 h.1
 rw[Ls]at this
 have h2:max r.x.toNat r.y.toNat<2147483648:=this
 omega
theorem MW{a L:Nat}(h:0<L):a / 2^(L-1) / 2=a / 2^L:=by
 rw[Nat.div_div_eq_div_mul,←Nat.pow_succ,Nat.succ_eq_add_one,Nat.sub_add_cancel h]
theorem aL{n:Nat}{l:List Ak}(hl:l≠[])(hn:l.length<n)(hb:l.length≤1000000)(ok:∀r∈l,Jw r=true):∃c L,IV n l=some c∧AR c l L:=by
 have key:∀(T S:List Ak) (x y u v:UInt32),l=S++T→(∀r∈S,x.toNat≤r.x.toNat∧r.x.toNat≤u.toNat∧y.toNat≤r.y.toNat∧r.y.toNat≤v.toNat)→(∃r∈l,r.x=x)→(∃r∈l,r.y=y)→(∃r∈l,r.x=u)→(∃r∈l,r.y=v)→
   ∀m,T.length<m→∃c L,GA l m (x,y,u,v,(S.length:Int))=some c∧AR c l L:=by
  intro T
  induction T with
  | nil=>
   intro S x y u v hS hin hx hy hu hv m hm
   obtain⟨m,rfl⟩:∃k,m=k+1:=⟨m-1,by omega⟩
   simp only[List.append_nil]at hS
   subst hS
   obtain⟨rx,hrx,ex⟩:=hx
   obtain⟨ry,hry,ey⟩:=hy
   obtain⟨ru,hru,eu⟩:=hu
   obtain⟨rv,hrv,ev⟩:=hv
   have lx:=(TS (ok rx hrx)).1
   have ly:=(TS (ok ry hry)).2.1
   have lu:=(TS (ok ru hru)).1
   have lv:=(TS (ok rv hrv)).2.1
   rw[ex]at lx
   rw[ey]at ly
   rw[eu]at lu
   rw[ev]at lv
   obtain⟨L,hL,hle,d1,d2,d3⟩:=jw lx ly lu lv
   have hp:=Nat.two_pow_pos L
   have hcx:=TP x hL
   have hcy:=TP y hL
   refine⟨⟨x &&& ~~~(shl32 1 L-1),y &&& ~~~(shl32 1 L-1),L⟩,L,?_,⟨rfl,hL,?_,?_,?_,?_,fun r hr=>?_,fun h0=>?_⟩⟩
   show Eh l (GA l m) _ _ _ _ _=_
   unfold Eh
   dsimp only
   rw[zf zO,B0]
   unfold J3
   rw[hle,AA]
   show(x &&& ~~~(shl32 1 L-1)).toNat%2^L=0
   rw[hcx]
   exact Nat.mul_mod_left _ _
   show(y &&& ~~~(shl32 1 L-1)).toNat%2^L=0
   rw[hcy]
   exact Nat.mul_mod_left _ _
   show(x &&& ~~~(shl32 1 L-1)).toNat<_
   rw[hcx]
   exact Nat.lt_of_le_of_lt (Nat.div_mul_le_self _ _) lx
   show(y &&& ~~~(shl32 1 L-1)).toNat<_
   rw[hcy]
   exact Nat.lt_of_le_of_lt (Nat.div_mul_le_self _ _) ly
   show r.x.toNat / 2^L=(x &&& ~~~(shl32 1 L-1)).toNat / 2^L∧r.y.toNat / 2^L=(y &&& ~~~(shl32 1 L-1)).toNat / 2^L
   rw[hcx,hcy,Nat.mul_div_cancel _ hp,Nat.mul_div_cancel _ hp]
   obtain⟨a1,a2,a3,a4⟩:=hin r hr
   have b1:=Nat.div_le_div_right (c:=2^L) a1
   have b2:=Nat.div_le_div_right (c:=2^L) a2
   have b3:=Nat.div_le_div_right (c:=2^L) a3
   have b4:=Nat.div_le_div_right (c:=2^L) a4
   omega
   have g1:=MW (a:=x.toNat) h0
   have g2:=MW (a:=u.toNat) h0
   have g3:=MW (a:=y.toNat) h0
   have g4:=MW (a:=v.toNat) h0
   rcases d3 h0 with d | d
   refine⟨rx,hrx,ru,hru,fun e=>?_⟩
   unfold qd at e
   rw[ex,eu]at e
   omega
   refine⟨ry,hry,rv,hrv,fun e=>?_⟩
   unfold qd at e
   rw[ey,ev]at e
   omega
  | cons r T ih=>
   intro S x y u v hS hin hx hy hu hv m hm
   obtain⟨m,rfl⟩:∃k,m=k+1:=⟨m-1,by omega⟩
   have hlen:l.length=S.length+(T.length+1):=by rw[hS];simp
   have hr:r∈l:=by rw[hS];simp
   have n1:BB l (S.length:Int)=some r:=by
    rw[Lm rfl,hS]
    simp
   have hmin:∀a b:UInt32,min a b=a∨min a b=b:=fun a b=>by
    show(if a≤b then a else b)=a∨(if a≤b then a else b)=b
    split
    exact .inl rfl
    exact .inr rfl
   have hmax:∀a b:UInt32,max a b=a∨max a b=b:=fun a b=>by
    show(if a≤b then b else a)=a∨(if a≤b then b else a)=b
    split
    exact .inr rfl
    exact .inl rfl
   obtain⟨c,L,hc,hA⟩:=ih (S++[r]) (min x r.x) (min y r.y) (max u r.x) (max v r.y) (by rw[hS];simp) (fun q hq=>by
    rw[Y0,Y0,Ls,Ls]
    rcases List.mem_append.1 hq with hq | hq
    have:=hin q hq
    omega
    rw[List.mem_singleton.1 hq]
    omega) (by
    rcases hmin x r.x with e | e<;>rw[e]
    exact hx
    exact⟨r,hr,rfl⟩) (by
    rcases hmin y r.y with e | e<;>rw[e]
    exact hy
    exact⟨r,hr,rfl⟩) (by
    rcases hmax u r.x with e | e<;>rw[e]
    exact hu
    exact⟨r,hr,rfl⟩) (by
    rcases hmax v r.y with e | e<;>rw[e]
    exact hv
    exact⟨r,hr,rfl⟩) m (by simp at hm;omega)
   refine⟨c,L,?_,hA⟩
   show Eh l (GA l m) _ _ _ _ _=_
   unfold Eh
   dsimp only
   rw[zt zO,Cs,n1,AA,Be,Be,Be,Be,Cm zO zO]
   rw[show((S++[r]).length:Int)=(S.length:Int)+1 by simp only[List.length_append,List.length_singleton];omega]at hc
   exact hc
 obtain⟨r0,l0,rfl⟩:∃r0 l0,l=r0::l0:=by
  cases l with
  | nil=>exact absurd rfl hl
  | cons r0 l0=>exact⟨r0,l0,rfl⟩
 obtain⟨c,L,hc,hA⟩:=key (r0::l0) [] r0.x r0.y r0.x r0.y rfl zS ⟨r0,by simp,rfl⟩ ⟨r0,by simp,rfl⟩ ⟨r0,by simp,rfl⟩ ⟨r0,by simp,rfl⟩ n hn
 refine⟨c,L,?_,hA⟩
 unfold IV
 have n0:BB (r0::l0) 0=some r0:=rfl
 rw[n0,AA,AA,AA,AA]
 exact hc
theorem size_eq{c:Cp}{L:Nat}(h:c.lev=(L:Int)):Hn c=some (shl64 1 L):=by
 unfold Hn Qq
 rw[h,if_pos zO,AA,Be]
 rfl
theorem Yt{L:Nat}(h:L≤31):(shl64 1 L).toNat=2^L:=by
 simp only[shl64,UInt64.toNat_ofNat',Nat.min_eq_left (show L≤64 by omega)]
 have:2^L≤2^31:=Nat.pow_le_pow_right zD h
 rw[show(1:UInt64).toNat=1 from rfl,Nat.one_mul]
 exact Nat.mod_eq_of_lt (Nat.lt_of_le_of_lt this zD)
theorem mD{L:Nat}(h:L≤31):(shl64 1 L-1).toUInt32.toNat=2^L-1:=by
 have h1:=Yt h
 have h2:=Nat.two_pow_pos L
 have h3:2^L≤2^31:=Nat.pow_le_pow_right zD h
 rw[UInt64.toNat_toUInt32,UInt64.toNat_sub_of_le _ _ (by rw[UInt64.le_iff_toNat_le,h1];exact h2),h1]
 show(2^L-1)%4294967296=_
 exact Nat.mod_eq_of_lt zO
theorem YA{c:Cp}{L:Nat}(h:c.lev=(L:Int))(hL:L≤31)(hx:c.x.toNat%2^L=0)(hy:c.y.toNat%2^L=0)(lx:c.x.toNat<2147483648)(ly:c.y.toNat<2147483648):Oh c=true:=by
 unfold Oh
 rw[h,show(decide ((L:Int)<0)||decide (31<(L:Int)))=false by simp;omega,B0,Int.toNat_natCast,Bool.and_eq_true,decide_eq_true_eq,decide_eq_true_eq]
 constructor
 apply UInt32.toNat_inj.1
 rw[UInt32.toNat_and,mD hL,UInt32.toNat_or,Nat.and_two_pow_sub_one_eq_mod,Nat.or_mod_two_pow,hx,hy]
 rfl
 rw[UInt32.lt_iff_toNat_lt,Ls]
 show max _ _<2147483648
 omega
theorem AR.ok{c:Cp}{l:List Ak}{L:Nat}(A:AR c l L):Oh c=true:=YA A.lev A.le A.cx A.cy A.lx A.ly
theorem VW{a P:Nat}(hP:a%P=0)(ha:a<2147483648)(hd:∃k,k*P=2147483648):a+P≤2147483648:=by
 obtain⟨k,hk⟩:=hd
 have h1:a=a / P*P:=by
  have:=Nat.div_add_mod a P
  rw[hP,Nat.add_zero,Nat.mul_comm]at this
  exact this.symm
 have h2:a / P<k:=by
  rcases Nat.lt_or_ge (a / P) k with h | h
  exact h
  have:=Nat.mul_le_mul_right P h
  omega
 have h3:(a / P+1)*P≤k*P:=Nat.mul_le_mul_right P h2
 rw[Nat.add_mul,Nat.one_mul]at h3
 omega
theorem RR{L:Nat}(h:L≤31):∃k,k*2^L=2147483648:=⟨2^(31-L),by rw[←Nat.pow_add,Nat.sub_add_cancel h]⟩
theorem d7{a q P:Nat}(hP:0<P)(hq:q%P=0):(q≤a∧a≤q+(P-1))↔a / P=q / P:=by
 have h1:q=q / P*P:=by
  have:=Nat.div_add_mod q P
  rw[hq,Nat.add_zero,Nat.mul_comm]at this
  exact this.symm
 have h2:=Nat.div_add_mod a P
 have h3:=Nat.mod_lt a hP
 constructor
 rintro⟨g1,g2⟩
 have g3:q / P≤a / P:=Nat.div_le_div_right g1
 have g4:a / P<q / P+1:=by
  refine(Nat.div_lt_iff_lt_mul hP).2 ?_
  rw[Nat.add_mul,Nat.one_mul,←h1]
  omega
 omega
 intro g
 rw[g,Nat.mul_comm,←h1]at h2
 omega
theorem dW{q:Cp}{M:Nat}(x y:UInt32)(h:q.lev=(M:Int))(hM:M≤31)(hx:q.x.toNat%2^M=0)(hy:q.y.toNat%2^M=0)(lx:q.x.toNat<2147483648)(ly:q.y.toNat<2147483648):
  MX q x y=some (decide (x.toNat / 2^M=q.x.toNat / 2^M)&&decide (y.toNat / 2^M=q.y.toNat / 2^M)):=by
 have hp:=Nat.two_pow_pos M
 have mx:=VW hx lx (RR hM)
 have my:=VW hy ly (RR hM)
 have hf:=mD hM
 have ex:(q.x+(shl64 1 M-1).toUInt32).toNat=q.x.toNat+(2^M-1):=by rw[UInt32.toNat_add,hf];omega
 have ey:(q.y+(shl64 1 M-1).toUInt32).toNat=q.y.toNat+(2^M-1):=by rw[UInt32.toNat_add,hf];omega
 unfold MX
 rw[QF,YA h hM hx hy lx ly,AA]
 unfold Pv RD Kr
 rw[size_eq h]
 simp only[AA,Be,It,Cs]
 congr 1
 rw[Bool.eq_iff_iff]
 simp only[Bool.and_eq_true,decide_eq_true_eq,UInt32.le_iff_toNat_le,UInt32.lt_iff_toNat_lt,Ls,ex,ey,←d7 hp hx,←d7 hp hy]
 constructor
 rintro⟨⟨⟨⟨_,h1⟩,h2⟩,h3⟩,h4⟩
 exact⟨⟨h1,h2⟩,h3,h4⟩
 rintro⟨⟨h1,h2⟩,h3,h4⟩
 refine⟨⟨⟨⟨⟨⟨by omega,by omega⟩,?_⟩,h1⟩,h2⟩,h3⟩,h4⟩
 show max _ _<2147483648
 omega
theorem kc{c:Cp}{l:List Ak}{L:Nat}(A:AR c l L)(h0:0<L){r:Ak}(hr:r∈l):Fr c r.x r.y=some ((qd L r:Int),0):=by
 have hL:=A.le
 have hp:=Nat.two_pow_pos (L-1)
 obtain⟨i1,i2⟩:=A.inn r hr
 have mx:=VW A.cx A.lx (RR hL)
 have my:=VW A.cy A.ly (RR hL)
 have e2:2^L=2^(L-1)*2:=by rw[←Nat.pow_succ,Nat.succ_eq_add_one,Nat.sub_add_cancel h0]
 have hh:(shl64 1 L / 2).toUInt32.toNat=2^(L-1):=by
  rw[UInt64.toNat_toUInt32,UInt64.toNat_div,Yt hL,show(2:UInt64).toNat=2 from rfl,e2,Nat.mul_div_cancel _ zD]
  show _%4294967296=_
  have:2^(L-1)≤2^31:=Nat.pow_le_pow_right zD zO
  exact Nat.mod_eq_of_lt zO
 have hx2:c.x.toNat%2^(L-1)=0:=by
  have:=A.cx
  rw[e2]at this
  rw[←Nat.mod_mul_right_mod c.x.toNat (2^(L-1)) 2,this]
  simp
 have hy2:c.y.toNat%2^(L-1)=0:=by
  have:=A.cy
  rw[e2]at this
  rw[←Nat.mod_mul_right_mod c.y.toNat (2^(L-1)) 2,this]
  simp
 have gx:=MW (a:=c.x.toNat) h0
 have gy:=MW (a:=c.y.toNat) h0
 have rx:=MW (a:=r.x.toNat) h0
 have ry:=MW (a:=r.y.toNat) h0
 have cxe:c.x.toNat / 2^(L-1)%2=0:=by
  have:=A.cx
  rw[e2,Nat.mod_mul]at this
  have h5:2^(L-1)*(c.x.toNat / 2^(L-1)%2)=0:=zO
  rcases Nat.mul_eq_zero.1 h5 with h6 | h6
  omega
  exact h6
 have cye:c.y.toNat / 2^(L-1)%2=0:=by
  have:=A.cy
  rw[e2,Nat.mod_mul]at this
  have h5:2^(L-1)*(c.y.toNat / 2^(L-1)%2)=0:=zO
  rcases Nat.mul_eq_zero.1 h5 with h6 | h6
  omega
  exact h6
 generalize hhd:(shl64 1 L / 2).toUInt32=hf at hh
 
 have c0:∀a:UInt32,(a+hf*0)=a:=fun a=>by simp
 have c1:∀a:UInt32,a.toNat+2^L≤2147483648→(a+hf*1).toNat=a.toNat+2^(L-1):=fun a ha=>by
  rw[UInt32.mul_one,UInt32.toNat_add,hh]
  rw[e2]at ha
  omega
 have m1:∀a:Nat,a%2^(L-1)=0→(a+2^(L-1))%2^(L-1)=0:=fun a ha=>by simp[ha]
 have d1:∀a:Nat,(a+2^(L-1)) / 2^(L-1)=a / 2^(L-1)+1:=fun a=>Nat.add_div_right a hp
 have hlev:wI (c.lev-1)=((L-1:Nat):Int):=by rw[A.lev,Cm zO zO];omega
 have hasq:∀(qx qy:UInt32) (bx by_:Nat),qx.toNat=c.x.toNat+bx*2^(L-1)→qy.toNat=c.y.toNat+by_*2^(L-1)→bx≤1→by_≤1→
   MX ⟨qx,qy,((L-1:Nat):Int)⟩ r.x r.y=some (decide (r.x.toNat / 2^(L-1)%2=bx)&&decide (r.y.toNat / 2^(L-1)%2=by_)):=by
  intro qx qy bx by_ e1 e3 hbx hby
  have hxm:qx.toNat%2^(L-1)=0:=by
   rw[e1,Nat.add_mul_mod_self_right]
   exact hx2
  have hym:qy.toNat%2^(L-1)=0:=by
   rw[e3,Nat.add_mul_mod_self_right]
   exact hy2
  have bxl:bx*2^(L-1)≤2^(L-1):=by
   calc bx*2^(L-1)≤1*2^(L-1):=Nat.mul_le_mul_right _ hbx
    _=2^(L-1):=Nat.one_mul _
  have byl:by_*2^(L-1)≤2^(L-1):=by
   calc by_*2^(L-1)≤1*2^(L-1):=Nat.mul_le_mul_right _ hby
    _=2^(L-1):=Nat.one_mul _
  rw[dW (M:=L-1) r.x r.y rfl zO hxm hym (by rw[e1];omega) (by rw[e3];omega)]
  have f1:qx.toNat / 2^(L-1)=c.x.toNat / 2^(L-1)+bx:=by rw[e1];exact Nat.add_mul_div_right _ _ hp
  have f2:qy.toNat / 2^(L-1)=c.y.toNat / 2^(L-1)+by_:=by rw[e3];exact Nat.add_mul_div_right _ _ hp
  congr 2
  rw[decide_eq_decide]
  show r.x.toNat / 2^(L-1)=qx.toNat / 2^(L-1)↔_
  rw[f1]
  omega
  rw[decide_eq_decide]
  show r.y.toNat / 2^(L-1)=qy.toNat / 2^(L-1)↔_
  rw[f2]
  omega
 unfold Fr cI UY
 rw[AA,QF,A.ok,AA,show(!true||decide (c.lev=0))=false by rw[A.lev];simp;omega,B0,size_eq A.lev,AA]
 have hq:RV (shl64 1 L) 2=some (shl64 1 L / 2):=by
  unfold RV
  rw[if_neg zD]
 rw[hq,AA,AA,hhd]
 unfold E3
 rw[hlev,c0,c0]
 have q00:=hasq c.x c.y 0 0 zS zS zO zO
 have q10:=hasq (c.x+hf*1) c.y 1 0 (by rw[c1 _ mx];omega) zS zO zO
 have q01:=hasq c.x (c.y+hf*1) 0 1 zS (by rw[c1 _ my];omega) zO zO
 have q11:=hasq (c.x+hf*1) (c.y+hf*1) 1 1 (by rw[c1 _ mx];omega) (by rw[c1 _ my];omega) zO zO
 unfold Kt qd
 simp only[TR,I2,q00,q10,q01,q11,AA]
 have bx:=Nat.mod_two_eq_zero_or_one (r.x.toNat / 2^(L-1))
 have by_:=Nat.mod_two_eq_zero_or_one (r.y.toNat / 2^(L-1))
 rcases bx with bx | bx<;>rcases by_ with by_ | by_<;>rw[bx,by_]<;>rfl
end

section
inductive Ue {α β:Type} (R:α→β→Prop):List α→List β→Prop
 | nil:Ue R [] []
 | cons {a b xs ys}:R a b→Ue R xs ys→Ue R (a::xs) (b::ys)
theorem Ue.length{α β:Type}{R:α→β→Prop}{xs:List α}{ys:List β}(h:Ue R xs ys):xs.length=ys.length:=by
 induction h with
 | nil=>rfl
 | cons _ _ ih=>simp[ih]
def P5(L:Nat)(l:List Ak):List (List Ak):=[l.filter fun r=>decide (qd L r=0),l.filter fun r=>decide (qd L r=1),l.filter fun r=>decide (qd L r=2),l.filter fun r=>decide (qd L r=3)]
def ND(L:Nat)(l:List Ak):List (List Ak):=(P5 L l).filter fun p => !p.isEmpty
theorem gP(L:Nat)(r:Ak):qd L r<4:=by
 unfold qd
 omega
theorem Zv{c:Cp}{l:List Ak}{L:Nat}(A:AR c l L)(h0:0<L):∀(T:List Ak) (p:P4),(∀r∈T,r∈l)→p.1.length+p.2.1.length+p.2.2.1.length+p.2.2.2.length+T.length≤100000→
  MM c T p=some (p.1++T.filter (fun r=>decide (qd L r=0)),p.2.1++T.filter (fun r=>decide (qd L r=1)),p.2.2.1++T.filter (fun r=>decide (qd L r=2)),p.2.2.2++T.filter (fun r=>decide (qd L r=3)))
 | [],p,_,_=>by simp[MM]
 | r::T,p,hT,hb=>by
  simp only[List.length_cons]at hb
  have hw:=kc A h0 (hT r zS)
  have h4:=gP L r
  have ih:=fun p hp=>Zv A h0 T p (fun q hq=>hT q (by simp[hq])) hp
  unfold MM TQ
  rw[hw,AA]
  dsimp only
  rcases(show qd L r=0∨qd L r=1∨qd L r=2∨qd L r=3 by omega)with e | e | e | e
  rw[e,if_pos (show((0:Nat):Int)=0 from rfl),Do zQ zQ,AA,AA,ih _ zQ]
  simp[e]
  rw[e,if_neg zD,if_pos (show((1:Nat):Int)=1 from rfl),Do zQ zQ,AA,AA,ih _ zQ]
  simp[e]
  rw[e,if_neg zD,if_neg zD,if_pos (show((2:Nat):Int)=2 from rfl),Do zQ zQ,AA,AA,ih _ zQ]
  simp[e]
  rw[e,if_neg zD,if_neg zD,if_neg zD,if_pos (show((3:Nat):Int)=3 from rfl),Do zQ zQ,AA,AA,ih _ zQ]
  simp[e]
theorem cH(L:Nat)(l:List Ak):(P5 L l).flatten.Perm l:=by
 unfold P5
 simp only[List.flatten_cons,List.flatten_nil,List.append_nil]
 induction l with
 | nil=>exact List.Perm.refl _
 | cons r l ih=>
  have h4:=gP L r
  rcases(show qd L r=0∨qd L r=1∨qd L r=2∨qd L r=3 by omega)with e | e | e | e<;>simp only[List.filter_cons,e,decide_true,if_true]<;>simp only[show decide ((0:Nat)=1)=false from rfl,show decide ((0:Nat)=2)=false from rfl,show decide ((0:Nat)=3)=false from rfl,show decide ((1:Nat)=0)=false from rfl,show decide ((1:Nat)=2)=false from rfl,show decide ((1:Nat)=3)=false from rfl,show decide ((2:Nat)=0)=false from rfl,show decide ((2:Nat)=1)=false from rfl,show decide ((2:Nat)=3)=false from rfl,show decide ((3:Nat)=0)=false from rfl,show decide ((3:Nat)=1)=false from rfl,show decide ((3:Nat)=2)=false from rfl,Bool.false_eq_true,if_false]
  all_goals
   refine List.perm_iff_count.2 fun x=>?_
   have:=List.perm_iff_count.1 ih x
   simp only[List.count_append,List.count_cons]at this ⊢
   omega
theorem VD(ps:List (List Ak)):(ps.filter fun p => !p.isEmpty).flatten=ps.flatten:=by
 induction ps with
 | nil=>rfl
 | cons p ps ih=>
  cases p with
  | nil=>simpa using ih
  | cons r p=>simp[ih]
theorem Wo(L:Nat)(l:List Ak):(ND L l).flatten.Perm l:=by
 unfold ND
 rw[VD]
 exact cH L l
theorem RS{L:Nat}{l p:List Ak}(h:p∈ND L l):p≠[]∧∃i,p=l.filter fun r=>decide (qd L r=i):=by
 unfold ND at h
 obtain⟨h1,h2⟩:=List.mem_filter.1 h
 refine⟨by simpa using h2,?_⟩
 unfold P5 at h1
 simp only[List.mem_cons,List.not_mem_nil,or_false]at h1
 rcases h1 with rfl | rfl | rfl | rfl
 exact⟨0,rfl⟩
 exact⟨1,rfl⟩
 exact⟨2,rfl⟩
 exact⟨3,rfl⟩
theorem RT{L:Nat}{l p:List Ak}(h:p∈ND L l):p.Sublist l:=by
 obtain⟨_,i,rfl⟩:=RS h
 exact List.filter_sublist ..
theorem UX(L:Nat)(l:List Ak):(ND L l).length≤4:=by
 unfold ND
 exact Nat.le_trans (List.length_filter_le ..) (Nat.le_refl 4)
theorem YI{L:Nat}{l:List Ak}{r:Ak}(h:r∈l):(l.filter fun s=>decide (qd L s=qd L r))∈ND L l:=by
 have h4:=gP L r
 unfold ND
 refine List.mem_filter.2 ⟨?_,?_⟩
 unfold P5
 rcases(show qd L r=0∨qd L r=1∨qd L r=2∨qd L r=3 by omega)with e | e | e | e<;>rw[e]<;>simp
 have:r∈l.filter fun s=>decide (qd L s=qd L r):=List.mem_filter.2 ⟨h,by simp⟩
 cases hx:l.filter fun s=>decide (qd L s=qd L r)with
 | nil=>rw[hx]at this;simp at this
 | cons a b=>rfl
theorem RU{c:Cp}{l:List Ak}{L:Nat}(A:AR c l L)(h0:0<L):2≤(ND L l).length∧∀p∈ND L l,p.length<l.length:=by
 obtain⟨r,hr,s,hs,hne⟩:=A.two h0
 have h1:=YI (L:=L) hr
 have h2:=YI (L:=L) hs
 have hd:(l.filter fun q=>decide (qd L q=qd L r))≠(l.filter fun q=>decide (qd L q=qd L s)):=by
  intro e
  have:r∈l.filter fun q=>decide (qd L q=qd L r):=List.mem_filter.2 ⟨hr,by simp⟩
  rw[e]at this
  have:=(List.mem_filter.1 this).2
  simp only[decide_eq_true_eq]at this
  exact hne this
 constructor
 rcases hq:ND L l with _ | ⟨a,_ | ⟨b,q⟩⟩
 rw[hq]at h1;simp at h1
 rw[hq]at h1 h2
 simp only[List.mem_singleton]at h1 h2
 exact absurd (h1.trans h2.symm) hd
 simp
 intro p hp
 obtain⟨_,i,rfl⟩:=RS hp
 have:∃q∈l,qd L q≠i:=by
  by_cases e:qd L r=i
  exact⟨s,hs,fun e'=>hne (e.trans e'.symm)⟩
  exact⟨r,hr,e⟩
 obtain⟨q,hq,hqi⟩:=this
 rcases Nat.lt_or_ge (l.filter fun r=>decide (qd L r=i)).length l.length with h | h
 exact h
 have:=(List.filter_sublist (p:=fun r=>decide (qd L r=i)) (l:=l)).eq_of_length_le h
 have h5:=List.filter_eq_self.1 this q hq
 simp only[decide_eq_true_eq]at h5
 exact absurd h5 hqi
def Tr:Nat→List Ak→CW→Prop
 | 0,_,_=>False
 | f+1,l,t=>(l=[]∧t=.mk 0 0 0 [] [])∨(l≠[]∧∃c L,AR c l L∧(((l.length≤4∨L=0)∧t=.mk c.x c.y c.lev l [])∨
   (4<l.length∧0<L∧∃ks,t=.mk c.x c.y c.lev [] ks∧Ue (Tr f) (ND L l) ks)))
theorem Yg{rec_:List Ak→Option CW}{R:List Ak→CW→Prop}:∀(ps:List (List Ak)) (acc:List CW),(∀p∈ps,p≠[]→∃t,rec_ p=some t∧R p t)→acc.length+ps.length≤1000→∃ks,FX rec_ ps acc=some (acc++ks)∧Ue R (ps.filter fun p => !p.isEmpty) ks
 | [],acc,_,_=>⟨[],by simp[FX],.nil⟩
 | p::ps,acc,h,hb=>by
  simp only[List.length_cons]at hb
  unfold FX
  cases p with
  | nil=>
   obtain⟨ks,h1,h2⟩:=Yg ps acc (fun q hq=>h q (by simp[hq])) zO
   exact⟨ks,by simpa using h1,by simpa using h2⟩
  | cons r p=>
   obtain⟨t,ht,hR⟩:=h (r::p) zS zS
   obtain⟨ks,h1,h2⟩:=Yg ps (acc++[t]) (fun q hq=>h q (by simp[hq])) zQ
   refine⟨t::ks,?_,?_⟩
   rw[zt (by simp only[List.length_cons];omega),Cs,ht,AA,Do zQ zQ,AA,h1]
   simp
   simp only[List.filter_cons,List.isEmpty_cons,Bool.not_false,if_true]
   exact .cons hR h2
theorem en{n:Nat}:∀(f:Nat) (l:List Ak),l.length<f→(∀r∈l,Jw r=true)→l.length≤1000→l.length<n→∃t,IL n f l=some t∧Tr f l t
 | 0,l,h,_,_,_=>by omega
 | f+1,l,h,ok,hb,hn=>by
  unfold IL
  rw[if_neg zO]
  by_cases hl:l=[]
  subst hl
  exact⟨.mk 0 0 0 [] [],rfl,.inl ⟨rfl,rfl⟩⟩
  have hp:=List.length_pos_iff.2 hl
  obtain⟨c,L,hc,A⟩:=aL hl hn zO ok
  rw[zf zO,B0,hc,AA]
  by_cases hleaf:l.length≤4∨L=0
  rw[show(decide ((l.length:Int)≤4)||decide (c.lev=0))=true by rw[A.lev];simp;omega,Cs]
  unfold Nu
  rw[Do zQ zQ,AA]
  exact⟨_,rfl,.inr ⟨hl,c,L,A,.inl ⟨hleaf,rfl⟩⟩⟩
  have h0:0<L:=zO
  rw[show(decide ((l.length:Int)≤4)||decide (c.lev=0))=false by rw[A.lev];simp;omega,B0,Zv A h0 l _ (fun r hr=>hr) zQ,AA]
  simp only[List.nil_append]
  obtain⟨_,h2⟩:=RU A h0
  obtain⟨ks,h3,h4⟩:=Yg (rec_:=IL n f) (R:=Tr f) (P5 L l) [] (fun p hp' hne=>by
   have hq:p∈ND L l:=List.mem_filter.2 ⟨hp',by simpa using hne⟩
   have:=h2 p hq
   exact en f p zO (fun r hr=>ok r ((RT hq).subset hr)) zO zO) (by simp[P5])
  unfold P5 at h3
  rw[h3,AA]
  exact⟨_,rfl,.inr ⟨hl,c,L,A,.inr ⟨by omega,h0,ks,by simp,h4⟩⟩⟩
theorem jf{n:Nat}{l:List Ak}(hn:1002≤n)(h:Di l=true):∃t,TK n l=some (t,0)∧IL n n l=some t∧Tr n l t:=by
 have h':=h
 unfold Di at h'
 simp only[Bool.and_eq_true,decide_eq_true_eq]at h'
 have hb:l.length≤1000:=zO
 obtain⟨t,h1,h2⟩:=en (n:=n) n l zO (fun r hr=>List.all_eq_true.1 h'.1.1 r hr) hb zO
 refine⟨t,?_,h1,h2⟩
 unfold TK
 rw[Nz l zO zO,AA,h,Bool.not_true,B0,h1,AA]
end

section
variable {P:Program}{ro:Option Nat}{K:Nat→Prop}{w0:World}{N:Nat}{Q:DQ}{D:List Nat}{l l':Tm}{H H' Hs:List AV}{ops:Array Oper}{items:Hd}
variable {tk:Bool}{o:Oper}{t:Nat}{v:Value}{x y z u:Operand}
theorem oB{b off n c sz:Nat}{k k' k'':IntKind}{i j m:Int}{ty e:TypeId}(p q:Nat)(ho:At ops N l o t (.slice ty x (some y) (some z) (some u)))(hty:P.underlying ty=some (.slice e))(hsz:DP P e=some sz)(hx:Bi l x=some (.slice (some ⟨b,off,none⟩) n c))(hy:Bi l y=some (.int k i))(hz:Bi l z=some (.int k' j))(hu:Bi l u=some (.int k'' m))
(hi:i=(p:Int))(hj:j=(q:Int))(hm:m=(q:Int))(hp:p<q)(hq:q≤c)(h:SL P ro K w0 N ops Hs items Q D ((t,.slice (some ⟨b,off+p*sz,none⟩) (q-p) (q-p))::l) H):SL P ro K w0 N ops Hs (.cons (tk,o) items) Q D l H:=
 SL.val ho rfl (fun a w ha _=>by
  subst hi hj hm
  have hle:p≤q:=Nat.le_of_lt hp
  have hne:¬q=p:=zO
  simp only[execOp,ho.op,Instr.sliceAt,Instr.slice,Option.map]
  simp[ha.eval hx,ha.eval hy,ha.eval hz,ha.eval hu,An hty,Ch hsz,Instr.sliceBounds,Instr.sliceBound,asIntOf,hq,hle,hne,Ci]) h
theorem B6.piece{α:Type}{enc:α→List Value}{sz b off n cap:Nat}{xs:List α}(h:B6 K w0 enc sz (.slice (some ⟨b,off,none⟩) n cap) xs)(p q:Nat)(hpq:p≤q)(hq:q≤xs.length):B6 K w0 enc sz (.slice (some ⟨b,off+p*sz,none⟩) (q-p) (q-p)) ((xs.drop p).take (q-p)):=by
 have hl:((xs.drop p).take (q-p)).length=q-p:=by simp;omega
 refine⟨h.len,?_⟩
 rcases h.at_ with⟨a0,e,rfl⟩ | ⟨b',off',cap',e,hcap,hc⟩
 have:q=0:=by simpa using hq
 subst this
 obtain rfl:p=0:=zO
 exact .inl ⟨_,rfl,by simp⟩
 simp only[Value.slice.injEq,Option.some.injEq,Addr.mk.injEq]at e
 obtain⟨⟨rfl,rfl,_⟩,_,_⟩:=e
 refine .inr ⟨b,off+p*sz,q-p,by rw[hl],by omega,fun j u hu=>?_⟩
 have hfl:(xs.take p).flatMap enc++(((xs.drop p).take (q-p)).flatMap enc++((xs.drop p).drop (q-p)).flatMap enc)=xs.flatMap enc:=by
  rw[←List.flatMap_append,List.take_append_drop,←List.flatMap_append,List.take_append_drop]
 have hj:j<(((xs.drop p).take (q-p)).flatMap enc).length:=(List.getElem?_eq_some_iff.1 hu).1
 have hpl:((xs.take p).flatMap enc).length=p*sz:=by
  rw[JG h.len,List.length_take,Nat.min_eq_left zO]
 have:=hc (p*sz+j) u (by
  rw[←hfl,List.getElem?_append_right zO,hpl,Nat.add_sub_cancel_left,List.getElem?_append_left hj]
  exact hu)
 rw[Nat.add_assoc]
 exact this
end

section
variable {K:Nat→Prop}{w0:World}{H:List AV}
theorem GK{A B R M:List AV}{w:World}(h:BX K w0 ((A++(B++R))++M) w):BX K w0 ((B++(A++R))++M) w:=by
 refine h.perm (List.Perm.append_right _ ?_)
 rw[←List.append_assoc,←List.append_assoc]
 exact List.Perm.append_right _ List.perm_append_comm
structure LG where
 out:List A4
 wrong:Int
abbrev Wx(σ:Type):=σ→List UInt8→Option ((BQ×Int)×σ)
def fJ{σ:Type}(T:List UInt32)(fid:FuncId)(cs:Array Value)(C:Value→σ→List AV)(wh:Wx σ):Prop:=
 ∀(K:Nat→Prop) (w0:World) (H:List AV) (a:Value) (q:σ) (s:List UInt8) (r:(BQ×Int)×σ),Ge K w0 T→wh q s=some r→
  zC K w0 fid (vS s::cs.toList) (C a q) H (fun u M=>u=.tuple #[.agg (Bz r.1.1).toArray,vI r.1.2]∧∃a',M=C a' r.2)
def Yk{σ:Type}(e:List UInt8)(p:LG)(w:BQ×Int×σ):Option (BQ×(LG×σ)):=
 cond (!decide (w.2.1=0)) (some (⟨0,[]⟩,({ p with wrong:=w.2.1 },w.2.2))) ((DR 40 p.out [⟨e,w.1.page,w.1.tag⟩]).bind fun l=>some (w.1,({ p with out:=l },w.2.2)))
def KD{σ:Type}(n:Nat)(wh:Wx σ)(x:Dt)(p:LG)(q:σ):Option (BQ×(LG×σ)):=
 cond (!decide (p.wrong=0)) (some (⟨0,[]⟩,(p,q)))
  ((Ig n x).bind fun e=>cond (decide (e.2=0)) ((wh q e.1).bind fun w=>Yk e.1 p (w.1.1,w.1.2,w.2)) (Yk e.1 p (⟨0,[]⟩,e.2,q)))
abbrev Lp(bp:Nat)(fw vo:Value)(p:LG):AV:=own bp (.cells #[fw,vo,vI p.wrong] 214)
theorem Rh{σ:Type}{C:Value→σ→List AV}{wh:Wx σ}{fid:FuncId}{cs:Array Value}{T:List UInt32}{n bp:Nat}{vo v4 v5 a:Value}{x:Dt}{p:LG}{q:σ}{r:BQ×(LG×σ)}(hcal:AK Tryz.prog fid=true)(hwh:fJ T fid cs C wh)(hS:Ge K w0 T)
(h:KD n wh x p q=some r)(hs4:B6 K w0 AU 4 v4 x.rows)(hs5:B6 K w0 Bz 2 v5 x.kids):
  zC K w0 153 [vP bp 0,.agg #[vI x.kind,Y x.cx,Y x.cy,vI x.lev,v4,v5,Y x.npage,vS x.ntag]] (Lp bp (.func (.func fid) #[] cs) vo p::AB 148 3 vo AS p.out::C a q) H
   (fun u M=>u=.agg (Bz r.1).toArray∧∃vo' a',M=Lp bp (.func (.func fid) #[] cs) vo' r.2.1::AB 148 3 vo' AS r.2.1.out::C a' r.2.2):=by
 unfold KD at h
 refine T3.enter Tryz.func153 rfl rfl ?_
 show SX _ _ _ _ _ _ _ _ _ (Lp bp (.func (.func fid) #[] cs) vo p::AB 148 3 vo AS p.out::(C a q++H))
 refine V ?_
 refine Bc E E zU fun b0=>?_
 refine Al E FT zU fun b1=>?_
 refine U (AG (V (J E (AQ E E (AE E Sh (AF 2 Qo E (Z E BJ (U ?_))))))))
 refine AL h E (fun hc1 h=>?_) fun hc1 h=>?_
 obtain rfl:=zI h
 refine V (B5 [] E OR OQ FT zT E (A5 0 E E E E Ek E E E zT (U (AJ (Ab ?_)))))
 exact Ae (IK E (B9 0 (Bz ⟨0,[]⟩) DK E E E E)) (Ad (M:=_::_::C a q) ⟨E,vo,a,E⟩ fun _ hw=>BX.pick (H:=[_,_,_,_]) hw [2,3] 4 E)
 refine AD h fun e he h=>?_
 refine AI (AH (V (Ap [vI x.kind,Y x.cx,Y x.cy,vI x.lev,v4,v5,Y x.npage,vS x.ntag] E Xi E E (Ah 1 E) (AP 0 pB (X4 he hs4 hs5) E (J E (Ac E E E (Ac E E E (O E (O E (U (V ?_)))))))))))
 refine Al E FT zU fun b2=>?_
 refine U ?_
 refine A9 (α:=BQ×Int×σ×Value) (fun w=>Yk e.1 p (w.1,w.2.1,w.2.2.1)=some r) (fun w=>[(0,vP bp 0),(4,vP b1 0),(5,vS e.1),(6,vI w.2.1),(7,vP b2 0)])
  (fun w=>own b2 (.cells #[Y w.1.page,vS w.1.tag] 146)::own b1 (.cells #[Y 0,vS []] 146)::Lp bp (.func (.func fid) #[] cs) vo p::AB 148 3 vo AS p.out::(C w.2.2.2 w.2.2.1++H)) ?_ (fun w D h=>?_)
 refine V (J E (Z E Bq (U ?_)))
 refine AL h E (fun hc2 h=>?_) fun hc2 h=>?_
 refine AD h fun w hw1 h=>?_
 refine AN (J E (AQ E E (AE E mO (AF 3 tD E (J E ?_)))))
 refine SL.heap (H':=C a q++([_,_,_,_,_]++H)) ?_ (fun _ hw=>GK (A:=[_,_,_,_,_]) (B:=C a q) (R:=H) hw)
 refine Bg (vs:=[_]) (Hin:=C a q) (Hr:=[_,_,_,_,_]++H) E E ⟨E,zT⟩ hcal E E (hwh K w0 _ a q e.1 w hS hw1) ?_
 rintro _ _ ⟨rfl,a1,rfl⟩
 refine⟨trivial,?_⟩
 refine SL.heap ?_ (fun _ hw=>GK (A:=C a1 w.2) (B:=[_,_,_,_,_]) (R:=H) hw)
 refine J E (Ac E E E (Ac E E E (A5 0 E E E E Ek E E E zT (O E (AY ?_)))))
 exact Aq (w.1.1,w.1.2,w.2,a1) h tL (BN [0,1,3,4] 5 E E E)
 refine AI ?_
 exact Aq (⟨0,[]⟩,e.2,q,a) h tL (BN [0,1,3,4] 5 E E E)
 obtain⟨w,we,q1,a1⟩:=w
 unfold Yk at h
 dsimp only at h
 try dsimp only
 refine AG (V (J E (Z E BJ (U ?_))))
 refine AL h E (fun hc3 h=>?_) fun hc3 h=>?_
 obtain rfl:=zI h
 refine V (J E (J E (AQ E E (AE E Sh (A5 2 E E E E eg E E E zT (U (V (B5 [] E OR OQ FT zT E (A5 1 E E E E Ek E E E zT (U (AJ (Ab ?_))))))))))))
 exact Ae (IK E (B9 1 (Bz ⟨0,[]⟩) DK E E E E)) (Ad (M:=_::_::C a1 q1) ⟨E,vo,a1,E⟩ fun _ hw=>BX.pick (H:=[_,_,_,_]) hw [2,3] 4 E)
 refine AD h fun l hl h=>?_
 obtain rfl:=zI h
 refine AI (AH (AG (Av DH [0,2] (CA [(true,0),(true,1),(true,2),(true,3),(true,4),(true,5),(true,6),(true,7),(false,8),(false,9),(true,10),(true,11)] (.last 12 .nil)) zK (J E (J E (AQ E E (AE E YR (AF 1 Pb E (J E (Ap (Bz w) E DK E E (Ah 0 E) ?_))))))))))
 refine B5 [_,_] E mm mj OW ⟨E,E,zT⟩ E ?_
 refine CD [_] rfl Iy JL OW ⟨rfl,trivial⟩ rfl rfl rfl zW rfl rfl (fun _=>⟨⟨1,rfl⟩,⟨3,rfl⟩,trivial⟩) fun b3=>?_
 refine CH AS 3 ([(⟨e.1,w.page,w.tag⟩:A4)]:List A4) E zV E ?_
 refine C5 4 hl (sz:=3) (enc:=AS) zV E Iy JL lL OW E zD E E E E (CL (sz:=3) (enc:=AS) 0 zV E) (by simp[AS,Value.oneCell']) (fun _=>⟨⟨1,E⟩,⟨3,E⟩,zT⟩) fun v3=>?_
 refine AQ E E (AE E YR (BY ?_))
 refine C8 4 E fun hv3 ho3=>?_
 refine EA 3 E E E E nM hv3 ho3 E zT (U (V (Ap (Bz w) E DK E E (Ah 1 E) (A5 2 E E E E Ek E E E zT (U (AJ ?_))))))
 exact Ae (IK E (B9 2 (Bz w) DK E E E E)) (Ad (M:=_::_::C a1 q1) ⟨E,v3,a1,E⟩ fun _ hw=>BX.pick (H:=[_,_,_,_,_]) hw [3,4] 5 E)
end

section
variable {K:Nat→Prop}{w0:World}{H:List AV}
abbrev MD:=Xg×List Ak
def JP(a:MD):List Value:=[a.1.val]
def Ss(b off:Nat)(l:List Ak)(i:Nat):MD:=
 (⟨some ⟨b,off+4*i*4,none⟩,min (4*i+4) l.length-4*i,min (4*i+4) l.length-4*i⟩,(l.drop (4*i)).take (min (4*i+4) l.length-4*i))
def Kd(b off:Nat)(l:List Ak)(n:Nat):List MD:=(List.range n).map (Ss b off l)
def LX(b off:Nat)(l:List Ak):List MD:=Kd b off l ((l.length+3) / 4)
theorem dX{b off n cap:Nat}{l:List Ak}(h:B6 K w0 AU 4 (.slice (some ⟨b,off,none⟩) n cap) l):∀a∈LX b off l,B6 K w0 AU 4 a.1.val a.2:=by
 intro a ha
 obtain⟨i,hi,rfl⟩:=List.mem_map.1 ha
 have hi':=List.mem_range.1 hi
 exact h.piece (4*i) (min (4*i+4) l.length) zO zO
theorem ZN(b off:Nat)(l:List Ak)(n:Nat):Kd b off l (n+1)=Kd b off l n++[Ss b off l n]:=by
 simp[Kd,List.range_succ]
theorem YD(b off:Nat)(l:List Ak)(k:Nat)(h:4*k<l.length):∃suf,LX b off l=Kd b off l k++Ss b off l k::suf:=by
 obtain⟨m,hm⟩:∃m,(l.length+3) / 4=k+1+m:=⟨(l.length+3) / 4-(k+1),by omega⟩
 refine⟨(List.range m).map fun j=>Ss b off l (k+1+j),?_⟩
 rw[LX,hm,Kd,List.range_add,List.map_append,List.map_map,List.range_succ,List.map_append,List.append_assoc]
 rfl
theorem eN{b1 b2 b off cap:Nat}{l:List Ak}{G0:List AV}(hl:l.length≤1048576)(hs:B6 K w0 AU 4 (.slice (some ⟨b,off,none⟩) l.length cap) l)(hcap:l.length≤cap):
  OF Tryz.prog K w0 205 [vP b1 0,vP b2 0] [own b1 (.cells #[.slice (some ⟨b,off,none⟩) l.length cap] 22),own b2 (.cells #[vI 4] 3)] G0 JP (LX b off l):=by
 intro lp J9 X T rc hy h0
 refine T3.enter Tryz.func205 rfl rfl ?_
 show SX _ _ _ _ _ _ _ _ _ (own b1 (.cells #[.slice (some ⟨b,off,none⟩) l.length cap] 22)::own b2 (.cells #[vI 4] 3)::((rc::G0)++T))
 refine V (O E (U (AM ?_)))
 refine SX.mono (BF (α:=Nat×List AV) (fun x=>4*x.1≤l.length+3∧J9 (Kd b off l x.1) x.2) (fun x=>[(0,vY lp),(1,vP b1 0),(2,vP b2 0),(4,vI ((4*x.1:Nat):Int))])
  (fun x=>own b1 (.cells #[.slice (some ⟨b,off,none⟩) l.length cap] 22)::own b2 (.cells #[vI 4] 3)::(x.2++T)) (fun x=>l.length-x.1) (fun x D hp=>?_) (0,rc::G0) ⟨by omega,h0⟩) tL
 obtain⟨k,G⟩:=x
 obtain⟨hk,hJ⟩:=hp
 dsimp only at hk hJ ⊢
 refine AG (V (J E (AF 0 Fa E (IQ E Cz E (Z E A8 (U ?_))))))
 refine Ax E (fun hc1=>?_) (fun hc1=>?_)
 have hlt:4*k<l.length:=by
  have:=of_decide_eq_true hc1
  omega
 clear hc1
 obtain⟨suf,hsp⟩:=YD b off l k hlt
 refine AI (AH (AG (AM (AG (Av DH [0,1] (C7 [(true,0),(true,1),(true,2),(true,3),(true,4),(true,5),(true,6)]) zK (AF 1 FJ E (AF 0 Fa E (J E (Xc (4*k) E Cz Dq E E E zO zO (IQ E Cz E (Xa E E E (O E (U (V ?_))))))))))))))
 refine J E (AF 0 Fa E (J E (J E (J E (Z E (Bf zO zO) (J E (J E ?_)))))))
 refine Z E (Bf zO zO) (oB (4*k) (min (4*k+4) l.length) E Cz Dq E E E E E zO zO zO zO ?_)
 refine HK (M2:=[_,_]) (G:=G) (T:=T) (vs:=[_]) (ok:=fun G1=>J9 (Kd b off l (k+1)) G1) (no:=X) E E ⟨E,zT⟩ E ?_ (fun bb G1 hG1=>⟨zT,?_⟩)
 intro M
 have:=hy (Kd b off l k) (Ss b off l k) suf hsp G hJ M
 rw[←ZN]at this
 exact this
 refine CT E E (U ?_)
 refine Ax E (fun hc3=>?_) (fun hc3=>?_)
 obtain rfl:bb=false:=by simpa using hc3
 refine AJ (BC (Ab (EB (BC ?_))))
 exact Ae (Dr E) (Ad (M:=G1) (.inr hG1) fun _ h=>h.skip [_,_])
 obtain rfl:bb=true:=by simpa using hc3
 refine AI (Aj (AH (AN (J E (AF 1 FJ E (Z E (Bf zO zO) ?_))))))
 refine Ai (u:=vI ((4*(k+1):Nat):Int)) E E (congrArg vI zO) ?_
 refine AY ?_
 exact Au (k+1,G1) ⟨by omega,hG1⟩ (by dsimp only;omega) tL (BN [0,1] 2 E E E)
 have hge:l.length≤4*k:=by
  have:=of_decide_eq_false hc1
  omega
 have hkk:(l.length+3) / 4=k:=zO
 refine A1 (A6 (Ba (A7 ?_)))
 exact DF (Dr E) (Ad (M:=G) (.inl (by rw[LX,hkk];exact hJ)) fun _ h=>h.skip [_,_])
end

section
variable {K:Nat→Prop}{w0:World}{H:List AV}
theorem fO{α:Type}{by_:Nat}{xs:List α}{x:α}(h:xs.length+1≤1048576)(hb:by_≤1024):DR by_ xs [x]=some (xs++[x]):=by
 have h1:(xs.length+1)*by_≤1048576*1024:=Nat.mul_le_mul h hb
 rw[DR,if_pos ⟨by simp only[List.length_cons,List.length_nil,Nat.zero_add];omega,by simp only[List.length_cons,List.length_nil,Nat.zero_add];omega⟩]
theorem jk(a:MD)(u:Value)(h:u∈JP a):u.oneCell'=true:=by
 obtain rfl:u=a.1.val:=by simpa[JP]using h
 rfl
theorem nY{v:Value}:zC K w0 175 [v,vI 4] [] H (fun u M=>∃b1 b2:Nat,u=.func (.func 205) #[] #[vP b1 0,vP b2 0]∧M=[own b1 (.cells v.cells 22),own b2 (.cells #[vI 4] 3)]):=by
 refine T3.enter Tryz.func175 rfl rfl ?_
 refine V ?_
 refine Bc E E zU fun b1=>?_
 refine Bc E E zU fun b2=>?_
 refine O E (U (AG (V (AF 0 FJ E (Z E A8 (U (Cx E (AI (AH (V ?_))))))))))
 refine GZ (fv:=#[]) (cv:=#[_,_]) E E E ?_
 refine O E (U (AJ ?_))
 exact Bm [1,0] 2 (C1 E E) E E ⟨_,_,E,E⟩
theorem cd{f:FuncId}{cap:List Value}{Hit:List AV}{xs:List MD}(hcal:AK Tryz.prog f=true)(hn:xs.length≤1048576)(hseq:∀G0,OF Tryz.prog K w0 f cap Hit G0 JP xs):
  zC K w0 204 [.slice none 0 0,.func (.func f) #[] cap.toArray] Hit H (fun u M=>∃v0:Value,u=v0∧M=[AB 22 1 v0 JP xs]):=by
 refine T3.enter Tryz.func204 rfl rfl ?_
 refine V ?_
 refine Bc E E zU fun b0=>?_
 refine O E (U (dG 22 1 JP (SX.pick [1,0] 2 (AG (V (J E (U (AM ?_))))))))
 refine SX.heap (MT (enc:=JP) xs (G0:=own b0 (.cells #[zN] 272)::AB 22 1 zN JP []::H) (fun pre G=>∃vr:Value,G=own b0 (.cells #[vr] 272)::AB 22 1 vr JP pre::H) (fun _ _=>False) E hcal E zV (hseq _) E ⟨_,E⟩ (fun pre x suf G hxs hJ r lp Rest=>?_) (fun G D hJ=>?_) (fun c G D hX=>hX.elim)) (fun _ hw=>GK (A:=[_,_]) (B:=Hit) (R:=H) hw)
 obtain⟨vr,rfl⟩:=hJ
 have hlen:pre.length+1≤1048576:=by
  have:=congrArg List.length hxs
  simp only[List.length_append,List.length_cons]at this
  omega
 refine AN (O E (AY ?_))
 refine Jz (G:=own b0 (.cells #[vr] 272)::AB 22 1 vr JP pre::H) ?_
 refine AM (AN (AF 0 cN E (J E ?_)))
 refine CD [_] rfl WM Jf fA ⟨rfl,trivial⟩ rfl rfl rfl (by intro v hv;simp only[List.mem_cons,List.not_mem_nil,or_false]at hv;rcases hv with rfl;rfl) rfl rfl zU fun b1=>?_
 refine CH JP 1 ([x]:List MD) E zV E ?_
 refine C5 2 (fO hlen (by decide:24≤1024)) (sz:=1) (enc:=JP) zV E WM Jf t9 fA E zD E E E E (CL (sz:=1) (enc:=JP) 0 zV E) jk zU fun v3=>?_
 refine C8 2 E fun hv3 ho3=>?_
 refine EA 1 E E E E tK hv3 ho3 E zT (AY (Aj ?_))
 exact Hg ⟨v3,E⟩ (BN [1,2] 3 E E E)
 obtain⟨vr,rfl⟩:=hJ
 refine Aj (AH (V (AF 0 cN E (O E (U (AJ ?_))))))
 exact Bm [1] 2 (C1 E E) E E ⟨_,E,E⟩
theorem gh{f:FuncId}{cap:List Value}{Hit:List AV}{xs:List MD}(hcal:AK Tryz.prog f=true)(hn:xs.length≤1048576)(hseq:∀G0,OF Tryz.prog K w0 f cap Hit G0 JP xs):
  zC K w0 174 [.func (.func f) #[] cap.toArray] Hit H (fun u M=>∃v0:Value,u=v0∧M=[AB 22 1 v0 JP xs]):=by
 refine T3.enter Tryz.func174 rfl rfl ?_
 refine V (O E (U (V (J E ?_))))
 refine Bg (vs:=[_,_]) (Hin:=Hit) (Hr:=_) E E ⟨E,E,zT⟩ pW E E (cd hcal hn hseq) ?_
 rintro v1 _ ⟨_,rfl,rfl⟩
 refine⟨trivial,?_⟩
 refine O E (U (AJ ?_))
 exact Bm [0] 1 (C1 E E) E E ⟨_,E,E⟩
end

section
variable {K:Nat→Prop}{w0:World}{H:List AV}
def FI{α:Type}(xs:List α):List (Int×α):=(xs.zipIdx.map fun p=>((p.2:Int),p.1)).reverse
theorem Ji{α:Type}(xs:List α):(FI xs).length=xs.length:=by simp[FI]
theorem Xm{α:Type}(xs:List α)(k:Nat)(h:k<xs.length):(FI xs)[k]'(by rw[Ji];exact h)=(((xs.length-1-k:Nat):Int),xs[xs.length-1-k]' zO):=by
 simp[FI,List.getElem_reverse,List.getElem_map,List.getElem_zipIdx]
theorem Z4{α:Type}(ys:List α)(k:Nat)(h:k<ys.length):ys=ys.take k++ys[k]::ys.drop (k+1):=by
 rw[←List.drop_eq_getElem_cons h,List.take_append_drop]
theorem Yw{α:Type}(ys:List α)(k:Nat)(h:k<ys.length):ys.take k++[ys[k]]=ys.take (k+1):=by
 rw[List.take_add_one,List.getElem?_eq_getElem h]
 rfl
def lw(a:Int×MD):List Value:=[vI a.1,a.2.1.val]
theorem qf{bx:Nat}{va:Value}{xs:List MD}{G0:List AV}(hn:xs.length≤1048576):
  OF Tryz.prog K w0 206 [vP bx 0] [own bx (.cells #[va] 272),AB 22 1 va JP xs] G0 lw (FI xs):=by
 intro lp J9 X T rc hy h0
 refine T3.enter Tryz.func206 rfl rfl ?_
 show SX _ _ _ _ _ _ _ _ _ (own bx (.cells #[va] 272)::AB 22 1 va JP xs::((rc::G0)++T))
 refine V ?_
 refine C8 1 E fun hva hoa=>?_
 refine AF 0 cN E (Dj 1 E WM E E (Z E (EF zO zO) (O E (U (AM ?_)))))
 refine SX.mono (BF (α:=Nat×List AV) (fun x=>x.1≤xs.length∧J9 ((FI xs).take x.1) x.2) (fun x=>[(0,vY lp),(1,vP bx 0),(3,vI ((xs.length:Int)-1-(x.1:Int)))])
  (fun x=>own bx (.cells #[va] 272)::AB 22 1 va JP xs::(x.2++T)) (fun x=>xs.length-x.1) (fun x D hp=>?_) (0,rc::G0) ⟨Nat.zero_le _,h0⟩) (by simpa using tL)
 obtain⟨k,G⟩:=x
 obtain⟨hk,hJ⟩:=hp
 dsimp only at hk hJ ⊢
 refine AG (V (J E (Z E LT (U ?_))))
 refine Ax E (fun hc1=>?_) (fun hc1=>?_)
 have hlt:k<xs.length:=by
  have:=of_decide_eq_true hc1
  omega
 clear hc1
 have hb:k<(FI xs).length:=by rw[Ji];exact hlt
 have hget:=Xm xs k hlt
 have hx:BB xs ((xs.length:Int)-1-(k:Int))=some (xs[xs.length-1-k]' zO):=by
  rw[BB,if_pos zO,show((xs.length:Int)-1-(k:Int)).toNat=xs.length-1-k by omega]
  exact List.getElem?_eq_getElem _
 refine AI (AH (AG (AM (V (J E (J E (AF 0 cN E (J E ?_))))))))
 refine B2 1 hx E WM Jf E E E fun g1 m1 cp1 hv1=>?_
 refine Bk E Fa E (Br (sz:=1) (enc:=JP) 1 0 zV E hv1 hx E) ?_
 refine HK (M2:=[_,_]) (G:=G) (T:=T) (vs:=[_,_]) (ok:=fun G1=>J9 ((FI xs).take (k+1)) G1) (no:=X) E E ⟨E,E,zT⟩ E ?_ (fun bb G1 hG1=>⟨zT,?_⟩)
 intro M
 have:=hy ((FI xs).take k) ((FI xs)[k]) ((FI xs).drop (k+1)) (Z4 _ k hb) G hJ M
 rw[Yw _ k hb,hget]at this
 rw[show((xs.length:Int)-1-(k:Int))=((xs.length-1-k:Nat):Int) by omega]
 exact this
 refine CT E E (U ?_)
 refine Ax E (fun hc3=>?_) (fun hc3=>?_)
 obtain rfl:bb=false:=by simpa using hc3
 refine AJ (BC (Ab (EB (BC ?_))))
 exact Ae (Dr E) (Ad (M:=G1) (.inr hG1) fun _ h=>h.skip [_,_])
 obtain rfl:bb=true:=by simpa using hc3
 refine AI (Aj (AH (AN (J E (Z E (EF zO zO) ?_)))))
 refine Ai (u:=vI ((xs.length:Int)-1-((k+1:Nat):Int))) E E (congrArg vI zO) ?_
 refine AY ?_
 exact Au (k+1,G1) ⟨hlt,hG1⟩ (by dsimp only;omega) tL (BN [0,1] 2 E E E)
 have hge:k=xs.length:=by
  have:=of_decide_eq_false hc1
  omega
 subst hge
 rw[List.take_of_length_le (by rw[Ji];exact Nat.le_refl _)]at hJ
 refine A1 (A6 (Ba (A7 ?_)))
 exact DF (Dr E) (Ad (M:=G) (.inl hJ) fun _ h=>h.skip [_,_])
theorem qr{va:Value}(hva:va.cells=#[va]):zC K w0 176 [va] [] H (fun u M=>∃bx:Nat,u=.func (.func 206) #[] #[vP bx 0]∧M=[own bx (.cells #[va] 272)]):=by
 refine T3.enter Tryz.func176 rfl rfl ?_
 refine V ?_
 refine Bc E E zU fun b1=>?_
 rw[hva]
 refine O E (U (V ?_))
 refine GZ (fv:=#[]) (cv:=#[_]) E E E ?_
 refine O E (U (AJ ?_))
 exact Bm [0] 1 (C1 E E) E E ⟨_,E,E⟩
end

section
variable {K:Nat→Prop}{w0:World}{H:List AV}
theorem Xn{α:Type}(xs:List α):(FI xs).map (·.2)=xs.reverse:=by
 rw[FI,List.map_reverse,List.map_map]
 congr 1
 have:((fun x:Int×α=>x.2)∘fun p:α×Nat=>((p.2:Int),p.1))=Prod.fst:=rfl
 rw[this,List.zipIdx_map_fst]
def O8(v:Value)(l:List Ak):List MD:=
 match v,l with
 | _,[]=>[(⟨none,0,0⟩,[])]
 | .slice (some a) _ _,l=>LX a.block a.off l
 | _,l=>[]
theorem Vp(v:Value):O8 v []=[(⟨none,0,0⟩,[])]:=by cases v<;>rfl
theorem O9{b off n c:Nat}{l:List Ak}(h:l≠[]):O8 (.slice (some ⟨b,off,none⟩) n c) l=LX b off l:=by
 cases l with
 | nil=>exact absurd rfl h
 | cons _ _=>rfl
theorem lD{v:Value}{l:List Ak}(h:B6 K w0 AU 4 v l):∀a∈O8 v l,B6 K w0 AU 4 a.1.val a.2:=by
 by_cases hl:l=[]
 subst hl
 rw[Vp]
 intro a ha
 obtain rfl:=List.mem_singleton.1 ha
 exact⟨h.len,.inl ⟨_,rfl,rfl⟩⟩
 rcases h.at_ with⟨_,_,e⟩ | ⟨b,off,cap,rfl,hc,hcell⟩
 exact absurd e hl
 rw[O9 hl]
 exact dX h
theorem Zx{b1 b2:Nat}{a:Option Addr}{G0:List AV}:
  OF Tryz.prog K w0 205 [vP b1 0,vP b2 0] [own b1 (.cells #[.slice a 0 0] 22),own b2 (.cells #[vI 4] 3)] G0 JP []:=by
 intro lp J9 X T rc hy h0
 refine T3.enter Tryz.func205 rfl rfl ?_
 show SX _ _ _ _ _ _ _ _ _ (own b1 (.cells #[.slice a 0 0] 22)::own b2 (.cells #[vI 4] 3)::((rc::G0)++T))
 refine V (O E (U (AM ?_)))
 refine SX.mono (BF (α:=Unit) (fun _=>True) (fun _=>[(0,vY lp),(1,vP b1 0),(2,vP b2 0),(4,vI 0)])
  (fun _=>own b1 (.cells #[.slice a 0 0] 22)::own b2 (.cells #[vI 4] 3)::((rc::G0)++T)) (fun _=>0) (fun x D hp=>?_) () trivial) tL
 refine AG (V (J E (AF 0 Fa E (IQ E Cz E (Z E A8 (U (Cx E (A1 (A6 (Ba (A7 ?_)))))))))))
 exact DF (Dr E) (Ad (M:=rc::G0) (.inl h0) fun _ h=>h.skip [_,_])
def Hl(v:Value)(l:List Ak):List MD:=if l=[]then[]else O8 v l
theorem kG{b1 b2:Nat}{v:Value}{l:List Ak}(hl:l.length≤1048576)(hs:B6 K w0 AU 4 v l)(G0:List AV):
  OF Tryz.prog K w0 205 [vP b1 0,vP b2 0] [own b1 (.cells v.cells 22),own b2 (.cells #[vI 4] 3)] G0 JP (Hl v l):=by
 by_cases h0:l=[]
 subst h0
 rw[Hl,if_pos rfl]
 rcases hs.at_ with⟨a,rfl,_⟩ | ⟨b,off,cap,rfl,_⟩
 exact Zx
 rcases hs.at_ with⟨a,e,_⟩ | ⟨b',off',cap',e,hc,hcell⟩
 rw[e]
 exact Zx
 have:=eN (G0:=G0) (b1:=b1) (b2:=b2) (cap:=cap) hl hs zS
 exact this
 rcases hs.at_ with⟨_,_,e⟩ | ⟨b,off,cap,rfl,hc,hcell⟩
 exact absurd e h0
 rw[Hl,if_neg h0,O9 h0]
 exact eN hl hs hc
theorem Rl(b off:Nat)(l:List Ak):(LX b off l).length=(l.length+3) / 4:=by simp[LX,Kd]
theorem W6{v:Value}{l:List Ak}(hs:B6 K w0 AU 4 v l)(hl:l.length≤1048576):(Hl v l).length≤1048576:=by
 by_cases h0:l=[]
 rw[Hl,if_pos h0];simp
 rcases hs.at_ with⟨_,_,e⟩ | ⟨b,off,cap,rfl,hc,hcell⟩
 exact absurd e h0
 rw[Hl,if_neg h0,O9 h0,Rl]
 omega
theorem Xj{v:Value}{l:List Ak}(hs:B6 K w0 AU 4 v l):(if(Hl v l).length=0 then[((⟨none,0,0⟩:Xg),([]:List Ak))]else Hl v l)=O8 v l:=by
 by_cases h0:l=[]
 subst h0
 rw[Hl,if_pos rfl,Vp]
 rfl
 rcases hs.at_ with⟨_,_,e⟩ | ⟨b,off,cap,rfl,hc,hcell⟩
 exact absurd e h0
 have hp:0<l.length:=List.length_pos_iff.2 h0
 rw[Hl,if_neg h0,O9 h0,if_neg (by rw[Rl];omega)]
end

section
variable {K:Nat→Prop}{w0:World}{H:List AV}
theorem B6.one{α:Type}{enc:α→List Value}{sz:Nat}{v:Value}{xs:List α}(h:B6 K w0 enc sz v xs):v.cells=#[v]:=by
 rcases h.at_ with⟨_,rfl,_⟩ | ⟨_,_,_,rfl,_⟩<;>rfl
theorem kI{bx:Nat}{v:Value}{l:List Ak}{G0:List AV}(hl:l.length≤1048576)(hs:B6 K w0 AU 4 v l):
  OF Tryz.prog K w0 173 [vP bx 0] [own bx (.cells #[v] 22)] G0 JP (O8 v l).reverse:=by
 intro lp J9 X T rc hy h0
 refine T3.enter Tryz.func173 rfl rfl ?_
 show SX _ _ _ _ _ _ _ _ _ (own bx (.cells #[v] 22)::((rc::G0)++T))
 have hlen:=W6 hs hl
 refine V ?_
 refine Bc E E zU fun b0=>?_
 refine U (V (AF 1 Fa E (BO 0 pE nY E ?_)))
 rintro _ _ ⟨b1,b2,rfl,rfl⟩
 refine Bg (vs:=[_]) (Hin:=[_,_]) (Hr:=_::_::_) E E ⟨E,zT⟩ pD E E (gh (cap:=[vP b1 0,vP b2 0]) pX hlen (fun G0=>kG hl hs G0)) ?_
 rintro va _ ⟨_,rfl,rfl⟩
 refine⟨trivial,?_⟩
 refine O E (U ?_)
 refine A9 (α:=Value×List MD) (fun x=>x.2=O8 v l) (fun x=>[(0,vY lp),(2,vP b0 0),(3,x.1)]) (fun x=>AB 22 1 x.1 JP x.2::own b0 (.cells #[vY lp] 40)::((rc::G0)++T)) ?_ (fun x D hx=>?_)
 refine V (J E (Dj 0 E WM E E (Z E Bq (U ?_))))
 refine Ax E (fun hc1=>?_) (fun hc1=>?_)
 have hz:(Hl v l).length=0:=by
  have:=of_decide_eq_true hc1
  omega
 refine AN ?_
 refine CD [_] E WM Jf fA ⟨E,zT⟩ E E E zX E E zU fun b3=>?_
 refine CH JP 1 ([(⟨none,0,0⟩,[])]:List MD) E zV E ?_
 refine O E (AY ?_)
 exact Aq (.slice (some ⟨b3,0,none⟩) 1 1,[(⟨none,0,0⟩,[])]) (show([(⟨none,0,0⟩,[])]:List MD)=O8 v l by rw[←Xj hs,if_pos hz]) tL (BN [0,2] 4 E E E)
 have hz:¬(Hl v l).length=0:=by
  have:=of_decide_eq_false hc1
  omega
 refine AI ?_
 exact Aq (va,Hl v l) (show Hl v l=O8 v l by rw[←Xj hs,if_neg hz]) tL (BN [0,1] 3 E E E)
 obtain⟨va,xs⟩:=x
 have hx:xs=O8 v l:=hx
 have hxn:xs.length≤1048576:=by
  rw[hx,←Xj hs]
  split
  simp
  exact hlen
 rw[←hx]at hy ⊢
 clear hx
 try dsimp only
 refine V ?_
 refine Xb 0 E fun sv hsv=>?_
 refine J E ?_
 refine BO 0 pF (qr (va:=va) (by rw[hsv];rfl)) E ?_
 rintro _ _ ⟨b4,rfl,rfl⟩
 refine U (AM ?_)
 refine MT (enc:=lw) (FI xs) (Hit:=[_,_]) (G0:=own b0 (.cells #[vY lp] 40)::((rc::G0)++T)) (fun pre Gx=>∃G,J9 (pre.map (·.2)) G∧Gx=own b0 (.cells #[vY lp] 40)::(G++T)) (fun c Gx=>c=.ret∧∃G,X G∧Gx=own b0 (.cells #[vY lp] 40)::(G++T)) E pY E zV (qf hxn) E ⟨rc::G0,h0,E⟩ (fun pre x suf Gx hxs hJ r lr Rest=>?_) (fun Gx D hJ=>?_) (fun c Gx D hX=>?_)
 obtain⟨G,hJ,rfl⟩:=hJ
 refine AN (O E (AY ?_))
 refine Jz (G:=own b0 (.cells #[vY lp] 40)::(G++T)) ?_
 refine AM (V (AF 0 uU E (J E ?_)))
 refine HK (M2:=[own b0 (.cells #[vY lp] 40)]) (G:=G) (T:=T++Tl r lr Rest .busy) (vs:=[_]) (ok:=fun G1=>J9 ((pre++[x]).map (·.2)) G1) (no:=X) E E ⟨E,zT⟩ (by simp[List.append_assoc]) ?_ (fun bb G1 hG1=>⟨zT,?_⟩)
 intro M
 have hsp:xs.reverse=pre.map (·.2)++x.2::suf.map (·.2):=by
  rw[←Xn,hxs,List.map_append,List.map_cons]
 have:=hy (pre.map (·.2)) x.2 (suf.map (·.2)) hsp G hJ M
 rw[List.map_append,List.map_cons,List.map_nil]
 exact this
 refine CT E E (U ?_)
 refine Ax E (fun hc2=>?_) (fun hc2=>?_)
 obtain rfl:bb=false:=by simpa using hc2
 refine AJ (BC ?_)
 exact k6 ⟨E,G1,hG1,E⟩ (fun _ hw=>by simpa[List.append_assoc]using hw)
 obtain rfl:bb=true:=by simpa using hc2
 refine AI (Aj ?_)
 exact Hg ⟨G1,hG1,E⟩ (fun _ hw=>by simpa[List.append_assoc]using hw)
 obtain⟨G,hJ,rfl⟩:=hJ
 rw[Xn]at hJ
 refine Aj ?_
 exact DF (Dr E) (Ad (M:=G) (.inl hJ) fun _ h=>h.skip [_])
 obtain⟨rfl,G,hX,rfl⟩:=hX
 refine AJ (BC ?_)
 exact Ae (Dr E) (Ad (M:=G) (.inr hX) fun _ h=>h.skip [_])
theorem kb{v:Value}(hv:v.cells=#[v]):zC K w0 154 [v] [] H (fun u M=>∃bx:Nat,u=.func (.func 173) #[] #[vP bx 0]∧M=[own bx (.cells #[v] 22)]):=by
 refine T3.enter Tryz.func154 rfl rfl ?_
 refine V ?_
 refine Bc E E zU fun b1=>?_
 rw[hv]
 refine O E (U (V ?_))
 refine GZ (fv:=#[]) (cv:=#[_]) E E E ?_
 refine O E (U (AJ ?_))
 exact Bm [0] 1 (C1 E E) E E ⟨_,E,E⟩
end

section
variable {K:Nat→Prop}{w0:World}{H:List AV}
theorem Ec.mid:∀ {Hs A B R:List AV},Ec Hs A→Ec Hs (B++(A++R))
 | [],_,_,_,_=>trivial
 | c::r,A,B,R,⟨⟨i,hi⟩,h⟩=>⟨⟨B.length+i,by
   have hlt:=(List.getElem?_eq_some_iff.1 hi).1
   rw[List.getElem?_append_right zO,Nat.add_sub_cancel_left,List.getElem?_append_left hlt,hi]⟩,Ec.mid h⟩
theorem fF{k:AV}{A B R M:List AV}{w:World}(h:BX K w0 ((k::(A++(B++R)))++M) w):BX K w0 ((k::(B++(A++R)))++M) w:=by
 refine h.perm (List.Perm.append_right _ (List.Perm.cons _ ?_))
 rw[←List.append_assoc,←List.append_assoc]
 exact List.Perm.append_right _ List.perm_append_comm
theorem Xf{α:Type}{enc:α→List Value}{sz:Nat}(hl:∀x,(enc x).length=sz):B6 K w0 enc sz zN []:=⟨hl,.inl ⟨_,rfl,rfl⟩⟩
def ON(l:List Ak):List (List Ak):=if l=[]then[[]]else(List.range ((l.length+3) / 4)).map fun i=>(l.drop (4*i)).take (min (4*i+4) l.length-4*i)
theorem dI{v:Value}{l:List Ak}(h:B6 K w0 AU 4 v l):(O8 v l).map (·.2)=ON l:=by
 by_cases hl:l=[]
 subst hl
 rw[Vp]
 rfl
 rcases h.at_ with⟨_,_,e⟩ | ⟨b,off,cap,rfl,hc,hcell⟩
 exact absurd e hl
 rw[O9 hl,ON,if_neg hl,LX,Kd,List.map_map]
 rfl
def LB{σ:Type}(rec_:CW→LG→σ→Option (BQ×(LG×σ))):List CW→LG→σ→List BQ→Option (List BQ×(LG×σ))
 | [],p,q,acc=>some (acc,(p,q))
 | k::ks,p,q,acc=>(rec_ k p q).bind fun y=>(DR 24 acc [y.1]).bind fun acc'=>LB rec_ ks y.2.1 y.2.2 acc'
def Or{σ:Type}(n:Nat)(wh:Wx σ):List (List Ak)→BQ→LG→σ→Option (BQ×(LG×σ))
 | [],r,p,q=>some (r,(p,q))
 | l::ls,r,p,q=>(KD n wh ⟨1,0,0,0,l,[],r.page,r.tag⟩ p q).bind fun y=>cond (!decide (y.2.1.wrong=0)) (some y) (Or n wh ls y.1 y.2.1 y.2.2)
def IP{σ:Type}(n:Nat)(wh:Wx σ):Nat→CW→LG→σ→Option (BQ×(LG×σ))
 | 0,_,_,_=>none
 | f+1,t,p,q=>if 1048576<t.rows.length∨1048576<t.kids.length then none else cond (decide (0<(t.kids.length:Int)))
   ((LB (IP n wh f) t.kids p q []).bind fun y=>KD n wh ⟨2,t.cx,t.cy,t.lev,[],y.1,0,[]⟩ y.2.1 y.2.2)
   (Or n wh (ON t.rows).reverse ⟨0,[]⟩ p q)
theorem Rg{σ:Type}{C:Value→σ→List AV}{wh:Wx σ}{fid:FuncId}{cs:Array Value}{T:List UInt32}{n bp:Nat}(hcal:AK Tryz.prog fid=true)(hwh:fJ T fid cs C wh):
  ∀(f:Nat) {K:Nat→Prop} {w0:World} {H:List AV} {vo ca:Value} {a:Fx} {t:CW} {p:LG} {q:σ} {r:BQ×(LG×σ)},Ge K w0 T→IP n wh f t p q=some r→Pm K w0 a t→
  zC K w0 116 [vP bp 0,.agg (C6 a).toArray] (Lp bp (.func (.func fid) #[] cs) vo p::AB 148 3 vo AS p.out::C ca q) H
   (fun u M=>u=.agg (Bz r.1).toArray∧∃vo' ca',M=Lp bp (.func (.func fid) #[] cs) vo' r.2.1::AB 148 3 vo' AS r.2.1.out::C ca' r.2.2)
 | 0,K,w0,H,vo,ca,a,t,p,q,r,hS,h,hN=>by cases h
 | f+1,K,w0,H,vo,ca,a,t,p,q,r,hS,h,hN=>by
  have h:(if 1048576<t.rows.length∨1048576<t.kids.length then none else cond (decide (0<(t.kids.length:Int)))
   ((LB (IP n wh f) t.kids p q []).bind fun y=>KD n wh ⟨2,t.cx,t.cy,t.lev,[],y.1,0,[]⟩ y.2.1 y.2.2)
   (Or n wh (ON t.rows).reverse ⟨0,[]⟩ p q))=some r:=h
  split at h
  cases h
  rename_i hbig
  have hrl:t.rows.length≤1048576:=zO
  have hkl:t.kids.length≤1048576:=zO
  clear hbig
  obtain⟨rv,kv,rfl,hr,hk⟩:=hN.parts
  refine T3.enter Tryz.func116 rfl rfl ?_
  show SX _ _ _ _ _ _ _ _ _ (Lp bp (.func (.func fid) #[] cs) vo p::AB 148 3 vo AS p.out::(C ca q++H))
  refine V ?_
  refine Bc E E zU fun b0=>?_
  refine Bc E E zU fun b1=>?_
  refine Al E FT zU fun b2=>?_
  refine U (Km (AG (V (AE E KY (AF 1 UZ E (ZR hk E OU E (Z E Cu (U ?_))))))))
  refine AL h E (fun hc1 h=>?_) fun hc1 h=>?_
  refine V (AE rfl Qk (Ap [Y t.cx,Y t.cy,vI t.lev] rfl Fl rfl rfl (Cw 1 rfl (by rintro(_ | (_ | (_ | j))) u hj<;>first | exact hj | exact absurd hj zS)) (B5 [_,_] rfl gK gJ cj ⟨rfl,rfl,trivial⟩ rfl ?_)))
  refine Al E cj zU fun b3=>?_
  refine A5 0 E E E E tI E E E zT (N1 0 (own b3 (.cells #[vI 2,Y t.cx,Y t.cy,vI t.lev,zN,zN,Y 0,vS []] 250)) (CB 146 2 Bz (U (AG (V (AE E KY (AF 3 UZ E (ZR hk E OU E (J E (U (AM ?_)))))))))))
  refine SX.heap (SX.mono (BF (α:=Nat×List BQ×Value×LG×σ×Value×Value) (fun x=>x.1≤t.kids.length∧((LB (IP n wh f) (t.kids.drop x.1) x.2.2.2.1 x.2.2.2.2.1 x.2.1).bind fun y=>KD n wh ⟨2,t.cx,t.cy,t.lev,[],y.1,0,[]⟩ y.2.1 y.2.2)=some r)
   (fun x=>[(2,vP b0 0),(4,vP b2 0),(5,vP b3 0),(18,kv.val),(19,vI (t.kids.length:Int)),(20,vI (x.1:Int))])
   (fun x=>own b3 (.cells #[vI 2,Y t.cx,Y t.cy,vI t.lev,zN,x.2.2.1,Y 0,vS []] 250)::AB 146 2 x.2.2.1 Bz x.2.1::own b2 (.cells #[Y 0,vS []] 146)::own b0 (.cells #[vP bp 0] 209)::Lp bp (.func (.func fid) #[] cs) x.2.2.2.2.2.1 x.2.2.2.1::AB 148 3 x.2.2.2.2.2.1 AS x.2.2.2.1.out::(C x.2.2.2.2.2.2 x.2.2.2.2.1++H))
   (fun x=>t.kids.length-x.1) (fun x D hp=>?_) (0,[],zN,p,q,vo,ca) ⟨Nat.zero_le _,h⟩) tL) (BN [1,0,2,4,5,6] 7 rfl rfl rfl)
  clear h
  obtain⟨i,ks,vk,p1,q1,vo1,ca1⟩:=x
  obtain⟨hi,h⟩:=hp
  dsimp only at hi h ⊢
  refine V (Z E A8 (U (AG ?_)))
  refine Ax E (fun hc2=>?_) (fun hc2=>?_)
  have hlt:i<t.kids.length:=by
   have:=of_decide_eq_true hc2
   omega
  clear hc2
  have hnth:BB t.kids (i:Int)=some t.kids[i]:=by
   rw[BB,if_pos zO]
   exact List.getElem?_eq_getElem hlt
  rw[List.drop_eq_getElem_cons hlt,LB]at h
  refine AD h fun z hz h=>?_
  obtain⟨y,hy,hz⟩:=EE hz
  obtain⟨ac,hac,hz⟩:=EE hz
  have h2:((LB (IP n wh f) (t.kids.drop (i+1)) y.2.1 y.2.2 ac).bind fun y=>KD n wh ⟨2,t.cx,t.cy,t.lev,[],y.1,0,[]⟩ y.2.1 y.2.2)=some r:=by
   rw[hz];exact h
  refine AI (AH (AG (AM (V ?_))))
  refine kn hnth hk E OU Io E E fun b5 of5 rv5 kv5 hr5 hk5 hc5=>?_
  obtain⟨rs5,rfl⟩:=hr5.slv
  obtain⟨kk5,hk51,hk52⟩:=hk5
  obtain⟨ks5,rfl⟩:=hk51.slv
  have hN5:Pm K w0 ⟨t.kids[i].cx,t.kids[i].cy,t.kids[i].lev,rs5,ks5⟩ t.kids[i]:=fG hr5 ⟨kk5,hk51,hk52⟩
  refine Ap [Y t.kids[i].cx,Y t.kids[i].cy,vI t.kids[i].lev,rs5.val,ks5.val] E NV E E (DM hc5) ?_
  refine Al E Ir zU fun b4=>?_
  refine A5 0 E E E E Io E E E zT (N1 0 (own b4 (.cells #[Y t.kids[i].cx,Y t.kids[i].cy,vI t.kids[i].lev,rs5.val,ks5.val] 204)) (U (Av DH [0,1,4] (CA [(true,0),(true,1),(true,2),(true,3),(false,4),(false,5),(false,6),(true,7)] (.last 8 .nil)) zK (AE E F6 (AF 1 LQ E (AF 2 cM E (Ap [Y t.kids[i].cx,Y t.kids[i].cy,vI t.kids[i].lev,rs5.val,ks5.val] E NV E E (Ah 0 E) ?_)))))))
  refine SL.heap ?_ (fun _ hw=>GK (A:=[own b4 (.cells #[Y t.kids[i].cx,Y t.kids[i].cy,vI t.kids[i].lev,rs5.val,ks5.val] 204),own b3 (.cells #[vI 2,Y t.cx,Y t.cy,vI t.lev,zN,vk,Y 0,vS []] 250),AB 146 2 vk Bz ks,own b2 (.cells #[Y 0,vS []] 146),own b0 (.cells #[vP bp 0] 209)]) (B:=Lp bp (.func (.func fid) #[] cs) vo1 p1::AB 148 3 vo1 AS p1.out::C ca1 q1) (R:=H) hw)
  have hcon:=Rg (bp:=bp) hcal hwh f (ca:=ca1) (K:=K) (w0:=w0) (H:=([own b4 (.cells #[Y t.kids[i].cx,Y t.kids[i].cy,vI t.kids[i].lev,rs5.val,ks5.val] 204),own b3 (.cells #[vI 2,Y t.cx,Y t.cy,vI t.lev,.slice none 0 0,vk,Y 0,vS []] 250),AB 146 2 vk Bz ks,own b2 (.cells #[Y 0,vS []] 146),own b0 (.cells #[vP bp 0] 209)]++H)++[BR D]) (vo:=vo1) hS hy hN5
  generalize hpo:(fun(u:Value) (M:List AV)=>u=.agg (Bz y.1).toArray∧∃vo' ca',M=Lp bp (.func (.func fid) #[] cs) vo' y.2.1::AB 148 3 vo' AS y.2.1.out::C ca' y.2.2)=po at hcon
  refine Bg (vs:=[_,_]) (Hin:=Lp bp (.func (.func fid) #[] cs) vo1 p1::AB 148 3 vo1 AS p1.out::C ca1 q1) (Hr:=[own b4 (.cells #[Y t.kids[i].cx,Y t.kids[i].cy,vI t.kids[i].lev,rs5.val,ks5.val] 204),own b3 (.cells #[vI 2,Y t.cx,Y t.cy,vI t.lev,zN,vk,Y 0,vS []] 250),AB 146 2 vk Bz ks,own b2 (.cells #[Y 0,vS []] 146),own b0 (.cells #[vP bp 0] 209)]++H) E E ⟨E,E,zT⟩ hU E E hcon ?_
  intro u0 M0 hpost
  rw[←hpo]at hpost
  obtain⟨rfl,vo2,ca2,rfl⟩:=hpost
  refine⟨Ec.mid (A:=[own b4 (.cells #[Y t.kids[i].cx,Y t.kids[i].cy,vI t.kids[i].lev,rs5.val,ks5.val] 204),own b3 (.cells #[vI 2,Y t.cx,Y t.cy,vI t.lev,zN,vk,Y 0,vS []] 250),AB 146 2 vk Bz ks,own b2 (.cells #[Y 0,vS []] 146),own b0 (.cells #[vP bp 0] 209)]) ⟨⟨0,rfl⟩,⟨1,rfl⟩,⟨4,rfl⟩,trivial⟩,?_⟩
  refine SL.heap ?_ (fun _ hw=>GK (A:=Lp bp (.func (.func fid) #[] cs) vo2 y.2.1::AB 148 3 vo2 AS y.2.1.out::C ca2 y.2.2) (B:=[own b4 (.cells #[Y t.kids[i].cx,Y t.kids[i].cy,vI t.kids[i].lev,rs5.val,ks5.val] 204),own b3 (.cells #[vI 2,Y t.cx,Y t.cy,vI t.lev,zN,vk,Y 0,vS []] 250),AB 146 2 vk Bz ks,own b2 (.cells #[Y 0,vS []] 146),own b0 (.cells #[vP bp 0] 209)]) (R:=H) hw)
  refine CD [_] rfl JM Ek FT ⟨rfl,trivial⟩ rfl rfl rfl zW rfl rfl (fun _=>⟨⟨1,rfl⟩,⟨2,rfl⟩,⟨5,rfl⟩,trivial⟩) fun b6=>?_
  refine CH Bz 2 ([y.1]:List BQ) E zV E ?_
  refine C5 3 hac (sz:=2) (enc:=Bz) zV E JM Ek rR FT E zD E E E E (CL (sz:=2) (enc:=Bz) 0 zV E) (by simp[Bz,Value.oneCell']) (fun _=>⟨⟨1,E⟩,⟨2,E⟩,⟨5,E⟩,zT⟩) fun v6=>?_
  refine AE E F6 (BY ?_)
  refine C8 3 E fun hv6 ho6=>?_
  refine EA 2 E E E E tH hv6 ho6 E zT (AY (Aj (AH (AN (Z E (Bf zO zO) (J E (AY ?_)))))))
  exact Au (i+1,ac,v6,y.2.1,y.2.2,vo2,ca2) ⟨hlt,h2⟩ (by dsimp only;omega) tL (BN [2,3,4,5] 6 E E E)
  have hge:i=t.kids.length:=by
   have:=of_decide_eq_false hc2
   omega
  subst hge
  rw[List.drop_length,LB]at h
  replace h:KD n wh ⟨2,t.cx,t.cy,t.lev,[],ks,0,[]⟩ p1 q1=some r:=h
  refine A1 (A6 (Ba (A7 (AH (SX.pick [1,0,2,3] 4 (V (AF 3 cM E (Ap [vI 2,Y t.cx,Y t.cy,vI t.lev,zN,vk,Y 0,vS []] E Xi E E (Ah 1 E) ?_))))))))
  refine SL.heap ?_ (fun _ hw=>fF (A:=[own b3 (.cells #[vI 2,Y t.cx,Y t.cy,vI t.lev,zN,vk,Y 0,vS []] 250),own b2 (.cells #[Y 0,vS []] 146),own b0 (.cells #[vP bp 0] 209)]) (B:=(Lp bp (.func (.func fid) #[] cs) vo1 p1::AB 148 3 vo1 AS p1.out::C ca1 q1)) (R:=H) hw)
  have hcon:=Co (K:=K) (w0:=w0) (H:=([own b3 (.cells #[vI 2,Y t.cx,Y t.cy,vI t.lev,.slice none 0 0,vk,Y 0,vS []] 250),own b2 (.cells #[Y 0,vS []] 146),own b0 (.cells #[vP bp 0] 209)]++H)++[BR D]) (f:=153) (B:=[AB 146 2 vk Bz ks]) (Hin:=(Lp bp (.func (.func fid) #[] cs) vo1 p1::AB 148 3 vo1 AS p1.out::C ca1 q1)) fun K' w1 hkk hB=>Rh (bp:=bp) (a:=ca1) (vo:=vo1) (v4:=.slice none 0 0) (v5:=vk) hcal hwh (hS.keeps hkk) h (Xf zV) (CO (e:=146) (v:=vk) zV (hB _ zS))
  refine Bg (vs:=[_,_]) (Hin:=AB 146 2 vk Bz ks::(Lp bp (.func (.func fid) #[] cs) vo1 p1::AB 148 3 vo1 AS p1.out::C ca1 q1)) (Hr:=[own b3 (.cells #[vI 2,Y t.cx,Y t.cy,vI t.lev,zN,vk,Y 0,vS []] 250),own b2 (.cells #[Y 0,vS []] 146),own b0 (.cells #[vP bp 0] 209)]++H) E E ⟨E,E,zT⟩ iG E E hcon ?_
  rintro _ _ ⟨_,rfl,rfl,vo2,ca2,rfl⟩
  refine⟨trivial,?_⟩
  refine SL.heap ?_ (fun _ hw=>GK (A:=AB 146 2 vk Bz ks::Lp bp (.func (.func fid) #[] cs) vo2 r.2.1::AB 148 3 vo2 AS r.2.1.out::C ca2 r.2.2) (B:=[own b3 (.cells #[vI 2,Y t.cx,Y t.cy,vI t.lev,zN,vk,Y 0,vS []] 250),own b2 (.cells #[Y 0,vS []] 146),own b0 (.cells #[vP bp 0] 209)]) (R:=H) hw)
  refine A5 1 E E E E Ek E E E zT (U (AJ (Ab (Eb ?_))))
  exact Ae (IK E (B9 1 (Bz r.1) DK E E E E)) (Ad (M:=Lp bp (.func (.func fid) #[] cs) vo2 r.2.1::AB 148 3 vo2 AS r.2.1.out::C ca2 r.2.2) ⟨E,vo2,ca2,E⟩ fun _ hw=>BX.pick (H:=[_,_,_,_]) hw [] 4 E)
  refine AI (AH (V ?_))
  refine Al E FT zU fun b3=>?_
  refine U (AG (Kl (AH (AG (V (AE E Sg (AF 2 Fa E (BO 0 oo (kb hr.one) E ?_))))))))
  rintro _ _ ⟨bx,rfl,rfl⟩
  refine U (AM ?_)
  have h0:Or n wh (((O8 rv.val t.rows).reverse).map (·.2)) ⟨0,[]⟩ p q=some r:=by
   rw[List.map_reverse,dI hr];exact h
  refine SX.heap (MT (enc:=JP) (O8 rv.val t.rows).reverse (G0:=(own b3 (.cells #[Y 0,vS []] 146)::own b2 (.cells #[Y 0,vS []] 146)::own b0 (.cells #[vP bp 0] 209)::Lp bp (.func (.func fid) #[] cs) vo p::AB 148 3 vo AS p.out::(C ca q++H))) (fun pre G=>∃(x:BQ) (p1:LG) (q1:σ) (vo1 ca1:Value),(∀suf,(O8 rv.val t.rows).reverse=pre++suf→Or n wh (suf.map (·.2)) x p1 q1=some r)∧G=(own b3 (.cells #[Y x.page,vS x.tag] 146)::own b2 (.cells #[Y 0,vS []] 146)::own b0 (.cells #[vP bp 0] 209)::Lp bp (.func (.func fid) #[] cs) vo1 p1::AB 148 3 vo1 AS p1.out::(C ca1 q1++H))) (fun c G=>c=.exit 2∧∃vo1 ca1:Value,G=(own b3 (.cells #[Y r.1.page,vS r.1.tag] 146)::own b2 (.cells #[Y 0,vS []] 146)::own b0 (.cells #[vP bp 0] 209)::Lp bp (.func (.func fid) #[] cs) vo1 r.2.1::AB 148 3 vo1 AS r.2.1.out::(C ca1 r.2.2++H))) E pC E zV (kI hrl hr) E ⟨⟨0,[]⟩,p,q,vo,ca,fun suf e=>by rw[←show(O8 rv.val t.rows).reverse=suf from e];exact h0,E⟩ (fun pre x suf G hxs hJ lr lp Rest=>?_) (fun G D hJ=>?_) (fun c G D hX=>?_)) (BN [0,1,2,4,5,6] 7 E E E)
  obtain⟨w,p1,q1,vo1,ca1,h,rfl⟩:=hJ
  have h1:=h (x::suf) hxs
  rw[List.map_cons,Or]at h1
  obtain⟨y,hy,h1⟩:=EE h1
  have hx:B6 K w0 AU 4 x.1.val x.2:=lD hr x (List.mem_reverse.1 (by rw[hxs];simp))
  refine AN (O E (AY ?_))
  refine Jz (G:=own b3 (.cells #[Y w.page,vS w.tag] 146)::own b2 (.cells #[Y 0,vS []] 146)::own b0 (.cells #[vP bp 0] 209)::Lp bp (.func (.func fid) #[] cs) vo1 p1::AB 148 3 vo1 AS p1.out::(C ca1 q1++H)) ?_
  refine AM (V (AF 2 cM E (J E (Ap (Bz w) E DK E E (Ah 0 E) (B5 [_,_,_] E gK gJ cj ⟨E,E,E,zT⟩ E ?_)))))
  refine SL.heap ?_ (fun _ hw=>GK (A:=[own b3 (.cells #[Y w.page,vS w.tag] 146),own b2 (.cells #[Y 0,vS []] 146),own b0 (.cells #[vP bp 0] 209)]) (B:=(Lp bp (.func (.func fid) #[] cs) vo1 p1::AB 148 3 vo1 AS p1.out::C ca1 q1)) (R:=(H++Tl lr lp Rest .busy)) (by simp only[List.append_assoc,List.cons_append,List.nil_append]at hw ⊢;exact hw))
  have hcon:=Rh (K:=K) (w0:=w0) (H:=([own b3 (.cells #[Y w.page,vS w.tag] 146),own b2 (.cells #[Y 0,vS []] 146),own b0 (.cells #[vP bp 0] 209)]++(H++Tl lr lp Rest .busy))++[BR []]) (bp:=bp) (a:=ca1) (vo:=vo1) (v4:=x.1.val) (v5:=.slice none 0 0) hcal hwh hS hy hx (Xf zV)
  refine Bg (vs:=[_,_]) (Hin:=(Lp bp (.func (.func fid) #[] cs) vo1 p1::AB 148 3 vo1 AS p1.out::C ca1 q1)) (Hr:=[own b3 (.cells #[Y w.page,vS w.tag] 146),own b2 (.cells #[Y 0,vS []] 146),own b0 (.cells #[vP bp 0] 209)]++(H++Tl lr lp Rest .busy)) E E ⟨E,E,zT⟩ iG E E hcon ?_
  rintro _ _ ⟨rfl,vo2,ca2,rfl⟩
  refine⟨trivial,?_⟩
  refine SL.heap ?_ (fun _ hw=>GK (A:=(Lp bp (.func (.func fid) #[] cs) vo2 y.2.1::AB 148 3 vo2 AS y.2.1.out::C ca2 y.2.2)) (B:=[own b3 (.cells #[Y w.page,vS w.tag] 146),own b2 (.cells #[Y 0,vS []] 146),own b0 (.cells #[vP bp 0] 209)]) (R:=(H++Tl lr lp Rest .busy)) hw)
  refine A5 0 E E E E Ek E E E zT (N1 0 (own b3 (.cells #[Y y.1.page,vS y.1.tag] 146)) (U (V (AF 2 cM E (AQ E E (AE E Sh (AF 3 Qo E (Z E BJ (U ?_)))))))))
  have hheap:∀w1:World,BX K w0 ((own b3 (.cells #[Y y.1.page,vS y.1.tag] 146)::own b2 (.cells #[Y 0,vS []] 146)::own b0 (.cells #[vP bp 0] 209)::((Lp bp (.func (.func fid) #[] cs) vo2 y.2.1::AB 148 3 vo2 AS y.2.1.out::C ca2 y.2.2)++(H++Tl lr lp Rest .busy)))) w1→BX K w0 ((own b3 (.cells #[Y y.1.page,vS y.1.tag] 146)::own b2 (.cells #[Y 0,vS []] 146)::own b0 (.cells #[vP bp 0] 209)::Lp bp (.func (.func fid) #[] cs) vo2 y.2.1::AB 148 3 vo2 AS y.2.1.out::(C ca2 y.2.2++H))++Tl lr lp Rest .busy) w1:=by
   intro w1 hw
   simp only[List.append_assoc,List.cons_append]at hw ⊢
   exact hw
  refine AL h1 E (fun hc3 h1=>?_) fun hc3 h1=>?_
  obtain rfl:=zI h1
  refine A1 (Hf ?_)
  exact N2 ⟨E,vo2,ca2,E⟩ hheap
  refine AI (Aj ?_)
  exact Hg ⟨y.1,y.2.1,y.2.2,vo2,ca2,fun suf' e=>by rw[Vf hxs e];exact h1,E⟩ hheap
  obtain⟨x,p1,q1,vo1,ca1,h,rfl⟩:=hJ
  replace h:=h [] (List.append_nil _).symm
  obtain rfl:(x,(p1,q1))=r:=zI h
  refine Aj (AH (V (Ap (Bz x) E DK E E (Ah 0 E) (A5 1 E E E E Ek E E E zT (U (AJ (Eb ?_)))))))
  exact Ae (IK E (B9 1 (Bz x) DK E E E E)) (Ad (M:=_::_::C ca1 q1) ⟨E,vo1,ca1,E⟩ fun _ hw=>BX.pick (H:=[_,_,_]) hw [] 3 E)
  obtain⟨rfl,vo1,ca1,rfl⟩:=hX
  refine A1 (A7 (AH (V (Ap (Bz r.1) E DK E E (Ah 0 E) (A5 1 E E E E Ek E E E zT (U (AJ (Eb ?_))))))))
  exact Ae (IK E (B9 1 (Bz r.1) DK E E E E)) (Ad (M:=_::_::C ca1 r.2.2) ⟨E,vo1,ca1,E⟩ fun _ hw=>BX.pick (H:=[_,_,_]) hw [] 3 E)
end

section
theorem RK(l:List Ak):(ON l).length=max 1 ((l.length+3) / 4):=by
 unfold ON
 split
 rename_i h;subst h;rfl
 rename_i h
 have:=List.length_pos_iff.2 h
 simp
 omega
theorem f6{l p:List Ak}(h:p∈ON l):p.length≤4∧p.Sublist l:=by
 unfold ON at h
 split at h
 rename_i hl
 subst hl
 simp only[List.mem_singleton]at h
 subst h
 exact⟨by simp,List.Sublist.refl _⟩
 obtain⟨i,_,rfl⟩:=List.mem_map.1 h
 exact⟨by simp;omega,(List.take_sublist ..).trans (List.drop_sublist ..)⟩
theorem Wr{l p:List Ak}(h:Di l=true)(hs:p.Sublist l):Di p=true:=by
 unfold Di at h ⊢
 simp only[Bool.and_eq_true,decide_eq_true_eq]at h ⊢
 refine⟨⟨List.all_eq_true.2 fun r hr=>List.all_eq_true.1 h.1.1 r (hs.subset hr),(OC p).2 (((OC l).1 h.1.2).sublist hs)⟩,?_⟩
 have:=hs.length_le
 omega
abbrev ba(l:List Ak)(r:BQ):Dt:=⟨1,0,0,0,l,[],r.page,r.tag⟩
abbrev VR(t:CW)(rs:List BQ):Dt:=⟨2,t.cx,t.cy,t.lev,[],rs,0,[]⟩
def cw:List (List Ak)→BQ→List A4→BQ→Prop
 | [],r0,seg,r=>seg=[]∧r=r0
 | l::ls,r0,seg,r=>∃r1 seg',JH (ba l r0)=true∧seg=⟨RA (ba l r0),r1.page,r1.tag⟩::seg'∧cw ls r1 seg' r
def gq(R:CW→List A4→BQ→Prop):List CW→List A4→List BQ→Prop
 | [],seg,rs=>seg=[]∧rs=[]
 | k::ks,seg,rs=>∃s1 r1 s2 rs',R k s1 r1∧gq R ks s2 rs'∧seg=s1++s2∧rs=r1::rs'
def XV:Nat→CW→List A4→BQ→Prop
 | 0,_,_,_=>False
 | f+1,t,seg,r=>(t.rows.length≤1000∧t.kids.length≤1000)∧((t.kids=[]∧cw (ON t.rows).reverse ⟨0,[]⟩ seg r)∨(t.kids≠[]∧∃segs rs,gq (XV f) t.kids segs rs∧JH (VR t rs)=true∧seg=segs++[⟨RA (VR t rs),r.page,r.tag⟩]))
def Me:Nat→CW→Nat
 | 0,_=>0
 | f+1,t=>if t.kids.length=0 then max 1 ((t.rows.length+3) / 4)else(t.kids.map (Me f)).sum+1
theorem cw.len:∀ {ls:List (List Ak)} {r0 r:BQ} {seg:List A4} ,cw ls r0 seg r→seg.length=ls.length
 | [],_,_,_,h=>by rw[h.1];rfl
 | _::_,_,_,_,h=>by
  obtain⟨r1,seg',_,e,h'⟩:=h
  rw[e,List.length_cons,cw.len h',List.length_cons]
theorem gq.len{R:CW→List A4→BQ→Prop}{g:CW→Nat}(hg:∀k s r,R k s r→s.length=g k):∀ {ks:List CW} {seg:List A4} {rs:List BQ},gq R ks seg rs→seg.length=(ks.map g).sum∧rs.length=ks.length
 | [],_,_,h=>by rw[h.1,h.2];simp
 | k::ks,_,_,h=>by
  obtain⟨s1,r1,s2,rs',h1,h2,e1,e2⟩:=h
  have ih:=gq.len hg h2
  rw[e1,e2,List.length_append,hg _ _ _ h1,ih.1,List.length_cons,ih.2]
  simp
theorem XV.len:∀(f:Nat) {t:CW} {seg:List A4} {r:BQ} ,XV f t seg r→seg.length=Me f t
 | 0,_,_,_,h=>h.elim
 | f+1,t,seg,r,h=>by
  rcases h.2 with⟨h1,h2⟩ | ⟨h1,segs,rs,h2,_,e⟩
  rw[h2.len,Me,if_pos (by rw[h1];rfl),List.length_reverse,RK]
  have h0:=List.length_pos_iff.2 h1
  rw[e,Me,if_neg zO,List.length_append,(gq.len (fun k s r hr=>XV.len f hr) h2).1]
  rfl
def Ul{σ:Type}(wh:Wx σ):σ→List A4→σ→Prop
 | q,[],q'=>q=q'
 | q,s::ss,q'=>∃q1,wh q s.txt=some ((⟨s.page,s.tag⟩,0),q1)∧Ul wh q1 ss q'
theorem Ul.join{σ:Type}{wh:Wx σ}:∀ {a b:List A4} {q q1 q':σ},Ul wh q a q1→Ul wh q1 b q'→Ul wh q (a++b) q'
 | [],_,_,_,_,h,h'=>by cases h;exact h'
 | _::_,_,_,_,_,⟨q1,h1,h2⟩,h'=>⟨q1,h1,h2.join h'⟩
variable {σ:Type}{wh:Wx σ}{n:Nat}
structure hI{σ:Type}(wh:Wx σ)(Inv:σ→Prop)(Good:σ→A4→Prop)(room:σ→Nat):Prop where
 step:∀q s,Inv q→s.length≤198→∃r e q',wh q s=some ((r,e),q')∧Inv q'∧(∀x,Good q x→Good q' x)∧((e=0∧FS r=true∧Good q' ⟨s,r.page,r.tag⟩∧room q≤room q'+1)∨(e=110∧room q=0))
def jT(wh:Wx σ)(Inv:σ→Prop)(Good:σ→A4→Prop)(room:σ→Nat)(k:Nat)(Run:List A4→Prop)(p:LG)(q:σ)(p':LG)(q':σ):Prop:=
 Inv q'∧(∀x,Good q x→Good q' x)∧((p'.wrong=0∧∃seg,p'.out=p.out++seg∧seg.length=k∧Run seg∧Ul wh q seg q'∧(∀x∈seg,Good q' x)∧room q≤room q'+k)∨(p'.wrong=110∧room q<k))
variable {Inv:σ→Prop}{Good:σ→A4→Prop}{room:σ→Nat}
theorem Sr{x:Dt}{p:LG}{q:σ}(h:p.wrong≠0):KD n wh x p q=some (⟨0,[]⟩,(p,q)):=by
 unfold KD
 rw[zf h]
 rfl
theorem YK{α:Type}(f:α→List UInt8)(m:Nat):∀(l:List α),(∀a∈l,(f a).length≤m)→(l.map f).flatten.length≤m*l.length
 | [],_=>by simp
 | a::l,h=>by
  have h1:=h a zS
  have h2:=YK f m l (fun b hb=>h b (by simp[hb]))
  simp only[List.map_cons,List.flatten_cons,List.length_append,List.length_cons,Nat.mul_add,Nat.mul_one]
  omega
theorem jl{x:Dt}(h:JH x=true):(RA x).length≤198:=by
 unfold RA
 by_cases hk:x.kind=1
 obtain⟨h1,h2,h3,h4,h5,h6,h7⟩:=VX h hk
 have h32:x.ntag.length≤32:=by
  rcases h7 with h7 | h7
  rw[h7.2];simp
  have:=(PX h7).1
  simp only at this
  omega
 have:=YK PF 33 x.rows (fun r hr=>by rw[U5];have:=Ws h6 r hr;omega)
 have h36:=Oi (r:=⟨x.npage,x.ntag⟩) h32
 rw[show decide (x.kind=2)=false by rw[hk];rfl,B0]
 simp only[List.length_append,B4,h36]
 omega
 obtain⟨hk2,h1,h2,h3,h4,h5,h6,h7,h8⟩:=Tv h hk
 have:=YK LY 36 x.kids (fun r hr=>by rw[Oi (by have:=(PX (h1 r hr)).1;omega)];exact Nat.le_refl _)
 rw[show decide (x.kind=2)=true by rw[hk2];rfl,Cs]
 simp only[List.length_append,B4]
 omega
theorem Zt(W:hI wh Inv Good room)(hn:10≤n){x:Dt}{p:LG}{q:σ}(h:JH x=true)(hi:Inv q)(hw:p.wrong=0)(hb:p.out.length≤100000):
  ∃r p' q',KD n wh x p q=some (r,(p',q'))∧(p'.wrong=0→FS r=true)∧jT wh Inv Good room 1 (fun seg=>seg=[⟨RA x,r.page,r.tag⟩]) p q p' q':=by
 obtain⟨r,e,q',h1,h2,h3,h4⟩:=W.step q (RA x) hi (jl h)
 unfold KD
 rw[hw,show(!decide ((0:Int)=0))=false from rfl,B0,ft hn h,AA,show decide ((0:Int)=0)=true from rfl,Cs,h1,AA]
 unfold Yk
 rcases h4 with⟨rfl,h5,h6,h7⟩ | ⟨rfl,h5⟩
 rw[show(!decide ((0:Int)=0))=false from rfl,B0,Do zQ zQ,AA]
 exact⟨r,_,q',rfl,fun _=>h5,h2,h3,.inl ⟨hw,_,rfl,rfl,rfl,⟨q',h1,rfl⟩,fun y hy=>by rw[List.mem_singleton.1 hy];exact h6,h7⟩⟩
 rw[show(!decide ((110:Int)=0))=true from rfl,Cs]
 exact⟨⟨0,[]⟩,_,q',rfl,fun h0=>absurd h0 (show ¬((110:Int)=0) by decide),h2,h3,.inr ⟨rfl,by omega⟩⟩
theorem Z0(W:hI wh Inv Good room)(hn:10≤n):∀(ls:List (List Ak)) (r0:BQ) (p:LG) (q:σ),(∀l∈ls,l.length≤4∧Di l=true)→(r0=⟨0,[]⟩∨FS r0=true)→Inv q→p.wrong=0→p.out.length+ls.length≤100000→
  ∃r p' q',Or n wh ls r0 p q=some (r,(p',q'))∧(p'.wrong=0→FS r=true∨(ls=[]∧r=r0))∧jT wh Inv Good room ls.length (fun seg=>cw ls r0 seg r) p q p' q'
 | [],r0,p,q,hl,h0,hi,hw,hb=>⟨r0,p,q,rfl,fun _=>.inr ⟨rfl,rfl⟩,hi,fun _ h=>h,.inl ⟨hw,[],by simp,rfl,⟨rfl,rfl⟩,rfl,by simp,by simp⟩⟩
 | l::ls,r0,p,q,hl,h0,hi,hw,hb=>by
  obtain⟨l4,lr⟩:=hl l zS
  simp only[List.length_cons]at hb
  have hok:JH (ba l r0)=true:=by
   unfold JH ba
   rw[show decide ((1:Int)=1)=true from rfl,Cs,lr]
   have:(Su ⟨r0.page,r0.tag⟩||FS ⟨r0.page,r0.tag⟩)=true:=by
    rcases h0 with rfl | h0
    rfl
    rw[show FS ⟨r0.page,r0.tag⟩=true from h0];simp
   rw[this]
   simp
   omega
  obtain⟨r1,p1,q1,e1,k1,i1,g1,s1⟩:=Zt W hn hok hi hw zO
  unfold Or
  rw[show KD n wh ⟨1,0,0,0,l,[],r0.page,r0.tag⟩ p q=some (r1,(p1,q1))from e1,AA]
  rcases s1 with⟨w1,seg1,o1,le1,rfl,pa1,go1,ro1⟩ | ⟨w1,ro1⟩
  rw[w1,show(!decide ((0:Int)=0))=false from rfl,B0]
  obtain⟨r,p',q',e2,k2,i2,g2,s2⟩:=Z0 W hn ls r1 p1 q1 (fun q hq=>hl q (by simp[hq])) (.inr (k1 w1)) i1 w1 (by rw[o1];simp;omega)
  refine⟨r,p',q',e2,fun h=>?_,i2,fun x hx=>g2 x (g1 x hx),?_⟩
  rcases k2 h with h | ⟨_,h⟩
  exact .inl h
  rw[h]
  exact .inl (k1 w1)
  rcases s2 with⟨w2,seg2,o2,le2,ru2,pa2,go2,ro2⟩ | ⟨w2,ro2⟩
  refine .inl ⟨w2,_::seg2,by rw[o2,o1];simp,by simp[le2],⟨r1,seg2,hok,rfl,ru2⟩,pa1.join pa2,fun x hx=>?_,?_⟩
  rcases List.mem_cons.1 hx with rfl | hx
  exact g2 _ (go1 _ zS)
  exact go2 x hx
  simp only[List.length_cons]
  omega
  exact .inr ⟨w2,by simp only[List.length_cons];omega⟩
  rw[w1,show(!decide ((110:Int)=0))=true from rfl,Cs]
  exact⟨r1,p1,q1,rfl,fun h=>absurd (w1.symm.trans h) zD,i1,g1,.inr ⟨w1,by simp only[List.length_cons];omega⟩⟩
theorem Tr.rows:∀ {f:Nat} {l:List Ak} {t:CW} ,Tr f l t→t.rows.length≤l.length∧t.kids.length≤4
 | 0,_,_,h=>h.elim
 | f+1,l,t,h=>by
  rcases h with⟨rfl,rfl⟩ | ⟨_,c,L,A,⟨_,rfl⟩ | ⟨_,_,ks,rfl,hk⟩⟩
  simp[CW.rows,CW.kids]
  simp[CW.rows,CW.kids]
  have:=hk.length
  have:=UX L l
  simp only[CW.rows,CW.kids,List.length_nil]
  omega
theorem Sm{rec_:CW→LG→σ→Option (BQ×(LG×σ))}{p:LG}{q:σ}:∀(ks:List CW) (acc:List BQ),(∀k∈ks,∃r,rec_ k p q=some (r,(p,q)))→acc.length+ks.length≤1000→∃rs,LB rec_ ks p q acc=some (acc++rs,(p,q))
 | [],acc,_,_=>⟨[],by simp[LB]⟩
 | k::ks,acc,h,hb=>by
  simp only[List.length_cons]at hb
  obtain⟨r,hr⟩:=h k zS
  obtain⟨rs,h'⟩:=Sm ks (acc++[r]) (fun j hj=>h j (by simp[hj])) zQ
  refine⟨r::rs,?_⟩
  unfold LB
  rw[hr,AA,Do zQ zQ,AA,h']
  simp
theorem Ue.right{α β:Type}{R:α→β→Prop}{xs:List α}{ys:List β}(h:Ue R xs ys):∀y∈ys,∃x∈xs,R x y:=by
 induction h with
 | nil=>simp
 | cons h1 _ ih=>
  intro y hy
  rcases List.mem_cons.1 hy with rfl | hy
  exact⟨_,by simp,h1⟩
  obtain⟨x,hx,hR⟩:=ih y hy
  exact⟨x,by simp[hx],hR⟩
theorem Wm{p:LG}{q:σ}(hw:p.wrong≠0):∀(f:Nat) {l:List Ak} {t:CW},Tr f l t→l.length≤1000→∃r,IP n wh f t p q=some (r,(p,q))
 | 0,_,_,h,_=>h.elim
 | f+1,l,t,h,hl=>by
  have hb:=Tr.rows h
  unfold IP
  rw[if_neg zO]
  by_cases h0:0<(t.kids.length:Int)
  rw[zt h0,Cs]
  have hk:∀k∈t.kids,∃r,IP n wh f k p q=some (r,(p,q)):=by
   rcases h with⟨rfl,rfl⟩ | ⟨_,c,L,A,⟨_,rfl⟩ | ⟨_,_,ks,rfl,hk⟩⟩
   simp[CW.kids]
   simp[CW.kids]
   intro k hkm
   obtain⟨l',hl',hT⟩:=hk.right k hkm
   exact Wm hw f hT (by have:=(RT hl').length_le;omega)
  obtain⟨acc',h'⟩:=Sm (rec_:=IP n wh f) t.kids [] hk zQ
  rw[h',AA,Sr hw]
  exact⟨_,rfl⟩
  rw[zf h0,B0]
  rcases hls:(ON t.rows).reverse with _ | ⟨x,ls⟩
  exact⟨_,rfl⟩
  unfold Or
  rw[Sr hw,AA,zf hw]
  exact⟨_,rfl⟩
theorem Zg{rec_:CW→LG→σ→Option (BQ×(LG×σ))}{R:CW→List A4→BQ→Prop}{g:CW→Nat}:∀(ks:List CW) (acc:List BQ) (p:LG) (q:σ),
  (∀k∈ks,∀p q,Inv q→p.wrong=0→p.out.length+g k≤100000→∃r p' q',rec_ k p q=some (r,(p',q'))∧(p'.wrong=0→FS r=true)∧jT wh Inv Good room (g k) (fun seg=>R k seg r) p q p' q')→
  (∀k∈ks,∀p q,p.wrong≠0→∃r,rec_ k p q=some (r,(p,q)))→Inv q→p.wrong=0→p.out.length+(ks.map g).sum≤100000→acc.length+ks.length≤1000→
  ∃rs p' q',LB rec_ ks p q acc=some (acc++rs,(p',q'))∧(p'.wrong=0→∀r∈rs,FS r=true)∧jT wh Inv Good room (ks.map g).sum (fun seg=>gq R ks seg rs) p q p' q'
 | [],acc,p,q,_,_,hi,hw,_,_=>⟨[],p,q,by simp[LB],by simp,hi,fun _ h=>h,.inl ⟨hw,[],by simp,rfl,⟨rfl,rfl⟩,rfl,by simp,by simp⟩⟩
 | k::ks,acc,p,q,hk,hkw,hi,hw,hb,ha=>by
  simp only[List.map_cons,List.sum_cons,List.length_cons]at hb ha
  obtain⟨r1,p1,q1,e1,k1,i1,g1,s1⟩:=hk k zS p q hi hw zO
  unfold LB
  rw[e1,AA,Do zQ zQ,AA]
  rcases s1 with⟨w1,seg1,o1,le1,ru1,pa1,go1,ro1⟩ | ⟨w1,ro1⟩
  obtain⟨rs,p',q',e2,k2,i2,g2,s2⟩:=Zg ks (acc++[r1]) p1 q1 (fun j hj=>hk j (by simp[hj])) (fun j hj=>hkw j (by simp[hj])) i1 w1 (by rw[o1];simp;omega) zQ
  refine⟨r1::rs,p',q',by simpa using e2,fun h r hr=>?_,i2,fun x hx=>g2 x (g1 x hx),?_⟩
  rcases List.mem_cons.1 hr with rfl | hr
  exact k1 w1
  exact k2 h r hr
  rcases s2 with⟨w2,seg2,o2,le2,ru2,pa2,go2,ro2⟩ | ⟨w2,ro2⟩
  refine .inl ⟨w2,seg1++seg2,by rw[o2,o1];simp,by simp[le1,le2],⟨seg1,r1,seg2,rs,ru1,ru2,rfl,rfl⟩,pa1.join pa2,fun x hx=>?_,?_⟩
  rcases List.mem_append.1 hx with hx | hx
  exact g2 _ (go1 _ hx)
  exact go2 x hx
  simp only[List.map_cons,List.sum_cons]
  omega
  exact .inr ⟨w2,by simp only[List.map_cons,List.sum_cons];omega⟩
  obtain⟨acc',h'⟩:=Sm (rec_:=rec_) (p:=p1) (q:=q1) ks (acc++[r1]) (fun j hj=>hkw j (by simp[hj]) p1 q1 (by rw[w1];decide)) zQ
  exact⟨r1::acc',p1,q1,by simpa using h',fun h=>absurd (w1.symm.trans h) zD,i1,g1,.inr ⟨w1,by simp only[List.map_cons,List.sum_cons];omega⟩⟩
theorem Zr(W:hI wh Inv Good room)(hn:10≤n):∀(f:Nat) (l:List Ak) (t:CW) (p:LG) (q:σ),Tr f l t→Di l=true→Inv q→p.wrong=0→p.out.length+Me f t≤100000→
  ∃r p' q',IP n wh f t p q=some (r,(p',q'))∧(p'.wrong=0→FS r=true)∧jT wh Inv Good room (Me f t) (fun seg=>XV f t seg r) p q p' q'
 | 0,_,_,_,_,h,_,_,_,_=>h.elim
 | f+1,l,t,p,q,h,hr,hi,hw,hb=>by
  have hl:l.length≤1000:=by
   unfold Di at hr
   simp only[Bool.and_eq_true,decide_eq_true_eq]at hr
   omega
  have hbd:=Tr.rows h
  have leaf:t.kids=[]→Di t.rows=true→∃r p' q',IP n wh (f+1) t p q=some (r,(p',q'))∧(p'.wrong=0→FS r=true)∧jT wh Inv Good room (Me (f+1) t) (fun seg=>XV (f+1) t seg r) p q p' q':=by
   intro hk hrr
   have hpg:Me (f+1) t=(ON t.rows).reverse.length:=by rw[Me,if_pos (by rw[hk];rfl),List.length_reverse,RK]
   obtain⟨r,p',q',e,k,i,g,s⟩:=Z0 W hn (ON t.rows).reverse ⟨0,[]⟩ p q (fun x hx=>by
    have:=f6 (List.mem_reverse.1 hx)
    exact⟨this.1,Wr hrr this.2⟩) (.inl rfl) hi hw zO
   refine⟨r,p',q',?_,fun h0=>?_,i,g,?_⟩
   unfold IP
   rw[if_neg zO,zf (by rw[hk];simp),B0]
   exact e
   rcases k h0 with h1 | ⟨h1,_⟩
   exact h1
   have:=congrArg List.length h1
   rw[List.length_reverse,RK,List.length_nil]at this
   omega
   rw[hpg]
   rcases s with⟨w,seg,o,le,ru,pa,go,ro⟩ | s
   exact .inl ⟨w,seg,o,le,⟨⟨by omega,by omega⟩,.inl ⟨hk,ru⟩⟩,pa,go,ro⟩
   exact .inr s
  rcases h with⟨rfl,rfl⟩ | ⟨_,c,L,A,⟨_,rfl⟩ | ⟨h4,hL,ks,rfl,hk⟩⟩
  exact leaf rfl hr
  exact leaf rfl hr
  have hkl:=hk.length
  have hq4:=UX L l
  have hq2:=(RU A hL).1
  have hpg:Me (f+1) (.mk c.x c.y c.lev [] ks)=(ks.map (Me f)).sum+1:=by
   rw[Me,if_neg (by simp only[CW.kids];omega)]
   rfl
  rw[hpg]at hb ⊢
  obtain⟨rs,p1,q1,e1,k1,i1,g1,s1⟩:=Zg (wh:=wh) (Inv:=Inv) (Good:=Good) (room:=room) (rec_:=IP n wh f) (R:=XV f) (g:=Me f) ks [] p q (fun k hkm p q hi hw hb=>by
   obtain⟨l',hl',hT⟩:=hk.right k hkm
   exact Zr W hn f l' k p q hT (Wr hr (RT hl')) hi hw hb) (fun k hkm p q hw=>by
   obtain⟨l',hl',hT⟩:=hk.right k hkm
   exact Wm hw f hT (by have:=(RT hl').length_le;omega)) hi hw zO zQ
  have hrun:IP n wh (f+1) (.mk c.x c.y c.lev [] ks) p q=KD n wh (VR (.mk c.x c.y c.lev [] ks) rs) p1 q1:=by
   unfold IP
   rw[if_neg zO,zt (by simp only[CW.kids];omega),Cs,show(CW.mk c.x c.y c.lev [] ks).kids=ks from rfl,e1,AA]
   rfl
  rw[hrun]
  rcases s1 with⟨w1,seg1,o1,le1,ru1,pa1,go1,ro1⟩ | ⟨w1,ro1⟩
  have hrl:=(gq.len (fun k s r hr=>XV.len f hr) ru1).2
  have hok:JH (VR (.mk c.x c.y c.lev [] ks) rs)=true:=by
   unfold JH VR
   rw[show decide ((2:Int)=1)=false from rfl,B0,show decide ((2:Int)=2)=true from rfl,Cs]
   have h5:rs.all FS=true:=List.all_eq_true.2 (k1 w1)
   have h6:Oh ⟨c.x,c.y,c.lev⟩=true:=A.ok
   have h7:=A.lev
   show(((rs.all FS&&decide ((([]:List Ak).length:Int)=0))&&Su ⟨0,[]⟩&&decide (2≤(rs.length:Int)))&&decide ((rs.length:Int)≤4)&&Oh ⟨c.x,c.y,c.lev⟩&&decide (0<c.lev))=true
   rw[h5,h6,zt (show 2≤(rs.length:Int) by omega),zt (show(rs.length:Int)≤4 by omega),zt (show 0<c.lev by omega)]
   rfl
  obtain⟨r,p',q',e2,k2,i2,g2,s2⟩:=Zt W hn hok i1 w1 (by rw[o1];simp;omega)
  refine⟨r,p',q',e2,k2,i2,fun x hx=>g2 x (g1 x hx),?_⟩
  rcases s2 with⟨w2,seg2,o2,le2,rfl,pa2,go2,ro2⟩ | ⟨w2,ro2⟩
  refine .inl ⟨w2,seg1++[_],by rw[o2,o1];simp,by simp[le1],⟨⟨by simp[CW.rows],by simp only[CW.kids];omega⟩,.inr ⟨by
   intro e
   have:ks=[]:=e
   rw[this,List.length_nil]at hkl
   omega,seg1,rs,ru1,hok,rfl⟩⟩,pa1.join pa2,fun x hx=>?_,by omega⟩
  rcases List.mem_append.1 hx with hx | hx
  exact g2 _ (go1 _ hx)
  exact go2 x hx
  exact .inr ⟨w2,by omega⟩
  rw[Sr (by rw[w1];decide)]
  exact⟨_,p1,q1,rfl,fun h=>absurd (w1.symm.trans h) zD,i1,g1,.inr ⟨w1,by omega⟩⟩
end

section
variable {K:Nat→Prop}{w0:World}{H:List AV}
def lz(a:Int×A4):List Value:=[vI a.1,.agg (AS a.2).toArray]
theorem mo{bx:Nat}{va:Value}{xs:List A4}{G0:List AV}(hn:xs.length≤1048576)(hs:B6 K w0 AS 3 va xs):
  OF Tryz.prog K w0 150 [vP bx 0] [own bx (.cells #[va] 89)] G0 lz (FI xs):=by
 intro lp J9 X T rc hy h0
 refine T3.enter Tryz.func150 rfl rfl ?_
 show SX _ _ _ _ _ _ _ _ _ (own bx (.cells #[va] 89)::((rc::G0)++T))
 refine V (AF 0 Pb E (B3 hs E Iy E (Z E (EF zO zO) (O E (U (AM ?_))))))
 refine SX.mono (BF (α:=Nat×List AV) (fun x=>x.1≤xs.length∧J9 ((FI xs).take x.1) x.2) (fun x=>[(0,vY lp),(1,vP bx 0),(3,vI ((xs.length:Int)-1-(x.1:Int)))])
  (fun x=>own bx (.cells #[va] 89)::(x.2++T)) (fun x=>xs.length-x.1) (fun x D hp=>?_) (0,rc::G0) ⟨Nat.zero_le _,h0⟩) (by simpa using tL)
 obtain⟨k,G⟩:=x
 obtain⟨hk,hJ⟩:=hp
 dsimp only at hk hJ ⊢
 refine AG (V (J E (Z E LT (U ?_))))
 refine Ax E (fun hc1=>?_) (fun hc1=>?_)
 have hlt:k<xs.length:=by
  have:=of_decide_eq_true hc1
  omega
 clear hc1
 have hb:k<(FI xs).length:=by rw[Ji];exact hlt
 have hget:=Xm xs k hlt
 have hx:BB xs ((xs.length:Int)-1-(k:Int))=some (xs[xs.length-1-k]' zO):=by
  rw[BB,if_pos zO,show((xs.length:Int)-1-(k:Int)).toNat=xs.length-1-k by omega]
  exact List.getElem?_eq_getElem _
 refine AI (AH (AG (AM (V (J E (J E (AF 0 Pb E (J E ?_))))))))
 refine DD hx hs E Iy JL E E fun be1 of1 hc1=>?_
 refine Ap (AS _) E P9 E E (DM hc1) ?_
 refine HK (M2:=[_]) (G:=G) (T:=T) (vs:=[_,_]) (ok:=fun G1=>J9 ((FI xs).take (k+1)) G1) (no:=X) E E ⟨E,E,zT⟩ E ?_ (fun bb G1 hG1=>⟨zT,?_⟩)
 intro M
 have:=hy ((FI xs).take k) ((FI xs)[k]) ((FI xs).drop (k+1)) (Z4 _ k hb) G hJ M
 rw[Yw _ k hb,hget]at this
 rw[show((xs.length:Int)-1-(k:Int))=((xs.length-1-k:Nat):Int) by omega]
 exact this
 refine CT E E (U ?_)
 refine Ax E (fun hc3=>?_) (fun hc3=>?_)
 obtain rfl:bb=false:=by simpa using hc3
 refine AJ (BC (Ab (EB (BC ?_))))
 exact Ae (Dr E) (Ad (M:=G1) (.inr hG1) fun _ h=>h.skip [_])
 obtain rfl:bb=true:=by simpa using hc3
 refine AI (Aj (AH (AN (J E (Z E (EF zO zO) ?_)))))
 refine Ai (u:=vI ((xs.length:Int)-1-((k+1:Nat):Int))) E E (congrArg vI zO) ?_
 refine AY ?_
 exact Au (k+1,G1) ⟨hlt,hG1⟩ (by dsimp only;omega) tL (BN [0] 1 E E E)
 have hge:k=xs.length:=by
  have:=of_decide_eq_false hc1
  omega
 subst hge
 rw[List.take_of_length_le (by rw[Ji];exact Nat.le_refl _)]at hJ
 refine A1 (A6 (Ba (A7 ?_)))
 exact DF (Dr E) (Ad (M:=G) (.inl hJ) fun _ h=>h.skip [_])
theorem nW{va:Value}(hva:va.cells=#[va]):zC K w0 113 [va] [] H (fun u M=>∃bx:Nat,u=.func (.func 150) #[] #[vP bx 0]∧M=[own bx (.cells #[va] 89)]):=by
 refine T3.enter Tryz.func113 rfl rfl ?_
 refine V ?_
 refine Bc E E zU fun b1=>?_
 rw[hva]
 refine O E (U (V ?_))
 refine GZ (fv:=#[]) (cv:=#[_]) E E E ?_
 refine O E (U (AJ ?_))
 exact Bm [0] 1 (C1 E E) E E ⟨_,E,E⟩
end

section
variable {K:Nat→Prop}{w0:World}{H:List AV}
end

section
variable {K:Nat→Prop}{w0:World}{H:List AV}
end

section
end

section
variable {K:Nat→Prop}{w0:World}{H:List AV}
end

section
variable {K:Nat→Prop}{w0:World}{H:List AV}
abbrev MR:={s:List UInt8 // s.length≤1048576}
def Wg(s:List UInt8):Option MR:=if h:s.length≤1048576 then some ⟨s,h⟩else none
theorem Yf{s:List UInt8}{k:MR}(h:Wg s=some k):k.1=s:=by
 unfold Wg at h
 split at h
 rw[←zI h]
 cases h
def QG(k:MR):Value:=vS k.1
theorem ef{P:Program}{k:TypeId}(hk:P.underlying k=some .string)(a:MR):∃l,keyOf P k (QG a)=some l:=by
 refine⟨.string a.1,?_⟩
 have:=a.2
 simp[keyOf,hk,mapKey,vS,QG]
 show a.1.length≤maxLen
 simp[maxLen]
 omega
def SY(r:BQ):Value:=.agg (Bz r).toArray
theorem Uj{P:Program}{k:TypeId}(hk:P.underlying k=some .string):NK P k QG SY:=
 ⟨Maps.string_keyed hk,ef hk,⟨fun v=>match v with | .string b=>Wg b.data.toList | _=>none,fun x=>by
  show Wg x.1=some x
  unfold Wg
  rw[dif_pos x.2]⟩,⟨fun v=>match v with | .agg a=>(match a.toList with | [.int _ p,.string b]=>some ⟨UInt32.ofNat p.toNat,b.data.toList⟩ | _=>none) | _=>none,fun x=>by
  cases x
  simp[SY,Bz,Y,vS]⟩⟩
structure OX where
 b:Nat
 rv:Value
 mt:Nat
 d:Nat
 bv:Value
 mp:Nat
 mb:Nat
abbrev Kh(B:OX)(v:Aw)(d:Af):List AV:=
 [own B.b (.cells #[vP B.d 0,B.rv,Y v.gen,Y v.boot,AT v.seals,.map (some B.mt)] 137),AB 55 2 B.rv AX v.ring,Aa B.mt Y vB v.taken,own B.d (.cells #[vB d.off,vB d.isCut,vI d.lasts,vI d.counts,B.bv,.map (some B.mp),.map (some B.mb),AT d.rcnt,vS d.rtag,Y d.rboots] 102),AB 9 1 B.bv eS d.blocks,Aa B.mp Y vS d.pend,Aa B.mb Y vB d.bad]
structure T5 where
 tk:List UInt32
 v:Aw
 d:Af
abbrev Ty(bt bm bv bk:Nat)(B:OX)(th:List (MR×BQ))(a:Value)(q:T5):List AV:=
 own bt (.cells #[.map (some bm)] 207)::Aa bm QG SY th::own bv (.cells #[vP B.b 0] 93)::own bk (.cells #[a] 129)::AB 36 1 a BD q.tk::Kh B q.v q.d
def OS(T:List UInt32)(th:List (MR×BQ)):Wx T5:=fun q s=>
 (Wg s).bind fun k=>cond (Cd th k).isSome (some (((Cd th k).getD ⟨0,[]⟩,0),q))
  ((Gh T q.v q.d s).bind fun y=>cond (decide (y.2.1=0)) ((DR 4 q.tk [y.1.page]).bind fun l=>some ((y.1,y.2.1),⟨l,y.2.2.1,y.2.2.2⟩)) (some ((y.1,y.2.1),⟨q.tk,y.2.2.1,y.2.2.2⟩)))
theorem lR{T:List UInt32}{bt bm bv bk:Nat}{B:OX}{th:List (MR×BQ)}:fJ T 114 #[vP bt 0,vP bv 0,vP bk 0] (Ty bt bm bv bk B th) (OS T th):=by
 intro K w0 H a q s r hS h
 unfold OS at h
 refine AD h fun k hk h=>?_
 have hks:=Yf hk
 refine T3.enter Tryz.func114 rfl rfl ?_
 show SX _ _ _ _ _ _ _ _ _ (Ty bt bm bv bk B th a q++H)
 refine V ?_
 refine Al E FT zU fun b0=>?_
 refine O E (U (AG (V (AF 1 nE E (J E ?_)))))
 refine ZS (zv:=(⟨0,[]⟩:BQ)) 2 (Uj Cj) E nP FT E (by rw[←hks];rfl) E ?_
 refine J E (Ac E E E (Ac E E E ?_))
 refine Al E FT zU fun b1=>?_
 refine A5 0 E E E E Ek E E E zT (N1 0 (own b1 (.cells #[Y ((Cd th k).getD ⟨0,[]⟩).page,vS ((Cd th k).getD ⟨0,[]⟩).tag] 146)) (O E (U (V (J E (U ?_))))))
 refine AL h E (fun hc1 h=>?_) fun hc1 h=>?_
 obtain rfl:=zI h
 refine V (Ap (Bz ((Cd th k).getD ⟨0,[]⟩)) E DK E E (Ah 0 E) (A5 1 E E E E Ek E E E zT (O E (U (AJ (Ab ?_))))))
 exact Ae (EN E (B9 1 (Bz ((Cd th k).getD ⟨0,[]⟩)) DK E E E E) E) (Ad (M:=Ty bt bm bv bk B th a q) ⟨E,a,E⟩ fun _ hw=>BX.pick (H:=[_,_]) hw [] 2 E)
 refine AD h fun y hy h=>?_
 refine AI (AH (V (AF 4 Rp E (J E ?_))))
 refine SL.heap (H':=Kh B q.v q.d++([_,_,_,_,_,_,_]++H)) ?_ (fun _ hw=>GK (A:=[_,_,_,_,_,_,_]) (B:=Kh B q.v q.d) (R:=H) hw)
 have hcon:=dV (K:=K) (w0:=w0) (H:=([own b1 (.cells #[Y ((Cd th k).getD ⟨0,[]⟩).page,vS ((Cd th k).getD ⟨0,[]⟩).tag] 146),own b0 (.cells #[Y 0,vS []] 146),own bt (.cells #[.map (some bm)] 207),Aa bm QG SY th,own bv (.cells #[vP B.b 0] 93),own bk (.cells #[a] 129),AB 36 1 a BD q.tk]++H)++[BR []]) (Ao:=B.b) (AZ:=B.rv) (BA:=B.mt) (BE:=B.d) (Bv:=B.bv) (Bs:=B.mp) (Bt:=B.mb) hy hS
 refine Bg (vs:=[_,_]) (Hin:=Kh B q.v q.d) (Hr:=[_,_,_,_,_,_,_]++H) E E ⟨E,E,zT⟩ oV E E hcon ?_
 rintro _ _ ⟨rfl,rfl⟩
 refine⟨trivial,?_⟩
 refine SL.heap (H':=[_,_,_,_,_,_,_]++(Kh B y.2.2.1 y.2.2.2++H)) ?_ (fun _ hw=>GK (A:=Kh B y.2.2.1 y.2.2.2) (B:=[_,_,_,_,_,_,_]) (R:=H) hw)
 refine J E (Ac E E E (Ac E E E ?_))
 refine Al E FT zU fun b2=>?_
 refine A5 0 E E E E Ek E E E zT (N1 0 (own b2 (.cells #[Y y.1.page,vS y.1.tag] 146)) (O E (U ?_)))
 refine A9 (α:=List UInt32×Value) (fun w=>some ((y.1,y.2.1),(⟨w.1,y.2.2.1,y.2.2.2⟩:T5))=some r) (fun w=>[(9,vP b2 0),(10,vI y.2.1),(5,vP b0 0)])
  (fun w=>own b2 (.cells #[Y y.1.page,vS y.1.tag] 146)::own b0 (.cells #[Y 0,vS []] 146)::(Ty bt bm bv bk B th w.2 ⟨w.1,y.2.2.1,y.2.2.2⟩++H)) ?_ (fun w D h=>?_)
 refine V (J E (Z E Bq (U ?_)))
 refine AL h E (fun hc2 h=>?_) fun hc2 h=>?_
 refine AD h fun l hl h=>?_
 refine AN (AF 6 gW E (AE E FR (AF 0 A2 E ?_)))
 refine CD [_] rfl CF Bd H8 ⟨rfl,trivial⟩ rfl rfl rfl zW rfl rfl zU fun b3=>?_
 refine CH BD 1 ([y.1.page]:List UInt32) E zV E ?_
 refine C5 8 hl (sz:=1) (enc:=BD) zV E CF Bd Qc H8 E zD E E E E (CL (sz:=1) (enc:=BD) 0 zV E) (by simp[BD,Value.oneCell']) zU fun v3=>?_
 refine C8 8 E fun hv3 ho3=>?_
 refine EA 7 E E E E gc hv3 ho3 E zT (AY ?_)
 exact Aq (l,v3) h tL (BN [1,3,4,5,6,7,8] 9 E E E)
 refine AI ?_
 exact Aq (q.tk,a) h tL (BN [0,2,3,4,5,6,7] 8 E E E)
 obtain⟨l,v3⟩:=w
 obtain rfl:=zI h
 dsimp only
 refine V (Ap (Bz y.1) E DK E E (Ah 0 E) (J E (A5 1 E E E E Ek E E E zT (O E (U (AJ ?_))))))
 exact Ae (EN E (B9 1 (Bz y.1) DK E E E E) E) (Ad (M:=Ty bt bm bv bk B th v3 ⟨l,y.2.2.1,y.2.2.2⟩) ⟨E,v3,E⟩ fun _ hw=>BX.pick (H:=[_,_]) hw [] 2 E)
end

section
variable {K:Nat→Prop}{w0:World}{H:List AV}
def Ra:List (Int×A4)→List (MR×BQ)→Option (List (MR×BQ))
 | [],m=>some m
 | s::l,m=>(Wg s.2.txt).bind fun k=>(NC m k ⟨s.2.page,s.2.tag⟩).bind fun m'=>Ra l m'
def Sj:List UInt32→Aw→Af→Option Aw
 | [],v,_=>some v
 | x::l,v,d=>(IH v d x).bind fun y=>Sj l y.2 d
def cL(y:BQ×(LG×T5)):Option (List A4×Int×Aw×Af):=
 cond (!decide (y.2.1.wrong=0)) (if 1048576<y.2.2.tk.length then none else(Sj y.2.2.tk y.2.2.v y.2.2.d).bind fun v'=>some ([],y.2.1.wrong,v',y.2.2.d)) (some (y.2.1.out,0,y.2.2.v,y.2.2.d))
def Sy(n:Nat)(T:List UInt32)(p0:Aw)(p0_1:Af)(p1:List Ak)(p2:List A4):Option (List A4×Int×Aw×Af):=
 (TK n p1).bind fun b=>cond (!decide (b.2=0)) (some ([],b.2,p0,p0_1))
  (if 1048576<p2.length then none else(Ra (FI p2) []).bind fun th=>(IP n (OS T th) n b.1 ⟨[],0⟩ ⟨[],p0,p0_1⟩).bind cL)
theorem jL{n Ao BA BE Bs Bt:Nat}{T:List UInt32}{AZ Bv Ea GX:Value}{p0:Aw}{p0_1:Af}{p1:List Ak}{p2:List A4}{r:List A4×Int×Aw×Af}(h:Sy n T p0 p0_1 p1 p2=some r)(hS:Ge K w0 T)(hs1_:B6 K w0 AU 4 Ea p1)(hs2_:B6 K w0 AS 3 GX p2):
  zC K w0 83 [vP Ao 0,Ea,GX] (Kh ⟨Ao,AZ,BA,BE,Bv,Bs,Bt⟩ p0 p0_1) H (fun u M=>∃v0:Value,u=.tuple #[v0,vI r.2.1]∧M=AB 148 3 v0 AS r.1::Kh ⟨Ao,AZ,BA,BE,Bv,Bs,Bt⟩ r.2.2.1 r.2.2.2):=by
 unfold Sy at h
 refine AD h fun b hb h=>?_
 refine T3.enter Tryz.func83 rfl rfl ?_
 show SX _ _ _ _ _ _ _ _ _ (Kh ⟨Ao,AZ,BA,BE,Bv,Bs,Bt⟩ p0 p0_1++H)
 refine V ?_
 refine Bc E E zU fun b0=>?_
 refine O E (O E (U (AG (V (AF 0 Rp E (EL E eq E E (U (Cx E (AI (AH (V (J E ?_))))))))))))
 refine Bg (vs:=[_]) (Hin:=[]) (Hr:=_::(Kh ⟨Ao,AZ,BA,BE,Bv,Bs,Bt⟩ p0 p0_1++H)) E E ⟨E,zT⟩ oS E E (nX hb hs1_) ?_
 rintro _ _ ⟨nv,L,rfl,hnz,rfl⟩
 refine⟨trivial,?_⟩
 refine J E (Ac E E E (Ac E E E ?_))
 refine Al E Ir zU fun b1=>?_
 refine A5 0 E E E E Io E (List.all_eq_true.2 (OA nv)) E zT (N1 0 (own b1 (.cells (C6 nv).toArray 204)) (O E (U (AG (V (J E (Z E BJ (U ?_))))))))
 refine AL h E (fun hc2 h=>?_) fun hc2 h=>?_
 obtain rfl:=zI h
 refine V (J E (O E (O E (U (AJ (Ab (O6 148 3 AS ?_)))))))
 exact Ae (Ef E E E) (Ad (M:=_::Kh ⟨Ao,AZ,BA,BE,Bv,Bs,Bt⟩ p0 p0_1) ⟨_,E,E⟩ fun _ hw=>BX.pick (H:=[_,_,_,_]) hw [0] 4 E)
 split at h
 cases h
 rename_i hbig
 obtain⟨th,hth,h3⟩:=EE h
 clear h
 obtain⟨y,hy,h⟩:=EE h3
 clear h3
 refine AI (AH (V ?_))
 refine TE QG SY E zU fun bm=>?_
 refine Al E td zU fun b2=>?_
 refine A5 0 E E E E tG E E E zT (N1 0 (own b2 (.cells #[.map (some bm)] 207)) (U (AG (V (J E ?_)))))
 refine Bg (vs:=[_]) (Hin:=[]) (Hr:=_::_::_::_::_::(Kh ⟨Ao,AZ,BA,BE,Bv,Bs,Bt⟩ p0 p0_1++H)) E E ⟨E,zT⟩ oT E E (nW hs2_.one) ?_
 rintro _ _ ⟨bx,rfl,rfl⟩
 refine⟨trivial,?_⟩
 refine U (AM ?_)
 refine MT (enc:=lz) (FI p2) (G0:=(own b2 (.cells #[.map (some bm)] 207)::Aa bm QG SY []::own b1 (.cells (C6 nv).toArray 204)::IM L::own b0 (.cells #[vP Ao 0] 93)::(Kh ⟨Ao,AZ,BA,BE,Bv,Bs,Bt⟩ p0 p0_1++H))) (fun pre G=>∃m:List (MR×BQ),(∀suf,FI p2=pre++suf→Ra suf m=some th)∧G=(own b2 (.cells #[.map (some bm)] 207)::Aa bm QG SY m::own b1 (.cells (C6 nv).toArray 204)::IM L::own b0 (.cells #[vP Ao 0] 93)::(Kh ⟨Ao,AZ,BA,BE,Bv,Bs,Bt⟩ p0 p0_1++H))) (fun c G=>False) E ol E zV (mo zO hs2_) E ⟨[],fun suf e=>by rw[←show FI p2=suf from e];exact hth,E⟩ (fun pre x suf G hxs hJ lr lp Rest=>?_) (fun G D hJ=>?_) (fun c G D hX=>hX.elim)
 obtain⟨m,hm,rfl⟩:=hJ
 have h1:=hm (x::suf) hxs
 rw[Ra]at h1
 obtain⟨k,hk,h1⟩:=EE h1
 obtain⟨m1,hm1,h1⟩:=EE h1
 have hks:=Yf hk
 refine AN ?_
 refine Al E OW zU fun b3=>?_
 refine A5 0 E E E E JL E E E zT (AY ?_)
 refine Jz (G:=own b3 (.cells #[vS x.2.txt,Y x.2.page,vS x.2.tag] 148)::(own b2 (.cells #[.map (some bm)] 207)::Aa bm QG SY m::own b1 (.cells (C6 nv).toArray 204)::IM L::own b0 (.cells #[vP Ao 0] 93)::(Kh ⟨Ao,AZ,BA,BE,Bv,Bs,Bt⟩ p0 p0_1++H))) ?_
 refine AM (AN (AF 1 nE rfl (AE rfl mN (AF 0 Gd rfl (AE rfl JZ (Ap [Y x.2.page,vS x.2.tag] rfl DK rfl rfl (Cw 0 rfl (by rintro(_ | (_ | j)) u hj<;>first | exact hj | exact absurd hj zS)) ?_))))))
 refine QY (a:=(⟨x.2.page,x.2.tag⟩:BQ)) 2 hm1 (Uj Cj) E nP E (by rw[QG,hks];rfl) E E zT ?_
 refine AY (Aj ?_)
 exact Hg ⟨m1,fun suf' e=>by rw[Vf hxs e];exact h1,E⟩ (BN [] 1 E E E)
 obtain⟨m,hm,rfl⟩:=hJ
 have h1:=hm [] (List.append_nil _).symm
 obtain rfl:m=th:=zI h1
 refine Aj (AH (V ?_))
 refine Al E tY zU fun b3=>?_
 refine N1 0 (own b3 (.cells #[zN] 129)) (CB 36 1 BD (U (V ?_)))
 refine GZ (fv:=#[]) (cv:=#[_,_,_]) E E E ?_
 refine B5 [_] E so sZ te ⟨E,zT⟩ E ?_
 refine Bc E E zU fun b4=>?_
 refine CB 148 3 AS (O E (U ?_))
 have hcon:=Co (K:=K) (w0:=w0) (H:=(own b1 (.cells (C6 nv).toArray 204)::H)++[BR D]) (f:=116) (B:=[IM L]) (Hin:=Lp b4 (.func (.func 114) #[] #[vP b2 0,vP b0 0,vP b3 0]) (.slice none 0 0) ⟨[],0⟩::AB 148 3 (.slice none 0 0) AS []::Ty b2 bm b0 b3 (⟨Ao,AZ,BA,BE,Bv,Bs,Bt⟩:OX) m (.slice none 0 0) ⟨[],p0,p0_1⟩) fun K' w1 hkk hB=>
  Rg (C:=Ty b2 bm b0 b3 (⟨Ao,AZ,BA,BE,Bv,Bs,Bt⟩:OX) m) (bp:=b4) (vo:=.slice none 0 0) (ca:=.slice none 0 0) (cs:=#[vP b2 0,vP b0 0,vP b3 0]) oU lR n (hS.keeps hkk) hy (hnz.lent (hB _ zS))
 generalize hpo:(fun(u:Value) (M:List AV)=>∃M',M=[IM L]++M'∧(u=.agg (Bz y.1).toArray∧∃vo' ca',M'=Lp b4 (.func (.func 114) #[] #[vP b2 0,vP b0 0,vP b3 0]) vo' y.2.1::AB 148 3 vo' AS y.2.1.out::Ty b2 bm b0 b3 (⟨Ao,AZ,BA,BE,Bv,Bs,Bt⟩:OX) m ca' y.2.2))=po at hcon
 refine V (J E (Ap (C6 nv) E NV E E (Ah 6 E) ?_))
 refine SL.heap (H':=([IM L]++(Lp b4 (.func (.func 114) #[] #[vP b2 0,vP b0 0,vP b3 0]) zN ⟨[],0⟩::AB 148 3 zN AS []::Ty b2 bm b0 b3 (⟨Ao,AZ,BA,BE,Bv,Bs,Bt⟩:OX) m zN ⟨[],p0,p0_1⟩))++(own b1 (.cells (C6 nv).toArray 204)::H)) ?_ (BN [7,1,0,4,5,8,3,2,9,10,11,12,13,14,15,6] 16 E E E)
 refine Bg (vs:=[_,_]) (Hin:=[IM L]++(Lp b4 (.func (.func 114) #[] #[vP b2 0,vP b0 0,vP b3 0]) zN ⟨[],0⟩::AB 148 3 zN AS []::Ty b2 bm b0 b3 (⟨Ao,AZ,BA,BE,Bv,Bs,Bt⟩:OX) m zN ⟨[],p0,p0_1⟩)) (Hr:=own b1 (.cells (C6 nv).toArray 204)::H) E E ⟨E,E,zT⟩ hU E E hcon ?_
 intro u0 M0 hpost
 rw[←hpo]at hpost
 obtain⟨_,rfl,rfl,vo,ca,rfl⟩:=hpost
 refine⟨trivial,?_⟩
 refine U ?_
 unfold cL at h
 refine AG (V (J E (AQ E E (AE E Sh (AF 1 Qo E (Z E BJ (U ?_)))))))
 refine AL h E (fun hc3 h=>?_) fun hc3 h=>?_
 split at h
 cases h
 rename_i hbt
 refine AD h fun v' hv' h=>?_
 obtain rfl:=zI h
 refine AG (V (AF 6 gW E (Dj 7 E CF E E (J E (U (AM ?_))))))
 refine SX.heap (SX.mono (BF (α:=Nat×Aw) (fun x=>x.1≤y.2.2.tk.length∧Sj (y.2.2.tk.drop x.1) x.2 y.2.2.d=some v') (fun x=>[(3,vP b0 0),(14,vP b4 0),(48,ca),(49,vI (y.2.2.tk.length:Int)),(50,vI (x.1:Int))])
  (fun x=>Lp b4 (.func (.func 114) #[] #[vP b2 0,vP b0 0,vP b3 0]) vo y.2.1::own b0 (.cells #[vP Ao 0] 93)::AB 36 1 ca BD y.2.2.tk::(Kh (⟨Ao,AZ,BA,BE,Bv,Bs,Bt⟩:OX) x.2 y.2.2.d++H))
  (fun x=>y.2.2.tk.length-x.1) (fun x D hp=>?_) (0,y.2.2.v) ⟨Nat.zero_le _,hv'⟩) tL) (BN [1,5,7,8,9,10,11,12,13,14] 16 rfl rfl rfl)
 obtain⟨i,v1⟩:=x
 obtain⟨hi,hg⟩:=hp
 dsimp only at hi hg ⊢
 refine V (Z E A8 (U (AG ?_)))
 refine Ax E (fun hc4=>?_) (fun hc4=>?_)
 have hlt:i<y.2.2.tk.length:=by
  have:=of_decide_eq_true hc4
  omega
 clear hc4
 have hnth:BB y.2.2.tk (i:Int)=some y.2.2.tk[i]:=by
  rw[BB,if_pos zO]
  exact List.getElem?_eq_getElem hlt
 rw[List.drop_eq_getElem_cons hlt,Sj]at hg
 refine AD hg fun z hz hg=>?_
 refine AI (AH (AG (AM (V ?_))))
 refine B2 2 hnth E CF Bd E E E fun g1 m1 cp1 hv1=>?_
 refine Bk E A2 E (Br (sz:=1) (enc:=BD) 2 0 zV E hv1 hnth E) ?_
 refine O E (U (AN (AF 1 Rp E (J E ?_))))
 refine SL.heap (H':=Kh (⟨Ao,AZ,BA,BE,Bv,Bs,Bt⟩:OX) v1 y.2.2.d++([_,_,_]++H)) ?_ (fun _ hw=>GK (A:=[_,_,_]) (B:=Kh (⟨Ao,AZ,BA,BE,Bv,Bs,Bt⟩:OX) v1 y.2.2.d) (R:=H) hw)
 have hcon:=X6 (K:=K) (w0:=w0) (H:=([Lp b4 (.func (.func 114) #[] #[vP b2 0,vP b0 0,vP b3 0]) vo y.2.1,own b0 (.cells #[vP Ao 0] 93),AB 36 1 ca BD y.2.2.tk]++H)++[BR D]) (Ao:=Ao) (AZ:=AZ) (BA:=BA) (BE:=BE) (Bv:=Bv) (Bs:=Bs) (Bt:=Bt) hz
 refine Bg (vs:=[_,_]) (Hin:=Kh (⟨Ao,AZ,BA,BE,Bv,Bs,Bt⟩:OX) v1 y.2.2.d) (Hr:=[_,_,_]++H) E E ⟨E,E,zT⟩ hY E E hcon ?_
 rintro _ _ ⟨rfl,rfl⟩
 refine⟨trivial,?_⟩
 refine SL.heap (H':=[_,_,_]++(Kh (⟨Ao,AZ,BA,BE,Bv,Bs,Bt⟩:OX) z.2 y.2.2.d++H)) ?_ (fun _ hw=>GK (A:=Kh (⟨Ao,AZ,BA,BE,Bv,Bs,Bt⟩:OX) z.2 y.2.2.d) (B:=[_,_,_]) (R:=H) hw)
 refine AY (Aj (AH (AN (Z E (Bf zO zO) (J E (AY ?_))))))
 exact Au (i+1,z.2) ⟨hlt,hg⟩ (by dsimp only;omega) tL (BN [0,1,2] 3 E E E)
 have hge:i=y.2.2.tk.length:=by
  have:=of_decide_eq_false hc4
  omega
 subst hge
 rw[List.drop_length,Sj]at hg
 obtain rfl:v1=v':=zI hg
 refine A1 (A6 (Ba (A7 (AH (AG (Av DH [0] (CA [(true,0),(true,1),(true,2),(true,3),(true,4),(true,5)] .nil) zK (J E (AQ E E (AE E Sh (AF 0 Qo E (O E (O E (U (AJ (Ab (O6 148 3 AS ?_))))))))))))))))
 exact Ae (Ef E E E) (Ad (M:=_::Kh (⟨Ao,AZ,BA,BE,Bv,Bs,Bt⟩:OX) v1 y.2.2.d) ⟨_,E,E⟩ fun _ hw=>BX.pick (H:=[_,_,_,_]) hw [0] 4 E)
 obtain rfl:=zI h
 refine AI (AH (V (J E (AQ E E (AE E YR (AF 1 Pb E (O E (O E (U (AJ ?_))))))))))
 exact Ae (Ef E E E) (Ad (M:=AB 148 3 vo AS y.2.1.out::Kh (⟨Ao,AZ,BA,BE,Bv,Bs,Bt⟩:OX) y.2.2.v y.2.2.d) ⟨_,E,E⟩ fun _ hw=>BX.pick (H:=[_,_,_,_,_,_,_,_,_,_,_,_,_,_,_,_]) hw [2,8,9,10,11,12,13,14] 16 E)
end

section
structure uu where
 out:List A4
 rows:List Ak
 count:Int
end

section
variable {K:Nat→Prop}{w0:World}{H:List AV}
end

section
variable {K:Nat→Prop}{w0:World}{H:List AV}
end

section
variable {K:Nat→Prop}{w0:World}{H:List AV}
end

section
def tq(l:List Ak):Prop:=l.Pairwise fun a b=>a.id≤b.id
inductive SB (bs:Nat):List Ak→Prop
 | last (S:List Ak):S.length≤bs→tq S→SB bs S
 | more (S R:List Ak):S.length=bs→tq S→SB bs R→SB bs (S++R)
end

section
variable {n:Nat}{T:List UInt32}{v:Aw}{d:Af}
end

section
theorem cw.lastE:∀ {ls:List (List Ak)} {r0 r:BQ} {seg:List A4} ,ls≠[]→cw ls r0 seg r→∃a s,seg=a++[⟨s,r.page,r.tag⟩]
 | [],_,_,_,h,_=>absurd rfl h
 | l::ls,r0,seg,r,_,h=>by
  obtain⟨r1,seg',h1,rfl,h2⟩:=h
  rcases ls with _ | ⟨l2,ls⟩
  obtain⟨rfl,rfl⟩:=h2
  exact⟨[],_,rfl⟩
  obtain⟨a,s,rfl⟩:=cw.lastE zS h2
  exact⟨_::a,s,rfl⟩
theorem XV.lastE{f:Nat}{t:CW}{seg:List A4}{r:BQ}(h:XV f t seg r):∃a s,seg=a++[⟨s,r.page,r.tag⟩]:=by
 cases f with
 | zero=>exact h.elim
 | succ f=>
  rcases h.2 with⟨_,h2⟩ | ⟨_,segs,rs,_,_,rfl⟩
  refine cw.lastE ?_ h2
  intro e
  have:=congrArg List.length e
  rw[List.length_reverse,RK,List.length_nil]at this
  omega
  exact⟨segs,_,rfl⟩
end



section
theorem kg{n:Int}(h0:0≤n)(h1:n≤1048576):FO n=some (List.replicate n.toNat 0):=by
 unfold FO gB
 rw[if_pos ⟨h0,by omega,by omega⟩,AA]
def V7(d:Af):Bool := !(d.isCut&&decide (d.lasts=0)||d.off)
def OP(d:Af):Af:={ d with lasts:=if d.isCut then wI (d.lasts-1)else d.lasts,counts:=wI (d.counts+1) }
def br(d:Af):Af:={ d with off:=true }
theorem TT(d:Af):Dl d=some (if V7 d then(0,OP d)else(71,br d)):=by
 obtain⟨off,isCut,lasts,counts,bl,pd,bd,rc,rt,rb⟩:=d
 unfold Dl Ew Ex
 by_cases h0:lasts=0<;>cases off<;>cases isCut<;>simp[V7,OP,br,h0]
def mc(d:Af)(r:Af):Int×Af:=if V7 d then(0,r)else(71,br d)
theorem bV(d:Af)(p:UInt32):Oy d p=some (decide (p.toNat<d.blocks.length)):=by
 unfold Oy
 rw[Be]
 congr 1
 simp
theorem ke{d:Af}{p:UInt32}{s:List UInt8}(hp:p.toNat<d.blocks.length)(hs:s.length=256)(hm:d.pend.length<9223372036854775807):Iw d p s=some (mc d { OP d with pend:=In d.pend p s }):=by
 unfold Iw KL
 rw[bV,AA,Be,zt hp,hs]
 simp only[TT,AA]
 cases h:V7 d
 simp[mc,h,br]
 simp only[mc,h,if_true]
 have:(OP d).pend=d.pend:=rfl
 simp[NC,this,hm]
def H5(d:Af)(p:UInt32):List UInt8:=(Cd d.pend p).getD (d.blocks.getD p.toNat [])
theorem jt{d:Af}{p:UInt32}(hp:p.toNat<d.blocks.length):Sb d p=some (H5 d p):=by
 unfold Sb H5
 rw[Be,Be]
 cases h:Cd d.pend p with
 | some s=>simp
 | none=>
  rw[Dp,List.getElem?_eq_getElem hp]
  simp[hp]
theorem mz{d:Af}{p:UInt32}(hp:p.toNat<d.blocks.length):ME d p=some (if d.off then([],71)else if(Cd d.bad p).getD false then([],70)else(H5 d p,0)):=by
 unfold ME
 rw[bV,AA,Be,zt hp,jt hp]
 cases d.off
 cases h:(Cd d.bad p).getD false<;>simp[Be,h]
 simp
theorem qb{n:Int}(h1:4≤n)(h2:n≤4096):Jk n=some (some { off:=false,isCut:=false,lasts:=0,counts:=0,blocks:=List.replicate n.toNat (List.replicate 256 0),pend:=[],bad:=[],rcnt:=0,rtag:=List.replicate 32 0,rboots:=0 },0):=by
 unfold Jk Sv cQ
 have e:(decide (n<4)||decide (4096<n))=false:=by simp;omega
 rw[e,B0]
 simp only[AA]
 rw[if_pos zS,AA,if_pos zS,AA,if_pos ⟨by omega,by omega⟩,AA]
 rfl
theorem qc{d r:Af}(h:V7 d=true):mc d r=(0,r):=by simp[mc,h]
end



section
theorem Yn(l:List BI)(hl:l.length≤1048576){n:Nat}(hm:16<n):HD n l=some (Dm l):=by
 unfold HD Dm
 by_cases h16:l.length≤16
 rw[show decide (16<(l.length:Int))=false by simp;omega,show decide (l.length≤16)=true by simp[h16]]
 simp only[B0,Bool.true_and]
 unfold KC
 refine(congrArg (CN _ n) ?_).trans ((jz (fun i=>(Ke l i,(i:Int))) (fun i=>some (((LN l).drop i).all (·.2))) l.length (fun i hi k hk=>?_) (fun k=>?_) zO).trans ?_)
 rfl
 have ei:((i+1:Nat):Int)=(i:Int)+1:=zO
 have st:(LN l).drop i=((l.getD i Gi).gen,OO l i)::(LN l).drop (i+1):=by
  rw[List.drop_eq_getElem_cons (by rw[QK];exact hi)]
  congr 1
  exact zI ((List.getElem?_eq_getElem _).symm.trans (UL l i hi))
 dsimp only at hk ⊢
 rw[st,List.all_cons]
 simp only[GU,show decide ((i:Int)<(l.length:Int))=true by simp;omega,Cs]
 rw[C9 (k:=i) Gi rfl hi,AA,AA]
 have hko:OO l i = !((decide ((l.getD i Gi).gen≤Ke l i))||(!decide (((l.getD i Gi).secret.length:Int)=32))):=by
  unfold OO
  rw[Bool.not_or,Bool.not_not]
  congr 1
  rw[Bool.eq_iff_iff]
  simp[UInt32.not_le]
 generalize hg:(decide ((l.getD i Gi).gen≤Ke l i))=p at hko
 generalize (!decide (((l.getD i Gi).secret.length:Int)=32))=q at hko
 have ho:Sq p (some q)=some (p||q):=by cases p<;>rfl
 rw[ho,AA,hko]
 cases hpq:(p||q)with
 | true=>simp only[Cs,Bool.not_true,Bool.false_and]
 | false=>
  simp only[B0,Bool.not_false,Bool.true_and]
  rw[AA,Be,Cm zO zO,←ei]
  exact hk
 simp only[GU,show decide ((l.length:Int)<(l.length:Int))=false by simp,B0,KB]
 rw[List.drop_of_length_le (by rw[QK];exact Nat.le_refl _)]
 rfl
 simp
 rw[show decide (16<(l.length:Int))=true by simp;omega,show decide (l.length≤16)=false by simp;omega]
 rfl
theorem iq(l:List BI)(g:UInt32)(hl:l.length≤1048576){n:Nat}(hm:16<n):Jn n l g=some (DW l g):=by
 unfold Jn
 rw[Yn l hl hm,AA]
 cases hr:Dm l with
 | false=>
  simp only[Bool.not_false,Cs]
  unfold DW
  rw[if_pos hr]
  rfl
 | true=>
  simp only[Bool.not_true,B0]
  have h16:=((OB l).1 hr).1
  unfold K8
  have hno:(∀k∈l,k.gen≠g)→DW l g=(Gi,41):=fun h=>by
   unfold DW
   rw[if_neg (by simp[hr])]
   split
   rename_i k hk
   rw[if_neg (h k (List.mem_of_getElem? hk))]
   rfl
  refine(congrArg (CN _ n) ?_).trans (j0 (fun i=>((0:UInt32),([]:List UInt8),(i:Int))) (fun i=>∀k∈l.take i,k.gen≠g) l.length (fun i hi hp k hk=>?_) (fun hp k=>?_) zS zO)
  rfl
  have ei:((i+1:Nat):Int)=(i:Int)+1:=zO
  have hgi:l[i]? = some (l.getD i Gi):=Jq Gi hi
  dsimp only at hk ⊢
  simp only[HC,show decide ((i:Int)<(l.length:Int))=true by simp;omega,Cs]
  rw[C9 (k:=i) Gi rfl hi,AA]
  by_cases hg:(l.getD i Gi).gen=g
  rw[show decide ((l.getD i Gi).gen=g)=true by simp only[hg,decide_true]]
  simp only[Cs]
  rw[AA,Zc.2 ⟨hr,List.mem_of_getElem? hgi,hg⟩]
  rw[show decide ((l.getD i Gi).gen=g)=false by simp only[hg,decide_false]]
  simp only[B0]
  rw[Be,Cm zO zO,←ei]
  refine hk fun k' hk'=>?_
  rw[List.take_add_one,hgi]at hk'
  rcases List.mem_append.1 hk' with h | h
  exact hp k' h
  simp only[Option.toList_some,List.mem_singleton]at h
  rw[h];exact hg
  simp only[HC,show decide ((l.length:Int)<(l.length:Int))=false by simp,B0,K7]
  rw[List.take_length]at hp
  rw[hno hp]
  rfl
end

section
def gG(a b c d:UInt8):UInt32:=((a.toUInt32 ||| shl32 b.toUInt32 8) ||| shl32 c.toUInt32 16) ||| shl32 d.toUInt32 24
def Om(b:List UInt8):UInt32:=gG (b.getD 0 0) (b.getD 1 0) (b.getD 2 0) (b.getD 3 0)
theorem Sz(b:UInt8)(k:Nat)(h:k≤24):(shl32 b.toUInt32 k).toNat=b.toNat*2^k:=by
 have h1:=b.toNat_lt
 simp only[shl32,UInt32.toNat_ofNat',Nat.min_eq_left (show k≤32 by omega),UInt8.toNat_toUInt32]
 refine Nat.mod_eq_of_lt ?_
 calc b.toNat*2^k<2^8*2^k:=Nat.mul_lt_mul_of_pos_right h1 (Nat.two_pow_pos k)
  _=2^(8+k):=(Nat.pow_add 2 8 k).symm
  _≤2^32:=Nat.pow_le_pow_right zD zO
theorem bq{u v k:Nat}(h:u<2^k):u ||| v*2^k=u+v*2^k:=by
 rw[Nat.or_comm,Nat.mul_comm,←Nat.two_pow_add_eq_or_of_lt h,Nat.add_comm]
theorem gH(a b c d:UInt8):(gG a b c d).toNat=a.toNat+b.toNat*2^8+c.toNat*2^16+d.toNat*2^24:=by
 have ha:=a.toNat_lt
 have hb:=b.toNat_lt
 have hc:=c.toNat_lt
 unfold gG
 rw[UInt32.toNat_or,UInt32.toNat_or,UInt32.toNat_or,Sz _ 8 zD,Sz _ 16 zD,Sz _ 24 zD,UInt8.toNat_toUInt32]
 rw[bq (u:=a.toNat) (k:=8) zO,bq (k:=16) zO,bq (k:=24) zO]
theorem eF(x:UInt32)(r:List UInt8):Om (Ca x.toUInt64 4++r)=x:=by
 apply UInt32.toNat_inj.1
 have hx:=x.toNat_lt
 unfold Om
 rw[gH]
 simp only[N9 _ 4 _ (show 0<4 by decide),N9 _ 4 _ (show 1<4 by decide),N9 _ 4 _ (show 2<4 by decide),N9 _ 4 _ (show 3<4 by decide),UInt64.toNat_toUInt8]
 rw[Kg _ _ zD,Kg _ _ zD,Kg _ _ zD,Kg _ _ zD]
 simp only[UInt32.toNat_toUInt64]
 omega
theorem eE(T:List UInt32)(k:BI)(h:DJ)(s:List UInt8):Om (Hi T k h s)=h.page:=by
 rw[Hi,Ko,Yl]
 simp only[List.append_assoc]
 exact eF _ _
theorem jI{b:List UInt8}(h:b.length=256):Z5 b=some (b.drop 224):=by
 unfold Z5
 rw[if_pos zO,h]
theorem mf{T:List UInt32}{v:Aw}{d:Af}{p:UInt32}{tag b:List UInt8}(hr:ME d p=some (b,0))(hb:b.length=256)(hl:v.ring.length≤1099511627776):
  UI T v d p tag=some (if b.drop 224=tag∧Om b=p then V6 T v.ring b else(Sk,[],61)):=by
 unfold UI
 have g:∀i:Nat,i<4→BB b (i:Int)=some (b.getD i 0):=fun i hi=>C9 0 rfl zO
 have g0:=g 0 zO
 have g1:=g 1 zO
 have g2:=g 2 zO
 have g3:=g 3 zO
 rw[hr,AA]
 show(BB b 0).bind _=_
 rw[show BB b 0=some (b.getD 0 0)from g0,AA,show BB b 1=some (b.getD 1 0)from g1,AA,show BB b 2=some (b.getD 2 0)from g2,AA,show BB b 3=some (b.getD 3 0)from g3,AA,Be,jI hb,AA]
 change cond (!decide (b.drop 224=tag) || !decide (Om b=p)) _ _=_
 by_cases h:b.drop 224=tag∧Om b=p
 rw[if_pos h,zt h.1,zt h.2]
 unfold me
 rw[if_pos ⟨hl,by show b.length≤_;omega⟩]
 rfl
 rw[if_neg h]
 have:(!decide (b.drop 224=tag) || !decide (Om b=p))=true:=by
  simp only[Bool.or_eq_true,Bool.not_eq_true',decide_eq_false_iff_not]
  exact Classical.not_and_iff_not_or_not.1 h
 rw[this]
 rfl
theorem gT{r:BQ}(h1:2≤r.page.toNat)(h2:r.tag.length=32):D8 r=some true:=by
 unfold D8
 have e1:decide ((2:UInt32)≤r.page)=true:=by rw[decide_eq_true_eq,UInt32.le_iff_toNat_le];exact h1
 have e2:decide ((r.tag.length:Int)=32)=true:=by rw[decide_eq_true_eq];omega
 rw[e1,e2]
 rfl
theorem mw{T:List UInt32}{v:Aw}{d:Af}{r:BQ}{b:List UInt8}(h1:2≤r.page.toNat)(h2:r.tag.length=32)(hr:ME d r.page=some (b,0))(hb:b.length=256)(hl:v.ring.length≤1099511627776):
  RF T v d r=some (if b.drop 224=r.tag∧Om b=r.page then(V6 T v.ring b).2 else([],61)):=by
 unfold RF
 rw[gT h1 h2,AA,Be]
 unfold Wb
 rw[mf hr hb hl]
 simp only[AA,Bool.not_true,B0]
 split<;>rfl
abbrev hd(v:Aw)(p:UInt32):DJ:=⟨p,v.gen,v.boot,v.seals⟩
structure Qs(N c:Nat)(d:Af):Prop where
 blen:d.blocks.length=N
 nle:N≤4096
 on:d.off=false
 uncut:d.isCut=false
 good:d.bad=[]
 plen:d.pend.length≤c
 cle:c≤100
theorem Qs.write{N c:Nat}{d:Af}(D:Qs N c d)(hc:c+1≤100){p:UInt32}{b:List UInt8}(hp:p.toNat<N)(hb:b.length=256):
  Iw d p b=some (0,{ d with counts:=wI (d.counts+1),pend:=In d.pend p b })∧Qs N (c+1) { d with counts:=wI (d.counts+1),pend:=In d.pend p b }:=by
 have h0:V7 d=true:=by simp[V7,D.on,D.uncut]
 constructor
 rw[ke (by rw[D.blen];exact hp) hb (by have:=D.plen;have:=D.cle;omega),qc h0]
 simp[OP,D.uncut]
 refine⟨D.blen,D.nle,D.on,D.uncut,D.good,?_,hc⟩
 have:(EU d.pend p).length≤d.pend.length:=List.length_filter_le ..
 have:=D.plen
 show(EU d.pend p).length+1≤c+1
 omega
theorem Qs.read{N c:Nat}{d:Af}(D:Qs N c d){p:UInt32}(hp:p.toNat<N):ME d p=some (H5 d p,0):=by
 rw[mz (by rw[D.blen];exact hp),D.on,D.good]
 rfl
theorem Vy{d:Af}{p q:UInt32}{b:List UInt8}{c:Int}:H5 { d with counts:=c,pend:=In d.pend p b } q=if p=q then b else H5 d q:=by
 unfold H5
 rw[V2]
 split<;>rfl
theorem Z2{T:List UInt32}{l:List BI}{h:DJ}{s:List UInt8}{k:BI}(hl:l.length≤1099511627776)(hk:DW l h.gen=(k,0))(hs:s.length≤198):WJ T l h s=some (Hi T k h s,0):=by
 unfold WJ HY
 rw[if_pos ⟨hl,by omega⟩,hk]
 simp
 omega
theorem eY{T:List UInt32}{v:Aw}{d:Af}{N c:Nat}{k:BI}{p:UInt32}{s:List UInt8}(D:Qs N c d)(hc:c+1≤100)(hl:v.ring.length≤1099511627776)(hk:DW v.ring v.gen=(k,0))(hp:p.toNat<N)(hs:s.length≤198):
  KW T v d p s=some ((Hi T k (hd v p) s).drop 224,0,{ v with seals:=v.seals+1 },{ d with counts:=wI (d.counts+1),pend:=In d.pend p (Hi T k (hd v p) s) }):=by
 unfold KW
 have hb:=Kn T k (hd v p) hs
 rw[Z2 (h:=hd v p) hl hk hs,AA,(D.write hc hp hb).1]
 simp only[AA,jI hb]
 rfl
theorem Yb(v:Aw):∀(k i:Nat),(∀x,i≤x→x<i+k→EZ v (UInt32.ofNat x)=true)→GI v i k=[]
 | 0,i,_=>rfl
 | k+1,i,h=>by
  rw[GI,if_pos (h i (Nat.le_refl _) zO)]
  exact Yb v k (i+1) fun x h1 h2=>h x zO zO
theorem dz(v:Aw)(j:Nat)(hj:EZ v (UInt32.ofNat j)=false):∀(k i:Nat),i≤j→j<i+k→(∀x,i≤x→x<j→EZ v (UInt32.ofNat x)=true)→GI v i k=[UInt32.ofNat j]
 | 0,i,h1,h2,_=>by omega
 | k+1,i,h1,h2,h=>by
  by_cases e:i=j
  subst e
  rw[GI,if_neg (by rw[hj];decide)]
  rw[GI,if_pos (h i (Nat.le_refl _) zO)]
  exact dz v j hj k (i+1) zO zO fun x h1 h2=>h x zO zO
theorem kd{T:List UInt32}{v:Aw}{d:Af}{N c j:Nat}{k:BI}{s:List UInt8}(D:Qs N c d)(hc:c+1≤100)(hl:v.ring.length≤1099511627776)(hk:DW v.ring v.gen=(k,0))(hs:s.length≤198)
(h2:2≤j)(hj:j<N)(hfree:EZ v (UInt32.ofNat j)=false)(htk:∀x,2≤x→x<j→EZ v (UInt32.ofNat x)=true)(ht:v.taken.length≤100):
  Gh T v d s=some (⟨UInt32.ofNat j,(Hi T k (hd v (UInt32.ofNat j)) s).drop 224⟩,0,{ v with seals:=v.seals+1,taken:=In v.taken (UInt32.ofNat j) true },{ d with counts:=wI (d.counts+1),pend:=In d.pend (UInt32.ofNat j) (Hi T k (hd v (UInt32.ofNat j)) s) }):=by
 have hN:=D.nle
 have hjn:(UInt32.ofNat j).toNat=j:=by simp;omega
 unfold Gh bU VQ
 rw[Be,zf zO,B0,AA,D.blen,if_pos zO,AA,dz v j hfree (N-2) 2 h2 zO htk]
 show F5 T v d s (UInt32.ofNat j)=_
 unfold F5
 have h0:decide (UInt32.ofNat j=0)=false:=by
  rw[decide_eq_false_iff_not]
  intro e
  have:=congrArg UInt32.toNat e
  rw[hjn]at this
  simp at this
  omega
 rw[h0,B0,eY D hc hl hk (by rw[hjn];exact hj) hs]
 simp only[AA,NC]
 rw[if_pos zO]
 rfl
theorem e7{T:List UInt32}{v:Aw}{d:Af}{N c:Nat}{s:List UInt8}(D:Qs N c d)(hs:s.length≤198)(htk:∀x,2≤x→x<N→EZ v (UInt32.ofNat x)=true):
  Gh T v d s=some (⟨0,[]⟩,110,v,d):=by
 have hN:=D.nle
 unfold Gh bU VQ
 rw[Be,zf zO,B0,AA,D.blen,if_pos zO,AA,Yb v (N-2) 2 (fun x h1 h2=>htk x h1 zO)]
 rfl
def Sl(i:Nat):BI:=⟨UInt32.ofNat (i+1),List.replicate 32 (UInt8.ofNat (65+i))⟩
def DL(m:Nat):List BI:=(List.range m).map Sl
theorem DY(m:Nat):(DL m).length=m:=by simp[DL]
theorem eT(m:Nat):DL (m+1)=DL m++[Sl m]:=by simp[DL,List.range_succ]
theorem nB(m:Nat)(hm:m≤30){n:Nat}(hn:40≤n):IB n (m:Int)=some (DL m):=by
 unfold IB EV
 refine Et (fun i=>(DL i,((i+1:Nat):Int))) m ?_ ?_ zO
 intro i hi k
 simp only[G4]
 rw[zt zO,Cs]
 unfold Kx
 refine Et (fun j=>(List.replicate j (UInt8.ofNat (65+i)),(j:Int))) 32 ?_ ?_ zO
 intro j hj k'
 simp only[G5]
 rw[zt zO,Cs,Do zQ zQ,AA,Be]
 have e:Ip (wI (64+((i+1:Nat):Int)))=UInt8.ofNat (65+i):=by
  rw[Cm zO zO]
  unfold Ip
  congr 1
  omega
 rw[e,Cm zO zO,←List.replicate_succ']
 rfl
 intro k'
 simp only[G5]
 rw[zf zO,B0]
 unfold Kw
 rw[Do (by simp[DY];omega) (by simp[DY];omega),AA]
 unfold Kv
 rw[Be,Cm zO zO]
 have e:E4 ((i+1:Nat):Int)=UInt32.ofNat (i+1):=by
  unfold E4
  congr 1
  omega
 rw[e,eT]
 rfl
 intro k
 simp only[G4]
 rw[zf zO,B0]
 rfl
theorem Vz{i:Nat}(h:i<30):(Sl i).gen.toNat=i+1:=by simp[Sl];omega
theorem Oq(m:Nat)(hm:m≤16):Dm (DL m)=true:=by
 refine(gR _).2 ⟨by rw[DY];exact hm,?_,?_⟩
 unfold DL
 rw[List.pairwise_map]
 refine List.Pairwise.imp_of_mem ?_ List.pairwise_lt_range
 intro a b ha hb hlt
 have h1:=List.mem_range.1 ha
 have h2:=List.mem_range.1 hb
 rw[UInt32.lt_iff_toNat_lt,Vz zO,Vz zO]
 omega
 intro k hk
 obtain⟨i,hi,rfl⟩:=List.mem_map.1 hk
 have h1:=List.mem_range.1 hi
 refine⟨?_,by simp[Sl]⟩
 rw[UInt32.lt_iff_toNat_lt,Vz zO]
 simp
theorem dg{m i:Nat}(hm:m≤16)(hi:i<m):DW (DL m) (Sl i).gen=(Sl i,0):=
 Zc.2 ⟨Oq m hm,List.mem_map.2 ⟨i,List.mem_range.2 hi,rfl⟩,rfl⟩
end

section
structure VS(N c:Nat)(R:List BI)(g:UInt32)(v:Aw)(d:Af):Prop where
 dev:Qs N c d
 ring:v.ring=R
 rlen:R.length≤1099511627776
 gen:v.gen=g
 boot:v.boot=1
 tlen:v.taken.length≤c
structure WV(T:List UInt32)(R:List BI)(d:Af)(p g:UInt32)(q:UInt64)(s b:List UInt8):Prop where
 key:∃k,DW R g=(k,0)∧b=Hi T k ⟨p,g,1,q⟩ s
 txt:s.length≤198
 is:H5 d p=b
theorem WV.len{T:List UInt32}{R:List BI}{d:Af}{p g:UInt32}{q:UInt64}{s b:List UInt8}(h:WV T R d p g q s b):b.length=256:=by
 obtain⟨k,_,rfl⟩:=h.key
 exact Kn T k _ h.txt
theorem WV.page{T:List UInt32}{R:List BI}{d:Af}{p g:UInt32}{q:UInt64}{s b:List UInt8}(h:WV T R d p g q s b):Om b=p:=by
 obtain⟨k,_,rfl⟩:=h.key
 exact eE T k _ s
theorem WV.opens{T:List UInt32}{R:List BI}{d:Af}{p g:UInt32}{q:UInt64}{s b:List UInt8}(h:WV T R d p g q s b):V6 T R b=(⟨p,g,1,q⟩,s,0):=by
 obtain⟨k,hk,rfl⟩:=h.key
 have hs:HY T R ⟨p,g,1,q⟩ s=(Hi T k ⟨p,g,1,q⟩ s,0):=by
  unfold HY
  have:=h.txt
  simp[hk]
  omega
 have:=gE (T:=T) (l:=R) (h:=⟨p,g,1,q⟩) (s:=s) (by rw[hs])
 rwa [hs]at this
theorem WV.put{T:List UInt32}{R:List BI}{d d':Af}{p p' g:UInt32}{q:UInt64}{s b b':List UInt8}(h:WV T R d p g q s b)(hd:∀x,H5 d' x=if p'=x then b' else H5 d x)(hne:p'≠p):WV T R d' p g q s b:=
 ⟨h.key,h.txt,by rw[hd,if_neg hne];exact h.is⟩
theorem j9{i j:Nat}(hi:i<4294967296)(hj:j<4294967296)(h:i≠j):UInt32.ofNat i≠UInt32.ofNat j:=fun e=>h (by
 have:=congrArg UInt32.toNat e
 simpa[Nat.mod_eq_of_lt hi,Nat.mod_eq_of_lt hj]using this)
theorem VS.write{T:List UInt32}{N c:Nat}{R:List BI}{g:UInt32}{v:Aw}{d:Af}(V9:VS N c R g v d)(hc:c+1≤100){k:BI}(hk:DW R g=(k,0)){s:List UInt8}(hs:s.length≤198)(j:Nat)
(h2:2≤j)(hj:j<N)(hfree:EZ v (UInt32.ofNat j)=false)(htk:∀x,2≤x→x<j→EZ v (UInt32.ofNat x)=true):
  ∃v' d' b,Gh T v d s=some (⟨UInt32.ofNat j,b.drop 224⟩,0,v',d')∧VS N (c+1) R g v' d'∧v'.seals=v.seals+1∧v'.taken=In v.taken (UInt32.ofNat j) true∧
   (∀q,H5 d' q=if UInt32.ofNat j=q then b else H5 d q)∧WV T R d' (UInt32.ofNat j) g v.seals s b∧b=Hi T k ⟨UInt32.ofNat j,g,1,v.seals⟩ s∧d'.blocks=d.blocks:=by
 have hN:=V9.dev.nle
 have hjn:(UInt32.ofNat j).toNat=j:=by simp;omega
 have hh:hd v (UInt32.ofNat j)=⟨UInt32.ofNat j,g,1,v.seals⟩:=by simp only[hd,V9.gen,V9.boot]
 have hb:=Kn T k (hd v (UInt32.ofNat j)) hs
 have hw:=kd (T:=T) V9.dev hc (by rw[V9.ring];exact V9.rlen) (by rw[V9.ring,V9.gen];exact hk) hs h2 hj hfree htk (by have:=V9.tlen;omega)
 refine⟨_,_,_,hw,⟨(V9.dev.write hc (by rw[hjn];exact hj) hb).2,V9.ring,V9.rlen,V9.gen,V9.boot,?_⟩,rfl,rfl,fun q=>Vy,⟨⟨k,hk,by rw[hh]⟩,hs,?_⟩,by rw[hh],rfl⟩
 have:(EU v.taken (UInt32.ofNat j)).length≤v.taken.length:=List.length_filter_le ..
 have:=V9.tlen
 show(EU v.taken (UInt32.ofNat j)).length+1≤c+1
 omega
 rw[Vy,if_pos rfl]
theorem VS.read{T:List UInt32}{N c:Nat}{R:List BI}{g g':UInt32}{v:Aw}{d:Af}(V9:VS N c R g v d){p:UInt32}{q:UInt64}{s b:List UInt8}(h:WV T R d p g' q s b)(hp2:2≤p.toNat)(hp:p.toNat<N):
  RF T v d ⟨p,b.drop 224⟩=some (s,0):=by
 have hb:=h.len
 have hr:ME d p=some (b,0):=by rw[V9.dev.read hp,h.is]
 have ht:(b.drop 224).length=32:=by simp[hb]
 have hl:v.ring.length≤1099511627776:=by rw[V9.ring];exact V9.rlen
 have h1:=mw (T:=T) (v:=v) (d:=d) (r:=⟨p,b.drop 224⟩) hp2 ht hr hb hl
 rw[if_pos ⟨rfl,h.page⟩,V9.ring,h.opens]at h1
 exact h1
def d0(N:Nat):Af:={ off:=false,isCut:=false,lasts:=0,counts:=0,blocks:=List.replicate N (List.replicate 256 0),pend:=[],bad:=[],rcnt:=0,rtag:=List.replicate 32 0,rboots:=0 }
def v0:Aw:={ ring:=DL 1,gen:=1,boot:=1,seals:=0,taken:=[] }
theorem YJ{m:Nat}(h:1≤m)(hm:m≤16):DW (DL m) 1=(Sl 0,0):=dg hm h
def r0(N:Nat):A3:={ blk:=List.replicate N (List.replicate 256 0),pnd:=List.replicate N [],bads:=List.replicate N false,rcnt:=0,rtag:=List.replicate 32 0,rboots:=0,left := -1,off:=false }
theorem qa{N n:Nat}(h4:4≤N)(hN:N≤4096)(hn:N<n):K9 n (N:Int)=some (some (r0 N),0):=by
 have z:∀k:Nat,k≤1048576→FO (k:Int)=some (List.replicate k 0):=fun k hk=>by
  rw[kg zO zO]
  simp
 have z1:=z 32 zO
 have z2:=z 256 zO
 clear z
 unfold K9 r0
 have hc:(decide ((N:Int)<4)||decide (4096<(N:Int)))=false:=by simp;omega
 rw[hc,B0]
 show(FO ((32:Nat):Int)).bind _=_
 rw[z1,AA]
 generalize List.replicate 32 (0:UInt8)=Y9
 generalize List.replicate 256 (0:UInt8)=Z9 at z2 ⊢
 unfold L5
 refine Et (fun i=>(List.replicate i Z9,List.replicate i [],List.replicate i false,(i:Int))) N ?_ ?_ hn
 intro i hi k
 simp only[Hz]
 rw[zt zO,Cs]
 show(FO ((256:Nat):Int)).bind _=_
 rw[z2,AA,Do zQ zQ,AA,Do zQ zQ,AA,Do zQ zQ,AA,Be,Cm zO zO]
 rw[←List.replicate_succ',←List.replicate_succ',←List.replicate_succ']
 rfl
 intro k
 simp only[Hz]
 rw[zf zO,B0]
 rfl
end

section
structure SA(N:Nat)(v:Aw):Prop where
 nd:(v.taken.map (·.1)).Nodup
 tr:∀e∈v.taken,e.2=true∧2≤e.1.toNat∧e.1.toNat<N
theorem SA.iff{N:Nat}{v:Aw}(h:SA N v)(p:UInt32):EZ v p=true↔p∈v.taken.map (·.1):=by
 unfold EZ
 constructor
 intro hp
 by_cases hm:∃e∈v.taken,e.1=p
 obtain⟨e,he,rfl⟩:=hm
 exact List.mem_map_of_mem he
 rw[UQ (fun e he e'=>hm ⟨e,he,e'⟩)]at hp
 exact absurd hp zD
 intro hp
 obtain⟨e,he,rfl⟩:=List.mem_map.1 hp
 rw[UR h.nd he]
 exact(h.tr e he).1
theorem ofNat_toNat{x:UInt32}:UInt32.ofNat x.toNat=x:=UInt32.toNat_inj.1 zS
theorem SA.full{N:Nat}{v:Aw}(h:SA N v)(hN:N≤4096)(hl:N-2≤v.taken.length):∀x,2≤x→x<N→EZ v (UInt32.ofNat x)=true:=by
 intro x h1 h2
 rw[h.iff]
 by_cases hm:UInt32.ofNat x∈v.taken.map (·.1)
 exact hm
 exfalso
 have hnd:(x::v.taken.map fun e=>e.1.toNat).Nodup:=by
  refine List.nodup_cons.2 ⟨fun hx=>?_,?_⟩
  obtain⟨e,he,e'⟩:=List.mem_map.1 hx
  refine hm ?_
  rw[←e',ofNat_toNat]
  exact List.mem_map_of_mem he
  have:=h.nd
  rw[show(v.taken.map fun e=>e.1.toNat)=(v.taken.map (·.1)).map UInt32.toNat by simp]
  exact List.Pairwise.map _ (fun a b hab e=>hab (UInt32.toNat_inj.1 e)) this
 have:=Nk hnd (l':=(List.range (N-2)).map (·+2)) (fun a ha=>by
  have hb:2≤a∧a<N:=by
   rcases List.mem_cons.1 ha with rfl | ha
   exact⟨h1,h2⟩
   obtain⟨e,he,rfl⟩:=List.mem_map.1 ha
   exact(h.tr e he).2
  exact List.mem_map.2 ⟨a-2,List.mem_range.2 zO,by omega⟩)
 simp at this
 omega
theorem Zh{P:Nat→Prop}:∀k,(∃j,j<k∧P j)→∃j,j<k∧P j∧∀x,x<j→¬P x
 | 0,⟨j,h,_⟩=>by omega
 | k+1,⟨j,h,hP⟩=>by
  by_cases hk:∃i,i<k∧P i
  obtain⟨i,h1,h2,h3⟩:=Zh k hk
  exact⟨i,by omega,h2,h3⟩
  have:j=k:=by
   rcases Nat.lt_or_ge j k with h' | h'
   exact absurd ⟨j,h',hP⟩ hk
   omega
  subst this
  exact⟨j,by omega,hP,fun x hx hPx=>hk ⟨x,hx,hPx⟩⟩
theorem SA.free{N:Nat}{v:Aw}(h:SA N v)(hN:N≤4096)(hl:v.taken.length<N-2):∃j,2≤j∧j<N∧EZ v (UInt32.ofNat j)=false∧∀x,2≤x→x<j→EZ v (UInt32.ofNat x)=true:=by
 have:∃j,j<N∧(2≤j∧EZ v (UInt32.ofNat j)=false):=by
  by_cases hx:∃j,j<N∧(2≤j∧EZ v (UInt32.ofNat j)=false)
  exact hx
  exfalso
  have hnd:((List.range (N-2)).map (fun i=>UInt32.ofNat (i+2))).Nodup:=by
   refine List.pairwise_map.2 (List.Pairwise.imp_of_mem ?_ List.nodup_range)
   intro a b ha hb hne
   have ha:=List.mem_range.1 ha
   have hb:=List.mem_range.1 hb
   exact j9 zO zO zO
  have:=Nk hnd (l':=v.taken.map (·.1)) (fun a ha=>by
   obtain⟨i,hi,rfl⟩:=List.mem_map.1 ha
   have hi:=List.mem_range.1 hi
   rw[←h.iff]
   cases hc:EZ v (UInt32.ofNat (i+2))with
   | true=>rfl
   | false=>exact absurd ⟨i+2,by omega,by omega,hc⟩ hx)
  simp at this
  omega
 obtain⟨j,h1,⟨h2,h3⟩,h4⟩:=Zh N this
 refine⟨j,h2,h1,h3,fun x hx1 hx2=>?_⟩
 cases hc:EZ v (UInt32.ofNat x)with
 | true=>rfl
 | false=>exact absurd ⟨hx1,hc⟩ (h4 x hx2)
def Rd(T:List UInt32)(R:List BI)(N:Nat)(v:Aw)(d:Af)(s:A4):Prop:=2≤s.page.toNat∧s.page.toNat<N∧EZ v s.page=true∧∃g' qn b,WV T R d s.page g' qn s.txt b∧s.tag=b.drop 224
theorem Rd.ok{T:List UInt32}{R:List BI}{N c:Nat}{g:UInt32}{v:Aw}{d:Af}{s:A4}(V9:VS N c R g v d)(h:Rd T R N v d s):RF T v d ⟨s.page,s.tag⟩=some (s.txt,0)∧FS ⟨s.page,s.tag⟩=true∧s.txt.length≤198:=by
 obtain⟨h1,h2,_,g',qn,b,hb,ht⟩:=h
 have hl:=hb.len
 refine⟨by rw[ht];exact V9.read hb h1 h2,?_,hb.txt⟩
 unfold FS
 rw[Bool.and_eq_true,decide_eq_true_eq,decide_eq_true_eq]
 refine⟨UInt32.le_iff_toNat_le.2 h1,?_⟩
 show(s.tag.length:Int)=32
 rw[ht,List.length_drop,hl]
 rfl
structure k9(N c0:Nat)(R:List BI)(g:UInt32)(vb:Aw)(db:Af)(q:T5):Prop where
 vs:VS N (c0+q.tk.length) R g q.v q.d
 seals:q.v.seals=vb.seals+UInt64.ofNat q.tk.length
 tak:q.v.taken=(q.tk.map fun p=>(p,true)).reverse++vb.taken
 ok:SA N q.v
 keep:∀p,p∉q.tk→H5 q.d p=H5 db p
 lim:c0+q.tk.length+(N-2-q.v.taken.length)≤100
theorem k9.notin{N c0:Nat}{R:List BI}{g:UInt32}{vb:Aw}{db:Af}{q:T5}(S:k9 N c0 R g vb db q)(hb:SA N vb){p:UInt32}(h:EZ vb p=true):p∉q.tk∧EZ q.v p=true:=by
 rw[hb.iff]at h
 constructor
 intro hp
 have:=S.ok.nd
 rw[S.tak,List.map_append]at this
 refine(List.nodup_append.1 this).2.2 p ?_ p h rfl
 rw[List.map_reverse,List.mem_reverse,List.map_map]
 exact List.mem_map.2 ⟨p,hp,rfl⟩
 rw[S.ok.iff,S.tak,List.map_append]
 exact List.mem_append_right _ h
theorem k9.base{T:List UInt32}{N c0:Nat}{R:List BI}{g:UInt32}{vb:Aw}{db:Af}{q:T5}(S:k9 N c0 R g vb db q)(hb:SA N vb){s:A4}(h:Rd T R N vb db s):Rd T R N q.v q.d s:=by
 obtain⟨h1,h2,h3,g',qn,b,hb',ht⟩:=h
 obtain⟨h4,h5⟩:=S.notin hb h3
 exact⟨h1,h2,h5,g',qn,b,⟨hb'.key,hb'.txt,by rw[S.keep _ h4];exact hb'.is⟩,ht⟩
end

section
theorem Zu:∀ {f:Nat} {l:List Ak} {t:CW} ,Tr f l t→(l=[]→Me f t=1)∧(l≠[]→Me f t+1≤2*l.length)
  | 0,_,_,h=>h.elim
  | f+1,l,t,h=>by
    rcases h with⟨rfl,rfl⟩ | ⟨hne,c,L,A,⟨_,rfl⟩ | ⟨h4,hL,ks,rfl,hk⟩⟩
    exact⟨fun _=>rfl,fun h=>absurd rfl h⟩
    refine⟨fun h=>absurd h hne,fun _=>?_⟩
    have:=List.length_pos_iff.2 hne
    rw[Me,if_pos (show(CW.mk c.x c.y c.lev l []).kids.length=0 from rfl)]
    simp only[CW.rows]
    omega
    refine⟨fun h=>absurd h hne,fun _=>?_⟩
    have hkl:=hk.length
    have hq2:=(RU A hL).1
    rw[Me,if_neg (by simp only[CW.kids];omega)]
    simp only[CW.kids]
    have key:∀ {xs:List (List Ak)} {ys:List CW},Ue (Tr f) xs ys→(∀x∈xs,x≠[])→(ys.map (Me f)).sum+xs.length≤2*xs.flatten.length:=by
      intro xs ys h
      induction h with
      | nil=>simp
      | @cons x y xs ys h1 h2 ih=>
        intro hx
        have a1:=(Zu h1).2 (hx _ zS)
        have a2:=ih fun x hx'=>hx x (by simp[hx'])
        simp only[List.map_cons,List.sum_cons,List.length_cons,List.flatten_cons,List.length_append]
        omega
    have:=key hk fun x hx=>(RS hx).1
    rw[(Wo L l).length_eq]at this
    omega
theorem gI{f:Nat}{l:List Ak}{t:CW}(h:Tr f l t)(hl:l.length≤1000):Me f t≤max 1 (2*l.length):=by
  obtain⟨h1,h2⟩:=Zu h
  by_cases e:l=[]
  rw[h1 e];omega
  have:=h2 e
  omega
theorem d8{s:List UInt8}(h:s.length≤1048576):Wg s=some ⟨s,h⟩:=dif_pos h
theorem Yh{m:List (UInt32×Bool)}{p:UInt32}(h:p∉m.map (·.1)):EU m p=m:=O1 fun e he e'=>h (by rw[←e'];exact List.mem_map_of_mem he)
theorem qh{T:List UInt32}{N c0:Nat}{R:List BI}{g:UInt32}{vb:Aw}{db:Af}{th:List (MR×BQ)}{k:BI}(hb:SA N vb)(hN:N≤4096)(hk:DW R g=(k,0))(hth:∀key r,Cd th key=some r→Rd T R N vb db ⟨key.1,r.page,r.tag⟩):
    hI (OS T th) (k9 N c0 R g vb db) (fun q s=>Rd T R N q.v q.d s) (fun q=>N-2-q.v.taken.length):=by
  refine⟨fun q s S hs=>?_⟩
  unfold OS
  rw[d8 (show s.length≤1048576 by omega),AA]
  cases hm:Cd th ⟨s,by omega⟩with
  | some r=>
    have hr:=S.base hb (hth _ r hm)
    exact⟨r,0,q,rfl,S,fun _ h=>h,.inl ⟨rfl,(hr.ok S.vs).2.1,hr,Nat.le_succ _⟩⟩
  | none=>
    rw[show(none:Option BQ).isSome=false from rfl,B0]
    by_cases hroom:q.v.taken.length<N-2
    obtain⟨j,j1,j2,j3,j4⟩:=S.ok.free hN hroom
    have hlim:=S.lim
    obtain⟨v',d',b,e1,V1,s1,t1,h1,H1,_,_⟩:=S.vs.write (T:=T) zO hk hs j j1 j2 j3 j4
    have hjn:(UInt32.ofNat j).toNat=j:=by simp;omega
    have hnin:UInt32.ofNat j∉q.v.taken.map (·.1):=by
      rw[←S.ok.iff,j3]
      decide
    have htk:v'.taken=(UInt32.ofNat j,true)::q.v.taken:=by rw[t1,In,Yh hnin]
    have hok:SA N v':=by
      refine⟨?_,fun e he=>?_⟩
      rw[htk,List.map_cons]
      exact List.nodup_cons.2 ⟨hnin,S.ok.nd⟩
      rw[htk]at he
      rcases List.mem_cons.1 he with rfl | he
      exact⟨rfl,by rw[hjn];exact j1,by rw[hjn];exact j2⟩
      exact S.ok.tr e he
    have hntk:UInt32.ofNat j∉q.tk:=fun hj=>hnin (by
      rw[S.tak,List.map_append]
      refine List.mem_append_left _ ?_
      rw[List.map_reverse,List.mem_reverse,List.map_map]
      exact List.mem_map.2 ⟨_,hj,rfl⟩)
    rw[e1,AA]
    dsimp only
    rw[show decide ((0:Int)=0)=true from rfl,Cs,Do zQ zQ,AA]
    have hlen:(q.tk++[UInt32.ofNat j]).length=q.tk.length+1:=by simp
    refine⟨_,0,⟨q.tk++[UInt32.ofNat j],v',d'⟩,rfl,⟨?_,?_,?_,hok,fun p hp=>?_,?_⟩,fun x hx=>?_,.inl ⟨rfl,?_,?_,?_⟩⟩
    show VS N (c0+(q.tk++[UInt32.ofNat j]).length) R g v' d'
    rw[hlen]
    exact V1
    show v'.seals=vb.seals+UInt64.ofNat (q.tk++[UInt32.ofNat j]).length
    rw[s1,S.seals,hlen,UInt64.ofNat_add,UInt64.add_assoc]
    rfl
    show v'.taken=_
    rw[htk,S.tak]
    simp
    simp only[List.mem_append,List.mem_singleton,not_or]at hp
    show H5 d' p=_
    rw[h1,if_neg (fun e=>hp.2 e.symm)]
    exact S.keep p hp.1
    show c0+(q.tk++[UInt32.ofNat j]).length+(N-2-v'.taken.length)≤100
    rw[hlen,htk,List.length_cons]
    omega
    obtain⟨x1,x2,x3,g',qn,b',x4,x5⟩:=hx
    have hne:UInt32.ofNat j≠x.page:=fun e=>by
      rw[←e,j3]at x3
      exact absurd x3 zD
    refine⟨x1,x2,?_,g',qn,b',x4.put h1 hne,x5⟩
    show EZ v' x.page=true
    rw[hok.iff,htk,List.map_cons]
    exact List.mem_cons_of_mem _ ((S.ok.iff _).1 x3)
    have hl:=H1.len
    unfold FS
    rw[Bool.and_eq_true,decide_eq_true_eq,decide_eq_true_eq]
    refine⟨UInt32.le_iff_toNat_le.2 (by rw[hjn];exact j1),?_⟩
    rw[List.length_drop,hl]
    rfl
    refine⟨by rw[hjn];exact j1,by rw[hjn];exact j2,?_,g,q.v.seals,b,H1,rfl⟩
    show EZ v' (UInt32.ofNat j)=true
    rw[hok.iff,htk]
    simp
    show N-2-q.v.taken.length≤N-2-v'.taken.length+1
    rw[htk,List.length_cons]
    omega
    have hw:=e7 (T:=T) S.vs.dev hs (S.ok.full hN zO)
    rw[hw,AA]
    dsimp only
    rw[show decide ((110:Int)=0)=false from rfl,B0]
    exact⟨_,110,q,rfl,S,fun _ h=>h,.inr ⟨rfl,by omega⟩⟩
theorem Z6:∀(l:List (Int×A4)) (m:List (MR×BQ)),(∀s∈l,s.2.txt.length≤1048576)→m.length+l.length≤1000000000→
    ∃m',Ra l m=some m'∧∀k:MR,Cd m' k=((l.reverse.find? fun s=>decide (s.2.txt=k.1)).map fun s=>(⟨s.2.page,s.2.tag⟩:BQ)).or (Cd m k)
  | [],m,_,_=>⟨m,rfl,fun k=>by simp⟩
  | s::l,m,h,hb=>by
    simp only[List.length_cons]at hb
    have hd:(EU m ⟨s.2.txt,h s zS⟩).length≤m.length:=List.length_filter_le ..
    obtain⟨m',h1,h2⟩:=Z6 l (In m ⟨s.2.txt,h s zS⟩ ⟨s.2.page,s.2.tag⟩) (fun x hx=>h x (by simp[hx])) (by
      show(EU m _).length+1+l.length≤_
      omega)
    refine⟨m',?_,fun k=>?_⟩
    rw[Ra,d8 (h s zS),AA]
    unfold NC
    rw[if_pos zO,AA]
    exact h1
    rw[h2 k,List.reverse_cons,List.find?_append,V2]
    cases hf:l.reverse.find? fun s=>decide (s.2.txt=k.1)with
    | some x=>rfl
    | none=>
      simp only[Option.map_none,Option.none_or,List.find?_singleton]
      by_cases e:s.2.txt=k.1
      rw[if_pos (Subtype.ext e),if_pos (by simpa using e)]
      rfl
      rw[if_neg (fun e'=>e (congrArg Subtype.val e')),if_neg (by simpa using e)]
      rfl
theorem Xo{α:Type}(xs:List α):(FI xs).reverse.map (·.2)=xs:=by
  unfold FI
  rw[List.reverse_reverse,List.map_map]
  have:((fun x:Int×α=>x.2)∘fun p:α×Nat=>((p.2:Int),p.1))=Prod.fst:=rfl
  rw[this,List.zipIdx_map_fst]
theorem fP{α:Type}{xs:List α}{s:Int×α}(h:s∈FI xs):s.2∈xs:=by
  rw[←Xo xs]
  exact List.mem_map_of_mem (List.mem_reverse.2 h)
theorem ge(had:List A4)(h:∀s∈had,s.txt.length≤1048576)(hb:had.length≤1000000000):∃th,Ra (FI had) []=some th∧∀k:MR,Cd th k=(had.find? fun s=>decide (s.txt=k.1)).map fun s=>(⟨s.page,s.tag⟩:BQ):=by
  obtain⟨th,h1,h2⟩:=Z6 (FI had) [] (fun s hs=>h _ (fP hs)) (by rw[Ji];simpa using hb)
  refine⟨th,h1,fun k=>?_⟩
  rw[h2 k,show Cd ([]:List (MR×BQ)) k=none from rfl,Option.or_none]
  conv=>rhs;rw[←Xo had]
  rw[List.find?_map,Option.map_map]
  rfl
theorem Zf{N:Nat}(hN:N≤4096):∀(tk:List UInt32) (v:Aw) (d:Af) (base:List (UInt32×Bool)),d.blocks.length=N→v.taken=(tk.map fun p=>(p,true)).reverse++base→(v.taken.map (·.1)).Nodup→(∀p∈tk,2≤p.toNat∧p.toNat<N)→
    Sj tk v d=some { v with taken:=base }
  | [],v,d,base,_,h,_,_=>by
    simp at h
    rw[Sj,←h]
  | p::tk,v,d,base,hd,h,hn,hr=>by
    obtain⟨r1,r2⟩:=hr p zS
    have hmem:(p,true)∈v.taken:=by rw[h];simp
    have hg:=UR hn hmem
    have hdel:EU v.taken p=(tk.map fun p=>(p,true)).reverse++base:=by
      rw[h]at hn ⊢
      simp only[List.map_cons,List.reverse_cons,List.append_assoc,List.singleton_append,List.map_append]at hn ⊢
      obtain⟨n1,n2,n3⟩:=List.nodup_append.1 hn
      obtain⟨n4,n5⟩:=List.nodup_cons.1 n2
      unfold EU
      rw[List.filter_append,List.filter_cons_of_neg zS]
      congr 1
      exact Yh (m:=(tk.map fun p=>(p,true)).reverse) fun hp=>n3 p hp p zS rfl
      exact Yh n4
    have hi:H4 v d p=some true:=by
      have:=Ye v d p.toNat r1 zO
      rw[ofNat_toNat,hd,zt r2]at this
      exact this
    have hgive:IH v d p=some (0,{ v with taken:=EU v.taken p }):=by
      unfold IH
      rw[hi,AA,Be,hg]
      rfl
    rw[Sj,hgive,AA]
    have:=Zf hN tk { v with taken:=EU v.taken p } d base hd hdel (by
      show((EU v.taken p).map (·.1)).Nodup
      exact eA hn) (fun q hq=>hr q (by simp[hq]))
    exact this
theorem Wq{l:List Ak}(h:Di l=true):l.length≤1000:=by
  unfold Di at h
  simp only[Bool.and_eq_true,decide_eq_true_eq]at h
  omega
theorem kO{n N c0:Nat}{T:List UInt32}{R:List BI}{g:UInt32}{vb:Aw}{db:Af}{k:BI}{l:List Ak}{had:List A4}(hn:1100≤n)(hN:N≤4096)(V9:VS N c0 R g vb db)(hb:SA N vb)(hk:DW R g=(k,0))(hl:Di l=true)
(hhad:∀s∈had,Rd T R N vb db s)(hlen:had.length≤100000)(hlim:c0+(N-2-vb.taken.length)≤100):
    ∃t th,TK n l=some (t,0)∧Tr n l t∧(∀k:MR,Cd th k=(had.find? fun s=>decide (s.txt=k.1)).map fun s=>(⟨s.page,s.tag⟩:BQ))∧
      ((∃r out q,Sy n T vb db l had=some (out,0,q.v,q.d)∧XV n t out r∧FS r=true∧k9 N c0 R g vb db q∧(∀s∈out,Rd T R N q.v q.d s)∧out.length=Me n t∧Ul (OS T th) ⟨[],vb,db⟩ out q∧N-2-vb.taken.length≤N-2-q.v.taken.length+Me n t)∨
       (∃v d c,Sy n T vb db l had=some ([],110,v,d)∧N-2-vb.taken.length<Me n t∧v.taken=vb.taken∧VS N c R g v d)):=by
  obtain⟨t,h1,_,hT⟩:=jf (n:=n) (l:=l) zO hl
  obtain⟨th,h2,h3⟩:=ge had (fun s hs=>by have:=((hhad s hs).ok V9).2.2;omega) zO
  have hth:∀(key:MR) r,Cd th key=some r→Rd T R N vb db ⟨key.1,r.page,r.tag⟩:=by
    intro key r hr
    rw[h3 key]at hr
    obtain⟨s,hs,rfl⟩:=Option.map_eq_some_iff.1 hr
    have h5:=List.find?_some hs
    simp only[decide_eq_true_eq]at h5
    rw[←h5]
    exact hhad s (List.mem_of_find?_eq_some hs)
  have W:=qh (T:=T) (c0:=c0) (db:=db) hb hN hk hth
  have hpg:=gI hT (Wq hl)
  have hl1:=Wq hl
  have S0:k9 N c0 R g vb db ⟨[],vb,db⟩:=⟨V9,by simp,by simp,hb,fun _ _=>rfl,by simpa using hlim⟩
  obtain⟨r,p',q,e1,e2,e3,e4,e5⟩:=Zr W (n:=n) zO n l t ⟨[],0⟩ ⟨[],vb,db⟩ hT hl S0 rfl zQ
  refine⟨t,th,h1,hT,h3,?_⟩
  have hsave:Sy n T vb db l had=cL (r,(p',q)):=by
    unfold Sy
    rw[h1,AA,show(!decide ((0:Int)=0))=false from rfl,B0,if_neg zO,h2,AA,e1,AA]
  rw[hsave]
  unfold cL
  rcases e5 with⟨w,seg,o1,o2,o3,o4,o5,o6⟩ | ⟨w,o6⟩
  left
  simp only[List.nil_append]at o1
  refine⟨r,seg,q,?_,o3,e2 w,e3,o5,o2,o4,o6⟩
  dsimp only
  rw[w,show(!decide ((0:Int)=0))=false from rfl,B0,o1]
  right
  have hlim2:=e3.lim
  refine⟨{ q.v with taken:=vb.taken },q.d,c0+q.tk.length,?_,o6,rfl,?_⟩
  dsimp only
  rw[w,show(!decide ((110:Int)=0))=true from rfl,Cs,if_neg zO,Zf hN q.tk q.v q.d vb.taken e3.vs.dev.blen e3.tak e3.ok.nd (fun p hp=>by
    have:=e3.ok.tr (p,true) (by rw[e3.tak];refine List.mem_append_left _ ?_;rw[List.mem_reverse];exact List.mem_map.2 ⟨p,hp,rfl⟩)
    exact this.2),AA]
  have V':=e3.vs
  exact⟨V'.dev,V'.ring,V'.rlen,V'.gen,V'.boot,Nat.le_trans V9.tlen (Nat.le_add_right ..)⟩
end

section
variable {K:Nat→Prop}{w0:World}{H:List AV}
def Dn(p0:UInt32)(p1:Int):Option UInt32:=
 (Qq p1).bind fun n1=>
 (Qq (wI (32-p1))).bind fun n2=>
 ret ((shl32 p0 n1) ||| (shr32 p0 n2)) fun x1=>
 some x1
theorem Lu{p0 r:UInt32}{p1:Int}(h:Dn p0 p1=some r): zC K w0 291 [Y p0,vI p1] [] H (fun u M=>u=Y r∧M=[]):=by
 unfold Dn at h
 refine T3.enter Tryz.func291 rfl rfl ?_
 refine V (O E (U (AG ?_)))
 refine AD h fun n1 hn1 h=>?_
 refine AD h fun n2 hn2 h=>?_
 obtain⟨x1,ex1,h⟩:=Bu h
 refine Av DH [] (C7 [(true,0),(true,1),(true,2),(true,3),(true,4),(true,5),(true,6),(true,7),(true,8)]) zK (J E (J E (Z E (Rz hn1) (J E (J E (Z E DI (Z E (WT hn2) ?_)))))))
 refine Z E E5 ?_
 refine Ai (u:=Y x1) E E (by rw[ex1]) ?_
 refine U (AJ ?_)
 obtain rfl:=zI h
 exact AW [] 0 E E E
def IW(p0:UInt32)(p1:UInt32)(p2:UInt32)(p3:UInt32):Option (List UInt32):=
 ret (p0+p1) fun a_1=>
 (Dn (p3 ^^^ a_1) 16).bind fun y1=>
 ret (p2+y1) fun x1=>
 (Dn (p1 ^^^ x1) 12).bind fun y2=>
 ret (a_1+y2) fun a_2=>
 (Dn (y1 ^^^ a_2) 8).bind fun y3=>
 ret (x1+y3) fun x2=>
 (Dn (y2 ^^^ x2) 7).bind fun y4=>
 some [a_2,y4,x2,y3]
theorem Qg{p0 p1 p2 p3:UInt32}{r:List UInt32}(h:IW p0 p1 p2 p3=some r): zC K w0 290 [Y p0,Y p1,Y p2,Y p3] [] H (fun u M=>u=.agg (Db Y r)∧r.length=4∧M=[]):=by
 unfold IW at h
 refine T3.enter Tryz.func290 rfl rfl ?_
 refine V ?_
 refine Al E S8 zU fun b1=>?_
 refine U (V ?_)
 obtain⟨a_1,ea_1,h⟩:=Bu h
 refine J E (J E (Z E B1 ?_))
 refine Ai (u:=Y a_1) E E (by rw[ea_1]) ?_
 refine U (V ?_)
 refine AD h fun y1 hy1 h=>?_
 refine J E (J E (Z E Ck (AP 0 XM (Lu hy1) E (O E (U (V ?_))))))
 obtain⟨x1,ex1,h⟩:=Bu h
 refine J E (J E (Z E B1 ?_))
 refine Ai (u:=Y x1) E E (by rw[ex1]) ?_
 refine U (V ?_)
 refine AD h fun y2 hy2 h=>?_
 refine J E (J E (Z E Ck (AP 0 XM (Lu hy2) E (O E (U (V ?_))))))
 obtain⟨a_2,ea_2,h⟩:=Bu h
 refine J E (J E (Z E B1 ?_))
 refine Ai (u:=Y a_2) E E (by rw[ea_2]) ?_
 refine U (V ?_)
 refine AD h fun y3 hy3 h=>?_
 refine J E (J E (Z E Ck (AP 0 XM (Lu hy3) E (O E (U (V ?_))))))
 obtain⟨x2,ex2,h⟩:=Bu h
 refine J E (J E (Z E B1 ?_))
 refine Ai (u:=Y x2) E E (by rw[ex2]) ?_
 refine U (V ?_)
 refine AD h fun y4 hy4 h=>?_
 refine J E (J E (Z E Ck (AP 0 XM (Lu hy4) E (O E (U (V (J E (J E (J E ?_)))))))))
 refine J E (B5 [_,_,_,_] E sy sf S8 ⟨E,E,E,E,zT⟩ E (A5 0 E E E E WL E E E zT (U (AJ ?_))))
 obtain rfl:=zI h
 exact Ae (IK E (B9 0 (([a_2,y4,x2,y3]).map Y) fL E E E E)) (Ad (M:=[]) ⟨E,E,E⟩ fun _ hw=>BX.pick (H:=[_]) hw [] 1 E)
def Jl(p0:List UInt8)(p1:Int):Option UInt32:=
 (BB p0 p1).bind fun c1=>
 (BB p0 (wI (p1+1))).bind fun c2=>
 (BB p0 (wI (p1+2))).bind fun c3=>
 (BB p0 (wI (p1+3))).bind fun c4=>
 ret (((c1.toUInt32 ||| (shl32 c2.toUInt32 8)) ||| (shl32 c3.toUInt32 16)) ||| (shl32 c4.toUInt32 24)) fun x1=>
 some x1
theorem Tf{p0:List UInt8}{p1:Int}{r:UInt32}(h:Jl p0 p1=some r): zC K w0 289 [vS p0,vI p1] [] H (fun u M=>u=Y r∧M=[]):=by
 unfold Jl at h
 refine T3.enter Tryz.func289 rfl rfl ?_
 refine V (O E (U (AG ?_)))
 refine AD h fun c1 hc1 h=>?_
 refine AD h fun c2 hc2 h=>?_
 refine AD h fun c3 hc3 h=>?_
 refine AD h fun c4 hc4 h=>?_
 obtain⟨x1,ex1,h⟩:=Bu h
 refine Av DH [] (C7 [(true,0),(true,1),(true,2),(true,3),(true,4),(true,5),(true,6),(true,7),(true,8),(true,9),(true,10),(true,11),(true,12),(true,13),(true,14),(true,15),(true,16),(true,17),(true,18),(true,19),(true,20),(true,21),(true,22),(true,23),(true,24),(true,25)]) zK (J E (J E (Kj hc1 E Cj E E (BG E E (FV DS CP) (J E (J E (Z E Bh ?_)))))))
 refine Kj hc2 E Cj E E (BG E E (FV DS CP) ?_)
 refine Z E (Fd.shl32 (n:=8)) ?_
 refine Z E E5 (J E (J E (Z E Bh (Kj hc3 E Cj E E (BG E E (FV DS CP) ?_)))))
 refine Z E (Fd.shl32 (n:=16)) ?_
 refine Z E E5 (J E (J E (Z E Bh (Kj hc4 E Cj E E (BG E E (FV DS CP) ?_)))))
 refine Z E (Fd.shl32 (n:=24)) ?_
 refine Z E E5 ?_
 refine Ai (u:=Y x1) E E (by rw[ex1]) ?_
 refine U (AJ ?_)
 obtain rfl:=zI h
 exact AW [] 0 E E E
def J7(l5:List UInt32):Option (List UInt32):=
 some l5
def GT(p2:List UInt8)(nx_f_ref01_State_l2:List UInt32×Int→Option (List UInt32))(l6:List UInt32)(a2:Int):Option (List UInt32):=
 cond (decide (a2<3))
 (
  (Jl p2 (wI (4*a2))).bind fun y2=>
  (DR 4 l6 [y2]).bind fun l7=>
  ret (wI (a2+1)) fun i_2=>
  nx_f_ref01_State_l2 (l7,i_2))
 (
  J7 l6)
def KA(p2:List UInt8):Nat→(List UInt32×Int)→Option (List UInt32):=CN fun nx x=>GT p2 nx x.1 x.2
def Ht(n:Nat)(p1:UInt32)(p2:List UInt8)(l1:List UInt32):Option (List UInt32):=
 (DR 4 l1 [p1]).bind fun l4=>
 KA p2 n (l4,0)
def GS(n:Nat)(p0:List UInt8)(p1:UInt32)(p2:List UInt8)(nx_f_ref01_State_l1:List UInt32×Int→Option (List UInt32))(l2:List UInt32)(a1:Int):Option (List UInt32):=
 cond (decide (a1<8))
 (
  (Jl p0 (wI (4*a1))).bind fun y1=>
  (DR 4 l2 [y1]).bind fun l3=>
  ret (wI (a1+1)) fun i_1=>
  nx_f_ref01_State_l1 (l3,i_1))
 (
  Ht n p1 p2 l2)
def J8(n:Nat)(p0:List UInt8)(p1:UInt32)(p2:List UInt8):Nat→(List UInt32×Int)→Option (List UInt32):=CN fun nx x=>GS n p0 p1 p2 nx x.1 x.2
def KO(n:Nat)(p0:List UInt8)(p1:UInt32)(p2:List UInt8):Option (List UInt32):=
 J8 n p0 p1 p2 n ([1634760805,857760878,2036477234,1797285236],0)
theorem Xw{n:Nat}{p0 p2:List UInt8}{p1:UInt32}{r:List UInt32}(h:KO n p0 p1 p2=some r): zC K w0 280 [vS p0,Y p1,vS p2] [] H (fun u M=>∃v0:Value,u=v0∧M=[AB 36 1 v0 BD r]):=by
 unfold KO at h
 refine T3.enter Tryz.func280 rfl rfl ?_
 refine V (CB 36 1 BD (O E (U (V ?_))))
 refine CD [_,_,_,_] E CF Bd H8 ⟨E,E,E,E,zT⟩ E E E zX E E zU fun b1=>?_
 refine CH BD 1 ([1634760805,857760878,2036477234,1797285236]:List UInt32) E zV E ?_
 refine O E (U ?_)
 refine A9 (α:=List UInt32×Value) (fun x=>Ht n p1 p2 x.1=some r) (fun x=>[(1,Y p1),(2,vS p2),(7,x.2)]) (fun x=>AB 36 1 x.2 BD x.1::H) ?_ (fun x D h=>?_)
 refine V (O E (U (AM ?_)))
 refine SX.heap (SX.mono (BF (α:=Nat×List UInt32×Value×Int) (fun x=>J8 n p0 p1 p2 x.1 (x.2.1,x.2.2.2)=some r) (fun x=>[(0,vS p0),(1,Y p1),(2,vS p2),(7,x.2.2.1),(8,vI x.2.2.2)]) (fun x=>AB 36 1 x.2.2.1 BD x.2.1::H) (fun x=>x.1) (fun x D h=>?_) (n,[1634760805,857760878,2036477234,1797285236],.slice (some ⟨b1,0,none⟩) 4 4,0) h) tL) (BN [0] 2 E E E)
 obtain⟨m1,l2,v2,a1⟩:=x
 dsimp only at h
 rcases m1 with _ | m1
 cases (show(none:Option _)=some r from h)
 replace h:GS n p0 p1 p2 (J8 n p0 p1 p2 m1) l2 a1=some r:=h
 unfold GS at h
 try dsimp only
 refine AG (V (J E (Z E A8 (U ?_))))
 refine AL h E (fun hc1 h=>?_) fun hc1 h=>?_
 refine AI (AH (AG (AM (AN ?_))))
 refine AD h fun y1 hy1 h=>?_
 refine AD h fun l3 hl3 h=>?_
 refine J E (J E (J E (Z E MP (AP 0 ij (Tf hy1) E ?_))))
 refine CD [_] E CF Bd H8 ⟨E,zT⟩ E E E zX E E zU fun b2=>?_
 refine CH BD 1 ([y1]:List UInt32) E zV E ?_
 refine C5 1 hl3 (sz:=1) (enc:=BD) zV E CF Bd Qc H8 E zD E E E E (CL (sz:=1) (enc:=BD) 0 zV E) (by simp[BD,Value.oneCell']) zU fun v3=>?_
 refine O E (AY (Aj (AH (AN ?_))))
 obtain⟨i_1,ei_1,h⟩:=Bu h
 refine J E (Z E Bh ?_)
 refine Ai (u:=vI i_1) E E (by rw[ei_1]) ?_
 refine AY ?_
 exact Au (m1,l3,v3,i_1) h (Nat.lt_succ_self _) tL (BN [1] 2 E E E)
 refine A1 (A6 (Ba (A7 ?_)))
 exact Aq (l2,v2) h tL (BN [0] 1 E E E)
 obtain⟨l1,v1⟩:=x
 dsimp only at h
 unfold Ht at h
 try dsimp only
 refine V ?_
 refine AD h fun l4 hl4 h=>?_
 refine J E (J E ?_)
 refine CD [_] E CF Bd H8 ⟨E,zT⟩ E E E zX E E zU fun b3=>?_
 refine CH BD 1 ([p1]:List UInt32) E zV E ?_
 refine C5 1 hl4 (sz:=1) (enc:=BD) zV E CF Bd Qc H8 E zD E E E E (CL (sz:=1) (enc:=BD) 0 zV E) (by simp[BD,Value.oneCell']) zU fun v4=>?_
 refine O E (U ?_)
 refine A9 (α:=List UInt32×Value) (fun x=>J7 x.1=some r) (fun x=>[(7,x.2)]) (fun x=>AB 36 1 x.2 BD x.1::H) ?_ (fun x D h=>?_)
 refine V (O E (U (AM ?_)))
 refine SX.heap (SX.mono (BF (α:=Nat×List UInt32×Value×Int) (fun x=>KA p2 x.1 (x.2.1,x.2.2.2)=some r) (fun x=>[(2,vS p2),(7,x.2.2.1),(9,vI x.2.2.2)]) (fun x=>AB 36 1 x.2.2.1 BD x.2.1::H) (fun x=>x.1) (fun x D h=>?_) (n,l4,v4,0) h) tL) (BN [1] 2 E E E)
 obtain⟨m2,l6,v6,a2⟩:=x
 dsimp only at h
 rcases m2 with _ | m2
 cases (show(none:Option _)=some r from h)
 replace h:GT p2 (KA p2 m2) l6 a2=some r:=h
 unfold GT at h
 try dsimp only
 refine AG (V (J E (Z E A8 (U ?_))))
 refine AL h E (fun hc2 h=>?_) fun hc2 h=>?_
 refine AI (AH (AG (AM (AN ?_))))
 refine AD h fun y2 hy2 h=>?_
 refine AD h fun l7 hl7 h=>?_
 refine J E (J E (J E (Z E MP (AP 0 ij (Tf hy2) E ?_))))
 refine CD [_] E CF Bd H8 ⟨E,zT⟩ E E E zX E E zU fun b4=>?_
 refine CH BD 1 ([y2]:List UInt32) E zV E ?_
 refine C5 1 hl7 (sz:=1) (enc:=BD) zV E CF Bd Qc H8 E zD E E E E (CL (sz:=1) (enc:=BD) 0 zV E) (by simp[BD,Value.oneCell']) zU fun v7=>?_
 refine O E (AY (Aj (AH (AN ?_))))
 obtain⟨i_2,ei_2,h⟩:=Bu h
 refine J E (Z E Bh ?_)
 refine Ai (u:=vI i_2) E E (by rw[ei_2]) ?_
 refine AY ?_
 exact Au (m2,l7,v7,i_2) h (Nat.lt_succ_self _) tL (BN [1] 2 E E E)
 refine A1 (A6 (Ba (A7 ?_)))
 exact Aq (l6,v6) h tL (BN [0] 1 E E E)
 obtain⟨l5,v5⟩:=x
 dsimp only at h
 unfold J7 at h
 try dsimp only
 refine V (J E (O E (U (AJ ?_))))
 obtain rfl:=zI h
 exact Bm [0] 1 (C1 E E) E E ⟨v5,E,E⟩
def DN(p0:List UInt32)(p1:Int)(p2:Int)(p3:Int)(p4:Int):Option (List UInt32):=
 (BB p0 p1).bind fun x1=>
 (BB p0 p2).bind fun x2=>
 (BB p0 p3).bind fun x3=>
 (BB p0 p4).bind fun x4=>
 (IW x1 x2 x3 x4).bind fun y1=>
 (BB y1 0).bind fun x5=>
 (BB p0 p1).bind fun x6=>
 (Ma p0 p1 x5).bind fun l1=>
 (BB y1 1).bind fun x7=>
 (BB l1 p2).bind fun x8=>
 (Ma l1 p2 x7).bind fun l2=>
 (BB y1 2).bind fun x9=>
 (BB l2 p3).bind fun x10=>
 (Ma l2 p3 x9).bind fun l3=>
 (BB y1 3).bind fun x11=>
 (BB l3 p4).bind fun x12=>
 (Ma l3 p4 x11).bind fun l4=>
 some l4
theorem Iu{DA:Value}{p0 r:List UInt32}{p1 p2 p3 p4:Int}(h:DN p0 p1 p2 p3 p4=some r): zC K w0 281 [DA,vI p1,vI p2,vI p3,vI p4] [AB 36 1 DA BD p0] H (fun u M=>u=.tuple #[]∧M=[AB 36 1 DA BD r]):=by
 unfold DN at h
 refine T3.enter Tryz.func281 rfl rfl ?_
 refine AG ?_
 refine AD h fun x1 hx1 h=>?_
 refine AD h fun x2 hx2 h=>?_
 refine AD h fun x3 hx3 h=>?_
 refine AD h fun x4 hx4 h=>?_
 refine AD h fun y1 hy1 h=>?_
 refine Av DH [0] (CA [(true,0),(true,1),(true,2),(true,3),(true,4),(true,5),(true,6),(true,7),(true,8),(true,9),(true,10),(true,11),(true,12),(true,13),(true,14),(true,15)] (.alt 16 (C7 [(false,17),(false,18)]) (.cons (false,17) (C7 [(false,16),(false,18)])))) zK (J E (J E ?_))
 refine B2 0 hx1 E CF Bd E E E fun g1 m1 cp1 hv1=>?_
 refine Bk E A2 E (Br (sz:=1) (enc:=BD) 0 0 zV E hv1 hx1 E) ?_
 refine J E (J E ?_)
 refine B2 0 hx2 E CF Bd E E E fun g2 m2 cp2 hv2=>?_
 refine Bk E A2 E (Br (sz:=1) (enc:=BD) 0 0 zV E hv2 hx2 E) ?_
 refine J E (J E ?_)
 refine B2 0 hx3 E CF Bd E E E fun g3 m3 cp3 hv3=>?_
 refine Bk E A2 E (Br (sz:=1) (enc:=BD) 0 0 zV E hv3 hx3 E) ?_
 refine J E (J E ?_)
 refine B2 0 hx4 E CF Bd E E E fun g4 m4 cp4 hv4=>?_
 refine Bk E A2 E (Br (sz:=1) (enc:=BD) 0 0 zV E hv4 hx4 E) ?_
 refine Po ?_ ?_
 refine Bg (vs:=[_,_,_,_]) (Hin:=[]) (Hr:=_::_) E E ⟨E,E,E,E,zT⟩ ik E E (Qg hy1) ?_
 rintro _ _ ⟨rfl,hn1,rfl⟩
 refine⟨⟨⟨0,rfl⟩,trivial⟩,?_⟩
 refine Al E S8 (fun _=>⟨⟨1,E⟩,zT⟩) fun b1=>?_
 refine Od 0 E E E E WL ((TJ ..).trans hn1) E (N3 (f:=Y) zV y1) ⟨⟨1,E⟩,zT⟩ ?_
 refine U (V ?_)
 refine AD h fun x5 hx5 h=>?_
 refine AD h fun x6 hx6 h=>?_
 refine AD h fun l1 hl1 h=>?_
 refine J E (J E ?_)
 refine Mg (xs:=y1) hx5 E QT Bd E E hn1 ?_
 refine Bk E A2 E (C3 0 E (E8 (E2 hx5).2.2)) ?_
 refine B2 1 hx6 E CF Bd E E E fun g5 m5 cp5 hv5=>?_
 refine E7 (sz:=1) (enc:=BD) 1 hl1 zV E E E E E hv5 Bd (by simp[Value.oneCell']) zT ?_
 refine U (V ?_)
 refine AD h fun x7 hx7 h=>?_
 refine AD h fun x8 hx8 h=>?_
 refine AD h fun l2 hl2 h=>?_
 refine J E (J E ?_)
 refine Mg (xs:=y1) hx7 E QT Bd E E hn1 ?_
 refine Bk E A2 E (C3 0 E (E8 (E2 hx7).2.2)) ?_
 refine B2 1 hx8 E CF Bd E E E fun g6 m6 cp6 hv6=>?_
 refine E7 (sz:=1) (enc:=BD) 1 hl2 zV E E E E E hv6 Bd (by simp[Value.oneCell']) zT ?_
 refine U (V ?_)
 refine AD h fun x9 hx9 h=>?_
 refine AD h fun x10 hx10 h=>?_
 refine AD h fun l3 hl3 h=>?_
 refine J E (J E ?_)
 refine Mg (xs:=y1) hx9 E QT Bd E E hn1 ?_
 refine Bk E A2 E (C3 0 E (E8 (E2 hx9).2.2)) ?_
 refine B2 1 hx10 E CF Bd E E E fun g7 m7 cp7 hv7=>?_
 refine E7 (sz:=1) (enc:=BD) 1 hl3 zV E E E E E hv7 Bd (by simp[Value.oneCell']) zT ?_
 refine U (AN ?_)
 refine AD h fun x11 hx11 h=>?_
 refine AD h fun x12 hx12 h=>?_
 refine AD h fun l4 hl4 h=>?_
 refine J E (J E ?_)
 refine Mg (xs:=y1) hx11 E QT Bd E E hn1 ?_
 refine Bk E A2 E (C3 0 E (E8 (E2 hx11).2.2)) ?_
 refine B2 1 hx12 E CF Bd E E E fun g8 m8 cp8 hv8=>?_
 refine E7 (sz:=1) (enc:=BD) 1 hl4 zV E E E E E hv8 Bd (by simp[Value.oneCell']) zT ?_
 refine AY ?_
 obtain rfl:=zI h
 exact DF (Dr E) (Ad (M:=[_]) ⟨E,E⟩ fun _ hw=>BX.pick (H:=[_,_]) hw [1] 2 E)
 refine Al E S8 (fun _=>⟨⟨1,E⟩,zT⟩) fun b1=>?_
 refine Bg (vs:=[_,_,_,_]) (Hin:=[]) (Hr:=_::_::_) E E ⟨E,E,E,E,zT⟩ ik E E (Qg hy1) ?_
 rintro _ _ ⟨rfl,hn1,rfl⟩
 refine⟨⟨⟨1,rfl⟩,trivial⟩,?_⟩
 refine Od 0 E E E E WL ((TJ ..).trans hn1) E (N3 (f:=Y) zV y1) ⟨⟨1,E⟩,zT⟩ ?_
 refine U (V ?_)
 refine AD h fun x5 hx5 h=>?_
 refine AD h fun x6 hx6 h=>?_
 refine AD h fun l1 hl1 h=>?_
 refine J E (J E ?_)
 refine Mg (xs:=y1) hx5 E QT Bd E E hn1 ?_
 refine Bk E A2 E (C3 0 E (E8 (E2 hx5).2.2)) ?_
 refine B2 1 hx6 E CF Bd E E E fun g5 m5 cp5 hv5=>?_
 refine E7 (sz:=1) (enc:=BD) 1 hl1 zV E E E E E hv5 Bd (by simp[Value.oneCell']) zT ?_
 refine U (V ?_)
 refine AD h fun x7 hx7 h=>?_
 refine AD h fun x8 hx8 h=>?_
 refine AD h fun l2 hl2 h=>?_
 refine J E (J E ?_)
 refine Mg (xs:=y1) hx7 E QT Bd E E hn1 ?_
 refine Bk E A2 E (C3 0 E (E8 (E2 hx7).2.2)) ?_
 refine B2 1 hx8 E CF Bd E E E fun g6 m6 cp6 hv6=>?_
 refine E7 (sz:=1) (enc:=BD) 1 hl2 zV E E E E E hv6 Bd (by simp[Value.oneCell']) zT ?_
 refine U (V ?_)
 refine AD h fun x9 hx9 h=>?_
 refine AD h fun x10 hx10 h=>?_
 refine AD h fun l3 hl3 h=>?_
 refine J E (J E ?_)
 refine Mg (xs:=y1) hx9 E QT Bd E E hn1 ?_
 refine Bk E A2 E (C3 0 E (E8 (E2 hx9).2.2)) ?_
 refine B2 1 hx10 E CF Bd E E E fun g7 m7 cp7 hv7=>?_
 refine E7 (sz:=1) (enc:=BD) 1 hl3 zV E E E E E hv7 Bd (by simp[Value.oneCell']) zT ?_
 refine U (AN ?_)
 refine AD h fun x11 hx11 h=>?_
 refine AD h fun x12 hx12 h=>?_
 refine AD h fun l4 hl4 h=>?_
 refine J E (J E ?_)
 refine Mg (xs:=y1) hx11 E QT Bd E E hn1 ?_
 refine Bk E A2 E (C3 0 E (E8 (E2 hx11).2.2)) ?_
 refine B2 1 hx12 E CF Bd E E E fun g8 m8 cp8 hv8=>?_
 refine E7 (sz:=1) (enc:=BD) 1 hl4 zV E E E E E hv8 Bd (by simp[Value.oneCell']) zT ?_
 refine AY ?_
 obtain rfl:=zI h
 exact DF (Dr E) (Ad (M:=[_]) ⟨E,E⟩ fun _ hw=>BX.pick (H:=[_,_]) hw [1] 2 E)
def J4(l4:List UInt8):Option (List UInt8×Int):=
 some (l4,0)
def GR(y1:List UInt32)(l2:List UInt32)(nx_f_ref01_Block_l2:List UInt8×Int→Option (List UInt8×Int))(l5:List UInt8)(a2:Int):Option (List UInt8×Int):=
 cond (decide (a2<16))
 (
  (BB l2 a2).bind fun x2=>
  (BB y1 a2).bind fun x3=>
  ret (x2+x3) fun x4=>
  (DR 1 l5 [x4.toUInt8,(shr32 x4 8).toUInt8,(shr32 x4 16).toUInt8,(shr32 x4 24).toUInt8]).bind fun l6=>
  ret (wI (a2+1)) fun x5=>
  nx_f_ref01_Block_l2 (l6,x5))
 (
  J4 l5)
def J6(y1:List UInt32)(l2:List UInt32):Nat→(List UInt8×Int)→Option (List UInt8×Int):=CN fun nx x=>GR y1 l2 nx x.1 x.2
def GB(n:Nat)(y1:List UInt32)(l2:List UInt32):Option (List UInt8×Int):=
 J6 y1 l2 n ([],0)
def GQ(n:Nat)(y1:List UInt32)(nx_f_ref01_Block_l1:List UInt32×Int→Option (List UInt8×Int))(l3:List UInt32)(a1:Int):Option (List UInt8×Int):=
 cond (decide (a1<10))
 (
  (DN l3 0 4 8 12).bind fun y2=>
  (DN y2 1 5 9 13).bind fun y3=>
  (DN y3 2 6 10 14).bind fun y4=>
  (DN y4 3 7 11 15).bind fun y5=>
  (DN y5 0 5 10 15).bind fun y6=>
  (DN y6 1 6 11 12).bind fun y7=>
  (DN y7 2 7 8 13).bind fun y8=>
  (DN y8 3 4 9 14).bind fun y9=>
  ret (wI (a1+1)) fun x1=>
  nx_f_ref01_Block_l1 (y9,x1))
 (
  GB n y1 l3)
def J5(n:Nat)(y1:List UInt32):Nat→(List UInt32×Int)→Option (List UInt8×Int):=CN fun nx x=>GQ n y1 nx x.1 x.2
def G7(n:Nat)(p0:List UInt8)(p1:UInt32)(p2:List UInt8):Option (List UInt8×Int):=
 cond ((!decide ((p0.length:Int)=32))||(!decide ((p2.length:Int)=12)))
 (
  some ([],2))
 (
  (KO n p0 p1 p2).bind fun y1=>
  (DR 4 [] y1).bind fun l1=>
  J5 n y1 n (l1,0))
theorem Xv{n:Nat}{p0 p2:List UInt8}{p1:UInt32}{r:List UInt8×Int}(h:G7 n p0 p1 p2=some r): zC K w0 267 [vS p0,Y p1,vS p2] [] H (fun u M=>u=.tuple #[vS r.1,vI r.2]∧M=[]):=by
 unfold G7 at h
 refine T3.enter Tryz.func267 rfl rfl ?_
 refine V (O E (O E (U (AG (V (J E (Bw E Cj E (Z E BJ (J E ?_)))))))))
 refine Eg (c := !decide ((p2.length:Int)=12)) 17 4 21 E (fun hb k=>?_) (fun hb k=>?_) ?_
 refine AC E (AC E (AC E (Ag E E E ?_)))
 exact k.mono tL
 refine J E (Bw E Cj E (Z E BJ (Ag E E E ?_)))
 exact k.mono tL
 refine U ?_
 refine AL h E (fun hc1 h=>?_) fun hc1 h=>?_
 refine V (O E (O E (U (AJ (Ab ?_)))))
 obtain rfl:=zI h
 exact AW [] 0 E E E
 refine AI (AH (V ?_))
 refine AD h fun y1 hy1 h=>?_
 refine J E (J E (J E ?_))
 refine Bg (vs:=[_,_,_]) (Hin:=[]) (Hr:=_) E E ⟨E,E,E,zT⟩ qR E E (Xw hy1) ?_
 rintro v1 _ ⟨_,rfl,rfl⟩
 refine⟨trivial,?_⟩
 refine O E (U (V ?_))
 refine AD h fun l1 hl1 h=>?_
 refine gv (n:=16) BD E CF Bd Qc H8 E E E E E zU fun v2=>?_
 refine J E ?_
 refine kj 0 1 hl1 (sz:=1) (enc:=BD) zV E CF Bd Qc H8 E zD E E E E (by simp[BD,Value.oneCell']) zU fun v3=>?_
 refine O E (U ?_)
 refine A9 (α:=List UInt32×Value) (fun x=>GB n y1 x.1=some r) (fun x=>[(8,v1),(9,x.2)]) (fun x=>AB 36 1 v1 BD y1::AB 36 1 x.2 BD x.1::H) ?_ (fun x D h=>?_)
 refine V (O E (U (AM ?_)))
 refine SX.heap (SX.mono (BF (α:=Nat×List UInt32×Value×Int) (fun x=>J5 n y1 x.1 (x.2.1,x.2.2.2)=some r) (fun x=>[(8,v1),(9,x.2.2.1),(10,vI x.2.2.2)]) (fun x=>AB 36 1 v1 BD y1::AB 36 1 x.2.2.1 BD x.2.1::H) (fun x=>x.1) (fun x D h=>?_) (n,l1,v3,0) h) tL) (BN [1,0] 2 E E E)
 obtain⟨m1,l3,v5,a1⟩:=x
 dsimp only at h
 rcases m1 with _ | m1
 cases (show(none:Option _)=some r from h)
 replace h:GQ n y1 (J5 n y1 m1) l3 a1=some r:=h
 unfold GQ at h
 try dsimp only
 refine AG (V (J E (Z E A8 (U ?_))))
 refine AL h E (fun hc2 h=>?_) fun hc2 h=>?_
 refine AI (AH (AG (AM (V ?_))))
 refine AD h fun y2 hy2 h=>?_
 refine J E (SL.pick [1,0] 2 (AP 1 Pu (Iu hy2) E (U (V ?_))))
 refine AD h fun y3 hy3 h=>?_
 refine J E (AP 1 Pu (Iu hy3) E (U (V ?_)))
 refine AD h fun y4 hy4 h=>?_
 refine J E (AP 1 Pu (Iu hy4) E (U (V ?_)))
 refine AD h fun y5 hy5 h=>?_
 refine J E (AP 1 Pu (Iu hy5) E (U (V ?_)))
 refine AD h fun y6 hy6 h=>?_
 refine J E (AP 1 Pu (Iu hy6) E (U (V ?_)))
 refine AD h fun y7 hy7 h=>?_
 refine J E (AP 1 Pu (Iu hy7) E (U (V ?_)))
 refine AD h fun y8 hy8 h=>?_
 refine J E (AP 1 Pu (Iu hy8) E (U (AN ?_)))
 refine AD h fun y9 hy9 h=>?_
 refine J E (AP 1 Pu (Iu hy9) E (AY (Aj (AH (AN ?_)))))
 obtain⟨x1,ex1,h⟩:=Bu h
 refine J E (Z E Bh ?_)
 refine Ai (u:=vI x1) E E (by rw[ex1]) ?_
 refine AY ?_
 exact Au (m1,y9,v5,x1) h (Nat.lt_succ_self _) tL (BN [1,0] 2 E E E)
 refine A1 (A6 (Ba (A7 ?_)))
 exact Aq (l3,v5) h tL (BN [0,1] 2 E E E)
 obtain⟨l2,v4⟩:=x
 dsimp only at h
 unfold GB at h
 try dsimp only
 refine V (CB 5 1 Fg (O E (U ?_)))
 refine A9 (α:=List UInt8×Value) (fun x=>J4 x.1=some r) (fun x=>[(11,x.2)]) (fun x=>AB 5 1 x.2 Fg x.1::H) ?_ (fun x D h=>?_)
 refine V (O E (U (AM ?_)))
 refine SX.heap (SX.mono (BF (α:=Nat×List UInt8×Value×Int) (fun x=>J6 y1 l2 x.1 (x.2.1,x.2.2.2)=some r) (fun x=>[(8,v1),(9,v4),(11,x.2.2.1),(12,vI x.2.2.2)]) (fun x=>AB 36 1 v1 BD y1::AB 36 1 v4 BD l2::AB 5 1 x.2.2.1 Fg x.2.1::H) (fun x=>x.1) (fun x D h=>?_) (n,[],zN,0) h) tL) (BN [1,2,0] 3 E E E)
 obtain⟨m2,l5,v7,a2⟩:=x
 dsimp only at h
 rcases m2 with _ | m2
 cases (show(none:Option _)=some r from h)
 replace h:GR y1 l2 (J6 y1 l2 m2) l5 a2=some r:=h
 unfold GR at h
 try dsimp only
 refine AG (V (J E (Z E A8 (U ?_))))
 refine AL h E (fun hc3 h=>?_) fun hc3 h=>?_
 refine AI (AH (AG (AM (AG ?_))))
 refine AD h fun x2 hx2 h=>?_
 refine AD h fun x3 hx3 h=>?_
 obtain⟨x4,ex4,h⟩:=Bu h
 refine Av DH [0,1] (C7 [(true,0),(true,1),(true,2),(true,3),(true,4),(true,5),(true,6),(true,7),(true,8),(true,9)]) zK (J E (J E ?_))
 refine B2 1 hx2 E CF Bd E E E fun g1 m3 cp1 hv1=>?_
 refine Bk E A2 E (Br (sz:=1) (enc:=BD) 1 0 zV E hv1 hx2 E) ?_
 refine J E (J E ?_)
 refine B2 0 hx3 E CF Bd E E E fun g2 m4 cp2 hv2=>?_
 refine Bk E A2 E (Br (sz:=1) (enc:=BD) 0 0 zV E hv2 hx3 E) ?_
 refine Z E B1 ?_
 refine Ai (u:=Y x4) E E (by rw[ex4]) ?_
 refine U (AN ?_)
 refine AD h fun l6 hl6 h=>?_
 refine J E (J E (BG E E (DB CP DS) (J E ?_)))
 refine Z E (Fd.shr32 (n:=8)) ?_
 refine BG E E (DB CP DS) (J E ?_)
 refine Z E (Fd.shr32 (n:=16)) ?_
 refine BG E E (DB CP DS) (J E ?_)
 refine Z E (Fd.shr32 (n:=24)) ?_
 refine BG E E (DB CP DS) ?_
 refine CD [_,_,_,_] E Cb Jx Ki ⟨E,E,E,E,zT⟩ E E E zX E E zU fun b1=>?_
 refine CH Fg 1 ([x4.toUInt8,(shr32 x4 8).toUInt8,(shr32 x4 16).toUInt8,(shr32 x4 24).toUInt8]:List UInt8) E zV E ?_
 refine C5 3 hl6 (sz:=1) (enc:=Fg) zV E Cb Jx Vq Ki E zD E E E E (CL (sz:=1) (enc:=Fg) 0 zV E) (by simp[Fg,Value.oneCell']) zU fun v8=>?_
 refine O E (AY (Aj (AH (AN ?_))))
 obtain⟨x5,ex5,h⟩:=Bu h
 refine J E (Z E Bh ?_)
 refine Ai (u:=vI x5) E E (by rw[ex5]) ?_
 refine AY ?_
 exact Au (m2,l6,v8,x5) h (Nat.lt_succ_self _) tL (BN [1,2,3] 4 E E E)
 refine A1 (A6 (Ba (A7 ?_)))
 exact Aq (l5,v7) h tL (BN [2] 3 E E E)
 obtain⟨l4,v6⟩:=x
 dsimp only at h
 unfold J4 at h
 try dsimp only
 refine V (J E (Gt 0 E Cb DS Cj E E (O E (O E (U (AJ ?_))))))
 obtain rfl:=zI h
 exact AW [] 1 E E E
def Lv(l1:List UInt8):Option (List UInt8×Int):=
 some (l1,0)
def Ha(p2:List UInt8)(l2:List UInt8)(a2:Int)(nx_f_ref01_Xor_l1:List UInt8×List UInt8×Int→Option (List UInt8×Int))(a3:List UInt8):Option (List UInt8×Int):=
 (BB p2 a2).bind fun c1=>
 (Tx a2 64).bind fun q3=>
 (BB a3 q3).bind fun c2=>
 (DR 1 l2 [c1 ^^^ c2]).bind fun l3=>
 ret (wI (a2+1)) fun i_1=>
 nx_f_ref01_Xor_l1 (l3,a3,i_1)
def Hu(n:Nat)(p0:List UInt8)(p1:List UInt8)(p2:List UInt8)(nx_f_ref01_Xor_l1:List UInt8×List UInt8×Int→Option (List UInt8×Int))(l2:List UInt8)(a1:List UInt8)(a2:Int):Option (List UInt8×Int):=
 cond (decide (a2<(p2.length:Int)))
 (
  (Tx a2 64).bind fun q1=>
  cond (decide (q1=0))
  (
   (VY a2 64).bind fun q2=>
   (G7 n p0 (E4 q2) p1).bind fun y1=>
   Ha p2 l2 a2 nx_f_ref01_Xor_l1 y1.1)
  (
   Ha p2 l2 a2 nx_f_ref01_Xor_l1 a1))
 (
  Lv l2)
def JQ(n:Nat)(p0:List UInt8)(p1:List UInt8)(p2:List UInt8):Nat→(List UInt8×List UInt8×Int)→Option (List UInt8×Int):=CN fun nx x=>Hu n p0 p1 p2 nx x.1 x.2.1 x.2.2
def Mp(n:Nat)(p0:List UInt8)(p1:List UInt8)(p2:List UInt8):Option (List UInt8×Int):=
 cond (((!decide ((p0.length:Int)=32))||(!decide ((p1.length:Int)=12)))||(decide (1048576<(p2.length:Int))))
 (
  some ([],2))
 (
  JQ n p0 p1 p2 n ([],[],0))
theorem aX{n:Nat}{p0 p1 p2:List UInt8}{r:List UInt8×Int}(h:Mp n p0 p1 p2=some r): zC K w0 246 [vS p0,vS p1,vS p2] [] H (fun u M=>u=.tuple #[vS r.1,vI r.2]∧M=[]):=by
 unfold Mp at h
 refine T3.enter Tryz.func246 rfl rfl ?_
 refine V (O E (O E (U (AG (V (J E (Bw E Cj E (Z E BJ (J E ?_)))))))))
 refine Eg (c := !decide ((p1.length:Int)=12)) 16 4 20 E (fun hb k=>?_) (fun hb k=>?_) ?_
 refine AC E (AC E (AC E (Ag E E E ?_)))
 exact k.mono tL
 refine J E (Bw E Cj E (Z E BJ (Ag E E E ?_)))
 exact k.mono tL
 refine J E ?_
 refine Eg (c:=decide (1048576<(p2.length:Int))) 21 4 25 E (fun hb k=>?_) (fun hb k=>?_) ?_
 refine AC E (AC E (AC E (Ag E E E ?_)))
 exact k.mono tL
 refine J E (Bw E Cj E (Z E Cu (Ag E E E ?_)))
 exact k.mono tL
 refine U ?_
 refine AL h E (fun hc1 h=>?_) fun hc1 h=>?_
 refine V (O E (O E (U (AJ (Ab ?_)))))
 obtain rfl:=zI h
 exact AW [] 0 E E E
 refine AI (AH (V (CB 5 1 Fg (O E (U (V (O E (U ?_))))))))
 refine A9 (α:=List UInt8×Value) (fun x=>Lv x.1=some r) (fun x=>[(8,x.2)]) (fun x=>AB 5 1 x.2 Fg x.1::H) ?_ (fun x D h=>?_)
 refine V (O E (U (AM ?_)))
 refine SX.heap (SX.mono (BF (α:=Nat×List UInt8×Value×List UInt8×Int) (fun x=>JQ n p0 p1 p2 x.1 (x.2.1,x.2.2.2.1,x.2.2.2.2)=some r) (fun x=>[(0,vS p0),(1,vS p1),(2,vS p2),(8,x.2.2.1),(9,vS x.2.2.2.1),(10,vI x.2.2.2.2)]) (fun x=>AB 5 1 x.2.2.1 Fg x.2.1::H) (fun x=>x.1) (fun x D h=>?_) (n,[],zN,[],0) h) tL) (BN [0] 1 E E E)
 obtain⟨m1,l2,v2,a1,a2⟩:=x
 dsimp only at h
 rcases m1 with _ | m1
 cases (show(none:Option _)=some r from h)
 replace h:Hu n p0 p1 p2 (JQ n p0 p1 p2 m1) l2 a1 a2=some r:=h
 unfold Hu at h
 try dsimp only
 refine AG (V (J E (J E (Bw E Cj E (Z E A8 (U ?_))))))
 refine AL h E (fun hc2 h=>?_) fun hc2 h=>?_
 refine AI (AH (AG (AM ?_)))
 refine A9 (α:=List UInt8) (fun x=>Ha p2 l2 a2 (JQ n p0 p1 p2 m1) x=some r) (fun x=>[(0,vS p0),(1,vS p1),(2,vS p2),(8,v2),(9,vS x),(10,vI a2)]) (fun x=>AB 5 1 v2 Fg l2::H) ?_ (fun a3 D h=>?_)
 refine V ?_
 refine AD h fun q1 hq1 h=>?_
 refine J E (Z E (TA hq1) (Z E Bq (U ?_)))
 refine AL h E (fun hc3 h=>?_) fun hc3 h=>?_
 refine V ?_
 refine AD h fun q2 hq2 h=>?_
 refine AD h fun y1 hy1 h=>?_
 refine J E (J E (Z E (Vj hq2) (BG E E (QV Jg CP) (J E (AP 0 qJ (Xv hy1) E (J E (Ac E E E ?_)))))))
 refine Ac E E E (O E (O E (U (AN (J E (O E (AY ?_)))))))
 exact Aq y1.1 h tL (BN [0] 1 E E E)
 refine AI ?_
 exact Aq a1 h tL (BN [0] 1 E E E)
 unfold Ha at h
 try dsimp only
 refine AD h fun c1 hc1 h=>?_
 refine AD h fun q3 hq3 h=>?_
 refine AD h fun c2 hc2 h=>?_
 refine AD h fun l3 hl3 h=>?_
 refine Av DH [] (CA [(true,0),(true,1),(true,2),(true,3),(true,4),(true,5),(true,6),(true,7),(true,8),(false,9)] (.last 10 (C7 [(false,11)]))) zK (J E (J E (J E (Kj hc1 E Cj E E (J E (J E (Z E (TA hq3) ?_)))))))
 refine Kj hc2 E Cj E E (Z E TB ?_)
 refine CD [_] E Cb Jx Ki ⟨E,zT⟩ E E E zX E E zU fun b1=>?_
 refine CH Fg 1 ([c1 ^^^ c2]:List UInt8) E zV E ?_
 refine BY ?_
 refine C5 1 hl3 (sz:=1) (enc:=Fg) zV E Cb Jx Vq Ki E zD E E E E (CL (sz:=1) (enc:=Fg) 0 zV E) (by simp[Fg,Value.oneCell']) zU fun v3=>?_
 refine O E (AY (Aj (AH (AN ?_))))
 obtain⟨i_1,ei_1,h⟩:=Bu h
 refine J E (Z E Bh ?_)
 refine Ai (u:=vI i_1) E E (by rw[ei_1]) ?_
 refine AY ?_
 exact Au (m1,l3,v3,a3,i_1) h (Nat.lt_succ_self _) tL (BN [1] 2 E E E)
 refine A1 (A6 (Ba (A7 ?_)))
 exact Aq (l2,v2) h tL (BN [0] 1 E E E)
 obtain⟨l1,v1⟩:=x
 dsimp only at h
 unfold Lv at h
 try dsimp only
 refine V (J E (Gt 0 E Cb DS Cj E E (O E (O E (U (AJ ?_))))))
 obtain rfl:=zI h
 exact AW [] 1 E E E
end

section
variable {K:Nat→Prop}{w0:World}{H:List AV}
def CG(p0:UInt32)(p1:Int):Option UInt32:=
 (Qq p1).bind fun n1=>
 (Qq (wI (32-p1))).bind fun n2=>
 ret ((shr32 p0 n1) ||| (shl32 p0 n2)) fun x1=>
 some x1
theorem EQ{p0 r:UInt32}{p1:Int}(h:CG p0 p1=some r): zC K w0 282 [Y p0,vI p1] [] H (fun u M=>u=Y r∧M=[]):=by
 unfold CG at h
 refine T3.enter Tryz.func282 rfl rfl ?_
 refine V (O E (U (AG ?_)))
 refine AD h fun n1 hn1 h=>?_
 refine AD h fun n2 hn2 h=>?_
 obtain⟨x1,ex1,h⟩:=Bu h
 refine Av DH [] (C7 [(true,0),(true,1),(true,2),(true,3),(true,4),(true,5),(true,6),(true,7),(true,8)]) zK (J E (J E (Z E (WT hn1) (J E (J E (Z E DI (Z E (Rz hn2) ?_)))))))
 refine Z E E5 ?_
 refine Ai (u:=Y x1) E E (by rw[ex1]) ?_
 refine U (AJ ?_)
 obtain rfl:=zI h
 exact AW [] 0 E E E
def Mq:Option (List UInt32):=
 some [1779033703,3144134277,1013904242,2773480762,1359893119,2600822924,528734635,1541459225]
theorem Xx{r:List UInt32}(h:Mq=some r): zC K w0 270 [] [] H (fun u M=>∃v0:Value,u=v0∧M=[AB 36 1 v0 BD r]):=by
 unfold Mq at h
 refine T3.enter Tryz.func270 rfl rfl ?_
 refine V (CB 36 1 BD (O E (U (V ?_))))
 refine CD [_,_,_,_,_,_,_,_] E CF Bd H8 ⟨E,E,E,E,E,E,E,E,zT⟩ E E E zX E E zU fun b1=>?_
 refine CH BD 1 ([1779033703,3144134277,1013904242,2773480762,1359893119,2600822924,528734635,1541459225]:List UInt32) E zV E ?_
 refine O E (U (AJ ?_))
 obtain rfl:=zI h
 exact Bm [0] 2 (C1 E E) E E ⟨(.slice (some ⟨b1,0,none⟩) 8 8),E,E⟩
def Kz(l9:List UInt32):Option (List UInt32):=
 some l9
def HA(p0:List UInt32)(nx_f_ref02_part_l3:List UInt32×Int→Option (List UInt32))(l10:List UInt32)(a3:Int):Option (List UInt32):=
 cond (decide (a3<8))
 (
  (BB l10 a3).bind fun x27=>
  (BB p0 a3).bind fun x28=>
  (BB l10 a3).bind fun x29=>
  (Ma l10 a3 (x27+x28)).bind fun l11=>
  ret (wI (a3+1)) fun x30=>
  nx_f_ref02_part_l3 (l11,x30))
 (
  Kz l10)
def K5(p0:List UInt32):Nat→(List UInt32×Int)→Option (List UInt32):=CN fun nx x=>HA p0 nx x.1 x.2
def Gp(n:Nat)(p0:List UInt32)(l7:List UInt32):Option (List UInt32):=
 K5 p0 n (l7,0)
def G9(n:Nat)(T:List UInt32)(p0:List UInt32)(l1:List UInt32)(nx_f_ref02_part_l2:List UInt32×Int→Option (List UInt32))(l8:List UInt32)(a2:Int):Option (List UInt32):=
 cond (decide (a2<64))
 (
  (BB l8 0).bind fun x6=>
  (BB l8 4).bind fun x7=>
  (BB l8 7).bind fun x8=>
  (CG x7 6).bind fun y5=>
  (CG x7 11).bind fun y6=>
  (CG x7 25).bind fun y7=>
  (BB l8 5).bind fun x9=>
  (BB l8 6).bind fun x10=>
  (BB T a2).bind fun x11=>
  (BB l1 a2).bind fun x12=>
  ret ((((x8+((y5 ^^^ y6) ^^^ y7))+((x7 &&& x9) ^^^ ((4294967295 ^^^ x7) &&& x10)))+x11)+x12) fun x13=>
  (CG x6 2).bind fun y8=>
  (CG x6 13).bind fun y9=>
  (CG x6 22).bind fun y10=>
  (BB l8 1).bind fun x14=>
  (BB l8 2).bind fun x15=>
  (BB l8 1).bind fun x16=>
  (BB l8 2).bind fun x17=>
  ret (((y8 ^^^ y9) ^^^ y10)+(((x6 &&& x14) ^^^ (x6 &&& x15)) ^^^ (x16 &&& x17))) fun x18=>
  (BB l8 0).bind fun x19=>
  (BB l8 1).bind fun x20=>
  (BB l8 2).bind fun x21=>
  (BB l8 3).bind fun x22=>
  (BB l8 4).bind fun x23=>
  (BB l8 5).bind fun x24=>
  (BB l8 6).bind fun x25=>
  ret (wI (a2+1)) fun x26=>
  nx_f_ref02_part_l2 ([x13+x18,x19,x20,x21,x22+x13,x23,x24,x25],x26))
 (
  Gp n p0 l8)
def K0(n:Nat)(T:List UInt32)(p0:List UInt32)(l1:List UInt32):Nat→(List UInt32×Int)→Option (List UInt32):=CN fun nx x=>G9 n T p0 l1 nx x.1 x.2
def Gm(n:Nat)(T:List UInt32)(p0:List UInt32)(l1:List UInt32):Option (List UInt32):=
 (DR 4 [] p0).bind fun l6=>
 K0 n T p0 l1 n (l6,0)
def Gn(a1:Int)(nx_f_ref02_part_l1:List UInt32×Int→Option (List UInt32))(l3:List UInt32):Option (List UInt32):=
 ret (wI (a1+1)) fun x5=>
 nx_f_ref02_part_l1 (l3,x5)
def G8(n:Nat)(T:List UInt32)(p0:List UInt32)(p1:List UInt8)(nx_f_ref02_part_l1:List UInt32×Int→Option (List UInt32))(l2:List UInt32)(a1:Int):Option (List UInt32):=
 cond (decide (a1<64))
 (
  cond (decide (a1<16))
  (
   (BB p1 (wI (4*a1))).bind fun c1=>
   (BB p1 (wI ((wI (4*a1))+1))).bind fun c2=>
   (BB p1 (wI ((wI (4*a1))+2))).bind fun c3=>
   (BB p1 (wI ((wI (4*a1))+3))).bind fun c4=>
   (DR 4 l2 [(((shl32 c1.toUInt32 24) ||| (shl32 c2.toUInt32 16)) ||| (shl32 c3.toUInt32 8)) ||| c4.toUInt32]).bind fun l4=>
   Gn a1 nx_f_ref02_part_l1 l4)
  (
   (BB l2 (wI (a1-15))).bind fun x1=>
   (BB l2 (wI (a1-2))).bind fun x2=>
   (BB l2 (wI (a1-16))).bind fun x3=>
   (CG x1 7).bind fun y1=>
   (CG x1 18).bind fun y2=>
   (BB l2 (wI (a1-7))).bind fun x4=>
   (CG x2 17).bind fun y3=>
   (CG x2 19).bind fun y4=>
   (DR 4 l2 [((x3+((y1 ^^^ y2) ^^^ (shr32 x1 3)))+x4)+((y3 ^^^ y4) ^^^ (shr32 x2 10))]).bind fun l5=>
   Gn a1 nx_f_ref02_part_l1 l5))
 (
  Gm n T p0 l2)
def IX(n:Nat)(T:List UInt32)(p0:List UInt32)(p1:List UInt8):Nat→(List UInt32×Int)→Option (List UInt32):=CN fun nx x=>G8 n T p0 p1 nx x.1 x.2
def Lb(n:Nat)(T:List UInt32)(p0:List UInt32)(p1:List UInt8):Option (List UInt32):=
 IX n T p0 p1 n ([],0)
theorem ZC{n:Nat}{T p0 r:List UInt32}{DA:Value}{p1:List UInt8}(h:Lb n T p0 p1=some r)(hT:JO K w0 2 64 T)(hs0_:B6 K w0 BD 1 DA p0):zC K w0 271 [DA,vS p1] [] H (fun u M=>∃v0:Value,u=v0∧M=[AB 36 1 v0 BD r]):=by
 unfold Lb at h
 refine T3.enter Tryz.func271 rfl rfl ?_
 refine V (CB 36 1 BD (O E (U (V (CB 36 1 BD (O E (U ?_)))))))
 refine A9 (α:=List UInt32×Value) (fun x=>Gm n T p0 x.1=some r) (fun x=>[(0,DA),(5,x.2)]) (fun x=>AB 36 1 x.2 BD x.1::H) ?_ (fun x D h=>?_)
 refine V (O E (U (AM ?_)))
 refine SX.heap (SX.mono (BF (α:=Nat×List UInt32×Value×Int) (fun x=>IX n T p0 p1 x.1 (x.2.1,x.2.2.2)=some r) (fun x=>[(0,DA),(1,vS p1),(5,x.2.2.1),(6,vI x.2.2.2)]) (fun x=>AB 36 1 x.2.2.1 BD x.2.1::H) (fun x=>x.1) (fun x D h=>?_) (n,[],zN,0) h) tL) (BN [0] 2 E E E)
 obtain⟨m1,l2,v2,a1⟩:=x
 dsimp only at h
 rcases m1 with _ | m1
 cases (show(none:Option _)=some r from h)
 replace h:G8 n T p0 p1 (IX n T p0 p1 m1) l2 a1=some r:=h
 unfold G8 at h
 try dsimp only
 refine AG (V (J E (Z E A8 (U ?_))))
 refine AL h E (fun hc1 h=>?_) fun hc1 h=>?_
 refine AI (AH ?_)
 refine A9 (α:=List UInt32×Value) (fun x=>Gn a1 (IX n T p0 p1 m1) x.1=some r) (fun x=>[(0,DA),(1,vS p1),(5,x.2),(6,vI a1)]) (fun x=>AB 36 1 x.2 BD x.1::H) ?_ (fun x D h=>?_)
 refine AM (AG (V (J E (Z E A8 (U ?_)))))
 refine AL h E (fun hc2 h=>?_) fun hc2 h=>?_
 refine AG ?_
 refine AD h fun c1 hc1 h=>?_
 refine AD h fun c2 hc2 h=>?_
 refine AD h fun c3 hc3 h=>?_
 refine AD h fun c4 hc4 h=>?_
 refine AD h fun l4 hl4 h=>?_
 refine Av DH [] (CA [(true,0),(true,1),(true,2),(true,3),(true,4),(true,5),(true,6),(true,7),(true,8),(true,9),(true,10),(true,11),(true,12),(true,13),(true,14),(true,15),(true,16),(true,17),(true,18),(true,19),(true,20),(true,21),(true,22),(true,23),(true,24),(true,25),(true,26),(true,27),(true,28),(true,29),(false,30)] (.last 31 (C7 [(false,32)]))) zK (J E (J E (J E (Z E MP (Kj hc1 E Cj E E (BG E E (FV DS CP) ?_))))))
 refine Z E (Fd.shl32 (n:=24)) ?_
 refine J E (J E (Z E MP (Z E Bh (Kj hc2 E Cj E E (BG E E (FV DS CP) ?_)))))
 refine Z E (Fd.shl32 (n:=16)) ?_
 refine Z E E5 (J E (J E (Z E MP (Z E Bh (Kj hc3 E Cj E E (BG E E (FV DS CP) ?_))))))
 refine Z E (Fd.shl32 (n:=8)) ?_
 refine Z E E5 (J E (J E (Z E MP (Z E Bh (Kj hc4 E Cj E E (BG E E (FV DS CP) (Z E E5 ?_)))))))
 refine CD [_] E CF Bd H8 ⟨E,zT⟩ E E E zX E E zU fun b1=>?_
 refine CH BD 1 ([(((shl32 c1.toUInt32 24) ||| (shl32 c2.toUInt32 16)) ||| (shl32 c3.toUInt32 8)) ||| c4.toUInt32]:List UInt32) E zV E ?_
 refine BY ?_
 refine C5 1 hl4 (sz:=1) (enc:=BD) zV E CF Bd Qc H8 E zD E E E E (CL (sz:=1) (enc:=BD) 0 zV E) (by simp[BD,Value.oneCell']) zU fun v4=>?_
 refine O E (U (A1 (A6 (A7 ?_))))
 exact Aq (l4,v4) h tL (BN [1] 2 E E E)
 refine AI (AH (V ?_))
 refine AD h fun x1 hx1 h=>?_
 refine J E (J E (Z E DI ?_))
 refine B2 0 hx1 E CF Bd E E E fun g1 m2 cp1 hv1=>?_
 refine Bk E A2 E (Br (sz:=1) (enc:=BD) 0 0 zV E hv1 hx1 E) ?_
 refine O E (U (V ?_))
 refine AD h fun x2 hx2 h=>?_
 refine J E (J E (Z E DI ?_))
 refine B2 0 hx2 E CF Bd E E E fun g2 m3 cp2 hv2=>?_
 refine Bk E A2 E (Br (sz:=1) (enc:=BD) 0 0 zV E hv2 hx2 E) ?_
 refine O E (U ?_)
 refine AD h fun x3 hx3 h=>?_
 refine AD h fun y1 hy1 h=>?_
 refine AD h fun y2 hy2 h=>?_
 refine AD h fun x4 hx4 h=>?_
 refine AD h fun y3 hy3 h=>?_
 refine AD h fun y4 hy4 h=>?_
 refine AD h fun l5 hl5 h=>?_
 refine Av DH [0] (CA [(true,0),(true,1),(true,2),(true,3),(true,4),(true,5),(true,6),(true,8),(true,11),(true,12),(true,15),(true,16),(true,17),(true,18),(true,19),(true,21),(true,23),(true,26),(true,27),(false,7),(false,9),(true,10),(true,13),(true,14),(true,20),(false,22),(false,24),(true,25),(true,28),(true,29),(false,30)] (.last 31 (C7 [(false,32)]))) zK (J E (J E (J E (Z E DI ?_))))
 refine B2 0 hx3 E CF Bd E E E fun g3 m4 cp3 hv3=>?_
 refine Bk E A2 E (Br (sz:=1) (enc:=BD) 0 0 zV E hv3 hx3 E) ?_
 refine J E (J E (J E ?_))
 refine Z E (Fd.shr32 (n:=3)) ?_
 refine J E (J E (Z E DI ?_))
 refine B2 0 hx4 E CF Bd E E E fun g4 m5 cp4 hv4=>?_
 refine Bk E A2 E (Br (sz:=1) (enc:=BD) 0 0 zV E hv4 hx4 E) ?_
 refine J E (J E (J E ?_))
 refine Z E (Fd.shr32 (n:=10)) ?_
 refine BP 0 Ns (EQ hy1) E ⟨⟨0,E⟩,zT⟩ (BP 0 Ns (EQ hy2) E ⟨⟨0,E⟩,zT⟩ (Z E Ck (Z E Ck (Z E B1 (Z E B1 (BP 0 Ns (EQ hy3) E ⟨⟨0,E⟩,zT⟩ (BP 0 Ns (EQ hy4) E ⟨⟨0,E⟩,zT⟩ ?_)))))))
 refine Z E Ck (Z E Ck (Z E B1 ?_))
 refine CD [_] E CF Bd H8 ⟨E,zT⟩ E E E zX E E (fun _=>⟨⟨1,E⟩,zT⟩) fun b2=>?_
 refine CH BD 1 ([((x3+((y1 ^^^ y2) ^^^ (shr32 x1 3)))+x4)+((y3 ^^^ y4) ^^^ (shr32 x2 10))]:List UInt32) E zV E ?_
 refine BY ?_
 refine C5 1 hl5 (sz:=1) (enc:=BD) zV E CF Bd Qc H8 E zD E E E E (CL (sz:=1) (enc:=BD) 0 zV E) (by simp[BD,Value.oneCell']) zU fun v5=>?_
 refine O E (AY (Aj ?_))
 exact Aq (l5,v5) h tL (BN [1] 2 E E E)
 obtain⟨l3,v3⟩:=x
 dsimp only at h
 unfold Gn at h
 try dsimp only
 refine AN ?_
 obtain⟨x5,ex5,h⟩:=Bu h
 refine J E (Z E Bh ?_)
 refine Ai (u:=vI x5) E E (by rw[ex5]) ?_
 refine AY ?_
 exact Au (m1,l3,v3,x5) h (Nat.lt_succ_self _) tL (BN [0] 1 E E E)
 refine A1 (A6 (Ba (A7 ?_)))
 exact Aq (l2,v2) h tL (BN [0] 1 E E E)
 obtain⟨l1,v1⟩:=x
 dsimp only at h
 unfold Gm at h
 try dsimp only
 refine V ?_
 refine AD h fun l6 hl6 h=>?_
 refine gv (n:=8) BD E CF Bd Qc H8 E E E E E zU fun v6=>?_
 refine J E ?_
 refine R6 0 hl6 hs0_ (sz:=1) (enc:=BD) zV E CF Bd Qc H8 E zD E E E (by simp[BD,Value.oneCell']) zU fun v7=>?_
 refine O E (U ?_)
 refine A9 (α:=List UInt32×Value) (fun x=>Gp n p0 x.1=some r) (fun x=>[(0,DA),(9,x.2)]) (fun x=>AB 36 1 x.2 BD x.1::H) ?_ (fun x D h=>?_)
 refine V (O E (U (AM ?_)))
 refine SX.heap (SX.mono (BF (α:=Nat×List UInt32×Value×Int) (fun x=>K0 n T p0 l1 x.1 (x.2.1,x.2.2.2)=some r) (fun x=>[(0,DA),(5,v1),(9,x.2.2.1),(10,vI x.2.2.2)]) (fun x=>AB 36 1 v1 BD l1::AB 36 1 x.2.2.1 BD x.2.1::H) (fun x=>x.1) (fun x D h=>?_) (n,l6,v7,0) h) tL) (BN [1,0] 2 E E E)
 obtain⟨m6,l8,v9,a2⟩:=x
 dsimp only at h
 rcases m6 with _ | m6
 cases (show(none:Option _)=some r from h)
 replace h:G9 n T p0 l1 (K0 n T p0 l1 m6) l8 a2=some r:=h
 unfold G9 at h
 try dsimp only
 refine AG (V (J E (Z E A8 (U ?_))))
 refine AL h E (fun hc3 h=>?_) fun hc3 h=>?_
 refine AI (AH (AG (AM (V ?_))))
 refine AD h fun x6 hx6 h=>?_
 refine J E ?_
 refine B2 1 hx6 E CF Bd E E E fun g5 m7 cp5 hv5=>?_
 refine Bk E A2 E (Br (sz:=1) (enc:=BD) 1 0 zV E hv5 hx6 E) ?_
 refine O E (U (V ?_))
 refine AD h fun x7 hx7 h=>?_
 refine J E ?_
 refine B2 1 hx7 E CF Bd E E E fun g6 m8 cp6 hv6=>?_
 refine Bk E A2 E (Br (sz:=1) (enc:=BD) 1 0 zV E hv6 hx7 E) ?_
 refine O E (U (AG ?_))
 refine AD h fun x8 hx8 h=>?_
 refine AD h fun y5 hy5 h=>?_
 refine AD h fun y6 hy6 h=>?_
 refine AD h fun y7 hy7 h=>?_
 refine AD h fun x9 hx9 h=>?_
 refine AD h fun x10 hx10 h=>?_
 refine AD h fun x11 hx11 h=>?_
 refine AD h fun x12 hx12 h=>?_
 obtain⟨x13,ex13,h⟩:=Bu h
 refine Av DH [0,1] (CA [(true,0),(true,1),(true,2),(true,3),(true,5),(true,8),(true,12),(true,13),(true,14),(true,15),(true,16),(true,17),(true,18),(true,19),(true,20),(true,21),(true,22),(true,23),(true,25),(true,26),(true,27),(true,29),(true,30),(true,31),(true,32),(false,4),(false,6),(true,7),(false,9),(false,10),(false,11),(false,24),(false,28)] (.last 33 (C7 [(false,34)]))) zK (J E ?_)
 refine B2 1 hx8 E CF Bd E E E fun g7 m9 cp7 hv7=>?_
 refine Bk E A2 E (Br (sz:=1) (enc:=BD) 1 0 zV E hv7 hx8 E) ?_
 refine J E (J E (J E (J E (J E ?_))))
 refine B2 1 hx9 E CF Bd E E E fun g8 m10 cp8 hv8=>?_
 refine Bk E A2 E (Br (sz:=1) (enc:=BD) 1 0 zV E hv8 hx9 E) ?_
 refine Z E Gs (J E (ZU E E (J E ?_)))
 refine B2 1 hx10 E CF Bd E E E fun g9 m11 cp9 hv9=>?_
 refine Bk E A2 E (Br (sz:=1) (enc:=BD) 1 0 zV E hv9 hx10 E) ?_
 refine Z E Gs (Z E Ck (J E ?_))
 refine Mg (xs:=T) hx11 E Rb Bd E E hT.len ?_
 refine Bk E A2 E (qp hT hx11) (J E (J E ?_))
 refine B2 0 hx12 E CF Bd E E E fun g10 m12 cp10 hv10=>?_
 refine Bk E A2 E (Br (sz:=1) (enc:=BD) 0 0 zV E hv10 hx12 E) ?_
 refine BP 0 Ns (EQ hy5) E ⟨⟨0,E⟩,⟨1,E⟩,zT⟩ (BP 0 Ns (EQ hy6) E ⟨⟨0,E⟩,⟨1,E⟩,zT⟩ (Z E Ck (BP 0 Ns (EQ hy7) E ⟨⟨0,E⟩,⟨1,E⟩,zT⟩ (Z E Ck (Z E B1 (Z E B1 (Z E B1 (BY ?_))))))))
 refine Z E B1 ?_
 refine Ai (u:=Y x13) E E (by rw[ex13]) ?_
 refine U (AG ?_)
 refine AD h fun y8 hy8 h=>?_
 refine AD h fun y9 hy9 h=>?_
 refine AD h fun y10 hy10 h=>?_
 refine AD h fun x14 hx14 h=>?_
 refine AD h fun x15 hx15 h=>?_
 refine AD h fun x16 hx16 h=>?_
 refine AD h fun x17 hx17 h=>?_
 obtain⟨x18,ex18,h⟩:=Bu h
 refine Av DH [1] (CA [(true,0),(true,2),(true,5),(true,8),(true,9),(true,10),(true,11),(true,12),(true,13),(true,14),(true,15),(true,16),(true,17),(true,18),(true,19),(true,20),(true,21),(true,22),(true,23),(true,24),(true,25),(true,26),(false,1),(false,3),(true,4),(false,6),(false,7)] (.last 27 (C7 [(false,28)]))) zK (J E (J E (J E (J E (J E ?_)))))
 refine B2 1 hx14 E CF Bd E E E fun g11 m13 cp11 hv11=>?_
 refine Bk E A2 E (Br (sz:=1) (enc:=BD) 0 0 zV E hv11 hx14 E) ?_
 refine Z E Gs (J E (J E ?_))
 refine B2 1 hx15 E CF Bd E E E fun g12 m14 cp12 hv12=>?_
 refine Bk E A2 E (Br (sz:=1) (enc:=BD) 0 0 zV E hv12 hx15 E) ?_
 refine Z E Gs (Z E Ck (J E ?_))
 refine B2 1 hx16 E CF Bd E E E fun g13 m15 cp13 hv13=>?_
 refine Bk E A2 E (Br (sz:=1) (enc:=BD) 0 0 zV E hv13 hx16 E) ?_
 refine J E ?_
 refine B2 1 hx17 E CF Bd E E E fun g14 m16 cp14 hv14=>?_
 refine Bk E A2 E (Br (sz:=1) (enc:=BD) 0 0 zV E hv14 hx17 E) ?_
 refine Z E Gs (Z E Ck (BP 0 Ns (EQ hy8) E ⟨⟨1,E⟩,zT⟩ (BP 0 Ns (EQ hy9) E ⟨⟨1,E⟩,zT⟩ (Z E Ck (BP 0 Ns (EQ hy10) E ⟨⟨1,E⟩,zT⟩ (Z E Ck (BY (Z E B1 ?_))))))))
 refine Ai (u:=Y x18) E E (by rw[ex18]) ?_
 refine U ?_
 refine AD h fun x19 hx19 h=>?_
 refine AD h fun x20 hx20 h=>?_
 refine AD h fun x21 hx21 h=>?_
 refine AD h fun x22 hx22 h=>?_
 refine AD h fun x23 hx23 h=>?_
 refine AD h fun x24 hx24 h=>?_
 refine AD h fun x25 hx25 h=>?_
 refine Av DH [1] (CA [(true,0),(true,1),(true,2),(true,3),(true,4),(true,5),(true,6),(true,7),(true,8),(true,9),(true,10),(true,11),(true,12),(true,13),(true,14),(true,15),(true,16),(true,17),(true,18),(true,19),(true,20),(true,21),(true,22),(true,23),(true,24),(true,25)] (.last 26 (C7 [(false,27)]))) zK (J E (J E (Z E B1 (J E ?_))))
 refine B2 1 hx19 E CF Bd E E E fun g15 m17 cp15 hv15=>?_
 refine Bk E A2 E (Br (sz:=1) (enc:=BD) 0 0 zV E hv15 hx19 E) ?_
 refine J E ?_
 refine B2 1 hx20 E CF Bd E E E fun g16 m18 cp16 hv16=>?_
 refine Bk E A2 E (Br (sz:=1) (enc:=BD) 0 0 zV E hv16 hx20 E) ?_
 refine J E ?_
 refine B2 1 hx21 E CF Bd E E E fun g17 m19 cp17 hv17=>?_
 refine Bk E A2 E (Br (sz:=1) (enc:=BD) 0 0 zV E hv17 hx21 E) ?_
 refine J E ?_
 refine B2 1 hx22 E CF Bd E E E fun g18 m20 cp18 hv18=>?_
 refine Bk E A2 E (Br (sz:=1) (enc:=BD) 0 0 zV E hv18 hx22 E) ?_
 refine J E (Z E B1 (J E ?_))
 refine B2 1 hx23 E CF Bd E E E fun g19 m21 cp19 hv19=>?_
 refine Bk E A2 E (Br (sz:=1) (enc:=BD) 0 0 zV E hv19 hx23 E) ?_
 refine J E ?_
 refine B2 1 hx24 E CF Bd E E E fun g20 m22 cp20 hv20=>?_
 refine Bk E A2 E (Br (sz:=1) (enc:=BD) 0 0 zV E hv20 hx24 E) ?_
 refine J E ?_
 refine B2 1 hx25 E CF Bd E E E fun g21 m23 cp21 hv21=>?_
 refine Bk E A2 E (Br (sz:=1) (enc:=BD) 0 0 zV E hv21 hx25 E) ?_
 refine BY ?_
 refine CD [_,_,_,_,_,_,_,_] E CF Bd H8 ⟨E,E,E,E,E,E,E,E,zT⟩ E E E zX E E zU fun b3=>?_
 refine CH BD 1 ([x13+x18,x19,x20,x21,x22+x13,x23,x24,x25]:List UInt32) E zV E ?_
 refine O E (AY (Aj (AH (AN ?_))))
 obtain⟨x26,ex26,h⟩:=Bu h
 refine J E (Z E Bh ?_)
 refine Ai (u:=vI x26) E E (by rw[ex26]) ?_
 refine AY ?_
 exact Au (m6,[x13+x18,x19,x20,x21,x22+x13,x23,x24,x25],.slice (some ⟨b3,0,none⟩) 8 8,x26) h (Nat.lt_succ_self _) tL (BN [1,0] 3 E E E)
 refine A1 (A6 (Ba (A7 ?_)))
 exact Aq (l8,v9) h tL (BN [1] 2 E E E)
 obtain⟨l7,v8⟩:=x
 dsimp only at h
 unfold Gp at h
 try dsimp only
 refine A9 (α:=List UInt32×Value) (fun x=>Kz x.1=some r) (fun x=>[(9,x.2)]) (fun x=>AB 36 1 x.2 BD x.1::H) ?_ (fun x D h=>?_)
 refine V (O E (U (AM ?_)))
 refine SX.heap (SX.mono (BF (α:=Nat×List UInt32×Value×Int) (fun x=>K5 p0 x.1 (x.2.1,x.2.2.2)=some r) (fun x=>[(0,DA),(9,x.2.2.1),(15,vI x.2.2.2)]) (fun x=>AB 36 1 x.2.2.1 BD x.2.1::H) (fun x=>x.1) (fun x D h=>?_) (n,l7,v8,0) h) tL) (BN [0] 1 E E E)
 obtain⟨m24,l10,v11,a3⟩:=x
 dsimp only at h
 rcases m24 with _ | m24
 cases (show(none:Option _)=some r from h)
 replace h:HA p0 (K5 p0 m24) l10 a3=some r:=h
 unfold HA at h
 try dsimp only
 refine AG (V (J E (Z E A8 (U ?_))))
 refine AL h E (fun hc4 h=>?_) fun hc4 h=>?_
 refine AI (AH (AG (AM ?_)))
 refine AD h fun x27 hx27 h=>?_
 refine AD h fun x28 hx28 h=>?_
 refine AD h fun x29 hx29 h=>?_
 refine AD h fun l11 hl11 h=>?_
 refine Av DH [0] (CA [(true,0),(true,1),(true,2),(true,3),(true,4),(true,5),(true,6),(true,7),(true,8),(true,9),(true,10),(true,11)] (.last 12 .nil)) zK (J E (J E (J E (J E ?_))))
 refine B2 0 hx27 E CF Bd E E E fun g22 m25 cp22 hv22=>?_
 refine Bk E A2 E (Br (sz:=1) (enc:=BD) 0 0 zV E hv22 hx27 E) ?_
 refine J E (J E ?_)
 refine DD hx28 hs0_ E CF Bd E E fun be1 of1 hc5=>?_
 refine Bk E A2 E (Du (j:=0) hc5 E) ?_
 refine Z E B1 ?_
 refine B2 0 hx29 E CF Bd E E E fun g23 m26 cp23 hv23=>?_
 refine BY ?_
 refine E7 (sz:=1) (enc:=BD) 0 hl11 zV E E E E E hv23 Bd (by simp[Value.oneCell']) zT ?_
 refine AY (Aj (AH (AN ?_)))
 obtain⟨x30,ex30,h⟩:=Bu h
 refine J E (Z E Bh ?_)
 refine Ai (u:=vI x30) E E (by rw[ex30]) ?_
 refine AY ?_
 exact Au (m24,l11,v11,x30) h (Nat.lt_succ_self _) tL (BN [0] 1 E E E)
 refine A1 (A6 (Ba (A7 ?_)))
 exact Aq (l10,v11) h tL (BN [0] 1 E E E)
 obtain⟨l9,v10⟩:=x
 dsimp only at h
 unfold Kz at h
 try dsimp only
 refine V (J E (O E (U (AJ ?_))))
 obtain rfl:=zI h
 exact Bm [0] 1 (C1 E E) E E ⟨v10,E,E⟩
def I7(p0:List UInt8)(a1:List UInt8):Option (List UInt8):=
 ret ((Cq (p0.length:Int))*8) fun x1=>
 (ET a1 [(shr64 x1 56).toUInt8,(shr64 x1 48).toUInt8,(shr64 x1 40).toUInt8,(shr64 x1 32).toUInt8,(shr64 x1 24).toUInt8,(shr64 x1 16).toUInt8,(shr64 x1 8).toUInt8,x1.toUInt8]).bind fun s3=>
 some s3
def F0(p0:List UInt8)(nx_f_ref02_Filled_l1:List UInt8→Option (List UInt8))(a2:List UInt8):Option (List UInt8):=
 (Tx (a2.length:Int) 64).bind fun q1=>
 cond (!decide (q1=56))
 (
  (ET a2 [0]).bind fun s2=>
  nx_f_ref02_Filled_l1 s2)
 (
  I7 p0 a2)
def I8(p0:List UInt8):Nat→List UInt8→Option (List UInt8):=CN fun nx x=>F0 p0 nx x
def JR(n:Nat)(p0:List UInt8):Option (List UInt8):=
 (ET p0 [128]).bind fun s1=>
 I8 p0 n s1
theorem W0{n:Nat}{p0 r:List UInt8}(h:JR n p0=some r): zC K w0 269 [vS p0] [] H (fun u M=>u=vS r∧M=[]):=by
 unfold JR at h
 refine T3.enter Tryz.func269 rfl rfl ?_
 refine V (O E (U (V ?_)))
 refine AD h fun s1 hs1 h=>?_
 refine J E (Z E (CQ hs1) (O E (U ?_)))
 refine A9 (α:=List UInt8) (fun x=>I7 p0 x=some r) (fun x=>[(0,vS p0),(3,vS x)]) (fun x=>H) ?_ (fun a1 D h=>?_)
 refine AM ?_
 refine SX.heap (SX.mono (BF (α:=Nat×List UInt8) (fun x=>I8 p0 x.1 x.2=some r) (fun x=>[(0,vS p0),(3,vS x.2)]) (fun x=>H) (fun x=>x.1) (fun x D h=>?_) (n,s1) h) tL) (BN [] 0 E E E)
 obtain⟨m1,a2⟩:=x
 dsimp only at h
 rcases m1 with _ | m1
 cases (show(none:Option _)=some r from h)
 replace h:F0 p0 (I8 p0 m1) a2=some r:=h
 unfold F0 at h
 try dsimp only
 refine AG (V ?_)
 refine AD h fun q1 hq1 h=>?_
 refine J E (Bw E Cj E (Z E (TA hq1) (Z E BJ (U ?_))))
 refine AL h E (fun hc1 h=>?_) fun hc1 h=>?_
 refine AI (AH (AM (AN ?_)))
 refine AD h fun s2 hs2 h=>?_
 refine J E (Z E (CQ hs2) (O E (AY (Aj ?_))))
 exact Au (m1,s2) h (Nat.lt_succ_self _) tL (BN [] 0 E E E)
 refine A1 (A6 (Ba (A7 ?_)))
 exact Aq a2 h tL (BN [] 0 E E E)
 unfold I7 at h
 try dsimp only
 refine V ?_
 obtain⟨x1,ex1,h⟩:=Bu h
 refine J E (Bw E Cj E (BG E E (E6 Jg Da) ?_))
 refine Z E (MC (b:=8)) ?_
 refine Ai (u:=AT x1) E E (by rw[ex1]) ?_
 refine U (V ?_)
 refine AD h fun s3 hs3 h=>?_
 refine J E (J E ?_)
 refine Z E (Fd.shr64 (n:=56)) ?_
 refine BG E E (FU Da DS) (J E ?_)
 refine Z E (Fd.shr64 (n:=48)) ?_
 refine BG E E (FU Da DS) (J E ?_)
 refine Z E (Fd.shr64 (n:=40)) ?_
 refine BG E E (FU Da DS) (J E ?_)
 refine Z E (Fd.shr64 (n:=32)) ?_
 refine BG E E (FU Da DS) (J E ?_)
 refine Z E (Fd.shr64 (n:=24)) ?_
 refine BG E E (FU Da DS) (J E ?_)
 refine Z E (Fd.shr64 (n:=16)) ?_
 refine BG E E (FU Da DS) (J E ?_)
 refine Z E (Fd.shr64 (n:=8)) ?_
 refine BG E E (FU Da DS) (J E (BG E E (FU Da DS) ?_))
 refine CD [_,_,_,_,_,_,_,_] E Cb Jx Ki ⟨E,E,E,E,E,E,E,E,zT⟩ E E E zX E E zU fun b1=>?_
 refine CH Fg 1 ([(shr64 x1 56).toUInt8,(shr64 x1 48).toUInt8,(shr64 x1 40).toUInt8,(shr64 x1 32).toUInt8,(shr64 x1 24).toUInt8,(shr64 x1 16).toUInt8,(shr64 x1 8).toUInt8,x1.toUInt8]:List UInt8) E zV E ?_
 refine Gt 0 E Cb DS Cj E E (Z E (CQ hs3) (O E (U (AJ ?_))))
 obtain rfl:=zI h
 exact AW [] 1 E E E
def Lw(l3:List UInt8):Option (List UInt8):=
 some l3
def Hw(l1:List UInt32)(nx_f_ref02_Sum_l2:List UInt8×Int→Option (List UInt8))(l4:List UInt8)(a2:Int):Option (List UInt8):=
 cond (decide (a2<8))
 (
  (BB l1 a2).bind fun x1=>
  (BB l1 a2).bind fun x2=>
  (BB l1 a2).bind fun x3=>
  (BB l1 a2).bind fun x4=>
  (DR 1 l4 [(shr32 x1 24).toUInt8,(shr32 x2 16).toUInt8,(shr32 x3 8).toUInt8,x4.toUInt8]).bind fun l5=>
  ret (wI (a2+1)) fun i_2=>
  nx_f_ref02_Sum_l2 (l5,i_2))
 (
  Lw l4)
def Ly(l1:List UInt32):Nat→(List UInt8×Int)→Option (List UInt8):=CN fun nx x=>Hw l1 nx x.1 x.2
def JS(n:Nat)(l1:List UInt32):Option (List UInt8):=
 Ly l1 n ([],0)
def Hv(n:Nat)(T:List UInt32)(y1:List UInt8)(nx_f_ref02_Sum_l1:List UInt32×Int→Option (List UInt8))(l2:List UInt32)(a1:Int):Option (List UInt8):=
 cond (decide (a1<(y1.length:Int)))
 (
  (Ix y1 a1 (wI (a1+64))).bind fun s1=>
  (Lb n T l2 s1).bind fun y3=>
  ret (wI (a1+64)) fun i_1=>
  nx_f_ref02_Sum_l1 (y3,i_1))
 (
  JS n l2)
def Lx(n:Nat)(T:List UInt32)(y1:List UInt8):Nat→(List UInt32×Int)→Option (List UInt8):=CN fun nx x=>Hv n T y1 nx x.1 x.2
def I9(n:Nat)(T:List UInt32)(p0:List UInt8):Option (List UInt8):=
 (JR n p0).bind fun y1=>
 (Mq).bind fun y2=>
 Lx n T y1 n (y2,0)
theorem Q3{n:Nat}{T:List UInt32}{p0 r:List UInt8}(h:I9 n T p0=some r)(hT:JO K w0 2 64 T):zC K w0 250 [vS p0] [] H (fun u M=>u=vS r∧M=[]):=by
 unfold I9 at h
 refine T3.enter Tryz.func250 rfl rfl ?_
 refine V (O E (U (V ?_)))
 refine AD h fun y1 hy1 h=>?_
 refine J E (AP 0 qK (W0 hy1) E (O E (U (V ?_))))
 refine AD h fun y2 hy2 h=>?_
 refine Bg (vs:=[]) (Hin:=[]) (Hr:=_) E E zT qL E E (Xx hy2) ?_
 rintro v1 _ ⟨_,rfl,rfl⟩
 refine⟨trivial,?_⟩
 refine O E (U ?_)
 refine A9 (α:=List UInt32×Value) (fun x=>JS n x.1=some r) (fun x=>[(4,x.2)]) (fun x=>AB 36 1 x.2 BD x.1::H) ?_ (fun x D h=>?_)
 refine V (O E (U (AM ?_)))
 refine SX.heap (SX.mono (BF (α:=Nat×List UInt32×Value×Int) (fun x=>Lx n T y1 x.1 (x.2.1,x.2.2.2)=some r) (fun x=>[(3,vS y1),(4,x.2.2.1),(5,vI x.2.2.2)]) (fun x=>AB 36 1 x.2.2.1 BD x.2.1::H) (fun x=>x.1) (fun x D h=>?_) (n,y2,v1,0) h) tL) (BN [0] 1 E E E)
 obtain⟨m1,l2,v3,a1⟩:=x
 dsimp only at h
 rcases m1 with _ | m1
 cases (show(none:Option _)=some r from h)
 replace h:Hv n T y1 (Lx n T y1 m1) l2 a1=some r:=h
 unfold Hv at h
 try dsimp only
 refine AG (V (J E (J E (Bw E Cj E (Z E A8 (U ?_))))))
 refine AL h E (fun hc1 h=>?_) fun hc1 h=>?_
 refine AI (AH (AG (AM (AN ?_))))
 refine AD h fun s1 hs1 h=>?_
 refine AD h fun y3 hy3 h=>?_
 refine J E (J E (J E (J E (Z E Bh (oC hs1 E Cj E E E ?_)))))
 refine Bg (vs:=[_,_]) (Hin:=[_]) (Hr:=_) E E ⟨E,E,zT⟩ qM E E (Co (B:=[_]) (Hin:=[]) fun K' w1 hk hB=>ZC hy3 (hT.keeps hk) (CO (e:=36) zV (hB _ zS))) ?_
 rintro v4 _ ⟨_,rfl,_,rfl,rfl⟩
 refine⟨trivial,?_⟩
 refine O E (AY (Aj (AH (AN ?_))))
 obtain⟨i_1,ei_1,h⟩:=Bu h
 refine J E (Z E Bh ?_)
 refine Ai (u:=vI i_1) E E (by rw[ei_1]) ?_
 refine AY ?_
 exact Au (m1,y3,v4,i_1) h (Nat.lt_succ_self _) tL (BN [1] 2 E E E)
 refine A1 (A6 (Ba (A7 ?_)))
 exact Aq (l2,v3) h tL (BN [0] 1 E E E)
 obtain⟨l1,v2⟩:=x
 dsimp only at h
 unfold JS at h
 try dsimp only
 refine V (CB 5 1 Fg (O E (U ?_)))
 refine A9 (α:=List UInt8×Value) (fun x=>Lw x.1=some r) (fun x=>[(6,x.2)]) (fun x=>AB 5 1 x.2 Fg x.1::H) ?_ (fun x D h=>?_)
 refine V (O E (U (AM ?_)))
 refine SX.heap (SX.mono (BF (α:=Nat×List UInt8×Value×Int) (fun x=>Ly l1 x.1 (x.2.1,x.2.2.2)=some r) (fun x=>[(4,v2),(6,x.2.2.1),(7,vI x.2.2.2)]) (fun x=>AB 36 1 v2 BD l1::AB 5 1 x.2.2.1 Fg x.2.1::H) (fun x=>x.1) (fun x D h=>?_) (n,[],zN,0) h) tL) (BN [1,0] 2 E E E)
 obtain⟨m2,l4,v6,a2⟩:=x
 dsimp only at h
 rcases m2 with _ | m2
 cases (show(none:Option _)=some r from h)
 replace h:Hw l1 (Ly l1 m2) l4 a2=some r:=h
 unfold Hw at h
 try dsimp only
 refine AG (V (J E (Z E A8 (U ?_))))
 refine AL h E (fun hc2 h=>?_) fun hc2 h=>?_
 refine AI (AH (AG (AM ?_)))
 refine AD h fun x1 hx1 h=>?_
 refine AD h fun x2 hx2 h=>?_
 refine AD h fun x3 hx3 h=>?_
 refine AD h fun x4 hx4 h=>?_
 refine AD h fun l5 hl5 h=>?_
 refine Av DH [0] (CA [(true,0),(true,1),(true,2),(true,3),(true,4),(true,5),(true,6),(true,7),(true,8),(true,9),(true,10),(true,11),(true,12),(true,13),(true,14),(true,15),(true,16),(true,17),(true,18),(true,19),(true,20),(true,21),(true,22),(true,23),(false,24)] (.last 25 (C7 [(false,26)]))) zK (J E (J E (J E ?_)))
 refine B2 0 hx1 E CF Bd E E E fun g1 m3 cp1 hv1=>?_
 refine Bk E A2 E (Br (sz:=1) (enc:=BD) 0 0 zV E hv1 hx1 E) ?_
 refine Z E (Fd.shr32 (n:=24)) ?_
 refine BG E E (DB CP DS) (J E (J E ?_))
 refine B2 0 hx2 E CF Bd E E E fun g2 m4 cp2 hv2=>?_
 refine Bk E A2 E (Br (sz:=1) (enc:=BD) 0 0 zV E hv2 hx2 E) ?_
 refine Z E (Fd.shr32 (n:=16)) ?_
 refine BG E E (DB CP DS) (J E (J E ?_))
 refine B2 0 hx3 E CF Bd E E E fun g3 m5 cp3 hv3=>?_
 refine Bk E A2 E (Br (sz:=1) (enc:=BD) 0 0 zV E hv3 hx3 E) ?_
 refine Z E (Fd.shr32 (n:=8)) ?_
 refine BG E E (DB CP DS) (J E (J E ?_))
 refine B2 0 hx4 E CF Bd E E E fun g4 m6 cp4 hv4=>?_
 refine Bk E A2 E (Br (sz:=1) (enc:=BD) 0 0 zV E hv4 hx4 E) ?_
 refine BG E E (DB CP DS) ?_
 refine CD [_,_,_,_] E Cb Jx Ki ⟨E,E,E,E,zT⟩ E E E zX E E (fun _=>⟨⟨1,E⟩,zT⟩) fun b1=>?_
 refine CH Fg 1 ([(shr32 x1 24).toUInt8,(shr32 x2 16).toUInt8,(shr32 x3 8).toUInt8,x4.toUInt8]:List UInt8) E zV E ?_
 refine BY ?_
 refine C5 2 hl5 (sz:=1) (enc:=Fg) zV E Cb Jx Vq Ki E zD E E E E (CL (sz:=1) (enc:=Fg) 0 zV E) (by simp[Fg,Value.oneCell']) zU fun v7=>?_
 refine O E (AY (Aj (AH (AN ?_))))
 obtain⟨i_2,ei_2,h⟩:=Bu h
 refine J E (Z E Bh ?_)
 refine Ai (u:=vI i_2) E E (by rw[ei_2]) ?_
 refine AY ?_
 exact Au (m2,l5,v7,i_2) h (Nat.lt_succ_self _) tL (BN [1,2] 3 E E E)
 refine A1 (A6 (Ba (A7 ?_)))
 exact Aq (l4,v6) h tL (BN [1] 2 E E E)
 obtain⟨l3,v5⟩:=x
 dsimp only at h
 unfold Lw at h
 try dsimp only
 refine V (J E (Gt 0 E Cb DS Cj E E (O E (U (AJ ?_)))))
 obtain rfl:=zI h
 exact AW [] 1 E E E
def Gr(p1:UInt8)(l2:List UInt8)(a2:Int)(nx_f_ref03_part_l1:List UInt8×Int→Option (List UInt8))(a3:UInt8):Option (List UInt8):=
 (DR 1 l2 [a3 ^^^ p1]).bind fun l3=>
 ret (wI (a2+1)) fun i_1=>
 nx_f_ref03_part_l1 (l3,i_1)
def K6(l1:List UInt8):Option (List UInt8):=
 some l1
def HB(p1:UInt8)(a1:List UInt8)(nx_f_ref03_part_l1:List UInt8×Int→Option (List UInt8))(l2:List UInt8)(a2:Int):Option (List UInt8):=
 cond (decide (a2<64))
 (
  cond (decide (a2<(a1.length:Int)))
  (
   (BB a1 a2).bind fun c1=>
   Gr p1 l2 a2 nx_f_ref03_part_l1 c1)
  (
   Gr p1 l2 a2 nx_f_ref03_part_l1 0))
 (
  K6 l2)
def IY(p1:UInt8)(a1:List UInt8):Nat→(List UInt8×Int)→Option (List UInt8):=CN fun nx x=>HB p1 a1 nx x.1 x.2
def Gq(n:Nat)(p1:UInt8)(a1:List UInt8):Option (List UInt8):=
 IY p1 a1 n ([],0)
def Jm(n:Nat)(T:List UInt32)(p0:List UInt8)(p1:UInt8):Option (List UInt8):=
 cond (decide (64<(p0.length:Int)))
 (
  (I9 n T p0).bind fun y1=>
  Gq n p1 y1)
 (
  Gq n p1 p0)
theorem Tg{n:Nat}{T:List UInt32}{p0 r:List UInt8}{p1:UInt8}(h:Jm n T p0 p1=some r)(hT:JO K w0 2 64 T):zC K w0 272 [vS p0,ES p1] [] H (fun u M=>u=vS r∧M=[]):=by
 unfold Jm at h
 refine T3.enter Tryz.func272 rfl rfl ?_
 refine V (O E (U ?_))
 refine A9 (α:=List UInt8) (fun x=>Gq n p1 x=some r) (fun x=>[(0,vS x),(1,ES p1)]) (fun x=>H) ?_ (fun a1 D h=>?_)
 refine V (J E (Bw E Cj E (Z E Cu (U ?_))))
 refine AL h E (fun hc1 h=>?_) fun hc1 h=>?_
 refine AN ?_
 refine AD h fun y1 hy1 h=>?_
 refine J E (AP 0 bE (Q3 hy1 hT) E (O E (AY ?_)))
 exact Aq y1 h tL (BN [] 0 E E E)
 refine AI ?_
 exact Aq p0 h tL (BN [] 0 E E E)
 unfold Gq at h
 try dsimp only
 refine V (CB 5 1 Fg (O E (U ?_)))
 refine A9 (α:=List UInt8×Value) (fun x=>K6 x.1=some r) (fun x=>[(5,x.2)]) (fun x=>AB 5 1 x.2 Fg x.1::H) ?_ (fun x D h=>?_)
 refine V (O E (U (AM ?_)))
 refine SX.heap (SX.mono (BF (α:=Nat×List UInt8×Value×Int) (fun x=>IY p1 a1 x.1 (x.2.1,x.2.2.2)=some r) (fun x=>[(0,vS a1),(1,ES p1),(5,x.2.2.1),(6,vI x.2.2.2)]) (fun x=>AB 5 1 x.2.2.1 Fg x.2.1::H) (fun x=>x.1) (fun x D h=>?_) (n,[],zN,0) h) tL) (BN [0] 1 E E E)
 obtain⟨m1,l2,v2,a2⟩:=x
 dsimp only at h
 rcases m1 with _ | m1
 cases (show(none:Option _)=some r from h)
 replace h:HB p1 a1 (IY p1 a1 m1) l2 a2=some r:=h
 unfold HB at h
 try dsimp only
 refine AG (V (J E (Z E A8 (U ?_))))
 refine AL h E (fun hc2 h=>?_) fun hc2 h=>?_
 refine AI (AH (AG (AM (V (O E (U ?_))))))
 refine A9 (α:=UInt8) (fun x=>Gr p1 l2 a2 (IY p1 a1 m1) x=some r) (fun x=>[(0,vS a1),(1,ES p1),(5,v2),(6,vI a2),(7,ES x)]) (fun x=>AB 5 1 v2 Fg l2::H) ?_ (fun a3 D h=>?_)
 refine V (J E (J E (Bw E Cj E (Z E A8 (U ?_)))))
 refine AL h E (fun hc3 h=>?_) fun hc3 h=>?_
 refine AN ?_
 refine AD h fun c1 hc1 h=>?_
 refine J E (J E (Kj hc1 E Cj E E (O E (AY ?_))))
 exact Aq c1 h tL (BN [0] 1 E E E)
 refine AI ?_
 exact Aq 0 h tL (BN [0] 1 E E E)
 unfold Gr at h
 try dsimp only
 refine AN ?_
 refine AD h fun l3 hl3 h=>?_
 refine J E (J E (J E (Z E TB ?_)))
 refine CD [_] E Cb Jx Ki ⟨E,zT⟩ E E E zX E E zU fun b1=>?_
 refine CH Fg 1 ([a3 ^^^ p1]:List UInt8) E zV E ?_
 refine C5 1 hl3 (sz:=1) (enc:=Fg) zV E Cb Jx Vq Ki E zD E E E E (CL (sz:=1) (enc:=Fg) 0 zV E) (by simp[Fg,Value.oneCell']) zU fun v3=>?_
 refine O E (AY (Aj (AH (AN ?_))))
 obtain⟨i_1,ei_1,h⟩:=Bu h
 refine J E (Z E Bh ?_)
 refine Ai (u:=vI i_1) E E (by rw[ei_1]) ?_
 refine AY ?_
 exact Au (m1,l3,v3,i_1) h (Nat.lt_succ_self _) tL (BN [1] 2 E E E)
 refine A1 (A6 (Ba (A7 ?_)))
 exact Aq (l2,v2) h tL (BN [0] 1 E E E)
 obtain⟨l1,v1⟩:=x
 dsimp only at h
 unfold K6 at h
 try dsimp only
 refine V (J E (Gt 0 E Cb DS Cj E E (O E (U (AJ ?_)))))
 obtain rfl:=zI h
 exact AW [] 1 E E E
def Mr(n:Nat)(T:List UInt32)(p0:List UInt8)(p1:List UInt8):Option (List (List UInt8)):=
 (Jm n T p0 54).bind fun y1=>
 (ET y1 p1).bind fun s1=>
 (Jm n T p0 92).bind fun y2=>
 (I9 n T s1).bind fun y3=>
 (ET y2 y3).bind fun s2=>
 some [s1,s2]
theorem Xy{n:Nat}{T:List UInt32}{p0 p1:List UInt8}{r:List (List UInt8)}(h:Mr n T p0 p1=some r)(hT:JO K w0 2 64 T):zC K w0 251 [vS p0,vS p1] [] H (fun u M=>∃v0:Value,u=v0∧M=[AB 9 1 v0 eS r]):=by
 unfold Mr at h
 refine T3.enter Tryz.func251 rfl rfl ?_
 refine V (CB 9 1 eS (O E (U (V ?_))))
 refine AD h fun y1 hy1 h=>?_
 refine AD h fun s1 hs1 h=>?_
 refine J E (AP 0 ic (Tg hy1 hT) E (J E (Z E (CQ hs1) (O E (U (V ?_))))))
 refine AD h fun y2 hy2 h=>?_
 refine AD h fun y3 hy3 h=>?_
 refine AD h fun s2 hs2 h=>?_
 refine J E (J E (AP 0 ic (Tg hy2 hT) E (J E (AP 0 bE (Q3 hy3 hT) E (Z E (CQ hs2) ?_)))))
 refine CD [_,_] E El HS Ta ⟨E,E,zT⟩ E E E zX E E zU fun b1=>?_
 refine CH eS 1 ([s1,s2]:List (List UInt8)) E zV E ?_
 refine O E (U (AJ ?_))
 obtain rfl:=zI h
 exact Bm [0] 2 (C1 E E) E E ⟨(.slice (some ⟨b1,0,none⟩) 2 2),E,E⟩
def JC(n:Nat)(T:List UInt32)(p0:List UInt8)(p1:List UInt8):Option (List UInt8):=
 (Mr n T p0 p1).bind fun y1=>
 (BB y1 1).bind fun x1=>
 (I9 n T x1).bind fun y2=>
 some y2
theorem Uy{n:Nat}{T:List UInt32}{p0 p1 r:List UInt8}(h:JC n T p0 p1=some r)(hT:JO K w0 2 64 T):zC K w0 217 [vS p0,vS p1] [] H (fun u M=>u=vS r∧M=[]):=by
 unfold JC at h
 refine T3.enter Tryz.func217 rfl rfl ?_
 refine V (O E (U (V ?_)))
 refine AD h fun y1 hy1 h=>?_
 refine AD h fun x1 hx1 h=>?_
 refine AD h fun y2 hy2 h=>?_
 refine J E (J E ?_)
 refine Bg (vs:=[_,_]) (Hin:=[]) (Hr:=_) E E ⟨E,E,zT⟩ qB E E (Xy hy1 hT) ?_
 rintro v1 _ ⟨_,rfl,rfl⟩
 refine⟨trivial,?_⟩
 refine B2 0 hx1 E El HS E E E fun g1 m1 cp1 hv1=>?_
 refine Bk E Gd E (Br (sz:=1) (enc:=eS) 0 0 zV E hv1 hx1 E) ?_
 refine AP 0 bE (Q3 hy2 hT) E (O E (U (AJ ?_)))
 obtain rfl:=zI h
 exact AW [] 1 E E E
def JA(p2:Int)(a1:List UInt8):Option (List UInt8×Int):=
 (Ix a1 0 p2).bind fun s4=>
 some (s4,0)
def F1(n:Nat)(T:List UInt32)(p0:List UInt8)(p1:List UInt8)(p2:Int)(nx_f_ref03_Expand_l1:List UInt8×List UInt8×Int→Option (List UInt8×Int))(a2:List UInt8)(a3:List UInt8)(a4:Int):Option (List UInt8×Int):=
 cond (decide ((a2.length:Int)<p2))
 (
  (ET a3 p1).bind fun s1=>
  (ET s1 [Ip a4]).bind fun s2=>
  (JC n T p0 s2).bind fun y1=>
  (ET a2 y1).bind fun s3=>
  ret (wI (a4+1)) fun i_1=>
  nx_f_ref03_Expand_l1 (s3,y1,i_1))
 (
  JA p2 a2)
def JB(n:Nat)(T:List UInt32)(p0:List UInt8)(p1:List UInt8)(p2:Int):Nat→(List UInt8×List UInt8×Int)→Option (List UInt8×Int):=CN fun nx x=>F1 n T p0 p1 p2 nx x.1 x.2.1 x.2.2
def Hb(n:Nat)(T:List UInt32)(p0:List UInt8)(p1:List UInt8)(p2:Int):Option (List UInt8×Int):=
 cond ((decide (p2<0))||(decide (8160<p2)))
 (
  some ([],2))
 (
  JB n T p0 p1 p2 n ([],[],1))
theorem Ri{n:Nat}{T:List UInt32}{p0 p1:List UInt8}{p2:Int}{r:List UInt8×Int}(h:Hb n T p0 p1 p2=some r)(hT:JO K w0 2 64 T):zC K w0 249 [vS p0,vS p1,vI p2] [] H (fun u M=>u=.tuple #[vS r.1,vI r.2]∧M=[]):=by
 unfold Hb at h
 refine T3.enter Tryz.func249 rfl rfl ?_
 refine V (O E (O E (U (AG (V (J E (Z E A8 (J E ?_))))))))
 refine Eg (c:=decide (8160<p2)) 13 3 16 E (fun hb k=>?_) (fun hb k=>?_) ?_
 refine AC E (AC E (Ag E E E ?_))
 exact k.mono tL
 refine J E (Z E Cu (Ag E E E ?_))
 exact k.mono tL
 refine U ?_
 refine AL h E (fun hc1 h=>?_) fun hc1 h=>?_
 refine V (O E (O E (U (AJ (Ab ?_)))))
 obtain rfl:=zI h
 exact AW [] 0 E E E
 refine AI (AH (V (O E (U (V (O E (U ?_)))))))
 refine A9 (α:=List UInt8) (fun x=>JA p2 x=some r) (fun x=>[(2,vI p2),(8,vS x)]) (fun x=>H) ?_ (fun a1 D h=>?_)
 refine V (O E (U (AM ?_)))
 refine SX.heap (SX.mono (BF (α:=Nat×List UInt8×List UInt8×Int) (fun x=>JB n T p0 p1 p2 x.1 (x.2.1,x.2.2.1,x.2.2.2)=some r) (fun x=>[(0,vS p0),(1,vS p1),(2,vI p2),(8,vS x.2.1),(9,vS x.2.2.1),(10,vI x.2.2.2)]) (fun x=>H) (fun x=>x.1) (fun x D h=>?_) (n,[],[],1) h) tL) (BN [] 0 E E E)
 obtain⟨m1,a2,a3,a4⟩:=x
 dsimp only at h
 rcases m1 with _ | m1
 cases (show(none:Option _)=some r from h)
 replace h:F1 n T p0 p1 p2 (JB n T p0 p1 p2 m1) a2 a3 a4=some r:=h
 unfold F1 at h
 try dsimp only
 refine AG (V (J E (Bw E Cj E (J E (Z E A8 (U ?_))))))
 refine AL h E (fun hc2 h=>?_) fun hc2 h=>?_
 refine AI (AH (AG (AM (V ?_))))
 refine AD h fun s1 hs1 h=>?_
 refine AD h fun s2 hs2 h=>?_
 refine AD h fun y1 hy1 h=>?_
 refine J E (J E (J E (Z E (CQ hs1) (J E (BG E E (Qr Jg DS) ?_)))))
 refine CD [_] E Cb Jx Ki ⟨E,zT⟩ E E E zX E E zU fun b1=>?_
 refine CH Fg 1 ([Ip a4]:List UInt8) E zV E ?_
 refine Gt 0 E Cb DS Cj E E (Z E (CQ hs2) (AP 0 iR (Uy hy1 hT) E (O E (U (AN ?_)))))
 refine AD h fun s3 hs3 h=>?_
 refine J E (J E (Z E (CQ hs3) (O E (AY (Aj (AH (AN ?_)))))))
 obtain⟨i_1,ei_1,h⟩:=Bu h
 refine J E (Z E Bh ?_)
 refine Ai (u:=vI i_1) E E (by rw[ei_1]) ?_
 refine AY ?_
 exact Au (m1,s3,y1,i_1) h (Nat.lt_succ_self _) tL (BN [] 1 E E E)
 refine A1 (A6 (Ba (A7 ?_)))
 exact Aq a2 h tL (BN [] 0 E E E)
 unfold JA at h
 try dsimp only
 refine V ?_
 refine AD h fun s4 hs4 h=>?_
 refine J E (J E (kx hs4 E Cj E E (O E (O E (U (AJ ?_))))))
 obtain rfl:=zI h
 exact AW [] 0 E E E
end

section
variable {K:Nat→Prop}{w0:World}{H:List AV}
def Jo(n:Nat)(T:List UInt32)(p0:BI):Option (List UInt8×List UInt8×Int):=
 (HD n [p0]).bind fun y1=>
 cond (!y1)
 (
  some ([],[],40))
 (
  (ET [115,101,97,108] [p0.gen.toUInt8,(shr32 p0.gen 8).toUInt8,(shr32 p0.gen 16).toUInt8,(shr32 p0.gen 24).toUInt8]).bind fun s1=>
  (Hb n T p0.secret s1 32).bind fun y2=>
  (ET [98,105,110,100] [p0.gen.toUInt8,(shr32 p0.gen 8).toUInt8,(shr32 p0.gen 16).toUInt8,(shr32 p0.gen 24).toUInt8]).bind fun s2=>
  (Hb n T p0.secret s2 32).bind fun y3=>
  some (y2.1,y3.1,0))
theorem Ti{n:Nat}{T:List UInt32}{p0:BI}{r:List UInt8×List UInt8×Int}(h:Jo n T p0=some r)(hT:JO K w0 2 64 T):zC K w0 216 [.agg (AX p0).toArray] [] H (fun u M=>u=.tuple #[vS r.1,vS r.2.1,vI r.2.2]∧M=[]):=by
 unfold Jo at h
 refine T3.enter Tryz.func216 rfl rfl ?_
 refine V ?_
 refine Bc E E zU fun b1=>?_
 refine O E (O E (O E (U (V ?_))))
 refine AD h fun y1 hy1 h=>?_
 refine Ap [Y p0.gen,vS p0.secret] E OY E E (Ah 0 E) ?_
 refine CD [_] E Gj HT NN ⟨E,zT⟩ E E E zX E E zU fun b2=>?_
 refine CH AX 2 ([p0]:List BI) E zV E ?_
 refine Bg (vs:=[_]) (Hin:=[_]) (Hr:=_::_) E E ⟨E,zT⟩ fj E E (Co (B:=[_]) (Hin:=[]) fun K' w1 hk hB=>PC hy1 (CO (e:=55) zV (hB _ zS))) ?_
 rintro _ _ ⟨_,rfl,rfl,rfl⟩
 refine⟨trivial,?_⟩
 refine O E (U (AG (V (J E (CT E E (U ?_))))))
 refine AL h E (fun hc1 h=>?_) fun hc1 h=>?_
 refine V (O E (O E (O E (U (AJ (Ab ?_))))))
 obtain rfl:=zI h
 exact AW [] 2 E E E
 refine AI (AH (V (AE E HQ (AF 1 A2 E (BG E E (DB CP DS) (AE E HQ (AF 1 A2 E ?_)))))))
 refine Z E (Fd.shr32 (n:=8)) ?_
 refine BG E E (DB CP DS) (AE E HQ (AF 1 A2 E ?_))
 refine Z E (Fd.shr32 (n:=16)) ?_
 refine BG E E (DB CP DS) (AE E HQ (AF 1 A2 E ?_))
 refine Z E (Fd.shr32 (n:=24)) ?_
 refine BG E E (DB CP DS) ?_
 refine CD [_,_,_,_] E Cb Jx Ki ⟨E,E,E,E,zT⟩ E E E zX E E zU fun b3=>?_
 refine CH Fg 1 ([p0.gen.toUInt8,(shr32 p0.gen 8).toUInt8,(shr32 p0.gen 16).toUInt8,(shr32 p0.gen 24).toUInt8]:List UInt8) E zV E ?_
 refine Gt 0 E Cb DS Cj E E (O E (U (V ?_)))
 refine AD h fun s1 hs1 h=>?_
 refine AD h fun y2 hy2 h=>?_
 refine AE E TN (AF 2 Gd E (J E (Z E (CQ hs1) (AP 0 iX (Ri hy2 hT) E (J E (Ac E E E (Ac E E E ?_)))))))
 refine O E (O E (U (V ?_)))
 refine AD h fun s2 hs2 h=>?_
 refine AD h fun y3 hy3 h=>?_
 refine AE E TN (AF 2 Gd E (J E (Z E (CQ hs2) (AP 0 iX (Ri hy3 hT) E (J E (Ac E E E (Ac E E E ?_)))))))
 refine O E (O E (U (V (J E (J E (O E (O E (O E (U (AJ ?_))))))))))
 obtain rfl:=zI h
 exact AW [] 3 E E E
def Lz(a1:List UInt8):Option (List UInt8×Int):=
 some (a1,0)
def Hx(nx_f_ref05_Pad_l1:List UInt8→Option (List UInt8×Int))(a2:List UInt8):Option (List UInt8×Int):=
 cond (decide ((a2.length:Int)<200))
 (
  (ET a2 [0]).bind fun s2=>
  nx_f_ref05_Pad_l1 s2)
 (
  Lz a2)
def L0:Nat→List UInt8→Option (List UInt8×Int):=CN fun nx x=>Hx  nx x
def Ms(n:Nat)(p0:List UInt8):Option (List UInt8×Int):=
 cond (decide (198<(p0.length:Int)))
 (
  some ([],50))
 (
  (VY (p0.length:Int) 256).bind fun q1=>
  (Tx (p0.length:Int) 256).bind fun q2=>
  (ET [Ip q1,Ip q2] p0).bind fun s1=>
  L0 n s1)
theorem aY{n:Nat}{p0:List UInt8}{r:List UInt8×Int}(h:Ms n p0=some r): zC K w0 214 [vS p0] [] H (fun u M=>u=.tuple #[vS r.1,vI r.2]∧M=[]):=by
 unfold Ms at h
 refine T3.enter Tryz.func214 rfl rfl ?_
 refine V (O E (O E (U (AG (V (J E (Bw E Cj E (Z E Cu (U ?_)))))))))
 refine AL h E (fun hc1 h=>?_) fun hc1 h=>?_
 refine V (O E (O E (U (AJ (Ab ?_)))))
 obtain rfl:=zI h
 exact AW [] 0 E E E
 refine AI (AH (V ?_))
 refine AD h fun q1 hq1 h=>?_
 refine AD h fun q2 hq2 h=>?_
 refine AD h fun s1 hs1 h=>?_
 refine J E (Bw E Cj E (Z E (Vj hq1) (BG E E (Qr Jg DS) (J E (Bw E Cj E (Z E (TA hq2) (BG E E (Qr Jg DS) ?_)))))))
 refine CD [_,_] E Cb Jx Ki ⟨E,E,zT⟩ E E E zX E E zU fun b1=>?_
 refine CH Fg 1 ([Ip q1,Ip q2]:List UInt8) E zV E ?_
 refine Gt 0 E Cb DS Cj E E (J E (Z E (CQ hs1) (O E (U ?_))))
 refine A9 (α:=List UInt8) (fun x=>Lz x=some r) (fun x=>[(4,vS x)]) (fun x=>H) ?_ (fun a1 D h=>?_)
 refine AM ?_
 refine SX.heap (SX.mono (BF (α:=Nat×List UInt8) (fun x=>L0 x.1 x.2=some r) (fun x=>[(4,vS x.2)]) (fun x=>H) (fun x=>x.1) (fun x D h=>?_) (n,s1) h) tL) (BN [] 1 E E E)
 obtain⟨m1,a2⟩:=x
 dsimp only at h
 rcases m1 with _ | m1
 cases (show(none:Option _)=some r from h)
 replace h:Hx (L0 m1) a2=some r:=h
 unfold Hx at h
 try dsimp only
 refine AG (V (J E (Bw E Cj E (Z E A8 (U ?_)))))
 refine AL h E (fun hc2 h=>?_) fun hc2 h=>?_
 refine AI (AH (AM (AN ?_)))
 refine AD h fun s2 hs2 h=>?_
 refine J E (Z E (CQ hs2) (O E (AY (Aj ?_))))
 exact Au (m1,s2) h (Nat.lt_succ_self _) tL (BN [] 0 E E E)
 refine A1 (A6 (Ba (A7 ?_)))
 exact Aq a2 h tL (BN [] 0 E E E)
 unfold Lz at h
 try dsimp only
 refine V (J E (O E (O E (U (AJ ?_)))))
 obtain rfl:=zI h
 exact AW [] 0 E E E
def L3(a1:List UInt8):Option (List UInt8):=
 some a1
def Hy(p1:Int)(nx_f_ref06_put_l1:UInt64×List UInt8×Int→Option (List UInt8))(a2:UInt64)(a3:List UInt8)(a4:Int):Option (List UInt8):=
 cond (decide (a4<p1))
 (
  (ET a3 [a2.toUInt8]).bind fun s1=>
  (RV a2 256).bind fun q1=>
  ret (wI (a4+1)) fun i_1=>
  nx_f_ref06_put_l1 (q1,s1,i_1))
 (
  L3 a3)
def L4(p1:Int):Nat→(UInt64×List UInt8×Int)→Option (List UInt8):=CN fun nx x=>Hy p1 nx x.1 x.2.1 x.2.2
def EC(n:Nat)(p0:UInt64)(p1:Int):Option (List UInt8):=
 L4 p1 n (p0,[],0)
theorem Kp{n:Nat}{p0:UInt64}{p1:Int}{r:List UInt8}(h:EC n p0 p1=some r): zC K w0 268 [AT p0,vI p1] [] H (fun u M=>u=vS r∧M=[]):=by
 unfold EC at h
 refine T3.enter Tryz.func268 rfl rfl ?_
 refine V (O E (U (V (O E (U ?_)))))
 refine A9 (α:=List UInt8) (fun x=>L3 x=some r) (fun x=>[(5,vS x)]) (fun x=>H) ?_ (fun a1 D h=>?_)
 refine V (O E (U (AM ?_)))
 refine SX.heap (SX.mono (BF (α:=Nat×UInt64×List UInt8×Int) (fun x=>L4 p1 x.1 (x.2.1,x.2.2.1,x.2.2.2)=some r) (fun x=>[(0,AT x.2.1),(1,vI p1),(5,vS x.2.2.1),(6,vI x.2.2.2)]) (fun x=>H) (fun x=>x.1) (fun x D h=>?_) (n,p0,[],0) h) tL) (BN [] 0 E E E)
 obtain⟨m1,a2,a3,a4⟩:=x
 dsimp only at h
 rcases m1 with _ | m1
 cases (show(none:Option _)=some r from h)
 replace h:Hy p1 (L4 p1 m1) a2 a3 a4=some r:=h
 unfold Hy at h
 try dsimp only
 refine AG (V (J E (J E (Z E A8 (U ?_)))))
 refine AL h E (fun hc1 h=>?_) fun hc1 h=>?_
 refine AI (AH (AG (AM (V ?_))))
 refine AD h fun s1 hs1 h=>?_
 refine J E (J E (BG E E (FU Da DS) ?_))
 refine CD [_] E Cb Jx Ki ⟨E,zT⟩ E E E zX E E zU fun b1=>?_
 refine CH Fg 1 ([a2.toUInt8]:List UInt8) E zV E ?_
 refine Gt 0 E Cb DS Cj E E (Z E (CQ hs1) (O E (U (AN ?_))))
 refine AD h fun q1 hq1 h=>?_
 refine J E ?_
 refine Z E (Pj (b:=256) hq1) ?_
 refine O E (AY (Aj (AH (AN ?_))))
 obtain⟨i_1,ei_1,h⟩:=Bu h
 refine J E (Z E Bh ?_)
 refine Ai (u:=vI i_1) E E (by rw[ei_1]) ?_
 refine AY ?_
 exact Au (m1,q1,s1,i_1) h (Nat.lt_succ_self _) tL (BN [] 1 E E E)
 refine A1 (A6 (Ba (A7 ?_)))
 exact Aq a3 h tL (BN [] 0 E E E)
 unfold L3 at h
 try dsimp only
 refine V (J E (O E (U (AJ ?_))))
 obtain rfl:=zI h
 exact AW [] 0 E E E
def Mt(n:Nat)(p0:DJ):Option (List UInt8):=
 (EC n p0.page.toUInt64 4).bind fun y1=>
 (EC n p0.gen.toUInt64 4).bind fun y2=>
 (ET y1 y2).bind fun s1=>
 (EC n p0.boot.toUInt64 4).bind fun y3=>
 (ET s1 y3).bind fun s2=>
 (EC n p0.seq 8).bind fun y4=>
 (ET s2 y4).bind fun s3=>
 (ET s3 [0,0,0,0]).bind fun s4=>
 some s4
theorem aZ{n:Nat}{p0:DJ}{r:List UInt8}(h:Mt n p0=some r): zC K w0 248 [.agg (KI p0).toArray] [] H (fun u M=>u=vS r∧M=[]):=by
 unfold Mt at h
 refine T3.enter Tryz.func248 rfl rfl ?_
 refine V ?_
 refine Bc E E zU fun b1=>?_
 refine O E (U (AG ?_))
 refine AD h fun y1 hy1 h=>?_
 refine AD h fun y2 hy2 h=>?_
 refine AD h fun s1 hs1 h=>?_
 refine AD h fun y3 hy3 h=>?_
 refine AD h fun s2 hs2 h=>?_
 refine AD h fun y4 hy4 h=>?_
 refine AD h fun s3 hs3 h=>?_
 refine AD h fun s4 hs4 h=>?_
 refine Av DH [0] (CA [(true,0),(true,1),(true,2),(true,4),(true,5),(true,6),(true,9),(true,10),(true,11),(true,14),(true,15),(false,3),(false,7),(true,8),(false,12),(true,13),(false,16)] (.last 17 (C7 [(false,18),(false,19)]))) zK (AE E dw (AF 0 A2 E (BG E E (C2 CP Da) (AE E VN (AF 0 A2 E (BG E E (C2 CP Da) (AE E YV ?_)))))))
 refine AF 0 A2 E (BG E E (C2 CP Da) (AE E YW (AF 0 HJ E (BP 0 TL (Kp hy1) E ⟨⟨0,E⟩,zT⟩ (BP 0 TL (Kp hy2) E ⟨⟨0,E⟩,zT⟩ (Z E (CQ hs1) (BP 0 TL (Kp hy3) E ⟨⟨0,E⟩,zT⟩ ?_)))))))
 refine Z E (CQ hs2) (BP 0 TL (Kp hy4) E ⟨⟨0,E⟩,zT⟩ (BY (Z E (CQ hs3) (Z E (CQ hs4) (O E (U (AJ ?_)))))))
 obtain rfl:=zI h
 exact AW [] 1 E E E
def KQ(n:Nat)(p0:DJ):Option (List UInt8):=
 (EC n p0.boot.toUInt64 4).bind fun y1=>
 (EC n p0.seq 8).bind fun y2=>
 (ET y1 y2).bind fun s1=>
 some s1
theorem X0{n:Nat}{p0:DJ}{r:List UInt8}(h:KQ n p0=some r): zC K w0 247 [.agg (KI p0).toArray] [] H (fun u M=>u=vS r∧M=[]):=by
 unfold KQ at h
 refine T3.enter Tryz.func247 rfl rfl ?_
 refine V ?_
 refine Bc E E zU fun b1=>?_
 refine O E (U (AG ?_))
 refine AD h fun y1 hy1 h=>?_
 refine AD h fun y2 hy2 h=>?_
 refine AD h fun s1 hs1 h=>?_
 refine Av DH [0] (CA [(true,0),(true,1),(true,2),(true,4),(true,5),(false,3)] (.last 6 (C7 [(false,7),(false,8)]))) zK (AE E YV (AF 0 A2 E (BG E E (C2 CP Da) (AE E YW (AF 0 HJ E (BP 0 TL (Kp hy1) E ⟨⟨0,E⟩,zT⟩ (BY (AP 0 TL (Kp hy2) E ?_))))))))
 refine Z E (CQ hs1) (O E (U (AJ ?_)))
 obtain rfl:=zI h
 exact AW [] 1 E E E
def KP(n:Nat)(T:List UInt32)(p0:BI)(p1:DJ)(p2:List UInt8):Option (List UInt8):=
 (Jo n T p0).bind fun y1=>
 (KQ n p1).bind fun y2=>
 (Mp n y1.1 y2 p2).bind fun y3=>
 (Mt n p1).bind fun y4=>
 (ET y4 y3.1).bind fun s1=>
 some s1
theorem Xz{n:Nat}{T:List UInt32}{p0:BI}{p1:DJ}{p2 r:List UInt8}(h:KP n T p0 p1 p2=some r)(hT:JO K w0 2 64 T):zC K w0 215 [.agg (AX p0).toArray,.agg (KI p1).toArray,vS p2] [] H (fun u M=>u=vS r∧M=[]):=by
 unfold KP at h
 refine T3.enter Tryz.func215 rfl rfl ?_
 refine V ?_
 refine Bc E E zU fun b1=>?_
 refine Bc E E zU fun b2=>?_
 refine O E (U (V ?_))
 refine AD h fun y1 hy1 h=>?_
 refine Ap [Y p0.gen,vS p0.secret] E OY E E (Ah 1 E) (AP 0 iQ (Ti hy1 hT) E (J E (Ac E E E (Ac E E E (Ac E E E (O E (O E ?_)))))))
 refine O E (U (V ?_))
 refine AD h fun y2 hy2 h=>?_
 refine AD h fun y3 hy3 h=>?_
 refine J E (Ap [Y p1.page,Y p1.gen,Y p1.boot,AT p1.seq] E T7 E E (Ah 0 E) (AP 0 p9 (X0 hy2) E (J E (AP 0 pz (aX hy3) E (J E (Ac E E E (Ac E E E ?_)))))))
 refine O E (O E (U (V ?_)))
 refine AD h fun y4 hy4 h=>?_
 refine AD h fun s1 hs1 h=>?_
 refine Ap [Y p1.page,Y p1.gen,Y p1.boot,AT p1.seq] E T7 E E (Ah 0 E) (AP 0 qA (aZ hy4) E (J E (Z E (CQ hs1) (O E (U (AJ ?_))))))
 obtain rfl:=zI h
 exact AW [] 2 E E E
def Lc(n:Nat)(T:List UInt32)(p0:List BI)(p1:DJ)(p2:List UInt8):Option (List UInt8×Int):=
 (Jn n p0 p1.gen).bind fun y1=>
 cond (!decide (y1.2=0))
 (
  some ([],y1.2))
 (
  (Ms n p2).bind fun y2=>
  cond (!decide (y2.2=0))
  (
   some ([],y2.2))
  (
   (KP n T y1.1 p1 y2.1).bind fun y3=>
   (Jo n T y1.1).bind fun y4=>
   (JC n T y4.2.1 y3).bind fun y5=>
   (ET y3 y5).bind fun s1=>
   some (s1,0)))
theorem ZD{n:Nat}{T:List UInt32}{DA:Value}{p0:List BI}{p1:DJ}{p2:List UInt8}{r:List UInt8×Int}(h:Lc n T p0 p1 p2=some r)(hT:JO K w0 2 64 T)(hs0_:B6 K w0 AX 2 DA p0):zC K w0 188 [DA,.agg (KI p1).toArray,vS p2] [] H (fun u M=>u=.tuple #[vS r.1,vI r.2]∧M=[]):=by
 unfold Lc at h
 refine T3.enter Tryz.func188 rfl rfl ?_
 refine V ?_
 refine Bc E E zU fun b1=>?_
 refine O E (O E (U (V ?_)))
 refine AD h fun y1 hy1 h=>?_
 refine J E (AE E VN (AF 0 A2 E (AP 0 ln (Th hy1 hs0_) E (J E (Ac E E E (Ac E E E ?_))))))
 refine Al E NN zU fun b2=>?_
 refine A5 0 E E E E HT E E E zT (O E (U (AG (V (J E (Z E BJ (U ?_)))))))
 refine AL h E (fun hc1 h=>?_) fun hc1 h=>?_
 refine V (J E (O E (O E (U (AJ (Ab ?_))))))
 obtain rfl:=zI h
 exact AW [] 2 E E E
 refine AI (AH (V ?_))
 refine AD h fun y2 hy2 h=>?_
 refine J E (AP 0 ph (aY hy2) E (J E (Ac E E E (Ac E E E (O E (O E (U (AG (V (J E ?_))))))))))
 refine Z E BJ (U ?_)
 refine AL h E (fun hc2 h=>?_) fun hc2 h=>?_
 refine V (J E (O E (O E (U (AJ (Ab ?_))))))
 obtain rfl:=zI h
 exact AW [] 2 E E E
 refine AI (AH (V ?_))
 refine AD h fun y3 hy3 h=>?_
 refine Ap [Y y1.1.gen,vS y1.1.secret] E OY E E (Ah 0 E) (Ap [Y p1.page,Y p1.gen,Y p1.boot,AT p1.seq] E T7 E E (Ah 1 E) (J E (AP 0 pi (Xz hy3 hT) E (O E (U (V ?_))))))
 refine AD h fun y4 hy4 h=>?_
 refine Ap [Y y1.1.gen,vS y1.1.secret] E OY E E (Ah 0 E) (AP 0 iQ (Ti hy4 hT) E (J E (Ac E E E (Ac E E E (Ac E E E (O E (O E ?_)))))))
 refine O E (U (V ?_))
 refine AD h fun y5 hy5 h=>?_
 refine AD h fun s1 hs1 h=>?_
 refine J E (J E (J E (AP 0 iR (Uy hy5 hT) E (Z E (CQ hs1) (O E (O E (U (AJ ?_))))))))
 obtain rfl:=zI h
 exact AW [] 2 E E E
end

section
variable {P:Program}{ro:Option Nat}{K:Nat→Prop}{w0:World}{N:Nat}{Q:DQ}{D:List Nat}{l l':Tm}{H H' Hs L:List AV}{ops:Array Oper}{items:Hd}
variable {tk:Bool}{o:Oper}{t:Nat}{v:Value}{x y z:Operand}
theorem ZV{α:Type}{enc:α→List Value}{sz b off cap q:Nat}{xs:List α}(hl:∀x,(enc x).length=sz)(hcap:xs.length≤cap)(hc:∀j u,(xs.flatMap enc)[j]? = some u→K b∧w0.cell? ⟨b,off+j,none⟩=some u)(hq:q≤xs.length):B6 K w0 enc sz (.slice (some ⟨b,off+q*sz,none⟩) (xs.length-q) (cap-q)) (xs.drop q):=by
 refine⟨hl,.inr ⟨b,off+q*sz,cap-q,by simp,by simp;omega,fun j u hu=>?_⟩⟩
 have hpre:(xs.take q).flatMap enc++(xs.drop q).flatMap enc=xs.flatMap enc:=by
  rw[←List.flatMap_append,List.take_append_drop]
 have hlen:((xs.take q).flatMap enc).length=q*sz:=by rw[JG hl,List.length_take,Nat.min_eq_left hq]
 have:=hc (q*sz+j) u (by
  rw[←hpre,List.getElem?_append_right zO,hlen,Nat.add_sub_cancel_left]
  exact hu)
 rw[Nat.add_assoc]
 exact this
theorem dF{α:Type}{enc:α→List Value}{sz:Nat}{xs us:List α}{k:IntKind}{j:Int}{ty e:TypeId}(hn:Ix xs j (xs.length:Int)=some us)(hk:B6 K w0 enc sz v xs)(ho:At ops N l o t (.slice ty x (some z) none none))(hty:P.underlying ty=some (.slice e))(hsz:DP P e=some sz)(hx:Bi l x=some v)(hz:Bi l z=some (.int k j))
(h:∀v',B6 K w0 enc sz v' us→SL P ro K w0 N ops Hs items Q D ((t,v')::l) H):SL P ro K w0 N ops Hs (.cons (tk,o) items) Q D l H:=by
 obtain⟨h1,h2,h3,h4,rfl⟩:=No hn
 have e2:(xs.drop j.toNat).take ((xs.length:Int).toNat-j.toNat)=xs.drop j.toNat:=List.take_of_length_le zS
 rw[e2]at h
 generalize j.toNat=q at*
 subst h1
 simp only[Int.toNat_natCast]at h3
 rcases hk.at_ with⟨a0,rfl,rfl⟩ | ⟨b,off,cap,rfl,hcap,hc⟩
 have hq:q=0:=by simpa using h3
 subst hq
 refine SL.val (v:=.slice a0 0 0) ho E (fun a w ha _=>?_) (h _ ⟨hk.len,.inl ⟨_,E,by simp⟩⟩)
 simp only[execOp,ho.op,Instr.sliceAt,Instr.slice,Option.map]
 cases a0<;>simp[ha.eval hx,ha.eval hz,An hty,Ch hsz,Instr.sliceBounds,Instr.sliceBound,asIntOf]
 by_cases hqc:q<cap
 exact Xc q ho hty hsz hx hz E h3 hqc (h _ (ZV hk.len hcap hc h3))
 have hqe:q=xs.length:=zO
 have hce:cap=xs.length:=zO
 subst hqe hce
 refine SL.val (v:=.slice (some ⟨b,off,none⟩) 0 0) ho E (fun a w ha _=>?_) (h _ ⟨hk.len,.inl ⟨_,E,by simp⟩⟩)
 simp only[execOp,ho.op,Instr.sliceAt,Instr.slice,Option.map]
 simp[ha.eval hx,ha.eval hz,An hty,Ch hsz,Instr.sliceBounds,Instr.sliceBound,asIntOf,Ci]
end
end Go.Proofs.YtpaohlmgfifebaaGreatDoor
