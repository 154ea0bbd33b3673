/- The texts LG4, LG5, LG6, S24, GG14, GG15, GG16, GG17, GG18, GG19, GG20, LG7, GG21, GG22, GG23, GG24, GG25, GG26, GG27, GG28, GG29, GG30, GG31, LG1, LG8, LG9, YI, Y1a, YF, V3f, VG1, VG2, LG10, LG11, U1, U2, U3, S25, one behind the other: walks of the program, and plain laws of what it computes. Conditions: as each theorem says. -/
import Derived.Test.YtjkhnhichalenaaGreatDoorXA1
import Derived.Test.YtjkhnhichalenaaGreatDoorXA2
import Derived.Test.YtjkhnhichalenaaGreatDoorXA3

set_option linter.unusedVariables false
set_option linter.unusedSimpArgs false
set_option maxHeartbeats 4000000
set_option maxRecDepth 100000
namespace Go.Proofs.YtjkhnhichalenaaGreatDoor
open Go
section
def bl(n:Nat):Nat:=if n=0 then 0 else Nat.log2 n+1
theorem de(n:Nat):n<2^bl n:=by
 unfold bl
 split
 rename_i h;subst h;simp
 exact Nat.lt_log2_self
theorem ZR{n k:Nat}(h:n<2^k):bl n≤k:=by
 unfold bl
 split
 omega
 rename_i h0
 exact(Nat.log2_lt h0).2 h
theorem je{n:Nat}(h:0<bl n):2^(bl n-1)≤n:=by
 rcases Nat.lt_or_ge n (2^(bl n-1))with h1 | h1
 have:=ZR h1
 omega
 exact h1
theorem jf{n L:Nat}(h1:n<2^L)(h2:L=0∨2^(L-1)≤n):bl n=L:=by
 have a:=ZR h1
 rcases h2 with h2 | h2
 omega
 rcases Nat.lt_or_ge (bl n) L with h | h
 have h3:2^bl n≤2^(L-1):=Nat.pow_le_pow_right zD zO
 have h4:=de n
 omega
 omega
theorem Yg{n k:Nat}(h:2^k≤n):bl n=k+bl (n / 2^k):=by
 have hp:=Nat.two_pow_pos k
 have h0:0<n / 2^k:=Nat.div_pos h hp
 have hb:0<bl (n / 2^k):=by
  unfold bl
  rw[if_neg zO]
  omega
 refine jf ?_ (.inr ?_)
 rw[Nat.pow_add]
 have:=de (n / 2^k)
 rw[Nat.mul_comm]
 exact(Nat.div_lt_iff_lt_mul hp).1 this
 have:=je hb
 rw[show k+bl (n / 2^k)-1=k+(bl (n / 2^k)-1) by omega,Nat.pow_add]
 calc 2^k*2^(bl (n / 2^k)-1)≤2^k*(n / 2^k):=Nat.mul_le_mul_left _ this
  _≤n:=Nat.mul_div_le _ _
def gR:List UInt8:=[0,1,2,2,3,3,3,3,4,4,4,4,4,4,4,4,5,5,5,5,5,5,5,5,5,5,5,5,5,5,5,5]++List.replicate 32 6++List.replicate 64 7++List.replicate 128 8
theorem oT:∀b:Fin 256,gR[b.val]? = some (UInt8.ofNat (bl b.val)):=by decide +kernel
theorem gT(a:UInt32)(ha:a.toNat<256)(k:Nat)(hk:k≤24):OS a (k:Int)=some ((k+bl a.toNat:Nat):Int):=by
 have hb:a.toUInt8.toNat=a.toNat:=by
  rw[UInt32.toNat_toUInt8]
  omega
 have h8:bl a.toNat≤8:=ZR zO
 unfold OS
 have ht:BA gR (a.toUInt8.toNat:Int)=some (UInt8.ofNat (bl a.toNat)):=by
  rw[HK,hb]
  exact oT ⟨a.toNat,ha⟩
 refine(congrArg (fun x=>Option.bind x _) (show BA _ _=some (UInt8.ofNat (bl a.toNat))from ht)).trans ?_
 rw[AB,CB]
 have:(UInt8.ofNat (bl a.toNat)).toNat=bl a.toNat:=by simp;omega
 rw[this,DB zO zO]
 rfl
theorem X1(n:UInt32)(k:Nat)(h:k≤32):(shr32 n k).toNat=n.toNat / 2^k:=by
 have h1:=n.toNat_lt
 simp only[shr32,UInt32.toNat_ofNat',Nat.min_eq_left h]
 exact Nat.mod_eq_of_lt (Nat.lt_of_le_of_lt (Nat.div_le_self _ _) h1)
theorem gS(a:UInt32)(ha:a.toNat<65536)(k:Nat)(hk:k≤16):OR a (k:Int)=some ((k+bl a.toNat:Nat):Int):=by
 unfold OR
 by_cases h:256≤a.toNat
 rw[zt (show(256:UInt32)≤a by rw[UInt32.le_iff_toNat_le];exact h),C2,CB,CB,DB zO zO]
 have hs:=X1 a 8 zD
 have:=gT (shr32 a 8) (by rw[hs];omega) (k+8) zO
 rw[show(k:Int)+8=((k+8:Nat):Int) by omega,this,hs]
 have hb:=Yg (n:=a.toNat) (k:=8) zO
 congr 2
 omega
 rw[zf (show ¬(256:UInt32)≤a by rw[UInt32.le_iff_toNat_le];exact h),CI]
 exact gT a zO k zO
theorem iM(a:UInt32):XO a=some ((bl a.toNat:Nat):Int):=by
 have h32:=a.toNat_lt
 unfold XO
 by_cases h:65536≤a.toNat
 rw[zt (show(65536:UInt32)≤a by rw[UInt32.le_iff_toNat_le];exact h),C2,CB]
 have hs:=X1 a 16 zD
 have:=gS (shr32 a 16) (by rw[hs];omega) 16 zO
 rw[show((16:Nat):Int)=16 from rfl]at this
 rw[this,hs]
 have hb:=Yg (n:=a.toNat) (k:=16) zO
 congr 2
 omega
 rw[zf (show ¬(65536:UInt32)≤a by rw[UInt32.le_iff_toNat_le];exact h),CI]
 have:=gS a zO 0 zO
 rw[show((0:Nat):Int)=0 from rfl,Nat.zero_add]at this
 exact this
theorem V4{a b L:Nat}:a ^^^ b<2^L↔a / 2^L=b / 2^L:=by
 constructor
 intro h
 have h1:(a ^^^ b) / 2^L=0:=Nat.div_eq_of_lt h
 have h2:(a / 2^L) ^^^ (b / 2^L)=0:=by rw[←Nat.xor_div_two_pow];exact h1
 calc a / 2^L=a / 2^L ^^^ (b / 2^L ^^^ b / 2^L):=by rw[Nat.xor_self,Nat.xor_zero]
  _=b / 2^L:=by rw[←Nat.xor_assoc,h2,Nat.zero_xor]
 intro h
 have h2:(a ^^^ b) / 2^L=0:=by rw[Nat.xor_div_two_pow,h,Nat.xor_self]
 exact(Nat.div_eq_zero_iff_lt (Nat.two_pow_pos L)).1 h2
theorem eP{a b L:Nat}:a ||| b<2^L↔a<2^L∧b<2^L:=by
 constructor
 intro h
 exact⟨Nat.lt_of_le_of_lt Nat.left_le_or h,Nat.lt_of_le_of_lt Nat.right_le_or h⟩
 intro h
 exact Nat.or_lt_two_pow h.1 h.2
theorem ep{L:Nat}(h:L≤31):(shl32 1 L).toNat=2^L:=by
 simp only[shl32,UInt32.toNat_ofNat',Nat.min_eq_left (show L≤32 by omega)]
 have:2^L≤2^31:=Nat.pow_le_pow_right zD h
 rw[show(1:UInt32).toNat=1 from rfl,Nat.one_mul]
 exact Nat.mod_eq_of_lt (Nat.lt_of_le_of_lt this zD)
theorem qE{L:Nat}(h:L≤31):(shl32 1 L-1).toNat=2^L-1:=by
 have h1:=ep h
 have h2:=Nat.two_pow_pos L
 have h3:2^L≤2^31:=Nat.pow_le_pow_right zD h
 rw[UInt32.toNat_sub_of_le _ _ (by rw[UInt32.le_iff_toNat_le,h1];exact h2),h1]
 rfl
theorem hC{a L:Nat}(hL:L≤32)(ha:a<2^32):a &&& (2^32-2^L)=a / 2^L*2^L:=by
 apply Nat.eq_of_testBit_eq
 intro i
 have hp:=Nat.two_pow_pos L
 have hx:2^L-1<2^32:=by
  have:2^L≤2^32:=Nat.pow_le_pow_right zD hL
  omega
 rw[Nat.testBit_and,show 2^32-2^L=2^32-((2^L-1)+1) by rw[Nat.sub_add_cancel hp],Nat.testBit_two_pow_sub_succ hx,Nat.testBit_two_pow_sub_one,Nat.testBit_mul_two_pow,Nat.testBit_div_two_pow]
 by_cases h1:i<L
 rw[zt h1,zf (show ¬L≤i by omega)]
 simp
 rw[zf h1,zt (show L≤i by omega),Nat.sub_add_cancel zO]
 by_cases h2:i<32
 rw[zt h2];simp
 rw[Nat.testBit_lt_two_pow (Nat.lt_of_lt_of_le ha (Nat.pow_le_pow_right zD zO))]
 simp
theorem Sl(a:UInt32){L:Nat}(h:L≤31):(a &&& ~~~(shl32 1 L-1)).toNat=a.toNat / 2^L*2^L:=by
 have h1:=qE h
 have h2:=Nat.two_pow_pos L
 rw[UInt32.toNat_and,UInt32.toNat_not,h1,show UInt32.size-1-(2^L-1)=2^32-2^L by
  show 4294967296-1-(2^L-1)=4294967296-2^L
  omega]
 exact hC zO a.toNat_lt
theorem Wr(x y:UInt32){L:Nat}(h:L≤31):H6 x y (L:Int)=some ⟨x &&& ~~~(shl32 1 L-1),y &&& ~~~(shl32 1 L-1),L⟩:=by
 unfold H6 QH
 rw[if_pos zO,AB,CB]
 rfl
theorem iK{x y u v:UInt32}(hx:x.toNat<2147483648)(hy:y.toNat<2147483648)(hu:u.toNat<2147483648)(hv:v.toNat<2147483648):
  ∃L:Nat,L≤31∧LG x y u v=some (⟨x &&& ~~~(shl32 1 L-1),y &&& ~~~(shl32 1 L-1),L⟩,0)∧x.toNat / 2^L=u.toNat / 2^L∧y.toNat / 2^L=v.toNat / 2^L∧
   (0<L→x.toNat / 2^(L-1)≠u.toNat / 2^(L-1)∨y.toNat / 2^(L-1)≠v.toNat / 2^(L-1)):=by
 have hn:((x ^^^ u) ||| (y ^^^ v)).toNat=(x.toNat ^^^ u.toNat) ||| (y.toNat ^^^ v.toNat):=by rw[UInt32.toNat_or,UInt32.toNat_xor,UInt32.toNat_xor]
 have hk:∀L,((x ^^^ u) ||| (y ^^^ v)).toNat<2^L↔x.toNat / 2^L=u.toNat / 2^L∧y.toNat / 2^L=v.toNat / 2^L:=fun L=>by
  rw[hn,eP,V4,V4]
 have h31:((x ^^^ u) ||| (y ^^^ v)).toNat<2^31:=(hk 31).2 ⟨by omega,by omega⟩
 have hL:=ZR h31
 obtain⟨e1,e2⟩:=(hk _).1 (de ((x ^^^ u) ||| (y ^^^ v)).toNat)
 refine⟨bl ((x ^^^ u) ||| (y ^^^ v)).toNat,hL,?_,e1,e2,fun h0=>?_⟩
 unfold LG
 have hm:decide (2147483648≤max (max (max x y) u) v)=false:=by
  rw[decide_eq_false_iff_not,UInt32.le_iff_toNat_le,LZ,LZ,LZ]
  show ¬(2147483648≤_)
  omega
 rw[hm,CI,iM,AB,Wr x y hL,AB,Wr u v hL,AB]
 have ex:x &&& ~~~(shl32 1 (bl ((x ^^^ u) ||| (y ^^^ v)).toNat)-1)=u &&& ~~~(shl32 1 (bl ((x ^^^ u) ||| (y ^^^ v)).toNat)-1):=UInt32.toNat_inj.1 (by rw[Sl x hL,Sl u hL,e1])
 have ey:y &&& ~~~(shl32 1 (bl ((x ^^^ u) ||| (y ^^^ v)).toNat)-1)=v &&& ~~~(shl32 1 (bl ((x ^^^ u) ||| (y ^^^ v)).toNat)-1):=UInt32.toNat_inj.1 (by rw[Sl y hL,Sl v hL,e2])
 simp only[ex,ey,decide_true,Bool.and_self,Bool.not_true,CI]
 have hge:=je h0
 have:¬((x ^^^ u) ||| (y ^^^ v)).toNat<2^(bl ((x ^^^ u) ||| (y ^^^ v)).toNat-1):=zO
 rw[hk]at this
 exact Classical.not_and_iff_not_or_not.1 this
end

section
def qd(L:Nat)(r:Ao):Nat:=(r.x.toNat / 2^(L-1))%2+2*((r.y.toNat / 2^(L-1))%2)
structure AR(c:Cg)(l:List Ao)(L:Nat):Prop where
 lev:c.lev=(L:Int)
 le:L≤31
 cx:c.x.toNat%2^L=0
 cy:c.y.toNat%2^L=0
 lx:c.x.toNat<2147483648
 ly:c.y.toNat<2147483648
 inn:∀r∈l,r.x.toNat / 2^L=c.x.toNat / 2^L∧r.y.toNat / 2^L=c.y.toNat / 2^L
 two:0<L→∃r∈l,∃s∈l,qd L r≠qd L s
theorem So{r:Ao}(h:NO r=true):r.x.toNat<2147483648∧r.y.toNat<2147483648∧r.txt.length≤16:=by
 unfold NO at h
 simp only[Bool.and_eq_true,decide_eq_true_eq]at h
 have:=UInt32.lt_iff_toNat_lt.1 h.1
 rw[LZ]at this
 have h2:max r.x.toNat r.y.toNat<2147483648:=this
 omega
theorem MF{a L:Nat}(h:0<L):a / 2^(L-1) / 2=a / 2^L:=by
 rw[Nat.div_div_eq_div_mul,←Nat.pow_succ,Nat.succ_eq_add_one,Nat.sub_add_cancel h]
theorem ZQ{n:Nat}{l:List Ao}(hl:l≠[])(hn:l.length<n)(hb:l.length≤1000000)(ok:∀r∈l,NO r=true):∃c L,IA n l=some c∧AR c l L:=by
 have key:∀(T S:List Ao) (x y u v:UInt32),l=S++T→(∀r∈S,x.toNat≤r.x.toNat∧r.x.toNat≤u.toNat∧y.toNat≤r.y.toNat∧r.y.toNat≤v.toNat)→(∃r∈l,r.x=x)→(∃r∈l,r.y=y)→(∃r∈l,r.x=u)→(∃r∈l,r.y=v)→
   ∀m,T.length<m→∃c L,Fr l m (x,y,u,v,(S.length:Int))=some c∧AR c l L:=by
  intro T
  induction T with
  | nil=>
   intro S x y u v hS hin hx hy hu hv m hm
   obtain⟨m,rfl⟩:∃k,m=k+1:=⟨m-1,by omega⟩
   simp only[List.append_nil]at hS
   subst hS
   obtain⟨rx,hrx,ex⟩:=hx
   obtain⟨ry,hry,ey⟩:=hy
   obtain⟨ru,hru,eu⟩:=hu
   obtain⟨rv,hrv,ev⟩:=hv
   have lx:=(So (ok rx hrx)).1
   have ly:=(So (ok ry hry)).2.1
   have lu:=(So (ok ru hru)).1
   have lv:=(So (ok rv hrv)).2.1
   rw[ex]at lx
   rw[ey]at ly
   rw[eu]at lu
   rw[ev]at lv
   obtain⟨L,hL,hle,d1,d2,d3⟩:=iK lx ly lu lv
   have hp:=Nat.two_pow_pos L
   have hcx:=Sl x hL
   have hcy:=Sl y hL
   refine⟨⟨x &&& ~~~(shl32 1 L-1),y &&& ~~~(shl32 1 L-1),L⟩,L,?_,⟨rfl,hL,?_,?_,?_,?_,fun r hr=>?_,fun h0=>?_⟩⟩
   show ET l (Fr l m) _ _ _ _ _=_
   unfold ET
   dsimp only
   rw[zf zO,CI]
   unfold Jg
   rw[hle,AB]
   show(x &&& ~~~(shl32 1 L-1)).toNat%2^L=0
   rw[hcx]
   exact Nat.mul_mod_left _ _
   show(y &&& ~~~(shl32 1 L-1)).toNat%2^L=0
   rw[hcy]
   exact Nat.mul_mod_left _ _
   show(x &&& ~~~(shl32 1 L-1)).toNat<_
   rw[hcx]
   exact Nat.lt_of_le_of_lt (Nat.div_mul_le_self _ _) lx
   show(y &&& ~~~(shl32 1 L-1)).toNat<_
   rw[hcy]
   exact Nat.lt_of_le_of_lt (Nat.div_mul_le_self _ _) ly
   show r.x.toNat / 2^L=(x &&& ~~~(shl32 1 L-1)).toNat / 2^L∧r.y.toNat / 2^L=(y &&& ~~~(shl32 1 L-1)).toNat / 2^L
   rw[hcx,hcy,Nat.mul_div_cancel _ hp,Nat.mul_div_cancel _ hp]
   obtain⟨a1,a2,a3,a4⟩:=hin r hr
   have b1:=Nat.div_le_div_right (c:=2^L) a1
   have b2:=Nat.div_le_div_right (c:=2^L) a2
   have b3:=Nat.div_le_div_right (c:=2^L) a3
   have b4:=Nat.div_le_div_right (c:=2^L) a4
   omega
   have g1:=MF (a:=x.toNat) h0
   have g2:=MF (a:=u.toNat) h0
   have g3:=MF (a:=y.toNat) h0
   have g4:=MF (a:=v.toNat) h0
   rcases d3 h0 with d | d
   refine⟨rx,hrx,ru,hru,fun e=>?_⟩
   unfold qd at e
   rw[ex,eu]at e
   omega
   refine⟨ry,hry,rv,hrv,fun e=>?_⟩
   unfold qd at e
   rw[ey,ev]at e
   omega
  | cons r T ih=>
   intro S x y u v hS hin hx hy hu hv m hm
   obtain⟨m,rfl⟩:∃k,m=k+1:=⟨m-1,by omega⟩
   have hlen:l.length=S.length+(T.length+1):=by rw[hS];simp
   have hr:r∈l:=by rw[hS];simp
   have n1:BA l (S.length:Int)=some r:=by
    rw[Ou rfl,hS]
    simp
   have hmin:∀a b:UInt32,min a b=a∨min a b=b:=fun a b=>by
    show(if a≤b then a else b)=a∨(if a≤b then a else b)=b
    split
    exact .inl rfl
    exact .inr rfl
   have hmax:∀a b:UInt32,max a b=a∨max a b=b:=fun a b=>by
    show(if a≤b then b else a)=a∨(if a≤b then b else a)=b
    split
    exact .inr rfl
    exact .inl rfl
   obtain⟨c,L,hc,hA⟩:=ih (S++[r]) (min x r.x) (min y r.y) (max u r.x) (max v r.y) (by rw[hS];simp) (fun q hq=>by
    rw[X8,X8,LZ,LZ]
    rcases List.mem_append.1 hq with hq | hq
    have:=hin q hq
    omega
    rw[List.mem_singleton.1 hq]
    omega) (by
    rcases hmin x r.x with e | e<;>rw[e]
    exact hx
    exact⟨r,hr,rfl⟩) (by
    rcases hmin y r.y with e | e<;>rw[e]
    exact hy
    exact⟨r,hr,rfl⟩) (by
    rcases hmax u r.x with e | e<;>rw[e]
    exact hu
    exact⟨r,hr,rfl⟩) (by
    rcases hmax v r.y with e | e<;>rw[e]
    exact hv
    exact⟨r,hr,rfl⟩) m (by simp at hm;omega)
   refine⟨c,L,?_,hA⟩
   show ET l (Fr l m) _ _ _ _ _=_
   unfold ET
   dsimp only
   rw[zt zO,C2,n1,AB,CB,CB,CB,CB,DB zO zO]
   rw[show((S++[r]).length:Int)=(S.length:Int)+1 by simp only[List.length_append,List.length_singleton];omega]at hc
   exact hc
 obtain⟨r0,l0,rfl⟩:∃r0 l0,l=r0::l0:=by
  cases l with
  | nil=>exact absurd rfl hl
  | cons r0 l0=>exact⟨r0,l0,rfl⟩
 obtain⟨c,L,hc,hA⟩:=key (r0::l0) [] r0.x r0.y r0.x r0.y rfl zS ⟨r0,by simp,rfl⟩ ⟨r0,by simp,rfl⟩ ⟨r0,by simp,rfl⟩ ⟨r0,by simp,rfl⟩ n hn
 refine⟨c,L,?_,hA⟩
 unfold IA
 have n0:BA (r0::l0) 0=some r0:=rfl
 rw[n0,AB,AB,AB,AB]
 exact hc
theorem size_eq{c:Cg}{L:Nat}(h:c.lev=(L:Int)):HT c=some (shl64 1 L):=by
 unfold HT QH
 rw[h,if_pos zO,AB,CB]
 rfl
theorem X0{L:Nat}(h:L≤31):(shl64 1 L).toNat=2^L:=by
 simp only[shl64,UInt64.toNat_ofNat',Nat.min_eq_left (show L≤64 by omega)]
 have:2^L≤2^31:=Nat.pow_le_pow_right zD h
 rw[show(1:UInt64).toNat=1 from rfl,Nat.one_mul]
 exact Nat.mod_eq_of_lt (Nat.lt_of_le_of_lt this zD)
theorem kG{L:Nat}(h:L≤31):(shl64 1 L-1).toUInt32.toNat=2^L-1:=by
 have h1:=X0 h
 have h2:=Nat.two_pow_pos L
 have h3:2^L≤2^31:=Nat.pow_le_pow_right zD h
 rw[UInt64.toNat_toUInt32,UInt64.toNat_sub_of_le _ _ (by rw[UInt64.le_iff_toNat_le,h1];exact h2),h1]
 show(2^L-1)%4294967296=_
 exact Nat.mod_eq_of_lt zO
theorem XG{c:Cg}{L:Nat}(h:c.lev=(L:Int))(hL:L≤31)(hx:c.x.toNat%2^L=0)(hy:c.y.toNat%2^L=0)(lx:c.x.toNat<2147483648)(ly:c.y.toNat<2147483648):OD c=true:=by
 unfold OD
 rw[h,show(decide ((L:Int)<0)||decide (31<(L:Int)))=false by simp;omega,CI,Int.toNat_natCast,Bool.and_eq_true,decide_eq_true_eq,decide_eq_true_eq]
 constructor
 apply UInt32.toNat_inj.1
 rw[UInt32.toNat_and,kG hL,UInt32.toNat_or,Nat.and_two_pow_sub_one_eq_mod,Nat.or_mod_two_pow,hx,hy]
 rfl
 rw[UInt32.lt_iff_toNat_lt,LZ]
 show max _ _<2147483648
 omega
theorem AR.ok{c:Cg}{l:List Ao}{L:Nat}(A:AR c l L):OD c=true:=XG A.lev A.le A.cx A.cy A.lx A.ly
theorem Uo{a P:Nat}(hP:a%P=0)(ha:a<2147483648)(hd:∃k,k*P=2147483648):a+P≤2147483648:=by
 obtain⟨k,hk⟩:=hd
 have h1:a=a / P*P:=by
  have:=Nat.div_add_mod a P
  rw[hP,Nat.add_zero,Nat.mul_comm]at this
  exact this.symm
 have h2:a / P<k:=by
  rcases Nat.lt_or_ge (a / P) k with h | h
  exact h
  have:=Nat.mul_le_mul_right P h
  omega
 have h3:(a / P+1)*P≤k*P:=Nat.mul_le_mul_right P h2
 rw[Nat.add_mul,Nat.one_mul]at h3
 omega
theorem Qt{L:Nat}(h:L≤31):∃k,k*2^L=2147483648:=⟨2^(31-L),by rw[←Nat.pow_add,Nat.sub_add_cancel h]⟩
theorem cZ{a q P:Nat}(hP:0<P)(hq:q%P=0):(q≤a∧a≤q+(P-1))↔a / P=q / P:=by
 have h1:q=q / P*P:=by
  have:=Nat.div_add_mod q P
  rw[hq,Nat.add_zero,Nat.mul_comm]at this
  exact this.symm
 have h2:=Nat.div_add_mod a P
 have h3:=Nat.mod_lt a hP
 constructor
 rintro⟨g1,g2⟩
 have g3:q / P≤a / P:=Nat.div_le_div_right g1
 have g4:a / P<q / P+1:=by
  refine(Nat.div_lt_iff_lt_mul hP).2 ?_
  rw[Nat.add_mul,Nat.one_mul,←h1]
  omega
 omega
 intro g
 rw[g,Nat.mul_comm,←h1]at h2
 omega
theorem cC{q:Cg}{M:Nat}(x y:UInt32)(h:q.lev=(M:Int))(hM:M≤31)(hx:q.x.toNat%2^M=0)(hy:q.y.toNat%2^M=0)(lx:q.x.toNat<2147483648)(ly:q.y.toNat<2147483648):
  MG q x y=some (decide (x.toNat / 2^M=q.x.toNat / 2^M)&&decide (y.toNat / 2^M=q.y.toNat / 2^M)):=by
 have hp:=Nat.two_pow_pos M
 have mx:=Uo hx lx (Qt hM)
 have my:=Uo hy ly (Qt hM)
 have hf:=kG hM
 have ex:(q.x+(shl64 1 M-1).toUInt32).toNat=q.x.toNat+(2^M-1):=by rw[UInt32.toNat_add,hf];omega
 have ey:(q.y+(shl64 1 M-1).toUInt32).toNat=q.y.toNat+(2^M-1):=by rw[UInt32.toNat_add,hf];omega
 unfold MG
 rw[Pd,XG h hM hx hy lx ly,AB]
 unfold PM Qg Ka
 rw[size_eq h]
 simp only[AB,CB,Ju,C2]
 congr 1
 rw[Bool.eq_iff_iff]
 simp only[Bool.and_eq_true,decide_eq_true_eq,UInt32.le_iff_toNat_le,UInt32.lt_iff_toNat_lt,LZ,ex,ey,←cZ hp hx,←cZ hp hy]
 constructor
 rintro⟨⟨⟨⟨_,h1⟩,h2⟩,h3⟩,h4⟩
 exact⟨⟨h1,h2⟩,h3,h4⟩
 rintro⟨⟨h1,h2⟩,h3,h4⟩
 refine⟨⟨⟨⟨⟨⟨by omega,by omega⟩,?_⟩,h1⟩,h2⟩,h3⟩,h4⟩
 show max _ _<2147483648
 omega
theorem i5{c:Cg}{l:List Ao}{L:Nat}(A:AR c l L)(h0:0<L){r:Ao}(hr:r∈l):FY c r.x r.y=some ((qd L r:Int),0):=by
 have hL:=A.le
 have hp:=Nat.two_pow_pos (L-1)
 obtain⟨i1,i2⟩:=A.inn r hr
 have mx:=Uo A.cx A.lx (Qt hL)
 have my:=Uo A.cy A.ly (Qt hL)
 have e2:2^L=2^(L-1)*2:=by rw[←Nat.pow_succ,Nat.succ_eq_add_one,Nat.sub_add_cancel h0]
 have hh:(shl64 1 L / 2).toUInt32.toNat=2^(L-1):=by
  rw[UInt64.toNat_toUInt32,UInt64.toNat_div,X0 hL,show(2:UInt64).toNat=2 from rfl,e2,Nat.mul_div_cancel _ zD]
  show _%4294967296=_
  have:2^(L-1)≤2^31:=Nat.pow_le_pow_right zD zO
  exact Nat.mod_eq_of_lt zO
 have hx2:c.x.toNat%2^(L-1)=0:=by
  have:=A.cx
  rw[e2]at this
  rw[←Nat.mod_mul_right_mod c.x.toNat (2^(L-1)) 2,this]
  simp
 have hy2:c.y.toNat%2^(L-1)=0:=by
  have:=A.cy
  rw[e2]at this
  rw[←Nat.mod_mul_right_mod c.y.toNat (2^(L-1)) 2,this]
  simp
 have gx:=MF (a:=c.x.toNat) h0
 have gy:=MF (a:=c.y.toNat) h0
 have rx:=MF (a:=r.x.toNat) h0
 have ry:=MF (a:=r.y.toNat) h0
 have cxe:c.x.toNat / 2^(L-1)%2=0:=by
  have:=A.cx
  rw[e2,Nat.mod_mul]at this
  have h5:2^(L-1)*(c.x.toNat / 2^(L-1)%2)=0:=zO
  rcases Nat.mul_eq_zero.1 h5 with h6 | h6
  omega
  exact h6
 have cye:c.y.toNat / 2^(L-1)%2=0:=by
  have:=A.cy
  rw[e2,Nat.mod_mul]at this
  have h5:2^(L-1)*(c.y.toNat / 2^(L-1)%2)=0:=zO
  rcases Nat.mul_eq_zero.1 h5 with h6 | h6
  omega
  exact h6
 generalize hhd:(shl64 1 L / 2).toUInt32=hf at hh
 
 have c0:∀a:UInt32,(a+hf*0)=a:=fun a=>by simp
 have c1:∀a:UInt32,a.toNat+2^L≤2147483648→(a+hf*1).toNat=a.toNat+2^(L-1):=fun a ha=>by
  rw[UInt32.mul_one,UInt32.toNat_add,hh]
  rw[e2]at ha
  omega
 have m1:∀a:Nat,a%2^(L-1)=0→(a+2^(L-1))%2^(L-1)=0:=fun a ha=>by simp[ha]
 have d1:∀a:Nat,(a+2^(L-1)) / 2^(L-1)=a / 2^(L-1)+1:=fun a=>Nat.add_div_right a hp
 have hlev:wI (c.lev-1)=((L-1:Nat):Int):=by rw[A.lev,DB zO zO];omega
 have hasq:∀(qx qy:UInt32) (bx by_:Nat),qx.toNat=c.x.toNat+bx*2^(L-1)→qy.toNat=c.y.toNat+by_*2^(L-1)→bx≤1→by_≤1→
   MG ⟨qx,qy,((L-1:Nat):Int)⟩ r.x r.y=some (decide (r.x.toNat / 2^(L-1)%2=bx)&&decide (r.y.toNat / 2^(L-1)%2=by_)):=by
  intro qx qy bx by_ e1 e3 hbx hby
  have hxm:qx.toNat%2^(L-1)=0:=by
   rw[e1,Nat.add_mul_mod_self_right]
   exact hx2
  have hym:qy.toNat%2^(L-1)=0:=by
   rw[e3,Nat.add_mul_mod_self_right]
   exact hy2
  have bxl:bx*2^(L-1)≤2^(L-1):=by
   calc bx*2^(L-1)≤1*2^(L-1):=Nat.mul_le_mul_right _ hbx
    _=2^(L-1):=Nat.one_mul _
  have byl:by_*2^(L-1)≤2^(L-1):=by
   calc by_*2^(L-1)≤1*2^(L-1):=Nat.mul_le_mul_right _ hby
    _=2^(L-1):=Nat.one_mul _
  rw[cC (M:=L-1) r.x r.y rfl zO hxm hym (by rw[e1];omega) (by rw[e3];omega)]
  have f1:qx.toNat / 2^(L-1)=c.x.toNat / 2^(L-1)+bx:=by rw[e1];exact Nat.add_mul_div_right _ _ hp
  have f2:qy.toNat / 2^(L-1)=c.y.toNat / 2^(L-1)+by_:=by rw[e3];exact Nat.add_mul_div_right _ _ hp
  congr 2
  rw[decide_eq_decide]
  show r.x.toNat / 2^(L-1)=qx.toNat / 2^(L-1)↔_
  rw[f1]
  omega
  rw[decide_eq_decide]
  show r.y.toNat / 2^(L-1)=qy.toNat / 2^(L-1)↔_
  rw[f2]
  omega
 unfold FY ae Ts
 rw[AB,Pd,A.ok,AB,show(!true||decide (c.lev=0))=false by rw[A.lev];simp;omega,CI,size_eq A.lev,AB]
 have hq:Qv (shl64 1 L) 2=some (shl64 1 L / 2):=by
  unfold Qv
  rw[if_neg zD]
 rw[hq,AB,AB,hhd]
 unfold Eo
 rw[hlev,c0,c0]
 have q00:=hasq c.x c.y 0 0 zS zS zO zO
 have q10:=hasq (c.x+hf*1) c.y 1 0 (by rw[c1 _ mx];omega) zS zO zO
 have q01:=hasq c.x (c.y+hf*1) 0 1 zS (by rw[c1 _ my];omega) zO zO
 have q11:=hasq (c.x+hf*1) (c.y+hf*1) 1 1 (by rw[c1 _ mx];omega) (by rw[c1 _ my];omega) zO zO
 unfold Kc qd
 simp only[Ur,Ig,q00,q10,q01,q11,AB]
 have bx:=Nat.mod_two_eq_zero_or_one (r.x.toNat / 2^(L-1))
 have by_:=Nat.mod_two_eq_zero_or_one (r.y.toNat / 2^(L-1))
 rcases bx with bx | bx<;>rcases by_ with by_ | by_<;>rw[bx,by_]<;>rfl
end

section
inductive Vd {α β:Type} (R:α→β→Prop):List α→List β→Prop
 | nil:Vd R [] []
 | cons {a b xs ys}:R a b→Vd R xs ys→Vd R (a::xs) (b::ys)
theorem Vd.length{α β:Type}{R:α→β→Prop}{xs:List α}{ys:List β}(h:Vd R xs ys):xs.length=ys.length:=by
 induction h with
 | nil=>rfl
 | cons _ _ ih=>simp[ih]
def PV(L:Nat)(l:List Ao):List (List Ao):=[l.filter fun r=>decide (qd L r=0),l.filter fun r=>decide (qd L r=1),l.filter fun r=>decide (qd L r=2),l.filter fun r=>decide (qd L r=3)]
def Ms(L:Nat)(l:List Ao):List (List Ao):=(PV L l).filter fun p => !p.isEmpty
theorem ea(L:Nat)(r:Ao):qd L r<4:=by
 unfold qd
 omega
theorem Y1{c:Cg}{l:List Ao}{L:Nat}(A:AR c l L)(h0:0<L):∀(T:List Ao) (p:P4),(∀r∈T,r∈l)→p.1.length+p.2.1.length+p.2.2.1.length+p.2.2.2.length+T.length≤100000→
  L4 c T p=some (p.1++T.filter (fun r=>decide (qd L r=0)),p.2.1++T.filter (fun r=>decide (qd L r=1)),p.2.2.1++T.filter (fun r=>decide (qd L r=2)),p.2.2.2++T.filter (fun r=>decide (qd L r=3)))
 | [],p,_,_=>by simp[L4]
 | r::T,p,hT,hb=>by
  simp only[List.length_cons]at hb
  have hw:=i5 A h0 (hT r zS)
  have h4:=ea L r
  have ih:=fun p hp=>Y1 A h0 T p (fun q hq=>hT q (by simp[hq])) hp
  unfold L4 Sn
  rw[hw,AB]
  dsimp only
  rcases(show qd L r=0∨qd L r=1∨qd L r=2∨qd L r=3 by omega)with e | e | e | e
  rw[e,if_pos (show((0:Nat):Int)=0 from rfl),DV zQ zQ,AB,AB,ih _ zQ]
  simp[e]
  rw[e,if_neg zD,if_pos (show((1:Nat):Int)=1 from rfl),DV zQ zQ,AB,AB,ih _ zQ]
  simp[e]
  rw[e,if_neg zD,if_neg zD,if_pos (show((2:Nat):Int)=2 from rfl),DV zQ zQ,AB,AB,ih _ zQ]
  simp[e]
  rw[e,if_neg zD,if_neg zD,if_neg zD,if_pos (show((3:Nat):Int)=3 from rfl),DV zQ zQ,AB,AB,ih _ zQ]
  simp[e]
theorem ab(L:Nat)(l:List Ao):(PV L l).flatten.Perm l:=by
 unfold PV
 simp only[List.flatten_cons,List.flatten_nil,List.append_nil]
 induction l with
 | nil=>exact List.Perm.refl _
 | cons r l ih=>
  have h4:=ea L r
  rcases(show qd L r=0∨qd L r=1∨qd L r=2∨qd L r=3 by omega)with e | e | e | e<;>simp only[List.filter_cons,e,decide_true,if_true]<;>simp only[show decide ((0:Nat)=1)=false from rfl,show decide ((0:Nat)=2)=false from rfl,show decide ((0:Nat)=3)=false from rfl,show decide ((1:Nat)=0)=false from rfl,show decide ((1:Nat)=2)=false from rfl,show decide ((1:Nat)=3)=false from rfl,show decide ((2:Nat)=0)=false from rfl,show decide ((2:Nat)=1)=false from rfl,show decide ((2:Nat)=3)=false from rfl,show decide ((3:Nat)=0)=false from rfl,show decide ((3:Nat)=1)=false from rfl,show decide ((3:Nat)=2)=false from rfl,Bool.false_eq_true,if_false]
  all_goals
   refine List.perm_iff_count.2 fun x=>?_
   have:=List.perm_iff_count.1 ih x
   simp only[List.count_append,List.count_cons]at this ⊢
   omega
theorem UX(ps:List (List Ao)):(ps.filter fun p => !p.isEmpty).flatten=ps.flatten:=by
 induction ps with
 | nil=>rfl
 | cons p ps ih=>
  cases p with
  | nil=>simpa using ih
  | cons r p=>simp[ih]
theorem cn(L:Nat)(l:List Ao):(Ms L l).flatten.Perm l:=by
 unfold Ms
 rw[UX]
 exact ab L l
theorem Tp{L:Nat}{l p:List Ao}(h:p∈Ms L l):p≠[]∧∃i,p=l.filter fun r=>decide (qd L r=i):=by
 unfold Ms at h
 obtain⟨h1,h2⟩:=List.mem_filter.1 h
 refine⟨by simpa using h2,?_⟩
 unfold PV at h1
 simp only[List.mem_cons,List.not_mem_nil,or_false]at h1
 rcases h1 with rfl | rfl | rfl | rfl
 exact⟨0,rfl⟩
 exact⟨1,rfl⟩
 exact⟨2,rfl⟩
 exact⟨3,rfl⟩
theorem Qu{L:Nat}{l p:List Ao}(h:p∈Ms L l):p.Sublist l:=by
 obtain⟨_,i,rfl⟩:=Tp h
 exact List.filter_sublist ..
theorem Xt(L:Nat)(l:List Ao):(Ms L l).length≤4:=by
 unfold Ms
 exact Nat.le_trans (List.length_filter_le ..) (Nat.le_refl 4)
theorem XP{L:Nat}{l:List Ao}{r:Ao}(h:r∈l):(l.filter fun s=>decide (qd L s=qd L r))∈Ms L l:=by
 have h4:=ea L r
 unfold Ms
 refine List.mem_filter.2 ⟨?_,?_⟩
 unfold PV
 rcases(show qd L r=0∨qd L r=1∨qd L r=2∨qd L r=3 by omega)with e | e | e | e<;>rw[e]<;>simp
 have:r∈l.filter fun s=>decide (qd L s=qd L r):=List.mem_filter.2 ⟨h,by simp⟩
 cases hx:l.filter fun s=>decide (qd L s=qd L r)with
 | nil=>rw[hx]at this;simp at this
 | cons a b=>rfl
theorem Tq{c:Cg}{l:List Ao}{L:Nat}(A:AR c l L)(h0:0<L):2≤(Ms L l).length∧∀p∈Ms L l,p.length<l.length:=by
 obtain⟨r,hr,s,hs,hne⟩:=A.two h0
 have h1:=XP (L:=L) hr
 have h2:=XP (L:=L) hs
 have hd:(l.filter fun q=>decide (qd L q=qd L r))≠(l.filter fun q=>decide (qd L q=qd L s)):=by
  intro e
  have:r∈l.filter fun q=>decide (qd L q=qd L r):=List.mem_filter.2 ⟨hr,by simp⟩
  rw[e]at this
  have:=(List.mem_filter.1 this).2
  simp only[decide_eq_true_eq]at this
  exact hne this
 constructor
 rcases hq:Ms L l with _ | ⟨a,_ | ⟨b,q⟩⟩
 rw[hq]at h1;simp at h1
 rw[hq]at h1 h2
 simp only[List.mem_singleton]at h1 h2
 exact absurd (h1.trans h2.symm) hd
 simp
 intro p hp
 obtain⟨_,i,rfl⟩:=Tp hp
 have:∃q∈l,qd L q≠i:=by
  by_cases e:qd L r=i
  exact⟨s,hs,fun e'=>hne (e.trans e'.symm)⟩
  exact⟨r,hr,e⟩
 obtain⟨q,hq,hqi⟩:=this
 rcases Nat.lt_or_ge (l.filter fun r=>decide (qd L r=i)).length l.length with h | h
 exact h
 have:=(List.filter_sublist (p:=fun r=>decide (qd L r=i)) (l:=l)).eq_of_length_le h
 have h5:=List.filter_eq_self.1 this q hq
 simp only[decide_eq_true_eq]at h5
 exact absurd h5 hqi
def Tr:Nat→List Ao→CU→Prop
 | 0,_,_=>False
 | f+1,l,t=>(l=[]∧t=.mk 0 0 0 [] [])∨(l≠[]∧∃c L,AR c l L∧(((l.length≤4∨L=0)∧t=.mk c.x c.y c.lev l [])∨
   (4<l.length∧0<L∧∃ks,t=.mk c.x c.y c.lev [] ks∧Vd (Tr f) (Ms L l) ks)))
theorem Xi{rec_:List Ao→Option CU}{R:List Ao→CU→Prop}:∀(ps:List (List Ao)) (acc:List CU),(∀p∈ps,p≠[]→∃t,rec_ p=some t∧R p t)→acc.length+ps.length≤1000→∃ks,FE rec_ ps acc=some (acc++ks)∧Vd R (ps.filter fun p => !p.isEmpty) ks
 | [],acc,_,_=>⟨[],by simp[FE],.nil⟩
 | p::ps,acc,h,hb=>by
  simp only[List.length_cons]at hb
  unfold FE
  cases p with
  | nil=>
   obtain⟨ks,h1,h2⟩:=Xi ps acc (fun q hq=>h q (by simp[hq])) zO
   exact⟨ks,by simpa using h1,by simpa using h2⟩
  | cons r p=>
   obtain⟨t,ht,hR⟩:=h (r::p) zS zS
   obtain⟨ks,h1,h2⟩:=Xi ps (acc++[t]) (fun q hq=>h q (by simp[hq])) zQ
   refine⟨t::ks,?_,?_⟩
   rw[zt (by simp only[List.length_cons];omega),C2,ht,AB,DV zQ zQ,AB,h1]
   simp
   simp only[List.filter_cons,List.isEmpty_cons,Bool.not_false,if_true]
   exact .cons hR h2
theorem dE{n:Nat}:∀(f:Nat) (l:List Ao),l.length<f→(∀r∈l,NO r=true)→l.length≤1000→l.length<n→∃t,Hx n f l=some t∧Tr f l t
 | 0,l,h,_,_,_=>by omega
 | f+1,l,h,ok,hb,hn=>by
  unfold Hx
  rw[if_neg zO]
  by_cases hl:l=[]
  subst hl
  exact⟨.mk 0 0 0 [] [],rfl,.inl ⟨rfl,rfl⟩⟩
  have hp:=List.length_pos_iff.2 hl
  obtain⟨c,L,hc,A⟩:=ZQ hl hn zO ok
  rw[zf zO,CI,hc,AB]
  by_cases hleaf:l.length≤4∨L=0
  rw[show(decide ((l.length:Int)≤4)||decide (c.lev=0))=true by rw[A.lev];simp;omega,C2]
  unfold Qa
  rw[DV zQ zQ,AB]
  exact⟨_,rfl,.inr ⟨hl,c,L,A,.inl ⟨hleaf,rfl⟩⟩⟩
  have h0:0<L:=zO
  rw[show(decide ((l.length:Int)≤4)||decide (c.lev=0))=false by rw[A.lev];simp;omega,CI,Y1 A h0 l _ (fun r hr=>hr) zQ,AB]
  simp only[List.nil_append]
  obtain⟨_,h2⟩:=Tq A h0
  obtain⟨ks,h3,h4⟩:=Xi (rec_:=Hx n f) (R:=Tr f) (PV L l) [] (fun p hp' hne=>by
   have hq:p∈Ms L l:=List.mem_filter.2 ⟨hp',by simpa using hne⟩
   have:=h2 p hq
   exact dE f p zO (fun r hr=>ok r ((Qu hq).subset hr)) zO zO) (by simp[PV])
  unfold PV at h3
  rw[h3,AB]
  exact⟨_,rfl,.inr ⟨hl,c,L,A,.inr ⟨by omega,h0,ks,by simp,h4⟩⟩⟩
theorem hI{n:Nat}{l:List Ao}(hn:1002≤n)(h:E0 l=true):∃t,Sg n l=some (t,0)∧Hx n n l=some t∧Tr n l t:=by
 have h':=h
 unfold E0 at h'
 simp only[Bool.and_eq_true,decide_eq_true_eq]at h'
 have hb:l.length≤1000:=zO
 obtain⟨t,h1,h2⟩:=dE (n:=n) n l zO (fun r hr=>List.all_eq_true.1 h'.1.1 r hr) hb zO
 refine⟨t,?_,h1,h2⟩
 unfold Sg
 rw[TL l zO zO,AB,h,Bool.not_true,CI,h1,AB]
end

section
variable {P:Program}{ro:Option Nat}{K:Nat→Prop}{w0:World}{N:Nat}{Q:DF}{D:List Nat}{l l':Tm}{H H' Hs:List AX}{ops:Array Oper}{items:Hn}
variable {tk:Bool}{o:Oper}{t:Nat}{v:Value}{x y z u:Operand}
theorem lz{b off n c sz:Nat}{k k' k'':IntKind}{i j m:Int}{ty e:TypeId}(p q:Nat)(ho:At ops N l o t (.slice ty x (some y) (some z) (some u)))(hty:P.underlying ty=some (.slice e))(hsz:DD P e=some sz)(hx:Be l x=some (.slice (some ⟨b,off,none⟩) n c))(hy:Be l y=some (.int k i))(hz:Be l z=some (.int k' j))(hu:Be l u=some (.int k'' m))
(hi:i=(p:Int))(hj:j=(q:Int))(hm:m=(q:Int))(hp:p<q)(hq:q≤c)(h:SL P ro K w0 N ops Hs items Q D ((t,.slice (some ⟨b,off+p*sz,none⟩) (q-p) (q-p))::l) H):SL P ro K w0 N ops Hs (.cons (tk,o) items) Q D l H:=
 SL.val ho rfl (fun a w ha _=>by
  subst hi hj hm
  have hle:p≤q:=Nat.le_of_lt hp
  have hne:¬q=p:=zO
  simp only[execOp,ho.op,Instr.sliceAt,Instr.slice,Option.map]
  simp[ha.eval hx,ha.eval hy,ha.eval hz,ha.eval hu,An hty,Cb hsz,Instr.sliceBounds,Instr.sliceBound,asIntOf,hq,hle,hne,Cf]) h
theorem B6.piece{α:Type}{enc:α→List Value}{sz b off n cap:Nat}{xs:List α}(h:B6 K w0 enc sz (.slice (some ⟨b,off,none⟩) n cap) xs)(p q:Nat)(hpq:p≤q)(hq:q≤xs.length):B6 K w0 enc sz (.slice (some ⟨b,off+p*sz,none⟩) (q-p) (q-p)) ((xs.drop p).take (q-p)):=by
 have hl:((xs.drop p).take (q-p)).length=q-p:=by simp;omega
 refine⟨h.len,?_⟩
 rcases h.at_ with⟨a0,e,rfl⟩ | ⟨b',off',cap',e,hcap,hc⟩
 have:q=0:=by simpa using hq
 subst this
 obtain rfl:p=0:=zO
 exact .inl ⟨_,rfl,by simp⟩
 simp only[Value.slice.injEq,Option.some.injEq,Addr.mk.injEq]at e
 obtain⟨⟨rfl,rfl,_⟩,_,_⟩:=e
 refine .inr ⟨b,off+p*sz,q-p,by rw[hl],by omega,fun j u hu=>?_⟩
 have hfl:(xs.take p).flatMap enc++(((xs.drop p).take (q-p)).flatMap enc++((xs.drop p).drop (q-p)).flatMap enc)=xs.flatMap enc:=by
  rw[←List.flatMap_append,List.take_append_drop,←List.flatMap_append,List.take_append_drop]
 have hj:j<(((xs.drop p).take (q-p)).flatMap enc).length:=(List.getElem?_eq_some_iff.1 hu).1
 have hpl:((xs.take p).flatMap enc).length=p*sz:=by
  rw[It h.len,List.length_take,Nat.min_eq_left zO]
 have:=hc (p*sz+j) u (by
  rw[←hfl,List.getElem?_append_right zO,hpl,Nat.add_sub_cancel_left,List.getElem?_append_left hj]
  exact hu)
 rw[Nat.add_assoc]
 exact this
end

section
variable {K:Nat→Prop}{w0:World}{H:List AX}
theorem F3{A B R M:List AX}{w:World}(h:BT K w0 ((A++(B++R))++M) w):BT K w0 ((B++(A++R))++M) w:=by
 refine h.perm (List.Perm.append_right _ ?_)
 rw[←List.append_assoc,←List.append_assoc]
 exact List.Perm.append_right _ List.perm_append_comm
structure Kx where
 out:List BI
 wrong:Int
abbrev V6(σ:Type):=σ→List UInt8→Option ((BS×Int)×σ)
def dV{σ:Type}(T:List UInt32)(fid:FuncId)(cs:Array Value)(C:Value→σ→List AX)(wh:V6 σ):Prop:=
 ∀(K:Nat→Prop) (w0:World) (H:List AX) (a:Value) (q:σ) (s:List UInt8) (r:(BS×Int)×σ),GM K w0 T→wh q s=some r→
  zC K w0 fid (vS s::cs.toList) (C a q) H (fun u M=>u=.tuple #[.agg (Bt r.1.1).toArray,vI r.1.2]∧∃a',M=C a' r.2)
def Xr{σ:Type}(e:List UInt8)(p:Kx)(w:BS×Int×σ):Option (BS×(Kx×σ)):=
 cond (!decide (w.2.1=0)) (some (⟨0,[]⟩,({ p with wrong:=w.2.1 },w.2.2))) ((DM 40 p.out [⟨e,w.1.page,w.1.tag⟩]).bind fun l=>some (w.1,({ p with out:=l },w.2.2)))
def Jp{σ:Type}(n:Nat)(wh:V6 σ)(x:Da)(p:Kx)(q:σ):Option (BS×(Kx×σ)):=
 cond (!decide (p.wrong=0)) (some (⟨0,[]⟩,(p,q)))
  ((IL n x).bind fun e=>cond (decide (e.2=0)) ((wh q e.1).bind fun w=>Xr e.1 p (w.1.1,w.1.2,w.2)) (Xr e.1 p (⟨0,[]⟩,e.2,q)))
abbrev LT(bp:Nat)(fw vo:Value)(p:Kx):AX:=AL bp (.cells #[fw,vo,vI p.wrong] 196)
theorem Q8{σ:Type}{C:Value→σ→List AX}{wh:V6 σ}{fid:FuncId}{cs:Array Value}{T:List UInt32}{n bp:Nat}{vo v4 v5 a:Value}{x:Da}{p:Kx}{q:σ}{r:BS×(Kx×σ)}(hcal:AM Tryz.prog fid=true)(hwh:dV T fid cs C wh)(hS:GM K w0 T)
(h:Jp n wh x p q=some r)(hs4:B6 K w0 AY 4 v4 x.rows)(hs5:B6 K w0 Bt 2 v5 x.kids):
  zC K w0 130 [vP bp 0,.agg #[vI x.kind,AA x.cx,AA x.cy,vI x.lev,v4,v5,AA x.npage,vS x.ntag]] (LT bp (.func (.func fid) #[] cs) vo p::AD 190 3 vo AU p.out::C a q) H
   (fun u M=>u=.agg (Bt r.1).toArray∧∃vo' a',M=LT bp (.func (.func fid) #[] cs) vo' r.2.1::AD 190 3 vo' AU r.2.1.out::C a' r.2.2):=by
 unfold Jp at h
 refine TP.enter Tryz.func130 rfl rfl ?_
 show SX _ _ _ _ _ _ _ _ _ (LT bp (.func (.func fid) #[] cs) vo p::AD 190 3 vo AU p.out::(C a q++H))
 refine Y ?_
 refine Ba E E zU fun b0=>?_
 refine Ak E FB zU fun b1=>?_
 refine V (AH (Y (J E (AT E E (AF E Rz (AG 2 QF E (Z E BJ (V ?_))))))))
 refine AN h E (fun hc1 h=>?_) fun hc1 h=>?_
 obtain rfl:=zI h
 refine Y (B0 [] E N3 N2 FB zT E (A2 0 E E E E EX E E E zT (V (AK (Ab ?_)))))
 exact Ag (IU E (B8 0 (Bt ⟨0,[]⟩) C5 E E E E)) (Af (M:=_::_::C a q) ⟨E,vo,a,E⟩ fun _ hw=>BT.pick (H:=[_,_,_,_]) hw [2,3] 4 E)
 refine AE h fun e he h=>?_
 refine AJ (AI (Y (Aq [vI x.kind,AA x.cx,AA x.cy,vI x.lev,v4,v5,AA x.npage,vS x.ntag] E Wo E E (Aj 1 E) (AS 0 mm (XA he hs4 hs5) E (J E (Ae E E E (Ae E E E (U E (U E (V (Y ?_)))))))))))
 refine Ak E FB zU fun b2=>?_
 refine V ?_
 refine A6 (α:=BS×Int×σ×Value) (fun w=>Xr e.1 p (w.1,w.2.1,w.2.2.1)=some r) (fun w=>[(0,vP bp 0),(4,vP b1 0),(5,vS e.1),(6,vI w.2.1),(7,vP b2 0)])
  (fun w=>AL b2 (.cells #[AA w.1.page,vS w.1.tag] 188)::AL b1 (.cells #[AA 0,vS []] 188)::LT bp (.func (.func fid) #[] cs) vo p::AD 190 3 vo AU p.out::(C w.2.2.2 w.2.2.1++H)) ?_ (fun w D h=>?_)
 refine Y (J E (Z E Bj (V ?_)))
 refine AN h E (fun hc2 h=>?_) fun hc2 h=>?_
 refine AE h fun w hw1 h=>?_
 refine AQ (J E (AT E E (AF E kR (AG 3 qh E (J E ?_)))))
 refine SL.heap (H':=C a q++([_,_,_,_,_]++H)) ?_ (fun _ hw=>F3 (A:=[_,_,_,_,_]) (B:=C a q) (R:=H) hw)
 refine Bd (vs:=[_]) (Hin:=C a q) (Hr:=[_,_,_,_,_]++H) E E ⟨E,zT⟩ hcal E E (hwh K w0 _ a q e.1 w hS hw1) ?_
 rintro _ _ ⟨rfl,a1,rfl⟩
 refine⟨trivial,?_⟩
 refine SL.heap ?_ (fun _ hw=>F3 (A:=C a1 w.2) (B:=[_,_,_,_,_]) (R:=H) hw)
 refine J E (Ae E E E (Ae E E E (A2 0 E E E E EX E E E zT (U E (AZ ?_)))))
 exact Ap (w.1.1,w.1.2,w.2,a1) h tL (BM [0,1,3,4] 5 E E E)
 refine AJ ?_
 exact Ap (⟨0,[]⟩,e.2,q,a) h tL (BM [0,1,3,4] 5 E E E)
 obtain⟨w,we,q1,a1⟩:=w
 unfold Xr at h
 dsimp only at h
 try dsimp only
 refine AH (Y (J E (Z E BJ (V ?_))))
 refine AN h E (fun hc3 h=>?_) fun hc3 h=>?_
 obtain rfl:=zI h
 refine Y (J E (J E (AT E E (AF E Rz (A2 2 E E E E dB E E E zT (V (Y (B0 [] E N3 N2 FB zT E (A2 1 E E E E EX E E E zT (V (AK (Ab ?_))))))))))))
 exact Ag (IU E (B8 1 (Bt ⟨0,[]⟩) C5 E E E E)) (Af (M:=_::_::C a1 q1) ⟨E,vo,a1,E⟩ fun _ hw=>BT.pick (H:=[_,_,_,_]) hw [2,3] 4 E)
 refine AE h fun l hl h=>?_
 obtain rfl:=zI h
 refine AJ (AI (AH (Aw DC [0,2] (CF [(true,0),(true,1),(true,2),(true,3),(true,4),(true,5),(true,6),(true,7),(false,8),(false,9),(true,10),(true,11)] (.last 12 .nil)) zK (J E (J E (AT E E (AF E XW (AG 1 QG E (J E (Aq (Bt w) E C5 E E (Aj 0 E) ?_))))))))))
 refine B0 [_,_] E kj kh O8 ⟨E,E,zT⟩ E ?_
 refine B9 [_] rfl KN KM O8 ⟨rfl,trivial⟩ rfl rfl rfl zW rfl rfl (fun _=>⟨⟨1,rfl⟩,⟨3,rfl⟩,trivial⟩) fun b3=>?_
 refine CA AU 3 ([(⟨e.1,w.page,w.tag⟩:BI)]:List BI) E zV E ?_
 refine Co 4 hl (sz:=3) (enc:=AU) zV E KN KM ji O8 E zD E E E E (CH (sz:=3) (enc:=AU) 0 zV E) (by simp[AU,Value.oneCell']) (fun _=>⟨⟨1,E⟩,⟨3,E⟩,zT⟩) fun v3=>?_
 refine AT E E (AF E XW (Bc ?_))
 refine Cs 4 E fun hv3 ho3=>?_
 refine Dt 3 E E E E lB hv3 ho3 E zT (V (Y (Aq (Bt w) E C5 E E (Aj 1 E) (A2 2 E E E E EX E E E zT (V (AK ?_))))))
 exact Ag (IU E (B8 2 (Bt w) C5 E E E E)) (Af (M:=_::_::C a1 q1) ⟨E,v3,a1,E⟩ fun _ hw=>BT.pick (H:=[_,_,_,_,_]) hw [3,4] 5 E)
end

section
variable {K:Nat→Prop}{w0:World}{H:List AX}
abbrev Lt:=Wn×List Ao
def I1(a:Lt):List Value:=[a.1.val]
def SD(b off:Nat)(l:List Ao)(i:Nat):Lt:=
 (⟨some ⟨b,off+4*i*4,none⟩,min (4*i+4) l.length-4*i,min (4*i+4) l.length-4*i⟩,(l.drop (4*i)).take (min (4*i+4) l.length-4*i))
def KJ(b off:Nat)(l:List Ao)(n:Nat):List Lt:=(List.range n).map (SD b off l)
def LE(b off:Nat)(l:List Ao):List Lt:=KJ b off l ((l.length+3) / 4)
theorem cD{b off n cap:Nat}{l:List Ao}(h:B6 K w0 AY 4 (.slice (some ⟨b,off,none⟩) n cap) l):∀a∈LE b off l,B6 K w0 AY 4 a.1.val a.2:=by
 intro a ha
 obtain⟨i,hi,rfl⟩:=List.mem_map.1 ha
 have hi':=List.mem_range.1 hi
 exact h.piece (4*i) (min (4*i+4) l.length) zO zO
theorem YW(b off:Nat)(l:List Ao)(n:Nat):KJ b off l (n+1)=KJ b off l n++[SD b off l n]:=by
 simp[KJ,List.range_succ]
theorem XK(b off:Nat)(l:List Ao)(k:Nat)(h:4*k<l.length):∃suf,LE b off l=KJ b off l k++SD b off l k::suf:=by
 obtain⟨m,hm⟩:∃m,(l.length+3) / 4=k+1+m:=⟨(l.length+3) / 4-(k+1),by omega⟩
 refine⟨(List.range m).map fun j=>SD b off l (k+1+j),?_⟩
 rw[LE,hm,KJ,List.range_add,List.map_append,List.map_map,List.range_succ,List.map_append,List.append_assoc]
 rfl
theorem cl{b1 b2 b off cap:Nat}{l:List Ao}{G0:List AX}(hl:l.length≤1048576)(hs:B6 K w0 AY 4 (.slice (some ⟨b,off,none⟩) l.length cap) l)(hcap:l.length≤cap):
  Ns Tryz.prog K w0 209 [vP b1 0,vP b2 0] [AL b1 (.cells #[.slice (some ⟨b,off,none⟩) l.length cap] 37),AL b2 (.cells #[vI 4] 3)] G0 I1 (LE b off l):=by
 intro lp J9 X T rc hy h0
 refine TP.enter Tryz.func209 rfl rfl ?_
 show SX _ _ _ _ _ _ _ _ _ (AL b1 (.cells #[.slice (some ⟨b,off,none⟩) l.length cap] 37)::AL b2 (.cells #[vI 4] 3)::((rc::G0)++T))
 refine Y (U E (V (AP ?_)))
 refine SX.mono (BG (α:=Nat×List AX) (fun x=>4*x.1≤l.length+3∧J9 (KJ b off l x.1) x.2) (fun x=>[(0,vY lp),(1,vP b1 0),(2,vP b2 0),(4,vI ((4*x.1:Nat):Int))])
  (fun x=>AL b1 (.cells #[.slice (some ⟨b,off,none⟩) l.length cap] 37)::AL b2 (.cells #[vI 4] 3)::(x.2++T)) (fun x=>l.length-x.1) (fun x D hp=>?_) (0,rc::G0) ⟨by omega,h0⟩) tL
 obtain⟨k,G⟩:=x
 obtain⟨hk,hJ⟩:=hp
 dsimp only at hk hJ ⊢
 refine AH (Y (J E (AG 0 FT E (H4 E Cq E (Z E A4 (V ?_))))))
 refine Av E (fun hc1=>?_) (fun hc1=>?_)
 have hlt:4*k<l.length:=by
  have:=of_decide_eq_true hc1
  omega
 clear hc1
 obtain⟨suf,hsp⟩:=XK b off l k hlt
 refine AJ (AI (AH (AP (AH (Aw DC [0,1] (Cz [(true,0),(true,1),(true,2),(true,3),(true,4),(true,5),(true,6)]) zK (AG 1 FG E (AG 0 FT E (J E (Wj (4*k) E Cq DX E E E zO zO (H4 E Cq E (T7 E E E (U E (V (Y ?_))))))))))))))
 refine J E (AG 0 FT E (J E (J E (J E (Z E (Bb zO zO) (J E (J E ?_)))))))
 refine Z E (Bb zO zO) (lz (4*k) (min (4*k+4) l.length) E Cq DX E E E E E zO zO zO zO ?_)
 refine HM (M2:=[_,_]) (G:=G) (T:=T) (vs:=[_]) (ok:=fun G1=>J9 (KJ b off l (k+1)) G1) (no:=X) E E ⟨E,zT⟩ E ?_ (fun bb G1 hG1=>⟨zT,?_⟩)
 intro M
 have:=hy (KJ b off l k) (SD b off l k) suf hsp G hJ M
 rw[←YW]at this
 exact this
 refine CS E E (V ?_)
 refine Av E (fun hc3=>?_) (fun hc3=>?_)
 obtain rfl:bb=false:=by simpa using hc3
 refine AK (A8 (Ab (Dz (A8 ?_))))
 exact Ag (Dg E) (Af (M:=G1) (.inr hG1) fun _ h=>h.skip [_,_])
 obtain rfl:bb=true:=by simpa using hc3
 refine AJ (Am (AI (AQ (J E (AG 1 FG E (Z E (Bb zO zO) ?_))))))
 refine Al (u:=vI ((4*(k+1):Nat):Int)) E E (congrArg vI zO) ?_
 refine AZ ?_
 exact Au (k+1,G1) ⟨by omega,hG1⟩ (by dsimp only;omega) tL (BM [0,1] 2 E E E)
 have hge:l.length≤4*k:=by
  have:=of_decide_eq_false hc1
  omega
 have hkk:(l.length+3) / 4=k:=zO
 refine Ax (A3 (BZ (A5 ?_)))
 exact C8 (Dg E) (Af (M:=G) (.inl (by rw[LE,hkk];exact hJ)) fun _ h=>h.skip [_,_])
end

section
variable {K:Nat→Prop}{w0:World}{H:List AX}
theorem dZ{α:Type}{by_:Nat}{xs:List α}{x:α}(h:xs.length+1≤1048576)(hb:by_≤1024):DM by_ xs [x]=some (xs++[x]):=by
 have h1:(xs.length+1)*by_≤1048576*1024:=Nat.mul_le_mul h hb
 rw[DM,if_pos ⟨by simp only[List.length_cons,List.length_nil,Nat.zero_add];omega,by simp only[List.length_cons,List.length_nil,Nat.zero_add];omega⟩]
theorem hY(a:Lt)(u:Value)(h:u∈I1 a):u.oneCell'=true:=by
 obtain rfl:u=a.1.val:=by simpa[I1]using h
 rfl
theorem lM{v:Value}:zC K w0 164 [v,vI 4] [] H (fun u M=>∃b1 b2:Nat,u=.func (.func 209) #[] #[vP b1 0,vP b2 0]∧M=[AL b1 (.cells v.cells 37),AL b2 (.cells #[vI 4] 3)]):=by
 refine TP.enter Tryz.func164 rfl rfl ?_
 refine Y ?_
 refine Ba E E zU fun b1=>?_
 refine Ba E E zU fun b2=>?_
 refine U E (V (AH (Y (AG 0 FG E (Z E A4 (V (Cx E (AJ (AI (Y ?_))))))))))
 refine Gz (fv:=#[]) (cv:=#[_,_]) E E E ?_
 refine U E (V (AK ?_))
 exact Bo [1,0] 2 (Ck E E) E E ⟨_,_,E,E⟩
theorem bB{f:FuncId}{cap:List Value}{Hit:List AX}{xs:List Lt}(hcal:AM Tryz.prog f=true)(hn:xs.length≤1048576)(hseq:∀G0,Ns Tryz.prog K w0 f cap Hit G0 I1 xs):
  zC K w0 208 [.slice none 0 0,.func (.func f) #[] cap.toArray] Hit H (fun u M=>∃v0:Value,u=v0∧M=[AD 37 1 v0 I1 xs]):=by
 refine TP.enter Tryz.func208 rfl rfl ?_
 refine Y ?_
 refine Ba E E zU fun b0=>?_
 refine U E (V (bX 37 1 I1 (SX.pick [1,0] 2 (AH (Y (J E (V (AP ?_))))))))
 refine SX.heap (MB (enc:=I1) xs (G0:=AL b0 (.cells #[zN] 268)::AD 37 1 zN I1 []::H) (fun pre G=>∃vr:Value,G=AL b0 (.cells #[vr] 268)::AD 37 1 vr I1 pre::H) (fun _ _=>False) E hcal E zV (hseq _) E ⟨_,E⟩ (fun pre x suf G hxs hJ r lp Rest=>?_) (fun G D hJ=>?_) (fun c G D hX=>hX.elim)) (fun _ hw=>F3 (A:=[_,_]) (B:=Hit) (R:=H) hw)
 obtain⟨vr,rfl⟩:=hJ
 have hlen:pre.length+1≤1048576:=by
  have:=congrArg List.length hxs
  simp only[List.length_append,List.length_cons]at this
  omega
 refine AQ (U E (AZ ?_))
 refine KT (G:=AL b0 (.cells #[vr] 268)::AD 37 1 vr I1 pre::H) ?_
 refine AP (AQ (AG 0 ak E (J E ?_)))
 refine B9 [_] rfl VY JG dM ⟨rfl,trivial⟩ rfl rfl rfl (by intro v hv;simp only[List.mem_cons,List.not_mem_nil,or_false]at hv;rcases hv with rfl;rfl) rfl rfl zU fun b1=>?_
 refine CA I1 1 ([x]:List Lt) E zV E ?_
 refine Co 2 (dZ hlen (by decide:24≤1024)) (sz:=1) (enc:=I1) zV E VY JG rU dM E zD E E E E (CH (sz:=1) (enc:=I1) 0 zV E) hY zU fun v3=>?_
 refine Cs 2 E fun hv3 ho3=>?_
 refine Dt 1 E E E E qp hv3 ho3 E zT (AZ (Am ?_))
 exact H5 ⟨v3,E⟩ (BM [1,2] 3 E E E)
 obtain⟨vr,rfl⟩:=hJ
 refine Am (AI (Y (AG 0 ak E (U E (V (AK ?_))))))
 exact Bo [1] 2 (Ck E E) E E ⟨_,E,E⟩
theorem e9{f:FuncId}{cap:List Value}{Hit:List AX}{xs:List Lt}(hcal:AM Tryz.prog f=true)(hn:xs.length≤1048576)(hseq:∀G0,Ns Tryz.prog K w0 f cap Hit G0 I1 xs):
  zC K w0 163 [.func (.func f) #[] cap.toArray] Hit H (fun u M=>∃v0:Value,u=v0∧M=[AD 37 1 v0 I1 xs]):=by
 refine TP.enter Tryz.func163 rfl rfl ?_
 refine Y (U E (V (Y (J E ?_))))
 refine Bd (vs:=[_,_]) (Hin:=Hit) (Hr:=_) E E ⟨E,E,zT⟩ nO E E (bB hcal hn hseq) ?_
 rintro v1 _ ⟨_,rfl,rfl⟩
 refine⟨trivial,?_⟩
 refine U E (V (AK ?_))
 exact Bo [0] 1 (Ck E E) E E ⟨_,E,E⟩
end

section
variable {K:Nat→Prop}{w0:World}{H:List AX}
def E1{α:Type}(xs:List α):List (Int×α):=(xs.zipIdx.map fun p=>((p.2:Int),p.1)).reverse
theorem JI{α:Type}(xs:List α):(E1 xs).length=xs.length:=by simp[E1]
theorem Ws{α:Type}(xs:List α)(k:Nat)(h:k<xs.length):(E1 xs)[k]'(by rw[JI];exact h)=(((xs.length-1-k:Nat):Int),xs[xs.length-1-k]' zO):=by
 simp[E1,List.getElem_reverse,List.getElem_map,List.getElem_zipIdx]
theorem ZA{α:Type}(ys:List α)(k:Nat)(h:k<ys.length):ys=ys.take k++ys[k]::ys.drop (k+1):=by
 rw[←List.drop_eq_getElem_cons h,List.take_append_drop]
theorem X4{α:Type}(ys:List α)(k:Nat)(h:k<ys.length):ys.take k++[ys[k]]=ys.take (k+1):=by
 rw[List.take_add_one,List.getElem?_eq_getElem h]
 rfl
def kB(a:Int×Lt):List Value:=[vI a.1,a.2.1.val]
theorem oL{bx:Nat}{va:Value}{xs:List Lt}{G0:List AX}(hn:xs.length≤1048576):
  Ns Tryz.prog K w0 210 [vP bx 0] [AL bx (.cells #[va] 268),AD 37 1 va I1 xs] G0 kB (E1 xs):=by
 intro lp J9 X T rc hy h0
 refine TP.enter Tryz.func210 rfl rfl ?_
 show SX _ _ _ _ _ _ _ _ _ (AL bx (.cells #[va] 268)::AD 37 1 va I1 xs::((rc::G0)++T))
 refine Y ?_
 refine Cs 1 E fun hva hoa=>?_
 refine AG 0 ak E (Dh 1 E VY E E (Z E (Dx zO zO) (U E (V (AP ?_)))))
 refine SX.mono (BG (α:=Nat×List AX) (fun x=>x.1≤xs.length∧J9 ((E1 xs).take x.1) x.2) (fun x=>[(0,vY lp),(1,vP bx 0),(3,vI ((xs.length:Int)-1-(x.1:Int)))])
  (fun x=>AL bx (.cells #[va] 268)::AD 37 1 va I1 xs::(x.2++T)) (fun x=>xs.length-x.1) (fun x D hp=>?_) (0,rc::G0) ⟨Nat.zero_le _,h0⟩) (by simpa using tL)
 obtain⟨k,G⟩:=x
 obtain⟨hk,hJ⟩:=hp
 dsimp only at hk hJ ⊢
 refine AH (Y (J E (Z E Js (V ?_))))
 refine Av E (fun hc1=>?_) (fun hc1=>?_)
 have hlt:k<xs.length:=by
  have:=of_decide_eq_true hc1
  omega
 clear hc1
 have hb:k<(E1 xs).length:=by rw[JI];exact hlt
 have hget:=Ws xs k hlt
 have hx:BA xs ((xs.length:Int)-1-(k:Int))=some (xs[xs.length-1-k]' zO):=by
  rw[BA,if_pos zO,show((xs.length:Int)-1-(k:Int)).toNat=xs.length-1-k by omega]
  exact List.getElem?_eq_getElem _
 refine AJ (AI (AH (AP (Y (J E (J E (AG 0 ak E (J E ?_))))))))
 refine CG 1 hx E VY JG E E E fun g1 m1 cp1 hv1=>?_
 refine Bq E FT E (B7 (sz:=1) (enc:=I1) 1 0 zV E hv1 hx E) ?_
 refine HM (M2:=[_,_]) (G:=G) (T:=T) (vs:=[_,_]) (ok:=fun G1=>J9 ((E1 xs).take (k+1)) G1) (no:=X) E E ⟨E,E,zT⟩ E ?_ (fun bb G1 hG1=>⟨zT,?_⟩)
 intro M
 have:=hy ((E1 xs).take k) ((E1 xs)[k]) ((E1 xs).drop (k+1)) (ZA _ k hb) G hJ M
 rw[X4 _ k hb,hget]at this
 rw[show((xs.length:Int)-1-(k:Int))=((xs.length-1-k:Nat):Int) by omega]
 exact this
 refine CS E E (V ?_)
 refine Av E (fun hc3=>?_) (fun hc3=>?_)
 obtain rfl:bb=false:=by simpa using hc3
 refine AK (A8 (Ab (Dz (A8 ?_))))
 exact Ag (Dg E) (Af (M:=G1) (.inr hG1) fun _ h=>h.skip [_,_])
 obtain rfl:bb=true:=by simpa using hc3
 refine AJ (Am (AI (AQ (J E (Z E (Dx zO zO) ?_)))))
 refine Al (u:=vI ((xs.length:Int)-1-((k+1:Nat):Int))) E E (congrArg vI zO) ?_
 refine AZ ?_
 exact Au (k+1,G1) ⟨hlt,hG1⟩ (by dsimp only;omega) tL (BM [0,1] 2 E E E)
 have hge:k=xs.length:=by
  have:=of_decide_eq_false hc1
  omega
 subst hge
 rw[List.take_of_length_le (by rw[JI];exact Nat.le_refl _)]at hJ
 refine Ax (A3 (BZ (A5 ?_)))
 exact C8 (Dg E) (Af (M:=G) (.inl hJ) fun _ h=>h.skip [_,_])
theorem oV{va:Value}(hva:va.cells=#[va]):zC K w0 165 [va] [] H (fun u M=>∃bx:Nat,u=.func (.func 210) #[] #[vP bx 0]∧M=[AL bx (.cells #[va] 268)]):=by
 refine TP.enter Tryz.func165 rfl rfl ?_
 refine Y ?_
 refine Ba E E zU fun b1=>?_
 rw[hva]
 refine U E (V (Y ?_))
 refine Gz (fv:=#[]) (cv:=#[_]) E E E ?_
 refine U E (V (AK ?_))
 exact Bo [0] 1 (Ck E E) E E ⟨_,E,E⟩
end

section
variable {K:Nat→Prop}{w0:World}{H:List AX}
theorem Wt{α:Type}(xs:List α):(E1 xs).map (·.2)=xs.reverse:=by
 rw[E1,List.map_reverse,List.map_map]
 congr 1
 have:((fun x:Int×α=>x.2)∘fun p:α×Nat=>((p.2:Int),p.1))=Prod.fst:=rfl
 rw[this,List.zipIdx_map_fst]
def OX(v:Value)(l:List Ao):List Lt:=
 match v,l with
 | _,[]=>[(⟨none,0,0⟩,[])]
 | .slice (some a) _ _,l=>LE a.block a.off l
 | _,l=>[]
theorem U5(v:Value):OX v []=[(⟨none,0,0⟩,[])]:=by cases v<;>rfl
theorem OY{b off n c:Nat}{l:List Ao}(h:l≠[]):OX (.slice (some ⟨b,off,none⟩) n c) l=LE b off l:=by
 cases l with
 | nil=>exact absurd rfl h
 | cons _ _=>rfl
theorem ja{v:Value}{l:List Ao}(h:B6 K w0 AY 4 v l):∀a∈OX v l,B6 K w0 AY 4 a.1.val a.2:=by
 by_cases hl:l=[]
 subst hl
 rw[U5]
 intro a ha
 obtain rfl:=List.mem_singleton.1 ha
 exact⟨h.len,.inl ⟨_,rfl,rfl⟩⟩
 rcases h.at_ with⟨_,_,e⟩ | ⟨b,off,cap,rfl,hc,hcell⟩
 exact absurd e hl
 rw[OY hl]
 exact cD h
theorem Y2{b1 b2:Nat}{a:Option Addr}{G0:List AX}:
  Ns Tryz.prog K w0 209 [vP b1 0,vP b2 0] [AL b1 (.cells #[.slice a 0 0] 37),AL b2 (.cells #[vI 4] 3)] G0 I1 []:=by
 intro lp J9 X T rc hy h0
 refine TP.enter Tryz.func209 rfl rfl ?_
 show SX _ _ _ _ _ _ _ _ _ (AL b1 (.cells #[.slice a 0 0] 37)::AL b2 (.cells #[vI 4] 3)::((rc::G0)++T))
 refine Y (U E (V (AP ?_)))
 refine SX.mono (BG (α:=Unit) (fun _=>True) (fun _=>[(0,vY lp),(1,vP b1 0),(2,vP b2 0),(4,vI 0)])
  (fun _=>AL b1 (.cells #[.slice a 0 0] 37)::AL b2 (.cells #[vI 4] 3)::((rc::G0)++T)) (fun _=>0) (fun x D hp=>?_) () trivial) tL
 refine AH (Y (J E (AG 0 FT E (H4 E Cq E (Z E A4 (V (Cx E (Ax (A3 (BZ (A5 ?_)))))))))))
 exact C8 (Dg E) (Af (M:=rc::G0) (.inl h0) fun _ h=>h.skip [_,_])
def HR(v:Value)(l:List Ao):List Lt:=if l=[]then[]else OX v l
theorem ib{b1 b2:Nat}{v:Value}{l:List Ao}(hl:l.length≤1048576)(hs:B6 K w0 AY 4 v l)(G0:List AX):
  Ns Tryz.prog K w0 209 [vP b1 0,vP b2 0] [AL b1 (.cells v.cells 37),AL b2 (.cells #[vI 4] 3)] G0 I1 (HR v l):=by
 by_cases h0:l=[]
 subst h0
 rw[HR,if_pos rfl]
 rcases hs.at_ with⟨a,rfl,_⟩ | ⟨b,off,cap,rfl,_⟩
 exact Y2
 rcases hs.at_ with⟨a,e,_⟩ | ⟨b',off',cap',e,hc,hcell⟩
 rw[e]
 exact Y2
 have:=cl (G0:=G0) (b1:=b1) (b2:=b2) (cap:=cap) hl hs zS
 exact this
 rcases hs.at_ with⟨_,_,e⟩ | ⟨b,off,cap,rfl,hc,hcell⟩
 exact absurd e h0
 rw[HR,if_neg h0,OY h0]
 exact cl hl hs hc
theorem RC(b off:Nat)(l:List Ao):(LE b off l).length=(l.length+3) / 4:=by simp[LE,KJ]
theorem WG{v:Value}{l:List Ao}(hs:B6 K w0 AY 4 v l)(hl:l.length≤1048576):(HR v l).length≤1048576:=by
 by_cases h0:l=[]
 rw[HR,if_pos h0];simp
 rcases hs.at_ with⟨_,_,e⟩ | ⟨b,off,cap,rfl,hc,hcell⟩
 exact absurd e h0
 rw[HR,if_neg h0,OY h0,RC]
 omega
theorem Wp{v:Value}{l:List Ao}(hs:B6 K w0 AY 4 v l):(if(HR v l).length=0 then[((⟨none,0,0⟩:Wn),([]:List Ao))]else HR v l)=OX v l:=by
 by_cases h0:l=[]
 subst h0
 rw[HR,if_pos rfl,U5]
 rfl
 rcases hs.at_ with⟨_,_,e⟩ | ⟨b,off,cap,rfl,hc,hcell⟩
 exact absurd e h0
 have hp:0<l.length:=List.length_pos_iff.2 h0
 rw[HR,if_neg h0,OY h0,if_neg (by rw[RC];omega)]
end

section
variable {K:Nat→Prop}{w0:World}{H:List AX}
theorem B6.one{α:Type}{enc:α→List Value}{sz:Nat}{v:Value}{xs:List α}(h:B6 K w0 enc sz v xs):v.cells=#[v]:=by
 rcases h.at_ with⟨_,rfl,_⟩ | ⟨_,_,_,rfl,_⟩<;>rfl
theorem ic{bx:Nat}{v:Value}{l:List Ao}{G0:List AX}(hl:l.length≤1048576)(hs:B6 K w0 AY 4 v l):
  Ns Tryz.prog K w0 162 [vP bx 0] [AL bx (.cells #[v] 37)] G0 I1 (OX v l).reverse:=by
 intro lp J9 X T rc hy h0
 refine TP.enter Tryz.func162 rfl rfl ?_
 show SX _ _ _ _ _ _ _ _ _ (AL bx (.cells #[v] 37)::((rc::G0)++T))
 have hlen:=WG hs hl
 refine Y ?_
 refine Ba E E zU fun b0=>?_
 refine V (Y (AG 1 FT E (BN 0 mq lM E ?_)))
 rintro _ _ ⟨b1,b2,rfl,rfl⟩
 refine Bd (vs:=[_]) (Hin:=[_,_]) (Hr:=_::_::_) E E ⟨E,zT⟩ mo E E (e9 (cap:=[vP b1 0,vP b2 0]) nP hlen (fun G0=>ib hl hs G0)) ?_
 rintro va _ ⟨_,rfl,rfl⟩
 refine⟨trivial,?_⟩
 refine U E (V ?_)
 refine A6 (α:=Value×List Lt) (fun x=>x.2=OX v l) (fun x=>[(0,vY lp),(2,vP b0 0),(3,x.1)]) (fun x=>AD 37 1 x.1 I1 x.2::AL b0 (.cells #[vY lp] 48)::((rc::G0)++T)) ?_ (fun x D hx=>?_)
 refine Y (J E (Dh 0 E VY E E (Z E Bj (V ?_))))
 refine Av E (fun hc1=>?_) (fun hc1=>?_)
 have hz:(HR v l).length=0:=by
  have:=of_decide_eq_true hc1
  omega
 refine AQ ?_
 refine B9 [_] E VY JG dM ⟨E,zT⟩ E E E zX E E zU fun b3=>?_
 refine CA I1 1 ([(⟨none,0,0⟩,[])]:List Lt) E zV E ?_
 refine U E (AZ ?_)
 exact Ap (.slice (some ⟨b3,0,none⟩) 1 1,[(⟨none,0,0⟩,[])]) (show([(⟨none,0,0⟩,[])]:List Lt)=OX v l by rw[←Wp hs,if_pos hz]) tL (BM [0,2] 4 E E E)
 have hz:¬(HR v l).length=0:=by
  have:=of_decide_eq_false hc1
  omega
 refine AJ ?_
 exact Ap (va,HR v l) (show HR v l=OX v l by rw[←Wp hs,if_neg hz]) tL (BM [0,1] 3 E E E)
 obtain⟨va,xs⟩:=x
 have hx:xs=OX v l:=hx
 have hxn:xs.length≤1048576:=by
  rw[hx,←Wp hs]
  split
  simp
  exact hlen
 rw[←hx]at hy ⊢
 clear hx
 try dsimp only
 refine Y ?_
 refine Wi 0 E fun sv hsv=>?_
 refine J E ?_
 refine BN 0 mr (oV (va:=va) (by rw[hsv];rfl)) E ?_
 rintro _ _ ⟨b4,rfl,rfl⟩
 refine V (AP ?_)
 refine MB (enc:=kB) (E1 xs) (Hit:=[_,_]) (G0:=AL b0 (.cells #[vY lp] 48)::((rc::G0)++T)) (fun pre Gx=>∃G,J9 (pre.map (·.2)) G∧Gx=AL b0 (.cells #[vY lp] 48)::(G++T)) (fun c Gx=>c=.ret∧∃G,X G∧Gx=AL b0 (.cells #[vY lp] 48)::(G++T)) E nQ E zV (oL hxn) E ⟨rc::G0,h0,E⟩ (fun pre x suf Gx hxs hJ r lr Rest=>?_) (fun Gx D hJ=>?_) (fun c Gx D hX=>?_)
 obtain⟨G,hJ,rfl⟩:=hJ
 refine AQ (U E (AZ ?_))
 refine KT (G:=AL b0 (.cells #[vY lp] 48)::(G++T)) ?_
 refine AP (Y (AG 0 sB E (J E ?_)))
 refine HM (M2:=[AL b0 (.cells #[vY lp] 48)]) (G:=G) (T:=T++Tl r lr Rest .busy) (vs:=[_]) (ok:=fun G1=>J9 ((pre++[x]).map (·.2)) G1) (no:=X) E E ⟨E,zT⟩ (by simp[List.append_assoc]) ?_ (fun bb G1 hG1=>⟨zT,?_⟩)
 intro M
 have hsp:xs.reverse=pre.map (·.2)++x.2::suf.map (·.2):=by
  rw[←Wt,hxs,List.map_append,List.map_cons]
 have:=hy (pre.map (·.2)) x.2 (suf.map (·.2)) hsp G hJ M
 rw[List.map_append,List.map_cons,List.map_nil]
 exact this
 refine CS E E (V ?_)
 refine Av E (fun hc2=>?_) (fun hc2=>?_)
 obtain rfl:bb=false:=by simpa using hc2
 refine AK (A8 ?_)
 exact jT ⟨E,G1,hG1,E⟩ (fun _ hw=>by simpa[List.append_assoc]using hw)
 obtain rfl:bb=true:=by simpa using hc2
 refine AJ (Am ?_)
 exact H5 ⟨G1,hG1,E⟩ (fun _ hw=>by simpa[List.append_assoc]using hw)
 obtain⟨G,hJ,rfl⟩:=hJ
 rw[Wt]at hJ
 refine Am ?_
 exact C8 (Dg E) (Af (M:=G) (.inl hJ) fun _ h=>h.skip [_])
 obtain⟨rfl,G,hX,rfl⟩:=hX
 refine AK (A8 ?_)
 exact Ag (Dg E) (Af (M:=G) (.inr hX) fun _ h=>h.skip [_])
theorem i4{v:Value}(hv:v.cells=#[v]):zC K w0 131 [v] [] H (fun u M=>∃bx:Nat,u=.func (.func 162) #[] #[vP bx 0]∧M=[AL bx (.cells #[v] 37)]):=by
 refine TP.enter Tryz.func131 rfl rfl ?_
 refine Y ?_
 refine Ba E E zU fun b1=>?_
 rw[hv]
 refine U E (V (Y ?_))
 refine Gz (fv:=#[]) (cv:=#[_]) E E E ?_
 refine U E (V (AK ?_))
 exact Bo [0] 1 (Ck E E) E E ⟨_,E,E⟩
end

section
variable {K:Nat→Prop}{w0:World}{H:List AX}
theorem EO.mid:∀ {Hs A B R:List AX},EO Hs A→EO Hs (B++(A++R))
 | [],_,_,_,_=>trivial
 | c::r,A,B,R,⟨⟨i,hi⟩,h⟩=>⟨⟨B.length+i,by
   have hlt:=(List.getElem?_eq_some_iff.1 hi).1
   rw[List.getElem?_append_right zO,Nat.add_sub_cancel_left,List.getElem?_append_left hlt,hi]⟩,EO.mid h⟩
theorem dR{k:AX}{A B R M:List AX}{w:World}(h:BT K w0 ((k::(A++(B++R)))++M) w):BT K w0 ((k::(B++(A++R)))++M) w:=by
 refine h.perm (List.Perm.append_right _ (List.Perm.cons _ ?_))
 rw[←List.append_assoc,←List.append_assoc]
 exact List.Perm.append_right _ List.perm_append_comm
theorem Wm{α:Type}{enc:α→List Value}{sz:Nat}(hl:∀x,(enc x).length=sz):B6 K w0 enc sz zN []:=⟨hl,.inl ⟨_,rfl,rfl⟩⟩
def N0(l:List Ao):List (List Ao):=if l=[]then[[]]else(List.range ((l.length+3) / 4)).map fun i=>(l.drop (4*i)).take (min (4*i+4) l.length-4*i)
theorem bZ{v:Value}{l:List Ao}(h:B6 K w0 AY 4 v l):(OX v l).map (·.2)=N0 l:=by
 by_cases hl:l=[]
 subst hl
 rw[U5]
 rfl
 rcases h.at_ with⟨_,_,e⟩ | ⟨b,off,cap,rfl,hc,hcell⟩
 exact absurd e hl
 rw[OY hl,N0,if_neg hl,LE,KJ,List.map_map]
 rfl
def Kr{σ:Type}(rec_:CU→Kx→σ→Option (BS×(Kx×σ))):List CU→Kx→σ→List BS→Option (List BS×(Kx×σ))
 | [],p,q,acc=>some (acc,(p,q))
 | k::ks,p,q,acc=>(rec_ k p q).bind fun y=>(DM 24 acc [y.1]).bind fun acc'=>Kr rec_ ks y.2.1 y.2.2 acc'
def OM{σ:Type}(n:Nat)(wh:V6 σ):List (List Ao)→BS→Kx→σ→Option (BS×(Kx×σ))
 | [],r,p,q=>some (r,(p,q))
 | l::ls,r,p,q=>(Jp n wh ⟨1,0,0,0,l,[],r.page,r.tag⟩ p q).bind fun y=>cond (!decide (y.2.1.wrong=0)) (some y) (OM n wh ls y.1 y.2.1 y.2.2)
def H3{σ:Type}(n:Nat)(wh:V6 σ):Nat→CU→Kx→σ→Option (BS×(Kx×σ))
 | 0,_,_,_=>none
 | f+1,t,p,q=>if 1048576<t.rows.length∨1048576<t.kids.length then none else cond (decide (0<(t.kids.length:Int)))
   ((Kr (H3 n wh f) t.kids p q []).bind fun y=>Jp n wh ⟨2,t.cx,t.cy,t.lev,[],y.1,0,[]⟩ y.2.1 y.2.2)
   (OM n wh (N0 t.rows).reverse ⟨0,[]⟩ p q)
theorem Q7{σ:Type}{C:Value→σ→List AX}{wh:V6 σ}{fid:FuncId}{cs:Array Value}{T:List UInt32}{n bp:Nat}(hcal:AM Tryz.prog fid=true)(hwh:dV T fid cs C wh):
  ∀(f:Nat) {K:Nat→Prop} {w0:World} {H:List AX} {vo ca:Value} {a:Ff} {t:CU} {p:Kx} {q:σ} {r:BS×(Kx×σ)},GM K w0 T→H3 n wh f t p q=some r→PD K w0 a t→
  zC K w0 94 [vP bp 0,.agg (Cp a).toArray] (LT bp (.func (.func fid) #[] cs) vo p::AD 190 3 vo AU p.out::C ca q) H
   (fun u M=>u=.agg (Bt r.1).toArray∧∃vo' ca',M=LT bp (.func (.func fid) #[] cs) vo' r.2.1::AD 190 3 vo' AU r.2.1.out::C ca' r.2.2)
 | 0,K,w0,H,vo,ca,a,t,p,q,r,hS,h,hN=>by cases h
 | f+1,K,w0,H,vo,ca,a,t,p,q,r,hS,h,hN=>by
  have h:(if 1048576<t.rows.length∨1048576<t.kids.length then none else cond (decide (0<(t.kids.length:Int)))
   ((Kr (H3 n wh f) t.kids p q []).bind fun y=>Jp n wh ⟨2,t.cx,t.cy,t.lev,[],y.1,0,[]⟩ y.2.1 y.2.2)
   (OM n wh (N0 t.rows).reverse ⟨0,[]⟩ p q))=some r:=h
  split at h
  cases h
  rename_i hbig
  have hrl:t.rows.length≤1048576:=zO
  have hkl:t.kids.length≤1048576:=zO
  clear hbig
  obtain⟨rv,kv,rfl,hr,hk⟩:=hN.parts
  refine TP.enter Tryz.func94 rfl rfl ?_
  show SX _ _ _ _ _ _ _ _ _ (LT bp (.func (.func fid) #[] cs) vo p::AD 190 3 vo AU p.out::(C ca q++H))
  refine Y ?_
  refine Ba E E zU fun b0=>?_
  refine Ba E E zU fun b1=>?_
  refine Ak E FB zU fun b2=>?_
  refine V (KV (AH (Y (AF E KD (AG 1 Tt E (Ya hk E N4 E (Z E Ci (V ?_))))))))
  refine AN h E (fun hc1 h=>?_) fun hc1 h=>?_
  refine Y (AF rfl QB (Aq [AA t.cx,AA t.cy,vI t.lev] rfl FU rfl rfl (Cj 1 rfl (by rintro(_ | (_ | (_ | j))) u hj<;>first | exact hj | exact absurd hj zS)) (B0 [_,_] rfl eV eU bF ⟨rfl,rfl,trivial⟩ rfl ?_)))
  refine Ak E bF zU fun b3=>?_
  refine A2 0 E E E E qm E E E zT (Nd 0 (AL b3 (.cells #[vI 2,AA t.cx,AA t.cy,vI t.lev,zN,zN,AA 0,vS []] 238)) (B5 188 2 Bt (V (AH (Y (AF E KD (AG 3 Tt E (Ya hk E N4 E (J E (V (AP ?_)))))))))))
  refine SX.heap (SX.mono (BG (α:=Nat×List BS×Value×Kx×σ×Value×Value) (fun x=>x.1≤t.kids.length∧((Kr (H3 n wh f) (t.kids.drop x.1) x.2.2.2.1 x.2.2.2.2.1 x.2.1).bind fun y=>Jp n wh ⟨2,t.cx,t.cy,t.lev,[],y.1,0,[]⟩ y.2.1 y.2.2)=some r)
   (fun x=>[(2,vP b0 0),(4,vP b2 0),(5,vP b3 0),(18,kv.val),(19,vI (t.kids.length:Int)),(20,vI (x.1:Int))])
   (fun x=>AL b3 (.cells #[vI 2,AA t.cx,AA t.cy,vI t.lev,zN,x.2.2.1,AA 0,vS []] 238)::AD 188 2 x.2.2.1 Bt x.2.1::AL b2 (.cells #[AA 0,vS []] 188)::AL b0 (.cells #[vP bp 0] 191)::LT bp (.func (.func fid) #[] cs) x.2.2.2.2.2.1 x.2.2.2.1::AD 190 3 x.2.2.2.2.2.1 AU x.2.2.2.1.out::(C x.2.2.2.2.2.2 x.2.2.2.2.1++H))
   (fun x=>t.kids.length-x.1) (fun x D hp=>?_) (0,[],zN,p,q,vo,ca) ⟨Nat.zero_le _,h⟩) tL) (BM [1,0,2,4,5,6] 7 rfl rfl rfl)
  clear h
  obtain⟨i,ks,vk,p1,q1,vo1,ca1⟩:=x
  obtain⟨hi,h⟩:=hp
  dsimp only at hi h ⊢
  refine Y (Z E A4 (V (AH ?_)))
  refine Av E (fun hc2=>?_) (fun hc2=>?_)
  have hlt:i<t.kids.length:=by
   have:=of_decide_eq_true hc2
   omega
  clear hc2
  have hnth:BA t.kids (i:Int)=some t.kids[i]:=by
   rw[BA,if_pos zO]
   exact List.getElem?_eq_getElem hlt
  rw[List.drop_eq_getElem_cons hlt,Kr]at h
  refine AE h fun z hz h=>?_
  obtain⟨y,hy,hz⟩:=E3 hz
  obtain⟨ac,hac,hz⟩:=E3 hz
  have h2:((Kr (H3 n wh f) (t.kids.drop (i+1)) y.2.1 y.2.2 ac).bind fun y=>Jp n wh ⟨2,t.cx,t.cy,t.lev,[],y.1,0,[]⟩ y.2.1 y.2.2)=some r:=by
   rw[hz];exact h
  refine AJ (AI (AH (AP (Y ?_))))
  refine jF hnth hk E N4 IV E E fun b5 of5 rv5 kv5 hr5 hk5 hc5=>?_
  obtain⟨rs5,rfl⟩:=hr5.slv
  obtain⟨kk5,hk51,hk52⟩:=hk5
  obtain⟨ks5,rfl⟩:=hk51.slv
  have hN5:PD K w0 ⟨t.kids[i].cx,t.kids[i].cy,t.kids[i].lev,rs5,ks5⟩ t.kids[i]:=dS hr5 ⟨kk5,hk51,hk52⟩
  refine Aq [AA t.kids[i].cx,AA t.kids[i].cy,vI t.kids[i].lev,rs5.val,ks5.val] E NB E E (DO hc5) ?_
  refine Ak E IY zU fun b4=>?_
  refine A2 0 E E E E IV E E E zT (Nd 0 (AL b4 (.cells #[AA t.kids[i].cx,AA t.kids[i].cy,vI t.kids[i].lev,rs5.val,ks5.val] 167)) (V (Aw DC [0,1,4] (CF [(true,0),(true,1),(true,2),(true,3),(false,4),(false,5),(false,6),(true,7)] (.last 8 .nil)) zK (AF E Fm (AG 1 K9 E (AG 2 aj E (Aq [AA t.kids[i].cx,AA t.kids[i].cy,vI t.kids[i].lev,rs5.val,ks5.val] E NB E E (Aj 0 E) ?_)))))))
  refine SL.heap ?_ (fun _ hw=>F3 (A:=[AL b4 (.cells #[AA t.kids[i].cx,AA t.kids[i].cy,vI t.kids[i].lev,rs5.val,ks5.val] 167),AL b3 (.cells #[vI 2,AA t.cx,AA t.cy,vI t.lev,zN,vk,AA 0,vS []] 238),AD 188 2 vk Bt ks,AL b2 (.cells #[AA 0,vS []] 188),AL b0 (.cells #[vP bp 0] 191)]) (B:=LT bp (.func (.func fid) #[] cs) vo1 p1::AD 190 3 vo1 AU p1.out::C ca1 q1) (R:=H) hw)
  have hcon:=Q7 (bp:=bp) hcal hwh f (ca:=ca1) (K:=K) (w0:=w0) (H:=([AL b4 (.cells #[AA t.kids[i].cx,AA t.kids[i].cy,vI t.kids[i].lev,rs5.val,ks5.val] 167),AL b3 (.cells #[vI 2,AA t.cx,AA t.cy,vI t.lev,.slice none 0 0,vk,AA 0,vS []] 238),AD 188 2 vk Bt ks,AL b2 (.cells #[AA 0,vS []] 188),AL b0 (.cells #[vP bp 0] 191)]++H)++[BO D]) (vo:=vo1) hS hy hN5
  generalize hpo:(fun(u:Value) (M:List AX)=>u=.agg (Bt y.1).toArray∧∃vo' ca',M=LT bp (.func (.func fid) #[] cs) vo' y.2.1::AD 190 3 vo' AU y.2.1.out::C ca' y.2.2)=po at hcon
  refine Bd (vs:=[_,_]) (Hin:=LT bp (.func (.func fid) #[] cs) vo1 p1::AD 190 3 vo1 AU p1.out::C ca1 q1) (Hr:=[AL b4 (.cells #[AA t.kids[i].cx,AA t.kids[i].cy,vI t.kids[i].lev,rs5.val,ks5.val] 167),AL b3 (.cells #[vI 2,AA t.cx,AA t.cy,vI t.lev,zN,vk,AA 0,vS []] 238),AD 188 2 vk Bt ks,AL b2 (.cells #[AA 0,vS []] 188),AL b0 (.cells #[vP bp 0] 191)]++H) E E ⟨E,E,zT⟩ j9 E E hcon ?_
  intro u0 M0 hpost
  rw[←hpo]at hpost
  obtain⟨rfl,vo2,ca2,rfl⟩:=hpost
  refine⟨EO.mid (A:=[AL b4 (.cells #[AA t.kids[i].cx,AA t.kids[i].cy,vI t.kids[i].lev,rs5.val,ks5.val] 167),AL b3 (.cells #[vI 2,AA t.cx,AA t.cy,vI t.lev,zN,vk,AA 0,vS []] 238),AD 188 2 vk Bt ks,AL b2 (.cells #[AA 0,vS []] 188),AL b0 (.cells #[vP bp 0] 191)]) ⟨⟨0,rfl⟩,⟨1,rfl⟩,⟨4,rfl⟩,trivial⟩,?_⟩
  refine SL.heap ?_ (fun _ hw=>F3 (A:=LT bp (.func (.func fid) #[] cs) vo2 y.2.1::AD 190 3 vo2 AU y.2.1.out::C ca2 y.2.2) (B:=[AL b4 (.cells #[AA t.kids[i].cx,AA t.kids[i].cy,vI t.kids[i].lev,rs5.val,ks5.val] 167),AL b3 (.cells #[vI 2,AA t.cx,AA t.cy,vI t.lev,zN,vk,AA 0,vS []] 238),AD 188 2 vk Bt ks,AL b2 (.cells #[AA 0,vS []] 188),AL b0 (.cells #[vP bp 0] 191)]) (R:=H) hw)
  refine B9 [_] rfl Iy EX FB ⟨rfl,trivial⟩ rfl rfl rfl zW rfl rfl (fun _=>⟨⟨1,rfl⟩,⟨2,rfl⟩,⟨5,rfl⟩,trivial⟩) fun b6=>?_
  refine CA Bt 2 ([y.1]:List BS) E zV E ?_
  refine Co 3 hac (sz:=2) (enc:=Bt) zV E Iy EX pF FB E zD E E E E (CH (sz:=2) (enc:=Bt) 0 zV E) (by simp[Bt,Value.oneCell']) (fun _=>⟨⟨1,E⟩,⟨2,E⟩,⟨5,E⟩,zT⟩) fun v6=>?_
  refine AF E Fm (Bc ?_)
  refine Cs 3 E fun hv6 ho6=>?_
  refine Dt 2 E E E E ql hv6 ho6 E zT (AZ (Am (AI (AQ (Z E (Bb zO zO) (J E (AZ ?_)))))))
  exact Au (i+1,ac,v6,y.2.1,y.2.2,vo2,ca2) ⟨hlt,h2⟩ (by dsimp only;omega) tL (BM [2,3,4,5] 6 E E E)
  have hge:i=t.kids.length:=by
   have:=of_decide_eq_false hc2
   omega
  subst hge
  rw[List.drop_length,Kr]at h
  replace h:Jp n wh ⟨2,t.cx,t.cy,t.lev,[],ks,0,[]⟩ p1 q1=some r:=h
  refine Ax (A3 (BZ (A5 (AI (SX.pick [1,0,2,3] 4 (Y (AG 3 aj E (Aq [vI 2,AA t.cx,AA t.cy,vI t.lev,zN,vk,AA 0,vS []] E Wo E E (Aj 1 E) ?_))))))))
  refine SL.heap ?_ (fun _ hw=>dR (A:=[AL b3 (.cells #[vI 2,AA t.cx,AA t.cy,vI t.lev,zN,vk,AA 0,vS []] 238),AL b2 (.cells #[AA 0,vS []] 188),AL b0 (.cells #[vP bp 0] 191)]) (B:=(LT bp (.func (.func fid) #[] cs) vo1 p1::AD 190 3 vo1 AU p1.out::C ca1 q1)) (R:=H) hw)
  have hcon:=Ch (K:=K) (w0:=w0) (H:=([AL b3 (.cells #[vI 2,AA t.cx,AA t.cy,vI t.lev,.slice none 0 0,vk,AA 0,vS []] 238),AL b2 (.cells #[AA 0,vS []] 188),AL b0 (.cells #[vP bp 0] 191)]++H)++[BO D]) (f:=130) (B:=[AD 188 2 vk Bt ks]) (Hin:=(LT bp (.func (.func fid) #[] cs) vo1 p1::AD 190 3 vo1 AU p1.out::C ca1 q1)) fun K' w1 hkk hB=>Q8 (bp:=bp) (a:=ca1) (vo:=vo1) (v4:=.slice none 0 0) (v5:=vk) hcal hwh (hS.keeps hkk) h (Wm zV) (CL (e:=188) (v:=vk) zV (hB _ zS))
  refine Bd (vs:=[_,_]) (Hin:=AD 188 2 vk Bt ks::(LT bp (.func (.func fid) #[] cs) vo1 p1::AD 190 3 vo1 AU p1.out::C ca1 q1)) (Hr:=[AL b3 (.cells #[vI 2,AA t.cx,AA t.cy,vI t.lev,zN,vk,AA 0,vS []] 238),AL b2 (.cells #[AA 0,vS []] 188),AL b0 (.cells #[vP bp 0] 191)]++H) E E ⟨E,E,zT⟩ fb E E hcon ?_
  rintro _ _ ⟨_,rfl,rfl,vo2,ca2,rfl⟩
  refine⟨trivial,?_⟩
  refine SL.heap ?_ (fun _ hw=>F3 (A:=AD 188 2 vk Bt ks::LT bp (.func (.func fid) #[] cs) vo2 r.2.1::AD 190 3 vo2 AU r.2.1.out::C ca2 r.2.2) (B:=[AL b3 (.cells #[vI 2,AA t.cx,AA t.cy,vI t.lev,zN,vk,AA 0,vS []] 238),AL b2 (.cells #[AA 0,vS []] 188),AL b0 (.cells #[vP bp 0] 191)]) (R:=H) hw)
  refine A2 1 E E E E EX E E E zT (V (AK (Ab (EN ?_))))
  exact Ag (IU E (B8 1 (Bt r.1) C5 E E E E)) (Af (M:=LT bp (.func (.func fid) #[] cs) vo2 r.2.1::AD 190 3 vo2 AU r.2.1.out::C ca2 r.2.2) ⟨E,vo2,ca2,E⟩ fun _ hw=>BT.pick (H:=[_,_,_,_]) hw [] 4 E)
  refine AJ (AI (Y ?_))
  refine Ak E FB zU fun b3=>?_
  refine V (AH (KU (AI (AH (Y (AF E Ry (AG 2 FT E (BN 0 mX (i4 hr.one) E ?_))))))))
  rintro _ _ ⟨bx,rfl,rfl⟩
  refine V (AP ?_)
  have h0:OM n wh (((OX rv.val t.rows).reverse).map (·.2)) ⟨0,[]⟩ p q=some r:=by
   rw[List.map_reverse,bZ hr];exact h
  refine SX.heap (MB (enc:=I1) (OX rv.val t.rows).reverse (G0:=(AL b3 (.cells #[AA 0,vS []] 188)::AL b2 (.cells #[AA 0,vS []] 188)::AL b0 (.cells #[vP bp 0] 191)::LT bp (.func (.func fid) #[] cs) vo p::AD 190 3 vo AU p.out::(C ca q++H))) (fun pre G=>∃(x:BS) (p1:Kx) (q1:σ) (vo1 ca1:Value),(∀suf,(OX rv.val t.rows).reverse=pre++suf→OM n wh (suf.map (·.2)) x p1 q1=some r)∧G=(AL b3 (.cells #[AA x.page,vS x.tag] 188)::AL b2 (.cells #[AA 0,vS []] 188)::AL b0 (.cells #[vP bp 0] 191)::LT bp (.func (.func fid) #[] cs) vo1 p1::AD 190 3 vo1 AU p1.out::(C ca1 q1++H))) (fun c G=>c=.exit 2∧∃vo1 ca1:Value,G=(AL b3 (.cells #[AA r.1.page,vS r.1.tag] 188)::AL b2 (.cells #[AA 0,vS []] 188)::AL b0 (.cells #[vP bp 0] 191)::LT bp (.func (.func fid) #[] cs) vo1 r.2.1::AD 190 3 vo1 AU r.2.1.out::(C ca1 r.2.2++H))) E mn E zV (ic hrl hr) E ⟨⟨0,[]⟩,p,q,vo,ca,fun suf e=>by rw[←show(OX rv.val t.rows).reverse=suf from e];exact h0,E⟩ (fun pre x suf G hxs hJ lr lp Rest=>?_) (fun G D hJ=>?_) (fun c G D hX=>?_)) (BM [0,1,2,4,5,6] 7 E E E)
  obtain⟨w,p1,q1,vo1,ca1,h,rfl⟩:=hJ
  have h1:=h (x::suf) hxs
  rw[List.map_cons,OM]at h1
  obtain⟨y,hy,h1⟩:=E3 h1
  have hx:B6 K w0 AY 4 x.1.val x.2:=ja hr x (List.mem_reverse.1 (by rw[hxs];simp))
  refine AQ (U E (AZ ?_))
  refine KT (G:=AL b3 (.cells #[AA w.page,vS w.tag] 188)::AL b2 (.cells #[AA 0,vS []] 188)::AL b0 (.cells #[vP bp 0] 191)::LT bp (.func (.func fid) #[] cs) vo1 p1::AD 190 3 vo1 AU p1.out::(C ca1 q1++H)) ?_
  refine AP (Y (AG 2 aj E (J E (Aq (Bt w) E C5 E E (Aj 0 E) (B0 [_,_,_] E eV eU bF ⟨E,E,E,zT⟩ E ?_)))))
  refine SL.heap ?_ (fun _ hw=>F3 (A:=[AL b3 (.cells #[AA w.page,vS w.tag] 188),AL b2 (.cells #[AA 0,vS []] 188),AL b0 (.cells #[vP bp 0] 191)]) (B:=(LT bp (.func (.func fid) #[] cs) vo1 p1::AD 190 3 vo1 AU p1.out::C ca1 q1)) (R:=(H++Tl lr lp Rest .busy)) (by simp only[List.append_assoc,List.cons_append,List.nil_append]at hw ⊢;exact hw))
  have hcon:=Q8 (K:=K) (w0:=w0) (H:=([AL b3 (.cells #[AA w.page,vS w.tag] 188),AL b2 (.cells #[AA 0,vS []] 188),AL b0 (.cells #[vP bp 0] 191)]++(H++Tl lr lp Rest .busy))++[BO []]) (bp:=bp) (a:=ca1) (vo:=vo1) (v4:=x.1.val) (v5:=.slice none 0 0) hcal hwh hS hy hx (Wm zV)
  refine Bd (vs:=[_,_]) (Hin:=(LT bp (.func (.func fid) #[] cs) vo1 p1::AD 190 3 vo1 AU p1.out::C ca1 q1)) (Hr:=[AL b3 (.cells #[AA w.page,vS w.tag] 188),AL b2 (.cells #[AA 0,vS []] 188),AL b0 (.cells #[vP bp 0] 191)]++(H++Tl lr lp Rest .busy)) E E ⟨E,E,zT⟩ fb E E hcon ?_
  rintro _ _ ⟨rfl,vo2,ca2,rfl⟩
  refine⟨trivial,?_⟩
  refine SL.heap ?_ (fun _ hw=>F3 (A:=(LT bp (.func (.func fid) #[] cs) vo2 y.2.1::AD 190 3 vo2 AU y.2.1.out::C ca2 y.2.2)) (B:=[AL b3 (.cells #[AA w.page,vS w.tag] 188),AL b2 (.cells #[AA 0,vS []] 188),AL b0 (.cells #[vP bp 0] 191)]) (R:=(H++Tl lr lp Rest .busy)) hw)
  refine A2 0 E E E E EX E E E zT (Nd 0 (AL b3 (.cells #[AA y.1.page,vS y.1.tag] 188)) (V (Y (AG 2 aj E (AT E E (AF E Rz (AG 3 QF E (Z E BJ (V ?_)))))))))
  have hheap:∀w1:World,BT K w0 ((AL b3 (.cells #[AA y.1.page,vS y.1.tag] 188)::AL b2 (.cells #[AA 0,vS []] 188)::AL b0 (.cells #[vP bp 0] 191)::((LT bp (.func (.func fid) #[] cs) vo2 y.2.1::AD 190 3 vo2 AU y.2.1.out::C ca2 y.2.2)++(H++Tl lr lp Rest .busy)))) w1→BT K w0 ((AL b3 (.cells #[AA y.1.page,vS y.1.tag] 188)::AL b2 (.cells #[AA 0,vS []] 188)::AL b0 (.cells #[vP bp 0] 191)::LT bp (.func (.func fid) #[] cs) vo2 y.2.1::AD 190 3 vo2 AU y.2.1.out::(C ca2 y.2.2++H))++Tl lr lp Rest .busy) w1:=by
   intro w1 hw
   simp only[List.append_assoc,List.cons_append]at hw ⊢
   exact hw
  refine AN h1 E (fun hc3 h1=>?_) fun hc3 h1=>?_
  obtain rfl:=zI h1
  refine Ax (HN ?_)
  exact Nf ⟨E,vo2,ca2,E⟩ hheap
  refine AJ (Am ?_)
  exact H5 ⟨y.1,y.2.1,y.2.2,vo2,ca2,fun suf' e=>by rw[WZ hxs e];exact h1,E⟩ hheap
  obtain⟨x,p1,q1,vo1,ca1,h,rfl⟩:=hJ
  replace h:=h [] (List.append_nil _).symm
  obtain rfl:(x,(p1,q1))=r:=zI h
  refine Am (AI (Y (Aq (Bt x) E C5 E E (Aj 0 E) (A2 1 E E E E EX E E E zT (V (AK (EN ?_)))))))
  exact Ag (IU E (B8 1 (Bt x) C5 E E E E)) (Af (M:=_::_::C ca1 q1) ⟨E,vo1,ca1,E⟩ fun _ hw=>BT.pick (H:=[_,_,_]) hw [] 3 E)
  obtain⟨rfl,vo1,ca1,rfl⟩:=hX
  refine Ax (A5 (AI (Y (Aq (Bt r.1) E C5 E E (Aj 0 E) (A2 1 E E E E EX E E E zT (V (AK (EN ?_))))))))
  exact Ag (IU E (B8 1 (Bt r.1) C5 E E E E)) (Af (M:=_::_::C ca1 r.2.2) ⟨E,vo1,ca1,E⟩ fun _ hw=>BT.pick (H:=[_,_,_]) hw [] 3 E)
end

section
theorem Qk(l:List Ao):(N0 l).length=max 1 ((l.length+3) / 4):=by
 unfold N0
 split
 rename_i h;subst h;rfl
 rename_i h
 have:=List.length_pos_iff.2 h
 simp
 omega
theorem eI{l p:List Ao}(h:p∈N0 l):p.length≤4∧p.Sublist l:=by
 unfold N0 at h
 split at h
 rename_i hl
 subst hl
 simp only[List.mem_singleton]at h
 subst h
 exact⟨by simp,List.Sublist.refl _⟩
 obtain⟨i,_,rfl⟩:=List.mem_map.1 h
 exact⟨by simp;omega,(List.take_sublist ..).trans (List.drop_sublist ..)⟩
theorem Vy{l p:List Ao}(h:E0 l=true)(hs:p.Sublist l):E0 p=true:=by
 unfold E0 at h ⊢
 simp only[Bool.and_eq_true,decide_eq_true_eq]at h ⊢
 refine⟨⟨List.all_eq_true.2 fun r hr=>List.all_eq_true.1 h.1.1 r (hs.subset hr),(V0 p).2 (((V0 l).1 h.1.2).sublist hs)⟩,?_⟩
 have:=hs.length_le
 omega
abbrev aQ(l:List Ao)(r:BS):Da:=⟨1,0,0,0,l,[],r.page,r.tag⟩
abbrev Uk(t:CU)(rs:List BS):Da:=⟨2,t.cx,t.cy,t.lev,[],rs,0,[]⟩
def bO:List (List Ao)→BS→List BI→BS→Prop
 | [],r0,seg,r=>seg=[]∧r=r0
 | l::ls,r0,seg,r=>∃r1 seg',Iv (aQ l r0)=true∧seg=⟨Qd (aQ l r0),r1.page,r1.tag⟩::seg'∧bO ls r1 seg' r
def fH(R:CU→List BI→BS→Prop):List CU→List BI→List BS→Prop
 | [],seg,rs=>seg=[]∧rs=[]
 | k::ks,seg,rs=>∃s1 r1 s2 rs',R k s1 r1∧fH R ks s2 rs'∧seg=s1++s2∧rs=r1::rs'
def Wd:Nat→CU→List BI→BS→Prop
 | 0,_,_,_=>False
 | f+1,t,seg,r=>(t.rows.length≤1000∧t.kids.length≤1000)∧((t.kids=[]∧bO (N0 t.rows).reverse ⟨0,[]⟩ seg r)∨(t.kids≠[]∧∃segs rs,fH (Wd f) t.kids segs rs∧Iv (Uk t rs)=true∧seg=segs++[⟨Qd (Uk t rs),r.page,r.tag⟩]))
def Ox:Nat→CU→Nat
 | 0,_=>0
 | f+1,t=>if t.kids.length=0 then max 1 ((t.rows.length+3) / 4)else(t.kids.map (Ox f)).sum+1
theorem bO.len:∀ {ls:List (List Ao)} {r0 r:BS} {seg:List BI} ,bO ls r0 seg r→seg.length=ls.length
 | [],_,_,_,h=>by rw[h.1];rfl
 | _::_,_,_,_,h=>by
  obtain⟨r1,seg',_,e,h'⟩:=h
  rw[e,List.length_cons,bO.len h',List.length_cons]
theorem fH.len{R:CU→List BI→BS→Prop}{g:CU→Nat}(hg:∀k s r,R k s r→s.length=g k):∀ {ks:List CU} {seg:List BI} {rs:List BS},fH R ks seg rs→seg.length=(ks.map g).sum∧rs.length=ks.length
 | [],_,_,h=>by rw[h.1,h.2];simp
 | k::ks,_,_,h=>by
  obtain⟨s1,r1,s2,rs',h1,h2,e1,e2⟩:=h
  have ih:=fH.len hg h2
  rw[e1,e2,List.length_append,hg _ _ _ h1,ih.1,List.length_cons,ih.2]
  simp
theorem Wd.len:∀(f:Nat) {t:CU} {seg:List BI} {r:BS} ,Wd f t seg r→seg.length=Ox f t
 | 0,_,_,_,h=>h.elim
 | f+1,t,seg,r,h=>by
  rcases h.2 with⟨h1,h2⟩ | ⟨h1,segs,rs,h2,_,e⟩
  rw[h2.len,Ox,if_pos (by rw[h1];rfl),List.length_reverse,Qk]
  have h0:=List.length_pos_iff.2 h1
  rw[e,Ox,if_neg zO,List.length_append,(fH.len (fun k s r hr=>Wd.len f hr) h2).1]
  rfl
def Wc{σ:Type}(wh:V6 σ):σ→List BI→σ→Prop
 | q,[],q'=>q=q'
 | q,s::ss,q'=>∃q1,wh q s.txt=some ((⟨s.page,s.tag⟩,0),q1)∧Wc wh q1 ss q'
theorem Wc.join{σ:Type}{wh:V6 σ}:∀ {a b:List BI} {q q1 q':σ},Wc wh q a q1→Wc wh q1 b q'→Wc wh q (a++b) q'
 | [],_,_,_,_,h,h'=>by cases h;exact h'
 | _::_,_,_,_,_,⟨q1,h1,h2⟩,h'=>⟨q1,h1,h2.join h'⟩
variable {σ:Type}{wh:V6 σ}{n:Nat}
structure fQ{σ:Type}(wh:V6 σ)(Inv:σ→Prop)(Good:σ→BI→Prop)(room:σ→Nat):Prop where
 step:∀q s,Inv q→s.length≤198→∃r e q',wh q s=some ((r,e),q')∧Inv q'∧(∀x,Good q x→Good q' x)∧((e=0∧FA r=true∧Good q' ⟨s,r.page,r.tag⟩∧room q≤room q'+1)∨(e=110∧room q=0))
def gq(wh:V6 σ)(Inv:σ→Prop)(Good:σ→BI→Prop)(room:σ→Nat)(k:Nat)(Run:List BI→Prop)(p:Kx)(q:σ)(p':Kx)(q':σ):Prop:=
 Inv q'∧(∀x,Good q x→Good q' x)∧((p'.wrong=0∧∃seg,p'.out=p.out++seg∧seg.length=k∧Run seg∧Wc wh q seg q'∧(∀x∈seg,Good q' x)∧room q≤room q'+k)∨(p'.wrong=110∧room q<k))
variable {Inv:σ→Prop}{Good:σ→BI→Prop}{room:σ→Nat}
theorem SC{x:Da}{p:Kx}{q:σ}(h:p.wrong≠0):Jp n wh x p q=some (⟨0,[]⟩,(p,q)):=by
 unfold Jp
 rw[zf h]
 rfl
theorem XR{α:Type}(f:α→List UInt8)(m:Nat):∀(l:List α),(∀a∈l,(f a).length≤m)→(l.map f).flatten.length≤m*l.length
 | [],_=>by simp
 | a::l,h=>by
  have h1:=h a zS
  have h2:=XR f m l (fun b hb=>h b (by simp[hb]))
  simp only[List.map_cons,List.flatten_cons,List.length_append,List.length_cons,Nat.mul_add,Nat.mul_one]
  omega
theorem hZ{x:Da}(h:Iv x=true):(Qd x).length≤198:=by
 unfold Qd
 by_cases hk:x.kind=1
 obtain⟨h1,h2,h3,h4,h5,h6,h7⟩:=Up h hk
 have h32:x.ntag.length≤32:=by
  rcases h7 with h7 | h7
  rw[h7.2];simp
  have:=(Oz h7).1
  simp only at this
  omega
 have:=XR Oe 33 x.rows (fun r hr=>by rw[UP];have:=Vz h6 r hr;omega)
 have h36:=OE (r:=⟨x.npage,x.ntag⟩) h32
 rw[show decide (x.kind=2)=false by rw[hk];rfl,CI]
 simp only[List.length_append,Bz,h36]
 omega
 obtain⟨hk2,h1,h2,h3,h4,h5,h6,h7,h8⟩:=TJ h hk
 have:=XR LF 36 x.kids (fun r hr=>by rw[OE (by have:=(Oz (h1 r hr)).1;omega)];exact Nat.le_refl _)
 rw[show decide (x.kind=2)=true by rw[hk2];rfl,C2]
 simp only[List.length_append,Bz]
 omega
theorem Y0(W:fQ wh Inv Good room)(hn:10≤n){x:Da}{p:Kx}{q:σ}(h:Iv x=true)(hi:Inv q)(hw:p.wrong=0)(hb:p.out.length≤100000):
  ∃r p' q',Jp n wh x p q=some (r,(p',q'))∧(p'.wrong=0→FA r=true)∧gq wh Inv Good room 1 (fun seg=>seg=[⟨Qd x,r.page,r.tag⟩]) p q p' q':=by
 obtain⟨r,e,q',h1,h2,h3,h4⟩:=W.step q (Qd x) hi (hZ h)
 unfold Jp
 rw[hw,show(!decide ((0:Int)=0))=false from rfl,CI,eD hn h,AB,show decide ((0:Int)=0)=true from rfl,C2,h1,AB]
 unfold Xr
 rcases h4 with⟨rfl,h5,h6,h7⟩ | ⟨rfl,h5⟩
 rw[show(!decide ((0:Int)=0))=false from rfl,CI,DV zQ zQ,AB]
 exact⟨r,_,q',rfl,fun _=>h5,h2,h3,.inl ⟨hw,_,rfl,rfl,rfl,⟨q',h1,rfl⟩,fun y hy=>by rw[List.mem_singleton.1 hy];exact h6,h7⟩⟩
 rw[show(!decide ((110:Int)=0))=true from rfl,C2]
 exact⟨⟨0,[]⟩,_,q',rfl,fun h0=>absurd h0 (show ¬((110:Int)=0) by decide),h2,h3,.inr ⟨rfl,by omega⟩⟩
theorem Y5(W:fQ wh Inv Good room)(hn:10≤n):∀(ls:List (List Ao)) (r0:BS) (p:Kx) (q:σ),(∀l∈ls,l.length≤4∧E0 l=true)→(r0=⟨0,[]⟩∨FA r0=true)→Inv q→p.wrong=0→p.out.length+ls.length≤100000→
  ∃r p' q',OM n wh ls r0 p q=some (r,(p',q'))∧(p'.wrong=0→FA r=true∨(ls=[]∧r=r0))∧gq wh Inv Good room ls.length (fun seg=>bO ls r0 seg r) p q p' q'
 | [],r0,p,q,hl,h0,hi,hw,hb=>⟨r0,p,q,rfl,fun _=>.inr ⟨rfl,rfl⟩,hi,fun _ h=>h,.inl ⟨hw,[],by simp,rfl,⟨rfl,rfl⟩,rfl,by simp,by simp⟩⟩
 | l::ls,r0,p,q,hl,h0,hi,hw,hb=>by
  obtain⟨l4,lr⟩:=hl l zS
  simp only[List.length_cons]at hb
  have hok:Iv (aQ l r0)=true:=by
   unfold Iv aQ
   rw[show decide ((1:Int)=1)=true from rfl,C2,lr]
   have:(SE ⟨r0.page,r0.tag⟩||FA ⟨r0.page,r0.tag⟩)=true:=by
    rcases h0 with rfl | h0
    rfl
    rw[show FA ⟨r0.page,r0.tag⟩=true from h0];simp
   rw[this]
   simp
   omega
  obtain⟨r1,p1,q1,e1,k1,i1,g1,s1⟩:=Y0 W hn hok hi hw zO
  unfold OM
  rw[show Jp n wh ⟨1,0,0,0,l,[],r0.page,r0.tag⟩ p q=some (r1,(p1,q1))from e1,AB]
  rcases s1 with⟨w1,seg1,o1,le1,rfl,pa1,go1,ro1⟩ | ⟨w1,ro1⟩
  rw[w1,show(!decide ((0:Int)=0))=false from rfl,CI]
  obtain⟨r,p',q',e2,k2,i2,g2,s2⟩:=Y5 W hn ls r1 p1 q1 (fun q hq=>hl q (by simp[hq])) (.inr (k1 w1)) i1 w1 (by rw[o1];simp;omega)
  refine⟨r,p',q',e2,fun h=>?_,i2,fun x hx=>g2 x (g1 x hx),?_⟩
  rcases k2 h with h | ⟨_,h⟩
  exact .inl h
  rw[h]
  exact .inl (k1 w1)
  rcases s2 with⟨w2,seg2,o2,le2,ru2,pa2,go2,ro2⟩ | ⟨w2,ro2⟩
  refine .inl ⟨w2,_::seg2,by rw[o2,o1];simp,by simp[le2],⟨r1,seg2,hok,rfl,ru2⟩,pa1.join pa2,fun x hx=>?_,?_⟩
  rcases List.mem_cons.1 hx with rfl | hx
  exact g2 _ (go1 _ zS)
  exact go2 x hx
  simp only[List.length_cons]
  omega
  exact .inr ⟨w2,by simp only[List.length_cons];omega⟩
  rw[w1,show(!decide ((110:Int)=0))=true from rfl,C2]
  exact⟨r1,p1,q1,rfl,fun h=>absurd (w1.symm.trans h) zD,i1,g1,.inr ⟨w1,by simp only[List.length_cons];omega⟩⟩
theorem Tr.rows:∀ {f:Nat} {l:List Ao} {t:CU} ,Tr f l t→t.rows.length≤l.length∧t.kids.length≤4
 | 0,_,_,h=>h.elim
 | f+1,l,t,h=>by
  rcases h with⟨rfl,rfl⟩ | ⟨_,c,L,A,⟨_,rfl⟩ | ⟨_,_,ks,rfl,hk⟩⟩
  simp[CU.rows,CU.kids]
  simp[CU.rows,CU.kids]
  have:=hk.length
  have:=Xt L l
  simp only[CU.rows,CU.kids,List.length_nil]
  omega
theorem R9{rec_:CU→Kx→σ→Option (BS×(Kx×σ))}{p:Kx}{q:σ}:∀(ks:List CU) (acc:List BS),(∀k∈ks,∃r,rec_ k p q=some (r,(p,q)))→acc.length+ks.length≤1000→∃rs,Kr rec_ ks p q acc=some (acc++rs,(p,q))
 | [],acc,_,_=>⟨[],by simp[Kr]⟩
 | k::ks,acc,h,hb=>by
  simp only[List.length_cons]at hb
  obtain⟨r,hr⟩:=h k zS
  obtain⟨rs,h'⟩:=R9 ks (acc++[r]) (fun j hj=>h j (by simp[hj])) zQ
  refine⟨r::rs,?_⟩
  unfold Kr
  rw[hr,AB,DV zQ zQ,AB,h']
  simp
theorem Vd.right{α β:Type}{R:α→β→Prop}{xs:List α}{ys:List β}(h:Vd R xs ys):∀y∈ys,∃x∈xs,R x y:=by
 induction h with
 | nil=>simp
 | cons h1 _ ih=>
  intro y hy
  rcases List.mem_cons.1 hy with rfl | hy
  exact⟨_,by simp,h1⟩
  obtain⟨x,hx,hR⟩:=ih y hy
  exact⟨x,by simp[hx],hR⟩
theorem Vu{p:Kx}{q:σ}(hw:p.wrong≠0):∀(f:Nat) {l:List Ao} {t:CU},Tr f l t→l.length≤1000→∃r,H3 n wh f t p q=some (r,(p,q))
 | 0,_,_,h,_=>h.elim
 | f+1,l,t,h,hl=>by
  have hb:=Tr.rows h
  unfold H3
  rw[if_neg zO]
  by_cases h0:0<(t.kids.length:Int)
  rw[zt h0,C2]
  have hk:∀k∈t.kids,∃r,H3 n wh f k p q=some (r,(p,q)):=by
   rcases h with⟨rfl,rfl⟩ | ⟨_,c,L,A,⟨_,rfl⟩ | ⟨_,_,ks,rfl,hk⟩⟩
   simp[CU.kids]
   simp[CU.kids]
   intro k hkm
   obtain⟨l',hl',hT⟩:=hk.right k hkm
   exact Vu hw f hT (by have:=(Qu hl').length_le;omega)
  obtain⟨acc',h'⟩:=R9 (rec_:=H3 n wh f) t.kids [] hk zQ
  rw[h',AB,SC hw]
  exact⟨_,rfl⟩
  rw[zf h0,CI]
  rcases hls:(N0 t.rows).reverse with _ | ⟨x,ls⟩
  exact⟨_,rfl⟩
  unfold OM
  rw[SC hw,AB,zf hw]
  exact⟨_,rfl⟩
theorem Yo{rec_:CU→Kx→σ→Option (BS×(Kx×σ))}{R:CU→List BI→BS→Prop}{g:CU→Nat}:∀(ks:List CU) (acc:List BS) (p:Kx) (q:σ),
  (∀k∈ks,∀p q,Inv q→p.wrong=0→p.out.length+g k≤100000→∃r p' q',rec_ k p q=some (r,(p',q'))∧(p'.wrong=0→FA r=true)∧gq wh Inv Good room (g k) (fun seg=>R k seg r) p q p' q')→
  (∀k∈ks,∀p q,p.wrong≠0→∃r,rec_ k p q=some (r,(p,q)))→Inv q→p.wrong=0→p.out.length+(ks.map g).sum≤100000→acc.length+ks.length≤1000→
  ∃rs p' q',Kr rec_ ks p q acc=some (acc++rs,(p',q'))∧(p'.wrong=0→∀r∈rs,FA r=true)∧gq wh Inv Good room (ks.map g).sum (fun seg=>fH R ks seg rs) p q p' q'
 | [],acc,p,q,_,_,hi,hw,_,_=>⟨[],p,q,by simp[Kr],by simp,hi,fun _ h=>h,.inl ⟨hw,[],by simp,rfl,⟨rfl,rfl⟩,rfl,by simp,by simp⟩⟩
 | k::ks,acc,p,q,hk,hkw,hi,hw,hb,ha=>by
  simp only[List.map_cons,List.sum_cons,List.length_cons]at hb ha
  obtain⟨r1,p1,q1,e1,k1,i1,g1,s1⟩:=hk k zS p q hi hw zO
  unfold Kr
  rw[e1,AB,DV zQ zQ,AB]
  rcases s1 with⟨w1,seg1,o1,le1,ru1,pa1,go1,ro1⟩ | ⟨w1,ro1⟩
  obtain⟨rs,p',q',e2,k2,i2,g2,s2⟩:=Yo ks (acc++[r1]) p1 q1 (fun j hj=>hk j (by simp[hj])) (fun j hj=>hkw j (by simp[hj])) i1 w1 (by rw[o1];simp;omega) zQ
  refine⟨r1::rs,p',q',by simpa using e2,fun h r hr=>?_,i2,fun x hx=>g2 x (g1 x hx),?_⟩
  rcases List.mem_cons.1 hr with rfl | hr
  exact k1 w1
  exact k2 h r hr
  rcases s2 with⟨w2,seg2,o2,le2,ru2,pa2,go2,ro2⟩ | ⟨w2,ro2⟩
  refine .inl ⟨w2,seg1++seg2,by rw[o2,o1];simp,by simp[le1,le2],⟨seg1,r1,seg2,rs,ru1,ru2,rfl,rfl⟩,pa1.join pa2,fun x hx=>?_,?_⟩
  rcases List.mem_append.1 hx with hx | hx
  exact g2 _ (go1 _ hx)
  exact go2 x hx
  simp only[List.map_cons,List.sum_cons]
  omega
  exact .inr ⟨w2,by simp only[List.map_cons,List.sum_cons];omega⟩
  obtain⟨acc',h'⟩:=R9 (rec_:=rec_) (p:=p1) (q:=q1) ks (acc++[r1]) (fun j hj=>hkw j (by simp[hj]) p1 q1 (by rw[w1];decide)) zQ
  exact⟨r1::acc',p1,q1,by simpa using h',fun h=>absurd (w1.symm.trans h) zD,i1,g1,.inr ⟨w1,by simp only[List.map_cons,List.sum_cons];omega⟩⟩
theorem Yx(W:fQ wh Inv Good room)(hn:10≤n):∀(f:Nat) (l:List Ao) (t:CU) (p:Kx) (q:σ),Tr f l t→E0 l=true→Inv q→p.wrong=0→p.out.length+Ox f t≤100000→
  ∃r p' q',H3 n wh f t p q=some (r,(p',q'))∧(p'.wrong=0→FA r=true)∧gq wh Inv Good room (Ox f t) (fun seg=>Wd f t seg r) p q p' q'
 | 0,_,_,_,_,h,_,_,_,_=>h.elim
 | f+1,l,t,p,q,h,hr,hi,hw,hb=>by
  have hl:l.length≤1000:=by
   unfold E0 at hr
   simp only[Bool.and_eq_true,decide_eq_true_eq]at hr
   omega
  have hbd:=Tr.rows h
  have leaf:t.kids=[]→E0 t.rows=true→∃r p' q',H3 n wh (f+1) t p q=some (r,(p',q'))∧(p'.wrong=0→FA r=true)∧gq wh Inv Good room (Ox (f+1) t) (fun seg=>Wd (f+1) t seg r) p q p' q':=by
   intro hk hrr
   have hpg:Ox (f+1) t=(N0 t.rows).reverse.length:=by rw[Ox,if_pos (by rw[hk];rfl),List.length_reverse,Qk]
   obtain⟨r,p',q',e,k,i,g,s⟩:=Y5 W hn (N0 t.rows).reverse ⟨0,[]⟩ p q (fun x hx=>by
    have:=eI (List.mem_reverse.1 hx)
    exact⟨this.1,Vy hrr this.2⟩) (.inl rfl) hi hw zO
   refine⟨r,p',q',?_,fun h0=>?_,i,g,?_⟩
   unfold H3
   rw[if_neg zO,zf (by rw[hk];simp),CI]
   exact e
   rcases k h0 with h1 | ⟨h1,_⟩
   exact h1
   have:=congrArg List.length h1
   rw[List.length_reverse,Qk,List.length_nil]at this
   omega
   rw[hpg]
   rcases s with⟨w,seg,o,le,ru,pa,go,ro⟩ | s
   exact .inl ⟨w,seg,o,le,⟨⟨by omega,by omega⟩,.inl ⟨hk,ru⟩⟩,pa,go,ro⟩
   exact .inr s
  rcases h with⟨rfl,rfl⟩ | ⟨_,c,L,A,⟨_,rfl⟩ | ⟨h4,hL,ks,rfl,hk⟩⟩
  exact leaf rfl hr
  exact leaf rfl hr
  have hkl:=hk.length
  have hq4:=Xt L l
  have hq2:=(Tq A hL).1
  have hpg:Ox (f+1) (.mk c.x c.y c.lev [] ks)=(ks.map (Ox f)).sum+1:=by
   rw[Ox,if_neg (by simp only[CU.kids];omega)]
   rfl
  rw[hpg]at hb ⊢
  obtain⟨rs,p1,q1,e1,k1,i1,g1,s1⟩:=Yo (wh:=wh) (Inv:=Inv) (Good:=Good) (room:=room) (rec_:=H3 n wh f) (R:=Wd f) (g:=Ox f) ks [] p q (fun k hkm p q hi hw hb=>by
   obtain⟨l',hl',hT⟩:=hk.right k hkm
   exact Yx W hn f l' k p q hT (Vy hr (Qu hl')) hi hw hb) (fun k hkm p q hw=>by
   obtain⟨l',hl',hT⟩:=hk.right k hkm
   exact Vu hw f hT (by have:=(Qu hl').length_le;omega)) hi hw zO zQ
  have hrun:H3 n wh (f+1) (.mk c.x c.y c.lev [] ks) p q=Jp n wh (Uk (.mk c.x c.y c.lev [] ks) rs) p1 q1:=by
   unfold H3
   rw[if_neg zO,zt (by simp only[CU.kids];omega),C2,show(CU.mk c.x c.y c.lev [] ks).kids=ks from rfl,e1,AB]
   rfl
  rw[hrun]
  rcases s1 with⟨w1,seg1,o1,le1,ru1,pa1,go1,ro1⟩ | ⟨w1,ro1⟩
  have hrl:=(fH.len (fun k s r hr=>Wd.len f hr) ru1).2
  have hok:Iv (Uk (.mk c.x c.y c.lev [] ks) rs)=true:=by
   unfold Iv Uk
   rw[show decide ((2:Int)=1)=false from rfl,CI,show decide ((2:Int)=2)=true from rfl,C2]
   have h5:rs.all FA=true:=List.all_eq_true.2 (k1 w1)
   have h6:OD ⟨c.x,c.y,c.lev⟩=true:=A.ok
   have h7:=A.lev
   show(((rs.all FA&&decide ((([]:List Ao).length:Int)=0))&&SE ⟨0,[]⟩&&decide (2≤(rs.length:Int)))&&decide ((rs.length:Int)≤4)&&OD ⟨c.x,c.y,c.lev⟩&&decide (0<c.lev))=true
   rw[h5,h6,zt (show 2≤(rs.length:Int) by omega),zt (show(rs.length:Int)≤4 by omega),zt (show 0<c.lev by omega)]
   rfl
  obtain⟨r,p',q',e2,k2,i2,g2,s2⟩:=Y0 W hn hok i1 w1 (by rw[o1];simp;omega)
  refine⟨r,p',q',e2,k2,i2,fun x hx=>g2 x (g1 x hx),?_⟩
  rcases s2 with⟨w2,seg2,o2,le2,rfl,pa2,go2,ro2⟩ | ⟨w2,ro2⟩
  refine .inl ⟨w2,seg1++[_],by rw[o2,o1];simp,by simp[le1],⟨⟨by simp[CU.rows],by simp only[CU.kids];omega⟩,.inr ⟨by
   intro e
   have:ks=[]:=e
   rw[this,List.length_nil]at hkl
   omega,seg1,rs,ru1,hok,rfl⟩⟩,pa1.join pa2,fun x hx=>?_,by omega⟩
  rcases List.mem_append.1 hx with hx | hx
  exact g2 _ (go1 _ hx)
  exact go2 x hx
  exact .inr ⟨w2,by omega⟩
  rw[SC (by rw[w1];decide)]
  exact⟨_,p1,q1,rfl,fun h=>absurd (w1.symm.trans h) zD,i1,g1,.inr ⟨w1,by omega⟩⟩
end

section
variable {K:Nat→Prop}{w0:World}{H:List AX}
def kC(a:Int×BI):List Value:=[vI a.1,.agg (AU a.2).toArray]
theorem km{bx:Nat}{va:Value}{xs:List BI}{G0:List AX}(hn:xs.length≤1048576)(hs:B6 K w0 AU 3 va xs):
  Ns Tryz.prog K w0 127 [vP bx 0] [AL bx (.cells #[va] 88)] G0 kC (E1 xs):=by
 intro lp J9 X T rc hy h0
 refine TP.enter Tryz.func127 rfl rfl ?_
 show SX _ _ _ _ _ _ _ _ _ (AL bx (.cells #[va] 88)::((rc::G0)++T))
 refine Y (AG 0 QG E (B1 hs E KN E (Z E (Dx zO zO) (U E (V (AP ?_))))))
 refine SX.mono (BG (α:=Nat×List AX) (fun x=>x.1≤xs.length∧J9 ((E1 xs).take x.1) x.2) (fun x=>[(0,vY lp),(1,vP bx 0),(3,vI ((xs.length:Int)-1-(x.1:Int)))])
  (fun x=>AL bx (.cells #[va] 88)::(x.2++T)) (fun x=>xs.length-x.1) (fun x D hp=>?_) (0,rc::G0) ⟨Nat.zero_le _,h0⟩) (by simpa using tL)
 obtain⟨k,G⟩:=x
 obtain⟨hk,hJ⟩:=hp
 dsimp only at hk hJ ⊢
 refine AH (Y (J E (Z E Js (V ?_))))
 refine Av E (fun hc1=>?_) (fun hc1=>?_)
 have hlt:k<xs.length:=by
  have:=of_decide_eq_true hc1
  omega
 clear hc1
 have hb:k<(E1 xs).length:=by rw[JI];exact hlt
 have hget:=Ws xs k hlt
 have hx:BA xs ((xs.length:Int)-1-(k:Int))=some (xs[xs.length-1-k]' zO):=by
  rw[BA,if_pos zO,show((xs.length:Int)-1-(k:Int)).toNat=xs.length-1-k by omega]
  exact List.getElem?_eq_getElem _
 refine AJ (AI (AH (AP (Y (J E (J E (AG 0 QG E (J E ?_))))))))
 refine C4 hx hs E KN KM E E fun be1 of1 hc1=>?_
 refine Aq (AU _) E RX E E (DO hc1) ?_
 refine HM (M2:=[_]) (G:=G) (T:=T) (vs:=[_,_]) (ok:=fun G1=>J9 ((E1 xs).take (k+1)) G1) (no:=X) E E ⟨E,E,zT⟩ E ?_ (fun bb G1 hG1=>⟨zT,?_⟩)
 intro M
 have:=hy ((E1 xs).take k) ((E1 xs)[k]) ((E1 xs).drop (k+1)) (ZA _ k hb) G hJ M
 rw[X4 _ k hb,hget]at this
 rw[show((xs.length:Int)-1-(k:Int))=((xs.length-1-k:Nat):Int) by omega]
 exact this
 refine CS E E (V ?_)
 refine Av E (fun hc3=>?_) (fun hc3=>?_)
 obtain rfl:bb=false:=by simpa using hc3
 refine AK (A8 (Ab (Dz (A8 ?_))))
 exact Ag (Dg E) (Af (M:=G1) (.inr hG1) fun _ h=>h.skip [_])
 obtain rfl:bb=true:=by simpa using hc3
 refine AJ (Am (AI (AQ (J E (Z E (Dx zO zO) ?_)))))
 refine Al (u:=vI ((xs.length:Int)-1-((k+1:Nat):Int))) E E (congrArg vI zO) ?_
 refine AZ ?_
 exact Au (k+1,G1) ⟨hlt,hG1⟩ (by dsimp only;omega) tL (BM [0] 1 E E E)
 have hge:k=xs.length:=by
  have:=of_decide_eq_false hc1
  omega
 subst hge
 rw[List.take_of_length_le (by rw[JI];exact Nat.le_refl _)]at hJ
 refine Ax (A3 (BZ (A5 ?_)))
 exact C8 (Dg E) (Af (M:=G) (.inl hJ) fun _ h=>h.skip [_])
theorem lK{va:Value}(hva:va.cells=#[va]):zC K w0 91 [va] [] H (fun u M=>∃bx:Nat,u=.func (.func 127) #[] #[vP bx 0]∧M=[AL bx (.cells #[va] 88)]):=by
 refine TP.enter Tryz.func91 rfl rfl ?_
 refine Y ?_
 refine Ba E E zU fun b1=>?_
 rw[hva]
 refine U E (V (Y ?_))
 refine Gz (fv:=#[]) (cv:=#[_]) E E E ?_
 refine U E (V (AK ?_))
 exact Bo [0] 1 (Ck E E) E E ⟨_,E,E⟩
end

section
variable {K:Nat→Prop}{w0:World}{H:List AX}
end

section
variable {K:Nat→Prop}{w0:World}{H:List AX}
end

section
end

section
variable {K:Nat→Prop}{w0:World}{H:List AX}
end

section
variable {K:Nat→Prop}{w0:World}{H:List AX}
abbrev Mz:={s:List UInt8 // s.length≤1048576}
def Vo(s:List UInt8):Option Mz:=if h:s.length≤1048576 then some ⟨s,h⟩else none
theorem Xh{s:List UInt8}{k:Mz}(h:Vo s=some k):k.1=s:=by
 unfold Vo at h
 split at h
 rw[←zI h]
 cases h
def Pe(k:Mz):Value:=vS k.1
theorem dA{P:Program}{k:TypeId}(hk:P.underlying k=some .string)(a:Mz):∃l,keyOf P k (Pe a)=some l:=by
 refine⟨.string a.1,?_⟩
 have:=a.2
 simp[keyOf,hk,mapKey,vS,Pe]
 show a.1.length≤maxLen
 simp[maxLen]
 omega
def Rr(r:BS):Value:=.agg (Bt r).toArray
theorem T2{P:Program}{k:TypeId}(hk:P.underlying k=some .string):M1 P k Pe Rr:=
 ⟨Maps.string_keyed hk,dA hk,⟨fun v=>match v with | .string b=>Vo b.data.toList | _=>none,fun x=>by
  show Vo x.1=some x
  unfold Vo
  rw[dif_pos x.2]⟩,⟨fun v=>match v with | .agg a=>(match a.toList with | [.int _ p,.string b]=>some ⟨UInt32.ofNat p.toNat,b.data.toList⟩ | _=>none) | _=>none,fun x=>by
  cases x
  simp[Rr,Bt,AA,vS]⟩⟩
structure N6 where
 b:Nat
 rv:Value
 mt:Nat
 d:Nat
 bv:Value
 mp:Nat
 mb:Nat
abbrev KO(B:N6)(v:A0)(d:Ai):List AX:=
 [AL B.b (.cells #[vP B.d 0,B.rv,AA v.gen,AA v.boot,AV v.seals,.map (some B.mt)] 181),AD 114 2 B.rv Aa v.ring,Ad B.mt AA vB v.taken,AL B.d (.cells #[vB d.off,vB d.isCut,vI d.lasts,vI d.counts,B.bv,.map (some B.mp),.map (some B.mb),AV d.rcnt,vS d.rtag,AA d.rboots] 100),AD 9 1 B.bv eS d.blocks,Ad B.mp AA vS d.pend,Ad B.mb AA vB d.bad]
structure YE where
 tk:List UInt32
 v:A0
 d:Ai
abbrev TN(bt bm bv bk:Nat)(B:N6)(th:List (Mz×BS))(a:Value)(q:YE):List AX:=
 AL bt (.cells #[.map (some bm)] 183)::Ad bm Pe Rr th::AL bv (.cells #[vP B.b 0] 92)::AL bk (.cells #[a] 120)::AD 33 1 a BL q.tk::KO B q.v q.d
def SH(T:List UInt32)(th:List (Mz×BS)):V6 YE:=fun q s=>
 (Vo s).bind fun k=>cond (Cy th k).isSome (some (((Cy th k).getD ⟨0,[]⟩,0),q))
  ((GP T q.v q.d s).bind fun y=>cond (decide (y.2.1=0)) ((DM 4 q.tk [y.1.page]).bind fun l=>some ((y.1,y.2.1),⟨l,y.2.2.1,y.2.2.2⟩)) (some ((y.1,y.2.1),⟨q.tk,y.2.2.1,y.2.2.2⟩)))
theorem jn{T:List UInt32}{bt bm bv bk:Nat}{B:N6}{th:List (Mz×BS)}:dV T 92 #[vP bt 0,vP bv 0,vP bk 0] (TN bt bm bv bk B th) (SH T th):=by
 intro K w0 H a q s r hS h
 unfold SH at h
 refine AE h fun k hk h=>?_
 have hks:=Xh hk
 refine TP.enter Tryz.func92 rfl rfl ?_
 show SX _ _ _ _ _ _ _ _ _ (TN bt bm bv bk B th a q++H)
 refine Y ?_
 refine Ak E FB zU fun b0=>?_
 refine U E (V (AH (Y (AG 1 ky E (J E ?_)))))
 refine Yb (zv:=(⟨0,[]⟩:BS)) 2 (T2 Cc) E lD FB E (by rw[←hks];rfl) E ?_
 refine J E (Ae E E E (Ae E E E ?_))
 refine Ak E FB zU fun b1=>?_
 refine A2 0 E E E E EX E E E zT (Nd 0 (AL b1 (.cells #[AA ((Cy th k).getD ⟨0,[]⟩).page,vS ((Cy th k).getD ⟨0,[]⟩).tag] 188)) (U E (V (Y (J E (V ?_))))))
 refine AN h E (fun hc1 h=>?_) fun hc1 h=>?_
 obtain rfl:=zI h
 refine Y (Aq (Bt ((Cy th k).getD ⟨0,[]⟩)) E C5 E E (Aj 0 E) (A2 1 E E E E EX E E E zT (U E (V (AK (Ab ?_))))))
 exact Ag (D7 E (B8 1 (Bt ((Cy th k).getD ⟨0,[]⟩)) C5 E E E E) E) (Af (M:=TN bt bm bv bk B th a q) ⟨E,a,E⟩ fun _ hw=>BT.pick (H:=[_,_]) hw [] 2 E)
 refine AE h fun y hy h=>?_
 refine AJ (AI (Y (AG 4 SK E (J E ?_))))
 refine SL.heap (H':=KO B q.v q.d++([_,_,_,_,_,_,_]++H)) ?_ (fun _ hw=>F3 (A:=[_,_,_,_,_,_,_]) (B:=KO B q.v q.d) (R:=H) hw)
 have hcon:=cB (K:=K) (w0:=w0) (H:=([AL b1 (.cells #[AA ((Cy th k).getD ⟨0,[]⟩).page,vS ((Cy th k).getD ⟨0,[]⟩).tag] 188),AL b0 (.cells #[AA 0,vS []] 188),AL bt (.cells #[.map (some bm)] 183),Ad bm Pe Rr th,AL bv (.cells #[vP B.b 0] 92),AL bk (.cells #[a] 120),AD 33 1 a BL q.tk]++H)++[BO []]) (Ar:=B.b) (Ac:=B.rv) (A7:=B.mt) (BC:=B.d) (By:=B.bv) (Bw:=B.mp) (Bx:=B.mb) hy hS
 refine Bd (vs:=[_,_]) (Hin:=KO B q.v q.d) (Hr:=[_,_,_,_,_,_,_]++H) E E ⟨E,E,zT⟩ qA E E hcon ?_
 rintro _ _ ⟨rfl,rfl⟩
 refine⟨trivial,?_⟩
 refine SL.heap (H':=[_,_,_,_,_,_,_]++(KO B y.2.2.1 y.2.2.2++H)) ?_ (fun _ hw=>F3 (A:=KO B y.2.2.1 y.2.2.2) (B:=[_,_,_,_,_,_,_]) (R:=H) hw)
 refine J E (Ae E E E (Ae E E E ?_))
 refine Ak E FB zU fun b2=>?_
 refine A2 0 E E E E EX E E E zT (Nd 0 (AL b2 (.cells #[AA y.1.page,vS y.1.tag] 188)) (U E (V ?_)))
 refine A6 (α:=List UInt32×Value) (fun w=>some ((y.1,y.2.1),(⟨w.1,y.2.2.1,y.2.2.2⟩:YE))=some r) (fun w=>[(9,vP b2 0),(10,vI y.2.1),(5,vP b0 0)])
  (fun w=>AL b2 (.cells #[AA y.1.page,vS y.1.tag] 188)::AL b0 (.cells #[AA 0,vS []] 188)::(TN bt bm bv bk B th w.2 ⟨w.1,y.2.2.1,y.2.2.2⟩++H)) ?_ (fun w D h=>?_)
 refine Y (J E (Z E Bj (V ?_)))
 refine AN h E (fun hc2 h=>?_) fun hc2 h=>?_
 refine AE h fun l hl h=>?_
 refine AQ (AG 6 en E (AF E FS (AG 0 A1 E ?_)))
 refine B9 [_] rfl CM Bg Hy ⟨rfl,trivial⟩ rfl rfl rfl zW rfl rfl zU fun b3=>?_
 refine CA BL 1 ([y.1.page]:List UInt32) E zV E ?_
 refine Co 8 hl (sz:=1) (enc:=BL) zV E CM Bg P0 Hy E zD E E E E (CH (sz:=1) (enc:=BL) 0 zV E) (by simp[BL,Value.oneCell']) zU fun v3=>?_
 refine Cs 8 E fun hv3 ho3=>?_
 refine Dt 7 E E E E et hv3 ho3 E zT (AZ ?_)
 exact Ap (l,v3) h tL (BM [1,3,4,5,6,7,8] 9 E E E)
 refine AJ ?_
 exact Ap (q.tk,a) h tL (BM [0,2,3,4,5,6,7] 8 E E E)
 obtain⟨l,v3⟩:=w
 obtain rfl:=zI h
 dsimp only
 refine Y (Aq (Bt y.1) E C5 E E (Aj 0 E) (J E (A2 1 E E E E EX E E E zT (U E (V (AK ?_))))))
 exact Ag (D7 E (B8 1 (Bt y.1) C5 E E E E) E) (Af (M:=TN bt bm bv bk B th v3 ⟨l,y.2.2.1,y.2.2.2⟩) ⟨E,v3,E⟩ fun _ hw=>BT.pick (H:=[_,_]) hw [] 2 E)
end

section
variable {K:Nat→Prop}{w0:World}{H:List AX}
def Q1:List (Int×BI)→List (Mz×BS)→Option (List (Mz×BS))
 | [],m=>some m
 | s::l,m=>(Vo s.2.txt).bind fun k=>(Mr m k ⟨s.2.page,s.2.tag⟩).bind fun m'=>Q1 l m'
def R6:List UInt32→A0→Ai→Option A0
 | [],v,_=>some v
 | x::l,v,d=>(KA v d x).bind fun y=>R6 l y.2 d
def ai(y:BS×(Kx×YE)):Option (List BI×Int×A0×Ai):=
 cond (!decide (y.2.1.wrong=0)) (if 1048576<y.2.2.tk.length then none else(R6 y.2.2.tk y.2.2.v y.2.2.d).bind fun v'=>some ([],y.2.1.wrong,v',y.2.2.d)) (some (y.2.1.out,0,y.2.2.v,y.2.2.d))
def SJ(n:Nat)(T:List UInt32)(p0:A0)(p0_1:Ai)(p1:List Ao)(p2:List BI):Option (List BI×Int×A0×Ai):=
 (Sg n p1).bind fun b=>cond (!decide (b.2=0)) (some ([],b.2,p0,p0_1))
  (if 1048576<p2.length then none else(Q1 (E1 p2) []).bind fun th=>(H3 n (SH T th) n b.1 ⟨[],0⟩ ⟨[],p0,p0_1⟩).bind ai)
theorem gi{n Ar A7 BC Bw Bx:Nat}{T:List UInt32}{Ac By EM GF:Value}{p0:A0}{p0_1:Ai}{p1:List Ao}{p2:List BI}{r:List BI×Int×A0×Ai}(h:SJ n T p0 p0_1 p1 p2=some r)(hS:GM K w0 T)(hs1_:B6 K w0 AY 4 EM p1)(hs2_:B6 K w0 AU 3 GF p2):
  zC K w0 66 [vP Ar 0,EM,GF] (KO ⟨Ar,Ac,A7,BC,By,Bw,Bx⟩ p0 p0_1) H (fun u M=>∃v0:Value,u=.tuple #[v0,vI r.2.1]∧M=AD 190 3 v0 AU r.1::KO ⟨Ar,Ac,A7,BC,By,Bw,Bx⟩ r.2.2.1 r.2.2.2):=by
 unfold SJ at h
 refine AE h fun b hb h=>?_
 refine TP.enter Tryz.func66 rfl rfl ?_
 show SX _ _ _ _ _ _ _ _ _ (KO ⟨Ar,Ac,A7,BC,By,Bw,Bx⟩ p0 p0_1++H)
 refine Y ?_
 refine Ba E E zU fun b0=>?_
 refine U E (U E (V (AH (Y (AG 0 SK E (Ed E gf E E (V (Cx E (AJ (AI (Y (J E ?_))))))))))))
 refine Bd (vs:=[_]) (Hin:=[]) (Hr:=_::(KO ⟨Ar,Ac,A7,BC,By,Bw,Bx⟩ p0 p0_1++H)) E E ⟨E,zT⟩ py E E (lL hb hs1_) ?_
 rintro _ _ ⟨nv,L,rfl,hnz,rfl⟩
 refine⟨trivial,?_⟩
 refine J E (Ae E E E (Ae E E E ?_))
 refine Ak E IY zU fun b1=>?_
 refine A2 0 E E E E IV E (List.all_eq_true.2 (Nn nv)) E zT (Nd 0 (AL b1 (.cells (Cp nv).toArray 167)) (U E (V (AH (Y (J E (Z E BJ (V ?_))))))))
 refine AN h E (fun hc2 h=>?_) fun hc2 h=>?_
 obtain rfl:=zI h
 refine Y (J E (U E (U E (V (AK (Ab (OV 190 3 AU ?_)))))))
 exact Ag (ES E E E) (Af (M:=_::KO ⟨Ar,Ac,A7,BC,By,Bw,Bx⟩ p0 p0_1) ⟨_,E,E⟩ fun _ hw=>BT.pick (H:=[_,_,_,_]) hw [0] 4 E)
 split at h
 cases h
 rename_i hbig
 obtain⟨th,hth,h3⟩:=E3 h
 clear h
 obtain⟨y,hy,h⟩:=E3 h3
 clear h3
 refine AJ (AI (Y ?_))
 refine Sb Pe Rr E zU fun bm=>?_
 refine Ak E rF zU fun b2=>?_
 refine A2 0 E E E E qk E E E zT (Nd 0 (AL b2 (.cells #[.map (some bm)] 183)) (V (AH (Y (J E ?_)))))
 refine Bd (vs:=[_]) (Hin:=[]) (Hr:=_::_::_::_::_::(KO ⟨Ar,Ac,A7,BC,By,Bw,Bx⟩ p0 p0_1++H)) E E ⟨E,zT⟩ pz E E (lK hs2_.one) ?_
 rintro _ _ ⟨bx,rfl,rfl⟩
 refine⟨trivial,?_⟩
 refine V (AP ?_)
 refine MB (enc:=kC) (E1 p2) (G0:=(AL b2 (.cells #[.map (some bm)] 183)::Ad bm Pe Rr []::AL b1 (.cells (Cp nv).toArray 167)::Hz L::AL b0 (.cells #[vP Ar 0] 92)::(KO ⟨Ar,Ac,A7,BC,By,Bw,Bx⟩ p0 p0_1++H))) (fun pre G=>∃m:List (Mz×BS),(∀suf,E1 p2=pre++suf→Q1 suf m=some th)∧G=(AL b2 (.cells #[.map (some bm)] 183)::Ad bm Pe Rr m::AL b1 (.cells (Cp nv).toArray 167)::Hz L::AL b0 (.cells #[vP Ar 0] 92)::(KO ⟨Ar,Ac,A7,BC,By,Bw,Bx⟩ p0 p0_1++H))) (fun c G=>False) E mV E zV (km zO hs2_) E ⟨[],fun suf e=>by rw[←show E1 p2=suf from e];exact hth,E⟩ (fun pre x suf G hxs hJ lr lp Rest=>?_) (fun G D hJ=>?_) (fun c G D hX=>hX.elim)
 obtain⟨m,hm,rfl⟩:=hJ
 have h1:=hm (x::suf) hxs
 rw[Q1]at h1
 obtain⟨k,hk,h1⟩:=E3 h1
 obtain⟨m1,hm1,h1⟩:=E3 h1
 have hks:=Xh hk
 refine AQ ?_
 refine Ak E O8 zU fun b3=>?_
 refine A2 0 E E E E KM E E E zT (AZ ?_)
 refine KT (G:=AL b3 (.cells #[vS x.2.txt,AA x.2.page,vS x.2.tag] 190)::(AL b2 (.cells #[.map (some bm)] 183)::Ad bm Pe Rr m::AL b1 (.cells (Cp nv).toArray 167)::Hz L::AL b0 (.cells #[vP Ar 0] 92)::(KO ⟨Ar,Ac,A7,BC,By,Bw,Bx⟩ p0 p0_1++H))) ?_
 refine AP (AQ (AG 1 ky rfl (AF rfl kQ (AG 0 GL rfl (AF rfl KE (Aq [AA x.2.page,vS x.2.tag] rfl C5 rfl rfl (Cj 0 rfl (by rintro(_ | (_ | j)) u hj<;>first | exact hj | exact absurd hj zS)) ?_))))))
 refine Pw (a:=(⟨x.2.page,x.2.tag⟩:BS)) 2 hm1 (T2 Cc) E lD E (by rw[Pe,hks];rfl) E E zT ?_
 refine AZ (Am ?_)
 exact H5 ⟨m1,fun suf' e=>by rw[WZ hxs e];exact h1,E⟩ (BM [] 1 E E E)
 obtain⟨m,hm,rfl⟩:=hJ
 have h1:=hm [] (List.append_nil _).symm
 obtain rfl:m=th:=zI h1
 refine Am (AI (Y ?_))
 refine Ak E rB zU fun b3=>?_
 refine Nd 0 (AL b3 (.cells #[zN] 120)) (B5 33 1 BL (V (Y ?_)))
 refine Gz (fv:=#[]) (cv:=#[_,_,_]) E E E ?_
 refine B0 [_] E qY qN rG ⟨E,zT⟩ E ?_
 refine Ba E E zU fun b4=>?_
 refine B5 190 3 AU (U E (V ?_))
 have hcon:=Ch (K:=K) (w0:=w0) (H:=(AL b1 (.cells (Cp nv).toArray 167)::H)++[BO D]) (f:=94) (B:=[Hz L]) (Hin:=LT b4 (.func (.func 92) #[] #[vP b2 0,vP b0 0,vP b3 0]) (.slice none 0 0) ⟨[],0⟩::AD 190 3 (.slice none 0 0) AU []::TN b2 bm b0 b3 (⟨Ar,Ac,A7,BC,By,Bw,Bx⟩:N6) m (.slice none 0 0) ⟨[],p0,p0_1⟩) fun K' w1 hkk hB=>
  Q7 (C:=TN b2 bm b0 b3 (⟨Ar,Ac,A7,BC,By,Bw,Bx⟩:N6) m) (bp:=b4) (vo:=.slice none 0 0) (ca:=.slice none 0 0) (cs:=#[vP b2 0,vP b0 0,vP b3 0]) p9 jn n (hS.keeps hkk) hy (hnz.lent (hB _ zS))
 generalize hpo:(fun(u:Value) (M:List AX)=>∃M',M=[Hz L]++M'∧(u=.agg (Bt y.1).toArray∧∃vo' ca',M'=LT b4 (.func (.func 92) #[] #[vP b2 0,vP b0 0,vP b3 0]) vo' y.2.1::AD 190 3 vo' AU y.2.1.out::TN b2 bm b0 b3 (⟨Ar,Ac,A7,BC,By,Bw,Bx⟩:N6) m ca' y.2.2))=po at hcon
 refine Y (J E (Aq (Cp nv) E NB E E (Aj 6 E) ?_))
 refine SL.heap (H':=([Hz L]++(LT b4 (.func (.func 92) #[] #[vP b2 0,vP b0 0,vP b3 0]) zN ⟨[],0⟩::AD 190 3 zN AU []::TN b2 bm b0 b3 (⟨Ar,Ac,A7,BC,By,Bw,Bx⟩:N6) m zN ⟨[],p0,p0_1⟩))++(AL b1 (.cells (Cp nv).toArray 167)::H)) ?_ (BM [7,1,0,4,5,8,3,2,9,10,11,12,13,14,15,6] 16 E E E)
 refine Bd (vs:=[_,_]) (Hin:=[Hz L]++(LT b4 (.func (.func 92) #[] #[vP b2 0,vP b0 0,vP b3 0]) zN ⟨[],0⟩::AD 190 3 zN AU []::TN b2 bm b0 b3 (⟨Ar,Ac,A7,BC,By,Bw,Bx⟩:N6) m zN ⟨[],p0,p0_1⟩)) (Hr:=AL b1 (.cells (Cp nv).toArray 167)::H) E E ⟨E,E,zT⟩ j9 E E hcon ?_
 intro u0 M0 hpost
 rw[←hpo]at hpost
 obtain⟨_,rfl,rfl,vo,ca,rfl⟩:=hpost
 refine⟨trivial,?_⟩
 refine V ?_
 unfold ai at h
 refine AH (Y (J E (AT E E (AF E Rz (AG 1 QF E (Z E BJ (V ?_)))))))
 refine AN h E (fun hc3 h=>?_) fun hc3 h=>?_
 split at h
 cases h
 rename_i hbt
 refine AE h fun v' hv' h=>?_
 obtain rfl:=zI h
 refine AH (Y (AG 6 en E (Dh 7 E CM E E (J E (V (AP ?_))))))
 refine SX.heap (SX.mono (BG (α:=Nat×A0) (fun x=>x.1≤y.2.2.tk.length∧R6 (y.2.2.tk.drop x.1) x.2 y.2.2.d=some v') (fun x=>[(3,vP b0 0),(14,vP b4 0),(48,ca),(49,vI (y.2.2.tk.length:Int)),(50,vI (x.1:Int))])
  (fun x=>LT b4 (.func (.func 92) #[] #[vP b2 0,vP b0 0,vP b3 0]) vo y.2.1::AL b0 (.cells #[vP Ar 0] 92)::AD 33 1 ca BL y.2.2.tk::(KO (⟨Ar,Ac,A7,BC,By,Bw,Bx⟩:N6) x.2 y.2.2.d++H))
  (fun x=>y.2.2.tk.length-x.1) (fun x D hp=>?_) (0,y.2.2.v) ⟨Nat.zero_le _,hv'⟩) tL) (BM [1,5,7,8,9,10,11,12,13,14] 16 rfl rfl rfl)
 obtain⟨i,v1⟩:=x
 obtain⟨hi,hg⟩:=hp
 dsimp only at hi hg ⊢
 refine Y (Z E A4 (V (AH ?_)))
 refine Av E (fun hc4=>?_) (fun hc4=>?_)
 have hlt:i<y.2.2.tk.length:=by
  have:=of_decide_eq_true hc4
  omega
 clear hc4
 have hnth:BA y.2.2.tk (i:Int)=some y.2.2.tk[i]:=by
  rw[BA,if_pos zO]
  exact List.getElem?_eq_getElem hlt
 rw[List.drop_eq_getElem_cons hlt,R6]at hg
 refine AE hg fun z hz hg=>?_
 refine AJ (AI (AH (AP (Y ?_))))
 refine CG 2 hnth E CM Bg E E E fun g1 m1 cp1 hv1=>?_
 refine Bq E A1 E (B7 (sz:=1) (enc:=BL) 2 0 zV E hv1 hnth E) ?_
 refine U E (V (AQ (AG 1 SK E (J E ?_))))
 refine SL.heap (H':=KO (⟨Ar,Ac,A7,BC,By,Bw,Bx⟩:N6) v1 y.2.2.d++([_,_,_]++H)) ?_ (fun _ hw=>F3 (A:=[_,_,_]) (B:=KO (⟨Ar,Ac,A7,BC,By,Bw,Bx⟩:N6) v1 y.2.2.d) (R:=H) hw)
 have hcon:=XC (K:=K) (w0:=w0) (H:=([LT b4 (.func (.func 92) #[] #[vP b2 0,vP b0 0,vP b3 0]) vo y.2.1,AL b0 (.cells #[vP Ar 0] 92),AD 33 1 ca BL y.2.2.tk]++H)++[BO D]) (Ar:=Ar) (Ac:=Ac) (A7:=A7) (BC:=BC) (By:=By) (Bw:=Bw) (Bx:=Bx) hz
 refine Bd (vs:=[_,_]) (Hin:=KO (⟨Ar,Ac,A7,BC,By,Bw,Bx⟩:N6) v1 y.2.2.d) (Hr:=[_,_,_]++H) E E ⟨E,E,zT⟩ kA E E hcon ?_
 rintro _ _ ⟨rfl,rfl⟩
 refine⟨trivial,?_⟩
 refine SL.heap (H':=[_,_,_]++(KO (⟨Ar,Ac,A7,BC,By,Bw,Bx⟩:N6) z.2 y.2.2.d++H)) ?_ (fun _ hw=>F3 (A:=KO (⟨Ar,Ac,A7,BC,By,Bw,Bx⟩:N6) z.2 y.2.2.d) (B:=[_,_,_]) (R:=H) hw)
 refine AZ (Am (AI (AQ (Z E (Bb zO zO) (J E (AZ ?_))))))
 exact Au (i+1,z.2) ⟨hlt,hg⟩ (by dsimp only;omega) tL (BM [0,1,2] 3 E E E)
 have hge:i=y.2.2.tk.length:=by
  have:=of_decide_eq_false hc4
  omega
 subst hge
 rw[List.drop_length,R6]at hg
 obtain rfl:v1=v':=zI hg
 refine Ax (A3 (BZ (A5 (AI (AH (Aw DC [0] (CF [(true,0),(true,1),(true,2),(true,3),(true,4),(true,5)] .nil) zK (J E (AT E E (AF E Rz (AG 0 QF E (U E (U E (V (AK (Ab (OV 190 3 AU ?_))))))))))))))))
 exact Ag (ES E E E) (Af (M:=_::KO (⟨Ar,Ac,A7,BC,By,Bw,Bx⟩:N6) v1 y.2.2.d) ⟨_,E,E⟩ fun _ hw=>BT.pick (H:=[_,_,_,_]) hw [0] 4 E)
 obtain rfl:=zI h
 refine AJ (AI (Y (J E (AT E E (AF E XW (AG 1 QG E (U E (U E (V (AK ?_))))))))))
 exact Ag (ES E E E) (Af (M:=AD 190 3 vo AU y.2.1.out::KO (⟨Ar,Ac,A7,BC,By,Bw,Bx⟩:N6) y.2.2.v y.2.2.d) ⟨_,E,E⟩ fun _ hw=>BT.pick (H:=[_,_,_,_,_,_,_,_,_,_,_,_,_,_,_,_]) hw [2,8,9,10,11,12,13,14] 16 E)
end

section
structure sa where
 out:List BI
 rows:List Ao
 count:Int
end

section
variable {K:Nat→Prop}{w0:World}{H:List AX}
end

section
variable {K:Nat→Prop}{w0:World}{H:List AX}
end

section
variable {K:Nat→Prop}{w0:World}{H:List AX}
end

section
def rO(l:List Ao):Prop:=l.Pairwise fun a b=>a.id≤b.id
inductive SB (bs:Nat):List Ao→Prop
 | last (S:List Ao):S.length≤bs→rO S→SB bs S
 | more (S R:List Ao):S.length=bs→rO S→SB bs R→SB bs (S++R)
end

section
variable {n:Nat}{T:List UInt32}{v:A0}{d:Ai}
end

section
theorem bO.lastE:∀ {ls:List (List Ao)} {r0 r:BS} {seg:List BI} ,ls≠[]→bO ls r0 seg r→∃a s,seg=a++[⟨s,r.page,r.tag⟩]
 | [],_,_,_,h,_=>absurd rfl h
 | l::ls,r0,seg,r,_,h=>by
  obtain⟨r1,seg',h1,rfl,h2⟩:=h
  rcases ls with _ | ⟨l2,ls⟩
  obtain⟨rfl,rfl⟩:=h2
  exact⟨[],_,rfl⟩
  obtain⟨a,s,rfl⟩:=bO.lastE zS h2
  exact⟨_::a,s,rfl⟩
theorem Wd.lastE{f:Nat}{t:CU}{seg:List BI}{r:BS}(h:Wd f t seg r):∃a s,seg=a++[⟨s,r.page,r.tag⟩]:=by
 cases f with
 | zero=>exact h.elim
 | succ f=>
  rcases h.2 with⟨_,h2⟩ | ⟨_,segs,rs,_,_,rfl⟩
  refine bO.lastE ?_ h2
  intro e
  have:=congrArg List.length e
  rw[List.length_reverse,Qk,List.length_nil]at this
  omega
  exact⟨segs,_,rfl⟩
end



section
theorem i9{n:Int}(h0:0≤n)(h1:n≤1048576):E7 n=some (List.replicate n.toNat 0):=by
 unfold E7 eM
 rw[if_pos ⟨h0,by omega,by omega⟩,AB]
def WI(d:Ai):Bool := !(d.isCut&&decide (d.lasts=0)||d.off)
def Iu(d:Ai):Ai:={ d with lasts:=if d.isCut then wI (d.lasts-1)else d.lasts,counts:=wI (d.counts+1) }
def aT(d:Ai):Ai:={ d with off:=true }
theorem Sp(d:Ai):DS d=some (if WI d then(0,Iu d)else(71,aT d)):=by
 obtain⟨off,isCut,lasts,counts,bl,pd,bd,rc,rt,rb⟩:=d
 unfold DS Eg Eh
 by_cases h0:lasts=0<;>cases off<;>cases isCut<;>simp[WI,Iu,aT,h0]
def ka(d:Ai)(r:Ai):Int×Ai:=if WI d then(0,r)else(71,aT d)
theorem aL(d:Ai)(p:UInt32):OQ d p=some (decide (p.toNat<d.blocks.length)):=by
 unfold OQ
 rw[CB]
 congr 1
 simp
theorem i7{d:Ai}{p:UInt32}{s:List UInt8}(hp:p.toNat<d.blocks.length)(hs:s.length=256)(hm:d.pend.length<9223372036854775807):Ib d p s=some (ka d { Iu d with pend:=MI d.pend p s }):=by
 unfold Ib Jz
 rw[aL,AB,CB,zt hp,hs]
 simp only[Sp,AB]
 cases h:WI d
 simp[ka,h,aT]
 simp only[ka,h,if_true]
 have:(Iu d).pend=d.pend:=rfl
 simp[Mr,this,hm]
def IT(d:Ai)(p:UInt32):List UInt8:=(Cy d.pend p).getD (d.blocks.getD p.toNat [])
theorem iH{d:Ai}{p:UInt32}(hp:p.toNat<d.blocks.length):Ru d p=some (IT d p):=by
 unfold Ru IT
 rw[CB,CB]
 cases h:Cy d.pend p with
 | some s=>simp
 | none=>
  rw[HK,List.getElem?_eq_getElem hp]
  simp[hp]
theorem kr{d:Ai}{p:UInt32}(hp:p.toNat<d.blocks.length):Lu d p=some (if d.off then([],71)else if(Cy d.bad p).getD false then([],70)else(IT d p,0)):=by
 unfold Lu
 rw[aL,AB,CB,zt hp,iH hp]
 cases d.off
 cases h:(Cy d.bad p).getD false<;>simp[CB,h]
 simp
theorem oI{n:Int}(h1:4≤n)(h2:n≤4096):JK n=some (some { off:=false,isCut:=false,lasts:=0,counts:=0,blocks:=List.replicate n.toNat (List.replicate 256 0),pend:=[],bad:=[],rcnt:=0,rtag:=List.replicate 32 0,rboots:=0 },0):=by
 unfold JK SF an
 have e:(decide (n<4)||decide (4096<n))=false:=by simp;omega
 rw[e,CI]
 simp only[AB]
 rw[if_pos zS,AB,if_pos zS,AB,if_pos ⟨by omega,by omega⟩,AB]
 rfl
theorem iO{α β:Type}{F:(α→Option β)→α→Option β}(P:Nat→α→Prop)(N:Nat){z:Option β}(hs:∀i x,i<N→P i x→∃x',P (i+1) x'∧∀k,F k x=k x')(he:∀x,P N x→∀k,F k x=z){m:Nat}(hm:N<m){x:α}(h0:P 0 x):CE F m x=z:=by
 have key:∀d i m x,i+d=N→d<m→P i x→CE F m x=z:=by
  intro d
  induction d with
  | zero=>
   intro i m x hi hm hp
   obtain rfl:i=N:=zO
   obtain⟨m,rfl⟩:∃k,m=k+1:=⟨m-1,by omega⟩
   exact he x hp _
  | succ d ih=>
   intro i m x hi hm hp
   obtain⟨m,rfl⟩:∃k,m=k+1:=⟨m-1,by omega⟩
   obtain⟨x',hp',hx⟩:=hs i x zO hp
   show F (CE F m) x=z
   rw[hx]
   exact ih (i+1) m x' zO zO hp'
 exact key N 0 m x zO hm h0
theorem oJ{d r:Ai}(h:WI d=true):ka d r=(0,r):=by simp[ka,h]
end



section
theorem Xv(l:List BK)(hl:l.length≤1048576){n:Nat}(hm:16<n):Gr n l=some (DT l):=by
 unfold Gr DT
 by_cases h16:l.length≤16
 rw[show decide (16<(l.length:Int))=false by simp;omega,show decide (l.length≤16)=true by simp[h16]]
 simp only[CI,Bool.true_and]
 unfold Jo
 refine(congrArg (CE _ n) ?_).trans ((iN (fun i=>(KK l i,(i:Int))) (fun i=>some (((K8 l).drop i).all (·.2))) l.length (fun i hi k hk=>?_) (fun k=>?_) zO).trans ?_)
 rfl
 have ei:((i+1:Nat):Int)=(i:Int)+1:=zO
 have st:(K8 l).drop i=((l.getD i GQ).gen,N1 l i)::(K8 l).drop (i+1):=by
  rw[List.drop_eq_getElem_cons (by rw[Ph];exact hi)]
  congr 1
  exact zI ((List.getElem?_eq_getElem _).symm.trans (Tf l i hi))
 dsimp only at hk ⊢
 rw[st,List.all_cons]
 simp only[GC,show decide ((i:Int)<(l.length:Int))=true by simp;omega,C2]
 rw[Ct (k:=i) GQ rfl hi,AB,AB]
 have hko:N1 l i = !((decide ((l.getD i GQ).gen≤KK l i))||(!decide (((l.getD i GQ).secret.length:Int)=32))):=by
  unfold N1
  rw[Bool.not_or,Bool.not_not]
  congr 1
  rw[Bool.eq_iff_iff]
  simp[UInt32.not_le]
 generalize hg:(decide ((l.getD i GQ).gen≤KK l i))=p at hko
 generalize (!decide (((l.getD i GQ).secret.length:Int)=32))=q at hko
 have ho:WH p (some q)=some (p||q):=by cases p<;>rfl
 rw[ho,AB,hko]
 cases hpq:(p||q)with
 | true=>simp only[C2,Bool.not_true,Bool.false_and]
 | false=>
  simp only[CI,Bool.not_false,Bool.true_and]
  rw[AB,CB,DB zO zO,←ei]
  exact hk
 simp only[GC,show decide ((l.length:Int)<(l.length:Int))=false by simp,CI,Jn]
 rw[List.drop_of_length_le (by rw[Ph];exact Nat.le_refl _)]
 rfl
 simp
 rw[show decide (16<(l.length:Int))=true by simp;omega,show decide (l.length≤16)=false by simp;omega]
 rfl
theorem gH(l:List BK)(g:UInt32)(hl:l.length≤1048576){n:Nat}(hm:16<n):JO n l g=some (DP l g):=by
 unfold JO
 rw[Xv l hl hm,AB]
 cases hr:DT l with
 | false=>
  simp only[Bool.not_false,C2]
  unfold DP
  rw[if_pos hr]
  rfl
 | true=>
  simp only[Bool.not_true,CI]
  have h16:=((No l).1 hr).1
  unfold Ko
  have hno:(∀k∈l,k.gen≠g)→DP l g=(GQ,41):=fun h=>by
   unfold DP
   rw[if_neg (by simp[hr])]
   split
   rename_i k hk
   rw[if_neg (h k (List.mem_of_getElem? hk))]
   rfl
  refine(congrArg (CE _ n) ?_).trans (iP (fun i=>((0:UInt32),([]:List UInt8),(i:Int))) (fun i=>∀k∈l.take i,k.gen≠g) l.length (fun i hi hp k hk=>?_) (fun hp k=>?_) zS zO)
  rfl
  have ei:((i+1:Nat):Int)=(i:Int)+1:=zO
  have hgi:l[i]? = some (l.getD i GQ):=JS GQ hi
  dsimp only at hk ⊢
  simp only[Gq,show decide ((i:Int)<(l.length:Int))=true by simp;omega,C2]
  rw[Ct (k:=i) GQ rfl hi,AB]
  by_cases hg:(l.getD i GQ).gen=g
  rw[show decide ((l.getD i GQ).gen=g)=true by simp only[hg,decide_true]]
  simp only[C2]
  rw[AB,Yl.2 ⟨hr,List.mem_of_getElem? hgi,hg⟩]
  rw[show decide ((l.getD i GQ).gen=g)=false by simp only[hg,decide_false]]
  simp only[CI]
  rw[CB,DB zO zO,←ei]
  refine hk fun k' hk'=>?_
  rw[List.take_add_one,hgi]at hk'
  rcases List.mem_append.1 hk' with h | h
  exact hp k' h
  simp only[Option.toList_some,List.mem_singleton]at h
  rw[h];exact hg
  simp only[Gq,show decide ((l.length:Int)<(l.length:Int))=false by simp,CI,Kn]
  rw[List.take_length]at hp
  rw[hno hp]
  rfl
end

section
def eQ(a b c d:UInt8):UInt32:=((a.toUInt32 ||| shl32 b.toUInt32 8) ||| shl32 c.toUInt32 16) ||| shl32 d.toUInt32 24
def OJ(b:List UInt8):UInt32:=eQ (b.getD 0 0) (b.getD 1 0) (b.getD 2 0) (b.getD 3 0)
theorem SM(b:UInt8)(k:Nat)(h:k≤24):(shl32 b.toUInt32 k).toNat=b.toNat*2^k:=by
 have h1:=b.toNat_lt
 simp only[shl32,UInt32.toNat_ofNat',Nat.min_eq_left (show k≤32 by omega),UInt8.toNat_toUInt32]
 refine Nat.mod_eq_of_lt ?_
 calc b.toNat*2^k<2^8*2^k:=Nat.mul_lt_mul_of_pos_right h1 (Nat.two_pow_pos k)
  _=2^(8+k):=(Nat.pow_add 2 8 k).symm
  _≤2^32:=Nat.pow_le_pow_right zD zO
theorem aS{u v k:Nat}(h:u<2^k):u ||| v*2^k=u+v*2^k:=by
 rw[Nat.or_comm,Nat.mul_comm,←Nat.two_pow_add_eq_or_of_lt h,Nat.add_comm]
theorem eR(a b c d:UInt8):(eQ a b c d).toNat=a.toNat+b.toNat*2^8+c.toNat*2^16+d.toNat*2^24:=by
 have ha:=a.toNat_lt
 have hb:=b.toNat_lt
 have hc:=c.toNat_lt
 unfold eQ
 rw[UInt32.toNat_or,UInt32.toNat_or,UInt32.toNat_or,SM _ 8 zD,SM _ 16 zD,SM _ 24 zD,UInt8.toNat_toUInt32]
 rw[aS (u:=a.toNat) (k:=8) zO,aS (k:=16) zO,aS (k:=24) zO]
theorem ci(x:UInt32)(r:List UInt8):OJ (CT x.toUInt64 4++r)=x:=by
 apply UInt32.toNat_inj.1
 have hx:=x.toNat_lt
 unfold OJ
 rw[eR]
 simp only[Nm _ 4 _ (show 0<4 by decide),Nm _ 4 _ (show 1<4 by decide),Nm _ 4 _ (show 2<4 by decide),Nm _ 4 _ (show 3<4 by decide),UInt64.toNat_toUInt8]
 rw[L5 _ _ zD,L5 _ _ zD,L5 _ _ zD,L5 _ _ zD]
 simp only[UInt32.toNat_toUInt64]
 omega
theorem cg(T:List UInt32)(k:BK)(h:C3)(s:List UInt8):OJ (HP T k h s)=h.page:=by
 rw[HP,KX,Xs]
 simp only[List.append_assoc]
 exact ci _ _
theorem gc{b:List UInt8}(h:b.length=256):ZB b=some (b.drop 224):=by
 unfold ZB
 rw[if_pos zO,h]
theorem kd{T:List UInt32}{v:A0}{d:Ai}{p:UInt32}{tag b:List UInt8}(hr:Lu d p=some (b,0))(hb:b.length=256)(hl:v.ring.length≤1099511627776):
  Tc T v d p tag=some (if b.drop 224=tag∧OJ b=p then VI T v.ring b else(R7,[],61)):=by
 unfold Tc
 have g:∀i:Nat,i<4→BA b (i:Int)=some (b.getD i 0):=fun i hi=>Ct 0 rfl zO
 have g0:=g 0 zO
 have g1:=g 1 zO
 have g2:=g 2 zO
 have g3:=g 3 zO
 rw[hr,AB]
 show(BA b 0).bind _=_
 rw[show BA b 0=some (b.getD 0 0)from g0,AB,show BA b 1=some (b.getD 1 0)from g1,AB,show BA b 2=some (b.getD 2 0)from g2,AB,show BA b 3=some (b.getD 3 0)from g3,AB,CB,gc hb,AB]
 change cond (!decide (b.drop 224=tag) || !decide (OJ b=p)) _ _=_
 by_cases h:b.drop 224=tag∧OJ b=p
 rw[if_pos h,zt h.1,zt h.2]
 unfold kc
 rw[if_pos ⟨hl,by show b.length≤_;omega⟩]
 rfl
 rw[if_neg h]
 have:(!decide (b.drop 224=tag) || !decide (OJ b=p))=true:=by
  simp only[Bool.or_eq_true,Bool.not_eq_true',decide_eq_false_iff_not]
  exact Classical.not_and_iff_not_or_not.1 h
 rw[this]
 rfl
theorem ef{r:BS}(h1:2≤r.page.toNat)(h2:r.tag.length=32):Do r=some true:=by
 unfold Do
 have e1:decide ((2:UInt32)≤r.page)=true:=by rw[decide_eq_true_eq,UInt32.le_iff_toNat_le];exact h1
 have e2:decide ((r.tag.length:Int)=32)=true:=by rw[decide_eq_true_eq];omega
 rw[e1,e2]
 rfl
theorem kq{T:List UInt32}{v:A0}{d:Ai}{r:BS}{b:List UInt8}(h1:2≤r.page.toNat)(h2:r.tag.length=32)(hr:Lu d r.page=some (b,0))(hb:b.length=256)(hl:v.ring.length≤1099511627776):
  Qh T v d r=some (if b.drop 224=r.tag∧OJ b=r.page then(VI T v.ring b).2 else([],61)):=by
 unfold Qh
 rw[ef h1 h2,AB,CB]
 unfold Vm
 rw[kd hr hb hl]
 simp only[AB,Bool.not_true,CI]
 split<;>rfl
abbrev hd(v:A0)(p:UInt32):C3:=⟨p,v.gen,v.boot,v.seals⟩
structure RH(N c:Nat)(d:Ai):Prop where
 blen:d.blocks.length=N
 nle:N≤4096
 on:d.off=false
 uncut:d.isCut=false
 good:d.bad=[]
 plen:d.pend.length≤c
 cle:c≤100
theorem RH.write{N c:Nat}{d:Ai}(D:RH N c d)(hc:c+1≤100){p:UInt32}{b:List UInt8}(hp:p.toNat<N)(hb:b.length=256):
  Ib d p b=some (0,{ d with counts:=wI (d.counts+1),pend:=MI d.pend p b })∧RH N (c+1) { d with counts:=wI (d.counts+1),pend:=MI d.pend p b }:=by
 have h0:WI d=true:=by simp[WI,D.on,D.uncut]
 constructor
 rw[i7 (by rw[D.blen];exact hp) hb (by have:=D.plen;have:=D.cle;omega),oJ h0]
 simp[Iu,D.uncut]
 refine⟨D.blen,D.nle,D.on,D.uncut,D.good,?_,hc⟩
 have:(Gw d.pend p).length≤d.pend.length:=List.length_filter_le ..
 have:=D.plen
 show(Gw d.pend p).length+1≤c+1
 omega
theorem RH.read{N c:Nat}{d:Ai}(D:RH N c d){p:UInt32}(hp:p.toNat<N):Lu d p=some (IT d p,0):=by
 rw[kr (by rw[D.blen];exact hp),D.on,D.good]
 rfl
theorem VE{d:Ai}{p q:UInt32}{b:List UInt8}{c:Int}:IT { d with counts:=c,pend:=MI d.pend p b } q=if p=q then b else IT d q:=by
 unfold IT
 rw[Yu]
 split<;>rfl
theorem Y7{T:List UInt32}{l:List BK}{h:C3}{s:List UInt8}{k:BK}(hl:l.length≤1099511627776)(hk:DP l h.gen=(k,0))(hs:s.length≤198):VV T l h s=some (HP T k h s,0):=by
 unfold VV HF
 rw[if_pos ⟨hl,by omega⟩,hk]
 simp
 omega
theorem cz{T:List UInt32}{v:A0}{d:Ai}{N c:Nat}{k:BK}{p:UInt32}{s:List UInt8}(D:RH N c d)(hc:c+1≤100)(hl:v.ring.length≤1099511627776)(hk:DP v.ring v.gen=(k,0))(hp:p.toNat<N)(hs:s.length≤198):
  KB T v d p s=some ((HP T k (hd v p) s).drop 224,0,{ v with seals:=v.seals+1 },{ d with counts:=wI (d.counts+1),pend:=MI d.pend p (HP T k (hd v p) s) }):=by
 unfold KB
 have hb:=KW T k (hd v p) hs
 rw[Y7 (h:=hd v p) hl hk hs,AB,(D.write hc hp hb).1]
 simp only[AB,gc hb]
 rfl
theorem Xd(v:A0):∀(k i:Nat),(∀x,i≤x→x<i+k→EK v (UInt32.ofNat x)=true)→F1 v i k=[]
 | 0,i,_=>rfl
 | k+1,i,h=>by
  rw[F1,if_pos (h i (Nat.le_refl _) zO)]
  exact Xd v k (i+1) fun x h1 h2=>h x zO zO
theorem cX(v:A0)(j:Nat)(hj:EK v (UInt32.ofNat j)=false):∀(k i:Nat),i≤j→j<i+k→(∀x,i≤x→x<j→EK v (UInt32.ofNat x)=true)→F1 v i k=[UInt32.ofNat j]
 | 0,i,h1,h2,_=>by omega
 | k+1,i,h1,h2,h=>by
  by_cases e:i=j
  subst e
  rw[F1,if_neg (by rw[hj];decide)]
  rw[F1,if_pos (h i (Nat.le_refl _) zO)]
  exact cX v j hj k (i+1) zO zO fun x h1 h2=>h x zO zO
theorem i6{T:List UInt32}{v:A0}{d:Ai}{N c j:Nat}{k:BK}{s:List UInt8}(D:RH N c d)(hc:c+1≤100)(hl:v.ring.length≤1099511627776)(hk:DP v.ring v.gen=(k,0))(hs:s.length≤198)
(h2:2≤j)(hj:j<N)(hfree:EK v (UInt32.ofNat j)=false)(htk:∀x,2≤x→x<j→EK v (UInt32.ofNat x)=true)(ht:v.taken.length≤100):
  GP T v d s=some (⟨UInt32.ofNat j,(HP T k (hd v (UInt32.ofNat j)) s).drop 224⟩,0,{ v with seals:=v.seals+1,taken:=MI v.taken (UInt32.ofNat j) true },{ d with counts:=wI (d.counts+1),pend:=MI d.pend (UInt32.ofNat j) (HP T k (hd v (UInt32.ofNat j)) s) }):=by
 have hN:=D.nle
 have hjn:(UInt32.ofNat j).toNat=j:=by simp;omega
 unfold GP aK Uj
 rw[CB,zf zO,CI,AB,D.blen,if_pos zO,AB,cX v j hfree (N-2) 2 h2 zO htk]
 show Fl T v d s (UInt32.ofNat j)=_
 unfold Fl
 have h0:decide (UInt32.ofNat j=0)=false:=by
  rw[decide_eq_false_iff_not]
  intro e
  have:=congrArg UInt32.toNat e
  rw[hjn]at this
  simp at this
  omega
 rw[h0,CI,cz D hc hl hk (by rw[hjn];exact hj) hs]
 simp only[AB,Mr]
 rw[if_pos zO]
 rfl
theorem dK{T:List UInt32}{v:A0}{d:Ai}{N c:Nat}{s:List UInt8}(D:RH N c d)(hs:s.length≤198)(htk:∀x,2≤x→x<N→EK v (UInt32.ofNat x)=true):
  GP T v d s=some (⟨0,[]⟩,110,v,d):=by
 have hN:=D.nle
 unfold GP aK Uj
 rw[CB,zf zO,CI,AB,D.blen,if_pos zO,AB,Xd v (N-2) 2 (fun x h1 h2=>htk x h1 zO)]
 rfl
def R8(i:Nat):BK:=⟨UInt32.ofNat (i+1),List.replicate 32 (UInt8.ofNat (65+i))⟩
def Di(m:Nat):List BK:=(List.range m).map R8
theorem DQ(m:Nat):(Di m).length=m:=by simp[Di]
theorem cu(m:Nat):Di (m+1)=Di m++[R8 m]:=by simp[Di,List.range_succ]
theorem kw(m:Nat)(hm:m≤30){n:Nat}(hn:40≤n):Hp n (m:Int)=some (Di m):=by
 unfold Hp EF
 refine Ex (fun i=>(Di i,((i+1:Nat):Int))) m ?_ ?_ zO
 intro i hi k
 simp only[Gi]
 rw[zt zO,C2]
 unfold Kg
 refine Ex (fun j=>(List.replicate j (UInt8.ofNat (65+i)),(j:Int))) 32 ?_ ?_ zO
 intro j hj k'
 simp only[Gj]
 rw[zt zO,C2,DV zQ zQ,AB,CB]
 have e:IW (wI (64+((i+1:Nat):Int)))=UInt8.ofNat (65+i):=by
  rw[DB zO zO]
  unfold IW
  congr 1
  omega
 rw[e,DB zO zO,←List.replicate_succ']
 rfl
 intro k'
 simp only[Gj]
 rw[zf zO,CI]
 unfold Kf
 rw[DV (by simp[DQ];omega) (by simp[DQ];omega),AB]
 unfold Ke
 rw[CB,DB zO zO]
 have e:EL ((i+1:Nat):Int)=UInt32.ofNat (i+1):=by
  unfold EL
  congr 1
  omega
 rw[e,cu]
 rfl
 intro k
 simp only[Gi]
 rw[zf zO,CI]
 rfl
theorem VF{i:Nat}(h:i<30):(R8 i).gen.toNat=i+1:=by simp[R8];omega
theorem Qw(m:Nat)(hm:m≤16):DT (Di m)=true:=by
 refine(ed _).2 ⟨by rw[DQ];exact hm,?_,?_⟩
 unfold Di
 rw[List.pairwise_map]
 refine List.Pairwise.imp_of_mem ?_ List.pairwise_lt_range
 intro a b ha hb hlt
 have h1:=List.mem_range.1 ha
 have h2:=List.mem_range.1 hb
 rw[UInt32.lt_iff_toNat_lt,VF zO,VF zO]
 omega
 intro k hk
 obtain⟨i,hi,rfl⟩:=List.mem_map.1 hk
 have h1:=List.mem_range.1 hi
 refine⟨?_,by simp[R8]⟩
 rw[UInt32.lt_iff_toNat_lt,VF zO]
 simp
theorem cJ{m i:Nat}(hm:m≤16)(hi:i<m):DP (Di m) (R8 i).gen=(R8 i,0):=
 Yl.2 ⟨Qw m hm,List.mem_map.2 ⟨i,List.mem_range.2 hi,rfl⟩,rfl⟩
end

section
structure VS(N c:Nat)(R:List BK)(g:UInt32)(v:A0)(d:Ai):Prop where
 dev:RH N c d
 ring:v.ring=R
 rlen:R.length≤1099511627776
 gen:v.gen=g
 boot:v.boot=1
 tlen:v.taken.length≤c
structure Vh(T:List UInt32)(R:List BK)(d:Ai)(p g:UInt32)(q:UInt64)(s b:List UInt8):Prop where
 key:∃k,DP R g=(k,0)∧b=HP T k ⟨p,g,1,q⟩ s
 txt:s.length≤198
 is:IT d p=b
theorem Vh.len{T:List UInt32}{R:List BK}{d:Ai}{p g:UInt32}{q:UInt64}{s b:List UInt8}(h:Vh T R d p g q s b):b.length=256:=by
 obtain⟨k,_,rfl⟩:=h.key
 exact KW T k _ h.txt
theorem Vh.page{T:List UInt32}{R:List BK}{d:Ai}{p g:UInt32}{q:UInt64}{s b:List UInt8}(h:Vh T R d p g q s b):OJ b=p:=by
 obtain⟨k,_,rfl⟩:=h.key
 exact cg T k _ s
theorem Vh.opens{T:List UInt32}{R:List BK}{d:Ai}{p g:UInt32}{q:UInt64}{s b:List UInt8}(h:Vh T R d p g q s b):VI T R b=(⟨p,g,1,q⟩,s,0):=by
 obtain⟨k,hk,rfl⟩:=h.key
 have hs:HF T R ⟨p,g,1,q⟩ s=(HP T k ⟨p,g,1,q⟩ s,0):=by
  unfold HF
  have:=h.txt
  simp[hk]
  omega
 have:=eO (T:=T) (l:=R) (h:=⟨p,g,1,q⟩) (s:=s) (by rw[hs])
 rwa [hs]at this
theorem Vh.put{T:List UInt32}{R:List BK}{d d':Ai}{p p' g:UInt32}{q:UInt64}{s b b':List UInt8}(h:Vh T R d p g q s b)(hd:∀x,IT d' x=if p'=x then b' else IT d x)(hne:p'≠p):Vh T R d' p g q s b:=
 ⟨h.key,h.txt,by rw[hd,if_neg hne];exact h.is⟩
theorem iT{i j:Nat}(hi:i<4294967296)(hj:j<4294967296)(h:i≠j):UInt32.ofNat i≠UInt32.ofNat j:=fun e=>h (by
 have:=congrArg UInt32.toNat e
 simpa[Nat.mod_eq_of_lt hi,Nat.mod_eq_of_lt hj]using this)
theorem VS.write{T:List UInt32}{N c:Nat}{R:List BK}{g:UInt32}{v:A0}{d:Ai}(V9:VS N c R g v d)(hc:c+1≤100){k:BK}(hk:DP R g=(k,0)){s:List UInt8}(hs:s.length≤198)(j:Nat)
(h2:2≤j)(hj:j<N)(hfree:EK v (UInt32.ofNat j)=false)(htk:∀x,2≤x→x<j→EK v (UInt32.ofNat x)=true):
  ∃v' d' b,GP T v d s=some (⟨UInt32.ofNat j,b.drop 224⟩,0,v',d')∧VS N (c+1) R g v' d'∧v'.seals=v.seals+1∧v'.taken=MI v.taken (UInt32.ofNat j) true∧
   (∀q,IT d' q=if UInt32.ofNat j=q then b else IT d q)∧Vh T R d' (UInt32.ofNat j) g v.seals s b∧b=HP T k ⟨UInt32.ofNat j,g,1,v.seals⟩ s∧d'.blocks=d.blocks:=by
 have hN:=V9.dev.nle
 have hjn:(UInt32.ofNat j).toNat=j:=by simp;omega
 have hh:hd v (UInt32.ofNat j)=⟨UInt32.ofNat j,g,1,v.seals⟩:=by simp only[hd,V9.gen,V9.boot]
 have hb:=KW T k (hd v (UInt32.ofNat j)) hs
 have hw:=i6 (T:=T) V9.dev hc (by rw[V9.ring];exact V9.rlen) (by rw[V9.ring,V9.gen];exact hk) hs h2 hj hfree htk (by have:=V9.tlen;omega)
 refine⟨_,_,_,hw,⟨(V9.dev.write hc (by rw[hjn];exact hj) hb).2,V9.ring,V9.rlen,V9.gen,V9.boot,?_⟩,rfl,rfl,fun q=>VE,⟨⟨k,hk,by rw[hh]⟩,hs,?_⟩,by rw[hh],rfl⟩
 have:(Gw v.taken (UInt32.ofNat j)).length≤v.taken.length:=List.length_filter_le ..
 have:=V9.tlen
 show(Gw v.taken (UInt32.ofNat j)).length+1≤c+1
 omega
 rw[VE,if_pos rfl]
theorem VS.read{T:List UInt32}{N c:Nat}{R:List BK}{g g':UInt32}{v:A0}{d:Ai}(V9:VS N c R g v d){p:UInt32}{q:UInt64}{s b:List UInt8}(h:Vh T R d p g' q s b)(hp2:2≤p.toNat)(hp:p.toNat<N):
  Qh T v d ⟨p,b.drop 224⟩=some (s,0):=by
 have hb:=h.len
 have hr:Lu d p=some (b,0):=by rw[V9.dev.read hp,h.is]
 have ht:(b.drop 224).length=32:=by simp[hb]
 have hl:v.ring.length≤1099511627776:=by rw[V9.ring];exact V9.rlen
 have h1:=kq (T:=T) (v:=v) (d:=d) (r:=⟨p,b.drop 224⟩) hp2 ht hr hb hl
 rw[if_pos ⟨rfl,h.page⟩,V9.ring,h.opens]at h1
 exact h1
def d0(N:Nat):Ai:={ off:=false,isCut:=false,lasts:=0,counts:=0,blocks:=List.replicate N (List.replicate 256 0),pend:=[],bad:=[],rcnt:=0,rtag:=List.replicate 32 0,rboots:=0 }
def v0:A0:={ ring:=Di 1,gen:=1,boot:=1,seals:=0,taken:=[] }
theorem XQ{m:Nat}(h:1≤m)(hm:m≤16):DP (Di m) 1=(R8 0,0):=cJ hm h
def r0(N:Nat):Az:={ blk:=List.replicate N (List.replicate 256 0),pnd:=List.replicate N [],bads:=List.replicate N false,rcnt:=0,rtag:=List.replicate 32 0,rboots:=0,left := -1,off:=false }
theorem oH{N n:Nat}(h4:4≤N)(hN:N≤4096)(hn:N<n):Kp n (N:Int)=some (some (r0 N),0):=by
 have z:∀k:Nat,k≤1048576→E7 (k:Int)=some (List.replicate k 0):=fun k hk=>by
  rw[i9 zO zO]
  simp
 have z1:=z 32 zO
 have z2:=z 256 zO
 clear z
 unfold Kp r0
 have hc:(decide ((N:Int)<4)||decide (4096<(N:Int)))=false:=by simp;omega
 rw[hc,CI]
 show(E7 ((32:Nat):Int)).bind _=_
 rw[z1,AB]
 generalize List.replicate 32 (0:UInt8)=Y9
 generalize List.replicate 256 (0:UInt8)=Z9 at z2 ⊢
 unfold Ll
 refine Ex (fun i=>(List.replicate i Z9,List.replicate i [],List.replicate i false,(i:Int))) N ?_ ?_ hn
 intro i hi k
 simp only[He]
 rw[zt zO,C2]
 show(E7 ((256:Nat):Int)).bind _=_
 rw[z2,AB,DV zQ zQ,AB,DV zQ zQ,AB,DV zQ zQ,AB,CB,DB zO zO]
 rw[←List.replicate_succ',←List.replicate_succ',←List.replicate_succ']
 rfl
 intro k
 simp only[He]
 rw[zf zO,CI]
 rfl
end

section
structure Sz(N:Nat)(v:A0):Prop where
 nd:(v.taken.map (·.1)).Nodup
 tr:∀e∈v.taken,e.2=true∧2≤e.1.toNat∧e.1.toNat<N
theorem Sz.iff{N:Nat}{v:A0}(h:Sz N v)(p:UInt32):EK v p=true↔p∈v.taken.map (·.1):=by
 unfold EK
 constructor
 intro hp
 by_cases hm:∃e∈v.taken,e.1=p
 obtain⟨e,he,rfl⟩:=hm
 exact List.mem_map_of_mem he
 rw[Xk (fun e he e'=>hm ⟨e,he,e'⟩)]at hp
 exact absurd hp zD
 intro hp
 obtain⟨e,he,rfl⟩:=List.mem_map.1 hp
 rw[Ti h.nd he]
 exact(h.tr e he).1
theorem ofNat_toNat{x:UInt32}:UInt32.ofNat x.toNat=x:=UInt32.toNat_inj.1 zS
theorem Sz.full{N:Nat}{v:A0}(h:Sz N v)(hN:N≤4096)(hl:N-2≤v.taken.length):∀x,2≤x→x<N→EK v (UInt32.ofNat x)=true:=by
 intro x h1 h2
 rw[h.iff]
 by_cases hm:UInt32.ofNat x∈v.taken.map (·.1)
 exact hm
 exfalso
 have hnd:(x::v.taken.map fun e=>e.1.toNat).Nodup:=by
  refine List.nodup_cons.2 ⟨fun hx=>?_,?_⟩
  obtain⟨e,he,e'⟩:=List.mem_map.1 hx
  refine hm ?_
  rw[←e',ofNat_toNat]
  exact List.mem_map_of_mem he
  have:=h.nd
  rw[show(v.taken.map fun e=>e.1.toNat)=(v.taken.map (·.1)).map UInt32.toNat by simp]
  exact List.Pairwise.map _ (fun a b hab e=>hab (UInt32.toNat_inj.1 e)) this
 have:=Qp hnd (l':=(List.range (N-2)).map (·+2)) (fun a ha=>by
  have hb:2≤a∧a<N:=by
   rcases List.mem_cons.1 ha with rfl | ha
   exact⟨h1,h2⟩
   obtain⟨e,he,rfl⟩:=List.mem_map.1 ha
   exact(h.tr e he).2
  exact List.mem_map.2 ⟨a-2,List.mem_range.2 zO,by omega⟩)
 simp at this
 omega
theorem Yp{P:Nat→Prop}:∀k,(∃j,j<k∧P j)→∃j,j<k∧P j∧∀x,x<j→¬P x
 | 0,⟨j,h,_⟩=>by omega
 | k+1,⟨j,h,hP⟩=>by
  by_cases hk:∃i,i<k∧P i
  obtain⟨i,h1,h2,h3⟩:=Yp k hk
  exact⟨i,by omega,h2,h3⟩
  have:j=k:=by
   rcases Nat.lt_or_ge j k with h' | h'
   exact absurd ⟨j,h',hP⟩ hk
   omega
  subst this
  exact⟨j,by omega,hP,fun x hx hPx=>hk ⟨x,hx,hPx⟩⟩
theorem Sz.free{N:Nat}{v:A0}(h:Sz N v)(hN:N≤4096)(hl:v.taken.length<N-2):∃j,2≤j∧j<N∧EK v (UInt32.ofNat j)=false∧∀x,2≤x→x<j→EK v (UInt32.ofNat x)=true:=by
 have:∃j,j<N∧(2≤j∧EK v (UInt32.ofNat j)=false):=by
  by_cases hx:∃j,j<N∧(2≤j∧EK v (UInt32.ofNat j)=false)
  exact hx
  exfalso
  have hnd:((List.range (N-2)).map (fun i=>UInt32.ofNat (i+2))).Nodup:=by
   refine List.pairwise_map.2 (List.Pairwise.imp_of_mem ?_ List.nodup_range)
   intro a b ha hb hne
   have ha:=List.mem_range.1 ha
   have hb:=List.mem_range.1 hb
   exact iT zO zO zO
  have:=Qp hnd (l':=v.taken.map (·.1)) (fun a ha=>by
   obtain⟨i,hi,rfl⟩:=List.mem_map.1 ha
   have hi:=List.mem_range.1 hi
   rw[←h.iff]
   cases hc:EK v (UInt32.ofNat (i+2))with
   | true=>rfl
   | false=>exact absurd ⟨i+2,by omega,by omega,hc⟩ hx)
  simp at this
  omega
 obtain⟨j,h1,⟨h2,h3⟩,h4⟩:=Yp N this
 refine⟨j,h2,h1,h3,fun x hx1 hx2=>?_⟩
 cases hc:EK v (UInt32.ofNat x)with
 | true=>rfl
 | false=>exact absurd ⟨hx1,hc⟩ (h4 x hx2)
def Rd(T:List UInt32)(R:List BK)(N:Nat)(v:A0)(d:Ai)(s:BI):Prop:=2≤s.page.toNat∧s.page.toNat<N∧EK v s.page=true∧∃g' qn b,Vh T R d s.page g' qn s.txt b∧s.tag=b.drop 224
theorem Rd.ok{T:List UInt32}{R:List BK}{N c:Nat}{g:UInt32}{v:A0}{d:Ai}{s:BI}(V9:VS N c R g v d)(h:Rd T R N v d s):Qh T v d ⟨s.page,s.tag⟩=some (s.txt,0)∧FA ⟨s.page,s.tag⟩=true∧s.txt.length≤198:=by
 obtain⟨h1,h2,_,g',qn,b,hb,ht⟩:=h
 have hl:=hb.len
 refine⟨by rw[ht];exact V9.read hb h1 h2,?_,hb.txt⟩
 unfold FA
 rw[Bool.and_eq_true,decide_eq_true_eq,decide_eq_true_eq]
 refine⟨UInt32.le_iff_toNat_le.2 h1,?_⟩
 show(s.tag.length:Int)=32
 rw[ht,List.length_drop,hl]
 rfl
structure jX(N c0:Nat)(R:List BK)(g:UInt32)(vb:A0)(db:Ai)(q:YE):Prop where
 vs:VS N (c0+q.tk.length) R g q.v q.d
 seals:q.v.seals=vb.seals+UInt64.ofNat q.tk.length
 tak:q.v.taken=(q.tk.map fun p=>(p,true)).reverse++vb.taken
 ok:Sz N q.v
 keep:∀p,p∉q.tk→IT q.d p=IT db p
 lim:c0+q.tk.length+(N-2-q.v.taken.length)≤100
theorem jX.notin{N c0:Nat}{R:List BK}{g:UInt32}{vb:A0}{db:Ai}{q:YE}(S:jX N c0 R g vb db q)(hb:Sz N vb){p:UInt32}(h:EK vb p=true):p∉q.tk∧EK q.v p=true:=by
 rw[hb.iff]at h
 constructor
 intro hp
 have:=S.ok.nd
 rw[S.tak,List.map_append]at this
 refine(List.nodup_append.1 this).2.2 p ?_ p h rfl
 rw[List.map_reverse,List.mem_reverse,List.map_map]
 exact List.mem_map.2 ⟨p,hp,rfl⟩
 rw[S.ok.iff,S.tak,List.map_append]
 exact List.mem_append_right _ h
theorem jX.base{T:List UInt32}{N c0:Nat}{R:List BK}{g:UInt32}{vb:A0}{db:Ai}{q:YE}(S:jX N c0 R g vb db q)(hb:Sz N vb){s:BI}(h:Rd T R N vb db s):Rd T R N q.v q.d s:=by
 obtain⟨h1,h2,h3,g',qn,b,hb',ht⟩:=h
 obtain⟨h4,h5⟩:=S.notin hb h3
 exact⟨h1,h2,h5,g',qn,b,⟨hb'.key,hb'.txt,by rw[S.keep _ h4];exact hb'.is⟩,ht⟩
end

section
theorem VJ:∀ {f:Nat} {l:List Ao} {t:CU} ,Tr f l t→(l=[]→Ox f t=1)∧(l≠[]→Ox f t+1≤2*l.length)
  | 0,_,_,h=>h.elim
  | f+1,l,t,h=>by
    rcases h with⟨rfl,rfl⟩ | ⟨hne,c,L,A,⟨_,rfl⟩ | ⟨h4,hL,ks,rfl,hk⟩⟩
    exact⟨fun _=>rfl,fun h=>absurd rfl h⟩
    refine⟨fun h=>absurd h hne,fun _=>?_⟩
    have:=List.length_pos_iff.2 hne
    rw[Ox,if_pos (show(CU.mk c.x c.y c.lev l []).kids.length=0 from rfl)]
    simp only[CU.rows]
    omega
    refine⟨fun h=>absurd h hne,fun _=>?_⟩
    have hkl:=hk.length
    have hq2:=(Tq A hL).1
    rw[Ox,if_neg (by simp only[CU.kids];omega)]
    simp only[CU.kids]
    have key:∀ {xs:List (List Ao)} {ys:List CU},Vd (Tr f) xs ys→(∀x∈xs,x≠[])→(ys.map (Ox f)).sum+xs.length≤2*xs.flatten.length:=by
      intro xs ys h
      induction h with
      | nil=>simp
      | @cons x y xs ys h1 h2 ih=>
        intro hx
        have a1:=(VJ h1).2 (hx _ zS)
        have a2:=ih fun x hx'=>hx x (by simp[hx'])
        simp only[List.map_cons,List.sum_cons,List.length_cons,List.flatten_cons,List.length_append]
        omega
    have:=key hk fun x hx=>(Tp hx).1
    rw[(cn L l).length_eq]at this
    omega
theorem eT{f:Nat}{l:List Ao}{t:CU}(h:Tr f l t)(hl:l.length≤1000):Ox f t≤max 1 (2*l.length):=by
  obtain⟨h1,h2⟩:=VJ h
  by_cases e:l=[]
  rw[h1 e];omega
  have:=h2 e
  omega
theorem cb{s:List UInt8}(h:s.length≤1048576):Vo s=some ⟨s,h⟩:=dif_pos h
theorem Xj{m:List (UInt32×Bool)}{p:UInt32}(h:p∉m.map (·.1)):Gw m p=m:=Sm fun e he e'=>h (by rw[←e'];exact List.mem_map_of_mem he)
theorem oO{T:List UInt32}{N c0:Nat}{R:List BK}{g:UInt32}{vb:A0}{db:Ai}{th:List (Mz×BS)}{k:BK}(hb:Sz N vb)(hN:N≤4096)(hk:DP R g=(k,0))(hth:∀key r,Cy th key=some r→Rd T R N vb db ⟨key.1,r.page,r.tag⟩):
    fQ (SH T th) (jX N c0 R g vb db) (fun q s=>Rd T R N q.v q.d s) (fun q=>N-2-q.v.taken.length):=by
  refine⟨fun q s S hs=>?_⟩
  unfold SH
  rw[cb (show s.length≤1048576 by omega),AB]
  cases hm:Cy th ⟨s,by omega⟩with
  | some r=>
    have hr:=S.base hb (hth _ r hm)
    exact⟨r,0,q,rfl,S,fun _ h=>h,.inl ⟨rfl,(hr.ok S.vs).2.1,hr,Nat.le_succ _⟩⟩
  | none=>
    rw[show(none:Option BS).isSome=false from rfl,CI]
    by_cases hroom:q.v.taken.length<N-2
    obtain⟨j,j1,j2,j3,j4⟩:=S.ok.free hN hroom
    have hlim:=S.lim
    obtain⟨v',d',b,e1,V1,s1,t1,h1,H1,_,_⟩:=S.vs.write (T:=T) zO hk hs j j1 j2 j3 j4
    have hjn:(UInt32.ofNat j).toNat=j:=by simp;omega
    have hnin:UInt32.ofNat j∉q.v.taken.map (·.1):=by
      rw[←S.ok.iff,j3]
      decide
    have htk:v'.taken=(UInt32.ofNat j,true)::q.v.taken:=by rw[t1,MI,Xj hnin]
    have hok:Sz N v':=by
      refine⟨?_,fun e he=>?_⟩
      rw[htk,List.map_cons]
      exact List.nodup_cons.2 ⟨hnin,S.ok.nd⟩
      rw[htk]at he
      rcases List.mem_cons.1 he with rfl | he
      exact⟨rfl,by rw[hjn];exact j1,by rw[hjn];exact j2⟩
      exact S.ok.tr e he
    have hntk:UInt32.ofNat j∉q.tk:=fun hj=>hnin (by
      rw[S.tak,List.map_append]
      refine List.mem_append_left _ ?_
      rw[List.map_reverse,List.mem_reverse,List.map_map]
      exact List.mem_map.2 ⟨_,hj,rfl⟩)
    rw[e1,AB]
    dsimp only
    rw[show decide ((0:Int)=0)=true from rfl,C2,DV zQ zQ,AB]
    have hlen:(q.tk++[UInt32.ofNat j]).length=q.tk.length+1:=by simp
    refine⟨_,0,⟨q.tk++[UInt32.ofNat j],v',d'⟩,rfl,⟨?_,?_,?_,hok,fun p hp=>?_,?_⟩,fun x hx=>?_,.inl ⟨rfl,?_,?_,?_⟩⟩
    show VS N (c0+(q.tk++[UInt32.ofNat j]).length) R g v' d'
    rw[hlen]
    exact V1
    show v'.seals=vb.seals+UInt64.ofNat (q.tk++[UInt32.ofNat j]).length
    rw[s1,S.seals,hlen,UInt64.ofNat_add,UInt64.add_assoc]
    rfl
    show v'.taken=_
    rw[htk,S.tak]
    simp
    simp only[List.mem_append,List.mem_singleton,not_or]at hp
    show IT d' p=_
    rw[h1,if_neg (fun e=>hp.2 e.symm)]
    exact S.keep p hp.1
    show c0+(q.tk++[UInt32.ofNat j]).length+(N-2-v'.taken.length)≤100
    rw[hlen,htk,List.length_cons]
    omega
    obtain⟨x1,x2,x3,g',qn,b',x4,x5⟩:=hx
    have hne:UInt32.ofNat j≠x.page:=fun e=>by
      rw[←e,j3]at x3
      exact absurd x3 zD
    refine⟨x1,x2,?_,g',qn,b',x4.put h1 hne,x5⟩
    show EK v' x.page=true
    rw[hok.iff,htk,List.map_cons]
    exact List.mem_cons_of_mem _ ((S.ok.iff _).1 x3)
    have hl:=H1.len
    unfold FA
    rw[Bool.and_eq_true,decide_eq_true_eq,decide_eq_true_eq]
    refine⟨UInt32.le_iff_toNat_le.2 (by rw[hjn];exact j1),?_⟩
    rw[List.length_drop,hl]
    rfl
    refine⟨by rw[hjn];exact j1,by rw[hjn];exact j2,?_,g,q.v.seals,b,H1,rfl⟩
    show EK v' (UInt32.ofNat j)=true
    rw[hok.iff,htk]
    simp
    show N-2-q.v.taken.length≤N-2-v'.taken.length+1
    rw[htk,List.length_cons]
    omega
    have hw:=dK (T:=T) S.vs.dev hs (S.ok.full hN zO)
    rw[hw,AB]
    dsimp only
    rw[show decide ((110:Int)=0)=false from rfl,CI]
    exact⟨_,110,q,rfl,S,fun _ h=>h,.inr ⟨rfl,by omega⟩⟩
theorem ZC:∀(l:List (Int×BI)) (m:List (Mz×BS)),(∀s∈l,s.2.txt.length≤1048576)→m.length+l.length≤1000000000→
    ∃m',Q1 l m=some m'∧∀k:Mz,Cy m' k=((l.reverse.find? fun s=>decide (s.2.txt=k.1)).map fun s=>(⟨s.2.page,s.2.tag⟩:BS)).or (Cy m k)
  | [],m,_,_=>⟨m,rfl,fun k=>by simp⟩
  | s::l,m,h,hb=>by
    simp only[List.length_cons]at hb
    have hd:(Gw m ⟨s.2.txt,h s zS⟩).length≤m.length:=List.length_filter_le ..
    obtain⟨m',h1,h2⟩:=ZC l (MI m ⟨s.2.txt,h s zS⟩ ⟨s.2.page,s.2.tag⟩) (fun x hx=>h x (by simp[hx])) (by
      show(Gw m _).length+1+l.length≤_
      omega)
    refine⟨m',?_,fun k=>?_⟩
    rw[Q1,cb (h s zS),AB]
    unfold Mr
    rw[if_pos zO,AB]
    exact h1
    rw[h2 k,List.reverse_cons,List.find?_append,Yu]
    cases hf:l.reverse.find? fun s=>decide (s.2.txt=k.1)with
    | some x=>rfl
    | none=>
      simp only[Option.map_none,Option.none_or,List.find?_singleton]
      by_cases e:s.2.txt=k.1
      rw[if_pos (Subtype.ext e),if_pos (by simpa using e)]
      rfl
      rw[if_neg (fun e'=>e (congrArg Subtype.val e')),if_neg (by simpa using e)]
      rfl
theorem Wu{α:Type}(xs:List α):(E1 xs).reverse.map (·.2)=xs:=by
  unfold E1
  rw[List.reverse_reverse,List.map_map]
  have:((fun x:Int×α=>x.2)∘fun p:α×Nat=>((p.2:Int),p.1))=Prod.fst:=rfl
  rw[this,List.zipIdx_map_fst]
theorem da{α:Type}{xs:List α}{s:Int×α}(h:s∈E1 xs):s.2∈xs:=by
  rw[←Wu xs]
  exact List.mem_map_of_mem (List.mem_reverse.2 h)
theorem ez(had:List BI)(h:∀s∈had,s.txt.length≤1048576)(hb:had.length≤1000000000):∃th,Q1 (E1 had) []=some th∧∀k:Mz,Cy th k=(had.find? fun s=>decide (s.txt=k.1)).map fun s=>(⟨s.page,s.tag⟩:BS):=by
  obtain⟨th,h1,h2⟩:=ZC (E1 had) [] (fun s hs=>h _ (da hs)) (by rw[JI];simpa using hb)
  refine⟨th,h1,fun k=>?_⟩
  rw[h2 k,show Cy ([]:List (Mz×BS)) k=none from rfl,Option.or_none]
  conv=>rhs;rw[←Wu had]
  rw[List.find?_map,Option.map_map]
  rfl
theorem Yn{N:Nat}(hN:N≤4096):∀(tk:List UInt32) (v:A0) (d:Ai) (base:List (UInt32×Bool)),d.blocks.length=N→v.taken=(tk.map fun p=>(p,true)).reverse++base→(v.taken.map (·.1)).Nodup→(∀p∈tk,2≤p.toNat∧p.toNat<N)→
    R6 tk v d=some { v with taken:=base }
  | [],v,d,base,_,h,_,_=>by
    simp at h
    rw[R6,←h]
  | p::tk,v,d,base,hd,h,hn,hr=>by
    obtain⟨r1,r2⟩:=hr p zS
    have hmem:(p,true)∈v.taken:=by rw[h];simp
    have hg:=Ti hn hmem
    have hdel:Gw v.taken p=(tk.map fun p=>(p,true)).reverse++base:=by
      rw[h]at hn ⊢
      simp only[List.map_cons,List.reverse_cons,List.append_assoc,List.singleton_append,List.map_append]at hn ⊢
      obtain⟨n1,n2,n3⟩:=List.nodup_append.1 hn
      obtain⟨n4,n5⟩:=List.nodup_cons.1 n2
      unfold Gw
      rw[List.filter_append,List.filter_cons_of_neg zS]
      congr 1
      exact Xj (m:=(tk.map fun p=>(p,true)).reverse) fun hp=>n3 p hp p zS rfl
      exact Xj n4
    have hi:Hi v d p=some true:=by
      have:=Xg v d p.toNat r1 zO
      rw[ofNat_toNat,hd,zt r2]at this
      exact this
    have hgive:KA v d p=some (0,{ v with taken:=Gw v.taken p }):=by
      unfold KA
      rw[hi,AB,CB,hg]
      rfl
    rw[R6,hgive,AB]
    have:=Yn hN tk { v with taken:=Gw v.taken p } d base hd hdel (by
      show((Gw v.taken p).map (·.1)).Nodup
      exact cd hn) (fun q hq=>hr q (by simp[hq]))
    exact this
theorem Vx{l:List Ao}(h:E0 l=true):l.length≤1000:=by
  unfold E0 at h
  simp only[Bool.and_eq_true,decide_eq_true_eq]at h
  omega
theorem im{n N c0:Nat}{T:List UInt32}{R:List BK}{g:UInt32}{vb:A0}{db:Ai}{k:BK}{l:List Ao}{had:List BI}(hn:1100≤n)(hN:N≤4096)(V9:VS N c0 R g vb db)(hb:Sz N vb)(hk:DP R g=(k,0))(hl:E0 l=true)
(hhad:∀s∈had,Rd T R N vb db s)(hlen:had.length≤100000)(hlim:c0+(N-2-vb.taken.length)≤100):
    ∃t th,Sg n l=some (t,0)∧Tr n l t∧(∀k:Mz,Cy th k=(had.find? fun s=>decide (s.txt=k.1)).map fun s=>(⟨s.page,s.tag⟩:BS))∧
      ((∃r out q,SJ n T vb db l had=some (out,0,q.v,q.d)∧Wd n t out r∧FA r=true∧jX N c0 R g vb db q∧(∀s∈out,Rd T R N q.v q.d s)∧out.length=Ox n t∧Wc (SH T th) ⟨[],vb,db⟩ out q∧N-2-vb.taken.length≤N-2-q.v.taken.length+Ox n t)∨
       (∃v d c,SJ n T vb db l had=some ([],110,v,d)∧N-2-vb.taken.length<Ox n t∧v.taken=vb.taken∧VS N c R g v d)):=by
  obtain⟨t,h1,_,hT⟩:=hI (n:=n) (l:=l) zO hl
  obtain⟨th,h2,h3⟩:=ez had (fun s hs=>by have:=((hhad s hs).ok V9).2.2;omega) zO
  have hth:∀(key:Mz) r,Cy th key=some r→Rd T R N vb db ⟨key.1,r.page,r.tag⟩:=by
    intro key r hr
    rw[h3 key]at hr
    obtain⟨s,hs,rfl⟩:=Option.map_eq_some_iff.1 hr
    have h5:=List.find?_some hs
    simp only[decide_eq_true_eq]at h5
    rw[←h5]
    exact hhad s (List.mem_of_find?_eq_some hs)
  have W:=oO (T:=T) (c0:=c0) (db:=db) hb hN hk hth
  have hpg:=eT hT (Vx hl)
  have hl1:=Vx hl
  have S0:jX N c0 R g vb db ⟨[],vb,db⟩:=⟨V9,by simp,by simp,hb,fun _ _=>rfl,by simpa using hlim⟩
  obtain⟨r,p',q,e1,e2,e3,e4,e5⟩:=Yx W (n:=n) zO n l t ⟨[],0⟩ ⟨[],vb,db⟩ hT hl S0 rfl zQ
  refine⟨t,th,h1,hT,h3,?_⟩
  have hsave:SJ n T vb db l had=ai (r,(p',q)):=by
    unfold SJ
    rw[h1,AB,show(!decide ((0:Int)=0))=false from rfl,CI,if_neg zO,h2,AB,e1,AB]
  rw[hsave]
  unfold ai
  rcases e5 with⟨w,seg,o1,o2,o3,o4,o5,o6⟩ | ⟨w,o6⟩
  left
  simp only[List.nil_append]at o1
  refine⟨r,seg,q,?_,o3,e2 w,e3,o5,o2,o4,o6⟩
  dsimp only
  rw[w,show(!decide ((0:Int)=0))=false from rfl,CI,o1]
  right
  have hlim2:=e3.lim
  refine⟨{ q.v with taken:=vb.taken },q.d,c0+q.tk.length,?_,o6,rfl,?_⟩
  dsimp only
  rw[w,show(!decide ((110:Int)=0))=true from rfl,C2,if_neg zO,Yn hN q.tk q.v q.d vb.taken e3.vs.dev.blen e3.tak e3.ok.nd (fun p hp=>by
    have:=e3.ok.tr (p,true) (by rw[e3.tak];refine List.mem_append_left _ ?_;rw[List.mem_reverse];exact List.mem_map.2 ⟨p,hp,rfl⟩)
    exact this.2),AB]
  have V':=e3.vs
  exact⟨V'.dev,V'.ring,V'.rlen,V'.gen,V'.boot,Nat.le_trans V9.tlen (Nat.le_add_right ..)⟩
end

section
variable {K:Nat→Prop}{w0:World}{H:List AX}
def DU(p0:UInt32)(p1:Int):Option UInt32:=
 (QH p1).bind fun n1=>
 (QH (wI (32-p1))).bind fun n2=>
 ret ((shl32 p0 n1) ||| (shr32 p0 n2)) fun x1=>
 some x1
theorem Lb{p0 r:UInt32}{p1:Int}(h:DU p0 p1=some r): zC K w0 325 [AA p0,vI p1] [] H (fun u M=>u=AA r∧M=[]):=by
 unfold DU at h
 refine TP.enter Tryz.func325 rfl rfl ?_
 refine Y (U E (V (AH ?_)))
 refine AE h fun n1 hn1 h=>?_
 refine AE h fun n2 hn2 h=>?_
 obtain⟨x1,ex1,h⟩:=Bu h
 refine Aw DC [] (Cz [(true,0),(true,1),(true,2),(true,3),(true,4),(true,5),(true,6),(true,7),(true,8)]) zK (J E (J E (Z E (RQ hn1) (J E (J E (Z E DZ (Z E (Vf hn2) ?_)))))))
 refine Z E Ep ?_
 refine Al (u:=AA x1) E E (by rw[ex1]) ?_
 refine V (AK ?_)
 obtain rfl:=zI h
 exact AW [] 0 E E E
def IB(p0:UInt32)(p1:UInt32)(p2:UInt32)(p3:UInt32):Option (List UInt32):=
 ret (p0+p1) fun a_1=>
 (DU (p3 ^^^ a_1) 16).bind fun y1=>
 ret (p2+y1) fun x1=>
 (DU (p1 ^^^ x1) 12).bind fun y2=>
 ret (a_1+y2) fun a_2=>
 (DU (y1 ^^^ a_2) 8).bind fun y3=>
 ret (x1+y3) fun x2=>
 (DU (y2 ^^^ x2) 7).bind fun y4=>
 some [a_2,y4,x2,y3]
theorem P6{p0 p1 p2 p3:UInt32}{r:List UInt32}(h:IB p0 p1 p2 p3=some r): zC K w0 323 [AA p0,AA p1,AA p2,AA p3] [] H (fun u M=>u=.agg (DK AA r)∧r.length=4∧M=[]):=by
 unfold IB at h
 refine TP.enter Tryz.func323 rfl rfl ?_
 refine Y ?_
 refine Ak E SU zU fun b1=>?_
 refine V (Y ?_)
 obtain⟨a_1,ea_1,h⟩:=Bu h
 refine J E (J E (Z E Bv ?_))
 refine Al (u:=AA a_1) E E (by rw[ea_1]) ?_
 refine V (Y ?_)
 refine AE h fun y1 hy1 h=>?_
 refine J E (J E (Z E Cd (AS 0 WU (Lb hy1) E (U E (V (Y ?_))))))
 obtain⟨x1,ex1,h⟩:=Bu h
 refine J E (J E (Z E Bv ?_))
 refine Al (u:=AA x1) E E (by rw[ex1]) ?_
 refine V (Y ?_)
 refine AE h fun y2 hy2 h=>?_
 refine J E (J E (Z E Cd (AS 0 WU (Lb hy2) E (U E (V (Y ?_))))))
 obtain⟨a_2,ea_2,h⟩:=Bu h
 refine J E (J E (Z E Bv ?_))
 refine Al (u:=AA a_2) E E (by rw[ea_2]) ?_
 refine V (Y ?_)
 refine AE h fun y3 hy3 h=>?_
 refine J E (J E (Z E Cd (AS 0 WU (Lb hy3) E (U E (V (Y ?_))))))
 obtain⟨x2,ex2,h⟩:=Bu h
 refine J E (J E (Z E Bv ?_))
 refine Al (u:=AA x2) E E (by rw[ex2]) ?_
 refine V (Y ?_)
 refine AE h fun y4 hy4 h=>?_
 refine J E (J E (Z E Cd (AS 0 WU (Lb hy4) E (U E (V (Y (J E (J E (J E ?_)))))))))
 refine J E (B0 [_,_,_,_] E qc qR SU ⟨E,E,E,E,zT⟩ E (A2 0 E E E E VX E E E zT (V (AK ?_))))
 obtain rfl:=zI h
 exact Ag (IU E (B8 0 (([a_2,y4,x2,y3]).map AA) dX E E E E)) (Af (M:=[]) ⟨E,E,E⟩ fun _ hw=>BT.pick (H:=[_]) hw [] 1 E)
def JM(p0:List UInt8)(p1:Int):Option UInt32:=
 (BA p0 p1).bind fun c1=>
 (BA p0 (wI (p1+1))).bind fun c2=>
 (BA p0 (wI (p1+2))).bind fun c3=>
 (BA p0 (wI (p1+3))).bind fun c4=>
 ret (((c1.toUInt32 ||| (shl32 c2.toUInt32 8)) ||| (shl32 c3.toUInt32 16)) ||| (shl32 c4.toUInt32 24)) fun x1=>
 some x1
theorem S6{p0:List UInt8}{p1:Int}{r:UInt32}(h:JM p0 p1=some r): zC K w0 322 [vS p0,vI p1] [] H (fun u M=>u=AA r∧M=[]):=by
 unfold JM at h
 refine TP.enter Tryz.func322 rfl rfl ?_
 refine Y (U E (V (AH ?_)))
 refine AE h fun c1 hc1 h=>?_
 refine AE h fun c2 hc2 h=>?_
 refine AE h fun c3 hc3 h=>?_
 refine AE h fun c4 hc4 h=>?_
 obtain⟨x1,ex1,h⟩:=Bu h
 refine Aw DC [] (Cz [(true,0),(true,1),(true,2),(true,3),(true,4),(true,5),(true,6),(true,7),(true,8),(true,9),(true,10),(true,11),(true,12),(true,13),(true,14),(true,15),(true,16),(true,17),(true,18),(true,19),(true,20),(true,21),(true,22),(true,23),(true,24),(true,25)]) zK (J E (J E (KR hc1 E Cc E E (BB E E (FD DE CJ) (J E (J E (Z E Bf ?_)))))))
 refine KR hc2 E Cc E E (BB E E (FD DE CJ) ?_)
 refine Z E (FL.shl32 (n:=8)) ?_
 refine Z E Ep (J E (J E (Z E Bf (KR hc3 E Cc E E (BB E E (FD DE CJ) ?_)))))
 refine Z E (FL.shl32 (n:=16)) ?_
 refine Z E Ep (J E (J E (Z E Bf (KR hc4 E Cc E E (BB E E (FD DE CJ) ?_)))))
 refine Z E (FL.shl32 (n:=24)) ?_
 refine Z E Ep ?_
 refine Al (u:=AA x1) E E (by rw[ex1]) ?_
 refine V (AK ?_)
 obtain rfl:=zI h
 exact AW [] 0 E E E
def Jk(l5:List UInt32):Option (List UInt32):=
 some l5
def GB(p2:List UInt8)(nx_f_ref01_State_l2:List UInt32×Int→Option (List UInt32))(l6:List UInt32)(a2:Int):Option (List UInt32):=
 cond (decide (a2<3))
 (
  (JM p2 (wI (4*a2))).bind fun y2=>
  (DM 4 l6 [y2]).bind fun l7=>
  ret (wI (a2+1)) fun i_2=>
  nx_f_ref01_State_l2 (l7,i_2))
 (
  Jk l6)
def Jm(p2:List UInt8):Nat→(List UInt32×Int)→Option (List UInt32):=CE fun nx x=>GB p2 nx x.1 x.2
def HY(n:Nat)(p1:UInt32)(p2:List UInt8)(l1:List UInt32):Option (List UInt32):=
 (DM 4 l1 [p1]).bind fun l4=>
 Jm p2 n (l4,0)
def GA(n:Nat)(p0:List UInt8)(p1:UInt32)(p2:List UInt8)(nx_f_ref01_State_l1:List UInt32×Int→Option (List UInt32))(l2:List UInt32)(a1:Int):Option (List UInt32):=
 cond (decide (a1<8))
 (
  (JM p0 (wI (4*a1))).bind fun y1=>
  (DM 4 l2 [y1]).bind fun l3=>
  ret (wI (a1+1)) fun i_1=>
  nx_f_ref01_State_l1 (l3,i_1))
 (
  HY n p1 p2 l2)
def Jl(n:Nat)(p0:List UInt8)(p1:UInt32)(p2:List UInt8):Nat→(List UInt32×Int)→Option (List UInt32):=CE fun nx x=>GA n p0 p1 p2 nx x.1 x.2
def J1(n:Nat)(p0:List UInt8)(p1:UInt32)(p2:List UInt8):Option (List UInt32):=
 Jl n p0 p1 p2 n ([1634760805,857760878,2036477234,1797285236],0)
theorem W2{n:Nat}{p0 p2:List UInt8}{p1:UInt32}{r:List UInt32}(h:J1 n p0 p1 p2=some r): zC K w0 309 [vS p0,AA p1,vS p2] [] H (fun u M=>∃v0:Value,u=v0∧M=[AD 33 1 v0 BL r]):=by
 unfold J1 at h
 refine TP.enter Tryz.func309 rfl rfl ?_
 refine Y (B5 33 1 BL (U E (V (Y ?_))))
 refine B9 [_,_,_,_] E CM Bg Hy ⟨E,E,E,E,zT⟩ E E E zX E E zU fun b1=>?_
 refine CA BL 1 ([1634760805,857760878,2036477234,1797285236]:List UInt32) E zV E ?_
 refine U E (V ?_)
 refine A6 (α:=List UInt32×Value) (fun x=>HY n p1 p2 x.1=some r) (fun x=>[(1,AA p1),(2,vS p2),(7,x.2)]) (fun x=>AD 33 1 x.2 BL x.1::H) ?_ (fun x D h=>?_)
 refine Y (U E (V (AP ?_)))
 refine SX.heap (SX.mono (BG (α:=Nat×List UInt32×Value×Int) (fun x=>Jl n p0 p1 p2 x.1 (x.2.1,x.2.2.2)=some r) (fun x=>[(0,vS p0),(1,AA p1),(2,vS p2),(7,x.2.2.1),(8,vI x.2.2.2)]) (fun x=>AD 33 1 x.2.2.1 BL x.2.1::H) (fun x=>x.1) (fun x D h=>?_) (n,[1634760805,857760878,2036477234,1797285236],.slice (some ⟨b1,0,none⟩) 4 4,0) h) tL) (BM [0] 2 E E E)
 obtain⟨m1,l2,v2,a1⟩:=x
 dsimp only at h
 rcases m1 with _ | m1
 cases (show(none:Option _)=some r from h)
 replace h:GA n p0 p1 p2 (Jl n p0 p1 p2 m1) l2 a1=some r:=h
 unfold GA at h
 try dsimp only
 refine AH (Y (J E (Z E A4 (V ?_))))
 refine AN h E (fun hc1 h=>?_) fun hc1 h=>?_
 refine AJ (AI (AH (AP (AQ ?_))))
 refine AE h fun y1 hy1 h=>?_
 refine AE h fun l3 hl3 h=>?_
 refine J E (J E (J E (Z E L8 (AS 0 gB (S6 hy1) E ?_))))
 refine B9 [_] E CM Bg Hy ⟨E,zT⟩ E E E zX E E zU fun b2=>?_
 refine CA BL 1 ([y1]:List UInt32) E zV E ?_
 refine Co 1 hl3 (sz:=1) (enc:=BL) zV E CM Bg P0 Hy E zD E E E E (CH (sz:=1) (enc:=BL) 0 zV E) (by simp[BL,Value.oneCell']) zU fun v3=>?_
 refine U E (AZ (Am (AI (AQ ?_))))
 obtain⟨i_1,ei_1,h⟩:=Bu h
 refine J E (Z E Bf ?_)
 refine Al (u:=vI i_1) E E (by rw[ei_1]) ?_
 refine AZ ?_
 exact Au (m1,l3,v3,i_1) h (Nat.lt_succ_self _) tL (BM [1] 2 E E E)
 refine Ax (A3 (BZ (A5 ?_)))
 exact Ap (l2,v2) h tL (BM [0] 1 E E E)
 obtain⟨l1,v1⟩:=x
 dsimp only at h
 unfold HY at h
 try dsimp only
 refine Y ?_
 refine AE h fun l4 hl4 h=>?_
 refine J E (J E ?_)
 refine B9 [_] E CM Bg Hy ⟨E,zT⟩ E E E zX E E zU fun b3=>?_
 refine CA BL 1 ([p1]:List UInt32) E zV E ?_
 refine Co 1 hl4 (sz:=1) (enc:=BL) zV E CM Bg P0 Hy E zD E E E E (CH (sz:=1) (enc:=BL) 0 zV E) (by simp[BL,Value.oneCell']) zU fun v4=>?_
 refine U E (V ?_)
 refine A6 (α:=List UInt32×Value) (fun x=>Jk x.1=some r) (fun x=>[(7,x.2)]) (fun x=>AD 33 1 x.2 BL x.1::H) ?_ (fun x D h=>?_)
 refine Y (U E (V (AP ?_)))
 refine SX.heap (SX.mono (BG (α:=Nat×List UInt32×Value×Int) (fun x=>Jm p2 x.1 (x.2.1,x.2.2.2)=some r) (fun x=>[(2,vS p2),(7,x.2.2.1),(9,vI x.2.2.2)]) (fun x=>AD 33 1 x.2.2.1 BL x.2.1::H) (fun x=>x.1) (fun x D h=>?_) (n,l4,v4,0) h) tL) (BM [1] 2 E E E)
 obtain⟨m2,l6,v6,a2⟩:=x
 dsimp only at h
 rcases m2 with _ | m2
 cases (show(none:Option _)=some r from h)
 replace h:GB p2 (Jm p2 m2) l6 a2=some r:=h
 unfold GB at h
 try dsimp only
 refine AH (Y (J E (Z E A4 (V ?_))))
 refine AN h E (fun hc2 h=>?_) fun hc2 h=>?_
 refine AJ (AI (AH (AP (AQ ?_))))
 refine AE h fun y2 hy2 h=>?_
 refine AE h fun l7 hl7 h=>?_
 refine J E (J E (J E (Z E L8 (AS 0 gB (S6 hy2) E ?_))))
 refine B9 [_] E CM Bg Hy ⟨E,zT⟩ E E E zX E E zU fun b4=>?_
 refine CA BL 1 ([y2]:List UInt32) E zV E ?_
 refine Co 1 hl7 (sz:=1) (enc:=BL) zV E CM Bg P0 Hy E zD E E E E (CH (sz:=1) (enc:=BL) 0 zV E) (by simp[BL,Value.oneCell']) zU fun v7=>?_
 refine U E (AZ (Am (AI (AQ ?_))))
 obtain⟨i_2,ei_2,h⟩:=Bu h
 refine J E (Z E Bf ?_)
 refine Al (u:=vI i_2) E E (by rw[ei_2]) ?_
 refine AZ ?_
 exact Au (m2,l7,v7,i_2) h (Nat.lt_succ_self _) tL (BM [1] 2 E E E)
 refine Ax (A3 (BZ (A5 ?_)))
 exact Ap (l6,v6) h tL (BM [0] 1 E E E)
 obtain⟨l5,v5⟩:=x
 dsimp only at h
 unfold Jk at h
 try dsimp only
 refine Y (J E (U E (V (AK ?_))))
 obtain rfl:=zI h
 exact Bo [0] 1 (Ck E E) E E ⟨v5,E,E⟩
def C9(p0:List UInt32)(p1:Int)(p2:Int)(p3:Int)(p4:Int):Option (List UInt32):=
 (BA p0 p1).bind fun x1=>
 (BA p0 p2).bind fun x2=>
 (BA p0 p3).bind fun x3=>
 (BA p0 p4).bind fun x4=>
 (IB x1 x2 x3 x4).bind fun y1=>
 (BA y1 0).bind fun x5=>
 (BA p0 p1).bind fun x6=>
 (Np p0 p1 x5).bind fun l1=>
 (BA y1 1).bind fun x7=>
 (BA l1 p2).bind fun x8=>
 (Np l1 p2 x7).bind fun l2=>
 (BA y1 2).bind fun x9=>
 (BA l2 p3).bind fun x10=>
 (Np l2 p3 x9).bind fun l3=>
 (BA y1 3).bind fun x11=>
 (BA l3 p4).bind fun x12=>
 (Np l3 p4 x11).bind fun l4=>
 some l4
theorem Ia{DA:Value}{p0 r:List UInt32}{p1 p2 p3 p4:Int}(h:C9 p0 p1 p2 p3 p4=some r): zC K w0 310 [DA,vI p1,vI p2,vI p3,vI p4] [AD 33 1 DA BL p0] H (fun u M=>u=.tuple #[]∧M=[AD 33 1 DA BL r]):=by
 unfold C9 at h
 refine TP.enter Tryz.func310 rfl rfl ?_
 refine AH ?_
 refine AE h fun x1 hx1 h=>?_
 refine AE h fun x2 hx2 h=>?_
 refine AE h fun x3 hx3 h=>?_
 refine AE h fun x4 hx4 h=>?_
 refine AE h fun y1 hy1 h=>?_
 refine Aw DC [0] (CF [(true,0),(true,1),(true,2),(true,3),(true,4),(true,5),(true,6),(true,7),(true,8),(true,9),(true,10),(true,11),(true,12),(true,13),(true,14),(true,15)] (.alt 16 (Cz [(false,17),(false,18)]) (.cons (false,17) (Cz [(false,16),(false,18)])))) zK (J E (J E ?_))
 refine CG 0 hx1 E CM Bg E E E fun g1 m1 cp1 hv1=>?_
 refine Bq E A1 E (B7 (sz:=1) (enc:=BL) 0 0 zV E hv1 hx1 E) ?_
 refine J E (J E ?_)
 refine CG 0 hx2 E CM Bg E E E fun g2 m2 cp2 hv2=>?_
 refine Bq E A1 E (B7 (sz:=1) (enc:=BL) 0 0 zV E hv2 hx2 E) ?_
 refine J E (J E ?_)
 refine CG 0 hx3 E CM Bg E E E fun g3 m3 cp3 hv3=>?_
 refine Bq E A1 E (B7 (sz:=1) (enc:=BL) 0 0 zV E hv3 hx3 E) ?_
 refine J E (J E ?_)
 refine CG 0 hx4 E CM Bg E E E fun g4 m4 cp4 hv4=>?_
 refine Bq E A1 E (B7 (sz:=1) (enc:=BL) 0 0 zV E hv4 hx4 E) ?_
 refine QN ?_ ?_
 refine Bd (vs:=[_,_,_,_]) (Hin:=[]) (Hr:=_::_) E E ⟨E,E,E,E,zT⟩ gC E E (P6 hy1) ?_
 rintro _ _ ⟨rfl,hn1,rfl⟩
 refine⟨⟨⟨0,rfl⟩,trivial⟩,?_⟩
 refine Ak E SU (fun _=>⟨⟨1,E⟩,zT⟩) fun b1=>?_
 refine OA 0 E E E E VX ((Sf ..).trans hn1) E (Nh (f:=AA) zV y1) ⟨⟨1,E⟩,zT⟩ ?_
 refine V (Y ?_)
 refine AE h fun x5 hx5 h=>?_
 refine AE h fun x6 hx6 h=>?_
 refine AE h fun l1 hl1 h=>?_
 refine J E (J E ?_)
 refine MM (xs:=y1) hx5 E Pq Bg E E hn1 ?_
 refine Bq E A1 E (Cm 0 E (Es (En hx5).2.2)) ?_
 refine CG 1 hx6 E CM Bg E E E fun g5 m5 cp5 hv5=>?_
 refine F6 (sz:=1) (enc:=BL) 1 hl1 zV E E E E E hv5 Bg (by simp[Value.oneCell']) zT ?_
 refine V (Y ?_)
 refine AE h fun x7 hx7 h=>?_
 refine AE h fun x8 hx8 h=>?_
 refine AE h fun l2 hl2 h=>?_
 refine J E (J E ?_)
 refine MM (xs:=y1) hx7 E Pq Bg E E hn1 ?_
 refine Bq E A1 E (Cm 0 E (Es (En hx7).2.2)) ?_
 refine CG 1 hx8 E CM Bg E E E fun g6 m6 cp6 hv6=>?_
 refine F6 (sz:=1) (enc:=BL) 1 hl2 zV E E E E E hv6 Bg (by simp[Value.oneCell']) zT ?_
 refine V (Y ?_)
 refine AE h fun x9 hx9 h=>?_
 refine AE h fun x10 hx10 h=>?_
 refine AE h fun l3 hl3 h=>?_
 refine J E (J E ?_)
 refine MM (xs:=y1) hx9 E Pq Bg E E hn1 ?_
 refine Bq E A1 E (Cm 0 E (Es (En hx9).2.2)) ?_
 refine CG 1 hx10 E CM Bg E E E fun g7 m7 cp7 hv7=>?_
 refine F6 (sz:=1) (enc:=BL) 1 hl3 zV E E E E E hv7 Bg (by simp[Value.oneCell']) zT ?_
 refine V (AQ ?_)
 refine AE h fun x11 hx11 h=>?_
 refine AE h fun x12 hx12 h=>?_
 refine AE h fun l4 hl4 h=>?_
 refine J E (J E ?_)
 refine MM (xs:=y1) hx11 E Pq Bg E E hn1 ?_
 refine Bq E A1 E (Cm 0 E (Es (En hx11).2.2)) ?_
 refine CG 1 hx12 E CM Bg E E E fun g8 m8 cp8 hv8=>?_
 refine F6 (sz:=1) (enc:=BL) 1 hl4 zV E E E E E hv8 Bg (by simp[Value.oneCell']) zT ?_
 refine AZ ?_
 obtain rfl:=zI h
 exact C8 (Dg E) (Af (M:=[_]) ⟨E,E⟩ fun _ hw=>BT.pick (H:=[_,_]) hw [1] 2 E)
 refine Ak E SU (fun _=>⟨⟨1,E⟩,zT⟩) fun b1=>?_
 refine Bd (vs:=[_,_,_,_]) (Hin:=[]) (Hr:=_::_::_) E E ⟨E,E,E,E,zT⟩ gC E E (P6 hy1) ?_
 rintro _ _ ⟨rfl,hn1,rfl⟩
 refine⟨⟨⟨1,rfl⟩,trivial⟩,?_⟩
 refine OA 0 E E E E VX ((Sf ..).trans hn1) E (Nh (f:=AA) zV y1) ⟨⟨1,E⟩,zT⟩ ?_
 refine V (Y ?_)
 refine AE h fun x5 hx5 h=>?_
 refine AE h fun x6 hx6 h=>?_
 refine AE h fun l1 hl1 h=>?_
 refine J E (J E ?_)
 refine MM (xs:=y1) hx5 E Pq Bg E E hn1 ?_
 refine Bq E A1 E (Cm 0 E (Es (En hx5).2.2)) ?_
 refine CG 1 hx6 E CM Bg E E E fun g5 m5 cp5 hv5=>?_
 refine F6 (sz:=1) (enc:=BL) 1 hl1 zV E E E E E hv5 Bg (by simp[Value.oneCell']) zT ?_
 refine V (Y ?_)
 refine AE h fun x7 hx7 h=>?_
 refine AE h fun x8 hx8 h=>?_
 refine AE h fun l2 hl2 h=>?_
 refine J E (J E ?_)
 refine MM (xs:=y1) hx7 E Pq Bg E E hn1 ?_
 refine Bq E A1 E (Cm 0 E (Es (En hx7).2.2)) ?_
 refine CG 1 hx8 E CM Bg E E E fun g6 m6 cp6 hv6=>?_
 refine F6 (sz:=1) (enc:=BL) 1 hl2 zV E E E E E hv6 Bg (by simp[Value.oneCell']) zT ?_
 refine V (Y ?_)
 refine AE h fun x9 hx9 h=>?_
 refine AE h fun x10 hx10 h=>?_
 refine AE h fun l3 hl3 h=>?_
 refine J E (J E ?_)
 refine MM (xs:=y1) hx9 E Pq Bg E E hn1 ?_
 refine Bq E A1 E (Cm 0 E (Es (En hx9).2.2)) ?_
 refine CG 1 hx10 E CM Bg E E E fun g7 m7 cp7 hv7=>?_
 refine F6 (sz:=1) (enc:=BL) 1 hl3 zV E E E E E hv7 Bg (by simp[Value.oneCell']) zT ?_
 refine V (AQ ?_)
 refine AE h fun x11 hx11 h=>?_
 refine AE h fun x12 hx12 h=>?_
 refine AE h fun l4 hl4 h=>?_
 refine J E (J E ?_)
 refine MM (xs:=y1) hx11 E Pq Bg E E hn1 ?_
 refine Bq E A1 E (Cm 0 E (Es (En hx11).2.2)) ?_
 refine CG 1 hx12 E CM Bg E E E fun g8 m8 cp8 hv8=>?_
 refine F6 (sz:=1) (enc:=BL) 1 hl4 zV E E E E E hv8 Bg (by simp[Value.oneCell']) zT ?_
 refine AZ ?_
 obtain rfl:=zI h
 exact C8 (Dg E) (Af (M:=[_]) ⟨E,E⟩ fun _ hw=>BT.pick (H:=[_,_]) hw [1] 2 E)
def Jh(l4:List UInt8):Option (List UInt8×Int):=
 some (l4,0)
def F9(y1:List UInt32)(l2:List UInt32)(nx_f_ref01_Block_l2:List UInt8×Int→Option (List UInt8×Int))(l5:List UInt8)(a2:Int):Option (List UInt8×Int):=
 cond (decide (a2<16))
 (
  (BA l2 a2).bind fun x2=>
  (BA y1 a2).bind fun x3=>
  ret (x2+x3) fun x4=>
  (DM 1 l5 [x4.toUInt8,(shr32 x4 8).toUInt8,(shr32 x4 16).toUInt8,(shr32 x4 24).toUInt8]).bind fun l6=>
  ret (wI (a2+1)) fun x5=>
  nx_f_ref01_Block_l2 (l6,x5))
 (
  Jh l5)
def Jj(y1:List UInt32)(l2:List UInt32):Nat→(List UInt8×Int)→Option (List UInt8×Int):=CE fun nx x=>F9 y1 l2 nx x.1 x.2
def Fs(n:Nat)(y1:List UInt32)(l2:List UInt32):Option (List UInt8×Int):=
 Jj y1 l2 n ([],0)
def F8(n:Nat)(y1:List UInt32)(nx_f_ref01_Block_l1:List UInt32×Int→Option (List UInt8×Int))(l3:List UInt32)(a1:Int):Option (List UInt8×Int):=
 cond (decide (a1<10))
 (
  (C9 l3 0 4 8 12).bind fun y2=>
  (C9 y2 1 5 9 13).bind fun y3=>
  (C9 y3 2 6 10 14).bind fun y4=>
  (C9 y4 3 7 11 15).bind fun y5=>
  (C9 y5 0 5 10 15).bind fun y6=>
  (C9 y6 1 6 11 12).bind fun y7=>
  (C9 y7 2 7 8 13).bind fun y8=>
  (C9 y8 3 4 9 14).bind fun y9=>
  ret (wI (a1+1)) fun x1=>
  nx_f_ref01_Block_l1 (y9,x1))
 (
  Fs n y1 l3)
def Ji(n:Nat)(y1:List UInt32):Nat→(List UInt32×Int)→Option (List UInt8×Int):=CE fun nx x=>F8 n y1 nx x.1 x.2
def Gk(n:Nat)(p0:List UInt8)(p1:UInt32)(p2:List UInt8):Option (List UInt8×Int):=
 cond ((!decide ((p0.length:Int)=32))||(!decide ((p2.length:Int)=12)))
 (
  some ([],2))
 (
  (J1 n p0 p1 p2).bind fun y1=>
  (DM 4 [] y1).bind fun l1=>
  Ji n y1 n (l1,0))
theorem W1{n:Nat}{p0 p2:List UInt8}{p1:UInt32}{r:List UInt8×Int}(h:Gk n p0 p1 p2=some r): zC K w0 285 [vS p0,AA p1,vS p2] [] H (fun u M=>u=.tuple #[vS r.1,vI r.2]∧M=[]):=by
 unfold Gk at h
 refine TP.enter Tryz.func285 rfl rfl ?_
 refine Y (U E (U E (V (AH (Y (J E (Bp E Cc E (Z E BJ (J E ?_)))))))))
 refine Ee (c := !decide ((p2.length:Int)=12)) 17 4 21 E (fun hb k=>?_) (fun hb k=>?_) ?_
 refine AC E (AC E (AC E (Ah E E E ?_)))
 exact k.mono tL
 refine J E (Bp E Cc E (Z E BJ (Ah E E E ?_)))
 exact k.mono tL
 refine V ?_
 refine AN h E (fun hc1 h=>?_) fun hc1 h=>?_
 refine Y (U E (U E (V (AK (Ab ?_)))))
 obtain rfl:=zI h
 exact AW [] 0 E E E
 refine AJ (AI (Y ?_))
 refine AE h fun y1 hy1 h=>?_
 refine J E (J E (J E ?_))
 refine Bd (vs:=[_,_,_]) (Hin:=[]) (Hr:=_) E E ⟨E,E,E,zT⟩ oA E E (W2 hy1) ?_
 rintro v1 _ ⟨_,rfl,rfl⟩
 refine⟨trivial,?_⟩
 refine U E (V (Y ?_))
 refine AE h fun l1 hl1 h=>?_
 refine fL (n:=16) BL E CM Bg P0 Hy E E E E E zU fun v2=>?_
 refine J E ?_
 refine jC 0 1 hl1 (sz:=1) (enc:=BL) zV E CM Bg P0 Hy E zD E E E E (by simp[BL,Value.oneCell']) zU fun v3=>?_
 refine U E (V ?_)
 refine A6 (α:=List UInt32×Value) (fun x=>Fs n y1 x.1=some r) (fun x=>[(8,v1),(9,x.2)]) (fun x=>AD 33 1 v1 BL y1::AD 33 1 x.2 BL x.1::H) ?_ (fun x D h=>?_)
 refine Y (U E (V (AP ?_)))
 refine SX.heap (SX.mono (BG (α:=Nat×List UInt32×Value×Int) (fun x=>Ji n y1 x.1 (x.2.1,x.2.2.2)=some r) (fun x=>[(8,v1),(9,x.2.2.1),(10,vI x.2.2.2)]) (fun x=>AD 33 1 v1 BL y1::AD 33 1 x.2.2.1 BL x.2.1::H) (fun x=>x.1) (fun x D h=>?_) (n,l1,v3,0) h) tL) (BM [1,0] 2 E E E)
 obtain⟨m1,l3,v5,a1⟩:=x
 dsimp only at h
 rcases m1 with _ | m1
 cases (show(none:Option _)=some r from h)
 replace h:F8 n y1 (Ji n y1 m1) l3 a1=some r:=h
 unfold F8 at h
 try dsimp only
 refine AH (Y (J E (Z E A4 (V ?_))))
 refine AN h E (fun hc2 h=>?_) fun hc2 h=>?_
 refine AJ (AI (AH (AP (Y ?_))))
 refine AE h fun y2 hy2 h=>?_
 refine J E (SL.pick [1,0] 2 (AS 1 PK (Ia hy2) E (V (Y ?_))))
 refine AE h fun y3 hy3 h=>?_
 refine J E (AS 1 PK (Ia hy3) E (V (Y ?_)))
 refine AE h fun y4 hy4 h=>?_
 refine J E (AS 1 PK (Ia hy4) E (V (Y ?_)))
 refine AE h fun y5 hy5 h=>?_
 refine J E (AS 1 PK (Ia hy5) E (V (Y ?_)))
 refine AE h fun y6 hy6 h=>?_
 refine J E (AS 1 PK (Ia hy6) E (V (Y ?_)))
 refine AE h fun y7 hy7 h=>?_
 refine J E (AS 1 PK (Ia hy7) E (V (Y ?_)))
 refine AE h fun y8 hy8 h=>?_
 refine J E (AS 1 PK (Ia hy8) E (V (AQ ?_)))
 refine AE h fun y9 hy9 h=>?_
 refine J E (AS 1 PK (Ia hy9) E (AZ (Am (AI (AQ ?_)))))
 obtain⟨x1,ex1,h⟩:=Bu h
 refine J E (Z E Bf ?_)
 refine Al (u:=vI x1) E E (by rw[ex1]) ?_
 refine AZ ?_
 exact Au (m1,y9,v5,x1) h (Nat.lt_succ_self _) tL (BM [1,0] 2 E E E)
 refine Ax (A3 (BZ (A5 ?_)))
 exact Ap (l3,v5) h tL (BM [0,1] 2 E E E)
 obtain⟨l2,v4⟩:=x
 dsimp only at h
 unfold Fs at h
 try dsimp only
 refine Y (B5 5 1 FN (U E (V ?_)))
 refine A6 (α:=List UInt8×Value) (fun x=>Jh x.1=some r) (fun x=>[(11,x.2)]) (fun x=>AD 5 1 x.2 FN x.1::H) ?_ (fun x D h=>?_)
 refine Y (U E (V (AP ?_)))
 refine SX.heap (SX.mono (BG (α:=Nat×List UInt8×Value×Int) (fun x=>Jj y1 l2 x.1 (x.2.1,x.2.2.2)=some r) (fun x=>[(8,v1),(9,v4),(11,x.2.2.1),(12,vI x.2.2.2)]) (fun x=>AD 33 1 v1 BL y1::AD 33 1 v4 BL l2::AD 5 1 x.2.2.1 FN x.2.1::H) (fun x=>x.1) (fun x D h=>?_) (n,[],zN,0) h) tL) (BM [1,2,0] 3 E E E)
 obtain⟨m2,l5,v7,a2⟩:=x
 dsimp only at h
 rcases m2 with _ | m2
 cases (show(none:Option _)=some r from h)
 replace h:F9 y1 l2 (Jj y1 l2 m2) l5 a2=some r:=h
 unfold F9 at h
 try dsimp only
 refine AH (Y (J E (Z E A4 (V ?_))))
 refine AN h E (fun hc3 h=>?_) fun hc3 h=>?_
 refine AJ (AI (AH (AP (AH ?_))))
 refine AE h fun x2 hx2 h=>?_
 refine AE h fun x3 hx3 h=>?_
 obtain⟨x4,ex4,h⟩:=Bu h
 refine Aw DC [0,1] (Cz [(true,0),(true,1),(true,2),(true,3),(true,4),(true,5),(true,6),(true,7),(true,8),(true,9)]) zK (J E (J E ?_))
 refine CG 1 hx2 E CM Bg E E E fun g1 m3 cp1 hv1=>?_
 refine Bq E A1 E (B7 (sz:=1) (enc:=BL) 1 0 zV E hv1 hx2 E) ?_
 refine J E (J E ?_)
 refine CG 0 hx3 E CM Bg E E E fun g2 m4 cp2 hv2=>?_
 refine Bq E A1 E (B7 (sz:=1) (enc:=BL) 0 0 zV E hv2 hx3 E) ?_
 refine Z E Bv ?_
 refine Al (u:=AA x4) E E (by rw[ex4]) ?_
 refine V (AQ ?_)
 refine AE h fun l6 hl6 h=>?_
 refine J E (J E (BB E E (Cu CJ DE) (J E ?_)))
 refine Z E (FL.shr32 (n:=8)) ?_
 refine BB E E (Cu CJ DE) (J E ?_)
 refine Z E (FL.shr32 (n:=16)) ?_
 refine BB E E (Cu CJ DE) (J E ?_)
 refine Z E (FL.shr32 (n:=24)) ?_
 refine BB E E (Cu CJ DE) ?_
 refine B9 [_,_,_,_] E CV JX KP ⟨E,E,E,E,zT⟩ E E E zX E E zU fun b1=>?_
 refine CA FN 1 ([x4.toUInt8,(shr32 x4 8).toUInt8,(shr32 x4 16).toUInt8,(shr32 x4 24).toUInt8]:List UInt8) E zV E ?_
 refine Co 3 hl6 (sz:=1) (enc:=FN) zV E CV JX U6 KP E zD E E E E (CH (sz:=1) (enc:=FN) 0 zV E) (by simp[FN,Value.oneCell']) zU fun v8=>?_
 refine U E (AZ (Am (AI (AQ ?_))))
 obtain⟨x5,ex5,h⟩:=Bu h
 refine J E (Z E Bf ?_)
 refine Al (u:=vI x5) E E (by rw[ex5]) ?_
 refine AZ ?_
 exact Au (m2,l6,v8,x5) h (Nat.lt_succ_self _) tL (BM [1,2,3] 4 E E E)
 refine Ax (A3 (BZ (A5 ?_)))
 exact Ap (l5,v7) h tL (BM [2] 3 E E E)
 obtain⟨l4,v6⟩:=x
 dsimp only at h
 unfold Jh at h
 try dsimp only
 refine Y (J E (Gb 0 E CV DE Cc E E (U E (U E (V (AK ?_))))))
 obtain rfl:=zI h
 exact AW [] 1 E E E
def Lc(l1:List UInt8):Option (List UInt8×Int):=
 some (l1,0)
def HH(p2:List UInt8)(l2:List UInt8)(a2:Int)(nx_f_ref01_Xor_l1:List UInt8×List UInt8×Int→Option (List UInt8×Int))(a3:List UInt8):Option (List UInt8×Int):=
 (BA p2 a2).bind fun c1=>
 (TM a2 64).bind fun q3=>
 (BA a3 q3).bind fun c2=>
 (DM 1 l2 [c1 ^^^ c2]).bind fun l3=>
 ret (wI (a2+1)) fun i_1=>
 nx_f_ref01_Xor_l1 (l3,a3,i_1)
def HZ(n:Nat)(p0:List UInt8)(p1:List UInt8)(p2:List UInt8)(nx_f_ref01_Xor_l1:List UInt8×List UInt8×Int→Option (List UInt8×Int))(l2:List UInt8)(a1:List UInt8)(a2:Int):Option (List UInt8×Int):=
 cond (decide (a2<(p2.length:Int)))
 (
  (TM a2 64).bind fun q1=>
  cond (decide (q1=0))
  (
   (Uq a2 64).bind fun q2=>
   (Gk n p0 (EL q2) p1).bind fun y1=>
   HH p2 l2 a2 nx_f_ref01_Xor_l1 y1.1)
  (
   HH p2 l2 a2 nx_f_ref01_Xor_l1 a1))
 (
  Lc l2)
def I2(n:Nat)(p0:List UInt8)(p1:List UInt8)(p2:List UInt8):Nat→(List UInt8×List UInt8×Int)→Option (List UInt8×Int):=CE fun nx x=>HZ n p0 p1 p2 nx x.1 x.2.1 x.2.2
def MX(n:Nat)(p0:List UInt8)(p1:List UInt8)(p2:List UInt8):Option (List UInt8×Int):=
 cond (((!decide ((p0.length:Int)=32))||(!decide ((p1.length:Int)=12)))||(decide (1048576<(p2.length:Int))))
 (
  some ([],2))
 (
  I2 n p0 p1 p2 n ([],[],0))
theorem Zd{n:Nat}{p0 p1 p2:List UInt8}{r:List UInt8×Int}(h:MX n p0 p1 p2=some r): zC K w0 256 [vS p0,vS p1,vS p2] [] H (fun u M=>u=.tuple #[vS r.1,vI r.2]∧M=[]):=by
 unfold MX at h
 refine TP.enter Tryz.func256 rfl rfl ?_
 refine Y (U E (U E (V (AH (Y (J E (Bp E Cc E (Z E BJ (J E ?_)))))))))
 refine Ee (c := !decide ((p1.length:Int)=12)) 16 4 20 E (fun hb k=>?_) (fun hb k=>?_) ?_
 refine AC E (AC E (AC E (Ah E E E ?_)))
 exact k.mono tL
 refine J E (Bp E Cc E (Z E BJ (Ah E E E ?_)))
 exact k.mono tL
 refine J E ?_
 refine Ee (c:=decide (1048576<(p2.length:Int))) 21 4 25 E (fun hb k=>?_) (fun hb k=>?_) ?_
 refine AC E (AC E (AC E (Ah E E E ?_)))
 exact k.mono tL
 refine J E (Bp E Cc E (Z E Ci (Ah E E E ?_)))
 exact k.mono tL
 refine V ?_
 refine AN h E (fun hc1 h=>?_) fun hc1 h=>?_
 refine Y (U E (U E (V (AK (Ab ?_)))))
 obtain rfl:=zI h
 exact AW [] 0 E E E
 refine AJ (AI (Y (B5 5 1 FN (U E (V (Y (U E (V ?_))))))))
 refine A6 (α:=List UInt8×Value) (fun x=>Lc x.1=some r) (fun x=>[(8,x.2)]) (fun x=>AD 5 1 x.2 FN x.1::H) ?_ (fun x D h=>?_)
 refine Y (U E (V (AP ?_)))
 refine SX.heap (SX.mono (BG (α:=Nat×List UInt8×Value×List UInt8×Int) (fun x=>I2 n p0 p1 p2 x.1 (x.2.1,x.2.2.2.1,x.2.2.2.2)=some r) (fun x=>[(0,vS p0),(1,vS p1),(2,vS p2),(8,x.2.2.1),(9,vS x.2.2.2.1),(10,vI x.2.2.2.2)]) (fun x=>AD 5 1 x.2.2.1 FN x.2.1::H) (fun x=>x.1) (fun x D h=>?_) (n,[],zN,[],0) h) tL) (BM [0] 1 E E E)
 obtain⟨m1,l2,v2,a1,a2⟩:=x
 dsimp only at h
 rcases m1 with _ | m1
 cases (show(none:Option _)=some r from h)
 replace h:HZ n p0 p1 p2 (I2 n p0 p1 p2 m1) l2 a1 a2=some r:=h
 unfold HZ at h
 try dsimp only
 refine AH (Y (J E (J E (Bp E Cc E (Z E A4 (V ?_))))))
 refine AN h E (fun hc2 h=>?_) fun hc2 h=>?_
 refine AJ (AI (AH (AP ?_)))
 refine A6 (α:=List UInt8) (fun x=>HH p2 l2 a2 (I2 n p0 p1 p2 m1) x=some r) (fun x=>[(0,vS p0),(1,vS p1),(2,vS p2),(8,v2),(9,vS x),(10,vI a2)]) (fun x=>AD 5 1 v2 FN l2::H) ?_ (fun a3 D h=>?_)
 refine Y ?_
 refine AE h fun q1 hq1 h=>?_
 refine J E (Z E (SW hq1) (Z E Bj (V ?_)))
 refine AN h E (fun hc3 h=>?_) fun hc3 h=>?_
 refine Y ?_
 refine AE h fun q2 hq2 h=>?_
 refine AE h fun y1 hy1 h=>?_
 refine J E (J E (Z E (Uz hq2) (BB E E (Nc IZ CJ) (J E (AS 0 nu (W1 hy1) E (J E (Ae E E E ?_)))))))
 refine Ae E E E (U E (U E (V (AQ (J E (U E (AZ ?_)))))))
 exact Ap y1.1 h tL (BM [0] 1 E E E)
 refine AJ ?_
 exact Ap a1 h tL (BM [0] 1 E E E)
 unfold HH at h
 try dsimp only
 refine AE h fun c1 hc1 h=>?_
 refine AE h fun q3 hq3 h=>?_
 refine AE h fun c2 hc2 h=>?_
 refine AE h fun l3 hl3 h=>?_
 refine Aw DC [] (CF [(true,0),(true,1),(true,2),(true,3),(true,4),(true,5),(true,6),(true,7),(true,8),(false,9)] (.last 10 (Cz [(false,11)]))) zK (J E (J E (J E (KR hc1 E Cc E E (J E (J E (Z E (SW hq3) ?_)))))))
 refine KR hc2 E Cc E E (Z E SY ?_)
 refine B9 [_] E CV JX KP ⟨E,zT⟩ E E E zX E E zU fun b1=>?_
 refine CA FN 1 ([c1 ^^^ c2]:List UInt8) E zV E ?_
 refine Bc ?_
 refine Co 1 hl3 (sz:=1) (enc:=FN) zV E CV JX U6 KP E zD E E E E (CH (sz:=1) (enc:=FN) 0 zV E) (by simp[FN,Value.oneCell']) zU fun v3=>?_
 refine U E (AZ (Am (AI (AQ ?_))))
 obtain⟨i_1,ei_1,h⟩:=Bu h
 refine J E (Z E Bf ?_)
 refine Al (u:=vI i_1) E E (by rw[ei_1]) ?_
 refine AZ ?_
 exact Au (m1,l3,v3,a3,i_1) h (Nat.lt_succ_self _) tL (BM [1] 2 E E E)
 refine Ax (A3 (BZ (A5 ?_)))
 exact Ap (l2,v2) h tL (BM [0] 1 E E E)
 obtain⟨l1,v1⟩:=x
 dsimp only at h
 unfold Lc at h
 try dsimp only
 refine Y (J E (Gb 0 E CV DE Cc E E (U E (U E (V (AK ?_))))))
 obtain rfl:=zI h
 exact AW [] 1 E E E
end

section
variable {K:Nat→Prop}{w0:World}{H:List AX}
def CC(p0:UInt32)(p1:Int):Option UInt32:=
 (QH p1).bind fun n1=>
 (QH (wI (32-p1))).bind fun n2=>
 ret ((shr32 p0 n1) ||| (shl32 p0 n2)) fun x1=>
 some x1
theorem D9{p0 r:UInt32}{p1:Int}(h:CC p0 p1=some r): zC K w0 311 [AA p0,vI p1] [] H (fun u M=>u=AA r∧M=[]):=by
 unfold CC at h
 refine TP.enter Tryz.func311 rfl rfl ?_
 refine Y (U E (V (AH ?_)))
 refine AE h fun n1 hn1 h=>?_
 refine AE h fun n2 hn2 h=>?_
 obtain⟨x1,ex1,h⟩:=Bu h
 refine Aw DC [] (Cz [(true,0),(true,1),(true,2),(true,3),(true,4),(true,5),(true,6),(true,7),(true,8)]) zK (J E (J E (Z E (Vf hn1) (J E (J E (Z E DZ (Z E (RQ hn2) ?_)))))))
 refine Z E Ep ?_
 refine Al (u:=AA x1) E E (by rw[ex1]) ?_
 refine V (AK ?_)
 obtain rfl:=zI h
 exact AW [] 0 E E E
def MY:Option (List UInt32):=
 some [1779033703,3144134277,1013904242,2773480762,1359893119,2600822924,528734635,1541459225]
theorem W3{r:List UInt32}(h:MY=some r): zC K w0 288 [] [] H (fun u M=>∃v0:Value,u=v0∧M=[AD 33 1 v0 BL r]):=by
 unfold MY at h
 refine TP.enter Tryz.func288 rfl rfl ?_
 refine Y (B5 33 1 BL (U E (V (Y ?_))))
 refine B9 [_,_,_,_,_,_,_,_] E CM Bg Hy ⟨E,E,E,E,E,E,E,E,zT⟩ E E E zX E E zU fun b1=>?_
 refine CA BL 1 ([1779033703,3144134277,1013904242,2773480762,1359893119,2600822924,528734635,1541459225]:List UInt32) E zV E ?_
 refine U E (V (AK ?_))
 obtain rfl:=zI h
 exact Bo [0] 2 (Ck E E) E E ⟨(.slice (some ⟨b1,0,none⟩) 8 8),E,E⟩
def Kj(l9:List UInt32):Option (List UInt32):=
 some l9
def Gn(p0:List UInt32)(nx_f_ref02_part_l3:List UInt32×Int→Option (List UInt32))(l10:List UInt32)(a3:Int):Option (List UInt32):=
 cond (decide (a3<8))
 (
  (BA l10 a3).bind fun x27=>
  (BA p0 a3).bind fun x28=>
  (BA l10 a3).bind fun x29=>
  (Np l10 a3 (x27+x28)).bind fun l11=>
  ret (wI (a3+1)) fun x30=>
  nx_f_ref02_part_l3 (l11,x30))
 (
  Kj l10)
def Kl(p0:List UInt32):Nat→(List UInt32×Int)→Option (List UInt32):=CE fun nx x=>Gn p0 nx x.1 x.2
def GW(n:Nat)(p0:List UInt32)(l7:List UInt32):Option (List UInt32):=
 Kl p0 n (l7,0)
def Gm(n:Nat)(T:List UInt32)(p0:List UInt32)(l1:List UInt32)(nx_f_ref02_part_l2:List UInt32×Int→Option (List UInt32))(l8:List UInt32)(a2:Int):Option (List UInt32):=
 cond (decide (a2<64))
 (
  (BA l8 0).bind fun x6=>
  (BA l8 4).bind fun x7=>
  (BA l8 7).bind fun x8=>
  (CC x7 6).bind fun y5=>
  (CC x7 11).bind fun y6=>
  (CC x7 25).bind fun y7=>
  (BA l8 5).bind fun x9=>
  (BA l8 6).bind fun x10=>
  (BA T a2).bind fun x11=>
  (BA l1 a2).bind fun x12=>
  ret ((((x8+((y5 ^^^ y6) ^^^ y7))+((x7 &&& x9) ^^^ ((4294967295 ^^^ x7) &&& x10)))+x11)+x12) fun x13=>
  (CC x6 2).bind fun y8=>
  (CC x6 13).bind fun y9=>
  (CC x6 22).bind fun y10=>
  (BA l8 1).bind fun x14=>
  (BA l8 2).bind fun x15=>
  (BA l8 1).bind fun x16=>
  (BA l8 2).bind fun x17=>
  ret (((y8 ^^^ y9) ^^^ y10)+(((x6 &&& x14) ^^^ (x6 &&& x15)) ^^^ (x16 &&& x17))) fun x18=>
  (BA l8 0).bind fun x19=>
  (BA l8 1).bind fun x20=>
  (BA l8 2).bind fun x21=>
  (BA l8 3).bind fun x22=>
  (BA l8 4).bind fun x23=>
  (BA l8 5).bind fun x24=>
  (BA l8 6).bind fun x25=>
  ret (wI (a2+1)) fun x26=>
  nx_f_ref02_part_l2 ([x13+x18,x19,x20,x21,x22+x13,x23,x24,x25],x26))
 (
  GW n p0 l8)
def Kk(n:Nat)(T:List UInt32)(p0:List UInt32)(l1:List UInt32):Nat→(List UInt32×Int)→Option (List UInt32):=CE fun nx x=>Gm n T p0 l1 nx x.1 x.2
def GU(n:Nat)(T:List UInt32)(p0:List UInt32)(l1:List UInt32):Option (List UInt32):=
 (DM 4 [] p0).bind fun l6=>
 Kk n T p0 l1 n (l6,0)
def GV(a1:Int)(nx_f_ref02_part_l1:List UInt32×Int→Option (List UInt32))(l3:List UInt32):Option (List UInt32):=
 ret (wI (a1+1)) fun x5=>
 nx_f_ref02_part_l1 (l3,x5)
def Gl(n:Nat)(T:List UInt32)(p0:List UInt32)(p1:List UInt8)(nx_f_ref02_part_l1:List UInt32×Int→Option (List UInt32))(l2:List UInt32)(a1:Int):Option (List UInt32):=
 cond (decide (a1<64))
 (
  cond (decide (a1<16))
  (
   (BA p1 (wI (4*a1))).bind fun c1=>
   (BA p1 (wI ((wI (4*a1))+1))).bind fun c2=>
   (BA p1 (wI ((wI (4*a1))+2))).bind fun c3=>
   (BA p1 (wI ((wI (4*a1))+3))).bind fun c4=>
   (DM 4 l2 [(((shl32 c1.toUInt32 24) ||| (shl32 c2.toUInt32 16)) ||| (shl32 c3.toUInt32 8)) ||| c4.toUInt32]).bind fun l4=>
   GV a1 nx_f_ref02_part_l1 l4)
  (
   (BA l2 (wI (a1-15))).bind fun x1=>
   (BA l2 (wI (a1-2))).bind fun x2=>
   (BA l2 (wI (a1-16))).bind fun x3=>
   (CC x1 7).bind fun y1=>
   (CC x1 18).bind fun y2=>
   (BA l2 (wI (a1-7))).bind fun x4=>
   (CC x2 17).bind fun y3=>
   (CC x2 19).bind fun y4=>
   (DM 4 l2 [((x3+((y1 ^^^ y2) ^^^ (shr32 x1 3)))+x4)+((y3 ^^^ y4) ^^^ (shr32 x2 10))]).bind fun l5=>
   GV a1 nx_f_ref02_part_l1 l5))
 (
  GU n T p0 l2)
def IC(n:Nat)(T:List UInt32)(p0:List UInt32)(p1:List UInt8):Nat→(List UInt32×Int)→Option (List UInt32):=CE fun nx x=>Gl n T p0 p1 nx x.1 x.2
def LI(n:Nat)(T:List UInt32)(p0:List UInt32)(p1:List UInt8):Option (List UInt32):=
 IC n T p0 p1 n ([],0)
theorem YK{n:Nat}{T p0 r:List UInt32}{DA:Value}{p1:List UInt8}(h:LI n T p0 p1=some r)(hT:I0 K w0 2 64 T)(hs0_:B6 K w0 BL 1 DA p0):zC K w0 289 [DA,vS p1] [] H (fun u M=>∃v0:Value,u=v0∧M=[AD 33 1 v0 BL r]):=by
 unfold LI at h
 refine TP.enter Tryz.func289 rfl rfl ?_
 refine Y (B5 33 1 BL (U E (V (Y (B5 33 1 BL (U E (V ?_)))))))
 refine A6 (α:=List UInt32×Value) (fun x=>GU n T p0 x.1=some r) (fun x=>[(0,DA),(5,x.2)]) (fun x=>AD 33 1 x.2 BL x.1::H) ?_ (fun x D h=>?_)
 refine Y (U E (V (AP ?_)))
 refine SX.heap (SX.mono (BG (α:=Nat×List UInt32×Value×Int) (fun x=>IC n T p0 p1 x.1 (x.2.1,x.2.2.2)=some r) (fun x=>[(0,DA),(1,vS p1),(5,x.2.2.1),(6,vI x.2.2.2)]) (fun x=>AD 33 1 x.2.2.1 BL x.2.1::H) (fun x=>x.1) (fun x D h=>?_) (n,[],zN,0) h) tL) (BM [0] 2 E E E)
 obtain⟨m1,l2,v2,a1⟩:=x
 dsimp only at h
 rcases m1 with _ | m1
 cases (show(none:Option _)=some r from h)
 replace h:Gl n T p0 p1 (IC n T p0 p1 m1) l2 a1=some r:=h
 unfold Gl at h
 try dsimp only
 refine AH (Y (J E (Z E A4 (V ?_))))
 refine AN h E (fun hc1 h=>?_) fun hc1 h=>?_
 refine AJ (AI ?_)
 refine A6 (α:=List UInt32×Value) (fun x=>GV a1 (IC n T p0 p1 m1) x.1=some r) (fun x=>[(0,DA),(1,vS p1),(5,x.2),(6,vI a1)]) (fun x=>AD 33 1 x.2 BL x.1::H) ?_ (fun x D h=>?_)
 refine AP (AH (Y (J E (Z E A4 (V ?_)))))
 refine AN h E (fun hc2 h=>?_) fun hc2 h=>?_
 refine AH ?_
 refine AE h fun c1 hc1 h=>?_
 refine AE h fun c2 hc2 h=>?_
 refine AE h fun c3 hc3 h=>?_
 refine AE h fun c4 hc4 h=>?_
 refine AE h fun l4 hl4 h=>?_
 refine Aw DC [] (CF [(true,0),(true,1),(true,2),(true,3),(true,4),(true,5),(true,6),(true,7),(true,8),(true,9),(true,10),(true,11),(true,12),(true,13),(true,14),(true,15),(true,16),(true,17),(true,18),(true,19),(true,20),(true,21),(true,22),(true,23),(true,24),(true,25),(true,26),(true,27),(true,28),(true,29),(false,30)] (.last 31 (Cz [(false,32)]))) zK (J E (J E (J E (Z E L8 (KR hc1 E Cc E E (BB E E (FD DE CJ) ?_))))))
 refine Z E (FL.shl32 (n:=24)) ?_
 refine J E (J E (Z E L8 (Z E Bf (KR hc2 E Cc E E (BB E E (FD DE CJ) ?_)))))
 refine Z E (FL.shl32 (n:=16)) ?_
 refine Z E Ep (J E (J E (Z E L8 (Z E Bf (KR hc3 E Cc E E (BB E E (FD DE CJ) ?_))))))
 refine Z E (FL.shl32 (n:=8)) ?_
 refine Z E Ep (J E (J E (Z E L8 (Z E Bf (KR hc4 E Cc E E (BB E E (FD DE CJ) (Z E Ep ?_)))))))
 refine B9 [_] E CM Bg Hy ⟨E,zT⟩ E E E zX E E zU fun b1=>?_
 refine CA BL 1 ([(((shl32 c1.toUInt32 24) ||| (shl32 c2.toUInt32 16)) ||| (shl32 c3.toUInt32 8)) ||| c4.toUInt32]:List UInt32) E zV E ?_
 refine Bc ?_
 refine Co 1 hl4 (sz:=1) (enc:=BL) zV E CM Bg P0 Hy E zD E E E E (CH (sz:=1) (enc:=BL) 0 zV E) (by simp[BL,Value.oneCell']) zU fun v4=>?_
 refine U E (V (Ax (A3 (A5 ?_))))
 exact Ap (l4,v4) h tL (BM [1] 2 E E E)
 refine AJ (AI (Y ?_))
 refine AE h fun x1 hx1 h=>?_
 refine J E (J E (Z E DZ ?_))
 refine CG 0 hx1 E CM Bg E E E fun g1 m2 cp1 hv1=>?_
 refine Bq E A1 E (B7 (sz:=1) (enc:=BL) 0 0 zV E hv1 hx1 E) ?_
 refine U E (V (Y ?_))
 refine AE h fun x2 hx2 h=>?_
 refine J E (J E (Z E DZ ?_))
 refine CG 0 hx2 E CM Bg E E E fun g2 m3 cp2 hv2=>?_
 refine Bq E A1 E (B7 (sz:=1) (enc:=BL) 0 0 zV E hv2 hx2 E) ?_
 refine U E (V ?_)
 refine AE h fun x3 hx3 h=>?_
 refine AE h fun y1 hy1 h=>?_
 refine AE h fun y2 hy2 h=>?_
 refine AE h fun x4 hx4 h=>?_
 refine AE h fun y3 hy3 h=>?_
 refine AE h fun y4 hy4 h=>?_
 refine AE h fun l5 hl5 h=>?_
 refine Aw DC [0] (CF [(true,0),(true,1),(true,2),(true,3),(true,4),(true,5),(true,6),(true,8),(true,11),(true,12),(true,15),(true,16),(true,17),(true,18),(true,19),(true,21),(true,23),(true,26),(true,27),(false,7),(false,9),(true,10),(true,13),(true,14),(true,20),(false,22),(false,24),(true,25),(true,28),(true,29),(false,30)] (.last 31 (Cz [(false,32)]))) zK (J E (J E (J E (Z E DZ ?_))))
 refine CG 0 hx3 E CM Bg E E E fun g3 m4 cp3 hv3=>?_
 refine Bq E A1 E (B7 (sz:=1) (enc:=BL) 0 0 zV E hv3 hx3 E) ?_
 refine J E (J E (J E ?_))
 refine Z E (FL.shr32 (n:=3)) ?_
 refine J E (J E (Z E DZ ?_))
 refine CG 0 hx4 E CM Bg E E E fun g4 m5 cp4 hv4=>?_
 refine Bq E A1 E (B7 (sz:=1) (enc:=BL) 0 0 zV E hv4 hx4 E) ?_
 refine J E (J E (J E ?_))
 refine Z E (FL.shr32 (n:=10)) ?_
 refine BW 0 NW (D9 hy1) E ⟨⟨0,E⟩,zT⟩ (BW 0 NW (D9 hy2) E ⟨⟨0,E⟩,zT⟩ (Z E Cd (Z E Cd (Z E Bv (Z E Bv (BW 0 NW (D9 hy3) E ⟨⟨0,E⟩,zT⟩ (BW 0 NW (D9 hy4) E ⟨⟨0,E⟩,zT⟩ ?_)))))))
 refine Z E Cd (Z E Cd (Z E Bv ?_))
 refine B9 [_] E CM Bg Hy ⟨E,zT⟩ E E E zX E E (fun _=>⟨⟨1,E⟩,zT⟩) fun b2=>?_
 refine CA BL 1 ([((x3+((y1 ^^^ y2) ^^^ (shr32 x1 3)))+x4)+((y3 ^^^ y4) ^^^ (shr32 x2 10))]:List UInt32) E zV E ?_
 refine Bc ?_
 refine Co 1 hl5 (sz:=1) (enc:=BL) zV E CM Bg P0 Hy E zD E E E E (CH (sz:=1) (enc:=BL) 0 zV E) (by simp[BL,Value.oneCell']) zU fun v5=>?_
 refine U E (AZ (Am ?_))
 exact Ap (l5,v5) h tL (BM [1] 2 E E E)
 obtain⟨l3,v3⟩:=x
 dsimp only at h
 unfold GV at h
 try dsimp only
 refine AQ ?_
 obtain⟨x5,ex5,h⟩:=Bu h
 refine J E (Z E Bf ?_)
 refine Al (u:=vI x5) E E (by rw[ex5]) ?_
 refine AZ ?_
 exact Au (m1,l3,v3,x5) h (Nat.lt_succ_self _) tL (BM [0] 1 E E E)
 refine Ax (A3 (BZ (A5 ?_)))
 exact Ap (l2,v2) h tL (BM [0] 1 E E E)
 obtain⟨l1,v1⟩:=x
 dsimp only at h
 unfold GU at h
 try dsimp only
 refine Y ?_
 refine AE h fun l6 hl6 h=>?_
 refine fL (n:=8) BL E CM Bg P0 Hy E E E E E zU fun v6=>?_
 refine J E ?_
 refine RS 0 hl6 hs0_ (sz:=1) (enc:=BL) zV E CM Bg P0 Hy E zD E E E (by simp[BL,Value.oneCell']) zU fun v7=>?_
 refine U E (V ?_)
 refine A6 (α:=List UInt32×Value) (fun x=>GW n p0 x.1=some r) (fun x=>[(0,DA),(9,x.2)]) (fun x=>AD 33 1 x.2 BL x.1::H) ?_ (fun x D h=>?_)
 refine Y (U E (V (AP ?_)))
 refine SX.heap (SX.mono (BG (α:=Nat×List UInt32×Value×Int) (fun x=>Kk n T p0 l1 x.1 (x.2.1,x.2.2.2)=some r) (fun x=>[(0,DA),(5,v1),(9,x.2.2.1),(10,vI x.2.2.2)]) (fun x=>AD 33 1 v1 BL l1::AD 33 1 x.2.2.1 BL x.2.1::H) (fun x=>x.1) (fun x D h=>?_) (n,l6,v7,0) h) tL) (BM [1,0] 2 E E E)
 obtain⟨m6,l8,v9,a2⟩:=x
 dsimp only at h
 rcases m6 with _ | m6
 cases (show(none:Option _)=some r from h)
 replace h:Gm n T p0 l1 (Kk n T p0 l1 m6) l8 a2=some r:=h
 unfold Gm at h
 try dsimp only
 refine AH (Y (J E (Z E A4 (V ?_))))
 refine AN h E (fun hc3 h=>?_) fun hc3 h=>?_
 refine AJ (AI (AH (AP (Y ?_))))
 refine AE h fun x6 hx6 h=>?_
 refine J E ?_
 refine CG 1 hx6 E CM Bg E E E fun g5 m7 cp5 hv5=>?_
 refine Bq E A1 E (B7 (sz:=1) (enc:=BL) 1 0 zV E hv5 hx6 E) ?_
 refine U E (V (Y ?_))
 refine AE h fun x7 hx7 h=>?_
 refine J E ?_
 refine CG 1 hx7 E CM Bg E E E fun g6 m8 cp6 hv6=>?_
 refine Bq E A1 E (B7 (sz:=1) (enc:=BL) 1 0 zV E hv6 hx7 E) ?_
 refine U E (V (AH ?_))
 refine AE h fun x8 hx8 h=>?_
 refine AE h fun y5 hy5 h=>?_
 refine AE h fun y6 hy6 h=>?_
 refine AE h fun y7 hy7 h=>?_
 refine AE h fun x9 hx9 h=>?_
 refine AE h fun x10 hx10 h=>?_
 refine AE h fun x11 hx11 h=>?_
 refine AE h fun x12 hx12 h=>?_
 obtain⟨x13,ex13,h⟩:=Bu h
 refine Aw DC [0,1] (CF [(true,0),(true,1),(true,2),(true,3),(true,5),(true,8),(true,12),(true,13),(true,14),(true,15),(true,16),(true,17),(true,18),(true,19),(true,20),(true,21),(true,22),(true,23),(true,25),(true,26),(true,27),(true,29),(true,30),(true,31),(true,32),(false,4),(false,6),(true,7),(false,9),(false,10),(false,11),(false,24),(false,28)] (.last 33 (Cz [(false,34)]))) zK (J E ?_)
 refine CG 1 hx8 E CM Bg E E E fun g7 m9 cp7 hv7=>?_
 refine Bq E A1 E (B7 (sz:=1) (enc:=BL) 1 0 zV E hv7 hx8 E) ?_
 refine J E (J E (J E (J E (J E ?_))))
 refine CG 1 hx9 E CM Bg E E E fun g8 m10 cp8 hv8=>?_
 refine Bq E A1 E (B7 (sz:=1) (enc:=BL) 1 0 zV E hv8 hx9 E) ?_
 refine Z E GZ (J E (Yd E E (J E ?_)))
 refine CG 1 hx10 E CM Bg E E E fun g9 m11 cp9 hv9=>?_
 refine Bq E A1 E (B7 (sz:=1) (enc:=BL) 1 0 zV E hv9 hx10 E) ?_
 refine Z E GZ (Z E Cd (J E ?_))
 refine MM (xs:=T) hx11 E Q2 Bg E E hT.len ?_
 refine Bq E A1 E (oU hT hx11) (J E (J E ?_))
 refine CG 0 hx12 E CM Bg E E E fun g10 m12 cp10 hv10=>?_
 refine Bq E A1 E (B7 (sz:=1) (enc:=BL) 0 0 zV E hv10 hx12 E) ?_
 refine BW 0 NW (D9 hy5) E ⟨⟨0,E⟩,⟨1,E⟩,zT⟩ (BW 0 NW (D9 hy6) E ⟨⟨0,E⟩,⟨1,E⟩,zT⟩ (Z E Cd (BW 0 NW (D9 hy7) E ⟨⟨0,E⟩,⟨1,E⟩,zT⟩ (Z E Cd (Z E Bv (Z E Bv (Z E Bv (Bc ?_))))))))
 refine Z E Bv ?_
 refine Al (u:=AA x13) E E (by rw[ex13]) ?_
 refine V (AH ?_)
 refine AE h fun y8 hy8 h=>?_
 refine AE h fun y9 hy9 h=>?_
 refine AE h fun y10 hy10 h=>?_
 refine AE h fun x14 hx14 h=>?_
 refine AE h fun x15 hx15 h=>?_
 refine AE h fun x16 hx16 h=>?_
 refine AE h fun x17 hx17 h=>?_
 obtain⟨x18,ex18,h⟩:=Bu h
 refine Aw DC [1] (CF [(true,0),(true,2),(true,5),(true,8),(true,9),(true,10),(true,11),(true,12),(true,13),(true,14),(true,15),(true,16),(true,17),(true,18),(true,19),(true,20),(true,21),(true,22),(true,23),(true,24),(true,25),(true,26),(false,1),(false,3),(true,4),(false,6),(false,7)] (.last 27 (Cz [(false,28)]))) zK (J E (J E (J E (J E (J E ?_)))))
 refine CG 1 hx14 E CM Bg E E E fun g11 m13 cp11 hv11=>?_
 refine Bq E A1 E (B7 (sz:=1) (enc:=BL) 0 0 zV E hv11 hx14 E) ?_
 refine Z E GZ (J E (J E ?_))
 refine CG 1 hx15 E CM Bg E E E fun g12 m14 cp12 hv12=>?_
 refine Bq E A1 E (B7 (sz:=1) (enc:=BL) 0 0 zV E hv12 hx15 E) ?_
 refine Z E GZ (Z E Cd (J E ?_))
 refine CG 1 hx16 E CM Bg E E E fun g13 m15 cp13 hv13=>?_
 refine Bq E A1 E (B7 (sz:=1) (enc:=BL) 0 0 zV E hv13 hx16 E) ?_
 refine J E ?_
 refine CG 1 hx17 E CM Bg E E E fun g14 m16 cp14 hv14=>?_
 refine Bq E A1 E (B7 (sz:=1) (enc:=BL) 0 0 zV E hv14 hx17 E) ?_
 refine Z E GZ (Z E Cd (BW 0 NW (D9 hy8) E ⟨⟨1,E⟩,zT⟩ (BW 0 NW (D9 hy9) E ⟨⟨1,E⟩,zT⟩ (Z E Cd (BW 0 NW (D9 hy10) E ⟨⟨1,E⟩,zT⟩ (Z E Cd (Bc (Z E Bv ?_))))))))
 refine Al (u:=AA x18) E E (by rw[ex18]) ?_
 refine V ?_
 refine AE h fun x19 hx19 h=>?_
 refine AE h fun x20 hx20 h=>?_
 refine AE h fun x21 hx21 h=>?_
 refine AE h fun x22 hx22 h=>?_
 refine AE h fun x23 hx23 h=>?_
 refine AE h fun x24 hx24 h=>?_
 refine AE h fun x25 hx25 h=>?_
 refine Aw DC [1] (CF [(true,0),(true,1),(true,2),(true,3),(true,4),(true,5),(true,6),(true,7),(true,8),(true,9),(true,10),(true,11),(true,12),(true,13),(true,14),(true,15),(true,16),(true,17),(true,18),(true,19),(true,20),(true,21),(true,22),(true,23),(true,24),(true,25)] (.last 26 (Cz [(false,27)]))) zK (J E (J E (Z E Bv (J E ?_))))
 refine CG 1 hx19 E CM Bg E E E fun g15 m17 cp15 hv15=>?_
 refine Bq E A1 E (B7 (sz:=1) (enc:=BL) 0 0 zV E hv15 hx19 E) ?_
 refine J E ?_
 refine CG 1 hx20 E CM Bg E E E fun g16 m18 cp16 hv16=>?_
 refine Bq E A1 E (B7 (sz:=1) (enc:=BL) 0 0 zV E hv16 hx20 E) ?_
 refine J E ?_
 refine CG 1 hx21 E CM Bg E E E fun g17 m19 cp17 hv17=>?_
 refine Bq E A1 E (B7 (sz:=1) (enc:=BL) 0 0 zV E hv17 hx21 E) ?_
 refine J E ?_
 refine CG 1 hx22 E CM Bg E E E fun g18 m20 cp18 hv18=>?_
 refine Bq E A1 E (B7 (sz:=1) (enc:=BL) 0 0 zV E hv18 hx22 E) ?_
 refine J E (Z E Bv (J E ?_))
 refine CG 1 hx23 E CM Bg E E E fun g19 m21 cp19 hv19=>?_
 refine Bq E A1 E (B7 (sz:=1) (enc:=BL) 0 0 zV E hv19 hx23 E) ?_
 refine J E ?_
 refine CG 1 hx24 E CM Bg E E E fun g20 m22 cp20 hv20=>?_
 refine Bq E A1 E (B7 (sz:=1) (enc:=BL) 0 0 zV E hv20 hx24 E) ?_
 refine J E ?_
 refine CG 1 hx25 E CM Bg E E E fun g21 m23 cp21 hv21=>?_
 refine Bq E A1 E (B7 (sz:=1) (enc:=BL) 0 0 zV E hv21 hx25 E) ?_
 refine Bc ?_
 refine B9 [_,_,_,_,_,_,_,_] E CM Bg Hy ⟨E,E,E,E,E,E,E,E,zT⟩ E E E zX E E zU fun b3=>?_
 refine CA BL 1 ([x13+x18,x19,x20,x21,x22+x13,x23,x24,x25]:List UInt32) E zV E ?_
 refine U E (AZ (Am (AI (AQ ?_))))
 obtain⟨x26,ex26,h⟩:=Bu h
 refine J E (Z E Bf ?_)
 refine Al (u:=vI x26) E E (by rw[ex26]) ?_
 refine AZ ?_
 exact Au (m6,[x13+x18,x19,x20,x21,x22+x13,x23,x24,x25],.slice (some ⟨b3,0,none⟩) 8 8,x26) h (Nat.lt_succ_self _) tL (BM [1,0] 3 E E E)
 refine Ax (A3 (BZ (A5 ?_)))
 exact Ap (l8,v9) h tL (BM [1] 2 E E E)
 obtain⟨l7,v8⟩:=x
 dsimp only at h
 unfold GW at h
 try dsimp only
 refine A6 (α:=List UInt32×Value) (fun x=>Kj x.1=some r) (fun x=>[(9,x.2)]) (fun x=>AD 33 1 x.2 BL x.1::H) ?_ (fun x D h=>?_)
 refine Y (U E (V (AP ?_)))
 refine SX.heap (SX.mono (BG (α:=Nat×List UInt32×Value×Int) (fun x=>Kl p0 x.1 (x.2.1,x.2.2.2)=some r) (fun x=>[(0,DA),(9,x.2.2.1),(15,vI x.2.2.2)]) (fun x=>AD 33 1 x.2.2.1 BL x.2.1::H) (fun x=>x.1) (fun x D h=>?_) (n,l7,v8,0) h) tL) (BM [0] 1 E E E)
 obtain⟨m24,l10,v11,a3⟩:=x
 dsimp only at h
 rcases m24 with _ | m24
 cases (show(none:Option _)=some r from h)
 replace h:Gn p0 (Kl p0 m24) l10 a3=some r:=h
 unfold Gn at h
 try dsimp only
 refine AH (Y (J E (Z E A4 (V ?_))))
 refine AN h E (fun hc4 h=>?_) fun hc4 h=>?_
 refine AJ (AI (AH (AP ?_)))
 refine AE h fun x27 hx27 h=>?_
 refine AE h fun x28 hx28 h=>?_
 refine AE h fun x29 hx29 h=>?_
 refine AE h fun l11 hl11 h=>?_
 refine Aw DC [0] (CF [(true,0),(true,1),(true,2),(true,3),(true,4),(true,5),(true,6),(true,7),(true,8),(true,9),(true,10),(true,11)] (.last 12 .nil)) zK (J E (J E (J E (J E ?_))))
 refine CG 0 hx27 E CM Bg E E E fun g22 m25 cp22 hv22=>?_
 refine Bq E A1 E (B7 (sz:=1) (enc:=BL) 0 0 zV E hv22 hx27 E) ?_
 refine J E (J E ?_)
 refine C4 hx28 hs0_ E CM Bg E E fun be1 of1 hc5=>?_
 refine Bq E A1 E (Dc (j:=0) hc5 E) ?_
 refine Z E Bv ?_
 refine CG 0 hx29 E CM Bg E E E fun g23 m26 cp23 hv23=>?_
 refine Bc ?_
 refine F6 (sz:=1) (enc:=BL) 0 hl11 zV E E E E E hv23 Bg (by simp[Value.oneCell']) zT ?_
 refine AZ (Am (AI (AQ ?_)))
 obtain⟨x30,ex30,h⟩:=Bu h
 refine J E (Z E Bf ?_)
 refine Al (u:=vI x30) E E (by rw[ex30]) ?_
 refine AZ ?_
 exact Au (m24,l11,v11,x30) h (Nat.lt_succ_self _) tL (BM [0] 1 E E E)
 refine Ax (A3 (BZ (A5 ?_)))
 exact Ap (l10,v11) h tL (BM [0] 1 E E E)
 obtain⟨l9,v10⟩:=x
 dsimp only at h
 unfold Kj at h
 try dsimp only
 refine Y (J E (U E (V (AK ?_))))
 obtain rfl:=zI h
 exact Bo [0] 1 (Ck E E) E E ⟨v10,E,E⟩
def Ij(p0:List UInt8)(a1:List UInt8):Option (List UInt8):=
 ret ((Cn (p0.length:Int))*8) fun x1=>
 (ED a1 [(shr64 x1 56).toUInt8,(shr64 x1 48).toUInt8,(shr64 x1 40).toUInt8,(shr64 x1 32).toUInt8,(shr64 x1 24).toUInt8,(shr64 x1 16).toUInt8,(shr64 x1 8).toUInt8,x1.toUInt8]).bind fun s3=>
 some s3
def Fh(p0:List UInt8)(nx_f_ref02_Filled_l1:List UInt8→Option (List UInt8))(a2:List UInt8):Option (List UInt8):=
 (TM (a2.length:Int) 64).bind fun q1=>
 cond (!decide (q1=56))
 (
  (ED a2 [0]).bind fun s2=>
  nx_f_ref02_Filled_l1 s2)
 (
  Ij p0 a2)
def Ik(p0:List UInt8):Nat→List UInt8→Option (List UInt8):=CE fun nx x=>Fh p0 nx x
def I3(n:Nat)(p0:List UInt8):Option (List UInt8):=
 (ED p0 [128]).bind fun s1=>
 Ik p0 n s1
theorem WA{n:Nat}{p0 r:List UInt8}(h:I3 n p0=some r): zC K w0 287 [vS p0] [] H (fun u M=>u=vS r∧M=[]):=by
 unfold I3 at h
 refine TP.enter Tryz.func287 rfl rfl ?_
 refine Y (U E (V (Y ?_)))
 refine AE h fun s1 hs1 h=>?_
 refine J E (Z E (CK hs1) (U E (V ?_)))
 refine A6 (α:=List UInt8) (fun x=>Ij p0 x=some r) (fun x=>[(0,vS p0),(3,vS x)]) (fun x=>H) ?_ (fun a1 D h=>?_)
 refine AP ?_
 refine SX.heap (SX.mono (BG (α:=Nat×List UInt8) (fun x=>Ik p0 x.1 x.2=some r) (fun x=>[(0,vS p0),(3,vS x.2)]) (fun x=>H) (fun x=>x.1) (fun x D h=>?_) (n,s1) h) tL) (BM [] 0 E E E)
 obtain⟨m1,a2⟩:=x
 dsimp only at h
 rcases m1 with _ | m1
 cases (show(none:Option _)=some r from h)
 replace h:Fh p0 (Ik p0 m1) a2=some r:=h
 unfold Fh at h
 try dsimp only
 refine AH (Y ?_)
 refine AE h fun q1 hq1 h=>?_
 refine J E (Bp E Cc E (Z E (SW hq1) (Z E BJ (V ?_))))
 refine AN h E (fun hc1 h=>?_) fun hc1 h=>?_
 refine AJ (AI (AP (AQ ?_)))
 refine AE h fun s2 hs2 h=>?_
 refine J E (Z E (CK hs2) (U E (AZ (Am ?_))))
 exact Au (m1,s2) h (Nat.lt_succ_self _) tL (BM [] 0 E E E)
 refine Ax (A3 (BZ (A5 ?_)))
 exact Ap a2 h tL (BM [] 0 E E E)
 unfold Ij at h
 try dsimp only
 refine Y ?_
 obtain⟨x1,ex1,h⟩:=Bu h
 refine J E (Bp E Cc E (BB E E (Er IZ DJ) ?_))
 refine Z E (Ls (b:=8)) ?_
 refine Al (u:=AV x1) E E (by rw[ex1]) ?_
 refine V (Y ?_)
 refine AE h fun s3 hs3 h=>?_
 refine J E (J E ?_)
 refine Z E (FL.shr64 (n:=56)) ?_
 refine BB E E (FC DJ DE) (J E ?_)
 refine Z E (FL.shr64 (n:=48)) ?_
 refine BB E E (FC DJ DE) (J E ?_)
 refine Z E (FL.shr64 (n:=40)) ?_
 refine BB E E (FC DJ DE) (J E ?_)
 refine Z E (FL.shr64 (n:=32)) ?_
 refine BB E E (FC DJ DE) (J E ?_)
 refine Z E (FL.shr64 (n:=24)) ?_
 refine BB E E (FC DJ DE) (J E ?_)
 refine Z E (FL.shr64 (n:=16)) ?_
 refine BB E E (FC DJ DE) (J E ?_)
 refine Z E (FL.shr64 (n:=8)) ?_
 refine BB E E (FC DJ DE) (J E (BB E E (FC DJ DE) ?_))
 refine B9 [_,_,_,_,_,_,_,_] E CV JX KP ⟨E,E,E,E,E,E,E,E,zT⟩ E E E zX E E zU fun b1=>?_
 refine CA FN 1 ([(shr64 x1 56).toUInt8,(shr64 x1 48).toUInt8,(shr64 x1 40).toUInt8,(shr64 x1 32).toUInt8,(shr64 x1 24).toUInt8,(shr64 x1 16).toUInt8,(shr64 x1 8).toUInt8,x1.toUInt8]:List UInt8) E zV E ?_
 refine Gb 0 E CV DE Cc E E (Z E (CK hs3) (U E (V (AK ?_))))
 obtain rfl:=zI h
 exact AW [] 1 E E E
def Ld(l3:List UInt8):Option (List UInt8):=
 some l3
def Hb(l1:List UInt32)(nx_f_ref02_Sum_l2:List UInt8×Int→Option (List UInt8))(l4:List UInt8)(a2:Int):Option (List UInt8):=
 cond (decide (a2<8))
 (
  (BA l1 a2).bind fun x1=>
  (BA l1 a2).bind fun x2=>
  (BA l1 a2).bind fun x3=>
  (BA l1 a2).bind fun x4=>
  (DM 1 l4 [(shr32 x1 24).toUInt8,(shr32 x2 16).toUInt8,(shr32 x3 8).toUInt8,x4.toUInt8]).bind fun l5=>
  ret (wI (a2+1)) fun i_2=>
  nx_f_ref02_Sum_l2 (l5,i_2))
 (
  Ld l4)
def Lf(l1:List UInt32):Nat→(List UInt8×Int)→Option (List UInt8):=CE fun nx x=>Hb l1 nx x.1 x.2
def I4(n:Nat)(l1:List UInt32):Option (List UInt8):=
 Lf l1 n ([],0)
def Ha(n:Nat)(T:List UInt32)(y1:List UInt8)(nx_f_ref02_Sum_l1:List UInt32×Int→Option (List UInt8))(l2:List UInt32)(a1:Int):Option (List UInt8):=
 cond (decide (a1<(y1.length:Int)))
 (
  (Ku y1 a1 (wI (a1+64))).bind fun s1=>
  (LI n T l2 s1).bind fun y3=>
  ret (wI (a1+64)) fun i_1=>
  nx_f_ref02_Sum_l1 (y3,i_1))
 (
  I4 n l2)
def Le(n:Nat)(T:List UInt32)(y1:List UInt8):Nat→(List UInt32×Int)→Option (List UInt8):=CE fun nx x=>Ha n T y1 nx x.1 x.2
def Il(n:Nat)(T:List UInt32)(p0:List UInt8):Option (List UInt8):=
 (I3 n p0).bind fun y1=>
 (MY).bind fun y2=>
 Le n T y1 n (y2,0)
theorem QV{n:Nat}{T:List UInt32}{p0 r:List UInt8}(h:Il n T p0=some r)(hT:I0 K w0 2 64 T):zC K w0 260 [vS p0] [] H (fun u M=>u=vS r∧M=[]):=by
 unfold Il at h
 refine TP.enter Tryz.func260 rfl rfl ?_
 refine Y (U E (V (Y ?_)))
 refine AE h fun y1 hy1 h=>?_
 refine J E (AS 0 nw (WA hy1) E (U E (V (Y ?_))))
 refine AE h fun y2 hy2 h=>?_
 refine Bd (vs:=[]) (Hin:=[]) (Hr:=_) E E zT ny E E (W3 hy2) ?_
 rintro v1 _ ⟨_,rfl,rfl⟩
 refine⟨trivial,?_⟩
 refine U E (V ?_)
 refine A6 (α:=List UInt32×Value) (fun x=>I4 n x.1=some r) (fun x=>[(4,x.2)]) (fun x=>AD 33 1 x.2 BL x.1::H) ?_ (fun x D h=>?_)
 refine Y (U E (V (AP ?_)))
 refine SX.heap (SX.mono (BG (α:=Nat×List UInt32×Value×Int) (fun x=>Le n T y1 x.1 (x.2.1,x.2.2.2)=some r) (fun x=>[(3,vS y1),(4,x.2.2.1),(5,vI x.2.2.2)]) (fun x=>AD 33 1 x.2.2.1 BL x.2.1::H) (fun x=>x.1) (fun x D h=>?_) (n,y2,v1,0) h) tL) (BM [0] 1 E E E)
 obtain⟨m1,l2,v3,a1⟩:=x
 dsimp only at h
 rcases m1 with _ | m1
 cases (show(none:Option _)=some r from h)
 replace h:Ha n T y1 (Le n T y1 m1) l2 a1=some r:=h
 unfold Ha at h
 try dsimp only
 refine AH (Y (J E (J E (Bp E Cc E (Z E A4 (V ?_))))))
 refine AN h E (fun hc1 h=>?_) fun hc1 h=>?_
 refine AJ (AI (AH (AP (AQ ?_))))
 refine AE h fun s1 hs1 h=>?_
 refine AE h fun y3 hy3 h=>?_
 refine J E (J E (J E (J E (Z E Bf (mA hs1 E Cc E E E ?_)))))
 refine Bd (vs:=[_,_]) (Hin:=[_]) (Hr:=_) E E ⟨E,E,zT⟩ nz E E (Ch (B:=[_]) (Hin:=[]) fun K' w1 hk hB=>YK hy3 (hT.keeps hk) (CL (e:=33) zV (hB _ zS))) ?_
 rintro v4 _ ⟨_,rfl,_,rfl,rfl⟩
 refine⟨trivial,?_⟩
 refine U E (AZ (Am (AI (AQ ?_))))
 obtain⟨i_1,ei_1,h⟩:=Bu h
 refine J E (Z E Bf ?_)
 refine Al (u:=vI i_1) E E (by rw[ei_1]) ?_
 refine AZ ?_
 exact Au (m1,y3,v4,i_1) h (Nat.lt_succ_self _) tL (BM [1] 2 E E E)
 refine Ax (A3 (BZ (A5 ?_)))
 exact Ap (l2,v3) h tL (BM [0] 1 E E E)
 obtain⟨l1,v2⟩:=x
 dsimp only at h
 unfold I4 at h
 try dsimp only
 refine Y (B5 5 1 FN (U E (V ?_)))
 refine A6 (α:=List UInt8×Value) (fun x=>Ld x.1=some r) (fun x=>[(6,x.2)]) (fun x=>AD 5 1 x.2 FN x.1::H) ?_ (fun x D h=>?_)
 refine Y (U E (V (AP ?_)))
 refine SX.heap (SX.mono (BG (α:=Nat×List UInt8×Value×Int) (fun x=>Lf l1 x.1 (x.2.1,x.2.2.2)=some r) (fun x=>[(4,v2),(6,x.2.2.1),(7,vI x.2.2.2)]) (fun x=>AD 33 1 v2 BL l1::AD 5 1 x.2.2.1 FN x.2.1::H) (fun x=>x.1) (fun x D h=>?_) (n,[],zN,0) h) tL) (BM [1,0] 2 E E E)
 obtain⟨m2,l4,v6,a2⟩:=x
 dsimp only at h
 rcases m2 with _ | m2
 cases (show(none:Option _)=some r from h)
 replace h:Hb l1 (Lf l1 m2) l4 a2=some r:=h
 unfold Hb at h
 try dsimp only
 refine AH (Y (J E (Z E A4 (V ?_))))
 refine AN h E (fun hc2 h=>?_) fun hc2 h=>?_
 refine AJ (AI (AH (AP ?_)))
 refine AE h fun x1 hx1 h=>?_
 refine AE h fun x2 hx2 h=>?_
 refine AE h fun x3 hx3 h=>?_
 refine AE h fun x4 hx4 h=>?_
 refine AE h fun l5 hl5 h=>?_
 refine Aw DC [0] (CF [(true,0),(true,1),(true,2),(true,3),(true,4),(true,5),(true,6),(true,7),(true,8),(true,9),(true,10),(true,11),(true,12),(true,13),(true,14),(true,15),(true,16),(true,17),(true,18),(true,19),(true,20),(true,21),(true,22),(true,23),(false,24)] (.last 25 (Cz [(false,26)]))) zK (J E (J E (J E ?_)))
 refine CG 0 hx1 E CM Bg E E E fun g1 m3 cp1 hv1=>?_
 refine Bq E A1 E (B7 (sz:=1) (enc:=BL) 0 0 zV E hv1 hx1 E) ?_
 refine Z E (FL.shr32 (n:=24)) ?_
 refine BB E E (Cu CJ DE) (J E (J E ?_))
 refine CG 0 hx2 E CM Bg E E E fun g2 m4 cp2 hv2=>?_
 refine Bq E A1 E (B7 (sz:=1) (enc:=BL) 0 0 zV E hv2 hx2 E) ?_
 refine Z E (FL.shr32 (n:=16)) ?_
 refine BB E E (Cu CJ DE) (J E (J E ?_))
 refine CG 0 hx3 E CM Bg E E E fun g3 m5 cp3 hv3=>?_
 refine Bq E A1 E (B7 (sz:=1) (enc:=BL) 0 0 zV E hv3 hx3 E) ?_
 refine Z E (FL.shr32 (n:=8)) ?_
 refine BB E E (Cu CJ DE) (J E (J E ?_))
 refine CG 0 hx4 E CM Bg E E E fun g4 m6 cp4 hv4=>?_
 refine Bq E A1 E (B7 (sz:=1) (enc:=BL) 0 0 zV E hv4 hx4 E) ?_
 refine BB E E (Cu CJ DE) ?_
 refine B9 [_,_,_,_] E CV JX KP ⟨E,E,E,E,zT⟩ E E E zX E E (fun _=>⟨⟨1,E⟩,zT⟩) fun b1=>?_
 refine CA FN 1 ([(shr32 x1 24).toUInt8,(shr32 x2 16).toUInt8,(shr32 x3 8).toUInt8,x4.toUInt8]:List UInt8) E zV E ?_
 refine Bc ?_
 refine Co 2 hl5 (sz:=1) (enc:=FN) zV E CV JX U6 KP E zD E E E E (CH (sz:=1) (enc:=FN) 0 zV E) (by simp[FN,Value.oneCell']) zU fun v7=>?_
 refine U E (AZ (Am (AI (AQ ?_))))
 obtain⟨i_2,ei_2,h⟩:=Bu h
 refine J E (Z E Bf ?_)
 refine Al (u:=vI i_2) E E (by rw[ei_2]) ?_
 refine AZ ?_
 exact Au (m2,l5,v7,i_2) h (Nat.lt_succ_self _) tL (BM [1,2] 3 E E E)
 refine Ax (A3 (BZ (A5 ?_)))
 exact Ap (l4,v6) h tL (BM [1] 2 E E E)
 obtain⟨l3,v5⟩:=x
 dsimp only at h
 unfold Ld at h
 try dsimp only
 refine Y (J E (Gb 0 E CV DE Cc E E (U E (V (AK ?_)))))
 obtain rfl:=zI h
 exact AW [] 1 E E E
def GY(p1:UInt8)(l2:List UInt8)(a2:Int)(nx_f_ref03_part_l1:List UInt8×Int→Option (List UInt8))(a3:UInt8):Option (List UInt8):=
 (DM 1 l2 [a3 ^^^ p1]).bind fun l3=>
 ret (wI (a2+1)) fun i_1=>
 nx_f_ref03_part_l1 (l3,i_1)
def Km(l1:List UInt8):Option (List UInt8):=
 some l1
def Gp(p1:UInt8)(a1:List UInt8)(nx_f_ref03_part_l1:List UInt8×Int→Option (List UInt8))(l2:List UInt8)(a2:Int):Option (List UInt8):=
 cond (decide (a2<64))
 (
  cond (decide (a2<(a1.length:Int)))
  (
   (BA a1 a2).bind fun c1=>
   GY p1 l2 a2 nx_f_ref03_part_l1 c1)
  (
   GY p1 l2 a2 nx_f_ref03_part_l1 0))
 (
  Km l2)
def ID(p1:UInt8)(a1:List UInt8):Nat→(List UInt8×Int)→Option (List UInt8):=CE fun nx x=>Gp p1 a1 nx x.1 x.2
def GX(n:Nat)(p1:UInt8)(a1:List UInt8):Option (List UInt8):=
 ID p1 a1 n ([],0)
def JN(n:Nat)(T:List UInt32)(p0:List UInt8)(p1:UInt8):Option (List UInt8):=
 cond (decide (64<(p0.length:Int)))
 (
  (Il n T p0).bind fun y1=>
  GX n p1 y1)
 (
  GX n p1 p0)
theorem S7{n:Nat}{T:List UInt32}{p0 r:List UInt8}{p1:UInt8}(h:JN n T p0 p1=some r)(hT:I0 K w0 2 64 T):zC K w0 290 [vS p0,EB p1] [] H (fun u M=>u=vS r∧M=[]):=by
 unfold JN at h
 refine TP.enter Tryz.func290 rfl rfl ?_
 refine Y (U E (V ?_))
 refine A6 (α:=List UInt8) (fun x=>GX n p1 x=some r) (fun x=>[(0,vS x),(1,EB p1)]) (fun x=>H) ?_ (fun a1 D h=>?_)
 refine Y (J E (Bp E Cc E (Z E Ci (V ?_))))
 refine AN h E (fun hc1 h=>?_) fun hc1 h=>?_
 refine AQ ?_
 refine AE h fun y1 hy1 h=>?_
 refine J E (AS 0 Zy (QV hy1 hT) E (U E (AZ ?_)))
 exact Ap y1 h tL (BM [] 0 E E E)
 refine AJ ?_
 exact Ap p0 h tL (BM [] 0 E E E)
 unfold GX at h
 try dsimp only
 refine Y (B5 5 1 FN (U E (V ?_)))
 refine A6 (α:=List UInt8×Value) (fun x=>Km x.1=some r) (fun x=>[(5,x.2)]) (fun x=>AD 5 1 x.2 FN x.1::H) ?_ (fun x D h=>?_)
 refine Y (U E (V (AP ?_)))
 refine SX.heap (SX.mono (BG (α:=Nat×List UInt8×Value×Int) (fun x=>ID p1 a1 x.1 (x.2.1,x.2.2.2)=some r) (fun x=>[(0,vS a1),(1,EB p1),(5,x.2.2.1),(6,vI x.2.2.2)]) (fun x=>AD 5 1 x.2.2.1 FN x.2.1::H) (fun x=>x.1) (fun x D h=>?_) (n,[],zN,0) h) tL) (BM [0] 1 E E E)
 obtain⟨m1,l2,v2,a2⟩:=x
 dsimp only at h
 rcases m1 with _ | m1
 cases (show(none:Option _)=some r from h)
 replace h:Gp p1 a1 (ID p1 a1 m1) l2 a2=some r:=h
 unfold Gp at h
 try dsimp only
 refine AH (Y (J E (Z E A4 (V ?_))))
 refine AN h E (fun hc2 h=>?_) fun hc2 h=>?_
 refine AJ (AI (AH (AP (Y (U E (V ?_))))))
 refine A6 (α:=UInt8) (fun x=>GY p1 l2 a2 (ID p1 a1 m1) x=some r) (fun x=>[(0,vS a1),(1,EB p1),(5,v2),(6,vI a2),(7,EB x)]) (fun x=>AD 5 1 v2 FN l2::H) ?_ (fun a3 D h=>?_)
 refine Y (J E (J E (Bp E Cc E (Z E A4 (V ?_)))))
 refine AN h E (fun hc3 h=>?_) fun hc3 h=>?_
 refine AQ ?_
 refine AE h fun c1 hc1 h=>?_
 refine J E (J E (KR hc1 E Cc E E (U E (AZ ?_))))
 exact Ap c1 h tL (BM [0] 1 E E E)
 refine AJ ?_
 exact Ap 0 h tL (BM [0] 1 E E E)
 unfold GY at h
 try dsimp only
 refine AQ ?_
 refine AE h fun l3 hl3 h=>?_
 refine J E (J E (J E (Z E SY ?_)))
 refine B9 [_] E CV JX KP ⟨E,zT⟩ E E E zX E E zU fun b1=>?_
 refine CA FN 1 ([a3 ^^^ p1]:List UInt8) E zV E ?_
 refine Co 1 hl3 (sz:=1) (enc:=FN) zV E CV JX U6 KP E zD E E E E (CH (sz:=1) (enc:=FN) 0 zV E) (by simp[FN,Value.oneCell']) zU fun v3=>?_
 refine U E (AZ (Am (AI (AQ ?_))))
 obtain⟨i_1,ei_1,h⟩:=Bu h
 refine J E (Z E Bf ?_)
 refine Al (u:=vI i_1) E E (by rw[ei_1]) ?_
 refine AZ ?_
 exact Au (m1,l3,v3,i_1) h (Nat.lt_succ_self _) tL (BM [1] 2 E E E)
 refine Ax (A3 (BZ (A5 ?_)))
 exact Ap (l2,v2) h tL (BM [0] 1 E E E)
 obtain⟨l1,v1⟩:=x
 dsimp only at h
 unfold Km at h
 try dsimp only
 refine Y (J E (Gb 0 E CV DE Cc E E (U E (V (AK ?_)))))
 obtain rfl:=zI h
 exact AW [] 1 E E E
def MZ(n:Nat)(T:List UInt32)(p0:List UInt8)(p1:List UInt8):Option (List (List UInt8)):=
 (JN n T p0 54).bind fun y1=>
 (ED y1 p1).bind fun s1=>
 (JN n T p0 92).bind fun y2=>
 (Il n T s1).bind fun y3=>
 (ED y2 y3).bind fun s2=>
 some [s1,s2]
theorem W4{n:Nat}{T:List UInt32}{p0 p1:List UInt8}{r:List (List UInt8)}(h:MZ n T p0 p1=some r)(hT:I0 K w0 2 64 T):zC K w0 261 [vS p0,vS p1] [] H (fun u M=>∃v0:Value,u=v0∧M=[AD 9 1 v0 eS r]):=by
 unfold MZ at h
 refine TP.enter Tryz.func261 rfl rfl ?_
 refine Y (B5 9 1 eS (U E (V (Y ?_))))
 refine AE h fun y1 hy1 h=>?_
 refine AE h fun s1 hs1 h=>?_
 refine J E (AS 0 f8 (S7 hy1 hT) E (J E (Z E (CK hs1) (U E (V (Y ?_))))))
 refine AE h fun y2 hy2 h=>?_
 refine AE h fun y3 hy3 h=>?_
 refine AE h fun s2 hs2 h=>?_
 refine J E (J E (AS 0 f8 (S7 hy2 hT) E (J E (AS 0 Zy (QV hy3 hT) E (Z E (CK hs2) ?_)))))
 refine B9 [_,_] E EY HA Sx ⟨E,E,zT⟩ E E E zX E E zU fun b1=>?_
 refine CA eS 1 ([s1,s2]:List (List UInt8)) E zV E ?_
 refine U E (V (AK ?_))
 obtain rfl:=zI h
 exact Bo [0] 2 (Ck E E) E E ⟨(.slice (some ⟨b1,0,none⟩) 2 2),E,E⟩
def Io(n:Nat)(T:List UInt32)(p0:List UInt8)(p1:List UInt8):Option (List UInt8):=
 (MZ n T p0 p1).bind fun y1=>
 (BA y1 1).bind fun x1=>
 (Il n T x1).bind fun y2=>
 some y2
theorem UI{n:Nat}{T:List UInt32}{p0 p1 r:List UInt8}(h:Io n T p0 p1=some r)(hT:I0 K w0 2 64 T):zC K w0 221 [vS p0,vS p1] [] H (fun u M=>u=vS r∧M=[]):=by
 unfold Io at h
 refine TP.enter Tryz.func221 rfl rfl ?_
 refine Y (U E (V (Y ?_)))
 refine AE h fun y1 hy1 h=>?_
 refine AE h fun x1 hx1 h=>?_
 refine AE h fun y2 hy2 h=>?_
 refine J E (J E ?_)
 refine Bd (vs:=[_,_]) (Hin:=[]) (Hr:=_) E E ⟨E,E,zT⟩ nl E E (W4 hy1 hT) ?_
 rintro v1 _ ⟨_,rfl,rfl⟩
 refine⟨trivial,?_⟩
 refine CG 0 hx1 E EY HA E E E fun g1 m1 cp1 hv1=>?_
 refine Bq E GL E (B7 (sz:=1) (enc:=eS) 0 0 zV E hv1 hx1 E) ?_
 refine AS 0 Zy (QV hy2 hT) E (U E (V (AK ?_)))
 obtain rfl:=zI h
 exact AW [] 1 E E E
def Im(p2:Int)(a1:List UInt8):Option (List UInt8×Int):=
 (Ku a1 0 p2).bind fun s4=>
 some (s4,0)
def Fi(n:Nat)(T:List UInt32)(p0:List UInt8)(p1:List UInt8)(p2:Int)(nx_f_ref03_Expand_l1:List UInt8×List UInt8×Int→Option (List UInt8×Int))(a2:List UInt8)(a3:List UInt8)(a4:Int):Option (List UInt8×Int):=
 cond (decide ((a2.length:Int)<p2))
 (
  (ED a3 p1).bind fun s1=>
  (ED s1 [IW a4]).bind fun s2=>
  (Io n T p0 s2).bind fun y1=>
  (ED a2 y1).bind fun s3=>
  ret (wI (a4+1)) fun i_1=>
  nx_f_ref03_Expand_l1 (s3,y1,i_1))
 (
  Im p2 a2)
def In(n:Nat)(T:List UInt32)(p0:List UInt8)(p1:List UInt8)(p2:Int):Nat→(List UInt8×List UInt8×Int)→Option (List UInt8×Int):=CE fun nx x=>Fi n T p0 p1 p2 nx x.1 x.2.1 x.2.2
def HI(n:Nat)(T:List UInt32)(p0:List UInt8)(p1:List UInt8)(p2:Int):Option (List UInt8×Int):=
 cond ((decide (p2<0))||(decide (8160<p2)))
 (
  some ([],2))
 (
  In n T p0 p1 p2 n ([],[],1))
theorem Q9{n:Nat}{T:List UInt32}{p0 p1:List UInt8}{p2:Int}{r:List UInt8×Int}(h:HI n T p0 p1 p2=some r)(hT:I0 K w0 2 64 T):zC K w0 259 [vS p0,vS p1,vI p2] [] H (fun u M=>u=.tuple #[vS r.1,vI r.2]∧M=[]):=by
 unfold HI at h
 refine TP.enter Tryz.func259 rfl rfl ?_
 refine Y (U E (U E (V (AH (Y (J E (Z E A4 (J E ?_))))))))
 refine Ee (c:=decide (8160<p2)) 13 3 16 E (fun hb k=>?_) (fun hb k=>?_) ?_
 refine AC E (AC E (Ah E E E ?_))
 exact k.mono tL
 refine J E (Z E Ci (Ah E E E ?_))
 exact k.mono tL
 refine V ?_
 refine AN h E (fun hc1 h=>?_) fun hc1 h=>?_
 refine Y (U E (U E (V (AK (Ab ?_)))))
 obtain rfl:=zI h
 exact AW [] 0 E E E
 refine AJ (AI (Y (U E (V (Y (U E (V ?_)))))))
 refine A6 (α:=List UInt8) (fun x=>Im p2 x=some r) (fun x=>[(2,vI p2),(8,vS x)]) (fun x=>H) ?_ (fun a1 D h=>?_)
 refine Y (U E (V (AP ?_)))
 refine SX.heap (SX.mono (BG (α:=Nat×List UInt8×List UInt8×Int) (fun x=>In n T p0 p1 p2 x.1 (x.2.1,x.2.2.1,x.2.2.2)=some r) (fun x=>[(0,vS p0),(1,vS p1),(2,vI p2),(8,vS x.2.1),(9,vS x.2.2.1),(10,vI x.2.2.2)]) (fun x=>H) (fun x=>x.1) (fun x D h=>?_) (n,[],[],1) h) tL) (BM [] 0 E E E)
 obtain⟨m1,a2,a3,a4⟩:=x
 dsimp only at h
 rcases m1 with _ | m1
 cases (show(none:Option _)=some r from h)
 replace h:Fi n T p0 p1 p2 (In n T p0 p1 p2 m1) a2 a3 a4=some r:=h
 unfold Fi at h
 try dsimp only
 refine AH (Y (J E (Bp E Cc E (J E (Z E A4 (V ?_))))))
 refine AN h E (fun hc2 h=>?_) fun hc2 h=>?_
 refine AJ (AI (AH (AP (Y ?_))))
 refine AE h fun s1 hs1 h=>?_
 refine AE h fun s2 hs2 h=>?_
 refine AE h fun y1 hy1 h=>?_
 refine J E (J E (J E (Z E (CK hs1) (J E (BB E E (QI IZ DE) ?_)))))
 refine B9 [_] E CV JX KP ⟨E,zT⟩ E E E zX E E zU fun b1=>?_
 refine CA FN 1 ([IW a4]:List UInt8) E zV E ?_
 refine Gb 0 E CV DE Cc E E (Z E (CK hs2) (AS 0 ft (UI hy1 hT) E (U E (V (AQ ?_)))))
 refine AE h fun s3 hs3 h=>?_
 refine J E (J E (Z E (CK hs3) (U E (AZ (Am (AI (AQ ?_)))))))
 obtain⟨i_1,ei_1,h⟩:=Bu h
 refine J E (Z E Bf ?_)
 refine Al (u:=vI i_1) E E (by rw[ei_1]) ?_
 refine AZ ?_
 exact Au (m1,s3,y1,i_1) h (Nat.lt_succ_self _) tL (BM [] 1 E E E)
 refine Ax (A3 (BZ (A5 ?_)))
 exact Ap a2 h tL (BM [] 0 E E E)
 unfold Im at h
 try dsimp only
 refine Y ?_
 refine AE h fun s4 hs4 h=>?_
 refine J E (J E (jN hs4 E Cc E E (U E (U E (V (AK ?_))))))
 obtain rfl:=zI h
 exact AW [] 0 E E E
end

section
variable {K:Nat→Prop}{w0:World}{H:List AX}
def JP(n:Nat)(T:List UInt32)(p0:BK):Option (List UInt8×List UInt8×Int):=
 (Gr n [p0]).bind fun y1=>
 cond (!y1)
 (
  some ([],[],40))
 (
  (ED [115,101,97,108] [p0.gen.toUInt8,(shr32 p0.gen 8).toUInt8,(shr32 p0.gen 16).toUInt8,(shr32 p0.gen 24).toUInt8]).bind fun s1=>
  (HI n T p0.secret s1 32).bind fun y2=>
  (ED [98,105,110,100] [p0.gen.toUInt8,(shr32 p0.gen 8).toUInt8,(shr32 p0.gen 16).toUInt8,(shr32 p0.gen 24).toUInt8]).bind fun s2=>
  (HI n T p0.secret s2 32).bind fun y3=>
  some (y2.1,y3.1,0))
theorem S9{n:Nat}{T:List UInt32}{p0:BK}{r:List UInt8×List UInt8×Int}(h:JP n T p0=some r)(hT:I0 K w0 2 64 T):zC K w0 220 [.agg (Aa p0).toArray] [] H (fun u M=>u=.tuple #[vS r.1,vS r.2.1,vI r.2.2]∧M=[]):=by
 unfold JP at h
 refine TP.enter Tryz.func220 rfl rfl ?_
 refine Y ?_
 refine Ba E E zU fun b1=>?_
 refine U E (U E (U E (V (Y ?_))))
 refine AE h fun y1 hy1 h=>?_
 refine Aq [AA p0.gen,vS p0.secret] E Ky E E (Aj 0 E) ?_
 refine B9 [_] E GR E2 JZ ⟨E,zT⟩ E E E zX E E zU fun b2=>?_
 refine CA Aa 2 ([p0]:List BK) E zV E ?_
 refine Bd (vs:=[_]) (Hin:=[_]) (Hr:=_::_) E E ⟨E,zT⟩ dx E E (Ch (B:=[_]) (Hin:=[]) fun K' w1 hk hB=>Ob hy1 (CL (e:=114) zV (hB _ zS))) ?_
 rintro _ _ ⟨_,rfl,rfl,rfl⟩
 refine⟨trivial,?_⟩
 refine U E (V (AH (Y (J E (CS E E (V ?_))))))
 refine AN h E (fun hc1 h=>?_) fun hc1 h=>?_
 refine Y (U E (U E (U E (V (AK (Ab ?_))))))
 obtain rfl:=zI h
 exact AW [] 2 E E E
 refine AJ (AI (Y (AF E FR (AG 1 A1 E (BB E E (Cu CJ DE) (AF E FR (AG 1 A1 E ?_)))))))
 refine Z E (FL.shr32 (n:=8)) ?_
 refine BB E E (Cu CJ DE) (AF E FR (AG 1 A1 E ?_))
 refine Z E (FL.shr32 (n:=16)) ?_
 refine BB E E (Cu CJ DE) (AF E FR (AG 1 A1 E ?_))
 refine Z E (FL.shr32 (n:=24)) ?_
 refine BB E E (Cu CJ DE) ?_
 refine B9 [_,_,_,_] E CV JX KP ⟨E,E,E,E,zT⟩ E E E zX E E zU fun b3=>?_
 refine CA FN 1 ([p0.gen.toUInt8,(shr32 p0.gen 8).toUInt8,(shr32 p0.gen 16).toUInt8,(shr32 p0.gen 24).toUInt8]:List UInt8) E zV E ?_
 refine Gb 0 E CV DE Cc E E (U E (V (Y ?_)))
 refine AE h fun s1 hs1 h=>?_
 refine AE h fun y2 hy2 h=>?_
 refine AF E QA (AG 2 GL E (J E (Z E (CK hs1) (AS 0 f5 (Q9 hy2 hT) E (J E (Ae E E E (Ae E E E ?_)))))))
 refine U E (U E (V (Y ?_)))
 refine AE h fun s2 hs2 h=>?_
 refine AE h fun y3 hy3 h=>?_
 refine AF E QA (AG 2 GL E (J E (Z E (CK hs2) (AS 0 f5 (Q9 hy3 hT) E (J E (Ae E E E (Ae E E E ?_)))))))
 refine U E (U E (V (Y (J E (J E (U E (U E (U E (V (AK ?_))))))))))
 obtain rfl:=zI h
 exact AW [] 3 E E E
def Lg(a1:List UInt8):Option (List UInt8×Int):=
 some (a1,0)
def Hc(nx_f_ref05_Pad_l1:List UInt8→Option (List UInt8×Int))(a2:List UInt8):Option (List UInt8×Int):=
 cond (decide ((a2.length:Int)<200))
 (
  (ED a2 [0]).bind fun s2=>
  nx_f_ref05_Pad_l1 s2)
 (
  Lg a2)
def Lh:Nat→List UInt8→Option (List UInt8×Int):=CE fun nx x=>Hc  nx x
def Ma(n:Nat)(p0:List UInt8):Option (List UInt8×Int):=
 cond (decide (198<(p0.length:Int)))
 (
  some ([],50))
 (
  (Uq (p0.length:Int) 256).bind fun q1=>
  (TM (p0.length:Int) 256).bind fun q2=>
  (ED [IW q1,IW q2] p0).bind fun s1=>
  Lh n s1)
theorem Ze{n:Nat}{p0:List UInt8}{r:List UInt8×Int}(h:Ma n p0=some r): zC K w0 218 [vS p0] [] H (fun u M=>u=.tuple #[vS r.1,vI r.2]∧M=[]):=by
 unfold Ma at h
 refine TP.enter Tryz.func218 rfl rfl ?_
 refine Y (U E (U E (V (AH (Y (J E (Bp E Cc E (Z E Ci (V ?_)))))))))
 refine AN h E (fun hc1 h=>?_) fun hc1 h=>?_
 refine Y (U E (U E (V (AK (Ab ?_)))))
 obtain rfl:=zI h
 exact AW [] 0 E E E
 refine AJ (AI (Y ?_))
 refine AE h fun q1 hq1 h=>?_
 refine AE h fun q2 hq2 h=>?_
 refine AE h fun s1 hs1 h=>?_
 refine J E (Bp E Cc E (Z E (Uz hq1) (BB E E (QI IZ DE) (J E (Bp E Cc E (Z E (SW hq2) (BB E E (QI IZ DE) ?_)))))))
 refine B9 [_,_] E CV JX KP ⟨E,E,zT⟩ E E E zX E E zU fun b1=>?_
 refine CA FN 1 ([IW q1,IW q2]:List UInt8) E zV E ?_
 refine Gb 0 E CV DE Cc E E (J E (Z E (CK hs1) (U E (V ?_))))
 refine A6 (α:=List UInt8) (fun x=>Lg x=some r) (fun x=>[(4,vS x)]) (fun x=>H) ?_ (fun a1 D h=>?_)
 refine AP ?_
 refine SX.heap (SX.mono (BG (α:=Nat×List UInt8) (fun x=>Lh x.1 x.2=some r) (fun x=>[(4,vS x.2)]) (fun x=>H) (fun x=>x.1) (fun x D h=>?_) (n,s1) h) tL) (BM [] 1 E E E)
 obtain⟨m1,a2⟩:=x
 dsimp only at h
 rcases m1 with _ | m1
 cases (show(none:Option _)=some r from h)
 replace h:Hc (Lh m1) a2=some r:=h
 unfold Hc at h
 try dsimp only
 refine AH (Y (J E (Bp E Cc E (Z E A4 (V ?_)))))
 refine AN h E (fun hc2 h=>?_) fun hc2 h=>?_
 refine AJ (AI (AP (AQ ?_)))
 refine AE h fun s2 hs2 h=>?_
 refine J E (Z E (CK hs2) (U E (AZ (Am ?_))))
 exact Au (m1,s2) h (Nat.lt_succ_self _) tL (BM [] 0 E E E)
 refine Ax (A3 (BZ (A5 ?_)))
 exact Ap a2 h tL (BM [] 0 E E E)
 unfold Lg at h
 try dsimp only
 refine Y (J E (U E (U E (V (AK ?_)))))
 obtain rfl:=zI h
 exact AW [] 0 E E E
def Li(a1:List UInt8):Option (List UInt8):=
 some a1
def Hd(p1:Int)(nx_f_ref06_put_l1:UInt64×List UInt8×Int→Option (List UInt8))(a2:UInt64)(a3:List UInt8)(a4:Int):Option (List UInt8):=
 cond (decide (a4<p1))
 (
  (ED a3 [a2.toUInt8]).bind fun s1=>
  (Qv a2 256).bind fun q1=>
  ret (wI (a4+1)) fun i_1=>
  nx_f_ref06_put_l1 (q1,s1,i_1))
 (
  Li a3)
def Lj(p1:Int):Nat→(UInt64×List UInt8×Int)→Option (List UInt8):=CE fun nx x=>Hd p1 nx x.1 x.2.1 x.2.2
def Du(n:Nat)(p0:UInt64)(p1:Int):Option (List UInt8):=
 Lj p1 n (p0,[],0)
theorem KY{n:Nat}{p0:UInt64}{p1:Int}{r:List UInt8}(h:Du n p0 p1=some r): zC K w0 286 [AV p0,vI p1] [] H (fun u M=>u=vS r∧M=[]):=by
 unfold Du at h
 refine TP.enter Tryz.func286 rfl rfl ?_
 refine Y (U E (V (Y (U E (V ?_)))))
 refine A6 (α:=List UInt8) (fun x=>Li x=some r) (fun x=>[(5,vS x)]) (fun x=>H) ?_ (fun a1 D h=>?_)
 refine Y (U E (V (AP ?_)))
 refine SX.heap (SX.mono (BG (α:=Nat×UInt64×List UInt8×Int) (fun x=>Lj p1 x.1 (x.2.1,x.2.2.1,x.2.2.2)=some r) (fun x=>[(0,AV x.2.1),(1,vI p1),(5,vS x.2.2.1),(6,vI x.2.2.2)]) (fun x=>H) (fun x=>x.1) (fun x D h=>?_) (n,p0,[],0) h) tL) (BM [] 0 E E E)
 obtain⟨m1,a2,a3,a4⟩:=x
 dsimp only at h
 rcases m1 with _ | m1
 cases (show(none:Option _)=some r from h)
 replace h:Hd p1 (Lj p1 m1) a2 a3 a4=some r:=h
 unfold Hd at h
 try dsimp only
 refine AH (Y (J E (J E (Z E A4 (V ?_)))))
 refine AN h E (fun hc1 h=>?_) fun hc1 h=>?_
 refine AJ (AI (AH (AP (Y ?_))))
 refine AE h fun s1 hs1 h=>?_
 refine J E (J E (BB E E (FC DJ DE) ?_))
 refine B9 [_] E CV JX KP ⟨E,zT⟩ E E E zX E E zU fun b1=>?_
 refine CA FN 1 ([a2.toUInt8]:List UInt8) E zV E ?_
 refine Gb 0 E CV DE Cc E E (Z E (CK hs1) (U E (V (AQ ?_))))
 refine AE h fun q1 hq1 h=>?_
 refine J E ?_
 refine Z E (PB (b:=256) hq1) ?_
 refine U E (AZ (Am (AI (AQ ?_))))
 obtain⟨i_1,ei_1,h⟩:=Bu h
 refine J E (Z E Bf ?_)
 refine Al (u:=vI i_1) E E (by rw[ei_1]) ?_
 refine AZ ?_
 exact Au (m1,q1,s1,i_1) h (Nat.lt_succ_self _) tL (BM [] 1 E E E)
 refine Ax (A3 (BZ (A5 ?_)))
 exact Ap a3 h tL (BM [] 0 E E E)
 unfold Li at h
 try dsimp only
 refine Y (J E (U E (V (AK ?_))))
 obtain rfl:=zI h
 exact AW [] 0 E E E
def Mb(n:Nat)(p0:C3):Option (List UInt8):=
 (Du n p0.page.toUInt64 4).bind fun y1=>
 (Du n p0.gen.toUInt64 4).bind fun y2=>
 (ED y1 y2).bind fun s1=>
 (Du n p0.boot.toUInt64 4).bind fun y3=>
 (ED s1 y3).bind fun s2=>
 (Du n p0.seq 8).bind fun y4=>
 (ED s2 y4).bind fun s3=>
 (ED s3 [0,0,0,0]).bind fun s4=>
 some s4
theorem Zf{n:Nat}{p0:C3}{r:List UInt8}(h:Mb n p0=some r): zC K w0 258 [.agg (Jv p0).toArray] [] H (fun u M=>u=vS r∧M=[]):=by
 unfold Mb at h
 refine TP.enter Tryz.func258 rfl rfl ?_
 refine Y ?_
 refine Ba E E zU fun b1=>?_
 refine U E (V (AH ?_))
 refine AE h fun y1 hy1 h=>?_
 refine AE h fun y2 hy2 h=>?_
 refine AE h fun s1 hs1 h=>?_
 refine AE h fun y3 hy3 h=>?_
 refine AE h fun s2 hs2 h=>?_
 refine AE h fun y4 hy4 h=>?_
 refine AE h fun s3 hs3 h=>?_
 refine AE h fun s4 hs4 h=>?_
 refine Aw DC [0] (CF [(true,0),(true,1),(true,2),(true,4),(true,5),(true,6),(true,9),(true,10),(true,11),(true,14),(true,15),(false,3),(false,7),(true,8),(false,12),(true,13),(false,16)] (.last 17 (Cz [(false,18),(false,19)]))) zK (AF E cW (AG 0 A1 E (BB E E (Cl CJ DJ) (AF E Uh (AG 0 A1 E (BB E E (Cl CJ DJ) (AF E XZ ?_)))))))
 refine AG 0 A1 E (BB E E (Cl CJ DJ) (AF E Xa (AG 0 Gy E (BW 0 Sh (KY hy1) E ⟨⟨0,E⟩,zT⟩ (BW 0 Sh (KY hy2) E ⟨⟨0,E⟩,zT⟩ (Z E (CK hs1) (BW 0 Sh (KY hy3) E ⟨⟨0,E⟩,zT⟩ ?_)))))))
 refine Z E (CK hs2) (BW 0 Sh (KY hy4) E ⟨⟨0,E⟩,zT⟩ (Bc (Z E (CK hs3) (Z E (CK hs4) (U E (V (AK ?_)))))))
 obtain rfl:=zI h
 exact AW [] 1 E E E
def J3(n:Nat)(p0:C3):Option (List UInt8):=
 (Du n p0.boot.toUInt64 4).bind fun y1=>
 (Du n p0.seq 8).bind fun y2=>
 (ED y1 y2).bind fun s1=>
 some s1
theorem W6{n:Nat}{p0:C3}{r:List UInt8}(h:J3 n p0=some r): zC K w0 257 [.agg (Jv p0).toArray] [] H (fun u M=>u=vS r∧M=[]):=by
 unfold J3 at h
 refine TP.enter Tryz.func257 rfl rfl ?_
 refine Y ?_
 refine Ba E E zU fun b1=>?_
 refine U E (V (AH ?_))
 refine AE h fun y1 hy1 h=>?_
 refine AE h fun y2 hy2 h=>?_
 refine AE h fun s1 hs1 h=>?_
 refine Aw DC [0] (CF [(true,0),(true,1),(true,2),(true,4),(true,5),(false,3)] (.last 6 (Cz [(false,7),(false,8)]))) zK (AF E XZ (AG 0 A1 E (BB E E (Cl CJ DJ) (AF E Xa (AG 0 Gy E (BW 0 Sh (KY hy1) E ⟨⟨0,E⟩,zT⟩ (Bc (AS 0 Sh (KY hy2) E ?_))))))))
 refine Z E (CK hs1) (U E (V (AK ?_)))
 obtain rfl:=zI h
 exact AW [] 1 E E E
def J2(n:Nat)(T:List UInt32)(p0:BK)(p1:C3)(p2:List UInt8):Option (List UInt8):=
 (JP n T p0).bind fun y1=>
 (J3 n p1).bind fun y2=>
 (MX n y1.1 y2 p2).bind fun y3=>
 (Mb n p1).bind fun y4=>
 (ED y4 y3.1).bind fun s1=>
 some s1
theorem W5{n:Nat}{T:List UInt32}{p0:BK}{p1:C3}{p2 r:List UInt8}(h:J2 n T p0 p1 p2=some r)(hT:I0 K w0 2 64 T):zC K w0 219 [.agg (Aa p0).toArray,.agg (Jv p1).toArray,vS p2] [] H (fun u M=>u=vS r∧M=[]):=by
 unfold J2 at h
 refine TP.enter Tryz.func219 rfl rfl ?_
 refine Y ?_
 refine Ba E E zU fun b1=>?_
 refine Ba E E zU fun b2=>?_
 refine U E (V (Y ?_))
 refine AE h fun y1 hy1 h=>?_
 refine Aq [AA p0.gen,vS p0.secret] E Ky E E (Aj 1 E) (AS 0 fr (S9 hy1 hT) E (J E (Ae E E E (Ae E E E (Ae E E E (U E (U E ?_)))))))
 refine U E (V (Y ?_))
 refine AE h fun y2 hy2 h=>?_
 refine AE h fun y3 hy3 h=>?_
 refine J E (Aq [AA p1.page,AA p1.gen,AA p1.boot,AV p1.seq] E TU E E (Aj 0 E) (AS 0 nj (W6 hy2) E (J E (AS 0 ni (Zd hy3) E (J E (Ae E E E (Ae E E E ?_)))))))
 refine U E (U E (V (Y ?_)))
 refine AE h fun y4 hy4 h=>?_
 refine AE h fun s1 hs1 h=>?_
 refine Aq [AA p1.page,AA p1.gen,AA p1.boot,AV p1.seq] E TU E E (Aj 0 E) (AS 0 nk (Zf hy4) E (J E (Z E (CK hs1) (U E (V (AK ?_))))))
 obtain rfl:=zI h
 exact AW [] 2 E E E
def LJ(n:Nat)(T:List UInt32)(p0:List BK)(p1:C3)(p2:List UInt8):Option (List UInt8×Int):=
 (JO n p0 p1.gen).bind fun y1=>
 cond (!decide (y1.2=0))
 (
  some ([],y1.2))
 (
  (Ma n p2).bind fun y2=>
  cond (!decide (y2.2=0))
  (
   some ([],y2.2))
  (
   (J2 n T y1.1 p1 y2.1).bind fun y3=>
   (JP n T y1.1).bind fun y4=>
   (Io n T y4.2.1 y3).bind fun y5=>
   (ED y3 y5).bind fun s1=>
   some (s1,0)))
theorem YL{n:Nat}{T:List UInt32}{DA:Value}{p0:List BK}{p1:C3}{p2:List UInt8}{r:List UInt8×Int}(h:LJ n T p0 p1 p2=some r)(hT:I0 K w0 2 64 T)(hs0_:B6 K w0 Aa 2 DA p0):zC K w0 179 [DA,.agg (Jv p1).toArray,vS p2] [] H (fun u M=>u=.tuple #[vS r.1,vI r.2]∧M=[]):=by
 unfold LJ at h
 refine TP.enter Tryz.func179 rfl rfl ?_
 refine Y ?_
 refine Ba E E zU fun b1=>?_
 refine U E (U E (V (Y ?_)))
 refine AE h fun y1 hy1 h=>?_
 refine J E (AF E Uh (AG 0 A1 E (AS 0 j6 (S8 hy1 hs0_) E (J E (Ae E E E (Ae E E E ?_))))))
 refine Ak E JZ zU fun b2=>?_
 refine A2 0 E E E E E2 E E E zT (U E (V (AH (Y (J E (Z E BJ (V ?_)))))))
 refine AN h E (fun hc1 h=>?_) fun hc1 h=>?_
 refine Y (J E (U E (U E (V (AK (Ab ?_))))))
 obtain rfl:=zI h
 exact AW [] 2 E E E
 refine AJ (AI (Y ?_))
 refine AE h fun y2 hy2 h=>?_
 refine J E (AS 0 nW (Ze hy2) E (J E (Ae E E E (Ae E E E (U E (U E (V (AH (Y (J E ?_))))))))))
 refine Z E BJ (V ?_)
 refine AN h E (fun hc2 h=>?_) fun hc2 h=>?_
 refine Y (J E (U E (U E (V (AK (Ab ?_))))))
 obtain rfl:=zI h
 exact AW [] 2 E E E
 refine AJ (AI (Y ?_))
 refine AE h fun y3 hy3 h=>?_
 refine Aq [AA y1.1.gen,vS y1.1.secret] E Ky E E (Aj 0 E) (Aq [AA p1.page,AA p1.gen,AA p1.boot,AV p1.seq] E TU E E (Aj 1 E) (J E (AS 0 nX (W5 hy3 hT) E (U E (V (Y ?_))))))
 refine AE h fun y4 hy4 h=>?_
 refine Aq [AA y1.1.gen,vS y1.1.secret] E Ky E E (Aj 0 E) (AS 0 fr (S9 hy4 hT) E (J E (Ae E E E (Ae E E E (Ae E E E (U E (U E ?_)))))))
 refine U E (V (Y ?_))
 refine AE h fun y5 hy5 h=>?_
 refine AE h fun s1 hs1 h=>?_
 refine J E (J E (J E (AS 0 ft (UI hy5 hT) E (Z E (CK hs1) (U E (U E (V (AK ?_))))))))
 obtain rfl:=zI h
 exact AW [] 2 E E E
end

section
variable {P:Program}{ro:Option Nat}{K:Nat→Prop}{w0:World}{N:Nat}{Q:DF}{D:List Nat}{l l':Tm}{H H' Hs L:List AX}{ops:Array Oper}{items:Hn}
variable {tk:Bool}{o:Oper}{t:Nat}{v:Value}{x y z:Operand}
theorem Ye{α:Type}{enc:α→List Value}{sz b off cap q:Nat}{xs:List α}(hl:∀x,(enc x).length=sz)(hcap:xs.length≤cap)(hc:∀j u,(xs.flatMap enc)[j]? = some u→K b∧w0.cell? ⟨b,off+j,none⟩=some u)(hq:q≤xs.length):B6 K w0 enc sz (.slice (some ⟨b,off+q*sz,none⟩) (xs.length-q) (cap-q)) (xs.drop q):=by
 refine⟨hl,.inr ⟨b,off+q*sz,cap-q,by simp,by simp;omega,fun j u hu=>?_⟩⟩
 have hpre:(xs.take q).flatMap enc++(xs.drop q).flatMap enc=xs.flatMap enc:=by
  rw[←List.flatMap_append,List.take_append_drop]
 have hlen:((xs.take q).flatMap enc).length=q*sz:=by rw[It hl,List.length_take,Nat.min_eq_left hq]
 have:=hc (q*sz+j) u (by
  rw[←hpre,List.getElem?_append_right zO,hlen,Nat.add_sub_cancel_left]
  exact hu)
 rw[Nat.add_assoc]
 exact this
theorem bW{α:Type}{enc:α→List Value}{sz:Nat}{xs us:List α}{k:IntKind}{j:Int}{ty e:TypeId}(hn:Ku xs j (xs.length:Int)=some us)(hk:B6 K w0 enc sz v xs)(ho:At ops N l o t (.slice ty x (some z) none none))(hty:P.underlying ty=some (.slice e))(hsz:DD P e=some sz)(hx:Be l x=some v)(hz:Be l z=some (.int k j))
(h:∀v',B6 K w0 enc sz v' us→SL P ro K w0 N ops Hs items Q D ((t,v')::l) H):SL P ro K w0 N ops Hs (.cons (tk,o) items) Q D l H:=by
 obtain⟨h1,h2,h3,h4,rfl⟩:=NT hn
 have e2:(xs.drop j.toNat).take ((xs.length:Int).toNat-j.toNat)=xs.drop j.toNat:=List.take_of_length_le zS
 rw[e2]at h
 generalize j.toNat=q at*
 subst h1
 simp only[Int.toNat_natCast]at h3
 rcases hk.at_ with⟨a0,rfl,rfl⟩ | ⟨b,off,cap,rfl,hcap,hc⟩
 have hq:q=0:=by simpa using h3
 subst hq
 refine SL.val (v:=.slice a0 0 0) ho E (fun a w ha _=>?_) (h _ ⟨hk.len,.inl ⟨_,E,by simp⟩⟩)
 simp only[execOp,ho.op,Instr.sliceAt,Instr.slice,Option.map]
 cases a0<;>simp[ha.eval hx,ha.eval hz,An hty,Cb hsz,Instr.sliceBounds,Instr.sliceBound,asIntOf]
 by_cases hqc:q<cap
 exact Wj q ho hty hsz hx hz E h3 hqc (h _ (Ye hk.len hcap hc h3))
 have hqe:q=xs.length:=zO
 have hce:cap=xs.length:=zO
 subst hqe hce
 refine SL.val (v:=.slice (some ⟨b,off,none⟩) 0 0) ho E (fun a w ha _=>?_) (h _ ⟨hk.len,.inl ⟨_,E,by simp⟩⟩)
 simp only[execOp,ho.op,Instr.sliceAt,Instr.slice,Option.map]
 simp[ha.eval hx,ha.eval hz,An hty,Cb hsz,Instr.sliceBounds,Instr.sliceBound,asIntOf,Cf]
end
end Go.Proofs.YtjkhnhichalenaaGreatDoor
