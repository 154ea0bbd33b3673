/- The texts LG4, LG5, LG6, S24, GG14, GG15, GG16, GG17, GG18, GG19, GG20, LG7, GG21, GG22, GG23, GG24, GG25, GG26, GG27, GG28, GG29, GG30, GG31, LG1, LG8, LG9, YI, Y1a, YF, V3f, VG1, VG2, LG10, LG11, U1, U2, U3, S25, one behind the other: walks of the program, and plain laws of what it computes. Conditions: as each theorem says. -/
import Derived.Test.YtjkhnhichalenaaGreatDoorXB1
import Derived.Test.YtjkhnhichalenaaGreatDoorXB2
import Derived.Test.YtjkhnhichalenaaGreatDoorXB3

set_option linter.unusedVariables false
set_option linter.unusedSimpArgs false
set_option maxHeartbeats 4000000
set_option maxRecDepth 100000
namespace Go.Proofs.YtjkhnhichalenaaGreatDoor
open Go
section
def bl(n:Nat):Nat:=if n=0 then 0 else Nat.log2 n+1
theorem eD(n:Nat):n<2^bl n:=by
 unfold bl
 split
 rename_i h;subst h;simp
 exact Nat.lt_log2_self
theorem Zb{n k:Nat}(h:n<2^k):bl n≤k:=by
 unfold bl
 split
 omega
 rename_i h0
 exact(Nat.log2_lt h0).2 h
theorem j9{n:Nat}(h:0<bl n):2^(bl n-1)≤n:=by
 rcases Nat.lt_or_ge n (2^(bl n-1))with h1 | h1
 have:=Zb h1
 omega
 exact h1
theorem kA{n L:Nat}(h1:n<2^L)(h2:L=0∨2^(L-1)≤n):bl n=L:=by
 have a:=Zb h1
 rcases h2 with h2 | h2
 omega
 rcases Nat.lt_or_ge (bl n) L with h | h
 have h3:2^bl n≤2^(L-1):=Nat.pow_le_pow_right zD zO
 have h4:=eD n
 omega
 omega
theorem Yp{n k:Nat}(h:2^k≤n):bl n=k+bl (n / 2^k):=by
 have hp:=Nat.two_pow_pos k
 have h0:0<n / 2^k:=Nat.div_pos h hp
 have hb:0<bl (n / 2^k):=by
  unfold bl
  rw[if_neg zO]
  omega
 refine kA ?_ (.inr ?_)
 rw[Nat.pow_add]
 have:=eD (n / 2^k)
 rw[Nat.mul_comm]
 exact(Nat.div_lt_iff_lt_mul hp).1 this
 have:=j9 hb
 rw[show k+bl (n / 2^k)-1=k+(bl (n / 2^k)-1) by omega,Nat.pow_add]
 calc 2^k*2^(bl (n / 2^k)-1)≤2^k*(n / 2^k):=Nat.mul_le_mul_left _ this
  _≤n:=Nat.mul_div_le _ _
def gu:List UInt8:=[0,1,2,2,3,3,3,3,4,4,4,4,4,4,4,4,5,5,5,5,5,5,5,5,5,5,5,5,5,5,5,5]++List.replicate 32 6++List.replicate 64 7++List.replicate 128 8
theorem pG:∀b:Fin 256,gu[b.val]? = some (UInt8.ofNat (bl b.val)):=by decide +kernel
theorem gw(a:UInt32)(ha:a.toNat<256)(k:Nat)(hk:k≤24):Oe a (k:Int)=some ((k+bl a.toNat:Nat):Int):=by
 have hb:a.toUInt8.toNat=a.toNat:=by
  rw[UInt32.toNat_toUInt8]
  omega
 have h8:bl a.toNat≤8:=Zb zO
 unfold Oe
 have ht:BE gu (a.toUInt8.toNat:Int)=some (UInt8.ofNat (bl a.toNat)):=by
  rw[Ez,hb]
  exact pG ⟨a.toNat,ha⟩
 refine(congrArg (fun x=>Option.bind x _) (show BE _ _=some (UInt8.ofNat (bl a.toNat))from ht)).trans ?_
 rw[AB,Bw]
 have:(UInt8.ofNat (bl a.toNat)).toNat=bl a.toNat:=by simp;omega
 rw[this,Cw zO zO]
 rfl
theorem YA(n:UInt32)(k:Nat)(h:k≤32):(shr32 n k).toNat=n.toNat / 2^k:=by
 have h1:=n.toNat_lt
 simp only[shr32,UInt32.toNat_ofNat',Nat.min_eq_left h]
 exact Nat.mod_eq_of_lt (Nat.lt_of_le_of_lt (Nat.div_le_self _ _) h1)
theorem gv(a:UInt32)(ha:a.toNat<65536)(k:Nat)(hk:k≤16):Od a (k:Int)=some ((k+bl a.toNat:Nat):Int):=by
 unfold Od
 by_cases h:256≤a.toNat
 rw[zt (show(256:UInt32)≤a by rw[UInt32.le_iff_toNat_le];exact h),Cz,Bw,Bw,Cw zO zO]
 have hs:=YA a 8 zD
 have:=gw (shr32 a 8) (by rw[hs];omega) (k+8) zO
 rw[show(k:Int)+8=((k+8:Nat):Int) by omega,this,hs]
 have hb:=Yp (n:=a.toNat) (k:=8) zO
 congr 2
 omega
 rw[zf (show ¬(256:UInt32)≤a by rw[UInt32.le_iff_toNat_le];exact h),CE]
 exact gw a zO k zO
theorem iy(a:UInt32):XZ a=some ((bl a.toNat:Nat):Int):=by
 have h32:=a.toNat_lt
 unfold XZ
 by_cases h:65536≤a.toNat
 rw[zt (show(65536:UInt32)≤a by rw[UInt32.le_iff_toNat_le];exact h),Cz,Bw]
 have hs:=YA a 16 zD
 have:=gv (shr32 a 16) (by rw[hs];omega) 16 zO
 rw[show((16:Nat):Int)=16 from rfl]at this
 rw[this,hs]
 have hb:=Yp (n:=a.toNat) (k:=16) zO
 congr 2
 omega
 rw[zf (show ¬(65536:UInt32)≤a by rw[UInt32.le_iff_toNat_le];exact h),CE]
 have:=gv a zO 0 zO
 rw[show((0:Nat):Int)=0 from rfl,Nat.zero_add]at this
 exact this
theorem WF{a b L:Nat}:a ^^^ b<2^L↔a / 2^L=b / 2^L:=by
 constructor
 intro h
 have h1:(a ^^^ b) / 2^L=0:=Nat.div_eq_of_lt h
 have h2:(a / 2^L) ^^^ (b / 2^L)=0:=by rw[←Nat.xor_div_two_pow];exact h1
 calc a / 2^L=a / 2^L ^^^ (b / 2^L ^^^ b / 2^L):=by rw[Nat.xor_self,Nat.xor_zero]
  _=b / 2^L:=by rw[←Nat.xor_assoc,h2,Nat.zero_xor]
 intro h
 have h2:(a ^^^ b) / 2^L=0:=by rw[Nat.xor_div_two_pow,h,Nat.xor_self]
 exact(Nat.div_eq_zero_iff_lt (Nat.two_pow_pos L)).1 h2
theorem ew{a b L:Nat}:a ||| b<2^L↔a<2^L∧b<2^L:=by
 constructor
 intro h
 exact⟨Nat.lt_of_le_of_lt Nat.left_le_or h,Nat.lt_of_le_of_lt Nat.right_le_or h⟩
 intro h
 exact Nat.or_lt_two_pow h.1 h.2
theorem fQ{L:Nat}(h:L≤31):(shl32 1 L).toNat=2^L:=by
 simp only[shl32,UInt32.toNat_ofNat',Nat.min_eq_left (show L≤32 by omega)]
 have:2^L≤2^31:=Nat.pow_le_pow_right zD h
 rw[show(1:UInt32).toNat=1 from rfl,Nat.one_mul]
 exact Nat.mod_eq_of_lt (Nat.lt_of_le_of_lt this zD)
theorem ql{L:Nat}(h:L≤31):(shl32 1 L-1).toNat=2^L-1:=by
 have h1:=fQ h
 have h2:=Nat.two_pow_pos L
 have h3:2^L≤2^31:=Nat.pow_le_pow_right zD h
 rw[UInt32.toNat_sub_of_le _ _ (by rw[UInt32.le_iff_toNat_le,h1];exact h2),h1]
 rfl
theorem iS{a L:Nat}(hL:L≤32)(ha:a<2^32):a &&& (2^32-2^L)=a / 2^L*2^L:=by
 apply Nat.eq_of_testBit_eq
 intro i
 have hp:=Nat.two_pow_pos L
 have hx:2^L-1<2^32:=by
  have:2^L≤2^32:=Nat.pow_le_pow_right zD hL
  omega
 rw[Nat.testBit_and,show 2^32-2^L=2^32-((2^L-1)+1) by rw[Nat.sub_add_cancel hp],Nat.testBit_two_pow_sub_succ hx,Nat.testBit_two_pow_sub_one,Nat.testBit_mul_two_pow,Nat.testBit_div_two_pow]
 by_cases h1:i<L
 rw[zt h1,zf (show ¬L≤i by omega)]
 simp
 rw[zf h1,zt (show L≤i by omega),Nat.sub_add_cancel zO]
 by_cases h2:i<32
 rw[zt h2];simp
 rw[Nat.testBit_lt_two_pow (Nat.lt_of_lt_of_le ha (Nat.pow_le_pow_right zD zO))]
 simp
theorem S3(a:UInt32){L:Nat}(h:L≤31):(a &&& ~~~(shl32 1 L-1)).toNat=a.toNat / 2^L*2^L:=by
 have h1:=ql h
 have h2:=Nat.two_pow_pos L
 rw[UInt32.toNat_and,UInt32.toNat_not,h1,show UInt32.size-1-(2^L-1)=2^32-2^L by
  show 4294967296-1-(2^L-1)=4294967296-2^L
  omega]
 exact iS zO a.toNat_lt
theorem W3(x y:UInt32){L:Nat}(h:L≤31):IF x y (L:Int)=some ⟨x &&& ~~~(shl32 1 L-1),y &&& ~~~(shl32 1 L-1),L⟩:=by
 unfold IF QV
 rw[if_pos zO,AB,Bw]
 rfl
theorem iv{x y u v:UInt32}(hx:x.toNat<2147483648)(hy:y.toNat<2147483648)(hu:u.toNat<2147483648)(hv:v.toNat<2147483648):
  ∃L:Nat,L≤31∧LM x y u v=some (⟨x &&& ~~~(shl32 1 L-1),y &&& ~~~(shl32 1 L-1),L⟩,0)∧x.toNat / 2^L=u.toNat / 2^L∧y.toNat / 2^L=v.toNat / 2^L∧
   (0<L→x.toNat / 2^(L-1)≠u.toNat / 2^(L-1)∨y.toNat / 2^(L-1)≠v.toNat / 2^(L-1)):=by
 have hn:((x ^^^ u) ||| (y ^^^ v)).toNat=(x.toNat ^^^ u.toNat) ||| (y.toNat ^^^ v.toNat):=by rw[UInt32.toNat_or,UInt32.toNat_xor,UInt32.toNat_xor]
 have hk:∀L,((x ^^^ u) ||| (y ^^^ v)).toNat<2^L↔x.toNat / 2^L=u.toNat / 2^L∧y.toNat / 2^L=v.toNat / 2^L:=fun L=>by
  rw[hn,ew,WF,WF]
 have h31:((x ^^^ u) ||| (y ^^^ v)).toNat<2^31:=(hk 31).2 ⟨by omega,by omega⟩
 have hL:=Zb h31
 obtain⟨e1,e2⟩:=(hk _).1 (eD ((x ^^^ u) ||| (y ^^^ v)).toNat)
 refine⟨bl ((x ^^^ u) ||| (y ^^^ v)).toNat,hL,?_,e1,e2,fun h0=>?_⟩
 unfold LM
 have hm:decide (2147483648≤max (max (max x y) u) v)=false:=by
  rw[decide_eq_false_iff_not,UInt32.le_iff_toNat_le,Lg,Lg,Lg]
  show ¬(2147483648≤_)
  omega
 rw[hm,CE,iy,AB,W3 x y hL,AB,W3 u v hL,AB]
 have ex:x &&& ~~~(shl32 1 (bl ((x ^^^ u) ||| (y ^^^ v)).toNat)-1)=u &&& ~~~(shl32 1 (bl ((x ^^^ u) ||| (y ^^^ v)).toNat)-1):=UInt32.toNat_inj.1 (by rw[S3 x hL,S3 u hL,e1])
 have ey:y &&& ~~~(shl32 1 (bl ((x ^^^ u) ||| (y ^^^ v)).toNat)-1)=v &&& ~~~(shl32 1 (bl ((x ^^^ u) ||| (y ^^^ v)).toNat)-1):=UInt32.toNat_inj.1 (by rw[S3 y hL,S3 v hL,e2])
 simp only[ex,ey,decide_true,Bool.and_self,Bool.not_true,CE]
 have hge:=j9 h0
 have:¬((x ^^^ u) ||| (y ^^^ v)).toNat<2^(bl ((x ^^^ u) ||| (y ^^^ v)).toNat-1):=zO
 rw[hk]at this
 exact Classical.not_and_iff_not_or_not.1 this
end

section
def qd(L:Nat)(r:Ao):Nat:=(r.x.toNat / 2^(L-1))%2+2*((r.y.toNat / 2^(L-1))%2)
structure AR(c:Ck)(l:List Ao)(L:Nat):Prop where
 lev:c.lev=(L:Int)
 le:L≤31
 cx:c.x.toNat%2^L=0
 cy:c.y.toNat%2^L=0
 lx:c.x.toNat<2147483648
 ly:c.y.toNat<2147483648
 inn:∀r∈l,r.x.toNat / 2^L=c.x.toNat / 2^L∧r.y.toNat / 2^L=c.y.toNat / 2^L
 two:0<L→∃r∈l,∃s∈l,qd L r≠qd L s
theorem S6{r:Ao}(h:NW r=true):r.x.toNat<2147483648∧r.y.toNat<2147483648∧r.txt.length≤16:=by
 unfold NW at h
 simp only[Bool.and_eq_true,decide_eq_true_eq]at h
 have:=UInt32.lt_iff_toNat_lt.1 h.1
 rw[Lg]at this
 have h2:max r.x.toNat r.y.toNat<2147483648:=this
 omega
theorem ML{a L:Nat}(h:0<L):a / 2^(L-1) / 2=a / 2^L:=by
 rw[Nat.div_div_eq_div_mul,←Nat.pow_succ,Nat.succ_eq_add_one,Nat.sub_add_cancel h]
theorem Za{n:Nat}{l:List Ao}(hl:l≠[])(hn:l.length<n)(hb:l.length≤1000000)(ok:∀r∈l,NW r=true):∃c L,IK n l=some c∧AR c l L:=by
 have key:∀(T S:List Ao) (x y u v:UInt32),l=S++T→(∀r∈S,x.toNat≤r.x.toNat∧r.x.toNat≤u.toNat∧y.toNat≤r.y.toNat∧r.y.toNat≤v.toNat)→(∃r∈l,r.x=x)→(∃r∈l,r.y=y)→(∃r∈l,r.x=u)→(∃r∈l,r.y=v)→
   ∀m,T.length<m→∃c L,Fy l m (x,y,u,v,(S.length:Int))=some c∧AR c l L:=by
  intro T
  induction T with
  | nil=>
   intro S x y u v hS hin hx hy hu hv m hm
   obtain⟨m,rfl⟩:∃k,m=k+1:=⟨m-1,by omega⟩
   simp only[List.append_nil]at hS
   subst hS
   obtain⟨rx,hrx,ex⟩:=hx
   obtain⟨ry,hry,ey⟩:=hy
   obtain⟨ru,hru,eu⟩:=hu
   obtain⟨rv,hrv,ev⟩:=hv
   have lx:=(S6 (ok rx hrx)).1
   have ly:=(S6 (ok ry hry)).2.1
   have lu:=(S6 (ok ru hru)).1
   have lv:=(S6 (ok rv hrv)).2.1
   rw[ex]at lx
   rw[ey]at ly
   rw[eu]at lu
   rw[ev]at lv
   obtain⟨L,hL,hle,d1,d2,d3⟩:=iv lx ly lu lv
   have hp:=Nat.two_pow_pos L
   have hcx:=S3 x hL
   have hcy:=S3 y hL
   refine⟨⟨x &&& ~~~(shl32 1 L-1),y &&& ~~~(shl32 1 L-1),L⟩,L,?_,⟨rfl,hL,?_,?_,?_,?_,fun r hr=>?_,fun h0=>?_⟩⟩
   show ET l (Fy l m) _ _ _ _ _=_
   unfold ET
   dsimp only
   rw[zf zO,CE]
   unfold Jm
   rw[hle,AB]
   show(x &&& ~~~(shl32 1 L-1)).toNat%2^L=0
   rw[hcx]
   exact Nat.mul_mod_left _ _
   show(y &&& ~~~(shl32 1 L-1)).toNat%2^L=0
   rw[hcy]
   exact Nat.mul_mod_left _ _
   show(x &&& ~~~(shl32 1 L-1)).toNat<_
   rw[hcx]
   exact Nat.lt_of_le_of_lt (Nat.div_mul_le_self _ _) lx
   show(y &&& ~~~(shl32 1 L-1)).toNat<_
   rw[hcy]
   exact Nat.lt_of_le_of_lt (Nat.div_mul_le_self _ _) ly
   show r.x.toNat / 2^L=(x &&& ~~~(shl32 1 L-1)).toNat / 2^L∧r.y.toNat / 2^L=(y &&& ~~~(shl32 1 L-1)).toNat / 2^L
   rw[hcx,hcy,Nat.mul_div_cancel _ hp,Nat.mul_div_cancel _ hp]
   obtain⟨a1,a2,a3,a4⟩:=hin r hr
   have b1:=Nat.div_le_div_right (c:=2^L) a1
   have b2:=Nat.div_le_div_right (c:=2^L) a2
   have b3:=Nat.div_le_div_right (c:=2^L) a3
   have b4:=Nat.div_le_div_right (c:=2^L) a4
   omega
   have g1:=ML (a:=x.toNat) h0
   have g2:=ML (a:=u.toNat) h0
   have g3:=ML (a:=y.toNat) h0
   have g4:=ML (a:=v.toNat) h0
   rcases d3 h0 with d | d
   refine⟨rx,hrx,ru,hru,fun e=>?_⟩
   unfold qd at e
   rw[ex,eu]at e
   omega
   refine⟨ry,hry,rv,hrv,fun e=>?_⟩
   unfold qd at e
   rw[ey,ev]at e
   omega
  | cons r T ih=>
   intro S x y u v hS hin hx hy hu hv m hm
   obtain⟨m,rfl⟩:∃k,m=k+1:=⟨m-1,by omega⟩
   have hlen:l.length=S.length+(T.length+1):=by rw[hS];simp
   have hr:r∈l:=by rw[hS];simp
   have n1:BE l (S.length:Int)=some r:=by
    rw[O7 rfl,hS]
    simp
   have hmin:∀a b:UInt32,min a b=a∨min a b=b:=fun a b=>by
    show(if a≤b then a else b)=a∨(if a≤b then a else b)=b
    split
    exact .inl rfl
    exact .inr rfl
   have hmax:∀a b:UInt32,max a b=a∨max a b=b:=fun a b=>by
    show(if a≤b then b else a)=a∨(if a≤b then b else a)=b
    split
    exact .inr rfl
    exact .inl rfl
   obtain⟨c,L,hc,hA⟩:=ih (S++[r]) (min x r.x) (min y r.y) (max u r.x) (max v r.y) (by rw[hS];simp) (fun q hq=>by
    rw[YG,YG,Lg,Lg]
    rcases List.mem_append.1 hq with hq | hq
    have:=hin q hq
    omega
    rw[List.mem_singleton.1 hq]
    omega) (by
    rcases hmin x r.x with e | e<;>rw[e]
    exact hx
    exact⟨r,hr,rfl⟩) (by
    rcases hmin y r.y with e | e<;>rw[e]
    exact hy
    exact⟨r,hr,rfl⟩) (by
    rcases hmax u r.x with e | e<;>rw[e]
    exact hu
    exact⟨r,hr,rfl⟩) (by
    rcases hmax v r.y with e | e<;>rw[e]
    exact hv
    exact⟨r,hr,rfl⟩) m (by simp at hm;omega)
   refine⟨c,L,?_,hA⟩
   show ET l (Fy l m) _ _ _ _ _=_
   unfold ET
   dsimp only
   rw[zt zO,Cz,n1,AB,Bw,Bw,Bw,Bw,Cw zO zO]
   rw[show((S++[r]).length:Int)=(S.length:Int)+1 by simp only[List.length_append,List.length_singleton];omega]at hc
   exact hc
 obtain⟨r0,l0,rfl⟩:∃r0 l0,l=r0::l0:=by
  cases l with
  | nil=>exact absurd rfl hl
  | cons r0 l0=>exact⟨r0,l0,rfl⟩
 obtain⟨c,L,hc,hA⟩:=key (r0::l0) [] r0.x r0.y r0.x r0.y rfl zS ⟨r0,by simp,rfl⟩ ⟨r0,by simp,rfl⟩ ⟨r0,by simp,rfl⟩ ⟨r0,by simp,rfl⟩ n hn
 refine⟨c,L,?_,hA⟩
 unfold IK
 have n0:BE (r0::l0) 0=some r0:=rfl
 rw[n0,AB,AB,AB,AB]
 exact hc
theorem size_eq{c:Ck}{L:Nat}(h:c.lev=(L:Int)):Hb c=some (shl64 1 L):=by
 unfold Hb QV
 rw[h,if_pos zO,AB,Bw]
 rfl
theorem X9{L:Nat}(h:L≤31):(shl64 1 L).toNat=2^L:=by
 simp only[shl64,UInt64.toNat_ofNat',Nat.min_eq_left (show L≤64 by omega)]
 have:2^L≤2^31:=Nat.pow_le_pow_right zD h
 rw[show(1:UInt64).toNat=1 from rfl,Nat.one_mul]
 exact Nat.mod_eq_of_lt (Nat.lt_of_le_of_lt this zD)
theorem km{L:Nat}(h:L≤31):(shl64 1 L-1).toUInt32.toNat=2^L-1:=by
 have h1:=X9 h
 have h2:=Nat.two_pow_pos L
 have h3:2^L≤2^31:=Nat.pow_le_pow_right zD h
 rw[UInt64.toNat_toUInt32,UInt64.toNat_sub_of_le _ _ (by rw[UInt64.le_iff_toNat_le,h1];exact h2),h1]
 show(2^L-1)%4294967296=_
 exact Nat.mod_eq_of_lt zO
theorem XS{c:Ck}{L:Nat}(h:c.lev=(L:Int))(hL:L≤31)(hx:c.x.toNat%2^L=0)(hy:c.y.toNat%2^L=0)(lx:c.x.toNat<2147483648)(ly:c.y.toNat<2147483648):OO c=true:=by
 unfold OO
 rw[h,show(decide ((L:Int)<0)||decide (31<(L:Int)))=false by simp;omega,CE,Int.toNat_natCast,Bool.and_eq_true,decide_eq_true_eq,decide_eq_true_eq]
 constructor
 apply UInt32.toNat_inj.1
 rw[UInt32.toNat_and,km hL,UInt32.toNat_or,Nat.and_two_pow_sub_one_eq_mod,Nat.or_mod_two_pow,hx,hy]
 rfl
 rw[UInt32.lt_iff_toNat_lt,Lg]
 show max _ _<2147483648
 omega
theorem AR.ok{c:Ck}{l:List Ao}{L:Nat}(A:AR c l L):OO c=true:=XS A.lev A.le A.cx A.cy A.lx A.ly
theorem Ut{a P:Nat}(hP:a%P=0)(ha:a<2147483648)(hd:∃k,k*P=2147483648):a+P≤2147483648:=by
 obtain⟨k,hk⟩:=hd
 have h1:a=a / P*P:=by
  have:=Nat.div_add_mod a P
  rw[hP,Nat.add_zero,Nat.mul_comm]at this
  exact this.symm
 have h2:a / P<k:=by
  rcases Nat.lt_or_ge (a / P) k with h | h
  exact h
  have:=Nat.mul_le_mul_right P h
  omega
 have h3:(a / P+1)*P≤k*P:=Nat.mul_le_mul_right P h2
 rw[Nat.add_mul,Nat.one_mul]at h3
 omega
theorem Q8{L:Nat}(h:L≤31):∃k,k*2^L=2147483648:=⟨2^(31-L),by rw[←Nat.pow_add,Nat.sub_add_cancel h]⟩
theorem c6{a q P:Nat}(hP:0<P)(hq:q%P=0):(q≤a∧a≤q+(P-1))↔a / P=q / P:=by
 have h1:q=q / P*P:=by
  have:=Nat.div_add_mod q P
  rw[hq,Nat.add_zero,Nat.mul_comm]at this
  exact this.symm
 have h2:=Nat.div_add_mod a P
 have h3:=Nat.mod_lt a hP
 constructor
 rintro⟨g1,g2⟩
 have g3:q / P≤a / P:=Nat.div_le_div_right g1
 have g4:a / P<q / P+1:=by
  refine(Nat.div_lt_iff_lt_mul hP).2 ?_
  rw[Nat.add_mul,Nat.one_mul,←h1]
  omega
 omega
 intro g
 rw[g,Nat.mul_comm,←h1]at h2
 omega
theorem cS{q:Ck}{M:Nat}(x y:UInt32)(h:q.lev=(M:Int))(hM:M≤31)(hx:q.x.toNat%2^M=0)(hy:q.y.toNat%2^M=0)(lx:q.x.toNat<2147483648)(ly:q.y.toNat<2147483648):
  MM q x y=some (decide (x.toNat / 2^M=q.x.toNat / 2^M)&&decide (y.toNat / 2^M=q.y.toNat / 2^M)):=by
 have hp:=Nat.two_pow_pos M
 have mx:=Ut hx lx (Q8 hM)
 have my:=Ut hy ly (Q8 hM)
 have hf:=km hM
 have ex:(q.x+(shl64 1 M-1).toUInt32).toNat=q.x.toNat+(2^M-1):=by rw[UInt32.toNat_add,hf];omega
 have ey:(q.y+(shl64 1 M-1).toUInt32).toNat=q.y.toNat+(2^M-1):=by rw[UInt32.toNat_add,hf];omega
 unfold MM
 rw[Pp,XS h hM hx hy lx ly,AB]
 unfold Pa Qt Ki
 rw[size_eq h]
 simp only[AB,Bw,Ij,Cz]
 congr 1
 rw[Bool.eq_iff_iff]
 simp only[Bool.and_eq_true,decide_eq_true_eq,UInt32.le_iff_toNat_le,UInt32.lt_iff_toNat_lt,Lg,ex,ey,←c6 hp hx,←c6 hp hy]
 constructor
 rintro⟨⟨⟨⟨_,h1⟩,h2⟩,h3⟩,h4⟩
 exact⟨⟨h1,h2⟩,h3,h4⟩
 rintro⟨⟨h1,h2⟩,h3,h4⟩
 refine⟨⟨⟨⟨⟨⟨by omega,by omega⟩,?_⟩,h1⟩,h2⟩,h3⟩,h4⟩
 show max _ _<2147483648
 omega
theorem jW{c:Ck}{l:List Ao}{L:Nat}(A:AR c l L)(h0:0<L){r:Ao}(hr:r∈l):Fg c r.x r.y=some ((qd L r:Int),0):=by
 have hL:=A.le
 have hp:=Nat.two_pow_pos (L-1)
 obtain⟨i1,i2⟩:=A.inn r hr
 have mx:=Ut A.cx A.lx (Q8 hL)
 have my:=Ut A.cy A.ly (Q8 hL)
 have e2:2^L=2^(L-1)*2:=by rw[←Nat.pow_succ,Nat.succ_eq_add_one,Nat.sub_add_cancel h0]
 have hh:(shl64 1 L / 2).toUInt32.toNat=2^(L-1):=by
  rw[UInt64.toNat_toUInt32,UInt64.toNat_div,X9 hL,show(2:UInt64).toNat=2 from rfl,e2,Nat.mul_div_cancel _ zD]
  show _%4294967296=_
  have:2^(L-1)≤2^31:=Nat.pow_le_pow_right zD zO
  exact Nat.mod_eq_of_lt zO
 have hx2:c.x.toNat%2^(L-1)=0:=by
  have:=A.cx
  rw[e2]at this
  rw[←Nat.mod_mul_right_mod c.x.toNat (2^(L-1)) 2,this]
  simp
 have hy2:c.y.toNat%2^(L-1)=0:=by
  have:=A.cy
  rw[e2]at this
  rw[←Nat.mod_mul_right_mod c.y.toNat (2^(L-1)) 2,this]
  simp
 have gx:=ML (a:=c.x.toNat) h0
 have gy:=ML (a:=c.y.toNat) h0
 have rx:=ML (a:=r.x.toNat) h0
 have ry:=ML (a:=r.y.toNat) h0
 have cxe:c.x.toNat / 2^(L-1)%2=0:=by
  have:=A.cx
  rw[e2,Nat.mod_mul]at this
  have h5:2^(L-1)*(c.x.toNat / 2^(L-1)%2)=0:=zO
  rcases Nat.mul_eq_zero.1 h5 with h6 | h6
  omega
  exact h6
 have cye:c.y.toNat / 2^(L-1)%2=0:=by
  have:=A.cy
  rw[e2,Nat.mod_mul]at this
  have h5:2^(L-1)*(c.y.toNat / 2^(L-1)%2)=0:=zO
  rcases Nat.mul_eq_zero.1 h5 with h6 | h6
  omega
  exact h6
 generalize hhd:(shl64 1 L / 2).toUInt32=hf at hh
 
 have c0:∀a:UInt32,(a+hf*0)=a:=fun a=>by simp
 have c1:∀a:UInt32,a.toNat+2^L≤2147483648→(a+hf*1).toNat=a.toNat+2^(L-1):=fun a ha=>by
  rw[UInt32.mul_one,UInt32.toNat_add,hh]
  rw[e2]at ha
  omega
 have m1:∀a:Nat,a%2^(L-1)=0→(a+2^(L-1))%2^(L-1)=0:=fun a ha=>by simp[ha]
 have d1:∀a:Nat,(a+2^(L-1)) / 2^(L-1)=a / 2^(L-1)+1:=fun a=>Nat.add_div_right a hp
 have hlev:wI (c.lev-1)=((L-1:Nat):Int):=by rw[A.lev,Cw zO zO];omega
 have hasq:∀(qx qy:UInt32) (bx by_:Nat),qx.toNat=c.x.toNat+bx*2^(L-1)→qy.toNat=c.y.toNat+by_*2^(L-1)→bx≤1→by_≤1→
   MM ⟨qx,qy,((L-1:Nat):Int)⟩ r.x r.y=some (decide (r.x.toNat / 2^(L-1)%2=bx)&&decide (r.y.toNat / 2^(L-1)%2=by_)):=by
  intro qx qy bx by_ e1 e3 hbx hby
  have hxm:qx.toNat%2^(L-1)=0:=by
   rw[e1,Nat.add_mul_mod_self_right]
   exact hx2
  have hym:qy.toNat%2^(L-1)=0:=by
   rw[e3,Nat.add_mul_mod_self_right]
   exact hy2
  have bxl:bx*2^(L-1)≤2^(L-1):=by
   calc bx*2^(L-1)≤1*2^(L-1):=Nat.mul_le_mul_right _ hbx
    _=2^(L-1):=Nat.one_mul _
  have byl:by_*2^(L-1)≤2^(L-1):=by
   calc by_*2^(L-1)≤1*2^(L-1):=Nat.mul_le_mul_right _ hby
    _=2^(L-1):=Nat.one_mul _
  rw[cS (M:=L-1) r.x r.y rfl zO hxm hym (by rw[e1];omega) (by rw[e3];omega)]
  have f1:qx.toNat / 2^(L-1)=c.x.toNat / 2^(L-1)+bx:=by rw[e1];exact Nat.add_mul_div_right _ _ hp
  have f2:qy.toNat / 2^(L-1)=c.y.toNat / 2^(L-1)+by_:=by rw[e3];exact Nat.add_mul_div_right _ _ hp
  congr 2
  rw[decide_eq_decide]
  show r.x.toNat / 2^(L-1)=qx.toNat / 2^(L-1)↔_
  rw[f1]
  omega
  rw[decide_eq_decide]
  show r.y.toNat / 2^(L-1)=qy.toNat / 2^(L-1)↔_
  rw[f2]
  omega
 unfold Fg aw T4
 rw[AB,Pp,A.ok,AB,show(!true||decide (c.lev=0))=false by rw[A.lev];simp;omega,CE,size_eq A.lev,AB]
 have hq:RA (shl64 1 L) 2=some (shl64 1 L / 2):=by
  unfold RA
  rw[if_neg zD]
 rw[hq,AB,AB,hhd]
 unfold Eo
 rw[hlev,c0,c0]
 have q00:=hasq c.x c.y 0 0 zS zS zO zO
 have q10:=hasq (c.x+hf*1) c.y 1 0 (by rw[c1 _ mx];omega) zS zO zO
 have q01:=hasq c.x (c.y+hf*1) 0 1 zS (by rw[c1 _ my];omega) zO zO
 have q11:=hasq (c.x+hf*1) (c.y+hf*1) 1 1 (by rw[c1 _ mx];omega) (by rw[c1 _ my];omega) zO zO
 unfold Kk qd
 simp only[Uw,Iq,q00,q10,q01,q11,AB]
 have bx:=Nat.mod_two_eq_zero_or_one (r.x.toNat / 2^(L-1))
 have by_:=Nat.mod_two_eq_zero_or_one (r.y.toNat / 2^(L-1))
 rcases bx with bx | bx<;>rcases by_ with by_ | by_<;>rw[bx,by_]<;>rfl
end

section
inductive Vl {α β:Type} (R:α→β→Prop):List α→List β→Prop
 | nil:Vl R [] []
 | cons {a b xs ys}:R a b→Vl R xs ys→Vl R (a::xs) (b::ys)
theorem Vl.length{α β:Type}{R:α→β→Prop}{xs:List α}{ys:List β}(h:Vl R xs ys):xs.length=ys.length:=by
 induction h with
 | nil=>rfl
 | cons _ _ ih=>simp[ih]
def Ph(L:Nat)(l:List Ao):List (List Ao):=[l.filter fun r=>decide (qd L r=0),l.filter fun r=>decide (qd L r=1),l.filter fun r=>decide (qd L r=2),l.filter fun r=>decide (qd L r=3)]
def Mz(L:Nat)(l:List Ao):List (List Ao):=(Ph L l).filter fun p => !p.isEmpty
theorem fG(L:Nat)(r:Ao):qd L r<4:=by
 unfold qd
 omega
theorem ZB{c:Ck}{l:List Ao}{L:Nat}(A:AR c l L)(h0:0<L):∀(T:List Ao) (p:P4),(∀r∈T,r∈l)→p.1.length+p.2.1.length+p.2.2.1.length+p.2.2.2.length+T.length≤100000→
  MB c T p=some (p.1++T.filter (fun r=>decide (qd L r=0)),p.2.1++T.filter (fun r=>decide (qd L r=1)),p.2.2.1++T.filter (fun r=>decide (qd L r=2)),p.2.2.2++T.filter (fun r=>decide (qd L r=3)))
 | [],p,_,_=>by simp[MB]
 | r::T,p,hT,hb=>by
  simp only[List.length_cons]at hb
  have hw:=jW A h0 (hT r zS)
  have h4:=fG L r
  have ih:=fun p hp=>ZB A h0 T p (fun q hq=>hT q (by simp[hq])) hp
  unfold MB S5
  rw[hw,AB]
  dsimp only
  rcases(show qd L r=0∨qd L r=1∨qd L r=2∨qd L r=3 by omega)with e | e | e | e
  rw[e,if_pos (show((0:Nat):Int)=0 from rfl),DX zQ zQ,AB,AB,ih _ zQ]
  simp[e]
  rw[e,if_neg zD,if_pos (show((1:Nat):Int)=1 from rfl),DX zQ zQ,AB,AB,ih _ zQ]
  simp[e]
  rw[e,if_neg zD,if_neg zD,if_pos (show((2:Nat):Int)=2 from rfl),DX zQ zQ,AB,AB,ih _ zQ]
  simp[e]
  rw[e,if_neg zD,if_neg zD,if_neg zD,if_pos (show((3:Nat):Int)=3 from rfl),DX zQ zQ,AB,AB,ih _ zQ]
  simp[e]
theorem av(L:Nat)(l:List Ao):(Ph L l).flatten.Perm l:=by
 unfold Ph
 simp only[List.flatten_cons,List.flatten_nil,List.append_nil]
 induction l with
 | nil=>exact List.Perm.refl _
 | cons r l ih=>
  have h4:=fG L r
  rcases(show qd L r=0∨qd L r=1∨qd L r=2∨qd L r=3 by omega)with e | e | e | e<;>simp only[List.filter_cons,e,decide_true,if_true]<;>simp only[show decide ((0:Nat)=1)=false from rfl,show decide ((0:Nat)=2)=false from rfl,show decide ((0:Nat)=3)=false from rfl,show decide ((1:Nat)=0)=false from rfl,show decide ((1:Nat)=2)=false from rfl,show decide ((1:Nat)=3)=false from rfl,show decide ((2:Nat)=0)=false from rfl,show decide ((2:Nat)=1)=false from rfl,show decide ((2:Nat)=3)=false from rfl,show decide ((3:Nat)=0)=false from rfl,show decide ((3:Nat)=1)=false from rfl,show decide ((3:Nat)=2)=false from rfl,Bool.false_eq_true,if_false]
  all_goals
   refine List.perm_iff_count.2 fun x=>?_
   have:=List.perm_iff_count.1 ih x
   simp only[List.count_append,List.count_cons]at this ⊢
   omega
theorem Ue(ps:List (List Ao)):(ps.filter fun p => !p.isEmpty).flatten=ps.flatten:=by
 induction ps with
 | nil=>rfl
 | cons p ps ih=>
  cases p with
  | nil=>simpa using ih
  | cons r p=>simp[ih]
theorem dJ(L:Nat)(l:List Ao):(Mz L l).flatten.Perm l:=by
 unfold Mz
 rw[Ue]
 exact av L l
theorem T2{L:Nat}{l p:List Ao}(h:p∈Mz L l):p≠[]∧∃i,p=l.filter fun r=>decide (qd L r=i):=by
 unfold Mz at h
 obtain⟨h1,h2⟩:=List.mem_filter.1 h
 refine⟨by simpa using h2,?_⟩
 unfold Ph at h1
 simp only[List.mem_cons,List.not_mem_nil,or_false]at h1
 rcases h1 with rfl | rfl | rfl | rfl
 exact⟨0,rfl⟩
 exact⟨1,rfl⟩
 exact⟨2,rfl⟩
 exact⟨3,rfl⟩
theorem Q9{L:Nat}{l p:List Ao}(h:p∈Mz L l):p.Sublist l:=by
 obtain⟨_,i,rfl⟩:=T2 h
 exact List.filter_sublist ..
theorem X2(L:Nat)(l:List Ao):(Mz L l).length≤4:=by
 unfold Mz
 exact Nat.le_trans (List.length_filter_le ..) (Nat.le_refl 4)
theorem Xa{L:Nat}{l:List Ao}{r:Ao}(h:r∈l):(l.filter fun s=>decide (qd L s=qd L r))∈Mz L l:=by
 have h4:=fG L r
 unfold Mz
 refine List.mem_filter.2 ⟨?_,?_⟩
 unfold Ph
 rcases(show qd L r=0∨qd L r=1∨qd L r=2∨qd L r=3 by omega)with e | e | e | e<;>rw[e]<;>simp
 have:r∈l.filter fun s=>decide (qd L s=qd L r):=List.mem_filter.2 ⟨h,by simp⟩
 cases hx:l.filter fun s=>decide (qd L s=qd L r)with
 | nil=>rw[hx]at this;simp at this
 | cons a b=>rfl
theorem T3{c:Ck}{l:List Ao}{L:Nat}(A:AR c l L)(h0:0<L):2≤(Mz L l).length∧∀p∈Mz L l,p.length<l.length:=by
 obtain⟨r,hr,s,hs,hne⟩:=A.two h0
 have h1:=Xa (L:=L) hr
 have h2:=Xa (L:=L) hs
 have hd:(l.filter fun q=>decide (qd L q=qd L r))≠(l.filter fun q=>decide (qd L q=qd L s)):=by
  intro e
  have:r∈l.filter fun q=>decide (qd L q=qd L r):=List.mem_filter.2 ⟨hr,by simp⟩
  rw[e]at this
  have:=(List.mem_filter.1 this).2
  simp only[decide_eq_true_eq]at this
  exact hne this
 constructor
 rcases hq:Mz L l with _ | ⟨a,_ | ⟨b,q⟩⟩
 rw[hq]at h1;simp at h1
 rw[hq]at h1 h2
 simp only[List.mem_singleton]at h1 h2
 exact absurd (h1.trans h2.symm) hd
 simp
 intro p hp
 obtain⟨_,i,rfl⟩:=T2 hp
 have:∃q∈l,qd L q≠i:=by
  by_cases e:qd L r=i
  exact⟨s,hs,fun e'=>hne (e.trans e'.symm)⟩
  exact⟨r,hr,e⟩
 obtain⟨q,hq,hqi⟩:=this
 rcases Nat.lt_or_ge (l.filter fun r=>decide (qd L r=i)).length l.length with h | h
 exact h
 have:=(List.filter_sublist (p:=fun r=>decide (qd L r=i)) (l:=l)).eq_of_length_le h
 have h5:=List.filter_eq_self.1 this q hq
 simp only[decide_eq_true_eq]at h5
 exact absurd h5 hqi
def Tr:Nat→List Ao→Ca→Prop
 | 0,_,_=>False
 | f+1,l,t=>(l=[]∧t=.mk 0 0 0 [] [])∨(l≠[]∧∃c L,AR c l L∧(((l.length≤4∨L=0)∧t=.mk c.x c.y c.lev l [])∨
   (4<l.length∧0<L∧∃ks,t=.mk c.x c.y c.lev [] ks∧Vl (Tr f) (Mz L l) ks)))
theorem Xt{rec_:List Ao→Option Ca}{R:List Ao→Ca→Prop}:∀(ps:List (List Ao)) (acc:List Ca),(∀p∈ps,p≠[]→∃t,rec_ p=some t∧R p t)→acc.length+ps.length≤1000→∃ks,FH rec_ ps acc=some (acc++ks)∧Vl R (ps.filter fun p => !p.isEmpty) ks
 | [],acc,_,_=>⟨[],by simp[FH],.nil⟩
 | p::ps,acc,h,hb=>by
  simp only[List.length_cons]at hb
  unfold FH
  cases p with
  | nil=>
   obtain⟨ks,h1,h2⟩:=Xt ps acc (fun q hq=>h q (by simp[hq])) zO
   exact⟨ks,by simpa using h1,by simpa using h2⟩
  | cons r p=>
   obtain⟨t,ht,hR⟩:=h (r::p) zS zS
   obtain⟨ks,h1,h2⟩:=Xt ps (acc++[t]) (fun q hq=>h q (by simp[hq])) zQ
   refine⟨t::ks,?_,?_⟩
   rw[zt (by simp only[List.length_cons];omega),Cz,ht,AB,DX zQ zQ,AB,h1]
   simp
   simp only[List.filter_cons,List.isEmpty_cons,Bool.not_false,if_true]
   exact .cons hR h2
theorem dZ{n:Nat}:∀(f:Nat) (l:List Ao),l.length<f→(∀r∈l,NW r=true)→l.length≤1000→l.length<n→∃t,H7 n f l=some t∧Tr f l t
 | 0,l,h,_,_,_=>by omega
 | f+1,l,h,ok,hb,hn=>by
  unfold H7
  rw[if_neg zO]
  by_cases hl:l=[]
  subst hl
  exact⟨.mk 0 0 0 [] [],rfl,.inl ⟨rfl,rfl⟩⟩
  have hp:=List.length_pos_iff.2 hl
  obtain⟨c,L,hc,A⟩:=Za hl hn zO ok
  rw[zf zO,CE,hc,AB]
  by_cases hleaf:l.length≤4∨L=0
  rw[show(decide ((l.length:Int)≤4)||decide (c.lev=0))=true by rw[A.lev];simp;omega,Cz]
  unfold PZ
  rw[DX zQ zQ,AB]
  exact⟨_,rfl,.inr ⟨hl,c,L,A,.inl ⟨hleaf,rfl⟩⟩⟩
  have h0:0<L:=zO
  rw[show(decide ((l.length:Int)≤4)||decide (c.lev=0))=false by rw[A.lev];simp;omega,CE,ZB A h0 l _ (fun r hr=>hr) zQ,AB]
  simp only[List.nil_append]
  obtain⟨_,h2⟩:=T3 A h0
  obtain⟨ks,h3,h4⟩:=Xt (rec_:=H7 n f) (R:=Tr f) (Ph L l) [] (fun p hp' hne=>by
   have hq:p∈Mz L l:=List.mem_filter.2 ⟨hp',by simpa using hne⟩
   have:=h2 p hq
   exact dZ f p zO (fun r hr=>ok r ((Q9 hq).subset hr)) zO zO) (by simp[Ph])
  unfold Ph at h3
  rw[h3,AB]
  exact⟨_,rfl,.inr ⟨hl,c,L,A,.inr ⟨by omega,h0,ks,by simp,h4⟩⟩⟩
theorem iW{n:Nat}{l:List Ao}(hn:1002≤n)(h:E2 l=true):∃t,Sx n l=some (t,0)∧H7 n n l=some t∧Tr n l t:=by
 have h':=h
 unfold E2 at h'
 simp only[Bool.and_eq_true,decide_eq_true_eq]at h'
 have hb:l.length≤1000:=zO
 obtain⟨t,h1,h2⟩:=dZ (n:=n) n l zO (fun r hr=>List.all_eq_true.1 h'.1.1 r hr) hb zO
 refine⟨t,?_,h1,h2⟩
 unfold Sx
 rw[Py l zO zO,AB,h,Bool.not_true,CE,h1,AB]
end

section
variable {P:Program}{ro:Option Nat}{K:Nat→Prop}{w0:World}{N:Nat}{Q:DJ}{D:List Nat}{l l':Tm}{H H' Hs:List AY}{ops:Array Oper}{items:Hx}
variable {tk:Bool}{o:Oper}{t:Nat}{v:Value}{x y z u:Operand}
theorem mg{b off n c sz:Nat}{k k' k'':IntKind}{i j m:Int}{ty e:TypeId}(p q:Nat)(ho:At ops N l o t (.slice ty x (some y) (some z) (some u)))(hty:P.underlying ty=some (.slice e))(hsz:DH P e=some sz)(hx:Bj l x=some (.slice (some ⟨b,off,none⟩) n c))(hy:Bj l y=some (.int k i))(hz:Bj l z=some (.int k' j))(hu:Bj l u=some (.int k'' m))
(hi:i=(p:Int))(hj:j=(q:Int))(hm:m=(q:Int))(hp:p<q)(hq:q≤c)(h:SL P ro K w0 N ops Hs items Q D ((t,.slice (some ⟨b,off+p*sz,none⟩) (q-p) (q-p))::l) H):SL P ro K w0 N ops Hs (.cons (tk,o) items) Q D l H:=
 SL.val ho rfl (fun a w ha _=>by
  subst hi hj hm
  have hle:p≤q:=Nat.le_of_lt hp
  have hne:¬q=p:=zO
  simp only[execOp,ho.op,Instr.sliceAt,Instr.slice,Option.map]
  simp[ha.eval hx,ha.eval hy,ha.eval hz,ha.eval hu,Aq hty,Ce hsz,Instr.sliceBounds,Instr.sliceBound,asIntOf,hq,hle,hne,Cf]) h
theorem B9.piece{α:Type}{enc:α→List Value}{sz b off n cap:Nat}{xs:List α}(h:B9 K w0 enc sz (.slice (some ⟨b,off,none⟩) n cap) xs)(p q:Nat)(hpq:p≤q)(hq:q≤xs.length):B9 K w0 enc sz (.slice (some ⟨b,off+p*sz,none⟩) (q-p) (q-p)) ((xs.drop p).take (q-p)):=by
 have hl:((xs.drop p).take (q-p)).length=q-p:=by simp;omega
 refine⟨h.len,?_⟩
 rcases h.at_ with⟨a0,e,rfl⟩ | ⟨b',off',cap',e,hcap,hc⟩
 have:q=0:=by simpa using hq
 subst this
 obtain rfl:p=0:=zO
 exact .inl ⟨_,rfl,by simp⟩
 simp only[Value.slice.injEq,Option.some.injEq,Addr.mk.injEq]at e
 obtain⟨⟨rfl,rfl,_⟩,_,_⟩:=e
 refine .inr ⟨b,off+p*sz,q-p,by rw[hl],by omega,fun j u hu=>?_⟩
 have hfl:(xs.take p).flatMap enc++(((xs.drop p).take (q-p)).flatMap enc++((xs.drop p).drop (q-p)).flatMap enc)=xs.flatMap enc:=by
  rw[←List.flatMap_append,List.take_append_drop,←List.flatMap_append,List.take_append_drop]
 have hj:j<(((xs.drop p).take (q-p)).flatMap enc).length:=(List.getElem?_eq_some_iff.1 hu).1
 have hpl:((xs.take p).flatMap enc).length=p*sz:=by
  rw[I3 h.len,List.length_take,Nat.min_eq_left zO]
 have:=hc (p*sz+j) u (by
  rw[←hfl,List.getElem?_append_right zO,hpl,Nat.add_sub_cancel_left,List.getElem?_append_left hj]
  exact hu)
 rw[Nat.add_assoc]
 exact this
end

section
variable {K:Nat→Prop}{w0:World}{H:List AY}
theorem GA{A B R M:List AY}{w:World}(h:BW K w0 ((A++(B++R))++M) w):BW K w0 ((B++(A++R))++M) w:=by
 refine h.perm (List.Perm.append_right _ ?_)
 rw[←List.append_assoc,←List.append_assoc]
 exact List.Perm.append_right _ List.perm_append_comm
structure K7 where
 out:List BL
 wrong:Int
abbrev WH(σ:Type):=σ→List UInt8→Option ((BV×Int)×σ)
def dz{σ:Type}(T:List UInt32)(fid:FuncId)(cs:Array Value)(C:Value→σ→List AY)(wh:WH σ):Prop:=
 ∀(K:Nat→Prop) (w0:World) (H:List AY) (a:Value) (q:σ) (s:List UInt8) (r:(BV×Int)×σ),GF K w0 T→wh q s=some r→
  zC K w0 fid (vS s::cs.toList) (C a q) H (fun u M=>u=.tuple #[.agg (B0 r.1.1).toArray,vI r.1.2]∧∃a',M=C a' r.2)
def X0{σ:Type}(e:List UInt8)(p:K7)(w:BV×Int×σ):Option (BV×(K7×σ)):=
 cond (!decide (w.2.1=0)) (some (⟨0,[]⟩,({ p with wrong:=w.2.1 },w.2.2))) ((DK 40 p.out [⟨e,w.1.page,w.1.tag⟩]).bind fun l=>some (w.1,({ p with out:=l },w.2.2)))
def Jv{σ:Type}(n:Nat)(wh:WH σ)(x:Dc)(p:K7)(q:σ):Option (BV×(K7×σ)):=
 cond (!decide (p.wrong=0)) (some (⟨0,[]⟩,(p,q)))
  ((IW n x).bind fun e=>cond (decide (e.2=0)) ((wh q e.1).bind fun w=>X0 e.1 p (w.1.1,w.1.2,w.2)) (X0 e.1 p (⟨0,[]⟩,e.2,q)))
abbrev La(bp:Nat)(fw vo:Value)(p:K7):AY:=AK bp (.cells #[fw,vo,vI p.wrong] 196)
theorem RN{σ:Type}{C:Value→σ→List AY}{wh:WH σ}{fid:FuncId}{cs:Array Value}{T:List UInt32}{n bp:Nat}{vo v4 v5 a:Value}{x:Dc}{p:K7}{q:σ}{r:BV×(K7×σ)}(hcal:AM Tryz.prog fid=true)(hwh:dz T fid cs C wh)(hS:GF K w0 T)
(h:Jv n wh x p q=some r)(hs4:B9 K w0 AW 4 v4 x.rows)(hs5:B9 K w0 B0 2 v5 x.kids):
  zC K w0 130 [vP bp 0,.agg #[vI x.kind,AA x.cx,AA x.cy,vI x.lev,v4,v5,AA x.npage,vS x.ntag]] (La bp (.func (.func fid) #[] cs) vo p::AC 190 3 vo AU p.out::C a q) H
   (fun u M=>u=.agg (B0 r.1).toArray∧∃vo' a',M=La bp (.func (.func fid) #[] cs) vo' r.2.1::AC 190 3 vo' AU r.2.1.out::C a' r.2.2):=by
 unfold Jv at h
 refine Td.enter Tryz.func130 rfl rfl ?_
 show SX _ _ _ _ _ _ _ _ _ (La bp (.func (.func fid) #[] cs) vo p::AC 190 3 vo AU p.out::(C a q++H))
 refine Y ?_
 refine Bc E E zU fun b0=>?_
 refine Am E FE zU fun b1=>?_
 refine V (AH (Y (J E (AT E E (AF E SN (AG 2 QT E (Z E BO (V ?_))))))))
 refine AN h E (fun hc1 h=>?_) fun hc1 h=>?_
 obtain rfl:=zI h
 refine Y (CB [] E OC OB FE zT E (A8 0 E E E E EX E E E zT (V (AL (Ac ?_)))))
 exact Ag (Ie E (CC 0 (B0 ⟨0,[]⟩) DD E E E E)) (Af (M:=_::_::C a q) ⟨E,vo,a,E⟩ fun _ hw=>BW.pick (H:=[_,_,_,_]) hw [2,3] 4 E)
 refine AE h fun e he h=>?_
 refine AJ (AI (Y (As [vI x.kind,AA x.cx,AA x.cy,vI x.lev,v4,v5,AA x.npage,vS x.ntag] E Wz E E (Aj 1 E) (AP 0 nU (XM he hs4 hs5) E (J E (Ae E E E (Ae E E E (U E (U E (V (Y ?_)))))))))))
 refine Am E FE zU fun b2=>?_
 refine V ?_
 refine BB (α:=BV×Int×σ×Value) (fun w=>X0 e.1 p (w.1,w.2.1,w.2.2.1)=some r) (fun w=>[(0,vP bp 0),(4,vP b1 0),(5,vS e.1),(6,vI w.2.1),(7,vP b2 0)])
  (fun w=>AK b2 (.cells #[AA w.1.page,vS w.1.tag] 188)::AK b1 (.cells #[AA 0,vS []] 188)::La bp (.func (.func fid) #[] cs) vo p::AC 190 3 vo AU p.out::(C w.2.2.2 w.2.2.1++H)) ?_ (fun w D h=>?_)
 refine Y (J E (Z E Bg (V ?_)))
 refine AN h E (fun hc2 h=>?_) fun hc2 h=>?_
 refine AE h fun w hw1 h=>?_
 refine AS (J E (AT E E (AF E ky (AG 3 rO E (J E ?_)))))
 refine SL.heap (H':=C a q++([_,_,_,_,_]++H)) ?_ (fun _ hw=>GA (A:=[_,_,_,_,_]) (B:=C a q) (R:=H) hw)
 refine Bd (vs:=[_]) (Hin:=C a q) (Hr:=[_,_,_,_,_]++H) E E ⟨E,zT⟩ hcal E E (hwh K w0 _ a q e.1 w hS hw1) ?_
 rintro _ _ ⟨rfl,a1,rfl⟩
 refine⟨trivial,?_⟩
 refine SL.heap ?_ (fun _ hw=>GA (A:=C a1 w.2) (B:=[_,_,_,_,_]) (R:=H) hw)
 refine J E (Ae E E E (Ae E E E (A8 0 E E E E EX E E E zT (U E (Aa ?_)))))
 exact Ap (w.1.1,w.1.2,w.2,a1) h tL (BR [0,1,3,4] 5 E E E)
 refine AJ ?_
 exact Ap (⟨0,[]⟩,e.2,q,a) h tL (BR [0,1,3,4] 5 E E E)
 obtain⟨w,we,q1,a1⟩:=w
 unfold X0 at h
 dsimp only at h
 try dsimp only
 refine AH (Y (J E (Z E BO (V ?_))))
 refine AN h E (fun hc3 h=>?_) fun hc3 h=>?_
 obtain rfl:=zI h
 refine Y (J E (J E (AT E E (AF E SN (A8 2 E E E E dW E E E zT (V (Y (CB [] E OC OB FE zT E (A8 1 E E E E EX E E E zT (V (AL (Ac ?_))))))))))))
 exact Ag (Ie E (CC 1 (B0 ⟨0,[]⟩) DD E E E E)) (Af (M:=_::_::C a1 q1) ⟨E,vo,a1,E⟩ fun _ hw=>BW.pick (H:=[_,_,_,_]) hw [2,3] 4 E)
 refine AE h fun l hl h=>?_
 obtain rfl:=zI h
 refine AJ (AI (AH (Aw DG [0,2] (CM [(true,0),(true,1),(true,2),(true,3),(true,4),(true,5),(true,6),(true,7),(false,8),(false,9),(true,10),(true,11)] (.last 12 .nil)) zK (J E (J E (AT E E (AF E Xh (AG 1 QU E (J E (As (B0 w) E DD E E (Aj 0 E) ?_))))))))))
 refine CB [_,_] E lJ lH PM ⟨E,E,zT⟩ E ?_
 refine CD [_] rfl KW KV PM ⟨rfl,trivial⟩ rfl rfl rfl zW rfl rfl (fun _=>⟨⟨1,rfl⟩,⟨3,rfl⟩,trivial⟩) fun b3=>?_
 refine CF AU 3 ([(⟨e.1,w.page,w.tag⟩:BL)]:List BL) E zV E ?_
 refine Cr 4 hl (sz:=3) (enc:=AU) zV E KW KV kD PM E zD E E E E (CH (sz:=3) (enc:=AU) 0 zV E) (by simp[AU,Value.oneCell']) (fun _=>⟨⟨1,E⟩,⟨3,E⟩,zT⟩) fun v3=>?_
 refine AT E E (AF E Xh (Bh ?_))
 refine C1 4 E fun hv3 ho3=>?_
 refine Du 3 E E E E lm hv3 ho3 E zT (V (Y (As (B0 w) E DD E E (Aj 1 E) (A8 2 E E E E EX E E E zT (V (AL ?_))))))
 exact Ag (Ie E (CC 2 (B0 w) DD E E E E)) (Af (M:=_::_::C a1 q1) ⟨E,v3,a1,E⟩ fun _ hw=>BW.pick (H:=[_,_,_,_,_]) hw [3,4] 5 E)
end

section
variable {K:Nat→Prop}{w0:World}{H:List AY}
abbrev L0:=Wy×List Ao
def JC(a:L0):List Value:=[a.1.val]
def SW(b off:Nat)(l:List Ao)(i:Nat):L0:=
 (⟨some ⟨b,off+4*i*4,none⟩,min (4*i+4) l.length-4*i,min (4*i+4) l.length-4*i⟩,(l.drop (4*i)).take (min (4*i+4) l.length-4*i))
def KR(b off:Nat)(l:List Ao)(n:Nat):List L0:=(List.range n).map (SW b off l)
def LK(b off:Nat)(l:List Ao):List L0:=KR b off l ((l.length+3) / 4)
theorem cU{b off n cap:Nat}{l:List Ao}(h:B9 K w0 AW 4 (.slice (some ⟨b,off,none⟩) n cap) l):∀a∈LK b off l,B9 K w0 AW 4 a.1.val a.2:=by
 intro a ha
 obtain⟨i,hi,rfl⟩:=List.mem_map.1 ha
 have hi':=List.mem_range.1 hi
 exact h.piece (4*i) (min (4*i+4) l.length) zO zO
theorem Yf(b off:Nat)(l:List Ao)(n:Nat):KR b off l (n+1)=KR b off l n++[SW b off l n]:=by
 simp[KR,List.range_succ]
theorem XW(b off:Nat)(l:List Ao)(k:Nat)(h:4*k<l.length):∃suf,LK b off l=KR b off l k++SW b off l k::suf:=by
 obtain⟨m,hm⟩:∃m,(l.length+3) / 4=k+1+m:=⟨(l.length+3) / 4-(k+1),by omega⟩
 refine⟨(List.range m).map fun j=>SW b off l (k+1+j),?_⟩
 rw[LK,hm,KR,List.range_add,List.map_append,List.map_map,List.range_succ,List.map_append,List.append_assoc]
 rfl
theorem dH{b1 b2 b off cap:Nat}{l:List Ao}{G0:List AY}(hl:l.length≤1048576)(hs:B9 K w0 AW 4 (.slice (some ⟨b,off,none⟩) l.length cap) l)(hcap:l.length≤cap):
  N0 Tryz.prog K w0 209 [vP b1 0,vP b2 0] [AK b1 (.cells #[.slice (some ⟨b,off,none⟩) l.length cap] 37),AK b2 (.cells #[vI 4] 3)] G0 JC (LK b off l):=by
 intro lp J9 X T rc hy h0
 refine Td.enter Tryz.func209 rfl rfl ?_
 show SX _ _ _ _ _ _ _ _ _ (AK b1 (.cells #[.slice (some ⟨b,off,none⟩) l.length cap] 37)::AK b2 (.cells #[vI 4] 3)::((rc::G0)++T))
 refine Y (U E (V (AQ ?_)))
 refine SX.mono (BG (α:=Nat×List AY) (fun x=>4*x.1≤l.length+3∧J9 (KR b off l x.1) x.2) (fun x=>[(0,vY lp),(1,vP b1 0),(2,vP b2 0),(4,vI ((4*x.1:Nat):Int))])
  (fun x=>AK b1 (.cells #[.slice (some ⟨b,off,none⟩) l.length cap] 37)::AK b2 (.cells #[vI 4] 3)::(x.2++T)) (fun x=>l.length-x.1) (fun x D hp=>?_) (0,rc::G0) ⟨by omega,h0⟩) tL
 obtain⟨k,G⟩:=x
 obtain⟨hk,hJ⟩:=hp
 dsimp only at hk hJ ⊢
 refine AH (Y (J E (AG 0 FY E (ID E C3 E (Z E BA (V ?_))))))
 refine Ax E (fun hc1=>?_) (fun hc1=>?_)
 have hlt:4*k<l.length:=by
  have:=of_decide_eq_true hc1
  omega
 clear hc1
 obtain⟨suf,hsp⟩:=XW b off l k hlt
 refine AJ (AI (AH (AQ (AH (Aw DG [0,1] (C4 [(true,0),(true,1),(true,2),(true,3),(true,4),(true,5),(true,6)]) zK (AG 1 FJ E (AG 0 FY E (J E (Wu (4*k) E C3 Dh E E E zO zO (ID E C3 E (Ws E E E (U E (V (Y ?_))))))))))))))
 refine J E (AG 0 FY E (J E (J E (J E (Z E (Be zO zO) (J E (J E ?_)))))))
 refine Z E (Be zO zO) (mg (4*k) (min (4*k+4) l.length) E C3 Dh E E E E E zO zO zO zO ?_)
 refine HU (M2:=[_,_]) (G:=G) (T:=T) (vs:=[_]) (ok:=fun G1=>J9 (KR b off l (k+1)) G1) (no:=X) E E ⟨E,zT⟩ E ?_ (fun bb G1 hG1=>⟨zT,?_⟩)
 intro M
 have:=hy (KR b off l k) (SW b off l k) suf hsp G hJ M
 rw[←Yf]at this
 exact this
 refine CY E E (V ?_)
 refine Ax E (fun hc3=>?_) (fun hc3=>?_)
 obtain rfl:bb=false:=by simpa using hc3
 refine AL (BC (Ac (EE (BC ?_))))
 exact Ag (Dg E) (Af (M:=G1) (.inr hG1) fun _ h=>h.skip [_,_])
 obtain rfl:bb=true:=by simpa using hc3
 refine AJ (An (AI (AS (J E (AG 1 FJ E (Z E (Be zO zO) ?_))))))
 refine Ak (u:=vI ((4*(k+1):Nat):Int)) E E (congrArg vI zO) ?_
 refine Aa ?_
 exact Av (k+1,G1) ⟨by omega,hG1⟩ (by dsimp only;omega) tL (BR [0,1] 2 E E E)
 have hge:l.length≤4*k:=by
  have:=of_decide_eq_false hc1
  omega
 have hkk:(l.length+3) / 4=k:=zO
 refine Ay (A6 (Ba (A9 ?_)))
 exact DE (Dg E) (Af (M:=G) (.inl (by rw[LK,hkk];exact hJ)) fun _ h=>h.skip [_,_])
end

section
variable {K:Nat→Prop}{w0:World}{H:List AY}
theorem d9{α:Type}{by_:Nat}{xs:List α}{x:α}(h:xs.length+1≤1048576)(hb:by_≤1024):DK by_ xs [x]=some (xs++[x]):=by
 have h1:(xs.length+1)*by_≤1048576*1024:=Nat.mul_le_mul h hb
 rw[DK,if_pos ⟨by simp only[List.length_cons,List.length_nil,Nat.zero_add];omega,by simp only[List.length_cons,List.length_nil,Nat.zero_add];omega⟩]
theorem ib(a:L0)(u:Value)(h:u∈JC a):u.oneCell'=true:=by
 obtain rfl:u=a.1.val:=by simpa[JC]using h
 rfl
theorem mF{v:Value}:zC K w0 164 [v,vI 4] [] H (fun u M=>∃b1 b2:Nat,u=.func (.func 209) #[] #[vP b1 0,vP b2 0]∧M=[AK b1 (.cells v.cells 37),AK b2 (.cells #[vI 4] 3)]):=by
 refine Td.enter Tryz.func164 rfl rfl ?_
 refine Y ?_
 refine Bc E E zU fun b1=>?_
 refine Bc E E zU fun b2=>?_
 refine U E (V (AH (Y (AG 0 FJ E (Z E BA (V (C0 E (AJ (AI (Y ?_))))))))))
 refine G8 (fv:=#[]) (cv:=#[_,_]) E E E ?_
 refine U E (V (AL ?_))
 exact Bi [1,0] 2 (Cl E E) E E ⟨_,_,E,E⟩
theorem bP{f:FuncId}{cap:List Value}{Hit:List AY}{xs:List L0}(hcal:AM Tryz.prog f=true)(hn:xs.length≤1048576)(hseq:∀G0,N0 Tryz.prog K w0 f cap Hit G0 JC xs):
  zC K w0 208 [.slice none 0 0,.func (.func f) #[] cap.toArray] Hit H (fun u M=>∃v0:Value,u=v0∧M=[AC 37 1 v0 JC xs]):=by
 refine Td.enter Tryz.func208 rfl rfl ?_
 refine Y ?_
 refine Bc E E zU fun b0=>?_
 refine U E (V (cA 37 1 JC (SX.pick [1,0] 2 (AH (Y (J E (V (AQ ?_))))))))
 refine SX.heap (MH (enc:=JC) xs (G0:=AK b0 (.cells #[zN] 268)::AC 37 1 zN JC []::H) (fun pre G=>∃vr:Value,G=AK b0 (.cells #[vr] 268)::AC 37 1 vr JC pre::H) (fun _ _=>False) E hcal E zV (hseq _) E ⟨_,E⟩ (fun pre x suf G hxs hJ r lp Rest=>?_) (fun G D hJ=>?_) (fun c G D hX=>hX.elim)) (fun _ hw=>GA (A:=[_,_]) (B:=Hit) (R:=H) hw)
 obtain⟨vr,rfl⟩:=hJ
 have hlen:pre.length+1≤1048576:=by
  have:=congrArg List.length hxs
  simp only[List.length_append,List.length_cons]at this
  omega
 refine AS (U E (Aa ?_))
 refine Kb (G:=AK b0 (.cells #[vr] 268)::AC 37 1 vr JC pre::H) ?_
 refine AQ (AS (AG 0 bC E (J E ?_)))
 refine CD [_] rfl Vg JR dm ⟨rfl,trivial⟩ rfl rfl rfl (by intro v hv;simp only[List.mem_cons,List.not_mem_nil,or_false]at hv;rcases hv with rfl;rfl) rfl rfl zU fun b1=>?_
 refine CF JC 1 ([x]:List L0) E zV E ?_
 refine Cr 2 (d9 hlen (by decide:24≤1024)) (sz:=1) (enc:=JC) zV E Vg JR sJ dm E zD E E E E (CH (sz:=1) (enc:=JC) 0 zV E) ib zU fun v3=>?_
 refine C1 2 E fun hv3 ho3=>?_
 refine Du 1 E E E E rV hv3 ho3 E zT (Aa (An ?_))
 exact IE ⟨v3,E⟩ (BR [1,2] 3 E E E)
 obtain⟨vr,rfl⟩:=hJ
 refine An (AI (Y (AG 0 bC E (U E (V (AL ?_))))))
 exact Bi [1] 2 (Cl E E) E E ⟨_,E,E⟩
theorem fY{f:FuncId}{cap:List Value}{Hit:List AY}{xs:List L0}(hcal:AM Tryz.prog f=true)(hn:xs.length≤1048576)(hseq:∀G0,N0 Tryz.prog K w0 f cap Hit G0 JC xs):
  zC K w0 163 [.func (.func f) #[] cap.toArray] Hit H (fun u M=>∃v0:Value,u=v0∧M=[AC 37 1 v0 JC xs]):=by
 refine Td.enter Tryz.func163 rfl rfl ?_
 refine Y (U E (V (Y (J E ?_))))
 refine Bd (vs:=[_,_]) (Hin:=Hit) (Hr:=_) E E ⟨E,E,zT⟩ nw E E (bP hcal hn hseq) ?_
 rintro v1 _ ⟨_,rfl,rfl⟩
 refine⟨trivial,?_⟩
 refine U E (V (AL ?_))
 exact Bi [0] 1 (Cl E E) E E ⟨_,E,E⟩
end

section
variable {K:Nat→Prop}{w0:World}{H:List AY}
def E4{α:Type}(xs:List α):List (Int×α):=(xs.zipIdx.map fun p=>((p.2:Int),p.1)).reverse
theorem JT{α:Type}(xs:List α):(E4 xs).length=xs.length:=by simp[E4]
theorem W4{α:Type}(xs:List α)(k:Nat)(h:k<xs.length):(E4 xs)[k]'(by rw[JT];exact h)=(((xs.length-1-k:Nat):Int),xs[xs.length-1-k]' zO):=by
 simp[E4,List.getElem_reverse,List.getElem_map,List.getElem_zipIdx]
theorem ZJ{α:Type}(ys:List α)(k:Nat)(h:k<ys.length):ys=ys.take k++ys[k]::ys.drop (k+1):=by
 rw[←List.drop_eq_getElem_cons h,List.take_append_drop]
theorem YD{α:Type}(ys:List α)(k:Nat)(h:k<ys.length):ys.take k++[ys[k]]=ys.take (k+1):=by
 rw[List.take_add_one,List.getElem?_eq_getElem h]
 rfl
def kg(a:Int×L0):List Value:=[vI a.1,a.2.1.val]
theorem oy{bx:Nat}{va:Value}{xs:List L0}{G0:List AY}(hn:xs.length≤1048576):
  N0 Tryz.prog K w0 210 [vP bx 0] [AK bx (.cells #[va] 268),AC 37 1 va JC xs] G0 kg (E4 xs):=by
 intro lp J9 X T rc hy h0
 refine Td.enter Tryz.func210 rfl rfl ?_
 show SX _ _ _ _ _ _ _ _ _ (AK bx (.cells #[va] 268)::AC 37 1 va JC xs::((rc::G0)++T))
 refine Y ?_
 refine C1 1 E fun hva hoa=>?_
 refine AG 0 bC E (DW 1 E Vg E E (Z E (Dz zO zO) (U E (V (AQ ?_)))))
 refine SX.mono (BG (α:=Nat×List AY) (fun x=>x.1≤xs.length∧J9 ((E4 xs).take x.1) x.2) (fun x=>[(0,vY lp),(1,vP bx 0),(3,vI ((xs.length:Int)-1-(x.1:Int)))])
  (fun x=>AK bx (.cells #[va] 268)::AC 37 1 va JC xs::(x.2++T)) (fun x=>xs.length-x.1) (fun x D hp=>?_) (0,rc::G0) ⟨Nat.zero_le _,h0⟩) (by simpa using tL)
 obtain⟨k,G⟩:=x
 obtain⟨hk,hJ⟩:=hp
 dsimp only at hk hJ ⊢
 refine AH (Y (J E (Z E LH (V ?_))))
 refine Ax E (fun hc1=>?_) (fun hc1=>?_)
 have hlt:k<xs.length:=by
  have:=of_decide_eq_true hc1
  omega
 clear hc1
 have hb:k<(E4 xs).length:=by rw[JT];exact hlt
 have hget:=W4 xs k hlt
 have hx:BE xs ((xs.length:Int)-1-(k:Int))=some (xs[xs.length-1-k]' zO):=by
  rw[BE,if_pos zO,show((xs.length:Int)-1-(k:Int)).toNat=xs.length-1-k by omega]
  exact List.getElem?_eq_getElem _
 refine AJ (AI (AH (AQ (Y (J E (J E (AG 0 bC E (J E ?_))))))))
 refine CI 1 hx E Vg JR E E E fun g1 m1 cp1 hv1=>?_
 refine Bv E FY E (CA (sz:=1) (enc:=JC) 1 0 zV E hv1 hx E) ?_
 refine HU (M2:=[_,_]) (G:=G) (T:=T) (vs:=[_,_]) (ok:=fun G1=>J9 ((E4 xs).take (k+1)) G1) (no:=X) E E ⟨E,E,zT⟩ E ?_ (fun bb G1 hG1=>⟨zT,?_⟩)
 intro M
 have:=hy ((E4 xs).take k) ((E4 xs)[k]) ((E4 xs).drop (k+1)) (ZJ _ k hb) G hJ M
 rw[YD _ k hb,hget]at this
 rw[show((xs.length:Int)-1-(k:Int))=((xs.length-1-k:Nat):Int) by omega]
 exact this
 refine CY E E (V ?_)
 refine Ax E (fun hc3=>?_) (fun hc3=>?_)
 obtain rfl:bb=false:=by simpa using hc3
 refine AL (BC (Ac (EE (BC ?_))))
 exact Ag (Dg E) (Af (M:=G1) (.inr hG1) fun _ h=>h.skip [_,_])
 obtain rfl:bb=true:=by simpa using hc3
 refine AJ (An (AI (AS (J E (Z E (Dz zO zO) ?_)))))
 refine Ak (u:=vI ((xs.length:Int)-1-((k+1:Nat):Int))) E E (congrArg vI zO) ?_
 refine Aa ?_
 exact Av (k+1,G1) ⟨hlt,hG1⟩ (by dsimp only;omega) tL (BR [0,1] 2 E E E)
 have hge:k=xs.length:=by
  have:=of_decide_eq_false hc1
  omega
 subst hge
 rw[List.take_of_length_le (by rw[JT];exact Nat.le_refl _)]at hJ
 refine Ay (A6 (Ba (A9 ?_)))
 exact DE (Dg E) (Af (M:=G) (.inl hJ) fun _ h=>h.skip [_,_])
theorem pJ{va:Value}(hva:va.cells=#[va]):zC K w0 165 [va] [] H (fun u M=>∃bx:Nat,u=.func (.func 210) #[] #[vP bx 0]∧M=[AK bx (.cells #[va] 268)]):=by
 refine Td.enter Tryz.func165 rfl rfl ?_
 refine Y ?_
 refine Bc E E zU fun b1=>?_
 rw[hva]
 refine U E (V (Y ?_))
 refine G8 (fv:=#[]) (cv:=#[_]) E E E ?_
 refine U E (V (AL ?_))
 exact Bi [0] 1 (Cl E E) E E ⟨_,E,E⟩
end

section
variable {K:Nat→Prop}{w0:World}{H:List AY}
theorem W5{α:Type}(xs:List α):(E4 xs).map (·.2)=xs.reverse:=by
 rw[E4,List.map_reverse,List.map_map]
 congr 1
 have:((fun x:Int×α=>x.2)∘fun p:α×Nat=>((p.2:Int),p.1))=Prod.fst:=rfl
 rw[this,List.zipIdx_map_fst]
def Ok(v:Value)(l:List Ao):List L0:=
 match v,l with
 | _,[]=>[(⟨none,0,0⟩,[])]
 | .slice (some a) _ _,l=>LK a.block a.off l
 | _,l=>[]
theorem VD(v:Value):Ok v []=[(⟨none,0,0⟩,[])]:=by cases v<;>rfl
theorem Ol{b off n c:Nat}{l:List Ao}(h:l≠[]):Ok (.slice (some ⟨b,off,none⟩) n c) l=LK b off l:=by
 cases l with
 | nil=>exact absurd rfl h
 | cons _ _=>rfl
theorem j5{v:Value}{l:List Ao}(h:B9 K w0 AW 4 v l):∀a∈Ok v l,B9 K w0 AW 4 a.1.val a.2:=by
 by_cases hl:l=[]
 subst hl
 rw[VD]
 intro a ha
 obtain rfl:=List.mem_singleton.1 ha
 exact⟨h.len,.inl ⟨_,rfl,rfl⟩⟩
 rcases h.at_ with⟨_,_,e⟩ | ⟨b,off,cap,rfl,hc,hcell⟩
 exact absurd e hl
 rw[Ol hl]
 exact cU h
theorem ZC{b1 b2:Nat}{a:Option Addr}{G0:List AY}:
  N0 Tryz.prog K w0 209 [vP b1 0,vP b2 0] [AK b1 (.cells #[.slice a 0 0] 37),AK b2 (.cells #[vI 4] 3)] G0 JC []:=by
 intro lp J9 X T rc hy h0
 refine Td.enter Tryz.func209 rfl rfl ?_
 show SX _ _ _ _ _ _ _ _ _ (AK b1 (.cells #[.slice a 0 0] 37)::AK b2 (.cells #[vI 4] 3)::((rc::G0)++T))
 refine Y (U E (V (AQ ?_)))
 refine SX.mono (BG (α:=Unit) (fun _=>True) (fun _=>[(0,vY lp),(1,vP b1 0),(2,vP b2 0),(4,vI 0)])
  (fun _=>AK b1 (.cells #[.slice a 0 0] 37)::AK b2 (.cells #[vI 4] 3)::((rc::G0)++T)) (fun _=>0) (fun x D hp=>?_) () trivial) tL
 refine AH (Y (J E (AG 0 FY E (ID E C3 E (Z E BA (V (C0 E (Ay (A6 (Ba (A9 ?_)))))))))))
 exact DE (Dg E) (Af (M:=rc::G0) (.inl h0) fun _ h=>h.skip [_,_])
def HZ(v:Value)(l:List Ao):List L0:=if l=[]then[]else Ok v l
theorem jC{b1 b2:Nat}{v:Value}{l:List Ao}(hl:l.length≤1048576)(hs:B9 K w0 AW 4 v l)(G0:List AY):
  N0 Tryz.prog K w0 209 [vP b1 0,vP b2 0] [AK b1 (.cells v.cells 37),AK b2 (.cells #[vI 4] 3)] G0 JC (HZ v l):=by
 by_cases h0:l=[]
 subst h0
 rw[HZ,if_pos rfl]
 rcases hs.at_ with⟨a,rfl,_⟩ | ⟨b,off,cap,rfl,_⟩
 exact ZC
 rcases hs.at_ with⟨a,e,_⟩ | ⟨b',off',cap',e,hc,hcell⟩
 rw[e]
 exact ZC
 have:=dH (G0:=G0) (b1:=b1) (b2:=b2) (cap:=cap) hl hs zS
 exact this
 rcases hs.at_ with⟨_,_,e⟩ | ⟨b,off,cap,rfl,hc,hcell⟩
 exact absurd e h0
 rw[HZ,if_neg h0,Ol h0]
 exact dH hl hs hc
theorem RR(b off:Nat)(l:List Ao):(LK b off l).length=(l.length+3) / 4:=by simp[LK,KR]
theorem WQ{v:Value}{l:List Ao}(hs:B9 K w0 AW 4 v l)(hl:l.length≤1048576):(HZ v l).length≤1048576:=by
 by_cases h0:l=[]
 rw[HZ,if_pos h0];simp
 rcases hs.at_ with⟨_,_,e⟩ | ⟨b,off,cap,rfl,hc,hcell⟩
 exact absurd e h0
 rw[HZ,if_neg h0,Ol h0,RR]
 omega
theorem W0{v:Value}{l:List Ao}(hs:B9 K w0 AW 4 v l):(if(HZ v l).length=0 then[((⟨none,0,0⟩:Wy),([]:List Ao))]else HZ v l)=Ok v l:=by
 by_cases h0:l=[]
 subst h0
 rw[HZ,if_pos rfl,VD]
 rfl
 rcases hs.at_ with⟨_,_,e⟩ | ⟨b,off,cap,rfl,hc,hcell⟩
 exact absurd e h0
 have hp:0<l.length:=List.length_pos_iff.2 h0
 rw[HZ,if_neg h0,Ol h0,if_neg (by rw[RR];omega)]
end

section
variable {K:Nat→Prop}{w0:World}{H:List AY}
theorem B9.one{α:Type}{enc:α→List Value}{sz:Nat}{v:Value}{xs:List α}(h:B9 K w0 enc sz v xs):v.cells=#[v]:=by
 rcases h.at_ with⟨_,rfl,_⟩ | ⟨_,_,_,rfl,_⟩<;>rfl
theorem jD{bx:Nat}{v:Value}{l:List Ao}{G0:List AY}(hl:l.length≤1048576)(hs:B9 K w0 AW 4 v l):
  N0 Tryz.prog K w0 162 [vP bx 0] [AK bx (.cells #[v] 37)] G0 JC (Ok v l).reverse:=by
 intro lp J9 X T rc hy h0
 refine Td.enter Tryz.func162 rfl rfl ?_
 show SX _ _ _ _ _ _ _ _ _ (AK bx (.cells #[v] 37)::((rc::G0)++T))
 have hlen:=WQ hs hl
 refine Y ?_
 refine Bc E E zU fun b0=>?_
 refine V (Y (AG 1 FY E (BS 0 nX mF E ?_)))
 rintro _ _ ⟨b1,b2,rfl,rfl⟩
 refine Bd (vs:=[_]) (Hin:=[_,_]) (Hr:=_::_::_) E E ⟨E,zT⟩ nW E E (fY (cap:=[vP b1 0,vP b2 0]) ny hlen (fun G0=>jC hl hs G0)) ?_
 rintro va _ ⟨_,rfl,rfl⟩
 refine⟨trivial,?_⟩
 refine U E (V ?_)
 refine BB (α:=Value×List L0) (fun x=>x.2=Ok v l) (fun x=>[(0,vY lp),(2,vP b0 0),(3,x.1)]) (fun x=>AC 37 1 x.1 JC x.2::AK b0 (.cells #[vY lp] 48)::((rc::G0)++T)) ?_ (fun x D hx=>?_)
 refine Y (J E (DW 0 E Vg E E (Z E Bg (V ?_))))
 refine Ax E (fun hc1=>?_) (fun hc1=>?_)
 have hz:(HZ v l).length=0:=by
  have:=of_decide_eq_true hc1
  omega
 refine AS ?_
 refine CD [_] E Vg JR dm ⟨E,zT⟩ E E E zX E E zU fun b3=>?_
 refine CF JC 1 ([(⟨none,0,0⟩,[])]:List L0) E zV E ?_
 refine U E (Aa ?_)
 exact Ap (.slice (some ⟨b3,0,none⟩) 1 1,[(⟨none,0,0⟩,[])]) (show([(⟨none,0,0⟩,[])]:List L0)=Ok v l by rw[←W0 hs,if_pos hz]) tL (BR [0,2] 4 E E E)
 have hz:¬(HZ v l).length=0:=by
  have:=of_decide_eq_false hc1
  omega
 refine AJ ?_
 exact Ap (va,HZ v l) (show HZ v l=Ok v l by rw[←W0 hs,if_neg hz]) tL (BR [0,1] 3 E E E)
 obtain⟨va,xs⟩:=x
 have hx:xs=Ok v l:=hx
 have hxn:xs.length≤1048576:=by
  rw[hx,←W0 hs]
  split
  simp
  exact hlen
 rw[←hx]at hy ⊢
 clear hx
 try dsimp only
 refine Y ?_
 refine Wt 0 E fun sv hsv=>?_
 refine J E ?_
 refine BS 0 nY (pJ (va:=va) (by rw[hsv];rfl)) E ?_
 rintro _ _ ⟨b4,rfl,rfl⟩
 refine V (AQ ?_)
 refine MH (enc:=kg) (E4 xs) (Hit:=[_,_]) (G0:=AK b0 (.cells #[vY lp] 48)::((rc::G0)++T)) (fun pre Gx=>∃G,J9 (pre.map (·.2)) G∧Gx=AK b0 (.cells #[vY lp] 48)::(G++T)) (fun c Gx=>c=.ret∧∃G,X G∧Gx=AK b0 (.cells #[vY lp] 48)::(G++T)) E nz E zV (oy hxn) E ⟨rc::G0,h0,E⟩ (fun pre x suf Gx hxs hJ r lr Rest=>?_) (fun Gx D hJ=>?_) (fun c Gx D hX=>?_)
 obtain⟨G,hJ,rfl⟩:=hJ
 refine AS (U E (Aa ?_))
 refine Kb (G:=AK b0 (.cells #[vY lp] 48)::(G++T)) ?_
 refine AQ (Y (AG 0 si E (J E ?_)))
 refine HU (M2:=[AK b0 (.cells #[vY lp] 48)]) (G:=G) (T:=T++Tl r lr Rest .busy) (vs:=[_]) (ok:=fun G1=>J9 ((pre++[x]).map (·.2)) G1) (no:=X) E E ⟨E,zT⟩ (by simp[List.append_assoc]) ?_ (fun bb G1 hG1=>⟨zT,?_⟩)
 intro M
 have hsp:xs.reverse=pre.map (·.2)++x.2::suf.map (·.2):=by
  rw[←W5,hxs,List.map_append,List.map_cons]
 have:=hy (pre.map (·.2)) x.2 (suf.map (·.2)) hsp G hJ M
 rw[List.map_append,List.map_cons,List.map_nil]
 exact this
 refine CY E E (V ?_)
 refine Ax E (fun hc2=>?_) (fun hc2=>?_)
 obtain rfl:bb=false:=by simpa using hc2
 refine AL (BC ?_)
 exact ju ⟨E,G1,hG1,E⟩ (fun _ hw=>by simpa[List.append_assoc]using hw)
 obtain rfl:bb=true:=by simpa using hc2
 refine AJ (An ?_)
 exact IE ⟨G1,hG1,E⟩ (fun _ hw=>by simpa[List.append_assoc]using hw)
 obtain⟨G,hJ,rfl⟩:=hJ
 rw[W5]at hJ
 refine An ?_
 exact DE (Dg E) (Af (M:=G) (.inl hJ) fun _ h=>h.skip [_])
 obtain⟨rfl,G,hX,rfl⟩:=hX
 refine AL (BC ?_)
 exact Ag (Dg E) (Af (M:=G) (.inr hX) fun _ h=>h.skip [_])
theorem jV{v:Value}(hv:v.cells=#[v]):zC K w0 131 [v] [] H (fun u M=>∃bx:Nat,u=.func (.func 162) #[] #[vP bx 0]∧M=[AK bx (.cells #[v] 37)]):=by
 refine Td.enter Tryz.func131 rfl rfl ?_
 refine Y ?_
 refine Bc E E zU fun b1=>?_
 rw[hv]
 refine U E (V (Y ?_))
 refine G8 (fv:=#[]) (cv:=#[_]) E E E ?_
 refine U E (V (AL ?_))
 exact Bi [0] 1 (Cl E E) E E ⟨_,E,E⟩
end

section
variable {K:Nat→Prop}{w0:World}{H:List AY}
theorem EN.mid:∀ {Hs A B R:List AY},EN Hs A→EN Hs (B++(A++R))
 | [],_,_,_,_=>trivial
 | c::r,A,B,R,⟨⟨i,hi⟩,h⟩=>⟨⟨B.length+i,by
   have hlt:=(List.getElem?_eq_some_iff.1 hi).1
   rw[List.getElem?_append_right zO,Nat.add_sub_cancel_left,List.getElem?_append_left hlt,hi]⟩,EN.mid h⟩
theorem dt{k:AY}{A B R M:List AY}{w:World}(h:BW K w0 ((k::(A++(B++R)))++M) w):BW K w0 ((k::(B++(A++R)))++M) w:=by
 refine h.perm (List.Perm.append_right _ (List.Perm.cons _ ?_))
 rw[←List.append_assoc,←List.append_assoc]
 exact List.Perm.append_right _ List.perm_append_comm
theorem Wx{α:Type}{enc:α→List Value}{sz:Nat}(hl:∀x,(enc x).length=sz):B9 K w0 enc sz zN []:=⟨hl,.inl ⟨_,rfl,rfl⟩⟩
def N9(l:List Ao):List (List Ao):=if l=[]then[[]]else(List.range ((l.length+3) / 4)).map fun i=>(l.drop (4*i)).take (min (4*i+4) l.length-4*i)
theorem cC{v:Value}{l:List Ao}(h:B9 K w0 AW 4 v l):(Ok v l).map (·.2)=N9 l:=by
 by_cases hl:l=[]
 subst hl
 rw[VD]
 rfl
 rcases h.at_ with⟨_,_,e⟩ | ⟨b,off,cap,rfl,hc,hcell⟩
 exact absurd e hl
 rw[Ol hl,N9,if_neg hl,LK,KR,List.map_map]
 rfl
def Ky{σ:Type}(rec_:Ca→K7→σ→Option (BV×(K7×σ))):List Ca→K7→σ→List BV→Option (List BV×(K7×σ))
 | [],p,q,acc=>some (acc,(p,q))
 | k::ks,p,q,acc=>(rec_ k p q).bind fun y=>(DK 24 acc [y.1]).bind fun acc'=>Ky rec_ ks y.2.1 y.2.2 acc'
def OX{σ:Type}(n:Nat)(wh:WH σ):List (List Ao)→BV→K7→σ→Option (BV×(K7×σ))
 | [],r,p,q=>some (r,(p,q))
 | l::ls,r,p,q=>(Jv n wh ⟨1,0,0,0,l,[],r.page,r.tag⟩ p q).bind fun y=>cond (!decide (y.2.1.wrong=0)) (some y) (OX n wh ls y.1 y.2.1 y.2.2)
def IC{σ:Type}(n:Nat)(wh:WH σ):Nat→Ca→K7→σ→Option (BV×(K7×σ))
 | 0,_,_,_=>none
 | f+1,t,p,q=>if 1048576<t.rows.length∨1048576<t.kids.length then none else cond (decide (0<(t.kids.length:Int)))
   ((Ky (IC n wh f) t.kids p q []).bind fun y=>Jv n wh ⟨2,t.cx,t.cy,t.lev,[],y.1,0,[]⟩ y.2.1 y.2.2)
   (OX n wh (N9 t.rows).reverse ⟨0,[]⟩ p q)
theorem RM{σ:Type}{C:Value→σ→List AY}{wh:WH σ}{fid:FuncId}{cs:Array Value}{T:List UInt32}{n bp:Nat}(hcal:AM Tryz.prog fid=true)(hwh:dz T fid cs C wh):
  ∀(f:Nat) {K:Nat→Prop} {w0:World} {H:List AY} {vo ca:Value} {a:Fm} {t:Ca} {p:K7} {q:σ} {r:BV×(K7×σ)},GF K w0 T→IC n wh f t p q=some r→PR K w0 a t→
  zC K w0 94 [vP bp 0,.agg (Cx a).toArray] (La bp (.func (.func fid) #[] cs) vo p::AC 190 3 vo AU p.out::C ca q) H
   (fun u M=>u=.agg (B0 r.1).toArray∧∃vo' ca',M=La bp (.func (.func fid) #[] cs) vo' r.2.1::AC 190 3 vo' AU r.2.1.out::C ca' r.2.2)
 | 0,K,w0,H,vo,ca,a,t,p,q,r,hS,h,hN=>by cases h
 | f+1,K,w0,H,vo,ca,a,t,p,q,r,hS,h,hN=>by
  have h:(if 1048576<t.rows.length∨1048576<t.kids.length then none else cond (decide (0<(t.kids.length:Int)))
   ((Ky (IC n wh f) t.kids p q []).bind fun y=>Jv n wh ⟨2,t.cx,t.cy,t.lev,[],y.1,0,[]⟩ y.2.1 y.2.2)
   (OX n wh (N9 t.rows).reverse ⟨0,[]⟩ p q))=some r:=h
  split at h
  cases h
  rename_i hbig
  have hrl:t.rows.length≤1048576:=zO
  have hkl:t.kids.length≤1048576:=zO
  clear hbig
  obtain⟨rv,kv,rfl,hr,hk⟩:=hN.parts
  refine Td.enter Tryz.func94 rfl rfl ?_
  show SX _ _ _ _ _ _ _ _ _ (La bp (.func (.func fid) #[] cs) vo p::AC 190 3 vo AU p.out::(C ca q++H))
  refine Y ?_
  refine Bc E E zU fun b0=>?_
  refine Bc E E zU fun b1=>?_
  refine Am E FE zU fun b2=>?_
  refine V (Kd (AH (Y (AF E KL (AG 1 T5 E (Yj hk E OD E (Z E Cq (V ?_))))))))
  refine AN h E (fun hc1 h=>?_) fun hc1 h=>?_
  refine Y (AF rfl QP (As [AA t.cx,AA t.cy,vI t.lev] rfl FZ rfl rfl (Cp 1 rfl (by rintro(_ | (_ | (_ | j))) u hj<;>first | exact hj | exact absurd hj zS)) (CB [_,_] rfl fA e9 bT ⟨rfl,rfl,trivial⟩ rfl ?_)))
  refine Am E bT zU fun b3=>?_
  refine A8 0 E E E E rT E E E zT (Nl 0 (AK b3 (.cells #[vI 2,AA t.cx,AA t.cy,vI t.lev,zN,zN,AA 0,vS []] 238)) (B8 188 2 B0 (V (AH (Y (AF E KL (AG 3 T5 E (Yj hk E OD E (J E (V (AQ ?_)))))))))))
  refine SX.heap (SX.mono (BG (α:=Nat×List BV×Value×K7×σ×Value×Value) (fun x=>x.1≤t.kids.length∧((Ky (IC n wh f) (t.kids.drop x.1) x.2.2.2.1 x.2.2.2.2.1 x.2.1).bind fun y=>Jv n wh ⟨2,t.cx,t.cy,t.lev,[],y.1,0,[]⟩ y.2.1 y.2.2)=some r)
   (fun x=>[(2,vP b0 0),(4,vP b2 0),(5,vP b3 0),(18,kv.val),(19,vI (t.kids.length:Int)),(20,vI (x.1:Int))])
   (fun x=>AK b3 (.cells #[vI 2,AA t.cx,AA t.cy,vI t.lev,zN,x.2.2.1,AA 0,vS []] 238)::AC 188 2 x.2.2.1 B0 x.2.1::AK b2 (.cells #[AA 0,vS []] 188)::AK b0 (.cells #[vP bp 0] 191)::La bp (.func (.func fid) #[] cs) x.2.2.2.2.2.1 x.2.2.2.1::AC 190 3 x.2.2.2.2.2.1 AU x.2.2.2.1.out::(C x.2.2.2.2.2.2 x.2.2.2.2.1++H))
   (fun x=>t.kids.length-x.1) (fun x D hp=>?_) (0,[],zN,p,q,vo,ca) ⟨Nat.zero_le _,h⟩) tL) (BR [1,0,2,4,5,6] 7 rfl rfl rfl)
  clear h
  obtain⟨i,ks,vk,p1,q1,vo1,ca1⟩:=x
  obtain⟨hi,h⟩:=hp
  dsimp only at hi h ⊢
  refine Y (Z E BA (V (AH ?_)))
  refine Ax E (fun hc2=>?_) (fun hc2=>?_)
  have hlt:i<t.kids.length:=by
   have:=of_decide_eq_true hc2
   omega
  clear hc2
  have hnth:BE t.kids (i:Int)=some t.kids[i]:=by
   rw[BE,if_pos zO]
   exact List.getElem?_eq_getElem hlt
  rw[List.drop_eq_getElem_cons hlt,Ky]at h
  refine AE h fun z hz h=>?_
  obtain⟨y,hy,hz⟩:=Ek hz
  obtain⟨ac,hac,hz⟩:=Ek hz
  have h2:((Ky (IC n wh f) (t.kids.drop (i+1)) y.2.1 y.2.2 ac).bind fun y=>Jv n wh ⟨2,t.cx,t.cy,t.lev,[],y.1,0,[]⟩ y.2.1 y.2.2)=some r:=by
   rw[hz];exact h
  refine AJ (AI (AH (AQ (Y ?_))))
  refine jg hnth hk E OD If E E fun b5 of5 rv5 kv5 hr5 hk5 hc5=>?_
  obtain⟨rs5,rfl⟩:=hr5.slv
  obtain⟨kk5,hk51,hk52⟩:=hk5
  obtain⟨ks5,rfl⟩:=hk51.slv
  have hN5:PR K w0 ⟨t.kids[i].cx,t.kids[i].cy,t.kids[i].lev,rs5,ks5⟩ t.kids[i]:=du hr5 ⟨kk5,hk51,hk52⟩
  refine As [AA t.kids[i].cx,AA t.kids[i].cy,vI t.kids[i].lev,rs5.val,ks5.val] E NI E E (DS hc5) ?_
  refine Am E Ii zU fun b4=>?_
  refine A8 0 E E E E If E E E zT (Nl 0 (AK b4 (.cells #[AA t.kids[i].cx,AA t.kids[i].cy,vI t.kids[i].lev,rs5.val,ks5.val] 167)) (V (Aw DG [0,1,4] (CM [(true,0),(true,1),(true,2),(true,3),(false,4),(false,5),(false,6),(true,7)] (.last 8 .nil)) zK (AF E Fu (AG 1 LE E (AG 2 bB E (As [AA t.kids[i].cx,AA t.kids[i].cy,vI t.kids[i].lev,rs5.val,ks5.val] E NI E E (Aj 0 E) ?_)))))))
  refine SL.heap ?_ (fun _ hw=>GA (A:=[AK b4 (.cells #[AA t.kids[i].cx,AA t.kids[i].cy,vI t.kids[i].lev,rs5.val,ks5.val] 167),AK b3 (.cells #[vI 2,AA t.cx,AA t.cy,vI t.lev,zN,vk,AA 0,vS []] 238),AC 188 2 vk B0 ks,AK b2 (.cells #[AA 0,vS []] 188),AK b0 (.cells #[vP bp 0] 191)]) (B:=La bp (.func (.func fid) #[] cs) vo1 p1::AC 190 3 vo1 AU p1.out::C ca1 q1) (R:=H) hw)
  have hcon:=RM (bp:=bp) hcal hwh f (ca:=ca1) (K:=K) (w0:=w0) (H:=([AK b4 (.cells #[AA t.kids[i].cx,AA t.kids[i].cy,vI t.kids[i].lev,rs5.val,ks5.val] 167),AK b3 (.cells #[vI 2,AA t.cx,AA t.cy,vI t.lev,.slice none 0 0,vk,AA 0,vS []] 238),AC 188 2 vk B0 ks,AK b2 (.cells #[AA 0,vS []] 188),AK b0 (.cells #[vP bp 0] 191)]++H)++[BT D]) (vo:=vo1) hS hy hN5
  generalize hpo:(fun(u:Value) (M:List AY)=>u=.agg (B0 y.1).toArray∧∃vo' ca',M=La bp (.func (.func fid) #[] cs) vo' y.2.1::AC 190 3 vo' AU y.2.1.out::C ca' y.2.2)=po at hcon
  refine Bd (vs:=[_,_]) (Hin:=La bp (.func (.func fid) #[] cs) vo1 p1::AC 190 3 vo1 AU p1.out::C ca1 q1) (Hr:=[AK b4 (.cells #[AA t.kids[i].cx,AA t.kids[i].cy,vI t.kids[i].lev,rs5.val,ks5.val] 167),AK b3 (.cells #[vI 2,AA t.cx,AA t.cy,vI t.lev,zN,vk,AA 0,vS []] 238),AC 188 2 vk B0 ks,AK b2 (.cells #[AA 0,vS []] 188),AK b0 (.cells #[vP bp 0] 191)]++H) E E ⟨E,E,zT⟩ ke E E hcon ?_
  intro u0 M0 hpost
  rw[←hpo]at hpost
  obtain⟨rfl,vo2,ca2,rfl⟩:=hpost
  refine⟨EN.mid (A:=[AK b4 (.cells #[AA t.kids[i].cx,AA t.kids[i].cy,vI t.kids[i].lev,rs5.val,ks5.val] 167),AK b3 (.cells #[vI 2,AA t.cx,AA t.cy,vI t.lev,zN,vk,AA 0,vS []] 238),AC 188 2 vk B0 ks,AK b2 (.cells #[AA 0,vS []] 188),AK b0 (.cells #[vP bp 0] 191)]) ⟨⟨0,rfl⟩,⟨1,rfl⟩,⟨4,rfl⟩,trivial⟩,?_⟩
  refine SL.heap ?_ (fun _ hw=>GA (A:=La bp (.func (.func fid) #[] cs) vo2 y.2.1::AC 190 3 vo2 AU y.2.1.out::C ca2 y.2.2) (B:=[AK b4 (.cells #[AA t.kids[i].cx,AA t.kids[i].cy,vI t.kids[i].lev,rs5.val,ks5.val] 167),AK b3 (.cells #[vI 2,AA t.cx,AA t.cy,vI t.lev,zN,vk,AA 0,vS []] 238),AC 188 2 vk B0 ks,AK b2 (.cells #[AA 0,vS []] 188),AK b0 (.cells #[vP bp 0] 191)]) (R:=H) hw)
  refine CD [_] rfl I8 EX FE ⟨rfl,trivial⟩ rfl rfl rfl zW rfl rfl (fun _=>⟨⟨1,rfl⟩,⟨2,rfl⟩,⟨5,rfl⟩,trivial⟩) fun b6=>?_
  refine CF B0 2 ([y.1]:List BV) E zV E ?_
  refine Cr 3 hac (sz:=2) (enc:=B0) zV E I8 EX pq FE E zD E E E E (CH (sz:=2) (enc:=B0) 0 zV E) (by simp[B0,Value.oneCell']) (fun _=>⟨⟨1,E⟩,⟨2,E⟩,⟨5,E⟩,zT⟩) fun v6=>?_
  refine AF E Fu (Bh ?_)
  refine C1 3 E fun hv6 ho6=>?_
  refine Du 2 E E E E rS hv6 ho6 E zT (Aa (An (AI (AS (Z E (Be zO zO) (J E (Aa ?_)))))))
  exact Av (i+1,ac,v6,y.2.1,y.2.2,vo2,ca2) ⟨hlt,h2⟩ (by dsimp only;omega) tL (BR [2,3,4,5] 6 E E E)
  have hge:i=t.kids.length:=by
   have:=of_decide_eq_false hc2
   omega
  subst hge
  rw[List.drop_length,Ky]at h
  replace h:Jv n wh ⟨2,t.cx,t.cy,t.lev,[],ks,0,[]⟩ p1 q1=some r:=h
  refine Ay (A6 (Ba (A9 (AI (SX.pick [1,0,2,3] 4 (Y (AG 3 bB E (As [vI 2,AA t.cx,AA t.cy,vI t.lev,zN,vk,AA 0,vS []] E Wz E E (Aj 1 E) ?_))))))))
  refine SL.heap ?_ (fun _ hw=>dt (A:=[AK b3 (.cells #[vI 2,AA t.cx,AA t.cy,vI t.lev,zN,vk,AA 0,vS []] 238),AK b2 (.cells #[AA 0,vS []] 188),AK b0 (.cells #[vP bp 0] 191)]) (B:=(La bp (.func (.func fid) #[] cs) vo1 p1::AC 190 3 vo1 AU p1.out::C ca1 q1)) (R:=H) hw)
  have hcon:=Cm (K:=K) (w0:=w0) (H:=([AK b3 (.cells #[vI 2,AA t.cx,AA t.cy,vI t.lev,.slice none 0 0,vk,AA 0,vS []] 238),AK b2 (.cells #[AA 0,vS []] 188),AK b0 (.cells #[vP bp 0] 191)]++H)++[BT D]) (f:=130) (B:=[AC 188 2 vk B0 ks]) (Hin:=(La bp (.func (.func fid) #[] cs) vo1 p1::AC 190 3 vo1 AU p1.out::C ca1 q1)) fun K' w1 hkk hB=>RN (bp:=bp) (a:=ca1) (vo:=vo1) (v4:=.slice none 0 0) (v5:=vk) hcal hwh (hS.keeps hkk) h (Wx zV) (CT (e:=188) (v:=vk) zV (hB _ zS))
  refine Bd (vs:=[_,_]) (Hin:=AC 188 2 vk B0 ks::(La bp (.func (.func fid) #[] cs) vo1 p1::AC 190 3 vo1 AU p1.out::C ca1 q1)) (Hr:=[AK b3 (.cells #[vI 2,AA t.cx,AA t.cy,vI t.lev,zN,vk,AA 0,vS []] 238),AK b2 (.cells #[AA 0,vS []] 188),AK b0 (.cells #[vP bp 0] 191)]++H) E E ⟨E,E,zT⟩ gE E E hcon ?_
  rintro _ _ ⟨_,rfl,rfl,vo2,ca2,rfl⟩
  refine⟨trivial,?_⟩
  refine SL.heap ?_ (fun _ hw=>GA (A:=AC 188 2 vk B0 ks::La bp (.func (.func fid) #[] cs) vo2 r.2.1::AC 190 3 vo2 AU r.2.1.out::C ca2 r.2.2) (B:=[AK b3 (.cells #[vI 2,AA t.cx,AA t.cy,vI t.lev,zN,vk,AA 0,vS []] 238),AK b2 (.cells #[AA 0,vS []] 188),AK b0 (.cells #[vP bp 0] 191)]) (R:=H) hw)
  refine A8 1 E E E E EX E E E zT (V (AL (Ac (EM ?_))))
  exact Ag (Ie E (CC 1 (B0 r.1) DD E E E E)) (Af (M:=La bp (.func (.func fid) #[] cs) vo2 r.2.1::AC 190 3 vo2 AU r.2.1.out::C ca2 r.2.2) ⟨E,vo2,ca2,E⟩ fun _ hw=>BW.pick (H:=[_,_,_,_]) hw [] 4 E)
  refine AJ (AI (Y ?_))
  refine Am E FE zU fun b3=>?_
  refine V (AH (Kc (AI (AH (Y (AF E SM (AG 2 FY E (BS 0 nH (jV hr.one) E ?_))))))))
  rintro _ _ ⟨bx,rfl,rfl⟩
  refine V (AQ ?_)
  have h0:OX n wh (((Ok rv.val t.rows).reverse).map (·.2)) ⟨0,[]⟩ p q=some r:=by
   rw[List.map_reverse,cC hr];exact h
  refine SX.heap (MH (enc:=JC) (Ok rv.val t.rows).reverse (G0:=(AK b3 (.cells #[AA 0,vS []] 188)::AK b2 (.cells #[AA 0,vS []] 188)::AK b0 (.cells #[vP bp 0] 191)::La bp (.func (.func fid) #[] cs) vo p::AC 190 3 vo AU p.out::(C ca q++H))) (fun pre G=>∃(x:BV) (p1:K7) (q1:σ) (vo1 ca1:Value),(∀suf,(Ok rv.val t.rows).reverse=pre++suf→OX n wh (suf.map (·.2)) x p1 q1=some r)∧G=(AK b3 (.cells #[AA x.page,vS x.tag] 188)::AK b2 (.cells #[AA 0,vS []] 188)::AK b0 (.cells #[vP bp 0] 191)::La bp (.func (.func fid) #[] cs) vo1 p1::AC 190 3 vo1 AU p1.out::(C ca1 q1++H))) (fun c G=>c=.exit 2∧∃vo1 ca1:Value,G=(AK b3 (.cells #[AA r.1.page,vS r.1.tag] 188)::AK b2 (.cells #[AA 0,vS []] 188)::AK b0 (.cells #[vP bp 0] 191)::La bp (.func (.func fid) #[] cs) vo1 r.2.1::AC 190 3 vo1 AU r.2.1.out::(C ca1 r.2.2++H))) E nV E zV (jD hrl hr) E ⟨⟨0,[]⟩,p,q,vo,ca,fun suf e=>by rw[←show(Ok rv.val t.rows).reverse=suf from e];exact h0,E⟩ (fun pre x suf G hxs hJ lr lp Rest=>?_) (fun G D hJ=>?_) (fun c G D hX=>?_)) (BR [0,1,2,4,5,6] 7 E E E)
  obtain⟨w,p1,q1,vo1,ca1,h,rfl⟩:=hJ
  have h1:=h (x::suf) hxs
  rw[List.map_cons,OX]at h1
  obtain⟨y,hy,h1⟩:=Ek h1
  have hx:B9 K w0 AW 4 x.1.val x.2:=j5 hr x (List.mem_reverse.1 (by rw[hxs];simp))
  refine AS (U E (Aa ?_))
  refine Kb (G:=AK b3 (.cells #[AA w.page,vS w.tag] 188)::AK b2 (.cells #[AA 0,vS []] 188)::AK b0 (.cells #[vP bp 0] 191)::La bp (.func (.func fid) #[] cs) vo1 p1::AC 190 3 vo1 AU p1.out::(C ca1 q1++H)) ?_
  refine AQ (Y (AG 2 bB E (J E (As (B0 w) E DD E E (Aj 0 E) (CB [_,_,_] E fA e9 bT ⟨E,E,E,zT⟩ E ?_)))))
  refine SL.heap ?_ (fun _ hw=>GA (A:=[AK b3 (.cells #[AA w.page,vS w.tag] 188),AK b2 (.cells #[AA 0,vS []] 188),AK b0 (.cells #[vP bp 0] 191)]) (B:=(La bp (.func (.func fid) #[] cs) vo1 p1::AC 190 3 vo1 AU p1.out::C ca1 q1)) (R:=(H++Tl lr lp Rest .busy)) (by simp only[List.append_assoc,List.cons_append,List.nil_append]at hw ⊢;exact hw))
  have hcon:=RN (K:=K) (w0:=w0) (H:=([AK b3 (.cells #[AA w.page,vS w.tag] 188),AK b2 (.cells #[AA 0,vS []] 188),AK b0 (.cells #[vP bp 0] 191)]++(H++Tl lr lp Rest .busy))++[BT []]) (bp:=bp) (a:=ca1) (vo:=vo1) (v4:=x.1.val) (v5:=.slice none 0 0) hcal hwh hS hy hx (Wx zV)
  refine Bd (vs:=[_,_]) (Hin:=(La bp (.func (.func fid) #[] cs) vo1 p1::AC 190 3 vo1 AU p1.out::C ca1 q1)) (Hr:=[AK b3 (.cells #[AA w.page,vS w.tag] 188),AK b2 (.cells #[AA 0,vS []] 188),AK b0 (.cells #[vP bp 0] 191)]++(H++Tl lr lp Rest .busy)) E E ⟨E,E,zT⟩ gE E E hcon ?_
  rintro _ _ ⟨rfl,vo2,ca2,rfl⟩
  refine⟨trivial,?_⟩
  refine SL.heap ?_ (fun _ hw=>GA (A:=(La bp (.func (.func fid) #[] cs) vo2 y.2.1::AC 190 3 vo2 AU y.2.1.out::C ca2 y.2.2)) (B:=[AK b3 (.cells #[AA w.page,vS w.tag] 188),AK b2 (.cells #[AA 0,vS []] 188),AK b0 (.cells #[vP bp 0] 191)]) (R:=(H++Tl lr lp Rest .busy)) hw)
  refine A8 0 E E E E EX E E E zT (Nl 0 (AK b3 (.cells #[AA y.1.page,vS y.1.tag] 188)) (V (Y (AG 2 bB E (AT E E (AF E SN (AG 3 QT E (Z E BO (V ?_)))))))))
  have hheap:∀w1:World,BW K w0 ((AK b3 (.cells #[AA y.1.page,vS y.1.tag] 188)::AK b2 (.cells #[AA 0,vS []] 188)::AK b0 (.cells #[vP bp 0] 191)::((La bp (.func (.func fid) #[] cs) vo2 y.2.1::AC 190 3 vo2 AU y.2.1.out::C ca2 y.2.2)++(H++Tl lr lp Rest .busy)))) w1→BW K w0 ((AK b3 (.cells #[AA y.1.page,vS y.1.tag] 188)::AK b2 (.cells #[AA 0,vS []] 188)::AK b0 (.cells #[vP bp 0] 191)::La bp (.func (.func fid) #[] cs) vo2 y.2.1::AC 190 3 vo2 AU y.2.1.out::(C ca2 y.2.2++H))++Tl lr lp Rest .busy) w1:=by
   intro w1 hw
   simp only[List.append_assoc,List.cons_append]at hw ⊢
   exact hw
  refine AN h1 E (fun hc3 h1=>?_) fun hc3 h1=>?_
  obtain rfl:=zI h1
  refine Ay (HV ?_)
  exact Nm ⟨E,vo2,ca2,E⟩ hheap
  refine AJ (An ?_)
  exact IE ⟨y.1,y.2.1,y.2.2,vo2,ca2,fun suf' e=>by rw[Wj hxs e];exact h1,E⟩ hheap
  obtain⟨x,p1,q1,vo1,ca1,h,rfl⟩:=hJ
  replace h:=h [] (List.append_nil _).symm
  obtain rfl:(x,(p1,q1))=r:=zI h
  refine An (AI (Y (As (B0 x) E DD E E (Aj 0 E) (A8 1 E E E E EX E E E zT (V (AL (EM ?_)))))))
  exact Ag (Ie E (CC 1 (B0 x) DD E E E E)) (Af (M:=_::_::C ca1 q1) ⟨E,vo1,ca1,E⟩ fun _ hw=>BW.pick (H:=[_,_,_]) hw [] 3 E)
  obtain⟨rfl,vo1,ca1,rfl⟩:=hX
  refine Ay (A9 (AI (Y (As (B0 r.1) E DD E E (Aj 0 E) (A8 1 E E E E EX E E E zT (V (AL (EM ?_))))))))
  exact Ag (Ie E (CC 1 (B0 r.1) DD E E E E)) (Af (M:=_::_::C ca1 r.2.2) ⟨E,vo1,ca1,E⟩ fun _ hw=>BW.pick (H:=[_,_,_]) hw [] 3 E)
end

section
theorem Qy(l:List Ao):(N9 l).length=max 1 ((l.length+3) / 4):=by
 unfold N9
 split
 rename_i h;subst h;rfl
 rename_i h
 have:=List.length_pos_iff.2 h
 simp
 omega
theorem eg{l p:List Ao}(h:p∈N9 l):p.length≤4∧p.Sublist l:=by
 unfold N9 at h
 split at h
 rename_i hl
 subst hl
 simp only[List.mem_singleton]at h
 subst h
 exact⟨by simp,List.Sublist.refl _⟩
 obtain⟨i,_,rfl⟩:=List.mem_map.1 h
 exact⟨by simp;omega,(List.take_sublist ..).trans (List.drop_sublist ..)⟩
theorem WC{l p:List Ao}(h:E2 l=true)(hs:p.Sublist l):E2 p=true:=by
 unfold E2 at h ⊢
 simp only[Bool.and_eq_true,decide_eq_true_eq]at h ⊢
 refine⟨⟨List.all_eq_true.2 fun r hr=>List.all_eq_true.1 h.1.1 r (hs.subset hr),(WE p).2 (((WE l).1 h.1.2).sublist hs)⟩,?_⟩
 have:=hs.length_le
 omega
abbrev af(l:List Ao)(r:BV):Dc:=⟨1,0,0,0,l,[],r.page,r.tag⟩
abbrev Up(t:Ca)(rs:List BV):Dc:=⟨2,t.cx,t.cy,t.lev,[],rs,0,[]⟩
def bg:List (List Ao)→BV→List BL→BV→Prop
 | [],r0,seg,r=>seg=[]∧r=r0
 | l::ls,r0,seg,r=>∃r1 seg',I5 (af l r0)=true∧seg=⟨Qq (af l r0),r1.page,r1.tag⟩::seg'∧bg ls r1 seg' r
def fi(R:Ca→List BL→BV→Prop):List Ca→List BL→List BV→Prop
 | [],seg,rs=>seg=[]∧rs=[]
 | k::ks,seg,rs=>∃s1 r1 s2 rs',R k s1 r1∧fi R ks s2 rs'∧seg=s1++s2∧rs=r1::rs'
def Wn:Nat→Ca→List BL→BV→Prop
 | 0,_,_,_=>False
 | f+1,t,seg,r=>(t.rows.length≤1000∧t.kids.length≤1000)∧((t.kids=[]∧bg (N9 t.rows).reverse ⟨0,[]⟩ seg r)∨(t.kids≠[]∧∃segs rs,fi (Wn f) t.kids segs rs∧I5 (Up t rs)=true∧seg=segs++[⟨Qq (Up t rs),r.page,r.tag⟩]))
def PA:Nat→Ca→Nat
 | 0,_=>0
 | f+1,t=>if t.kids.length=0 then max 1 ((t.rows.length+3) / 4)else(t.kids.map (PA f)).sum+1
theorem bg.len:∀ {ls:List (List Ao)} {r0 r:BV} {seg:List BL} ,bg ls r0 seg r→seg.length=ls.length
 | [],_,_,_,h=>by rw[h.1];rfl
 | _::_,_,_,_,h=>by
  obtain⟨r1,seg',_,e,h'⟩:=h
  rw[e,List.length_cons,bg.len h',List.length_cons]
theorem fi.len{R:Ca→List BL→BV→Prop}{g:Ca→Nat}(hg:∀k s r,R k s r→s.length=g k):∀ {ks:List Ca} {seg:List BL} {rs:List BV},fi R ks seg rs→seg.length=(ks.map g).sum∧rs.length=ks.length
 | [],_,_,h=>by rw[h.1,h.2];simp
 | k::ks,_,_,h=>by
  obtain⟨s1,r1,s2,rs',h1,h2,e1,e2⟩:=h
  have ih:=fi.len hg h2
  rw[e1,e2,List.length_append,hg _ _ _ h1,ih.1,List.length_cons,ih.2]
  simp
theorem Wn.len:∀(f:Nat) {t:Ca} {seg:List BL} {r:BV} ,Wn f t seg r→seg.length=PA f t
 | 0,_,_,_,h=>h.elim
 | f+1,t,seg,r,h=>by
  rcases h.2 with⟨h1,h2⟩ | ⟨h1,segs,rs,h2,_,e⟩
  rw[h2.len,PA,if_pos (by rw[h1];rfl),List.length_reverse,Qy]
  have h0:=List.length_pos_iff.2 h1
  rw[e,PA,if_neg zO,List.length_append,(fi.len (fun k s r hr=>Wn.len f hr) h2).1]
  rfl
def Wm{σ:Type}(wh:WH σ):σ→List BL→σ→Prop
 | q,[],q'=>q=q'
 | q,s::ss,q'=>∃q1,wh q s.txt=some ((⟨s.page,s.tag⟩,0),q1)∧Wm wh q1 ss q'
theorem Wm.join{σ:Type}{wh:WH σ}:∀ {a b:List BL} {q q1 q':σ},Wm wh q a q1→Wm wh q1 b q'→Wm wh q (a++b) q'
 | [],_,_,_,_,h,h'=>by cases h;exact h'
 | _::_,_,_,_,_,⟨q1,h1,h2⟩,h'=>⟨q1,h1,h2.join h'⟩
variable {σ:Type}{wh:WH σ}{n:Nat}
structure fy{σ:Type}(wh:WH σ)(Inv:σ→Prop)(Good:σ→BL→Prop)(room:σ→Nat):Prop where
 step:∀q s,Inv q→s.length≤198→∃r e q',wh q s=some ((r,e),q')∧Inv q'∧(∀x,Good q x→Good q' x)∧((e=0∧FD r=true∧Good q' ⟨s,r.page,r.tag⟩∧room q≤room q'+1)∨(e=110∧room q=0))
def iK(wh:WH σ)(Inv:σ→Prop)(Good:σ→BL→Prop)(room:σ→Nat)(k:Nat)(Run:List BL→Prop)(p:K7)(q:σ)(p':K7)(q':σ):Prop:=
 Inv q'∧(∀x,Good q x→Good q' x)∧((p'.wrong=0∧∃seg,p'.out=p.out++seg∧seg.length=k∧Run seg∧Wm wh q seg q'∧(∀x∈seg,Good q' x)∧room q≤room q'+k)∨(p'.wrong=110∧room q<k))
variable {Inv:σ→Prop}{Good:σ→BL→Prop}{room:σ→Nat}
theorem SV{x:Dc}{p:K7}{q:σ}(h:p.wrong≠0):Jv n wh x p q=some (⟨0,[]⟩,(p,q)):=by
 unfold Jv
 rw[zf h]
 rfl
theorem Xc{α:Type}(f:α→List UInt8)(m:Nat):∀(l:List α),(∀a∈l,(f a).length≤m)→(l.map f).flatten.length≤m*l.length
 | [],_=>by simp
 | a::l,h=>by
  have h1:=h a zS
  have h2:=Xc f m l (fun b hb=>h b (by simp[hb]))
  simp only[List.map_cons,List.flatten_cons,List.length_append,List.length_cons,Nat.mul_add,Nat.mul_one]
  omega
theorem ic{x:Dc}(h:I5 x=true):(Qq x).length≤198:=by
 unfold Qq
 by_cases hk:x.kind=1
 obtain⟨h1,h2,h3,h4,h5,h6,h7⟩:=Uu h hk
 have h32:x.ntag.length≤32:=by
  rcases h7 with h7 | h7
  rw[h7.2];simp
  have:=(PC h7).1
  simp only at this
  omega
 have:=Xc Ot 33 x.rows (fun r hr=>by rw[UW];have:=WD h6 r hr;omega)
 have h36:=OP (r:=⟨x.npage,x.ntag⟩) h32
 rw[show decide (x.kind=2)=false by rw[hk];rfl,CE]
 simp only[List.length_append,B6,h36]
 omega
 obtain⟨hk2,h1,h2,h3,h4,h5,h6,h7,h8⟩:=TY h hk
 have:=Xc LL 36 x.kids (fun r hr=>by rw[OP (by have:=(PC (h1 r hr)).1;omega)];exact Nat.le_refl _)
 rw[show decide (x.kind=2)=true by rw[hk2];rfl,Cz]
 simp only[List.length_append,B6]
 omega
theorem ZA(W:fy wh Inv Good room)(hn:10≤n){x:Dc}{p:K7}{q:σ}(h:I5 x=true)(hi:Inv q)(hw:p.wrong=0)(hb:p.out.length≤100000):
  ∃r p' q',Jv n wh x p q=some (r,(p',q'))∧(p'.wrong=0→FD r=true)∧iK wh Inv Good room 1 (fun seg=>seg=[⟨Qq x,r.page,r.tag⟩]) p q p' q':=by
 obtain⟨r,e,q',h1,h2,h3,h4⟩:=W.step q (Qq x) hi (ic h)
 unfold Jv
 rw[hw,show(!decide ((0:Int)=0))=false from rfl,CE,ec hn h,AB,show decide ((0:Int)=0)=true from rfl,Cz,h1,AB]
 unfold X0
 rcases h4 with⟨rfl,h5,h6,h7⟩ | ⟨rfl,h5⟩
 rw[show(!decide ((0:Int)=0))=false from rfl,CE,DX zQ zQ,AB]
 exact⟨r,_,q',rfl,fun _=>h5,h2,h3,.inl ⟨hw,_,rfl,rfl,rfl,⟨q',h1,rfl⟩,fun y hy=>by rw[List.mem_singleton.1 hy];exact h6,h7⟩⟩
 rw[show(!decide ((110:Int)=0))=true from rfl,Cz]
 exact⟨⟨0,[]⟩,_,q',rfl,fun h0=>absurd h0 (show ¬((110:Int)=0) by decide),h2,h3,.inr ⟨rfl,by omega⟩⟩
theorem ZF(W:fy wh Inv Good room)(hn:10≤n):∀(ls:List (List Ao)) (r0:BV) (p:K7) (q:σ),(∀l∈ls,l.length≤4∧E2 l=true)→(r0=⟨0,[]⟩∨FD r0=true)→Inv q→p.wrong=0→p.out.length+ls.length≤100000→
  ∃r p' q',OX n wh ls r0 p q=some (r,(p',q'))∧(p'.wrong=0→FD r=true∨(ls=[]∧r=r0))∧iK wh Inv Good room ls.length (fun seg=>bg ls r0 seg r) p q p' q'
 | [],r0,p,q,hl,h0,hi,hw,hb=>⟨r0,p,q,rfl,fun _=>.inr ⟨rfl,rfl⟩,hi,fun _ h=>h,.inl ⟨hw,[],by simp,rfl,⟨rfl,rfl⟩,rfl,by simp,by simp⟩⟩
 | l::ls,r0,p,q,hl,h0,hi,hw,hb=>by
  obtain⟨l4,lr⟩:=hl l zS
  simp only[List.length_cons]at hb
  have hok:I5 (af l r0)=true:=by
   unfold I5 af
   rw[show decide ((1:Int)=1)=true from rfl,Cz,lr]
   have:(SY ⟨r0.page,r0.tag⟩||FD ⟨r0.page,r0.tag⟩)=true:=by
    rcases h0 with rfl | h0
    rfl
    rw[show FD ⟨r0.page,r0.tag⟩=true from h0];simp
   rw[this]
   simp
   omega
  obtain⟨r1,p1,q1,e1,k1,i1,g1,s1⟩:=ZA W hn hok hi hw zO
  unfold OX
  rw[show Jv n wh ⟨1,0,0,0,l,[],r0.page,r0.tag⟩ p q=some (r1,(p1,q1))from e1,AB]
  rcases s1 with⟨w1,seg1,o1,le1,rfl,pa1,go1,ro1⟩ | ⟨w1,ro1⟩
  rw[w1,show(!decide ((0:Int)=0))=false from rfl,CE]
  obtain⟨r,p',q',e2,k2,i2,g2,s2⟩:=ZF W hn ls r1 p1 q1 (fun q hq=>hl q (by simp[hq])) (.inr (k1 w1)) i1 w1 (by rw[o1];simp;omega)
  refine⟨r,p',q',e2,fun h=>?_,i2,fun x hx=>g2 x (g1 x hx),?_⟩
  rcases k2 h with h | ⟨_,h⟩
  exact .inl h
  rw[h]
  exact .inl (k1 w1)
  rcases s2 with⟨w2,seg2,o2,le2,ru2,pa2,go2,ro2⟩ | ⟨w2,ro2⟩
  refine .inl ⟨w2,_::seg2,by rw[o2,o1];simp,by simp[le2],⟨r1,seg2,hok,rfl,ru2⟩,pa1.join pa2,fun x hx=>?_,?_⟩
  rcases List.mem_cons.1 hx with rfl | hx
  exact g2 _ (go1 _ zS)
  exact go2 x hx
  simp only[List.length_cons]
  omega
  exact .inr ⟨w2,by simp only[List.length_cons];omega⟩
  rw[w1,show(!decide ((110:Int)=0))=true from rfl,Cz]
  exact⟨r1,p1,q1,rfl,fun h=>absurd (w1.symm.trans h) zD,i1,g1,.inr ⟨w1,by simp only[List.length_cons];omega⟩⟩
theorem Tr.rows:∀ {f:Nat} {l:List Ao} {t:Ca} ,Tr f l t→t.rows.length≤l.length∧t.kids.length≤4
 | 0,_,_,h=>h.elim
 | f+1,l,t,h=>by
  rcases h with⟨rfl,rfl⟩ | ⟨_,c,L,A,⟨_,rfl⟩ | ⟨_,_,ks,rfl,hk⟩⟩
  simp[Ca.rows,Ca.kids]
  simp[Ca.rows,Ca.kids]
  have:=hk.length
  have:=X2 L l
  simp only[Ca.rows,Ca.kids,List.length_nil]
  omega
theorem ST{rec_:Ca→K7→σ→Option (BV×(K7×σ))}{p:K7}{q:σ}:∀(ks:List Ca) (acc:List BV),(∀k∈ks,∃r,rec_ k p q=some (r,(p,q)))→acc.length+ks.length≤1000→∃rs,Ky rec_ ks p q acc=some (acc++rs,(p,q))
 | [],acc,_,_=>⟨[],by simp[Ky]⟩
 | k::ks,acc,h,hb=>by
  simp only[List.length_cons]at hb
  obtain⟨r,hr⟩:=h k zS
  obtain⟨rs,h'⟩:=ST ks (acc++[r]) (fun j hj=>h j (by simp[hj])) zQ
  refine⟨r::rs,?_⟩
  unfold Ky
  rw[hr,AB,DX zQ zQ,AB,h']
  simp
theorem Vl.right{α β:Type}{R:α→β→Prop}{xs:List α}{ys:List β}(h:Vl R xs ys):∀y∈ys,∃x∈xs,R x y:=by
 induction h with
 | nil=>simp
 | cons h1 _ ih=>
  intro y hy
  rcases List.mem_cons.1 hy with rfl | hy
  exact⟨_,by simp,h1⟩
  obtain⟨x,hx,hR⟩:=ih y hy
  exact⟨x,by simp[hx],hR⟩
theorem V7{p:K7}{q:σ}(hw:p.wrong≠0):∀(f:Nat) {l:List Ao} {t:Ca},Tr f l t→l.length≤1000→∃r,IC n wh f t p q=some (r,(p,q))
 | 0,_,_,h,_=>h.elim
 | f+1,l,t,h,hl=>by
  have hb:=Tr.rows h
  unfold IC
  rw[if_neg zO]
  by_cases h0:0<(t.kids.length:Int)
  rw[zt h0,Cz]
  have hk:∀k∈t.kids,∃r,IC n wh f k p q=some (r,(p,q)):=by
   rcases h with⟨rfl,rfl⟩ | ⟨_,c,L,A,⟨_,rfl⟩ | ⟨_,_,ks,rfl,hk⟩⟩
   simp[Ca.kids]
   simp[Ca.kids]
   intro k hkm
   obtain⟨l',hl',hT⟩:=hk.right k hkm
   exact V7 hw f hT (by have:=(Q9 hl').length_le;omega)
  obtain⟨acc',h'⟩:=ST (rec_:=IC n wh f) t.kids [] hk zQ
  rw[h',AB,SV hw]
  exact⟨_,rfl⟩
  rw[zf h0,CE]
  rcases hls:(N9 t.rows).reverse with _ | ⟨x,ls⟩
  exact⟨_,rfl⟩
  unfold OX
  rw[SV hw,AB,zf hw]
  exact⟨_,rfl⟩
theorem Yy{rec_:Ca→K7→σ→Option (BV×(K7×σ))}{R:Ca→List BL→BV→Prop}{g:Ca→Nat}:∀(ks:List Ca) (acc:List BV) (p:K7) (q:σ),
  (∀k∈ks,∀p q,Inv q→p.wrong=0→p.out.length+g k≤100000→∃r p' q',rec_ k p q=some (r,(p',q'))∧(p'.wrong=0→FD r=true)∧iK wh Inv Good room (g k) (fun seg=>R k seg r) p q p' q')→
  (∀k∈ks,∀p q,p.wrong≠0→∃r,rec_ k p q=some (r,(p,q)))→Inv q→p.wrong=0→p.out.length+(ks.map g).sum≤100000→acc.length+ks.length≤1000→
  ∃rs p' q',Ky rec_ ks p q acc=some (acc++rs,(p',q'))∧(p'.wrong=0→∀r∈rs,FD r=true)∧iK wh Inv Good room (ks.map g).sum (fun seg=>fi R ks seg rs) p q p' q'
 | [],acc,p,q,_,_,hi,hw,_,_=>⟨[],p,q,by simp[Ky],by simp,hi,fun _ h=>h,.inl ⟨hw,[],by simp,rfl,⟨rfl,rfl⟩,rfl,by simp,by simp⟩⟩
 | k::ks,acc,p,q,hk,hkw,hi,hw,hb,ha=>by
  simp only[List.map_cons,List.sum_cons,List.length_cons]at hb ha
  obtain⟨r1,p1,q1,e1,k1,i1,g1,s1⟩:=hk k zS p q hi hw zO
  unfold Ky
  rw[e1,AB,DX zQ zQ,AB]
  rcases s1 with⟨w1,seg1,o1,le1,ru1,pa1,go1,ro1⟩ | ⟨w1,ro1⟩
  obtain⟨rs,p',q',e2,k2,i2,g2,s2⟩:=Yy ks (acc++[r1]) p1 q1 (fun j hj=>hk j (by simp[hj])) (fun j hj=>hkw j (by simp[hj])) i1 w1 (by rw[o1];simp;omega) zQ
  refine⟨r1::rs,p',q',by simpa using e2,fun h r hr=>?_,i2,fun x hx=>g2 x (g1 x hx),?_⟩
  rcases List.mem_cons.1 hr with rfl | hr
  exact k1 w1
  exact k2 h r hr
  rcases s2 with⟨w2,seg2,o2,le2,ru2,pa2,go2,ro2⟩ | ⟨w2,ro2⟩
  refine .inl ⟨w2,seg1++seg2,by rw[o2,o1];simp,by simp[le1,le2],⟨seg1,r1,seg2,rs,ru1,ru2,rfl,rfl⟩,pa1.join pa2,fun x hx=>?_,?_⟩
  rcases List.mem_append.1 hx with hx | hx
  exact g2 _ (go1 _ hx)
  exact go2 x hx
  simp only[List.map_cons,List.sum_cons]
  omega
  exact .inr ⟨w2,by simp only[List.map_cons,List.sum_cons];omega⟩
  obtain⟨acc',h'⟩:=ST (rec_:=rec_) (p:=p1) (q:=q1) ks (acc++[r1]) (fun j hj=>hkw j (by simp[hj]) p1 q1 (by rw[w1];decide)) zQ
  exact⟨r1::acc',p1,q1,by simpa using h',fun h=>absurd (w1.symm.trans h) zD,i1,g1,.inr ⟨w1,by simp only[List.map_cons,List.sum_cons];omega⟩⟩
theorem Y7(W:fy wh Inv Good room)(hn:10≤n):∀(f:Nat) (l:List Ao) (t:Ca) (p:K7) (q:σ),Tr f l t→E2 l=true→Inv q→p.wrong=0→p.out.length+PA f t≤100000→
  ∃r p' q',IC n wh f t p q=some (r,(p',q'))∧(p'.wrong=0→FD r=true)∧iK wh Inv Good room (PA f t) (fun seg=>Wn f t seg r) p q p' q'
 | 0,_,_,_,_,h,_,_,_,_=>h.elim
 | f+1,l,t,p,q,h,hr,hi,hw,hb=>by
  have hl:l.length≤1000:=by
   unfold E2 at hr
   simp only[Bool.and_eq_true,decide_eq_true_eq]at hr
   omega
  have hbd:=Tr.rows h
  have leaf:t.kids=[]→E2 t.rows=true→∃r p' q',IC n wh (f+1) t p q=some (r,(p',q'))∧(p'.wrong=0→FD r=true)∧iK wh Inv Good room (PA (f+1) t) (fun seg=>Wn (f+1) t seg r) p q p' q':=by
   intro hk hrr
   have hpg:PA (f+1) t=(N9 t.rows).reverse.length:=by rw[PA,if_pos (by rw[hk];rfl),List.length_reverse,Qy]
   obtain⟨r,p',q',e,k,i,g,s⟩:=ZF W hn (N9 t.rows).reverse ⟨0,[]⟩ p q (fun x hx=>by
    have:=eg (List.mem_reverse.1 hx)
    exact⟨this.1,WC hrr this.2⟩) (.inl rfl) hi hw zO
   refine⟨r,p',q',?_,fun h0=>?_,i,g,?_⟩
   unfold IC
   rw[if_neg zO,zf (by rw[hk];simp),CE]
   exact e
   rcases k h0 with h1 | ⟨h1,_⟩
   exact h1
   have:=congrArg List.length h1
   rw[List.length_reverse,Qy,List.length_nil]at this
   omega
   rw[hpg]
   rcases s with⟨w,seg,o,le,ru,pa,go,ro⟩ | s
   exact .inl ⟨w,seg,o,le,⟨⟨by omega,by omega⟩,.inl ⟨hk,ru⟩⟩,pa,go,ro⟩
   exact .inr s
  rcases h with⟨rfl,rfl⟩ | ⟨_,c,L,A,⟨_,rfl⟩ | ⟨h4,hL,ks,rfl,hk⟩⟩
  exact leaf rfl hr
  exact leaf rfl hr
  have hkl:=hk.length
  have hq4:=X2 L l
  have hq2:=(T3 A hL).1
  have hpg:PA (f+1) (.mk c.x c.y c.lev [] ks)=(ks.map (PA f)).sum+1:=by
   rw[PA,if_neg (by simp only[Ca.kids];omega)]
   rfl
  rw[hpg]at hb ⊢
  obtain⟨rs,p1,q1,e1,k1,i1,g1,s1⟩:=Yy (wh:=wh) (Inv:=Inv) (Good:=Good) (room:=room) (rec_:=IC n wh f) (R:=Wn f) (g:=PA f) ks [] p q (fun k hkm p q hi hw hb=>by
   obtain⟨l',hl',hT⟩:=hk.right k hkm
   exact Y7 W hn f l' k p q hT (WC hr (Q9 hl')) hi hw hb) (fun k hkm p q hw=>by
   obtain⟨l',hl',hT⟩:=hk.right k hkm
   exact V7 hw f hT (by have:=(Q9 hl').length_le;omega)) hi hw zO zQ
  have hrun:IC n wh (f+1) (.mk c.x c.y c.lev [] ks) p q=Jv n wh (Up (.mk c.x c.y c.lev [] ks) rs) p1 q1:=by
   unfold IC
   rw[if_neg zO,zt (by simp only[Ca.kids];omega),Cz,show(Ca.mk c.x c.y c.lev [] ks).kids=ks from rfl,e1,AB]
   rfl
  rw[hrun]
  rcases s1 with⟨w1,seg1,o1,le1,ru1,pa1,go1,ro1⟩ | ⟨w1,ro1⟩
  have hrl:=(fi.len (fun k s r hr=>Wn.len f hr) ru1).2
  have hok:I5 (Up (.mk c.x c.y c.lev [] ks) rs)=true:=by
   unfold I5 Up
   rw[show decide ((2:Int)=1)=false from rfl,CE,show decide ((2:Int)=2)=true from rfl,Cz]
   have h5:rs.all FD=true:=List.all_eq_true.2 (k1 w1)
   have h6:OO ⟨c.x,c.y,c.lev⟩=true:=A.ok
   have h7:=A.lev
   show(((rs.all FD&&decide ((([]:List Ao).length:Int)=0))&&SY ⟨0,[]⟩&&decide (2≤(rs.length:Int)))&&decide ((rs.length:Int)≤4)&&OO ⟨c.x,c.y,c.lev⟩&&decide (0<c.lev))=true
   rw[h5,h6,zt (show 2≤(rs.length:Int) by omega),zt (show(rs.length:Int)≤4 by omega),zt (show 0<c.lev by omega)]
   rfl
  obtain⟨r,p',q',e2,k2,i2,g2,s2⟩:=ZA W hn hok i1 w1 (by rw[o1];simp;omega)
  refine⟨r,p',q',e2,k2,i2,fun x hx=>g2 x (g1 x hx),?_⟩
  rcases s2 with⟨w2,seg2,o2,le2,rfl,pa2,go2,ro2⟩ | ⟨w2,ro2⟩
  refine .inl ⟨w2,seg1++[_],by rw[o2,o1];simp,by simp[le1],⟨⟨by simp[Ca.rows],by simp only[Ca.kids];omega⟩,.inr ⟨by
   intro e
   have:ks=[]:=e
   rw[this,List.length_nil]at hkl
   omega,seg1,rs,ru1,hok,rfl⟩⟩,pa1.join pa2,fun x hx=>?_,by omega⟩
  rcases List.mem_append.1 hx with hx | hx
  exact g2 _ (go1 _ hx)
  exact go2 x hx
  exact .inr ⟨w2,by omega⟩
  rw[SV (by rw[w1];decide)]
  exact⟨_,p1,q1,rfl,fun h=>absurd (w1.symm.trans h) zD,i1,g1,.inr ⟨w1,by omega⟩⟩
end

section
variable {K:Nat→Prop}{w0:World}{H:List AY}
def kh(a:Int×BL):List Value:=[vI a.1,.agg (AU a.2).toArray]
theorem lM{bx:Nat}{va:Value}{xs:List BL}{G0:List AY}(hn:xs.length≤1048576)(hs:B9 K w0 AU 3 va xs):
  N0 Tryz.prog K w0 127 [vP bx 0] [AK bx (.cells #[va] 88)] G0 kh (E4 xs):=by
 intro lp J9 X T rc hy h0
 refine Td.enter Tryz.func127 rfl rfl ?_
 show SX _ _ _ _ _ _ _ _ _ (AK bx (.cells #[va] 88)::((rc::G0)++T))
 refine Y (AG 0 QU E (B2 hs E KW E (Z E (Dz zO zO) (U E (V (AQ ?_))))))
 refine SX.mono (BG (α:=Nat×List AY) (fun x=>x.1≤xs.length∧J9 ((E4 xs).take x.1) x.2) (fun x=>[(0,vY lp),(1,vP bx 0),(3,vI ((xs.length:Int)-1-(x.1:Int)))])
  (fun x=>AK bx (.cells #[va] 88)::(x.2++T)) (fun x=>xs.length-x.1) (fun x D hp=>?_) (0,rc::G0) ⟨Nat.zero_le _,h0⟩) (by simpa using tL)
 obtain⟨k,G⟩:=x
 obtain⟨hk,hJ⟩:=hp
 dsimp only at hk hJ ⊢
 refine AH (Y (J E (Z E LH (V ?_))))
 refine Ax E (fun hc1=>?_) (fun hc1=>?_)
 have hlt:k<xs.length:=by
  have:=of_decide_eq_true hc1
  omega
 clear hc1
 have hb:k<(E4 xs).length:=by rw[JT];exact hlt
 have hget:=W4 xs k hlt
 have hx:BE xs ((xs.length:Int)-1-(k:Int))=some (xs[xs.length-1-k]' zO):=by
  rw[BE,if_pos zO,show((xs.length:Int)-1-(k:Int)).toNat=xs.length-1-k by omega]
  exact List.getElem?_eq_getElem _
 refine AJ (AI (AH (AQ (Y (J E (J E (AG 0 QU E (J E ?_))))))))
 refine C9 hx hs E KW KV E E fun be1 of1 hc1=>?_
 refine As (AU _) E Ro E E (DS hc1) ?_
 refine HU (M2:=[_]) (G:=G) (T:=T) (vs:=[_,_]) (ok:=fun G1=>J9 ((E4 xs).take (k+1)) G1) (no:=X) E E ⟨E,E,zT⟩ E ?_ (fun bb G1 hG1=>⟨zT,?_⟩)
 intro M
 have:=hy ((E4 xs).take k) ((E4 xs)[k]) ((E4 xs).drop (k+1)) (ZJ _ k hb) G hJ M
 rw[YD _ k hb,hget]at this
 rw[show((xs.length:Int)-1-(k:Int))=((xs.length-1-k:Nat):Int) by omega]
 exact this
 refine CY E E (V ?_)
 refine Ax E (fun hc3=>?_) (fun hc3=>?_)
 obtain rfl:bb=false:=by simpa using hc3
 refine AL (BC (Ac (EE (BC ?_))))
 exact Ag (Dg E) (Af (M:=G1) (.inr hG1) fun _ h=>h.skip [_])
 obtain rfl:bb=true:=by simpa using hc3
 refine AJ (An (AI (AS (J E (Z E (Dz zO zO) ?_)))))
 refine Ak (u:=vI ((xs.length:Int)-1-((k+1:Nat):Int))) E E (congrArg vI zO) ?_
 refine Aa ?_
 exact Av (k+1,G1) ⟨hlt,hG1⟩ (by dsimp only;omega) tL (BR [0] 1 E E E)
 have hge:k=xs.length:=by
  have:=of_decide_eq_false hc1
  omega
 subst hge
 rw[List.take_of_length_le (by rw[JT];exact Nat.le_refl _)]at hJ
 refine Ay (A6 (Ba (A9 ?_)))
 exact DE (Dg E) (Af (M:=G) (.inl hJ) fun _ h=>h.skip [_])
theorem mD{va:Value}(hva:va.cells=#[va]):zC K w0 91 [va] [] H (fun u M=>∃bx:Nat,u=.func (.func 127) #[] #[vP bx 0]∧M=[AK bx (.cells #[va] 88)]):=by
 refine Td.enter Tryz.func91 rfl rfl ?_
 refine Y ?_
 refine Bc E E zU fun b1=>?_
 rw[hva]
 refine U E (V (Y ?_))
 refine G8 (fv:=#[]) (cv:=#[_]) E E E ?_
 refine U E (V (AL ?_))
 exact Bi [0] 1 (Cl E E) E E ⟨_,E,E⟩
end

section
variable {K:Nat→Prop}{w0:World}{H:List AY}
end

section
variable {K:Nat→Prop}{w0:World}{H:List AY}
end

section
end

section
variable {K:Nat→Prop}{w0:World}{H:List AY}
end

section
variable {K:Nat→Prop}{w0:World}{H:List AY}
abbrev M8:={s:List UInt8 // s.length≤1048576}
def Vz(s:List UInt8):Option M8:=if h:s.length≤1048576 then some ⟨s,h⟩else none
theorem Xs{s:List UInt8}{k:M8}(h:Vz s=some k):k.1=s:=by
 unfold Vz at h
 split at h
 rw[←zI h]
 cases h
def Pq(k:M8):Value:=vS k.1
theorem dV{P:Program}{k:TypeId}(hk:P.underlying k=some .string)(a:M8):∃l,keyOf P k (Pq a)=some l:=by
 refine⟨.string a.1,?_⟩
 have:=a.2
 simp[keyOf,hk,mapKey,vS,Pq]
 show a.1.length≤maxLen
 simp[maxLen]
 omega
def SD(r:BV):Value:=.agg (B0 r).toArray
theorem UC{P:Program}{k:TypeId}(hk:P.underlying k=some .string):M9 P k Pq SD:=
 ⟨Maps.string_keyed hk,dV hk,⟨fun v=>match v with | .string b=>Vz b.data.toList | _=>none,fun x=>by
  show Vz x.1=some x
  unfold Vz
  rw[dif_pos x.2]⟩,⟨fun v=>match v with | .agg a=>(match a.toList with | [.int _ p,.string b]=>some ⟨UInt32.ofNat p.toNat,b.data.toList⟩ | _=>none) | _=>none,fun x=>by
  cases x
  simp[SD,B0,AA,vS]⟩⟩
structure OF where
 b:Nat
 rv:Value
 mt:Nat
 d:Nat
 bv:Value
 mp:Nat
 mb:Nat
abbrev KX(B:OF)(v:Az)(d:Ah):List AY:=
 [AK B.b (.cells #[vP B.d 0,B.rv,AA v.gen,AA v.boot,AV v.seals,.map (some B.mt)] 181),AC 114 2 B.rv AZ v.ring,Ab B.mt AA vB v.taken,AK B.d (.cells #[vB d.off,vB d.isCut,vI d.lasts,vI d.counts,B.bv,.map (some B.mp),.map (some B.mb),AV d.rcnt,vS d.rtag,AA d.rboots] 100),AC 9 1 B.bv eS d.blocks,Ab B.mp AA vS d.pend,Ab B.mb AA vB d.bad]
structure YM where
 tk:List UInt32
 v:Az
 d:Ah
abbrev Tb(bt bm bv bk:Nat)(B:OF)(th:List (M8×BV))(a:Value)(q:YM):List AY:=
 AK bt (.cells #[.map (some bm)] 183)::Ab bm Pq SD th::AK bv (.cells #[vP B.b 0] 92)::AK bk (.cells #[a] 120)::AC 33 1 a BQ q.tk::KX B q.v q.d
def Sb(T:List UInt32)(th:List (M8×BV)):WH YM:=fun q s=>
 (Vz s).bind fun k=>cond (C8 th k).isSome (some (((C8 th k).getD ⟨0,[]⟩,0),q))
  ((GW T q.v q.d s).bind fun y=>cond (decide (y.2.1=0)) ((DK 4 q.tk [y.1.page]).bind fun l=>some ((y.1,y.2.1),⟨l,y.2.2.1,y.2.2.2⟩)) (some ((y.1,y.2.1),⟨q.tk,y.2.2.1,y.2.2.2⟩)))
theorem kJ{T:List UInt32}{bt bm bv bk:Nat}{B:OF}{th:List (M8×BV)}:dz T 92 #[vP bt 0,vP bv 0,vP bk 0] (Tb bt bm bv bk B th) (Sb T th):=by
 intro K w0 H a q s r hS h
 unfold Sb at h
 refine AE h fun k hk h=>?_
 have hks:=Xs hk
 refine Td.enter Tryz.func92 rfl rfl ?_
 show SX _ _ _ _ _ _ _ _ _ (Tb bt bm bv bk B th a q++H)
 refine Y ?_
 refine Am E FE zU fun b0=>?_
 refine U E (V (AH (Y (AG 1 lW E (J E ?_)))))
 refine U8 (zv:=(⟨0,[]⟩:BV)) 2 (UC Ch) E lo FE E (by rw[←hks];rfl) E ?_
 refine J E (Ae E E E (Ae E E E ?_))
 refine Am E FE zU fun b1=>?_
 refine A8 0 E E E E EX E E E zT (Nl 0 (AK b1 (.cells #[AA ((C8 th k).getD ⟨0,[]⟩).page,vS ((C8 th k).getD ⟨0,[]⟩).tag] 188)) (U E (V (Y (J E (V ?_))))))
 refine AN h E (fun hc1 h=>?_) fun hc1 h=>?_
 obtain rfl:=zI h
 refine Y (As (B0 ((C8 th k).getD ⟨0,[]⟩)) E DD E E (Aj 0 E) (A8 1 E E E E EX E E E zT (U E (V (AL (Ac ?_))))))
 exact Ag (D7 E (CC 1 (B0 ((C8 th k).getD ⟨0,[]⟩)) DD E E E E) E) (Af (M:=Tb bt bm bv bk B th a q) ⟨E,a,E⟩ fun _ hw=>BW.pick (H:=[_,_]) hw [] 2 E)
 refine AE h fun y hy h=>?_
 refine AJ (AI (Y (AG 4 Sd E (J E ?_))))
 refine SL.heap (H':=KX B q.v q.d++([_,_,_,_,_,_,_]++H)) ?_ (fun _ hw=>GA (A:=[_,_,_,_,_,_,_]) (B:=KX B q.v q.d) (R:=H) hw)
 have hcon:=cR (K:=K) (w0:=w0) (H:=([AK b1 (.cells #[AA ((C8 th k).getD ⟨0,[]⟩).page,vS ((C8 th k).getD ⟨0,[]⟩).tag] 188),AK b0 (.cells #[AA 0,vS []] 188),AK bt (.cells #[.map (some bm)] 183),Ab bm Pq SD th,AK bv (.cells #[vP B.b 0] 92),AK bk (.cells #[a] 120),AC 33 1 a BQ q.tk]++H)++[BT []]) (Al:=B.b) (Ad:=B.rv) (A4:=B.mt) (BH:=B.d) (B5:=B.bv) (B3:=B.mp) (B4:=B.mb) hy hS
 refine Bd (vs:=[_,_]) (Hin:=KX B q.v q.d) (Hr:=[_,_,_,_,_,_,_]++H) E E ⟨E,E,zT⟩ qh E E hcon ?_
 rintro _ _ ⟨rfl,rfl⟩
 refine⟨trivial,?_⟩
 refine SL.heap (H':=[_,_,_,_,_,_,_]++(KX B y.2.2.1 y.2.2.2++H)) ?_ (fun _ hw=>GA (A:=KX B y.2.2.1 y.2.2.2) (B:=[_,_,_,_,_,_,_]) (R:=H) hw)
 refine J E (Ae E E E (Ae E E E ?_))
 refine Am E FE zU fun b2=>?_
 refine A8 0 E E E E EX E E E zT (Nl 0 (AK b2 (.cells #[AA y.1.page,vS y.1.tag] 188)) (U E (V ?_)))
 refine BB (α:=List UInt32×Value) (fun w=>some ((y.1,y.2.1),(⟨w.1,y.2.2.1,y.2.2.2⟩:YM))=some r) (fun w=>[(9,vP b2 0),(10,vI y.2.1),(5,vP b0 0)])
  (fun w=>AK b2 (.cells #[AA y.1.page,vS y.1.tag] 188)::AK b0 (.cells #[AA 0,vS []] 188)::(Tb bt bm bv bk B th w.2 ⟨w.1,y.2.2.1,y.2.2.2⟩++H)) ?_ (fun w D h=>?_)
 refine Y (J E (Z E Bg (V ?_)))
 refine AN h E (fun hc2 h=>?_) fun hc2 h=>?_
 refine AE h fun l hl h=>?_
 refine AS (AG 6 fO E (AF E FX (AG 0 A7 E ?_)))
 refine CD [_] rfl CU Bk H8 ⟨rfl,trivial⟩ rfl rfl rfl zW rfl rfl zU fun b3=>?_
 refine CF BQ 1 ([y.1.page]:List UInt32) E zV E ?_
 refine Cr 8 hl (sz:=1) (enc:=BQ) zV E CU Bk QE H8 E zD E E E E (CH (sz:=1) (enc:=BQ) 0 zV E) (by simp[BQ,Value.oneCell']) zU fun v3=>?_
 refine C1 8 E fun hv3 ho3=>?_
 refine Du 7 E E E E fT hv3 ho3 E zT (Aa ?_)
 exact Ap (l,v3) h tL (BR [1,3,4,5,6,7,8] 9 E E E)
 refine AJ ?_
 exact Ap (q.tk,a) h tL (BR [0,2,3,4,5,6,7] 8 E E E)
 obtain⟨l,v3⟩:=w
 obtain rfl:=zI h
 dsimp only
 refine Y (As (B0 y.1) E DD E E (Aj 0 E) (J E (A8 1 E E E E EX E E E zT (U E (V (AL ?_))))))
 exact Ag (D7 E (CC 1 (B0 y.1) DD E E E E) E) (Af (M:=Tb bt bm bv bk B th v3 ⟨l,y.2.2.1,y.2.2.2⟩) ⟨E,v3,E⟩ fun _ hw=>BW.pick (H:=[_,_]) hw [] 2 E)
end

section
variable {K:Nat→Prop}{w0:World}{H:List AY}
def RG:List (Int×BL)→List (M8×BV)→Option (List (M8×BV))
 | [],m=>some m
 | s::l,m=>(Vz s.2.txt).bind fun k=>(My m k ⟨s.2.page,s.2.tag⟩).bind fun m'=>RG l m'
def SP:List UInt32→Az→Ah→Option Az
 | [],v,_=>some v
 | x::l,v,d=>(KI v d x).bind fun y=>SP l y.2 d
def bA(y:BV×(K7×YM)):Option (List BL×Int×Az×Ah):=
 cond (!decide (y.2.1.wrong=0)) (if 1048576<y.2.2.tk.length then none else(SP y.2.2.tk y.2.2.v y.2.2.d).bind fun v'=>some ([],y.2.1.wrong,v',y.2.2.d)) (some (y.2.1.out,0,y.2.2.v,y.2.2.d))
def Sc(n:Nat)(T:List UInt32)(p0:Az)(p0_1:Ah)(p1:List Ao)(p2:List BL):Option (List BL×Int×Az×Ah):=
 (Sx n p1).bind fun b=>cond (!decide (b.2=0)) (some ([],b.2,p0,p0_1))
  (if 1048576<p2.length then none else(RG (E4 p2) []).bind fun th=>(IC n (Sb T th) n b.1 ⟨[],0⟩ ⟨[],p0,p0_1⟩).bind bA)
theorem iD{n Al A4 BH B3 B4:Nat}{T:List UInt32}{Ad B5 Dt GP:Value}{p0:Az}{p0_1:Ah}{p1:List Ao}{p2:List BL}{r:List BL×Int×Az×Ah}(h:Sc n T p0 p0_1 p1 p2=some r)(hS:GF K w0 T)(hs1_:B9 K w0 AW 4 Dt p1)(hs2_:B9 K w0 AU 3 GP p2):
  zC K w0 66 [vP Al 0,Dt,GP] (KX ⟨Al,Ad,A4,BH,B5,B3,B4⟩ p0 p0_1) H (fun u M=>∃v0:Value,u=.tuple #[v0,vI r.2.1]∧M=AC 190 3 v0 AU r.1::KX ⟨Al,Ad,A4,BH,B5,B3,B4⟩ r.2.2.1 r.2.2.2):=by
 unfold Sc at h
 refine AE h fun b hb h=>?_
 refine Td.enter Tryz.func66 rfl rfl ?_
 show SX _ _ _ _ _ _ _ _ _ (KX ⟨Al,Ad,A4,BH,B5,B3,B4⟩ p0 p0_1++H)
 refine Y ?_
 refine Bc E E zU fun b0=>?_
 refine U E (U E (V (AH (Y (AG 0 Sd E (EL E iA E E (V (C0 E (AJ (AI (Y (J E ?_))))))))))))
 refine Bd (vs:=[_]) (Hin:=[]) (Hr:=_::(KX ⟨Al,Ad,A4,BH,B5,B3,B4⟩ p0 p0_1++H)) E E ⟨E,zT⟩ qe E E (mE hb hs1_) ?_
 rintro _ _ ⟨nv,L,rfl,hnz,rfl⟩
 refine⟨trivial,?_⟩
 refine J E (Ae E E E (Ae E E E ?_))
 refine Am E Ii zU fun b1=>?_
 refine A8 0 E E E E If E (List.all_eq_true.2 (Nv nv)) E zT (Nl 0 (AK b1 (.cells (Cx nv).toArray 167)) (U E (V (AH (Y (J E (Z E BO (V ?_))))))))
 refine AN h E (fun hc2 h=>?_) fun hc2 h=>?_
 obtain rfl:=zI h
 refine Y (J E (U E (U E (V (AL (Ac (Oi 190 3 AU ?_)))))))
 exact Ag (ER E E E) (Af (M:=_::KX ⟨Al,Ad,A4,BH,B5,B3,B4⟩ p0 p0_1) ⟨_,E,E⟩ fun _ hw=>BW.pick (H:=[_,_,_,_]) hw [0] 4 E)
 split at h
 cases h
 rename_i hbig
 obtain⟨th,hth,h3⟩:=Ek h
 clear h
 obtain⟨y,hy,h⟩:=Ek h3
 clear h3
 refine AJ (AI (Y ?_))
 refine Sq Pq SD E zU fun bm=>?_
 refine Am E rz zU fun b2=>?_
 refine A8 0 E E E E rR E E E zT (Nl 0 (AK b2 (.cells #[.map (some bm)] 183)) (V (AH (Y (J E ?_)))))
 refine Bd (vs:=[_]) (Hin:=[]) (Hr:=_::_::_::_::_::(KX ⟨Al,Ad,A4,BH,B5,B3,B4⟩ p0 p0_1++H)) E E ⟨E,zT⟩ qf E E (mD hs2_.one) ?_
 rintro _ _ ⟨bx,rfl,rfl⟩
 refine⟨trivial,?_⟩
 refine V (AQ ?_)
 refine MH (enc:=kh) (E4 p2) (G0:=(AK b2 (.cells #[.map (some bm)] 183)::Ab bm Pq SD []::AK b1 (.cells (Cx nv).toArray 167)::IA L::AK b0 (.cells #[vP Al 0] 92)::(KX ⟨Al,Ad,A4,BH,B5,B3,B4⟩ p0 p0_1++H))) (fun pre G=>∃m:List (M8×BV),(∀suf,E4 p2=pre++suf→RG suf m=some th)∧G=(AK b2 (.cells #[.map (some bm)] 183)::Ab bm Pq SD m::AK b1 (.cells (Cx nv).toArray 167)::IA L::AK b0 (.cells #[vP Al 0] 92)::(KX ⟨Al,Ad,A4,BH,B5,B3,B4⟩ p0 p0_1++H))) (fun c G=>False) E nF E zV (lM zO hs2_) E ⟨[],fun suf e=>by rw[←show E4 p2=suf from e];exact hth,E⟩ (fun pre x suf G hxs hJ lr lp Rest=>?_) (fun G D hJ=>?_) (fun c G D hX=>hX.elim)
 obtain⟨m,hm,rfl⟩:=hJ
 have h1:=hm (x::suf) hxs
 rw[RG]at h1
 obtain⟨k,hk,h1⟩:=Ek h1
 obtain⟨m1,hm1,h1⟩:=Ek h1
 have hks:=Xs hk
 refine AS ?_
 refine Am E PM zU fun b3=>?_
 refine A8 0 E E E E KV E E E zT (Aa ?_)
 refine Kb (G:=AK b3 (.cells #[vS x.2.txt,AA x.2.page,vS x.2.tag] 190)::(AK b2 (.cells #[.map (some bm)] 183)::Ab bm Pq SD m::AK b1 (.cells (Cx nv).toArray 167)::IA L::AK b0 (.cells #[vP Al 0] 92)::(KX ⟨Al,Ad,A4,BH,B5,B3,B4⟩ p0 p0_1++H))) ?_
 refine AQ (AS (AG 1 lW rfl (AF rfl kx (AG 0 Fx rfl (AF rfl KM (As [AA x.2.page,vS x.2.tag] rfl DD rfl rfl (Cp 0 rfl (by rintro(_ | (_ | j)) u hj<;>first | exact hj | exact absurd hj zS)) ?_))))))
 refine QA (a:=(⟨x.2.page,x.2.tag⟩:BV)) 2 hm1 (UC Ch) E lo E (by rw[Pq,hks];rfl) E E zT ?_
 refine Aa (An ?_)
 exact IE ⟨m1,fun suf' e=>by rw[Wj hxs e];exact h1,E⟩ (BR [] 1 E E E)
 obtain⟨m,hm,rfl⟩:=hJ
 have h1:=hm [] (List.append_nil _).symm
 obtain rfl:m=th:=zI h1
 refine An (AI (Y ?_))
 refine Am E rm zU fun b3=>?_
 refine Nl 0 (AK b3 (.cells #[zN] 120)) (B8 33 1 BQ (V (Y ?_)))
 refine G8 (fv:=#[]) (cv:=#[_,_,_]) E E E ?_
 refine CB [_] E rG qv r5 ⟨E,zT⟩ E ?_
 refine Bc E E zU fun b4=>?_
 refine B8 190 3 AU (U E (V ?_))
 have hcon:=Cm (K:=K) (w0:=w0) (H:=(AK b1 (.cells (Cx nv).toArray 167)::H)++[BT D]) (f:=94) (B:=[IA L]) (Hin:=La b4 (.func (.func 92) #[] #[vP b2 0,vP b0 0,vP b3 0]) (.slice none 0 0) ⟨[],0⟩::AC 190 3 (.slice none 0 0) AU []::Tb b2 bm b0 b3 (⟨Al,Ad,A4,BH,B5,B3,B4⟩:OF) m (.slice none 0 0) ⟨[],p0,p0_1⟩) fun K' w1 hkk hB=>
  RM (C:=Tb b2 bm b0 b3 (⟨Al,Ad,A4,BH,B5,B3,B4⟩:OF) m) (bp:=b4) (vo:=.slice none 0 0) (ca:=.slice none 0 0) (cs:=#[vP b2 0,vP b0 0,vP b3 0]) qg kJ n (hS.keeps hkk) hy (hnz.lent (hB _ zS))
 generalize hpo:(fun(u:Value) (M:List AY)=>∃M',M=[IA L]++M'∧(u=.agg (B0 y.1).toArray∧∃vo' ca',M'=La b4 (.func (.func 92) #[] #[vP b2 0,vP b0 0,vP b3 0]) vo' y.2.1::AC 190 3 vo' AU y.2.1.out::Tb b2 bm b0 b3 (⟨Al,Ad,A4,BH,B5,B3,B4⟩:OF) m ca' y.2.2))=po at hcon
 refine Y (J E (As (Cx nv) E NI E E (Aj 6 E) ?_))
 refine SL.heap (H':=([IA L]++(La b4 (.func (.func 92) #[] #[vP b2 0,vP b0 0,vP b3 0]) zN ⟨[],0⟩::AC 190 3 zN AU []::Tb b2 bm b0 b3 (⟨Al,Ad,A4,BH,B5,B3,B4⟩:OF) m zN ⟨[],p0,p0_1⟩))++(AK b1 (.cells (Cx nv).toArray 167)::H)) ?_ (BR [7,1,0,4,5,8,3,2,9,10,11,12,13,14,15,6] 16 E E E)
 refine Bd (vs:=[_,_]) (Hin:=[IA L]++(La b4 (.func (.func 92) #[] #[vP b2 0,vP b0 0,vP b3 0]) zN ⟨[],0⟩::AC 190 3 zN AU []::Tb b2 bm b0 b3 (⟨Al,Ad,A4,BH,B5,B3,B4⟩:OF) m zN ⟨[],p0,p0_1⟩)) (Hr:=AK b1 (.cells (Cx nv).toArray 167)::H) E E ⟨E,E,zT⟩ ke E E hcon ?_
 intro u0 M0 hpost
 rw[←hpo]at hpost
 obtain⟨_,rfl,rfl,vo,ca,rfl⟩:=hpost
 refine⟨trivial,?_⟩
 refine V ?_
 unfold bA at h
 refine AH (Y (J E (AT E E (AF E SN (AG 1 QT E (Z E BO (V ?_)))))))
 refine AN h E (fun hc3 h=>?_) fun hc3 h=>?_
 split at h
 cases h
 rename_i hbt
 refine AE h fun v' hv' h=>?_
 obtain rfl:=zI h
 refine AH (Y (AG 6 fO E (DW 7 E CU E E (J E (V (AQ ?_))))))
 refine SX.heap (SX.mono (BG (α:=Nat×Az) (fun x=>x.1≤y.2.2.tk.length∧SP (y.2.2.tk.drop x.1) x.2 y.2.2.d=some v') (fun x=>[(3,vP b0 0),(14,vP b4 0),(48,ca),(49,vI (y.2.2.tk.length:Int)),(50,vI (x.1:Int))])
  (fun x=>La b4 (.func (.func 92) #[] #[vP b2 0,vP b0 0,vP b3 0]) vo y.2.1::AK b0 (.cells #[vP Al 0] 92)::AC 33 1 ca BQ y.2.2.tk::(KX (⟨Al,Ad,A4,BH,B5,B3,B4⟩:OF) x.2 y.2.2.d++H))
  (fun x=>y.2.2.tk.length-x.1) (fun x D hp=>?_) (0,y.2.2.v) ⟨Nat.zero_le _,hv'⟩) tL) (BR [1,5,7,8,9,10,11,12,13,14] 16 rfl rfl rfl)
 obtain⟨i,v1⟩:=x
 obtain⟨hi,hg⟩:=hp
 dsimp only at hi hg ⊢
 refine Y (Z E BA (V (AH ?_)))
 refine Ax E (fun hc4=>?_) (fun hc4=>?_)
 have hlt:i<y.2.2.tk.length:=by
  have:=of_decide_eq_true hc4
  omega
 clear hc4
 have hnth:BE y.2.2.tk (i:Int)=some y.2.2.tk[i]:=by
  rw[BE,if_pos zO]
  exact List.getElem?_eq_getElem hlt
 rw[List.drop_eq_getElem_cons hlt,SP]at hg
 refine AE hg fun z hz hg=>?_
 refine AJ (AI (AH (AQ (Y ?_))))
 refine CI 2 hnth E CU Bk E E E fun g1 m1 cp1 hv1=>?_
 refine Bv E A7 E (CA (sz:=1) (enc:=BQ) 2 0 zV E hv1 hnth E) ?_
 refine U E (V (AS (AG 1 Sd E (J E ?_))))
 refine SL.heap (H':=KX (⟨Al,Ad,A4,BH,B5,B3,B4⟩:OF) v1 y.2.2.d++([_,_,_]++H)) ?_ (fun _ hw=>GA (A:=[_,_,_]) (B:=KX (⟨Al,Ad,A4,BH,B5,B3,B4⟩:OF) v1 y.2.2.d) (R:=H) hw)
 have hcon:=XO (K:=K) (w0:=w0) (H:=([La b4 (.func (.func 92) #[] #[vP b2 0,vP b0 0,vP b3 0]) vo y.2.1,AK b0 (.cells #[vP Al 0] 92),AC 33 1 ca BQ y.2.2.tk]++H)++[BT D]) (Al:=Al) (Ad:=Ad) (A4:=A4) (BH:=BH) (B5:=B5) (B3:=B3) (B4:=B4) hz
 refine Bd (vs:=[_,_]) (Hin:=KX (⟨Al,Ad,A4,BH,B5,B3,B4⟩:OF) v1 y.2.2.d) (Hr:=[_,_,_]++H) E E ⟨E,E,zT⟩ kf E E hcon ?_
 rintro _ _ ⟨rfl,rfl⟩
 refine⟨trivial,?_⟩
 refine SL.heap (H':=[_,_,_]++(KX (⟨Al,Ad,A4,BH,B5,B3,B4⟩:OF) z.2 y.2.2.d++H)) ?_ (fun _ hw=>GA (A:=KX (⟨Al,Ad,A4,BH,B5,B3,B4⟩:OF) z.2 y.2.2.d) (B:=[_,_,_]) (R:=H) hw)
 refine Aa (An (AI (AS (Z E (Be zO zO) (J E (Aa ?_))))))
 exact Av (i+1,z.2) ⟨hlt,hg⟩ (by dsimp only;omega) tL (BR [0,1,2] 3 E E E)
 have hge:i=y.2.2.tk.length:=by
  have:=of_decide_eq_false hc4
  omega
 subst hge
 rw[List.drop_length,SP]at hg
 obtain rfl:v1=v':=zI hg
 refine Ay (A6 (Ba (A9 (AI (AH (Aw DG [0] (CM [(true,0),(true,1),(true,2),(true,3),(true,4),(true,5)] .nil) zK (J E (AT E E (AF E SN (AG 0 QT E (U E (U E (V (AL (Ac (Oi 190 3 AU ?_))))))))))))))))
 exact Ag (ER E E E) (Af (M:=_::KX (⟨Al,Ad,A4,BH,B5,B3,B4⟩:OF) v1 y.2.2.d) ⟨_,E,E⟩ fun _ hw=>BW.pick (H:=[_,_,_,_]) hw [0] 4 E)
 obtain rfl:=zI h
 refine AJ (AI (Y (J E (AT E E (AF E Xh (AG 1 QU E (U E (U E (V (AL ?_))))))))))
 exact Ag (ER E E E) (Af (M:=AC 190 3 vo AU y.2.1.out::KX (⟨Al,Ad,A4,BH,B5,B3,B4⟩:OF) y.2.2.v y.2.2.d) ⟨_,E,E⟩ fun _ hw=>BW.pick (H:=[_,_,_,_,_,_,_,_,_,_,_,_,_,_,_,_]) hw [2,8,9,10,11,12,13,14] 16 E)
end

section
structure tO where
 out:List BL
 rows:List Ao
 count:Int
end

section
variable {K:Nat→Prop}{w0:World}{H:List AY}
end

section
variable {K:Nat→Prop}{w0:World}{H:List AY}
end

section
variable {K:Nat→Prop}{w0:World}{H:List AY}
end

section
def sD(l:List Ao):Prop:=l.Pairwise fun a b=>a.id≤b.id
inductive SB (bs:Nat):List Ao→Prop
 | last (S:List Ao):S.length≤bs→sD S→SB bs S
 | more (S R:List Ao):S.length=bs→sD S→SB bs R→SB bs (S++R)
end

section
variable {n:Nat}{T:List UInt32}{v:Az}{d:Ah}
end

section
theorem bg.lastE:∀ {ls:List (List Ao)} {r0 r:BV} {seg:List BL} ,ls≠[]→bg ls r0 seg r→∃a s,seg=a++[⟨s,r.page,r.tag⟩]
 | [],_,_,_,h,_=>absurd rfl h
 | l::ls,r0,seg,r,_,h=>by
  obtain⟨r1,seg',h1,rfl,h2⟩:=h
  rcases ls with _ | ⟨l2,ls⟩
  obtain⟨rfl,rfl⟩:=h2
  exact⟨[],_,rfl⟩
  obtain⟨a,s,rfl⟩:=bg.lastE zS h2
  exact⟨_::a,s,rfl⟩
theorem Wn.lastE{f:Nat}{t:Ca}{seg:List BL}{r:BV}(h:Wn f t seg r):∃a s,seg=a++[⟨s,r.page,r.tag⟩]:=by
 cases f with
 | zero=>exact h.elim
 | succ f=>
  rcases h.2 with⟨_,h2⟩ | ⟨_,segs,rs,_,_,rfl⟩
  refine bg.lastE ?_ h2
  intro e
  have:=congrArg List.length e
  rw[List.length_reverse,Qy,List.length_nil]at this
  omega
  exact⟨segs,_,rfl⟩
end



section
theorem ja{n:Int}(h0:0≤n)(h1:n≤1048576):FB n=some (List.replicate n.toNat 0):=by
 unfold FB ep
 rw[if_pos ⟨h0,by omega,by omega⟩,AB]
def WS(d:Ah):Bool := !(d.isCut&&decide (d.lasts=0)||d.off)
def I4(d:Ah):Ah:={ d with lasts:=if d.isCut then wI (d.lasts-1)else d.lasts,counts:=wI (d.counts+1) }
def aj(d:Ah):Ah:={ d with off:=true }
theorem S7(d:Ah):DT d=some (if WS d then(0,I4 d)else(71,aj d)):=by
 obtain⟨off,isCut,lasts,counts,bl,pd,bd,rc,rt,rb⟩:=d
 unfold DT Ef Eg
 by_cases h0:lasts=0<;>cases off<;>cases isCut<;>simp[WS,I4,aj,h0]
def lA(d:Ah)(r:Ah):Int×Ah:=if WS d then(0,r)else(71,aj d)
theorem aY(d:Ah)(p:UInt32):Oc d p=some (decide (p.toNat<d.blocks.length)):=by
 unfold Oc
 rw[Bw]
 congr 1
 simp
theorem jY{d:Ah}{p:UInt32}{s:List UInt8}(hp:p.toNat<d.blocks.length)(hs:s.length=256)(hm:d.pend.length<9223372036854775807):Il d p s=some (lA d { I4 d with pend:=MP d.pend p s }):=by
 unfold Il J6
 rw[aY,AB,Bw,zt hp,hs]
 simp only[S7,AB]
 cases h:WS d
 simp[lA,h,aj]
 simp only[lA,h,if_true]
 have:(I4 d).pend=d.pend:=rfl
 simp[My,this,hm]
def Id(d:Ah)(p:UInt32):List UInt8:=(C8 d.pend p).getD (d.blocks.getD p.toNat [])
theorem Yx{d:Ah}{p:UInt32}(hp:p.toNat<d.blocks.length):MN d p=some (Id d p):=by
 unfold MN Id
 rw[Bw,Bw]
 cases h:C8 d.pend p with
 | some s=>simp
 | none=>
  rw[Ez,List.getElem?_eq_getElem hp]
  simp[hp]
theorem lR{d:Ah}{p:UInt32}(hp:p.toNat<d.blocks.length):L3 d p=some (if d.off then([],71)else if(C8 d.bad p).getD false then([],70)else(Id d p,0)):=by
 unfold L3
 rw[aY,AB,Bw,zt hp,Yx hp]
 cases d.off
 cases h:(C8 d.bad p).getD false<;>simp[Bw,h]
 simp
theorem ov{n:Int}(h1:4≤n)(h2:n≤4096):JV n=some (some { off:=false,isCut:=false,lasts:=0,counts:=0,blocks:=List.replicate n.toNat (List.replicate 256 0),pend:=[],bad:=[],rcnt:=0,rtag:=List.replicate 32 0,rboots:=0 },0):=by
 unfold JV SZ bF
 have e:(decide (n<4)||decide (4096<n))=false:=by simp;omega
 rw[e,CE]
 simp only[AB]
 rw[if_pos zS,AB,if_pos zS,AB,if_pos ⟨by omega,by omega⟩,AB]
 rfl
theorem ow{d r:Ah}(h:WS d=true):lA d r=(0,r):=by simp[lA,h]
end



section
theorem X4(l:List BP)(hl:l.length≤1048576){n:Nat}(hm:16<n):Gy n l=some (DU l):=by
 unfold Gy DU
 by_cases h16:l.length≤16
 rw[show decide (16<(l.length:Int))=false by simp;omega,show decide (l.length≤16)=true by simp[h16]]
 simp only[CE,Bool.true_and]
 unfold Ju
 refine(congrArg (CO _ n) ?_).trans ((iz (fun i=>(KS l i,(i:Int))) (fun i=>some (((LD l).drop i).all (·.2))) l.length (fun i hi k hk=>?_) (fun k=>?_) zO).trans ?_)
 rfl
 have ei:((i+1:Nat):Int)=(i:Int)+1:=zO
 have st:(LD l).drop i=((l.getD i GX).gen,OA l i)::(LD l).drop (i+1):=by
  rw[List.drop_eq_getElem_cons (by rw[Pu];exact hi)]
  congr 1
  exact zI ((List.getElem?_eq_getElem _).symm.trans (Tt l i hi))
 dsimp only at hk ⊢
 rw[st,List.all_cons]
 simp only[GM,show decide ((i:Int)<(l.length:Int))=true by simp;omega,Cz]
 rw[C2 (k:=i) GX rfl hi,AB,AB]
 have hko:OA l i = !((decide ((l.getD i GX).gen≤KS l i))||(!decide (((l.getD i GX).secret.length:Int)=32))):=by
  unfold OA
  rw[Bool.not_or,Bool.not_not]
  congr 1
  rw[Bool.eq_iff_iff]
  simp[UInt32.not_le]
 generalize hg:(decide ((l.getD i GX).gen≤KS l i))=p at hko
 generalize (!decide (((l.getD i GX).secret.length:Int)=32))=q at hko
 have ho:WR p (some q)=some (p||q):=by cases p<;>rfl
 rw[ho,AB,hko]
 cases hpq:(p||q)with
 | true=>simp only[Cz,Bool.not_true,Bool.false_and]
 | false=>
  simp only[CE,Bool.not_false,Bool.true_and]
  rw[AB,Bw,Cw zO zO,←ei]
  exact hk
 simp only[GM,show decide ((l.length:Int)<(l.length:Int))=false by simp,CE,Jt]
 rw[List.drop_of_length_le (by rw[Pu];exact Nat.le_refl _)]
 rfl
 simp
 rw[show decide (16<(l.length:Int))=true by simp;omega,show decide (l.length≤16)=false by simp;omega]
 rfl
theorem gi(l:List BP)(g:UInt32)(hl:l.length≤1048576){n:Nat}(hm:16<n):JZ n l g=some (DP l g):=by
 unfold JZ
 rw[X4 l hl hm,AB]
 cases hr:DU l with
 | false=>
  simp only[Bool.not_false,Cz]
  unfold DP
  rw[if_pos hr]
  rfl
 | true=>
  simp only[Bool.not_true,CE]
  have h16:=((Nw l).1 hr).1
  unfold Kv
  have hno:(∀k∈l,k.gen≠g)→DP l g=(GX,41):=fun h=>by
   unfold DP
   rw[if_neg (by simp[hr])]
   split
   rename_i k hk
   rw[if_neg (h k (List.mem_of_getElem? hk))]
   rfl
  refine(congrArg (CO _ n) ?_).trans (i0 (fun i=>((0:UInt32),([]:List UInt8),(i:Int))) (fun i=>∀k∈l.take i,k.gen≠g) l.length (fun i hi hp k hk=>?_) (fun hp k=>?_) zS zO)
  rfl
  have ei:((i+1:Nat):Int)=(i:Int)+1:=zO
  have hgi:l[i]? = some (l.getD i GX):=Jc GX hi
  dsimp only at hk ⊢
  simp only[Gw,show decide ((i:Int)<(l.length:Int))=true by simp;omega,Cz]
  rw[C2 (k:=i) GX rfl hi,AB]
  by_cases hg:(l.getD i GX).gen=g
  rw[show decide ((l.getD i GX).gen=g)=true by simp only[hg,decide_true]]
  simp only[Cz]
  rw[AB,Yu.2 ⟨hr,List.mem_of_getElem? hgi,hg⟩]
  rw[show decide ((l.getD i GX).gen=g)=false by simp only[hg,decide_false]]
  simp only[CE]
  rw[Bw,Cw zO zO,←ei]
  refine hk fun k' hk'=>?_
  rw[List.take_add_one,hgi]at hk'
  rcases List.mem_append.1 hk' with h | h
  exact hp k' h
  simp only[Option.toList_some,List.mem_singleton]at h
  rw[h];exact hg
  simp only[Gw,show decide ((l.length:Int)<(l.length:Int))=false by simp,CE,Ku]
  rw[List.take_length]at hp
  rw[hno hp]
  rfl
end

section
def ez(a b c d:UInt8):UInt32:=((a.toUInt32 ||| shl32 b.toUInt32 8) ||| shl32 c.toUInt32 16) ||| shl32 d.toUInt32 24
def OU(b:List UInt8):UInt32:=ez (b.getD 0 0) (b.getD 1 0) (b.getD 2 0) (b.getD 3 0)
theorem Se(b:UInt8)(k:Nat)(h:k≤24):(shl32 b.toUInt32 k).toNat=b.toNat*2^k:=by
 have h1:=b.toNat_lt
 simp only[shl32,UInt32.toNat_ofNat',Nat.min_eq_left (show k≤32 by omega),UInt8.toNat_toUInt32]
 refine Nat.mod_eq_of_lt ?_
 calc b.toNat*2^k<2^8*2^k:=Nat.mul_lt_mul_of_pos_right h1 (Nat.two_pow_pos k)
  _=2^(8+k):=(Nat.pow_add 2 8 k).symm
  _≤2^32:=Nat.pow_le_pow_right zD zO
theorem ai{u v k:Nat}(h:u<2^k):u ||| v*2^k=u+v*2^k:=by
 rw[Nat.or_comm,Nat.mul_comm,←Nat.two_pow_add_eq_or_of_lt h,Nat.add_comm]
theorem e6(a b c d:UInt8):(ez a b c d).toNat=a.toNat+b.toNat*2^8+c.toNat*2^16+d.toNat*2^24:=by
 have ha:=a.toNat_lt
 have hb:=b.toNat_lt
 have hc:=c.toNat_lt
 unfold ez
 rw[UInt32.toNat_or,UInt32.toNat_or,UInt32.toNat_or,Se _ 8 zD,Se _ 16 zD,Se _ 24 zD,UInt8.toNat_toUInt32]
 rw[ai (u:=a.toNat) (k:=8) zO,ai (k:=16) zO,ai (k:=24) zO]
theorem dC(x:UInt32)(r:List UInt8):OU (CZ x.toUInt64 4++r)=x:=by
 apply UInt32.toNat_inj.1
 have hx:=x.toNat_lt
 unfold OU
 rw[e6]
 simp only[Nu _ 4 _ (show 0<4 by decide),Nu _ 4 _ (show 1<4 by decide),Nu _ 4 _ (show 2<4 by decide),Nu _ 4 _ (show 3<4 by decide),UInt64.toNat_toUInt8]
 rw[KU _ _ zD,KU _ _ zD,KU _ _ zD,KU _ _ zD]
 simp only[UInt32.toNat_toUInt64]
 omega
theorem dB(T:List UInt32)(k:BP)(h:DC)(s:List UInt8):OU (HX T k h s)=h.page:=by
 rw[HX,Kf,X1]
 simp only[List.append_assoc]
 exact dC _ _
theorem hU{b:List UInt8}(h:b.length=256):ZK b=some (b.drop 224):=by
 unfold ZK
 rw[if_pos zO,h]
theorem lD{T:List UInt32}{v:Az}{d:Ah}{p:UInt32}{tag b:List UInt8}(hr:L3 d p=some (b,0))(hb:b.length=256)(hl:v.ring.length≤1099511627776):
  Tp T v d p tag=some (if b.drop 224=tag∧OU b=p then VR T v.ring b else(SR,[],61)):=by
 unfold Tp
 have g:∀i:Nat,i<4→BE b (i:Int)=some (b.getD i 0):=fun i hi=>C2 0 rfl zO
 have g0:=g 0 zO
 have g1:=g 1 zO
 have g2:=g 2 zO
 have g3:=g 3 zO
 rw[hr,AB]
 show(BE b 0).bind _=_
 rw[show BE b 0=some (b.getD 0 0)from g0,AB,show BE b 1=some (b.getD 1 0)from g1,AB,show BE b 2=some (b.getD 2 0)from g2,AB,show BE b 3=some (b.getD 3 0)from g3,AB,Bw,hU hb,AB]
 change cond (!decide (b.drop 224=tag) || !decide (OU b=p)) _ _=_
 by_cases h:b.drop 224=tag∧OU b=p
 rw[if_pos h,zt h.1,zt h.2]
 unfold lC
 rw[if_pos ⟨hl,by show b.length≤_;omega⟩]
 rfl
 rw[if_neg h]
 have:(!decide (b.drop 224=tag) || !decide (OU b=p))=true:=by
  simp only[Bool.or_eq_true,Bool.not_eq_true',decide_eq_false_iff_not]
  exact Classical.not_and_iff_not_or_not.1 h
 rw[this]
 rfl
theorem fK{r:BV}(h1:2≤r.page.toNat)(h2:r.tag.length=32):Dp r=some true:=by
 unfold Dp
 have e1:decide ((2:UInt32)≤r.page)=true:=by rw[decide_eq_true_eq,UInt32.le_iff_toNat_le];exact h1
 have e2:decide ((r.tag.length:Int)=32)=true:=by rw[decide_eq_true_eq];omega
 rw[e1,e2]
 rfl
theorem lQ{T:List UInt32}{v:Az}{d:Ah}{r:BV}{b:List UInt8}(h1:2≤r.page.toNat)(h2:r.tag.length=32)(hr:L3 d r.page=some (b,0))(hb:b.length=256)(hl:v.ring.length≤1099511627776):
  Qu T v d r=some (if b.drop 224=r.tag∧OU b=r.page then(VR T v.ring b).2 else([],61)):=by
 unfold Qu
 rw[fK h1 h2,AB,Bw]
 unfold Vw
 rw[lD hr hb hl]
 simp only[AB,Bool.not_true,CE]
 split<;>rfl
abbrev hd(v:Az)(p:UInt32):DC:=⟨p,v.gen,v.boot,v.seals⟩
structure RW(N c:Nat)(d:Ah):Prop where
 blen:d.blocks.length=N
 nle:N≤4096
 on:d.off=false
 uncut:d.isCut=false
 good:d.bad=[]
 plen:d.pend.length≤c
 cle:c≤100
theorem RW.write{N c:Nat}{d:Ah}(D:RW N c d)(hc:c+1≤100){p:UInt32}{b:List UInt8}(hp:p.toNat<N)(hb:b.length=256):
  Il d p b=some (0,{ d with counts:=wI (d.counts+1),pend:=MP d.pend p b })∧RW N (c+1) { d with counts:=wI (d.counts+1),pend:=MP d.pend p b }:=by
 have h0:WS d=true:=by simp[WS,D.on,D.uncut]
 constructor
 rw[jY (by rw[D.blen];exact hp) hb (by have:=D.plen;have:=D.cle;omega),ow h0]
 simp[I4,D.uncut]
 refine⟨D.blen,D.nle,D.on,D.uncut,D.good,?_,hc⟩
 have:(G6 d.pend p).length≤d.pend.length:=List.length_filter_le ..
 have:=D.plen
 show(G6 d.pend p).length+1≤c+1
 omega
theorem RW.read{N c:Nat}{d:Ah}(D:RW N c d){p:UInt32}(hp:p.toNat<N):L3 d p=some (Id d p,0):=by
 rw[lR (by rw[D.blen];exact hp),D.on,D.good]
 rfl
theorem VN{d:Ah}{p q:UInt32}{b:List UInt8}{c:Int}:Id { d with counts:=c,pend:=MP d.pend p b } q=if p=q then b else Id d q:=by
 unfold Id
 rw[Y4]
 split<;>rfl
theorem ZH{T:List UInt32}{l:List BP}{h:DC}{s:List UInt8}{k:BP}(hl:l.length≤1099511627776)(hk:DP l h.gen=(k,0))(hs:s.length≤198):Vd T l h s=some (HX T k h s,0):=by
 unfold Vd HM
 rw[if_pos ⟨hl,by omega⟩,hk]
 simp
 omega
theorem dQ{T:List UInt32}{v:Az}{d:Ah}{N c:Nat}{k:BP}{p:UInt32}{s:List UInt8}(D:RW N c d)(hc:c+1≤100)(hl:v.ring.length≤1099511627776)(hk:DP v.ring v.gen=(k,0))(hp:p.toNat<N)(hs:s.length≤198):
  KJ T v d p s=some ((HX T k (hd v p) s).drop 224,0,{ v with seals:=v.seals+1 },{ d with counts:=wI (d.counts+1),pend:=MP d.pend p (HX T k (hd v p) s) }):=by
 unfold KJ
 have hb:=Ke T k (hd v p) hs
 rw[ZH (h:=hd v p) hl hk hs,AB,(D.write hc hp hb).1]
 simp only[AB,hU hb]
 rfl
theorem Xo(v:Az):∀(k i:Nat),(∀x,i≤x→x<i+k→EK v (UInt32.ofNat x)=true)→F8 v i k=[]
 | 0,i,_=>rfl
 | k+1,i,h=>by
  rw[F8,if_pos (h i (Nat.le_refl _) zO)]
  exact Xo v k (i+1) fun x h1 h2=>h x zO zO
theorem cw(v:Az)(j:Nat)(hj:EK v (UInt32.ofNat j)=false):∀(k i:Nat),i≤j→j<i+k→(∀x,i≤x→x<j→EK v (UInt32.ofNat x)=true)→F8 v i k=[UInt32.ofNat j]
 | 0,i,h1,h2,_=>by omega
 | k+1,i,h1,h2,h=>by
  by_cases e:i=j
  subst e
  rw[F8,if_neg (by rw[hj];decide)]
  rw[F8,if_pos (h i (Nat.le_refl _) zO)]
  exact cw v j hj k (i+1) zO zO fun x h1 h2=>h x zO zO
theorem jX{T:List UInt32}{v:Az}{d:Ah}{N c j:Nat}{k:BP}{s:List UInt8}(D:RW N c d)(hc:c+1≤100)(hl:v.ring.length≤1099511627776)(hk:DP v.ring v.gen=(k,0))(hs:s.length≤198)
(h2:2≤j)(hj:j<N)(hfree:EK v (UInt32.ofNat j)=false)(htk:∀x,2≤x→x<j→EK v (UInt32.ofNat x)=true)(ht:v.taken.length≤100):
  GW T v d s=some (⟨UInt32.ofNat j,(HX T k (hd v (UInt32.ofNat j)) s).drop 224⟩,0,{ v with seals:=v.seals+1,taken:=MP v.taken (UInt32.ofNat j) true },{ d with counts:=wI (d.counts+1),pend:=MP d.pend (UInt32.ofNat j) (HX T k (hd v (UInt32.ofNat j)) s) }):=by
 have hN:=D.nle
 have hjn:(UInt32.ofNat j).toNat=j:=by simp;omega
 unfold GW aX Uo
 rw[Bw,zf zO,CE,AB,D.blen,if_pos zO,AB,cw v j hfree (N-2) 2 h2 zO htk]
 show Ft T v d s (UInt32.ofNat j)=_
 unfold Ft
 have h0:decide (UInt32.ofNat j=0)=false:=by
  rw[decide_eq_false_iff_not]
  intro e
  have:=congrArg UInt32.toNat e
  rw[hjn]at this
  simp at this
  omega
 rw[h0,CE,dQ D hc hl hk (by rw[hjn];exact hj) hs]
 simp only[AB,My]
 rw[if_pos zO]
 rfl
theorem di{T:List UInt32}{v:Az}{d:Ah}{N c:Nat}{s:List UInt8}(D:RW N c d)(hs:s.length≤198)(htk:∀x,2≤x→x<N→EK v (UInt32.ofNat x)=true):
  GW T v d s=some (⟨0,[]⟩,110,v,d):=by
 have hN:=D.nle
 unfold GW aX Uo
 rw[Bw,zf zO,CE,AB,D.blen,if_pos zO,AB,Xo v (N-2) 2 (fun x h1 h2=>htk x h1 zO)]
 rfl
def SS(i:Nat):BP:=⟨UInt32.ofNat (i+1),List.replicate 32 (UInt8.ofNat (65+i))⟩
def Di(m:Nat):List BP:=(List.range m).map SS
theorem DR(m:Nat):(Di m).length=m:=by simp[Di]
theorem dN(m:Nat):Di (m+1)=Di m++[SS m]:=by simp[Di,List.range_succ]
theorem lU(m:Nat)(hm:m≤30){n:Nat}(hn:40≤n):Hz n (m:Int)=some (Di m):=by
 unfold Hz EF
 refine Ec (fun i=>(Di i,((i+1:Nat):Int))) m ?_ ?_ zO
 intro i hi k
 simp only[Gp]
 rw[zt zO,Cz]
 unfold Ko
 refine Ec (fun j=>(List.replicate j (UInt8.ofNat (65+i)),(j:Int))) 32 ?_ ?_ zO
 intro j hj k'
 simp only[Gq]
 rw[zt zO,Cz,DX zQ zQ,AB,Bw]
 have e:Ig (wI (64+((i+1:Nat):Int)))=UInt8.ofNat (65+i):=by
  rw[Cw zO zO]
  unfold Ig
  congr 1
  omega
 rw[e,Cw zO zO,←List.replicate_succ']
 rfl
 intro k'
 simp only[Gq]
 rw[zf zO,CE]
 unfold Kn
 rw[DX (by simp[DR];omega) (by simp[DR];omega),AB]
 unfold Km
 rw[Bw,Cw zO zO]
 have e:Ep ((i+1:Nat):Int)=UInt32.ofNat (i+1):=by
  unfold Ep
  congr 1
  omega
 rw[e,dN]
 rfl
 intro k
 simp only[Gp]
 rw[zf zO,CE]
 rfl
theorem VO{i:Nat}(h:i<30):(SS i).gen.toNat=i+1:=by simp[SS];omega
theorem RB(m:Nat)(hm:m≤16):DU (Di m)=true:=by
 refine(fI _).2 ⟨by rw[DR];exact hm,?_,?_⟩
 unfold Di
 rw[List.pairwise_map]
 refine List.Pairwise.imp_of_mem ?_ List.pairwise_lt_range
 intro a b ha hb hlt
 have h1:=List.mem_range.1 ha
 have h2:=List.mem_range.1 hb
 rw[UInt32.lt_iff_toNat_lt,VO zO,VO zO]
 omega
 intro k hk
 obtain⟨i,hi,rfl⟩:=List.mem_map.1 hk
 have h1:=List.mem_range.1 hi
 refine⟨?_,by simp[SS]⟩
 rw[UInt32.lt_iff_toNat_lt,VO zO]
 simp
theorem cZ{m i:Nat}(hm:m≤16)(hi:i<m):DP (Di m) (SS i).gen=(SS i,0):=
 Yu.2 ⟨RB m hm,List.mem_map.2 ⟨i,List.mem_range.2 hi,rfl⟩,rfl⟩
end

section
structure VS(N c:Nat)(R:List BP)(g:UInt32)(v:Az)(d:Ah):Prop where
 dev:RW N c d
 ring:v.ring=R
 rlen:R.length≤1099511627776
 gen:v.gen=g
 boot:v.boot=1
 tlen:v.taken.length≤c
structure Vp(T:List UInt32)(R:List BP)(d:Ah)(p g:UInt32)(q:UInt64)(s b:List UInt8):Prop where
 key:∃k,DP R g=(k,0)∧b=HX T k ⟨p,g,1,q⟩ s
 txt:s.length≤198
 is:Id d p=b
theorem Vp.len{T:List UInt32}{R:List BP}{d:Ah}{p g:UInt32}{q:UInt64}{s b:List UInt8}(h:Vp T R d p g q s b):b.length=256:=by
 obtain⟨k,_,rfl⟩:=h.key
 exact Ke T k _ h.txt
theorem Vp.page{T:List UInt32}{R:List BP}{d:Ah}{p g:UInt32}{q:UInt64}{s b:List UInt8}(h:Vp T R d p g q s b):OU b=p:=by
 obtain⟨k,_,rfl⟩:=h.key
 exact dB T k _ s
theorem Vp.opens{T:List UInt32}{R:List BP}{d:Ah}{p g:UInt32}{q:UInt64}{s b:List UInt8}(h:Vp T R d p g q s b):VR T R b=(⟨p,g,1,q⟩,s,0):=by
 obtain⟨k,hk,rfl⟩:=h.key
 have hs:HM T R ⟨p,g,1,q⟩ s=(HX T k ⟨p,g,1,q⟩ s,0):=by
  unfold HM
  have:=h.txt
  simp[hk]
  omega
 have:=et (T:=T) (l:=R) (h:=⟨p,g,1,q⟩) (s:=s) (by rw[hs])
 rwa [hs]at this
theorem Vp.put{T:List UInt32}{R:List BP}{d d':Ah}{p p' g:UInt32}{q:UInt64}{s b b':List UInt8}(h:Vp T R d p g q s b)(hd:∀x,Id d' x=if p'=x then b' else Id d x)(hne:p'≠p):Vp T R d' p g q s b:=
 ⟨h.key,h.txt,by rw[hd,if_neg hne];exact h.is⟩
theorem i6{i j:Nat}(hi:i<4294967296)(hj:j<4294967296)(h:i≠j):UInt32.ofNat i≠UInt32.ofNat j:=fun e=>h (by
 have:=congrArg UInt32.toNat e
 simpa[Nat.mod_eq_of_lt hi,Nat.mod_eq_of_lt hj]using this)
theorem VS.write{T:List UInt32}{N c:Nat}{R:List BP}{g:UInt32}{v:Az}{d:Ah}(V9:VS N c R g v d)(hc:c+1≤100){k:BP}(hk:DP R g=(k,0)){s:List UInt8}(hs:s.length≤198)(j:Nat)
(h2:2≤j)(hj:j<N)(hfree:EK v (UInt32.ofNat j)=false)(htk:∀x,2≤x→x<j→EK v (UInt32.ofNat x)=true):
  ∃v' d' b,GW T v d s=some (⟨UInt32.ofNat j,b.drop 224⟩,0,v',d')∧VS N (c+1) R g v' d'∧v'.seals=v.seals+1∧v'.taken=MP v.taken (UInt32.ofNat j) true∧
   (∀q,Id d' q=if UInt32.ofNat j=q then b else Id d q)∧Vp T R d' (UInt32.ofNat j) g v.seals s b∧b=HX T k ⟨UInt32.ofNat j,g,1,v.seals⟩ s∧d'.blocks=d.blocks:=by
 have hN:=V9.dev.nle
 have hjn:(UInt32.ofNat j).toNat=j:=by simp;omega
 have hh:hd v (UInt32.ofNat j)=⟨UInt32.ofNat j,g,1,v.seals⟩:=by simp only[hd,V9.gen,V9.boot]
 have hb:=Ke T k (hd v (UInt32.ofNat j)) hs
 have hw:=jX (T:=T) V9.dev hc (by rw[V9.ring];exact V9.rlen) (by rw[V9.ring,V9.gen];exact hk) hs h2 hj hfree htk (by have:=V9.tlen;omega)
 refine⟨_,_,_,hw,⟨(V9.dev.write hc (by rw[hjn];exact hj) hb).2,V9.ring,V9.rlen,V9.gen,V9.boot,?_⟩,rfl,rfl,fun q=>VN,⟨⟨k,hk,by rw[hh]⟩,hs,?_⟩,by rw[hh],rfl⟩
 have:(G6 v.taken (UInt32.ofNat j)).length≤v.taken.length:=List.length_filter_le ..
 have:=V9.tlen
 show(G6 v.taken (UInt32.ofNat j)).length+1≤c+1
 omega
 rw[VN,if_pos rfl]
theorem VS.read{T:List UInt32}{N c:Nat}{R:List BP}{g g':UInt32}{v:Az}{d:Ah}(V9:VS N c R g v d){p:UInt32}{q:UInt64}{s b:List UInt8}(h:Vp T R d p g' q s b)(hp2:2≤p.toNat)(hp:p.toNat<N):
  Qu T v d ⟨p,b.drop 224⟩=some (s,0):=by
 have hb:=h.len
 have hr:L3 d p=some (b,0):=by rw[V9.dev.read hp,h.is]
 have ht:(b.drop 224).length=32:=by simp[hb]
 have hl:v.ring.length≤1099511627776:=by rw[V9.ring];exact V9.rlen
 have h1:=lQ (T:=T) (v:=v) (d:=d) (r:=⟨p,b.drop 224⟩) hp2 ht hr hb hl
 rw[if_pos ⟨rfl,h.page⟩,V9.ring,h.opens]at h1
 exact h1
def d0(N:Nat):Ah:={ off:=false,isCut:=false,lasts:=0,counts:=0,blocks:=List.replicate N (List.replicate 256 0),pend:=[],bad:=[],rcnt:=0,rtag:=List.replicate 32 0,rboots:=0 }
def v0:Az:={ ring:=Di 1,gen:=1,boot:=1,seals:=0,taken:=[] }
theorem Xb{m:Nat}(h:1≤m)(hm:m≤16):DP (Di m) 1=(SS 0,0):=cZ hm h
def r0(N:Nat):A5:={ blk:=List.replicate N (List.replicate 256 0),pnd:=List.replicate N [],bads:=List.replicate N false,rcnt:=0,rtag:=List.replicate 32 0,rboots:=0,left := -1,off:=false }
theorem ou{N n:Nat}(h4:4≤N)(hN:N≤4096)(hn:N<n):Kw n (N:Int)=some (some (r0 N),0):=by
 have z:∀k:Nat,k≤1048576→FB (k:Int)=some (List.replicate k 0):=fun k hk=>by
  rw[ja zO zO]
  simp
 have z1:=z 32 zO
 have z2:=z 256 zO
 clear z
 unfold Kw r0
 have hc:(decide ((N:Int)<4)||decide (4096<(N:Int)))=false:=by simp;omega
 rw[hc,CE]
 show(FB ((32:Nat):Int)).bind _=_
 rw[z1,AB]
 generalize List.replicate 32 (0:UInt8)=Y9
 generalize List.replicate 256 (0:UInt8)=Z9 at z2 ⊢
 unfold Ls
 refine Ec (fun i=>(List.replicate i Z9,List.replicate i [],List.replicate i false,(i:Int))) N ?_ ?_ hn
 intro i hi k
 simp only[Hn]
 rw[zt zO,Cz]
 show(FB ((256:Nat):Int)).bind _=_
 rw[z2,AB,DX zQ zQ,AB,DX zQ zQ,AB,DX zQ zQ,AB,Bw,Cw zO zO]
 rw[←List.replicate_succ',←List.replicate_succ',←List.replicate_succ']
 rfl
 intro k
 simp only[Hn]
 rw[zf zO,CE]
 rfl
end

section
structure TG(N:Nat)(v:Az):Prop where
 nd:(v.taken.map (·.1)).Nodup
 tr:∀e∈v.taken,e.2=true∧2≤e.1.toNat∧e.1.toNat<N
theorem TG.iff{N:Nat}{v:Az}(h:TG N v)(p:UInt32):EK v p=true↔p∈v.taken.map (·.1):=by
 unfold EK
 constructor
 intro hp
 by_cases hm:∃e∈v.taken,e.1=p
 obtain⟨e,he,rfl⟩:=hm
 exact List.mem_map_of_mem he
 rw[Xv (fun e he e'=>hm ⟨e,he,e'⟩)]at hp
 exact absurd hp zD
 intro hp
 obtain⟨e,he,rfl⟩:=List.mem_map.1 hp
 rw[Tw h.nd he]
 exact(h.tr e he).1
theorem ofNat_toNat{x:UInt32}:UInt32.ofNat x.toNat=x:=UInt32.toNat_inj.1 zS
theorem TG.full{N:Nat}{v:Az}(h:TG N v)(hN:N≤4096)(hl:N-2≤v.taken.length):∀x,2≤x→x<N→EK v (UInt32.ofNat x)=true:=by
 intro x h1 h2
 rw[h.iff]
 by_cases hm:UInt32.ofNat x∈v.taken.map (·.1)
 exact hm
 exfalso
 have hnd:(x::v.taken.map fun e=>e.1.toNat).Nodup:=by
  refine List.nodup_cons.2 ⟨fun hx=>?_,?_⟩
  obtain⟨e,he,e'⟩:=List.mem_map.1 hx
  refine hm ?_
  rw[←e',ofNat_toNat]
  exact List.mem_map_of_mem he
  have:=h.nd
  rw[show(v.taken.map fun e=>e.1.toNat)=(v.taken.map (·.1)).map UInt32.toNat by simp]
  exact List.Pairwise.map _ (fun a b hab e=>hab (UInt32.toNat_inj.1 e)) this
 have:=Q3 hnd (l':=(List.range (N-2)).map (·+2)) (fun a ha=>by
  have hb:2≤a∧a<N:=by
   rcases List.mem_cons.1 ha with rfl | ha
   exact⟨h1,h2⟩
   obtain⟨e,he,rfl⟩:=List.mem_map.1 ha
   exact(h.tr e he).2
  exact List.mem_map.2 ⟨a-2,List.mem_range.2 zO,by omega⟩)
 simp at this
 omega
theorem Yz{P:Nat→Prop}:∀k,(∃j,j<k∧P j)→∃j,j<k∧P j∧∀x,x<j→¬P x
 | 0,⟨j,h,_⟩=>by omega
 | k+1,⟨j,h,hP⟩=>by
  by_cases hk:∃i,i<k∧P i
  obtain⟨i,h1,h2,h3⟩:=Yz k hk
  exact⟨i,by omega,h2,h3⟩
  have:j=k:=by
   rcases Nat.lt_or_ge j k with h' | h'
   exact absurd ⟨j,h',hP⟩ hk
   omega
  subst this
  exact⟨j,by omega,hP,fun x hx hPx=>hk ⟨x,hx,hPx⟩⟩
theorem TG.free{N:Nat}{v:Az}(h:TG N v)(hN:N≤4096)(hl:v.taken.length<N-2):∃j,2≤j∧j<N∧EK v (UInt32.ofNat j)=false∧∀x,2≤x→x<j→EK v (UInt32.ofNat x)=true:=by
 have:∃j,j<N∧(2≤j∧EK v (UInt32.ofNat j)=false):=by
  by_cases hx:∃j,j<N∧(2≤j∧EK v (UInt32.ofNat j)=false)
  exact hx
  exfalso
  have hnd:((List.range (N-2)).map (fun i=>UInt32.ofNat (i+2))).Nodup:=by
   refine List.pairwise_map.2 (List.Pairwise.imp_of_mem ?_ List.nodup_range)
   intro a b ha hb hne
   have ha:=List.mem_range.1 ha
   have hb:=List.mem_range.1 hb
   exact i6 zO zO zO
  have:=Q3 hnd (l':=v.taken.map (·.1)) (fun a ha=>by
   obtain⟨i,hi,rfl⟩:=List.mem_map.1 ha
   have hi:=List.mem_range.1 hi
   rw[←h.iff]
   cases hc:EK v (UInt32.ofNat (i+2))with
   | true=>rfl
   | false=>exact absurd ⟨i+2,by omega,by omega,hc⟩ hx)
  simp at this
  omega
 obtain⟨j,h1,⟨h2,h3⟩,h4⟩:=Yz N this
 refine⟨j,h2,h1,h3,fun x hx1 hx2=>?_⟩
 cases hc:EK v (UInt32.ofNat x)with
 | true=>rfl
 | false=>exact absurd ⟨hx1,hc⟩ (h4 x hx2)
def Rd(T:List UInt32)(R:List BP)(N:Nat)(v:Az)(d:Ah)(s:BL):Prop:=2≤s.page.toNat∧s.page.toNat<N∧EK v s.page=true∧∃g' qn b,Vp T R d s.page g' qn s.txt b∧s.tag=b.drop 224
theorem Rd.ok{T:List UInt32}{R:List BP}{N c:Nat}{g:UInt32}{v:Az}{d:Ah}{s:BL}(V9:VS N c R g v d)(h:Rd T R N v d s):Qu T v d ⟨s.page,s.tag⟩=some (s.txt,0)∧FD ⟨s.page,s.tag⟩=true∧s.txt.length≤198:=by
 obtain⟨h1,h2,_,g',qn,b,hb,ht⟩:=h
 have hl:=hb.len
 refine⟨by rw[ht];exact V9.read hb h1 h2,?_,hb.txt⟩
 unfold FD
 rw[Bool.and_eq_true,decide_eq_true_eq,decide_eq_true_eq]
 refine⟨UInt32.le_iff_toNat_le.2 h1,?_⟩
 show(s.tag.length:Int)=32
 rw[ht,List.length_drop,hl]
 rfl
structure jx(N c0:Nat)(R:List BP)(g:UInt32)(vb:Az)(db:Ah)(q:YM):Prop where
 vs:VS N (c0+q.tk.length) R g q.v q.d
 seals:q.v.seals=vb.seals+UInt64.ofNat q.tk.length
 tak:q.v.taken=(q.tk.map fun p=>(p,true)).reverse++vb.taken
 ok:TG N q.v
 keep:∀p,p∉q.tk→Id q.d p=Id db p
 lim:c0+q.tk.length+(N-2-q.v.taken.length)≤100
theorem jx.notin{N c0:Nat}{R:List BP}{g:UInt32}{vb:Az}{db:Ah}{q:YM}(S:jx N c0 R g vb db q)(hb:TG N vb){p:UInt32}(h:EK vb p=true):p∉q.tk∧EK q.v p=true:=by
 rw[hb.iff]at h
 constructor
 intro hp
 have:=S.ok.nd
 rw[S.tak,List.map_append]at this
 refine(List.nodup_append.1 this).2.2 p ?_ p h rfl
 rw[List.map_reverse,List.mem_reverse,List.map_map]
 exact List.mem_map.2 ⟨p,hp,rfl⟩
 rw[S.ok.iff,S.tak,List.map_append]
 exact List.mem_append_right _ h
theorem jx.base{T:List UInt32}{N c0:Nat}{R:List BP}{g:UInt32}{vb:Az}{db:Ah}{q:YM}(S:jx N c0 R g vb db q)(hb:TG N vb){s:BL}(h:Rd T R N vb db s):Rd T R N q.v q.d s:=by
 obtain⟨h1,h2,h3,g',qn,b,hb',ht⟩:=h
 obtain⟨h4,h5⟩:=S.notin hb h3
 exact⟨h1,h2,h5,g',qn,b,⟨hb'.key,hb'.txt,by rw[S.keep _ h4];exact hb'.is⟩,ht⟩
end

section
theorem VT:∀ {f:Nat} {l:List Ao} {t:Ca} ,Tr f l t→(l=[]→PA f t=1)∧(l≠[]→PA f t+1≤2*l.length)
  | 0,_,_,h=>h.elim
  | f+1,l,t,h=>by
    rcases h with⟨rfl,rfl⟩ | ⟨hne,c,L,A,⟨_,rfl⟩ | ⟨h4,hL,ks,rfl,hk⟩⟩
    exact⟨fun _=>rfl,fun h=>absurd rfl h⟩
    refine⟨fun h=>absurd h hne,fun _=>?_⟩
    have:=List.length_pos_iff.2 hne
    rw[PA,if_pos (show(Ca.mk c.x c.y c.lev l []).kids.length=0 from rfl)]
    simp only[Ca.rows]
    omega
    refine⟨fun h=>absurd h hne,fun _=>?_⟩
    have hkl:=hk.length
    have hq2:=(T3 A hL).1
    rw[PA,if_neg (by simp only[Ca.kids];omega)]
    simp only[Ca.kids]
    have key:∀ {xs:List (List Ao)} {ys:List Ca},Vl (Tr f) xs ys→(∀x∈xs,x≠[])→(ys.map (PA f)).sum+xs.length≤2*xs.flatten.length:=by
      intro xs ys h
      induction h with
      | nil=>simp
      | @cons x y xs ys h1 h2 ih=>
        intro hx
        have a1:=(VT h1).2 (hx _ zS)
        have a2:=ih fun x hx'=>hx x (by simp[hx'])
        simp only[List.map_cons,List.sum_cons,List.length_cons,List.flatten_cons,List.length_append]
        omega
    have:=key hk fun x hx=>(T2 hx).1
    rw[(dJ L l).length_eq]at this
    omega
theorem e7{f:Nat}{l:List Ao}{t:Ca}(h:Tr f l t)(hl:l.length≤1000):PA f t≤max 1 (2*l.length):=by
  obtain⟨h1,h2⟩:=VT h
  by_cases e:l=[]
  rw[h1 e];omega
  have:=h2 e
  omega
theorem c7{s:List UInt8}(h:s.length≤1048576):Vz s=some ⟨s,h⟩:=dif_pos h
theorem Xu{m:List (UInt32×Bool)}{p:UInt32}(h:p∉m.map (·.1)):G6 m p=m:=S4 fun e he e'=>h (by rw[←e'];exact List.mem_map_of_mem he)
theorem pA{T:List UInt32}{N c0:Nat}{R:List BP}{g:UInt32}{vb:Az}{db:Ah}{th:List (M8×BV)}{k:BP}(hb:TG N vb)(hN:N≤4096)(hk:DP R g=(k,0))(hth:∀key r,C8 th key=some r→Rd T R N vb db ⟨key.1,r.page,r.tag⟩):
    fy (Sb T th) (jx N c0 R g vb db) (fun q s=>Rd T R N q.v q.d s) (fun q=>N-2-q.v.taken.length):=by
  refine⟨fun q s S hs=>?_⟩
  unfold Sb
  rw[c7 (show s.length≤1048576 by omega),AB]
  cases hm:C8 th ⟨s,by omega⟩with
  | some r=>
    have hr:=S.base hb (hth _ r hm)
    exact⟨r,0,q,rfl,S,fun _ h=>h,.inl ⟨rfl,(hr.ok S.vs).2.1,hr,Nat.le_succ _⟩⟩
  | none=>
    rw[show(none:Option BV).isSome=false from rfl,CE]
    by_cases hroom:q.v.taken.length<N-2
    obtain⟨j,j1,j2,j3,j4⟩:=S.ok.free hN hroom
    have hlim:=S.lim
    obtain⟨v',d',b,e1,V1,s1,t1,h1,H1,_,_⟩:=S.vs.write (T:=T) zO hk hs j j1 j2 j3 j4
    have hjn:(UInt32.ofNat j).toNat=j:=by simp;omega
    have hnin:UInt32.ofNat j∉q.v.taken.map (·.1):=by
      rw[←S.ok.iff,j3]
      decide
    have htk:v'.taken=(UInt32.ofNat j,true)::q.v.taken:=by rw[t1,MP,Xu hnin]
    have hok:TG N v':=by
      refine⟨?_,fun e he=>?_⟩
      rw[htk,List.map_cons]
      exact List.nodup_cons.2 ⟨hnin,S.ok.nd⟩
      rw[htk]at he
      rcases List.mem_cons.1 he with rfl | he
      exact⟨rfl,by rw[hjn];exact j1,by rw[hjn];exact j2⟩
      exact S.ok.tr e he
    have hntk:UInt32.ofNat j∉q.tk:=fun hj=>hnin (by
      rw[S.tak,List.map_append]
      refine List.mem_append_left _ ?_
      rw[List.map_reverse,List.mem_reverse,List.map_map]
      exact List.mem_map.2 ⟨_,hj,rfl⟩)
    rw[e1,AB]
    dsimp only
    rw[show decide ((0:Int)=0)=true from rfl,Cz,DX zQ zQ,AB]
    have hlen:(q.tk++[UInt32.ofNat j]).length=q.tk.length+1:=by simp
    refine⟨_,0,⟨q.tk++[UInt32.ofNat j],v',d'⟩,rfl,⟨?_,?_,?_,hok,fun p hp=>?_,?_⟩,fun x hx=>?_,.inl ⟨rfl,?_,?_,?_⟩⟩
    show VS N (c0+(q.tk++[UInt32.ofNat j]).length) R g v' d'
    rw[hlen]
    exact V1
    show v'.seals=vb.seals+UInt64.ofNat (q.tk++[UInt32.ofNat j]).length
    rw[s1,S.seals,hlen,UInt64.ofNat_add,UInt64.add_assoc]
    rfl
    show v'.taken=_
    rw[htk,S.tak]
    simp
    simp only[List.mem_append,List.mem_singleton,not_or]at hp
    show Id d' p=_
    rw[h1,if_neg (fun e=>hp.2 e.symm)]
    exact S.keep p hp.1
    show c0+(q.tk++[UInt32.ofNat j]).length+(N-2-v'.taken.length)≤100
    rw[hlen,htk,List.length_cons]
    omega
    obtain⟨x1,x2,x3,g',qn,b',x4,x5⟩:=hx
    have hne:UInt32.ofNat j≠x.page:=fun e=>by
      rw[←e,j3]at x3
      exact absurd x3 zD
    refine⟨x1,x2,?_,g',qn,b',x4.put h1 hne,x5⟩
    show EK v' x.page=true
    rw[hok.iff,htk,List.map_cons]
    exact List.mem_cons_of_mem _ ((S.ok.iff _).1 x3)
    have hl:=H1.len
    unfold FD
    rw[Bool.and_eq_true,decide_eq_true_eq,decide_eq_true_eq]
    refine⟨UInt32.le_iff_toNat_le.2 (by rw[hjn];exact j1),?_⟩
    rw[List.length_drop,hl]
    rfl
    refine⟨by rw[hjn];exact j1,by rw[hjn];exact j2,?_,g,q.v.seals,b,H1,rfl⟩
    show EK v' (UInt32.ofNat j)=true
    rw[hok.iff,htk]
    simp
    show N-2-q.v.taken.length≤N-2-v'.taken.length+1
    rw[htk,List.length_cons]
    omega
    have hw:=di (T:=T) S.vs.dev hs (S.ok.full hN zO)
    rw[hw,AB]
    dsimp only
    rw[show decide ((110:Int)=0)=false from rfl,CE]
    exact⟨_,110,q,rfl,S,fun _ h=>h,.inr ⟨rfl,by omega⟩⟩
theorem ZL:∀(l:List (Int×BL)) (m:List (M8×BV)),(∀s∈l,s.2.txt.length≤1048576)→m.length+l.length≤1000000000→
    ∃m',RG l m=some m'∧∀k:M8,C8 m' k=((l.reverse.find? fun s=>decide (s.2.txt=k.1)).map fun s=>(⟨s.2.page,s.2.tag⟩:BV)).or (C8 m k)
  | [],m,_,_=>⟨m,rfl,fun k=>by simp⟩
  | s::l,m,h,hb=>by
    simp only[List.length_cons]at hb
    have hd:(G6 m ⟨s.2.txt,h s zS⟩).length≤m.length:=List.length_filter_le ..
    obtain⟨m',h1,h2⟩:=ZL l (MP m ⟨s.2.txt,h s zS⟩ ⟨s.2.page,s.2.tag⟩) (fun x hx=>h x (by simp[hx])) (by
      show(G6 m _).length+1+l.length≤_
      omega)
    refine⟨m',?_,fun k=>?_⟩
    rw[RG,c7 (h s zS),AB]
    unfold My
    rw[if_pos zO,AB]
    exact h1
    rw[h2 k,List.reverse_cons,List.find?_append,Y4]
    cases hf:l.reverse.find? fun s=>decide (s.2.txt=k.1)with
    | some x=>rfl
    | none=>
      simp only[Option.map_none,Option.none_or,List.find?_singleton]
      by_cases e:s.2.txt=k.1
      rw[if_pos (Subtype.ext e),if_pos (by simpa using e)]
      rfl
      rw[if_neg (fun e'=>e (congrArg Subtype.val e')),if_neg (by simpa using e)]
      rfl
theorem W6{α:Type}(xs:List α):(E4 xs).reverse.map (·.2)=xs:=by
  unfold E4
  rw[List.reverse_reverse,List.map_map]
  have:((fun x:Int×α=>x.2)∘fun p:α×Nat=>((p.2:Int),p.1))=Prod.fst:=rfl
  rw[this,List.zipIdx_map_fst]
theorem eA{α:Type}{xs:List α}{s:Int×α}(h:s∈E4 xs):s.2∈xs:=by
  rw[←W6 xs]
  exact List.mem_map_of_mem (List.mem_reverse.2 h)
theorem fV(had:List BL)(h:∀s∈had,s.txt.length≤1048576)(hb:had.length≤1000000000):∃th,RG (E4 had) []=some th∧∀k:M8,C8 th k=(had.find? fun s=>decide (s.txt=k.1)).map fun s=>(⟨s.page,s.tag⟩:BV):=by
  obtain⟨th,h1,h2⟩:=ZL (E4 had) [] (fun s hs=>h _ (eA hs)) (by rw[JT];simpa using hb)
  refine⟨th,h1,fun k=>?_⟩
  rw[h2 k,show C8 ([]:List (M8×BV)) k=none from rfl,Option.or_none]
  conv=>rhs;rw[←W6 had]
  rw[List.find?_map,Option.map_map]
  rfl
theorem Yw{N:Nat}(hN:N≤4096):∀(tk:List UInt32) (v:Az) (d:Ah) (base:List (UInt32×Bool)),d.blocks.length=N→v.taken=(tk.map fun p=>(p,true)).reverse++base→(v.taken.map (·.1)).Nodup→(∀p∈tk,2≤p.toNat∧p.toNat<N)→
    SP tk v d=some { v with taken:=base }
  | [],v,d,base,_,h,_,_=>by
    simp at h
    rw[SP,←h]
  | p::tk,v,d,base,hd,h,hn,hr=>by
    obtain⟨r1,r2⟩:=hr p zS
    have hmem:(p,true)∈v.taken:=by rw[h];simp
    have hg:=Tw hn hmem
    have hdel:G6 v.taken p=(tk.map fun p=>(p,true)).reverse++base:=by
      rw[h]at hn ⊢
      simp only[List.map_cons,List.reverse_cons,List.append_assoc,List.singleton_append,List.map_append]at hn ⊢
      obtain⟨n1,n2,n3⟩:=List.nodup_append.1 hn
      obtain⟨n4,n5⟩:=List.nodup_cons.1 n2
      unfold G6
      rw[List.filter_append,List.filter_cons_of_neg zS]
      congr 1
      exact Xu (m:=(tk.map fun p=>(p,true)).reverse) fun hp=>n3 p hp p zS rfl
      exact Xu n4
    have hi:Ht v d p=some true:=by
      have:=Xr v d p.toNat r1 zO
      rw[ofNat_toNat,hd,zt r2]at this
      exact this
    have hgive:KI v d p=some (0,{ v with taken:=G6 v.taken p }):=by
      unfold KI
      rw[hi,AB,Bw,hg]
      rfl
    rw[SP,hgive,AB]
    have:=Yw hN tk { v with taken:=G6 v.taken p } d base hd hdel (by
      show((G6 v.taken p).map (·.1)).Nodup
      exact c8 hn) (fun q hq=>hr q (by simp[hq]))
    exact this
theorem WB{l:List Ao}(h:E2 l=true):l.length≤1000:=by
  unfold E2 at h
  simp only[Bool.and_eq_true,decide_eq_true_eq]at h
  omega
theorem jJ{n N c0:Nat}{T:List UInt32}{R:List BP}{g:UInt32}{vb:Az}{db:Ah}{k:BP}{l:List Ao}{had:List BL}(hn:1100≤n)(hN:N≤4096)(V9:VS N c0 R g vb db)(hb:TG N vb)(hk:DP R g=(k,0))(hl:E2 l=true)
(hhad:∀s∈had,Rd T R N vb db s)(hlen:had.length≤100000)(hlim:c0+(N-2-vb.taken.length)≤100):
    ∃t th,Sx n l=some (t,0)∧Tr n l t∧(∀k:M8,C8 th k=(had.find? fun s=>decide (s.txt=k.1)).map fun s=>(⟨s.page,s.tag⟩:BV))∧
      ((∃r out q,Sc n T vb db l had=some (out,0,q.v,q.d)∧Wn n t out r∧FD r=true∧jx N c0 R g vb db q∧(∀s∈out,Rd T R N q.v q.d s)∧out.length=PA n t∧Wm (Sb T th) ⟨[],vb,db⟩ out q∧N-2-vb.taken.length≤N-2-q.v.taken.length+PA n t)∨
       (∃v d c,Sc n T vb db l had=some ([],110,v,d)∧N-2-vb.taken.length<PA n t∧v.taken=vb.taken∧VS N c R g v d)):=by
  obtain⟨t,h1,_,hT⟩:=iW (n:=n) (l:=l) zO hl
  obtain⟨th,h2,h3⟩:=fV had (fun s hs=>by have:=((hhad s hs).ok V9).2.2;omega) zO
  have hth:∀(key:M8) r,C8 th key=some r→Rd T R N vb db ⟨key.1,r.page,r.tag⟩:=by
    intro key r hr
    rw[h3 key]at hr
    obtain⟨s,hs,rfl⟩:=Option.map_eq_some_iff.1 hr
    have h5:=List.find?_some hs
    simp only[decide_eq_true_eq]at h5
    rw[←h5]
    exact hhad s (List.mem_of_find?_eq_some hs)
  have W:=pA (T:=T) (c0:=c0) (db:=db) hb hN hk hth
  have hpg:=e7 hT (WB hl)
  have hl1:=WB hl
  have S0:jx N c0 R g vb db ⟨[],vb,db⟩:=⟨V9,by simp,by simp,hb,fun _ _=>rfl,by simpa using hlim⟩
  obtain⟨r,p',q,e1,e2,e3,e4,e5⟩:=Y7 W (n:=n) zO n l t ⟨[],0⟩ ⟨[],vb,db⟩ hT hl S0 rfl zQ
  refine⟨t,th,h1,hT,h3,?_⟩
  have hsave:Sc n T vb db l had=bA (r,(p',q)):=by
    unfold Sc
    rw[h1,AB,show(!decide ((0:Int)=0))=false from rfl,CE,if_neg zO,h2,AB,e1,AB]
  rw[hsave]
  unfold bA
  rcases e5 with⟨w,seg,o1,o2,o3,o4,o5,o6⟩ | ⟨w,o6⟩
  left
  simp only[List.nil_append]at o1
  refine⟨r,seg,q,?_,o3,e2 w,e3,o5,o2,o4,o6⟩
  dsimp only
  rw[w,show(!decide ((0:Int)=0))=false from rfl,CE,o1]
  right
  have hlim2:=e3.lim
  refine⟨{ q.v with taken:=vb.taken },q.d,c0+q.tk.length,?_,o6,rfl,?_⟩
  dsimp only
  rw[w,show(!decide ((110:Int)=0))=true from rfl,Cz,if_neg zO,Yw hN q.tk q.v q.d vb.taken e3.vs.dev.blen e3.tak e3.ok.nd (fun p hp=>by
    have:=e3.ok.tr (p,true) (by rw[e3.tak];refine List.mem_append_left _ ?_;rw[List.mem_reverse];exact List.mem_map.2 ⟨p,hp,rfl⟩)
    exact this.2),AB]
  have V':=e3.vs
  exact⟨V'.dev,V'.ring,V'.rlen,V'.gen,V'.boot,Nat.le_trans V9.tlen (Nat.le_add_right ..)⟩
end

section
variable {K:Nat→Prop}{w0:World}{H:List AY}
def DV(p0:UInt32)(p1:Int):Option UInt32:=
 (QV p1).bind fun n1=>
 (QV (wI (32-p1))).bind fun n2=>
 ret ((shl32 p0 n1) ||| (shr32 p0 n2)) fun x1=>
 some x1
theorem Li{p0 r:UInt32}{p1:Int}(h:DV p0 p1=some r): zC K w0 325 [AA p0,vI p1] [] H (fun u M=>u=AA r∧M=[]):=by
 unfold DV at h
 refine Td.enter Tryz.func325 rfl rfl ?_
 refine Y (U E (V (AH ?_)))
 refine AE h fun n1 hn1 h=>?_
 refine AE h fun n2 hn2 h=>?_
 obtain⟨x1,ex1,h⟩:=Bz h
 refine Aw DG [] (C4 [(true,0),(true,1),(true,2),(true,3),(true,4),(true,5),(true,6),(true,7),(true,8)]) zK (J E (J E (Z E (Rh hn1) (J E (J E (Z E Dm (Z E (Vn hn2) ?_)))))))
 refine Z E Er ?_
 refine Ak (u:=AA x1) E E (by rw[ex1]) ?_
 refine V (AL ?_)
 obtain rfl:=zI h
 exact AX [] 0 E E E
def IL(p0:UInt32)(p1:UInt32)(p2:UInt32)(p3:UInt32):Option (List UInt32):=
 ret (p0+p1) fun a_1=>
 (DV (p3 ^^^ a_1) 16).bind fun y1=>
 ret (p2+y1) fun x1=>
 (DV (p1 ^^^ x1) 12).bind fun y2=>
 ret (a_1+y2) fun a_2=>
 (DV (y1 ^^^ a_2) 8).bind fun y3=>
 ret (x1+y3) fun x2=>
 (DV (y2 ^^^ x2) 7).bind fun y4=>
 some [a_2,y4,x2,y3]
theorem QJ{p0 p1 p2 p3:UInt32}{r:List UInt32}(h:IL p0 p1 p2 p3=some r): zC K w0 323 [AA p0,AA p1,AA p2,AA p3] [] H (fun u M=>u=.agg (DM AA r)∧r.length=4∧M=[]):=by
 unfold IL at h
 refine Td.enter Tryz.func323 rfl rfl ?_
 refine Y ?_
 refine Am E Sl zU fun b1=>?_
 refine V (Y ?_)
 obtain⟨a_1,ea_1,h⟩:=Bz h
 refine J E (J E (Z E B1 ?_))
 refine Ak (u:=AA a_1) E E (by rw[ea_1]) ?_
 refine V (Y ?_)
 refine AE h fun y1 hy1 h=>?_
 refine J E (J E (Z E Ci (AP 0 We (Li hy1) E (U E (V (Y ?_))))))
 obtain⟨x1,ex1,h⟩:=Bz h
 refine J E (J E (Z E B1 ?_))
 refine Ak (u:=AA x1) E E (by rw[ex1]) ?_
 refine V (Y ?_)
 refine AE h fun y2 hy2 h=>?_
 refine J E (J E (Z E Ci (AP 0 We (Li hy2) E (U E (V (Y ?_))))))
 obtain⟨a_2,ea_2,h⟩:=Bz h
 refine J E (J E (Z E B1 ?_))
 refine Ak (u:=AA a_2) E E (by rw[ea_2]) ?_
 refine V (Y ?_)
 refine AE h fun y3 hy3 h=>?_
 refine J E (J E (Z E Ci (AP 0 We (Li hy3) E (U E (V (Y ?_))))))
 obtain⟨x2,ex2,h⟩:=Bz h
 refine J E (J E (Z E B1 ?_))
 refine Ak (u:=AA x2) E E (by rw[ex2]) ?_
 refine V (Y ?_)
 refine AE h fun y4 hy4 h=>?_
 refine J E (J E (Z E Ci (AP 0 We (Li hy4) E (U E (V (Y (J E (J E (J E ?_)))))))))
 refine J E (CB [_,_,_,_] E rK q9 Sl ⟨E,E,E,E,zT⟩ E (A8 0 E E E E Vf E E E zT (V (AL ?_))))
 obtain rfl:=zI h
 exact Ag (Ie E (CC 0 (([a_2,y4,x2,y3]).map AA) d7 E E E E)) (Af (M:=[]) ⟨E,E,E⟩ fun _ hw=>BW.pick (H:=[_]) hw [] 1 E)
def JX(p0:List UInt8)(p1:Int):Option UInt32:=
 (BE p0 p1).bind fun c1=>
 (BE p0 (wI (p1+1))).bind fun c2=>
 (BE p0 (wI (p1+2))).bind fun c3=>
 (BE p0 (wI (p1+3))).bind fun c4=>
 ret (((c1.toUInt32 ||| (shl32 c2.toUInt32 8)) ||| (shl32 c3.toUInt32 16)) ||| (shl32 c4.toUInt32 24)) fun x1=>
 some x1
theorem TL{p0:List UInt8}{p1:Int}{r:UInt32}(h:JX p0 p1=some r): zC K w0 322 [vS p0,vI p1] [] H (fun u M=>u=AA r∧M=[]):=by
 unfold JX at h
 refine Td.enter Tryz.func322 rfl rfl ?_
 refine Y (U E (V (AH ?_)))
 refine AE h fun c1 hc1 h=>?_
 refine AE h fun c2 hc2 h=>?_
 refine AE h fun c3 hc3 h=>?_
 refine AE h fun c4 hc4 h=>?_
 obtain⟨x1,ex1,h⟩:=Bz h
 refine Aw DG [] (C4 [(true,0),(true,1),(true,2),(true,3),(true,4),(true,5),(true,6),(true,7),(true,8),(true,9),(true,10),(true,11),(true,12),(true,13),(true,14),(true,15),(true,16),(true,17),(true,18),(true,19),(true,20),(true,21),(true,22),(true,23),(true,24),(true,25)]) zK (J E (J E (KZ hc1 E Ch E E (BF E E (FG DI CP) (J E (J E (Z E Bf ?_)))))))
 refine KZ hc2 E Ch E E (BF E E (FG DI CP) ?_)
 refine Z E (FO.shl32 (n:=8)) ?_
 refine Z E Er (J E (J E (Z E Bf (KZ hc3 E Ch E E (BF E E (FG DI CP) ?_)))))
 refine Z E (FO.shl32 (n:=16)) ?_
 refine Z E Er (J E (J E (Z E Bf (KZ hc4 E Ch E E (BF E E (FG DI CP) ?_)))))
 refine Z E (FO.shl32 (n:=24)) ?_
 refine Z E Er ?_
 refine Ak (u:=AA x1) E E (by rw[ex1]) ?_
 refine V (AL ?_)
 obtain rfl:=zI h
 exact AX [] 0 E E E
def Jq(l5:List UInt32):Option (List UInt32):=
 some l5
def GL(p2:List UInt8)(nx_f_ref01_State_l2:List UInt32×Int→Option (List UInt32))(l6:List UInt32)(a2:Int):Option (List UInt32):=
 cond (decide (a2<3))
 (
  (JX p2 (wI (4*a2))).bind fun y2=>
  (DK 4 l6 [y2]).bind fun l7=>
  ret (wI (a2+1)) fun i_2=>
  nx_f_ref01_State_l2 (l7,i_2))
 (
  Jq l6)
def Js(p2:List UInt8):Nat→(List UInt32×Int)→Option (List UInt32):=CO fun nx x=>GL p2 nx x.1 x.2
def Hg(n:Nat)(p1:UInt32)(p2:List UInt8)(l1:List UInt32):Option (List UInt32):=
 (DK 4 l1 [p1]).bind fun l4=>
 Js p2 n (l4,0)
def GK(n:Nat)(p0:List UInt8)(p1:UInt32)(p2:List UInt8)(nx_f_ref01_State_l1:List UInt32×Int→Option (List UInt32))(l2:List UInt32)(a1:Int):Option (List UInt32):=
 cond (decide (a1<8))
 (
  (JX p0 (wI (4*a1))).bind fun y1=>
  (DK 4 l2 [y1]).bind fun l3=>
  ret (wI (a1+1)) fun i_1=>
  nx_f_ref01_State_l1 (l3,i_1))
 (
  Hg n p1 p2 l2)
def Jr(n:Nat)(p0:List UInt8)(p1:UInt32)(p2:List UInt8):Nat→(List UInt32×Int)→Option (List UInt32):=CO fun nx x=>GK n p0 p1 p2 nx x.1 x.2
def KA(n:Nat)(p0:List UInt8)(p1:UInt32)(p2:List UInt8):Option (List UInt32):=
 Jr n p0 p1 p2 n ([1634760805,857760878,2036477234,1797285236],0)
theorem XE{n:Nat}{p0 p2:List UInt8}{p1:UInt32}{r:List UInt32}(h:KA n p0 p1 p2=some r): zC K w0 309 [vS p0,AA p1,vS p2] [] H (fun u M=>∃v0:Value,u=v0∧M=[AC 33 1 v0 BQ r]):=by
 unfold KA at h
 refine Td.enter Tryz.func309 rfl rfl ?_
 refine Y (B8 33 1 BQ (U E (V (Y ?_))))
 refine CD [_,_,_,_] E CU Bk H8 ⟨E,E,E,E,zT⟩ E E E zX E E zU fun b1=>?_
 refine CF BQ 1 ([1634760805,857760878,2036477234,1797285236]:List UInt32) E zV E ?_
 refine U E (V ?_)
 refine BB (α:=List UInt32×Value) (fun x=>Hg n p1 p2 x.1=some r) (fun x=>[(1,AA p1),(2,vS p2),(7,x.2)]) (fun x=>AC 33 1 x.2 BQ x.1::H) ?_ (fun x D h=>?_)
 refine Y (U E (V (AQ ?_)))
 refine SX.heap (SX.mono (BG (α:=Nat×List UInt32×Value×Int) (fun x=>Jr n p0 p1 p2 x.1 (x.2.1,x.2.2.2)=some r) (fun x=>[(0,vS p0),(1,AA p1),(2,vS p2),(7,x.2.2.1),(8,vI x.2.2.2)]) (fun x=>AC 33 1 x.2.2.1 BQ x.2.1::H) (fun x=>x.1) (fun x D h=>?_) (n,[1634760805,857760878,2036477234,1797285236],.slice (some ⟨b1,0,none⟩) 4 4,0) h) tL) (BR [0] 2 E E E)
 obtain⟨m1,l2,v2,a1⟩:=x
 dsimp only at h
 rcases m1 with _ | m1
 cases (show(none:Option _)=some r from h)
 replace h:GK n p0 p1 p2 (Jr n p0 p1 p2 m1) l2 a1=some r:=h
 unfold GK at h
 try dsimp only
 refine AH (Y (J E (Z E BA (V ?_))))
 refine AN h E (fun hc1 h=>?_) fun hc1 h=>?_
 refine AJ (AI (AH (AQ (AS ?_))))
 refine AE h fun y1 hy1 h=>?_
 refine AE h fun l3 hl3 h=>?_
 refine J E (J E (J E (Z E ME (AP 0 gc (TL hy1) E ?_))))
 refine CD [_] E CU Bk H8 ⟨E,zT⟩ E E E zX E E zU fun b2=>?_
 refine CF BQ 1 ([y1]:List UInt32) E zV E ?_
 refine Cr 1 hl3 (sz:=1) (enc:=BQ) zV E CU Bk QE H8 E zD E E E E (CH (sz:=1) (enc:=BQ) 0 zV E) (by simp[BQ,Value.oneCell']) zU fun v3=>?_
 refine U E (Aa (An (AI (AS ?_))))
 obtain⟨i_1,ei_1,h⟩:=Bz h
 refine J E (Z E Bf ?_)
 refine Ak (u:=vI i_1) E E (by rw[ei_1]) ?_
 refine Aa ?_
 exact Av (m1,l3,v3,i_1) h (Nat.lt_succ_self _) tL (BR [1] 2 E E E)
 refine Ay (A6 (Ba (A9 ?_)))
 exact Ap (l2,v2) h tL (BR [0] 1 E E E)
 obtain⟨l1,v1⟩:=x
 dsimp only at h
 unfold Hg at h
 try dsimp only
 refine Y ?_
 refine AE h fun l4 hl4 h=>?_
 refine J E (J E ?_)
 refine CD [_] E CU Bk H8 ⟨E,zT⟩ E E E zX E E zU fun b3=>?_
 refine CF BQ 1 ([p1]:List UInt32) E zV E ?_
 refine Cr 1 hl4 (sz:=1) (enc:=BQ) zV E CU Bk QE H8 E zD E E E E (CH (sz:=1) (enc:=BQ) 0 zV E) (by simp[BQ,Value.oneCell']) zU fun v4=>?_
 refine U E (V ?_)
 refine BB (α:=List UInt32×Value) (fun x=>Jq x.1=some r) (fun x=>[(7,x.2)]) (fun x=>AC 33 1 x.2 BQ x.1::H) ?_ (fun x D h=>?_)
 refine Y (U E (V (AQ ?_)))
 refine SX.heap (SX.mono (BG (α:=Nat×List UInt32×Value×Int) (fun x=>Js p2 x.1 (x.2.1,x.2.2.2)=some r) (fun x=>[(2,vS p2),(7,x.2.2.1),(9,vI x.2.2.2)]) (fun x=>AC 33 1 x.2.2.1 BQ x.2.1::H) (fun x=>x.1) (fun x D h=>?_) (n,l4,v4,0) h) tL) (BR [1] 2 E E E)
 obtain⟨m2,l6,v6,a2⟩:=x
 dsimp only at h
 rcases m2 with _ | m2
 cases (show(none:Option _)=some r from h)
 replace h:GL p2 (Js p2 m2) l6 a2=some r:=h
 unfold GL at h
 try dsimp only
 refine AH (Y (J E (Z E BA (V ?_))))
 refine AN h E (fun hc2 h=>?_) fun hc2 h=>?_
 refine AJ (AI (AH (AQ (AS ?_))))
 refine AE h fun y2 hy2 h=>?_
 refine AE h fun l7 hl7 h=>?_
 refine J E (J E (J E (Z E ME (AP 0 gc (TL hy2) E ?_))))
 refine CD [_] E CU Bk H8 ⟨E,zT⟩ E E E zX E E zU fun b4=>?_
 refine CF BQ 1 ([y2]:List UInt32) E zV E ?_
 refine Cr 1 hl7 (sz:=1) (enc:=BQ) zV E CU Bk QE H8 E zD E E E E (CH (sz:=1) (enc:=BQ) 0 zV E) (by simp[BQ,Value.oneCell']) zU fun v7=>?_
 refine U E (Aa (An (AI (AS ?_))))
 obtain⟨i_2,ei_2,h⟩:=Bz h
 refine J E (Z E Bf ?_)
 refine Ak (u:=vI i_2) E E (by rw[ei_2]) ?_
 refine Aa ?_
 exact Av (m2,l7,v7,i_2) h (Nat.lt_succ_self _) tL (BR [1] 2 E E E)
 refine Ay (A6 (Ba (A9 ?_)))
 exact Ap (l6,v6) h tL (BR [0] 1 E E E)
 obtain⟨l5,v5⟩:=x
 dsimp only at h
 unfold Jq at h
 try dsimp only
 refine Y (J E (U E (V (AL ?_))))
 obtain rfl:=zI h
 exact Bi [0] 1 (Cl E E) E E ⟨v5,E,E⟩
def DF(p0:List UInt32)(p1:Int)(p2:Int)(p3:Int)(p4:Int):Option (List UInt32):=
 (BE p0 p1).bind fun x1=>
 (BE p0 p2).bind fun x2=>
 (BE p0 p3).bind fun x3=>
 (BE p0 p4).bind fun x4=>
 (IL x1 x2 x3 x4).bind fun y1=>
 (BE y1 0).bind fun x5=>
 (BE p0 p1).bind fun x6=>
 (Nx p0 p1 x5).bind fun l1=>
 (BE y1 1).bind fun x7=>
 (BE l1 p2).bind fun x8=>
 (Nx l1 p2 x7).bind fun l2=>
 (BE y1 2).bind fun x9=>
 (BE l2 p3).bind fun x10=>
 (Nx l2 p3 x9).bind fun l3=>
 (BE y1 3).bind fun x11=>
 (BE l3 p4).bind fun x12=>
 (Nx l3 p4 x11).bind fun l4=>
 some l4
theorem Ik{DB:Value}{p0 r:List UInt32}{p1 p2 p3 p4:Int}(h:DF p0 p1 p2 p3 p4=some r): zC K w0 310 [DB,vI p1,vI p2,vI p3,vI p4] [AC 33 1 DB BQ p0] H (fun u M=>u=.tuple #[]∧M=[AC 33 1 DB BQ r]):=by
 unfold DF at h
 refine Td.enter Tryz.func310 rfl rfl ?_
 refine AH ?_
 refine AE h fun x1 hx1 h=>?_
 refine AE h fun x2 hx2 h=>?_
 refine AE h fun x3 hx3 h=>?_
 refine AE h fun x4 hx4 h=>?_
 refine AE h fun y1 hy1 h=>?_
 refine Aw DG [0] (CM [(true,0),(true,1),(true,2),(true,3),(true,4),(true,5),(true,6),(true,7),(true,8),(true,9),(true,10),(true,11),(true,12),(true,13),(true,14),(true,15)] (.alt 16 (C4 [(false,17),(false,18)]) (.cons (false,17) (C4 [(false,16),(false,18)])))) zK (J E (J E ?_))
 refine CI 0 hx1 E CU Bk E E E fun g1 m1 cp1 hv1=>?_
 refine Bv E A7 E (CA (sz:=1) (enc:=BQ) 0 0 zV E hv1 hx1 E) ?_
 refine J E (J E ?_)
 refine CI 0 hx2 E CU Bk E E E fun g2 m2 cp2 hv2=>?_
 refine Bv E A7 E (CA (sz:=1) (enc:=BQ) 0 0 zV E hv2 hx2 E) ?_
 refine J E (J E ?_)
 refine CI 0 hx3 E CU Bk E E E fun g3 m3 cp3 hv3=>?_
 refine Bv E A7 E (CA (sz:=1) (enc:=BQ) 0 0 zV E hv3 hx3 E) ?_
 refine J E (J E ?_)
 refine CI 0 hx4 E CU Bk E E E fun g4 m4 cp4 hv4=>?_
 refine Bv E A7 E (CA (sz:=1) (enc:=BQ) 0 0 zV E hv4 hx4 E) ?_
 refine Qd ?_ ?_
 refine Bd (vs:=[_,_,_,_]) (Hin:=[]) (Hr:=_::_) E E ⟨E,E,E,E,zT⟩ gd E E (QJ hy1) ?_
 rintro _ _ ⟨rfl,hn1,rfl⟩
 refine⟨⟨⟨0,rfl⟩,trivial⟩,?_⟩
 refine Am E Sl (fun _=>⟨⟨1,E⟩,zT⟩) fun b1=>?_
 refine OL 0 E E E E Vf ((Sv ..).trans hn1) E (No (f:=AA) zV y1) ⟨⟨1,E⟩,zT⟩ ?_
 refine V (Y ?_)
 refine AE h fun x5 hx5 h=>?_
 refine AE h fun x6 hx6 h=>?_
 refine AE h fun l1 hl1 h=>?_
 refine J E (J E ?_)
 refine MT (xs:=y1) hx5 E P3 Bk E E hn1 ?_
 refine Bv E A7 E (Ct 0 E (Et (En hx5).2.2)) ?_
 refine CI 1 hx6 E CU Bk E E E fun g5 m5 cp5 hv5=>?_
 refine GE (sz:=1) (enc:=BQ) 1 hl1 zV E E E E E hv5 Bk (by simp[Value.oneCell']) zT ?_
 refine V (Y ?_)
 refine AE h fun x7 hx7 h=>?_
 refine AE h fun x8 hx8 h=>?_
 refine AE h fun l2 hl2 h=>?_
 refine J E (J E ?_)
 refine MT (xs:=y1) hx7 E P3 Bk E E hn1 ?_
 refine Bv E A7 E (Ct 0 E (Et (En hx7).2.2)) ?_
 refine CI 1 hx8 E CU Bk E E E fun g6 m6 cp6 hv6=>?_
 refine GE (sz:=1) (enc:=BQ) 1 hl2 zV E E E E E hv6 Bk (by simp[Value.oneCell']) zT ?_
 refine V (Y ?_)
 refine AE h fun x9 hx9 h=>?_
 refine AE h fun x10 hx10 h=>?_
 refine AE h fun l3 hl3 h=>?_
 refine J E (J E ?_)
 refine MT (xs:=y1) hx9 E P3 Bk E E hn1 ?_
 refine Bv E A7 E (Ct 0 E (Et (En hx9).2.2)) ?_
 refine CI 1 hx10 E CU Bk E E E fun g7 m7 cp7 hv7=>?_
 refine GE (sz:=1) (enc:=BQ) 1 hl3 zV E E E E E hv7 Bk (by simp[Value.oneCell']) zT ?_
 refine V (AS ?_)
 refine AE h fun x11 hx11 h=>?_
 refine AE h fun x12 hx12 h=>?_
 refine AE h fun l4 hl4 h=>?_
 refine J E (J E ?_)
 refine MT (xs:=y1) hx11 E P3 Bk E E hn1 ?_
 refine Bv E A7 E (Ct 0 E (Et (En hx11).2.2)) ?_
 refine CI 1 hx12 E CU Bk E E E fun g8 m8 cp8 hv8=>?_
 refine GE (sz:=1) (enc:=BQ) 1 hl4 zV E E E E E hv8 Bk (by simp[Value.oneCell']) zT ?_
 refine Aa ?_
 obtain rfl:=zI h
 exact DE (Dg E) (Af (M:=[_]) ⟨E,E⟩ fun _ hw=>BW.pick (H:=[_,_]) hw [1] 2 E)
 refine Am E Sl (fun _=>⟨⟨1,E⟩,zT⟩) fun b1=>?_
 refine Bd (vs:=[_,_,_,_]) (Hin:=[]) (Hr:=_::_::_) E E ⟨E,E,E,E,zT⟩ gd E E (QJ hy1) ?_
 rintro _ _ ⟨rfl,hn1,rfl⟩
 refine⟨⟨⟨1,rfl⟩,trivial⟩,?_⟩
 refine OL 0 E E E E Vf ((Sv ..).trans hn1) E (No (f:=AA) zV y1) ⟨⟨1,E⟩,zT⟩ ?_
 refine V (Y ?_)
 refine AE h fun x5 hx5 h=>?_
 refine AE h fun x6 hx6 h=>?_
 refine AE h fun l1 hl1 h=>?_
 refine J E (J E ?_)
 refine MT (xs:=y1) hx5 E P3 Bk E E hn1 ?_
 refine Bv E A7 E (Ct 0 E (Et (En hx5).2.2)) ?_
 refine CI 1 hx6 E CU Bk E E E fun g5 m5 cp5 hv5=>?_
 refine GE (sz:=1) (enc:=BQ) 1 hl1 zV E E E E E hv5 Bk (by simp[Value.oneCell']) zT ?_
 refine V (Y ?_)
 refine AE h fun x7 hx7 h=>?_
 refine AE h fun x8 hx8 h=>?_
 refine AE h fun l2 hl2 h=>?_
 refine J E (J E ?_)
 refine MT (xs:=y1) hx7 E P3 Bk E E hn1 ?_
 refine Bv E A7 E (Ct 0 E (Et (En hx7).2.2)) ?_
 refine CI 1 hx8 E CU Bk E E E fun g6 m6 cp6 hv6=>?_
 refine GE (sz:=1) (enc:=BQ) 1 hl2 zV E E E E E hv6 Bk (by simp[Value.oneCell']) zT ?_
 refine V (Y ?_)
 refine AE h fun x9 hx9 h=>?_
 refine AE h fun x10 hx10 h=>?_
 refine AE h fun l3 hl3 h=>?_
 refine J E (J E ?_)
 refine MT (xs:=y1) hx9 E P3 Bk E E hn1 ?_
 refine Bv E A7 E (Ct 0 E (Et (En hx9).2.2)) ?_
 refine CI 1 hx10 E CU Bk E E E fun g7 m7 cp7 hv7=>?_
 refine GE (sz:=1) (enc:=BQ) 1 hl3 zV E E E E E hv7 Bk (by simp[Value.oneCell']) zT ?_
 refine V (AS ?_)
 refine AE h fun x11 hx11 h=>?_
 refine AE h fun x12 hx12 h=>?_
 refine AE h fun l4 hl4 h=>?_
 refine J E (J E ?_)
 refine MT (xs:=y1) hx11 E P3 Bk E E hn1 ?_
 refine Bv E A7 E (Ct 0 E (Et (En hx11).2.2)) ?_
 refine CI 1 hx12 E CU Bk E E E fun g8 m8 cp8 hv8=>?_
 refine GE (sz:=1) (enc:=BQ) 1 hl4 zV E E E E E hv8 Bk (by simp[Value.oneCell']) zT ?_
 refine Aa ?_
 obtain rfl:=zI h
 exact DE (Dg E) (Af (M:=[_]) ⟨E,E⟩ fun _ hw=>BW.pick (H:=[_,_]) hw [1] 2 E)
def Jn(l4:List UInt8):Option (List UInt8×Int):=
 some (l4,0)
def GJ(y1:List UInt32)(l2:List UInt32)(nx_f_ref01_Block_l2:List UInt8×Int→Option (List UInt8×Int))(l5:List UInt8)(a2:Int):Option (List UInt8×Int):=
 cond (decide (a2<16))
 (
  (BE l2 a2).bind fun x2=>
  (BE y1 a2).bind fun x3=>
  ret (x2+x3) fun x4=>
  (DK 1 l5 [x4.toUInt8,(shr32 x4 8).toUInt8,(shr32 x4 16).toUInt8,(shr32 x4 24).toUInt8]).bind fun l6=>
  ret (wI (a2+1)) fun x5=>
  nx_f_ref01_Block_l2 (l6,x5))
 (
  Jn l5)
def Jp(y1:List UInt32)(l2:List UInt32):Nat→(List UInt8×Int)→Option (List UInt8×Int):=CO fun nx x=>GJ y1 l2 nx x.1 x.2
def Fz(n:Nat)(y1:List UInt32)(l2:List UInt32):Option (List UInt8×Int):=
 Jp y1 l2 n ([],0)
def GI(n:Nat)(y1:List UInt32)(nx_f_ref01_Block_l1:List UInt32×Int→Option (List UInt8×Int))(l3:List UInt32)(a1:Int):Option (List UInt8×Int):=
 cond (decide (a1<10))
 (
  (DF l3 0 4 8 12).bind fun y2=>
  (DF y2 1 5 9 13).bind fun y3=>
  (DF y3 2 6 10 14).bind fun y4=>
  (DF y4 3 7 11 15).bind fun y5=>
  (DF y5 0 5 10 15).bind fun y6=>
  (DF y6 1 6 11 12).bind fun y7=>
  (DF y7 2 7 8 13).bind fun y8=>
  (DF y8 3 4 9 14).bind fun y9=>
  ret (wI (a1+1)) fun x1=>
  nx_f_ref01_Block_l1 (y9,x1))
 (
  Fz n y1 l3)
def Jo(n:Nat)(y1:List UInt32):Nat→(List UInt32×Int)→Option (List UInt8×Int):=CO fun nx x=>GI n y1 nx x.1 x.2
def Gr(n:Nat)(p0:List UInt8)(p1:UInt32)(p2:List UInt8):Option (List UInt8×Int):=
 cond ((!decide ((p0.length:Int)=32))||(!decide ((p2.length:Int)=12)))
 (
  some ([],2))
 (
  (KA n p0 p1 p2).bind fun y1=>
  (DK 4 [] y1).bind fun l1=>
  Jo n y1 n (l1,0))
theorem XD{n:Nat}{p0 p2:List UInt8}{p1:UInt32}{r:List UInt8×Int}(h:Gr n p0 p1 p2=some r): zC K w0 285 [vS p0,AA p1,vS p2] [] H (fun u M=>u=.tuple #[vS r.1,vI r.2]∧M=[]):=by
 unfold Gr at h
 refine Td.enter Tryz.func285 rfl rfl ?_
 refine Y (U E (U E (V (AH (Y (J E (By E Ch E (Z E BO (J E ?_)))))))))
 refine E3 (c := !decide ((p2.length:Int)=12)) 17 4 21 E (fun hb k=>?_) (fun hb k=>?_) ?_
 refine AD E (AD E (AD E (Ai E E E ?_)))
 exact k.mono tL
 refine J E (By E Ch E (Z E BO (Ai E E E ?_)))
 exact k.mono tL
 refine V ?_
 refine AN h E (fun hc1 h=>?_) fun hc1 h=>?_
 refine Y (U E (U E (V (AL (Ac ?_)))))
 obtain rfl:=zI h
 exact AX [] 0 E E E
 refine AJ (AI (Y ?_))
 refine AE h fun y1 hy1 h=>?_
 refine J E (J E (J E ?_))
 refine Bd (vs:=[_,_,_]) (Hin:=[]) (Hr:=_) E E ⟨E,E,E,zT⟩ oe E E (XE hy1) ?_
 rintro v1 _ ⟨_,rfl,rfl⟩
 refine⟨trivial,?_⟩
 refine U E (V (Y ?_))
 refine AE h fun l1 hl1 h=>?_
 refine fq (n:=16) BQ E CU Bk QE H8 E E E E E zU fun v2=>?_
 refine J E ?_
 refine jd 0 1 hl1 (sz:=1) (enc:=BQ) zV E CU Bk QE H8 E zD E E E E (by simp[BQ,Value.oneCell']) zU fun v3=>?_
 refine U E (V ?_)
 refine BB (α:=List UInt32×Value) (fun x=>Fz n y1 x.1=some r) (fun x=>[(8,v1),(9,x.2)]) (fun x=>AC 33 1 v1 BQ y1::AC 33 1 x.2 BQ x.1::H) ?_ (fun x D h=>?_)
 refine Y (U E (V (AQ ?_)))
 refine SX.heap (SX.mono (BG (α:=Nat×List UInt32×Value×Int) (fun x=>Jo n y1 x.1 (x.2.1,x.2.2.2)=some r) (fun x=>[(8,v1),(9,x.2.2.1),(10,vI x.2.2.2)]) (fun x=>AC 33 1 v1 BQ y1::AC 33 1 x.2.2.1 BQ x.2.1::H) (fun x=>x.1) (fun x D h=>?_) (n,l1,v3,0) h) tL) (BR [1,0] 2 E E E)
 obtain⟨m1,l3,v5,a1⟩:=x
 dsimp only at h
 rcases m1 with _ | m1
 cases (show(none:Option _)=some r from h)
 replace h:GI n y1 (Jo n y1 m1) l3 a1=some r:=h
 unfold GI at h
 try dsimp only
 refine AH (Y (J E (Z E BA (V ?_))))
 refine AN h E (fun hc2 h=>?_) fun hc2 h=>?_
 refine AJ (AI (AH (AQ (Y ?_))))
 refine AE h fun y2 hy2 h=>?_
 refine J E (SL.pick [1,0] 2 (AP 1 PY (Ik hy2) E (V (Y ?_))))
 refine AE h fun y3 hy3 h=>?_
 refine J E (AP 1 PY (Ik hy3) E (V (Y ?_)))
 refine AE h fun y4 hy4 h=>?_
 refine J E (AP 1 PY (Ik hy4) E (V (Y ?_)))
 refine AE h fun y5 hy5 h=>?_
 refine J E (AP 1 PY (Ik hy5) E (V (Y ?_)))
 refine AE h fun y6 hy6 h=>?_
 refine J E (AP 1 PY (Ik hy6) E (V (Y ?_)))
 refine AE h fun y7 hy7 h=>?_
 refine J E (AP 1 PY (Ik hy7) E (V (Y ?_)))
 refine AE h fun y8 hy8 h=>?_
 refine J E (AP 1 PY (Ik hy8) E (V (AS ?_)))
 refine AE h fun y9 hy9 h=>?_
 refine J E (AP 1 PY (Ik hy9) E (Aa (An (AI (AS ?_)))))
 obtain⟨x1,ex1,h⟩:=Bz h
 refine J E (Z E Bf ?_)
 refine Ak (u:=vI x1) E E (by rw[ex1]) ?_
 refine Aa ?_
 exact Av (m1,y9,v5,x1) h (Nat.lt_succ_self _) tL (BR [1,0] 2 E E E)
 refine Ay (A6 (Ba (A9 ?_)))
 exact Ap (l3,v5) h tL (BR [0,1] 2 E E E)
 obtain⟨l2,v4⟩:=x
 dsimp only at h
 unfold Fz at h
 try dsimp only
 refine Y (B8 5 1 FS (U E (V ?_)))
 refine BB (α:=List UInt8×Value) (fun x=>Jn x.1=some r) (fun x=>[(11,x.2)]) (fun x=>AC 5 1 x.2 FS x.1::H) ?_ (fun x D h=>?_)
 refine Y (U E (V (AQ ?_)))
 refine SX.heap (SX.mono (BG (α:=Nat×List UInt8×Value×Int) (fun x=>Jp y1 l2 x.1 (x.2.1,x.2.2.2)=some r) (fun x=>[(8,v1),(9,v4),(11,x.2.2.1),(12,vI x.2.2.2)]) (fun x=>AC 33 1 v1 BQ y1::AC 33 1 v4 BQ l2::AC 5 1 x.2.2.1 FS x.2.1::H) (fun x=>x.1) (fun x D h=>?_) (n,[],zN,0) h) tL) (BR [1,2,0] 3 E E E)
 obtain⟨m2,l5,v7,a2⟩:=x
 dsimp only at h
 rcases m2 with _ | m2
 cases (show(none:Option _)=some r from h)
 replace h:GJ y1 l2 (Jp y1 l2 m2) l5 a2=some r:=h
 unfold GJ at h
 try dsimp only
 refine AH (Y (J E (Z E BA (V ?_))))
 refine AN h E (fun hc3 h=>?_) fun hc3 h=>?_
 refine AJ (AI (AH (AQ (AH ?_))))
 refine AE h fun x2 hx2 h=>?_
 refine AE h fun x3 hx3 h=>?_
 obtain⟨x4,ex4,h⟩:=Bz h
 refine Aw DG [0,1] (C4 [(true,0),(true,1),(true,2),(true,3),(true,4),(true,5),(true,6),(true,7),(true,8),(true,9)]) zK (J E (J E ?_))
 refine CI 1 hx2 E CU Bk E E E fun g1 m3 cp1 hv1=>?_
 refine Bv E A7 E (CA (sz:=1) (enc:=BQ) 1 0 zV E hv1 hx2 E) ?_
 refine J E (J E ?_)
 refine CI 0 hx3 E CU Bk E E E fun g2 m4 cp2 hv2=>?_
 refine Bv E A7 E (CA (sz:=1) (enc:=BQ) 0 0 zV E hv2 hx3 E) ?_
 refine Z E B1 ?_
 refine Ak (u:=AA x4) E E (by rw[ex4]) ?_
 refine V (AS ?_)
 refine AE h fun l6 hl6 h=>?_
 refine J E (J E (BF E E (C5 CP DI) (J E ?_)))
 refine Z E (FO.shr32 (n:=8)) ?_
 refine BF E E (C5 CP DI) (J E ?_)
 refine Z E (FO.shr32 (n:=16)) ?_
 refine BF E E (C5 CP DI) (J E ?_)
 refine Z E (FO.shr32 (n:=24)) ?_
 refine BF E E (C5 CP DI) ?_
 refine CD [_,_,_,_] E Cb Jg KY ⟨E,E,E,E,zT⟩ E E E zX E E zU fun b1=>?_
 refine CF FS 1 ([x4.toUInt8,(shr32 x4 8).toUInt8,(shr32 x4 16).toUInt8,(shr32 x4 24).toUInt8]:List UInt8) E zV E ?_
 refine Cr 3 hl6 (sz:=1) (enc:=FS) zV E Cb Jg VE KY E zD E E E E (CH (sz:=1) (enc:=FS) 0 zV E) (by simp[FS,Value.oneCell']) zU fun v8=>?_
 refine U E (Aa (An (AI (AS ?_))))
 obtain⟨x5,ex5,h⟩:=Bz h
 refine J E (Z E Bf ?_)
 refine Ak (u:=vI x5) E E (by rw[ex5]) ?_
 refine Aa ?_
 exact Av (m2,l6,v8,x5) h (Nat.lt_succ_self _) tL (BR [1,2,3] 4 E E E)
 refine Ay (A6 (Ba (A9 ?_)))
 exact Ap (l5,v7) h tL (BR [2] 3 E E E)
 obtain⟨l4,v6⟩:=x
 dsimp only at h
 unfold Jn at h
 try dsimp only
 refine Y (J E (Gi 0 E Cb DI Ch E E (U E (U E (V (AL ?_))))))
 obtain rfl:=zI h
 exact AX [] 1 E E E
def Lj(l1:List UInt8):Option (List UInt8×Int):=
 some (l1,0)
def HQ(p2:List UInt8)(l2:List UInt8)(a2:Int)(nx_f_ref01_Xor_l1:List UInt8×List UInt8×Int→Option (List UInt8×Int))(a3:List UInt8):Option (List UInt8×Int):=
 (BE p2 a2).bind fun c1=>
 (Ta a2 64).bind fun q3=>
 (BE a3 q3).bind fun c2=>
 (DK 1 l2 [c1 ^^^ c2]).bind fun l3=>
 ret (wI (a2+1)) fun i_1=>
 nx_f_ref01_Xor_l1 (l3,a3,i_1)
def Hh(n:Nat)(p0:List UInt8)(p1:List UInt8)(p2:List UInt8)(nx_f_ref01_Xor_l1:List UInt8×List UInt8×Int→Option (List UInt8×Int))(l2:List UInt8)(a1:List UInt8)(a2:Int):Option (List UInt8×Int):=
 cond (decide (a2<(p2.length:Int)))
 (
  (Ta a2 64).bind fun q1=>
  cond (decide (q1=0))
  (
   (Uv a2 64).bind fun q2=>
   (Gr n p0 (Ep q2) p1).bind fun y1=>
   HQ p2 l2 a2 nx_f_ref01_Xor_l1 y1.1)
  (
   HQ p2 l2 a2 nx_f_ref01_Xor_l1 a1))
 (
  Lj l2)
def JD(n:Nat)(p0:List UInt8)(p1:List UInt8)(p2:List UInt8):Nat→(List UInt8×List UInt8×Int)→Option (List UInt8×Int):=CO fun nx x=>Hh n p0 p1 p2 nx x.1 x.2.1 x.2.2
def Me(n:Nat)(p0:List UInt8)(p1:List UInt8)(p2:List UInt8):Option (List UInt8×Int):=
 cond (((!decide ((p0.length:Int)=32))||(!decide ((p1.length:Int)=12)))||(decide (1048576<(p2.length:Int))))
 (
  some ([],2))
 (
  JD n p0 p1 p2 n ([],[],0))
theorem Zo{n:Nat}{p0 p1 p2:List UInt8}{r:List UInt8×Int}(h:Me n p0 p1 p2=some r): zC K w0 256 [vS p0,vS p1,vS p2] [] H (fun u M=>u=.tuple #[vS r.1,vI r.2]∧M=[]):=by
 unfold Me at h
 refine Td.enter Tryz.func256 rfl rfl ?_
 refine Y (U E (U E (V (AH (Y (J E (By E Ch E (Z E BO (J E ?_)))))))))
 refine E3 (c := !decide ((p1.length:Int)=12)) 16 4 20 E (fun hb k=>?_) (fun hb k=>?_) ?_
 refine AD E (AD E (AD E (Ai E E E ?_)))
 exact k.mono tL
 refine J E (By E Ch E (Z E BO (Ai E E E ?_)))
 exact k.mono tL
 refine J E ?_
 refine E3 (c:=decide (1048576<(p2.length:Int))) 21 4 25 E (fun hb k=>?_) (fun hb k=>?_) ?_
 refine AD E (AD E (AD E (Ai E E E ?_)))
 exact k.mono tL
 refine J E (By E Ch E (Z E Cq (Ai E E E ?_)))
 exact k.mono tL
 refine V ?_
 refine AN h E (fun hc1 h=>?_) fun hc1 h=>?_
 refine Y (U E (U E (V (AL (Ac ?_)))))
 obtain rfl:=zI h
 exact AX [] 0 E E E
 refine AJ (AI (Y (B8 5 1 FS (U E (V (Y (U E (V ?_))))))))
 refine BB (α:=List UInt8×Value) (fun x=>Lj x.1=some r) (fun x=>[(8,x.2)]) (fun x=>AC 5 1 x.2 FS x.1::H) ?_ (fun x D h=>?_)
 refine Y (U E (V (AQ ?_)))
 refine SX.heap (SX.mono (BG (α:=Nat×List UInt8×Value×List UInt8×Int) (fun x=>JD n p0 p1 p2 x.1 (x.2.1,x.2.2.2.1,x.2.2.2.2)=some r) (fun x=>[(0,vS p0),(1,vS p1),(2,vS p2),(8,x.2.2.1),(9,vS x.2.2.2.1),(10,vI x.2.2.2.2)]) (fun x=>AC 5 1 x.2.2.1 FS x.2.1::H) (fun x=>x.1) (fun x D h=>?_) (n,[],zN,[],0) h) tL) (BR [0] 1 E E E)
 obtain⟨m1,l2,v2,a1,a2⟩:=x
 dsimp only at h
 rcases m1 with _ | m1
 cases (show(none:Option _)=some r from h)
 replace h:Hh n p0 p1 p2 (JD n p0 p1 p2 m1) l2 a1 a2=some r:=h
 unfold Hh at h
 try dsimp only
 refine AH (Y (J E (J E (By E Ch E (Z E BA (V ?_))))))
 refine AN h E (fun hc2 h=>?_) fun hc2 h=>?_
 refine AJ (AI (AH (AQ ?_)))
 refine BB (α:=List UInt8) (fun x=>HQ p2 l2 a2 (JD n p0 p1 p2 m1) x=some r) (fun x=>[(0,vS p0),(1,vS p1),(2,vS p2),(8,v2),(9,vS x),(10,vI a2)]) (fun x=>AC 5 1 v2 FS l2::H) ?_ (fun a3 D h=>?_)
 refine Y ?_
 refine AE h fun q1 hq1 h=>?_
 refine J E (Z E (Sn hq1) (Z E Bg (V ?_)))
 refine AN h E (fun hc3 h=>?_) fun hc3 h=>?_
 refine Y ?_
 refine AE h fun q2 hq2 h=>?_
 refine AE h fun y1 hy1 h=>?_
 refine J E (J E (Z E (U6 hq2) (BF E E (Og I9 CP) (J E (AP 0 oW (XD hy1) E (J E (Ae E E E ?_)))))))
 refine Ae E E E (U E (U E (V (AS (J E (U E (Aa ?_)))))))
 exact Ap y1.1 h tL (BR [0] 1 E E E)
 refine AJ ?_
 exact Ap a1 h tL (BR [0] 1 E E E)
 unfold HQ at h
 try dsimp only
 refine AE h fun c1 hc1 h=>?_
 refine AE h fun q3 hq3 h=>?_
 refine AE h fun c2 hc2 h=>?_
 refine AE h fun l3 hl3 h=>?_
 refine Aw DG [] (CM [(true,0),(true,1),(true,2),(true,3),(true,4),(true,5),(true,6),(true,7),(true,8),(false,9)] (.last 10 (C4 [(false,11)]))) zK (J E (J E (J E (KZ hc1 E Ch E E (J E (J E (Z E (Sn hq3) ?_)))))))
 refine KZ hc2 E Ch E E (Z E So ?_)
 refine CD [_] E Cb Jg KY ⟨E,zT⟩ E E E zX E E zU fun b1=>?_
 refine CF FS 1 ([c1 ^^^ c2]:List UInt8) E zV E ?_
 refine Bh ?_
 refine Cr 1 hl3 (sz:=1) (enc:=FS) zV E Cb Jg VE KY E zD E E E E (CH (sz:=1) (enc:=FS) 0 zV E) (by simp[FS,Value.oneCell']) zU fun v3=>?_
 refine U E (Aa (An (AI (AS ?_))))
 obtain⟨i_1,ei_1,h⟩:=Bz h
 refine J E (Z E Bf ?_)
 refine Ak (u:=vI i_1) E E (by rw[ei_1]) ?_
 refine Aa ?_
 exact Av (m1,l3,v3,a3,i_1) h (Nat.lt_succ_self _) tL (BR [1] 2 E E E)
 refine Ay (A6 (Ba (A9 ?_)))
 exact Ap (l2,v2) h tL (BR [0] 1 E E E)
 obtain⟨l1,v1⟩:=x
 dsimp only at h
 unfold Lj at h
 try dsimp only
 refine Y (J E (Gi 0 E Cb DI Ch E E (U E (U E (V (AL ?_))))))
 obtain rfl:=zI h
 exact AX [] 1 E E E
end

section
variable {K:Nat→Prop}{w0:World}{H:List AY}
def CG(p0:UInt32)(p1:Int):Option UInt32:=
 (QV p1).bind fun n1=>
 (QV (wI (32-p1))).bind fun n2=>
 ret ((shr32 p0 n1) ||| (shl32 p0 n2)) fun x1=>
 some x1
theorem D9{p0 r:UInt32}{p1:Int}(h:CG p0 p1=some r): zC K w0 311 [AA p0,vI p1] [] H (fun u M=>u=AA r∧M=[]):=by
 unfold CG at h
 refine Td.enter Tryz.func311 rfl rfl ?_
 refine Y (U E (V (AH ?_)))
 refine AE h fun n1 hn1 h=>?_
 refine AE h fun n2 hn2 h=>?_
 obtain⟨x1,ex1,h⟩:=Bz h
 refine Aw DG [] (C4 [(true,0),(true,1),(true,2),(true,3),(true,4),(true,5),(true,6),(true,7),(true,8)]) zK (J E (J E (Z E (Vn hn1) (J E (J E (Z E Dm (Z E (Rh hn2) ?_)))))))
 refine Z E Er ?_
 refine Ak (u:=AA x1) E E (by rw[ex1]) ?_
 refine V (AL ?_)
 obtain rfl:=zI h
 exact AX [] 0 E E E
def Mf:Option (List UInt32):=
 some [1779033703,3144134277,1013904242,2773480762,1359893119,2600822924,528734635,1541459225]
theorem XF{r:List UInt32}(h:Mf=some r): zC K w0 288 [] [] H (fun u M=>∃v0:Value,u=v0∧M=[AC 33 1 v0 BQ r]):=by
 unfold Mf at h
 refine Td.enter Tryz.func288 rfl rfl ?_
 refine Y (B8 33 1 BQ (U E (V (Y ?_))))
 refine CD [_,_,_,_,_,_,_,_] E CU Bk H8 ⟨E,E,E,E,E,E,E,E,zT⟩ E E E zX E E zU fun b1=>?_
 refine CF BQ 1 ([1779033703,3144134277,1013904242,2773480762,1359893119,2600822924,528734635,1541459225]:List UInt32) E zV E ?_
 refine U E (V (AL ?_))
 obtain rfl:=zI h
 exact Bi [0] 2 (Cl E E) E E ⟨(.slice (some ⟨b1,0,none⟩) 8 8),E,E⟩
def Kq(l9:List UInt32):Option (List UInt32):=
 some l9
def Gu(p0:List UInt32)(nx_f_ref02_part_l3:List UInt32×Int→Option (List UInt32))(l10:List UInt32)(a3:Int):Option (List UInt32):=
 cond (decide (a3<8))
 (
  (BE l10 a3).bind fun x27=>
  (BE p0 a3).bind fun x28=>
  (BE l10 a3).bind fun x29=>
  (Nx l10 a3 (x27+x28)).bind fun l11=>
  ret (wI (a3+1)) fun x30=>
  nx_f_ref02_part_l3 (l11,x30))
 (
  Kq l10)
def Ks(p0:List UInt32):Nat→(List UInt32×Int)→Option (List UInt32):=CO fun nx x=>Gu p0 nx x.1 x.2
def Ge(n:Nat)(p0:List UInt32)(l7:List UInt32):Option (List UInt32):=
 Ks p0 n (l7,0)
def Gt(n:Nat)(T:List UInt32)(p0:List UInt32)(l1:List UInt32)(nx_f_ref02_part_l2:List UInt32×Int→Option (List UInt32))(l8:List UInt32)(a2:Int):Option (List UInt32):=
 cond (decide (a2<64))
 (
  (BE l8 0).bind fun x6=>
  (BE l8 4).bind fun x7=>
  (BE l8 7).bind fun x8=>
  (CG x7 6).bind fun y5=>
  (CG x7 11).bind fun y6=>
  (CG x7 25).bind fun y7=>
  (BE l8 5).bind fun x9=>
  (BE l8 6).bind fun x10=>
  (BE T a2).bind fun x11=>
  (BE l1 a2).bind fun x12=>
  ret ((((x8+((y5 ^^^ y6) ^^^ y7))+((x7 &&& x9) ^^^ ((4294967295 ^^^ x7) &&& x10)))+x11)+x12) fun x13=>
  (CG x6 2).bind fun y8=>
  (CG x6 13).bind fun y9=>
  (CG x6 22).bind fun y10=>
  (BE l8 1).bind fun x14=>
  (BE l8 2).bind fun x15=>
  (BE l8 1).bind fun x16=>
  (BE l8 2).bind fun x17=>
  ret (((y8 ^^^ y9) ^^^ y10)+(((x6 &&& x14) ^^^ (x6 &&& x15)) ^^^ (x16 &&& x17))) fun x18=>
  (BE l8 0).bind fun x19=>
  (BE l8 1).bind fun x20=>
  (BE l8 2).bind fun x21=>
  (BE l8 3).bind fun x22=>
  (BE l8 4).bind fun x23=>
  (BE l8 5).bind fun x24=>
  (BE l8 6).bind fun x25=>
  ret (wI (a2+1)) fun x26=>
  nx_f_ref02_part_l2 ([x13+x18,x19,x20,x21,x22+x13,x23,x24,x25],x26))
 (
  Ge n p0 l8)
def Kr(n:Nat)(T:List UInt32)(p0:List UInt32)(l1:List UInt32):Nat→(List UInt32×Int)→Option (List UInt32):=CO fun nx x=>Gt n T p0 l1 nx x.1 x.2
def Gc(n:Nat)(T:List UInt32)(p0:List UInt32)(l1:List UInt32):Option (List UInt32):=
 (DK 4 [] p0).bind fun l6=>
 Kr n T p0 l1 n (l6,0)
def Gd(a1:Int)(nx_f_ref02_part_l1:List UInt32×Int→Option (List UInt32))(l3:List UInt32):Option (List UInt32):=
 ret (wI (a1+1)) fun x5=>
 nx_f_ref02_part_l1 (l3,x5)
def Gs(n:Nat)(T:List UInt32)(p0:List UInt32)(p1:List UInt8)(nx_f_ref02_part_l1:List UInt32×Int→Option (List UInt32))(l2:List UInt32)(a1:Int):Option (List UInt32):=
 cond (decide (a1<64))
 (
  cond (decide (a1<16))
  (
   (BE p1 (wI (4*a1))).bind fun c1=>
   (BE p1 (wI ((wI (4*a1))+1))).bind fun c2=>
   (BE p1 (wI ((wI (4*a1))+2))).bind fun c3=>
   (BE p1 (wI ((wI (4*a1))+3))).bind fun c4=>
   (DK 4 l2 [(((shl32 c1.toUInt32 24) ||| (shl32 c2.toUInt32 16)) ||| (shl32 c3.toUInt32 8)) ||| c4.toUInt32]).bind fun l4=>
   Gd a1 nx_f_ref02_part_l1 l4)
  (
   (BE l2 (wI (a1-15))).bind fun x1=>
   (BE l2 (wI (a1-2))).bind fun x2=>
   (BE l2 (wI (a1-16))).bind fun x3=>
   (CG x1 7).bind fun y1=>
   (CG x1 18).bind fun y2=>
   (BE l2 (wI (a1-7))).bind fun x4=>
   (CG x2 17).bind fun y3=>
   (CG x2 19).bind fun y4=>
   (DK 4 l2 [((x3+((y1 ^^^ y2) ^^^ (shr32 x1 3)))+x4)+((y3 ^^^ y4) ^^^ (shr32 x2 10))]).bind fun l5=>
   Gd a1 nx_f_ref02_part_l1 l5))
 (
  Gc n T p0 l2)
def IM(n:Nat)(T:List UInt32)(p0:List UInt32)(p1:List UInt8):Nat→(List UInt32×Int)→Option (List UInt32):=CO fun nx x=>Gs n T p0 p1 nx x.1 x.2
def LO(n:Nat)(T:List UInt32)(p0:List UInt32)(p1:List UInt8):Option (List UInt32):=
 IM n T p0 p1 n ([],0)
theorem YT{n:Nat}{T p0 r:List UInt32}{DB:Value}{p1:List UInt8}(h:LO n T p0 p1=some r)(hT:JB K w0 2 64 T)(hs0_:B9 K w0 BQ 1 DB p0):zC K w0 289 [DB,vS p1] [] H (fun u M=>∃v0:Value,u=v0∧M=[AC 33 1 v0 BQ r]):=by
 unfold LO at h
 refine Td.enter Tryz.func289 rfl rfl ?_
 refine Y (B8 33 1 BQ (U E (V (Y (B8 33 1 BQ (U E (V ?_)))))))
 refine BB (α:=List UInt32×Value) (fun x=>Gc n T p0 x.1=some r) (fun x=>[(0,DB),(5,x.2)]) (fun x=>AC 33 1 x.2 BQ x.1::H) ?_ (fun x D h=>?_)
 refine Y (U E (V (AQ ?_)))
 refine SX.heap (SX.mono (BG (α:=Nat×List UInt32×Value×Int) (fun x=>IM n T p0 p1 x.1 (x.2.1,x.2.2.2)=some r) (fun x=>[(0,DB),(1,vS p1),(5,x.2.2.1),(6,vI x.2.2.2)]) (fun x=>AC 33 1 x.2.2.1 BQ x.2.1::H) (fun x=>x.1) (fun x D h=>?_) (n,[],zN,0) h) tL) (BR [0] 2 E E E)
 obtain⟨m1,l2,v2,a1⟩:=x
 dsimp only at h
 rcases m1 with _ | m1
 cases (show(none:Option _)=some r from h)
 replace h:Gs n T p0 p1 (IM n T p0 p1 m1) l2 a1=some r:=h
 unfold Gs at h
 try dsimp only
 refine AH (Y (J E (Z E BA (V ?_))))
 refine AN h E (fun hc1 h=>?_) fun hc1 h=>?_
 refine AJ (AI ?_)
 refine BB (α:=List UInt32×Value) (fun x=>Gd a1 (IM n T p0 p1 m1) x.1=some r) (fun x=>[(0,DB),(1,vS p1),(5,x.2),(6,vI a1)]) (fun x=>AC 33 1 x.2 BQ x.1::H) ?_ (fun x D h=>?_)
 refine AQ (AH (Y (J E (Z E BA (V ?_)))))
 refine AN h E (fun hc2 h=>?_) fun hc2 h=>?_
 refine AH ?_
 refine AE h fun c1 hc1 h=>?_
 refine AE h fun c2 hc2 h=>?_
 refine AE h fun c3 hc3 h=>?_
 refine AE h fun c4 hc4 h=>?_
 refine AE h fun l4 hl4 h=>?_
 refine Aw DG [] (CM [(true,0),(true,1),(true,2),(true,3),(true,4),(true,5),(true,6),(true,7),(true,8),(true,9),(true,10),(true,11),(true,12),(true,13),(true,14),(true,15),(true,16),(true,17),(true,18),(true,19),(true,20),(true,21),(true,22),(true,23),(true,24),(true,25),(true,26),(true,27),(true,28),(true,29),(false,30)] (.last 31 (C4 [(false,32)]))) zK (J E (J E (J E (Z E ME (KZ hc1 E Ch E E (BF E E (FG DI CP) ?_))))))
 refine Z E (FO.shl32 (n:=24)) ?_
 refine J E (J E (Z E ME (Z E Bf (KZ hc2 E Ch E E (BF E E (FG DI CP) ?_)))))
 refine Z E (FO.shl32 (n:=16)) ?_
 refine Z E Er (J E (J E (Z E ME (Z E Bf (KZ hc3 E Ch E E (BF E E (FG DI CP) ?_))))))
 refine Z E (FO.shl32 (n:=8)) ?_
 refine Z E Er (J E (J E (Z E ME (Z E Bf (KZ hc4 E Ch E E (BF E E (FG DI CP) (Z E Er ?_)))))))
 refine CD [_] E CU Bk H8 ⟨E,zT⟩ E E E zX E E zU fun b1=>?_
 refine CF BQ 1 ([(((shl32 c1.toUInt32 24) ||| (shl32 c2.toUInt32 16)) ||| (shl32 c3.toUInt32 8)) ||| c4.toUInt32]:List UInt32) E zV E ?_
 refine Bh ?_
 refine Cr 1 hl4 (sz:=1) (enc:=BQ) zV E CU Bk QE H8 E zD E E E E (CH (sz:=1) (enc:=BQ) 0 zV E) (by simp[BQ,Value.oneCell']) zU fun v4=>?_
 refine U E (V (Ay (A6 (A9 ?_))))
 exact Ap (l4,v4) h tL (BR [1] 2 E E E)
 refine AJ (AI (Y ?_))
 refine AE h fun x1 hx1 h=>?_
 refine J E (J E (Z E Dm ?_))
 refine CI 0 hx1 E CU Bk E E E fun g1 m2 cp1 hv1=>?_
 refine Bv E A7 E (CA (sz:=1) (enc:=BQ) 0 0 zV E hv1 hx1 E) ?_
 refine U E (V (Y ?_))
 refine AE h fun x2 hx2 h=>?_
 refine J E (J E (Z E Dm ?_))
 refine CI 0 hx2 E CU Bk E E E fun g2 m3 cp2 hv2=>?_
 refine Bv E A7 E (CA (sz:=1) (enc:=BQ) 0 0 zV E hv2 hx2 E) ?_
 refine U E (V ?_)
 refine AE h fun x3 hx3 h=>?_
 refine AE h fun y1 hy1 h=>?_
 refine AE h fun y2 hy2 h=>?_
 refine AE h fun x4 hx4 h=>?_
 refine AE h fun y3 hy3 h=>?_
 refine AE h fun y4 hy4 h=>?_
 refine AE h fun l5 hl5 h=>?_
 refine Aw DG [0] (CM [(true,0),(true,1),(true,2),(true,3),(true,4),(true,5),(true,6),(true,8),(true,11),(true,12),(true,15),(true,16),(true,17),(true,18),(true,19),(true,21),(true,23),(true,26),(true,27),(false,7),(false,9),(true,10),(true,13),(true,14),(true,20),(false,22),(false,24),(true,25),(true,28),(true,29),(false,30)] (.last 31 (C4 [(false,32)]))) zK (J E (J E (J E (Z E Dm ?_))))
 refine CI 0 hx3 E CU Bk E E E fun g3 m4 cp3 hv3=>?_
 refine Bv E A7 E (CA (sz:=1) (enc:=BQ) 0 0 zV E hv3 hx3 E) ?_
 refine J E (J E (J E ?_))
 refine Z E (FO.shr32 (n:=3)) ?_
 refine J E (J E (Z E Dm ?_))
 refine CI 0 hx4 E CU Bk E E E fun g4 m5 cp4 hv4=>?_
 refine Bv E A7 E (CA (sz:=1) (enc:=BQ) 0 0 zV E hv4 hx4 E) ?_
 refine J E (J E (J E ?_))
 refine Z E (FO.shr32 (n:=10)) ?_
 refine BU 0 Nd (D9 hy1) E ⟨⟨0,E⟩,zT⟩ (BU 0 Nd (D9 hy2) E ⟨⟨0,E⟩,zT⟩ (Z E Ci (Z E Ci (Z E B1 (Z E B1 (BU 0 Nd (D9 hy3) E ⟨⟨0,E⟩,zT⟩ (BU 0 Nd (D9 hy4) E ⟨⟨0,E⟩,zT⟩ ?_)))))))
 refine Z E Ci (Z E Ci (Z E B1 ?_))
 refine CD [_] E CU Bk H8 ⟨E,zT⟩ E E E zX E E (fun _=>⟨⟨1,E⟩,zT⟩) fun b2=>?_
 refine CF BQ 1 ([((x3+((y1 ^^^ y2) ^^^ (shr32 x1 3)))+x4)+((y3 ^^^ y4) ^^^ (shr32 x2 10))]:List UInt32) E zV E ?_
 refine Bh ?_
 refine Cr 1 hl5 (sz:=1) (enc:=BQ) zV E CU Bk QE H8 E zD E E E E (CH (sz:=1) (enc:=BQ) 0 zV E) (by simp[BQ,Value.oneCell']) zU fun v5=>?_
 refine U E (Aa (An ?_))
 exact Ap (l5,v5) h tL (BR [1] 2 E E E)
 obtain⟨l3,v3⟩:=x
 dsimp only at h
 unfold Gd at h
 try dsimp only
 refine AS ?_
 obtain⟨x5,ex5,h⟩:=Bz h
 refine J E (Z E Bf ?_)
 refine Ak (u:=vI x5) E E (by rw[ex5]) ?_
 refine Aa ?_
 exact Av (m1,l3,v3,x5) h (Nat.lt_succ_self _) tL (BR [0] 1 E E E)
 refine Ay (A6 (Ba (A9 ?_)))
 exact Ap (l2,v2) h tL (BR [0] 1 E E E)
 obtain⟨l1,v1⟩:=x
 dsimp only at h
 unfold Gc at h
 try dsimp only
 refine Y ?_
 refine AE h fun l6 hl6 h=>?_
 refine fq (n:=8) BQ E CU Bk QE H8 E E E E E zU fun v6=>?_
 refine J E ?_
 refine Rj 0 hl6 hs0_ (sz:=1) (enc:=BQ) zV E CU Bk QE H8 E zD E E E (by simp[BQ,Value.oneCell']) zU fun v7=>?_
 refine U E (V ?_)
 refine BB (α:=List UInt32×Value) (fun x=>Ge n p0 x.1=some r) (fun x=>[(0,DB),(9,x.2)]) (fun x=>AC 33 1 x.2 BQ x.1::H) ?_ (fun x D h=>?_)
 refine Y (U E (V (AQ ?_)))
 refine SX.heap (SX.mono (BG (α:=Nat×List UInt32×Value×Int) (fun x=>Kr n T p0 l1 x.1 (x.2.1,x.2.2.2)=some r) (fun x=>[(0,DB),(5,v1),(9,x.2.2.1),(10,vI x.2.2.2)]) (fun x=>AC 33 1 v1 BQ l1::AC 33 1 x.2.2.1 BQ x.2.1::H) (fun x=>x.1) (fun x D h=>?_) (n,l6,v7,0) h) tL) (BR [1,0] 2 E E E)
 obtain⟨m6,l8,v9,a2⟩:=x
 dsimp only at h
 rcases m6 with _ | m6
 cases (show(none:Option _)=some r from h)
 replace h:Gt n T p0 l1 (Kr n T p0 l1 m6) l8 a2=some r:=h
 unfold Gt at h
 try dsimp only
 refine AH (Y (J E (Z E BA (V ?_))))
 refine AN h E (fun hc3 h=>?_) fun hc3 h=>?_
 refine AJ (AI (AH (AQ (Y ?_))))
 refine AE h fun x6 hx6 h=>?_
 refine J E ?_
 refine CI 1 hx6 E CU Bk E E E fun g5 m7 cp5 hv5=>?_
 refine Bv E A7 E (CA (sz:=1) (enc:=BQ) 1 0 zV E hv5 hx6 E) ?_
 refine U E (V (Y ?_))
 refine AE h fun x7 hx7 h=>?_
 refine J E ?_
 refine CI 1 hx7 E CU Bk E E E fun g6 m8 cp6 hv6=>?_
 refine Bv E A7 E (CA (sz:=1) (enc:=BQ) 1 0 zV E hv6 hx7 E) ?_
 refine U E (V (AH ?_))
 refine AE h fun x8 hx8 h=>?_
 refine AE h fun y5 hy5 h=>?_
 refine AE h fun y6 hy6 h=>?_
 refine AE h fun y7 hy7 h=>?_
 refine AE h fun x9 hx9 h=>?_
 refine AE h fun x10 hx10 h=>?_
 refine AE h fun x11 hx11 h=>?_
 refine AE h fun x12 hx12 h=>?_
 obtain⟨x13,ex13,h⟩:=Bz h
 refine Aw DG [0,1] (CM [(true,0),(true,1),(true,2),(true,3),(true,5),(true,8),(true,12),(true,13),(true,14),(true,15),(true,16),(true,17),(true,18),(true,19),(true,20),(true,21),(true,22),(true,23),(true,25),(true,26),(true,27),(true,29),(true,30),(true,31),(true,32),(false,4),(false,6),(true,7),(false,9),(false,10),(false,11),(false,24),(false,28)] (.last 33 (C4 [(false,34)]))) zK (J E ?_)
 refine CI 1 hx8 E CU Bk E E E fun g7 m9 cp7 hv7=>?_
 refine Bv E A7 E (CA (sz:=1) (enc:=BQ) 1 0 zV E hv7 hx8 E) ?_
 refine J E (J E (J E (J E (J E ?_))))
 refine CI 1 hx9 E CU Bk E E E fun g8 m10 cp8 hv8=>?_
 refine Bv E A7 E (CA (sz:=1) (enc:=BQ) 1 0 zV E hv8 hx9 E) ?_
 refine Z E Gh (J E (Ym E E (J E ?_)))
 refine CI 1 hx10 E CU Bk E E E fun g9 m11 cp9 hv9=>?_
 refine Bv E A7 E (CA (sz:=1) (enc:=BQ) 1 0 zV E hv9 hx10 E) ?_
 refine Z E Gh (Z E Ci (J E ?_))
 refine MT (xs:=T) hx11 E RH Bk E E hT.len ?_
 refine Bv E A7 E (pH hT hx11) (J E (J E ?_))
 refine CI 0 hx12 E CU Bk E E E fun g10 m12 cp10 hv10=>?_
 refine Bv E A7 E (CA (sz:=1) (enc:=BQ) 0 0 zV E hv10 hx12 E) ?_
 refine BU 0 Nd (D9 hy5) E ⟨⟨0,E⟩,⟨1,E⟩,zT⟩ (BU 0 Nd (D9 hy6) E ⟨⟨0,E⟩,⟨1,E⟩,zT⟩ (Z E Ci (BU 0 Nd (D9 hy7) E ⟨⟨0,E⟩,⟨1,E⟩,zT⟩ (Z E Ci (Z E B1 (Z E B1 (Z E B1 (Bh ?_))))))))
 refine Z E B1 ?_
 refine Ak (u:=AA x13) E E (by rw[ex13]) ?_
 refine V (AH ?_)
 refine AE h fun y8 hy8 h=>?_
 refine AE h fun y9 hy9 h=>?_
 refine AE h fun y10 hy10 h=>?_
 refine AE h fun x14 hx14 h=>?_
 refine AE h fun x15 hx15 h=>?_
 refine AE h fun x16 hx16 h=>?_
 refine AE h fun x17 hx17 h=>?_
 obtain⟨x18,ex18,h⟩:=Bz h
 refine Aw DG [1] (CM [(true,0),(true,2),(true,5),(true,8),(true,9),(true,10),(true,11),(true,12),(true,13),(true,14),(true,15),(true,16),(true,17),(true,18),(true,19),(true,20),(true,21),(true,22),(true,23),(true,24),(true,25),(true,26),(false,1),(false,3),(true,4),(false,6),(false,7)] (.last 27 (C4 [(false,28)]))) zK (J E (J E (J E (J E (J E ?_)))))
 refine CI 1 hx14 E CU Bk E E E fun g11 m13 cp11 hv11=>?_
 refine Bv E A7 E (CA (sz:=1) (enc:=BQ) 0 0 zV E hv11 hx14 E) ?_
 refine Z E Gh (J E (J E ?_))
 refine CI 1 hx15 E CU Bk E E E fun g12 m14 cp12 hv12=>?_
 refine Bv E A7 E (CA (sz:=1) (enc:=BQ) 0 0 zV E hv12 hx15 E) ?_
 refine Z E Gh (Z E Ci (J E ?_))
 refine CI 1 hx16 E CU Bk E E E fun g13 m15 cp13 hv13=>?_
 refine Bv E A7 E (CA (sz:=1) (enc:=BQ) 0 0 zV E hv13 hx16 E) ?_
 refine J E ?_
 refine CI 1 hx17 E CU Bk E E E fun g14 m16 cp14 hv14=>?_
 refine Bv E A7 E (CA (sz:=1) (enc:=BQ) 0 0 zV E hv14 hx17 E) ?_
 refine Z E Gh (Z E Ci (BU 0 Nd (D9 hy8) E ⟨⟨1,E⟩,zT⟩ (BU 0 Nd (D9 hy9) E ⟨⟨1,E⟩,zT⟩ (Z E Ci (BU 0 Nd (D9 hy10) E ⟨⟨1,E⟩,zT⟩ (Z E Ci (Bh (Z E B1 ?_))))))))
 refine Ak (u:=AA x18) E E (by rw[ex18]) ?_
 refine V ?_
 refine AE h fun x19 hx19 h=>?_
 refine AE h fun x20 hx20 h=>?_
 refine AE h fun x21 hx21 h=>?_
 refine AE h fun x22 hx22 h=>?_
 refine AE h fun x23 hx23 h=>?_
 refine AE h fun x24 hx24 h=>?_
 refine AE h fun x25 hx25 h=>?_
 refine Aw DG [1] (CM [(true,0),(true,1),(true,2),(true,3),(true,4),(true,5),(true,6),(true,7),(true,8),(true,9),(true,10),(true,11),(true,12),(true,13),(true,14),(true,15),(true,16),(true,17),(true,18),(true,19),(true,20),(true,21),(true,22),(true,23),(true,24),(true,25)] (.last 26 (C4 [(false,27)]))) zK (J E (J E (Z E B1 (J E ?_))))
 refine CI 1 hx19 E CU Bk E E E fun g15 m17 cp15 hv15=>?_
 refine Bv E A7 E (CA (sz:=1) (enc:=BQ) 0 0 zV E hv15 hx19 E) ?_
 refine J E ?_
 refine CI 1 hx20 E CU Bk E E E fun g16 m18 cp16 hv16=>?_
 refine Bv E A7 E (CA (sz:=1) (enc:=BQ) 0 0 zV E hv16 hx20 E) ?_
 refine J E ?_
 refine CI 1 hx21 E CU Bk E E E fun g17 m19 cp17 hv17=>?_
 refine Bv E A7 E (CA (sz:=1) (enc:=BQ) 0 0 zV E hv17 hx21 E) ?_
 refine J E ?_
 refine CI 1 hx22 E CU Bk E E E fun g18 m20 cp18 hv18=>?_
 refine Bv E A7 E (CA (sz:=1) (enc:=BQ) 0 0 zV E hv18 hx22 E) ?_
 refine J E (Z E B1 (J E ?_))
 refine CI 1 hx23 E CU Bk E E E fun g19 m21 cp19 hv19=>?_
 refine Bv E A7 E (CA (sz:=1) (enc:=BQ) 0 0 zV E hv19 hx23 E) ?_
 refine J E ?_
 refine CI 1 hx24 E CU Bk E E E fun g20 m22 cp20 hv20=>?_
 refine Bv E A7 E (CA (sz:=1) (enc:=BQ) 0 0 zV E hv20 hx24 E) ?_
 refine J E ?_
 refine CI 1 hx25 E CU Bk E E E fun g21 m23 cp21 hv21=>?_
 refine Bv E A7 E (CA (sz:=1) (enc:=BQ) 0 0 zV E hv21 hx25 E) ?_
 refine Bh ?_
 refine CD [_,_,_,_,_,_,_,_] E CU Bk H8 ⟨E,E,E,E,E,E,E,E,zT⟩ E E E zX E E zU fun b3=>?_
 refine CF BQ 1 ([x13+x18,x19,x20,x21,x22+x13,x23,x24,x25]:List UInt32) E zV E ?_
 refine U E (Aa (An (AI (AS ?_))))
 obtain⟨x26,ex26,h⟩:=Bz h
 refine J E (Z E Bf ?_)
 refine Ak (u:=vI x26) E E (by rw[ex26]) ?_
 refine Aa ?_
 exact Av (m6,[x13+x18,x19,x20,x21,x22+x13,x23,x24,x25],.slice (some ⟨b3,0,none⟩) 8 8,x26) h (Nat.lt_succ_self _) tL (BR [1,0] 3 E E E)
 refine Ay (A6 (Ba (A9 ?_)))
 exact Ap (l8,v9) h tL (BR [1] 2 E E E)
 obtain⟨l7,v8⟩:=x
 dsimp only at h
 unfold Ge at h
 try dsimp only
 refine BB (α:=List UInt32×Value) (fun x=>Kq x.1=some r) (fun x=>[(9,x.2)]) (fun x=>AC 33 1 x.2 BQ x.1::H) ?_ (fun x D h=>?_)
 refine Y (U E (V (AQ ?_)))
 refine SX.heap (SX.mono (BG (α:=Nat×List UInt32×Value×Int) (fun x=>Ks p0 x.1 (x.2.1,x.2.2.2)=some r) (fun x=>[(0,DB),(9,x.2.2.1),(15,vI x.2.2.2)]) (fun x=>AC 33 1 x.2.2.1 BQ x.2.1::H) (fun x=>x.1) (fun x D h=>?_) (n,l7,v8,0) h) tL) (BR [0] 1 E E E)
 obtain⟨m24,l10,v11,a3⟩:=x
 dsimp only at h
 rcases m24 with _ | m24
 cases (show(none:Option _)=some r from h)
 replace h:Gu p0 (Ks p0 m24) l10 a3=some r:=h
 unfold Gu at h
 try dsimp only
 refine AH (Y (J E (Z E BA (V ?_))))
 refine AN h E (fun hc4 h=>?_) fun hc4 h=>?_
 refine AJ (AI (AH (AQ ?_)))
 refine AE h fun x27 hx27 h=>?_
 refine AE h fun x28 hx28 h=>?_
 refine AE h fun x29 hx29 h=>?_
 refine AE h fun l11 hl11 h=>?_
 refine Aw DG [0] (CM [(true,0),(true,1),(true,2),(true,3),(true,4),(true,5),(true,6),(true,7),(true,8),(true,9),(true,10),(true,11)] (.last 12 .nil)) zK (J E (J E (J E (J E ?_))))
 refine CI 0 hx27 E CU Bk E E E fun g22 m25 cp22 hv22=>?_
 refine Bv E A7 E (CA (sz:=1) (enc:=BQ) 0 0 zV E hv22 hx27 E) ?_
 refine J E (J E ?_)
 refine C9 hx28 hs0_ E CU Bk E E fun be1 of1 hc5=>?_
 refine Bv E A7 E (DQ (j:=0) hc5 E) ?_
 refine Z E B1 ?_
 refine CI 0 hx29 E CU Bk E E E fun g23 m26 cp23 hv23=>?_
 refine Bh ?_
 refine GE (sz:=1) (enc:=BQ) 0 hl11 zV E E E E E hv23 Bk (by simp[Value.oneCell']) zT ?_
 refine Aa (An (AI (AS ?_)))
 obtain⟨x30,ex30,h⟩:=Bz h
 refine J E (Z E Bf ?_)
 refine Ak (u:=vI x30) E E (by rw[ex30]) ?_
 refine Aa ?_
 exact Av (m24,l11,v11,x30) h (Nat.lt_succ_self _) tL (BR [0] 1 E E E)
 refine Ay (A6 (Ba (A9 ?_)))
 exact Ap (l10,v11) h tL (BR [0] 1 E E E)
 obtain⟨l9,v10⟩:=x
 dsimp only at h
 unfold Kq at h
 try dsimp only
 refine Y (J E (U E (V (AL ?_))))
 obtain rfl:=zI h
 exact Bi [0] 1 (Cl E E) E E ⟨v10,E,E⟩
def It(p0:List UInt8)(a1:List UInt8):Option (List UInt8):=
 ret ((Cn (p0.length:Int))*8) fun x1=>
 (ED a1 [(shr64 x1 56).toUInt8,(shr64 x1 48).toUInt8,(shr64 x1 40).toUInt8,(shr64 x1 32).toUInt8,(shr64 x1 24).toUInt8,(shr64 x1 16).toUInt8,(shr64 x1 8).toUInt8,x1.toUInt8]).bind fun s3=>
 some s3
def Fp(p0:List UInt8)(nx_f_ref02_Filled_l1:List UInt8→Option (List UInt8))(a2:List UInt8):Option (List UInt8):=
 (Ta (a2.length:Int) 64).bind fun q1=>
 cond (!decide (q1=56))
 (
  (ED a2 [0]).bind fun s2=>
  nx_f_ref02_Filled_l1 s2)
 (
  It p0 a2)
def Iu(p0:List UInt8):Nat→List UInt8→Option (List UInt8):=CO fun nx x=>Fp p0 nx x
def JE(n:Nat)(p0:List UInt8):Option (List UInt8):=
 (ED p0 [128]).bind fun s1=>
 Iu p0 n s1
theorem WK{n:Nat}{p0 r:List UInt8}(h:JE n p0=some r): zC K w0 287 [vS p0] [] H (fun u M=>u=vS r∧M=[]):=by
 unfold JE at h
 refine Td.enter Tryz.func287 rfl rfl ?_
 refine Y (U E (V (Y ?_)))
 refine AE h fun s1 hs1 h=>?_
 refine J E (Z E (CQ hs1) (U E (V ?_)))
 refine BB (α:=List UInt8) (fun x=>It p0 x=some r) (fun x=>[(0,vS p0),(3,vS x)]) (fun x=>H) ?_ (fun a1 D h=>?_)
 refine AQ ?_
 refine SX.heap (SX.mono (BG (α:=Nat×List UInt8) (fun x=>Iu p0 x.1 x.2=some r) (fun x=>[(0,vS p0),(3,vS x.2)]) (fun x=>H) (fun x=>x.1) (fun x D h=>?_) (n,s1) h) tL) (BR [] 0 E E E)
 obtain⟨m1,a2⟩:=x
 dsimp only at h
 rcases m1 with _ | m1
 cases (show(none:Option _)=some r from h)
 replace h:Fp p0 (Iu p0 m1) a2=some r:=h
 unfold Fp at h
 try dsimp only
 refine AH (Y ?_)
 refine AE h fun q1 hq1 h=>?_
 refine J E (By E Ch E (Z E (Sn hq1) (Z E BO (V ?_))))
 refine AN h E (fun hc1 h=>?_) fun hc1 h=>?_
 refine AJ (AI (AQ (AS ?_)))
 refine AE h fun s2 hs2 h=>?_
 refine J E (Z E (CQ hs2) (U E (Aa (An ?_))))
 exact Av (m1,s2) h (Nat.lt_succ_self _) tL (BR [] 0 E E E)
 refine Ay (A6 (Ba (A9 ?_)))
 exact Ap a2 h tL (BR [] 0 E E E)
 unfold It at h
 try dsimp only
 refine Y ?_
 obtain⟨x1,ex1,h⟩:=Bz h
 refine J E (By E Ch E (BF E E (Es I9 DL) ?_))
 refine Z E (Lz (b:=8)) ?_
 refine Ak (u:=AV x1) E E (by rw[ex1]) ?_
 refine V (Y ?_)
 refine AE h fun s3 hs3 h=>?_
 refine J E (J E ?_)
 refine Z E (FO.shr64 (n:=56)) ?_
 refine BF E E (FF DL DI) (J E ?_)
 refine Z E (FO.shr64 (n:=48)) ?_
 refine BF E E (FF DL DI) (J E ?_)
 refine Z E (FO.shr64 (n:=40)) ?_
 refine BF E E (FF DL DI) (J E ?_)
 refine Z E (FO.shr64 (n:=32)) ?_
 refine BF E E (FF DL DI) (J E ?_)
 refine Z E (FO.shr64 (n:=24)) ?_
 refine BF E E (FF DL DI) (J E ?_)
 refine Z E (FO.shr64 (n:=16)) ?_
 refine BF E E (FF DL DI) (J E ?_)
 refine Z E (FO.shr64 (n:=8)) ?_
 refine BF E E (FF DL DI) (J E (BF E E (FF DL DI) ?_))
 refine CD [_,_,_,_,_,_,_,_] E Cb Jg KY ⟨E,E,E,E,E,E,E,E,zT⟩ E E E zX E E zU fun b1=>?_
 refine CF FS 1 ([(shr64 x1 56).toUInt8,(shr64 x1 48).toUInt8,(shr64 x1 40).toUInt8,(shr64 x1 32).toUInt8,(shr64 x1 24).toUInt8,(shr64 x1 16).toUInt8,(shr64 x1 8).toUInt8,x1.toUInt8]:List UInt8) E zV E ?_
 refine Gi 0 E Cb DI Ch E E (Z E (CQ hs3) (U E (V (AL ?_))))
 obtain rfl:=zI h
 exact AX [] 1 E E E
def Ll(l3:List UInt8):Option (List UInt8):=
 some l3
def Hj(l1:List UInt32)(nx_f_ref02_Sum_l2:List UInt8×Int→Option (List UInt8))(l4:List UInt8)(a2:Int):Option (List UInt8):=
 cond (decide (a2<8))
 (
  (BE l1 a2).bind fun x1=>
  (BE l1 a2).bind fun x2=>
  (BE l1 a2).bind fun x3=>
  (BE l1 a2).bind fun x4=>
  (DK 1 l4 [(shr32 x1 24).toUInt8,(shr32 x2 16).toUInt8,(shr32 x3 8).toUInt8,x4.toUInt8]).bind fun l5=>
  ret (wI (a2+1)) fun i_2=>
  nx_f_ref02_Sum_l2 (l5,i_2))
 (
  Ll l4)
def Ln(l1:List UInt32):Nat→(List UInt8×Int)→Option (List UInt8):=CO fun nx x=>Hj l1 nx x.1 x.2
def JF(n:Nat)(l1:List UInt32):Option (List UInt8):=
 Ln l1 n ([],0)
def Hi(n:Nat)(T:List UInt32)(y1:List UInt8)(nx_f_ref02_Sum_l1:List UInt32×Int→Option (List UInt8))(l2:List UInt32)(a1:Int):Option (List UInt8):=
 cond (decide (a1<(y1.length:Int)))
 (
  (Im y1 a1 (wI (a1+64))).bind fun s1=>
  (LO n T l2 s1).bind fun y3=>
  ret (wI (a1+64)) fun i_1=>
  nx_f_ref02_Sum_l1 (y3,i_1))
 (
  JF n l2)
def Lm(n:Nat)(T:List UInt32)(y1:List UInt8):Nat→(List UInt32×Int)→Option (List UInt8):=CO fun nx x=>Hi n T y1 nx x.1 x.2
def Iv(n:Nat)(T:List UInt32)(p0:List UInt8):Option (List UInt8):=
 (JE n p0).bind fun y1=>
 (Mf).bind fun y2=>
 Lm n T y1 n (y2,0)
theorem Qk{n:Nat}{T:List UInt32}{p0 r:List UInt8}(h:Iv n T p0=some r)(hT:JB K w0 2 64 T):zC K w0 260 [vS p0] [] H (fun u M=>u=vS r∧M=[]):=by
 unfold Iv at h
 refine Td.enter Tryz.func260 rfl rfl ?_
 refine Y (U E (V (Y ?_)))
 refine AE h fun y1 hy1 h=>?_
 refine J E (AP 0 oX (WK hy1) E (U E (V (Y ?_))))
 refine AE h fun y2 hy2 h=>?_
 refine Bd (vs:=[]) (Hin:=[]) (Hr:=_) E E zT oY E E (XF hy2) ?_
 rintro v1 _ ⟨_,rfl,rfl⟩
 refine⟨trivial,?_⟩
 refine U E (V ?_)
 refine BB (α:=List UInt32×Value) (fun x=>JF n x.1=some r) (fun x=>[(4,x.2)]) (fun x=>AC 33 1 x.2 BQ x.1::H) ?_ (fun x D h=>?_)
 refine Y (U E (V (AQ ?_)))
 refine SX.heap (SX.mono (BG (α:=Nat×List UInt32×Value×Int) (fun x=>Lm n T y1 x.1 (x.2.1,x.2.2.2)=some r) (fun x=>[(3,vS y1),(4,x.2.2.1),(5,vI x.2.2.2)]) (fun x=>AC 33 1 x.2.2.1 BQ x.2.1::H) (fun x=>x.1) (fun x D h=>?_) (n,y2,v1,0) h) tL) (BR [0] 1 E E E)
 obtain⟨m1,l2,v3,a1⟩:=x
 dsimp only at h
 rcases m1 with _ | m1
 cases (show(none:Option _)=some r from h)
 replace h:Hi n T y1 (Lm n T y1 m1) l2 a1=some r:=h
 unfold Hi at h
 try dsimp only
 refine AH (Y (J E (J E (By E Ch E (Z E BA (V ?_))))))
 refine AN h E (fun hc1 h=>?_) fun hc1 h=>?_
 refine AJ (AI (AH (AQ (AS ?_))))
 refine AE h fun s1 hs1 h=>?_
 refine AE h fun y3 hy3 h=>?_
 refine J E (J E (J E (J E (Z E Bf (mh hs1 E Ch E E E ?_)))))
 refine Bd (vs:=[_,_]) (Hin:=[_]) (Hr:=_) E E ⟨E,E,zT⟩ oZ E E (Cm (B:=[_]) (Hin:=[]) fun K' w1 hk hB=>YT hy3 (hT.keeps hk) (CT (e:=33) zV (hB _ zS))) ?_
 rintro v4 _ ⟨_,rfl,_,rfl,rfl⟩
 refine⟨trivial,?_⟩
 refine U E (Aa (An (AI (AS ?_))))
 obtain⟨i_1,ei_1,h⟩:=Bz h
 refine J E (Z E Bf ?_)
 refine Ak (u:=vI i_1) E E (by rw[ei_1]) ?_
 refine Aa ?_
 exact Av (m1,y3,v4,i_1) h (Nat.lt_succ_self _) tL (BR [1] 2 E E E)
 refine Ay (A6 (Ba (A9 ?_)))
 exact Ap (l2,v3) h tL (BR [0] 1 E E E)
 obtain⟨l1,v2⟩:=x
 dsimp only at h
 unfold JF at h
 try dsimp only
 refine Y (B8 5 1 FS (U E (V ?_)))
 refine BB (α:=List UInt8×Value) (fun x=>Ll x.1=some r) (fun x=>[(6,x.2)]) (fun x=>AC 5 1 x.2 FS x.1::H) ?_ (fun x D h=>?_)
 refine Y (U E (V (AQ ?_)))
 refine SX.heap (SX.mono (BG (α:=Nat×List UInt8×Value×Int) (fun x=>Ln l1 x.1 (x.2.1,x.2.2.2)=some r) (fun x=>[(4,v2),(6,x.2.2.1),(7,vI x.2.2.2)]) (fun x=>AC 33 1 v2 BQ l1::AC 5 1 x.2.2.1 FS x.2.1::H) (fun x=>x.1) (fun x D h=>?_) (n,[],zN,0) h) tL) (BR [1,0] 2 E E E)
 obtain⟨m2,l4,v6,a2⟩:=x
 dsimp only at h
 rcases m2 with _ | m2
 cases (show(none:Option _)=some r from h)
 replace h:Hj l1 (Ln l1 m2) l4 a2=some r:=h
 unfold Hj at h
 try dsimp only
 refine AH (Y (J E (Z E BA (V ?_))))
 refine AN h E (fun hc2 h=>?_) fun hc2 h=>?_
 refine AJ (AI (AH (AQ ?_)))
 refine AE h fun x1 hx1 h=>?_
 refine AE h fun x2 hx2 h=>?_
 refine AE h fun x3 hx3 h=>?_
 refine AE h fun x4 hx4 h=>?_
 refine AE h fun l5 hl5 h=>?_
 refine Aw DG [0] (CM [(true,0),(true,1),(true,2),(true,3),(true,4),(true,5),(true,6),(true,7),(true,8),(true,9),(true,10),(true,11),(true,12),(true,13),(true,14),(true,15),(true,16),(true,17),(true,18),(true,19),(true,20),(true,21),(true,22),(true,23),(false,24)] (.last 25 (C4 [(false,26)]))) zK (J E (J E (J E ?_)))
 refine CI 0 hx1 E CU Bk E E E fun g1 m3 cp1 hv1=>?_
 refine Bv E A7 E (CA (sz:=1) (enc:=BQ) 0 0 zV E hv1 hx1 E) ?_
 refine Z E (FO.shr32 (n:=24)) ?_
 refine BF E E (C5 CP DI) (J E (J E ?_))
 refine CI 0 hx2 E CU Bk E E E fun g2 m4 cp2 hv2=>?_
 refine Bv E A7 E (CA (sz:=1) (enc:=BQ) 0 0 zV E hv2 hx2 E) ?_
 refine Z E (FO.shr32 (n:=16)) ?_
 refine BF E E (C5 CP DI) (J E (J E ?_))
 refine CI 0 hx3 E CU Bk E E E fun g3 m5 cp3 hv3=>?_
 refine Bv E A7 E (CA (sz:=1) (enc:=BQ) 0 0 zV E hv3 hx3 E) ?_
 refine Z E (FO.shr32 (n:=8)) ?_
 refine BF E E (C5 CP DI) (J E (J E ?_))
 refine CI 0 hx4 E CU Bk E E E fun g4 m6 cp4 hv4=>?_
 refine Bv E A7 E (CA (sz:=1) (enc:=BQ) 0 0 zV E hv4 hx4 E) ?_
 refine BF E E (C5 CP DI) ?_
 refine CD [_,_,_,_] E Cb Jg KY ⟨E,E,E,E,zT⟩ E E E zX E E (fun _=>⟨⟨1,E⟩,zT⟩) fun b1=>?_
 refine CF FS 1 ([(shr32 x1 24).toUInt8,(shr32 x2 16).toUInt8,(shr32 x3 8).toUInt8,x4.toUInt8]:List UInt8) E zV E ?_
 refine Bh ?_
 refine Cr 2 hl5 (sz:=1) (enc:=FS) zV E Cb Jg VE KY E zD E E E E (CH (sz:=1) (enc:=FS) 0 zV E) (by simp[FS,Value.oneCell']) zU fun v7=>?_
 refine U E (Aa (An (AI (AS ?_))))
 obtain⟨i_2,ei_2,h⟩:=Bz h
 refine J E (Z E Bf ?_)
 refine Ak (u:=vI i_2) E E (by rw[ei_2]) ?_
 refine Aa ?_
 exact Av (m2,l5,v7,i_2) h (Nat.lt_succ_self _) tL (BR [1,2] 3 E E E)
 refine Ay (A6 (Ba (A9 ?_)))
 exact Ap (l4,v6) h tL (BR [1] 2 E E E)
 obtain⟨l3,v5⟩:=x
 dsimp only at h
 unfold Ll at h
 try dsimp only
 refine Y (J E (Gi 0 E Cb DI Ch E E (U E (V (AL ?_)))))
 obtain rfl:=zI h
 exact AX [] 1 E E E
def Gg(p1:UInt8)(l2:List UInt8)(a2:Int)(nx_f_ref03_part_l1:List UInt8×Int→Option (List UInt8))(a3:UInt8):Option (List UInt8):=
 (DK 1 l2 [a3 ^^^ p1]).bind fun l3=>
 ret (wI (a2+1)) fun i_1=>
 nx_f_ref03_part_l1 (l3,i_1)
def Kt(l1:List UInt8):Option (List UInt8):=
 some l1
def Gv(p1:UInt8)(a1:List UInt8)(nx_f_ref03_part_l1:List UInt8×Int→Option (List UInt8))(l2:List UInt8)(a2:Int):Option (List UInt8):=
 cond (decide (a2<64))
 (
  cond (decide (a2<(a1.length:Int)))
  (
   (BE a1 a2).bind fun c1=>
   Gg p1 l2 a2 nx_f_ref03_part_l1 c1)
  (
   Gg p1 l2 a2 nx_f_ref03_part_l1 0))
 (
  Kt l2)
def IN(p1:UInt8)(a1:List UInt8):Nat→(List UInt8×Int)→Option (List UInt8):=CO fun nx x=>Gv p1 a1 nx x.1 x.2
def Gf(n:Nat)(p1:UInt8)(a1:List UInt8):Option (List UInt8):=
 IN p1 a1 n ([],0)
def JY(n:Nat)(T:List UInt32)(p0:List UInt8)(p1:UInt8):Option (List UInt8):=
 cond (decide (64<(p0.length:Int)))
 (
  (Iv n T p0).bind fun y1=>
  Gf n p1 y1)
 (
  Gf n p1 p0)
theorem TM{n:Nat}{T:List UInt32}{p0 r:List UInt8}{p1:UInt8}(h:JY n T p0 p1=some r)(hT:JB K w0 2 64 T):zC K w0 290 [vS p0,EB p1] [] H (fun u M=>u=vS r∧M=[]):=by
 unfold JY at h
 refine Td.enter Tryz.func290 rfl rfl ?_
 refine Y (U E (V ?_))
 refine BB (α:=List UInt8) (fun x=>Gf n p1 x=some r) (fun x=>[(0,vS x),(1,EB p1)]) (fun x=>H) ?_ (fun a1 D h=>?_)
 refine Y (J E (By E Ch E (Z E Cq (V ?_))))
 refine AN h E (fun hc1 h=>?_) fun hc1 h=>?_
 refine AS ?_
 refine AE h fun y1 hy1 h=>?_
 refine J E (AP 0 aA (Qk hy1 hT) E (U E (Aa ?_)))
 exact Ap y1 h tL (BR [] 0 E E E)
 refine AJ ?_
 exact Ap p0 h tL (BR [] 0 E E E)
 unfold Gf at h
 try dsimp only
 refine Y (B8 5 1 FS (U E (V ?_)))
 refine BB (α:=List UInt8×Value) (fun x=>Kt x.1=some r) (fun x=>[(5,x.2)]) (fun x=>AC 5 1 x.2 FS x.1::H) ?_ (fun x D h=>?_)
 refine Y (U E (V (AQ ?_)))
 refine SX.heap (SX.mono (BG (α:=Nat×List UInt8×Value×Int) (fun x=>IN p1 a1 x.1 (x.2.1,x.2.2.2)=some r) (fun x=>[(0,vS a1),(1,EB p1),(5,x.2.2.1),(6,vI x.2.2.2)]) (fun x=>AC 5 1 x.2.2.1 FS x.2.1::H) (fun x=>x.1) (fun x D h=>?_) (n,[],zN,0) h) tL) (BR [0] 1 E E E)
 obtain⟨m1,l2,v2,a2⟩:=x
 dsimp only at h
 rcases m1 with _ | m1
 cases (show(none:Option _)=some r from h)
 replace h:Gv p1 a1 (IN p1 a1 m1) l2 a2=some r:=h
 unfold Gv at h
 try dsimp only
 refine AH (Y (J E (Z E BA (V ?_))))
 refine AN h E (fun hc2 h=>?_) fun hc2 h=>?_
 refine AJ (AI (AH (AQ (Y (U E (V ?_))))))
 refine BB (α:=UInt8) (fun x=>Gg p1 l2 a2 (IN p1 a1 m1) x=some r) (fun x=>[(0,vS a1),(1,EB p1),(5,v2),(6,vI a2),(7,EB x)]) (fun x=>AC 5 1 v2 FS l2::H) ?_ (fun a3 D h=>?_)
 refine Y (J E (J E (By E Ch E (Z E BA (V ?_)))))
 refine AN h E (fun hc3 h=>?_) fun hc3 h=>?_
 refine AS ?_
 refine AE h fun c1 hc1 h=>?_
 refine J E (J E (KZ hc1 E Ch E E (U E (Aa ?_))))
 exact Ap c1 h tL (BR [0] 1 E E E)
 refine AJ ?_
 exact Ap 0 h tL (BR [0] 1 E E E)
 unfold Gg at h
 try dsimp only
 refine AS ?_
 refine AE h fun l3 hl3 h=>?_
 refine J E (J E (J E (Z E So ?_)))
 refine CD [_] E Cb Jg KY ⟨E,zT⟩ E E E zX E E zU fun b1=>?_
 refine CF FS 1 ([a3 ^^^ p1]:List UInt8) E zV E ?_
 refine Cr 1 hl3 (sz:=1) (enc:=FS) zV E Cb Jg VE KY E zD E E E E (CH (sz:=1) (enc:=FS) 0 zV E) (by simp[FS,Value.oneCell']) zU fun v3=>?_
 refine U E (Aa (An (AI (AS ?_))))
 obtain⟨i_1,ei_1,h⟩:=Bz h
 refine J E (Z E Bf ?_)
 refine Ak (u:=vI i_1) E E (by rw[ei_1]) ?_
 refine Aa ?_
 exact Av (m1,l3,v3,i_1) h (Nat.lt_succ_self _) tL (BR [1] 2 E E E)
 refine Ay (A6 (Ba (A9 ?_)))
 exact Ap (l2,v2) h tL (BR [0] 1 E E E)
 obtain⟨l1,v1⟩:=x
 dsimp only at h
 unfold Kt at h
 try dsimp only
 refine Y (J E (Gi 0 E Cb DI Ch E E (U E (V (AL ?_)))))
 obtain rfl:=zI h
 exact AX [] 1 E E E
def Mg(n:Nat)(T:List UInt32)(p0:List UInt8)(p1:List UInt8):Option (List (List UInt8)):=
 (JY n T p0 54).bind fun y1=>
 (ED y1 p1).bind fun s1=>
 (JY n T p0 92).bind fun y2=>
 (Iv n T s1).bind fun y3=>
 (ED y2 y3).bind fun s2=>
 some [s1,s2]
theorem XG{n:Nat}{T:List UInt32}{p0 p1:List UInt8}{r:List (List UInt8)}(h:Mg n T p0 p1=some r)(hT:JB K w0 2 64 T):zC K w0 261 [vS p0,vS p1] [] H (fun u M=>∃v0:Value,u=v0∧M=[AC 9 1 v0 eS r]):=by
 unfold Mg at h
 refine Td.enter Tryz.func261 rfl rfl ?_
 refine Y (B8 9 1 eS (U E (V (Y ?_))))
 refine AE h fun y1 hy1 h=>?_
 refine AE h fun s1 hs1 h=>?_
 refine J E (AP 0 gZ (TM hy1 hT) E (J E (Z E (CQ hs1) (U E (V (Y ?_))))))
 refine AE h fun y2 hy2 h=>?_
 refine AE h fun y3 hy3 h=>?_
 refine AE h fun s2 hs2 h=>?_
 refine J E (J E (AP 0 gZ (TM hy2 hT) E (J E (AP 0 aA (Qk hy3 hT) E (Z E (CQ hs2) ?_)))))
 refine CD [_,_] E Db GD RJ ⟨E,E,zT⟩ E E E zX E E zU fun b1=>?_
 refine CF eS 1 ([s1,s2]:List (List UInt8)) E zV E ?_
 refine U E (V (AL ?_))
 obtain rfl:=zI h
 exact Bi [0] 2 (Cl E E) E E ⟨(.slice (some ⟨b1,0,none⟩) 2 2),E,E⟩
def Iy(n:Nat)(T:List UInt32)(p0:List UInt8)(p1:List UInt8):Option (List UInt8):=
 (Mg n T p0 p1).bind fun y1=>
 (BE y1 1).bind fun x1=>
 (Iv n T x1).bind fun y2=>
 some y2
theorem UP{n:Nat}{T:List UInt32}{p0 p1 r:List UInt8}(h:Iy n T p0 p1=some r)(hT:JB K w0 2 64 T):zC K w0 221 [vS p0,vS p1] [] H (fun u M=>u=vS r∧M=[]):=by
 unfold Iy at h
 refine Td.enter Tryz.func221 rfl rfl ?_
 refine Y (U E (V (Y ?_)))
 refine AE h fun y1 hy1 h=>?_
 refine AE h fun x1 hx1 h=>?_
 refine AE h fun y2 hy2 h=>?_
 refine J E (J E ?_)
 refine Bd (vs:=[_,_]) (Hin:=[]) (Hr:=_) E E ⟨E,E,zT⟩ oP E E (XG hy1 hT) ?_
 rintro v1 _ ⟨_,rfl,rfl⟩
 refine⟨trivial,?_⟩
 refine CI 0 hx1 E Db GD E E E fun g1 m1 cp1 hv1=>?_
 refine Bv E Fx E (CA (sz:=1) (enc:=eS) 0 0 zV E hv1 hx1 E) ?_
 refine AP 0 aA (Qk hy2 hT) E (U E (V (AL ?_)))
 obtain rfl:=zI h
 exact AX [] 1 E E E
def Iw(p2:Int)(a1:List UInt8):Option (List UInt8×Int):=
 (Im a1 0 p2).bind fun s4=>
 some (s4,0)
def Fq(n:Nat)(T:List UInt32)(p0:List UInt8)(p1:List UInt8)(p2:Int)(nx_f_ref03_Expand_l1:List UInt8×List UInt8×Int→Option (List UInt8×Int))(a2:List UInt8)(a3:List UInt8)(a4:Int):Option (List UInt8×Int):=
 cond (decide ((a2.length:Int)<p2))
 (
  (ED a3 p1).bind fun s1=>
  (ED s1 [Ig a4]).bind fun s2=>
  (Iy n T p0 s2).bind fun y1=>
  (ED a2 y1).bind fun s3=>
  ret (wI (a4+1)) fun i_1=>
  nx_f_ref03_Expand_l1 (s3,y1,i_1))
 (
  Iw p2 a2)
def Ix(n:Nat)(T:List UInt32)(p0:List UInt8)(p1:List UInt8)(p2:Int):Nat→(List UInt8×List UInt8×Int)→Option (List UInt8×Int):=CO fun nx x=>Fq n T p0 p1 p2 nx x.1 x.2.1 x.2.2
def HR(n:Nat)(T:List UInt32)(p0:List UInt8)(p1:List UInt8)(p2:Int):Option (List UInt8×Int):=
 cond ((decide (p2<0))||(decide (8160<p2)))
 (
  some ([],2))
 (
  Ix n T p0 p1 p2 n ([],[],1))
theorem RO{n:Nat}{T:List UInt32}{p0 p1:List UInt8}{p2:Int}{r:List UInt8×Int}(h:HR n T p0 p1 p2=some r)(hT:JB K w0 2 64 T):zC K w0 259 [vS p0,vS p1,vI p2] [] H (fun u M=>u=.tuple #[vS r.1,vI r.2]∧M=[]):=by
 unfold HR at h
 refine Td.enter Tryz.func259 rfl rfl ?_
 refine Y (U E (U E (V (AH (Y (J E (Z E BA (J E ?_))))))))
 refine E3 (c:=decide (8160<p2)) 13 3 16 E (fun hb k=>?_) (fun hb k=>?_) ?_
 refine AD E (AD E (Ai E E E ?_))
 exact k.mono tL
 refine J E (Z E Cq (Ai E E E ?_))
 exact k.mono tL
 refine V ?_
 refine AN h E (fun hc1 h=>?_) fun hc1 h=>?_
 refine Y (U E (U E (V (AL (Ac ?_)))))
 obtain rfl:=zI h
 exact AX [] 0 E E E
 refine AJ (AI (Y (U E (V (Y (U E (V ?_)))))))
 refine BB (α:=List UInt8) (fun x=>Iw p2 x=some r) (fun x=>[(2,vI p2),(8,vS x)]) (fun x=>H) ?_ (fun a1 D h=>?_)
 refine Y (U E (V (AQ ?_)))
 refine SX.heap (SX.mono (BG (α:=Nat×List UInt8×List UInt8×Int) (fun x=>Ix n T p0 p1 p2 x.1 (x.2.1,x.2.2.1,x.2.2.2)=some r) (fun x=>[(0,vS p0),(1,vS p1),(2,vI p2),(8,vS x.2.1),(9,vS x.2.2.1),(10,vI x.2.2.2)]) (fun x=>H) (fun x=>x.1) (fun x D h=>?_) (n,[],[],1) h) tL) (BR [] 0 E E E)
 obtain⟨m1,a2,a3,a4⟩:=x
 dsimp only at h
 rcases m1 with _ | m1
 cases (show(none:Option _)=some r from h)
 replace h:Fq n T p0 p1 p2 (Ix n T p0 p1 p2 m1) a2 a3 a4=some r:=h
 unfold Fq at h
 try dsimp only
 refine AH (Y (J E (By E Ch E (J E (Z E BA (V ?_))))))
 refine AN h E (fun hc2 h=>?_) fun hc2 h=>?_
 refine AJ (AI (AH (AQ (Y ?_))))
 refine AE h fun s1 hs1 h=>?_
 refine AE h fun s2 hs2 h=>?_
 refine AE h fun y1 hy1 h=>?_
 refine J E (J E (J E (Z E (CQ hs1) (J E (BF E E (QW I9 DI) ?_)))))
 refine CD [_] E Cb Jg KY ⟨E,zT⟩ E E E zX E E zU fun b1=>?_
 refine CF FS 1 ([Ig a4]:List UInt8) E zV E ?_
 refine Gi 0 E Cb DI Ch E E (Z E (CQ hs2) (AP 0 gQ (UP hy1 hT) E (U E (V (AS ?_)))))
 refine AE h fun s3 hs3 h=>?_
 refine J E (J E (Z E (CQ hs3) (U E (Aa (An (AI (AS ?_)))))))
 obtain⟨i_1,ei_1,h⟩:=Bz h
 refine J E (Z E Bf ?_)
 refine Ak (u:=vI i_1) E E (by rw[ei_1]) ?_
 refine Aa ?_
 exact Av (m1,s3,y1,i_1) h (Nat.lt_succ_self _) tL (BR [] 1 E E E)
 refine Ay (A6 (Ba (A9 ?_)))
 exact Ap a2 h tL (BR [] 0 E E E)
 unfold Iw at h
 try dsimp only
 refine Y ?_
 refine AE h fun s4 hs4 h=>?_
 refine J E (J E (jo hs4 E Ch E E (U E (U E (V (AL ?_))))))
 obtain rfl:=zI h
 exact AX [] 0 E E E
end

section
variable {K:Nat→Prop}{w0:World}{H:List AY}
def Ja(n:Nat)(T:List UInt32)(p0:BP):Option (List UInt8×List UInt8×Int):=
 (Gy n [p0]).bind fun y1=>
 cond (!y1)
 (
  some ([],[],40))
 (
  (ED [115,101,97,108] [p0.gen.toUInt8,(shr32 p0.gen 8).toUInt8,(shr32 p0.gen 16).toUInt8,(shr32 p0.gen 24).toUInt8]).bind fun s1=>
  (HR n T p0.secret s1 32).bind fun y2=>
  (ED [98,105,110,100] [p0.gen.toUInt8,(shr32 p0.gen 8).toUInt8,(shr32 p0.gen 16).toUInt8,(shr32 p0.gen 24).toUInt8]).bind fun s2=>
  (HR n T p0.secret s2 32).bind fun y3=>
  some (y2.1,y3.1,0))
theorem TO{n:Nat}{T:List UInt32}{p0:BP}{r:List UInt8×List UInt8×Int}(h:Ja n T p0=some r)(hT:JB K w0 2 64 T):zC K w0 220 [.agg (AZ p0).toArray] [] H (fun u M=>u=.tuple #[vS r.1,vS r.2.1,vI r.2.2]∧M=[]):=by
 unfold Ja at h
 refine Td.enter Tryz.func220 rfl rfl ?_
 refine Y ?_
 refine Bc E E zU fun b1=>?_
 refine U E (U E (U E (V (Y ?_))))
 refine AE h fun y1 hy1 h=>?_
 refine As [AA p0.gen,vS p0.secret] E K8 E E (Aj 0 E) ?_
 refine CD [_] E GY E5 Ji ⟨E,zT⟩ E E E zX E E zU fun b2=>?_
 refine CF AZ 2 ([p0]:List BP) E zV E ?_
 refine Bd (vs:=[_]) (Hin:=[_]) (Hr:=_::_) E E ⟨E,zT⟩ eQ E E (Cm (B:=[_]) (Hin:=[]) fun K' w1 hk hB=>Oo hy1 (CT (e:=114) zV (hB _ zS))) ?_
 rintro _ _ ⟨_,rfl,rfl,rfl⟩
 refine⟨trivial,?_⟩
 refine U E (V (AH (Y (J E (CY E E (V ?_))))))
 refine AN h E (fun hc1 h=>?_) fun hc1 h=>?_
 refine Y (U E (U E (U E (V (AL (Ac ?_))))))
 obtain rfl:=zI h
 exact AX [] 2 E E E
 refine AJ (AI (Y (AF E FW (AG 1 A7 E (BF E E (C5 CP DI) (AF E FW (AG 1 A7 E ?_)))))))
 refine Z E (FO.shr32 (n:=8)) ?_
 refine BF E E (C5 CP DI) (AF E FW (AG 1 A7 E ?_))
 refine Z E (FO.shr32 (n:=16)) ?_
 refine BF E E (C5 CP DI) (AF E FW (AG 1 A7 E ?_))
 refine Z E (FO.shr32 (n:=24)) ?_
 refine BF E E (C5 CP DI) ?_
 refine CD [_,_,_,_] E Cb Jg KY ⟨E,E,E,E,zT⟩ E E E zX E E zU fun b3=>?_
 refine CF FS 1 ([p0.gen.toUInt8,(shr32 p0.gen 8).toUInt8,(shr32 p0.gen 16).toUInt8,(shr32 p0.gen 24).toUInt8]:List UInt8) E zV E ?_
 refine Gi 0 E Cb DI Ch E E (U E (V (Y ?_)))
 refine AE h fun s1 hs1 h=>?_
 refine AE h fun y2 hy2 h=>?_
 refine AF E QO (AG 2 Fx E (J E (Z E (CQ hs1) (AP 0 gW (RO hy2 hT) E (J E (Ae E E E (Ae E E E ?_)))))))
 refine U E (U E (V (Y ?_)))
 refine AE h fun s2 hs2 h=>?_
 refine AE h fun y3 hy3 h=>?_
 refine AF E QO (AG 2 Fx E (J E (Z E (CQ hs2) (AP 0 gW (RO hy3 hT) E (J E (Ae E E E (Ae E E E ?_)))))))
 refine U E (U E (V (Y (J E (J E (U E (U E (U E (V (AL ?_))))))))))
 obtain rfl:=zI h
 exact AX [] 3 E E E
def Lo(a1:List UInt8):Option (List UInt8×Int):=
 some (a1,0)
def Hl(nx_f_ref05_Pad_l1:List UInt8→Option (List UInt8×Int))(a2:List UInt8):Option (List UInt8×Int):=
 cond (decide ((a2.length:Int)<200))
 (
  (ED a2 [0]).bind fun s2=>
  nx_f_ref05_Pad_l1 s2)
 (
  Lo a2)
def Lp:Nat→List UInt8→Option (List UInt8×Int):=CO fun nx x=>Hl  nx x
def Mh(n:Nat)(p0:List UInt8):Option (List UInt8×Int):=
 cond (decide (198<(p0.length:Int)))
 (
  some ([],50))
 (
  (Uv (p0.length:Int) 256).bind fun q1=>
  (Ta (p0.length:Int) 256).bind fun q2=>
  (ED [Ig q1,Ig q2] p0).bind fun s1=>
  Lp n s1)
theorem Zp{n:Nat}{p0:List UInt8}{r:List UInt8×Int}(h:Mh n p0=some r): zC K w0 218 [vS p0] [] H (fun u M=>u=.tuple #[vS r.1,vI r.2]∧M=[]):=by
 unfold Mh at h
 refine Td.enter Tryz.func218 rfl rfl ?_
 refine Y (U E (U E (V (AH (Y (J E (By E Ch E (Z E Cq (V ?_)))))))))
 refine AN h E (fun hc1 h=>?_) fun hc1 h=>?_
 refine Y (U E (U E (V (AL (Ac ?_)))))
 obtain rfl:=zI h
 exact AX [] 0 E E E
 refine AJ (AI (Y ?_))
 refine AE h fun q1 hq1 h=>?_
 refine AE h fun q2 hq2 h=>?_
 refine AE h fun s1 hs1 h=>?_
 refine J E (By E Ch E (Z E (U6 hq1) (BF E E (QW I9 DI) (J E (By E Ch E (Z E (Sn hq2) (BF E E (QW I9 DI) ?_)))))))
 refine CD [_,_] E Cb Jg KY ⟨E,E,zT⟩ E E E zX E E zU fun b1=>?_
 refine CF FS 1 ([Ig q1,Ig q2]:List UInt8) E zV E ?_
 refine Gi 0 E Cb DI Ch E E (J E (Z E (CQ hs1) (U E (V ?_))))
 refine BB (α:=List UInt8) (fun x=>Lo x=some r) (fun x=>[(4,vS x)]) (fun x=>H) ?_ (fun a1 D h=>?_)
 refine AQ ?_
 refine SX.heap (SX.mono (BG (α:=Nat×List UInt8) (fun x=>Lp x.1 x.2=some r) (fun x=>[(4,vS x.2)]) (fun x=>H) (fun x=>x.1) (fun x D h=>?_) (n,s1) h) tL) (BR [] 1 E E E)
 obtain⟨m1,a2⟩:=x
 dsimp only at h
 rcases m1 with _ | m1
 cases (show(none:Option _)=some r from h)
 replace h:Hl (Lp m1) a2=some r:=h
 unfold Hl at h
 try dsimp only
 refine AH (Y (J E (By E Ch E (Z E BA (V ?_)))))
 refine AN h E (fun hc2 h=>?_) fun hc2 h=>?_
 refine AJ (AI (AQ (AS ?_)))
 refine AE h fun s2 hs2 h=>?_
 refine J E (Z E (CQ hs2) (U E (Aa (An ?_))))
 exact Av (m1,s2) h (Nat.lt_succ_self _) tL (BR [] 0 E E E)
 refine Ay (A6 (Ba (A9 ?_)))
 exact Ap a2 h tL (BR [] 0 E E E)
 unfold Lo at h
 try dsimp only
 refine Y (J E (U E (U E (V (AL ?_)))))
 obtain rfl:=zI h
 exact AX [] 0 E E E
def Lq(a1:List UInt8):Option (List UInt8):=
 some a1
def Hm(p1:Int)(nx_f_ref06_put_l1:UInt64×List UInt8×Int→Option (List UInt8))(a2:UInt64)(a3:List UInt8)(a4:Int):Option (List UInt8):=
 cond (decide (a4<p1))
 (
  (ED a3 [a2.toUInt8]).bind fun s1=>
  (RA a2 256).bind fun q1=>
  ret (wI (a4+1)) fun i_1=>
  nx_f_ref06_put_l1 (q1,s1,i_1))
 (
  Lq a3)
def Lr(p1:Int):Nat→(UInt64×List UInt8×Int)→Option (List UInt8):=CO fun nx x=>Hm p1 nx x.1 x.2.1 x.2.2
def Dw(n:Nat)(p0:UInt64)(p1:Int):Option (List UInt8):=
 Lr p1 n (p0,[],0)
theorem Kg{n:Nat}{p0:UInt64}{p1:Int}{r:List UInt8}(h:Dw n p0 p1=some r): zC K w0 286 [AV p0,vI p1] [] H (fun u M=>u=vS r∧M=[]):=by
 unfold Dw at h
 refine Td.enter Tryz.func286 rfl rfl ?_
 refine Y (U E (V (Y (U E (V ?_)))))
 refine BB (α:=List UInt8) (fun x=>Lq x=some r) (fun x=>[(5,vS x)]) (fun x=>H) ?_ (fun a1 D h=>?_)
 refine Y (U E (V (AQ ?_)))
 refine SX.heap (SX.mono (BG (α:=Nat×UInt64×List UInt8×Int) (fun x=>Lr p1 x.1 (x.2.1,x.2.2.1,x.2.2.2)=some r) (fun x=>[(0,AV x.2.1),(1,vI p1),(5,vS x.2.2.1),(6,vI x.2.2.2)]) (fun x=>H) (fun x=>x.1) (fun x D h=>?_) (n,p0,[],0) h) tL) (BR [] 0 E E E)
 obtain⟨m1,a2,a3,a4⟩:=x
 dsimp only at h
 rcases m1 with _ | m1
 cases (show(none:Option _)=some r from h)
 replace h:Hm p1 (Lr p1 m1) a2 a3 a4=some r:=h
 unfold Hm at h
 try dsimp only
 refine AH (Y (J E (J E (Z E BA (V ?_)))))
 refine AN h E (fun hc1 h=>?_) fun hc1 h=>?_
 refine AJ (AI (AH (AQ (Y ?_))))
 refine AE h fun s1 hs1 h=>?_
 refine J E (J E (BF E E (FF DL DI) ?_))
 refine CD [_] E Cb Jg KY ⟨E,zT⟩ E E E zX E E zU fun b1=>?_
 refine CF FS 1 ([a2.toUInt8]:List UInt8) E zV E ?_
 refine Gi 0 E Cb DI Ch E E (Z E (CQ hs1) (U E (V (AS ?_))))
 refine AE h fun q1 hq1 h=>?_
 refine J E ?_
 refine Z E (PP (b:=256) hq1) ?_
 refine U E (Aa (An (AI (AS ?_))))
 obtain⟨i_1,ei_1,h⟩:=Bz h
 refine J E (Z E Bf ?_)
 refine Ak (u:=vI i_1) E E (by rw[ei_1]) ?_
 refine Aa ?_
 exact Av (m1,q1,s1,i_1) h (Nat.lt_succ_self _) tL (BR [] 1 E E E)
 refine Ay (A6 (Ba (A9 ?_)))
 exact Ap a3 h tL (BR [] 0 E E E)
 unfold Lq at h
 try dsimp only
 refine Y (J E (U E (V (AL ?_))))
 obtain rfl:=zI h
 exact AX [] 0 E E E
def Mi(n:Nat)(p0:DC):Option (List UInt8):=
 (Dw n p0.page.toUInt64 4).bind fun y1=>
 (Dw n p0.gen.toUInt64 4).bind fun y2=>
 (ED y1 y2).bind fun s1=>
 (Dw n p0.boot.toUInt64 4).bind fun y3=>
 (ED s1 y3).bind fun s2=>
 (Dw n p0.seq 8).bind fun y4=>
 (ED s2 y4).bind fun s3=>
 (ED s3 [0,0,0,0]).bind fun s4=>
 some s4
theorem Zq{n:Nat}{p0:DC}{r:List UInt8}(h:Mi n p0=some r): zC K w0 258 [.agg (J1 p0).toArray] [] H (fun u M=>u=vS r∧M=[]):=by
 unfold Mi at h
 refine Td.enter Tryz.func258 rfl rfl ?_
 refine Y ?_
 refine Bc E E zU fun b1=>?_
 refine U E (V (AH ?_))
 refine AE h fun y1 hy1 h=>?_
 refine AE h fun y2 hy2 h=>?_
 refine AE h fun s1 hs1 h=>?_
 refine AE h fun y3 hy3 h=>?_
 refine AE h fun s2 hs2 h=>?_
 refine AE h fun y4 hy4 h=>?_
 refine AE h fun s3 hs3 h=>?_
 refine AE h fun s4 hs4 h=>?_
 refine Aw DG [0] (CM [(true,0),(true,1),(true,2),(true,4),(true,5),(true,6),(true,9),(true,10),(true,11),(true,14),(true,15),(false,3),(false,7),(true,8),(false,12),(true,13),(false,16)] (.last 17 (C4 [(false,18),(false,19)]))) zK (AF E cu (AG 0 A7 E (BF E E (Cs CP DL) (AF E Um (AG 0 A7 E (BF E E (Cs CP DL) (AF E Xk ?_)))))))
 refine AG 0 A7 E (BF E E (Cs CP DL) (AF E Xl (AG 0 G7 E (BU 0 Sy (Kg hy1) E ⟨⟨0,E⟩,zT⟩ (BU 0 Sy (Kg hy2) E ⟨⟨0,E⟩,zT⟩ (Z E (CQ hs1) (BU 0 Sy (Kg hy3) E ⟨⟨0,E⟩,zT⟩ ?_)))))))
 refine Z E (CQ hs2) (BU 0 Sy (Kg hy4) E ⟨⟨0,E⟩,zT⟩ (Bh (Z E (CQ hs3) (Z E (CQ hs4) (U E (V (AL ?_)))))))
 obtain rfl:=zI h
 exact AX [] 1 E E E
def KC(n:Nat)(p0:DC):Option (List UInt8):=
 (Dw n p0.boot.toUInt64 4).bind fun y1=>
 (Dw n p0.seq 8).bind fun y2=>
 (ED y1 y2).bind fun s1=>
 some s1
theorem XI{n:Nat}{p0:DC}{r:List UInt8}(h:KC n p0=some r): zC K w0 257 [.agg (J1 p0).toArray] [] H (fun u M=>u=vS r∧M=[]):=by
 unfold KC at h
 refine Td.enter Tryz.func257 rfl rfl ?_
 refine Y ?_
 refine Bc E E zU fun b1=>?_
 refine U E (V (AH ?_))
 refine AE h fun y1 hy1 h=>?_
 refine AE h fun y2 hy2 h=>?_
 refine AE h fun s1 hs1 h=>?_
 refine Aw DG [0] (CM [(true,0),(true,1),(true,2),(true,4),(true,5),(false,3)] (.last 6 (C4 [(false,7),(false,8)]))) zK (AF E Xk (AG 0 A7 E (BF E E (Cs CP DL) (AF E Xl (AG 0 G7 E (BU 0 Sy (Kg hy1) E ⟨⟨0,E⟩,zT⟩ (Bh (AP 0 Sy (Kg hy2) E ?_))))))))
 refine Z E (CQ hs1) (U E (V (AL ?_)))
 obtain rfl:=zI h
 exact AX [] 1 E E E
def KB(n:Nat)(T:List UInt32)(p0:BP)(p1:DC)(p2:List UInt8):Option (List UInt8):=
 (Ja n T p0).bind fun y1=>
 (KC n p1).bind fun y2=>
 (Me n y1.1 y2 p2).bind fun y3=>
 (Mi n p1).bind fun y4=>
 (ED y4 y3.1).bind fun s1=>
 some s1
theorem XH{n:Nat}{T:List UInt32}{p0:BP}{p1:DC}{p2 r:List UInt8}(h:KB n T p0 p1 p2=some r)(hT:JB K w0 2 64 T):zC K w0 219 [.agg (AZ p0).toArray,.agg (J1 p1).toArray,vS p2] [] H (fun u M=>u=vS r∧M=[]):=by
 unfold KB at h
 refine Td.enter Tryz.func219 rfl rfl ?_
 refine Y ?_
 refine Bc E E zU fun b1=>?_
 refine Bc E E zU fun b2=>?_
 refine U E (V (Y ?_))
 refine AE h fun y1 hy1 h=>?_
 refine As [AA p0.gen,vS p0.secret] E K8 E E (Aj 1 E) (AP 0 gP (TO hy1 hT) E (J E (Ae E E E (Ae E E E (Ae E E E (U E (U E ?_)))))))
 refine U E (V (Y ?_))
 refine AE h fun y2 hy2 h=>?_
 refine AE h fun y3 hy3 h=>?_
 refine J E (As [AA p1.page,AA p1.gen,AA p1.boot,AV p1.seq] E Tf E E (Aj 0 E) (AP 0 oN (XI hy2) E (J E (AP 0 oM (Zo hy3) E (J E (Ae E E E (Ae E E E ?_)))))))
 refine U E (U E (V (Y ?_)))
 refine AE h fun y4 hy4 h=>?_
 refine AE h fun s1 hs1 h=>?_
 refine As [AA p1.page,AA p1.gen,AA p1.boot,AV p1.seq] E Tf E E (Aj 0 E) (AP 0 oO (Zq hy4) E (J E (Z E (CQ hs1) (U E (V (AL ?_))))))
 obtain rfl:=zI h
 exact AX [] 2 E E E
def LP(n:Nat)(T:List UInt32)(p0:List BP)(p1:DC)(p2:List UInt8):Option (List UInt8×Int):=
 (JZ n p0 p1.gen).bind fun y1=>
 cond (!decide (y1.2=0))
 (
  some ([],y1.2))
 (
  (Mh n p2).bind fun y2=>
  cond (!decide (y2.2=0))
  (
   some ([],y2.2))
  (
   (KB n T y1.1 p1 y2.1).bind fun y3=>
   (Ja n T y1.1).bind fun y4=>
   (Iy n T y4.2.1 y3).bind fun y5=>
   (ED y3 y5).bind fun s1=>
   some (s1,0)))
theorem YU{n:Nat}{T:List UInt32}{DB:Value}{p0:List BP}{p1:DC}{p2:List UInt8}{r:List UInt8×Int}(h:LP n T p0 p1 p2=some r)(hT:JB K w0 2 64 T)(hs0_:B9 K w0 AZ 2 DB p0):zC K w0 179 [DB,.agg (J1 p1).toArray,vS p2] [] H (fun u M=>u=.tuple #[vS r.1,vI r.2]∧M=[]):=by
 unfold LP at h
 refine Td.enter Tryz.func179 rfl rfl ?_
 refine Y ?_
 refine Bc E E zU fun b1=>?_
 refine U E (U E (V (Y ?_)))
 refine AE h fun y1 hy1 h=>?_
 refine J E (AF E Um (AG 0 A7 E (AP 0 kb (TN hy1 hs0_) E (J E (Ae E E E (Ae E E E ?_))))))
 refine Am E Ji zU fun b2=>?_
 refine A8 0 E E E E E5 E E E zT (U E (V (AH (Y (J E (Z E BO (V ?_)))))))
 refine AN h E (fun hc1 h=>?_) fun hc1 h=>?_
 refine Y (J E (U E (U E (V (AL (Ac ?_))))))
 obtain rfl:=zI h
 exact AX [] 2 E E E
 refine AJ (AI (Y ?_))
 refine AE h fun y2 hy2 h=>?_
 refine J E (AP 0 oB (Zp hy2) E (J E (Ae E E E (Ae E E E (U E (U E (V (AH (Y (J E ?_))))))))))
 refine Z E BO (V ?_)
 refine AN h E (fun hc2 h=>?_) fun hc2 h=>?_
 refine Y (J E (U E (U E (V (AL (Ac ?_))))))
 obtain rfl:=zI h
 exact AX [] 2 E E E
 refine AJ (AI (Y ?_))
 refine AE h fun y3 hy3 h=>?_
 refine As [AA y1.1.gen,vS y1.1.secret] E K8 E E (Aj 0 E) (As [AA p1.page,AA p1.gen,AA p1.boot,AV p1.seq] E Tf E E (Aj 1 E) (J E (AP 0 oC (XH hy3 hT) E (U E (V (Y ?_))))))
 refine AE h fun y4 hy4 h=>?_
 refine As [AA y1.1.gen,vS y1.1.secret] E K8 E E (Aj 0 E) (AP 0 gP (TO hy4 hT) E (J E (Ae E E E (Ae E E E (Ae E E E (U E (U E ?_)))))))
 refine U E (V (Y ?_))
 refine AE h fun y5 hy5 h=>?_
 refine AE h fun s1 hs1 h=>?_
 refine J E (J E (J E (AP 0 gQ (UP hy5 hT) E (Z E (CQ hs1) (U E (U E (V (AL ?_))))))))
 obtain rfl:=zI h
 exact AX [] 2 E E E
end

section
variable {P:Program}{ro:Option Nat}{K:Nat→Prop}{w0:World}{N:Nat}{Q:DJ}{D:List Nat}{l l':Tm}{H H' Hs L:List AY}{ops:Array Oper}{items:Hx}
variable {tk:Bool}{o:Oper}{t:Nat}{v:Value}{x y z:Operand}
theorem Yn{α:Type}{enc:α→List Value}{sz b off cap q:Nat}{xs:List α}(hl:∀x,(enc x).length=sz)(hcap:xs.length≤cap)(hc:∀j u,(xs.flatMap enc)[j]? = some u→K b∧w0.cell? ⟨b,off+j,none⟩=some u)(hq:q≤xs.length):B9 K w0 enc sz (.slice (some ⟨b,off+q*sz,none⟩) (xs.length-q) (cap-q)) (xs.drop q):=by
 refine⟨hl,.inr ⟨b,off+q*sz,cap-q,by simp,by simp;omega,fun j u hu=>?_⟩⟩
 have hpre:(xs.take q).flatMap enc++(xs.drop q).flatMap enc=xs.flatMap enc:=by
  rw[←List.flatMap_append,List.take_append_drop]
 have hlen:((xs.take q).flatMap enc).length=q*sz:=by rw[I3 hl,List.length_take,Nat.min_eq_left hq]
 have:=hc (q*sz+j) u (by
  rw[←hpre,List.getElem?_append_right zO,hlen,Nat.add_sub_cancel_left]
  exact hu)
 rw[Nat.add_assoc]
 exact this
theorem bz{α:Type}{enc:α→List Value}{sz:Nat}{xs us:List α}{k:IntKind}{j:Int}{ty e:TypeId}(hn:Im xs j (xs.length:Int)=some us)(hk:B9 K w0 enc sz v xs)(ho:At ops N l o t (.slice ty x (some z) none none))(hty:P.underlying ty=some (.slice e))(hsz:DH P e=some sz)(hx:Bj l x=some v)(hz:Bj l z=some (.int k j))
(h:∀v',B9 K w0 enc sz v' us→SL P ro K w0 N ops Hs items Q D ((t,v')::l) H):SL P ro K w0 N ops Hs (.cons (tk,o) items) Q D l H:=by
 obtain⟨h1,h2,h3,h4,rfl⟩:=Na hn
 have e2:(xs.drop j.toNat).take ((xs.length:Int).toNat-j.toNat)=xs.drop j.toNat:=List.take_of_length_le zS
 rw[e2]at h
 generalize j.toNat=q at*
 subst h1
 simp only[Int.toNat_natCast]at h3
 rcases hk.at_ with⟨a0,rfl,rfl⟩ | ⟨b,off,cap,rfl,hcap,hc⟩
 have hq:q=0:=by simpa using h3
 subst hq
 refine SL.val (v:=.slice a0 0 0) ho E (fun a w ha _=>?_) (h _ ⟨hk.len,.inl ⟨_,E,by simp⟩⟩)
 simp only[execOp,ho.op,Instr.sliceAt,Instr.slice,Option.map]
 cases a0<;>simp[ha.eval hx,ha.eval hz,Aq hty,Ce hsz,Instr.sliceBounds,Instr.sliceBound,asIntOf]
 by_cases hqc:q<cap
 exact Wu q ho hty hsz hx hz E h3 hqc (h _ (Yn hk.len hcap hc h3))
 have hqe:q=xs.length:=zO
 have hce:cap=xs.length:=zO
 subst hqe hce
 refine SL.val (v:=.slice (some ⟨b,off,none⟩) 0 0) ho E (fun a w ha _=>?_) (h _ ⟨hk.len,.inl ⟨_,E,by simp⟩⟩)
 simp only[execOp,ho.op,Instr.sliceAt,Instr.slice,Option.map]
 simp[ha.eval hx,ha.eval hz,Aq hty,Ce hsz,Instr.sliceBounds,Instr.sliceBound,asIntOf,Cf]
end
end Go.Proofs.YtjkhnhichalenaaGreatDoor
