/- The texts LG1, LG8, LG9, LG10, LG11, S25, GG32, GG33, LG12, LG13, LG14, GG34, GG35, LG19, LG20, U1, U2, U3, one behind the other: each bears its own sentence. Conditions: as each says. -/
import Derived.Test.YtkibffdipniemaaGreatDoorMH1
import Derived.Test.YtkibffdipniemaaGreatDoorMH2
import Derived.Test.YtkibffdipniemaaGreatDoorMH3
import Derived.Test.YtkibffdipniemaaGreatDoorMH4
import Derived.Test.YtkibffdipniemaaGreatDoorMH5

set_option linter.unusedVariables false
set_option linter.unusedSimpArgs false
set_option maxHeartbeats 4000000
set_option maxRecDepth 100000
namespace Go.Proofs.YtkibffdipniemaaGreatDoor
open Go
/- Plain laws of the stable sort of rows: what the printed functions answer is the rows, sorted by their ids. No program in sight. Condition: at most 2^30 rows, and rounds enough. -/
section
/-! ### Lists in parts -/
theorem H4{α:Type}(A:List α)(x:α)(B:List α){i:Int}(h:i=(A.length:Int)):Aq (A++x::B) i=some x:=by
 rw[DK h]
 simp
theorem L7{α:Type}(A:List α)(x y:α)(B:List α){i:Int}(h:i=(A.length:Int)):Ek (A++x::B) i y=some (A++y::B):=by
 rw[HC h zS]
 simp
def Ka(l:List AN):Prop:=l.Pairwise fun a b=>a.id≤b.id
theorem T4(a b:AN):∃y,Dt a b=some y∧decide (y<0)=decide (a.id<b.id):=by
 unfold Dt GF FN
 simp only[A7,Y,decide_true,Bool.not_true,cond_false]
 by_cases h:a.id<b.id
 rw[decide_eq_true h]
 exact⟨-1,rfl,rfl⟩
 rw[decide_eq_false h]
 by_cases h2:b.id<a.id
 rw[decide_eq_true h2]
 exact⟨1,rfl,rfl⟩
 rw[decide_eq_false h2]
 exact⟨0,rfl,rfl⟩
theorem HT{a b:List AN}:Ka (a++b)↔Ka a∧Ka b∧∀x∈a,∀y∈b,x.id≤y.id:=List.pairwise_append
theorem K1{a b:UInt64}(h:¬a<b):b≤a:=by
 rw[UInt64.lt_iff_toNat_lt]at h
 rw[UInt64.le_iff_toNat_le]
 omega
theorem RM{a b:UInt64}(h:a<b):a≤b:=by
 rw[UInt64.lt_iff_toNat_lt]at h
 rw[UInt64.le_iff_toNat_le]
 omega
theorem En{a b c:UInt64}(h:a≤b)(h':b≤c):a≤c:=by
 rw[UInt64.le_iff_toNat_le]at*
 omega
theorem eF{a b c:UInt64}(h:a≤b)(h':b<c):a<c:=by
 rw[UInt64.le_iff_toNat_le]at*
 rw[UInt64.lt_iff_toNat_lt]at*
 omega
theorem ck{a b:UInt64}(h:a<b)(h':b≤a):False:=by
 rw[UInt64.le_iff_toNat_le]at*
 rw[UInt64.lt_iff_toNat_lt]at*
 omega
abbrev H8:Nat:=1073741824
/-! ### Insertion -/
theorem Xn(p1:Int)(A:List AN)(x:AN)(R:List AN)(ha:p1=(A.length:Int)):
  ∀(k:Nat) (S T:List AN),S.length=k→(A++S++x::T++R).length≤H8→Ka (S++T)→(∀y∈T,x.id≤y.id)→
  ∃S',S'.Perm (S++x::T)∧Ka S'∧∀(a1:Int) (nx1:List AN×Int→Option (List AN)) (m:Nat),k<m→LR p1 a1 nx1 m (A++S++x::T++R,((A.length+k:Nat):Int))=Oi a1 nx1 (A++S'++R)
 | 0,S,T,hk,hlen,hs,hx=>by
  have hS:S=[]:=List.length_eq_zero_iff.1 hk
  subst hS
  refine⟨x::T,List.Perm.refl _,List.pairwise_cons.2 ⟨hx,by simpa[Ka]using hs⟩,fun a1 nx1 m hm=>?_⟩
  obtain⟨m,rfl⟩:∃k,m=k+1:=⟨m-1,by omega⟩
  show GY p1 a1 nx1 (LR p1 a1 nx1 m) _ _=_
  unfold GY
  dsimp only
  rw[decide_eq_false zO]
  simp only[Ed,cond_false,Y,List.append_nil]
 | k+1,S,T,hk,hlen,hs,hx=>by
  obtain⟨S0,z,rfl⟩:∃S0 z,S=S0++[z]:=⟨_,_,(List.dropLast_concat_getLast (by intro e;rw[e]at hk;simp at hk)).symm⟩
  have hk0:S0.length=k:=by simpa using hk
  obtain⟨y,hy,hlt⟩:=T4 x z
  have n1:∀i:Int,i=((A.length+(k+1):Nat):Int)→Aq (A++(S0++[z])++x::T++R) i=some x:=fun i hi=>by
   have:=H4 (A++(S0++[z])) x (T++R) (i:=i) (by rw[hi];simp;omega)
   simpa using this
  have n2:∀i:Int,i=((A.length+k:Nat):Int)→Aq (A++(S0++[z])++x::T++R) i=some z:=fun i hi=>by
   have:=H4 (A++S0) z (x::T++R) (i:=i) (by rw[hi];simp;omega)
   simpa using this
  have hb:(A.length:Int)+k+1≤1073741824:=by
   simp at hlen
   unfold H8 at hlen
   omega
  have e1:wI (((A.length+(k+1):Nat):Int)-1)=((A.length+k:Nat):Int):=by rw[BD zO zO];omega
  by_cases hc:x.id<z.id
  have hs':Ka (S0++z::T):=by simpa using hs
  obtain⟨S',hp,hss,hf⟩:=Xn p1 A x R ha k S0 (z::T) hk0 (by simpa using hlen) hs' (fun w hw=>by
   rcases List.mem_cons.1 hw with rfl | hw
   exact RM hc
   exact hx w hw)
  refine⟨S',hp.trans ?_,hss,fun a1 nx1 m hm=>?_⟩
  rw[List.append_assoc]
  exact List.Perm.append_left _ (List.Perm.swap _ _ _)
  obtain⟨m,rfl⟩:∃k,m=k+1:=⟨m-1,by omega⟩
  show GY p1 a1 nx1 (LR p1 a1 nx1 m) _ _=_
  unfold GY
  dsimp only
  rw[decide_eq_true zO,e1,n1 _ rfl,n2 _ rfl]
  simp only[Ed,cond_true,Y,hy,hlt,decide_eq_true hc]
  have s1:Ek (A++(S0++[z])++x::T++R) ((A.length+(k+1):Nat):Int) z=some (A++S0++z::z::T++R):=by
   have:=L7 (A++(S0++[z])) x z (T++R) (i:=((A.length+(k+1):Nat):Int)) (by simp;omega)
   simpa using this
  rw[s1,Y]
  have n3:Aq (A++S0++z::z::T++R) ((A.length+k:Nat):Int)=some z:=by
   have:=H4 (A++S0) z (z::T++R) (i:=((A.length+k:Nat):Int)) (by simp;omega)
   simpa using this
  have s2:Ek (A++S0++z::z::T++R) ((A.length+k:Nat):Int) x=some (A++S0++x::z::T++R):=by
   have:=L7 (A++S0) z x (z::T++R) (i:=((A.length+k:Nat):Int)) (by simp;omega)
   simpa using this
  rw[n3,Y,s2,Y,A7]
  exact hf a1 nx1 m zO
  refine⟨S0++[z]++x::T,List.Perm.refl _,?_,fun a1 nx1 m hm=>?_⟩
  have h1:=HT.1 hs
  have hzx:=K1 hc
  refine HT.2 ⟨h1.1,List.pairwise_cons.2 ⟨hx,h1.2.1⟩,fun w hw y hy=>?_⟩
  rcases List.mem_cons.1 hy with rfl | hy
  rcases List.mem_append.1 hw with hw0 | hw0
  have:=(HT.1 h1.1).2.2 w hw0 z zS
  exact En this hzx
  rw[List.mem_singleton.1 hw0]
  exact hzx
  exact h1.2.2 w hw y hy
  obtain⟨m,rfl⟩:∃k,m=k+1:=⟨m-1,by omega⟩
  show GY p1 a1 nx1 (LR p1 a1 nx1 m) _ _=_
  unfold GY
  dsimp only
  rw[decide_eq_true zO,e1,n1 _ rfl,n2 _ rfl]
  simp only[Ed,cond_true,Y,hy,hlt,decide_eq_false hc,cond_false]
  simp
theorem fB{n:Nat}(A:List AN)(X B:List AN)(hn:X.length+2≤n)(hlen:(A++X++B).length≤H8):
  ∃X',X'.Perm X∧Ka X'∧UF n (A++X++B) (A.length:Int) ((A.length+X.length:Nat):Int)=some (A++X'++B):=by
 unfold H8 at hlen
 simp only[List.length_append]at hlen
 
 have key:∀(d:Nat) (S T:List AN),T.length=d→Ka S→(S++T).length=X.length→(S++T).Perm X→∃X',X'.Perm X∧Ka X'∧∀m,d<m→
   GO n (A.length:Int) ((A.length+X.length:Nat):Int) m (A++S++T++B,((A.length+S.length:Nat):Int))=some (A++X'++B):=by
  intro d
  induction d with
  | zero=>
   intro S T hT hS hl hp
   have hT0:T=[]:=List.length_eq_zero_iff.1 hT
   subst hT0
   refine⟨S,by simpa using hp,hS,fun m hm=>?_⟩
   obtain⟨m,rfl⟩:∃k,m=k+1:=⟨m-1,by omega⟩
   show Ge n _ _ (GO n _ _ m) _ _=_
   unfold Ge
   dsimp only
   rw[decide_eq_false (by simp at hl;omega),cond_false]
   simp
  | succ d ih=>
   intro S T hT hS hl hp
   obtain⟨x,T',rfl⟩:∃x T',T=x::T':=by
    cases T with
    | nil=>simp at hT
    | cons x T'=>exact⟨x,T',rfl⟩
   have hT':T'.length=d:=by simpa using hT
   simp only[List.length_append,List.length_cons]at hl
   obtain⟨S',hp',hs',hf⟩:=Xn (A.length:Int) A x (T'++B) rfl S.length S [] rfl (by simp;unfold H8;omega) (by simpa using hS) zS
   have hlS:S'.length=S.length+1:=by simpa using hp'.length_eq
   obtain⟨X',hX,hXs,hXf⟩:=ih S' T' hT' hs' (by simp[hlS];omega) (by
    refine(List.Perm.append_right T' hp').trans ?_
    simpa using hp)
   refine⟨X',hX,hXs,fun m hm=>?_⟩
   obtain⟨m,rfl⟩:∃k,m=k+1:=⟨m-1,by omega⟩
   show Ge n _ _ (GO n _ _ m) _ _=_
   unfold Ge
   dsimp only
   rw[decide_eq_true zO,cond_true]
   have hf1:=hf ((A.length+S.length:Nat):Int) (GO n (A.length:Int) ((A.length+X.length:Nat):Int) m) n zO
   rw[show A++S++x::T'++B=A++S++x::[]++(T'++B) by simp]
   refine hf1.trans ?_
   unfold Oi
   rw[A7,BD zO zO]
   have:=hXf m zO
   rw[hlS,show((A.length+(S.length+1):Nat):Int)=((A.length+S.length:Nat):Int)+1 by omega]at this
   rw[show A++S'++(T'++B)=A++S'++T'++B by simp]
   exact this
 unfold UF
 rw[A7,BD zO zO]
 cases X with
 | nil=>
  refine⟨[],List.Perm.refl _,List.Pairwise.nil,?_⟩
  obtain⟨n,rfl⟩:∃k,n=k+1:=⟨n-1,by omega⟩
  show Ge _ _ _ (GO (n+1) _ _ n) _ _=_
  unfold Ge
  dsimp only
  rw[decide_eq_false (by simp;omega),cond_false]
 | cons x X=>
  obtain⟨X',h1,h2,h3⟩:=key X.length [x] X rfl (by simp[Ka]) zS zS
  refine⟨X',h1,h2,?_⟩
  have:=h3 n (by simp at hn;omega)
  simpa using this
/-! ### Ranges that change places, and turn -/
theorem Xh(A M B:List AN)(p1 p2 p3:Int)(h1:p1=(A.length:Int)):∀(X2 Y2 X1 Y1:List AN),X2.length=Y2.length→X1.length=Y1.length→p2=((A.length+X1.length+X2.length+M.length:Nat):Int)→p3=((X1.length+X2.length:Nat):Int)→
  (A++(Y1++X2)++M++(X1++Y2)++B).length≤H8→∀m,X2.length<m→M1 p1 p2 p3 m (A++(Y1++X2)++M++(X1++Y2)++B,(X1.length:Int))=some (A++(Y1++Y2)++M++(X1++X2)++B)
 | [],Y2,X1,Y1,hl,hl1,h2,h3,hlen,m,hm=>by
  have hY:Y2=[]:=List.length_eq_zero_iff.1 hl.symm
  subst hY
  obtain⟨m,rfl⟩:∃k,m=k+1:=⟨m-1,by omega⟩
  show I2 _ _ _ (M1 _ _ _ m) _ _=_
  unfold I2
  dsimp only
  rw[h3,decide_eq_false zS,cond_false]
 | x::X2,Y2,X1,Y1,hl,hl1,h2,h3,hlen,m,hm=>by
  obtain⟨y,Y2',rfl⟩:∃y Y2',Y2=y::Y2':=by
   cases Y2 with
   | nil=>simp at hl
   | cons y Y2'=>exact⟨y,Y2',rfl⟩
  have hl':X2.length=Y2'.length:=by simpa using hl
  obtain⟨m,rfl⟩:∃k,m=k+1:=⟨m-1,by omega⟩
  unfold H8 at hlen
  simp only[List.length_append,List.length_cons]at hlen h2 h3 hm
  have e1:wI (p1+(X1.length:Int))=((A.length+X1.length:Nat):Int):=by rw[h1,BD zO zO];omega
  have e2:wI (p2+(X1.length:Int))=((A.length+X1.length+(X2.length+1)+M.length+X1.length:Nat):Int):=by rw[h2,BD zO zO];omega
  have n2:Aq (A++(Y1++x::X2)++M++(X1++y::Y2')++B) ((A.length+X1.length+(X2.length+1)+M.length+X1.length:Nat):Int)=some y:=by
   have:=H4 (A++(Y1++x::X2)++M++X1) y (Y2'++B) (i:=((A.length+X1.length+(X2.length+1)+M.length+X1.length:Nat):Int)) (by simp;omega)
   simpa using this
  have n1:Aq (A++(Y1++x::X2)++M++(X1++y::Y2')++B) ((A.length+X1.length:Nat):Int)=some x:=by
   have:=H4 (A++Y1) x (X2++M++(X1++y::Y2')++B) (i:=((A.length+X1.length:Nat):Int)) (by simp;omega)
   simpa using this
  have s1:Ek (A++(Y1++x::X2)++M++(X1++y::Y2')++B) ((A.length+X1.length:Nat):Int) y=some (A++(Y1++y::X2)++M++(X1++y::Y2')++B):=by
   have:=L7 (A++Y1) x y (X2++M++(X1++y::Y2')++B) (i:=((A.length+X1.length:Nat):Int)) (by simp;omega)
   simpa using this
  have n3:Aq (A++(Y1++y::X2)++M++(X1++y::Y2')++B) ((A.length+X1.length+(X2.length+1)+M.length+X1.length:Nat):Int)=some y:=by
   have:=H4 (A++(Y1++y::X2)++M++X1) y (Y2'++B) (i:=((A.length+X1.length+(X2.length+1)+M.length+X1.length:Nat):Int)) (by simp;omega)
   simpa using this
  have s2:Ek (A++(Y1++y::X2)++M++(X1++y::Y2')++B) ((A.length+X1.length+(X2.length+1)+M.length+X1.length:Nat):Int) x=some (A++(Y1++y::X2)++M++(X1++x::Y2')++B):=by
   have:=L7 (A++(Y1++y::X2)++M++X1) y x (Y2'++B) (i:=((A.length+X1.length+(X2.length+1)+M.length+X1.length:Nat):Int)) (by simp;omega)
   simpa using this
  show I2 _ _ _ (M1 _ _ _ m) _ _=_
  unfold I2
  dsimp only
  rw[decide_eq_true zO,cond_true,e1,e2,n2,Y,n1,Y,Y,s1,Y,n3,Y,s2,Y,A7,BD zO zO]
  have:=Xh A M B p1 p2 p3 h1 X2 Y2' (X1++[x]) (Y1++[y]) hl' (by simp[hl1]) (by rw[h2];simp;omega) (by rw[h3];simp;omega) (by unfold H8;simp;omega) m zO
  simpa using this
theorem Z0{n:Nat}(A X M Y9 B:List AN){p1 p2 p3:Int}(h1:p1=(A.length:Int))(h2:p2=((A.length+X.length+M.length:Nat):Int))(h3:p3=(X.length:Int))(hl:X.length=Y9.length)(hn:X.length<n)(hlen:(A++X++M++Y9++B).length≤H8):
  Rr n (A++X++M++Y9++B) p1 p2 p3=some (A++Y9++M++X++B):=by
 unfold Rr
 have:=Xh A M B p1 p2 p3 h1 X Y9 [] [] hl rfl (by rw[h2];simp) (by rw[h3];simp) (by simpa using hlen) n hn
 simpa using this
theorem Ts{n:Nat}:∀(k:Nat) (A X Y9 B:List AN) (p2:Int),X≠[]→Y9≠[]→X.length+Y9.length≤k→k<n→p2=((A.length+X.length:Nat):Int)→(A++X++Y9++B).length≤H8→∀m,k≤m→
  OO n p2 m (A++X++Y9++B,(X.length:Int),(Y9.length:Int))=some (A++Y9++X++B)
 | 0,A,X,Y9,B,p2,hX,hY,hk,hkn,h2,hlen,m,hm=>absurd (List.length_eq_zero_iff.1 zO) hX
 | k+1,A,X,Y9,B,p2,hX,hY,hk,hkn,h2,hlen,m,hm=>by
  have hX1:=List.length_pos_iff.2 hX
  have hY1:=List.length_pos_iff.2 hY
  obtain⟨m,rfl⟩:∃k,m=k+1:=⟨m-1,by omega⟩
  unfold H8 at hlen
  simp only[List.length_append]at hlen
  have e0:wI (p2-(X.length:Int))=(A.length:Int):=by rw[h2,BD zO zO];omega
  show MJ _ _ (OO _ _ m) _ _ _=_
  unfold MJ
  dsimp only
  by_cases heq:X.length=Y9.length
  rw[decide_eq_true zO,Bool.not_true,cond_false]
  unfold Qy
  have hs:=Z0 (n:=n) A X [] Y9 B (p1:=(A.length:Int)) (p2:=p2) (p3:=(X.length:Int)) rfl (by rw[h2];simp) rfl heq zO (by unfold H8;simp;omega)
  simp only[List.append_nil]at hs
  rw[e0,hs]
  rfl
  rw[decide_eq_false zO,Bool.not_false,cond_true]
  by_cases hlt:Y9.length<X.length
  rw[decide_eq_true zO,cond_true]
  obtain⟨X1,X2,hXX,hX1l⟩:∃X1 X2,X=X1++X2∧X1.length=Y9.length:=⟨X.take Y9.length,X.drop Y9.length,(List.take_append_drop ..).symm,by simp;omega⟩
  subst hXX
  simp only[List.length_append]at*
  have hs:=Z0 (n:=n) A X1 X2 Y9 B (p1:=(A.length:Int)) (p2:=p2) (p3:=(Y9.length:Int)) rfl (by rw[h2];omega) zO hX1l zO (by unfold H8;simp;omega)
  rw[e0,show A++(X1++X2)++Y9++B=A++X1++X2++Y9++B by simp,hs,Y,A7]
  have e1:wI (((X1.length+X2.length:Nat):Int)-(Y9.length:Int))=(X2.length:Int):=by rw[BD zO zO];omega
  have:=Ts (n:=n) k (A++Y9) X2 X1 B p2 (List.length_pos_iff.1 zO) (List.length_pos_iff.1 zO) zO zO (by rw[h2];simp;omega) (by unfold H8;simp;omega) m zO
  rw[e1,←hX1l]
  rw[this]
  simp
  rw[decide_eq_false zO,cond_false]
  obtain⟨Y1,Y2,hYY,hY2l⟩:∃Y1 Y2,Y9=Y1++Y2∧Y2.length=X.length:=⟨Y9.take (Y9.length-X.length),Y9.drop (Y9.length-X.length),(List.take_append_drop ..).symm,by simp;omega⟩
  subst hYY
  simp only[List.length_append]at*
  have e2:wI (wI (p2+((Y1.length+Y2.length:Nat):Int))-(X.length:Int))=((A.length+X.length+Y1.length:Nat):Int):=by
   rw[h2,BD (x:=_+_) zO zO,BD zO zO]
   omega
  have hs:=Z0 (n:=n) A X Y1 Y2 B (p1:=(A.length:Int)) (p2:=((A.length+X.length+Y1.length:Nat):Int)) (p3:=(X.length:Int)) rfl rfl rfl hY2l.symm zO (by unfold H8;simp;omega)
  rw[e0,e2,show A++X++(Y1++Y2)++B=A++X++Y1++Y2++B by simp,hs,Y,A7]
  have e1:wI (((Y1.length+Y2.length:Nat):Int)-(X.length:Int))=(Y1.length:Int):=by rw[BD zO zO];omega
  have:=Ts (n:=n) k A Y2 Y1 (X++B) p2 (List.length_pos_iff.1 zO) (List.length_pos_iff.1 zO) zO zO (by rw[h2];simp;omega) (by unfold H8;simp;omega) m zO
  rw[e1,←hY2l]
  rw[show A++Y2++Y1++X++B=A++Y2++Y1++(X++B) by simp,this]
  simp
theorem ll{n:Nat}(A X Y9 B:List AN){p1 p2 p3:Int}(hX:X≠[])(hY:Y9≠[])(hn:X.length+Y9.length<n)(h1:p1=(A.length:Int))(h2:p2=((A.length+X.length:Nat):Int))(h3:p3=((A.length+X.length+Y9.length:Nat):Int))(hlen:(A++X++Y9++B).length≤H8):
  Vy n (A++X++Y9++B) p1 p2 p3=some (A++Y9++X++B):=by
 have hb:=hlen
 unfold H8 at hb
 simp only[List.length_append]at hb
 unfold Vy
 have e1:wI (p2-p1)=(X.length:Int):=by rw[h1,h2,BD zO zO];omega
 have e2:wI (p3-p2)=(Y9.length:Int):=by rw[h2,h3,BD zO zO];omega
 rw[A7,A7,e1,e2]
 exact Ts (n:=n) (X.length+Y9.length) A X Y9 B p2 hX hY (Nat.le_refl _) hn h2 hlen n zO
/-! ### Merging -/
theorem St{x:Nat}(h:x≤4294967296):wI ((shr64 (BK (wI (x:Int))) 1).toNat:Int)=((x / 2:Nat):Int):=by
 have e:(BK (wI (x:Int))).toNat=x:=by
  rw[BD zO zO]
  simp only[BK,UInt64.toNat_ofNat']
  omega
 rw[JF _ _ zD,e,BD zO zO]
theorem W3{β:Type}{F:(Int×Int→Option β)→Int×Int→Option β}{z:Nat→Option β}(test:Nat→Bool)(lo hi:Nat)
(hs:∀i j:Nat,lo≤i→i<j→j≤hi→∀nx,F nx ((i:Int),(j:Int))=cond (test ((i+j) / 2)) (nx ((((i+j) / 2+1:Nat):Int),(j:Int))) (nx ((i:Int),(((i+j) / 2:Nat):Int))))
(he:∀(i:Nat) nx,lo≤i→i≤hi→F nx ((i:Int),(i:Int))=z i)(hmono:∀c d,lo≤c→c≤d→d<hi→test d=true→test c=true)(hlh:lo≤hi):
  ∃s,lo≤s∧s≤hi∧(∀c,lo≤c→c<s→test c=true)∧(∀c,s≤c→c<hi→test c=false)∧∀m,hi-lo<m→Be F m ((lo:Int),(hi:Int))=z s:=by
 have key:∀(d i j:Nat),j-i≤d→lo≤i→i≤j→j≤hi→(∀c,lo≤c→c<i→test c=true)→(∀c,j≤c→c<hi→test c=false)→
   ∃s,lo≤s∧s≤hi∧(∀c,lo≤c→c<s→test c=true)∧(∀c,s≤c→c<hi→test c=false)∧∀m,j-i<m→Be F m ((i:Int),(j:Int))=z s:=by
  intro d
  induction d with
  | zero=>
   intro i j hd h1 h2 h3 h4 h5
   obtain rfl:i=j:=by omega
   refine⟨i,h1,h3,h4,h5,fun m hm=>?_⟩
   obtain⟨m,rfl⟩:∃k,m=k+1:=⟨m-1,by omega⟩
   exact he i _ h1 h3
  | succ d ih=>
   intro i j hd h1 h2 h3 h4 h5
   by_cases hij:i=j
   subst hij
   refine⟨i,h1,h3,h4,h5,fun m hm=>?_⟩
   obtain⟨m,rfl⟩:∃k,m=k+1:=⟨m-1,by omega⟩
   exact he i _ h1 h3
   have hlt:i<j:=by omega
   have hc1:i≤(i+j) / 2:=by omega
   have hc2:(i+j) / 2<j:=by omega
   by_cases ht:test ((i+j) / 2)=true
   obtain⟨s,a1,a2,a3,a4,a5⟩:=ih ((i+j) / 2+1) j zO zO zO h3 (fun c hc hc'=>hmono c ((i+j) / 2) hc zO zO ht) h5
   refine⟨s,a1,a2,a3,a4,fun m hm=>?_⟩
   obtain⟨m,rfl⟩:∃k,m=k+1:=⟨m-1,by omega⟩
   show F (Be F m) _=_
   rw[hs i j h1 hlt h3,ht,cond_true]
   exact a5 m zO
   have ht':test ((i+j) / 2)=false:=by simpa using ht
   obtain⟨s,a1,a2,a3,a4,a5⟩:=ih i ((i+j) / 2) zO h1 zO zO h4 (fun c hc hc'=>by
    by_cases hcj:test c=true
    exact absurd (hmono ((i+j) / 2) c zO hc hc' hcj) ht
    simpa using hcj)
   refine⟨s,a1,a2,a3,a4,fun m hm=>?_⟩
   obtain⟨m,rfl⟩:∃k,m=k+1:=⟨m-1,by omega⟩
   show F (Be F m) _=_
   rw[hs i j h1 hlt h3,ht',cond_false]
   exact a5 m zO
 exact key (hi-lo) lo hi (Nat.le_refl _) (Nat.le_refl _) hlh (Nat.le_refl _) (fun c h1 h2=>by omega) (fun c h1 h2=>by omega)
def J6:AN:=⟨0,0,0,[]⟩
theorem IOx{l:List AN}{i:Nat}(h:i<l.length):l.getD i J6=l[i]:=by simp[List.getD_eq_getElem?_getD,h]
theorem K9{X:List AN}(h:Ka X){i j:Nat}(hij:i≤j)(hj:j<X.length):(X.getD i J6).id≤(X.getD j J6).id:=by
 rw[IOx (show i<X.length by omega),IOx hj]
 rcases Nat.lt_or_ge i j with h1 | h1
 exact List.pairwise_iff_getElem.1 h i j zO hj h1
 obtain rfl:i=j:=by omega
 exact UInt64.le_refl _
theorem fV{A X R:List AN}{i:Nat}(h:i<X.length):(A++X++R).getD (A.length+i) J6=X.getD i J6:=by
 simp only[List.getD_eq_getElem?_getD]
 rw[List.append_assoc,List.getElem?_append_right zO,Nat.add_sub_cancel_left,List.getElem?_append_left h]
theorem mK{A X Y9 R:List AN}{i:Nat}(h:i<Y9.length):(A++X++Y9++R).getD (A.length+X.length+i) J6=Y9.getD i J6:=by
 have:=fV (A:=A++X) (X:=Y9) (R:=R) (i:=i) h
 simpa using this
theorem X9(R:List AN)(x:AN)(a1:Int):∀(Y9 A:List AN),a1=((A.length+Y9.length+1:Nat):Int)→(A++x::Y9++R).length≤H8→∀m,Y9.length<m→
  Mx a1 m (A++x::Y9++R,(A.length:Int))=some (A++Y9++x::R)
 | [],A,h1,hlen,m,hm=>by
  obtain⟨m,rfl⟩:∃k,m=k+1:=⟨m-1,by omega⟩
  unfold H8 at hlen
  simp at hlen
  show Ir _ (Mx _ m) _ _=_
  unfold Ir
  dsimp only
  simp only[List.length_nil]at h1
  rw[h1,BD zO zO,decide_eq_false zO,cond_false]
  unfold Qz
  simp
 | y::Y9,A,h1,hlen,m,hm=>by
  obtain⟨m,rfl⟩:∃k,m=k+1:=⟨m-1,by omega⟩
  unfold H8 at hlen
  simp only[List.length_append,List.length_cons]at hlen h1 hm
  have e1:wI ((A.length:Int)+1)=((A.length+1:Nat):Int):=by rw[BD zO zO];omega
  have n1:Aq (A++x::y::Y9++R) ((A.length+1:Nat):Int)=some y:=by
   have:=H4 (A++[x]) y (Y9++R) (i:=((A.length+1:Nat):Int)) zS
   simpa using this
  have n2:Aq (A++x::y::Y9++R) (A.length:Int)=some x:=by
   have:=H4 A x (y::Y9++R) (i:=(A.length:Int)) rfl
   simpa using this
  have s1:Ek (A++x::y::Y9++R) (A.length:Int) y=some (A++y::y::Y9++R):=by
   have:=L7 A x y (y::Y9++R) (i:=(A.length:Int)) rfl
   simpa using this
  have n3:Aq (A++y::y::Y9++R) ((A.length+1:Nat):Int)=some y:=by
   have:=H4 (A++[y]) y (Y9++R) (i:=((A.length+1:Nat):Int)) zS
   simpa using this
  have s2:Ek (A++y::y::Y9++R) ((A.length+1:Nat):Int) x=some (A++y::x::Y9++R):=by
   have:=L7 (A++[y]) y x (Y9++R) (i:=((A.length+1:Nat):Int)) zS
   simpa using this
  show Ir _ (Mx _ m) _ _=_
  unfold Ir
  dsimp only
  rw[h1,BD (x:=_-1) zO zO,decide_eq_true zO,cond_true,e1,n1,Y,n2,Y,Y,s1,Y,n3,Y,s2,Y,A7]
  have:=X9 R x a1 Y9 (A++[y]) (by rw[h1];simp;omega) (by unfold H8;simp;omega) m zO
  rw[h1]at this
  simpa using this
theorem ai(A:List AN)(y:AN):∀(k:Nat) (S R:List AN),S.length=k→(A++S++y::R).length≤H8→∀m,k<m→
  Mo (A.length:Int) m (A++S++y::R,((A.length+k:Nat):Int))=some (A++y::S++R)
 | 0,S,R,hk,hlen,m,hm=>by
  have hS:S=[]:=List.length_eq_zero_iff.1 hk
  subst hS
  obtain⟨m,rfl⟩:∃k,m=k+1:=⟨m-1,by omega⟩
  show I3 _ (Mo _ m) _ _=_
  unfold I3
  dsimp only
  rw[decide_eq_false zO,cond_false]
  unfold Qu
  simp
 | k+1,S,R,hk,hlen,m,hm=>by
  obtain⟨S,z,rfl⟩:∃S0 z,S=S0++[z]:=⟨_,_,(List.dropLast_concat_getLast (by intro e;rw[e]at hk;simp at hk)).symm⟩
  have hk0:S.length=k:=by simpa using hk
  obtain⟨m,rfl⟩:∃k,m=k+1:=⟨m-1,by omega⟩
  unfold H8 at hlen
  simp only[List.length_append,List.length_cons,List.length_nil]at hlen
  have e1:wI (((A.length+(k+1):Nat):Int)-1)=((A.length+k:Nat):Int):=by rw[BD zO zO];omega
  have n1:Aq (A++(S++[z])++y::R) ((A.length+k:Nat):Int)=some z:=by
   have:=H4 (A++S) z (y::R) (i:=((A.length+k:Nat):Int)) (by simp;omega)
   simpa using this
  have n2:Aq (A++(S++[z])++y::R) ((A.length+(k+1):Nat):Int)=some y:=by
   have:=H4 (A++(S++[z])) y R (i:=((A.length+(k+1):Nat):Int)) (by simp;omega)
   simpa using this
  have s1:Ek (A++(S++[z])++y::R) ((A.length+(k+1):Nat):Int) z=some (A++(S++[z])++z::R):=by
   have:=L7 (A++(S++[z])) y z R (i:=((A.length+(k+1):Nat):Int)) (by simp;omega)
   simpa using this
  have n3:Aq (A++(S++[z])++z::R) ((A.length+k:Nat):Int)=some z:=by
   have:=H4 (A++S) z (z::R) (i:=((A.length+k:Nat):Int)) (by simp;omega)
   simpa using this
  have s2:Ek (A++(S++[z])++z::R) ((A.length+k:Nat):Int) y=some (A++(S++[y])++z::R):=by
   have:=L7 (A++S) z y (z::R) (i:=((A.length+k:Nat):Int)) (by simp;omega)
   simpa using this
  show I3 _ (Mo _ m) _ _=_
  unfold I3
  dsimp only
  rw[decide_eq_true zO,cond_true,e1,n1,Y,n2,Y,Y,s1,Y,n3,Y,s2,Y,A7]
  have:=ai A y k S (z::R) hk0 (by unfold H8;simp;omega) m zO
  simpa using this
theorem We(a b:AN):∃y,Dt a b=some y∧(!(decide (y<0)))=decide (b.id≤a.id):=by
 obtain⟨y,h1,h2⟩:=T4 a b
 refine⟨y,h1,?_⟩
 rw[h2,Bool.eq_iff_iff]
 simp only[Bool.not_eq_true',decide_eq_false_iff_not,decide_eq_true_eq]
 exact⟨K1,fun h h'=>ck h' h⟩
theorem ZC(n:Nat):∀(f:Nat) (A X Y9 B:List AN) (p1 p2 p3:Int),X≠[]→Y9≠[]→X.length+Y9.length≤f→X.length+Y9.length+1<n→p1=(A.length:Int)→p2=((A.length+X.length:Nat):Int)→p3=((A.length+X.length+Y9.length:Nat):Int)→
  (A++X++Y9++B).length≤H8→Ka X→Ka Y9→∃Z9,Z9.Perm (X++Y9)∧Ka Z9∧M7 n f (A++X++Y9++B) p1 p2 p3=some (A++Z9++B)
 | 0,A,X,Y9,B,p1,p2,p3,hX,hY,hf,hn,h1,h2,h3,hlen,hsX,hsY=>absurd (List.length_eq_zero_iff.1 zO) hX
 | f+1,A,X,Y9,B,p1,p2,p3,hX,hY,hf,hn,h1,h2,h3,hlen,hsX,hsY=>by
  have hX1:=List.length_pos_iff.2 hX
  have hY1:=List.length_pos_iff.2 hY
  have hb:=hlen
  unfold H8 at hb
  simp only[List.length_append]at hb
  have gX:∀i,i<X.length→Aq (A++X++Y9++B) ((A.length+i:Nat):Int)=some (X.getD i J6):=fun i hi=>by
   rw[B3 J6 rfl (by simp;omega),List.append_assoc (A++X),fV hi]
  have gY:∀i,i<Y9.length→Aq (A++X++Y9++B) ((A.length+X.length+i:Nat):Int)=some (Y9.getD i J6):=fun i hi=>by
   rw[B3 J6 rfl (by simp;omega),mK hi]
  have e21:wI (p2-p1)=(X.length:Int):=by rw[h1,h2,BD zO zO];omega
  have e32:wI (p3-p2)=(Y9.length:Int):=by rw[h3,h2,BD zO zO];omega
  show ∃Z9,Z9.Perm (X++Y9)∧Ka Z9∧Vf (M7 n f) n _ _ _ _=_
  unfold Vf
  rw[e21]
  by_cases hx1:X.length=1
  
  obtain⟨x,rfl⟩:=List.length_eq_one_iff.1 hx1
  rw[decide_eq_true zS,cond_true]
  simp only[List.length_singleton]at*
  obtain⟨s,b1,b2,b3,b4,b5⟩:=W3 (F:=fun nx ww=>Ko n (A++[x]++Y9++B) p1 nx ww.1 ww.2) (z:=fun i=>Ob n (A++[x]++Y9++B) p1 (i:Int))
   (fun c=>decide ((Y9.getD (c-(A.length+1)) J6).id<x.id)) (A.length+1) (A.length+1+Y9.length) (fun i j hi hij hj nx=>by
    obtain⟨y,hy,hlt⟩:=T4 (Y9.getD ((i+j) / 2-(A.length+1)) J6) x
    have g:=gY ((i+j) / 2-(A.length+1)) zO
    rw[show A.length+1+((i+j) / 2-(A.length+1))=(i+j) / 2 by omega]at g
    have gx:=gX 0 zO
    simp only[Ko]
    rw[decide_eq_true zO,cond_true,A7,show(i:Int)+(j:Int)=((i+j:Nat):Int) by omega,St zO,g,Y,h1,show(A.length:Int)=((A.length+0:Nat):Int)from rfl,gx,Y]
    rw[show([x]:List AN).getD 0 J6=x from rfl,hy,Y,hlt,A7,BD zO zO]
    rfl) (fun i nx _ _=>by
    simp only[Ko]
    rw[decide_eq_false zO,cond_false]) (fun c d hc hcd hd ht=>by
    rw[decide_eq_true_eq]at ht ⊢
    exact eF (K9 hsY zO zO) ht) zO
  refine⟨Y9.take (s-(A.length+1))++x::Y9.drop (s-(A.length+1)),?_,?_,?_⟩
  refine List.perm_middle.trans ?_
  rw[List.take_append_drop]
  exact List.Perm.refl _
  refine HT.2 ⟨List.Pairwise.sublist (List.take_sublist ..) hsY,List.pairwise_cons.2 ⟨fun y hy=>?_,List.Pairwise.sublist (List.drop_sublist ..) hsY⟩,fun u hu w hw=>?_⟩
  obtain⟨i,hi,rfl⟩:=List.getElem_of_mem hy
  simp only[List.length_drop]at hi
  have:=b4 s zO zO
  rw[decide_eq_false_iff_not]at this
  have h5:=K1 this
  rw[List.getElem_drop]
  have h6:=K9 hsY (i:=s-(A.length+1)) (j:=s-(A.length+1)+i) zO zO
  rw[IOx (show s-(A.length+1)+i<Y9.length by omega)]at h6
  exact En h5 h6
  obtain⟨i,hi,rfl⟩:=List.getElem_of_mem hu
  simp only[List.length_take]at hi
  have:=b3 (A.length+1+i) zO zO
  rw[decide_eq_true_eq,Nat.add_sub_cancel_left,IOx zO]at this
  rw[List.getElem_take]
  rcases List.mem_cons.1 hw with rfl | hw
  exact RM this
  obtain⟨k,hk,rfl⟩:=List.getElem_of_mem hw
  simp only[List.length_drop]at hk
  rw[List.getElem_drop]
  exact List.pairwise_iff_getElem.1 hsY i (s-(A.length+1)+k) zO zO zO
  have e2:p2=((A.length+1:Nat):Int):=h2
  have e3:p3=((A.length+1+Y9.length:Nat):Int):=h3
  have hb5:=b5 n zO
  unfold Qs
  rw[e2,e3,hb5]
  unfold Ob
  have:=X9 (Y9.drop (s-(A.length+1))++B) x (s:Int) (Y9.take (s-(A.length+1))) A (by simp;omega) (by unfold H8;simp;omega) n (by simp;omega)
  rw[h1,show A++[x]++Y9++B=A++x::Y9.take (s-(A.length+1))++(Y9.drop (s-(A.length+1))++B) by
   conv=>lhs;rw[←List.take_append_drop (s-(A.length+1)) Y9]
   simp only[List.append_assoc,List.cons_append,List.nil_append],this]
  simp
  rw[decide_eq_false zO,cond_false]
  unfold RD
  rw[e32]
  by_cases hy1:Y9.length=1
  
  obtain⟨y,rfl⟩:=List.length_eq_one_iff.1 hy1
  rw[decide_eq_true zS,cond_true]
  simp only[List.length_singleton]at*
  obtain⟨s,b1,b2,b3,b4,b5⟩:=W3 (F:=fun nx ww=>Kj n p2 (A++X++[y]++B) nx ww.1 ww.2) (z:=fun i=>OV n p2 (A++X++[y]++B) (i:Int))
   (fun c=>decide ((X.getD (c-A.length) J6).id≤y.id)) A.length (A.length+X.length) (fun i j hi hij hj nx=>by
    obtain⟨u,hu,hlt⟩:=We y (X.getD ((i+j) / 2-A.length) J6)
    have g:=gX ((i+j) / 2-A.length) zO
    rw[show A.length+((i+j) / 2-A.length)=(i+j) / 2 by omega]at g
    have gy:=gY 0 zO
    simp only[Kj]
    rw[decide_eq_true zO,cond_true,A7,show(i:Int)+(j:Int)=((i+j:Nat):Int) by omega,St zO,h2,show((A.length+X.length:Nat):Int)=((A.length+X.length+0:Nat):Int)from rfl,gy,Y,g,Y]
    rw[show([y]:List AN).getD 0 J6=y from rfl,hu,Y,hlt,A7,BD zO zO]
    rfl) (fun i nx _ _=>by
    simp only[Kj]
    rw[decide_eq_false zO,cond_false]) (fun c d hc hcd hd ht=>by
    rw[decide_eq_true_eq]at ht ⊢
    exact En (K9 hsX zO zO) ht) zO
  refine⟨X.take (s-A.length)++y::X.drop (s-A.length),?_,?_,?_⟩
  refine List.perm_middle.trans ?_
  rw[List.take_append_drop]
  exact(List.perm_append_singleton y X).symm
  refine HT.2 ⟨List.Pairwise.sublist (List.take_sublist ..) hsX,List.pairwise_cons.2 ⟨fun w hw=>?_,List.Pairwise.sublist (List.drop_sublist ..) hsX⟩,fun u hu w hw=>?_⟩
  obtain⟨i,hi,rfl⟩:=List.getElem_of_mem hw
  simp only[List.length_drop]at hi
  have:=b4 (s+i) zO zO
  rw[decide_eq_false_iff_not,show s+i-A.length=s-A.length+i by omega,IOx (show s-A.length+i<X.length by omega)]at this
  rw[List.getElem_drop]
  rw[UInt64.le_iff_toNat_le]at*
  omega
  obtain⟨i,hi,rfl⟩:=List.getElem_of_mem hu
  simp only[List.length_take]at hi
  have:=b3 (A.length+i) zO zO
  rw[decide_eq_true_eq,Nat.add_sub_cancel_left,IOx zO]at this
  rw[List.getElem_take]
  rcases List.mem_cons.1 hw with rfl | hw
  exact this
  obtain⟨k,hk,rfl⟩:=List.getElem_of_mem hw
  simp only[List.length_drop]at hk
  rw[List.getElem_drop]
  exact List.pairwise_iff_getElem.1 hsX i (s-A.length+k) zO zO zO
  have hb5:=b5 n zO
  unfold RC
  rw[h1]
  conv=>lhs;rw[show p2=((A.length+X.length:Nat):Int)from h2]
  rw[h2]at hb5
  rw[hb5]
  unfold OV
  have:=ai (A++X.take (s-A.length)) y (A.length+X.length-s) (X.drop (s-A.length)) B (by simp;omega) (by unfold H8;simp;omega) n zO
  rw[show(A++X.take (s-A.length)).length=s by simp;omega]at this
  rw[show s+(A.length+X.length-s)=A.length+X.length by omega]at this
  rw[show A++X++[y]++B=A++X.take (s-A.length)++X.drop (s-A.length)++y::B by
   conv=>lhs;rw[←List.take_append_drop (s-A.length) X]
   simp only[List.append_assoc,List.cons_append,List.nil_append],this]
  simp
  rw[decide_eq_false zO,cond_false]
  
  obtain⟨a,ha⟩:∃a,a=A.length:=⟨_,rfl⟩
  obtain⟨m,hm⟩:∃m,m=A.length+X.length:=⟨_,rfl⟩
  obtain⟨b,hbb⟩:∃b,b=A.length+X.length+Y9.length:=⟨_,rfl⟩
  obtain⟨mid,hmid⟩:∃mid,mid=(a+b) / 2:=⟨_,rfl⟩
  obtain⟨lo,hi,hlh⟩:∃lo hi:Nat,(mid<m∧lo=mid+m-b∧hi=mid)∨(m≤mid∧lo=a∧hi=m):=by
   rcases Nat.lt_or_ge mid m with h | h
   exact⟨_,_,.inl ⟨h,rfl,rfl⟩⟩
   exact⟨_,_,.inr ⟨h,rfl,rfl⟩⟩
  rw[←ha]at h1
  rw[←hm]at h2
  rw[←hbb]at h3
  have hj4:OP n p1 p2 p3 (M7 n f) (A++X++Y9++B)=Mm n p1 p2 p3 (M7 n f) (A++X++Y9++B) (mid:Int) ((mid+m:Nat):Int) (lo:Int) (hi:Int):=by
   unfold OP
   rw[A7,A7,h1,h2,h3,show(a:Int)+(b:Int)=((a+b:Nat):Int) by omega,St zO,←hmid,BD (x:=(mid:Int)+_) zO zO,show(mid:Int)+(m:Int)=((mid+m:Nat):Int) by omega]
   rcases hlh with⟨h5,rfl,rfl⟩ | ⟨h5,rfl,rfl⟩
   rw[decide_eq_true zO,cond_true,A7,BD zO zO]
   congr 1
   omega
   rw[decide_eq_false zO,cond_false]
  rw[hj4]
  clear hj4
  unfold Mm
  rw[A7,BD zO zO]
  have hloa:a≤lo:=by omega
  have hlh2:lo≤hi:=by omega
  have him:hi≤m:=by omega
  have hpb:∀c,lo≤c→c<hi→m≤mid+m-1-c∧mid+m-1-c<b:=by
   intro c h5 h6
   omega
  obtain⟨s,b1,b2,b3,b4,b5⟩:=W3 (F:=fun nx ww=>Kq n p1 p2 p3 (M7 n f) (A++X++Y9++B) (mid:Int) ((mid+m:Nat):Int) (((mid+m:Nat):Int)-1) nx ww.1 ww.2)
   (z:=fun i=>Mt n p1 p2 p3 (M7 n f) (A++X++Y9++B) (mid:Int) ((mid+m:Nat):Int) (i:Int))
   (fun c=>decide ((X.getD (c-a) J6).id≤(Y9.getD (mid+m-1-c-m) J6).id)) lo hi (fun i j hi1 hij hj nx=>by
    have hpp:=hpb ((i+j) / 2) zO zO
    obtain⟨u,hu,hlt⟩:=We (Y9.getD (mid+m-1-(i+j) / 2-m) J6) (X.getD ((i+j) / 2-a) J6)
    have g:=gX ((i+j) / 2-a) zO
    rw[show A.length+((i+j) / 2-a)=(i+j) / 2 by omega]at g
    have gy:=gY (mid+m-1-(i+j) / 2-m) zO
    rw[show A.length+X.length+(mid+m-1-(i+j) / 2-m)=mid+m-1-(i+j) / 2 by omega]at gy
    simp only[Kq]
    rw[decide_eq_true zO,cond_true,A7,show(i:Int)+(j:Int)=((i+j:Nat):Int) by omega,St zO,BD (x:=((mid+m:Nat):Int)-1-_) zO zO,show((mid+m:Nat):Int)-1-(((i+j) / 2:Nat):Int)=((mid+m-1-(i+j) / 2:Nat):Int) by omega,gy,Y,g,Y]
    rw[hu,Y,hlt,A7,BD zO zO]
    rfl) (fun i nx _ _=>by
    simp only[Kq]
    rw[decide_eq_false zO,cond_false]) (fun c d hc hcd hd ht=>by
    rw[decide_eq_true_eq]at ht ⊢
    have hp1:=hpb c hc zO
    have hp2:=hpb d zO hd
    refine En (K9 hsX (show c-a≤d-a by omega) zO) (En ht (K9 hsY zO zO))) hlh2
  have hb5:=b5 n zO
  unfold Qr
  rw[hb5]
  clear hb5 b5
  obtain⟨e,he⟩:∃e,e=mid+m-s:=⟨_,rfl⟩
  have hem:m≤e:=by omega
  have heb:e≤b:=by omega
  have hx12:X=X.take (s-a)++X.drop (s-a):=(List.take_append_drop ..).symm
  have hy12:Y9=Y9.take (e-m)++Y9.drop (e-m):=(List.take_append_drop ..).symm
  have lX1:(X.take (s-a)).length=s-a:=by simp;omega
  have lX2:(X.drop (s-a)).length=m-s:=by simp;omega
  have lY1:(Y9.take (e-m)).length=e-m:=by simp;omega
  have lY2:(Y9.drop (e-m)).length=b-e:=by simp;omega
  have q1:∀u∈X.take (s-a),∀w∈Y9.drop (e-m),u.id≤w.id:=by
   intro u hu w hw
   obtain⟨i,hi,rfl⟩:=List.getElem_of_mem hu
   obtain⟨k,hk,rfl⟩:=List.getElem_of_mem hw
   rw[lX1]at hi
   rw[lY2]at hk
   rw[List.getElem_take,List.getElem_drop]
   have hs1:lo<s:=by omega
   have:=b3 (s-1) zO zO
   rw[decide_eq_true_eq]at this
   have h6:=K9 hsX (i:=i) (j:=s-1-a) zO zO
   have h7:=K9 hsY (i:=mid+m-1-(s-1)-m) (j:=e-m+k) zO zO
   rw[IOx (show i<X.length by omega)]at h6
   rw[IOx (show e-m+k<Y9.length by omega)]at h7
   exact En h6 (En this h7)
  have q2:∀u∈Y9.take (e-m),∀w∈X.drop (s-a),u.id≤w.id:=by
   intro u hu w hw
   obtain⟨i,hii,rfl⟩:=List.getElem_of_mem hu
   obtain⟨k,hk,rfl⟩:=List.getElem_of_mem hw
   rw[lY1]at hii
   rw[lX2]at hk
   rw[List.getElem_take,List.getElem_drop]
   have hs1:s<hi:=by omega
   have:=b4 s zO hs1
   rw[decide_eq_false_iff_not]at this
   have h6:=K9 hsY (i:=i) (j:=mid+m-1-s-m) zO zO
   have h7:=K9 hsX (i:=s-a) (j:=s-a+k) zO zO
   rw[IOx (show i<Y9.length by omega)]at h6
   rw[IOx (show s-a+k<X.length by omega)]at h7
   refine En h6 (En ?_ h7)
   rw[UInt64.le_iff_toNat_le]at*
   omega
  clear b3 b4
  generalize X.take (s-a)=X1 at*
  generalize X.drop (s-a)=X2 at*
  generalize Y9.take (e-m)=Y1 at*
  generalize Y9.drop (e-m)=Y2 at*
  subst hx12 hy12
  have sX:=HT.1 hsX
  have sY:=HT.1 hsY
  simp only[List.length_append]at*
  have hj8:Mt n p1 p2 p3 (M7 n f) (A++(X1++X2)++(Y1++Y2)++B) (mid:Int) ((mid+m:Nat):Int) (s:Int)=Lc p1 p3 (M7 n f) (mid:Int) (s:Int) (e:Int) (A++(X1++Y1)++(X2++Y2)++B):=by
   unfold Mt
   rw[A7,BD zO zO,show((mid+m:Nat):Int)-(s:Int)=(e:Int) by omega,h2]
   by_cases hc:s<m∧m<e
   rw[decide_eq_true zO,decide_eq_true zO]
   simp only[Bool.and_self,cond_true]
   have:=ll (n:=n) (A++X1) X2 Y1 (Y2++B) (p1:=(s:Int)) (p2:=(m:Int)) (p3:=(e:Int)) (List.length_pos_iff.1 zO) (List.length_pos_iff.1 zO) zO (by simp;omega) (by simp;omega) (by simp;omega) (by unfold H8;simp;omega)
   rw[show A++(X1++X2)++(Y1++Y2)++B=A++X1++X2++Y1++(Y2++B) by simp,this,Y]
   congr 1
   simp
   rw[show(decide ((s:Int)<(m:Int))&&decide ((m:Int)<(e:Int)))=false by
    simp only[Bool.and_eq_false_iff,decide_eq_false_iff_not]
    omega,cond_false]
   congr 1
   by_cases hc1:s<m
   have:Y1=[]:=List.length_eq_zero_iff.1 zO
   subst this
   simp
   have:X2=[]:=List.length_eq_zero_iff.1 zO
   subst this
   simp
  rw[hj8]
  clear hj8
  obtain⟨Z1,z1,z2,z3⟩:∃Z1,Z1.Perm (X1++Y1)∧Ka Z1∧Lc p1 p3 (M7 n f) (mid:Int) (s:Int) (e:Int) (A++(X1++Y1)++(X2++Y2)++B)=KU p3 (M7 n f) (mid:Int) (e:Int) (A++Z1++(X2++Y2)++B):=by
   unfold Lc
   by_cases hc:a<s∧s<mid
   obtain⟨Z1,z1,z2,z3⟩:=ZC n f A X1 Y1 ((X2++Y2)++B) p1 (s:Int) (mid:Int) (List.length_pos_iff.1 zO) (List.length_pos_iff.1 zO) zO zO zO zO zO (by unfold H8;simp;omega) sX.1 sY.1
   refine⟨Z1,z1,z2,?_⟩
   rw[decide_eq_true zO,decide_eq_true zO]
   simp only[Bool.and_self,cond_true]
   rw[show A++(X1++Y1)++(X2++Y2)++B=A++X1++Y1++((X2++Y2)++B) by simp,z3,Y]
   congr 1
   simp
   refine⟨X1++Y1,List.Perm.refl _,?_,?_⟩
   by_cases hc1:a<s
   have:Y1=[]:=List.length_eq_zero_iff.1 zO
   subst this
   simpa using sX.1
   have:X1=[]:=List.length_eq_zero_iff.1 zO
   subst this
   simpa using sY.1
   rw[show(decide (p1<(s:Int))&&decide ((s:Int)<(mid:Int)))=false by
    simp only[Bool.and_eq_false_iff,decide_eq_false_iff_not]
    omega,cond_false]
  rw[z3]
  clear z3
  have lZ1:Z1.length=mid-a:=by
   rw[z1.length_eq]
   simp
   omega
  obtain⟨Z2,y1,y2,y3⟩:∃Z2,Z2.Perm (X2++Y2)∧Ka Z2∧KU p3 (M7 n f) (mid:Int) (e:Int) (A++Z1++(X2++Y2)++B)=some (A++Z1++Z2++B):=by
   unfold KU
   by_cases hc:mid<e∧e<b
   obtain⟨Z2,y1,y2,y3⟩:=ZC n f (A++Z1) X2 Y2 B (mid:Int) (e:Int) p3 (List.length_pos_iff.1 zO) (List.length_pos_iff.1 zO) zO zO (by simp;omega) (by simp;omega) (by simp;omega) (by unfold H8;simp;omega) sX.2.1 sY.2.1
   refine⟨Z2,y1,y2,?_⟩
   rw[decide_eq_true zO,decide_eq_true zO]
   simp only[Bool.and_self,cond_true]
   rw[show A++Z1++(X2++Y2)++B=A++Z1++X2++Y2++B by simp,y3,Y]
   refine⟨X2++Y2,List.Perm.refl _,?_,?_⟩
   by_cases hc1:mid<e
   have:Y2=[]:=List.length_eq_zero_iff.1 zO
   subst this
   simpa using sX.2.1
   have:X2=[]:=List.length_eq_zero_iff.1 zO
   subst this
   simpa using sY.2.1
   rw[show(decide ((mid:Int)<(e:Int))&&decide ((e:Int)<p3))=false by
    simp only[Bool.and_eq_false_iff,decide_eq_false_iff_not]
    omega,cond_false]
  rw[y3]
  refine⟨Z1++Z2,?_,?_,by simp⟩
  refine(z1.append y1).trans ?_
  rw[List.append_assoc,List.append_assoc]
  refine List.Perm.append_left X1 ?_
  rw[←List.append_assoc,←List.append_assoc]
  exact List.Perm.append_right Y2 List.perm_append_comm
  refine HT.2 ⟨z2,y2,fun u hu w hw=>?_⟩
  have hu:=z1.mem_iff.1 hu
  have hw:=y1.mem_iff.1 hw
  rcases List.mem_append.1 hu with hu | hu<;>rcases List.mem_append.1 hw with hw | hw
  exact sX.2.2 u hu w hw
  exact q1 u hu w hw
  exact q2 u hu w hw
  exact sY.2.2 u hu w hw
/-! ### Blocks, each sorted -/
inductive SB (bs:Nat):List AN→Prop
 | last (S:List AN):S.length≤bs→Ka S→SB bs S
 | more (S R:List AN):S.length=bs→Ka S→SB bs R→SB bs (S++R)
theorem SB.one{bs:Nat}{l:List AN}(h:SB bs l)(hl:l.length≤bs):Ka l:=by
 cases h with
 | last _ _ hs=>exact hs
 | more S R hS hs hR=>
  have:R=[]:=List.length_eq_zero_iff.1 (by simp at hl;omega)
  subst this
  simpa using hs
theorem aa{n bs:Nat}(hbs:0<bs)(N:Nat)(hN:N+2≤n)(hNb:N+4*bs≤H8):∀(k:Nat) (D R:List AN),R.length≤k→D.length+R.length=N→SB bs R→
  ∃R',R'.Perm R∧SB (2*bs) R'∧∀(nx:List AN×Int→Option (List AN)) (m:Nat),k<m→GQ n (N:Int) (bs:Int) nx m (D++R,(D.length:Int),((D.length+2*bs:Nat):Int))=Jc (bs:Int) nx (D++R'):=by
 unfold H8 at hNb
 intro k
 induction k with
 | zero=>
  intro D R hk hN' h
  have hR:R=[]:=List.length_eq_zero_iff.1 zO
  subst hR
  refine⟨[],List.Perm.refl _,.last [] zS List.Pairwise.nil,fun nx m hm=>?_⟩
  obtain⟨m,rfl⟩:∃k,m=k+1:=⟨m-1,by omega⟩
  simp at hN'
  show D6 _ _ _ _ (GQ _ _ _ _ m) _ _ _=_
  unfold D6
  dsimp only
  rw[decide_eq_false zO,cond_false]
  unfold LT
  rw[A7,BD zO zO,decide_eq_false zO,cond_false]
 | succ k ih=>
  intro D R hk hN' h
  
  have two:∀(S T U9:List AN),S.length=bs→T≠[]→D.length+S.length+T.length+U9.length=N→Ka S→Ka T→∃Z9,Z9.Perm (S++T)∧Ka Z9∧cb n (D++(S++(T++U9))) (D.length:Int) ((D.length+bs:Nat):Int) ((D.length+bs+T.length:Nat):Int)=some (D++(Z9++U9)):=by
   intro S T U9 hS hT hl h1 h2
   have hTp:=List.length_pos_iff.2 hT
   obtain⟨Z9,a1,a2,a3⟩:=ZC n n D S T U9 (D.length:Int) ((D.length+bs:Nat):Int) ((D.length+bs+T.length:Nat):Int) (List.length_pos_iff.1 zO) hT zO zO rfl (by rw[hS]) (by rw[hS]) (by unfold H8;simp;omega) h1 h2
   refine⟨Z9,a1,a2,?_⟩
   have:cb n=M7 n n:=rfl
   rw[this]
   simpa using a3
  have big3:∀(S T U9:List AN),S.length=bs→T.length=bs→R=S++(T++U9)→Ka S→Ka T→SB bs U9→∃R',R'.Perm R∧SB (2*bs) R'∧∀(nx:List AN×Int→Option (List AN)) (m:Nat),k+1<m→GQ n (N:Int) (bs:Int) nx m (D++R,(D.length:Int),((D.length+2*bs:Nat):Int))=Jc (bs:Int) nx (D++R'):=by
   intro S T U9 hS hT hR h1 h2 h3
   subst hR
   simp only[List.length_append]at hk hN'
   obtain⟨Z9,a1,a2,a3⟩:=two S T U9 hS (List.length_pos_iff.1 zO) zO h1 h2
   have hZ:Z9.length=2*bs:=by rw[a1.length_eq];simp;omega
   obtain⟨U',u1,u2,u3⟩:=ih (D++Z9) U9 zO (by simp;omega) h3
   refine⟨Z9++U',?_,.more Z9 U' hZ a2 u2,fun nx m hm=>?_⟩
   refine(a1.append u1).trans ?_
   simp
   obtain⟨m,rfl⟩:∃k,m=k+1:=⟨m-1,by omega⟩
   show D6 _ _ _ _ (GQ _ _ _ _ m) _ _ _=_
   unfold D6
   dsimp only
   rw[decide_eq_true zO,cond_true,BD (x:=(D.length:Int)+_) zO zO,show(D.length:Int)+(bs:Int)=((D.length+bs:Nat):Int) by omega,show((D.length+2*bs:Nat):Int)=((D.length+bs+T.length:Nat):Int) by omega,a3,Y,A7,BD (x:=2*(bs:Int)) zO zO,BD zO zO]
   have:=u3 nx m zO
   rw[show(D++Z9).length=D.length+bs+T.length by simp;omega]at this
   rw[show((D.length+bs+T.length:Nat):Int)+2*(bs:Int)=((D.length+bs+T.length+2*bs:Nat):Int) by omega]
   simpa using this
  
  have fin:∀(S T:List AN),S.length=bs→T.length<bs→R=S++T→Ka S→Ka T→∃R',R'.Perm R∧SB (2*bs) R'∧∀(nx:List AN×Int→Option (List AN)) (m:Nat),k+1<m→GQ n (N:Int) (bs:Int) nx m (D++R,(D.length:Int),((D.length+2*bs:Nat):Int))=Jc (bs:Int) nx (D++R'):=by
   intro S T hS hT hR h1 h2
   subst hR
   simp only[List.length_append]at hk hN'
   by_cases hT0:T=[]
   subst hT0
   refine⟨S++[],List.Perm.refl _,.last _ (by simp;omega) (by simpa using h1),fun nx m hm=>?_⟩
   obtain⟨m,rfl⟩:∃k,m=k+1:=⟨m-1,by omega⟩
   simp only[List.length_nil]at*
   show D6 _ _ _ _ (GQ _ _ _ _ m) _ _ _=_
   unfold D6
   dsimp only
   rw[decide_eq_false zO,cond_false]
   unfold LT
   rw[A7,BD zO zO,decide_eq_false zO,cond_false]
   obtain⟨Z9,a1,a2,a3⟩:=two S T [] hS hT0 (by simp;omega) h1 h2
   have hTp:=List.length_pos_iff.2 hT0
   refine⟨Z9,a1,.last Z9 (by rw[a1.length_eq];simp;omega) a2,fun nx m hm=>?_⟩
   obtain⟨m,rfl⟩:∃k,m=k+1:=⟨m-1,by omega⟩
   show D6 _ _ _ _ (GQ _ _ _ _ m) _ _ _=_
   unfold D6
   dsimp only
   rw[decide_eq_false zO,cond_false]
   unfold LT
   rw[A7,BD zO zO,decide_eq_true zO,cond_true,show(D.length:Int)+(bs:Int)=((D.length+bs:Nat):Int) by omega,show(N:Int)=((D.length+bs+T.length:Nat):Int) by omega]
   simp only[List.append_nil]at a3
   rw[a3,Y]
  cases h with
  | last S hl hs=>
   by_cases hlt:R.length<bs
   refine⟨R,List.Perm.refl _,.last R zO hs,fun nx m hm=>?_⟩
   obtain⟨m,rfl⟩:∃k,m=k+1:=⟨m-1,by omega⟩
   show D6 _ _ _ _ (GQ _ _ _ _ m) _ _ _=_
   unfold D6
   dsimp only
   rw[decide_eq_false zO,cond_false]
   unfold LT
   rw[A7,BD zO zO,decide_eq_false zO,cond_false]
   exact fin R [] zO (by simpa using hbs) zS hs List.Pairwise.nil
  | more S R1 hS hs hR=>
   cases hR with
   | last T hl ht=>
    by_cases hlt:R1.length<bs
    exact fin S R1 hS hlt rfl hs ht
    exact big3 S R1 [] hS zO zS hs ht (.last [] zS List.Pairwise.nil)
   | more T U9 hT ht hU=>exact big3 S T U9 hS hT rfl hs ht hU
theorem Zo{n:Nat}(N:Nat)(hN:2*N+2≤n)(hNb:6*N≤1073741824):∀(k bs:Nat) (l:List AN),0<bs→N-bs≤k→l.length=N→SB bs l→∃l',l'.Perm l∧Ka l'∧∀m,k<m→E5 n (N:Int) m (l,(bs:Int))=some l':=by
 intro k
 induction k with
 | zero=>
  intro bs l hbs hk hl h
  refine⟨l,List.Perm.refl _,h.one zO,fun m hm=>?_⟩
  obtain⟨m,rfl⟩:∃k,m=k+1:=⟨m-1,by omega⟩
  show Gj _ _ (E5 _ _ m) _ _=_
  unfold Gj
  dsimp only
  rw[decide_eq_false zO,cond_false]
 | succ k ih=>
  intro bs l hbs hk hl h
  by_cases hlt:bs<N
  obtain⟨R',r1,r2,r3'⟩:=aa (n:=n) hbs N zO (by unfold H8;omega) N [] l zO (by simp[hl]) h
  have r3:∀(nx:List AN×Int→Option (List AN)) (m:Nat),N<m→GQ n (N:Int) (bs:Int) nx m (l,0,((2*bs:Nat):Int))=Jc (bs:Int) nx R':=fun nx m hm=>by
   have:=r3' nx m hm
   simpa using this
  obtain⟨l',b1,b2,b3⟩:=ih (2*bs) R' zO zO (by rw[r1.length_eq,hl]) r2
  refine⟨l',b1.trans r1,b2,fun m hm=>?_⟩
  obtain⟨m,rfl⟩:∃k,m=k+1:=⟨m-1,by omega⟩
  show Gj _ _ (E5 _ _ m) _ _=_
  unfold Gj
  dsimp only
  rw[decide_eq_true zO,cond_true,A7,BD zO zO,show(2:Int)*(bs:Int)=((2*bs:Nat):Int) by omega,r3 _ n zO]
  unfold Jc
  rw[A7,BD zO zO,show(bs:Int)*2=((2*bs:Nat):Int) by omega]
  exact b3 m zO
  refine⟨l,List.Perm.refl _,h.one zO,fun m hm=>?_⟩
  obtain⟨m,rfl⟩:∃k,m=k+1:=⟨m-1,by omega⟩
  show Gj _ _ (E5 _ _ m) _ _=_
  unfold Gj
  dsimp only
  rw[decide_eq_false zO,cond_false]
theorem W9{n:Nat}(N:Nat)(hN:2*N+60≤n)(hNb:6*N+1000≤1073741824):∀(k:Nat) (D R:List AN),R.length≤k→D.length+R.length=N→
  ∃R',R'.Perm R∧SB 20 R'∧∀m,k<m→Lm n (N:Int) m (D++R,(D.length:Int),((D.length+20:Nat):Int))=E5 n (N:Int) n (D++R',20):=by
 have one:∀(D R:List AN),R.length<20→D.length+R.length=N→∃R',R'.Perm R∧SB 20 R'∧∀m,0<m→Lm n (N:Int) m (D++R,(D.length:Int),((D.length+20:Nat):Int))=E5 n (N:Int) n (D++R',20):=by
  intro D R hR hl
  obtain⟨R',a1,a2,a3⟩:=fB (n:=n) D R [] zO (by unfold H8;simp;omega)
  refine⟨R',a1,.last R' (by rw[a1.length_eq];omega) a2,fun m hm=>?_⟩
  obtain⟨m,rfl⟩:∃k,m=k+1:=⟨m-1,by omega⟩
  show Is _ _ (Lm _ _ m) _ _ _=_
  unfold Is
  dsimp only
  rw[decide_eq_false zO,cond_false]
  unfold Q9
  simp only[List.append_nil]at a3
  rw[show(N:Int)=((D.length+R.length:Nat):Int) by omega,a3,Y]
 intro k
 induction k with
 | zero=>
  intro D R hk hl
  obtain⟨R',a1,a2,a3⟩:=one D R zO hl
  exact⟨R',a1,a2,fun m hm=>a3 m hm⟩
 | succ k ih=>
  intro D R hk hl
  by_cases hR:R.length<20
  obtain⟨R',a1,a2,a3⟩:=one D R hR hl
  exact⟨R',a1,a2,fun m hm=>a3 m zO⟩
  obtain⟨S,U9,rfl,hS⟩:∃S U9,R=S++U9∧S.length=20:=⟨R.take 20,R.drop 20,(List.take_append_drop ..).symm,by simp;omega⟩
  simp only[List.length_append]at*
  obtain⟨S',a1,a2,a3⟩:=fB (n:=n) D S U9 zO (by unfold H8;simp;omega)
  have hS':S'.length=20:=by rw[a1.length_eq,hS]
  obtain⟨U',u1,u2,u3⟩:=ih (D++S') U9 zO (by simp;omega)
  refine⟨S'++U',a1.append u1,.more S' U' hS' a2 u2,fun m hm=>?_⟩
  obtain⟨m,rfl⟩:∃k,m=k+1:=⟨m-1,by omega⟩
  show Is _ _ (Lm _ _ m) _ _ _=_
  unfold Is
  dsimp only
  rw[hS]at a3
  rw[decide_eq_true zO,cond_true,←List.append_assoc,a3,Y,A7,BD zO zO]
  have:=u3 m zO
  rw[show(D++S').length=D.length+20 by simp[hS']]at this
  simpa using this
theorem XT{n:Nat}(l:List AN)(hn:2*l.length+60≤n)(hb:l.length≤1048576):∃l',l'.Perm l∧Ka l'∧W1 n l=some l':=by
 obtain⟨R',a1,a2,a3⟩:=W9 (n:=n) l.length hn zO l.length [] l (Nat.le_refl _) zS
 obtain⟨l',b1,b2,b3⟩:=Zo (n:=n) l.length zO zO l.length 20 R' zO zO a1.length_eq a2
 refine⟨l',b1.trans a1,b2,?_⟩
 unfold W1 aF
 have h1:=a3 n zO
 have h2:=b3 n zO
 simp only[List.nil_append,List.length_nil,Nat.zero_add]at h1
 rw[show((0:Nat):Int)=0 from rfl]at h1
 rw[show((20:Nat):Int)=20 from rfl]at h1 h2
 rw[h1,h2]
 rfl
end

/- Plain laws of a tree's pages: what was put is read, and found where it was put. No program in sight. Condition: as each says. -/
section
def TB(T:List UInt32)(v:BX)(d:A8)(seg:List A5):Prop:=∀s∈seg,He T v d ⟨s.page,s.tag⟩=some (s.txt,0)∧C6 ⟨s.page,s.tag⟩=true
theorem TB.left{T:List UInt32}{v:BX}{d:A8}{a b:List A5}(h:TB T v d (a++b)):TB T v d a:=fun s hs=>h s (List.mem_append_left _ hs)
theorem TB.right{T:List UInt32}{v:BX}{d:A8}{a b:List A5}(h:TB T v d (a++b)):TB T v d b:=fun s hs=>h s (List.mem_append_right _ hs)
variable {n:Nat}{T:List UInt32}{v:BX}{d:A8}
def d8(x:Bj):List Af:=if Jv ⟨x.npage,x.ntag⟩=true then x.kids else x.kids++[⟨x.npage,x.ntag⟩]
theorem Ql{x:Bj}(h:DI x=true):x.rows.length≤4∧x.kids.length≤4:=by
 by_cases hk:x.kind=1
 obtain⟨h1,h2,h3,h4,h5,h6,h7⟩:=JU h hk
 rw[h4]
 exact⟨h5,by simp⟩
 obtain⟨hk2,h1,h2,h3,h4,h5,h6,h7,h8⟩:=IK h hk
 rw[h2]
 exact⟨by simp,h6⟩
theorem W2{rec_:GH→BX→A8→Af→Option (Int×GH)}{x:GH}{P:Bj}{r:Af}(hn:10≤n)(h:DI P=true)(hrd:He T v d r=some (EC P,0))(h0:0≤x.count)(hc:x.count<2100)(hb:x.rows.length≤100000):
  Rn rec_ n T x v d r=JP v d r rec_ (EC P,0) (d8 P) n ({ x with rows:=x.rows++P.rows,count:=x.count+1 },0):=by
 obtain⟨l1,l2⟩:=Ql h
 unfold Rn
 rw[decide_eq_false zO,cond_false,hrd,Y,show(!decide ((0:Int)=0))=false from rfl,cond_false,bc hn h,Y,show(!decide ((0:Int)=0))=false from rfl,cond_false]
 dsimp only
 rw[B8 zO zO,Y]
 unfold d8 Jv Oj
 rw[Bool.and_true,BD zO zO]
 by_cases hno:(decide (P.npage=0)&&decide (P.ntag=[]))=true
 rw[hno,Bool.not_true,cond_false,if_pos rfl]
 have hno':(decide (P.npage=0)&&decide (P.ntag=[]))=false:=by simpa using hno
 rw[hno',Bool.not_false,cond_true,B8 (by simp;omega) (by simp;omega),Y,if_neg zD]
theorem SJ{rec_:GH→BX→A8→Af→Option (Int×GH)}{R:BO→List A5→Af→Prop}{lv:BO→List AN}{rr:Af}{y1:List UInt8×Int}{rs:List Af}{M:Nat}
(hrec:∀(k:BO) (s:List A5) (r:Af) (x:GH),R k s r→TB T v d s→s.length≤M→0≤x.count→x.count+s.length≤2100→x.out.length+s.length≤100000→x.rows.length+4*s.length≤100000→rec_ x v d r=some (0,⟨x.out++s,x.rows++lv k,x.count+s.length⟩)∧(lv k).length≤4*s.length):
  ∀(ks:List BO) (seg:List A5) (rest done:List Af) (x:GH),YP R ks seg rest→rs=done++rest→TB T v d seg→seg.length≤M→rs.length≤1000→0≤x.count→x.count+seg.length≤2100→x.out.length+seg.length≤100000→x.rows.length+4*seg.length≤100000→
   (ks.map lv).flatten.length≤4*seg.length∧∀m,ks.length<m→JP v d rr rec_ y1 rs m (x,(done.length:Int))=Mv rr y1 ⟨x.out++seg,x.rows++(ks.map lv).flatten,x.count+seg.length⟩
 | [],seg,rest,done,x,h,hrs,hrd,hM,hr,h0,hc,ho,hw=>by
  obtain⟨rfl,rfl⟩:=h
  refine⟨by simp,fun m hm=>?_⟩
  obtain⟨m,rfl⟩:∃k,m=k+1:=⟨m-1,by omega⟩
  show Ez v d rr rec_ y1 rs (JP v d rr rec_ y1 rs m) x _=_
  unfold Ez
  rw[hrs,decide_eq_false zS,cond_false]
  simp
 | k::ks,seg,rest,done,x,h,hrs,hrd,hM,hr,h0,hc,ho,hw=>by
  obtain⟨s1,r1,s2,rs',h1,h2,rfl,rfl⟩:=h
  simp only[List.length_append]at hM hc ho hw
  have hl:rs.length=done.length+(rs'.length+1):=by rw[hrs];simp
  obtain⟨e1,e2⟩:=hrec k s1 r1 x h1 hrd.left zO h0 zO zO zO
  obtain⟨e3,e4⟩:=SJ hrec ks s2 rs' (done++[r1]) ⟨x.out++s1,x.rows++lv k,x.count+s1.length⟩ h2 (by rw[hrs];simp) hrd.right zO hr (by simp only;omega) (by simp only;omega) (by simp;omega) (by simp;omega)
  refine⟨by simp only[List.map_cons,List.flatten_cons,List.length_append];omega,fun m hm=>?_⟩
  obtain⟨m,rfl⟩:∃k,m=k+1:=⟨m-1,by omega⟩
  have n1:Aq rs (done.length:Int)=some r1:=by
   rw[DK rfl,hrs]
   simp
  show Ez v d rr rec_ y1 rs (JP v d rr rec_ y1 rs m) x _=_
  unfold Ez
  rw[decide_eq_true zO,cond_true,n1,Y,e1,Y,show(!decide ((0:Int)=0))=false from rfl,cond_false,BD zO zO]
  have:=e4 m (by simp at hm;omega)
  rw[show((done++[r1]).length:Int)=(done.length:Int)+1 by simp only[List.length_append,List.length_singleton];omega]at this
  rw[this]
  congr 1
  simp only[List.map_cons,List.flatten_cons,List.append_assoc,List.length_append,GH.mk.injEq,true_and]
  omega
theorem Rl.snoc:∀ {ls:List (List AN)} {l:List AN} {r0:Af} {seg:List A5} {r:Af},Rl (ls++[l]) r0 seg r→∃seg' r1,Rl ls r0 seg' r1∧DI (Ky l r1)=true∧seg=seg'++[⟨EC (Ky l r1),r.page,r.tag⟩]
 | [],l,r0,seg,r,h=>by
  obtain⟨r1,seg',h1,rfl,h2,rfl⟩:=h
  subst h2
  exact⟨[],r0,⟨rfl,rfl⟩,h1,rfl⟩
 | a::ls,l,r0,seg,r,h=>by
  obtain⟨r1,seg',h1,rfl,h2⟩:=h
  obtain⟨seg2,r2,h3,h4,rfl⟩:=Rl.snoc h2
  exact⟨_::seg2,r2,⟨r1,seg2,h1,rfl,h3⟩,h4,rfl⟩
theorem Rl.last:∀ {ls:List (List AN)} {r0:Af} {seg:List A5} {r:Af},Rl ls r0 seg r→(ls=[]∧r=r0)∨∃s∈seg,(⟨s.page,s.tag⟩:Af)=r
 | [],_,_,_,h=>.inl ⟨rfl,h.2⟩
 | a::ls,r0,seg,r,h=>by
  obtain⟨r1,seg',h1,rfl,h2⟩:=h
  rcases Rl.last h2 with⟨rfl,rfl⟩ | ⟨s,hs,e⟩
  exact .inr ⟨_,List.mem_cons_self ..,rfl⟩
  exact .inr ⟨s,List.mem_cons_of_mem _ hs,e⟩
theorem TO{rr:Af}{s:List UInt8}{e:Int}{x:GH}(h:x.out.length≤100000):Mv rr (s,e) x=some (0,⟨x.out++[⟨s,rr.page,rr.tag⟩],x.rows,x.count⟩):=by
 unfold Mv
 rw[B8 (by simp;omega) (by simp;omega),Y]
theorem WA(hn:10≤n):∀(m:Nat) (ls:List (List AN)) (seg:List A5) (r:Af) (x:GH),ls≠[]→Rl ls ⟨0,[]⟩ seg r→TB T v d seg→seg.length≤m→0≤x.count→x.count+seg.length≤2100→x.out.length+seg.length≤100000→x.rows.length+4*seg.length≤100000→
  Rt n T m x v d r=some (0,⟨x.out++seg,x.rows++ls.reverse.flatten,x.count+seg.length⟩)∧ls.reverse.flatten.length≤4*seg.length
 | 0,ls,seg,r,x,hne,h,hrd,hm,h0,hc,ho,hw=>by
  have:=h.len
  have:=List.length_pos_iff.2 hne
  omega
 | m+1,ls,seg,r,x,hne,h,hrd,hm,h0,hc,ho,hw=>by
  obtain⟨ls,l,rfl⟩:∃S0 z,ls=S0++[z]:=⟨_,_,(List.dropLast_concat_getLast hne).symm⟩
  obtain⟨seg',r1,h1,h2,rfl⟩:=h.snoc
  simp only[List.length_append,List.length_singleton]at hm hc ho hw
  have hrd1:=(hrd ⟨EC (Ky l r1),r.page,r.tag⟩ zS).1
  have hl4:=(Ql h2).1
  simp only at hl4
  have e0:=W2 (n:=n) (rec_:=Rt n T m) (x:=x) (r:=r) hn h2 hrd1 h0 zO zO
  show Rn (Rt n T m) n T x v d r=_∧_
  rw[e0]
  rcases h1.last with⟨rfl,rfl⟩ | ⟨s,hs,es⟩
  obtain⟨rfl,_⟩:=h1
  have hon:d8 (Ky l ⟨0,[]⟩)=[]:=if_pos rfl
  rw[hon]
  have hloop:=SJ (T:=T) (v:=v) (d:=d) (rec_:=Rt n T m) (R:=fun _ _ _=>False) (lv:=fun _=>[]) (rr:=r) (y1:=(EC (Ky l ⟨0,[]⟩),0)) (rs:=[]) (M:=0) (fun k s r x hR=>hR.elim) [] [] [] [] { x with rows:=x.rows++l,count:=x.count+1 } ⟨rfl,rfl⟩ rfl (fun s hs=>by simp at hs) zS zS (by simp only;omega) (by simp;omega) (by simp;omega) (by simp;omega)
  have:=hloop.2 n (by simp;omega)
  simp only[List.length_nil]at this
  rw[show((0:Nat):Int)=0 from rfl]at this
  rw[this,TO (by simp;omega)]
  constructor
  simp
  simpa using hl4
  have hok:=(hrd s (List.mem_append_left _ hs)).2
  rw[es]at hok
  have hne1:ls≠[]:=by
   intro e
   subst e
   rw[h1.1]at hs
   simp at hs
  have hon:d8 (Ky l r1)=[r1]:=by
   unfold d8
   have:Jv ⟨r1.page,r1.tag⟩=false:=by
    have h5:=(Fr hok).1
    unfold Jv
    simp only[Bool.and_eq_false_iff,decide_eq_false_iff_not]
    right
    intro e
    have e:r1.tag=[]:=e
    rw[e]at h5
    simp at h5
   rw[this,if_neg zD]
   rfl
  rw[hon]
  obtain⟨e1,e2⟩:=WA hn m ls seg' r1 { x with rows:=x.rows++l,count:=x.count+1 } hne1 h1 hrd.left zO (by simp only;omega) (by simp only;omega) (by simp only;omega) (by simp;omega)
  obtain⟨n,rfl⟩:∃k,n=k+1:=⟨n-1,by omega⟩
  obtain⟨n,rfl⟩:∃k,n=k+1:=⟨n-1,by omega⟩
  show Ez v d r (Rt (n+1+1) T m) (EC (Ky l r1),0) [r1] (JP v d r (Rt (n+1+1) T m) (EC (Ky l r1),0) [r1] (n+1)) _ 0=_∧_
  unfold Ez
  rw[show decide ((0:Int)<(([r1]:List Af).length:Int))=true from rfl,cond_true,show Aq [r1] 0=some r1 from rfl,Y,e1,Y,show(!decide ((0:Int)=0))=false from rfl,cond_false,show wI (0+1)=1 from rfl]
  show Ez v d r (Rt (n+1+1) T m) (EC (Ky l r1),0) [r1] (JP v d r (Rt (n+1+1) T m) (EC (Ky l r1),0) [r1] n) _ 1=_∧_
  unfold Ez
  rw[show decide ((1:Int)<(([r1]:List Af).length:Int))=false from rfl,cond_false,TO (by simp;omega)]
  constructor
  congr 2
  simp only[List.reverse_append,List.reverse_cons,List.reverse_nil,List.nil_append,List.singleton_append,List.flatten_cons,List.append_assoc,List.length_append,List.length_singleton,GH.mk.injEq,true_and]
  omega
  simp only[List.reverse_append,List.reverse_cons,List.reverse_nil,List.nil_append,List.singleton_append,List.flatten_cons,List.length_append,List.length_singleton]
  omega
theorem WQ(hn:1010≤n):∀(f:Nat) (t:BO) (seg:List A5) (r:Af) (x:GH) (m:Nat),Og f t seg r→TB T v d seg→seg.length≤m→0≤x.count→x.count+seg.length≤2100→x.out.length+seg.length≤100000→x.rows.length+4*seg.length≤100000→
  Rt n T m x v d r=some (0,⟨x.out++seg,x.rows++XU f t,x.count+seg.length⟩)∧(XU f t).length≤4*seg.length
 | 0,_,_,_,_,_,h,_,_,_,_,_,_=>h.elim
 | f+1,t,seg,r,x,m,h,hrd,hm,h0,hc,ho,hw=>by
  obtain⟨⟨b1,b2⟩,h⟩:=h
  rcases h with⟨h1,h2⟩ | ⟨h1,segs,rs,h2,h3,rfl⟩
  have hne:(I7 t.rows).reverse≠[]:=by
   intro e
   have:=congrArg List.length e
   rw[List.length_reverse,NY,List.length_nil]at this
   omega
  have:=WA (n:=n) zO m (I7 t.rows).reverse seg r x hne h2 hrd hm h0 hc ho hw
  rw[List.reverse_reverse,bN]at this
  rw[XU,if_pos (by rw[h1];rfl)]
  exact this
  have hk0:=List.length_pos_iff.2 h1
  simp only[List.length_append,List.length_singleton]at hm hc ho hw
  obtain⟨m,rfl⟩:∃k,m=k+1:=⟨m-1,by omega⟩
  have hrd1:=(hrd ⟨EC (Lr t rs),r.page,r.tag⟩ zS).1
  have e0:=W2 (n:=n) (rec_:=Rt n T m) (x:=x) (r:=r) zO h3 hrd1 h0 zO zO
  show Rn (Rt n T m) n T x v d r=_∧_
  have hon:d8 (Lr t rs)=rs:=if_pos rfl
  have hl4:=(Ql h3).2
  simp only at hl4
  obtain⟨e3,e4⟩:=SJ (T:=T) (v:=v) (d:=d) (rec_:=Rt n T m) (R:=Og f) (lv:=XU f) (rr:=r) (y1:=(EC (Lr t rs),0)) (rs:=rs) (M:=m) (fun k s r x hR hrd hM h0 hc ho hw=>WQ hn f k s r x m hR hrd hM h0 hc ho hw) t.kids segs rs [] { x with rows:=x.rows++[],count:=x.count+1 } h2 rfl hrd.left zO zO (by simp only;omega) (by simp only;omega) (by simp only;omega) (by simp;omega)
  have e5:=e4 n zO
  simp only[List.length_nil]at e5
  rw[show((0:Nat):Int)=0 from rfl]at e5
  rw[XU,if_neg zO,e0,hon]
  rw[show({ x with rows:=x.rows++(Lr t rs).rows,count:=x.count+1 }:GH)={ x with rows:=x.rows++[],count:=x.count+1 }from rfl,e5,TO (by simp;omega)]
  constructor
  congr 2
  simp only[List.append_assoc,List.append_nil,List.length_append,List.length_singleton,GH.mk.injEq,true_and]
  omega
  simp only[List.length_append,List.length_singleton]
  omega
end

/- Plain laws of a tree's pages: what was saved is loaded. No program in sight. Condition: as each says. -/
section
theorem XO{R:List AN→BO→Prop}{lv:BO→List AN}{xs:List (List AN)}{ks:List BO}(h:P1 R xs ks)(hR:∀x k,R x k→(lv k).Perm x):(ks.map lv).flatten.Perm xs.flatten:=by
 induction h with
 | nil=>exact List.Perm.refl _
 | cons h1 _ ih=>
  simp only[List.map_cons,List.flatten_cons]
  exact(hR _ _ h1).append ih
theorem Tr.leaves:∀ {f:Nat} {l:List AN} {t:BO},Tr f l t→(XU f t).Perm l
 | 0,_,_,h=>h.elim
 | f+1,l,t,h=>by
  rcases h with⟨rfl,rfl⟩ | ⟨_,c,L,A,⟨_,rfl⟩ | ⟨h4,hL,ks,rfl,hk⟩⟩
  exact List.Perm.refl _
  exact List.Perm.refl _
  have hkl:=hk.length
  have hq2:=(ND A hL).1
  rw[XU,if_neg (by simp only[BO.kids];omega)]
  exact(XO (lv:=XU f) hk fun x k hT=>Tr.leaves hT).trans (Uh L l)
theorem Vc:∀(l l':List AN),(l.Pairwise fun a b=>a.id<b.id)→l'.Perm l→Ka l'→l'=l
 | [],l',_,hp,_=>List.perm_nil.1 hp
 | a::t,l',hl,hp,hs=>by
  rcases l' with _ | ⟨b,t'⟩
  exact absurd hp.length_eq zS
  obtain⟨h1,h2⟩:=List.pairwise_cons.1 hl
  obtain⟨h3,h4⟩:=List.pairwise_cons.1 hs
  have hba:b.id≤a.id:=by
   have:a∈b::t':=hp.mem_iff.2 zS
   rcases List.mem_cons.1 this with e | e
   rw[e];exact UInt64.le_refl _
   exact h3 a e
  have hb:b∈a::t:=hp.mem_iff.1 zS
  rcases List.mem_cons.1 hb with rfl | hb
  rw[Vc t t' h2 hp.cons_inv h4]
  exact(ck (h1 b hb) hba).elim
theorem Rl.lastE:∀ {ls:List (List AN)} {r0:Af} {seg:List A5} {r:Af},ls≠[]→Rl ls r0 seg r→∃a s,seg=a++[⟨s,r.page,r.tag⟩]
 | [],_,_,_,h,_=>absurd rfl h
 | l::ls,r0,seg,r,_,h=>by
  obtain⟨r1,seg',h1,rfl,h2⟩:=h
  rcases ls with _ | ⟨l2,ls⟩
  obtain⟨rfl,rfl⟩:=h2
  exact⟨[],_,rfl⟩
  obtain⟨a,s,rfl⟩:=Rl.lastE zS h2
  exact⟨_::a,s,rfl⟩
theorem Og.lastE{f:Nat}{t:BO}{seg:List A5}{r:Af}(h:Og f t seg r):∃a s,seg=a++[⟨s,r.page,r.tag⟩]:=by
 cases f with
 | zero=>exact h.elim
 | succ f=>
  rcases h.2 with⟨_,h2⟩ | ⟨_,segs,rs,_,_,rfl⟩
  refine Rl.lastE ?_ h2
  intro e
  have:=congrArg List.length e
  rw[List.length_reverse,NY,List.length_nil]at this
  omega
  exact⟨segs,_,rfl⟩
theorem jw{a:List A5}{s:List UInt8}{r:Af}(hb:a.length≤1000000):IJ (a++[⟨s,r.page,r.tag⟩])=some r:=by
 unfold IJ
 rw[decide_eq_false (by simp;omega),cond_false]
 have e:wI (((a++[(⟨s,r.page,r.tag⟩:A5)]).length:Int)-1)=(a.length:Int):=by
  simp only[List.length_append,List.length_singleton]
  rw[BD zO zO]
  omega
 rw[e,DK rfl]
 simp
theorem bI(r:Af):Z4 r r=true:=by simp[Z4]
theorem bK{L:List A5}(hb:L.length≤100000):∀(seg pre rest:List A5),L=pre++seg++rest→MG (WF L) (pre.length:Int) seg ((pre.length+seg.length:Nat):Int)
 | [],pre,rest,_=>by simp[MG]
 | s::seg,pre,rest,h=>by
  have hl:L.length=pre.length+(seg.length+1)+rest.length:=by rw[h];simp;omega
  have n1:Aq L (pre.length:Int)=some s:=by
   rw[DK rfl,h]
   simp
  refine⟨((pre.length+1:Nat):Int),?_,?_⟩
  unfold WF
  rw[decide_eq_false zO,n1]
  simp only[PJ,cond_false,Y,decide_true,Bool.not_true]
  rw[BD (x:=(pre.length:Int)+1) zO zO,BD zO zO,Int.add_sub_cancel,n1,Y]
  rfl
  have:=bK hb seg (pre++[s]) rest (by rw[h];simp)
  simp only[List.length_append,List.length_cons,List.length_nil,Nat.zero_add]at this ⊢
  rw[show pre.length+(seg.length+1)=pre.length+1+seg.length by omega]
  exact this
theorem jb{n:Nat}{T:List UInt32}{v:BX}{d:A8}{l:List AN}{t:BO}{seg:List A5}{r:Af}(hn:2110≤n)(hl:CZ l=true)(hb:Im n l=some (t,0))(hT:Tr n l t)(hR:Og n t seg r)(hrd:TB T v d seg)(hs:seg.length≤2000):
  T7 n T v d r=some (l,seg,0):=by
 have hl':=hl
 unfold CZ at hl'
 simp only[Bool.and_eq_true,decide_eq_true_eq]at hl'
 obtain⟨e1,e2⟩:=WQ (n:=n) (T:=T) (v:=v) (d:=d) zO n t seg r ⟨[],[],0⟩ n hR hrd zO zS (by simp;omega) (by simp;omega) (by simp;omega)
 have hp:=hT.leaves
 obtain⟨l',s1,s2,s3⟩:=XT (n:=n) (XU n t) (by rw[hp.length_eq];omega) (by rw[hp.length_eq];omega)
 have hll:l'=l:=Vc l l' ((Nl l).1 hl'.1.2) (s1.trans hp) s2
 subst hll
 have hpath:=bK (L:=seg) zO seg [] [] zS
 have hnode:=WM (n:=n) (wh:=WF seg) zO n (o:=[]) hR hpath (by simp;omega)
 unfold T7
 rw[e1,Y]
 rw[show(!decide ((0:Int)=0))=false from rfl,cond_false]
 simp only[List.nil_append]
 rw[s3,Y,hb,Y]
 simp only[List.length_nil,Nat.zero_add,List.nil_append]at hnode
 rw[show(!decide ((0:Int)=0))=false from rfl,cond_false]
 have hnode':EV n (WF seg) n t ⟨[],0⟩ 0=some (r,(⟨seg,0⟩,(seg.length:Int))):=hnode
 dsimp only
 rw[hnode',Y]
 simp only[bI]
 simp
end

/- Plain laws of saving: pages that have a place, or take one of a vault's. No program in sight. Condition: as each says. -/
section
/-! ### What is taken -/
structure Pg(N:Nat)(v:BX):Prop where
 nd:(v.taken.map (·.1)).Nodup
 tr:∀e∈v.taken,e.2=true∧2≤e.1.toNat∧e.1.toNat<N
theorem Pg.iff{N:Nat}{v:BX}(h:Pg N v)(p:UInt32):Ce v p=true↔p∈v.taken.map (·.1):=by
 unfold Ce
 constructor
 intro hp
 by_cases hm:∃e∈v.taken,e.1=p
 obtain⟨e,he,rfl⟩:=hm
 exact List.mem_map_of_mem he
 rw[Ru (fun e he e'=>hm ⟨e,he,e'⟩)]at hp
 exact absurd hp zD
 intro hp
 obtain⟨e,he,rfl⟩:=List.mem_map.1 hp
 rw[Oy h.nd he]
 exact(h.tr e he).1
theorem ofNat_toNat{x:UInt32}:UInt32.ofNat x.toNat=x:=UInt32.toNat_inj.1 zS
theorem Pg.full{N:Nat}{v:BX}(h:Pg N v)(hN:N≤4096)(hl:N-2≤v.taken.length):∀x,2≤x→x<N→Ce v (UInt32.ofNat x)=true:=by
 intro x h1 h2
 rw[h.iff]
 by_cases hm:UInt32.ofNat x∈v.taken.map (·.1)
 exact hm
 exfalso
 have hnd:(x::v.taken.map fun e=>e.1.toNat).Nodup:=by
  refine List.nodup_cons.2 ⟨fun hx=>?_,?_⟩
  obtain⟨e,he,e'⟩:=List.mem_map.1 hx
  refine hm ?_
  rw[←e',ofNat_toNat]
  exact List.mem_map_of_mem he
  have:=h.nd
  rw[show(v.taken.map fun e=>e.1.toNat)=(v.taken.map (·.1)).map UInt32.toNat by simp]
  exact List.Pairwise.map _ (fun a b hab e=>hab (UInt32.toNat_inj.1 e)) this
 have:=O1 hnd (l':=(List.range (N-2)).map (·+2)) (fun a ha=>by
  have hb:2≤a∧a<N:=by
   rcases List.mem_cons.1 ha with rfl | ha
   exact⟨h1,h2⟩
   obtain⟨e,he,rfl⟩:=List.mem_map.1 ha
   exact(h.tr e he).2
  exact List.mem_map.2 ⟨a-2,List.mem_range.2 zO,by omega⟩)
 simp at this
 omega
theorem Xq{P:Nat→Prop}:∀k,(∃j,j<k∧P j)→∃j,j<k∧P j∧∀x,x<j→¬P x
 | 0,⟨j,h,_⟩=>by omega
 | k+1,⟨j,h,hP⟩=>by
  by_cases hk:∃i,i<k∧P i
  obtain⟨i,h1,h2,h3⟩:=Xq k hk
  exact⟨i,by omega,h2,h3⟩
  have:j=k:=by
   rcases Nat.lt_or_ge j k with h' | h'
   exact absurd ⟨j,h',hP⟩ hk
   omega
  subst this
  exact⟨j,by omega,hP,fun x hx hPx=>hk ⟨x,hx,hPx⟩⟩
theorem Pg.free{N:Nat}{v:BX}(h:Pg N v)(hN:N≤4096)(hl:v.taken.length<N-2):∃j,2≤j∧j<N∧Ce v (UInt32.ofNat j)=false∧∀x,2≤x→x<j→Ce v (UInt32.ofNat x)=true:=by
 have:∃j,j<N∧(2≤j∧Ce v (UInt32.ofNat j)=false):=by
  by_cases hx:∃j,j<N∧(2≤j∧Ce v (UInt32.ofNat j)=false)
  exact hx
  exfalso
  have hnd:((List.range (N-2)).map (fun i=>UInt32.ofNat (i+2))).Nodup:=by
   refine List.pairwise_map.2 (List.Pairwise.imp_of_mem ?_ List.nodup_range)
   intro a b ha hb hne
   have ha:=List.mem_range.1 ha
   have hb:=List.mem_range.1 hb
   exact iR zO zO zO
  have:=O1 hnd (l':=v.taken.map (·.1)) (fun a ha=>by
   obtain⟨i,hi,rfl⟩:=List.mem_map.1 ha
   have hi:=List.mem_range.1 hi
   rw[←h.iff]
   cases hc:Ce v (UInt32.ofNat (i+2))with
   | true=>rfl
   | false=>exact absurd ⟨i+2,by omega,by omega,hc⟩ hx)
  simp at this
  omega
 obtain⟨j,h1,⟨h2,h3⟩,h4⟩:=Xq N this
 refine⟨j,h2,h1,h3,fun x hx1 hx2=>?_⟩
 cases hc:Ce v (UInt32.ofNat x)with
 | true=>rfl
 | false=>exact absurd ⟨hx1,hc⟩ (h4 x hx2)
/-! ### A page that can be read -/
def Rd(T:List UInt32)(R:List BC)(N:Nat)(v:BX)(d:A8)(s:A5):Prop:=2≤s.page.toNat∧s.page.toNat<N∧Ce v s.page=true∧∃g' qn b,Ub T R d s.page g' qn s.txt b∧s.tag=b.drop 224
theorem Rd.ok{T:List UInt32}{R:List BC}{N c:Nat}{g:UInt32}{v:BX}{d:A8}{s:A5}(V9:VS N c R g v d)(h:Rd T R N v d s):He T v d ⟨s.page,s.tag⟩=some (s.txt,0)∧C6 ⟨s.page,s.tag⟩=true∧s.txt.length≤198:=by
 obtain⟨h1,h2,_,g',qn,b,hb,ht⟩:=h
 have hl:=hb.len
 refine⟨by rw[ht];exact V9.read hb h1 h2,?_,hb.txt⟩
 unfold C6
 rw[Bool.and_eq_true,decide_eq_true_eq,decide_eq_true_eq]
 refine⟨UInt32.le_iff_toNat_le.2 h1,?_⟩
 show(s.tag.length:Int)=32
 rw[ht,List.length_drop,hl]
 rfl
structure bT(N c0:Nat)(R:List BC)(g:UInt32)(vb:BX)(db:A8)(q:N4):Prop where
 vs:VS N (c0+q.tk.length) R g q.v q.d
 seals:q.v.seals=vb.seals+UInt64.ofNat q.tk.length
 tak:q.v.taken=(q.tk.map fun p=>(p,true)).reverse++vb.taken
 ok:Pg N q.v
 keep:∀p,p∉q.tk→Jp q.d p=Jp db p
 lim:c0+q.tk.length+(N-2-q.v.taken.length)≤100
theorem bT.notin{N c0:Nat}{R:List BC}{g:UInt32}{vb:BX}{db:A8}{q:N4}(S:bT N c0 R g vb db q)(hb:Pg N vb){p:UInt32}(h:Ce vb p=true):p∉q.tk∧Ce q.v p=true:=by
 rw[hb.iff]at h
 constructor
 intro hp
 have:=S.ok.nd
 rw[S.tak,List.map_append]at this
 refine(List.nodup_append.1 this).2.2 p ?_ p h rfl
 rw[List.map_reverse,List.mem_reverse,List.map_map]
 exact List.mem_map.2 ⟨p,hp,rfl⟩
 rw[S.ok.iff,S.tak,List.map_append]
 exact List.mem_append_right _ h
theorem bT.base{T:List UInt32}{N c0:Nat}{R:List BC}{g:UInt32}{vb:BX}{db:A8}{q:N4}(S:bT N c0 R g vb db q)(hb:Pg N vb){s:A5}(h:Rd T R N vb db s):Rd T R N q.v q.d s:=by
 obtain⟨h1,h2,h3,g',qn,b,hb',ht⟩:=h
 obtain⟨h4,h5⟩:=S.notin hb h3
 exact⟨h1,h2,h5,g',qn,b,⟨hb'.key,hb'.txt,by rw[S.keep _ h4];exact hb'.is⟩,ht⟩
end

/- Plain laws of saving: what grove.Save answers. No program in sight. Condition: as each says. -/
section
/-! ### How many pages -/
theorem Xk:∀ {f:Nat} {l:List AN} {t:BO},Tr f l t→(l=[]→Lg f t=1)∧(l≠[]→Lg f t+1≤2*l.length)
  | 0,_,_,h=>h.elim
  | f+1,l,t,h=>by
    rcases h with⟨rfl,rfl⟩ | ⟨hne,c,L,A,⟨_,rfl⟩ | ⟨h4,hL,ks,rfl,hk⟩⟩
    exact⟨fun _=>rfl,fun h=>absurd rfl h⟩
    refine⟨fun h=>absurd h hne,fun _=>?_⟩
    have:=List.length_pos_iff.2 hne
    rw[Lg,if_pos (show(BO.mk c.x c.y c.lev l []).kids.length=0 from rfl)]
    simp only[BO.rows]
    omega
    refine⟨fun h=>absurd h hne,fun _=>?_⟩
    have hkl:=hk.length
    have hq2:=(ND A hL).1
    rw[Lg,if_neg (by simp only[BO.kids];omega)]
    simp only[BO.kids]
    have key:∀ {xs:List (List AN)} {ys:List BO},P1 (Tr f) xs ys→(∀x∈xs,x≠[])→(ys.map (Lg f)).sum+xs.length≤2*xs.flatten.length:=by
      intro xs ys h
      induction h with
      | nil=>simp
      | @cons x y xs ys h1 h2 ih=>
        intro hx
        have a1:=(Xk h1).2 (hx _ zS)
        have a2:=ih fun x hx'=>hx x (by simp[hx'])
        simp only[List.map_cons,List.sum_cons,List.length_cons,List.flatten_cons,List.length_append]
        omega
    have:=key hk fun x hx=>(R6 hx).1
    rw[(Uh L l).length_eq]at this
    omega
theorem PO{f:Nat}{l:List AN}{t:BO}(h:Tr f l t)(hl:l.length≤1000):Lg f t≤max 1 (2*l.length):=by
  obtain⟨h1,h2⟩:=Xk h
  by_cases e:l=[]
  rw[h1 e];omega
  have:=h2 e
  omega
/-! ### Where pages go -/
theorem cO{s:List UInt8}(h:s.length≤1048576):UW s=some ⟨s,h⟩:=dif_pos h
theorem Wm{m:List (UInt32×Bool)}{p:UInt32}(h:p∉m.map (·.1)):GK m p=m:=Q7 fun e he e'=>h (by rw[←e'];exact List.mem_map_of_mem he)
theorem gS{T:List UInt32}{N c0:Nat}{R:List BC}{g:UInt32}{vb:BX}{db:A8}{th:List (HU×Af)}{k:BC}(hb:Pg N vb)(hN:N≤4096)(hk:Cf R g=(k,0))(hth:∀key r,Cm th key=some r→Rd T R N vb db ⟨key.1,r.page,r.tag⟩):
    gG (LS T th) (bT N c0 R g vb db) (fun q s=>Rd T R N q.v q.d s) (fun q=>N-2-q.v.taken.length):=by
  refine⟨fun q s S hs=>?_⟩
  unfold LS
  rw[cO (show s.length≤1048576 by omega),Y]
  cases hm:Cm th ⟨s,by omega⟩with
  | some r=>
    have hr:=S.base hb (hth _ r hm)
    exact⟨r,0,q,rfl,S,fun _ h=>h,.inl ⟨rfl,(hr.ok S.vs).2.1,hr,Nat.le_succ _⟩⟩
  | none=>
    rw[show(none:Option Af).isSome=false from rfl,cond_false]
    by_cases hroom:q.v.taken.length<N-2
    obtain⟨j,j1,j2,j3,j4⟩:=S.ok.free hN hroom
    have hlim:=S.lim
    obtain⟨v',d',b,e1,V1,s1,t1,h1,H1,_,_⟩:=S.vs.write (T:=T) zO hk hs j j1 j2 j3 j4
    have hjn:(UInt32.ofNat j).toNat=j:=by simp;omega
    have hnin:UInt32.ofNat j∉q.v.taken.map (·.1):=by
      rw[←S.ok.iff,j3]
      decide
    have htk:v'.taken=(UInt32.ofNat j,true)::q.v.taken:=by rw[t1,Ii,Wm hnin]
    have hok:Pg N v':=by
      refine⟨?_,fun e he=>?_⟩
      rw[htk,List.map_cons]
      exact List.nodup_cons.2 ⟨hnin,S.ok.nd⟩
      rw[htk]at he
      rcases List.mem_cons.1 he with rfl | he
      exact⟨rfl,by rw[hjn];exact j1,by rw[hjn];exact j2⟩
      exact S.ok.tr e he
    have hntk:UInt32.ofNat j∉q.tk:=fun hj=>hnin (by
      rw[S.tak,List.map_append]
      refine List.mem_append_left _ ?_
      rw[List.map_reverse,List.mem_reverse,List.map_map]
      exact List.mem_map.2 ⟨_,hj,rfl⟩)
    rw[e1,Y]
    dsimp only
    rw[show decide ((0:Int)=0)=true from rfl,cond_true,B8 (by simp;omega) (by simp;omega),Y]
    have hlen:(q.tk++[UInt32.ofNat j]).length=q.tk.length+1:=by simp
    refine⟨_,0,⟨q.tk++[UInt32.ofNat j],v',d'⟩,rfl,⟨?_,?_,?_,hok,fun p hp=>?_,?_⟩,fun x hx=>?_,.inl ⟨rfl,?_,?_,?_⟩⟩
    show VS N (c0+(q.tk++[UInt32.ofNat j]).length) R g v' d'
    rw[hlen]
    exact V1
    show v'.seals=vb.seals+UInt64.ofNat (q.tk++[UInt32.ofNat j]).length
    rw[s1,S.seals,hlen,UInt64.ofNat_add,UInt64.add_assoc]
    rfl
    show v'.taken=_
    rw[htk,S.tak]
    simp
    simp only[List.mem_append,List.mem_singleton,not_or]at hp
    show Jp d' p=_
    rw[h1,if_neg (fun e=>hp.2 e.symm)]
    exact S.keep p hp.1
    show c0+(q.tk++[UInt32.ofNat j]).length+(N-2-v'.taken.length)≤100
    rw[hlen,htk,List.length_cons]
    omega
    obtain⟨x1,x2,x3,g',qn,b',x4,x5⟩:=hx
    have hne:UInt32.ofNat j≠x.page:=fun e=>by
      rw[←e,j3]at x3
      exact absurd x3 zD
    refine⟨x1,x2,?_,g',qn,b',x4.put h1 hne,x5⟩
    show Ce v' x.page=true
    rw[hok.iff,htk,List.map_cons]
    exact List.mem_cons_of_mem _ ((S.ok.iff _).1 x3)
    have hl:=H1.len
    unfold C6
    rw[Bool.and_eq_true,decide_eq_true_eq,decide_eq_true_eq]
    refine⟨UInt32.le_iff_toNat_le.2 (by rw[hjn];exact j1),?_⟩
    rw[List.length_drop,hl]
    rfl
    refine⟨by rw[hjn];exact j1,by rw[hjn];exact j2,?_,g,q.v.seals,b,H1,rfl⟩
    show Ce v' (UInt32.ofNat j)=true
    rw[hok.iff,htk]
    simp
    show N-2-q.v.taken.length≤N-2-v'.taken.length+1
    rw[htk,List.length_cons]
    omega
    have hw:=c6 (T:=T) S.vs.dev hs (S.ok.full hN zO)
    rw[hw,Y]
    dsimp only
    rw[show decide ((110:Int)=0)=false from rfl,cond_false]
    exact⟨_,110,q,rfl,S,fun _ h=>h,.inr ⟨rfl,by omega⟩⟩
/-! ### What was had -/
theorem X7:∀(l:List (Int×A5)) (m:List (HU×Af)),(∀s∈l,s.2.txt.length≤1048576)→m.length+l.length≤1000000000→
    ∃m',Ox l m=some m'∧∀k:HU,Cm m' k=((l.reverse.find? fun s=>decide (s.2.txt=k.1)).map fun s=>(⟨s.2.page,s.2.tag⟩:Af)).or (Cm m k)
  | [],m,_,_=>⟨m,rfl,fun k=>by simp⟩
  | s::l,m,h,hb=>by
    simp only[List.length_cons]at hb
    have hd:(GK m ⟨s.2.txt,h s zS⟩).length≤m.length:=List.length_filter_le ..
    obtain⟨m',h1,h2⟩:=X7 l (Ii m ⟨s.2.txt,h s zS⟩ ⟨s.2.page,s.2.tag⟩) (fun x hx=>h x (by simp[hx])) (by
      show(GK m _).length+1+l.length≤_
      omega)
    refine⟨m',?_,fun k=>?_⟩
    rw[Ox,cO (h s zS),Y]
    unfold Nx
    rw[if_pos zO,Y]
    exact h1
    rw[h2 k,List.reverse_cons,List.find?_append,RA]
    cases hf:l.reverse.find? fun s=>decide (s.2.txt=k.1)with
    | some x=>rfl
    | none=>
      simp only[Option.map_none,Option.none_or,List.find?_singleton]
      by_cases e:s.2.txt=k.1
      rw[if_pos (Subtype.ext e),if_pos (by simpa using e)]
      rfl
      rw[if_neg (fun e'=>e (congrArg Subtype.val e')),if_neg (by simpa using e)]
      rfl
theorem WZ{α:Type}(xs:List α):(EB xs).reverse.map (·.2)=xs:=by
  unfold EB
  rw[List.reverse_reverse,List.map_map]
  have:((fun x:Int×α=>x.2)∘fun p:α×Nat=>((p.2:Int),p.1))=Prod.fst:=rfl
  rw[this,List.zipIdx_map_fst]
theorem eT{α:Type}{xs:List α}{s:Int×α}(h:s∈EB xs):s.2∈xs:=by
  rw[←WZ xs]
  exact List.mem_map_of_mem (List.mem_reverse.2 h)
theorem R5(had:List A5)(h:∀s∈had,s.txt.length≤1048576)(hb:had.length≤1000000000):∃th,Ox (EB had) []=some th∧∀k:HU,Cm th k=(had.find? fun s=>decide (s.txt=k.1)).map fun s=>(⟨s.page,s.tag⟩:Af):=by
  obtain⟨th,h1,h2⟩:=X7 (EB had) [] (fun s hs=>h _ (eT hs)) (by rw[IF];simpa using hb)
  refine⟨th,h1,fun k=>?_⟩
  rw[h2 k,show Cm ([]:List (HU×Af)) k=none from rfl,Option.or_none]
  conv=>rhs;rw[←WZ had]
  rw[List.find?_map,Option.map_map]
  rfl
/-! ### What is given back -/
theorem Td{N:Nat}(hN:N≤4096):∀(tk:List UInt32) (v:BX) (d:A8) (base:List (UInt32×Bool)),d.blocks.length=N→v.taken=(tk.map fun p=>(p,true)).reverse++base→(v.taken.map (·.1)).Nodup→(∀p∈tk,2≤p.toNat∧p.toNat<N)→
    N7 tk v d=some { v with taken:=base }
  | [],v,d,base,_,h,_,_=>by
    simp at h
    rw[N7,←h]
  | p::tk,v,d,base,hd,h,hn,hr=>by
    obtain⟨r1,r2⟩:=hr p zS
    have hmem:(p,true)∈v.taken:=by rw[h];simp
    have hg:=Oy hn hmem
    have hdel:GK v.taken p=(tk.map fun p=>(p,true)).reverse++base:=by
      rw[h]at hn ⊢
      simp only[List.map_cons,List.reverse_cons,List.append_assoc,List.singleton_append,List.map_append]at hn ⊢
      obtain⟨n1,n2,n3⟩:=List.nodup_append.1 hn
      obtain⟨n4,n5⟩:=List.nodup_cons.1 n2
      unfold GK
      rw[List.filter_append,List.filter_cons_of_neg zS]
      congr 1
      exact Wm (m:=(tk.map fun p=>(p,true)).reverse) fun hp=>n3 p hp p zS rfl
      exact Wm n4
    have hi:HZ v d p=some true:=by
      have:=WN v d p.toNat r1 zO
      rw[ofNat_toNat,hd,decide_eq_true r2]at this
      exact this
    have hgive:Kb v d p=some (0,{ v with taken:=GK v.taken p }):=by
      unfold Kb
      rw[hi,Y,A7,hg]
      rfl
    rw[N7,hgive,Y]
    have:=Td hN tk { v with taken:=GK v.taken p } d base hd hdel (by
      show((GK v.taken p).map (·.1)).Nodup
      exact P6 hn) (fun q hq=>hr q (by simp[hq]))
    exact this
/-! ### Saving -/
theorem GV{l:List AN}(h:CZ l=true):l.length≤1000:=by
  unfold CZ at h
  simp only[Bool.and_eq_true,decide_eq_true_eq]at h
  omega
theorem iB{n:Nat}{T:List UInt32}{N c0:Nat}{R:List BC}{g:UInt32}{vb:BX}{db:A8}{k:BC}{l:List AN}{had:List A5}(hn:1100≤n)(hN:N≤4096)(V9:VS N c0 R g vb db)(hb:Pg N vb)(hk:Cf R g=(k,0))(hl:CZ l=true)
(hhad:∀s∈had,Rd T R N vb db s)(hlen:had.length≤100000)(hlim:c0+(N-2-vb.taken.length)≤100):
    ∃t th,Im n l=some (t,0)∧Tr n l t∧(∀k:HU,Cm th k=(had.find? fun s=>decide (s.txt=k.1)).map fun s=>(⟨s.page,s.tag⟩:Af))∧
      ((∃r out q,Hx n T vb db l had=some (out,0,q.v,q.d)∧Og n t out r∧C6 r=true∧bT N c0 R g vb db q∧(∀s∈out,Rd T R N q.v q.d s)∧out.length=Lg n t∧MG (LS T th) ⟨[],vb,db⟩ out q∧N-2-vb.taken.length≤N-2-q.v.taken.length+Lg n t)∨
       (∃v d c,Hx n T vb db l had=some ([],110,v,d)∧N-2-vb.taken.length<Lg n t∧v.taken=vb.taken∧VS N c R g v d)):=by
  obtain⟨t,h1,_,hT⟩:=UD (n:=n) (l:=l) zO hl
  obtain⟨th,h2,h3⟩:=R5 had (fun s hs=>by have:=((hhad s hs).ok V9).2.2;omega) zO
  have hth:∀(key:HU) r,Cm th key=some r→Rd T R N vb db ⟨key.1,r.page,r.tag⟩:=by
    intro key r hr
    rw[h3 key]at hr
    obtain⟨s,hs,rfl⟩:=Option.map_eq_some_iff.1 hr
    have h5:=List.find?_some hs
    simp only[decide_eq_true_eq]at h5
    rw[←h5]
    exact hhad s (List.mem_of_find?_eq_some hs)
  have W:=gS (T:=T) (c0:=c0) (db:=db) hb hN hk hth
  have hpg:=PO hT (GV hl)
  have hl1:=GV hl
  have S0:bT N c0 R g vb db ⟨[],vb,db⟩:=⟨V9,by simp,by simp,hb,fun _ _=>rfl,by simpa using hlim⟩
  obtain⟨r,p',q,e1,e2,e3,e4,e5⟩:=TX W (n:=n) zO n l t ⟨[],0⟩ ⟨[],vb,db⟩ hT hl S0 rfl (by simp;omega)
  refine⟨t,th,h1,hT,h3,?_⟩
  have hsave:Hx n T vb db l had=Rq (r,(p',q)):=by
    unfold Hx
    rw[h1,Y,show(!decide ((0:Int)=0))=false from rfl,cond_false,if_neg zO,h2,Y,e1,Y]
  rw[hsave]
  unfold Rq
  rcases e5 with⟨w,seg,o1,o2,o3,o4,o5,o6⟩ | ⟨w,o6⟩
  left
  simp only[List.nil_append]at o1
  refine⟨r,seg,q,?_,o3,e2 w,e3,o5,o2,o4,o6⟩
  dsimp only
  rw[w,show(!decide ((0:Int)=0))=false from rfl,cond_false,o1]
  right
  have hlim2:=e3.lim
  refine⟨{ q.v with taken:=vb.taken },q.d,c0+q.tk.length,?_,o6,rfl,?_⟩
  dsimp only
  rw[w,show(!decide ((110:Int)=0))=true from rfl,cond_true,if_neg zO,Td hN q.tk q.v q.d vb.taken e3.vs.dev.blen e3.tak e3.ok.nd (fun p hp=>by
    have:=e3.ok.tr (p,true) (by rw[e3.tak];refine List.mem_append_left _ ?_;rw[List.mem_reverse];exact List.mem_map.2 ⟨p,hp,rfl⟩)
    exact this.2),Y]
  have V':=e3.vs
  exact⟨V'.dev,V'.ring,V'.rlen,V'.gen,V'.boot,Nat.le_trans V9.tlen (Nat.le_add_right ..)⟩
end

/- The engine: a make of no elements whose room is a number that is known when it runs. No condition beyond those stated. -/
section
variable {P:Program}{ro:Option Nat}{K:Nat→Prop}{w0:World}{N:Nat}{Q:Cc}{D:List Nat}{l l':Tm}{H H' Hs L:List AT}{ops:Array Oper}{items:G5}
variable {tk:Bool}{o:Oper}{t:Nat}{v:Value}{x y z:Operand}
def YT(by_:Nat)(c:Int):Option Unit:=if 0≤c∧(by_:Int)*c≤281474976710656∧c≤9223372036854775807 then some ()else none
theorem mF{α:Type}{e ty:TypeId}{sz by_:Nat}{c:Int}{u:Unit}{zv:Value}{k k':IntKind}(hn:YT by_ c=some u)(enc:α→List Value)(ho:At ops N l o t (.makeSlice ty x y))(hty:P.underlying ty=some (.slice e))(hsz:CY P e=some sz)(hby:Ng P e=some by_)(hze:Dl P e=some zv)(hzs:zv.cells.size=sz)
(hx:BT l x=some (.int k 0))(hy:BT l y=some (.int k' c))
(hs:∀v',ED Hs (AE e sz v' enc ([]:List α)::H))(h:∀v',SL P ro K w0 N ops Hs items Q D ((t,v')::l) (AE e sz v' enc ([]:List α)::H)):SL P ro K w0 N ops Hs (.cons (false,o) items) Q D l H:=by
 unfold YT at hn
 split at hn
 rename_i hc
 obtain⟨h1,h2,h3⟩:=hc
 obtain⟨n,rfl⟩:∃n:Nat,c=(n:Int):=⟨c.toNat,by omega⟩
 refine ZX (n:=n) enc ho hty hsz hby hze hzs hx hy (Nat.ble_eq_true_of_le ?_) (Nat.ble_eq_true_of_le zO) hs h
 rw[←Int.natCast_mul]at h2
 omega
 cases hn
theorem Bn.cut{α:Type}{enc:α→List Value}{sz:Nat}{xs:List α}{b off cap q:Nat}(hl:∀x,(enc x).length=sz)(hcap:xs.length≤cap)(hc:∀j u,(xs.flatMap enc)[j]? = some u→K b∧w0.cell? ⟨b,off+j,none⟩=some u)(hq:q≤xs.length):Bn K w0 enc sz (.slice (some ⟨b,off+q*sz,none⟩) (xs.length-q) (cap-q)) (xs.drop q):=by
 refine⟨hl,.inr ⟨b,off+q*sz,cap-q,by simp,by simp;omega,fun j u hu=>?_⟩⟩
 have hpre:(xs.take q).flatMap enc++(xs.drop q).flatMap enc=xs.flatMap enc:=by
  rw[←List.flatMap_append,List.take_append_drop]
 have hlen:((xs.take q).flatMap enc).length=q*sz:=by rw[Hg hl,List.length_take,Nat.min_eq_left hq]
 have:=hc (q*sz+j) u (by
  rw[←hpre,List.getElem?_append_right zO,hlen,Nat.add_sub_cancel_left]
  exact hu)
 rw[Nat.add_assoc]
 exact this
end

/- Plain functions of the references and the laws, printed from the loaded program, and the walks that show that the program computes them. Condition: the plain function yields. -/
section
variable {K:Nat→Prop}{w0:World}{H:List AT}
def Fb(n:Nat)(p0:Int):Option (Option (BX×A8×B2×BP)×Bool):=
 (J0 p0).bind fun y1=>
 (y1.1).bind fun d1=>
 (Gp n p0).bind fun y2=>
 (y2.1).bind fun d2=>
 cond ((!decide (y1.2=0))||(!decide (y2.2=0)))
 (
  some (none,false))
 (
  (EE n 1).bind fun y3=>
  (FT d1 y3 1 7).bind fun y4=>
  (y4.1).bind fun d3=>
  (EE n 1).bind fun y5=>
  (Hl n d2 y5 1 7).bind fun y6=>
  (y6.1).bind fun d4=>
  ret ((decide (y4.2=0))&&(decide (y6.2=0))) fun x1=>
  some (some (d3,d1,d4,d2),x1))
theorem Rf{n:Nat}{p0:Int}{r:Option (BX×A8×B2×BP)×Bool}(h:Fb n p0=some r): BH Tryz.prog K w0 12 [vI p0] [] H (fun u M=>(r.1=none∧u=.tuple #[.pointer none,.pointer none,.pointer none,vB r.2]∧M=[])∨(∃(d:BX×A8×B2×BP) (bn0:Nat) (vn0x1:Value) (mn0x5:Nat) (bn1:Nat) (vn1x4:Value) (mn1x5:Nat) (mn1x6:Nat) (bn2:Nat) (vn2x1:Value) (vn2x5:Value) (bn3:Nat) (vn3x0:Value) (vn3x1:Value) (vn3x2:Value),r.1=some d∧u=.tuple #[vP bn0 0,vP bn1 0,vP bn2 0,vB r.2]∧M=[AI bn0 (.cells #[vP bn1 0,vn0x1,Z d.1.gen,Z d.1.boot,Ag d.1.seals,.map (some mn0x5)] 96),AE 138 2 vn0x1 Ax d.1.ring,A0 mn0x5 Z vB d.1.taken,AI bn1 (.cells #[vB d.2.1.off,vB d.2.1.isCut,vI d.2.1.lasts,vI d.2.1.counts,vn1x4,.map (some mn1x5),.map (some mn1x6),Ag d.2.1.rcnt,vS d.2.1.rtag,Z d.2.1.rboots] 130),AE 9 1 vn1x4 eS d.2.1.blocks,A0 mn1x5 Z vS d.2.1.pend,A0 mn1x6 Z vB d.2.1.bad,AI bn2 (.cells #[vP bn3 0,vn2x1,Z d.2.2.1.gen,Z d.2.2.1.boot,Ag d.2.2.1.num,vn2x5] 69),AE 138 2 vn2x1 Ax d.2.2.1.ring,AE 4 1 vn2x5 eB d.2.2.1.taken,AI bn3 (.cells #[vn3x0,vn3x1,vn3x2,Ag d.2.2.2.rcnt,vS d.2.2.2.rtag,Z d.2.2.2.rboots,vI d.2.2.2.left,vB d.2.2.2.off] 132),AE 9 1 vn3x0 eS d.2.2.2.blk,AE 9 1 vn3x1 eS d.2.2.2.pnd,AE 4 1 vn3x2 eB d.2.2.2.bads])):=by
 unfold Fb at h
 refine BH.enter Tryz.func12 rfl rfl ?_
 refine V (J zR (J zR (J zR (J zR (U (V ?_))))))
 obtain⟨y1,hy1,h⟩:=bnd h
 obtain⟨d1,hd1,h⟩:=bnd h
 refine E zR ?_
 refine AP (vs:=[_]) (Hin:=[]) (Hr:=_) zR zR ⟨zR,zT⟩ pg zR zR (XC hy1) ?_
 rintro _ _ (⟨hn,-,-⟩ | ⟨d_,b1,v1,m1,m2,hn,rfl,rfl⟩)
 rw[hd1]at hn;cases hn
 obtain rfl:d1=d_:=Option.some.inj (hd1.symm.trans hn)
 refine⟨trivial,?_⟩
 refine E zR (Ap zR zR zR (Ap zR zR zR (J zR (J zR (U (V ?_))))))
 obtain⟨y2,hy2,h⟩:=bnd h
 obtain⟨d2,hd2,h⟩:=bnd h
 refine E zR ?_
 refine AP (vs:=[_]) (Hin:=[]) (Hr:=_::_::_::_::_) zR zR ⟨zR,zT⟩ oV zR zR (Z7 hy2) ?_
 rintro _ _ (⟨hn,-,-⟩ | ⟨d_,b2,v2,v3,v4,hn,rfl,rfl⟩)
 rw[hd2]at hn;cases hn
 obtain rfl:d2=d_:=Option.some.inj (hd2.symm.trans hn)
 refine⟨trivial,?_⟩
 refine E zR (Ap zR zR zR (Ap zR zR zR (J zR (J zR (U (AD (V (E zR (O zR Bh (E zR ?_))))))))))
 refine C1 (c := !decide (y2.2=0)) 26 3 29 zR (fun hb k=>?_) (fun hb k=>?_) ?_
 refine AA zR (AA zR (Ad zR zR zR ?_))
 exact k.mono tL
 refine E zR (O zR Bh (Ad zR zR zR ?_))
 exact k.mono tL
 refine U ?_
 refine AG zR (fun hc1=>?_) (fun hc1=>?_)
 replace h:=cT hc1 h
 refine V (J zR (J zR (J zR (J zR (U (AM (Ab ?_)))))))
 obtain rfl:=Option.some.inj h
 exact AU (nw zR zR zR zR zR) (AV (M:=[]) (.inl ⟨zR,zR,zR⟩) fun _ hw=>BJ.pick (H:=[_,_,_,_,_,_,_,_]) hw [] 8 zR)
 replace h:=cF hc1 h
 refine AH (AF (V ?_))
 obtain⟨y3,hy3,h⟩:=bnd h
 obtain⟨y4,hy4,h⟩:=bnd h
 obtain⟨d3,hd3,h⟩:=bnd h
 refine E zR ?_
 refine AP (vs:=[_]) (Hin:=[]) (Hr:=_::_::_::_::_::_::_::_::_) zR zR ⟨zR,zT⟩ jr zR zR (RT hy3) ?_
 rintro v5 _ ⟨_,rfl,rfl⟩
 refine⟨trivial,?_⟩
 refine SL.pick [0,5,6,7,8,1,2,3,4] 9 ?_
 refine AP (vs:=[_,_,Z 1,Z 7]) (Hin:=[_,_,_,_,_]) (Hr:=_::_::_::_::_) zR zR ⟨zR,zR,zR,zR,zT⟩ pn zR zR (CC (B:=[_]) (Hin:=[_,_,_,_]) fun K' w1 hk hB=>ZL hy4 (Br (e:=138) (v:=v5) (fun _=>rfl) (hB _ zS))) ?_
 rintro _ _ ⟨_,rfl,(⟨hn,-,-⟩ | ⟨d_,b3,v6,m3,hn,rfl,rfl⟩)⟩
 rw[hd3]at hn;cases hn
 obtain rfl:d3=d_:=Option.some.inj (hd3.symm.trans hn)
 refine⟨trivial,?_⟩
 refine E zR (Ap zR zR zR (Ap zR zR zR (J zR (J zR (U (V ?_))))))
 obtain⟨y5,hy5,h⟩:=bnd h
 obtain⟨y6,hy6,h⟩:=bnd h
 obtain⟨d4,hd4,h⟩:=bnd h
 refine E zR ?_
 refine AP (vs:=[_]) (Hin:=[]) (Hr:=_::_::_::_::_::_::_::_::_::_::_::_::_) zR zR ⟨zR,zT⟩ jr zR zR (RT hy5) ?_
 rintro v7 _ ⟨_,rfl,rfl⟩
 refine⟨trivial,?_⟩
 refine SL.pick [9,10,11,12,0,1,2,3,4,5,6,7,8] 13 ?_
 refine AP (vs:=[_,_,Z 1,Z 7]) (Hin:=[_,_,_,_,_]) (Hr:=_::_::_::_::_::_::_::_::_) zR zR ⟨zR,zR,zR,zR,zT⟩ oq zR zR (Zb hy6) ?_
 rintro _ _ (⟨hn,-,-⟩ | ⟨d_,b4,v8,v9,hn,rfl,rfl⟩)
 rw[hd4]at hn;cases hn
 obtain rfl:d4=d_:=Option.some.inj (hd4.symm.trans hn)
 refine⟨trivial,?_⟩
 refine E zR (Ap zR zR zR (Ap zR zR zR (J zR (J zR (U (V ?_))))))
 obtain⟨x1,ex1,h⟩:=Bc h
 refine E zR (E zR (E zR (E zR (O zR Bq (E zR ?_)))))
 refine CU (c:=decide (y6.2=0)) 47 3 50 zR (fun hb k=>?_) (fun hb k=>?_) ?_
 refine E zR (O zR Bq (Ad zR zR zR ?_))
 exact k.mono tL
 refine AA zR (AA zR (Ad zR zR zR ?_))
 exact k.mono tL
 refine J zR (J zR (J zR ?_))
 refine Ak (u:=vB x1) zR zR (congrArg vB ex1) ?_
 refine U (AM ?_)
 obtain rfl:=Option.some.inj h
 exact AU (nw zR zR zR zR zR) (AV (M:=[_,_,_,_,_,_,_,_,_,_,_,_,_,_]) (.inr ⟨_,b3,v6,m3,b1,v1,m1,m2,b4,v8,v9,b2,v2,v3,v4,zR,zR,zR⟩) fun _ hw=>BJ.pick (H:=[_,_,_,_,_,_,_,_,_,_,_,_,_,_,_]) hw [8,9,10,11,12,13,14,0,1,2,3,4,5,6] 15 zR)
def JC(n:Nat)(T:List UInt32):Option Bool:=
 (Fb n 12).bind fun y1=>
 (y1.1).bind fun d1=>
 (Hx n T d1.1 d1.2.1 [(⟨1,0,0,[]⟩:AN),(⟨2,0,0,[]⟩:AN),(⟨3,0,0,[]⟩:AN),(⟨4,0,0,[]⟩:AN),(⟨5,0,0,[]⟩:AN),(⟨6,8,0,[]⟩:AN)] []).bind fun y2=>
 (IJ y2.1).bind fun y3=>
 (T7 n T y2.2.2.1 y2.2.2.2 y3).bind fun y4=>
 (Ed (((y1.2&&(decide (y2.2.1=0)))&&(decide (y4.2.2=0)))&&(decide ((y2.1.length:Int)=4))) ((IM n [(⟨1,0,0,[]⟩:AN),(⟨2,0,0,[]⟩:AN),(⟨3,0,0,[]⟩:AN),(⟨4,0,0,[]⟩:AN),(⟨5,0,0,[]⟩:AN),(⟨6,8,0,[]⟩:AN)] y4.1).bind fun y5=>some (y5))).bind fun y6=>
 (Ed y6 ((Gz n y2.1 y4.2.1).bind fun y7=>some (y7))).bind fun y8=>
 (Ed y8 ((Nj y2.2.2.1 y2.2.2.2).bind fun y9=>some (decide (y9=4)))).bind fun y10=>
 some y10
theorem WC{n:Nat}{T:List UInt32}{r:Bool}(h:JC n T=some r)(hS:GJ K w0 T):BH Tryz.prog K w0 11 [] [] H (fun u M=>u=vB r∧M=[]):=by
 unfold JC at h
 refine BH.enter Tryz.func11 rfl rfl ?_
 refine V (J zR (U (V ?_)))
 obtain⟨y1,hy1,h⟩:=bnd h
 obtain⟨d1,hd1,h⟩:=bnd h
 refine AP (vs:=[_]) (Hin:=[]) (Hr:=_) zR zR ⟨zR,zT⟩ jU zR zR (Rf hy1) ?_
 rintro _ _ (⟨hn,-,-⟩ | ⟨d_,b1,v1,m1,b2,v2,m2,m3,b3,v3,v4,b4,v5,v6,v7,hn,rfl,rfl⟩)
 rw[hd1]at hn;cases hn
 obtain rfl:d1=d_:=Option.some.inj (hd1.symm.trans hn)
 refine⟨trivial,?_⟩
 refine E zR (Ap zR zR zR (Ap zR zR zR (Ap zR zR zR (Ap zR zR zR (J zR (J zR (J zR ?_)))))))
 refine J zR (U (V (BL [_] zR Rj RR ET ⟨zR,zT⟩ zR (BL [_] zR Rj RR ET ⟨zR,zT⟩ zR (BL [_] zR Rj RR ET ⟨zR,zT⟩ zR (BL [_] zR Rj RR ET ⟨zR,zT⟩ zR (BL [_] zR Rj RR ET ⟨zR,zT⟩ zR (BL [_,_] zR Rj RR ET ⟨zR,zR,zT⟩ zR ?_))))))))
 refine Bd [_,_,_,_,_,_] rfl Bf Bo ET ⟨rfl,rfl,rfl,rfl,rfl,rfl,trivial⟩ rfl rfl rfl (by first | (simp[Value.cells];done) | (intro v hv;simp only[List.mem_cons,List.not_mem_nil,or_false]at hv;rcases hv with rfl | rfl | rfl | rfl | rfl | rfl<;>rfl)) rfl rfl (fun _=>trivial) fun b5=>?_
 refine Bi AK 4 ([(⟨1,0,0,[]⟩:AN),(⟨2,0,0,[]⟩:AN),(⟨3,0,0,[]⟩:AN),(⟨4,0,0,[]⟩:AN),(⟨5,0,0,[]⟩:AN),(⟨6,8,0,[]⟩:AN)]:List AN) zR (fun _=>rfl) zR ?_
 refine J zR (U (V ?_))
 obtain⟨y2,hy2,h⟩:=bnd h
 refine E zR (E zR ?_)
 refine AP (vs:=[_,_,_]) (Hin:=[_,_,_,_,_,_,_,_]) (Hr:=_::_::_::_::_::_::_::_) zR zR ⟨zR,zR,zR,zT⟩ eG zR zR (CC (B:=[_]) (Hin:=[_,_,_,_,_,_,_]) fun K' w1 hk hB=>Yy hy2 (hS.keeps hk) (Br (e:=79) (v:=.slice (some ⟨b5,0,none⟩) 6 6) (fun _=>rfl) (hB _ zS)) (Bn.nil (fun _=>rfl))) ?_
 rintro _ _ ⟨_,rfl,v8,rfl,rfl⟩
 refine⟨trivial,?_⟩
 refine E zR (Ap zR zR zR (Ap zR zR zR (J zR (J zR (U (V ?_))))))
 obtain⟨y3,hy3,h⟩:=bnd h
 obtain⟨y4,hy4,h⟩:=bnd h
 refine E zR (E zR (SL.pick [1,0] 2 ?_))
 refine AP (vs:=[_]) (Hin:=[_]) (Hr:=_::_::_::_::_::_::_::_::_::_::_::_::_::_::_::_) zR zR ⟨zR,zT⟩ qH zR zR (CC (B:=[_]) (Hin:=[]) fun K' w1 hk hB=>XE hy3 (Br (e:=72) (v:=v8) (fun _=>rfl) (hB _ zS))) ?_
 rintro _ _ ⟨_,rfl,rfl,rfl⟩
 refine⟨trivial,?_⟩
 refine SL.pick [2,3,4,5,6,7,8,0,1] 9 ?_
 refine AP (vs:=[_,_]) (Hin:=[_,_,_,_,_,_,_]) (Hr:=_::_::_::_::_::_::_::_::_::_) zR zR ⟨zR,zR,zT⟩ pf zR zR ((nE hy4 hS :)) ?_
 rintro _ _ ⟨v9,v10,rfl,rfl⟩
 refine⟨trivial,?_⟩
 refine E zR (Ap zR zR zR (Ap zR zR zR (Ap zR zR zR (J zR (J zR (J zR (U (V ?_))))))))
 obtain⟨y6,hy6,h⟩:=bnd h
 obtain⟨y8,hy8,h⟩:=bnd h
 obtain⟨y10,hy10,h⟩:=bnd h
 refine E zR (E zR ?_)
 refine CU (c:=decide (y2.2.1=0)) 39 3 42 zR (fun hb k=>?_) (fun hb k=>?_) ?_
 refine E zR (O zR Bq (Ad zR zR zR ?_))
 exact k.mono tL
 refine AA zR (AA zR (Ad zR zR zR ?_))
 exact k.mono tL
 refine E zR ?_
 refine CU (c:=decide (y4.2.2=0)) 43 3 46 zR (fun hb k=>?_) (fun hb k=>?_) ?_
 refine E zR (O zR Bq (Ad zR zR zR ?_))
 exact k.mono tL
 refine AA zR (AA zR (Ad zR zR zR ?_))
 exact k.mono tL
 refine E zR ?_
 refine CU (c:=decide ((y2.1.length:Int)=4)) 47 4 51 zR (fun hb k=>?_) (fun hb k=>?_) ?_
 refine E zR (DC 9 zR HG zR zR (O zR Bq (Ad zR zR zR ?_)))
 exact k.mono tL
 refine AA zR (AA zR (AA zR (Ad zR zR zR ?_)))
 exact k.mono tL
 refine E zR ?_
 refine D1 52 4 56 hy6 zR (fun hb hg4 k=>?_) (fun hb k=>?_) ?_
 obtain⟨y5,hy5,hg4⟩:=bnd hg4
 obtain rfl:=Option.some.inj hg4
 refine E zR (E zR (SL.pick [10,0,1,2,3,4,5,6,7,8,9] 11 ?_))
 refine AP (vs:=[_,_]) (Hin:=[_,_]) (Hr:=_::_::_::_::_::_::_::_::_::_::_::_::_::_::_::_::_) zR zR ⟨zR,zR,zT⟩ pq zR zR (CC (B:=[_,_]) (Hin:=[]) fun K' w1 hk hB=>W5 hy5 (Br (e:=79) (v:=.slice (some ⟨b5,0,none⟩) 6 6) (fun _=>rfl) (hB _ zS)) (Br (e:=79) (v:=v9) (fun _=>rfl) (hB _ zS))) ?_
 rintro _ _ ⟨_,rfl,rfl,rfl⟩
 refine⟨trivial,?_⟩
 refine Ad zR zR zR ?_
 exact SL.mono (SL.heap k fun _ hw=>BJ.pick (H:=[_,_,_,_,_,_,_,_,_,_,_,_,_,_,_,_,_,_]) hw [1,2,3,4,5,6,7,8,9,10,0,11,12,13,14,15,16,17] 18 zR) tL
 refine AA zR (AA zR (AA zR (Ad zR zR zR ?_)))
 exact k.mono tL
 refine E zR ?_
 refine D1 57 4 61 hy8 zR (fun hb hg5 k=>?_) (fun hb k=>?_) ?_
 obtain⟨y7,hy7,hg5⟩:=bnd hg5
 obtain rfl:=Option.some.inj hg5
 refine E zR (E zR (SL.pick [9,1,0,2,3,4,5,6,7,8] 10 ?_))
 refine AP (vs:=[_,_]) (Hin:=[_,_]) (Hr:=_::_::_::_::_::_::_::_::_::_::_::_::_::_::_::_::_) zR zR ⟨zR,zR,zT⟩ dU zR zR (CC (B:=[_,_]) (Hin:=[]) fun K' w1 hk hB=>Nv hy7 (Br (e:=72) (v:=v8) (fun _=>rfl) (hB _ zS)) (Br (e:=72) (v:=v10) (fun _=>rfl) (hB _ zS))) ?_
 rintro _ _ ⟨_,rfl,rfl,rfl⟩
 refine⟨trivial,?_⟩
 refine Ad zR zR zR ?_
 exact SL.mono (SL.heap k fun _ hw=>BJ.pick (H:=[_,_,_,_,_,_,_,_,_,_,_,_,_,_,_,_,_,_]) hw [2,1,3,4,5,6,7,8,9,0,10,11,12,13,14,15,16,17] 18 zR) tL
 refine AA zR (AA zR (AA zR (Ad zR zR zR ?_)))
 exact k.mono tL
 refine E zR ?_
 refine D1 62 4 66 hy10 zR (fun hb hg6 k=>?_) (fun hb k=>?_) ?_
 obtain⟨y9,hy9,hg6⟩:=bnd hg6
 obtain rfl:=Option.some.inj hg6
 refine E zR (SL.pick [2,3,4,5,6,7,8,0,1] 9 (AX 7 oK (av hy9) zR ?_))
 refine O zR (Te (b:=4)) ?_
 refine Ad zR zR zR ?_
 exact SL.mono (SL.heap k fun _ hw=>BJ.pick (H:=[_,_,_,_,_,_,_,_,_,_,_,_,_,_,_,_,_,_]) hw [7,8,0,1,2,3,4,5,6,9,10,11,12,13,14,15,16,17] 18 zR) tL
 refine AA zR (AA zR (AA zR (Ad zR zR zR ?_)))
 exact k.mono tL
 refine J zR (U (AM ?_))
 obtain rfl:=Option.some.inj h
 exact AY [] 18 zR zR zR
end

/- Plain functions of the references and the laws, printed from the loaded program, and the walks that show that the program computes them. Condition: the plain function yields. -/
section
variable {K:Nat→Prop}{w0:World}{H:List AT}
end

/- The laws of layer 14, of the plain functions: GroveNone, GroveBack, GroveFull. No program's walk in sight. -/
section
theorem dT{N n:Nat}(h4:4≤N)(hN:N≤4096)(hn:4200≤n):∃w c,Fb n (N:Int)=some (some (v0,d0 N,w,c),true):=by
 obtain⟨r,hr,hrl⟩:=oy h4 hN (show N<n by omega)
 obtain⟨b1,hb1⟩:∃w,Hl n r (EU 1) 1 7=some (some w,0):=by
  unfold Hl
  have hm:Ur 1 (r.blk.length:Int) false=some (List.replicate N false):=by
   unfold Ur
   rw[hrl,if_pos ⟨by omega,by omega,by omega⟩]
   simp
  have h0:Aq (List.replicate N false) 0=some false:=by
   have:=B3 (l:=List.replicate N false) (i:=0) (k:=0) false rfl (by simp;omega)
   rw[this]
   congr 1
   cases N<;>rfl
  have h1:Ek (List.replicate N false) 0 true=some ((List.replicate N false).set 0 true):=HC rfl (by simp;omega)
  have h2:∃x,Aq ((List.replicate N false).set 0 true) 1=some x:=⟨_,B3 (k:=1) false rfl (by simp;omega)⟩
  obtain⟨x,h2⟩:=h2
  have h3:Ek ((List.replicate N false).set 0 true) 1 true=some (((List.replicate N false).set 0 true).set 1 true):=HC rfl (by simp;omega)
  rw[Z6 (EU 1) 1 (by rw[C9];omega) zO,TS zO zO,Y,hm,Y,h0,Y,h1,Y,h2,Y,h3,Y]
  exact⟨_,rfl⟩
 refine⟨b1,r,?_⟩
 have hv:FT (d0 N) (EU 1) 1 7=some (some v0,0):=by
  unfold FT VY
  rw[if_pos (by rw[C9];omega),Y,TS zO zO,B8 (by simp[C9]) (by simp[C9]),Y]
  rfl
 have hring:EE n 1=some (EU 1):=cd 1 zO zO
 unfold Fb
 rw[fg zO zO,Y,Y,hr,Y,Y]
 show(EE n 1).bind _=_
 rw[hring,Y]
 show(FT (d0 N) (EU 1) 1 7).bind _=_
 rw[hv,Y,Y,Y,hb1,Y,Y]
 rfl
theorem dZ{n:Nat}(l:List AN)(hn:l.length<n)(hb:l.length≤1000000):IM n l l=some true:=by
 unfold IM
 rw[show(!decide ((l.length:Int)=(l.length:Int)))=false by simp,cond_false]
 unfold JT
 refine Cq (fun i=>(i:Int)) l.length (fun i hi k=>?_) (fun k=>?_) hn
 unfold Fz
 have h1:Aq l (i:Int)=some l[i]:=by rw[JY];exact List.getElem?_eq_getElem hi
 rw[decide_eq_true zO,cond_true,h1,Y,Y,A7,BD zO zO]
 simp
 unfold Fz
 rw[decide_eq_false zO,cond_false]
 rfl
theorem Qe{n:Nat}(l:List A5)(hn:l.length<n)(hb:l.length≤1000000):Gz n l l=some true:=by
 unfold Gz
 rw[show(!decide ((l.length:Int)=(l.length:Int)))=false by simp,cond_false]
 unfold JZ
 refine Cq (fun i=>(i:Int)) l.length (fun i hi k=>?_) (fun k=>?_) hn
 unfold F3
 have h1:Aq l (i:Int)=some l[i]:=by rw[JY];exact List.getElem?_eq_getElem hi
 rw[decide_eq_true zO,cond_true,h1,Y,Y,A7,BD zO zO]
 simp
 unfold F3
 rw[decide_eq_false zO,cond_false]
 rfl
theorem e9(l:List AN):Gf l=some (l.take 24):=by
 unfold Gf
 have h0:JB l 0 (min (l.length:Int) 24)=some ((l.drop 0).take (min l.length 24-0)):=Nc rfl zO zO zO
 rw[h0,Y]
 simp only[List.drop_zero,Nat.sub_zero]
 congr 1
 rcases Nat.le_total l.length 24 with h | h
 rw[Nat.min_eq_left h,List.take_of_length_le (Nat.le_refl _),List.take_of_length_le h]
 rw[Nat.min_eq_right h]
theorem cS(l:List AN):(l.take 24).length≤24:=by simp;omega
theorem j7(N:Nat):Pg N v0:=⟨List.nodup_nil,fun e he=>by simp[v0]at he⟩
theorem dr{n:Nat}{T:List UInt32}{N c0:Nat}{R:List BC}{g:UInt32}{vb:BX}{db:A8}{q:N4}{l:List AN}{t:BO}{out:List A5}{r:Af}(hn:2110≤n)(hl:CZ l=true)(hb:Im n l=some (t,0))(hT:Tr n l t)(hR:Og n t out r)
(S:bT N c0 R g vb db q)(hrd:∀s∈out,Rd T R N q.v q.d s)(ho:out.length=Lg n t):IJ out=some r∧T7 n T q.v q.d r=some (l,out,0):=by
 have hpg:=PO hT (GV hl)
 have hl1:=GV hl
 constructor
 obtain⟨a,s,rfl⟩:=hR.lastE
 simp only[List.length_append,List.length_singleton]at ho
 exact jw zO
 exact jb hn hl hb hT hR (fun s hs=>⟨((hrd s hs).ok S.vs).1,((hrd s hs).ok S.vs).2.1⟩) zO
theorem cU{T:List UInt32}{th:List (HU×Af)}(hth:∀k:HU,Cm th k=none):∀(seg:List A5) (q q':N4),MG (LS T th) q seg q'→q'.tk.length=q.tk.length+seg.length
 | [],q,q',h=>by rw[show q=q' from h];rfl
 | s::seg,q,q',h=>by
  obtain⟨q1,h1,h2⟩:=h
  have ih:=cU hth seg q1 q' h2
  unfold LS at h1
  obtain⟨k,hk,h1⟩:=bnd h1
  rw[hth k,show(none:Option Af).isSome=false from rfl,cond_false]at h1
  obtain⟨y,hy,h1⟩:=bnd h1
  cases he:decide (y.2.1=0)with
  | true=>
   rw[he,cond_true]at h1
   obtain⟨l,hl,h1⟩:=bnd h1
   have h3:=Option.some.inj h1
   have hq:q1=⟨l,y.2.2.1,y.2.2.2⟩:=(congrArg Prod.snd h3).symm
   unfold CT at hl
   split at hl
   have hl:=Option.some.inj hl
   rw[ih,hq,←hl]
   simp only[List.length_append,List.length_cons,List.length_nil]
   omega
   cases hl
  | false=>
   rw[he,cond_false]at h1
   have h3:=congrArg (fun z=>z.1.2) (Option.some.inj h1)
   simp only at h3
   rw[h3]at he
   simp at he
/-! ### What is shown -/
abbrev R0:List AN:=[⟨1,0,0,[]⟩,⟨2,0,0,[]⟩,⟨3,0,0,[]⟩,⟨4,0,0,[]⟩,⟨5,0,0,[]⟩,⟨6,8,0,[]⟩]
abbrev dJ:BO:=.mk 0 0 4 [] [.mk 0 0 0 [⟨1,0,0,[]⟩,⟨2,0,0,[]⟩,⟨3,0,0,[]⟩,⟨4,0,0,[]⟩,⟨5,0,0,[]⟩] [],.mk 8 0 0 [⟨6,8,0,[]⟩] []]
theorem YR:CZ R0=true:=by decide +kernel
end

/- The laws of layer 14, of the plain functions: GroveNone, GroveBack, GroveFull. No program's walk in sight. -/
section
theorem jX{N c:Nat}{R:List BC}{g:UInt32}{v:BX}{d:A8}(V9:VS N c R g v d)(h:v.taken.length≤1000000):KZ v d=some ((N:Int)-2-(v.taken.length:Int)):=by
 have:=V9.dev.nle
 unfold KZ Gq
 rw[Y,A7,V9.dev.blen,BD (x:=(N:Int)-2) zO zO,BD zO zO]
theorem gb{n:Nat}{T:List UInt32}{v:BX}{d:A8}{l:List AN}{had:List A5}(hn:1100≤n)(hl:l.length≤1000)(h:CZ l=false):Hx n T v d l had=some ([],80,v,d):=by
 unfold Hx
 rw[X8 zO zO h,Y]
 rfl
end

/- Plain laws of a tree's pages: no two of them have one text; a tree of one row less has few pages that are new. No program in sight. Condition: as each says. -/
section
/-! ### A tree is told by its rows -/
theorem AR.uniq{c c':BN}{l:List AN}{L L':Nat}(hl:l≠[])(A:AR c l L)(A':AR c' l L'):c=c'∧L=L':=by
 have key:∀ {c c':BN} {L L':Nat},AR c l L→AR c' l L'→¬L<L':=by
  intro c c' L L' A A' h
  obtain⟨r,hr,s,hs,hne⟩:=A'.two zO
  refine hne ?_
  have hd:∀ {a b:Nat},a / 2^L=b / 2^L→a / 2^(L'-1)=b / 2^(L'-1):=by
   intro a b e
   have:2^(L'-1)=2^L*2^(L'-1-L):=by rw[←Nat.pow_add];congr 1;omega
   rw[this,←Nat.div_div_eq_div_mul,←Nat.div_div_eq_div_mul,e]
  unfold qd
  rw[hd ((A.inn r hr).1.trans (A.inn s hs).1.symm),hd ((A.inn r hr).2.trans (A.inn s hs).2.symm)]
 have hL:L=L':=by
  have h1:=key A A'
  have h2:=key A' A
  omega
 subst hL
 refine⟨?_,rfl⟩
 obtain⟨r,hr⟩:=List.exists_mem_of_ne_nil l hl
 have e1:=(A.inn r hr).1.symm.trans (A'.inn r hr).1
 have e2:=(A.inn r hr).2.symm.trans (A'.inn r hr).2
 have m:∀ {a b P:Nat},a%P=0→b%P=0→a / P=b / P→a=b:=by
  intro a b P h1 h2 h3
  have g1:=Nat.div_add_mod a P
  have g2:=Nat.div_add_mod b P
  rw[h1,h3]at g1
  rw[h2]at g2
  omega
 have x:=UInt32.toNat_inj.1 (m A.cx A'.cx e1)
 have y:=UInt32.toNat_inj.1 (m A.cy A'.cy e2)
 have z:=A.lev.trans A'.lev.symm
 cases c
 cases c'
 simp only at x y z
 rw[x,y,z]
theorem UV{R R':List AN→BO→Prop}(h:∀x a b,R x a→R' x b→a=b):∀ {xs:List (List AN)} {as' bs':List BO},P1 R xs as'→P1 R' xs bs'→as'=bs'
 | [],_,_,.nil,.nil=>rfl
 | _::_,_,_,.cons h1 h2,.cons h3 h4=>by rw[h _ _ _ h1 h3,UV h h2 h4]
theorem Tr.uniq:∀ {f f':Nat} {l:List AN} {t t':BO},Tr f l t→Tr f' l t'→t=t'
 | 0,_,_,_,_,h,_=>h.elim
 | _+1,0,_,_,_,_,h=>h.elim
 | f+1,f'+1,l,t,t',h,h'=>by
  rcases h with⟨rfl,rfl⟩ | ⟨hne,c,L,A,h⟩
  rcases h' with⟨_,rfl⟩ | ⟨hne,_⟩
  rfl
  exact absurd rfl hne
  rcases h' with⟨h0,_⟩ | ⟨_,c',L',A',h'⟩
  exact absurd h0 hne
  obtain⟨rfl,rfl⟩:=A.uniq hne A'
  rcases h with⟨h1,rfl⟩ | ⟨h1,h2,ks,rfl,hk⟩
  rcases h' with⟨_,rfl⟩ | ⟨h3,h4,_⟩
  rfl
  omega
  rcases h' with⟨h3,_⟩ | ⟨_,_,ks',rfl,hk'⟩
  omega
  rw[UV (R:=Tr f) (R':=Tr f') (fun x a b ha hb=>Tr.uniq ha hb) hk hk']
/-! ### The pages of a run -/
abbrev rF(s:A5):Af:=⟨s.page,s.tag⟩
structure rK(xs:List Bj)(seg:List A5)(rows:List AN)(roots:List Af):Prop where
 txt:seg.map (·.txt)=xs.map EC
 ok:∀x∈xs,DI x=true
 rws:(xs.flatMap (·.rows)).Perm rows
 rfs:(xs.flatMap d8++roots).Perm (seg.map rF)
end

/- The answer's tree of rows: sphragisref09.tree, Build, SameNode; law14's count of nodes. Condition: the plain functions yield. -/
section
variable {K:Nat→Prop}{w0:World}{H:List AT}
def PM(q:BN):List AN→List AN→Option (List AN)
 | [],acc=>some acc
 | r::l,acc=>(EJ q r.x r.y).bind fun b=>cond b ((CT 32 acc [r]).bind fun a=>PM q l a) (PM q l acc)
def PD(rec_:List AN→Option BO)(c:BN)(l:List AN):Nat→Nat→List BO→Option (List BO)
 | 0,_,acc=>some acc
 | m+1,i,acc=>(Fm c (i:Int)).bind fun q=>(PM q.1 l []).bind fun p=>cond (decide (0<(p.length:Int))) ((rec_ p).bind fun n=>(CT 64 acc [n]).bind fun a=>PD rec_ c l m (i+1) a) (PD rec_ c l m (i+1) acc)
def Nu(n:Nat):Nat→List AN→Option BO
 | 0,_=>none
 | f+1,l=>
  if 1048576<l.length then none else cond (decide ((l.length:Int)=0)) (some (.mk 0 0 0 [] []))
   ((GN n l).bind fun c=>cond (decide ((l.length:Int)≤4)||decide (c.lev=0)) ((YT 32 (l.length:Int)).bind fun _=>(CT 32 [] l).bind fun rs=>some (.mk c.x c.y c.lev rs []))
    ((PD (Nu n f) c l 4 0 []).bind fun ks=>some (.mk c.x c.y c.lev [] ks)))
theorem Xy(n:Nat):∀(f:Nat) {K:Nat→Prop} {w0:World} {H:List AT} {v:Value} {l:List AN} {t:BO},Nu n f l=some t→Bn K w0 AK 4 v l→
  BH Tryz.prog K w0 64 [v] [] H (fun u M=>∃(nv:Dz) (L:FH),u=.agg (Bk nv).toArray∧LH L nv t∧M=[ES L])
 | 0,K,w0,H,v,l,t,h,_=>by cases h
 | f+1,K,w0,H,v,l,t,h,hs=>by
  have h:(if 1048576<l.length then none else cond (decide ((l.length:Int)=0)) (some (.mk 0 0 0 [] []))
   ((GN n l).bind fun c=>cond (decide ((l.length:Int)≤4)||decide (c.lev=0)) ((YT 32 (l.length:Int)).bind fun _=>(CT 32 [] l).bind fun rs=>some (.mk c.x c.y c.lev rs []))
    ((PD (Nu n f) c l 4 0 []).bind fun ks=>some (.mk c.x c.y c.lev [] ks))))=some t:=h
  by_cases hbig:1048576<l.length
  rw[if_pos hbig]at h;cases h
  rw[if_neg hbig]at h
  refine BH.enter Tryz.func64 rfl rfl ?_
  refine V ?_
  refine Ah zR HV (fun _=>trivial) fun b2=>?_
  refine U (AD (V (E zR (Bb hs zR Bf zR (O zR Bq (U ?_))))))
  refine AG zR (fun hc1=>?_) (fun hc1=>?_)
  rw[hc1,cond_true]at h
  obtain rfl:=Option.some.inj h
  refine V (BL [] zR X4 Xo HV zT zR (Am 0 zR zR zR zR G4 zR zR zR zT (U (AM (Ab (VI ?_))))))
  exact AU (Dx zR (BG 1 [Z 0,Z 0,vI 0,.slice none 0 0,.slice none 0 0] Kp zR zR zR zR)) (AV (M:=[_]) ⟨⟨0,0,0,⟨none,0,0⟩,⟨none,0,0⟩⟩,[],zR,.mk (Pe.nil fun _=>rfl) (Pe.nil fun _=>rfl) (kvs:=[]) zR (fun i a b ha=>by simp at ha),zR⟩ fun _ hw=>BJ.pick (H:=[_,_]) hw [0] 2 zR)
  rw[hc1,cond_false]at h
  obtain⟨c,hc,h⟩:=bnd h
  refine AH (AF (V (E zR (AX 0 oJ (U1 hc hs) zR (BL [_] zR X4 Xo HV ⟨zR,zT⟩ zR ?_)))))
  refine Ah zR HV (fun _=>trivial) fun b3=>?_
  refine Am 0 zR zR zR zR G4 zR zR zR zT (U ?_)
  refine A4 [(0,v),(2,vP b2 0),(3,vP b3 0)] (AI b3 (.cells #[Z c.x,Z c.y,vI c.lev,.slice none 0 0,.slice none 0 0] 57)::AI b2 (.cells #[Z 0,Z 0,vI 0,.slice none 0 0,.slice none 0 0] 57)::H) ?_ tL
  refine AD (V (E zR (Bb hs zR Bf zR (O zR Gs (E zR ?_)))))
  refine C1 (c:=decide (c.lev=0)) 20 5 25 zR (fun hb k=>?_) (fun hb k=>?_) ?_
  refine AA zR (AA zR (AA zR (AA zR (Ad zR zR zR ?_))))
  exact k.mono tL
  refine AB zR Mk (AB zR Dg (AC 0 DT zR (O zR Bq (Ad zR zR zR ?_))))
  exact k.mono tL
  refine U ?_
  refine AG zR (fun hc2=>?_) (fun hc2=>?_)
  rw[hc2,cond_true]at h
  obtain⟨u0,hu0,h⟩:=bnd h
  obtain⟨rs,hrs,h⟩:=bnd h
  obtain rfl:=Option.some.inj h
  refine V (E zR (Bb hs zR Bf zR ?_))
  refine mF hu0 AK zR Bf Bo Rh ET zR zR zR (fun _=>trivial) fun v0=>?_
  refine E zR ?_
  refine SS 0 hrs hs (sz:=4) (enc:=AK) (fun _=>rfl) zR Bf Bo Rh ET zR zD zR zR zR (by simp[AK,Value.oneCell']) (fun _=>trivial) fun v1=>?_
  refine AB zR Q0 ?_
  refine B6 0 zR fun hv1 ho1=>?_
  refine DW 1 zR zR zR zR Ki hv1 ho1 zR zT (U (V (Aa [Z c.x,Z c.y,vI c.lev,v1,.slice none 0 0] zR Kp zR zR (AZ 1 zR) ?_)))
  refine P5 0 zR fun s0 hs0=>?_
  subst hs0
  refine Am 2 zR zR zR zR G4 zR (List.all_eq_true.2 (Gc ⟨c.x,c.y,c.lev,s0,⟨none,0,0⟩⟩)) zR zT (U (AM (Ab ?_)))
  refine PK (fun _=>rfl) fun L hL=>?_
  exact AU (Dx zR (BG 2 [Z c.x,Z c.y,vI c.lev,s0.val,.slice none 0 0] Kp zR zR zR zR)) (AV (M:=[_]) ⟨⟨c.x,c.y,c.lev,s0,⟨none,0,0⟩⟩,L,zR,.mk hL (Pe.nil fun _=>rfl) (kvs:=[]) zR (fun i a b ha=>by simp at ha),zR⟩ fun _ hw=>BJ.pick (H:=[_,_,_]) hw [0] 3 zR)
  rw[hc2,cond_false]at h
  obtain⟨ks,hks,h⟩:=bnd h
  obtain rfl:=Option.some.inj h
  refine AH (AF (AD (V (J zR (U (OY 57 5 Bk (fT (AL ?_))))))))
  refine SX.mono (Ay (α:=Nat×List Dz×List BO×Value×FH) (fun x=>x.1≤4∧PD (Nu n f) c l (4-x.1) x.1 x.2.2.1=some ks∧Qt x.2.2.2.2 x.2.1 x.2.2.1) (fun x=>[(0,v),(2,vP b2 0),(3,vP b3 0),(4,vI x.1)])
    (fun x=>ES x.2.2.2.2::AE 57 5 x.2.2.2.1 Bk x.2.1::AI b3 (.cells #[Z c.x,Z c.y,vI c.lev,.slice none 0 0,x.2.2.2.1] 57)::AI b2 (.cells #[Z 0,Z 0,vI 0,.slice none 0 0,.slice none 0 0] 57)::H)
    (fun x=>4-x.1) (fun x D hp=>?_) (0,[],[],.slice none 0 0,[]) ⟨Nat.zero_le _,hks,rfl,fun i a b ha=>by simp at ha⟩) tL
  obtain⟨i,gs,ks',kv,L⟩:=x
  obtain⟨hi,hkf,hkz⟩:=hp
  dsimp only at hi hkf hkz ⊢
  refine AD (V (E zR (O zR Ao (U ?_))))
  refine AG zR (fun hc4=>?_) (fun hc4=>?_)
  have hlt:i<4:=by have:=of_decide_eq_true hc4;omega
  clear hc4
  rw[show 4-i=(4-(i+1))+1 by omega]at hkf
  obtain⟨⟨q,eq⟩,hq,hkf⟩:=bnd hkf
  obtain⟨p,hpt,hkf⟩:=bnd hkf
  dsimp only at hpt
  refine AH (AF (AD (AL (V (AB rfl Mk (Aa [Z c.x,Z c.y,vI c.lev] rfl Dm rfl rfl (CG 2 rfl (by rintro(_ | _ | _ | j) u hj<;>first | exact hj | exact absurd hj zS)) (E rfl (AX 0 oZ (T0 hq :) rfl (E rfl (Ap rfl rfl rfl (Ap rfl rfl rfl ?_)))))))))))
  refine Ah zR It (fun _=>trivial) fun b5=>?_
  refine Am 0 zR zR zR zR Na zR zR zR zT (J zR (U (V (J zR (U (OY 79 4 AK (AD (V (J zR (U (AL ?_)))))))))))
  refine SX.mono (Ay (α:=Nat×List AN×Value) (fun x=>x.1≤l.length∧PM q (l.drop x.1) x.2.1=some p) (fun x=>[(0,v),(2,vP b2 0),(3,vP b3 0),(4,vI i),(5,vP b5 0),(7,x.2.2),(8,vI x.1)])
   (fun x=>AE 79 4 x.2.2 AK x.2.1::AI b5 (.cells #[Z q.x,Z q.y,vI q.lev] 54)::ES L::AE 57 5 kv Bk gs::AI b3 (.cells #[Z c.x,Z c.y,vI c.lev,.slice none 0 0,kv] 57)::AI b2 (.cells #[Z 0,Z 0,vI 0,.slice none 0 0,.slice none 0 0] 57)::H)
   (fun x=>l.length-x.1) (fun x D hp=>?_) (0,[],.slice none 0 0) ⟨Nat.zero_le _,hpt⟩) tL
  obtain⟨k,acc,vp⟩:=x
  obtain⟨hk,hp⟩:=hp
  dsimp only at hk hp ⊢
  refine AD (V (E zR (E zR (Bb hs zR Bf zR (O zR Ao (U ?_))))))
  refine AG zR (fun hc5=>?_) (fun hc5=>?_)
  have hkl:k<l.length:=by have:=of_decide_eq_true hc5;omega
  have hr:Aq l (k:Int)=some l[k]:=by simp[Aq,hkl]
  rw[List.drop_eq_getElem_cons hkl]at hp
  generalize l[k]=r at hr hp
  obtain⟨b,hb,hp⟩:=bnd hp
  refine AH (AF (AD (AL (AD (Aj CJ [1] (BY [(true,0),(true,1),(true,2),(true,3),(true,4),(true,5),(true,6),(true,7),(true,8),(true,9),(true,10),(false,11)] (.last 12 .nil)) zK (Aa [Z q.x,Z q.y,vI q.lev] zR Dm zR zR (AZ 0 zR) (E zR (E zR ?_))))))))
  refine CP hr hs zR Bf Bo zR zR fun be1 of1 hcc1=>?_
  refine AB zR HA ?_
  refine BR zR Az zR (Ck (j:=1) hcc1 zR) ?_
  refine E zR (E zR ?_)
  refine CP hr hs zR Bf Bo zR zR fun be2 of2 hcc2=>?_
  refine AB zR G6 ?_
  refine BR zR Az zR (Ck (j:=2) hcc2 zR) ?_
  refine AP (vs:=[_,_,_]) (Hin:=[]) (Hr:=_::_::_::_::_::_::_) zR zR ⟨zR,zR,zR,zT⟩ eh zR zR (Ow hb :) ?_
  rintro _ _ ⟨rfl,rfl⟩
  refine⟨⟨⟨1,rfl⟩,trivial⟩,?_⟩
  refine BE (J zR (U (V (E zR (U ?_)))))
  refine AG zR (fun hc6=>?_) (fun hc6=>?_)
  replace hp:=cT hc6 hp
  obtain⟨u,hu,hp⟩:=bnd hp
  refine AJ (E zR (E zR (E zR ?_)))
  refine CP hr hs zR Bf Bo zR zR fun be3 of3 hcc3=>?_
  refine Aa (AK r) zR D8 zR zR (Cj hcc3) ?_
  refine Bd [_] zR Bf Bo ET ⟨zR,zT⟩ zR zR zR (by intro v hv;simp only[List.mem_cons,List.not_mem_nil,or_false]at hv;subst hv;rfl) zR zR (fun _=>trivial) fun b7=>?_
  refine Bi AK 4 ([r]:List AN) zR (fun _=>rfl) zR ?_
  refine B7 1 hu (sz:=4) (enc:=AK) (fun _=>rfl) zR Bf Bo Rh ET zR zD zR zR zR zR (Ba (sz:=4) (enc:=AK) 0 (fun _=>rfl) zR) (by simp[AK,Value.oneCell']) (fun _=>trivial) fun v7=>?_
  refine J zR (AS (Ai (AF (AJ (E zR (O zR (BA zO zO) (J zR (AS ?_))))))))
  exact Ac (k+1,u,v7) ⟨hkl,hp⟩ (by dsimp only;omega) tL (fun _ hw=>BJ.pick (H:=[_,_,_,_,_,_,_]) hw [1,2,3,4,5,6] 7 zR)
  replace hp:=cF hc6 hp
  refine AH (Ai (AF (AJ (E zR (O zR (BA zO zO) (J zR (AS ?_)))))))
  exact Ac (k+1,acc,vp) ⟨hkl,hp⟩ (by dsimp only;omega) tL (fun _ h=>h)
  have hle:k=l.length:=by have:=of_decide_eq_false hc5;omega
  subst hle
  rw[List.drop_length]at hp
  obtain rfl:=Option.some.inj hp
  clear hc5
  refine Al (Aw (A9 (Au (AF (V (E zR (DC 0 zR Bf zR zR (O zR CD (U ?_)))))))))
  refine AG zR (fun hc6=>?_) (fun hc6=>?_)
  replace hkf:=cT hc6 hkf
  obtain⟨nd,hnd,hkf⟩:=bnd hkf
  obtain⟨ac,hacc,hkf⟩:=bnd hkf
  refine Aj CJ [4] (BY [(true,0),(true,1),(true,2),(false,3),(false,4),(false,5),(true,6)] (.last 7 .nil)) zK (AB zR Hb (AC 0 Rc zR (E zR ?_)))
  refine AP (vs:=[_]) (Hin:=[_]) (Hr:=_::_::_::_::_::_) zR zR ⟨zR,zT⟩ lA zR zR (CC (B:=[_]) (Hin:=[]) fun K' w1 hk hB=>Xy n f hnd (Br (e:=79) (fun _=>rfl) (hB _ zS))) ?_
  rintro _ _ ⟨_,rfl,nv,L2,rfl,hnz,rfl⟩
  refine⟨⟨⟨5,rfl⟩,trivial⟩,?_⟩
  obtain⟨hg,rfl⟩:=Ot (xs':=gs) (ys':=[nv]) hacc hkz.1 rfl
  refine Bd [_] zR MR G4 HV ⟨zR,zT⟩ zR zR zR (by intro v hv;simp only[List.mem_cons,List.not_mem_nil,or_false]at hv;subst hv;rfl) zR zR (fun _=>⟨⟨6,zR⟩,zT⟩) fun b7=>?_
  refine Bi Bk 5 ([nv]:List Dz) zR (fun _=>rfl) zR ?_
  refine B7 5 hg (sz:=5) (enc:=Bk) (fun _=>rfl) zR MR G4 cC HV zR zD zR zR zR zR (Ba (sz:=5) (enc:=Bk) 0 (fun _=>rfl) zR) Gc (fun _=>⟨⟨6,zR⟩,zT⟩) fun v7=>?_
  refine AB zR Hb (BE ?_)
  refine B6 5 zR fun hv7 ho7=>?_
  refine DW 6 zR zR zR zR c9 hv7 ho7 zR zT (AS (Ai (AF ?_)))
  refine SX.heap (H':=ES L::ES L2::AE 57 5 v7 Bk (gs++[nv])::AI b3 (.cells #[Z c.x,Z c.y,vI c.lev,.slice none 0 0,v7] 57)::AI b2 (.cells #[Z 0,Z 0,vI 0,.slice none 0 0,.slice none 0 0] 57)::H) (NQ ?_) (fun _ hw=>BJ.pick (H:=[_,_,_,_,_,_,_,_]) hw [4,2,5,6,7] 8 zR)
  refine AJ (E zR (O zR (BA zO zO) (J zR (AS ?_))))
  exact Ac (i+1,gs++[nv],ks'++[nd],v7,L++L2) ⟨by omega,hkf,(hkz.mono fun p hp=>List.mem_append_left _ hp).snoc (hnz.mono fun p hp=>List.mem_append_right _ hp)⟩ (by dsimp only;omega) tL (fun _ h=>h)
  replace hkf:=cF hc6 hkf
  refine AH (Ai (AF (AJ (E zR (O zR (BA zO zO) (J zR (AS ?_)))))))
  exact Ac (i+1,gs,ks',kv,L) ⟨by omega,hkf,hkz⟩ (by dsimp only;omega) tL (fun _ hw=>BJ.pick (H:=[_,_,_,_,_,_]) hw [2,3,4,5] 6 zR)
  have hle:i=4:=by have:=of_decide_eq_false hc4;omega
  subst hle
  obtain rfl:=Option.some.inj (show some ks'=some ks from hkf)
  refine Al (Aw (A9 (Au (AF (V (Aa [Z c.x,Z c.y,vI c.lev,.slice none 0 0,kv] zR Kp zR zR (AZ 2 zR) ?_))))))
  refine P5 1 zR fun s0 hs0=>?_
  subst hs0
  refine Am 3 zR zR zR zR G4 zR (List.all_eq_true.2 (Gc ⟨c.x,c.y,c.lev,⟨none,0,0⟩,s0⟩)) zR zT (U (AM ?_))
  refine SQ.heap (H':=AE 57 5 s0.val Bk gs::ES L::AI b2 (.cells #[Z c.x,Z c.y,vI c.lev,.slice none 0 0,s0.val] 57)::H) (PK (fun _=>rfl) fun Lk hLk=>?_) (fun _ hw=>BJ.pick (H:=[_,_,_,_]) hw [1,0,3] 4 zR)
  refine Vs ?_
  exact AU (Dx zR (BG 1 [Z c.x,Z c.y,vI c.lev,.slice none 0 0,s0.val] Kp zR zR zR zR)) (AV (M:=[_]) ⟨⟨c.x,c.y,c.lev,⟨none,0,0⟩,s0⟩,Lk++L,zR,.mk (Pe.nil fun _=>rfl) (hLk.mono fun p hp=>List.mem_append_left _ hp) hkz.1 (fun i a b ha hb=>(hkz.2 i a b ha hb).mono fun p hp=>List.mem_append_right _ hp),zR⟩ fun _ hw=>BJ.pick (H:=[_,_]) hw [0] 2 zR)
def NH(n:Nat)(l:List AN):Option (BO×Int):=
 (E2 n l).bind fun r=>cond (!r) (some (.mk 0 0 0 [] [],80)) ((Nu n n l).bind fun t=>some (t,0))
theorem eQ{n:Nat}{v:Value}{l:List AN}{r:BO×Int}(h:NH n l=some r)(hs:Bn K w0 AK 4 v l):
  BH Tryz.prog K w0 26 [v] [] H (fun u M=>∃(nv:Dz) (L:FH),u=.tuple #[.agg (Bk nv).toArray,vI r.2]∧LH L nv r.1∧M=[ES L]):=by
 unfold NH at h
 obtain⟨y,hy,h⟩:=bnd h
 refine BH.enter Tryz.func26 rfl rfl ?_
 refine V ?_
 refine Ah zR HV (fun _=>trivial) fun b2=>?_
 refine J zR (U (V (E zR (AX 0 jc (Qj hy hs) zR (J zR (U (AD (V (E zR (B9 zR zR (U ?_)))))))))))
 refine AG zR (fun hc=>?_) (fun hc=>?_)
 rw[hc,cond_true]at h
 obtain rfl:=Option.some.inj h
 refine V (BL [] zR X4 Xo HV zT zR (Am 0 zR zR zR zR G4 zR zR zR zT (J zR (U (AM (Ab (VI ?_)))))))
 exact AU (Dq zR (BG 1 [Z 0,Z 0,vI 0,.slice none 0 0,.slice none 0 0] Kp zR zR zR zR) zR) (AV (M:=[_]) ⟨⟨0,0,0,⟨none,0,0⟩,⟨none,0,0⟩⟩,[],zR,.mk (Pe.nil fun _=>rfl) (Pe.nil fun _=>rfl) (kvs:=[]) zR (fun i a b ha=>by simp at ha),zR⟩ fun _ hw=>BJ.pick (H:=[_,_]) hw [0] 2 zR)
 rw[hc,cond_false]at h
 obtain⟨t,ht,h⟩:=bnd h
 obtain rfl:=Option.some.inj h
 refine AH (AF (V (E zR ?_)))
 refine AP (vs:=[_]) (Hin:=[]) (Hr:=_::_) zR zR ⟨zR,zT⟩ lA zR zR (Xy n n ht hs) ?_
 rintro _ _ ⟨nv,L,rfl,hnz,rfl⟩
 refine⟨trivial,?_⟩
 refine Am 1 zR zR zR zR G4 zR (List.all_eq_true.2 (Gc nv)) zR zT (J zR (U (AM ?_)))
 exact AU (Dq zR (BG 1 (Bk nv) Kp zR zR zR zR) zR) (AV (M:=[_]) ⟨nv,L,zR,hnz,zR⟩ fun _ hw=>BJ.pick (H:=[_,_]) hw [0] 2 zR)
end

/- law14.GroveFew, walked. Condition: what its calls give is known. -/
section
variable {K:Nat→Prop}{w0:World}{H:List AT}
end

/- Plain laws of the answer's cells: sphragisref08.Has, Quarter, sphragisref09.around. No program's walk in sight. Condition: as each says. -/
section
theorem VD{c:BN}{L:Nat}(h:c.lev=(L:Int))(hL:L≤31):Et c=some (shl64 1 L):=by
 unfold Et
 rw[h,F5 zO,A7]
theorem aM{x:UInt32}{L:Nat}(hL:L≤31):TU x.toUInt64 (shl64 1 L)=some (x.toUInt64%shl64 1 L):=by
 unfold TU
 rw[if_neg]
 intro e
 have h1:=congrArg UInt64.toNat e
 rw[KW hL]at h1
 have:=Nat.two_pow_pos L
 have h2:(0:UInt64).toNat=0:=rfl
 omega
theorem bE{c:BN}{L:Nat}(h:c.lev=(L:Int))(hL:L≤31)(hx:c.x.toNat%2^L=0)(hy:c.y.toNat%2^L=0)(lx:c.x.toNat<2147483648)(ly:c.y.toNat<2147483648):Do c=some true:=by
 unfold Do
 have a:∀x:UInt32,x.toNat<2147483648→decide ((2147483648:UInt32)≤x)=false:=fun x hx=>by
  refine decide_eq_false fun e=>?_
  have h1:=UInt32.le_iff_toNat_le.1 e
  have h5:(2147483648:UInt32).toNat=2147483648:=rfl
  omega
 rw[a _ lx,a _ ly,h,decide_eq_false (show ¬(L:Int)<0 by omega),decide_eq_false (show ¬31<(L:Int) by omega)]
 simp only[Bool.or_false,cond_false]
 have z:∀x:UInt32,x.toNat%2^L=0→decide (x.toUInt64%shl64 1 L=0)=true:=fun x hx=>by
  rw[decide_eq_true_eq,←UInt64.toNat_inj,UInt64.toNat_mod,UInt32.toNat_toUInt64,KW hL,hx]
  rfl
 rw[VD h hL,Y,aM hL,Y,z _ hx]
 unfold Ed
 rw[cond_true,Y,aM hL,Y,z _ hy]
 rfl
def WT(c:BN)(L:Nat)(x y:UInt32):Bool:=decide (x.toNat / 2^L=c.x.toNat / 2^L)&&decide (y.toNat / 2^L=c.y.toNat / 2^L)
theorem iv{q:BN}{M:Nat}(x y:UInt32)(h:q.lev=(M:Int))(hM:M≤31)(hx:q.x.toNat%2^M=0)(hy:q.y.toNat%2^M=0)(lx:q.x.toNat<2147483648)(ly:q.y.toNat<2147483648):
  EJ q x y=some (WT q M x y):=by
 have hp:=Nat.two_pow_pos M
 unfold EJ WT
 rw[bE h hM hx hy lx ly,Y,VD h hM,Y,Y]
 have key:∀a b:UInt32,b.toNat%2^M=0→b.toNat<2147483648→decide (a.toNat / 2^M=b.toNat / 2^M)=(decide (b≤a)&&decide (a.toUInt64<b.toUInt64+shl64 1 M)):=by
  intro a b hb lb
  have e:(b.toUInt64+shl64 1 M).toNat=b.toNat+2^M:=by
   have h1:=KW hM
   have h2:2^M≤2^31:=Nat.pow_le_pow_right zD hM
   rw[UInt64.toNat_add,UInt32.toNat_toUInt64,h1]
   omega
  rw[Bool.eq_iff_iff]
  simp only[Bool.and_eq_true,decide_eq_true_eq,UInt32.le_iff_toNat_le,UInt64.lt_iff_toNat_lt,←Vw hp hb,e,UInt32.toNat_toUInt64]
  omega
 rw[key x q.x hx lx,key y q.y hy ly]
 generalize decide (q.x≤x)=A
 generalize decide (q.y≤y)=B
 generalize decide (x.toUInt64<q.x.toUInt64+shl64 1 M)=C
 generalize decide (y.toUInt64<q.y.toUInt64+shl64 1 M)=D
 cases A<;>cases B<;>cases C<;>cases D<;>rfl
theorem dM{c:BN}{l:List AN}{L:Nat}(A:AR c l L)(h0:0<L){i:Nat}(hi:i<4):∃q,Fm c (i:Int)=some (q,0)∧∀r∈l,EJ q r.x r.y=some (decide (qd L r=i)):=by
 have hL:=A.le
 have hp:=Nat.two_pow_pos (L-1)
 have mx:=On A.cx A.lx (Ll hL)
 have my:=On A.cy A.ly (Ll hL)
 have e2:2^L=2^(L-1)*2:=by rw[←Nat.pow_succ,Nat.succ_eq_add_one,Nat.sub_add_cancel h0]
 have hh:(shl64 1 L / 2).toUInt32.toNat=2^(L-1):=by
  rw[UInt64.toNat_toUInt32,UInt64.toNat_div,KW hL,show(2:UInt64).toNat=2 from rfl,e2,Nat.mul_div_cancel _ zD]
  show _%4294967296=_
  have:2^(L-1)≤2^31:=Nat.pow_le_pow_right zD zO
  exact Nat.mod_eq_of_lt zO
 have half:∀a:Nat,a%2^L=0→a%2^(L-1)=0∧a / 2^(L-1)%2=0:=by
  intro a ha
  rw[e2]at ha
  constructor
  rw[←Nat.mod_mul_right_mod a (2^(L-1)) 2,ha]
  simp
  rw[Nat.mod_mul]at ha
  have h5:2^(L-1)*(a / 2^(L-1)%2)=0:=by omega
  rcases Nat.mul_eq_zero.1 h5 with h6 | h6
  omega
  exact h6
 obtain⟨hx2,cxe⟩:=half _ A.cx
 obtain⟨hy2,cye⟩:=half _ A.cy
 have gx:=EO (a:=c.x.toNat) h0
 have gy:=EO (a:=c.y.toNat) h0
 generalize hhd:(shl64 1 L / 2).toUInt32=hf at hh
 have hlev:wI (c.lev-1)=((L-1:Nat):Int):=by rw[A.lev,BD zO zO];omega
 have mv:∀(a:UInt32) (b:Nat),b≤1→a.toNat+2^L≤2147483648→(a+hf*Ds (b:Int)).toNat=a.toNat+b*2^(L-1):=by
  intro a b hb ha
  rw[e2]at ha
  rcases(show b=0∨b=1 by omega)with rfl | rfl
  rw[show Ds ((0:Nat):Int)=0 from rfl]
  simp
  rw[show Ds ((1:Nat):Int)=1 from rfl,UInt32.mul_one,UInt32.toNat_add,hh]
  omega
 have fin:∀bx by_:Nat,bx≤1→by_≤1→∀r∈l,EJ ⟨c.x+hf*Ds (bx:Int),c.y+hf*Ds (by_:Int),wI (c.lev-1)⟩ r.x r.y=some (decide (qd L r=bx+2*by_)):=by
  intro bx by_ hbx hby r hr
  obtain⟨i1,i2⟩:=A.inn r hr
  have rx:=EO (a:=r.x.toNat) h0
  have ry:=EO (a:=r.y.toNat) h0
  have e1:=mv c.x bx hbx mx
  have e3:=mv c.y by_ hby my
  generalize c.x+hf*Ds (bx:Int)=qx at e1 ⊢
  generalize c.y+hf*Ds (by_:Int)=qy at e3 ⊢
  have bxl:bx*2^(L-1)≤2^(L-1):=by
   calc bx*2^(L-1)≤1*2^(L-1):=Nat.mul_le_mul_right _ hbx
    _=2^(L-1):=Nat.one_mul _
  have byl:by_*2^(L-1)≤2^(L-1):=by
   calc by_*2^(L-1)≤1*2^(L-1):=Nat.mul_le_mul_right _ hby
    _=2^(L-1):=Nat.one_mul _
  rw[iv (M:=L-1) r.x r.y (show wI (c.lev-1)=_ from hlev) zO (show qx.toNat%_=0 by rw[e1,Nat.add_mul_mod_self_right];exact hx2) (show qy.toNat%_=0 by rw[e3,Nat.add_mul_mod_self_right];exact hy2) (show qx.toNat<_ by rw[e1];omega) (show qy.toNat<_ by rw[e3];omega)]
  have f1:qx.toNat / 2^(L-1)=c.x.toNat / 2^(L-1)+bx:=by rw[e1];exact Nat.add_mul_div_right _ _ hp
  have f2:qy.toNat / 2^(L-1)=c.y.toNat / 2^(L-1)+by_:=by rw[e3];exact Nat.add_mul_div_right _ _ hp
  congr 1
  unfold WT qd
  rw[Bool.eq_iff_iff]
  simp only[Bool.and_eq_true,decide_eq_true_eq,f1,f2]
  omega
 have run:∀bx by_:Nat,Pd (i:Int) 2=some (bx:Int)→RX (i:Int) 2=some (by_:Int)→Fm c (i:Int)=some (⟨c.x+hf*Ds (bx:Int),c.y+hf*Ds (by_:Int),wI (c.lev-1)⟩,0):=by
  intro bx by_ h1 h2
  unfold Fm
  rw[bE A.lev A.le A.cx A.cy A.lx A.ly,Y,show(((!true||decide (c.lev=0))||decide ((i:Int)<0))||decide (3<(i:Int)))=false by rw[A.lev];simp;omega,cond_false,VD A.lev hL,Y]
  unfold N1
  rw[if_neg zD,Y,h1,Y,h2,Y,hhd]
 rcases(show i=0∨i=1∨i=2∨i=3 by omega)with rfl | rfl | rfl | rfl
 exact⟨_,run 0 0 rfl rfl,fin 0 0 zO zO⟩
 exact⟨_,run 1 0 rfl rfl,fin 1 0 zO zO⟩
 exact⟨_,run 0 1 rfl rfl,fin 0 1 zO zO⟩
 exact⟨_,run 1 1 rfl rfl,fin 1 1 zO zO⟩
/-! ### The least cell -/
structure IC(c:BN)(l:List AN)(L:Nat):Prop where
 lev:c.lev=(L:Int)
 le:L≤31
 cx:c.x.toNat%2^L=0
 cy:c.y.toNat%2^L=0
 lx:c.x.toNat<2147483648
 ly:c.y.toNat<2147483648
 inn:∀r∈l,r.x.toNat / 2^L=c.x.toNat / 2^L∧r.y.toNat / 2^L=c.y.toNat / 2^L
theorem AR.ic{c:BN}{l:List AN}{L:Nat}(A:AR c l L):IC c l L:=⟨A.lev,A.le,A.cx,A.cy,A.lx,A.ly,A.inn⟩
theorem IC.has{c:BN}{l:List AN}{L:Nat}(I:IC c l L)(x y:UInt32):EJ c x y=some (WT c L x y):=iv x y I.lev I.le I.cx I.cy I.lx I.ly
theorem Sy{S:List AN}{far r0:AN}(h0:r0∈S)(okf:FF far=true)(a1:Int)(nx:UInt32×UInt32×Int×Int→Option BN):
  ∀(k m:Nat) (c:BN) (L:Nat),31-L≤k→k<m→IC c S L→(0<L→(∃r∈S,∃s∈S,qd L r≠qd L s)∨¬(far.x.toNat / 2^(L-1)=r0.x.toNat / 2^(L-1)∧far.y.toNat / 2^(L-1)=r0.y.toNat / 2^(L-1)))→
   ∃c' L',AR c' (S++[far]) L'∧Eg a1 far nx m (c.x,c.y,(L:Int),WT c L far.x far.y)=Fy a1 nx c'.x c'.y c'.lev
 | _,0,_,_,_,h,_,_=>absurd h (Nat.not_lt_zero _)
 | k,m+1,c,L,hk,hm,I,ht=>by
  have e:Eg a1 far nx (m+1) (c.x,c.y,(L:Int),WT c L far.x far.y)=Ex a1 far nx (Eg a1 far nx m) c.x c.y L (WT c L far.x far.y):=rfl
  rw[e]
  unfold Ex
  obtain⟨i1,i2⟩:=I.inn r0 h0
  cases hb:WT c L far.x far.y with
  | true=>
   unfold WT at hb
   simp only[Bool.and_eq_true,decide_eq_true_eq]at hb
   refine⟨c,L,⟨I.lev,I.le,I.cx,I.cy,I.lx,I.ly,fun r hr=>?_,fun h=>?_⟩,?_⟩
   rcases List.mem_append.1 hr with hr | hr
   exact I.inn r hr
   rw[List.mem_singleton.1 hr]
   exact hb
   rcases ht h with⟨r,hr,s,hs,hne⟩ | hne
   exact⟨r,List.mem_append_left _ hr,s,List.mem_append_left _ hs,hne⟩
   refine⟨r0,List.mem_append_left _ h0,far,by simp,fun e=>hne ?_⟩
   have g1:=EO (a:=r0.x.toNat) h
   have g2:=EO (a:=r0.y.toNat) h
   have g3:=EO (a:=far.x.toNat) h
   have g4:=EO (a:=far.y.toNat) h
   unfold qd at e
   omega
   rw[Bool.not_true,cond_false,I.lev]
  | false=>
   have hfar:=LU okf
   have hL:L<31:=by
    rcases Nat.lt_or_ge L 31 with h | h
    exact h
    have:L=31:=by have:=I.le;omega
    subst this
    unfold WT at hb
    rw[Nat.div_eq_of_lt (show far.x.toNat<2^31 from hfar.1),Nat.div_eq_of_lt (show far.y.toNat<2^31 from hfar.2.1),Nat.div_eq_of_lt (show c.x.toNat<2^31 from I.lx),Nat.div_eq_of_lt (show c.y.toNat<2^31 from I.ly)]at hb
    simp at hb
   have hX:∀x:UInt32,(shl64 (shr64 x.toUInt64 (L+1)) (L+1)).toUInt32.toNat=x.toNat / 2^(L+1)*2^(L+1):=by
    intro x
    have hlt:=x.toNat_lt
    have h1:x.toNat / 2^(L+1)*2^(L+1)≤x.toNat:=Nat.div_mul_le_self _ _
    have h2:(shr64 x.toUInt64 (L+1)).toNat=x.toNat / 2^(L+1):=by
     unfold shr64
     rw[UInt64.toNat_ofNat',Nat.min_eq_left zO,UInt32.toNat_toUInt64]
     exact Nat.mod_eq_of_lt (Nat.lt_of_le_of_lt (Nat.div_le_self _ _) zO)
    rw[UInt64.toNat_toUInt32]
    unfold shl64
    rw[UInt64.toNat_ofNat',Nat.min_eq_left zO,h2]
    omega
   have hpp:=Nat.two_pow_pos (L+1)
   have up:∀a:Nat,a / 2^(L+1)=a / 2^L / 2:=fun a=>by rw[Nat.div_div_eq_div_mul,←Nat.pow_succ]
   have I':IC ⟨(shl64 (shr64 c.x.toUInt64 (L+1)) (L+1)).toUInt32,(shl64 (shr64 c.y.toUInt64 (L+1)) (L+1)).toUInt32,((L+1:Nat):Int)⟩ S (L+1):=by
    refine⟨rfl,by omega,?_,?_,?_,?_,fun r hr=>?_⟩
    show(shl64 _ _).toUInt32.toNat%_=0
    rw[hX]
    exact Nat.mul_mod_left _ _
    show(shl64 _ _).toUInt32.toNat%_=0
    rw[hX]
    exact Nat.mul_mod_left _ _
    show(shl64 _ _).toUInt32.toNat<_
    rw[hX]
    exact Nat.lt_of_le_of_lt (Nat.div_mul_le_self _ _) I.lx
    show(shl64 _ _).toUInt32.toNat<_
    rw[hX]
    exact Nat.lt_of_le_of_lt (Nat.div_mul_le_self _ _) I.ly
    show _=(shl64 _ _).toUInt32.toNat / _∧_=(shl64 _ _).toUInt32.toNat / _
    rw[hX,hX,Nat.mul_div_cancel _ hpp,Nat.mul_div_cancel _ hpp,up,up,up,up,(I.inn r hr).1,(I.inn r hr).2]
    exact⟨rfl,rfl⟩
   have hk1:31-(L+1)≤k-1:=by clear ht;omega
   have hk2:k-1<m:=by clear ht;omega
   obtain⟨c',L',A,e2⟩:=Sy h0 okf a1 nx (k-1) m _ (L+1) hk1 hk2 I' (fun _=>.inr (by
    rw[Nat.add_sub_cancel,i1,i2]
    intro hc
    unfold WT at hb
    rw[hc.1,hc.2]at hb
    simp at hb))
   refine⟨c',L',A,?_⟩
   have hw:wI ((L:Int)+1)=((L+1:Nat):Int):=by rw[BD zO zO];omega
   rw[Bool.not_false,cond_true,hw,F5 zO,I'.has,Y]
   exact e2
theorem Vb{n:Nat}{l:List AN}(hl:l≠[])(hn:l.length<n)(hn2:40≤n)(hb:l.length≤1000000)(ok:∀r∈l,FF r=true):∃c L,GN n l=some c∧AR c l L:=by
 have key:∀(T S:List AN) (c:BN) (L:Nat),l=S++T→S≠[]→AR c S L→∀m,T.length<m→∃c' L',CX n l m (c.x,c.y,c.lev,(S.length:Int))=some c'∧AR c' l L':=by
  intro T
  induction T with
  | nil=>
   intro S c L hS hne A m hm
   obtain⟨m,rfl⟩:∃k,m=k+1:=⟨m-1,by omega⟩
   simp only[List.append_nil]at hS
   subst hS
   refine⟨c,L,?_,A⟩
   show DM n l (CX n l m) _ _ _ _=_
   unfold DM
   dsimp only
   rw[decide_eq_false zO,cond_false]
   rfl
  | cons r T ih=>
   intro S c L hS hne A m hm
   obtain⟨m,rfl⟩:∃k,m=k+1:=⟨m-1,by omega⟩
   have hlen:l.length=S.length+(T.length+1):=by rw[hS];simp
   have hr:r∈l:=by rw[hS];simp
   have n1:Aq l (S.length:Int)=some r:=by
    rw[DK rfl,hS]
    simp
   obtain⟨r0,hr0⟩:=List.exists_mem_of_ne_nil S hne
   have hA0:=A.two
   obtain⟨c',L',A',e⟩:=Sy hr0 (ok r hr) (S.length:Int) (CX n l m) 31 n c L zO zO A.ic (fun h=>.inl (hA0 h))
   obtain⟨c2,L2,h1,h2⟩:=ih (S++[r]) c' L' (by rw[hS];simp) zS A' m (by simp at hm;omega)
   refine⟨c2,L2,?_,h2⟩
   show DM n l (CX n l m) _ _ _ _=_
   unfold DM
   dsimp only
   rw[decide_eq_true zO,cond_true,n1,Y,show(⟨c.x,c.y,c.lev⟩:BN)=c from rfl,A.ic.has,Y,A.lev,e]
   unfold Fy
   rw[A7,BD zO zO]
   rw[show((S++[r]).length:Int)=(S.length:Int)+1 by simp only[List.length_append,List.length_singleton];omega]at h1
   exact h1
 obtain⟨r0,l0,rfl⟩:∃r0 l0,l=r0::l0:=by
  cases l with
  | nil=>exact absurd rfl hl
  | cons r0 l0=>exact⟨r0,l0,rfl⟩
 have h0:=LU (ok r0 zS)
 obtain⟨c,L,hc,hA⟩:=key l0 [r0] ⟨r0.x,r0.y,0⟩ 0 rfl zS ⟨rfl,by omega,by simp[Nat.mod_one],by simp[Nat.mod_one],h0.1,h0.2.1,fun r hr=>by rw[List.mem_singleton.1 hr];exact⟨rfl,rfl⟩,fun h=>absurd h (Nat.lt_irrefl _)⟩ n (by simp at hn;omega)
 refine⟨c,L,?_,hA⟩
 unfold GN
 have n0:Aq (r0::l0) 0=some r0:=rfl
 rw[n0,Y,Y]
 exact hc
end

/- Plain laws of the answer's tree, and of GroveFew. No program's walk in sight. Condition: as each says. -/
section
theorem Rs{q:BN}{l:List AN}{L i:Nat}(hq:∀r∈l,EJ q r.x r.y=some (decide (qd L r=i))):∀(T acc:List AN),(∀r∈T,r∈l)→acc.length+T.length≤100000→PM q T acc=some (acc++T.filter fun r=>decide (qd L r=i))
 | [],acc,_,_=>by simp[PM]
 | r::T,acc,hT,hb=>by
  simp only[List.length_cons]at hb
  unfold PM
  rw[hq r (hT r zS),Y]
  cases hd:decide (qd L r=i)with
  | false=>
   rw[cond_false,Rs hq T acc (fun s hs=>hT s (by simp[hs])) zO]
   simp[hd]
  | true=>
   rw[cond_true,B8 (by simp;omega) (by simp;omega),Y,Rs hq T _ (fun s hs=>hT s (by simp[hs])) (by simp;omega)]
   simp[hd]
theorem VN{rec_:List AN→Option BO}{c:BN}{l:List AN}{L:Nat}(A:AR c l L)(h0:0<L)(hb:l.length≤1000):∀(m i:Nat) (acc:List BO),i+m=4→
  PD rec_ c l m i acc=Di rec_ ((List.range' i m).map fun j=>l.filter fun r=>decide (qd L r=j)) acc
 | 0,_,_,_=>rfl
 | m+1,i,acc,h=>by
  obtain⟨q,h1,h2⟩:=dM A h0 (i:=i) zO
  unfold PD
  rw[h1,Y,Rs h2 l [] (fun r hr=>hr) (by simp;omega),Y,List.range'_succ,List.map_cons,List.nil_append]
  unfold Di
  simp only[VN A h0 hb m (i+1) _ zO]
theorem V6{n:Nat}(hn2:40≤n):∀(f:Nat) (l:List AN),l.length<f→(∀r∈l,FF r=true)→l.length≤1000→l.length<n→∃t,Nu n f l=some t∧Tr f l t
 | 0,l,h,_,_,_=>by omega
 | f+1,l,h,ok,hb,hn=>by
  unfold Nu
  rw[if_neg zO]
  by_cases hl:l=[]
  subst hl
  exact⟨.mk 0 0 0 [] [],rfl,.inl ⟨rfl,rfl⟩⟩
  have hp:=List.length_pos_iff.2 hl
  obtain⟨c,L,hc,A⟩:=Vb hl hn hn2 zO ok
  rw[decide_eq_false zO,cond_false,hc,Y]
  by_cases hleaf:l.length≤4∨L=0
  rw[show(decide ((l.length:Int)≤4)||decide (c.lev=0))=true by rw[A.lev];simp;omega,cond_true]
  have hcap:YT 32 (l.length:Int)=some ():=by
   unfold YT
   rw[if_pos ⟨by omega,by omega,by omega⟩]
  rw[hcap,Y,B8 (by simp;omega) (by simp;omega),Y]
  exact⟨_,rfl,.inr ⟨hl,c,L,A,.inl ⟨hleaf,rfl⟩⟩⟩
  have h0:0<L:=by omega
  rw[show(decide ((l.length:Int)≤4)||decide (c.lev=0))=false by rw[A.lev];simp;omega,cond_false,VN A h0 hb 4 0 [] rfl]
  obtain⟨_,h2⟩:=ND A h0
  obtain⟨ks,h3,h4⟩:=TJ (rec_:=Nu n f) (R:=Tr f) (Kt L l) [] (fun p hp' hne=>by
   have hq:p∈KX L l:=List.mem_filter.2 ⟨hp',by simpa using hne⟩
   have:=h2 p hq
   exact V6 hn2 f p zO (fun r hr=>ok r ((NI hq).subset hr)) zO zO) (by simp[Kt])
  rw[show(List.range' 0 4).map (fun j=>l.filter fun r=>decide (qd L r=j))=Kt L l from rfl,h3,Y]
  exact⟨_,rfl,.inr ⟨hl,c,L,A,.inr ⟨by omega,h0,ks,by simp,h4⟩⟩⟩
theorem io{n:Nat}{l:List AN}(hn:l.length<n)(h:CZ l=true):E2 n l=some true:=by
 have hb:=GV h
 unfold CZ at h
 simp only[Bool.and_eq_true,decide_eq_true_eq]at h
 have hr:=(Nl l).1 h.1.2
 have ok:∀r∈l,FF r=true:=fun r hr=>List.all_eq_true.1 h.1.1 r hr
 unfold E2
 rw[decide_eq_false zO,cond_false]
 have key:∀(d k m:Nat),k+d=l.length→d<m→Cu l m (k:Int)=some true:=by
  intro d
  induction d with
  | zero=>
   intro k m hk hm
   obtain⟨m,rfl⟩:∃j,m=j+1:=⟨m-1,by omega⟩
   show CS l (Cu l m) _=_
   unfold CS
   rw[decide_eq_false zO,cond_false]
   rfl
  | succ d ih=>
   intro k m hk hm
   obtain⟨m,rfl⟩:∃j,m=j+1:=⟨m-1,by omega⟩
   have hkl:k<l.length:=by omega
   have n1:Aq l (k:Int)=some l[k]:=by rw[DK rfl,List.getElem?_eq_getElem hkl]
   have hrow:EM l[k]=some true:=by
    have h5:=LU (ok l[k] (List.getElem_mem hkl))
    unfold EM
    have h6:(2147483648:UInt32).toNat=2147483648:=rfl
    rw[A7,decide_eq_true (UInt32.lt_iff_toNat_lt.2 zO),decide_eq_true (UInt32.lt_iff_toNat_lt.2 zO),decide_eq_true zO]
    rfl
   show CS l (Cu l m) _=_
   unfold CS
   rw[decide_eq_true zO,cond_true,n1,Y,hrow,Y]
   have hor:(PJ (!true) ((Ed (decide (0<(k:Int))) ((Aq l (wI ((k:Int)-1))).bind fun x2=>(Aq l (k:Int)).bind fun x3=>some (decide (x3.id≤x2.id)))).bind fun y2=>some (y2)))=some false:=by
    rcases Nat.eq_zero_or_pos k with rfl | hk0
    rfl
    have n2:Aq l (wI ((k:Int)-1))=some l[k-1]:=by
     rw[BD zO zO,DK (k:=k-1) zO,List.getElem?_eq_getElem zO]
    have hlt:=List.pairwise_iff_getElem.1 hr (k-1) k zO hkl zO
    have h7:decide (l[k].id≤l[k-1].id)=false:=decide_eq_false fun e=>by
     have e1:=UInt64.le_iff_toNat_le.1 e
     have e2:=UInt64.lt_iff_toNat_lt.1 hlt
     omega
    rw[decide_eq_true zO,n2,n1]
    simp only[PJ,Ed,Bool.not_true,cond_false,cond_true,Y,h7]
   rw[n1]at hor
   rw[hor,Y,cond_false,A7,BD zO zO]
   exact ih (k+1) m zO zO
 exact key l.length 0 n zO hn
theorem ay{n:Nat}{l:List AN}(hn:1100≤n)(h:CZ l=true):∃t,NH n l=some (t,0)∧Tr n l t:=by
 have hb:=GV h
 have h':=h
 unfold CZ at h'
 simp only[Bool.and_eq_true,decide_eq_true_eq]at h'
 obtain⟨t,h1,h2⟩:=V6 (n:=n) zO n l zO (fun r hr=>List.all_eq_true.1 h'.1.1 r hr) hb zO
 refine⟨t,?_,h2⟩
 unfold NH
 rw[io zO h,Y,Bool.not_true,cond_false,h1,Y]
end

/- Plain functions of the references and the laws, printed from the loaded program, and the walks that show that the program computes them. Condition: the plain function yields. -/
section
variable {K:Nat→Prop}{w0:World}{H:List AT}
def Cp(p0:UInt32)(p1:Int):Option UInt32:=
 (QB p1).bind fun n1=>
 (QB (wI (32-p1))).bind fun n2=>
 ret ((shl32 p0 n1) ||| (shr32 p0 n2)) fun x1=>
 some x1
theorem KM{p0:UInt32}{p1:Int}{r:UInt32}(h:Cp p0 p1=some r): BH Tryz.prog K w0 234 [Z p0,vI p1] [] H (fun u M=>u=Z r∧M=[]):=by
 unfold Cp at h
 refine BH.enter Tryz.func234 rfl rfl ?_
 refine V (J zR (U (AD ?_)))
 obtain⟨n1,hn1,h⟩:=bnd h
 obtain⟨n2,hn2,h⟩:=bnd h
 obtain⟨x1,ex1,h⟩:=Bc h
 refine Aj CJ [] (Pl.of [(true,0),(true,1),(true,2),(true,3),(true,4),(true,5),(true,6),(true,7),(true,8)]) zK (E zR (E zR (O zR (QM hn1) (E zR (E zR (O zR Bp (O zR (Ue hn2) ?_)))))))
 refine O zR DF ?_
 refine Ak (u:=Z x1) zR zR (by rw[ex1]) ?_
 refine U (AM ?_)
 obtain rfl:=Option.some.inj h
 exact AY [] 0 zR zR zR
def HQ(p0:UInt32)(p1:UInt32)(p2:UInt32)(p3:UInt32):Option (List UInt32):=
 ret (p0+p1) fun a_1=>
 (Cp (p3 ^^^ a_1) 16).bind fun y1=>
 ret (p2+y1) fun x1=>
 (Cp (p1 ^^^ x1) 12).bind fun y2=>
 ret (a_1+y2) fun a_2=>
 (Cp (y1 ^^^ a_2) 8).bind fun y3=>
 ret (x1+y3) fun x2=>
 (Cp (y2 ^^^ x2) 7).bind fun y4=>
 some [a_2,y4,x2,y3]
theorem OZ{p0:UInt32}{p1:UInt32}{p2:UInt32}{p3:UInt32}{r:List UInt32}(h:HQ p0 p1 p2 p3=some r): BH Tryz.prog K w0 232 [Z p0,Z p1,Z p2,Z p3] [] H (fun u M=>u=.agg (Cg Z r)∧r.length=4∧M=[]):=by
 unfold HQ at h
 refine BH.enter Tryz.func232 rfl rfl ?_
 refine V ?_
 refine Ah zR P9 (fun _=>trivial) fun b1=>?_
 refine U (V ?_)
 obtain⟨a_1,ea_1,h⟩:=Bc h
 refine E zR (E zR (O zR BZ ?_))
 refine Ak (u:=Z a_1) zR zR (by rw[ea_1]) ?_
 refine U (V ?_)
 obtain⟨y1,hy1,h⟩:=bnd h
 refine E zR (E zR (O zR B5 (AX 0 U8 (KM hy1) zR (J zR (U (V ?_))))))
 obtain⟨x1,ex1,h⟩:=Bc h
 refine E zR (E zR (O zR BZ ?_))
 refine Ak (u:=Z x1) zR zR (by rw[ex1]) ?_
 refine U (V ?_)
 obtain⟨y2,hy2,h⟩:=bnd h
 refine E zR (E zR (O zR B5 (AX 0 U8 (KM hy2) zR (J zR (U (V ?_))))))
 obtain⟨a_2,ea_2,h⟩:=Bc h
 refine E zR (E zR (O zR BZ ?_))
 refine Ak (u:=Z a_2) zR zR (by rw[ea_2]) ?_
 refine U (V ?_)
 obtain⟨y3,hy3,h⟩:=bnd h
 refine E zR (E zR (O zR B5 (AX 0 U8 (KM hy3) zR (J zR (U (V ?_))))))
 obtain⟨x2,ex2,h⟩:=Bc h
 refine E zR (E zR (O zR BZ ?_))
 refine Ak (u:=Z x2) zR zR (by rw[ex2]) ?_
 refine U (V ?_)
 obtain⟨y4,hy4,h⟩:=bnd h
 refine E zR (E zR (O zR B5 (AX 0 U8 (KM hy4) zR (J zR (U (V (E zR (E zR (E zR ?_)))))))))
 refine E zR (BL [_,_,_,_] zR qR pQ P9 ⟨zR,zR,zR,zR,zT⟩ zR (Am 0 zR zR zR zR Tw zR zR zR zT (U (AM ?_))))
 obtain rfl:=Option.some.inj h
 exact AU (Dx zR (BG 0 (([a_2,y4,x2,y3]).map Z) dX zR zR zR zR)) (AV (M:=[]) ⟨zR,zR,zR⟩ fun _ hw=>BJ.pick (H:=[_]) hw [] 1 zR)
def ID(p0:List UInt8)(p1:Int):Option UInt32:=
 (Aq p0 p1).bind fun c1=>
 (Aq p0 (wI (p1+1))).bind fun c2=>
 (Aq p0 (wI (p1+2))).bind fun c3=>
 (Aq p0 (wI (p1+3))).bind fun c4=>
 ret (((c1.toUInt32 ||| (shl32 c2.toUInt32 8)) ||| (shl32 c3.toUInt32 16)) ||| (shl32 c4.toUInt32 24)) fun x1=>
 some x1
theorem RW{p0:List UInt8}{p1:Int}{r:UInt32}(h:ID p0 p1=some r): BH Tryz.prog K w0 231 [vS p0,vI p1] [] H (fun u M=>u=Z r∧M=[]):=by
 unfold ID at h
 refine BH.enter Tryz.func231 rfl rfl ?_
 refine V (J zR (U (AD ?_)))
 obtain⟨c1,hc1,h⟩:=bnd h
 obtain⟨c2,hc2,h⟩:=bnd h
 obtain⟨c3,hc3,h⟩:=bnd h
 obtain⟨c4,hc4,h⟩:=bnd h
 obtain⟨x1,ex1,h⟩:=Bc h
 refine Aj CJ [] (Pl.of [(true,0),(true,1),(true,2),(true,3),(true,4),(true,5),(true,6),(true,7),(true,8),(true,9),(true,10),(true,11),(true,12),(true,13),(true,14),(true,15),(true,16),(true,17),(true,18),(true,19),(true,20),(true,21),(true,22),(true,23),(true,24),(true,25)]) zK (E zR (E zR (G9 hc1 zR Bu zR zR (As zR zR (DG CW Bg) (E zR (E zR (O zR A3 ?_)))))))
 refine G9 hc2 zR Bu zR zR (As zR zR (DG CW Bg) ?_)
 refine O zR (D4.shl32 (n:=8)) ?_
 refine O zR DF (E zR (E zR (O zR A3 (G9 hc3 zR Bu zR zR (As zR zR (DG CW Bg) ?_)))))
 refine O zR (D4.shl32 (n:=16)) ?_
 refine O zR DF (E zR (E zR (O zR A3 (G9 hc4 zR Bu zR zR (As zR zR (DG CW Bg) ?_)))))
 refine O zR (D4.shl32 (n:=24)) ?_
 refine O zR DF ?_
 refine Ak (u:=Z x1) zR zR (by rw[ex1]) ?_
 refine U (AM ?_)
 obtain rfl:=Option.some.inj h
 exact AY [] 0 zR zR zR
def Ih(l5:List UInt32):Option (List UInt32):=
 some l5
def FQ(p2:List UInt8)(nx_f_ref01_State_l2:List UInt32×Int→Option (List UInt32))(l6:List UInt32)(a2:Int):Option (List UInt32):=
 cond (decide (a2<3))
 (
  (ID p2 (wI (4*a2))).bind fun y2=>
  (CT 4 l6 [y2]).bind fun l7=>
  ret (wI (a2+1)) fun i_2=>
  nx_f_ref01_State_l2 (l7,i_2))
 (
  Ih l6)
def Ib(p2:List UInt8):Nat→(List UInt32×Int)→Option (List UInt32):=Be fun nx x=>FQ p2 nx x.1 x.2
def GS(n:Nat)(p1:UInt32)(p2:List UInt8)(l1:List UInt32):Option (List UInt32):=
 (CT 4 l1 [p1]).bind fun l4=>
 Ib p2 n (l4,0)
def FR(n:Nat)(p0:List UInt8)(p1:UInt32)(p2:List UInt8)(nx_f_ref01_State_l1:List UInt32×Int→Option (List UInt32))(l2:List UInt32)(a1:Int):Option (List UInt32):=
 cond (decide (a1<8))
 (
  (ID p0 (wI (4*a1))).bind fun y1=>
  (CT 4 l2 [y1]).bind fun l3=>
  ret (wI (a1+1)) fun i_1=>
  nx_f_ref01_State_l1 (l3,i_1))
 (
  GS n p1 p2 l2)
def Ik(n:Nat)(p0:List UInt8)(p1:UInt32)(p2:List UInt8):Nat→(List UInt32×Int)→Option (List UInt32):=Be fun nx x=>FR n p0 p1 p2 nx x.1 x.2
def I1(n:Nat)(p0:List UInt8)(p1:UInt32)(p2:List UInt8):Option (List UInt32):=
 Ik n p0 p1 p2 n ([1634760805,857760878,2036477234,1797285236],0)
theorem Vo{n:Nat}{p0:List UInt8}{p1:UInt32}{p2:List UInt8}{r:List UInt32}(h:I1 n p0 p1 p2=some r): BH Tryz.prog K w0 217 [vS p0,Z p1,vS p2] [] H (fun u M=>∃v0:Value,u=v0∧M=[AE 29 1 v0 BI r]):=by
 unfold I1 at h
 refine BH.enter Tryz.func217 rfl rfl ?_
 refine V (Bx 29 1 BI (J zR (U (V ?_))))
 refine Bd [_,_,_,_] zR Bz BQ Jq ⟨zR,zR,zR,zR,zT⟩ zR zR zR (by simp[Value.cells]) zR zR (fun _=>trivial) fun b1=>?_
 refine Bi BI 1 ([1634760805,857760878,2036477234,1797285236]:List UInt32) zR (fun _=>rfl) zR ?_
 refine J zR (U ?_)
 refine A1 (α:=List UInt32×Value) (fun x=>GS n p1 p2 x.1=some r) (fun x=>[(1,Z p1),(2,vS p2),(7,x.2)]) (fun x=>AE 29 1 x.2 BI x.1::H) ?_ (fun x D h=>?_)
 refine V (J zR (U (AL ?_)))
 refine SX.heap (SX.mono (Ay (α:=Nat×List UInt32×Value×Int) (fun x=>Ik n p0 p1 p2 x.1 (x.2.1,x.2.2.2)=some r) (fun x=>[(0,vS p0),(1,Z p1),(2,vS p2),(7,x.2.2.1),(8,vI x.2.2.2)]) (fun x=>AE 29 1 x.2.2.1 BI x.2.1::H) (fun x=>x.1) (fun x D h=>?_) (n,[1634760805,857760878,2036477234,1797285236],.slice (some ⟨b1,0,none⟩) 4 4,0) h) tL) (fun _ hw=>BJ.pick (H:=[_,_]) hw [0] 2 zR)
 obtain⟨m1,l2,v2,a1⟩:=x
 dsimp only at h
 rcases m1 with _ | m1
 cases (show(none:Option _)=some r from h)
 replace h:FR n p0 p1 p2 (Ik n p0 p1 p2 m1) l2 a1=some r:=h
 unfold FR at h
 refine A4 [(0,vS p0),(1,Z p1),(2,vS p2),(7,v2),(8,vI a1)] (AE 29 1 v2 BI l2::H) ?_ tL
 refine AD (V (E zR (O zR Ao (U ?_))))
 refine AG zR (fun hc1=>?_) (fun hc1=>?_)
 replace h:=cT hc1 h
 refine AH (AF (AD (AL (AJ ?_))))
 obtain⟨y1,hy1,h⟩:=bnd h
 obtain⟨l3,hl3,h⟩:=bnd h
 refine E zR (E zR (E zR (O zR Ja (AX 0 fu (RW hy1) zR ?_))))
 refine Bd [_] zR Bz BQ Jq ⟨zR,zT⟩ zR zR zR (by simp[Value.cells]) zR zR (fun _=>trivial) fun b2=>?_
 refine Bi BI 1 ([y1]:List UInt32) zR (fun _=>rfl) zR ?_
 refine B7 1 hl3 (sz:=1) (enc:=BI) (fun _=>rfl) zR Bz BQ QN Jq zR zD zR zR zR zR (Ba (sz:=1) (enc:=BI) 0 (fun _=>rfl) zR) (by simp[BI,Value.oneCell']) (fun _=>trivial) fun v3=>?_
 refine J zR (AS (Ai (AF (AJ ?_))))
 obtain⟨i_1,ei_1,h⟩:=Bc h
 refine E zR (O zR A3 ?_)
 refine Ak (u:=vI i_1) zR zR (by rw[ei_1]) ?_
 refine AS ?_
 exact Ac (m1,l3,v3,i_1) h (Nat.lt_succ_self _) tL (fun _ hw=>BJ.pick (H:=[_,_]) hw [1] 2 zR)
 replace h:=cF hc1 h
 refine Al (Aw (A9 (Au ?_)))
 exact Av (l2,v2) h tL (fun _ hw=>BJ.pick (H:=[_]) hw [0] 1 zR)
 obtain⟨l1,v1⟩:=x
 dsimp only at h
 unfold GS at h
 refine A4 [(1,Z p1),(2,vS p2),(7,v1)] (AE 29 1 v1 BI l1::H) ?_ tL
 refine V ?_
 obtain⟨l4,hl4,h⟩:=bnd h
 refine E zR (E zR ?_)
 refine Bd [_] zR Bz BQ Jq ⟨zR,zT⟩ zR zR zR (by simp[Value.cells]) zR zR (fun _=>trivial) fun b3=>?_
 refine Bi BI 1 ([p1]:List UInt32) zR (fun _=>rfl) zR ?_
 refine B7 1 hl4 (sz:=1) (enc:=BI) (fun _=>rfl) zR Bz BQ QN Jq zR zD zR zR zR zR (Ba (sz:=1) (enc:=BI) 0 (fun _=>rfl) zR) (by simp[BI,Value.oneCell']) (fun _=>trivial) fun v4=>?_
 refine J zR (U ?_)
 refine A1 (α:=List UInt32×Value) (fun x=>Ih x.1=some r) (fun x=>[(7,x.2)]) (fun x=>AE 29 1 x.2 BI x.1::H) ?_ (fun x D h=>?_)
 refine V (J zR (U (AL ?_)))
 refine SX.heap (SX.mono (Ay (α:=Nat×List UInt32×Value×Int) (fun x=>Ib p2 x.1 (x.2.1,x.2.2.2)=some r) (fun x=>[(2,vS p2),(7,x.2.2.1),(9,vI x.2.2.2)]) (fun x=>AE 29 1 x.2.2.1 BI x.2.1::H) (fun x=>x.1) (fun x D h=>?_) (n,l4,v4,0) h) tL) (fun _ hw=>BJ.pick (H:=[_,_]) hw [1] 2 zR)
 obtain⟨m2,l6,v6,a2⟩:=x
 dsimp only at h
 rcases m2 with _ | m2
 cases (show(none:Option _)=some r from h)
 replace h:FQ p2 (Ib p2 m2) l6 a2=some r:=h
 unfold FQ at h
 refine A4 [(2,vS p2),(7,v6),(9,vI a2)] (AE 29 1 v6 BI l6::H) ?_ tL
 refine AD (V (E zR (O zR Ao (U ?_))))
 refine AG zR (fun hc2=>?_) (fun hc2=>?_)
 replace h:=cT hc2 h
 refine AH (AF (AD (AL (AJ ?_))))
 obtain⟨y2,hy2,h⟩:=bnd h
 obtain⟨l7,hl7,h⟩:=bnd h
 refine E zR (E zR (E zR (O zR Ja (AX 0 fu (RW hy2) zR ?_))))
 refine Bd [_] zR Bz BQ Jq ⟨zR,zT⟩ zR zR zR (by simp[Value.cells]) zR zR (fun _=>trivial) fun b4=>?_
 refine Bi BI 1 ([y2]:List UInt32) zR (fun _=>rfl) zR ?_
 refine B7 1 hl7 (sz:=1) (enc:=BI) (fun _=>rfl) zR Bz BQ QN Jq zR zD zR zR zR zR (Ba (sz:=1) (enc:=BI) 0 (fun _=>rfl) zR) (by simp[BI,Value.oneCell']) (fun _=>trivial) fun v7=>?_
 refine J zR (AS (Ai (AF (AJ ?_))))
 obtain⟨i_2,ei_2,h⟩:=Bc h
 refine E zR (O zR A3 ?_)
 refine Ak (u:=vI i_2) zR zR (by rw[ei_2]) ?_
 refine AS ?_
 exact Ac (m2,l7,v7,i_2) h (Nat.lt_succ_self _) tL (fun _ hw=>BJ.pick (H:=[_,_]) hw [1] 2 zR)
 replace h:=cF hc2 h
 refine Al (Aw (A9 (Au ?_)))
 exact Av (l6,v6) h tL (fun _ hw=>BJ.pick (H:=[_]) hw [0] 1 zR)
 obtain⟨l5,v5⟩:=x
 dsimp only at h
 unfold Ih at h
 refine A4 [(7,v5)] (AE 29 1 v5 BI l5::H) ?_ tL
 refine V (E zR (J zR (U (AM ?_))))
 obtain rfl:=Option.some.inj h
 exact AU (Co zR zR) (AV (M:=[_]) ⟨v5,zR,zR⟩ fun _ hw=>BJ.pick (H:=[_]) hw [0] 1 zR)
def CV(p0:List UInt32)(p1:Int)(p2:Int)(p3:Int)(p4:Int):Option (List UInt32):=
 (Aq p0 p1).bind fun x1=>
 (Aq p0 p2).bind fun x2=>
 (Aq p0 p3).bind fun x3=>
 (Aq p0 p4).bind fun x4=>
 (HQ x1 x2 x3 x4).bind fun y1=>
 (Aq y1 0).bind fun x5=>
 (Aq p0 p1).bind fun x6=>
 (Ek p0 p1 x5).bind fun l1=>
 (Aq y1 1).bind fun x7=>
 (Aq l1 p2).bind fun x8=>
 (Ek l1 p2 x7).bind fun l2=>
 (Aq y1 2).bind fun x9=>
 (Aq l2 p3).bind fun x10=>
 (Ek l2 p3 x9).bind fun l3=>
 (Aq y1 3).bind fun x11=>
 (Aq l3 p4).bind fun x12=>
 (Ek l3 p4 x11).bind fun l4=>
 some l4
theorem HW{v0_:Value}{p0:List UInt32}{p1:Int}{p2:Int}{p3:Int}{p4:Int}{r:List UInt32}(h:CV p0 p1 p2 p3 p4=some r): BH Tryz.prog K w0 218 [v0_,vI p1,vI p2,vI p3,vI p4] [AE 29 1 v0_ BI p0] H (fun u M=>u=.tuple #[]∧M=[AE 29 1 v0_ BI r]):=by
 unfold CV at h
 refine BH.enter Tryz.func218 rfl rfl ?_
 refine AD ?_
 obtain⟨x1,hx1,h⟩:=bnd h
 obtain⟨x2,hx2,h⟩:=bnd h
 obtain⟨x3,hx3,h⟩:=bnd h
 obtain⟨x4,hx4,h⟩:=bnd h
 obtain⟨y1,hy1,h⟩:=bnd h
 refine Aj CJ [0] (BY [(true,0),(true,1),(true,2),(true,3),(true,4),(true,5),(true,6),(true,7),(true,8),(true,9),(true,10),(true,11),(true,12),(true,13),(true,14),(true,15)] (.alt 16 (Pl.of [(false,17),(false,18)]) (.cons (false,17) (Pl.of [(false,16),(false,18)])))) zK (E zR (E zR ?_))
 refine BF 0 hx1 zR Bz BQ zR zR zR fun g1 m1 cp1 hv1=>?_
 refine BR zR Az zR (BW (sz:=1) (enc:=BI) 0 0 (fun _=>rfl) zR hv1 hx1 zR) ?_
 refine E zR (E zR ?_)
 refine BF 0 hx2 zR Bz BQ zR zR zR fun g2 m2 cp2 hv2=>?_
 refine BR zR Az zR (BW (sz:=1) (enc:=BI) 0 0 (fun _=>rfl) zR hv2 hx2 zR) ?_
 refine E zR (E zR ?_)
 refine BF 0 hx3 zR Bz BQ zR zR zR fun g3 m3 cp3 hv3=>?_
 refine BR zR Az zR (BW (sz:=1) (enc:=BI) 0 0 (fun _=>rfl) zR hv3 hx3 zR) ?_
 refine E zR (E zR ?_)
 refine BF 0 hx4 zR Bz BQ zR zR zR fun g4 m4 cp4 hv4=>?_
 refine BR zR Az zR (BW (sz:=1) (enc:=BI) 0 0 (fun _=>rfl) zR hv4 hx4 zR) ?_
 refine LF ?_ ?_
 refine AP (vs:=[_,_,_,_]) (Hin:=[]) (Hr:=_::_) zR zR ⟨zR,zR,zR,zR,zT⟩ gF zR zR (OZ hy1) ?_
 rintro _ _ ⟨rfl,hn1,rfl⟩
 refine⟨⟨⟨0,rfl⟩,trivial⟩,?_⟩
 refine Ah zR P9 (fun _=>⟨⟨1,zR⟩,zT⟩) fun b1=>?_
 refine Mg 0 zR zR zR zR Tw ((Qo ..).trans hn1) zR (L9 (f:=Z) (fun _=>rfl) y1) ⟨⟨1,zR⟩,zT⟩ ?_
 refine U (V ?_)
 obtain⟨x5,hx5,h⟩:=bnd h
 obtain⟨x6,hx6,h⟩:=bnd h
 obtain⟨l1,hl1,h⟩:=bnd h
 refine E zR (E zR ?_)
 refine LM (xs:=y1) hx5 zR OJ BQ zR zR hn1 ?_
 refine BR zR Az zR (CK 0 zR (D3 (Df hx5).2.2)) ?_
 refine BF 1 hx6 zR Bz BQ zR zR zR fun g5 m5 cp5 hv5=>?_
 refine Cd (sz:=1) (enc:=BI) 1 hl1 (fun _=>rfl) zR zR zR zR zR hv5 BQ (by simp[Value.oneCell']) zT ?_
 refine U (V ?_)
 obtain⟨x7,hx7,h⟩:=bnd h
 obtain⟨x8,hx8,h⟩:=bnd h
 obtain⟨l2,hl2,h⟩:=bnd h
 refine E zR (E zR ?_)
 refine LM (xs:=y1) hx7 zR OJ BQ zR zR hn1 ?_
 refine BR zR Az zR (CK 0 zR (D3 (Df hx7).2.2)) ?_
 refine BF 1 hx8 zR Bz BQ zR zR zR fun g6 m6 cp6 hv6=>?_
 refine Cd (sz:=1) (enc:=BI) 1 hl2 (fun _=>rfl) zR zR zR zR zR hv6 BQ (by simp[Value.oneCell']) zT ?_
 refine U (V ?_)
 obtain⟨x9,hx9,h⟩:=bnd h
 obtain⟨x10,hx10,h⟩:=bnd h
 obtain⟨l3,hl3,h⟩:=bnd h
 refine E zR (E zR ?_)
 refine LM (xs:=y1) hx9 zR OJ BQ zR zR hn1 ?_
 refine BR zR Az zR (CK 0 zR (D3 (Df hx9).2.2)) ?_
 refine BF 1 hx10 zR Bz BQ zR zR zR fun g7 m7 cp7 hv7=>?_
 refine Cd (sz:=1) (enc:=BI) 1 hl3 (fun _=>rfl) zR zR zR zR zR hv7 BQ (by simp[Value.oneCell']) zT ?_
 refine U (AJ ?_)
 obtain⟨x11,hx11,h⟩:=bnd h
 obtain⟨x12,hx12,h⟩:=bnd h
 obtain⟨l4,hl4,h⟩:=bnd h
 refine E zR (E zR ?_)
 refine LM (xs:=y1) hx11 zR OJ BQ zR zR hn1 ?_
 refine BR zR Az zR (CK 0 zR (D3 (Df hx11).2.2)) ?_
 refine BF 1 hx12 zR Bz BQ zR zR zR fun g8 m8 cp8 hv8=>?_
 refine Cd (sz:=1) (enc:=BI) 1 hl4 (fun _=>rfl) zR zR zR zR zR hv8 BQ (by simp[Value.oneCell']) zT ?_
 refine AS ?_
 obtain rfl:=Option.some.inj h
 exact CQ (C7 zR) (AV (M:=[_]) ⟨zR,zR⟩ fun _ hw=>BJ.pick (H:=[_,_]) hw [1] 2 zR)
 refine Ah zR P9 (fun _=>⟨⟨1,zR⟩,zT⟩) fun b1=>?_
 refine AP (vs:=[_,_,_,_]) (Hin:=[]) (Hr:=_::_::_) zR zR ⟨zR,zR,zR,zR,zT⟩ gF zR zR (OZ hy1) ?_
 rintro _ _ ⟨rfl,hn1,rfl⟩
 refine⟨⟨⟨1,rfl⟩,trivial⟩,?_⟩
 refine Mg 0 zR zR zR zR Tw ((Qo ..).trans hn1) zR (L9 (f:=Z) (fun _=>rfl) y1) ⟨⟨1,zR⟩,zT⟩ ?_
 refine U (V ?_)
 obtain⟨x5,hx5,h⟩:=bnd h
 obtain⟨x6,hx6,h⟩:=bnd h
 obtain⟨l1,hl1,h⟩:=bnd h
 refine E zR (E zR ?_)
 refine LM (xs:=y1) hx5 zR OJ BQ zR zR hn1 ?_
 refine BR zR Az zR (CK 0 zR (D3 (Df hx5).2.2)) ?_
 refine BF 1 hx6 zR Bz BQ zR zR zR fun g5 m5 cp5 hv5=>?_
 refine Cd (sz:=1) (enc:=BI) 1 hl1 (fun _=>rfl) zR zR zR zR zR hv5 BQ (by simp[Value.oneCell']) zT ?_
 refine U (V ?_)
 obtain⟨x7,hx7,h⟩:=bnd h
 obtain⟨x8,hx8,h⟩:=bnd h
 obtain⟨l2,hl2,h⟩:=bnd h
 refine E zR (E zR ?_)
 refine LM (xs:=y1) hx7 zR OJ BQ zR zR hn1 ?_
 refine BR zR Az zR (CK 0 zR (D3 (Df hx7).2.2)) ?_
 refine BF 1 hx8 zR Bz BQ zR zR zR fun g6 m6 cp6 hv6=>?_
 refine Cd (sz:=1) (enc:=BI) 1 hl2 (fun _=>rfl) zR zR zR zR zR hv6 BQ (by simp[Value.oneCell']) zT ?_
 refine U (V ?_)
 obtain⟨x9,hx9,h⟩:=bnd h
 obtain⟨x10,hx10,h⟩:=bnd h
 obtain⟨l3,hl3,h⟩:=bnd h
 refine E zR (E zR ?_)
 refine LM (xs:=y1) hx9 zR OJ BQ zR zR hn1 ?_
 refine BR zR Az zR (CK 0 zR (D3 (Df hx9).2.2)) ?_
 refine BF 1 hx10 zR Bz BQ zR zR zR fun g7 m7 cp7 hv7=>?_
 refine Cd (sz:=1) (enc:=BI) 1 hl3 (fun _=>rfl) zR zR zR zR zR hv7 BQ (by simp[Value.oneCell']) zT ?_
 refine U (AJ ?_)
 obtain⟨x11,hx11,h⟩:=bnd h
 obtain⟨x12,hx12,h⟩:=bnd h
 obtain⟨l4,hl4,h⟩:=bnd h
 refine E zR (E zR ?_)
 refine LM (xs:=y1) hx11 zR OJ BQ zR zR hn1 ?_
 refine BR zR Az zR (CK 0 zR (D3 (Df hx11).2.2)) ?_
 refine BF 1 hx12 zR Bz BQ zR zR zR fun g8 m8 cp8 hv8=>?_
 refine Cd (sz:=1) (enc:=BI) 1 hl4 (fun _=>rfl) zR zR zR zR zR hv8 BQ (by simp[Value.oneCell']) zT ?_
 refine AS ?_
 obtain rfl:=Option.some.inj h
 exact CQ (C7 zR) (AV (M:=[_]) ⟨zR,zR⟩ fun _ hw=>BJ.pick (H:=[_,_]) hw [1] 2 zR)
def Id(l4:List UInt8):Option (List UInt8×Int):=
 some (l4,0)
def FL(y1:List UInt32)(l2:List UInt32)(nx_f_ref01_Block_l2:List UInt8×Int→Option (List UInt8×Int))(l5:List UInt8)(a2:Int):Option (List UInt8×Int):=
 cond (decide (a2<16))
 (
  (Aq l2 a2).bind fun x2=>
  (Aq y1 a2).bind fun x3=>
  ret (x2+x3) fun x4=>
  (CT 1 l5 [x4.toUInt8,(shr32 x4 8).toUInt8,(shr32 x4 16).toUInt8,(shr32 x4 24).toUInt8]).bind fun l6=>
  ret (wI (a2+1)) fun x5=>
  nx_f_ref01_Block_l2 (l6,x5))
 (
  Id l5)
def IV(y1:List UInt32)(l2:List UInt32):Nat→(List UInt8×Int)→Option (List UInt8×Int):=Be fun nx x=>FL y1 l2 nx x.1 x.2
def E4(n:Nat)(y1:List UInt32)(l2:List UInt32):Option (List UInt8×Int):=
 IV y1 l2 n ([],0)
def FJ(n:Nat)(y1:List UInt32)(nx_f_ref01_Block_l1:List UInt32×Int→Option (List UInt8×Int))(l3:List UInt32)(a1:Int):Option (List UInt8×Int):=
 cond (decide (a1<10))
 (
  (CV l3 0 4 8 12).bind fun y2=>
  (CV y2 1 5 9 13).bind fun y3=>
  (CV y3 2 6 10 14).bind fun y4=>
  (CV y4 3 7 11 15).bind fun y5=>
  (CV y5 0 5 10 15).bind fun y6=>
  (CV y6 1 6 11 12).bind fun y7=>
  (CV y7 2 7 8 13).bind fun y8=>
  (CV y8 3 4 9 14).bind fun y9=>
  ret (wI (a1+1)) fun x1=>
  nx_f_ref01_Block_l1 (y9,x1))
 (
  E4 n y1 l3)
def IX(n:Nat)(y1:List UInt32):Nat→(List UInt32×Int)→Option (List UInt8×Int):=Be fun nx x=>FJ n y1 nx x.1 x.2
def Fw(n:Nat)(p0:List UInt8)(p1:UInt32)(p2:List UInt8):Option (List UInt8×Int):=
 cond ((!decide ((p0.length:Int)=32))||(!decide ((p2.length:Int)=12)))
 (
  some ([],2))
 (
  (I1 n p0 p1 p2).bind fun y1=>
  (CT 4 [] y1).bind fun l1=>
  IX n y1 n (l1,0))
theorem Vu{n:Nat}{p0:List UInt8}{p1:UInt32}{p2:List UInt8}{r:List UInt8×Int}(h:Fw n p0 p1 p2=some r): BH Tryz.prog K w0 195 [vS p0,Z p1,vS p2] [] H (fun u M=>u=.tuple #[vS r.1,vI r.2]∧M=[]):=by
 unfold Fw at h
 refine BH.enter Tryz.func195 rfl rfl ?_
 refine V (J zR (J zR (U (AD (V (E zR (BV zR Bu zR (O zR Bh (E zR ?_)))))))))
 refine C1 (c := !decide ((p2.length:Int)=12)) 17 4 21 zR (fun hb k=>?_) (fun hb k=>?_) ?_
 refine AA zR (AA zR (AA zR (Ad zR zR zR ?_)))
 exact k.mono tL
 refine E zR (BV zR Bu zR (O zR Bh (Ad zR zR zR ?_)))
 exact k.mono tL
 refine U ?_
 refine AG zR (fun hc1=>?_) (fun hc1=>?_)
 replace h:=cT hc1 h
 refine V (J zR (J zR (U (AM (Ab ?_)))))
 obtain rfl:=Option.some.inj h
 exact AY [] 0 zR zR zR
 replace h:=cF hc1 h
 refine AH (AF (V ?_))
 obtain⟨y1,hy1,h⟩:=bnd h
 refine E zR (E zR (E zR ?_))
 refine AP (vs:=[_,_,_]) (Hin:=[]) (Hr:=_) zR zR ⟨zR,zR,zR,zT⟩ mC zR zR (Vo hy1) ?_
 rintro v1 _ ⟨_,rfl,rfl⟩
 refine⟨trivial,?_⟩
 refine J zR (U (V ?_))
 obtain⟨l1,hl1,h⟩:=bnd h
 refine ZX (n:=16) BI zR Bz BQ QN Jq zR zR zR zR zR (fun _=>trivial) fun v2=>?_
 refine E zR ?_
 refine cP 0 1 hl1 (sz:=1) (enc:=BI) (fun _=>rfl) zR Bz BQ QN Jq zR zD zR zR zR zR (by simp[BI,Value.oneCell']) (fun _=>trivial) fun v3=>?_
 refine J zR (U ?_)
 refine A1 (α:=List UInt32×Value) (fun x=>E4 n y1 x.1=some r) (fun x=>[(8,v1),(9,x.2)]) (fun x=>AE 29 1 v1 BI y1::AE 29 1 x.2 BI x.1::H) ?_ (fun x D h=>?_)
 refine V (J zR (U (AL ?_)))
 refine SX.heap (SX.mono (Ay (α:=Nat×List UInt32×Value×Int) (fun x=>IX n y1 x.1 (x.2.1,x.2.2.2)=some r) (fun x=>[(8,v1),(9,x.2.2.1),(10,vI x.2.2.2)]) (fun x=>AE 29 1 v1 BI y1::AE 29 1 x.2.2.1 BI x.2.1::H) (fun x=>x.1) (fun x D h=>?_) (n,l1,v3,0) h) tL) (fun _ hw=>BJ.pick (H:=[_,_]) hw [1,0] 2 zR)
 obtain⟨m1,l3,v5,a1⟩:=x
 dsimp only at h
 rcases m1 with _ | m1
 cases (show(none:Option _)=some r from h)
 replace h:FJ n y1 (IX n y1 m1) l3 a1=some r:=h
 unfold FJ at h
 refine A4 [(8,v1),(9,v5),(10,vI a1)] (AE 29 1 v1 BI y1::AE 29 1 v5 BI l3::H) ?_ tL
 refine AD (V (E zR (O zR Ao (U ?_))))
 refine AG zR (fun hc2=>?_) (fun hc2=>?_)
 replace h:=cT hc2 h
 refine AH (AF (AD (AL (V ?_))))
 obtain⟨y2,hy2,h⟩:=bnd h
 refine E zR (SL.pick [1,0] 2 (AX 1 Nq (HW hy2) zR (U (V ?_))))
 obtain⟨y3,hy3,h⟩:=bnd h
 refine E zR (AX 1 Nq (HW hy3) zR (U (V ?_)))
 obtain⟨y4,hy4,h⟩:=bnd h
 refine E zR (AX 1 Nq (HW hy4) zR (U (V ?_)))
 obtain⟨y5,hy5,h⟩:=bnd h
 refine E zR (AX 1 Nq (HW hy5) zR (U (V ?_)))
 obtain⟨y6,hy6,h⟩:=bnd h
 refine E zR (AX 1 Nq (HW hy6) zR (U (V ?_)))
 obtain⟨y7,hy7,h⟩:=bnd h
 refine E zR (AX 1 Nq (HW hy7) zR (U (V ?_)))
 obtain⟨y8,hy8,h⟩:=bnd h
 refine E zR (AX 1 Nq (HW hy8) zR (U (AJ ?_)))
 obtain⟨y9,hy9,h⟩:=bnd h
 refine E zR (AX 1 Nq (HW hy9) zR (AS (Ai (AF (AJ ?_)))))
 obtain⟨x1,ex1,h⟩:=Bc h
 refine E zR (O zR A3 ?_)
 refine Ak (u:=vI x1) zR zR (by rw[ex1]) ?_
 refine AS ?_
 exact Ac (m1,y9,v5,x1) h (Nat.lt_succ_self _) tL (fun _ hw=>BJ.pick (H:=[_,_]) hw [1,0] 2 zR)
 replace h:=cF hc2 h
 refine Al (Aw (A9 (Au ?_)))
 exact Av (l3,v5) h tL (fun _ hw=>BJ.pick (H:=[_,_]) hw [0,1] 2 zR)
 obtain⟨l2,v4⟩:=x
 dsimp only at h
 unfold E4 at h
 refine A4 [(8,v1),(9,v4)] (AE 29 1 v1 BI y1::AE 29 1 v4 BI l2::H) ?_ tL
 refine V (Bx 5 1 D7 (J zR (U ?_)))
 refine A1 (α:=List UInt8×Value) (fun x=>Id x.1=some r) (fun x=>[(11,x.2)]) (fun x=>AE 5 1 x.2 D7 x.1::H) ?_ (fun x D h=>?_)
 refine V (J zR (U (AL ?_)))
 refine SX.heap (SX.mono (Ay (α:=Nat×List UInt8×Value×Int) (fun x=>IV y1 l2 x.1 (x.2.1,x.2.2.2)=some r) (fun x=>[(8,v1),(9,v4),(11,x.2.2.1),(12,vI x.2.2.2)]) (fun x=>AE 29 1 v1 BI y1::AE 29 1 v4 BI l2::AE 5 1 x.2.2.1 D7 x.2.1::H) (fun x=>x.1) (fun x D h=>?_) (n,[],.slice none 0 0,0) h) tL) (fun _ hw=>BJ.pick (H:=[_,_,_]) hw [1,2,0] 3 zR)
 obtain⟨m2,l5,v7,a2⟩:=x
 dsimp only at h
 rcases m2 with _ | m2
 cases (show(none:Option _)=some r from h)
 replace h:FL y1 l2 (IV y1 l2 m2) l5 a2=some r:=h
 unfold FL at h
 refine A4 [(8,v1),(9,v4),(11,v7),(12,vI a2)] (AE 29 1 v1 BI y1::AE 29 1 v4 BI l2::AE 5 1 v7 D7 l5::H) ?_ tL
 refine AD (V (E zR (O zR Ao (U ?_))))
 refine AG zR (fun hc3=>?_) (fun hc3=>?_)
 replace h:=cT hc3 h
 refine AH (AF (AD (AL (AD ?_))))
 obtain⟨x2,hx2,h⟩:=bnd h
 obtain⟨x3,hx3,h⟩:=bnd h
 obtain⟨x4,ex4,h⟩:=Bc h
 refine Aj CJ [0,1] (Pl.of [(true,0),(true,1),(true,2),(true,3),(true,4),(true,5),(true,6),(true,7),(true,8),(true,9)]) zK (E zR (E zR ?_))
 refine BF 1 hx2 zR Bz BQ zR zR zR fun g1 m3 cp1 hv1=>?_
 refine BR zR Az zR (BW (sz:=1) (enc:=BI) 1 0 (fun _=>rfl) zR hv1 hx2 zR) ?_
 refine E zR (E zR ?_)
 refine BF 0 hx3 zR Bz BQ zR zR zR fun g2 m4 cp2 hv2=>?_
 refine BR zR Az zR (BW (sz:=1) (enc:=BI) 0 0 (fun _=>rfl) zR hv2 hx3 zR) ?_
 refine O zR BZ ?_
 refine Ak (u:=Z x4) zR zR (by rw[ex4]) ?_
 refine U (AJ ?_)
 obtain⟨l6,hl6,h⟩:=bnd h
 refine E zR (E zR (As zR zR (CN Bg CW) (E zR ?_)))
 refine O zR (D4.shr32 (n:=8)) ?_
 refine As zR zR (CN Bg CW) (E zR ?_)
 refine O zR (D4.shr32 (n:=16)) ?_
 refine As zR zR (CN Bg CW) (E zR ?_)
 refine O zR (D4.shr32 (n:=24)) ?_
 refine As zR zR (CN Bg CW) ?_
 refine Bd [_,_,_,_] zR B1 Iv J7 ⟨zR,zR,zR,zR,zT⟩ zR zR zR (by simp[Value.cells]) zR zR (fun _=>trivial) fun b1=>?_
 refine Bi D7 1 ([x4.toUInt8,(shr32 x4 8).toUInt8,(shr32 x4 16).toUInt8,(shr32 x4 24).toUInt8]:List UInt8) zR (fun _=>rfl) zR ?_
 refine B7 3 hl6 (sz:=1) (enc:=D7) (fun _=>rfl) zR B1 Iv Uy J7 zR zD zR zR zR zR (Ba (sz:=1) (enc:=D7) 0 (fun _=>rfl) zR) (by simp[D7,Value.oneCell']) (fun _=>trivial) fun v8=>?_
 refine J zR (AS (Ai (AF (AJ ?_))))
 obtain⟨x5,ex5,h⟩:=Bc h
 refine E zR (O zR A3 ?_)
 refine Ak (u:=vI x5) zR zR (by rw[ex5]) ?_
 refine AS ?_
 exact Ac (m2,l6,v8,x5) h (Nat.lt_succ_self _) tL (fun _ hw=>BJ.pick (H:=[_,_,_,_]) hw [1,2,3] 4 zR)
 replace h:=cF hc3 h
 refine Al (Aw (A9 (Au ?_)))
 exact Av (l5,v7) h tL (fun _ hw=>BJ.pick (H:=[_,_,_]) hw [2] 3 zR)
 obtain⟨l4,v6⟩:=x
 dsimp only at h
 unfold Id at h
 refine A4 [(11,v6)] (AE 5 1 v6 D7 l4::H) ?_ tL
 refine V (E zR (HE 0 zR B1 CW Bu zR zR (J zR (J zR (U (AM ?_))))))
 obtain rfl:=Option.some.inj h
 exact AY [] 1 zR zR zR
def KF(l1:List UInt8):Option (List UInt8×Int):=
 some (l1,0)
def GP(p2:List UInt8)(l2:List UInt8)(a2:Int)(nx_f_ref01_Xor_l1:List UInt8×List UInt8×Int→Option (List UInt8×Int))(a3:List UInt8):Option (List UInt8×Int):=
 (Aq p2 a2).bind fun c1=>
 (Pd a2 64).bind fun q3=>
 (Aq a3 q3).bind fun c2=>
 (CT 1 l2 [c1 ^^^ c2]).bind fun l3=>
 ret (wI (a2+1)) fun i_1=>
 nx_f_ref01_Xor_l1 (l3,a3,i_1)
def Gk(n:Nat)(p0:List UInt8)(p1:List UInt8)(p2:List UInt8)(nx_f_ref01_Xor_l1:List UInt8×List UInt8×Int→Option (List UInt8×Int))(l2:List UInt8)(a1:List UInt8)(a2:Int):Option (List UInt8×Int):=
 cond (decide (a2<(p2.length:Int)))
 (
  (Pd a2 64).bind fun q1=>
  cond (decide (q1=0))
  (
   (RX a2 64).bind fun q2=>
   (Fw n p0 (Ds q2) p1).bind fun y1=>
   GP p2 l2 a2 nx_f_ref01_Xor_l1 y1.1)
  (
   GP p2 l2 a2 nx_f_ref01_Xor_l1 a1))
 (
  KF l2)
def H3(n:Nat)(p0:List UInt8)(p1:List UInt8)(p2:List UInt8):Nat→(List UInt8×List UInt8×Int)→Option (List UInt8×Int):=Be fun nx x=>Gk n p0 p1 p2 nx x.1 x.2.1 x.2.2
def LL(n:Nat)(p0:List UInt8)(p1:List UInt8)(p2:List UInt8):Option (List UInt8×Int):=
 cond (((!decide ((p0.length:Int)=32))||(!decide ((p1.length:Int)=12)))||(decide (1048576<(p2.length:Int))))
 (
  some ([],2))
 (
  H3 n p0 p1 p2 n ([],[],0))
theorem Ye{n:Nat}{p0:List UInt8}{p1:List UInt8}{p2:List UInt8}{r:List UInt8×Int}(h:LL n p0 p1 p2=some r): BH Tryz.prog K w0 155 [vS p0,vS p1,vS p2] [] H (fun u M=>u=.tuple #[vS r.1,vI r.2]∧M=[]):=by
 unfold LL at h
 refine BH.enter Tryz.func155 rfl rfl ?_
 refine V (J zR (J zR (U (AD (V (E zR (BV zR Bu zR (O zR Bh (E zR ?_)))))))))
 refine C1 (c := !decide ((p1.length:Int)=12)) 16 4 20 zR (fun hb k=>?_) (fun hb k=>?_) ?_
 refine AA zR (AA zR (AA zR (Ad zR zR zR ?_)))
 exact k.mono tL
 refine E zR (BV zR Bu zR (O zR Bh (Ad zR zR zR ?_)))
 exact k.mono tL
 refine E zR ?_
 refine C1 (c:=decide (1048576<(p2.length:Int))) 21 4 25 zR (fun hb k=>?_) (fun hb k=>?_) ?_
 refine AA zR (AA zR (AA zR (Ad zR zR zR ?_)))
 exact k.mono tL
 refine E zR (BV zR Bu zR (O zR CD (Ad zR zR zR ?_)))
 exact k.mono tL
 refine U ?_
 refine AG zR (fun hc1=>?_) (fun hc1=>?_)
 replace h:=cT hc1 h
 refine V (J zR (J zR (U (AM (Ab ?_)))))
 obtain rfl:=Option.some.inj h
 exact AY [] 0 zR zR zR
 replace h:=cF hc1 h
 refine AH (AF (V (Bx 5 1 D7 (J zR (U (V (J zR (U ?_))))))))
 refine A1 (α:=List UInt8×Value) (fun x=>KF x.1=some r) (fun x=>[(8,x.2)]) (fun x=>AE 5 1 x.2 D7 x.1::H) ?_ (fun x D h=>?_)
 refine V (J zR (U (AL ?_)))
 refine SX.heap (SX.mono (Ay (α:=Nat×List UInt8×Value×List UInt8×Int) (fun x=>H3 n p0 p1 p2 x.1 (x.2.1,x.2.2.2.1,x.2.2.2.2)=some r) (fun x=>[(0,vS p0),(1,vS p1),(2,vS p2),(8,x.2.2.1),(9,vS x.2.2.2.1),(10,vI x.2.2.2.2)]) (fun x=>AE 5 1 x.2.2.1 D7 x.2.1::H) (fun x=>x.1) (fun x D h=>?_) (n,[],.slice none 0 0,[],0) h) tL) (fun _ hw=>BJ.pick (H:=[_]) hw [0] 1 zR)
 obtain⟨m1,l2,v2,a1,a2⟩:=x
 dsimp only at h
 rcases m1 with _ | m1
 cases (show(none:Option _)=some r from h)
 replace h:Gk n p0 p1 p2 (H3 n p0 p1 p2 m1) l2 a1 a2=some r:=h
 unfold Gk at h
 refine A4 [(0,vS p0),(1,vS p1),(2,vS p2),(8,v2),(9,vS a1),(10,vI a2)] (AE 5 1 v2 D7 l2::H) ?_ tL
 refine AD (V (E zR (E zR (BV zR Bu zR (O zR Ao (U ?_))))))
 refine AG zR (fun hc2=>?_) (fun hc2=>?_)
 replace h:=cT hc2 h
 refine AH (AF (AD (AL ?_)))
 refine A1 (α:=List UInt8) (fun x=>GP p2 l2 a2 (H3 n p0 p1 p2 m1) x=some r) (fun x=>[(0,vS p0),(1,vS p1),(2,vS p2),(8,v2),(9,vS x),(10,vI a2)]) (fun x=>AE 5 1 v2 D7 l2::H) ?_ (fun a3 D h=>?_)
 refine V ?_
 obtain⟨q1,hq1,h⟩:=bnd h
 refine E zR (O zR (OW hq1) (O zR Bq (U ?_)))
 refine AG zR (fun hc3=>?_) (fun hc3=>?_)
 replace h:=cT hc3 h
 refine V ?_
 obtain⟨q2,hq2,h⟩:=bnd h
 obtain⟨y1,hy1,h⟩:=bnd h
 refine E zR (E zR (O zR (Tz hq2) (As zR zR (L5 Ef Bg) (E zR (AX 0 lc (Vu hy1) zR (E zR (Ap zR zR zR ?_)))))))
 refine Ap zR zR zR (J zR (J zR (U (AJ (E zR (J zR (AS ?_)))))))
 exact Av y1.1 h tL (fun _ hw=>BJ.pick (H:=[_]) hw [0] 1 zR)
 replace h:=cF hc3 h
 refine AH ?_
 exact Av a1 h tL (fun _ hw=>BJ.pick (H:=[_]) hw [0] 1 zR)
 unfold GP at h
 refine A4 [(0,vS p0),(1,vS p1),(2,vS p2),(8,v2),(9,vS a3),(10,vI a2)] (AE 5 1 v2 D7 l2::H) ?_ tL
 obtain⟨c1,hc1,h⟩:=bnd h
 obtain⟨q3,hq3,h⟩:=bnd h
 obtain⟨c2,hc2,h⟩:=bnd h
 obtain⟨l3,hl3,h⟩:=bnd h
 refine Aj CJ [] (BY [(true,0),(true,1),(true,2),(true,3),(true,4),(true,5),(true,6),(true,7),(true,8),(false,9)] (.last 10 (Pl.of [(false,11)]))) zK (E zR (E zR (E zR (G9 hc1 zR Bu zR zR (E zR (E zR (O zR (OW hq3) ?_)))))))
 refine G9 hc2 zR Bu zR zR (O zR Ov ?_)
 refine Bd [_] zR B1 Iv J7 ⟨zR,zT⟩ zR zR zR (by simp[Value.cells]) zR zR (fun _=>trivial) fun b1=>?_
 refine Bi D7 1 ([c1 ^^^ c2]:List UInt8) zR (fun _=>rfl) zR ?_
 refine BE ?_
 refine B7 1 hl3 (sz:=1) (enc:=D7) (fun _=>rfl) zR B1 Iv Uy J7 zR zD zR zR zR zR (Ba (sz:=1) (enc:=D7) 0 (fun _=>rfl) zR) (by simp[D7,Value.oneCell']) (fun _=>trivial) fun v3=>?_
 refine J zR (AS (Ai (AF (AJ ?_))))
 obtain⟨i_1,ei_1,h⟩:=Bc h
 refine E zR (O zR A3 ?_)
 refine Ak (u:=vI i_1) zR zR (by rw[ei_1]) ?_
 refine AS ?_
 exact Ac (m1,l3,v3,a3,i_1) h (Nat.lt_succ_self _) tL (fun _ hw=>BJ.pick (H:=[_,_]) hw [1] 2 zR)
 replace h:=cF hc2 h
 refine Al (Aw (A9 (Au ?_)))
 exact Av (l2,v2) h tL (fun _ hw=>BJ.pick (H:=[_]) hw [0] 1 zR)
 obtain⟨l1,v1⟩:=x
 dsimp only at h
 unfold KF at h
 refine A4 [(8,v1)] (AE 5 1 v1 D7 l1::H) ?_ tL
 refine V (E zR (HE 0 zR B1 CW Bu zR zR (J zR (J zR (U (AM ?_))))))
 obtain rfl:=Option.some.inj h
 exact AY [] 1 zR zR zR
end

/- Plain functions of the references and the laws, printed from the loaded program, and the walks that show that the program computes them. Condition: the plain function yields. -/
section
variable {K:Nat→Prop}{w0:World}{H:List AT}
def Bm(p0:UInt32)(p1:Int):Option UInt32:=
 (QB p1).bind fun n1=>
 (QB (wI (32-p1))).bind fun n2=>
 ret ((shr32 p0 n1) ||| (shl32 p0 n2)) fun x1=>
 some x1
theorem DS{p0:UInt32}{p1:Int}{r:UInt32}(h:Bm p0 p1=some r): BH Tryz.prog K w0 219 [Z p0,vI p1] [] H (fun u M=>u=Z r∧M=[]):=by
 unfold Bm at h
 refine BH.enter Tryz.func219 rfl rfl ?_
 refine V (J zR (U (AD ?_)))
 obtain⟨n1,hn1,h⟩:=bnd h
 obtain⟨n2,hn2,h⟩:=bnd h
 obtain⟨x1,ex1,h⟩:=Bc h
 refine Aj CJ [] (Pl.of [(true,0),(true,1),(true,2),(true,3),(true,4),(true,5),(true,6),(true,7),(true,8)]) zK (E zR (E zR (O zR (Ue hn1) (E zR (E zR (O zR Bp (O zR (QM hn2) ?_)))))))
 refine O zR DF ?_
 refine Ak (u:=Z x1) zR zR (by rw[ex1]) ?_
 refine U (AM ?_)
 obtain rfl:=Option.some.inj h
 exact AY [] 0 zR zR zR
def Kr:Option (List UInt32):=
 some [1779033703,3144134277,1013904242,2773480762,1359893119,2600822924,528734635,1541459225]
theorem Wg{r:List UInt32}(h:Kr=some r): BH Tryz.prog K w0 198 [] [] H (fun u M=>∃v0:Value,u=v0∧M=[AE 29 1 v0 BI r]):=by
 unfold Kr at h
 refine BH.enter Tryz.func198 rfl rfl ?_
 refine V (Bx 29 1 BI (J zR (U (V ?_))))
 refine Bd [_,_,_,_,_,_,_,_] zR Bz BQ Jq ⟨zR,zR,zR,zR,zR,zR,zR,zR,zT⟩ zR zR zR (by simp[Value.cells]) zR zR (fun _=>trivial) fun b1=>?_
 refine Bi BI 1 ([1779033703,3144134277,1013904242,2773480762,1359893119,2600822924,528734635,1541459225]:List UInt32) zR (fun _=>rfl) zR ?_
 refine J zR (U (AM ?_))
 obtain rfl:=Option.some.inj h
 exact AU (Co zR zR) (AV (M:=[_]) ⟨(.slice (some ⟨b1,0,none⟩) 8 8),zR,zR⟩ fun _ hw=>BJ.pick (H:=[_,_]) hw [0] 2 zR)
def Jf(l9:List UInt32):Option (List UInt32):=
 some l9
def F2(p0:List UInt32)(nx_f_ref02_part_l3:List UInt32×Int→Option (List UInt32))(l10:List UInt32)(a3:Int):Option (List UInt32):=
 cond (decide (a3<8))
 (
  (Aq l10 a3).bind fun x27=>
  (Aq p0 a3).bind fun x28=>
  (Aq l10 a3).bind fun x29=>
  (Ek l10 a3 (x27+x28)).bind fun l11=>
  ret (wI (a3+1)) fun x30=>
  nx_f_ref02_part_l3 (l11,x30))
 (
  Jf l10)
def Jd(p0:List UInt32):Nat→(List UInt32×Int)→Option (List UInt32):=Be fun nx x=>F2 p0 nx x.1 x.2
def Fl(n:Nat)(p0:List UInt32)(l7:List UInt32):Option (List UInt32):=
 Jd p0 n (l7,0)
def F6(n:Nat)(T:List UInt32)(p0:List UInt32)(l1:List UInt32)(nx_f_ref02_part_l2:List UInt32×Int→Option (List UInt32))(l8:List UInt32)(a2:Int):Option (List UInt32):=
 cond (decide (a2<64))
 (
  (Aq l8 0).bind fun x6=>
  (Aq l8 4).bind fun x7=>
  (Aq l8 7).bind fun x8=>
  (Bm x7 6).bind fun y5=>
  (Bm x7 11).bind fun y6=>
  (Bm x7 25).bind fun y7=>
  (Aq l8 5).bind fun x9=>
  (Aq l8 6).bind fun x10=>
  (Aq T a2).bind fun x11=>
  (Aq l1 a2).bind fun x12=>
  ret ((((x8+((y5 ^^^ y6) ^^^ y7))+((x7 &&& x9) ^^^ ((4294967295 ^^^ x7) &&& x10)))+x11)+x12) fun x13=>
  (Bm x6 2).bind fun y8=>
  (Bm x6 13).bind fun y9=>
  (Bm x6 22).bind fun y10=>
  (Aq l8 1).bind fun x14=>
  (Aq l8 2).bind fun x15=>
  (Aq l8 1).bind fun x16=>
  (Aq l8 2).bind fun x17=>
  ret (((y8 ^^^ y9) ^^^ y10)+(((x6 &&& x14) ^^^ (x6 &&& x15)) ^^^ (x16 &&& x17))) fun x18=>
  (Aq l8 0).bind fun x19=>
  (Aq l8 1).bind fun x20=>
  (Aq l8 2).bind fun x21=>
  (Aq l8 3).bind fun x22=>
  (Aq l8 4).bind fun x23=>
  (Aq l8 5).bind fun x24=>
  (Aq l8 6).bind fun x25=>
  ret (wI (a2+1)) fun x26=>
  nx_f_ref02_part_l2 ([x13+x18,x19,x20,x21,x22+x13,x23,x24,x25],x26))
 (
  Fl n p0 l8)
def Jk(n:Nat)(T:List UInt32)(p0:List UInt32)(l1:List UInt32):Nat→(List UInt32×Int)→Option (List UInt32):=Be fun nx x=>F6 n T p0 l1 nx x.1 x.2
def Fi(n:Nat)(T:List UInt32)(p0:List UInt32)(l1:List UInt32):Option (List UInt32):=
 (CT 4 [] p0).bind fun l6=>
 Jk n T p0 l1 n (l6,0)
def Fg(a1:Int)(nx_f_ref02_part_l1:List UInt32×Int→Option (List UInt32))(l3:List UInt32):Option (List UInt32):=
 ret (wI (a1+1)) fun x5=>
 nx_f_ref02_part_l1 (l3,x5)
def F7(n:Nat)(T:List UInt32)(p0:List UInt32)(p1:List UInt8)(nx_f_ref02_part_l1:List UInt32×Int→Option (List UInt32))(l2:List UInt32)(a1:Int):Option (List UInt32):=
 cond (decide (a1<64))
 (
  cond (decide (a1<16))
  (
   (Aq p1 (wI (4*a1))).bind fun c1=>
   (Aq p1 (wI ((wI (4*a1))+1))).bind fun c2=>
   (Aq p1 (wI ((wI (4*a1))+2))).bind fun c3=>
   (Aq p1 (wI ((wI (4*a1))+3))).bind fun c4=>
   (CT 4 l2 [(((shl32 c1.toUInt32 24) ||| (shl32 c2.toUInt32 16)) ||| (shl32 c3.toUInt32 8)) ||| c4.toUInt32]).bind fun l4=>
   Fg a1 nx_f_ref02_part_l1 l4)
  (
   (Aq l2 (wI (a1-15))).bind fun x1=>
   (Aq l2 (wI (a1-2))).bind fun x2=>
   (Aq l2 (wI (a1-16))).bind fun x3=>
   (Bm x1 7).bind fun y1=>
   (Bm x1 18).bind fun y2=>
   (Aq l2 (wI (a1-7))).bind fun x4=>
   (Bm x2 17).bind fun y3=>
   (Bm x2 19).bind fun y4=>
   (CT 4 l2 [((x3+((y1 ^^^ y2) ^^^ (shr32 x1 3)))+x4)+((y3 ^^^ y4) ^^^ (shr32 x2 10))]).bind fun l5=>
   Fg a1 nx_f_ref02_part_l1 l5))
 (
  Fi n T p0 l2)
def HI(n:Nat)(T:List UInt32)(p0:List UInt32)(p1:List UInt8):Nat→(List UInt32×Int)→Option (List UInt32):=Be fun nx x=>F7 n T p0 p1 nx x.1 x.2
def KB(n:Nat)(T:List UInt32)(p0:List UInt32)(p1:List UInt8):Option (List UInt32):=
 HI n T p0 p1 n ([],0)
theorem XA{n:Nat}{T:List UInt32}{v0_:Value}{p0:List UInt32}{p1:List UInt8}{r:List UInt32}(h:KB n T p0 p1=some r)(hT:LA K w0 2 64 T)(hs0_:Bn K w0 BI 1 v0_ p0):BH Tryz.prog K w0 199 [v0_,vS p1] [] H (fun u M=>∃v0:Value,u=v0∧M=[AE 29 1 v0 BI r]):=by
 unfold KB at h
 refine BH.enter Tryz.func199 rfl rfl ?_
 refine V (Bx 29 1 BI (J zR (U (V (Bx 29 1 BI (J zR (U ?_)))))))
 refine A1 (α:=List UInt32×Value) (fun x=>Fi n T p0 x.1=some r) (fun x=>[(0,v0_),(5,x.2)]) (fun x=>AE 29 1 x.2 BI x.1::H) ?_ (fun x D h=>?_)
 refine V (J zR (U (AL ?_)))
 refine SX.heap (SX.mono (Ay (α:=Nat×List UInt32×Value×Int) (fun x=>HI n T p0 p1 x.1 (x.2.1,x.2.2.2)=some r) (fun x=>[(0,v0_),(1,vS p1),(5,x.2.2.1),(6,vI x.2.2.2)]) (fun x=>AE 29 1 x.2.2.1 BI x.2.1::H) (fun x=>x.1) (fun x D h=>?_) (n,[],.slice none 0 0,0) h) tL) (fun _ hw=>BJ.pick (H:=[_,_]) hw [0] 2 zR)
 obtain⟨m1,l2,v2,a1⟩:=x
 dsimp only at h
 rcases m1 with _ | m1
 cases (show(none:Option _)=some r from h)
 replace h:F7 n T p0 p1 (HI n T p0 p1 m1) l2 a1=some r:=h
 unfold F7 at h
 refine A4 [(0,v0_),(1,vS p1),(5,v2),(6,vI a1)] (AE 29 1 v2 BI l2::H) ?_ tL
 refine AD (V (E zR (O zR Ao (U ?_))))
 refine AG zR (fun hc1=>?_) (fun hc1=>?_)
 replace h:=cT hc1 h
 refine AH (AF ?_)
 refine A1 (α:=List UInt32×Value) (fun x=>Fg a1 (HI n T p0 p1 m1) x.1=some r) (fun x=>[(0,v0_),(1,vS p1),(5,x.2),(6,vI a1)]) (fun x=>AE 29 1 x.2 BI x.1::H) ?_ (fun x D h=>?_)
 refine AL (AD (V (E zR (O zR Ao (U ?_)))))
 refine AG zR (fun hc2=>?_) (fun hc2=>?_)
 replace h:=cT hc2 h
 refine AD ?_
 obtain⟨c1,hc1,h⟩:=bnd h
 obtain⟨c2,hc2,h⟩:=bnd h
 obtain⟨c3,hc3,h⟩:=bnd h
 obtain⟨c4,hc4,h⟩:=bnd h
 obtain⟨l4,hl4,h⟩:=bnd h
 refine Aj CJ [] (BY [(true,0),(true,1),(true,2),(true,3),(true,4),(true,5),(true,6),(true,7),(true,8),(true,9),(true,10),(true,11),(true,12),(true,13),(true,14),(true,15),(true,16),(true,17),(true,18),(true,19),(true,20),(true,21),(true,22),(true,23),(true,24),(true,25),(true,26),(true,27),(true,28),(true,29),(false,30)] (.last 31 (Pl.of [(false,32)]))) zK (E zR (E zR (E zR (O zR Ja (G9 hc1 zR Bu zR zR (As zR zR (DG CW Bg) ?_))))))
 refine O zR (D4.shl32 (n:=24)) ?_
 refine E zR (E zR (O zR Ja (O zR A3 (G9 hc2 zR Bu zR zR (As zR zR (DG CW Bg) ?_)))))
 refine O zR (D4.shl32 (n:=16)) ?_
 refine O zR DF (E zR (E zR (O zR Ja (O zR A3 (G9 hc3 zR Bu zR zR (As zR zR (DG CW Bg) ?_))))))
 refine O zR (D4.shl32 (n:=8)) ?_
 refine O zR DF (E zR (E zR (O zR Ja (O zR A3 (G9 hc4 zR Bu zR zR (As zR zR (DG CW Bg) (O zR DF ?_)))))))
 refine Bd [_] zR Bz BQ Jq ⟨zR,zT⟩ zR zR zR (by simp[Value.cells]) zR zR (fun _=>trivial) fun b1=>?_
 refine Bi BI 1 ([(((shl32 c1.toUInt32 24) ||| (shl32 c2.toUInt32 16)) ||| (shl32 c3.toUInt32 8)) ||| c4.toUInt32]:List UInt32) zR (fun _=>rfl) zR ?_
 refine BE ?_
 refine B7 1 hl4 (sz:=1) (enc:=BI) (fun _=>rfl) zR Bz BQ QN Jq zR zD zR zR zR zR (Ba (sz:=1) (enc:=BI) 0 (fun _=>rfl) zR) (by simp[BI,Value.oneCell']) (fun _=>trivial) fun v4=>?_
 refine J zR (U (Al (Aw (Au ?_))))
 exact Av (l4,v4) h tL (fun _ hw=>BJ.pick (H:=[_,_]) hw [1] 2 zR)
 replace h:=cF hc2 h
 refine AH (AF (V ?_))
 obtain⟨x1,hx1,h⟩:=bnd h
 refine E zR (E zR (O zR Bp ?_))
 refine BF 0 hx1 zR Bz BQ zR zR zR fun g1 m2 cp1 hv1=>?_
 refine BR zR Az zR (BW (sz:=1) (enc:=BI) 0 0 (fun _=>rfl) zR hv1 hx1 zR) ?_
 refine J zR (U (V ?_))
 obtain⟨x2,hx2,h⟩:=bnd h
 refine E zR (E zR (O zR Bp ?_))
 refine BF 0 hx2 zR Bz BQ zR zR zR fun g2 m3 cp2 hv2=>?_
 refine BR zR Az zR (BW (sz:=1) (enc:=BI) 0 0 (fun _=>rfl) zR hv2 hx2 zR) ?_
 refine J zR (U ?_)
 obtain⟨x3,hx3,h⟩:=bnd h
 obtain⟨y1,hy1,h⟩:=bnd h
 obtain⟨y2,hy2,h⟩:=bnd h
 obtain⟨x4,hx4,h⟩:=bnd h
 obtain⟨y3,hy3,h⟩:=bnd h
 obtain⟨y4,hy4,h⟩:=bnd h
 obtain⟨l5,hl5,h⟩:=bnd h
 refine Aj CJ [0] (BY [(true,0),(true,1),(true,2),(true,3),(true,4),(true,5),(true,6),(true,8),(true,11),(true,12),(true,15),(true,16),(true,17),(true,18),(true,19),(true,21),(true,23),(true,26),(true,27),(false,7),(false,9),(true,10),(true,13),(true,14),(true,20),(false,22),(false,24),(true,25),(true,28),(true,29),(false,30)] (.last 31 (Pl.of [(false,32)]))) zK (E zR (E zR (E zR (O zR Bp ?_))))
 refine BF 0 hx3 zR Bz BQ zR zR zR fun g3 m4 cp3 hv3=>?_
 refine BR zR Az zR (BW (sz:=1) (enc:=BI) 0 0 (fun _=>rfl) zR hv3 hx3 zR) ?_
 refine E zR (E zR (E zR ?_))
 refine O zR (D4.shr32 (n:=3)) ?_
 refine E zR (E zR (O zR Bp ?_))
 refine BF 0 hx4 zR Bz BQ zR zR zR fun g4 m5 cp4 hv4=>?_
 refine BR zR Az zR (BW (sz:=1) (enc:=BI) 0 0 (fun _=>rfl) zR hv4 hx4 zR) ?_
 refine E zR (E zR (E zR ?_))
 refine O zR (D4.shr32 (n:=10)) ?_
 refine AP (vs:=[_,_]) (Hin:=[]) (Hr:=_::_) zR zR ⟨zR,zR,zT⟩ Lt zR zR (DS hy1) ?_
 rintro _ _ ⟨rfl,rfl⟩
 refine⟨⟨⟨0,rfl⟩,trivial⟩,?_⟩
 refine AP (vs:=[_,_]) (Hin:=[]) (Hr:=_::_) zR zR ⟨zR,zR,zT⟩ Lt zR zR (DS hy2) ?_
 rintro _ _ ⟨rfl,rfl⟩
 refine⟨⟨⟨0,rfl⟩,trivial⟩,?_⟩
 refine O zR B5 (O zR B5 (O zR BZ (O zR BZ ?_)))
 refine AP (vs:=[_,_]) (Hin:=[]) (Hr:=_::_) zR zR ⟨zR,zR,zT⟩ Lt zR zR (DS hy3) ?_
 rintro _ _ ⟨rfl,rfl⟩
 refine⟨⟨⟨0,rfl⟩,trivial⟩,?_⟩
 refine AP (vs:=[_,_]) (Hin:=[]) (Hr:=_::_) zR zR ⟨zR,zR,zT⟩ Lt zR zR (DS hy4) ?_
 rintro _ _ ⟨rfl,rfl⟩
 refine⟨⟨⟨0,rfl⟩,trivial⟩,?_⟩
 refine O zR B5 (O zR B5 (O zR BZ ?_))
 refine Bd [_] zR Bz BQ Jq ⟨zR,zT⟩ zR zR zR (by simp[Value.cells]) zR zR (fun _=>⟨⟨1,zR⟩,zT⟩) fun b2=>?_
 refine Bi BI 1 ([((x3+((y1 ^^^ y2) ^^^ (shr32 x1 3)))+x4)+((y3 ^^^ y4) ^^^ (shr32 x2 10))]:List UInt32) zR (fun _=>rfl) zR ?_
 refine BE ?_
 refine B7 1 hl5 (sz:=1) (enc:=BI) (fun _=>rfl) zR Bz BQ QN Jq zR zD zR zR zR zR (Ba (sz:=1) (enc:=BI) 0 (fun _=>rfl) zR) (by simp[BI,Value.oneCell']) (fun _=>trivial) fun v5=>?_
 refine J zR (AS (Ai ?_))
 exact Av (l5,v5) h tL (fun _ hw=>BJ.pick (H:=[_,_]) hw [1] 2 zR)
 obtain⟨l3,v3⟩:=x
 dsimp only at h
 unfold Fg at h
 refine A4 [(0,v0_),(1,vS p1),(5,v3),(6,vI a1)] (AE 29 1 v3 BI l3::H) ?_ tL
 refine AJ ?_
 obtain⟨x5,ex5,h⟩:=Bc h
 refine E zR (O zR A3 ?_)
 refine Ak (u:=vI x5) zR zR (by rw[ex5]) ?_
 refine AS ?_
 exact Ac (m1,l3,v3,x5) h (Nat.lt_succ_self _) tL (fun _ hw=>BJ.pick (H:=[_]) hw [0] 1 zR)
 replace h:=cF hc1 h
 refine Al (Aw (A9 (Au ?_)))
 exact Av (l2,v2) h tL (fun _ hw=>BJ.pick (H:=[_]) hw [0] 1 zR)
 obtain⟨l1,v1⟩:=x
 dsimp only at h
 unfold Fi at h
 refine A4 [(0,v0_),(5,v1)] (AE 29 1 v1 BI l1::H) ?_ tL
 refine V ?_
 obtain⟨l6,hl6,h⟩:=bnd h
 refine ZX (n:=8) BI zR Bz BQ QN Jq zR zR zR zR zR (fun _=>trivial) fun v6=>?_
 refine E zR ?_
 refine SS 0 hl6 hs0_ (sz:=1) (enc:=BI) (fun _=>rfl) zR Bz BQ QN Jq zR zD zR zR zR (by simp[BI,Value.oneCell']) (fun _=>trivial) fun v7=>?_
 refine J zR (U ?_)
 refine A1 (α:=List UInt32×Value) (fun x=>Fl n p0 x.1=some r) (fun x=>[(0,v0_),(9,x.2)]) (fun x=>AE 29 1 x.2 BI x.1::H) ?_ (fun x D h=>?_)
 refine V (J zR (U (AL ?_)))
 refine SX.heap (SX.mono (Ay (α:=Nat×List UInt32×Value×Int) (fun x=>Jk n T p0 l1 x.1 (x.2.1,x.2.2.2)=some r) (fun x=>[(0,v0_),(5,v1),(9,x.2.2.1),(10,vI x.2.2.2)]) (fun x=>AE 29 1 v1 BI l1::AE 29 1 x.2.2.1 BI x.2.1::H) (fun x=>x.1) (fun x D h=>?_) (n,l6,v7,0) h) tL) (fun _ hw=>BJ.pick (H:=[_,_]) hw [1,0] 2 zR)
 obtain⟨m6,l8,v9,a2⟩:=x
 dsimp only at h
 rcases m6 with _ | m6
 cases (show(none:Option _)=some r from h)
 replace h:F6 n T p0 l1 (Jk n T p0 l1 m6) l8 a2=some r:=h
 unfold F6 at h
 refine A4 [(0,v0_),(5,v1),(9,v9),(10,vI a2)] (AE 29 1 v1 BI l1::AE 29 1 v9 BI l8::H) ?_ tL
 refine AD (V (E zR (O zR Ao (U ?_))))
 refine AG zR (fun hc3=>?_) (fun hc3=>?_)
 replace h:=cT hc3 h
 refine AH (AF (AD (AL (V ?_))))
 obtain⟨x6,hx6,h⟩:=bnd h
 refine E zR ?_
 refine BF 1 hx6 zR Bz BQ zR zR zR fun g5 m7 cp5 hv5=>?_
 refine BR zR Az zR (BW (sz:=1) (enc:=BI) 1 0 (fun _=>rfl) zR hv5 hx6 zR) ?_
 refine J zR (U (V ?_))
 obtain⟨x7,hx7,h⟩:=bnd h
 refine E zR ?_
 refine BF 1 hx7 zR Bz BQ zR zR zR fun g6 m8 cp6 hv6=>?_
 refine BR zR Az zR (BW (sz:=1) (enc:=BI) 1 0 (fun _=>rfl) zR hv6 hx7 zR) ?_
 refine J zR (U (AD ?_))
 obtain⟨x8,hx8,h⟩:=bnd h
 obtain⟨y5,hy5,h⟩:=bnd h
 obtain⟨y6,hy6,h⟩:=bnd h
 obtain⟨y7,hy7,h⟩:=bnd h
 obtain⟨x9,hx9,h⟩:=bnd h
 obtain⟨x10,hx10,h⟩:=bnd h
 obtain⟨x11,hx11,h⟩:=bnd h
 obtain⟨x12,hx12,h⟩:=bnd h
 obtain⟨x13,ex13,h⟩:=Bc h
 refine Aj CJ [0,1] (BY [(true,0),(true,1),(true,2),(true,3),(true,5),(true,8),(true,12),(true,13),(true,14),(true,15),(true,16),(true,17),(true,18),(true,19),(true,20),(true,21),(true,22),(true,23),(true,25),(true,26),(true,27),(true,29),(true,30),(true,31),(true,32),(false,4),(false,6),(true,7),(false,9),(false,10),(false,11),(false,24),(false,28)] (.last 33 (Pl.of [(false,34)]))) zK (E zR ?_)
 refine BF 1 hx8 zR Bz BQ zR zR zR fun g7 m9 cp7 hv7=>?_
 refine BR zR Az zR (BW (sz:=1) (enc:=BI) 1 0 (fun _=>rfl) zR hv7 hx8 zR) ?_
 refine E zR (E zR (E zR (E zR (E zR ?_))))
 refine BF 1 hx9 zR Bz BQ zR zR zR fun g8 m10 cp8 hv8=>?_
 refine BR zR Az zR (BW (sz:=1) (enc:=BI) 1 0 (fun _=>rfl) zR hv8 hx9 zR) ?_
 refine O zR GA (E zR (Xa zR zR (E zR ?_)))
 refine BF 1 hx10 zR Bz BQ zR zR zR fun g9 m11 cp9 hv9=>?_
 refine BR zR Az zR (BW (sz:=1) (enc:=BI) 1 0 (fun _=>rfl) zR hv9 hx10 zR) ?_
 refine O zR GA (O zR B5 (E zR ?_))
 refine LM (xs:=T) hx11 zR O2 BQ zR zR hT.len ?_
 refine BR zR Az zR (nc hT hx11) (E zR (E zR ?_))
 refine BF 0 hx12 zR Bz BQ zR zR zR fun g10 m12 cp10 hv10=>?_
 refine BR zR Az zR (BW (sz:=1) (enc:=BI) 0 0 (fun _=>rfl) zR hv10 hx12 zR) ?_
 refine AP (vs:=[_,_]) (Hin:=[]) (Hr:=_::_::_) zR zR ⟨zR,zR,zT⟩ Lt zR zR (DS hy5) ?_
 rintro _ _ ⟨rfl,rfl⟩
 refine⟨⟨⟨0,rfl⟩,⟨1,rfl⟩,trivial⟩,?_⟩
 refine AP (vs:=[_,_]) (Hin:=[]) (Hr:=_::_::_) zR zR ⟨zR,zR,zT⟩ Lt zR zR (DS hy6) ?_
 rintro _ _ ⟨rfl,rfl⟩
 refine⟨⟨⟨0,rfl⟩,⟨1,rfl⟩,trivial⟩,?_⟩
 refine O zR B5 ?_
 refine AP (vs:=[_,_]) (Hin:=[]) (Hr:=_::_::_) zR zR ⟨zR,zR,zT⟩ Lt zR zR (DS hy7) ?_
 rintro _ _ ⟨rfl,rfl⟩
 refine⟨⟨⟨0,rfl⟩,⟨1,rfl⟩,trivial⟩,?_⟩
 refine O zR B5 (O zR BZ (O zR BZ (O zR BZ (BE (O zR BZ ?_)))))
 refine Ak (u:=Z x13) zR zR (by rw[ex13]) ?_
 refine U (AD ?_)
 obtain⟨y8,hy8,h⟩:=bnd h
 obtain⟨y9,hy9,h⟩:=bnd h
 obtain⟨y10,hy10,h⟩:=bnd h
 obtain⟨x14,hx14,h⟩:=bnd h
 obtain⟨x15,hx15,h⟩:=bnd h
 obtain⟨x16,hx16,h⟩:=bnd h
 obtain⟨x17,hx17,h⟩:=bnd h
 obtain⟨x18,ex18,h⟩:=Bc h
 refine Aj CJ [1] (BY [(true,0),(true,2),(true,5),(true,8),(true,9),(true,10),(true,11),(true,12),(true,13),(true,14),(true,15),(true,16),(true,17),(true,18),(true,19),(true,20),(true,21),(true,22),(true,23),(true,24),(true,25),(true,26),(false,1),(false,3),(true,4),(false,6),(false,7)] (.last 27 (Pl.of [(false,28)]))) zK (E zR (E zR (E zR (E zR (E zR ?_)))))
 refine BF 1 hx14 zR Bz BQ zR zR zR fun g11 m13 cp11 hv11=>?_
 refine BR zR Az zR (BW (sz:=1) (enc:=BI) 0 0 (fun _=>rfl) zR hv11 hx14 zR) ?_
 refine O zR GA (E zR (E zR ?_))
 refine BF 1 hx15 zR Bz BQ zR zR zR fun g12 m14 cp12 hv12=>?_
 refine BR zR Az zR (BW (sz:=1) (enc:=BI) 0 0 (fun _=>rfl) zR hv12 hx15 zR) ?_
 refine O zR GA (O zR B5 (E zR ?_))
 refine BF 1 hx16 zR Bz BQ zR zR zR fun g13 m15 cp13 hv13=>?_
 refine BR zR Az zR (BW (sz:=1) (enc:=BI) 0 0 (fun _=>rfl) zR hv13 hx16 zR) ?_
 refine E zR ?_
 refine BF 1 hx17 zR Bz BQ zR zR zR fun g14 m16 cp14 hv14=>?_
 refine BR zR Az zR (BW (sz:=1) (enc:=BI) 0 0 (fun _=>rfl) zR hv14 hx17 zR) ?_
 refine O zR GA (O zR B5 ?_)
 refine AP (vs:=[_,_]) (Hin:=[]) (Hr:=_::_::_) zR zR ⟨zR,zR,zT⟩ Lt zR zR (DS hy8) ?_
 rintro _ _ ⟨rfl,rfl⟩
 refine⟨⟨⟨1,rfl⟩,trivial⟩,?_⟩
 refine AP (vs:=[_,_]) (Hin:=[]) (Hr:=_::_::_) zR zR ⟨zR,zR,zT⟩ Lt zR zR (DS hy9) ?_
 rintro _ _ ⟨rfl,rfl⟩
 refine⟨⟨⟨1,rfl⟩,trivial⟩,?_⟩
 refine O zR B5 ?_
 refine AP (vs:=[_,_]) (Hin:=[]) (Hr:=_::_::_) zR zR ⟨zR,zR,zT⟩ Lt zR zR (DS hy10) ?_
 rintro _ _ ⟨rfl,rfl⟩
 refine⟨⟨⟨1,rfl⟩,trivial⟩,?_⟩
 refine O zR B5 (BE (O zR BZ ?_))
 refine Ak (u:=Z x18) zR zR (by rw[ex18]) ?_
 refine U ?_
 obtain⟨x19,hx19,h⟩:=bnd h
 obtain⟨x20,hx20,h⟩:=bnd h
 obtain⟨x21,hx21,h⟩:=bnd h
 obtain⟨x22,hx22,h⟩:=bnd h
 obtain⟨x23,hx23,h⟩:=bnd h
 obtain⟨x24,hx24,h⟩:=bnd h
 obtain⟨x25,hx25,h⟩:=bnd h
 refine Aj CJ [1] (BY [(true,0),(true,1),(true,2),(true,3),(true,4),(true,5),(true,6),(true,7),(true,8),(true,9),(true,10),(true,11),(true,12),(true,13),(true,14),(true,15),(true,16),(true,17),(true,18),(true,19),(true,20),(true,21),(true,22),(true,23),(true,24),(true,25)] (.last 26 (Pl.of [(false,27)]))) zK (E zR (E zR (O zR BZ (E zR ?_))))
 refine BF 1 hx19 zR Bz BQ zR zR zR fun g15 m17 cp15 hv15=>?_
 refine BR zR Az zR (BW (sz:=1) (enc:=BI) 0 0 (fun _=>rfl) zR hv15 hx19 zR) ?_
 refine E zR ?_
 refine BF 1 hx20 zR Bz BQ zR zR zR fun g16 m18 cp16 hv16=>?_
 refine BR zR Az zR (BW (sz:=1) (enc:=BI) 0 0 (fun _=>rfl) zR hv16 hx20 zR) ?_
 refine E zR ?_
 refine BF 1 hx21 zR Bz BQ zR zR zR fun g17 m19 cp17 hv17=>?_
 refine BR zR Az zR (BW (sz:=1) (enc:=BI) 0 0 (fun _=>rfl) zR hv17 hx21 zR) ?_
 refine E zR ?_
 refine BF 1 hx22 zR Bz BQ zR zR zR fun g18 m20 cp18 hv18=>?_
 refine BR zR Az zR (BW (sz:=1) (enc:=BI) 0 0 (fun _=>rfl) zR hv18 hx22 zR) ?_
 refine E zR (O zR BZ (E zR ?_))
 refine BF 1 hx23 zR Bz BQ zR zR zR fun g19 m21 cp19 hv19=>?_
 refine BR zR Az zR (BW (sz:=1) (enc:=BI) 0 0 (fun _=>rfl) zR hv19 hx23 zR) ?_
 refine E zR ?_
 refine BF 1 hx24 zR Bz BQ zR zR zR fun g20 m22 cp20 hv20=>?_
 refine BR zR Az zR (BW (sz:=1) (enc:=BI) 0 0 (fun _=>rfl) zR hv20 hx24 zR) ?_
 refine E zR ?_
 refine BF 1 hx25 zR Bz BQ zR zR zR fun g21 m23 cp21 hv21=>?_
 refine BR zR Az zR (BW (sz:=1) (enc:=BI) 0 0 (fun _=>rfl) zR hv21 hx25 zR) ?_
 refine BE ?_
 refine Bd [_,_,_,_,_,_,_,_] zR Bz BQ Jq ⟨zR,zR,zR,zR,zR,zR,zR,zR,zT⟩ zR zR zR (by simp[Value.cells]) zR zR (fun _=>trivial) fun b3=>?_
 refine Bi BI 1 ([x13+x18,x19,x20,x21,x22+x13,x23,x24,x25]:List UInt32) zR (fun _=>rfl) zR ?_
 refine J zR (AS (Ai (AF (AJ ?_))))
 obtain⟨x26,ex26,h⟩:=Bc h
 refine E zR (O zR A3 ?_)
 refine Ak (u:=vI x26) zR zR (by rw[ex26]) ?_
 refine AS ?_
 exact Ac (m6,[x13+x18,x19,x20,x21,x22+x13,x23,x24,x25],.slice (some ⟨b3,0,none⟩) 8 8,x26) h (Nat.lt_succ_self _) tL (fun _ hw=>BJ.pick (H:=[_,_,_]) hw [1,0] 3 zR)
 replace h:=cF hc3 h
 refine Al (Aw (A9 (Au ?_)))
 exact Av (l8,v9) h tL (fun _ hw=>BJ.pick (H:=[_,_]) hw [1] 2 zR)
 obtain⟨l7,v8⟩:=x
 dsimp only at h
 unfold Fl at h
 refine A4 [(0,v0_),(9,v8)] (AE 29 1 v8 BI l7::H) ?_ tL
 refine A1 (α:=List UInt32×Value) (fun x=>Jf x.1=some r) (fun x=>[(9,x.2)]) (fun x=>AE 29 1 x.2 BI x.1::H) ?_ (fun x D h=>?_)
 refine V (J zR (U (AL ?_)))
 refine SX.heap (SX.mono (Ay (α:=Nat×List UInt32×Value×Int) (fun x=>Jd p0 x.1 (x.2.1,x.2.2.2)=some r) (fun x=>[(0,v0_),(9,x.2.2.1),(15,vI x.2.2.2)]) (fun x=>AE 29 1 x.2.2.1 BI x.2.1::H) (fun x=>x.1) (fun x D h=>?_) (n,l7,v8,0) h) tL) (fun _ hw=>BJ.pick (H:=[_]) hw [0] 1 zR)
 obtain⟨m24,l10,v11,a3⟩:=x
 dsimp only at h
 rcases m24 with _ | m24
 cases (show(none:Option _)=some r from h)
 replace h:F2 p0 (Jd p0 m24) l10 a3=some r:=h
 unfold F2 at h
 refine A4 [(0,v0_),(9,v11),(15,vI a3)] (AE 29 1 v11 BI l10::H) ?_ tL
 refine AD (V (E zR (O zR Ao (U ?_))))
 refine AG zR (fun hc4=>?_) (fun hc4=>?_)
 replace h:=cT hc4 h
 refine AH (AF (AD (AL ?_)))
 obtain⟨x27,hx27,h⟩:=bnd h
 obtain⟨x28,hx28,h⟩:=bnd h
 obtain⟨x29,hx29,h⟩:=bnd h
 obtain⟨l11,hl11,h⟩:=bnd h
 refine Aj CJ [0] (BY [(true,0),(true,1),(true,2),(true,3),(true,4),(true,5),(true,6),(true,7),(true,8),(true,9),(true,10),(true,11)] (.last 12 .nil)) zK (E zR (E zR (E zR (E zR ?_))))
 refine BF 0 hx27 zR Bz BQ zR zR zR fun g22 m25 cp22 hv22=>?_
 refine BR zR Az zR (BW (sz:=1) (enc:=BI) 0 0 (fun _=>rfl) zR hv22 hx27 zR) ?_
 refine E zR (E zR ?_)
 refine CP hx28 hs0_ zR Bz BQ zR zR fun be1 of1 hc5=>?_
 refine BR zR Az zR (Ck (j:=0) hc5 zR) ?_
 refine O zR BZ ?_
 refine BF 0 hx29 zR Bz BQ zR zR zR fun g23 m26 cp23 hv23=>?_
 refine BE ?_
 refine Cd (sz:=1) (enc:=BI) 0 hl11 (fun _=>rfl) zR zR zR zR zR hv23 BQ (by simp[Value.oneCell']) zT ?_
 refine AS (Ai (AF (AJ ?_)))
 obtain⟨x30,ex30,h⟩:=Bc h
 refine E zR (O zR A3 ?_)
 refine Ak (u:=vI x30) zR zR (by rw[ex30]) ?_
 refine AS ?_
 exact Ac (m24,l11,v11,x30) h (Nat.lt_succ_self _) tL (fun _ hw=>BJ.pick (H:=[_]) hw [0] 1 zR)
 replace h:=cF hc4 h
 refine Al (Aw (A9 (Au ?_)))
 exact Av (l10,v11) h tL (fun _ hw=>BJ.pick (H:=[_]) hw [0] 1 zR)
 obtain⟨l9,v10⟩:=x
 dsimp only at h
 unfold Jf at h
 refine A4 [(9,v10)] (AE 29 1 v10 BI l9::H) ?_ tL
 refine V (E zR (J zR (U (AM ?_))))
 obtain rfl:=Option.some.inj h
 exact AU (Co zR zR) (AV (M:=[_]) ⟨v10,zR,zR⟩ fun _ hw=>BJ.pick (H:=[_]) hw [0] 1 zR)
def Hd(p0:List UInt8)(a1:List UInt8):Option (List UInt8):=
 ret ((BK (p0.length:Int))*8) fun x1=>
 (EH a1 [(shr64 x1 56).toUInt8,(shr64 x1 48).toUInt8,(shr64 x1 40).toUInt8,(shr64 x1 32).toUInt8,(shr64 x1 24).toUInt8,(shr64 x1 16).toUInt8,(shr64 x1 8).toUInt8,x1.toUInt8]).bind fun s3=>
 some s3
def Ev(p0:List UInt8)(nx_f_ref02_Filled_l1:List UInt8→Option (List UInt8))(a2:List UInt8):Option (List UInt8):=
 (Pd (a2.length:Int) 64).bind fun q1=>
 cond (!decide (q1=56))
 (
  (EH a2 [0]).bind fun s2=>
  nx_f_ref02_Filled_l1 s2)
 (
  Hd p0 a2)
def Ha(p0:List UInt8):Nat→List UInt8→Option (List UInt8):=Be fun nx x=>Ev p0 nx x
def H2(n:Nat)(p0:List UInt8):Option (List UInt8):=
 (EH p0 [128]).bind fun s1=>
 Ha p0 n s1
theorem Ut{n:Nat}{p0:List UInt8}{r:List UInt8}(h:H2 n p0=some r): BH Tryz.prog K w0 197 [vS p0] [] H (fun u M=>u=vS r∧M=[]):=by
 unfold H2 at h
 refine BH.enter Tryz.func197 rfl rfl ?_
 refine V (J zR (U (V ?_)))
 obtain⟨s1,hs1,h⟩:=bnd h
 refine E zR (O zR (B4 hs1) (J zR (U ?_)))
 refine A1 (α:=List UInt8) (fun x=>Hd p0 x=some r) (fun x=>[(0,vS p0),(3,vS x)]) (fun x=>H) ?_ (fun a1 D h=>?_)
 refine AL ?_
 refine SX.heap (SX.mono (Ay (α:=Nat×List UInt8) (fun x=>Ha p0 x.1 x.2=some r) (fun x=>[(0,vS p0),(3,vS x.2)]) (fun x=>H) (fun x=>x.1) (fun x D h=>?_) (n,s1) h) tL) (fun _ hw=>BJ.pick (H:=[]) hw [] 0 zR)
 obtain⟨m1,a2⟩:=x
 dsimp only at h
 rcases m1 with _ | m1
 cases (show(none:Option _)=some r from h)
 replace h:Ev p0 (Ha p0 m1) a2=some r:=h
 unfold Ev at h
 refine A4 [(0,vS p0),(3,vS a2)] (H) ?_ tL
 refine AD (V ?_)
 obtain⟨q1,hq1,h⟩:=bnd h
 refine E zR (BV zR Bu zR (O zR (OW hq1) (O zR Bh (U ?_))))
 refine AG zR (fun hc1=>?_) (fun hc1=>?_)
 replace h:=cT hc1 h
 refine AH (AF (AL (AJ ?_)))
 obtain⟨s2,hs2,h⟩:=bnd h
 refine E zR (O zR (B4 hs2) (J zR (AS (Ai ?_))))
 exact Ac (m1,s2) h (Nat.lt_succ_self _) tL (fun _ hw=>BJ.pick (H:=[]) hw [] 0 zR)
 replace h:=cF hc1 h
 refine Al (Aw (A9 (Au ?_)))
 exact Av a2 h tL (fun _ hw=>BJ.pick (H:=[]) hw [] 0 zR)
 unfold Hd at h
 refine A4 [(0,vS p0),(3,vS a1)] (H) ?_ tL
 refine V ?_
 obtain⟨x1,ex1,h⟩:=Bc h
 refine E zR (BV zR Bu zR (As zR zR (Cr Ef CB) ?_))
 refine O zR (KV (b:=8)) ?_
 refine Ak (u:=Ag x1) zR zR (by rw[ex1]) ?_
 refine U (V ?_)
 obtain⟨s3,hs3,h⟩:=bnd h
 refine E zR (E zR ?_)
 refine O zR (D4.shr64 (n:=56)) ?_
 refine As zR zR (Fk CB CW) (E zR ?_)
 refine O zR (D4.shr64 (n:=48)) ?_
 refine As zR zR (Fk CB CW) (E zR ?_)
 refine O zR (D4.shr64 (n:=40)) ?_
 refine As zR zR (Fk CB CW) (E zR ?_)
 refine O zR (D4.shr64 (n:=32)) ?_
 refine As zR zR (Fk CB CW) (E zR ?_)
 refine O zR (D4.shr64 (n:=24)) ?_
 refine As zR zR (Fk CB CW) (E zR ?_)
 refine O zR (D4.shr64 (n:=16)) ?_
 refine As zR zR (Fk CB CW) (E zR ?_)
 refine O zR (D4.shr64 (n:=8)) ?_
 refine As zR zR (Fk CB CW) (E zR (As zR zR (Fk CB CW) ?_))
 refine Bd [_,_,_,_,_,_,_,_] zR B1 Iv J7 ⟨zR,zR,zR,zR,zR,zR,zR,zR,zT⟩ zR zR zR (by simp[Value.cells]) zR zR (fun _=>trivial) fun b1=>?_
 refine Bi D7 1 ([(shr64 x1 56).toUInt8,(shr64 x1 48).toUInt8,(shr64 x1 40).toUInt8,(shr64 x1 32).toUInt8,(shr64 x1 24).toUInt8,(shr64 x1 16).toUInt8,(shr64 x1 8).toUInt8,x1.toUInt8]:List UInt8) zR (fun _=>rfl) zR ?_
 refine HE 0 zR B1 CW Bu zR zR (O zR (B4 hs3) (J zR (U (AM ?_))))
 obtain rfl:=Option.some.inj h
 exact AY [] 1 zR zR zR
def KO(l3:List UInt8):Option (List UInt8):=
 some l3
def GZ(l1:List UInt32)(nx_f_ref02_Sum_l2:List UInt8×Int→Option (List UInt8))(l4:List UInt8)(a2:Int):Option (List UInt8):=
 cond (decide (a2<8))
 (
  (Aq l1 a2).bind fun x1=>
  (Aq l1 a2).bind fun x2=>
  (Aq l1 a2).bind fun x3=>
  (Aq l1 a2).bind fun x4=>
  (CT 1 l4 [(shr32 x1 24).toUInt8,(shr32 x2 16).toUInt8,(shr32 x3 8).toUInt8,x4.toUInt8]).bind fun l5=>
  ret (wI (a2+1)) fun i_2=>
  nx_f_ref02_Sum_l2 (l5,i_2))
 (
  KO l4)
def KN(l1:List UInt32):Nat→(List UInt8×Int)→Option (List UInt8):=Be fun nx x=>GZ l1 nx x.1 x.2
def H5(n:Nat)(l1:List UInt32):Option (List UInt8):=
 KN l1 n ([],0)
def Gb(n:Nat)(T:List UInt32)(y1:List UInt8)(nx_f_ref02_Sum_l1:List UInt32×Int→Option (List UInt8))(l2:List UInt32)(a1:Int):Option (List UInt8):=
 cond (decide (a1<(y1.length:Int)))
 (
  (JB y1 a1 (wI (a1+64))).bind fun s1=>
  (KB n T l2 s1).bind fun y3=>
  ret (wI (a1+64)) fun i_1=>
  nx_f_ref02_Sum_l1 (y3,i_1))
 (
  H5 n l2)
def KG(n:Nat)(T:List UInt32)(y1:List UInt8):Nat→(List UInt32×Int)→Option (List UInt8):=Be fun nx x=>Gb n T y1 nx x.1 x.2
def Ho(n:Nat)(T:List UInt32)(p0:List UInt8):Option (List UInt8):=
 (H2 n p0).bind fun y1=>
 (Kr).bind fun y2=>
 KG n T y1 n (y2,0)
theorem PX{n:Nat}{T:List UInt32}{p0:List UInt8}{r:List UInt8}(h:Ho n T p0=some r)(hT:LA K w0 2 64 T):BH Tryz.prog K w0 159 [vS p0] [] H (fun u M=>u=vS r∧M=[]):=by
 unfold Ho at h
 refine BH.enter Tryz.func159 rfl rfl ?_
 refine V (J zR (U (V ?_)))
 obtain⟨y1,hy1,h⟩:=bnd h
 refine E zR (AX 0 mH (Ut hy1) zR (J zR (U (V ?_))))
 obtain⟨y2,hy2,h⟩:=bnd h
 refine AP (vs:=[]) (Hin:=[]) (Hr:=_) zR zR zT lI zR zR (Wg hy2) ?_
 rintro v1 _ ⟨_,rfl,rfl⟩
 refine⟨trivial,?_⟩
 refine J zR (U ?_)
 refine A1 (α:=List UInt32×Value) (fun x=>H5 n x.1=some r) (fun x=>[(4,x.2)]) (fun x=>AE 29 1 x.2 BI x.1::H) ?_ (fun x D h=>?_)
 refine V (J zR (U (AL ?_)))
 refine SX.heap (SX.mono (Ay (α:=Nat×List UInt32×Value×Int) (fun x=>KG n T y1 x.1 (x.2.1,x.2.2.2)=some r) (fun x=>[(3,vS y1),(4,x.2.2.1),(5,vI x.2.2.2)]) (fun x=>AE 29 1 x.2.2.1 BI x.2.1::H) (fun x=>x.1) (fun x D h=>?_) (n,y2,v1,0) h) tL) (fun _ hw=>BJ.pick (H:=[_]) hw [0] 1 zR)
 obtain⟨m1,l2,v3,a1⟩:=x
 dsimp only at h
 rcases m1 with _ | m1
 cases (show(none:Option _)=some r from h)
 replace h:Gb n T y1 (KG n T y1 m1) l2 a1=some r:=h
 unfold Gb at h
 refine A4 [(3,vS y1),(4,v3),(5,vI a1)] (AE 29 1 v3 BI l2::H) ?_ tL
 refine AD (V (E zR (E zR (BV zR Bu zR (O zR Ao (U ?_))))))
 refine AG zR (fun hc1=>?_) (fun hc1=>?_)
 replace h:=cT hc1 h
 refine AH (AF (AD (AL (AJ ?_))))
 obtain⟨s1,hs1,h⟩:=bnd h
 obtain⟨y3,hy3,h⟩:=bnd h
 refine E zR (E zR (E zR (E zR (O zR A3 (mf hs1 zR Bu zR zR zR ?_)))))
 refine AP (vs:=[_,_]) (Hin:=[_]) (Hr:=_) zR zR ⟨zR,zR,zT⟩ nG zR zR (CC (B:=[_]) (Hin:=[]) fun K' w1 hk hB=>XA hy3 (hT.keeps hk) (Br (e:=29) (fun _=>rfl) (hB _ zS))) ?_
 rintro v4 _ ⟨_,rfl,_,rfl,rfl⟩
 refine⟨trivial,?_⟩
 refine J zR (AS (Ai (AF (AJ ?_))))
 obtain⟨i_1,ei_1,h⟩:=Bc h
 refine E zR (O zR A3 ?_)
 refine Ak (u:=vI i_1) zR zR (by rw[ei_1]) ?_
 refine AS ?_
 exact Ac (m1,y3,v4,i_1) h (Nat.lt_succ_self _) tL (fun _ hw=>BJ.pick (H:=[_,_]) hw [1] 2 zR)
 replace h:=cF hc1 h
 refine Al (Aw (A9 (Au ?_)))
 exact Av (l2,v3) h tL (fun _ hw=>BJ.pick (H:=[_]) hw [0] 1 zR)
 obtain⟨l1,v2⟩:=x
 dsimp only at h
 unfold H5 at h
 refine A4 [(4,v2)] (AE 29 1 v2 BI l1::H) ?_ tL
 refine V (Bx 5 1 D7 (J zR (U ?_)))
 refine A1 (α:=List UInt8×Value) (fun x=>KO x.1=some r) (fun x=>[(6,x.2)]) (fun x=>AE 5 1 x.2 D7 x.1::H) ?_ (fun x D h=>?_)
 refine V (J zR (U (AL ?_)))
 refine SX.heap (SX.mono (Ay (α:=Nat×List UInt8×Value×Int) (fun x=>KN l1 x.1 (x.2.1,x.2.2.2)=some r) (fun x=>[(4,v2),(6,x.2.2.1),(7,vI x.2.2.2)]) (fun x=>AE 29 1 v2 BI l1::AE 5 1 x.2.2.1 D7 x.2.1::H) (fun x=>x.1) (fun x D h=>?_) (n,[],.slice none 0 0,0) h) tL) (fun _ hw=>BJ.pick (H:=[_,_]) hw [1,0] 2 zR)
 obtain⟨m2,l4,v6,a2⟩:=x
 dsimp only at h
 rcases m2 with _ | m2
 cases (show(none:Option _)=some r from h)
 replace h:GZ l1 (KN l1 m2) l4 a2=some r:=h
 unfold GZ at h
 refine A4 [(4,v2),(6,v6),(7,vI a2)] (AE 29 1 v2 BI l1::AE 5 1 v6 D7 l4::H) ?_ tL
 refine AD (V (E zR (O zR Ao (U ?_))))
 refine AG zR (fun hc2=>?_) (fun hc2=>?_)
 replace h:=cT hc2 h
 refine AH (AF (AD (AL ?_)))
 obtain⟨x1,hx1,h⟩:=bnd h
 obtain⟨x2,hx2,h⟩:=bnd h
 obtain⟨x3,hx3,h⟩:=bnd h
 obtain⟨x4,hx4,h⟩:=bnd h
 obtain⟨l5,hl5,h⟩:=bnd h
 refine Aj CJ [0] (BY [(true,0),(true,1),(true,2),(true,3),(true,4),(true,5),(true,6),(true,7),(true,8),(true,9),(true,10),(true,11),(true,12),(true,13),(true,14),(true,15),(true,16),(true,17),(true,18),(true,19),(true,20),(true,21),(true,22),(true,23),(false,24)] (.last 25 (Pl.of [(false,26)]))) zK (E zR (E zR (E zR ?_)))
 refine BF 0 hx1 zR Bz BQ zR zR zR fun g1 m3 cp1 hv1=>?_
 refine BR zR Az zR (BW (sz:=1) (enc:=BI) 0 0 (fun _=>rfl) zR hv1 hx1 zR) ?_
 refine O zR (D4.shr32 (n:=24)) ?_
 refine As zR zR (CN Bg CW) (E zR (E zR ?_))
 refine BF 0 hx2 zR Bz BQ zR zR zR fun g2 m4 cp2 hv2=>?_
 refine BR zR Az zR (BW (sz:=1) (enc:=BI) 0 0 (fun _=>rfl) zR hv2 hx2 zR) ?_
 refine O zR (D4.shr32 (n:=16)) ?_
 refine As zR zR (CN Bg CW) (E zR (E zR ?_))
 refine BF 0 hx3 zR Bz BQ zR zR zR fun g3 m5 cp3 hv3=>?_
 refine BR zR Az zR (BW (sz:=1) (enc:=BI) 0 0 (fun _=>rfl) zR hv3 hx3 zR) ?_
 refine O zR (D4.shr32 (n:=8)) ?_
 refine As zR zR (CN Bg CW) (E zR (E zR ?_))
 refine BF 0 hx4 zR Bz BQ zR zR zR fun g4 m6 cp4 hv4=>?_
 refine BR zR Az zR (BW (sz:=1) (enc:=BI) 0 0 (fun _=>rfl) zR hv4 hx4 zR) ?_
 refine As zR zR (CN Bg CW) ?_
 refine Bd [_,_,_,_] zR B1 Iv J7 ⟨zR,zR,zR,zR,zT⟩ zR zR zR (by simp[Value.cells]) zR zR (fun _=>⟨⟨1,zR⟩,zT⟩) fun b1=>?_
 refine Bi D7 1 ([(shr32 x1 24).toUInt8,(shr32 x2 16).toUInt8,(shr32 x3 8).toUInt8,x4.toUInt8]:List UInt8) zR (fun _=>rfl) zR ?_
 refine BE ?_
 refine B7 2 hl5 (sz:=1) (enc:=D7) (fun _=>rfl) zR B1 Iv Uy J7 zR zD zR zR zR zR (Ba (sz:=1) (enc:=D7) 0 (fun _=>rfl) zR) (by simp[D7,Value.oneCell']) (fun _=>trivial) fun v7=>?_
 refine J zR (AS (Ai (AF (AJ ?_))))
 obtain⟨i_2,ei_2,h⟩:=Bc h
 refine E zR (O zR A3 ?_)
 refine Ak (u:=vI i_2) zR zR (by rw[ei_2]) ?_
 refine AS ?_
 exact Ac (m2,l5,v7,i_2) h (Nat.lt_succ_self _) tL (fun _ hw=>BJ.pick (H:=[_,_,_]) hw [1,2] 3 zR)
 replace h:=cF hc2 h
 refine Al (Aw (A9 (Au ?_)))
 exact Av (l4,v6) h tL (fun _ hw=>BJ.pick (H:=[_,_]) hw [1] 2 zR)
 obtain⟨l3,v5⟩:=x
 dsimp only at h
 unfold KO at h
 refine A4 [(6,v5)] (AE 5 1 v5 D7 l3::H) ?_ tL
 refine V (E zR (HE 0 zR B1 CW Bu zR zR (J zR (U (AM ?_)))))
 obtain rfl:=Option.some.inj h
 exact AY [] 1 zR zR zR
def Fh(p1:UInt8)(l2:List UInt8)(a2:Int)(nx_f_ref03_part_l1:List UInt8×Int→Option (List UInt8))(a3:UInt8):Option (List UInt8):=
 (CT 1 l2 [a3 ^^^ p1]).bind fun l3=>
 ret (wI (a2+1)) fun i_1=>
 nx_f_ref03_part_l1 (l3,i_1)
def Jl(l1:List UInt8):Option (List UInt8):=
 some l1
def F1(p1:UInt8)(a1:List UInt8)(nx_f_ref03_part_l1:List UInt8×Int→Option (List UInt8))(l2:List UInt8)(a2:Int):Option (List UInt8):=
 cond (decide (a2<64))
 (
  cond (decide (a2<(a1.length:Int)))
  (
   (Aq a1 a2).bind fun c1=>
   Fh p1 l2 a2 nx_f_ref03_part_l1 c1)
  (
   Fh p1 l2 a2 nx_f_ref03_part_l1 0))
 (
  Jl l2)
def HH(p1:UInt8)(a1:List UInt8):Nat→(List UInt8×Int)→Option (List UInt8):=Be fun nx x=>F1 p1 a1 nx x.1 x.2
def Fo(n:Nat)(p1:UInt8)(a1:List UInt8):Option (List UInt8):=
 HH p1 a1 n ([],0)
def IQ(n:Nat)(T:List UInt32)(p0:List UInt8)(p1:UInt8):Option (List UInt8):=
 cond (decide (64<(p0.length:Int)))
 (
  (Ho n T p0).bind fun y1=>
  Fo n p1 y1)
 (
  Fo n p1 p0)
theorem RZ{n:Nat}{T:List UInt32}{p0:List UInt8}{p1:UInt8}{r:List UInt8}(h:IQ n T p0 p1=some r)(hT:LA K w0 2 64 T):BH Tryz.prog K w0 200 [vS p0,Cw p1] [] H (fun u M=>u=vS r∧M=[]):=by
 unfold IQ at h
 refine BH.enter Tryz.func200 rfl rfl ?_
 refine V (J zR (U ?_))
 refine A1 (α:=List UInt8) (fun x=>Fo n p1 x=some r) (fun x=>[(0,vS x),(1,Cw p1)]) (fun x=>H) ?_ (fun a1 D h=>?_)
 refine V (E zR (BV zR Bu zR (O zR CD (U ?_))))
 refine AG zR (fun hc1=>?_) (fun hc1=>?_)
 replace h:=cT hc1 h
 refine AJ ?_
 obtain⟨y1,hy1,h⟩:=bnd h
 refine E zR (AX 0 Zc (PX hy1 hT) zR (J zR (AS ?_)))
 exact Av y1 h tL (fun _ hw=>BJ.pick (H:=[]) hw [] 0 zR)
 replace h:=cF hc1 h
 refine AH ?_
 exact Av p0 h tL (fun _ hw=>BJ.pick (H:=[]) hw [] 0 zR)
 unfold Fo at h
 refine A4 [(0,vS a1),(1,Cw p1)] (H) ?_ tL
 refine V (Bx 5 1 D7 (J zR (U ?_)))
 refine A1 (α:=List UInt8×Value) (fun x=>Jl x.1=some r) (fun x=>[(5,x.2)]) (fun x=>AE 5 1 x.2 D7 x.1::H) ?_ (fun x D h=>?_)
 refine V (J zR (U (AL ?_)))
 refine SX.heap (SX.mono (Ay (α:=Nat×List UInt8×Value×Int) (fun x=>HH p1 a1 x.1 (x.2.1,x.2.2.2)=some r) (fun x=>[(0,vS a1),(1,Cw p1),(5,x.2.2.1),(6,vI x.2.2.2)]) (fun x=>AE 5 1 x.2.2.1 D7 x.2.1::H) (fun x=>x.1) (fun x D h=>?_) (n,[],.slice none 0 0,0) h) tL) (fun _ hw=>BJ.pick (H:=[_]) hw [0] 1 zR)
 obtain⟨m1,l2,v2,a2⟩:=x
 dsimp only at h
 rcases m1 with _ | m1
 cases (show(none:Option _)=some r from h)
 replace h:F1 p1 a1 (HH p1 a1 m1) l2 a2=some r:=h
 unfold F1 at h
 refine A4 [(0,vS a1),(1,Cw p1),(5,v2),(6,vI a2)] (AE 5 1 v2 D7 l2::H) ?_ tL
 refine AD (V (E zR (O zR Ao (U ?_))))
 refine AG zR (fun hc2=>?_) (fun hc2=>?_)
 replace h:=cT hc2 h
 refine AH (AF (AD (AL (V (J zR (U ?_))))))
 refine A1 (α:=UInt8) (fun x=>Fh p1 l2 a2 (HH p1 a1 m1) x=some r) (fun x=>[(0,vS a1),(1,Cw p1),(5,v2),(6,vI a2),(7,Cw x)]) (fun x=>AE 5 1 v2 D7 l2::H) ?_ (fun a3 D h=>?_)
 refine V (E zR (E zR (BV zR Bu zR (O zR Ao (U ?_)))))
 refine AG zR (fun hc3=>?_) (fun hc3=>?_)
 replace h:=cT hc3 h
 refine AJ ?_
 obtain⟨c1,hc1,h⟩:=bnd h
 refine E zR (E zR (G9 hc1 zR Bu zR zR (J zR (AS ?_))))
 exact Av c1 h tL (fun _ hw=>BJ.pick (H:=[_]) hw [0] 1 zR)
 replace h:=cF hc3 h
 refine AH ?_
 exact Av 0 h tL (fun _ hw=>BJ.pick (H:=[_]) hw [0] 1 zR)
 unfold Fh at h
 refine A4 [(0,vS a1),(1,Cw p1),(5,v2),(6,vI a2),(7,Cw a3)] (AE 5 1 v2 D7 l2::H) ?_ tL
 refine AJ ?_
 obtain⟨l3,hl3,h⟩:=bnd h
 refine E zR (E zR (E zR (O zR Ov ?_)))
 refine Bd [_] zR B1 Iv J7 ⟨zR,zT⟩ zR zR zR (by simp[Value.cells]) zR zR (fun _=>trivial) fun b1=>?_
 refine Bi D7 1 ([a3 ^^^ p1]:List UInt8) zR (fun _=>rfl) zR ?_
 refine B7 1 hl3 (sz:=1) (enc:=D7) (fun _=>rfl) zR B1 Iv Uy J7 zR zD zR zR zR zR (Ba (sz:=1) (enc:=D7) 0 (fun _=>rfl) zR) (by simp[D7,Value.oneCell']) (fun _=>trivial) fun v3=>?_
 refine J zR (AS (Ai (AF (AJ ?_))))
 obtain⟨i_1,ei_1,h⟩:=Bc h
 refine E zR (O zR A3 ?_)
 refine Ak (u:=vI i_1) zR zR (by rw[ei_1]) ?_
 refine AS ?_
 exact Ac (m1,l3,v3,i_1) h (Nat.lt_succ_self _) tL (fun _ hw=>BJ.pick (H:=[_,_]) hw [1] 2 zR)
 replace h:=cF hc2 h
 refine Al (Aw (A9 (Au ?_)))
 exact Av (l2,v2) h tL (fun _ hw=>BJ.pick (H:=[_]) hw [0] 1 zR)
 obtain⟨l1,v1⟩:=x
 dsimp only at h
 unfold Jl at h
 refine A4 [(5,v1)] (AE 5 1 v1 D7 l1::H) ?_ tL
 refine V (E zR (HE 0 zR B1 CW Bu zR zR (J zR (U (AM ?_)))))
 obtain rfl:=Option.some.inj h
 exact AY [] 1 zR zR zR
def LB(n:Nat)(T:List UInt32)(p0:List UInt8)(p1:List UInt8):Option (List (List UInt8)):=
 (IQ n T p0 54).bind fun y1=>
 (EH y1 p1).bind fun s1=>
 (IQ n T p0 92).bind fun y2=>
 (Ho n T s1).bind fun y3=>
 (EH y2 y3).bind fun s2=>
 some [s1,s2]
theorem WD{n:Nat}{T:List UInt32}{p0:List UInt8}{p1:List UInt8}{r:List (List UInt8)}(h:LB n T p0 p1=some r)(hT:LA K w0 2 64 T):BH Tryz.prog K w0 160 [vS p0,vS p1] [] H (fun u M=>∃v0:Value,u=v0∧M=[AE 9 1 v0 eS r]):=by
 unfold LB at h
 refine BH.enter Tryz.func160 rfl rfl ?_
 refine V (Bx 9 1 eS (J zR (U (V ?_))))
 obtain⟨y1,hy1,h⟩:=bnd h
 obtain⟨s1,hs1,h⟩:=bnd h
 refine E zR (AX 0 fm (RZ hy1 hT) zR (E zR (O zR (B4 hs1) (J zR (U (V ?_))))))
 obtain⟨y2,hy2,h⟩:=bnd h
 obtain⟨y3,hy3,h⟩:=bnd h
 obtain⟨s2,hs2,h⟩:=bnd h
 refine E zR (E zR (AX 0 fm (RZ hy2 hT) zR (E zR (AX 0 Zc (PX hy3 hT) zR (O zR (B4 hs2) ?_)))))
 refine Bd [_,_] zR DU Gn OM ⟨zR,zR,zT⟩ zR zR zR (by simp[Value.cells]) zR zR (fun _=>trivial) fun b1=>?_
 refine Bi eS 1 ([s1,s2]:List (List UInt8)) zR (fun _=>rfl) zR ?_
 refine J zR (U (AM ?_))
 obtain rfl:=Option.some.inj h
 exact AU (Co zR zR) (AV (M:=[_]) ⟨(.slice (some ⟨b1,0,none⟩) 2 2),zR,zR⟩ fun _ hw=>BJ.pick (H:=[_,_]) hw [0] 2 zR)
def Hh(n:Nat)(T:List UInt32)(p0:List UInt8)(p1:List UInt8):Option (List UInt8):=
 (LB n T p0 p1).bind fun y1=>
 (Aq y1 1).bind fun x1=>
 (Ho n T x1).bind fun y2=>
 some y2
theorem SV{n:Nat}{T:List UInt32}{p0:List UInt8}{p1:List UInt8}{r:List UInt8}(h:Hh n T p0 p1=some r)(hT:LA K w0 2 64 T):BH Tryz.prog K w0 117 [vS p0,vS p1] [] H (fun u M=>u=vS r∧M=[]):=by
 unfold Hh at h
 refine BH.enter Tryz.func117 rfl rfl ?_
 refine V (J zR (U (V ?_)))
 obtain⟨y1,hy1,h⟩:=bnd h
 obtain⟨x1,hx1,h⟩:=bnd h
 obtain⟨y2,hy2,h⟩:=bnd h
 refine E zR (E zR ?_)
 refine AP (vs:=[_,_]) (Hin:=[]) (Hr:=_) zR zR ⟨zR,zR,zT⟩ mY zR zR (WD hy1 hT) ?_
 rintro v1 _ ⟨_,rfl,rfl⟩
 refine⟨trivial,?_⟩
 refine BF 0 hx1 zR DU Gn zR zR zR fun g1 m1 cp1 hv1=>?_
 refine BR zR EZ zR (BW (sz:=1) (enc:=eS) 0 0 (fun _=>rfl) zR hv1 hx1 zR) ?_
 refine AX 0 Zc (PX hy2 hT) zR (J zR (U (AM ?_)))
 obtain rfl:=Option.some.inj h
 exact AY [] 1 zR zR zR
def Hm(p2:Int)(a1:List UInt8):Option (List UInt8×Int):=
 (JB a1 0 p2).bind fun s4=>
 some (s4,0)
def E1(n:Nat)(T:List UInt32)(p0:List UInt8)(p1:List UInt8)(p2:Int)(nx_f_ref03_Expand_l1:List UInt8×List UInt8×Int→Option (List UInt8×Int))(a2:List UInt8)(a3:List UInt8)(a4:Int):Option (List UInt8×Int):=
 cond (decide ((a2.length:Int)<p2))
 (
  (EH a3 p1).bind fun s1=>
  (EH s1 [HO a4]).bind fun s2=>
  (Hh n T p0 s2).bind fun y1=>
  (EH a2 y1).bind fun s3=>
  ret (wI (a4+1)) fun i_1=>
  nx_f_ref03_Expand_l1 (s3,y1,i_1))
 (
  Hm p2 a2)
def Hi(n:Nat)(T:List UInt32)(p0:List UInt8)(p1:List UInt8)(p2:Int):Nat→(List UInt8×List UInt8×Int)→Option (List UInt8×Int):=Be fun nx x=>E1 n T p0 p1 p2 nx x.1 x.2.1 x.2.2
def GM(n:Nat)(T:List UInt32)(p0:List UInt8)(p1:List UInt8)(p2:Int):Option (List UInt8×Int):=
 cond ((decide (p2<0))||(decide (8160<p2)))
 (
  some ([],2))
 (
  Hi n T p0 p1 p2 n ([],[],1))
theorem Ph{n:Nat}{T:List UInt32}{p0:List UInt8}{p1:List UInt8}{p2:Int}{r:List UInt8×Int}(h:GM n T p0 p1 p2=some r)(hT:LA K w0 2 64 T):BH Tryz.prog K w0 158 [vS p0,vS p1,vI p2] [] H (fun u M=>u=.tuple #[vS r.1,vI r.2]∧M=[]):=by
 unfold GM at h
 refine BH.enter Tryz.func158 rfl rfl ?_
 refine V (J zR (J zR (U (AD (V (E zR (O zR Ao (E zR ?_))))))))
 refine C1 (c:=decide (8160<p2)) 13 3 16 zR (fun hb k=>?_) (fun hb k=>?_) ?_
 refine AA zR (AA zR (Ad zR zR zR ?_))
 exact k.mono tL
 refine E zR (O zR CD (Ad zR zR zR ?_))
 exact k.mono tL
 refine U ?_
 refine AG zR (fun hc1=>?_) (fun hc1=>?_)
 replace h:=cT hc1 h
 refine V (J zR (J zR (U (AM (Ab ?_)))))
 obtain rfl:=Option.some.inj h
 exact AY [] 0 zR zR zR
 replace h:=cF hc1 h
 refine AH (AF (V (J zR (U (V (J zR (U ?_)))))))
 refine A1 (α:=List UInt8) (fun x=>Hm p2 x=some r) (fun x=>[(2,vI p2),(8,vS x)]) (fun x=>H) ?_ (fun a1 D h=>?_)
 refine V (J zR (U (AL ?_)))
 refine SX.heap (SX.mono (Ay (α:=Nat×List UInt8×List UInt8×Int) (fun x=>Hi n T p0 p1 p2 x.1 (x.2.1,x.2.2.1,x.2.2.2)=some r) (fun x=>[(0,vS p0),(1,vS p1),(2,vI p2),(8,vS x.2.1),(9,vS x.2.2.1),(10,vI x.2.2.2)]) (fun x=>H) (fun x=>x.1) (fun x D h=>?_) (n,[],[],1) h) tL) (fun _ hw=>BJ.pick (H:=[]) hw [] 0 zR)
 obtain⟨m1,a2,a3,a4⟩:=x
 dsimp only at h
 rcases m1 with _ | m1
 cases (show(none:Option _)=some r from h)
 replace h:E1 n T p0 p1 p2 (Hi n T p0 p1 p2 m1) a2 a3 a4=some r:=h
 unfold E1 at h
 refine A4 [(0,vS p0),(1,vS p1),(2,vI p2),(8,vS a2),(9,vS a3),(10,vI a4)] (H) ?_ tL
 refine AD (V (E zR (BV zR Bu zR (E zR (O zR Ao (U ?_))))))
 refine AG zR (fun hc2=>?_) (fun hc2=>?_)
 replace h:=cT hc2 h
 refine AH (AF (AD (AL (V ?_))))
 obtain⟨s1,hs1,h⟩:=bnd h
 obtain⟨s2,hs2,h⟩:=bnd h
 obtain⟨y1,hy1,h⟩:=bnd h
 refine E zR (E zR (E zR (O zR (B4 hs1) (E zR (As zR zR (PH Ef CW) ?_)))))
 refine Bd [_] zR B1 Iv J7 ⟨zR,zT⟩ zR zR zR (by simp[Value.cells]) zR zR (fun _=>trivial) fun b1=>?_
 refine Bi D7 1 ([HO a4]:List UInt8) zR (fun _=>rfl) zR ?_
 refine HE 0 zR B1 CW Bu zR zR (O zR (B4 hs2) (AX 0 fX (SV hy1 hT) zR (J zR (U (AJ ?_)))))
 obtain⟨s3,hs3,h⟩:=bnd h
 refine E zR (E zR (O zR (B4 hs3) (J zR (AS (Ai (AF (AJ ?_)))))))
 obtain⟨i_1,ei_1,h⟩:=Bc h
 refine E zR (O zR A3 ?_)
 refine Ak (u:=vI i_1) zR zR (by rw[ei_1]) ?_
 refine AS ?_
 exact Ac (m1,s3,y1,i_1) h (Nat.lt_succ_self _) tL (fun _ hw=>BJ.pick (H:=[_]) hw [] 1 zR)
 replace h:=cF hc2 h
 refine Al (Aw (A9 (Au ?_)))
 exact Av a2 h tL (fun _ hw=>BJ.pick (H:=[]) hw [] 0 zR)
 unfold Hm at h
 refine A4 [(2,vI p2),(8,vS a1)] (H) ?_ tL
 refine V ?_
 obtain⟨s4,hs4,h⟩:=bnd h
 refine E zR (E zR (bO hs4 zR Bu zR zR (J zR (J zR (U (AM ?_))))))
 obtain rfl:=Option.some.inj h
 exact AY [] 0 zR zR zR
end

/- Plain functions of the references and the laws, printed from the loaded program, and the walks that show that the program computes them. Condition: the plain function yields. -/
section
variable {K:Nat→Prop}{w0:World}{H:List AT}
def IH(n:Nat)(T:List UInt32)(p0:BC):Option (List UInt8×List UInt8×Int):=
 (HD n [p0]).bind fun y1=>
 cond (!y1)
 (
  some ([],[],40))
 (
  (EH [115,101,97,108] [p0.gen.toUInt8,(shr32 p0.gen 8).toUInt8,(shr32 p0.gen 16).toUInt8,(shr32 p0.gen 24).toUInt8]).bind fun s1=>
  (GM n T p0.secret s1 32).bind fun y2=>
  (EH [98,105,110,100] [p0.gen.toUInt8,(shr32 p0.gen 8).toUInt8,(shr32 p0.gen 16).toUInt8,(shr32 p0.gen 24).toUInt8]).bind fun s2=>
  (GM n T p0.secret s2 32).bind fun y3=>
  some (y2.1,y3.1,0))
theorem RN{n:Nat}{T:List UInt32}{p0:BC}{r:List UInt8×List UInt8×Int}(h:IH n T p0=some r)(hT:LA K w0 2 64 T):BH Tryz.prog K w0 116 [.agg (Ax p0).toArray] [] H (fun u M=>u=.tuple #[vS r.1,vS r.2.1,vI r.2.2]∧M=[]):=by
 unfold IH at h
 refine BH.enter Tryz.func116 rfl rfl ?_
 refine V ?_
 refine BU zR zR (fun _=>trivial) fun b1=>?_
 refine J zR (J zR (J zR (U (V ?_))))
 obtain⟨y1,hy1,h⟩:=bnd h
 refine Aa [Z p0.gen,vS p0.secret] zR JA zR zR (AZ 0 zR) ?_
 refine Bd [_] zR Jr Ej IT ⟨zR,zT⟩ zR zR zR (by simp[Value.cells]) zR zR (fun _=>trivial) fun b2=>?_
 refine Bi Ax 2 ([p0]:List BC) zR (fun _=>rfl) zR ?_
 refine AP (vs:=[_]) (Hin:=[_]) (Hr:=_::_) zR zR ⟨zR,zT⟩ fp zR zR (CC (B:=[_]) (Hin:=[]) fun K' w1 hk hB=>QH hy1 (Br (e:=138) (fun _=>rfl) (hB _ zS))) ?_
 rintro _ _ ⟨_,rfl,rfl,rfl⟩
 refine⟨trivial,?_⟩
 refine J zR (U (AD (V (E zR (B9 zR zR (U ?_))))))
 refine AG zR (fun hc1=>?_) (fun hc1=>?_)
 replace h:=cT hc1 h
 refine V (J zR (J zR (J zR (U (AM (Ab ?_))))))
 obtain rfl:=Option.some.inj h
 exact AY [] 2 zR zR zR
 replace h:=cF hc1 h
 refine AH (AF (V (AB zR FO (AC 1 Az zR (As zR zR (CN Bg CW) (AB zR FO (AC 1 Az zR ?_)))))))
 refine O zR (D4.shr32 (n:=8)) ?_
 refine As zR zR (CN Bg CW) (AB zR FO (AC 1 Az zR ?_))
 refine O zR (D4.shr32 (n:=16)) ?_
 refine As zR zR (CN Bg CW) (AB zR FO (AC 1 Az zR ?_))
 refine O zR (D4.shr32 (n:=24)) ?_
 refine As zR zR (CN Bg CW) ?_
 refine Bd [_,_,_,_] zR B1 Iv J7 ⟨zR,zR,zR,zR,zT⟩ zR zR zR (by simp[Value.cells]) zR zR (fun _=>trivial) fun b3=>?_
 refine Bi D7 1 ([p0.gen.toUInt8,(shr32 p0.gen 8).toUInt8,(shr32 p0.gen 16).toUInt8,(shr32 p0.gen 24).toUInt8]:List UInt8) zR (fun _=>rfl) zR ?_
 refine HE 0 zR B1 CW Bu zR zR (J zR (U (V ?_)))
 obtain⟨s1,hs1,h⟩:=bnd h
 obtain⟨y2,hy2,h⟩:=bnd h
 refine AB zR Ou (AC 2 EZ zR (E zR (O zR (B4 hs1) (AX 0 fq (Ph hy2 hT) zR (E zR (Ap zR zR zR (Ap zR zR zR ?_)))))))
 refine J zR (J zR (U (V ?_)))
 obtain⟨s2,hs2,h⟩:=bnd h
 obtain⟨y3,hy3,h⟩:=bnd h
 refine AB zR Ou (AC 2 EZ zR (E zR (O zR (B4 hs2) (AX 0 fq (Ph hy3 hT) zR (E zR (Ap zR zR zR (Ap zR zR zR ?_)))))))
 refine J zR (J zR (U (V (E zR (E zR (J zR (J zR (J zR (U (AM ?_))))))))))
 obtain rfl:=Option.some.inj h
 exact AY [] 3 zR zR zR
def KI(a1:List UInt8):Option (List UInt8×Int):=
 some (a1,0)
def GX(nx_f_ref05_Pad_l1:List UInt8→Option (List UInt8×Int))(a2:List UInt8):Option (List UInt8×Int):=
 cond (decide ((a2.length:Int)<200))
 (
  (EH a2 [0]).bind fun s2=>
  nx_f_ref05_Pad_l1 s2)
 (
  KI a2)
def KH:Nat→List UInt8→Option (List UInt8×Int):=Be fun nx x=>GX  nx x
def Ku(n:Nat)(p0:List UInt8):Option (List UInt8×Int):=
 cond (decide (198<(p0.length:Int)))
 (
  some ([],50))
 (
  (RX (p0.length:Int) 256).bind fun q1=>
  (Pd (p0.length:Int) 256).bind fun q2=>
  (EH [HO q1,HO q2] p0).bind fun s1=>
  KH n s1)
theorem ZD{n:Nat}{p0:List UInt8}{r:List UInt8×Int}(h:Ku n p0=some r): BH Tryz.prog K w0 114 [vS p0] [] H (fun u M=>u=.tuple #[vS r.1,vI r.2]∧M=[]):=by
 unfold Ku at h
 refine BH.enter Tryz.func114 rfl rfl ?_
 refine V (J zR (J zR (U (AD (V (E zR (BV zR Bu zR (O zR CD (U ?_)))))))))
 refine AG zR (fun hc1=>?_) (fun hc1=>?_)
 replace h:=cT hc1 h
 refine V (J zR (J zR (U (AM (Ab ?_)))))
 obtain rfl:=Option.some.inj h
 exact AY [] 0 zR zR zR
 replace h:=cF hc1 h
 refine AH (AF (V ?_))
 obtain⟨q1,hq1,h⟩:=bnd h
 obtain⟨q2,hq2,h⟩:=bnd h
 obtain⟨s1,hs1,h⟩:=bnd h
 refine E zR (BV zR Bu zR (O zR (Tz hq1) (As zR zR (PH Ef CW) (E zR (BV zR Bu zR (O zR (OW hq2) (As zR zR (PH Ef CW) ?_)))))))
 refine Bd [_,_] zR B1 Iv J7 ⟨zR,zR,zT⟩ zR zR zR (by simp[Value.cells]) zR zR (fun _=>trivial) fun b1=>?_
 refine Bi D7 1 ([HO q1,HO q2]:List UInt8) zR (fun _=>rfl) zR ?_
 refine HE 0 zR B1 CW Bu zR zR (E zR (O zR (B4 hs1) (J zR (U ?_))))
 refine A1 (α:=List UInt8) (fun x=>KI x=some r) (fun x=>[(4,vS x)]) (fun x=>H) ?_ (fun a1 D h=>?_)
 refine AL ?_
 refine SX.heap (SX.mono (Ay (α:=Nat×List UInt8) (fun x=>KH x.1 x.2=some r) (fun x=>[(4,vS x.2)]) (fun x=>H) (fun x=>x.1) (fun x D h=>?_) (n,s1) h) tL) (fun _ hw=>BJ.pick (H:=[_]) hw [] 1 zR)
 obtain⟨m1,a2⟩:=x
 dsimp only at h
 rcases m1 with _ | m1
 cases (show(none:Option _)=some r from h)
 replace h:GX (KH m1) a2=some r:=h
 unfold GX at h
 refine A4 [(4,vS a2)] (H) ?_ tL
 refine AD (V (E zR (BV zR Bu zR (O zR Ao (U ?_)))))
 refine AG zR (fun hc2=>?_) (fun hc2=>?_)
 replace h:=cT hc2 h
 refine AH (AF (AL (AJ ?_)))
 obtain⟨s2,hs2,h⟩:=bnd h
 refine E zR (O zR (B4 hs2) (J zR (AS (Ai ?_))))
 exact Ac (m1,s2) h (Nat.lt_succ_self _) tL (fun _ hw=>BJ.pick (H:=[]) hw [] 0 zR)
 replace h:=cF hc2 h
 refine Al (Aw (A9 (Au ?_)))
 exact Av a2 h tL (fun _ hw=>BJ.pick (H:=[]) hw [] 0 zR)
 unfold KI at h
 refine A4 [(4,vS a1)] (H) ?_ tL
 refine V (E zR (J zR (J zR (U (AM ?_)))))
 obtain rfl:=Option.some.inj h
 exact AY [] 0 zR zR zR
def KD(a1:List UInt8):Option (List UInt8):=
 some a1
def Gi(p1:Int)(nx_f_ref06_put_l1:UInt64×List UInt8×Int→Option (List UInt8))(a2:UInt64)(a3:List UInt8)(a4:Int):Option (List UInt8):=
 cond (decide (a4<p1))
 (
  (EH a3 [a2.toUInt8]).bind fun s1=>
  (N1 a2 256).bind fun q1=>
  ret (wI (a4+1)) fun i_1=>
  nx_f_ref06_put_l1 (q1,s1,i_1))
 (
  KD a3)
def KE(p1:Int):Nat→(UInt64×List UInt8×Int)→Option (List UInt8):=Be fun nx x=>Gi p1 nx x.1 x.2.1 x.2.2
def C0(n:Nat)(p0:UInt64)(p1:Int):Option (List UInt8):=
 KE p1 n (p0,[],0)
theorem Je{n:Nat}{p0:UInt64}{p1:Int}{r:List UInt8}(h:C0 n p0 p1=some r): BH Tryz.prog K w0 196 [Ag p0,vI p1] [] H (fun u M=>u=vS r∧M=[]):=by
 unfold C0 at h
 refine BH.enter Tryz.func196 rfl rfl ?_
 refine V (J zR (U (V (J zR (U ?_)))))
 refine A1 (α:=List UInt8) (fun x=>KD x=some r) (fun x=>[(5,vS x)]) (fun x=>H) ?_ (fun a1 D h=>?_)
 refine V (J zR (U (AL ?_)))
 refine SX.heap (SX.mono (Ay (α:=Nat×UInt64×List UInt8×Int) (fun x=>KE p1 x.1 (x.2.1,x.2.2.1,x.2.2.2)=some r) (fun x=>[(0,Ag x.2.1),(1,vI p1),(5,vS x.2.2.1),(6,vI x.2.2.2)]) (fun x=>H) (fun x=>x.1) (fun x D h=>?_) (n,p0,[],0) h) tL) (fun _ hw=>BJ.pick (H:=[]) hw [] 0 zR)
 obtain⟨m1,a2,a3,a4⟩:=x
 dsimp only at h
 rcases m1 with _ | m1
 cases (show(none:Option _)=some r from h)
 replace h:Gi p1 (KE p1 m1) a2 a3 a4=some r:=h
 unfold Gi at h
 refine A4 [(0,Ag a2),(1,vI p1),(5,vS a3),(6,vI a4)] (H) ?_ tL
 refine AD (V (E zR (E zR (O zR Ao (U ?_)))))
 refine AG zR (fun hc1=>?_) (fun hc1=>?_)
 replace h:=cT hc1 h
 refine AH (AF (AD (AL (V ?_))))
 obtain⟨s1,hs1,h⟩:=bnd h
 refine E zR (E zR (As zR zR (Fk CB CW) ?_))
 refine Bd [_] zR B1 Iv J7 ⟨zR,zT⟩ zR zR zR (by simp[Value.cells]) zR zR (fun _=>trivial) fun b1=>?_
 refine Bi D7 1 ([a2.toUInt8]:List UInt8) zR (fun _=>rfl) zR ?_
 refine HE 0 zR B1 CW Bu zR zR (O zR (B4 hs1) (J zR (U (AJ ?_))))
 obtain⟨q1,hq1,h⟩:=bnd h
 refine E zR ?_
 refine O zR (Nn (b:=256) hq1) ?_
 refine J zR (AS (Ai (AF (AJ ?_))))
 obtain⟨i_1,ei_1,h⟩:=Bc h
 refine E zR (O zR A3 ?_)
 refine Ak (u:=vI i_1) zR zR (by rw[ei_1]) ?_
 refine AS ?_
 exact Ac (m1,q1,s1,i_1) h (Nat.lt_succ_self _) tL (fun _ hw=>BJ.pick (H:=[_]) hw [] 1 zR)
 replace h:=cF hc1 h
 refine Al (Aw (A9 (Au ?_)))
 exact Av a3 h tL (fun _ hw=>BJ.pick (H:=[]) hw [] 0 zR)
 unfold KD at h
 refine A4 [(5,vS a1)] (H) ?_ tL
 refine V (E zR (J zR (U (AM ?_))))
 obtain rfl:=Option.some.inj h
 exact AY [] 0 zR zR zR
def Kw(n:Nat)(p0:CL):Option (List UInt8):=
 (C0 n p0.page.toUInt64 4).bind fun y1=>
 (C0 n p0.gen.toUInt64 4).bind fun y2=>
 (EH y1 y2).bind fun s1=>
 (C0 n p0.boot.toUInt64 4).bind fun y3=>
 (EH s1 y3).bind fun s2=>
 (C0 n p0.seq 8).bind fun y4=>
 (EH s2 y4).bind fun s3=>
 (EH s3 [0,0,0,0]).bind fun s4=>
 some s4
theorem Zt{n:Nat}{p0:CL}{r:List UInt8}(h:Kw n p0=some r): BH Tryz.prog K w0 157 [.agg (Bs p0).toArray] [] H (fun u M=>u=vS r∧M=[]):=by
 unfold Kw at h
 refine BH.enter Tryz.func157 rfl rfl ?_
 refine V ?_
 refine BU zR zR (fun _=>trivial) fun b1=>?_
 refine J zR (U (AD ?_))
 obtain⟨y1,hy1,h⟩:=bnd h
 obtain⟨y2,hy2,h⟩:=bnd h
 obtain⟨s1,hs1,h⟩:=bnd h
 obtain⟨y3,hy3,h⟩:=bnd h
 obtain⟨s2,hs2,h⟩:=bnd h
 obtain⟨y4,hy4,h⟩:=bnd h
 obtain⟨s3,hs3,h⟩:=bnd h
 obtain⟨s4,hs4,h⟩:=bnd h
 refine Aj CJ [0] (BY [(true,0),(true,1),(true,2),(true,4),(true,5),(true,6),(true,9),(true,10),(true,11),(true,14),(true,15),(false,3),(false,7),(true,8),(false,12),(true,13),(false,16)] (.last 17 (Pl.of [(false,18),(false,19)]))) zK (AB zR Wx (AC 0 Az zR (As zR zR (CF Bg CB) (AB zR OU (AC 0 Az zR (As zR zR (CF Bg CB) (AB zR Sa ?_)))))))
 refine AC 0 Az zR (As zR zR (CF Bg CB) (AB zR Sb (AC 0 MU zR ?_)))
 refine AP (vs:=[_,_]) (Hin:=[]) (Hr:=_::_) zR zR ⟨zR,zR,zT⟩ Qx zR zR (Je hy1) ?_
 rintro _ _ ⟨rfl,rfl⟩
 refine⟨⟨⟨0,rfl⟩,trivial⟩,?_⟩
 refine AP (vs:=[_,_]) (Hin:=[]) (Hr:=_::_) zR zR ⟨zR,zR,zT⟩ Qx zR zR (Je hy2) ?_
 rintro _ _ ⟨rfl,rfl⟩
 refine⟨⟨⟨0,rfl⟩,trivial⟩,?_⟩
 refine O zR (B4 hs1) ?_
 refine AP (vs:=[_,_]) (Hin:=[]) (Hr:=_::_) zR zR ⟨zR,zR,zT⟩ Qx zR zR (Je hy3) ?_
 rintro _ _ ⟨rfl,rfl⟩
 refine⟨⟨⟨0,rfl⟩,trivial⟩,?_⟩
 refine O zR (B4 hs2) ?_
 refine AP (vs:=[_,_]) (Hin:=[]) (Hr:=_::_) zR zR ⟨zR,zR,zT⟩ Qx zR zR (Je hy4) ?_
 rintro _ _ ⟨rfl,rfl⟩
 refine⟨⟨⟨0,rfl⟩,trivial⟩,?_⟩
 refine BE (O zR (B4 hs3) (O zR (B4 hs4) (J zR (U (AM ?_)))))
 obtain rfl:=Option.some.inj h
 exact AY [] 1 zR zR zR
def JD(n:Nat)(p0:CL):Option (List UInt8):=
 (C0 n p0.boot.toUInt64 4).bind fun y1=>
 (C0 n p0.seq 8).bind fun y2=>
 (EH y1 y2).bind fun s1=>
 some s1
theorem Wu{n:Nat}{p0:CL}{r:List UInt8}(h:JD n p0=some r): BH Tryz.prog K w0 156 [.agg (Bs p0).toArray] [] H (fun u M=>u=vS r∧M=[]):=by
 unfold JD at h
 refine BH.enter Tryz.func156 rfl rfl ?_
 refine V ?_
 refine BU zR zR (fun _=>trivial) fun b1=>?_
 refine J zR (U (AD ?_))
 obtain⟨y1,hy1,h⟩:=bnd h
 obtain⟨y2,hy2,h⟩:=bnd h
 obtain⟨s1,hs1,h⟩:=bnd h
 refine Aj CJ [0] (BY [(true,0),(true,1),(true,2),(true,4),(true,5),(false,3)] (.last 6 (Pl.of [(false,7),(false,8)]))) zK (AB zR Sa (AC 0 Az zR (As zR zR (CF Bg CB) (AB zR Sb (AC 0 MU zR ?_)))))
 refine AP (vs:=[_,_]) (Hin:=[]) (Hr:=_::_) zR zR ⟨zR,zR,zT⟩ Qx zR zR (Je hy1) ?_
 rintro _ _ ⟨rfl,rfl⟩
 refine⟨⟨⟨0,rfl⟩,trivial⟩,?_⟩
 refine BE (AX 0 Qx (Je hy2) zR (O zR (B4 hs1) (J zR (U (AM ?_)))))
 obtain rfl:=Option.some.inj h
 exact AY [] 1 zR zR zR
def I0(n:Nat)(T:List UInt32)(p0:BC)(p1:CL)(p2:List UInt8):Option (List UInt8):=
 (IH n T p0).bind fun y1=>
 (JD n p1).bind fun y2=>
 (LL n y1.1 y2 p2).bind fun y3=>
 (Kw n p1).bind fun y4=>
 (EH y4 y3.1).bind fun s1=>
 some s1
theorem WU{n:Nat}{T:List UInt32}{p0:BC}{p1:CL}{p2:List UInt8}{r:List UInt8}(h:I0 n T p0 p1 p2=some r)(hT:LA K w0 2 64 T):BH Tryz.prog K w0 115 [.agg (Ax p0).toArray,.agg (Bs p1).toArray,vS p2] [] H (fun u M=>u=vS r∧M=[]):=by
 unfold I0 at h
 refine BH.enter Tryz.func115 rfl rfl ?_
 refine V ?_
 refine BU zR zR (fun _=>trivial) fun b1=>?_
 refine BU zR zR (fun _=>trivial) fun b2=>?_
 refine J zR (U (V ?_))
 obtain⟨y1,hy1,h⟩:=bnd h
 refine Aa [Z p0.gen,vS p0.secret] zR JA zR zR (AZ 1 zR) (AX 0 ff (RN hy1 hT) zR (E zR (Ap zR zR zR (Ap zR zR zR (Ap zR zR zR (J zR (J zR ?_)))))))
 refine J zR (U (V ?_))
 obtain⟨y2,hy2,h⟩:=bnd h
 obtain⟨y3,hy3,h⟩:=bnd h
 refine E zR (Aa [Z p1.page,Z p1.gen,Z p1.boot,Ag p1.seq] zR Dk zR zR (AZ 0 zR) (AX 0 lj (Wu hy2) zR (E zR (AX 0 nC (Ye hy3) zR (E zR (Ap zR zR zR (Ap zR zR zR ?_)))))))
 refine J zR (J zR (U (V ?_)))
 obtain⟨y4,hy4,h⟩:=bnd h
 obtain⟨s1,hs1,h⟩:=bnd h
 refine Aa [Z p1.page,Z p1.gen,Z p1.boot,Ag p1.seq] zR Dk zR zR (AZ 0 zR) (AX 0 nN (Zt hy4) zR (E zR (O zR (B4 hs1) (J zR (U (AM ?_))))))
 obtain rfl:=Option.some.inj h
 exact AY [] 2 zR zR zR
def Jz(n:Nat)(T:List UInt32)(p0:List BC)(p1:CL)(p2:List UInt8):Option (List UInt8×Int):=
 (IN n p0 p1.gen).bind fun y1=>
 cond (!decide (y1.2=0))
 (
  some ([],y1.2))
 (
  (Ku n p2).bind fun y2=>
  cond (!decide (y2.2=0))
  (
   some ([],y2.2))
  (
   (I0 n T y1.1 p1 y2.1).bind fun y3=>
   (IH n T y1.1).bind fun y4=>
   (Hh n T y4.2.1 y3).bind fun y5=>
   (EH y3 y5).bind fun s1=>
   some (s1,0)))
theorem W6{n:Nat}{T:List UInt32}{v0_:Value}{p0:List BC}{p1:CL}{p2:List UInt8}{r:List UInt8×Int}(h:Jz n T p0 p1 p2=some r)(hT:LA K w0 2 64 T)(hs0_:Bn K w0 Ax 2 v0_ p0):BH Tryz.prog K w0 79 [v0_,.agg (Bs p1).toArray,vS p2] [] H (fun u M=>u=.tuple #[vS r.1,vI r.2]∧M=[]):=by
 unfold Jz at h
 refine BH.enter Tryz.func79 rfl rfl ?_
 refine V ?_
 refine BU zR zR (fun _=>trivial) fun b1=>?_
 refine J zR (J zR (U (V ?_)))
 obtain⟨y1,hy1,h⟩:=bnd h
 refine E zR (AB zR OU (AC 0 Az zR (AX 0 jx (RP hy1 hs0_) zR (E zR (Ap zR zR zR (Ap zR zR zR ?_))))))
 refine Ah zR IT (fun _=>trivial) fun b2=>?_
 refine Am 0 zR zR zR zR Ej zR zR zR zT (J zR (U (AD (V (E zR (O zR Bh (U ?_)))))))
 refine AG zR (fun hc1=>?_) (fun hc1=>?_)
 replace h:=cT hc1 h
 refine V (E zR (J zR (J zR (U (AM (Ab ?_))))))
 obtain rfl:=Option.some.inj h
 exact AY [] 2 zR zR zR
 replace h:=cF hc1 h
 refine AH (AF (V ?_))
 obtain⟨y2,hy2,h⟩:=bnd h
 refine E zR (AX 0 nH (ZD hy2) zR (E zR (Ap zR zR zR (Ap zR zR zR (J zR (J zR (U (AD (V (E zR ?_))))))))))
 refine O zR Bh (U ?_)
 refine AG zR (fun hc2=>?_) (fun hc2=>?_)
 replace h:=cT hc2 h
 refine V (E zR (J zR (J zR (U (AM (Ab ?_))))))
 obtain rfl:=Option.some.inj h
 exact AY [] 2 zR zR zR
 replace h:=cF hc2 h
 refine AH (AF (V ?_))
 obtain⟨y3,hy3,h⟩:=bnd h
 refine Aa [Z y1.1.gen,vS y1.1.secret] zR JA zR zR (AZ 0 zR) (Aa [Z p1.page,Z p1.gen,Z p1.boot,Ag p1.seq] zR Dk zR zR (AZ 1 zR) (E zR (AX 0 mD (WU hy3 hT) zR (J zR (U (V ?_))))))
 obtain⟨y4,hy4,h⟩:=bnd h
 refine Aa [Z y1.1.gen,vS y1.1.secret] zR JA zR zR (AZ 0 zR) (AX 0 ff (RN hy4 hT) zR (E zR (Ap zR zR zR (Ap zR zR zR (Ap zR zR zR (J zR (J zR ?_)))))))
 refine J zR (U (V ?_))
 obtain⟨y5,hy5,h⟩:=bnd h
 obtain⟨s1,hs1,h⟩:=bnd h
 refine E zR (E zR (E zR (AX 0 fX (SV hy5 hT) zR (O zR (B4 hs1) (J zR (J zR (U (AM ?_))))))))
 obtain rfl:=Option.some.inj h
 exact AY [] 2 zR zR zR
end
end Go.Proofs.YtkibffdipniemaaGreatDoor
