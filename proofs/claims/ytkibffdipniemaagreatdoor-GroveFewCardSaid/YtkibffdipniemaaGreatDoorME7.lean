/- The texts LG1, LG8, LG9, YI, Y1a, YF, V3f, VG1, VG2, LG10, LG11, S25, GG32, GG33, LG12, LG13, LG14, GG34, GG35, LG19, LG20, one behind the other: each bears its own sentence. Conditions: as each says. -/
import Derived.Test.YtkibffdipniemaaGreatDoorME1
import Derived.Test.YtkibffdipniemaaGreatDoorME2
import Derived.Test.YtkibffdipniemaaGreatDoorME3
import Derived.Test.YtkibffdipniemaaGreatDoorME4
import Derived.Test.YtkibffdipniemaaGreatDoorME5
import Derived.Test.YtkibffdipniemaaGreatDoorME6

set_option linter.unusedVariables false
set_option linter.unusedSimpArgs false
set_option maxHeartbeats 1000000
/- Plain laws of the stable sort of rows: what the printed functions answer is the rows, sorted by their ids. No program in sight. Condition: at most 2^30 rows, and rounds enough. -/
namespace Go.Proofs.YtkibffdipniemaaGreatDoor
open Go

/-! ### Lists in parts -/
theorem nth_mid {α:Type} (A:List α) (x:α) (B:List α) {i:Int} (h:i=(A.length:Int)):nthI (A++x::B) i=some x:=by
 rw [nthI_of h]
 simp
theorem set_mid {α:Type} (A:List α) (x y:α) (B:List α) {i:Int} (h:i=(A.length:Int)):setI (A++x::B) i y=some (A++y::B):=by
 rw [setI_of h (by simp)]
 simp
def Srt (l:List RowA):Prop:=l.Pairwise fun a b=>a.id≤b.id
theorem load1_lt (a b:RowA):∃y,f_grove_Load_1 a b=some y∧decide (y<0)=decide (a.id<b.id):=by
 unfold f_grove_Load_1 f_cmp_Compare_uint64 f_cmp_isNaN_uint64
 simp only [ret_eq,some_bind,decide_true,Bool.not_true,cond_false]
 by_cases h:a.id<b.id
 rw [decide_eq_true h]
 exact ⟨-1,rfl,rfl⟩
 rw [decide_eq_false h]
 by_cases h2:b.id<a.id
 rw [decide_eq_true h2]
 exact ⟨1,rfl,rfl⟩
 rw [decide_eq_false h2]
 exact ⟨0,rfl,rfl⟩
theorem srt_append {a b:List RowA}:Srt (a++b)↔Srt a∧Srt b∧∀x∈a,∀y∈b,x.id≤y.id:=List.pairwise_append
theorem u64_le_of_not_lt {a b:UInt64} (h:¬a<b):b≤a:=by
 rw [UInt64.lt_iff_toNat_lt] at h
 rw [UInt64.le_iff_toNat_le]
 omega
theorem u64_le_of_lt {a b:UInt64} (h:a<b):a≤b:=by
 rw [UInt64.lt_iff_toNat_lt] at h
 rw [UInt64.le_iff_toNat_le]
 omega
theorem u64_le_trans {a b c:UInt64} (h:a≤b) (h':b≤c):a≤c:=by
 rw [UInt64.le_iff_toNat_le] at*
 omega
theorem u64_le_lt {a b c:UInt64} (h:a≤b) (h':b<c):a<c:=by
 rw [UInt64.le_iff_toNat_le] at*
 rw [UInt64.lt_iff_toNat_lt] at*
 omega
theorem u64_irr {a b:UInt64} (h:a<b) (h':b≤a):False:=by
 rw [UInt64.le_iff_toNat_le] at*
 rw [UInt64.lt_iff_toNat_lt] at*
 omega
abbrev big:Nat:=1073741824

/-! ### Insertion -/
theorem ins_sink (p1:Int) (A:List RowA) (x:RowA) (R:List RowA) (ha:p1=(A.length:Int)):
  ∀(k:Nat) (S T:List RowA),S.length=k→(A++S++x::T++R).length≤big→Srt (S++T)→(∀y∈T,x.id≤y.id)→
  ∃S',S'.Perm (S++x::T)∧Srt S'∧∀(a1:Int) (nx1:List RowA×Int→Option (List RowA)) (m:Nat),k<m→f_ins_l2 p1 a1 nx1 m (A++S++x::T++R,((A.length+k:Nat):Int))=f_ins_j1 a1 nx1 (A++S'++R)
 | 0,S,T,hk,hlen,hs,hx=>by
  have hS:S=[]:=List.length_eq_zero_iff.1 hk
  subst hS
  refine ⟨x::T,List.Perm.refl _,List.pairwise_cons.2 ⟨hx,by simpa [Srt] using hs⟩,fun a1 nx1 m hm=>?_⟩
  obtain ⟨m,rfl⟩:∃k,m=k+1:=⟨m-1,by omega⟩
  show f_ins_l2_b p1 a1 nx1 (f_ins_l2 p1 a1 nx1 m) _ _=_
  unfold f_ins_l2_b
  dsimp only
  rw [decide_eq_false (by omega)]
  simp only [andO,cond_false,some_bind,List.append_nil]
 | k+1,S,T,hk,hlen,hs,hx=>by
  obtain ⟨S0,z,rfl⟩:∃S0 z,S=S0++[z]:=⟨_,_,(List.dropLast_concat_getLast (by intro e;rw [e] at hk;simp at hk)).symm⟩
  have hk0:S0.length=k:=by simpa using hk
  obtain ⟨y,hy,hlt⟩:=load1_lt x z
  have n1:∀i:Int,i=((A.length+(k+1):Nat):Int)→nthI (A++(S0++[z])++x::T++R) i=some x:=fun i hi=>by
   have:=nth_mid (A++(S0++[z])) x (T++R) (i:=i) (by rw [hi];simp;omega)
   simpa using this
  have n2:∀i:Int,i=((A.length+k:Nat):Int)→nthI (A++(S0++[z])++x::T++R) i=some z:=fun i hi=>by
   have:=nth_mid (A++S0) z (x::T++R) (i:=i) (by rw [hi];simp;omega)
   simpa using this
  have hb:(A.length:Int)+k+1≤1073741824:=by
   simp at hlen
   unfold big at hlen
   omega
  have e1:wI (((A.length+(k+1):Nat):Int)-1)=((A.length+k:Nat):Int):=by rw [wI_eq (by omega) (by omega)];omega
  by_cases hc:x.id<z.id
  have hs':Srt (S0++z::T):=by simpa using hs
  obtain ⟨S',hp,hss,hf⟩:=ins_sink p1 A x R ha k S0 (z::T) hk0 (by simpa using hlen) hs' (fun w hw=>by
   rcases List.mem_cons.1 hw with rfl | hw
   exact u64_le_of_lt hc
   exact hx w hw)
  refine ⟨S',hp.trans ?_,hss,fun a1 nx1 m hm=>?_⟩
  rw [List.append_assoc]
  exact List.Perm.append_left _ (List.Perm.swap _ _ _)
  obtain ⟨m,rfl⟩:∃k,m=k+1:=⟨m-1,by omega⟩
  show f_ins_l2_b p1 a1 nx1 (f_ins_l2 p1 a1 nx1 m) _ _=_
  unfold f_ins_l2_b
  dsimp only
  rw [decide_eq_true (by omega),e1,n1 _ rfl,n2 _ rfl]
  simp only [andO,cond_true,some_bind,hy,hlt,decide_eq_true hc]
  have s1:setI (A++(S0++[z])++x::T++R) ((A.length+(k+1):Nat):Int) z=some (A++S0++z::z::T++R):=by
   have:=set_mid (A++(S0++[z])) x z (T++R) (i:=((A.length+(k+1):Nat):Int)) (by simp;omega)
   simpa using this
  rw [s1,some_bind]
  have n3:nthI (A++S0++z::z::T++R) ((A.length+k:Nat):Int)=some z:=by
   have:=nth_mid (A++S0) z (z::T++R) (i:=((A.length+k:Nat):Int)) (by simp;omega)
   simpa using this
  have s2:setI (A++S0++z::z::T++R) ((A.length+k:Nat):Int) x=some (A++S0++x::z::T++R):=by
   have:=set_mid (A++S0) z x (z::T++R) (i:=((A.length+k:Nat):Int)) (by simp;omega)
   simpa using this
  rw [n3,some_bind,s2,some_bind,ret_eq]
  exact hf a1 nx1 m (by omega)
  refine ⟨S0++[z]++x::T,List.Perm.refl _,?_,fun a1 nx1 m hm=>?_⟩
  have h1:=srt_append.1 hs
  have hzx:=u64_le_of_not_lt hc
  refine srt_append.2 ⟨h1.1,List.pairwise_cons.2 ⟨hx,h1.2.1⟩,fun w hw y hy=>?_⟩
  rcases List.mem_cons.1 hy with rfl | hy
  rcases List.mem_append.1 hw with hw0 | hw0
  have:=(srt_append.1 h1.1).2.2 w hw0 z (by simp)
  exact u64_le_trans this hzx
  rw [List.mem_singleton.1 hw0]
  exact hzx
  exact h1.2.2 w hw y hy
  obtain ⟨m,rfl⟩:∃k,m=k+1:=⟨m-1,by omega⟩
  show f_ins_l2_b p1 a1 nx1 (f_ins_l2 p1 a1 nx1 m) _ _=_
  unfold f_ins_l2_b
  dsimp only
  rw [decide_eq_true (by omega),e1,n1 _ rfl,n2 _ rfl]
  simp only [andO,cond_true,some_bind,hy,hlt,decide_eq_false hc,cond_false]
  simp
theorem ins_eq {n:Nat} (A:List RowA) (X B:List RowA) (hn:X.length+2≤n) (hlen:(A++X++B).length≤big):
  ∃X',X'.Perm X∧Srt X'∧f_ins n (A++X++B) (A.length:Int) ((A.length+X.length:Nat):Int)=some (A++X'++B):=by
 unfold big at hlen
 simp only [List.length_append] at hlen
 
 have key:∀(d:Nat) (S T:List RowA),T.length=d→Srt S→(S++T).length=X.length→(S++T).Perm X→∃X',X'.Perm X∧Srt X'∧∀m,d<m→
   f_ins_l1 n (A.length:Int) ((A.length+X.length:Nat):Int) m (A++S++T++B,((A.length+S.length:Nat):Int))=some (A++X'++B):=by
  intro d
  induction d with
  | zero=>
   intro S T hT hS hl hp
   have hT0:T=[]:=List.length_eq_zero_iff.1 hT
   subst hT0
   refine ⟨S,by simpa using hp,hS,fun m hm=>?_⟩
   obtain ⟨m,rfl⟩:∃k,m=k+1:=⟨m-1,by omega⟩
   show f_ins_l1_b n _ _ (f_ins_l1 n _ _ m) _ _=_
   unfold f_ins_l1_b
   dsimp only
   rw [decide_eq_false (by simp at hl;omega),cond_false]
   simp
  | succ d ih=>
   intro S T hT hS hl hp
   obtain ⟨x,T',rfl⟩:∃x T',T=x::T':=by
    cases T with
    | nil=>simp at hT
    | cons x T'=>exact ⟨x,T',rfl⟩
   have hT':T'.length=d:=by simpa using hT
   simp only [List.length_append,List.length_cons] at hl
   obtain ⟨S',hp',hs',hf⟩:=ins_sink (A.length:Int) A x (T'++B) rfl S.length S [] rfl (by simp;unfold big;omega) (by simpa using hS) (by simp)
   have hlS:S'.length=S.length+1:=by simpa using hp'.length_eq
   obtain ⟨X',hX,hXs,hXf⟩:=ih S' T' hT' hs' (by simp [hlS];omega) (by
    refine (List.Perm.append_right T' hp').trans ?_
    simpa using hp)
   refine ⟨X',hX,hXs,fun m hm=>?_⟩
   obtain ⟨m,rfl⟩:∃k,m=k+1:=⟨m-1,by omega⟩
   show f_ins_l1_b n _ _ (f_ins_l1 n _ _ m) _ _=_
   unfold f_ins_l1_b
   dsimp only
   rw [decide_eq_true (by omega),cond_true]
   have hf1:=hf ((A.length+S.length:Nat):Int) (f_ins_l1 n (A.length:Int) ((A.length+X.length:Nat):Int) m) n (by omega)
   rw [show A++S++x::T'++B=A++S++x::[]++(T'++B) by simp]
   refine hf1.trans ?_
   unfold f_ins_j1
   rw [ret_eq,wI_eq (by omega) (by omega)]
   have:=hXf m (by omega)
   rw [hlS,show ((A.length+(S.length+1):Nat):Int)=((A.length+S.length:Nat):Int)+1 by omega] at this
   rw [show A++S'++(T'++B)=A++S'++T'++B by simp]
   exact this
 unfold f_ins
 rw [ret_eq,wI_eq (by omega) (by omega)]
 cases X with
 | nil=>
  refine ⟨[],List.Perm.refl _,List.Pairwise.nil,?_⟩
  obtain ⟨n,rfl⟩:∃k,n=k+1:=⟨n-1,by omega⟩
  show f_ins_l1_b _ _ _ (f_ins_l1 (n+1) _ _ n) _ _=_
  unfold f_ins_l1_b
  dsimp only
  rw [decide_eq_false (by simp;omega),cond_false]
 | cons x X=>
  obtain ⟨X',h1,h2,h3⟩:=key X.length [x] X rfl (by simp [Srt]) (by simp) (by simp)
  refine ⟨X',h1,h2,?_⟩
  have:=h3 n (by simp at hn;omega)
  simpa using this

/-! ### Ranges that change places, and turn -/
theorem swp_loop (A M B:List RowA) (p1 p2 p3:Int) (h1:p1=(A.length:Int)):∀(X2 Y2 X1 Y1:List RowA),X2.length=Y2.length→X1.length=Y1.length→p2=((A.length+X1.length+X2.length+M.length:Nat):Int)→p3=((X1.length+X2.length:Nat):Int)→
  (A++(Y1++X2)++M++(X1++Y2)++B).length≤big→∀m,X2.length<m→f_swp_l1 p1 p2 p3 m (A++(Y1++X2)++M++(X1++Y2)++B,(X1.length:Int))=some (A++(Y1++Y2)++M++(X1++X2)++B)
 | [],Y2,X1,Y1,hl,hl1,h2,h3,hlen,m,hm=>by
  have hY:Y2=[]:=List.length_eq_zero_iff.1 hl.symm
  subst hY
  obtain ⟨m,rfl⟩:∃k,m=k+1:=⟨m-1,by omega⟩
  show f_swp_l1_b _ _ _ (f_swp_l1 _ _ _ m) _ _=_
  unfold f_swp_l1_b
  dsimp only
  rw [h3,decide_eq_false (by simp),cond_false]
 | x::X2,Y2,X1,Y1,hl,hl1,h2,h3,hlen,m,hm=>by
  obtain ⟨y,Y2',rfl⟩:∃y Y2',Y2=y::Y2':=by
   cases Y2 with
   | nil=>simp at hl
   | cons y Y2'=>exact ⟨y,Y2',rfl⟩
  have hl':X2.length=Y2'.length:=by simpa using hl
  obtain ⟨m,rfl⟩:∃k,m=k+1:=⟨m-1,by omega⟩
  unfold big at hlen
  simp only [List.length_append,List.length_cons] at hlen h2 h3 hm
  have e1:wI (p1+(X1.length:Int))=((A.length+X1.length:Nat):Int):=by rw [h1,wI_eq (by omega) (by omega)];omega
  have e2:wI (p2+(X1.length:Int))=((A.length+X1.length+(X2.length+1)+M.length+X1.length:Nat):Int):=by rw [h2,wI_eq (by omega) (by omega)];omega
  have n2:nthI (A++(Y1++x::X2)++M++(X1++y::Y2')++B) ((A.length+X1.length+(X2.length+1)+M.length+X1.length:Nat):Int)=some y:=by
   have:=nth_mid (A++(Y1++x::X2)++M++X1) y (Y2'++B) (i:=((A.length+X1.length+(X2.length+1)+M.length+X1.length:Nat):Int)) (by simp;omega)
   simpa using this
  have n1:nthI (A++(Y1++x::X2)++M++(X1++y::Y2')++B) ((A.length+X1.length:Nat):Int)=some x:=by
   have:=nth_mid (A++Y1) x (X2++M++(X1++y::Y2')++B) (i:=((A.length+X1.length:Nat):Int)) (by simp;omega)
   simpa using this
  have s1:setI (A++(Y1++x::X2)++M++(X1++y::Y2')++B) ((A.length+X1.length:Nat):Int) y=some (A++(Y1++y::X2)++M++(X1++y::Y2')++B):=by
   have:=set_mid (A++Y1) x y (X2++M++(X1++y::Y2')++B) (i:=((A.length+X1.length:Nat):Int)) (by simp;omega)
   simpa using this
  have n3:nthI (A++(Y1++y::X2)++M++(X1++y::Y2')++B) ((A.length+X1.length+(X2.length+1)+M.length+X1.length:Nat):Int)=some y:=by
   have:=nth_mid (A++(Y1++y::X2)++M++X1) y (Y2'++B) (i:=((A.length+X1.length+(X2.length+1)+M.length+X1.length:Nat):Int)) (by simp;omega)
   simpa using this
  have s2:setI (A++(Y1++y::X2)++M++(X1++y::Y2')++B) ((A.length+X1.length+(X2.length+1)+M.length+X1.length:Nat):Int) x=some (A++(Y1++y::X2)++M++(X1++x::Y2')++B):=by
   have:=set_mid (A++(Y1++y::X2)++M++X1) y x (Y2'++B) (i:=((A.length+X1.length+(X2.length+1)+M.length+X1.length:Nat):Int)) (by simp;omega)
   simpa using this
  show f_swp_l1_b _ _ _ (f_swp_l1 _ _ _ m) _ _=_
  unfold f_swp_l1_b
  dsimp only
  rw [decide_eq_true (by omega),cond_true,e1,e2,n2,some_bind,n1,some_bind,some_bind,s1,some_bind,n3,some_bind,s2,some_bind,ret_eq,wI_eq (by omega) (by omega)]
  have:=swp_loop A M B p1 p2 p3 h1 X2 Y2' (X1++[x]) (Y1++[y]) hl' (by simp [hl1]) (by rw [h2];simp;omega) (by rw [h3];simp;omega) (by unfold big;simp;omega) m (by omega)
  simpa using this
theorem swp_eq {n:Nat} (A X M Y B:List RowA) {p1 p2 p3:Int} (h1:p1=(A.length:Int)) (h2:p2=((A.length+X.length+M.length:Nat):Int)) (h3:p3=(X.length:Int)) (hl:X.length=Y.length) (hn:X.length<n) (hlen:(A++X++M++Y++B).length≤big):
  f_swp n (A++X++M++Y++B) p1 p2 p3=some (A++Y++M++X++B):=by
 unfold f_swp
 have:=swp_loop A M B p1 p2 p3 h1 X Y [] [] hl rfl (by rw [h2];simp) (by rw [h3];simp) (by simpa using hlen) n hn
 simpa using this
theorem rot_loop {n:Nat}:∀(k:Nat) (A X Y B:List RowA) (p2:Int),X≠[]→Y≠[]→X.length+Y.length≤k→k<n→p2=((A.length+X.length:Nat):Int)→(A++X++Y++B).length≤big→∀m,k≤m→
  f_rot_l1 n p2 m (A++X++Y++B,(X.length:Int),(Y.length:Int))=some (A++Y++X++B)
 | 0,A,X,Y,B,p2,hX,hY,hk,hkn,h2,hlen,m,hm=>absurd (List.length_eq_zero_iff.1 (by omega)) hX
 | k+1,A,X,Y,B,p2,hX,hY,hk,hkn,h2,hlen,m,hm=>by
  have hX1:=List.length_pos_iff.2 hX
  have hY1:=List.length_pos_iff.2 hY
  obtain ⟨m,rfl⟩:∃k,m=k+1:=⟨m-1,by omega⟩
  unfold big at hlen
  simp only [List.length_append] at hlen
  have e0:wI (p2-(X.length:Int))=(A.length:Int):=by rw [h2,wI_eq (by omega) (by omega)];omega
  show f_rot_l1_b _ _ (f_rot_l1 _ _ m) _ _ _=_
  unfold f_rot_l1_b
  dsimp only
  by_cases heq:X.length=Y.length
  rw [decide_eq_true (by omega),Bool.not_true,cond_false]
  unfold f_rot_j1
  have hs:=swp_eq (n:=n) A X [] Y B (p1:=(A.length:Int)) (p2:=p2) (p3:=(X.length:Int)) rfl (by rw [h2];simp) rfl heq (by omega) (by unfold big;simp;omega)
  simp only [List.append_nil] at hs
  rw [e0,hs]
  rfl
  rw [decide_eq_false (by omega),Bool.not_false,cond_true]
  by_cases hlt:Y.length<X.length
  rw [decide_eq_true (by omega),cond_true]
  obtain ⟨X1,X2,hXX,hX1l⟩:∃X1 X2,X=X1++X2∧X1.length=Y.length:=⟨X.take Y.length,X.drop Y.length,(List.take_append_drop ..).symm,by simp;omega⟩
  subst hXX
  simp only [List.length_append] at*
  have hs:=swp_eq (n:=n) A X1 X2 Y B (p1:=(A.length:Int)) (p2:=p2) (p3:=(Y.length:Int)) rfl (by rw [h2];omega) (by omega) hX1l (by omega) (by unfold big;simp;omega)
  rw [e0,show A++(X1++X2)++Y++B=A++X1++X2++Y++B by simp,hs,some_bind,ret_eq]
  have e1:wI (((X1.length+X2.length:Nat):Int)-(Y.length:Int))=(X2.length:Int):=by rw [wI_eq (by omega) (by omega)];omega
  have:=rot_loop (n:=n) k (A++Y) X2 X1 B p2 (List.length_pos_iff.1 (by omega)) (List.length_pos_iff.1 (by omega)) (by omega) (by omega) (by rw [h2];simp;omega) (by unfold big;simp;omega) m (by omega)
  rw [e1,←hX1l]
  rw [this]
  simp
  rw [decide_eq_false (by omega),cond_false]
  obtain ⟨Y1,Y2,hYY,hY2l⟩:∃Y1 Y2,Y=Y1++Y2∧Y2.length=X.length:=⟨Y.take (Y.length-X.length),Y.drop (Y.length-X.length),(List.take_append_drop ..).symm,by simp;omega⟩
  subst hYY
  simp only [List.length_append] at*
  have e2:wI (wI (p2+((Y1.length+Y2.length:Nat):Int))-(X.length:Int))=((A.length+X.length+Y1.length:Nat):Int):=by
   rw [h2,wI_eq (x:=_+_) (by omega) (by omega),wI_eq (by omega) (by omega)]
   omega
  have hs:=swp_eq (n:=n) A X Y1 Y2 B (p1:=(A.length:Int)) (p2:=((A.length+X.length+Y1.length:Nat):Int)) (p3:=(X.length:Int)) rfl rfl rfl hY2l.symm (by omega) (by unfold big;simp;omega)
  rw [e0,e2,show A++X++(Y1++Y2)++B=A++X++Y1++Y2++B by simp,hs,some_bind,ret_eq]
  have e1:wI (((Y1.length+Y2.length:Nat):Int)-(X.length:Int))=(Y1.length:Int):=by rw [wI_eq (by omega) (by omega)];omega
  have:=rot_loop (n:=n) k A Y2 Y1 (X++B) p2 (List.length_pos_iff.1 (by omega)) (List.length_pos_iff.1 (by omega)) (by omega) (by omega) (by rw [h2];simp;omega) (by unfold big;simp;omega) m (by omega)
  rw [e1,←hY2l]
  rw [show A++Y2++Y1++X++B=A++Y2++Y1++(X++B) by simp,this]
  simp
theorem rot_eq {n:Nat} (A X Y B:List RowA) {p1 p2 p3:Int} (hX:X≠[]) (hY:Y≠[]) (hn:X.length+Y.length<n) (h1:p1=(A.length:Int)) (h2:p2=((A.length+X.length:Nat):Int)) (h3:p3=((A.length+X.length+Y.length:Nat):Int)) (hlen:(A++X++Y++B).length≤big):
  f_rot n (A++X++Y++B) p1 p2 p3=some (A++Y++X++B):=by
 have hb:=hlen
 unfold big at hb
 simp only [List.length_append] at hb
 unfold f_rot
 have e1:wI (p2-p1)=(X.length:Int):=by rw [h1,h2,wI_eq (by omega) (by omega)];omega
 have e2:wI (p3-p2)=(Y.length:Int):=by rw [h2,h3,wI_eq (by omega) (by omega)];omega
 rw [ret_eq,ret_eq,e1,e2]
 exact rot_loop (n:=n) (X.length+Y.length) A X Y B p2 hX hY (Nat.le_refl _) hn h2 hlen n (by omega)

/-! ### Merging -/
theorem half_eq {x:Nat} (h:x≤4294967296):wI ((shr64 (toU64 (wI (x:Int))) 1).toNat:Int)=((x / 2:Nat):Int):=by
 have e:(toU64 (wI (x:Int))).toNat=x:=by
  rw [wI_eq (by omega) (by omega)]
  simp only [toU64,UInt64.toNat_ofNat']
  omega
 rw [shr64_nat _ _ (by decide),e,wI_eq (by omega) (by omega)]
theorem bs_loop {β:Type} {F:(Int×Int→Option β)→Int×Int→Option β} {z:Nat→Option β} (test:Nat→Bool) (lo hi:Nat)
  (hs:∀i j:Nat,lo≤i→i<j→j≤hi→∀nx,F nx ((i:Int),(j:Int))=cond (test ((i+j) / 2)) (nx ((((i+j) / 2+1:Nat):Int),(j:Int))) (nx ((i:Int),(((i+j) / 2:Nat):Int))))
  (he:∀(i:Nat) nx,lo≤i→i≤hi→F nx ((i:Int),(i:Int))=z i) (hmono:∀c d,lo≤c→c≤d→d<hi→test d=true→test c=true) (hlh:lo≤hi):
  ∃s,lo≤s∧s≤hi∧(∀c,lo≤c→c<s→test c=true)∧(∀c,s≤c→c<hi→test c=false)∧∀m,hi-lo<m→loopN F m ((lo:Int),(hi:Int))=z s:=by
 have key:∀(d i j:Nat),j-i≤d→lo≤i→i≤j→j≤hi→(∀c,lo≤c→c<i→test c=true)→(∀c,j≤c→c<hi→test c=false)→
   ∃s,lo≤s∧s≤hi∧(∀c,lo≤c→c<s→test c=true)∧(∀c,s≤c→c<hi→test c=false)∧∀m,j-i<m→loopN F m ((i:Int),(j:Int))=z s:=by
  intro d
  induction d with
  | zero=>
   intro i j hd h1 h2 h3 h4 h5
   obtain rfl:i=j:=by omega
   refine ⟨i,h1,h3,h4,h5,fun m hm=>?_⟩
   obtain ⟨m,rfl⟩:∃k,m=k+1:=⟨m-1,by omega⟩
   exact he i _ h1 h3
  | succ d ih=>
   intro i j hd h1 h2 h3 h4 h5
   by_cases hij:i=j
   subst hij
   refine ⟨i,h1,h3,h4,h5,fun m hm=>?_⟩
   obtain ⟨m,rfl⟩:∃k,m=k+1:=⟨m-1,by omega⟩
   exact he i _ h1 h3
   have hlt:i<j:=by omega
   have hc1:i≤(i+j) / 2:=by omega
   have hc2:(i+j) / 2<j:=by omega
   by_cases ht:test ((i+j) / 2)=true
   obtain ⟨s,a1,a2,a3,a4,a5⟩:=ih ((i+j) / 2+1) j (by omega) (by omega) (by omega) h3 (fun c hc hc'=>hmono c ((i+j) / 2) hc (by omega) (by omega) ht) h5
   refine ⟨s,a1,a2,a3,a4,fun m hm=>?_⟩
   obtain ⟨m,rfl⟩:∃k,m=k+1:=⟨m-1,by omega⟩
   show F (loopN F m) _=_
   rw [hs i j h1 hlt h3,ht,cond_true]
   exact a5 m (by omega)
   have ht':test ((i+j) / 2)=false:=by simpa using ht
   obtain ⟨s,a1,a2,a3,a4,a5⟩:=ih i ((i+j) / 2) (by omega) h1 (by omega) (by omega) h4 (fun c hc hc'=>by
    by_cases hcj:test c=true
    exact absurd (hmono ((i+j) / 2) c (by omega) hc hc' hcj) ht
    simpa using hcj)
   refine ⟨s,a1,a2,a3,a4,fun m hm=>?_⟩
   obtain ⟨m,rfl⟩:∃k,m=k+1:=⟨m-1,by omega⟩
   show F (loopN F m) _=_
   rw [hs i j h1 hlt h3,ht',cond_false]
   exact a5 m (by omega)
 exact key (hi-lo) lo hi (Nat.le_refl _) (Nat.le_refl _) hlh (Nat.le_refl _) (fun c h1 h2=>by omega) (fun c h1 h2=>by omega)

def row0:RowA:=⟨0,0,0,[]⟩
theorem getD_row {l:List RowA} {i:Nat} (h:i<l.length):l.getD i row0=l[i]:=by simp [List.getD_eq_getElem?_getD,h]
theorem srt_get {X:List RowA} (h:Srt X) {i j:Nat} (hij:i≤j) (hj:j<X.length):(X.getD i row0).id≤(X.getD j row0).id:=by
 rw [getD_row (show i<X.length by omega),getD_row hj]
 rcases Nat.lt_or_ge i j with h1 | h1
 exact List.pairwise_iff_getElem.1 h i j (by omega) hj h1
 obtain rfl:i=j:=by omega
 exact UInt64.le_refl _
theorem getD_A {A X R:List RowA} {i:Nat} (h:i<X.length):(A++X++R).getD (A.length+i) row0=X.getD i row0:=by
 simp only [List.getD_eq_getElem?_getD]
 rw [List.append_assoc,List.getElem?_append_right (by omega),Nat.add_sub_cancel_left,List.getElem?_append_left h]
theorem getD_Y {A X Y R:List RowA} {i:Nat} (h:i<Y.length):(A++X++Y++R).getD (A.length+X.length+i) row0=Y.getD i row0:=by
 have:=getD_A (A:=A++X) (X:=Y) (R:=R) (i:=i) h
 simpa using this
theorem mv_right (R:List RowA) (x:RowA) (a1:Int):∀(Y A:List RowA),a1=((A.length+Y.length+1:Nat):Int)→(A++x::Y++R).length≤big→∀m,Y.length<m→
  f_sym_l2 a1 m (A++x::Y++R,(A.length:Int))=some (A++Y++x::R)
 | [],A,h1,hlen,m,hm=>by
  obtain ⟨m,rfl⟩:∃k,m=k+1:=⟨m-1,by omega⟩
  unfold big at hlen
  simp at hlen
  show f_sym_l2_b _ (f_sym_l2 _ m) _ _=_
  unfold f_sym_l2_b
  dsimp only
  simp only [List.length_nil] at h1
  rw [h1,wI_eq (by omega) (by omega),decide_eq_false (by omega),cond_false]
  unfold f_sym_j3
  simp
 | y::Y,A,h1,hlen,m,hm=>by
  obtain ⟨m,rfl⟩:∃k,m=k+1:=⟨m-1,by omega⟩
  unfold big at hlen
  simp only [List.length_append,List.length_cons] at hlen h1 hm
  have e1:wI ((A.length:Int)+1)=((A.length+1:Nat):Int):=by rw [wI_eq (by omega) (by omega)];omega
  have n1:nthI (A++x::y::Y++R) ((A.length+1:Nat):Int)=some y:=by
   have:=nth_mid (A++[x]) y (Y++R) (i:=((A.length+1:Nat):Int)) (by simp)
   simpa using this
  have n2:nthI (A++x::y::Y++R) (A.length:Int)=some x:=by
   have:=nth_mid A x (y::Y++R) (i:=(A.length:Int)) rfl
   simpa using this
  have s1:setI (A++x::y::Y++R) (A.length:Int) y=some (A++y::y::Y++R):=by
   have:=set_mid A x y (y::Y++R) (i:=(A.length:Int)) rfl
   simpa using this
  have n3:nthI (A++y::y::Y++R) ((A.length+1:Nat):Int)=some y:=by
   have:=nth_mid (A++[y]) y (Y++R) (i:=((A.length+1:Nat):Int)) (by simp)
   simpa using this
  have s2:setI (A++y::y::Y++R) ((A.length+1:Nat):Int) x=some (A++y::x::Y++R):=by
   have:=set_mid (A++[y]) y x (Y++R) (i:=((A.length+1:Nat):Int)) (by simp)
   simpa using this
  show f_sym_l2_b _ (f_sym_l2 _ m) _ _=_
  unfold f_sym_l2_b
  dsimp only
  rw [h1,wI_eq (x:=_-1) (by omega) (by omega),decide_eq_true (by omega),cond_true,e1,n1,some_bind,n2,some_bind,some_bind,s1,some_bind,n3,some_bind,s2,some_bind,ret_eq]
  have:=mv_right R x a1 Y (A++[y]) (by rw [h1];simp;omega) (by unfold big;simp;omega) m (by omega)
  rw [h1] at this
  simpa using this
theorem mv_left (A:List RowA) (y:RowA):∀(k:Nat) (S R:List RowA),S.length=k→(A++S++y::R).length≤big→∀m,k<m→
  f_sym_l4 (A.length:Int) m (A++S++y::R,((A.length+k:Nat):Int))=some (A++y::S++R)
 | 0,S,R,hk,hlen,m,hm=>by
  have hS:S=[]:=List.length_eq_zero_iff.1 hk
  subst hS
  obtain ⟨m,rfl⟩:∃k,m=k+1:=⟨m-1,by omega⟩
  show f_sym_l4_b _ (f_sym_l4 _ m) _ _=_
  unfold f_sym_l4_b
  dsimp only
  rw [decide_eq_false (by omega),cond_false]
  unfold f_sym_j6
  simp
 | k+1,S,R,hk,hlen,m,hm=>by
  obtain ⟨S,z,rfl⟩:∃S0 z,S=S0++[z]:=⟨_,_,(List.dropLast_concat_getLast (by intro e;rw [e] at hk;simp at hk)).symm⟩
  have hk0:S.length=k:=by simpa using hk
  obtain ⟨m,rfl⟩:∃k,m=k+1:=⟨m-1,by omega⟩
  unfold big at hlen
  simp only [List.length_append,List.length_cons,List.length_nil] at hlen
  have e1:wI (((A.length+(k+1):Nat):Int)-1)=((A.length+k:Nat):Int):=by rw [wI_eq (by omega) (by omega)];omega
  have n1:nthI (A++(S++[z])++y::R) ((A.length+k:Nat):Int)=some z:=by
   have:=nth_mid (A++S) z (y::R) (i:=((A.length+k:Nat):Int)) (by simp;omega)
   simpa using this
  have n2:nthI (A++(S++[z])++y::R) ((A.length+(k+1):Nat):Int)=some y:=by
   have:=nth_mid (A++(S++[z])) y R (i:=((A.length+(k+1):Nat):Int)) (by simp;omega)
   simpa using this
  have s1:setI (A++(S++[z])++y::R) ((A.length+(k+1):Nat):Int) z=some (A++(S++[z])++z::R):=by
   have:=set_mid (A++(S++[z])) y z R (i:=((A.length+(k+1):Nat):Int)) (by simp;omega)
   simpa using this
  have n3:nthI (A++(S++[z])++z::R) ((A.length+k:Nat):Int)=some z:=by
   have:=nth_mid (A++S) z (z::R) (i:=((A.length+k:Nat):Int)) (by simp;omega)
   simpa using this
  have s2:setI (A++(S++[z])++z::R) ((A.length+k:Nat):Int) y=some (A++(S++[y])++z::R):=by
   have:=set_mid (A++S) z y (z::R) (i:=((A.length+k:Nat):Int)) (by simp;omega)
   simpa using this
  show f_sym_l4_b _ (f_sym_l4 _ m) _ _=_
  unfold f_sym_l4_b
  dsimp only
  rw [decide_eq_true (by omega),cond_true,e1,n1,some_bind,n2,some_bind,some_bind,s1,some_bind,n3,some_bind,s2,some_bind,ret_eq]
  have:=mv_left A y k S (z::R) hk0 (by unfold big;simp;omega) m (by omega)
  simpa using this
theorem load1_not (a b:RowA):∃y,f_grove_Load_1 a b=some y∧(!(decide (y<0)))=decide (b.id≤a.id):=by
 obtain ⟨y,h1,h2⟩:=load1_lt a b
 refine ⟨y,h1,?_⟩
 rw [h2,Bool.eq_iff_iff]
 simp only [Bool.not_eq_true',decide_eq_false_iff_not,decide_eq_true_eq]
 exact ⟨u64_le_of_not_lt,fun h h'=>u64_irr h' h⟩
theorem sym_eq (n:Nat):∀(f:Nat) (A X Y B:List RowA) (p1 p2 p3:Int),X≠[]→Y≠[]→X.length+Y.length≤f→X.length+Y.length+1<n→p1=(A.length:Int)→p2=((A.length+X.length:Nat):Int)→p3=((A.length+X.length+Y.length:Nat):Int)→
  (A++X++Y++B).length≤big→Srt X→Srt Y→∃Z,Z.Perm (X++Y)∧Srt Z∧symF n f (A++X++Y++B) p1 p2 p3=some (A++Z++B)
 | 0,A,X,Y,B,p1,p2,p3,hX,hY,hf,hn,h1,h2,h3,hlen,hsX,hsY=>absurd (List.length_eq_zero_iff.1 (by omega)) hX
 | f+1,A,X,Y,B,p1,p2,p3,hX,hY,hf,hn,h1,h2,h3,hlen,hsX,hsY=>by
  have hX1:=List.length_pos_iff.2 hX
  have hY1:=List.length_pos_iff.2 hY
  have hb:=hlen
  unfold big at hb
  simp only [List.length_append] at hb
  have gX:∀i,i<X.length→nthI (A++X++Y++B) ((A.length+i:Nat):Int)=some (X.getD i row0):=fun i hi=>by
   rw [nthI_getD row0 rfl (by simp;omega),List.append_assoc (A++X),getD_A hi]
  have gY:∀i,i<Y.length→nthI (A++X++Y++B) ((A.length+X.length+i:Nat):Int)=some (Y.getD i row0):=fun i hi=>by
   rw [nthI_getD row0 rfl (by simp;omega),getD_Y hi]
  have e21:wI (p2-p1)=(X.length:Int):=by rw [h1,h2,wI_eq (by omega) (by omega)];omega
  have e32:wI (p3-p2)=(Y.length:Int):=by rw [h3,h2,wI_eq (by omega) (by omega)];omega
  show ∃Z,Z.Perm (X++Y)∧Srt Z∧f_sym (symF n f) n _ _ _ _=_
  unfold f_sym
  rw [e21]
  by_cases hx1:X.length=1
  
  obtain ⟨x,rfl⟩:=List.length_eq_one_iff.1 hx1
  rw [decide_eq_true (by simp),cond_true]
  simp only [List.length_singleton] at*
  obtain ⟨s,b1,b2,b3,b4,b5⟩:=bs_loop (F:=fun nx ww=>f_sym_l1_b n (A++[x]++Y++B) p1 nx ww.1 ww.2) (z:=fun i=>f_sym_j2 n (A++[x]++Y++B) p1 (i:Int))
   (fun c=>decide ((Y.getD (c-(A.length+1)) row0).id<x.id)) (A.length+1) (A.length+1+Y.length) (fun i j hi hij hj nx=>by
    obtain ⟨y,hy,hlt⟩:=load1_lt (Y.getD ((i+j) / 2-(A.length+1)) row0) x
    have g:=gY ((i+j) / 2-(A.length+1)) (by omega)
    rw [show A.length+1+((i+j) / 2-(A.length+1))=(i+j) / 2 by omega] at g
    have gx:=gX 0 (by omega)
    simp only [f_sym_l1_b]
    rw [decide_eq_true (by omega),cond_true,ret_eq,show (i:Int)+(j:Int)=((i+j:Nat):Int) by omega,half_eq (by omega),g,some_bind,h1,show (A.length:Int)=((A.length+0:Nat):Int) from rfl,gx,some_bind]
    rw [show ([x]:List RowA).getD 0 row0=x from rfl,hy,some_bind,hlt,ret_eq,wI_eq (by omega) (by omega)]
    rfl) (fun i nx _ _=>by
    simp only [f_sym_l1_b]
    rw [decide_eq_false (by omega),cond_false]) (fun c d hc hcd hd ht=>by
    rw [decide_eq_true_eq] at ht ⊢
    exact u64_le_lt (srt_get hsY (by omega) (by omega)) ht) (by omega)
  refine ⟨Y.take (s-(A.length+1))++x::Y.drop (s-(A.length+1)),?_,?_,?_⟩
  refine List.perm_middle.trans ?_
  rw [List.take_append_drop]
  exact List.Perm.refl _
  refine srt_append.2 ⟨List.Pairwise.sublist (List.take_sublist ..) hsY,List.pairwise_cons.2 ⟨fun y hy=>?_,List.Pairwise.sublist (List.drop_sublist ..) hsY⟩,fun u hu w hw=>?_⟩
  obtain ⟨i,hi,rfl⟩:=List.getElem_of_mem hy
  simp only [List.length_drop] at hi
  have:=b4 s (by omega) (by omega)
  rw [decide_eq_false_iff_not] at this
  have h5:=u64_le_of_not_lt this
  rw [List.getElem_drop]
  have h6:=srt_get hsY (i:=s-(A.length+1)) (j:=s-(A.length+1)+i) (by omega) (by omega)
  rw [getD_row (show s-(A.length+1)+i<Y.length by omega)] at h6
  exact u64_le_trans h5 h6
  obtain ⟨i,hi,rfl⟩:=List.getElem_of_mem hu
  simp only [List.length_take] at hi
  have:=b3 (A.length+1+i) (by omega) (by omega)
  rw [decide_eq_true_eq,Nat.add_sub_cancel_left,getD_row (by omega)] at this
  rw [List.getElem_take]
  rcases List.mem_cons.1 hw with rfl | hw
  exact u64_le_of_lt this
  obtain ⟨k,hk,rfl⟩:=List.getElem_of_mem hw
  simp only [List.length_drop] at hk
  rw [List.getElem_drop]
  exact List.pairwise_iff_getElem.1 hsY i (s-(A.length+1)+k) (by omega) (by omega) (by omega)
  have e2:p2=((A.length+1:Nat):Int):=h2
  have e3:p3=((A.length+1+Y.length:Nat):Int):=h3
  have hb5:=b5 n (by omega)
  unfold f_sym_l1
  rw [e2,e3,hb5]
  unfold f_sym_j2
  have:=mv_right (Y.drop (s-(A.length+1))++B) x (s:Int) (Y.take (s-(A.length+1))) A (by simp;omega) (by unfold big;simp;omega) n (by simp;omega)
  rw [h1,show A++[x]++Y++B=A++x::Y.take (s-(A.length+1))++(Y.drop (s-(A.length+1))++B) by
   conv=>lhs;rw [←List.take_append_drop (s-(A.length+1)) Y]
   simp only [List.append_assoc,List.cons_append,List.nil_append],this]
  simp
  rw [decide_eq_false (by omega),cond_false]
  unfold f_sym_j1
  rw [e32]
  by_cases hy1:Y.length=1
  
  obtain ⟨y,rfl⟩:=List.length_eq_one_iff.1 hy1
  rw [decide_eq_true (by simp),cond_true]
  simp only [List.length_singleton] at*
  obtain ⟨s,b1,b2,b3,b4,b5⟩:=bs_loop (F:=fun nx ww=>f_sym_l3_b n p2 (A++X++[y]++B) nx ww.1 ww.2) (z:=fun i=>f_sym_j5 n p2 (A++X++[y]++B) (i:Int))
   (fun c=>decide ((X.getD (c-A.length) row0).id≤y.id)) A.length (A.length+X.length) (fun i j hi hij hj nx=>by
    obtain ⟨u,hu,hlt⟩:=load1_not y (X.getD ((i+j) / 2-A.length) row0)
    have g:=gX ((i+j) / 2-A.length) (by omega)
    rw [show A.length+((i+j) / 2-A.length)=(i+j) / 2 by omega] at g
    have gy:=gY 0 (by omega)
    simp only [f_sym_l3_b]
    rw [decide_eq_true (by omega),cond_true,ret_eq,show (i:Int)+(j:Int)=((i+j:Nat):Int) by omega,half_eq (by omega),h2,show ((A.length+X.length:Nat):Int)=((A.length+X.length+0:Nat):Int) from rfl,gy,some_bind,g,some_bind]
    rw [show ([y]:List RowA).getD 0 row0=y from rfl,hu,some_bind,hlt,ret_eq,wI_eq (by omega) (by omega)]
    rfl) (fun i nx _ _=>by
    simp only [f_sym_l3_b]
    rw [decide_eq_false (by omega),cond_false]) (fun c d hc hcd hd ht=>by
    rw [decide_eq_true_eq] at ht ⊢
    exact u64_le_trans (srt_get hsX (by omega) (by omega)) ht) (by omega)
  refine ⟨X.take (s-A.length)++y::X.drop (s-A.length),?_,?_,?_⟩
  refine List.perm_middle.trans ?_
  rw [List.take_append_drop]
  exact (List.perm_append_singleton y X).symm
  refine srt_append.2 ⟨List.Pairwise.sublist (List.take_sublist ..) hsX,List.pairwise_cons.2 ⟨fun w hw=>?_,List.Pairwise.sublist (List.drop_sublist ..) hsX⟩,fun u hu w hw=>?_⟩
  obtain ⟨i,hi,rfl⟩:=List.getElem_of_mem hw
  simp only [List.length_drop] at hi
  have:=b4 (s+i) (by omega) (by omega)
  rw [decide_eq_false_iff_not,show s+i-A.length=s-A.length+i by omega,getD_row (show s-A.length+i<X.length by omega)] at this
  rw [List.getElem_drop]
  rw [UInt64.le_iff_toNat_le] at*
  omega
  obtain ⟨i,hi,rfl⟩:=List.getElem_of_mem hu
  simp only [List.length_take] at hi
  have:=b3 (A.length+i) (by omega) (by omega)
  rw [decide_eq_true_eq,Nat.add_sub_cancel_left,getD_row (by omega)] at this
  rw [List.getElem_take]
  rcases List.mem_cons.1 hw with rfl | hw
  exact this
  obtain ⟨k,hk,rfl⟩:=List.getElem_of_mem hw
  simp only [List.length_drop] at hk
  rw [List.getElem_drop]
  exact List.pairwise_iff_getElem.1 hsX i (s-A.length+k) (by omega) (by omega) (by omega)
  have hb5:=b5 n (by omega)
  unfold f_sym_l3
  rw [h1]
  conv=>lhs;rw [show p2=((A.length+X.length:Nat):Int) from h2]
  rw [h2] at hb5
  rw [hb5]
  unfold f_sym_j5
  have:=mv_left (A++X.take (s-A.length)) y (A.length+X.length-s) (X.drop (s-A.length)) B (by simp;omega) (by unfold big;simp;omega) n (by omega)
  rw [show (A++X.take (s-A.length)).length=s by simp;omega] at this
  rw [show s+(A.length+X.length-s)=A.length+X.length by omega] at this
  rw [show A++X++[y]++B=A++X.take (s-A.length)++X.drop (s-A.length)++y::B by
   conv=>lhs;rw [←List.take_append_drop (s-A.length) X]
   simp only [List.append_assoc,List.cons_append,List.nil_append],this]
  simp
  rw [decide_eq_false (by omega),cond_false]
  
  obtain ⟨a,ha⟩:∃a,a=A.length:=⟨_,rfl⟩
  obtain ⟨m,hm⟩:∃m,m=A.length+X.length:=⟨_,rfl⟩
  obtain ⟨b,hbb⟩:∃b,b=A.length+X.length+Y.length:=⟨_,rfl⟩
  obtain ⟨mid,hmid⟩:∃mid,mid=(a+b) / 2:=⟨_,rfl⟩
  obtain ⟨lo,hi,hlh⟩:∃lo hi:Nat,(mid<m∧lo=mid+m-b∧hi=mid)∨(m≤mid∧lo=a∧hi=m):=by
   rcases Nat.lt_or_ge mid m with h | h
   exact ⟨_,_,.inl ⟨h,rfl,rfl⟩⟩
   exact ⟨_,_,.inr ⟨h,rfl,rfl⟩⟩
  rw [←ha] at h1
  rw [←hm] at h2
  rw [←hbb] at h3
  have hj4:f_sym_j4 n p1 p2 p3 (symF n f) (A++X++Y++B)=f_sym_j7 n p1 p2 p3 (symF n f) (A++X++Y++B) (mid:Int) ((mid+m:Nat):Int) (lo:Int) (hi:Int):=by
   unfold f_sym_j4
   rw [ret_eq,ret_eq,h1,h2,h3,show (a:Int)+(b:Int)=((a+b:Nat):Int) by omega,half_eq (by omega),←hmid,wI_eq (x:=(mid:Int)+_) (by omega) (by omega),show (mid:Int)+(m:Int)=((mid+m:Nat):Int) by omega]
   rcases hlh with ⟨h5,rfl,rfl⟩ | ⟨h5,rfl,rfl⟩
   rw [decide_eq_true (by omega),cond_true,ret_eq,wI_eq (by omega) (by omega)]
   congr 1
   omega
   rw [decide_eq_false (by omega),cond_false]
  rw [hj4]
  clear hj4
  unfold f_sym_j7
  rw [ret_eq,wI_eq (by omega) (by omega)]
  have hloa:a≤lo:=by omega
  have hlh2:lo≤hi:=by omega
  have him:hi≤m:=by omega
  have hpb:∀c,lo≤c→c<hi→m≤mid+m-1-c∧mid+m-1-c<b:=by
   intro c h5 h6
   omega
  obtain ⟨s,b1,b2,b3,b4,b5⟩:=bs_loop (F:=fun nx ww=>f_sym_l5_b n p1 p2 p3 (symF n f) (A++X++Y++B) (mid:Int) ((mid+m:Nat):Int) (((mid+m:Nat):Int)-1) nx ww.1 ww.2)
   (z:=fun i=>f_sym_j8 n p1 p2 p3 (symF n f) (A++X++Y++B) (mid:Int) ((mid+m:Nat):Int) (i:Int))
   (fun c=>decide ((X.getD (c-a) row0).id≤(Y.getD (mid+m-1-c-m) row0).id)) lo hi (fun i j hi1 hij hj nx=>by
    have hpp:=hpb ((i+j) / 2) (by omega) (by omega)
    obtain ⟨u,hu,hlt⟩:=load1_not (Y.getD (mid+m-1-(i+j) / 2-m) row0) (X.getD ((i+j) / 2-a) row0)
    have g:=gX ((i+j) / 2-a) (by omega)
    rw [show A.length+((i+j) / 2-a)=(i+j) / 2 by omega] at g
    have gy:=gY (mid+m-1-(i+j) / 2-m) (by omega)
    rw [show A.length+X.length+(mid+m-1-(i+j) / 2-m)=mid+m-1-(i+j) / 2 by omega] at gy
    simp only [f_sym_l5_b]
    rw [decide_eq_true (by omega),cond_true,ret_eq,show (i:Int)+(j:Int)=((i+j:Nat):Int) by omega,half_eq (by omega),wI_eq (x:=((mid+m:Nat):Int)-1-_) (by omega) (by omega),show ((mid+m:Nat):Int)-1-(((i+j) / 2:Nat):Int)=((mid+m-1-(i+j) / 2:Nat):Int) by omega,gy,some_bind,g,some_bind]
    rw [hu,some_bind,hlt,ret_eq,wI_eq (by omega) (by omega)]
    rfl) (fun i nx _ _=>by
    simp only [f_sym_l5_b]
    rw [decide_eq_false (by omega),cond_false]) (fun c d hc hcd hd ht=>by
    rw [decide_eq_true_eq] at ht ⊢
    have hp1:=hpb c hc (by omega)
    have hp2:=hpb d (by omega) hd
    refine u64_le_trans (srt_get hsX (show c-a≤d-a by omega) (by omega)) (u64_le_trans ht (srt_get hsY (by omega) (by omega)))) hlh2
  have hb5:=b5 n (by omega)
  unfold f_sym_l5
  rw [hb5]
  clear hb5 b5
  obtain ⟨e,he⟩:∃e,e=mid+m-s:=⟨_,rfl⟩
  have hem:m≤e:=by omega
  have heb:e≤b:=by omega
  have hx12:X=X.take (s-a)++X.drop (s-a):=(List.take_append_drop ..).symm
  have hy12:Y=Y.take (e-m)++Y.drop (e-m):=(List.take_append_drop ..).symm
  have lX1:(X.take (s-a)).length=s-a:=by simp;omega
  have lX2:(X.drop (s-a)).length=m-s:=by simp;omega
  have lY1:(Y.take (e-m)).length=e-m:=by simp;omega
  have lY2:(Y.drop (e-m)).length=b-e:=by simp;omega
  have q1:∀u∈X.take (s-a),∀w∈Y.drop (e-m),u.id≤w.id:=by
   intro u hu w hw
   obtain ⟨i,hi,rfl⟩:=List.getElem_of_mem hu
   obtain ⟨k,hk,rfl⟩:=List.getElem_of_mem hw
   rw [lX1] at hi
   rw [lY2] at hk
   rw [List.getElem_take,List.getElem_drop]
   have hs1:lo<s:=by omega
   have:=b3 (s-1) (by omega) (by omega)
   rw [decide_eq_true_eq] at this
   have h6:=srt_get hsX (i:=i) (j:=s-1-a) (by omega) (by omega)
   have h7:=srt_get hsY (i:=mid+m-1-(s-1)-m) (j:=e-m+k) (by omega) (by omega)
   rw [getD_row (show i<X.length by omega)] at h6
   rw [getD_row (show e-m+k<Y.length by omega)] at h7
   exact u64_le_trans h6 (u64_le_trans this h7)
  have q2:∀u∈Y.take (e-m),∀w∈X.drop (s-a),u.id≤w.id:=by
   intro u hu w hw
   obtain ⟨i,hii,rfl⟩:=List.getElem_of_mem hu
   obtain ⟨k,hk,rfl⟩:=List.getElem_of_mem hw
   rw [lY1] at hii
   rw [lX2] at hk
   rw [List.getElem_take,List.getElem_drop]
   have hs1:s<hi:=by omega
   have:=b4 s (by omega) hs1
   rw [decide_eq_false_iff_not] at this
   have h6:=srt_get hsY (i:=i) (j:=mid+m-1-s-m) (by omega) (by omega)
   have h7:=srt_get hsX (i:=s-a) (j:=s-a+k) (by omega) (by omega)
   rw [getD_row (show i<Y.length by omega)] at h6
   rw [getD_row (show s-a+k<X.length by omega)] at h7
   refine u64_le_trans h6 (u64_le_trans ?_ h7)
   rw [UInt64.le_iff_toNat_le] at*
   omega
  clear b3 b4
  generalize X.take (s-a)=X1 at*
  generalize X.drop (s-a)=X2 at*
  generalize Y.take (e-m)=Y1 at*
  generalize Y.drop (e-m)=Y2 at*
  subst hx12 hy12
  have sX:=srt_append.1 hsX
  have sY:=srt_append.1 hsY
  simp only [List.length_append] at*
  have hj8:f_sym_j8 n p1 p2 p3 (symF n f) (A++(X1++X2)++(Y1++Y2)++B) (mid:Int) ((mid+m:Nat):Int) (s:Int)=f_sym_j9 p1 p3 (symF n f) (mid:Int) (s:Int) (e:Int) (A++(X1++Y1)++(X2++Y2)++B):=by
   unfold f_sym_j8
   rw [ret_eq,wI_eq (by omega) (by omega),show ((mid+m:Nat):Int)-(s:Int)=(e:Int) by omega,h2]
   by_cases hc:s<m∧m<e
   rw [decide_eq_true (by omega),decide_eq_true (by omega)]
   simp only [Bool.and_self,cond_true]
   have:=rot_eq (n:=n) (A++X1) X2 Y1 (Y2++B) (p1:=(s:Int)) (p2:=(m:Int)) (p3:=(e:Int)) (List.length_pos_iff.1 (by omega)) (List.length_pos_iff.1 (by omega)) (by omega) (by simp;omega) (by simp;omega) (by simp;omega) (by unfold big;simp;omega)
   rw [show A++(X1++X2)++(Y1++Y2)++B=A++X1++X2++Y1++(Y2++B) by simp,this,some_bind]
   congr 1
   simp
   rw [show (decide ((s:Int)<(m:Int))&&decide ((m:Int)<(e:Int)))=false by
    simp only [Bool.and_eq_false_iff,decide_eq_false_iff_not]
    omega,cond_false]
   congr 1
   by_cases hc1:s<m
   have:Y1=[]:=List.length_eq_zero_iff.1 (by omega)
   subst this
   simp
   have:X2=[]:=List.length_eq_zero_iff.1 (by omega)
   subst this
   simp
  rw [hj8]
  clear hj8
  obtain ⟨Z1,z1,z2,z3⟩:∃Z1,Z1.Perm (X1++Y1)∧Srt Z1∧f_sym_j9 p1 p3 (symF n f) (mid:Int) (s:Int) (e:Int) (A++(X1++Y1)++(X2++Y2)++B)=f_sym_j10 p3 (symF n f) (mid:Int) (e:Int) (A++Z1++(X2++Y2)++B):=by
   unfold f_sym_j9
   by_cases hc:a<s∧s<mid
   obtain ⟨Z1,z1,z2,z3⟩:=sym_eq n f A X1 Y1 ((X2++Y2)++B) p1 (s:Int) (mid:Int) (List.length_pos_iff.1 (by omega)) (List.length_pos_iff.1 (by omega)) (by omega) (by omega) (by omega) (by omega) (by omega) (by unfold big;simp;omega) sX.1 sY.1
   refine ⟨Z1,z1,z2,?_⟩
   rw [decide_eq_true (by omega),decide_eq_true (by omega)]
   simp only [Bool.and_self,cond_true]
   rw [show A++(X1++Y1)++(X2++Y2)++B=A++X1++Y1++((X2++Y2)++B) by simp,z3,some_bind]
   congr 1
   simp
   refine ⟨X1++Y1,List.Perm.refl _,?_,?_⟩
   by_cases hc1:a<s
   have:Y1=[]:=List.length_eq_zero_iff.1 (by omega)
   subst this
   simpa using sX.1
   have:X1=[]:=List.length_eq_zero_iff.1 (by omega)
   subst this
   simpa using sY.1
   rw [show (decide (p1<(s:Int))&&decide ((s:Int)<(mid:Int)))=false by
    simp only [Bool.and_eq_false_iff,decide_eq_false_iff_not]
    omega,cond_false]
  rw [z3]
  clear z3
  have lZ1:Z1.length=mid-a:=by
   rw [z1.length_eq]
   simp
   omega
  obtain ⟨Z2,y1,y2,y3⟩:∃Z2,Z2.Perm (X2++Y2)∧Srt Z2∧f_sym_j10 p3 (symF n f) (mid:Int) (e:Int) (A++Z1++(X2++Y2)++B)=some (A++Z1++Z2++B):=by
   unfold f_sym_j10
   by_cases hc:mid<e∧e<b
   obtain ⟨Z2,y1,y2,y3⟩:=sym_eq n f (A++Z1) X2 Y2 B (mid:Int) (e:Int) p3 (List.length_pos_iff.1 (by omega)) (List.length_pos_iff.1 (by omega)) (by omega) (by omega) (by simp;omega) (by simp;omega) (by simp;omega) (by unfold big;simp;omega) sX.2.1 sY.2.1
   refine ⟨Z2,y1,y2,?_⟩
   rw [decide_eq_true (by omega),decide_eq_true (by omega)]
   simp only [Bool.and_self,cond_true]
   rw [show A++Z1++(X2++Y2)++B=A++Z1++X2++Y2++B by simp,y3,some_bind]
   refine ⟨X2++Y2,List.Perm.refl _,?_,?_⟩
   by_cases hc1:mid<e
   have:Y2=[]:=List.length_eq_zero_iff.1 (by omega)
   subst this
   simpa using sX.2.1
   have:X2=[]:=List.length_eq_zero_iff.1 (by omega)
   subst this
   simpa using sY.2.1
   rw [show (decide ((mid:Int)<(e:Int))&&decide ((e:Int)<p3))=false by
    simp only [Bool.and_eq_false_iff,decide_eq_false_iff_not]
    omega,cond_false]
  rw [y3]
  refine ⟨Z1++Z2,?_,?_,by simp⟩
  refine (z1.append y1).trans ?_
  rw [List.append_assoc,List.append_assoc]
  refine List.Perm.append_left X1 ?_
  rw [←List.append_assoc,←List.append_assoc]
  exact List.Perm.append_right Y2 List.perm_append_comm
  refine srt_append.2 ⟨z2,y2,fun u hu w hw=>?_⟩
  have hu:=z1.mem_iff.1 hu
  have hw:=y1.mem_iff.1 hw
  rcases List.mem_append.1 hu with hu | hu<;>rcases List.mem_append.1 hw with hw | hw
  exact sX.2.2 u hu w hw
  exact q1 u hu w hw
  exact q2 u hu w hw
  exact sY.2.2 u hu w hw
/-! ### Blocks, each sorted -/
inductive SB (bs:Nat):List RowA→Prop
 | last (S:List RowA):S.length≤bs→Srt S→SB bs S
 | more (S R:List RowA):S.length=bs→Srt S→SB bs R→SB bs (S++R)
theorem SB.one {bs:Nat} {l:List RowA} (h:SB bs l) (hl:l.length≤bs):Srt l:=by
 cases h with
 | last _ _ hs=>exact hs
 | more S R hS hs hR=>
  have:R=[]:=List.length_eq_zero_iff.1 (by simp at hl;omega)
  subst this
  simpa using hs
theorem merge_pass {n bs:Nat} (hbs:0<bs) (N:Nat) (hN:N+2≤n) (hNb:N+4*bs≤big):∀(k:Nat) (D R:List RowA),R.length≤k→D.length+R.length=N→SB bs R→
  ∃R',R'.Perm R∧SB (2*bs) R'∧∀(nx:List RowA×Int→Option (List RowA)) (m:Nat),k<m→f_stb_l3 n (N:Int) (bs:Int) nx m (D++R,(D.length:Int),((D.length+2*bs:Nat):Int))=f_stb_j3 (bs:Int) nx (D++R'):=by
 unfold big at hNb
 intro k
 induction k with
 | zero=>
  intro D R hk hN' h
  have hR:R=[]:=List.length_eq_zero_iff.1 (by omega)
  subst hR
  refine ⟨[],List.Perm.refl _,.last [] (by simp) List.Pairwise.nil,fun nx m hm=>?_⟩
  obtain ⟨m,rfl⟩:∃k,m=k+1:=⟨m-1,by omega⟩
  simp at hN'
  show f_stb_l3_b _ _ _ _ (f_stb_l3 _ _ _ _ m) _ _ _=_
  unfold f_stb_l3_b
  dsimp only
  rw [decide_eq_false (by omega),cond_false]
  unfold f_stb_j2
  rw [ret_eq,wI_eq (by omega) (by omega),decide_eq_false (by omega),cond_false]
 | succ k ih=>
  intro D R hk hN' h
  
  have two:∀(S T U:List RowA),S.length=bs→T≠[]→D.length+S.length+T.length+U.length=N→Srt S→Srt T→∃Z,Z.Perm (S++T)∧Srt Z∧symN n (D++(S++(T++U))) (D.length:Int) ((D.length+bs:Nat):Int) ((D.length+bs+T.length:Nat):Int)=some (D++(Z++U)):=by
   intro S T U hS hT hl h1 h2
   have hTp:=List.length_pos_iff.2 hT
   obtain ⟨Z,a1,a2,a3⟩:=sym_eq n n D S T U (D.length:Int) ((D.length+bs:Nat):Int) ((D.length+bs+T.length:Nat):Int) (List.length_pos_iff.1 (by omega)) hT (by omega) (by omega) rfl (by rw [hS]) (by rw [hS]) (by unfold big;simp;omega) h1 h2
   refine ⟨Z,a1,a2,?_⟩
   have:symN n=symF n n:=rfl
   rw [this]
   simpa using a3
  have big3:∀(S T U:List RowA),S.length=bs→T.length=bs→R=S++(T++U)→Srt S→Srt T→SB bs U→∃R',R'.Perm R∧SB (2*bs) R'∧∀(nx:List RowA×Int→Option (List RowA)) (m:Nat),k+1<m→f_stb_l3 n (N:Int) (bs:Int) nx m (D++R,(D.length:Int),((D.length+2*bs:Nat):Int))=f_stb_j3 (bs:Int) nx (D++R'):=by
   intro S T U hS hT hR h1 h2 h3
   subst hR
   simp only [List.length_append] at hk hN'
   obtain ⟨Z,a1,a2,a3⟩:=two S T U hS (List.length_pos_iff.1 (by omega)) (by omega) h1 h2
   have hZ:Z.length=2*bs:=by rw [a1.length_eq];simp;omega
   obtain ⟨U',u1,u2,u3⟩:=ih (D++Z) U (by omega) (by simp;omega) h3
   refine ⟨Z++U',?_,.more Z U' hZ a2 u2,fun nx m hm=>?_⟩
   refine (a1.append u1).trans ?_
   simp
   obtain ⟨m,rfl⟩:∃k,m=k+1:=⟨m-1,by omega⟩
   show f_stb_l3_b _ _ _ _ (f_stb_l3 _ _ _ _ m) _ _ _=_
   unfold f_stb_l3_b
   dsimp only
   rw [decide_eq_true (by omega),cond_true,wI_eq (x:=(D.length:Int)+_) (by omega) (by omega),show (D.length:Int)+(bs:Int)=((D.length+bs:Nat):Int) by omega,show ((D.length+2*bs:Nat):Int)=((D.length+bs+T.length:Nat):Int) by omega,a3,some_bind,ret_eq,wI_eq (x:=2*(bs:Int)) (by omega) (by omega),wI_eq (by omega) (by omega)]
   have:=u3 nx m (by omega)
   rw [show (D++Z).length=D.length+bs+T.length by simp;omega] at this
   rw [show ((D.length+bs+T.length:Nat):Int)+2*(bs:Int)=((D.length+bs+T.length+2*bs:Nat):Int) by omega]
   simpa using this
  
  have fin:∀(S T:List RowA),S.length=bs→T.length<bs→R=S++T→Srt S→Srt T→∃R',R'.Perm R∧SB (2*bs) R'∧∀(nx:List RowA×Int→Option (List RowA)) (m:Nat),k+1<m→f_stb_l3 n (N:Int) (bs:Int) nx m (D++R,(D.length:Int),((D.length+2*bs:Nat):Int))=f_stb_j3 (bs:Int) nx (D++R'):=by
   intro S T hS hT hR h1 h2
   subst hR
   simp only [List.length_append] at hk hN'
   by_cases hT0:T=[]
   subst hT0
   refine ⟨S++[],List.Perm.refl _,.last _ (by simp;omega) (by simpa using h1),fun nx m hm=>?_⟩
   obtain ⟨m,rfl⟩:∃k,m=k+1:=⟨m-1,by omega⟩
   simp only [List.length_nil] at*
   show f_stb_l3_b _ _ _ _ (f_stb_l3 _ _ _ _ m) _ _ _=_
   unfold f_stb_l3_b
   dsimp only
   rw [decide_eq_false (by omega),cond_false]
   unfold f_stb_j2
   rw [ret_eq,wI_eq (by omega) (by omega),decide_eq_false (by omega),cond_false]
   obtain ⟨Z,a1,a2,a3⟩:=two S T [] hS hT0 (by simp;omega) h1 h2
   have hTp:=List.length_pos_iff.2 hT0
   refine ⟨Z,a1,.last Z (by rw [a1.length_eq];simp;omega) a2,fun nx m hm=>?_⟩
   obtain ⟨m,rfl⟩:∃k,m=k+1:=⟨m-1,by omega⟩
   show f_stb_l3_b _ _ _ _ (f_stb_l3 _ _ _ _ m) _ _ _=_
   unfold f_stb_l3_b
   dsimp only
   rw [decide_eq_false (by omega),cond_false]
   unfold f_stb_j2
   rw [ret_eq,wI_eq (by omega) (by omega),decide_eq_true (by omega),cond_true,show (D.length:Int)+(bs:Int)=((D.length+bs:Nat):Int) by omega,show (N:Int)=((D.length+bs+T.length:Nat):Int) by omega]
   simp only [List.append_nil] at a3
   rw [a3,some_bind]
  cases h with
  | last S hl hs=>
   by_cases hlt:R.length<bs
   refine ⟨R,List.Perm.refl _,.last R (by omega) hs,fun nx m hm=>?_⟩
   obtain ⟨m,rfl⟩:∃k,m=k+1:=⟨m-1,by omega⟩
   show f_stb_l3_b _ _ _ _ (f_stb_l3 _ _ _ _ m) _ _ _=_
   unfold f_stb_l3_b
   dsimp only
   rw [decide_eq_false (by omega),cond_false]
   unfold f_stb_j2
   rw [ret_eq,wI_eq (by omega) (by omega),decide_eq_false (by omega),cond_false]
   exact fin R [] (by omega) (by simpa using hbs) (by simp) hs List.Pairwise.nil
  | more S R1 hS hs hR=>
   cases hR with
   | last T hl ht=>
    by_cases hlt:R1.length<bs
    exact fin S R1 hS hlt rfl hs ht
    exact big3 S R1 [] hS (by omega) (by simp) hs ht (.last [] (by simp) List.Pairwise.nil)
   | more T U hT ht hU=>exact big3 S T U hS hT rfl hs ht hU
theorem stable_loop {n:Nat} (N:Nat) (hN:2*N+2≤n) (hNb:6*N≤1073741824):∀(k bs:Nat) (l:List RowA),0<bs→N-bs≤k→l.length=N→SB bs l→∃l',l'.Perm l∧Srt l'∧∀m,k<m→f_stb_l2 n (N:Int) m (l,(bs:Int))=some l':=by
 intro k
 induction k with
 | zero=>
  intro bs l hbs hk hl h
  refine ⟨l,List.Perm.refl _,h.one (by omega),fun m hm=>?_⟩
  obtain ⟨m,rfl⟩:∃k,m=k+1:=⟨m-1,by omega⟩
  show f_stb_l2_b _ _ (f_stb_l2 _ _ m) _ _=_
  unfold f_stb_l2_b
  dsimp only
  rw [decide_eq_false (by omega),cond_false]
 | succ k ih=>
  intro bs l hbs hk hl h
  by_cases hlt:bs<N
  obtain ⟨R',r1,r2,r3'⟩:=merge_pass (n:=n) hbs N (by omega) (by unfold big;omega) N [] l (by omega) (by simp [hl]) h
  have r3:∀(nx:List RowA×Int→Option (List RowA)) (m:Nat),N<m→f_stb_l3 n (N:Int) (bs:Int) nx m (l,0,((2*bs:Nat):Int))=f_stb_j3 (bs:Int) nx R':=fun nx m hm=>by
   have:=r3' nx m hm
   simpa using this
  obtain ⟨l',b1,b2,b3⟩:=ih (2*bs) R' (by omega) (by omega) (by rw [r1.length_eq,hl]) r2
  refine ⟨l',b1.trans r1,b2,fun m hm=>?_⟩
  obtain ⟨m,rfl⟩:∃k,m=k+1:=⟨m-1,by omega⟩
  show f_stb_l2_b _ _ (f_stb_l2 _ _ m) _ _=_
  unfold f_stb_l2_b
  dsimp only
  rw [decide_eq_true (by omega),cond_true,ret_eq,wI_eq (by omega) (by omega),show (2:Int)*(bs:Int)=((2*bs:Nat):Int) by omega,r3 _ n (by omega)]
  unfold f_stb_j3
  rw [ret_eq,wI_eq (by omega) (by omega),show (bs:Int)*2=((2*bs:Nat):Int) by omega]
  exact b3 m (by omega)
  refine ⟨l,List.Perm.refl _,h.one (by omega),fun m hm=>?_⟩
  obtain ⟨m,rfl⟩:∃k,m=k+1:=⟨m-1,by omega⟩
  show f_stb_l2_b _ _ (f_stb_l2 _ _ m) _ _=_
  unfold f_stb_l2_b
  dsimp only
  rw [decide_eq_false (by omega),cond_false]
theorem stable_first {n:Nat} (N:Nat) (hN:2*N+60≤n) (hNb:6*N+1000≤1073741824):∀(k:Nat) (D R:List RowA),R.length≤k→D.length+R.length=N→
  ∃R',R'.Perm R∧SB 20 R'∧∀m,k<m→f_stb_l1 n (N:Int) m (D++R,(D.length:Int),((D.length+20:Nat):Int))=f_stb_l2 n (N:Int) n (D++R',20):=by
 have one:∀(D R:List RowA),R.length<20→D.length+R.length=N→∃R',R'.Perm R∧SB 20 R'∧∀m,0<m→f_stb_l1 n (N:Int) m (D++R,(D.length:Int),((D.length+20:Nat):Int))=f_stb_l2 n (N:Int) n (D++R',20):=by
  intro D R hR hl
  obtain ⟨R',a1,a2,a3⟩:=ins_eq (n:=n) D R [] (by omega) (by unfold big;simp;omega)
  refine ⟨R',a1,.last R' (by rw [a1.length_eq];omega) a2,fun m hm=>?_⟩
  obtain ⟨m,rfl⟩:∃k,m=k+1:=⟨m-1,by omega⟩
  show f_stb_l1_b _ _ (f_stb_l1 _ _ m) _ _ _=_
  unfold f_stb_l1_b
  dsimp only
  rw [decide_eq_false (by omega),cond_false]
  unfold f_stb_j1
  simp only [List.append_nil] at a3
  rw [show (N:Int)=((D.length+R.length:Nat):Int) by omega,a3,some_bind]
 intro k
 induction k with
 | zero=>
  intro D R hk hl
  obtain ⟨R',a1,a2,a3⟩:=one D R (by omega) hl
  exact ⟨R',a1,a2,fun m hm=>a3 m hm⟩
 | succ k ih=>
  intro D R hk hl
  by_cases hR:R.length<20
  obtain ⟨R',a1,a2,a3⟩:=one D R hR hl
  exact ⟨R',a1,a2,fun m hm=>a3 m (by omega)⟩
  obtain ⟨S,U,rfl,hS⟩:∃S U,R=S++U∧S.length=20:=⟨R.take 20,R.drop 20,(List.take_append_drop ..).symm,by simp;omega⟩
  simp only [List.length_append] at*
  obtain ⟨S',a1,a2,a3⟩:=ins_eq (n:=n) D S U (by omega) (by unfold big;simp;omega)
  have hS':S'.length=20:=by rw [a1.length_eq,hS]
  obtain ⟨U',u1,u2,u3⟩:=ih (D++S') U (by omega) (by simp;omega)
  refine ⟨S'++U',a1.append u1,.more S' U' hS' a2 u2,fun m hm=>?_⟩
  obtain ⟨m,rfl⟩:∃k,m=k+1:=⟨m-1,by omega⟩
  show f_stb_l1_b _ _ (f_stb_l1 _ _ m) _ _ _=_
  unfold f_stb_l1_b
  dsimp only
  rw [hS] at a3
  rw [decide_eq_true (by omega),cond_true,←List.append_assoc,a3,some_bind,ret_eq,wI_eq (by omega) (by omega)]
  have:=u3 m (by omega)
  rw [show (D++S').length=D.length+20 by simp [hS']] at this
  simpa using this
theorem stable_sorts {n:Nat} (l:List RowA) (hn:2*l.length+60≤n) (hb:l.length≤1048576):∃l',l'.Perm l∧Srt l'∧f_sst n l=some l':=by
 obtain ⟨R',a1,a2,a3⟩:=stable_first (n:=n) l.length hn (by omega) l.length [] l (Nat.le_refl _) (by simp)
 obtain ⟨l',b1,b2,b3⟩:=stable_loop (n:=n) l.length (by omega) (by omega) l.length 20 R' (by omega) (by omega) a1.length_eq a2
 refine ⟨l',b1.trans a1,b2,?_⟩
 unfold f_sst f_stb
 have h1:=a3 n (by omega)
 have h2:=b3 n (by omega)
 simp only [List.nil_append,List.length_nil,Nat.zero_add] at h1
 rw [show ((0:Nat):Int)=0 from rfl] at h1
 rw [show ((20:Nat):Int)=20 from rfl] at h1 h2
 rw [h1,h2]
 rfl
end Go.Proofs.YtkibffdipniemaaGreatDoor

/- Plain laws of a tree's pages: what was put is read, and found where it was put. No program in sight. Condition: as each says. -/
namespace Go.Proofs.YtkibffdipniemaaGreatDoor
open Go

def RdOk (T:List UInt32) (v:VltA) (d:DevA) (seg:List SavedA):Prop:=∀s∈seg,f_vv_Read T v d ⟨s.page,s.tag⟩=some (s.txt,0)∧refOk ⟨s.page,s.tag⟩=true
theorem RdOk.left {T:List UInt32} {v:VltA} {d:DevA} {a b:List SavedA} (h:RdOk T v d (a++b)):RdOk T v d a:=fun s hs=>h s (List.mem_append_left _ hs)
theorem RdOk.right {T:List UInt32} {v:VltA} {d:DevA} {a b:List SavedA} (h:RdOk T v d (a++b)):RdOk T v d b:=fun s hs=>h s (List.mem_append_right _ hs)
variable {n:Nat} {T:List UInt32} {v:VltA} {d:DevA}
def onP (x:PageA):List RefA:=if refNo ⟨x.npage,x.ntag⟩=true then x.kids else x.kids++[⟨x.npage,x.ntag⟩]
theorem pageOk_len {x:PageA} (h:pageOk x=true):x.rows.length≤4∧x.kids.length≤4:=by
 by_cases hk:x.kind=1
 obtain ⟨h1,h2,h3,h4,h5,h6,h7⟩:=pageOk_leaf h hk
 rw [h4]
 exact ⟨h5,by simp⟩
 obtain ⟨hk2,h1,h2,h3,h4,h5,h6,h7,h8⟩:=pageOk_inner h hk
 rw [h2]
 exact ⟨by simp,h6⟩
theorem page_read {rec_:LdA→VltA→DevA→RefA→Option (Int×LdA)} {x:LdA} {P:PageA} {r:RefA} (hn:10≤n) (h:pageOk P=true) (hrd:f_vv_Read T v d r=some (encPg P,0)) (h0:0≤x.count) (hc:x.count<2100) (hb:x.rows.length≤100000):
  f_gpg rec_ n T x v d r=f_gpg_l1 v d r rec_ (encPg P,0) (onP P) n ({ x with rows:=x.rows++P.rows,count:=x.count+1 },0):=by
 obtain ⟨l1,l2⟩:=pageOk_len h
 unfold f_gpg
 rw [decide_eq_false (by omega),cond_false,hrd,some_bind,show (!decide ((0:Int)=0))=false from rfl,cond_false,decode_enc hn h,some_bind,show (!decide ((0:Int)=0))=false from rfl,cond_false]
 dsimp only
 rw [appL_eq (by omega) (by omega),some_bind]
 unfold onP refNo f_gpg_j1
 rw [Bool.and_true,wI_eq (by omega) (by omega)]
 by_cases hno:(decide (P.npage=0)&&decide (P.ntag=[]))=true
 rw [hno,Bool.not_true,cond_false,if_pos rfl]
 have hno':(decide (P.npage=0)&&decide (P.ntag=[]))=false:=by simpa using hno
 rw [hno',Bool.not_false,cond_true,appL_eq (by simp;omega) (by simp;omega),some_bind,if_neg (by decide)]
theorem kids_read {rec_:LdA→VltA→DevA→RefA→Option (Int×LdA)} {R:NodeP→List SavedA→RefA→Prop} {lv:NodeP→List RowA} {rr:RefA} {y1:List UInt8×Int} {rs:List RefA} {M:Nat}
  (hrec:∀(k:NodeP) (s:List SavedA) (r:RefA) (x:LdA),R k s r→RdOk T v d s→s.length≤M→0≤x.count→x.count+s.length≤2100→x.out.length+s.length≤100000→x.rows.length+4*s.length≤100000→rec_ x v d r=some (0,⟨x.out++s,x.rows++lv k,x.count+s.length⟩)∧(lv k).length≤4*s.length):
  ∀(ks:List NodeP) (seg:List SavedA) (rest done:List RefA) (x:LdA),RunK R ks seg rest→rs=done++rest→RdOk T v d seg→seg.length≤M→rs.length≤1000→0≤x.count→x.count+seg.length≤2100→x.out.length+seg.length≤100000→x.rows.length+4*seg.length≤100000→
   (ks.map lv).flatten.length≤4*seg.length∧∀m,ks.length<m→f_gpg_l1 v d rr rec_ y1 rs m (x,(done.length:Int))=f_gpg_j2 rr y1 ⟨x.out++seg,x.rows++(ks.map lv).flatten,x.count+seg.length⟩
 | [],seg,rest,done,x,h,hrs,hrd,hM,hr,h0,hc,ho,hw=>by
  obtain ⟨rfl,rfl⟩:=h
  refine ⟨by simp,fun m hm=>?_⟩
  obtain ⟨m,rfl⟩:∃k,m=k+1:=⟨m-1,by omega⟩
  show f_gpg_l1_b v d rr rec_ y1 rs (f_gpg_l1 v d rr rec_ y1 rs m) x _=_
  unfold f_gpg_l1_b
  rw [hrs,decide_eq_false (by simp),cond_false]
  simp
 | k::ks,seg,rest,done,x,h,hrs,hrd,hM,hr,h0,hc,ho,hw=>by
  obtain ⟨s1,r1,s2,rs',h1,h2,rfl,rfl⟩:=h
  simp only [List.length_append] at hM hc ho hw
  have hl:rs.length=done.length+(rs'.length+1):=by rw [hrs];simp
  obtain ⟨e1,e2⟩:=hrec k s1 r1 x h1 hrd.left (by omega) h0 (by omega) (by omega) (by omega)
  obtain ⟨e3,e4⟩:=kids_read hrec ks s2 rs' (done++[r1]) ⟨x.out++s1,x.rows++lv k,x.count+s1.length⟩ h2 (by rw [hrs];simp) hrd.right (by omega) hr (by simp only;omega) (by simp only;omega) (by simp;omega) (by simp;omega)
  refine ⟨by simp only [List.map_cons,List.flatten_cons,List.length_append];omega,fun m hm=>?_⟩
  obtain ⟨m,rfl⟩:∃k,m=k+1:=⟨m-1,by omega⟩
  have n1:nthI rs (done.length:Int)=some r1:=by
   rw [nthI_of rfl,hrs]
   simp
  show f_gpg_l1_b v d rr rec_ y1 rs (f_gpg_l1 v d rr rec_ y1 rs m) x _=_
  unfold f_gpg_l1_b
  rw [decide_eq_true (by omega),cond_true,n1,some_bind,e1,some_bind,show (!decide ((0:Int)=0))=false from rfl,cond_false,wI_eq (by omega) (by omega)]
  have:=e4 m (by simp at hm;omega)
  rw [show ((done++[r1]).length:Int)=(done.length:Int)+1 by simp only [List.length_append,List.length_singleton];omega] at this
  rw [this]
  congr 1
  simp only [List.map_cons,List.flatten_cons,List.append_assoc,List.length_append,LdA.mk.injEq,true_and]
  omega
theorem RunL.snoc:∀ {ls:List (List RowA)} {l:List RowA} {r0:RefA} {seg:List SavedA} {r:RefA},RunL (ls++[l]) r0 seg r→∃seg' r1,RunL ls r0 seg' r1∧pageOk (leafP l r1)=true∧seg=seg'++[⟨encPg (leafP l r1),r.page,r.tag⟩]
 | [],l,r0,seg,r,h=>by
  obtain ⟨r1,seg',h1,rfl,h2,rfl⟩:=h
  subst h2
  exact ⟨[],r0,⟨rfl,rfl⟩,h1,rfl⟩
 | a::ls,l,r0,seg,r,h=>by
  obtain ⟨r1,seg',h1,rfl,h2⟩:=h
  obtain ⟨seg2,r2,h3,h4,rfl⟩:=RunL.snoc h2
  exact ⟨_::seg2,r2,⟨r1,seg2,h1,rfl,h3⟩,h4,rfl⟩
theorem RunL.last:∀ {ls:List (List RowA)} {r0:RefA} {seg:List SavedA} {r:RefA},RunL ls r0 seg r→(ls=[]∧r=r0)∨∃s∈seg,(⟨s.page,s.tag⟩:RefA)=r
 | [],_,_,_,h=>.inl ⟨rfl,h.2⟩
 | a::ls,r0,seg,r,h=>by
  obtain ⟨r1,seg',h1,rfl,h2⟩:=h
  rcases RunL.last h2 with ⟨rfl,rfl⟩ | ⟨s,hs,e⟩
  exact .inr ⟨_,List.mem_cons_self ..,rfl⟩
  exact .inr ⟨s,List.mem_cons_of_mem _ hs,e⟩
theorem fin_read {rr:RefA} {s:List UInt8} {e:Int} {x:LdA} (h:x.out.length≤100000):f_gpg_j2 rr (s,e) x=some (0,⟨x.out++[⟨s,rr.page,rr.tag⟩],x.rows,x.count⟩):=by
 unfold f_gpg_j2
 rw [appL_eq (by simp;omega) (by simp;omega),some_bind]
theorem rows_read (hn:10≤n):∀(m:Nat) (ls:List (List RowA)) (seg:List SavedA) (r:RefA) (x:LdA),ls≠[]→RunL ls ⟨0,[]⟩ seg r→RdOk T v d seg→seg.length≤m→0≤x.count→x.count+seg.length≤2100→x.out.length+seg.length≤100000→x.rows.length+4*seg.length≤100000→
  pgF n T m x v d r=some (0,⟨x.out++seg,x.rows++ls.reverse.flatten,x.count+seg.length⟩)∧ls.reverse.flatten.length≤4*seg.length
 | 0,ls,seg,r,x,hne,h,hrd,hm,h0,hc,ho,hw=>by
  have:=h.len
  have:=List.length_pos_iff.2 hne
  omega
 | m+1,ls,seg,r,x,hne,h,hrd,hm,h0,hc,ho,hw=>by
  obtain ⟨ls,l,rfl⟩:∃S0 z,ls=S0++[z]:=⟨_,_,(List.dropLast_concat_getLast hne).symm⟩
  obtain ⟨seg',r1,h1,h2,rfl⟩:=h.snoc
  simp only [List.length_append,List.length_singleton] at hm hc ho hw
  have hrd1:=(hrd ⟨encPg (leafP l r1),r.page,r.tag⟩ (by simp)).1
  have hl4:=(pageOk_len h2).1
  simp only at hl4
  have e0:=page_read (n:=n) (rec_:=pgF n T m) (x:=x) (r:=r) hn h2 hrd1 h0 (by omega) (by omega)
  show f_gpg (pgF n T m) n T x v d r=_∧_
  rw [e0]
  rcases h1.last with ⟨rfl,rfl⟩ | ⟨s,hs,es⟩
  obtain ⟨rfl,_⟩:=h1
  have hon:onP (leafP l ⟨0,[]⟩)=[]:=if_pos rfl
  rw [hon]
  have hloop:=kids_read (T:=T) (v:=v) (d:=d) (rec_:=pgF n T m) (R:=fun _ _ _=>False) (lv:=fun _=>[]) (rr:=r) (y1:=(encPg (leafP l ⟨0,[]⟩),0)) (rs:=[]) (M:=0) (fun k s r x hR=>hR.elim) [] [] [] [] { x with rows:=x.rows++l,count:=x.count+1 } ⟨rfl,rfl⟩ rfl (fun s hs=>by simp at hs) (by simp) (by simp) (by simp only;omega) (by simp;omega) (by simp;omega) (by simp;omega)
  have:=hloop.2 n (by simp;omega)
  simp only [List.length_nil] at this
  rw [show ((0:Nat):Int)=0 from rfl] at this
  rw [this,fin_read (by simp;omega)]
  constructor
  simp
  simpa using hl4
  have hok:=(hrd s (List.mem_append_left _ hs)).2
  rw [es] at hok
  have hne1:ls≠[]:=by
   intro e
   subst e
   rw [h1.1] at hs
   simp at hs
  have hon:onP (leafP l r1)=[r1]:=by
   unfold onP
   have:refNo ⟨r1.page,r1.tag⟩=false:=by
    have h5:=(refOk_len hok).1
    unfold refNo
    simp only [Bool.and_eq_false_iff,decide_eq_false_iff_not]
    right
    intro e
    have e:r1.tag=[]:=e
    rw [e] at h5
    simp at h5
   rw [this,if_neg (by decide)]
   rfl
  rw [hon]
  obtain ⟨e1,e2⟩:=rows_read hn m ls seg' r1 { x with rows:=x.rows++l,count:=x.count+1 } hne1 h1 hrd.left (by omega) (by simp only;omega) (by simp only;omega) (by simp only;omega) (by simp;omega)
  obtain ⟨n,rfl⟩:∃k,n=k+1:=⟨n-1,by omega⟩
  obtain ⟨n,rfl⟩:∃k,n=k+1:=⟨n-1,by omega⟩
  show f_gpg_l1_b v d r (pgF (n+1+1) T m) (encPg (leafP l r1),0) [r1] (f_gpg_l1 v d r (pgF (n+1+1) T m) (encPg (leafP l r1),0) [r1] (n+1)) _ 0=_∧_
  unfold f_gpg_l1_b
  rw [show decide ((0:Int)<(([r1]:List RefA).length:Int))=true from rfl,cond_true,show nthI [r1] 0=some r1 from rfl,some_bind,e1,some_bind,show (!decide ((0:Int)=0))=false from rfl,cond_false,show wI (0+1)=1 from rfl]
  show f_gpg_l1_b v d r (pgF (n+1+1) T m) (encPg (leafP l r1),0) [r1] (f_gpg_l1 v d r (pgF (n+1+1) T m) (encPg (leafP l r1),0) [r1] n) _ 1=_∧_
  unfold f_gpg_l1_b
  rw [show decide ((1:Int)<(([r1]:List RefA).length:Int))=false from rfl,cond_false,fin_read (by simp;omega)]
  constructor
  congr 2
  simp only [List.reverse_append,List.reverse_cons,List.reverse_nil,List.nil_append,List.singleton_append,List.flatten_cons,List.append_assoc,List.length_append,List.length_singleton,LdA.mk.injEq,true_and]
  omega
  simp only [List.reverse_append,List.reverse_cons,List.reverse_nil,List.nil_append,List.singleton_append,List.flatten_cons,List.length_append,List.length_singleton]
  omega
theorem node_read (hn:1010≤n):∀(f:Nat) (t:NodeP) (seg:List SavedA) (r:RefA) (x:LdA) (m:Nat),RunT f t seg r→RdOk T v d seg→seg.length≤m→0≤x.count→x.count+seg.length≤2100→x.out.length+seg.length≤100000→x.rows.length+4*seg.length≤100000→
  pgF n T m x v d r=some (0,⟨x.out++seg,x.rows++lvN f t,x.count+seg.length⟩)∧(lvN f t).length≤4*seg.length
 | 0,_,_,_,_,_,h,_,_,_,_,_,_=>h.elim
 | f+1,t,seg,r,x,m,h,hrd,hm,h0,hc,ho,hw=>by
  obtain ⟨⟨b1,b2⟩,h⟩:=h
  rcases h with ⟨h1,h2⟩ | ⟨h1,segs,rs,h2,h3,rfl⟩
  have hne:(fours t.rows).reverse≠[]:=by
   intro e
   have:=congrArg List.length e
   rw [List.length_reverse,fours_len,List.length_nil] at this
   omega
  have:=rows_read (n:=n) (by omega) m (fours t.rows).reverse seg r x hne h2 hrd hm h0 hc ho hw
  rw [List.reverse_reverse,fours_flat] at this
  rw [lvN,if_pos (by rw [h1];rfl)]
  exact this
  have hk0:=List.length_pos_iff.2 h1
  simp only [List.length_append,List.length_singleton] at hm hc ho hw
  obtain ⟨m,rfl⟩:∃k,m=k+1:=⟨m-1,by omega⟩
  have hrd1:=(hrd ⟨encPg (innerP t rs),r.page,r.tag⟩ (by simp)).1
  have e0:=page_read (n:=n) (rec_:=pgF n T m) (x:=x) (r:=r) (by omega) h3 hrd1 h0 (by omega) (by omega)
  show f_gpg (pgF n T m) n T x v d r=_∧_
  have hon:onP (innerP t rs)=rs:=if_pos rfl
  have hl4:=(pageOk_len h3).2
  simp only at hl4
  obtain ⟨e3,e4⟩:=kids_read (T:=T) (v:=v) (d:=d) (rec_:=pgF n T m) (R:=RunT f) (lv:=lvN f) (rr:=r) (y1:=(encPg (innerP t rs),0)) (rs:=rs) (M:=m) (fun k s r x hR hrd hM h0 hc ho hw=>node_read hn f k s r x m hR hrd hM h0 hc ho hw) t.kids segs rs [] { x with rows:=x.rows++[],count:=x.count+1 } h2 rfl hrd.left (by omega) (by omega) (by simp only;omega) (by simp only;omega) (by simp only;omega) (by simp;omega)
  have e5:=e4 n (by omega)
  simp only [List.length_nil] at e5
  rw [show ((0:Nat):Int)=0 from rfl] at e5
  rw [lvN,if_neg (by omega),e0,hon]
  rw [show ({ x with rows:=x.rows++(innerP t rs).rows,count:=x.count+1 }:LdA)={ x with rows:=x.rows++[],count:=x.count+1 } from rfl,e5,fin_read (by simp;omega)]
  constructor
  congr 2
  simp only [List.append_assoc,List.append_nil,List.length_append,List.length_singleton,LdA.mk.injEq,true_and]
  omega
  simp only [List.length_append,List.length_singleton]
  omega
end Go.Proofs.YtkibffdipniemaaGreatDoor

/- Plain laws of a tree's pages: what was saved is loaded. No program in sight. Condition: as each says. -/
namespace Go.Proofs.YtkibffdipniemaaGreatDoor
open Go

theorem flatten_perm {R:List RowA→NodeP→Prop} {lv:NodeP→List RowA} {xs:List (List RowA)} {ks:List NodeP} (h:All2 R xs ks) (hR:∀x k,R x k→(lv k).Perm x):(ks.map lv).flatten.Perm xs.flatten:=by
 induction h with
 | nil=>exact List.Perm.refl _
 | cons h1 _ ih=>
  simp only [List.map_cons,List.flatten_cons]
  exact (hR _ _ h1).append ih
theorem Tr.leaves:∀ {f:Nat} {l:List RowA} {t:NodeP},Tr f l t→(lvN f t).Perm l
 | 0,_,_,h=>h.elim
 | f+1,l,t,h=>by
  rcases h with ⟨rfl,rfl⟩ | ⟨_,c,L,A,⟨_,rfl⟩ | ⟨h4,hL,ks,rfl,hk⟩⟩
  exact List.Perm.refl _
  exact List.Perm.refl _
  have hkl:=hk.length
  have hq2:=(qlist_two A hL).1
  rw [lvN,if_neg (by simp only [NodeP.kids];omega)]
  exact (flatten_perm (lv:=lvN f) hk fun x k hT=>Tr.leaves hT).trans (qlist_perm L l)
theorem sorted_eq:∀(l l':List RowA),(l.Pairwise fun a b=>a.id<b.id)→l'.Perm l→Srt l'→l'=l
 | [],l',_,hp,_=>List.perm_nil.1 hp
 | a::t,l',hl,hp,hs=>by
  rcases l' with _ | ⟨b,t'⟩
  exact absurd hp.length_eq (by simp)
  obtain ⟨h1,h2⟩:=List.pairwise_cons.1 hl
  obtain ⟨h3,h4⟩:=List.pairwise_cons.1 hs
  have hba:b.id≤a.id:=by
   have:a∈b::t':=hp.mem_iff.2 (by simp)
   rcases List.mem_cons.1 this with e | e
   rw [e];exact UInt64.le_refl _
   exact h3 a e
  have hb:b∈a::t:=hp.mem_iff.1 (by simp)
  rcases List.mem_cons.1 hb with rfl | hb
  rw [sorted_eq t t' h2 hp.cons_inv h4]
  exact (u64_irr (h1 b hb) hba).elim
theorem RunL.lastE:∀ {ls:List (List RowA)} {r0:RefA} {seg:List SavedA} {r:RefA},ls≠[]→RunL ls r0 seg r→∃a s,seg=a++[⟨s,r.page,r.tag⟩]
 | [],_,_,_,h,_=>absurd rfl h
 | l::ls,r0,seg,r,_,h=>by
  obtain ⟨r1,seg',h1,rfl,h2⟩:=h
  rcases ls with _ | ⟨l2,ls⟩
  obtain ⟨rfl,rfl⟩:=h2
  exact ⟨[],_,rfl⟩
  obtain ⟨a,s,rfl⟩:=RunL.lastE (by simp) h2
  exact ⟨_::a,s,rfl⟩
theorem RunT.lastE {f:Nat} {t:NodeP} {seg:List SavedA} {r:RefA} (h:RunT f t seg r):∃a s,seg=a++[⟨s,r.page,r.tag⟩]:=by
 cases f with
 | zero=>exact h.elim
 | succ f=>
  rcases h.2 with ⟨_,h2⟩ | ⟨_,segs,rs,_,_,rfl⟩
  refine RunL.lastE ?_ h2
  intro e
  have:=congrArg List.length e
  rw [List.length_reverse,fours_len,List.length_nil] at this
  omega
  exact ⟨segs,_,rfl⟩
theorem last_eq {a:List SavedA} {s:List UInt8} {r:RefA} (hb:a.length≤1000000):f_law14_last (a++[⟨s,r.page,r.tag⟩])=some r:=by
 unfold f_law14_last
 rw [decide_eq_false (by simp;omega),cond_false]
 have e:wI (((a++[(⟨s,r.page,r.tag⟩:SavedA)]).length:Int)-1)=(a.length:Int):=by
  simp only [List.length_append,List.length_singleton]
  rw [wI_eq (by omega) (by omega)]
  omega
 rw [e,nthI_of rfl]
 simp
theorem refEq_self (r:RefA):refEq r r=true:=by simp [refEq]
theorem ld_path {L:List SavedA} (hb:L.length≤100000):∀(seg pre rest:List SavedA),L=pre++seg++rest→Path (ldWh L) (pre.length:Int) seg ((pre.length+seg.length:Nat):Int)
 | [],pre,rest,_=>by simp [Path]
 | s::seg,pre,rest,h=>by
  have hl:L.length=pre.length+(seg.length+1)+rest.length:=by rw [h];simp;omega
  have n1:nthI L (pre.length:Int)=some s:=by
   rw [nthI_of rfl,h]
   simp
  refine ⟨((pre.length+1:Nat):Int),?_,?_⟩
  unfold ldWh
  rw [decide_eq_false (by omega),n1]
  simp only [orO,cond_false,some_bind,decide_true,Bool.not_true]
  rw [wI_eq (x:=(pre.length:Int)+1) (by omega) (by omega),wI_eq (by omega) (by omega),Int.add_sub_cancel,n1,some_bind]
  rfl
  have:=ld_path hb seg (pre++[s]) rest (by rw [h];simp)
  simp only [List.length_append,List.length_cons,List.length_nil,Nat.zero_add] at this ⊢
  rw [show pre.length+(seg.length+1)=pre.length+1+seg.length by omega]
  exact this
theorem load_ok {n:Nat} {T:List UInt32} {v:VltA} {d:DevA} {l:List RowA} {t:NodeP} {seg:List SavedA} {r:RefA} (hn:2110≤n) (hl:rightR l=true) (hb:buildF n l=some (t,0)) (hT:Tr n l t) (hR:RunT n t seg r) (hrd:RdOk T v d seg) (hs:seg.length≤2000):
  loadF n T v d r=some (l,seg,0):=by
 have hl':=hl
 unfold rightR at hl'
 simp only [Bool.and_eq_true,decide_eq_true_eq] at hl'
 obtain ⟨e1,e2⟩:=node_read (n:=n) (T:=T) (v:=v) (d:=d) (by omega) n t seg r ⟨[],[],0⟩ n hR hrd (by omega) (by simp) (by simp;omega) (by simp;omega) (by simp;omega)
 have hp:=hT.leaves
 obtain ⟨l',s1,s2,s3⟩:=stable_sorts (n:=n) (lvN n t) (by rw [hp.length_eq];omega) (by rw [hp.length_eq];omega)
 have hll:l'=l:=sorted_eq l l' ((rising_iff l).1 hl'.1.2) (s1.trans hp) s2
 subst hll
 have hpath:=ld_path (L:=seg) (by omega) seg [] [] (by simp)
 have hnode:=node_path (n:=n) (wh:=ldWh seg) (by omega) n (o:=[]) hR hpath (by simp;omega)
 unfold loadF
 rw [e1,some_bind]
 rw [show (!decide ((0:Int)=0))=false from rfl,cond_false]
 simp only [List.nil_append]
 rw [s3,some_bind,hb,some_bind]
 simp only [List.length_nil,Nat.zero_add,List.nil_append] at hnode
 rw [show (!decide ((0:Int)=0))=false from rfl,cond_false]
 have hnode':plNode n (ldWh seg) n t ⟨[],0⟩ 0=some (r,(⟨seg,0⟩,(seg.length:Int))):=hnode
 dsimp only
 rw [hnode',some_bind]
 simp only [refEq_self]
 simp
end Go.Proofs.YtkibffdipniemaaGreatDoor

/- What the plain laws of a device stand on. No condition. -/

/- Plain laws of a device: what its printed operations answer, those that no sort is wanted for. No program's walk in sight. Condition: as each says. -/
namespace Go.Proofs.YtkibffdipniemaaGreatDoor
open Go

theorem zeros_eq {n:Int} (h0:0≤n) (h1:n≤1048576):f_ref07_Zeros n=some (List.replicate n.toNat 0):=by
 unfold f_ref07_Zeros mkI
 rw [if_pos ⟨h0,by omega,by omega⟩,some_bind]
def pOn (d:DevA):Bool := !(d.isCut&&decide (d.lasts=0)||d.off)
def pTick (d:DevA):DevA:={ d with lasts:=if d.isCut then wI (d.lasts-1) else d.lasts,counts:=wI (d.counts+1) }
def pDead (d:DevA):DevA:={ d with off:=true }
theorem spend_eq (d:DevA):f_device_power_spend d=some (if pOn d then (0,pTick d) else (71,pDead d)):=by
 obtain ⟨off,isCut,lasts,counts,bl,pd,bd,rc,rt,rb⟩:=d
 unfold f_device_power_spend f_device_power_spend_j1 f_device_power_spend_j2
 by_cases h0:lasts=0<;>cases off<;>cases isCut<;>simp [pOn,pTick,pDead,h0]
def okR (d:DevA) (r:DevA):Int×DevA:=if pOn d then (0,r) else (71,pDead d)
theorem has_eq (d:DevA) (p:UInt32):f_dd_has d p=some (decide (p.toNat<d.blocks.length)):=by
 unfold f_dd_has
 rw [ret_eq]
 congr 1
 simp
theorem write_eq {d:DevA} {p:UInt32} {s:List UInt8} (hp:p.toNat<d.blocks.length) (hs:s.length=256) (hm:d.pend.length<9223372036854775807):f_dd_Write d p s=some (okR d { pTick d with pend:=mput d.pend p s }):=by
 unfold f_dd_Write f_dd_Write_j1
 rw [has_eq,some_bind,ret_eq,decide_eq_true hp,hs]
 simp only [spend_eq,some_bind]
 cases h:pOn d
 simp [okR,h,pDead]
 simp only [okR,h,if_true]
 have:(pTick d).pend=d.pend:=rfl
 simp [mputI,this,hm]
def hold (d:DevA) (p:UInt32):List UInt8:=(mget d.pend p).getD (d.blocks.getD p.toNat [])
theorem holds_eq {d:DevA} {p:UInt32} (hp:p.toNat<d.blocks.length):f_dd_holds d p=some (hold d p):=by
 unfold f_dd_holds hold
 rw [ret_eq,ret_eq]
 cases h:mget d.pend p with
 | some s=>simp
 | none=>
  rw [nthI_nat,List.getElem?_eq_getElem hp]
  simp [hp]
theorem read_eq {d:DevA} {p:UInt32} (hp:p.toNat<d.blocks.length):f_dd_Read d p=some (if d.off then ([],71) else if (mget d.bad p).getD false then ([],70) else (hold d p,0)):=by
 unfold f_dd_Read
 rw [has_eq,some_bind,ret_eq,decide_eq_true hp,holds_eq hp]
 cases d.off
 cases h:(mget d.bad p).getD false<;>simp [ret_eq,h]
 simp
theorem new_eq {n:Int} (h1:4≤n) (h2:n≤4096):f_device_New n=some (some { off:=false,isCut:=false,lasts:=0,counts:=0,blocks:=List.replicate n.toNat (List.replicate 256 0),pend:=[],bad:=[],rcnt:=0,rtag:=List.replicate 32 0,rboots:=0 },0):=by
 unfold f_device_New rep0O srepO
 have e:(decide (n<4)||decide (4096<n))=false:=by simp;omega
 rw [e,cond_false]
 simp only [some_bind]
 rw [if_pos (by simp),some_bind,if_pos (by simp),some_bind,if_pos ⟨by omega,by omega⟩,some_bind]
 rfl
theorem okR_on {d r:DevA} (h:pOn d=true):okR d r=(0,r):=by simp [okR,h]
end Go.Proofs.YtkibffdipniemaaGreatDoor

/- Where the reference's search for keys is printed. No condition. -/

/- Keys are found, by the reference: plain law. No condition beyond those stated. -/
namespace Go.Proofs.YtkibffdipniemaaGreatDoor
open Go

theorem right04 (l:List KeyA) (hl:l.length≤1048576) {n:Nat} (hm:16<n):f_ref04_Right n l=some (rightA l):=by
 unfold f_ref04_Right rightA
 by_cases h16:l.length≤16
 rw [show decide (16<(l.length:Int))=false by simp;omega,show decide (l.length≤16)=true by simp [h16]]
 simp only [cond_false,Bool.true_and]
 unfold f_ref04_Right_l1
 refine (congrArg (loopN _ n) ?_).trans ((loop_ind (fun i=>(prevGen l i,(i:Int))) (fun i=>some (((gensA l).drop i).all (·.2))) l.length (fun i hi k hk=>?_) (fun k=>?_) (by omega)).trans ?_)
 rfl
 have ei:((i+1:Nat):Int)=(i:Int)+1:=by omega
 have st:(gensA l).drop i=((l.getD i key0).gen,keyOk l i)::(gensA l).drop (i+1):=by
  rw [List.drop_eq_getElem_cons (by rw [gensA_length];exact hi)]
  congr 1
  exact Option.some.inj ((List.getElem?_eq_getElem _).symm.trans (gensA_get l i hi))
 dsimp only at hk ⊢
 rw [st,List.all_cons]
 simp only [f_ref04_Right_l1_b,show decide ((i:Int)<(l.length:Int))=true by simp;omega,cond_true]
 rw [nthI_getD (k:=i) key0 rfl hi,some_bind,some_bind]
 have hko:keyOk l i = !((decide ((l.getD i key0).gen≤prevGen l i))||(!decide (((l.getD i key0).secret.length:Int)=32))):=by
  unfold keyOk
  rw [Bool.not_or,Bool.not_not]
  congr 1
  rw [Bool.eq_iff_iff]
  simp [UInt32.not_le]
 generalize hg:(decide ((l.getD i key0).gen≤prevGen l i))=p at hko
 generalize (!decide (((l.getD i key0).secret.length:Int)=32))=q at hko
 have ho:orO p (some q)=some (p||q):=by cases p<;>rfl
 rw [ho,some_bind,hko]
 cases hpq:(p||q) with
 | true=>simp only [cond_true,Bool.not_true,Bool.false_and]
 | false=>
  simp only [cond_false,Bool.not_false,Bool.true_and]
  rw [some_bind,ret_eq,wI_eq (by omega) (by omega),←ei]
  exact hk
 simp only [f_ref04_Right_l1_b,show decide ((l.length:Int)<(l.length:Int))=false by simp,cond_false,f_ref04_Right_j1]
 rw [List.drop_of_length_le (by rw [gensA_length];exact Nat.le_refl _)]
 rfl
 simp
 rw [show decide (16<(l.length:Int))=true by simp;omega,show decide (l.length≤16)=false by simp;omega]
 rfl
theorem find04 (l:List KeyA) (g:UInt32) (hl:l.length≤1048576) {n:Nat} (hm:16<n):f_ref04_Find n l g=some (findA l g):=by
 unfold f_ref04_Find
 rw [right04 l hl hm,some_bind]
 cases hr:rightA l with
 | false=>
  simp only [Bool.not_false,cond_true]
  unfold findA
  rw [if_pos hr]
  rfl
 | true=>
  simp only [Bool.not_true,cond_false]
  have h16:=((rightA_iff l).1 hr).1
  unfold f_ref04_Find_l1
  have hno:(∀k∈l,k.gen≠g)→findA l g=(key0,41):=fun h=>by
   unfold findA
   rw [if_neg (by simp [hr])]
   split
   rename_i k hk
   rw [if_neg (h k (List.mem_of_getElem? hk))]
   rfl
  refine (congrArg (loopN _ n) ?_).trans (loop_pre (fun i=>((0:UInt32),([]:List UInt8),(i:Int))) (fun i=>∀k∈l.take i,k.gen≠g) l.length (fun i hi hp k hk=>?_) (fun hp k=>?_) (by simp) (by omega))
  rfl
  have ei:((i+1:Nat):Int)=(i:Int)+1:=by omega
  have hgi:l[i]? = some (l.getD i key0):=get_getD key0 hi
  dsimp only at hk ⊢
  simp only [f_ref04_Find_l1_b,show decide ((i:Int)<(l.length:Int))=true by simp;omega,cond_true]
  rw [nthI_getD (k:=i) key0 rfl hi,some_bind]
  by_cases hg:(l.getD i key0).gen=g
  rw [show decide ((l.getD i key0).gen=g)=true by simp only [hg,decide_true]]
  simp only [cond_true]
  rw [some_bind,find_iff.2 ⟨hr,List.mem_of_getElem? hgi,hg⟩]
  rw [show decide ((l.getD i key0).gen=g)=false by simp only [hg,decide_false]]
  simp only [cond_false]
  rw [ret_eq,wI_eq (by omega) (by omega),←ei]
  refine hk fun k' hk'=>?_
  rw [List.take_add_one,hgi] at hk'
  rcases List.mem_append.1 hk' with h | h
  exact hp k' h
  simp only [Option.toList_some,List.mem_singleton] at h
  rw [h];exact hg
  simp only [f_ref04_Find_l1_b,show decide ((l.length:Int)<(l.length:Int))=false by simp,cond_false,f_ref04_Find_j1]
  rw [List.take_length] at hp
  rw [hno hp]
  rfl
end Go.Proofs.YtkibffdipniemaaGreatDoor

/- Plain laws of a vault: what its printed operations answer. No program's walk in sight. Condition: as each says. -/
namespace Go.Proofs.YtkibffdipniemaaGreatDoor
open Go

/-! ### A block's place -/
def pageE (a b c d:UInt8):UInt32:=((a.toUInt32 ||| shl32 b.toUInt32 8) ||| shl32 c.toUInt32 16) ||| shl32 d.toUInt32 24
def pageOf (b:List UInt8):UInt32:=pageE (b.getD 0 0) (b.getD 1 0) (b.getD 2 0) (b.getD 3 0)
theorem shl32_byte (b:UInt8) (k:Nat) (h:k≤24):(shl32 b.toUInt32 k).toNat=b.toNat*2^k:=by
 have h1:=b.toNat_lt
 simp only [shl32,UInt32.toNat_ofNat',Nat.min_eq_left (show k≤32 by omega),UInt8.toNat_toUInt32]
 refine Nat.mod_eq_of_lt ?_
 calc b.toNat*2^k<2^8*2^k:=Nat.mul_lt_mul_of_pos_right h1 (Nat.two_pow_pos k)
  _=2^(8+k):=(Nat.pow_add 2 8 k).symm
  _≤2^32:=Nat.pow_le_pow_right (by decide) (by omega)
theorem or_shl {u v k:Nat} (h:u<2^k):u ||| v*2^k=u+v*2^k:=by
 rw [Nat.or_comm,Nat.mul_comm,←Nat.two_pow_add_eq_or_of_lt h,Nat.add_comm]
theorem pageE_nat (a b c d:UInt8):(pageE a b c d).toNat=a.toNat+b.toNat*2^8+c.toNat*2^16+d.toNat*2^24:=by
 have ha:=a.toNat_lt
 have hb:=b.toNat_lt
 have hc:=c.toNat_lt
 unfold pageE
 rw [UInt32.toNat_or,UInt32.toNat_or,UInt32.toNat_or,shl32_byte _ 8 (by decide),shl32_byte _ 16 (by decide),shl32_byte _ 24 (by decide),UInt8.toNat_toUInt32]
 rw [or_shl (u:=a.toNat) (k:=8) (by omega),or_shl (k:=16) (by omega),or_shl (k:=24) (by omega)]
theorem pageOf_put (x:UInt32) (r:List UInt8):pageOf (lePut x.toUInt64 4++r)=x:=by
 apply UInt32.toNat_inj.1
 have hx:=x.toNat_lt
 unfold pageOf
 rw [pageE_nat]
 simp only [lePut_getD _ 4 _ (show 0<4 by decide),lePut_getD _ 4 _ (show 1<4 by decide),lePut_getD _ 4 _ (show 2<4 by decide),lePut_getD _ 4 _ (show 3<4 by decide),UInt64.toNat_toUInt8]
 rw [shr64_nat _ _ (by decide),shr64_nat _ _ (by decide),shr64_nat _ _ (by decide),shr64_nat _ _ (by decide)]
 simp only [UInt32.toNat_toUInt64]
 omega
theorem pageOf_blk (T:List UInt32) (k:KeyA) (h:HeadA) (s:List UInt8):pageOf (blkA T k h s)=h.page:=by
 rw [blkA,boundA,putA_eq]
 simp only [List.append_assoc]
 exact pageOf_put _ _
/-! ### Opening -/
theorem tag_eq {b:List UInt8} (h:b.length=256):tagO b=some (b.drop 224):=by
 unfold tagO
 rw [if_pos (by omega),h]
theorem open_at {T:List UInt32} {v:VltA} {d:DevA} {p:UInt32} {tag b:List UInt8} (hr:f_dd_Read d p=some (b,0)) (hb:b.length=256) (hl:v.ring.length≤1099511627776):
  f_vv_open T v d p tag=some (if b.drop 224=tag∧pageOf b=p then openA T v.ring b else (head0,[],61)):=by
 unfold f_vv_open
 have g:∀i:Nat,i<4→nthI b (i:Int)=some (b.getD i 0):=fun i hi=>nthI_getD 0 rfl (by omega)
 have g0:=g 0 (by omega)
 have g1:=g 1 (by omega)
 have g2:=g 2 (by omega)
 have g3:=g 3 (by omega)
 rw [hr,some_bind]
 show (nthI b 0).bind _=_
 rw [show nthI b 0=some (b.getD 0 0) from g0,some_bind,show nthI b 1=some (b.getD 1 0) from g1,some_bind,show nthI b 2=some (b.getD 2 0) from g2,some_bind,show nthI b 3=some (b.getD 3 0) from g3,some_bind,ret_eq,tag_eq hb,some_bind]
 change cond (!decide (b.drop 224=tag) || !decide (pageOf b=p)) _ _=_
 by_cases h:b.drop 224=tag∧pageOf b=p
 rw [if_pos h,decide_eq_true h.1,decide_eq_true h.2]
 unfold openO
 rw [if_pos ⟨hl,by show b.length≤_;omega⟩]
 rfl
 rw [if_neg h]
 have:(!decide (b.drop 224=tag) || !decide (pageOf b=p))=true:=by
  simp only [Bool.or_eq_true,Bool.not_eq_true',decide_eq_false_iff_not]
  exact Classical.not_and_iff_not_or_not.1 h
 rw [this]
 rfl
theorem right_ref {r:RefA} (h1:2≤r.page.toNat) (h2:r.tag.length=32):f_rows_RightRef r=some true:=by
 unfold f_rows_RightRef
 have e1:decide ((2:UInt32)≤r.page)=true:=by rw [decide_eq_true_eq,UInt32.le_iff_toNat_le];exact h1
 have e2:decide ((r.tag.length:Int)=32)=true:=by rw [decide_eq_true_eq];omega
 rw [e1,e2]
 rfl
theorem read_at {T:List UInt32} {v:VltA} {d:DevA} {r:RefA} {b:List UInt8} (h1:2≤r.page.toNat) (h2:r.tag.length=32) (hr:f_dd_Read d r.page=some (b,0)) (hb:b.length=256) (hl:v.ring.length≤1099511627776):
  f_vv_Read T v d r=some (if b.drop 224=r.tag∧pageOf b=r.page then (openA T v.ring b).2 else ([],61)):=by
 unfold f_vv_Read
 rw [right_ref h1 h2,some_bind,ret_eq]
 unfold f_vv_First
 rw [open_at hr hb hl]
 simp only [some_bind,Bool.not_true,cond_false]
 split<;>rfl
/-! ### Sealing -/
abbrev hd (v:VltA) (p:UInt32):HeadA:=⟨p,v.gen,v.boot,v.seals⟩
structure DOk (N c:Nat) (d:DevA):Prop where
 blen:d.blocks.length=N
 nle:N≤4096
 on:d.off=false
 uncut:d.isCut=false
 good:d.bad=[]
 plen:d.pend.length≤c
 cle:c≤100
theorem DOk.write {N c:Nat} {d:DevA} (D:DOk N c d) (hc:c+1≤100) {p:UInt32} {b:List UInt8} (hp:p.toNat<N) (hb:b.length=256):
  f_dd_Write d p b=some (0,{ d with counts:=wI (d.counts+1),pend:=mput d.pend p b })∧DOk N (c+1) { d with counts:=wI (d.counts+1),pend:=mput d.pend p b }:=by
 have h0:pOn d=true:=by simp [pOn,D.on,D.uncut]
 constructor
 rw [write_eq (by rw [D.blen];exact hp) hb (by have:=D.plen;have:=D.cle;omega),okR_on h0]
 simp [pTick,D.uncut]
 refine ⟨D.blen,D.nle,D.on,D.uncut,D.good,?_,hc⟩
 have:(mdel d.pend p).length≤d.pend.length:=List.length_filter_le ..
 have:=D.plen
 show (mdel d.pend p).length+1≤c+1
 omega
theorem DOk.read {N c:Nat} {d:DevA} (D:DOk N c d) {p:UInt32} (hp:p.toNat<N):f_dd_Read d p=some (hold d p,0):=by
 rw [read_eq (by rw [D.blen];exact hp),D.on,D.good]
 rfl
theorem hold_put {d:DevA} {p q:UInt32} {b:List UInt8} {c:Int}:hold { d with counts:=c,pend:=mput d.pend p b } q=if p=q then b else hold d q:=by
 unfold hold
 rw [mget_put]
 split<;>rfl
theorem sealO_eq {T:List UInt32} {l:List KeyA} {h:HeadA} {s:List UInt8} {k:KeyA} (hl:l.length≤1099511627776) (hk:findA l h.gen=(k,0)) (hs:s.length≤198):sealO T l h s=some (blkA T k h s,0):=by
 unfold sealO sealA
 rw [if_pos ⟨hl,by omega⟩,hk]
 simp
 omega
theorem seal_at {T:List UInt32} {v:VltA} {d:DevA} {N c:Nat} {k:KeyA} {p:UInt32} {s:List UInt8} (D:DOk N c d) (hc:c+1≤100) (hl:v.ring.length≤1099511627776) (hk:findA v.ring v.gen=(k,0)) (hp:p.toNat<N) (hs:s.length≤198):
  f_vv_seal T v d p s=some ((blkA T k (hd v p) s).drop 224,0,{ v with seals:=v.seals+1 },{ d with counts:=wI (d.counts+1),pend:=mput d.pend p (blkA T k (hd v p) s) }):=by
 unfold f_vv_seal
 have hb:=blkA_length T k (hd v p) hs
 rw [sealO_eq (h:=hd v p) hl hk hs,some_bind,(D.write hc hp hb).1]
 simp only [some_bind,tag_eq hb]
 rfl
theorem free_full (v:VltA):∀(k i:Nat),(∀x,i≤x→x<i+k→takenA v (UInt32.ofNat x)=true)→freeFrom v i k=[]
 | 0,i,_=>rfl
 | k+1,i,h=>by
  rw [freeFrom,if_pos (h i (Nat.le_refl _) (by omega))]
  exact free_full v k (i+1) fun x h1 h2=>h x (by omega) (by omega)
theorem free_at (v:VltA) (j:Nat) (hj:takenA v (UInt32.ofNat j)=false):∀(k i:Nat),i≤j→j<i+k→(∀x,i≤x→x<j→takenA v (UInt32.ofNat x)=true)→freeFrom v i k=[UInt32.ofNat j]
 | 0,i,h1,h2,_=>by omega
 | k+1,i,h1,h2,h=>by
  by_cases e:i=j
  subst e
  rw [freeFrom,if_neg (by rw [hj];decide)]
  rw [freeFrom,if_pos (h i (Nat.le_refl _) (by omega))]
  exact free_at v j hj k (i+1) (by omega) (by omega) fun x h1 h2=>h x (by omega) (by omega)
theorem write_at {T:List UInt32} {v:VltA} {d:DevA} {N c:Nat} {k:KeyA} {j:Nat} {s:List UInt8} (D:DOk N c d) (hc:c+1≤100) (hl:v.ring.length≤1099511627776) (hk:findA v.ring v.gen=(k,0)) (hs:s.length≤198)
  (h2:2≤j) (hj:j<N) (hfree:takenA v (UInt32.ofNat j)=false) (htk:∀x,2≤x→x<j→takenA v (UInt32.ofNat x)=true) (ht:v.taken.length≤100):
  f_vv_Write T v d s=some (⟨UInt32.ofNat j,(blkA T k (hd v (UInt32.ofNat j)) s).drop 224⟩,0,{ v with seals:=v.seals+1,taken:=mput v.taken (UInt32.ofNat j) true },{ d with counts:=wI (d.counts+1),pend:=mput d.pend (UInt32.ofNat j) (blkA T k (hd v (UInt32.ofNat j)) s) }):=by
 have hN:=D.nle
 have hjn:(UInt32.ofNat j).toNat=j:=by simp;omega
 unfold f_vv_Write freeO freesO
 rw [ret_eq,decide_eq_false (by omega),cond_false,some_bind,D.blen,if_pos (by omega),some_bind,free_at v j hfree (N-2) 2 h2 (by omega) htk]
 show f_vv_Write_j1 T v d s (UInt32.ofNat j)=_
 unfold f_vv_Write_j1
 have h0:decide (UInt32.ofNat j=0)=false:=by
  rw [decide_eq_false_iff_not]
  intro e
  have:=congrArg UInt32.toNat e
  rw [hjn] at this
  simp at this
  omega
 rw [h0,cond_false,seal_at D hc hl hk (by rw [hjn];exact hj) hs]
 simp only [some_bind,mputI]
 rw [if_pos (by omega)]
 rfl
theorem write_full {T:List UInt32} {v:VltA} {d:DevA} {N c:Nat} {s:List UInt8} (D:DOk N c d) (hs:s.length≤198) (htk:∀x,2≤x→x<N→takenA v (UInt32.ofNat x)=true):
  f_vv_Write T v d s=some (⟨0,[]⟩,110,v,d):=by
 have hN:=D.nle
 unfold f_vv_Write freeO freesO
 rw [ret_eq,decide_eq_false (by omega),cond_false,some_bind,D.blen,if_pos (by omega),some_bind,free_full v (N-2) 2 (fun x h1 h2=>htk x h1 (by omega))]
 rfl
/-! ### Rings -/
def keyN (i:Nat):KeyA:=⟨UInt32.ofNat (i+1),List.replicate 32 (UInt8.ofNat (65+i))⟩
def ringA (m:Nat):List KeyA:=(List.range m).map keyN
theorem ringA_length (m:Nat):(ringA m).length=m:=by simp [ringA]
theorem ringA_succ (m:Nat):ringA (m+1)=ringA m++[keyN m]:=by simp [ringA,List.range_succ]
theorem ring_eq (m:Nat) (hm:m≤30) {n:Nat} (hn:40≤n):f_law13_Ring n (m:Int)=some (ringA m):=by
 unfold f_law13_Ring f_law13_Ring_l1
 refine loop_all (fun i=>(ringA i,((i+1:Nat):Int))) m ?_ ?_ (by omega)
 intro i hi k
 simp only [f_law13_Ring_l1_b]
 rw [decide_eq_true (by omega),cond_true]
 unfold f_law13_Ring_l2
 refine loop_all (fun j=>(List.replicate j (UInt8.ofNat (65+i)),(j:Int))) 32 ?_ ?_ (by omega)
 intro j hj k'
 simp only [f_law13_Ring_l2_b]
 rw [decide_eq_true (by omega),cond_true,appL_eq (by simp;omega) (by simp;omega),some_bind,ret_eq]
 have e:toU8 (wI (64+((i+1:Nat):Int)))=UInt8.ofNat (65+i):=by
  rw [wI_eq (by omega) (by omega)]
  unfold toU8
  congr 1
  omega
 rw [e,wI_eq (by omega) (by omega),←List.replicate_succ']
 rfl
 intro k'
 simp only [f_law13_Ring_l2_b]
 rw [decide_eq_false (by omega),cond_false]
 unfold f_law13_Ring_j3
 rw [appL_eq (by simp [ringA_length];omega) (by simp [ringA_length];omega),some_bind]
 unfold f_law13_Ring_j2
 rw [ret_eq,wI_eq (by omega) (by omega)]
 have e:toU32 ((i+1:Nat):Int)=UInt32.ofNat (i+1):=by
  unfold toU32
  congr 1
  omega
 rw [e,ringA_succ]
 rfl
 intro k
 simp only [f_law13_Ring_l1_b]
 rw [decide_eq_false (by omega),cond_false]
 rfl
theorem keyN_gen {i:Nat} (h:i<30):(keyN i).gen.toNat=i+1:=by simp [keyN];omega
theorem ringA_right (m:Nat) (hm:m≤16):rightA (ringA m)=true:=by
 refine (right_iff _).2 ⟨by rw [ringA_length];exact hm,?_,?_⟩
 unfold ringA
 rw [List.pairwise_map]
 refine List.Pairwise.imp_of_mem ?_ List.pairwise_lt_range
 intro a b ha hb hlt
 have h1:=List.mem_range.1 ha
 have h2:=List.mem_range.1 hb
 rw [UInt32.lt_iff_toNat_lt,keyN_gen (by omega),keyN_gen (by omega)]
 omega
 intro k hk
 obtain ⟨i,hi,rfl⟩:=List.mem_map.1 hk
 have h1:=List.mem_range.1 hi
 refine ⟨?_,by simp [keyN]⟩
 rw [UInt32.lt_iff_toNat_lt,keyN_gen (by omega)]
 simp
theorem findA_ring {m i:Nat} (hm:m≤16) (hi:i<m):findA (ringA m) (keyN i).gen=(keyN i,0):=
 find_iff.2 ⟨ringA_right m hm,List.mem_map.2 ⟨i,List.mem_range.2 hi,rfl⟩,rfl⟩
end Go.Proofs.YtkibffdipniemaaGreatDoor

/- A vault and what it holds: what is written is read; the laws' vaults. No program's walk in sight. Condition: as each says. -/
namespace Go.Proofs.YtkibffdipniemaaGreatDoor
open Go

structure VS (N c:Nat) (R:List KeyA) (g:UInt32) (v:VltA) (d:DevA):Prop where
 dev:DOk N c d
 ring:v.ring=R
 rlen:R.length≤1099511627776
 gen:v.gen=g
 boot:v.boot=7
 tlen:v.taken.length≤c
structure Held (T:List UInt32) (R:List KeyA) (d:DevA) (p g:UInt32) (q:UInt64) (s b:List UInt8):Prop where
 key:∃k,findA R g=(k,0)∧b=blkA T k ⟨p,g,7,q⟩ s
 txt:s.length≤198
 is:hold d p=b
theorem Held.len {T:List UInt32} {R:List KeyA} {d:DevA} {p g:UInt32} {q:UInt64} {s b:List UInt8} (h:Held T R d p g q s b):b.length=256:=by
 obtain ⟨k,_,rfl⟩:=h.key
 exact blkA_length T k _ h.txt
theorem Held.page {T:List UInt32} {R:List KeyA} {d:DevA} {p g:UInt32} {q:UInt64} {s b:List UInt8} (h:Held T R d p g q s b):pageOf b=p:=by
 obtain ⟨k,_,rfl⟩:=h.key
 exact pageOf_blk T k _ s
theorem Held.opens {T:List UInt32} {R:List KeyA} {d:DevA} {p g:UInt32} {q:UInt64} {s b:List UInt8} (h:Held T R d p g q s b):openA T R b=(⟨p,g,7,q⟩,s,0):=by
 obtain ⟨k,hk,rfl⟩:=h.key
 have hs:sealA T R ⟨p,g,7,q⟩ s=(blkA T k ⟨p,g,7,q⟩ s,0):=by
  unfold sealA
  have:=h.txt
  simp [hk]
  omega
 have:=open_seal (T:=T) (l:=R) (h:=⟨p,g,7,q⟩) (s:=s) (by rw [hs])
 rwa [hs] at this
theorem Held.put {T:List UInt32} {R:List KeyA} {d d':DevA} {p p' g:UInt32} {q:UInt64} {s b b':List UInt8} (h:Held T R d p g q s b) (hd:∀x,hold d' x=if p'=x then b' else hold d x) (hne:p'≠p):Held T R d' p g q s b:=
 ⟨h.key,h.txt,by rw [hd,if_neg hne];exact h.is⟩
theorem ofNat_ne {i j:Nat} (hi:i<4294967296) (hj:j<4294967296) (h:i≠j):UInt32.ofNat i≠UInt32.ofNat j:=fun e=>h (by
 have:=congrArg UInt32.toNat e
 simpa [Nat.mod_eq_of_lt hi,Nat.mod_eq_of_lt hj] using this)
theorem VS.write {T:List UInt32} {N c:Nat} {R:List KeyA} {g:UInt32} {v:VltA} {d:DevA} (V:VS N c R g v d) (hc:c+1≤100) {k:KeyA} (hk:findA R g=(k,0)) {s:List UInt8} (hs:s.length≤198) (j:Nat)
  (h2:2≤j) (hj:j<N) (hfree:takenA v (UInt32.ofNat j)=false) (htk:∀x,2≤x→x<j→takenA v (UInt32.ofNat x)=true):
  ∃v' d' b,f_vv_Write T v d s=some (⟨UInt32.ofNat j,b.drop 224⟩,0,v',d')∧VS N (c+1) R g v' d'∧v'.seals=v.seals+1∧v'.taken=mput v.taken (UInt32.ofNat j) true∧
   (∀q,hold d' q=if UInt32.ofNat j=q then b else hold d q)∧Held T R d' (UInt32.ofNat j) g v.seals s b∧b=blkA T k ⟨UInt32.ofNat j,g,7,v.seals⟩ s∧d'.blocks=d.blocks:=by
 have hN:=V.dev.nle
 have hjn:(UInt32.ofNat j).toNat=j:=by simp;omega
 have hh:hd v (UInt32.ofNat j)=⟨UInt32.ofNat j,g,7,v.seals⟩:=by simp only [hd,V.gen,V.boot]
 have hb:=blkA_length T k (hd v (UInt32.ofNat j)) hs
 have hw:=write_at (T:=T) V.dev hc (by rw [V.ring];exact V.rlen) (by rw [V.ring,V.gen];exact hk) hs h2 hj hfree htk (by have:=V.tlen;omega)
 refine ⟨_,_,_,hw,⟨(V.dev.write hc (by rw [hjn];exact hj) hb).2,V.ring,V.rlen,V.gen,V.boot,?_⟩,rfl,rfl,fun q=>hold_put,⟨⟨k,hk,by rw [hh]⟩,hs,?_⟩,by rw [hh],rfl⟩
 have:(mdel v.taken (UInt32.ofNat j)).length≤v.taken.length:=List.length_filter_le ..
 have:=V.tlen
 show (mdel v.taken (UInt32.ofNat j)).length+1≤c+1
 omega
 rw [hold_put,if_pos rfl]
theorem VS.read {T:List UInt32} {N c:Nat} {R:List KeyA} {g g':UInt32} {v:VltA} {d:DevA} (V:VS N c R g v d) {p:UInt32} {q:UInt64} {s b:List UInt8} (h:Held T R d p g' q s b) (hp2:2≤p.toNat) (hp:p.toNat<N):
  f_vv_Read T v d ⟨p,b.drop 224⟩=some (s,0):=by
 have hb:=h.len
 have hr:f_dd_Read d p=some (b,0):=by rw [V.dev.read hp,h.is]
 have ht:(b.drop 224).length=32:=by simp [hb]
 have hl:v.ring.length≤1099511627776:=by rw [V.ring];exact V.rlen
 have h1:=read_at (T:=T) (v:=v) (d:=d) (r:=⟨p,b.drop 224⟩) hp2 ht hr hb hl
 rw [if_pos ⟨rfl,h.page⟩,V.ring,h.opens] at h1
 exact h1
/-! ### The laws' vaults -/
def d0 (N:Nat):DevA:={ off:=false,isCut:=false,lasts:=0,counts:=0,blocks:=List.replicate N (List.replicate 256 0),pend:=[],bad:=[],rcnt:=0,rtag:=List.replicate 32 0,rboots:=0 }
def v0:VltA:={ ring:=ringA 1,gen:=1,boot:=7,seals:=0,taken:=[] }
theorem d0_ok {N:Nat} (h:N≤4096):DOk N 0 (d0 N):=⟨List.length_replicate ..,h,rfl,rfl,rfl,Nat.le_refl 0,by omega⟩
theorem v0_ok {N:Nat} (h:N≤4096):VS N 0 (ringA 1) 1 v0 (d0 N):=⟨d0_ok h,rfl,by rw [ringA_length];omega,rfl,rfl,Nat.le_refl 0⟩
theorem find1 {m:Nat} (h:1≤m) (hm:m≤16):findA (ringA m) 1=(keyN 0,0):=findA_ring hm h
theorem new07 {N n:Nat} (h4:4≤N) (hN:N≤4096) (hn:N<n):∃r:RDevA,f_ref07_New n (N:Int)=some (some r,0)∧r.blk.length=N:=by
 refine ⟨{ blk:=List.replicate N (List.replicate 256 0),pnd:=List.replicate N [],bads:=List.replicate N false,rcnt:=0,rtag:=List.replicate 32 0,rboots:=0,left := -1,off:=false },?_,List.length_replicate ..⟩
 have z:∀k:Nat,k≤1048576→f_ref07_Zeros (k:Int)=some (List.replicate k 0):=fun k hk=>by
  rw [zeros_eq (by omega) (by omega)]
  simp
 have z1:=z 32 (by omega)
 have z2:=z 256 (by omega)
 clear z
 unfold f_ref07_New
 have hc:(decide ((N:Int)<4)||decide (4096<(N:Int)))=false:=by simp;omega
 rw [hc,cond_false]
 show (f_ref07_Zeros ((32:Nat):Int)).bind _=_
 rw [z1,some_bind]
 generalize List.replicate 32 (0:UInt8)=Y
 generalize List.replicate 256 (0:UInt8)=Z at z2 ⊢
 unfold f_ref07_New_l1
 refine loop_all (fun i=>(List.replicate i Z,List.replicate i [],List.replicate i false,(i:Int))) N ?_ ?_ hn
 intro i hi k
 simp only [f_ref07_New_l1_b]
 rw [decide_eq_true (by omega),cond_true]
 show (f_ref07_Zeros ((256:Nat):Int)).bind _=_
 rw [z2,some_bind,appL_eq (by simp;omega) (by simp;omega),some_bind,appL_eq (by simp;omega) (by simp;omega),some_bind,appL_eq (by simp;omega) (by simp;omega),some_bind,ret_eq,wI_eq (by omega) (by omega)]
 rw [←List.replicate_succ',←List.replicate_succ',←List.replicate_succ']
 rfl
 intro k
 simp only [f_ref07_New_l1_b]
 rw [decide_eq_false (by omega),cond_false]
 rfl
end Go.Proofs.YtkibffdipniemaaGreatDoor

/- Plain laws of saving: pages that have a place, or take one of a vault's. No program in sight. Condition: as each says. -/
namespace Go.Proofs.YtkibffdipniemaaGreatDoor
open Go

/-! ### What is taken -/
structure TkOk (N:Nat) (v:VltA):Prop where
 nd:(v.taken.map (·.1)).Nodup
 tr:∀e∈v.taken,e.2=true∧2≤e.1.toNat∧e.1.toNat<N
theorem TkOk.iff {N:Nat} {v:VltA} (h:TkOk N v) (p:UInt32):takenA v p=true↔p∈v.taken.map (·.1):=by
 unfold takenA
 constructor
 intro hp
 by_cases hm:∃e∈v.taken,e.1=p
 obtain ⟨e,he,rfl⟩:=hm
 exact List.mem_map_of_mem he
 rw [mget_none (fun e he e'=>hm ⟨e,he,e'⟩)] at hp
 exact absurd hp (by decide)
 intro hp
 obtain ⟨e,he,rfl⟩:=List.mem_map.1 hp
 rw [mget_some h.nd he]
 exact (h.tr e he).1
theorem ofNat_toNat {x:UInt32}:UInt32.ofNat x.toNat=x:=UInt32.toNat_inj.1 (by simp)
theorem TkOk.full {N:Nat} {v:VltA} (h:TkOk N v) (hN:N≤4096) (hl:N-2≤v.taken.length):∀x,2≤x→x<N→takenA v (UInt32.ofNat x)=true:=by
 intro x h1 h2
 rw [h.iff]
 by_cases hm:UInt32.ofNat x∈v.taken.map (·.1)
 exact hm
 exfalso
 have hnd:(x::v.taken.map fun e=>e.1.toNat).Nodup:=by
  refine List.nodup_cons.2 ⟨fun hx=>?_,?_⟩
  obtain ⟨e,he,e'⟩:=List.mem_map.1 hx
  refine hm ?_
  rw [←e',ofNat_toNat]
  exact List.mem_map_of_mem he
  have:=h.nd
  rw [show (v.taken.map fun e=>e.1.toNat)=(v.taken.map (·.1)).map UInt32.toNat by simp]
  exact List.Pairwise.map _ (fun a b hab e=>hab (UInt32.toNat_inj.1 e)) this
 have:=nodup_len hnd (l':=(List.range (N-2)).map (·+2)) (fun a ha=>by
  have hb:2≤a∧a<N:=by
   rcases List.mem_cons.1 ha with rfl | ha
   exact ⟨h1,h2⟩
   obtain ⟨e,he,rfl⟩:=List.mem_map.1 ha
   exact (h.tr e he).2
  exact List.mem_map.2 ⟨a-2,List.mem_range.2 (by omega),by omega⟩)
 simp at this
 omega
theorem least_of {P:Nat→Prop}:∀k,(∃j,j<k∧P j)→∃j,j<k∧P j∧∀x,x<j→¬P x
 | 0,⟨j,h,_⟩=>by omega
 | k+1,⟨j,h,hP⟩=>by
  by_cases hk:∃i,i<k∧P i
  obtain ⟨i,h1,h2,h3⟩:=least_of k hk
  exact ⟨i,by omega,h2,h3⟩
  have:j=k:=by
   rcases Nat.lt_or_ge j k with h' | h'
   exact absurd ⟨j,h',hP⟩ hk
   omega
  subst this
  exact ⟨j,by omega,hP,fun x hx hPx=>hk ⟨x,hx,hPx⟩⟩
theorem TkOk.free {N:Nat} {v:VltA} (h:TkOk N v) (hN:N≤4096) (hl:v.taken.length<N-2):∃j,2≤j∧j<N∧takenA v (UInt32.ofNat j)=false∧∀x,2≤x→x<j→takenA v (UInt32.ofNat x)=true:=by
 have:∃j,j<N∧(2≤j∧takenA v (UInt32.ofNat j)=false):=by
  by_cases hx:∃j,j<N∧(2≤j∧takenA v (UInt32.ofNat j)=false)
  exact hx
  exfalso
  have hnd:((List.range (N-2)).map (fun i=>UInt32.ofNat (i+2))).Nodup:=by
   refine List.pairwise_map.2 (List.Pairwise.imp_of_mem ?_ List.nodup_range)
   intro a b ha hb hne
   have ha:=List.mem_range.1 ha
   have hb:=List.mem_range.1 hb
   exact ofNat_ne (by omega) (by omega) (by omega)
  have:=nodup_len hnd (l':=v.taken.map (·.1)) (fun a ha=>by
   obtain ⟨i,hi,rfl⟩:=List.mem_map.1 ha
   have hi:=List.mem_range.1 hi
   rw [←h.iff]
   cases hc:takenA v (UInt32.ofNat (i+2)) with
   | true=>rfl
   | false=>exact absurd ⟨i+2,by omega,by omega,hc⟩ hx)
  simp at this
  omega
 obtain ⟨j,h1,⟨h2,h3⟩,h4⟩:=least_of N this
 refine ⟨j,h2,h1,h3,fun x hx1 hx2=>?_⟩
 cases hc:takenA v (UInt32.ofNat x) with
 | true=>rfl
 | false=>exact absurd ⟨hx1,hc⟩ (h4 x hx2)
/-! ### A page that can be read -/
def Rd (T:List UInt32) (R:List KeyA) (N:Nat) (v:VltA) (d:DevA) (s:SavedA):Prop:=2≤s.page.toNat∧s.page.toNat<N∧takenA v s.page=true∧∃g' qn b,Held T R d s.page g' qn s.txt b∧s.tag=b.drop 224
theorem Rd.ok {T:List UInt32} {R:List KeyA} {N c:Nat} {g:UInt32} {v:VltA} {d:DevA} {s:SavedA} (V:VS N c R g v d) (h:Rd T R N v d s):f_vv_Read T v d ⟨s.page,s.tag⟩=some (s.txt,0)∧refOk ⟨s.page,s.tag⟩=true∧s.txt.length≤198:=by
 obtain ⟨h1,h2,_,g',qn,b,hb,ht⟩:=h
 have hl:=hb.len
 refine ⟨by rw [ht];exact V.read hb h1 h2,?_,hb.txt⟩
 unfold refOk
 rw [Bool.and_eq_true,decide_eq_true_eq,decide_eq_true_eq]
 refine ⟨UInt32.le_iff_toNat_le.2 h1,?_⟩
 show (s.tag.length:Int)=32
 rw [ht,List.length_drop,hl]
 rfl
structure SvI (N c0:Nat) (R:List KeyA) (g:UInt32) (vb:VltA) (db:DevA) (q:SvA):Prop where
 vs:VS N (c0+q.tk.length) R g q.v q.d
 seals:q.v.seals=vb.seals+UInt64.ofNat q.tk.length
 tak:q.v.taken=(q.tk.map fun p=>(p,true)).reverse++vb.taken
 ok:TkOk N q.v
 keep:∀p,p∉q.tk→hold q.d p=hold db p
 lim:c0+q.tk.length+(N-2-q.v.taken.length)≤100
theorem SvI.notin {N c0:Nat} {R:List KeyA} {g:UInt32} {vb:VltA} {db:DevA} {q:SvA} (S:SvI N c0 R g vb db q) (hb:TkOk N vb) {p:UInt32} (h:takenA vb p=true):p∉q.tk∧takenA q.v p=true:=by
 rw [hb.iff] at h
 constructor
 intro hp
 have:=S.ok.nd
 rw [S.tak,List.map_append] at this
 refine (List.nodup_append.1 this).2.2 p ?_ p h rfl
 rw [List.map_reverse,List.mem_reverse,List.map_map]
 exact List.mem_map.2 ⟨p,hp,rfl⟩
 rw [S.ok.iff,S.tak,List.map_append]
 exact List.mem_append_right _ h
theorem SvI.base {T:List UInt32} {N c0:Nat} {R:List KeyA} {g:UInt32} {vb:VltA} {db:DevA} {q:SvA} (S:SvI N c0 R g vb db q) (hb:TkOk N vb) {s:SavedA} (h:Rd T R N vb db s):Rd T R N q.v q.d s:=by
 obtain ⟨h1,h2,h3,g',qn,b,hb',ht⟩:=h
 obtain ⟨h4,h5⟩:=S.notin hb h3
 exact ⟨h1,h2,h5,g',qn,b,⟨hb'.key,hb'.txt,by rw [S.keep _ h4];exact hb'.is⟩,ht⟩
end Go.Proofs.YtkibffdipniemaaGreatDoor

/- Plain laws of saving: what grove.Save answers. No program in sight. Condition: as each says. -/
namespace Go.Proofs.YtkibffdipniemaaGreatDoor
open Go

/-! ### How many pages -/
theorem pages_le:∀ {f:Nat} {l:List RowA} {t:NodeP},Tr f l t→(l=[]→pgN f t=1)∧(l≠[]→pgN f t+1≤2*l.length)
  | 0,_,_,h=>h.elim
  | f+1,l,t,h=>by
    rcases h with ⟨rfl,rfl⟩ | ⟨hne,c,L,A,⟨_,rfl⟩ | ⟨h4,hL,ks,rfl,hk⟩⟩
    exact ⟨fun _=>rfl,fun h=>absurd rfl h⟩
    refine ⟨fun h=>absurd h hne,fun _=>?_⟩
    have:=List.length_pos_iff.2 hne
    rw [pgN,if_pos (show (NodeP.mk c.x c.y c.lev l []).kids.length=0 from rfl)]
    simp only [NodeP.rows]
    omega
    refine ⟨fun h=>absurd h hne,fun _=>?_⟩
    have hkl:=hk.length
    have hq2:=(qlist_two A hL).1
    rw [pgN,if_neg (by simp only [NodeP.kids];omega)]
    simp only [NodeP.kids]
    have key:∀ {xs:List (List RowA)} {ys:List NodeP},All2 (Tr f) xs ys→(∀x∈xs,x≠[])→(ys.map (pgN f)).sum+xs.length≤2*xs.flatten.length:=by
      intro xs ys h
      induction h with
      | nil=>simp
      | @cons x y xs ys h1 h2 ih=>
        intro hx
        have a1:=(pages_le h1).2 (hx _ (by simp))
        have a2:=ih fun x hx'=>hx x (by simp [hx'])
        simp only [List.map_cons,List.sum_cons,List.length_cons,List.flatten_cons,List.length_append]
        omega
    have:=key hk fun x hx=>(qlist_mem hx).1
    rw [(qlist_perm L l).length_eq] at this
    omega
theorem pages_pos {f:Nat} {l:List RowA} {t:NodeP} (h:Tr f l t) (hl:l.length≤1000):pgN f t≤max 1 (2*l.length):=by
  obtain ⟨h1,h2⟩:=pages_le h
  by_cases e:l=[]
  rw [h1 e];omega
  have:=h2 e
  omega
/-! ### Where pages go -/
theorem keyS_ok {s:List UInt8} (h:s.length≤1048576):keyS s=some ⟨s,h⟩:=dif_pos h
theorem mdel_no {m:List (UInt32×Bool)} {p:UInt32} (h:p∉m.map (·.1)):mdel m p=m:=mdel_all fun e he e'=>h (by rw [←e'];exact List.mem_map_of_mem he)
theorem sav_ok {T:List UInt32} {N c0:Nat} {R:List KeyA} {g:UInt32} {vb:VltA} {db:DevA} {th:List (KeyS×RefA)} {k:KeyA} (hb:TkOk N vb) (hN:N≤4096) (hk:findA R g=(k,0)) (hth:∀key r,mget th key=some r→Rd T R N vb db ⟨key.1,r.page,r.tag⟩):
    WhOk (savWh T th) (SvI N c0 R g vb db) (fun q s=>Rd T R N q.v q.d s) (fun q=>N-2-q.v.taken.length):=by
  refine ⟨fun q s S hs=>?_⟩
  unfold savWh
  rw [keyS_ok (show s.length≤1048576 by omega),some_bind]
  cases hm:mget th ⟨s,by omega⟩ with
  | some r=>
    have hr:=S.base hb (hth _ r hm)
    exact ⟨r,0,q,rfl,S,fun _ h=>h,.inl ⟨rfl,(hr.ok S.vs).2.1,hr,Nat.le_succ _⟩⟩
  | none=>
    rw [show (none:Option RefA).isSome=false from rfl,cond_false]
    by_cases hroom:q.v.taken.length<N-2
    obtain ⟨j,j1,j2,j3,j4⟩:=S.ok.free hN hroom
    have hlim:=S.lim
    obtain ⟨v',d',b,e1,V1,s1,t1,h1,H1,_,_⟩:=S.vs.write (T:=T) (by omega) hk hs j j1 j2 j3 j4
    have hjn:(UInt32.ofNat j).toNat=j:=by simp;omega
    have hnin:UInt32.ofNat j∉q.v.taken.map (·.1):=by
      rw [←S.ok.iff,j3]
      decide
    have htk:v'.taken=(UInt32.ofNat j,true)::q.v.taken:=by rw [t1,mput,mdel_no hnin]
    have hok:TkOk N v':=by
      refine ⟨?_,fun e he=>?_⟩
      rw [htk,List.map_cons]
      exact List.nodup_cons.2 ⟨hnin,S.ok.nd⟩
      rw [htk] at he
      rcases List.mem_cons.1 he with rfl | he
      exact ⟨rfl,by rw [hjn];exact j1,by rw [hjn];exact j2⟩
      exact S.ok.tr e he
    have hntk:UInt32.ofNat j∉q.tk:=fun hj=>hnin (by
      rw [S.tak,List.map_append]
      refine List.mem_append_left _ ?_
      rw [List.map_reverse,List.mem_reverse,List.map_map]
      exact List.mem_map.2 ⟨_,hj,rfl⟩)
    rw [e1,some_bind]
    dsimp only
    rw [show decide ((0:Int)=0)=true from rfl,cond_true,appL_eq (by simp;omega) (by simp;omega),some_bind]
    have hlen:(q.tk++[UInt32.ofNat j]).length=q.tk.length+1:=by simp
    refine ⟨_,0,⟨q.tk++[UInt32.ofNat j],v',d'⟩,rfl,⟨?_,?_,?_,hok,fun p hp=>?_,?_⟩,fun x hx=>?_,.inl ⟨rfl,?_,?_,?_⟩⟩
    show VS N (c0+(q.tk++[UInt32.ofNat j]).length) R g v' d'
    rw [hlen]
    exact V1
    show v'.seals=vb.seals+UInt64.ofNat (q.tk++[UInt32.ofNat j]).length
    rw [s1,S.seals,hlen,UInt64.ofNat_add,UInt64.add_assoc]
    rfl
    show v'.taken=_
    rw [htk,S.tak]
    simp
    simp only [List.mem_append,List.mem_singleton,not_or] at hp
    show hold d' p=_
    rw [h1,if_neg (fun e=>hp.2 e.symm)]
    exact S.keep p hp.1
    show c0+(q.tk++[UInt32.ofNat j]).length+(N-2-v'.taken.length)≤100
    rw [hlen,htk,List.length_cons]
    omega
    obtain ⟨x1,x2,x3,g',qn,b',x4,x5⟩:=hx
    have hne:UInt32.ofNat j≠x.page:=fun e=>by
      rw [←e,j3] at x3
      exact absurd x3 (by decide)
    refine ⟨x1,x2,?_,g',qn,b',x4.put h1 hne,x5⟩
    show takenA v' x.page=true
    rw [hok.iff,htk,List.map_cons]
    exact List.mem_cons_of_mem _ ((S.ok.iff _).1 x3)
    have hl:=H1.len
    unfold refOk
    rw [Bool.and_eq_true,decide_eq_true_eq,decide_eq_true_eq]
    refine ⟨UInt32.le_iff_toNat_le.2 (by rw [hjn];exact j1),?_⟩
    rw [List.length_drop,hl]
    rfl
    refine ⟨by rw [hjn];exact j1,by rw [hjn];exact j2,?_,g,q.v.seals,b,H1,rfl⟩
    show takenA v' (UInt32.ofNat j)=true
    rw [hok.iff,htk]
    simp
    show N-2-q.v.taken.length≤N-2-v'.taken.length+1
    rw [htk,List.length_cons]
    omega
    have hw:=write_full (T:=T) S.vs.dev hs (S.ok.full hN (by omega))
    rw [hw,some_bind]
    dsimp only
    rw [show decide ((110:Int)=0)=false from rfl,cond_false]
    exact ⟨_,110,q,rfl,S,fun _ h=>h,.inr ⟨rfl,by omega⟩⟩
/-! ### What was had -/
theorem there_eq:∀(l:List (Int×SavedA)) (m:List (KeyS×RefA)),(∀s∈l,s.2.txt.length≤1048576)→m.length+l.length≤1000000000→
    ∃m',thereB l m=some m'∧∀k:KeyS,mget m' k=((l.reverse.find? fun s=>decide (s.2.txt=k.1)).map fun s=>(⟨s.2.page,s.2.tag⟩:RefA)).or (mget m k)
  | [],m,_,_=>⟨m,rfl,fun k=>by simp⟩
  | s::l,m,h,hb=>by
    simp only [List.length_cons] at hb
    have hd:(mdel m ⟨s.2.txt,h s (by simp)⟩).length≤m.length:=List.length_filter_le ..
    obtain ⟨m',h1,h2⟩:=there_eq l (mput m ⟨s.2.txt,h s (by simp)⟩ ⟨s.2.page,s.2.tag⟩) (fun x hx=>h x (by simp [hx])) (by
      show (mdel m _).length+1+l.length≤_
      omega)
    refine ⟨m',?_,fun k=>?_⟩
    rw [thereB,keyS_ok (h s (by simp)),some_bind]
    unfold mputI
    rw [if_pos (by omega),some_bind]
    exact h1
    rw [h2 k,List.reverse_cons,List.find?_append,mget_put]
    cases hf:l.reverse.find? fun s=>decide (s.2.txt=k.1) with
    | some x=>rfl
    | none=>
      simp only [Option.map_none,Option.none_or,List.find?_singleton]
      by_cases e:s.2.txt=k.1
      rw [if_pos (Subtype.ext e),if_pos (by simpa using e)]
      rfl
      rw [if_neg (fun e'=>e (congrArg Subtype.val e')),if_neg (by simpa using e)]
      rfl
theorem backL_rev {α:Type} (xs:List α):(backL xs).reverse.map (·.2)=xs:=by
  unfold backL
  rw [List.reverse_reverse,List.map_map]
  have:((fun x:Int×α=>x.2)∘fun p:α×Nat=>((p.2:Int),p.1))=Prod.fst:=rfl
  rw [this,List.zipIdx_map_fst]
theorem backL_mem {α:Type} {xs:List α} {s:Int×α} (h:s∈backL xs):s.2∈xs:=by
  rw [←backL_rev xs]
  exact List.mem_map_of_mem (List.mem_reverse.2 h)
theorem there_had (had:List SavedA) (h:∀s∈had,s.txt.length≤1048576) (hb:had.length≤1000000000):∃th,thereB (backL had) []=some th∧∀k:KeyS,mget th k=(had.find? fun s=>decide (s.txt=k.1)).map fun s=>(⟨s.page,s.tag⟩:RefA):=by
  obtain ⟨th,h1,h2⟩:=there_eq (backL had) [] (fun s hs=>h _ (backL_mem hs)) (by rw [backL_length];simpa using hb)
  refine ⟨th,h1,fun k=>?_⟩
  rw [h2 k,show mget ([]:List (KeyS×RefA)) k=none from rfl,Option.or_none]
  conv=>rhs;rw [←backL_rev had]
  rw [List.find?_map,Option.map_map]
  rfl
/-! ### What is given back -/
theorem give_all {N:Nat} (hN:N≤4096):∀(tk:List UInt32) (v:VltA) (d:DevA) (base:List (UInt32×Bool)),d.blocks.length=N→v.taken=(tk.map fun p=>(p,true)).reverse++base→(v.taken.map (·.1)).Nodup→(∀p∈tk,2≤p.toNat∧p.toNat<N)→
    giveF tk v d=some { v with taken:=base }
  | [],v,d,base,_,h,_,_=>by
    simp at h
    rw [giveF,←h]
  | p::tk,v,d,base,hd,h,hn,hr=>by
    obtain ⟨r1,r2⟩:=hr p (by simp)
    have hmem:(p,true)∈v.taken:=by rw [h];simp
    have hg:=mget_some hn hmem
    have hdel:mdel v.taken p=(tk.map fun p=>(p,true)).reverse++base:=by
      rw [h] at hn ⊢
      simp only [List.map_cons,List.reverse_cons,List.append_assoc,List.singleton_append,List.map_append] at hn ⊢
      obtain ⟨n1,n2,n3⟩:=List.nodup_append.1 hn
      obtain ⟨n4,n5⟩:=List.nodup_cons.1 n2
      unfold mdel
      rw [List.filter_append,List.filter_cons_of_neg (by simp)]
      congr 1
      exact mdel_no (m:=(tk.map fun p=>(p,true)).reverse) fun hp=>n3 p hp p (by simp) rfl
      exact mdel_no n4
    have hi:f_vv_isPage v d p=some true:=by
      have:=isPage_eq v d p.toNat r1 (by omega)
      rw [ofNat_toNat,hd,decide_eq_true r2] at this
      exact this
    have hgive:f_vv_Give v d p=some (0,{ v with taken:=mdel v.taken p }):=by
      unfold f_vv_Give
      rw [hi,some_bind,ret_eq,hg]
      rfl
    rw [giveF,hgive,some_bind]
    have:=give_all hN tk { v with taken:=mdel v.taken p } d base hd hdel (by
      show ((mdel v.taken p).map (·.1)).Nodup
      exact mdel_nodup hn) (fun q hq=>hr q (by simp [hq]))
    exact this
/-! ### Saving -/
theorem rightR_len {l:List RowA} (h:rightR l=true):l.length≤1000:=by
  unfold rightR at h
  simp only [Bool.and_eq_true,decide_eq_true_eq] at h
  omega
theorem save_res {n:Nat} {T:List UInt32} {N c0:Nat} {R:List KeyA} {g:UInt32} {vb:VltA} {db:DevA} {k:KeyA} {l:List RowA} {had:List SavedA} (hn:1100≤n) (hN:N≤4096) (V:VS N c0 R g vb db) (hb:TkOk N vb) (hk:findA R g=(k,0)) (hl:rightR l=true)
    (hhad:∀s∈had,Rd T R N vb db s) (hlen:had.length≤100000) (hlim:c0+(N-2-vb.taken.length)≤100):
    ∃t th,buildF n l=some (t,0)∧Tr n l t∧(∀k:KeyS,mget th k=(had.find? fun s=>decide (s.txt=k.1)).map fun s=>(⟨s.page,s.tag⟩:RefA))∧
      ((∃r out q,saveF n T vb db l had=some (out,0,q.v,q.d)∧RunT n t out r∧refOk r=true∧SvI N c0 R g vb db q∧(∀s∈out,Rd T R N q.v q.d s)∧out.length=pgN n t∧Path (savWh T th) ⟨[],vb,db⟩ out q∧N-2-vb.taken.length≤N-2-q.v.taken.length+pgN n t)∨
       (∃v d c,saveF n T vb db l had=some ([],110,v,d)∧N-2-vb.taken.length<pgN n t∧v.taken=vb.taken∧VS N c R g v d)):=by
  obtain ⟨t,h1,_,hT⟩:=build_ok (n:=n) (l:=l) (by omega) hl
  obtain ⟨th,h2,h3⟩:=there_had had (fun s hs=>by have:=((hhad s hs).ok V).2.2;omega) (by omega)
  have hth:∀(key:KeyS) r,mget th key=some r→Rd T R N vb db ⟨key.1,r.page,r.tag⟩:=by
    intro key r hr
    rw [h3 key] at hr
    obtain ⟨s,hs,rfl⟩:=Option.map_eq_some_iff.1 hr
    have h5:=List.find?_some hs
    simp only [decide_eq_true_eq] at h5
    rw [←h5]
    exact hhad s (List.mem_of_find?_eq_some hs)
  have W:=sav_ok (T:=T) (c0:=c0) (db:=db) hb hN hk hth
  have hpg:=pages_pos hT (rightR_len hl)
  have hl1:=rightR_len hl
  have S0:SvI N c0 R g vb db ⟨[],vb,db⟩:=⟨V,by simp,by simp,hb,fun _ _=>rfl,by simpa using hlim⟩
  obtain ⟨r,p',q,e1,e2,e3,e4,e5⟩:=node_res W (n:=n) (by omega) n l t ⟨[],0⟩ ⟨[],vb,db⟩ hT hl S0 rfl (by simp;omega)
  refine ⟨t,th,h1,hT,h3,?_⟩
  have hsave:saveF n T vb db l had=saveE (r,(p',q)):=by
    unfold saveF
    rw [h1,some_bind,show (!decide ((0:Int)=0))=false from rfl,cond_false,if_neg (by omega),h2,some_bind,e1,some_bind]
  rw [hsave]
  unfold saveE
  rcases e5 with ⟨w,seg,o1,o2,o3,o4,o5,o6⟩ | ⟨w,o6⟩
  left
  simp only [List.nil_append] at o1
  refine ⟨r,seg,q,?_,o3,e2 w,e3,o5,o2,o4,o6⟩
  dsimp only
  rw [w,show (!decide ((0:Int)=0))=false from rfl,cond_false,o1]
  right
  have hlim2:=e3.lim
  refine ⟨{ q.v with taken:=vb.taken },q.d,c0+q.tk.length,?_,o6,rfl,?_⟩
  dsimp only
  rw [w,show (!decide ((110:Int)=0))=true from rfl,cond_true,if_neg (by omega),give_all hN q.tk q.v q.d vb.taken e3.vs.dev.blen e3.tak e3.ok.nd (fun p hp=>by
    have:=e3.ok.tr (p,true) (by rw [e3.tak];refine List.mem_append_left _ ?_;rw [List.mem_reverse];exact List.mem_map.2 ⟨p,hp,rfl⟩)
    exact this.2),some_bind]
  have V':=e3.vs
  exact ⟨V'.dev,V'.ring,V'.rlen,V'.gen,V'.boot,Nat.le_trans V.tlen (Nat.le_add_right ..)⟩
end Go.Proofs.YtkibffdipniemaaGreatDoor

/- The engine: a make of no elements whose room is a number that is known when it runs. No condition beyond those stated. -/
namespace Go.Proofs.YtkibffdipniemaaGreatDoor
open Go
variable {P:Program} {ro:Option Nat} {K:Nat→Prop} {w0:World} {N:Nat} {Q:Post} {D:List Nat} {l l':Tm} {H H' Hs L:List Chunk} {ops:Array Oper} {items:Its}
variable {tk:Bool} {o:Oper} {t:Nat} {v:Value} {x y z:Operand}

def capI (by_:Nat) (c:Int):Option Unit:=if 0≤c∧(by_:Int)*c≤281474976710656∧c≤9223372036854775807 then some () else none
theorem SL.mkC {α:Type} {e ty:TypeId} {sz by_:Nat} {c:Int} {u:Unit} {zv:Value} {k k':IntKind} (hn:capI by_ c=some u) (enc:α→List Value) (ho:At ops N l o t (.makeSlice ty x y)) (hty:P.underlying ty=some (.slice e)) (hsz:tsz P e=some sz) (hby:byt P e=some by_) (hze:zer P e=some zv) (hzs:zv.cells.size=sz)
  (hx:evl l x=some (.int k 0)) (hy:evl l y=some (.int k' c))
  (hs:∀v',SubI Hs (rowT e sz v' enc ([]:List α)::H)) (h:∀v',SL P ro K w0 N ops Hs items Q D ((t,v')::l) (rowT e sz v' enc ([]:List α)::H)):SL P ro K w0 N ops Hs (.cons (false,o) items) Q D l H:=by
 unfold capI at hn
 split at hn
 rename_i hc
 obtain ⟨h1,h2,h3⟩:=hc
 obtain ⟨n,rfl⟩:∃n:Nat,c=(n:Int):=⟨c.toNat,by omega⟩
 refine SL.mkT (n:=n) enc ho hty hsz hby hze hzs hx hy (Nat.ble_eq_true_of_le ?_) (Nat.ble_eq_true_of_le (by omega)) hs h
 rw [←Int.natCast_mul] at h2
 omega
 cases hn
end Go.Proofs.YtkibffdipniemaaGreatDoor

/- Plain functions of the references and the laws, printed from the loaded program, and the walks that show that the program computes them. Condition: the plain function yields. -/
namespace Go.Proofs.YtkibffdipniemaaGreatDoor
open Go
variable {K:Nat→Prop} {w0:World} {H:List Chunk}

def f_law14_made (n:Nat) (p0:Int):Option (Option (VltA×DevA×RVltA×RDevA)×Bool):=
 (f_device_New p0).bind fun y1=>
 (y1.1).bind fun d1=>
 (f_ref07_New n p0).bind fun y2=>
 (y2.1).bind fun d2=>
 cond ((!decide (y1.2=0))||(!decide (y2.2=0)))
 (
  some (none,false))
 (
  (f_law13_Ring n 1).bind fun y3=>
  (f_vault_New d1 y3 1 7).bind fun y4=>
  (y4.1).bind fun d3=>
  (f_law13_Ring n 1).bind fun y5=>
  (f_ref13_New n d2 y5 1 7).bind fun y6=>
  (y6.1).bind fun d4=>
  ret ((decide (y4.2=0))&&(decide (y6.2=0))) fun x1=>
  some (some (d3,d1,d4,d2),x1))
set_option maxHeartbeats 4000000 in
set_option maxRecDepth 100000 in
theorem c_law14_made {n:Nat} {p0:Int} {r:Option (VltA×DevA×RVltA×RDevA)×Bool} (h:f_law14_made n p0=some r)  : Con Tryz.prog K w0 12 [vI p0] [] H (fun u M=>(r.1=none∧u=.tuple #[.pointer none,.pointer none,.pointer none,vB r.2]∧M=[])∨(∃(d:VltA×DevA×RVltA×RDevA) (bn0:Nat) (vn0x1:Value) (mn0x5:Nat) (bn1:Nat) (vn1x4:Value) (mn1x5:Nat) (mn1x6:Nat) (bn2:Nat) (vn2x1:Value) (vn2x5:Value) (bn3:Nat) (vn3x0:Value) (vn3x1:Value) (vn3x2:Value),r.1=some d∧u=.tuple #[vP bn0 0,vP bn1 0,vP bn2 0,vB r.2]∧M=[own bn0 (.cells #[vP bn1 0,vn0x1,vU32 d.1.gen,vU32 d.1.boot,vU64 d.1.seals,.map (some mn0x5)] 96),rowT 138 2 vn0x1 encKey d.1.ring,mapC mn0x5 vU32 vB d.1.taken,own bn1 (.cells #[vB d.2.1.off,vB d.2.1.isCut,vI d.2.1.lasts,vI d.2.1.counts,vn1x4,.map (some mn1x5),.map (some mn1x6),vU64 d.2.1.rcnt,vS d.2.1.rtag,vU32 d.2.1.rboots] 130),rowT 9 1 vn1x4 eS d.2.1.blocks,mapC mn1x5 vU32 vS d.2.1.pend,mapC mn1x6 vU32 vB d.2.1.bad,own bn2 (.cells #[vP bn3 0,vn2x1,vU32 d.2.2.1.gen,vU32 d.2.2.1.boot,vU64 d.2.2.1.num,vn2x5] 69),rowT 138 2 vn2x1 encKey d.2.2.1.ring,rowT 4 1 vn2x5 eB d.2.2.1.taken,own bn3 (.cells #[vn3x0,vn3x1,vn3x2,vU64 d.2.2.2.rcnt,vS d.2.2.2.rtag,vU32 d.2.2.2.rboots,vI d.2.2.2.left,vB d.2.2.2.off] 132),rowT 9 1 vn3x0 eS d.2.2.2.blk,rowT 9 1 vn3x1 eS d.2.2.2.pnd,rowT 4 1 vn3x2 eB d.2.2.2.bads])):=by
 unfold f_law14_made at h
 refine Con.enter Tryz.func12 rfl rfl ?_
 refine SX.sr (SL.asg (.r rfl) rfl (SL.asg (.r rfl) rfl (SL.asg (.r rfl) rfl (SL.asg (.r rfl) rfl (SL.nx (SX.sr ?_))))))
 obtain ⟨y1,hy1,h⟩:=bnd h
 obtain ⟨d1,hd1,h⟩:=bnd h
 refine SL.mv (.r rfl) rfl ?_
 refine SL.call (vs:=[_]) (Hin:=[]) (Hr:=_) (.r rfl) rfl ⟨rfl,trivial⟩ cal40 rfl rfl (c_device_New hy1) ?_
 rintro _ _ (⟨hn,-,-⟩ | ⟨d_,b1,v1,m1,m2,hn,rfl,rfl⟩)
 rw [hd1] at hn;cases hn
 obtain rfl:d1=d_:=Option.some.inj (hd1.symm.trans hn)
 refine ⟨trivial,?_⟩
 refine SL.mv (.r rfl) rfl (SL.ext (.r rfl) rfl rfl (SL.ext (.r rfl) rfl rfl (SL.asg (.r rfl) rfl (SL.asg (.r rfl) rfl (SL.nx (SX.sr ?_))))))
 obtain ⟨y2,hy2,h⟩:=bnd h
 obtain ⟨d2,hd2,h⟩:=bnd h
 refine SL.mv (.r rfl) rfl ?_
 refine SL.call (vs:=[_]) (Hin:=[]) (Hr:=_::_::_::_::_) (.r rfl) rfl ⟨rfl,trivial⟩ cal41 rfl rfl (c_ref07_New hy2) ?_
 rintro _ _ (⟨hn,-,-⟩ | ⟨d_,b2,v2,v3,v4,hn,rfl,rfl⟩)
 rw [hd2] at hn;cases hn
 obtain rfl:d2=d_:=Option.some.inj (hd2.symm.trans hn)
 refine ⟨trivial,?_⟩
 refine SL.mv (.r rfl) rfl (SL.ext (.r rfl) rfl rfl (SL.ext (.r rfl) rfl rfl (SL.asg (.r rfl) rfl (SL.asg (.r rfl) rfl (SL.nx (SX.seq (SX.sr (SL.mv (.r rfl) rfl (SL.bin (.r rfl) rfl rfl Bin.neI (SL.mv (.r rfl) rfl ?_))))))))))
 refine SL.or (c := !decide (y2.2=0)) 26 3 29 rfl (fun hb k=>?_) (fun hb k=>?_) ?_
 refine SL.pass rfl rfl rfl (SL.pass rfl rfl rfl (SL.pk (.r rfl) rfl rfl ?_))
 exact k.mono (by repeat' (first | exact trivial | refine And.intro rfl ?_))
 refine SL.mv (.r rfl) rfl (SL.bin (.r rfl) rfl rfl Bin.neI (SL.pk (.r rfl) rfl rfl ?_))
 exact k.mono (by repeat' (first | exact trivial | refine And.intro rfl ?_))
 refine SL.nx ?_
 refine SX.cond rfl (fun hc1=>?_) (fun hc1=>?_)
 replace h:=cT hc1 h
 refine SX.sr (SL.asg (.r rfl) rfl (SL.asg (.r rfl) rfl (SL.asg (.r rfl) rfl (SL.asg (.r rfl) rfl (SL.nx (SX.ret (SQ.thnR ?_)))))))
 obtain rfl:=Option.some.inj h
 exact SQ.fret (res4 rfl rfl rfl rfl rfl) (ret_of (M:=[]) (.inl ⟨rfl,rfl,rfl⟩) fun _ hw=>HpOk.pick (H:=[_,_,_,_,_,_,_,_]) hw [] 8 rfl)
 replace h:=cF hc1 h
 refine SX.skip (SQ.thn (SX.sr ?_))
 obtain ⟨y3,hy3,h⟩:=bnd h
 obtain ⟨y4,hy4,h⟩:=bnd h
 obtain ⟨d3,hd3,h⟩:=bnd h
 refine SL.mv (.r rfl) rfl ?_
 refine SL.call (vs:=[_]) (Hin:=[]) (Hr:=_::_::_::_::_::_::_::_::_) (.r rfl) rfl ⟨rfl,trivial⟩ cal43 rfl rfl (c_law13_Ring hy3) ?_
 rintro v5 _ ⟨_,rfl,rfl⟩
 refine ⟨trivial,?_⟩
 refine SL.pick [0,5,6,7,8,1,2,3,4] 9 ?_
 refine SL.call (vs:=[_,_,vU32 1,vU32 7]) (Hin:=[_,_,_,_,_]) (Hr:=_::_::_::_::_) (.r rfl) rfl ⟨rfl,rfl,rfl,rfl,trivial⟩ cal42 rfl rfl (Con.lend (B:=[_]) (Hin:=[_,_,_,_]) fun K' w1 hk hB=>c_vault_New hy4 (SlOf.lentT (e:=138) (v:=v5) (fun _=>rfl) (hB _ (by simp)))) ?_
 rintro _ _ ⟨_,rfl,(⟨hn,-,-⟩ | ⟨d_,b3,v6,m3,hn,rfl,rfl⟩)⟩
 rw [hd3] at hn;cases hn
 obtain rfl:d3=d_:=Option.some.inj (hd3.symm.trans hn)
 refine ⟨trivial,?_⟩
 refine SL.mv (.r rfl) rfl (SL.ext (.r rfl) rfl rfl (SL.ext (.r rfl) rfl rfl (SL.asg (.r rfl) rfl (SL.asg (.r rfl) rfl (SL.nx (SX.sr ?_))))))
 obtain ⟨y5,hy5,h⟩:=bnd h
 obtain ⟨y6,hy6,h⟩:=bnd h
 obtain ⟨d4,hd4,h⟩:=bnd h
 refine SL.mv (.r rfl) rfl ?_
 refine SL.call (vs:=[_]) (Hin:=[]) (Hr:=_::_::_::_::_::_::_::_::_::_::_::_::_) (.r rfl) rfl ⟨rfl,trivial⟩ cal43 rfl rfl (c_law13_Ring hy5) ?_
 rintro v7 _ ⟨_,rfl,rfl⟩
 refine ⟨trivial,?_⟩
 refine SL.pick [9,10,11,12,0,1,2,3,4,5,6,7,8] 13 ?_
 refine SL.call (vs:=[_,_,vU32 1,vU32 7]) (Hin:=[_,_,_,_,_]) (Hr:=_::_::_::_::_::_::_::_::_) (.r rfl) rfl ⟨rfl,rfl,rfl,rfl,trivial⟩ cal44 rfl rfl (c_ref13_New hy6) ?_
 rintro _ _ (⟨hn,-,-⟩ | ⟨d_,b4,v8,v9,hn,rfl,rfl⟩)
 rw [hd4] at hn;cases hn
 obtain rfl:d4=d_:=Option.some.inj (hd4.symm.trans hn)
 refine ⟨trivial,?_⟩
 refine SL.mv (.r rfl) rfl (SL.ext (.r rfl) rfl rfl (SL.ext (.r rfl) rfl rfl (SL.asg (.r rfl) rfl (SL.asg (.r rfl) rfl (SL.nx (SX.sr ?_))))))
 obtain ⟨x1,ex1,h⟩:=retE h
 refine SL.mv (.r rfl) rfl (SL.mv (.r rfl) rfl (SL.mv (.r rfl) rfl (SL.mv (.r rfl) rfl (SL.bin (.r rfl) rfl rfl Bin.eqI (SL.mv (.r rfl) rfl ?_)))))
 refine SL.and (c:=decide (y6.2=0)) 47 3 50 rfl (fun hb k=>?_) (fun hb k=>?_) ?_
 refine SL.mv (.r rfl) rfl (SL.bin (.r rfl) rfl rfl Bin.eqI (SL.pk (.r rfl) rfl rfl ?_))
 exact k.mono (by repeat' (first | exact trivial | refine And.intro rfl ?_))
 refine SL.pass rfl rfl rfl (SL.pass rfl rfl rfl (SL.pk (.r rfl) rfl rfl ?_))
 exact k.mono (by repeat' (first | exact trivial | refine And.intro rfl ?_))
 refine SL.asg (.r rfl) rfl (SL.asg (.r rfl) rfl (SL.asg (.r rfl) rfl ?_))
 refine SL.asgX (u:=vB x1) (.r rfl) rfl (congrArg vB ex1) ?_
 refine SL.nx (SX.ret ?_)
 obtain rfl:=Option.some.inj h
 exact SQ.fret (res4 rfl rfl rfl rfl rfl) (ret_of (M:=[_,_,_,_,_,_,_,_,_,_,_,_,_,_]) (.inr ⟨_,b3,v6,m3,b1,v1,m1,m2,b4,v8,v9,b2,v2,v3,v4,rfl,rfl,rfl⟩) fun _ hw=>HpOk.pick (H:=[_,_,_,_,_,_,_,_,_,_,_,_,_,_,_]) hw [8,9,10,11,12,13,14,0,1,2,3,4,5,6] 15 rfl)

def f_law14_shown (n:Nat) (T:List UInt32):Option Bool:=
 (f_law14_made n 12).bind fun y1=>
 (y1.1).bind fun d1=>
 (saveF n T d1.1 d1.2.1 [(⟨1,0,0,[]⟩:RowA),(⟨2,0,0,[]⟩:RowA),(⟨3,0,0,[]⟩:RowA),(⟨4,0,0,[]⟩:RowA),(⟨5,0,0,[]⟩:RowA),(⟨6,8,0,[]⟩:RowA)] []).bind fun y2=>
 (f_law14_last y2.1).bind fun y3=>
 (loadF n T y2.2.2.1 y2.2.2.2 y3).bind fun y4=>
 (andO (((y1.2&&(decide (y2.2.1=0)))&&(decide (y4.2.2=0)))&&(decide ((y2.1.length:Int)=4))) ((f_ref09_Same n [(⟨1,0,0,[]⟩:RowA),(⟨2,0,0,[]⟩:RowA),(⟨3,0,0,[]⟩:RowA),(⟨4,0,0,[]⟩:RowA),(⟨5,0,0,[]⟩:RowA),(⟨6,8,0,[]⟩:RowA)] y4.1).bind fun y5=>some (y5))).bind fun y6=>
 (andO y6 ((f_ref14_Same n y2.1 y4.2.1).bind fun y7=>some (y7))).bind fun y8=>
 (andO y8 ((f_vv_Seals y2.2.2.1 y2.2.2.2).bind fun y9=>some (decide (y9=4)))).bind fun y10=>
 some y10
set_option maxHeartbeats 4000000 in
set_option maxRecDepth 100000 in
theorem c_law14_shown {n:Nat} {T:List UInt32} {r:Bool} (h:f_law14_shown n T=some r) (hS:ShaT K w0 T):Con Tryz.prog K w0 11 [] [] H (fun u M=>u=vB r∧M=[]):=by
 unfold f_law14_shown at h
 refine Con.enter Tryz.func11 rfl rfl ?_
 refine SX.sr (SL.asg (.r rfl) rfl (SL.nx (SX.sr ?_)))
 obtain ⟨y1,hy1,h⟩:=bnd h
 obtain ⟨d1,hd1,h⟩:=bnd h
 refine SL.call (vs:=[_]) (Hin:=[]) (Hr:=_) (.r rfl) rfl ⟨rfl,trivial⟩ cal12 rfl rfl (c_law14_made hy1) ?_
 rintro _ _ (⟨hn,-,-⟩ | ⟨d_,b1,v1,m1,b2,v2,m2,m3,b3,v3,v4,b4,v5,v6,v7,hn,rfl,rfl⟩)
 rw [hd1] at hn;cases hn
 obtain rfl:d1=d_:=Option.some.inj (hd1.symm.trans hn)
 refine ⟨trivial,?_⟩
 refine SL.mv (.r rfl) rfl (SL.ext (.r rfl) rfl rfl (SL.ext (.r rfl) rfl rfl (SL.ext (.r rfl) rfl rfl (SL.ext (.r rfl) rfl rfl (SL.asg (.r rfl) rfl (SL.asg (.r rfl) rfl (SL.asg (.r rfl) rfl ?_)))))))
 refine SL.asg (.r rfl) rfl (SL.nx (SX.sr (SL.bld [_] (.r rfl) pl79 pk79 ze79 ⟨rfl,trivial⟩ rfl (SL.bld [_] (.r rfl) pl79 pk79 ze79 ⟨rfl,trivial⟩ rfl (SL.bld [_] (.r rfl) pl79 pk79 ze79 ⟨rfl,trivial⟩ rfl (SL.bld [_] (.r rfl) pl79 pk79 ze79 ⟨rfl,trivial⟩ rfl (SL.bld [_] (.r rfl) pl79 pk79 ze79 ⟨rfl,trivial⟩ rfl (SL.bld [_,_] (.r rfl) pl79 pk79 ze79 ⟨rfl,rfl,trivial⟩ rfl ?_))))))))
 refine SL.bsl [_,_,_,_,_,_] (.r rfl) ty35 sz79 ze79 ⟨rfl,rfl,rfl,rfl,rfl,rfl,trivial⟩ rfl rfl rfl (by first | (simp [Value.cells];done) | (intro v hv;simp only [List.mem_cons,List.not_mem_nil,or_false] at hv;rcases hv with rfl | rfl | rfl | rfl | rfl | rfl<;>rfl)) rfl rfl (fun _=>trivial) fun b5=>?_
 refine SL.ownT encRow 4 ([(⟨1,0,0,[]⟩:RowA),(⟨2,0,0,[]⟩:RowA),(⟨3,0,0,[]⟩:RowA),(⟨4,0,0,[]⟩:RowA),(⟨5,0,0,[]⟩:RowA),(⟨6,8,0,[]⟩:RowA)]:List RowA) rfl (fun _=>rfl) rfl ?_
 refine SL.asg (.r rfl) rfl (SL.nx (SX.sr ?_))
 obtain ⟨y2,hy2,h⟩:=bnd h
 refine SL.mv (.r rfl) rfl (SL.mv (.r rfl) rfl ?_)
 refine SL.call (vs:=[_,_,_]) (Hin:=[_,_,_,_,_,_,_,_]) (Hr:=_::_::_::_::_::_::_::_) (.r rfl) rfl ⟨rfl,rfl,rfl,trivial⟩ cal19 rfl rfl (Con.lend (B:=[_]) (Hin:=[_,_,_,_,_,_,_]) fun K' w1 hk hB=>w_save hy2 (hS.keeps hk) (SlOf.lentT (e:=79) (v:=.slice (some ⟨b5,0,none⟩) 6 6) (fun _=>rfl) (hB _ (by simp))) (SlOf.nil (fun _=>rfl))) ?_
 rintro _ _ ⟨_,rfl,v8,rfl,rfl⟩
 refine ⟨trivial,?_⟩
 refine SL.mv (.r rfl) rfl (SL.ext (.r rfl) rfl rfl (SL.ext (.r rfl) rfl rfl (SL.asg (.r rfl) rfl (SL.asg (.r rfl) rfl (SL.nx (SX.sr ?_))))))
 obtain ⟨y3,hy3,h⟩:=bnd h
 obtain ⟨y4,hy4,h⟩:=bnd h
 refine SL.mv (.r rfl) rfl (SL.mv (.r rfl) rfl (SL.pick [1,0] 2 ?_))
 refine SL.call (vs:=[_]) (Hin:=[_]) (Hr:=_::_::_::_::_::_::_::_::_::_::_::_::_::_::_::_) (.r rfl) rfl ⟨rfl,trivial⟩ cal22 rfl rfl (Con.lend (B:=[_]) (Hin:=[]) fun K' w1 hk hB=>c_law14_last hy3 (SlOf.lentT (e:=72) (v:=v8) (fun _=>rfl) (hB _ (by simp)))) ?_
 rintro _ _ ⟨_,rfl,rfl,rfl⟩
 refine ⟨trivial,?_⟩
 refine SL.pick [2,3,4,5,6,7,8,0,1] 9 ?_
 refine SL.call (vs:=[_,_]) (Hin:=[_,_,_,_,_,_,_]) (Hr:=_::_::_::_::_::_::_::_::_::_) (.r rfl) rfl ⟨rfl,rfl,trivial⟩ cal15 rfl rfl ((w_load hy4 hS :)) ?_
 rintro _ _ ⟨v9,v10,rfl,rfl⟩
 refine ⟨trivial,?_⟩
 refine SL.mv (.r rfl) rfl (SL.ext (.r rfl) rfl rfl (SL.ext (.r rfl) rfl rfl (SL.ext (.r rfl) rfl rfl (SL.asg (.r rfl) rfl (SL.asg (.r rfl) rfl (SL.asg (.r rfl) rfl (SL.nx (SX.sr ?_))))))))
 obtain ⟨y6,hy6,h⟩:=bnd h
 obtain ⟨y8,hy8,h⟩:=bnd h
 obtain ⟨y10,hy10,h⟩:=bnd h
 refine SL.mv (.r rfl) rfl (SL.mv (.r rfl) rfl ?_)
 refine SL.and (c:=decide (y2.2.1=0)) 39 3 42 rfl (fun hb k=>?_) (fun hb k=>?_) ?_
 refine SL.mv (.r rfl) rfl (SL.bin (.r rfl) rfl rfl Bin.eqI (SL.pk (.r rfl) rfl rfl ?_))
 exact k.mono (by repeat' (first | exact trivial | refine And.intro rfl ?_))
 refine SL.pass rfl rfl rfl (SL.pass rfl rfl rfl (SL.pk (.r rfl) rfl rfl ?_))
 exact k.mono (by repeat' (first | exact trivial | refine And.intro rfl ?_))
 refine SL.mv (.r rfl) rfl ?_
 refine SL.and (c:=decide (y4.2.2=0)) 43 3 46 rfl (fun hb k=>?_) (fun hb k=>?_) ?_
 refine SL.mv (.r rfl) rfl (SL.bin (.r rfl) rfl rfl Bin.eqI (SL.pk (.r rfl) rfl rfl ?_))
 exact k.mono (by repeat' (first | exact trivial | refine And.intro rfl ?_))
 refine SL.pass rfl rfl rfl (SL.pass rfl rfl rfl (SL.pk (.r rfl) rfl rfl ?_))
 exact k.mono (by repeat' (first | exact trivial | refine And.intro rfl ?_))
 refine SL.mv (.r rfl) rfl ?_
 refine SL.and (c:=decide ((y2.1.length:Int)=4)) 47 4 51 rfl (fun hb k=>?_) (fun hb k=>?_) ?_
 refine SL.mv (.r rfl) rfl (SL.lenT 9 (.r rfl) ty36 rfl rfl (SL.bin (.r rfl) rfl rfl Bin.eqI (SL.pk (.r rfl) rfl rfl ?_)))
 exact k.mono (by repeat' (first | exact trivial | refine And.intro rfl ?_))
 refine SL.pass rfl rfl rfl (SL.pass rfl rfl rfl (SL.pass rfl rfl rfl (SL.pk (.r rfl) rfl rfl ?_)))
 exact k.mono (by repeat' (first | exact trivial | refine And.intro rfl ?_))
 refine SL.mv (.r rfl) rfl ?_
 refine SL.andN 52 4 56 hy6 rfl (fun hb hg4 k=>?_) (fun hb k=>?_) ?_
 obtain ⟨y5,hy5,hg4⟩:=bnd hg4
 obtain rfl:=Option.some.inj hg4
 refine SL.mv (.r rfl) rfl (SL.mv (.r rfl) rfl (SL.pick [10,0,1,2,3,4,5,6,7,8,9] 11 ?_))
 refine SL.call (vs:=[_,_]) (Hin:=[_,_]) (Hr:=_::_::_::_::_::_::_::_::_::_::_::_::_::_::_::_::_) (.r rfl) rfl ⟨rfl,rfl,trivial⟩ cal17 rfl rfl (Con.lend (B:=[_,_]) (Hin:=[]) fun K' w1 hk hB=>c_ref09_Same hy5 (SlOf.lentT (e:=79) (v:=.slice (some ⟨b5,0,none⟩) 6 6) (fun _=>rfl) (hB _ (by simp))) (SlOf.lentT (e:=79) (v:=v9) (fun _=>rfl) (hB _ (by simp)))) ?_
 rintro _ _ ⟨_,rfl,rfl,rfl⟩
 refine ⟨trivial,?_⟩
 refine SL.pk (.r rfl) rfl rfl ?_
 exact SL.mono (SL.heap k fun _ hw=>HpOk.pick (H:=[_,_,_,_,_,_,_,_,_,_,_,_,_,_,_,_,_,_]) hw [1,2,3,4,5,6,7,8,9,10,0,11,12,13,14,15,16,17] 18 rfl) (by repeat' (first | exact trivial | refine And.intro rfl ?_))
 refine SL.pass rfl rfl rfl (SL.pass rfl rfl rfl (SL.pass rfl rfl rfl (SL.pk (.r rfl) rfl rfl ?_)))
 exact k.mono (by repeat' (first | exact trivial | refine And.intro rfl ?_))
 refine SL.mv (.r rfl) rfl ?_
 refine SL.andN 57 4 61 hy8 rfl (fun hb hg5 k=>?_) (fun hb k=>?_) ?_
 obtain ⟨y7,hy7,hg5⟩:=bnd hg5
 obtain rfl:=Option.some.inj hg5
 refine SL.mv (.r rfl) rfl (SL.mv (.r rfl) rfl (SL.pick [9,1,0,2,3,4,5,6,7,8] 10 ?_))
 refine SL.call (vs:=[_,_]) (Hin:=[_,_]) (Hr:=_::_::_::_::_::_::_::_::_::_::_::_::_::_::_::_::_) (.r rfl) rfl ⟨rfl,rfl,trivial⟩ cal18 rfl rfl (Con.lend (B:=[_,_]) (Hin:=[]) fun K' w1 hk hB=>c_ref14_Same hy7 (SlOf.lentT (e:=72) (v:=v8) (fun _=>rfl) (hB _ (by simp))) (SlOf.lentT (e:=72) (v:=v10) (fun _=>rfl) (hB _ (by simp)))) ?_
 rintro _ _ ⟨_,rfl,rfl,rfl⟩
 refine ⟨trivial,?_⟩
 refine SL.pk (.r rfl) rfl rfl ?_
 exact SL.mono (SL.heap k fun _ hw=>HpOk.pick (H:=[_,_,_,_,_,_,_,_,_,_,_,_,_,_,_,_,_,_]) hw [2,1,3,4,5,6,7,8,9,0,10,11,12,13,14,15,16,17] 18 rfl) (by repeat' (first | exact trivial | refine And.intro rfl ?_))
 refine SL.pass rfl rfl rfl (SL.pass rfl rfl rfl (SL.pass rfl rfl rfl (SL.pk (.r rfl) rfl rfl ?_)))
 exact k.mono (by repeat' (first | exact trivial | refine And.intro rfl ?_))
 refine SL.mv (.r rfl) rfl ?_
 refine SL.andN 62 4 66 hy10 rfl (fun hb hg6 k=>?_) (fun hb k=>?_) ?_
 obtain ⟨y9,hy9,hg6⟩:=bnd hg6
 obtain rfl:=Option.some.inj hg6
 refine SL.mv (.r rfl) rfl (SL.pick [2,3,4,5,6,7,8,0,1] 9 ?_)
 refine SL.call (vs:=[_]) (Hin:=[_,_,_,_,_,_,_]) (Hr:=_::_::_::_::_::_::_::_::_::_::_::_) (.r rfl) rfl ⟨rfl,trivial⟩ cal23 rfl rfl (c_vv_Seals hy9) ?_
 rintro _ _ ⟨rfl,rfl⟩
 refine ⟨trivial,?_⟩
 refine SL.bin (.r rfl) rfl rfl (Bin.eq64 (b:=4)) ?_
 refine SL.pk (.r rfl) rfl rfl ?_
 exact SL.mono (SL.heap k fun _ hw=>HpOk.pick (H:=[_,_,_,_,_,_,_,_,_,_,_,_,_,_,_,_,_,_]) hw [7,8,0,1,2,3,4,5,6,9,10,11,12,13,14,15,16,17] 18 rfl) (by repeat' (first | exact trivial | refine And.intro rfl ?_))
 refine SL.pass rfl rfl rfl (SL.pass rfl rfl rfl (SL.pass rfl rfl rfl (SL.pk (.r rfl) rfl rfl ?_)))
 exact k.mono (by repeat' (first | exact trivial | refine And.intro rfl ?_))
 refine SL.asg (.r rfl) rfl (SL.nx (SX.ret ?_))
 obtain rfl:=Option.some.inj h
 exact SQ.fret (res1 rfl rfl) (ret_of (M:=[]) ⟨rfl,rfl⟩ fun _ hw=>HpOk.pick (H:=[_,_,_,_,_,_,_,_,_,_,_,_,_,_,_,_,_,_]) hw [] 18 rfl)

end Go.Proofs.YtkibffdipniemaaGreatDoor

/- Plain functions of the references and the laws, printed from the loaded program, and the walks that show that the program computes them. Condition: the plain function yields. -/
namespace Go.Proofs.YtkibffdipniemaaGreatDoor
open Go
variable {K:Nat→Prop} {w0:World} {H:List Chunk}

end Go.Proofs.YtkibffdipniemaaGreatDoor

/- The laws of layer 14, of the plain functions: GroveNone, GroveBack, GroveFull. No program's walk in sight. -/
namespace Go.Proofs.YtkibffdipniemaaGreatDoor
open Go

theorem made14_eq {N n:Nat} (h4:4≤N) (hN:N≤4096) (hn:4200≤n):∃w c,f_law14_made n (N:Int)=some (some (v0,d0 N,w,c),true):=by
 obtain ⟨r,hr,hrl⟩:=new07 h4 hN (show N<n by omega)
 obtain ⟨b1,hb1⟩:∃w,f_ref13_New n r (ringA 1) 1 7=some (some w,0):=by
  unfold f_ref13_New
  have hm:mkI 1 (r.blk.length:Int) false=some (List.replicate N false):=by
   unfold mkI
   rw [hrl,if_pos ⟨by omega,by omega,by omega⟩]
   simp
  have h0:nthI (List.replicate N false) 0=some false:=by
   have:=nthI_getD (l:=List.replicate N false) (i:=0) (k:=0) false rfl (by simp;omega)
   rw [this]
   congr 1
   cases N<;>rfl
  have h1:setI (List.replicate N false) 0 true=some ((List.replicate N false).set 0 true):=setI_of rfl (by simp;omega)
  have h2:∃x,nthI ((List.replicate N false).set 0 true) 1=some x:=⟨_,nthI_getD (k:=1) false rfl (by simp;omega)⟩
  obtain ⟨x,h2⟩:=h2
  have h3:setI ((List.replicate N false).set 0 true) 1 true=some (((List.replicate N false).set 0 true).set 1 true):=setI_of rfl (by simp;omega)
  rw [find04 (ringA 1) 1 (by rw [ringA_length];omega) (by omega),find1 (by omega) (by omega),some_bind,hm,some_bind,h0,some_bind,h1,some_bind,h2,some_bind,h3,some_bind]
  exact ⟨_,rfl⟩
 refine ⟨b1,r,?_⟩
 have hv:f_vault_New (d0 N) (ringA 1) 1 7=some (some v0,0):=by
  unfold f_vault_New findO
  rw [if_pos (by rw [ringA_length];omega),some_bind,find1 (by omega) (by omega),appL_eq (by simp [ringA_length]) (by simp [ringA_length]),some_bind]
  rfl
 have hring:f_law13_Ring n 1=some (ringA 1):=ring_eq 1 (by omega) (by omega)
 unfold f_law14_made
 rw [new_eq (by omega) (by omega),some_bind,some_bind,hr,some_bind,some_bind]
 show (f_law13_Ring n 1).bind _=_
 rw [hring,some_bind]
 show (f_vault_New (d0 N) (ringA 1) 1 7).bind _=_
 rw [hv,some_bind,some_bind,some_bind,hb1,some_bind,some_bind]
 rfl
theorem same_rows {n:Nat} (l:List RowA) (hn:l.length<n) (hb:l.length≤1000000):f_ref09_Same n l l=some true:=by
 unfold f_ref09_Same
 rw [show (!decide ((l.length:Int)=(l.length:Int)))=false by simp,cond_false]
 unfold f_ref09_Same_l1
 refine loop_all (fun i=>(i:Int)) l.length (fun i hi k=>?_) (fun k=>?_) hn
 unfold f_ref09_Same_l1_b
 have h1:nthI l (i:Int)=some l[i]:=by rw [nthI_nat];exact List.getElem?_eq_getElem hi
 rw [decide_eq_true (by omega),cond_true,h1,some_bind,some_bind,ret_eq,wI_eq (by omega) (by omega)]
 simp
 unfold f_ref09_Same_l1_b
 rw [decide_eq_false (by omega),cond_false]
 rfl
theorem same_pages {n:Nat} (l:List SavedA) (hn:l.length<n) (hb:l.length≤1000000):f_ref14_Same n l l=some true:=by
 unfold f_ref14_Same
 rw [show (!decide ((l.length:Int)=(l.length:Int)))=false by simp,cond_false]
 unfold f_ref14_Same_l1
 refine loop_all (fun i=>(i:Int)) l.length (fun i hi k=>?_) (fun k=>?_) hn
 unfold f_ref14_Same_l1_b
 have h1:nthI l (i:Int)=some l[i]:=by rw [nthI_nat];exact List.getElem?_eq_getElem hi
 rw [decide_eq_true (by omega),cond_true,h1,some_bind,some_bind,ret_eq,wI_eq (by omega) (by omega)]
 simp
 unfold f_ref14_Same_l1_b
 rw [decide_eq_false (by omega),cond_false]
 rfl
theorem few_eq (l:List RowA):f_law14_few l=some (l.take 24):=by
 unfold f_law14_few
 have h0:slcI l 0 (min (l.length:Int) 24)=some ((l.drop 0).take (min l.length 24-0)):=slcI_of rfl (by omega) (by omega) (by omega)
 rw [h0,some_bind]
 simp only [List.drop_zero,Nat.sub_zero]
 congr 1
 rcases Nat.le_total l.length 24 with h | h
 rw [Nat.min_eq_left h,List.take_of_length_le (Nat.le_refl _),List.take_of_length_le h]
 rw [Nat.min_eq_right h]
theorem few_len (l:List RowA):(l.take 24).length≤24:=by simp;omega
theorem v0_tk (N:Nat):TkOk N v0:=⟨List.nodup_nil,fun e he=>by simp [v0] at he⟩
theorem save_load {n:Nat} {T:List UInt32} {N c0:Nat} {R:List KeyA} {g:UInt32} {vb:VltA} {db:DevA} {q:SvA} {l:List RowA} {t:NodeP} {out:List SavedA} {r:RefA} (hn:2110≤n) (hl:rightR l=true) (hb:buildF n l=some (t,0)) (hT:Tr n l t) (hR:RunT n t out r)
  (S:SvI N c0 R g vb db q) (hrd:∀s∈out,Rd T R N q.v q.d s) (ho:out.length=pgN n t):f_law14_last out=some r∧loadF n T q.v q.d r=some (l,out,0):=by
 have hpg:=pages_pos hT (rightR_len hl)
 have hl1:=rightR_len hl
 constructor
 obtain ⟨a,s,rfl⟩:=hR.lastE
 simp only [List.length_append,List.length_singleton] at ho
 exact last_eq (by omega)
 exact load_ok hn hl hb hT hR (fun s hs=>⟨((hrd s hs).ok S.vs).1,((hrd s hs).ok S.vs).2.1⟩) (by omega)
theorem all_new {T:List UInt32} {th:List (KeyS×RefA)} (hth:∀k:KeyS,mget th k=none):∀(seg:List SavedA) (q q':SvA),Path (savWh T th) q seg q'→q'.tk.length=q.tk.length+seg.length
 | [],q,q',h=>by rw [show q=q' from h];rfl
 | s::seg,q,q',h=>by
  obtain ⟨q1,h1,h2⟩:=h
  have ih:=all_new hth seg q1 q' h2
  unfold savWh at h1
  obtain ⟨k,hk,h1⟩:=bnd h1
  rw [hth k,show (none:Option RefA).isSome=false from rfl,cond_false] at h1
  obtain ⟨y,hy,h1⟩:=bnd h1
  cases he:decide (y.2.1=0) with
  | true=>
   rw [he,cond_true] at h1
   obtain ⟨l,hl,h1⟩:=bnd h1
   have h3:=Option.some.inj h1
   have hq:q1=⟨l,y.2.2.1,y.2.2.2⟩:=(congrArg Prod.snd h3).symm
   unfold appL at hl
   split at hl
   have hl:=Option.some.inj hl
   rw [ih,hq,←hl]
   simp only [List.length_append,List.length_cons,List.length_nil]
   omega
   cases hl
  | false=>
   rw [he,cond_false] at h1
   have h3:=congrArg (fun z=>z.1.2) (Option.some.inj h1)
   simp only at h3
   rw [h3] at he
   simp at he
/-! ### What is shown -/
abbrev rows6:List RowA:=[⟨1,0,0,[]⟩,⟨2,0,0,[]⟩,⟨3,0,0,[]⟩,⟨4,0,0,[]⟩,⟨5,0,0,[]⟩,⟨6,8,0,[]⟩]
abbrev tree6:NodeP:=.mk 0 0 4 [] [.mk 0 0 0 [⟨1,0,0,[]⟩,⟨2,0,0,[]⟩,⟨3,0,0,[]⟩,⟨4,0,0,[]⟩,⟨5,0,0,[]⟩] [],.mk 8 0 0 [⟨6,8,0,[]⟩] []]
theorem rows6_ok:rightR rows6=true:=by decide +kernel
set_option maxRecDepth 100000 in
theorem rows6_tree:buildF 4200 rows6=some (tree6,0):=by kernel_rfl
theorem p_gshown (T:List UInt32):f_law14_shown 4200 T=some true:=by
 obtain ⟨w,c,hm⟩:=made14_eq (N:=12) (n:=4200) (by omega) (by omega) (by omega)
 have k1:=find1 (m:=1) (by omega) (by omega)
 obtain ⟨t,th,h1,h2,h3,h4⟩:=save_res (n:=4200) (T:=T) (l:=rows6) (had:=[]) (by omega) (N:=12) (by omega) (v0_ok (by omega)) (v0_tk 12) k1 rows6_ok (fun s hs=>by simp at hs) (by simp) (by simp [v0])
 obtain rfl:tree6=t:=by
  have:=h1.symm.trans rows6_tree
  simp only [Option.some.injEq,Prod.mk.injEq,and_true] at this
  exact this.symm
 have hpg:pgN 4200 tree6=4:=rfl
 rcases h4 with ⟨r,out,q,e1,e2,e3,e4,e5,e6,e7,_⟩ | ⟨v,d,c,_,e2,_,_⟩
 obtain ⟨f1,f2⟩:=save_load (n:=4200) (by omega) rows6_ok h1 h2 e2 e4 e5 e6
 rw [hpg] at e6
 unfold f_law14_shown
 rw [show (12:Int)=((12:Nat):Int) from rfl,hm,some_bind,some_bind]
 show (saveF 4200 T v0 (d0 12) rows6 []).bind _=_
 rw [e1,some_bind,f1,some_bind]
 dsimp only
 rw [f2,some_bind]
 dsimp only
 have hs:=e4.seals
 have htk:q.tk.length=4:=by
  rw [all_new (fun k=>h3 k) out _ _ e7,e6]
  rfl
 rw [htk] at hs
 show (andO _ ((f_ref09_Same 4200 rows6 rows6).bind _)).bind _=_
 rw [same_rows rows6 (by decide) (by decide),some_bind,same_pages out (by omega) (by omega)]
 unfold f_vv_Seals
 rw [hs,e6]
 rfl
 exfalso
 rw [hpg] at e2
 simp [v0] at e2
end Go.Proofs.YtkibffdipniemaaGreatDoor

/- The laws of layer 14, of the plain functions: GroveNone, GroveBack, GroveFull. No program's walk in sight. -/
namespace Go.Proofs.YtkibffdipniemaaGreatDoor
open Go

theorem free_eq {N c:Nat} {R:List KeyA} {g:UInt32} {v:VltA} {d:DevA} (V:VS N c R g v d) (h:v.taken.length≤1000000):f_vv_Free v d=some ((N:Int)-2-(v.taken.length:Int)):=by
  have:=V.dev.nle
  unfold f_vv_Free f_dd_Blocks
  rw [some_bind,ret_eq,V.dev.blen,wI_eq (x:=(N:Int)-2) (by omega) (by omega),wI_eq (by omega) (by omega)]
theorem save_new {N:Nat} (T:List UInt32) (l:List RowA) (h4:4≤N) (hN:N≤102) (hl:rightR (l.take 24)=true):
    ∃t,buildF 4200 (l.take 24)=some (t,0)∧Tr 4200 (l.take 24) t∧pgN 4200 t≤48∧pgN 4200 t≤max 1 (2*(l.take 24).length)∧
      ((∃r out q,saveF 4200 T v0 (d0 N) (l.take 24) []=some (out,0,q.v,q.d)∧RunT 4200 t out r∧refOk r=true∧SvI N 0 (ringA 1) 1 v0 (d0 N) q∧(∀s∈out,Rd T (ringA 1) N q.v q.d s)∧out.length=pgN 4200 t∧q.tk.length=out.length)∨
       (∃v d c,saveF 4200 T v0 (d0 N) (l.take 24) []=some ([],110,v,d)∧N-2<pgN 4200 t∧v.taken=[]∧VS N c (ringA 1) 1 v d)):=by
  have k1:=find1 (m:=1) (by omega) (by omega)
  have hlen:=few_len l
  obtain ⟨t,th,h1,h2,h3,h5⟩:=save_res (n:=4200) (T:=T) (l:=l.take 24) (had:=[]) (by omega) (N:=N) (by omega) (v0_ok (by omega)) (v0_tk N) k1 hl (fun s hs=>by simp at hs) (by simp) (by simp [v0];omega)
  have hpg:=pages_pos h2 (rightR_len hl)
  refine ⟨t,h1,h2,by omega,hpg,?_⟩
  rcases h5 with ⟨r,out,q,e1,e2,e3,e4,e5,e6,e7,_⟩ | ⟨v,d,c,e1,e2,e3,e4⟩
  left
  refine ⟨r,out,q,e1,e2,e3,e4,e5,e6,?_⟩
  rw [all_new (fun k=>h3 k) out _ _ e7]
  simp
  right
  exact ⟨v,d,c,e1,by simpa [v0] using e2,e3,e4⟩
theorem save_bad {n:Nat} {T:List UInt32} {v:VltA} {d:DevA} {l:List RowA} {had:List SavedA} (hn:1100≤n) (hl:l.length≤1000) (h:rightR l=false):saveF n T v d l had=some ([],80,v,d):=by
  unfold saveF
  rw [build_no (by omega) (by omega) h,some_bind]
  rfl
end Go.Proofs.YtkibffdipniemaaGreatDoor

/- Plain laws of a tree's pages: no two of them have one text; a tree of one row less has few pages that are new. No program in sight. Condition: as each says. -/
namespace Go.Proofs.YtkibffdipniemaaGreatDoor
open Go

/-! ### A tree is told by its rows -/
theorem AR.uniq {c c':CellA} {l:List RowA} {L L':Nat} (hl:l≠[]) (A:AR c l L) (A':AR c' l L'):c=c'∧L=L':=by
 have key:∀ {c c':CellA} {L L':Nat},AR c l L→AR c' l L'→¬L<L':=by
  intro c c' L L' A A' h
  obtain ⟨r,hr,s,hs,hne⟩:=A'.two (by omega)
  refine hne ?_
  have hd:∀ {a b:Nat},a / 2^L=b / 2^L→a / 2^(L'-1)=b / 2^(L'-1):=by
   intro a b e
   have:2^(L'-1)=2^L*2^(L'-1-L):=by rw [←Nat.pow_add];congr 1;omega
   rw [this,←Nat.div_div_eq_div_mul,←Nat.div_div_eq_div_mul,e]
  unfold qd
  rw [hd ((A.inn r hr).1.trans (A.inn s hs).1.symm),hd ((A.inn r hr).2.trans (A.inn s hs).2.symm)]
 have hL:L=L':=by
  have h1:=key A A'
  have h2:=key A' A
  omega
 subst hL
 refine ⟨?_,rfl⟩
 obtain ⟨r,hr⟩:=List.exists_mem_of_ne_nil l hl
 have e1:=(A.inn r hr).1.symm.trans (A'.inn r hr).1
 have e2:=(A.inn r hr).2.symm.trans (A'.inn r hr).2
 have m:∀ {a b P:Nat},a%P=0→b%P=0→a / P=b / P→a=b:=by
  intro a b P h1 h2 h3
  have g1:=Nat.div_add_mod a P
  have g2:=Nat.div_add_mod b P
  rw [h1,h3] at g1
  rw [h2] at g2
  omega
 have x:=UInt32.toNat_inj.1 (m A.cx A'.cx e1)
 have y:=UInt32.toNat_inj.1 (m A.cy A'.cy e2)
 have z:=A.lev.trans A'.lev.symm
 cases c
 cases c'
 simp only at x y z
 rw [x,y,z]
theorem All2.eq_of {R R':List RowA→NodeP→Prop} (h:∀x a b,R x a→R' x b→a=b):∀ {xs:List (List RowA)} {as' bs':List NodeP},All2 R xs as'→All2 R' xs bs'→as'=bs'
 | [],_,_,.nil,.nil=>rfl
 | _::_,_,_,.cons h1 h2,.cons h3 h4=>by rw [h _ _ _ h1 h3,All2.eq_of h h2 h4]
theorem Tr.uniq:∀ {f f':Nat} {l:List RowA} {t t':NodeP},Tr f l t→Tr f' l t'→t=t'
 | 0,_,_,_,_,h,_=>h.elim
 | _+1,0,_,_,_,_,h=>h.elim
 | f+1,f'+1,l,t,t',h,h'=>by
  rcases h with ⟨rfl,rfl⟩ | ⟨hne,c,L,A,h⟩
  rcases h' with ⟨_,rfl⟩ | ⟨hne,_⟩
  rfl
  exact absurd rfl hne
  rcases h' with ⟨h0,_⟩ | ⟨_,c',L',A',h'⟩
  exact absurd h0 hne
  obtain ⟨rfl,rfl⟩:=A.uniq hne A'
  rcases h with ⟨h1,rfl⟩ | ⟨h1,h2,ks,rfl,hk⟩
  rcases h' with ⟨_,rfl⟩ | ⟨h3,h4,_⟩
  rfl
  omega
  rcases h' with ⟨h3,_⟩ | ⟨_,_,ks',rfl,hk'⟩
  omega
  rw [All2.eq_of (R:=Tr f) (R':=Tr f') (fun x a b ha hb=>Tr.uniq ha hb) hk hk']
/-! ### The pages of a run -/
abbrev refS (s:SavedA):RefA:=⟨s.page,s.tag⟩
structure Pgs (xs:List PageA) (seg:List SavedA) (rows:List RowA) (roots:List RefA):Prop where
 txt:seg.map (·.txt)=xs.map encPg
 ok:∀x∈xs,pageOk x=true
 rws:(xs.flatMap (·.rows)).Perm rows
 rfs:(xs.flatMap onP++roots).Perm (seg.map refS)
end Go.Proofs.YtkibffdipniemaaGreatDoor

/- The answer's tree of rows: sphragisref09.tree, Build, SameNode; law14's count of nodes. Condition: the plain functions yield. -/
namespace Go.Proofs.YtkibffdipniemaaGreatDoor
open Go
variable {K:Nat→Prop} {w0:World} {H:List Chunk}

def part09 (q:CellA):List RowA→List RowA→Option (List RowA)
 | [],acc=>some acc
 | r::l,acc=>(f_ref08_Has q r.x r.y).bind fun b=>cond b ((appL 32 acc [r]).bind fun a=>part09 q l a) (part09 q l acc)
def kids09 (rec_:List RowA→Option NodeP) (c:CellA) (l:List RowA):Nat→Nat→List NodeP→Option (List NodeP)
 | 0,_,acc=>some acc
 | m+1,i,acc=>(f_ref08_Quarter c (i:Int)).bind fun q=>(part09 q.1 l []).bind fun p=>cond (decide (0<(p.length:Int))) ((rec_ p).bind fun n=>(appL 64 acc [n]).bind fun a=>kids09 rec_ c l m (i+1) a) (kids09 rec_ c l m (i+1) acc)
def tree09 (n:Nat):Nat→List RowA→Option NodeP
 | 0,_=>none
 | f+1,l=>
  if 1048576<l.length then none else cond (decide ((l.length:Int)=0)) (some (.mk 0 0 0 [] []))
   ((f_ref09_around n l).bind fun c=>cond (decide ((l.length:Int)≤4)||decide (c.lev=0)) ((capI 32 (l.length:Int)).bind fun _=>(appL 32 [] l).bind fun rs=>some (.mk c.x c.y c.lev rs []))
    ((kids09 (tree09 n f) c l 4 0 []).bind fun ks=>some (.mk c.x c.y c.lev [] ks)))
set_option maxHeartbeats 8000000 in
set_option maxRecDepth 100000 in
theorem c_tree09 (n:Nat):∀(f:Nat) {K:Nat→Prop} {w0:World} {H:List Chunk} {v:Value} {l:List RowA} {t:NodeP},tree09 n f l=some t→SlOf K w0 encRow 4 v l→
  Con Tryz.prog K w0 64 [v] [] H (fun u M=>∃(nv:NodeV) (L:FzMap),u=.agg (encNode nv).toArray∧NodeFz L nv t∧M=[fzC L])
 | 0,K,w0,H,v,l,t,h,_=>by cases h
 | f+1,K,w0,H,v,l,t,h,hs=>by
  have h:(if 1048576<l.length then none else cond (decide ((l.length:Int)=0)) (some (.mk 0 0 0 [] []))
   ((f_ref09_around n l).bind fun c=>cond (decide ((l.length:Int)≤4)||decide (c.lev=0)) ((capI 32 (l.length:Int)).bind fun _=>(appL 32 [] l).bind fun rs=>some (.mk c.x c.y c.lev rs []))
    ((kids09 (tree09 n f) c l 4 0 []).bind fun ks=>some (.mk c.x c.y c.lev [] ks))))=some t:=h
  by_cases hbig:1048576<l.length
  rw [if_pos hbig] at h;cases h
  rw [if_neg hbig] at h
  refine Con.enter Tryz.func64 rfl rfl ?_
  refine SX.sr ?_
  refine SL.alloc (.r rfl) ze57 (fun _=>trivial) fun b2=>?_
  refine SL.nx (SX.seq (SX.sr (SL.mv (.r rfl) rfl (SL.lenV hs (.r rfl) ty35 rfl (SL.bin (.r rfl) rfl rfl Bin.eqI (SL.nx ?_))))))
  refine SX.cond rfl (fun hc1=>?_) (fun hc1=>?_)
  rw [hc1,cond_true] at h
  obtain rfl:=Option.some.inj h
  refine SX.sr (SL.bld [] (.r rfl) pl57 pk57 ze57 trivial rfl (SL.st 0 ⟨rfl,rfl,rfl⟩ rfl rfl rfl sz57 rfl rfl rfl trivial (SL.nx (SX.ret (SQ.thnR (SQ.fz0 ?_))))))
  exact SQ.fret (resv1 rfl (resv.ag 1 [vU32 0,vU32 0,vI 0,.slice none 0 0,.slice none 0 0] ag57 rfl rfl rfl rfl)) (ret_of (M:=[_]) ⟨⟨0,0,0,⟨none,0,0⟩,⟨none,0,0⟩⟩,[],rfl,.mk (FzSl.nil fun _=>rfl) (FzSl.nil fun _=>rfl) (kvs:=[]) rfl (fun i a b ha=>by simp at ha),rfl⟩ fun _ hw=>HpOk.pick (H:=[_,_]) hw [0] 2 rfl)
  rw [hc1,cond_false] at h
  obtain ⟨c,hc,h⟩:=bnd h
  refine SX.skip (SQ.thn (SX.sr (SL.mv (.r rfl) rfl ?_)))
  refine SL.call (vs:=[_]) (Hin:=[]) (Hr:=_::_) (.r rfl) rfl ⟨rfl,trivial⟩ cal95 rfl rfl (c_ref09_around hc hs) ?_
  rintro _ _ ⟨rfl,rfl⟩
  refine ⟨trivial,?_⟩
  refine SL.bld [_] (.r rfl) pl57 pk57 ze57 ⟨rfl,trivial⟩ rfl ?_
  refine SL.alloc (.r rfl) ze57 (fun _=>trivial) fun b3=>?_
  refine SL.st 0 ⟨rfl,rfl,rfl⟩ rfl rfl rfl sz57 rfl rfl rfl trivial (SL.nx ?_)
  refine SX.re [(0,v),(2,vP b2 0),(3,vP b3 0)] (own b3 (.cells #[vU32 c.x,vU32 c.y,vI c.lev,.slice none 0 0,.slice none 0 0] 57)::own b2 (.cells #[vU32 0,vU32 0,vI 0,.slice none 0 0,.slice none 0 0] 57)::H) ?_ (by repeat' (first | exact trivial | refine And.intro rfl ?_))
  refine SX.seq (SX.sr (SL.mv (.r rfl) rfl (SL.lenV hs (.r rfl) ty35 rfl (SL.bin (.r rfl) rfl rfl Bin.leI (SL.mv (.r rfl) rfl ?_)))))
  refine SL.or (c:=decide (c.lev=0)) 20 5 25 rfl (fun hb k=>?_) (fun hb k=>?_) ?_
  refine SL.pass rfl rfl rfl (SL.pass rfl rfl rfl (SL.pass rfl rfl rfl (SL.pass rfl rfl rfl (SL.pk (.r rfl) rfl rfl ?_))))
  exact k.mono (by repeat' (first | exact trivial | refine And.intro rfl ?_))
  refine SL.fa (.r rfl) rfl fo57_0 (SL.fa (.r rfl) rfl fo54_2 (SL.ld (.r rfl) sc3 rfl (cell_own 0 rfl rfl) (SL.bin (.r rfl) rfl rfl Bin.eqI (SL.pk (.r rfl) rfl rfl ?_))))
  exact k.mono (by repeat' (first | exact trivial | refine And.intro rfl ?_))
  refine SL.nx ?_
  refine SX.cond rfl (fun hc2=>?_) (fun hc2=>?_)
  rw [hc2,cond_true] at h
  obtain ⟨u0,hu0,h⟩:=bnd h
  obtain ⟨rs,hrs,h⟩:=bnd h
  obtain rfl:=Option.some.inj h
  refine SX.sr (SL.mv (.r rfl) rfl (SL.lenV hs (.r rfl) ty35 rfl ?_))
  refine SL.mkC hu0 encRow (.r rfl) ty35 sz79 by79 ze79 rfl rfl rfl (fun _=>trivial) fun v0=>?_
  refine SL.mv (.r rfl) rfl ?_
  refine SL.appV 0 hrs hs (sz:=4) (enc:=encRow) (fun _=>rfl) (.r rfl) ty35 sz79 by79 ze79 rfl (by decide) rfl rfl rfl (by simp [encRow,Value.oneCell']) (fun _=>trivial) fun v1=>?_
  refine SL.fa (.r rfl) rfl fo57_1 ?_
  refine SL.rowV 0 rfl fun hv1 ho1=>?_
  refine SL.stR 1 ⟨rfl,rfl,rfl⟩ rfl rfl rfl sz35 hv1 ho1 rfl trivial (SL.nx (SX.sr (SL.ldA [vU32 c.x,vU32 c.y,vI c.lev,v1,.slice none 0 0] (.r rfl) ag57 rfl rfl (cells_all 1 rfl) ?_)))
  refine SL.rowS 0 rfl fun s0 hs0=>?_
  subst hs0
  refine SL.st 2 ⟨rfl,rfl,rfl⟩ rfl rfl rfl sz57 rfl (List.all_eq_true.2 (oneNode ⟨c.x,c.y,c.lev,s0,⟨none,0,0⟩⟩)) rfl trivial (SL.nx (SX.ret (SQ.thnR ?_)))
  refine SQ.freeze (fun _=>rfl) fun L hL=>?_
  exact SQ.fret (resv1 rfl (resv.ag 2 [vU32 c.x,vU32 c.y,vI c.lev,s0.val,.slice none 0 0] ag57 rfl rfl rfl rfl)) (ret_of (M:=[_]) ⟨⟨c.x,c.y,c.lev,s0,⟨none,0,0⟩⟩,L,rfl,.mk hL (FzSl.nil fun _=>rfl) (kvs:=[]) rfl (fun i a b ha=>by simp at ha),rfl⟩ fun _ hw=>HpOk.pick (H:=[_,_,_]) hw [0] 3 rfl)
  rw [hc2,cond_false] at h
  obtain ⟨ks,hks,h⟩:=bnd h
  obtain rfl:=Option.some.inj h
  refine SX.skip (SQ.thn (SX.seq (SX.sr (SL.asg (.r rfl) rfl (SL.nx (SX.nilT 57 5 encNode (SX.fz0 (SX.block ?_))))))))
  refine SX.mono (SX.loop (α:=Nat×List NodeV×List NodeP×Value×FzMap) (fun x=>x.1≤4∧kids09 (tree09 n f) c l (4-x.1) x.1 x.2.2.1=some ks∧KidsFz x.2.2.2.2 x.2.1 x.2.2.1) (fun x=>[(0,v),(2,vP b2 0),(3,vP b3 0),(4,vI x.1)])
    (fun x=>fzC x.2.2.2.2::rowT 57 5 x.2.2.2.1 encNode x.2.1::own b3 (.cells #[vU32 c.x,vU32 c.y,vI c.lev,.slice none 0 0,x.2.2.2.1] 57)::own b2 (.cells #[vU32 0,vU32 0,vI 0,.slice none 0 0,.slice none 0 0] 57)::H)
    (fun x=>4-x.1) (fun x D hp=>?_) (0,[],[],.slice none 0 0,[]) ⟨Nat.zero_le _,hks,rfl,fun i a b ha=>by simp at ha⟩) (by repeat' (first | exact trivial | refine And.intro rfl ?_))
  obtain ⟨i,gs,ks',kv,L⟩:=x
  obtain ⟨hi,hkf,hkz⟩:=hp
  dsimp only at hi hkf hkz ⊢
  refine SX.seq (SX.sr (SL.mv (.r rfl) rfl (SL.bin (.r rfl) rfl rfl Bin.ltI (SL.nx ?_))))
  refine SX.cond rfl (fun hc4=>?_) (fun hc4=>?_)
  have hlt:i<4:=by have:=of_decide_eq_true hc4;omega
  clear hc4
  rw [show 4-i=(4-(i+1))+1 by omega] at hkf
  obtain ⟨⟨q,eq⟩,hq,hkf⟩:=bnd hkf
  obtain ⟨p,hpt,hkf⟩:=bnd hkf
  dsimp only at hpt
  refine SX.skip (SQ.thn (SX.seq (SX.block (SX.sr (SL.fa (.r rfl) rfl fo57_0 (SL.ldA [vU32 c.x,vU32 c.y,vI c.lev] (.r rfl) ag54 rfl rfl (cells_own 2 rfl (by rintro (_ | _ | _ | j) u hj<;>first | exact hj | exact absurd hj (by simp))) (SL.mv (.r rfl) rfl ?_)))))))
  refine SL.call (vs:=[_,_]) (Hin:=[]) (Hr:=_::_::_::_::_) (.r rfl) rfl ⟨rfl,rfl,trivial⟩ cal96 rfl rfl (c_ref08_Quarter hq :) ?_
  rintro _ _ ⟨rfl,rfl⟩
  refine ⟨trivial,?_⟩
  refine SL.mv (.r rfl) rfl (SL.ext (.r rfl) rfl rfl (SL.ext (.r rfl) rfl rfl ?_))
  refine SL.alloc (.r rfl) ze54 (fun _=>trivial) fun b5=>?_
  refine SL.st 0 ⟨rfl,rfl,rfl⟩ rfl rfl rfl sz54 rfl rfl rfl trivial (SL.asg (.r rfl) rfl (SL.nx (SX.sr (SL.asg (.r rfl) rfl (SL.nx (SX.nilT 79 4 encRow (SX.seq (SX.sr (SL.asg (.r rfl) rfl (SL.nx (SX.block ?_)))))))))))
  refine SX.mono (SX.loop (α:=Nat×List RowA×Value) (fun x=>x.1≤l.length∧part09 q (l.drop x.1) x.2.1=some p) (fun x=>[(0,v),(2,vP b2 0),(3,vP b3 0),(4,vI i),(5,vP b5 0),(7,x.2.2),(8,vI x.1)])
   (fun x=>rowT 79 4 x.2.2 encRow x.2.1::own b5 (.cells #[vU32 q.x,vU32 q.y,vI q.lev] 54)::fzC L::rowT 57 5 kv encNode gs::own b3 (.cells #[vU32 c.x,vU32 c.y,vI c.lev,.slice none 0 0,kv] 57)::own b2 (.cells #[vU32 0,vU32 0,vI 0,.slice none 0 0,.slice none 0 0] 57)::H)
   (fun x=>l.length-x.1) (fun x D hp=>?_) (0,[],.slice none 0 0) ⟨Nat.zero_le _,hpt⟩) (by repeat' (first | exact trivial | refine And.intro rfl ?_))
  obtain ⟨k,acc,vp⟩:=x
  obtain ⟨hk,hp⟩:=hp
  dsimp only at hk hp ⊢
  refine SX.seq (SX.sr (SL.mv (.r rfl) rfl (SL.mv (.r rfl) rfl (SL.lenV hs (.r rfl) ty35 rfl (SL.bin (.r rfl) rfl rfl Bin.ltI (SL.nx ?_))))))
  refine SX.cond rfl (fun hc5=>?_) (fun hc5=>?_)
  have hkl:k<l.length:=by have:=of_decide_eq_true hc5;omega
  have hr:nthI l (k:Int)=some l[k]:=by simp [nthI,hkl]
  rw [List.drop_eq_getElem_cons hkl] at hp
  generalize l[k]=r at hr hp
  obtain ⟨b,hb,hp⟩:=bnd hp
  refine SX.skip (SQ.thn (SX.seq (SX.block (SX.seq (SX.drawI mix [1] (Pl.ap [(true,0),(true,1),(true,2),(true,3),(true,4),(true,5),(true,6),(true,7),(true,8),(true,9),(true,10),(false,11)] (.last 12 .nil)) (by kernel_rfl) (SL.ldA [vU32 q.x,vU32 q.y,vI q.lev] (.r rfl) ag54 rfl rfl (cells_all 0 rfl) (SL.mv (.r rfl) rfl (SL.mv (.r rfl) rfl ?_))))))))
  refine SL.iaN hr hs (.r rfl) ty35 sz79 rfl rfl fun be1 of1 hcc1=>?_
  refine SL.fa (.r rfl) rfl fo79_1 ?_
  refine SL.ld (.r rfl) sc29 rfl (cell_kept (j:=1) hcc1 rfl) ?_
  refine SL.mv (.r rfl) rfl (SL.mv (.r rfl) rfl ?_)
  refine SL.iaN hr hs (.r rfl) ty35 sz79 rfl rfl fun be2 of2 hcc2=>?_
  refine SL.fa (.r rfl) rfl fo79_2 ?_
  refine SL.ld (.r rfl) sc29 rfl (cell_kept (j:=2) hcc2 rfl) ?_
  refine SL.call (vs:=[_,_,_]) (Hin:=[]) (Hr:=_::_::_::_::_::_::_) (.r rfl) rfl ⟨rfl,rfl,rfl,trivial⟩ cal97 rfl rfl (c_ref08_Has hb :) ?_
  rintro _ _ ⟨rfl,rfl⟩
  refine ⟨⟨⟨1,rfl⟩,trivial⟩,?_⟩
  refine SL.last (SL.asg (.r rfl) rfl (SL.nx (SX.sr (SL.mv (.r rfl) rfl (SL.nx ?_)))))
  refine SX.cond rfl (fun hc6=>?_) (fun hc6=>?_)
  replace hp:=cT hc6 hp
  obtain ⟨u,hu,hp⟩:=bnd hp
  refine SX.region (SL.mv (.r rfl) rfl (SL.mv (.r rfl) rfl (SL.mv (.r rfl) rfl ?_)))
  refine SL.iaN hr hs (.r rfl) ty35 sz79 rfl rfl fun be3 of3 hcc3=>?_
  refine SL.ldA (encRow r) (.r rfl) ag79 rfl rfl (cells_kept hcc3) ?_
  refine SL.bsl [_] (.r rfl) ty35 sz79 ze79 ⟨rfl,trivial⟩ rfl rfl rfl (by intro v hv;simp only [List.mem_cons,List.not_mem_nil,or_false] at hv;subst hv;rfl) rfl rfl (fun _=>trivial) fun b7=>?_
  refine SL.ownT encRow 4 ([r]:List RowA) rfl (fun _=>rfl) rfl ?_
  refine SL.appT 1 hu (sz:=4) (enc:=encRow) (fun _=>rfl) (.r rfl) ty35 sz79 by79 ze79 rfl (by decide) rfl rfl rfl rfl (cells_rowA (sz:=4) (enc:=encRow) 0 (fun _=>rfl) rfl) (by simp [encRow,Value.oneCell']) (fun _=>trivial) fun v7=>?_
  refine SL.asg (.r rfl) rfl (SL.nil (SQ.blk (SQ.thn (SX.region (SL.mv (.r rfl) rfl (SL.bin (.r rfl) rfl rfl (Bin.addI (by omega) (by omega)) (SL.asg (.r rfl) rfl (SL.nil ?_))))))))
  exact SQ.again (k+1,u,v7) ⟨hkl,hp⟩ (by dsimp only;omega) (by repeat' (first | exact trivial | refine And.intro rfl ?_)) (fun _ hw=>HpOk.pick (H:=[_,_,_,_,_,_,_]) hw [1,2,3,4,5,6] 7 rfl)
  replace hp:=cF hc6 hp
  refine SX.skip (SQ.blk (SQ.thn (SX.region (SL.mv (.r rfl) rfl (SL.bin (.r rfl) rfl rfl (Bin.addI (by omega) (by omega)) (SL.asg (.r rfl) rfl (SL.nil ?_)))))))
  exact SQ.again (k+1,acc,vp) ⟨hkl,hp⟩ (by dsimp only;omega) (by repeat' (first | exact trivial | refine And.intro rfl ?_)) (fun _ h=>h)
  have hle:k=l.length:=by have:=of_decide_eq_false hc5;omega
  subst hle
  rw [List.drop_length] at hp
  obtain rfl:=Option.some.inj hp
  clear hc5
  refine SX.exit (SQ.thnE (SQ.lpE (SQ.blkE (SQ.thn (SX.sr (SL.mv (.r rfl) rfl (SL.lenT 0 (.r rfl) ty35 rfl rfl (SL.bin (.r rfl) rfl rfl Bin.gtI (SL.nx ?_)))))))))
  refine SX.cond rfl (fun hc6=>?_) (fun hc6=>?_)
  replace hkf:=cT hc6 hkf
  obtain ⟨nd,hnd,hkf⟩:=bnd hkf
  obtain ⟨ac,hacc,hkf⟩:=bnd hkf
  refine SX.drawI mix [4] (Pl.ap [(true,0),(true,1),(true,2),(false,3),(false,4),(false,5),(true,6)] (.last 7 .nil)) (by kernel_rfl) (SL.fa (.r rfl) rfl fo57_2 (SL.ld (.r rfl) sc55 rfl (cell_own 0 rfl rfl) (SL.mv (.r rfl) rfl ?_)))
  refine SL.call (vs:=[_]) (Hin:=[_]) (Hr:=_::_::_::_::_::_) (.r rfl) rfl ⟨rfl,trivial⟩ cal64 rfl rfl (Con.lend (B:=[_]) (Hin:=[]) fun K' w1 hk hB=>c_tree09 n f hnd (SlOf.lentT (e:=79) (fun _=>rfl) (hB _ (by simp)))) ?_
  rintro _ _ ⟨_,rfl,nv,L2,rfl,hnz,rfl⟩
  refine ⟨⟨⟨5,rfl⟩,trivial⟩,?_⟩
  obtain ⟨hg,rfl⟩:=appL_len (xs':=gs) (ys':=[nv]) hacc hkz.1 rfl
  refine SL.bsl [_] (.r rfl) ty55 sz57 ze57 ⟨rfl,trivial⟩ rfl rfl rfl (by intro v hv;simp only [List.mem_cons,List.not_mem_nil,or_false] at hv;subst hv;rfl) rfl rfl (fun _=>⟨⟨6,rfl⟩,trivial⟩) fun b7=>?_
  refine SL.ownT encNode 5 ([nv]:List NodeV) rfl (fun _=>rfl) rfl ?_
  refine SL.appT 5 hg (sz:=5) (enc:=encNode) (fun _=>rfl) (.r rfl) ty55 sz57 by57 ze57 rfl (by decide) rfl rfl rfl rfl (cells_rowA (sz:=5) (enc:=encNode) 0 (fun _=>rfl) rfl) oneNode (fun _=>⟨⟨6,rfl⟩,trivial⟩) fun v7=>?_
  refine SL.fa (.r rfl) rfl fo57_2 (SL.last ?_)
  refine SL.rowV 5 rfl fun hv7 ho7=>?_
  refine SL.stR 6 ⟨rfl,rfl,rfl⟩ rfl rfl rfl sz55 hv7 ho7 rfl trivial (SL.nil (SQ.blk (SQ.thn ?_)))
  refine SX.heap (H':=fzC L::fzC L2::rowT 57 5 v7 encNode (gs++[nv])::own b3 (.cells #[vU32 c.x,vU32 c.y,vI c.lev,.slice none 0 0,v7] 57)::own b2 (.cells #[vU32 0,vU32 0,vI 0,.slice none 0 0,.slice none 0 0] 57)::H) (SX.fzJoin ?_) (fun _ hw=>HpOk.pick (H:=[_,_,_,_,_,_,_,_]) hw [4,2,5,6,7] 8 rfl)
  refine SX.region (SL.mv (.r rfl) rfl (SL.bin (.r rfl) rfl rfl (Bin.addI (by omega) (by omega)) (SL.asg (.r rfl) rfl (SL.nil ?_))))
  exact SQ.again (i+1,gs++[nv],ks'++[nd],v7,L++L2) ⟨by omega,hkf,(hkz.mono fun p hp=>List.mem_append_left _ hp).snoc (hnz.mono fun p hp=>List.mem_append_right _ hp)⟩ (by dsimp only;omega) (by repeat' (first | exact trivial | refine And.intro rfl ?_)) (fun _ h=>h)
  replace hkf:=cF hc6 hkf
  refine SX.skip (SQ.blk (SQ.thn (SX.region (SL.mv (.r rfl) rfl (SL.bin (.r rfl) rfl rfl (Bin.addI (by omega) (by omega)) (SL.asg (.r rfl) rfl (SL.nil ?_)))))))
  exact SQ.again (i+1,gs,ks',kv,L) ⟨by omega,hkf,hkz⟩ (by dsimp only;omega) (by repeat' (first | exact trivial | refine And.intro rfl ?_)) (fun _ hw=>HpOk.pick (H:=[_,_,_,_,_,_]) hw [2,3,4,5] 6 rfl)
  have hle:i=4:=by have:=of_decide_eq_false hc4;omega
  subst hle
  obtain rfl:=Option.some.inj (show some ks'=some ks from hkf)
  refine SX.exit (SQ.thnE (SQ.lpE (SQ.blkE (SQ.thn (SX.sr (SL.ldA [vU32 c.x,vU32 c.y,vI c.lev,.slice none 0 0,kv] (.r rfl) ag57 rfl rfl (cells_all 2 rfl) ?_))))))
  refine SL.rowS 1 rfl fun s0 hs0=>?_
  subst hs0
  refine SL.st 3 ⟨rfl,rfl,rfl⟩ rfl rfl rfl sz57 rfl (List.all_eq_true.2 (oneNode ⟨c.x,c.y,c.lev,⟨none,0,0⟩,s0⟩)) rfl trivial (SL.nx (SX.ret ?_))
  refine SQ.heap (H':=rowT 57 5 s0.val encNode gs::fzC L::own b2 (.cells #[vU32 c.x,vU32 c.y,vI c.lev,.slice none 0 0,s0.val] 57)::H) (SQ.freeze (fun _=>rfl) fun Lk hLk=>?_) (fun _ hw=>HpOk.pick (H:=[_,_,_,_]) hw [1,0,3] 4 rfl)
  refine SQ.fzJoin ?_
  exact SQ.fret (resv1 rfl (resv.ag 1 [vU32 c.x,vU32 c.y,vI c.lev,.slice none 0 0,s0.val] ag57 rfl rfl rfl rfl)) (ret_of (M:=[_]) ⟨⟨c.x,c.y,c.lev,⟨none,0,0⟩,s0⟩,Lk++L,rfl,.mk (FzSl.nil fun _=>rfl) (hLk.mono fun p hp=>List.mem_append_left _ hp) hkz.1 (fun i a b ha hb=>(hkz.2 i a b ha hb).mono fun p hp=>List.mem_append_right _ hp),rfl⟩ fun _ hw=>HpOk.pick (H:=[_,_]) hw [0] 2 rfl)
def build09 (n:Nat) (l:List RowA):Option (NodeP×Int):=
 (f_ref09_Right n l).bind fun r=>cond (!r) (some (.mk 0 0 0 [] [],80)) ((tree09 n n l).bind fun t=>some (t,0))
set_option maxRecDepth 100000 in
theorem w_build09 {n:Nat} {v:Value} {l:List RowA} {r:NodeP×Int} (h:build09 n l=some r) (hs:SlOf K w0 encRow 4 v l):
  Con Tryz.prog K w0 26 [v] [] H (fun u M=>∃(nv:NodeV) (L:FzMap),u=.tuple #[.agg (encNode nv).toArray,vI r.2]∧NodeFz L nv r.1∧M=[fzC L]):=by
 unfold build09 at h
 obtain ⟨y,hy,h⟩:=bnd h
 refine Con.enter Tryz.func26 rfl rfl ?_
 refine SX.sr ?_
 refine SL.alloc (.r rfl) ze57 (fun _=>trivial) fun b2=>?_
 refine SL.asg (.r rfl) rfl (SL.nx (SX.sr (SL.mv (.r rfl) rfl ?_)))
 refine SL.call (vs:=[_]) (Hin:=[]) (Hr:=_::_) (.r rfl) rfl ⟨rfl,trivial⟩ cal63 rfl rfl (c_ref09_Right hy hs) ?_
 rintro _ _ ⟨rfl,rfl⟩
 refine ⟨trivial,?_⟩
 refine SL.asg (.r rfl) rfl (SL.nx (SX.seq (SX.sr (SL.mv (.r rfl) rfl (SL.not (.r rfl) rfl (SL.nx ?_))))))
 refine SX.cond rfl (fun hc=>?_) (fun hc=>?_)
 rw [hc,cond_true] at h
 obtain rfl:=Option.some.inj h
 refine SX.sr (SL.bld [] (.r rfl) pl57 pk57 ze57 trivial rfl (SL.st 0 ⟨rfl,rfl,rfl⟩ rfl rfl rfl sz57 rfl rfl rfl trivial (SL.asg (.r rfl) rfl (SL.nx (SX.ret (SQ.thnR (SQ.fz0 ?_)))))))
 exact SQ.fret (resv2 rfl (resv.ag 1 [vU32 0,vU32 0,vI 0,.slice none 0 0,.slice none 0 0] ag57 rfl rfl rfl rfl) rfl) (ret_of (M:=[_]) ⟨⟨0,0,0,⟨none,0,0⟩,⟨none,0,0⟩⟩,[],rfl,.mk (FzSl.nil fun _=>rfl) (FzSl.nil fun _=>rfl) (kvs:=[]) rfl (fun i a b ha=>by simp at ha),rfl⟩ fun _ hw=>HpOk.pick (H:=[_,_]) hw [0] 2 rfl)
 rw [hc,cond_false] at h
 obtain ⟨t,ht,h⟩:=bnd h
 obtain rfl:=Option.some.inj h
 refine SX.skip (SQ.thn (SX.sr (SL.mv (.r rfl) rfl ?_)))
 refine SL.call (vs:=[_]) (Hin:=[]) (Hr:=_::_) (.r rfl) rfl ⟨rfl,trivial⟩ cal64 rfl rfl (c_tree09 n n ht hs) ?_
 rintro _ _ ⟨nv,L,rfl,hnz,rfl⟩
 refine ⟨trivial,?_⟩
 refine SL.st 1 ⟨rfl,rfl,rfl⟩ rfl rfl rfl sz57 rfl (List.all_eq_true.2 (oneNode nv)) rfl trivial (SL.asg (.r rfl) rfl (SL.nx (SX.ret ?_)))
 exact SQ.fret (resv2 rfl (resv.ag 1 (encNode nv) ag57 rfl rfl rfl rfl) rfl) (ret_of (M:=[_]) ⟨nv,L,rfl,hnz,rfl⟩ fun _ hw=>HpOk.pick (H:=[_,_]) hw [0] 2 rfl)
def sameKids (rec_:NodeP→NodeP→Option Bool):List NodeP→List NodeP→Option Bool
 | [],_=>some true
 | _::_,[]=>none
 | a::ar,b::br=>(rec_ a b).bind fun z=>cond (!z) (some false) (sameKids rec_ ar br)
def sameN (n:Nat):Nat→NodeP→NodeP→Option Bool
 | 0,_,_=>none
 | f+1,a,b=>if 1048576<a.kids.length∨1048576<b.kids.length then none else
   (f_ref09_Same n a.rows b.rows).bind fun s=>
    cond ((!(decide (a.cx=b.cx)&&(decide (a.cy=b.cy)&&(decide (a.lev=b.lev)&&true))) || !s) || !decide ((a.kids.length:Int)=(b.kids.length:Int))) (some false) (sameKids (sameN n f) a.kids b.kids)
set_option maxHeartbeats 8000000 in
set_option maxRecDepth 100000 in
theorem c_sameN (n:Nat):∀(f:Nat) {K:Nat→Prop} {w0:World} {H:List Chunk} {a b:NodeV} {t u:NodeP} {r:Bool},sameN n f t u=some r→NodeOf K w0 a t→NodeOf K w0 b u→
  Con Tryz.prog K w0 27 [.agg (encNode a).toArray,.agg (encNode b).toArray] [] H (fun x M=>x=vB r∧M=[])
 | 0,K,w0,H,a,b,t,u,r,h,_,_=>by cases h
 | f+1,K,w0,H,a,b,t,u,r,h,hA,hB=>by
  have h:(if 1048576<t.kids.length∨1048576<u.kids.length then none else
   (f_ref09_Same n t.rows u.rows).bind fun s=>
    cond ((!(decide (t.cx=u.cx)&&(decide (t.cy=u.cy)&&(decide (t.lev=u.lev)&&true))) || !s) || !decide ((t.kids.length:Int)=(u.kids.length:Int))) (some false) (sameKids (sameN n f) t.kids u.kids))=some r:=h
  split at h
  cases h
  rename_i hbig
  have hkl:t.kids.length≤1048576:=by omega
  clear hbig
  obtain ⟨s,hs,h⟩:=bnd h
  obtain ⟨rv,kv,rfl,hr,hk⟩:=hA.parts
  obtain ⟨rv',kv',rfl,hr',hk'⟩:=hB.parts
  refine Con.enter Tryz.func27 rfl rfl ?_
  refine SX.sr ?_
  refine SL.box (.r rfl) rfl (fun _=>trivial) fun b2=>?_
  refine SL.box (.r rfl) rfl (fun _=>trivial) fun b3=>?_
  refine SL.asg (.r rfl) rfl (SL.nx (SX.sr (SL.fa (.r rfl) rfl fo57_1 (SL.ld (.r rfl) sc35 rfl (cell_own 1 rfl rfl) (SL.fa (.r rfl) rfl fo57_1 (SL.ld (.r rfl) sc35 rfl (cell_own 0 rfl rfl) ?_))))))
  refine SL.call (vs:=[_,_]) (Hin:=[]) (Hr:=_::_::_) (.r rfl) rfl ⟨rfl,rfl,trivial⟩ cal17 rfl rfl (c_ref09_Same hs hr hr' :) ?_
  rintro _ _ ⟨rfl,rfl⟩
  refine ⟨trivial,?_⟩
  refine SL.asg (.r rfl) rfl (SL.nx (SX.seq (SX.sr (SL.fa (.r rfl) rfl fo57_0 (SL.ldA [vU32 t.cx,vU32 t.cy,vI t.lev] (.r rfl) ag54 rfl rfl (cells_own 1 rfl (by rintro (_ | _ | _ | j) u hj<;>first | exact hj | exact absurd hj (by simp))) (SL.fa (.r rfl) rfl fo57_0 (SL.ldA [vU32 u.cx,vU32 u.cy,vI u.lev] (.r rfl) ag54 rfl rfl (cells_own 0 rfl (by rintro (_ | _ | _ | j) u hj<;>first | exact hj | exact absurd hj (by simp))) ?_)))))))
  refine SL.neAgg (.r rfl) fl54 rfl rfl (flatE_cons rfl rfl (eqV_32 (a:=t.cx) (b:=u.cx)) (flatE_cons rfl rfl (eqV_32 (a:=t.cy) (b:=u.cy)) (flatE_cons rfl rfl (eqV_I (a:=t.lev) (b:=u.lev)) flatE_nil))) ?_
  refine SL.mv (.r rfl) rfl ?_
  refine SL.or (c := !s) 17 3 20 rfl (fun hb k=>?_) (fun hb k=>?_) ?_
  refine SL.pass rfl rfl rfl (SL.pass rfl rfl rfl (SL.pk (.r rfl) rfl rfl ?_))
  exact k.mono (by repeat' (first | exact trivial | refine And.intro rfl ?_))
  refine SL.mv (.r rfl) rfl (SL.not (.r rfl) rfl (SL.pk (.r rfl) rfl rfl ?_))
  exact k.mono (by repeat' (first | exact trivial | refine And.intro rfl ?_))
  refine SL.mv (.r rfl) rfl ?_
  refine SL.or (c := !decide ((t.kids.length:Int)=(u.kids.length:Int))) 21 8 29 rfl (fun hb k=>?_) (fun hb k=>?_) ?_
  refine SL.pass rfl rfl rfl (SL.pass rfl rfl rfl (SL.pass rfl rfl rfl (SL.pass rfl rfl rfl (SL.pass rfl rfl rfl (SL.pass rfl rfl rfl (SL.pass rfl rfl rfl (SL.pk (.r rfl) rfl rfl ?_)))))))
  exact k.mono (by repeat' (first | exact trivial | refine And.intro rfl ?_))
  refine SL.fa (.r rfl) rfl fo57_2 (SL.ld (.r rfl) sc55 rfl (cell_own 1 rfl rfl) (SL.lenND hk (.r rfl) ty55 rfl (SL.fa (.r rfl) rfl fo57_2 (SL.ld (.r rfl) sc55 rfl (cell_own 0 rfl rfl) (SL.lenND hk' (.r rfl) ty55 rfl (SL.bin (.r rfl) rfl rfl Bin.neI (SL.pk (.r rfl) rfl rfl ?_)))))))
  exact k.mono (by repeat' (first | exact trivial | refine And.intro rfl ?_))
  refine SL.nx ?_
  refine SX.cond rfl (fun hc1=>?_) (fun hc1=>?_)
  replace h:=cT hc1 h
  obtain rfl:=Option.some.inj h
  refine SX.sr (SL.asg (.r rfl) rfl (SL.nx (SX.ret (SQ.thnR ?_))))
  exact SQ.fret (res1 rfl rfl) (ret_of (M:=[]) ⟨rfl,rfl⟩ fun _ hw=>HpOk.pick (H:=[_,_]) hw [] 2 rfl)
  replace h:=cF hc1 h
  have hkk:t.kids.length=u.kids.length:=by
   simp only [Bool.or_eq_false_iff,Bool.not_eq_false',decide_eq_true_eq] at hc1
   omega
  clear hc1
  refine SX.skip (SQ.thn (SX.seq (SX.sr (SL.asg (.r rfl) rfl (SL.nx (SX.block ?_))))))
  refine SX.mono (SX.loop (α:=Nat) (fun x=>x≤t.kids.length∧sameKids (sameN n f) (t.kids.drop x) (u.kids.drop x)=some r) (fun x=>[(2,vP b2 0),(3,vP b3 0),(6,vI x)])
   (fun _=>own b3 (.cells #[vU32 u.cx,vU32 u.cy,vI u.lev,rv'.val,kv'.val] 57)::own b2 (.cells #[vU32 t.cx,vU32 t.cy,vI t.lev,rv.val,kv.val] 57)::H)
   (fun x=>t.kids.length-x) (fun i D hp=>?_) 0 ⟨Nat.zero_le _,h⟩) (by repeat' (first | exact trivial | refine And.intro rfl ?_))
  obtain ⟨hi,hp⟩:=hp
  refine SX.seq (SX.sr (SL.mv (.r rfl) rfl (SL.fa (.r rfl) rfl fo57_2 (SL.ld (.r rfl) sc55 rfl (cell_own 1 rfl rfl) (SL.lenND hk (.r rfl) ty55 rfl (SL.bin (.r rfl) rfl rfl Bin.ltI (SL.nx ?_)))))))
  refine SX.cond rfl (fun hc2=>?_) (fun hc2=>?_)
  have hlt:i<t.kids.length:=by
   have:=of_decide_eq_true hc2
   omega
  have hlt':i<u.kids.length:=by omega
  clear hc2
  have hnth:nthI t.kids (i:Int)=some t.kids[i]:=by
   rw [nthI,if_pos (by omega)]
   exact List.getElem?_eq_getElem hlt
  have hnth':nthI u.kids (i:Int)=some u.kids[i]:=by
   rw [nthI,if_pos (by omega)]
   exact List.getElem?_eq_getElem hlt'
  rw [List.drop_eq_getElem_cons hlt,List.drop_eq_getElem_cons hlt',sameKids] at hp
  obtain ⟨z,hz,hp⟩:=bnd hp
  refine SX.skip (SQ.thn (SX.seq (SX.block (SX.seq (SX.drawI mix [1,0] (Pl.ap [(true,0),(true,1),(true,2),(true,3),(true,4),(true,5),(true,6),(true,7),(true,8),(true,9),(false,10)] (.last 11 .nil)) (by kernel_rfl) (SL.fa (.r rfl) rfl fo57_2 (SL.ld (.r rfl) sc55 rfl (cell_own 0 rfl rfl) (SL.mv (.r rfl) rfl ?_))))))))
  refine SL.iaND hnth hk (.r rfl) ty55 sz57 rfl rfl fun b5 of5 rv5 kv5 hr5 hk5 hc5=>?_
  obtain ⟨rs5,rfl⟩:=hr5.slv
  obtain ⟨kk5,hk51,hk52⟩:=hk5
  obtain ⟨ks5,rfl⟩:=hk51.slv
  have hN5:NodeOf K w0 ⟨t.kids[i].cx,t.kids[i].cy,t.kids[i].lev,rs5,ks5⟩ t.kids[i]:=NodeOf.of hr5 ⟨kk5,hk51,hk52⟩
  refine SL.ldA [vU32 t.kids[i].cx,vU32 t.kids[i].cy,vI t.kids[i].lev,rs5.val,ks5.val] (.r rfl) ag57 rfl rfl (cells_kept hc5) (SL.fa (.r rfl) rfl fo57_2 (SL.ld (.r rfl) sc55 rfl (cell_own 1 rfl rfl) (SL.mv (.r rfl) rfl ?_)))
  refine SL.iaND hnth' hk' (.r rfl) ty55 sz57 rfl rfl fun b6 of6 rv6 kv6 hr6 hk6 hc6=>?_
  obtain ⟨rs6,rfl⟩:=hr6.slv
  obtain ⟨kk6,hk61,hk62⟩:=hk6
  obtain ⟨ks6,rfl⟩:=hk61.slv
  have hN6:NodeOf K w0 ⟨u.kids[i].cx,u.kids[i].cy,u.kids[i].lev,rs6,ks6⟩ u.kids[i]:=NodeOf.of hr6 ⟨kk6,hk61,hk62⟩
  refine SL.ldA [vU32 u.kids[i].cx,vU32 u.kids[i].cy,vI u.kids[i].lev,rs6.val,ks6.val] (.r rfl) ag57 rfl rfl (cells_kept hc6) ?_
  refine SL.call (vs:=[_,_]) (Hin:=[]) (Hr:=_::_::_) (.r rfl) rfl ⟨rfl,rfl,trivial⟩ cal27 rfl rfl (c_sameN n f hz hN5 hN6 :) ?_
  rintro _ _ ⟨rfl,rfl⟩
  refine ⟨⟨⟨1,rfl⟩,⟨0,rfl⟩,trivial⟩,?_⟩
  refine SL.last (SL.not (.r rfl) rfl (SL.nx ?_))
  refine SX.cond rfl (fun hc7=>?_) (fun hc7=>?_)
  replace hp:=cT hc7 hp
  obtain rfl:=Option.some.inj hp
  refine SX.sr (SL.asg (.r rfl) rfl (SL.nx (SX.ret (SQ.blkR (SQ.thnR (SQ.lpR (SQ.blkR (SQ.thnR ?_))))))))
  exact SQ.fret (res1 rfl rfl) (ret_of (M:=[]) ⟨rfl,rfl⟩ fun _ hw=>HpOk.pick (H:=[_,_]) hw [] 2 rfl)
  replace hp:=cF hc7 hp
  refine SX.skip (SQ.blk (SQ.thn (SX.region (SL.mv (.r rfl) rfl (SL.bin (.r rfl) rfl rfl (Bin.addI (by omega) (by omega)) (SL.asg (.r rfl) rfl (SL.nil ?_)))))))
  exact SQ.again (i+1) ⟨hlt,hp⟩ (by omega) (by repeat' (first | exact trivial | refine And.intro rfl ?_)) (fun _ h=>h)
  have hge:i=t.kids.length:=by
   have:=of_decide_eq_false hc2
   omega
  subst hge
  rw [List.drop_length] at hp
  obtain rfl:=Option.some.inj (show some true=some r from hp)
  refine SX.exit (SQ.thnE (SQ.lpE (SQ.blkE (SQ.thn (SX.sr (SL.asg (.r rfl) rfl (SL.nx (SX.ret ?_))))))))
  exact SQ.fret (res1 rfl rfl) (ret_of (M:=[]) ⟨rfl,rfl⟩ fun _ hw=>HpOk.pick (H:=[_,_]) hw [] 2 rfl)
def nodesK (rec_:NodeP→Option Int):List NodeP→Int→Option Int
 | [],acc=>some acc
 | a::ar,acc=>(rec_ a).bind fun z=>nodesK rec_ ar (wI (acc+z))
def nodesN:Nat→NodeP→Option Int
 | 0,_=>none
 | f+1,t=>if 1048576<t.kids.length∨1048576<t.rows.length then none else
   nodesK (nodesN f) t.kids (bif decide (4<(t.rows.length:Int)) then ((t.rows.length:Int)+3) / 4 else 1)
set_option maxHeartbeats 8000000 in
set_option maxRecDepth 100000 in
theorem c_nodesN:∀(f:Nat) {K:Nat→Prop} {w0:World} {H:List Chunk} {a:NodeV} {t:NodeP} {r:Int},nodesN f t=some r→NodeOf K w0 a t→
  Con Tryz.prog K w0 28 [.agg (encNode a).toArray] [] H (fun x M=>x=vI r∧M=[])
 | 0,K,w0,H,a,t,r,h,_=>by cases h
 | f+1,K,w0,H,a,t,r,h,hA=>by
  have h:(if 1048576<t.kids.length∨1048576<t.rows.length then none else
   nodesK (nodesN f) t.kids (bif decide (4<(t.rows.length:Int)) then ((t.rows.length:Int)+3) / 4 else 1))=some r:=h
  split at h
  cases h
  rename_i hbig
  have hkl:t.kids.length≤1048576:=by omega
  have hrl:t.rows.length≤1048576:=by omega
  clear hbig
  obtain ⟨rv,kv,rfl,hr,hk⟩:=hA.parts
  refine Con.enter Tryz.func28 rfl rfl ?_
  refine SX.sr ?_
  refine SL.box (.r rfl) rfl (fun _=>trivial) fun b1=>?_
  refine SL.asg (.r rfl) rfl (SL.nx (SX.sr (SL.asg (.r rfl) rfl (SL.nx ?_))))
  refine SX.meetD (α:=Int) (fun x=>nodesK (nodesN f) t.kids x=some r) (fun x=>[(1,vP b1 0),(3,vI x)]) (fun _=>own b1 (.cells #[vU32 t.cx,vU32 t.cy,vI t.lev,rv.val,kv.val] 57)::H) ?_ (fun o D h=>?_)
  refine SX.sr (SL.fa (.r rfl) rfl fo57_1 (SL.ld (.r rfl) sc35 rfl (cell_own 0 rfl rfl) (SL.lenV hr (.r rfl) ty35 rfl (SL.bin (.r rfl) rfl rfl Bin.gtI (SL.nx ?_)))))
  refine SX.cond rfl (fun hc1=>?_) (fun hc1=>?_)
  rw [hc1,cond_true] at h
  refine SX.region (SL.fa (.r rfl) rfl fo57_1 (SL.ld (.r rfl) sc35 rfl (cell_own 0 rfl rfl) (SL.lenV hr (.r rfl) ty35 rfl (SL.bin (.r rfl) rfl rfl (Bin.addI (by omega) (by omega)) (SL.bin (.r rfl) rfl rfl (Bin.divI (by omega) (by omega) (by omega)) (SL.asg (.r rfl) rfl (SL.nil ?_)))))))
  exact SQ.midD _ h (by repeat' (first | exact trivial | refine And.intro rfl ?_)) (fun _ h=>h)
  rw [hc1,cond_false] at h
  refine SX.skip ?_
  exact SQ.midD _ h (by repeat' (first | exact trivial | refine And.intro rfl ?_)) (fun _ h=>h)
  refine SX.seq (SX.sr (SL.asg (.r rfl) rfl (SL.nx (SX.block ?_))))
  refine SX.mono (SX.loop (α:=Nat×Int) (fun x=>x.1≤t.kids.length∧nodesK (nodesN f) (t.kids.drop x.1) x.2=some r) (fun x=>[(1,vP b1 0),(3,vI x.2),(4,vI x.1)])
   (fun _=>own b1 (.cells #[vU32 t.cx,vU32 t.cy,vI t.lev,rv.val,kv.val] 57)::H)
   (fun x=>t.kids.length-x.1) (fun x D hp=>?_) (0,o) ⟨Nat.zero_le _,h⟩) (by repeat' (first | exact trivial | refine And.intro rfl ?_))
  obtain ⟨i,o1⟩:=x
  obtain ⟨hi,hp⟩:=hp
  dsimp only at hi hp ⊢
  refine SX.seq (SX.sr (SL.mv (.r rfl) rfl (SL.fa (.r rfl) rfl fo57_2 (SL.ld (.r rfl) sc55 rfl (cell_own 0 rfl rfl) (SL.lenND hk (.r rfl) ty55 rfl (SL.bin (.r rfl) rfl rfl Bin.ltI (SL.nx ?_)))))))
  refine SX.cond rfl (fun hc2=>?_) (fun hc2=>?_)
  have hlt:i<t.kids.length:=by
   have:=of_decide_eq_true hc2
   omega
  clear hc2
  have hnth:nthI t.kids (i:Int)=some t.kids[i]:=by
   rw [nthI,if_pos (by omega)]
   exact List.getElem?_eq_getElem hlt
  rw [List.drop_eq_getElem_cons hlt,nodesK] at hp
  obtain ⟨z,hz,hp⟩:=bnd hp
  refine SX.skip (SQ.thn (SX.seq (SX.block (SX.region (SL.mv (.r rfl) rfl (SL.fa (.r rfl) rfl fo57_2 (SL.ld (.r rfl) sc55 rfl (cell_own 0 rfl rfl) (SL.mv (.r rfl) rfl ?_))))))))
  refine SL.iaND hnth hk (.r rfl) ty55 sz57 rfl rfl fun b5 of5 rv5 kv5 hr5 hk5 hc5=>?_
  obtain ⟨rs5,rfl⟩:=hr5.slv
  obtain ⟨kk5,hk51,hk52⟩:=hk5
  obtain ⟨ks5,rfl⟩:=hk51.slv
  have hN5:NodeOf K w0 ⟨t.kids[i].cx,t.kids[i].cy,t.kids[i].lev,rs5,ks5⟩ t.kids[i]:=NodeOf.of hr5 ⟨kk5,hk51,hk52⟩
  refine SL.ldA [vU32 t.kids[i].cx,vU32 t.kids[i].cy,vI t.kids[i].lev,rs5.val,ks5.val] (.r rfl) ag57 rfl rfl (cells_kept hc5) ?_
  refine SL.call (vs:=[_]) (Hin:=[]) (Hr:=_::_) (.r rfl) rfl ⟨rfl,trivial⟩ cal28 rfl rfl (c_nodesN f hz hN5 :) ?_
  rintro _ _ ⟨rfl,rfl⟩
  refine ⟨trivial,?_⟩
  refine SL.bin (.r rfl) rfl rfl Bin.addW (SL.asg (.r rfl) rfl (SL.nil (SQ.blk (SQ.thn (SX.region (SL.mv (.r rfl) rfl (SL.bin (.r rfl) rfl rfl (Bin.addI (by omega) (by omega)) (SL.asg (.r rfl) rfl (SL.nil ?_)))))))))
  exact SQ.again (i+1,_) ⟨hlt,hp⟩ (by dsimp only;omega) (by repeat' (first | exact trivial | refine And.intro rfl ?_)) (fun _ h=>h)
  have hge:i=t.kids.length:=by
   have:=of_decide_eq_false hc2
   omega
  subst hge
  rw [List.drop_length] at hp
  obtain rfl:=Option.some.inj (show some o1=some r from hp)
  refine SX.exit (SQ.thnE (SQ.lpE (SQ.blkE (SQ.thn (SX.sr (SL.mv (.r rfl) rfl (SL.asg (.r rfl) rfl (SL.nx (SX.ret ?_)))))))))
  exact SQ.fret (res1 rfl rfl) (ret_of (M:=[]) ⟨rfl,rfl⟩ fun _ hw=>HpOk.pick (H:=[_]) hw [] 1 rfl)
end Go.Proofs.YtkibffdipniemaaGreatDoor

/- law14.GroveFew, walked. Condition: what its calls give is known. -/
namespace Go.Proofs.YtkibffdipniemaaGreatDoor
open Go
variable {K:Nat→Prop} {w0:World} {H:List Chunk}

theorem Bin.eqTT {k:IntKind} {a b:Int} (h:a=b):Bin .eql (.int k a) (.int k b) (.bool true):=by
 have := @Bin.eqI k a b
 rwa [decide_eq_true h] at this
theorem Bin.eqT64 {a b:UInt64} (h:a=b):Bin .eql (vU64 a) (vU64 b) (.bool true):=by
 have := @Bin.eq64 a b
 rwa [decide_eq_true h] at this
def FewOk (n:Nat) (T:List UInt32) (p0:List RowA):Prop:=∃(l:List RowA) (d:VltA×DevA×RVltA×RDevA) (b:NodeP×Int) (s:List SavedA×Int×VltA×DevA),
 f_law14_shown n T=some true∧f_law14_few p0=some l∧f_law14_made n 60=some (some d,true)∧buildF n l=some b∧saveF n T d.1 d.2.1 l []=some s∧
 ((b.2≠0∧s.2.1=b.2)∨(b.2=0∧s.2.1=0∧∃t9,build09 n l=some (t9,0)∧sameN n n t9 b.1=some true∧nodesN n t9=some (s.1.length:Int)∧
  f_vv_Free s.2.2.1 s.2.2.2=some (wI (58-(s.1.length:Int)))∧f_vv_Seals s.2.2.1 s.2.2.2=some (toU64 (s.1.length:Int))))
set_option maxHeartbeats 8000000 in
set_option maxRecDepth 100000 in
theorem c_lGW {n:Nat} {T:List UInt32} {v0_:Value} {p0:List RowA} (h:FewOk n T p0) (hS:ShaT K w0 T) (hs0_:SlOf K w0 encRow 4 v0_ p0):Con Tryz.prog K w0 8 [v0_] [] H (fun u M=>u=vB true∧M=[]):=by
 obtain ⟨l,d,b,s,e1,e2,e3,e4,e5,h⟩:=h
 refine Con.enter Tryz.func8 rfl rfl ?_
 refine SX.sr (SL.asg (.r rfl) rfl (SL.nx (SX.sr ?_)))
 refine SL.call (vs:=[]) (Hin:=[]) (Hr:=_) (.r rfl) rfl trivial cal11 rfl rfl (c_law14_shown e1 hS) ?_
 rintro _ _ ⟨rfl,rfl⟩
 refine ⟨trivial,?_⟩
 refine SL.asg (.r rfl) rfl (SL.nx (SX.sr (SL.mv (.r rfl) rfl ?_)))
 refine SL.call (vs:=[_]) (Hin:=[]) (Hr:=_) (.r rfl) rfl ⟨rfl,trivial⟩ cal20 rfl rfl (c_law14_few e2 hs0_) ?_
 rintro v8 _ ⟨_,rfl,hs1,rfl⟩
 refine ⟨trivial,?_⟩
 refine SL.asg (.r rfl) rfl (SL.nx (SX.sr ?_))
 refine SL.call (vs:=[_]) (Hin:=[]) (Hr:=_) (.r rfl) rfl ⟨rfl,trivial⟩ cal12 rfl rfl (c_law14_made e3) ?_
 rintro _ _ (⟨hn,-,-⟩ | ⟨d_,b1,v1,m1,b2,v2,m2,m3,b3,v3,v4,b4,v5,v6,v7,hn,rfl,rfl⟩)
 cases hn
 obtain rfl:d=d_:=Option.some.inj hn
 refine ⟨trivial,?_⟩
 refine SL.mv (.r rfl) rfl (SL.ext (.r rfl) rfl rfl (SL.ext (.r rfl) rfl rfl (SL.ext (.r rfl) rfl rfl (SL.ext (.r rfl) rfl rfl (SL.asg (.r rfl) rfl (SL.asg (.r rfl) rfl (SL.asg (.r rfl) rfl ?_)))))))
 refine SL.asg (.r rfl) rfl (SL.nx (SX.sr (SL.mv (.r rfl) rfl ?_)))
 refine SL.call (vs:=[_]) (Hin:=[]) (Hr:=_::_::_::_::_::_::_::_::_::_::_::_::_::_::_) (.r rfl) rfl ⟨rfl,trivial⟩ cal25 rfl rfl (w_build e4 hs1) ?_
 rintro _ _ ⟨nv,L,rfl,hnz,rfl⟩
 refine ⟨trivial,?_⟩
 refine SL.mv (.r rfl) rfl (SL.ext (.r rfl) rfl rfl (SL.ext (.r rfl) rfl rfl ?_))
 refine SL.alloc (.r rfl) ze57 (fun _=>trivial) fun b8=>?_
 refine SL.st 0 ⟨rfl,rfl,rfl⟩ rfl rfl rfl sz57 rfl (List.all_eq_true.2 (oneNode nv)) rfl trivial (SL.asg (.r rfl) rfl (SL.nx (SX.sr (SL.mv (.r rfl) rfl (SL.mv (.r rfl) rfl (SL.pick [2,3,4,5,6,7,8,9,10,11,12,13,14,15,0,1] 16 ?_))))))
 refine SL.call (vs:=[_,_,_]) (Hin:=[_,_,_,_,_,_,_]) (Hr:=_::_::_::_::_::_::_::_::_::_) (.r rfl) rfl ⟨rfl,rfl,rfl,trivial⟩ cal19 rfl rfl (w_save e5 hS hs1 (SlOf.nil (fun _=>rfl))) ?_
 rintro _ _ ⟨v9,rfl,rfl⟩
 refine ⟨trivial,?_⟩
 refine SL.mv (.r rfl) rfl (SL.ext (.r rfl) rfl rfl (SL.ext (.r rfl) rfl rfl (SL.asg (.r rfl) rfl (SL.asg (.r rfl) rfl (SL.nx (SX.seq (SX.sr (SL.mv (.r rfl) rfl (SL.bin (.r rfl) rfl rfl Bin.neI (SL.nx ?_))))))))))
 refine SX.cond rfl (fun hc2=>?_) (fun hc2=>?_)
 rcases h with ⟨_,h2⟩ | ⟨h1,_⟩
 case inr=>rw [h1] at hc2;cases hc2
 refine SX.sr (SL.mv (.r rfl) rfl (SL.mv (.r rfl) rfl (SL.mv (.r rfl) rfl (SL.mv (.r rfl) rfl (SL.bin (.r rfl) rfl rfl (Bin.eqTT h2) (SL.pk (.r rfl) rfl rfl (SL.asg (.r rfl) rfl (SL.nx (SX.ret (SQ.thnR ?_))))))))))
 exact SQ.fret (res1 rfl rfl) (ret_of (M:=[]) ⟨rfl,rfl⟩ fun _ hw=>HpOk.pick (H:=[_,_,_,_,_,_,_,_,_,_,_,_,_,_,_,_,_]) hw [] 17 rfl)
 rcases h with ⟨h1,_⟩ | ⟨_,h2,t9,g1,g2,g3,g4,g5⟩
 case inl=>exact absurd (of_decide_eq_true (show decide (b.2=0)=true by simpa using hc2)) h1
 refine SX.skip (SQ.thn (SX.sr (SL.mv (.r rfl) rfl ?_)))
 refine SL.call (vs:=[_]) (Hin:=[]) (Hr:=_::_::_::_::_::_::_::_::_::_::_::_::_::_::_::_::_::_) (.r rfl) rfl ⟨rfl,trivial⟩ cal26 rfl rfl (w_build09 g1 hs1) ?_
 rintro _ _ ⟨n9,L9,rfl,hnz9,rfl⟩
 refine ⟨trivial,?_⟩
 refine SL.mv (.r rfl) rfl (SL.ext (.r rfl) rfl rfl (SL.ext (.r rfl) rfl rfl ?_))
 refine SL.alloc (.r rfl) ze57 (fun _=>trivial) fun b9=>?_
 refine SL.st 0 ⟨rfl,rfl,rfl⟩ rfl rfl rfl sz57 rfl (List.all_eq_true.2 (oneNode n9)) rfl trivial (SL.asg (.r rfl) rfl (SL.nx (SX.sr (SL.mv (.r rfl) rfl (SL.mv (.r rfl) rfl (SL.mv (.r rfl) rfl (SL.pk (.r rfl) rfl rfl (SL.mv (.r rfl) rfl (SL.mv (.r rfl) rfl ?_)))))))))
 refine SL.bin (.r rfl) rfl rfl (Bin.eqTT h2) (SL.pk (.r rfl) rfl rfl (SL.mv (.r rfl) rfl (SL.mv (.r rfl) rfl (SL.bin (.r rfl) rfl rfl (Bin.eqTT rfl) (SL.pk (.r rfl) rfl rfl (SL.mv (.r rfl) rfl (SL.ldA (encNode n9) (.r rfl) ag57 rfl rfl (cells_all 0 rfl) ?_)))))))
 refine SL.ldA (encNode nv) (.r rfl) ag57 rfl rfl (cells_all 17 rfl) (SL.pick [1,18,0,2,3,4,5,6,7,8,9,10,11,12,13,14,15,16,17] 19 ?_)
 refine SL.call (vs:=[_,_]) (Hin:=[_,_]) (Hr:=_::_::_::_::_::_::_::_::_::_::_::_::_::_::_::_::_::_) (.r rfl) rfl ⟨rfl,rfl,trivial⟩ cal27 rfl rfl (Con.lend (B:=[_,_]) (Hin:=[]) fun K' w1 hk hB=>c_sameN n n g2 (hnz9.lent (hB _ (by simp))) (hnz.lent (hB _ (by simp)))) ?_
 rintro _ _ ⟨_,rfl,rfl,rfl⟩
 refine ⟨trivial,?_⟩
 refine SL.pk (.r rfl) rfl rfl (SL.mv (.r rfl) rfl (SL.mv (.r rfl) rfl (SL.lenT 3 (.r rfl) ty36 rfl rfl (SL.ldA (encNode n9) (.r rfl) ag57 rfl rfl (cells_all 2 rfl) ?_))))
 refine SL.call (vs:=[_]) (Hin:=[_]) (Hr:=_::_::_::_::_::_::_::_::_::_::_::_::_::_::_::_::_::_::_) (.r rfl) rfl ⟨rfl,trivial⟩ cal28 rfl rfl (Con.lend (B:=[_]) (Hin:=[]) fun K' w1 hk hB=>c_nodesN n g3 (hnz9.lent (hB _ (by simp)))) ?_
 rintro _ _ ⟨_,rfl,rfl,rfl⟩
 refine ⟨trivial,?_⟩
 refine SL.bin (.r rfl) rfl rfl (Bin.eqTT rfl) (SL.pk (.r rfl) rfl rfl (SL.mv (.r rfl) rfl (SL.mv (.r rfl) rfl (SL.pick [4,5,6,7,8,9,10,0,1,2,3,11,12,13,14,15,16,17,18] 19 ?_))))
 refine SL.call (vs:=[_]) (Hin:=[_,_,_,_,_,_,_]) (Hr:=_::_::_::_::_::_::_::_::_::_::_::_::_) (.r rfl) rfl ⟨rfl,trivial⟩ cal24 rfl rfl (c_vv_Free g4) ?_
 rintro _ _ ⟨rfl,rfl⟩
 refine ⟨trivial,?_⟩
 refine SL.mv (.r rfl) rfl (SL.lenT 10 (.r rfl) ty36 rfl rfl (SL.bin (.r rfl) rfl rfl Bin.subW (SL.bin (.r rfl) rfl rfl (Bin.eqTT rfl) (SL.pk (.r rfl) rfl rfl (SL.mv (.r rfl) rfl (SL.mv (.r rfl) rfl ?_))))))
 refine SL.call (vs:=[_]) (Hin:=[_,_,_,_,_,_,_]) (Hr:=_::_::_::_::_::_::_::_::_::_::_::_::_) (.r rfl) rfl ⟨rfl,trivial⟩ cal23 rfl rfl (c_vv_Seals g5) ?_
 rintro _ _ ⟨rfl,rfl⟩
 refine ⟨trivial,?_⟩
 refine SL.mv (.r rfl) rfl (SL.lenT 10 (.r rfl) ty36 rfl rfl (SL.cv (.r rfl) rfl (Cv.i_64 ty3 ty48) (SL.bin (.r rfl) rfl rfl (Bin.eqT64 rfl) (SL.pk (.r rfl) rfl rfl (SL.asg (.r rfl) rfl (SL.nx (SX.ret ?_)))))))
 exact SQ.fret (res1 rfl rfl) (ret_of (M:=[]) ⟨rfl,rfl⟩ fun _ hw=>HpOk.pick (H:=[_,_,_,_,_,_,_,_,_,_,_,_,_,_,_,_,_,_,_]) hw [] 19 rfl)
end Go.Proofs.YtkibffdipniemaaGreatDoor

/- Plain laws of the answer's cells: sphragisref08.Has, Quarter, sphragisref09.around. No program's walk in sight. Condition: as each says. -/
namespace Go.Proofs.YtkibffdipniemaaGreatDoor
open Go

theorem size08 {c:CellA} {L:Nat} (h:c.lev=(L:Int)) (hL:L≤31):f_ref08_Size c=some (shl64 1 L):=by
 unfold f_ref08_Size
 rw [h,toU64_nat (by omega),ret_eq]
theorem rem08 {x:UInt32} {L:Nat} (hL:L≤31):rem64 x.toUInt64 (shl64 1 L)=some (x.toUInt64%shl64 1 L):=by
 unfold rem64
 rw [if_neg]
 intro e
 have h1:=congrArg UInt64.toNat e
 rw [shl64_one hL] at h1
 have:=Nat.two_pow_pos L
 have h2:(0:UInt64).toNat=0:=rfl
 omega
theorem right08 {c:CellA} {L:Nat} (h:c.lev=(L:Int)) (hL:L≤31) (hx:c.x.toNat%2^L=0) (hy:c.y.toNat%2^L=0) (lx:c.x.toNat<2147483648) (ly:c.y.toNat<2147483648):f_ref08_Right c=some true:=by
 unfold f_ref08_Right
 have a:∀x:UInt32,x.toNat<2147483648→decide ((2147483648:UInt32)≤x)=false:=fun x hx=>by
  refine decide_eq_false fun e=>?_
  have h1:=UInt32.le_iff_toNat_le.1 e
  have h5:(2147483648:UInt32).toNat=2147483648:=rfl
  omega
 rw [a _ lx,a _ ly,h,decide_eq_false (show ¬(L:Int)<0 by omega),decide_eq_false (show ¬31<(L:Int) by omega)]
 simp only [Bool.or_false,cond_false]
 have z:∀x:UInt32,x.toNat%2^L=0→decide (x.toUInt64%shl64 1 L=0)=true:=fun x hx=>by
  rw [decide_eq_true_eq,←UInt64.toNat_inj,UInt64.toNat_mod,UInt32.toNat_toUInt64,shl64_one hL,hx]
  rfl
 rw [size08 h hL,some_bind,rem08 hL,some_bind,z _ hx]
 unfold andO
 rw [cond_true,some_bind,rem08 hL,some_bind,z _ hy]
 rfl
def inB (c:CellA) (L:Nat) (x y:UInt32):Bool:=decide (x.toNat / 2^L=c.x.toNat / 2^L)&&decide (y.toNat / 2^L=c.y.toNat / 2^L)
theorem has08 {q:CellA} {M:Nat} (x y:UInt32) (h:q.lev=(M:Int)) (hM:M≤31) (hx:q.x.toNat%2^M=0) (hy:q.y.toNat%2^M=0) (lx:q.x.toNat<2147483648) (ly:q.y.toNat<2147483648):
  f_ref08_Has q x y=some (inB q M x y):=by
 have hp:=Nat.two_pow_pos M
 unfold f_ref08_Has inB
 rw [right08 h hM hx hy lx ly,some_bind,size08 h hM,some_bind,some_bind]
 have key:∀a b:UInt32,b.toNat%2^M=0→b.toNat<2147483648→decide (a.toNat / 2^M=b.toNat / 2^M)=(decide (b≤a)&&decide (a.toUInt64<b.toUInt64+shl64 1 M)):=by
  intro a b hb lb
  have e:(b.toUInt64+shl64 1 M).toNat=b.toNat+2^M:=by
   have h1:=shl64_one hM
   have h2:2^M≤2^31:=Nat.pow_le_pow_right (by decide) hM
   rw [UInt64.toNat_add,UInt32.toNat_toUInt64,h1]
   omega
  rw [Bool.eq_iff_iff]
  simp only [Bool.and_eq_true,decide_eq_true_eq,UInt32.le_iff_toNat_le,UInt64.lt_iff_toNat_lt,←in_cell hp hb,e,UInt32.toNat_toUInt64]
  omega
 rw [key x q.x hx lx,key y q.y hy ly]
 generalize decide (q.x≤x)=A
 generalize decide (q.y≤y)=B
 generalize decide (x.toUInt64<q.x.toUInt64+shl64 1 M)=C
 generalize decide (y.toUInt64<q.y.toUInt64+shl64 1 M)=D
 cases A<;>cases B<;>cases C<;>cases D<;>rfl
theorem quarter08 {c:CellA} {l:List RowA} {L:Nat} (A:AR c l L) (h0:0<L) {i:Nat} (hi:i<4):∃q,f_ref08_Quarter c (i:Int)=some (q,0)∧∀r∈l,f_ref08_Has q r.x r.y=some (decide (qd L r=i)):=by
 have hL:=A.le
 have hp:=Nat.two_pow_pos (L-1)
 have mx:=mul_lim A.cx A.lx (pow_dvd31 hL)
 have my:=mul_lim A.cy A.ly (pow_dvd31 hL)
 have e2:2^L=2^(L-1)*2:=by rw [←Nat.pow_succ,Nat.succ_eq_add_one,Nat.sub_add_cancel h0]
 have hh:(shl64 1 L / 2).toUInt32.toNat=2^(L-1):=by
  rw [UInt64.toNat_toUInt32,UInt64.toNat_div,shl64_one hL,show (2:UInt64).toNat=2 from rfl,e2,Nat.mul_div_cancel _ (by decide)]
  show _%4294967296=_
  have:2^(L-1)≤2^31:=Nat.pow_le_pow_right (by decide) (by omega)
  exact Nat.mod_eq_of_lt (by omega)
 have half:∀a:Nat,a%2^L=0→a%2^(L-1)=0∧a / 2^(L-1)%2=0:=by
  intro a ha
  rw [e2] at ha
  constructor
  rw [←Nat.mod_mul_right_mod a (2^(L-1)) 2,ha]
  simp
  rw [Nat.mod_mul] at ha
  have h5:2^(L-1)*(a / 2^(L-1)%2)=0:=by omega
  rcases Nat.mul_eq_zero.1 h5 with h6 | h6
  omega
  exact h6
 obtain ⟨hx2,cxe⟩:=half _ A.cx
 obtain ⟨hy2,cye⟩:=half _ A.cy
 have gx:=div_half (a:=c.x.toNat) h0
 have gy:=div_half (a:=c.y.toNat) h0
 generalize hhd:(shl64 1 L / 2).toUInt32=hf at hh
 have hlev:wI (c.lev-1)=((L-1:Nat):Int):=by rw [A.lev,wI_eq (by omega) (by omega)];omega
 have mv:∀(a:UInt32) (b:Nat),b≤1→a.toNat+2^L≤2147483648→(a+hf*toU32 (b:Int)).toNat=a.toNat+b*2^(L-1):=by
  intro a b hb ha
  rw [e2] at ha
  rcases (show b=0∨b=1 by omega) with rfl | rfl
  rw [show toU32 ((0:Nat):Int)=0 from rfl]
  simp
  rw [show toU32 ((1:Nat):Int)=1 from rfl,UInt32.mul_one,UInt32.toNat_add,hh]
  omega
 have fin:∀bx by_:Nat,bx≤1→by_≤1→∀r∈l,f_ref08_Has ⟨c.x+hf*toU32 (bx:Int),c.y+hf*toU32 (by_:Int),wI (c.lev-1)⟩ r.x r.y=some (decide (qd L r=bx+2*by_)):=by
  intro bx by_ hbx hby r hr
  obtain ⟨i1,i2⟩:=A.inn r hr
  have rx:=div_half (a:=r.x.toNat) h0
  have ry:=div_half (a:=r.y.toNat) h0
  have e1:=mv c.x bx hbx mx
  have e3:=mv c.y by_ hby my
  generalize c.x+hf*toU32 (bx:Int)=qx at e1 ⊢
  generalize c.y+hf*toU32 (by_:Int)=qy at e3 ⊢
  have bxl:bx*2^(L-1)≤2^(L-1):=by
   calc bx*2^(L-1)≤1*2^(L-1):=Nat.mul_le_mul_right _ hbx
    _=2^(L-1):=Nat.one_mul _
  have byl:by_*2^(L-1)≤2^(L-1):=by
   calc by_*2^(L-1)≤1*2^(L-1):=Nat.mul_le_mul_right _ hby
    _=2^(L-1):=Nat.one_mul _
  rw [has08 (M:=L-1) r.x r.y (show wI (c.lev-1)=_ from hlev) (by omega) (show qx.toNat%_=0 by rw [e1,Nat.add_mul_mod_self_right];exact hx2) (show qy.toNat%_=0 by rw [e3,Nat.add_mul_mod_self_right];exact hy2) (show qx.toNat<_ by rw [e1];omega) (show qy.toNat<_ by rw [e3];omega)]
  have f1:qx.toNat / 2^(L-1)=c.x.toNat / 2^(L-1)+bx:=by rw [e1];exact Nat.add_mul_div_right _ _ hp
  have f2:qy.toNat / 2^(L-1)=c.y.toNat / 2^(L-1)+by_:=by rw [e3];exact Nat.add_mul_div_right _ _ hp
  congr 1
  unfold inB qd
  rw [Bool.eq_iff_iff]
  simp only [Bool.and_eq_true,decide_eq_true_eq,f1,f2]
  omega
 have run:∀bx by_:Nat,remI (i:Int) 2=some (bx:Int)→quoI (i:Int) 2=some (by_:Int)→f_ref08_Quarter c (i:Int)=some (⟨c.x+hf*toU32 (bx:Int),c.y+hf*toU32 (by_:Int),wI (c.lev-1)⟩,0):=by
  intro bx by_ h1 h2
  unfold f_ref08_Quarter
  rw [right08 A.lev A.le A.cx A.cy A.lx A.ly,some_bind,show (((!true||decide (c.lev=0))||decide ((i:Int)<0))||decide (3<(i:Int)))=false by rw [A.lev];simp;omega,cond_false,size08 A.lev hL,some_bind]
  unfold quo64
  rw [if_neg (by decide),some_bind,h1,some_bind,h2,some_bind,hhd]
 rcases (show i=0∨i=1∨i=2∨i=3 by omega) with rfl | rfl | rfl | rfl
 exact ⟨_,run 0 0 rfl rfl,fin 0 0 (by omega) (by omega)⟩
 exact ⟨_,run 1 0 rfl rfl,fin 1 0 (by omega) (by omega)⟩
 exact ⟨_,run 0 1 rfl rfl,fin 0 1 (by omega) (by omega)⟩
 exact ⟨_,run 1 1 rfl rfl,fin 1 1 (by omega) (by omega)⟩
/-! ### The least cell -/
structure IC (c:CellA) (l:List RowA) (L:Nat):Prop where
 lev:c.lev=(L:Int)
 le:L≤31
 cx:c.x.toNat%2^L=0
 cy:c.y.toNat%2^L=0
 lx:c.x.toNat<2147483648
 ly:c.y.toNat<2147483648
 inn:∀r∈l,r.x.toNat / 2^L=c.x.toNat / 2^L∧r.y.toNat / 2^L=c.y.toNat / 2^L
theorem AR.ic {c:CellA} {l:List RowA} {L:Nat} (A:AR c l L):IC c l L:=⟨A.lev,A.le,A.cx,A.cy,A.lx,A.ly,A.inn⟩
theorem IC.has {c:CellA} {l:List RowA} {L:Nat} (I:IC c l L) (x y:UInt32):f_ref08_Has c x y=some (inB c L x y):=has08 x y I.lev I.le I.cx I.cy I.lx I.ly
theorem around09_in {S:List RowA} {far r0:RowA} (h0:r0∈S) (okf:rowOk far=true) (a1:Int) (nx:UInt32×UInt32×Int×Int→Option CellA):
  ∀(k m:Nat) (c:CellA) (L:Nat),31-L≤k→k<m→IC c S L→(0<L→(∃r∈S,∃s∈S,qd L r≠qd L s)∨¬(far.x.toNat / 2^(L-1)=r0.x.toNat / 2^(L-1)∧far.y.toNat / 2^(L-1)=r0.y.toNat / 2^(L-1)))→
   ∃c' L',AR c' (S++[far]) L'∧f_ref09_around_l2 a1 far nx m (c.x,c.y,(L:Int),inB c L far.x far.y)=f_ref09_around_j2 a1 nx c'.x c'.y c'.lev
 | _,0,_,_,_,h,_,_=>absurd h (Nat.not_lt_zero _)
 | k,m+1,c,L,hk,hm,I,ht=>by
  have e:f_ref09_around_l2 a1 far nx (m+1) (c.x,c.y,(L:Int),inB c L far.x far.y)=f_ref09_around_l2_b a1 far nx (f_ref09_around_l2 a1 far nx m) c.x c.y L (inB c L far.x far.y):=rfl
  rw [e]
  unfold f_ref09_around_l2_b
  obtain ⟨i1,i2⟩:=I.inn r0 h0
  cases hb:inB c L far.x far.y with
  | true=>
   unfold inB at hb
   simp only [Bool.and_eq_true,decide_eq_true_eq] at hb
   refine ⟨c,L,⟨I.lev,I.le,I.cx,I.cy,I.lx,I.ly,fun r hr=>?_,fun h=>?_⟩,?_⟩
   rcases List.mem_append.1 hr with hr | hr
   exact I.inn r hr
   rw [List.mem_singleton.1 hr]
   exact hb
   rcases ht h with ⟨r,hr,s,hs,hne⟩ | hne
   exact ⟨r,List.mem_append_left _ hr,s,List.mem_append_left _ hs,hne⟩
   refine ⟨r0,List.mem_append_left _ h0,far,by simp,fun e=>hne ?_⟩
   have g1:=div_half (a:=r0.x.toNat) h
   have g2:=div_half (a:=r0.y.toNat) h
   have g3:=div_half (a:=far.x.toNat) h
   have g4:=div_half (a:=far.y.toNat) h
   unfold qd at e
   omega
   rw [Bool.not_true,cond_false,I.lev]
  | false=>
   have hfar:=rowOk_lt okf
   have hL:L<31:=by
    rcases Nat.lt_or_ge L 31 with h | h
    exact h
    have:L=31:=by have:=I.le;omega
    subst this
    unfold inB at hb
    rw [Nat.div_eq_of_lt (show far.x.toNat<2^31 from hfar.1),Nat.div_eq_of_lt (show far.y.toNat<2^31 from hfar.2.1),Nat.div_eq_of_lt (show c.x.toNat<2^31 from I.lx),Nat.div_eq_of_lt (show c.y.toNat<2^31 from I.ly)] at hb
    simp at hb
   have hX:∀x:UInt32,(shl64 (shr64 x.toUInt64 (L+1)) (L+1)).toUInt32.toNat=x.toNat / 2^(L+1)*2^(L+1):=by
    intro x
    have hlt:=x.toNat_lt
    have h1:x.toNat / 2^(L+1)*2^(L+1)≤x.toNat:=Nat.div_mul_le_self _ _
    have h2:(shr64 x.toUInt64 (L+1)).toNat=x.toNat / 2^(L+1):=by
     unfold shr64
     rw [UInt64.toNat_ofNat',Nat.min_eq_left (by omega),UInt32.toNat_toUInt64]
     exact Nat.mod_eq_of_lt (Nat.lt_of_le_of_lt (Nat.div_le_self _ _) (by omega))
    rw [UInt64.toNat_toUInt32]
    unfold shl64
    rw [UInt64.toNat_ofNat',Nat.min_eq_left (by omega),h2]
    omega
   have hpp:=Nat.two_pow_pos (L+1)
   have up:∀a:Nat,a / 2^(L+1)=a / 2^L / 2:=fun a=>by rw [Nat.div_div_eq_div_mul,←Nat.pow_succ]
   have I':IC ⟨(shl64 (shr64 c.x.toUInt64 (L+1)) (L+1)).toUInt32,(shl64 (shr64 c.y.toUInt64 (L+1)) (L+1)).toUInt32,((L+1:Nat):Int)⟩ S (L+1):=by
    refine ⟨rfl,by omega,?_,?_,?_,?_,fun r hr=>?_⟩
    show (shl64 _ _).toUInt32.toNat%_=0
    rw [hX]
    exact Nat.mul_mod_left _ _
    show (shl64 _ _).toUInt32.toNat%_=0
    rw [hX]
    exact Nat.mul_mod_left _ _
    show (shl64 _ _).toUInt32.toNat<_
    rw [hX]
    exact Nat.lt_of_le_of_lt (Nat.div_mul_le_self _ _) I.lx
    show (shl64 _ _).toUInt32.toNat<_
    rw [hX]
    exact Nat.lt_of_le_of_lt (Nat.div_mul_le_self _ _) I.ly
    show _=(shl64 _ _).toUInt32.toNat / _∧_=(shl64 _ _).toUInt32.toNat / _
    rw [hX,hX,Nat.mul_div_cancel _ hpp,Nat.mul_div_cancel _ hpp,up,up,up,up,(I.inn r hr).1,(I.inn r hr).2]
    exact ⟨rfl,rfl⟩
   have hk1:31-(L+1)≤k-1:=by clear ht;omega
   have hk2:k-1<m:=by clear ht;omega
   obtain ⟨c',L',A,e2⟩:=around09_in h0 okf a1 nx (k-1) m _ (L+1) hk1 hk2 I' (fun _=>.inr (by
    rw [Nat.add_sub_cancel,i1,i2]
    intro hc
    unfold inB at hb
    rw [hc.1,hc.2] at hb
    simp at hb))
   refine ⟨c',L',A,?_⟩
   have hw:wI ((L:Int)+1)=((L+1:Nat):Int):=by rw [wI_eq (by omega) (by omega)];omega
   rw [Bool.not_false,cond_true,hw,toU64_nat (by omega),I'.has,some_bind]
   exact e2
theorem around09_spec {n:Nat} {l:List RowA} (hl:l≠[]) (hn:l.length<n) (hn2:40≤n) (hb:l.length≤1000000) (ok:∀r∈l,rowOk r=true):∃c L,f_ref09_around n l=some c∧AR c l L:=by
 have key:∀(T S:List RowA) (c:CellA) (L:Nat),l=S++T→S≠[]→AR c S L→∀m,T.length<m→∃c' L',f_ref09_around_l1 n l m (c.x,c.y,c.lev,(S.length:Int))=some c'∧AR c' l L':=by
  intro T
  induction T with
  | nil=>
   intro S c L hS hne A m hm
   obtain ⟨m,rfl⟩:∃k,m=k+1:=⟨m-1,by omega⟩
   simp only [List.append_nil] at hS
   subst hS
   refine ⟨c,L,?_,A⟩
   show f_ref09_around_l1_b n l (f_ref09_around_l1 n l m) _ _ _ _=_
   unfold f_ref09_around_l1_b
   dsimp only
   rw [decide_eq_false (by omega),cond_false]
   rfl
  | cons r T ih=>
   intro S c L hS hne A m hm
   obtain ⟨m,rfl⟩:∃k,m=k+1:=⟨m-1,by omega⟩
   have hlen:l.length=S.length+(T.length+1):=by rw [hS];simp
   have hr:r∈l:=by rw [hS];simp
   have n1:nthI l (S.length:Int)=some r:=by
    rw [nthI_of rfl,hS]
    simp
   obtain ⟨r0,hr0⟩:=List.exists_mem_of_ne_nil S hne
   have hA0:=A.two
   obtain ⟨c',L',A',e⟩:=around09_in hr0 (ok r hr) (S.length:Int) (f_ref09_around_l1 n l m) 31 n c L (by omega) (by omega) A.ic (fun h=>.inl (hA0 h))
   obtain ⟨c2,L2,h1,h2⟩:=ih (S++[r]) c' L' (by rw [hS];simp) (by simp) A' m (by simp at hm;omega)
   refine ⟨c2,L2,?_,h2⟩
   show f_ref09_around_l1_b n l (f_ref09_around_l1 n l m) _ _ _ _=_
   unfold f_ref09_around_l1_b
   dsimp only
   rw [decide_eq_true (by omega),cond_true,n1,some_bind,show (⟨c.x,c.y,c.lev⟩:CellA)=c from rfl,A.ic.has,some_bind,A.lev,e]
   unfold f_ref09_around_j2
   rw [ret_eq,wI_eq (by omega) (by omega)]
   rw [show ((S++[r]).length:Int)=(S.length:Int)+1 by simp only [List.length_append,List.length_singleton];omega] at h1
   exact h1
 obtain ⟨r0,l0,rfl⟩:∃r0 l0,l=r0::l0:=by
  cases l with
  | nil=>exact absurd rfl hl
  | cons r0 l0=>exact ⟨r0,l0,rfl⟩
 have h0:=rowOk_lt (ok r0 (by simp))
 obtain ⟨c,L,hc,hA⟩:=key l0 [r0] ⟨r0.x,r0.y,0⟩ 0 rfl (by simp) ⟨rfl,by omega,by simp [Nat.mod_one],by simp [Nat.mod_one],h0.1,h0.2.1,fun r hr=>by rw [List.mem_singleton.1 hr];exact ⟨rfl,rfl⟩,fun h=>absurd h (Nat.lt_irrefl _)⟩ n (by simp at hn;omega)
 refine ⟨c,L,?_,hA⟩
 unfold f_ref09_around
 have n0:nthI (r0::l0) 0=some r0:=rfl
 rw [n0,some_bind,some_bind]
 exact hc
end Go.Proofs.YtkibffdipniemaaGreatDoor

/- Plain laws of the answer's tree, and of GroveFew. No program's walk in sight. Condition: as each says. -/
namespace Go.Proofs.YtkibffdipniemaaGreatDoor
open Go

theorem part09_eq {q:CellA} {l:List RowA} {L i:Nat} (hq:∀r∈l,f_ref08_Has q r.x r.y=some (decide (qd L r=i))):∀(T acc:List RowA),(∀r∈T,r∈l)→acc.length+T.length≤100000→part09 q T acc=some (acc++T.filter fun r=>decide (qd L r=i))
 | [],acc,_,_=>by simp [part09]
 | r::T,acc,hT,hb=>by
  simp only [List.length_cons] at hb
  unfold part09
  rw [hq r (hT r (by simp)),some_bind]
  cases hd:decide (qd L r=i) with
  | false=>
   rw [cond_false,part09_eq hq T acc (fun s hs=>hT s (by simp [hs])) (by omega)]
   simp [hd]
  | true=>
   rw [cond_true,appL_eq (by simp;omega) (by simp;omega),some_bind,part09_eq hq T _ (fun s hs=>hT s (by simp [hs])) (by simp;omega)]
   simp [hd]
theorem kids09_eq {rec_:List RowA→Option NodeP} {c:CellA} {l:List RowA} {L:Nat} (A:AR c l L) (h0:0<L) (hb:l.length≤1000):∀(m i:Nat) (acc:List NodeP),i+m=4→
  kids09 rec_ c l m i acc=kidsFrom rec_ ((List.range' i m).map fun j=>l.filter fun r=>decide (qd L r=j)) acc
 | 0,_,_,_=>rfl
 | m+1,i,acc,h=>by
  obtain ⟨q,h1,h2⟩:=quarter08 A h0 (i:=i) (by omega)
  unfold kids09
  rw [h1,some_bind,part09_eq h2 l [] (fun r hr=>hr) (by simp;omega),some_bind,List.range'_succ,List.map_cons,List.nil_append]
  unfold kidsFrom
  simp only [kids09_eq A h0 hb m (i+1) _ (by omega)]
theorem tree09_eq {n:Nat} (hn2:40≤n):∀(f:Nat) (l:List RowA),l.length<f→(∀r∈l,rowOk r=true)→l.length≤1000→l.length<n→∃t,tree09 n f l=some t∧Tr f l t
 | 0,l,h,_,_,_=>by omega
 | f+1,l,h,ok,hb,hn=>by
  unfold tree09
  rw [if_neg (by omega)]
  by_cases hl:l=[]
  subst hl
  exact ⟨.mk 0 0 0 [] [],rfl,.inl ⟨rfl,rfl⟩⟩
  have hp:=List.length_pos_iff.2 hl
  obtain ⟨c,L,hc,A⟩:=around09_spec hl hn hn2 (by omega) ok
  rw [decide_eq_false (by omega),cond_false,hc,some_bind]
  by_cases hleaf:l.length≤4∨L=0
  rw [show (decide ((l.length:Int)≤4)||decide (c.lev=0))=true by rw [A.lev];simp;omega,cond_true]
  have hcap:capI 32 (l.length:Int)=some ():=by
   unfold capI
   rw [if_pos ⟨by omega,by omega,by omega⟩]
  rw [hcap,some_bind,appL_eq (by simp;omega) (by simp;omega),some_bind]
  exact ⟨_,rfl,.inr ⟨hl,c,L,A,.inl ⟨hleaf,rfl⟩⟩⟩
  have h0:0<L:=by omega
  rw [show (decide ((l.length:Int)≤4)||decide (c.lev=0))=false by rw [A.lev];simp;omega,cond_false,kids09_eq A h0 hb 4 0 [] rfl]
  obtain ⟨_,h2⟩:=qlist_two A h0
  obtain ⟨ks,h3,h4⟩:=kids_eq (rec_:=tree09 n f) (R:=Tr f) (qparts L l) [] (fun p hp' hne=>by
   have hq:p∈qlist L l:=List.mem_filter.2 ⟨hp',by simpa using hne⟩
   have:=h2 p hq
   exact tree09_eq hn2 f p (by omega) (fun r hr=>ok r ((qlist_sub hq).subset hr)) (by omega) (by omega)) (by simp [qparts])
  rw [show (List.range' 0 4).map (fun j=>l.filter fun r=>decide (qd L r=j))=qparts L l from rfl,h3,some_bind]
  exact ⟨_,rfl,.inr ⟨hl,c,L,A,.inr ⟨by omega,h0,ks,by simp,h4⟩⟩⟩
theorem right09 {n:Nat} {l:List RowA} (hn:l.length<n) (h:rightR l=true):f_ref09_Right n l=some true:=by
 have hb:=rightR_len h
 unfold rightR at h
 simp only [Bool.and_eq_true,decide_eq_true_eq] at h
 have hr:=(rising_iff l).1 h.1.2
 have ok:∀r∈l,rowOk r=true:=fun r hr=>List.all_eq_true.1 h.1.1 r hr
 unfold f_ref09_Right
 rw [decide_eq_false (by omega),cond_false]
 have key:∀(d k m:Nat),k+d=l.length→d<m→f_ref09_Right_l1 l m (k:Int)=some true:=by
  intro d
  induction d with
  | zero=>
   intro k m hk hm
   obtain ⟨m,rfl⟩:∃j,m=j+1:=⟨m-1,by omega⟩
   show f_ref09_Right_l1_b l (f_ref09_Right_l1 l m) _=_
   unfold f_ref09_Right_l1_b
   rw [decide_eq_false (by omega),cond_false]
   rfl
  | succ d ih=>
   intro k m hk hm
   obtain ⟨m,rfl⟩:∃j,m=j+1:=⟨m-1,by omega⟩
   have hkl:k<l.length:=by omega
   have n1:nthI l (k:Int)=some l[k]:=by rw [nthI_of rfl,List.getElem?_eq_getElem hkl]
   have hrow:f_ref09_RightRow l[k]=some true:=by
    have h5:=rowOk_lt (ok l[k] (List.getElem_mem hkl))
    unfold f_ref09_RightRow
    have h6:(2147483648:UInt32).toNat=2147483648:=rfl
    rw [ret_eq,decide_eq_true (UInt32.lt_iff_toNat_lt.2 (by omega)),decide_eq_true (UInt32.lt_iff_toNat_lt.2 (by omega)),decide_eq_true (by omega)]
    rfl
   show f_ref09_Right_l1_b l (f_ref09_Right_l1 l m) _=_
   unfold f_ref09_Right_l1_b
   rw [decide_eq_true (by omega),cond_true,n1,some_bind,hrow,some_bind]
   have hor:(orO (!true) ((andO (decide (0<(k:Int))) ((nthI l (wI ((k:Int)-1))).bind fun x2=>(nthI l (k:Int)).bind fun x3=>some (decide (x3.id≤x2.id)))).bind fun y2=>some (y2)))=some false:=by
    rcases Nat.eq_zero_or_pos k with rfl | hk0
    rfl
    have n2:nthI l (wI ((k:Int)-1))=some l[k-1]:=by
     rw [wI_eq (by omega) (by omega),nthI_of (k:=k-1) (by omega),List.getElem?_eq_getElem (by omega)]
    have hlt:=List.pairwise_iff_getElem.1 hr (k-1) k (by omega) hkl (by omega)
    have h7:decide (l[k].id≤l[k-1].id)=false:=decide_eq_false fun e=>by
     have e1:=UInt64.le_iff_toNat_le.1 e
     have e2:=UInt64.lt_iff_toNat_lt.1 hlt
     omega
    rw [decide_eq_true (by omega),n2,n1]
    simp only [orO,andO,Bool.not_true,cond_false,cond_true,some_bind,h7]
   rw [n1] at hor
   rw [hor,some_bind,cond_false,ret_eq,wI_eq (by omega) (by omega)]
   exact ih (k+1) m (by omega) (by omega)
 exact key l.length 0 n (by omega) hn
theorem build09_ok {n:Nat} {l:List RowA} (hn:1100≤n) (h:rightR l=true):∃t,build09 n l=some (t,0)∧Tr n l t:=by
 have hb:=rightR_len h
 have h':=h
 unfold rightR at h'
 simp only [Bool.and_eq_true,decide_eq_true_eq] at h'
 obtain ⟨t,h1,h2⟩:=tree09_eq (n:=n) (by omega) n l (by omega) (fun r hr=>List.all_eq_true.1 h'.1.1 r hr) hb (by omega)
 refine ⟨t,?_,h2⟩
 unfold build09
 rw [right09 (by omega) h,some_bind,Bool.not_true,cond_false,h1,some_bind]
theorem sameKids_refl {rec_:NodeP→NodeP→Option Bool}:∀(ks:List NodeP),(∀k∈ks,rec_ k k=some true)→sameKids rec_ ks ks=some true
 | [],_=>rfl
 | k::ks,h=>by
  unfold sameKids
  rw [h k (by simp),some_bind,Bool.not_true,cond_false,sameKids_refl ks fun j hj=>h j (by simp [hj])]
theorem sameN_refl {n:Nat} (hn:1100≤n):∀(f:Nat) (l:List RowA) (t:NodeP),Tr f l t→l.length≤1000→sameN n f t t=some true
 | 0,_,_,h,_=>h.elim
 | f+1,l,t,h,hb=>by
  have hk:t.rows.length≤1000∧t.kids.length≤4∧∀k∈t.kids,sameN n f k k=some true:=by
   rcases h with ⟨rfl,rfl⟩ | ⟨_,c,L,A,⟨_,rfl⟩ | ⟨h4,hL,ks,rfl,hk⟩⟩
   exact ⟨Nat.zero_le _,Nat.zero_le _,fun k hk=>by cases hk⟩
   exact ⟨hb,Nat.zero_le _,fun k hk=>by cases hk⟩
   refine ⟨Nat.zero_le _,hk.length▸qlist_le4 L l,fun k hkm=>?_⟩
   obtain ⟨l',hl',hT'⟩:=hk.right k hkm
   exact sameN_refl hn f l' k hT' (Nat.le_trans (qlist_sub hl').length_le hb)
  unfold sameN
  rw [if_neg (by omega),same_rows _ (by omega) (by omega),some_bind]
  rw [show ((!(decide (t.cx=t.cx)&&(decide (t.cy=t.cy)&&(decide (t.lev=t.lev)&&true))) || !true) || !decide ((t.kids.length:Int)=(t.kids.length:Int)))=false by simp,cond_false]
  exact sameKids_refl _ hk.2.2
theorem nodesK_eq {rec_:NodeP→Option Int} {g:NodeP→Nat}:∀(ks:List NodeP) (a:Nat),(∀k∈ks,rec_ k=some (g k:Int))→a+(ks.map g).sum≤100000→nodesK rec_ ks (a:Int)=some ((a+(ks.map g).sum:Nat):Int)
 | [],a,_,_=>by simp [nodesK]
 | k::ks,a,h,hb=>by
  simp only [List.map_cons,List.sum_cons] at hb
  unfold nodesK
  rw [h k (by simp),some_bind,wI_eq (by omega) (by omega),show ((a:Int)+(g k:Int))=((a+g k:Nat):Int) by omega,nodesK_eq ks (a+g k) (fun j hj=>h j (by simp [hj])) (by omega)]
  simp only [List.map_cons,List.sum_cons,Nat.add_assoc]
theorem nodesN_eq:∀(f:Nat) (l:List RowA) (t:NodeP),Tr f l t→l.length≤1000→nodesN f t=some (pgN f t:Int)
 | 0,_,_,h,_=>h.elim
 | f+1,l,t,h,hb=>by
  have hpg:=pages_pos h hb
  rcases h with ⟨rfl,rfl⟩ | ⟨_,c,L,A,⟨_,rfl⟩ | ⟨h4,hL,ks,rfl,hk⟩⟩
  rfl
  refine (show nodesN (f+1) (.mk c.x c.y c.lev l [])=some (bif decide (4<(l.length:Int)) then ((l.length:Int)+3) / 4 else 1) from if_neg (show ¬(1048576<0∨1048576<l.length) by omega)).trans ?_
  show _=some ((max 1 ((l.length+3) / 4):Nat):Int)
  by_cases h4:4<l.length
  rw [show decide (4<(l.length:Int))=true from decide_eq_true (by omega),cond_true]
  congr 1
  omega
  rw [show decide (4<(l.length:Int))=false from decide_eq_false (by omega),cond_false]
  congr 1
  omega
  have hq:=(qlist_two A hL).1
  have hl4:=qlist_le4 L l
  have hkl:=hk.length
  have hrec:∀k∈ks,nodesN f k=some (pgN f k:Int):=fun k hkm=>by
   obtain ⟨l',hl',hT'⟩:=hk.right k hkm
   exact nodesN_eq f l' k hT' (Nat.le_trans (qlist_sub hl').length_le hb)
  have hp:pgN (f+1) (.mk c.x c.y c.lev [] ks)=(ks.map (pgN f)).sum+1:=if_neg (show ¬ks.length=0 by omega)
  rw [hp] at hpg ⊢
  refine (show nodesN (f+1) (.mk c.x c.y c.lev [] ks)=nodesK (nodesN f) ks ((1:Nat):Int) from if_neg (show ¬(1048576<ks.length∨1048576<0) by omega)).trans ?_
  rw [nodesK_eq ks 1 hrec (by omega)]
  congr 1
  omega
theorem p_GroveFew (T:List UInt32) (l:List RowA):FewOk 4200 T l:=by
 obtain ⟨w,c,hm⟩:=made14_eq (N:=60) (n:=4200) (by omega) (by omega) (by omega)
 have hlen:=few_len l
 cases hr:rightR (l.take 24) with
 | false=>exact ⟨_,_,_,_,p_gshown T,few_eq l,hm,build_no (by omega) (by omega) hr,save_bad (by omega) (by omega) hr,.inl ⟨by decide,rfl⟩⟩
 | true=>
  obtain ⟨t,h1,h2,h3,h4,h5⟩:=save_new T l (N:=60) (by omega) (by omega) hr
  obtain ⟨t9,g1,g2⟩:=build09_ok (n:=4200) (by omega) hr
  obtain rfl:=Tr.uniq g2 h2
  rcases h5 with ⟨r,out,q,e1,e2,e3,e4,e5,e6,e7⟩ | ⟨v,d,c,e1,e2,e3,e4⟩
  have htl:q.v.taken.length=out.length:=by
   rw [e4.tak]
   simp [v0,e7]
  refine ⟨_,_,_,_,p_gshown T,few_eq l,hm,h1,e1,.inr ⟨rfl,rfl,t9,g1,sameN_refl (by omega) _ _ _ g2 (by omega),?_,?_,?_⟩⟩
  rw [nodesN_eq _ _ _ g2 (by omega),e6]
  show f_vv_Free q.v q.d=some (wI (58-(out.length:Int)))
  rw [free_eq e4.vs (by omega),htl,wI_eq (by omega) (by omega)]
  congr 1
  show some q.v.seals=some (toU64 (out.length:Int))
  rw [e4.seals,e7]
  show some ((0:UInt64)+UInt64.ofNat out.length)=_
  rw [UInt64.zero_add]
  have h9:((out.length:Int)%18446744073709551616).toNat=out.length:=by omega
  unfold toU64
  rw [h9]
  omega
end Go.Proofs.YtkibffdipniemaaGreatDoor
