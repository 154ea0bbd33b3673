/- The texts V2, V3, V4a, LG23, LG24, LG35, LG36, LG37, LG38, YR1, LG25, LG26, LG27, LG39, LG40, LG28, LG41, LG42, LG29, LG30, LG31, LG32, LG33, LG34, LG44, one behind the other: walks of the program, and plain laws of what it computes. Conditions: as each theorem says. -/
import Derived.Test.YtkibffdipniemaaGreatDoorMK1
import Derived.Test.YtkibffdipniemaaGreatDoorMK2
import Derived.Test.YtkibffdipniemaaGreatDoorMK3
import Derived.Test.YtkibffdipniemaaGreatDoorMK4
import Derived.Test.YtkibffdipniemaaGreatDoorMK5
import Derived.Test.YtkibffdipniemaaGreatDoorMK6

set_option linter.unusedVariables false
set_option linter.unusedSimpArgs false
set_option maxHeartbeats 4000000
set_option maxRecDepth 100000
namespace Go.Proofs.YtkibffdipniemaaGreatDoor
open Go
section
theorem aX(x:UInt32)(n:Nat)(h:n≤32):CC x (n:Int)=some (KJ x n):=by
 unfold CC
 rw[Ve,U,BC zO zO,show(32-(n:Int))=((32-n:Nat):Int) by omega,Ve,U]
 rfl
theorem lX(s:List UInt8)(w:List UInt32)(h:16≤w.length):Rj s w=w.getD (w.length-16) 0+oO (w.getD (w.length-15) 0)+w.getD (w.length-7) 0+nQ (w.getD (w.length-2) 0):=by
 unfold Rj
 rw[if_neg zO]
 ac_rfl
theorem oy{h:List UInt32}(hh:h.length=8){n:Nat}(hm:64<n):∀f:List UInt32,f.length=8→HC n h f=some (List.zipWith (·+·) f h):=by
 intro f hf
 have hfl:h.length=f.length:=zO
 unfold HC K8
 refine(congrArg (By _ n) ?_).trans (Dw (fun i=>(SA f h i,(i:Int))) 8 (fun i hi k=>?_) (fun k=>?_) zO)
 simp[SA]
 have ei:((i+1:Nat):Int)=(i:Int)+1:=zO
 have hml:=VN f h hfl i
 dsimp only
 rw[ei,←cA f h hfl i zO,←cP f h hfl i zO]
 simp only[HT,show decide ((i:Int)<8)=true by simp;omega,BZ,ret]
 rw[CK (k:=i) 0 rfl zO,U,CK (k:=i) 0 rfl zO,U,U,GI rfl zO,U,BC zO zO]
 simp only[HT,show decide (((8:Nat):Int)<8)=false by decide,A9,K6]
 have:=Yp f h hfl
 rw[hf]at this
 rw[this]
theorem nO{T h:List UInt32}(hT:T.length=64)(hh:h.length=8){n:Nat}(hm:64<n):∀w:List UInt32,w.length=64→HK n T h w=some (List.zipWith (·+·) h (Gu T w h 64).list):=by
 intro w hw
 have t6:∀x,CC x 6=some (KJ x 6):=fun x=>aX x 6 zD
 have t11:∀x,CC x 11=some (KJ x 11):=fun x=>aX x 11 zD
 have t25:∀x,CC x 25=some (KJ x 25):=fun x=>aX x 25 zD
 have t2:∀x,CC x 2=some (KJ x 2):=fun x=>aX x 2 zD
 have t13:∀x,CC x 13=some (KJ x 13):=fun x=>aX x 13 zD
 have t22:∀x,CC x 22=some (KJ x 22):=fun x=>aX x 22 zD
 have hz:∀q:NH,HC n h q.list=some (List.zipWith (·+·) h q.list):=fun q=>by
  rw[oy hh hm _ rfl,List.zipWith_comm]
  simp only[UInt32.add_comm]
 have hN:∀i,Gu T w h (i+1)=(Gu T w h i).step (T.getD i 0) (w.getD i 0):=fun i=>rfl
 have h0:(Gu T w h 0).list=h:=Rp hh
 generalize Gu T w h=R at hN h0 ⊢
 unfold HK K1
 rw[CG (by simp[hh]) (by simp[hh]),U,List.nil_append]
 refine(congrArg (By _ n) ?_).trans (Dw (fun i=>((R i).list,(i:Int))) 64 (fun i hi k=>?_) (fun k=>?_) zO)
 simp[h0]
 have ei:((i+1:Nat):Int)=(i:Int)+1:=zO
 dsimp only
 rw[ei,hN]
 generalize R i=q
 have q0:Aq q.list 0=some q.a:=rfl
 have q1:Aq q.list 1=some q.b:=rfl
 have q2:Aq q.list 2=some q.c:=rfl
 have q3:Aq q.list 3=some q.d:=rfl
 have q4:Aq q.list 4=some q.e:=rfl
 have q5:Aq q.list 5=some q.f:=rfl
 have q6:Aq q.list 6=some q.g:=rfl
 have q7:Aq q.list 7=some q.i:=rfl
 simp only[He,show decide ((i:Int)<64)=true by simp;omega,BZ,A7,q0,q1,q2,q3,q4,q5,q6,q7,U,t6,t11,t25,t2,t13,t22]
 rw[CK (k:=i) 0 rfl zO,U,CK (k:=i) 0 rfl zO,U,BC zO zO]
 simp only[NH.step,NH.list,NH.t1,NH.t2]
 simp only[He,show decide (((64:Nat):Int)<64)=false by decide,A9]
 exact hz _
theorem qY(T h:List UInt32)(s:List UInt8)(hT:T.length=64)(hh:h.length=8)(hs:s.length=64){n:Nat}(hm:64<n):Ld n T h s=some (Ru T h s):=by
 
 have t7:∀x,CC x 7=some (KJ x 7):=fun x=>aX x 7 zD
 have t18:∀x,CC x 18=some (KJ x 18):=fun x=>aX x 18 zD
 have t17:∀x,CC x 17=some (KJ x 17):=fun x=>aX x 17 zD
 have t19:∀x,CC x 19=some (KJ x 19):=fun x=>aX x 19 zD
 unfold Ld Iw
 have hW:∀i,FI s (i+1)=FI s i++[Rj s (FI s i)]:=fun i=>rfl
 have hWl:=MA s
 have hfin:HK n T h (FI s 64)=some (Ru T h s):=by
  unfold Ru D2
  exact nO hT hh hm _ (hWl 64)
 have hW0:FI s 0=[]:=rfl
 generalize FI s=W at hW hWl hfin hW0
 refine(congrArg (By _ n) ?_).trans (Dw (fun i=>(W i,(i:Int))) 64 (fun i hi k=>?_) (fun k=>?_) hm)
 simp[hW0]
 have ei:((i+1:Nat):Int)=(i:Int)+1:=zO
 have hl:=hWl i
 dsimp only
 rw[ei,hW]
 generalize W i=w at hl
 simp only[Ha,show decide ((i:Int)<64)=true by simp;omega,BZ]
 have hj:∀x:UInt32,(Ci 4 w [x]).bind (fun l=>HH (i:Int) k l)=k (w++[x],(i:Int)+1):=fun x=>by
  rw[CG zQ zQ,U]
  simp only[HH,ret]
  rw[BC zO zO]
 by_cases hlt:i<16
 rw[show decide ((i:Int)<16)=true by simp;omega]
 simp only[BZ]
 rw[BC zO zO,CK (k:=4*i) 0 zO zO,U,BC zO zO,CK (k:=4*i+1) 0 zO zO,U,BC zO zO,CK (k:=4*i+2) 0 zO zO,U,
  BC zO zO,CK (k:=4*i+3) 0 zO zO,U,hj]
 unfold Rj
 rw[if_pos zO,hl]
 rfl
 rw[show decide ((i:Int)<16)=false by simp;omega]
 simp only[A9]
 rw[BC zO zO,CK (k:=i-15) 0 zO zO,U,BC zO zO,CK (k:=i-2) 0 zO zO,U,BC zO zO,CK (k:=i-16) 0 zO zO,U,
  t7,U,t18,U,BC zO zO,CK (k:=i-7) 0 zO zO,U,t17,U,t19,U,hj,lX s w zO,hl]
 rfl
 simp only[Ha,show decide (((64:Nat):Int)<64)=false by decide,A9]
 exact hfin
theorem f9(x:UInt64):shr64 x 0=x:=by
 apply UInt64.toNat_inj.1
 have:=x.toNat_lt
 simp[shr64]
theorem mM(s:List UInt8)(hs:s.length≤1099511627776){n:Nat}(hm:64<n):Jp n s=some (s++LU s.length):=by
 unfold Jp
 rw[Co zQ,U]
 unfold JU
 have hp:Lg s.length<64:=by unfold Lg;omega
 refine(congrArg (By _ n) ?_).trans (Dw (fun i=>s++[128]++List.replicate i 0) (Lg s.length) (fun i hi k=>?_) (fun k=>?_) zO)
 simp
 have hl:(s++[128]++List.replicate i (0:UInt8)).length=s.length+1+i:=by simp;omega
 have st:s++[128]++List.replicate (i+1) (0:UInt8)=s++[128]++List.replicate i 0++[0]:=by rw[List.replicate_succ',List.append_assoc _ _ [0]]
 rw[st]
 generalize s++[128]++List.replicate i (0:UInt8)=u at hl
 simp only[GN]
 rw[hl,show(64:Int)=((64:Nat):Int)from rfl,Vu zD,U,show(!decide ((((s.length+1+i)%64:Nat):Int)=56))=true by unfold Lg at hi;simp;omega]
 simp only[BZ]
 rw[Co zQ,U]
 have hl:(s++[128]++List.replicate (Lg s.length) (0:UInt8)).length=s.length+1+Lg s.length:=by simp;omega
 have ht:s++LU s.length=s++[128]++List.replicate (Lg s.length) 0++Se (BX s.length*8):=by simp[LU]
 rw[ht]
 generalize s++[128]++List.replicate (Lg s.length) (0:UInt8)=u at hl
 simp only[GN]
 rw[hl,show(64:Int)=((64:Nat):Int)from rfl,Vu zD,U,show(!decide ((((s.length+1+Lg s.length)%64:Nat):Int)=56))=false by unfold Lg;simp;omega]
 simp only[A9,Jk,ret]
 rw[Co zQ,U]
 simp only[Se,f9]
theorem ji(T:List UInt32)(s:List UInt8)(hT:T.length=64)(hs:s.length≤1099511627776){n:Nat}(hm:64<n)(hm2:s.length<n):JX n T s=some (Mm T s):=by
 unfold JX
 rw[mM s hs hm,U]
 have hw:(s++LU s.length).length%64=0:=by
  simp[LU,Lg,Se];omega
 have hlen:(s++LU s.length).length≤s.length+73:=by
  simp[LU,Lg,Se];omega
 have hsum:Mm T s=(Gz T Dv (s++LU s.length) ((s++LU s.length).length / 64)).list.flatMap Hb:=by
  unfold Mm
  rw[Lf]
 rw[hsum]
 generalize s++LU s.length=f at hw hlen
 
 have hl:∀l:List UInt32,(l.flatMap Hb).length=4*l.length:=by
  intro l
  induction l with
  | nil=>rfl
  | cons x r ih=>rw[List.flatMap_cons,List.length_append,ih,List.length_cons];simp[Hb];omega
 have h1:∀l:List UInt32,l.length=8→Jx n l=some (l.flatMap Hb):=by
  intro l h8
  unfold Jx L6
  refine(congrArg (By _ n) ?_).trans (Dw (fun i=>((l.take i).flatMap Hb,(i:Int))) 8 (fun i hi k=>?_) (fun k=>?_) zO)
  simp
  have ei:((i+1:Nat):Int)=(i:Int)+1:=zO
  have st:(l.take (i+1)).flatMap Hb=(l.take i).flatMap Hb++Hb (l.getD i 0):=by
   rw[List.take_add_one,I6 0 zO,List.flatMap_append]
   simp
  dsimp only
  rw[st,ei]
  simp only[IS,show decide ((i:Int)<8)=true by simp;omega,BZ,ret]
  rw[CK (k:=i) 0 rfl zO,U,U,U,U,CG (by rw[hl];simp;omega) (by rw[hl];simp;omega),U,BC zO zO]
  rfl
  simp only[IS,show decide (((8:Nat):Int)<8)=false by decide,A9,Lw]
  rw[List.take_of_length_le zO]
 unfold Lx
 have hfirst:My=some Dv.list:=rfl
 rw[hfirst,U]
 have hP:∀j,(Gz T Dv f (j+1)).list=Ru T (Gz T Dv f j).list ((f.drop (64*j)).take 64):=fun j=>by
  show(U0 T _ _).list=_
  unfold U0
  exact Rp (UI rfl)
 have hP8:∀j,(Gz T Dv f j).list.length=8:=fun j=>rfl
 have hP0:(Gz T Dv f 0).list=Dv.list:=rfl
 generalize (fun j=>(Gz T Dv f j).list)=R at hP hP8 hP0
 generalize hR:(fun j=>(Gz T Dv f j).list)=R at*
 have hP':∀j,R (j+1)=Ru T (R j) ((f.drop (64*j)).take 64):=fun j=>by rw[←hR];exact hP j
 have hP8':∀j,(R j).length=8:=fun j=>by rw[←hR];exact hP8 j
 have hP0':R 0=Dv.list:=by rw[←hR];exact hP0
 have hRN:(Gz T Dv f (f.length / 64)).list=R (f.length / 64):=by rw[←hR]
 rw[hRN]
 clear hR hRN hP hP8 hP0
 refine(congrArg (By _ n) ?_).trans (Dw (fun j=>(R j,((64*j:Nat):Int))) (f.length / 64) (fun j hj k=>?_) (fun k=>?_) zO)
 simp[hP0']
 have ej:((64*(j+1):Nat):Int)=((64*j:Nat):Int)+64:=zO
 dsimp only
 rw[hP',ej]
 simp only[IN,show decide (((64*j:Nat):Int)<(f.length:Int))=true by simp;omega,BZ,ret]
 rw[BC zO zO,Dm (p:=64*j) (q:=64*j+64) rfl zO zO zO,U,show 64*j+64-64*j=64 by omega,qY T (R j) _ hT (hP8' j) zQ hm,U]
 simp only[IN,show decide (((64*(f.length / 64):Nat):Int)<(f.length:Int))=false by simp;omega,A9]
 exact h1 _ (hP8' _)
theorem kj(T:List UInt32)(key:List UInt8)(c:UInt8)(hT:T.length=64)(hs:key.length≤1099511627776){n:Nat}(hm:64<n)(hm2:key.length<n):J1 n T key c=some (GC T key c):=by
 have h1:∀u:List UInt8,u.length≤64→HE n c u=some ((List.range 64).map fun i=>u.getD i 0 ^^^ c):=by
  intro u hu
  unfold HE I3
  refine(congrArg (By _ n) ?_).trans (Dw (fun i=>((List.range i).map (fun i=>u.getD i 0 ^^^ c),(i:Int))) 64 (fun i hi k=>?_) (fun k=>?_) hm)
  simp
  have ei:((i+1:Nat):Int)=(i:Int)+1:=zO
  have st:(List.range (i+1)).map (fun i=>u.getD i 0 ^^^ c)=(List.range i).map (fun i=>u.getD i 0 ^^^ c)++[u.getD i 0 ^^^ c]:=by simp[List.range_succ]
  have hj:HF c ((List.range i).map (fun i=>u.getD i 0 ^^^ c)) (i:Int) k (u.getD i 0)=k ((List.range i).map (fun i=>u.getD i 0 ^^^ c)++[u.getD i 0 ^^^ c],(i:Int)+1):=by
   unfold HF
   rw[CG zQ zQ,U]
   simp only[ret]
   rw[BC zO zO]
  dsimp only
  rw[st,ei,←hj]
  simp only[HV,show decide ((i:Int)<64)=true by simp;omega,BZ]
  by_cases h0:i<u.length
  rw[show decide ((i:Int)<(u.length:Int))=true by simp;omega]
  simp only[BZ]
  rw[CK (k:=i) 0 rfl h0,U]
  rw[show decide ((i:Int)<(u.length:Int))=false by simp;omega]
  simp only[A9]
  rw[show u.getD i 0=0 by simp[List.getD_eq_getElem?_getD,List.getElem?_eq_none (show u.length≤i by omega)]]
  simp only[HV,show decide (((64:Nat):Int)<64)=false by decide,A9,K2]
 unfold J1 GC Fh
 by_cases h0:64<key.length
 rw[show decide (64<(key.length:Int))=true by simp;omega,if_pos h0]
 simp only[BZ]
 rw[ji T key hT hs hm hm2,U]
 exact h1 _ (by rw[Ja];omega)
 rw[show decide (64<(key.length:Int))=false by simp;omega,if_neg h0]
 simp only[A9]
 exact h1 _ zO
theorem jO(T:List UInt32)(key m:List UInt8)(hT:T.length=64)(hk:key.length≤1048576)(hs:m.length≤1048576){n:Nat}(hm:2097152<n):IZ n T key m=some (NF T key m):=by
 unfold IZ Mu
 have l1:=Ln T key 54
 have l2:=Ln T key 92
 rw[kj T key 54 hT zO zO zO,U,Co zO,U,kj T key 92 hT zO zO zO,U,ji T _ hT zQ zO zQ,U,
  Co (by rw[Ja];omega),U,U]
 have e:Aq [GC T key 54++m,GC T key 92++Mm T (GC T key 54++m)] 1=some (GC T key 92++Mm T (GC T key 54++m)):=rfl
 rw[e,U,ji T _ hT (by rw[List.length_append,Ja];omega) zO (by rw[List.length_append,Ja];omega),U]
 unfold NF
 exact Eq.refl _
theorem ou(T:List UInt32)(key label:List UInt8)(hT:T.length=64)(hk:key.length≤1048576)(hl:label.length≤1000000){n:Nat}(hm:2097152<n):Hz n T key label 32=some (Gv T key label,0):=by
 have hml:∀m,(NF T key m).length=32:=fun m=>Gw T key m
 have hmac:IZ n T key ([]++label++[HN 1])=some (Gv T key label):=by
  rw[jO T key _ hT hk zQ hm]
  rfl
 have he:(Gv T key label).length=32:=hml _
 generalize Gv T key label=x at hmac he ⊢
 unfold Hz JV
 rw[show((decide ((32:Int)<0))||(decide ((8160:Int)<32)))=false by decide]
 simp only[A9]
 obtain⟨m,rfl⟩:∃m,n=m+1+1:=⟨n-2,by omega⟩
 rw[XU]
 simp only[GL]
 rw[show decide (((([]:List UInt8).length:Nat):Int)<32)=true by decide]
 simp only[BZ]
 rw[Co zQ,U,Co zQ,U,hmac,U,Co zQ,U]
 rw[A7,List.nil_append,XU]
 simp only[GL]
 rw[show decide (((x.length:Nat):Int)<32)=false by rw[he];decide]
 simp only[A9,JQ]
 rw[show Cr x 0 32=some ((x.drop 0).take (32-0))from Dm (p:=0) (q:=32) rfl rfl zO zO,U]
 simp[List.take_of_length_le,he]
end

section
theorem YZ(x:UInt64)(w:Nat)(hw:w≤8){n:Nat}(hm:8<n):Dp n x (w:Int)=some (BE x w):=by
 unfold Dp Lz
 have hS:∀i,i<8→shr64 x (8*(i+1))=shr64 x (8*i) / 256:=fun i hi=>by
  apply UInt64.toNat_inj.1
  rw[UInt64.toNat_div,JW _ _ zO,JW _ _ zO,show(256:UInt64).toNat=2^8 from rfl,Nat.div_div_eq_div_mul,←Nat.pow_add,show 8*(i+1)=8*i+8 by omega]
 have hP:∀i,BE x (i+1)=BE x i++[(shr64 x (8*i)).toUInt8]:=S9 x
 have h0:shr64 x (8*0)=x:=by rw[Nat.mul_zero,f9]
 have hl:=Aj x
 have hp0:BE x 0=[]:=rfl
 generalize BE x=Pt at hP hl hp0 ⊢
 generalize hq:(fun i=>shr64 x (8*i))=S
 have hS':∀i,i<8→S (i+1)=S i / 256:=fun i hi=>by rw[←hq];exact hS i hi
 have hP':∀i,Pt (i+1)=Pt i++[(S i).toUInt8]:=fun i=>by rw[hP,←hq]
 have h0':S 0=x:=by rw[←hq];exact h0
 clear hS hP h0 hq
 refine(congrArg (By _ n) ?_).trans (Dw (fun i=>(S i,Pt i,(i:Int))) w (fun i hi k=>?_) (fun k=>?_) zO)
 simp[h0',hp0]
 have ei:((i+1:Nat):Int)=(i:Int)+1:=zO
 dsimp only
 rw[ei,hP',hS' i zO]
 simp only[IJ,show decide ((i:Int)<(w:Int))=true by simp;omega,BZ]
 have hlp:=hl i
 rw[Co zQ,U,show QP (S i) 256=some (S i / 256)from rfl,U,A7,BC zO zO]
 simp only[IJ,show decide ((w:Int)<(w:Int))=false by simp,A9,MD]
def OS:List UInt8→Nat
 | []=>0
 | b::r=>b.toNat+256*OS r
theorem bJ:∀(s:List UInt8) (b:UInt8),OS (s++[b])=OS s+b.toNat*2^(8*s.length)
 | [],b=>by simp[OS]
 | c::r,b=>by
  rw[List.cons_append,OS,bJ r b,OS,List.length_cons,show 8*(r.length+1)=8*r.length+8 by omega,Nat.pow_add,Nat.mul_add]
  rw[show(2:Nat)^8=256 from rfl,Nat.add_assoc]
  congr 2
  rw[Nat.mul_left_comm,Nat.mul_comm 256]
theorem X9:∀s:List UInt8,OS s<2^(8*s.length)
 | []=>by simp[OS]
 | b::r=>by
  have h1:=X9 r
  have h2:=b.toNat_lt
  rw[OS,List.length_cons,show 8*(r.length+1)=8*r.length+8 by omega,Nat.pow_add,show(2:Nat)^8=256 from rfl]
  omega
theorem Nm(s:List UInt8):∀k,k≤8→k≤s.length→(B9 s k).toNat=OS (s.take k)
 | 0,_,_=>by simp[B9,OS]
 | k+1,hk,hl=>by
  have ih:=Nm s k zO zO
  have hlt:=X9 (s.take k)
  have hlk:(s.take k).length=k:=by simp;omega
  rw[hlk]at hlt
  rw[B9,UInt64.toNat_or,ih,Xa _ _ zO,List.take_add_one,I6 0 zO,Option.toList_some,bJ,hlk]
  rw[Nat.or_comm,Nat.mul_comm _ (2^(8*k)),←Nat.two_pow_add_eq_or_of_lt hlt,Nat.add_comm]
theorem bQ:∀(s:List UInt8) (i:Nat),i<s.length→OS s / 2^(8*i)%256=(s.getD i 0).toNat
 | [],i,h=>by simp at h
 | b::r,0,_=>by
  have:=b.toNat_lt
  simp only[OS,Nat.mul_zero,Nat.pow_zero,Nat.div_one,List.getD_cons_zero]
  omega
 | b::r,i+1,h=>by
  have:=b.toNat_lt
  have ih:=bQ r i (by simpa using h)
  rw[OS,show 8*(i+1)=8+8*i by omega,Nat.pow_add,←Nat.div_div_eq_div_mul,show(b.toNat+256*OS r) / 2^8=OS r by rw[show(2:Nat)^8=256 from rfl];omega,ih,List.getD_cons_succ]
theorem Sx(s:List UInt8)(w:Nat)(hw:w≤8)(hl:w≤s.length):BE (B9 s w) w=s.take w:=by
 refine List.ext_getElem (by simp[Aj];omega) fun i h1 h2=>?_
 have hi:i<w:=by simpa[Aj]using h1
 have hv:=Nm s w hw hl
 have hb:=bQ (s.take w) i zQ
 have e1:(BE (B9 s w) w)[i]=(shr64 (B9 s w) (8*i)).toUInt8:=by simp[BE]
 rw[e1]
 apply UInt8.toNat_inj.1
 rw[UInt64.toNat_toUInt8,JW _ _ zO,hv,hb,List.getD_eq_getElem?_getD,List.getElem?_eq_getElem h2]
 rfl
theorem oI(s:List UInt8)(hs:s.length≤8){n:Nat}(hm:8<n):F5 n s=some (B9 s s.length):=by
 have hfin:UInt64.ofNat (OS (s.drop (s.length-s.length)))=B9 s s.length:=by
  apply UInt64.toNat_inj.1
  rw[Nm s s.length hs (Nat.le_refl _),List.take_length,Nat.sub_self,List.drop_zero]
  have:=X9 s
  have h2:2^(8*s.length)≤2^64:=Nat.pow_le_pow_right zD zO
  simp only[UInt64.toNat_ofNat']
  exact Nat.mod_eq_of_lt zO
 unfold F5
 rw[A7,BC zO zO]
 unfold L0
 refine(congrArg (By _ n) ?_).trans (Dw (fun j=>(UInt64.ofNat (OS (s.drop (s.length-j))),(s.length:Int)-1-j)) s.length (fun j hj k=>?_) (fun k=>?_) zO)
 simp[OS]
 have ej:(s.length:Int)-1-((j+1:Nat):Int)=(s.length:Int)-1-j-1:=zO
 have st:s.drop (s.length-(j+1))=s.getD (s.length-(j+1)) 0::s.drop (s.length-j):=by
  rw[List.drop_eq_getElem_cons zO,show s.length-(j+1)+1=s.length-j by omega]
  simp[List.getD_eq_getElem?_getD,List.getElem?_eq_getElem (show s.length-(j+1)<s.length by omega)]
 have hv:256*UInt64.ofNat (OS (s.drop (s.length-j)))+(s.getD (s.length-(j+1)) 0).toUInt64=UInt64.ofNat (OS (s.drop (s.length-(j+1)))):=by
  rw[st,OS]
  apply UInt64.toNat_inj.1
  simp only[UInt64.toNat_add,UInt64.toNat_mul,UInt64.toNat_ofNat',UInt8.toNat_toUInt64]
  generalize OS (s.drop (s.length-j))=q
  have h256:(256:UInt64).toNat=256:=rfl
  rw[h256]
  omega
 dsimp only
 rw[ej,←hv]
 simp only[IB,show decide (0≤(s.length:Int)-1-j)=true by simp;omega,BZ]
 rw[CK (k:=s.length-(j+1)) 0 zO zO,U,A7,A7,BC zO zO]
 simp only[IB,show decide (0≤(s.length:Int)-1-((s.length:Nat):Int))=false by simp;omega,A9,Lu]
 rw[hfin]
theorem Sz(s:List UInt8)(w:Nat):∀k,k≤w→B9 (s.take w) k=B9 s k
 | 0,_=>rfl
 | k+1,h=>by
  rw[B9,B9,Sz s w k zO]
  congr 3
  simp[List.getD_eq_getElem?_getD,List.getElem?_take,show k<w by omega]
theorem fc(h:CB){n:Nat}(hm:8<n):I0 n h=some (GP h):=by
 unfold I0
 rw[show Dp n h.boot.toUInt64 4=some (BE h.boot.toUInt64 4)from YZ _ 4 zD hm,U,show Dp n h.seq 8=some (BE h.seq 8)from YZ _ 8 zD hm,U,Co (by simp[Aj]),U]
 unfold GP
 exact Eq.refl _
theorem tK(h:CB){n:Nat}(hm:8<n):Mv n h=some (OD h):=by
 unfold Mv
 have p4:∀x:UInt64,Dp n x 4=some (BE x 4):=fun x=>YZ _ 4 zD hm
 have p8:∀x:UInt64,Dp n x 8=some (BE x 8):=fun x=>YZ _ 8 zD hm
 rw[p4,U,p4,U,Co (by simp[Aj]),U,p4,U,Co (by simp[Aj]),U,p8,U,Co (by simp[Aj]),U,Co (by simp[Aj]),U]
 simp[OD,GP]
theorem TM{x:UInt64}(h:x.toNat<4294967296):x.toUInt32.toUInt64=x:=by
 apply UInt64.toNat_inj.1
 rw[UInt32.toNat_toUInt64,UInt64.toNat_toUInt32]
 exact Nat.mod_eq_of_lt h
theorem lR{s:List UInt8}(hl:s.length=24)(hz:s.drop 20=[0,0,0,0]):OD (OW s)=s:=by
 have o:Pu 0=0∧Pu 1=4∧Pu 2=8∧Pu 3=12:=⟨rfl,rfl,rfl,rfl⟩
 have w:MR 0=4∧MR 1=4∧MR 2=4∧MR 3=8:=⟨rfl,rfl,rfl,rfl⟩
 have lt:∀k,k+4≤24→(B9 (s.drop k) 4).toNat<4294967296:=fun k hk=>by
  rw[Nm _ 4 zD zQ]
  have:=X9 ((s.drop k).take 4)
  rw[show((s.drop k).take 4).length=4 by simp;omega]at this
  exact this
 rw[Sa]
 simp only[OW,Jg,o,w]
 rw[TM (lt 0 zO),TM (lt 4 zO),TM (lt 8 zO),Sx _ 4 zD zQ,Sx _ 4 zD zQ,Sx _ 4 zD zQ,Sx _ 8 zD zQ,←hz]
 have d:∀a b:Nat,(s.drop a).take b++s.drop (a+b)=s.drop a:=fun a b=>by rw[←List.drop_drop,List.take_append_drop]
 rw[d 12 8,d 8 4,d 4 4]
 have:=d 0 4
 rwa [List.drop_zero]at this
theorem ow(s:List UInt8){n:Nat}(hm:8<n):LO n s=some (Gg s):=by
 unfold LO
 by_cases hl:s.length=24
 rw[show(!decide ((s.length:Int)=24))=false by simp;omega,show Nn false ((Cr s 20 (s.length:Int)).bind fun s1=>some (!decide (s1=[0,0,0,0])))=some (!decide (s.drop 20=[0,0,0,0])) by
  rw[show Cr s 20 (s.length:Int)=some ((s.drop 20).take (24-20))from Dm (p:=20) (q:=24) rfl zO zO zO,U,List.take_of_length_le zQ]
  rfl,U]
 by_cases hz:s.drop 20=[0,0,0,0]
 rw[show(!decide (s.drop 20=[0,0,0,0]))=false by simp[hz]]
 simp only[A9]
 have g:∀(p q:Nat),p+q≤24→q≤8→F5 n ((s.drop p).take q)=some (B9 (s.drop p) q):=fun p q h1 h2=>by
  have hll:((s.drop p).take q).length=q:=by simp;omega
  rw[oI _ zO hm,hll,Sz _ _ _ (Nat.le_refl _)]
 have s1:Cr s 0 4=some ((s.drop 0).take 4):=Dm (p:=0) (q:=4) rfl rfl zO zO
 have s2:Cr s 4 8=some ((s.drop 4).take 4):=Dm (p:=4) (q:=8) rfl rfl zO zO
 have s3:Cr s 8 12=some ((s.drop 8).take 4):=Dm (p:=8) (q:=12) rfl rfl zO zO
 have s4:Cr s 12 20=some ((s.drop 12).take 8):=Dm (p:=12) (q:=20) rfl rfl zO zO
 rw[s1,U,g 0 4 zO zO,U,s2,U,g 4 4 zO zO,U,s3,U,g 8 4 zO zO,U,s4,U,g 12 8 zO zO,U]
 unfold Gg
 rw[if_pos ⟨hl,lR hl hz⟩]
 exact Eq.refl _
 rw[show(!decide (s.drop 20=[0,0,0,0]))=true by simp[hz]]
 simp only[BZ]
 unfold Gg
 rw[if_neg]
 rfl
 rintro⟨_,he⟩
 apply hz
 rw[←he,Sa]
 rw[show 20=4+(4+(4+8))from rfl,←List.drop_drop,Kv,←List.drop_drop,Kv,←List.drop_drop,Kv,Kv]
 rw[show(!decide ((s.length:Int)=24))=true by simp;omega]
 show(some true).bind _=_
 rw[U]
 simp only[BZ]
 unfold Gg
 rw[if_neg (fun h=>hl h.1)]
 rfl
theorem dj(T:List UInt32)(k:BW)(hT:T.length=64)(hr:Db [k]=true){n:Nat}(hm:2097152<n):Ic n T k=some (Hn T k Hu,Hn T k Ih,0):=by
 have hl:=W3 hr
 unfold Ic
 rw[Z8 [k] zS zO,U,hr]
 simp only[Bool.not_true,A9]
 rw[Co zS,U,ou T k.secret _ hT zO zS hm,U,Co zS,U,ou T k.secret _ hT zO zS hm,U]
 exact Eq.refl _
theorem tG(s:List UInt8){n:Nat}(hm:256<n):Mk n s=some (PU s):=by
 unfold Mk PU
 by_cases h:198<s.length
 rw[show decide (198<(s.length:Int))=true by simp;omega,if_pos h]
 simp only[BZ]
 rw[show decide (198<(s.length:Int))=false by simp;omega,if_neg h]
 simp only[A9]
 rw[show UN (s.length:Int) 256=some ((s.length / 256:Nat):Int)from fG (b:=256) zD zO,U,show SE (s.length:Int) 256=some ((s.length%256:Nat):Int)from Vu (b:=256) zD,U,Co zQ,U]
 have hp:JK s=[HN ((s.length / 256:Nat):Int),HN ((s.length%256:Nat):Int)]++s++List.replicate (198-s.length) 0:=by
  unfold JK
  congr 3
  simp only[HN]
  congr 2
  omega
 rw[hp]
 have hl:([HN ((s.length / 256:Nat):Int),HN ((s.length%256:Nat):Int)]++s).length=s.length+2:=by simp
 generalize [HN ((s.length / 256:Nat):Int),HN ((s.length%256:Nat):Int)]++s=u at hl
 unfold MB
 refine(congrArg (By _ n) ?_).trans (Dw (fun i=>u++List.replicate i 0) (198-s.length) (fun i hi k=>?_) (fun k=>?_) zO)
 simp
 have st:u++List.replicate (i+1) (0:UInt8)=u++List.replicate i 0++[0]:=by rw[List.replicate_succ',List.append_assoc]
 have hl2:(u++List.replicate i (0:UInt8)).length=s.length+2+i:=by simp;omega
 rw[st]
 generalize u++List.replicate i (0:UInt8)=y at hl2
 unfold H8
 rw[show decide ((y.length:Int)<200)=true by simp;omega]
 simp only[BZ]
 rw[Co zQ,U]
 have hl2:(u++List.replicate (198-s.length) (0:UInt8)).length=200:=by simp;omega
 generalize u++List.replicate (198-s.length) (0:UInt8)=y at hl2
 unfold H8
 rw[show decide ((y.length:Int)<200)=false by simp;omega]
 simp only[A9]
 unfold L5
 exact Eq.refl _
theorem pU(b:List UInt8){n:Nat}(hm:256<n):Ks n b=some (FJ b):=by
 unfold Ks FJ
 by_cases h:b.length=200
 rw[show(!decide ((b.length:Int)=200))=false by simp;omega,if_neg (by simpa using h)]
 simp only[A9]
 have c0:=(b.getD 0 0).toNat_lt
 have c1:=(b.getD 1 0).toNat_lt
 have hL:wI (wI (256*((b.getD 0 0).toNat:Int))+((b.getD 1 0).toNat:Int))=((DO b:Nat):Int):=by
  rw[show wI (256*((b.getD 0 0).toNat:Int))=256*((b.getD 0 0).toNat:Int)from BC zO zO,BC zO zO]
  unfold DO
  omega
 rw[show Aq b 0=some (b.getD 0 0)from CK (k:=0) 0 rfl zO,U,show Aq b 1=some (b.getD 1 0)from CK (k:=1) 0 rfl zO,U,A7,hL]
 by_cases h2:198<DO b
 rw[show decide (198<((DO b:Nat):Int))=true by simp;omega,if_pos h2]
 simp only[BZ]
 rw[show decide (198<((DO b:Nat):Int))=false by simp;omega,if_neg h2]
 simp only[A9]
 rw[A7,BC zO zO]
 unfold KF
 refine(congrArg (By _ n) ?_).trans (cC (fun i=>((2+DO b+i:Nat):Int)) (fun i=>∀j,j<i→b.getD (2+DO b+j) 0=0) (198-DO b) (fun i hi hp k hk=>?_) (fun hp k=>?_) (fun j hj=>by omega) zO)
 omega
 have ei:((2+DO b+(i+1):Nat):Int)=((2+DO b+i:Nat):Int)+1:=zO
 simp only[Gm,show decide (((2+DO b+i:Nat):Int)<(b.length:Int))=true by simp;omega,BZ]
 rw[CK (k:=2+DO b+i) 0 rfl zO,U]
 by_cases hz:b.getD (2+DO b+i) 0=0
 rw[show(!decide (b.getD (2+DO b+i) 0=0))=false by simp only[hz];decide]
 simp only[A9]
 rw[A7,BC zO zO,←ei]
 refine hk fun j hj=>?_
 rcases Nat.lt_or_ge j i with h | h
 exact hp j h
 rw[show j=i by omega];exact hz
 rw[show(!decide (b.getD (2+DO b+i) 0=0))=true by simp only[hz];decide]
 simp only[BZ]
 rw[if_neg]
 intro hc
 exact hz (hc i hi)
 simp only[Gm,show decide (((2+DO b+(198-DO b):Nat):Int)<(b.length:Int))=false by simp;omega,A9,KT]
 rw[if_pos (show Tf b from hp),BC zO zO,show Cr b 2 (2+((DO b:Nat):Int))=some ((b.drop 2).take (2+DO b-2))from Dm (p:=2) (q:=2+DO b) rfl zO zO zO,U,show 2+DO b-2=DO b by omega]
 rw[show(!decide ((b.length:Int)=200))=true by simp;omega,if_pos (by simpa using h)]
 simp only[BZ]
end

section
theorem pZ(T:List UInt32)(k:BW)(h:CB)(body:List UInt8)(hT:T.length=64)(hr:Db [k]=true)(hb:body.length=200){n:Nat}(hm:2097152<n):Kk n T k h body=some (JO T k h body):=by
 unfold Kk
 rw[dj T k hT hr hm,U,fc h zO,U,pp _ _ _ (IF T k Hu) (HO h) zO zO zO,U,tK h zO,U,Co (by rw[IE,Fb];omega),U]
 rfl
theorem sf(T:List UInt32)(l:List BW)(h:CB)(s:List UInt8)(hT:T.length=64)(hl:l.length≤1048576){n:Nat}(hm:2097152<n):Lh n T l h s=some (Fe T l h s):=by
 unfold Lh
 rw[X3 l h.gen hl zO,U]
 unfold Fe
 by_cases hf:(C4 l h.gen).2=0
 obtain⟨_,_,_,hr⟩:=RA hf
 rw[show(!decide ((C4 l h.gen).2=0))=false by simp[hf],if_neg (by simp[hf])]
 simp only[A9]
 rw[tG s zO,U]
 by_cases h1:198<s.length
 rw[if_pos h1,show PU s=([],50) by unfold PU;rw[if_pos h1]]
 rfl
 rw[if_neg h1,show PU s=(JK s,0) by unfold PU;rw[if_neg h1]]
 have hp:=F6 (s:=s) zO
 rw[show(!decide (((JK s,(0:Int)):List UInt8×Int).2=0))=false from rfl]
 simp only[A9]
 have hbl:=HM T (C4 l h.gen).1 h hp
 rw[pZ T _ h _ hT hr hp hm,U,dj T _ hT hr hm,U]
 dsimp only
 rw[jO T _ _ hT (by rw[IF];omega) (by rw[hbl];omega) hm,U,Co (by rw[hbl,Gw];omega),U]
 unfold JI
 exact Eq.refl _
 rw[show(!decide ((C4 l h.gen).2=0))=true by simp[hf],if_pos hf]
 simp only[BZ]
theorem j5{b:List UInt8}(h:(FJ b).2=0):JK (FJ b).1=b∧(FJ b).1.length≤198:=by
 unfold FJ at h ⊢
 split at h
 simp at h
 rename_i h1
 rw[if_neg h1]
 split at h
 simp at h
 rename_i h2
 rw[if_neg h2]
 split at h
 rename_i h3
 rw[if_pos h3]
 have hbl:b.length=200:=by simpa using h1
 have hl:((b.drop 2).take (DO b)).length=DO b:=by simp;omega
 refine⟨?_,by dsimp only;omega⟩
 dsimp only
 unfold JK
 rw[hl]
 obtain⟨x,y,r,rfl⟩:∃x y r,b=x::y::r:=by
  cases b with
  | nil=>simp at hbl
  | cons x t=>cases t with
   | nil=>simp at hbl
   | cons y r=>exact⟨x,y,r,rfl⟩
 have hx:=x.toNat_lt
 have hy:=y.toNat_lt
 have hL:DO (x::y::r)=x.toNat*256+y.toNat:=by unfold DO;rw[List.getD_cons_zero,List.getD_cons_succ,List.getD_cons_zero]
 have hr:r.length=198:=by simpa using hbl
 have e0:HN (((DO (x::y::r):Nat):Int) / 256)=x:=by
  apply UInt8.toNat_inj.1
  simp only[HN,UInt8.toNat_ofNat',hL]
  omega
 have e1:HN ((DO (x::y::r):Nat):Int)=y:=by
  apply UInt8.toNat_inj.1
  simp only[HN,UInt8.toNat_ofNat',hL]
  omega
 rw[e0,e1]
 have hz:∀j,j<198-DO (x::y::r)→r.getD (DO (x::y::r)+j) 0=0:=fun j hj=>by
  have:=h3 j hj
  rwa [show 2+DO (x::y::r)+j=(DO (x::y::r)+j)+1+1 by omega,List.getD_cons_succ,List.getD_cons_succ]at this
 generalize DO (x::y::r)=m at hz h2
 have he:r.drop m=List.replicate (198-m) 0:=by
  refine List.ext_getElem zQ fun j h4 h5=>?_
  have:=hz j (by simpa using h5)
  rw[List.getD_eq_getElem?_getD,List.getElem?_eq_getElem (by simp at h5;omega)]at this
  simpa using this
 show x::y::(r.take m++List.replicate (198-m) 0)=_
 rw[←he,List.take_append_drop]
 simp at h
theorem rR(T:List UInt32)(l:List BW)(b:List UInt8)(hT:T.length=64)(hl:l.length≤1048576){n:Nat}(hm:2097152<n):La n T l b=some (Fy T l b):=by
 unfold La Fy
 rw[Z8 l hl zO,U]
 cases hr:Db l with
 | false=>
  rw[if_pos rfl]
  simp only[Bool.not_false,BZ]
  rfl
 | true=>
  rw[if_neg zS]
  simp only[Bool.not_true,A9]
  by_cases h2:b.length=256
  rw[show(!decide ((b.length:Int)=256))=false by simp;omega,if_neg (by simpa using h2)]
  simp only[A9]
  rw[show Cr b 0 24=some (b.take 24) by rw[show Cr b 0 24=some ((b.drop 0).take (24-0))from Dm (p:=0) (q:=24) rfl rfl zO zO];rfl,U,ow _ zO,U]
  generalize hg:Gg (b.take 24)=g
  obtain⟨hd,ok⟩:=g
  cases ok with
  | false=>
   rw[if_pos rfl]
   rfl
  | true=>
   rw[if_neg zS]
   simp only[Bool.not_true,A9]
   rw[X3 l hd.gen hl zO,U]
   by_cases hf:(C4 l hd.gen).2=0
   obtain⟨_,_,hgen,hrk⟩:=RA hf
   rw[show(!decide ((C4 l hd.gen).2=0))=false by simp[hf],if_neg (by simp[hf])]
   simp only[A9]
   generalize hk:(C4 l hd.gen).1=k at hrk hgen
   rw[dj T k hT hrk hm,U,show Cr b 0 224=some (b.take 224) by rw[show Cr b 0 224=some ((b.drop 0).take (224-0))from Dm (p:=0) (q:=224) rfl rfl zO zO];rfl,U]
   dsimp only
   rw[jO T _ _ hT (by rw[IF];omega) zQ hm,U,show Cr b 224 (b.length:Int)=some (b.drop 224) by rw[show Cr b 224 (b.length:Int)=some ((b.drop 224).take (256-224))from Dm (p:=224) (q:=256) rfl zO zO zO,List.take_of_length_le zQ],U]
   by_cases hmac:NF T (Hn T k Ih) (b.take 224)=b.drop 224
   rw[show(!decide (NF T (Hn T k Ih) (b.take 224)=b.drop 224))=false by simp only[hmac,decide_true,Bool.not_true],if_neg (fun hne=>hne hmac)]
   simp only[A9]
   have hbody:((b.drop 24).take 200).length=200:=by simp;omega
   rw[fc hd zO,U,show Cr b 24 224=some ((b.drop 24).take 200)from Dm (p:=24) (q:=224) rfl rfl zO zO,U,pp _ _ _ (IF T k Hu) (HO hd) zO zO zO,U]
   dsimp only
   rw[pU _ zO,U]
   generalize hu:FJ (Gl (Hn T k Hu) (GP hd) ((b.drop 24).take 200))=u
   by_cases h0:u.2=0
   rw[show(!decide (u.2=0))=false by simp[h0]]
   simp only[A9]
   rw[if_neg]
   have hpu:=j5 (b:=Gl (Hn T k Hu) (GP hd) ((b.drop 24).take 200)) (by rw[hu];exact h0)
   rw[hu]at hpu
   have hputs:OD hd=b.take 24:=by
    unfold Gg at hg
    split at hg
    rename_i hh
    obtain⟨rfl,_⟩:=Prod.mk.inj hg
    exact hh.2
    simp at hg
   have hbd:JO T k hd (JK u.1)=b.take 224:=by
    unfold JO
    rw[hpu.1,Z7,hputs,show b.take 224=b.take (24+200)from rfl,List.take_add]
   have hse:Fe T l hd u.1=(b,0):=by
    unfold Fe
    rw[if_neg (by simp[hf]),if_neg zO,hk]
    unfold JI
    rw[hbd,hmac,List.take_append_drop]
   rw[hse]
   simp[h0]
   rw[show(!decide (u.2=0))=true by simp[h0],if_pos (Or.inl h0)]
   rfl
   rw[show(!decide (NF T (Hn T k Ih) (b.take 224)=b.drop 224))=true by simp only[hmac,decide_false,Bool.not_false],if_pos hmac]
   rfl
   rw[show(!decide ((C4 l hd.gen).2=0))=true by simp[hf],if_pos hf]
   rfl
  rw[show(!decide ((b.length:Int)=256))=true by simp;omega,if_pos (by simpa using h2)]
  rfl
end

section
theorem jc(x:UInt64)(w:Nat)(hw:w≤8){n:Nat}(hm:8<n):DC n x (w:Int)=some (BE x w):=
 (show DC n x (w:Int)=Dp n x (w:Int)from rfl).trans (YZ x w hw hm)
theorem cq(r:Ad):FU r=some (DW r):=by
 unfold FU DW
 rw[A7]
theorem kQ(r:Ad):J5 r=some (J7 r):=by
 unfold J5 J7
 rw[A7]
theorem hO(c:Be):Ep c=some (Ia c):=by
 by_cases hlev:c.lev<0∨31<c.lev
 unfold Ep Ia
 rw[show(decide (c.lev<0)||decide (31<c.lev))=true by simpa using hlev]
 rfl
 obtain⟨L,h⟩:∃L:Nat,c.lev=(L:Int):=⟨c.lev.toNat,by omega⟩
 have hL:L≤31:=zO
 have hmx:decide (max c.x c.y<2147483648)=(decide (c.x.toNat<2147483648)&&decide (c.y.toNat<2147483648)):=by
  rw[Bool.eq_iff_iff]
  simp only[Bool.and_eq_true,decide_eq_true_eq,UInt32.lt_iff_toNat_lt,Jt]
  have h6:(2147483648:UInt32).toNat=2147483648:=rfl
  omega
 have hge:∀x:UInt32,decide ((2147483648:UInt32)≤x) = !decide (x.toNat<2147483648):=fun x=>by
  rw[Bool.eq_iff_iff]
  simp only[Bool.not_eq_true',decide_eq_true_eq,decide_eq_false_iff_not,UInt32.le_iff_toNat_le]
  have h6:(2147483648:UInt32).toNat=2147483648:=rfl
  omega
 have z:∀x:UInt32,decide (x.toUInt64%shl64 1 L=0)=decide (x.toNat%2^L=0):=fun x=>by
  rw[decide_eq_decide,←UInt64.toNat_inj,UInt64.toNat_mod,UInt32.toNat_toUInt64,MO hL]
  rfl
 have hor:decide ((c.x ||| c.y) &&& (shl64 1 L-1).toUInt32=0)=(decide (c.x.toNat%2^L=0)&&decide (c.y.toNat%2^L=0)):=by
  rw[Bool.eq_iff_iff]
  simp only[Bool.and_eq_true,decide_eq_true_eq]
  rw[←UInt32.toNat_inj,UInt32.toNat_and,iW hL,UInt32.toNat_or,Nat.and_two_pow_sub_one_eq_mod,Nat.or_mod_two_pow]
  exact Nat.or_eq_zero_iff
 unfold Ep Ia
 rw[hge,hge,hmx,h,Int.toNat_natCast,hor,zf (show ¬(L:Int)<0 by omega),zf (show ¬31<(L:Int) by omega),X4 h hL,U,ed hL,U,U,ed hL,U,z,z]
 generalize decide (c.x.toNat<2147483648)=A
 generalize decide (c.y.toNat<2147483648)=B
 generalize decide (c.x.toNat%2^L=0)=C
 generalize decide (c.y.toNat%2^L=0)=D
 cases A<;>cases B<;>cases C<;>cases D<;>rfl
theorem Z4(x:BP)(hk:x.kids.length≤1048576):∀(d k m:Nat),k+d=x.kids.length→d<m→Ff x m (k:Int)=some ((x.kids.drop k).all DW&&Ia ⟨x.cx,x.cy,x.lev⟩)
 | _,_,0,_,h=>absurd h (Nat.not_lt_zero _)
 | 0,k,m+1,hkd,_=>by
  show EV x (Ff x m) _=_
  unfold EV KO
  rw[zf zO,A9,hO,U,show x.kids.drop k=[]from List.drop_eq_nil_of_le zO]
  rfl
 | d+1,k,m+1,hkd,hm=>by
  have hkl:k<x.kids.length:=zO
  have n1:Aq x.kids (k:Int)=some x.kids[k]:=by rw[D1 rfl,List.getElem?_eq_getElem hkl]
  have ih:=Z4 x hk d (k+1) m zO zO
  show EV x (Ff x m) _=_
  unfold EV
  rw[zt zO,BZ,n1,U,cq,U,A7,BC zO zO,show((k:Int)+1)=((k+1:Nat):Int) by omega,ih,List.drop_eq_getElem_cons hkl,List.all_cons]
  cases DW x.kids[k]<;>rfl
theorem N7{n:Nat}(x:BP)(hr:x.rows.length<n)(hk:x.kids.length<n)(hb:x.rows.length≤1048576)(hc:x.kids.length≤1048576):Iz n x=some (CN x):=by
 unfold Iz CN
 cases hk1:decide (x.kind=1)with
 | true=>
  rw[BZ,BZ,XV hr hb,U,cq,U,kQ,U,Mh,U,GZ,U,A7]
  generalize decide ((x.rows.length:Int)≤4)=A
  generalize Cp x.rows=B
  generalize DW ⟨x.npage,x.ntag⟩=C
  generalize J7 ⟨x.npage,x.ntag⟩=D
  generalize decide ((x.kids.length:Int)=0)=E9
  generalize (decide (x.cx=0)&&(decide (x.cy=0)&&(decide (x.lev=0)&&true)))=F
  cases A<;>cases B<;>cases C<;>cases D<;>cases E9<;>cases F<;>rfl
 | false=>
  rw[A9,A9,kQ,U,Mh,U,show Ff x n 0=_ from Z4 x hc x.kids.length 0 n zO hk,List.drop_zero]
  rw[show decide (0<(x.rows.length:Int)) = !decide ((x.rows.length:Int)=0) by rw[Bool.eq_iff_iff];simp only[Bool.not_eq_true',decide_eq_true_eq,decide_eq_false_iff_not];omega,show decide ((x.kids.length:Int)<2) = !decide (2≤(x.kids.length:Int)) by rw[Bool.eq_iff_iff];simp,show decide (4<(x.kids.length:Int)) = !decide ((x.kids.length:Int)≤4) by rw[Bool.eq_iff_iff];simp,show decide (x.lev<1) = !decide (0<x.lev) by rw[Bool.eq_iff_iff];simp;omega]
  generalize decide (x.kind=2)=A
  generalize decide ((x.rows.length:Int)=0)=B
  generalize J7 ⟨x.npage,x.ntag⟩=C
  generalize decide (2≤(x.kids.length:Int))=D
  generalize decide ((x.kids.length:Int)≤4)=E9
  generalize decide (0<x.lev)=F
  generalize x.kids.all DW=G
  generalize Ia ⟨x.cx,x.cy,x.lev⟩=I
  cases A<;>cases B<;>cases C<;>cases D<;>cases E9<;>cases F<;>cases G<;>cases I<;>rfl
end

section
theorem Vb{x:UInt64}{n:Nat}(hm:8<n):DC n x 1=some (BE x 1):=jc x 1 zO hm
theorem RG{x:UInt64}{n:Nat}(hm:8<n):DC n x 4=some (BE x 4):=jc x 4 zO hm
theorem oN{x:UInt64}{n:Nat}(hm:8<n):DC n x 8=some (BE x 8):=jc x 8 zO hm
theorem Id{r:Ad}(h:r.tag.length=32):CX r=BE r.page.toUInt64 4++r.tag:=by
 unfold CX
 rw[h]
 simp
theorem cL{n:Nat}(x:BP)(hn:8<n)(hb:x.kids.length≤4):∀(T S:List Ad) (s:List UInt8),x.kids=S++T→(∀r∈T,r.tag.length=32)→s.length+36*T.length≤100000→∀m,T.length<m→
  Ez n x m (s,(S.length:Int))=some (s++(T.map CX).flatten,0)
 | _,_,_,_,_,_,0,h=>absurd h (Nat.not_lt_zero _)
 | [],S,s,hS,_,_,m+1,_=>by
  have hl:=congrArg List.length hS
  simp only[List.append_nil]at hl
  show ED n x (Ez n x m) _ _=_
  unfold ED Jf
  dsimp only
  rw[zf zO,A9]
  simp
 | r::T,S,s,hS,ht,hl,m+1,hm=>by
  have hlen:=congrArg List.length hS
  simp only[List.length_append,List.length_cons]at hlen hl hm
  have n1:Aq x.kids (S.length:Int)=some r:=by
   rw[D1 rfl,hS]
   simp
  have h32:=ht r zS
  have ih:=cL x hn hb T (S++[r]) (s++CX r) (by rw[hS];simp) (fun q hq=>ht q (by simp[hq])) (by rw[Id h32];simp[Aj,h32];omega) m zO
  show ED n x (Ez n x m) _ _=_
  unfold ED
  dsimp only
  rw[zt zO,BZ,n1,U,RG hn,U,Co (by simp[Aj];omega),U,U,Co (by simp[Aj,h32];omega),U,A7,BC zO zO]
  rw[show((S++[r]).length:Int)=(S.length:Int)+1 by simp only[List.length_append,List.length_singleton];omega]at ih
  rw[show s++BE r.page.toUInt64 4++r.tag=s++CX r by rw[Id h32,List.append_assoc],ih]
  simp
theorem bW{n:Nat}(x:BP)(hn:8<n)(hb:x.rows.length≤4):∀(T S:List AM) (s:List UInt8),x.rows=S++T→(∀r∈T,r.txt.length≤16)→s.length+33*T.length≤100000→∀m,T.length<m→
  E0 n x m (s,(S.length:Int))=some (s++(T.map CI).flatten,0)
 | _,_,_,_,_,_,0,h=>absurd h (Nat.not_lt_zero _)
 | [],S,s,hS,_,_,m+1,_=>by
  have hl:=congrArg List.length hS
  simp only[List.append_nil]at hl
  show EF n x (E0 n x m) _ _=_
  unfold EF JY
  dsimp only
  rw[zf zO,A9]
  simp
 | r::T,S,s,hS,ht,hl,m+1,hm=>by
  have hlen:=congrArg List.length hS
  simp only[List.length_append,List.length_cons]at hlen hl hm
  have n1:Aq x.rows (S.length:Int)=some r:=by
   rw[D1 rfl,hS]
   simp
  have h16:=ht r zS
  have ih:=bW x hn hb T (S++[r]) (s++CI r) (by rw[hS];simp) (fun q hq=>ht q (by simp[hq])) (by unfold CI;simp[Aj];omega) m zO
  show EF n x (E0 n x m) _ _=_
  unfold EF
  dsimp only
  rw[zt zO,BZ,n1,U,oN hn,U,Co (by simp[Aj];omega),U,RG hn,U,Co (by simp[Aj];omega),U,RG hn,U,Co (by simp[Aj];omega),U,
   Vb hn,U,Co (by simp[Aj];omega),U,Co (by simp[Aj];omega),U,A7,BC zO zO]
  rw[show((S++[r]).length:Int)=(S.length:Int)+1 by simp only[List.length_append,List.length_singleton];omega]at ih
  rw[show s++BE r.id 8++BE r.x.toUInt64 4++BE r.y.toUInt64 4++BE (BX (r.txt.length:Int)) 1++r.txt=s++CI r by unfold CI;simp,ih]
  simp
theorem eR{n:Nat}{x:BP}(hn:10≤n)(h:CN x=true):EK n x=some (Cm x,0):=by
 by_cases hk:x.kind=1
 obtain⟨h1,h2,h3,h4,h5,h6,h7⟩:=EP h hk
 unfold EK
 rw[N7 x zO (by rw[h4];simp;omega) zO (by rw[h4];simp),U,h,Bool.not_true,A9,show decide (x.kind=2)=false by rw[hk];rfl,A9]
 have run:∀tag:List UInt8,tag.length=32→tag=x.ntag++List.replicate (32-x.ntag.length) 0→Fz n x tag=some (Cm x,0):=by
  intro tag ht he
  unfold Fz
  rw[Vb zO,U,Co (by simp[Aj]),U,RG zO,U,Co (by simp[Aj]),U,Co (by simp[Aj,ht]),U]
  have:=bW (n:=n) x zO zO x.rows [] ([1]++BE (BX (x.rows.length:Int)) 1++BE x.npage.toUInt64 4++tag) rfl (Kp h6) (by simp[Aj,ht];omega) n zO
  refine(show E0 n x n _=_ from this).trans ?_
  unfold Cm CX
  rw[show decide (x.kind=2)=false by rw[hk];rfl,A9,hk,he]
  rw[show BE (BX 1) 1=[1]from rfl]
  simp
 unfold JT
 rcases h7 with h7 | h7
 rw[h7.2,show decide (([]:List UInt8)=[])=true from rfl,BZ]
 have:VT 1 32 (0:UInt8)=some (List.replicate 32 0):=if_pos ⟨by omega,by decide,by omega⟩
 rw[this,U]
 exact run _ zS (by rw[h7.2];rfl)
 have h32:=(D0 h7).1
 simp only at h32
 rw[show decide (x.ntag=[])=false from zf (fun e=>by rw[e]at h32;simp at h32),A9]
 exact run _ h32 (by rw[h32];simp)
 obtain⟨hk2,h1,h2,h3,h4,h5,h6,h7,h8⟩:=Dx h hk
 unfold EK
 rw[N7 x (by rw[h2];simp;omega) zO (by rw[h2];simp) zO,U,h,Bool.not_true,A9,show decide (x.kind=2)=true by rw[hk2];rfl,BZ,
  Vb zO,U,Co (by simp[Aj]),U,Vb zO,U,Co (by simp[Aj]),U,RG zO,U,Co (by simp[Aj]),U,RG zO,U,Co (by simp[Aj]),U]
 have:=cL (n:=n) x zO zO x.kids [] ([2]++BE (BX (x.kids.length:Int)) 1++BE (BX x.lev) 1++BE x.cx.toUInt64 4++BE x.cy.toUInt64 4) rfl (fun r hr=>(D0 (h1 r hr)).1) (by simp[Aj];omega) n zO
 refine(show Ez n x n _=_ from this).trans ?_
 unfold Cm
 rw[show decide (x.kind=2)=true by rw[hk2];rfl,BZ,hk2,show BE (BX 2) 1=[2]from rfl]
 simp
theorem ez{n:Nat}{x:BP}(hr:x.rows.length<n)(hk:x.kids.length<n)(hb:x.rows.length≤1048576)(hc:x.kids.length≤1048576)(h:CN x=false):EK n x=some ([],90):=by
 unfold EK
 rw[N7 x hr hk hb hc,U,h]
 rfl
theorem Ti{n:Nat}{x:BP}(hn:10≤n)(hr:x.rows.length<n)(hk:x.kids.length<n)(hb:x.rows.length≤1048576)(hc:x.kids.length≤1048576):EK n x=El n x:=by
 cases h:CN x with
 | true=>rw[eR hn h,Rt hn h]
 | false=>rw[ez hr hk hb hc h,Zw hr hk zO zO h]
end

section
theorem Rx{b:List UInt8}{w:Nat}(h:b.length=w)(hw:w≤8):BE (B9 b w) w=b:=by
 rw[Sx b w hw zO,←h,List.take_length]
theorem ay{b:List UInt8}{w:Nat}(h:b.length=w)(hw:w≤8):(B9 b w).toNat<2^(8*w):=by
 have h1:=NV (B9 b w) w [] hw w (Nat.le_refl _)
 rw[List.append_nil,Rx h hw]at h1
 rw[h1]
 exact Nat.mod_lt _ (Nat.two_pow_pos _)
def Vj(q q':Cs)(b:List UInt8):Prop:=q'.short=false→q.short=false∧q.s=b++q'.s
theorem Vj.trans{q q' q'':Cs}{a b:List UInt8}(h:Vj q q' a)(h':Vj q' q'' b):Vj q q'' (a++b):=fun h0=>by
 obtain⟨h1,h2⟩:=h' h0
 obtain⟨h3,h4⟩:=h h1
 exact⟨h3,by rw[h4,h2,List.append_assoc]⟩
theorem WF(q:Cs){k:Nat}{K:Int}(hK:K=(k:Int))(hk:k≤8192):∃b q',Da q K=some (b,q')∧b.length=k∧Vj q q' b:=by
 subst hK
 obtain⟨s,sh⟩:=q
 unfold Da
 by_cases h:s.length<k
 rw[zt (by simp only;omega),BZ,Yz k rfl hk,U]
 exact⟨_,_,rfl,by simp,fun h=>by simp at h⟩
 rw[zf (by simp only;omega),A9]
 dsimp only
 rw[Dm (l:=s) (i:=0) (p:=0) (q:=k) rfl rfl zO zO,U,Dm (l:=s) (p:=k) (q:=s.length) rfl rfl zO zO,U]
 refine⟨_,_,rfl,by simp;omega,fun h'=>⟨h',?_⟩⟩
 simp only[List.drop_zero,Nat.sub_zero]
 rw[List.take_of_length_le (i:=s.length-k) zS,List.take_append_drop]
theorem Lo(q:Cs){w:Nat}{K:Int}(hK:K=(w:Int))(hw:w≤8):∃v q',CF q K=some (v,q')∧v.toNat<2^(8*w)∧Vj q q' (BE v w):=by
 obtain⟨b,q',h1,h2,h3⟩:=WF q hK zO
 unfold CF
 rw[h1,U]
 simp only
 rw[if_pos zO,h2]
 exact⟨_,_,rfl,ay h2 hw,by rw[Rx h2 hw];exact h3⟩
theorem O0{v:UInt64}(h:v.toNat<2^(8*4)):v.toUInt32.toUInt64=v:=by
 apply UInt64.toNat_inj.1
 simp
 omega
theorem hQ(q:Cs):∃r q',EJ q=some (r,q')∧r.tag.length=32∧Vj q q' (CX r):=by
 obtain⟨v,q1,h1,h2,h3⟩:=Lo q (w:=4) (K:=4) rfl zO
 obtain⟨b,q2,g1,g2,g3⟩:=WF q1 (k:=32) (K:=32) rfl zO
 unfold EJ
 rw[h1,U,g1,U]
 refine⟨_,_,rfl,g2,?_⟩
 have:=h3.trans g3
 rw[Id g2]
 simpa only[O0 h2]using this
theorem Me{v:UInt64}(h:v.toNat<256):BX ((v.toNat:Nat):Int)=v:=by
 apply UInt64.toNat_inj.1
 rw[Cq zO]
theorem nw(q:Cs):∃r q',Lb q=some (r,q')∧Vj q q' (CI r):=by
 obtain⟨a,q1,h1,h2,h3⟩:=Lo q (w:=8) (K:=8) rfl zO
 obtain⟨b,q2,g1,g2,g3⟩:=Lo q1 (w:=4) (K:=4) rfl zO
 obtain⟨c,q3,i1,i2,i3⟩:=Lo q2 (w:=4) (K:=4) rfl zO
 obtain⟨d,q4,j1,j2,j3⟩:=Lo q3 (w:=1) (K:=1) rfl zO
 have hd:d.toNat<256:=j2
 obtain⟨e,q5,k1,k2,k3⟩:=WF q4 (k:=d.toNat) (K:=wI (d.toNat:Int)) (BC zO zO) zO
 unfold Lb
 rw[h1,U,g1,U,i1,U,j1,U,k1,U]
 refine⟨_,_,rfl,?_⟩
 have:=h3.trans (g3.trans (i3.trans (j3.trans k3)))
 simpa only[CI,O0 g2,O0 i2,k2,Me hd]using this
theorem bj{y1:UInt64×Cs}{y9 y10:UInt32}{y11:Int}{l3:List Ad}{y16:Ad×Cs}{y17:List UInt8}(N:Nat):∀(k:Nat) (S:List AM) (q:Cs) (m:Nat),S.length+k=5→k<m→S.length≤4→
  ∃S' q',J3 y1 y9 y10 y11 l3 y16 y17 (H4 (N:Int)) (Oa (N:Int)) m (S.length,q) (q,S)=some (⟨wI (y1.1.toNat:Int),y9,y10,y11,S',l3,y16.1.page,y17⟩,q')∧S'.length≤5∧
   (S'.length≤4→q'.short=false→∃T,S'=S++T∧S'.length=max N S.length∧Vj q q' (T.map CI).flatten)
 | 0,S,q,m,hk,_,hl=>by omega
 | k+1,S,q,m,hk,hm,hl=>by
  obtain⟨m,rfl⟩:∃j,m=j+1:=⟨m-1,by omega⟩
  unfold J3
  rw[L9]
  by_cases hN:N≤S.length
  rw[show Oa (N:Int) (S.length,q)=true by simp only[Oa,decide_eq_true_eq];omega,BZ]
  unfold Qv Ni
  exact⟨S,q,rfl,by omega,fun _ h=>⟨[],by simp,by omega,fun h=>⟨h,rfl⟩⟩⟩
  rw[show Oa (N:Int) (S.length,q)=false by simp only[Oa,decide_eq_false_iff_not];omega,A9]
  obtain⟨r,q1,h1,h2⟩:=nw q
  have hst:H4 (N:Int) (S.length,q)=some (r,(S.length+1,q1)):=by
   unfold H4
   simp only
   rw[if_pos zO,h1,U]
  rw[hst,U]
  simp only[MW]
  rw[CG zQ zQ,U]
  cases hb:q1.short||decide (4<((S++[r]).length:Int))with
  | true=>
   rw[BZ]
   unfold Ts Ni
   refine⟨_,_,rfl,by simp;omega,fun h4 hs=>?_⟩
   rw[hs,Bool.false_or,decide_eq_true_eq]at hb
   omega
  | false=>
   rw[A9]
   rw[Bool.or_eq_false_iff,decide_eq_false_iff_not]at hb
   have hl':(S++[r]).length=S.length+1:=by simp
   obtain⟨S',q',g1,g2,g3⟩:=bj (y1:=y1) (y9:=y9) (y10:=y10) (y11:=y11) (l3:=l3) (y16:=y16) (y17:=y17) N k (S++[r]) q1 m zO zO zO
   rw[hl']at g1
   refine⟨S',q',g1,g2,fun h4 hs=>?_⟩
   obtain⟨T,e1,e2,e3⟩:=g3 h4 hs
   refine⟨r::T,by rw[e1];simp,by rw[e2,hl'];omega,?_⟩
   simpa using h2.trans e3
theorem cO{y1:UInt64×Cs}{y12 y13 y14:UInt64×Cs}(N:Nat):∀(k:Nat) (S:List Ad) (q:Cs) (m:Nat),S.length+k=min N 5→k<m→
  ∃S' q',LM y1 (N:Int) y12 y13 y14 m (q,S,(S.length:Int))=some (⟨wI (y1.1.toNat:Int),y13.1.toUInt32,y14.1.toUInt32,wI (y12.1.toNat:Int),[],S',0,[]⟩,q')∧S'.length=min N 5∧
   ∃T,S'=S++T∧Vj q q' (T.map CX).flatten
 | 0,S,q,m,hk,hm=>by
  obtain⟨m,rfl⟩:∃j,m=j+1:=⟨m-1,by omega⟩
  show ∃S' q',GE _ _ _ _ _ (LM _ _ _ _ _ m) _ _ _=_∧_
  unfold GE
  dsimp only
  rw[zf zO,A9]
  unfold Qe
  exact⟨S,q,rfl,by omega,[],by simp,fun h=>⟨h,rfl⟩⟩
 | k+1,S,q,m,hk,hm=>by
  obtain⟨m,rfl⟩:∃j,m=j+1:=⟨m-1,by omega⟩
  show ∃S' q',GE _ _ _ _ _ (LM _ _ _ _ _ m) _ _ _=_∧_
  unfold GE
  dsimp only
  obtain⟨r,q1,h1,-,h2⟩:=hQ q
  have hl':(S++[r]).length=S.length+1:=by simp
  rw[zt zO,BZ,h1,U,CG zQ zQ,U,BC zO zO]
  obtain⟨S',q',g1,g2,T,g3,g4⟩:=cO (y1:=y1) (y12:=y12) (y13:=y13) (y14:=y14) N k (S++[r]) q1 m zO zO
  rw[hl']at g1
  refine⟨S',q',by simpa using g1,g2,r::T,by rw[g3];simp,?_⟩
  simpa using h2.trans g4
theorem mE{n:Nat}(hn:10≤n)(s:List UInt8):∃x q',Uk n ⟨s,false⟩=some (x,q')∧x.rows.length≤5∧x.kids.length≤5∧(q'.short=false→q'.s=[]→CN x=true→s=Cm x):=by
 obtain⟨a,q1,h1,h2,h3⟩:=Lo ⟨s,false⟩ (w:=1) (K:=1) rfl zO
 obtain⟨b,q2,g1,g2,g3⟩:=Lo q1 (w:=1) (K:=1) rfl zO
 have ha:a.toNat<256:=h2
 have hb:b.toNat<256:=g2
 have ea:wI (a.toNat:Int)=(a.toNat:Int):=BC zO zO
 unfold Uk
 rw[h1,U,g1,U,A7]
 simp only
 rw[ea,BC (x:=(b.toNat:Int)) zO zO]
 by_cases hk:(a.toNat:Int)=2
 rw[zt hk,BZ]
 obtain⟨c,q3,i1,i2,i3⟩:=Lo q2 (w:=1) (K:=1) rfl zO
 obtain⟨d,q4,j1,j2,j3⟩:=Lo q3 (w:=4) (K:=4) rfl zO
 obtain⟨e,q5,k1,k2,k3⟩:=Lo q4 (w:=4) (K:=4) rfl zO
 rw[i1,U,j1,U,k1,U]
 have hc:c.toNat<256:=i2
 obtain⟨S',q',l1,l2,T,l3,l4⟩:=cO (y1:=(a,q1)) (y12:=(c,q3)) (y13:=(d,q4)) (y14:=(e,q5)) b.toNat (min b.toNat 5) [] q5 n zS zO
 rw[List.nil_append]at l3
 subst l3
 refine⟨_,_,l1,by simp,by simp only;omega,fun hs he hp=>?_⟩
 simp only[ea,BC (x:=(c.toNat:Int)) zO zO]at hp ⊢
 obtain⟨-,-,-,-,-,-,hle,-⟩:=Dx hp (by simp only;omega)
 simp only at hle
 have ht:=(h3.trans (g3.trans (i3.trans (j3.trans (k3.trans l4))))) hs
 rw[he,List.append_nil]at ht
 unfold Cm
 simp only
 rw[zt hk,BZ,O0 j2,O0 k2,Me ha,Me hc,show(S'.length:Int)=((b.toNat:Nat):Int) by omega,Me hb]
 exact ht.2
 rw[zf hk,A9]
 unfold Qy
 obtain⟨r,q3,i1,i2,i3⟩:=hQ q2
 rw[i1,U,js,U]
 have key:∀tg:List UInt8,CX ⟨r.page,tg⟩=CX r→∃x q',MV n (a,q1) (b.toNat:Int) 0 0 0 [] (r,q3) tg=some (x,q')∧x.rows.length≤5∧x.kids.length≤5∧(q'.short=false→q'.s=[]→CN x=true→s=Cm x):=by
  intro tg htg
  unfold MV TF
  rw[if_pos zO,U]
  obtain⟨S',q',l1,l2,l3⟩:=bj (y1:=(a,q1)) (y9:=0) (y10:=0) (y11:=0) (l3:=[]) (y16:=(r,q3)) (y17:=tg) b.toNat 5 [] q3 n rfl zO zS
  refine⟨_,_,l1,l2,by simp,fun hs he hp=>?_⟩
  simp only[ea]at hp ⊢
  have hk1:(a.toNat:Int)=1:=by
   by_cases h:(a.toNat:Int)=1
   exact h
   exact absurd (Dx hp h).1 hk
  have hle:=(EP hp hk1).2.2.2.2.1
  simp only at hle
  obtain⟨T,e1,e2,e3⟩:=l3 hle hs
  rw[List.nil_append]at e1
  subst e1
  have ht:=(h3.trans (g3.trans (i3.trans e3))) hs
  rw[he,List.append_nil]at ht
  unfold Cm
  simp only
  rw[zf hk,A9,Me ha,show(S'.length:Int)=((b.toNat:Nat):Int) by simp at e2;omega,Me hb,htg]
  exact ht.2
 cases hc:decide (r.page=0)&&(decide (r.tag=List.replicate 32 0)&&true)with
 | true=>
  rw[BZ]
  simp only[Bool.and_true,Bool.and_eq_true,decide_eq_true_eq]at hc
  refine key [] ?_
  unfold CX
  rw[hc.2]
  rfl
 | false=>
  rw[A9]
  exact key r.tag rfl
def TL:BP:=⟨0,0,0,0,[],[],0,[]⟩
theorem XP{n:Nat}(hn:10≤n)(s:List UInt8):(∃x,CN x=true∧s=Cm x∧Er n s=some (x,0))∨((∀x,CN x=true→s≠Cm x)∧Er n s=some (TL,90)):=by
 obtain⟨x,q',h1,h2,h3,h4⟩:=mE hn s
 have hd:Er n s=cond ((q'.short || !decide (q'.s=[])) || !CN x) (some (TL,90)) (some (x,0)):=by
  unfold Er
  rw[h1,U,Le x zO zO zO zO,U,Mh,U]
  rfl
 cases hc:(q'.short || !decide (q'.s=[])) || !CN x with
 | false=>
  rw[hc,A9]at hd
  simp only[Bool.or_eq_false_iff,Bool.not_eq_false',decide_eq_true_eq]at hc
  exact .inl ⟨x,hc.2,h4 hc.1.1 hc.1.2 hc.2,hd⟩
 | true=>
  rw[hc,BZ]at hd
  refine .inr ⟨fun z hz e=>?_,hd⟩
  rw[e,SM hn hz]at hd
  have h:(0:Int)=90:=congrArg (·.2) (zI hd)
  cases h
end

section
theorem Zt{n:Nat}(hn:8<n){s:List UInt8}(hs:s.length≤8):Ew n s=some (B9 s s.length):=
 (show Ew n s=F5 n s from rfl).trans (oI s hs hn)
theorem Mj{v:UInt64}{w:Nat}(hw:w≤8)(hv:v.toNat<2^(8*w)):B9 (BE v w) w=v:=by
 apply UInt64.toNat_inj.1
 have:=NV v w [] hw w (Nat.le_refl _)
 simp only[List.append_nil]at this
 rw[this,Nat.mod_eq_of_lt hv]
theorem Us{n:Nat}(hn:8<n){v:UInt64}{w:Nat}(hw:w≤8)(hv:v.toNat<2^(8*w)):Ew n (BE v w)=some v:=by
 rw[Zt hn (by rw[Aj];exact hw),Aj,Mj hw hv]
theorem Nx{s a b c:List UInt8}{i j:Int}(h:s=a++(b++c))(hi:i=(a.length:Int))(hj:j=((a.length+b.length:Nat):Int)):Cr s i j=some b:=by
 rw[Dm (p:=a.length) (q:=a.length+b.length) hi hj zO (by rw[h];simp),h]
 simp
theorem OC{k:Nat}(h:k<256):∃c:UInt8,BE (BX (k:Int)) 1=[c]∧c.toNat=k:=by
 obtain⟨c,hc⟩:∃c,BE (BX (k:Int)) 1=[c]:=List.length_eq_one_iff.1 (Aj _ _)
 refine⟨c,hc,?_⟩
 have h1:=Mj (v:=BX (k:Int)) (w:=1) zO (by rw[Cq zO];omega)
 have h2:=Nm [c] 1 zO zS
 rw[←hc,h1,Cq zO,hc]at h2
 simp[OS]at h2
 omega
theorem P2(c:UInt8):BE (BX (c.toNat:Int)) 1=[c]:=by
 have:=c.toNat_lt
 obtain⟨d,h1,h2⟩:=OC (k:=c.toNat) zO
 rw[h1,UInt8.toNat_inj.1 h2]
theorem Fd{b:List UInt8}{k:Nat}(h:k≤b.length):∃u v,b=u++v∧u.length=k:=⟨b.take k,b.drop k,(List.take_append_drop k b).symm,by simp;omega⟩
theorem Qo{u:List UInt8}(h:u.length=4):BE (B9 u 4).toUInt32.toUInt64 4=u:=by
 rw[O0 (ay h zO),Rx h zO]
theorem iV{b:List UInt8}(h:17≤b.length){c:UInt8}(hc:b[16]? = some c)(hl:17+c.toNat≤b.length):∃r rest,b=CI r++rest∧r.txt.length=c.toNat:=by
 obtain⟨u1,b1,rfl,l1⟩:=Fd (show 8≤b.length by omega)
 obtain⟨u2,b2,rfl,l2⟩:=Fd (show 4≤b1.length by simp at h;omega)
 obtain⟨u3,b3,rfl,l3⟩:=Fd (show 4≤b2.length by simp at h;omega)
 obtain⟨u4,b4,rfl,l4⟩:=Fd (show 1≤b3.length by simp at h;omega)
 obtain⟨u5,b5,rfl,l5⟩:=Fd (show c.toNat≤b4.length by simp at hl;omega)
 obtain⟨d,rfl⟩:=List.length_eq_one_iff.1 l4
 have hd:d=c:=by
  have e:(u1++(u2++(u3++([d]++(u5++b5)))))[16]? = some d:=by
   rw[show u1++(u2++(u3++([d]++(u5++b5))))=(u1++u2++u3)++(d::(u5++b5)) by simp,List.getElem?_append_right zQ]
   simp[l1,l2,l3]
  exact zI (e.symm.trans hc)
 subst hd
 refine⟨⟨B9 u1 8,(B9 u2 4).toUInt32,(B9 u3 4).toUInt32,u5⟩,b5,?_,l5⟩
 unfold CI
 simp only
 rw[Rx l1 zO,Qo l2,Qo l3,l5,P2]
 simp
theorem kC{r:AM}(h:r.txt.length≤255)(rest:List UInt8):17+r.txt.length≤(CI r++rest).length∧∃c:UInt8,(CI r++rest)[16]? = some c∧c.toNat=r.txt.length:=by
 obtain⟨c,h1,h2⟩:=OC (k:=r.txt.length) zO
 refine⟨by rw[List.length_append,Oq];omega,c,?_,h2⟩
 unfold CI
 rw[h1,show(BE r.id 8++(BE r.x.toUInt64 4++(BE r.y.toUInt64 4++([c]++r.txt))))++rest=(BE r.id 8++BE r.x.toUInt64 4++BE r.y.toUInt64 4)++(c::(r.txt++rest)) by simp,
  List.getElem?_append_right (by simp[Aj])]
 simp[Aj]
theorem Z6{n:Nat}(hn:8<n){s:List UInt8}(hs:s.length≤1048576){c:UInt8}(hc:Aq s 1=some c){y1:UInt64}{y2:List UInt8}:∀(k:Nat) (S:List AM) (pre b:List UInt8) (m:Nat),s=pre++b→S.length+k=c.toNat→k<m→
  (∃(T:List AM) (rest:List UInt8),b=(T.map CI).flatten++rest∧T.length=k∧(∀r∈T,r.txt.length≤255)∧
   E7 n s y1 y2 m (0,0,0,0,[],[],0,[],S,(pre.length:Int),(S.length:Int))=some (⟨1,0,0,0,S++T,[],y1.toUInt32,y2⟩,decide (rest=[])))∨
  ((∀(T:List AM) (rest:List UInt8),T.length=k→(∀r∈T,r.txt.length≤255)→b≠(T.map CI).flatten++rest)∧
   ∃R:List AM,R.length≤255∧E7 n s y1 y2 m (0,0,0,0,[],[],0,[],S,(pre.length:Int),(S.length:Int))=some (⟨1,0,0,0,R,[],y1.toUInt32,y2⟩,false))
 | 0,S,pre,b,m,hb,hk,hm=>by
  obtain⟨m,rfl⟩:∃j,m=j+1:=⟨m-1,by omega⟩
  refine .inl ⟨[],b,by simp,rfl,by simp,?_⟩
  show E3 n s y1 y2 (E7 n s y1 y2 m) 0 0 0 0 [] [] 0 [] S _ _=_
  unfold E3
  dsimp only
  rw[hc,U,zf zO,A9]
  unfold LP
  rw[A7,List.append_nil]
  have:decide ((pre.length:Int)=(s.length:Int))=decide (b=[]):=by
   rw[decide_eq_decide,hb,List.length_append,←List.length_eq_zero_iff]
   omega
  rw[this]
 | k+1,S,pre,b,m,hb,hk,hm=>by
  obtain⟨m,rfl⟩:∃j,m=j+1:=⟨m-1,by omega⟩
  have hc255:=c.toNat_lt
  have hsl:s.length=pre.length+b.length:=by rw[hb];simp
  have hstep:E7 n s y1 y2 (m+1) (0,0,0,0,[],[],0,[],S,(pre.length:Int),(S.length:Int))=E3 n s y1 y2 (E7 n s y1 y2 m) 0 0 0 0 [] [] 0 [] S (pre.length:Int) (S.length:Int):=rfl
  rw[hstep]
  unfold E3
  rw[hc,U,zt zO,BZ,BC (x:=(pre.length:Int)+17) zO zO]
  by_cases h17:b.length<17
  rw[zt zO,BZ]
  refine .inr ⟨fun T rest hT ht e=>?_,S,by omega,rfl⟩
  obtain _ | ⟨r,T⟩:=T
  cases hT
  have:=(kC (ht r zS) ((T.map CI).flatten++rest)).1
  rw[List.map_cons,List.flatten_cons,List.append_assoc]at e
  rw[←e]at this
  omega
  rw[zf zO,A9,BC (x:=(pre.length:Int)+16) zO zO]
  obtain⟨d,hd⟩:∃d,b[16]? = some d:=⟨_,List.getElem?_eq_getElem zO⟩
  have hd':Aq s ((pre.length:Int)+16)=some d:=by
   rw[show(pre.length:Int)+16=((pre.length+16:Nat):Int) by omega,ET,hb,List.getElem?_append_right zO,show pre.length+16-pre.length=16 by omega,hd]
  have hd255:=d.toNat_lt
  rw[hd',U,BC (x:=(pre.length:Int)+17+(d.toNat:Int)) zO zO]
  by_cases hl:b.length<17+d.toNat
  rw[zt zO,BZ]
  refine .inr ⟨fun T rest hT ht e=>?_,S,by omega,rfl⟩
  obtain _ | ⟨r,T⟩:=T
  cases hT
  obtain⟨g1,c',g2,g3⟩:=kC (ht r zS) ((T.map CI).flatten++rest)
  rw[List.map_cons,List.flatten_cons,List.append_assoc]at e
  rw[←e]at g1 g2
  rw[hd]at g2
  obtain rfl:=zI g2
  omega
  rw[zf zO,A9]
  obtain⟨r,rest,hr,hrl⟩:=iV zO hd zO
  obtain⟨c',hc1,hc2⟩:=OC (k:=r.txt.length) zO
  have hs':s=pre++((BE r.id 8++(BE r.x.toUInt64 4++(BE r.y.toUInt64 4++([c']++r.txt))))++rest):=by rw[hb,hr];unfold CI;rw[hc1]
  rw[BC (x:=(pre.length:Int)+8) zO zO,BC (x:=(pre.length:Int)+12) zO zO,
   Nx (a:=pre) (b:=BE r.id 8) (c:=BE r.x.toUInt64 4++(BE r.y.toUInt64 4++([c']++r.txt))++rest) (by rw[hs'];simp) rfl (by rw[Aj];omega),U,
   Us hn zO (by have:=r.id.toNat_lt;omega),U,
   Nx (a:=pre++BE r.id 8) (b:=BE r.x.toUInt64 4) (c:=(BE r.y.toUInt64 4++([c']++r.txt))++rest) (by rw[hs'];simp) (by rw[List.length_append,Aj];omega) (by rw[List.length_append,Aj,Aj];omega),U,
   Us hn zO (by have:=r.x.toNat_lt;simp;omega),U,
   Nx (a:=pre++BE r.id 8++BE r.x.toUInt64 4) (b:=BE r.y.toUInt64 4) (c:=([c']++r.txt)++rest) (by rw[hs'];simp) (by simp[Aj]<;>omega) (by simp[Aj]<;>omega),U,
   Us hn zO (by have:=r.y.toNat_lt;simp;omega),U,
   Nx (a:=pre++BE r.id 8++BE r.x.toUInt64 4++BE r.y.toUInt64 4++[c']) (b:=r.txt) (c:=rest) (by rw[hs'];simp) (by simp[Aj]<;>omega) (by simp[Aj]<;>omega),U,
   CG zQ zQ,U,A7,BC (x:=(S.length:Int)+1) zO zO,A7]
  have hrr:(⟨r.id,r.x.toUInt64.toUInt32,r.y.toUInt64.toUInt32,r.txt⟩:AM)=r:=by simp
  rw[hrr]
  have e1:(pre.length:Int)+17+(d.toNat:Int)=((pre++CI r).length:Int):=by rw[List.length_append,Oq];omega
  have e2:(S.length:Int)+1=((S++[r]).length:Int):=by simp
  rw[e1,e2]
  rcases Z6 hn hs hc (y1:=y1) (y2:=y2) k (S++[r]) (pre++CI r) rest m (by rw[hb,hr];simp) zQ zO with⟨T,rest',g1,g2,g3,g4⟩ | ⟨g1,R,g2,g3⟩
  refine .inl ⟨r::T,rest',by rw[hr,g1];simp,by simp[g2],fun q hq=>?_,by rw[g4];simp⟩
  rcases List.mem_cons.1 hq with rfl | hq
  omega
  exact g3 q hq
  refine .inr ⟨fun T rest' hT ht e=>?_,R,g2,g3⟩
  obtain _ | ⟨r',T⟩:=T
  cases hT
  rw[hr,List.map_cons,List.flatten_cons,List.append_assoc]at e
  have hrow:∀(q:AM) (t:List UInt8),q.txt.length≤255→Lb ⟨CI q++t,false⟩=some (q,⟨t,false⟩):=fun q t hq=>by
   unfold Lb CI
   simp only[List.append_assoc]
   rw[pO,U,VH (by have:=q.x.toNat_lt;simp;omega),U,VH (by have:=q.y.toNat_lt;simp;omega),U,
    W7 (by rw[Cq zO];omega),U]
   simp only
   rw[Cq zO,BC zO zO,S8 rfl,U]
   simp
  have h1:=hrow r rest zO
  rw[e,hrow r' _ (ht r' zS)]at h1
  have h2:=zI h1
  injection h2 with h3 h4
  injection h4 with h5 _
  exact g1 T rest' (by simpa using hT) (fun q hq=>ht q (by simp[hq])) h5.symm
theorem Xb{n:Nat}(hn:8<n){s:List UInt8}(hs:s.length≤1048576){y2 y3:UInt64}{c:UInt8}:∀(k:Nat) (S:List Ad) (pre b:List UInt8) (m:Nat),s=pre++b→b.length=36*k→S.length+k≤255→k<m→
  ∃T:List Ad,b=(T.map CX).flatten∧T.length=k∧(∀r∈T,r.tag.length=32)∧Ee n s y2 y3 c m (S,(pre.length:Int))=some (⟨2,y2.toUInt32,y3.toUInt32,(c.toNat:Int),[],S++T,0,[]⟩,true)
 | 0,S,pre,b,m,hb,hk,hS,hm=>by
  obtain⟨m,rfl⟩:∃j,m=j+1:=⟨m-1,by omega⟩
  obtain rfl:b=[]:=List.length_eq_zero_iff.1 zO
  refine⟨[],rfl,rfl,by simp,?_⟩
  show Ed n s y2 y3 c (Ee n s y2 y3 c m) S _=_
  unfold Ed
  dsimp only
  rw[zf (by rw[hb];simp),A9]
  unfold KI
  simp
 | k+1,S,pre,b,m,hb,hk,hS,hm=>by
  obtain⟨m,rfl⟩:∃j,m=j+1:=⟨m-1,by omega⟩
  have hsl:s.length=pre.length+b.length:=by rw[hb];simp
  obtain⟨u1,b1,rfl,l1⟩:=Fd (show 4≤b.length by omega)
  obtain⟨u2,b2,rfl,l2⟩:=Fd (show 32≤b1.length by simp at hk;omega)
  have hstep:Ee n s y2 y3 c (m+1) (S,(pre.length:Int))=Ed n s y2 y3 c (Ee n s y2 y3 c m) S (pre.length:Int):=rfl
  rw[hstep]
  unfold Ed
  rw[zt zO,BZ,BC (x:=(pre.length:Int)+4) zO zO,BC (x:=(pre.length:Int)+36) zO zO,
   Nx (a:=pre) (b:=u1) (c:=u2++b2) hb rfl (by rw[l1];omega),U,Zt hn zO,U,
   Nx (a:=pre++u1) (b:=u2) (c:=b2) (by rw[hb];simp) (by rw[List.length_append,l1];omega) (by rw[List.length_append,l1,l2];omega),U,
   CG zQ zQ,U,A7,l1]
  have e1:(pre.length:Int)+36=((pre++(u1++u2)).length:Int):=by simp only[List.length_append];omega
  rw[e1]
  obtain⟨T,g1,g2,g4,g3⟩:=Xb hn hs (y2:=y2) (y3:=y3) (c:=c) k (S++[⟨(B9 u1 4).toUInt32,u2⟩]) (pre++(u1++u2)) b2 m (by rw[hb];simp) (by simp at hk;omega) zQ zO
  refine⟨⟨(B9 u1 4).toUInt32,u2⟩::T,?_,by simp[g2],fun r hr=>?_,by rw[g3];simp⟩
  rotate_left
  rcases List.mem_cons.1 hr with rfl | hr
  exact l2
  exact g4 r hr
  rw[List.map_cons,List.flatten_cons,←g1,Id l2,Qo l1]
  simp
end

section
theorem PD{a b:UInt64}{w:Nat}(hw:w≤8)(ha:a.toNat<2^(8*w))(hb:b.toNat<2^(8*w))(h:BE a w=BE b w):a=b:=by
 rw[←Mj hw ha,h,Mj hw hb]
theorem VY{q:AM}{t:List UInt8}(hq:q.txt.length≤255):Lb ⟨CI q++t,false⟩=some (q,⟨t,false⟩):=by
 unfold Lb CI
 simp only[List.append_assoc]
 rw[pO,U,VH (by have:=q.x.toNat_lt;simp;omega),U,VH (by have:=q.y.toNat_lt;simp;omega),U,
  W7 (by rw[Cq zO];omega),U]
 simp only
 rw[Cq zO,BC zO zO,S8 rfl,U]
 simp
theorem bA:∀(T T':List AM) (a a':List UInt8),T.length=T'.length→(∀r∈T,r.txt.length≤255)→(∀r∈T',r.txt.length≤255)→(T.map CI).flatten++a=(T'.map CI).flatten++a'→T=T'∧a=a'
 | [],[],a,a',_,_,_,h=>⟨rfl,by simpa using h⟩
 | [],_::_,_,_,h,_,_,_=>by cases h
 | _::_,[],_,_,h,_,_,_=>by cases h
 | r::T,r'::T',a,a',hl,ht,ht',h=>by
  rw[List.map_cons,List.flatten_cons,List.append_assoc,List.map_cons,List.flatten_cons,List.append_assoc]at h
  have h1:=VY (q:=r) (t:=(T.map CI).flatten++a) (ht r zS)
  rw[h,VY (ht' r' zS)]at h1
  have h2:=zI h1
  injection h2 with h3 h4
  injection h4 with h5 _
  obtain⟨h6,h7⟩:=bA T T' a a' (by simpa using hl) (fun q hq=>ht q (by simp[hq])) (fun q hq=>ht' q (by simp[hq])) h5.symm
  exact⟨by rw[h3,h6],h7⟩
theorem lk{r r':Ad}(h:r.tag.length=32)(h':r'.tag.length=32)(e:CX r=CX r'):r=r':=by
 rw[Id h,Id h']at e
 obtain⟨e1,e2⟩:=List.append_inj e (by rw[Aj,Aj])
 have e3:=PD zO (by have:=r.page.toNat_lt;simp;omega) (by have:=r'.page.toNat_lt;simp;omega) e1
 have e4:r.page=r'.page:=by
  have:=congrArg UInt64.toUInt32 e3
  simpa using this
 cases r;cases r'
 simp only at e2 e4
 rw[e2,e4]
theorem bH:∀(T T':List Ad),T.length=T'.length→(∀r∈T,r.tag.length=32)→(∀r∈T',r.tag.length=32)→(T.map CX).flatten=(T'.map CX).flatten→T=T'
 | [],[],_,_,_,_=>rfl
 | [],_::_,h,_,_,_=>by cases h
 | _::_,[],h,_,_,_=>by cases h
 | r::T,r'::T',hl,ht,ht',h=>by
  rw[List.map_cons,List.flatten_cons,List.map_cons,List.flatten_cons]at h
  have l1:=ht r zS
  have l2:=ht' r' zS
  obtain⟨h1,h2⟩:=List.append_inj h (by rw[G3 zO,G3 zO])
  rw[lk l1 l2 h1,bH T T' (by simpa using hl) (fun q hq=>ht q (by simp[hq])) (fun q hq=>ht' q (by simp[hq])) h2]
theorem Mg{x:BP}(h:x.kind=1):Cm x=[1]++(BE (BX (x.rows.length:Int)) 1++(CX ⟨x.npage,x.ntag⟩++(x.rows.map CI).flatten)):=by
 unfold Cm
 rw[h,show decide ((1:Int)=2)=false from rfl,A9,show BE (BX 1) 1=[1]from rfl]
theorem IG{x:BP}(h:x.kind=2):Cm x=[2]++(BE (BX (x.kids.length:Int)) 1++(BE (BX x.lev) 1++(BE x.cx.toUInt64 4++(BE x.cy.toUInt64 4++(x.kids.map CX).flatten)))):=by
 unfold Cm
 rw[h,show decide ((2:Int)=2)=true from rfl,BZ,show BE (BX 2) 1=[2]from rfl]
theorem rQ{c:Be}(h:Ia c=true):0≤c.lev∧c.lev≤31:=by
 unfold Ia at h
 cases hc:decide (c.lev<0)||decide (31<c.lev)with
 | true=>rw[hc,BZ]at h;cases h
 | false=>
  simp only[Bool.or_eq_false_iff,decide_eq_false_iff_not]at hc
  omega
theorem TQ{x:BP}(h:CN x=true):x.kind=1∨x.kind=2:=by
 by_cases hk:x.kind=1
 exact .inl hk
 exact .inr (Dx h hk).1
theorem U6{a b:UInt32}(h:a.toUInt64=b.toUInt64):a=b:=by
 have:=congrArg UInt64.toUInt32 h
 simpa using this
theorem iR{x X:BP}(hx:CN x=true)(hk:x.kind=2)(hK:X.kind=2)(h1:X.rows=[])(h2:X.npage=0)(h3:X.ntag=[])(h4:X.kids.length<256)(h5:0≤X.lev)(h6:X.lev<256)(h7:∀r∈X.kids,r.tag.length=32)(h:Cm x=Cm X):x=X:=by
 obtain⟨-,g1,g2,g3,g4,g5,g6,g7,g8⟩:=Dx hx zO
 have g9:=rQ g7
 simp only at g9
 rw[IG hk,IG hK]at h
 obtain⟨-,h⟩:=List.append_inj h rfl
 obtain⟨e1,h⟩:=List.append_inj h (by rw[Aj,Aj])
 obtain⟨e2,h⟩:=List.append_inj h (by rw[Aj,Aj])
 obtain⟨e3,h⟩:=List.append_inj h (by rw[Aj,Aj])
 obtain⟨e4,h⟩:=List.append_inj h (by rw[Aj,Aj])
 obtain⟨l1,hl1⟩:=Int.eq_ofNat_of_zero_le g9.1
 obtain⟨l2,hl2⟩:=Int.eq_ofNat_of_zero_le h5
 have c1:=congrArg UInt64.toNat (PD zO (by rw[Cq zO];omega) (by rw[Cq zO];omega) e1)
 rw[Cq zO,Cq zO]at c1
 rw[hl1,hl2]at e2
 have c2:=congrArg UInt64.toNat (PD zO (by rw[Cq zO];omega) (by rw[Cq zO];omega) e2)
 rw[Cq zO,Cq zO]at c2
 have c3:=U6 (PD zO (by have:=x.cx.toNat_lt;simp;omega) (by have:=X.cx.toNat_lt;simp;omega) e3)
 have c4:=U6 (PD zO (by have:=x.cy.toNat_lt;simp;omega) (by have:=X.cy.toNat_lt;simp;omega) e4)
 have c5:=bH _ _ c1 (fun r hr=>(D0 (g1 r hr)).1) h7 h
 cases x;cases X
 simp only at*
 subst hk hK h1 h2 h3 g2 g3 g4 c3 c4 c5
 rw[hl1,hl2,c2]
theorem RT{n:Nat}{x:BP}{ok:Bool}(hn:256≤n)(hr:x.rows.length≤255)(hk:x.kids.length≤255)(h:(ok&&CN x)=false):Cl n x.kind x.cx x.cy x.lev x.rows x.kids x.npage x.ntag ok=some (TL,90):=by
 unfold Cl
 rw[N7 (⟨x.kind,x.cx,x.cy,x.lev,x.rows,x.kids,x.npage,x.ntag⟩:BP) (show x.rows.length<n by omega) (show x.kids.length<n by omega) (show x.rows.length≤1048576 by omega) (show x.kids.length≤1048576 by omega),U]
 have:((!ok) || !CN ⟨x.kind,x.cx,x.cy,x.lev,x.rows,x.kids,x.npage,x.ntag⟩)=true:=by
  rw[←Bool.not_and,show CN ⟨x.kind,x.cx,x.cy,x.lev,x.rows,x.kids,x.npage,x.ntag⟩=CN x from rfl,h]
  rfl
 rw[this,BZ]
 rfl
theorem gS{n:Nat}{x:BP}{ok:Bool}(hn:256≤n)(hr:x.rows.length≤255)(hk:x.kids.length≤255)(h:(ok&&CN x)=true):Cl n x.kind x.cx x.cy x.lev x.rows x.kids x.npage x.ntag ok=some (x,0):=by
 unfold Cl
 rw[N7 (⟨x.kind,x.cx,x.cy,x.lev,x.rows,x.kids,x.npage,x.ntag⟩:BP) (show x.rows.length<n by omega) (show x.kids.length<n by omega) (show x.rows.length≤1048576 by omega) (show x.kids.length≤1048576 by omega),U]
 have:((!ok) || !CN ⟨x.kind,x.cx,x.cy,x.lev,x.rows,x.kids,x.npage,x.ntag⟩)=false:=by
  rw[←Bool.not_and,show CN ⟨x.kind,x.cx,x.cy,x.lev,x.rows,x.kids,x.npage,x.ntag⟩=CN x from rfl,h]
  rfl
 rw[this,A9]
def lH(n:Nat)(s:List UInt8):Prop:=(∃x,CN x=true∧s=Cm x∧Fj n s=some (x,0))∨((∀x,CN x=true→s≠Cm x)∧Fj n s=some (TL,90))
theorem Uy{n:Nat}{s:List UInt8}{c:UInt8}:Fj n (c::s)=cond (decide (c=1)) ((GB n (c::s)).bind fun y=>Cl n y.1.kind y.1.cx y.1.cy y.1.lev y.1.rows y.1.kids y.1.npage y.1.ntag y.2)
  (cond (decide (c=2)) ((GJ n (c::s)).bind fun y=>Cl n y.1.kind y.1.cx y.1.cy y.1.lev y.1.rows y.1.kids y.1.npage y.1.ntag y.2) (Cl n 0 0 0 0 [] [] 0 [] false)):=by
 unfold Fj
 have h0:Aq (c::s) 0=some c:=rfl
 rw[h0,U,U,GZ,U,GZ,U,zt (by simp<;>omega),Bool.true_and,Bool.true_and]
theorem lc{n:Nat}(hn:256≤n){t:List UInt8}(hs:t.length≤1000000):lH n (1::t):=by
 have hd:=Uy (n:=n) (s:=t) (c:=1)
 rw[show decide ((1:UInt8)=1)=true from rfl,BZ]at hd
 have hk:∀x,CN x=true→(1::t)=Cm x→x.kind=1:=fun x hx e=>by
  rcases TQ hx with h | h
  exact h
  rw[IG h]at e
  exact absurd (List.cons.inj e).1 zD
 by_cases h38:t.length<37
 have hl:GB n (1::t)=some (⟨1,0,0,0,[],[],0,[]⟩,false):=by
  unfold GB
  rw[zt zQ,BZ]
 rw[hl,U]at hd
 refine .inr ⟨fun x hx e=>?_,hd.trans (RT (x:=⟨1,0,0,0,[],[],0,[]⟩) hn zS zS rfl)⟩
 have hk1:=hk x hx e
 have h7:=(EP hx hk1).2.2.2.2.2.2
 have h32:x.ntag.length≤32:=by
  rcases h7 with h7 | h7
  rw[h7.2];simp
  exact Nat.le_of_eq (D0 h7).1
 rw[Mg hk1]at e
 have:=congrArg List.length e
 simp only[List.length_cons,List.length_append,Aj,G3 (r:=⟨x.npage,x.ntag⟩) h32,List.length_nil]at this
 omega
 obtain⟨u1,t1,rfl,l1⟩:=Fd (show 1≤t.length by omega)
 obtain⟨c,rfl⟩:=List.length_eq_one_iff.1 l1
 obtain⟨u4,t2,rfl,l4⟩:=Fd (show 4≤t1.length by simp at h38;omega)
 obtain⟨u5,b,rfl,l5⟩:=Fd (show 32≤t2.length by simp at h38;omega)
 have hc255:=c.toNat_lt
 have hsl:(1::([c]++(u4++(u5++b)))).length≤1048576:=by simp at hs ⊢;omega
 have hc:Aq (1::([c]++(u4++(u5++b)))) 1=some c:=rfl
 
 have main:∀tg:List UInt8,CX ⟨(B9 u4 4).toUInt32,tg⟩=u4++u5→(∀x,CN x=true→CX ⟨x.npage,x.ntag⟩=u4++u5→x.npage=(B9 u4 4).toUInt32∧x.ntag=tg)→
   GB n (1::([c]++(u4++(u5++b))))=FH n (1::([c]++(u4++(u5++b)))) (B9 u4 4) tg→lH n (1::([c]++(u4++(u5++b)))):=by
  intro tg htg huni hl
  have hbt:∀x,CN x=true→(1::([c]++(u4++(u5++b))))=Cm x→x.kind=1∧x.rows.length=c.toNat∧b=(x.rows.map CI).flatten∧x.npage=(B9 u4 4).toUInt32∧x.ntag=tg:=fun x hx e=>by
   have hk1:=hk x hx e
   have h57:=(EP hx hk1).2.2.2.2
   have h32:x.ntag.length≤32:=by
    rcases h57.2.2 with h7 | h7
    rw[h7.2];simp
    exact Nat.le_of_eq (D0 h7).1
   rw[Mg hk1]at e
   obtain⟨-,e⟩:=List.append_inj (s₁:=[1]) (t₁:=[c]++(u4++(u5++b))) e rfl
   obtain⟨e1,e⟩:=List.append_inj e (by simp[Aj])
   rw[←List.append_assoc]at e
   obtain⟨e2,e⟩:=List.append_inj e (by rw[G3 h32,List.length_append];omega)
   obtain⟨d,g1,g2⟩:=OC (k:=x.rows.length) zO
   rw[g1]at e1
   have:=(List.cons.inj e1).1
   obtain⟨g3,g4⟩:=huni x hx e2.symm
   exact⟨hk1,by rw[this];exact g2.symm,e,g3,g4⟩
  rw[hl]at hd
  unfold FH at hd
  rcases Z6 (n:=n) zO hsl hc (y1:=B9 u4 4) (y2:=tg) c.toNat [] (1::([c]++(u4++u5))) b n zS zS zO with⟨T,rest,g1,g2,g3,g4⟩ | ⟨g1,R,g2,g3⟩
  rw[show(((1::([c]++(u4++u5)):List UInt8)).length:Int)=38 by simp[l4,l5]]at g4
  simp only[List.length_nil,List.nil_append]at g4
  rw[show((0:Nat):Int)=0 from rfl]at g4
  rw[g4,U]at hd
  cases hok:decide (rest=[])&&CN ⟨1,0,0,0,T,[],(B9 u4 4).toUInt32,tg⟩with
  | true=>
   have hh:=hok
   simp only[Bool.and_eq_true,decide_eq_true_eq]at hh
   refine .inl ⟨_,hh.2,?_,hd.trans (gS (x:=⟨1,0,0,0,T,[],(B9 u4 4).toUInt32,tg⟩) hn (by simp only;omega) zS hok)⟩
   rw[Mg rfl]
   simp only
   rw[htg,g2,P2,g1,hh.1]
   simp
  | false=>
   refine .inr ⟨fun x hx e=>?_,hd.trans (RT (x:=⟨1,0,0,0,T,[],(B9 u4 4).toUInt32,tg⟩) hn (by simp only;omega) zS hok)⟩
   obtain⟨k1,k2,k3,k4,k5⟩:=hbt x hx e
   obtain⟨m1,m2,m3,m4,m5,m6,-⟩:=EP hx k1
   have:=bA T x.rows rest [] zO g3 (fun r hr=>by have:=Kp m6 r hr;omega) (by rw[←g1,k3];simp)
   have hx':x=⟨1,0,0,0,T,[],(B9 u4 4).toUInt32,tg⟩:=by
    cases x
    simp only at*
    subst k1 k4 k5 m1 m2 m3 m4
    rw[this.1]
   rw[this.2,←hx',hx]at hok
   cases hok
  rw[show(((1::([c]++(u4++u5)):List UInt8)).length:Int)=38 by simp[l4,l5]]at g3
  simp only[List.length_nil]at g3
  rw[show((0:Nat):Int)=0 from rfl]at g3
  rw[g3,U]at hd
  refine .inr ⟨fun x hx e=>?_,hd.trans (RT (x:=⟨1,0,0,0,R,[],(B9 u4 4).toUInt32,tg⟩) hn g2 zS rfl)⟩
  obtain⟨k1,k2,k3,k4,k5⟩:=hbt x hx e
  have m6:=(EP hx k1).2.2.2.2.2.1
  exact g1 x.rows [] k2 (fun r hr=>by have:=Kp m6 r hr;omega) (by rw[k3];simp)
 have hleaf:GB n (1::([c]++(u4++(u5++b))))=cond (decide ((B9 u4 4).toUInt32=0)&&decide (u5=List.replicate 32 0)) (FH n (1::([c]++(u4++(u5++b)))) (B9 u4 4) []) (FH n (1::([c]++(u4++(u5++b)))) (B9 u4 4) u5):=by
  unfold GB
  rw[zf zQ,A9,Nx (s:=1::([c]++(u4++(u5++b)))) (i:=2) (j:=6) (a:=[1,c]) (b:=u4) (c:=u5++b) zS rfl (by rw[l4];rfl),U,Zt zO zO,U,
   Nx (s:=1::([c]++(u4++(u5++b)))) (i:=6) (j:=38) (a:=[1,c]++u4) (b:=u5) (c:=b) zS (by rw[List.length_append,l4];rfl) (by rw[List.length_append,l4,l5];rfl),U,l4]
  have hm:VT 1 32 (0:UInt8)=some (List.replicate 32 0):=rfl
  rw[hm,U,GZ,U]
 have h45:CX ⟨(B9 u4 4).toUInt32,u5⟩=u4++u5:=by rw[Id l5,Qo l4]
 have huni:∀x,CN x=true→CX ⟨x.npage,x.ntag⟩=u4++u5→x.npage=(B9 u4 4).toUInt32∧((x.npage=0∧x.ntag=[]∧u5=List.replicate 32 0)∨(2≤x.npage.toNat∧x.ntag=u5)):=fun x hx e=>by
  have hr:(x.npage=0∧x.ntag=[])∨DW ⟨x.npage,x.ntag⟩=true:=by
   rcases TQ hx with h | h
   exact(EP hx h).2.2.2.2.2.2
   obtain⟨-,-,-,h1,h2,-⟩:=Dx hx zO
   exact .inl ⟨h1,h2⟩
  unfold CX at e
  simp only at e
  obtain⟨e1,e2⟩:=List.append_inj e (by rw[Aj,l4])
  have e3:x.npage=(B9 u4 4).toUInt32:=by
   rw[←e1,Mj zO (by have:=x.npage.toNat_lt;simp;omega)]
   simp
  refine⟨e3,?_⟩
  rcases hr with hr | hr
  rw[hr.2]at e2
  exact .inl ⟨hr.1,hr.2,by rw[←e2];rfl⟩
  have h1:=(D0 hr).1
  have h2:=(D0 hr).2
  simp only at h1 h2
  rw[h1]at e2
  exact .inr ⟨h2,by simpa using e2⟩
 cases hc0:decide ((B9 u4 4).toUInt32=0)&&decide (u5=List.replicate 32 0)with
 | true=>
  have hh:=hc0
  simp only[Bool.and_eq_true,decide_eq_true_eq]at hh
  rw[hc0,BZ]at hleaf
  refine main [] ?_ (fun x hx e=>?_) hleaf
  rw[←h45,hh.2]
  rfl
  obtain⟨g1,g2 | g2⟩:=huni x hx e
  exact⟨g1,g2.2.1⟩
  rw[g1,hh.1]at g2
  simp at g2
 | false=>
  rw[hc0,A9]at hleaf
  refine main u5 h45 (fun x hx e=>?_) hleaf
  obtain⟨g1,g2 | g2⟩:=huni x hx e
  rw[←g1,g2.1,g2.2.2]at hc0
  simp at hc0
  exact⟨g1,g2.2⟩
end

section
theorem iP{n:Nat}(hn:256≤n){t:List UInt8}(hs:t.length≤1000000):lH n (2::t):=by
 have hd:=Uy (n:=n) (s:=t) (c:=2)
 rw[show decide ((2:UInt8)=1)=false from rfl,A9,show decide ((2:UInt8)=2)=true from rfl,BZ]at hd
 have hk:∀x,CN x=true→(2::t)=Cm x→x.kind=2:=fun x hx e=>by
  rcases TQ hx with h | h
  rw[Mg h]at e
  exact absurd (List.cons.inj e).1 zD
  exact h
 have hlen:∀x,CN x=true→(2::t)=Cm x→x.kids.length≤4∧t.length=10+36*x.kids.length:=fun x hx e=>by
  obtain⟨-,g1,-,-,-,-,g6,-⟩:=Dx hx (by rw[hk x hx e];decide)
  rw[IG (hk x hx e)]at e
  have h36:∀l:List Ad,(∀r∈l,DW r=true)→((l.map CX).flatten).length=36*l.length:=by
   intro l
   induction l with
   | nil=>intro _;rfl
   | cons r l ih=>
    intro h
    rw[List.map_cons,List.flatten_cons,List.length_append,ih (fun q hq=>h q (by simp[hq])),G3 (by have:=(D0 (h r zS)).1;omega),List.length_cons]
    omega
  have:=congrArg List.length e
  simp only[List.length_cons,List.length_append,Aj,List.length_nil,h36 _ g1]at this
  exact⟨g6,by omega⟩
 by_cases h10:t.length<10
 have hl:GJ n (2::t)=some (⟨2,0,0,0,[],[],0,[]⟩,false):=by
  unfold GJ
  rw[zt zQ,show ∀z,Nn true z=some true from fun z=>rfl,U,BZ]
 rw[hl,U]at hd
 exact .inr ⟨fun x hx e=>by have:=(hlen x hx e).2;omega,hd.trans (RT (x:=⟨2,0,0,0,[],[],0,[]⟩) hn zS zS rfl)⟩
 obtain⟨u1,t1,rfl,l1⟩:=Fd (show 1≤t.length by omega)
 obtain⟨c,rfl⟩:=List.length_eq_one_iff.1 l1
 obtain⟨u2,t2,rfl,l2⟩:=Fd (show 1≤t1.length by simp at h10;omega)
 obtain⟨lv,rfl⟩:=List.length_eq_one_iff.1 l2
 obtain⟨u3,t3,rfl,l3⟩:=Fd (show 4≤t2.length by simp at h10;omega)
 obtain⟨u4,b,rfl,l4⟩:=Fd (show 4≤t3.length by simp at h10;omega)
 have hc255:=c.toNat_lt
 have hsl:(2::([c]++([lv]++(u3++(u4++b))))).length≤1048576:=by simp at hs ⊢;omega
 have hb:(2::([c]++([lv]++(u3++(u4++b))))).length=11+b.length:=by simp[l3,l4];omega
 have hcond:GJ n (2::([c]++([lv]++(u3++(u4++b)))))=cond (!decide (b.length=36*c.toNat)) (some (⟨2,0,0,0,[],[],0,[]⟩,false))
   (Ee n (2::([c]++([lv]++(u3++(u4++b))))) (B9 u3 4) (B9 u4 4) lv n ([],11)):=by
  unfold GJ
  have h1:Aq (2::([c]++([lv]++(u3++(u4++b))))) 1=some c:=rfl
  have h2:Aq (2::([c]++([lv]++(u3++(u4++b))))) 2=some lv:=rfl
  rw[h1,U,Mh,U,BC (x:=36*(c.toNat:Int)) zO zO,BC zO zO,hb,zf zO,Bool.false_or,
   Nx (s:=2::([c]++([lv]++(u3++(u4++b))))) (i:=3) (j:=7) (a:=[2,c,lv]) (b:=u3) (c:=u4++b) zS rfl (by rw[l3];rfl),U,Zt zO zO,U,
   Nx (s:=2::([c]++([lv]++(u3++(u4++b))))) (i:=7) (j:=11) (a:=[2,c,lv]++u3) (b:=u4) (c:=b) zS (by rw[List.length_append,l3];rfl) (by rw[List.length_append,l3,l4];rfl),U,Zt zO zO,U,h2,U,l3,l4]
  congr 2
  rw[decide_eq_decide]
  omega
 rw[hcond]at hd
 by_cases h36:b.length=36*c.toNat
 rw[zt h36,Bool.not_true,A9]at hd
 obtain⟨T,g1,g2,g3,g4⟩:=Xb (n:=n) zO hsl (y2:=B9 u3 4) (y3:=B9 u4 4) (c:=lv) c.toNat [] (2::([c]++([lv]++(u3++u4)))) b n zS h36 zQ zO
 rw[show(((2::([c]++([lv]++(u3++u4))):List UInt8)).length:Int)=11 by simp[l3,l4]]at g4
 rw[g4,U]at hd
 simp only[List.nil_append]at hd
 have hlv:=lv.toNat_lt
 have henc:(2::([c]++([lv]++(u3++(u4++b)))))=Cm ⟨2,(B9 u3 4).toUInt32,(B9 u4 4).toUInt32,(lv.toNat:Int),[],T,0,[]⟩:=by
  rw[IG rfl]
  simp only
  rw[g2,P2,P2,Qo l3,Qo l4,g1]
  simp
 cases hok:CN ⟨2,(B9 u3 4).toUInt32,(B9 u4 4).toUInt32,(lv.toNat:Int),[],T,0,[]⟩with
 | true=>exact .inl ⟨_,hok,henc,hd.trans (gS (x:=⟨2,(B9 u3 4).toUInt32,(B9 u4 4).toUInt32,(lv.toNat:Int),[],T,0,[]⟩) hn zS (by simp only;omega) (by rw[hok];rfl))⟩
 | false=>
  refine .inr ⟨fun x hx e=>?_,hd.trans (RT (x:=⟨2,(B9 u3 4).toUInt32,(B9 u4 4).toUInt32,(lv.toNat:Int),[],T,0,[]⟩) hn zS (by simp only;omega) (by rw[hok];rfl))⟩
  have:=iR hx (hk x hx e) rfl rfl rfl rfl (by simp only;omega) (by simp only;omega) (by simp only;omega) g3 (e.symm.trans henc)
  rw[this,hok]at hx
  cases hx
 rw[zf h36,Bool.not_false,BZ,U]at hd
 refine .inr ⟨fun x hx e=>?_,hd.trans (RT (x:=⟨2,0,0,0,[],[],0,[]⟩) hn zS zS rfl)⟩
 obtain⟨g1,g2⟩:=hlen x hx e
 rw[IG (hk x hx e)]at e
 obtain⟨-,e⟩:=List.append_inj (s₁:=[2]) (t₁:=[c]++([lv]++(u3++(u4++b)))) e rfl
 obtain⟨e1,e⟩:=List.append_inj e (by simp[Aj])
 obtain⟨d,m1,m2⟩:=OC (k:=x.kids.length) zO
 rw[m1]at e1
 have:=(List.cons.inj e1).1
 subst this
 simp at g2
 omega
theorem aO{n:Nat}(hn:256≤n){s:List UInt8}(hs:s.length≤1000000):lH n s:=by
 have h0:Cl n 0 0 0 0 [] [] 0 [] false=some (TL,90):=RT (x:=TL) hn (by simp[TL]) (by simp[TL]) rfl
 obtain _ | ⟨c,t⟩:=s
 refine .inr ⟨fun x hx e=>?_,h0⟩
 rcases TQ hx with h | h
 rw[Mg h]at e;cases e
 rw[IG h]at e;cases e
 have hl:t.length≤1000000:=by simp at hs;omega
 by_cases h1:c=1
 subst h1;exact lc hn hl
 by_cases h2:c=2
 subst h2;exact iP hn hl
 refine .inr ⟨fun x hx e=>?_,?_⟩
 rcases TQ hx with h | h
 rw[Mg h]at e;exact h1 (List.cons.inj e).1
 rw[IG h]at e;exact h2 (List.cons.inj e).1
 rw[Uy,zf h1,A9,zf h2,A9,h0]
theorem mI{n:Nat}(hn:256≤n){s:List UInt8}(hs:s.length≤1000000):Fj n s=Er n s:=by
 rcases aO hn hs with⟨x,h1,h2,h3⟩ | ⟨h1,h2⟩
 rw[h3,h2,SM zO h1]
 rcases XP (n:=n) zO s with⟨x,g1,g2,g3⟩ | ⟨g1,g2⟩
 exact absurd g2 (h1 x g1)
 rw[h2,g2]
end

section
def iz(r:BI):Bool := !(decide (r.left=0)||r.off)
def Wo(r:BI):BI:={ r with left:=if 0<r.left then wI (r.left-1)else r.left }
def Zm(r:BI):BI:={ r with off:=true }
theorem vQ(r:BI):HR r=some (if iz r then(0,Wo r)else(71,Zm r)):=by
 obtain⟨bl,pd,bd,rc,rt,rb,left,off⟩:=r
 unfold HR Fs Ft
 by_cases h0:left=0
 subst h0;cases off<;>simp[iz,Zm]
 by_cases h1:0<left<;>cases off<;>simp[iz,Wo,Zm,h0,h1]
theorem RV(r:BI)(p:UInt32)(h:r.blk.length≤4096):EA r p=some (decide (p.toNat<r.blk.length)):=by
 unfold EA
 rw[A7]
 congr 1
 rw[decide_eq_decide,UInt64.lt_iff_toNat_lt]
 have:(BX (r.blk.length:Int)).toNat=r.blk.length:=by simp only[BX,UInt64.toNat_ofNat'];omega
 rw[this,UInt32.toNat_toUInt64]
theorem qa{d:BH}{p:UInt32}{b:Bool}(hp:p.toNat<d.blocks.length)(hm:d.bad.length<9223372036854775807):MT d p b=some (0,{ d with bad:=JH d.bad p b }):=by
 unfold MT
 rw[P5,U,A7,zt hp]
 simp[OQ,hm]
theorem nk{d:BH}{p:UInt32}{b:Bool}(hp:¬p.toNat<d.blocks.length):MT d p b=some (2,d):=by
 unfold MT
 rw[P5,U,A7,zf hp]
 rfl
structure ZX(N:Nat)(d:BH):Prop where
 blen:d.blocks.length=N
 b256:∀s∈d.blocks,s.length=256
 knd:(d.pend.map (·.1)).Nodup
 klt:∀q∈d.pend,q.1.toNat<N∧q.2.length=256
theorem ZX.plen{N:Nat}{d:BH}(I:ZX N d):d.pend.length≤N:=by
 have:=PZ I.knd (fun k hk=>by
  obtain⟨q,hq,rfl⟩:=List.mem_map.1 hk
  exact(I.klt q hq).1)
 simpa using this
theorem ZX.of{N:Nat}{d d':BH}(I:ZX N d)(h1:d'.blocks=d.blocks)(h2:d'.pend=d.pend):ZX N d':=⟨by rw[h1];exact I.blen,by rw[h1];exact I.b256,by rw[h2];exact I.knd,by rw[h2];exact I.klt⟩
theorem ZX.put{N:Nat}{d d':BH}{p:UInt32}{s:List UInt8}(I:ZX N d)(hp:p.toNat<N)(hs:s.length=256)(h1:d'.blocks=d.blocks)(h2:d'.pend=JH d.pend p s):ZX N d':=
 ⟨by rw[h1];exact I.blen,by rw[h1];exact I.b256,by rw[h2];exact Sf I.knd,by
  rw[h2]
  intro q hq
  rcases List.mem_cons.1 hq with rfl | hq
  exact⟨hp,hs⟩
  exact I.klt q (List.mem_filter.1 hq).1⟩
structure Rk(N:Nat)(d:BH)(r:BI):Prop where
 inv:ZX N d
 nle:N≤4096
 blk:r.blk=d.blocks
 plen:r.pnd.length=N
 pnd:∀p:UInt32,p.toNat<N→DN d.pend p=if r.pnd.getD p.toNat []=[]then none else some (r.pnd.getD p.toNat [])
 blen:r.bads.length=N
 bad:∀p:UInt32,p.toNat<N→(DN d.bad p).getD false=r.bads.getD p.toNat false
 bnd:(d.bad.map (·.1)).Nodup
 blt:∀q∈d.bad,q.1.toNat<N
 cnt:r.rcnt=d.rcnt
 tag:r.rtag=d.rtag
 boots:r.rboots=d.rboots
 off:r.off=d.off
 cut:d.isCut=true→0≤d.lasts∧d.lasts≤9223372036854775807∧r.left=d.lasts
 uncut:d.isCut=false→r.left = -1
variable {N:Nat}{d:BH}{r:BI}
theorem Rk.rlen(R:Rk N d r):r.blk.length=N:=by rw[R.blk];exact R.inv.blen
theorem Rk.badl(R:Rk N d r):d.bad.length<9223372036854775807:=by
 have:=PZ R.bnd (fun k hk=>by
  obtain⟨q,hq,rfl⟩:=List.mem_map.1 hk
  exact R.blt q hq)
 have h2:=R.nle
 simp at this
 omega
theorem Rk.on(R:Rk N d r):iz r=We d:=by
 unfold iz We
 rw[R.off]
 cases h:d.isCut
 rw[R.uncut h]
 simp
 obtain⟨h1,h2,h3⟩:=R.cut h
 rw[h3]
 simp
theorem Rk.tick(R:Rk N d r)(h:We d=true):Rk N (Uw d) (Wo r):=by
 have hs:(Wo r).left=if 0<r.left then wI (r.left-1)else r.left:=rfl
 refine⟨R.inv.of rfl rfl,R.nle,R.blk,R.plen,R.pnd,R.blen,R.bad,R.bnd,R.blt,R.cnt,R.tag,R.boots,R.off,fun hc=>?_,fun hc=>?_⟩
 have hc':d.isCut=true:=hc
 obtain⟨h1,h2,h3⟩:=R.cut hc'
 have h0:d.lasts≠0:=fun e=>by simp[We,hc',e]at h
 have hl:(Uw d).lasts=d.lasts-1:=by
  show(if d.isCut then wI (d.lasts-1)else d.lasts)=_
  rw[hc',if_pos rfl,BC zO zO]
 rw[hl,hs,h3,if_pos zO,BC zO zO]
 exact⟨by omega,by omega,rfl⟩
 have hc':d.isCut=false:=hc
 rw[hs,R.uncut hc',if_neg zO]
theorem Rk.dead(R:Rk N d r):Rk N (Wb d) (Zm r):=
 ⟨R.inv.of rfl rfl,R.nle,R.blk,R.plen,R.pnd,R.blen,R.bad,R.bnd,R.blt,R.cnt,R.tag,R.boots,rfl,R.cut,R.uncut⟩
theorem JB{α:Type}{l:List α}{i j:Nat}{a x:α}(hi:i<l.length):(l.set i a).getD j x=if i=j then a else l.getD j x:=by
 rw[List.getD_eq_getElem?_getD,List.getD_eq_getElem?_getD,List.getElem?_set]
 split
 rename_i h
 subst h
 simp
 rfl
theorem Rk.write(R:Rk N d r)(p:UInt32)(s:List UInt8):∃e d' r',H9 d p s=some (e,d')∧DZ r p s=some (e,r')∧Rk N d' r':=by
 by_cases hp:p.toNat<N∧s.length=256
 obtain⟨h1,h2⟩:=hp
 have hp':p.toNat<d.blocks.length:=by rw[R.inv.blen];exact h1
 have hpl:=R.inv.plen
 have hn:=R.nle
 have hw:=bP (d:=d) hp' h2 zO
 have hr:DZ r p s=some (if iz r then(0,{ Wo r with pnd:=r.pnd.set p.toNat s })else(71,Zm r)):=by
  unfold DZ
  have hc:(!decide (p.toNat<r.blk.length) || !decide ((s.length:Int)=256))=false:=by
   rw[R.rlen,zt h1,zt zO]
   rfl
  rw[RV r p (by rw[R.rlen];omega),U,hc,A9,vQ,U]
  cases h:iz r
  rfl
  rw[if_pos rfl,if_pos rfl]
  show cond (decide ((0:Int)=0)) _ _=_
  rw[zt rfl,BZ]
  have hl:p.toNat<(Wo r).pnd.length:=by show p.toNat<r.pnd.length;rw[R.plen];exact h1
  rw[ET,List.getElem?_eq_getElem hl,U,GI rfl hl,U]
  rfl
 rw[R.on]at hr
 cases h:We d
 rw[nR h]at hw
 rw[h]at hr
 exact⟨_,_,_,hw,hr,R.dead⟩
 rw[k6 h]at hw
 rw[h]at hr
 have T:=R.tick h
 refine⟨_,_,_,hw,hr,⟨T.inv.put h1 h2 rfl rfl,R.nle,R.blk,by rw[List.length_set];exact R.plen,fun q hq=>?_,R.blen,R.bad,R.bnd,R.blt,R.cnt,R.tag,R.boots,R.off,T.cut,T.uncut⟩⟩
 have hne:s≠[]:=fun e=>by rw[e]at h2;simp at h2
 show DN (JH d.pend p s) q=if(r.pnd.set p.toNat s).getD q.toNat []=[]then none else some ((r.pnd.set p.toNat s).getD q.toNat [])
 rw[RE,JB (by rw[R.plen];exact h1)]
 by_cases e:p=q
 subst e
 rw[if_pos rfl,if_pos rfl,if_neg hne]
 rw[if_neg e,if_neg (fun h=>e (UInt32.toNat_inj.1 h))]
 exact R.pnd q hq
 have hb:¬p.toNat<d.blocks.length∨s.length≠256:=by rw[R.inv.blen];omega
 refine⟨_,_,_,iy hb,?_,R⟩
 unfold DZ
 have hc:(!decide (p.toNat<r.blk.length) || !decide ((s.length:Int)=256))=true:=by
  rw[R.rlen]
  simp only[Bool.or_eq_true,Bool.not_eq_true',decide_eq_false_iff_not]
  omega
 rw[RV r p (by rw[R.rlen];exact R.nle),U,hc,BZ]
theorem Rk.put(R:Rk N d r)(p:UInt32)(s:List UInt8):∃e d' r',LK d p s=some (e,d')∧Dz r p s=some (e,r')∧Rk N d' r':=by
 by_cases hp:p.toNat<N∧s.length=256
 obtain⟨h1,h2⟩:=hp
 have hp':p.toNat<d.blocks.length:=by rw[R.inv.blen];exact h1
 have hw:=rS (d:=d) hp' h2
 have hr:Dz r p s=some (0,{ r with blk:=r.blk.set p.toNat s,pnd:=r.pnd.set p.toNat [] }):=by
  unfold Dz
  have hc:(!decide (p.toNat<r.blk.length) || !decide ((s.length:Int)=256))=false:=by
   rw[R.rlen,zt h1,zt zO]
   rfl
  have hl:p.toNat<r.blk.length:=by rw[R.rlen];exact h1
  have hl2:p.toNat<r.pnd.length:=by rw[R.plen];exact h1
  rw[RV r p (by rw[R.rlen];exact R.nle),U,hc,A9,ET,List.getElem?_eq_getElem hl,U,GI rfl hl,U,ET,List.getElem?_eq_getElem hl2,U,GI rfl hl2,U]
 refine⟨_,_,_,hw,hr,⟨⟨by rw[List.length_set];exact R.inv.blen,fun t ht=>?_,P1 R.inv.knd,fun q hq=>R.inv.klt q (List.mem_filter.1 hq).1⟩,R.nle,by rw[R.blk],by rw[List.length_set];exact R.plen,fun q hq=>?_,R.blen,R.bad,R.bnd,R.blt,R.cnt,R.tag,R.boots,R.off,R.cut,R.uncut⟩⟩
 rcases List.mem_or_eq_of_mem_set ht with ht | rfl
 exact R.inv.b256 t ht
 exact h2
 show DN (Gf d.pend p) q=if(r.pnd.set p.toNat []).getD q.toNat []=[]then none else some ((r.pnd.set p.toNat []).getD q.toNat [])
 rw[bR,JB (by rw[R.plen];exact h1)]
 by_cases e:p=q
 subst e
 rw[if_pos rfl,if_pos rfl,if_pos rfl]
 rw[if_neg e,if_neg (fun h=>e (UInt32.toNat_inj.1 h))]
 exact R.pnd q hq
 have hb:¬p.toNat<d.blocks.length∨s.length≠256:=by rw[R.inv.blen];omega
 refine⟨_,_,_,nA hb,?_,R⟩
 unfold Dz
 have hc:(!decide (p.toNat<r.blk.length) || !decide ((s.length:Int)=256))=true:=by
  rw[R.rlen]
  simp only[Bool.or_eq_true,Bool.not_eq_true',decide_eq_false_iff_not]
  omega
 rw[RV r p (by rw[R.rlen];exact R.nle),U,hc,BZ]
theorem Rk.setbad(R:Rk N d r)(p:UInt32)(b:Bool):∃e d' r',MT d p b=some (e,d')∧EZ r p b=some (e,r')∧Rk N d' r':=by
 by_cases h1:p.toNat<N
 have hp':p.toNat<d.blocks.length:=by rw[R.inv.blen];exact h1
 have hw:=qa (d:=d) (b:=b) hp' R.badl
 have hr:EZ r p b=some (0,{ r with bads:=r.bads.set p.toNat b }):=by
  unfold EZ
  have hl:p.toNat<r.bads.length:=by rw[R.blen];exact h1
  rw[RV r p (by rw[R.rlen];exact R.nle),U,R.rlen,zt h1,Bool.not_true,A9,ET,List.getElem?_eq_getElem hl,U,GI rfl hl,U]
 refine⟨_,_,_,hw,hr,⟨R.inv.of rfl rfl,R.nle,R.blk,R.plen,R.pnd,by rw[List.length_set];exact R.blen,fun q hq=>?_,Sf R.bnd,fun q hq=>?_,R.cnt,R.tag,R.boots,R.off,R.cut,R.uncut⟩⟩
 show(DN (JH d.bad p b) q).getD false=(r.bads.set p.toNat b).getD q.toNat false
 rw[RE,JB (by rw[R.blen];exact h1)]
 by_cases e:p=q
 subst e
 rw[if_pos rfl,if_pos rfl]
 rfl
 rw[if_neg e,if_neg (fun h=>e (UInt32.toNat_inj.1 h))]
 exact R.bad q hq
 rcases List.mem_cons.1 hq with rfl | hq
 exact h1
 exact R.blt q (List.mem_filter.1 hq).1
 have hb:¬p.toNat<d.blocks.length:=by rw[R.inv.blen];exact h1
 refine⟨_,_,_,nk hb,?_,R⟩
 unfold EZ
 rw[RV r p (by rw[R.rlen];exact R.nle),U,R.rlen,zf h1]
 rfl
theorem Rk.holds(R:Rk N d r)(p:UInt32)(hp:p.toNat<N):Ei r p=some (Kc d p):=by
 unfold Ei Kc
 have hl:p.toNat<r.pnd.length:=by rw[R.plen];exact hp
 have hb:p.toNat<r.blk.length:=by rw[R.rlen];exact hp
 have g:=R.pnd p hp
 rw[Qf _ hl]at g
 rw[ET,List.getElem?_eq_getElem hl,U]
 by_cases e:r.pnd[p.toNat]=[]
 rw[if_pos e]at g
 rw[g,zt e,ET,List.getElem?_eq_getElem hb,U]
 simp only[Bool.not_true,A9,Option.getD_none]
 rw[←R.blk,Qf _ hb]
 rfl
 rw[if_neg e]at g
 rw[g,zf e]
 rfl
theorem Rk.read(R:Rk N d r)(p:UInt32):∃e,F2 d p=some e∧EH r p=some e:=by
 by_cases hp:p.toNat<N
 have hp':p.toNat<d.blocks.length:=by rw[R.inv.blen];exact hp
 refine⟨_,Ym hp',?_⟩
 unfold EH
 have hl:p.toNat<r.bads.length:=by rw[R.blen];exact hp
 rw[RV r p (by rw[R.rlen];exact R.nle),U,R.rlen,zt hp,Bool.not_true,A9,R.off,ET,List.getElem?_eq_getElem hl,U,R.holds p hp,R.bad p hp,Qf _ hl]
 cases d.off<;>cases r.bads[p.toNat]<;>rfl
 have hb:¬p.toNat<d.blocks.length:=by rw[R.inv.blen];exact hp
 refine⟨_,bz hb,?_⟩
 unfold EH
 rw[RV r p (by rw[R.rlen];exact R.nle),U,R.rlen,zf hp]
 rfl
theorem ct(i:Nat):FL (i:Int)=UInt32.ofNat i:=by
 apply UInt32.toNat_inj.1
 simp only[FL,UInt32.toNat_ofNat']
 omega
def vz(N:Nat):BH:={ off:=false,isCut:=false,lasts:=0,counts:=0,blocks:=List.replicate N (List.replicate 256 0),pend:=[],bad:=[],rcnt:=0,rtag:=List.replicate 32 0,rboots:=0 }
def So(N:Nat):BI:={ blk:=List.replicate N (List.replicate 256 0),pnd:=List.replicate N [],bads:=List.replicate N false,rcnt:=0,rtag:=List.replicate 32 0,rboots:=0,left := -1,off:=false }
theorem n6{N n:Nat}(h4:4≤N)(hN:N≤4096)(hn:N<n):IQ n (N:Int)=some (some (So N),0):=by
 have z:∀k:Nat,k≤1048576→Dd (k:Int)=some (List.replicate k 0):=fun k hk=>by
  rw[WR zO zO]
  simp
 have z1:=z 32 zO
 have z2:=z 256 zO
 clear z
 unfold IQ So
 have hc:(decide ((N:Int)<4)||decide (4096<(N:Int)))=false:=by simp;omega
 rw[hc,A9]
 show(Dd ((32:Nat):Int)).bind _=_
 rw[z1,U]
 generalize List.replicate 32 (0:UInt8)=Y9
 generalize List.replicate 256 (0:UInt8)=Z9 at z2 ⊢
 unfold Jm
 refine Dw (fun i=>(List.replicate i Z9,List.replicate i [],List.replicate i false,(i:Int))) N ?_ ?_ hn
 intro i hi k
 simp only[FZ]
 rw[zt zO,BZ]
 show(Dd ((256:Nat):Int)).bind _=_
 rw[z2,U,CG zQ zQ,U,CG zQ zQ,U,CG zQ zQ,U,A7,BC zO zO]
 rw[←List.replicate_succ',←List.replicate_succ',←List.replicate_succ']
 rfl
 intro k
 simp only[FZ]
 rw[zf zO,A9]
 rfl
theorem vx{N:Nat}(hN:N≤4096):Rk N (vz N) (So N):=by
 refine⟨⟨List.length_replicate ..,fun s hs=>?_,List.nodup_nil,(fun q hq=>by cases hq)⟩,hN,rfl,List.length_replicate ..,fun p hp=>?_,List.length_replicate ..,fun p hp=>?_,List.nodup_nil,(fun q hq=>by cases hq),rfl,rfl,rfl,rfl,(fun h=>by cases h),fun _=>rfl⟩
 rw[List.eq_of_mem_replicate hs,List.length_replicate]
 show DN [] p=if(List.replicate N ([]:List UInt8)).getD p.toNat []=[]then none else some ((List.replicate N ([]:List UInt8)).getD p.toNat [])
 rw[Qf _ (by simpa using hp)]
 simp[DN]
 show(DN ([]:List (UInt32×Bool)) p).getD false=(List.replicate N false).getD p.toNat false
 rw[Qf _ (by simpa using hp)]
 simp[DN]
end

section
structure VR(N:Nat)(v:Bx)(d:BH)(w:B1)(c:BI):Prop where
 dev:Rk N d c
 ring:w.ring=v.ring
 rlen:v.ring.length≤1048576
 gen:w.gen=v.gen
 boot:w.boot=v.boot
 num:w.num=v.seals
 tlen:w.taken.length=N
 n4:4≤N
 low:∀i,i<2→w.taken.getD i false=true
 tak:∀p:UInt32,2≤p.toNat→p.toNat<N→w.taken.getD p.toNat false=DU v p
 tnd:(v.taken.map (·.1)).Nodup
 tok:∀e∈v.taken,e.2=true∧2≤e.1.toNat∧e.1.toNat<N
variable {N n:Nat}{T:List UInt32}{v:Bx}{d:BH}{w:B1}{c:BI}
theorem VR.seal(V9:VR N v d w c)(hT:T.length=64)(hn:2097152<n)(p:UInt32){s:List UInt8}(hs:s.length≤1048576):
  ∃t e v' d' w' c',MM T v d p s=some (t,e,v',d')∧FE n T w c p s=some (t,e,w',c')∧VR N v' d' w' c'∧v'.taken=v.taken∧w'.taken=w.taken:=by
 have hrl:=V9.rlen
 unfold MM FE
 rw[V9.ring,V9.gen,V9.boot,V9.num,sf T v.ring _ s hT hrl hn,U]
 have hso:WV T v.ring ⟨p,v.gen,v.boot,v.seals⟩ s=some (Fe T v.ring ⟨p,v.gen,v.boot,v.seals⟩ s):=if_pos ⟨by omega,by omega⟩
 rw[hso,U]
 generalize Fe T v.ring ⟨p,v.gen,v.boot,v.seals⟩ s=y
 cases he:decide (y.2=0)with
 | false=>
  rw[Bool.not_false,BZ,BZ]
  exact⟨_,_,v,d,w,c,rfl,rfl,V9,rfl,rfl⟩
 | true=>
  rw[Bool.not_true,A9,A9]
  obtain⟨e,d',c',h1,h2,h3⟩:=V9.dev.write p y.1
  rw[h1,h2,U,U]
  dsimp only
  have V':VR N { v with seals:=v.seals+1 } d' ⟨v.ring,v.gen,v.boot,v.seals+1,w.taken⟩ c':=⟨h3,rfl,V9.rlen,rfl,rfl,rfl,V9.tlen,V9.n4,V9.low,V9.tak,V9.tnd,V9.tok⟩
  cases he2:decide (e=0)with
  | false=>
   rw[Bool.not_false,BZ,BZ]
   exact⟨_,_,_,_,_,_,rfl,rfl,V',rfl,rfl⟩
  | true=>
   rw[Bool.not_true,A9,A9]
   have he0:=of_decide_eq_true he2
   have hy:y.1.length=256:=by
    by_cases hy:y.1.length=256
    exact hy
    have hb:=V9.dev.rlen
    have hN:=V9.dev.nle
    unfold DZ at h2
    rw[RV c p zO,U,zf (show ¬(y.1.length:Int)=256 by omega),Bool.not_false,Bool.or_true,BZ]at h2
    have h5:=congrArg Prod.fst (zI h2)
    simp only at h5
    omega
   have h6:UW y.1=some (y.1.drop 224):=by
    unfold UW
    rw[if_pos zO,hy]
   have h7:Cr y.1 224 (y.1.length:Int)=some (y.1.drop 224):=(Dm (l:=y.1) (p:=224) (q:=y.1.length) rfl rfl zO zO).trans (congrArg some (List.take_of_length_le zS))
   rw[h6,h7,U,U]
   exact⟨_,_,_,_,_,_,rfl,rfl,V',rfl,rfl⟩
end

section
variable {N n:Nat}{T:List UInt32}{v:Bx}{d:BH}{w:B1}{c:BI}
def nN(n:Nat)(T:List UInt32)(w:B1)(c:BI)(s:List UInt8)(a1:Int):Option (Ad×Int×B1×BI):=
 (FE n T w c (FL a1) s).bind fun y5=>
  cond (!decide (y5.2.1=0)) (some ((⟨0,[]⟩:Ad),y5.2.1,y5.2.2.1,y5.2.2.2))
   ((Aq y5.2.2.1.taken a1).bind fun _=>(FR y5.2.2.1.taken a1 true).bind fun l1=>some ((⟨FL a1,y5.1⟩:Ad),0,{ y5.2.2.1 with taken:=l1 },y5.2.2.2))
theorem VR.scan(V9:VR N v d w c)(s:List UInt8):∀(k i m:Nat),2≤i→i+k=N→k<m→
  (Eh v i k=[]∧CL n T s m (w,c,0,[],(i:Int))=FA w c 0 [])∨
  ∃j,i≤j∧j<N∧Eh v i k=[UInt32.ofNat j]∧CL n T s m (w,c,0,[],(i:Int))=nN n T w c s (j:Int)
 | _,_,0,_,_,h=>absurd h (Nat.not_lt_zero _)
 | 0,i,m+1,_,hi,_=>by
  left
  refine⟨rfl,?_⟩
  have hl:=V9.tlen
  show Ch n T s (CL n T s m) _ _ _ _ _=_
  unfold Ch
  dsimp only
  rw[zf zO,A9]
 | k+1,i,m+1,h2i,hi,hm=>by
  have hl:=V9.tlen
  have hN:=V9.dev.nle
  have hil:i<w.taken.length:=zO
  have hin:(UInt32.ofNat i).toNat=i:=by simp;omega
  have ht:=V9.tak (UInt32.ofNat i) (by rw[hin];exact h2i) (by rw[hin];omega)
  rw[hin,List.getD_eq_getElem?_getD,List.getElem?_eq_getElem hil]at ht
  simp only[Option.getD_some]at ht
  have n1:Aq w.taken (i:Int)=some w.taken[i]:=by rw[D1 rfl,List.getElem?_eq_getElem hil]
  have e:CL n T s (m+1) (w,c,0,[],(i:Int))=cond w.taken[i] (CL n T s m (w,c,0,[],((i+1:Nat):Int))) (nN n T w c s (i:Int)):=by
   show Ch n T s (CL n T s m) _ _ _ _ _=_
   unfold Ch
   dsimp only
   rw[zt zO,BZ,n1,U,A7,BC zO zO]
   rfl
  rw[e,ht]
  unfold Eh
  cases hc:DU v (UInt32.ofNat i)with
  | true=>
   rw[if_pos rfl,BZ]
   rcases VR.scan V9 s k (i+1) m zO zO zO with h | ⟨j,h1,h2,h3,h4⟩
   exact .inl h
   exact .inr ⟨j,by omega,h2,h3,h4⟩
  | false=>
   right
   exact⟨i,Nat.le_refl _,by omega,by simp,by rw[A9]⟩
theorem VR.write(V9:VR N v d w c)(hT:T.length=64)(hn:2097152<n){s:List UInt8}(hs:s.length≤1048576):
  ∃r e v' d' w' c',G7 T v d s=some (r,e,v',d')∧GD n T w c s=some (r,e,w',c')∧VR N v' d' w' c':=by
 have hl:=V9.tlen
 have hN:=V9.dev.nle
 have hbl:=V9.dev.inv.blen
 unfold G7 GD
 rw[A7]
 cases h198:decide (198<(s.length:Int))with
 | true=>
  rw[BZ,BZ]
  exact⟨_,_,v,d,w,c,rfl,rfl,V9⟩
 | false=>
  have hfr:R0 v d=some (Eh v 2 (N-2)):=by
   unfold R0
   rw[if_pos zO,hbl]
  rw[A9,A9,show aG v d=some ()from rfl,U,hfr,U]
  by_cases h2N:N<2
  have e1:N-2=0:=zO
  rw[e1]
  obtain⟨m,rfl⟩:∃m,n=m+1:=⟨n-1,by omega⟩
  have e2:CL (m+1) T s (m+1) (w,c,0,[],2)=FA w c 0 []:=by
   show Ch (m+1) T s (CL (m+1) T s m) _ _ _ _ _=_
   unfold Ch
   dsimp only
   rw[zf zO,A9]
  rw[e2]
  exact⟨_,_,v,d,w,c,rfl,rfl,V9⟩
  rcases V9.scan (n:=n) (T:=T) s (N-2) 2 n zO zO zO with⟨h1,h2⟩ | ⟨j,hj2,hjN,h1,h2⟩
  rw[h1,show CL n T s n (w,c,0,[],2)=_ from h2]
  exact⟨_,_,v,d,w,c,rfl,rfl,V9⟩
  have hjn:(UInt32.ofNat j).toNat=j:=by simp;omega
  rw[h1,show CL n T s n (w,c,0,[],2)=_ from h2]
  show ∃r e v' d' w' c',GO T v d s (UInt32.ofNat j)=some (r,e,v',d')∧_∧_
  unfold GO nN
  have hne:decide (UInt32.ofNat j=0)=false:=zf fun e=>by
   have:=congrArg UInt32.toNat e
   rw[hjn]at this
   have h0:(0:UInt32).toNat=0:=rfl
   omega
  obtain⟨t,e,v',d',w',c',g1,g2,V',g3,g4⟩:=V9.seal hT hn (UInt32.ofNat j) hs
  rw[hne,A9,g1,U,ct,g2,U]
  dsimp only
  cases he:decide (e=0)with
  | false=>
   rw[Bool.not_false,BZ,BZ]
   exact⟨_,_,_,_,_,_,rfl,rfl,V'⟩
  | true=>
   have hl':=V'.tlen
   have hmlen:v'.taken.length<9223372036854775807:=by
    have:=PZ V'.tnd (N:=N) (fun k hk=>by
     obtain⟨q,hq,rfl⟩:=List.mem_map.1 hk
     exact(V'.tok q hq).2.2)
    simp at this
    omega
   rw[Bool.not_true,A9,A9,show OQ v'.taken (UInt32.ofNat j) true=some (JH v'.taken (UInt32.ofNat j) true)from if_pos hmlen,U,D1 rfl,List.getElem?_eq_getElem zO,U,GI rfl zO,U]
   refine⟨_,_,_,_,_,_,rfl,rfl,⟨V'.dev,V'.ring,V'.rlen,V'.gen,V'.boot,V'.num,by simpa using V'.tlen,V'.n4,fun i hi=>?_,fun p hp2 hp=>?_,Sf V'.tnd,fun q hq=>?_⟩⟩
   rw[JB zO,if_neg zO]
   exact V'.low i hi
   rw[JB zO]
   unfold DU
   rw[RE]
   by_cases hpj:j=p.toNat
   subst hpj
   rw[if_pos rfl,if_pos zS]
   rfl
   rw[if_neg hpj,if_neg (fun e=>hpj (by rw[←e,hjn]))]
   exact V'.tak p hp2 hp
   rcases List.mem_cons.1 hq with rfl | hq
   exact⟨rfl,by rw[hjn];exact hj2,by rw[hjn];exact hjN⟩
   exact V'.tok q (List.mem_filter.1 hq).1
theorem VR.give(V9:VR N v d w c)(p:UInt32):∃e v' w',ML v d p=some (e,v')∧Gj w c p=some (e,w')∧VR N v' d w' c:=by
 have hl:=V9.tlen
 have hN:=V9.dev.nle
 have hbl:=V9.dev.inv.blen
 have hu:(BX (w.taken.length:Int)).toNat=N:=by rw[hl,Cq zO]
 unfold ML Gj JR Mn
 have e2:(2:UInt32).toNat=2:=rfl
 by_cases hp:2≤p.toNat∧p.toNat<N
 obtain⟨hp2,hpN⟩:=hp
 have ht:=V9.tak p hp2 hpN
 have n1:Aq w.taken (p.toNat:Int)=some (DU v p):=by
  rw[D1 rfl,List.getElem?_eq_getElem zO]
  rw[List.getD_eq_getElem?_getD,List.getElem?_eq_getElem zO]at ht
  simpa using ht
 rw[zt (UInt32.le_iff_toNat_le.2 zO),zf (fun h=>by have:=UInt32.lt_iff_toNat_lt.1 h;omega),zf (fun h=>by have:=UInt64.le_iff_toNat_le.1 h;rw[hu,UInt32.toNat_toUInt64]at this;omega),n1]
 simp only[FQ,Nn,BZ,A9,U,A7,Bool.or_false,hbl]
 rw[zt (show(p.toNat:Int)<(N:Int) by omega)]
 show ∃e v' w',(cond (!true || !DU v p) _ _=_)∧_
 cases hta:DU v p with
 | false=>exact⟨_,v,w,rfl,rfl,V9⟩
 | true=>
  rw[GI rfl zO]
  refine⟨_,_,_,rfl,rfl,⟨V9.dev,V9.ring,V9.rlen,V9.gen,V9.boot,V9.num,by simpa using hl,V9.n4,fun i hi=>?_,fun q hq2 hq=>?_,P1 V9.tnd,fun q hq=>V9.tok q (List.mem_filter.1 hq).1⟩⟩
  rw[JB zO,if_neg zO]
  exact V9.low i hi
  rw[JB zO]
  unfold DU
  rw[bR]
  by_cases hpq:p.toNat=q.toNat
  rw[if_pos hpq,if_pos (UInt32.toNat_inj.1 hpq)]
  rfl
  rw[if_neg hpq,if_neg (fun e=>hpq (by rw[e]))]
  exact V9.tak q hq2 hq
 have hb:(decide (p<2)||decide (BX (w.taken.length:Int)≤p.toUInt64))=true:=by
  rw[Bool.or_eq_true,decide_eq_true_eq,decide_eq_true_eq,UInt32.lt_iff_toNat_lt,UInt64.le_iff_toNat_le,hu,UInt32.toNat_toUInt64]
  omega
 rw[hb]
 have hx:(FQ (decide (2≤p)) ((some (d.blocks.length:Int)).bind fun y1=>some (decide ((p.toNat:Int)<y1))))=some false:=by
  rw[U,GZ]
  congr 1
  rw[Bool.and_eq_false_iff,decide_eq_false_iff_not,decide_eq_false_iff_not,UInt32.le_iff_toNat_le,hbl]
  omega
 refine⟨2,v,w,?_,rfl,V9⟩
 first
  | (rw[hx];rfl)
  | (rw[A7,hx];rfl)
  | (simp only[A7];rw[hx];rfl)
end

section
theorem f5{N n:Nat}(h4:4≤N)(hN:N≤4096)(hn:4200≤n):∃w c,G9 n (N:Int)=some (some (v0,d0 N,w,c),true)∧VR N v0 (d0 N) w c:=by
 have hr:IQ n (N:Int)=some (some (So N),0):=n6 h4 hN zO
 have hrl:(So N).blk.length=N:=List.length_replicate ..
 have hb1:Jl n (So N) (Fp 1) 1 7=some (some ⟨Fp 1,1,7,0,((List.replicate N false).set 0 true).set 1 true⟩,0):=by
  unfold Jl
  have hm:VT 1 ((So N).blk.length:Int) false=some (List.replicate N false):=by
   unfold VT
   rw[hrl,if_pos ⟨by omega,by omega,by omega⟩]
   simp
  have h0:Aq (List.replicate N false) 0=some false:=by
   have:=CK (l:=List.replicate N false) (i:=0) (k:=0) false rfl zQ
   rw[this]
   congr 1
   cases N<;>rfl
  have h1:FR (List.replicate N false) 0 true=some ((List.replicate N false).set 0 true):=GI rfl zQ
  have h2:∃x,Aq ((List.replicate N false).set 0 true) 1=some x:=⟨_,CK (k:=1) false rfl zQ⟩
  obtain⟨x,h2⟩:=h2
  have h3:FR ((List.replicate N false).set 0 true) 1 true=some (((List.replicate N false).set 0 true).set 1 true):=GI rfl zQ
  rw[X3 (Fp 1) 1 (by rw[Dy];omega) zO,Wv zO zO,U,hm,U,h0,U,h1,U,h2,U,h3,U]
  rfl
 refine⟨⟨Fp 1,1,7,0,((List.replicate N false).set 0 true).set 1 true⟩,So N,?_,?_⟩
 rotate_left
 refine⟨vx hN,rfl,by show(Fp 1).length≤_;rw[Dy];omega,rfl,rfl,rfl,by simp,h4,fun i hi=>?_,fun p hp2 hp=>?_,List.nodup_nil,fun e he=>by cases he⟩
 rw[JB zQ]
 by_cases h1:1=i
 rw[if_pos h1]
 rw[if_neg h1,JB zQ,if_pos zO]
 rw[JB zQ,if_neg zO,JB zQ,if_neg zO]
 rw[List.getD_eq_getElem?_getD,List.getElem?_eq_getElem (by simpa using hp),List.getElem_replicate]
 rfl
 have hv:G5 (d0 N) (Fp 1) 1 7=some (some v0,0):=by
  unfold G5 Z3
  rw[if_pos (by rw[Dy];omega),U,Wv zO zO,CG (by simp[Dy]) (by simp[Dy]),U]
  rfl
 have hring:FS n 1=some (Fp 1):=iC 1 zO zO
 unfold G9
 rw[kK zO zO,U,U,hr,U,U]
 show(FS n 1).bind _=_
 rw[hring,U]
 show(G5 (d0 N) (Fp 1) 1 7).bind _=_
 rw[hv,U,U,U,hb1,U,U]
 rfl
end

section
theorem fI{b:List UInt8}(h:4≤b.length):(B9 b 4).toUInt32=Ip b:=by
 apply UInt32.toNat_inj.1
 have h1:=Nm b 4 zO h
 unfold Ip
 rw[Yx]
 obtain _ | ⟨a,_ | ⟨c,_ | ⟨e,_ | ⟨g,t⟩⟩⟩⟩:=b<;>simp at h
 simp[OS]at h1
 have:=a.toNat_lt
 have:=c.toNat_lt
 have:=e.toNat_lt
 have:=g.toNat_lt
 rw[UInt64.toNat_toUInt32,h1]
 simp
 omega
theorem ZX.hold256{N:Nat}{d:BH}(I:ZX N d){p:UInt32}(hp:p.toNat<N):(Kc d p).length=256:=by
 unfold Kc
 by_cases h:p∈d.pend.map (·.1)
 obtain⟨q,hq,rfl⟩:=List.mem_map.1 h
 rw[RZ I.knd hq]
 exact(I.klt q hq).2
 rw[RO (fun e he e'=>h (List.mem_map.2 ⟨e,he,e'⟩))]
 have hb:p.toNat<d.blocks.length:=by rw[I.blen];exact hp
 rw[Option.getD_none,Qf _ hb]
 exact I.b256 _ (List.getElem_mem hb)
variable {N n:Nat}{T:List UInt32}{v:Bx}{d:BH}{w:B1}{c:BI}
theorem Rk.read2(R:Rk N d c)(p:UInt32):∃s e,F2 d p=some (s,e)∧EH c p=some (s,e)∧(e=0→s.length=256):=by
 obtain⟨⟨s,e⟩,h1,h2⟩:=R.read p
 refine⟨s,e,h1,h2,fun he=>?_⟩
 subst he
 by_cases hp:p.toNat<N
 rw[Ym (by rw[R.inv.blen];exact hp)]at h1
 have h3:=zI h1
 split at h3
 exact absurd (show(71:Int)=0 from congrArg Prod.snd h3) zD
 split at h3
 exact absurd (show(70:Int)=0 from congrArg Prod.snd h3) zD
 have h4:Kc d p=s:=congrArg Prod.fst h3
 rw[←h4]
 exact R.inv.hold256 hp
 rw[bz (by rw[R.inv.blen];exact hp)]at h1
 exact absurd (show(2:Int)=0 from congrArg Prod.snd (zI h1)) zD
theorem ib{s:List UInt8}(h:s.length=256)(hy:(Gg (s.take 24)).2=true):(Gg (s.take 24)).1.page=Ip s:=by
 unfold Gg at hy ⊢
 split at hy
 rw[if_pos (by assumption)]
 show(B9 ((s.take 24).drop 0) 4).toUInt32=_
 rw[List.drop_zero,Sz s 24 4 zO]
 exact fI zO
 cases hy
theorem iU{T:List UInt32}{l:List BW}{b:List UInt8}(h:b.length=256)(he:(Fy T l b).2.2=0):(Fy T l b).2.1.length≤256:=by
 have key:∀(h:CB) (u:List UInt8),(Fe T l h u).2=0→u.length≤256:=fun h u hs=>by
  unfold Fe at hs
  split at hs
  rename_i hn;exact absurd hs hn
  split at hs
  cases hs
  omega
 unfold Fy at he ⊢
 split at he
 cases he
 rw[if_neg (by assumption)]
 split at he
 cases he
 rw[if_neg (by assumption)]
 split at he
 cases he
 rw[if_neg (by assumption)]
 split at he
 rename_i hn;exact absurd he hn
 rw[if_neg (by assumption)]
 split at he
 cases he
 rw[if_neg (by assumption)]
 dsimp only at he ⊢
 split at he
 cases he
 rename_i hn
 rw[if_neg hn]
 refine key (Gg (b.take 24)).1 _ ?_
 by_cases h0:(Fe T l (Gg (b.take 24)).1 (FJ (Gl (Hn T (C4 l (Gg (b.take 24)).1.gen).1 Hu) (GP (Gg (b.take 24)).1) ((b.drop 24).take 200))).1).2=0
 exact h0
 exact absurd (.inr (.inl h0)) hn
theorem VR.read(V9:VR N v d w c)(hT:T.length=64)(hn:2097152<n)(r:Ad):∃s e,HZ T v d r=some (s,e)∧Gi n T w c r=some (s,e)∧(e=0→s.length≤256):=by
 have hrl:=V9.rlen
 unfold HZ Gi
 rw[Om,cq,U,U,A7]
 cases DW r with
 | false=>exact⟨_,_,rfl,rfl,fun h=>by cases h⟩
 | true=>
  rw[Bool.not_true,A9,A9]
  unfold OI IU NY Is
  obtain⟨s,e,h1,h2,h3⟩:=V9.dev.read2 r.page
  rw[h1,h2,U,U]
  dsimp only
  cases he:decide (e=0)with
  | false=>
   have:e≠0:=of_decide_eq_false he
   exact⟨_,_,rfl,rfl,fun h=>absurd h this⟩
  | true=>
   have hs:=h3 (of_decide_eq_true he)
   rw[Bool.not_true,A9,A9]
   have hnth:∀i:Nat,i<256→Aq s (i:Int)=some (s.getD i 0):=fun i hi=>by
    rw[ET,List.getD_eq_getElem?_getD,List.getElem?_eq_getElem zO]
    rfl
   have n0:=hnth 0 zO
   have n1:=hnth 1 zO
   have n2:=hnth 2 zO
   have n3:=hnth 3 zO
   rw[show((0:Nat):Int)=0 from rfl]at n0
   rw[show((1:Nat):Int)=1 from rfl]at n1
   rw[show((2:Nat):Int)=2 from rfl]at n2
   rw[show((3:Nat):Int)=3 from rfl]at n3
   have hp:((s.getD 0 0).toUInt32 ||| shl32 (s.getD 1 0).toUInt32 8 ||| shl32 (s.getD 2 0).toUInt32 16 ||| shl32 (s.getD 3 0).toUInt32 24)=Ip s:=rfl
   have ht:UW s=some (s.drop 224):=by
    unfold UW
    rw[if_pos zO,hs]
   have h24:Cr s 0 24=some (s.take 24):=(Dm (l:=s) (i:=0) (j:=24) (p:=0) (q:=24) rfl rfl zO zO).trans rfl
   have h7:Cr s 224 (s.length:Int)=some (s.drop 224):=(Dm (l:=s) (p:=224) (q:=s.length) rfl rfl zO zO).trans (congrArg some (List.take_of_length_le zS))
   rw[n0,n1,n2,n3,U,U,U,U,A7,hp,ht,U,h24,U,ow _ zO,U,h7,U]
   simp only[U,hp]
   rw[GZ,U,Mh,U]
   have hcond:(((!decide (s.drop 224=r.tag))||((!(Gg (s.take 24)).2) && !decide (Ip s=r.page)))||((Gg (s.take 24)).2 && !decide ((Gg (s.take 24)).1.page=r.page)))=((!decide (s.drop 224=r.tag)) || !decide (Ip s=r.page)):=by
    cases hg:(Gg (s.take 24)).2 with
    | false=>simp
    | true=>
     rw[ib hs hg]
     simp
   rw[hcond]
   cases hc:(!decide (s.drop 224=r.tag)) || !decide (Ip s=r.page)with
   | true=>exact⟨_,_,rfl,rfl,fun h=>by cases h⟩
   | false=>
    rw[A9,A9,V9.ring,rR T v.ring s hT hrl hn,U]
    have hso:Yg T v.ring s=some (Fy T v.ring s):=if_pos ⟨by omega,by omega⟩
    rw[hso,U]
    exact⟨_,_,rfl,rfl,fun h=>iU hs h⟩
end

section
variable {N n:Nat}{T:List UInt32}{v:Bx}{d:BH}{w:B1}{c:BI}
def Rf(rec_:Ds→Ad→Option Ds):List Ad→Ds→Option Ds
 | [],y=>some y
 | r::l,y=>(rec_ y r).bind fun z=>Rf rec_ l z
def YG(rec_:Et→Ad→Option (Int×Et)):List Ad→Et→Option (Int×Et)
 | [],x=>some (0,x)
 | r::l,x=>(rec_ x r).bind fun z=>cond (!decide (z.1=0)) (some z) (YG rec_ l z.2)
theorem XK{rec_:Et→Bx→BH→Ad→Option (Int×Et)}{rr:Ad}{y1:List UInt8×Int}{l2:List Ad}(hl:l2.length≤1000):∀(k i m:Nat) (x:Et),i+k=l2.length→k<m→
  Hx v d rr rec_ y1 l2 m (x,(i:Int))=(YG (fun x r=>rec_ x v d r) (l2.drop i) x).bind fun z=>cond (!decide (z.1=0)) (some z) (MX rr y1 z.2)
 | 0,i,m,x,hi,hm=>by
  obtain⟨m,rfl⟩:∃j,m=j+1:=⟨m-1,by omega⟩
  show D8 v d rr rec_ y1 l2 (Hx v d rr rec_ y1 l2 m) x _=_
  unfold D8
  rw[zf zO,A9,List.drop_eq_nil_of_le zO]
  rfl
 | k+1,i,m,x,hi,hm=>by
  obtain⟨m,rfl⟩:∃j,m=j+1:=⟨m-1,by omega⟩
  show D8 v d rr rec_ y1 l2 (Hx v d rr rec_ y1 l2 m) x _=_
  unfold D8
  have hlt:i<l2.length:=zO
  rw[zt zO,BZ,ET,List.getElem?_eq_getElem hlt,U,List.drop_eq_getElem_cons hlt]
  show _=((rec_ x v d l2[i]).bind fun z=>cond (!decide (z.1=0)) (some z) (YG (fun x r=>rec_ x v d r) (l2.drop (i+1)) z.2)).bind _
  cases rec_ x v d l2[i]with
  | none=>rfl
  | some z=>
   simp only[U]
   cases hz : !decide (z.1=0)with
   | true=>simp only[BZ,U,hz]
   | false=>
    simp only[A9]
    rw[BC zO zO]
    exact XK hl k (i+1) m z.2 zO zO
def Zs(P:BP):List Ad:=cond (!decide (P.npage=0)) [⟨P.npage,P.ntag⟩] []
theorem iH{P:BP}(h:CN P=true):Wf P=P.kids++Zs P:=by
 have hr:(P.npage=0∧P.ntag=[])∨DW ⟨P.npage,P.ntag⟩=true:=by
  rcases TQ h with h1 | h1
  exact(EP h h1).2.2.2.2.2.2
  obtain⟨-,-,-,h1,h2,-⟩:=Dx h zO
  exact .inl ⟨h1,h2⟩
 unfold Wf Zs
 rcases hr with⟨h1,h2⟩ | h1
 rw[h1,h2,show J7 ⟨0,[]⟩=true from rfl,if_pos rfl]
 simp
 have h2:=(D0 h1).2
 have h3:P.npage≠0:=fun e=>by rw[e]at h2;simp at h2
 rw[zf h3,if_neg (by unfold J7;simp[h3])]
 rfl
theorem W4{rec_:Ds→B1→BI→Ad→Option Ds}{rr:Ad}{y1:List UInt8×Int}{P:BP}{e0:Int}(hl:P.kids.length≤1000):∀(k i m:Nat) (y:Ds),i+k=P.kids.length→k<m→
  D4 w c rr rec_ y1 (P,e0) m (y,(i:Int))=(Rf (fun y r=>rec_ y w c r) (P.kids.drop i++Zs P) y).bind fun z=>Dh rr y1 z
 | 0,i,m,y,hi,hm=>by
  obtain⟨m,rfl⟩:∃j,m=j+1:=⟨m-1,by omega⟩
  show DH w c rr rec_ y1 (P,e0) (D4 w c rr rec_ y1 (P,e0) m) y _=_
  unfold DH
  rw[zf (by simp only;omega),A9,List.drop_eq_nil_of_le zO]
  unfold GW Zs
  cases hz : !decide (P.npage=0)with
  | true=>
   simp only[BZ,List.nil_append,Rf]
   cases rec_ y w c ⟨P.npage,P.ntag⟩<;>rfl
  | false=>simp only[A9,List.nil_append,Rf,U]
 | k+1,i,m,y,hi,hm=>by
  obtain⟨m,rfl⟩:∃j,m=j+1:=⟨m-1,by omega⟩
  show DH w c rr rec_ y1 (P,e0) (D4 w c rr rec_ y1 (P,e0) m) y _=_
  unfold DH
  have hlt:i<P.kids.length:=zO
  rw[zt (by simp only;omega),BZ,ET,List.getElem?_eq_getElem hlt,U,List.drop_eq_getElem_cons hlt]
  show _=((rec_ y w c P.kids[i]).bind fun z=>Rf (fun y r=>rec_ y w c r) (P.kids.drop (i+1)++Zs P) z).bind _
  cases rec_ y w c P.kids[i]with
  | none=>rfl
  | some z=>
   simp only[U]
   rw[BC zO zO,A7]
   exact W4 hl k (i+1) m z zO zO
def NN(x:Et):Ds:=⟨x.out,x.rows,x.count,0⟩
structure gz(x x':Et):Prop where
 le:x.count≤x'.count
 top:x'.count≤2100
 out:(x'.out.length:Int)≤x.out.length+(x'.count-x.count)
 rows:(x'.rows.length:Int)≤x.rows.length+4*(x'.count-x.count)
structure mW(x:Et):Prop where
 pos:0≤x.count
 top:x.count≤2100
 out:(x.out.length:Int)≤x.count
 rows:(x.rows.length:Int)≤4*x.count
theorem mW.grew{x x':Et}(h:mW x)(g:gz x x'):mW x':=⟨by have:=h.pos;have:=g.le;omega,g.top,by have:=h.out;have:=g.out;omega,by have:=h.rows;have:=g.rows;omega⟩
theorem gz.trans{x y z:Et}(h:gz x y)(g:gz y z):gz x z:=⟨by have:=h.le;have:=g.le;omega,g.top,by have:=h.out;have:=g.out;omega,by have:=h.rows;have:=g.rows;omega⟩
def kp(x:Et)(a:Option (Int×Et))(b:Option Ds):Prop:=∃e x',a=some (e,x')∧((e=0∧gz x x'∧b=some (NN x'))∨(e≠0∧∃y',b=some y'∧y'.err=e∧(y'.out.length:Int)≤x.out.length+(2100-x.count)))
theorem XL{rec2:Ds→Ad→Option Ds}(hs:∀y r,y.err≠0→rec2 y r=some y):∀(l:List Ad) (y:Ds),y.err≠0→Rf rec2 l y=some y
 | [],_,_=>rfl
 | r::l,y,h=>by
  unfold Rf
  rw[hs y r h,U]
  exact XL hs l y h
theorem ZN{rec1:Et→Ad→Option (Int×Et)}{rec2:Ds→Ad→Option Ds}{c0:Int}(hr:∀x r,mW x→c0≤x.count→kp x (rec1 x r) (rec2 (NN x) r))(hs:∀y r,y.err≠0→rec2 y r=some y):
  ∀(l:List Ad) (x:Et),mW x→c0≤x.count→kp x (YG rec1 l x) (Rf rec2 l (NN x))
 | [],x,hx,hc=>⟨0,x,rfl,.inl ⟨rfl,⟨Int.le_refl _,hx.top,by omega,by omega⟩,rfl⟩⟩
 | r::l,x,hx,hc=>by
  obtain⟨e,x',h1,h2⟩:=hr x r hx hc
  unfold YG Rf
  rw[h1,U]
  rcases h2 with⟨rfl,h3,h4⟩ | ⟨h3,y',h4,h5,h6⟩
  rw[h4,U,show(!decide ((0:Int)=0))=false from rfl,A9]
  obtain⟨e2,x2,g1,g2⟩:=ZN hr hs l x' (hx.grew h3) (by have:=h3.le;omega)
  refine⟨e2,x2,g1,?_⟩
  rcases g2 with⟨g2,g3,g4⟩ | g2
  exact .inl ⟨g2,h3.trans g3,g4⟩
  obtain⟨g5,y',g6,g7,g8⟩:=g2
  exact .inr ⟨g5,y',g6,g7,by have:=h3.out;omega⟩
  rw[h4,U,zf h3,Bool.not_false,BZ]
  exact⟨e,x',rfl,.inr ⟨h3,y',XL hs l y' (by rw[h5];exact h3),h5,h6⟩⟩
theorem jb{f:Nat}{y:Ds}{r:Ad}(hf:0<f)(h:y.err≠0):dI n T f y w c r=some y:=by
 obtain⟨f,rfl⟩:∃k,f=k+1:=⟨f-1,by omega⟩
 show EC (dI n T f) n T y w c r=_
 unfold EC
 rw[zf h]
 rfl
theorem Yf(V9:VR N v d w c)(hT:T.length=64)(hn:2097152<n):∀(f:Nat) (x:Et) (r:Ad),mW x→2101≤(f:Int)+x.count→kp x (Qa n T f x v d r) (dI n T f (NN x) w c r)
 | 0,x,r,hx,hf=>by have:=hx.top;omega
 | f+1,x,r,hx,hf=>by
  have h1:=hx.pos
  have h2:=hx.top
  have h3:=hx.out
  have h4:=hx.rows
  show kp x (QS (Qa n T f) n T x v d r) (EC (dI n T f) n T (NN x) w c r)
  unfold QS EC
  rw[show(!decide ((NN x).err=0))=false from rfl,A9]
  by_cases hc:x.count=2100
  rw[zt hc,BZ,zt (show 2100≤(NN x).count by show 2100≤x.count;omega),BZ]
  exact⟨61,x,rfl,.inr ⟨by decide,_,rfl,rfl,by show(x.out.length:Int)≤_;omega⟩⟩
  rw[zf hc,A9,zf (show ¬2100≤(NN x).count by show ¬2100≤x.count;omega),A9]
  obtain⟨s,e,r1,r2,r3⟩:=V9.read hT hn r
  rw[r1,r2,U,U]
  dsimp only
  by_cases he:e=0
  subst he
  rw[show(!decide ((0:Int)=0))=false from rfl,A9,A9,mI zO (by have:=r3 rfl;omega)]
  rcases XP (n:=n) zO s with⟨P,p1,p2,p3⟩ | ⟨-,p3⟩
  subst p2
  obtain⟨l1,l2⟩:=Pp p1
  have hp:=Ux (n:=n) (T:=T) (rec_:=Qa n T f) (x:=x) zO p1 r1 h1 zO zO
  unfold QS at hp
  rw[zf hc,A9,r1,U]at hp
  dsimp only at hp
  rw[show(!decide ((0:Int)=0))=false from rfl,A9]at hp
  rw[hp,p3,U]
  dsimp only
  rw[show(!decide ((0:Int)=0))=false from rfl,A9,show(NN x).rows=x.rows from rfl,CG zO zO,U]
  have hk:(Wf P).length≤5:=by
   rw[iH p1,List.length_append]
   have:(Zs P).length≤1:=by unfold Zs;cases !decide (P.npage=0)<;>simp
   omega
  have e1:=XK (v:=v) (d:=d) (rec_:=Qa n T f) (rr:=r) (y1:=(Cm P,0)) (l2:=Wf P) zO (Wf P).length 0 n { x with rows:=x.rows++P.rows,count:=x.count+1 } zO zO
  have e2:=W4 (w:=w) (c:=c) (rec_:=dI n T f) (rr:=r) (y1:=(Cm P,0)) (P:=P) (e0:=0) zO P.kids.length 0 n (NN { x with rows:=x.rows++P.rows,count:=x.count+1 }) zO zO
  rw[List.drop_zero]at e1
  rw[List.drop_zero,←iH p1]at e2
  have e3:({ NN x with rows:=x.rows++P.rows,count:=wI ((NN x).count+1) }:Ds)=NN { x with rows:=x.rows++P.rows,count:=x.count+1 }:=by
   show(⟨x.out,x.rows++P.rows,wI (x.count+1),0⟩:Ds)=_
   rw[BC zO zO]
   rfl
  rw[e3]
  rw[show((0:Nat):Int)=0 from rfl]at e1 e2
  rw[e1,e2]
  have hI:mW { x with rows:=x.rows++P.rows,count:=x.count+1 }:=⟨by simp only;omega,by simp only;omega,by simp only;omega,by simp only[List.length_append];omega⟩
  have hb:=ZN (c0:=x.count+1) (rec1:=fun x r=>Qa n T f x v d r) (rec2:=fun y r=>dI n T f y w c r) (fun x' r' hx' hc'=>Yf V9 hT hn f x' r' hx' zO) (fun y r' hy=>jb zO hy) (Wf P) _ hI (Int.le_refl _)
  obtain⟨e',x',b1,b2⟩:=hb
  rw[b1,U]
  rcases b2 with⟨rfl,b3,b4⟩ | ⟨b3,y',b4,b5,b6⟩
  rw[b4,U,show(!decide ((0:Int)=0))=false from rfl,A9]
  have g1:=b3.le
  have g2:=b3.top
  have g3:=b3.out
  have g4:=b3.rows
  simp only[List.length_append]at g1 g3 g4
  have ha:Ci 40 x'.out [(⟨Cm P,r.page,r.tag⟩:A4)]=some (x'.out++[(⟨Cm P,r.page,r.tag⟩:A4)]):=CG zQ zQ
  unfold MX Dh
  rw[show(NN x').out=x'.out from rfl,ha,U,U]
  exact⟨0,_,rfl,.inl ⟨rfl,⟨by simp only;omega,g2,by simp only[List.length_append,List.length_singleton];omega,by simp only;omega⟩,rfl⟩⟩
  rw[b4,U,zf b3,Bool.not_false,BZ]
  simp only at b6
  have ha:Ci 40 y'.out [(⟨Cm P,r.page,r.tag⟩:A4)]=some (y'.out++[(⟨Cm P,r.page,r.tag⟩:A4)]):=CG zQ zQ
  unfold Dh
  rw[ha,U]
  exact⟨e',x',rfl,.inr ⟨b3,_,rfl,b5,by simp only[List.length_append,List.length_singleton];omega⟩⟩
  rw[p3,U]
  exact⟨61,_,rfl,.inr ⟨by decide,_,rfl,rfl,by show(x.out.length:Int)≤_;omega⟩⟩
  rw[zf he,Bool.not_false,BZ,BZ]
  exact⟨e,_,rfl,.inr ⟨he,_,rfl,rfl,by show(x.out.length:Int)≤_;omega⟩⟩
end

section
structure SR(N:Nat)(p:Fo)(q:QR)(k:Up)(w:B1)(c:BI):Prop where
 out:k.out=p.out
 err:k.err=p.wrong
 took:k.took=q.tk
 vr:VR N q.v q.d w c
variable {N n:Nat}{T:List UInt32}{th:List (JF×Ad)}{had:List A4}
theorem Oh{x:BP}(hn:10≤n)(hr:x.rows.length<n)(hk:x.kids.length<n)(hb:x.rows.length≤1048576)(hc:x.kids.length≤1048576):∃y,El n x=some y:=by
 cases h:CN x with
 | true=>exact⟨_,Rt hn h⟩
 | false=>exact⟨_,Zw hr hk zO zO h⟩
theorem YP(hth:∀k:JF,DN th k=(had.find? fun s=>decide (s.txt=k.1)).map fun s=>(⟨s.page,s.tag⟩:Ad))(hh:had.length≤1048576)(hT:T.length=64)(hn:2097152<n){x:BP}(hb:x.rows.length≤1048576)(hc:x.kids.length≤1048576)
{p:Fo}{q:QR}{k:Up}{w:B1}{c:BI}(S:SR N p q k w c){r:Ad×(Fo×QR)}(h:FT n (NX T th) x p q=some r):
  ∃k' w' c',N0 n T had x (k,w,c)=some (r.1,(k',w',c'))∧SR N r.2.1 r.2.2 k' w' c':=by
 obtain⟨ko,kt,ke⟩:=k
 obtain⟨po,pw⟩:=p
 obtain⟨qt,qv,qd⟩:=q
 obtain⟨e1,e2,e3,V9⟩:=S
 dsimp only at e1 e2 e3 V9
 subst e1 e2 e3
 obtain⟨⟨s,e⟩,hy⟩:=Oh (n:=n) (x:=x) zO zO zO hb hc
 unfold N0
 rw[Ti zO zO zO hb hc,hy,U]
 unfold FT at h
 dsimp only at h ⊢
 cases hw:decide (ke=0)with
 | false=>
  rw[hw,Bool.not_false,BZ]at h
  obtain rfl:=zI h
  rw[Bool.and_false,A9]
  unfold Pc
  rw[hw,Bool.not_false,BZ]
  exact⟨_,_,_,rfl,⟨rfl,rfl,rfl,V9⟩⟩
 | true=>
  have hk0:=of_decide_eq_true hw
  subst hk0
  rw[hw,Bool.not_true,A9,hy,U]at h
  dsimp only at h
  cases he:decide (e=0)with
  | false=>
   rw[he,A9]at h
   unfold Mi at h
   dsimp only at h
   rw[he,Bool.not_false,BZ]at h
   obtain rfl:=zI h
   rw[Bool.not_false,Bool.and_true,BZ]
   unfold Pc
   rw[he,Bool.not_false,BZ]
   exact⟨_,_,_,rfl,⟨rfl,rfl,rfl,V9⟩⟩
  | true=>
   rw[he,BZ]at h
   refine AC h fun wr hwr h=>?_
   rw[Bool.not_true,Bool.false_and,A9]
   unfold Pc
   rw[show decide ((0:Int)=0)=true from rfl,Bool.not_true,A9,if_neg zO]
   unfold NX at hwr
   obtain⟨kk,hkk,hwr⟩:=bnd hwr
   have hks:=Un hkk
   have hm:=hth kk
   have hkl:=kk.2
   rw[hks]at hm hkl
   cases hf:had.find? (fun x=>decide (x.txt=s))with
   | some y=>
    rw[hf]at hm
    simp only[Option.map_some]at hm
    rw[hm]at hwr
    obtain rfl:=zI hwr
    unfold Mi at h
    obtain⟨l,hl,h⟩:=bnd (show((Ci 40 ko [⟨s,y.page,y.tag⟩]).bind fun l=>some ((⟨y.page,y.tag⟩:Ad),((⟨l,0⟩:Fo),(⟨kt,qv,qd⟩:QR))))=some r from h)
    obtain rfl:=zI h
    dsimp only
    rw[hl,U]
    exact⟨_,_,_,rfl,⟨rfl,rfl,rfl,V9⟩⟩
   | none=>
    rw[hf]at hm
    simp only[Option.map_none]at hm
    rw[hm]at hwr
    obtain⟨rr,ee,v',d',w',c',g1,g2,V'⟩:=V9.write hT hn (s:=s) zO
    simp only[Option.isSome_none,A9]at hwr
    rw[g1,U]at hwr
    dsimp only at hwr ⊢
    rw[g2,U]
    dsimp only
    cases hee:decide (ee=0)with
    | false=>
     rw[hee,A9]at hwr
     obtain rfl:=zI hwr
     unfold Mi at h
     dsimp only at h
     rw[hee,Bool.not_false,BZ]at h
     obtain rfl:=zI h
     rw[Bool.not_false,BZ]
     exact⟨_,_,_,rfl,⟨rfl,rfl,rfl,V'⟩⟩
    | true=>
     rw[hee,BZ]at hwr
     obtain⟨tk,htk,hwr⟩:=bnd hwr
     obtain rfl:=zI hwr
     unfold Mi at h
     dsimp only at h
     rw[hee,Bool.not_true,A9]at h
     refine AC h fun l hl h=>?_
     obtain rfl:=zI h
     rw[Bool.not_true,A9,htk,U,hl,U]
     exact⟨_,_,_,rfl,⟨rfl,rfl,rfl,V'⟩⟩
end

section
variable {n:Nat}{M:List A4}
def TJ(l:List AM)(i:Nat):List AM:=(l.drop (4*i)).take (min (4*i+4) l.length-4*i)
theorem cN{l:List AM}{i:Nat}(h:4*i≤l.length):Cr l (4*(i:Int)) (min (l.length:Int) (4*(i:Int)+4))=some (TJ l i):=by
 rw[Dm (p:=4*i) (q:=min (4*i+4) l.length) zO zO zO zO]
 rfl
theorem Zb(l:List AM)(i:Nat):(TJ l i).length≤4:=by
 unfold TJ
 rw[List.length_take]
 omega
structure KR(M:List A4)(p:Fo)(q:Int)(k:Ty):Prop where
 q:q=(k.out.length:Int)
 le:k.out.length≤M.length
 len:p.out.length=k.out.length
 err:k.err=p.wrong
def PB(M:List A4)(a:Option (Ad×(Fo×Int)))(b:Option (Ad×Ty)):Prop:=∃r p q k,a=some (r,(p,q))∧b=some (r,k)∧KR M p q k∧(p.wrong≠0→r=⟨0,[]⟩)
theorem UG{x:BP}(hn:2097152<n)(hb:x.rows.length≤1048576)(hc:x.kids.length≤1048576){k:Ty}(he:k.err≠0):NC n M x k=some (⟨0,[]⟩,k):=by
 obtain⟨y,hy⟩:=Oh (n:=n) (x:=x) zO zO zO hb hc
 unfold NC
 rw[Ti zO zO zO hb hc,hy,U,zf he,Bool.and_false,A9]
 unfold Q9
 rw[zf he]
 rfl
theorem XY(hM:M.length≤100000)(hn:2097152<n){x:BP}(hb:x.rows.length≤1048576)(hc:x.kids.length≤1048576){p:Fo}{q:Int}{k:Ty}(S:KR M p q k)(hpw:p.wrong≠0→True):PB M (FT n (SF M) x p q) (NC n M x k):=by
 have h1:=S.le
 have h2:=S.len
 by_cases hw:p.wrong=0
 obtain⟨y,hy⟩:=Oh (n:=n) (x:=x) zO zO zO hb hc
 have hk:k.err=0:=by rw[S.err,hw]
 unfold FT NC
 rw[Ti zO zO zO hb hc,hy,U,U,zt hw,Bool.not_true,A9,zt hk,Bool.and_true]
 by_cases he:y.2=0
 rw[zt he,BZ,Bool.not_true,A9,hk]
 unfold SF Q9
 rw[show(!decide ((0:Int)=0))=false from rfl,A9,S.q]
 by_cases hl:k.out.length=M.length
 rw[zt (show(k.out.length:Int)=(M.length:Int) by omega),zt (show(M.length:Int)≤(k.out.length:Int) by omega),show ∀z,Nn true z=some true from fun z=>rfl,U,U,BZ,BZ,U]
 exact⟨_,_,_,_,rfl,rfl,⟨rfl,h1,h2,rfl⟩,fun _=>rfl⟩
 have hlt:k.out.length<M.length:=zO
 have hnth:Aq M (k.out.length:Int)=some M[k.out.length]:=by rw[ET,List.getElem?_eq_getElem hlt]
 rw[zf (show ¬(k.out.length:Int)=(M.length:Int) by omega),zf (show ¬(M.length:Int)≤(k.out.length:Int) by omega),hnth,U,U,Mh,U,U,Bool.false_or]
 cases ht : !decide (M[k.out.length].txt=y.1)with
 | true=>
  rw[BZ,BZ,U]
  exact⟨_,_,_,_,rfl,rfl,⟨rfl,h1,h2,rfl⟩,fun _=>rfl⟩
 | false=>
  rw[A9,A9,BC (x:=(k.out.length:Int)+1) zO zO,BC zO zO,show(k.out.length:Int)+1-1=(k.out.length:Int) by omega,hnth,U,U]
  unfold Mi
  dsimp only
  rw[show(!decide ((0:Int)=0))=false from rfl,A9,CG zQ zQ,U,CG zQ zQ,U]
  exact⟨_,_,_,_,rfl,rfl,⟨by simp,by simp only[List.length_append,List.length_singleton];omega,by simp only[List.length_append,List.length_singleton];omega,hw.symm⟩,fun h=>absurd hw h⟩
 rw[zf he,A9,Bool.not_false,BZ]
 unfold Mi Q9
 dsimp only
 rw[zf he,Bool.not_false,BZ,BZ]
 exact⟨_,_,_,_,rfl,rfl,⟨S.q,h1,h2,rfl⟩,fun _=>rfl⟩
 rw[UG hn hb hc (by rw[S.err];exact hw)]
 unfold FT
 rw[zf hw,Bool.not_false,BZ]
 exact⟨_,_,_,_,rfl,rfl,S,fun _=>rfl⟩
theorem VG(hn:2097152<n){l:List AM}{k:Ty}(he:k.err≠0):∀(m:Nat),(∀i,i<m→4*i≤l.length)→OP (NC n M) l m ⟨0,[]⟩ k=some (⟨0,[]⟩,k)
 | 0,_=>rfl
 | m+1,h=>by
  have h4:=Zb l m
  unfold OP
  rw[cN (h m zO),U,UG hn (show(TJ l m).length≤_ by omega) (Nat.zero_le _) he,U]
  exact VG hn he m (fun i hi=>h i zO)
theorem ZS(hM:M.length≤100000)(hn:2097152<n){l:List AM}:∀(m:Nat),(∀i,i<m→4*i≤l.length)→∀ {r:Ad} {p:Fo} {q:Int} {k:Ty},KR M p q k→(p.wrong≠0→r=⟨0,[]⟩)→
  PB M (Ir n (SF M) (((List.range m).map (TJ l)).reverse) r p q) (OP (NC n M) l m r k)
 | 0,_,r,p,q,k,S,hr=>⟨r,p,q,k,rfl,rfl,S,hr⟩
 | m+1,hm,r,p,q,k,S,hr=>by
  have h4:=Zb l m
  rw[List.range_succ,List.map_append,List.reverse_append]
  simp only[List.map_cons,List.map_nil,List.reverse_cons,List.reverse_nil,List.nil_append,List.cons_append]
  unfold Ir OP
  obtain⟨r1,p1,q1,k1,g1,g2,S1,g3⟩:=XY hM hn (x:=⟨1,0,0,0,TJ l m,[],r.page,r.tag⟩) (show(TJ l m).length≤_ by omega) (Nat.zero_le _) S zU
  rw[cN (hm m zO),U,g1,g2,U,U]
  dsimp only
  by_cases hw:p1.wrong=0
  rw[zt hw,Bool.not_true,A9]
  exact ZS hM hn m (fun i hi=>hm i zO) S1 g3
  rw[zf hw,Bool.not_false,BZ]
  have h0:=g3 hw
  subst h0
  rw[VG hn (by rw[S1.err];exact hw) m (fun i hi=>hm i zO)]
  exact⟨_,_,_,_,rfl,rfl,S1,g3⟩
theorem ZB{rec1:Bd→Fo→Int→Option (Ad×(Fo×Int))}{rec2:Bd→Ty→Option (Ad×Ty)}:
  ∀(ks:List Bd),(∀t∈ks,∀ {p q k},KR M p q k→PB M (rec1 t p q) (rec2 t k))→∀ {p:Fo} {q:Int} {k:Ty} {acc:List Ad},KR M p q k→acc.length+ks.length≤1000→
   ∃l p' q' k',GR rec1 ks p q acc=some (l,(p',q'))∧Po rec2 ks k acc=some (l,k')∧KR M p' q' k'∧l.length=acc.length+ks.length
 | [],_,p,q,k,acc,S,_=>⟨acc,p,q,k,rfl,rfl,S,rfl⟩
 | t::ks,hr,p,q,k,acc,S,hl=>by
  simp only[List.length_cons]at hl
  obtain⟨r1,p1,q1,k1,g1,g2,S1,-⟩:=hr t zS S
  obtain⟨l,p',q',k',i1,i2,i3,i4⟩:=ZB ks (fun u hu=>hr u (by simp[hu])) (acc:=acc++[r1]) S1 zQ
  unfold GR Po
  rw[g1,g2,U,U]
  dsimp only
  rw[CG zQ zQ,U,U]
  exact⟨l,p',q',k',i1,i2,i3,by rw[i4];simp;omega⟩
theorem Zi(hM:M.length≤100000)(hn:2097152<n):∀(f:Nat) (l:List AM) (t:Bd),Tr f l t→l.length≤1000→∀ {p:Fo} {q:Int} {k:Ty},KR M p q k→PB M (Ev n (SF M) f t p q) (OU (NC n M) f t k)
 | 0,_,_,h,_,_,_,_,_=>h.elim
 | f+1,l,t,h,hl,p,q,k,S=>by
  obtain⟨b1,b2⟩:=h.rows
  have hkid:∀u∈t.kids,∃l',Tr f l' u∧l'.length≤1000:=fun u hu=>by
   rcases h with⟨rfl,rfl⟩ | ⟨_,c,L,A,⟨_,rfl⟩ | ⟨_,_,ks,rfl,hk⟩⟩
   cases hu
   cases hu
   obtain⟨x,hx,hxu⟩:=hk.right u hu
   exact⟨x,hxu,by have:=(No hx).length_le;omega⟩
  unfold Ev OU
  rw[if_neg zO,if_neg zO]
  cases hk:decide (0<(t.kids.length:Int))with
  | true=>
   rw[BZ,BZ]
   obtain⟨ls,p',q',k',i1,i2,i3,i4⟩:=ZB (M:=M) (rec1:=Ev n (SF M) f) (rec2:=OU (NC n M) f) t.kids (fun u hu=>fun S=>by
    obtain⟨l',h1,h2⟩:=hkid u hu
    exact Zi hM hn f l' u h1 h2 S) (acc:=[]) S zQ
   rw[i1,i2,U,U]
   exact XY hM hn (Nat.zero_le _) (show ls.length≤_ by rw[i4];simp;omega) i3 zU
  | false=>
   rw[A9,A9]
   have hm:∀i,i<(max t.rows.length 1-1) / 4+1→4*i≤t.rows.length:=fun i hi=>by omega
   have:=ZS (n:=n) hM hn (l:=t.rows) _ hm (r:=⟨0,[]⟩) S zV
   have e:JZ t.rows=(List.range ((max t.rows.length 1-1) / 4+1)).map (TJ t.rows):=by
    unfold JZ
    by_cases hl:t.rows=[]
    rw[if_pos hl,hl]
    rfl
    have:=List.length_pos_iff.2 hl
    rw[if_neg hl,show(max t.rows.length 1-1) / 4+1=(t.rows.length+3) / 4 by omega]
    rfl
   rw[e]
   exact this
end

section
variable {N n:Nat}{T:List UInt32}{v:Bx}{d:BH}{w:B1}{c:BI}
theorem SN{l:List AM}(h:Cp l=true):l.Pairwise fun a b=>a.id<b.id:=by
 unfold Cp at h
 simp only[Bool.and_eq_true]at h
 exact(OA l).1 h.1.2
theorem iN(V9:VR N v d w c)(hT:T.length=64)(hn:2097152<n)(r:Ad):∃l s e,Rm n T v d r=some (l,s,e)∧Vq n T w c r=some (l,s,e)∧l.length≤10000∧s.length≤10000:=by
 obtain⟨e,x,h1,h2⟩:=Yf V9 hT hn n ⟨[],[],0⟩ r ⟨by simp,by simp,by simp,by simp⟩ (by simp only;omega)
 unfold Rm Vq
 rw[show(⟨[],[],0,0⟩:Ds)=NN ⟨[],[],0⟩from rfl,h1,U]
 dsimp only
 rcases h2 with⟨rfl,g,h3⟩ | ⟨he,y',h3,h4,-⟩
 have g1:=g.top
 have g2:=g.out
 have g3:=g.rows
 simp only[List.length_nil]at g2 g3
 rw[h3,U,show(!decide ((0:Int)=0))=false from rfl,A9,show(!decide ((NN x).err=0))=false from rfl,A9]
 obtain⟨l1,p1,s1,e1⟩:=UU (n:=n) x.rows zO zO
 obtain⟨l2,e2,p2,s2⟩:=mJ (n:=n) x.rows zO zO
 rw[e1,show(NN x).rows=x.rows from rfl,e2,U,U]
 have q1:=p1.length_eq
 have q2:=p2.length_eq
 rw[XO zO zO zO]
 cases hr:Cp l1 with
 | true=>
  have:l2=l1:=Re l1 l2 (SN hr) (p2.trans p1.symm) s2
  subst this
  obtain⟨t,b1,-,b2⟩:=Tu (n:=n) zO hr
  have hlen:l2.length≤1000:=by
   unfold Cp at hr
   simp only[Bool.and_eq_true,decide_eq_true_eq]at hr
   omega
  rw[b1,U,U]
  dsimp only
  rw[show(!decide ((0:Int)=0))=false from rfl,A9,A9]
  obtain⟨r',p,q,k,c1,c2,c3,-⟩:=Zi (M:=x.out) (n:=n) zO hn n l2 t b2 hlen (p:=⟨[],0⟩) (q:=0) (k:=⟨[],0⟩) ⟨rfl,Nat.zero_le _,rfl,rfl⟩
  rw[show(NN x).out=x.out from rfl,c1,c2,U,U]
  dsimp only
  rw[c3.err,←c3.q]
  unfold Y7
  cases (!decide (p.wrong=0) || !decide (q=(x.out.length:Int))) || !(decide (r'.page=r.page)&&(decide (r'.tag=r.tag)&&true))with
  | true=>exact⟨_,_,_,rfl,rfl,by simp,by simp⟩
  | false=>exact⟨_,_,_,rfl,rfl,by omega,by omega⟩
 | false=>
  have hr2:Cp l2=false:=by
   cases hr2:Cp l2 with
   | false=>rfl
   | true=>
    have:l1=l2:=Re l2 l1 (SN hr2) (p1.trans p2.symm) s1
    rw[this,hr2]at hr
    cases hr
  rw[Tt zO zO hr,Tt zO zO hr2,U,U]
  exact⟨_,_,_,rfl,rfl,by simp,by simp⟩
 rw[h3,U,h4,zf he,Bool.not_false,BZ,BZ]
 exact⟨_,_,_,rfl,rfl,by simp,by simp⟩
end

section
variable {N n:Nat}{T:List UInt32}{th:List (JF×Ad)}{had:List A4}
theorem aR{x:BP}(hn:2097152<n)(hb:x.rows.length≤1048576)(hc:x.kids.length≤1048576){k:Up}{w:B1}{c:BI}(he:k.err≠0):N0 n T had x (k,w,c)=some (⟨0,[]⟩,(k,w,c)):=by
 obtain⟨y,hy⟩:=Oh (n:=n) (x:=x) zO zO zO hb hc
 unfold N0
 rw[Ti zO zO zO hb hc,hy,U]
 dsimp only
 rw[zf he,Bool.and_false,A9]
 unfold Pc
 rw[zf he,Bool.not_false,BZ]
theorem ah{σ:Type}{wh:UX σ}{x:BP}{p:Fo}{q:σ}{r:Ad×(Fo×σ)}(h:FT n wh x p q=some r)(hw:r.2.1.wrong≠0):r.1=⟨0,[]⟩:=by
 have put:∀ {e:List UInt8} {w:Ad×Int×σ},p.wrong=0→Mi e p w=some r→r.1=⟨0,[]⟩:=by
  intro e w hp h
  unfold Mi at h
  cases hd:decide (w.2.1=0)with
  | false=>
   rw[hd,Bool.not_false,BZ]at h
   rw[←zI h]
  | true=>
   rw[hd,Bool.not_true,A9]at h
   refine AC h fun l _ h=>?_
   exfalso
   rw[←zI h]at hw
   exact hw hp
 unfold FT at h
 cases hd:decide (p.wrong=0)with
 | false=>
  rw[hd,Bool.not_false,BZ]at h
  rw[←zI h]
 | true=>
  have hp:=of_decide_eq_true hd
  rw[hd,Bool.not_true,A9]at h
  refine AC h fun e _ h=>?_
  cases h2:decide (e.2=0)with
  | true=>
   rw[h2,BZ]at h
   refine AC h fun w _ h=>?_
   exact put hp h
  | false=>
   rw[h2,A9]at h
   exact put hp h
def RJ(l:List AM)(i:Nat):List AM:=(l.drop (4*i)).take (min (4*i+4) l.length-4*i)
theorem ZL{l:List AM}{i:Nat}(h:4*i≤l.length):Cr l (4*(i:Int)) (min (l.length:Int) (4*(i:Int)+4))=some (RJ l i):=by
 rw[Dm (p:=4*i) (q:=min (4*i+4) l.length) zO zO zO zO]
 rfl
theorem XB(l:List AM)(i:Nat):(RJ l i).length≤4:=by
 unfold RJ
 rw[List.length_take]
 omega
theorem Vs(hn:2097152<n){l:List AM}{k:Up}{w:B1}{c:BI}(he:k.err≠0):∀(m:Nat),(∀i,i<m→4*i≤l.length)→OP (N0 n T had) l m ⟨0,[]⟩ (k,w,c)=some (⟨0,[]⟩,(k,w,c))
 | 0,_=>rfl
 | m+1,h=>by
  have h4:=XB l m
  unfold OP
  rw[ZL (h m zO),U,aR hn (show(RJ l m).length≤_ by omega) (Nat.zero_le _) he,U]
  exact Vs hn he m (fun i hi=>h i zO)
theorem bV(hth:∀k:JF,DN th k=(had.find? fun s=>decide (s.txt=k.1)).map fun s=>(⟨s.page,s.tag⟩:Ad))(hh:had.length≤1048576)(hT:T.length=64)(hn:2097152<n){l:List AM}:
  ∀(m:Nat),(∀i,i<m→4*i≤l.length)→∀ {r:Ad} {p:Fo} {q:QR} {k:Up} {w:B1} {c:BI},SR N p q k w c→∀ {y:Ad×(Fo×QR)},Ir n (NX T th) (((List.range m).map (RJ l)).reverse) r p q=some y→
   ∃k' w' c',OP (N0 n T had) l m r (k,w,c)=some (y.1,(k',w',c'))∧SR N y.2.1 y.2.2 k' w' c'
 | 0,_,r,p,q,k,w,c,S,y,h=>by
  obtain rfl:=zI (show some (r,(p,q))=some y from h)
  exact⟨_,_,_,rfl,S⟩
 | m+1,hm,r,p,q,k,w,c,S,y,h=>by
  have h4:=XB l m
  rw[List.range_succ,List.map_append,List.reverse_append]at h
  simp only[List.map_cons,List.map_nil,List.reverse_cons,List.reverse_nil,List.nil_append,List.cons_append]at h
  unfold Ir at h
  refine AC h fun z hz h=>?_
  obtain⟨k',w',c',g1,S'⟩:=YP hth hh hT hn (x:=⟨1,0,0,0,RJ l m,[],r.page,r.tag⟩) (show(RJ l m).length≤_ by omega) (Nat.zero_le _) S hz
  unfold OP
  rw[ZL (hm m zO),U,g1,U]
  dsimp only
  cases hw:decide (z.2.1.wrong=0)with
  | false=>
   rw[hw,Bool.not_false,BZ]at h
   obtain rfl:=zI h
   have h0:=ah hz (of_decide_eq_false hw)
   rw[h0]
   exact⟨k',w',c',Vs hn (by rw[S'.err];exact of_decide_eq_false hw) m (fun i hi=>hm i zO),S'⟩
  | true=>
   rw[hw,Bool.not_true,A9]at h
   exact bV hth hh hT hn m (fun i hi=>hm i zO) S' h
theorem cU{rec1:Bd→Fo→QR→Option (Ad×(Fo×QR))}{rec2:Bd→Up×B1×BI→Option (Ad×(Up×B1×BI))}:
  ∀(ks:List Bd),(∀t∈ks,∀ {p q k w c},SR N p q k w c→∀ {y},rec1 t p q=some y→∃k' w' c',rec2 t (k,w,c)=some (y.1,(k',w',c'))∧SR N y.2.1 y.2.2 k' w' c')→
   ∀ {p:Fo} {q:QR} {k:Up} {w:B1} {c:BI} {acc:List Ad},SR N p q k w c→∀ {y:List Ad×(Fo×QR)},GR rec1 ks p q acc=some y→∃k' w' c',Po rec2 ks (k,w,c) acc=some (y.1,(k',w',c'))∧SR N y.2.1 y.2.2 k' w' c'∧y.1.length=acc.length+ks.length
 | [],_,p,q,k,w,c,acc,S,y,h=>by
  obtain rfl:=zI (show some (acc,(p,q))=some y from h)
  exact⟨_,_,_,rfl,S,rfl⟩
 | t::ks,hr,p,q,k,w,c,acc,S,y,h=>by
  unfold GR at h
  refine AC h fun z hz h=>?_
  refine AC h fun a ha h=>?_
  obtain⟨k',w',c',g1,S'⟩:=hr t zS S hz
  obtain⟨k2,w2,c2,g2,S2,g3⟩:=cU ks (fun u hu=>hr u (by simp[hu])) S' h
  have hal:a.length=acc.length+1:=by
   unfold Ci at ha
   split at ha
   rw[←zI ha]
   simp
   cases ha
  refine⟨k2,w2,c2,?_,S2,by rw[g3,hal,List.length_cons];omega⟩
  unfold Po
  rw[g1,U]
  dsimp only
  rw[ha,U]
  exact g2
theorem bX(hth:∀k:JF,DN th k=(had.find? fun s=>decide (s.txt=k.1)).map fun s=>(⟨s.page,s.tag⟩:Ad))(hh:had.length≤1048576)(hT:T.length=64)(hn:2097152<n):
  ∀(f:Nat) (t:Bd) {p:Fo} {q:QR} {k:Up} {w:B1} {c:BI},SR N p q k w c→∀ {y:Ad×(Fo×QR)},Ev n (NX T th) f t p q=some y→∃k' w' c',OU (N0 n T had) f t (k,w,c)=some (y.1,(k',w',c'))∧SR N y.2.1 y.2.2 k' w' c'
 | 0,_,_,_,_,_,_,_,_,h=>by cases h
 | f+1,t,p,q,k,w,c,S,y,h=>by
  unfold Ev at h
  unfold OU
  split at h
  cases h
  rename_i hbig
  rw[if_neg hbig]
  cases hk:decide (0<(t.kids.length:Int))with
  | true=>
   rw[hk,BZ]at h
   refine AC h fun z hz h=>?_
   obtain⟨k',w',c',g1,S',g2⟩:=cU t.kids (fun u _=>fun S=>fun h=>bX hth hh hT hn f u S h) S hz
   rw[BZ,g1,U]
   exact YP hth hh hT hn (Nat.zero_le _) (show z.1.length≤_ by rw[g2];simp;omega) S' h
  | false=>
   rw[hk,A9]at h
   rw[A9]
   have hm:∀i,i<(max t.rows.length 1-1) / 4+1→4*i≤t.rows.length:=fun i hi=>by omega
   refine bV hth hh hT hn _ hm S ?_
   rw[←h]
   congr 2
   unfold JZ
   by_cases hl:t.rows=[]
   rw[if_pos hl,hl]
   rfl
   have:=List.length_pos_iff.2 hl
   rw[if_neg hl,show(max t.rows.length 1-1) / 4+1=(t.rows.length+3) / 4 by omega]
   rfl
end

section
variable {N n:Nat}{T:List UInt32}{had:List A4}
theorem aI{d:BH}{c:BI}:∀(tk:List UInt32) {v:Bx} {w:B1},VR N v d w c→∀ {v'},QF tk v d=some v'→∃w',Q8 c w tk=some w'∧VR N v' d w' c
 | [],v,w,V9,v',h=>by
  obtain rfl:=zI (show some v=some v' from h)
  exact⟨w,rfl,V9⟩
 | x::tk,v,w,V9,v',h=>by
  obtain⟨e,v2,w2,g1,g2,V2⟩:=V9.give x
  unfold QF at h
  rw[g1,U]at h
  obtain⟨w',h1,h2⟩:=aI tk V2 h
  refine⟨w',?_,h2⟩
  unfold Q8
  rw[g2,U]
  exact h1
theorem mY(hT:T.length=64)(hn:2097152<n){v:Bx}{d:BH}{w:B1}{c:BI}(V9:VR N v d w c){l:List AM}(hl:l.length≤1048576)(hh:had.length≤1048576)(hht:∀s∈had,s.txt.length≤1048576)
{r:List A4×Int×Bx×BH}(h:KA n T v d l had=some r):∃w' c',Va n T w c l had=some (r.1,r.2.1,w',c')∧VR N r.2.2.1 r.2.2.2 w' c':=by
 unfold KA at h
 refine AC h fun b hb h=>?_
 unfold Va
 rw[XO zO zO hl,hb,U]
 cases hd:decide (b.2=0)with
 | false=>
  rw[hd,Bool.not_false,BZ]at h
  obtain rfl:=zI h
  rw[Bool.not_false,BZ]
  exact⟨w,c,rfl,V9⟩
 | true=>
  rw[hd,Bool.not_true,A9,if_neg zO]at h
  obtain⟨th,h2,h3⟩:=Uj had hht zO
  rw[h2,U]at h
  refine AC h fun y hy h=>?_
  obtain⟨k',w',c',g1,S⟩:=bX h3 hh hT hn n b.1 (k:=⟨[],[],0⟩) (⟨rfl,rfl,rfl,V9⟩:SR N ⟨[],0⟩ ⟨[],v,d⟩ ⟨[],[],0⟩ w c) hy
  rw[Bool.not_true,A9,g1,U]
  dsimp only
  unfold Um at h
  rw[S.err,S.took,S.out]
  cases hw:decide (y.2.1.wrong=0)with
  | true=>
   rw[hw,Bool.not_true,A9]at h
   obtain rfl:=zI h
   rw[Bool.not_true,A9]
   exact⟨w',c',rfl,S.vr⟩
  | false=>
   rw[hw,Bool.not_false,BZ]at h
   rw[Bool.not_false,BZ]
   split at h
   cases h
   rename_i hbig
   refine AC h fun v2 hv2 h=>?_
   obtain rfl:=zI h
   obtain⟨w2,f1,f2⟩:=aI y.2.2.tk S.vr hv2
   rw[if_neg hbig,f1,U]
   exact⟨w2,c',rfl,f2⟩
end

section
theorem dQ:KY 2200000 Uf=some (iL,0):=zK
theorem jr(T:List UInt32):Ke 2200000 T=some true:=by
 obtain⟨w,c,hm⟩:=jg (N:=12) (n:=2200000) zO zO zO
 have k1:=Wv (m:=1) zO zO
 obtain⟨t,th,h1,h2,h3,h4⟩:=mg (n:=2200000) (T:=T) (l:=Uf) (had:=[]) zO (N:=12) zO (py zO) (nY 12) k1 bN (fun s hs=>by simp at hs) zS (by simp[v0])
 obtain rfl:iL=t:=by
  have:=h1.symm.trans dQ
  simp only[Option.some.injEq,Prod.mk.injEq,and_true]at this
  exact this.symm
 have hpg:Nd 2200000 iL=4:=zK
 rcases h4 with⟨r,out,q,e1,e2,e3,e4,e5,e6,e7,_⟩ | ⟨v,d,c,_,e2,_,_⟩
 obtain⟨f1,f2⟩:=jB (n:=2200000) zO bN h1 h2 e2 e4 e5 e6
 rw[hpg]at e6
 unfold Ke
 rw[show(12:Int)=((12:Nat):Int)from rfl,hm,U,U]
 show(KA 2200000 T v0 (d0 12) Uf []).bind _=_
 rw[e1,U,f1,U]
 dsimp only
 rw[f2,U]
 dsimp only
 have hs:=e4.seals
 have htk:q.tk.length=4:=by
  rw[fS (fun k=>h3 k) out _ _ e7,e6]
  rfl
 rw[htk]at hs
 show(FQ _ ((Ig 2200000 Uf Uf).bind _)).bind _=_
 rw[aB Uf zD zD,U,Si out zO zO]
 unfold Pq
 rw[hs,e6]
 rfl
 exfalso
 rw[hpg]at e2
 simp[v0]at e2
end

section
variable {N n:Nat}{v:Bx}{d:BH}{w:B1}{c:BI}
end

section
theorem iT{n N c0:Nat}{T:List UInt32}{R:List BW}{g:UInt32}{vb:Bx}{db:BH}{k:BW}{l:List AM}{had:List A4}(hn:1100≤n)(hN:N≤4096)(V9:VS N c0 R g vb db)(hb:SD N vb)(hk:C4 R g=(k,0))(hl:Cp l=true)
(hhad:∀s∈had,Rd T R N vb db s)(hlen:had.length≤100000)(hlim:c0+(N-2-vb.taken.length)≤100):
    ∃t th,KY n l=some (t,0)∧Tr n l t∧(∀k:JF,DN th k=(had.find? fun s=>decide (s.txt=k.1)).map fun s=>(⟨s.page,s.tag⟩:Ad))∧
      ((∃r out q,KA n T vb db l had=some (out,0,q.v,q.d)∧Qg n t out r∧DW r=true∧fe N c0 R g vb db q∧(∀s∈out,Rd T R N q.v q.d s)∧out.length=Nd n t∧N9 (NX T th) ⟨[],vb,db⟩ out q∧N-2-vb.taken.length≤N-2-q.v.taken.length+Nd n t)∨
       (∃v d c,KA n T vb db l had=some ([],110,v,d)∧N-2-vb.taken.length<Nd n t∧v.taken=vb.taken∧VS N c R g v d∧c≤c0+N)):=by
  obtain⟨t,h1,_,hT⟩:=Tu (n:=n) (l:=l) zO hl
  obtain⟨th,h2,h3⟩:=Uj had (fun s hs=>by have:=((hhad s hs).ok V9).2.2;omega) zO
  have hth:∀(key:JF) r,DN th key=some r→Rd T R N vb db ⟨key.1,r.page,r.tag⟩:=by
    intro key r hr
    rw[h3 key]at hr
    obtain⟨s,hs,rfl⟩:=Option.map_eq_some_iff.1 hr
    have h5:=List.find?_some hs
    simp only[decide_eq_true_eq]at h5
    rw[←h5]
    exact hhad s (List.mem_of_find?_eq_some hs)
  have W:=kG (T:=T) (c0:=c0) (db:=db) hb hN hk hth
  have hpg:=RR hT (IV hl)
  have hl1:=IV hl
  have S0:fe N c0 R g vb db ⟨[],vb,db⟩:=⟨V9,by simp,by simp,hb,fun _ _=>rfl,by simpa using hlim⟩
  obtain⟨r,p',q,e1,e2,e3,e4,e5⟩:=Wh W (n:=n) zO n l t ⟨[],0⟩ ⟨[],vb,db⟩ hT hl S0 rfl zQ
  refine⟨t,th,h1,hT,h3,?_⟩
  have hsave:KA n T vb db l had=Um (r,(p',q)):=by
    unfold KA
    rw[h1,U,show(!decide ((0:Int)=0))=false from rfl,A9,if_neg zO,h2,U,e1,U]
  rw[hsave]
  unfold Um
  rcases e5 with⟨w,seg,o1,o2,o3,o4,o5,o6⟩ | ⟨w,o6⟩
  left
  simp only[List.nil_append]at o1
  refine⟨r,seg,q,?_,o3,e2 w,e3,o5,o2,o4,o6⟩
  dsimp only
  rw[w,show(!decide ((0:Int)=0))=false from rfl,A9,o1]
  right
  have hlim2:=e3.lim
  refine⟨{ q.v with taken:=vb.taken },q.d,c0+q.tk.length,?_,o6,rfl,?_,?_⟩
  dsimp only
  rw[w,show(!decide ((110:Int)=0))=true from rfl,BZ,if_neg zO,WT hN q.tk q.v q.d vb.taken e3.vs.dev.blen e3.tak e3.ok.nd (fun p hp=>by
    have:=e3.ok.tr (p,true) (by rw[e3.tak];refine List.mem_append_left _ ?_;rw[List.mem_reverse];exact List.mem_map.2 ⟨p,hp,rfl⟩)
    exact this.2),U]
  have V':=e3.vs
  exact⟨V'.dev,V'.ring,V'.rlen,V'.gen,V'.boot,Nat.le_trans V9.tlen (Nat.le_add_right ..)⟩
  have h8:=PZ e3.ok.nd (N:=N) (fun k hk=>by
    obtain⟨e,he,rfl⟩:=List.mem_map.1 hk
    exact(e3.ok.tr e he).2.2)
  have h9:=congrArg List.length e3.tak
  simp only[List.length_append,List.length_reverse,List.length_map]at h8 h9
  omega
end

section
structure Gd(T:List UInt32)(N c0:Nat)(v:Bx)(d:BH)(had:List A4):Prop where
 vs:VS N c0 (Fp 1) 1 v d
 tk:SD N v
 rd:∀s∈had,Rd T (Fp 1) N v d s
 len:had.length≤2000
 lim:c0+(N-2-v.taken.length)≤100
theorem Gd.save{T:List UInt32}{N c0:Nat}{v:Bx}{d:BH}{had:List A4}(G:Gd T N c0 v d had)(hN:N≤4096){n:Nat}(hn:1100≤n){l:List AM}(hl:l.length≤1000)(hc:c0+N+N≤100):
  ∃r c1,KA n T v d l had=some r∧Gd T N c1 r.2.2.1 r.2.2.2 r.1∧r.1.length≤2000∧c1≤c0+N:=by
 have k1:=Wv (m:=1) zO zO
 cases hr:Cp l with
 | false=>exact⟨_,c0,mN hn hl hr,⟨G.vs,G.tk,(fun s hs=>by cases hs),Nat.zero_le _,G.lim⟩,Nat.zero_le _,by omega⟩
 | true=>
  obtain⟨t,th,h1,h2,h3,h5⟩:=iT (n:=n) (T:=T) (l:=l) (had:=had) hn (N:=N) hN G.vs G.tk k1 hr G.rd (by have:=G.len;omega) G.lim
  have hpg:=RR h2 (IV hr)
  rcases h5 with⟨r,out,q,e1,e2,e3,e4,e5,e6,e7,_⟩ | ⟨v',d',c,e1,e2,e3,e4,e5⟩
  refine⟨_,_,e1,⟨e4.vs,e4.ok,e5,by dsimp only;omega,e4.lim⟩,by dsimp only;omega,?_⟩
  have h8:=PZ e4.ok.nd (N:=N) (fun k hk=>by
   obtain⟨e,he,rfl⟩:=List.mem_map.1 hk
   exact(e4.ok.tr e he).2.2)
  have h9:=congrArg List.length e4.tak
  simp only[List.length_append,List.length_reverse,List.length_map]at h8 h9
  omega
  exact⟨_,c,e1,⟨e4,⟨by dsimp only;rw[e3];exact G.tk.nd,by dsimp only;rw[e3];exact G.tk.tr⟩,(fun s hs=>by cases hs),Nat.zero_le _,by dsimp only;omega⟩,Nat.zero_le _,e5⟩
end

section
theorem PS{T:List UInt32}{a:List A4×Int×Bx×BH}{b:List A4×Int×B1×BI}{d:BH}{c:BI}{p:UInt32}{t:List UInt8}(hT:T.length=64)(V9:VR 30 a.2.2.1 d b.2.2.1 c):LH 2200000 T true a b d c p t=some true:=by
 obtain⟨l,s,e,h1,h2,h3,h4⟩:=iN (n:=2200000) V9 hT zO ⟨p,t⟩
 unfold LH
 rw[h1,h2,U,U]
 dsimp only
 rw[aB l zO zO,U,GZ,U,Si s zO zO,U,GZ,U,A7]
 simp
theorem d6(s:List UInt8):∃b,H3 s=some b:=by
 unfold H3
 have hl:(s.take (min s.length 256)).length=min s.length 256:=by rw[List.length_take];omega
 have hsl:Cr s 0 (min (s.length:Int) 256)=some (s.take (min s.length 256)):=(Dm (l:=s) (p:=0) (q:=min s.length 256) rfl zO zO zO).trans rfl
 rw[hsl,U,hl,BC zO zO,show(256:Int)-((min s.length 256:Nat):Int)=((256-min s.length 256:Nat):Int) by omega,WR zO zO,U,Co zQ,U]
 exact⟨_,rfl⟩
theorem ju{l:List A4}(h:l≠[])(hb:l.length≤100000):∃s∈l,HA l=some ⟨s.page,s.tag⟩:=by
 obtain⟨a,s,rfl⟩:∃S0 z,l=S0++[z]:=⟨_,_,(List.dropLast_concat_getLast h).symm⟩
 refine⟨s,by simp,?_⟩
 have:=fE (a:=a) (s:=s.txt) (r:=⟨s.page,s.tag⟩) (by simp at hb;omega)
 exact this
theorem aM(T:List UInt32)(l:List AM)(p how:Int)(s:List UInt8)(hT:T.length=64):cd 2200000 T l p how s=some true:=by
 unfold cd
 obtain⟨w,c,hm,V9⟩:=f5 (N:=30) (n:=2200000) zO zO zO
 have hk1:=oc l
 have G0:Gd T 30 0 v0 (d0 30) []:=⟨py zO,nY 30,(fun s hs=>by cases hs),Nat.zero_le _,by show 0+(30-2-0)≤100;omega⟩
 obtain⟨r1,c1,s1,G1,len1,hb1⟩:=G0.save zO (n:=2200000) zO (l:=l.take 24) zO zO
 obtain⟨w1,u1,t1,V1⟩:=mY hT (n:=2200000) zO V9 (l:=l.take 24) zO (Nat.zero_le _) (fun s hs=>by cases hs) s1
 rw[jr,U,show(30:Int)=((30:Nat):Int)from rfl,hm,U,sK,U]
 dsimp only
 rw[U,s1,U,U,t1,U]
 dsimp only
 rw[Si r1.1 zO zO,U,Mh,U]
 simp only[Bool.not_true,Bool.or_false,decide_true,A9]
 cases hc:(!decide (r1.2.1=0)||decide (p<0))||decide ((r1.1.length:Int)≤p)with
 | true=>rfl
 | false=>
  rw[A9]
  simp only[Bool.or_eq_false_iff,decide_eq_false_iff_not]at hc
  obtain⟨k,rfl⟩:=Int.eq_ofNat_of_zero_le (show 0≤p by omega)
  have hk:k<r1.1.length:=zO
  have hne:r1.1≠[]:=fun e=>by rw[e]at hk;simp at hk
  obtain⟨z,hz,hl⟩:=ju hne zO
  have hrd:=G1.rd z hz
  have hn:Aq r1.1 (k:Int)=some r1.1[k]:=by rw[ET,List.getElem?_eq_getElem hk]
  have hdev:∀ {e:Int} {d':BH} {c':BI},Rk 30 d' c'→VR 30 r1.2.2.1 d' w1 c':=fun h=>{ V1 with dev:=h }
  rw[hn,U,hl,U,V1.dev.holds z.page hrd.2.1,U,A7]
  cases decide (how=1)with
  | true=>
   rw[BZ]
   obtain⟨e,d',c',g1,g2,R⟩:=V1.dev.setbad r1.1[k].page true
   rw[g1,g2,U,U]
   exact PS hT (hdev (e:=e) R)
  | false=>
   rw[A9,A7]
   cases decide (how=2)with
   | true=>
    rw[BZ]
    obtain⟨e,d',c',g1,g2,R⟩:=V1.dev.put r1.1[k].page (Kc r1.2.2.2 z.page)
    rw[g1,g2,U,U]
    exact PS hT (hdev (e:=e) R)
   | false=>
    rw[A9,A7]
    cases decide (how=3)with
    | true=>
     rw[BZ]
     obtain⟨b,hb⟩:=d6 s
     obtain⟨e,d',c',g1,g2,R⟩:=V1.dev.put r1.1[k].page b
     rw[hb,U,g1,U,U,g2,U]
     exact PS hT (hdev (e:=e) R)
    | false=>
     rw[A9,A7]
     cases decide (how=4)with
     | true=>
      rw[BZ,U]
      exact PS hT V1
     | false=>
      rw[A9]
      exact PS hT V1
end
end Go.Proofs.YtkibffdipniemaaGreatDoor
