/- The texts VW1, VW2, VW3a, GG1, GG2, GG3, GG4, one behind the other: each bears its own sentence. Conditions: as each says. -/
import Derived.Test.YtkibffdipniemaaGreatDoorME1
import Derived.Test.YtkibffdipniemaaGreatDoorME2
import Derived.Test.YtkibffdipniemaaGreatDoorME3

set_option linter.unusedVariables false
set_option linter.unusedSimpArgs false
set_option maxHeartbeats 1000000
/- Plain functions of the references and the laws, printed from the loaded program, and the walks that show that the program computes them. Condition: the plain function yields. -/
namespace Go.Proofs.YtkibffdipniemaaGreatDoor
open Go
variable {K:Nat→Prop} {w0:World} {H:List Chunk}

def f_ref07_Zeros (p0:Int):Option (List UInt8):=
 (mkI 1 p0 0).bind fun l1=>
 some l1
set_option maxRecDepth 100000 in
theorem c_ref07_Zeros {p0:Int} {r:List UInt8} (h:f_ref07_Zeros p0=some r)  : Con Tryz.prog K w0 69 [vI p0] [] H (fun u M=>u=vS r∧M=[]):=by
 unfold f_ref07_Zeros at h
 refine Con.enter Tryz.func69 rfl rfl ?_
 refine SX.sr (SL.asg (.r rfl) rfl (SL.nx (SX.sr ?_)))
 obtain ⟨l1,hl1,h⟩:=bnd h
 refine SL.mv (.r rfl) rfl ?_
 refine SL.mkN hl1 eU8 (.r rfl) ty141 sz5 by5 ze5 rfl rfl rfl rfl (fun _=>trivial) fun v1=>?_
 refine SL.btsT 0 (.r rfl) ty141 ty5 ty9 rfl rfl (SL.asg (.r rfl) rfl (SL.nx (SX.ret ?_)))
 obtain rfl:=Option.some.inj h
 exact SQ.fret (res1 rfl rfl) (ret_of (M:=[]) ⟨rfl,rfl⟩ fun _ hw=>HpOk.pick (H:=[_]) hw [] 1 rfl)

def f_ref07_New_j1 (y1:List UInt8) (l1:List (List UInt8)) (l2:List (List UInt8)) (l3:List Bool):Option (Option RDevA×Int):=
 some (some ({ blk:=l1,pnd:=l2,bads:=l3,rcnt:=0,rtag:=y1,rboots:=0,left:=(-1),off:=false }:RDevA),0)
def f_ref07_New_l1_b (p0:Int) (y1:List UInt8) (nx_f_ref07_New_l1:List (List UInt8)×List (List UInt8)×List Bool×Int→Option (Option RDevA×Int)) (l4:List (List UInt8)) (l5:List (List UInt8)) (l6:List Bool) (a1:Int):Option (Option RDevA×Int):=
 cond (decide (a1<p0))
 (
  (f_ref07_Zeros 256).bind fun y2=>
  (appL 16 l4 [y2]).bind fun l7=>
  (appL 16 l5 [[]]).bind fun l8=>
  (appL 1 l6 [false]).bind fun l9=>
  ret (wI (a1+1)) fun i_1=>
  nx_f_ref07_New_l1 (l7,l8,l9,i_1))
 (
  f_ref07_New_j1 y1 l4 l5 l6)
def f_ref07_New_l1 (p0:Int) (y1:List UInt8):Nat→(List (List UInt8)×List (List UInt8)×List Bool×Int)→Option (Option RDevA×Int):=loopN fun nx x=>f_ref07_New_l1_b p0 y1 nx x.1 x.2.1 x.2.2.1 x.2.2.2
def f_ref07_New (n:Nat) (p0:Int):Option (Option RDevA×Int):=
 cond ((decide (p0<4))||(decide (4096<p0)))
 (
  some (none,2))
 (
  (f_ref07_Zeros 32).bind fun y1=>
  f_ref07_New_l1 p0 y1 n ([],[],[],0))
set_option maxRecDepth 100000 in
theorem c_ref07_New {n:Nat} {p0:Int} {r:Option RDevA×Int} (h:f_ref07_New n p0=some r)  : Con Tryz.prog K w0 41 [vI p0] [] H (fun u M=>(r.1=none∧u=.tuple #[.pointer none,vI r.2]∧M=[])∨(∃(d:RDevA) (bn0:Nat) (vn0x0:Value) (vn0x1:Value) (vn0x2:Value),r.1=some d∧u=.tuple #[vP bn0 0,vI r.2]∧M=[own bn0 (.cells #[vn0x0,vn0x1,vn0x2,vU64 d.rcnt,vS d.rtag,vU32 d.rboots,vI d.left,vB d.off] 132),rowT 9 1 vn0x0 eS d.blk,rowT 9 1 vn0x1 eS d.pnd,rowT 4 1 vn0x2 eB d.bads])):=by
 unfold f_ref07_New at h
 refine Con.enter Tryz.func41 rfl rfl ?_
 refine SX.sr (SL.asg (.r rfl) rfl (SL.asg (.r rfl) rfl (SL.nx (SX.seq (SX.sr (SL.mv (.r rfl) rfl (SL.bin (.r rfl) rfl rfl Bin.ltI (SL.mv (.r rfl) rfl ?_))))))))
 refine SL.or (c:=decide (4096<p0)) 8 3 11 rfl (fun hb k=>?_) (fun hb k=>?_) ?_
 refine SL.pass rfl rfl rfl (SL.pass rfl rfl rfl (SL.pk (.r rfl) rfl rfl ?_))
 exact k.mono (by repeat' (first | exact trivial | refine And.intro rfl ?_))
 refine SL.mv (.r rfl) rfl (SL.bin (.r rfl) rfl rfl Bin.gtI (SL.pk (.r rfl) rfl rfl ?_))
 exact k.mono (by repeat' (first | exact trivial | refine And.intro rfl ?_))
 refine SL.nx ?_
 refine SX.cond rfl (fun hc1=>?_) (fun hc1=>?_)
 replace h:=cT hc1 h
 refine SX.sr (SL.asg (.r rfl) rfl (SL.asg (.r rfl) rfl (SL.nx (SX.ret (SQ.thnR ?_)))))
 obtain rfl:=Option.some.inj h
 exact SQ.fret (res2 rfl rfl rfl) (ret_of (M:=[]) (.inl ⟨rfl,rfl,rfl⟩) fun _ hw=>HpOk.pick (H:=[]) hw [] 0 rfl)
 replace h:=cF hc1 h
 refine SX.skip (SQ.thn (SX.sr ?_))
 obtain ⟨y1,hy1,h⟩:=bnd h
 refine SL.call (vs:=[_]) (Hin:=[]) (Hr:=_) (.r rfl) rfl ⟨rfl,trivial⟩ cal69 rfl rfl (c_ref07_Zeros hy1) ?_
 rintro _ _ ⟨rfl,rfl⟩
 refine ⟨trivial,?_⟩
 refine SL.bld [_] (.r rfl) pl128 pk128 ze128 ⟨rfl,trivial⟩ rfl (SL.bld [_,_] (.r rfl) pl132 pk132 ze132 ⟨rfl,rfl,trivial⟩ rfl ?_)
 refine SL.box (.r rfl) rfl (fun _=>trivial) fun b1=>?_
 refine SL.nilT 9 1 eS (SL.nilT 9 1 eS (SL.nilT 4 1 eB (SL.asg (.r rfl) rfl (SL.nx ?_))))
 refine SX.meetD (α:=List (List UInt8)×Value×List (List UInt8)×Value×List Bool×Value) (fun x=>f_ref07_New_j1 y1 x.1 x.2.2.1 x.2.2.2.2.1=some r) (fun x=>[(4,vP b1 0)]) (fun x=>own b1 (.cells #[x.2.1,x.2.2.2.1,x.2.2.2.2.2,vU64 0,vS y1,vU32 0,vI (-1),vB false] 132)::rowT 9 1 x.2.1 eS x.1::rowT 9 1 x.2.2.2.1 eS x.2.2.1::rowT 4 1 x.2.2.2.2.2 eB x.2.2.2.2.1::H) ?_ (fun x D h=>?_)
 refine SX.sr (SL.asg (.r rfl) rfl (SL.nx (SX.block ?_)))
 refine SX.heap (SX.mono (SX.loop (α:=Nat×List (List UInt8)×Value×List (List UInt8)×Value×List Bool×Value×Int) (fun x=>f_ref07_New_l1 p0 y1 x.1 (x.2.1,x.2.2.2.1,x.2.2.2.2.2.1,x.2.2.2.2.2.2.2)=some r) (fun x=>[(0,vI p0),(4,vP b1 0),(5,vI x.2.2.2.2.2.2.2)]) (fun x=>own b1 (.cells #[x.2.2.1,x.2.2.2.2.1,x.2.2.2.2.2.2.1,vU64 0,vS y1,vU32 0,vI (-1),vB false] 132)::rowT 9 1 x.2.2.1 eS x.2.1::rowT 9 1 x.2.2.2.2.1 eS x.2.2.2.1::rowT 4 1 x.2.2.2.2.2.2.1 eB x.2.2.2.2.2.1::H) (fun x=>x.1) (fun x D h=>?_) (n,[],.slice none 0 0,[],.slice none 0 0,[],.slice none 0 0,0) h) (by repeat' (first | exact trivial | refine And.intro rfl ?_))) (fun _ hw=>HpOk.pick (H:=[_,_,_,_]) hw [3,2,1,0] 4 rfl)
 obtain ⟨m1,l4,v4,l5,v5,l6,v6,a1⟩:=x
 dsimp only at h
 rcases m1 with _ | m1
 cases (show (none:Option _)=some r from h)
 replace h:f_ref07_New_l1_b p0 y1 (f_ref07_New_l1 p0 y1 m1) l4 l5 l6 a1=some r:=h
 unfold f_ref07_New_l1_b at h
 refine SX.re [(0,vI p0),(4,vP b1 0),(5,vI a1)] (own b1 (.cells #[v4,v5,v6,vU64 0,vS y1,vU32 0,vI (-1),vB false] 132)::rowT 9 1 v4 eS l4::rowT 9 1 v5 eS l5::rowT 4 1 v6 eB l6::H) ?_ (by repeat' (first | exact trivial | refine And.intro rfl ?_))
 refine SX.seq (SX.sr (SL.mv (.r rfl) rfl (SL.mv (.r rfl) rfl (SL.bin (.r rfl) rfl rfl Bin.ltI (SL.nx ?_)))))
 refine SX.cond rfl (fun hc2=>?_) (fun hc2=>?_)
 replace h:=cT hc2 h
 refine SX.skip (SQ.thn (SX.seq (SX.block (SX.seq ?_))))
 obtain ⟨y2,hy2,h⟩:=bnd h
 obtain ⟨l7,hl7,h⟩:=bnd h
 refine SX.drawI mix [0] (Pl.ap [(true,0),(true,1),(true,2),(true,3),(true,4),(false,5),(false,6),(false,7),(true,8),(true,9)] (.last 10 .nil)) (by kernel_rfl) (SL.mv (.r rfl) rfl (SL.mv (.r rfl) rfl (SL.nchk (.r rfl) rfl (SL.fa (.r rfl) rfl fo132_0 (SL.ld (.r rfl) sc22 rfl (cell_own 0 rfl rfl) ?_)))))
 refine SL.call (vs:=[_]) (Hin:=[]) (Hr:=_::_::_::_::_) (.r rfl) rfl ⟨rfl,trivial⟩ cal69 rfl rfl (c_ref07_Zeros hy2) ?_
 rintro _ _ ⟨rfl,rfl⟩
 refine ⟨⟨⟨0,rfl⟩,trivial⟩,?_⟩
 refine SL.bsl [_] (.r rfl) ty22 sz9 ze9 ⟨rfl,trivial⟩ rfl rfl rfl (by first | (simp [Value.cells];done) | (intro v hv;simp only [List.mem_cons,List.not_mem_nil,or_false] at hv;rcases hv with rfl<;>rfl)) rfl rfl (fun _=>⟨⟨1,rfl⟩,trivial⟩) fun b2=>?_
 refine SL.ownT eS 1 ([y2]:List (List UInt8)) rfl (fun _=>rfl) rfl ?_
 refine SL.appT 2 hl7 (sz:=1) (enc:=eS) (fun _=>rfl) (.r rfl) ty22 sz9 by9 ze9 rfl (by decide) rfl rfl rfl rfl (cells_rowA (sz:=1) (enc:=eS) 0 (fun _=>rfl) rfl) (by simp [eS,Value.oneCell']) (fun _=>⟨⟨1,rfl⟩,trivial⟩) fun v7=>?_
 refine SL.nchk (.r rfl) rfl (SL.fa (.r rfl) rfl fo132_0 (SL.last ?_))
 refine SL.rowV 2 rfl fun hv1 ho1=>?_
 refine SL.stR 1 ⟨rfl,rfl,rfl⟩ rfl rfl rfl sz22 hv1 ho1 rfl trivial (SL.nx (SX.sr ?_))
 obtain ⟨l8,hl8,h⟩:=bnd h
 refine SL.mv (.r rfl) rfl (SL.mv (.r rfl) rfl (SL.nchk (.r rfl) rfl (SL.fa (.r rfl) rfl fo132_1 (SL.ld (.r rfl) sc22 rfl (cell_own 1 rfl rfl) ?_))))
 refine SL.bsl [_] (.r rfl) ty22 sz9 ze9 ⟨rfl,trivial⟩ rfl rfl rfl (by first | (simp [Value.cells];done) | (intro v hv;simp only [List.mem_cons,List.not_mem_nil,or_false] at hv;rcases hv with rfl<;>rfl)) rfl rfl (fun _=>trivial) fun b3=>?_
 refine SL.ownT eS 1 ([[]]:List (List UInt8)) rfl (fun _=>rfl) rfl ?_
 refine SL.appT 4 hl8 (sz:=1) (enc:=eS) (fun _=>rfl) (.r rfl) ty22 sz9 by9 ze9 rfl (by decide) rfl rfl rfl rfl (cells_rowA (sz:=1) (enc:=eS) 0 (fun _=>rfl) rfl) (by simp [eS,Value.oneCell']) (fun _=>trivial) fun v8=>?_
 refine SL.nchk (.r rfl) rfl (SL.fa (.r rfl) rfl fo132_1 ?_)
 refine SL.rowV 4 rfl fun hv2 ho2=>?_
 refine SL.stR 2 ⟨rfl,rfl,rfl⟩ rfl rfl rfl sz22 hv2 ho2 rfl trivial (SL.nx (SX.region ?_))
 obtain ⟨l9,hl9,h⟩:=bnd h
 refine SL.mv (.r rfl) rfl (SL.mv (.r rfl) rfl (SL.nchk (.r rfl) rfl (SL.fa (.r rfl) rfl fo132_2 (SL.ld (.r rfl) sc67 rfl (cell_own 2 rfl rfl) ?_))))
 refine SL.bsl [_] (.r rfl) ty67 sz4 ze4 ⟨rfl,trivial⟩ rfl rfl rfl (by first | (simp [Value.cells];done) | (intro v hv;simp only [List.mem_cons,List.not_mem_nil,or_false] at hv;rcases hv with rfl<;>rfl)) rfl rfl (fun _=>trivial) fun b4=>?_
 refine SL.ownT eB 1 ([false]:List Bool) rfl (fun _=>rfl) rfl ?_
 refine SL.appT 6 hl9 (sz:=1) (enc:=eB) (fun _=>rfl) (.r rfl) ty67 sz4 by4 ze4 rfl (by decide) rfl rfl rfl rfl (cells_rowA (sz:=1) (enc:=eB) 0 (fun _=>rfl) rfl) (by simp [eB,Value.oneCell']) (fun _=>trivial) fun v9=>?_
 refine SL.nchk (.r rfl) rfl (SL.fa (.r rfl) rfl fo132_2 ?_)
 refine SL.rowV 6 rfl fun hv3 ho3=>?_
 refine SL.stR 3 ⟨rfl,rfl,rfl⟩ rfl rfl rfl sz67 hv3 ho3 rfl trivial (SL.nil (SQ.blk (SQ.thn (SX.region ?_))))
 obtain ⟨i_1,ei_1,h⟩:=retE h
 refine SL.mv (.r rfl) rfl (SL.bin (.r rfl) rfl rfl Bin.addW ?_)
 refine SL.asgX (u:=vI i_1) (.r rfl) rfl (congrArg vI ei_1) ?_
 refine SL.nil ?_
 exact SQ.again (m1,l7,v7,l8,v8,l9,v9,i_1) h (Nat.lt_succ_self _) (by repeat' (first | exact trivial | refine And.intro rfl ?_)) (fun _ hw=>HpOk.pick (H:=[_,_,_,_,_,_,_]) hw [3,4,5,6] 7 rfl)
 replace h:=cF hc2 h
 refine SX.exit (SQ.thnE (SQ.lpE (SQ.blkE ?_)))
 exact SQ.midD (l4,v4,l5,v5,l6,v6) h (by repeat' (first | exact trivial | refine And.intro rfl ?_)) (fun _ hw=>HpOk.pick (H:=[_,_,_,_]) hw [0,1,2,3] 4 rfl)
 obtain ⟨l1,v1,l2,v2,l3,v3⟩:=x
 dsimp only at h
 unfold f_ref07_New_j1 at h
 refine SX.re [(4,vP b1 0)] (own b1 (.cells #[v1,v2,v3,vU64 0,vS y1,vU32 0,vI (-1),vB false] 132)::rowT 9 1 v1 eS l1::rowT 9 1 v2 eS l2::rowT 4 1 v3 eB l3::H) ?_ (by repeat' (first | exact trivial | refine And.intro rfl ?_))
 refine SX.sr (SL.mv (.r rfl) rfl (SL.asg (.r rfl) rfl (SL.asg (.r rfl) rfl (SL.nx (SX.ret ?_)))))
 obtain rfl:=Option.some.inj h
 exact SQ.fret (res2 rfl rfl rfl) (ret_of (M:=[_,_,_,_]) (.inr ⟨_,b1,v1,v2,v3,rfl,rfl,rfl⟩) fun _ hw=>HpOk.pick (H:=[_,_,_,_]) hw [0,1,2,3] 4 rfl)

def f_ref04_Right_j1:Option Bool:=
 some true
def f_ref04_Right_l1_b (p0:List KeyA) (nx_f_ref04_Right_l1:UInt32×Int→Option Bool) (a1:UInt32) (a2:Int):Option Bool:=
 cond (decide (a2<(p0.length:Int)))
 (
  (nthI p0 a2).bind fun x1=>
  (orO (decide (x1.gen≤a1)) ((nthI p0 a2).bind fun x2=>some (!decide ((x2.secret.length:Int)=32)))).bind fun y1=>
  cond y1
  (
   some false)
  (
   (nthI p0 a2).bind fun x3=>
   ret (wI (a2+1)) fun i_1=>
   nx_f_ref04_Right_l1 (x3.gen,i_1)))
 (
  f_ref04_Right_j1)
def f_ref04_Right_l1 (p0:List KeyA):Nat→(UInt32×Int)→Option Bool:=loopN fun nx x=>f_ref04_Right_l1_b p0 nx x.1 x.2
def f_ref04_Right (n:Nat) (p0:List KeyA):Option Bool:=
 cond (decide (16<(p0.length:Int)))
 (
  some false)
 (
  f_ref04_Right_l1 p0 n (0,0))
set_option maxRecDepth 100000 in
theorem c_ref04_Right {n:Nat} {v0_:Value} {p0:List KeyA} {r:Bool} (h:f_ref04_Right n p0=some r) (hs0_:SlOf K w0 encKey 2 v0_ p0):Con Tryz.prog K w0 106 [v0_] [] H (fun u M=>u=vB r∧M=[]):=by
 unfold f_ref04_Right at h
 refine Con.enter Tryz.func106 rfl rfl ?_
 refine SX.sr (SL.asg (.r rfl) rfl (SL.nx (SX.seq (SX.sr (SL.mv (.r rfl) rfl (SL.lenV hs0_ (.r rfl) ty66 rfl (SL.bin (.r rfl) rfl rfl Bin.gtI (SL.nx ?_))))))))
 refine SX.cond rfl (fun hc1=>?_) (fun hc1=>?_)
 replace h:=cT hc1 h
 refine SX.sr (SL.asg (.r rfl) rfl (SL.nx (SX.ret (SQ.thnR ?_))))
 obtain rfl:=Option.some.inj h
 exact SQ.fret (res1 rfl rfl) (ret_of (M:=[]) ⟨rfl,rfl⟩ fun _ hw=>HpOk.pick (H:=[]) hw [] 0 rfl)
 replace h:=cF hc1 h
 refine SX.skip (SQ.thn (SX.sr (SL.asg (.r rfl) rfl (SL.nx ?_))))
 refine SX.meetD (α:=Unit) (fun x=>f_ref04_Right_j1=some r) (fun x=>[]) (fun x=>H) ?_ (fun x D h=>?_)
 refine SX.sr (SL.asg (.r rfl) rfl (SL.nx (SX.block ?_)))
 refine SX.heap (SX.mono (SX.loop (α:=Nat×UInt32×Int) (fun x=>f_ref04_Right_l1 p0 x.1 (x.2.1,x.2.2)=some r) (fun x=>[(0,v0_),(3,vU32 x.2.1),(4,vI x.2.2)]) (fun x=>H) (fun x=>x.1) (fun x D h=>?_) (n,0,0) h) (by repeat' (first | exact trivial | refine And.intro rfl ?_))) (fun _ hw=>HpOk.pick (H:=[]) hw [] 0 rfl)
 obtain ⟨m1,a1,a2⟩:=x
 dsimp only at h
 rcases m1 with _ | m1
 cases (show (none:Option _)=some r from h)
 replace h:f_ref04_Right_l1_b p0 (f_ref04_Right_l1 p0 m1) a1 a2=some r:=h
 unfold f_ref04_Right_l1_b at h
 refine SX.re [(0,v0_),(3,vU32 a1),(4,vI a2)] (H) ?_ (by repeat' (first | exact trivial | refine And.intro rfl ?_))
 refine SX.seq (SX.sr (SL.mv (.r rfl) rfl (SL.mv (.r rfl) rfl (SL.lenV hs0_ (.r rfl) ty66 rfl (SL.bin (.r rfl) rfl rfl Bin.ltI (SL.nx ?_))))))
 refine SX.cond rfl (fun hc2=>?_) (fun hc2=>?_)
 replace h:=cT hc2 h
 refine SX.skip (SQ.thn (SX.seq (SX.block (SX.seq (SX.sr ?_)))))
 obtain ⟨x1,hx1,h⟩:=bnd h
 obtain ⟨y1,hy1,h⟩:=bnd h
 refine SL.mv (.r rfl) rfl (SL.mv (.r rfl) rfl ?_)
 refine SL.iaN hx1 hs0_ (.r rfl) ty66 sz138 rfl rfl fun be1 of1 hc3=>?_
 refine SL.fa (.r rfl) rfl fo138_0 ?_
 refine SL.ld (.r rfl) sc29 rfl (cell_kept (j:=0) hc3 rfl) ?_
 refine SL.mv (.r rfl) rfl (SL.bin (.r rfl) rfl rfl Bin.le32 (SL.mv (.r rfl) rfl ?_))
 refine SL.orN 21 8 29 hy1 rfl (fun hb k=>?_) (fun hb hg1 k=>?_) ?_
 refine SL.pass rfl rfl rfl (SL.pass rfl rfl rfl (SL.pass rfl rfl rfl (SL.pass rfl rfl rfl (SL.pass rfl rfl rfl (SL.pass rfl rfl rfl (SL.pass rfl rfl rfl (SL.pk (.r rfl) rfl rfl ?_)))))))
 exact k.mono (by repeat' (first | exact trivial | refine And.intro rfl ?_))
 obtain ⟨x2,hx2,hg1⟩:=bnd hg1
 obtain rfl:=Option.some.inj hg1
 refine SL.mv (.r rfl) rfl (SL.mv (.r rfl) rfl ?_)
 refine SL.iaN hx2 hs0_ (.r rfl) ty66 sz138 rfl rfl fun be2 of2 hc4=>?_
 refine SL.fa (.r rfl) rfl fo138_1 ?_
 refine SL.ld (.r rfl) sc9 rfl (cell_kept (j:=1) hc4 rfl) ?_
 refine SL.lenS (.r rfl) ty9 rfl (SL.bin (.r rfl) rfl rfl Bin.neI (SL.pk (.r rfl) rfl rfl ?_))
 exact k.mono (by repeat' (first | exact trivial | refine And.intro rfl ?_))
 refine SL.nx ?_
 refine SX.cond rfl (fun hc5=>?_) (fun hc5=>?_)
 replace h:=cT hc5 h
 refine SX.sr (SL.asg (.r rfl) rfl (SL.nx (SX.ret (SQ.thnR (SQ.blkR (SQ.thnR (SQ.lpR (SQ.blkR (SQ.midDR ?_)))))))))
 obtain rfl:=Option.some.inj h
 exact SQ.fret (res1 rfl rfl) (ret_of (M:=[]) ⟨rfl,rfl⟩ fun _ hw=>HpOk.pick (H:=[]) hw [] 0 rfl)
 replace h:=cF hc5 h
 refine SX.skip (SQ.thn (SX.region ?_))
 obtain ⟨x3,hx3,h⟩:=bnd h
 refine SL.mv (.r rfl) rfl (SL.mv (.r rfl) rfl ?_)
 refine SL.iaN hx3 hs0_ (.r rfl) ty66 sz138 rfl rfl fun be3 of3 hc6=>?_
 refine SL.fa (.r rfl) rfl fo138_0 ?_
 refine SL.ld (.r rfl) sc29 rfl (cell_kept (j:=0) hc6 rfl) ?_
 refine SL.asg (.r rfl) rfl (SL.nil (SQ.blk (SQ.thn (SX.region ?_))))
 obtain ⟨i_1,ei_1,h⟩:=retE h
 refine SL.mv (.r rfl) rfl (SL.bin (.r rfl) rfl rfl Bin.addW ?_)
 refine SL.asgX (u:=vI i_1) (.r rfl) rfl (congrArg vI ei_1) ?_
 refine SL.nil ?_
 exact SQ.again (m1,x3.gen,i_1) h (Nat.lt_succ_self _) (by repeat' (first | exact trivial | refine And.intro rfl ?_)) (fun _ hw=>HpOk.pick (H:=[]) hw [] 0 rfl)
 replace h:=cF hc2 h
 refine SX.exit (SQ.thnE (SQ.lpE (SQ.blkE ?_)))
 exact SQ.midD () h (by repeat' (first | exact trivial | refine And.intro rfl ?_)) (fun _ hw=>HpOk.pick (H:=[]) hw [] 0 rfl)
 unfold f_ref04_Right_j1 at h
 refine SX.re [] (H) ?_ (by repeat' (first | exact trivial | refine And.intro rfl ?_))
 refine SX.sr (SL.asg (.r rfl) rfl (SL.nx (SX.ret ?_)))
 obtain rfl:=Option.some.inj h
 exact SQ.fret (res1 rfl rfl) (ret_of (M:=[]) ⟨rfl,rfl⟩ fun _ hw=>HpOk.pick (H:=[]) hw [] 0 rfl)

def f_ref04_Find_j1 (y2:UInt32) (y3:List UInt8):Option (KeyA×Int):=
 some ((⟨0,[]⟩:KeyA),41)
def f_ref04_Find_l1_b (p0:List KeyA) (p1:UInt32) (nx_f_ref04_Find_l1:UInt32×List UInt8×Int→Option (KeyA×Int)) (y4:UInt32) (y5:List UInt8) (a1:Int):Option (KeyA×Int):=
 cond (decide (a1<(p0.length:Int)))
 (
  (nthI p0 a1).bind fun x1=>
  cond (decide (x1.gen=p1))
  (
   (nthI p0 a1).bind fun x2=>
   some (x2,0))
  (
   ret (wI (a1+1)) fun i_1=>
   nx_f_ref04_Find_l1 (y4,y5,i_1)))
 (
  f_ref04_Find_j1 y4 y5)
def f_ref04_Find_l1 (p0:List KeyA) (p1:UInt32):Nat→(UInt32×List UInt8×Int)→Option (KeyA×Int):=loopN fun nx x=>f_ref04_Find_l1_b p0 p1 nx x.1 x.2.1 x.2.2
def f_ref04_Find (n:Nat) (p0:List KeyA) (p1:UInt32):Option (KeyA×Int):=
 (f_ref04_Right n p0).bind fun y1=>
 cond (!y1)
 (
  some ((⟨0,[]⟩:KeyA),40))
 (
  f_ref04_Find_l1 p0 p1 n (0,[],0))
set_option maxRecDepth 100000 in
theorem c_ref04_Find {n:Nat} {v0_:Value} {p0:List KeyA} {p1:UInt32} {r:KeyA×Int} (h:f_ref04_Find n p0 p1=some r) (hs0_:SlOf K w0 encKey 2 v0_ p0):Con Tryz.prog K w0 73 [v0_,vU32 p1] [] H (fun u M=>u=.tuple #[.agg (encKey r.1).toArray,vI r.2]∧M=[]):=by
 unfold f_ref04_Find at h
 refine Con.enter Tryz.func73 rfl rfl ?_
 refine SX.sr ?_
 refine SL.alloc (.r rfl) ze138 (fun _=>trivial) fun b1=>?_
 refine SL.asg (.r rfl) rfl (SL.nx (SX.sr ?_))
 obtain ⟨y1,hy1,h⟩:=bnd h
 refine SL.mv (.r rfl) rfl ?_
 refine SL.call (vs:=[_]) (Hin:=[]) (Hr:=_::_) (.r rfl) rfl ⟨rfl,trivial⟩ cal106 rfl rfl (c_ref04_Right hy1 hs0_) ?_
 rintro _ _ ⟨rfl,rfl⟩
 refine ⟨trivial,?_⟩
 refine SL.asg (.r rfl) rfl (SL.nx (SX.seq (SX.sr (SL.mv (.r rfl) rfl (SL.not (.r rfl) rfl (SL.nx ?_))))))
 refine SX.cond rfl (fun hc1=>?_) (fun hc1=>?_)
 replace h:=cT hc1 h
 refine SX.sr (SL.bld [] (.r rfl) pl138 pk138 ze138 trivial rfl (SL.st 0 ⟨rfl,rfl,rfl⟩ rfl rfl rfl sz138 rfl rfl rfl trivial (SL.asg (.r rfl) rfl (SL.nx (SX.ret (SQ.thnR ?_))))))
 obtain rfl:=Option.some.inj h
 exact SQ.fret (resv2 rfl (resv.ag 0 (encKey (⟨0,[]⟩:KeyA)) ag138 rfl rfl rfl rfl) rfl) (ret_of (M:=[]) ⟨rfl,rfl⟩ fun _ hw=>HpOk.pick (H:=[_]) hw [] 1 rfl)
 replace h:=cF hc1 h
 refine SX.skip (SQ.thn ?_)
 refine SX.meetD (α:=UInt32×List UInt8) (fun x=>f_ref04_Find_j1 x.1 x.2=some r) (fun x=>[(4,vP b1 0)]) (fun x=>own b1 (.cells #[vU32 x.1,vS x.2] 138)::H) ?_ (fun x D h=>?_)
 refine SX.sr (SL.asg (.r rfl) rfl (SL.nx (SX.block ?_)))
 refine SX.heap (SX.mono (SX.loop (α:=Nat×UInt32×List UInt8×Int) (fun x=>f_ref04_Find_l1 p0 p1 x.1 (x.2.1,x.2.2.1,x.2.2.2)=some r) (fun x=>[(0,v0_),(1,vU32 p1),(4,vP b1 0),(7,vI x.2.2.2)]) (fun x=>own b1 (.cells #[vU32 x.2.1,vS x.2.2.1] 138)::H) (fun x=>x.1) (fun x D h=>?_) (n,0,[],0) h) (by repeat' (first | exact trivial | refine And.intro rfl ?_))) (fun _ hw=>HpOk.pick (H:=[_]) hw [0] 1 rfl)
 obtain ⟨m1,y4,y5,a1⟩:=x
 dsimp only at h
 rcases m1 with _ | m1
 cases (show (none:Option _)=some r from h)
 replace h:f_ref04_Find_l1_b p0 p1 (f_ref04_Find_l1 p0 p1 m1) y4 y5 a1=some r:=h
 unfold f_ref04_Find_l1_b at h
 refine SX.re [(0,v0_),(1,vU32 p1),(4,vP b1 0),(7,vI a1)] (own b1 (.cells #[vU32 y4,vS y5] 138)::H) ?_ (by repeat' (first | exact trivial | refine And.intro rfl ?_))
 refine SX.seq (SX.sr (SL.mv (.r rfl) rfl (SL.mv (.r rfl) rfl (SL.lenV hs0_ (.r rfl) ty66 rfl (SL.bin (.r rfl) rfl rfl Bin.ltI (SL.nx ?_))))))
 refine SX.cond rfl (fun hc2=>?_) (fun hc2=>?_)
 replace h:=cT hc2 h
 refine SX.skip (SQ.thn (SX.seq (SX.block (SX.sr ?_))))
 obtain ⟨x1,hx1,h⟩:=bnd h
 refine SL.mv (.r rfl) rfl (SL.mv (.r rfl) rfl ?_)
 refine SL.iaN hx1 hs0_ (.r rfl) ty66 sz138 rfl rfl fun be1 of1 hc3=>?_
 refine SL.fa (.r rfl) rfl fo138_0 ?_
 refine SL.ld (.r rfl) sc29 rfl (cell_kept (j:=0) hc3 rfl) ?_
 refine SL.mv (.r rfl) rfl (SL.bin (.r rfl) rfl rfl Bin.eq32 (SL.nx ?_))
 refine SX.cond rfl (fun hc4=>?_) (fun hc4=>?_)
 replace h:=cT hc4 h
 refine SX.sr ?_
 obtain ⟨x2,hx2,h⟩:=bnd h
 refine SL.mv (.r rfl) rfl (SL.mv (.r rfl) rfl ?_)
 refine SL.iaN hx2 hs0_ (.r rfl) ty66 sz138 rfl rfl fun be2 of2 hc5=>?_
 refine SL.ldA (encKey x2) (.r rfl) ag138 rfl rfl (cells_kept hc5) (SL.st 0 ⟨rfl,rfl,rfl⟩ rfl rfl rfl sz138 rfl rfl rfl trivial (SL.asg (.r rfl) rfl (SL.nx (SX.ret (SQ.blkR (SQ.thnR (SQ.lpR (SQ.blkR (SQ.midDR ?_)))))))))
 obtain rfl:=Option.some.inj h
 exact SQ.fret (resv2 rfl (resv.ag 0 (encKey x2) ag138 rfl rfl rfl rfl) rfl) (ret_of (M:=[]) ⟨rfl,rfl⟩ fun _ hw=>HpOk.pick (H:=[_]) hw [] 1 rfl)
 replace h:=cF hc4 h
 refine SX.skip (SQ.blk (SQ.thn (SX.region ?_)))
 obtain ⟨i_1,ei_1,h⟩:=retE h
 refine SL.mv (.r rfl) rfl (SL.bin (.r rfl) rfl rfl Bin.addW ?_)
 refine SL.asgX (u:=vI i_1) (.r rfl) rfl (congrArg vI ei_1) ?_
 refine SL.nil ?_
 exact SQ.again (m1,y4,y5,i_1) h (Nat.lt_succ_self _) (by repeat' (first | exact trivial | refine And.intro rfl ?_)) (fun _ hw=>HpOk.pick (H:=[_]) hw [0] 1 rfl)
 replace h:=cF hc2 h
 refine SX.exit (SQ.thnE (SQ.lpE (SQ.blkE ?_)))
 exact SQ.midD (y4,y5) h (by repeat' (first | exact trivial | refine And.intro rfl ?_)) (fun _ hw=>HpOk.pick (H:=[_]) hw [0] 1 rfl)
 obtain ⟨y2,y3⟩:=x
 dsimp only at h
 unfold f_ref04_Find_j1 at h
 refine SX.re [(4,vP b1 0)] (own b1 (.cells #[vU32 y2,vS y3] 138)::H) ?_ (by repeat' (first | exact trivial | refine And.intro rfl ?_))
 refine SX.sr (SL.bld [] (.r rfl) pl138 pk138 ze138 trivial rfl (SL.st 0 ⟨rfl,rfl,rfl⟩ rfl rfl rfl sz138 rfl rfl rfl trivial (SL.asg (.r rfl) rfl (SL.nx (SX.ret ?_)))))
 obtain rfl:=Option.some.inj h
 exact SQ.fret (resv2 rfl (resv.ag 0 (encKey (⟨0,[]⟩:KeyA)) ag138 rfl rfl rfl rfl) rfl) (ret_of (M:=[]) ⟨rfl,rfl⟩ fun _ hw=>HpOk.pick (H:=[_]) hw [] 1 rfl)

def f_device_power_spend_j2 (p0:DevA) (y1:Bool) (y2:Int):Option (Int×DevA):=
 some (0,{ p0 with off:=y1,lasts:=y2,counts:=wI (p0.counts+1) })
def f_device_power_spend_j1 (p0:DevA) (y1:Bool):Option (Int×DevA):=
 cond y1
 (
  some (71,{ p0 with off:=y1 }))
 (
  cond p0.isCut
  (
   f_device_power_spend_j2 p0 y1 (wI (p0.lasts-1)))
  (
   f_device_power_spend_j2 p0 y1 p0.lasts))
def f_device_power_spend (p0:DevA):Option (Int×DevA):=
 cond (p0.isCut&&(decide (p0.lasts=0)))
 (
  f_device_power_spend_j1 p0 true)
 (
  f_device_power_spend_j1 p0 p0.off)
set_option maxRecDepth 100000 in
theorem c_device_power_spend {b0_:Nat} {v0x4_:Value} {m0x5_:Nat} {m0x6_:Nat} {p0:DevA} {r:Int×DevA} (h:f_device_power_spend p0=some r)  : Con Tryz.prog K w0 113 [vP b0_ 0] [own b0_ (.cells #[vB p0.off,vB p0.isCut,vI p0.lasts,vI p0.counts,v0x4_,.map (some m0x5_),.map (some m0x6_),vU64 p0.rcnt,vS p0.rtag,vU32 p0.rboots] 130),rowT 9 1 v0x4_ eS p0.blocks,mapC m0x5_ vU32 vS p0.pend,mapC m0x6_ vU32 vB p0.bad] H (fun u M=>u=vI r.1∧M=[own b0_ (.cells #[vB r.2.off,vB r.2.isCut,vI r.2.lasts,vI r.2.counts,v0x4_,.map (some m0x5_),.map (some m0x6_),vU64 r.2.rcnt,vS r.2.rtag,vU32 r.2.rboots] 130),rowT 9 1 v0x4_ eS r.2.blocks,mapC m0x5_ vU32 vS r.2.pend,mapC m0x6_ vU32 vB r.2.bad]):=by
 unfold f_device_power_spend at h
 refine Con.enter Tryz.func113 rfl rfl ?_
 refine SX.sr (SL.asg (.r rfl) rfl (SL.nx ?_))
 refine SX.meetD (α:=Bool) (fun x=>f_device_power_spend_j1 p0 x=some r) (fun x=>[(0,vP b0_ 0)]) (fun x=>own b0_ (.cells #[vB x,vB p0.isCut,vI p0.lasts,vI p0.counts,v0x4_,.map (some m0x5_),.map (some m0x6_),vU64 p0.rcnt,vS p0.rtag,vU32 p0.rboots] 130)::rowT 9 1 v0x4_ eS p0.blocks::mapC m0x5_ vU32 vS p0.pend::mapC m0x6_ vU32 vB p0.bad::H) ?_ (fun y1 D h=>?_)
 refine SX.sr (SL.mv (.r rfl) rfl (SL.nchk (.r rfl) rfl (SL.fa (.r rfl) rfl fo125_1 (SL.ld (.r rfl) sc4 rfl (cell_own 0 rfl rfl) (SL.mv (.r rfl) rfl ?_)))))
 refine SL.and (c:=decide (p0.lasts=0)) 7 6 13 rfl (fun hb k=>?_) (fun hb k=>?_) ?_
 refine SL.mv (.r rfl) rfl (SL.nchk (.r rfl) rfl (SL.fa (.r rfl) rfl fo125_2 (SL.ld (.r rfl) sc3 rfl (cell_own 0 rfl rfl) (SL.bin (.r rfl) rfl rfl Bin.eqI (SL.pk (.r rfl) rfl rfl ?_)))))
 exact k.mono (by repeat' (first | exact trivial | refine And.intro rfl ?_))
 refine SL.pass rfl rfl rfl (SL.pass rfl rfl rfl (SL.pass rfl rfl rfl (SL.pass rfl rfl rfl (SL.pass rfl rfl rfl (SL.pk (.r rfl) rfl rfl ?_)))))
 exact k.mono (by repeat' (first | exact trivial | refine And.intro rfl ?_))
 refine SL.nx ?_
 refine SX.cond rfl (fun hc1=>?_) (fun hc1=>?_)
 replace h:=cT hc1 h
 refine SX.region (SL.mv (.r rfl) rfl (SL.nchk (.r rfl) rfl (SL.fa (.r rfl) rfl fo125_0 (SL.st 0 ⟨rfl,rfl,rfl⟩ rfl rfl rfl sz4 rfl rfl rfl trivial (SL.nil ?_)))))
 exact SQ.midD true h (by repeat' (first | exact trivial | refine And.intro rfl ?_)) (fun _ hw=>HpOk.pick (H:=[_,_,_,_]) hw [0,1,2,3] 4 rfl)
 replace h:=cF hc1 h
 refine SX.skip ?_
 exact SQ.midD p0.off h (by repeat' (first | exact trivial | refine And.intro rfl ?_)) (fun _ hw=>HpOk.pick (H:=[_,_,_,_]) hw [0,1,2,3] 4 rfl)
 unfold f_device_power_spend_j1 at h
 refine SX.re [(0,vP b0_ 0)] (own b0_ (.cells #[vB y1,vB p0.isCut,vI p0.lasts,vI p0.counts,v0x4_,.map (some m0x5_),.map (some m0x6_),vU64 p0.rcnt,vS p0.rtag,vU32 p0.rboots] 130)::rowT 9 1 v0x4_ eS p0.blocks::mapC m0x5_ vU32 vS p0.pend::mapC m0x6_ vU32 vB p0.bad::H) ?_ (by repeat' (first | exact trivial | refine And.intro rfl ?_))
 refine SX.seq (SX.sr (SL.mv (.r rfl) rfl (SL.nchk (.r rfl) rfl (SL.fa (.r rfl) rfl fo125_0 (SL.ld (.r rfl) sc4 rfl (cell_own 0 rfl rfl) (SL.nx ?_))))))
 refine SX.cond rfl (fun hc2=>?_) (fun hc2=>?_)
 replace h:=cT hc2 h
 refine SX.sr (SL.asg (.r rfl) rfl (SL.nx (SX.ret (SQ.thnR ?_))))
 obtain rfl:=Option.some.inj h
 exact SQ.fret (res1 rfl rfl) (ret_of (M:=[_,_,_,_]) ⟨rfl,rfl⟩ fun _ hw=>HpOk.pick (H:=[_,_,_,_]) hw [0,1,2,3] 4 rfl)
 replace h:=cF hc2 h
 refine SX.skip (SQ.thn ?_)
 refine SX.meetD (α:=Int) (fun x=>f_device_power_spend_j2 p0 y1 x=some r) (fun x=>[(0,vP b0_ 0)]) (fun x=>own b0_ (.cells #[vB y1,vB p0.isCut,vI x,vI p0.counts,v0x4_,.map (some m0x5_),.map (some m0x6_),vU64 p0.rcnt,vS p0.rtag,vU32 p0.rboots] 130)::rowT 9 1 v0x4_ eS p0.blocks::mapC m0x5_ vU32 vS p0.pend::mapC m0x6_ vU32 vB p0.bad::H) ?_ (fun y2 D h=>?_)
 refine SX.sr (SL.mv (.r rfl) rfl (SL.nchk (.r rfl) rfl (SL.fa (.r rfl) rfl fo125_1 (SL.ld (.r rfl) sc4 rfl (cell_own 0 rfl rfl) (SL.nx ?_)))))
 refine SX.cond rfl (fun hc3=>?_) (fun hc3=>?_)
 replace h:=cT hc3 h
 refine SX.region (SL.mv (.r rfl) rfl (SL.nchk (.r rfl) rfl (SL.fa (.r rfl) rfl fo125_2 (SL.ld (.r rfl) sc3 rfl (cell_own 0 rfl rfl) (SL.bin (.r rfl) rfl rfl Bin.subW (SL.nchk (.r rfl) rfl (SL.fa (.r rfl) rfl fo125_2 (SL.st 0 ⟨rfl,rfl,rfl⟩ rfl rfl rfl sz3 rfl rfl rfl trivial (SL.nil ?_)))))))))
 exact SQ.midD (wI (p0.lasts-1)) h (by repeat' (first | exact trivial | refine And.intro rfl ?_)) (fun _ hw=>HpOk.pick (H:=[_,_,_,_]) hw [0,1,2,3] 4 rfl)
 replace h:=cF hc3 h
 refine SX.skip ?_
 exact SQ.midD p0.lasts h (by repeat' (first | exact trivial | refine And.intro rfl ?_)) (fun _ hw=>HpOk.pick (H:=[_,_,_,_]) hw [0,1,2,3] 4 rfl)
 unfold f_device_power_spend_j2 at h
 refine SX.re [(0,vP b0_ 0)] (own b0_ (.cells #[vB y1,vB p0.isCut,vI y2,vI p0.counts,v0x4_,.map (some m0x5_),.map (some m0x6_),vU64 p0.rcnt,vS p0.rtag,vU32 p0.rboots] 130)::rowT 9 1 v0x4_ eS p0.blocks::mapC m0x5_ vU32 vS p0.pend::mapC m0x6_ vU32 vB p0.bad::H) ?_ (by repeat' (first | exact trivial | refine And.intro rfl ?_))
 refine SX.sr (SL.mv (.r rfl) rfl (SL.nchk (.r rfl) rfl (SL.fa (.r rfl) rfl fo125_3 (SL.ld (.r rfl) sc3 rfl (cell_own 0 rfl rfl) (SL.bin (.r rfl) rfl rfl Bin.addW (SL.nchk (.r rfl) rfl (SL.fa (.r rfl) rfl fo125_3 (SL.st 0 ⟨rfl,rfl,rfl⟩ rfl rfl rfl sz3 rfl rfl rfl trivial (SL.nx (SX.sr ?_))))))))))
 refine SL.asg (.r rfl) rfl (SL.nx (SX.ret ?_))
 obtain rfl:=Option.some.inj h
 exact SQ.fret (res1 rfl rfl) (ret_of (M:=[_,_,_,_]) ⟨rfl,rfl⟩ fun _ hw=>HpOk.pick (H:=[_,_,_,_]) hw [0,1,2,3] 4 rfl)

def f_dd_has (p0:DevA) (p1:UInt32):Option Bool:=
 ret (decide ((p1.toNat:Int)<(p0.blocks.length:Int))) fun x1=>
 some x1
set_option maxRecDepth 100000 in
theorem c_dd_has {b0_:Nat} {v0x4_:Value} {m0x5_:Nat} {m0x6_:Nat} {p0:DevA} {p1:UInt32} {r:Bool} (h:f_dd_has p0 p1=some r)  : Con Tryz.prog K w0 67 [vP b0_ 0,vU32 p1] [own b0_ (.cells #[vB p0.off,vB p0.isCut,vI p0.lasts,vI p0.counts,v0x4_,.map (some m0x5_),.map (some m0x6_),vU64 p0.rcnt,vS p0.rtag,vU32 p0.rboots] 130),rowT 9 1 v0x4_ eS p0.blocks,mapC m0x5_ vU32 vS p0.pend,mapC m0x6_ vU32 vB p0.bad] H (fun u M=>u=vB r∧M=[own b0_ (.cells #[vB p0.off,vB p0.isCut,vI p0.lasts,vI p0.counts,v0x4_,.map (some m0x5_),.map (some m0x6_),vU64 p0.rcnt,vS p0.rtag,vU32 p0.rboots] 130),rowT 9 1 v0x4_ eS p0.blocks,mapC m0x5_ vU32 vS p0.pend,mapC m0x6_ vU32 vB p0.bad]):=by
 unfold f_dd_has at h
 refine Con.enter Tryz.func67 rfl rfl ?_
 refine SX.sr (SL.asg (.r rfl) rfl (SL.nx (SX.sr ?_)))
 obtain ⟨x1,ex1,h⟩:=retE h
 refine SL.mv (.r rfl) rfl (SL.cv (.r rfl) rfl (Cv.u32_I ty29 ty2) (SL.mv (.r rfl) rfl (SL.nchk (.r rfl) rfl (SL.fa (.r rfl) rfl fo130_1 (SL.ld (.r rfl) sc22 rfl (cell_own 0 rfl rfl) (SL.lenT 1 (.r rfl) ty22 rfl rfl (SL.bin (.r rfl) rfl rfl Bin.ltI ?_)))))))
 refine SL.asgX (u:=vB x1) (.r rfl) rfl (congrArg vB ex1) ?_
 refine SL.nx (SX.ret ?_)
 obtain rfl:=Option.some.inj h
 exact SQ.fret (res1 rfl rfl) (ret_of (M:=[_,_,_,_]) ⟨rfl,rfl⟩ fun _ hw=>HpOk.pick (H:=[_,_,_,_]) hw [0,1,2,3] 4 rfl)

def f_dd_holds (p0:DevA) (p1:UInt32):Option (List UInt8):=
 ret ((mget p0.pend p1).getD []) fun x1=>
 ret ((mget p0.pend p1).isSome) fun ok_1=>
 cond ok_1
 (
  some x1)
 (
  (nthI p0.blocks (p1.toNat:Int)).bind fun x2=>
  some x2)
set_option maxRecDepth 100000 in
theorem c_dd_holds {b0_:Nat} {v0x4_:Value} {m0x5_:Nat} {m0x6_:Nat} {p0:DevA} {p1:UInt32} {r:List UInt8} (h:f_dd_holds p0 p1=some r)  : Con Tryz.prog K w0 66 [vP b0_ 0,vU32 p1] [own b0_ (.cells #[vB p0.off,vB p0.isCut,vI p0.lasts,vI p0.counts,v0x4_,.map (some m0x5_),.map (some m0x6_),vU64 p0.rcnt,vS p0.rtag,vU32 p0.rboots] 130),rowT 9 1 v0x4_ eS p0.blocks,mapC m0x5_ vU32 vS p0.pend,mapC m0x6_ vU32 vB p0.bad] H (fun u M=>u=vS r∧M=[own b0_ (.cells #[vB p0.off,vB p0.isCut,vI p0.lasts,vI p0.counts,v0x4_,.map (some m0x5_),.map (some m0x6_),vU64 p0.rcnt,vS p0.rtag,vU32 p0.rboots] 130),rowT 9 1 v0x4_ eS p0.blocks,mapC m0x5_ vU32 vS p0.pend,mapC m0x6_ vU32 vB p0.bad]):=by
 unfold f_dd_holds at h
 refine Con.enter Tryz.func66 rfl rfl ?_
 refine SX.sr (SL.asg (.r rfl) rfl (SL.nx (SX.seq (SX.sr ?_))))
 obtain ⟨x1,ex1,h⟩:=retE h
 obtain ⟨ok_1,eok_1,h⟩:=retE h
 refine SL.mv (.r rfl) rfl (SL.nchk (.r rfl) rfl (SL.fa (.r rfl) rfl fo130_2 (SL.ld (.r rfl) sc126 rfl (cell_own 0 rfl rfl) (SL.mv (.r rfl) rfl ?_))))
 refine SL.lkpOk (zv:=[]) 2 (MapE.u32S ty29) (.r rfl) ty126 ze9 rfl rfl rfl ?_
 refine SL.mv (.r rfl) rfl (SL.ext (.r rfl) rfl rfl (SL.ext (.r rfl) rfl rfl ?_))
 refine SL.asgX (u:=vS x1) (.r rfl) rfl (congrArg vS ex1) ?_
 refine SL.asgX (u:=vB ok_1) (.r rfl) rfl (congrArg vB eok_1) ?_
 refine SL.nx (SX.sr (SL.mv (.r rfl) rfl (SL.nx ?_)))
 refine SX.cond rfl (fun hc1=>?_) (fun hc1=>?_)
 replace h:=cT hc1 h
 refine SX.sr (SL.mv (.r rfl) rfl (SL.asg (.r rfl) rfl (SL.nx (SX.ret (SQ.thnR ?_)))))
 obtain rfl:=Option.some.inj h
 exact SQ.fret (res1 rfl rfl) (ret_of (M:=[_,_,_,_]) ⟨rfl,rfl⟩ fun _ hw=>HpOk.pick (H:=[_,_,_,_]) hw [0,1,2,3] 4 rfl)
 replace h:=cF hc1 h
 refine SX.skip (SQ.thn (SX.sr ?_))
 obtain ⟨x2,hx2,h⟩:=bnd h
 refine SL.mv (.r rfl) rfl (SL.nchk (.r rfl) rfl (SL.fa (.r rfl) rfl fo130_1 (SL.ld (.r rfl) sc22 rfl (cell_own 0 rfl rfl) (SL.mv (.r rfl) rfl ?_))))
 refine SL.iaT 1 hx2 (.r rfl) ty22 sz9 rfl rfl rfl fun g1 m1 cp1 hv1=>?_
 refine SL.ld (.r rfl) sc9 rfl (cell_rowT (sz:=1) (enc:=eS) 1 0 (fun _=>rfl) rfl hv1 hx2 rfl) ?_
 refine SL.asg (.r rfl) rfl (SL.nx (SX.ret ?_))
 obtain rfl:=Option.some.inj h
 exact SQ.fret (res1 rfl rfl) (ret_of (M:=[_,_,_,_]) ⟨rfl,rfl⟩ fun _ hw=>HpOk.pick (H:=[_,_,_,_]) hw [0,1,2,3] 4 rfl)

def f_dd_Blocks (p0:DevA):Option Int:=
 some (p0.blocks.length:Int)
set_option maxRecDepth 100000 in
theorem c_dd_Blocks {b0_:Nat} {v0x4_:Value} {m0x5_:Nat} {m0x6_:Nat} {p0:DevA} {r:Int} (h:f_dd_Blocks p0=some r)  : Con Tryz.prog K w0 61 [vP b0_ 0] [own b0_ (.cells #[vB p0.off,vB p0.isCut,vI p0.lasts,vI p0.counts,v0x4_,.map (some m0x5_),.map (some m0x6_),vU64 p0.rcnt,vS p0.rtag,vU32 p0.rboots] 130),rowT 9 1 v0x4_ eS p0.blocks,mapC m0x5_ vU32 vS p0.pend,mapC m0x6_ vU32 vB p0.bad] H (fun u M=>u=vI r∧M=[own b0_ (.cells #[vB p0.off,vB p0.isCut,vI p0.lasts,vI p0.counts,v0x4_,.map (some m0x5_),.map (some m0x6_),vU64 p0.rcnt,vS p0.rtag,vU32 p0.rboots] 130),rowT 9 1 v0x4_ eS p0.blocks,mapC m0x5_ vU32 vS p0.pend,mapC m0x6_ vU32 vB p0.bad]):=by
 unfold f_dd_Blocks at h
 refine Con.enter Tryz.func61 rfl rfl ?_
 refine SX.sr (SL.asg (.r rfl) rfl (SL.nx (SX.seq (SX.sr (SL.mv (.r rfl) rfl (SL.eqPN (.r rfl) ty25 rfl rfl (SL.nx (SX.condF rfl (SX.skip (SQ.thn (SX.sr (SL.mv (.r rfl) rfl (SL.nchk (.r rfl) rfl (SL.fa (.r rfl) rfl fo130_1 (SL.ld (.r rfl) sc22 rfl (cell_own 0 rfl rfl) ?_)))))))))))))))
 refine SL.lenT 1 (.r rfl) ty22 rfl rfl (SL.asg (.r rfl) rfl (SL.nx (SX.ret ?_)))
 obtain rfl:=Option.some.inj h
 exact SQ.fret (res1 rfl rfl) (ret_of (M:=[_,_,_,_]) ⟨rfl,rfl⟩ fun _ hw=>HpOk.pick (H:=[_,_,_,_]) hw [0,1,2,3] 4 rfl)

def f_dd_Read (p0:DevA) (p1:UInt32):Option (List UInt8×Int):=
 (f_dd_has p0 p1).bind fun y1=>
 ret (!y1) fun x1=>
 cond x1
 (
  some ([],2))
 (
  cond p0.off
  (
   some ([],71))
  (
   ret ((mget p0.bad p1).getD false) fun x2=>
   cond x2
   (
    some ([],70))
   (
    (f_dd_holds p0 p1).bind fun y2=>
    some (y2,0))))
set_option maxRecDepth 100000 in
theorem c_dd_Read {b0_:Nat} {v0x4_:Value} {m0x5_:Nat} {m0x6_:Nat} {p0:DevA} {p1:UInt32} {r:List UInt8×Int} (h:f_dd_Read p0 p1=some r)  : Con Tryz.prog K w0 201 [vP b0_ 0,vU32 p1] [own b0_ (.cells #[vB p0.off,vB p0.isCut,vI p0.lasts,vI p0.counts,v0x4_,.map (some m0x5_),.map (some m0x6_),vU64 p0.rcnt,vS p0.rtag,vU32 p0.rboots] 130),rowT 9 1 v0x4_ eS p0.blocks,mapC m0x5_ vU32 vS p0.pend,mapC m0x6_ vU32 vB p0.bad] H (fun u M=>u=.tuple #[vS r.1,vI r.2]∧M=[own b0_ (.cells #[vB p0.off,vB p0.isCut,vI p0.lasts,vI p0.counts,v0x4_,.map (some m0x5_),.map (some m0x6_),vU64 p0.rcnt,vS p0.rtag,vU32 p0.rboots] 130),rowT 9 1 v0x4_ eS p0.blocks,mapC m0x5_ vU32 vS p0.pend,mapC m0x6_ vU32 vB p0.bad]):=by
 unfold f_dd_Read at h
 refine Con.enter Tryz.func201 rfl rfl ?_
 refine SX.sr (SL.asg (.r rfl) rfl (SL.asg (.r rfl) rfl (SL.nx (SX.seq (SX.block (SX.sr (SL.mv (.r rfl) rfl (SL.eqPN (.r rfl) ty25 rfl rfl (SL.asg (.r rfl) rfl (SL.nx (SX.condF rfl (SX.sr ?_))))))))))))
 obtain ⟨y1,hy1,h⟩:=bnd h
 obtain ⟨x1,ex1,h⟩:=retE h
 refine SL.mv (.r rfl) rfl (SL.mv (.r rfl) rfl ?_)
 refine SL.call (vs:=[_,_]) (Hin:=[_,_,_,_]) (Hr:=_) (.r rfl) rfl ⟨rfl,rfl,trivial⟩ cal67 rfl rfl (c_dd_has hy1) ?_
 rintro _ _ ⟨rfl,rfl⟩
 refine ⟨trivial,?_⟩
 refine SL.not (.r rfl) rfl ?_
 refine SL.asgX (u:=vB x1) (.r rfl) rfl (congrArg vB ex1) ?_
 refine SL.nx ?_
 refine SX.cond rfl (fun hc2=>?_) (fun hc2=>?_)
 replace h:=cT hc2 h
 refine SX.sr (SL.asg (.r rfl) rfl (SL.asg (.r rfl) rfl (SL.nx (SX.ret (SQ.blkR (SQ.thnR ?_))))))
 obtain rfl:=Option.some.inj h
 exact SQ.fret (res2 rfl rfl rfl) (ret_of (M:=[_,_,_,_]) ⟨rfl,rfl⟩ fun _ hw=>HpOk.pick (H:=[_,_,_,_]) hw [0,1,2,3] 4 rfl)
 replace h:=cF hc2 h
 refine SX.sr (SL.mv (.r rfl) rfl (SL.nchk (.r rfl) rfl (SL.fa (.r rfl) rfl fo130_0 (SL.fa (.r rfl) rfl fo125_0 (SL.ld (.r rfl) sc4 rfl (cell_own 0 rfl rfl) (SL.asg (.r rfl) rfl (SL.nx ?_)))))))
 refine SX.cond rfl (fun hc3=>?_) (fun hc3=>?_)
 replace h:=cT hc3 h
 refine SX.sr (SL.asg (.r rfl) rfl (SL.asg (.r rfl) rfl (SL.nx (SX.ret (SQ.blkR (SQ.thnR ?_))))))
 obtain rfl:=Option.some.inj h
 exact SQ.fret (res2 rfl rfl rfl) (ret_of (M:=[_,_,_,_]) ⟨rfl,rfl⟩ fun _ hw=>HpOk.pick (H:=[_,_,_,_]) hw [0,1,2,3] 4 rfl)
 replace h:=cF hc3 h
 refine SX.sr ?_
 obtain ⟨x2,ex2,h⟩:=retE h
 refine SL.mv (.r rfl) rfl (SL.nchk (.r rfl) rfl (SL.fa (.r rfl) rfl fo130_3 (SL.ld (.r rfl) sc94 rfl (cell_own 0 rfl rfl) (SL.mv (.r rfl) rfl ?_))))
 refine SL.lkp (zv:=false) 3 (MapE.u32B ty29) (.r rfl) ty94 ze4 rfl rfl rfl ?_
 refine SL.asgX (u:=vB x2) (.r rfl) rfl (congrArg vB ex2) ?_
 refine SL.nx ?_
 refine SX.cond rfl (fun hc4=>?_) (fun hc4=>?_)
 replace h:=cT hc4 h
 refine SX.sr (SL.asg (.r rfl) rfl (SL.asg (.r rfl) rfl (SL.nx (SX.ret (SQ.blkR (SQ.thnR ?_))))))
 obtain rfl:=Option.some.inj h
 exact SQ.fret (res2 rfl rfl rfl) (ret_of (M:=[_,_,_,_]) ⟨rfl,rfl⟩ fun _ hw=>HpOk.pick (H:=[_,_,_,_]) hw [0,1,2,3] 4 rfl)
 replace h:=cF hc4 h
 refine SX.skip (SQ.blk (SQ.thn (SX.sr ?_)))
 obtain ⟨y2,hy2,h⟩:=bnd h
 refine SL.mv (.r rfl) rfl (SL.mv (.r rfl) rfl ?_)
 refine SL.call (vs:=[_,_]) (Hin:=[_,_,_,_]) (Hr:=_) (.r rfl) rfl ⟨rfl,rfl,trivial⟩ cal66 rfl rfl (c_dd_holds hy2) ?_
 rintro _ _ ⟨rfl,rfl⟩
 refine ⟨trivial,?_⟩
 refine SL.asg (.r rfl) rfl (SL.asg (.r rfl) rfl (SL.nx (SX.ret ?_)))
 obtain rfl:=Option.some.inj h
 exact SQ.fret (res2 rfl rfl rfl) (ret_of (M:=[_,_,_,_]) ⟨rfl,rfl⟩ fun _ hw=>HpOk.pick (H:=[_,_,_,_]) hw [0,1,2,3] 4 rfl)

def f_dd_Write_j1 (y2:Int×DevA) (l1:List (UInt32×List UInt8)):Option (Int×DevA):=
 some (y2.1,{ y2.2 with pend:=l1 })
def f_dd_Write (p0:DevA) (p1:UInt32) (p2:List UInt8):Option (Int×DevA):=
 (f_dd_has p0 p1).bind fun y1=>
 ret ((!y1)||(!decide ((p2.length:Int)=256))) fun x1=>
 cond x1
 (
  some (2,p0))
 (
  (f_device_power_spend p0).bind fun y2=>
  cond (decide (y2.1=0))
  (
   (mputI y2.2.pend p1 p2).bind fun l2=>
   f_dd_Write_j1 y2 l2)
  (
   f_dd_Write_j1 y2 y2.2.pend))
set_option maxRecDepth 100000 in
theorem c_dd_Write {b0_:Nat} {v0x4_:Value} {m0x5_:Nat} {m0x6_:Nat} {p0:DevA} {p1:UInt32} {p2:List UInt8} {r:Int×DevA} (h:f_dd_Write p0 p1 p2=some r)  : Con Tryz.prog K w0 77 [vP b0_ 0,vU32 p1,vS p2] [own b0_ (.cells #[vB p0.off,vB p0.isCut,vI p0.lasts,vI p0.counts,v0x4_,.map (some m0x5_),.map (some m0x6_),vU64 p0.rcnt,vS p0.rtag,vU32 p0.rboots] 130),rowT 9 1 v0x4_ eS p0.blocks,mapC m0x5_ vU32 vS p0.pend,mapC m0x6_ vU32 vB p0.bad] H (fun u M=>u=vI r.1∧M=[own b0_ (.cells #[vB r.2.off,vB r.2.isCut,vI r.2.lasts,vI r.2.counts,v0x4_,.map (some m0x5_),.map (some m0x6_),vU64 r.2.rcnt,vS r.2.rtag,vU32 r.2.rboots] 130),rowT 9 1 v0x4_ eS r.2.blocks,mapC m0x5_ vU32 vS r.2.pend,mapC m0x6_ vU32 vB r.2.bad]):=by
 unfold f_dd_Write at h
 refine Con.enter Tryz.func77 rfl rfl ?_
 refine SX.sr (SL.asg (.r rfl) rfl (SL.nx (SX.seq (SX.block (SX.sr (SL.mv (.r rfl) rfl (SL.eqPN (.r rfl) ty25 rfl rfl (SL.asg (.r rfl) rfl (SL.nx (SX.condF rfl (SX.sr ?_)))))))))))
 obtain ⟨y1,hy1,h⟩:=bnd h
 obtain ⟨x1,ex1,h⟩:=retE h
 refine SL.mv (.r rfl) rfl (SL.mv (.r rfl) rfl ?_)
 refine SL.call (vs:=[_,_]) (Hin:=[_,_,_,_]) (Hr:=_) (.r rfl) rfl ⟨rfl,rfl,trivial⟩ cal67 rfl rfl (c_dd_has hy1) ?_
 rintro _ _ ⟨rfl,rfl⟩
 refine ⟨trivial,?_⟩
 refine SL.not (.r rfl) rfl (SL.mv (.r rfl) rfl ?_)
 refine SL.or (c := !decide ((p2.length:Int)=256)) 16 4 20 rfl (fun hb k=>?_) (fun hb k=>?_) ?_
 refine SL.pass rfl rfl rfl (SL.pass rfl rfl rfl (SL.pass rfl rfl rfl (SL.pk (.r rfl) rfl rfl ?_)))
 exact k.mono (by repeat' (first | exact trivial | refine And.intro rfl ?_))
 refine SL.mv (.r rfl) rfl (SL.lenS (.r rfl) ty9 rfl (SL.bin (.r rfl) rfl rfl Bin.neI (SL.pk (.r rfl) rfl rfl ?_)))
 exact k.mono (by repeat' (first | exact trivial | refine And.intro rfl ?_))
 refine SL.asgX (u:=vB x1) (.r rfl) rfl (congrArg vB ex1) ?_
 refine SL.nx ?_
 refine SX.cond rfl (fun hc2=>?_) (fun hc2=>?_)
 replace h:=cT hc2 h
 refine SX.sr (SL.asg (.r rfl) rfl (SL.nx (SX.ret (SQ.blkR (SQ.thnR ?_)))))
 obtain rfl:=Option.some.inj h
 exact SQ.fret (res1 rfl rfl) (ret_of (M:=[_,_,_,_]) ⟨rfl,rfl⟩ fun _ hw=>HpOk.pick (H:=[_,_,_,_]) hw [0,1,2,3] 4 rfl)
 replace h:=cF hc2 h
 refine SX.skip (SQ.blk (SQ.thn (SX.sr ?_)))
 obtain ⟨y2,hy2,h⟩:=bnd h
 refine SL.mv (.r rfl) rfl (SL.nchk (.r rfl) rfl (SL.fa (.r rfl) rfl fo130_0 ?_))
 refine SL.call (vs:=[_]) (Hin:=[_,_,_,_]) (Hr:=_) (.r rfl) rfl ⟨rfl,trivial⟩ cal113 rfl rfl ((c_device_power_spend hy2 :)) ?_
 rintro _ _ ⟨rfl,rfl⟩
 refine ⟨trivial,?_⟩
 refine SL.asg (.r rfl) rfl (SL.nx ?_)
 refine SX.meetD (α:=List (UInt32×List UInt8)) (fun x=>f_dd_Write_j1 y2 x=some r) (fun x=>[(0,vP b0_ 0),(7,vI y2.1)]) (fun x=>own b0_ (.cells #[vB y2.2.off,vB y2.2.isCut,vI y2.2.lasts,vI y2.2.counts,v0x4_,.map (some m0x5_),.map (some m0x6_),vU64 y2.2.rcnt,vS y2.2.rtag,vU32 y2.2.rboots] 130)::rowT 9 1 v0x4_ eS y2.2.blocks::mapC m0x5_ vU32 vS x::mapC m0x6_ vU32 vB y2.2.bad::H) ?_ (fun l1 D h=>?_)
 refine SX.sr (SL.mv (.r rfl) rfl (SL.bin (.r rfl) rfl rfl Bin.eqI (SL.nx ?_)))
 refine SX.cond rfl (fun hc3=>?_) (fun hc3=>?_)
 replace h:=cT hc3 h
 refine SX.region ?_
 obtain ⟨l2,hl2,h⟩:=bnd h
 refine SL.mv (.r rfl) rfl (SL.nchk (.r rfl) rfl (SL.fa (.r rfl) rfl fo130_2 (SL.ld (.r rfl) sc126 rfl (cell_own 0 rfl rfl) (SL.mv (.r rfl) rfl (SL.mv (.r rfl) rfl (SL.mupN 2 hl2 (MapE.u32S ty29) ⟨rfl,rfl,rfl⟩ ty126 rfl rfl rfl rfl trivial (SL.nil ?_)))))))
 exact SQ.midD l2 h (by repeat' (first | exact trivial | refine And.intro rfl ?_)) (fun _ hw=>HpOk.pick (H:=[_,_,_,_]) hw [0,1,2,3] 4 rfl)
 replace h:=cF hc3 h
 refine SX.skip ?_
 exact SQ.midD y2.2.pend h (by repeat' (first | exact trivial | refine And.intro rfl ?_)) (fun _ hw=>HpOk.pick (H:=[_,_,_,_]) hw [0,1,2,3] 4 rfl)
 unfold f_dd_Write_j1 at h
 refine SX.re [(0,vP b0_ 0),(7,vI y2.1)] (own b0_ (.cells #[vB y2.2.off,vB y2.2.isCut,vI y2.2.lasts,vI y2.2.counts,v0x4_,.map (some m0x5_),.map (some m0x6_),vU64 y2.2.rcnt,vS y2.2.rtag,vU32 y2.2.rboots] 130)::rowT 9 1 v0x4_ eS y2.2.blocks::mapC m0x5_ vU32 vS l1::mapC m0x6_ vU32 vB y2.2.bad::H) ?_ (by repeat' (first | exact trivial | refine And.intro rfl ?_))
 refine SX.sr (SL.mv (.r rfl) rfl (SL.asg (.r rfl) rfl (SL.nx (SX.ret ?_))))
 obtain rfl:=Option.some.inj h
 exact SQ.fret (res1 rfl rfl) (ret_of (M:=[_,_,_,_]) ⟨rfl,rfl⟩ fun _ hw=>HpOk.pick (H:=[_,_,_,_]) hw [0,1,2,3] 4 rfl)

def f_device_New (p0:Int):Option (Option DevA×Int):=
 cond ((decide (p0<4))||(decide (4096<p0)))
 (
  some (none,2))
 (
  (rep0O [0] 32).bind fun y1=>
  (rep0O [0] 256).bind fun y2=>
  (srepO [y2] p0).bind fun y3=>
  some (some ({ off:=false,isCut:=false,lasts:=0,counts:=0,blocks:=y3,pend:=[],bad:=[],rcnt:=0,rtag:=y1,rboots:=0 }:DevA),0))
set_option maxRecDepth 100000 in
theorem c_device_New {p0:Int} {r:Option DevA×Int} (h:f_device_New p0=some r)  : Con Tryz.prog K w0 40 [vI p0] [] H (fun u M=>(r.1=none∧u=.tuple #[.pointer none,vI r.2]∧M=[])∨(∃(d:DevA) (bn0:Nat) (vn0x4:Value) (mn0x5:Nat) (mn0x6:Nat),r.1=some d∧u=.tuple #[vP bn0 0,vI r.2]∧M=[own bn0 (.cells #[vB d.off,vB d.isCut,vI d.lasts,vI d.counts,vn0x4,.map (some mn0x5),.map (some mn0x6),vU64 d.rcnt,vS d.rtag,vU32 d.rboots] 130),rowT 9 1 vn0x4 eS d.blocks,mapC mn0x5 vU32 vS d.pend,mapC mn0x6 vU32 vB d.bad])):=by
 unfold f_device_New at h
 refine Con.enter Tryz.func40 rfl rfl ?_
 refine SX.sr (SL.asg (.r rfl) rfl (SL.asg (.r rfl) rfl (SL.nx (SX.seq (SX.sr (SL.mv (.r rfl) rfl (SL.bin (.r rfl) rfl rfl Bin.ltI (SL.mv (.r rfl) rfl ?_))))))))
 refine SL.or (c:=decide (4096<p0)) 7 3 10 rfl (fun hb k=>?_) (fun hb k=>?_) ?_
 refine SL.pass rfl rfl rfl (SL.pass rfl rfl rfl (SL.pk (.r rfl) rfl rfl ?_))
 exact k.mono (by repeat' (first | exact trivial | refine And.intro rfl ?_))
 refine SL.mv (.r rfl) rfl (SL.bin (.r rfl) rfl rfl Bin.gtI (SL.pk (.r rfl) rfl rfl ?_))
 exact k.mono (by repeat' (first | exact trivial | refine And.intro rfl ?_))
 refine SL.nx ?_
 refine SX.cond rfl (fun hc1=>?_) (fun hc1=>?_)
 replace h:=cT hc1 h
 refine SX.sr (SL.asg (.r rfl) rfl (SL.asg (.r rfl) rfl (SL.nx (SX.ret (SQ.thnR ?_)))))
 obtain rfl:=Option.some.inj h
 exact SQ.fret (res2 rfl rfl rfl) (ret_of (M:=[]) (.inl ⟨rfl,rfl,rfl⟩) fun _ hw=>HpOk.pick (H:=[]) hw [] 0 rfl)
 replace h:=cF hc1 h
 refine SX.skip (SQ.thn (SX.sr ?_))
 refine SL.mkM vU32 vS (.r rfl) (fun _=>trivial) fun b1=>?_
 refine SL.mkM vU32 vB (.r rfl) (fun _=>trivial) fun b2=>?_
 refine SL.bld [_,_] (.r rfl) pl130 pk130 ze130 ⟨rfl,rfl,trivial⟩ rfl ?_
 refine SL.box (.r rfl) rfl (fun _=>trivial) fun b3=>?_
 refine SL.nilT 9 1 eS (SL.asg (.r rfl) rfl (SL.nx (SX.sr ?_)))
 obtain ⟨y1,hy1,h⟩:=bnd h
 refine SL.mv (.r rfl) rfl ?_
 refine SL.call (vs:=[_,_]) (Hin:=[]) (Hr:=_::_::_::_::_) (.r rfl) rfl ⟨rfl,rfl,trivial⟩ cal70 rfl rfl (w_rep0 hy1) ?_
 rintro _ _ ⟨rfl,rfl⟩
 refine ⟨trivial,?_⟩
 refine SL.nchk (.r rfl) rfl (SL.fa (.r rfl) rfl fo130_4 (SL.fa (.r rfl) rfl fo128_1 (SL.st 1 ⟨rfl,rfl,rfl⟩ rfl rfl rfl sz9 rfl rfl rfl trivial (SL.nx (SX.sr ?_)))))
 obtain ⟨y2,hy2,h⟩:=bnd h
 obtain ⟨y3,hy3,h⟩:=bnd h
 refine SL.mv (.r rfl) rfl ?_
 refine SL.call (vs:=[_,_]) (Hin:=[]) (Hr:=_::_::_::_::_) (.r rfl) rfl ⟨rfl,rfl,trivial⟩ cal70 rfl rfl (w_rep0 hy2) ?_
 rintro _ _ ⟨rfl,rfl⟩
 refine ⟨trivial,?_⟩
 refine SL.bsl [_] (.r rfl) ty22 sz9 ze9 ⟨rfl,trivial⟩ rfl rfl rfl (by first | (simp [Value.cells];done) | (intro v hv;simp only [List.mem_cons,List.not_mem_nil,or_false] at hv;rcases hv with rfl<;>rfl)) rfl rfl (fun _=>trivial) fun b4=>?_
 refine SL.ownT eS 1 ([y2]:List (List UInt8)) rfl (fun _=>rfl) rfl ?_
 refine SL.mv (.r rfl) rfl ?_
 refine SL.call (vs:=[_,_]) (Hin:=[_]) (Hr:=_::_::_::_::_) (.r rfl) rfl ⟨rfl,rfl,trivial⟩ cal71 rfl rfl (Con.lend (B:=[_]) (Hin:=[]) fun K' w1 hk hB=>w_srep hy3 (SlOf.lentT (e:=9) (v:=.slice (some ⟨b4,0,none⟩) 1 1) (fun _=>rfl) (hB _ (by simp)))) ?_
 rintro v1 _ ⟨_,rfl,_,rfl,rfl⟩
 refine ⟨trivial,?_⟩
 refine SL.nchk (.r rfl) rfl (SL.fa (.r rfl) rfl fo130_1 ?_)
 refine SL.rowV 1 rfl fun hv1 ho1=>?_
 refine SL.stR 3 ⟨rfl,rfl,rfl⟩ rfl rfl rfl sz22 hv1 ho1 rfl trivial (SL.nx (SX.sr (SL.mv (.r rfl) rfl (SL.asg (.r rfl) rfl (SL.asg (.r rfl) rfl (SL.nx (SX.ret ?_)))))))
 obtain rfl:=Option.some.inj h
 exact SQ.fret (res2 rfl rfl rfl) (ret_of (M:=[_,_,_,_]) (.inr ⟨_,b3,v1,b1,b2,rfl,rfl,rfl⟩) fun _ hw=>HpOk.pick (H:=[_,_,_,_,_,_]) hw [3,1,5,4] 6 rfl)

def f_ref13_New (n:Nat) (p0:RDevA) (p1:List KeyA) (p2:UInt32) (p3:UInt32):Option (Option RVltA×Int):=
 (f_ref04_Find n p1 p2).bind fun y1=>
 cond (!decide (y1.2=0))
 (
  some (none,y1.2))
 (
  (mkI 1 (p0.blk.length:Int) false).bind fun l1=>
  (nthI l1 0).bind fun x1=>
  (setI l1 0 true).bind fun l2=>
  (nthI l2 1).bind fun x2=>
  (setI l2 1 true).bind fun l3=>
  some (some ({ ring:=p1,gen:=p2,boot:=p3,num:=0,taken:=l3 }:RVltA),0))
set_option maxRecDepth 100000 in
theorem c_ref13_New {n:Nat} {b0_:Nat} {v0x0_:Value} {v0x1_:Value} {v0x2_:Value} {p0:RDevA} {v1_:Value} {p1:List KeyA} {p2:UInt32} {p3:UInt32} {r:Option RVltA×Int} (h:f_ref13_New n p0 p1 p2 p3=some r)  : Con Tryz.prog K w0 44 [vP b0_ 0,v1_,vU32 p2,vU32 p3] [own b0_ (.cells #[v0x0_,v0x1_,v0x2_,vU64 p0.rcnt,vS p0.rtag,vU32 p0.rboots,vI p0.left,vB p0.off] 132),rowT 9 1 v0x0_ eS p0.blk,rowT 9 1 v0x1_ eS p0.pnd,rowT 4 1 v0x2_ eB p0.bads,rowT 138 2 v1_ encKey p1] H (fun u M=>(r.1=none∧u=.tuple #[.pointer none,vI r.2]∧M=[own b0_ (.cells #[v0x0_,v0x1_,v0x2_,vU64 p0.rcnt,vS p0.rtag,vU32 p0.rboots,vI p0.left,vB p0.off] 132),rowT 9 1 v0x0_ eS p0.blk,rowT 9 1 v0x1_ eS p0.pnd,rowT 4 1 v0x2_ eB p0.bads])∨(∃(d:RVltA) (bn0:Nat) (vn0x1:Value) (vn0x5:Value),r.1=some d∧u=.tuple #[vP bn0 0,vI r.2]∧M=[own bn0 (.cells #[vP b0_ 0,vn0x1,vU32 d.gen,vU32 d.boot,vU64 d.num,vn0x5] 69),rowT 138 2 vn0x1 encKey d.ring,rowT 4 1 vn0x5 eB d.taken,own b0_ (.cells #[v0x0_,v0x1_,v0x2_,vU64 p0.rcnt,vS p0.rtag,vU32 p0.rboots,vI p0.left,vB p0.off] 132),rowT 9 1 v0x0_ eS p0.blk,rowT 9 1 v0x1_ eS p0.pnd,rowT 4 1 v0x2_ eB p0.bads])):=by
 unfold f_ref13_New at h
 refine Con.enter Tryz.func44 rfl rfl ?_
 refine SX.sr (SL.asg (.r rfl) rfl (SL.asg (.r rfl) rfl (SL.nx (SX.sr ?_))))
 obtain ⟨y1,hy1,h⟩:=bnd h
 refine SL.mv (.r rfl) rfl (SL.mv (.r rfl) rfl (SL.pick [4,0,1,2,3] 5 ?_))
 refine SL.call (vs:=[_,_]) (Hin:=[_]) (Hr:=_::_::_::_::_) (.r rfl) rfl ⟨rfl,rfl,trivial⟩ cal73 rfl rfl (Con.lend (B:=[_]) (Hin:=[]) fun K' w1 hk hB=>c_ref04_Find hy1 (SlOf.lentT (e:=138) (v:=v1_) (fun _=>rfl) (hB _ (by simp)))) ?_
 rintro _ _ ⟨_,rfl,rfl,rfl⟩
 refine ⟨trivial,?_⟩
 refine SL.mv (.r rfl) rfl (SL.ext (.r rfl) rfl rfl (SL.ext (.r rfl) rfl rfl ?_))
 refine SL.alloc (.r rfl) ze138 (fun _=>trivial) fun b1=>?_
 refine SL.st 0 ⟨rfl,rfl,rfl⟩ rfl rfl rfl sz138 rfl rfl rfl trivial (SL.asg (.r rfl) rfl (SL.nx (SX.seq (SX.sr (SL.mv (.r rfl) rfl (SL.bin (.r rfl) rfl rfl Bin.neI (SL.nx ?_)))))))
 refine SX.cond rfl (fun hc1=>?_) (fun hc1=>?_)
 replace h:=cT hc1 h
 refine SX.sr (SL.mv (.r rfl) rfl (SL.asg (.r rfl) rfl (SL.asg (.r rfl) rfl (SL.nx (SX.ret (SQ.thnR ?_))))))
 obtain rfl:=Option.some.inj h
 exact SQ.fret (res2 rfl rfl rfl) (ret_of (M:=[_,_,_,_]) (.inl ⟨rfl,rfl,rfl⟩) fun _ hw=>HpOk.pick (H:=[_,_,_,_,_,_]) hw [2,3,4,5] 6 rfl)
 replace h:=cF hc1 h
 refine SX.skip (SQ.thn (SX.sr ?_))
 obtain ⟨l1,hl1,h⟩:=bnd h
 refine SL.mv (.r rfl) rfl (SL.mv (.r rfl) rfl (SL.mv (.r rfl) rfl (SL.mv (.r rfl) rfl (SL.mv (.r rfl) rfl (SL.nchk (.r rfl) rfl (SL.fa (.r rfl) rfl fo132_0 (SL.ld (.r rfl) sc22 rfl (cell_own 2 rfl rfl) ?_)))))))
 refine SL.lenT 3 (.r rfl) ty22 rfl rfl ?_
 refine SL.mkN hl1 eB (.r rfl) ty67 sz4 by4 ze4 rfl rfl rfl rfl (fun _=>trivial) fun v1=>?_
 refine SL.rowV 2 rfl fun hv1 ho1=>?_
 refine SL.rowV 0 rfl fun hv2 ho2=>?_
 refine SL.bldC [vP b0_ 0,v1_,vU32 p2,vU32 p3,v1] [#[vP b0_ 0],#[v1_],#[vU32 p2],#[vU32 p3],#[v1]] (by simp only [List.map_cons,List.map_nil,hv1,hv2];rfl) (.r rfl) pl69 pk69 ze69 ⟨rfl,rfl,rfl,rfl,rfl,trivial⟩ rfl ?_
 refine SL.box (.r rfl) rfl (fun _=>trivial) fun b2=>?_
 refine SL.asg (.r rfl) rfl (SL.nx (SX.sr ?_))
 obtain ⟨x1,hx1,h⟩:=bnd h
 obtain ⟨l2,hl2,h⟩:=bnd h
 refine SL.mv (.r rfl) rfl (SL.nchk (.r rfl) rfl (SL.fa (.r rfl) rfl fo69_5 (SL.ld (.r rfl) sc67 rfl (cell_own 0 rfl rfl) ?_)))
 refine SL.iaT 1 hx1 (.r rfl) ty67 sz4 rfl rfl rfl fun g1 m1 cp1 hv3=>?_
 refine SL.stTN (sz:=1) (enc:=eB) 1 hl2 (fun _=>rfl) ⟨rfl,rfl,rfl⟩ rfl rfl rfl rfl hv3 sz4 (by simp [Value.oneCell']) trivial ?_
 refine SL.nx (SX.sr ?_)
 obtain ⟨x2,hx2,h⟩:=bnd h
 obtain ⟨l3,hl3,h⟩:=bnd h
 refine SL.mv (.r rfl) rfl (SL.nchk (.r rfl) rfl (SL.fa (.r rfl) rfl fo69_5 (SL.ld (.r rfl) sc67 rfl (cell_own 0 rfl rfl) ?_)))
 refine SL.iaT 1 hx2 (.r rfl) ty67 sz4 rfl rfl rfl fun g2 m2 cp2 hv4=>?_
 refine SL.stTN (sz:=1) (enc:=eB) 1 hl3 (fun _=>rfl) ⟨rfl,rfl,rfl⟩ rfl rfl rfl rfl hv4 sz4 (by simp [Value.oneCell']) trivial ?_
 refine SL.nx (SX.sr (SL.mv (.r rfl) rfl (SL.asg (.r rfl) rfl (SL.asg (.r rfl) rfl (SL.nx (SX.ret ?_))))))
 obtain rfl:=Option.some.inj h
 exact SQ.fret (res2 rfl rfl rfl) (ret_of (M:=[_,_,_,_,_,_,_]) (.inr ⟨_,b2,v1_,v1,rfl,rfl,rfl⟩) fun _ hw=>HpOk.pick (H:=[_,_,_,_,_,_,_,_]) hw [0,3,1,4,5,6,7] 8 rfl)

def f_vault_New (p0:DevA) (p1:List KeyA) (p2:UInt32) (p3:UInt32):Option (Option VltA×Int):=
 (findO p1 p2).bind fun y1=>
 cond (!decide (y1.2=0))
 (
  some (none,y1.2))
 (
  (appL 24 [] p1).bind fun l1=>
  some (some ({ ring:=l1,gen:=p2,boot:=p3,seals:=0,taken:=[] }:VltA),0))
set_option maxRecDepth 100000 in
theorem c_vault_New {b0_:Nat} {v0x4_:Value} {m0x5_:Nat} {m0x6_:Nat} {p0:DevA} {v1_:Value} {p1:List KeyA} {p2:UInt32} {p3:UInt32} {r:Option VltA×Int} (h:f_vault_New p0 p1 p2 p3=some r) (hs1_:SlOf K w0 encKey 2 v1_ p1):Con Tryz.prog K w0 42 [vP b0_ 0,v1_,vU32 p2,vU32 p3] [own b0_ (.cells #[vB p0.off,vB p0.isCut,vI p0.lasts,vI p0.counts,v0x4_,.map (some m0x5_),.map (some m0x6_),vU64 p0.rcnt,vS p0.rtag,vU32 p0.rboots] 130),rowT 9 1 v0x4_ eS p0.blocks,mapC m0x5_ vU32 vS p0.pend,mapC m0x6_ vU32 vB p0.bad] H (fun u M=>(r.1=none∧u=.tuple #[.pointer none,vI r.2]∧M=[own b0_ (.cells #[vB p0.off,vB p0.isCut,vI p0.lasts,vI p0.counts,v0x4_,.map (some m0x5_),.map (some m0x6_),vU64 p0.rcnt,vS p0.rtag,vU32 p0.rboots] 130),rowT 9 1 v0x4_ eS p0.blocks,mapC m0x5_ vU32 vS p0.pend,mapC m0x6_ vU32 vB p0.bad])∨(∃(d:VltA) (bn0:Nat) (vn0x1:Value) (mn0x5:Nat),r.1=some d∧u=.tuple #[vP bn0 0,vI r.2]∧M=[own bn0 (.cells #[vP b0_ 0,vn0x1,vU32 d.gen,vU32 d.boot,vU64 d.seals,.map (some mn0x5)] 96),rowT 138 2 vn0x1 encKey d.ring,mapC mn0x5 vU32 vB d.taken,own b0_ (.cells #[vB p0.off,vB p0.isCut,vI p0.lasts,vI p0.counts,v0x4_,.map (some m0x5_),.map (some m0x6_),vU64 p0.rcnt,vS p0.rtag,vU32 p0.rboots] 130),rowT 9 1 v0x4_ eS p0.blocks,mapC m0x5_ vU32 vS p0.pend,mapC m0x6_ vU32 vB p0.bad])):=by
 unfold f_vault_New at h
 refine Con.enter Tryz.func42 rfl rfl ?_
 refine SX.sr (SL.asg (.r rfl) rfl (SL.asg (.r rfl) rfl (SL.nx (SX.seq (SX.sr (SL.mv (.r rfl) rfl (SL.eqPN (.r rfl) ty25 rfl rfl (SL.nx (SX.condF rfl (SX.skip (SQ.thn (SX.seq (SX.sr ?_)))))))))))))
 obtain ⟨y1,hy1,h⟩:=bnd h
 refine SL.mv (.r rfl) rfl (SL.mv (.r rfl) rfl ?_)
 refine SL.call (vs:=[_,_]) (Hin:=[]) (Hr:=_::_::_::_::_) (.r rfl) rfl ⟨rfl,rfl,trivial⟩ cal72 rfl rfl (w_find hy1 hs1_) ?_
 rintro _ _ ⟨rfl,rfl⟩
 refine ⟨trivial,?_⟩
 refine SL.mv (.r rfl) rfl (SL.ext (.r rfl) rfl rfl (SL.ext (.r rfl) rfl rfl ?_))
 refine SL.alloc (.r rfl) ze138 (fun _=>trivial) fun b1=>?_
 refine SL.st 0 ⟨rfl,rfl,rfl⟩ rfl rfl rfl sz138 rfl rfl rfl trivial (SL.asg (.r rfl) rfl (SL.nx (SX.sr (SL.mv (.r rfl) rfl (SL.bin (.r rfl) rfl rfl Bin.neI (SL.nx ?_))))))
 refine SX.cond rfl (fun hc2=>?_) (fun hc2=>?_)
 replace h:=cT hc2 h
 refine SX.sr (SL.mv (.r rfl) rfl (SL.asg (.r rfl) rfl (SL.asg (.r rfl) rfl (SL.nx (SX.ret (SQ.thnR ?_))))))
 obtain rfl:=Option.some.inj h
 exact SQ.fret (res2 rfl rfl rfl) (ret_of (M:=[_,_,_,_]) (.inl ⟨rfl,rfl,rfl⟩) fun _ hw=>HpOk.pick (H:=[_,_,_,_,_]) hw [1,2,3,4] 5 rfl)
 replace h:=cF hc2 h
 refine SX.skip (SQ.thn (SX.sr ?_))
 obtain ⟨l1,hl1,h⟩:=bnd h
 refine SL.mv (.r rfl) rfl ?_
 refine SL.bsl0 (.r rfl) ty66 sz138 (fun _=>trivial) fun b2=>?_
 refine SL.ownT encKey 2 ([]:List KeyA) rfl (fun _=>rfl) rfl ?_
 refine SL.mv (.r rfl) rfl ?_
 refine SL.appV 0 hl1 hs1_ (sz:=2) (enc:=encKey) (fun _=>rfl) (.r rfl) ty66 sz138 by138 ze138 rfl (by decide) rfl rfl rfl (by simp [encKey,Value.oneCell']) (fun _=>trivial) fun v1=>?_
 refine SL.mv (.r rfl) rfl (SL.mv (.r rfl) rfl ?_)
 refine SL.mkM vU32 vB (.r rfl) (fun _=>trivial) fun b3=>?_
 refine SL.rowV 1 rfl fun hv1 ho1=>?_
 refine SL.bldC [vP b0_ 0,v1,vU32 p2,vU32 p3,.map (some b3)] [#[vP b0_ 0],#[v1],#[vU32 p2],#[vU32 p3],#[.map (some b3)]] (by simp only [List.map_cons,List.map_nil,hv1];rfl) (.r rfl) pl96 pk96 ze96 ⟨rfl,rfl,rfl,rfl,rfl,trivial⟩ rfl ?_
 refine SL.box (.r rfl) rfl (fun _=>trivial) fun b4=>?_
 refine SL.asg (.r rfl) rfl (SL.asg (.r rfl) rfl (SL.nx (SX.ret ?_)))
 obtain rfl:=Option.some.inj h
 exact SQ.fret (res2 rfl rfl rfl) (ret_of (M:=[_,_,_,_,_,_,_]) (.inr ⟨_,b4,v1,b3,rfl,rfl,rfl⟩) fun _ hw=>HpOk.pick (H:=[_,_,_,_,_,_,_,_]) hw [0,2,1,4,5,6,7] 8 rfl)

def f_law13_Ring_j1 (l1:List KeyA):Option (List KeyA):=
 some l1
def f_law13_Ring_j2 (a1:Int) (nx_f_law13_Ring_l1:List KeyA×Int→Option (List KeyA)) (l3:List KeyA):Option (List KeyA):=
 ret (wI (a1+1)) fun i_1=>
 nx_f_law13_Ring_l1 (l3,i_1)
def f_law13_Ring_j3 (l2:List KeyA) (a1:Int) (nx_f_law13_Ring_l1:List KeyA×Int→Option (List KeyA)) (l4:List UInt8):Option (List KeyA):=
 (appL 24 l2 [(⟨toU32 a1,l4⟩:KeyA)]).bind fun l7=>
 f_law13_Ring_j2 a1 nx_f_law13_Ring_l1 l7
def f_law13_Ring_l2_b (l2:List KeyA) (a1:Int) (nx_f_law13_Ring_l1:List KeyA×Int→Option (List KeyA)) (nx_f_law13_Ring_l2:List UInt8×Int→Option (List KeyA)) (l5:List UInt8) (a2:Int):Option (List KeyA):=
 cond (decide (a2<32))
 (
  (appL 1 l5 [toU8 (wI (64+a1))]).bind fun l6=>
  ret (wI (a2+1)) fun k_1=>
  nx_f_law13_Ring_l2 (l6,k_1))
 (
  f_law13_Ring_j3 l2 a1 nx_f_law13_Ring_l1 l5)
def f_law13_Ring_l2 (l2:List KeyA) (a1:Int) (nx_f_law13_Ring_l1:List KeyA×Int→Option (List KeyA)):Nat→(List UInt8×Int)→Option (List KeyA):=loopN fun nx x=>f_law13_Ring_l2_b l2 a1 nx_f_law13_Ring_l1 nx x.1 x.2
def f_law13_Ring_l1_b (n:Nat) (p0:Int) (nx_f_law13_Ring_l1:List KeyA×Int→Option (List KeyA)) (l2:List KeyA) (a1:Int):Option (List KeyA):=
 cond (decide (a1≤p0))
 (
  f_law13_Ring_l2 l2 a1 nx_f_law13_Ring_l1 n ([],0))
 (
  f_law13_Ring_j1 l2)
def f_law13_Ring_l1 (n:Nat) (p0:Int):Nat→(List KeyA×Int)→Option (List KeyA):=loopN fun nx x=>f_law13_Ring_l1_b n p0 nx x.1 x.2
def f_law13_Ring (n:Nat) (p0:Int):Option (List KeyA):=
 f_law13_Ring_l1 n p0 n ([],1)
set_option maxRecDepth 100000 in
theorem c_law13_Ring {n:Nat} {p0:Int} {r:List KeyA} (h:f_law13_Ring n p0=some r)  : Con Tryz.prog K w0 43 [vI p0] [] H (fun u M=>∃v0:Value,u=v0∧M=[rowT 138 2 v0 encKey r]):=by
 unfold f_law13_Ring at h
 refine Con.enter Tryz.func43 rfl rfl ?_
 refine SX.sr (SL.nilT 138 2 encKey (SL.asg (.r rfl) rfl (SL.nx (SX.sr (SL.nilT 138 2 encKey (SL.asg (.r rfl) rfl (SL.nx ?_)))))))
 refine SX.meetD (α:=List KeyA×Value) (fun x=>f_law13_Ring_j1 x.1=some r) (fun x=>[(3,x.2)]) (fun x=>rowT 138 2 x.2 encKey x.1::H) ?_ (fun x D h=>?_)
 refine SX.sr (SL.asg (.r rfl) rfl (SL.nx (SX.block ?_)))
 refine SX.heap (SX.mono (SX.loop (α:=Nat×List KeyA×Value×Int) (fun x=>f_law13_Ring_l1 n p0 x.1 (x.2.1,x.2.2.2)=some r) (fun x=>[(0,vI p0),(3,x.2.2.1),(4,vI x.2.2.2)]) (fun x=>rowT 138 2 x.2.2.1 encKey x.2.1::H) (fun x=>x.1) (fun x D h=>?_) (n,[],.slice none 0 0,1) h) (by repeat' (first | exact trivial | refine And.intro rfl ?_))) (fun _ hw=>HpOk.pick (H:=[_,_]) hw [0] 2 rfl)
 obtain ⟨m1,l2,v2,a1⟩:=x
 dsimp only at h
 rcases m1 with _ | m1
 cases (show (none:Option _)=some r from h)
 replace h:f_law13_Ring_l1_b n p0 (f_law13_Ring_l1 n p0 m1) l2 a1=some r:=h
 unfold f_law13_Ring_l1_b at h
 refine SX.re [(0,vI p0),(3,v2),(4,vI a1)] (rowT 138 2 v2 encKey l2::H) ?_ (by repeat' (first | exact trivial | refine And.intro rfl ?_))
 refine SX.seq (SX.sr (SL.mv (.r rfl) rfl (SL.mv (.r rfl) rfl (SL.bin (.r rfl) rfl rfl Bin.leI (SL.nx ?_)))))
 refine SX.cond rfl (fun hc1=>?_) (fun hc1=>?_)
 replace h:=cT hc1 h
 refine SX.skip (SQ.thn ?_)
 refine SX.meetD (α:=List KeyA×Value) (fun x=>f_law13_Ring_j2 a1 (f_law13_Ring_l1 n p0 m1) x.1=some r) (fun x=>[(0,vI p0),(3,x.2),(4,vI a1)]) (fun x=>rowT 138 2 x.2 encKey x.1::H) ?_ (fun x D h=>?_)
 refine SX.block (SX.sr (SL.nilT 5 1 eU8 (SL.asg (.r rfl) rfl (SL.nx ?_))))
 refine SX.meetD (α:=List UInt8×Value) (fun x=>f_law13_Ring_j3 l2 a1 (f_law13_Ring_l1 n p0 m1) x.1=some r) (fun x=>[(0,vI p0),(3,v2),(4,vI a1),(5,x.2)]) (fun x=>rowT 138 2 v2 encKey l2::rowT 5 1 x.2 eU8 x.1::H) ?_ (fun x D h=>?_)
 refine SX.sr (SL.asg (.r rfl) rfl (SL.nx (SX.block ?_)))
 refine SX.heap (SX.mono (SX.loop (α:=Nat×List UInt8×Value×Int) (fun x=>f_law13_Ring_l2 l2 a1 (f_law13_Ring_l1 n p0 m1) x.1 (x.2.1,x.2.2.2)=some r) (fun x=>[(0,vI p0),(3,v2),(4,vI a1),(5,x.2.2.1),(6,vI x.2.2.2)]) (fun x=>rowT 138 2 v2 encKey l2::rowT 5 1 x.2.2.1 eU8 x.2.1::H) (fun x=>x.1) (fun x D h=>?_) (n,[],.slice none 0 0,0) h) (by repeat' (first | exact trivial | refine And.intro rfl ?_))) (fun _ hw=>HpOk.pick (H:=[_,_]) hw [1,0] 2 rfl)
 obtain ⟨m2,l5,v5,a2⟩:=x
 dsimp only at h
 rcases m2 with _ | m2
 cases (show (none:Option _)=some r from h)
 replace h:f_law13_Ring_l2_b l2 a1 (f_law13_Ring_l1 n p0 m1) (f_law13_Ring_l2 l2 a1 (f_law13_Ring_l1 n p0 m1) m2) l5 a2=some r:=h
 unfold f_law13_Ring_l2_b at h
 refine SX.re [(0,vI p0),(3,v2),(4,vI a1),(5,v5),(6,vI a2)] (rowT 138 2 v2 encKey l2::rowT 5 1 v5 eU8 l5::H) ?_ (by repeat' (first | exact trivial | refine And.intro rfl ?_))
 refine SX.seq (SX.sr (SL.mv (.r rfl) rfl (SL.bin (.r rfl) rfl rfl Bin.ltI (SL.nx ?_))))
 refine SX.cond rfl (fun hc2=>?_) (fun hc2=>?_)
 replace h:=cT hc2 h
 refine SX.skip (SQ.thn (SX.seq (SX.block (SX.region ?_))))
 obtain ⟨l6,hl6,h⟩:=bnd h
 refine SL.mv (.r rfl) rfl (SL.mv (.r rfl) rfl (SL.bin (.r rfl) rfl rfl Bin.addW (SL.cv (.r rfl) rfl (Cv.i_8 ty3 ty5) ?_)))
 refine SL.bsl [_] (.r rfl) ty141 sz5 ze5 ⟨rfl,trivial⟩ rfl rfl rfl (by first | (simp [Value.cells];done) | (intro v hv;simp only [List.mem_cons,List.not_mem_nil,or_false] at hv;rcases hv with rfl<;>rfl)) rfl rfl (fun _=>trivial) fun b1=>?_
 refine SL.ownT eU8 1 ([toU8 (wI (64+a1))]:List UInt8) rfl (fun _=>rfl) rfl ?_
 refine SL.appT 2 hl6 (sz:=1) (enc:=eU8) (fun _=>rfl) (.r rfl) ty141 sz5 by5 ze5 rfl (by decide) rfl rfl rfl rfl (cells_rowA (sz:=1) (enc:=eU8) 0 (fun _=>rfl) rfl) (by simp [eU8,Value.oneCell']) (fun _=>trivial) fun v6=>?_
 refine SL.asg (.r rfl) rfl (SL.nil (SQ.blk (SQ.thn (SX.region ?_))))
 obtain ⟨k_1,ek_1,h⟩:=retE h
 refine SL.mv (.r rfl) rfl (SL.bin (.r rfl) rfl rfl Bin.addW ?_)
 refine SL.asgX (u:=vI k_1) (.r rfl) rfl (congrArg vI ek_1) ?_
 refine SL.nil ?_
 exact SQ.again (m2,l6,v6,k_1) h (Nat.lt_succ_self _) (by repeat' (first | exact trivial | refine And.intro rfl ?_)) (fun _ hw=>HpOk.pick (H:=[_,_,_]) hw [1,2] 3 rfl)
 replace h:=cF hc2 h
 refine SX.exit (SQ.thnE (SQ.lpE (SQ.blkE ?_)))
 exact SQ.midD (l5,v5) h (by repeat' (first | exact trivial | refine And.intro rfl ?_)) (fun _ hw=>HpOk.pick (H:=[_,_]) hw [0,1] 2 rfl)
 obtain ⟨l4,v4⟩:=x
 dsimp only at h
 unfold f_law13_Ring_j3 at h
 refine SX.re [(0,vI p0),(3,v2),(4,vI a1),(5,v4)] (rowT 138 2 v2 encKey l2::rowT 5 1 v4 eU8 l4::H) ?_ (by repeat' (first | exact trivial | refine And.intro rfl ?_))
 refine SX.region ?_
 obtain ⟨l7,hl7,h⟩:=bnd h
 refine SL.mv (.r rfl) rfl (SL.mv (.r rfl) rfl (SL.cv (.r rfl) rfl (Cv.i_32 ty3 ty29) (SL.mv (.r rfl) rfl (SL.btsT 1 (.r rfl) ty141 ty5 ty9 rfl rfl (SL.bld [_,_] (.r rfl) pl138 pk138 ze138 ⟨rfl,rfl,trivial⟩ rfl ?_)))))
 refine SL.bsl [_] (.r rfl) ty66 sz138 ze138 ⟨rfl,trivial⟩ rfl rfl rfl (by first | (simp [Value.cells];done) | (intro v hv;simp only [List.mem_cons,List.not_mem_nil,or_false] at hv;rcases hv with rfl<;>rfl)) rfl rfl (fun _=>trivial) fun b2=>?_
 refine SL.ownT encKey 2 ([(⟨toU32 a1,l4⟩:KeyA)]:List KeyA) rfl (fun _=>rfl) rfl ?_
 refine SL.appT 1 hl7 (sz:=2) (enc:=encKey) (fun _=>rfl) (.r rfl) ty66 sz138 by138 ze138 rfl (by decide) rfl rfl rfl rfl (cells_rowA (sz:=2) (enc:=encKey) 0 (fun _=>rfl) rfl) (by simp [encKey,Value.oneCell']) (fun _=>trivial) fun v7=>?_
 refine SL.asg (.r rfl) rfl (SL.nil (SQ.blk ?_))
 exact SQ.midD (l7,v7) h (by repeat' (first | exact trivial | refine And.intro rfl ?_)) (fun _ hw=>HpOk.pick (H:=[_,_,_]) hw [1] 3 rfl)
 obtain ⟨l3,v3⟩:=x
 dsimp only at h
 unfold f_law13_Ring_j2 at h
 refine SX.re [(0,vI p0),(3,v3),(4,vI a1)] (rowT 138 2 v3 encKey l3::H) ?_ (by repeat' (first | exact trivial | refine And.intro rfl ?_))
 refine SX.region ?_
 obtain ⟨i_1,ei_1,h⟩:=retE h
 refine SL.mv (.r rfl) rfl (SL.bin (.r rfl) rfl rfl Bin.addW ?_)
 refine SL.asgX (u:=vI i_1) (.r rfl) rfl (congrArg vI ei_1) ?_
 refine SL.nil ?_
 exact SQ.again (m1,l3,v3,i_1) h (Nat.lt_succ_self _) (by repeat' (first | exact trivial | refine And.intro rfl ?_)) (fun _ hw=>HpOk.pick (H:=[_]) hw [0] 1 rfl)
 replace h:=cF hc1 h
 refine SX.exit (SQ.thnE (SQ.lpE (SQ.blkE ?_)))
 exact SQ.midD (l2,v2) h (by repeat' (first | exact trivial | refine And.intro rfl ?_)) (fun _ hw=>HpOk.pick (H:=[_]) hw [0] 1 rfl)
 obtain ⟨l1,v1⟩:=x
 dsimp only at h
 unfold f_law13_Ring_j1 at h
 refine SX.re [(3,v1)] (rowT 138 2 v1 encKey l1::H) ?_ (by repeat' (first | exact trivial | refine And.intro rfl ?_))
 refine SX.sr (SL.mv (.r rfl) rfl (SL.asg (.r rfl) rfl (SL.nx (SX.ret ?_))))
 obtain rfl:=Option.some.inj h
 exact SQ.fret (res1 rfl rfl) (ret_of (M:=[_]) ⟨v1,rfl,rfl⟩ fun _ hw=>HpOk.pick (H:=[_]) hw [0] 1 rfl)

def f_vv_Free (p0:VltA) (p0_1:DevA):Option Int:=
 (f_dd_Blocks p0_1).bind fun y1=>
 ret (wI ((wI (y1-2))-(p0.taken.length:Int))) fun x1=>
 some x1
set_option maxRecDepth 100000 in
theorem c_vv_Free {b0_:Nat} {v0x1_:Value} {m0x5_:Nat} {b0x0_:Nat} {v0x0x4_:Value} {m0x0x5_:Nat} {m0x0x6_:Nat} {p0:VltA} {p0_1:DevA} {r:Int} (h:f_vv_Free p0 p0_1=some r)  : Con Tryz.prog K w0 24 [vP b0_ 0] [own b0_ (.cells #[vP b0x0_ 0,v0x1_,vU32 p0.gen,vU32 p0.boot,vU64 p0.seals,.map (some m0x5_)] 96),rowT 138 2 v0x1_ encKey p0.ring,mapC m0x5_ vU32 vB p0.taken,own b0x0_ (.cells #[vB p0_1.off,vB p0_1.isCut,vI p0_1.lasts,vI p0_1.counts,v0x0x4_,.map (some m0x0x5_),.map (some m0x0x6_),vU64 p0_1.rcnt,vS p0_1.rtag,vU32 p0_1.rboots] 130),rowT 9 1 v0x0x4_ eS p0_1.blocks,mapC m0x0x5_ vU32 vS p0_1.pend,mapC m0x0x6_ vU32 vB p0_1.bad] H (fun u M=>u=vI r∧M=[own b0_ (.cells #[vP b0x0_ 0,v0x1_,vU32 p0.gen,vU32 p0.boot,vU64 p0.seals,.map (some m0x5_)] 96),rowT 138 2 v0x1_ encKey p0.ring,mapC m0x5_ vU32 vB p0.taken,own b0x0_ (.cells #[vB p0_1.off,vB p0_1.isCut,vI p0_1.lasts,vI p0_1.counts,v0x0x4_,.map (some m0x0x5_),.map (some m0x0x6_),vU64 p0_1.rcnt,vS p0_1.rtag,vU32 p0_1.rboots] 130),rowT 9 1 v0x0x4_ eS p0_1.blocks,mapC m0x0x5_ vU32 vS p0_1.pend,mapC m0x0x6_ vU32 vB p0_1.bad]):=by
 unfold f_vv_Free at h
 refine Con.enter Tryz.func24 rfl rfl ?_
 refine SX.sr (SL.asg (.r rfl) rfl (SL.nx (SX.seq (SX.sr (SL.mv (.r rfl) rfl (SL.eqPN (.r rfl) ty24 rfl rfl (SL.nx (SX.condF rfl (SX.skip (SQ.thn (SX.seq ?_)))))))))))
 obtain ⟨y1,hy1,h⟩:=bnd h
 obtain ⟨x1,ex1,h⟩:=retE h
 refine SX.drawI mix [0,2] (Pl.ap [(true,0),(true,1),(true,2),(true,3),(true,6),(true,7),(true,8),(true,9),(false,4),(true,5),(false,10)] (.last 11 (Pl.of [(false,12)]))) (by kernel_rfl) (SL.mv (.r rfl) rfl (SL.nchk (.r rfl) rfl (SL.fa (.r rfl) rfl fo96_0 (SL.ld (.r rfl) sc25 rfl (cell_own 0 rfl rfl) (SL.mv (.r rfl) rfl (SL.nchk (.r rfl) rfl (SL.fa (.r rfl) rfl fo96_5 ?_)))))))
 refine SL.ld (.r rfl) sc94 rfl (cell_own 0 rfl rfl) (SL.pick [3,4,5,6,0,1,2] 7 ?_)
 refine SL.call (vs:=[_]) (Hin:=[_,_,_,_]) (Hr:=_::_::_::_) (.r rfl) rfl ⟨rfl,trivial⟩ cal61 rfl rfl (c_dd_Blocks hy1) ?_
 rintro _ _ ⟨rfl,rfl⟩
 refine ⟨⟨⟨4,rfl⟩,⟨6,rfl⟩,trivial⟩,?_⟩
 refine SL.bin (.r rfl) rfl rfl Bin.subW (SL.lenM 6 (.r rfl) ty94 rfl rfl (SL.last (SL.bin (.r rfl) rfl rfl Bin.subW ?_)))
 refine SL.asgX (u:=vI x1) (.r rfl) rfl (congrArg vI ex1) ?_
 refine SL.nx (SX.ret ?_)
 obtain rfl:=Option.some.inj h
 exact SQ.fret (res1 rfl rfl) (ret_of (M:=[_,_,_,_,_,_,_]) ⟨rfl,rfl⟩ fun _ hw=>HpOk.pick (H:=[_,_,_,_,_,_,_]) hw [4,5,6,0,1,2,3] 7 rfl)

def f_vv_Seals (p0:VltA) (p0_1:DevA):Option UInt64:=
 some p0.seals
set_option maxRecDepth 100000 in
theorem c_vv_Seals {b0_:Nat} {v0x1_:Value} {m0x5_:Nat} {b0x0_:Nat} {v0x0x4_:Value} {m0x0x5_:Nat} {m0x0x6_:Nat} {p0:VltA} {p0_1:DevA} {r:UInt64} (h:f_vv_Seals p0 p0_1=some r)  : Con Tryz.prog K w0 23 [vP b0_ 0] [own b0_ (.cells #[vP b0x0_ 0,v0x1_,vU32 p0.gen,vU32 p0.boot,vU64 p0.seals,.map (some m0x5_)] 96),rowT 138 2 v0x1_ encKey p0.ring,mapC m0x5_ vU32 vB p0.taken,own b0x0_ (.cells #[vB p0_1.off,vB p0_1.isCut,vI p0_1.lasts,vI p0_1.counts,v0x0x4_,.map (some m0x0x5_),.map (some m0x0x6_),vU64 p0_1.rcnt,vS p0_1.rtag,vU32 p0_1.rboots] 130),rowT 9 1 v0x0x4_ eS p0_1.blocks,mapC m0x0x5_ vU32 vS p0_1.pend,mapC m0x0x6_ vU32 vB p0_1.bad] H (fun u M=>u=vU64 r∧M=[own b0_ (.cells #[vP b0x0_ 0,v0x1_,vU32 p0.gen,vU32 p0.boot,vU64 p0.seals,.map (some m0x5_)] 96),rowT 138 2 v0x1_ encKey p0.ring,mapC m0x5_ vU32 vB p0.taken,own b0x0_ (.cells #[vB p0_1.off,vB p0_1.isCut,vI p0_1.lasts,vI p0_1.counts,v0x0x4_,.map (some m0x0x5_),.map (some m0x0x6_),vU64 p0_1.rcnt,vS p0_1.rtag,vU32 p0_1.rboots] 130),rowT 9 1 v0x0x4_ eS p0_1.blocks,mapC m0x0x5_ vU32 vS p0_1.pend,mapC m0x0x6_ vU32 vB p0_1.bad]):=by
 unfold f_vv_Seals at h
 refine Con.enter Tryz.func23 rfl rfl ?_
 refine SX.sr (SL.asg (.r rfl) rfl (SL.nx (SX.seq (SX.sr (SL.mv (.r rfl) rfl (SL.eqPN (.r rfl) ty24 rfl rfl (SL.nx (SX.condF rfl (SX.skip (SQ.thn (SX.sr (SL.mv (.r rfl) rfl (SL.nchk (.r rfl) rfl (SL.fa (.r rfl) rfl fo96_4 (SL.ld (.r rfl) sc48 rfl (cell_own 0 rfl rfl) ?_)))))))))))))))
 refine SL.asg (.r rfl) rfl (SL.nx (SX.ret ?_))
 obtain rfl:=Option.some.inj h
 exact SQ.fret (res1 rfl rfl) (ret_of (M:=[_,_,_,_,_,_,_]) ⟨rfl,rfl⟩ fun _ hw=>HpOk.pick (H:=[_,_,_,_,_,_,_]) hw [0,1,2,3,4,5,6] 7 rfl)

def f_vv_isPage (p0:VltA) (p0_1:DevA) (p1:UInt32):Option Bool:=
 (andO (decide (2≤p1)) ((f_dd_Blocks p0_1).bind fun y1=>some (decide ((p1.toNat:Int)<y1)))).bind fun y2=>
 some y2
set_option maxRecDepth 100000 in
theorem c_vv_isPage {b0_:Nat} {v0x1_:Value} {m0x5_:Nat} {b0x0_:Nat} {v0x0x4_:Value} {m0x0x5_:Nat} {m0x0x6_:Nat} {p0:VltA} {p0_1:DevA} {p1:UInt32} {r:Bool} (h:f_vv_isPage p0 p0_1 p1=some r)  : Con Tryz.prog K w0 75 [vP b0_ 0,vU32 p1] [own b0_ (.cells #[vP b0x0_ 0,v0x1_,vU32 p0.gen,vU32 p0.boot,vU64 p0.seals,.map (some m0x5_)] 96),rowT 138 2 v0x1_ encKey p0.ring,mapC m0x5_ vU32 vB p0.taken,own b0x0_ (.cells #[vB p0_1.off,vB p0_1.isCut,vI p0_1.lasts,vI p0_1.counts,v0x0x4_,.map (some m0x0x5_),.map (some m0x0x6_),vU64 p0_1.rcnt,vS p0_1.rtag,vU32 p0_1.rboots] 130),rowT 9 1 v0x0x4_ eS p0_1.blocks,mapC m0x0x5_ vU32 vS p0_1.pend,mapC m0x0x6_ vU32 vB p0_1.bad] H (fun u M=>u=vB r∧M=[own b0_ (.cells #[vP b0x0_ 0,v0x1_,vU32 p0.gen,vU32 p0.boot,vU64 p0.seals,.map (some m0x5_)] 96),rowT 138 2 v0x1_ encKey p0.ring,mapC m0x5_ vU32 vB p0.taken,own b0x0_ (.cells #[vB p0_1.off,vB p0_1.isCut,vI p0_1.lasts,vI p0_1.counts,v0x0x4_,.map (some m0x0x5_),.map (some m0x0x6_),vU64 p0_1.rcnt,vS p0_1.rtag,vU32 p0_1.rboots] 130),rowT 9 1 v0x0x4_ eS p0_1.blocks,mapC m0x0x5_ vU32 vS p0_1.pend,mapC m0x0x6_ vU32 vB p0_1.bad]):=by
 unfold f_vv_isPage at h
 refine Con.enter Tryz.func75 rfl rfl ?_
 refine SX.sr (SL.asg (.r rfl) rfl (SL.nx (SX.sr ?_)))
 obtain ⟨y2,hy2,h⟩:=bnd h
 refine SL.mv (.r rfl) rfl ?_
 refine SL.bin (.r rfl) rfl rfl (Bin.ge32 (b:=2)) ?_
 refine SL.mv (.r rfl) rfl ?_
 refine SL.andN 7 9 16 hy2 rfl (fun hb hg1 k=>?_) (fun hb k=>?_) ?_
 obtain ⟨y1,hy1,hg1⟩:=bnd hg1
 obtain rfl:=Option.some.inj hg1
 refine SL.mv (.r rfl) rfl (SL.cv (.r rfl) rfl (Cv.u32_I ty29 ty2) (SL.mv (.r rfl) rfl (SL.nchk (.r rfl) rfl (SL.fa (.r rfl) rfl fo96_0 (SL.ld (.r rfl) sc25 rfl (cell_own 0 rfl rfl) (SL.pick [3,4,5,6,0,1,2] 7 ?_))))))
 refine SL.call (vs:=[_]) (Hin:=[_,_,_,_]) (Hr:=_::_::_::_) (.r rfl) rfl ⟨rfl,trivial⟩ cal61 rfl rfl (c_dd_Blocks hy1) ?_
 rintro _ _ ⟨rfl,rfl⟩
 refine ⟨trivial,?_⟩
 refine SL.bin (.r rfl) rfl rfl Bin.ltI (SL.pk (.r rfl) rfl rfl ?_)
 exact SL.mono (SL.heap k fun _ hw=>HpOk.pick (H:=[_,_,_,_,_,_,_]) hw [4,5,6,0,1,2,3] 7 rfl) (by repeat' (first | exact trivial | refine And.intro rfl ?_))
 refine SL.pass rfl rfl rfl (SL.pass rfl rfl rfl (SL.pass rfl rfl rfl (SL.pass rfl rfl rfl (SL.pass rfl rfl rfl (SL.pass rfl rfl rfl (SL.pass rfl rfl rfl (SL.pass rfl rfl rfl ?_)))))))
 refine SL.pk (.r rfl) rfl rfl ?_
 exact k.mono (by repeat' (first | exact trivial | refine And.intro rfl ?_))
 refine SL.asg (.r rfl) rfl (SL.nx (SX.ret ?_))
 obtain rfl:=Option.some.inj h
 exact SQ.fret (res1 rfl rfl) (ret_of (M:=[_,_,_,_,_,_,_]) ⟨rfl,rfl⟩ fun _ hw=>HpOk.pick (H:=[_,_,_,_,_,_,_]) hw [0,1,2,3,4,5,6] 7 rfl)

def f_vv_Give (p0:VltA) (p0_1:DevA) (p1:UInt32):Option (Int×VltA):=
 (f_vv_isPage p0 p0_1 p1).bind fun y1=>
 ret ((!y1)||(!((mget p0.taken p1).getD false))) fun x1=>
 cond x1
 (
  some (2,p0))
 (
  some (0,{ p0 with taken:=mdel p0.taken p1 }))
set_option maxRecDepth 100000 in
theorem c_vv_Give {b0_:Nat} {v0x1_:Value} {m0x5_:Nat} {b0x0_:Nat} {v0x0x4_:Value} {m0x0x5_:Nat} {m0x0x6_:Nat} {p0:VltA} {p0_1:DevA} {p1:UInt32} {r:Int×VltA} (h:f_vv_Give p0 p0_1 p1=some r)  : Con Tryz.prog K w0 59 [vP b0_ 0,vU32 p1] [own b0_ (.cells #[vP b0x0_ 0,v0x1_,vU32 p0.gen,vU32 p0.boot,vU64 p0.seals,.map (some m0x5_)] 96),rowT 138 2 v0x1_ encKey p0.ring,mapC m0x5_ vU32 vB p0.taken,own b0x0_ (.cells #[vB p0_1.off,vB p0_1.isCut,vI p0_1.lasts,vI p0_1.counts,v0x0x4_,.map (some m0x0x5_),.map (some m0x0x6_),vU64 p0_1.rcnt,vS p0_1.rtag,vU32 p0_1.rboots] 130),rowT 9 1 v0x0x4_ eS p0_1.blocks,mapC m0x0x5_ vU32 vS p0_1.pend,mapC m0x0x6_ vU32 vB p0_1.bad] H (fun u M=>u=vI r.1∧M=[own b0_ (.cells #[vP b0x0_ 0,v0x1_,vU32 r.2.gen,vU32 r.2.boot,vU64 r.2.seals,.map (some m0x5_)] 96),rowT 138 2 v0x1_ encKey r.2.ring,mapC m0x5_ vU32 vB r.2.taken,own b0x0_ (.cells #[vB p0_1.off,vB p0_1.isCut,vI p0_1.lasts,vI p0_1.counts,v0x0x4_,.map (some m0x0x5_),.map (some m0x0x6_),vU64 p0_1.rcnt,vS p0_1.rtag,vU32 p0_1.rboots] 130),rowT 9 1 v0x0x4_ eS p0_1.blocks,mapC m0x0x5_ vU32 vS p0_1.pend,mapC m0x0x6_ vU32 vB p0_1.bad]):=by
 unfold f_vv_Give at h
 refine Con.enter Tryz.func59 rfl rfl ?_
 refine SX.sr (SL.asg (.r rfl) rfl (SL.nx (SX.seq (SX.block (SX.sr (SL.mv (.r rfl) rfl (SL.eqPN (.r rfl) ty24 rfl rfl (SL.asg (.r rfl) rfl (SL.nx (SX.condF rfl (SX.sr ?_)))))))))))
 obtain ⟨y1,hy1,h⟩:=bnd h
 obtain ⟨x1,ex1,h⟩:=retE h
 refine SL.mv (.r rfl) rfl (SL.mv (.r rfl) rfl ?_)
 refine SL.call (vs:=[_,_]) (Hin:=[_,_,_,_,_,_,_]) (Hr:=_) (.r rfl) rfl ⟨rfl,rfl,trivial⟩ cal75 rfl rfl (c_vv_isPage hy1) ?_
 rintro _ _ ⟨rfl,rfl⟩
 refine ⟨trivial,?_⟩
 refine SL.not (.r rfl) rfl (SL.mv (.r rfl) rfl ?_)
 refine SL.or (c := !((mget p0.taken p1).getD false)) 13 8 21 rfl (fun hb k=>?_) (fun hb k=>?_) ?_
 refine SL.pass rfl rfl rfl (SL.pass rfl rfl rfl (SL.pass rfl rfl rfl (SL.pass rfl rfl rfl (SL.pass rfl rfl rfl (SL.pass rfl rfl rfl (SL.pass rfl rfl rfl (SL.pk (.r rfl) rfl rfl ?_)))))))
 exact k.mono (by repeat' (first | exact trivial | refine And.intro rfl ?_))
 refine SL.mv (.r rfl) rfl (SL.nchk (.r rfl) rfl (SL.fa (.r rfl) rfl fo96_5 (SL.ld (.r rfl) sc94 rfl (cell_own 0 rfl rfl) (SL.mv (.r rfl) rfl ?_))))
 refine SL.lkp (zv:=false) 2 (MapE.u32B ty29) (.r rfl) ty94 ze4 rfl rfl rfl ?_
 refine SL.not (.r rfl) rfl (SL.pk (.r rfl) rfl rfl ?_)
 exact k.mono (by repeat' (first | exact trivial | refine And.intro rfl ?_))
 refine SL.asgX (u:=vB x1) (.r rfl) rfl (congrArg vB ex1) ?_
 refine SL.nx ?_
 refine SX.cond rfl (fun hc2=>?_) (fun hc2=>?_)
 replace h:=cT hc2 h
 refine SX.sr (SL.asg (.r rfl) rfl (SL.nx (SX.ret (SQ.blkR (SQ.thnR ?_)))))
 obtain rfl:=Option.some.inj h
 exact SQ.fret (res1 rfl rfl) (ret_of (M:=[_,_,_,_,_,_,_]) ⟨rfl,rfl⟩ fun _ hw=>HpOk.pick (H:=[_,_,_,_,_,_,_]) hw [0,1,2,3,4,5,6] 7 rfl)
 replace h:=cF hc2 h
 refine SX.skip (SQ.blk (SQ.thn (SX.sr (SL.mv (.r rfl) rfl (SL.nchk (.r rfl) rfl (SL.fa (.r rfl) rfl fo96_5 (SL.ld (.r rfl) sc94 rfl (cell_own 0 rfl rfl) (SL.mv (.r rfl) rfl (SL.mdl 2 (MapE.u32B ty29) rfl rfl rfl rfl ty94 rfl rfl rfl trivial (SL.nx (SX.sr (SL.asg (.r rfl) rfl (SL.nx (SX.ret ?_))))))))))))))
 obtain rfl:=Option.some.inj h
 exact SQ.fret (res1 rfl rfl) (ret_of (M:=[_,_,_,_,_,_,_]) ⟨rfl,rfl⟩ fun _ hw=>HpOk.pick (H:=[_,_,_,_,_,_,_]) hw [0,1,2,3,4,5,6] 7 rfl)

def f_vv_seal (T:List UInt32) (p0:VltA) (p0_1:DevA) (p1:UInt32) (p2:List UInt8):Option (List UInt8×Int×VltA×DevA):=
 (sealO T p0.ring (⟨p1,p0.gen,p0.boot,p0.seals⟩:HeadA) p2).bind fun y1=>
 cond (!decide (y1.2=0))
 (
  some ([],y1.2,p0,p0_1))
 (
  (f_dd_Write p0_1 p1 y1.1).bind fun y2=>
  cond (!decide (y2.1=0))
  (
   some ([],y2.1,{ p0 with seals:=p0.seals+1 },y2.2))
  (
   (tagO y1.1).bind fun y3=>
   some (y3,0,{ p0 with seals:=p0.seals+1 },y2.2)))
set_option maxRecDepth 100000 in
theorem c_vv_seal {T:List UInt32} {b0_:Nat} {v0x1_:Value} {m0x5_:Nat} {b0x0_:Nat} {v0x0x4_:Value} {m0x0x5_:Nat} {m0x0x6_:Nat} {p0:VltA} {p0_1:DevA} {p1:UInt32} {p2:List UInt8} {r:List UInt8×Int×VltA×DevA} (h:f_vv_seal T p0 p0_1 p1 p2=some r) (hS:ShaT K w0 T):Con Tryz.prog K w0 46 [vP b0_ 0,vU32 p1,vS p2] [own b0_ (.cells #[vP b0x0_ 0,v0x1_,vU32 p0.gen,vU32 p0.boot,vU64 p0.seals,.map (some m0x5_)] 96),rowT 138 2 v0x1_ encKey p0.ring,mapC m0x5_ vU32 vB p0.taken,own b0x0_ (.cells #[vB p0_1.off,vB p0_1.isCut,vI p0_1.lasts,vI p0_1.counts,v0x0x4_,.map (some m0x0x5_),.map (some m0x0x6_),vU64 p0_1.rcnt,vS p0_1.rtag,vU32 p0_1.rboots] 130),rowT 9 1 v0x0x4_ eS p0_1.blocks,mapC m0x0x5_ vU32 vS p0_1.pend,mapC m0x0x6_ vU32 vB p0_1.bad] H (fun u M=>u=.tuple #[vS r.1,vI r.2.1]∧M=[own b0_ (.cells #[vP b0x0_ 0,v0x1_,vU32 r.2.2.1.gen,vU32 r.2.2.1.boot,vU64 r.2.2.1.seals,.map (some m0x5_)] 96),rowT 138 2 v0x1_ encKey r.2.2.1.ring,mapC m0x5_ vU32 vB r.2.2.1.taken,own b0x0_ (.cells #[vB r.2.2.2.off,vB r.2.2.2.isCut,vI r.2.2.2.lasts,vI r.2.2.2.counts,v0x0x4_,.map (some m0x0x5_),.map (some m0x0x6_),vU64 r.2.2.2.rcnt,vS r.2.2.2.rtag,vU32 r.2.2.2.rboots] 130),rowT 9 1 v0x0x4_ eS r.2.2.2.blocks,mapC m0x0x5_ vU32 vS r.2.2.2.pend,mapC m0x0x6_ vU32 vB r.2.2.2.bad]):=by
 unfold f_vv_seal at h
 refine Con.enter Tryz.func46 rfl rfl ?_
 refine SX.sr (SL.asg (.r rfl) rfl (SL.asg (.r rfl) rfl (SL.nx (SX.seq (SX.drawI mix [0] (Pl.ap [(true,0),(true,1),(true,2),(true,3),(true,4),(true,5),(true,6),(true,7),(true,8),(true,9),(true,10),(true,11),(true,12),(true,13),(false,14)] (.last 15 .nil)) (by kernel_rfl) (SL.mv (.r rfl) rfl (SL.mv (.r rfl) rfl (SL.nchk (.r rfl) rfl (SL.fa (.r rfl) rfl fo96_2 (SL.ld (.r rfl) sc29 rfl (cell_own 0 rfl rfl) ?_))))))))))
 refine SL.mv (.r rfl) rfl (SL.nchk (.r rfl) rfl (SL.fa (.r rfl) rfl fo96_3 (SL.ld (.r rfl) sc29 rfl (cell_own 0 rfl rfl) (SL.mv (.r rfl) rfl (SL.nchk (.r rfl) rfl (SL.fa (.r rfl) rfl fo96_4 (SL.ld (.r rfl) sc48 rfl (cell_own 0 rfl rfl) ?_)))))))
 refine SL.bld [_,_,_,_] (.r rfl) pl143 pk143 ze143 ⟨rfl,rfl,rfl,rfl,trivial⟩ rfl ?_
 refine SL.alloc (.r rfl) ze143 (fun _=>⟨⟨1,rfl⟩,trivial⟩) fun b1=>?_
 refine SL.last (SL.st 0 ⟨rfl,rfl,rfl⟩ rfl rfl rfl sz143 rfl rfl rfl trivial (SL.nx (SX.seq ?_)))
 obtain ⟨y1,hy1,h⟩:=bnd h
 refine SX.drawI mix [0,1] (Pl.ap [(true,0),(true,1),(true,2),(true,3),(true,4),(true,5),(false,6),(false,7),(true,8),(true,9),(false,10)] (.last 11 .nil)) (by kernel_rfl) (SL.mv (.r rfl) rfl (SL.nchk (.r rfl) rfl (SL.fa (.r rfl) rfl fo96_1 (SL.ld (.r rfl) sc66 rfl (cell_own 1 rfl rfl) (SL.ldA [vU32 p1,vU32 p0.gen,vU32 p0.boot,vU64 p0.seals] (.r rfl) ag143 rfl rfl (cells_all 0 rfl) (SL.mv (.r rfl) rfl (SL.pick [2,0,1] 3 ?_)))))))
 refine SL.call (vs:=[_,_,_]) (Hin:=[_]) (Hr:=_::_::_::_::_::_::_::_) (.r rfl) rfl ⟨rfl,rfl,rfl,trivial⟩ cal76 rfl rfl (Con.lend (B:=[_]) (Hin:=[]) fun K' w1 hk hB=>(w_seal hy1 (hS.keeps hk) (SlOf.lentT (e:=138) (v:=v0x1_) (fun _=>rfl) (hB _ (by simp))) :)) ?_
 rintro _ _ ⟨_,rfl,rfl,rfl⟩
 refine ⟨⟨⟨1,rfl⟩,⟨2,rfl⟩,trivial⟩,?_⟩
 refine SL.mv (.r rfl) rfl (SL.ext (.r rfl) rfl rfl (SL.ext (.r rfl) rfl rfl (SL.asg (.r rfl) rfl (SL.last (SL.asg (.r rfl) rfl (SL.nx (SX.seq (SX.sr (SL.mv (.r rfl) rfl (SL.bin (.r rfl) rfl rfl Bin.neI (SL.nx ?_)))))))))))
 refine SX.cond rfl (fun hc1=>?_) (fun hc1=>?_)
 replace h:=cT hc1 h
 refine SX.sr (SL.mv (.r rfl) rfl (SL.asg (.r rfl) rfl (SL.asg (.r rfl) rfl (SL.nx (SX.ret (SQ.thnR ?_))))))
 obtain rfl:=Option.some.inj h
 exact SQ.fret (res2 rfl rfl rfl) (ret_of (M:=[_,_,_,_,_,_,_]) ⟨rfl,rfl⟩ fun _ hw=>HpOk.pick (H:=[_,_,_,_,_,_,_,_]) hw [2,0,3,4,5,6,7] 8 rfl)
 replace h:=cF hc1 h
 refine SX.skip (SQ.thn (SX.sr (SL.mv (.r rfl) rfl (SL.nchk (.r rfl) rfl (SL.fa (.r rfl) rfl fo96_4 (SL.ld (.r rfl) sc48 rfl (cell_own 2 rfl rfl) ?_))))))
 refine SL.bin (.r rfl) rfl rfl (Bin.add64 (b:=1)) ?_
 refine SL.nchk (.r rfl) rfl (SL.fa (.r rfl) rfl fo96_4 (SL.st 2 ⟨rfl,rfl,rfl⟩ rfl rfl rfl sz48 rfl rfl rfl trivial (SL.nx (SX.seq (SX.sr ?_)))))
 obtain ⟨y2,hy2,h⟩:=bnd h
 refine SL.mv (.r rfl) rfl (SL.nchk (.r rfl) rfl (SL.fa (.r rfl) rfl fo96_0 (SL.ld (.r rfl) sc25 rfl (cell_own 2 rfl rfl) (SL.mv (.r rfl) rfl (SL.mv (.r rfl) rfl (SL.pick [4,5,6,7,0,1,2,3] 8 ?_))))))
 refine SL.call (vs:=[_,_,_]) (Hin:=[_,_,_,_]) (Hr:=_::_::_::_::_) (.r rfl) rfl ⟨rfl,rfl,rfl,trivial⟩ cal77 rfl rfl (c_dd_Write hy2) ?_
 rintro _ _ ⟨rfl,rfl⟩
 refine ⟨trivial,?_⟩
 refine SL.asg (.r rfl) rfl (SL.nx (SX.sr (SL.mv (.r rfl) rfl (SL.bin (.r rfl) rfl rfl Bin.neI (SL.nx ?_)))))
 refine SX.cond rfl (fun hc2=>?_) (fun hc2=>?_)
 replace h:=cT hc2 h
 refine SX.sr (SL.mv (.r rfl) rfl (SL.asg (.r rfl) rfl (SL.asg (.r rfl) rfl (SL.nx (SX.ret (SQ.thnR ?_))))))
 obtain rfl:=Option.some.inj h
 exact SQ.fret (res2 rfl rfl rfl) (ret_of (M:=[_,_,_,_,_,_,_]) ⟨rfl,rfl⟩ fun _ hw=>HpOk.pick (H:=[_,_,_,_,_,_,_,_]) hw [6,4,7,0,1,2,3] 8 rfl)
 replace h:=cF hc2 h
 refine SX.skip (SQ.thn (SX.sr ?_))
 obtain ⟨y3,hy3,h⟩:=bnd h
 refine SL.mv (.r rfl) rfl ?_
 refine SL.call (vs:=[_]) (Hin:=[]) (Hr:=_::_::_::_::_::_::_::_::_) (.r rfl) rfl ⟨rfl,trivial⟩ cal78 rfl rfl (w_tag hy3) ?_
 rintro _ _ ⟨rfl,rfl⟩
 refine ⟨trivial,?_⟩
 refine SL.asg (.r rfl) rfl (SL.asg (.r rfl) rfl (SL.nx (SX.ret ?_)))
 obtain rfl:=Option.some.inj h
 exact SQ.fret (res2 rfl rfl rfl) (ret_of (M:=[_,_,_,_,_,_,_]) ⟨rfl,rfl⟩ fun _ hw=>HpOk.pick (H:=[_,_,_,_,_,_,_,_]) hw [6,4,7,0,1,2,3] 8 rfl)

def f_vv_open (T:List UInt32) (p0:VltA) (p0_1:DevA) (p1:UInt32) (p2:List UInt8):Option (HeadA×List UInt8×Int):=
 (f_dd_Read p0_1 p1).bind fun y1=>
 cond (!decide (y1.2=0))
 (
  some ((⟨0,0,0,0⟩:HeadA),[],y1.2))
 (
  (nthI y1.1 0).bind fun c1=>
  (nthI y1.1 1).bind fun c2=>
  (nthI y1.1 2).bind fun c3=>
  (nthI y1.1 3).bind fun c4=>
  ret (((c1.toUInt32 ||| (shl32 c2.toUInt32 8)) ||| (shl32 c3.toUInt32 16)) ||| (shl32 c4.toUInt32 24)) fun page_1=>
  (tagO y1.1).bind fun y2=>
  cond ((!decide (y2=p2))||(!decide (page_1=p1)))
  (
   some ((⟨0,0,0,0⟩:HeadA),[],61))
  (
   (openO T p0.ring y1.1).bind fun y3=>
   some (y3.1,y3.2.1,y3.2.2)))
set_option maxRecDepth 100000 in
theorem c_vv_open {T:List UInt32} {b0_:Nat} {v0x1_:Value} {m0x5_:Nat} {b0x0_:Nat} {v0x0x4_:Value} {m0x0x5_:Nat} {m0x0x6_:Nat} {p0:VltA} {p0_1:DevA} {p1:UInt32} {p2:List UInt8} {r:HeadA×List UInt8×Int} (h:f_vv_open T p0 p0_1 p1 p2=some r) (hS:ShaT K w0 T):Con Tryz.prog K w0 161 [vP b0_ 0,vU32 p1,vS p2] [own b0_ (.cells #[vP b0x0_ 0,v0x1_,vU32 p0.gen,vU32 p0.boot,vU64 p0.seals,.map (some m0x5_)] 96),rowT 138 2 v0x1_ encKey p0.ring,mapC m0x5_ vU32 vB p0.taken,own b0x0_ (.cells #[vB p0_1.off,vB p0_1.isCut,vI p0_1.lasts,vI p0_1.counts,v0x0x4_,.map (some m0x0x5_),.map (some m0x0x6_),vU64 p0_1.rcnt,vS p0_1.rtag,vU32 p0_1.rboots] 130),rowT 9 1 v0x0x4_ eS p0_1.blocks,mapC m0x0x5_ vU32 vS p0_1.pend,mapC m0x0x6_ vU32 vB p0_1.bad] H (fun u M=>u=.tuple #[.agg (encHead r.1).toArray,vS r.2.1,vI r.2.2]∧M=[own b0_ (.cells #[vP b0x0_ 0,v0x1_,vU32 p0.gen,vU32 p0.boot,vU64 p0.seals,.map (some m0x5_)] 96),rowT 138 2 v0x1_ encKey p0.ring,mapC m0x5_ vU32 vB p0.taken,own b0x0_ (.cells #[vB p0_1.off,vB p0_1.isCut,vI p0_1.lasts,vI p0_1.counts,v0x0x4_,.map (some m0x0x5_),.map (some m0x0x6_),vU64 p0_1.rcnt,vS p0_1.rtag,vU32 p0_1.rboots] 130),rowT 9 1 v0x0x4_ eS p0_1.blocks,mapC m0x0x5_ vU32 vS p0_1.pend,mapC m0x0x6_ vU32 vB p0_1.bad]):=by
 unfold f_vv_open at h
 refine Con.enter Tryz.func161 rfl rfl ?_
 refine SX.sr ?_
 refine SL.alloc (.r rfl) ze143 (fun _=>trivial) fun b1=>?_
 refine SL.asg (.r rfl) rfl (SL.asg (.r rfl) rfl (SL.nx (SX.sr ?_)))
 obtain ⟨y1,hy1,h⟩:=bnd h
 refine SL.mv (.r rfl) rfl (SL.nchk (.r rfl) rfl (SL.fa (.r rfl) rfl fo96_0 (SL.ld (.r rfl) sc25 rfl (cell_own 1 rfl rfl) (SL.mv (.r rfl) rfl (SL.pick [4,5,6,7,0,1,2,3] 8 ?_)))))
 refine SL.call (vs:=[_,_]) (Hin:=[_,_,_,_]) (Hr:=_::_::_::_::_) (.r rfl) rfl ⟨rfl,rfl,trivial⟩ cal201 rfl rfl (c_dd_Read hy1) ?_
 rintro _ _ ⟨rfl,rfl⟩
 refine ⟨trivial,?_⟩
 refine SL.mv (.r rfl) rfl (SL.ext (.r rfl) rfl rfl (SL.ext (.r rfl) rfl rfl (SL.asg (.r rfl) rfl (SL.asg (.r rfl) rfl (SL.nx (SX.seq (SX.sr (SL.mv (.r rfl) rfl (SL.bin (.r rfl) rfl rfl Bin.neI (SL.nx ?_))))))))))
 refine SX.cond rfl (fun hc1=>?_) (fun hc1=>?_)
 replace h:=cT hc1 h
 refine SX.sr (SL.bld [] (.r rfl) pl143 pk143 ze143 trivial rfl (SL.mv (.r rfl) rfl (SL.st 4 ⟨rfl,rfl,rfl⟩ rfl rfl rfl sz143 rfl rfl rfl trivial (SL.asg (.r rfl) rfl (SL.asg (.r rfl) rfl (SL.nx (SX.ret (SQ.thnR ?_))))))))
 obtain rfl:=Option.some.inj h
 exact SQ.fret (resv3 rfl (resv.ag 4 (encHead (⟨0,0,0,0⟩:HeadA)) ag143 rfl rfl rfl rfl) rfl rfl) (ret_of (M:=[_,_,_,_,_,_,_]) ⟨rfl,rfl⟩ fun _ hw=>HpOk.pick (H:=[_,_,_,_,_,_,_,_]) hw [5,6,7,0,1,2,3] 8 rfl)
 replace h:=cF hc1 h
 refine SX.skip (SQ.thn (SX.seq ?_))
 obtain ⟨c1,hc1,h⟩:=bnd h
 obtain ⟨c2,hc2,h⟩:=bnd h
 obtain ⟨c3,hc3,h⟩:=bnd h
 obtain ⟨c4,hc4,h⟩:=bnd h
 obtain ⟨page_1,epage_1,h⟩:=retE h
 refine SX.drawI mix [] (Pl.of [(true,0),(true,1),(true,2),(true,3),(true,4),(true,5),(true,6),(true,7),(true,8),(true,9),(true,10),(true,11),(true,12),(true,13),(true,14),(true,15),(true,16),(true,17),(true,18)]) (by kernel_rfl) (SL.mv (.r rfl) rfl (SL.ixN hc1 (.r rfl) ty9 rfl rfl (SL.cv (.r rfl) rfl (Cv.u8_32 ty5 ty29) (SL.mv (.r rfl) rfl (SL.ixN hc2 (.r rfl) ty9 rfl rfl (SL.cv (.r rfl) rfl (Cv.u8_32 ty5 ty29) ?_))))))
 refine SL.bin (.r rfl) rfl rfl (Bin.shl32 (n:=8)) ?_
 refine SL.bin (.r rfl) rfl rfl Bin.or32 (SL.mv (.r rfl) rfl (SL.ixN hc3 (.r rfl) ty9 rfl rfl (SL.cv (.r rfl) rfl (Cv.u8_32 ty5 ty29) ?_)))
 refine SL.bin (.r rfl) rfl rfl (Bin.shl32 (n:=16)) ?_
 refine SL.bin (.r rfl) rfl rfl Bin.or32 (SL.mv (.r rfl) rfl (SL.ixN hc4 (.r rfl) ty9 rfl rfl (SL.cv (.r rfl) rfl (Cv.u8_32 ty5 ty29) ?_)))
 refine SL.bin (.r rfl) rfl rfl (Bin.shl32 (n:=24)) ?_
 refine SL.bin (.r rfl) rfl rfl Bin.or32 ?_
 refine SL.asgX (u:=vU32 page_1) (.r rfl) rfl (congrArg vU32 epage_1) ?_
 refine SL.nx (SX.seq (SX.sr ?_))
 obtain ⟨y2,hy2,h⟩:=bnd h
 refine SL.mv (.r rfl) rfl ?_
 refine SL.call (vs:=[_]) (Hin:=[]) (Hr:=_::_::_::_::_::_::_::_::_) (.r rfl) rfl ⟨rfl,trivial⟩ cal78 rfl rfl (w_tag hy2) ?_
 rintro _ _ ⟨rfl,rfl⟩
 refine ⟨trivial,?_⟩
 refine SL.mv (.r rfl) rfl (SL.bin (.r rfl) rfl rfl Bin.neS (SL.mv (.r rfl) rfl ?_))
 refine SL.or (c := !decide (page_1=p1)) 47 4 51 rfl (fun hb k=>?_) (fun hb k=>?_) ?_
 refine SL.pass rfl rfl rfl (SL.pass rfl rfl rfl (SL.pass rfl rfl rfl (SL.pk (.r rfl) rfl rfl ?_)))
 exact k.mono (by repeat' (first | exact trivial | refine And.intro rfl ?_))
 refine SL.mv (.r rfl) rfl (SL.mv (.r rfl) rfl (SL.bin (.r rfl) rfl rfl Bin.ne32 (SL.pk (.r rfl) rfl rfl ?_)))
 exact k.mono (by repeat' (first | exact trivial | refine And.intro rfl ?_))
 refine SL.nx ?_
 refine SX.cond rfl (fun hc2=>?_) (fun hc2=>?_)
 replace h:=cT hc2 h
 refine SX.sr (SL.bld [] (.r rfl) pl143 pk143 ze143 trivial rfl (SL.st 4 ⟨rfl,rfl,rfl⟩ rfl rfl rfl sz143 rfl rfl rfl trivial (SL.asg (.r rfl) rfl (SL.asg (.r rfl) rfl (SL.nx (SX.ret (SQ.thnR ?_)))))))
 obtain rfl:=Option.some.inj h
 exact SQ.fret (resv3 rfl (resv.ag 4 (encHead (⟨0,0,0,0⟩:HeadA)) ag143 rfl rfl rfl rfl) rfl rfl) (ret_of (M:=[_,_,_,_,_,_,_]) ⟨rfl,rfl⟩ fun _ hw=>HpOk.pick (H:=[_,_,_,_,_,_,_,_]) hw [5,6,7,0,1,2,3] 8 rfl)
 replace h:=cF hc2 h
 refine SX.skip (SQ.thn (SX.sr ?_))
 obtain ⟨y3,hy3,h⟩:=bnd h
 refine SL.mv (.r rfl) rfl (SL.nchk (.r rfl) rfl (SL.fa (.r rfl) rfl fo96_1 (SL.ld (.r rfl) sc66 rfl (cell_own 5 rfl rfl) (SL.mv (.r rfl) rfl (SL.pick [6,0,1,2,3,4,5] 7 ?_)))))
 refine SL.call (vs:=[_,_]) (Hin:=[_]) (Hr:=_::_::_::_::_::_::_::_) (.r rfl) rfl ⟨rfl,rfl,trivial⟩ cal202 rfl rfl (Con.lend (B:=[_]) (Hin:=[]) fun K' w1 hk hB=>w_open hy3 (hS.keeps hk) (SlOf.lentT (e:=138) (v:=v0x1_) (fun _=>rfl) (hB _ (by simp)))) ?_
 rintro _ _ ⟨_,rfl,rfl,rfl⟩
 refine ⟨trivial,?_⟩
 refine SL.ext (.r rfl) rfl rfl (SL.ext (.r rfl) rfl rfl (SL.ext (.r rfl) rfl rfl (SL.st 5 ⟨rfl,rfl,rfl⟩ rfl rfl rfl sz143 rfl rfl rfl trivial (SL.asg (.r rfl) rfl (SL.asg (.r rfl) rfl (SL.nx (SX.ret ?_)))))))
 obtain rfl:=Option.some.inj h
 exact SQ.fret (resv3 rfl (resv.ag 5 (encHead y3.1) ag143 rfl rfl rfl rfl) rfl rfl) (ret_of (M:=[_,_,_,_,_,_,_]) ⟨rfl,rfl⟩ fun _ hw=>HpOk.pick (H:=[_,_,_,_,_,_,_,_]) hw [6,0,7,1,2,3,4] 8 rfl)

def f_vv_First (T:List UInt32) (p0:VltA) (p0_1:DevA) (p1:UInt32) (p2:List UInt8):Option (List UInt8×Int):=
 (f_vv_open T p0 p0_1 p1 p2).bind fun y1=>
 some (y1.2.1,y1.2.2)
set_option maxRecDepth 100000 in
theorem c_vv_First {T:List UInt32} {b0_:Nat} {v0x1_:Value} {m0x5_:Nat} {b0x0_:Nat} {v0x0x4_:Value} {m0x0x5_:Nat} {m0x0x6_:Nat} {p0:VltA} {p0_1:DevA} {p1:UInt32} {p2:List UInt8} {r:List UInt8×Int} (h:f_vv_First T p0 p0_1 p1 p2=some r) (hS:ShaT K w0 T):Con Tryz.prog K w0 120 [vP b0_ 0,vU32 p1,vS p2] [own b0_ (.cells #[vP b0x0_ 0,v0x1_,vU32 p0.gen,vU32 p0.boot,vU64 p0.seals,.map (some m0x5_)] 96),rowT 138 2 v0x1_ encKey p0.ring,mapC m0x5_ vU32 vB p0.taken,own b0x0_ (.cells #[vB p0_1.off,vB p0_1.isCut,vI p0_1.lasts,vI p0_1.counts,v0x0x4_,.map (some m0x0x5_),.map (some m0x0x6_),vU64 p0_1.rcnt,vS p0_1.rtag,vU32 p0_1.rboots] 130),rowT 9 1 v0x0x4_ eS p0_1.blocks,mapC m0x0x5_ vU32 vS p0_1.pend,mapC m0x0x6_ vU32 vB p0_1.bad] H (fun u M=>u=.tuple #[vS r.1,vI r.2]∧M=[own b0_ (.cells #[vP b0x0_ 0,v0x1_,vU32 p0.gen,vU32 p0.boot,vU64 p0.seals,.map (some m0x5_)] 96),rowT 138 2 v0x1_ encKey p0.ring,mapC m0x5_ vU32 vB p0.taken,own b0x0_ (.cells #[vB p0_1.off,vB p0_1.isCut,vI p0_1.lasts,vI p0_1.counts,v0x0x4_,.map (some m0x0x5_),.map (some m0x0x6_),vU64 p0_1.rcnt,vS p0_1.rtag,vU32 p0_1.rboots] 130),rowT 9 1 v0x0x4_ eS p0_1.blocks,mapC m0x0x5_ vU32 vS p0_1.pend,mapC m0x0x6_ vU32 vB p0_1.bad]):=by
 unfold f_vv_First at h
 refine Con.enter Tryz.func120 rfl rfl ?_
 refine SX.sr (SL.asg (.r rfl) rfl (SL.asg (.r rfl) rfl (SL.nx (SX.seq (SX.sr (SL.mv (.r rfl) rfl (SL.eqPN (.r rfl) ty24 rfl rfl (SL.nx (SX.condF rfl (SX.skip (SQ.thn (SX.sr ?_))))))))))))
 obtain ⟨y1,hy1,h⟩:=bnd h
 refine SL.mv (.r rfl) rfl (SL.mv (.r rfl) rfl (SL.mv (.r rfl) rfl ?_))
 refine SL.call (vs:=[_,_,_]) (Hin:=[_,_,_,_,_,_,_]) (Hr:=_) (.r rfl) rfl ⟨rfl,rfl,rfl,trivial⟩ cal161 rfl rfl (c_vv_open hy1 hS) ?_
 rintro _ _ ⟨rfl,rfl⟩
 refine ⟨trivial,?_⟩
 refine SL.mv (.r rfl) rfl (SL.ext (.r rfl) rfl rfl (SL.ext (.r rfl) rfl rfl (SL.ext (.r rfl) rfl rfl ?_)))
 refine SL.alloc (.r rfl) ze143 (fun _=>trivial) fun b1=>?_
 refine SL.st 0 ⟨rfl,rfl,rfl⟩ rfl rfl rfl sz143 rfl rfl rfl trivial (SL.asg (.r rfl) rfl (SL.asg (.r rfl) rfl (SL.nx (SX.sr (SL.mv (.r rfl) rfl (SL.mv (.r rfl) rfl (SL.asg (.r rfl) rfl (SL.asg (.r rfl) rfl (SL.nx (SX.ret ?_))))))))))
 obtain rfl:=Option.some.inj h
 exact SQ.fret (res2 rfl rfl rfl) (ret_of (M:=[_,_,_,_,_,_,_]) ⟨rfl,rfl⟩ fun _ hw=>HpOk.pick (H:=[_,_,_,_,_,_,_,_]) hw [1,2,3,4,5,6,7] 8 rfl)

def f_rows_RightRef (p0:RefA):Option Bool:=
 ret ((decide (2≤p0.page))&&(decide ((p0.tag.length:Int)=32))) fun x1=>
 some x1
set_option maxRecDepth 100000 in
theorem c_rows_RightRef {p0:RefA} {r:Bool} (h:f_rows_RightRef p0=some r)  : Con Tryz.prog K w0 119 [.agg (encRef p0).toArray] [] H (fun u M=>u=vB r∧M=[]):=by
 unfold f_rows_RightRef at h
 refine Con.enter Tryz.func119 rfl rfl ?_
 refine SX.sr ?_
 refine SL.box (.r rfl) rfl (fun _=>trivial) fun b1=>?_
 refine SL.asg (.r rfl) rfl (SL.nx (SX.sr ?_))
 obtain ⟨x1,ex1,h⟩:=retE h
 refine SL.fa (.r rfl) rfl fo31_0 (SL.ld (.r rfl) sc29 rfl (cell_own 0 rfl rfl) ?_)
 refine SL.bin (.r rfl) rfl rfl (Bin.ge32 (b:=2)) ?_
 refine SL.mv (.r rfl) rfl ?_
 refine SL.and (c:=decide ((p0.tag.length:Int)=32)) 6 5 11 rfl (fun hb k=>?_) (fun hb k=>?_) ?_
 refine SL.fa (.r rfl) rfl fo31_1 (SL.ld (.r rfl) sc9 rfl (cell_own 0 rfl rfl) (SL.lenS (.r rfl) ty9 rfl (SL.bin (.r rfl) rfl rfl Bin.eqI (SL.pk (.r rfl) rfl rfl ?_))))
 exact k.mono (by repeat' (first | exact trivial | refine And.intro rfl ?_))
 refine SL.pass rfl rfl rfl (SL.pass rfl rfl rfl (SL.pass rfl rfl rfl (SL.pass rfl rfl rfl (SL.pk (.r rfl) rfl rfl ?_))))
 exact k.mono (by repeat' (first | exact trivial | refine And.intro rfl ?_))
 refine SL.asgX (u:=vB x1) (.r rfl) rfl (congrArg vB ex1) ?_
 refine SL.nx (SX.ret ?_)
 obtain rfl:=Option.some.inj h
 exact SQ.fret (res1 rfl rfl) (ret_of (M:=[]) ⟨rfl,rfl⟩ fun _ hw=>HpOk.pick (H:=[_]) hw [] 1 rfl)

def f_vv_Read (T:List UInt32) (p0:VltA) (p0_1:DevA) (p1:RefA):Option (List UInt8×Int):=
 (f_rows_RightRef p1).bind fun y1=>
 ret (!y1) fun x1=>
 cond x1
 (
  some ([],2))
 (
  (f_vv_First T p0 p0_1 p1.page p1.tag).bind fun y2=>
  some (y2.1,y2.2))
set_option maxRecDepth 100000 in
theorem c_vv_Read {T:List UInt32} {b0_:Nat} {v0x1_:Value} {m0x5_:Nat} {b0x0_:Nat} {v0x0x4_:Value} {m0x0x5_:Nat} {m0x0x6_:Nat} {p0:VltA} {p0_1:DevA} {p1:RefA} {r:List UInt8×Int} (h:f_vv_Read T p0 p0_1 p1=some r) (hS:ShaT K w0 T):Con Tryz.prog K w0 81 [vP b0_ 0,.agg (encRef p1).toArray] [own b0_ (.cells #[vP b0x0_ 0,v0x1_,vU32 p0.gen,vU32 p0.boot,vU64 p0.seals,.map (some m0x5_)] 96),rowT 138 2 v0x1_ encKey p0.ring,mapC m0x5_ vU32 vB p0.taken,own b0x0_ (.cells #[vB p0_1.off,vB p0_1.isCut,vI p0_1.lasts,vI p0_1.counts,v0x0x4_,.map (some m0x0x5_),.map (some m0x0x6_),vU64 p0_1.rcnt,vS p0_1.rtag,vU32 p0_1.rboots] 130),rowT 9 1 v0x0x4_ eS p0_1.blocks,mapC m0x0x5_ vU32 vS p0_1.pend,mapC m0x0x6_ vU32 vB p0_1.bad] H (fun u M=>u=.tuple #[vS r.1,vI r.2]∧M=[own b0_ (.cells #[vP b0x0_ 0,v0x1_,vU32 p0.gen,vU32 p0.boot,vU64 p0.seals,.map (some m0x5_)] 96),rowT 138 2 v0x1_ encKey p0.ring,mapC m0x5_ vU32 vB p0.taken,own b0x0_ (.cells #[vB p0_1.off,vB p0_1.isCut,vI p0_1.lasts,vI p0_1.counts,v0x0x4_,.map (some m0x0x5_),.map (some m0x0x6_),vU64 p0_1.rcnt,vS p0_1.rtag,vU32 p0_1.rboots] 130),rowT 9 1 v0x0x4_ eS p0_1.blocks,mapC m0x0x5_ vU32 vS p0_1.pend,mapC m0x0x6_ vU32 vB p0_1.bad]):=by
 unfold f_vv_Read at h
 refine Con.enter Tryz.func81 rfl rfl ?_
 refine SX.sr ?_
 refine SL.box (.r rfl) rfl (fun _=>trivial) fun b1=>?_
 refine SL.asg (.r rfl) rfl (SL.asg (.r rfl) rfl (SL.nx (SX.seq (SX.block (SX.sr (SL.mv (.r rfl) rfl (SL.eqPN (.r rfl) ty24 rfl rfl (SL.asg (.r rfl) rfl (SL.nx (SX.condF rfl (SX.sr ?_)))))))))))
 obtain ⟨y1,hy1,h⟩:=bnd h
 obtain ⟨x1,ex1,h⟩:=retE h
 refine SL.ldA [vU32 p1.page,vS p1.tag] (.r rfl) ag31 rfl rfl (cells_all 0 rfl) ?_
 refine SL.call (vs:=[_]) (Hin:=[]) (Hr:=_::_::_::_::_::_::_::_::_) (.r rfl) rfl ⟨rfl,trivial⟩ cal119 rfl rfl ((c_rows_RightRef hy1 :)) ?_
 rintro _ _ ⟨rfl,rfl⟩
 refine ⟨trivial,?_⟩
 refine SL.not (.r rfl) rfl ?_
 refine SL.asgX (u:=vB x1) (.r rfl) rfl (congrArg vB ex1) ?_
 refine SL.nx ?_
 refine SX.cond rfl (fun hc2=>?_) (fun hc2=>?_)
 replace h:=cT hc2 h
 refine SX.sr (SL.asg (.r rfl) rfl (SL.asg (.r rfl) rfl (SL.nx (SX.ret (SQ.blkR (SQ.thnR ?_))))))
 obtain rfl:=Option.some.inj h
 exact SQ.fret (res2 rfl rfl rfl) (ret_of (M:=[_,_,_,_,_,_,_]) ⟨rfl,rfl⟩ fun _ hw=>HpOk.pick (H:=[_,_,_,_,_,_,_,_]) hw [1,2,3,4,5,6,7] 8 rfl)
 replace h:=cF hc2 h
 refine SX.skip (SQ.blk (SQ.thn (SX.sr ?_)))
 obtain ⟨y2,hy2,h⟩:=bnd h
 refine SL.mv (.r rfl) rfl (SL.fa (.r rfl) rfl fo31_0 (SL.ld (.r rfl) sc29 rfl (cell_own 0 rfl rfl) (SL.fa (.r rfl) rfl fo31_1 (SL.ld (.r rfl) sc9 rfl (cell_own 0 rfl rfl) (SL.pick [1,2,3,4,5,6,7,0] 8 ?_)))))
 refine SL.call (vs:=[_,_,_]) (Hin:=[_,_,_,_,_,_,_]) (Hr:=_::_) (.r rfl) rfl ⟨rfl,rfl,rfl,trivial⟩ cal120 rfl rfl (c_vv_First hy2 hS) ?_
 rintro _ _ ⟨rfl,rfl⟩
 refine ⟨trivial,?_⟩
 refine SL.ext (.r rfl) rfl rfl (SL.ext (.r rfl) rfl rfl (SL.asg (.r rfl) rfl (SL.asg (.r rfl) rfl (SL.nx (SX.ret ?_)))))
 obtain rfl:=Option.some.inj h
 exact SQ.fret (res2 rfl rfl rfl) (ret_of (M:=[_,_,_,_,_,_,_]) ⟨rfl,rfl⟩ fun _ hw=>HpOk.pick (H:=[_,_,_,_,_,_,_,_]) hw [0,1,2,3,4,5,6] 8 rfl)


end Go.Proofs.YtkibffdipniemaaGreatDoor

/- The range over a vault's free blocks, left in its first round. Condition: at most 2^20 blocks. -/
namespace Go.Proofs.YtkibffdipniemaaGreatDoor
open Go
variable {K:Nat→Prop} {w0:World} {H:List Chunk}

abbrev vltC (b mp bd pd bb:Nat) (vr vb:Value) (v:VltA) (d:DevA) (T:List Chunk):List Chunk:=
 own b (.cells #[vP bd 0,vr,vU32 v.gen,vU32 v.boot,vU64 v.seals,.map (some mp)] 96)::rowT 138 2 vr encKey v.ring::mapC mp vU32 vB v.taken::own bd (.cells #[vB d.off,vB d.isCut,vI d.lasts,vI d.counts,vb,.map (some pd),.map (some bb),vU64 d.rcnt,vS d.rtag,vU32 d.rboots] 130)::rowT 9 1 vb eS d.blocks::mapC pd vU32 vS d.pend::mapC bb vU32 vB d.bad::T
def takenA (v:VltA) (p:UInt32):Bool:=(mget v.taken p).getD false
def freeFrom (v:VltA):Nat→Nat→List UInt32
 | _,0=>[]
 | i,k+1=>if takenA v (UInt32.ofNat i) then freeFrom v (i+1) k else [UInt32.ofNat i]
def freesO (v:VltA) (d:DevA):Option (List UInt32):=if d.blocks.length≤1048576 then some (freeFrom v 2 (d.blocks.length-2)) else none
theorem isPage_eq (v:VltA) (d:DevA) (i:Nat) (hi:2≤i) (hn:i≤1048576):f_vv_isPage v d (UInt32.ofNat i)=some (decide (i<d.blocks.length)):=by
 have h1:(UInt32.ofNat i).toNat=i:=by simp;omega
 have h2:decide ((2:UInt32)≤UInt32.ofNat i)=true:=by
  rw [decide_eq_true_eq,UInt32.le_iff_toNat_le,h1]
  exact hi
 unfold f_vv_isPage f_dd_Blocks
 rw [h2,h1]
 simp [andO]
theorem next_of (i:Nat):UInt32.ofNat i+1=UInt32.ofNat (i+1):=by
 apply UInt32.toNat_inj.1
 simp
set_option maxRecDepth 100000 in
theorem q_free (b mp bd pd bb bx:Nat) (vr vb:Value) (v:VltA) (d:DevA) (G1:List Chunk) (hn:d.blocks.length≤1048576):
  SeqAt1 Tryz.prog K w0 74 [vP bx 0] [own bx (.cells #[vP b 0] 24)] (vltC b mp bd pd bb vr vb v d G1) eU32 (freeFrom v 2 (d.blocks.length-2)):=by
 intro lp J X T rc hJ1 hy h0
 refine Con.enter Tryz.func74 rfl rfl ?_
 show SX _ _ _ _ _ _ _ _ _ (own bx (.cells #[vP b 0] 24)::rc::vltC b mp bd pd bb vr vb v d (G1++T))
 refine SX.sr (SL.asg (.r rfl) rfl (SL.nx (SX.block ?_)))
 refine SX.mono (SX.loop (α:=Nat) (fun x=>2≤x∧x≤1048576∧(2<x→x≤d.blocks.length)∧freeFrom v x (d.blocks.length-x)=freeFrom v 2 (d.blocks.length-2)) (fun x=>[(0,vY lp),(1,vP bx 0),(3,vU32 (UInt32.ofNat x))])
  (fun _=>own bx (.cells #[vP b 0] 24)::rc::vltC b mp bd pd bb vr vb v d (G1++T))
  (fun x=>1048577-x) (fun x D hp=>?_) 2 ⟨by omega,by omega,by omega,rfl⟩) (by repeat' (first | exact trivial | refine And.intro rfl ?_))
 obtain ⟨hx2,hxn,hxb,hxf⟩:=hp
 have hpg:=isPage_eq v d x hx2 hxn
 refine SX.seq (SX.sr (SL.ld (.r rfl) sc24 rfl (cell_own 0 rfl rfl) (SL.mv (.r rfl) rfl (SL.pick [2,3,4,5,6,7,8,0,1] 9 ?_))))
 refine SL.call (vs:=[_,_]) (Hin:=[_,_,_,_,_,_,_]) (Hr:=_::_::_) (.r rfl) rfl ⟨rfl,rfl,trivial⟩ cal75 rfl rfl (c_vv_isPage hpg) ?_
 rintro _ _ ⟨rfl,rfl⟩
 refine ⟨trivial,?_⟩
 refine SL.nx ?_
 refine SX.cond rfl (fun hc=>?_) (fun hc=>?_)
 have hlt:x<d.blocks.length:=by simpa using hc
 refine SX.skip (SQ.thn (SX.seq (SX.block (SX.sr (SL.ld (.r rfl) sc24 rfl (cell_own 7 rfl rfl) (SL.nchk (.r rfl) rfl (SL.fa (.r rfl) rfl fo96_5 (SL.ld (.r rfl) sc94 rfl (cell_own 0 rfl rfl) (SL.mv (.r rfl) rfl ?_)))))))))
 refine SL.lkp (zv:=false) 2 (MapE.u32B ty29) (.r rfl) ty94 ze4 rfl rfl rfl ?_
 refine SL.not (.r rfl) rfl (SL.mv (.r rfl) rfl ?_)
 have hk:d.blocks.length-x=(d.blocks.length-(x+1))+1:=by omega
 refine SL.split 16 rfl (fun e=>?_) (fun e=>?_)
 have ht:takenA v (UInt32.ofNat x)=false:=by simpa [takenA] using e
 have hfr:freeFrom v 2 (d.blocks.length-2)=[]++UInt32.ofNat x::[]:=by
  rw [←hxf,hk]
  simp [freeFrom,ht]
 refine SL.mv (.r rfl) rfl (SL.mv (.r rfl) rfl (SL.pick [7,8,0,1,2,3,4,5,6] 9 ?_))
 refine SL.yld (M2:=[_]) (G:=rc::vltC b mp bd pd bb vr vb v d G1) (T:=T) (vs:=[_]) (ok:=fun G1=>J ([]++[UInt32.ofNat x]) G1) (no:=X) (.r rfl) rfl ⟨rfl,trivial⟩ rfl ?_ (fun bb G1 hG1=>⟨trivial,?_⟩)
 intro M
 exact hy [] (UInt32.ofNat x) [] hfr _ h0 M
 obtain rfl:bb=false:=by
  cases bb with
  | false=>rfl
  | true=>exact absurd (hJ1 _ _ hG1) (by simp)
 refine SL.not (.r rfl) rfl (SL.pk (.r rfl) rfl rfl (SL.nx (SX.condT rfl (SX.ret (SQ.blkR (SQ.thnR (SQ.lpR (SQ.blkR ?_))))))))
 exact SQ.fret (res0 rfl) (ret_of (M:=G1) (.inr hG1) fun _ h=>h.skip [_])
 have ht:takenA v (UInt32.ofNat x)=true:=by simpa [takenA] using e
 refine SL.pass rfl rfl rfl (SL.pass rfl rfl rfl (SL.pass rfl rfl rfl (SL.pass rfl rfl rfl (SL.pk (.r rfl) rfl rfl (SL.nx (SX.condF rfl (SX.skip (SQ.blk (SQ.thn (SX.region (SL.mv (.r rfl) rfl ?_)))))))))))
 refine SL.bin (.r rfl) rfl rfl (Bin.add32 (b:=1)) ?_
 refine SL.asgX (u:=vU32 (UInt32.ofNat (x+1))) (.r rfl) rfl (congrArg vU32 (next_of x)) ?_
 refine SL.nil ?_
 exact SQ.again (x+1) ⟨by omega,by omega,fun _=>by omega,by rw [←hxf,hk];simp [freeFrom,ht]⟩ (by omega) (by repeat' (first | exact trivial | refine And.intro rfl ?_)) (fun _ hw=>HpOk.pick (H:=[_,_,_,_,_,_,_,_,_]) hw [7,8,0,1,2,3,4,5,6] 9 rfl)
 have hle:d.blocks.length≤x:=by simpa using hc
 have hfr:freeFrom v 2 (d.blocks.length-2)=[]:=by
  rw [←hxf,show d.blocks.length-x=0 by omega]
  rfl
 refine SX.exit (SQ.thnE (SQ.lpE (SQ.blkE ?_)))
 exact SQ.fend (res0 rfl) (ret_of (M:=rc::vltC b mp bd pd bb vr vb v d G1) (.inl (by rw [hfr];exact h0)) fun _ hw=>HpOk.pick (H:=[_,_,_,_,_,_,_,_,_]) hw [8,0,1,2,3,4,5,6] 9 rfl)
theorem q_frees {b mp bd pd bb bx:Nat} {vr vb:Value} {v:VltA} {d:DevA} {G1:List Chunk} {xs:List UInt32} (h:freesO v d=some xs):
  SeqAt1 Tryz.prog K w0 74 [vP bx 0] [own bx (.cells #[vP b 0] 24)] (vltC b mp bd pd bb vr vb v d G1) eU32 xs:=by
 unfold freesO at h
 split at h
 rename_i hn
 obtain rfl:=Option.some.inj h
 exact q_free b mp bd pd bb bx vr vb v d G1 hn
 cases h
def freeO (_:VltA) (_:DevA):Option Unit:=some ()
theorem w_free {b:Nat} {v:VltA} {d:DevA} {r:Unit} (_:freeO v d=some r):Con Tryz.prog K w0 45 [vP b 0] [] H (fun u M=>∃bx:Nat,u=.func (.func 74) #[] #[vP bx 0]∧M=[own bx (.cells #[vP b 0] 24)]):=by
 refine Con.enter Tryz.func45 rfl rfl ?_
 refine SX.sr ?_
 refine SL.box (.r rfl) rfl (fun _=>trivial) fun b0=>?_
 refine SL.asg (.r rfl) rfl (SL.nx (SX.sr ?_))
 refine SL.mkf (fv:=#[]) (cv:=#[_]) (.r rfl) rfl rfl ?_
 refine SL.asg (.r rfl) rfl (SL.nx (SX.ret ?_))
 exact SQ.fret (res1 rfl rfl) (ret_of (M:=[_]) ⟨_,rfl,rfl⟩ fun _ h=>h.skip [])
end Go.Proofs.YtkibffdipniemaaGreatDoor

/- Plain functions of the references and the laws, printed from the loaded program, and the walks that show that the program computes them. Condition: the plain function yields. -/
namespace Go.Proofs.YtkibffdipniemaaGreatDoor
open Go
variable {K:Nat→Prop} {w0:World} {H:List Chunk}

def f_vv_Write_j1 (T:List UInt32) (p0:VltA) (p0_1:DevA) (p1:List UInt8) (y1:UInt32):Option (RefA×Int×VltA×DevA):=
 cond (decide (y1=0))
 (
  some ((⟨0,[]⟩:RefA),110,p0,p0_1))
 (
  (f_vv_seal T p0 p0_1 y1 p1).bind fun y4=>
  cond (!decide (y4.2.1=0))
  (
   some ((⟨0,[]⟩:RefA),y4.2.1,y4.2.2.1,y4.2.2.2))
  (
   (mputI y4.2.2.1.taken y1 true).bind fun l1=>
   some ((⟨y1,y4.1⟩:RefA),0,{ y4.2.2.1 with taken:=l1 },y4.2.2.2)))
def f_vv_Write_j3 (T:List UInt32) (p0:VltA) (p0_1:DevA) (p1:List UInt8) (y3:UInt32):Option (RefA×Int×VltA×DevA):=
 f_vv_Write_j1 T p0 p0_1 p1 y3
def f_vv_Write_j2 (T:List UInt32) (p0:VltA) (p0_1:DevA) (p1:List UInt8) (y3:UInt32):Option (RefA×Int×VltA×DevA):=
 f_vv_Write_j1 T p0 p0_1 p1 y3
def f_vv_Write_r1_b (T:List UInt32) (p0:VltA) (p0_1:DevA) (p1:List UInt8) (nx_f_vv_Write_r1:UInt32→Option (RefA×Int×VltA×DevA)) (e1:UInt32) (y3:UInt32):Option (RefA×Int×VltA×DevA):=
 f_vv_Write_j3 T p0 p0_1 p1 e1
def f_vv_Write_r1 (T:List UInt32) (p0:VltA) (p0_1:DevA) (p1:List UInt8):List (UInt32)→UInt32→Option (RefA×Int×VltA×DevA):=rangeL (fun nx e x=>f_vv_Write_r1_b T p0 p0_1 p1 nx e x) (fun x=>f_vv_Write_j2 T p0 p0_1 p1 x)
def f_vv_Write (T:List UInt32) (p0:VltA) (p0_1:DevA) (p1:List UInt8):Option (RefA×Int×VltA×DevA):=
 ret (decide (198<(p1.length:Int))) fun x1=>
 cond x1
 (
  some ((⟨0,[]⟩:RefA),50,p0,p0_1))
 (
  (freeO p0 p0_1).bind fun y2=>
  (freesO p0 p0_1).bind fun xs1=>
  f_vv_Write_r1 T p0 p0_1 p1 xs1 0)
set_option maxRecDepth 100000 in
theorem c_vv_Write {T:List UInt32} {b0_:Nat} {v0x1_:Value} {m0x5_:Nat} {b0x0_:Nat} {v0x0x4_:Value} {m0x0x5_:Nat} {m0x0x6_:Nat} {p0:VltA} {p0_1:DevA} {p1:List UInt8} {r:RefA×Int×VltA×DevA} (h:f_vv_Write T p0 p0_1 p1=some r) (hS:ShaT K w0 T):Con Tryz.prog K w0 13 [vP b0_ 0,vS p1] [own b0_ (.cells #[vP b0x0_ 0,v0x1_,vU32 p0.gen,vU32 p0.boot,vU64 p0.seals,.map (some m0x5_)] 96),rowT 138 2 v0x1_ encKey p0.ring,mapC m0x5_ vU32 vB p0.taken,own b0x0_ (.cells #[vB p0_1.off,vB p0_1.isCut,vI p0_1.lasts,vI p0_1.counts,v0x0x4_,.map (some m0x0x5_),.map (some m0x0x6_),vU64 p0_1.rcnt,vS p0_1.rtag,vU32 p0_1.rboots] 130),rowT 9 1 v0x0x4_ eS p0_1.blocks,mapC m0x0x5_ vU32 vS p0_1.pend,mapC m0x0x6_ vU32 vB p0_1.bad] H (fun u M=>u=.tuple #[.agg (encRef r.1).toArray,vI r.2.1]∧M=[own b0_ (.cells #[vP b0x0_ 0,v0x1_,vU32 r.2.2.1.gen,vU32 r.2.2.1.boot,vU64 r.2.2.1.seals,.map (some m0x5_)] 96),rowT 138 2 v0x1_ encKey r.2.2.1.ring,mapC m0x5_ vU32 vB r.2.2.1.taken,own b0x0_ (.cells #[vB r.2.2.2.off,vB r.2.2.2.isCut,vI r.2.2.2.lasts,vI r.2.2.2.counts,v0x0x4_,.map (some m0x0x5_),.map (some m0x0x6_),vU64 r.2.2.2.rcnt,vS r.2.2.2.rtag,vU32 r.2.2.2.rboots] 130),rowT 9 1 v0x0x4_ eS r.2.2.2.blocks,mapC m0x0x5_ vU32 vS r.2.2.2.pend,mapC m0x0x6_ vU32 vB r.2.2.2.bad]):=by
 unfold f_vv_Write at h
 refine Con.enter Tryz.func13 rfl rfl ?_
 refine SX.sr ?_
 refine SL.alloc (.r rfl) ze31 (fun _=>trivial) fun b1=>?_
 refine SL.asg (.r rfl) rfl (SL.nx (SX.scope (SX.seq (SX.block (SX.sr (SL.mv (.r rfl) rfl (SL.eqPN (.r rfl) ty24 rfl rfl (SL.asg (.r rfl) rfl (SL.nx (SX.condF rfl (SX.sr ?_)))))))))))
 obtain ⟨x1,ex1,h⟩:=retE h
 refine SL.mv (.r rfl) rfl (SL.lenS (.r rfl) ty9 rfl (SL.bin (.r rfl) rfl rfl Bin.gtI ?_))
 refine SL.asgX (u:=vB x1) (.r rfl) rfl (congrArg vB ex1) ?_
 refine SL.nx ?_
 refine SX.cond rfl (fun hc2=>?_) (fun hc2=>?_)
 replace h:=cT hc2 h
 refine SX.sr (SL.bld [] (.r rfl) pl31 pk31 ze31 trivial rfl (SL.st 0 ⟨rfl,rfl,rfl⟩ rfl rfl rfl sz31 rfl rfl rfl trivial (SL.asg (.r rfl) rfl (SL.nx (SX.ret (SQ.blkR (SQ.thnR (SQ.scpR ?_))))))))
 obtain rfl:=Option.some.inj h
 exact SQ.fret (resv2 rfl (resv.ag 0 (encRef (⟨0,[]⟩:RefA)) ag31 rfl rfl rfl rfl) rfl) (ret_of (M:=[_,_,_,_,_,_,_]) ⟨rfl,rfl⟩ fun _ hw=>HpOk.pick (H:=[_,_,_,_,_,_,_,_]) hw [1,2,3,4,5,6,7] 8 rfl)
 replace h:=cF hc2 h
 refine SX.skip (SQ.blk (SQ.thn (SX.sr ?_)))
 refine SL.alloc (.r rfl) ze29 (fun _=>trivial) fun b2=>?_
 refine SL.st 0 ⟨rfl,rfl,rfl⟩ rfl rfl rfl sz29 rfl rfl rfl trivial (SL.nx (SX.seq (SX.label (SQ.thn ?_))))
 refine SX.meetD (α:=UInt32) (fun x=>f_vv_Write_j1 T p0 p0_1 p1 x=some r) (fun x=>[(0,vP b0_ 0),(1,vS p1),(4,vP b1 0),(6,vP b2 0)]) (fun x=>own b0_ (.cells #[vP b0x0_ 0,v0x1_,vU32 p0.gen,vU32 p0.boot,vU64 p0.seals,.map (some m0x5_)] 96)::own b0x0_ (.cells #[vB p0_1.off,vB p0_1.isCut,vI p0_1.lasts,vI p0_1.counts,v0x0x4_,.map (some m0x0x5_),.map (some m0x0x6_),vU64 p0_1.rcnt,vS p0_1.rtag,vU32 p0_1.rboots] 130)::rowT 9 1 v0x0x4_ eS p0_1.blocks::mapC m0x0x5_ vU32 vS p0_1.pend::mapC m0x0x6_ vU32 vB p0_1.bad::rowT 138 2 v0x1_ encKey p0.ring::mapC m0x5_ vU32 vB p0.taken::own b1 (.cells #[vU32 0,vS []] 31)::own b2 (.cells #[vU32 x] 29)::H) ?_ (fun y1 D h=>?_)
 refine SX.sr ?_
 obtain ⟨y2,hy2,h⟩:=bnd h
 refine SL.mv (.r rfl) rfl ?_
 refine SL.call (vs:=[_]) (Hin:=[]) (Hr:=_::_::_::_::_::_::_::_::_::_) (.r rfl) rfl ⟨rfl,trivial⟩ cal45 rfl rfl (w_free hy2) ?_
 rintro _ _ ⟨b3,rfl,rfl⟩
 refine ⟨trivial,?_⟩
 refine SL.nx (SX.block ?_)
 obtain ⟨xs1,hxs1,h⟩:=bnd h
 refine SX.heap (SX.rangeAt1 (enc:=eU32) xs1 (G0:=own b0_ (.cells #[vP b0x0_ 0,v0x1_,vU32 p0.gen,vU32 p0.boot,vU64 p0.seals,.map (some m0x5_)] 96)::rowT 138 2 v0x1_ encKey p0.ring::mapC m0x5_ vU32 vB p0.taken::own b0x0_ (.cells #[vB p0_1.off,vB p0_1.isCut,vI p0_1.lasts,vI p0_1.counts,v0x0x4_,.map (some m0x0x5_),.map (some m0x0x6_),vU64 p0_1.rcnt,vS p0_1.rtag,vU32 p0_1.rboots] 130)::rowT 9 1 v0x0x4_ eS p0_1.blocks::mapC m0x0x5_ vU32 vS p0_1.pend::mapC m0x0x6_ vU32 vB p0_1.bad::own b1 (.cells #[vU32 0,vS []] 31)::own b2 (.cells #[vU32 0] 29)::H) (fun pre G=>pre=[]∧∃x:UInt32,(∀suf,xs1=pre++suf→f_vv_Write_r1 T p0 p0_1 p1 suf x=some r)∧G=own b0_ (.cells #[vP b0x0_ 0,v0x1_,vU32 p0.gen,vU32 p0.boot,vU64 p0.seals,.map (some m0x5_)] 96)::rowT 138 2 v0x1_ encKey p0.ring::mapC m0x5_ vU32 vB p0.taken::own b0x0_ (.cells #[vB p0_1.off,vB p0_1.isCut,vI p0_1.lasts,vI p0_1.counts,v0x0x4_,.map (some m0x0x5_),.map (some m0x0x6_),vU64 p0_1.rcnt,vS p0_1.rtag,vU32 p0_1.rboots] 130)::rowT 9 1 v0x0x4_ eS p0_1.blocks::mapC m0x0x5_ vU32 vS p0_1.pend::mapC m0x0x6_ vU32 vB p0_1.bad::own b1 (.cells #[vU32 0,vS []] 31)::own b2 (.cells #[vU32 x] 29)::H) (fun c G=>(c=.exit 1∧∃x:UInt32,f_vv_Write_j3 T p0 p0_1 p1 x=some r∧G=own b0_ (.cells #[vP b0x0_ 0,v0x1_,vU32 p0.gen,vU32 p0.boot,vU64 p0.seals,.map (some m0x5_)] 96)::rowT 138 2 v0x1_ encKey p0.ring::mapC m0x5_ vU32 vB p0.taken::own b0x0_ (.cells #[vB p0_1.off,vB p0_1.isCut,vI p0_1.lasts,vI p0_1.counts,v0x0x4_,.map (some m0x0x5_),.map (some m0x0x6_),vU64 p0_1.rcnt,vS p0_1.rtag,vU32 p0_1.rboots] 130)::rowT 9 1 v0x0x4_ eS p0_1.blocks::mapC m0x0x5_ vU32 vS p0_1.pend::mapC m0x0x6_ vU32 vB p0_1.bad::own b1 (.cells #[vU32 0,vS []] 31)::own b2 (.cells #[vU32 x] 29)::H)) rfl cal74 rfl (fun _=>rfl) (q_frees hxs1) rfl ⟨rfl,0,fun suf e=>by rw [←show xs1=suf from e];exact h,rfl⟩ (fun _ _ h=>h.1) (fun pre e1 suf1 G hpre hJ lr lp Rest=>?_) (fun G D hJ=>?_) (fun c G D hX=>?_)) (fun _ hw=>HpOk.pick (H:=[_,_,_,_,_,_,_,_,_,_]) hw [0,3,4,5,6,7,8,9,2,1] 10 rfl)
 replace hJ:=hJ.2
 obtain ⟨y3,h,rfl⟩:=hJ
 replace h:f_vv_Write_r1_b T p0 p0_1 p1 (f_vv_Write_r1 T p0 p0_1 p1 suf1) e1 y3=some r:=h _ hpre
 unfold f_vv_Write_r1_b at h
 refine SX.region (SL.asg (.r rfl) rfl (SL.nil (SQ.bgn (SX.block (SX.sr (SL.mv (.r rfl) rfl (SL.st 8 ⟨rfl,rfl,rfl⟩ rfl rfl rfl sz29 rfl rfl rfl trivial (SL.nx (SX.exit (SQ.blkO ?_))))))))))
 exact SQ.rndE ⟨rfl,e1,h,rfl⟩ (fun _ hw=>HpOk.pick (H:=[_,_,_,_,_,_,_,_,_]) hw [0,1,2,3,4,5,6,7,8] 9 rfl)
 replace hJ:=hJ.2
 obtain ⟨y3,h,rfl⟩:=hJ
 replace h:f_vv_Write_j2 T p0 p0_1 p1 y3=some r:=h [] (List.append_nil _).symm
 unfold f_vv_Write_j2 at h
 refine SQ.blk ?_
 exact SQ.midD y3 h (by repeat' (first | exact trivial | refine And.intro rfl ?_)) (fun _ hw=>HpOk.pick (H:=[_,_,_,_,_,_,_,_,_]) hw [0,3,4,5,6,1,2,7,8] 9 rfl)
 obtain ⟨rfl,hJ⟩:=hX
 obtain ⟨y3,h,rfl⟩:=hJ
 unfold f_vv_Write_j3 at h
 refine SX.exit (SQ.blkE ?_)
 exact SQ.midD y3 h (by repeat' (first | exact trivial | refine And.intro rfl ?_)) (fun _ hw=>HpOk.pick (H:=[_,_,_,_,_,_,_,_,_]) hw [0,3,4,5,6,1,2,7,8] 9 rfl)
 unfold f_vv_Write_j1 at h
 refine SX.re [(0,vP b0_ 0),(1,vS p1),(4,vP b1 0),(6,vP b2 0)] (own b0_ (.cells #[vP b0x0_ 0,v0x1_,vU32 p0.gen,vU32 p0.boot,vU64 p0.seals,.map (some m0x5_)] 96)::own b0x0_ (.cells #[vB p0_1.off,vB p0_1.isCut,vI p0_1.lasts,vI p0_1.counts,v0x0x4_,.map (some m0x0x5_),.map (some m0x0x6_),vU64 p0_1.rcnt,vS p0_1.rtag,vU32 p0_1.rboots] 130)::rowT 9 1 v0x0x4_ eS p0_1.blocks::mapC m0x0x5_ vU32 vS p0_1.pend::mapC m0x0x6_ vU32 vB p0_1.bad::rowT 138 2 v0x1_ encKey p0.ring::mapC m0x5_ vU32 vB p0.taken::own b1 (.cells #[vU32 0,vS []] 31)::own b2 (.cells #[vU32 y1] 29)::H) ?_ (by repeat' (first | exact trivial | refine And.intro rfl ?_))
 refine SX.seq (SX.sr (SL.ld (.r rfl) sc29 rfl (cell_own 8 rfl rfl) ?_))
 refine SL.bin (.r rfl) rfl rfl (Bin.eq32 (b:=0)) ?_
 refine SL.nx ?_
 refine SX.cond rfl (fun hc3=>?_) (fun hc3=>?_)
 replace h:=cT hc3 h
 refine SX.sr (SL.bld [] (.r rfl) pl31 pk31 ze31 trivial rfl (SL.st 7 ⟨rfl,rfl,rfl⟩ rfl rfl rfl sz31 rfl rfl rfl trivial (SL.asg (.r rfl) rfl (SL.nx (SX.ret (SQ.thnR (SQ.scpR ?_)))))))
 obtain rfl:=Option.some.inj h
 exact SQ.fret (resv2 rfl (resv.ag 7 (encRef (⟨0,[]⟩:RefA)) ag31 rfl rfl rfl rfl) rfl) (ret_of (M:=[_,_,_,_,_,_,_]) ⟨rfl,rfl⟩ fun _ hw=>HpOk.pick (H:=[_,_,_,_,_,_,_,_,_]) hw [0,5,6,1,2,3,4] 9 rfl)
 replace h:=cF hc3 h
 refine SX.skip (SQ.thn (SX.sr ?_))
 obtain ⟨y4,hy4,h⟩:=bnd h
 refine SL.mv (.r rfl) rfl (SL.ld (.r rfl) sc29 rfl (cell_own 8 rfl rfl) (SL.mv (.r rfl) rfl (SL.pick [0,5,6,1,2,3,4] 7 ?_)))
 refine SL.call (vs:=[_,_,_]) (Hin:=[_,_,_,_,_,_,_]) (Hr:=_::_::_) (.r rfl) rfl ⟨rfl,rfl,rfl,trivial⟩ cal46 rfl rfl (c_vv_seal hy4 hS) ?_
 rintro _ _ ⟨rfl,rfl⟩
 refine ⟨trivial,?_⟩
 refine SL.mv (.r rfl) rfl (SL.ext (.r rfl) rfl rfl (SL.ext (.r rfl) rfl rfl (SL.asg (.r rfl) rfl (SL.asg (.r rfl) rfl (SL.nx (SX.seq (SX.sr (SL.mv (.r rfl) rfl (SL.bin (.r rfl) rfl rfl Bin.neI (SL.nx ?_))))))))))
 refine SX.cond rfl (fun hc4=>?_) (fun hc4=>?_)
 replace h:=cT hc4 h
 refine SX.sr (SL.bld [] (.r rfl) pl31 pk31 ze31 trivial rfl (SL.mv (.r rfl) rfl (SL.st 7 ⟨rfl,rfl,rfl⟩ rfl rfl rfl sz31 rfl rfl rfl trivial (SL.asg (.r rfl) rfl (SL.nx (SX.ret (SQ.thnR (SQ.scpR ?_))))))))
 obtain rfl:=Option.some.inj h
 exact SQ.fret (resv2 rfl (resv.ag 7 (encRef (⟨0,[]⟩:RefA)) ag31 rfl rfl rfl rfl) rfl) (ret_of (M:=[_,_,_,_,_,_,_]) ⟨rfl,rfl⟩ fun _ hw=>HpOk.pick (H:=[_,_,_,_,_,_,_,_,_]) hw [0,1,2,3,4,5,6] 9 rfl)
 replace h:=cF hc4 h
 refine SX.skip (SQ.thn (SX.seq ?_))
 obtain ⟨l1,hl1,h⟩:=bnd h
 refine SX.drawI mix [0,8] (Pl.ap [(true,0),(true,1),(true,2),(true,3),(true,4)] (.last 5 .nil)) (by kernel_rfl) (SL.mv (.r rfl) rfl (SL.nchk (.r rfl) rfl (SL.fa (.r rfl) rfl fo96_5 (SL.ld (.r rfl) sc94 rfl (cell_own 0 rfl rfl) (SL.ld (.r rfl) sc29 rfl (cell_own 1 rfl rfl) (SL.last (SL.mupN 2 hl1 (MapE.u32B ty29) ⟨rfl,rfl,rfl⟩ ty94 rfl rfl rfl rfl trivial (SL.nx (SX.sr (SL.ld (.r rfl) sc29 rfl (cell_own 8 rfl rfl) ?_))))))))))
 refine SL.mv (.r rfl) rfl (SL.bld [_,_] (.r rfl) pl31 pk31 ze31 ⟨rfl,rfl,trivial⟩ rfl (SL.st 7 ⟨rfl,rfl,rfl⟩ rfl rfl rfl sz31 rfl rfl rfl trivial (SL.asg (.r rfl) rfl (SL.nx (SX.ret (SQ.scpR ?_))))))
 obtain rfl:=Option.some.inj h
 exact SQ.fret (resv2 rfl (resv.ag 7 (encRef (⟨y1,y4.1⟩:RefA)) ag31 rfl rfl rfl rfl) rfl) (ret_of (M:=[_,_,_,_,_,_,_]) ⟨rfl,rfl⟩ fun _ hw=>HpOk.pick (H:=[_,_,_,_,_,_,_,_,_]) hw [0,1,2,3,4,5,6] 9 rfl)


end Go.Proofs.YtkibffdipniemaaGreatDoor

/- Plain functions of the references and the laws, printed from the loaded program, and the walks that show that the program computes them. Condition: the plain function yields. -/
namespace Go.Proofs.YtkibffdipniemaaGreatDoor
open Go
variable {K:Nat→Prop} {w0:World} {H:List Chunk}

def f_l32_j2 (a3:UInt32) (a4:Int):Option Int:=
 (nthI ([0,1,2,2,3,3,3,3,4,4,4,4,4,4,4,4,5,5,5,5,5,5,5,5,5,5,5,5,5,5,5,5,6,6,6,6,6,6,6,6,6,6,6,6,6,6,6,6,6,6,6,6,6,6,6,6,6,6,6,6,6,6,6,6,7,7,7,7,7,7,7,7,7,7,7,7,7,7,7,7,7,7,7,7,7,7,7,7,7,7,7,7,7,7,7,7,7,7,7,7,7,7,7,7,7,7,7,7,7,7,7,7,7,7,7,7,7,7,7,7,7,7,7,7,7,7,7,7,8,8,8,8,8,8,8,8,8,8,8,8,8,8,8,8,8,8,8,8,8,8,8,8,8,8,8,8,8,8,8,8,8,8,8,8,8,8,8,8,8,8,8,8,8,8,8,8,8,8,8,8,8,8,8,8,8,8,8,8,8,8,8,8,8,8,8,8,8,8,8,8,8,8,8,8,8,8,8,8,8,8,8,8,8,8,8,8,8,8,8,8,8,8,8,8,8,8,8,8,8,8,8,8,8,8,8,8,8,8,8,8,8,8,8,8,8,8,8,8,8,8,8,8,8,8,8,8]:List UInt8) (a3.toUInt8.toNat:Int)).bind fun c1=>
 ret (wI (a4+(c1.toNat:Int))) fun x4=>
 some x4
def f_l32_j1 (a1:UInt32) (a2:Int):Option Int:=
 cond (decide (256≤a1))
 (
  ret (shr32 a1 8) fun x2=>
  ret (wI (a2+8)) fun x3=>
  f_l32_j2 x2 x3)
 (
  f_l32_j2 a1 a2)
def f_l32 (p0:UInt32):Option Int:=
 cond (decide (65536≤p0))
 (
  ret (shr32 p0 16) fun x1=>
  f_l32_j1 x1 16)
 (
  f_l32_j1 p0 0)
set_option maxRecDepth 100000 in
theorem c_l32 {p0:UInt32} {r:Int} (h:f_l32 p0=some r)  : Con Tryz.prog K w0 179 [vU32 p0] [] H (fun u M=>u=vI r∧M=[]):=by
 unfold f_l32 at h
 refine Con.enter Tryz.func179 rfl rfl ?_
 refine SX.sr (SL.asg (.r rfl) rfl (SL.nx ?_))
 refine SX.meetD (α:=UInt32×Int) (fun x=>f_l32_j1 x.1 x.2=some r) (fun x=>[(0,vU32 x.1),(2,vI x.2)]) (fun x=>H) ?_ (fun x D h=>?_)
 refine SX.sr (SL.mv (.r rfl) rfl ?_)
 refine SL.bin (.r rfl) rfl rfl (Bin.ge32 (b:=65536)) ?_
 refine SL.nx ?_
 refine SX.cond rfl (fun hc1=>?_) (fun hc1=>?_)
 replace h:=cT hc1 h
 refine SX.sr ?_
 obtain ⟨x1,ex1,h⟩:=retE h
 refine SL.mv (.r rfl) rfl ?_
 refine SL.bin (.r rfl) rfl rfl (Bin.shr32 (n:=16)) ?_
 refine SL.asgX (u:=vU32 x1) (.r rfl) rfl (congrArg vU32 ex1) ?_
 refine SL.nx (SX.region (SL.asg (.r rfl) rfl (SL.nil ?_)))
 exact SQ.midD (x1,16) h (by repeat' (first | exact trivial | refine And.intro rfl ?_)) (fun _ hw=>HpOk.pick (H:=[]) hw [] 0 rfl)
 replace h:=cF hc1 h
 refine SX.skip ?_
 exact SQ.midD (p0,0) h (by repeat' (first | exact trivial | refine And.intro rfl ?_)) (fun _ hw=>HpOk.pick (H:=[]) hw [] 0 rfl)
 obtain ⟨a1,a2⟩:=x
 dsimp only at h
 unfold f_l32_j1 at h
 refine SX.re [(0,vU32 a1),(2,vI a2)] (H) ?_ (by repeat' (first | exact trivial | refine And.intro rfl ?_))
 refine SX.meetD (α:=UInt32×Int) (fun x=>f_l32_j2 x.1 x.2=some r) (fun x=>[(0,vU32 x.1),(2,vI x.2)]) (fun x=>H) ?_ (fun x D h=>?_)
 refine SX.sr (SL.mv (.r rfl) rfl ?_)
 refine SL.bin (.r rfl) rfl rfl (Bin.ge32 (b:=256)) ?_
 refine SL.nx ?_
 refine SX.cond rfl (fun hc2=>?_) (fun hc2=>?_)
 replace h:=cT hc2 h
 refine SX.sr ?_
 obtain ⟨x2,ex2,h⟩:=retE h
 refine SL.mv (.r rfl) rfl ?_
 refine SL.bin (.r rfl) rfl rfl (Bin.shr32 (n:=8)) ?_
 refine SL.asgX (u:=vU32 x2) (.r rfl) rfl (congrArg vU32 ex2) ?_
 refine SL.nx (SX.region ?_)
 obtain ⟨x3,ex3,h⟩:=retE h
 refine SL.mv (.r rfl) rfl (SL.bin (.r rfl) rfl rfl Bin.addW ?_)
 refine SL.asgX (u:=vI x3) (.r rfl) rfl (congrArg vI ex3) ?_
 refine SL.nil ?_
 exact SQ.midD (x2,x3) h (by repeat' (first | exact trivial | refine And.intro rfl ?_)) (fun _ hw=>HpOk.pick (H:=[]) hw [] 0 rfl)
 replace h:=cF hc2 h
 refine SX.skip ?_
 exact SQ.midD (a1,a2) h (by repeat' (first | exact trivial | refine And.intro rfl ?_)) (fun _ hw=>HpOk.pick (H:=[]) hw [] 0 rfl)
 obtain ⟨a3,a4⟩:=x
 dsimp only at h
 unfold f_l32_j2 at h
 refine SX.re [(0,vU32 a3),(2,vI a4)] (H) ?_ (by repeat' (first | exact trivial | refine And.intro rfl ?_))
 refine SX.sr ?_
 obtain ⟨c1,hc1,h⟩:=bnd h
 obtain ⟨x4,ex4,h⟩:=retE h
 refine SL.mv (.r rfl) rfl (SL.mv (.r rfl) rfl (SL.cv (.r rfl) rfl (Cv.u32_8 ty29 ty5) (SL.ixN hc1 (.r rfl) ty9 rfl rfl (SL.cv (.r rfl) rfl (Cv.u8_I ty5 ty3) (SL.bin (.r rfl) rfl rfl Bin.addW ?_)))))
 refine SL.asgX (u:=vI x4) (.r rfl) rfl (congrArg vI ex4) ?_
 refine SL.nx (SX.ret ?_)
 obtain rfl:=Option.some.inj h
 exact SQ.fret (res1 rfl rfl) (ret_of (M:=[]) ⟨rfl,rfl⟩ fun _ hw=>HpOk.pick (H:=[]) hw [] 0 rfl)

def f_cell_size (p0:CellA):Option UInt64:=
 (shN p0.lev).bind fun n1=>
 ret (shl64 1 n1) fun x1=>
 some x1
set_option maxRecDepth 100000 in
theorem c_cell_size {p0:CellA} {r:UInt64} (h:f_cell_size p0=some r)  : Con Tryz.prog K w0 182 [.agg (encCell p0).toArray] [] H (fun u M=>u=vU64 r∧M=[]):=by
 unfold f_cell_size at h
 refine Con.enter Tryz.func182 rfl rfl ?_
 refine SX.sr ?_
 refine SL.box (.r rfl) rfl (fun _=>trivial) fun b1=>?_
 refine SL.asg (.r rfl) rfl (SL.nx (SX.sr ?_))
 obtain ⟨n1,hn1,h⟩:=bnd h
 obtain ⟨x1,ex1,h⟩:=retE h
 refine SL.fa (.r rfl) rfl fo54_2 (SL.ld (.r rfl) sc3 rfl (cell_own 0 rfl rfl) ?_)
 refine SL.bin (.r rfl) rfl rfl (Bin.shl64O (a:=1) hn1) ?_
 refine SL.asgX (u:=vU64 x1) (.r rfl) rfl (congrArg vU64 ex1) ?_
 refine SL.nx (SX.ret ?_)
 obtain rfl:=Option.some.inj h
 exact SQ.fret (res1 rfl rfl) (ret_of (M:=[]) ⟨rfl,rfl⟩ fun _ hw=>HpOk.pick (H:=[_]) hw [] 1 rfl)

def f_cell_Right (p0:CellA):Option Bool:=
 cond ((decide (p0.lev<0))||(decide (31<p0.lev)))
 (
  some false)
 (
  (f_cell_size p0).bind fun y1=>
  ret ((y1-1).toUInt32) fun low_1=>
  ret ((decide ((p0.x ||| p0.y) &&& low_1=0))&&(decide (max p0.x p0.y<2147483648))) fun x1=>
  some x1)
set_option maxRecDepth 100000 in
theorem c_cell_Right {p0:CellA} {r:Bool} (h:f_cell_Right p0=some r)  : Con Tryz.prog K w0 168 [.agg (encCell p0).toArray] [] H (fun u M=>u=vB r∧M=[]):=by
 unfold f_cell_Right at h
 refine Con.enter Tryz.func168 rfl rfl ?_
 refine SX.sr ?_
 refine SL.box (.r rfl) rfl (fun _=>trivial) fun b1=>?_
 refine SL.asg (.r rfl) rfl (SL.nx (SX.seq (SX.sr (SL.fa (.r rfl) rfl fo54_2 (SL.ld (.r rfl) sc3 rfl (cell_own 0 rfl rfl) (SL.bin (.r rfl) rfl rfl Bin.ltI (SL.mv (.r rfl) rfl ?_)))))))
 refine SL.or (c:=decide (31<p0.lev)) 7 4 11 rfl (fun hb k=>?_) (fun hb k=>?_) ?_
 refine SL.pass rfl rfl rfl (SL.pass rfl rfl rfl (SL.pass rfl rfl rfl (SL.pk (.r rfl) rfl rfl ?_)))
 exact k.mono (by repeat' (first | exact trivial | refine And.intro rfl ?_))
 refine SL.fa (.r rfl) rfl fo54_2 (SL.ld (.r rfl) sc3 rfl (cell_own 0 rfl rfl) (SL.bin (.r rfl) rfl rfl Bin.gtI (SL.pk (.r rfl) rfl rfl ?_)))
 exact k.mono (by repeat' (first | exact trivial | refine And.intro rfl ?_))
 refine SL.nx ?_
 refine SX.cond rfl (fun hc1=>?_) (fun hc1=>?_)
 replace h:=cT hc1 h
 refine SX.sr (SL.asg (.r rfl) rfl (SL.nx (SX.ret (SQ.thnR ?_))))
 obtain rfl:=Option.some.inj h
 exact SQ.fret (res1 rfl rfl) (ret_of (M:=[]) ⟨rfl,rfl⟩ fun _ hw=>HpOk.pick (H:=[_]) hw [] 1 rfl)
 replace h:=cF hc1 h
 refine SX.skip (SQ.thn (SX.sr ?_))
 obtain ⟨y1,hy1,h⟩:=bnd h
 obtain ⟨low_1,elow_1,h⟩:=retE h
 refine SL.ldA [vU32 p0.x,vU32 p0.y,vI p0.lev] (.r rfl) ag54 rfl rfl (cells_all 0 rfl) ?_
 refine SL.call (vs:=[_]) (Hin:=[]) (Hr:=_::_) (.r rfl) rfl ⟨rfl,trivial⟩ cal182 rfl rfl ((c_cell_size hy1 :)) ?_
 rintro _ _ ⟨rfl,rfl⟩
 refine ⟨trivial,?_⟩
 refine SL.bin (.r rfl) rfl rfl (Bin.sub64 (b:=1)) ?_
 refine SL.cv (.r rfl) rfl (Cv.u64_32 ty48 ty29) ?_
 refine SL.asgX (u:=vU32 low_1) (.r rfl) rfl (congrArg vU32 elow_1) ?_
 refine SL.nx (SX.sr ?_)
 obtain ⟨x1,ex1,h⟩:=retE h
 refine SL.fa (.r rfl) rfl fo54_0 (SL.ld (.r rfl) sc29 rfl (cell_own 0 rfl rfl) (SL.fa (.r rfl) rfl fo54_1 (SL.ld (.r rfl) sc29 rfl (cell_own 0 rfl rfl) (SL.bin (.r rfl) rfl rfl Bin.or32 (SL.mv (.r rfl) rfl (SL.bin (.r rfl) rfl rfl Bin.and32 ?_))))))
 refine SL.bin (.r rfl) rfl rfl (Bin.eq32 (b:=0)) ?_
 refine SL.mv (.r rfl) rfl ?_
 refine SL.and (c:=decide (max p0.x p0.y<2147483648)) 24 7 31 rfl (fun hb k=>?_) (fun hb k=>?_) ?_
 refine SL.fa (.r rfl) rfl fo54_0 (SL.ld (.r rfl) sc29 rfl (cell_own 0 rfl rfl) (SL.fa (.r rfl) rfl fo54_1 (SL.ld (.r rfl) sc29 rfl (cell_own 0 rfl rfl) (SL.max32 (.r rfl) rfl rfl ?_))))
 refine SL.bin (.r rfl) rfl rfl (Bin.lt32 (b:=2147483648)) ?_
 refine SL.pk (.r rfl) rfl rfl ?_
 exact k.mono (by repeat' (first | exact trivial | refine And.intro rfl ?_))
 refine SL.pass rfl rfl rfl (SL.pass rfl rfl rfl (SL.pass rfl rfl rfl (SL.pass rfl rfl rfl (SL.pass rfl rfl rfl (SL.pass rfl rfl rfl (SL.pk (.r rfl) rfl rfl ?_))))))
 exact k.mono (by repeat' (first | exact trivial | refine And.intro rfl ?_))
 refine SL.asgX (u:=vB x1) (.r rfl) rfl (congrArg vB ex1) ?_
 refine SL.nx (SX.ret ?_)
 obtain rfl:=Option.some.inj h
 exact SQ.fret (res1 rfl rfl) (ret_of (M:=[]) ⟨rfl,rfl⟩ fun _ hw=>HpOk.pick (H:=[_]) hw [] 1 rfl)

def f_cell_RightBox (p0:BoxA):Option Bool:=
 ret (((decide (p0.x0≤p0.x1))&&(decide (p0.y0≤p0.y1)))&&(decide (max p0.x1 p0.y1<2147483648))) fun x1=>
 some x1
set_option maxRecDepth 100000 in
theorem c_cell_RightBox {p0:BoxA} {r:Bool} (h:f_cell_RightBox p0=some r)  : Con Tryz.prog K w0 210 [.agg (encBox p0).toArray] [] H (fun u M=>u=vB r∧M=[]):=by
 unfold f_cell_RightBox at h
 refine Con.enter Tryz.func210 rfl rfl ?_
 refine SX.sr ?_
 refine SL.box (.r rfl) rfl (fun _=>trivial) fun b1=>?_
 refine SL.asg (.r rfl) rfl (SL.nx (SX.sr ?_))
 obtain ⟨x1,ex1,h⟩:=retE h
 refine SL.fa (.r rfl) rfl fo255_0 (SL.ld (.r rfl) sc29 rfl (cell_own 0 rfl rfl) (SL.fa (.r rfl) rfl fo255_2 (SL.ld (.r rfl) sc29 rfl (cell_own 0 rfl rfl) (SL.bin (.r rfl) rfl rfl Bin.le32 (SL.mv (.r rfl) rfl ?_)))))
 refine SL.and (c:=decide (p0.y0≤p0.y1)) 8 6 14 rfl (fun hb k=>?_) (fun hb k=>?_) ?_
 refine SL.fa (.r rfl) rfl fo255_1 (SL.ld (.r rfl) sc29 rfl (cell_own 0 rfl rfl) (SL.fa (.r rfl) rfl fo255_3 (SL.ld (.r rfl) sc29 rfl (cell_own 0 rfl rfl) (SL.bin (.r rfl) rfl rfl Bin.le32 (SL.pk (.r rfl) rfl rfl ?_)))))
 exact k.mono (by repeat' (first | exact trivial | refine And.intro rfl ?_))
 refine SL.pass rfl rfl rfl (SL.pass rfl rfl rfl (SL.pass rfl rfl rfl (SL.pass rfl rfl rfl (SL.pass rfl rfl rfl (SL.pk (.r rfl) rfl rfl ?_)))))
 exact k.mono (by repeat' (first | exact trivial | refine And.intro rfl ?_))
 refine SL.mv (.r rfl) rfl ?_
 refine SL.and (c:=decide (max p0.x1 p0.y1<2147483648)) 15 7 22 rfl (fun hb k=>?_) (fun hb k=>?_) ?_
 refine SL.fa (.r rfl) rfl fo255_2 (SL.ld (.r rfl) sc29 rfl (cell_own 0 rfl rfl) (SL.fa (.r rfl) rfl fo255_3 (SL.ld (.r rfl) sc29 rfl (cell_own 0 rfl rfl) (SL.max32 (.r rfl) rfl rfl ?_))))
 refine SL.bin (.r rfl) rfl rfl (Bin.lt32 (b:=2147483648)) ?_
 refine SL.pk (.r rfl) rfl rfl ?_
 exact k.mono (by repeat' (first | exact trivial | refine And.intro rfl ?_))
 refine SL.pass rfl rfl rfl (SL.pass rfl rfl rfl (SL.pass rfl rfl rfl (SL.pass rfl rfl rfl (SL.pass rfl rfl rfl (SL.pass rfl rfl rfl (SL.pk (.r rfl) rfl rfl ?_))))))
 exact k.mono (by repeat' (first | exact trivial | refine And.intro rfl ?_))
 refine SL.asgX (u:=vB x1) (.r rfl) rfl (congrArg vB ex1) ?_
 refine SL.nx (SX.ret ?_)
 obtain rfl:=Option.some.inj h
 exact SQ.fret (res1 rfl rfl) (ret_of (M:=[]) ⟨rfl,rfl⟩ fun _ hw=>HpOk.pick (H:=[_]) hw [] 1 rfl)

def f_cell_all (p0:CellA):Option BoxA:=
 (f_cell_size p0).bind fun y1=>
 ret ((y1-1).toUInt32) fun far_1=>
 some (⟨p0.x,p0.y,p0.x+far_1,p0.y+far_1⟩:BoxA)
set_option maxRecDepth 100000 in
theorem c_cell_all {p0:CellA} {r:BoxA} (h:f_cell_all p0=some r)  : Con Tryz.prog K w0 184 [.agg (encCell p0).toArray] [] H (fun u M=>u=.agg (encBox r).toArray∧M=[]):=by
 unfold f_cell_all at h
 refine Con.enter Tryz.func184 rfl rfl ?_
 refine SX.sr ?_
 refine SL.box (.r rfl) rfl (fun _=>trivial) fun b1=>?_
 refine SL.alloc (.r rfl) ze255 (fun _=>trivial) fun b2=>?_
 refine SL.nx (SX.sr ?_)
 obtain ⟨y1,hy1,h⟩:=bnd h
 obtain ⟨far_1,efar_1,h⟩:=retE h
 refine SL.ldA [vU32 p0.x,vU32 p0.y,vI p0.lev] (.r rfl) ag54 rfl rfl (cells_all 1 rfl) ?_
 refine SL.call (vs:=[_]) (Hin:=[]) (Hr:=_::_::_) (.r rfl) rfl ⟨rfl,trivial⟩ cal182 rfl rfl ((c_cell_size hy1 :)) ?_
 rintro _ _ ⟨rfl,rfl⟩
 refine ⟨trivial,?_⟩
 refine SL.bin (.r rfl) rfl rfl (Bin.sub64 (b:=1)) ?_
 refine SL.cv (.r rfl) rfl (Cv.u64_32 ty48 ty29) ?_
 refine SL.asgX (u:=vU32 far_1) (.r rfl) rfl (congrArg vU32 efar_1) ?_
 refine SL.nx (SX.sr (SL.fa (.r rfl) rfl fo54_0 (SL.ld (.r rfl) sc29 rfl (cell_own 1 rfl rfl) (SL.fa (.r rfl) rfl fo54_1 (SL.ld (.r rfl) sc29 rfl (cell_own 1 rfl rfl) (SL.fa (.r rfl) rfl fo54_0 (SL.ld (.r rfl) sc29 rfl (cell_own 1 rfl rfl) (SL.mv (.r rfl) rfl (SL.bin (.r rfl) rfl rfl Bin.add32 ?_)))))))))
 refine SL.fa (.r rfl) rfl fo54_1 (SL.ld (.r rfl) sc29 rfl (cell_own 1 rfl rfl) (SL.mv (.r rfl) rfl (SL.bin (.r rfl) rfl rfl Bin.add32 (SL.bld [_,_,_,_] (.r rfl) pl255 pk255 ze255 ⟨rfl,rfl,rfl,rfl,trivial⟩ rfl (SL.st 0 ⟨rfl,rfl,rfl⟩ rfl rfl rfl sz255 rfl rfl rfl trivial (SL.nx (SX.ret ?_)))))))
 obtain rfl:=Option.some.inj h
 exact SQ.fret (resv1 rfl (resv.ag 0 (encBox (⟨p0.x,p0.y,p0.x+far_1,p0.y+far_1⟩:BoxA)) ag255 rfl rfl rfl rfl)) (ret_of (M:=[]) ⟨rfl,rfl⟩ fun _ hw=>HpOk.pick (H:=[_,_]) hw [] 2 rfl)

def f_cell_In (p0:BoxA) (p1:UInt32) (p2:UInt32):Option Bool:=
 (f_cell_RightBox p0).bind fun y1=>
 ret ((((y1&&(decide (p0.x0≤p1)))&&(decide (p1≤p0.x1)))&&(decide (p0.y0≤p2)))&&(decide (p2≤p0.y1))) fun x1=>
 some x1
set_option maxRecDepth 100000 in
theorem c_cell_In {p0:BoxA} {p1:UInt32} {p2:UInt32} {r:Bool} (h:f_cell_In p0 p1 p2=some r)  : Con Tryz.prog K w0 183 [.agg (encBox p0).toArray,vU32 p1,vU32 p2] [] H (fun u M=>u=vB r∧M=[]):=by
 unfold f_cell_In at h
 refine Con.enter Tryz.func183 rfl rfl ?_
 refine SX.sr ?_
 refine SL.box (.r rfl) rfl (fun _=>trivial) fun b1=>?_
 refine SL.asg (.r rfl) rfl (SL.nx (SX.sr ?_))
 obtain ⟨y1,hy1,h⟩:=bnd h
 obtain ⟨x1,ex1,h⟩:=retE h
 refine SL.ldA [vU32 p0.x0,vU32 p0.y0,vU32 p0.x1,vU32 p0.y1] (.r rfl) ag255 rfl rfl (cells_all 0 rfl) ?_
 refine SL.call (vs:=[_]) (Hin:=[]) (Hr:=_::_) (.r rfl) rfl ⟨rfl,trivial⟩ cal210 rfl rfl ((c_cell_RightBox hy1 :)) ?_
 rintro _ _ ⟨rfl,rfl⟩
 refine ⟨trivial,?_⟩
 refine SL.mv (.r rfl) rfl ?_
 refine SL.and (c:=decide (p0.x0≤p1)) 9 5 14 rfl (fun hb k=>?_) (fun hb k=>?_) ?_
 refine SL.mv (.r rfl) rfl (SL.fa (.r rfl) rfl fo255_0 (SL.ld (.r rfl) sc29 rfl (cell_own 0 rfl rfl) (SL.bin (.r rfl) rfl rfl Bin.ge32 (SL.pk (.r rfl) rfl rfl ?_))))
 exact k.mono (by repeat' (first | exact trivial | refine And.intro rfl ?_))
 refine SL.pass rfl rfl rfl (SL.pass rfl rfl rfl (SL.pass rfl rfl rfl (SL.pass rfl rfl rfl (SL.pk (.r rfl) rfl rfl ?_))))
 exact k.mono (by repeat' (first | exact trivial | refine And.intro rfl ?_))
 refine SL.mv (.r rfl) rfl ?_
 refine SL.and (c:=decide (p1≤p0.x1)) 15 5 20 rfl (fun hb k=>?_) (fun hb k=>?_) ?_
 refine SL.mv (.r rfl) rfl (SL.fa (.r rfl) rfl fo255_2 (SL.ld (.r rfl) sc29 rfl (cell_own 0 rfl rfl) (SL.bin (.r rfl) rfl rfl Bin.le32 (SL.pk (.r rfl) rfl rfl ?_))))
 exact k.mono (by repeat' (first | exact trivial | refine And.intro rfl ?_))
 refine SL.pass rfl rfl rfl (SL.pass rfl rfl rfl (SL.pass rfl rfl rfl (SL.pass rfl rfl rfl (SL.pk (.r rfl) rfl rfl ?_))))
 exact k.mono (by repeat' (first | exact trivial | refine And.intro rfl ?_))
 refine SL.mv (.r rfl) rfl ?_
 refine SL.and (c:=decide (p0.y0≤p2)) 21 5 26 rfl (fun hb k=>?_) (fun hb k=>?_) ?_
 refine SL.mv (.r rfl) rfl (SL.fa (.r rfl) rfl fo255_1 (SL.ld (.r rfl) sc29 rfl (cell_own 0 rfl rfl) (SL.bin (.r rfl) rfl rfl Bin.ge32 (SL.pk (.r rfl) rfl rfl ?_))))
 exact k.mono (by repeat' (first | exact trivial | refine And.intro rfl ?_))
 refine SL.pass rfl rfl rfl (SL.pass rfl rfl rfl (SL.pass rfl rfl rfl (SL.pass rfl rfl rfl (SL.pk (.r rfl) rfl rfl ?_))))
 exact k.mono (by repeat' (first | exact trivial | refine And.intro rfl ?_))
 refine SL.mv (.r rfl) rfl ?_
 refine SL.and (c:=decide (p2≤p0.y1)) 27 5 32 rfl (fun hb k=>?_) (fun hb k=>?_) ?_
 refine SL.mv (.r rfl) rfl (SL.fa (.r rfl) rfl fo255_3 (SL.ld (.r rfl) sc29 rfl (cell_own 0 rfl rfl) (SL.bin (.r rfl) rfl rfl Bin.le32 (SL.pk (.r rfl) rfl rfl ?_))))
 exact k.mono (by repeat' (first | exact trivial | refine And.intro rfl ?_))
 refine SL.pass rfl rfl rfl (SL.pass rfl rfl rfl (SL.pass rfl rfl rfl (SL.pass rfl rfl rfl (SL.pk (.r rfl) rfl rfl ?_))))
 exact k.mono (by repeat' (first | exact trivial | refine And.intro rfl ?_))
 refine SL.asgX (u:=vB x1) (.r rfl) rfl (congrArg vB ex1) ?_
 refine SL.nx (SX.ret ?_)
 obtain rfl:=Option.some.inj h
 exact SQ.fret (res1 rfl rfl) (ret_of (M:=[]) ⟨rfl,rfl⟩ fun _ hw=>HpOk.pick (H:=[_]) hw [] 1 rfl)

def f_cell_Has (p0:CellA) (p1:UInt32) (p2:UInt32):Option Bool:=
 (f_cell_Right p0).bind fun y1=>
 (andO y1 ((f_cell_all p0).bind fun y2=>(f_cell_In y2 p1 p2).bind fun y3=>some (y3))).bind fun y4=>
 some y4
set_option maxRecDepth 100000 in
theorem c_cell_Has {p0:CellA} {p1:UInt32} {p2:UInt32} {r:Bool} (h:f_cell_Has p0 p1 p2=some r)  : Con Tryz.prog K w0 138 [.agg (encCell p0).toArray,vU32 p1,vU32 p2] [] H (fun u M=>u=vB r∧M=[]):=by
 unfold f_cell_Has at h
 refine Con.enter Tryz.func138 rfl rfl ?_
 refine SX.sr ?_
 refine SL.box (.r rfl) rfl (fun _=>trivial) fun b1=>?_
 refine SL.asg (.r rfl) rfl (SL.nx (SX.sr ?_))
 obtain ⟨y1,hy1,h⟩:=bnd h
 obtain ⟨y4,hy4,h⟩:=bnd h
 refine SL.ldA [vU32 p0.x,vU32 p0.y,vI p0.lev] (.r rfl) ag54 rfl rfl (cells_all 0 rfl) ?_
 refine SL.call (vs:=[_]) (Hin:=[]) (Hr:=_::_) (.r rfl) rfl ⟨rfl,trivial⟩ cal168 rfl rfl ((c_cell_Right hy1 :)) ?_
 rintro _ _ ⟨rfl,rfl⟩
 refine ⟨trivial,?_⟩
 refine SL.mv (.r rfl) rfl ?_
 refine SL.andN 9 6 15 hy4 rfl (fun hb hg1 k=>?_) (fun hb k=>?_) ?_
 obtain ⟨y2,hy2,hg1⟩:=bnd hg1
 obtain ⟨y3,hy3,hg1⟩:=bnd hg1
 obtain rfl:=Option.some.inj hg1
 refine SL.ldA [vU32 p0.x,vU32 p0.y,vI p0.lev] (.r rfl) ag54 rfl rfl (cells_all 0 rfl) ?_
 refine SL.call (vs:=[_]) (Hin:=[]) (Hr:=_::_) (.r rfl) rfl ⟨rfl,trivial⟩ cal184 rfl rfl ((c_cell_all hy2 :)) ?_
 rintro _ _ ⟨rfl,rfl⟩
 refine ⟨trivial,?_⟩
 refine SL.mv (.r rfl) rfl (SL.mv (.r rfl) rfl ?_)
 refine SL.call (vs:=[_,_,_]) (Hin:=[]) (Hr:=_::_) (.r rfl) rfl ⟨rfl,rfl,rfl,trivial⟩ cal183 rfl rfl ((c_cell_In hy3 :)) ?_
 rintro _ _ ⟨rfl,rfl⟩
 refine ⟨trivial,?_⟩
 refine SL.pk (.r rfl) rfl rfl ?_
 exact k.mono (by repeat' (first | exact trivial | refine And.intro rfl ?_))
 refine SL.pass rfl rfl rfl (SL.pass rfl rfl rfl (SL.pass rfl rfl rfl (SL.pass rfl rfl rfl (SL.pass rfl rfl rfl (SL.pk (.r rfl) rfl rfl ?_)))))
 exact k.mono (by repeat' (first | exact trivial | refine And.intro rfl ?_))
 refine SL.asg (.r rfl) rfl (SL.nx (SX.ret ?_))
 obtain rfl:=Option.some.inj h
 exact SQ.fret (res1 rfl rfl) (ret_of (M:=[]) ⟨rfl,rfl⟩ fun _ hw=>HpOk.pick (H:=[_]) hw [] 1 rfl)

def f_cell_around (p0:UInt32) (p1:UInt32) (p2:Int):Option CellA:=
 (shN p2).bind fun n1=>
 ret ((shl32 1 n1)-1) fun low_1=>
 some (⟨p0 &&& Complement.complement low_1,p1 &&& Complement.complement low_1,p2⟩:CellA)
set_option maxRecDepth 100000 in
theorem c_cell_around {p0:UInt32} {p1:UInt32} {p2:Int} {r:CellA} (h:f_cell_around p0 p1 p2=some r)  : Con Tryz.prog K w0 180 [vU32 p0,vU32 p1,vI p2] [] H (fun u M=>u=.agg (encCell r).toArray∧M=[]):=by
 unfold f_cell_around at h
 refine Con.enter Tryz.func180 rfl rfl ?_
 refine SX.sr ?_
 refine SL.alloc (.r rfl) ze54 (fun _=>trivial) fun b1=>?_
 refine SL.nx (SX.sr ?_)
 obtain ⟨n1,hn1,h⟩:=bnd h
 obtain ⟨low_1,elow_1,h⟩:=retE h
 refine SL.mv (.r rfl) rfl ?_
 refine SL.bin (.r rfl) rfl rfl (Bin.shl32O (a:=1) hn1) ?_
 refine SL.bin (.r rfl) rfl rfl (Bin.sub32 (b:=1)) ?_
 refine SL.asgX (u:=vU32 low_1) (.r rfl) rfl (congrArg vU32 elow_1) ?_
 refine SL.nx (SX.sr (SL.mv (.r rfl) rfl (SL.mv (.r rfl) rfl (SL.bin (.r rfl) rfl rfl Bin.andNot32 (SL.mv (.r rfl) rfl (SL.mv (.r rfl) rfl (SL.bin (.r rfl) rfl rfl Bin.andNot32 (SL.mv (.r rfl) rfl (SL.bld [_,_,_] (.r rfl) pl54 pk54 ze54 ⟨rfl,rfl,rfl,trivial⟩ rfl ?_)))))))))
 refine SL.st 0 ⟨rfl,rfl,rfl⟩ rfl rfl rfl sz54 rfl rfl rfl trivial (SL.nx (SX.ret ?_))
 obtain rfl:=Option.some.inj h
 exact SQ.fret (resv1 rfl (resv.ag 0 (encCell (⟨p0 &&& Complement.complement low_1,p1 &&& Complement.complement low_1,p2⟩:CellA)) ag54 rfl rfl rfl rfl)) (ret_of (M:=[]) ⟨rfl,rfl⟩ fun _ hw=>HpOk.pick (H:=[_]) hw [] 1 rfl)

def f_cell_Least (p0:UInt32) (p1:UInt32) (p2:UInt32) (p3:UInt32):Option (CellA×Int):=
 cond (decide (2147483648≤max (max (max p0 p1) p2) p3))
 (
  some ((⟨0,0,0⟩:CellA),2))
 (
  (f_l32 ((p0 ^^^ p2) ||| (p1 ^^^ p3))).bind fun y1=>
  (f_cell_around p0 p1 y1).bind fun y2=>
  (f_cell_around p2 p3 y1).bind fun y3=>
  cond (!(decide (y2.x=y3.x)&&(decide (y2.y=y3.y)&&(decide (y2.lev=y3.lev)&&true))))
  (
   some ((⟨0,0,0⟩:CellA),2))
  (
   some (y2,0)))
set_option maxRecDepth 100000 in
theorem c_cell_Least {p0:UInt32} {p1:UInt32} {p2:UInt32} {p3:UInt32} {r:CellA×Int} (h:f_cell_Least p0 p1 p2 p3=some r)  : Con Tryz.prog K w0 136 [vU32 p0,vU32 p1,vU32 p2,vU32 p3] [] H (fun u M=>u=.tuple #[.agg (encCell r.1).toArray,vI r.2]∧M=[]):=by
 unfold f_cell_Least at h
 refine Con.enter Tryz.func136 rfl rfl ?_
 refine SX.sr ?_
 refine SL.alloc (.r rfl) ze54 (fun _=>trivial) fun b1=>?_
 refine SL.asg (.r rfl) rfl (SL.nx (SX.seq (SX.sr (SL.mv (.r rfl) rfl (SL.mv (.r rfl) rfl (SL.mv (.r rfl) rfl (SL.mv (.r rfl) rfl (SL.max32x4 (.r rfl) rfl rfl rfl rfl ?_))))))))
 refine SL.bin (.r rfl) rfl rfl (Bin.ge32 (b:=2147483648)) ?_
 refine SL.nx ?_
 refine SX.cond rfl (fun hc1=>?_) (fun hc1=>?_)
 replace h:=cT hc1 h
 refine SX.sr (SL.bld [] (.r rfl) pl54 pk54 ze54 trivial rfl (SL.st 0 ⟨rfl,rfl,rfl⟩ rfl rfl rfl sz54 rfl rfl rfl trivial (SL.asg (.r rfl) rfl (SL.nx (SX.ret (SQ.thnR ?_))))))
 obtain rfl:=Option.some.inj h
 exact SQ.fret (resv2 rfl (resv.ag 0 (encCell (⟨0,0,0⟩:CellA)) ag54 rfl rfl rfl rfl) rfl) (ret_of (M:=[]) ⟨rfl,rfl⟩ fun _ hw=>HpOk.pick (H:=[_]) hw [] 1 rfl)
 replace h:=cF hc1 h
 refine SX.skip (SQ.thn (SX.sr ?_))
 obtain ⟨y1,hy1,h⟩:=bnd h
 refine SL.mv (.r rfl) rfl (SL.mv (.r rfl) rfl (SL.bin (.r rfl) rfl rfl Bin.xor32 (SL.mv (.r rfl) rfl (SL.mv (.r rfl) rfl (SL.bin (.r rfl) rfl rfl Bin.xor32 (SL.bin (.r rfl) rfl rfl Bin.or32 ?_))))))
 refine SL.call (vs:=[_]) (Hin:=[]) (Hr:=_::_) (.r rfl) rfl ⟨rfl,trivial⟩ cal179 rfl rfl (c_l32 hy1) ?_
 rintro _ _ ⟨rfl,rfl⟩
 refine ⟨trivial,?_⟩
 refine SL.asg (.r rfl) rfl (SL.nx (SX.sr ?_))
 obtain ⟨y2,hy2,h⟩:=bnd h
 refine SL.mv (.r rfl) rfl (SL.mv (.r rfl) rfl (SL.mv (.r rfl) rfl ?_))
 refine SL.call (vs:=[_,_,_]) (Hin:=[]) (Hr:=_::_) (.r rfl) rfl ⟨rfl,rfl,rfl,trivial⟩ cal180 rfl rfl (c_cell_around hy2) ?_
 rintro _ _ ⟨rfl,rfl⟩
 refine ⟨trivial,?_⟩
 refine SL.alloc (.r rfl) ze54 (fun _=>trivial) fun b2=>?_
 refine SL.st 0 ⟨rfl,rfl,rfl⟩ rfl rfl rfl sz54 rfl rfl rfl trivial (SL.nx (SX.seq (SX.seq ?_)))
 obtain ⟨y3,hy3,h⟩:=bnd h
 refine SX.drawI mix [0] (Pl.ap [(true,0),(true,1),(true,2),(true,3),(false,4)] (.last 5 .nil)) (by kernel_rfl) (SL.ldA [vU32 y2.x,vU32 y2.y,vI y2.lev] (.r rfl) ag54 rfl rfl (cells_all 0 rfl) (SL.mv (.r rfl) rfl (SL.mv (.r rfl) rfl (SL.mv (.r rfl) rfl ?_))))
 refine SL.call (vs:=[_,_,_]) (Hin:=[]) (Hr:=_::_::_) (.r rfl) rfl ⟨rfl,rfl,rfl,trivial⟩ cal180 rfl rfl (c_cell_around hy3) ?_
 rintro _ _ ⟨rfl,rfl⟩
 refine ⟨⟨⟨0,rfl⟩,trivial⟩,?_⟩
 refine SL.last ?_
 refine SL.neAgg (.r rfl) fl54 rfl rfl (flatE_cons rfl rfl (eqV_32 (a:=y2.x) (b:=y3.x)) (flatE_cons rfl rfl (eqV_32 (a:=y2.y) (b:=y3.y)) (flatE_cons rfl rfl (eqV_I (a:=y2.lev) (b:=y3.lev)) flatE_nil))) ?_
 refine SL.nx ?_
 refine SX.cond rfl (fun hc2=>?_) (fun hc2=>?_)
 replace h:=cT hc2 h
 refine SX.sr (SL.bld [] (.r rfl) pl54 pk54 ze54 trivial rfl (SL.st 1 ⟨rfl,rfl,rfl⟩ rfl rfl rfl sz54 rfl rfl rfl trivial (SL.asg (.r rfl) rfl (SL.nx (SX.ret (SQ.thnR ?_))))))
 obtain rfl:=Option.some.inj h
 exact SQ.fret (resv2 rfl (resv.ag 1 (encCell (⟨0,0,0⟩:CellA)) ag54 rfl rfl rfl rfl) rfl) (ret_of (M:=[]) ⟨rfl,rfl⟩ fun _ hw=>HpOk.pick (H:=[_,_]) hw [] 2 rfl)
 replace h:=cF hc2 h
 refine SX.skip (SQ.thn (SX.sr (SL.ldA [vU32 y2.x,vU32 y2.y,vI y2.lev] (.r rfl) ag54 rfl rfl (cells_all 0 rfl) (SL.st 1 ⟨rfl,rfl,rfl⟩ rfl rfl rfl sz54 rfl rfl rfl trivial (SL.asg (.r rfl) rfl (SL.nx (SX.ret ?_)))))))
 obtain rfl:=Option.some.inj h
 exact SQ.fret (resv2 rfl (resv.ag 1 (encCell y2) ag54 rfl rfl rfl rfl) rfl) (ret_of (M:=[]) ⟨rfl,rfl⟩ fun _ hw=>HpOk.pick (H:=[_,_]) hw [] 2 rfl)

def f_quad_RightRow (p0:RowA):Option Bool:=
 ret ((decide (max p0.x p0.y<2147483648))&&(decide ((p0.txt.length:Int)≤16))) fun x1=>
 some x1
set_option maxRecDepth 100000 in
theorem c_quad_RightRow {p0:RowA} {r:Bool} (h:f_quad_RightRow p0=some r)  : Con Tryz.prog K w0 60 [.agg (encRow p0).toArray] [] H (fun u M=>u=vB r∧M=[]):=by
 unfold f_quad_RightRow at h
 refine Con.enter Tryz.func60 rfl rfl ?_
 refine SX.sr ?_
 refine SL.box (.r rfl) rfl (fun _=>trivial) fun b1=>?_
 refine SL.asg (.r rfl) rfl (SL.nx (SX.sr ?_))
 obtain ⟨x1,ex1,h⟩:=retE h
 refine SL.fa (.r rfl) rfl fo79_1 (SL.ld (.r rfl) sc29 rfl (cell_own 0 rfl rfl) (SL.fa (.r rfl) rfl fo79_2 (SL.ld (.r rfl) sc29 rfl (cell_own 0 rfl rfl) (SL.max32 (.r rfl) rfl rfl ?_))))
 refine SL.bin (.r rfl) rfl rfl (Bin.lt32 (b:=2147483648)) ?_
 refine SL.mv (.r rfl) rfl ?_
 refine SL.and (c:=decide ((p0.txt.length:Int)≤16)) 9 5 14 rfl (fun hb k=>?_) (fun hb k=>?_) ?_
 refine SL.fa (.r rfl) rfl fo79_3 (SL.ld (.r rfl) sc9 rfl (cell_own 0 rfl rfl) (SL.lenS (.r rfl) ty9 rfl (SL.bin (.r rfl) rfl rfl Bin.leI (SL.pk (.r rfl) rfl rfl ?_))))
 exact k.mono (by repeat' (first | exact trivial | refine And.intro rfl ?_))
 refine SL.pass rfl rfl rfl (SL.pass rfl rfl rfl (SL.pass rfl rfl rfl (SL.pass rfl rfl rfl (SL.pk (.r rfl) rfl rfl ?_))))
 exact k.mono (by repeat' (first | exact trivial | refine And.intro rfl ?_))
 refine SL.asgX (u:=vB x1) (.r rfl) rfl (congrArg vB ex1) ?_
 refine SL.nx (SX.ret ?_)
 obtain rfl:=Option.some.inj h
 exact SQ.fret (res1 rfl rfl) (ret_of (M:=[]) ⟨rfl,rfl⟩ fun _ hw=>HpOk.pick (H:=[_]) hw [] 1 rfl)

def f_quad_Right_j1 (p0:List RowA):Option Bool:=
 ret (decide ((p0.length:Int)≤1000)) fun x3=>
 some x3
def f_quad_Right_l1_b (p0:List RowA) (nx_f_quad_Right_l1:Int→Option Bool) (a1:Int):Option Bool:=
 cond (decide (a1<(p0.length:Int)))
 (
  (nthI p0 a1).bind fun x1=>
  (f_quad_RightRow x1).bind fun y1=>
  (orO (!y1) ((andO (decide (0<a1)) ((nthI p0 (wI (a1-1))).bind fun x2=>some (decide (x1.id≤x2.id)))).bind fun y2=>some (y2))).bind fun y3=>
  cond y3
  (
   some false)
  (
   nx_f_quad_Right_l1 (wI (a1+1))))
 (
  f_quad_Right_j1 p0)
def f_quad_Right_l1 (p0:List RowA):Nat→Int→Option Bool:=loopN fun nx x=>f_quad_Right_l1_b p0 nx x
def f_quad_Right (n:Nat) (p0:List RowA):Option Bool:=
 f_quad_Right_l1 p0 n 0
set_option maxRecDepth 100000 in
theorem c_quad_Right {n:Nat} {v0_:Value} {p0:List RowA} {r:Bool} (h:f_quad_Right n p0=some r) (hs0_:SlOf K w0 encRow 4 v0_ p0):Con Tryz.prog K w0 21 [v0_] [] H (fun u M=>u=vB r∧M=[]):=by
 unfold f_quad_Right at h
 refine Con.enter Tryz.func21 rfl rfl ?_
 refine SX.sr (SL.asg (.r rfl) rfl (SL.nx ?_))
 refine SX.meetD (α:=Unit) (fun x=>f_quad_Right_j1 p0=some r) (fun x=>[(0,v0_)]) (fun x=>H) ?_ (fun x D h=>?_)
 refine SX.sr (SL.mv (.r rfl) rfl (SL.lenV hs0_ (.r rfl) ty35 rfl (SL.mv (.r rfl) rfl (SL.nx (SX.block ?_)))))
 refine SX.heap (SX.mono (SX.loop (α:=Nat×Int) (fun x=>f_quad_Right_l1 p0 x.1 x.2=some r) (fun x=>[(0,v0_),(5,v0_),(6,vI (p0.length:Int)),(7,vI x.2)]) (fun x=>H) (fun x=>x.1) (fun x D h=>?_) (n,0) h) (by repeat' (first | exact trivial | refine And.intro rfl ?_))) (fun _ hw=>HpOk.pick (H:=[]) hw [] 0 rfl)
 obtain ⟨m1,a1⟩:=x
 dsimp only at h
 rcases m1 with _ | m1
 cases (show (none:Option _)=some r from h)
 replace h:f_quad_Right_l1_b p0 (f_quad_Right_l1 p0 m1) a1=some r:=h
 unfold f_quad_Right_l1_b at h
 refine SX.re [(0,v0_),(5,v0_),(6,vI (p0.length:Int)),(7,vI a1)] (H) ?_ (by repeat' (first | exact trivial | refine And.intro rfl ?_))
 refine SX.sr (SL.bin (.r rfl) rfl rfl Bin.ltI (SL.nx (SX.seq ?_)))
 refine SX.cond rfl (fun hc1=>?_) (fun hc1=>?_)
 replace h:=cT hc1 h
 refine SX.skip (SQ.thn (SX.seq (SX.block (SX.sr ?_))))
 obtain ⟨x1,hx1,h⟩:=bnd h
 refine SL.mv (.r rfl) rfl ?_
 refine SL.iaN hx1 hs0_ (.r rfl) ty35 sz79 rfl rfl fun be1 of1 hc2=>?_
 refine SL.ldA (encRow x1) (.r rfl) ag79 rfl rfl (cells_kept hc2) ?_
 refine SL.alloc (.r rfl) ze79 (fun _=>trivial) fun b1=>?_
 refine SL.asg (.r rfl) rfl (SL.st 0 ⟨rfl,rfl,rfl⟩ rfl rfl rfl sz79 rfl rfl rfl trivial (SL.nx (SX.seq ?_)))
 obtain ⟨y1,hy1,h⟩:=bnd h
 obtain ⟨y3,hy3,h⟩:=bnd h
 refine SX.drawI mix [0] (Pl.of [(true,0),(false,1),(false,2),(false,3),(false,4),(false,5),(false,6),(true,7),(true,8),(true,9),(true,10),(true,11),(true,12),(false,13),(false,14),(false,15),(false,16),(false,17)]) (by kernel_rfl) (SL.ldA [vU64 x1.id,vU32 x1.x,vU32 x1.y,vS x1.txt] (.r rfl) ag79 rfl rfl (cells_all 0 rfl) ?_)
 refine SL.call (vs:=[_]) (Hin:=[]) (Hr:=_::_) (.r rfl) rfl ⟨rfl,trivial⟩ cal60 rfl rfl ((c_quad_RightRow hy1 :)) ?_
 rintro _ _ ⟨rfl,rfl⟩
 refine ⟨⟨⟨0,rfl⟩,trivial⟩,?_⟩
 refine SL.not (.r rfl) rfl (SL.mv (.r rfl) rfl ?_)
 refine SL.orN 15 14 29 hy3 rfl (fun hb k=>?_) (fun hb hg1 k=>?_) ?_
 refine SL.pass rfl rfl rfl (SL.pass rfl rfl rfl (SL.pass rfl rfl rfl (SL.pass rfl rfl rfl (SL.pass rfl rfl rfl (SL.pass rfl rfl rfl (SL.pass rfl rfl rfl (SL.pass rfl rfl rfl ?_)))))))
 refine SL.pass rfl rfl rfl (SL.pass rfl rfl rfl (SL.pass rfl rfl rfl (SL.pass rfl rfl rfl (SL.pass rfl rfl rfl (SL.pk (.r rfl) rfl rfl ?_)))))
 exact k.mono (by repeat' (first | exact trivial | refine And.intro rfl ?_))
 obtain ⟨y2,hy2,hg1⟩:=bnd hg1
 obtain rfl:=Option.some.inj hg1
 refine SL.mv (.r rfl) rfl (SL.bin (.r rfl) rfl rfl Bin.gtI (SL.mv (.r rfl) rfl ?_))
 refine SL.andN 18 10 28 hy2 rfl (fun hb hg2 k=>?_) (fun hb k=>?_) ?_
 obtain ⟨x2,hx2,hg2⟩:=bnd hg2
 obtain rfl:=Option.some.inj hg2
 refine SL.mv (.r rfl) rfl (SL.mv (.r rfl) rfl (SL.bin (.r rfl) rfl rfl Bin.subW ?_))
 refine SL.iaN hx2 hs0_ (.r rfl) ty35 sz79 rfl rfl fun be2 of2 hc3=>?_
 refine SL.fa (.r rfl) rfl fo79_0 ?_
 refine SL.ld (.r rfl) sc48 rfl (cell_kept (j:=0) hc3 rfl) ?_
 refine SL.fa (.r rfl) rfl fo79_0 (SL.ld (.r rfl) sc48 rfl (cell_own 0 rfl rfl) (SL.bin (.r rfl) rfl rfl Bin.ge64 (SL.pk (.r rfl) rfl rfl ?_)))
 exact k.mono (by repeat' (first | exact trivial | refine And.intro rfl ?_))
 refine SL.pass rfl rfl rfl (SL.pass rfl rfl rfl (SL.pass rfl rfl rfl (SL.pass rfl rfl rfl (SL.pass rfl rfl rfl (SL.pass rfl rfl rfl (SL.pass rfl rfl rfl (SL.pass rfl rfl rfl ?_)))))))
 refine SL.pass rfl rfl rfl (SL.pk (.r rfl) rfl rfl ?_)
 exact k.mono (by repeat' (first | exact trivial | refine And.intro rfl ?_))
 refine SL.pk (.r rfl) rfl rfl ?_
 exact k.mono (by repeat' (first | exact trivial | refine And.intro rfl ?_))
 refine SL.nx ?_
 refine SX.cond rfl (fun hc4=>?_) (fun hc4=>?_)
 replace h:=cT hc4 h
 refine SX.sr (SL.asg (.r rfl) rfl (SL.nx (SX.ret (SQ.blkR (SQ.thnR (SQ.lpR (SQ.blkR (SQ.midDR ?_))))))))
 obtain rfl:=Option.some.inj h
 exact SQ.fret (res1 rfl rfl) (ret_of (M:=[]) ⟨rfl,rfl⟩ fun _ hw=>HpOk.pick (H:=[_]) hw [] 1 rfl)
 replace h:=cF hc4 h
 refine SX.skip (SQ.blk (SQ.thn (SX.region (SL.bin (.r rfl) rfl rfl Bin.addW (SL.mv (.r rfl) rfl (SL.nil ?_))))))
 exact SQ.again (m1,wI (a1+1)) h (Nat.lt_succ_self _) (by repeat' (first | exact trivial | refine And.intro rfl ?_)) (fun _ hw=>HpOk.pick (H:=[_]) hw [] 1 rfl)
 replace h:=cF hc1 h
 refine SX.exit (SQ.thnE (SQ.lpE (SQ.blkE ?_)))
 exact SQ.midD () h (by repeat' (first | exact trivial | refine And.intro rfl ?_)) (fun _ hw=>HpOk.pick (H:=[]) hw [] 0 rfl)
 unfold f_quad_Right_j1 at h
 refine SX.re [(0,v0_)] (H) ?_ (by repeat' (first | exact trivial | refine And.intro rfl ?_))
 refine SX.sr ?_
 obtain ⟨x3,ex3,h⟩:=retE h
 refine SL.mv (.r rfl) rfl (SL.lenV hs0_ (.r rfl) ty35 rfl (SL.bin (.r rfl) rfl rfl Bin.leI ?_))
 refine SL.asgX (u:=vB x3) (.r rfl) rfl (congrArg vB ex3) ?_
 refine SL.nx (SX.ret ?_)
 obtain rfl:=Option.some.inj h
 exact SQ.fret (res1 rfl rfl) (ret_of (M:=[]) ⟨rfl,rfl⟩ fun _ hw=>HpOk.pick (H:=[]) hw [] 0 rfl)

def f_quad_around_j1 (a1:UInt32) (a2:UInt32) (a3:UInt32) (a4:UInt32):Option CellA:=
 (f_cell_Least a1 a2 a3 a4).bind fun y1=>
 some (⟨y1.1.x,y1.1.y,y1.1.lev⟩:CellA)
def f_quad_around_l1_b (p0:List RowA) (nx_f_quad_around_l1:UInt32×UInt32×UInt32×UInt32×Int→Option CellA) (a5:UInt32) (a6:UInt32) (a7:UInt32) (a8:UInt32) (a9:Int):Option CellA:=
 cond (decide (a9<(p0.length:Int)))
 (
  (nthI p0 a9).bind fun x5=>
  ret (min a5 x5.x) fun x6=>
  ret (min a6 x5.y) fun y_1=>
  ret (max a7 x5.x) fun u_1=>
  ret (max a8 x5.y) fun x7=>
  nx_f_quad_around_l1 (x6,y_1,u_1,x7,wI (a9+1)))
 (
  f_quad_around_j1 a5 a6 a7 a8)
def f_quad_around_l1 (p0:List RowA):Nat→(UInt32×UInt32×UInt32×UInt32×Int)→Option CellA:=loopN fun nx x=>f_quad_around_l1_b p0 nx x.1 x.2.1 x.2.2.1 x.2.2.2.1 x.2.2.2.2
def f_quad_around (n:Nat) (p0:List RowA):Option CellA:=
 (nthI p0 0).bind fun x1=>
 (nthI p0 0).bind fun x2=>
 (nthI p0 0).bind fun x3=>
 (nthI p0 0).bind fun x4=>
 f_quad_around_l1 p0 n (x1.x,x2.y,x3.x,x4.y,0)
set_option maxRecDepth 100000 in
theorem c_quad_around {n:Nat} {v0_:Value} {p0:List RowA} {r:CellA} (h:f_quad_around n p0=some r) (hs0_:SlOf K w0 encRow 4 v0_ p0):Con Tryz.prog K w0 91 [v0_] [] H (fun u M=>u=.agg (encCell r).toArray∧M=[]):=by
 unfold f_quad_around at h
 refine Con.enter Tryz.func91 rfl rfl ?_
 refine SX.sr ?_
 refine SL.alloc (.r rfl) ze54 (fun _=>trivial) fun b1=>?_
 refine SL.nx (SX.seq ?_)
 obtain ⟨x1,hx1,h⟩:=bnd h
 obtain ⟨x2,hx2,h⟩:=bnd h
 obtain ⟨x3,hx3,h⟩:=bnd h
 obtain ⟨x4,hx4,h⟩:=bnd h
 refine SX.drawI mix [] (Pl.of [(true,0),(true,1),(true,2),(true,3),(true,4),(true,5),(true,6),(true,7),(true,8),(true,9),(true,10),(true,11),(true,12),(true,13),(true,14),(true,15),(true,16),(true,17),(true,18),(true,19)]) (by kernel_rfl) (SL.mv (.r rfl) rfl ?_)
 refine SL.iaN hx1 hs0_ (.r rfl) ty35 sz79 rfl rfl fun be1 of1 hc1=>?_
 refine SL.fa (.r rfl) rfl fo79_1 ?_
 refine SL.ld (.r rfl) sc29 rfl (cell_kept (j:=1) hc1 rfl) ?_
 refine SL.mv (.r rfl) rfl ?_
 refine SL.iaN hx2 hs0_ (.r rfl) ty35 sz79 rfl rfl fun be2 of2 hc2=>?_
 refine SL.fa (.r rfl) rfl fo79_2 ?_
 refine SL.ld (.r rfl) sc29 rfl (cell_kept (j:=2) hc2 rfl) ?_
 refine SL.mv (.r rfl) rfl ?_
 refine SL.iaN hx3 hs0_ (.r rfl) ty35 sz79 rfl rfl fun be3 of3 hc3=>?_
 refine SL.fa (.r rfl) rfl fo79_1 ?_
 refine SL.ld (.r rfl) sc29 rfl (cell_kept (j:=1) hc3 rfl) ?_
 refine SL.mv (.r rfl) rfl ?_
 refine SL.iaN hx4 hs0_ (.r rfl) ty35 sz79 rfl rfl fun be4 of4 hc4=>?_
 refine SL.fa (.r rfl) rfl fo79_2 ?_
 refine SL.ld (.r rfl) sc29 rfl (cell_kept (j:=2) hc4 rfl) ?_
 refine SL.asg (.r rfl) rfl (SL.asg (.r rfl) rfl (SL.asg (.r rfl) rfl (SL.asg (.r rfl) rfl (SL.nx ?_))))
 refine SX.meetD (α:=UInt32×UInt32×UInt32×UInt32) (fun x=>f_quad_around_j1 x.1 x.2.1 x.2.2.1 x.2.2.2=some r) (fun x=>[(2,vP b1 0),(3,vU32 x.1),(4,vU32 x.2.1),(5,vU32 x.2.2.1),(6,vU32 x.2.2.2)]) (fun x=>own b1 (.cells #[vU32 0,vU32 0,vI 0] 54)::H) ?_ (fun x D h=>?_)
 refine SX.sr (SL.mv (.r rfl) rfl (SL.lenV hs0_ (.r rfl) ty35 rfl (SL.mv (.r rfl) rfl (SL.nx (SX.block ?_)))))
 refine SX.heap (SX.mono (SX.loop (α:=Nat×UInt32×UInt32×UInt32×UInt32×Int) (fun x=>f_quad_around_l1 p0 x.1 (x.2.1,x.2.2.1,x.2.2.2.1,x.2.2.2.2.1,x.2.2.2.2.2)=some r) (fun x=>[(2,vP b1 0),(3,vU32 x.2.1),(4,vU32 x.2.2.1),(5,vU32 x.2.2.2.1),(6,vU32 x.2.2.2.2.1),(27,v0_),(28,vI (p0.length:Int)),(29,vI x.2.2.2.2.2)]) (fun x=>own b1 (.cells #[vU32 0,vU32 0,vI 0] 54)::H) (fun x=>x.1) (fun x D h=>?_) (n,x1.x,x2.y,x3.x,x4.y,0) h) (by repeat' (first | exact trivial | refine And.intro rfl ?_))) (fun _ hw=>HpOk.pick (H:=[_]) hw [0] 1 rfl)
 obtain ⟨m1,a5,a6,a7,a8,a9⟩:=x
 dsimp only at h
 rcases m1 with _ | m1
 cases (show (none:Option _)=some r from h)
 replace h:f_quad_around_l1_b p0 (f_quad_around_l1 p0 m1) a5 a6 a7 a8 a9=some r:=h
 unfold f_quad_around_l1_b at h
 refine SX.re [(2,vP b1 0),(3,vU32 a5),(4,vU32 a6),(5,vU32 a7),(6,vU32 a8),(27,v0_),(28,vI (p0.length:Int)),(29,vI a9)] (own b1 (.cells #[vU32 0,vU32 0,vI 0] 54)::H) ?_ (by repeat' (first | exact trivial | refine And.intro rfl ?_))
 refine SX.sr (SL.bin (.r rfl) rfl rfl Bin.ltI (SL.nx (SX.seq ?_)))
 refine SX.cond rfl (fun hc5=>?_) (fun hc5=>?_)
 replace h:=cT hc5 h
 refine SX.skip (SQ.thn (SX.seq (SX.block (SX.sr ?_))))
 obtain ⟨x5,hx5,h⟩:=bnd h
 refine SL.iaN hx5 hs0_ (.r rfl) ty35 sz79 rfl rfl fun be5 of5 hc6=>?_
 refine SL.ldA (encRow x5) (.r rfl) ag79 rfl rfl (cells_kept hc6) ?_
 refine SL.alloc (.r rfl) ze79 (fun _=>trivial) fun b2=>?_
 refine SL.st 0 ⟨rfl,rfl,rfl⟩ rfl rfl rfl sz79 rfl rfl rfl trivial (SL.nx ?_)
 obtain ⟨x6,ex6,h⟩:=retE h
 obtain ⟨y_1,ey_1,h⟩:=retE h
 obtain ⟨u_1,eu_1,h⟩:=retE h
 obtain ⟨x7,ex7,h⟩:=retE h
 refine SX.drawI mix [0] (Pl.of [(true,0),(true,1),(true,2),(true,3),(true,4),(true,5),(true,6),(true,7),(true,8),(true,9),(true,10),(true,11),(true,12),(true,13),(true,14),(true,15),(true,16),(true,17),(true,18),(true,19)]) (by kernel_rfl) (SL.mv (.r rfl) rfl (SL.fa (.r rfl) rfl fo79_1 (SL.ld (.r rfl) sc29 rfl (cell_own 0 rfl rfl) (SL.min32 (.r rfl) rfl rfl (SL.mv (.r rfl) rfl (SL.fa (.r rfl) rfl fo79_2 (SL.ld (.r rfl) sc29 rfl (cell_own 0 rfl rfl) ?_)))))))
 refine SL.min32 (.r rfl) rfl rfl (SL.mv (.r rfl) rfl (SL.fa (.r rfl) rfl fo79_1 (SL.ld (.r rfl) sc29 rfl (cell_own 0 rfl rfl) (SL.max32 (.r rfl) rfl rfl (SL.mv (.r rfl) rfl (SL.fa (.r rfl) rfl fo79_2 (SL.ld (.r rfl) sc29 rfl (cell_own 0 rfl rfl) ?_)))))))
 refine SL.max32 (.r rfl) rfl rfl ?_
 refine SL.asgX (u:=vU32 x6) (.r rfl) rfl (congrArg vU32 ex6) ?_
 refine SL.asgX (u:=vU32 y_1) (.r rfl) rfl (congrArg vU32 ey_1) ?_
 refine SL.asgX (u:=vU32 u_1) (.r rfl) rfl (congrArg vU32 eu_1) ?_
 refine SL.asgX (u:=vU32 x7) (.r rfl) rfl (congrArg vU32 ex7) ?_
 refine SL.nil (SQ.blk (SQ.thn (SX.region (SL.bin (.r rfl) rfl rfl Bin.addW (SL.mv (.r rfl) rfl (SL.nil ?_))))))
 exact SQ.again (m1,x6,y_1,u_1,x7,wI (a9+1)) h (Nat.lt_succ_self _) (by repeat' (first | exact trivial | refine And.intro rfl ?_)) (fun _ hw=>HpOk.pick (H:=[_,_]) hw [1] 2 rfl)
 replace h:=cF hc5 h
 refine SX.exit (SQ.thnE (SQ.lpE (SQ.blkE ?_)))
 exact SQ.midD (a5,a6,a7,a8) h (by repeat' (first | exact trivial | refine And.intro rfl ?_)) (fun _ hw=>HpOk.pick (H:=[_]) hw [0] 1 rfl)
 obtain ⟨a1,a2,a3,a4⟩:=x
 dsimp only at h
 unfold f_quad_around_j1 at h
 refine SX.re [(2,vP b1 0),(3,vU32 a1),(4,vU32 a2),(5,vU32 a3),(6,vU32 a4)] (own b1 (.cells #[vU32 0,vU32 0,vI 0] 54)::H) ?_ (by repeat' (first | exact trivial | refine And.intro rfl ?_))
 refine SX.sr ?_
 obtain ⟨y1,hy1,h⟩:=bnd h
 refine SL.mv (.r rfl) rfl (SL.mv (.r rfl) rfl (SL.mv (.r rfl) rfl (SL.mv (.r rfl) rfl ?_)))
 refine SL.call (vs:=[_,_,_,_]) (Hin:=[]) (Hr:=_::_) (.r rfl) rfl ⟨rfl,rfl,rfl,rfl,trivial⟩ cal136 rfl rfl (c_cell_Least hy1) ?_
 rintro _ _ ⟨rfl,rfl⟩
 refine ⟨trivial,?_⟩
 refine SL.mv (.r rfl) rfl (SL.ext (.r rfl) rfl rfl (SL.ext (.r rfl) rfl rfl ?_))
 refine SL.alloc (.r rfl) ze54 (fun _=>trivial) fun b3=>?_
 refine SL.st 0 ⟨rfl,rfl,rfl⟩ rfl rfl rfl sz54 rfl rfl rfl trivial (SL.asg (.r rfl) rfl (SL.nx (SX.sr (SL.ldA [vU32 y1.1.x,vU32 y1.1.y,vI y1.1.lev] (.r rfl) ag54 rfl rfl (cells_all 0 rfl) (SL.st 1 ⟨rfl,rfl,rfl⟩ rfl rfl rfl sz54 rfl rfl rfl trivial (SL.nx (SX.ret ?_)))))))
 obtain rfl:=Option.some.inj h
 exact SQ.fret (resv1 rfl (resv.ag 1 (encCell (⟨y1.1.x,y1.1.y,y1.1.lev⟩:CellA)) ag54 rfl rfl rfl rfl)) (ret_of (M:=[]) ⟨rfl,rfl⟩ fun _ hw=>HpOk.pick (H:=[_,_]) hw [] 2 rfl)

def f_rows_isNone (p0:RefA):Option Bool:=
 ret (decide (p0.page=0)&&(decide (p0.tag=[])&&true)) fun x1=>
 some x1
set_option maxRecDepth 100000 in
theorem c_rows_isNone {p0:RefA} {r:Bool} (h:f_rows_isNone p0=some r)  : Con Tryz.prog K w0 165 [.agg (encRef p0).toArray] [] H (fun u M=>u=vB r∧M=[]):=by
 unfold f_rows_isNone at h
 refine Con.enter Tryz.func165 rfl rfl ?_
 refine SX.sr ?_
 refine SL.box (.r rfl) rfl (fun _=>trivial) fun b1=>?_
 refine SL.asg (.r rfl) rfl (SL.nx (SX.sr ?_))
 obtain ⟨x1,ex1,h⟩:=retE h
 refine SL.ldA [vU32 p0.page,vS p0.tag] (.r rfl) ag31 rfl rfl (cells_all 0 rfl) (SL.bld [] (.r rfl) pl31 pk31 ze31 trivial rfl ?_)
 refine SL.eqAgg (.r rfl) fl31 rfl rfl (flatE_cons rfl rfl (eqV_32 (a:=p0.page) (b:=0)) (flatE_cons rfl rfl (eqV_S (a:=p0.tag) (b:=[])) flatE_nil)) ?_
 refine SL.asgX (u:=vB x1) (.r rfl) rfl (congrArg vB ex1) ?_
 refine SL.nx (SX.ret ?_)
 obtain rfl:=Option.some.inj h
 exact SQ.fret (res1 rfl rfl) (ret_of (M:=[]) ⟨rfl,rfl⟩ fun _ hw=>HpOk.pick (H:=[_]) hw [] 1 rfl)

def f_law14_few (p0:List RowA):Option (List RowA):=
 (slcI p0 0 (min (p0.length:Int) 24)).bind fun l1=>
 some l1
set_option maxRecDepth 100000 in
theorem c_law14_few {v0_:Value} {p0:List RowA} {r:List RowA} (h:f_law14_few p0=some r) (hs0_:SlOf K w0 encRow 4 v0_ p0):Con Tryz.prog K w0 20 [v0_] [] H (fun u M=>∃v0:Value,u=v0∧SlOf K w0 encRow 4 v0 r∧M=[]):=by
 unfold f_law14_few at h
 refine Con.enter Tryz.func20 rfl rfl ?_
 refine SX.sr (SL.nilT 79 4 encRow (SL.asg (.r rfl) rfl (SL.nx (SX.sr ?_))))
 obtain ⟨l1,hl1,h⟩:=bnd h
 refine SL.mv (.r rfl) rfl (SL.mv (.r rfl) rfl (SL.lenV hs0_ (.r rfl) ty35 rfl (SL.minI (.r rfl) rfl rfl ?_)))
 refine SL.slVN hl1 hs0_ (.r rfl) ty35 sz79 rfl rfl fun v1 hs1=>?_
 refine SL.asg (.r rfl) rfl (SL.nx (SX.ret ?_))
 obtain rfl:=Option.some.inj h
 exact SQ.fret (res1 rfl rfl) (ret_of (M:=[]) ⟨v1,rfl,hs1,rfl⟩ fun _ hw=>HpOk.pick (H:=[_]) hw [] 1 rfl)

def f_law14_last (p0:List SavedA):Option RefA:=
 cond (decide ((p0.length:Int)=0))
 (
  some (⟨0,[]⟩:RefA))
 (
  (nthI p0 (wI ((p0.length:Int)-1))).bind fun x1=>
  some (⟨x1.page,x1.tag⟩:RefA))
set_option maxRecDepth 100000 in
theorem c_law14_last {v0_:Value} {p0:List SavedA} {r:RefA} (h:f_law14_last p0=some r) (hs0_:SlOf K w0 encSaved 3 v0_ p0):Con Tryz.prog K w0 22 [v0_] [] H (fun u M=>u=.agg (encRef r).toArray∧M=[]):=by
 unfold f_law14_last at h
 refine Con.enter Tryz.func22 rfl rfl ?_
 refine SX.sr ?_
 refine SL.alloc (.r rfl) ze31 (fun _=>trivial) fun b1=>?_
 refine SL.nx (SX.seq (SX.sr (SL.mv (.r rfl) rfl (SL.lenV hs0_ (.r rfl) ty36 rfl (SL.bin (.r rfl) rfl rfl Bin.eqI (SL.nx ?_))))))
 refine SX.cond rfl (fun hc1=>?_) (fun hc1=>?_)
 replace h:=cT hc1 h
 refine SX.sr (SL.bld [] (.r rfl) pl31 pk31 ze31 trivial rfl (SL.st 0 ⟨rfl,rfl,rfl⟩ rfl rfl rfl sz31 rfl rfl rfl trivial (SL.nx (SX.ret (SQ.thnR ?_)))))
 obtain rfl:=Option.some.inj h
 exact SQ.fret (resv1 rfl (resv.ag 0 (encRef (⟨0,[]⟩:RefA)) ag31 rfl rfl rfl rfl)) (ret_of (M:=[]) ⟨rfl,rfl⟩ fun _ hw=>HpOk.pick (H:=[_]) hw [] 1 rfl)
 replace h:=cF hc1 h
 refine SX.skip (SQ.thn (SX.sr ?_))
 obtain ⟨x1,hx1,h⟩:=bnd h
 refine SL.mv (.r rfl) rfl (SL.mv (.r rfl) rfl (SL.lenV hs0_ (.r rfl) ty36 rfl (SL.bin (.r rfl) rfl rfl Bin.subW ?_)))
 refine SL.iaN hx1 hs0_ (.r rfl) ty36 sz72 rfl rfl fun be1 of1 hc2=>?_
 refine SL.fa (.r rfl) rfl fo72_1 ?_
 refine SL.ldA [vU32 x1.page,vS x1.tag] (.r rfl) ag31 rfl rfl (cells_sub (d:=1) hc2 rfl) ?_
 refine SL.st 0 ⟨rfl,rfl,rfl⟩ rfl rfl rfl sz31 rfl rfl rfl trivial (SL.nx (SX.ret ?_))
 obtain rfl:=Option.some.inj h
 exact SQ.fret (resv1 rfl (resv.ag 0 (encRef (⟨x1.page,x1.tag⟩:RefA)) ag31 rfl rfl rfl rfl)) (ret_of (M:=[]) ⟨rfl,rfl⟩ fun _ hw=>HpOk.pick (H:=[_]) hw [] 1 rfl)

def f_ref09_Same_j1:Option Bool:=
 some true
def f_ref09_Same_l1_b (p0:List RowA) (p1:List RowA) (nx_f_ref09_Same_l1:Int→Option Bool) (a1:Int):Option Bool:=
 cond (decide (a1<(p0.length:Int)))
 (
  (nthI p0 a1).bind fun x1=>
  (nthI p1 a1).bind fun x2=>
  cond (!(decide (x1.id=x2.id)&&(decide (x1.x=x2.x)&&(decide (x1.y=x2.y)&&(decide (x1.txt=x2.txt)&&true)))))
  (
   some false)
  (
   ret (wI (a1+1)) fun i_1=>
   nx_f_ref09_Same_l1 i_1))
 (
  f_ref09_Same_j1)
def f_ref09_Same_l1 (p0:List RowA) (p1:List RowA):Nat→Int→Option Bool:=loopN fun nx x=>f_ref09_Same_l1_b p0 p1 nx x
def f_ref09_Same (n:Nat) (p0:List RowA) (p1:List RowA):Option Bool:=
 cond (!decide ((p0.length:Int)=(p1.length:Int)))
 (
  some false)
 (
  f_ref09_Same_l1 p0 p1 n 0)
set_option maxRecDepth 100000 in
theorem c_ref09_Same {n:Nat} {v0_:Value} {p0:List RowA} {v1_:Value} {p1:List RowA} {r:Bool} (h:f_ref09_Same n p0 p1=some r) (hs0_:SlOf K w0 encRow 4 v0_ p0) (hs1_:SlOf K w0 encRow 4 v1_ p1):Con Tryz.prog K w0 17 [v0_,v1_] [] H (fun u M=>u=vB r∧M=[]):=by
 unfold f_ref09_Same at h
 refine Con.enter Tryz.func17 rfl rfl ?_
 refine SX.sr (SL.asg (.r rfl) rfl (SL.nx (SX.seq (SX.sr (SL.mv (.r rfl) rfl (SL.lenV hs0_ (.r rfl) ty35 rfl (SL.mv (.r rfl) rfl (SL.lenV hs1_ (.r rfl) ty35 rfl (SL.bin (.r rfl) rfl rfl Bin.neI (SL.nx ?_))))))))))
 refine SX.cond rfl (fun hc1=>?_) (fun hc1=>?_)
 replace h:=cT hc1 h
 refine SX.sr (SL.asg (.r rfl) rfl (SL.nx (SX.ret (SQ.thnR ?_))))
 obtain rfl:=Option.some.inj h
 exact SQ.fret (res1 rfl rfl) (ret_of (M:=[]) ⟨rfl,rfl⟩ fun _ hw=>HpOk.pick (H:=[]) hw [] 0 rfl)
 replace h:=cF hc1 h
 refine SX.skip (SQ.thn ?_)
 refine SX.meetD (α:=Unit) (fun x=>f_ref09_Same_j1=some r) (fun x=>[]) (fun x=>H) ?_ (fun x D h=>?_)
 refine SX.sr (SL.asg (.r rfl) rfl (SL.nx (SX.block ?_)))
 refine SX.heap (SX.mono (SX.loop (α:=Nat×Int) (fun x=>f_ref09_Same_l1 p0 p1 x.1 x.2=some r) (fun x=>[(0,v0_),(1,v1_),(5,vI x.2)]) (fun x=>H) (fun x=>x.1) (fun x D h=>?_) (n,0) h) (by repeat' (first | exact trivial | refine And.intro rfl ?_))) (fun _ hw=>HpOk.pick (H:=[]) hw [] 0 rfl)
 obtain ⟨m1,a1⟩:=x
 dsimp only at h
 rcases m1 with _ | m1
 cases (show (none:Option _)=some r from h)
 replace h:f_ref09_Same_l1_b p0 p1 (f_ref09_Same_l1 p0 p1 m1) a1=some r:=h
 unfold f_ref09_Same_l1_b at h
 refine SX.re [(0,v0_),(1,v1_),(5,vI a1)] (H) ?_ (by repeat' (first | exact trivial | refine And.intro rfl ?_))
 refine SX.seq (SX.sr (SL.mv (.r rfl) rfl (SL.mv (.r rfl) rfl (SL.lenV hs0_ (.r rfl) ty35 rfl (SL.bin (.r rfl) rfl rfl Bin.ltI (SL.nx ?_))))))
 refine SX.cond rfl (fun hc2=>?_) (fun hc2=>?_)
 replace h:=cT hc2 h
 refine SX.skip (SQ.thn (SX.seq (SX.block (SX.seq ?_))))
 obtain ⟨x1,hx1,h⟩:=bnd h
 obtain ⟨x2,hx2,h⟩:=bnd h
 refine SX.drawI mix [] (Pl.of [(true,0),(true,1),(true,2),(true,3),(true,4),(true,5),(true,6),(true,7),(true,8)]) (by kernel_rfl) (SL.mv (.r rfl) rfl (SL.mv (.r rfl) rfl ?_))
 refine SL.iaN hx1 hs0_ (.r rfl) ty35 sz79 rfl rfl fun be1 of1 hc3=>?_
 refine SL.ldA (encRow x1) (.r rfl) ag79 rfl rfl (cells_kept hc3) (SL.mv (.r rfl) rfl (SL.mv (.r rfl) rfl ?_))
 refine SL.iaN hx2 hs1_ (.r rfl) ty35 sz79 rfl rfl fun be2 of2 hc4=>?_
 refine SL.ldA (encRow x2) (.r rfl) ag79 rfl rfl (cells_kept hc4) ?_
 refine SL.neAgg (.r rfl) fl79 rfl rfl (flatE_cons rfl rfl (eqV_64 (a:=x1.id) (b:=x2.id)) (flatE_cons rfl rfl (eqV_32 (a:=x1.x) (b:=x2.x)) (flatE_cons rfl rfl (eqV_32 (a:=x1.y) (b:=x2.y)) (flatE_cons rfl rfl (eqV_S (a:=x1.txt) (b:=x2.txt)) flatE_nil)))) ?_
 refine SL.nx ?_
 refine SX.cond rfl (fun hc5=>?_) (fun hc5=>?_)
 replace h:=cT hc5 h
 refine SX.sr (SL.asg (.r rfl) rfl (SL.nx (SX.ret (SQ.blkR (SQ.thnR (SQ.lpR (SQ.blkR (SQ.midDR ?_))))))))
 obtain rfl:=Option.some.inj h
 exact SQ.fret (res1 rfl rfl) (ret_of (M:=[]) ⟨rfl,rfl⟩ fun _ hw=>HpOk.pick (H:=[]) hw [] 0 rfl)
 replace h:=cF hc5 h
 refine SX.skip (SQ.blk (SQ.thn (SX.region ?_)))
 obtain ⟨i_1,ei_1,h⟩:=retE h
 refine SL.mv (.r rfl) rfl (SL.bin (.r rfl) rfl rfl Bin.addW ?_)
 refine SL.asgX (u:=vI i_1) (.r rfl) rfl (congrArg vI ei_1) ?_
 refine SL.nil ?_
 exact SQ.again (m1,i_1) h (Nat.lt_succ_self _) (by repeat' (first | exact trivial | refine And.intro rfl ?_)) (fun _ hw=>HpOk.pick (H:=[]) hw [] 0 rfl)
 replace h:=cF hc2 h
 refine SX.exit (SQ.thnE (SQ.lpE (SQ.blkE ?_)))
 exact SQ.midD () h (by repeat' (first | exact trivial | refine And.intro rfl ?_)) (fun _ hw=>HpOk.pick (H:=[]) hw [] 0 rfl)
 unfold f_ref09_Same_j1 at h
 refine SX.re [] (H) ?_ (by repeat' (first | exact trivial | refine And.intro rfl ?_))
 refine SX.sr (SL.asg (.r rfl) rfl (SL.nx (SX.ret ?_)))
 obtain rfl:=Option.some.inj h
 exact SQ.fret (res1 rfl rfl) (ret_of (M:=[]) ⟨rfl,rfl⟩ fun _ hw=>HpOk.pick (H:=[]) hw [] 0 rfl)

def f_ref14_Same_j1:Option Bool:=
 some true
def f_ref14_Same_l1_b (p0:List SavedA) (p1:List SavedA) (nx_f_ref14_Same_l1:Int→Option Bool) (a1:Int):Option Bool:=
 cond (decide (a1<(p0.length:Int)))
 (
  (nthI p0 a1).bind fun x1=>
  (nthI p1 a1).bind fun x2=>
  cond (!(decide (x1.txt=x2.txt)&&(decide (x1.page=x2.page)&&(decide (x1.tag=x2.tag)&&true))))
  (
   some false)
  (
   ret (wI (a1+1)) fun i_1=>
   nx_f_ref14_Same_l1 i_1))
 (
  f_ref14_Same_j1)
def f_ref14_Same_l1 (p0:List SavedA) (p1:List SavedA):Nat→Int→Option Bool:=loopN fun nx x=>f_ref14_Same_l1_b p0 p1 nx x
def f_ref14_Same (n:Nat) (p0:List SavedA) (p1:List SavedA):Option Bool:=
 cond (!decide ((p0.length:Int)=(p1.length:Int)))
 (
  some false)
 (
  f_ref14_Same_l1 p0 p1 n 0)
set_option maxRecDepth 100000 in
theorem c_ref14_Same {n:Nat} {v0_:Value} {p0:List SavedA} {v1_:Value} {p1:List SavedA} {r:Bool} (h:f_ref14_Same n p0 p1=some r) (hs0_:SlOf K w0 encSaved 3 v0_ p0) (hs1_:SlOf K w0 encSaved 3 v1_ p1):Con Tryz.prog K w0 18 [v0_,v1_] [] H (fun u M=>u=vB r∧M=[]):=by
 unfold f_ref14_Same at h
 refine Con.enter Tryz.func18 rfl rfl ?_
 refine SX.sr (SL.asg (.r rfl) rfl (SL.nx (SX.seq (SX.sr (SL.mv (.r rfl) rfl (SL.lenV hs0_ (.r rfl) ty36 rfl (SL.mv (.r rfl) rfl (SL.lenV hs1_ (.r rfl) ty36 rfl (SL.bin (.r rfl) rfl rfl Bin.neI (SL.nx ?_))))))))))
 refine SX.cond rfl (fun hc1=>?_) (fun hc1=>?_)
 replace h:=cT hc1 h
 refine SX.sr (SL.asg (.r rfl) rfl (SL.nx (SX.ret (SQ.thnR ?_))))
 obtain rfl:=Option.some.inj h
 exact SQ.fret (res1 rfl rfl) (ret_of (M:=[]) ⟨rfl,rfl⟩ fun _ hw=>HpOk.pick (H:=[]) hw [] 0 rfl)
 replace h:=cF hc1 h
 refine SX.skip (SQ.thn ?_)
 refine SX.meetD (α:=Unit) (fun x=>f_ref14_Same_j1=some r) (fun x=>[]) (fun x=>H) ?_ (fun x D h=>?_)
 refine SX.sr (SL.asg (.r rfl) rfl (SL.nx (SX.block ?_)))
 refine SX.heap (SX.mono (SX.loop (α:=Nat×Int) (fun x=>f_ref14_Same_l1 p0 p1 x.1 x.2=some r) (fun x=>[(0,v0_),(1,v1_),(5,vI x.2)]) (fun x=>H) (fun x=>x.1) (fun x D h=>?_) (n,0) h) (by repeat' (first | exact trivial | refine And.intro rfl ?_))) (fun _ hw=>HpOk.pick (H:=[]) hw [] 0 rfl)
 obtain ⟨m1,a1⟩:=x
 dsimp only at h
 rcases m1 with _ | m1
 cases (show (none:Option _)=some r from h)
 replace h:f_ref14_Same_l1_b p0 p1 (f_ref14_Same_l1 p0 p1 m1) a1=some r:=h
 unfold f_ref14_Same_l1_b at h
 refine SX.re [(0,v0_),(1,v1_),(5,vI a1)] (H) ?_ (by repeat' (first | exact trivial | refine And.intro rfl ?_))
 refine SX.seq (SX.sr (SL.mv (.r rfl) rfl (SL.mv (.r rfl) rfl (SL.lenV hs0_ (.r rfl) ty36 rfl (SL.bin (.r rfl) rfl rfl Bin.ltI (SL.nx ?_))))))
 refine SX.cond rfl (fun hc2=>?_) (fun hc2=>?_)
 replace h:=cT hc2 h
 refine SX.skip (SQ.thn (SX.seq (SX.block (SX.seq ?_))))
 obtain ⟨x1,hx1,h⟩:=bnd h
 obtain ⟨x2,hx2,h⟩:=bnd h
 refine SX.drawI mix [] (Pl.of [(true,0),(true,1),(true,2),(true,3),(true,4),(true,5),(true,6),(true,7),(true,8)]) (by kernel_rfl) (SL.mv (.r rfl) rfl (SL.mv (.r rfl) rfl ?_))
 refine SL.iaN hx1 hs0_ (.r rfl) ty36 sz72 rfl rfl fun be1 of1 hc3=>?_
 refine SL.ldA (encSaved x1) (.r rfl) ag72 rfl rfl (cells_kept hc3) (SL.mv (.r rfl) rfl (SL.mv (.r rfl) rfl ?_))
 refine SL.iaN hx2 hs1_ (.r rfl) ty36 sz72 rfl rfl fun be2 of2 hc4=>?_
 refine SL.ldA (encSaved x2) (.r rfl) ag72 rfl rfl (cells_kept hc4) ?_
 refine SL.neAgg2 (.r rfl) (show flt2 Tryz.prog 72=some [(0,.string),(1,.int .u32),(2,.string)] by kernel_rfl) rfl rfl (flatE_cons rfl rfl (eqV_S (a:=x1.txt) (b:=x2.txt)) (flatE_cons rfl rfl (eqV_32 (a:=x1.page) (b:=x2.page)) (flatE_cons rfl rfl (eqV_S (a:=x1.tag) (b:=x2.tag)) flatE_nil))) ?_
 refine SL.nx ?_
 refine SX.cond rfl (fun hc5=>?_) (fun hc5=>?_)
 replace h:=cT hc5 h
 refine SX.sr (SL.asg (.r rfl) rfl (SL.nx (SX.ret (SQ.blkR (SQ.thnR (SQ.lpR (SQ.blkR (SQ.midDR ?_))))))))
 obtain rfl:=Option.some.inj h
 exact SQ.fret (res1 rfl rfl) (ret_of (M:=[]) ⟨rfl,rfl⟩ fun _ hw=>HpOk.pick (H:=[]) hw [] 0 rfl)
 replace h:=cF hc5 h
 refine SX.skip (SQ.blk (SQ.thn (SX.region ?_)))
 obtain ⟨i_1,ei_1,h⟩:=retE h
 refine SL.mv (.r rfl) rfl (SL.bin (.r rfl) rfl rfl Bin.addW ?_)
 refine SL.asgX (u:=vI i_1) (.r rfl) rfl (congrArg vI ei_1) ?_
 refine SL.nil ?_
 exact SQ.again (m1,i_1) h (Nat.lt_succ_self _) (by repeat' (first | exact trivial | refine And.intro rfl ?_)) (fun _ hw=>HpOk.pick (H:=[]) hw [] 0 rfl)
 replace h:=cF hc2 h
 refine SX.exit (SQ.thnE (SQ.lpE (SQ.blkE ?_)))
 exact SQ.midD () h (by repeat' (first | exact trivial | refine And.intro rfl ?_)) (fun _ hw=>HpOk.pick (H:=[]) hw [] 0 rfl)
 unfold f_ref14_Same_j1 at h
 refine SX.re [] (H) ?_ (by repeat' (first | exact trivial | refine And.intro rfl ?_))
 refine SX.sr (SL.asg (.r rfl) rfl (SL.nx (SX.ret ?_)))
 obtain rfl:=Option.some.inj h
 exact SQ.fret (res1 rfl rfl) (ret_of (M:=[]) ⟨rfl,rfl⟩ fun _ hw=>HpOk.pick (H:=[]) hw [] 0 rfl)

def f_ref09_RightRow (p0:RowA):Option Bool:=
 ret (((decide (p0.x<2147483648))&&(decide (p0.y<2147483648)))&&(decide ((p0.txt.length:Int)≤16))) fun x1=>
 some x1
set_option maxRecDepth 100000 in
theorem c_ref09_RightRow {p0:RowA} {r:Bool} (h:f_ref09_RightRow p0=some r)  : Con Tryz.prog K w0 94 [.agg (encRow p0).toArray] [] H (fun u M=>u=vB r∧M=[]):=by
 unfold f_ref09_RightRow at h
 refine Con.enter Tryz.func94 rfl rfl ?_
 refine SX.sr ?_
 refine SL.box (.r rfl) rfl (fun _=>trivial) fun b1=>?_
 refine SL.asg (.r rfl) rfl (SL.nx (SX.sr ?_))
 obtain ⟨x1,ex1,h⟩:=retE h
 refine SL.fa (.r rfl) rfl fo79_1 (SL.ld (.r rfl) sc29 rfl (cell_own 0 rfl rfl) ?_)
 refine SL.bin (.r rfl) rfl rfl (Bin.lt32 (b:=2147483648)) ?_
 refine SL.mv (.r rfl) rfl ?_
 refine SL.and (c:=decide (p0.y<2147483648)) 6 4 10 rfl (fun hb k=>?_) (fun hb k=>?_) ?_
 refine SL.fa (.r rfl) rfl fo79_2 (SL.ld (.r rfl) sc29 rfl (cell_own 0 rfl rfl) ?_)
 refine SL.bin (.r rfl) rfl rfl (Bin.lt32 (b:=2147483648)) ?_
 refine SL.pk (.r rfl) rfl rfl ?_
 exact k.mono (by repeat' (first | exact trivial | refine And.intro rfl ?_))
 refine SL.pass rfl rfl rfl (SL.pass rfl rfl rfl (SL.pass rfl rfl rfl (SL.pk (.r rfl) rfl rfl ?_)))
 exact k.mono (by repeat' (first | exact trivial | refine And.intro rfl ?_))
 refine SL.mv (.r rfl) rfl ?_
 refine SL.and (c:=decide ((p0.txt.length:Int)≤16)) 11 5 16 rfl (fun hb k=>?_) (fun hb k=>?_) ?_
 refine SL.fa (.r rfl) rfl fo79_3 (SL.ld (.r rfl) sc9 rfl (cell_own 0 rfl rfl) (SL.lenS (.r rfl) ty9 rfl (SL.bin (.r rfl) rfl rfl Bin.leI (SL.pk (.r rfl) rfl rfl ?_))))
 exact k.mono (by repeat' (first | exact trivial | refine And.intro rfl ?_))
 refine SL.pass rfl rfl rfl (SL.pass rfl rfl rfl (SL.pass rfl rfl rfl (SL.pass rfl rfl rfl (SL.pk (.r rfl) rfl rfl ?_))))
 exact k.mono (by repeat' (first | exact trivial | refine And.intro rfl ?_))
 refine SL.asgX (u:=vB x1) (.r rfl) rfl (congrArg vB ex1) ?_
 refine SL.nx (SX.ret ?_)
 obtain rfl:=Option.some.inj h
 exact SQ.fret (res1 rfl rfl) (ret_of (M:=[]) ⟨rfl,rfl⟩ fun _ hw=>HpOk.pick (H:=[_]) hw [] 1 rfl)

def f_ref09_Right_j1:Option Bool:=
 some true
def f_ref09_Right_l1_b (p0:List RowA) (nx_f_ref09_Right_l1:Int→Option Bool) (a1:Int):Option Bool:=
 cond (decide (a1<(p0.length:Int)))
 (
  (nthI p0 a1).bind fun x1=>
  (f_ref09_RightRow x1).bind fun y1=>
  (orO (!y1) ((andO (decide (0<a1)) ((nthI p0 (wI (a1-1))).bind fun x2=>(nthI p0 a1).bind fun x3=>some (decide (x3.id≤x2.id)))).bind fun y2=>some (y2))).bind fun y3=>
  cond y3
  (
   some false)
  (
   ret (wI (a1+1)) fun i_1=>
   nx_f_ref09_Right_l1 i_1))
 (
  f_ref09_Right_j1)
def f_ref09_Right_l1 (p0:List RowA):Nat→Int→Option Bool:=loopN fun nx x=>f_ref09_Right_l1_b p0 nx x
def f_ref09_Right (n:Nat) (p0:List RowA):Option Bool:=
 cond (decide (1000<(p0.length:Int)))
 (
  some false)
 (
  f_ref09_Right_l1 p0 n 0)
set_option maxRecDepth 100000 in
theorem c_ref09_Right {n:Nat} {v0_:Value} {p0:List RowA} {r:Bool} (h:f_ref09_Right n p0=some r) (hs0_:SlOf K w0 encRow 4 v0_ p0):Con Tryz.prog K w0 63 [v0_] [] H (fun u M=>u=vB r∧M=[]):=by
 unfold f_ref09_Right at h
 refine Con.enter Tryz.func63 rfl rfl ?_
 refine SX.sr (SL.asg (.r rfl) rfl (SL.nx (SX.seq (SX.sr (SL.mv (.r rfl) rfl (SL.lenV hs0_ (.r rfl) ty35 rfl (SL.bin (.r rfl) rfl rfl Bin.gtI (SL.nx ?_))))))))
 refine SX.cond rfl (fun hc1=>?_) (fun hc1=>?_)
 replace h:=cT hc1 h
 refine SX.sr (SL.asg (.r rfl) rfl (SL.nx (SX.ret (SQ.thnR ?_))))
 obtain rfl:=Option.some.inj h
 exact SQ.fret (res1 rfl rfl) (ret_of (M:=[]) ⟨rfl,rfl⟩ fun _ hw=>HpOk.pick (H:=[]) hw [] 0 rfl)
 replace h:=cF hc1 h
 refine SX.skip (SQ.thn ?_)
 refine SX.meetD (α:=Unit) (fun x=>f_ref09_Right_j1=some r) (fun x=>[]) (fun x=>H) ?_ (fun x D h=>?_)
 refine SX.sr (SL.asg (.r rfl) rfl (SL.nx (SX.block ?_)))
 refine SX.heap (SX.mono (SX.loop (α:=Nat×Int) (fun x=>f_ref09_Right_l1 p0 x.1 x.2=some r) (fun x=>[(0,v0_),(3,vI x.2)]) (fun x=>H) (fun x=>x.1) (fun x D h=>?_) (n,0) h) (by repeat' (first | exact trivial | refine And.intro rfl ?_))) (fun _ hw=>HpOk.pick (H:=[]) hw [] 0 rfl)
 obtain ⟨m1,a1⟩:=x
 dsimp only at h
 rcases m1 with _ | m1
 cases (show (none:Option _)=some r from h)
 replace h:f_ref09_Right_l1_b p0 (f_ref09_Right_l1 p0 m1) a1=some r:=h
 unfold f_ref09_Right_l1_b at h
 refine SX.re [(0,v0_),(3,vI a1)] (H) ?_ (by repeat' (first | exact trivial | refine And.intro rfl ?_))
 refine SX.seq (SX.sr (SL.mv (.r rfl) rfl (SL.mv (.r rfl) rfl (SL.lenV hs0_ (.r rfl) ty35 rfl (SL.bin (.r rfl) rfl rfl Bin.ltI (SL.nx ?_))))))
 refine SX.cond rfl (fun hc2=>?_) (fun hc2=>?_)
 replace h:=cT hc2 h
 refine SX.skip (SQ.thn (SX.seq (SX.block (SX.sr ?_))))
 obtain ⟨x1,hx1,h⟩:=bnd h
 obtain ⟨y1,hy1,h⟩:=bnd h
 refine SL.mv (.r rfl) rfl (SL.mv (.r rfl) rfl ?_)
 refine SL.iaN hx1 hs0_ (.r rfl) ty35 sz79 rfl rfl fun be1 of1 hc3=>?_
 refine SL.ldA (encRow x1) (.r rfl) ag79 rfl rfl (cells_kept hc3) ?_
 refine SL.call (vs:=[_]) (Hin:=[]) (Hr:=_) (.r rfl) rfl ⟨rfl,trivial⟩ cal94 rfl rfl ((c_ref09_RightRow hy1 :)) ?_
 rintro _ _ ⟨rfl,rfl⟩
 refine ⟨trivial,?_⟩
 refine SL.asg (.r rfl) rfl (SL.nx (SX.seq ?_))
 obtain ⟨y3,hy3,h⟩:=bnd h
 refine SX.drawI mix [] (Pl.of [(true,0),(true,1),(true,2),(true,3),(true,4),(true,5),(true,6),(true,7),(true,8),(true,9),(true,10),(true,11),(true,12),(true,13),(true,14),(true,15),(true,16),(true,17),(true,18),(true,19)]) (by kernel_rfl) (SL.mv (.r rfl) rfl (SL.not (.r rfl) rfl (SL.mv (.r rfl) rfl ?_)))
 refine SL.orN 21 17 38 hy3 rfl (fun hb k=>?_) (fun hb hg1 k=>?_) ?_
 refine SL.pass rfl rfl rfl (SL.pass rfl rfl rfl (SL.pass rfl rfl rfl (SL.pass rfl rfl rfl (SL.pass rfl rfl rfl (SL.pass rfl rfl rfl (SL.pass rfl rfl rfl (SL.pass rfl rfl rfl ?_)))))))
 refine SL.pass rfl rfl rfl (SL.pass rfl rfl rfl (SL.pass rfl rfl rfl (SL.pass rfl rfl rfl (SL.pass rfl rfl rfl (SL.pass rfl rfl rfl (SL.pass rfl rfl rfl (SL.pass rfl rfl rfl ?_)))))))
 refine SL.pk (.r rfl) rfl rfl ?_
 exact k.mono (by repeat' (first | exact trivial | refine And.intro rfl ?_))
 obtain ⟨y2,hy2,hg1⟩:=bnd hg1
 obtain rfl:=Option.some.inj hg1
 refine SL.mv (.r rfl) rfl (SL.bin (.r rfl) rfl rfl Bin.gtI (SL.mv (.r rfl) rfl ?_))
 refine SL.andN 24 13 37 hy2 rfl (fun hb hg2 k=>?_) (fun hb k=>?_) ?_
 obtain ⟨x2,hx2,hg2⟩:=bnd hg2
 obtain ⟨x3,hx3,hg2⟩:=bnd hg2
 obtain rfl:=Option.some.inj hg2
 refine SL.mv (.r rfl) rfl (SL.mv (.r rfl) rfl (SL.bin (.r rfl) rfl rfl Bin.subW ?_))
 refine SL.iaN hx2 hs0_ (.r rfl) ty35 sz79 rfl rfl fun be2 of2 hc4=>?_
 refine SL.fa (.r rfl) rfl fo79_0 ?_
 refine SL.ld (.r rfl) sc48 rfl (cell_kept (j:=0) hc4 rfl) ?_
 refine SL.mv (.r rfl) rfl (SL.mv (.r rfl) rfl ?_)
 refine SL.iaN hx3 hs0_ (.r rfl) ty35 sz79 rfl rfl fun be3 of3 hc5=>?_
 refine SL.fa (.r rfl) rfl fo79_0 ?_
 refine SL.ld (.r rfl) sc48 rfl (cell_kept (j:=0) hc5 rfl) ?_
 refine SL.bin (.r rfl) rfl rfl Bin.ge64 (SL.pk (.r rfl) rfl rfl ?_)
 exact k.mono (by repeat' (first | exact trivial | refine And.intro rfl ?_))
 refine SL.pass rfl rfl rfl (SL.pass rfl rfl rfl (SL.pass rfl rfl rfl (SL.pass rfl rfl rfl (SL.pass rfl rfl rfl (SL.pass rfl rfl rfl (SL.pass rfl rfl rfl (SL.pass rfl rfl rfl ?_)))))))
 refine SL.pass rfl rfl rfl (SL.pass rfl rfl rfl (SL.pass rfl rfl rfl (SL.pass rfl rfl rfl (SL.pk (.r rfl) rfl rfl ?_))))
 exact k.mono (by repeat' (first | exact trivial | refine And.intro rfl ?_))
 refine SL.pk (.r rfl) rfl rfl ?_
 exact k.mono (by repeat' (first | exact trivial | refine And.intro rfl ?_))
 refine SL.nx ?_
 refine SX.cond rfl (fun hc6=>?_) (fun hc6=>?_)
 replace h:=cT hc6 h
 refine SX.sr (SL.asg (.r rfl) rfl (SL.nx (SX.ret (SQ.blkR (SQ.thnR (SQ.lpR (SQ.blkR (SQ.midDR ?_))))))))
 obtain rfl:=Option.some.inj h
 exact SQ.fret (res1 rfl rfl) (ret_of (M:=[]) ⟨rfl,rfl⟩ fun _ hw=>HpOk.pick (H:=[]) hw [] 0 rfl)
 replace h:=cF hc6 h
 refine SX.skip (SQ.blk (SQ.thn (SX.region ?_)))
 obtain ⟨i_1,ei_1,h⟩:=retE h
 refine SL.mv (.r rfl) rfl (SL.bin (.r rfl) rfl rfl Bin.addW ?_)
 refine SL.asgX (u:=vI i_1) (.r rfl) rfl (congrArg vI ei_1) ?_
 refine SL.nil ?_
 exact SQ.again (m1,i_1) h (Nat.lt_succ_self _) (by repeat' (first | exact trivial | refine And.intro rfl ?_)) (fun _ hw=>HpOk.pick (H:=[]) hw [] 0 rfl)
 replace h:=cF hc2 h
 refine SX.exit (SQ.thnE (SQ.lpE (SQ.blkE ?_)))
 exact SQ.midD () h (by repeat' (first | exact trivial | refine And.intro rfl ?_)) (fun _ hw=>HpOk.pick (H:=[]) hw [] 0 rfl)
 unfold f_ref09_Right_j1 at h
 refine SX.re [] (H) ?_ (by repeat' (first | exact trivial | refine And.intro rfl ?_))
 refine SX.sr (SL.asg (.r rfl) rfl (SL.nx (SX.ret ?_)))
 obtain rfl:=Option.some.inj h
 exact SQ.fret (res1 rfl rfl) (ret_of (M:=[]) ⟨rfl,rfl⟩ fun _ hw=>HpOk.pick (H:=[]) hw [] 0 rfl)

def f_ref08_Size (p0:CellA):Option UInt64:=
 ret (shl64 1 (toU64 p0.lev).toNat) fun x1=>
 some x1
set_option maxRecDepth 100000 in
theorem c_ref08_Size {p0:CellA} {r:UInt64} (h:f_ref08_Size p0=some r)  : Con Tryz.prog K w0 140 [.agg (encCell p0).toArray] [] H (fun u M=>u=vU64 r∧M=[]):=by
 unfold f_ref08_Size at h
 refine Con.enter Tryz.func140 rfl rfl ?_
 refine SX.sr ?_
 refine SL.box (.r rfl) rfl (fun _=>trivial) fun b1=>?_
 refine SL.asg (.r rfl) rfl (SL.nx (SX.sr ?_))
 obtain ⟨x1,ex1,h⟩:=retE h
 refine SL.fa (.r rfl) rfl fo54_2 (SL.ld (.r rfl) sc3 rfl (cell_own 0 rfl rfl) (SL.cv (.r rfl) rfl (Cv.i_64 ty3 ty166) ?_))
 refine SL.bin (.r rfl) rfl rfl (Bin.shl64 (a:=1) (k:=.u64) (n:=(toU64 p0.lev).toNat)) ?_
 refine SL.asgX (u:=vU64 x1) (.r rfl) rfl (congrArg vU64 ex1) ?_
 refine SL.nx (SX.ret ?_)
 obtain rfl:=Option.some.inj h
 exact SQ.fret (res1 rfl rfl) (ret_of (M:=[]) ⟨rfl,rfl⟩ fun _ hw=>HpOk.pick (H:=[_]) hw [] 1 rfl)

def f_ref08_Right (p0:CellA):Option Bool:=
 cond ((((decide (p0.lev<0))||(decide (31<p0.lev)))||(decide (2147483648≤p0.x)))||(decide (2147483648≤p0.y)))
 (
  some false)
 (
  (f_ref08_Size p0).bind fun y1=>
  (rem64 p0.x.toUInt64 y1).bind fun q1=>
  (andO (decide (q1=0)) ((f_ref08_Size p0).bind fun y2=>(rem64 p0.y.toUInt64 y2).bind fun q2=>some (decide (q2=0)))).bind fun y3=>
  some y3)
set_option maxRecDepth 100000 in
theorem c_ref08_Right {p0:CellA} {r:Bool} (h:f_ref08_Right p0=some r)  : Con Tryz.prog K w0 139 [.agg (encCell p0).toArray] [] H (fun u M=>u=vB r∧M=[]):=by
 unfold f_ref08_Right at h
 refine Con.enter Tryz.func139 rfl rfl ?_
 refine SX.sr ?_
 refine SL.box (.r rfl) rfl (fun _=>trivial) fun b1=>?_
 refine SL.asg (.r rfl) rfl (SL.nx (SX.seq (SX.sr (SL.fa (.r rfl) rfl fo54_2 (SL.ld (.r rfl) sc3 rfl (cell_own 0 rfl rfl) (SL.bin (.r rfl) rfl rfl Bin.ltI (SL.mv (.r rfl) rfl ?_)))))))
 refine SL.or (c:=decide (31<p0.lev)) 6 4 10 rfl (fun hb k=>?_) (fun hb k=>?_) ?_
 refine SL.pass rfl rfl rfl (SL.pass rfl rfl rfl (SL.pass rfl rfl rfl (SL.pk (.r rfl) rfl rfl ?_)))
 exact k.mono (by repeat' (first | exact trivial | refine And.intro rfl ?_))
 refine SL.fa (.r rfl) rfl fo54_2 (SL.ld (.r rfl) sc3 rfl (cell_own 0 rfl rfl) (SL.bin (.r rfl) rfl rfl Bin.gtI (SL.pk (.r rfl) rfl rfl ?_)))
 exact k.mono (by repeat' (first | exact trivial | refine And.intro rfl ?_))
 refine SL.mv (.r rfl) rfl ?_
 refine SL.or (c:=decide (2147483648≤p0.x)) 11 4 15 rfl (fun hb k=>?_) (fun hb k=>?_) ?_
 refine SL.pass rfl rfl rfl (SL.pass rfl rfl rfl (SL.pass rfl rfl rfl (SL.pk (.r rfl) rfl rfl ?_)))
 exact k.mono (by repeat' (first | exact trivial | refine And.intro rfl ?_))
 refine SL.fa (.r rfl) rfl fo54_0 (SL.ld (.r rfl) sc29 rfl (cell_own 0 rfl rfl) ?_)
 refine SL.bin (.r rfl) rfl rfl (Bin.ge32 (b:=2147483648)) ?_
 refine SL.pk (.r rfl) rfl rfl ?_
 exact k.mono (by repeat' (first | exact trivial | refine And.intro rfl ?_))
 refine SL.mv (.r rfl) rfl ?_
 refine SL.or (c:=decide (2147483648≤p0.y)) 16 4 20 rfl (fun hb k=>?_) (fun hb k=>?_) ?_
 refine SL.pass rfl rfl rfl (SL.pass rfl rfl rfl (SL.pass rfl rfl rfl (SL.pk (.r rfl) rfl rfl ?_)))
 exact k.mono (by repeat' (first | exact trivial | refine And.intro rfl ?_))
 refine SL.fa (.r rfl) rfl fo54_1 (SL.ld (.r rfl) sc29 rfl (cell_own 0 rfl rfl) ?_)
 refine SL.bin (.r rfl) rfl rfl (Bin.ge32 (b:=2147483648)) ?_
 refine SL.pk (.r rfl) rfl rfl ?_
 exact k.mono (by repeat' (first | exact trivial | refine And.intro rfl ?_))
 refine SL.nx ?_
 refine SX.cond rfl (fun hc1=>?_) (fun hc1=>?_)
 replace h:=cT hc1 h
 refine SX.sr (SL.asg (.r rfl) rfl (SL.nx (SX.ret (SQ.thnR ?_))))
 obtain rfl:=Option.some.inj h
 exact SQ.fret (res1 rfl rfl) (ret_of (M:=[]) ⟨rfl,rfl⟩ fun _ hw=>HpOk.pick (H:=[_]) hw [] 1 rfl)
 replace h:=cF hc1 h
 refine SX.skip (SQ.thn (SX.seq ?_))
 obtain ⟨y1,hy1,h⟩:=bnd h
 obtain ⟨q1,hq1,h⟩:=bnd h
 obtain ⟨y3,hy3,h⟩:=bnd h
 refine SX.drawI mix [0] (Pl.of [(true,0),(true,1),(true,2),(true,3),(false,4),(true,5),(true,6),(true,7),(true,8),(true,9),(true,10),(true,11),(false,12),(false,13),(false,14),(false,15),(false,16)]) (by kernel_rfl) (SL.fa (.r rfl) rfl fo54_0 (SL.ld (.r rfl) sc29 rfl (cell_own 0 rfl rfl) (SL.cv (.r rfl) rfl (Cv.u32_64 ty29 ty48) (SL.ldA [vU32 p0.x,vU32 p0.y,vI p0.lev] (.r rfl) ag54 rfl rfl (cells_all 0 rfl) ?_))))
 refine SL.call (vs:=[_]) (Hin:=[]) (Hr:=_::_) (.r rfl) rfl ⟨rfl,trivial⟩ cal140 rfl rfl ((c_ref08_Size hy1 :)) ?_
 rintro _ _ ⟨rfl,rfl⟩
 refine ⟨⟨⟨0,rfl⟩,trivial⟩,?_⟩
 refine SL.bin (.r rfl) rfl rfl (Bin.mod64O hq1) ?_
 refine SL.bin (.r rfl) rfl rfl (Bin.eq64 (b:=0)) ?_
 refine SL.mv (.r rfl) rfl ?_
 refine SL.andN 28 8 36 hy3 rfl (fun hb hg4 k=>?_) (fun hb k=>?_) ?_
 obtain ⟨y2,hy2,hg4⟩:=bnd hg4
 obtain ⟨q2,hq2,hg4⟩:=bnd hg4
 obtain rfl:=Option.some.inj hg4
 refine SL.fa (.r rfl) rfl fo54_1 (SL.ld (.r rfl) sc29 rfl (cell_own 0 rfl rfl) (SL.cv (.r rfl) rfl (Cv.u32_64 ty29 ty48) (SL.ldA [vU32 p0.x,vU32 p0.y,vI p0.lev] (.r rfl) ag54 rfl rfl (cells_all 0 rfl) ?_)))
 refine SL.call (vs:=[_]) (Hin:=[]) (Hr:=_::_) (.r rfl) rfl ⟨rfl,trivial⟩ cal140 rfl rfl ((c_ref08_Size hy2 :)) ?_
 rintro _ _ ⟨rfl,rfl⟩
 refine ⟨⟨⟨0,rfl⟩,trivial⟩,?_⟩
 refine SL.bin (.r rfl) rfl rfl (Bin.mod64O hq2) ?_
 refine SL.bin (.r rfl) rfl rfl (Bin.eq64 (b:=0)) ?_
 refine SL.pk (.r rfl) rfl rfl ?_
 exact k.mono (by repeat' (first | exact trivial | refine And.intro rfl ?_))
 refine SL.pass rfl rfl rfl (SL.pass rfl rfl rfl (SL.pass rfl rfl rfl (SL.pass rfl rfl rfl (SL.pass rfl rfl rfl (SL.pass rfl rfl rfl (SL.pass rfl rfl rfl (SL.pk (.r rfl) rfl rfl ?_)))))))
 exact k.mono (by repeat' (first | exact trivial | refine And.intro rfl ?_))
 refine SL.asg (.r rfl) rfl (SL.nx (SX.ret ?_))
 obtain rfl:=Option.some.inj h
 exact SQ.fret (res1 rfl rfl) (ret_of (M:=[]) ⟨rfl,rfl⟩ fun _ hw=>HpOk.pick (H:=[_]) hw [] 1 rfl)

def f_ref08_Has (p0:CellA) (p1:UInt32) (p2:UInt32):Option Bool:=
 (f_ref08_Right p0).bind fun y1=>
 (andO ((y1&&(decide (p0.x≤p1)))&&(decide (p0.y≤p2))) ((f_ref08_Size p0).bind fun y2=>some (decide (p1.toUInt64<p0.x.toUInt64+y2)))).bind fun y3=>
 (andO y3 ((f_ref08_Size p0).bind fun y4=>some (decide (p2.toUInt64<p0.y.toUInt64+y4)))).bind fun y5=>
 some y5
set_option maxRecDepth 100000 in
theorem c_ref08_Has {p0:CellA} {p1:UInt32} {p2:UInt32} {r:Bool} (h:f_ref08_Has p0 p1 p2=some r)  : Con Tryz.prog K w0 97 [.agg (encCell p0).toArray,vU32 p1,vU32 p2] [] H (fun u M=>u=vB r∧M=[]):=by
 unfold f_ref08_Has at h
 refine Con.enter Tryz.func97 rfl rfl ?_
 refine SX.sr ?_
 refine SL.box (.r rfl) rfl (fun _=>trivial) fun b1=>?_
 refine SL.asg (.r rfl) rfl (SL.nx (SX.sr ?_))
 obtain ⟨y1,hy1,h⟩:=bnd h
 refine SL.ldA [vU32 p0.x,vU32 p0.y,vI p0.lev] (.r rfl) ag54 rfl rfl (cells_all 0 rfl) ?_
 refine SL.call (vs:=[_]) (Hin:=[]) (Hr:=_::_) (.r rfl) rfl ⟨rfl,trivial⟩ cal139 rfl rfl ((c_ref08_Right hy1 :)) ?_
 rintro _ _ ⟨rfl,rfl⟩
 refine ⟨trivial,?_⟩
 refine SL.asg (.r rfl) rfl (SL.nx (SX.seq ?_))
 obtain ⟨y3,hy3,h⟩:=bnd h
 obtain ⟨y5,hy5,h⟩:=bnd h
 refine SX.drawI mix [0] (Pl.of [(true,0),(true,1),(true,2),(true,3),(true,4),(true,5),(true,6),(true,7),(true,8),(true,9),(true,10),(true,11),(true,12),(true,13),(true,14),(true,15),(true,16),(true,17),(true,18),(true,19),(false,20),(true,21),(true,22),(true,23),(true,24),(true,25),(true,26),(true,27),(true,28),(true,29),(true,30),(false,31),(false,32),(false,33),(false,34),(false,35)]) (by kernel_rfl) (SL.mv (.r rfl) rfl (SL.mv (.r rfl) rfl ?_))
 refine SL.and (c:=decide (p0.x≤p1)) 11 5 16 rfl (fun hb k=>?_) (fun hb k=>?_) ?_
 refine SL.mv (.r rfl) rfl (SL.fa (.r rfl) rfl fo54_0 (SL.ld (.r rfl) sc29 rfl (cell_own 0 rfl rfl) (SL.bin (.r rfl) rfl rfl Bin.ge32 (SL.pk (.r rfl) rfl rfl ?_))))
 exact k.mono (by repeat' (first | exact trivial | refine And.intro rfl ?_))
 refine SL.pass rfl rfl rfl (SL.pass rfl rfl rfl (SL.pass rfl rfl rfl (SL.pass rfl rfl rfl (SL.pk (.r rfl) rfl rfl ?_))))
 exact k.mono (by repeat' (first | exact trivial | refine And.intro rfl ?_))
 refine SL.mv (.r rfl) rfl ?_
 refine SL.and (c:=decide (p0.y≤p2)) 17 5 22 rfl (fun hb k=>?_) (fun hb k=>?_) ?_
 refine SL.mv (.r rfl) rfl (SL.fa (.r rfl) rfl fo54_1 (SL.ld (.r rfl) sc29 rfl (cell_own 0 rfl rfl) (SL.bin (.r rfl) rfl rfl Bin.ge32 (SL.pk (.r rfl) rfl rfl ?_))))
 exact k.mono (by repeat' (first | exact trivial | refine And.intro rfl ?_))
 refine SL.pass rfl rfl rfl (SL.pass rfl rfl rfl (SL.pass rfl rfl rfl (SL.pass rfl rfl rfl (SL.pk (.r rfl) rfl rfl ?_))))
 exact k.mono (by repeat' (first | exact trivial | refine And.intro rfl ?_))
 refine SL.mv (.r rfl) rfl ?_
 refine SL.andN 23 10 33 hy3 rfl (fun hb hg3 k=>?_) (fun hb k=>?_) ?_
 obtain ⟨y2,hy2,hg3⟩:=bnd hg3
 obtain rfl:=Option.some.inj hg3
 refine SL.mv (.r rfl) rfl (SL.cv (.r rfl) rfl (Cv.u32_64 ty29 ty48) (SL.fa (.r rfl) rfl fo54_0 (SL.ld (.r rfl) sc29 rfl (cell_own 0 rfl rfl) (SL.cv (.r rfl) rfl (Cv.u32_64 ty29 ty48) (SL.ldA [vU32 p0.x,vU32 p0.y,vI p0.lev] (.r rfl) ag54 rfl rfl (cells_all 0 rfl) ?_)))))
 refine SL.call (vs:=[_]) (Hin:=[]) (Hr:=_::_) (.r rfl) rfl ⟨rfl,trivial⟩ cal140 rfl rfl ((c_ref08_Size hy2 :)) ?_
 rintro _ _ ⟨rfl,rfl⟩
 refine ⟨⟨⟨0,rfl⟩,trivial⟩,?_⟩
 refine SL.bin (.r rfl) rfl rfl Bin.add64 (SL.bin (.r rfl) rfl rfl Bin.lt64 (SL.pk (.r rfl) rfl rfl ?_))
 exact k.mono (by repeat' (first | exact trivial | refine And.intro rfl ?_))
 refine SL.pass rfl rfl rfl (SL.pass rfl rfl rfl (SL.pass rfl rfl rfl (SL.pass rfl rfl rfl (SL.pass rfl rfl rfl (SL.pass rfl rfl rfl (SL.pass rfl rfl rfl (SL.pass rfl rfl rfl ?_)))))))
 refine SL.pass rfl rfl rfl (SL.pk (.r rfl) rfl rfl ?_)
 exact k.mono (by repeat' (first | exact trivial | refine And.intro rfl ?_))
 refine SL.mv (.r rfl) rfl ?_
 refine SL.andN 34 10 44 hy5 rfl (fun hb hg4 k=>?_) (fun hb k=>?_) ?_
 obtain ⟨y4,hy4,hg4⟩:=bnd hg4
 obtain rfl:=Option.some.inj hg4
 refine SL.mv (.r rfl) rfl (SL.cv (.r rfl) rfl (Cv.u32_64 ty29 ty48) (SL.fa (.r rfl) rfl fo54_1 (SL.ld (.r rfl) sc29 rfl (cell_own 0 rfl rfl) (SL.cv (.r rfl) rfl (Cv.u32_64 ty29 ty48) (SL.ldA [vU32 p0.x,vU32 p0.y,vI p0.lev] (.r rfl) ag54 rfl rfl (cells_all 0 rfl) ?_)))))
 refine SL.call (vs:=[_]) (Hin:=[]) (Hr:=_::_) (.r rfl) rfl ⟨rfl,trivial⟩ cal140 rfl rfl ((c_ref08_Size hy4 :)) ?_
 rintro _ _ ⟨rfl,rfl⟩
 refine ⟨⟨⟨0,rfl⟩,trivial⟩,?_⟩
 refine SL.bin (.r rfl) rfl rfl Bin.add64 (SL.bin (.r rfl) rfl rfl Bin.lt64 (SL.pk (.r rfl) rfl rfl ?_))
 exact k.mono (by repeat' (first | exact trivial | refine And.intro rfl ?_))
 refine SL.pass rfl rfl rfl (SL.pass rfl rfl rfl (SL.pass rfl rfl rfl (SL.pass rfl rfl rfl (SL.pass rfl rfl rfl (SL.pass rfl rfl rfl (SL.pass rfl rfl rfl (SL.pass rfl rfl rfl ?_)))))))
 refine SL.pass rfl rfl rfl (SL.pk (.r rfl) rfl rfl ?_)
 exact k.mono (by repeat' (first | exact trivial | refine And.intro rfl ?_))
 refine SL.asg (.r rfl) rfl (SL.nx (SX.ret ?_))
 obtain rfl:=Option.some.inj h
 exact SQ.fret (res1 rfl rfl) (ret_of (M:=[]) ⟨rfl,rfl⟩ fun _ hw=>HpOk.pick (H:=[_]) hw [] 1 rfl)

def f_ref08_Quarter (p0:CellA) (p1:Int):Option (CellA×Int):=
 (f_ref08_Right p0).bind fun y1=>
 cond ((((!y1)||(decide (p0.lev=0)))||(decide (p1<0)))||(decide (3<p1)))
 (
  some ((⟨0,0,0⟩:CellA),2))
 (
  (f_ref08_Size p0).bind fun y2=>
  (quo64 y2 2).bind fun q1=>
  (remI p1 2).bind fun q2=>
  (quoI p1 2).bind fun q3=>
  some ((⟨p0.x+(q1.toUInt32*(toU32 q2)),p0.y+(q1.toUInt32*(toU32 q3)),wI (p0.lev-1)⟩:CellA),0))
set_option maxRecDepth 100000 in
theorem c_ref08_Quarter {p0:CellA} {p1:Int} {r:CellA×Int} (h:f_ref08_Quarter p0 p1=some r)  : Con Tryz.prog K w0 96 [.agg (encCell p0).toArray,vI p1] [] H (fun u M=>u=.tuple #[.agg (encCell r.1).toArray,vI r.2]∧M=[]):=by
 unfold f_ref08_Quarter at h
 refine Con.enter Tryz.func96 rfl rfl ?_
 refine SX.sr ?_
 refine SL.box (.r rfl) rfl (fun _=>trivial) fun b1=>?_
 refine SL.alloc (.r rfl) ze54 (fun _=>trivial) fun b2=>?_
 refine SL.asg (.r rfl) rfl (SL.nx (SX.sr ?_))
 obtain ⟨y1,hy1,h⟩:=bnd h
 refine SL.ldA [vU32 p0.x,vU32 p0.y,vI p0.lev] (.r rfl) ag54 rfl rfl (cells_all 1 rfl) ?_
 refine SL.call (vs:=[_]) (Hin:=[]) (Hr:=_::_::_) (.r rfl) rfl ⟨rfl,trivial⟩ cal139 rfl rfl ((c_ref08_Right hy1 :)) ?_
 rintro _ _ ⟨rfl,rfl⟩
 refine ⟨trivial,?_⟩
 refine SL.asg (.r rfl) rfl (SL.nx (SX.seq (SX.sr (SL.mv (.r rfl) rfl (SL.not (.r rfl) rfl (SL.mv (.r rfl) rfl ?_))))))
 refine SL.or (c:=decide (p0.lev=0)) 12 4 16 rfl (fun hb k=>?_) (fun hb k=>?_) ?_
 refine SL.pass rfl rfl rfl (SL.pass rfl rfl rfl (SL.pass rfl rfl rfl (SL.pk (.r rfl) rfl rfl ?_)))
 exact k.mono (by repeat' (first | exact trivial | refine And.intro rfl ?_))
 refine SL.fa (.r rfl) rfl fo54_2 (SL.ld (.r rfl) sc3 rfl (cell_own 1 rfl rfl) (SL.bin (.r rfl) rfl rfl Bin.eqI (SL.pk (.r rfl) rfl rfl ?_)))
 exact k.mono (by repeat' (first | exact trivial | refine And.intro rfl ?_))
 refine SL.mv (.r rfl) rfl ?_
 refine SL.or (c:=decide (p1<0)) 17 3 20 rfl (fun hb k=>?_) (fun hb k=>?_) ?_
 refine SL.pass rfl rfl rfl (SL.pass rfl rfl rfl (SL.pk (.r rfl) rfl rfl ?_))
 exact k.mono (by repeat' (first | exact trivial | refine And.intro rfl ?_))
 refine SL.mv (.r rfl) rfl (SL.bin (.r rfl) rfl rfl Bin.ltI (SL.pk (.r rfl) rfl rfl ?_))
 exact k.mono (by repeat' (first | exact trivial | refine And.intro rfl ?_))
 refine SL.mv (.r rfl) rfl ?_
 refine SL.or (c:=decide (3<p1)) 21 3 24 rfl (fun hb k=>?_) (fun hb k=>?_) ?_
 refine SL.pass rfl rfl rfl (SL.pass rfl rfl rfl (SL.pk (.r rfl) rfl rfl ?_))
 exact k.mono (by repeat' (first | exact trivial | refine And.intro rfl ?_))
 refine SL.mv (.r rfl) rfl (SL.bin (.r rfl) rfl rfl Bin.gtI (SL.pk (.r rfl) rfl rfl ?_))
 exact k.mono (by repeat' (first | exact trivial | refine And.intro rfl ?_))
 refine SL.nx ?_
 refine SX.cond rfl (fun hc1=>?_) (fun hc1=>?_)
 replace h:=cT hc1 h
 refine SX.sr (SL.bld [] (.r rfl) pl54 pk54 ze54 trivial rfl (SL.st 0 ⟨rfl,rfl,rfl⟩ rfl rfl rfl sz54 rfl rfl rfl trivial (SL.asg (.r rfl) rfl (SL.nx (SX.ret (SQ.thnR ?_))))))
 obtain rfl:=Option.some.inj h
 exact SQ.fret (resv2 rfl (resv.ag 0 (encCell (⟨0,0,0⟩:CellA)) ag54 rfl rfl rfl rfl) rfl) (ret_of (M:=[]) ⟨rfl,rfl⟩ fun _ hw=>HpOk.pick (H:=[_,_]) hw [] 2 rfl)
 replace h:=cF hc1 h
 refine SX.skip (SQ.thn (SX.sr ?_))
 obtain ⟨y2,hy2,h⟩:=bnd h
 obtain ⟨q1,hq1,h⟩:=bnd h
 refine SL.ldA [vU32 p0.x,vU32 p0.y,vI p0.lev] (.r rfl) ag54 rfl rfl (cells_all 1 rfl) ?_
 refine SL.call (vs:=[_]) (Hin:=[]) (Hr:=_::_::_) (.r rfl) rfl ⟨rfl,trivial⟩ cal140 rfl rfl ((c_ref08_Size hy2 :)) ?_
 rintro _ _ ⟨rfl,rfl⟩
 refine ⟨trivial,?_⟩
 refine SL.bin (.r rfl) rfl rfl (Bin.div64O (b:=2) hq1) ?_
 refine SL.cv (.r rfl) rfl (Cv.u64_32 ty48 ty29) (SL.asg (.r rfl) rfl (SL.nx (SX.sr ?_)))
 obtain ⟨q2,hq2,h⟩:=bnd h
 obtain ⟨q3,hq3,h⟩:=bnd h
 refine SL.fa (.r rfl) rfl fo54_0 (SL.ld (.r rfl) sc29 rfl (cell_own 1 rfl rfl) (SL.mv (.r rfl) rfl (SL.mv (.r rfl) rfl (SL.bin (.r rfl) rfl rfl (Bin.modO hq2) (SL.cv (.r rfl) rfl (Cv.i_32 ty3 ty29) (SL.bin (.r rfl) rfl rfl Bin.mul32 (SL.bin (.r rfl) rfl rfl Bin.add32 ?_)))))))
 refine SL.fa (.r rfl) rfl fo54_1 (SL.ld (.r rfl) sc29 rfl (cell_own 1 rfl rfl) (SL.mv (.r rfl) rfl (SL.mv (.r rfl) rfl (SL.bin (.r rfl) rfl rfl (Bin.divO hq3) (SL.cv (.r rfl) rfl (Cv.i_32 ty3 ty29) (SL.bin (.r rfl) rfl rfl Bin.mul32 (SL.bin (.r rfl) rfl rfl Bin.add32 ?_)))))))
 refine SL.fa (.r rfl) rfl fo54_2 (SL.ld (.r rfl) sc3 rfl (cell_own 1 rfl rfl) (SL.bin (.r rfl) rfl rfl Bin.subW (SL.bld [_,_,_] (.r rfl) pl54 pk54 ze54 ⟨rfl,rfl,rfl,trivial⟩ rfl (SL.st 0 ⟨rfl,rfl,rfl⟩ rfl rfl rfl sz54 rfl rfl rfl trivial (SL.asg (.r rfl) rfl (SL.nx (SX.ret ?_)))))))
 obtain rfl:=Option.some.inj h
 exact SQ.fret (resv2 rfl (resv.ag 0 (encCell (⟨p0.x+(q1.toUInt32*(toU32 q2)),p0.y+(q1.toUInt32*(toU32 q3)),wI (p0.lev-1)⟩:CellA)) ag54 rfl rfl rfl rfl) rfl) (ret_of (M:=[]) ⟨rfl,rfl⟩ fun _ hw=>HpOk.pick (H:=[_,_]) hw [] 2 rfl)

def f_ref09_around_j1 (y1:UInt32) (y2:UInt32) (y3:Int):Option CellA:=
 some (⟨y1,y2,y3⟩:CellA)
def f_ref09_around_j2 (a1:Int) (nx_f_ref09_around_l1:UInt32×UInt32×Int×Int→Option CellA) (y7:UInt32) (y8:UInt32) (y9:Int):Option CellA:=
 ret (wI (a1+1)) fun i_1=>
 nx_f_ref09_around_l1 (y7,y8,y9,i_1)
def f_ref09_around_l2_b (a1:Int) (x3:RowA) (nx_f_ref09_around_l1:UInt32×UInt32×Int×Int→Option CellA) (nx_f_ref09_around_l2:UInt32×UInt32×Int×Bool→Option CellA) (y11:UInt32) (y12:UInt32) (y13:Int) (a2:Bool):Option CellA:=
 cond (!a2)
 (
  (f_ref08_Has (⟨(shl64 (shr64 y11.toUInt64 (toU64 (wI (y13+1))).toNat) (toU64 (wI (y13+1))).toNat).toUInt32,(shl64 (shr64 y12.toUInt64 (toU64 (wI (y13+1))).toNat) (toU64 (wI (y13+1))).toNat).toUInt32,wI (y13+1)⟩:CellA) x3.x x3.y).bind fun y14=>
  nx_f_ref09_around_l2 ((shl64 (shr64 y11.toUInt64 (toU64 (wI (y13+1))).toNat) (toU64 (wI (y13+1))).toNat).toUInt32,(shl64 (shr64 y12.toUInt64 (toU64 (wI (y13+1))).toNat) (toU64 (wI (y13+1))).toNat).toUInt32,wI (y13+1),y14))
 (
  f_ref09_around_j2 a1 nx_f_ref09_around_l1 y11 y12 y13)
def f_ref09_around_l2 (a1:Int) (x3:RowA) (nx_f_ref09_around_l1:UInt32×UInt32×Int×Int→Option CellA):Nat→(UInt32×UInt32×Int×Bool)→Option CellA:=loopN fun nx x=>f_ref09_around_l2_b a1 x3 nx_f_ref09_around_l1 nx x.1 x.2.1 x.2.2.1 x.2.2.2
def f_ref09_around_l1_b (n:Nat) (p0:List RowA) (nx_f_ref09_around_l1:UInt32×UInt32×Int×Int→Option CellA) (y4:UInt32) (y5:UInt32) (y6:Int) (a1:Int):Option CellA:=
 cond (decide (a1<(p0.length:Int)))
 (
  (nthI p0 a1).bind fun x3=>
  (f_ref08_Has (⟨y4,y5,y6⟩:CellA) x3.x x3.y).bind fun y10=>
  f_ref09_around_l2 a1 x3 nx_f_ref09_around_l1 n (y4,y5,y6,y10))
 (
  f_ref09_around_j1 y4 y5 y6)
def f_ref09_around_l1 (n:Nat) (p0:List RowA):Nat→(UInt32×UInt32×Int×Int)→Option CellA:=loopN fun nx x=>f_ref09_around_l1_b n p0 nx x.1 x.2.1 x.2.2.1 x.2.2.2
def f_ref09_around (n:Nat) (p0:List RowA):Option CellA:=
 (nthI p0 0).bind fun x1=>
 (nthI p0 0).bind fun x2=>
 f_ref09_around_l1 n p0 n (x1.x,x2.y,0,1)
set_option maxRecDepth 100000 in
theorem c_ref09_around {n:Nat} {v0_:Value} {p0:List RowA} {r:CellA} (h:f_ref09_around n p0=some r) (hs0_:SlOf K w0 encRow 4 v0_ p0):Con Tryz.prog K w0 95 [v0_] [] H (fun u M=>u=.agg (encCell r).toArray∧M=[]):=by
 unfold f_ref09_around at h
 refine Con.enter Tryz.func95 rfl rfl ?_
 refine SX.sr ?_
 refine SL.alloc (.r rfl) ze54 (fun _=>trivial) fun b1=>?_
 refine SL.nx (SX.seq ?_)
 obtain ⟨x1,hx1,h⟩:=bnd h
 obtain ⟨x2,hx2,h⟩:=bnd h
 refine SX.drawI mix [] (Pl.ap [(true,0),(true,1),(true,2),(true,3),(true,4),(true,5),(true,6),(true,7),(true,8),(false,9)] (.last 10 .nil)) (by kernel_rfl) (SL.mv (.r rfl) rfl ?_)
 refine SL.iaN hx1 hs0_ (.r rfl) ty35 sz79 rfl rfl fun be1 of1 hc1=>?_
 refine SL.fa (.r rfl) rfl fo79_1 ?_
 refine SL.ld (.r rfl) sc29 rfl (cell_kept (j:=1) hc1 rfl) ?_
 refine SL.mv (.r rfl) rfl ?_
 refine SL.iaN hx2 hs0_ (.r rfl) ty35 sz79 rfl rfl fun be2 of2 hc2=>?_
 refine SL.fa (.r rfl) rfl fo79_2 ?_
 refine SL.ld (.r rfl) sc29 rfl (cell_kept (j:=2) hc2 rfl) ?_
 refine SL.bld [_,_] (.r rfl) pl54 pk54 ze54 ⟨rfl,rfl,trivial⟩ rfl ?_
 refine SL.alloc (.r rfl) ze54 (fun _=>trivial) fun b2=>?_
 refine SL.last (SL.st 0 ⟨rfl,rfl,rfl⟩ rfl rfl rfl sz54 rfl rfl rfl trivial (SL.nx ?_))
 refine SX.meetD (α:=UInt32×UInt32×Int) (fun x=>f_ref09_around_j1 x.1 x.2.1 x.2.2=some r) (fun x=>[(2,vP b1 0),(3,vP b2 0)]) (fun x=>own b1 (.cells #[vU32 0,vU32 0,vI 0] 54)::own b2 (.cells #[vU32 x.1,vU32 x.2.1,vI x.2.2] 54)::H) ?_ (fun x D h=>?_)
 refine SX.sr (SL.asg (.r rfl) rfl (SL.nx (SX.block ?_)))
 refine SX.heap (SX.mono (SX.loop (α:=Nat×UInt32×UInt32×Int×Int) (fun x=>f_ref09_around_l1 n p0 x.1 (x.2.1,x.2.2.1,x.2.2.2.1,x.2.2.2.2)=some r) (fun x=>[(0,v0_),(2,vP b1 0),(3,vP b2 0),(4,vI x.2.2.2.2)]) (fun x=>own b1 (.cells #[vU32 0,vU32 0,vI 0] 54)::own b2 (.cells #[vU32 x.2.1,vU32 x.2.2.1,vI x.2.2.2.1] 54)::H) (fun x=>x.1) (fun x D h=>?_) (n,x1.x,x2.y,0,1) h) (by repeat' (first | exact trivial | refine And.intro rfl ?_))) (fun _ hw=>HpOk.pick (H:=[_,_]) hw [1,0] 2 rfl)
 obtain ⟨m1,y4,y5,y6,a1⟩:=x
 dsimp only at h
 rcases m1 with _ | m1
 cases (show (none:Option _)=some r from h)
 replace h:f_ref09_around_l1_b n p0 (f_ref09_around_l1 n p0 m1) y4 y5 y6 a1=some r:=h
 unfold f_ref09_around_l1_b at h
 refine SX.re [(0,v0_),(2,vP b1 0),(3,vP b2 0),(4,vI a1)] (own b1 (.cells #[vU32 0,vU32 0,vI 0] 54)::own b2 (.cells #[vU32 y4,vU32 y5,vI y6] 54)::H) ?_ (by repeat' (first | exact trivial | refine And.intro rfl ?_))
 refine SX.seq (SX.sr (SL.mv (.r rfl) rfl (SL.mv (.r rfl) rfl (SL.lenV hs0_ (.r rfl) ty35 rfl (SL.bin (.r rfl) rfl rfl Bin.ltI (SL.nx ?_))))))
 refine SX.cond rfl (fun hc3=>?_) (fun hc3=>?_)
 replace h:=cT hc3 h
 refine SX.skip (SQ.thn ?_)
 refine SX.meetD (α:=UInt32×UInt32×Int) (fun x=>f_ref09_around_j2 a1 (f_ref09_around_l1 n p0 m1) x.1 x.2.1 x.2.2=some r) (fun x=>[(0,v0_),(2,vP b1 0),(3,vP b2 0),(4,vI a1)]) (fun x=>own b1 (.cells #[vU32 0,vU32 0,vI 0] 54)::own b2 (.cells #[vU32 x.1,vU32 x.2.1,vI x.2.2] 54)::H) ?_ (fun x D h=>?_)
 refine SX.block (SX.sr ?_)
 obtain ⟨x3,hx3,h⟩:=bnd h
 refine SL.mv (.r rfl) rfl (SL.mv (.r rfl) rfl ?_)
 refine SL.iaN hx3 hs0_ (.r rfl) ty35 sz79 rfl rfl fun be3 of3 hc4=>?_
 refine SL.ldA (encRow x3) (.r rfl) ag79 rfl rfl (cells_kept hc4) ?_
 refine SL.alloc (.r rfl) ze79 (fun _=>trivial) fun b3=>?_
 refine SL.st 0 ⟨rfl,rfl,rfl⟩ rfl rfl rfl sz79 rfl rfl rfl trivial (SL.nx (SX.sr ?_))
 obtain ⟨y10,hy10,h⟩:=bnd h
 refine SL.ldA [vU32 y4,vU32 y5,vI y6] (.r rfl) ag54 rfl rfl (cells_all 2 rfl) (SL.fa (.r rfl) rfl fo79_1 (SL.ld (.r rfl) sc29 rfl (cell_own 0 rfl rfl) (SL.fa (.r rfl) rfl fo79_2 (SL.ld (.r rfl) sc29 rfl (cell_own 0 rfl rfl) ?_))))
 refine SL.call (vs:=[_,_,_]) (Hin:=[]) (Hr:=_::_::_::_) (.r rfl) rfl ⟨rfl,rfl,rfl,trivial⟩ cal97 rfl rfl ((c_ref08_Has hy10 :)) ?_
 rintro _ _ ⟨rfl,rfl⟩
 refine ⟨trivial,?_⟩
 refine SL.asg (.r rfl) rfl (SL.nx (SX.block ?_))
 refine SX.heap (SX.mono (SX.loop (α:=Nat×UInt32×UInt32×Int×Bool) (fun x=>f_ref09_around_l2 a1 x3 (f_ref09_around_l1 n p0 m1) x.1 (x.2.1,x.2.2.1,x.2.2.2.1,x.2.2.2.2)=some r) (fun x=>[(0,v0_),(2,vP b1 0),(3,vP b2 0),(4,vI a1),(5,vP b3 0),(6,vB x.2.2.2.2)]) (fun x=>own b1 (.cells #[vU32 0,vU32 0,vI 0] 54)::own b2 (.cells #[vU32 x.2.1,vU32 x.2.2.1,vI x.2.2.2.1] 54)::own b3 (.cells #[vU64 x3.id,vU32 x3.x,vU32 x3.y,vS x3.txt] 79)::H) (fun x=>x.1) (fun x D h=>?_) (n,y4,y5,y6,y10) h) (by repeat' (first | exact trivial | refine And.intro rfl ?_))) (fun _ hw=>HpOk.pick (H:=[_,_,_]) hw [1,2,0] 3 rfl)
 obtain ⟨m2,y11,y12,y13,a2⟩:=x
 dsimp only at h
 rcases m2 with _ | m2
 cases (show (none:Option _)=some r from h)
 replace h:f_ref09_around_l2_b a1 x3 (f_ref09_around_l1 n p0 m1) (f_ref09_around_l2 a1 x3 (f_ref09_around_l1 n p0 m1) m2) y11 y12 y13 a2=some r:=h
 unfold f_ref09_around_l2_b at h
 refine SX.re [(0,v0_),(2,vP b1 0),(3,vP b2 0),(4,vI a1),(5,vP b3 0),(6,vB a2)] (own b1 (.cells #[vU32 0,vU32 0,vI 0] 54)::own b2 (.cells #[vU32 y11,vU32 y12,vI y13] 54)::own b3 (.cells #[vU64 x3.id,vU32 x3.x,vU32 x3.y,vS x3.txt] 79)::H) ?_ (by repeat' (first | exact trivial | refine And.intro rfl ?_))
 refine SX.seq (SX.sr (SL.mv (.r rfl) rfl (SL.not (.r rfl) rfl (SL.nx ?_))))
 refine SX.cond rfl (fun hc5=>?_) (fun hc5=>?_)
 replace h:=cT hc5 h
 refine SX.skip (SQ.thn (SX.block (SX.sr (SL.ldA [vU32 y11,vU32 y12,vI y13] (.r rfl) ag54 rfl rfl (cells_all 1 rfl) ?_))))
 refine SL.alloc (.r rfl) ze54 (fun _=>trivial) fun b4=>?_
 refine SL.st 0 ⟨rfl,rfl,rfl⟩ rfl rfl rfl sz54 rfl rfl rfl trivial (SL.nx (SX.sr (SL.fa (.r rfl) rfl fo54_2 (SL.ld (.r rfl) sc3 rfl (cell_own 0 rfl rfl) (SL.bin (.r rfl) rfl rfl Bin.addW (SL.fa (.r rfl) rfl fo54_2 (SL.st 0 ⟨rfl,rfl,rfl⟩ rfl rfl rfl sz3 rfl rfl rfl trivial (SL.nx (SX.sr (SL.fa (.r rfl) rfl fo54_0 (SL.ld (.r rfl) sc29 rfl (cell_own 0 rfl rfl) ?_)))))))))))
 refine SL.cv (.r rfl) rfl (Cv.u32_64 ty29 ty48) (SL.fa (.r rfl) rfl fo54_2 (SL.ld (.r rfl) sc3 rfl (cell_own 0 rfl rfl) (SL.cv (.r rfl) rfl (Cv.i_64 ty3 ty166) ?_)))
 refine SL.bin (.r rfl) rfl rfl (Bin.shr64 (k:=.u64) (n:=(toU64 (wI (y13+1))).toNat)) ?_
 refine SL.fa (.r rfl) rfl fo54_2 (SL.ld (.r rfl) sc3 rfl (cell_own 0 rfl rfl) (SL.cv (.r rfl) rfl (Cv.i_64 ty3 ty166) ?_))
 refine SL.bin (.r rfl) rfl rfl (Bin.shl64 (k:=.u64) (n:=(toU64 (wI (y13+1))).toNat)) ?_
 refine SL.cv (.r rfl) rfl (Cv.u64_32 ty48 ty29) (SL.fa (.r rfl) rfl fo54_0 (SL.st 0 ⟨rfl,rfl,rfl⟩ rfl rfl rfl sz29 rfl rfl rfl trivial (SL.nx (SX.sr (SL.fa (.r rfl) rfl fo54_1 (SL.ld (.r rfl) sc29 rfl (cell_own 0 rfl rfl) (SL.cv (.r rfl) rfl (Cv.u32_64 ty29 ty48) (SL.fa (.r rfl) rfl fo54_2 (SL.ld (.r rfl) sc3 rfl (cell_own 0 rfl rfl) ?_)))))))))
 refine SL.cv (.r rfl) rfl (Cv.i_64 ty3 ty166) ?_
 refine SL.bin (.r rfl) rfl rfl (Bin.shr64 (k:=.u64) (n:=(toU64 (wI (y13+1))).toNat)) ?_
 refine SL.fa (.r rfl) rfl fo54_2 (SL.ld (.r rfl) sc3 rfl (cell_own 0 rfl rfl) (SL.cv (.r rfl) rfl (Cv.i_64 ty3 ty166) ?_))
 refine SL.bin (.r rfl) rfl rfl (Bin.shl64 (k:=.u64) (n:=(toU64 (wI (y13+1))).toNat)) ?_
 refine SL.cv (.r rfl) rfl (Cv.u64_32 ty48 ty29) (SL.fa (.r rfl) rfl fo54_1 (SL.st 0 ⟨rfl,rfl,rfl⟩ rfl rfl rfl sz29 rfl rfl rfl trivial (SL.nx (SX.sr (SL.ldA [vU32 ((shl64 (shr64 y11.toUInt64 (toU64 (wI (y13+1))).toNat) (toU64 (wI (y13+1))).toNat).toUInt32),vU32 ((shl64 (shr64 y12.toUInt64 (toU64 (wI (y13+1))).toNat) (toU64 (wI (y13+1))).toNat).toUInt32),vI (wI (y13+1))] (.r rfl) ag54 rfl rfl (cells_all 0 rfl) (SL.st 2 ⟨rfl,rfl,rfl⟩ rfl rfl rfl sz54 rfl rfl rfl trivial (SL.nx (SX.region ?_))))))))
 obtain ⟨y14,hy14,h⟩:=bnd h
 refine SL.ldA [vU32 ((shl64 (shr64 y11.toUInt64 (toU64 (wI (y13+1))).toNat) (toU64 (wI (y13+1))).toNat).toUInt32),vU32 ((shl64 (shr64 y12.toUInt64 (toU64 (wI (y13+1))).toNat) (toU64 (wI (y13+1))).toNat).toUInt32),vI (wI (y13+1))] (.r rfl) ag54 rfl rfl (cells_all 2 rfl) (SL.fa (.r rfl) rfl fo79_1 (SL.ld (.r rfl) sc29 rfl (cell_own 3 rfl rfl) (SL.fa (.r rfl) rfl fo79_2 (SL.ld (.r rfl) sc29 rfl (cell_own 3 rfl rfl) ?_))))
 refine SL.call (vs:=[_,_,_]) (Hin:=[]) (Hr:=_::_::_::_::_) (.r rfl) rfl ⟨rfl,rfl,rfl,trivial⟩ cal97 rfl rfl ((c_ref08_Has hy14 :)) ?_
 rintro _ _ ⟨rfl,rfl⟩
 refine ⟨trivial,?_⟩
 refine SL.asg (.r rfl) rfl (SL.nil (SQ.blk ?_))
 exact SQ.again (m2,(shl64 (shr64 y11.toUInt64 (toU64 (wI (y13+1))).toNat) (toU64 (wI (y13+1))).toNat).toUInt32,(shl64 (shr64 y12.toUInt64 (toU64 (wI (y13+1))).toNat) (toU64 (wI (y13+1))).toNat).toUInt32,wI (y13+1),y14) h (Nat.lt_succ_self _) (by repeat' (first | exact trivial | refine And.intro rfl ?_)) (fun _ hw=>HpOk.pick (H:=[_,_,_,_]) hw [1,2,3] 4 rfl)
 replace h:=cF hc5 h
 refine SX.exit (SQ.thnE (SQ.lpE (SQ.blkE (SQ.blk ?_))))
 exact SQ.midD (y11,y12,y13) h (by repeat' (first | exact trivial | refine And.intro rfl ?_)) (fun _ hw=>HpOk.pick (H:=[_,_,_]) hw [0,1] 3 rfl)
 obtain ⟨y7,y8,y9⟩:=x
 dsimp only at h
 unfold f_ref09_around_j2 at h
 refine SX.re [(0,v0_),(2,vP b1 0),(3,vP b2 0),(4,vI a1)] (own b1 (.cells #[vU32 0,vU32 0,vI 0] 54)::own b2 (.cells #[vU32 y7,vU32 y8,vI y9] 54)::H) ?_ (by repeat' (first | exact trivial | refine And.intro rfl ?_))
 refine SX.region ?_
 obtain ⟨i_1,ei_1,h⟩:=retE h
 refine SL.mv (.r rfl) rfl (SL.bin (.r rfl) rfl rfl Bin.addW ?_)
 refine SL.asgX (u:=vI i_1) (.r rfl) rfl (congrArg vI ei_1) ?_
 refine SL.nil ?_
 exact SQ.again (m1,y7,y8,y9,i_1) h (Nat.lt_succ_self _) (by repeat' (first | exact trivial | refine And.intro rfl ?_)) (fun _ hw=>HpOk.pick (H:=[_,_]) hw [0,1] 2 rfl)
 replace h:=cF hc3 h
 refine SX.exit (SQ.thnE (SQ.lpE (SQ.blkE ?_)))
 exact SQ.midD (y4,y5,y6) h (by repeat' (first | exact trivial | refine And.intro rfl ?_)) (fun _ hw=>HpOk.pick (H:=[_,_]) hw [0,1] 2 rfl)
 obtain ⟨y1,y2,y3⟩:=x
 dsimp only at h
 unfold f_ref09_around_j1 at h
 refine SX.re [(2,vP b1 0),(3,vP b2 0)] (own b1 (.cells #[vU32 0,vU32 0,vI 0] 54)::own b2 (.cells #[vU32 y1,vU32 y2,vI y3] 54)::H) ?_ (by repeat' (first | exact trivial | refine And.intro rfl ?_))
 refine SX.sr (SL.ldA [vU32 y1,vU32 y2,vI y3] (.r rfl) ag54 rfl rfl (cells_all 1 rfl) (SL.st 0 ⟨rfl,rfl,rfl⟩ rfl rfl rfl sz54 rfl rfl rfl trivial (SL.nx (SX.ret ?_))))
 obtain rfl:=Option.some.inj h
 exact SQ.fret (resv1 rfl (resv.ag 0 (encCell (⟨y1,y2,y3⟩:CellA)) ag54 rfl rfl rfl rfl)) (ret_of (M:=[]) ⟨rfl,rfl⟩ fun _ hw=>HpOk.pick (H:=[_,_]) hw [] 2 rfl)

def f_cmp_isNaN_uint64 (p0:UInt64):Option Bool:=
 ret (!decide (p0=p0)) fun x1=>
 some x1
set_option maxRecDepth 100000 in
theorem c_cmp_isNaN_uint64 {p0:UInt64} {r:Bool} (h:f_cmp_isNaN_uint64 p0=some r)  : Con Tryz.prog K w0 84 [vU64 p0] [] H (fun u M=>u=vB r∧M=[]):=by
 unfold f_cmp_isNaN_uint64 at h
 refine Con.enter Tryz.func84 rfl rfl ?_
 refine SX.sr (SL.asg (.r rfl) rfl (SL.nx (SX.sr ?_)))
 obtain ⟨x1,ex1,h⟩:=retE h
 refine SL.mv (.r rfl) rfl (SL.mv (.r rfl) rfl (SL.bin (.r rfl) rfl rfl Bin.ne64 ?_))
 refine SL.asgX (u:=vB x1) (.r rfl) rfl (congrArg vB ex1) ?_
 refine SL.nx (SX.ret ?_)
 obtain rfl:=Option.some.inj h
 exact SQ.fret (res1 rfl rfl) (ret_of (M:=[]) ⟨rfl,rfl⟩ fun _ hw=>HpOk.pick (H:=[]) hw [] 0 rfl)

def f_cmp_Compare_uint64 (p0:UInt64) (p1:UInt64):Option Int:=
 (f_cmp_isNaN_uint64 p0).bind fun y1=>
 (f_cmp_isNaN_uint64 p1).bind fun y2=>
 cond y1
 (
  cond y2
  (
   some 0)
  (
   some (-1)))
 (
  cond y2
  (
   some 1)
  (
   cond (decide (p0<p1))
   (
    some (-1))
   (
    cond (decide (p1<p0))
    (
     some 1)
    (
     some 0))))
set_option maxRecDepth 100000 in
theorem c_cmp_Compare_uint64 {p0:UInt64} {p1:UInt64} {r:Int} (h:f_cmp_Compare_uint64 p0 p1=some r)  : Con Tryz.prog K w0 51 [vU64 p0,vU64 p1] [] H (fun u M=>u=vI r∧M=[]):=by
 unfold f_cmp_Compare_uint64 at h
 refine Con.enter Tryz.func51 rfl rfl ?_
 refine SX.sr (SL.asg (.r rfl) rfl (SL.nx (SX.sr ?_)))
 obtain ⟨y1,hy1,h⟩:=bnd h
 refine SL.mv (.r rfl) rfl ?_
 refine SL.call (vs:=[_]) (Hin:=[]) (Hr:=_) (.r rfl) rfl ⟨rfl,trivial⟩ cal84 rfl rfl (c_cmp_isNaN_uint64 hy1) ?_
 rintro _ _ ⟨rfl,rfl⟩
 refine ⟨trivial,?_⟩
 refine SL.asg (.r rfl) rfl (SL.nx (SX.sr ?_))
 obtain ⟨y2,hy2,h⟩:=bnd h
 refine SL.mv (.r rfl) rfl ?_
 refine SL.call (vs:=[_]) (Hin:=[]) (Hr:=_) (.r rfl) rfl ⟨rfl,trivial⟩ cal84 rfl rfl (c_cmp_isNaN_uint64 hy2) ?_
 rintro _ _ ⟨rfl,rfl⟩
 refine ⟨trivial,?_⟩
 refine SL.asg (.r rfl) rfl (SL.nx (SX.seq (SX.sr (SL.mv (.r rfl) rfl (SL.nx ?_)))))
 refine SX.cond rfl (fun hc1=>?_) (fun hc1=>?_)
 replace h:=cT hc1 h
 refine SX.seq (SX.sr (SL.mv (.r rfl) rfl (SL.nx ?_)))
 refine SX.cond rfl (fun hc2=>?_) (fun hc2=>?_)
 replace h:=cT hc2 h
 refine SX.sr (SL.asg (.r rfl) rfl (SL.nx (SX.ret (SQ.thnR (SQ.thnR ?_)))))
 obtain rfl:=Option.some.inj h
 exact SQ.fret (res1 rfl rfl) (ret_of (M:=[]) ⟨rfl,rfl⟩ fun _ hw=>HpOk.pick (H:=[]) hw [] 0 rfl)
 replace h:=cF hc2 h
 refine SX.skip (SQ.thn (SX.sr (SL.asg (.r rfl) rfl (SL.nx (SX.ret (SQ.thnR ?_))))))
 obtain rfl:=Option.some.inj h
 exact SQ.fret (res1 rfl rfl) (ret_of (M:=[]) ⟨rfl,rfl⟩ fun _ hw=>HpOk.pick (H:=[]) hw [] 0 rfl)
 replace h:=cF hc1 h
 refine SX.skip (SQ.thn (SX.seq (SX.sr (SL.mv (.r rfl) rfl (SL.nx ?_)))))
 refine SX.cond rfl (fun hc3=>?_) (fun hc3=>?_)
 replace h:=cT hc3 h
 refine SX.sr (SL.asg (.r rfl) rfl (SL.nx (SX.ret (SQ.thnR ?_))))
 obtain rfl:=Option.some.inj h
 exact SQ.fret (res1 rfl rfl) (ret_of (M:=[]) ⟨rfl,rfl⟩ fun _ hw=>HpOk.pick (H:=[]) hw [] 0 rfl)
 replace h:=cF hc3 h
 refine SX.skip (SQ.thn (SX.seq (SX.sr (SL.mv (.r rfl) rfl (SL.mv (.r rfl) rfl (SL.bin (.r rfl) rfl rfl Bin.lt64 (SL.nx ?_)))))))
 refine SX.cond rfl (fun hc4=>?_) (fun hc4=>?_)
 replace h:=cT hc4 h
 refine SX.sr (SL.asg (.r rfl) rfl (SL.nx (SX.ret (SQ.thnR ?_))))
 obtain rfl:=Option.some.inj h
 exact SQ.fret (res1 rfl rfl) (ret_of (M:=[]) ⟨rfl,rfl⟩ fun _ hw=>HpOk.pick (H:=[]) hw [] 0 rfl)
 replace h:=cF hc4 h
 refine SX.skip (SQ.thn (SX.seq (SX.sr (SL.mv (.r rfl) rfl (SL.mv (.r rfl) rfl (SL.bin (.r rfl) rfl rfl Bin.gt64 (SL.nx ?_)))))))
 refine SX.cond rfl (fun hc5=>?_) (fun hc5=>?_)
 replace h:=cT hc5 h
 refine SX.sr (SL.asg (.r rfl) rfl (SL.nx (SX.ret (SQ.thnR ?_))))
 obtain rfl:=Option.some.inj h
 exact SQ.fret (res1 rfl rfl) (ret_of (M:=[]) ⟨rfl,rfl⟩ fun _ hw=>HpOk.pick (H:=[]) hw [] 0 rfl)
 replace h:=cF hc5 h
 refine SX.skip (SQ.thn (SX.sr (SL.asg (.r rfl) rfl (SL.nx (SX.ret ?_)))))
 obtain rfl:=Option.some.inj h
 exact SQ.fret (res1 rfl rfl) (ret_of (M:=[]) ⟨rfl,rfl⟩ fun _ hw=>HpOk.pick (H:=[]) hw [] 0 rfl)

def f_grove_Load_1 (p0:RowA) (p1:RowA):Option Int:=
 (f_cmp_Compare_uint64 p0.id p1.id).bind fun y1=>
 some y1
set_option maxRecDepth 100000 in
theorem c_grove_Load_1 {p0:RowA} {p1:RowA} {r:Int} (h:f_grove_Load_1 p0 p1=some r)  : Con Tryz.prog K w0 50 [.agg (encRow p0).toArray,.agg (encRow p1).toArray] [] H (fun u M=>u=vI r∧M=[]):=by
 unfold f_grove_Load_1 at h
 refine Con.enter Tryz.func50 rfl rfl ?_
 refine SX.sr ?_
 refine SL.box (.r rfl) rfl (fun _=>trivial) fun b1=>?_
 refine SL.box (.r rfl) rfl (fun _=>trivial) fun b2=>?_
 refine SL.asg (.r rfl) rfl (SL.nx (SX.sr ?_))
 obtain ⟨y1,hy1,h⟩:=bnd h
 refine SL.fa (.r rfl) rfl fo79_0 (SL.ld (.r rfl) sc48 rfl (cell_own 1 rfl rfl) (SL.fa (.r rfl) rfl fo79_0 (SL.ld (.r rfl) sc48 rfl (cell_own 0 rfl rfl) ?_)))
 refine SL.call (vs:=[_,_]) (Hin:=[]) (Hr:=_::_::_) (.r rfl) rfl ⟨rfl,rfl,trivial⟩ cal51 rfl rfl (c_cmp_Compare_uint64 hy1) ?_
 rintro _ _ ⟨rfl,rfl⟩
 refine ⟨trivial,?_⟩
 refine SL.asg (.r rfl) rfl (SL.nx (SX.ret ?_))
 obtain rfl:=Option.some.inj h
 exact SQ.fret (res1 rfl rfl) (ret_of (M:=[]) ⟨rfl,rfl⟩ fun _ hw=>HpOk.pick (H:=[_,_]) hw [] 2 rfl)


end Go.Proofs.YtkibffdipniemaaGreatDoor

/- The range over a cell's quarters. Condition: the plain functions yield. -/
namespace Go.Proofs.YtkibffdipniemaaGreatDoor
open Go
variable {K:Nat→Prop} {w0:World} {H:List Chunk}

def encIC (p:Int×CellA):List Value:=[vI p.1,.agg (encCell p.2).toArray]
def quartersL (c:CellA) (half:UInt32):List (Int×CellA):=
 [(0,⟨c.x+half*0,c.y+half*0,wI (c.lev-1)⟩),(1,⟨c.x+half*1,c.y+half*0,wI (c.lev-1)⟩),(2,⟨c.x+half*0,c.y+half*1,wI (c.lev-1)⟩),(3,⟨c.x+half*1,c.y+half*1,wI (c.lev-1)⟩)]
def quartersO (c:CellA):Option (List (Int×CellA)):=
 (f_cell_Right c).bind fun r=>cond (!r||decide (c.lev=0)) (some []) ((f_cell_size c).bind fun s=>(quo64 s 2).bind fun q=>some (quartersL c q.toUInt32))
set_option maxHeartbeats 4000000 in
set_option maxRecDepth 100000 in
theorem q_quarters {bx:Nat} {c:CellA} {G0:List Chunk} {xs:List (Int×CellA)} (hq:quartersO c=some xs):
  SeqAt Tryz.prog K w0 181 [vP bx 0] [own bx (.cells #[vU32 c.x,vU32 c.y,vI c.lev] 54)] G0 encIC xs:=by
 intro lp J X T rc hy h0
 obtain ⟨r,hr,hq⟩:=bnd hq
 refine Con.enter Tryz.func181 rfl rfl ?_
 show SX _ _ _ _ _ _ _ _ _ (own bx (.cells #[vU32 c.x,vU32 c.y,vI c.lev] 54)::rc::(G0++T))
 refine SX.seq (SX.sr (SL.ldA [vU32 c.x,vU32 c.y,vI c.lev] (.r rfl) ag54 rfl rfl (cells_all 0 rfl) ?_))
 refine SL.call (vs:=[_]) (Hin:=[]) (Hr:=_::_) (.r rfl) rfl ⟨rfl,trivial⟩ cal168 rfl rfl (c_cell_Right hr :) ?_
 rintro _ _ ⟨rfl,rfl⟩
 refine ⟨trivial,?_⟩
 refine SL.not (.r rfl) rfl (SL.mv (.r rfl) rfl ?_)
 refine SL.or (c:=decide (c.lev=0)) 9 4 13 rfl (fun hb k=>?_) (fun hb k=>?_) ?_
 refine SL.pass rfl rfl rfl (SL.pass rfl rfl rfl (SL.pass rfl rfl rfl (SL.pk (.r rfl) rfl rfl ?_)))
 exact k.mono (by repeat' (first | exact trivial | refine And.intro rfl ?_))
 refine SL.fa (.r rfl) rfl fo54_2 (SL.ld (.r rfl) sc3 rfl (cell_own 0 rfl rfl) (SL.bin (.r rfl) rfl rfl Bin.eqI (SL.pk (.r rfl) rfl rfl ?_)))
 exact k.mono (by repeat' (first | exact trivial | refine And.intro rfl ?_))
 refine SL.nx ?_
 refine SX.cond rfl (fun hc=>?_) (fun hc=>?_)
 rw [hc,cond_true] at hq
 obtain rfl:=Option.some.inj hq
 refine SX.ret (SQ.thnR ?_)
 exact SQ.fret (res0 rfl) (ret_of (M:=rc::G0) (.inl h0) fun _ h=>h.skip [_])
 rw [hc,cond_false] at hq
 obtain ⟨s,hs,hq⟩:=bnd hq
 obtain ⟨q,hqq,hq⟩:=bnd hq
 obtain rfl:=Option.some.inj hq
 refine SX.skip (SQ.thn (SX.sr (SL.ldA [vU32 c.x,vU32 c.y,vI c.lev] (.r rfl) ag54 rfl rfl (cells_all 0 rfl) ?_)))
 refine SL.call (vs:=[_]) (Hin:=[]) (Hr:=_::_) (.r rfl) rfl ⟨rfl,trivial⟩ cal182 rfl rfl (c_cell_size hs :) ?_
 rintro _ _ ⟨rfl,rfl⟩
 refine ⟨trivial,?_⟩
 refine SL.bin (.r rfl) rfl rfl (Bin.div64O (b:=2) hqq) ?_
 refine SL.cv (.r rfl) rfl (Cv.u64_32 ty48 ty29) (SL.asg (.r rfl) rfl (SL.nx ?_))
 generalize q.toUInt32=half at hy ⊢
 refine SX.sr (SL.bld [_,_] (.r rfl) pl251 pk251 ze251 ⟨rfl,rfl,trivial⟩ rfl (SL.bld [_,_] (.r rfl) pl251 pk251 ze251 ⟨rfl,rfl,trivial⟩ rfl (SL.bld [_,_] (.r rfl) pl251 pk251 ze251 ⟨rfl,rfl,trivial⟩ rfl (SL.bld [_,_] (.r rfl) pl251 pk251 ze251 ⟨rfl,rfl,trivial⟩ rfl (SL.bld [_,_,_,_] (.r rfl) pl252 pk252 ze252 ⟨rfl,rfl,rfl,rfl,trivial⟩ rfl (SL.mv (.r rfl) rfl (SL.nx (SX.block ?_))))))))
 refine SX.mono (SX.loop (α:=Nat×List Chunk) (fun x=>x.1≤4∧J ((quartersL c half).take x.1) x.2) (fun x=>[(0,vY lp),(1,vP bx 0),(3,vU32 half),(22,.agg #[vU32 0,vU32 0,vU32 1,vU32 0,vU32 0,vU32 1,vU32 1,vU32 1]),(23,vI x.1)])
  (fun x=>own bx (.cells #[vU32 c.x,vU32 c.y,vI c.lev] 54)::(x.2++T)) (fun x=>4-x.1) (fun x D hp=>?_) (0,rc::G0) ⟨Nat.zero_le _,h0⟩) (by repeat' (first | exact trivial | refine And.intro rfl ?_))
 obtain ⟨i,G⟩:=x
 obtain ⟨hi,hJ⟩:=hp
 dsimp only at hi hJ ⊢
 refine SX.sr (SL.bin (.r rfl) rfl rfl Bin.ltI (SL.nx (SX.seq ?_)))
 refine SX.cond rfl (fun hc2=>?_) (fun hc2=>?_)
 have hlt:i<4:=by have:=of_decide_eq_true hc2;omega
 clear hc2
 obtain rfl | rfl | rfl | rfl:i=0∨i=1∨i=2∨i=3:=by omega
 refine SX.skip (SQ.thn (SX.seq (SX.block (SX.sr (SL.mv (.r rfl) rfl ?_)))))
 refine SL.ixAA (i:=0) (.r rfl) ty252 ag251 rfl rfl rfl (by omega) (c':=#[vU32 0,vU32 0]) rfl ?_
 refine SL.alloc (.r rfl) ze251 (fun _=>trivial) fun b1=>?_
 refine SL.asg (.r rfl) rfl (SL.st 0 ⟨rfl,rfl,rfl⟩ rfl rfl rfl sz251 rfl rfl rfl trivial (SL.nx (SX.sr (SL.mv (.r rfl) rfl (SL.mv (.r rfl) rfl (SL.fa (.r rfl) rfl fo54_0 (SL.ld (.r rfl) sc29 rfl (cell_own 1 rfl rfl) (SL.mv (.r rfl) rfl ?_))))))))
 refine SL.iaA (n:=0) (.r rfl) ty251 sz29 rfl rfl rfl (by omega) ?_
 refine SL.ld (.r rfl) sc29 rfl (cell_own 0 rfl rfl) ?_
 refine SL.bin (.r rfl) rfl rfl (Bin.mul32 (b:=0)) ?_
 refine SL.bin (.r rfl) rfl rfl Bin.add32 (SL.fa (.r rfl) rfl fo54_1 (SL.ld (.r rfl) sc29 rfl (cell_own 1 rfl rfl) (SL.mv (.r rfl) rfl ?_)))
 refine SL.iaA (n:=1) (.r rfl) ty251 sz29 rfl rfl rfl (by omega) ?_
 refine SL.ld (.r rfl) sc29 rfl (cell_own 0 rfl rfl) ?_
 refine SL.bin (.r rfl) rfl rfl (Bin.mul32 (b:=0)) ?_
 refine SL.bin (.r rfl) rfl rfl Bin.add32 (SL.fa (.r rfl) rfl fo54_2 (SL.ld (.r rfl) sc3 rfl (cell_own 1 rfl rfl) (SL.bin (.r rfl) rfl rfl Bin.subW (SL.bld [_,_,_] (.r rfl) pl54 pk54 ze54 ⟨rfl,rfl,rfl,trivial⟩ rfl ?_))))
 refine SL.yld (M2:=[_,_]) (G:=G) (T:=T) (vs:=[_,_]) (ok:=fun G1=>J ((quartersL c half).take (0+1)) G1) (no:=X) (.r rfl) rfl ⟨rfl,rfl,trivial⟩ rfl ?_ (fun bb G1 hG1=>⟨trivial,?_⟩)
 intro M
 exact hy ((quartersL c half).take 0) (0,⟨c.x+half*0,c.y+half*0,wI (c.lev-1)⟩) ((quartersL c half).drop (0+1)) rfl G hJ M
 refine SL.not (.r rfl) rfl (SL.nx ?_)
 refine SX.cond rfl (fun hc3=>?_) (fun hc3=>?_)
 obtain rfl:bb=false:=by simpa using hc3
 refine SX.ret (SQ.blkR (SQ.thnR (SQ.lpR (SQ.blkR ?_))))
 exact SQ.fret (res0 rfl) (ret_of (M:=G1) (.inr hG1) fun _ h=>h.skip [_,_])
 obtain rfl:bb=true:=by simpa using hc3
 refine SX.skip (SQ.blk (SQ.thn (SX.region (SL.bin (.r rfl) rfl rfl (Bin.addI (by omega) (by omega)) (SL.mv (.r rfl) rfl (SL.nil ?_))))))
 exact SQ.again (0+1,G1) ⟨by omega,hG1⟩ (by dsimp only;omega) (by repeat' (first | exact trivial | refine And.intro rfl ?_)) (fun _ h=>h.skip [_])
 refine SX.skip (SQ.thn (SX.seq (SX.block (SX.sr (SL.mv (.r rfl) rfl ?_)))))
 refine SL.ixAA (i:=1) (.r rfl) ty252 ag251 rfl rfl rfl (by omega) (c':=#[vU32 1,vU32 0]) rfl ?_
 refine SL.alloc (.r rfl) ze251 (fun _=>trivial) fun b1=>?_
 refine SL.asg (.r rfl) rfl (SL.st 0 ⟨rfl,rfl,rfl⟩ rfl rfl rfl sz251 rfl rfl rfl trivial (SL.nx (SX.sr (SL.mv (.r rfl) rfl (SL.mv (.r rfl) rfl (SL.fa (.r rfl) rfl fo54_0 (SL.ld (.r rfl) sc29 rfl (cell_own 1 rfl rfl) (SL.mv (.r rfl) rfl ?_))))))))
 refine SL.iaA (n:=0) (.r rfl) ty251 sz29 rfl rfl rfl (by omega) ?_
 refine SL.ld (.r rfl) sc29 rfl (cell_own 0 rfl rfl) ?_
 refine SL.bin (.r rfl) rfl rfl (Bin.mul32 (b:=1)) ?_
 refine SL.bin (.r rfl) rfl rfl Bin.add32 (SL.fa (.r rfl) rfl fo54_1 (SL.ld (.r rfl) sc29 rfl (cell_own 1 rfl rfl) (SL.mv (.r rfl) rfl ?_)))
 refine SL.iaA (n:=1) (.r rfl) ty251 sz29 rfl rfl rfl (by omega) ?_
 refine SL.ld (.r rfl) sc29 rfl (cell_own 0 rfl rfl) ?_
 refine SL.bin (.r rfl) rfl rfl (Bin.mul32 (b:=0)) ?_
 refine SL.bin (.r rfl) rfl rfl Bin.add32 (SL.fa (.r rfl) rfl fo54_2 (SL.ld (.r rfl) sc3 rfl (cell_own 1 rfl rfl) (SL.bin (.r rfl) rfl rfl Bin.subW (SL.bld [_,_,_] (.r rfl) pl54 pk54 ze54 ⟨rfl,rfl,rfl,trivial⟩ rfl ?_))))
 refine SL.yld (M2:=[_,_]) (G:=G) (T:=T) (vs:=[_,_]) (ok:=fun G1=>J ((quartersL c half).take (1+1)) G1) (no:=X) (.r rfl) rfl ⟨rfl,rfl,trivial⟩ rfl ?_ (fun bb G1 hG1=>⟨trivial,?_⟩)
 intro M
 exact hy ((quartersL c half).take 1) (1,⟨c.x+half*1,c.y+half*0,wI (c.lev-1)⟩) ((quartersL c half).drop (1+1)) rfl G hJ M
 refine SL.not (.r rfl) rfl (SL.nx ?_)
 refine SX.cond rfl (fun hc3=>?_) (fun hc3=>?_)
 obtain rfl:bb=false:=by simpa using hc3
 refine SX.ret (SQ.blkR (SQ.thnR (SQ.lpR (SQ.blkR ?_))))
 exact SQ.fret (res0 rfl) (ret_of (M:=G1) (.inr hG1) fun _ h=>h.skip [_,_])
 obtain rfl:bb=true:=by simpa using hc3
 refine SX.skip (SQ.blk (SQ.thn (SX.region (SL.bin (.r rfl) rfl rfl (Bin.addI (by omega) (by omega)) (SL.mv (.r rfl) rfl (SL.nil ?_))))))
 exact SQ.again (1+1,G1) ⟨by omega,hG1⟩ (by dsimp only;omega) (by repeat' (first | exact trivial | refine And.intro rfl ?_)) (fun _ h=>h.skip [_])
 refine SX.skip (SQ.thn (SX.seq (SX.block (SX.sr (SL.mv (.r rfl) rfl ?_)))))
 refine SL.ixAA (i:=2) (.r rfl) ty252 ag251 rfl rfl rfl (by omega) (c':=#[vU32 0,vU32 1]) rfl ?_
 refine SL.alloc (.r rfl) ze251 (fun _=>trivial) fun b1=>?_
 refine SL.asg (.r rfl) rfl (SL.st 0 ⟨rfl,rfl,rfl⟩ rfl rfl rfl sz251 rfl rfl rfl trivial (SL.nx (SX.sr (SL.mv (.r rfl) rfl (SL.mv (.r rfl) rfl (SL.fa (.r rfl) rfl fo54_0 (SL.ld (.r rfl) sc29 rfl (cell_own 1 rfl rfl) (SL.mv (.r rfl) rfl ?_))))))))
 refine SL.iaA (n:=0) (.r rfl) ty251 sz29 rfl rfl rfl (by omega) ?_
 refine SL.ld (.r rfl) sc29 rfl (cell_own 0 rfl rfl) ?_
 refine SL.bin (.r rfl) rfl rfl (Bin.mul32 (b:=0)) ?_
 refine SL.bin (.r rfl) rfl rfl Bin.add32 (SL.fa (.r rfl) rfl fo54_1 (SL.ld (.r rfl) sc29 rfl (cell_own 1 rfl rfl) (SL.mv (.r rfl) rfl ?_)))
 refine SL.iaA (n:=1) (.r rfl) ty251 sz29 rfl rfl rfl (by omega) ?_
 refine SL.ld (.r rfl) sc29 rfl (cell_own 0 rfl rfl) ?_
 refine SL.bin (.r rfl) rfl rfl (Bin.mul32 (b:=1)) ?_
 refine SL.bin (.r rfl) rfl rfl Bin.add32 (SL.fa (.r rfl) rfl fo54_2 (SL.ld (.r rfl) sc3 rfl (cell_own 1 rfl rfl) (SL.bin (.r rfl) rfl rfl Bin.subW (SL.bld [_,_,_] (.r rfl) pl54 pk54 ze54 ⟨rfl,rfl,rfl,trivial⟩ rfl ?_))))
 refine SL.yld (M2:=[_,_]) (G:=G) (T:=T) (vs:=[_,_]) (ok:=fun G1=>J ((quartersL c half).take (2+1)) G1) (no:=X) (.r rfl) rfl ⟨rfl,rfl,trivial⟩ rfl ?_ (fun bb G1 hG1=>⟨trivial,?_⟩)
 intro M
 exact hy ((quartersL c half).take 2) (2,⟨c.x+half*0,c.y+half*1,wI (c.lev-1)⟩) ((quartersL c half).drop (2+1)) rfl G hJ M
 refine SL.not (.r rfl) rfl (SL.nx ?_)
 refine SX.cond rfl (fun hc3=>?_) (fun hc3=>?_)
 obtain rfl:bb=false:=by simpa using hc3
 refine SX.ret (SQ.blkR (SQ.thnR (SQ.lpR (SQ.blkR ?_))))
 exact SQ.fret (res0 rfl) (ret_of (M:=G1) (.inr hG1) fun _ h=>h.skip [_,_])
 obtain rfl:bb=true:=by simpa using hc3
 refine SX.skip (SQ.blk (SQ.thn (SX.region (SL.bin (.r rfl) rfl rfl (Bin.addI (by omega) (by omega)) (SL.mv (.r rfl) rfl (SL.nil ?_))))))
 exact SQ.again (2+1,G1) ⟨by omega,hG1⟩ (by dsimp only;omega) (by repeat' (first | exact trivial | refine And.intro rfl ?_)) (fun _ h=>h.skip [_])
 refine SX.skip (SQ.thn (SX.seq (SX.block (SX.sr (SL.mv (.r rfl) rfl ?_)))))
 refine SL.ixAA (i:=3) (.r rfl) ty252 ag251 rfl rfl rfl (by omega) (c':=#[vU32 1,vU32 1]) rfl ?_
 refine SL.alloc (.r rfl) ze251 (fun _=>trivial) fun b1=>?_
 refine SL.asg (.r rfl) rfl (SL.st 0 ⟨rfl,rfl,rfl⟩ rfl rfl rfl sz251 rfl rfl rfl trivial (SL.nx (SX.sr (SL.mv (.r rfl) rfl (SL.mv (.r rfl) rfl (SL.fa (.r rfl) rfl fo54_0 (SL.ld (.r rfl) sc29 rfl (cell_own 1 rfl rfl) (SL.mv (.r rfl) rfl ?_))))))))
 refine SL.iaA (n:=0) (.r rfl) ty251 sz29 rfl rfl rfl (by omega) ?_
 refine SL.ld (.r rfl) sc29 rfl (cell_own 0 rfl rfl) ?_
 refine SL.bin (.r rfl) rfl rfl (Bin.mul32 (b:=1)) ?_
 refine SL.bin (.r rfl) rfl rfl Bin.add32 (SL.fa (.r rfl) rfl fo54_1 (SL.ld (.r rfl) sc29 rfl (cell_own 1 rfl rfl) (SL.mv (.r rfl) rfl ?_)))
 refine SL.iaA (n:=1) (.r rfl) ty251 sz29 rfl rfl rfl (by omega) ?_
 refine SL.ld (.r rfl) sc29 rfl (cell_own 0 rfl rfl) ?_
 refine SL.bin (.r rfl) rfl rfl (Bin.mul32 (b:=1)) ?_
 refine SL.bin (.r rfl) rfl rfl Bin.add32 (SL.fa (.r rfl) rfl fo54_2 (SL.ld (.r rfl) sc3 rfl (cell_own 1 rfl rfl) (SL.bin (.r rfl) rfl rfl Bin.subW (SL.bld [_,_,_] (.r rfl) pl54 pk54 ze54 ⟨rfl,rfl,rfl,trivial⟩ rfl ?_))))
 refine SL.yld (M2:=[_,_]) (G:=G) (T:=T) (vs:=[_,_]) (ok:=fun G1=>J ((quartersL c half).take (3+1)) G1) (no:=X) (.r rfl) rfl ⟨rfl,rfl,trivial⟩ rfl ?_ (fun bb G1 hG1=>⟨trivial,?_⟩)
 intro M
 exact hy ((quartersL c half).take 3) (3,⟨c.x+half*1,c.y+half*1,wI (c.lev-1)⟩) ((quartersL c half).drop (3+1)) rfl G hJ M
 refine SL.not (.r rfl) rfl (SL.nx ?_)
 refine SX.cond rfl (fun hc3=>?_) (fun hc3=>?_)
 obtain rfl:bb=false:=by simpa using hc3
 refine SX.ret (SQ.blkR (SQ.thnR (SQ.lpR (SQ.blkR ?_))))
 exact SQ.fret (res0 rfl) (ret_of (M:=G1) (.inr hG1) fun _ h=>h.skip [_,_])
 obtain rfl:bb=true:=by simpa using hc3
 refine SX.skip (SQ.blk (SQ.thn (SX.region (SL.bin (.r rfl) rfl rfl (Bin.addI (by omega) (by omega)) (SL.mv (.r rfl) rfl (SL.nil ?_))))))
 exact SQ.again (3+1,G1) ⟨by omega,hG1⟩ (by dsimp only;omega) (by repeat' (first | exact trivial | refine And.intro rfl ?_)) (fun _ h=>h.skip [_])
 have hle:i=4:=by have:=of_decide_eq_false hc2;omega
 refine SX.exit (SQ.thnE (SQ.lpE (SQ.blkE ?_)))
 exact SQ.fend (res0 rfl) (ret_of (M:=G) (.inl (by subst hle;exact hJ)) fun _ h=>h.skip [_])
def quartO (_:CellA):Option Unit:=some ()
theorem w_quarters {c:CellA} {r:Unit} (_:quartO c=some r):Con Tryz.prog K w0 137 [.agg (encCell c).toArray] [] H (fun u M=>∃bx:Nat,u=.func (.func 181) #[] #[vP bx 0]∧M=[own bx (.cells #[vU32 c.x,vU32 c.y,vI c.lev] 54)]):=by
 refine Con.enter Tryz.func137 rfl rfl ?_
 refine SX.sr ?_
 refine SL.box (.r rfl) rfl (fun _=>trivial) fun b0=>?_
 refine SL.asg (.r rfl) rfl (SL.nx (SX.sr ?_))
 refine SL.mkf (fv:=#[]) (cv:=#[_]) (.r rfl) rfl rfl ?_
 refine SL.asg (.r rfl) rfl (SL.nx (SX.ret ?_))
 exact SQ.fret (res1 rfl rfl) (ret_of (M:=[_]) ⟨_,rfl,rfl⟩ fun _ h=>h.skip [])
end Go.Proofs.YtkibffdipniemaaGreatDoor

/- Plain functions of the references and the laws, printed from the loaded program, and the walks that show that the program computes them. Condition: the plain function yields. -/
namespace Go.Proofs.YtkibffdipniemaaGreatDoor
open Go
variable {K:Nat→Prop} {w0:World} {H:List Chunk}

def f_cell_Where_j1 (y1:Int):Option (Int×Int):=
 cond (decide (y1<0))
 (
  some (0,2))
 (
  some (y1,0))
def f_cell_Where_j3 (y3:Int):Option (Int×Int):=
 f_cell_Where_j1 y3
def f_cell_Where_j2 (y3:Int):Option (Int×Int):=
 f_cell_Where_j1 y3
def f_cell_Where_r1_b (p1:UInt32) (p2:UInt32) (nx_f_cell_Where_r1:Int→Option (Int×Int)) (e1:Int×CellA) (y3:Int):Option (Int×Int):=
 (f_cell_Has (⟨e1.2.x,e1.2.y,e1.2.lev⟩:CellA) p1 p2).bind fun y4=>
 cond y4
 (
  f_cell_Where_j3 e1.1)
 (
  nx_f_cell_Where_r1 y3)
def f_cell_Where_r1 (p1:UInt32) (p2:UInt32):List (Int×CellA)→Int→Option (Int×Int):=rangeL (fun nx e x=>f_cell_Where_r1_b p1 p2 nx e x) (fun x=>f_cell_Where_j2 x)
def f_cell_Where (p0:CellA) (p1:UInt32) (p2:UInt32):Option (Int×Int):=
 (quartO p0).bind fun y2=>
 (quartersO p0).bind fun xs1=>
 f_cell_Where_r1 p1 p2 xs1 (-1)
set_option maxRecDepth 100000 in
theorem c_cell_Where {p0:CellA} {p1:UInt32} {p2:UInt32} {r:Int×Int} (h:f_cell_Where p0 p1 p2=some r)  : Con Tryz.prog K w0 93 [.agg (encCell p0).toArray,vU32 p1,vU32 p2] [] H (fun u M=>u=.tuple #[vI r.1,vI r.2]∧M=[]):=by
 unfold f_cell_Where at h
 refine Con.enter Tryz.func93 rfl rfl ?_
 refine SX.sr ?_
 refine SL.box (.r rfl) rfl (fun _=>trivial) fun b1=>?_
 refine SL.box (.r rfl) rfl (fun _=>trivial) fun b2=>?_
 refine SL.box (.r rfl) rfl (fun _=>trivial) fun b3=>?_
 refine SL.asg (.r rfl) rfl (SL.asg (.r rfl) rfl (SL.nx (SX.scope (SX.sr ?_))))
 refine SL.alloc (.r rfl) ze3 (fun _=>trivial) fun b4=>?_
 refine SL.st 0 ⟨rfl,rfl,rfl⟩ rfl rfl rfl sz3 rfl rfl rfl trivial (SL.nx (SX.seq (SX.label (SQ.thn ?_))))
 refine SX.meetD (α:=Int) (fun x=>f_cell_Where_j1 x=some r) (fun x=>[(8,vP b4 0)]) (fun x=>own b4 (.cells #[vI x] 3)::H) ?_ (fun y1 D h=>?_)
 refine SX.sr ?_
 obtain ⟨y2,hy2,h⟩:=bnd h
 refine SL.ldA [vU32 p0.x,vU32 p0.y,vI p0.lev] (.r rfl) ag54 rfl rfl (cells_all 3 rfl) ?_
 refine SL.call (vs:=[_]) (Hin:=[]) (Hr:=_::_::_::_::_) (.r rfl) rfl ⟨rfl,trivial⟩ cal137 rfl rfl ((w_quarters hy2 :)) ?_
 rintro _ _ ⟨b5,rfl,rfl⟩
 refine ⟨trivial,?_⟩
 refine SL.nx (SX.block ?_)
 obtain ⟨xs1,hxs1,h⟩:=bnd h
 refine SX.heap (SX.rangeAt (enc:=encIC) xs1 (G0:=own b2 (.cells #[vU32 p1] 29)::own b3 (.cells #[vU32 p2] 29)::own b4 (.cells #[vI (-1)] 3)::H) (fun pre G=>∃x:Int,(∀suf,xs1=pre++suf→f_cell_Where_r1 p1 p2 suf x=some r)∧G=own b2 (.cells #[vU32 p1] 29)::own b3 (.cells #[vU32 p2] 29)::own b4 (.cells #[vI x] 3)::H) (fun c G=>(c=.exit 0∧∃x:Int,f_cell_Where_j3 x=some r∧G=own b2 (.cells #[vU32 p1] 29)::own b3 (.cells #[vU32 p2] 29)::own b4 (.cells #[vI x] 3)::H)) rfl cal181 rfl (fun _=>rfl) (q_quarters hxs1) rfl ⟨(-1),fun suf e=>by rw [←show xs1=suf from e];exact h,rfl⟩ (fun pre e1 suf1 G hpre hJ lr lp Rest=>?_) (fun G D hJ=>?_) (fun c G D hX=>?_)) (fun _ hw=>HpOk.pick (H:=[_,_,_,_,_]) hw [0,3,2,1] 5 rfl)
 obtain ⟨y3,h,rfl⟩:=hJ
 replace h:f_cell_Where_r1_b p1 p2 (f_cell_Where_r1 p1 p2 suf1) e1 y3=some r:=h _ hpre
 unfold f_cell_Where_r1_b at h
 refine SX.sr (SL.asg (.r rfl) rfl (SL.nx (SX.region ?_)))
 refine SL.alloc (.r rfl) ze54 (fun _=>trivial) fun b6=>?_
 refine SL.st 0 ⟨rfl,rfl,rfl⟩ rfl rfl rfl sz54 rfl rfl rfl trivial (SL.nil ?_)
 refine SQ.bgn (G:=own b6 (.cells #[vU32 e1.2.x,vU32 e1.2.y,vI e1.2.lev] 54)::own b2 (.cells #[vU32 p1] 29)::own b3 (.cells #[vU32 p2] 29)::own b4 (.cells #[vI y3] 3)::H) ?_
 refine SX.block (SX.sr ?_)
 obtain ⟨y4,hy4,h⟩:=bnd h
 refine SL.ldA [vU32 e1.2.x,vU32 e1.2.y,vI e1.2.lev] (.r rfl) ag54 rfl rfl (cells_all 0 rfl) (SL.ld (.r rfl) sc29 rfl (cell_own 1 rfl rfl) (SL.ld (.r rfl) sc29 rfl (cell_own 2 rfl rfl) ?_))
 refine SL.call (vs:=[_,_,_]) (Hin:=[]) (Hr:=_::_::_::_::_) (.r rfl) rfl ⟨rfl,rfl,rfl,trivial⟩ cal138 rfl rfl ((c_cell_Has hy4 :)) ?_
 rintro _ _ ⟨rfl,rfl⟩
 refine ⟨trivial,?_⟩
 refine SL.nx ?_
 refine SX.cond rfl (fun hc1=>?_) (fun hc1=>?_)
 replace h:=cT hc1 h
 refine SX.sr (SL.mv (.r rfl) rfl (SL.st 3 ⟨rfl,rfl,rfl⟩ rfl rfl rfl sz3 rfl rfl rfl trivial (SL.nx (SX.exit (SQ.blkO ?_)))))
 exact SQ.rndE ⟨rfl,e1.1,h,rfl⟩ (fun _ hw=>HpOk.pick (H:=[_,_,_,_]) hw [1,2,3] 4 rfl)
 replace h:=cF hc1 h
 refine SX.skip (SQ.blk ?_)
 exact SQ.rndN ⟨y3,fun suf e=>by rw [suf_eq hpre e];exact h,rfl⟩ (fun _ hw=>HpOk.pick (H:=[_,_,_,_]) hw [1,2,3] 4 rfl)
 obtain ⟨y3,h,rfl⟩:=hJ
 replace h:f_cell_Where_j2 y3=some r:=h [] (List.append_nil _).symm
 unfold f_cell_Where_j2 at h
 refine SQ.blk ?_
 exact SQ.midD y3 h (by repeat' (first | exact trivial | refine And.intro rfl ?_)) (fun _ hw=>HpOk.pick (H:=[_,_,_]) hw [2] 3 rfl)
 obtain ⟨rfl,hJ⟩:=hX
 obtain ⟨y3,h,rfl⟩:=hJ
 unfold f_cell_Where_j3 at h
 refine SX.exit (SQ.blkE ?_)
 exact SQ.midD y3 h (by repeat' (first | exact trivial | refine And.intro rfl ?_)) (fun _ hw=>HpOk.pick (H:=[_,_,_]) hw [2] 3 rfl)
 unfold f_cell_Where_j1 at h
 refine SX.re [(8,vP b4 0)] (own b4 (.cells #[vI y1] 3)::H) ?_ (by repeat' (first | exact trivial | refine And.intro rfl ?_))
 refine SX.seq (SX.sr (SL.ld (.r rfl) sc3 rfl (cell_own 0 rfl rfl) (SL.bin (.r rfl) rfl rfl Bin.ltI (SL.nx ?_))))
 refine SX.cond rfl (fun hc2=>?_) (fun hc2=>?_)
 replace h:=cT hc2 h
 refine SX.sr (SL.asg (.r rfl) rfl (SL.asg (.r rfl) rfl (SL.nx (SX.ret (SQ.thnR (SQ.scpR ?_))))))
 obtain rfl:=Option.some.inj h
 exact SQ.fret (res2 rfl rfl rfl) (ret_of (M:=[]) ⟨rfl,rfl⟩ fun _ hw=>HpOk.pick (H:=[_]) hw [] 1 rfl)
 replace h:=cF hc2 h
 refine SX.skip (SQ.thn (SX.sr (SL.ld (.r rfl) sc3 rfl (cell_own 0 rfl rfl) (SL.asg (.r rfl) rfl (SL.asg (.r rfl) rfl (SL.nx (SX.ret (SQ.scpR ?_))))))))
 obtain rfl:=Option.some.inj h
 exact SQ.fret (res2 rfl rfl rfl) (ret_of (M:=[]) ⟨rfl,rfl⟩ fun _ hw=>HpOk.pick (H:=[_]) hw [] 1 rfl)


end Go.Proofs.YtkibffdipniemaaGreatDoor

/- Rows as a tree: slices.Clone, quad.tree, quad.Build. Condition: the plain functions yield. -/
namespace Go.Proofs.YtkibffdipniemaaGreatDoor
open Go
variable {K:Nat→Prop} {w0:World} {H:List Chunk}

theorem SL.eqSN {P:Program} {ro:Option Nat} {N:Nat} {Q:Post} {D:List Nat} {l:Tm} {Hs:List Chunk} {ops:Array Oper} {items:Its} {tk:Bool} {o:Oper} {t:Nat} {x y:Operand} {ty uy e:TypeId} {p:Option Addr} {n c:Nat} (ho:At ops N l o t (.binOp .eql ty x y uy)) (hty:P.underlying ty=some (.slice e)) (hx:evl l x=some (.slice p n c)) (hy:evl l y=some (.slice none 0 0))
  (h:SL P ro K w0 N ops Hs items Q D ((t,.bool p.isNone)::l) H):SL P ro K w0 N ops Hs (.cons (tk,o) items) Q D l H:=
 SL.val ho rfl (fun a w ha _=>by
  have h1:∀d,(Op.equalIn (d+1) ty (.slice p n c) (.slice none 0 0)).run P w=.ok p.isNone w:=by
   intro d
   cases p<;>simp [Op.equalIn,run_underlying hty]
  simp only [execOp,ho.op,ha.eval hx,ha.eval hy,binOp]
  simp [eqGuard,Op.equal,Op.maxDepth,h1 9999]) h
def cloneO (l:List RowA):Option (List RowA):=appL 32 [] l
set_option maxRecDepth 100000 in
theorem w_clone {v:Value} {l r:List RowA} (h:cloneO l=some r) (hs:SlOf K w0 encRow 4 v l):Con Tryz.prog K w0 92 [v] [] H (fun u M=>∃v0:Value,u=v0∧M=[rowT 79 4 v0 encRow r]):=by
 unfold cloneO at h
 have hn:(v=.slice none 0 0∧l=[])∨∃a n c,v=.slice (some a) n c:=by
  rcases hs.at_ with ⟨a,rfl,e⟩ | ⟨b,off,cap,rfl,_⟩
  cases a with
  | none=>exact .inl ⟨rfl,e⟩
  | some a=>exact .inr ⟨_,_,_,rfl⟩
  exact .inr ⟨_,_,_,rfl⟩
 refine Con.enter Tryz.func92 rfl rfl ?_
 refine SX.sr (SL.asg (.r rfl) rfl (SL.nx ?_))
 rcases hn with ⟨rfl,rfl⟩ | ⟨a,n,c,rfl⟩
 refine SX.seq (SX.sr (SL.mv (.r rfl) rfl (SL.eqSN (.r rfl) ty35 rfl rfl (SL.nx (SX.condT rfl (SX.sr (SL.asg (.r rfl) rfl (SL.nx (SX.ret (SQ.thnR (SQ.nilT 79 4 encRow ?_)))))))))))
 obtain rfl:r=[]:=by
  rw [appL,if_pos (by simp)] at h
  simpa using h.symm
 exact SQ.fret (res1 rfl rfl) (ret_of (M:=[_]) ⟨_,rfl,rfl⟩ fun _ hw=>HpOk.pick (H:=[_]) hw [0] 1 rfl)
 refine SX.seq (SX.sr (SL.mv (.r rfl) rfl (SL.eqSN (.r rfl) ty35 rfl rfl (SL.nx (SX.condF rfl (SX.skip (SQ.thn (SX.sr ?_))))))))
 refine SL.bsl0 (.r rfl) ty35 sz79 (fun _=>trivial) fun b1=>?_
 refine SL.ownT encRow 4 ([]:List RowA) rfl (fun _=>rfl) rfl ?_
 refine SL.mv (.r rfl) rfl ?_
 refine SL.appV 0 h hs (sz:=4) (enc:=encRow) (fun _=>rfl) (.r rfl) ty35 sz79 by79 ze79 rfl (by decide) rfl rfl rfl (by simp [encRow,Value.oneCell']) (fun _=>trivial) fun v1=>?_
 refine SL.asg (.r rfl) rfl (SL.nx (SX.ret ?_))
 exact SQ.fret (res1 rfl rfl) (ret_of (M:=[_]) ⟨_,rfl,rfl⟩ fun _ hw=>HpOk.pick (H:=[_]) hw [0] 1 rfl)
end Go.Proofs.YtkibffdipniemaaGreatDoor
