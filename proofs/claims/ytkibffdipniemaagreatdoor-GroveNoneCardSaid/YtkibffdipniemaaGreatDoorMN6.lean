/- The texts GG21, GG22, GG23, GG24, GG25, GG26, GG27, GG28, GG29, GG30, GG31, LG1, LG8, LG9, YI, Y1a, YF, V3f, VG1, one behind the other: each bears its own sentence. Conditions: as each says. -/
import Derived.Test.YtkibffdipniemaaGreatDoorMN1
import Derived.Test.YtkibffdipniemaaGreatDoorMN2
import Derived.Test.YtkibffdipniemaaGreatDoorMN3
import Derived.Test.YtkibffdipniemaaGreatDoorMN4
import Derived.Test.YtkibffdipniemaaGreatDoorMN5

set_option linter.unusedVariables false
set_option linter.unusedSimpArgs false
set_option maxHeartbeats 1000000
/- A lent slice of saved pages, gone through from the last: slices.Backward. Condition: at most 2^20 of them. -/
namespace Go.Proofs.YtkibffdipniemaaGreatDoor
open Go
variable {K:Nat→Prop} {w0:World} {H:List Chunk}

def encBS (a:Int×SavedA):List Value:=[vI a.1,.agg (encSaved a.2).toArray]
set_option maxHeartbeats 4000000 in
set_option maxRecDepth 100000 in
theorem q_backS {bx:Nat} {va:Value} {xs:List SavedA} {G0:List Chunk} (hn:xs.length≤1048576) (hs:SlOf K w0 encSaved 3 va xs):
  SeqAt Tryz.prog K w0 90 [vP bx 0] [own bx (.cells #[va] 36)] G0 encBS (backL xs):=by
 intro lp J X T rc hy h0
 refine Con.enter Tryz.func90 rfl rfl ?_
 show SX _ _ _ _ _ _ _ _ _ (own bx (.cells #[va] 36)::((rc::G0)++T))
 refine SX.sr (SL.ld (.r rfl) sc36 rfl (cell_own 0 rfl rfl) (SL.lenV hs (.r rfl) ty36 rfl (SL.bin (.r rfl) rfl rfl (Bin.subI (by omega) (by omega)) (SL.asg (.r rfl) rfl (SL.nx (SX.block ?_))))))
 refine SX.mono (SX.loop (α:=Nat×List Chunk) (fun x=>x.1≤xs.length∧J ((backL xs).take x.1) x.2) (fun x=>[(0,vY lp),(1,vP bx 0),(3,vI ((xs.length:Int)-1-(x.1:Int)))])
  (fun x=>own bx (.cells #[va] 36)::(x.2++T)) (fun x=>xs.length-x.1) (fun x D hp=>?_) (0,rc::G0) ⟨Nat.zero_le _,h0⟩) (by simpa using (by repeat' (first | exact trivial | refine And.intro rfl ?_)))
 obtain ⟨k,G⟩:=x
 obtain ⟨hk,hJ⟩:=hp
 dsimp only at hk hJ ⊢
 refine SX.seq (SX.sr (SL.mv (.r rfl) rfl (SL.bin (.r rfl) rfl rfl Bin.geI (SL.nx ?_))))
 refine SX.cond rfl (fun hc1=>?_) (fun hc1=>?_)
 have hlt:k<xs.length:=by
  have:=of_decide_eq_true hc1
  omega
 clear hc1
 have hb:k<(backL xs).length:=by rw [backL_length];exact hlt
 have hget:=backL_get xs k hlt
 have hx:nthI xs ((xs.length:Int)-1-(k:Int))=some (xs[xs.length-1-k]'(by omega)):=by
  rw [nthI,if_pos (by omega),show ((xs.length:Int)-1-(k:Int)).toNat=xs.length-1-k by omega]
  exact List.getElem?_eq_getElem _
 refine SX.skip (SQ.thn (SX.seq (SX.block (SX.sr (SL.mv (.r rfl) rfl (SL.mv (.r rfl) rfl (SL.ld (.r rfl) sc36 rfl (cell_own 0 rfl rfl) (SL.mv (.r rfl) rfl ?_))))))))
 refine SL.iaN hx hs (.r rfl) ty36 sz72 rfl rfl fun be1 of1 hc1=>?_
 refine SL.ldA (encSaved _) (.r rfl) ag72 rfl rfl (cells_kept hc1) ?_
 refine SL.yld (M2:=[_]) (G:=G) (T:=T) (vs:=[_,_]) (ok:=fun G1=>J ((backL xs).take (k+1)) G1) (no:=X) (.r rfl) rfl ⟨rfl,rfl,trivial⟩ rfl ?_ (fun bb G1 hG1=>⟨trivial,?_⟩)
 intro M
 have:=hy ((backL xs).take k) ((backL xs)[k]) ((backL xs).drop (k+1)) (split_at _ k hb) G hJ M
 rw [take_snoc _ k hb,hget] at this
 rw [show ((xs.length:Int)-1-(k:Int))=((xs.length-1-k:Nat):Int) by omega]
 exact this
 refine SL.not (.r rfl) rfl (SL.nx ?_)
 refine SX.cond rfl (fun hc3=>?_) (fun hc3=>?_)
 obtain rfl:bb=false:=by simpa using hc3
 refine SX.ret (SQ.blkR (SQ.thnR (SQ.lpR (SQ.blkR ?_))))
 exact SQ.fret (res0 rfl) (ret_of (M:=G1) (.inr hG1) fun _ h=>h.skip [_])
 obtain rfl:bb=true:=by simpa using hc3
 refine SX.skip (SQ.blk (SQ.thn (SX.region (SL.mv (.r rfl) rfl (SL.bin (.r rfl) rfl rfl (Bin.subI (by omega) (by omega)) ?_)))))
 refine SL.asgX (u:=vI ((xs.length:Int)-1-((k+1:Nat):Int))) (.r rfl) rfl (congrArg vI (by omega)) ?_
 refine SL.nil ?_
 exact SQ.again (k+1,G1) ⟨hlt,hG1⟩ (by dsimp only;omega) (by repeat' (first | exact trivial | refine And.intro rfl ?_)) (fun _ hw=>HpOk.pick (H:=[_]) hw [0] 1 rfl)
 have hge:k=xs.length:=by
  have:=of_decide_eq_false hc1
  omega
 subst hge
 rw [List.take_of_length_le (by rw [backL_length];exact Nat.le_refl _)] at hJ
 refine SX.exit (SQ.thnE (SQ.lpE (SQ.blkE ?_)))
 exact SQ.fend (res0 rfl) (ret_of (M:=G) (.inl hJ) fun _ h=>h.skip [_])
theorem w_backS {va:Value} (hva:va.cells=#[va]):Con Tryz.prog K w0 57 [va] [] H (fun u M=>∃bx:Nat,u=.func (.func 90) #[] #[vP bx 0]∧M=[own bx (.cells #[va] 36)]):=by
 refine Con.enter Tryz.func57 rfl rfl ?_
 refine SX.sr ?_
 refine SL.box (.r rfl) rfl (fun _=>trivial) fun b1=>?_
 rw [hva]
 refine SL.asg (.r rfl) rfl (SL.nx (SX.sr ?_))
 refine SL.mkf (fv:=#[]) (cv:=#[_]) (.r rfl) rfl rfl ?_
 refine SL.asg (.r rfl) rfl (SL.nx (SX.ret ?_))
 exact SQ.fret (res1 rfl rfl) (ret_of (M:=[_]) ⟨_,rfl,rfl⟩ fun _ hw=>HpOk.pick (H:=[_]) hw [0] 1 rfl)
end Go.Proofs.YtkibffdipniemaaGreatDoor

/- Plain functions of the references and the laws, printed from the loaded program, and the walks that show that the program computes them. Condition: the plain function yields. -/
namespace Go.Proofs.YtkibffdipniemaaGreatDoor
open Go
variable {K:Nat→Prop} {w0:World} {H:List Chunk}

def f_ins_j1 (a1:Int) (nx_f_ins_l1:List RowA×Int→Option (List RowA)) (l2:List RowA):Option (List RowA):=
 ret (wI (a1+1)) fun i_2=>
 nx_f_ins_l1 (l2,i_2)
def f_ins_l2_b (p1:Int) (a1:Int) (nx_f_ins_l1:List RowA×Int→Option (List RowA)) (nx_f_ins_l2:List RowA×Int→Option (List RowA)) (l3:List RowA) (a2:Int):Option (List RowA):=
 (andO (decide (p1<a2)) ((nthI l3 a2).bind fun x1=>(nthI l3 (wI (a2-1))).bind fun x2=>(f_grove_Load_1 x1 x2).bind fun y1=>some (decide (y1<0)))).bind fun y2=>
 cond y2
 (
  (nthI l3 (wI (a2-1))).bind fun x3=>
  (nthI l3 a2).bind fun x4=>
  (nthI l3 a2).bind fun x5=>
  (setI l3 a2 x3).bind fun l4=>
  (nthI l4 (wI (a2-1))).bind fun x6=>
  (setI l4 (wI (a2-1)) x4).bind fun l5=>
  ret (wI (a2-1)) fun j_1=>
  nx_f_ins_l2 (l5,j_1))
 (
  f_ins_j1 a1 nx_f_ins_l1 l3)
def f_ins_l2 (p1:Int) (a1:Int) (nx_f_ins_l1:List RowA×Int→Option (List RowA)):Nat→(List RowA×Int)→Option (List RowA):=loopN fun nx x=>f_ins_l2_b p1 a1 nx_f_ins_l1 nx x.1 x.2
def f_ins_l1_b (n:Nat) (p1:Int) (p2:Int) (nx_f_ins_l1:List RowA×Int→Option (List RowA)) (l1:List RowA) (a1:Int):Option (List RowA):=
 cond (decide (a1<p2))
 (
  f_ins_l2 p1 a1 nx_f_ins_l1 n (l1,a1))
 (
  some l1)
def f_ins_l1 (n:Nat) (p1:Int) (p2:Int):Nat→(List RowA×Int)→Option (List RowA):=loopN fun nx x=>f_ins_l1_b n p1 p2 nx x.1 x.2
def f_ins (n:Nat) (p0:List RowA) (p1:Int) (p2:Int):Option (List RowA):=
 ret (wI (p1+1)) fun i_1=>
 f_ins_l1 n p1 p2 n (p0,i_1)
set_option maxHeartbeats 4000000 in
set_option maxRecDepth 100000 in
theorem c_ins {n:Nat} {v0_:Value} {p0:List RowA} {p1:Int} {p2:Int} {r:List RowA} (h:f_ins n p0 p1 p2=some r)  : Con Tryz.prog K w0 123 [v0_,vI p1,vI p2,.func (.func 50) #[] #[]] [rowT 79 4 v0_ encRow p0] H (fun u M=>u=.tuple #[]∧M=[rowT 79 4 v0_ encRow r]):=by
 unfold f_ins at h
 refine Con.enter Tryz.func123 rfl rfl ?_
 refine SX.sr ?_
 obtain ⟨i_1,ei_1,h⟩:=retE h
 refine SL.mv (.r rfl) rfl (SL.bin (.r rfl) rfl rfl Bin.addW ?_)
 refine SL.asgX (u:=vI i_1) (.r rfl) rfl (congrArg vI ei_1) ?_
 refine SL.nx (SX.block ?_)
 refine SX.heap (SX.mono (SX.loop (α:=Nat×List RowA×Int) (fun x=>f_ins_l1 n p1 p2 x.1 (x.2.1,x.2.2)=some r) (fun x=>[(0,v0_),(1,vI p1),(2,vI p2),(3,.func (.func 50) #[] #[]),(8,vI x.2.2)]) (fun x=>rowT 79 4 v0_ encRow x.2.1::H) (fun x=>x.1) (fun x D h=>?_) (n,p0,i_1) h) (by repeat' (first | exact trivial | refine And.intro rfl ?_))) (fun _ hw=>HpOk.pick (H:=[_]) hw [0] 1 rfl)
 obtain ⟨m1,l1,a1⟩:=x
 dsimp only at h
 rcases m1 with _ | m1
 cases (show (none:Option _)=some r from h)
 replace h:f_ins_l1_b n p1 p2 (f_ins_l1 n p1 p2 m1) l1 a1=some r:=h
 unfold f_ins_l1_b at h
 refine SX.re [(0,v0_),(1,vI p1),(2,vI p2),(3,.func (.func 50) #[] #[]),(8,vI a1)] (rowT 79 4 v0_ encRow l1::H) ?_ (by repeat' (first | exact trivial | refine And.intro rfl ?_))
 refine SX.seq (SX.sr (SL.mv (.r rfl) rfl (SL.mv (.r rfl) rfl (SL.bin (.r rfl) rfl rfl Bin.ltI (SL.nx ?_)))))
 refine SX.cond rfl (fun hc1=>?_) (fun hc1=>?_)
 replace h:=cT hc1 h
 refine SX.skip (SQ.thn ?_)
 refine SX.meetD (α:=List RowA) (fun x=>f_ins_j1 a1 (f_ins_l1 n p1 p2 m1) x=some r) (fun x=>[(0,v0_),(1,vI p1),(2,vI p2),(3,.func (.func 50) #[] #[]),(8,vI a1)]) (fun x=>rowT 79 4 v0_ encRow x::H) ?_ (fun l2 D h=>?_)
 refine SX.block (SX.sr (SL.mv (.r rfl) rfl (SL.asg (.r rfl) rfl (SL.nx (SX.block ?_)))))
 refine SX.heap (SX.mono (SX.loop (α:=Nat×List RowA×Int) (fun x=>f_ins_l2 p1 a1 (f_ins_l1 n p1 p2 m1) x.1 (x.2.1,x.2.2)=some r) (fun x=>[(0,v0_),(1,vI p1),(2,vI p2),(3,.func (.func 50) #[] #[]),(8,vI a1),(9,vI x.2.2)]) (fun x=>rowT 79 4 v0_ encRow x.2.1::H) (fun x=>x.1) (fun x D h=>?_) (n,l1,a1) h) (by repeat' (first | exact trivial | refine And.intro rfl ?_))) (fun _ hw=>HpOk.pick (H:=[_]) hw [0] 1 rfl)
 obtain ⟨m2,l3,a2⟩:=x
 dsimp only at h
 rcases m2 with _ | m2
 cases (show (none:Option _)=some r from h)
 replace h:f_ins_l2_b p1 a1 (f_ins_l1 n p1 p2 m1) (f_ins_l2 p1 a1 (f_ins_l1 n p1 p2 m1) m2) l3 a2=some r:=h
 unfold f_ins_l2_b at h
 refine SX.re [(0,v0_),(1,vI p1),(2,vI p2),(3,.func (.func 50) #[] #[]),(8,vI a1),(9,vI a2)] (rowT 79 4 v0_ encRow l3::H) ?_ (by repeat' (first | exact trivial | refine And.intro rfl ?_))
 refine SX.seq (SX.seq ?_)
 obtain ⟨y2,hy2,h⟩:=bnd h
 refine SX.drawI mix [0] (Pl.of [(true,0),(true,1),(true,2),(true,3),(true,4),(true,5),(true,6),(true,7),(true,8),(true,9),(true,10),(true,11),(true,12),(true,13),(false,14),(false,15),(false,16)]) (by kernel_rfl) (SL.mv (.r rfl) rfl (SL.mv (.r rfl) rfl (SL.bin (.r rfl) rfl rfl Bin.gtI (SL.mv (.r rfl) rfl ?_))))
 refine SL.andN 21 13 34 hy2 rfl (fun hb hg1 k=>?_) (fun hb k=>?_) ?_
 obtain ⟨x1,hx1,hg1⟩:=bnd hg1
 obtain ⟨x2,hx2,hg1⟩:=bnd hg1
 obtain ⟨y1,hy1,hg1⟩:=bnd hg1
 obtain rfl:=Option.some.inj hg1
 refine SL.mv (.r rfl) rfl (SL.mv (.r rfl) rfl (SL.mv (.r rfl) rfl ?_))
 refine SL.iaT 0 hx1 (.r rfl) ty35 sz79 rfl rfl rfl fun g1 m3 cp1 hv1=>?_
 refine SL.ldA (encRow x1) (.r rfl) ag79 rfl rfl (cells_rowT (sz:=4) (enc:=encRow) 0 (fun _=>rfl) rfl hv1 hx1) ?_
 refine SL.mv (.r rfl) rfl (SL.mv (.r rfl) rfl (SL.bin (.r rfl) rfl rfl Bin.subW ?_))
 refine SL.iaT 0 hx2 (.r rfl) ty35 sz79 rfl rfl rfl fun g2 m4 cp2 hv2=>?_
 refine SL.ldA (encRow x2) (.r rfl) ag79 rfl rfl (cells_rowT (sz:=4) (enc:=encRow) 0 (fun _=>rfl) rfl hv2 hx2) ?_
 refine SL.call (vs:=[_,_]) (Hin:=[]) (Hr:=_::_) (.r rfl) rfl ⟨rfl,rfl,trivial⟩ cal50 rfl rfl ((c_grove_Load_1 hy1 :)) ?_
 rintro _ _ ⟨rfl,rfl⟩
 refine ⟨⟨⟨0,rfl⟩,trivial⟩,?_⟩
 refine SL.bin (.r rfl) rfl rfl Bin.ltI (SL.pk (.r rfl) rfl rfl ?_)
 exact k.mono (by repeat' (first | exact trivial | refine And.intro rfl ?_))
 refine SL.pass rfl rfl rfl (SL.pass rfl rfl rfl (SL.pass rfl rfl rfl (SL.pass rfl rfl rfl (SL.pass rfl rfl rfl (SL.pass rfl rfl rfl (SL.pass rfl rfl rfl (SL.pass rfl rfl rfl ?_)))))))
 refine SL.pass rfl rfl rfl (SL.pass rfl rfl rfl (SL.pass rfl rfl rfl (SL.pass rfl rfl rfl (SL.pk (.r rfl) rfl rfl ?_))))
 exact k.mono (by repeat' (first | exact trivial | refine And.intro rfl ?_))
 refine SL.nx ?_
 refine SX.cond rfl (fun hc2=>?_) (fun hc2=>?_)
 replace h:=cT hc2 h
 refine SX.skip (SQ.thn (SX.seq (SX.block ?_)))
 obtain ⟨x3,hx3,h⟩:=bnd h
 obtain ⟨x4,hx4,h⟩:=bnd h
 obtain ⟨x5,hx5,h⟩:=bnd h
 obtain ⟨l4,hl4,h⟩:=bnd h
 obtain ⟨x6,hx6,h⟩:=bnd h
 obtain ⟨l5,hl5,h⟩:=bnd h
 refine SX.drawI mix [] (Pl.ap [(true,0),(true,1),(true,2),(true,3),(true,4),(true,5),(true,6),(true,7),(true,8),(true,10),(true,11),(true,12)] (.alt 9 (Pl.ap [(false,13),(true,14),(false,15),(true,16)] (.last 17 .nil)) (.cons (false,13) (Pl.ap [(false,9),(true,14),(false,15),(true,16)] (.last 17 .nil))))) (by kernel_rfl) (SL.mv (.r rfl) rfl (SL.mv (.r rfl) rfl (SL.mv (.r rfl) rfl (SL.mv (.r rfl) rfl (SL.bin (.r rfl) rfl rfl Bin.subW (SL.mv (.r rfl) rfl (SL.mv (.r rfl) rfl ?_)))))))
 refine SL.bin (.r rfl) rfl rfl Bin.subW ?_
 refine SL.iaT 0 hx3 (.r rfl) ty35 sz79 rfl rfl rfl fun g3 m5 cp3 hv3=>?_
 refine SL.mv (.r rfl) rfl (SL.mv (.r rfl) rfl ?_)
 refine SL.iaT 0 hx4 (.r rfl) ty35 sz79 rfl rfl rfl fun g4 m6 cp4 hv4=>?_
 refine SL.two ?_ ?_
 refine SL.ldA (encRow x3) (.r rfl) ag79 rfl rfl (cells_rowT (sz:=4) (enc:=encRow) 0 (fun _=>rfl) rfl hv3 hx3) ?_
 refine SL.ldA (encRow x4) (.r rfl) ag79 rfl rfl (cells_rowT (sz:=4) (enc:=encRow) 0 (fun _=>rfl) rfl hv4 hx4) ?_
 refine SL.iaT 0 hx5 (.r rfl) ty35 sz79 rfl rfl rfl fun g5 m7 cp5 hv5=>?_
 refine SL.stTN (sz:=4) (enc:=encRow) 0 hl4 (fun _=>rfl) ⟨rfl,rfl,rfl⟩ rfl rfl rfl rfl hv5 sz79 (by first | (simp [Value.oneCell'];done) | simp [encRow,Value.oneCell']) trivial ?_
 refine SL.iaT 0 hx6 (.r rfl) ty35 sz79 rfl rfl rfl fun g6 m8 cp6 hv6=>?_
 refine SL.last ?_
 refine SL.stTN (sz:=4) (enc:=encRow) 0 hl5 (fun _=>rfl) ⟨rfl,rfl,rfl⟩ rfl rfl rfl rfl hv6 sz79 (by first | (simp [Value.oneCell'];done) | simp [encRow,Value.oneCell']) trivial ?_
 refine SL.nil (SQ.blk (SQ.thn (SX.region ?_)))
 obtain ⟨j_1,ej_1,h⟩:=retE h
 refine SL.mv (.r rfl) rfl (SL.bin (.r rfl) rfl rfl Bin.subW ?_)
 refine SL.asgX (u:=vI j_1) (.r rfl) rfl (congrArg vI ej_1) ?_
 refine SL.nil ?_
 exact SQ.again (m2,l5,j_1) h (Nat.lt_succ_self _) (by repeat' (first | exact trivial | refine And.intro rfl ?_)) (fun _ hw=>HpOk.pick (H:=[_]) hw [0] 1 rfl)
 refine SL.ldA (encRow x4) (.r rfl) ag79 rfl rfl (cells_rowT (sz:=4) (enc:=encRow) 0 (fun _=>rfl) rfl hv4 hx4) ?_
 refine SL.ldA (encRow x3) (.r rfl) ag79 rfl rfl (cells_rowT (sz:=4) (enc:=encRow) 0 (fun _=>rfl) rfl hv3 hx3) ?_
 refine SL.iaT 0 hx5 (.r rfl) ty35 sz79 rfl rfl rfl fun g5 m7 cp5 hv5=>?_
 refine SL.stTN (sz:=4) (enc:=encRow) 0 hl4 (fun _=>rfl) ⟨rfl,rfl,rfl⟩ rfl rfl rfl rfl hv5 sz79 (by first | (simp [Value.oneCell'];done) | simp [encRow,Value.oneCell']) trivial ?_
 refine SL.iaT 0 hx6 (.r rfl) ty35 sz79 rfl rfl rfl fun g6 m8 cp6 hv6=>?_
 refine SL.last ?_
 refine SL.stTN (sz:=4) (enc:=encRow) 0 hl5 (fun _=>rfl) ⟨rfl,rfl,rfl⟩ rfl rfl rfl rfl hv6 sz79 (by first | (simp [Value.oneCell'];done) | simp [encRow,Value.oneCell']) trivial ?_
 refine SL.nil (SQ.blk (SQ.thn (SX.region ?_)))
 obtain ⟨j_1,ej_1,h⟩:=retE h
 refine SL.mv (.r rfl) rfl (SL.bin (.r rfl) rfl rfl Bin.subW ?_)
 refine SL.asgX (u:=vI j_1) (.r rfl) rfl (congrArg vI ej_1) ?_
 refine SL.nil ?_
 exact SQ.again (m2,l5,j_1) h (Nat.lt_succ_self _) (by repeat' (first | exact trivial | refine And.intro rfl ?_)) (fun _ hw=>HpOk.pick (H:=[_]) hw [0] 1 rfl)
 replace h:=cF hc2 h
 refine SX.exit (SQ.thnE (SQ.lpE (SQ.blkE (SQ.blk ?_))))
 exact SQ.midD l3 h (by repeat' (first | exact trivial | refine And.intro rfl ?_)) (fun _ hw=>HpOk.pick (H:=[_]) hw [0] 1 rfl)
 unfold f_ins_j1 at h
 refine SX.re [(0,v0_),(1,vI p1),(2,vI p2),(3,.func (.func 50) #[] #[]),(8,vI a1)] (rowT 79 4 v0_ encRow l2::H) ?_ (by repeat' (first | exact trivial | refine And.intro rfl ?_))
 refine SX.region ?_
 obtain ⟨i_2,ei_2,h⟩:=retE h
 refine SL.mv (.r rfl) rfl (SL.bin (.r rfl) rfl rfl Bin.addW ?_)
 refine SL.asgX (u:=vI i_2) (.r rfl) rfl (congrArg vI ei_2) ?_
 refine SL.nil ?_
 exact SQ.again (m1,l2,i_2) h (Nat.lt_succ_self _) (by repeat' (first | exact trivial | refine And.intro rfl ?_)) (fun _ hw=>HpOk.pick (H:=[_]) hw [0] 1 rfl)
 replace h:=cF hc1 h
 refine SX.exit (SQ.thnE (SQ.lpE (SQ.blkE ?_)))
 obtain rfl:=Option.some.inj h
 exact SQ.fend (res0 rfl) (ret_of (M:=[_]) ⟨rfl,rfl⟩ fun _ hw=>HpOk.pick (H:=[_]) hw [0] 1 rfl)

def f_swp_l1_b (p1:Int) (p2:Int) (p3:Int) (nx_f_swp_l1:List RowA×Int→Option (List RowA)) (l1:List RowA) (a1:Int):Option (List RowA):=
 cond (decide (a1<p3))
 (
  (nthI l1 (wI (p2+a1))).bind fun x1=>
  (nthI l1 (wI (p1+a1))).bind fun x2=>
  (nthI l1 (wI (p1+a1))).bind fun x3=>
  (setI l1 (wI (p1+a1)) x1).bind fun l2=>
  (nthI l2 (wI (p2+a1))).bind fun x4=>
  (setI l2 (wI (p2+a1)) x2).bind fun l3=>
  ret (wI (a1+1)) fun i_1=>
  nx_f_swp_l1 (l3,i_1))
 (
  some l1)
def f_swp_l1 (p1:Int) (p2:Int) (p3:Int):Nat→(List RowA×Int)→Option (List RowA):=loopN fun nx x=>f_swp_l1_b p1 p2 p3 nx x.1 x.2
def f_swp (n:Nat) (p0:List RowA) (p1:Int) (p2:Int) (p3:Int):Option (List RowA):=
 f_swp_l1 p1 p2 p3 n (p0,0)
set_option maxRecDepth 100000 in
theorem c_swp {n:Nat} {v0_:Value} {p0:List RowA} {p1:Int} {p2:Int} {p3:Int} {r:List RowA} (h:f_swp n p0 p1 p2 p3=some r)  : Con Tryz.prog K w0 206 [v0_,vI p1,vI p2,vI p3,.func (.func 50) #[] #[]] [rowT 79 4 v0_ encRow p0] H (fun u M=>u=.tuple #[]∧M=[rowT 79 4 v0_ encRow r]):=by
 unfold f_swp at h
 refine Con.enter Tryz.func206 rfl rfl ?_
 refine SX.sr (SL.asg (.r rfl) rfl (SL.nx (SX.block ?_)))
 refine SX.heap (SX.mono (SX.loop (α:=Nat×List RowA×Int) (fun x=>f_swp_l1 p1 p2 p3 x.1 (x.2.1,x.2.2)=some r) (fun x=>[(0,v0_),(1,vI p1),(2,vI p2),(3,vI p3),(10,vI x.2.2)]) (fun x=>rowT 79 4 v0_ encRow x.2.1::H) (fun x=>x.1) (fun x D h=>?_) (n,p0,0) h) (by repeat' (first | exact trivial | refine And.intro rfl ?_))) (fun _ hw=>HpOk.pick (H:=[_]) hw [0] 1 rfl)
 obtain ⟨m1,l1,a1⟩:=x
 dsimp only at h
 rcases m1 with _ | m1
 cases (show (none:Option _)=some r from h)
 replace h:f_swp_l1_b p1 p2 p3 (f_swp_l1 p1 p2 p3 m1) l1 a1=some r:=h
 unfold f_swp_l1_b at h
 refine SX.re [(0,v0_),(1,vI p1),(2,vI p2),(3,vI p3),(10,vI a1)] (rowT 79 4 v0_ encRow l1::H) ?_ (by repeat' (first | exact trivial | refine And.intro rfl ?_))
 refine SX.seq (SX.sr (SL.mv (.r rfl) rfl (SL.mv (.r rfl) rfl (SL.bin (.r rfl) rfl rfl Bin.ltI (SL.nx ?_)))))
 refine SX.cond rfl (fun hc1=>?_) (fun hc1=>?_)
 replace h:=cT hc1 h
 refine SX.skip (SQ.thn (SX.seq (SX.block ?_)))
 obtain ⟨x1,hx1,h⟩:=bnd h
 obtain ⟨x2,hx2,h⟩:=bnd h
 obtain ⟨x3,hx3,h⟩:=bnd h
 obtain ⟨l2,hl2,h⟩:=bnd h
 obtain ⟨x4,hx4,h⟩:=bnd h
 obtain ⟨l3,hl3,h⟩:=bnd h
 refine SX.drawI mix [] (Pl.ap [(true,0),(true,1),(true,2),(true,3),(true,4),(true,5),(true,6),(true,7),(true,8),(true,9),(true,10),(true,11),(true,12),(true,14),(true,15),(true,16),(true,17),(true,18)] (.alt 13 (Pl.ap [(false,19),(true,20),(false,21),(true,22)] (.last 23 .nil)) (.cons (false,19) (Pl.ap [(false,13),(true,20),(false,21),(true,22)] (.last 23 .nil))))) (by kernel_rfl) (SL.mv (.r rfl) rfl (SL.mv (.r rfl) rfl (SL.mv (.r rfl) rfl (SL.bin (.r rfl) rfl rfl Bin.addW (SL.mv (.r rfl) rfl (SL.mv (.r rfl) rfl (SL.mv (.r rfl) rfl ?_)))))))
 refine SL.bin (.r rfl) rfl rfl Bin.addW (SL.mv (.r rfl) rfl (SL.mv (.r rfl) rfl (SL.mv (.r rfl) rfl (SL.bin (.r rfl) rfl rfl Bin.addW ?_))))
 refine SL.iaT 0 hx1 (.r rfl) ty35 sz79 rfl rfl rfl fun g1 m2 cp1 hv1=>?_
 refine SL.mv (.r rfl) rfl (SL.mv (.r rfl) rfl (SL.mv (.r rfl) rfl (SL.bin (.r rfl) rfl rfl Bin.addW ?_)))
 refine SL.iaT 0 hx2 (.r rfl) ty35 sz79 rfl rfl rfl fun g2 m3 cp2 hv2=>?_
 refine SL.two ?_ ?_
 refine SL.ldA (encRow x1) (.r rfl) ag79 rfl rfl (cells_rowT (sz:=4) (enc:=encRow) 0 (fun _=>rfl) rfl hv1 hx1) ?_
 refine SL.ldA (encRow x2) (.r rfl) ag79 rfl rfl (cells_rowT (sz:=4) (enc:=encRow) 0 (fun _=>rfl) rfl hv2 hx2) ?_
 refine SL.iaT 0 hx3 (.r rfl) ty35 sz79 rfl rfl rfl fun g3 m4 cp3 hv3=>?_
 refine SL.stTN (sz:=4) (enc:=encRow) 0 hl2 (fun _=>rfl) ⟨rfl,rfl,rfl⟩ rfl rfl rfl rfl hv3 sz79 (by first | (simp [Value.oneCell'];done) | simp [encRow,Value.oneCell']) trivial ?_
 refine SL.iaT 0 hx4 (.r rfl) ty35 sz79 rfl rfl rfl fun g4 m5 cp4 hv4=>?_
 refine SL.last ?_
 refine SL.stTN (sz:=4) (enc:=encRow) 0 hl3 (fun _=>rfl) ⟨rfl,rfl,rfl⟩ rfl rfl rfl rfl hv4 sz79 (by first | (simp [Value.oneCell'];done) | simp [encRow,Value.oneCell']) trivial ?_
 refine SL.nil (SQ.blk (SQ.thn (SX.region ?_)))
 obtain ⟨i_1,ei_1,h⟩:=retE h
 refine SL.mv (.r rfl) rfl (SL.bin (.r rfl) rfl rfl Bin.addW ?_)
 refine SL.asgX (u:=vI i_1) (.r rfl) rfl (congrArg vI ei_1) ?_
 refine SL.nil ?_
 exact SQ.again (m1,l3,i_1) h (Nat.lt_succ_self _) (by repeat' (first | exact trivial | refine And.intro rfl ?_)) (fun _ hw=>HpOk.pick (H:=[_]) hw [0] 1 rfl)
 refine SL.ldA (encRow x2) (.r rfl) ag79 rfl rfl (cells_rowT (sz:=4) (enc:=encRow) 0 (fun _=>rfl) rfl hv2 hx2) ?_
 refine SL.ldA (encRow x1) (.r rfl) ag79 rfl rfl (cells_rowT (sz:=4) (enc:=encRow) 0 (fun _=>rfl) rfl hv1 hx1) ?_
 refine SL.iaT 0 hx3 (.r rfl) ty35 sz79 rfl rfl rfl fun g3 m4 cp3 hv3=>?_
 refine SL.stTN (sz:=4) (enc:=encRow) 0 hl2 (fun _=>rfl) ⟨rfl,rfl,rfl⟩ rfl rfl rfl rfl hv3 sz79 (by first | (simp [Value.oneCell'];done) | simp [encRow,Value.oneCell']) trivial ?_
 refine SL.iaT 0 hx4 (.r rfl) ty35 sz79 rfl rfl rfl fun g4 m5 cp4 hv4=>?_
 refine SL.last ?_
 refine SL.stTN (sz:=4) (enc:=encRow) 0 hl3 (fun _=>rfl) ⟨rfl,rfl,rfl⟩ rfl rfl rfl rfl hv4 sz79 (by first | (simp [Value.oneCell'];done) | simp [encRow,Value.oneCell']) trivial ?_
 refine SL.nil (SQ.blk (SQ.thn (SX.region ?_)))
 obtain ⟨i_1,ei_1,h⟩:=retE h
 refine SL.mv (.r rfl) rfl (SL.bin (.r rfl) rfl rfl Bin.addW ?_)
 refine SL.asgX (u:=vI i_1) (.r rfl) rfl (congrArg vI ei_1) ?_
 refine SL.nil ?_
 exact SQ.again (m1,l3,i_1) h (Nat.lt_succ_self _) (by repeat' (first | exact trivial | refine And.intro rfl ?_)) (fun _ hw=>HpOk.pick (H:=[_]) hw [0] 1 rfl)
 replace h:=cF hc1 h
 refine SX.exit (SQ.thnE (SQ.lpE (SQ.blkE ?_)))
 obtain rfl:=Option.some.inj h
 exact SQ.fend (res0 rfl) (ret_of (M:=[_]) ⟨rfl,rfl⟩ fun _ hw=>HpOk.pick (H:=[_]) hw [0] 1 rfl)

def f_rot_j1 (n:Nat) (p2:Int) (l1:List RowA) (a1:Int):Option (List RowA):=
 (f_swp n l1 (wI (p2-a1)) p2 a1).bind fun y3=>
 some y3
def f_rot_l1_b (n:Nat) (p2:Int) (nx_f_rot_l1:List RowA×Int×Int→Option (List RowA)) (l2:List RowA) (a2:Int) (a3:Int):Option (List RowA):=
 cond (!decide (a2=a3))
 (
  cond (decide (a3<a2))
  (
   (f_swp n l2 (wI (p2-a2)) p2 a3).bind fun y1=>
   ret (wI (a2-a3)) fun i_2=>
   nx_f_rot_l1 (y1,i_2,a3))
  (
   (f_swp n l2 (wI (p2-a2)) (wI ((wI (p2+a3))-a2)) a2).bind fun y2=>
   ret (wI (a3-a2)) fun j_2=>
   nx_f_rot_l1 (y2,a2,j_2)))
 (
  f_rot_j1 n p2 l2 a2)
def f_rot_l1 (n:Nat) (p2:Int):Nat→(List RowA×Int×Int)→Option (List RowA):=loopN fun nx x=>f_rot_l1_b n p2 nx x.1 x.2.1 x.2.2
def f_rot (n:Nat) (p0:List RowA) (p1:Int) (p2:Int) (p3:Int):Option (List RowA):=
 ret (wI (p2-p1)) fun i_1=>
 ret (wI (p3-p2)) fun j_1=>
 f_rot_l1 n p2 n (p0,i_1,j_1)
set_option maxHeartbeats 4000000 in
set_option maxRecDepth 100000 in
theorem c_rot {n:Nat} {v0_:Value} {p0:List RowA} {p1:Int} {p2:Int} {p3:Int} {r:List RowA} (h:f_rot n p0 p1 p2 p3=some r)  : Con Tryz.prog K w0 169 [v0_,vI p1,vI p2,vI p3,.func (.func 50) #[] #[]] [rowT 79 4 v0_ encRow p0] H (fun u M=>u=.tuple #[]∧M=[rowT 79 4 v0_ encRow r]):=by
 unfold f_rot at h
 refine Con.enter Tryz.func169 rfl rfl ?_
 refine SX.sr ?_
 obtain ⟨i_1,ei_1,h⟩:=retE h
 refine SL.mv (.r rfl) rfl (SL.mv (.r rfl) rfl (SL.bin (.r rfl) rfl rfl Bin.subW ?_))
 refine SL.asgX (u:=vI i_1) (.r rfl) rfl (congrArg vI ei_1) ?_
 refine SL.nx (SX.sr ?_)
 obtain ⟨j_1,ej_1,h⟩:=retE h
 refine SL.mv (.r rfl) rfl (SL.mv (.r rfl) rfl (SL.bin (.r rfl) rfl rfl Bin.subW ?_))
 refine SL.asgX (u:=vI j_1) (.r rfl) rfl (congrArg vI ej_1) ?_
 refine SL.nx ?_
 refine SX.meetD (α:=List RowA×Int) (fun x=>f_rot_j1 n p2 x.1 x.2=some r) (fun x=>[(0,v0_),(2,vI p2),(4,.func (.func 50) #[] #[]),(10,vI x.2)]) (fun x=>rowT 79 4 v0_ encRow x.1::H) ?_ (fun x D h=>?_)
 refine SX.block ?_
 refine SX.heap (SX.mono (SX.loop (α:=Nat×List RowA×Int×Int) (fun x=>f_rot_l1 n p2 x.1 (x.2.1,x.2.2.1,x.2.2.2)=some r) (fun x=>[(0,v0_),(2,vI p2),(4,.func (.func 50) #[] #[]),(10,vI x.2.2.1),(11,vI x.2.2.2)]) (fun x=>rowT 79 4 v0_ encRow x.2.1::H) (fun x=>x.1) (fun x D h=>?_) (n,p0,i_1,j_1) h) (by repeat' (first | exact trivial | refine And.intro rfl ?_))) (fun _ hw=>HpOk.pick (H:=[_]) hw [0] 1 rfl)
 obtain ⟨m1,l2,a2,a3⟩:=x
 dsimp only at h
 rcases m1 with _ | m1
 cases (show (none:Option _)=some r from h)
 replace h:f_rot_l1_b n p2 (f_rot_l1 n p2 m1) l2 a2 a3=some r:=h
 unfold f_rot_l1_b at h
 refine SX.re [(0,v0_),(2,vI p2),(4,.func (.func 50) #[] #[]),(10,vI a2),(11,vI a3)] (rowT 79 4 v0_ encRow l2::H) ?_ (by repeat' (first | exact trivial | refine And.intro rfl ?_))
 refine SX.seq (SX.sr (SL.mv (.r rfl) rfl (SL.mv (.r rfl) rfl (SL.bin (.r rfl) rfl rfl Bin.neI (SL.nx ?_)))))
 refine SX.cond rfl (fun hc1=>?_) (fun hc1=>?_)
 replace h:=cT hc1 h
 refine SX.skip (SQ.thn (SX.block (SX.sr (SL.mv (.r rfl) rfl (SL.mv (.r rfl) rfl (SL.bin (.r rfl) rfl rfl Bin.gtI (SL.nx ?_)))))))
 refine SX.cond rfl (fun hc2=>?_) (fun hc2=>?_)
 replace h:=cT hc2 h
 refine SX.sr ?_
 obtain ⟨y1,hy1,h⟩:=bnd h
 refine SL.mv (.r rfl) rfl (SL.mv (.r rfl) rfl (SL.mv (.r rfl) rfl (SL.bin (.r rfl) rfl rfl Bin.subW (SL.mv (.r rfl) rfl (SL.mv (.r rfl) rfl (SL.mv (.r rfl) rfl ?_))))))
 refine SL.call (vs:=[_,_,_,_,_]) (Hin:=[_]) (Hr:=_) (.r rfl) rfl ⟨rfl,rfl,rfl,rfl,rfl,trivial⟩ cal206 rfl rfl (c_swp hy1) ?_
 rintro _ _ ⟨rfl,rfl⟩
 refine ⟨trivial,?_⟩
 refine SL.nx (SX.region ?_)
 obtain ⟨i_2,ei_2,h⟩:=retE h
 refine SL.mv (.r rfl) rfl (SL.mv (.r rfl) rfl (SL.bin (.r rfl) rfl rfl Bin.subW ?_))
 refine SL.asgX (u:=vI i_2) (.r rfl) rfl (congrArg vI ei_2) ?_
 refine SL.nil (SQ.blk ?_)
 exact SQ.again (m1,y1,i_2,a3) h (Nat.lt_succ_self _) (by repeat' (first | exact trivial | refine And.intro rfl ?_)) (fun _ hw=>HpOk.pick (H:=[_]) hw [0] 1 rfl)
 replace h:=cF hc2 h
 refine SX.sr ?_
 obtain ⟨y2,hy2,h⟩:=bnd h
 refine SL.mv (.r rfl) rfl (SL.mv (.r rfl) rfl (SL.mv (.r rfl) rfl (SL.bin (.r rfl) rfl rfl Bin.subW (SL.mv (.r rfl) rfl (SL.mv (.r rfl) rfl (SL.bin (.r rfl) rfl rfl Bin.addW (SL.mv (.r rfl) rfl ?_)))))))
 refine SL.bin (.r rfl) rfl rfl Bin.subW (SL.mv (.r rfl) rfl (SL.mv (.r rfl) rfl ?_))
 refine SL.call (vs:=[_,_,_,_,_]) (Hin:=[_]) (Hr:=_) (.r rfl) rfl ⟨rfl,rfl,rfl,rfl,rfl,trivial⟩ cal206 rfl rfl (c_swp hy2) ?_
 rintro _ _ ⟨rfl,rfl⟩
 refine ⟨trivial,?_⟩
 refine SL.nx (SX.region ?_)
 obtain ⟨j_2,ej_2,h⟩:=retE h
 refine SL.mv (.r rfl) rfl (SL.mv (.r rfl) rfl (SL.bin (.r rfl) rfl rfl Bin.subW ?_))
 refine SL.asgX (u:=vI j_2) (.r rfl) rfl (congrArg vI ej_2) ?_
 refine SL.nil (SQ.blk ?_)
 exact SQ.again (m1,y2,a2,j_2) h (Nat.lt_succ_self _) (by repeat' (first | exact trivial | refine And.intro rfl ?_)) (fun _ hw=>HpOk.pick (H:=[_]) hw [0] 1 rfl)
 replace h:=cF hc1 h
 refine SX.exit (SQ.thnE (SQ.lpE (SQ.blkE ?_)))
 exact SQ.midD (l2,a2) h (by repeat' (first | exact trivial | refine And.intro rfl ?_)) (fun _ hw=>HpOk.pick (H:=[_]) hw [0] 1 rfl)
 obtain ⟨l1,a1⟩:=x
 dsimp only at h
 unfold f_rot_j1 at h
 refine SX.re [(0,v0_),(2,vI p2),(4,.func (.func 50) #[] #[]),(10,vI a1)] (rowT 79 4 v0_ encRow l1::H) ?_ (by repeat' (first | exact trivial | refine And.intro rfl ?_))
 refine SX.region ?_
 obtain ⟨y3,hy3,h⟩:=bnd h
 refine SL.mv (.r rfl) rfl (SL.mv (.r rfl) rfl (SL.mv (.r rfl) rfl (SL.bin (.r rfl) rfl rfl Bin.subW (SL.mv (.r rfl) rfl (SL.mv (.r rfl) rfl (SL.mv (.r rfl) rfl ?_))))))
 refine SL.call (vs:=[_,_,_,_,_]) (Hin:=[_]) (Hr:=_) (.r rfl) rfl ⟨rfl,rfl,rfl,rfl,rfl,trivial⟩ cal206 rfl rfl (c_swp hy3) ?_
 rintro _ _ ⟨rfl,rfl⟩
 refine ⟨trivial,?_⟩
 refine SL.nil ?_
 obtain rfl:=Option.some.inj h
 exact SQ.fend (res0 rfl) (ret_of (M:=[_]) ⟨rfl,rfl⟩ fun _ hw=>HpOk.pick (H:=[_]) hw [0] 1 rfl)


end Go.Proofs.YtkibffdipniemaaGreatDoor

/- Plain functions of the references and the laws, printed from the loaded program, and the walks that show that the program computes them. Condition: the plain function yields. -/
namespace Go.Proofs.YtkibffdipniemaaGreatDoor
open Go
variable {K:Nat→Prop} {w0:World} {H:List Chunk}

def f_sym_j6 (l7:List RowA):Option (List RowA):=
 some l7
def f_sym_l4_b (a5:Int) (nx_f_sym_l4:List RowA×Int→Option (List RowA)) (l8:List RowA) (a8:Int):Option (List RowA):=
 cond (decide (a5<a8))
 (
  (nthI l8 (wI (a8-1))).bind fun x11=>
  (nthI l8 a8).bind fun x12=>
  (nthI l8 a8).bind fun x13=>
  (setI l8 a8 x11).bind fun l9=>
  (nthI l9 (wI (a8-1))).bind fun x14=>
  (setI l9 (wI (a8-1)) x12).bind fun l10=>
  ret (wI (a8-1)) fun k_2=>
  nx_f_sym_l4 (l10,k_2))
 (
  f_sym_j6 l8)
def f_sym_l4 (a5:Int):Nat→(List RowA×Int)→Option (List RowA):=loopN fun nx x=>f_sym_l4_b a5 nx x.1 x.2
def f_sym_j5 (n:Nat) (p2:Int) (l1:List RowA) (a5:Int):Option (List RowA):=
 f_sym_l4 a5 n (l1,p2)
def f_sym_l3_b (n:Nat) (p2:Int) (l1:List RowA) (nx_f_sym_l3:Int×Int→Option (List RowA)) (a6:Int) (a7:Int):Option (List RowA):=
 cond (decide (a6<a7))
 (
  ret (wI ((shr64 (toU64 (wI (a6+a7))) 1).toNat:Int)) fun x8=>
  (nthI l1 p2).bind fun x9=>
  (nthI l1 x8).bind fun x10=>
  (f_grove_Load_1 x9 x10).bind fun y2=>
  cond (!(decide (y2<0)))
  (
   ret (wI (x8+1)) fun i_2=>
   nx_f_sym_l3 (i_2,a7))
  (
   nx_f_sym_l3 (a6,x8)))
 (
  f_sym_j5 n p2 l1 a6)
def f_sym_l3 (n:Nat) (p2:Int) (l1:List RowA):Nat→(Int×Int)→Option (List RowA):=loopN fun nx x=>f_sym_l3_b n p2 l1 nx x.1 x.2
def f_sym_j10 (p3:Int) (rec_:(List RowA)→Int→Int→Int→Option (List RowA)) (mid_1:Int) (x19:Int) (l12:List RowA):Option (List RowA):=
 cond ((decide (mid_1<x19))&&(decide (x19<p3)))
 (
  (rec_ l12 mid_1 x19 p3).bind fun y6=>
  some y6)
 (
  some l12)
def f_sym_j9 (p1:Int) (p3:Int) (rec_:(List RowA)→Int→Int→Int→Option (List RowA)) (mid_1:Int) (a11:Int) (x19:Int) (l11:List RowA):Option (List RowA):=
 cond ((decide (p1<a11))&&(decide (a11<mid_1)))
 (
  (rec_ l11 p1 a11 mid_1).bind fun y5=>
  f_sym_j10 p3 rec_ mid_1 x19 y5)
 (
  f_sym_j10 p3 rec_ mid_1 x19 l11)
def f_sym_j8 (n:Nat) (p1:Int) (p2:Int) (p3:Int) (rec_:(List RowA)→Int→Int→Int→Option (List RowA)) (l6:List RowA) (mid_1:Int) (x15:Int) (a11:Int):Option (List RowA):=
 ret (wI (x15-a11)) fun x19=>
 cond ((decide (a11<p2))&&(decide (p2<x19)))
 (
  (f_rot n l6 a11 p2 x19).bind fun y4=>
  f_sym_j9 p1 p3 rec_ mid_1 a11 x19 y4)
 (
  f_sym_j9 p1 p3 rec_ mid_1 a11 x19 l6)
def f_sym_l5_b (n:Nat) (p1:Int) (p2:Int) (p3:Int) (rec_:(List RowA)→Int→Int→Int→Option (List RowA)) (l6:List RowA) (mid_1:Int) (x15:Int) (p_1:Int) (nx_f_sym_l5:Int×Int→Option (List RowA)) (a12:Int) (a13:Int):Option (List RowA):=
 cond (decide (a12<a13))
 (
  ret (wI ((shr64 (toU64 (wI (a12+a13))) 1).toNat:Int)) fun x16=>
  (nthI l6 (wI (p_1-x16))).bind fun x17=>
  (nthI l6 x16).bind fun x18=>
  (f_grove_Load_1 x17 x18).bind fun y3=>
  cond (!(decide (y3<0)))
  (
   ret (wI (x16+1)) fun start_2=>
   nx_f_sym_l5 (start_2,a13))
  (
   nx_f_sym_l5 (a12,x16)))
 (
  f_sym_j8 n p1 p2 p3 rec_ l6 mid_1 x15 a12)
def f_sym_l5 (n:Nat) (p1:Int) (p2:Int) (p3:Int) (rec_:(List RowA)→Int→Int→Int→Option (List RowA)) (l6:List RowA) (mid_1:Int) (x15:Int) (p_1:Int):Nat→(Int×Int)→Option (List RowA):=loopN fun nx x=>f_sym_l5_b n p1 p2 p3 rec_ l6 mid_1 x15 p_1 nx x.1 x.2
def f_sym_j7 (n:Nat) (p1:Int) (p2:Int) (p3:Int) (rec_:(List RowA)→Int→Int→Int→Option (List RowA)) (l6:List RowA) (mid_1:Int) (x15:Int) (a9:Int) (a10:Int):Option (List RowA):=
 ret (wI (x15-1)) fun p_1=>
 f_sym_l5 n p1 p2 p3 rec_ l6 mid_1 x15 p_1 n (a9,a10)
def f_sym_j4 (n:Nat) (p1:Int) (p2:Int) (p3:Int) (rec_:(List RowA)→Int→Int→Int→Option (List RowA)) (l6:List RowA):Option (List RowA):=
 ret (wI ((shr64 (toU64 (wI (p1+p3))) 1).toNat:Int)) fun mid_1=>
 ret (wI (mid_1+p2)) fun x15=>
 cond (decide (mid_1<p2))
 (
  ret (wI (x15-p3)) fun start_1=>
  f_sym_j7 n p1 p2 p3 rec_ l6 mid_1 x15 start_1 mid_1)
 (
  f_sym_j7 n p1 p2 p3 rec_ l6 mid_1 x15 p1 p2)
def f_sym_j1 (n:Nat) (p1:Int) (p2:Int) (p3:Int) (rec_:(List RowA)→Int→Int→Int→Option (List RowA)) (l1:List RowA):Option (List RowA):=
 cond (decide (wI (p3-p2)=1))
 (
  f_sym_l3 n p2 l1 n (p1,p2))
 (
  f_sym_j4 n p1 p2 p3 rec_ l1)
def f_sym_j3 (l2:List RowA):Option (List RowA):=
 some l2
def f_sym_l2_b (a1:Int) (nx_f_sym_l2:List RowA×Int→Option (List RowA)) (l3:List RowA) (a4:Int):Option (List RowA):=
 cond (decide (a4<wI (a1-1)))
 (
  (nthI l3 (wI (a4+1))).bind fun x4=>
  (nthI l3 a4).bind fun x5=>
  (nthI l3 a4).bind fun x6=>
  (setI l3 a4 x4).bind fun l4=>
  (nthI l4 (wI (a4+1))).bind fun x7=>
  (setI l4 (wI (a4+1)) x5).bind fun l5=>
  ret (wI (a4+1)) fun k_1=>
  nx_f_sym_l2 (l5,k_1))
 (
  f_sym_j3 l3)
def f_sym_l2 (a1:Int):Nat→(List RowA×Int)→Option (List RowA):=loopN fun nx x=>f_sym_l2_b a1 nx x.1 x.2
def f_sym_j2 (n:Nat) (p0:List RowA) (p1:Int) (a1:Int):Option (List RowA):=
 f_sym_l2 a1 n (p0,p1)
def f_sym_l1_b (n:Nat) (p0:List RowA) (p1:Int) (nx_f_sym_l1:Int×Int→Option (List RowA)) (a2:Int) (a3:Int):Option (List RowA):=
 cond (decide (a2<a3))
 (
  ret (wI ((shr64 (toU64 (wI (a2+a3))) 1).toNat:Int)) fun x1=>
  (nthI p0 x1).bind fun x2=>
  (nthI p0 p1).bind fun x3=>
  (f_grove_Load_1 x2 x3).bind fun y1=>
  cond (decide (y1<0))
  (
   ret (wI (x1+1)) fun i_1=>
   nx_f_sym_l1 (i_1,a3))
  (
   nx_f_sym_l1 (a2,x1)))
 (
  f_sym_j2 n p0 p1 a2)
def f_sym_l1 (n:Nat) (p0:List RowA) (p1:Int):Nat→(Int×Int)→Option (List RowA):=loopN fun nx x=>f_sym_l1_b n p0 p1 nx x.1 x.2
def f_sym (rec_:(List RowA)→Int→Int→Int→Option (List RowA)) (n:Nat) (p0:List RowA) (p1:Int) (p2:Int) (p3:Int):Option (List RowA):=
 cond (decide (wI (p2-p1)=1))
 (
  f_sym_l1 n p0 p1 n (p2,p3))
 (
  f_sym_j1 n p1 p2 p3 rec_ p0)
set_option maxHeartbeats 4000000 in
set_option maxRecDepth 100000 in
theorem c_sym {rec_:(List RowA)→Int→Int→Int→Option (List RowA)} {n:Nat} {v0_:Value} {p0:List RowA} {p1:Int} {p2:Int} {p3:Int} {r:List RowA} (h:f_sym rec_ n p0 p1 p2 p3=some r) (hrec:∀ {H:List Chunk} {v0_:Value} {p0:List RowA} {p1:Int} {p2:Int} {p3:Int} {r:List RowA},rec_ p0 p1 p2 p3=some r→Con Tryz.prog K w0 124 [v0_,vI p1,vI p2,vI p3,.func (.func 50) #[] #[]] [rowT 79 4 v0_ encRow p0] H (fun u M=>u=.tuple #[]∧M=[rowT 79 4 v0_ encRow r])):Con Tryz.prog K w0 124 [v0_,vI p1,vI p2,vI p3,.func (.func 50) #[] #[]] [rowT 79 4 v0_ encRow p0] H (fun u M=>u=.tuple #[]∧M=[rowT 79 4 v0_ encRow r]):=by
 unfold f_sym at h
 refine Con.enter Tryz.func124 rfl rfl ?_
 refine SX.meetD (α:=List RowA) (fun x=>f_sym_j1 n p1 p2 p3 rec_ x=some r) (fun x=>[(0,v0_),(1,vI p1),(2,vI p2),(3,vI p3),(4,.func (.func 50) #[] #[])]) (fun x=>rowT 79 4 v0_ encRow x::H) ?_ (fun l1 D h=>?_)
 refine SX.sr (SL.mv (.r rfl) rfl (SL.mv (.r rfl) rfl (SL.bin (.r rfl) rfl rfl Bin.subW (SL.bin (.r rfl) rfl rfl Bin.eqI (SL.nx ?_)))))
 refine SX.cond rfl (fun hc1=>?_) (fun hc1=>?_)
 replace h:=cT hc1 h
 refine SX.sr (SL.mv (.r rfl) rfl (SL.asg (.r rfl) rfl (SL.nx (SX.sr (SL.mv (.r rfl) rfl (SL.asg (.r rfl) rfl (SL.nx ?_)))))))
 refine SX.meetD (α:=Int) (fun x=>f_sym_j2 n p0 p1 x=some r) (fun x=>[(0,v0_),(1,vI p1),(10,vI x)]) (fun x=>rowT 79 4 v0_ encRow p0::H) ?_ (fun a1 D h=>?_)
 refine SX.block ?_
 refine SX.heap (SX.mono (SX.loop (α:=Nat×Int×Int) (fun x=>f_sym_l1 n p0 p1 x.1 (x.2.1,x.2.2)=some r) (fun x=>[(0,v0_),(1,vI p1),(4,.func (.func 50) #[] #[]),(10,vI x.2.1),(11,vI x.2.2)]) (fun x=>rowT 79 4 v0_ encRow p0::H) (fun x=>x.1) (fun x D h=>?_) (n,p2,p3) h) (by repeat' (first | exact trivial | refine And.intro rfl ?_))) (fun _ hw=>HpOk.pick (H:=[_]) hw [0] 1 rfl)
 obtain ⟨m1,a2,a3⟩:=x
 dsimp only at h
 rcases m1 with _ | m1
 cases (show (none:Option _)=some r from h)
 replace h:f_sym_l1_b n p0 p1 (f_sym_l1 n p0 p1 m1) a2 a3=some r:=h
 unfold f_sym_l1_b at h
 refine SX.re [(0,v0_),(1,vI p1),(4,.func (.func 50) #[] #[]),(10,vI a2),(11,vI a3)] (rowT 79 4 v0_ encRow p0::H) ?_ (by repeat' (first | exact trivial | refine And.intro rfl ?_))
 refine SX.seq (SX.sr (SL.mv (.r rfl) rfl (SL.mv (.r rfl) rfl (SL.bin (.r rfl) rfl rfl Bin.ltI (SL.nx ?_)))))
 refine SX.cond rfl (fun hc2=>?_) (fun hc2=>?_)
 replace h:=cT hc2 h
 refine SX.skip (SQ.thn (SX.block (SX.sr ?_)))
 obtain ⟨x1,ex1,h⟩:=retE h
 refine SL.mv (.r rfl) rfl (SL.mv (.r rfl) rfl (SL.bin (.r rfl) rfl rfl Bin.addW (SL.cv (.r rfl) rfl (Cv.i_64 ty3 ty166) ?_)))
 refine SL.bin (.r rfl) rfl rfl (Bin.shr64 (n:=1)) ?_
 refine SL.cv (.r rfl) rfl (Cv.I_I ty166 ty3) ?_
 refine SL.asgX (u:=vI x1) (.r rfl) rfl (congrArg vI ex1) ?_
 refine SL.nx (SX.seq ?_)
 obtain ⟨x2,hx2,h⟩:=bnd h
 obtain ⟨x3,hx3,h⟩:=bnd h
 obtain ⟨y1,hy1,h⟩:=bnd h
 refine SX.drawI mix [0] (Pl.ap [(true,0),(true,1),(true,2),(true,3),(true,4),(true,5),(true,6),(true,7),(true,8)] (.last 9 (Pl.of [(false,10)]))) (by kernel_rfl) (SL.mv (.r rfl) rfl (SL.mv (.r rfl) rfl (SL.mv (.r rfl) rfl ?_)))
 refine SL.iaT 0 hx2 (.r rfl) ty35 sz79 rfl rfl rfl fun g1 m2 cp1 hv1=>?_
 refine SL.ldA (encRow x2) (.r rfl) ag79 rfl rfl (cells_rowT (sz:=4) (enc:=encRow) 0 (fun _=>rfl) rfl hv1 hx2) ?_
 refine SL.mv (.r rfl) rfl (SL.mv (.r rfl) rfl ?_)
 refine SL.iaT 0 hx3 (.r rfl) ty35 sz79 rfl rfl rfl fun g2 m3 cp2 hv2=>?_
 refine SL.ldA (encRow x3) (.r rfl) ag79 rfl rfl (cells_rowT (sz:=4) (enc:=encRow) 0 (fun _=>rfl) rfl hv2 hx3) ?_
 refine SL.last ?_
 refine SL.call (vs:=[_,_]) (Hin:=[]) (Hr:=_::_) (.r rfl) rfl ⟨rfl,rfl,trivial⟩ cal50 rfl rfl ((c_grove_Load_1 hy1 :)) ?_
 rintro _ _ ⟨rfl,rfl⟩
 refine ⟨trivial,?_⟩
 refine SL.bin (.r rfl) rfl rfl Bin.ltI (SL.nx ?_)
 refine SX.cond rfl (fun hc3=>?_) (fun hc3=>?_)
 replace h:=cT hc3 h
 refine SX.region ?_
 obtain ⟨i_1,ei_1,h⟩:=retE h
 refine SL.mv (.r rfl) rfl (SL.bin (.r rfl) rfl rfl Bin.addW ?_)
 refine SL.asgX (u:=vI i_1) (.r rfl) rfl (congrArg vI ei_1) ?_
 refine SL.nil (SQ.blk ?_)
 exact SQ.again (m1,i_1,a3) h (Nat.lt_succ_self _) (by repeat' (first | exact trivial | refine And.intro rfl ?_)) (fun _ hw=>HpOk.pick (H:=[_]) hw [0] 1 rfl)
 replace h:=cF hc3 h
 refine SX.region (SL.mv (.r rfl) rfl (SL.asg (.r rfl) rfl (SL.nil (SQ.blk ?_))))
 exact SQ.again (m1,a2,x1) h (Nat.lt_succ_self _) (by repeat' (first | exact trivial | refine And.intro rfl ?_)) (fun _ hw=>HpOk.pick (H:=[_]) hw [0] 1 rfl)
 replace h:=cF hc2 h
 refine SX.exit (SQ.thnE (SQ.lpE (SQ.blkE ?_)))
 exact SQ.midD a2 h (by repeat' (first | exact trivial | refine And.intro rfl ?_)) (fun _ hw=>HpOk.pick (H:=[_]) hw [0] 1 rfl)
 unfold f_sym_j2 at h
 refine SX.re [(0,v0_),(1,vI p1),(10,vI a1)] (rowT 79 4 v0_ encRow p0::H) ?_ (by repeat' (first | exact trivial | refine And.intro rfl ?_))
 refine SX.meetD (α:=List RowA) (fun x=>f_sym_j3 x=some r) (fun x=>[(0,v0_)]) (fun x=>rowT 79 4 v0_ encRow x::H) ?_ (fun l2 D h=>?_)
 refine SX.sr (SL.mv (.r rfl) rfl (SL.asg (.r rfl) rfl (SL.nx (SX.block ?_))))
 refine SX.heap (SX.mono (SX.loop (α:=Nat×List RowA×Int) (fun x=>f_sym_l2 a1 x.1 (x.2.1,x.2.2)=some r) (fun x=>[(0,v0_),(10,vI a1),(13,vI x.2.2)]) (fun x=>rowT 79 4 v0_ encRow x.2.1::H) (fun x=>x.1) (fun x D h=>?_) (n,p0,p1) h) (by repeat' (first | exact trivial | refine And.intro rfl ?_))) (fun _ hw=>HpOk.pick (H:=[_]) hw [0] 1 rfl)
 obtain ⟨m4,l3,a4⟩:=x
 dsimp only at h
 rcases m4 with _ | m4
 cases (show (none:Option _)=some r from h)
 replace h:f_sym_l2_b a1 (f_sym_l2 a1 m4) l3 a4=some r:=h
 unfold f_sym_l2_b at h
 refine SX.re [(0,v0_),(10,vI a1),(13,vI a4)] (rowT 79 4 v0_ encRow l3::H) ?_ (by repeat' (first | exact trivial | refine And.intro rfl ?_))
 refine SX.seq (SX.sr (SL.mv (.r rfl) rfl (SL.mv (.r rfl) rfl (SL.bin (.r rfl) rfl rfl Bin.subW (SL.bin (.r rfl) rfl rfl Bin.ltI (SL.nx ?_))))))
 refine SX.cond rfl (fun hc4=>?_) (fun hc4=>?_)
 replace h:=cT hc4 h
 refine SX.skip (SQ.thn (SX.seq (SX.block ?_)))
 obtain ⟨x4,hx4,h⟩:=bnd h
 obtain ⟨x5,hx5,h⟩:=bnd h
 obtain ⟨x6,hx6,h⟩:=bnd h
 obtain ⟨l4,hl4,h⟩:=bnd h
 obtain ⟨x7,hx7,h⟩:=bnd h
 obtain ⟨l5,hl5,h⟩:=bnd h
 refine SX.drawI mix [] (Pl.ap [(true,0),(true,1),(true,2),(true,3),(true,4),(true,5),(true,6),(true,7),(true,8),(true,10),(true,11),(true,12)] (.alt 9 (Pl.ap [(false,13),(true,14),(false,15),(true,16)] (.last 17 .nil)) (.cons (false,13) (Pl.ap [(false,9),(true,14),(false,15),(true,16)] (.last 17 .nil))))) (by kernel_rfl) (SL.mv (.r rfl) rfl (SL.mv (.r rfl) rfl (SL.mv (.r rfl) rfl (SL.mv (.r rfl) rfl (SL.bin (.r rfl) rfl rfl Bin.addW (SL.mv (.r rfl) rfl (SL.mv (.r rfl) rfl ?_)))))))
 refine SL.bin (.r rfl) rfl rfl Bin.addW ?_
 refine SL.iaT 0 hx4 (.r rfl) ty35 sz79 rfl rfl rfl fun g3 m5 cp3 hv3=>?_
 refine SL.mv (.r rfl) rfl (SL.mv (.r rfl) rfl ?_)
 refine SL.iaT 0 hx5 (.r rfl) ty35 sz79 rfl rfl rfl fun g4 m6 cp4 hv4=>?_
 refine SL.two ?_ ?_
 refine SL.ldA (encRow x4) (.r rfl) ag79 rfl rfl (cells_rowT (sz:=4) (enc:=encRow) 0 (fun _=>rfl) rfl hv3 hx4) ?_
 refine SL.ldA (encRow x5) (.r rfl) ag79 rfl rfl (cells_rowT (sz:=4) (enc:=encRow) 0 (fun _=>rfl) rfl hv4 hx5) ?_
 refine SL.iaT 0 hx6 (.r rfl) ty35 sz79 rfl rfl rfl fun g5 m7 cp5 hv5=>?_
 refine SL.stTN (sz:=4) (enc:=encRow) 0 hl4 (fun _=>rfl) ⟨rfl,rfl,rfl⟩ rfl rfl rfl rfl hv5 sz79 (by first | (simp [Value.oneCell'];done) | simp [encRow,Value.oneCell']) trivial ?_
 refine SL.iaT 0 hx7 (.r rfl) ty35 sz79 rfl rfl rfl fun g6 m8 cp6 hv6=>?_
 refine SL.last ?_
 refine SL.stTN (sz:=4) (enc:=encRow) 0 hl5 (fun _=>rfl) ⟨rfl,rfl,rfl⟩ rfl rfl rfl rfl hv6 sz79 (by first | (simp [Value.oneCell'];done) | simp [encRow,Value.oneCell']) trivial ?_
 refine SL.nil (SQ.blk (SQ.thn (SX.region ?_)))
 obtain ⟨k_1,ek_1,h⟩:=retE h
 refine SL.mv (.r rfl) rfl (SL.bin (.r rfl) rfl rfl Bin.addW ?_)
 refine SL.asgX (u:=vI k_1) (.r rfl) rfl (congrArg vI ek_1) ?_
 refine SL.nil ?_
 exact SQ.again (m4,l5,k_1) h (Nat.lt_succ_self _) (by repeat' (first | exact trivial | refine And.intro rfl ?_)) (fun _ hw=>HpOk.pick (H:=[_]) hw [0] 1 rfl)
 refine SL.ldA (encRow x5) (.r rfl) ag79 rfl rfl (cells_rowT (sz:=4) (enc:=encRow) 0 (fun _=>rfl) rfl hv4 hx5) ?_
 refine SL.ldA (encRow x4) (.r rfl) ag79 rfl rfl (cells_rowT (sz:=4) (enc:=encRow) 0 (fun _=>rfl) rfl hv3 hx4) ?_
 refine SL.iaT 0 hx6 (.r rfl) ty35 sz79 rfl rfl rfl fun g5 m7 cp5 hv5=>?_
 refine SL.stTN (sz:=4) (enc:=encRow) 0 hl4 (fun _=>rfl) ⟨rfl,rfl,rfl⟩ rfl rfl rfl rfl hv5 sz79 (by first | (simp [Value.oneCell'];done) | simp [encRow,Value.oneCell']) trivial ?_
 refine SL.iaT 0 hx7 (.r rfl) ty35 sz79 rfl rfl rfl fun g6 m8 cp6 hv6=>?_
 refine SL.last ?_
 refine SL.stTN (sz:=4) (enc:=encRow) 0 hl5 (fun _=>rfl) ⟨rfl,rfl,rfl⟩ rfl rfl rfl rfl hv6 sz79 (by first | (simp [Value.oneCell'];done) | simp [encRow,Value.oneCell']) trivial ?_
 refine SL.nil (SQ.blk (SQ.thn (SX.region ?_)))
 obtain ⟨k_1,ek_1,h⟩:=retE h
 refine SL.mv (.r rfl) rfl (SL.bin (.r rfl) rfl rfl Bin.addW ?_)
 refine SL.asgX (u:=vI k_1) (.r rfl) rfl (congrArg vI ek_1) ?_
 refine SL.nil ?_
 exact SQ.again (m4,l5,k_1) h (Nat.lt_succ_self _) (by repeat' (first | exact trivial | refine And.intro rfl ?_)) (fun _ hw=>HpOk.pick (H:=[_]) hw [0] 1 rfl)
 replace h:=cF hc4 h
 refine SX.exit (SQ.thnE (SQ.lpE (SQ.blkE ?_)))
 exact SQ.midD l3 h (by repeat' (first | exact trivial | refine And.intro rfl ?_)) (fun _ hw=>HpOk.pick (H:=[_]) hw [0] 1 rfl)
 unfold f_sym_j3 at h
 refine SX.re [(0,v0_)] (rowT 79 4 v0_ encRow l2::H) ?_ (by repeat' (first | exact trivial | refine And.intro rfl ?_))
 refine SX.ret (SQ.midDR ?_)
 obtain rfl:=Option.some.inj h
 exact SQ.fret (res0 rfl) (ret_of (M:=[_]) ⟨rfl,rfl⟩ fun _ hw=>HpOk.pick (H:=[_]) hw [0] 1 rfl)
 replace h:=cF hc1 h
 refine SX.skip ?_
 exact SQ.midD p0 h (by repeat' (first | exact trivial | refine And.intro rfl ?_)) (fun _ hw=>HpOk.pick (H:=[_]) hw [0] 1 rfl)
 unfold f_sym_j1 at h
 refine SX.re [(0,v0_),(1,vI p1),(2,vI p2),(3,vI p3),(4,.func (.func 50) #[] #[])] (rowT 79 4 v0_ encRow l1::H) ?_ (by repeat' (first | exact trivial | refine And.intro rfl ?_))
 refine SX.meetD (α:=List RowA) (fun x=>f_sym_j4 n p1 p2 p3 rec_ x=some r) (fun x=>[(0,v0_),(1,vI p1),(2,vI p2),(3,vI p3),(4,.func (.func 50) #[] #[])]) (fun x=>rowT 79 4 v0_ encRow x::H) ?_ (fun l6 D h=>?_)
 refine SX.sr (SL.mv (.r rfl) rfl (SL.mv (.r rfl) rfl (SL.bin (.r rfl) rfl rfl Bin.subW (SL.bin (.r rfl) rfl rfl Bin.eqI (SL.nx ?_)))))
 refine SX.cond rfl (fun hc5=>?_) (fun hc5=>?_)
 replace h:=cT hc5 h
 refine SX.sr (SL.mv (.r rfl) rfl (SL.asg (.r rfl) rfl (SL.nx (SX.sr (SL.mv (.r rfl) rfl (SL.asg (.r rfl) rfl (SL.nx ?_)))))))
 refine SX.meetD (α:=Int) (fun x=>f_sym_j5 n p2 l1 x=some r) (fun x=>[(0,v0_),(2,vI p2),(14,vI x)]) (fun x=>rowT 79 4 v0_ encRow l1::H) ?_ (fun a5 D h=>?_)
 refine SX.block ?_
 refine SX.heap (SX.mono (SX.loop (α:=Nat×Int×Int) (fun x=>f_sym_l3 n p2 l1 x.1 (x.2.1,x.2.2)=some r) (fun x=>[(0,v0_),(2,vI p2),(4,.func (.func 50) #[] #[]),(14,vI x.2.1),(15,vI x.2.2)]) (fun x=>rowT 79 4 v0_ encRow l1::H) (fun x=>x.1) (fun x D h=>?_) (n,p1,p2) h) (by repeat' (first | exact trivial | refine And.intro rfl ?_))) (fun _ hw=>HpOk.pick (H:=[_]) hw [0] 1 rfl)
 obtain ⟨m9,a6,a7⟩:=x
 dsimp only at h
 rcases m9 with _ | m9
 cases (show (none:Option _)=some r from h)
 replace h:f_sym_l3_b n p2 l1 (f_sym_l3 n p2 l1 m9) a6 a7=some r:=h
 unfold f_sym_l3_b at h
 refine SX.re [(0,v0_),(2,vI p2),(4,.func (.func 50) #[] #[]),(14,vI a6),(15,vI a7)] (rowT 79 4 v0_ encRow l1::H) ?_ (by repeat' (first | exact trivial | refine And.intro rfl ?_))
 refine SX.seq (SX.sr (SL.mv (.r rfl) rfl (SL.mv (.r rfl) rfl (SL.bin (.r rfl) rfl rfl Bin.ltI (SL.nx ?_)))))
 refine SX.cond rfl (fun hc6=>?_) (fun hc6=>?_)
 replace h:=cT hc6 h
 refine SX.skip (SQ.thn (SX.block (SX.sr ?_)))
 obtain ⟨x8,ex8,h⟩:=retE h
 refine SL.mv (.r rfl) rfl (SL.mv (.r rfl) rfl (SL.bin (.r rfl) rfl rfl Bin.addW (SL.cv (.r rfl) rfl (Cv.i_64 ty3 ty166) ?_)))
 refine SL.bin (.r rfl) rfl rfl (Bin.shr64 (n:=1)) ?_
 refine SL.cv (.r rfl) rfl (Cv.I_I ty166 ty3) ?_
 refine SL.asgX (u:=vI x8) (.r rfl) rfl (congrArg vI ex8) ?_
 refine SL.nx (SX.seq ?_)
 obtain ⟨x9,hx9,h⟩:=bnd h
 obtain ⟨x10,hx10,h⟩:=bnd h
 obtain ⟨y2,hy2,h⟩:=bnd h
 refine SX.drawI mix [0] (Pl.ap [(true,0),(true,1),(true,2),(true,3),(true,4),(true,5),(true,6),(true,7),(true,8)] (.last 9 (Pl.of [(false,10),(false,11)]))) (by kernel_rfl) (SL.mv (.r rfl) rfl (SL.mv (.r rfl) rfl (SL.mv (.r rfl) rfl ?_)))
 refine SL.iaT 0 hx9 (.r rfl) ty35 sz79 rfl rfl rfl fun g7 m10 cp7 hv7=>?_
 refine SL.ldA (encRow x9) (.r rfl) ag79 rfl rfl (cells_rowT (sz:=4) (enc:=encRow) 0 (fun _=>rfl) rfl hv7 hx9) ?_
 refine SL.mv (.r rfl) rfl (SL.mv (.r rfl) rfl ?_)
 refine SL.iaT 0 hx10 (.r rfl) ty35 sz79 rfl rfl rfl fun g8 m11 cp8 hv8=>?_
 refine SL.ldA (encRow x10) (.r rfl) ag79 rfl rfl (cells_rowT (sz:=4) (enc:=encRow) 0 (fun _=>rfl) rfl hv8 hx10) ?_
 refine SL.last ?_
 refine SL.call (vs:=[_,_]) (Hin:=[]) (Hr:=_::_) (.r rfl) rfl ⟨rfl,rfl,trivial⟩ cal50 rfl rfl ((c_grove_Load_1 hy2 :)) ?_
 rintro _ _ ⟨rfl,rfl⟩
 refine ⟨trivial,?_⟩
 refine SL.bin (.r rfl) rfl rfl Bin.ltI (SL.not (.r rfl) rfl (SL.nx ?_))
 refine SX.cond rfl (fun hc7=>?_) (fun hc7=>?_)
 replace h:=cT hc7 h
 refine SX.region ?_
 obtain ⟨i_2,ei_2,h⟩:=retE h
 refine SL.mv (.r rfl) rfl (SL.bin (.r rfl) rfl rfl Bin.addW ?_)
 refine SL.asgX (u:=vI i_2) (.r rfl) rfl (congrArg vI ei_2) ?_
 refine SL.nil (SQ.blk ?_)
 exact SQ.again (m9,i_2,a7) h (Nat.lt_succ_self _) (by repeat' (first | exact trivial | refine And.intro rfl ?_)) (fun _ hw=>HpOk.pick (H:=[_]) hw [0] 1 rfl)
 replace h:=cF hc7 h
 refine SX.region (SL.mv (.r rfl) rfl (SL.asg (.r rfl) rfl (SL.nil (SQ.blk ?_))))
 exact SQ.again (m9,a6,x8) h (Nat.lt_succ_self _) (by repeat' (first | exact trivial | refine And.intro rfl ?_)) (fun _ hw=>HpOk.pick (H:=[_]) hw [0] 1 rfl)
 replace h:=cF hc6 h
 refine SX.exit (SQ.thnE (SQ.lpE (SQ.blkE ?_)))
 exact SQ.midD a6 h (by repeat' (first | exact trivial | refine And.intro rfl ?_)) (fun _ hw=>HpOk.pick (H:=[_]) hw [0] 1 rfl)
 unfold f_sym_j5 at h
 refine SX.re [(0,v0_),(2,vI p2),(14,vI a5)] (rowT 79 4 v0_ encRow l1::H) ?_ (by repeat' (first | exact trivial | refine And.intro rfl ?_))
 refine SX.meetD (α:=List RowA) (fun x=>f_sym_j6 x=some r) (fun x=>[(0,v0_)]) (fun x=>rowT 79 4 v0_ encRow x::H) ?_ (fun l7 D h=>?_)
 refine SX.sr (SL.mv (.r rfl) rfl (SL.asg (.r rfl) rfl (SL.nx (SX.block ?_))))
 refine SX.heap (SX.mono (SX.loop (α:=Nat×List RowA×Int) (fun x=>f_sym_l4 a5 x.1 (x.2.1,x.2.2)=some r) (fun x=>[(0,v0_),(14,vI a5),(17,vI x.2.2)]) (fun x=>rowT 79 4 v0_ encRow x.2.1::H) (fun x=>x.1) (fun x D h=>?_) (n,l1,p2) h) (by repeat' (first | exact trivial | refine And.intro rfl ?_))) (fun _ hw=>HpOk.pick (H:=[_]) hw [0] 1 rfl)
 obtain ⟨m12,l8,a8⟩:=x
 dsimp only at h
 rcases m12 with _ | m12
 cases (show (none:Option _)=some r from h)
 replace h:f_sym_l4_b a5 (f_sym_l4 a5 m12) l8 a8=some r:=h
 unfold f_sym_l4_b at h
 refine SX.re [(0,v0_),(14,vI a5),(17,vI a8)] (rowT 79 4 v0_ encRow l8::H) ?_ (by repeat' (first | exact trivial | refine And.intro rfl ?_))
 refine SX.seq (SX.sr (SL.mv (.r rfl) rfl (SL.mv (.r rfl) rfl (SL.bin (.r rfl) rfl rfl Bin.gtI (SL.nx ?_)))))
 refine SX.cond rfl (fun hc8=>?_) (fun hc8=>?_)
 replace h:=cT hc8 h
 refine SX.skip (SQ.thn (SX.seq (SX.block ?_)))
 obtain ⟨x11,hx11,h⟩:=bnd h
 obtain ⟨x12,hx12,h⟩:=bnd h
 obtain ⟨x13,hx13,h⟩:=bnd h
 obtain ⟨l9,hl9,h⟩:=bnd h
 obtain ⟨x14,hx14,h⟩:=bnd h
 obtain ⟨l10,hl10,h⟩:=bnd h
 refine SX.drawI mix [] (Pl.ap [(true,0),(true,1),(true,2),(true,3),(true,4),(true,5),(true,6),(true,7),(true,8),(true,10),(true,11),(true,12)] (.alt 9 (Pl.ap [(false,13),(true,14),(false,15),(true,16)] (.last 17 .nil)) (.cons (false,13) (Pl.ap [(false,9),(true,14),(false,15),(true,16)] (.last 17 .nil))))) (by kernel_rfl) (SL.mv (.r rfl) rfl (SL.mv (.r rfl) rfl (SL.mv (.r rfl) rfl (SL.mv (.r rfl) rfl (SL.bin (.r rfl) rfl rfl Bin.subW (SL.mv (.r rfl) rfl (SL.mv (.r rfl) rfl ?_)))))))
 refine SL.bin (.r rfl) rfl rfl Bin.subW ?_
 refine SL.iaT 0 hx11 (.r rfl) ty35 sz79 rfl rfl rfl fun g9 m13 cp9 hv9=>?_
 refine SL.mv (.r rfl) rfl (SL.mv (.r rfl) rfl ?_)
 refine SL.iaT 0 hx12 (.r rfl) ty35 sz79 rfl rfl rfl fun g10 m14 cp10 hv10=>?_
 refine SL.two ?_ ?_
 refine SL.ldA (encRow x11) (.r rfl) ag79 rfl rfl (cells_rowT (sz:=4) (enc:=encRow) 0 (fun _=>rfl) rfl hv9 hx11) ?_
 refine SL.ldA (encRow x12) (.r rfl) ag79 rfl rfl (cells_rowT (sz:=4) (enc:=encRow) 0 (fun _=>rfl) rfl hv10 hx12) ?_
 refine SL.iaT 0 hx13 (.r rfl) ty35 sz79 rfl rfl rfl fun g11 m15 cp11 hv11=>?_
 refine SL.stTN (sz:=4) (enc:=encRow) 0 hl9 (fun _=>rfl) ⟨rfl,rfl,rfl⟩ rfl rfl rfl rfl hv11 sz79 (by first | (simp [Value.oneCell'];done) | simp [encRow,Value.oneCell']) trivial ?_
 refine SL.iaT 0 hx14 (.r rfl) ty35 sz79 rfl rfl rfl fun g12 m16 cp12 hv12=>?_
 refine SL.last ?_
 refine SL.stTN (sz:=4) (enc:=encRow) 0 hl10 (fun _=>rfl) ⟨rfl,rfl,rfl⟩ rfl rfl rfl rfl hv12 sz79 (by first | (simp [Value.oneCell'];done) | simp [encRow,Value.oneCell']) trivial ?_
 refine SL.nil (SQ.blk (SQ.thn (SX.region ?_)))
 obtain ⟨k_2,ek_2,h⟩:=retE h
 refine SL.mv (.r rfl) rfl (SL.bin (.r rfl) rfl rfl Bin.subW ?_)
 refine SL.asgX (u:=vI k_2) (.r rfl) rfl (congrArg vI ek_2) ?_
 refine SL.nil ?_
 exact SQ.again (m12,l10,k_2) h (Nat.lt_succ_self _) (by repeat' (first | exact trivial | refine And.intro rfl ?_)) (fun _ hw=>HpOk.pick (H:=[_]) hw [0] 1 rfl)
 refine SL.ldA (encRow x12) (.r rfl) ag79 rfl rfl (cells_rowT (sz:=4) (enc:=encRow) 0 (fun _=>rfl) rfl hv10 hx12) ?_
 refine SL.ldA (encRow x11) (.r rfl) ag79 rfl rfl (cells_rowT (sz:=4) (enc:=encRow) 0 (fun _=>rfl) rfl hv9 hx11) ?_
 refine SL.iaT 0 hx13 (.r rfl) ty35 sz79 rfl rfl rfl fun g11 m15 cp11 hv11=>?_
 refine SL.stTN (sz:=4) (enc:=encRow) 0 hl9 (fun _=>rfl) ⟨rfl,rfl,rfl⟩ rfl rfl rfl rfl hv11 sz79 (by first | (simp [Value.oneCell'];done) | simp [encRow,Value.oneCell']) trivial ?_
 refine SL.iaT 0 hx14 (.r rfl) ty35 sz79 rfl rfl rfl fun g12 m16 cp12 hv12=>?_
 refine SL.last ?_
 refine SL.stTN (sz:=4) (enc:=encRow) 0 hl10 (fun _=>rfl) ⟨rfl,rfl,rfl⟩ rfl rfl rfl rfl hv12 sz79 (by first | (simp [Value.oneCell'];done) | simp [encRow,Value.oneCell']) trivial ?_
 refine SL.nil (SQ.blk (SQ.thn (SX.region ?_)))
 obtain ⟨k_2,ek_2,h⟩:=retE h
 refine SL.mv (.r rfl) rfl (SL.bin (.r rfl) rfl rfl Bin.subW ?_)
 refine SL.asgX (u:=vI k_2) (.r rfl) rfl (congrArg vI ek_2) ?_
 refine SL.nil ?_
 exact SQ.again (m12,l10,k_2) h (Nat.lt_succ_self _) (by repeat' (first | exact trivial | refine And.intro rfl ?_)) (fun _ hw=>HpOk.pick (H:=[_]) hw [0] 1 rfl)
 replace h:=cF hc8 h
 refine SX.exit (SQ.thnE (SQ.lpE (SQ.blkE ?_)))
 exact SQ.midD l8 h (by repeat' (first | exact trivial | refine And.intro rfl ?_)) (fun _ hw=>HpOk.pick (H:=[_]) hw [0] 1 rfl)
 unfold f_sym_j6 at h
 refine SX.re [(0,v0_)] (rowT 79 4 v0_ encRow l7::H) ?_ (by repeat' (first | exact trivial | refine And.intro rfl ?_))
 refine SX.ret (SQ.midDR ?_)
 obtain rfl:=Option.some.inj h
 exact SQ.fret (res0 rfl) (ret_of (M:=[_]) ⟨rfl,rfl⟩ fun _ hw=>HpOk.pick (H:=[_]) hw [0] 1 rfl)
 replace h:=cF hc5 h
 refine SX.skip ?_
 exact SQ.midD l1 h (by repeat' (first | exact trivial | refine And.intro rfl ?_)) (fun _ hw=>HpOk.pick (H:=[_]) hw [0] 1 rfl)
 unfold f_sym_j4 at h
 refine SX.re [(0,v0_),(1,vI p1),(2,vI p2),(3,vI p3),(4,.func (.func 50) #[] #[])] (rowT 79 4 v0_ encRow l6::H) ?_ (by repeat' (first | exact trivial | refine And.intro rfl ?_))
 refine SX.sr ?_
 obtain ⟨mid_1,emid_1,h⟩:=retE h
 refine SL.mv (.r rfl) rfl (SL.mv (.r rfl) rfl (SL.bin (.r rfl) rfl rfl Bin.addW (SL.cv (.r rfl) rfl (Cv.i_64 ty3 ty166) ?_)))
 refine SL.bin (.r rfl) rfl rfl (Bin.shr64 (n:=1)) ?_
 refine SL.cv (.r rfl) rfl (Cv.I_I ty166 ty3) ?_
 refine SL.asgX (u:=vI mid_1) (.r rfl) rfl (congrArg vI emid_1) ?_
 refine SL.nx (SX.sr ?_)
 obtain ⟨x15,ex15,h⟩:=retE h
 refine SL.mv (.r rfl) rfl (SL.mv (.r rfl) rfl (SL.bin (.r rfl) rfl rfl Bin.addW ?_))
 refine SL.asgX (u:=vI x15) (.r rfl) rfl (congrArg vI ex15) ?_
 refine SL.nx (SX.sr (SL.asg (.r rfl) rfl (SL.asg (.r rfl) rfl (SL.nx ?_))))
 refine SX.meetD (α:=Int×Int) (fun x=>f_sym_j7 n p1 p2 p3 rec_ l6 mid_1 x15 x.1 x.2=some r) (fun x=>[(0,v0_),(1,vI p1),(2,vI p2),(3,vI p3),(4,.func (.func 50) #[] #[]),(18,vI mid_1),(19,vI x15),(20,vI x.1),(21,vI x.2)]) (fun x=>rowT 79 4 v0_ encRow l6::H) ?_ (fun x D h=>?_)
 refine SX.sr (SL.mv (.r rfl) rfl (SL.mv (.r rfl) rfl (SL.bin (.r rfl) rfl rfl Bin.gtI (SL.nx ?_))))
 refine SX.cond rfl (fun hc9=>?_) (fun hc9=>?_)
 replace h:=cT hc9 h
 refine SX.sr ?_
 obtain ⟨start_1,estart_1,h⟩:=retE h
 refine SL.mv (.r rfl) rfl (SL.mv (.r rfl) rfl (SL.bin (.r rfl) rfl rfl Bin.subW ?_))
 refine SL.asgX (u:=vI start_1) (.r rfl) rfl (congrArg vI estart_1) ?_
 refine SL.nx (SX.region (SL.mv (.r rfl) rfl (SL.asg (.r rfl) rfl (SL.nil ?_))))
 exact SQ.midD (start_1,mid_1) h (by repeat' (first | exact trivial | refine And.intro rfl ?_)) (fun _ hw=>HpOk.pick (H:=[_]) hw [0] 1 rfl)
 replace h:=cF hc9 h
 refine SX.sr (SL.mv (.r rfl) rfl (SL.asg (.r rfl) rfl (SL.nx (SX.region (SL.mv (.r rfl) rfl (SL.asg (.r rfl) rfl (SL.nil ?_)))))))
 exact SQ.midD (p1,p2) h (by repeat' (first | exact trivial | refine And.intro rfl ?_)) (fun _ hw=>HpOk.pick (H:=[_]) hw [0] 1 rfl)
 obtain ⟨a9,a10⟩:=x
 dsimp only at h
 unfold f_sym_j7 at h
 refine SX.re [(0,v0_),(1,vI p1),(2,vI p2),(3,vI p3),(4,.func (.func 50) #[] #[]),(18,vI mid_1),(19,vI x15),(20,vI a9),(21,vI a10)] (rowT 79 4 v0_ encRow l6::H) ?_ (by repeat' (first | exact trivial | refine And.intro rfl ?_))
 refine SX.sr ?_
 obtain ⟨p_1,ep_1,h⟩:=retE h
 refine SL.mv (.r rfl) rfl (SL.bin (.r rfl) rfl rfl Bin.subW ?_)
 refine SL.asgX (u:=vI p_1) (.r rfl) rfl (congrArg vI ep_1) ?_
 refine SL.nx ?_
 refine SX.meetD (α:=Int) (fun x=>f_sym_j8 n p1 p2 p3 rec_ l6 mid_1 x15 x=some r) (fun x=>[(0,v0_),(1,vI p1),(2,vI p2),(3,vI p3),(4,.func (.func 50) #[] #[]),(18,vI mid_1),(19,vI x15),(20,vI x)]) (fun x=>rowT 79 4 v0_ encRow l6::H) ?_ (fun a11 D h=>?_)
 refine SX.block ?_
 refine SX.heap (SX.mono (SX.loop (α:=Nat×Int×Int) (fun x=>f_sym_l5 n p1 p2 p3 rec_ l6 mid_1 x15 p_1 x.1 (x.2.1,x.2.2)=some r) (fun x=>[(0,v0_),(1,vI p1),(2,vI p2),(3,vI p3),(4,.func (.func 50) #[] #[]),(18,vI mid_1),(19,vI x15),(20,vI x.2.1),(21,vI x.2.2),(22,vI p_1)]) (fun x=>rowT 79 4 v0_ encRow l6::H) (fun x=>x.1) (fun x D h=>?_) (n,a9,a10) h) (by repeat' (first | exact trivial | refine And.intro rfl ?_))) (fun _ hw=>HpOk.pick (H:=[_]) hw [0] 1 rfl)
 obtain ⟨m17,a12,a13⟩:=x
 dsimp only at h
 rcases m17 with _ | m17
 cases (show (none:Option _)=some r from h)
 replace h:f_sym_l5_b n p1 p2 p3 rec_ l6 mid_1 x15 p_1 (f_sym_l5 n p1 p2 p3 rec_ l6 mid_1 x15 p_1 m17) a12 a13=some r:=h
 unfold f_sym_l5_b at h
 refine SX.re [(0,v0_),(1,vI p1),(2,vI p2),(3,vI p3),(4,.func (.func 50) #[] #[]),(18,vI mid_1),(19,vI x15),(20,vI a12),(21,vI a13),(22,vI p_1)] (rowT 79 4 v0_ encRow l6::H) ?_ (by repeat' (first | exact trivial | refine And.intro rfl ?_))
 refine SX.seq (SX.sr (SL.mv (.r rfl) rfl (SL.mv (.r rfl) rfl (SL.bin (.r rfl) rfl rfl Bin.ltI (SL.nx ?_)))))
 refine SX.cond rfl (fun hc10=>?_) (fun hc10=>?_)
 replace h:=cT hc10 h
 refine SX.skip (SQ.thn (SX.block (SX.sr ?_)))
 obtain ⟨x16,ex16,h⟩:=retE h
 refine SL.mv (.r rfl) rfl (SL.mv (.r rfl) rfl (SL.bin (.r rfl) rfl rfl Bin.addW (SL.cv (.r rfl) rfl (Cv.i_64 ty3 ty166) ?_)))
 refine SL.bin (.r rfl) rfl rfl (Bin.shr64 (n:=1)) ?_
 refine SL.cv (.r rfl) rfl (Cv.I_I ty166 ty3) ?_
 refine SL.asgX (u:=vI x16) (.r rfl) rfl (congrArg vI ex16) ?_
 refine SL.nx (SX.seq ?_)
 obtain ⟨x17,hx17,h⟩:=bnd h
 obtain ⟨x18,hx18,h⟩:=bnd h
 obtain ⟨y3,hy3,h⟩:=bnd h
 refine SX.drawI mix [0] (Pl.ap [(true,0),(true,1),(true,2),(true,3),(true,4),(true,5),(true,6),(true,7),(true,8),(true,9),(true,10)] (.last 11 (Pl.of [(false,12),(false,13)]))) (by kernel_rfl) (SL.mv (.r rfl) rfl (SL.mv (.r rfl) rfl (SL.mv (.r rfl) rfl (SL.mv (.r rfl) rfl (SL.bin (.r rfl) rfl rfl Bin.subW ?_)))))
 refine SL.iaT 0 hx17 (.r rfl) ty35 sz79 rfl rfl rfl fun g13 m18 cp13 hv13=>?_
 refine SL.ldA (encRow x17) (.r rfl) ag79 rfl rfl (cells_rowT (sz:=4) (enc:=encRow) 0 (fun _=>rfl) rfl hv13 hx17) ?_
 refine SL.mv (.r rfl) rfl (SL.mv (.r rfl) rfl ?_)
 refine SL.iaT 0 hx18 (.r rfl) ty35 sz79 rfl rfl rfl fun g14 m19 cp14 hv14=>?_
 refine SL.ldA (encRow x18) (.r rfl) ag79 rfl rfl (cells_rowT (sz:=4) (enc:=encRow) 0 (fun _=>rfl) rfl hv14 hx18) ?_
 refine SL.last ?_
 refine SL.call (vs:=[_,_]) (Hin:=[]) (Hr:=_::_) (.r rfl) rfl ⟨rfl,rfl,trivial⟩ cal50 rfl rfl ((c_grove_Load_1 hy3 :)) ?_
 rintro _ _ ⟨rfl,rfl⟩
 refine ⟨trivial,?_⟩
 refine SL.bin (.r rfl) rfl rfl Bin.ltI (SL.not (.r rfl) rfl (SL.nx ?_))
 refine SX.cond rfl (fun hc11=>?_) (fun hc11=>?_)
 replace h:=cT hc11 h
 refine SX.region ?_
 obtain ⟨start_2,estart_2,h⟩:=retE h
 refine SL.mv (.r rfl) rfl (SL.bin (.r rfl) rfl rfl Bin.addW ?_)
 refine SL.asgX (u:=vI start_2) (.r rfl) rfl (congrArg vI estart_2) ?_
 refine SL.nil (SQ.blk ?_)
 exact SQ.again (m17,start_2,a13) h (Nat.lt_succ_self _) (by repeat' (first | exact trivial | refine And.intro rfl ?_)) (fun _ hw=>HpOk.pick (H:=[_]) hw [0] 1 rfl)
 replace h:=cF hc11 h
 refine SX.region (SL.mv (.r rfl) rfl (SL.asg (.r rfl) rfl (SL.nil (SQ.blk ?_))))
 exact SQ.again (m17,a12,x16) h (Nat.lt_succ_self _) (by repeat' (first | exact trivial | refine And.intro rfl ?_)) (fun _ hw=>HpOk.pick (H:=[_]) hw [0] 1 rfl)
 replace h:=cF hc10 h
 refine SX.exit (SQ.thnE (SQ.lpE (SQ.blkE ?_)))
 exact SQ.midD a12 h (by repeat' (first | exact trivial | refine And.intro rfl ?_)) (fun _ hw=>HpOk.pick (H:=[_]) hw [0] 1 rfl)
 unfold f_sym_j8 at h
 refine SX.re [(0,v0_),(1,vI p1),(2,vI p2),(3,vI p3),(4,.func (.func 50) #[] #[]),(18,vI mid_1),(19,vI x15),(20,vI a11)] (rowT 79 4 v0_ encRow l6::H) ?_ (by repeat' (first | exact trivial | refine And.intro rfl ?_))
 refine SX.sr ?_
 obtain ⟨x19,ex19,h⟩:=retE h
 refine SL.mv (.r rfl) rfl (SL.mv (.r rfl) rfl (SL.bin (.r rfl) rfl rfl Bin.subW ?_))
 refine SL.asgX (u:=vI x19) (.r rfl) rfl (congrArg vI ex19) ?_
 refine SL.nx ?_
 refine SX.meetD (α:=List RowA) (fun x=>f_sym_j9 p1 p3 rec_ mid_1 a11 x19 x=some r) (fun x=>[(0,v0_),(1,vI p1),(3,vI p3),(4,.func (.func 50) #[] #[]),(18,vI mid_1),(20,vI a11),(24,vI x19)]) (fun x=>rowT 79 4 v0_ encRow x::H) ?_ (fun l11 D h=>?_)
 refine SX.sr (SL.mv (.r rfl) rfl (SL.mv (.r rfl) rfl (SL.bin (.r rfl) rfl rfl Bin.ltI (SL.mv (.r rfl) rfl ?_))))
 refine SL.and (c:=decide (p2<x19)) 181 4 185 rfl (fun hb k=>?_) (fun hb k=>?_) ?_
 refine SL.mv (.r rfl) rfl (SL.mv (.r rfl) rfl (SL.bin (.r rfl) rfl rfl Bin.ltI (SL.pk (.r rfl) rfl rfl ?_)))
 exact k.mono (by repeat' (first | exact trivial | refine And.intro rfl ?_))
 refine SL.pass rfl rfl rfl (SL.pass rfl rfl rfl (SL.pass rfl rfl rfl (SL.pk (.r rfl) rfl rfl ?_)))
 exact k.mono (by repeat' (first | exact trivial | refine And.intro rfl ?_))
 refine SL.nx ?_
 refine SX.cond rfl (fun hc12=>?_) (fun hc12=>?_)
 replace h:=cT hc12 h
 refine SX.region ?_
 obtain ⟨y4,hy4,h⟩:=bnd h
 refine SL.mv (.r rfl) rfl (SL.mv (.r rfl) rfl (SL.mv (.r rfl) rfl (SL.mv (.r rfl) rfl (SL.mv (.r rfl) rfl ?_))))
 refine SL.call (vs:=[_,_,_,_,_]) (Hin:=[_]) (Hr:=_) (.r rfl) rfl ⟨rfl,rfl,rfl,rfl,rfl,trivial⟩ cal169 rfl rfl (c_rot hy4) ?_
 rintro _ _ ⟨rfl,rfl⟩
 refine ⟨trivial,?_⟩
 refine SL.nil ?_
 exact SQ.midD y4 h (by repeat' (first | exact trivial | refine And.intro rfl ?_)) (fun _ hw=>HpOk.pick (H:=[_]) hw [0] 1 rfl)
 replace h:=cF hc12 h
 refine SX.skip ?_
 exact SQ.midD l6 h (by repeat' (first | exact trivial | refine And.intro rfl ?_)) (fun _ hw=>HpOk.pick (H:=[_]) hw [0] 1 rfl)
 unfold f_sym_j9 at h
 refine SX.re [(0,v0_),(1,vI p1),(3,vI p3),(4,.func (.func 50) #[] #[]),(18,vI mid_1),(20,vI a11),(24,vI x19)] (rowT 79 4 v0_ encRow l11::H) ?_ (by repeat' (first | exact trivial | refine And.intro rfl ?_))
 refine SX.meetD (α:=List RowA) (fun x=>f_sym_j10 p3 rec_ mid_1 x19 x=some r) (fun x=>[(0,v0_),(3,vI p3),(4,.func (.func 50) #[] #[]),(18,vI mid_1),(24,vI x19)]) (fun x=>rowT 79 4 v0_ encRow x::H) ?_ (fun l12 D h=>?_)
 refine SX.sr (SL.mv (.r rfl) rfl (SL.mv (.r rfl) rfl (SL.bin (.r rfl) rfl rfl Bin.ltI (SL.mv (.r rfl) rfl ?_))))
 refine SL.and (c:=decide (a11<mid_1)) 195 4 199 rfl (fun hb k=>?_) (fun hb k=>?_) ?_
 refine SL.mv (.r rfl) rfl (SL.mv (.r rfl) rfl (SL.bin (.r rfl) rfl rfl Bin.ltI (SL.pk (.r rfl) rfl rfl ?_)))
 exact k.mono (by repeat' (first | exact trivial | refine And.intro rfl ?_))
 refine SL.pass rfl rfl rfl (SL.pass rfl rfl rfl (SL.pass rfl rfl rfl (SL.pk (.r rfl) rfl rfl ?_)))
 exact k.mono (by repeat' (first | exact trivial | refine And.intro rfl ?_))
 refine SL.nx ?_
 refine SX.cond rfl (fun hc13=>?_) (fun hc13=>?_)
 replace h:=cT hc13 h
 refine SX.region ?_
 obtain ⟨y5,hy5,h⟩:=bnd h
 refine SL.mv (.r rfl) rfl (SL.mv (.r rfl) rfl (SL.mv (.r rfl) rfl (SL.mv (.r rfl) rfl (SL.mv (.r rfl) rfl ?_))))
 refine SL.call (vs:=[_,_,_,_,_]) (Hin:=[_]) (Hr:=_) (.r rfl) rfl ⟨rfl,rfl,rfl,rfl,rfl,trivial⟩ cal124 rfl rfl (hrec hy5) ?_
 rintro _ _ ⟨rfl,rfl⟩
 refine ⟨trivial,?_⟩
 refine SL.nil ?_
 exact SQ.midD y5 h (by repeat' (first | exact trivial | refine And.intro rfl ?_)) (fun _ hw=>HpOk.pick (H:=[_]) hw [0] 1 rfl)
 replace h:=cF hc13 h
 refine SX.skip ?_
 exact SQ.midD l11 h (by repeat' (first | exact trivial | refine And.intro rfl ?_)) (fun _ hw=>HpOk.pick (H:=[_]) hw [0] 1 rfl)
 unfold f_sym_j10 at h
 refine SX.re [(0,v0_),(3,vI p3),(4,.func (.func 50) #[] #[]),(18,vI mid_1),(24,vI x19)] (rowT 79 4 v0_ encRow l12::H) ?_ (by repeat' (first | exact trivial | refine And.intro rfl ?_))
 refine SX.sr (SL.mv (.r rfl) rfl (SL.mv (.r rfl) rfl (SL.bin (.r rfl) rfl rfl Bin.ltI (SL.mv (.r rfl) rfl ?_))))
 refine SL.and (c:=decide (x19<p3)) 209 4 213 rfl (fun hb k=>?_) (fun hb k=>?_) ?_
 refine SL.mv (.r rfl) rfl (SL.mv (.r rfl) rfl (SL.bin (.r rfl) rfl rfl Bin.ltI (SL.pk (.r rfl) rfl rfl ?_)))
 exact k.mono (by repeat' (first | exact trivial | refine And.intro rfl ?_))
 refine SL.pass rfl rfl rfl (SL.pass rfl rfl rfl (SL.pass rfl rfl rfl (SL.pk (.r rfl) rfl rfl ?_)))
 exact k.mono (by repeat' (first | exact trivial | refine And.intro rfl ?_))
 refine SL.nx ?_
 refine SX.cond rfl (fun hc14=>?_) (fun hc14=>?_)
 replace h:=cT hc14 h
 refine SX.region ?_
 obtain ⟨y6,hy6,h⟩:=bnd h
 refine SL.mv (.r rfl) rfl (SL.mv (.r rfl) rfl (SL.mv (.r rfl) rfl (SL.mv (.r rfl) rfl (SL.mv (.r rfl) rfl ?_))))
 refine SL.call (vs:=[_,_,_,_,_]) (Hin:=[_]) (Hr:=_) (.r rfl) rfl ⟨rfl,rfl,rfl,rfl,rfl,trivial⟩ cal124 rfl rfl (hrec hy6) ?_
 rintro _ _ ⟨rfl,rfl⟩
 refine ⟨trivial,?_⟩
 refine SL.nil ?_
 obtain rfl:=Option.some.inj h
 exact SQ.fend (res0 rfl) (ret_of (M:=[_]) ⟨rfl,rfl⟩ fun _ hw=>HpOk.pick (H:=[_]) hw [0] 1 rfl)
 replace h:=cF hc14 h
 refine SX.skip ?_
 obtain rfl:=Option.some.inj h
 exact SQ.fend (res0 rfl) (ret_of (M:=[_]) ⟨rfl,rfl⟩ fun _ hw=>HpOk.pick (H:=[_]) hw [0] 1 rfl)


end Go.Proofs.YtkibffdipniemaaGreatDoor

/- slices.symMerge of rows, tied. Condition: the plain function yields. -/
namespace Go.Proofs.YtkibffdipniemaaGreatDoor
open Go
def symF (n:Nat):Nat→List RowA→Int→Int→Int→Option (List RowA)
 | 0=>fun _ _ _ _=>none
 | f+1=>f_sym (symF n f) n
def symN (n:Nat):List RowA→Int→Int→Int→Option (List RowA):=symF n n
theorem c_symF (n:Nat):∀(f:Nat) {K:Nat→Prop} {w0:World} {H:List Chunk} {v0_:Value} {p0:List RowA} {p1 p2 p3:Int} {r:List RowA},symF n f p0 p1 p2 p3=some r→Con Tryz.prog K w0 124 [v0_,vI p1,vI p2,vI p3,.func (.func 50) #[] #[]] [rowT 79 4 v0_ encRow p0] H (fun u M=>u=.tuple #[]∧M=[rowT 79 4 v0_ encRow r])
 | 0,_,_,_,_,_,_,_,_,_,h=>by cases h
 | f+1,_,_,_,_,_,_,_,_,_,h=>c_sym h (fun h=>c_symF n f h)
theorem c_symN {K:Nat→Prop} {w0:World} {H:List Chunk} {n:Nat} {v0_:Value} {p0:List RowA} {p1 p2 p3:Int} {r:List RowA} (h:symN n p0 p1 p2 p3=some r):Con Tryz.prog K w0 124 [v0_,vI p1,vI p2,vI p3,.func (.func 50) #[] #[]] [rowT 79 4 v0_ encRow p0] H (fun u M=>u=.tuple #[]∧M=[rowT 79 4 v0_ encRow r]):=c_symF n n h
end Go.Proofs.YtkibffdipniemaaGreatDoor

/- Plain functions of the references and the laws, printed from the loaded program, and the walks that show that the program computes them. Condition: the plain function yields. -/
namespace Go.Proofs.YtkibffdipniemaaGreatDoor
open Go
variable {K:Nat→Prop} {w0:World} {H:List Chunk}

def f_stb_j3 (a4:Int) (nx_f_stb_l2:List RowA×Int→Option (List RowA)) (l6:List RowA):Option (List RowA):=
 ret (wI (a4*2)) fun blockSize_1=>
 nx_f_stb_l2 (l6,blockSize_1)
def f_stb_j2 (n:Nat) (p1:Int) (a4:Int) (nx_f_stb_l2:List RowA×Int→Option (List RowA)) (l4:List RowA) (a5:Int):Option (List RowA):=
 ret (wI (a5+a4)) fun x4=>
 cond (decide (x4<p1))
 (
  (symN n l4 a5 x4 p1).bind fun y4=>
  f_stb_j3 a4 nx_f_stb_l2 y4)
 (
  f_stb_j3 a4 nx_f_stb_l2 l4)
def f_stb_l3_b (n:Nat) (p1:Int) (a4:Int) (nx_f_stb_l2:List RowA×Int→Option (List RowA)) (nx_f_stb_l3:List RowA×Int×Int→Option (List RowA)) (l5:List RowA) (a6:Int) (a7:Int):Option (List RowA):=
 cond (decide (a7≤p1))
 (
  (symN n l5 a6 (wI (a6+a4)) a7).bind fun y3=>
  ret (wI (a7+(wI (2*a4)))) fun x3=>
  nx_f_stb_l3 (y3,a7,x3))
 (
  f_stb_j2 n p1 a4 nx_f_stb_l2 l5 a6)
def f_stb_l3 (n:Nat) (p1:Int) (a4:Int) (nx_f_stb_l2:List RowA×Int→Option (List RowA)):Nat→(List RowA×Int×Int)→Option (List RowA):=loopN fun nx x=>f_stb_l3_b n p1 a4 nx_f_stb_l2 nx x.1 x.2.1 x.2.2
def f_stb_l2_b (n:Nat) (p1:Int) (nx_f_stb_l2:List RowA×Int→Option (List RowA)) (l3:List RowA) (a4:Int):Option (List RowA):=
 cond (decide (a4<p1))
 (
  ret (wI (2*a4)) fun x2=>
  f_stb_l3 n p1 a4 nx_f_stb_l2 n (l3,0,x2))
 (
  some l3)
def f_stb_l2 (n:Nat) (p1:Int):Nat→(List RowA×Int)→Option (List RowA):=loopN fun nx x=>f_stb_l2_b n p1 nx x.1 x.2
def f_stb_j1 (n:Nat) (p1:Int) (l1:List RowA) (a1:Int):Option (List RowA):=
 (f_ins n l1 a1 p1).bind fun y2=>
 f_stb_l2 n p1 n (y2,20)
def f_stb_l1_b (n:Nat) (p1:Int) (nx_f_stb_l1:List RowA×Int×Int→Option (List RowA)) (l2:List RowA) (a2:Int) (a3:Int):Option (List RowA):=
 cond (decide (a3≤p1))
 (
  (f_ins n l2 a2 a3).bind fun y1=>
  ret (wI (a3+20)) fun x1=>
  nx_f_stb_l1 (y1,a3,x1))
 (
  f_stb_j1 n p1 l2 a2)
def f_stb_l1 (n:Nat) (p1:Int):Nat→(List RowA×Int×Int)→Option (List RowA):=loopN fun nx x=>f_stb_l1_b n p1 nx x.1 x.2.1 x.2.2
def f_stb (n:Nat) (p0:List RowA) (p1:Int):Option (List RowA):=
 f_stb_l1 n p1 n (p0,0,20)
set_option maxHeartbeats 4000000 in
set_option maxRecDepth 100000 in
theorem c_stb {n:Nat} {v0_:Value} {p0:List RowA} {p1:Int} {r:List RowA} (h:f_stb n p0 p1=some r)  : Con Tryz.prog K w0 83 [v0_,vI p1,.func (.func 50) #[] #[]] [rowT 79 4 v0_ encRow p0] H (fun u M=>u=.tuple #[]∧M=[rowT 79 4 v0_ encRow r]):=by
 unfold f_stb at h
 refine Con.enter Tryz.func83 rfl rfl ?_
 refine SX.sr (SL.asg (.r rfl) rfl (SL.nx (SX.sr (SL.mv (.r rfl) rfl (SL.asg (.r rfl) rfl (SL.asg (.r rfl) rfl (SL.nx ?_)))))))
 refine SX.meetD (α:=List RowA×Int) (fun x=>f_stb_j1 n p1 x.1 x.2=some r) (fun x=>[(0,v0_),(1,vI p1),(2,.func (.func 50) #[] #[]),(6,vI 20),(7,vI x.2)]) (fun x=>rowT 79 4 v0_ encRow x.1::H) ?_ (fun x D h=>?_)
 refine SX.block ?_
 refine SX.heap (SX.mono (SX.loop (α:=Nat×List RowA×Int×Int) (fun x=>f_stb_l1 n p1 x.1 (x.2.1,x.2.2.1,x.2.2.2)=some r) (fun x=>[(0,v0_),(1,vI p1),(2,.func (.func 50) #[] #[]),(6,vI 20),(7,vI x.2.2.1),(8,vI x.2.2.2)]) (fun x=>rowT 79 4 v0_ encRow x.2.1::H) (fun x=>x.1) (fun x D h=>?_) (n,p0,0,20) h) (by repeat' (first | exact trivial | refine And.intro rfl ?_))) (fun _ hw=>HpOk.pick (H:=[_]) hw [0] 1 rfl)
 obtain ⟨m1,l2,a2,a3⟩:=x
 dsimp only at h
 rcases m1 with _ | m1
 cases (show (none:Option _)=some r from h)
 replace h:f_stb_l1_b n p1 (f_stb_l1 n p1 m1) l2 a2 a3=some r:=h
 unfold f_stb_l1_b at h
 refine SX.re [(0,v0_),(1,vI p1),(2,.func (.func 50) #[] #[]),(6,vI 20),(7,vI a2),(8,vI a3)] (rowT 79 4 v0_ encRow l2::H) ?_ (by repeat' (first | exact trivial | refine And.intro rfl ?_))
 refine SX.seq (SX.sr (SL.mv (.r rfl) rfl (SL.mv (.r rfl) rfl (SL.bin (.r rfl) rfl rfl Bin.leI (SL.nx ?_)))))
 refine SX.cond rfl (fun hc1=>?_) (fun hc1=>?_)
 replace h:=cT hc1 h
 refine SX.skip (SQ.thn (SX.block (SX.sr ?_)))
 obtain ⟨y1,hy1,h⟩:=bnd h
 refine SL.mv (.r rfl) rfl (SL.mv (.r rfl) rfl (SL.mv (.r rfl) rfl (SL.mv (.r rfl) rfl ?_)))
 refine SL.call (vs:=[_,_,_,_]) (Hin:=[_]) (Hr:=_) (.r rfl) rfl ⟨rfl,rfl,rfl,rfl,trivial⟩ cal123 rfl rfl (c_ins hy1) ?_
 rintro _ _ ⟨rfl,rfl⟩
 refine ⟨trivial,?_⟩
 refine SL.nx (SX.sr (SL.mv (.r rfl) rfl (SL.asg (.r rfl) rfl (SL.nx (SX.region ?_)))))
 obtain ⟨x1,ex1,h⟩:=retE h
 refine SL.mv (.r rfl) rfl (SL.mv (.r rfl) rfl (SL.bin (.r rfl) rfl rfl Bin.addW ?_))
 refine SL.asgX (u:=vI x1) (.r rfl) rfl (congrArg vI ex1) ?_
 refine SL.nil (SQ.blk ?_)
 exact SQ.again (m1,y1,a3,x1) h (Nat.lt_succ_self _) (by repeat' (first | exact trivial | refine And.intro rfl ?_)) (fun _ hw=>HpOk.pick (H:=[_]) hw [0] 1 rfl)
 replace h:=cF hc1 h
 refine SX.exit (SQ.thnE (SQ.lpE (SQ.blkE ?_)))
 exact SQ.midD (l2,a2) h (by repeat' (first | exact trivial | refine And.intro rfl ?_)) (fun _ hw=>HpOk.pick (H:=[_]) hw [0] 1 rfl)
 obtain ⟨l1,a1⟩:=x
 dsimp only at h
 unfold f_stb_j1 at h
 refine SX.re [(0,v0_),(1,vI p1),(2,.func (.func 50) #[] #[]),(6,vI 20),(7,vI a1)] (rowT 79 4 v0_ encRow l1::H) ?_ (by repeat' (first | exact trivial | refine And.intro rfl ?_))
 refine SX.sr ?_
 obtain ⟨y2,hy2,h⟩:=bnd h
 refine SL.mv (.r rfl) rfl (SL.mv (.r rfl) rfl (SL.mv (.r rfl) rfl (SL.mv (.r rfl) rfl ?_)))
 refine SL.call (vs:=[_,_,_,_]) (Hin:=[_]) (Hr:=_) (.r rfl) rfl ⟨rfl,rfl,rfl,rfl,trivial⟩ cal123 rfl rfl (c_ins hy2) ?_
 rintro _ _ ⟨rfl,rfl⟩
 refine ⟨trivial,?_⟩
 refine SL.nx (SX.block ?_)
 refine SX.heap (SX.mono (SX.loop (α:=Nat×List RowA×Int) (fun x=>f_stb_l2 n p1 x.1 (x.2.1,x.2.2)=some r) (fun x=>[(0,v0_),(1,vI p1),(2,.func (.func 50) #[] #[]),(6,vI x.2.2)]) (fun x=>rowT 79 4 v0_ encRow x.2.1::H) (fun x=>x.1) (fun x D h=>?_) (n,y2,20) h) (by repeat' (first | exact trivial | refine And.intro rfl ?_))) (fun _ hw=>HpOk.pick (H:=[_]) hw [0] 1 rfl)
 obtain ⟨m2,l3,a4⟩:=x
 dsimp only at h
 rcases m2 with _ | m2
 cases (show (none:Option _)=some r from h)
 replace h:f_stb_l2_b n p1 (f_stb_l2 n p1 m2) l3 a4=some r:=h
 unfold f_stb_l2_b at h
 refine SX.re [(0,v0_),(1,vI p1),(2,.func (.func 50) #[] #[]),(6,vI a4)] (rowT 79 4 v0_ encRow l3::H) ?_ (by repeat' (first | exact trivial | refine And.intro rfl ?_))
 refine SX.seq (SX.sr (SL.mv (.r rfl) rfl (SL.mv (.r rfl) rfl (SL.bin (.r rfl) rfl rfl Bin.ltI (SL.nx ?_)))))
 refine SX.cond rfl (fun hc2=>?_) (fun hc2=>?_)
 replace h:=cT hc2 h
 refine SX.skip (SQ.thn (SX.block (SX.sr ?_)))
 obtain ⟨x2,ex2,h⟩:=retE h
 refine SL.mv (.r rfl) rfl (SL.bin (.r rfl) rfl rfl Bin.mulW (SL.asg (.r rfl) rfl ?_))
 refine SL.asgX (u:=vI x2) (.r rfl) rfl (congrArg vI ex2) ?_
 refine SL.nx ?_
 refine SX.meetD (α:=List RowA×Int) (fun x=>f_stb_j2 n p1 a4 (f_stb_l2 n p1 m2) x.1 x.2=some r) (fun x=>[(0,v0_),(1,vI p1),(2,.func (.func 50) #[] #[]),(6,vI a4),(7,vI x.2)]) (fun x=>rowT 79 4 v0_ encRow x.1::H) ?_ (fun x D h=>?_)
 refine SX.block ?_
 refine SX.heap (SX.mono (SX.loop (α:=Nat×List RowA×Int×Int) (fun x=>f_stb_l3 n p1 a4 (f_stb_l2 n p1 m2) x.1 (x.2.1,x.2.2.1,x.2.2.2)=some r) (fun x=>[(0,v0_),(1,vI p1),(2,.func (.func 50) #[] #[]),(6,vI a4),(7,vI x.2.2.1),(8,vI x.2.2.2)]) (fun x=>rowT 79 4 v0_ encRow x.2.1::H) (fun x=>x.1) (fun x D h=>?_) (n,l3,0,x2) h) (by repeat' (first | exact trivial | refine And.intro rfl ?_))) (fun _ hw=>HpOk.pick (H:=[_]) hw [0] 1 rfl)
 obtain ⟨m3,l5,a6,a7⟩:=x
 dsimp only at h
 rcases m3 with _ | m3
 cases (show (none:Option _)=some r from h)
 replace h:f_stb_l3_b n p1 a4 (f_stb_l2 n p1 m2) (f_stb_l3 n p1 a4 (f_stb_l2 n p1 m2) m3) l5 a6 a7=some r:=h
 unfold f_stb_l3_b at h
 refine SX.re [(0,v0_),(1,vI p1),(2,.func (.func 50) #[] #[]),(6,vI a4),(7,vI a6),(8,vI a7)] (rowT 79 4 v0_ encRow l5::H) ?_ (by repeat' (first | exact trivial | refine And.intro rfl ?_))
 refine SX.seq (SX.sr (SL.mv (.r rfl) rfl (SL.mv (.r rfl) rfl (SL.bin (.r rfl) rfl rfl Bin.leI (SL.nx ?_)))))
 refine SX.cond rfl (fun hc3=>?_) (fun hc3=>?_)
 replace h:=cT hc3 h
 refine SX.skip (SQ.thn (SX.block (SX.sr ?_)))
 obtain ⟨y3,hy3,h⟩:=bnd h
 refine SL.mv (.r rfl) rfl (SL.mv (.r rfl) rfl (SL.mv (.r rfl) rfl (SL.mv (.r rfl) rfl (SL.bin (.r rfl) rfl rfl Bin.addW (SL.mv (.r rfl) rfl (SL.mv (.r rfl) rfl ?_))))))
 refine SL.call (vs:=[_,_,_,_,_]) (Hin:=[_]) (Hr:=_) (.r rfl) rfl ⟨rfl,rfl,rfl,rfl,rfl,trivial⟩ cal124 rfl rfl (c_symN hy3) ?_
 rintro _ _ ⟨rfl,rfl⟩
 refine ⟨trivial,?_⟩
 refine SL.nx (SX.sr (SL.mv (.r rfl) rfl (SL.asg (.r rfl) rfl (SL.nx (SX.region ?_)))))
 obtain ⟨x3,ex3,h⟩:=retE h
 refine SL.mv (.r rfl) rfl (SL.mv (.r rfl) rfl (SL.bin (.r rfl) rfl rfl Bin.mulW (SL.bin (.r rfl) rfl rfl Bin.addW ?_)))
 refine SL.asgX (u:=vI x3) (.r rfl) rfl (congrArg vI ex3) ?_
 refine SL.nil (SQ.blk ?_)
 exact SQ.again (m3,y3,a7,x3) h (Nat.lt_succ_self _) (by repeat' (first | exact trivial | refine And.intro rfl ?_)) (fun _ hw=>HpOk.pick (H:=[_]) hw [0] 1 rfl)
 replace h:=cF hc3 h
 refine SX.exit (SQ.thnE (SQ.lpE (SQ.blkE ?_)))
 exact SQ.midD (l5,a6) h (by repeat' (first | exact trivial | refine And.intro rfl ?_)) (fun _ hw=>HpOk.pick (H:=[_]) hw [0] 1 rfl)
 obtain ⟨l4,a5⟩:=x
 dsimp only at h
 unfold f_stb_j2 at h
 refine SX.re [(0,v0_),(1,vI p1),(2,.func (.func 50) #[] #[]),(6,vI a4),(7,vI a5)] (rowT 79 4 v0_ encRow l4::H) ?_ (by repeat' (first | exact trivial | refine And.intro rfl ?_))
 refine SX.meetD (α:=List RowA) (fun x=>f_stb_j3 a4 (f_stb_l2 n p1 m2) x=some r) (fun x=>[(0,v0_),(1,vI p1),(2,.func (.func 50) #[] #[]),(6,vI a4)]) (fun x=>rowT 79 4 v0_ encRow x::H) ?_ (fun l6 D h=>?_)
 refine SX.sr ?_
 obtain ⟨x4,ex4,h⟩:=retE h
 refine SL.mv (.r rfl) rfl (SL.mv (.r rfl) rfl (SL.bin (.r rfl) rfl rfl Bin.addW ?_))
 refine SL.asgX (u:=vI x4) (.r rfl) rfl (congrArg vI ex4) ?_
 refine SL.nx (SX.sr (SL.mv (.r rfl) rfl (SL.mv (.r rfl) rfl (SL.bin (.r rfl) rfl rfl Bin.ltI (SL.nx ?_)))))
 refine SX.cond rfl (fun hc4=>?_) (fun hc4=>?_)
 replace h:=cT hc4 h
 refine SX.region ?_
 obtain ⟨y4,hy4,h⟩:=bnd h
 refine SL.mv (.r rfl) rfl (SL.mv (.r rfl) rfl (SL.mv (.r rfl) rfl (SL.mv (.r rfl) rfl (SL.mv (.r rfl) rfl ?_))))
 refine SL.call (vs:=[_,_,_,_,_]) (Hin:=[_]) (Hr:=_) (.r rfl) rfl ⟨rfl,rfl,rfl,rfl,rfl,trivial⟩ cal124 rfl rfl (c_symN hy4) ?_
 rintro _ _ ⟨rfl,rfl⟩
 refine ⟨trivial,?_⟩
 refine SL.nil ?_
 exact SQ.midD y4 h (by repeat' (first | exact trivial | refine And.intro rfl ?_)) (fun _ hw=>HpOk.pick (H:=[_]) hw [0] 1 rfl)
 replace h:=cF hc4 h
 refine SX.skip ?_
 exact SQ.midD l4 h (by repeat' (first | exact trivial | refine And.intro rfl ?_)) (fun _ hw=>HpOk.pick (H:=[_]) hw [0] 1 rfl)
 unfold f_stb_j3 at h
 refine SX.re [(0,v0_),(1,vI p1),(2,.func (.func 50) #[] #[]),(6,vI a4)] (rowT 79 4 v0_ encRow l6::H) ?_ (by repeat' (first | exact trivial | refine And.intro rfl ?_))
 refine SX.region ?_
 obtain ⟨blockSize_1,eblockSize_1,h⟩:=retE h
 refine SL.mv (.r rfl) rfl (SL.bin (.r rfl) rfl rfl Bin.mulW ?_)
 refine SL.asgX (u:=vI blockSize_1) (.r rfl) rfl (congrArg vI eblockSize_1) ?_
 refine SL.nil (SQ.blk ?_)
 exact SQ.again (m2,l6,blockSize_1) h (Nat.lt_succ_self _) (by repeat' (first | exact trivial | refine And.intro rfl ?_)) (fun _ hw=>HpOk.pick (H:=[_]) hw [0] 1 rfl)
 replace h:=cF hc2 h
 refine SX.exit (SQ.thnE (SQ.lpE (SQ.blkE ?_)))
 obtain rfl:=Option.some.inj h
 exact SQ.fend (res0 rfl) (ret_of (M:=[_]) ⟨rfl,rfl⟩ fun _ hw=>HpOk.pick (H:=[_]) hw [0] 1 rfl)

def f_sst (n:Nat) (p0:List RowA):Option (List RowA):=
 (f_stb n p0 (p0.length:Int)).bind fun y1=>
 some y1
set_option maxRecDepth 100000 in
theorem c_sst {n:Nat} {v0_:Value} {p0:List RowA} {r:List RowA} (h:f_sst n p0=some r)  : Con Tryz.prog K w0 49 [v0_,.func (.func 50) #[] #[]] [rowT 79 4 v0_ encRow p0] H (fun u M=>u=.tuple #[]∧M=[rowT 79 4 v0_ encRow r]):=by
 unfold f_sst at h
 refine Con.enter Tryz.func49 rfl rfl ?_
 refine SX.region ?_
 obtain ⟨y1,hy1,h⟩:=bnd h
 refine SL.mv (.r rfl) rfl (SL.mv (.r rfl) rfl (SL.lenT 0 (.r rfl) ty35 rfl rfl (SL.mv (.r rfl) rfl ?_)))
 refine SL.call (vs:=[_,_,_]) (Hin:=[_]) (Hr:=_) (.r rfl) rfl ⟨rfl,rfl,rfl,trivial⟩ cal83 rfl rfl (c_stb hy1) ?_
 rintro _ _ ⟨rfl,rfl⟩
 refine ⟨trivial,?_⟩
 refine SL.nil ?_
 obtain rfl:=Option.some.inj h
 exact SQ.fend (res0 rfl) (ret_of (M:=[_]) ⟨rfl,rfl⟩ fun _ hw=>HpOk.pick (H:=[_]) hw [0] 1 rfl)


end Go.Proofs.YtkibffdipniemaaGreatDoor

/- Where grove.Save puts a page: where it is there, or a block of the vault's. Condition: the plain functions yield. -/
namespace Go.Proofs.YtkibffdipniemaaGreatDoor
open Go
variable {K:Nat→Prop} {w0:World} {H:List Chunk}

abbrev KeyS:={s:List UInt8 // s.length≤1048576}
def keyS (s:List UInt8):Option KeyS:=if h:s.length≤1048576 then some ⟨s,h⟩ else none
theorem keyS_some {s:List UInt8} {k:KeyS} (h:keyS s=some k):k.1=s:=by
 unfold keyS at h
 split at h
 rw [←Option.some.inj h]
 cases h
def eKeyS (k:KeyS):Value:=vS k.1
theorem string_key {P:Program} {k:TypeId} (hk:P.underlying k=some .string) (a:KeyS):∃l,keyOf P k (eKeyS a)=some l:=by
 refine ⟨.string a.1,?_⟩
 have:=a.2
 simp [keyOf,hk,mapKey,vS,eKeyS]
 show a.1.length≤maxLen
 simp [maxLen]
 omega
def eRefV (r:RefA):Value:=.agg (encRef r).toArray
theorem MapE.strRef {P:Program} {k:TypeId} (hk:P.underlying k=some .string):MapE P k eKeyS eRefV:=
 ⟨Maps.string_keyed hk,string_key hk,⟨fun v=>match v with | .string b=>keyS b.data.toList | _=>none,fun x=>by
  show keyS x.1=some x
  unfold keyS
  rw [dif_pos x.2]⟩,⟨fun v=>match v with | .agg a=>(match a.toList with | [.int _ p,.string b]=>some ⟨UInt32.ofNat p.toNat,b.data.toList⟩ | _=>none) | _=>none,fun x=>by
  cases x
  simp [eRefV,encRef,vU32,vS]⟩⟩
structure VltB where
 b:Nat
 rv:Value
 mt:Nat
 d:Nat
 bv:Value
 mp:Nat
 mb:Nat
abbrev vltO (B:VltB) (v:VltA) (d:DevA):List Chunk:=
 [own B.b (.cells #[vP B.d 0,B.rv,vU32 v.gen,vU32 v.boot,vU64 v.seals,.map (some B.mt)] 96),rowT 138 2 B.rv encKey v.ring,mapC B.mt vU32 vB v.taken,own B.d (.cells #[vB d.off,vB d.isCut,vI d.lasts,vI d.counts,B.bv,.map (some B.mp),.map (some B.mb),vU64 d.rcnt,vS d.rtag,vU32 d.rboots] 130),rowT 9 1 B.bv eS d.blocks,mapC B.mp vU32 vS d.pend,mapC B.mb vU32 vB d.bad]
structure SvA where
 tk:List UInt32
 v:VltA
 d:DevA
abbrev savC (bt bm bv bk:Nat) (B:VltB) (th:List (KeyS×RefA)) (a:Value) (q:SvA):List Chunk:=
 own bt (.cells #[.map (some bm)] 116)::mapC bm eKeyS eRefV th::own bv (.cells #[vP B.b 0] 24)::own bk (.cells #[a] 113)::rowT 29 1 a eU32 q.tk::vltO B q.v q.d
def savWh (T:List UInt32) (th:List (KeyS×RefA)):WhO SvA:=fun q s=>
 (keyS s).bind fun k=>cond (mget th k).isSome (some (((mget th k).getD ⟨0,[]⟩,0),q))
  ((f_vv_Write T q.v q.d s).bind fun y=>cond (decide (y.2.1=0)) ((appL 4 q.tk [y.1.page]).bind fun l=>some ((y.1,y.2.1),⟨l,y.2.2.1,y.2.2.2⟩)) (some ((y.1,y.2.1),⟨q.tk,y.2.2.1,y.2.2.2⟩)))
set_option maxHeartbeats 4000000 in
set_option maxRecDepth 100000 in
theorem c_save1 {T:List UInt32} {bt bm bv bk:Nat} {B:VltB} {th:List (KeyS×RefA)}:WhCon T 58 #[vP bt 0,vP bv 0,vP bk 0] (savC bt bm bv bk B th) (savWh T th):=by
 intro K w0 H a q s r hS h
 unfold savWh at h
 obtain ⟨k,hk,h⟩:=bnd h
 have hks:=keyS_some hk
 refine Con.enter Tryz.func58 rfl rfl ?_
 show SX _ _ _ _ _ _ _ _ _ (savC bt bm bv bk B th a q++H)
 refine SX.sr ?_
 refine SL.alloc (.r rfl) ze31 (fun _=>trivial) fun b0=>?_
 refine SL.asg (.r rfl) rfl (SL.nx (SX.seq (SX.sr (SL.ld (.r rfl) sc116 rfl (cell_own 1 rfl rfl) (SL.mv (.r rfl) rfl ?_)))))
 refine SL.lkpOk (zv:=(⟨0,[]⟩:RefA)) 2 (MapE.strRef ty9) (.r rfl) ty116 ze31 rfl (by rw [←hks];rfl) rfl ?_
 refine SL.mv (.r rfl) rfl (SL.ext (.r rfl) rfl rfl (SL.ext (.r rfl) rfl rfl ?_))
 refine SL.alloc (.r rfl) ze31 (fun _=>trivial) fun b1=>?_
 refine SL.st 0 ⟨rfl,rfl,rfl⟩ rfl rfl rfl sz31 rfl rfl rfl trivial (SL.reAt 0 (own b1 (.cells #[vU32 ((mget th k).getD ⟨0,[]⟩).page,vS ((mget th k).getD ⟨0,[]⟩).tag] 31)) (SL.asg (.r rfl) rfl (SL.nx (SX.sr (SL.mv (.r rfl) rfl (SL.nx ?_))))))
 refine SX.cond rfl (fun hc1=>?_) (fun hc1=>?_)
 replace h:=cT hc1 h
 obtain rfl:=Option.some.inj h
 refine SX.sr (SL.ldA (encRef ((mget th k).getD ⟨0,[]⟩)) (.r rfl) ag31 rfl rfl (cells_all 0 rfl) (SL.st 1 ⟨rfl,rfl,rfl⟩ rfl rfl rfl sz31 rfl rfl rfl trivial (SL.asg (.r rfl) rfl (SL.nx (SX.ret (SQ.thnR ?_))))))
 exact SQ.fret (resv2 rfl (resv.ag 1 (encRef ((mget th k).getD ⟨0,[]⟩)) ag31 rfl rfl rfl rfl) rfl) (ret_of (M:=savC bt bm bv bk B th a q) ⟨rfl,a,rfl⟩ fun _ hw=>HpOk.pick (H:=[_,_]) hw [] 2 rfl)
 replace h:=cF hc1 h
 obtain ⟨y,hy,h⟩:=bnd h
 refine SX.skip (SQ.thn (SX.sr (SL.ld (.r rfl) sc24 rfl (cell_own 4 rfl rfl) (SL.mv (.r rfl) rfl ?_))))
 refine SL.heap (H':=vltO B q.v q.d++([_,_,_,_,_,_,_]++H)) ?_ (fun _ hw=>HpOk.rotN (A:=[_,_,_,_,_,_,_]) (B:=vltO B q.v q.d) (R:=H) hw)
 have hcon:=c_vv_Write (K:=K) (w0:=w0) (H:=([own b1 (.cells #[vU32 ((mget th k).getD ⟨0,[]⟩).page,vS ((mget th k).getD ⟨0,[]⟩).tag] 31),own b0 (.cells #[vU32 0,vS []] 31),own bt (.cells #[.map (some bm)] 116),mapC bm eKeyS eRefV th,own bv (.cells #[vP B.b 0] 24),own bk (.cells #[a] 113),rowT 29 1 a eU32 q.tk]++H)++[marks []]) (b0_:=B.b) (v0x1_:=B.rv) (m0x5_:=B.mt) (b0x0_:=B.d) (v0x0x4_:=B.bv) (m0x0x5_:=B.mp) (m0x0x6_:=B.mb) hy hS
 refine SL.call (vs:=[_,_]) (Hin:=vltO B q.v q.d) (Hr:=[_,_,_,_,_,_,_]++H) (.r rfl) rfl ⟨rfl,rfl,trivial⟩ cal13 rfl rfl hcon ?_
 rintro _ _ ⟨rfl,rfl⟩
 refine ⟨trivial,?_⟩
 refine SL.heap (H':=[_,_,_,_,_,_,_]++(vltO B y.2.2.1 y.2.2.2++H)) ?_ (fun _ hw=>HpOk.rotN (A:=vltO B y.2.2.1 y.2.2.2) (B:=[_,_,_,_,_,_,_]) (R:=H) hw)
 refine SL.mv (.r rfl) rfl (SL.ext (.r rfl) rfl rfl (SL.ext (.r rfl) rfl rfl ?_))
 refine SL.alloc (.r rfl) ze31 (fun _=>trivial) fun b2=>?_
 refine SL.st 0 ⟨rfl,rfl,rfl⟩ rfl rfl rfl sz31 rfl rfl rfl trivial (SL.reAt 0 (own b2 (.cells #[vU32 y.1.page,vS y.1.tag] 31)) (SL.asg (.r rfl) rfl (SL.nx ?_)))
 refine SX.meetD (α:=List UInt32×Value) (fun w=>some ((y.1,y.2.1),(⟨w.1,y.2.2.1,y.2.2.2⟩:SvA))=some r) (fun w=>[(9,vP b2 0),(10,vI y.2.1),(5,vP b0 0)])
  (fun w=>own b2 (.cells #[vU32 y.1.page,vS y.1.tag] 31)::own b0 (.cells #[vU32 0,vS []] 31)::(savC bt bm bv bk B th w.2 ⟨w.1,y.2.2.1,y.2.2.2⟩++H)) ?_ (fun w D h=>?_)
 refine SX.sr (SL.mv (.r rfl) rfl (SL.bin (.r rfl) rfl rfl Bin.eqI (SL.nx ?_)))
 refine SX.cond rfl (fun hc2=>?_) (fun hc2=>?_)
 replace h:=cT hc2 h
 obtain ⟨l,hl,h⟩:=bnd h
 refine SX.region (SL.ld (.r rfl) sc113 rfl (cell_own 6 rfl rfl) (SL.fa (.r rfl) rfl fo31_0 (SL.ld (.r rfl) sc29 rfl (cell_own 0 rfl rfl) ?_)))
 refine SL.bsl [_] (.r rfl) ty113 sz29 ze29 ⟨rfl,trivial⟩ rfl rfl rfl (by first | (simp [Value.cells];done) | (intro v hv;simp only [List.mem_cons,List.not_mem_nil,or_false] at hv;rcases hv with rfl<;>rfl)) rfl rfl (fun _=>trivial) fun b3=>?_
 refine SL.ownT eU32 1 ([y.1.page]:List UInt32) rfl (fun _=>rfl) rfl ?_
 refine SL.appT 8 hl (sz:=1) (enc:=eU32) (fun _=>rfl) (.r rfl) ty113 sz29 by29 ze29 rfl (by decide) rfl rfl rfl rfl (cells_rowA (sz:=1) (enc:=eU32) 0 (fun _=>rfl) rfl) (by simp [eU32,Value.oneCell']) (fun _=>trivial) fun v3=>?_
 refine SL.rowV 8 rfl fun hv3 ho3=>?_
 refine SL.stR 7 ⟨rfl,rfl,rfl⟩ rfl rfl rfl sz113 hv3 ho3 rfl trivial (SL.nil ?_)
 exact SQ.midD (l,v3) h (by repeat' (first | exact trivial | refine And.intro rfl ?_)) (fun _ hw=>HpOk.pick (H:=[_,_,_,_,_,_,_,_,_]) hw [1,3,4,5,6,7,8] 9 rfl)
 replace h:=cF hc2 h
 refine SX.skip ?_
 exact SQ.midD (q.tk,a) h (by repeat' (first | exact trivial | refine And.intro rfl ?_)) (fun _ hw=>HpOk.pick (H:=[_,_,_,_,_,_,_,_]) hw [0,2,3,4,5,6,7] 8 rfl)
 obtain ⟨l,v3⟩:=w
 obtain rfl:=Option.some.inj h
 dsimp only
 refine SX.sr (SL.ldA (encRef y.1) (.r rfl) ag31 rfl rfl (cells_all 0 rfl) (SL.mv (.r rfl) rfl (SL.st 1 ⟨rfl,rfl,rfl⟩ rfl rfl rfl sz31 rfl rfl rfl trivial (SL.asg (.r rfl) rfl (SL.nx (SX.ret ?_))))))
 exact SQ.fret (resv2 rfl (resv.ag 1 (encRef y.1) ag31 rfl rfl rfl rfl) rfl) (ret_of (M:=savC bt bm bv bk B th v3 ⟨l,y.2.2.1,y.2.2.2⟩) ⟨rfl,v3,rfl⟩ fun _ hw=>HpOk.pick (H:=[_,_]) hw [] 2 rfl)
end Go.Proofs.YtkibffdipniemaaGreatDoor

/- grove.Save. Condition: the plain function yields. -/
namespace Go.Proofs.YtkibffdipniemaaGreatDoor
open Go
variable {K:Nat→Prop} {w0:World} {H:List Chunk}

def thereB:List (Int×SavedA)→List (KeyS×RefA)→Option (List (KeyS×RefA))
 | [],m=>some m
 | s::l,m=>(keyS s.2.txt).bind fun k=>(mputI m k ⟨s.2.page,s.2.tag⟩).bind fun m'=>thereB l m'
def giveF:List UInt32→VltA→DevA→Option VltA
 | [],v,_=>some v
 | x::l,v,d=>(f_vv_Give v d x).bind fun y=>giveF l y.2 d
def saveE (y:RefA×(PlA×SvA)):Option (List SavedA×Int×VltA×DevA):=
 cond (!decide (y.2.1.wrong=0)) (if 1048576<y.2.2.tk.length then none else (giveF y.2.2.tk y.2.2.v y.2.2.d).bind fun v'=>some ([],y.2.1.wrong,v',y.2.2.d)) (some (y.2.1.out,0,y.2.2.v,y.2.2.d))
def saveF (n:Nat) (T:List UInt32) (p0:VltA) (p0_1:DevA) (p1:List RowA) (p2:List SavedA):Option (List SavedA×Int×VltA×DevA):=
 (buildF n p1).bind fun b=>cond (!decide (b.2=0)) (some ([],b.2,p0,p0_1))
  (if 1048576<p2.length then none else (thereB (backL p2) []).bind fun th=>(plNode n (savWh T th) n b.1 ⟨[],0⟩ ⟨[],p0,p0_1⟩).bind saveE)
set_option maxHeartbeats 16000000 in
set_option maxRecDepth 100000 in
theorem w_save {n:Nat} {T:List UInt32} {b0_:Nat} {v0x1_:Value} {m0x5_:Nat} {b0x0_:Nat} {v0x0x4_:Value} {m0x0x5_:Nat} {m0x0x6_:Nat} {p0:VltA} {p0_1:DevA} {v1_ v2_:Value} {p1:List RowA} {p2:List SavedA} {r:List SavedA×Int×VltA×DevA} (h:saveF n T p0 p0_1 p1 p2=some r) (hS:ShaT K w0 T) (hs1_:SlOf K w0 encRow 4 v1_ p1) (hs2_:SlOf K w0 encSaved 3 v2_ p2):
  Con Tryz.prog K w0 19 [vP b0_ 0,v1_,v2_] (vltO ⟨b0_,v0x1_,m0x5_,b0x0_,v0x0x4_,m0x0x5_,m0x0x6_⟩ p0 p0_1) H (fun u M=>∃v0:Value,u=.tuple #[v0,vI r.2.1]∧M=rowT 72 3 v0 encSaved r.1::vltO ⟨b0_,v0x1_,m0x5_,b0x0_,v0x0x4_,m0x0x5_,m0x0x6_⟩ r.2.2.1 r.2.2.2):=by
 unfold saveF at h
 obtain ⟨b,hb,h⟩:=bnd h
 refine Con.enter Tryz.func19 rfl rfl ?_
 show SX _ _ _ _ _ _ _ _ _ (vltO ⟨b0_,v0x1_,m0x5_,b0x0_,v0x0x4_,m0x0x5_,m0x0x6_⟩ p0 p0_1++H)
 refine SX.sr ?_
 refine SL.box (.r rfl) rfl (fun _=>trivial) fun b0=>?_
 refine SL.asg (.r rfl) rfl (SL.asg (.r rfl) rfl (SL.nx (SX.seq (SX.sr (SL.ld (.r rfl) sc24 rfl (cell_own 0 rfl rfl) (SL.eqPN (.r rfl) ty24 rfl rfl (SL.nx (SX.condF rfl (SX.skip (SQ.thn (SX.sr (SL.mv (.r rfl) rfl ?_))))))))))))
 refine SL.call (vs:=[_]) (Hin:=[]) (Hr:=_::(vltO ⟨b0_,v0x1_,m0x5_,b0x0_,v0x0x4_,m0x0x5_,m0x0x6_⟩ p0 p0_1++H)) (.r rfl) rfl ⟨rfl,trivial⟩ cal25 rfl rfl (w_build hb hs1_) ?_
 rintro _ _ ⟨nv,L,rfl,hnz,rfl⟩
 refine ⟨trivial,?_⟩
 refine SL.mv (.r rfl) rfl (SL.ext (.r rfl) rfl rfl (SL.ext (.r rfl) rfl rfl ?_))
 refine SL.alloc (.r rfl) ze57 (fun _=>trivial) fun b1=>?_
 refine SL.st 0 ⟨rfl,rfl,rfl⟩ rfl rfl rfl sz57 rfl (List.all_eq_true.2 (oneNode nv)) rfl trivial (SL.reAt 0 (own b1 (.cells (encNode nv).toArray 57)) (SL.asg (.r rfl) rfl (SL.nx (SX.seq (SX.sr (SL.mv (.r rfl) rfl (SL.bin (.r rfl) rfl rfl Bin.neI (SL.nx ?_))))))))
 refine SX.cond rfl (fun hc2=>?_) (fun hc2=>?_)
 replace h:=cT hc2 h
 obtain rfl:=Option.some.inj h
 refine SX.sr (SL.mv (.r rfl) rfl (SL.asg (.r rfl) rfl (SL.asg (.r rfl) rfl (SL.nx (SX.ret (SQ.thnR (SQ.nilT 72 3 encSaved ?_)))))))
 exact SQ.fret (res2 rfl rfl rfl) (ret_of (M:=_::vltO ⟨b0_,v0x1_,m0x5_,b0x0_,v0x0x4_,m0x0x5_,m0x0x6_⟩ p0 p0_1) ⟨_,rfl,rfl⟩ fun _ hw=>HpOk.pick (H:=[_,_,_,_]) hw [0] 4 rfl)
 replace h:=cF hc2 h
 split at h
 cases h
 rename_i hbig
 obtain ⟨th,hth,h3⟩:=bnd h
 clear h
 obtain ⟨y,hy,h⟩:=bnd h3
 clear h3
 refine SX.skip (SQ.thn (SX.sr ?_))
 refine SL.mkM eKeyS eRefV (.r rfl) (fun _=>trivial) fun bm=>?_
 refine SL.alloc (.r rfl) ze116 (fun _=>trivial) fun b2=>?_
 refine SL.st 0 ⟨rfl,rfl,rfl⟩ rfl rfl rfl sz116 rfl rfl rfl trivial (SL.reAt 0 (own b2 (.cells #[.map (some bm)] 116)) (SL.nx (SX.seq (SX.sr (SL.mv (.r rfl) rfl ?_)))))
 refine SL.call (vs:=[_]) (Hin:=[]) (Hr:=_::_::_::_::_::(vltO ⟨b0_,v0x1_,m0x5_,b0x0_,v0x0x4_,m0x0x5_,m0x0x6_⟩ p0 p0_1++H)) (.r rfl) rfl ⟨rfl,trivial⟩ cal57 rfl rfl (w_backS hs2_.one) ?_
 rintro _ _ ⟨bx,rfl,rfl⟩
 refine ⟨trivial,?_⟩
 refine SL.nx (SX.block ?_)
 refine SX.rangeAt (enc:=encBS) (backL p2) (G0:=(own b2 (.cells #[.map (some bm)] 116)::mapC bm eKeyS eRefV []::own b1 (.cells (encNode nv).toArray 57)::fzC L::own b0 (.cells #[vP b0_ 0] 24)::(vltO ⟨b0_,v0x1_,m0x5_,b0x0_,v0x0x4_,m0x0x5_,m0x0x6_⟩ p0 p0_1++H))) (fun pre G=>∃m:List (KeyS×RefA),(∀suf,backL p2=pre++suf→thereB suf m=some th)∧G=(own b2 (.cells #[.map (some bm)] 116)::mapC bm eKeyS eRefV m::own b1 (.cells (encNode nv).toArray 57)::fzC L::own b0 (.cells #[vP b0_ 0] 24)::(vltO ⟨b0_,v0x1_,m0x5_,b0x0_,v0x0x4_,m0x0x5_,m0x0x6_⟩ p0 p0_1++H))) (fun c G=>False) rfl cal90 rfl (fun _=>rfl) (q_backS (by omega) hs2_) rfl ⟨[],fun suf e=>by rw [←show backL p2=suf from e];exact hth,rfl⟩ (fun pre x suf G hxs hJ lr lp Rest=>?_) (fun G D hJ=>?_) (fun c G D hX=>hX.elim)
 obtain ⟨m,hm,rfl⟩:=hJ
 have h1:=hm (x::suf) hxs
 rw [thereB] at h1
 obtain ⟨k,hk,h1⟩:=bnd h1
 obtain ⟨m1,hm1,h1⟩:=bnd h1
 have hks:=keyS_some hk
 refine SX.region ?_
 refine SL.alloc (.r rfl) ze72 (fun _=>trivial) fun b3=>?_
 refine SL.st 0 ⟨rfl,rfl,rfl⟩ rfl rfl rfl sz72 rfl rfl rfl trivial (SL.nil ?_)
 refine SQ.bgn (G:=own b3 (.cells #[vS x.2.txt,vU32 x.2.page,vS x.2.tag] 72)::(own b2 (.cells #[.map (some bm)] 116)::mapC bm eKeyS eRefV m::own b1 (.cells (encNode nv).toArray 57)::fzC L::own b0 (.cells #[vP b0_ 0] 24)::(vltO ⟨b0_,v0x1_,m0x5_,b0x0_,v0x0x4_,m0x0x5_,m0x0x6_⟩ p0 p0_1++H))) ?_
 refine SX.block (SX.region (SL.ld (.r rfl) sc116 rfl (cell_own 1 rfl rfl) (SL.fa (.r rfl) rfl fo72_0 (SL.ld (.r rfl) sc9 rfl (cell_own 0 rfl rfl) (SL.fa (.r rfl) rfl fo72_1 (SL.ldA [vU32 x.2.page,vS x.2.tag] (.r rfl) ag31 rfl rfl (cells_own 0 rfl (by rintro (_ | (_ | j)) u hj<;>first | exact hj | exact absurd hj (by simp))) ?_))))))
 refine SL.mupN (a:=(⟨x.2.page,x.2.tag⟩:RefA)) 2 hm1 (MapE.strRef ty9) ⟨rfl,rfl,rfl⟩ ty116 rfl (by rw [eKeyS,hks];rfl) rfl rfl trivial ?_
 refine SL.nil (SQ.blk ?_)
 exact SQ.rndN ⟨m1,fun suf' e=>by rw [suf_eq hxs e];exact h1,rfl⟩ (fun _ hw=>HpOk.pick (H:=[_]) hw [] 1 rfl)
 obtain ⟨m,hm,rfl⟩:=hJ
 have h1:=hm [] (List.append_nil _).symm
 obtain rfl:m=th:=Option.some.inj h1
 refine SQ.blk (SQ.thn (SX.sr ?_))
 refine SL.alloc (.r rfl) ze113 (fun _=>trivial) fun b3=>?_
 refine SL.reAt 0 (own b3 (.cells #[.slice none 0 0] 113)) (SL.nilT 29 1 eU32 (SL.nx (SX.sr ?_)))
 refine SL.mkf (fv:=#[]) (cv:=#[_,_,_]) (.r rfl) rfl rfl ?_
 refine SL.bld [_] (.r rfl) pl106 pk106 ze106 ⟨rfl,trivial⟩ rfl ?_
 refine SL.box (.r rfl) rfl (fun _=>trivial) fun b4=>?_
 refine SL.nilT 72 3 encSaved (SL.asg (.r rfl) rfl (SL.nx ?_))
 have hcon:=Con.lend (K:=K) (w0:=w0) (H:=(own b1 (.cells (encNode nv).toArray 57)::H)++[marks D]) (f:=53) (B:=[fzC L]) (Hin:=plC b4 (.func (.func 58) #[] #[vP b2 0,vP b0 0,vP b3 0]) (.slice none 0 0) ⟨[],0⟩::rowT 72 3 (.slice none 0 0) encSaved []::savC b2 bm b0 b3 (⟨b0_,v0x1_,m0x5_,b0x0_,v0x0x4_,m0x0x5_,m0x0x6_⟩:VltB) m (.slice none 0 0) ⟨[],p0,p0_1⟩) fun K' w1 hkk hB=>
  c_planter_node (C:=savC b2 bm b0 b3 (⟨b0_,v0x1_,m0x5_,b0x0_,v0x0x4_,m0x0x5_,m0x0x6_⟩:VltB) m) (bp:=b4) (vo:=.slice none 0 0) (ca:=.slice none 0 0) (cs:=#[vP b2 0,vP b0 0,vP b3 0]) cal58 c_save1 n (hS.keeps hkk) hy (hnz.lent (hB _ (by simp)))
 generalize hpo:(fun (u:Value) (M:List Chunk)=>∃M',M=[fzC L]++M'∧(u=.agg (encRef y.1).toArray∧∃vo' ca',M'=plC b4 (.func (.func 58) #[] #[vP b2 0,vP b0 0,vP b3 0]) vo' y.2.1::rowT 72 3 vo' encSaved y.2.1.out::savC b2 bm b0 b3 (⟨b0_,v0x1_,m0x5_,b0x0_,v0x0x4_,m0x0x5_,m0x0x6_⟩:VltB) m ca' y.2.2))=po at hcon
 refine SX.sr (SL.mv (.r rfl) rfl (SL.ldA (encNode nv) (.r rfl) ag57 rfl rfl (cells_all 6 rfl) ?_))
 refine SL.heap (H':=([fzC L]++(plC b4 (.func (.func 58) #[] #[vP b2 0,vP b0 0,vP b3 0]) (.slice none 0 0) ⟨[],0⟩::rowT 72 3 (.slice none 0 0) encSaved []::savC b2 bm b0 b3 (⟨b0_,v0x1_,m0x5_,b0x0_,v0x0x4_,m0x0x5_,m0x0x6_⟩:VltB) m (.slice none 0 0) ⟨[],p0,p0_1⟩))++(own b1 (.cells (encNode nv).toArray 57)::H)) ?_ (fun _ hw=>HpOk.pick (H:=[_,_,_,_,_,_,_,_,_,_,_,_,_,_,_,_]) hw [7,1,0,4,5,8,3,2,9,10,11,12,13,14,15,6] 16 rfl)
 refine SL.call (vs:=[_,_]) (Hin:=[fzC L]++(plC b4 (.func (.func 58) #[] #[vP b2 0,vP b0 0,vP b3 0]) (.slice none 0 0) ⟨[],0⟩::rowT 72 3 (.slice none 0 0) encSaved []::savC b2 bm b0 b3 (⟨b0_,v0x1_,m0x5_,b0x0_,v0x0x4_,m0x0x5_,m0x0x6_⟩:VltB) m (.slice none 0 0) ⟨[],p0,p0_1⟩)) (Hr:=own b1 (.cells (encNode nv).toArray 57)::H) (.r rfl) rfl ⟨rfl,rfl,trivial⟩ cal53 rfl rfl hcon ?_
 intro u0 M0 hpost
 rw [←hpo] at hpost
 obtain ⟨_,rfl,rfl,vo,ca,rfl⟩:=hpost
 refine ⟨trivial,?_⟩
 refine SL.nx ?_
 unfold saveE at h
 refine SX.seq (SX.sr (SL.mv (.r rfl) rfl (SL.nchk (.r rfl) rfl (SL.fa (.r rfl) rfl fo106_2 (SL.ld (.r rfl) sc32 rfl (cell_own 1 rfl rfl) (SL.bin (.r rfl) rfl rfl Bin.neI (SL.nx ?_)))))))
 refine SX.cond rfl (fun hc3=>?_) (fun hc3=>?_)
 replace h:=cT hc3 h
 split at h
 cases h
 rename_i hbt
 obtain ⟨v',hv',h⟩:=bnd h
 obtain rfl:=Option.some.inj h
 refine SX.seq (SX.sr (SL.ld (.r rfl) sc113 rfl (cell_own 6 rfl rfl) (SL.lenT 7 (.r rfl) ty113 rfl rfl (SL.mv (.r rfl) rfl (SL.nx (SX.block ?_))))))
 refine SX.heap (SX.mono (SX.loop (α:=Nat×VltA) (fun x=>x.1≤y.2.2.tk.length∧giveF (y.2.2.tk.drop x.1) x.2 y.2.2.d=some v') (fun x=>[(3,vP b0 0),(14,vP b4 0),(48,ca),(49,vI (y.2.2.tk.length:Int)),(50,vI (x.1:Int))])
  (fun x=>plC b4 (.func (.func 58) #[] #[vP b2 0,vP b0 0,vP b3 0]) vo y.2.1::own b0 (.cells #[vP b0_ 0] 24)::rowT 29 1 ca eU32 y.2.2.tk::(vltO (⟨b0_,v0x1_,m0x5_,b0x0_,v0x0x4_,m0x0x5_,m0x0x6_⟩:VltB) x.2 y.2.2.d++H))
  (fun x=>y.2.2.tk.length-x.1) (fun x D hp=>?_) (0,y.2.2.v) ⟨Nat.zero_le _,hv'⟩) (by repeat' (first | exact trivial | refine And.intro rfl ?_))) (fun _ hw=>HpOk.pick (H:=[_,_,_,_,_,_,_,_,_,_,_,_,_,_,_,_]) hw [1,5,7,8,9,10,11,12,13,14] 16 rfl)
 obtain ⟨i,v1⟩:=x
 obtain ⟨hi,hg⟩:=hp
 dsimp only at hi hg ⊢
 refine SX.sr (SL.bin (.r rfl) rfl rfl Bin.ltI (SL.nx (SX.seq ?_)))
 refine SX.cond rfl (fun hc4=>?_) (fun hc4=>?_)
 have hlt:i<y.2.2.tk.length:=by
  have:=of_decide_eq_true hc4
  omega
 clear hc4
 have hnth:nthI y.2.2.tk (i:Int)=some y.2.2.tk[i]:=by
  rw [nthI,if_pos (by omega)]
  exact List.getElem?_eq_getElem hlt
 rw [List.drop_eq_getElem_cons hlt,giveF] at hg
 obtain ⟨z,hz,hg⟩:=bnd hg
 refine SX.skip (SQ.thn (SX.seq (SX.block (SX.sr ?_))))
 refine SL.iaT 2 hnth (.r rfl) ty113 sz29 rfl rfl rfl fun g1 m1 cp1 hv1=>?_
 refine SL.ld (.r rfl) sc29 rfl (cell_rowT (sz:=1) (enc:=eU32) 2 0 (fun _=>rfl) rfl hv1 hnth rfl) ?_
 refine SL.asg (.r rfl) rfl (SL.nx (SX.region (SL.ld (.r rfl) sc24 rfl (cell_own 1 rfl rfl) (SL.mv (.r rfl) rfl ?_))))
 refine SL.heap (H':=vltO (⟨b0_,v0x1_,m0x5_,b0x0_,v0x0x4_,m0x0x5_,m0x0x6_⟩:VltB) v1 y.2.2.d++([_,_,_]++H)) ?_ (fun _ hw=>HpOk.rotN (A:=[_,_,_]) (B:=vltO (⟨b0_,v0x1_,m0x5_,b0x0_,v0x0x4_,m0x0x5_,m0x0x6_⟩:VltB) v1 y.2.2.d) (R:=H) hw)
 have hcon:=c_vv_Give (K:=K) (w0:=w0) (H:=([plC b4 (.func (.func 58) #[] #[vP b2 0,vP b0 0,vP b3 0]) vo y.2.1,own b0 (.cells #[vP b0_ 0] 24),rowT 29 1 ca eU32 y.2.2.tk]++H)++[marks D]) (b0_:=b0_) (v0x1_:=v0x1_) (m0x5_:=m0x5_) (b0x0_:=b0x0_) (v0x0x4_:=v0x0x4_) (m0x0x5_:=m0x0x5_) (m0x0x6_:=m0x0x6_) hz
 refine SL.call (vs:=[_,_]) (Hin:=vltO (⟨b0_,v0x1_,m0x5_,b0x0_,v0x0x4_,m0x0x5_,m0x0x6_⟩:VltB) v1 y.2.2.d) (Hr:=[_,_,_]++H) (.r rfl) rfl ⟨rfl,rfl,trivial⟩ cal59 rfl rfl hcon ?_
 rintro _ _ ⟨rfl,rfl⟩
 refine ⟨trivial,?_⟩
 refine SL.heap (H':=[_,_,_]++(vltO (⟨b0_,v0x1_,m0x5_,b0x0_,v0x0x4_,m0x0x5_,m0x0x6_⟩:VltB) z.2 y.2.2.d++H)) ?_ (fun _ hw=>HpOk.rotN (A:=vltO (⟨b0_,v0x1_,m0x5_,b0x0_,v0x0x4_,m0x0x5_,m0x0x6_⟩:VltB) z.2 y.2.2.d) (B:=[_,_,_]) (R:=H) hw)
 refine SL.nil (SQ.blk (SQ.thn (SX.region (SL.bin (.r rfl) rfl rfl (Bin.addI (by omega) (by omega)) (SL.mv (.r rfl) rfl (SL.nil ?_))))))
 exact SQ.again (i+1,z.2) ⟨hlt,hg⟩ (by dsimp only;omega) (by repeat' (first | exact trivial | refine And.intro rfl ?_)) (fun _ hw=>HpOk.pick (H:=[_,_,_]) hw [0,1,2] 3 rfl)
 have hge:i=y.2.2.tk.length:=by
  have:=of_decide_eq_false hc4
  omega
 subst hge
 rw [List.drop_length,giveF] at hg
 obtain rfl:v1=v':=Option.some.inj hg
 refine SX.exit (SQ.thnE (SQ.lpE (SQ.blkE (SQ.thn (SX.seq (SX.drawI mix [0] (Pl.ap [(true,0),(true,1),(true,2),(true,3),(true,4),(true,5)] .nil) (by kernel_rfl) (SL.mv (.r rfl) rfl (SL.nchk (.r rfl) rfl (SL.fa (.r rfl) rfl fo106_2 (SL.ld (.r rfl) sc32 rfl (cell_own 0 rfl rfl) (SL.asg (.r rfl) rfl (SL.asg (.r rfl) rfl (SL.nx (SX.ret (SQ.thnR (SQ.nilT 72 3 encSaved ?_))))))))))))))))
 exact SQ.fret (res2 rfl rfl rfl) (ret_of (M:=_::vltO (⟨b0_,v0x1_,m0x5_,b0x0_,v0x0x4_,m0x0x5_,m0x0x6_⟩:VltB) v1 y.2.2.d) ⟨_,rfl,rfl⟩ fun _ hw=>HpOk.pick (H:=[_,_,_,_]) hw [0] 4 rfl)
 replace h:=cF hc3 h
 obtain rfl:=Option.some.inj h
 refine SX.skip (SQ.thn (SX.sr (SL.mv (.r rfl) rfl (SL.nchk (.r rfl) rfl (SL.fa (.r rfl) rfl fo106_1 (SL.ld (.r rfl) sc36 rfl (cell_own 1 rfl rfl) (SL.asg (.r rfl) rfl (SL.asg (.r rfl) rfl (SL.nx (SX.ret ?_))))))))))
 exact SQ.fret (res2 rfl rfl rfl) (ret_of (M:=rowT 72 3 vo encSaved y.2.1.out::vltO (⟨b0_,v0x1_,m0x5_,b0x0_,v0x0x4_,m0x0x5_,m0x0x6_⟩:VltB) y.2.2.v y.2.2.d) ⟨_,rfl,rfl⟩ fun _ hw=>HpOk.pick (H:=[_,_,_,_,_,_,_,_,_,_,_,_,_,_,_,_]) hw [2,8,9,10,11,12,13,14] 16 rfl)
end Go.Proofs.YtkibffdipniemaaGreatDoor

/- What a reader of pages has. No condition. -/
namespace Go.Proofs.YtkibffdipniemaaGreatDoor
structure LdA where
 out:List SavedA
 rows:List RowA
 count:Int
end Go.Proofs.YtkibffdipniemaaGreatDoor

/- Plain functions of the references and the laws, printed from the loaded program, and the walks that show that the program computes them. Condition: the plain function yields. -/
namespace Go.Proofs.YtkibffdipniemaaGreatDoor
open Go
variable {K:Nat→Prop} {w0:World} {H:List Chunk}

def f_gpg_j2 (p1:RefA) (y1:List UInt8×Int) (o1:LdA):Option (Int×LdA):=
 (appL 40 o1.out [(⟨y1.1,p1.page,p1.tag⟩:SavedA)]).bind fun l4=>
 some (0,{ o1 with out:=l4 })
def f_gpg_l1_b (p0_1:VltA) (p0_2:DevA) (p1:RefA) (rec_:LdA→VltA→DevA→RefA→Option (Int×LdA)) (y1:List UInt8×Int) (l2:List RefA) (nx_f_gpg_l1:LdA×Int→Option (Int×LdA)) (o2:LdA) (a1:Int):Option (Int×LdA):=
 cond (decide (a1<(l2.length:Int)))
 (
  (nthI l2 a1).bind fun x1=>
  (rec_ o2 p0_1 p0_2 x1).bind fun y3=>
  cond (!decide (y3.1=0))
  (
   some (y3.1,y3.2))
  (
   nx_f_gpg_l1 (y3.2,wI (a1+1))))
 (
  f_gpg_j2 p1 y1 o2)
def f_gpg_l1 (p0_1:VltA) (p0_2:DevA) (p1:RefA) (rec_:LdA→VltA→DevA→RefA→Option (Int×LdA)) (y1:List UInt8×Int) (l2:List RefA):Nat→(LdA×Int)→Option (Int×LdA):=loopN fun nx x=>f_gpg_l1_b p0_1 p0_2 p1 rec_ y1 l2 nx x.1 x.2
def f_gpg_j1 (n:Nat) (p0:LdA) (p0_1:VltA) (p0_2:DevA) (p1:RefA) (rec_:LdA→VltA→DevA→RefA→Option (Int×LdA)) (y1:List UInt8×Int) (l1:List RowA) (l2:List RefA):Option (Int×LdA):=
 f_gpg_l1 p0_1 p0_2 p1 rec_ y1 l2 n ({ p0 with rows:=l1,count:=wI (p0.count+1) },0)
def f_gpg (rec_:LdA→VltA→DevA→RefA→Option (Int×LdA)) (n:Nat) (T:List UInt32) (p0:LdA) (p0_1:VltA) (p0_2:DevA) (p1:RefA):Option (Int×LdA):=
 cond (decide (p0.count=2100))
 (
  some (61,p0))
 (
  (f_vv_Read T p0_1 p0_2 p1).bind fun y1=>
  cond (!decide (y1.2=0))
  (
   some (y1.2,{ p0 with count:=wI (p0.count+1) }))
  (
   (f_rows_Decode n y1.1).bind fun y2=>
   cond (!decide (y2.2=0))
   (
    some (61,{ p0 with count:=wI (p0.count+1) }))
   (
    (appL 32 p0.rows y2.1.rows).bind fun l1=>
    cond (!(decide (y2.1.npage=0)&&(decide (y2.1.ntag=[])&&true)))
    (
     (appL 24 y2.1.kids [(⟨y2.1.npage,y2.1.ntag⟩:RefA)]).bind fun l3=>
     f_gpg_j1 n p0 p0_1 p0_2 p1 rec_ y1 l1 l3)
    (
     f_gpg_j1 n p0 p0_1 p0_2 p1 rec_ y1 l1 y2.1.kids))))
set_option maxHeartbeats 4000000 in
set_option maxRecDepth 100000 in
theorem c_gpg {rec_:LdA→VltA→DevA→RefA→Option (Int×LdA)} {n:Nat} {T:List UInt32} {b0_:Nat} {v0x1_:Value} {v0x2_:Value} {b0x0_:Nat} {v0x0x1_:Value} {m0x0x5_:Nat} {b0x0x0_:Nat} {v0x0x0x4_:Value} {m0x0x0x5_:Nat} {m0x0x0x6_:Nat} {p0:LdA} {p0_1:VltA} {p0_2:DevA} {p1:RefA} {r:Int×LdA} (h:f_gpg rec_ n T p0 p0_1 p0_2 p1=some r) (hS:ShaT K w0 T) (hrec:∀ {H:List Chunk} {b0_:Nat} {v0x1_:Value} {v0x2_:Value} {b0x0_:Nat} {v0x0x1_:Value} {m0x0x5_:Nat} {b0x0x0_:Nat} {v0x0x0x4_:Value} {m0x0x0x5_:Nat} {m0x0x0x6_:Nat} {p0:LdA} {p0_1:VltA} {p0_2:DevA} {p1:RefA} {r:Int×LdA},rec_ p0 p0_1 p0_2 p1=some r→Con Tryz.prog K w0 48 [vP b0_ 0,.agg (encRef p1).toArray] [own b0_ (.cells #[vP b0x0_ 0,v0x1_,v0x2_,vI p0.count] 99),rowT 72 3 v0x1_ encSaved p0.out,rowT 79 4 v0x2_ encRow p0.rows,own b0x0_ (.cells #[vP b0x0x0_ 0,v0x0x1_,vU32 p0_1.gen,vU32 p0_1.boot,vU64 p0_1.seals,.map (some m0x0x5_)] 96),rowT 138 2 v0x0x1_ encKey p0_1.ring,mapC m0x0x5_ vU32 vB p0_1.taken,own b0x0x0_ (.cells #[vB p0_2.off,vB p0_2.isCut,vI p0_2.lasts,vI p0_2.counts,v0x0x0x4_,.map (some m0x0x0x5_),.map (some m0x0x0x6_),vU64 p0_2.rcnt,vS p0_2.rtag,vU32 p0_2.rboots] 130),rowT 9 1 v0x0x0x4_ eS p0_2.blocks,mapC m0x0x0x5_ vU32 vS p0_2.pend,mapC m0x0x0x6_ vU32 vB p0_2.bad] H (fun u M=>∃vs0_0_1 vs0_0_2:Value,u=vI r.1∧M=[own b0_ (.cells #[vP b0x0_ 0,vs0_0_1,vs0_0_2,vI r.2.count] 99),rowT 72 3 vs0_0_1 encSaved r.2.out,rowT 79 4 vs0_0_2 encRow r.2.rows,own b0x0_ (.cells #[vP b0x0x0_ 0,v0x0x1_,vU32 p0_1.gen,vU32 p0_1.boot,vU64 p0_1.seals,.map (some m0x0x5_)] 96),rowT 138 2 v0x0x1_ encKey p0_1.ring,mapC m0x0x5_ vU32 vB p0_1.taken,own b0x0x0_ (.cells #[vB p0_2.off,vB p0_2.isCut,vI p0_2.lasts,vI p0_2.counts,v0x0x0x4_,.map (some m0x0x0x5_),.map (some m0x0x0x6_),vU64 p0_2.rcnt,vS p0_2.rtag,vU32 p0_2.rboots] 130),rowT 9 1 v0x0x0x4_ eS p0_2.blocks,mapC m0x0x0x5_ vU32 vS p0_2.pend,mapC m0x0x0x6_ vU32 vB p0_2.bad])):Con Tryz.prog K w0 48 [vP b0_ 0,.agg (encRef p1).toArray] [own b0_ (.cells #[vP b0x0_ 0,v0x1_,v0x2_,vI p0.count] 99),rowT 72 3 v0x1_ encSaved p0.out,rowT 79 4 v0x2_ encRow p0.rows,own b0x0_ (.cells #[vP b0x0x0_ 0,v0x0x1_,vU32 p0_1.gen,vU32 p0_1.boot,vU64 p0_1.seals,.map (some m0x0x5_)] 96),rowT 138 2 v0x0x1_ encKey p0_1.ring,mapC m0x0x5_ vU32 vB p0_1.taken,own b0x0x0_ (.cells #[vB p0_2.off,vB p0_2.isCut,vI p0_2.lasts,vI p0_2.counts,v0x0x0x4_,.map (some m0x0x0x5_),.map (some m0x0x0x6_),vU64 p0_2.rcnt,vS p0_2.rtag,vU32 p0_2.rboots] 130),rowT 9 1 v0x0x0x4_ eS p0_2.blocks,mapC m0x0x0x5_ vU32 vS p0_2.pend,mapC m0x0x0x6_ vU32 vB p0_2.bad] H (fun u M=>∃vs0_0_1 vs0_0_2:Value,u=vI r.1∧M=[own b0_ (.cells #[vP b0x0_ 0,vs0_0_1,vs0_0_2,vI r.2.count] 99),rowT 72 3 vs0_0_1 encSaved r.2.out,rowT 79 4 vs0_0_2 encRow r.2.rows,own b0x0_ (.cells #[vP b0x0x0_ 0,v0x0x1_,vU32 p0_1.gen,vU32 p0_1.boot,vU64 p0_1.seals,.map (some m0x0x5_)] 96),rowT 138 2 v0x0x1_ encKey p0_1.ring,mapC m0x0x5_ vU32 vB p0_1.taken,own b0x0x0_ (.cells #[vB p0_2.off,vB p0_2.isCut,vI p0_2.lasts,vI p0_2.counts,v0x0x0x4_,.map (some m0x0x0x5_),.map (some m0x0x0x6_),vU64 p0_2.rcnt,vS p0_2.rtag,vU32 p0_2.rboots] 130),rowT 9 1 v0x0x0x4_ eS p0_2.blocks,mapC m0x0x0x5_ vU32 vS p0_2.pend,mapC m0x0x0x6_ vU32 vB p0_2.bad]):=by
 unfold f_gpg at h
 refine Con.enter Tryz.func48 rfl rfl ?_
 refine SX.sr ?_
 refine SL.box (.r rfl) rfl (fun _=>trivial) fun b1=>?_
 refine SL.asg (.r rfl) rfl (SL.nx (SX.seq (SX.sr (SL.mv (.r rfl) rfl (SL.nchk (.r rfl) rfl (SL.fa (.r rfl) rfl fo99_3 (SL.ld (.r rfl) sc3 rfl (cell_own 1 rfl rfl) (SL.bin (.r rfl) rfl rfl Bin.eqI (SL.nx ?_)))))))))
 refine SX.cond rfl (fun hc1=>?_) (fun hc1=>?_)
 replace h:=cT hc1 h
 refine SX.sr (SL.asg (.r rfl) rfl (SL.nx (SX.ret (SQ.thnR ?_))))
 obtain rfl:=Option.some.inj h
 exact SQ.fret (res1 rfl rfl) (ret_of (M:=[_,_,_,_,_,_,_,_,_,_]) ⟨v0x1_,v0x2_,rfl,rfl⟩ fun _ hw=>HpOk.pick (H:=[_,_,_,_,_,_,_,_,_,_,_]) hw [1,2,3,4,5,6,7,8,9,10] 11 rfl)
 replace h:=cF hc1 h
 refine SX.skip (SQ.thn (SX.sr (SL.mv (.r rfl) rfl (SL.nchk (.r rfl) rfl (SL.fa (.r rfl) rfl fo99_3 (SL.ld (.r rfl) sc3 rfl (cell_own 1 rfl rfl) (SL.bin (.r rfl) rfl rfl Bin.addW (SL.nchk (.r rfl) rfl (SL.fa (.r rfl) rfl fo99_3 (SL.st 1 ⟨rfl,rfl,rfl⟩ rfl rfl rfl sz3 rfl rfl rfl trivial (SL.nx (SX.seq ?_))))))))))))
 obtain ⟨y1,hy1,h⟩:=bnd h
 refine SX.drawI mix [0,1] (Pl.ap [(true,0),(true,1),(true,2),(true,3),(true,4),(false,5),(false,6),(true,7),(true,8),(false,9)] (.last 10 .nil)) (by kernel_rfl) (SL.mv (.r rfl) rfl (SL.nchk (.r rfl) rfl (SL.fa (.r rfl) rfl fo99_0 (SL.ld (.r rfl) sc24 rfl (cell_own 1 rfl rfl) (SL.ldA [vU32 p1.page,vS p1.tag] (.r rfl) ag31 rfl rfl (cells_all 0 rfl) (SL.pick [4,5,6,7,8,9,10,0,1,2,3] 11 ?_))))))
 refine SL.call (vs:=[_,_]) (Hin:=[_,_,_,_,_,_,_]) (Hr:=_::_::_::_::_) (.r rfl) rfl ⟨rfl,rfl,trivial⟩ cal81 rfl rfl ((c_vv_Read hy1 hS :)) ?_
 rintro _ _ ⟨rfl,rfl⟩
 refine ⟨⟨⟨7,rfl⟩,⟨8,rfl⟩,trivial⟩,?_⟩
 refine SL.mv (.r rfl) rfl (SL.ext (.r rfl) rfl rfl (SL.ext (.r rfl) rfl rfl (SL.asg (.r rfl) rfl (SL.last (SL.asg (.r rfl) rfl (SL.nx (SX.seq (SX.sr (SL.mv (.r rfl) rfl (SL.bin (.r rfl) rfl rfl Bin.neI (SL.nx ?_)))))))))))
 refine SX.cond rfl (fun hc2=>?_) (fun hc2=>?_)
 replace h:=cT hc2 h
 refine SX.sr (SL.mv (.r rfl) rfl (SL.asg (.r rfl) rfl (SL.nx (SX.ret (SQ.thnR ?_)))))
 obtain rfl:=Option.some.inj h
 exact SQ.fret (res1 rfl rfl) (ret_of (M:=[_,_,_,_,_,_,_,_,_,_]) ⟨v0x1_,v0x2_,rfl,rfl⟩ fun _ hw=>HpOk.pick (H:=[_,_,_,_,_,_,_,_,_,_,_]) hw [8,9,10,0,1,2,3,4,5,6] 11 rfl)
 replace h:=cF hc2 h
 refine SX.skip (SQ.thn (SX.sr ?_))
 obtain ⟨y2,hy2,h⟩:=bnd h
 refine SL.mv (.r rfl) rfl ?_
 refine SL.call (vs:=[_]) (Hin:=[]) (Hr:=_::_::_::_::_::_::_::_::_::_::_::_) (.r rfl) rfl ⟨rfl,trivial⟩ cal82 rfl rfl (c_rows_Decode hy2) ?_
 rintro _ _ ⟨v1,v2,rfl,rfl⟩
 refine ⟨trivial,?_⟩
 refine SL.mv (.r rfl) rfl (SL.ext (.r rfl) rfl rfl (SL.ext (.r rfl) rfl rfl ?_))
 refine SL.alloc (.r rfl) ze148 (fun _=>trivial) fun b2=>?_
 refine SL.nilT 79 4 encRow (SL.nilT 31 2 encRef ?_)
 refine SL.rowV 3 rfl fun hv1 ho1=>?_
 refine SL.rowV 4 rfl fun hv2 ho2=>?_
 refine SL.st 2 ⟨rfl,rfl,rfl⟩ rfl rfl rfl sz148 rfl (by simp only [Value.oneCell'] at ho1 ho2;simp [Value.cells,Value.cells,Value.oneCell',ho1,ho2]) rfl trivial (SL.reAt 2 (own b2 (.cells #[vI y2.1.kind,vU32 y2.1.cx,vU32 y2.1.cy,vI y2.1.lev,v1,v2,vU32 y2.1.npage,vS y2.1.ntag] 148)) (SL.asg (.r rfl) rfl (SL.nx (SX.seq (SX.sr (SL.mv (.r rfl) rfl (SL.bin (.r rfl) rfl rfl Bin.neI (SL.nx ?_))))))))
 refine SX.cond rfl (fun hc3=>?_) (fun hc3=>?_)
 replace h:=cT hc3 h
 refine SX.sr (SL.asg (.r rfl) rfl (SL.nx (SX.ret (SQ.thnR ?_))))
 obtain rfl:=Option.some.inj h
 exact SQ.fret (res1 rfl rfl) (ret_of (M:=[_,_,_,_,_,_,_,_,_,_]) ⟨v0x1_,v0x2_,rfl,rfl⟩ fun _ hw=>HpOk.pick (H:=[_,_,_,_,_,_,_,_,_,_,_,_,_,_,_,_]) hw [13,14,15,5,6,7,8,9,10,11] 16 rfl)
 replace h:=cF hc3 h
 refine SX.skip (SQ.thn (SX.seq ?_))
 obtain ⟨l1,hl1,h⟩:=bnd h
 refine SX.drawI mix [2,13] (Pl.ap [(true,0),(true,1),(true,2),(true,3),(true,4),(true,5),(true,6),(false,7),(true,8),(true,9)] (.last 10 .nil)) (by kernel_rfl) (SL.mv (.r rfl) rfl (SL.mv (.r rfl) rfl (SL.nchk (.r rfl) rfl (SL.fa (.r rfl) rfl fo99_2 (SL.ld (.r rfl) sc35 rfl (cell_own 1 rfl rfl) (SL.fa (.r rfl) rfl fo148_2 (SL.ld (.r rfl) sc35 rfl (cell_own 0 rfl rfl) ?_)))))))
 refine SL.appR 15 3 hl1 (sz:=4) (enc:=encRow) (fun _=>rfl) (.r rfl) ty35 sz79 by79 ze79 rfl (by decide) rfl rfl rfl rfl (by simp [encRow,Value.oneCell']) (fun _=>⟨⟨2,rfl⟩,⟨13,rfl⟩,trivial⟩) fun v3=>?_
 refine SL.nchk (.r rfl) rfl (SL.fa (.r rfl) rfl fo99_2 (SL.last ?_))
 refine SL.rowV 15 rfl fun hv3 ho3=>?_
 refine SL.stR 13 ⟨rfl,rfl,rfl⟩ rfl rfl rfl sz35 hv3 ho3 rfl trivial (SL.nx (SX.sr (SL.fa (.r rfl) rfl fo148_3 (SL.ld (.r rfl) sc146 rfl (cell_own 2 rfl rfl) (SL.asg (.r rfl) rfl (SL.nx ?_))))))
 refine SX.meetD (α:=List RefA×Value) (fun x=>f_gpg_j1 n p0 p0_1 p0_2 p1 rec_ y1 l1 x.1=some r) (fun x=>[(0,vP b0_ 0),(3,vP b1 0),(5,vS y1.1),(8,x.2)]) (fun x=>own b0_ (.cells #[vP b0x0_ 0,v0x1_,v3,vI (wI (p0.count+1))] 99)::own b0x0_ (.cells #[vP b0x0x0_ 0,v0x0x1_,vU32 p0_1.gen,vU32 p0_1.boot,vU64 p0_1.seals,.map (some m0x0x5_)] 96)::own b0x0x0_ (.cells #[vB p0_2.off,vB p0_2.isCut,vI p0_2.lasts,vI p0_2.counts,v0x0x0x4_,.map (some m0x0x0x5_),.map (some m0x0x0x6_),vU64 p0_2.rcnt,vS p0_2.rtag,vU32 p0_2.rboots] 130)::rowT 9 1 v0x0x0x4_ eS p0_2.blocks::mapC m0x0x0x5_ vU32 vS p0_2.pend::mapC m0x0x0x6_ vU32 vB p0_2.bad::rowT 138 2 v0x0x1_ encKey p0_1.ring::mapC m0x0x5_ vU32 vB p0_1.taken::rowT 72 3 v0x1_ encSaved p0.out::rowT 79 4 v3 encRow l1::own b1 (.cells #[vU32 p1.page,vS p1.tag] 31)::rowT 31 2 x.2 encRef x.1::H) ?_ (fun x D h=>?_)
 refine SX.sr (SL.fa (.r rfl) rfl fo148_4 (SL.ldA [vU32 y2.1.npage,vS y2.1.ntag] (.r rfl) ag31 rfl rfl (cells_own 2 rfl (by rintro (_ | (_ | j)) u hj<;>first | exact hj | exact absurd hj (by simp))) (SL.bld [] (.r rfl) pl31 pk31 ze31 trivial rfl ?_)))
 refine SL.neAgg (.r rfl) fl31 rfl rfl (flatE_cons rfl rfl (eqV_32 (a:=y2.1.npage) (b:=0)) (flatE_cons rfl rfl (eqV_S (a:=y2.1.ntag) (b:=[])) flatE_nil)) ?_
 refine SL.nx ?_
 refine SX.cond rfl (fun hc4=>?_) (fun hc4=>?_)
 replace h:=cT hc4 h
 refine SX.region ?_
 obtain ⟨l3,hl3,h⟩:=bnd h
 refine SL.mv (.r rfl) rfl (SL.fa (.r rfl) rfl fo148_4 (SL.ldA [vU32 y2.1.npage,vS y2.1.ntag] (.r rfl) ag31 rfl rfl (cells_own 2 rfl (by rintro (_ | (_ | j)) u hj<;>first | exact hj | exact absurd hj (by simp))) ?_))
 refine SL.bsl [_] (.r rfl) ty146 sz31 ze31 ⟨rfl,trivial⟩ rfl rfl rfl (by first | (simp [Value.cells];done) | (intro v hv;simp only [List.mem_cons,List.not_mem_nil,or_false] at hv;rcases hv with rfl<;>rfl)) rfl rfl (fun _=>trivial) fun b3=>?_
 refine SL.ownT encRef 2 ([(⟨y2.1.npage,y2.1.ntag⟩:RefA)]:List RefA) rfl (fun _=>rfl) rfl ?_
 refine SL.appT 5 hl3 (sz:=2) (enc:=encRef) (fun _=>rfl) (.r rfl) ty146 sz31 by31 ze31 rfl (by decide) rfl rfl rfl rfl (cells_rowA (sz:=2) (enc:=encRef) 0 (fun _=>rfl) rfl) (by simp [encRef,Value.oneCell']) (fun _=>trivial) fun v5=>?_
 refine SL.asg (.r rfl) rfl (SL.nil ?_)
 exact SQ.midD (l3,v5) h (by repeat' (first | exact trivial | refine And.intro rfl ?_)) (fun _ hw=>HpOk.pick (H:=[_,_,_,_,_,_,_,_,_,_,_,_,_,_,_,_,_]) hw [14,6,9,10,11,12,7,8,15,16,13,5] 17 rfl)
 replace h:=cF hc4 h
 refine SX.skip ?_
 exact SQ.midD (y2.1.kids,v2) h (by repeat' (first | exact trivial | refine And.intro rfl ?_)) (fun _ hw=>HpOk.pick (H:=[_,_,_,_,_,_,_,_,_,_,_,_,_,_,_,_]) hw [13,5,8,9,10,11,6,7,14,15,12,4] 16 rfl)
 obtain ⟨l2,v4⟩:=x
 dsimp only at h
 unfold f_gpg_j1 at h
 refine SX.re [(0,vP b0_ 0),(3,vP b1 0),(5,vS y1.1),(8,v4)] (own b0_ (.cells #[vP b0x0_ 0,v0x1_,v3,vI (wI (p0.count+1))] 99)::own b0x0_ (.cells #[vP b0x0x0_ 0,v0x0x1_,vU32 p0_1.gen,vU32 p0_1.boot,vU64 p0_1.seals,.map (some m0x0x5_)] 96)::own b0x0x0_ (.cells #[vB p0_2.off,vB p0_2.isCut,vI p0_2.lasts,vI p0_2.counts,v0x0x0x4_,.map (some m0x0x0x5_),.map (some m0x0x0x6_),vU64 p0_2.rcnt,vS p0_2.rtag,vU32 p0_2.rboots] 130)::rowT 9 1 v0x0x0x4_ eS p0_2.blocks::mapC m0x0x0x5_ vU32 vS p0_2.pend::mapC m0x0x0x6_ vU32 vB p0_2.bad::rowT 138 2 v0x0x1_ encKey p0_1.ring::mapC m0x0x5_ vU32 vB p0_1.taken::rowT 72 3 v0x1_ encSaved p0.out::rowT 79 4 v3 encRow l1::own b1 (.cells #[vU32 p1.page,vS p1.tag] 31)::rowT 31 2 v4 encRef l2::H) ?_ (by repeat' (first | exact trivial | refine And.intro rfl ?_))
 refine SX.meetD (α:=LdA×Value×Value) (fun x=>f_gpg_j2 p1 y1 x.1=some r) (fun x=>[(0,vP b0_ 0),(3,vP b1 0),(5,vS y1.1)]) (fun x=>own b0_ (.cells #[vP b0x0_ 0,x.2.1,x.2.2,vI x.1.count] 99)::own b0x0_ (.cells #[vP b0x0x0_ 0,v0x0x1_,vU32 p0_1.gen,vU32 p0_1.boot,vU64 p0_1.seals,.map (some m0x0x5_)] 96)::own b0x0x0_ (.cells #[vB p0_2.off,vB p0_2.isCut,vI p0_2.lasts,vI p0_2.counts,v0x0x0x4_,.map (some m0x0x0x5_),.map (some m0x0x0x6_),vU64 p0_2.rcnt,vS p0_2.rtag,vU32 p0_2.rboots] 130)::rowT 9 1 v0x0x0x4_ eS p0_2.blocks::mapC m0x0x0x5_ vU32 vS p0_2.pend::mapC m0x0x0x6_ vU32 vB p0_2.bad::rowT 138 2 v0x0x1_ encKey p0_1.ring::mapC m0x0x5_ vU32 vB p0_1.taken::rowT 72 3 x.2.1 encSaved x.1.out::rowT 79 4 x.2.2 encRow x.1.rows::own b1 (.cells #[vU32 p1.page,vS p1.tag] 31)::H) ?_ (fun x D h=>?_)
 refine SX.sr (SL.mv (.r rfl) rfl (SL.lenT 11 (.r rfl) ty146 rfl rfl (SL.mv (.r rfl) rfl (SL.nx (SX.block ?_)))))
 refine SX.heap (SX.mono (SX.loop (α:=Nat×LdA×Value×Value×Int) (fun x=>f_gpg_l1 p0_1 p0_2 p1 rec_ y1 l2 x.1 (x.2.1,x.2.2.2.2)=some r) (fun x=>[(0,vP b0_ 0),(3,vP b1 0),(5,vS y1.1),(64,v4),(65,vI (l2.length:Int)),(66,vI x.2.2.2.2)]) (fun x=>own b0_ (.cells #[vP b0x0_ 0,x.2.2.1,x.2.2.2.1,vI x.2.1.count] 99)::own b0x0_ (.cells #[vP b0x0x0_ 0,v0x0x1_,vU32 p0_1.gen,vU32 p0_1.boot,vU64 p0_1.seals,.map (some m0x0x5_)] 96)::own b0x0x0_ (.cells #[vB p0_2.off,vB p0_2.isCut,vI p0_2.lasts,vI p0_2.counts,v0x0x0x4_,.map (some m0x0x0x5_),.map (some m0x0x0x6_),vU64 p0_2.rcnt,vS p0_2.rtag,vU32 p0_2.rboots] 130)::rowT 9 1 v0x0x0x4_ eS p0_2.blocks::mapC m0x0x0x5_ vU32 vS p0_2.pend::mapC m0x0x0x6_ vU32 vB p0_2.bad::rowT 138 2 v0x0x1_ encKey p0_1.ring::mapC m0x0x5_ vU32 vB p0_1.taken::rowT 72 3 x.2.2.1 encSaved x.2.1.out::rowT 79 4 x.2.2.2.1 encRow x.2.1.rows::own b1 (.cells #[vU32 p1.page,vS p1.tag] 31)::rowT 31 2 v4 encRef l2::H) (fun x=>x.1) (fun x D h=>?_) (n,{ p0 with rows:=l1,count:=wI (p0.count+1) },v0x1_,v3,0) h) (by repeat' (first | exact trivial | refine And.intro rfl ?_))) (fun _ hw=>HpOk.pick (H:=[_,_,_,_,_,_,_,_,_,_,_,_]) hw [0,1,2,3,4,5,6,7,8,9,10,11] 12 rfl)
 obtain ⟨m1,o2,v8,v9,a1⟩:=x
 dsimp only at h
 rcases m1 with _ | m1
 cases (show (none:Option _)=some r from h)
 replace h:f_gpg_l1_b p0_1 p0_2 p1 rec_ y1 l2 (f_gpg_l1 p0_1 p0_2 p1 rec_ y1 l2 m1) o2 a1=some r:=h
 unfold f_gpg_l1_b at h
 refine SX.re [(0,vP b0_ 0),(3,vP b1 0),(5,vS y1.1),(64,v4),(65,vI (l2.length:Int)),(66,vI a1)] (own b0_ (.cells #[vP b0x0_ 0,v8,v9,vI o2.count] 99)::own b0x0_ (.cells #[vP b0x0x0_ 0,v0x0x1_,vU32 p0_1.gen,vU32 p0_1.boot,vU64 p0_1.seals,.map (some m0x0x5_)] 96)::own b0x0x0_ (.cells #[vB p0_2.off,vB p0_2.isCut,vI p0_2.lasts,vI p0_2.counts,v0x0x0x4_,.map (some m0x0x0x5_),.map (some m0x0x0x6_),vU64 p0_2.rcnt,vS p0_2.rtag,vU32 p0_2.rboots] 130)::rowT 9 1 v0x0x0x4_ eS p0_2.blocks::mapC m0x0x0x5_ vU32 vS p0_2.pend::mapC m0x0x0x6_ vU32 vB p0_2.bad::rowT 138 2 v0x0x1_ encKey p0_1.ring::mapC m0x0x5_ vU32 vB p0_1.taken::rowT 72 3 v8 encSaved o2.out::rowT 79 4 v9 encRow o2.rows::own b1 (.cells #[vU32 p1.page,vS p1.tag] 31)::rowT 31 2 v4 encRef l2::H) ?_ (by repeat' (first | exact trivial | refine And.intro rfl ?_))
 refine SX.sr (SL.bin (.r rfl) rfl rfl Bin.ltI (SL.nx (SX.seq ?_)))
 refine SX.cond rfl (fun hc5=>?_) (fun hc5=>?_)
 replace h:=cT hc5 h
 refine SX.skip (SQ.thn (SX.seq (SX.block (SX.sr ?_))))
 obtain ⟨x1,hx1,h⟩:=bnd h
 refine SL.iaT 11 hx1 (.r rfl) ty146 sz31 rfl rfl rfl fun g1 m2 cp1 hv4=>?_
 refine SL.ldA (encRef x1) (.r rfl) ag31 rfl rfl (cells_rowT (sz:=2) (enc:=encRef) 11 (fun _=>rfl) rfl hv4 hx1) ?_
 refine SL.alloc (.r rfl) ze31 (fun _=>trivial) fun b4=>?_
 refine SL.st 0 ⟨rfl,rfl,rfl⟩ rfl rfl rfl sz31 rfl rfl rfl trivial (SL.nx (SX.sr ?_))
 obtain ⟨y3,hy3,h⟩:=bnd h
 refine SL.mv (.r rfl) rfl (SL.ldA [vU32 x1.page,vS x1.tag] (.r rfl) ag31 rfl rfl (cells_all 0 rfl) (SL.pick [1,9,10,2,7,8,3,4,5,6,0] 11 ?_))
 refine SL.call (vs:=[_,_]) (Hin:=[_,_,_,_,_,_,_,_,_,_]) (Hr:=_::_::_::_) (.r rfl) rfl ⟨rfl,rfl,trivial⟩ cal48 rfl rfl ((hrec hy3 :)) ?_
 rintro _ _ ⟨v10,v11,rfl,rfl⟩
 refine ⟨trivial,?_⟩
 refine SL.asg (.r rfl) rfl (SL.nx (SX.sr (SL.mv (.r rfl) rfl (SL.bin (.r rfl) rfl rfl Bin.neI (SL.nx ?_)))))
 refine SX.cond rfl (fun hc6=>?_) (fun hc6=>?_)
 replace h:=cT hc6 h
 refine SX.sr (SL.mv (.r rfl) rfl (SL.asg (.r rfl) rfl (SL.nx (SX.ret (SQ.blkR (SQ.thnR (SQ.lpR (SQ.blkR (SQ.midDR ?_)))))))))
 obtain rfl:=Option.some.inj h
 exact SQ.fret (res1 rfl rfl) (ret_of (M:=[_,_,_,_,_,_,_,_,_,_]) ⟨v10,v11,rfl,rfl⟩ fun _ hw=>HpOk.pick (H:=[_,_,_,_,_,_,_,_,_,_,_,_,_]) hw [0,1,2,3,4,5,6,7,8,9] 13 rfl)
 replace h:=cF hc6 h
 refine SX.skip (SQ.blk (SQ.thn (SX.region (SL.bin (.r rfl) rfl rfl Bin.addW (SL.mv (.r rfl) rfl (SL.nil ?_))))))
 exact SQ.again (m1,y3.2,v10,v11,wI (a1+1)) h (Nat.lt_succ_self _) (by repeat' (first | exact trivial | refine And.intro rfl ?_)) (fun _ hw=>HpOk.pick (H:=[_,_,_,_,_,_,_,_,_,_,_,_,_]) hw [0,3,6,7,8,9,4,5,1,2,11,12] 13 rfl)
 replace h:=cF hc5 h
 refine SX.exit (SQ.thnE (SQ.lpE (SQ.blkE ?_)))
 exact SQ.midD (o2,v8,v9) h (by repeat' (first | exact trivial | refine And.intro rfl ?_)) (fun _ hw=>HpOk.pick (H:=[_,_,_,_,_,_,_,_,_,_,_,_]) hw [0,1,2,3,4,5,6,7,8,9,10] 12 rfl)
 obtain ⟨o1,v6,v7⟩:=x
 dsimp only at h
 unfold f_gpg_j2 at h
 refine SX.re [(0,vP b0_ 0),(3,vP b1 0),(5,vS y1.1)] (own b0_ (.cells #[vP b0x0_ 0,v6,v7,vI o1.count] 99)::own b0x0_ (.cells #[vP b0x0x0_ 0,v0x0x1_,vU32 p0_1.gen,vU32 p0_1.boot,vU64 p0_1.seals,.map (some m0x0x5_)] 96)::own b0x0x0_ (.cells #[vB p0_2.off,vB p0_2.isCut,vI p0_2.lasts,vI p0_2.counts,v0x0x0x4_,.map (some m0x0x0x5_),.map (some m0x0x0x6_),vU64 p0_2.rcnt,vS p0_2.rtag,vU32 p0_2.rboots] 130)::rowT 9 1 v0x0x0x4_ eS p0_2.blocks::mapC m0x0x0x5_ vU32 vS p0_2.pend::mapC m0x0x0x6_ vU32 vB p0_2.bad::rowT 138 2 v0x0x1_ encKey p0_1.ring::mapC m0x0x5_ vU32 vB p0_1.taken::rowT 72 3 v6 encSaved o1.out::rowT 79 4 v7 encRow o1.rows::own b1 (.cells #[vU32 p1.page,vS p1.tag] 31)::H) ?_ (by repeat' (first | exact trivial | refine And.intro rfl ?_))
 refine SX.seq ?_
 obtain ⟨l4,hl4,h⟩:=bnd h
 refine SX.drawI mix [0,10] (Pl.ap [(true,0),(true,1),(true,2),(true,3),(true,4),(true,5),(true,6),(true,7),(false,8),(false,9),(true,10),(true,11)] (.last 12 .nil)) (by kernel_rfl) (SL.mv (.r rfl) rfl (SL.mv (.r rfl) rfl (SL.nchk (.r rfl) rfl (SL.fa (.r rfl) rfl fo99_1 (SL.ld (.r rfl) sc36 rfl (cell_own 0 rfl rfl) (SL.mv (.r rfl) rfl (SL.ldA [vU32 p1.page,vS p1.tag] (.r rfl) ag31 rfl rfl (cells_all 1 rfl) ?_)))))))
 refine SL.bld [_,_] (.r rfl) pl72 pk72 ze72 ⟨rfl,rfl,trivial⟩ rfl ?_
 refine SL.bsl [_] (.r rfl) ty36 sz72 ze72 ⟨rfl,trivial⟩ rfl rfl rfl (by first | (simp [Value.cells];done) | (intro v hv;simp only [List.mem_cons,List.not_mem_nil,or_false] at hv;rcases hv with rfl<;>rfl)) rfl rfl (fun _=>⟨⟨1,rfl⟩,⟨11,rfl⟩,trivial⟩) fun b5=>?_
 refine SL.ownT encSaved 3 ([(⟨y1.1,p1.page,p1.tag⟩:SavedA)]:List SavedA) rfl (fun _=>rfl) rfl ?_
 refine SL.appT 9 hl4 (sz:=3) (enc:=encSaved) (fun _=>rfl) (.r rfl) ty36 sz72 by72 ze72 rfl (by decide) rfl rfl rfl rfl (cells_rowA (sz:=3) (enc:=encSaved) 0 (fun _=>rfl) rfl) (by simp [encSaved,Value.oneCell']) (fun _=>⟨⟨1,rfl⟩,⟨11,rfl⟩,trivial⟩) fun v12=>?_
 refine SL.nchk (.r rfl) rfl (SL.fa (.r rfl) rfl fo99_1 (SL.last ?_))
 refine SL.rowV 9 rfl fun hv5 ho4=>?_
 refine SL.stR 1 ⟨rfl,rfl,rfl⟩ rfl rfl rfl sz36 hv5 ho4 rfl trivial (SL.nx (SX.sr (SL.asg (.r rfl) rfl (SL.nx (SX.ret ?_)))))
 obtain rfl:=Option.some.inj h
 exact SQ.fret (res1 rfl rfl) (ret_of (M:=[_,_,_,_,_,_,_,_,_,_]) ⟨v12,v7,rfl,rfl⟩ fun _ hw=>HpOk.pick (H:=[_,_,_,_,_,_,_,_,_,_,_,_]) hw [1,9,10,2,7,8,3,4,5,6] 12 rfl)


end Go.Proofs.YtkibffdipniemaaGreatDoor

/- grove.reader.page, tied; where grove.Load says that a page is. Condition: the plain functions yield. -/
namespace Go.Proofs.YtkibffdipniemaaGreatDoor
open Go
variable {K:Nat→Prop} {w0:World} {H:List Chunk}

def pgF (n:Nat) (T:List UInt32):Nat→LdA→VltA→DevA→RefA→Option (Int×LdA)
 | 0=>fun _ _ _ _=>none
 | f+1=>f_gpg (pgF n T f) n T
theorem c_pgF (n:Nat) (T:List UInt32):∀(f:Nat) {K:Nat→Prop} {w0:World} {H:List Chunk} {b0_:Nat} {v0x1_:Value} {v0x2_:Value} {b0x0_:Nat} {v0x0x1_:Value} {m0x0x5_:Nat} {b0x0x0_:Nat} {v0x0x0x4_:Value} {m0x0x0x5_:Nat} {m0x0x0x6_:Nat} {p0:LdA} {p0_1:VltA} {p0_2:DevA} {p1:RefA} {r:Int×LdA},pgF n T f p0 p0_1 p0_2 p1=some r→ShaT K w0 T→Con Tryz.prog K w0 48 [vP b0_ 0,.agg (encRef p1).toArray] [own b0_ (.cells #[vP b0x0_ 0,v0x1_,v0x2_,vI p0.count] 99),rowT 72 3 v0x1_ encSaved p0.out,rowT 79 4 v0x2_ encRow p0.rows,own b0x0_ (.cells #[vP b0x0x0_ 0,v0x0x1_,vU32 p0_1.gen,vU32 p0_1.boot,vU64 p0_1.seals,.map (some m0x0x5_)] 96),rowT 138 2 v0x0x1_ encKey p0_1.ring,mapC m0x0x5_ vU32 vB p0_1.taken,own b0x0x0_ (.cells #[vB p0_2.off,vB p0_2.isCut,vI p0_2.lasts,vI p0_2.counts,v0x0x0x4_,.map (some m0x0x0x5_),.map (some m0x0x0x6_),vU64 p0_2.rcnt,vS p0_2.rtag,vU32 p0_2.rboots] 130),rowT 9 1 v0x0x0x4_ eS p0_2.blocks,mapC m0x0x0x5_ vU32 vS p0_2.pend,mapC m0x0x0x6_ vU32 vB p0_2.bad] H (fun u M=>∃vs0_0_1 vs0_0_2:Value,u=vI r.1∧M=[own b0_ (.cells #[vP b0x0_ 0,vs0_0_1,vs0_0_2,vI r.2.count] 99),rowT 72 3 vs0_0_1 encSaved r.2.out,rowT 79 4 vs0_0_2 encRow r.2.rows,own b0x0_ (.cells #[vP b0x0x0_ 0,v0x0x1_,vU32 p0_1.gen,vU32 p0_1.boot,vU64 p0_1.seals,.map (some m0x0x5_)] 96),rowT 138 2 v0x0x1_ encKey p0_1.ring,mapC m0x0x5_ vU32 vB p0_1.taken,own b0x0x0_ (.cells #[vB p0_2.off,vB p0_2.isCut,vI p0_2.lasts,vI p0_2.counts,v0x0x0x4_,.map (some m0x0x0x5_),.map (some m0x0x0x6_),vU64 p0_2.rcnt,vS p0_2.rtag,vU32 p0_2.rboots] 130),rowT 9 1 v0x0x0x4_ eS p0_2.blocks,mapC m0x0x0x5_ vU32 vS p0_2.pend,mapC m0x0x0x6_ vU32 vB p0_2.bad])
 | 0,_,_,_,_,_,_,_,_,_,_,_,_,_,_,_,_,_,_,h,_=>by cases h
 | f+1,_,_,_,_,_,_,_,_,_,_,_,_,_,_,_,_,_,_,h,hS=>c_gpg h hS (fun h=>c_pgF n T f h hS)
def ldWh (outs:List SavedA):WhO Int:=fun q s=>
 (orO (decide (q=(outs.length:Int))) ((nthI outs q).bind fun x=>some (!decide (x.txt=s)))).bind fun c=>
  cond c (some ((⟨0,[]⟩,61),q)) ((nthI outs (wI (wI (q+1)-1))).bind fun x=>some ((⟨x.page,x.tag⟩,0),wI (q+1)))
abbrev ldC (ba bx br:Nat) (vv vo vr:Value) (cnt:Int) (outs:List SavedA) (_:Value) (q:Int):List Chunk:=
 [own ba (.cells #[vI q] 3),own bx (.cells #[vP br 0] 97),own br (.cells #[vv,vo,vr,vI cnt] 99),rowT 72 3 vo encSaved outs]
set_option maxHeartbeats 4000000 in
set_option maxRecDepth 100000 in
theorem c_load2 {T:List UInt32} {ba bx br:Nat} {vv vo vr:Value} {cnt:Int} {outs:List SavedA}:WhCon T 52 #[vP ba 0,vP bx 0] (ldC ba bx br vv vo vr cnt outs) (ldWh outs):=by
 intro K w0 H a q s r hS h
 unfold ldWh at h
 obtain ⟨c,hc,h⟩:=bnd h
 refine Con.enter Tryz.func52 rfl rfl ?_
 show SX _ _ _ _ _ _ _ _ _ (ldC ba bx br vv vo vr cnt outs a q++H)
 refine SX.sr ?_
 refine SL.alloc (.r rfl) ze31 (fun _=>trivial) fun b0=>?_
 refine SL.asg (.r rfl) rfl (SL.nx (SX.seq (SX.seq (SX.drawI mix [1,2,3,4] (Pl.of [(true,0),(true,1),(true,2),(true,3),(true,4),(true,5),(true,6),(true,7),(true,8),(true,9),(true,10),(true,11),(true,12),(true,13),(true,14),(true,15),(true,16),(true,17),(true,18)]) (by kernel_rfl) (SL.ld (.r rfl) sc3 rfl (cell_own 0 rfl rfl) (SL.ld (.r rfl) sc97 rfl (cell_own 1 rfl rfl) (SL.nchk (.r rfl) rfl (SL.fa (.r rfl) rfl fo99_1 (SL.ld (.r rfl) sc36 rfl (cell_own 2 rfl rfl) (SL.lenT 3 (.r rfl) ty36 rfl rfl ?_))))))))))
 refine SL.bin (.r rfl) rfl rfl Bin.eqI (SL.mv (.r rfl) rfl ?_)
 refine SL.orN 13 11 24 hc rfl (fun hb k=>?_) (fun hb hg k=>?_) ?_
 refine SL.pass rfl rfl rfl (SL.pass rfl rfl rfl (SL.pass rfl rfl rfl (SL.pass rfl rfl rfl (SL.pass rfl rfl rfl (SL.pass rfl rfl rfl (SL.pass rfl rfl rfl (SL.pass rfl rfl rfl ?_)))))))
 refine SL.pass rfl rfl rfl (SL.pass rfl rfl rfl (SL.pk (.r rfl) rfl rfl ?_))
 exact k.mono (by repeat' (first | exact trivial | refine And.intro rfl ?_))
 obtain ⟨x,hx,hg⟩:=bnd hg
 obtain rfl:=Option.some.inj hg
 refine SL.ld (.r rfl) sc97 rfl (cell_own 1 rfl rfl) (SL.nchk (.r rfl) rfl (SL.fa (.r rfl) rfl fo99_1 (SL.ld (.r rfl) sc36 rfl (cell_own 2 rfl rfl) (SL.ld (.r rfl) sc3 rfl (cell_own 0 rfl rfl) ?_))))
 refine SL.iaT 4 hx (.r rfl) ty36 sz72 rfl rfl rfl fun g1 m1 cp1 hv1=>?_
 refine SL.fa (.r rfl) rfl fo72_0 ?_
 refine SL.ld (.r rfl) sc9 rfl (cell_rowT (sz:=3) (enc:=encSaved) 3 0 (fun _=>rfl) rfl hv1 hx rfl) ?_
 refine SL.mv (.r rfl) rfl (SL.bin (.r rfl) rfl rfl Bin.neS (SL.pk (.r rfl) rfl rfl ?_))
 exact k.mono (by repeat' (first | exact trivial | refine And.intro rfl ?_))
 refine SL.nx ?_
 refine SX.cond rfl (fun hc1=>?_) (fun hc1=>?_)
 replace h:=cT hc1 h
 obtain rfl:=Option.some.inj h
 refine SX.sr (SL.bld [] (.r rfl) pl31 pk31 ze31 trivial rfl (SL.st 0 ⟨rfl,rfl,rfl⟩ rfl rfl rfl sz31 rfl rfl rfl trivial (SL.asg (.r rfl) rfl (SL.nx (SX.ret (SQ.thnR ?_))))))
 exact SQ.fret (resv2 rfl (resv.ag 0 (encRef ⟨0,[]⟩) ag31 rfl rfl rfl rfl) rfl) (ret_of (M:=ldC ba bx br vv vo vr cnt outs a q) ⟨rfl,a,rfl⟩ fun _ hw=>HpOk.pick (H:=[_]) hw [] 1 rfl)
 replace h:=cF hc1 h
 obtain ⟨x,hx,h⟩:=bnd h
 obtain rfl:=Option.some.inj h
 refine SX.skip (SQ.thn (SX.sr (SL.ld (.r rfl) sc3 rfl (cell_own 1 rfl rfl) (SL.bin (.r rfl) rfl rfl Bin.addW (SL.st 1 ⟨rfl,rfl,rfl⟩ rfl rfl rfl sz3 rfl rfl rfl trivial (SL.nx (SX.seq (SX.drawI mix [1,2,3,4] (Pl.ap [(true,0),(true,1),(true,2),(true,3),(true,4),(true,5),(true,6),(true,7),(true,8)] (.last 9 (Pl.of [(false,10)]))) (by kernel_rfl) (SL.ld (.r rfl) sc97 rfl (cell_own 1 rfl rfl) (SL.nchk (.r rfl) rfl (SL.fa (.r rfl) rfl fo99_1 (SL.ld (.r rfl) sc36 rfl (cell_own 2 rfl rfl) ?_))))))))))))
 refine SL.ld (.r rfl) sc3 rfl (cell_own 0 rfl rfl) (SL.bin (.r rfl) rfl rfl Bin.subW ?_)
 refine SL.iaT 4 hx (.r rfl) ty36 sz72 rfl rfl rfl fun g1 m1 cp1 hv1=>?_
 refine SL.fa (.r rfl) rfl fo72_1 ?_
 refine SL.ldA [vU32 x.page,vS x.tag] (.r rfl) ag31 rfl rfl (cells_rowS (sz:=3) (enc:=encSaved) 3 (fun _=>rfl) rfl hv1 hx rfl) ?_
 refine SL.last (SL.st 0 ⟨rfl,rfl,rfl⟩ rfl rfl rfl sz31 rfl rfl rfl trivial (SL.asg (.r rfl) rfl (SL.nx (SX.ret ?_))))
 exact SQ.fret (resv2 rfl (resv.ag 0 (encRef ⟨x.page,x.tag⟩) ag31 rfl rfl rfl rfl) rfl) (ret_of (M:=ldC ba bx br vv vo vr cnt outs a (wI (q+1))) ⟨rfl,a,rfl⟩ fun _ hw=>HpOk.pick (H:=[_]) hw [] 1 rfl)
end Go.Proofs.YtkibffdipniemaaGreatDoor

/- grove.Load. Condition: the plain function yields. -/
namespace Go.Proofs.YtkibffdipniemaaGreatDoor
open Go
variable {K:Nat→Prop} {w0:World} {H:List Chunk}

def refEq (a b:RefA):Bool:=decide (a.page=b.page)&&(decide (a.tag=b.tag)&&true)
def loadF (n:Nat) (T:List UInt32) (p0:VltA) (p0_1:DevA) (p1:RefA):Option (List RowA×List SavedA×Int):=
 (pgF n T n ⟨[],[],0⟩ p0 p0_1 p1).bind fun y=>cond (!decide (y.1=0)) (some ([],[],y.1))
  ((f_sst n y.2.rows).bind fun l=>(buildF n l).bind fun b=>cond (!decide (b.2=0)) (some ([],[],61))
   ((plNode n (ldWh y.2.out) n b.1 ⟨[],0⟩ 0).bind fun z=>cond ((!decide (z.2.1.wrong=0) || !decide (z.2.2=(y.2.out.length:Int))) || !refEq z.1 p1) (some ([],[],61)) (some (l,y.2.out,0))))
set_option maxHeartbeats 16000000 in
set_option maxRecDepth 100000 in
theorem w_load {n:Nat} {T:List UInt32} {b0_:Nat} {v0x1_:Value} {m0x5_:Nat} {b0x0_:Nat} {v0x0x4_:Value} {m0x0x5_:Nat} {m0x0x6_:Nat} {p0:VltA} {p0_1:DevA} {p1:RefA} {r:List RowA×List SavedA×Int} (h:loadF n T p0 p0_1 p1=some r) (hS:ShaT K w0 T):
  Con Tryz.prog K w0 15 [vP b0_ 0,.agg (encRef p1).toArray] (vltO ⟨b0_,v0x1_,m0x5_,b0x0_,v0x0x4_,m0x0x5_,m0x0x6_⟩ p0 p0_1) H (fun u M=>∃v0 v1:Value,u=.tuple #[v0,v1,vI r.2.2]∧M=rowT 79 4 v0 encRow r.1::rowT 72 3 v1 encSaved r.2.1::vltO ⟨b0_,v0x1_,m0x5_,b0x0_,v0x0x4_,m0x0x5_,m0x0x6_⟩ p0 p0_1):=by
 unfold loadF at h
 obtain ⟨⟨ye,y⟩,hy,h1⟩:=bnd h
 clear h
 dsimp only at h1
 refine Con.enter Tryz.func15 rfl rfl ?_
 show SX _ _ _ _ _ _ _ _ _ (vltO ⟨b0_,v0x1_,m0x5_,b0x0_,v0x0x4_,m0x0x5_,m0x0x6_⟩ p0 p0_1++H)
 refine SX.sr ?_
 refine SL.box (.r rfl) rfl (fun _=>trivial) fun b0=>?_
 refine SL.asg (.r rfl) rfl (SL.asg (.r rfl) rfl (SL.asg (.r rfl) rfl (SL.nx (SX.seq (SX.sr (SL.mv (.r rfl) rfl (SL.eqPN (.r rfl) ty24 rfl rfl (SL.nx (SX.condF rfl (SX.skip (SQ.thn (SX.sr (SL.mv (.r rfl) rfl (SL.bld [_] (.r rfl) pl99 pk99 ze99 ⟨rfl,trivial⟩ rfl ?_))))))))))))))
 refine SL.box (.r rfl) rfl (fun _=>trivial) fun b1=>?_
 refine SL.reAt 0 (own b1 (.cells #[vP b0_ 0,.slice none 0 0,.slice none 0 0,vI 0] 99)) ?_
 refine SL.alloc (.r rfl) ze97 (fun _=>trivial) fun b2=>?_
 refine SL.st 0 ⟨rfl,rfl,rfl⟩ rfl rfl rfl sz97 rfl rfl rfl trivial (SL.reAt 0 (own b2 (.cells #[vP b1 0] 97)) (SL.nilT 79 4 encRow (SL.nilT 72 3 encSaved (SL.nx (SX.seq (SX.sr (SL.ld (.r rfl) sc97 rfl (cell_own 2 rfl rfl) (SL.ldA (encRef p1) (.r rfl) ag31 rfl rfl (cells_all 4 rfl) (SL.pick [3,0,1,5,6,7,8,9,10,11,2,4] 12 ?_)))))))))
 have hcon:=c_pgF (K:=K) (w0:=w0) (H:=(own b2 (.cells #[vP b1 0] 97)::own b0 (.cells #[vU32 p1.page,vS p1.tag] 31)::H)++[marks []]) (b0_:=b1) (v0x1_:=.slice none 0 0) (v0x2_:=.slice none 0 0) (b0x0_:=b0_) (v0x0x1_:=v0x1_) (m0x0x5_:=m0x5_) (b0x0x0_:=b0x0_) (v0x0x0x4_:=v0x0x4_) (m0x0x0x5_:=m0x0x5_) (m0x0x0x6_:=m0x0x6_) n T n hy hS
 refine SL.call (vs:=[_,_]) (Hin:=own b1 (.cells #[vP b0_ 0,.slice none 0 0,.slice none 0 0,vI 0] 99)::rowT 72 3 (.slice none 0 0) encSaved []::rowT 79 4 (.slice none 0 0) encRow []::vltO ⟨b0_,v0x1_,m0x5_,b0x0_,v0x0x4_,m0x0x5_,m0x0x6_⟩ p0 p0_1) (Hr:=own b2 (.cells #[vP b1 0] 97)::own b0 (.cells #[vU32 p1.page,vS p1.tag] 31)::H) (.r rfl) rfl ⟨rfl,rfl,trivial⟩ cal48 rfl rfl hcon ?_
 rintro _ _ ⟨vo,vr,rfl,rfl⟩
 refine ⟨trivial,?_⟩
 refine SL.asg (.r rfl) rfl (SL.nx (SX.sr (SL.mv (.r rfl) rfl (SL.bin (.r rfl) rfl rfl Bin.neI (SL.nx ?_)))))
 refine SX.cond rfl (fun hc2=>?_) (fun hc2=>?_)
 replace h1:=cT hc2 h1
 obtain rfl:=Option.some.inj h1
 refine SX.sr (SL.mv (.r rfl) rfl (SL.asg (.r rfl) rfl (SL.asg (.r rfl) rfl (SL.asg (.r rfl) rfl (SL.nx (SX.ret (SQ.thnR (SQ.nilT 72 3 encSaved (SQ.nilT 79 4 encRow ?_)))))))))
 exact SQ.fret (res3 rfl rfl rfl rfl) (ret_of (M:=_::_::vltO ⟨b0_,v0x1_,m0x5_,b0x0_,v0x0x4_,m0x0x5_,m0x0x6_⟩ p0 p0_1) ⟨_,_,rfl,rfl⟩ fun _ hw=>HpOk.pick (H:=[_,_,_,_,_,_,_,_,_,_,_,_,_,_]) hw [0,1,5,6,7,8,9,10,11] 14 rfl)
 replace h1:=cF hc2 h1
 obtain ⟨l,hl,h2⟩:=bnd h1
 clear h1
 obtain ⟨⟨b,be⟩,hb,h3⟩:=bnd h2
 clear h2
 dsimp only at h3
 refine SX.skip (SQ.thn (SX.sr (SL.ld (.r rfl) sc97 rfl (cell_own 10 rfl rfl) (SL.nchk (.r rfl) rfl (SL.fa (.r rfl) rfl fo99_2 (SL.ld (.r rfl) sc35 rfl (cell_own 0 rfl rfl) (SL.pick [2,0,1,3,4,5,6,7,8,9,10,11] 12 ?_)))))))
 refine SL.call (vs:=[_,_]) (Hin:=[rowT 79 4 vr encRow y.rows]) (Hr:=_::_::(vltO ⟨b0_,v0x1_,m0x5_,b0x0_,v0x0x4_,m0x0x5_,m0x0x6_⟩ p0 p0_1++(_::_::H))) (.r rfl) rfl ⟨rfl,rfl,trivial⟩ cal49 rfl rfl (c_sst hl) ?_
 rintro _ _ ⟨rfl,rfl⟩
 refine ⟨trivial,?_⟩
 refine SL.nx (SX.sr (SL.ld (.r rfl) sc97 rfl (cell_own 10 rfl rfl) (SL.nchk (.r rfl) rfl (SL.fa (.r rfl) rfl fo99_2 (SL.ld (.r rfl) sc35 rfl (cell_own 1 rfl rfl) ?_)))))
 have hcon2:=Con.lend (K:=K) (w0:=w0) (H:=(own b1 (.cells #[vP b0_ 0,vo,vr,vI y.count] 99)::rowT 72 3 vo encSaved y.out::(vltO ⟨b0_,v0x1_,m0x5_,b0x0_,v0x0x4_,m0x0x5_,m0x0x6_⟩ p0 p0_1++(own b2 (.cells #[vP b1 0] 97)::own b0 (.cells #[vU32 p1.page,vS p1.tag] 31)::H)))++[marks []]) (f:=25) (B:=[rowT 79 4 vr encRow l]) (Hin:=[]) fun K' w1 hkk hB=>
  w_build hb (SlOf.lentT (e:=79) (v:=vr) (fun _=>rfl) (hB _ (by simp)))
 refine SL.call (vs:=[_]) (Hin:=[rowT 79 4 vr encRow l]) (Hr:=own b1 (.cells #[vP b0_ 0,vo,vr,vI y.count] 99)::rowT 72 3 vo encSaved y.out::(vltO ⟨b0_,v0x1_,m0x5_,b0x0_,v0x0x4_,m0x0x5_,m0x0x6_⟩ p0 p0_1++(own b2 (.cells #[vP b1 0] 97)::own b0 (.cells #[vU32 p1.page,vS p1.tag] 31)::H))) (.r rfl) rfl ⟨rfl,trivial⟩ cal25 rfl rfl hcon2 ?_
 rintro _ _ ⟨_,rfl,nv,L,rfl,hnz,rfl⟩
 refine ⟨trivial,?_⟩
 refine SL.mv (.r rfl) rfl (SL.ext (.r rfl) rfl rfl (SL.ext (.r rfl) rfl rfl ?_))
 refine SL.alloc (.r rfl) ze57 (fun _=>trivial) fun b3=>?_
 refine SL.st 0 ⟨rfl,rfl,rfl⟩ rfl rfl rfl sz57 rfl (List.all_eq_true.2 (oneNode nv)) rfl trivial (SL.reAt 0 (own b3 (.cells (encNode nv).toArray 57)) (SL.asg (.r rfl) rfl (SL.nx (SX.seq (SX.sr (SL.mv (.r rfl) rfl (SL.bin (.r rfl) rfl rfl Bin.neI (SL.nx ?_))))))))
 refine SX.cond rfl (fun hc3=>?_) (fun hc3=>?_)
 replace h3:=cT hc3 h3
 obtain rfl:=Option.some.inj h3
 refine SX.sr (SL.asg (.r rfl) rfl (SL.asg (.r rfl) rfl (SL.asg (.r rfl) rfl (SL.nx (SX.ret (SQ.thnR (SQ.nilT 72 3 encSaved (SQ.nilT 79 4 encRow ?_))))))))
 exact SQ.fret (res3 rfl rfl rfl rfl) (ret_of (M:=_::_::vltO ⟨b0_,v0x1_,m0x5_,b0x0_,v0x0x4_,m0x0x5_,m0x0x6_⟩ p0 p0_1) ⟨_,_,rfl,rfl⟩ fun _ hw=>HpOk.pick (H:=[_,_,_,_,_,_,_,_,_,_,_,_,_,_,_,_]) hw [0,1,7,8,9,10,11,12,13] 16 rfl)
 replace h3:=cF hc3 h3
 obtain ⟨z,hz,h4⟩:=bnd h3
 clear h3
 refine SX.skip (SQ.thn (SX.sr ?_))
 refine SL.alloc (.r rfl) ze3 (fun _=>trivial) fun b4=>?_
 refine SL.st 0 ⟨rfl,rfl,rfl⟩ rfl rfl rfl sz3 rfl rfl rfl trivial (SL.reAt 0 (own b4 (.cells #[vI 0] 3)) (SL.nx (SX.sr ?_)))
 refine SL.mkf (fv:=#[]) (cv:=#[_,_]) (.r rfl) rfl rfl ?_
 refine SL.bld [_] (.r rfl) pl106 pk106 ze106 ⟨rfl,trivial⟩ rfl ?_
 refine SL.box (.r rfl) rfl (fun _=>trivial) fun b5=>?_
 refine SL.nilT 72 3 encSaved (SL.asg (.r rfl) rfl (SL.nx ?_))
 have hcon3:=Con.lend (K:=K) (w0:=w0) (H:=(own b3 (.cells (encNode nv).toArray 57)::rowT 79 4 vr encRow l::(vltO ⟨b0_,v0x1_,m0x5_,b0x0_,v0x0x4_,m0x0x5_,m0x0x6_⟩ p0 p0_1++(own b0 (.cells #[vU32 p1.page,vS p1.tag] 31)::H)))++[marks []]) (f:=53) (B:=[fzC L]) (Hin:=plC b5 (.func (.func 52) #[] #[vP b4 0,vP b2 0]) (.slice none 0 0) ⟨[],0⟩::rowT 72 3 (.slice none 0 0) encSaved []::ldC b4 b2 b1 (vP b0_ 0) vo vr y.count y.out vo 0) fun K' w1 hkk hB=>
  c_planter_node (C:=ldC b4 b2 b1 (vP b0_ 0) vo vr y.count y.out) (bp:=b5) (vo:=.slice none 0 0) (ca:=vo) (cs:=#[vP b4 0,vP b2 0]) cal52 c_load2 n (hS.keeps hkk) hz (hnz.lent (hB _ (by simp)))
 generalize hpo:(fun (u:Value) (M:List Chunk)=>∃M',M=[fzC L]++M'∧(u=.agg (encRef z.1).toArray∧∃vo' ca',M'=plC b5 (.func (.func 52) #[] #[vP b4 0,vP b2 0]) vo' z.2.1::rowT 72 3 vo' encSaved z.2.1.out::ldC b4 b2 b1 (vP b0_ 0) vo vr y.count y.out ca' z.2.2))=po at hcon3
 refine SX.seq (SX.sr (SL.mv (.r rfl) rfl (SL.ldA (encNode nv) (.r rfl) ag57 rfl rfl (cells_all 3 rfl) (SL.pick [5,1,0,2,15,6,7,3,4,8,9,10,11,12,13,14,16] 17 ?_))))
 refine SL.call (vs:=[_,_]) (Hin:=[fzC L]++(plC b5 (.func (.func 52) #[] #[vP b4 0,vP b2 0]) (.slice none 0 0) ⟨[],0⟩::rowT 72 3 (.slice none 0 0) encSaved []::ldC b4 b2 b1 (vP b0_ 0) vo vr y.count y.out vo 0)) (Hr:=own b3 (.cells (encNode nv).toArray 57)::rowT 79 4 vr encRow l::(vltO ⟨b0_,v0x1_,m0x5_,b0x0_,v0x0x4_,m0x0x5_,m0x0x6_⟩ p0 p0_1++(own b0 (.cells #[vU32 p1.page,vS p1.tag] 31)::H))) (.r rfl) rfl ⟨rfl,rfl,trivial⟩ cal53 rfl rfl hcon3 ?_
 intro u0 M0 hpost
 rw [←hpo] at hpost
 obtain ⟨_,rfl,rfl,vo2,ca2,rfl⟩:=hpost
 refine ⟨trivial,?_⟩
 refine SL.alloc (.r rfl) ze31 (fun _=>trivial) fun b6=>?_
 refine SL.st 0 ⟨rfl,rfl,rfl⟩ rfl rfl rfl sz31 rfl rfl rfl trivial (SL.reAt 0 (own b6 (.cells #[vU32 z.1.page,vS z.1.tag] 31)) (SL.nx (SX.seq (SX.drawI mix [2,4,5,6,7,0,17] (Pl.of [(true,0),(true,1),(true,2),(true,3),(true,4),(true,5),(true,6),(true,7),(true,8),(true,9),(true,10),(true,11),(true,12),(true,13),(true,14),(true,15),(true,16),(true,17),(true,18)]) (by kernel_rfl) (SL.mv (.r rfl) rfl (SL.nchk (.r rfl) rfl (SL.fa (.r rfl) rfl fo106_2 (SL.ld (.r rfl) sc32 rfl (cell_own 0 rfl rfl) (SL.bin (.r rfl) rfl rfl Bin.neI ?_)))))))))
 refine SL.mv (.r rfl) rfl ?_
 refine SL.or (c := !decide (z.2.2=(y.out.length:Int))) 51 8 59 rfl (fun hb k=>?_) (fun hb k=>?_) ?_
 refine SL.pass rfl rfl rfl (SL.pass rfl rfl rfl (SL.pass rfl rfl rfl (SL.pass rfl rfl rfl (SL.pass rfl rfl rfl (SL.pass rfl rfl rfl (SL.pass rfl rfl rfl (SL.pk (.r rfl) rfl rfl ?_)))))))
 exact k.mono (by repeat' (first | exact trivial | refine And.intro rfl ?_))
 refine SL.ld (.r rfl) sc3 rfl (cell_own 1 rfl rfl) (SL.ld (.r rfl) sc97 rfl (cell_own 2 rfl rfl) (SL.nchk (.r rfl) rfl (SL.fa (.r rfl) rfl fo99_1 (SL.ld (.r rfl) sc36 rfl (cell_own 3 rfl rfl) (SL.lenT 4 (.r rfl) ty36 rfl rfl (SL.bin (.r rfl) rfl rfl Bin.neI (SL.pk (.r rfl) rfl rfl ?_)))))))
 exact k.mono (by repeat' (first | exact trivial | refine And.intro rfl ?_))
 refine SL.mv (.r rfl) rfl ?_
 refine SL.or (c := !refEq z.1 p1) 60 4 64 rfl (fun hb k=>?_) (fun hb k=>?_) ?_
 refine SL.pass rfl rfl rfl (SL.pass rfl rfl rfl (SL.pass rfl rfl rfl (SL.pk (.r rfl) rfl rfl ?_)))
 exact k.mono (by repeat' (first | exact trivial | refine And.intro rfl ?_))
 refine SL.ldA (encRef z.1) (.r rfl) ag31 rfl rfl (cells_all 5 rfl) (SL.ldA (encRef p1) (.r rfl) ag31 rfl rfl (cells_all 6 rfl) ?_)
 refine SL.neAgg (.r rfl) fl31 rfl rfl (flatE_cons rfl rfl (eqV_32 (a:=z.1.page) (b:=p1.page)) (flatE_cons rfl rfl (eqV_S (a:=z.1.tag) (b:=p1.tag)) flatE_nil)) ?_
 refine SL.pk (.r rfl) rfl rfl ?_
 exact k.mono (by repeat' (first | exact trivial | refine And.intro rfl ?_))
 refine SL.nx ?_
 refine SX.cond rfl (fun hc4=>?_) (fun hc4=>?_)
 replace h4:=cT hc4 h4
 obtain rfl:=Option.some.inj h4
 refine SX.sr (SL.asg (.r rfl) rfl (SL.asg (.r rfl) rfl (SL.asg (.r rfl) rfl (SL.nx (SX.ret (SQ.thnR (SQ.nilT 72 3 encSaved (SQ.nilT 79 4 encRow ?_))))))))
 exact SQ.fret (res3 rfl rfl rfl rfl) (ret_of (M:=_::_::vltO ⟨b0_,v0x1_,m0x5_,b0x0_,v0x0x4_,m0x0x5_,m0x0x6_⟩ p0 p0_1) ⟨_,_,rfl,rfl⟩ fun _ hw=>HpOk.pick (H:=[_,_,_,_,_,_,_,_,_,_,_,_,_,_,_,_,_,_,_,_]) hw [0,1,12,13,14,15,16,17,18] 20 rfl)
 replace h4:=cF hc4 h4
 obtain rfl:=Option.some.inj h4
 refine SX.skip (SQ.thn (SX.seq (SX.drawI mix [5,6] (Pl.of [(true,0),(true,1),(true,2),(true,3),(true,4),(true,5),(true,6),(true,7),(true,8),(true,9),(true,10)]) (by kernel_rfl) (SL.ld (.r rfl) sc97 rfl (cell_own 0 rfl rfl) (SL.nchk (.r rfl) rfl (SL.fa (.r rfl) rfl fo99_2 (SL.ld (.r rfl) sc35 rfl (cell_own 1 rfl rfl) (SL.ld (.r rfl) sc97 rfl (cell_own 0 rfl rfl) (SL.nchk (.r rfl) rfl (SL.fa (.r rfl) rfl fo99_1 ?_))))))))))
 refine SL.ld (.r rfl) sc36 rfl (cell_own 1 rfl rfl) (SL.asg (.r rfl) rfl (SL.asg (.r rfl) rfl (SL.asg (.r rfl) rfl (SL.nx (SX.ret ?_)))))
 exact SQ.fret (res3 rfl rfl rfl rfl) (ret_of (M:=rowT 79 4 vr encRow l::rowT 72 3 vo encSaved y.out::vltO ⟨b0_,v0x1_,m0x5_,b0x0_,v0x0x4_,m0x0x5_,m0x0x6_⟩ p0 p0_1) ⟨_,_,rfl,rfl⟩ fun _ hw=>HpOk.pick (H:=[_,_,_,_,_,_,_,_,_,_,_,_,_,_,_,_,_,_]) hw [9,7,10,11,12,13,14,15,16] 18 rfl)
end Go.Proofs.YtkibffdipniemaaGreatDoor

/- Plain laws of the stable sort of rows: what the printed functions answer is the rows, sorted by their ids. No program in sight. Condition: at most 2^30 rows, and rounds enough. -/
namespace Go.Proofs.YtkibffdipniemaaGreatDoor
open Go

/-! ### Lists in parts -/
theorem nth_mid {α:Type} (A:List α) (x:α) (B:List α) {i:Int} (h:i=(A.length:Int)):nthI (A++x::B) i=some x:=by
 rw [nthI_of h]
 simp
theorem set_mid {α:Type} (A:List α) (x y:α) (B:List α) {i:Int} (h:i=(A.length:Int)):setI (A++x::B) i y=some (A++y::B):=by
 rw [setI_of h (by simp)]
 simp
def Srt (l:List RowA):Prop:=l.Pairwise fun a b=>a.id≤b.id
theorem load1_lt (a b:RowA):∃y,f_grove_Load_1 a b=some y∧decide (y<0)=decide (a.id<b.id):=by
 unfold f_grove_Load_1 f_cmp_Compare_uint64 f_cmp_isNaN_uint64
 simp only [ret_eq,some_bind,decide_true,Bool.not_true,cond_false]
 by_cases h:a.id<b.id
 rw [decide_eq_true h]
 exact ⟨-1,rfl,rfl⟩
 rw [decide_eq_false h]
 by_cases h2:b.id<a.id
 rw [decide_eq_true h2]
 exact ⟨1,rfl,rfl⟩
 rw [decide_eq_false h2]
 exact ⟨0,rfl,rfl⟩
theorem srt_append {a b:List RowA}:Srt (a++b)↔Srt a∧Srt b∧∀x∈a,∀y∈b,x.id≤y.id:=List.pairwise_append
theorem u64_le_of_not_lt {a b:UInt64} (h:¬a<b):b≤a:=by
 rw [UInt64.lt_iff_toNat_lt] at h
 rw [UInt64.le_iff_toNat_le]
 omega
theorem u64_le_of_lt {a b:UInt64} (h:a<b):a≤b:=by
 rw [UInt64.lt_iff_toNat_lt] at h
 rw [UInt64.le_iff_toNat_le]
 omega
theorem u64_le_trans {a b c:UInt64} (h:a≤b) (h':b≤c):a≤c:=by
 rw [UInt64.le_iff_toNat_le] at*
 omega
theorem u64_le_lt {a b c:UInt64} (h:a≤b) (h':b<c):a<c:=by
 rw [UInt64.le_iff_toNat_le] at*
 rw [UInt64.lt_iff_toNat_lt] at*
 omega
theorem u64_irr {a b:UInt64} (h:a<b) (h':b≤a):False:=by
 rw [UInt64.le_iff_toNat_le] at*
 rw [UInt64.lt_iff_toNat_lt] at*
 omega
abbrev big:Nat:=1073741824

/-! ### Insertion -/
theorem ins_sink (p1:Int) (A:List RowA) (x:RowA) (R:List RowA) (ha:p1=(A.length:Int)):
  ∀(k:Nat) (S T:List RowA),S.length=k→(A++S++x::T++R).length≤big→Srt (S++T)→(∀y∈T,x.id≤y.id)→
  ∃S',S'.Perm (S++x::T)∧Srt S'∧∀(a1:Int) (nx1:List RowA×Int→Option (List RowA)) (m:Nat),k<m→f_ins_l2 p1 a1 nx1 m (A++S++x::T++R,((A.length+k:Nat):Int))=f_ins_j1 a1 nx1 (A++S'++R)
 | 0,S,T,hk,hlen,hs,hx=>by
  have hS:S=[]:=List.length_eq_zero_iff.1 hk
  subst hS
  refine ⟨x::T,List.Perm.refl _,List.pairwise_cons.2 ⟨hx,by simpa [Srt] using hs⟩,fun a1 nx1 m hm=>?_⟩
  obtain ⟨m,rfl⟩:∃k,m=k+1:=⟨m-1,by omega⟩
  show f_ins_l2_b p1 a1 nx1 (f_ins_l2 p1 a1 nx1 m) _ _=_
  unfold f_ins_l2_b
  dsimp only
  rw [decide_eq_false (by omega)]
  simp only [andO,cond_false,some_bind,List.append_nil]
 | k+1,S,T,hk,hlen,hs,hx=>by
  obtain ⟨S0,z,rfl⟩:∃S0 z,S=S0++[z]:=⟨_,_,(List.dropLast_concat_getLast (by intro e;rw [e] at hk;simp at hk)).symm⟩
  have hk0:S0.length=k:=by simpa using hk
  obtain ⟨y,hy,hlt⟩:=load1_lt x z
  have n1:∀i:Int,i=((A.length+(k+1):Nat):Int)→nthI (A++(S0++[z])++x::T++R) i=some x:=fun i hi=>by
   have:=nth_mid (A++(S0++[z])) x (T++R) (i:=i) (by rw [hi];simp;omega)
   simpa using this
  have n2:∀i:Int,i=((A.length+k:Nat):Int)→nthI (A++(S0++[z])++x::T++R) i=some z:=fun i hi=>by
   have:=nth_mid (A++S0) z (x::T++R) (i:=i) (by rw [hi];simp;omega)
   simpa using this
  have hb:(A.length:Int)+k+1≤1073741824:=by
   simp at hlen
   unfold big at hlen
   omega
  have e1:wI (((A.length+(k+1):Nat):Int)-1)=((A.length+k:Nat):Int):=by rw [wI_eq (by omega) (by omega)];omega
  by_cases hc:x.id<z.id
  have hs':Srt (S0++z::T):=by simpa using hs
  obtain ⟨S',hp,hss,hf⟩:=ins_sink p1 A x R ha k S0 (z::T) hk0 (by simpa using hlen) hs' (fun w hw=>by
   rcases List.mem_cons.1 hw with rfl | hw
   exact u64_le_of_lt hc
   exact hx w hw)
  refine ⟨S',hp.trans ?_,hss,fun a1 nx1 m hm=>?_⟩
  rw [List.append_assoc]
  exact List.Perm.append_left _ (List.Perm.swap _ _ _)
  obtain ⟨m,rfl⟩:∃k,m=k+1:=⟨m-1,by omega⟩
  show f_ins_l2_b p1 a1 nx1 (f_ins_l2 p1 a1 nx1 m) _ _=_
  unfold f_ins_l2_b
  dsimp only
  rw [decide_eq_true (by omega),e1,n1 _ rfl,n2 _ rfl]
  simp only [andO,cond_true,some_bind,hy,hlt,decide_eq_true hc]
  have s1:setI (A++(S0++[z])++x::T++R) ((A.length+(k+1):Nat):Int) z=some (A++S0++z::z::T++R):=by
   have:=set_mid (A++(S0++[z])) x z (T++R) (i:=((A.length+(k+1):Nat):Int)) (by simp;omega)
   simpa using this
  rw [s1,some_bind]
  have n3:nthI (A++S0++z::z::T++R) ((A.length+k:Nat):Int)=some z:=by
   have:=nth_mid (A++S0) z (z::T++R) (i:=((A.length+k:Nat):Int)) (by simp;omega)
   simpa using this
  have s2:setI (A++S0++z::z::T++R) ((A.length+k:Nat):Int) x=some (A++S0++x::z::T++R):=by
   have:=set_mid (A++S0) z x (z::T++R) (i:=((A.length+k:Nat):Int)) (by simp;omega)
   simpa using this
  rw [n3,some_bind,s2,some_bind,ret_eq]
  exact hf a1 nx1 m (by omega)
  refine ⟨S0++[z]++x::T,List.Perm.refl _,?_,fun a1 nx1 m hm=>?_⟩
  have h1:=srt_append.1 hs
  have hzx:=u64_le_of_not_lt hc
  refine srt_append.2 ⟨h1.1,List.pairwise_cons.2 ⟨hx,h1.2.1⟩,fun w hw y hy=>?_⟩
  rcases List.mem_cons.1 hy with rfl | hy
  rcases List.mem_append.1 hw with hw0 | hw0
  have:=(srt_append.1 h1.1).2.2 w hw0 z (by simp)
  exact u64_le_trans this hzx
  rw [List.mem_singleton.1 hw0]
  exact hzx
  exact h1.2.2 w hw y hy
  obtain ⟨m,rfl⟩:∃k,m=k+1:=⟨m-1,by omega⟩
  show f_ins_l2_b p1 a1 nx1 (f_ins_l2 p1 a1 nx1 m) _ _=_
  unfold f_ins_l2_b
  dsimp only
  rw [decide_eq_true (by omega),e1,n1 _ rfl,n2 _ rfl]
  simp only [andO,cond_true,some_bind,hy,hlt,decide_eq_false hc,cond_false]
  simp
theorem ins_eq {n:Nat} (A:List RowA) (X B:List RowA) (hn:X.length+2≤n) (hlen:(A++X++B).length≤big):
  ∃X',X'.Perm X∧Srt X'∧f_ins n (A++X++B) (A.length:Int) ((A.length+X.length:Nat):Int)=some (A++X'++B):=by
 unfold big at hlen
 simp only [List.length_append] at hlen
 
 have key:∀(d:Nat) (S T:List RowA),T.length=d→Srt S→(S++T).length=X.length→(S++T).Perm X→∃X',X'.Perm X∧Srt X'∧∀m,d<m→
   f_ins_l1 n (A.length:Int) ((A.length+X.length:Nat):Int) m (A++S++T++B,((A.length+S.length:Nat):Int))=some (A++X'++B):=by
  intro d
  induction d with
  | zero=>
   intro S T hT hS hl hp
   have hT0:T=[]:=List.length_eq_zero_iff.1 hT
   subst hT0
   refine ⟨S,by simpa using hp,hS,fun m hm=>?_⟩
   obtain ⟨m,rfl⟩:∃k,m=k+1:=⟨m-1,by omega⟩
   show f_ins_l1_b n _ _ (f_ins_l1 n _ _ m) _ _=_
   unfold f_ins_l1_b
   dsimp only
   rw [decide_eq_false (by simp at hl;omega),cond_false]
   simp
  | succ d ih=>
   intro S T hT hS hl hp
   obtain ⟨x,T',rfl⟩:∃x T',T=x::T':=by
    cases T with
    | nil=>simp at hT
    | cons x T'=>exact ⟨x,T',rfl⟩
   have hT':T'.length=d:=by simpa using hT
   simp only [List.length_append,List.length_cons] at hl
   obtain ⟨S',hp',hs',hf⟩:=ins_sink (A.length:Int) A x (T'++B) rfl S.length S [] rfl (by simp;unfold big;omega) (by simpa using hS) (by simp)
   have hlS:S'.length=S.length+1:=by simpa using hp'.length_eq
   obtain ⟨X',hX,hXs,hXf⟩:=ih S' T' hT' hs' (by simp [hlS];omega) (by
    refine (List.Perm.append_right T' hp').trans ?_
    simpa using hp)
   refine ⟨X',hX,hXs,fun m hm=>?_⟩
   obtain ⟨m,rfl⟩:∃k,m=k+1:=⟨m-1,by omega⟩
   show f_ins_l1_b n _ _ (f_ins_l1 n _ _ m) _ _=_
   unfold f_ins_l1_b
   dsimp only
   rw [decide_eq_true (by omega),cond_true]
   have hf1:=hf ((A.length+S.length:Nat):Int) (f_ins_l1 n (A.length:Int) ((A.length+X.length:Nat):Int) m) n (by omega)
   rw [show A++S++x::T'++B=A++S++x::[]++(T'++B) by simp]
   refine hf1.trans ?_
   unfold f_ins_j1
   rw [ret_eq,wI_eq (by omega) (by omega)]
   have:=hXf m (by omega)
   rw [hlS,show ((A.length+(S.length+1):Nat):Int)=((A.length+S.length:Nat):Int)+1 by omega] at this
   rw [show A++S'++(T'++B)=A++S'++T'++B by simp]
   exact this
 unfold f_ins
 rw [ret_eq,wI_eq (by omega) (by omega)]
 cases X with
 | nil=>
  refine ⟨[],List.Perm.refl _,List.Pairwise.nil,?_⟩
  obtain ⟨n,rfl⟩:∃k,n=k+1:=⟨n-1,by omega⟩
  show f_ins_l1_b _ _ _ (f_ins_l1 (n+1) _ _ n) _ _=_
  unfold f_ins_l1_b
  dsimp only
  rw [decide_eq_false (by simp;omega),cond_false]
 | cons x X=>
  obtain ⟨X',h1,h2,h3⟩:=key X.length [x] X rfl (by simp [Srt]) (by simp) (by simp)
  refine ⟨X',h1,h2,?_⟩
  have:=h3 n (by simp at hn;omega)
  simpa using this

/-! ### Ranges that change places, and turn -/
theorem swp_loop (A M B:List RowA) (p1 p2 p3:Int) (h1:p1=(A.length:Int)):∀(X2 Y2 X1 Y1:List RowA),X2.length=Y2.length→X1.length=Y1.length→p2=((A.length+X1.length+X2.length+M.length:Nat):Int)→p3=((X1.length+X2.length:Nat):Int)→
  (A++(Y1++X2)++M++(X1++Y2)++B).length≤big→∀m,X2.length<m→f_swp_l1 p1 p2 p3 m (A++(Y1++X2)++M++(X1++Y2)++B,(X1.length:Int))=some (A++(Y1++Y2)++M++(X1++X2)++B)
 | [],Y2,X1,Y1,hl,hl1,h2,h3,hlen,m,hm=>by
  have hY:Y2=[]:=List.length_eq_zero_iff.1 hl.symm
  subst hY
  obtain ⟨m,rfl⟩:∃k,m=k+1:=⟨m-1,by omega⟩
  show f_swp_l1_b _ _ _ (f_swp_l1 _ _ _ m) _ _=_
  unfold f_swp_l1_b
  dsimp only
  rw [h3,decide_eq_false (by simp),cond_false]
 | x::X2,Y2,X1,Y1,hl,hl1,h2,h3,hlen,m,hm=>by
  obtain ⟨y,Y2',rfl⟩:∃y Y2',Y2=y::Y2':=by
   cases Y2 with
   | nil=>simp at hl
   | cons y Y2'=>exact ⟨y,Y2',rfl⟩
  have hl':X2.length=Y2'.length:=by simpa using hl
  obtain ⟨m,rfl⟩:∃k,m=k+1:=⟨m-1,by omega⟩
  unfold big at hlen
  simp only [List.length_append,List.length_cons] at hlen h2 h3 hm
  have e1:wI (p1+(X1.length:Int))=((A.length+X1.length:Nat):Int):=by rw [h1,wI_eq (by omega) (by omega)];omega
  have e2:wI (p2+(X1.length:Int))=((A.length+X1.length+(X2.length+1)+M.length+X1.length:Nat):Int):=by rw [h2,wI_eq (by omega) (by omega)];omega
  have n2:nthI (A++(Y1++x::X2)++M++(X1++y::Y2')++B) ((A.length+X1.length+(X2.length+1)+M.length+X1.length:Nat):Int)=some y:=by
   have:=nth_mid (A++(Y1++x::X2)++M++X1) y (Y2'++B) (i:=((A.length+X1.length+(X2.length+1)+M.length+X1.length:Nat):Int)) (by simp;omega)
   simpa using this
  have n1:nthI (A++(Y1++x::X2)++M++(X1++y::Y2')++B) ((A.length+X1.length:Nat):Int)=some x:=by
   have:=nth_mid (A++Y1) x (X2++M++(X1++y::Y2')++B) (i:=((A.length+X1.length:Nat):Int)) (by simp;omega)
   simpa using this
  have s1:setI (A++(Y1++x::X2)++M++(X1++y::Y2')++B) ((A.length+X1.length:Nat):Int) y=some (A++(Y1++y::X2)++M++(X1++y::Y2')++B):=by
   have:=set_mid (A++Y1) x y (X2++M++(X1++y::Y2')++B) (i:=((A.length+X1.length:Nat):Int)) (by simp;omega)
   simpa using this
  have n3:nthI (A++(Y1++y::X2)++M++(X1++y::Y2')++B) ((A.length+X1.length+(X2.length+1)+M.length+X1.length:Nat):Int)=some y:=by
   have:=nth_mid (A++(Y1++y::X2)++M++X1) y (Y2'++B) (i:=((A.length+X1.length+(X2.length+1)+M.length+X1.length:Nat):Int)) (by simp;omega)
   simpa using this
  have s2:setI (A++(Y1++y::X2)++M++(X1++y::Y2')++B) ((A.length+X1.length+(X2.length+1)+M.length+X1.length:Nat):Int) x=some (A++(Y1++y::X2)++M++(X1++x::Y2')++B):=by
   have:=set_mid (A++(Y1++y::X2)++M++X1) y x (Y2'++B) (i:=((A.length+X1.length+(X2.length+1)+M.length+X1.length:Nat):Int)) (by simp;omega)
   simpa using this
  show f_swp_l1_b _ _ _ (f_swp_l1 _ _ _ m) _ _=_
  unfold f_swp_l1_b
  dsimp only
  rw [decide_eq_true (by omega),cond_true,e1,e2,n2,some_bind,n1,some_bind,some_bind,s1,some_bind,n3,some_bind,s2,some_bind,ret_eq,wI_eq (by omega) (by omega)]
  have:=swp_loop A M B p1 p2 p3 h1 X2 Y2' (X1++[x]) (Y1++[y]) hl' (by simp [hl1]) (by rw [h2];simp;omega) (by rw [h3];simp;omega) (by unfold big;simp;omega) m (by omega)
  simpa using this
theorem swp_eq {n:Nat} (A X M Y B:List RowA) {p1 p2 p3:Int} (h1:p1=(A.length:Int)) (h2:p2=((A.length+X.length+M.length:Nat):Int)) (h3:p3=(X.length:Int)) (hl:X.length=Y.length) (hn:X.length<n) (hlen:(A++X++M++Y++B).length≤big):
  f_swp n (A++X++M++Y++B) p1 p2 p3=some (A++Y++M++X++B):=by
 unfold f_swp
 have:=swp_loop A M B p1 p2 p3 h1 X Y [] [] hl rfl (by rw [h2];simp) (by rw [h3];simp) (by simpa using hlen) n hn
 simpa using this
theorem rot_loop {n:Nat}:∀(k:Nat) (A X Y B:List RowA) (p2:Int),X≠[]→Y≠[]→X.length+Y.length≤k→k<n→p2=((A.length+X.length:Nat):Int)→(A++X++Y++B).length≤big→∀m,k≤m→
  f_rot_l1 n p2 m (A++X++Y++B,(X.length:Int),(Y.length:Int))=some (A++Y++X++B)
 | 0,A,X,Y,B,p2,hX,hY,hk,hkn,h2,hlen,m,hm=>absurd (List.length_eq_zero_iff.1 (by omega)) hX
 | k+1,A,X,Y,B,p2,hX,hY,hk,hkn,h2,hlen,m,hm=>by
  have hX1:=List.length_pos_iff.2 hX
  have hY1:=List.length_pos_iff.2 hY
  obtain ⟨m,rfl⟩:∃k,m=k+1:=⟨m-1,by omega⟩
  unfold big at hlen
  simp only [List.length_append] at hlen
  have e0:wI (p2-(X.length:Int))=(A.length:Int):=by rw [h2,wI_eq (by omega) (by omega)];omega
  show f_rot_l1_b _ _ (f_rot_l1 _ _ m) _ _ _=_
  unfold f_rot_l1_b
  dsimp only
  by_cases heq:X.length=Y.length
  rw [decide_eq_true (by omega),Bool.not_true,cond_false]
  unfold f_rot_j1
  have hs:=swp_eq (n:=n) A X [] Y B (p1:=(A.length:Int)) (p2:=p2) (p3:=(X.length:Int)) rfl (by rw [h2];simp) rfl heq (by omega) (by unfold big;simp;omega)
  simp only [List.append_nil] at hs
  rw [e0,hs]
  rfl
  rw [decide_eq_false (by omega),Bool.not_false,cond_true]
  by_cases hlt:Y.length<X.length
  rw [decide_eq_true (by omega),cond_true]
  obtain ⟨X1,X2,hXX,hX1l⟩:∃X1 X2,X=X1++X2∧X1.length=Y.length:=⟨X.take Y.length,X.drop Y.length,(List.take_append_drop ..).symm,by simp;omega⟩
  subst hXX
  simp only [List.length_append] at*
  have hs:=swp_eq (n:=n) A X1 X2 Y B (p1:=(A.length:Int)) (p2:=p2) (p3:=(Y.length:Int)) rfl (by rw [h2];omega) (by omega) hX1l (by omega) (by unfold big;simp;omega)
  rw [e0,show A++(X1++X2)++Y++B=A++X1++X2++Y++B by simp,hs,some_bind,ret_eq]
  have e1:wI (((X1.length+X2.length:Nat):Int)-(Y.length:Int))=(X2.length:Int):=by rw [wI_eq (by omega) (by omega)];omega
  have:=rot_loop (n:=n) k (A++Y) X2 X1 B p2 (List.length_pos_iff.1 (by omega)) (List.length_pos_iff.1 (by omega)) (by omega) (by omega) (by rw [h2];simp;omega) (by unfold big;simp;omega) m (by omega)
  rw [e1,←hX1l]
  rw [this]
  simp
  rw [decide_eq_false (by omega),cond_false]
  obtain ⟨Y1,Y2,hYY,hY2l⟩:∃Y1 Y2,Y=Y1++Y2∧Y2.length=X.length:=⟨Y.take (Y.length-X.length),Y.drop (Y.length-X.length),(List.take_append_drop ..).symm,by simp;omega⟩
  subst hYY
  simp only [List.length_append] at*
  have e2:wI (wI (p2+((Y1.length+Y2.length:Nat):Int))-(X.length:Int))=((A.length+X.length+Y1.length:Nat):Int):=by
   rw [h2,wI_eq (x:=_+_) (by omega) (by omega),wI_eq (by omega) (by omega)]
   omega
  have hs:=swp_eq (n:=n) A X Y1 Y2 B (p1:=(A.length:Int)) (p2:=((A.length+X.length+Y1.length:Nat):Int)) (p3:=(X.length:Int)) rfl rfl rfl hY2l.symm (by omega) (by unfold big;simp;omega)
  rw [e0,e2,show A++X++(Y1++Y2)++B=A++X++Y1++Y2++B by simp,hs,some_bind,ret_eq]
  have e1:wI (((Y1.length+Y2.length:Nat):Int)-(X.length:Int))=(Y1.length:Int):=by rw [wI_eq (by omega) (by omega)];omega
  have:=rot_loop (n:=n) k A Y2 Y1 (X++B) p2 (List.length_pos_iff.1 (by omega)) (List.length_pos_iff.1 (by omega)) (by omega) (by omega) (by rw [h2];simp;omega) (by unfold big;simp;omega) m (by omega)
  rw [e1,←hY2l]
  rw [show A++Y2++Y1++X++B=A++Y2++Y1++(X++B) by simp,this]
  simp
theorem rot_eq {n:Nat} (A X Y B:List RowA) {p1 p2 p3:Int} (hX:X≠[]) (hY:Y≠[]) (hn:X.length+Y.length<n) (h1:p1=(A.length:Int)) (h2:p2=((A.length+X.length:Nat):Int)) (h3:p3=((A.length+X.length+Y.length:Nat):Int)) (hlen:(A++X++Y++B).length≤big):
  f_rot n (A++X++Y++B) p1 p2 p3=some (A++Y++X++B):=by
 have hb:=hlen
 unfold big at hb
 simp only [List.length_append] at hb
 unfold f_rot
 have e1:wI (p2-p1)=(X.length:Int):=by rw [h1,h2,wI_eq (by omega) (by omega)];omega
 have e2:wI (p3-p2)=(Y.length:Int):=by rw [h2,h3,wI_eq (by omega) (by omega)];omega
 rw [ret_eq,ret_eq,e1,e2]
 exact rot_loop (n:=n) (X.length+Y.length) A X Y B p2 hX hY (Nat.le_refl _) hn h2 hlen n (by omega)

/-! ### Merging -/
theorem half_eq {x:Nat} (h:x≤4294967296):wI ((shr64 (toU64 (wI (x:Int))) 1).toNat:Int)=((x / 2:Nat):Int):=by
 have e:(toU64 (wI (x:Int))).toNat=x:=by
  rw [wI_eq (by omega) (by omega)]
  simp only [toU64,UInt64.toNat_ofNat']
  omega
 rw [shr64_nat _ _ (by decide),e,wI_eq (by omega) (by omega)]
theorem bs_loop {β:Type} {F:(Int×Int→Option β)→Int×Int→Option β} {z:Nat→Option β} (test:Nat→Bool) (lo hi:Nat)
  (hs:∀i j:Nat,lo≤i→i<j→j≤hi→∀nx,F nx ((i:Int),(j:Int))=cond (test ((i+j) / 2)) (nx ((((i+j) / 2+1:Nat):Int),(j:Int))) (nx ((i:Int),(((i+j) / 2:Nat):Int))))
  (he:∀(i:Nat) nx,lo≤i→i≤hi→F nx ((i:Int),(i:Int))=z i) (hmono:∀c d,lo≤c→c≤d→d<hi→test d=true→test c=true) (hlh:lo≤hi):
  ∃s,lo≤s∧s≤hi∧(∀c,lo≤c→c<s→test c=true)∧(∀c,s≤c→c<hi→test c=false)∧∀m,hi-lo<m→loopN F m ((lo:Int),(hi:Int))=z s:=by
 have key:∀(d i j:Nat),j-i≤d→lo≤i→i≤j→j≤hi→(∀c,lo≤c→c<i→test c=true)→(∀c,j≤c→c<hi→test c=false)→
   ∃s,lo≤s∧s≤hi∧(∀c,lo≤c→c<s→test c=true)∧(∀c,s≤c→c<hi→test c=false)∧∀m,j-i<m→loopN F m ((i:Int),(j:Int))=z s:=by
  intro d
  induction d with
  | zero=>
   intro i j hd h1 h2 h3 h4 h5
   obtain rfl:i=j:=by omega
   refine ⟨i,h1,h3,h4,h5,fun m hm=>?_⟩
   obtain ⟨m,rfl⟩:∃k,m=k+1:=⟨m-1,by omega⟩
   exact he i _ h1 h3
  | succ d ih=>
   intro i j hd h1 h2 h3 h4 h5
   by_cases hij:i=j
   subst hij
   refine ⟨i,h1,h3,h4,h5,fun m hm=>?_⟩
   obtain ⟨m,rfl⟩:∃k,m=k+1:=⟨m-1,by omega⟩
   exact he i _ h1 h3
   have hlt:i<j:=by omega
   have hc1:i≤(i+j) / 2:=by omega
   have hc2:(i+j) / 2<j:=by omega
   by_cases ht:test ((i+j) / 2)=true
   obtain ⟨s,a1,a2,a3,a4,a5⟩:=ih ((i+j) / 2+1) j (by omega) (by omega) (by omega) h3 (fun c hc hc'=>hmono c ((i+j) / 2) hc (by omega) (by omega) ht) h5
   refine ⟨s,a1,a2,a3,a4,fun m hm=>?_⟩
   obtain ⟨m,rfl⟩:∃k,m=k+1:=⟨m-1,by omega⟩
   show F (loopN F m) _=_
   rw [hs i j h1 hlt h3,ht,cond_true]
   exact a5 m (by omega)
   have ht':test ((i+j) / 2)=false:=by simpa using ht
   obtain ⟨s,a1,a2,a3,a4,a5⟩:=ih i ((i+j) / 2) (by omega) h1 (by omega) (by omega) h4 (fun c hc hc'=>by
    by_cases hcj:test c=true
    exact absurd (hmono ((i+j) / 2) c (by omega) hc hc' hcj) ht
    simpa using hcj)
   refine ⟨s,a1,a2,a3,a4,fun m hm=>?_⟩
   obtain ⟨m,rfl⟩:∃k,m=k+1:=⟨m-1,by omega⟩
   show F (loopN F m) _=_
   rw [hs i j h1 hlt h3,ht',cond_false]
   exact a5 m (by omega)
 exact key (hi-lo) lo hi (Nat.le_refl _) (Nat.le_refl _) hlh (Nat.le_refl _) (fun c h1 h2=>by omega) (fun c h1 h2=>by omega)

def row0:RowA:=⟨0,0,0,[]⟩
theorem getD_row {l:List RowA} {i:Nat} (h:i<l.length):l.getD i row0=l[i]:=by simp [List.getD_eq_getElem?_getD,h]
theorem srt_get {X:List RowA} (h:Srt X) {i j:Nat} (hij:i≤j) (hj:j<X.length):(X.getD i row0).id≤(X.getD j row0).id:=by
 rw [getD_row (show i<X.length by omega),getD_row hj]
 rcases Nat.lt_or_ge i j with h1 | h1
 exact List.pairwise_iff_getElem.1 h i j (by omega) hj h1
 obtain rfl:i=j:=by omega
 exact UInt64.le_refl _
theorem getD_A {A X R:List RowA} {i:Nat} (h:i<X.length):(A++X++R).getD (A.length+i) row0=X.getD i row0:=by
 simp only [List.getD_eq_getElem?_getD]
 rw [List.append_assoc,List.getElem?_append_right (by omega),Nat.add_sub_cancel_left,List.getElem?_append_left h]
theorem getD_Y {A X Y R:List RowA} {i:Nat} (h:i<Y.length):(A++X++Y++R).getD (A.length+X.length+i) row0=Y.getD i row0:=by
 have:=getD_A (A:=A++X) (X:=Y) (R:=R) (i:=i) h
 simpa using this
theorem mv_right (R:List RowA) (x:RowA) (a1:Int):∀(Y A:List RowA),a1=((A.length+Y.length+1:Nat):Int)→(A++x::Y++R).length≤big→∀m,Y.length<m→
  f_sym_l2 a1 m (A++x::Y++R,(A.length:Int))=some (A++Y++x::R)
 | [],A,h1,hlen,m,hm=>by
  obtain ⟨m,rfl⟩:∃k,m=k+1:=⟨m-1,by omega⟩
  unfold big at hlen
  simp at hlen
  show f_sym_l2_b _ (f_sym_l2 _ m) _ _=_
  unfold f_sym_l2_b
  dsimp only
  simp only [List.length_nil] at h1
  rw [h1,wI_eq (by omega) (by omega),decide_eq_false (by omega),cond_false]
  unfold f_sym_j3
  simp
 | y::Y,A,h1,hlen,m,hm=>by
  obtain ⟨m,rfl⟩:∃k,m=k+1:=⟨m-1,by omega⟩
  unfold big at hlen
  simp only [List.length_append,List.length_cons] at hlen h1 hm
  have e1:wI ((A.length:Int)+1)=((A.length+1:Nat):Int):=by rw [wI_eq (by omega) (by omega)];omega
  have n1:nthI (A++x::y::Y++R) ((A.length+1:Nat):Int)=some y:=by
   have:=nth_mid (A++[x]) y (Y++R) (i:=((A.length+1:Nat):Int)) (by simp)
   simpa using this
  have n2:nthI (A++x::y::Y++R) (A.length:Int)=some x:=by
   have:=nth_mid A x (y::Y++R) (i:=(A.length:Int)) rfl
   simpa using this
  have s1:setI (A++x::y::Y++R) (A.length:Int) y=some (A++y::y::Y++R):=by
   have:=set_mid A x y (y::Y++R) (i:=(A.length:Int)) rfl
   simpa using this
  have n3:nthI (A++y::y::Y++R) ((A.length+1:Nat):Int)=some y:=by
   have:=nth_mid (A++[y]) y (Y++R) (i:=((A.length+1:Nat):Int)) (by simp)
   simpa using this
  have s2:setI (A++y::y::Y++R) ((A.length+1:Nat):Int) x=some (A++y::x::Y++R):=by
   have:=set_mid (A++[y]) y x (Y++R) (i:=((A.length+1:Nat):Int)) (by simp)
   simpa using this
  show f_sym_l2_b _ (f_sym_l2 _ m) _ _=_
  unfold f_sym_l2_b
  dsimp only
  rw [h1,wI_eq (x:=_-1) (by omega) (by omega),decide_eq_true (by omega),cond_true,e1,n1,some_bind,n2,some_bind,some_bind,s1,some_bind,n3,some_bind,s2,some_bind,ret_eq]
  have:=mv_right R x a1 Y (A++[y]) (by rw [h1];simp;omega) (by unfold big;simp;omega) m (by omega)
  rw [h1] at this
  simpa using this
theorem mv_left (A:List RowA) (y:RowA):∀(k:Nat) (S R:List RowA),S.length=k→(A++S++y::R).length≤big→∀m,k<m→
  f_sym_l4 (A.length:Int) m (A++S++y::R,((A.length+k:Nat):Int))=some (A++y::S++R)
 | 0,S,R,hk,hlen,m,hm=>by
  have hS:S=[]:=List.length_eq_zero_iff.1 hk
  subst hS
  obtain ⟨m,rfl⟩:∃k,m=k+1:=⟨m-1,by omega⟩
  show f_sym_l4_b _ (f_sym_l4 _ m) _ _=_
  unfold f_sym_l4_b
  dsimp only
  rw [decide_eq_false (by omega),cond_false]
  unfold f_sym_j6
  simp
 | k+1,S,R,hk,hlen,m,hm=>by
  obtain ⟨S,z,rfl⟩:∃S0 z,S=S0++[z]:=⟨_,_,(List.dropLast_concat_getLast (by intro e;rw [e] at hk;simp at hk)).symm⟩
  have hk0:S.length=k:=by simpa using hk
  obtain ⟨m,rfl⟩:∃k,m=k+1:=⟨m-1,by omega⟩
  unfold big at hlen
  simp only [List.length_append,List.length_cons,List.length_nil] at hlen
  have e1:wI (((A.length+(k+1):Nat):Int)-1)=((A.length+k:Nat):Int):=by rw [wI_eq (by omega) (by omega)];omega
  have n1:nthI (A++(S++[z])++y::R) ((A.length+k:Nat):Int)=some z:=by
   have:=nth_mid (A++S) z (y::R) (i:=((A.length+k:Nat):Int)) (by simp;omega)
   simpa using this
  have n2:nthI (A++(S++[z])++y::R) ((A.length+(k+1):Nat):Int)=some y:=by
   have:=nth_mid (A++(S++[z])) y R (i:=((A.length+(k+1):Nat):Int)) (by simp;omega)
   simpa using this
  have s1:setI (A++(S++[z])++y::R) ((A.length+(k+1):Nat):Int) z=some (A++(S++[z])++z::R):=by
   have:=set_mid (A++(S++[z])) y z R (i:=((A.length+(k+1):Nat):Int)) (by simp;omega)
   simpa using this
  have n3:nthI (A++(S++[z])++z::R) ((A.length+k:Nat):Int)=some z:=by
   have:=nth_mid (A++S) z (z::R) (i:=((A.length+k:Nat):Int)) (by simp;omega)
   simpa using this
  have s2:setI (A++(S++[z])++z::R) ((A.length+k:Nat):Int) y=some (A++(S++[y])++z::R):=by
   have:=set_mid (A++S) z y (z::R) (i:=((A.length+k:Nat):Int)) (by simp;omega)
   simpa using this
  show f_sym_l4_b _ (f_sym_l4 _ m) _ _=_
  unfold f_sym_l4_b
  dsimp only
  rw [decide_eq_true (by omega),cond_true,e1,n1,some_bind,n2,some_bind,some_bind,s1,some_bind,n3,some_bind,s2,some_bind,ret_eq]
  have:=mv_left A y k S (z::R) hk0 (by unfold big;simp;omega) m (by omega)
  simpa using this
theorem load1_not (a b:RowA):∃y,f_grove_Load_1 a b=some y∧(!(decide (y<0)))=decide (b.id≤a.id):=by
 obtain ⟨y,h1,h2⟩:=load1_lt a b
 refine ⟨y,h1,?_⟩
 rw [h2,Bool.eq_iff_iff]
 simp only [Bool.not_eq_true',decide_eq_false_iff_not,decide_eq_true_eq]
 exact ⟨u64_le_of_not_lt,fun h h'=>u64_irr h' h⟩
theorem sym_eq (n:Nat):∀(f:Nat) (A X Y B:List RowA) (p1 p2 p3:Int),X≠[]→Y≠[]→X.length+Y.length≤f→X.length+Y.length+1<n→p1=(A.length:Int)→p2=((A.length+X.length:Nat):Int)→p3=((A.length+X.length+Y.length:Nat):Int)→
  (A++X++Y++B).length≤big→Srt X→Srt Y→∃Z,Z.Perm (X++Y)∧Srt Z∧symF n f (A++X++Y++B) p1 p2 p3=some (A++Z++B)
 | 0,A,X,Y,B,p1,p2,p3,hX,hY,hf,hn,h1,h2,h3,hlen,hsX,hsY=>absurd (List.length_eq_zero_iff.1 (by omega)) hX
 | f+1,A,X,Y,B,p1,p2,p3,hX,hY,hf,hn,h1,h2,h3,hlen,hsX,hsY=>by
  have hX1:=List.length_pos_iff.2 hX
  have hY1:=List.length_pos_iff.2 hY
  have hb:=hlen
  unfold big at hb
  simp only [List.length_append] at hb
  have gX:∀i,i<X.length→nthI (A++X++Y++B) ((A.length+i:Nat):Int)=some (X.getD i row0):=fun i hi=>by
   rw [nthI_getD row0 rfl (by simp;omega),List.append_assoc (A++X),getD_A hi]
  have gY:∀i,i<Y.length→nthI (A++X++Y++B) ((A.length+X.length+i:Nat):Int)=some (Y.getD i row0):=fun i hi=>by
   rw [nthI_getD row0 rfl (by simp;omega),getD_Y hi]
  have e21:wI (p2-p1)=(X.length:Int):=by rw [h1,h2,wI_eq (by omega) (by omega)];omega
  have e32:wI (p3-p2)=(Y.length:Int):=by rw [h3,h2,wI_eq (by omega) (by omega)];omega
  show ∃Z,Z.Perm (X++Y)∧Srt Z∧f_sym (symF n f) n _ _ _ _=_
  unfold f_sym
  rw [e21]
  by_cases hx1:X.length=1
  
  obtain ⟨x,rfl⟩:=List.length_eq_one_iff.1 hx1
  rw [decide_eq_true (by simp),cond_true]
  simp only [List.length_singleton] at*
  obtain ⟨s,b1,b2,b3,b4,b5⟩:=bs_loop (F:=fun nx ww=>f_sym_l1_b n (A++[x]++Y++B) p1 nx ww.1 ww.2) (z:=fun i=>f_sym_j2 n (A++[x]++Y++B) p1 (i:Int))
   (fun c=>decide ((Y.getD (c-(A.length+1)) row0).id<x.id)) (A.length+1) (A.length+1+Y.length) (fun i j hi hij hj nx=>by
    obtain ⟨y,hy,hlt⟩:=load1_lt (Y.getD ((i+j) / 2-(A.length+1)) row0) x
    have g:=gY ((i+j) / 2-(A.length+1)) (by omega)
    rw [show A.length+1+((i+j) / 2-(A.length+1))=(i+j) / 2 by omega] at g
    have gx:=gX 0 (by omega)
    simp only [f_sym_l1_b]
    rw [decide_eq_true (by omega),cond_true,ret_eq,show (i:Int)+(j:Int)=((i+j:Nat):Int) by omega,half_eq (by omega),g,some_bind,h1,show (A.length:Int)=((A.length+0:Nat):Int) from rfl,gx,some_bind]
    rw [show ([x]:List RowA).getD 0 row0=x from rfl,hy,some_bind,hlt,ret_eq,wI_eq (by omega) (by omega)]
    rfl) (fun i nx _ _=>by
    simp only [f_sym_l1_b]
    rw [decide_eq_false (by omega),cond_false]) (fun c d hc hcd hd ht=>by
    rw [decide_eq_true_eq] at ht ⊢
    exact u64_le_lt (srt_get hsY (by omega) (by omega)) ht) (by omega)
  refine ⟨Y.take (s-(A.length+1))++x::Y.drop (s-(A.length+1)),?_,?_,?_⟩
  refine List.perm_middle.trans ?_
  rw [List.take_append_drop]
  exact List.Perm.refl _
  refine srt_append.2 ⟨List.Pairwise.sublist (List.take_sublist ..) hsY,List.pairwise_cons.2 ⟨fun y hy=>?_,List.Pairwise.sublist (List.drop_sublist ..) hsY⟩,fun u hu w hw=>?_⟩
  obtain ⟨i,hi,rfl⟩:=List.getElem_of_mem hy
  simp only [List.length_drop] at hi
  have:=b4 s (by omega) (by omega)
  rw [decide_eq_false_iff_not] at this
  have h5:=u64_le_of_not_lt this
  rw [List.getElem_drop]
  have h6:=srt_get hsY (i:=s-(A.length+1)) (j:=s-(A.length+1)+i) (by omega) (by omega)
  rw [getD_row (show s-(A.length+1)+i<Y.length by omega)] at h6
  exact u64_le_trans h5 h6
  obtain ⟨i,hi,rfl⟩:=List.getElem_of_mem hu
  simp only [List.length_take] at hi
  have:=b3 (A.length+1+i) (by omega) (by omega)
  rw [decide_eq_true_eq,Nat.add_sub_cancel_left,getD_row (by omega)] at this
  rw [List.getElem_take]
  rcases List.mem_cons.1 hw with rfl | hw
  exact u64_le_of_lt this
  obtain ⟨k,hk,rfl⟩:=List.getElem_of_mem hw
  simp only [List.length_drop] at hk
  rw [List.getElem_drop]
  exact List.pairwise_iff_getElem.1 hsY i (s-(A.length+1)+k) (by omega) (by omega) (by omega)
  have e2:p2=((A.length+1:Nat):Int):=h2
  have e3:p3=((A.length+1+Y.length:Nat):Int):=h3
  have hb5:=b5 n (by omega)
  unfold f_sym_l1
  rw [e2,e3,hb5]
  unfold f_sym_j2
  have:=mv_right (Y.drop (s-(A.length+1))++B) x (s:Int) (Y.take (s-(A.length+1))) A (by simp;omega) (by unfold big;simp;omega) n (by simp;omega)
  rw [h1,show A++[x]++Y++B=A++x::Y.take (s-(A.length+1))++(Y.drop (s-(A.length+1))++B) by
   conv=>lhs;rw [←List.take_append_drop (s-(A.length+1)) Y]
   simp only [List.append_assoc,List.cons_append,List.nil_append],this]
  simp
  rw [decide_eq_false (by omega),cond_false]
  unfold f_sym_j1
  rw [e32]
  by_cases hy1:Y.length=1
  
  obtain ⟨y,rfl⟩:=List.length_eq_one_iff.1 hy1
  rw [decide_eq_true (by simp),cond_true]
  simp only [List.length_singleton] at*
  obtain ⟨s,b1,b2,b3,b4,b5⟩:=bs_loop (F:=fun nx ww=>f_sym_l3_b n p2 (A++X++[y]++B) nx ww.1 ww.2) (z:=fun i=>f_sym_j5 n p2 (A++X++[y]++B) (i:Int))
   (fun c=>decide ((X.getD (c-A.length) row0).id≤y.id)) A.length (A.length+X.length) (fun i j hi hij hj nx=>by
    obtain ⟨u,hu,hlt⟩:=load1_not y (X.getD ((i+j) / 2-A.length) row0)
    have g:=gX ((i+j) / 2-A.length) (by omega)
    rw [show A.length+((i+j) / 2-A.length)=(i+j) / 2 by omega] at g
    have gy:=gY 0 (by omega)
    simp only [f_sym_l3_b]
    rw [decide_eq_true (by omega),cond_true,ret_eq,show (i:Int)+(j:Int)=((i+j:Nat):Int) by omega,half_eq (by omega),h2,show ((A.length+X.length:Nat):Int)=((A.length+X.length+0:Nat):Int) from rfl,gy,some_bind,g,some_bind]
    rw [show ([y]:List RowA).getD 0 row0=y from rfl,hu,some_bind,hlt,ret_eq,wI_eq (by omega) (by omega)]
    rfl) (fun i nx _ _=>by
    simp only [f_sym_l3_b]
    rw [decide_eq_false (by omega),cond_false]) (fun c d hc hcd hd ht=>by
    rw [decide_eq_true_eq] at ht ⊢
    exact u64_le_trans (srt_get hsX (by omega) (by omega)) ht) (by omega)
  refine ⟨X.take (s-A.length)++y::X.drop (s-A.length),?_,?_,?_⟩
  refine List.perm_middle.trans ?_
  rw [List.take_append_drop]
  exact (List.perm_append_singleton y X).symm
  refine srt_append.2 ⟨List.Pairwise.sublist (List.take_sublist ..) hsX,List.pairwise_cons.2 ⟨fun w hw=>?_,List.Pairwise.sublist (List.drop_sublist ..) hsX⟩,fun u hu w hw=>?_⟩
  obtain ⟨i,hi,rfl⟩:=List.getElem_of_mem hw
  simp only [List.length_drop] at hi
  have:=b4 (s+i) (by omega) (by omega)
  rw [decide_eq_false_iff_not,show s+i-A.length=s-A.length+i by omega,getD_row (show s-A.length+i<X.length by omega)] at this
  rw [List.getElem_drop]
  rw [UInt64.le_iff_toNat_le] at*
  omega
  obtain ⟨i,hi,rfl⟩:=List.getElem_of_mem hu
  simp only [List.length_take] at hi
  have:=b3 (A.length+i) (by omega) (by omega)
  rw [decide_eq_true_eq,Nat.add_sub_cancel_left,getD_row (by omega)] at this
  rw [List.getElem_take]
  rcases List.mem_cons.1 hw with rfl | hw
  exact this
  obtain ⟨k,hk,rfl⟩:=List.getElem_of_mem hw
  simp only [List.length_drop] at hk
  rw [List.getElem_drop]
  exact List.pairwise_iff_getElem.1 hsX i (s-A.length+k) (by omega) (by omega) (by omega)
  have hb5:=b5 n (by omega)
  unfold f_sym_l3
  rw [h1]
  conv=>lhs;rw [show p2=((A.length+X.length:Nat):Int) from h2]
  rw [h2] at hb5
  rw [hb5]
  unfold f_sym_j5
  have:=mv_left (A++X.take (s-A.length)) y (A.length+X.length-s) (X.drop (s-A.length)) B (by simp;omega) (by unfold big;simp;omega) n (by omega)
  rw [show (A++X.take (s-A.length)).length=s by simp;omega] at this
  rw [show s+(A.length+X.length-s)=A.length+X.length by omega] at this
  rw [show A++X++[y]++B=A++X.take (s-A.length)++X.drop (s-A.length)++y::B by
   conv=>lhs;rw [←List.take_append_drop (s-A.length) X]
   simp only [List.append_assoc,List.cons_append,List.nil_append],this]
  simp
  rw [decide_eq_false (by omega),cond_false]
  
  obtain ⟨a,ha⟩:∃a,a=A.length:=⟨_,rfl⟩
  obtain ⟨m,hm⟩:∃m,m=A.length+X.length:=⟨_,rfl⟩
  obtain ⟨b,hbb⟩:∃b,b=A.length+X.length+Y.length:=⟨_,rfl⟩
  obtain ⟨mid,hmid⟩:∃mid,mid=(a+b) / 2:=⟨_,rfl⟩
  obtain ⟨lo,hi,hlh⟩:∃lo hi:Nat,(mid<m∧lo=mid+m-b∧hi=mid)∨(m≤mid∧lo=a∧hi=m):=by
   rcases Nat.lt_or_ge mid m with h | h
   exact ⟨_,_,.inl ⟨h,rfl,rfl⟩⟩
   exact ⟨_,_,.inr ⟨h,rfl,rfl⟩⟩
  rw [←ha] at h1
  rw [←hm] at h2
  rw [←hbb] at h3
  have hj4:f_sym_j4 n p1 p2 p3 (symF n f) (A++X++Y++B)=f_sym_j7 n p1 p2 p3 (symF n f) (A++X++Y++B) (mid:Int) ((mid+m:Nat):Int) (lo:Int) (hi:Int):=by
   unfold f_sym_j4
   rw [ret_eq,ret_eq,h1,h2,h3,show (a:Int)+(b:Int)=((a+b:Nat):Int) by omega,half_eq (by omega),←hmid,wI_eq (x:=(mid:Int)+_) (by omega) (by omega),show (mid:Int)+(m:Int)=((mid+m:Nat):Int) by omega]
   rcases hlh with ⟨h5,rfl,rfl⟩ | ⟨h5,rfl,rfl⟩
   rw [decide_eq_true (by omega),cond_true,ret_eq,wI_eq (by omega) (by omega)]
   congr 1
   omega
   rw [decide_eq_false (by omega),cond_false]
  rw [hj4]
  clear hj4
  unfold f_sym_j7
  rw [ret_eq,wI_eq (by omega) (by omega)]
  have hloa:a≤lo:=by omega
  have hlh2:lo≤hi:=by omega
  have him:hi≤m:=by omega
  have hpb:∀c,lo≤c→c<hi→m≤mid+m-1-c∧mid+m-1-c<b:=by
   intro c h5 h6
   omega
  obtain ⟨s,b1,b2,b3,b4,b5⟩:=bs_loop (F:=fun nx ww=>f_sym_l5_b n p1 p2 p3 (symF n f) (A++X++Y++B) (mid:Int) ((mid+m:Nat):Int) (((mid+m:Nat):Int)-1) nx ww.1 ww.2)
   (z:=fun i=>f_sym_j8 n p1 p2 p3 (symF n f) (A++X++Y++B) (mid:Int) ((mid+m:Nat):Int) (i:Int))
   (fun c=>decide ((X.getD (c-a) row0).id≤(Y.getD (mid+m-1-c-m) row0).id)) lo hi (fun i j hi1 hij hj nx=>by
    have hpp:=hpb ((i+j) / 2) (by omega) (by omega)
    obtain ⟨u,hu,hlt⟩:=load1_not (Y.getD (mid+m-1-(i+j) / 2-m) row0) (X.getD ((i+j) / 2-a) row0)
    have g:=gX ((i+j) / 2-a) (by omega)
    rw [show A.length+((i+j) / 2-a)=(i+j) / 2 by omega] at g
    have gy:=gY (mid+m-1-(i+j) / 2-m) (by omega)
    rw [show A.length+X.length+(mid+m-1-(i+j) / 2-m)=mid+m-1-(i+j) / 2 by omega] at gy
    simp only [f_sym_l5_b]
    rw [decide_eq_true (by omega),cond_true,ret_eq,show (i:Int)+(j:Int)=((i+j:Nat):Int) by omega,half_eq (by omega),wI_eq (x:=((mid+m:Nat):Int)-1-_) (by omega) (by omega),show ((mid+m:Nat):Int)-1-(((i+j) / 2:Nat):Int)=((mid+m-1-(i+j) / 2:Nat):Int) by omega,gy,some_bind,g,some_bind]
    rw [hu,some_bind,hlt,ret_eq,wI_eq (by omega) (by omega)]
    rfl) (fun i nx _ _=>by
    simp only [f_sym_l5_b]
    rw [decide_eq_false (by omega),cond_false]) (fun c d hc hcd hd ht=>by
    rw [decide_eq_true_eq] at ht ⊢
    have hp1:=hpb c hc (by omega)
    have hp2:=hpb d (by omega) hd
    refine u64_le_trans (srt_get hsX (show c-a≤d-a by omega) (by omega)) (u64_le_trans ht (srt_get hsY (by omega) (by omega)))) hlh2
  have hb5:=b5 n (by omega)
  unfold f_sym_l5
  rw [hb5]
  clear hb5 b5
  obtain ⟨e,he⟩:∃e,e=mid+m-s:=⟨_,rfl⟩
  have hem:m≤e:=by omega
  have heb:e≤b:=by omega
  have hx12:X=X.take (s-a)++X.drop (s-a):=(List.take_append_drop ..).symm
  have hy12:Y=Y.take (e-m)++Y.drop (e-m):=(List.take_append_drop ..).symm
  have lX1:(X.take (s-a)).length=s-a:=by simp;omega
  have lX2:(X.drop (s-a)).length=m-s:=by simp;omega
  have lY1:(Y.take (e-m)).length=e-m:=by simp;omega
  have lY2:(Y.drop (e-m)).length=b-e:=by simp;omega
  have q1:∀u∈X.take (s-a),∀w∈Y.drop (e-m),u.id≤w.id:=by
   intro u hu w hw
   obtain ⟨i,hi,rfl⟩:=List.getElem_of_mem hu
   obtain ⟨k,hk,rfl⟩:=List.getElem_of_mem hw
   rw [lX1] at hi
   rw [lY2] at hk
   rw [List.getElem_take,List.getElem_drop]
   have hs1:lo<s:=by omega
   have:=b3 (s-1) (by omega) (by omega)
   rw [decide_eq_true_eq] at this
   have h6:=srt_get hsX (i:=i) (j:=s-1-a) (by omega) (by omega)
   have h7:=srt_get hsY (i:=mid+m-1-(s-1)-m) (j:=e-m+k) (by omega) (by omega)
   rw [getD_row (show i<X.length by omega)] at h6
   rw [getD_row (show e-m+k<Y.length by omega)] at h7
   exact u64_le_trans h6 (u64_le_trans this h7)
  have q2:∀u∈Y.take (e-m),∀w∈X.drop (s-a),u.id≤w.id:=by
   intro u hu w hw
   obtain ⟨i,hii,rfl⟩:=List.getElem_of_mem hu
   obtain ⟨k,hk,rfl⟩:=List.getElem_of_mem hw
   rw [lY1] at hii
   rw [lX2] at hk
   rw [List.getElem_take,List.getElem_drop]
   have hs1:s<hi:=by omega
   have:=b4 s (by omega) hs1
   rw [decide_eq_false_iff_not] at this
   have h6:=srt_get hsY (i:=i) (j:=mid+m-1-s-m) (by omega) (by omega)
   have h7:=srt_get hsX (i:=s-a) (j:=s-a+k) (by omega) (by omega)
   rw [getD_row (show i<Y.length by omega)] at h6
   rw [getD_row (show s-a+k<X.length by omega)] at h7
   refine u64_le_trans h6 (u64_le_trans ?_ h7)
   rw [UInt64.le_iff_toNat_le] at*
   omega
  clear b3 b4
  generalize X.take (s-a)=X1 at*
  generalize X.drop (s-a)=X2 at*
  generalize Y.take (e-m)=Y1 at*
  generalize Y.drop (e-m)=Y2 at*
  subst hx12 hy12
  have sX:=srt_append.1 hsX
  have sY:=srt_append.1 hsY
  simp only [List.length_append] at*
  have hj8:f_sym_j8 n p1 p2 p3 (symF n f) (A++(X1++X2)++(Y1++Y2)++B) (mid:Int) ((mid+m:Nat):Int) (s:Int)=f_sym_j9 p1 p3 (symF n f) (mid:Int) (s:Int) (e:Int) (A++(X1++Y1)++(X2++Y2)++B):=by
   unfold f_sym_j8
   rw [ret_eq,wI_eq (by omega) (by omega),show ((mid+m:Nat):Int)-(s:Int)=(e:Int) by omega,h2]
   by_cases hc:s<m∧m<e
   rw [decide_eq_true (by omega),decide_eq_true (by omega)]
   simp only [Bool.and_self,cond_true]
   have:=rot_eq (n:=n) (A++X1) X2 Y1 (Y2++B) (p1:=(s:Int)) (p2:=(m:Int)) (p3:=(e:Int)) (List.length_pos_iff.1 (by omega)) (List.length_pos_iff.1 (by omega)) (by omega) (by simp;omega) (by simp;omega) (by simp;omega) (by unfold big;simp;omega)
   rw [show A++(X1++X2)++(Y1++Y2)++B=A++X1++X2++Y1++(Y2++B) by simp,this,some_bind]
   congr 1
   simp
   rw [show (decide ((s:Int)<(m:Int))&&decide ((m:Int)<(e:Int)))=false by
    simp only [Bool.and_eq_false_iff,decide_eq_false_iff_not]
    omega,cond_false]
   congr 1
   by_cases hc1:s<m
   have:Y1=[]:=List.length_eq_zero_iff.1 (by omega)
   subst this
   simp
   have:X2=[]:=List.length_eq_zero_iff.1 (by omega)
   subst this
   simp
  rw [hj8]
  clear hj8
  obtain ⟨Z1,z1,z2,z3⟩:∃Z1,Z1.Perm (X1++Y1)∧Srt Z1∧f_sym_j9 p1 p3 (symF n f) (mid:Int) (s:Int) (e:Int) (A++(X1++Y1)++(X2++Y2)++B)=f_sym_j10 p3 (symF n f) (mid:Int) (e:Int) (A++Z1++(X2++Y2)++B):=by
   unfold f_sym_j9
   by_cases hc:a<s∧s<mid
   obtain ⟨Z1,z1,z2,z3⟩:=sym_eq n f A X1 Y1 ((X2++Y2)++B) p1 (s:Int) (mid:Int) (List.length_pos_iff.1 (by omega)) (List.length_pos_iff.1 (by omega)) (by omega) (by omega) (by omega) (by omega) (by omega) (by unfold big;simp;omega) sX.1 sY.1
   refine ⟨Z1,z1,z2,?_⟩
   rw [decide_eq_true (by omega),decide_eq_true (by omega)]
   simp only [Bool.and_self,cond_true]
   rw [show A++(X1++Y1)++(X2++Y2)++B=A++X1++Y1++((X2++Y2)++B) by simp,z3,some_bind]
   congr 1
   simp
   refine ⟨X1++Y1,List.Perm.refl _,?_,?_⟩
   by_cases hc1:a<s
   have:Y1=[]:=List.length_eq_zero_iff.1 (by omega)
   subst this
   simpa using sX.1
   have:X1=[]:=List.length_eq_zero_iff.1 (by omega)
   subst this
   simpa using sY.1
   rw [show (decide (p1<(s:Int))&&decide ((s:Int)<(mid:Int)))=false by
    simp only [Bool.and_eq_false_iff,decide_eq_false_iff_not]
    omega,cond_false]
  rw [z3]
  clear z3
  have lZ1:Z1.length=mid-a:=by
   rw [z1.length_eq]
   simp
   omega
  obtain ⟨Z2,y1,y2,y3⟩:∃Z2,Z2.Perm (X2++Y2)∧Srt Z2∧f_sym_j10 p3 (symF n f) (mid:Int) (e:Int) (A++Z1++(X2++Y2)++B)=some (A++Z1++Z2++B):=by
   unfold f_sym_j10
   by_cases hc:mid<e∧e<b
   obtain ⟨Z2,y1,y2,y3⟩:=sym_eq n f (A++Z1) X2 Y2 B (mid:Int) (e:Int) p3 (List.length_pos_iff.1 (by omega)) (List.length_pos_iff.1 (by omega)) (by omega) (by omega) (by simp;omega) (by simp;omega) (by simp;omega) (by unfold big;simp;omega) sX.2.1 sY.2.1
   refine ⟨Z2,y1,y2,?_⟩
   rw [decide_eq_true (by omega),decide_eq_true (by omega)]
   simp only [Bool.and_self,cond_true]
   rw [show A++Z1++(X2++Y2)++B=A++Z1++X2++Y2++B by simp,y3,some_bind]
   refine ⟨X2++Y2,List.Perm.refl _,?_,?_⟩
   by_cases hc1:mid<e
   have:Y2=[]:=List.length_eq_zero_iff.1 (by omega)
   subst this
   simpa using sX.2.1
   have:X2=[]:=List.length_eq_zero_iff.1 (by omega)
   subst this
   simpa using sY.2.1
   rw [show (decide ((mid:Int)<(e:Int))&&decide ((e:Int)<p3))=false by
    simp only [Bool.and_eq_false_iff,decide_eq_false_iff_not]
    omega,cond_false]
  rw [y3]
  refine ⟨Z1++Z2,?_,?_,by simp⟩
  refine (z1.append y1).trans ?_
  rw [List.append_assoc,List.append_assoc]
  refine List.Perm.append_left X1 ?_
  rw [←List.append_assoc,←List.append_assoc]
  exact List.Perm.append_right Y2 List.perm_append_comm
  refine srt_append.2 ⟨z2,y2,fun u hu w hw=>?_⟩
  have hu:=z1.mem_iff.1 hu
  have hw:=y1.mem_iff.1 hw
  rcases List.mem_append.1 hu with hu | hu<;>rcases List.mem_append.1 hw with hw | hw
  exact sX.2.2 u hu w hw
  exact q1 u hu w hw
  exact q2 u hu w hw
  exact sY.2.2 u hu w hw
/-! ### Blocks, each sorted -/
inductive SB (bs:Nat):List RowA→Prop
 | last (S:List RowA):S.length≤bs→Srt S→SB bs S
 | more (S R:List RowA):S.length=bs→Srt S→SB bs R→SB bs (S++R)
theorem SB.one {bs:Nat} {l:List RowA} (h:SB bs l) (hl:l.length≤bs):Srt l:=by
 cases h with
 | last _ _ hs=>exact hs
 | more S R hS hs hR=>
  have:R=[]:=List.length_eq_zero_iff.1 (by simp at hl;omega)
  subst this
  simpa using hs
theorem merge_pass {n bs:Nat} (hbs:0<bs) (N:Nat) (hN:N+2≤n) (hNb:N+4*bs≤big):∀(k:Nat) (D R:List RowA),R.length≤k→D.length+R.length=N→SB bs R→
  ∃R',R'.Perm R∧SB (2*bs) R'∧∀(nx:List RowA×Int→Option (List RowA)) (m:Nat),k<m→f_stb_l3 n (N:Int) (bs:Int) nx m (D++R,(D.length:Int),((D.length+2*bs:Nat):Int))=f_stb_j3 (bs:Int) nx (D++R'):=by
 unfold big at hNb
 intro k
 induction k with
 | zero=>
  intro D R hk hN' h
  have hR:R=[]:=List.length_eq_zero_iff.1 (by omega)
  subst hR
  refine ⟨[],List.Perm.refl _,.last [] (by simp) List.Pairwise.nil,fun nx m hm=>?_⟩
  obtain ⟨m,rfl⟩:∃k,m=k+1:=⟨m-1,by omega⟩
  simp at hN'
  show f_stb_l3_b _ _ _ _ (f_stb_l3 _ _ _ _ m) _ _ _=_
  unfold f_stb_l3_b
  dsimp only
  rw [decide_eq_false (by omega),cond_false]
  unfold f_stb_j2
  rw [ret_eq,wI_eq (by omega) (by omega),decide_eq_false (by omega),cond_false]
 | succ k ih=>
  intro D R hk hN' h
  
  have two:∀(S T U:List RowA),S.length=bs→T≠[]→D.length+S.length+T.length+U.length=N→Srt S→Srt T→∃Z,Z.Perm (S++T)∧Srt Z∧symN n (D++(S++(T++U))) (D.length:Int) ((D.length+bs:Nat):Int) ((D.length+bs+T.length:Nat):Int)=some (D++(Z++U)):=by
   intro S T U hS hT hl h1 h2
   have hTp:=List.length_pos_iff.2 hT
   obtain ⟨Z,a1,a2,a3⟩:=sym_eq n n D S T U (D.length:Int) ((D.length+bs:Nat):Int) ((D.length+bs+T.length:Nat):Int) (List.length_pos_iff.1 (by omega)) hT (by omega) (by omega) rfl (by rw [hS]) (by rw [hS]) (by unfold big;simp;omega) h1 h2
   refine ⟨Z,a1,a2,?_⟩
   have:symN n=symF n n:=rfl
   rw [this]
   simpa using a3
  have big3:∀(S T U:List RowA),S.length=bs→T.length=bs→R=S++(T++U)→Srt S→Srt T→SB bs U→∃R',R'.Perm R∧SB (2*bs) R'∧∀(nx:List RowA×Int→Option (List RowA)) (m:Nat),k+1<m→f_stb_l3 n (N:Int) (bs:Int) nx m (D++R,(D.length:Int),((D.length+2*bs:Nat):Int))=f_stb_j3 (bs:Int) nx (D++R'):=by
   intro S T U hS hT hR h1 h2 h3
   subst hR
   simp only [List.length_append] at hk hN'
   obtain ⟨Z,a1,a2,a3⟩:=two S T U hS (List.length_pos_iff.1 (by omega)) (by omega) h1 h2
   have hZ:Z.length=2*bs:=by rw [a1.length_eq];simp;omega
   obtain ⟨U',u1,u2,u3⟩:=ih (D++Z) U (by omega) (by simp;omega) h3
   refine ⟨Z++U',?_,.more Z U' hZ a2 u2,fun nx m hm=>?_⟩
   refine (a1.append u1).trans ?_
   simp
   obtain ⟨m,rfl⟩:∃k,m=k+1:=⟨m-1,by omega⟩
   show f_stb_l3_b _ _ _ _ (f_stb_l3 _ _ _ _ m) _ _ _=_
   unfold f_stb_l3_b
   dsimp only
   rw [decide_eq_true (by omega),cond_true,wI_eq (x:=(D.length:Int)+_) (by omega) (by omega),show (D.length:Int)+(bs:Int)=((D.length+bs:Nat):Int) by omega,show ((D.length+2*bs:Nat):Int)=((D.length+bs+T.length:Nat):Int) by omega,a3,some_bind,ret_eq,wI_eq (x:=2*(bs:Int)) (by omega) (by omega),wI_eq (by omega) (by omega)]
   have:=u3 nx m (by omega)
   rw [show (D++Z).length=D.length+bs+T.length by simp;omega] at this
   rw [show ((D.length+bs+T.length:Nat):Int)+2*(bs:Int)=((D.length+bs+T.length+2*bs:Nat):Int) by omega]
   simpa using this
  
  have fin:∀(S T:List RowA),S.length=bs→T.length<bs→R=S++T→Srt S→Srt T→∃R',R'.Perm R∧SB (2*bs) R'∧∀(nx:List RowA×Int→Option (List RowA)) (m:Nat),k+1<m→f_stb_l3 n (N:Int) (bs:Int) nx m (D++R,(D.length:Int),((D.length+2*bs:Nat):Int))=f_stb_j3 (bs:Int) nx (D++R'):=by
   intro S T hS hT hR h1 h2
   subst hR
   simp only [List.length_append] at hk hN'
   by_cases hT0:T=[]
   subst hT0
   refine ⟨S++[],List.Perm.refl _,.last _ (by simp;omega) (by simpa using h1),fun nx m hm=>?_⟩
   obtain ⟨m,rfl⟩:∃k,m=k+1:=⟨m-1,by omega⟩
   simp only [List.length_nil] at*
   show f_stb_l3_b _ _ _ _ (f_stb_l3 _ _ _ _ m) _ _ _=_
   unfold f_stb_l3_b
   dsimp only
   rw [decide_eq_false (by omega),cond_false]
   unfold f_stb_j2
   rw [ret_eq,wI_eq (by omega) (by omega),decide_eq_false (by omega),cond_false]
   obtain ⟨Z,a1,a2,a3⟩:=two S T [] hS hT0 (by simp;omega) h1 h2
   have hTp:=List.length_pos_iff.2 hT0
   refine ⟨Z,a1,.last Z (by rw [a1.length_eq];simp;omega) a2,fun nx m hm=>?_⟩
   obtain ⟨m,rfl⟩:∃k,m=k+1:=⟨m-1,by omega⟩
   show f_stb_l3_b _ _ _ _ (f_stb_l3 _ _ _ _ m) _ _ _=_
   unfold f_stb_l3_b
   dsimp only
   rw [decide_eq_false (by omega),cond_false]
   unfold f_stb_j2
   rw [ret_eq,wI_eq (by omega) (by omega),decide_eq_true (by omega),cond_true,show (D.length:Int)+(bs:Int)=((D.length+bs:Nat):Int) by omega,show (N:Int)=((D.length+bs+T.length:Nat):Int) by omega]
   simp only [List.append_nil] at a3
   rw [a3,some_bind]
  cases h with
  | last S hl hs=>
   by_cases hlt:R.length<bs
   refine ⟨R,List.Perm.refl _,.last R (by omega) hs,fun nx m hm=>?_⟩
   obtain ⟨m,rfl⟩:∃k,m=k+1:=⟨m-1,by omega⟩
   show f_stb_l3_b _ _ _ _ (f_stb_l3 _ _ _ _ m) _ _ _=_
   unfold f_stb_l3_b
   dsimp only
   rw [decide_eq_false (by omega),cond_false]
   unfold f_stb_j2
   rw [ret_eq,wI_eq (by omega) (by omega),decide_eq_false (by omega),cond_false]
   exact fin R [] (by omega) (by simpa using hbs) (by simp) hs List.Pairwise.nil
  | more S R1 hS hs hR=>
   cases hR with
   | last T hl ht=>
    by_cases hlt:R1.length<bs
    exact fin S R1 hS hlt rfl hs ht
    exact big3 S R1 [] hS (by omega) (by simp) hs ht (.last [] (by simp) List.Pairwise.nil)
   | more T U hT ht hU=>exact big3 S T U hS hT rfl hs ht hU
theorem stable_loop {n:Nat} (N:Nat) (hN:2*N+2≤n) (hNb:6*N≤1073741824):∀(k bs:Nat) (l:List RowA),0<bs→N-bs≤k→l.length=N→SB bs l→∃l',l'.Perm l∧Srt l'∧∀m,k<m→f_stb_l2 n (N:Int) m (l,(bs:Int))=some l':=by
 intro k
 induction k with
 | zero=>
  intro bs l hbs hk hl h
  refine ⟨l,List.Perm.refl _,h.one (by omega),fun m hm=>?_⟩
  obtain ⟨m,rfl⟩:∃k,m=k+1:=⟨m-1,by omega⟩
  show f_stb_l2_b _ _ (f_stb_l2 _ _ m) _ _=_
  unfold f_stb_l2_b
  dsimp only
  rw [decide_eq_false (by omega),cond_false]
 | succ k ih=>
  intro bs l hbs hk hl h
  by_cases hlt:bs<N
  obtain ⟨R',r1,r2,r3'⟩:=merge_pass (n:=n) hbs N (by omega) (by unfold big;omega) N [] l (by omega) (by simp [hl]) h
  have r3:∀(nx:List RowA×Int→Option (List RowA)) (m:Nat),N<m→f_stb_l3 n (N:Int) (bs:Int) nx m (l,0,((2*bs:Nat):Int))=f_stb_j3 (bs:Int) nx R':=fun nx m hm=>by
   have:=r3' nx m hm
   simpa using this
  obtain ⟨l',b1,b2,b3⟩:=ih (2*bs) R' (by omega) (by omega) (by rw [r1.length_eq,hl]) r2
  refine ⟨l',b1.trans r1,b2,fun m hm=>?_⟩
  obtain ⟨m,rfl⟩:∃k,m=k+1:=⟨m-1,by omega⟩
  show f_stb_l2_b _ _ (f_stb_l2 _ _ m) _ _=_
  unfold f_stb_l2_b
  dsimp only
  rw [decide_eq_true (by omega),cond_true,ret_eq,wI_eq (by omega) (by omega),show (2:Int)*(bs:Int)=((2*bs:Nat):Int) by omega,r3 _ n (by omega)]
  unfold f_stb_j3
  rw [ret_eq,wI_eq (by omega) (by omega),show (bs:Int)*2=((2*bs:Nat):Int) by omega]
  exact b3 m (by omega)
  refine ⟨l,List.Perm.refl _,h.one (by omega),fun m hm=>?_⟩
  obtain ⟨m,rfl⟩:∃k,m=k+1:=⟨m-1,by omega⟩
  show f_stb_l2_b _ _ (f_stb_l2 _ _ m) _ _=_
  unfold f_stb_l2_b
  dsimp only
  rw [decide_eq_false (by omega),cond_false]
theorem stable_first {n:Nat} (N:Nat) (hN:2*N+60≤n) (hNb:6*N+1000≤1073741824):∀(k:Nat) (D R:List RowA),R.length≤k→D.length+R.length=N→
  ∃R',R'.Perm R∧SB 20 R'∧∀m,k<m→f_stb_l1 n (N:Int) m (D++R,(D.length:Int),((D.length+20:Nat):Int))=f_stb_l2 n (N:Int) n (D++R',20):=by
 have one:∀(D R:List RowA),R.length<20→D.length+R.length=N→∃R',R'.Perm R∧SB 20 R'∧∀m,0<m→f_stb_l1 n (N:Int) m (D++R,(D.length:Int),((D.length+20:Nat):Int))=f_stb_l2 n (N:Int) n (D++R',20):=by
  intro D R hR hl
  obtain ⟨R',a1,a2,a3⟩:=ins_eq (n:=n) D R [] (by omega) (by unfold big;simp;omega)
  refine ⟨R',a1,.last R' (by rw [a1.length_eq];omega) a2,fun m hm=>?_⟩
  obtain ⟨m,rfl⟩:∃k,m=k+1:=⟨m-1,by omega⟩
  show f_stb_l1_b _ _ (f_stb_l1 _ _ m) _ _ _=_
  unfold f_stb_l1_b
  dsimp only
  rw [decide_eq_false (by omega),cond_false]
  unfold f_stb_j1
  simp only [List.append_nil] at a3
  rw [show (N:Int)=((D.length+R.length:Nat):Int) by omega,a3,some_bind]
 intro k
 induction k with
 | zero=>
  intro D R hk hl
  obtain ⟨R',a1,a2,a3⟩:=one D R (by omega) hl
  exact ⟨R',a1,a2,fun m hm=>a3 m hm⟩
 | succ k ih=>
  intro D R hk hl
  by_cases hR:R.length<20
  obtain ⟨R',a1,a2,a3⟩:=one D R hR hl
  exact ⟨R',a1,a2,fun m hm=>a3 m (by omega)⟩
  obtain ⟨S,U,rfl,hS⟩:∃S U,R=S++U∧S.length=20:=⟨R.take 20,R.drop 20,(List.take_append_drop ..).symm,by simp;omega⟩
  simp only [List.length_append] at*
  obtain ⟨S',a1,a2,a3⟩:=ins_eq (n:=n) D S U (by omega) (by unfold big;simp;omega)
  have hS':S'.length=20:=by rw [a1.length_eq,hS]
  obtain ⟨U',u1,u2,u3⟩:=ih (D++S') U (by omega) (by simp;omega)
  refine ⟨S'++U',a1.append u1,.more S' U' hS' a2 u2,fun m hm=>?_⟩
  obtain ⟨m,rfl⟩:∃k,m=k+1:=⟨m-1,by omega⟩
  show f_stb_l1_b _ _ (f_stb_l1 _ _ m) _ _ _=_
  unfold f_stb_l1_b
  dsimp only
  rw [hS] at a3
  rw [decide_eq_true (by omega),cond_true,←List.append_assoc,a3,some_bind,ret_eq,wI_eq (by omega) (by omega)]
  have:=u3 m (by omega)
  rw [show (D++S').length=D.length+20 by simp [hS']] at this
  simpa using this
theorem stable_sorts {n:Nat} (l:List RowA) (hn:2*l.length+60≤n) (hb:l.length≤1048576):∃l',l'.Perm l∧Srt l'∧f_sst n l=some l':=by
 obtain ⟨R',a1,a2,a3⟩:=stable_first (n:=n) l.length hn (by omega) l.length [] l (Nat.le_refl _) (by simp)
 obtain ⟨l',b1,b2,b3⟩:=stable_loop (n:=n) l.length (by omega) (by omega) l.length 20 R' (by omega) (by omega) a1.length_eq a2
 refine ⟨l',b1.trans a1,b2,?_⟩
 unfold f_sst f_stb
 have h1:=a3 n (by omega)
 have h2:=b3 n (by omega)
 simp only [List.nil_append,List.length_nil,Nat.zero_add] at h1
 rw [show ((0:Nat):Int)=0 from rfl] at h1
 rw [show ((20:Nat):Int)=20 from rfl] at h1 h2
 rw [h1,h2]
 rfl
end Go.Proofs.YtkibffdipniemaaGreatDoor

/- Plain laws of a tree's pages: what was put is read, and found where it was put. No program in sight. Condition: as each says. -/
namespace Go.Proofs.YtkibffdipniemaaGreatDoor
open Go

def RdOk (T:List UInt32) (v:VltA) (d:DevA) (seg:List SavedA):Prop:=∀s∈seg,f_vv_Read T v d ⟨s.page,s.tag⟩=some (s.txt,0)∧refOk ⟨s.page,s.tag⟩=true
theorem RdOk.left {T:List UInt32} {v:VltA} {d:DevA} {a b:List SavedA} (h:RdOk T v d (a++b)):RdOk T v d a:=fun s hs=>h s (List.mem_append_left _ hs)
theorem RdOk.right {T:List UInt32} {v:VltA} {d:DevA} {a b:List SavedA} (h:RdOk T v d (a++b)):RdOk T v d b:=fun s hs=>h s (List.mem_append_right _ hs)
variable {n:Nat} {T:List UInt32} {v:VltA} {d:DevA}
def onP (x:PageA):List RefA:=if refNo ⟨x.npage,x.ntag⟩=true then x.kids else x.kids++[⟨x.npage,x.ntag⟩]
theorem pageOk_len {x:PageA} (h:pageOk x=true):x.rows.length≤4∧x.kids.length≤4:=by
 by_cases hk:x.kind=1
 obtain ⟨h1,h2,h3,h4,h5,h6,h7⟩:=pageOk_leaf h hk
 rw [h4]
 exact ⟨h5,by simp⟩
 obtain ⟨hk2,h1,h2,h3,h4,h5,h6,h7,h8⟩:=pageOk_inner h hk
 rw [h2]
 exact ⟨by simp,h6⟩
theorem page_read {rec_:LdA→VltA→DevA→RefA→Option (Int×LdA)} {x:LdA} {P:PageA} {r:RefA} (hn:10≤n) (h:pageOk P=true) (hrd:f_vv_Read T v d r=some (encPg P,0)) (h0:0≤x.count) (hc:x.count<2100) (hb:x.rows.length≤100000):
  f_gpg rec_ n T x v d r=f_gpg_l1 v d r rec_ (encPg P,0) (onP P) n ({ x with rows:=x.rows++P.rows,count:=x.count+1 },0):=by
 obtain ⟨l1,l2⟩:=pageOk_len h
 unfold f_gpg
 rw [decide_eq_false (by omega),cond_false,hrd,some_bind,show (!decide ((0:Int)=0))=false from rfl,cond_false,decode_enc hn h,some_bind,show (!decide ((0:Int)=0))=false from rfl,cond_false]
 dsimp only
 rw [appL_eq (by omega) (by omega),some_bind]
 unfold onP refNo f_gpg_j1
 rw [Bool.and_true,wI_eq (by omega) (by omega)]
 by_cases hno:(decide (P.npage=0)&&decide (P.ntag=[]))=true
 rw [hno,Bool.not_true,cond_false,if_pos rfl]
 have hno':(decide (P.npage=0)&&decide (P.ntag=[]))=false:=by simpa using hno
 rw [hno',Bool.not_false,cond_true,appL_eq (by simp;omega) (by simp;omega),some_bind,if_neg (by decide)]
theorem kids_read {rec_:LdA→VltA→DevA→RefA→Option (Int×LdA)} {R:NodeP→List SavedA→RefA→Prop} {lv:NodeP→List RowA} {rr:RefA} {y1:List UInt8×Int} {rs:List RefA} {M:Nat}
  (hrec:∀(k:NodeP) (s:List SavedA) (r:RefA) (x:LdA),R k s r→RdOk T v d s→s.length≤M→0≤x.count→x.count+s.length≤2100→x.out.length+s.length≤100000→x.rows.length+4*s.length≤100000→rec_ x v d r=some (0,⟨x.out++s,x.rows++lv k,x.count+s.length⟩)∧(lv k).length≤4*s.length):
  ∀(ks:List NodeP) (seg:List SavedA) (rest done:List RefA) (x:LdA),RunK R ks seg rest→rs=done++rest→RdOk T v d seg→seg.length≤M→rs.length≤1000→0≤x.count→x.count+seg.length≤2100→x.out.length+seg.length≤100000→x.rows.length+4*seg.length≤100000→
   (ks.map lv).flatten.length≤4*seg.length∧∀m,ks.length<m→f_gpg_l1 v d rr rec_ y1 rs m (x,(done.length:Int))=f_gpg_j2 rr y1 ⟨x.out++seg,x.rows++(ks.map lv).flatten,x.count+seg.length⟩
 | [],seg,rest,done,x,h,hrs,hrd,hM,hr,h0,hc,ho,hw=>by
  obtain ⟨rfl,rfl⟩:=h
  refine ⟨by simp,fun m hm=>?_⟩
  obtain ⟨m,rfl⟩:∃k,m=k+1:=⟨m-1,by omega⟩
  show f_gpg_l1_b v d rr rec_ y1 rs (f_gpg_l1 v d rr rec_ y1 rs m) x _=_
  unfold f_gpg_l1_b
  rw [hrs,decide_eq_false (by simp),cond_false]
  simp
 | k::ks,seg,rest,done,x,h,hrs,hrd,hM,hr,h0,hc,ho,hw=>by
  obtain ⟨s1,r1,s2,rs',h1,h2,rfl,rfl⟩:=h
  simp only [List.length_append] at hM hc ho hw
  have hl:rs.length=done.length+(rs'.length+1):=by rw [hrs];simp
  obtain ⟨e1,e2⟩:=hrec k s1 r1 x h1 hrd.left (by omega) h0 (by omega) (by omega) (by omega)
  obtain ⟨e3,e4⟩:=kids_read hrec ks s2 rs' (done++[r1]) ⟨x.out++s1,x.rows++lv k,x.count+s1.length⟩ h2 (by rw [hrs];simp) hrd.right (by omega) hr (by simp only;omega) (by simp only;omega) (by simp;omega) (by simp;omega)
  refine ⟨by simp only [List.map_cons,List.flatten_cons,List.length_append];omega,fun m hm=>?_⟩
  obtain ⟨m,rfl⟩:∃k,m=k+1:=⟨m-1,by omega⟩
  have n1:nthI rs (done.length:Int)=some r1:=by
   rw [nthI_of rfl,hrs]
   simp
  show f_gpg_l1_b v d rr rec_ y1 rs (f_gpg_l1 v d rr rec_ y1 rs m) x _=_
  unfold f_gpg_l1_b
  rw [decide_eq_true (by omega),cond_true,n1,some_bind,e1,some_bind,show (!decide ((0:Int)=0))=false from rfl,cond_false,wI_eq (by omega) (by omega)]
  have:=e4 m (by simp at hm;omega)
  rw [show ((done++[r1]).length:Int)=(done.length:Int)+1 by simp only [List.length_append,List.length_singleton];omega] at this
  rw [this]
  congr 1
  simp only [List.map_cons,List.flatten_cons,List.append_assoc,List.length_append,LdA.mk.injEq,true_and]
  omega
theorem RunL.snoc:∀ {ls:List (List RowA)} {l:List RowA} {r0:RefA} {seg:List SavedA} {r:RefA},RunL (ls++[l]) r0 seg r→∃seg' r1,RunL ls r0 seg' r1∧pageOk (leafP l r1)=true∧seg=seg'++[⟨encPg (leafP l r1),r.page,r.tag⟩]
 | [],l,r0,seg,r,h=>by
  obtain ⟨r1,seg',h1,rfl,h2,rfl⟩:=h
  subst h2
  exact ⟨[],r0,⟨rfl,rfl⟩,h1,rfl⟩
 | a::ls,l,r0,seg,r,h=>by
  obtain ⟨r1,seg',h1,rfl,h2⟩:=h
  obtain ⟨seg2,r2,h3,h4,rfl⟩:=RunL.snoc h2
  exact ⟨_::seg2,r2,⟨r1,seg2,h1,rfl,h3⟩,h4,rfl⟩
theorem RunL.last:∀ {ls:List (List RowA)} {r0:RefA} {seg:List SavedA} {r:RefA},RunL ls r0 seg r→(ls=[]∧r=r0)∨∃s∈seg,(⟨s.page,s.tag⟩:RefA)=r
 | [],_,_,_,h=>.inl ⟨rfl,h.2⟩
 | a::ls,r0,seg,r,h=>by
  obtain ⟨r1,seg',h1,rfl,h2⟩:=h
  rcases RunL.last h2 with ⟨rfl,rfl⟩ | ⟨s,hs,e⟩
  exact .inr ⟨_,List.mem_cons_self ..,rfl⟩
  exact .inr ⟨s,List.mem_cons_of_mem _ hs,e⟩
theorem fin_read {rr:RefA} {s:List UInt8} {e:Int} {x:LdA} (h:x.out.length≤100000):f_gpg_j2 rr (s,e) x=some (0,⟨x.out++[⟨s,rr.page,rr.tag⟩],x.rows,x.count⟩):=by
 unfold f_gpg_j2
 rw [appL_eq (by simp;omega) (by simp;omega),some_bind]
theorem rows_read (hn:10≤n):∀(m:Nat) (ls:List (List RowA)) (seg:List SavedA) (r:RefA) (x:LdA),ls≠[]→RunL ls ⟨0,[]⟩ seg r→RdOk T v d seg→seg.length≤m→0≤x.count→x.count+seg.length≤2100→x.out.length+seg.length≤100000→x.rows.length+4*seg.length≤100000→
  pgF n T m x v d r=some (0,⟨x.out++seg,x.rows++ls.reverse.flatten,x.count+seg.length⟩)∧ls.reverse.flatten.length≤4*seg.length
 | 0,ls,seg,r,x,hne,h,hrd,hm,h0,hc,ho,hw=>by
  have:=h.len
  have:=List.length_pos_iff.2 hne
  omega
 | m+1,ls,seg,r,x,hne,h,hrd,hm,h0,hc,ho,hw=>by
  obtain ⟨ls,l,rfl⟩:∃S0 z,ls=S0++[z]:=⟨_,_,(List.dropLast_concat_getLast hne).symm⟩
  obtain ⟨seg',r1,h1,h2,rfl⟩:=h.snoc
  simp only [List.length_append,List.length_singleton] at hm hc ho hw
  have hrd1:=(hrd ⟨encPg (leafP l r1),r.page,r.tag⟩ (by simp)).1
  have hl4:=(pageOk_len h2).1
  simp only at hl4
  have e0:=page_read (n:=n) (rec_:=pgF n T m) (x:=x) (r:=r) hn h2 hrd1 h0 (by omega) (by omega)
  show f_gpg (pgF n T m) n T x v d r=_∧_
  rw [e0]
  rcases h1.last with ⟨rfl,rfl⟩ | ⟨s,hs,es⟩
  obtain ⟨rfl,_⟩:=h1
  have hon:onP (leafP l ⟨0,[]⟩)=[]:=if_pos rfl
  rw [hon]
  have hloop:=kids_read (T:=T) (v:=v) (d:=d) (rec_:=pgF n T m) (R:=fun _ _ _=>False) (lv:=fun _=>[]) (rr:=r) (y1:=(encPg (leafP l ⟨0,[]⟩),0)) (rs:=[]) (M:=0) (fun k s r x hR=>hR.elim) [] [] [] [] { x with rows:=x.rows++l,count:=x.count+1 } ⟨rfl,rfl⟩ rfl (fun s hs=>by simp at hs) (by simp) (by simp) (by simp only;omega) (by simp;omega) (by simp;omega) (by simp;omega)
  have:=hloop.2 n (by simp;omega)
  simp only [List.length_nil] at this
  rw [show ((0:Nat):Int)=0 from rfl] at this
  rw [this,fin_read (by simp;omega)]
  constructor
  simp
  simpa using hl4
  have hok:=(hrd s (List.mem_append_left _ hs)).2
  rw [es] at hok
  have hne1:ls≠[]:=by
   intro e
   subst e
   rw [h1.1] at hs
   simp at hs
  have hon:onP (leafP l r1)=[r1]:=by
   unfold onP
   have:refNo ⟨r1.page,r1.tag⟩=false:=by
    have h5:=(refOk_len hok).1
    unfold refNo
    simp only [Bool.and_eq_false_iff,decide_eq_false_iff_not]
    right
    intro e
    have e:r1.tag=[]:=e
    rw [e] at h5
    simp at h5
   rw [this,if_neg (by decide)]
   rfl
  rw [hon]
  obtain ⟨e1,e2⟩:=rows_read hn m ls seg' r1 { x with rows:=x.rows++l,count:=x.count+1 } hne1 h1 hrd.left (by omega) (by simp only;omega) (by simp only;omega) (by simp only;omega) (by simp;omega)
  obtain ⟨n,rfl⟩:∃k,n=k+1:=⟨n-1,by omega⟩
  obtain ⟨n,rfl⟩:∃k,n=k+1:=⟨n-1,by omega⟩
  show f_gpg_l1_b v d r (pgF (n+1+1) T m) (encPg (leafP l r1),0) [r1] (f_gpg_l1 v d r (pgF (n+1+1) T m) (encPg (leafP l r1),0) [r1] (n+1)) _ 0=_∧_
  unfold f_gpg_l1_b
  rw [show decide ((0:Int)<(([r1]:List RefA).length:Int))=true from rfl,cond_true,show nthI [r1] 0=some r1 from rfl,some_bind,e1,some_bind,show (!decide ((0:Int)=0))=false from rfl,cond_false,show wI (0+1)=1 from rfl]
  show f_gpg_l1_b v d r (pgF (n+1+1) T m) (encPg (leafP l r1),0) [r1] (f_gpg_l1 v d r (pgF (n+1+1) T m) (encPg (leafP l r1),0) [r1] n) _ 1=_∧_
  unfold f_gpg_l1_b
  rw [show decide ((1:Int)<(([r1]:List RefA).length:Int))=false from rfl,cond_false,fin_read (by simp;omega)]
  constructor
  congr 2
  simp only [List.reverse_append,List.reverse_cons,List.reverse_nil,List.nil_append,List.singleton_append,List.flatten_cons,List.append_assoc,List.length_append,List.length_singleton,LdA.mk.injEq,true_and]
  omega
  simp only [List.reverse_append,List.reverse_cons,List.reverse_nil,List.nil_append,List.singleton_append,List.flatten_cons,List.length_append,List.length_singleton]
  omega
theorem node_read (hn:1010≤n):∀(f:Nat) (t:NodeP) (seg:List SavedA) (r:RefA) (x:LdA) (m:Nat),RunT f t seg r→RdOk T v d seg→seg.length≤m→0≤x.count→x.count+seg.length≤2100→x.out.length+seg.length≤100000→x.rows.length+4*seg.length≤100000→
  pgF n T m x v d r=some (0,⟨x.out++seg,x.rows++lvN f t,x.count+seg.length⟩)∧(lvN f t).length≤4*seg.length
 | 0,_,_,_,_,_,h,_,_,_,_,_,_=>h.elim
 | f+1,t,seg,r,x,m,h,hrd,hm,h0,hc,ho,hw=>by
  obtain ⟨⟨b1,b2⟩,h⟩:=h
  rcases h with ⟨h1,h2⟩ | ⟨h1,segs,rs,h2,h3,rfl⟩
  have hne:(fours t.rows).reverse≠[]:=by
   intro e
   have:=congrArg List.length e
   rw [List.length_reverse,fours_len,List.length_nil] at this
   omega
  have:=rows_read (n:=n) (by omega) m (fours t.rows).reverse seg r x hne h2 hrd hm h0 hc ho hw
  rw [List.reverse_reverse,fours_flat] at this
  rw [lvN,if_pos (by rw [h1];rfl)]
  exact this
  have hk0:=List.length_pos_iff.2 h1
  simp only [List.length_append,List.length_singleton] at hm hc ho hw
  obtain ⟨m,rfl⟩:∃k,m=k+1:=⟨m-1,by omega⟩
  have hrd1:=(hrd ⟨encPg (innerP t rs),r.page,r.tag⟩ (by simp)).1
  have e0:=page_read (n:=n) (rec_:=pgF n T m) (x:=x) (r:=r) (by omega) h3 hrd1 h0 (by omega) (by omega)
  show f_gpg (pgF n T m) n T x v d r=_∧_
  have hon:onP (innerP t rs)=rs:=if_pos rfl
  have hl4:=(pageOk_len h3).2
  simp only at hl4
  obtain ⟨e3,e4⟩:=kids_read (T:=T) (v:=v) (d:=d) (rec_:=pgF n T m) (R:=RunT f) (lv:=lvN f) (rr:=r) (y1:=(encPg (innerP t rs),0)) (rs:=rs) (M:=m) (fun k s r x hR hrd hM h0 hc ho hw=>node_read hn f k s r x m hR hrd hM h0 hc ho hw) t.kids segs rs [] { x with rows:=x.rows++[],count:=x.count+1 } h2 rfl hrd.left (by omega) (by omega) (by simp only;omega) (by simp only;omega) (by simp only;omega) (by simp;omega)
  have e5:=e4 n (by omega)
  simp only [List.length_nil] at e5
  rw [show ((0:Nat):Int)=0 from rfl] at e5
  rw [lvN,if_neg (by omega),e0,hon]
  rw [show ({ x with rows:=x.rows++(innerP t rs).rows,count:=x.count+1 }:LdA)={ x with rows:=x.rows++[],count:=x.count+1 } from rfl,e5,fin_read (by simp;omega)]
  constructor
  congr 2
  simp only [List.append_assoc,List.append_nil,List.length_append,List.length_singleton,LdA.mk.injEq,true_and]
  omega
  simp only [List.length_append,List.length_singleton]
  omega
end Go.Proofs.YtkibffdipniemaaGreatDoor

/- Plain laws of a tree's pages: what was saved is loaded. No program in sight. Condition: as each says. -/
namespace Go.Proofs.YtkibffdipniemaaGreatDoor
open Go

theorem flatten_perm {R:List RowA→NodeP→Prop} {lv:NodeP→List RowA} {xs:List (List RowA)} {ks:List NodeP} (h:All2 R xs ks) (hR:∀x k,R x k→(lv k).Perm x):(ks.map lv).flatten.Perm xs.flatten:=by
 induction h with
 | nil=>exact List.Perm.refl _
 | cons h1 _ ih=>
  simp only [List.map_cons,List.flatten_cons]
  exact (hR _ _ h1).append ih
theorem Tr.leaves:∀ {f:Nat} {l:List RowA} {t:NodeP},Tr f l t→(lvN f t).Perm l
 | 0,_,_,h=>h.elim
 | f+1,l,t,h=>by
  rcases h with ⟨rfl,rfl⟩ | ⟨_,c,L,A,⟨_,rfl⟩ | ⟨h4,hL,ks,rfl,hk⟩⟩
  exact List.Perm.refl _
  exact List.Perm.refl _
  have hkl:=hk.length
  have hq2:=(qlist_two A hL).1
  rw [lvN,if_neg (by simp only [NodeP.kids];omega)]
  exact (flatten_perm (lv:=lvN f) hk fun x k hT=>Tr.leaves hT).trans (qlist_perm L l)
theorem sorted_eq:∀(l l':List RowA),(l.Pairwise fun a b=>a.id<b.id)→l'.Perm l→Srt l'→l'=l
 | [],l',_,hp,_=>List.perm_nil.1 hp
 | a::t,l',hl,hp,hs=>by
  rcases l' with _ | ⟨b,t'⟩
  exact absurd hp.length_eq (by simp)
  obtain ⟨h1,h2⟩:=List.pairwise_cons.1 hl
  obtain ⟨h3,h4⟩:=List.pairwise_cons.1 hs
  have hba:b.id≤a.id:=by
   have:a∈b::t':=hp.mem_iff.2 (by simp)
   rcases List.mem_cons.1 this with e | e
   rw [e];exact UInt64.le_refl _
   exact h3 a e
  have hb:b∈a::t:=hp.mem_iff.1 (by simp)
  rcases List.mem_cons.1 hb with rfl | hb
  rw [sorted_eq t t' h2 hp.cons_inv h4]
  exact (u64_irr (h1 b hb) hba).elim
theorem RunL.lastE:∀ {ls:List (List RowA)} {r0:RefA} {seg:List SavedA} {r:RefA},ls≠[]→RunL ls r0 seg r→∃a s,seg=a++[⟨s,r.page,r.tag⟩]
 | [],_,_,_,h,_=>absurd rfl h
 | l::ls,r0,seg,r,_,h=>by
  obtain ⟨r1,seg',h1,rfl,h2⟩:=h
  rcases ls with _ | ⟨l2,ls⟩
  obtain ⟨rfl,rfl⟩:=h2
  exact ⟨[],_,rfl⟩
  obtain ⟨a,s,rfl⟩:=RunL.lastE (by simp) h2
  exact ⟨_::a,s,rfl⟩
theorem RunT.lastE {f:Nat} {t:NodeP} {seg:List SavedA} {r:RefA} (h:RunT f t seg r):∃a s,seg=a++[⟨s,r.page,r.tag⟩]:=by
 cases f with
 | zero=>exact h.elim
 | succ f=>
  rcases h.2 with ⟨_,h2⟩ | ⟨_,segs,rs,_,_,rfl⟩
  refine RunL.lastE ?_ h2
  intro e
  have:=congrArg List.length e
  rw [List.length_reverse,fours_len,List.length_nil] at this
  omega
  exact ⟨segs,_,rfl⟩
theorem last_eq {a:List SavedA} {s:List UInt8} {r:RefA} (hb:a.length≤1000000):f_law14_last (a++[⟨s,r.page,r.tag⟩])=some r:=by
 unfold f_law14_last
 rw [decide_eq_false (by simp;omega),cond_false]
 have e:wI (((a++[(⟨s,r.page,r.tag⟩:SavedA)]).length:Int)-1)=(a.length:Int):=by
  simp only [List.length_append,List.length_singleton]
  rw [wI_eq (by omega) (by omega)]
  omega
 rw [e,nthI_of rfl]
 simp
theorem refEq_self (r:RefA):refEq r r=true:=by simp [refEq]
theorem ld_path {L:List SavedA} (hb:L.length≤100000):∀(seg pre rest:List SavedA),L=pre++seg++rest→Path (ldWh L) (pre.length:Int) seg ((pre.length+seg.length:Nat):Int)
 | [],pre,rest,_=>by simp [Path]
 | s::seg,pre,rest,h=>by
  have hl:L.length=pre.length+(seg.length+1)+rest.length:=by rw [h];simp;omega
  have n1:nthI L (pre.length:Int)=some s:=by
   rw [nthI_of rfl,h]
   simp
  refine ⟨((pre.length+1:Nat):Int),?_,?_⟩
  unfold ldWh
  rw [decide_eq_false (by omega),n1]
  simp only [orO,cond_false,some_bind,decide_true,Bool.not_true]
  rw [wI_eq (x:=(pre.length:Int)+1) (by omega) (by omega),wI_eq (by omega) (by omega),Int.add_sub_cancel,n1,some_bind]
  rfl
  have:=ld_path hb seg (pre++[s]) rest (by rw [h];simp)
  simp only [List.length_append,List.length_cons,List.length_nil,Nat.zero_add] at this ⊢
  rw [show pre.length+(seg.length+1)=pre.length+1+seg.length by omega]
  exact this
theorem load_ok {n:Nat} {T:List UInt32} {v:VltA} {d:DevA} {l:List RowA} {t:NodeP} {seg:List SavedA} {r:RefA} (hn:2110≤n) (hl:rightR l=true) (hb:buildF n l=some (t,0)) (hT:Tr n l t) (hR:RunT n t seg r) (hrd:RdOk T v d seg) (hs:seg.length≤2000):
  loadF n T v d r=some (l,seg,0):=by
 have hl':=hl
 unfold rightR at hl'
 simp only [Bool.and_eq_true,decide_eq_true_eq] at hl'
 obtain ⟨e1,e2⟩:=node_read (n:=n) (T:=T) (v:=v) (d:=d) (by omega) n t seg r ⟨[],[],0⟩ n hR hrd (by omega) (by simp) (by simp;omega) (by simp;omega) (by simp;omega)
 have hp:=hT.leaves
 obtain ⟨l',s1,s2,s3⟩:=stable_sorts (n:=n) (lvN n t) (by rw [hp.length_eq];omega) (by rw [hp.length_eq];omega)
 have hll:l'=l:=sorted_eq l l' ((rising_iff l).1 hl'.1.2) (s1.trans hp) s2
 subst hll
 have hpath:=ld_path (L:=seg) (by omega) seg [] [] (by simp)
 have hnode:=node_path (n:=n) (wh:=ldWh seg) (by omega) n (o:=[]) hR hpath (by simp;omega)
 unfold loadF
 rw [e1,some_bind]
 rw [show (!decide ((0:Int)=0))=false from rfl,cond_false]
 simp only [List.nil_append]
 rw [s3,some_bind,hb,some_bind]
 simp only [List.length_nil,Nat.zero_add,List.nil_append] at hnode
 rw [show (!decide ((0:Int)=0))=false from rfl,cond_false]
 have hnode':plNode n (ldWh seg) n t ⟨[],0⟩ 0=some (r,(⟨seg,0⟩,(seg.length:Int))):=hnode
 dsimp only
 rw [hnode',some_bind]
 simp only [refEq_self]
 simp
end Go.Proofs.YtkibffdipniemaaGreatDoor

/- What the plain laws of a device stand on. No condition. -/

/- Plain laws of a device: what its printed operations answer, those that no sort is wanted for. No program's walk in sight. Condition: as each says. -/
namespace Go.Proofs.YtkibffdipniemaaGreatDoor
open Go

theorem zeros_eq {n:Int} (h0:0≤n) (h1:n≤1048576):f_ref07_Zeros n=some (List.replicate n.toNat 0):=by
 unfold f_ref07_Zeros mkI
 rw [if_pos ⟨h0,by omega,by omega⟩,some_bind]
def pOn (d:DevA):Bool := !(d.isCut&&decide (d.lasts=0)||d.off)
def pTick (d:DevA):DevA:={ d with lasts:=if d.isCut then wI (d.lasts-1) else d.lasts,counts:=wI (d.counts+1) }
def pDead (d:DevA):DevA:={ d with off:=true }
theorem spend_eq (d:DevA):f_device_power_spend d=some (if pOn d then (0,pTick d) else (71,pDead d)):=by
 obtain ⟨off,isCut,lasts,counts,bl,pd,bd,rc,rt,rb⟩:=d
 unfold f_device_power_spend f_device_power_spend_j1 f_device_power_spend_j2
 by_cases h0:lasts=0<;>cases off<;>cases isCut<;>simp [pOn,pTick,pDead,h0]
def okR (d:DevA) (r:DevA):Int×DevA:=if pOn d then (0,r) else (71,pDead d)
theorem has_eq (d:DevA) (p:UInt32):f_dd_has d p=some (decide (p.toNat<d.blocks.length)):=by
 unfold f_dd_has
 rw [ret_eq]
 congr 1
 simp
theorem write_eq {d:DevA} {p:UInt32} {s:List UInt8} (hp:p.toNat<d.blocks.length) (hs:s.length=256) (hm:d.pend.length<9223372036854775807):f_dd_Write d p s=some (okR d { pTick d with pend:=mput d.pend p s }):=by
 unfold f_dd_Write f_dd_Write_j1
 rw [has_eq,some_bind,ret_eq,decide_eq_true hp,hs]
 simp only [spend_eq,some_bind]
 cases h:pOn d
 simp [okR,h,pDead]
 simp only [okR,h,if_true]
 have:(pTick d).pend=d.pend:=rfl
 simp [mputI,this,hm]
def hold (d:DevA) (p:UInt32):List UInt8:=(mget d.pend p).getD (d.blocks.getD p.toNat [])
theorem holds_eq {d:DevA} {p:UInt32} (hp:p.toNat<d.blocks.length):f_dd_holds d p=some (hold d p):=by
 unfold f_dd_holds hold
 rw [ret_eq,ret_eq]
 cases h:mget d.pend p with
 | some s=>simp
 | none=>
  rw [nthI_nat,List.getElem?_eq_getElem hp]
  simp [hp]
theorem read_eq {d:DevA} {p:UInt32} (hp:p.toNat<d.blocks.length):f_dd_Read d p=some (if d.off then ([],71) else if (mget d.bad p).getD false then ([],70) else (hold d p,0)):=by
 unfold f_dd_Read
 rw [has_eq,some_bind,ret_eq,decide_eq_true hp,holds_eq hp]
 cases d.off
 cases h:(mget d.bad p).getD false<;>simp [ret_eq,h]
 simp
theorem new_eq {n:Int} (h1:4≤n) (h2:n≤4096):f_device_New n=some (some { off:=false,isCut:=false,lasts:=0,counts:=0,blocks:=List.replicate n.toNat (List.replicate 256 0),pend:=[],bad:=[],rcnt:=0,rtag:=List.replicate 32 0,rboots:=0 },0):=by
 unfold f_device_New rep0O srepO
 have e:(decide (n<4)||decide (4096<n))=false:=by simp;omega
 rw [e,cond_false]
 simp only [some_bind]
 rw [if_pos (by simp),some_bind,if_pos (by simp),some_bind,if_pos ⟨by omega,by omega⟩,some_bind]
 rfl
theorem okR_on {d r:DevA} (h:pOn d=true):okR d r=(0,r):=by simp [okR,h]
end Go.Proofs.YtkibffdipniemaaGreatDoor

/- Where the reference's search for keys is printed. No condition. -/

/- Keys are found, by the reference: plain law. No condition beyond those stated. -/
namespace Go.Proofs.YtkibffdipniemaaGreatDoor
open Go

theorem right04 (l:List KeyA) (hl:l.length≤1048576) {n:Nat} (hm:16<n):f_ref04_Right n l=some (rightA l):=by
 unfold f_ref04_Right rightA
 by_cases h16:l.length≤16
 rw [show decide (16<(l.length:Int))=false by simp;omega,show decide (l.length≤16)=true by simp [h16]]
 simp only [cond_false,Bool.true_and]
 unfold f_ref04_Right_l1
 refine (congrArg (loopN _ n) ?_).trans ((loop_ind (fun i=>(prevGen l i,(i:Int))) (fun i=>some (((gensA l).drop i).all (·.2))) l.length (fun i hi k hk=>?_) (fun k=>?_) (by omega)).trans ?_)
 rfl
 have ei:((i+1:Nat):Int)=(i:Int)+1:=by omega
 have st:(gensA l).drop i=((l.getD i key0).gen,keyOk l i)::(gensA l).drop (i+1):=by
  rw [List.drop_eq_getElem_cons (by rw [gensA_length];exact hi)]
  congr 1
  exact Option.some.inj ((List.getElem?_eq_getElem _).symm.trans (gensA_get l i hi))
 dsimp only at hk ⊢
 rw [st,List.all_cons]
 simp only [f_ref04_Right_l1_b,show decide ((i:Int)<(l.length:Int))=true by simp;omega,cond_true]
 rw [nthI_getD (k:=i) key0 rfl hi,some_bind,some_bind]
 have hko:keyOk l i = !((decide ((l.getD i key0).gen≤prevGen l i))||(!decide (((l.getD i key0).secret.length:Int)=32))):=by
  unfold keyOk
  rw [Bool.not_or,Bool.not_not]
  congr 1
  rw [Bool.eq_iff_iff]
  simp [UInt32.not_le]
 generalize hg:(decide ((l.getD i key0).gen≤prevGen l i))=p at hko
 generalize (!decide (((l.getD i key0).secret.length:Int)=32))=q at hko
 have ho:orO p (some q)=some (p||q):=by cases p<;>rfl
 rw [ho,some_bind,hko]
 cases hpq:(p||q) with
 | true=>simp only [cond_true,Bool.not_true,Bool.false_and]
 | false=>
  simp only [cond_false,Bool.not_false,Bool.true_and]
  rw [some_bind,ret_eq,wI_eq (by omega) (by omega),←ei]
  exact hk
 simp only [f_ref04_Right_l1_b,show decide ((l.length:Int)<(l.length:Int))=false by simp,cond_false,f_ref04_Right_j1]
 rw [List.drop_of_length_le (by rw [gensA_length];exact Nat.le_refl _)]
 rfl
 simp
 rw [show decide (16<(l.length:Int))=true by simp;omega,show decide (l.length≤16)=false by simp;omega]
 rfl
theorem find04 (l:List KeyA) (g:UInt32) (hl:l.length≤1048576) {n:Nat} (hm:16<n):f_ref04_Find n l g=some (findA l g):=by
 unfold f_ref04_Find
 rw [right04 l hl hm,some_bind]
 cases hr:rightA l with
 | false=>
  simp only [Bool.not_false,cond_true]
  unfold findA
  rw [if_pos hr]
  rfl
 | true=>
  simp only [Bool.not_true,cond_false]
  have h16:=((rightA_iff l).1 hr).1
  unfold f_ref04_Find_l1
  have hno:(∀k∈l,k.gen≠g)→findA l g=(key0,41):=fun h=>by
   unfold findA
   rw [if_neg (by simp [hr])]
   split
   rename_i k hk
   rw [if_neg (h k (List.mem_of_getElem? hk))]
   rfl
  refine (congrArg (loopN _ n) ?_).trans (loop_pre (fun i=>((0:UInt32),([]:List UInt8),(i:Int))) (fun i=>∀k∈l.take i,k.gen≠g) l.length (fun i hi hp k hk=>?_) (fun hp k=>?_) (by simp) (by omega))
  rfl
  have ei:((i+1:Nat):Int)=(i:Int)+1:=by omega
  have hgi:l[i]? = some (l.getD i key0):=get_getD key0 hi
  dsimp only at hk ⊢
  simp only [f_ref04_Find_l1_b,show decide ((i:Int)<(l.length:Int))=true by simp;omega,cond_true]
  rw [nthI_getD (k:=i) key0 rfl hi,some_bind]
  by_cases hg:(l.getD i key0).gen=g
  rw [show decide ((l.getD i key0).gen=g)=true by simp only [hg,decide_true]]
  simp only [cond_true]
  rw [some_bind,find_iff.2 ⟨hr,List.mem_of_getElem? hgi,hg⟩]
  rw [show decide ((l.getD i key0).gen=g)=false by simp only [hg,decide_false]]
  simp only [cond_false]
  rw [ret_eq,wI_eq (by omega) (by omega),←ei]
  refine hk fun k' hk'=>?_
  rw [List.take_add_one,hgi] at hk'
  rcases List.mem_append.1 hk' with h | h
  exact hp k' h
  simp only [Option.toList_some,List.mem_singleton] at h
  rw [h];exact hg
  simp only [f_ref04_Find_l1_b,show decide ((l.length:Int)<(l.length:Int))=false by simp,cond_false,f_ref04_Find_j1]
  rw [List.take_length] at hp
  rw [hno hp]
  rfl
end Go.Proofs.YtkibffdipniemaaGreatDoor

/- Plain laws of a vault: what its printed operations answer. No program's walk in sight. Condition: as each says. -/
namespace Go.Proofs.YtkibffdipniemaaGreatDoor
open Go

/-! ### A block's place -/
def pageE (a b c d:UInt8):UInt32:=((a.toUInt32 ||| shl32 b.toUInt32 8) ||| shl32 c.toUInt32 16) ||| shl32 d.toUInt32 24
def pageOf (b:List UInt8):UInt32:=pageE (b.getD 0 0) (b.getD 1 0) (b.getD 2 0) (b.getD 3 0)
theorem shl32_byte (b:UInt8) (k:Nat) (h:k≤24):(shl32 b.toUInt32 k).toNat=b.toNat*2^k:=by
 have h1:=b.toNat_lt
 simp only [shl32,UInt32.toNat_ofNat',Nat.min_eq_left (show k≤32 by omega),UInt8.toNat_toUInt32]
 refine Nat.mod_eq_of_lt ?_
 calc b.toNat*2^k<2^8*2^k:=Nat.mul_lt_mul_of_pos_right h1 (Nat.two_pow_pos k)
  _=2^(8+k):=(Nat.pow_add 2 8 k).symm
  _≤2^32:=Nat.pow_le_pow_right (by decide) (by omega)
theorem or_shl {u v k:Nat} (h:u<2^k):u ||| v*2^k=u+v*2^k:=by
 rw [Nat.or_comm,Nat.mul_comm,←Nat.two_pow_add_eq_or_of_lt h,Nat.add_comm]
theorem pageE_nat (a b c d:UInt8):(pageE a b c d).toNat=a.toNat+b.toNat*2^8+c.toNat*2^16+d.toNat*2^24:=by
 have ha:=a.toNat_lt
 have hb:=b.toNat_lt
 have hc:=c.toNat_lt
 unfold pageE
 rw [UInt32.toNat_or,UInt32.toNat_or,UInt32.toNat_or,shl32_byte _ 8 (by decide),shl32_byte _ 16 (by decide),shl32_byte _ 24 (by decide),UInt8.toNat_toUInt32]
 rw [or_shl (u:=a.toNat) (k:=8) (by omega),or_shl (k:=16) (by omega),or_shl (k:=24) (by omega)]
theorem pageOf_put (x:UInt32) (r:List UInt8):pageOf (lePut x.toUInt64 4++r)=x:=by
 apply UInt32.toNat_inj.1
 have hx:=x.toNat_lt
 unfold pageOf
 rw [pageE_nat]
 simp only [lePut_getD _ 4 _ (show 0<4 by decide),lePut_getD _ 4 _ (show 1<4 by decide),lePut_getD _ 4 _ (show 2<4 by decide),lePut_getD _ 4 _ (show 3<4 by decide),UInt64.toNat_toUInt8]
 rw [shr64_nat _ _ (by decide),shr64_nat _ _ (by decide),shr64_nat _ _ (by decide),shr64_nat _ _ (by decide)]
 simp only [UInt32.toNat_toUInt64]
 omega
theorem pageOf_blk (T:List UInt32) (k:KeyA) (h:HeadA) (s:List UInt8):pageOf (blkA T k h s)=h.page:=by
 rw [blkA,boundA,putA_eq]
 simp only [List.append_assoc]
 exact pageOf_put _ _
/-! ### Opening -/
theorem tag_eq {b:List UInt8} (h:b.length=256):tagO b=some (b.drop 224):=by
 unfold tagO
 rw [if_pos (by omega),h]
theorem open_at {T:List UInt32} {v:VltA} {d:DevA} {p:UInt32} {tag b:List UInt8} (hr:f_dd_Read d p=some (b,0)) (hb:b.length=256) (hl:v.ring.length≤1099511627776):
  f_vv_open T v d p tag=some (if b.drop 224=tag∧pageOf b=p then openA T v.ring b else (head0,[],61)):=by
 unfold f_vv_open
 have g:∀i:Nat,i<4→nthI b (i:Int)=some (b.getD i 0):=fun i hi=>nthI_getD 0 rfl (by omega)
 have g0:=g 0 (by omega)
 have g1:=g 1 (by omega)
 have g2:=g 2 (by omega)
 have g3:=g 3 (by omega)
 rw [hr,some_bind]
 show (nthI b 0).bind _=_
 rw [show nthI b 0=some (b.getD 0 0) from g0,some_bind,show nthI b 1=some (b.getD 1 0) from g1,some_bind,show nthI b 2=some (b.getD 2 0) from g2,some_bind,show nthI b 3=some (b.getD 3 0) from g3,some_bind,ret_eq,tag_eq hb,some_bind]
 change cond (!decide (b.drop 224=tag) || !decide (pageOf b=p)) _ _=_
 by_cases h:b.drop 224=tag∧pageOf b=p
 rw [if_pos h,decide_eq_true h.1,decide_eq_true h.2]
 unfold openO
 rw [if_pos ⟨hl,by show b.length≤_;omega⟩]
 rfl
 rw [if_neg h]
 have:(!decide (b.drop 224=tag) || !decide (pageOf b=p))=true:=by
  simp only [Bool.or_eq_true,Bool.not_eq_true',decide_eq_false_iff_not]
  exact Classical.not_and_iff_not_or_not.1 h
 rw [this]
 rfl
theorem right_ref {r:RefA} (h1:2≤r.page.toNat) (h2:r.tag.length=32):f_rows_RightRef r=some true:=by
 unfold f_rows_RightRef
 have e1:decide ((2:UInt32)≤r.page)=true:=by rw [decide_eq_true_eq,UInt32.le_iff_toNat_le];exact h1
 have e2:decide ((r.tag.length:Int)=32)=true:=by rw [decide_eq_true_eq];omega
 rw [e1,e2]
 rfl
theorem read_at {T:List UInt32} {v:VltA} {d:DevA} {r:RefA} {b:List UInt8} (h1:2≤r.page.toNat) (h2:r.tag.length=32) (hr:f_dd_Read d r.page=some (b,0)) (hb:b.length=256) (hl:v.ring.length≤1099511627776):
  f_vv_Read T v d r=some (if b.drop 224=r.tag∧pageOf b=r.page then (openA T v.ring b).2 else ([],61)):=by
 unfold f_vv_Read
 rw [right_ref h1 h2,some_bind,ret_eq]
 unfold f_vv_First
 rw [open_at hr hb hl]
 simp only [some_bind,Bool.not_true,cond_false]
 split<;>rfl
/-! ### Sealing -/
abbrev hd (v:VltA) (p:UInt32):HeadA:=⟨p,v.gen,v.boot,v.seals⟩
structure DOk (N c:Nat) (d:DevA):Prop where
 blen:d.blocks.length=N
 nle:N≤4096
 on:d.off=false
 uncut:d.isCut=false
 good:d.bad=[]
 plen:d.pend.length≤c
 cle:c≤100
theorem DOk.write {N c:Nat} {d:DevA} (D:DOk N c d) (hc:c+1≤100) {p:UInt32} {b:List UInt8} (hp:p.toNat<N) (hb:b.length=256):
  f_dd_Write d p b=some (0,{ d with counts:=wI (d.counts+1),pend:=mput d.pend p b })∧DOk N (c+1) { d with counts:=wI (d.counts+1),pend:=mput d.pend p b }:=by
 have h0:pOn d=true:=by simp [pOn,D.on,D.uncut]
 constructor
 rw [write_eq (by rw [D.blen];exact hp) hb (by have:=D.plen;have:=D.cle;omega),okR_on h0]
 simp [pTick,D.uncut]
 refine ⟨D.blen,D.nle,D.on,D.uncut,D.good,?_,hc⟩
 have:(mdel d.pend p).length≤d.pend.length:=List.length_filter_le ..
 have:=D.plen
 show (mdel d.pend p).length+1≤c+1
 omega
theorem DOk.read {N c:Nat} {d:DevA} (D:DOk N c d) {p:UInt32} (hp:p.toNat<N):f_dd_Read d p=some (hold d p,0):=by
 rw [read_eq (by rw [D.blen];exact hp),D.on,D.good]
 rfl
theorem hold_put {d:DevA} {p q:UInt32} {b:List UInt8} {c:Int}:hold { d with counts:=c,pend:=mput d.pend p b } q=if p=q then b else hold d q:=by
 unfold hold
 rw [mget_put]
 split<;>rfl
theorem sealO_eq {T:List UInt32} {l:List KeyA} {h:HeadA} {s:List UInt8} {k:KeyA} (hl:l.length≤1099511627776) (hk:findA l h.gen=(k,0)) (hs:s.length≤198):sealO T l h s=some (blkA T k h s,0):=by
 unfold sealO sealA
 rw [if_pos ⟨hl,by omega⟩,hk]
 simp
 omega
theorem seal_at {T:List UInt32} {v:VltA} {d:DevA} {N c:Nat} {k:KeyA} {p:UInt32} {s:List UInt8} (D:DOk N c d) (hc:c+1≤100) (hl:v.ring.length≤1099511627776) (hk:findA v.ring v.gen=(k,0)) (hp:p.toNat<N) (hs:s.length≤198):
  f_vv_seal T v d p s=some ((blkA T k (hd v p) s).drop 224,0,{ v with seals:=v.seals+1 },{ d with counts:=wI (d.counts+1),pend:=mput d.pend p (blkA T k (hd v p) s) }):=by
 unfold f_vv_seal
 have hb:=blkA_length T k (hd v p) hs
 rw [sealO_eq (h:=hd v p) hl hk hs,some_bind,(D.write hc hp hb).1]
 simp only [some_bind,tag_eq hb]
 rfl
theorem free_full (v:VltA):∀(k i:Nat),(∀x,i≤x→x<i+k→takenA v (UInt32.ofNat x)=true)→freeFrom v i k=[]
 | 0,i,_=>rfl
 | k+1,i,h=>by
  rw [freeFrom,if_pos (h i (Nat.le_refl _) (by omega))]
  exact free_full v k (i+1) fun x h1 h2=>h x (by omega) (by omega)
theorem free_at (v:VltA) (j:Nat) (hj:takenA v (UInt32.ofNat j)=false):∀(k i:Nat),i≤j→j<i+k→(∀x,i≤x→x<j→takenA v (UInt32.ofNat x)=true)→freeFrom v i k=[UInt32.ofNat j]
 | 0,i,h1,h2,_=>by omega
 | k+1,i,h1,h2,h=>by
  by_cases e:i=j
  subst e
  rw [freeFrom,if_neg (by rw [hj];decide)]
  rw [freeFrom,if_pos (h i (Nat.le_refl _) (by omega))]
  exact free_at v j hj k (i+1) (by omega) (by omega) fun x h1 h2=>h x (by omega) (by omega)
theorem write_at {T:List UInt32} {v:VltA} {d:DevA} {N c:Nat} {k:KeyA} {j:Nat} {s:List UInt8} (D:DOk N c d) (hc:c+1≤100) (hl:v.ring.length≤1099511627776) (hk:findA v.ring v.gen=(k,0)) (hs:s.length≤198)
  (h2:2≤j) (hj:j<N) (hfree:takenA v (UInt32.ofNat j)=false) (htk:∀x,2≤x→x<j→takenA v (UInt32.ofNat x)=true) (ht:v.taken.length≤100):
  f_vv_Write T v d s=some (⟨UInt32.ofNat j,(blkA T k (hd v (UInt32.ofNat j)) s).drop 224⟩,0,{ v with seals:=v.seals+1,taken:=mput v.taken (UInt32.ofNat j) true },{ d with counts:=wI (d.counts+1),pend:=mput d.pend (UInt32.ofNat j) (blkA T k (hd v (UInt32.ofNat j)) s) }):=by
 have hN:=D.nle
 have hjn:(UInt32.ofNat j).toNat=j:=by simp;omega
 unfold f_vv_Write freeO freesO
 rw [ret_eq,decide_eq_false (by omega),cond_false,some_bind,D.blen,if_pos (by omega),some_bind,free_at v j hfree (N-2) 2 h2 (by omega) htk]
 show f_vv_Write_j1 T v d s (UInt32.ofNat j)=_
 unfold f_vv_Write_j1
 have h0:decide (UInt32.ofNat j=0)=false:=by
  rw [decide_eq_false_iff_not]
  intro e
  have:=congrArg UInt32.toNat e
  rw [hjn] at this
  simp at this
  omega
 rw [h0,cond_false,seal_at D hc hl hk (by rw [hjn];exact hj) hs]
 simp only [some_bind,mputI]
 rw [if_pos (by omega)]
 rfl
theorem write_full {T:List UInt32} {v:VltA} {d:DevA} {N c:Nat} {s:List UInt8} (D:DOk N c d) (hs:s.length≤198) (htk:∀x,2≤x→x<N→takenA v (UInt32.ofNat x)=true):
  f_vv_Write T v d s=some (⟨0,[]⟩,110,v,d):=by
 have hN:=D.nle
 unfold f_vv_Write freeO freesO
 rw [ret_eq,decide_eq_false (by omega),cond_false,some_bind,D.blen,if_pos (by omega),some_bind,free_full v (N-2) 2 (fun x h1 h2=>htk x h1 (by omega))]
 rfl
/-! ### Rings -/
def keyN (i:Nat):KeyA:=⟨UInt32.ofNat (i+1),List.replicate 32 (UInt8.ofNat (65+i))⟩
def ringA (m:Nat):List KeyA:=(List.range m).map keyN
theorem ringA_length (m:Nat):(ringA m).length=m:=by simp [ringA]
theorem ringA_succ (m:Nat):ringA (m+1)=ringA m++[keyN m]:=by simp [ringA,List.range_succ]
theorem ring_eq (m:Nat) (hm:m≤30) {n:Nat} (hn:40≤n):f_law13_Ring n (m:Int)=some (ringA m):=by
 unfold f_law13_Ring f_law13_Ring_l1
 refine loop_all (fun i=>(ringA i,((i+1:Nat):Int))) m ?_ ?_ (by omega)
 intro i hi k
 simp only [f_law13_Ring_l1_b]
 rw [decide_eq_true (by omega),cond_true]
 unfold f_law13_Ring_l2
 refine loop_all (fun j=>(List.replicate j (UInt8.ofNat (65+i)),(j:Int))) 32 ?_ ?_ (by omega)
 intro j hj k'
 simp only [f_law13_Ring_l2_b]
 rw [decide_eq_true (by omega),cond_true,appL_eq (by simp;omega) (by simp;omega),some_bind,ret_eq]
 have e:toU8 (wI (64+((i+1:Nat):Int)))=UInt8.ofNat (65+i):=by
  rw [wI_eq (by omega) (by omega)]
  unfold toU8
  congr 1
  omega
 rw [e,wI_eq (by omega) (by omega),←List.replicate_succ']
 rfl
 intro k'
 simp only [f_law13_Ring_l2_b]
 rw [decide_eq_false (by omega),cond_false]
 unfold f_law13_Ring_j3
 rw [appL_eq (by simp [ringA_length];omega) (by simp [ringA_length];omega),some_bind]
 unfold f_law13_Ring_j2
 rw [ret_eq,wI_eq (by omega) (by omega)]
 have e:toU32 ((i+1:Nat):Int)=UInt32.ofNat (i+1):=by
  unfold toU32
  congr 1
  omega
 rw [e,ringA_succ]
 rfl
 intro k
 simp only [f_law13_Ring_l1_b]
 rw [decide_eq_false (by omega),cond_false]
 rfl
theorem keyN_gen {i:Nat} (h:i<30):(keyN i).gen.toNat=i+1:=by simp [keyN];omega
theorem ringA_right (m:Nat) (hm:m≤16):rightA (ringA m)=true:=by
 refine (right_iff _).2 ⟨by rw [ringA_length];exact hm,?_,?_⟩
 unfold ringA
 rw [List.pairwise_map]
 refine List.Pairwise.imp_of_mem ?_ List.pairwise_lt_range
 intro a b ha hb hlt
 have h1:=List.mem_range.1 ha
 have h2:=List.mem_range.1 hb
 rw [UInt32.lt_iff_toNat_lt,keyN_gen (by omega),keyN_gen (by omega)]
 omega
 intro k hk
 obtain ⟨i,hi,rfl⟩:=List.mem_map.1 hk
 have h1:=List.mem_range.1 hi
 refine ⟨?_,by simp [keyN]⟩
 rw [UInt32.lt_iff_toNat_lt,keyN_gen (by omega)]
 simp
theorem findA_ring {m i:Nat} (hm:m≤16) (hi:i<m):findA (ringA m) (keyN i).gen=(keyN i,0):=
 find_iff.2 ⟨ringA_right m hm,List.mem_map.2 ⟨i,List.mem_range.2 hi,rfl⟩,rfl⟩
end Go.Proofs.YtkibffdipniemaaGreatDoor
