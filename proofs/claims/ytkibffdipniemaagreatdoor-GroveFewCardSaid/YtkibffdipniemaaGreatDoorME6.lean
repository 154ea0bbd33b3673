/- The texts GG20, LG7, GG21, GG22, GG23, GG24, GG25, GG26, GG27, GG28, GG29, GG30, GG31, one behind the other: each bears its own sentence. Conditions: as each says. -/
import Derived.Test.YtkibffdipniemaaGreatDoorME1
import Derived.Test.YtkibffdipniemaaGreatDoorME2
import Derived.Test.YtkibffdipniemaaGreatDoorME3
import Derived.Test.YtkibffdipniemaaGreatDoorME4
import Derived.Test.YtkibffdipniemaaGreatDoorME5

set_option linter.unusedVariables false
set_option linter.unusedSimpArgs false
set_option maxHeartbeats 1000000
/- A planter's node, wherever its pages are put. Condition: the plain functions yield. -/
namespace Go.Proofs.YtkibffdipniemaaGreatDoor
open Go
variable {K:Nat→Prop} {w0:World} {H:List Chunk}

theorem SubI.mid:∀ {Hs A B R:List Chunk},SubI Hs A→SubI Hs (B++(A++R))
 | [],_,_,_,_=>trivial
 | c::r,A,B,R,⟨⟨i,hi⟩,h⟩=>⟨⟨B.length+i,by
   have hlt:=(List.getElem?_eq_some_iff.1 hi).1
   rw [List.getElem?_append_right (by omega),Nat.add_sub_cancel_left,List.getElem?_append_left hlt,hi]⟩,SubI.mid h⟩
theorem HpOk.rot1 {k:Chunk} {A B R M:List Chunk} {w:World} (h:HpOk K w0 ((k::(A++(B++R)))++M) w):HpOk K w0 ((k::(B++(A++R)))++M) w:=by
 refine h.perm (List.Perm.append_right _ (List.Perm.cons _ ?_))
 rw [←List.append_assoc,←List.append_assoc]
 exact List.Perm.append_right _ List.perm_append_comm
theorem SlOf.nil0 {α:Type} {enc:α→List Value} {sz:Nat} (hl:∀x,(enc x).length=sz):SlOf K w0 enc sz (.slice none 0 0) []:=⟨hl,.inl ⟨_,rfl,rfl⟩⟩
def fours (l:List RowA):List (List RowA):=if l=[] then [[]] else (List.range ((l.length+3) / 4)).map fun i=>(l.drop (4*i)).take (min (4*i+4) l.length-4*i)
theorem allV_fours {v:Value} {l:List RowA} (h:SlOf K w0 encRow 4 v l):(allV v l).map (·.2)=fours l:=by
 by_cases hl:l=[]
 subst hl
 rw [allV_nil]
 rfl
 rcases h.at_ with ⟨_,_,e⟩ | ⟨b,off,cap,rfl,hc,hcell⟩
 exact absurd e hl
 rw [allV_cons hl,fours,if_neg hl,chunksV,piecesN,List.map_map]
 rfl
def kidsPl {σ:Type} (rec_:NodeP→PlA→σ→Option (RefA×(PlA×σ))):List NodeP→PlA→σ→List RefA→Option (List RefA×(PlA×σ))
 | [],p,q,acc=>some (acc,(p,q))
 | k::ks,p,q,acc=>(rec_ k p q).bind fun y=>(appL 24 acc [y.1]).bind fun acc'=>kidsPl rec_ ks y.2.1 y.2.2 acc'
def rowsPl {σ:Type} (n:Nat) (wh:WhO σ):List (List RowA)→RefA→PlA→σ→Option (RefA×(PlA×σ))
 | [],r,p,q=>some (r,(p,q))
 | l::ls,r,p,q=>(plPage n wh ⟨1,0,0,0,l,[],r.page,r.tag⟩ p q).bind fun y=>cond (!decide (y.2.1.wrong=0)) (some y) (rowsPl n wh ls y.1 y.2.1 y.2.2)
def plNode {σ:Type} (n:Nat) (wh:WhO σ):Nat→NodeP→PlA→σ→Option (RefA×(PlA×σ))
 | 0,_,_,_=>none
 | f+1,t,p,q=>if 1048576<t.rows.length∨1048576<t.kids.length then none else cond (decide (0<(t.kids.length:Int)))
   ((kidsPl (plNode n wh f) t.kids p q []).bind fun y=>plPage n wh ⟨2,t.cx,t.cy,t.lev,[],y.1,0,[]⟩ y.2.1 y.2.2)
   (rowsPl n wh (fours t.rows).reverse ⟨0,[]⟩ p q)
set_option maxHeartbeats 16000000 in
set_option maxRecDepth 100000 in
theorem c_planter_node {σ:Type} {C:Value→σ→List Chunk} {wh:WhO σ} {fid:FuncId} {cs:Array Value} {T:List UInt32} {n bp:Nat} (hcal:callable Tryz.prog fid=true) (hwh:WhCon T fid cs C wh):
  ∀(f:Nat) {K:Nat→Prop} {w0:World} {H:List Chunk} {vo ca:Value} {a:NodeV} {t:NodeP} {p:PlA} {q:σ} {r:RefA×(PlA×σ)},ShaT K w0 T→plNode n wh f t p q=some r→NodeOf K w0 a t→
  Con Tryz.prog K w0 53 [vP bp 0,.agg (encNode a).toArray] (plC bp (.func (.func fid) #[] cs) vo p::rowT 72 3 vo encSaved p.out::C ca q) H
   (fun u M=>u=.agg (encRef r.1).toArray∧∃vo' ca',M=plC bp (.func (.func fid) #[] cs) vo' r.2.1::rowT 72 3 vo' encSaved r.2.1.out::C ca' r.2.2)
 | 0,K,w0,H,vo,ca,a,t,p,q,r,hS,h,hN=>by cases h
 | f+1,K,w0,H,vo,ca,a,t,p,q,r,hS,h,hN=>by
  have h:(if 1048576<t.rows.length∨1048576<t.kids.length then none else cond (decide (0<(t.kids.length:Int)))
   ((kidsPl (plNode n wh f) t.kids p q []).bind fun y=>plPage n wh ⟨2,t.cx,t.cy,t.lev,[],y.1,0,[]⟩ y.2.1 y.2.2)
   (rowsPl n wh (fours t.rows).reverse ⟨0,[]⟩ p q))=some r:=h
  split at h
  cases h
  rename_i hbig
  have hrl:t.rows.length≤1048576:=by omega
  have hkl:t.kids.length≤1048576:=by omega
  clear hbig
  obtain ⟨rv,kv,rfl,hr,hk⟩:=hN.parts
  refine Con.enter Tryz.func53 rfl rfl ?_
  show SX _ _ _ _ _ _ _ _ _ (plC bp (.func (.func fid) #[] cs) vo p::rowT 72 3 vo encSaved p.out::(C ca q++H))
  refine SX.sr ?_
  refine SL.box (.r rfl) rfl (fun _=>trivial) fun b0=>?_
  refine SL.box (.r rfl) rfl (fun _=>trivial) fun b1=>?_
  refine SL.alloc (.r rfl) ze31 (fun _=>trivial) fun b2=>?_
  refine SL.nx (SX.scope (SX.seq (SX.sr (SL.fa (.r rfl) rfl fo57_2 (SL.ld (.r rfl) sc55 rfl (cell_own 1 rfl rfl) (SL.lenND hk (.r rfl) ty55 rfl (SL.bin (.r rfl) rfl rfl Bin.gtI (SL.nx ?_))))))))
  refine SX.cond rfl (fun hc1=>?_) (fun hc1=>?_)
  replace h:=cT hc1 h
  refine SX.sr (SL.fa (.r rfl) rfl fo57_0 (SL.ldA [vU32 t.cx,vU32 t.cy,vI t.lev] (.r rfl) ag54 rfl rfl (cells_own 1 rfl (by rintro (_ | (_ | (_ | j))) u hj<;>first | exact hj | exact absurd hj (by simp))) (SL.bld [_,_] (.r rfl) pl148 pk148 ze148 ⟨rfl,rfl,trivial⟩ rfl ?_)))
  refine SL.alloc (.r rfl) ze148 (fun _=>trivial) fun b3=>?_
  refine SL.st 0 ⟨rfl,rfl,rfl⟩ rfl rfl rfl sz148 rfl rfl rfl trivial (SL.reAt 0 (own b3 (.cells #[vI 2,vU32 t.cx,vU32 t.cy,vI t.lev,.slice none 0 0,.slice none 0 0,vU32 0,vS []] 148)) (SL.nilT 31 2 encRef (SL.nx (SX.seq (SX.sr (SL.fa (.r rfl) rfl fo57_2 (SL.ld (.r rfl) sc55 rfl (cell_own 3 rfl rfl) (SL.lenND hk (.r rfl) ty55 rfl (SL.mv (.r rfl) rfl (SL.nx (SX.block ?_)))))))))))
  refine SX.heap (SX.mono (SX.loop (α:=Nat×List RefA×Value×PlA×σ×Value×Value) (fun x=>x.1≤t.kids.length∧((kidsPl (plNode n wh f) (t.kids.drop x.1) x.2.2.2.1 x.2.2.2.2.1 x.2.1).bind fun y=>plPage n wh ⟨2,t.cx,t.cy,t.lev,[],y.1,0,[]⟩ y.2.1 y.2.2)=some r)
   (fun x=>[(2,vP b0 0),(4,vP b2 0),(5,vP b3 0),(18,kv.val),(19,vI (t.kids.length:Int)),(20,vI (x.1:Int))])
   (fun x=>own b3 (.cells #[vI 2,vU32 t.cx,vU32 t.cy,vI t.lev,.slice none 0 0,x.2.2.1,vU32 0,vS []] 148)::rowT 31 2 x.2.2.1 encRef x.2.1::own b2 (.cells #[vU32 0,vS []] 31)::own b0 (.cells #[vP bp 0] 104)::plC bp (.func (.func fid) #[] cs) x.2.2.2.2.2.1 x.2.2.2.1::rowT 72 3 x.2.2.2.2.2.1 encSaved x.2.2.2.1.out::(C x.2.2.2.2.2.2 x.2.2.2.2.1++H))
   (fun x=>t.kids.length-x.1) (fun x D hp=>?_) (0,[],.slice none 0 0,p,q,vo,ca) ⟨Nat.zero_le _,h⟩) (by repeat' (first | exact trivial | refine And.intro rfl ?_))) (fun _ hw=>HpOk.pick (H:=[_,_,_,_,_,_,_]) hw [1,0,2,4,5,6] 7 rfl)
  clear h
  obtain ⟨i,ks,vk,p1,q1,vo1,ca1⟩:=x
  obtain ⟨hi,h⟩:=hp
  dsimp only at hi h ⊢
  refine SX.sr (SL.bin (.r rfl) rfl rfl Bin.ltI (SL.nx (SX.seq ?_)))
  refine SX.cond rfl (fun hc2=>?_) (fun hc2=>?_)
  have hlt:i<t.kids.length:=by
   have:=of_decide_eq_true hc2
   omega
  clear hc2
  have hnth:nthI t.kids (i:Int)=some t.kids[i]:=by
   rw [nthI,if_pos (by omega)]
   exact List.getElem?_eq_getElem hlt
  rw [List.drop_eq_getElem_cons hlt,kidsPl] at h
  obtain ⟨z,hz,h⟩:=bnd h
  obtain ⟨y,hy,hz⟩:=bnd hz
  obtain ⟨ac,hac,hz⟩:=bnd hz
  have h2:((kidsPl (plNode n wh f) (t.kids.drop (i+1)) y.2.1 y.2.2 ac).bind fun y=>plPage n wh ⟨2,t.cx,t.cy,t.lev,[],y.1,0,[]⟩ y.2.1 y.2.2)=some r:=by
   rw [hz];exact h
  refine SX.skip (SQ.thn (SX.seq (SX.block (SX.sr ?_))))
  refine SL.iaND hnth hk (.r rfl) ty55 sz57 rfl rfl fun b5 of5 rv5 kv5 hr5 hk5 hc5=>?_
  obtain ⟨rs5,rfl⟩:=hr5.slv
  obtain ⟨kk5,hk51,hk52⟩:=hk5
  obtain ⟨ks5,rfl⟩:=hk51.slv
  have hN5:NodeOf K w0 ⟨t.kids[i].cx,t.kids[i].cy,t.kids[i].lev,rs5,ks5⟩ t.kids[i]:=NodeOf.of hr5 ⟨kk5,hk51,hk52⟩
  refine SL.ldA [vU32 t.kids[i].cx,vU32 t.kids[i].cy,vI t.kids[i].lev,rs5.val,ks5.val] (.r rfl) ag57 rfl rfl (cells_kept hc5) ?_
  refine SL.alloc (.r rfl) ze57 (fun _=>trivial) fun b4=>?_
  refine SL.st 0 ⟨rfl,rfl,rfl⟩ rfl rfl rfl sz57 rfl rfl rfl trivial (SL.reAt 0 (own b4 (.cells #[vU32 t.kids[i].cx,vU32 t.kids[i].cy,vI t.kids[i].lev,rs5.val,ks5.val] 57)) (SL.nx (SX.drawI mix [0,1,4] (Pl.ap [(true,0),(true,1),(true,2),(true,3),(false,4),(false,5),(false,6),(true,7)] (.last 8 .nil)) (by kernel_rfl) (SL.fa (.r rfl) rfl fo148_3 (SL.ld (.r rfl) sc146 rfl (cell_own 1 rfl rfl) (SL.ld (.r rfl) sc104 rfl (cell_own 2 rfl rfl) (SL.ldA [vU32 t.kids[i].cx,vU32 t.kids[i].cy,vI t.kids[i].lev,rs5.val,ks5.val] (.r rfl) ag57 rfl rfl (cells_all 0 rfl) ?_)))))))
  refine SL.heap ?_ (fun _ hw=>HpOk.rotN (A:=[own b4 (.cells #[vU32 t.kids[i].cx,vU32 t.kids[i].cy,vI t.kids[i].lev,rs5.val,ks5.val] 57),own b3 (.cells #[vI 2,vU32 t.cx,vU32 t.cy,vI t.lev,.slice none 0 0,vk,vU32 0,vS []] 148),rowT 31 2 vk encRef ks,own b2 (.cells #[vU32 0,vS []] 31),own b0 (.cells #[vP bp 0] 104)]) (B:=plC bp (.func (.func fid) #[] cs) vo1 p1::rowT 72 3 vo1 encSaved p1.out::C ca1 q1) (R:=H) hw)
  have hcon:=c_planter_node (bp:=bp) hcal hwh f (ca:=ca1) (K:=K) (w0:=w0) (H:=([own b4 (.cells #[vU32 t.kids[i].cx,vU32 t.kids[i].cy,vI t.kids[i].lev,rs5.val,ks5.val] 57),own b3 (.cells #[vI 2,vU32 t.cx,vU32 t.cy,vI t.lev,.slice none 0 0,vk,vU32 0,vS []] 148),rowT 31 2 vk encRef ks,own b2 (.cells #[vU32 0,vS []] 31),own b0 (.cells #[vP bp 0] 104)]++H)++[marks D]) (vo:=vo1) hS hy hN5
  generalize hpo:(fun (u:Value) (M:List Chunk)=>u=.agg (encRef y.1).toArray∧∃vo' ca',M=plC bp (.func (.func fid) #[] cs) vo' y.2.1::rowT 72 3 vo' encSaved y.2.1.out::C ca' y.2.2)=po at hcon
  refine SL.call (vs:=[_,_]) (Hin:=plC bp (.func (.func fid) #[] cs) vo1 p1::rowT 72 3 vo1 encSaved p1.out::C ca1 q1) (Hr:=[own b4 (.cells #[vU32 t.kids[i].cx,vU32 t.kids[i].cy,vI t.kids[i].lev,rs5.val,ks5.val] 57),own b3 (.cells #[vI 2,vU32 t.cx,vU32 t.cy,vI t.lev,.slice none 0 0,vk,vU32 0,vS []] 148),rowT 31 2 vk encRef ks,own b2 (.cells #[vU32 0,vS []] 31),own b0 (.cells #[vP bp 0] 104)]++H) (.r rfl) rfl ⟨rfl,rfl,trivial⟩ cal53 rfl rfl hcon ?_
  intro u0 M0 hpost
  rw [←hpo] at hpost
  obtain ⟨rfl,vo2,ca2,rfl⟩:=hpost
  refine ⟨SubI.mid (A:=[own b4 (.cells #[vU32 t.kids[i].cx,vU32 t.kids[i].cy,vI t.kids[i].lev,rs5.val,ks5.val] 57),own b3 (.cells #[vI 2,vU32 t.cx,vU32 t.cy,vI t.lev,.slice none 0 0,vk,vU32 0,vS []] 148),rowT 31 2 vk encRef ks,own b2 (.cells #[vU32 0,vS []] 31),own b0 (.cells #[vP bp 0] 104)]) ⟨⟨0,rfl⟩,⟨1,rfl⟩,⟨4,rfl⟩,trivial⟩,?_⟩
  refine SL.heap ?_ (fun _ hw=>HpOk.rotN (A:=plC bp (.func (.func fid) #[] cs) vo2 y.2.1::rowT 72 3 vo2 encSaved y.2.1.out::C ca2 y.2.2) (B:=[own b4 (.cells #[vU32 t.kids[i].cx,vU32 t.kids[i].cy,vI t.kids[i].lev,rs5.val,ks5.val] 57),own b3 (.cells #[vI 2,vU32 t.cx,vU32 t.cy,vI t.lev,.slice none 0 0,vk,vU32 0,vS []] 148),rowT 31 2 vk encRef ks,own b2 (.cells #[vU32 0,vS []] 31),own b0 (.cells #[vP bp 0] 104)]) (R:=H) hw)
  refine SL.bsl [_] (.r rfl) ty146 sz31 ze31 ⟨rfl,trivial⟩ rfl rfl rfl (by first | (simp [Value.cells];done) | (intro v hv;simp only [List.mem_cons,List.not_mem_nil,or_false] at hv;rcases hv with rfl<;>rfl)) rfl rfl (fun _=>⟨⟨1,rfl⟩,⟨2,rfl⟩,⟨5,rfl⟩,trivial⟩) fun b6=>?_
  refine SL.ownT encRef 2 ([y.1]:List RefA) rfl (fun _=>rfl) rfl ?_
  refine SL.appT 3 hac (sz:=2) (enc:=encRef) (fun _=>rfl) (.r rfl) ty146 sz31 by31 ze31 rfl (by decide) rfl rfl rfl rfl (cells_rowA (sz:=2) (enc:=encRef) 0 (fun _=>rfl) rfl) (by simp [encRef,Value.oneCell']) (fun _=>⟨⟨1,rfl⟩,⟨2,rfl⟩,⟨5,rfl⟩,trivial⟩) fun v6=>?_
  refine SL.fa (.r rfl) rfl fo148_3 (SL.last ?_)
  refine SL.rowV 3 rfl fun hv6 ho6=>?_
  refine SL.stR 2 ⟨rfl,rfl,rfl⟩ rfl rfl rfl sz146 hv6 ho6 rfl trivial (SL.nil (SQ.blk (SQ.thn (SX.region (SL.bin (.r rfl) rfl rfl (Bin.addI (by omega) (by omega)) (SL.mv (.r rfl) rfl (SL.nil ?_)))))))
  exact SQ.again (i+1,ac,v6,y.2.1,y.2.2,vo2,ca2) ⟨hlt,h2⟩ (by dsimp only;omega) (by repeat' (first | exact trivial | refine And.intro rfl ?_)) (fun _ hw=>HpOk.pick (H:=[_,_,_,_,_,_]) hw [2,3,4,5] 6 rfl)
  have hge:i=t.kids.length:=by
   have:=of_decide_eq_false hc2
   omega
  subst hge
  rw [List.drop_length,kidsPl] at h
  replace h:plPage n wh ⟨2,t.cx,t.cy,t.lev,[],ks,0,[]⟩ p1 q1=some r:=h
  refine SX.exit (SQ.thnE (SQ.lpE (SQ.blkE (SQ.thn (SX.pick [1,0,2,3] 4 (SX.sr (SL.ld (.r rfl) sc104 rfl (cell_own 3 rfl rfl) (SL.ldA [vI 2,vU32 t.cx,vU32 t.cy,vI t.lev,.slice none 0 0,vk,vU32 0,vS []] (.r rfl) ag148 rfl rfl (cells_all 1 rfl) ?_))))))))
  refine SL.heap ?_ (fun _ hw=>HpOk.rot1 (A:=[own b3 (.cells #[vI 2,vU32 t.cx,vU32 t.cy,vI t.lev,.slice none 0 0,vk,vU32 0,vS []] 148),own b2 (.cells #[vU32 0,vS []] 31),own b0 (.cells #[vP bp 0] 104)]) (B:=(plC bp (.func (.func fid) #[] cs) vo1 p1::rowT 72 3 vo1 encSaved p1.out::C ca1 q1)) (R:=H) hw)
  have hcon:=Con.lend (K:=K) (w0:=w0) (H:=([own b3 (.cells #[vI 2,vU32 t.cx,vU32 t.cy,vI t.lev,.slice none 0 0,vk,vU32 0,vS []] 148),own b2 (.cells #[vU32 0,vS []] 31),own b0 (.cells #[vP bp 0] 104)]++H)++[marks D]) (f:=85) (B:=[rowT 31 2 vk encRef ks]) (Hin:=(plC bp (.func (.func fid) #[] cs) vo1 p1::rowT 72 3 vo1 encSaved p1.out::C ca1 q1)) fun K' w1 hkk hB=>c_planter_page (bp:=bp) (a:=ca1) (vo:=vo1) (v4:=.slice none 0 0) (v5:=vk) hcal hwh (hS.keeps hkk) h (SlOf.nil0 (fun _=>rfl)) (SlOf.lentT (e:=31) (v:=vk) (fun _=>rfl) (hB _ (by simp)))
  refine SL.call (vs:=[_,_]) (Hin:=rowT 31 2 vk encRef ks::(plC bp (.func (.func fid) #[] cs) vo1 p1::rowT 72 3 vo1 encSaved p1.out::C ca1 q1)) (Hr:=[own b3 (.cells #[vI 2,vU32 t.cx,vU32 t.cy,vI t.lev,.slice none 0 0,vk,vU32 0,vS []] 148),own b2 (.cells #[vU32 0,vS []] 31),own b0 (.cells #[vP bp 0] 104)]++H) (.r rfl) rfl ⟨rfl,rfl,trivial⟩ cal85 rfl rfl hcon ?_
  rintro _ _ ⟨_,rfl,rfl,vo2,ca2,rfl⟩
  refine ⟨trivial,?_⟩
  refine SL.heap ?_ (fun _ hw=>HpOk.rotN (A:=rowT 31 2 vk encRef ks::plC bp (.func (.func fid) #[] cs) vo2 r.2.1::rowT 72 3 vo2 encSaved r.2.1.out::C ca2 r.2.2) (B:=[own b3 (.cells #[vI 2,vU32 t.cx,vU32 t.cy,vI t.lev,.slice none 0 0,vk,vU32 0,vS []] 148),own b2 (.cells #[vU32 0,vS []] 31),own b0 (.cells #[vP bp 0] 104)]) (R:=H) hw)
  refine SL.st 1 ⟨rfl,rfl,rfl⟩ rfl rfl rfl sz31 rfl rfl rfl trivial (SL.nx (SX.ret (SQ.thnR (SQ.scpR ?_))))
  exact SQ.fret (resv1 rfl (resv.ag 1 (encRef r.1) ag31 rfl rfl rfl rfl)) (ret_of (M:=plC bp (.func (.func fid) #[] cs) vo2 r.2.1::rowT 72 3 vo2 encSaved r.2.1.out::C ca2 r.2.2) ⟨rfl,vo2,ca2,rfl⟩ fun _ hw=>HpOk.pick (H:=[_,_,_,_]) hw [] 4 rfl)
  replace h:=cF hc1 h
  refine SX.skip (SQ.thn (SX.sr ?_))
  refine SL.alloc (.r rfl) ze31 (fun _=>trivial) fun b3=>?_
  refine SL.nx (SX.seq (SX.label (SQ.thn (SX.seq (SX.sr (SL.fa (.r rfl) rfl fo57_1 (SL.ld (.r rfl) sc35 rfl (cell_own 2 rfl rfl) ?_)))))))
  refine SL.call (vs:=[_]) (Hin:=[]) (Hr:=_::_::_::_::_::_::_) (.r rfl) rfl ⟨rfl,trivial⟩ cal86 rfl rfl (w_pieces hr.one) ?_
  rintro _ _ ⟨bx,rfl,rfl⟩
  refine ⟨trivial,?_⟩
  refine SL.nx (SX.block ?_)
  have h0:rowsPl n wh (((allV rv.val t.rows).reverse).map (·.2)) ⟨0,[]⟩ p q=some r:=by
   rw [List.map_reverse,allV_fours hr];exact h
  refine SX.heap (SX.rangeAt (enc:=encP) (allV rv.val t.rows).reverse (G0:=(own b3 (.cells #[vU32 0,vS []] 31)::own b2 (.cells #[vU32 0,vS []] 31)::own b0 (.cells #[vP bp 0] 104)::plC bp (.func (.func fid) #[] cs) vo p::rowT 72 3 vo encSaved p.out::(C ca q++H))) (fun pre G=>∃(x:RefA) (p1:PlA) (q1:σ) (vo1 ca1:Value),(∀suf,(allV rv.val t.rows).reverse=pre++suf→rowsPl n wh (suf.map (·.2)) x p1 q1=some r)∧G=(own b3 (.cells #[vU32 x.page,vS x.tag] 31)::own b2 (.cells #[vU32 0,vS []] 31)::own b0 (.cells #[vP bp 0] 104)::plC bp (.func (.func fid) #[] cs) vo1 p1::rowT 72 3 vo1 encSaved p1.out::(C ca1 q1++H))) (fun c G=>c=.exit 2∧∃vo1 ca1:Value,G=(own b3 (.cells #[vU32 r.1.page,vS r.1.tag] 31)::own b2 (.cells #[vU32 0,vS []] 31)::own b0 (.cells #[vP bp 0] 104)::plC bp (.func (.func fid) #[] cs) vo1 r.2.1::rowT 72 3 vo1 encSaved r.2.1.out::(C ca1 r.2.2++H))) rfl cal126 rfl (fun _=>rfl) (q_pieces hrl hr) rfl ⟨⟨0,[]⟩,p,q,vo,ca,fun suf e=>by rw [←show (allV rv.val t.rows).reverse=suf from e];exact h0,rfl⟩ (fun pre x suf G hxs hJ lr lp Rest=>?_) (fun G D hJ=>?_) (fun c G D hX=>?_)) (fun _ hw=>HpOk.pick (H:=[_,_,_,_,_,_,_]) hw [0,1,2,4,5,6] 7 rfl)
  obtain ⟨w,p1,q1,vo1,ca1,h,rfl⟩:=hJ
  have h1:=h (x::suf) hxs
  rw [List.map_cons,rowsPl] at h1
  obtain ⟨y,hy,h1⟩:=bnd h1
  have hx:SlOf K w0 encRow 4 x.1.val x.2:=allV_ok hr x (List.mem_reverse.1 (by rw [hxs];simp))
  refine SX.region (SL.asg (.r rfl) rfl (SL.nil ?_))
  refine SQ.bgn (G:=own b3 (.cells #[vU32 w.page,vS w.tag] 31)::own b2 (.cells #[vU32 0,vS []] 31)::own b0 (.cells #[vP bp 0] 104)::plC bp (.func (.func fid) #[] cs) vo1 p1::rowT 72 3 vo1 encSaved p1.out::(C ca1 q1++H)) ?_
  refine SX.block (SX.sr (SL.ld (.r rfl) sc104 rfl (cell_own 2 rfl rfl) (SL.mv (.r rfl) rfl (SL.ldA (encRef w) (.r rfl) ag31 rfl rfl (cells_all 0 rfl) (SL.bld [_,_,_] (.r rfl) pl148 pk148 ze148 ⟨rfl,rfl,rfl,trivial⟩ rfl ?_)))))
  refine SL.heap ?_ (fun _ hw=>HpOk.rotN (A:=[own b3 (.cells #[vU32 w.page,vS w.tag] 31),own b2 (.cells #[vU32 0,vS []] 31),own b0 (.cells #[vP bp 0] 104)]) (B:=(plC bp (.func (.func fid) #[] cs) vo1 p1::rowT 72 3 vo1 encSaved p1.out::C ca1 q1)) (R:=(H++Tl lr lp Rest .busy)) (by simp only [List.append_assoc,List.cons_append,List.nil_append] at hw ⊢;exact hw))
  have hcon:=c_planter_page (K:=K) (w0:=w0) (H:=([own b3 (.cells #[vU32 w.page,vS w.tag] 31),own b2 (.cells #[vU32 0,vS []] 31),own b0 (.cells #[vP bp 0] 104)]++(H++Tl lr lp Rest .busy))++[marks []]) (bp:=bp) (a:=ca1) (vo:=vo1) (v4:=x.1.val) (v5:=.slice none 0 0) hcal hwh hS hy hx (SlOf.nil0 (fun _=>rfl))
  refine SL.call (vs:=[_,_]) (Hin:=(plC bp (.func (.func fid) #[] cs) vo1 p1::rowT 72 3 vo1 encSaved p1.out::C ca1 q1)) (Hr:=[own b3 (.cells #[vU32 w.page,vS w.tag] 31),own b2 (.cells #[vU32 0,vS []] 31),own b0 (.cells #[vP bp 0] 104)]++(H++Tl lr lp Rest .busy)) (.r rfl) rfl ⟨rfl,rfl,trivial⟩ cal85 rfl rfl hcon ?_
  rintro _ _ ⟨rfl,vo2,ca2,rfl⟩
  refine ⟨trivial,?_⟩
  refine SL.heap ?_ (fun _ hw=>HpOk.rotN (A:=(plC bp (.func (.func fid) #[] cs) vo2 y.2.1::rowT 72 3 vo2 encSaved y.2.1.out::C ca2 y.2.2)) (B:=[own b3 (.cells #[vU32 w.page,vS w.tag] 31),own b2 (.cells #[vU32 0,vS []] 31),own b0 (.cells #[vP bp 0] 104)]) (R:=(H++Tl lr lp Rest .busy)) hw)
  refine SL.st 0 ⟨rfl,rfl,rfl⟩ rfl rfl rfl sz31 rfl rfl rfl trivial (SL.reAt 0 (own b3 (.cells #[vU32 y.1.page,vS y.1.tag] 31)) (SL.nx (SX.sr (SL.ld (.r rfl) sc104 rfl (cell_own 2 rfl rfl) (SL.nchk (.r rfl) rfl (SL.fa (.r rfl) rfl fo106_2 (SL.ld (.r rfl) sc32 rfl (cell_own 3 rfl rfl) (SL.bin (.r rfl) rfl rfl Bin.neI (SL.nx ?_)))))))))
  have hheap:∀w1:World,HpOk K w0 ((own b3 (.cells #[vU32 y.1.page,vS y.1.tag] 31)::own b2 (.cells #[vU32 0,vS []] 31)::own b0 (.cells #[vP bp 0] 104)::((plC bp (.func (.func fid) #[] cs) vo2 y.2.1::rowT 72 3 vo2 encSaved y.2.1.out::C ca2 y.2.2)++(H++Tl lr lp Rest .busy)))) w1→HpOk K w0 ((own b3 (.cells #[vU32 y.1.page,vS y.1.tag] 31)::own b2 (.cells #[vU32 0,vS []] 31)::own b0 (.cells #[vP bp 0] 104)::plC bp (.func (.func fid) #[] cs) vo2 y.2.1::rowT 72 3 vo2 encSaved y.2.1.out::(C ca2 y.2.2++H))++Tl lr lp Rest .busy) w1:=by
   intro w1 hw
   simp only [List.append_assoc,List.cons_append] at hw ⊢
   exact hw
  refine SX.cond rfl (fun hc3=>?_) (fun hc3=>?_)
  replace h1:=cT hc3 h1
  obtain rfl:=Option.some.inj h1
  refine SX.exit (SQ.blkO ?_)
  exact SQ.rndE ⟨rfl,vo2,ca2,rfl⟩ hheap
  replace h1:=cF hc3 h1
  refine SX.skip (SQ.blk ?_)
  exact SQ.rndN ⟨y.1,y.2.1,y.2.2,vo2,ca2,fun suf' e=>by rw [suf_eq hxs e];exact h1,rfl⟩ hheap
  obtain ⟨x,p1,q1,vo1,ca1,h,rfl⟩:=hJ
  replace h:=h [] (List.append_nil _).symm
  obtain rfl:(x,(p1,q1))=r:=Option.some.inj h
  refine SQ.blk (SQ.thn (SX.sr (SL.ldA (encRef x) (.r rfl) ag31 rfl rfl (cells_all 0 rfl) (SL.st 1 ⟨rfl,rfl,rfl⟩ rfl rfl rfl sz31 rfl rfl rfl trivial (SL.nx (SX.ret (SQ.scpR ?_)))))))
  exact SQ.fret (resv1 rfl (resv.ag 1 (encRef x) ag31 rfl rfl rfl rfl)) (ret_of (M:=_::_::C ca1 q1) ⟨rfl,vo1,ca1,rfl⟩ fun _ hw=>HpOk.pick (H:=[_,_,_]) hw [] 3 rfl)
  obtain ⟨rfl,vo1,ca1,rfl⟩:=hX
  refine SX.exit (SQ.blkE (SQ.thn (SX.sr (SL.ldA (encRef r.1) (.r rfl) ag31 rfl rfl (cells_all 0 rfl) (SL.st 1 ⟨rfl,rfl,rfl⟩ rfl rfl rfl sz31 rfl rfl rfl trivial (SL.nx (SX.ret (SQ.scpR ?_))))))))
  exact SQ.fret (resv1 rfl (resv.ag 1 (encRef r.1) ag31 rfl rfl rfl rfl)) (ret_of (M:=_::_::C ca1 r.2.2) ⟨rfl,vo1,ca1,rfl⟩ fun _ hw=>HpOk.pick (H:=[_,_,_]) hw [] 3 rfl)
end Go.Proofs.YtkibffdipniemaaGreatDoor

/- Plain laws of a tree's pages: what a planter answers. No program in sight. Condition: as each says. -/
namespace Go.Proofs.YtkibffdipniemaaGreatDoor
open Go

/-! ### Rows in pieces of four -/
theorem range_pieces (l:List RowA):∀k,((List.range k).map fun i=>(l.drop (4*i)).take (min (4*i+4) l.length-4*i)).flatten=l.take (4*k)
 | 0=>by simp
 | k+1=>by
  rw [List.range_succ,List.map_append,List.flatten_append,range_pieces l k]
  simp only [List.map_cons,List.map_nil,List.flatten_cons,List.flatten_nil,List.append_nil]
  rw [show 4*(k+1)=4*k+4 by omega,List.take_add]
  congr 1
  rcases Nat.lt_or_ge (4*k+4) l.length with h | h
  rw [Nat.min_eq_left (by omega)]
  congr 1
  omega
  rw [Nat.min_eq_right h]
  rw [List.take_of_length_le (by simp),List.take_of_length_le (by simp;omega)]
theorem fours_flat (l:List RowA):(fours l).flatten=l:=by
 unfold fours
 split
 rename_i h;subst h;rfl
 rw [range_pieces,List.take_of_length_le (by omega)]
theorem fours_len (l:List RowA):(fours l).length=max 1 ((l.length+3) / 4):=by
 unfold fours
 split
 rename_i h;subst h;rfl
 rename_i h
 have:=List.length_pos_iff.2 h
 simp
 omega
theorem fours_mem {l p:List RowA} (h:p∈fours l):p.length≤4∧p.Sublist l:=by
 unfold fours at h
 split at h
 rename_i hl
 subst hl
 simp only [List.mem_singleton] at h
 subst h
 exact ⟨by simp,List.Sublist.refl _⟩
 obtain ⟨i,_,rfl⟩:=List.mem_map.1 h
 exact ⟨by simp;omega,(List.take_sublist ..).trans (List.drop_sublist ..)⟩
theorem rightR_sub {l p:List RowA} (h:rightR l=true) (hs:p.Sublist l):rightR p=true:=by
 unfold rightR at h ⊢
 simp only [Bool.and_eq_true,decide_eq_true_eq] at h ⊢
 refine ⟨⟨List.all_eq_true.2 fun r hr=>List.all_eq_true.1 h.1.1 r (hs.subset hr),(rising_iff p).2 (((rising_iff l).1 h.1.2).sublist hs)⟩,?_⟩
 have:=hs.length_le
 omega
/-! ### What a planter put -/
abbrev leafP (l:List RowA) (r:RefA):PageA:=⟨1,0,0,0,l,[],r.page,r.tag⟩
abbrev innerP (t:NodeP) (rs:List RefA):PageA:=⟨2,t.cx,t.cy,t.lev,[],rs,0,[]⟩
def RunL:List (List RowA)→RefA→List SavedA→RefA→Prop
 | [],r0,seg,r=>seg=[]∧r=r0
 | l::ls,r0,seg,r=>∃r1 seg',pageOk (leafP l r0)=true∧seg=⟨encPg (leafP l r0),r1.page,r1.tag⟩::seg'∧RunL ls r1 seg' r
def RunK (R:NodeP→List SavedA→RefA→Prop):List NodeP→List SavedA→List RefA→Prop
 | [],seg,rs=>seg=[]∧rs=[]
 | k::ks,seg,rs=>∃s1 r1 s2 rs',R k s1 r1∧RunK R ks s2 rs'∧seg=s1++s2∧rs=r1::rs'
def RunT:Nat→NodeP→List SavedA→RefA→Prop
 | 0,_,_,_=>False
 | f+1,t,seg,r=>(t.rows.length≤1000∧t.kids.length≤1000)∧((t.kids=[]∧RunL (fours t.rows).reverse ⟨0,[]⟩ seg r)∨(t.kids≠[]∧∃segs rs,RunK (RunT f) t.kids segs rs∧pageOk (innerP t rs)=true∧seg=segs++[⟨encPg (innerP t rs),r.page,r.tag⟩]))
def pgN:Nat→NodeP→Nat
 | 0,_=>0
 | f+1,t=>if t.kids.length=0 then max 1 ((t.rows.length+3) / 4) else (t.kids.map (pgN f)).sum+1
def lvN:Nat→NodeP→List RowA
 | 0,_=>[]
 | f+1,t=>if t.kids.length=0 then t.rows else (t.kids.map (lvN f)).flatten
theorem RunL.len:∀ {ls:List (List RowA)} {r0:RefA} {seg:List SavedA} {r:RefA},RunL ls r0 seg r→seg.length=ls.length
 | [],_,_,_,h=>by rw [h.1];rfl
 | _::_,_,_,_,h=>by
  obtain ⟨r1,seg',_,e,h'⟩:=h
  rw [e,List.length_cons,RunL.len h',List.length_cons]
theorem RunK.len {R:NodeP→List SavedA→RefA→Prop} {g:NodeP→Nat} (hg:∀k s r,R k s r→s.length=g k):∀ {ks:List NodeP} {seg:List SavedA} {rs:List RefA},RunK R ks seg rs→seg.length=(ks.map g).sum∧rs.length=ks.length
 | [],_,_,h=>by rw [h.1,h.2];simp
 | k::ks,_,_,h=>by
  obtain ⟨s1,r1,s2,rs',h1,h2,e1,e2⟩:=h
  have ih:=RunK.len hg h2
  rw [e1,e2,List.length_append,hg _ _ _ h1,ih.1,List.length_cons,ih.2]
  simp
theorem RunT.len:∀(f:Nat) {t:NodeP} {seg:List SavedA} {r:RefA},RunT f t seg r→seg.length=pgN f t
 | 0,_,_,_,h=>h.elim
 | f+1,t,seg,r,h=>by
  rcases h.2 with ⟨h1,h2⟩ | ⟨h1,segs,rs,h2,_,e⟩
  rw [h2.len,pgN,if_pos (by rw [h1];rfl),List.length_reverse,fours_len]
  have h0:=List.length_pos_iff.2 h1
  rw [e,pgN,if_neg (by omega),List.length_append,(RunK.len (fun k s r hr=>RunT.len f hr) h2).1]
  rfl
/-! ### A planter whose pages are taken as they come -/
def Path {σ:Type} (wh:WhO σ):σ→List SavedA→σ→Prop
 | q,[],q'=>q=q'
 | q,s::ss,q'=>∃q1,wh q s.txt=some ((⟨s.page,s.tag⟩,0),q1)∧Path wh q1 ss q'
theorem Path.split {σ:Type} {wh:WhO σ}:∀ {a b:List SavedA} {q q':σ},Path wh q (a++b) q'→∃q1,Path wh q a q1∧Path wh q1 b q'
 | [],_,q,_,h=>⟨q,rfl,h⟩
 | _::_,_,_,_,⟨q1,h1,h2⟩=>by
  obtain ⟨q2,h3,h4⟩:=Path.split h2
  exact ⟨q2,⟨q1,h1,h3⟩,h4⟩
theorem Path.join {σ:Type} {wh:WhO σ}:∀ {a b:List SavedA} {q q1 q':σ},Path wh q a q1→Path wh q1 b q'→Path wh q (a++b) q'
 | [],_,_,_,_,h,h'=>by cases h;exact h'
 | _::_,_,_,_,_,⟨q1,h1,h2⟩,h'=>⟨q1,h1,h2.join h'⟩
variable {σ:Type} {wh:WhO σ} {n:Nat}
theorem page_path {x:PageA} {o:List SavedA} {q q':σ} {r:RefA} (hn:10≤n) (h:pageOk x=true) (hw:wh q (encPg x)=some ((r,0),q')) (hb:o.length≤100000):plPage n wh x ⟨o,0⟩ q=some (r,(⟨o++[⟨encPg x,r.page,r.tag⟩],0⟩,q')):=by
 unfold plPage
 rw [show (!decide ((0:Int)=0))=false from rfl,cond_false,encode_eq hn h,some_bind,show decide ((0:Int)=0)=true from rfl,cond_true,hw,some_bind]
 unfold plPut
 rw [show (!decide ((0:Int)=0))=false from rfl,cond_false,appL_eq (by simp;omega) (by simp;omega),some_bind]
theorem rows_path (hn:10≤n):∀ {ls:List (List RowA)} {r0:RefA} {seg:List SavedA} {r:RefA} {o:List SavedA} {q q':σ},RunL ls r0 seg r→Path wh q seg q'→o.length+seg.length≤100000→rowsPl n wh ls r0 ⟨o,0⟩ q=some (r,(⟨o++seg,0⟩,q'))
 | [],r0,seg,r,o,q,q',h,hp,hb=>by
  obtain ⟨rfl,rfl⟩:=h
  obtain rfl:q=q':=hp
  simp [rowsPl]
 | l::ls,r0,seg,r,o,q,q',h,hp,hb=>by
  obtain ⟨r1,seg',hok,rfl,h'⟩:=h
  obtain ⟨q1,hw,hp'⟩:=hp
  simp only [List.length_cons] at hb
  unfold rowsPl
  rw [page_path hn hok hw (by omega),some_bind,show (!decide ((0:Int)=0))=false from rfl,cond_false,rows_path hn h' hp' (by simp;omega)]
  simp
theorem kids_path {rec_:NodeP→PlA→σ→Option (RefA×(PlA×σ))} {R:NodeP→List SavedA→RefA→Prop} (hrec:∀k s r o q q',R k s r→Path wh q s q'→o.length+s.length≤100000→rec_ k ⟨o,0⟩ q=some (r,(⟨o++s,0⟩,q'))):
  ∀ {ks:List NodeP} {seg:List SavedA} {rs:List RefA} {acc:List RefA} {o:List SavedA} {q q':σ},RunK R ks seg rs→Path wh q seg q'→o.length+seg.length≤100000→acc.length+ks.length≤2000000→kidsPl rec_ ks ⟨o,0⟩ q acc=some (acc++rs,(⟨o++seg,0⟩,q'))
 | [],seg,rs,acc,o,q,q',h,hp,hb,ha=>by
  obtain ⟨rfl,rfl⟩:=h
  obtain rfl:q=q':=hp
  simp [kidsPl]
 | k::ks,seg,rs,acc,o,q,q',h,hp,hb,ha=>by
  obtain ⟨s1,r1,s2,rs',h1,h2,rfl,rfl⟩:=h
  obtain ⟨q1,p1,p2⟩:=hp.split
  simp only [List.length_append,List.length_cons] at hb ha
  unfold kidsPl
  rw [hrec k s1 r1 o q q1 h1 p1 (by omega),some_bind,appL_eq (by simp;omega) (by simp;omega),some_bind,kids_path hrec h2 p2 (by simp;omega) (by simp;omega)]
  simp
theorem node_path (hn:10≤n):∀(f:Nat) {t:NodeP} {seg:List SavedA} {r:RefA} {o:List SavedA} {q q':σ},RunT f t seg r→Path wh q seg q'→o.length+seg.length≤100000→plNode n wh f t ⟨o,0⟩ q=some (r,(⟨o++seg,0⟩,q'))
 | 0,_,_,_,_,_,_,h,_,_=>h.elim
 | f+1,t,seg,r,o,q,q',h,hp,hb=>by
  obtain ⟨⟨b1,b2⟩,h⟩:=h
  unfold plNode
  rw [if_neg (by omega)]
  rcases h with ⟨h1,h2⟩ | ⟨h1,segs,rs,h2,h3,rfl⟩
  rw [decide_eq_false (by rw [h1];simp),cond_false]
  exact rows_path hn h2 hp hb
  have h0:=List.length_pos_iff.2 h1
  obtain ⟨q1,p1,q2,p2,p3⟩:=hp.split
  obtain rfl:q2=q':=p3
  simp only [List.length_append,List.length_singleton] at hb
  rw [decide_eq_true (by omega),cond_true,kids_path (fun k s r o q q' hr hp hb=>node_path hn f hr hp hb) h2 p1 (by omega) (by simp;omega),some_bind]
  have:=page_path (x:=innerP t rs) (o:=o++segs) hn h3 p2 (by simp;omega)
  simpa using this
/-! ### A planter on its way -/
structure WhOk {σ:Type} (wh:WhO σ) (Inv:σ→Prop) (Good:σ→SavedA→Prop) (room:σ→Nat):Prop where
 step:∀q s,Inv q→s.length≤198→∃r e q',wh q s=some ((r,e),q')∧Inv q'∧(∀x,Good q x→Good q' x)∧((e=0∧refOk r=true∧Good q' ⟨s,r.page,r.tag⟩∧room q≤room q'+1)∨(e=110∧room q=0))
def Res (wh:WhO σ) (Inv:σ→Prop) (Good:σ→SavedA→Prop) (room:σ→Nat) (k:Nat) (Run:List SavedA→Prop) (p:PlA) (q:σ) (p':PlA) (q':σ):Prop:=
 Inv q'∧(∀x,Good q x→Good q' x)∧((p'.wrong=0∧∃seg,p'.out=p.out++seg∧seg.length=k∧Run seg∧Path wh q seg q'∧(∀x∈seg,Good q' x)∧room q≤room q'+k)∨(p'.wrong=110∧room q<k))
variable {Inv:σ→Prop} {Good:σ→SavedA→Prop} {room:σ→Nat}
theorem page_wrong {x:PageA} {p:PlA} {q:σ} (h:p.wrong≠0):plPage n wh x p q=some (⟨0,[]⟩,(p,q)):=by
 unfold plPage
 rw [decide_eq_false h]
 rfl
theorem flat_le {α:Type} (f:α→List UInt8) (m:Nat):∀(l:List α),(∀a∈l,(f a).length≤m)→(l.map f).flatten.length≤m*l.length
 | [],_=>by simp
 | a::l,h=>by
  have h1:=h a (by simp)
  have h2:=flat_le f m l (fun b hb=>h b (by simp [hb]))
  simp only [List.map_cons,List.flatten_cons,List.length_append,List.length_cons,Nat.mul_add,Nat.mul_one]
  omega
theorem encPg_le {x:PageA} (h:pageOk x=true):(encPg x).length≤198:=by
 unfold encPg
 by_cases hk:x.kind=1
 obtain ⟨h1,h2,h3,h4,h5,h6,h7⟩:=pageOk_leaf h hk
 have h32:x.ntag.length≤32:=by
  rcases h7 with h7 | h7
  rw [h7.2];simp
  have:=(refOk_len h7).1
  simp only at this
  omega
 have:=flat_le encRowB 33 x.rows (fun r hr=>by rw [encRowB_len];have:=rightR_txt h6 r hr;omega)
 have h36:=encRefB_len (r:=⟨x.npage,x.ntag⟩) h32
 rw [show decide (x.kind=2)=false by rw [hk];rfl,cond_false]
 simp only [List.length_append,lePut_length,h36]
 omega
 obtain ⟨hk2,h1,h2,h3,h4,h5,h6,h7,h8⟩:=pageOk_inner h hk
 have:=flat_le encRefB 36 x.kids (fun r hr=>by rw [encRefB_len (by have:=(refOk_len (h1 r hr)).1;omega)];exact Nat.le_refl _)
 rw [show decide (x.kind=2)=true by rw [hk2];rfl,cond_true]
 simp only [List.length_append,lePut_length]
 omega
theorem page_res (W:WhOk wh Inv Good room) (hn:10≤n) {x:PageA} {p:PlA} {q:σ} (h:pageOk x=true) (hi:Inv q) (hw:p.wrong=0) (hb:p.out.length≤100000):
  ∃r p' q',plPage n wh x p q=some (r,(p',q'))∧(p'.wrong=0→refOk r=true)∧Res wh Inv Good room 1 (fun seg=>seg=[⟨encPg x,r.page,r.tag⟩]) p q p' q':=by
 obtain ⟨r,e,q',h1,h2,h3,h4⟩:=W.step q (encPg x) hi (encPg_le h)
 unfold plPage
 rw [hw,show (!decide ((0:Int)=0))=false from rfl,cond_false,encode_eq hn h,some_bind,show decide ((0:Int)=0)=true from rfl,cond_true,h1,some_bind]
 unfold plPut
 rcases h4 with ⟨rfl,h5,h6,h7⟩ | ⟨rfl,h5⟩
 rw [show (!decide ((0:Int)=0))=false from rfl,cond_false,appL_eq (by simp;omega) (by simp;omega),some_bind]
 exact ⟨r,_,q',rfl,fun _=>h5,h2,h3,.inl ⟨hw,_,rfl,rfl,rfl,⟨q',h1,rfl⟩,fun y hy=>by rw [List.mem_singleton.1 hy];exact h6,h7⟩⟩
 rw [show (!decide ((110:Int)=0))=true from rfl,cond_true]
 exact ⟨⟨0,[]⟩,_,q',rfl,fun h0=>absurd h0 (show ¬((110:Int)=0) by decide),h2,h3,.inr ⟨rfl,by omega⟩⟩
theorem rows_res (W:WhOk wh Inv Good room) (hn:10≤n):∀(ls:List (List RowA)) (r0:RefA) (p:PlA) (q:σ),(∀l∈ls,l.length≤4∧rightR l=true)→(r0=⟨0,[]⟩∨refOk r0=true)→Inv q→p.wrong=0→p.out.length+ls.length≤100000→
  ∃r p' q',rowsPl n wh ls r0 p q=some (r,(p',q'))∧(p'.wrong=0→refOk r=true∨(ls=[]∧r=r0))∧Res wh Inv Good room ls.length (fun seg=>RunL ls r0 seg r) p q p' q'
 | [],r0,p,q,hl,h0,hi,hw,hb=>⟨r0,p,q,rfl,fun _=>.inr ⟨rfl,rfl⟩,hi,fun _ h=>h,.inl ⟨hw,[],by simp,rfl,⟨rfl,rfl⟩,rfl,by simp,by simp⟩⟩
 | l::ls,r0,p,q,hl,h0,hi,hw,hb=>by
  obtain ⟨l4,lr⟩:=hl l (by simp)
  simp only [List.length_cons] at hb
  have hok:pageOk (leafP l r0)=true:=by
   unfold pageOk leafP
   rw [show decide ((1:Int)=1)=true from rfl,cond_true,lr]
   have:(refNo ⟨r0.page,r0.tag⟩||refOk ⟨r0.page,r0.tag⟩)=true:=by
    rcases h0 with rfl | h0
    rfl
    rw [show refOk ⟨r0.page,r0.tag⟩=true from h0];simp
   rw [this]
   simp
   omega
  obtain ⟨r1,p1,q1,e1,k1,i1,g1,s1⟩:=page_res W hn hok hi hw (by omega)
  unfold rowsPl
  rw [show plPage n wh ⟨1,0,0,0,l,[],r0.page,r0.tag⟩ p q=some (r1,(p1,q1)) from e1,some_bind]
  rcases s1 with ⟨w1,seg1,o1,le1,rfl,pa1,go1,ro1⟩ | ⟨w1,ro1⟩
  rw [w1,show (!decide ((0:Int)=0))=false from rfl,cond_false]
  obtain ⟨r,p',q',e2,k2,i2,g2,s2⟩:=rows_res W hn ls r1 p1 q1 (fun q hq=>hl q (by simp [hq])) (.inr (k1 w1)) i1 w1 (by rw [o1];simp;omega)
  refine ⟨r,p',q',e2,fun h=>?_,i2,fun x hx=>g2 x (g1 x hx),?_⟩
  rcases k2 h with h | ⟨_,h⟩
  exact .inl h
  rw [h]
  exact .inl (k1 w1)
  rcases s2 with ⟨w2,seg2,o2,le2,ru2,pa2,go2,ro2⟩ | ⟨w2,ro2⟩
  refine .inl ⟨w2,_::seg2,by rw [o2,o1];simp,by simp [le2],⟨r1,seg2,hok,rfl,ru2⟩,pa1.join pa2,fun x hx=>?_,?_⟩
  rcases List.mem_cons.1 hx with rfl | hx
  exact g2 _ (go1 _ (by simp))
  exact go2 x hx
  simp only [List.length_cons]
  omega
  exact .inr ⟨w2,by simp only [List.length_cons];omega⟩
  rw [w1,show (!decide ((110:Int)=0))=true from rfl,cond_true]
  exact ⟨r1,p1,q1,rfl,fun h=>absurd (w1.symm.trans h) (by decide),i1,g1,.inr ⟨w1,by simp only [List.length_cons];omega⟩⟩
theorem Tr.rows:∀ {f:Nat} {l:List RowA} {t:NodeP},Tr f l t→t.rows.length≤l.length∧t.kids.length≤4
 | 0,_,_,h=>h.elim
 | f+1,l,t,h=>by
  rcases h with ⟨rfl,rfl⟩ | ⟨_,c,L,A,⟨_,rfl⟩ | ⟨_,_,ks,rfl,hk⟩⟩
  simp [NodeP.rows,NodeP.kids]
  simp [NodeP.rows,NodeP.kids]
  have:=hk.length
  have:=qlist_le4 L l
  simp only [NodeP.rows,NodeP.kids,List.length_nil]
  omega
theorem kids_wrong {rec_:NodeP→PlA→σ→Option (RefA×(PlA×σ))} {p:PlA} {q:σ}:∀(ks:List NodeP) (acc:List RefA),(∀k∈ks,∃r,rec_ k p q=some (r,(p,q)))→acc.length+ks.length≤1000→∃rs,kidsPl rec_ ks p q acc=some (acc++rs,(p,q))
 | [],acc,_,_=>⟨[],by simp [kidsPl]⟩
 | k::ks,acc,h,hb=>by
  simp only [List.length_cons] at hb
  obtain ⟨r,hr⟩:=h k (by simp)
  obtain ⟨rs,h'⟩:=kids_wrong ks (acc++[r]) (fun j hj=>h j (by simp [hj])) (by simp;omega)
  refine ⟨r::rs,?_⟩
  unfold kidsPl
  rw [hr,some_bind,appL_eq (by simp;omega) (by simp;omega),some_bind,h']
  simp
theorem All2.right {α β:Type} {R:α→β→Prop} {xs:List α} {ys:List β} (h:All2 R xs ys):∀y∈ys,∃x∈xs,R x y:=by
 induction h with
 | nil=>simp
 | cons h1 _ ih=>
  intro y hy
  rcases List.mem_cons.1 hy with rfl | hy
  exact ⟨_,by simp,h1⟩
  obtain ⟨x,hx,hR⟩:=ih y hy
  exact ⟨x,by simp [hx],hR⟩
theorem node_wrong {p:PlA} {q:σ} (hw:p.wrong≠0):∀(f:Nat) {l:List RowA} {t:NodeP},Tr f l t→l.length≤1000→∃r,plNode n wh f t p q=some (r,(p,q))
 | 0,_,_,h,_=>h.elim
 | f+1,l,t,h,hl=>by
  have hb:=Tr.rows h
  unfold plNode
  rw [if_neg (by omega)]
  by_cases h0:0<(t.kids.length:Int)
  rw [decide_eq_true h0,cond_true]
  have hk:∀k∈t.kids,∃r,plNode n wh f k p q=some (r,(p,q)):=by
   rcases h with ⟨rfl,rfl⟩ | ⟨_,c,L,A,⟨_,rfl⟩ | ⟨_,_,ks,rfl,hk⟩⟩
   simp [NodeP.kids]
   simp [NodeP.kids]
   intro k hkm
   obtain ⟨l',hl',hT⟩:=hk.right k hkm
   exact node_wrong hw f hT (by have:=(qlist_sub hl').length_le;omega)
  obtain ⟨acc',h'⟩:=kids_wrong (rec_:=plNode n wh f) t.kids [] hk (by simp;omega)
  rw [h',some_bind,page_wrong hw]
  exact ⟨_,rfl⟩
  rw [decide_eq_false h0,cond_false]
  rcases hls:(fours t.rows).reverse with _ | ⟨x,ls⟩
  exact ⟨_,rfl⟩
  unfold rowsPl
  rw [page_wrong hw,some_bind,decide_eq_false hw]
  exact ⟨_,rfl⟩
theorem kids_res {rec_:NodeP→PlA→σ→Option (RefA×(PlA×σ))} {R:NodeP→List SavedA→RefA→Prop} {g:NodeP→Nat}:∀(ks:List NodeP) (acc:List RefA) (p:PlA) (q:σ),
  (∀k∈ks,∀p q,Inv q→p.wrong=0→p.out.length+g k≤100000→∃r p' q',rec_ k p q=some (r,(p',q'))∧(p'.wrong=0→refOk r=true)∧Res wh Inv Good room (g k) (fun seg=>R k seg r) p q p' q')→
  (∀k∈ks,∀p q,p.wrong≠0→∃r,rec_ k p q=some (r,(p,q)))→Inv q→p.wrong=0→p.out.length+(ks.map g).sum≤100000→acc.length+ks.length≤1000→
  ∃rs p' q',kidsPl rec_ ks p q acc=some (acc++rs,(p',q'))∧(p'.wrong=0→∀r∈rs,refOk r=true)∧Res wh Inv Good room (ks.map g).sum (fun seg=>RunK R ks seg rs) p q p' q'
 | [],acc,p,q,_,_,hi,hw,_,_=>⟨[],p,q,by simp [kidsPl],by simp,hi,fun _ h=>h,.inl ⟨hw,[],by simp,rfl,⟨rfl,rfl⟩,rfl,by simp,by simp⟩⟩
 | k::ks,acc,p,q,hk,hkw,hi,hw,hb,ha=>by
  simp only [List.map_cons,List.sum_cons,List.length_cons] at hb ha
  obtain ⟨r1,p1,q1,e1,k1,i1,g1,s1⟩:=hk k (by simp) p q hi hw (by omega)
  unfold kidsPl
  rw [e1,some_bind,appL_eq (by simp;omega) (by simp;omega),some_bind]
  rcases s1 with ⟨w1,seg1,o1,le1,ru1,pa1,go1,ro1⟩ | ⟨w1,ro1⟩
  obtain ⟨rs,p',q',e2,k2,i2,g2,s2⟩:=kids_res ks (acc++[r1]) p1 q1 (fun j hj=>hk j (by simp [hj])) (fun j hj=>hkw j (by simp [hj])) i1 w1 (by rw [o1];simp;omega) (by simp;omega)
  refine ⟨r1::rs,p',q',by simpa using e2,fun h r hr=>?_,i2,fun x hx=>g2 x (g1 x hx),?_⟩
  rcases List.mem_cons.1 hr with rfl | hr
  exact k1 w1
  exact k2 h r hr
  rcases s2 with ⟨w2,seg2,o2,le2,ru2,pa2,go2,ro2⟩ | ⟨w2,ro2⟩
  refine .inl ⟨w2,seg1++seg2,by rw [o2,o1];simp,by simp [le1,le2],⟨seg1,r1,seg2,rs,ru1,ru2,rfl,rfl⟩,pa1.join pa2,fun x hx=>?_,?_⟩
  rcases List.mem_append.1 hx with hx | hx
  exact g2 _ (go1 _ hx)
  exact go2 x hx
  simp only [List.map_cons,List.sum_cons]
  omega
  exact .inr ⟨w2,by simp only [List.map_cons,List.sum_cons];omega⟩
  obtain ⟨acc',h'⟩:=kids_wrong (rec_:=rec_) (p:=p1) (q:=q1) ks (acc++[r1]) (fun j hj=>hkw j (by simp [hj]) p1 q1 (by rw [w1];decide)) (by simp;omega)
  exact ⟨r1::acc',p1,q1,by simpa using h',fun h=>absurd (w1.symm.trans h) (by decide),i1,g1,.inr ⟨w1,by simp only [List.map_cons,List.sum_cons];omega⟩⟩
theorem node_res (W:WhOk wh Inv Good room) (hn:10≤n):∀(f:Nat) (l:List RowA) (t:NodeP) (p:PlA) (q:σ),Tr f l t→rightR l=true→Inv q→p.wrong=0→p.out.length+pgN f t≤100000→
  ∃r p' q',plNode n wh f t p q=some (r,(p',q'))∧(p'.wrong=0→refOk r=true)∧Res wh Inv Good room (pgN f t) (fun seg=>RunT f t seg r) p q p' q'
 | 0,_,_,_,_,h,_,_,_,_=>h.elim
 | f+1,l,t,p,q,h,hr,hi,hw,hb=>by
  have hl:l.length≤1000:=by
   unfold rightR at hr
   simp only [Bool.and_eq_true,decide_eq_true_eq] at hr
   omega
  have hbd:=Tr.rows h
  have leaf:t.kids=[]→rightR t.rows=true→∃r p' q',plNode n wh (f+1) t p q=some (r,(p',q'))∧(p'.wrong=0→refOk r=true)∧Res wh Inv Good room (pgN (f+1) t) (fun seg=>RunT (f+1) t seg r) p q p' q':=by
   intro hk hrr
   have hpg:pgN (f+1) t=(fours t.rows).reverse.length:=by rw [pgN,if_pos (by rw [hk];rfl),List.length_reverse,fours_len]
   obtain ⟨r,p',q',e,k,i,g,s⟩:=rows_res W hn (fours t.rows).reverse ⟨0,[]⟩ p q (fun x hx=>by
    have:=fours_mem (List.mem_reverse.1 hx)
    exact ⟨this.1,rightR_sub hrr this.2⟩) (.inl rfl) hi hw (by omega)
   refine ⟨r,p',q',?_,fun h0=>?_,i,g,?_⟩
   unfold plNode
   rw [if_neg (by omega),decide_eq_false (by rw [hk];simp),cond_false]
   exact e
   rcases k h0 with h1 | ⟨h1,_⟩
   exact h1
   have:=congrArg List.length h1
   rw [List.length_reverse,fours_len,List.length_nil] at this
   omega
   rw [hpg]
   rcases s with ⟨w,seg,o,le,ru,pa,go,ro⟩ | s
   exact .inl ⟨w,seg,o,le,⟨⟨by omega,by omega⟩,.inl ⟨hk,ru⟩⟩,pa,go,ro⟩
   exact .inr s
  rcases h with ⟨rfl,rfl⟩ | ⟨_,c,L,A,⟨_,rfl⟩ | ⟨h4,hL,ks,rfl,hk⟩⟩
  exact leaf rfl hr
  exact leaf rfl hr
  have hkl:=hk.length
  have hq4:=qlist_le4 L l
  have hq2:=(qlist_two A hL).1
  have hpg:pgN (f+1) (.mk c.x c.y c.lev [] ks)=(ks.map (pgN f)).sum+1:=by
   rw [pgN,if_neg (by simp only [NodeP.kids];omega)]
   rfl
  rw [hpg] at hb ⊢
  obtain ⟨rs,p1,q1,e1,k1,i1,g1,s1⟩:=kids_res (wh:=wh) (Inv:=Inv) (Good:=Good) (room:=room) (rec_:=plNode n wh f) (R:=RunT f) (g:=pgN f) ks [] p q (fun k hkm p q hi hw hb=>by
   obtain ⟨l',hl',hT⟩:=hk.right k hkm
   exact node_res W hn f l' k p q hT (rightR_sub hr (qlist_sub hl')) hi hw hb) (fun k hkm p q hw=>by
   obtain ⟨l',hl',hT⟩:=hk.right k hkm
   exact node_wrong hw f hT (by have:=(qlist_sub hl').length_le;omega)) hi hw (by omega) (by simp;omega)
  have hrun:plNode n wh (f+1) (.mk c.x c.y c.lev [] ks) p q=plPage n wh (innerP (.mk c.x c.y c.lev [] ks) rs) p1 q1:=by
   unfold plNode
   rw [if_neg (by omega),decide_eq_true (by simp only [NodeP.kids];omega),cond_true,show (NodeP.mk c.x c.y c.lev [] ks).kids=ks from rfl,e1,some_bind]
   rfl
  rw [hrun]
  rcases s1 with ⟨w1,seg1,o1,le1,ru1,pa1,go1,ro1⟩ | ⟨w1,ro1⟩
  have hrl:=(RunK.len (fun k s r hr=>RunT.len f hr) ru1).2
  have hok:pageOk (innerP (.mk c.x c.y c.lev [] ks) rs)=true:=by
   unfold pageOk innerP
   rw [show decide ((2:Int)=1)=false from rfl,cond_false,show decide ((2:Int)=2)=true from rfl,cond_true]
   have h5:rs.all refOk=true:=List.all_eq_true.2 (k1 w1)
   have h6:cellOk ⟨c.x,c.y,c.lev⟩=true:=A.ok
   have h7:=A.lev
   show (((rs.all refOk&&decide ((([]:List RowA).length:Int)=0))&&refNo ⟨0,[]⟩&&decide (2≤(rs.length:Int)))&&decide ((rs.length:Int)≤4)&&cellOk ⟨c.x,c.y,c.lev⟩&&decide (0<c.lev))=true
   rw [h5,h6,decide_eq_true (show 2≤(rs.length:Int) by omega),decide_eq_true (show (rs.length:Int)≤4 by omega),decide_eq_true (show 0<c.lev by omega)]
   rfl
  obtain ⟨r,p',q',e2,k2,i2,g2,s2⟩:=page_res W hn hok i1 w1 (by rw [o1];simp;omega)
  refine ⟨r,p',q',e2,k2,i2,fun x hx=>g2 x (g1 x hx),?_⟩
  rcases s2 with ⟨w2,seg2,o2,le2,rfl,pa2,go2,ro2⟩ | ⟨w2,ro2⟩
  refine .inl ⟨w2,seg1++[_],by rw [o2,o1];simp,by simp [le1],⟨⟨by simp [NodeP.rows],by simp only [NodeP.kids];omega⟩,.inr ⟨by
   intro e
   have:ks=[]:=e
   rw [this,List.length_nil] at hkl
   omega,seg1,rs,ru1,hok,rfl⟩⟩,pa1.join pa2,fun x hx=>?_,by omega⟩
  rcases List.mem_append.1 hx with hx | hx
  exact g2 _ (go1 _ hx)
  exact go2 x hx
  exact .inr ⟨w2,by omega⟩
  rw [page_wrong (by rw [w1];decide)]
  exact ⟨_,p1,q1,rfl,fun h=>absurd (w1.symm.trans h) (by decide),i1,g1,.inr ⟨w1,by omega⟩⟩
end Go.Proofs.YtkibffdipniemaaGreatDoor

/- A lent slice of saved pages, gone through from the last: slices.Backward. Condition: at most 2^20 of them. -/
namespace Go.Proofs.YtkibffdipniemaaGreatDoor
open Go
variable {K:Nat→Prop} {w0:World} {H:List Chunk}

def encBS (a:Int×SavedA):List Value:=[vI a.1,.agg (encSaved a.2).toArray]
set_option maxHeartbeats 4000000 in
set_option maxRecDepth 100000 in
theorem q_backS {bx:Nat} {va:Value} {xs:List SavedA} {G0:List Chunk} (hn:xs.length≤1048576) (hs:SlOf K w0 encSaved 3 va xs):
  SeqAt Tryz.prog K w0 90 [vP bx 0] [own bx (.cells #[va] 36)] G0 encBS (backL xs):=by
 intro lp J X T rc hy h0
 refine Con.enter Tryz.func90 rfl rfl ?_
 show SX _ _ _ _ _ _ _ _ _ (own bx (.cells #[va] 36)::((rc::G0)++T))
 refine SX.sr (SL.ld (.r rfl) sc36 rfl (cell_own 0 rfl rfl) (SL.lenV hs (.r rfl) ty36 rfl (SL.bin (.r rfl) rfl rfl (Bin.subI (by omega) (by omega)) (SL.asg (.r rfl) rfl (SL.nx (SX.block ?_))))))
 refine SX.mono (SX.loop (α:=Nat×List Chunk) (fun x=>x.1≤xs.length∧J ((backL xs).take x.1) x.2) (fun x=>[(0,vY lp),(1,vP bx 0),(3,vI ((xs.length:Int)-1-(x.1:Int)))])
  (fun x=>own bx (.cells #[va] 36)::(x.2++T)) (fun x=>xs.length-x.1) (fun x D hp=>?_) (0,rc::G0) ⟨Nat.zero_le _,h0⟩) (by simpa using (by repeat' (first | exact trivial | refine And.intro rfl ?_)))
 obtain ⟨k,G⟩:=x
 obtain ⟨hk,hJ⟩:=hp
 dsimp only at hk hJ ⊢
 refine SX.seq (SX.sr (SL.mv (.r rfl) rfl (SL.bin (.r rfl) rfl rfl Bin.geI (SL.nx ?_))))
 refine SX.cond rfl (fun hc1=>?_) (fun hc1=>?_)
 have hlt:k<xs.length:=by
  have:=of_decide_eq_true hc1
  omega
 clear hc1
 have hb:k<(backL xs).length:=by rw [backL_length];exact hlt
 have hget:=backL_get xs k hlt
 have hx:nthI xs ((xs.length:Int)-1-(k:Int))=some (xs[xs.length-1-k]'(by omega)):=by
  rw [nthI,if_pos (by omega),show ((xs.length:Int)-1-(k:Int)).toNat=xs.length-1-k by omega]
  exact List.getElem?_eq_getElem _
 refine SX.skip (SQ.thn (SX.seq (SX.block (SX.sr (SL.mv (.r rfl) rfl (SL.mv (.r rfl) rfl (SL.ld (.r rfl) sc36 rfl (cell_own 0 rfl rfl) (SL.mv (.r rfl) rfl ?_))))))))
 refine SL.iaN hx hs (.r rfl) ty36 sz72 rfl rfl fun be1 of1 hc1=>?_
 refine SL.ldA (encSaved _) (.r rfl) ag72 rfl rfl (cells_kept hc1) ?_
 refine SL.yld (M2:=[_]) (G:=G) (T:=T) (vs:=[_,_]) (ok:=fun G1=>J ((backL xs).take (k+1)) G1) (no:=X) (.r rfl) rfl ⟨rfl,rfl,trivial⟩ rfl ?_ (fun bb G1 hG1=>⟨trivial,?_⟩)
 intro M
 have:=hy ((backL xs).take k) ((backL xs)[k]) ((backL xs).drop (k+1)) (split_at _ k hb) G hJ M
 rw [take_snoc _ k hb,hget] at this
 rw [show ((xs.length:Int)-1-(k:Int))=((xs.length-1-k:Nat):Int) by omega]
 exact this
 refine SL.not (.r rfl) rfl (SL.nx ?_)
 refine SX.cond rfl (fun hc3=>?_) (fun hc3=>?_)
 obtain rfl:bb=false:=by simpa using hc3
 refine SX.ret (SQ.blkR (SQ.thnR (SQ.lpR (SQ.blkR ?_))))
 exact SQ.fret (res0 rfl) (ret_of (M:=G1) (.inr hG1) fun _ h=>h.skip [_])
 obtain rfl:bb=true:=by simpa using hc3
 refine SX.skip (SQ.blk (SQ.thn (SX.region (SL.mv (.r rfl) rfl (SL.bin (.r rfl) rfl rfl (Bin.subI (by omega) (by omega)) ?_)))))
 refine SL.asgX (u:=vI ((xs.length:Int)-1-((k+1:Nat):Int))) (.r rfl) rfl (congrArg vI (by omega)) ?_
 refine SL.nil ?_
 exact SQ.again (k+1,G1) ⟨hlt,hG1⟩ (by dsimp only;omega) (by repeat' (first | exact trivial | refine And.intro rfl ?_)) (fun _ hw=>HpOk.pick (H:=[_]) hw [0] 1 rfl)
 have hge:k=xs.length:=by
  have:=of_decide_eq_false hc1
  omega
 subst hge
 rw [List.take_of_length_le (by rw [backL_length];exact Nat.le_refl _)] at hJ
 refine SX.exit (SQ.thnE (SQ.lpE (SQ.blkE ?_)))
 exact SQ.fend (res0 rfl) (ret_of (M:=G) (.inl hJ) fun _ h=>h.skip [_])
theorem w_backS {va:Value} (hva:va.cells=#[va]):Con Tryz.prog K w0 57 [va] [] H (fun u M=>∃bx:Nat,u=.func (.func 90) #[] #[vP bx 0]∧M=[own bx (.cells #[va] 36)]):=by
 refine Con.enter Tryz.func57 rfl rfl ?_
 refine SX.sr ?_
 refine SL.box (.r rfl) rfl (fun _=>trivial) fun b1=>?_
 rw [hva]
 refine SL.asg (.r rfl) rfl (SL.nx (SX.sr ?_))
 refine SL.mkf (fv:=#[]) (cv:=#[_]) (.r rfl) rfl rfl ?_
 refine SL.asg (.r rfl) rfl (SL.nx (SX.ret ?_))
 exact SQ.fret (res1 rfl rfl) (ret_of (M:=[_]) ⟨_,rfl,rfl⟩ fun _ hw=>HpOk.pick (H:=[_]) hw [0] 1 rfl)
end Go.Proofs.YtkibffdipniemaaGreatDoor

/- Plain functions of the references and the laws, printed from the loaded program, and the walks that show that the program computes them. Condition: the plain function yields. -/
namespace Go.Proofs.YtkibffdipniemaaGreatDoor
open Go
variable {K:Nat→Prop} {w0:World} {H:List Chunk}

def f_ins_j1 (a1:Int) (nx_f_ins_l1:List RowA×Int→Option (List RowA)) (l2:List RowA):Option (List RowA):=
 ret (wI (a1+1)) fun i_2=>
 nx_f_ins_l1 (l2,i_2)
def f_ins_l2_b (p1:Int) (a1:Int) (nx_f_ins_l1:List RowA×Int→Option (List RowA)) (nx_f_ins_l2:List RowA×Int→Option (List RowA)) (l3:List RowA) (a2:Int):Option (List RowA):=
 (andO (decide (p1<a2)) ((nthI l3 a2).bind fun x1=>(nthI l3 (wI (a2-1))).bind fun x2=>(f_grove_Load_1 x1 x2).bind fun y1=>some (decide (y1<0)))).bind fun y2=>
 cond y2
 (
  (nthI l3 (wI (a2-1))).bind fun x3=>
  (nthI l3 a2).bind fun x4=>
  (nthI l3 a2).bind fun x5=>
  (setI l3 a2 x3).bind fun l4=>
  (nthI l4 (wI (a2-1))).bind fun x6=>
  (setI l4 (wI (a2-1)) x4).bind fun l5=>
  ret (wI (a2-1)) fun j_1=>
  nx_f_ins_l2 (l5,j_1))
 (
  f_ins_j1 a1 nx_f_ins_l1 l3)
def f_ins_l2 (p1:Int) (a1:Int) (nx_f_ins_l1:List RowA×Int→Option (List RowA)):Nat→(List RowA×Int)→Option (List RowA):=loopN fun nx x=>f_ins_l2_b p1 a1 nx_f_ins_l1 nx x.1 x.2
def f_ins_l1_b (n:Nat) (p1:Int) (p2:Int) (nx_f_ins_l1:List RowA×Int→Option (List RowA)) (l1:List RowA) (a1:Int):Option (List RowA):=
 cond (decide (a1<p2))
 (
  f_ins_l2 p1 a1 nx_f_ins_l1 n (l1,a1))
 (
  some l1)
def f_ins_l1 (n:Nat) (p1:Int) (p2:Int):Nat→(List RowA×Int)→Option (List RowA):=loopN fun nx x=>f_ins_l1_b n p1 p2 nx x.1 x.2
def f_ins (n:Nat) (p0:List RowA) (p1:Int) (p2:Int):Option (List RowA):=
 ret (wI (p1+1)) fun i_1=>
 f_ins_l1 n p1 p2 n (p0,i_1)
set_option maxHeartbeats 4000000 in
set_option maxRecDepth 100000 in
theorem c_ins {n:Nat} {v0_:Value} {p0:List RowA} {p1:Int} {p2:Int} {r:List RowA} (h:f_ins n p0 p1 p2=some r)  : Con Tryz.prog K w0 123 [v0_,vI p1,vI p2,.func (.func 50) #[] #[]] [rowT 79 4 v0_ encRow p0] H (fun u M=>u=.tuple #[]∧M=[rowT 79 4 v0_ encRow r]):=by
 unfold f_ins at h
 refine Con.enter Tryz.func123 rfl rfl ?_
 refine SX.sr ?_
 obtain ⟨i_1,ei_1,h⟩:=retE h
 refine SL.mv (.r rfl) rfl (SL.bin (.r rfl) rfl rfl Bin.addW ?_)
 refine SL.asgX (u:=vI i_1) (.r rfl) rfl (congrArg vI ei_1) ?_
 refine SL.nx (SX.block ?_)
 refine SX.heap (SX.mono (SX.loop (α:=Nat×List RowA×Int) (fun x=>f_ins_l1 n p1 p2 x.1 (x.2.1,x.2.2)=some r) (fun x=>[(0,v0_),(1,vI p1),(2,vI p2),(3,.func (.func 50) #[] #[]),(8,vI x.2.2)]) (fun x=>rowT 79 4 v0_ encRow x.2.1::H) (fun x=>x.1) (fun x D h=>?_) (n,p0,i_1) h) (by repeat' (first | exact trivial | refine And.intro rfl ?_))) (fun _ hw=>HpOk.pick (H:=[_]) hw [0] 1 rfl)
 obtain ⟨m1,l1,a1⟩:=x
 dsimp only at h
 rcases m1 with _ | m1
 cases (show (none:Option _)=some r from h)
 replace h:f_ins_l1_b n p1 p2 (f_ins_l1 n p1 p2 m1) l1 a1=some r:=h
 unfold f_ins_l1_b at h
 refine SX.re [(0,v0_),(1,vI p1),(2,vI p2),(3,.func (.func 50) #[] #[]),(8,vI a1)] (rowT 79 4 v0_ encRow l1::H) ?_ (by repeat' (first | exact trivial | refine And.intro rfl ?_))
 refine SX.seq (SX.sr (SL.mv (.r rfl) rfl (SL.mv (.r rfl) rfl (SL.bin (.r rfl) rfl rfl Bin.ltI (SL.nx ?_)))))
 refine SX.cond rfl (fun hc1=>?_) (fun hc1=>?_)
 replace h:=cT hc1 h
 refine SX.skip (SQ.thn ?_)
 refine SX.meetD (α:=List RowA) (fun x=>f_ins_j1 a1 (f_ins_l1 n p1 p2 m1) x=some r) (fun x=>[(0,v0_),(1,vI p1),(2,vI p2),(3,.func (.func 50) #[] #[]),(8,vI a1)]) (fun x=>rowT 79 4 v0_ encRow x::H) ?_ (fun l2 D h=>?_)
 refine SX.block (SX.sr (SL.mv (.r rfl) rfl (SL.asg (.r rfl) rfl (SL.nx (SX.block ?_)))))
 refine SX.heap (SX.mono (SX.loop (α:=Nat×List RowA×Int) (fun x=>f_ins_l2 p1 a1 (f_ins_l1 n p1 p2 m1) x.1 (x.2.1,x.2.2)=some r) (fun x=>[(0,v0_),(1,vI p1),(2,vI p2),(3,.func (.func 50) #[] #[]),(8,vI a1),(9,vI x.2.2)]) (fun x=>rowT 79 4 v0_ encRow x.2.1::H) (fun x=>x.1) (fun x D h=>?_) (n,l1,a1) h) (by repeat' (first | exact trivial | refine And.intro rfl ?_))) (fun _ hw=>HpOk.pick (H:=[_]) hw [0] 1 rfl)
 obtain ⟨m2,l3,a2⟩:=x
 dsimp only at h
 rcases m2 with _ | m2
 cases (show (none:Option _)=some r from h)
 replace h:f_ins_l2_b p1 a1 (f_ins_l1 n p1 p2 m1) (f_ins_l2 p1 a1 (f_ins_l1 n p1 p2 m1) m2) l3 a2=some r:=h
 unfold f_ins_l2_b at h
 refine SX.re [(0,v0_),(1,vI p1),(2,vI p2),(3,.func (.func 50) #[] #[]),(8,vI a1),(9,vI a2)] (rowT 79 4 v0_ encRow l3::H) ?_ (by repeat' (first | exact trivial | refine And.intro rfl ?_))
 refine SX.seq (SX.seq ?_)
 obtain ⟨y2,hy2,h⟩:=bnd h
 refine SX.drawI mix [0] (Pl.of [(true,0),(true,1),(true,2),(true,3),(true,4),(true,5),(true,6),(true,7),(true,8),(true,9),(true,10),(true,11),(true,12),(true,13),(false,14),(false,15),(false,16)]) (by kernel_rfl) (SL.mv (.r rfl) rfl (SL.mv (.r rfl) rfl (SL.bin (.r rfl) rfl rfl Bin.gtI (SL.mv (.r rfl) rfl ?_))))
 refine SL.andN 21 13 34 hy2 rfl (fun hb hg1 k=>?_) (fun hb k=>?_) ?_
 obtain ⟨x1,hx1,hg1⟩:=bnd hg1
 obtain ⟨x2,hx2,hg1⟩:=bnd hg1
 obtain ⟨y1,hy1,hg1⟩:=bnd hg1
 obtain rfl:=Option.some.inj hg1
 refine SL.mv (.r rfl) rfl (SL.mv (.r rfl) rfl (SL.mv (.r rfl) rfl ?_))
 refine SL.iaT 0 hx1 (.r rfl) ty35 sz79 rfl rfl rfl fun g1 m3 cp1 hv1=>?_
 refine SL.ldA (encRow x1) (.r rfl) ag79 rfl rfl (cells_rowT (sz:=4) (enc:=encRow) 0 (fun _=>rfl) rfl hv1 hx1) ?_
 refine SL.mv (.r rfl) rfl (SL.mv (.r rfl) rfl (SL.bin (.r rfl) rfl rfl Bin.subW ?_))
 refine SL.iaT 0 hx2 (.r rfl) ty35 sz79 rfl rfl rfl fun g2 m4 cp2 hv2=>?_
 refine SL.ldA (encRow x2) (.r rfl) ag79 rfl rfl (cells_rowT (sz:=4) (enc:=encRow) 0 (fun _=>rfl) rfl hv2 hx2) ?_
 refine SL.call (vs:=[_,_]) (Hin:=[]) (Hr:=_::_) (.r rfl) rfl ⟨rfl,rfl,trivial⟩ cal50 rfl rfl ((c_grove_Load_1 hy1 :)) ?_
 rintro _ _ ⟨rfl,rfl⟩
 refine ⟨⟨⟨0,rfl⟩,trivial⟩,?_⟩
 refine SL.bin (.r rfl) rfl rfl Bin.ltI (SL.pk (.r rfl) rfl rfl ?_)
 exact k.mono (by repeat' (first | exact trivial | refine And.intro rfl ?_))
 refine SL.pass rfl rfl rfl (SL.pass rfl rfl rfl (SL.pass rfl rfl rfl (SL.pass rfl rfl rfl (SL.pass rfl rfl rfl (SL.pass rfl rfl rfl (SL.pass rfl rfl rfl (SL.pass rfl rfl rfl ?_)))))))
 refine SL.pass rfl rfl rfl (SL.pass rfl rfl rfl (SL.pass rfl rfl rfl (SL.pass rfl rfl rfl (SL.pk (.r rfl) rfl rfl ?_))))
 exact k.mono (by repeat' (first | exact trivial | refine And.intro rfl ?_))
 refine SL.nx ?_
 refine SX.cond rfl (fun hc2=>?_) (fun hc2=>?_)
 replace h:=cT hc2 h
 refine SX.skip (SQ.thn (SX.seq (SX.block ?_)))
 obtain ⟨x3,hx3,h⟩:=bnd h
 obtain ⟨x4,hx4,h⟩:=bnd h
 obtain ⟨x5,hx5,h⟩:=bnd h
 obtain ⟨l4,hl4,h⟩:=bnd h
 obtain ⟨x6,hx6,h⟩:=bnd h
 obtain ⟨l5,hl5,h⟩:=bnd h
 refine SX.drawI mix [] (Pl.ap [(true,0),(true,1),(true,2),(true,3),(true,4),(true,5),(true,6),(true,7),(true,8),(true,10),(true,11),(true,12)] (.alt 9 (Pl.ap [(false,13),(true,14),(false,15),(true,16)] (.last 17 .nil)) (.cons (false,13) (Pl.ap [(false,9),(true,14),(false,15),(true,16)] (.last 17 .nil))))) (by kernel_rfl) (SL.mv (.r rfl) rfl (SL.mv (.r rfl) rfl (SL.mv (.r rfl) rfl (SL.mv (.r rfl) rfl (SL.bin (.r rfl) rfl rfl Bin.subW (SL.mv (.r rfl) rfl (SL.mv (.r rfl) rfl ?_)))))))
 refine SL.bin (.r rfl) rfl rfl Bin.subW ?_
 refine SL.iaT 0 hx3 (.r rfl) ty35 sz79 rfl rfl rfl fun g3 m5 cp3 hv3=>?_
 refine SL.mv (.r rfl) rfl (SL.mv (.r rfl) rfl ?_)
 refine SL.iaT 0 hx4 (.r rfl) ty35 sz79 rfl rfl rfl fun g4 m6 cp4 hv4=>?_
 refine SL.two ?_ ?_
 refine SL.ldA (encRow x3) (.r rfl) ag79 rfl rfl (cells_rowT (sz:=4) (enc:=encRow) 0 (fun _=>rfl) rfl hv3 hx3) ?_
 refine SL.ldA (encRow x4) (.r rfl) ag79 rfl rfl (cells_rowT (sz:=4) (enc:=encRow) 0 (fun _=>rfl) rfl hv4 hx4) ?_
 refine SL.iaT 0 hx5 (.r rfl) ty35 sz79 rfl rfl rfl fun g5 m7 cp5 hv5=>?_
 refine SL.stTN (sz:=4) (enc:=encRow) 0 hl4 (fun _=>rfl) ⟨rfl,rfl,rfl⟩ rfl rfl rfl rfl hv5 sz79 (by first | (simp [Value.oneCell'];done) | simp [encRow,Value.oneCell']) trivial ?_
 refine SL.iaT 0 hx6 (.r rfl) ty35 sz79 rfl rfl rfl fun g6 m8 cp6 hv6=>?_
 refine SL.last ?_
 refine SL.stTN (sz:=4) (enc:=encRow) 0 hl5 (fun _=>rfl) ⟨rfl,rfl,rfl⟩ rfl rfl rfl rfl hv6 sz79 (by first | (simp [Value.oneCell'];done) | simp [encRow,Value.oneCell']) trivial ?_
 refine SL.nil (SQ.blk (SQ.thn (SX.region ?_)))
 obtain ⟨j_1,ej_1,h⟩:=retE h
 refine SL.mv (.r rfl) rfl (SL.bin (.r rfl) rfl rfl Bin.subW ?_)
 refine SL.asgX (u:=vI j_1) (.r rfl) rfl (congrArg vI ej_1) ?_
 refine SL.nil ?_
 exact SQ.again (m2,l5,j_1) h (Nat.lt_succ_self _) (by repeat' (first | exact trivial | refine And.intro rfl ?_)) (fun _ hw=>HpOk.pick (H:=[_]) hw [0] 1 rfl)
 refine SL.ldA (encRow x4) (.r rfl) ag79 rfl rfl (cells_rowT (sz:=4) (enc:=encRow) 0 (fun _=>rfl) rfl hv4 hx4) ?_
 refine SL.ldA (encRow x3) (.r rfl) ag79 rfl rfl (cells_rowT (sz:=4) (enc:=encRow) 0 (fun _=>rfl) rfl hv3 hx3) ?_
 refine SL.iaT 0 hx5 (.r rfl) ty35 sz79 rfl rfl rfl fun g5 m7 cp5 hv5=>?_
 refine SL.stTN (sz:=4) (enc:=encRow) 0 hl4 (fun _=>rfl) ⟨rfl,rfl,rfl⟩ rfl rfl rfl rfl hv5 sz79 (by first | (simp [Value.oneCell'];done) | simp [encRow,Value.oneCell']) trivial ?_
 refine SL.iaT 0 hx6 (.r rfl) ty35 sz79 rfl rfl rfl fun g6 m8 cp6 hv6=>?_
 refine SL.last ?_
 refine SL.stTN (sz:=4) (enc:=encRow) 0 hl5 (fun _=>rfl) ⟨rfl,rfl,rfl⟩ rfl rfl rfl rfl hv6 sz79 (by first | (simp [Value.oneCell'];done) | simp [encRow,Value.oneCell']) trivial ?_
 refine SL.nil (SQ.blk (SQ.thn (SX.region ?_)))
 obtain ⟨j_1,ej_1,h⟩:=retE h
 refine SL.mv (.r rfl) rfl (SL.bin (.r rfl) rfl rfl Bin.subW ?_)
 refine SL.asgX (u:=vI j_1) (.r rfl) rfl (congrArg vI ej_1) ?_
 refine SL.nil ?_
 exact SQ.again (m2,l5,j_1) h (Nat.lt_succ_self _) (by repeat' (first | exact trivial | refine And.intro rfl ?_)) (fun _ hw=>HpOk.pick (H:=[_]) hw [0] 1 rfl)
 replace h:=cF hc2 h
 refine SX.exit (SQ.thnE (SQ.lpE (SQ.blkE (SQ.blk ?_))))
 exact SQ.midD l3 h (by repeat' (first | exact trivial | refine And.intro rfl ?_)) (fun _ hw=>HpOk.pick (H:=[_]) hw [0] 1 rfl)
 unfold f_ins_j1 at h
 refine SX.re [(0,v0_),(1,vI p1),(2,vI p2),(3,.func (.func 50) #[] #[]),(8,vI a1)] (rowT 79 4 v0_ encRow l2::H) ?_ (by repeat' (first | exact trivial | refine And.intro rfl ?_))
 refine SX.region ?_
 obtain ⟨i_2,ei_2,h⟩:=retE h
 refine SL.mv (.r rfl) rfl (SL.bin (.r rfl) rfl rfl Bin.addW ?_)
 refine SL.asgX (u:=vI i_2) (.r rfl) rfl (congrArg vI ei_2) ?_
 refine SL.nil ?_
 exact SQ.again (m1,l2,i_2) h (Nat.lt_succ_self _) (by repeat' (first | exact trivial | refine And.intro rfl ?_)) (fun _ hw=>HpOk.pick (H:=[_]) hw [0] 1 rfl)
 replace h:=cF hc1 h
 refine SX.exit (SQ.thnE (SQ.lpE (SQ.blkE ?_)))
 obtain rfl:=Option.some.inj h
 exact SQ.fend (res0 rfl) (ret_of (M:=[_]) ⟨rfl,rfl⟩ fun _ hw=>HpOk.pick (H:=[_]) hw [0] 1 rfl)

def f_swp_l1_b (p1:Int) (p2:Int) (p3:Int) (nx_f_swp_l1:List RowA×Int→Option (List RowA)) (l1:List RowA) (a1:Int):Option (List RowA):=
 cond (decide (a1<p3))
 (
  (nthI l1 (wI (p2+a1))).bind fun x1=>
  (nthI l1 (wI (p1+a1))).bind fun x2=>
  (nthI l1 (wI (p1+a1))).bind fun x3=>
  (setI l1 (wI (p1+a1)) x1).bind fun l2=>
  (nthI l2 (wI (p2+a1))).bind fun x4=>
  (setI l2 (wI (p2+a1)) x2).bind fun l3=>
  ret (wI (a1+1)) fun i_1=>
  nx_f_swp_l1 (l3,i_1))
 (
  some l1)
def f_swp_l1 (p1:Int) (p2:Int) (p3:Int):Nat→(List RowA×Int)→Option (List RowA):=loopN fun nx x=>f_swp_l1_b p1 p2 p3 nx x.1 x.2
def f_swp (n:Nat) (p0:List RowA) (p1:Int) (p2:Int) (p3:Int):Option (List RowA):=
 f_swp_l1 p1 p2 p3 n (p0,0)
set_option maxRecDepth 100000 in
theorem c_swp {n:Nat} {v0_:Value} {p0:List RowA} {p1:Int} {p2:Int} {p3:Int} {r:List RowA} (h:f_swp n p0 p1 p2 p3=some r)  : Con Tryz.prog K w0 206 [v0_,vI p1,vI p2,vI p3,.func (.func 50) #[] #[]] [rowT 79 4 v0_ encRow p0] H (fun u M=>u=.tuple #[]∧M=[rowT 79 4 v0_ encRow r]):=by
 unfold f_swp at h
 refine Con.enter Tryz.func206 rfl rfl ?_
 refine SX.sr (SL.asg (.r rfl) rfl (SL.nx (SX.block ?_)))
 refine SX.heap (SX.mono (SX.loop (α:=Nat×List RowA×Int) (fun x=>f_swp_l1 p1 p2 p3 x.1 (x.2.1,x.2.2)=some r) (fun x=>[(0,v0_),(1,vI p1),(2,vI p2),(3,vI p3),(10,vI x.2.2)]) (fun x=>rowT 79 4 v0_ encRow x.2.1::H) (fun x=>x.1) (fun x D h=>?_) (n,p0,0) h) (by repeat' (first | exact trivial | refine And.intro rfl ?_))) (fun _ hw=>HpOk.pick (H:=[_]) hw [0] 1 rfl)
 obtain ⟨m1,l1,a1⟩:=x
 dsimp only at h
 rcases m1 with _ | m1
 cases (show (none:Option _)=some r from h)
 replace h:f_swp_l1_b p1 p2 p3 (f_swp_l1 p1 p2 p3 m1) l1 a1=some r:=h
 unfold f_swp_l1_b at h
 refine SX.re [(0,v0_),(1,vI p1),(2,vI p2),(3,vI p3),(10,vI a1)] (rowT 79 4 v0_ encRow l1::H) ?_ (by repeat' (first | exact trivial | refine And.intro rfl ?_))
 refine SX.seq (SX.sr (SL.mv (.r rfl) rfl (SL.mv (.r rfl) rfl (SL.bin (.r rfl) rfl rfl Bin.ltI (SL.nx ?_)))))
 refine SX.cond rfl (fun hc1=>?_) (fun hc1=>?_)
 replace h:=cT hc1 h
 refine SX.skip (SQ.thn (SX.seq (SX.block ?_)))
 obtain ⟨x1,hx1,h⟩:=bnd h
 obtain ⟨x2,hx2,h⟩:=bnd h
 obtain ⟨x3,hx3,h⟩:=bnd h
 obtain ⟨l2,hl2,h⟩:=bnd h
 obtain ⟨x4,hx4,h⟩:=bnd h
 obtain ⟨l3,hl3,h⟩:=bnd h
 refine SX.drawI mix [] (Pl.ap [(true,0),(true,1),(true,2),(true,3),(true,4),(true,5),(true,6),(true,7),(true,8),(true,9),(true,10),(true,11),(true,12),(true,14),(true,15),(true,16),(true,17),(true,18)] (.alt 13 (Pl.ap [(false,19),(true,20),(false,21),(true,22)] (.last 23 .nil)) (.cons (false,19) (Pl.ap [(false,13),(true,20),(false,21),(true,22)] (.last 23 .nil))))) (by kernel_rfl) (SL.mv (.r rfl) rfl (SL.mv (.r rfl) rfl (SL.mv (.r rfl) rfl (SL.bin (.r rfl) rfl rfl Bin.addW (SL.mv (.r rfl) rfl (SL.mv (.r rfl) rfl (SL.mv (.r rfl) rfl ?_)))))))
 refine SL.bin (.r rfl) rfl rfl Bin.addW (SL.mv (.r rfl) rfl (SL.mv (.r rfl) rfl (SL.mv (.r rfl) rfl (SL.bin (.r rfl) rfl rfl Bin.addW ?_))))
 refine SL.iaT 0 hx1 (.r rfl) ty35 sz79 rfl rfl rfl fun g1 m2 cp1 hv1=>?_
 refine SL.mv (.r rfl) rfl (SL.mv (.r rfl) rfl (SL.mv (.r rfl) rfl (SL.bin (.r rfl) rfl rfl Bin.addW ?_)))
 refine SL.iaT 0 hx2 (.r rfl) ty35 sz79 rfl rfl rfl fun g2 m3 cp2 hv2=>?_
 refine SL.two ?_ ?_
 refine SL.ldA (encRow x1) (.r rfl) ag79 rfl rfl (cells_rowT (sz:=4) (enc:=encRow) 0 (fun _=>rfl) rfl hv1 hx1) ?_
 refine SL.ldA (encRow x2) (.r rfl) ag79 rfl rfl (cells_rowT (sz:=4) (enc:=encRow) 0 (fun _=>rfl) rfl hv2 hx2) ?_
 refine SL.iaT 0 hx3 (.r rfl) ty35 sz79 rfl rfl rfl fun g3 m4 cp3 hv3=>?_
 refine SL.stTN (sz:=4) (enc:=encRow) 0 hl2 (fun _=>rfl) ⟨rfl,rfl,rfl⟩ rfl rfl rfl rfl hv3 sz79 (by first | (simp [Value.oneCell'];done) | simp [encRow,Value.oneCell']) trivial ?_
 refine SL.iaT 0 hx4 (.r rfl) ty35 sz79 rfl rfl rfl fun g4 m5 cp4 hv4=>?_
 refine SL.last ?_
 refine SL.stTN (sz:=4) (enc:=encRow) 0 hl3 (fun _=>rfl) ⟨rfl,rfl,rfl⟩ rfl rfl rfl rfl hv4 sz79 (by first | (simp [Value.oneCell'];done) | simp [encRow,Value.oneCell']) trivial ?_
 refine SL.nil (SQ.blk (SQ.thn (SX.region ?_)))
 obtain ⟨i_1,ei_1,h⟩:=retE h
 refine SL.mv (.r rfl) rfl (SL.bin (.r rfl) rfl rfl Bin.addW ?_)
 refine SL.asgX (u:=vI i_1) (.r rfl) rfl (congrArg vI ei_1) ?_
 refine SL.nil ?_
 exact SQ.again (m1,l3,i_1) h (Nat.lt_succ_self _) (by repeat' (first | exact trivial | refine And.intro rfl ?_)) (fun _ hw=>HpOk.pick (H:=[_]) hw [0] 1 rfl)
 refine SL.ldA (encRow x2) (.r rfl) ag79 rfl rfl (cells_rowT (sz:=4) (enc:=encRow) 0 (fun _=>rfl) rfl hv2 hx2) ?_
 refine SL.ldA (encRow x1) (.r rfl) ag79 rfl rfl (cells_rowT (sz:=4) (enc:=encRow) 0 (fun _=>rfl) rfl hv1 hx1) ?_
 refine SL.iaT 0 hx3 (.r rfl) ty35 sz79 rfl rfl rfl fun g3 m4 cp3 hv3=>?_
 refine SL.stTN (sz:=4) (enc:=encRow) 0 hl2 (fun _=>rfl) ⟨rfl,rfl,rfl⟩ rfl rfl rfl rfl hv3 sz79 (by first | (simp [Value.oneCell'];done) | simp [encRow,Value.oneCell']) trivial ?_
 refine SL.iaT 0 hx4 (.r rfl) ty35 sz79 rfl rfl rfl fun g4 m5 cp4 hv4=>?_
 refine SL.last ?_
 refine SL.stTN (sz:=4) (enc:=encRow) 0 hl3 (fun _=>rfl) ⟨rfl,rfl,rfl⟩ rfl rfl rfl rfl hv4 sz79 (by first | (simp [Value.oneCell'];done) | simp [encRow,Value.oneCell']) trivial ?_
 refine SL.nil (SQ.blk (SQ.thn (SX.region ?_)))
 obtain ⟨i_1,ei_1,h⟩:=retE h
 refine SL.mv (.r rfl) rfl (SL.bin (.r rfl) rfl rfl Bin.addW ?_)
 refine SL.asgX (u:=vI i_1) (.r rfl) rfl (congrArg vI ei_1) ?_
 refine SL.nil ?_
 exact SQ.again (m1,l3,i_1) h (Nat.lt_succ_self _) (by repeat' (first | exact trivial | refine And.intro rfl ?_)) (fun _ hw=>HpOk.pick (H:=[_]) hw [0] 1 rfl)
 replace h:=cF hc1 h
 refine SX.exit (SQ.thnE (SQ.lpE (SQ.blkE ?_)))
 obtain rfl:=Option.some.inj h
 exact SQ.fend (res0 rfl) (ret_of (M:=[_]) ⟨rfl,rfl⟩ fun _ hw=>HpOk.pick (H:=[_]) hw [0] 1 rfl)

def f_rot_j1 (n:Nat) (p2:Int) (l1:List RowA) (a1:Int):Option (List RowA):=
 (f_swp n l1 (wI (p2-a1)) p2 a1).bind fun y3=>
 some y3
def f_rot_l1_b (n:Nat) (p2:Int) (nx_f_rot_l1:List RowA×Int×Int→Option (List RowA)) (l2:List RowA) (a2:Int) (a3:Int):Option (List RowA):=
 cond (!decide (a2=a3))
 (
  cond (decide (a3<a2))
  (
   (f_swp n l2 (wI (p2-a2)) p2 a3).bind fun y1=>
   ret (wI (a2-a3)) fun i_2=>
   nx_f_rot_l1 (y1,i_2,a3))
  (
   (f_swp n l2 (wI (p2-a2)) (wI ((wI (p2+a3))-a2)) a2).bind fun y2=>
   ret (wI (a3-a2)) fun j_2=>
   nx_f_rot_l1 (y2,a2,j_2)))
 (
  f_rot_j1 n p2 l2 a2)
def f_rot_l1 (n:Nat) (p2:Int):Nat→(List RowA×Int×Int)→Option (List RowA):=loopN fun nx x=>f_rot_l1_b n p2 nx x.1 x.2.1 x.2.2
def f_rot (n:Nat) (p0:List RowA) (p1:Int) (p2:Int) (p3:Int):Option (List RowA):=
 ret (wI (p2-p1)) fun i_1=>
 ret (wI (p3-p2)) fun j_1=>
 f_rot_l1 n p2 n (p0,i_1,j_1)
set_option maxHeartbeats 4000000 in
set_option maxRecDepth 100000 in
theorem c_rot {n:Nat} {v0_:Value} {p0:List RowA} {p1:Int} {p2:Int} {p3:Int} {r:List RowA} (h:f_rot n p0 p1 p2 p3=some r)  : Con Tryz.prog K w0 169 [v0_,vI p1,vI p2,vI p3,.func (.func 50) #[] #[]] [rowT 79 4 v0_ encRow p0] H (fun u M=>u=.tuple #[]∧M=[rowT 79 4 v0_ encRow r]):=by
 unfold f_rot at h
 refine Con.enter Tryz.func169 rfl rfl ?_
 refine SX.sr ?_
 obtain ⟨i_1,ei_1,h⟩:=retE h
 refine SL.mv (.r rfl) rfl (SL.mv (.r rfl) rfl (SL.bin (.r rfl) rfl rfl Bin.subW ?_))
 refine SL.asgX (u:=vI i_1) (.r rfl) rfl (congrArg vI ei_1) ?_
 refine SL.nx (SX.sr ?_)
 obtain ⟨j_1,ej_1,h⟩:=retE h
 refine SL.mv (.r rfl) rfl (SL.mv (.r rfl) rfl (SL.bin (.r rfl) rfl rfl Bin.subW ?_))
 refine SL.asgX (u:=vI j_1) (.r rfl) rfl (congrArg vI ej_1) ?_
 refine SL.nx ?_
 refine SX.meetD (α:=List RowA×Int) (fun x=>f_rot_j1 n p2 x.1 x.2=some r) (fun x=>[(0,v0_),(2,vI p2),(4,.func (.func 50) #[] #[]),(10,vI x.2)]) (fun x=>rowT 79 4 v0_ encRow x.1::H) ?_ (fun x D h=>?_)
 refine SX.block ?_
 refine SX.heap (SX.mono (SX.loop (α:=Nat×List RowA×Int×Int) (fun x=>f_rot_l1 n p2 x.1 (x.2.1,x.2.2.1,x.2.2.2)=some r) (fun x=>[(0,v0_),(2,vI p2),(4,.func (.func 50) #[] #[]),(10,vI x.2.2.1),(11,vI x.2.2.2)]) (fun x=>rowT 79 4 v0_ encRow x.2.1::H) (fun x=>x.1) (fun x D h=>?_) (n,p0,i_1,j_1) h) (by repeat' (first | exact trivial | refine And.intro rfl ?_))) (fun _ hw=>HpOk.pick (H:=[_]) hw [0] 1 rfl)
 obtain ⟨m1,l2,a2,a3⟩:=x
 dsimp only at h
 rcases m1 with _ | m1
 cases (show (none:Option _)=some r from h)
 replace h:f_rot_l1_b n p2 (f_rot_l1 n p2 m1) l2 a2 a3=some r:=h
 unfold f_rot_l1_b at h
 refine SX.re [(0,v0_),(2,vI p2),(4,.func (.func 50) #[] #[]),(10,vI a2),(11,vI a3)] (rowT 79 4 v0_ encRow l2::H) ?_ (by repeat' (first | exact trivial | refine And.intro rfl ?_))
 refine SX.seq (SX.sr (SL.mv (.r rfl) rfl (SL.mv (.r rfl) rfl (SL.bin (.r rfl) rfl rfl Bin.neI (SL.nx ?_)))))
 refine SX.cond rfl (fun hc1=>?_) (fun hc1=>?_)
 replace h:=cT hc1 h
 refine SX.skip (SQ.thn (SX.block (SX.sr (SL.mv (.r rfl) rfl (SL.mv (.r rfl) rfl (SL.bin (.r rfl) rfl rfl Bin.gtI (SL.nx ?_)))))))
 refine SX.cond rfl (fun hc2=>?_) (fun hc2=>?_)
 replace h:=cT hc2 h
 refine SX.sr ?_
 obtain ⟨y1,hy1,h⟩:=bnd h
 refine SL.mv (.r rfl) rfl (SL.mv (.r rfl) rfl (SL.mv (.r rfl) rfl (SL.bin (.r rfl) rfl rfl Bin.subW (SL.mv (.r rfl) rfl (SL.mv (.r rfl) rfl (SL.mv (.r rfl) rfl ?_))))))
 refine SL.call (vs:=[_,_,_,_,_]) (Hin:=[_]) (Hr:=_) (.r rfl) rfl ⟨rfl,rfl,rfl,rfl,rfl,trivial⟩ cal206 rfl rfl (c_swp hy1) ?_
 rintro _ _ ⟨rfl,rfl⟩
 refine ⟨trivial,?_⟩
 refine SL.nx (SX.region ?_)
 obtain ⟨i_2,ei_2,h⟩:=retE h
 refine SL.mv (.r rfl) rfl (SL.mv (.r rfl) rfl (SL.bin (.r rfl) rfl rfl Bin.subW ?_))
 refine SL.asgX (u:=vI i_2) (.r rfl) rfl (congrArg vI ei_2) ?_
 refine SL.nil (SQ.blk ?_)
 exact SQ.again (m1,y1,i_2,a3) h (Nat.lt_succ_self _) (by repeat' (first | exact trivial | refine And.intro rfl ?_)) (fun _ hw=>HpOk.pick (H:=[_]) hw [0] 1 rfl)
 replace h:=cF hc2 h
 refine SX.sr ?_
 obtain ⟨y2,hy2,h⟩:=bnd h
 refine SL.mv (.r rfl) rfl (SL.mv (.r rfl) rfl (SL.mv (.r rfl) rfl (SL.bin (.r rfl) rfl rfl Bin.subW (SL.mv (.r rfl) rfl (SL.mv (.r rfl) rfl (SL.bin (.r rfl) rfl rfl Bin.addW (SL.mv (.r rfl) rfl ?_)))))))
 refine SL.bin (.r rfl) rfl rfl Bin.subW (SL.mv (.r rfl) rfl (SL.mv (.r rfl) rfl ?_))
 refine SL.call (vs:=[_,_,_,_,_]) (Hin:=[_]) (Hr:=_) (.r rfl) rfl ⟨rfl,rfl,rfl,rfl,rfl,trivial⟩ cal206 rfl rfl (c_swp hy2) ?_
 rintro _ _ ⟨rfl,rfl⟩
 refine ⟨trivial,?_⟩
 refine SL.nx (SX.region ?_)
 obtain ⟨j_2,ej_2,h⟩:=retE h
 refine SL.mv (.r rfl) rfl (SL.mv (.r rfl) rfl (SL.bin (.r rfl) rfl rfl Bin.subW ?_))
 refine SL.asgX (u:=vI j_2) (.r rfl) rfl (congrArg vI ej_2) ?_
 refine SL.nil (SQ.blk ?_)
 exact SQ.again (m1,y2,a2,j_2) h (Nat.lt_succ_self _) (by repeat' (first | exact trivial | refine And.intro rfl ?_)) (fun _ hw=>HpOk.pick (H:=[_]) hw [0] 1 rfl)
 replace h:=cF hc1 h
 refine SX.exit (SQ.thnE (SQ.lpE (SQ.blkE ?_)))
 exact SQ.midD (l2,a2) h (by repeat' (first | exact trivial | refine And.intro rfl ?_)) (fun _ hw=>HpOk.pick (H:=[_]) hw [0] 1 rfl)
 obtain ⟨l1,a1⟩:=x
 dsimp only at h
 unfold f_rot_j1 at h
 refine SX.re [(0,v0_),(2,vI p2),(4,.func (.func 50) #[] #[]),(10,vI a1)] (rowT 79 4 v0_ encRow l1::H) ?_ (by repeat' (first | exact trivial | refine And.intro rfl ?_))
 refine SX.region ?_
 obtain ⟨y3,hy3,h⟩:=bnd h
 refine SL.mv (.r rfl) rfl (SL.mv (.r rfl) rfl (SL.mv (.r rfl) rfl (SL.bin (.r rfl) rfl rfl Bin.subW (SL.mv (.r rfl) rfl (SL.mv (.r rfl) rfl (SL.mv (.r rfl) rfl ?_))))))
 refine SL.call (vs:=[_,_,_,_,_]) (Hin:=[_]) (Hr:=_) (.r rfl) rfl ⟨rfl,rfl,rfl,rfl,rfl,trivial⟩ cal206 rfl rfl (c_swp hy3) ?_
 rintro _ _ ⟨rfl,rfl⟩
 refine ⟨trivial,?_⟩
 refine SL.nil ?_
 obtain rfl:=Option.some.inj h
 exact SQ.fend (res0 rfl) (ret_of (M:=[_]) ⟨rfl,rfl⟩ fun _ hw=>HpOk.pick (H:=[_]) hw [0] 1 rfl)


end Go.Proofs.YtkibffdipniemaaGreatDoor

/- Plain functions of the references and the laws, printed from the loaded program, and the walks that show that the program computes them. Condition: the plain function yields. -/
namespace Go.Proofs.YtkibffdipniemaaGreatDoor
open Go
variable {K:Nat→Prop} {w0:World} {H:List Chunk}

def f_sym_j6 (l7:List RowA):Option (List RowA):=
 some l7
def f_sym_l4_b (a5:Int) (nx_f_sym_l4:List RowA×Int→Option (List RowA)) (l8:List RowA) (a8:Int):Option (List RowA):=
 cond (decide (a5<a8))
 (
  (nthI l8 (wI (a8-1))).bind fun x11=>
  (nthI l8 a8).bind fun x12=>
  (nthI l8 a8).bind fun x13=>
  (setI l8 a8 x11).bind fun l9=>
  (nthI l9 (wI (a8-1))).bind fun x14=>
  (setI l9 (wI (a8-1)) x12).bind fun l10=>
  ret (wI (a8-1)) fun k_2=>
  nx_f_sym_l4 (l10,k_2))
 (
  f_sym_j6 l8)
def f_sym_l4 (a5:Int):Nat→(List RowA×Int)→Option (List RowA):=loopN fun nx x=>f_sym_l4_b a5 nx x.1 x.2
def f_sym_j5 (n:Nat) (p2:Int) (l1:List RowA) (a5:Int):Option (List RowA):=
 f_sym_l4 a5 n (l1,p2)
def f_sym_l3_b (n:Nat) (p2:Int) (l1:List RowA) (nx_f_sym_l3:Int×Int→Option (List RowA)) (a6:Int) (a7:Int):Option (List RowA):=
 cond (decide (a6<a7))
 (
  ret (wI ((shr64 (toU64 (wI (a6+a7))) 1).toNat:Int)) fun x8=>
  (nthI l1 p2).bind fun x9=>
  (nthI l1 x8).bind fun x10=>
  (f_grove_Load_1 x9 x10).bind fun y2=>
  cond (!(decide (y2<0)))
  (
   ret (wI (x8+1)) fun i_2=>
   nx_f_sym_l3 (i_2,a7))
  (
   nx_f_sym_l3 (a6,x8)))
 (
  f_sym_j5 n p2 l1 a6)
def f_sym_l3 (n:Nat) (p2:Int) (l1:List RowA):Nat→(Int×Int)→Option (List RowA):=loopN fun nx x=>f_sym_l3_b n p2 l1 nx x.1 x.2
def f_sym_j10 (p3:Int) (rec_:(List RowA)→Int→Int→Int→Option (List RowA)) (mid_1:Int) (x19:Int) (l12:List RowA):Option (List RowA):=
 cond ((decide (mid_1<x19))&&(decide (x19<p3)))
 (
  (rec_ l12 mid_1 x19 p3).bind fun y6=>
  some y6)
 (
  some l12)
def f_sym_j9 (p1:Int) (p3:Int) (rec_:(List RowA)→Int→Int→Int→Option (List RowA)) (mid_1:Int) (a11:Int) (x19:Int) (l11:List RowA):Option (List RowA):=
 cond ((decide (p1<a11))&&(decide (a11<mid_1)))
 (
  (rec_ l11 p1 a11 mid_1).bind fun y5=>
  f_sym_j10 p3 rec_ mid_1 x19 y5)
 (
  f_sym_j10 p3 rec_ mid_1 x19 l11)
def f_sym_j8 (n:Nat) (p1:Int) (p2:Int) (p3:Int) (rec_:(List RowA)→Int→Int→Int→Option (List RowA)) (l6:List RowA) (mid_1:Int) (x15:Int) (a11:Int):Option (List RowA):=
 ret (wI (x15-a11)) fun x19=>
 cond ((decide (a11<p2))&&(decide (p2<x19)))
 (
  (f_rot n l6 a11 p2 x19).bind fun y4=>
  f_sym_j9 p1 p3 rec_ mid_1 a11 x19 y4)
 (
  f_sym_j9 p1 p3 rec_ mid_1 a11 x19 l6)
def f_sym_l5_b (n:Nat) (p1:Int) (p2:Int) (p3:Int) (rec_:(List RowA)→Int→Int→Int→Option (List RowA)) (l6:List RowA) (mid_1:Int) (x15:Int) (p_1:Int) (nx_f_sym_l5:Int×Int→Option (List RowA)) (a12:Int) (a13:Int):Option (List RowA):=
 cond (decide (a12<a13))
 (
  ret (wI ((shr64 (toU64 (wI (a12+a13))) 1).toNat:Int)) fun x16=>
  (nthI l6 (wI (p_1-x16))).bind fun x17=>
  (nthI l6 x16).bind fun x18=>
  (f_grove_Load_1 x17 x18).bind fun y3=>
  cond (!(decide (y3<0)))
  (
   ret (wI (x16+1)) fun start_2=>
   nx_f_sym_l5 (start_2,a13))
  (
   nx_f_sym_l5 (a12,x16)))
 (
  f_sym_j8 n p1 p2 p3 rec_ l6 mid_1 x15 a12)
def f_sym_l5 (n:Nat) (p1:Int) (p2:Int) (p3:Int) (rec_:(List RowA)→Int→Int→Int→Option (List RowA)) (l6:List RowA) (mid_1:Int) (x15:Int) (p_1:Int):Nat→(Int×Int)→Option (List RowA):=loopN fun nx x=>f_sym_l5_b n p1 p2 p3 rec_ l6 mid_1 x15 p_1 nx x.1 x.2
def f_sym_j7 (n:Nat) (p1:Int) (p2:Int) (p3:Int) (rec_:(List RowA)→Int→Int→Int→Option (List RowA)) (l6:List RowA) (mid_1:Int) (x15:Int) (a9:Int) (a10:Int):Option (List RowA):=
 ret (wI (x15-1)) fun p_1=>
 f_sym_l5 n p1 p2 p3 rec_ l6 mid_1 x15 p_1 n (a9,a10)
def f_sym_j4 (n:Nat) (p1:Int) (p2:Int) (p3:Int) (rec_:(List RowA)→Int→Int→Int→Option (List RowA)) (l6:List RowA):Option (List RowA):=
 ret (wI ((shr64 (toU64 (wI (p1+p3))) 1).toNat:Int)) fun mid_1=>
 ret (wI (mid_1+p2)) fun x15=>
 cond (decide (mid_1<p2))
 (
  ret (wI (x15-p3)) fun start_1=>
  f_sym_j7 n p1 p2 p3 rec_ l6 mid_1 x15 start_1 mid_1)
 (
  f_sym_j7 n p1 p2 p3 rec_ l6 mid_1 x15 p1 p2)
def f_sym_j1 (n:Nat) (p1:Int) (p2:Int) (p3:Int) (rec_:(List RowA)→Int→Int→Int→Option (List RowA)) (l1:List RowA):Option (List RowA):=
 cond (decide (wI (p3-p2)=1))
 (
  f_sym_l3 n p2 l1 n (p1,p2))
 (
  f_sym_j4 n p1 p2 p3 rec_ l1)
def f_sym_j3 (l2:List RowA):Option (List RowA):=
 some l2
def f_sym_l2_b (a1:Int) (nx_f_sym_l2:List RowA×Int→Option (List RowA)) (l3:List RowA) (a4:Int):Option (List RowA):=
 cond (decide (a4<wI (a1-1)))
 (
  (nthI l3 (wI (a4+1))).bind fun x4=>
  (nthI l3 a4).bind fun x5=>
  (nthI l3 a4).bind fun x6=>
  (setI l3 a4 x4).bind fun l4=>
  (nthI l4 (wI (a4+1))).bind fun x7=>
  (setI l4 (wI (a4+1)) x5).bind fun l5=>
  ret (wI (a4+1)) fun k_1=>
  nx_f_sym_l2 (l5,k_1))
 (
  f_sym_j3 l3)
def f_sym_l2 (a1:Int):Nat→(List RowA×Int)→Option (List RowA):=loopN fun nx x=>f_sym_l2_b a1 nx x.1 x.2
def f_sym_j2 (n:Nat) (p0:List RowA) (p1:Int) (a1:Int):Option (List RowA):=
 f_sym_l2 a1 n (p0,p1)
def f_sym_l1_b (n:Nat) (p0:List RowA) (p1:Int) (nx_f_sym_l1:Int×Int→Option (List RowA)) (a2:Int) (a3:Int):Option (List RowA):=
 cond (decide (a2<a3))
 (
  ret (wI ((shr64 (toU64 (wI (a2+a3))) 1).toNat:Int)) fun x1=>
  (nthI p0 x1).bind fun x2=>
  (nthI p0 p1).bind fun x3=>
  (f_grove_Load_1 x2 x3).bind fun y1=>
  cond (decide (y1<0))
  (
   ret (wI (x1+1)) fun i_1=>
   nx_f_sym_l1 (i_1,a3))
  (
   nx_f_sym_l1 (a2,x1)))
 (
  f_sym_j2 n p0 p1 a2)
def f_sym_l1 (n:Nat) (p0:List RowA) (p1:Int):Nat→(Int×Int)→Option (List RowA):=loopN fun nx x=>f_sym_l1_b n p0 p1 nx x.1 x.2
def f_sym (rec_:(List RowA)→Int→Int→Int→Option (List RowA)) (n:Nat) (p0:List RowA) (p1:Int) (p2:Int) (p3:Int):Option (List RowA):=
 cond (decide (wI (p2-p1)=1))
 (
  f_sym_l1 n p0 p1 n (p2,p3))
 (
  f_sym_j1 n p1 p2 p3 rec_ p0)
set_option maxHeartbeats 4000000 in
set_option maxRecDepth 100000 in
theorem c_sym {rec_:(List RowA)→Int→Int→Int→Option (List RowA)} {n:Nat} {v0_:Value} {p0:List RowA} {p1:Int} {p2:Int} {p3:Int} {r:List RowA} (h:f_sym rec_ n p0 p1 p2 p3=some r) (hrec:∀ {H:List Chunk} {v0_:Value} {p0:List RowA} {p1:Int} {p2:Int} {p3:Int} {r:List RowA},rec_ p0 p1 p2 p3=some r→Con Tryz.prog K w0 124 [v0_,vI p1,vI p2,vI p3,.func (.func 50) #[] #[]] [rowT 79 4 v0_ encRow p0] H (fun u M=>u=.tuple #[]∧M=[rowT 79 4 v0_ encRow r])):Con Tryz.prog K w0 124 [v0_,vI p1,vI p2,vI p3,.func (.func 50) #[] #[]] [rowT 79 4 v0_ encRow p0] H (fun u M=>u=.tuple #[]∧M=[rowT 79 4 v0_ encRow r]):=by
 unfold f_sym at h
 refine Con.enter Tryz.func124 rfl rfl ?_
 refine SX.meetD (α:=List RowA) (fun x=>f_sym_j1 n p1 p2 p3 rec_ x=some r) (fun x=>[(0,v0_),(1,vI p1),(2,vI p2),(3,vI p3),(4,.func (.func 50) #[] #[])]) (fun x=>rowT 79 4 v0_ encRow x::H) ?_ (fun l1 D h=>?_)
 refine SX.sr (SL.mv (.r rfl) rfl (SL.mv (.r rfl) rfl (SL.bin (.r rfl) rfl rfl Bin.subW (SL.bin (.r rfl) rfl rfl Bin.eqI (SL.nx ?_)))))
 refine SX.cond rfl (fun hc1=>?_) (fun hc1=>?_)
 replace h:=cT hc1 h
 refine SX.sr (SL.mv (.r rfl) rfl (SL.asg (.r rfl) rfl (SL.nx (SX.sr (SL.mv (.r rfl) rfl (SL.asg (.r rfl) rfl (SL.nx ?_)))))))
 refine SX.meetD (α:=Int) (fun x=>f_sym_j2 n p0 p1 x=some r) (fun x=>[(0,v0_),(1,vI p1),(10,vI x)]) (fun x=>rowT 79 4 v0_ encRow p0::H) ?_ (fun a1 D h=>?_)
 refine SX.block ?_
 refine SX.heap (SX.mono (SX.loop (α:=Nat×Int×Int) (fun x=>f_sym_l1 n p0 p1 x.1 (x.2.1,x.2.2)=some r) (fun x=>[(0,v0_),(1,vI p1),(4,.func (.func 50) #[] #[]),(10,vI x.2.1),(11,vI x.2.2)]) (fun x=>rowT 79 4 v0_ encRow p0::H) (fun x=>x.1) (fun x D h=>?_) (n,p2,p3) h) (by repeat' (first | exact trivial | refine And.intro rfl ?_))) (fun _ hw=>HpOk.pick (H:=[_]) hw [0] 1 rfl)
 obtain ⟨m1,a2,a3⟩:=x
 dsimp only at h
 rcases m1 with _ | m1
 cases (show (none:Option _)=some r from h)
 replace h:f_sym_l1_b n p0 p1 (f_sym_l1 n p0 p1 m1) a2 a3=some r:=h
 unfold f_sym_l1_b at h
 refine SX.re [(0,v0_),(1,vI p1),(4,.func (.func 50) #[] #[]),(10,vI a2),(11,vI a3)] (rowT 79 4 v0_ encRow p0::H) ?_ (by repeat' (first | exact trivial | refine And.intro rfl ?_))
 refine SX.seq (SX.sr (SL.mv (.r rfl) rfl (SL.mv (.r rfl) rfl (SL.bin (.r rfl) rfl rfl Bin.ltI (SL.nx ?_)))))
 refine SX.cond rfl (fun hc2=>?_) (fun hc2=>?_)
 replace h:=cT hc2 h
 refine SX.skip (SQ.thn (SX.block (SX.sr ?_)))
 obtain ⟨x1,ex1,h⟩:=retE h
 refine SL.mv (.r rfl) rfl (SL.mv (.r rfl) rfl (SL.bin (.r rfl) rfl rfl Bin.addW (SL.cv (.r rfl) rfl (Cv.i_64 ty3 ty166) ?_)))
 refine SL.bin (.r rfl) rfl rfl (Bin.shr64 (n:=1)) ?_
 refine SL.cv (.r rfl) rfl (Cv.I_I ty166 ty3) ?_
 refine SL.asgX (u:=vI x1) (.r rfl) rfl (congrArg vI ex1) ?_
 refine SL.nx (SX.seq ?_)
 obtain ⟨x2,hx2,h⟩:=bnd h
 obtain ⟨x3,hx3,h⟩:=bnd h
 obtain ⟨y1,hy1,h⟩:=bnd h
 refine SX.drawI mix [0] (Pl.ap [(true,0),(true,1),(true,2),(true,3),(true,4),(true,5),(true,6),(true,7),(true,8)] (.last 9 (Pl.of [(false,10)]))) (by kernel_rfl) (SL.mv (.r rfl) rfl (SL.mv (.r rfl) rfl (SL.mv (.r rfl) rfl ?_)))
 refine SL.iaT 0 hx2 (.r rfl) ty35 sz79 rfl rfl rfl fun g1 m2 cp1 hv1=>?_
 refine SL.ldA (encRow x2) (.r rfl) ag79 rfl rfl (cells_rowT (sz:=4) (enc:=encRow) 0 (fun _=>rfl) rfl hv1 hx2) ?_
 refine SL.mv (.r rfl) rfl (SL.mv (.r rfl) rfl ?_)
 refine SL.iaT 0 hx3 (.r rfl) ty35 sz79 rfl rfl rfl fun g2 m3 cp2 hv2=>?_
 refine SL.ldA (encRow x3) (.r rfl) ag79 rfl rfl (cells_rowT (sz:=4) (enc:=encRow) 0 (fun _=>rfl) rfl hv2 hx3) ?_
 refine SL.last ?_
 refine SL.call (vs:=[_,_]) (Hin:=[]) (Hr:=_::_) (.r rfl) rfl ⟨rfl,rfl,trivial⟩ cal50 rfl rfl ((c_grove_Load_1 hy1 :)) ?_
 rintro _ _ ⟨rfl,rfl⟩
 refine ⟨trivial,?_⟩
 refine SL.bin (.r rfl) rfl rfl Bin.ltI (SL.nx ?_)
 refine SX.cond rfl (fun hc3=>?_) (fun hc3=>?_)
 replace h:=cT hc3 h
 refine SX.region ?_
 obtain ⟨i_1,ei_1,h⟩:=retE h
 refine SL.mv (.r rfl) rfl (SL.bin (.r rfl) rfl rfl Bin.addW ?_)
 refine SL.asgX (u:=vI i_1) (.r rfl) rfl (congrArg vI ei_1) ?_
 refine SL.nil (SQ.blk ?_)
 exact SQ.again (m1,i_1,a3) h (Nat.lt_succ_self _) (by repeat' (first | exact trivial | refine And.intro rfl ?_)) (fun _ hw=>HpOk.pick (H:=[_]) hw [0] 1 rfl)
 replace h:=cF hc3 h
 refine SX.region (SL.mv (.r rfl) rfl (SL.asg (.r rfl) rfl (SL.nil (SQ.blk ?_))))
 exact SQ.again (m1,a2,x1) h (Nat.lt_succ_self _) (by repeat' (first | exact trivial | refine And.intro rfl ?_)) (fun _ hw=>HpOk.pick (H:=[_]) hw [0] 1 rfl)
 replace h:=cF hc2 h
 refine SX.exit (SQ.thnE (SQ.lpE (SQ.blkE ?_)))
 exact SQ.midD a2 h (by repeat' (first | exact trivial | refine And.intro rfl ?_)) (fun _ hw=>HpOk.pick (H:=[_]) hw [0] 1 rfl)
 unfold f_sym_j2 at h
 refine SX.re [(0,v0_),(1,vI p1),(10,vI a1)] (rowT 79 4 v0_ encRow p0::H) ?_ (by repeat' (first | exact trivial | refine And.intro rfl ?_))
 refine SX.meetD (α:=List RowA) (fun x=>f_sym_j3 x=some r) (fun x=>[(0,v0_)]) (fun x=>rowT 79 4 v0_ encRow x::H) ?_ (fun l2 D h=>?_)
 refine SX.sr (SL.mv (.r rfl) rfl (SL.asg (.r rfl) rfl (SL.nx (SX.block ?_))))
 refine SX.heap (SX.mono (SX.loop (α:=Nat×List RowA×Int) (fun x=>f_sym_l2 a1 x.1 (x.2.1,x.2.2)=some r) (fun x=>[(0,v0_),(10,vI a1),(13,vI x.2.2)]) (fun x=>rowT 79 4 v0_ encRow x.2.1::H) (fun x=>x.1) (fun x D h=>?_) (n,p0,p1) h) (by repeat' (first | exact trivial | refine And.intro rfl ?_))) (fun _ hw=>HpOk.pick (H:=[_]) hw [0] 1 rfl)
 obtain ⟨m4,l3,a4⟩:=x
 dsimp only at h
 rcases m4 with _ | m4
 cases (show (none:Option _)=some r from h)
 replace h:f_sym_l2_b a1 (f_sym_l2 a1 m4) l3 a4=some r:=h
 unfold f_sym_l2_b at h
 refine SX.re [(0,v0_),(10,vI a1),(13,vI a4)] (rowT 79 4 v0_ encRow l3::H) ?_ (by repeat' (first | exact trivial | refine And.intro rfl ?_))
 refine SX.seq (SX.sr (SL.mv (.r rfl) rfl (SL.mv (.r rfl) rfl (SL.bin (.r rfl) rfl rfl Bin.subW (SL.bin (.r rfl) rfl rfl Bin.ltI (SL.nx ?_))))))
 refine SX.cond rfl (fun hc4=>?_) (fun hc4=>?_)
 replace h:=cT hc4 h
 refine SX.skip (SQ.thn (SX.seq (SX.block ?_)))
 obtain ⟨x4,hx4,h⟩:=bnd h
 obtain ⟨x5,hx5,h⟩:=bnd h
 obtain ⟨x6,hx6,h⟩:=bnd h
 obtain ⟨l4,hl4,h⟩:=bnd h
 obtain ⟨x7,hx7,h⟩:=bnd h
 obtain ⟨l5,hl5,h⟩:=bnd h
 refine SX.drawI mix [] (Pl.ap [(true,0),(true,1),(true,2),(true,3),(true,4),(true,5),(true,6),(true,7),(true,8),(true,10),(true,11),(true,12)] (.alt 9 (Pl.ap [(false,13),(true,14),(false,15),(true,16)] (.last 17 .nil)) (.cons (false,13) (Pl.ap [(false,9),(true,14),(false,15),(true,16)] (.last 17 .nil))))) (by kernel_rfl) (SL.mv (.r rfl) rfl (SL.mv (.r rfl) rfl (SL.mv (.r rfl) rfl (SL.mv (.r rfl) rfl (SL.bin (.r rfl) rfl rfl Bin.addW (SL.mv (.r rfl) rfl (SL.mv (.r rfl) rfl ?_)))))))
 refine SL.bin (.r rfl) rfl rfl Bin.addW ?_
 refine SL.iaT 0 hx4 (.r rfl) ty35 sz79 rfl rfl rfl fun g3 m5 cp3 hv3=>?_
 refine SL.mv (.r rfl) rfl (SL.mv (.r rfl) rfl ?_)
 refine SL.iaT 0 hx5 (.r rfl) ty35 sz79 rfl rfl rfl fun g4 m6 cp4 hv4=>?_
 refine SL.two ?_ ?_
 refine SL.ldA (encRow x4) (.r rfl) ag79 rfl rfl (cells_rowT (sz:=4) (enc:=encRow) 0 (fun _=>rfl) rfl hv3 hx4) ?_
 refine SL.ldA (encRow x5) (.r rfl) ag79 rfl rfl (cells_rowT (sz:=4) (enc:=encRow) 0 (fun _=>rfl) rfl hv4 hx5) ?_
 refine SL.iaT 0 hx6 (.r rfl) ty35 sz79 rfl rfl rfl fun g5 m7 cp5 hv5=>?_
 refine SL.stTN (sz:=4) (enc:=encRow) 0 hl4 (fun _=>rfl) ⟨rfl,rfl,rfl⟩ rfl rfl rfl rfl hv5 sz79 (by first | (simp [Value.oneCell'];done) | simp [encRow,Value.oneCell']) trivial ?_
 refine SL.iaT 0 hx7 (.r rfl) ty35 sz79 rfl rfl rfl fun g6 m8 cp6 hv6=>?_
 refine SL.last ?_
 refine SL.stTN (sz:=4) (enc:=encRow) 0 hl5 (fun _=>rfl) ⟨rfl,rfl,rfl⟩ rfl rfl rfl rfl hv6 sz79 (by first | (simp [Value.oneCell'];done) | simp [encRow,Value.oneCell']) trivial ?_
 refine SL.nil (SQ.blk (SQ.thn (SX.region ?_)))
 obtain ⟨k_1,ek_1,h⟩:=retE h
 refine SL.mv (.r rfl) rfl (SL.bin (.r rfl) rfl rfl Bin.addW ?_)
 refine SL.asgX (u:=vI k_1) (.r rfl) rfl (congrArg vI ek_1) ?_
 refine SL.nil ?_
 exact SQ.again (m4,l5,k_1) h (Nat.lt_succ_self _) (by repeat' (first | exact trivial | refine And.intro rfl ?_)) (fun _ hw=>HpOk.pick (H:=[_]) hw [0] 1 rfl)
 refine SL.ldA (encRow x5) (.r rfl) ag79 rfl rfl (cells_rowT (sz:=4) (enc:=encRow) 0 (fun _=>rfl) rfl hv4 hx5) ?_
 refine SL.ldA (encRow x4) (.r rfl) ag79 rfl rfl (cells_rowT (sz:=4) (enc:=encRow) 0 (fun _=>rfl) rfl hv3 hx4) ?_
 refine SL.iaT 0 hx6 (.r rfl) ty35 sz79 rfl rfl rfl fun g5 m7 cp5 hv5=>?_
 refine SL.stTN (sz:=4) (enc:=encRow) 0 hl4 (fun _=>rfl) ⟨rfl,rfl,rfl⟩ rfl rfl rfl rfl hv5 sz79 (by first | (simp [Value.oneCell'];done) | simp [encRow,Value.oneCell']) trivial ?_
 refine SL.iaT 0 hx7 (.r rfl) ty35 sz79 rfl rfl rfl fun g6 m8 cp6 hv6=>?_
 refine SL.last ?_
 refine SL.stTN (sz:=4) (enc:=encRow) 0 hl5 (fun _=>rfl) ⟨rfl,rfl,rfl⟩ rfl rfl rfl rfl hv6 sz79 (by first | (simp [Value.oneCell'];done) | simp [encRow,Value.oneCell']) trivial ?_
 refine SL.nil (SQ.blk (SQ.thn (SX.region ?_)))
 obtain ⟨k_1,ek_1,h⟩:=retE h
 refine SL.mv (.r rfl) rfl (SL.bin (.r rfl) rfl rfl Bin.addW ?_)
 refine SL.asgX (u:=vI k_1) (.r rfl) rfl (congrArg vI ek_1) ?_
 refine SL.nil ?_
 exact SQ.again (m4,l5,k_1) h (Nat.lt_succ_self _) (by repeat' (first | exact trivial | refine And.intro rfl ?_)) (fun _ hw=>HpOk.pick (H:=[_]) hw [0] 1 rfl)
 replace h:=cF hc4 h
 refine SX.exit (SQ.thnE (SQ.lpE (SQ.blkE ?_)))
 exact SQ.midD l3 h (by repeat' (first | exact trivial | refine And.intro rfl ?_)) (fun _ hw=>HpOk.pick (H:=[_]) hw [0] 1 rfl)
 unfold f_sym_j3 at h
 refine SX.re [(0,v0_)] (rowT 79 4 v0_ encRow l2::H) ?_ (by repeat' (first | exact trivial | refine And.intro rfl ?_))
 refine SX.ret (SQ.midDR ?_)
 obtain rfl:=Option.some.inj h
 exact SQ.fret (res0 rfl) (ret_of (M:=[_]) ⟨rfl,rfl⟩ fun _ hw=>HpOk.pick (H:=[_]) hw [0] 1 rfl)
 replace h:=cF hc1 h
 refine SX.skip ?_
 exact SQ.midD p0 h (by repeat' (first | exact trivial | refine And.intro rfl ?_)) (fun _ hw=>HpOk.pick (H:=[_]) hw [0] 1 rfl)
 unfold f_sym_j1 at h
 refine SX.re [(0,v0_),(1,vI p1),(2,vI p2),(3,vI p3),(4,.func (.func 50) #[] #[])] (rowT 79 4 v0_ encRow l1::H) ?_ (by repeat' (first | exact trivial | refine And.intro rfl ?_))
 refine SX.meetD (α:=List RowA) (fun x=>f_sym_j4 n p1 p2 p3 rec_ x=some r) (fun x=>[(0,v0_),(1,vI p1),(2,vI p2),(3,vI p3),(4,.func (.func 50) #[] #[])]) (fun x=>rowT 79 4 v0_ encRow x::H) ?_ (fun l6 D h=>?_)
 refine SX.sr (SL.mv (.r rfl) rfl (SL.mv (.r rfl) rfl (SL.bin (.r rfl) rfl rfl Bin.subW (SL.bin (.r rfl) rfl rfl Bin.eqI (SL.nx ?_)))))
 refine SX.cond rfl (fun hc5=>?_) (fun hc5=>?_)
 replace h:=cT hc5 h
 refine SX.sr (SL.mv (.r rfl) rfl (SL.asg (.r rfl) rfl (SL.nx (SX.sr (SL.mv (.r rfl) rfl (SL.asg (.r rfl) rfl (SL.nx ?_)))))))
 refine SX.meetD (α:=Int) (fun x=>f_sym_j5 n p2 l1 x=some r) (fun x=>[(0,v0_),(2,vI p2),(14,vI x)]) (fun x=>rowT 79 4 v0_ encRow l1::H) ?_ (fun a5 D h=>?_)
 refine SX.block ?_
 refine SX.heap (SX.mono (SX.loop (α:=Nat×Int×Int) (fun x=>f_sym_l3 n p2 l1 x.1 (x.2.1,x.2.2)=some r) (fun x=>[(0,v0_),(2,vI p2),(4,.func (.func 50) #[] #[]),(14,vI x.2.1),(15,vI x.2.2)]) (fun x=>rowT 79 4 v0_ encRow l1::H) (fun x=>x.1) (fun x D h=>?_) (n,p1,p2) h) (by repeat' (first | exact trivial | refine And.intro rfl ?_))) (fun _ hw=>HpOk.pick (H:=[_]) hw [0] 1 rfl)
 obtain ⟨m9,a6,a7⟩:=x
 dsimp only at h
 rcases m9 with _ | m9
 cases (show (none:Option _)=some r from h)
 replace h:f_sym_l3_b n p2 l1 (f_sym_l3 n p2 l1 m9) a6 a7=some r:=h
 unfold f_sym_l3_b at h
 refine SX.re [(0,v0_),(2,vI p2),(4,.func (.func 50) #[] #[]),(14,vI a6),(15,vI a7)] (rowT 79 4 v0_ encRow l1::H) ?_ (by repeat' (first | exact trivial | refine And.intro rfl ?_))
 refine SX.seq (SX.sr (SL.mv (.r rfl) rfl (SL.mv (.r rfl) rfl (SL.bin (.r rfl) rfl rfl Bin.ltI (SL.nx ?_)))))
 refine SX.cond rfl (fun hc6=>?_) (fun hc6=>?_)
 replace h:=cT hc6 h
 refine SX.skip (SQ.thn (SX.block (SX.sr ?_)))
 obtain ⟨x8,ex8,h⟩:=retE h
 refine SL.mv (.r rfl) rfl (SL.mv (.r rfl) rfl (SL.bin (.r rfl) rfl rfl Bin.addW (SL.cv (.r rfl) rfl (Cv.i_64 ty3 ty166) ?_)))
 refine SL.bin (.r rfl) rfl rfl (Bin.shr64 (n:=1)) ?_
 refine SL.cv (.r rfl) rfl (Cv.I_I ty166 ty3) ?_
 refine SL.asgX (u:=vI x8) (.r rfl) rfl (congrArg vI ex8) ?_
 refine SL.nx (SX.seq ?_)
 obtain ⟨x9,hx9,h⟩:=bnd h
 obtain ⟨x10,hx10,h⟩:=bnd h
 obtain ⟨y2,hy2,h⟩:=bnd h
 refine SX.drawI mix [0] (Pl.ap [(true,0),(true,1),(true,2),(true,3),(true,4),(true,5),(true,6),(true,7),(true,8)] (.last 9 (Pl.of [(false,10),(false,11)]))) (by kernel_rfl) (SL.mv (.r rfl) rfl (SL.mv (.r rfl) rfl (SL.mv (.r rfl) rfl ?_)))
 refine SL.iaT 0 hx9 (.r rfl) ty35 sz79 rfl rfl rfl fun g7 m10 cp7 hv7=>?_
 refine SL.ldA (encRow x9) (.r rfl) ag79 rfl rfl (cells_rowT (sz:=4) (enc:=encRow) 0 (fun _=>rfl) rfl hv7 hx9) ?_
 refine SL.mv (.r rfl) rfl (SL.mv (.r rfl) rfl ?_)
 refine SL.iaT 0 hx10 (.r rfl) ty35 sz79 rfl rfl rfl fun g8 m11 cp8 hv8=>?_
 refine SL.ldA (encRow x10) (.r rfl) ag79 rfl rfl (cells_rowT (sz:=4) (enc:=encRow) 0 (fun _=>rfl) rfl hv8 hx10) ?_
 refine SL.last ?_
 refine SL.call (vs:=[_,_]) (Hin:=[]) (Hr:=_::_) (.r rfl) rfl ⟨rfl,rfl,trivial⟩ cal50 rfl rfl ((c_grove_Load_1 hy2 :)) ?_
 rintro _ _ ⟨rfl,rfl⟩
 refine ⟨trivial,?_⟩
 refine SL.bin (.r rfl) rfl rfl Bin.ltI (SL.not (.r rfl) rfl (SL.nx ?_))
 refine SX.cond rfl (fun hc7=>?_) (fun hc7=>?_)
 replace h:=cT hc7 h
 refine SX.region ?_
 obtain ⟨i_2,ei_2,h⟩:=retE h
 refine SL.mv (.r rfl) rfl (SL.bin (.r rfl) rfl rfl Bin.addW ?_)
 refine SL.asgX (u:=vI i_2) (.r rfl) rfl (congrArg vI ei_2) ?_
 refine SL.nil (SQ.blk ?_)
 exact SQ.again (m9,i_2,a7) h (Nat.lt_succ_self _) (by repeat' (first | exact trivial | refine And.intro rfl ?_)) (fun _ hw=>HpOk.pick (H:=[_]) hw [0] 1 rfl)
 replace h:=cF hc7 h
 refine SX.region (SL.mv (.r rfl) rfl (SL.asg (.r rfl) rfl (SL.nil (SQ.blk ?_))))
 exact SQ.again (m9,a6,x8) h (Nat.lt_succ_self _) (by repeat' (first | exact trivial | refine And.intro rfl ?_)) (fun _ hw=>HpOk.pick (H:=[_]) hw [0] 1 rfl)
 replace h:=cF hc6 h
 refine SX.exit (SQ.thnE (SQ.lpE (SQ.blkE ?_)))
 exact SQ.midD a6 h (by repeat' (first | exact trivial | refine And.intro rfl ?_)) (fun _ hw=>HpOk.pick (H:=[_]) hw [0] 1 rfl)
 unfold f_sym_j5 at h
 refine SX.re [(0,v0_),(2,vI p2),(14,vI a5)] (rowT 79 4 v0_ encRow l1::H) ?_ (by repeat' (first | exact trivial | refine And.intro rfl ?_))
 refine SX.meetD (α:=List RowA) (fun x=>f_sym_j6 x=some r) (fun x=>[(0,v0_)]) (fun x=>rowT 79 4 v0_ encRow x::H) ?_ (fun l7 D h=>?_)
 refine SX.sr (SL.mv (.r rfl) rfl (SL.asg (.r rfl) rfl (SL.nx (SX.block ?_))))
 refine SX.heap (SX.mono (SX.loop (α:=Nat×List RowA×Int) (fun x=>f_sym_l4 a5 x.1 (x.2.1,x.2.2)=some r) (fun x=>[(0,v0_),(14,vI a5),(17,vI x.2.2)]) (fun x=>rowT 79 4 v0_ encRow x.2.1::H) (fun x=>x.1) (fun x D h=>?_) (n,l1,p2) h) (by repeat' (first | exact trivial | refine And.intro rfl ?_))) (fun _ hw=>HpOk.pick (H:=[_]) hw [0] 1 rfl)
 obtain ⟨m12,l8,a8⟩:=x
 dsimp only at h
 rcases m12 with _ | m12
 cases (show (none:Option _)=some r from h)
 replace h:f_sym_l4_b a5 (f_sym_l4 a5 m12) l8 a8=some r:=h
 unfold f_sym_l4_b at h
 refine SX.re [(0,v0_),(14,vI a5),(17,vI a8)] (rowT 79 4 v0_ encRow l8::H) ?_ (by repeat' (first | exact trivial | refine And.intro rfl ?_))
 refine SX.seq (SX.sr (SL.mv (.r rfl) rfl (SL.mv (.r rfl) rfl (SL.bin (.r rfl) rfl rfl Bin.gtI (SL.nx ?_)))))
 refine SX.cond rfl (fun hc8=>?_) (fun hc8=>?_)
 replace h:=cT hc8 h
 refine SX.skip (SQ.thn (SX.seq (SX.block ?_)))
 obtain ⟨x11,hx11,h⟩:=bnd h
 obtain ⟨x12,hx12,h⟩:=bnd h
 obtain ⟨x13,hx13,h⟩:=bnd h
 obtain ⟨l9,hl9,h⟩:=bnd h
 obtain ⟨x14,hx14,h⟩:=bnd h
 obtain ⟨l10,hl10,h⟩:=bnd h
 refine SX.drawI mix [] (Pl.ap [(true,0),(true,1),(true,2),(true,3),(true,4),(true,5),(true,6),(true,7),(true,8),(true,10),(true,11),(true,12)] (.alt 9 (Pl.ap [(false,13),(true,14),(false,15),(true,16)] (.last 17 .nil)) (.cons (false,13) (Pl.ap [(false,9),(true,14),(false,15),(true,16)] (.last 17 .nil))))) (by kernel_rfl) (SL.mv (.r rfl) rfl (SL.mv (.r rfl) rfl (SL.mv (.r rfl) rfl (SL.mv (.r rfl) rfl (SL.bin (.r rfl) rfl rfl Bin.subW (SL.mv (.r rfl) rfl (SL.mv (.r rfl) rfl ?_)))))))
 refine SL.bin (.r rfl) rfl rfl Bin.subW ?_
 refine SL.iaT 0 hx11 (.r rfl) ty35 sz79 rfl rfl rfl fun g9 m13 cp9 hv9=>?_
 refine SL.mv (.r rfl) rfl (SL.mv (.r rfl) rfl ?_)
 refine SL.iaT 0 hx12 (.r rfl) ty35 sz79 rfl rfl rfl fun g10 m14 cp10 hv10=>?_
 refine SL.two ?_ ?_
 refine SL.ldA (encRow x11) (.r rfl) ag79 rfl rfl (cells_rowT (sz:=4) (enc:=encRow) 0 (fun _=>rfl) rfl hv9 hx11) ?_
 refine SL.ldA (encRow x12) (.r rfl) ag79 rfl rfl (cells_rowT (sz:=4) (enc:=encRow) 0 (fun _=>rfl) rfl hv10 hx12) ?_
 refine SL.iaT 0 hx13 (.r rfl) ty35 sz79 rfl rfl rfl fun g11 m15 cp11 hv11=>?_
 refine SL.stTN (sz:=4) (enc:=encRow) 0 hl9 (fun _=>rfl) ⟨rfl,rfl,rfl⟩ rfl rfl rfl rfl hv11 sz79 (by first | (simp [Value.oneCell'];done) | simp [encRow,Value.oneCell']) trivial ?_
 refine SL.iaT 0 hx14 (.r rfl) ty35 sz79 rfl rfl rfl fun g12 m16 cp12 hv12=>?_
 refine SL.last ?_
 refine SL.stTN (sz:=4) (enc:=encRow) 0 hl10 (fun _=>rfl) ⟨rfl,rfl,rfl⟩ rfl rfl rfl rfl hv12 sz79 (by first | (simp [Value.oneCell'];done) | simp [encRow,Value.oneCell']) trivial ?_
 refine SL.nil (SQ.blk (SQ.thn (SX.region ?_)))
 obtain ⟨k_2,ek_2,h⟩:=retE h
 refine SL.mv (.r rfl) rfl (SL.bin (.r rfl) rfl rfl Bin.subW ?_)
 refine SL.asgX (u:=vI k_2) (.r rfl) rfl (congrArg vI ek_2) ?_
 refine SL.nil ?_
 exact SQ.again (m12,l10,k_2) h (Nat.lt_succ_self _) (by repeat' (first | exact trivial | refine And.intro rfl ?_)) (fun _ hw=>HpOk.pick (H:=[_]) hw [0] 1 rfl)
 refine SL.ldA (encRow x12) (.r rfl) ag79 rfl rfl (cells_rowT (sz:=4) (enc:=encRow) 0 (fun _=>rfl) rfl hv10 hx12) ?_
 refine SL.ldA (encRow x11) (.r rfl) ag79 rfl rfl (cells_rowT (sz:=4) (enc:=encRow) 0 (fun _=>rfl) rfl hv9 hx11) ?_
 refine SL.iaT 0 hx13 (.r rfl) ty35 sz79 rfl rfl rfl fun g11 m15 cp11 hv11=>?_
 refine SL.stTN (sz:=4) (enc:=encRow) 0 hl9 (fun _=>rfl) ⟨rfl,rfl,rfl⟩ rfl rfl rfl rfl hv11 sz79 (by first | (simp [Value.oneCell'];done) | simp [encRow,Value.oneCell']) trivial ?_
 refine SL.iaT 0 hx14 (.r rfl) ty35 sz79 rfl rfl rfl fun g12 m16 cp12 hv12=>?_
 refine SL.last ?_
 refine SL.stTN (sz:=4) (enc:=encRow) 0 hl10 (fun _=>rfl) ⟨rfl,rfl,rfl⟩ rfl rfl rfl rfl hv12 sz79 (by first | (simp [Value.oneCell'];done) | simp [encRow,Value.oneCell']) trivial ?_
 refine SL.nil (SQ.blk (SQ.thn (SX.region ?_)))
 obtain ⟨k_2,ek_2,h⟩:=retE h
 refine SL.mv (.r rfl) rfl (SL.bin (.r rfl) rfl rfl Bin.subW ?_)
 refine SL.asgX (u:=vI k_2) (.r rfl) rfl (congrArg vI ek_2) ?_
 refine SL.nil ?_
 exact SQ.again (m12,l10,k_2) h (Nat.lt_succ_self _) (by repeat' (first | exact trivial | refine And.intro rfl ?_)) (fun _ hw=>HpOk.pick (H:=[_]) hw [0] 1 rfl)
 replace h:=cF hc8 h
 refine SX.exit (SQ.thnE (SQ.lpE (SQ.blkE ?_)))
 exact SQ.midD l8 h (by repeat' (first | exact trivial | refine And.intro rfl ?_)) (fun _ hw=>HpOk.pick (H:=[_]) hw [0] 1 rfl)
 unfold f_sym_j6 at h
 refine SX.re [(0,v0_)] (rowT 79 4 v0_ encRow l7::H) ?_ (by repeat' (first | exact trivial | refine And.intro rfl ?_))
 refine SX.ret (SQ.midDR ?_)
 obtain rfl:=Option.some.inj h
 exact SQ.fret (res0 rfl) (ret_of (M:=[_]) ⟨rfl,rfl⟩ fun _ hw=>HpOk.pick (H:=[_]) hw [0] 1 rfl)
 replace h:=cF hc5 h
 refine SX.skip ?_
 exact SQ.midD l1 h (by repeat' (first | exact trivial | refine And.intro rfl ?_)) (fun _ hw=>HpOk.pick (H:=[_]) hw [0] 1 rfl)
 unfold f_sym_j4 at h
 refine SX.re [(0,v0_),(1,vI p1),(2,vI p2),(3,vI p3),(4,.func (.func 50) #[] #[])] (rowT 79 4 v0_ encRow l6::H) ?_ (by repeat' (first | exact trivial | refine And.intro rfl ?_))
 refine SX.sr ?_
 obtain ⟨mid_1,emid_1,h⟩:=retE h
 refine SL.mv (.r rfl) rfl (SL.mv (.r rfl) rfl (SL.bin (.r rfl) rfl rfl Bin.addW (SL.cv (.r rfl) rfl (Cv.i_64 ty3 ty166) ?_)))
 refine SL.bin (.r rfl) rfl rfl (Bin.shr64 (n:=1)) ?_
 refine SL.cv (.r rfl) rfl (Cv.I_I ty166 ty3) ?_
 refine SL.asgX (u:=vI mid_1) (.r rfl) rfl (congrArg vI emid_1) ?_
 refine SL.nx (SX.sr ?_)
 obtain ⟨x15,ex15,h⟩:=retE h
 refine SL.mv (.r rfl) rfl (SL.mv (.r rfl) rfl (SL.bin (.r rfl) rfl rfl Bin.addW ?_))
 refine SL.asgX (u:=vI x15) (.r rfl) rfl (congrArg vI ex15) ?_
 refine SL.nx (SX.sr (SL.asg (.r rfl) rfl (SL.asg (.r rfl) rfl (SL.nx ?_))))
 refine SX.meetD (α:=Int×Int) (fun x=>f_sym_j7 n p1 p2 p3 rec_ l6 mid_1 x15 x.1 x.2=some r) (fun x=>[(0,v0_),(1,vI p1),(2,vI p2),(3,vI p3),(4,.func (.func 50) #[] #[]),(18,vI mid_1),(19,vI x15),(20,vI x.1),(21,vI x.2)]) (fun x=>rowT 79 4 v0_ encRow l6::H) ?_ (fun x D h=>?_)
 refine SX.sr (SL.mv (.r rfl) rfl (SL.mv (.r rfl) rfl (SL.bin (.r rfl) rfl rfl Bin.gtI (SL.nx ?_))))
 refine SX.cond rfl (fun hc9=>?_) (fun hc9=>?_)
 replace h:=cT hc9 h
 refine SX.sr ?_
 obtain ⟨start_1,estart_1,h⟩:=retE h
 refine SL.mv (.r rfl) rfl (SL.mv (.r rfl) rfl (SL.bin (.r rfl) rfl rfl Bin.subW ?_))
 refine SL.asgX (u:=vI start_1) (.r rfl) rfl (congrArg vI estart_1) ?_
 refine SL.nx (SX.region (SL.mv (.r rfl) rfl (SL.asg (.r rfl) rfl (SL.nil ?_))))
 exact SQ.midD (start_1,mid_1) h (by repeat' (first | exact trivial | refine And.intro rfl ?_)) (fun _ hw=>HpOk.pick (H:=[_]) hw [0] 1 rfl)
 replace h:=cF hc9 h
 refine SX.sr (SL.mv (.r rfl) rfl (SL.asg (.r rfl) rfl (SL.nx (SX.region (SL.mv (.r rfl) rfl (SL.asg (.r rfl) rfl (SL.nil ?_)))))))
 exact SQ.midD (p1,p2) h (by repeat' (first | exact trivial | refine And.intro rfl ?_)) (fun _ hw=>HpOk.pick (H:=[_]) hw [0] 1 rfl)
 obtain ⟨a9,a10⟩:=x
 dsimp only at h
 unfold f_sym_j7 at h
 refine SX.re [(0,v0_),(1,vI p1),(2,vI p2),(3,vI p3),(4,.func (.func 50) #[] #[]),(18,vI mid_1),(19,vI x15),(20,vI a9),(21,vI a10)] (rowT 79 4 v0_ encRow l6::H) ?_ (by repeat' (first | exact trivial | refine And.intro rfl ?_))
 refine SX.sr ?_
 obtain ⟨p_1,ep_1,h⟩:=retE h
 refine SL.mv (.r rfl) rfl (SL.bin (.r rfl) rfl rfl Bin.subW ?_)
 refine SL.asgX (u:=vI p_1) (.r rfl) rfl (congrArg vI ep_1) ?_
 refine SL.nx ?_
 refine SX.meetD (α:=Int) (fun x=>f_sym_j8 n p1 p2 p3 rec_ l6 mid_1 x15 x=some r) (fun x=>[(0,v0_),(1,vI p1),(2,vI p2),(3,vI p3),(4,.func (.func 50) #[] #[]),(18,vI mid_1),(19,vI x15),(20,vI x)]) (fun x=>rowT 79 4 v0_ encRow l6::H) ?_ (fun a11 D h=>?_)
 refine SX.block ?_
 refine SX.heap (SX.mono (SX.loop (α:=Nat×Int×Int) (fun x=>f_sym_l5 n p1 p2 p3 rec_ l6 mid_1 x15 p_1 x.1 (x.2.1,x.2.2)=some r) (fun x=>[(0,v0_),(1,vI p1),(2,vI p2),(3,vI p3),(4,.func (.func 50) #[] #[]),(18,vI mid_1),(19,vI x15),(20,vI x.2.1),(21,vI x.2.2),(22,vI p_1)]) (fun x=>rowT 79 4 v0_ encRow l6::H) (fun x=>x.1) (fun x D h=>?_) (n,a9,a10) h) (by repeat' (first | exact trivial | refine And.intro rfl ?_))) (fun _ hw=>HpOk.pick (H:=[_]) hw [0] 1 rfl)
 obtain ⟨m17,a12,a13⟩:=x
 dsimp only at h
 rcases m17 with _ | m17
 cases (show (none:Option _)=some r from h)
 replace h:f_sym_l5_b n p1 p2 p3 rec_ l6 mid_1 x15 p_1 (f_sym_l5 n p1 p2 p3 rec_ l6 mid_1 x15 p_1 m17) a12 a13=some r:=h
 unfold f_sym_l5_b at h
 refine SX.re [(0,v0_),(1,vI p1),(2,vI p2),(3,vI p3),(4,.func (.func 50) #[] #[]),(18,vI mid_1),(19,vI x15),(20,vI a12),(21,vI a13),(22,vI p_1)] (rowT 79 4 v0_ encRow l6::H) ?_ (by repeat' (first | exact trivial | refine And.intro rfl ?_))
 refine SX.seq (SX.sr (SL.mv (.r rfl) rfl (SL.mv (.r rfl) rfl (SL.bin (.r rfl) rfl rfl Bin.ltI (SL.nx ?_)))))
 refine SX.cond rfl (fun hc10=>?_) (fun hc10=>?_)
 replace h:=cT hc10 h
 refine SX.skip (SQ.thn (SX.block (SX.sr ?_)))
 obtain ⟨x16,ex16,h⟩:=retE h
 refine SL.mv (.r rfl) rfl (SL.mv (.r rfl) rfl (SL.bin (.r rfl) rfl rfl Bin.addW (SL.cv (.r rfl) rfl (Cv.i_64 ty3 ty166) ?_)))
 refine SL.bin (.r rfl) rfl rfl (Bin.shr64 (n:=1)) ?_
 refine SL.cv (.r rfl) rfl (Cv.I_I ty166 ty3) ?_
 refine SL.asgX (u:=vI x16) (.r rfl) rfl (congrArg vI ex16) ?_
 refine SL.nx (SX.seq ?_)
 obtain ⟨x17,hx17,h⟩:=bnd h
 obtain ⟨x18,hx18,h⟩:=bnd h
 obtain ⟨y3,hy3,h⟩:=bnd h
 refine SX.drawI mix [0] (Pl.ap [(true,0),(true,1),(true,2),(true,3),(true,4),(true,5),(true,6),(true,7),(true,8),(true,9),(true,10)] (.last 11 (Pl.of [(false,12),(false,13)]))) (by kernel_rfl) (SL.mv (.r rfl) rfl (SL.mv (.r rfl) rfl (SL.mv (.r rfl) rfl (SL.mv (.r rfl) rfl (SL.bin (.r rfl) rfl rfl Bin.subW ?_)))))
 refine SL.iaT 0 hx17 (.r rfl) ty35 sz79 rfl rfl rfl fun g13 m18 cp13 hv13=>?_
 refine SL.ldA (encRow x17) (.r rfl) ag79 rfl rfl (cells_rowT (sz:=4) (enc:=encRow) 0 (fun _=>rfl) rfl hv13 hx17) ?_
 refine SL.mv (.r rfl) rfl (SL.mv (.r rfl) rfl ?_)
 refine SL.iaT 0 hx18 (.r rfl) ty35 sz79 rfl rfl rfl fun g14 m19 cp14 hv14=>?_
 refine SL.ldA (encRow x18) (.r rfl) ag79 rfl rfl (cells_rowT (sz:=4) (enc:=encRow) 0 (fun _=>rfl) rfl hv14 hx18) ?_
 refine SL.last ?_
 refine SL.call (vs:=[_,_]) (Hin:=[]) (Hr:=_::_) (.r rfl) rfl ⟨rfl,rfl,trivial⟩ cal50 rfl rfl ((c_grove_Load_1 hy3 :)) ?_
 rintro _ _ ⟨rfl,rfl⟩
 refine ⟨trivial,?_⟩
 refine SL.bin (.r rfl) rfl rfl Bin.ltI (SL.not (.r rfl) rfl (SL.nx ?_))
 refine SX.cond rfl (fun hc11=>?_) (fun hc11=>?_)
 replace h:=cT hc11 h
 refine SX.region ?_
 obtain ⟨start_2,estart_2,h⟩:=retE h
 refine SL.mv (.r rfl) rfl (SL.bin (.r rfl) rfl rfl Bin.addW ?_)
 refine SL.asgX (u:=vI start_2) (.r rfl) rfl (congrArg vI estart_2) ?_
 refine SL.nil (SQ.blk ?_)
 exact SQ.again (m17,start_2,a13) h (Nat.lt_succ_self _) (by repeat' (first | exact trivial | refine And.intro rfl ?_)) (fun _ hw=>HpOk.pick (H:=[_]) hw [0] 1 rfl)
 replace h:=cF hc11 h
 refine SX.region (SL.mv (.r rfl) rfl (SL.asg (.r rfl) rfl (SL.nil (SQ.blk ?_))))
 exact SQ.again (m17,a12,x16) h (Nat.lt_succ_self _) (by repeat' (first | exact trivial | refine And.intro rfl ?_)) (fun _ hw=>HpOk.pick (H:=[_]) hw [0] 1 rfl)
 replace h:=cF hc10 h
 refine SX.exit (SQ.thnE (SQ.lpE (SQ.blkE ?_)))
 exact SQ.midD a12 h (by repeat' (first | exact trivial | refine And.intro rfl ?_)) (fun _ hw=>HpOk.pick (H:=[_]) hw [0] 1 rfl)
 unfold f_sym_j8 at h
 refine SX.re [(0,v0_),(1,vI p1),(2,vI p2),(3,vI p3),(4,.func (.func 50) #[] #[]),(18,vI mid_1),(19,vI x15),(20,vI a11)] (rowT 79 4 v0_ encRow l6::H) ?_ (by repeat' (first | exact trivial | refine And.intro rfl ?_))
 refine SX.sr ?_
 obtain ⟨x19,ex19,h⟩:=retE h
 refine SL.mv (.r rfl) rfl (SL.mv (.r rfl) rfl (SL.bin (.r rfl) rfl rfl Bin.subW ?_))
 refine SL.asgX (u:=vI x19) (.r rfl) rfl (congrArg vI ex19) ?_
 refine SL.nx ?_
 refine SX.meetD (α:=List RowA) (fun x=>f_sym_j9 p1 p3 rec_ mid_1 a11 x19 x=some r) (fun x=>[(0,v0_),(1,vI p1),(3,vI p3),(4,.func (.func 50) #[] #[]),(18,vI mid_1),(20,vI a11),(24,vI x19)]) (fun x=>rowT 79 4 v0_ encRow x::H) ?_ (fun l11 D h=>?_)
 refine SX.sr (SL.mv (.r rfl) rfl (SL.mv (.r rfl) rfl (SL.bin (.r rfl) rfl rfl Bin.ltI (SL.mv (.r rfl) rfl ?_))))
 refine SL.and (c:=decide (p2<x19)) 181 4 185 rfl (fun hb k=>?_) (fun hb k=>?_) ?_
 refine SL.mv (.r rfl) rfl (SL.mv (.r rfl) rfl (SL.bin (.r rfl) rfl rfl Bin.ltI (SL.pk (.r rfl) rfl rfl ?_)))
 exact k.mono (by repeat' (first | exact trivial | refine And.intro rfl ?_))
 refine SL.pass rfl rfl rfl (SL.pass rfl rfl rfl (SL.pass rfl rfl rfl (SL.pk (.r rfl) rfl rfl ?_)))
 exact k.mono (by repeat' (first | exact trivial | refine And.intro rfl ?_))
 refine SL.nx ?_
 refine SX.cond rfl (fun hc12=>?_) (fun hc12=>?_)
 replace h:=cT hc12 h
 refine SX.region ?_
 obtain ⟨y4,hy4,h⟩:=bnd h
 refine SL.mv (.r rfl) rfl (SL.mv (.r rfl) rfl (SL.mv (.r rfl) rfl (SL.mv (.r rfl) rfl (SL.mv (.r rfl) rfl ?_))))
 refine SL.call (vs:=[_,_,_,_,_]) (Hin:=[_]) (Hr:=_) (.r rfl) rfl ⟨rfl,rfl,rfl,rfl,rfl,trivial⟩ cal169 rfl rfl (c_rot hy4) ?_
 rintro _ _ ⟨rfl,rfl⟩
 refine ⟨trivial,?_⟩
 refine SL.nil ?_
 exact SQ.midD y4 h (by repeat' (first | exact trivial | refine And.intro rfl ?_)) (fun _ hw=>HpOk.pick (H:=[_]) hw [0] 1 rfl)
 replace h:=cF hc12 h
 refine SX.skip ?_
 exact SQ.midD l6 h (by repeat' (first | exact trivial | refine And.intro rfl ?_)) (fun _ hw=>HpOk.pick (H:=[_]) hw [0] 1 rfl)
 unfold f_sym_j9 at h
 refine SX.re [(0,v0_),(1,vI p1),(3,vI p3),(4,.func (.func 50) #[] #[]),(18,vI mid_1),(20,vI a11),(24,vI x19)] (rowT 79 4 v0_ encRow l11::H) ?_ (by repeat' (first | exact trivial | refine And.intro rfl ?_))
 refine SX.meetD (α:=List RowA) (fun x=>f_sym_j10 p3 rec_ mid_1 x19 x=some r) (fun x=>[(0,v0_),(3,vI p3),(4,.func (.func 50) #[] #[]),(18,vI mid_1),(24,vI x19)]) (fun x=>rowT 79 4 v0_ encRow x::H) ?_ (fun l12 D h=>?_)
 refine SX.sr (SL.mv (.r rfl) rfl (SL.mv (.r rfl) rfl (SL.bin (.r rfl) rfl rfl Bin.ltI (SL.mv (.r rfl) rfl ?_))))
 refine SL.and (c:=decide (a11<mid_1)) 195 4 199 rfl (fun hb k=>?_) (fun hb k=>?_) ?_
 refine SL.mv (.r rfl) rfl (SL.mv (.r rfl) rfl (SL.bin (.r rfl) rfl rfl Bin.ltI (SL.pk (.r rfl) rfl rfl ?_)))
 exact k.mono (by repeat' (first | exact trivial | refine And.intro rfl ?_))
 refine SL.pass rfl rfl rfl (SL.pass rfl rfl rfl (SL.pass rfl rfl rfl (SL.pk (.r rfl) rfl rfl ?_)))
 exact k.mono (by repeat' (first | exact trivial | refine And.intro rfl ?_))
 refine SL.nx ?_
 refine SX.cond rfl (fun hc13=>?_) (fun hc13=>?_)
 replace h:=cT hc13 h
 refine SX.region ?_
 obtain ⟨y5,hy5,h⟩:=bnd h
 refine SL.mv (.r rfl) rfl (SL.mv (.r rfl) rfl (SL.mv (.r rfl) rfl (SL.mv (.r rfl) rfl (SL.mv (.r rfl) rfl ?_))))
 refine SL.call (vs:=[_,_,_,_,_]) (Hin:=[_]) (Hr:=_) (.r rfl) rfl ⟨rfl,rfl,rfl,rfl,rfl,trivial⟩ cal124 rfl rfl (hrec hy5) ?_
 rintro _ _ ⟨rfl,rfl⟩
 refine ⟨trivial,?_⟩
 refine SL.nil ?_
 exact SQ.midD y5 h (by repeat' (first | exact trivial | refine And.intro rfl ?_)) (fun _ hw=>HpOk.pick (H:=[_]) hw [0] 1 rfl)
 replace h:=cF hc13 h
 refine SX.skip ?_
 exact SQ.midD l11 h (by repeat' (first | exact trivial | refine And.intro rfl ?_)) (fun _ hw=>HpOk.pick (H:=[_]) hw [0] 1 rfl)
 unfold f_sym_j10 at h
 refine SX.re [(0,v0_),(3,vI p3),(4,.func (.func 50) #[] #[]),(18,vI mid_1),(24,vI x19)] (rowT 79 4 v0_ encRow l12::H) ?_ (by repeat' (first | exact trivial | refine And.intro rfl ?_))
 refine SX.sr (SL.mv (.r rfl) rfl (SL.mv (.r rfl) rfl (SL.bin (.r rfl) rfl rfl Bin.ltI (SL.mv (.r rfl) rfl ?_))))
 refine SL.and (c:=decide (x19<p3)) 209 4 213 rfl (fun hb k=>?_) (fun hb k=>?_) ?_
 refine SL.mv (.r rfl) rfl (SL.mv (.r rfl) rfl (SL.bin (.r rfl) rfl rfl Bin.ltI (SL.pk (.r rfl) rfl rfl ?_)))
 exact k.mono (by repeat' (first | exact trivial | refine And.intro rfl ?_))
 refine SL.pass rfl rfl rfl (SL.pass rfl rfl rfl (SL.pass rfl rfl rfl (SL.pk (.r rfl) rfl rfl ?_)))
 exact k.mono (by repeat' (first | exact trivial | refine And.intro rfl ?_))
 refine SL.nx ?_
 refine SX.cond rfl (fun hc14=>?_) (fun hc14=>?_)
 replace h:=cT hc14 h
 refine SX.region ?_
 obtain ⟨y6,hy6,h⟩:=bnd h
 refine SL.mv (.r rfl) rfl (SL.mv (.r rfl) rfl (SL.mv (.r rfl) rfl (SL.mv (.r rfl) rfl (SL.mv (.r rfl) rfl ?_))))
 refine SL.call (vs:=[_,_,_,_,_]) (Hin:=[_]) (Hr:=_) (.r rfl) rfl ⟨rfl,rfl,rfl,rfl,rfl,trivial⟩ cal124 rfl rfl (hrec hy6) ?_
 rintro _ _ ⟨rfl,rfl⟩
 refine ⟨trivial,?_⟩
 refine SL.nil ?_
 obtain rfl:=Option.some.inj h
 exact SQ.fend (res0 rfl) (ret_of (M:=[_]) ⟨rfl,rfl⟩ fun _ hw=>HpOk.pick (H:=[_]) hw [0] 1 rfl)
 replace h:=cF hc14 h
 refine SX.skip ?_
 obtain rfl:=Option.some.inj h
 exact SQ.fend (res0 rfl) (ret_of (M:=[_]) ⟨rfl,rfl⟩ fun _ hw=>HpOk.pick (H:=[_]) hw [0] 1 rfl)


end Go.Proofs.YtkibffdipniemaaGreatDoor

/- slices.symMerge of rows, tied. Condition: the plain function yields. -/
namespace Go.Proofs.YtkibffdipniemaaGreatDoor
open Go
def symF (n:Nat):Nat→List RowA→Int→Int→Int→Option (List RowA)
 | 0=>fun _ _ _ _=>none
 | f+1=>f_sym (symF n f) n
def symN (n:Nat):List RowA→Int→Int→Int→Option (List RowA):=symF n n
theorem c_symF (n:Nat):∀(f:Nat) {K:Nat→Prop} {w0:World} {H:List Chunk} {v0_:Value} {p0:List RowA} {p1 p2 p3:Int} {r:List RowA},symF n f p0 p1 p2 p3=some r→Con Tryz.prog K w0 124 [v0_,vI p1,vI p2,vI p3,.func (.func 50) #[] #[]] [rowT 79 4 v0_ encRow p0] H (fun u M=>u=.tuple #[]∧M=[rowT 79 4 v0_ encRow r])
 | 0,_,_,_,_,_,_,_,_,_,h=>by cases h
 | f+1,_,_,_,_,_,_,_,_,_,h=>c_sym h (fun h=>c_symF n f h)
theorem c_symN {K:Nat→Prop} {w0:World} {H:List Chunk} {n:Nat} {v0_:Value} {p0:List RowA} {p1 p2 p3:Int} {r:List RowA} (h:symN n p0 p1 p2 p3=some r):Con Tryz.prog K w0 124 [v0_,vI p1,vI p2,vI p3,.func (.func 50) #[] #[]] [rowT 79 4 v0_ encRow p0] H (fun u M=>u=.tuple #[]∧M=[rowT 79 4 v0_ encRow r]):=c_symF n n h
end Go.Proofs.YtkibffdipniemaaGreatDoor

/- Plain functions of the references and the laws, printed from the loaded program, and the walks that show that the program computes them. Condition: the plain function yields. -/
namespace Go.Proofs.YtkibffdipniemaaGreatDoor
open Go
variable {K:Nat→Prop} {w0:World} {H:List Chunk}

def f_stb_j3 (a4:Int) (nx_f_stb_l2:List RowA×Int→Option (List RowA)) (l6:List RowA):Option (List RowA):=
 ret (wI (a4*2)) fun blockSize_1=>
 nx_f_stb_l2 (l6,blockSize_1)
def f_stb_j2 (n:Nat) (p1:Int) (a4:Int) (nx_f_stb_l2:List RowA×Int→Option (List RowA)) (l4:List RowA) (a5:Int):Option (List RowA):=
 ret (wI (a5+a4)) fun x4=>
 cond (decide (x4<p1))
 (
  (symN n l4 a5 x4 p1).bind fun y4=>
  f_stb_j3 a4 nx_f_stb_l2 y4)
 (
  f_stb_j3 a4 nx_f_stb_l2 l4)
def f_stb_l3_b (n:Nat) (p1:Int) (a4:Int) (nx_f_stb_l2:List RowA×Int→Option (List RowA)) (nx_f_stb_l3:List RowA×Int×Int→Option (List RowA)) (l5:List RowA) (a6:Int) (a7:Int):Option (List RowA):=
 cond (decide (a7≤p1))
 (
  (symN n l5 a6 (wI (a6+a4)) a7).bind fun y3=>
  ret (wI (a7+(wI (2*a4)))) fun x3=>
  nx_f_stb_l3 (y3,a7,x3))
 (
  f_stb_j2 n p1 a4 nx_f_stb_l2 l5 a6)
def f_stb_l3 (n:Nat) (p1:Int) (a4:Int) (nx_f_stb_l2:List RowA×Int→Option (List RowA)):Nat→(List RowA×Int×Int)→Option (List RowA):=loopN fun nx x=>f_stb_l3_b n p1 a4 nx_f_stb_l2 nx x.1 x.2.1 x.2.2
def f_stb_l2_b (n:Nat) (p1:Int) (nx_f_stb_l2:List RowA×Int→Option (List RowA)) (l3:List RowA) (a4:Int):Option (List RowA):=
 cond (decide (a4<p1))
 (
  ret (wI (2*a4)) fun x2=>
  f_stb_l3 n p1 a4 nx_f_stb_l2 n (l3,0,x2))
 (
  some l3)
def f_stb_l2 (n:Nat) (p1:Int):Nat→(List RowA×Int)→Option (List RowA):=loopN fun nx x=>f_stb_l2_b n p1 nx x.1 x.2
def f_stb_j1 (n:Nat) (p1:Int) (l1:List RowA) (a1:Int):Option (List RowA):=
 (f_ins n l1 a1 p1).bind fun y2=>
 f_stb_l2 n p1 n (y2,20)
def f_stb_l1_b (n:Nat) (p1:Int) (nx_f_stb_l1:List RowA×Int×Int→Option (List RowA)) (l2:List RowA) (a2:Int) (a3:Int):Option (List RowA):=
 cond (decide (a3≤p1))
 (
  (f_ins n l2 a2 a3).bind fun y1=>
  ret (wI (a3+20)) fun x1=>
  nx_f_stb_l1 (y1,a3,x1))
 (
  f_stb_j1 n p1 l2 a2)
def f_stb_l1 (n:Nat) (p1:Int):Nat→(List RowA×Int×Int)→Option (List RowA):=loopN fun nx x=>f_stb_l1_b n p1 nx x.1 x.2.1 x.2.2
def f_stb (n:Nat) (p0:List RowA) (p1:Int):Option (List RowA):=
 f_stb_l1 n p1 n (p0,0,20)
set_option maxHeartbeats 4000000 in
set_option maxRecDepth 100000 in
theorem c_stb {n:Nat} {v0_:Value} {p0:List RowA} {p1:Int} {r:List RowA} (h:f_stb n p0 p1=some r)  : Con Tryz.prog K w0 83 [v0_,vI p1,.func (.func 50) #[] #[]] [rowT 79 4 v0_ encRow p0] H (fun u M=>u=.tuple #[]∧M=[rowT 79 4 v0_ encRow r]):=by
 unfold f_stb at h
 refine Con.enter Tryz.func83 rfl rfl ?_
 refine SX.sr (SL.asg (.r rfl) rfl (SL.nx (SX.sr (SL.mv (.r rfl) rfl (SL.asg (.r rfl) rfl (SL.asg (.r rfl) rfl (SL.nx ?_)))))))
 refine SX.meetD (α:=List RowA×Int) (fun x=>f_stb_j1 n p1 x.1 x.2=some r) (fun x=>[(0,v0_),(1,vI p1),(2,.func (.func 50) #[] #[]),(6,vI 20),(7,vI x.2)]) (fun x=>rowT 79 4 v0_ encRow x.1::H) ?_ (fun x D h=>?_)
 refine SX.block ?_
 refine SX.heap (SX.mono (SX.loop (α:=Nat×List RowA×Int×Int) (fun x=>f_stb_l1 n p1 x.1 (x.2.1,x.2.2.1,x.2.2.2)=some r) (fun x=>[(0,v0_),(1,vI p1),(2,.func (.func 50) #[] #[]),(6,vI 20),(7,vI x.2.2.1),(8,vI x.2.2.2)]) (fun x=>rowT 79 4 v0_ encRow x.2.1::H) (fun x=>x.1) (fun x D h=>?_) (n,p0,0,20) h) (by repeat' (first | exact trivial | refine And.intro rfl ?_))) (fun _ hw=>HpOk.pick (H:=[_]) hw [0] 1 rfl)
 obtain ⟨m1,l2,a2,a3⟩:=x
 dsimp only at h
 rcases m1 with _ | m1
 cases (show (none:Option _)=some r from h)
 replace h:f_stb_l1_b n p1 (f_stb_l1 n p1 m1) l2 a2 a3=some r:=h
 unfold f_stb_l1_b at h
 refine SX.re [(0,v0_),(1,vI p1),(2,.func (.func 50) #[] #[]),(6,vI 20),(7,vI a2),(8,vI a3)] (rowT 79 4 v0_ encRow l2::H) ?_ (by repeat' (first | exact trivial | refine And.intro rfl ?_))
 refine SX.seq (SX.sr (SL.mv (.r rfl) rfl (SL.mv (.r rfl) rfl (SL.bin (.r rfl) rfl rfl Bin.leI (SL.nx ?_)))))
 refine SX.cond rfl (fun hc1=>?_) (fun hc1=>?_)
 replace h:=cT hc1 h
 refine SX.skip (SQ.thn (SX.block (SX.sr ?_)))
 obtain ⟨y1,hy1,h⟩:=bnd h
 refine SL.mv (.r rfl) rfl (SL.mv (.r rfl) rfl (SL.mv (.r rfl) rfl (SL.mv (.r rfl) rfl ?_)))
 refine SL.call (vs:=[_,_,_,_]) (Hin:=[_]) (Hr:=_) (.r rfl) rfl ⟨rfl,rfl,rfl,rfl,trivial⟩ cal123 rfl rfl (c_ins hy1) ?_
 rintro _ _ ⟨rfl,rfl⟩
 refine ⟨trivial,?_⟩
 refine SL.nx (SX.sr (SL.mv (.r rfl) rfl (SL.asg (.r rfl) rfl (SL.nx (SX.region ?_)))))
 obtain ⟨x1,ex1,h⟩:=retE h
 refine SL.mv (.r rfl) rfl (SL.mv (.r rfl) rfl (SL.bin (.r rfl) rfl rfl Bin.addW ?_))
 refine SL.asgX (u:=vI x1) (.r rfl) rfl (congrArg vI ex1) ?_
 refine SL.nil (SQ.blk ?_)
 exact SQ.again (m1,y1,a3,x1) h (Nat.lt_succ_self _) (by repeat' (first | exact trivial | refine And.intro rfl ?_)) (fun _ hw=>HpOk.pick (H:=[_]) hw [0] 1 rfl)
 replace h:=cF hc1 h
 refine SX.exit (SQ.thnE (SQ.lpE (SQ.blkE ?_)))
 exact SQ.midD (l2,a2) h (by repeat' (first | exact trivial | refine And.intro rfl ?_)) (fun _ hw=>HpOk.pick (H:=[_]) hw [0] 1 rfl)
 obtain ⟨l1,a1⟩:=x
 dsimp only at h
 unfold f_stb_j1 at h
 refine SX.re [(0,v0_),(1,vI p1),(2,.func (.func 50) #[] #[]),(6,vI 20),(7,vI a1)] (rowT 79 4 v0_ encRow l1::H) ?_ (by repeat' (first | exact trivial | refine And.intro rfl ?_))
 refine SX.sr ?_
 obtain ⟨y2,hy2,h⟩:=bnd h
 refine SL.mv (.r rfl) rfl (SL.mv (.r rfl) rfl (SL.mv (.r rfl) rfl (SL.mv (.r rfl) rfl ?_)))
 refine SL.call (vs:=[_,_,_,_]) (Hin:=[_]) (Hr:=_) (.r rfl) rfl ⟨rfl,rfl,rfl,rfl,trivial⟩ cal123 rfl rfl (c_ins hy2) ?_
 rintro _ _ ⟨rfl,rfl⟩
 refine ⟨trivial,?_⟩
 refine SL.nx (SX.block ?_)
 refine SX.heap (SX.mono (SX.loop (α:=Nat×List RowA×Int) (fun x=>f_stb_l2 n p1 x.1 (x.2.1,x.2.2)=some r) (fun x=>[(0,v0_),(1,vI p1),(2,.func (.func 50) #[] #[]),(6,vI x.2.2)]) (fun x=>rowT 79 4 v0_ encRow x.2.1::H) (fun x=>x.1) (fun x D h=>?_) (n,y2,20) h) (by repeat' (first | exact trivial | refine And.intro rfl ?_))) (fun _ hw=>HpOk.pick (H:=[_]) hw [0] 1 rfl)
 obtain ⟨m2,l3,a4⟩:=x
 dsimp only at h
 rcases m2 with _ | m2
 cases (show (none:Option _)=some r from h)
 replace h:f_stb_l2_b n p1 (f_stb_l2 n p1 m2) l3 a4=some r:=h
 unfold f_stb_l2_b at h
 refine SX.re [(0,v0_),(1,vI p1),(2,.func (.func 50) #[] #[]),(6,vI a4)] (rowT 79 4 v0_ encRow l3::H) ?_ (by repeat' (first | exact trivial | refine And.intro rfl ?_))
 refine SX.seq (SX.sr (SL.mv (.r rfl) rfl (SL.mv (.r rfl) rfl (SL.bin (.r rfl) rfl rfl Bin.ltI (SL.nx ?_)))))
 refine SX.cond rfl (fun hc2=>?_) (fun hc2=>?_)
 replace h:=cT hc2 h
 refine SX.skip (SQ.thn (SX.block (SX.sr ?_)))
 obtain ⟨x2,ex2,h⟩:=retE h
 refine SL.mv (.r rfl) rfl (SL.bin (.r rfl) rfl rfl Bin.mulW (SL.asg (.r rfl) rfl ?_))
 refine SL.asgX (u:=vI x2) (.r rfl) rfl (congrArg vI ex2) ?_
 refine SL.nx ?_
 refine SX.meetD (α:=List RowA×Int) (fun x=>f_stb_j2 n p1 a4 (f_stb_l2 n p1 m2) x.1 x.2=some r) (fun x=>[(0,v0_),(1,vI p1),(2,.func (.func 50) #[] #[]),(6,vI a4),(7,vI x.2)]) (fun x=>rowT 79 4 v0_ encRow x.1::H) ?_ (fun x D h=>?_)
 refine SX.block ?_
 refine SX.heap (SX.mono (SX.loop (α:=Nat×List RowA×Int×Int) (fun x=>f_stb_l3 n p1 a4 (f_stb_l2 n p1 m2) x.1 (x.2.1,x.2.2.1,x.2.2.2)=some r) (fun x=>[(0,v0_),(1,vI p1),(2,.func (.func 50) #[] #[]),(6,vI a4),(7,vI x.2.2.1),(8,vI x.2.2.2)]) (fun x=>rowT 79 4 v0_ encRow x.2.1::H) (fun x=>x.1) (fun x D h=>?_) (n,l3,0,x2) h) (by repeat' (first | exact trivial | refine And.intro rfl ?_))) (fun _ hw=>HpOk.pick (H:=[_]) hw [0] 1 rfl)
 obtain ⟨m3,l5,a6,a7⟩:=x
 dsimp only at h
 rcases m3 with _ | m3
 cases (show (none:Option _)=some r from h)
 replace h:f_stb_l3_b n p1 a4 (f_stb_l2 n p1 m2) (f_stb_l3 n p1 a4 (f_stb_l2 n p1 m2) m3) l5 a6 a7=some r:=h
 unfold f_stb_l3_b at h
 refine SX.re [(0,v0_),(1,vI p1),(2,.func (.func 50) #[] #[]),(6,vI a4),(7,vI a6),(8,vI a7)] (rowT 79 4 v0_ encRow l5::H) ?_ (by repeat' (first | exact trivial | refine And.intro rfl ?_))
 refine SX.seq (SX.sr (SL.mv (.r rfl) rfl (SL.mv (.r rfl) rfl (SL.bin (.r rfl) rfl rfl Bin.leI (SL.nx ?_)))))
 refine SX.cond rfl (fun hc3=>?_) (fun hc3=>?_)
 replace h:=cT hc3 h
 refine SX.skip (SQ.thn (SX.block (SX.sr ?_)))
 obtain ⟨y3,hy3,h⟩:=bnd h
 refine SL.mv (.r rfl) rfl (SL.mv (.r rfl) rfl (SL.mv (.r rfl) rfl (SL.mv (.r rfl) rfl (SL.bin (.r rfl) rfl rfl Bin.addW (SL.mv (.r rfl) rfl (SL.mv (.r rfl) rfl ?_))))))
 refine SL.call (vs:=[_,_,_,_,_]) (Hin:=[_]) (Hr:=_) (.r rfl) rfl ⟨rfl,rfl,rfl,rfl,rfl,trivial⟩ cal124 rfl rfl (c_symN hy3) ?_
 rintro _ _ ⟨rfl,rfl⟩
 refine ⟨trivial,?_⟩
 refine SL.nx (SX.sr (SL.mv (.r rfl) rfl (SL.asg (.r rfl) rfl (SL.nx (SX.region ?_)))))
 obtain ⟨x3,ex3,h⟩:=retE h
 refine SL.mv (.r rfl) rfl (SL.mv (.r rfl) rfl (SL.bin (.r rfl) rfl rfl Bin.mulW (SL.bin (.r rfl) rfl rfl Bin.addW ?_)))
 refine SL.asgX (u:=vI x3) (.r rfl) rfl (congrArg vI ex3) ?_
 refine SL.nil (SQ.blk ?_)
 exact SQ.again (m3,y3,a7,x3) h (Nat.lt_succ_self _) (by repeat' (first | exact trivial | refine And.intro rfl ?_)) (fun _ hw=>HpOk.pick (H:=[_]) hw [0] 1 rfl)
 replace h:=cF hc3 h
 refine SX.exit (SQ.thnE (SQ.lpE (SQ.blkE ?_)))
 exact SQ.midD (l5,a6) h (by repeat' (first | exact trivial | refine And.intro rfl ?_)) (fun _ hw=>HpOk.pick (H:=[_]) hw [0] 1 rfl)
 obtain ⟨l4,a5⟩:=x
 dsimp only at h
 unfold f_stb_j2 at h
 refine SX.re [(0,v0_),(1,vI p1),(2,.func (.func 50) #[] #[]),(6,vI a4),(7,vI a5)] (rowT 79 4 v0_ encRow l4::H) ?_ (by repeat' (first | exact trivial | refine And.intro rfl ?_))
 refine SX.meetD (α:=List RowA) (fun x=>f_stb_j3 a4 (f_stb_l2 n p1 m2) x=some r) (fun x=>[(0,v0_),(1,vI p1),(2,.func (.func 50) #[] #[]),(6,vI a4)]) (fun x=>rowT 79 4 v0_ encRow x::H) ?_ (fun l6 D h=>?_)
 refine SX.sr ?_
 obtain ⟨x4,ex4,h⟩:=retE h
 refine SL.mv (.r rfl) rfl (SL.mv (.r rfl) rfl (SL.bin (.r rfl) rfl rfl Bin.addW ?_))
 refine SL.asgX (u:=vI x4) (.r rfl) rfl (congrArg vI ex4) ?_
 refine SL.nx (SX.sr (SL.mv (.r rfl) rfl (SL.mv (.r rfl) rfl (SL.bin (.r rfl) rfl rfl Bin.ltI (SL.nx ?_)))))
 refine SX.cond rfl (fun hc4=>?_) (fun hc4=>?_)
 replace h:=cT hc4 h
 refine SX.region ?_
 obtain ⟨y4,hy4,h⟩:=bnd h
 refine SL.mv (.r rfl) rfl (SL.mv (.r rfl) rfl (SL.mv (.r rfl) rfl (SL.mv (.r rfl) rfl (SL.mv (.r rfl) rfl ?_))))
 refine SL.call (vs:=[_,_,_,_,_]) (Hin:=[_]) (Hr:=_) (.r rfl) rfl ⟨rfl,rfl,rfl,rfl,rfl,trivial⟩ cal124 rfl rfl (c_symN hy4) ?_
 rintro _ _ ⟨rfl,rfl⟩
 refine ⟨trivial,?_⟩
 refine SL.nil ?_
 exact SQ.midD y4 h (by repeat' (first | exact trivial | refine And.intro rfl ?_)) (fun _ hw=>HpOk.pick (H:=[_]) hw [0] 1 rfl)
 replace h:=cF hc4 h
 refine SX.skip ?_
 exact SQ.midD l4 h (by repeat' (first | exact trivial | refine And.intro rfl ?_)) (fun _ hw=>HpOk.pick (H:=[_]) hw [0] 1 rfl)
 unfold f_stb_j3 at h
 refine SX.re [(0,v0_),(1,vI p1),(2,.func (.func 50) #[] #[]),(6,vI a4)] (rowT 79 4 v0_ encRow l6::H) ?_ (by repeat' (first | exact trivial | refine And.intro rfl ?_))
 refine SX.region ?_
 obtain ⟨blockSize_1,eblockSize_1,h⟩:=retE h
 refine SL.mv (.r rfl) rfl (SL.bin (.r rfl) rfl rfl Bin.mulW ?_)
 refine SL.asgX (u:=vI blockSize_1) (.r rfl) rfl (congrArg vI eblockSize_1) ?_
 refine SL.nil (SQ.blk ?_)
 exact SQ.again (m2,l6,blockSize_1) h (Nat.lt_succ_self _) (by repeat' (first | exact trivial | refine And.intro rfl ?_)) (fun _ hw=>HpOk.pick (H:=[_]) hw [0] 1 rfl)
 replace h:=cF hc2 h
 refine SX.exit (SQ.thnE (SQ.lpE (SQ.blkE ?_)))
 obtain rfl:=Option.some.inj h
 exact SQ.fend (res0 rfl) (ret_of (M:=[_]) ⟨rfl,rfl⟩ fun _ hw=>HpOk.pick (H:=[_]) hw [0] 1 rfl)

def f_sst (n:Nat) (p0:List RowA):Option (List RowA):=
 (f_stb n p0 (p0.length:Int)).bind fun y1=>
 some y1
set_option maxRecDepth 100000 in
theorem c_sst {n:Nat} {v0_:Value} {p0:List RowA} {r:List RowA} (h:f_sst n p0=some r)  : Con Tryz.prog K w0 49 [v0_,.func (.func 50) #[] #[]] [rowT 79 4 v0_ encRow p0] H (fun u M=>u=.tuple #[]∧M=[rowT 79 4 v0_ encRow r]):=by
 unfold f_sst at h
 refine Con.enter Tryz.func49 rfl rfl ?_
 refine SX.region ?_
 obtain ⟨y1,hy1,h⟩:=bnd h
 refine SL.mv (.r rfl) rfl (SL.mv (.r rfl) rfl (SL.lenT 0 (.r rfl) ty35 rfl rfl (SL.mv (.r rfl) rfl ?_)))
 refine SL.call (vs:=[_,_,_]) (Hin:=[_]) (Hr:=_) (.r rfl) rfl ⟨rfl,rfl,rfl,trivial⟩ cal83 rfl rfl (c_stb hy1) ?_
 rintro _ _ ⟨rfl,rfl⟩
 refine ⟨trivial,?_⟩
 refine SL.nil ?_
 obtain rfl:=Option.some.inj h
 exact SQ.fend (res0 rfl) (ret_of (M:=[_]) ⟨rfl,rfl⟩ fun _ hw=>HpOk.pick (H:=[_]) hw [0] 1 rfl)


end Go.Proofs.YtkibffdipniemaaGreatDoor

/- Where grove.Save puts a page: where it is there, or a block of the vault's. Condition: the plain functions yield. -/
namespace Go.Proofs.YtkibffdipniemaaGreatDoor
open Go
variable {K:Nat→Prop} {w0:World} {H:List Chunk}

abbrev KeyS:={s:List UInt8 // s.length≤1048576}
def keyS (s:List UInt8):Option KeyS:=if h:s.length≤1048576 then some ⟨s,h⟩ else none
theorem keyS_some {s:List UInt8} {k:KeyS} (h:keyS s=some k):k.1=s:=by
 unfold keyS at h
 split at h
 rw [←Option.some.inj h]
 cases h
def eKeyS (k:KeyS):Value:=vS k.1
theorem string_key {P:Program} {k:TypeId} (hk:P.underlying k=some .string) (a:KeyS):∃l,keyOf P k (eKeyS a)=some l:=by
 refine ⟨.string a.1,?_⟩
 have:=a.2
 simp [keyOf,hk,mapKey,vS,eKeyS]
 show a.1.length≤maxLen
 simp [maxLen]
 omega
def eRefV (r:RefA):Value:=.agg (encRef r).toArray
theorem MapE.strRef {P:Program} {k:TypeId} (hk:P.underlying k=some .string):MapE P k eKeyS eRefV:=
 ⟨Maps.string_keyed hk,string_key hk,⟨fun v=>match v with | .string b=>keyS b.data.toList | _=>none,fun x=>by
  show keyS x.1=some x
  unfold keyS
  rw [dif_pos x.2]⟩,⟨fun v=>match v with | .agg a=>(match a.toList with | [.int _ p,.string b]=>some ⟨UInt32.ofNat p.toNat,b.data.toList⟩ | _=>none) | _=>none,fun x=>by
  cases x
  simp [eRefV,encRef,vU32,vS]⟩⟩
structure VltB where
 b:Nat
 rv:Value
 mt:Nat
 d:Nat
 bv:Value
 mp:Nat
 mb:Nat
abbrev vltO (B:VltB) (v:VltA) (d:DevA):List Chunk:=
 [own B.b (.cells #[vP B.d 0,B.rv,vU32 v.gen,vU32 v.boot,vU64 v.seals,.map (some B.mt)] 96),rowT 138 2 B.rv encKey v.ring,mapC B.mt vU32 vB v.taken,own B.d (.cells #[vB d.off,vB d.isCut,vI d.lasts,vI d.counts,B.bv,.map (some B.mp),.map (some B.mb),vU64 d.rcnt,vS d.rtag,vU32 d.rboots] 130),rowT 9 1 B.bv eS d.blocks,mapC B.mp vU32 vS d.pend,mapC B.mb vU32 vB d.bad]
structure SvA where
 tk:List UInt32
 v:VltA
 d:DevA
abbrev savC (bt bm bv bk:Nat) (B:VltB) (th:List (KeyS×RefA)) (a:Value) (q:SvA):List Chunk:=
 own bt (.cells #[.map (some bm)] 116)::mapC bm eKeyS eRefV th::own bv (.cells #[vP B.b 0] 24)::own bk (.cells #[a] 113)::rowT 29 1 a eU32 q.tk::vltO B q.v q.d
def savWh (T:List UInt32) (th:List (KeyS×RefA)):WhO SvA:=fun q s=>
 (keyS s).bind fun k=>cond (mget th k).isSome (some (((mget th k).getD ⟨0,[]⟩,0),q))
  ((f_vv_Write T q.v q.d s).bind fun y=>cond (decide (y.2.1=0)) ((appL 4 q.tk [y.1.page]).bind fun l=>some ((y.1,y.2.1),⟨l,y.2.2.1,y.2.2.2⟩)) (some ((y.1,y.2.1),⟨q.tk,y.2.2.1,y.2.2.2⟩)))
set_option maxHeartbeats 4000000 in
set_option maxRecDepth 100000 in
theorem c_save1 {T:List UInt32} {bt bm bv bk:Nat} {B:VltB} {th:List (KeyS×RefA)}:WhCon T 58 #[vP bt 0,vP bv 0,vP bk 0] (savC bt bm bv bk B th) (savWh T th):=by
 intro K w0 H a q s r hS h
 unfold savWh at h
 obtain ⟨k,hk,h⟩:=bnd h
 have hks:=keyS_some hk
 refine Con.enter Tryz.func58 rfl rfl ?_
 show SX _ _ _ _ _ _ _ _ _ (savC bt bm bv bk B th a q++H)
 refine SX.sr ?_
 refine SL.alloc (.r rfl) ze31 (fun _=>trivial) fun b0=>?_
 refine SL.asg (.r rfl) rfl (SL.nx (SX.seq (SX.sr (SL.ld (.r rfl) sc116 rfl (cell_own 1 rfl rfl) (SL.mv (.r rfl) rfl ?_)))))
 refine SL.lkpOk (zv:=(⟨0,[]⟩:RefA)) 2 (MapE.strRef ty9) (.r rfl) ty116 ze31 rfl (by rw [←hks];rfl) rfl ?_
 refine SL.mv (.r rfl) rfl (SL.ext (.r rfl) rfl rfl (SL.ext (.r rfl) rfl rfl ?_))
 refine SL.alloc (.r rfl) ze31 (fun _=>trivial) fun b1=>?_
 refine SL.st 0 ⟨rfl,rfl,rfl⟩ rfl rfl rfl sz31 rfl rfl rfl trivial (SL.reAt 0 (own b1 (.cells #[vU32 ((mget th k).getD ⟨0,[]⟩).page,vS ((mget th k).getD ⟨0,[]⟩).tag] 31)) (SL.asg (.r rfl) rfl (SL.nx (SX.sr (SL.mv (.r rfl) rfl (SL.nx ?_))))))
 refine SX.cond rfl (fun hc1=>?_) (fun hc1=>?_)
 replace h:=cT hc1 h
 obtain rfl:=Option.some.inj h
 refine SX.sr (SL.ldA (encRef ((mget th k).getD ⟨0,[]⟩)) (.r rfl) ag31 rfl rfl (cells_all 0 rfl) (SL.st 1 ⟨rfl,rfl,rfl⟩ rfl rfl rfl sz31 rfl rfl rfl trivial (SL.asg (.r rfl) rfl (SL.nx (SX.ret (SQ.thnR ?_))))))
 exact SQ.fret (resv2 rfl (resv.ag 1 (encRef ((mget th k).getD ⟨0,[]⟩)) ag31 rfl rfl rfl rfl) rfl) (ret_of (M:=savC bt bm bv bk B th a q) ⟨rfl,a,rfl⟩ fun _ hw=>HpOk.pick (H:=[_,_]) hw [] 2 rfl)
 replace h:=cF hc1 h
 obtain ⟨y,hy,h⟩:=bnd h
 refine SX.skip (SQ.thn (SX.sr (SL.ld (.r rfl) sc24 rfl (cell_own 4 rfl rfl) (SL.mv (.r rfl) rfl ?_))))
 refine SL.heap (H':=vltO B q.v q.d++([_,_,_,_,_,_,_]++H)) ?_ (fun _ hw=>HpOk.rotN (A:=[_,_,_,_,_,_,_]) (B:=vltO B q.v q.d) (R:=H) hw)
 have hcon:=c_vv_Write (K:=K) (w0:=w0) (H:=([own b1 (.cells #[vU32 ((mget th k).getD ⟨0,[]⟩).page,vS ((mget th k).getD ⟨0,[]⟩).tag] 31),own b0 (.cells #[vU32 0,vS []] 31),own bt (.cells #[.map (some bm)] 116),mapC bm eKeyS eRefV th,own bv (.cells #[vP B.b 0] 24),own bk (.cells #[a] 113),rowT 29 1 a eU32 q.tk]++H)++[marks []]) (b0_:=B.b) (v0x1_:=B.rv) (m0x5_:=B.mt) (b0x0_:=B.d) (v0x0x4_:=B.bv) (m0x0x5_:=B.mp) (m0x0x6_:=B.mb) hy hS
 refine SL.call (vs:=[_,_]) (Hin:=vltO B q.v q.d) (Hr:=[_,_,_,_,_,_,_]++H) (.r rfl) rfl ⟨rfl,rfl,trivial⟩ cal13 rfl rfl hcon ?_
 rintro _ _ ⟨rfl,rfl⟩
 refine ⟨trivial,?_⟩
 refine SL.heap (H':=[_,_,_,_,_,_,_]++(vltO B y.2.2.1 y.2.2.2++H)) ?_ (fun _ hw=>HpOk.rotN (A:=vltO B y.2.2.1 y.2.2.2) (B:=[_,_,_,_,_,_,_]) (R:=H) hw)
 refine SL.mv (.r rfl) rfl (SL.ext (.r rfl) rfl rfl (SL.ext (.r rfl) rfl rfl ?_))
 refine SL.alloc (.r rfl) ze31 (fun _=>trivial) fun b2=>?_
 refine SL.st 0 ⟨rfl,rfl,rfl⟩ rfl rfl rfl sz31 rfl rfl rfl trivial (SL.reAt 0 (own b2 (.cells #[vU32 y.1.page,vS y.1.tag] 31)) (SL.asg (.r rfl) rfl (SL.nx ?_)))
 refine SX.meetD (α:=List UInt32×Value) (fun w=>some ((y.1,y.2.1),(⟨w.1,y.2.2.1,y.2.2.2⟩:SvA))=some r) (fun w=>[(9,vP b2 0),(10,vI y.2.1),(5,vP b0 0)])
  (fun w=>own b2 (.cells #[vU32 y.1.page,vS y.1.tag] 31)::own b0 (.cells #[vU32 0,vS []] 31)::(savC bt bm bv bk B th w.2 ⟨w.1,y.2.2.1,y.2.2.2⟩++H)) ?_ (fun w D h=>?_)
 refine SX.sr (SL.mv (.r rfl) rfl (SL.bin (.r rfl) rfl rfl Bin.eqI (SL.nx ?_)))
 refine SX.cond rfl (fun hc2=>?_) (fun hc2=>?_)
 replace h:=cT hc2 h
 obtain ⟨l,hl,h⟩:=bnd h
 refine SX.region (SL.ld (.r rfl) sc113 rfl (cell_own 6 rfl rfl) (SL.fa (.r rfl) rfl fo31_0 (SL.ld (.r rfl) sc29 rfl (cell_own 0 rfl rfl) ?_)))
 refine SL.bsl [_] (.r rfl) ty113 sz29 ze29 ⟨rfl,trivial⟩ rfl rfl rfl (by first | (simp [Value.cells];done) | (intro v hv;simp only [List.mem_cons,List.not_mem_nil,or_false] at hv;rcases hv with rfl<;>rfl)) rfl rfl (fun _=>trivial) fun b3=>?_
 refine SL.ownT eU32 1 ([y.1.page]:List UInt32) rfl (fun _=>rfl) rfl ?_
 refine SL.appT 8 hl (sz:=1) (enc:=eU32) (fun _=>rfl) (.r rfl) ty113 sz29 by29 ze29 rfl (by decide) rfl rfl rfl rfl (cells_rowA (sz:=1) (enc:=eU32) 0 (fun _=>rfl) rfl) (by simp [eU32,Value.oneCell']) (fun _=>trivial) fun v3=>?_
 refine SL.rowV 8 rfl fun hv3 ho3=>?_
 refine SL.stR 7 ⟨rfl,rfl,rfl⟩ rfl rfl rfl sz113 hv3 ho3 rfl trivial (SL.nil ?_)
 exact SQ.midD (l,v3) h (by repeat' (first | exact trivial | refine And.intro rfl ?_)) (fun _ hw=>HpOk.pick (H:=[_,_,_,_,_,_,_,_,_]) hw [1,3,4,5,6,7,8] 9 rfl)
 replace h:=cF hc2 h
 refine SX.skip ?_
 exact SQ.midD (q.tk,a) h (by repeat' (first | exact trivial | refine And.intro rfl ?_)) (fun _ hw=>HpOk.pick (H:=[_,_,_,_,_,_,_,_]) hw [0,2,3,4,5,6,7] 8 rfl)
 obtain ⟨l,v3⟩:=w
 obtain rfl:=Option.some.inj h
 dsimp only
 refine SX.sr (SL.ldA (encRef y.1) (.r rfl) ag31 rfl rfl (cells_all 0 rfl) (SL.mv (.r rfl) rfl (SL.st 1 ⟨rfl,rfl,rfl⟩ rfl rfl rfl sz31 rfl rfl rfl trivial (SL.asg (.r rfl) rfl (SL.nx (SX.ret ?_))))))
 exact SQ.fret (resv2 rfl (resv.ag 1 (encRef y.1) ag31 rfl rfl rfl rfl) rfl) (ret_of (M:=savC bt bm bv bk B th v3 ⟨l,y.2.2.1,y.2.2.2⟩) ⟨rfl,v3,rfl⟩ fun _ hw=>HpOk.pick (H:=[_,_]) hw [] 2 rfl)
end Go.Proofs.YtkibffdipniemaaGreatDoor

/- grove.Save. Condition: the plain function yields. -/
namespace Go.Proofs.YtkibffdipniemaaGreatDoor
open Go
variable {K:Nat→Prop} {w0:World} {H:List Chunk}

def thereB:List (Int×SavedA)→List (KeyS×RefA)→Option (List (KeyS×RefA))
 | [],m=>some m
 | s::l,m=>(keyS s.2.txt).bind fun k=>(mputI m k ⟨s.2.page,s.2.tag⟩).bind fun m'=>thereB l m'
def giveF:List UInt32→VltA→DevA→Option VltA
 | [],v,_=>some v
 | x::l,v,d=>(f_vv_Give v d x).bind fun y=>giveF l y.2 d
def saveE (y:RefA×(PlA×SvA)):Option (List SavedA×Int×VltA×DevA):=
 cond (!decide (y.2.1.wrong=0)) (if 1048576<y.2.2.tk.length then none else (giveF y.2.2.tk y.2.2.v y.2.2.d).bind fun v'=>some ([],y.2.1.wrong,v',y.2.2.d)) (some (y.2.1.out,0,y.2.2.v,y.2.2.d))
def saveF (n:Nat) (T:List UInt32) (p0:VltA) (p0_1:DevA) (p1:List RowA) (p2:List SavedA):Option (List SavedA×Int×VltA×DevA):=
 (buildF n p1).bind fun b=>cond (!decide (b.2=0)) (some ([],b.2,p0,p0_1))
  (if 1048576<p2.length then none else (thereB (backL p2) []).bind fun th=>(plNode n (savWh T th) n b.1 ⟨[],0⟩ ⟨[],p0,p0_1⟩).bind saveE)
set_option maxHeartbeats 16000000 in
set_option maxRecDepth 100000 in
theorem w_save {n:Nat} {T:List UInt32} {b0_:Nat} {v0x1_:Value} {m0x5_:Nat} {b0x0_:Nat} {v0x0x4_:Value} {m0x0x5_:Nat} {m0x0x6_:Nat} {p0:VltA} {p0_1:DevA} {v1_ v2_:Value} {p1:List RowA} {p2:List SavedA} {r:List SavedA×Int×VltA×DevA} (h:saveF n T p0 p0_1 p1 p2=some r) (hS:ShaT K w0 T) (hs1_:SlOf K w0 encRow 4 v1_ p1) (hs2_:SlOf K w0 encSaved 3 v2_ p2):
  Con Tryz.prog K w0 19 [vP b0_ 0,v1_,v2_] (vltO ⟨b0_,v0x1_,m0x5_,b0x0_,v0x0x4_,m0x0x5_,m0x0x6_⟩ p0 p0_1) H (fun u M=>∃v0:Value,u=.tuple #[v0,vI r.2.1]∧M=rowT 72 3 v0 encSaved r.1::vltO ⟨b0_,v0x1_,m0x5_,b0x0_,v0x0x4_,m0x0x5_,m0x0x6_⟩ r.2.2.1 r.2.2.2):=by
 unfold saveF at h
 obtain ⟨b,hb,h⟩:=bnd h
 refine Con.enter Tryz.func19 rfl rfl ?_
 show SX _ _ _ _ _ _ _ _ _ (vltO ⟨b0_,v0x1_,m0x5_,b0x0_,v0x0x4_,m0x0x5_,m0x0x6_⟩ p0 p0_1++H)
 refine SX.sr ?_
 refine SL.box (.r rfl) rfl (fun _=>trivial) fun b0=>?_
 refine SL.asg (.r rfl) rfl (SL.asg (.r rfl) rfl (SL.nx (SX.seq (SX.sr (SL.ld (.r rfl) sc24 rfl (cell_own 0 rfl rfl) (SL.eqPN (.r rfl) ty24 rfl rfl (SL.nx (SX.condF rfl (SX.skip (SQ.thn (SX.sr (SL.mv (.r rfl) rfl ?_))))))))))))
 refine SL.call (vs:=[_]) (Hin:=[]) (Hr:=_::(vltO ⟨b0_,v0x1_,m0x5_,b0x0_,v0x0x4_,m0x0x5_,m0x0x6_⟩ p0 p0_1++H)) (.r rfl) rfl ⟨rfl,trivial⟩ cal25 rfl rfl (w_build hb hs1_) ?_
 rintro _ _ ⟨nv,L,rfl,hnz,rfl⟩
 refine ⟨trivial,?_⟩
 refine SL.mv (.r rfl) rfl (SL.ext (.r rfl) rfl rfl (SL.ext (.r rfl) rfl rfl ?_))
 refine SL.alloc (.r rfl) ze57 (fun _=>trivial) fun b1=>?_
 refine SL.st 0 ⟨rfl,rfl,rfl⟩ rfl rfl rfl sz57 rfl (List.all_eq_true.2 (oneNode nv)) rfl trivial (SL.reAt 0 (own b1 (.cells (encNode nv).toArray 57)) (SL.asg (.r rfl) rfl (SL.nx (SX.seq (SX.sr (SL.mv (.r rfl) rfl (SL.bin (.r rfl) rfl rfl Bin.neI (SL.nx ?_))))))))
 refine SX.cond rfl (fun hc2=>?_) (fun hc2=>?_)
 replace h:=cT hc2 h
 obtain rfl:=Option.some.inj h
 refine SX.sr (SL.mv (.r rfl) rfl (SL.asg (.r rfl) rfl (SL.asg (.r rfl) rfl (SL.nx (SX.ret (SQ.thnR (SQ.nilT 72 3 encSaved ?_)))))))
 exact SQ.fret (res2 rfl rfl rfl) (ret_of (M:=_::vltO ⟨b0_,v0x1_,m0x5_,b0x0_,v0x0x4_,m0x0x5_,m0x0x6_⟩ p0 p0_1) ⟨_,rfl,rfl⟩ fun _ hw=>HpOk.pick (H:=[_,_,_,_]) hw [0] 4 rfl)
 replace h:=cF hc2 h
 split at h
 cases h
 rename_i hbig
 obtain ⟨th,hth,h3⟩:=bnd h
 clear h
 obtain ⟨y,hy,h⟩:=bnd h3
 clear h3
 refine SX.skip (SQ.thn (SX.sr ?_))
 refine SL.mkM eKeyS eRefV (.r rfl) (fun _=>trivial) fun bm=>?_
 refine SL.alloc (.r rfl) ze116 (fun _=>trivial) fun b2=>?_
 refine SL.st 0 ⟨rfl,rfl,rfl⟩ rfl rfl rfl sz116 rfl rfl rfl trivial (SL.reAt 0 (own b2 (.cells #[.map (some bm)] 116)) (SL.nx (SX.seq (SX.sr (SL.mv (.r rfl) rfl ?_)))))
 refine SL.call (vs:=[_]) (Hin:=[]) (Hr:=_::_::_::_::_::(vltO ⟨b0_,v0x1_,m0x5_,b0x0_,v0x0x4_,m0x0x5_,m0x0x6_⟩ p0 p0_1++H)) (.r rfl) rfl ⟨rfl,trivial⟩ cal57 rfl rfl (w_backS hs2_.one) ?_
 rintro _ _ ⟨bx,rfl,rfl⟩
 refine ⟨trivial,?_⟩
 refine SL.nx (SX.block ?_)
 refine SX.rangeAt (enc:=encBS) (backL p2) (G0:=(own b2 (.cells #[.map (some bm)] 116)::mapC bm eKeyS eRefV []::own b1 (.cells (encNode nv).toArray 57)::fzC L::own b0 (.cells #[vP b0_ 0] 24)::(vltO ⟨b0_,v0x1_,m0x5_,b0x0_,v0x0x4_,m0x0x5_,m0x0x6_⟩ p0 p0_1++H))) (fun pre G=>∃m:List (KeyS×RefA),(∀suf,backL p2=pre++suf→thereB suf m=some th)∧G=(own b2 (.cells #[.map (some bm)] 116)::mapC bm eKeyS eRefV m::own b1 (.cells (encNode nv).toArray 57)::fzC L::own b0 (.cells #[vP b0_ 0] 24)::(vltO ⟨b0_,v0x1_,m0x5_,b0x0_,v0x0x4_,m0x0x5_,m0x0x6_⟩ p0 p0_1++H))) (fun c G=>False) rfl cal90 rfl (fun _=>rfl) (q_backS (by omega) hs2_) rfl ⟨[],fun suf e=>by rw [←show backL p2=suf from e];exact hth,rfl⟩ (fun pre x suf G hxs hJ lr lp Rest=>?_) (fun G D hJ=>?_) (fun c G D hX=>hX.elim)
 obtain ⟨m,hm,rfl⟩:=hJ
 have h1:=hm (x::suf) hxs
 rw [thereB] at h1
 obtain ⟨k,hk,h1⟩:=bnd h1
 obtain ⟨m1,hm1,h1⟩:=bnd h1
 have hks:=keyS_some hk
 refine SX.region ?_
 refine SL.alloc (.r rfl) ze72 (fun _=>trivial) fun b3=>?_
 refine SL.st 0 ⟨rfl,rfl,rfl⟩ rfl rfl rfl sz72 rfl rfl rfl trivial (SL.nil ?_)
 refine SQ.bgn (G:=own b3 (.cells #[vS x.2.txt,vU32 x.2.page,vS x.2.tag] 72)::(own b2 (.cells #[.map (some bm)] 116)::mapC bm eKeyS eRefV m::own b1 (.cells (encNode nv).toArray 57)::fzC L::own b0 (.cells #[vP b0_ 0] 24)::(vltO ⟨b0_,v0x1_,m0x5_,b0x0_,v0x0x4_,m0x0x5_,m0x0x6_⟩ p0 p0_1++H))) ?_
 refine SX.block (SX.region (SL.ld (.r rfl) sc116 rfl (cell_own 1 rfl rfl) (SL.fa (.r rfl) rfl fo72_0 (SL.ld (.r rfl) sc9 rfl (cell_own 0 rfl rfl) (SL.fa (.r rfl) rfl fo72_1 (SL.ldA [vU32 x.2.page,vS x.2.tag] (.r rfl) ag31 rfl rfl (cells_own 0 rfl (by rintro (_ | (_ | j)) u hj<;>first | exact hj | exact absurd hj (by simp))) ?_))))))
 refine SL.mupN (a:=(⟨x.2.page,x.2.tag⟩:RefA)) 2 hm1 (MapE.strRef ty9) ⟨rfl,rfl,rfl⟩ ty116 rfl (by rw [eKeyS,hks];rfl) rfl rfl trivial ?_
 refine SL.nil (SQ.blk ?_)
 exact SQ.rndN ⟨m1,fun suf' e=>by rw [suf_eq hxs e];exact h1,rfl⟩ (fun _ hw=>HpOk.pick (H:=[_]) hw [] 1 rfl)
 obtain ⟨m,hm,rfl⟩:=hJ
 have h1:=hm [] (List.append_nil _).symm
 obtain rfl:m=th:=Option.some.inj h1
 refine SQ.blk (SQ.thn (SX.sr ?_))
 refine SL.alloc (.r rfl) ze113 (fun _=>trivial) fun b3=>?_
 refine SL.reAt 0 (own b3 (.cells #[.slice none 0 0] 113)) (SL.nilT 29 1 eU32 (SL.nx (SX.sr ?_)))
 refine SL.mkf (fv:=#[]) (cv:=#[_,_,_]) (.r rfl) rfl rfl ?_
 refine SL.bld [_] (.r rfl) pl106 pk106 ze106 ⟨rfl,trivial⟩ rfl ?_
 refine SL.box (.r rfl) rfl (fun _=>trivial) fun b4=>?_
 refine SL.nilT 72 3 encSaved (SL.asg (.r rfl) rfl (SL.nx ?_))
 have hcon:=Con.lend (K:=K) (w0:=w0) (H:=(own b1 (.cells (encNode nv).toArray 57)::H)++[marks D]) (f:=53) (B:=[fzC L]) (Hin:=plC b4 (.func (.func 58) #[] #[vP b2 0,vP b0 0,vP b3 0]) (.slice none 0 0) ⟨[],0⟩::rowT 72 3 (.slice none 0 0) encSaved []::savC b2 bm b0 b3 (⟨b0_,v0x1_,m0x5_,b0x0_,v0x0x4_,m0x0x5_,m0x0x6_⟩:VltB) m (.slice none 0 0) ⟨[],p0,p0_1⟩) fun K' w1 hkk hB=>
  c_planter_node (C:=savC b2 bm b0 b3 (⟨b0_,v0x1_,m0x5_,b0x0_,v0x0x4_,m0x0x5_,m0x0x6_⟩:VltB) m) (bp:=b4) (vo:=.slice none 0 0) (ca:=.slice none 0 0) (cs:=#[vP b2 0,vP b0 0,vP b3 0]) cal58 c_save1 n (hS.keeps hkk) hy (hnz.lent (hB _ (by simp)))
 generalize hpo:(fun (u:Value) (M:List Chunk)=>∃M',M=[fzC L]++M'∧(u=.agg (encRef y.1).toArray∧∃vo' ca',M'=plC b4 (.func (.func 58) #[] #[vP b2 0,vP b0 0,vP b3 0]) vo' y.2.1::rowT 72 3 vo' encSaved y.2.1.out::savC b2 bm b0 b3 (⟨b0_,v0x1_,m0x5_,b0x0_,v0x0x4_,m0x0x5_,m0x0x6_⟩:VltB) m ca' y.2.2))=po at hcon
 refine SX.sr (SL.mv (.r rfl) rfl (SL.ldA (encNode nv) (.r rfl) ag57 rfl rfl (cells_all 6 rfl) ?_))
 refine SL.heap (H':=([fzC L]++(plC b4 (.func (.func 58) #[] #[vP b2 0,vP b0 0,vP b3 0]) (.slice none 0 0) ⟨[],0⟩::rowT 72 3 (.slice none 0 0) encSaved []::savC b2 bm b0 b3 (⟨b0_,v0x1_,m0x5_,b0x0_,v0x0x4_,m0x0x5_,m0x0x6_⟩:VltB) m (.slice none 0 0) ⟨[],p0,p0_1⟩))++(own b1 (.cells (encNode nv).toArray 57)::H)) ?_ (fun _ hw=>HpOk.pick (H:=[_,_,_,_,_,_,_,_,_,_,_,_,_,_,_,_]) hw [7,1,0,4,5,8,3,2,9,10,11,12,13,14,15,6] 16 rfl)
 refine SL.call (vs:=[_,_]) (Hin:=[fzC L]++(plC b4 (.func (.func 58) #[] #[vP b2 0,vP b0 0,vP b3 0]) (.slice none 0 0) ⟨[],0⟩::rowT 72 3 (.slice none 0 0) encSaved []::savC b2 bm b0 b3 (⟨b0_,v0x1_,m0x5_,b0x0_,v0x0x4_,m0x0x5_,m0x0x6_⟩:VltB) m (.slice none 0 0) ⟨[],p0,p0_1⟩)) (Hr:=own b1 (.cells (encNode nv).toArray 57)::H) (.r rfl) rfl ⟨rfl,rfl,trivial⟩ cal53 rfl rfl hcon ?_
 intro u0 M0 hpost
 rw [←hpo] at hpost
 obtain ⟨_,rfl,rfl,vo,ca,rfl⟩:=hpost
 refine ⟨trivial,?_⟩
 refine SL.nx ?_
 unfold saveE at h
 refine SX.seq (SX.sr (SL.mv (.r rfl) rfl (SL.nchk (.r rfl) rfl (SL.fa (.r rfl) rfl fo106_2 (SL.ld (.r rfl) sc32 rfl (cell_own 1 rfl rfl) (SL.bin (.r rfl) rfl rfl Bin.neI (SL.nx ?_)))))))
 refine SX.cond rfl (fun hc3=>?_) (fun hc3=>?_)
 replace h:=cT hc3 h
 split at h
 cases h
 rename_i hbt
 obtain ⟨v',hv',h⟩:=bnd h
 obtain rfl:=Option.some.inj h
 refine SX.seq (SX.sr (SL.ld (.r rfl) sc113 rfl (cell_own 6 rfl rfl) (SL.lenT 7 (.r rfl) ty113 rfl rfl (SL.mv (.r rfl) rfl (SL.nx (SX.block ?_))))))
 refine SX.heap (SX.mono (SX.loop (α:=Nat×VltA) (fun x=>x.1≤y.2.2.tk.length∧giveF (y.2.2.tk.drop x.1) x.2 y.2.2.d=some v') (fun x=>[(3,vP b0 0),(14,vP b4 0),(48,ca),(49,vI (y.2.2.tk.length:Int)),(50,vI (x.1:Int))])
  (fun x=>plC b4 (.func (.func 58) #[] #[vP b2 0,vP b0 0,vP b3 0]) vo y.2.1::own b0 (.cells #[vP b0_ 0] 24)::rowT 29 1 ca eU32 y.2.2.tk::(vltO (⟨b0_,v0x1_,m0x5_,b0x0_,v0x0x4_,m0x0x5_,m0x0x6_⟩:VltB) x.2 y.2.2.d++H))
  (fun x=>y.2.2.tk.length-x.1) (fun x D hp=>?_) (0,y.2.2.v) ⟨Nat.zero_le _,hv'⟩) (by repeat' (first | exact trivial | refine And.intro rfl ?_))) (fun _ hw=>HpOk.pick (H:=[_,_,_,_,_,_,_,_,_,_,_,_,_,_,_,_]) hw [1,5,7,8,9,10,11,12,13,14] 16 rfl)
 obtain ⟨i,v1⟩:=x
 obtain ⟨hi,hg⟩:=hp
 dsimp only at hi hg ⊢
 refine SX.sr (SL.bin (.r rfl) rfl rfl Bin.ltI (SL.nx (SX.seq ?_)))
 refine SX.cond rfl (fun hc4=>?_) (fun hc4=>?_)
 have hlt:i<y.2.2.tk.length:=by
  have:=of_decide_eq_true hc4
  omega
 clear hc4
 have hnth:nthI y.2.2.tk (i:Int)=some y.2.2.tk[i]:=by
  rw [nthI,if_pos (by omega)]
  exact List.getElem?_eq_getElem hlt
 rw [List.drop_eq_getElem_cons hlt,giveF] at hg
 obtain ⟨z,hz,hg⟩:=bnd hg
 refine SX.skip (SQ.thn (SX.seq (SX.block (SX.sr ?_))))
 refine SL.iaT 2 hnth (.r rfl) ty113 sz29 rfl rfl rfl fun g1 m1 cp1 hv1=>?_
 refine SL.ld (.r rfl) sc29 rfl (cell_rowT (sz:=1) (enc:=eU32) 2 0 (fun _=>rfl) rfl hv1 hnth rfl) ?_
 refine SL.asg (.r rfl) rfl (SL.nx (SX.region (SL.ld (.r rfl) sc24 rfl (cell_own 1 rfl rfl) (SL.mv (.r rfl) rfl ?_))))
 refine SL.heap (H':=vltO (⟨b0_,v0x1_,m0x5_,b0x0_,v0x0x4_,m0x0x5_,m0x0x6_⟩:VltB) v1 y.2.2.d++([_,_,_]++H)) ?_ (fun _ hw=>HpOk.rotN (A:=[_,_,_]) (B:=vltO (⟨b0_,v0x1_,m0x5_,b0x0_,v0x0x4_,m0x0x5_,m0x0x6_⟩:VltB) v1 y.2.2.d) (R:=H) hw)
 have hcon:=c_vv_Give (K:=K) (w0:=w0) (H:=([plC b4 (.func (.func 58) #[] #[vP b2 0,vP b0 0,vP b3 0]) vo y.2.1,own b0 (.cells #[vP b0_ 0] 24),rowT 29 1 ca eU32 y.2.2.tk]++H)++[marks D]) (b0_:=b0_) (v0x1_:=v0x1_) (m0x5_:=m0x5_) (b0x0_:=b0x0_) (v0x0x4_:=v0x0x4_) (m0x0x5_:=m0x0x5_) (m0x0x6_:=m0x0x6_) hz
 refine SL.call (vs:=[_,_]) (Hin:=vltO (⟨b0_,v0x1_,m0x5_,b0x0_,v0x0x4_,m0x0x5_,m0x0x6_⟩:VltB) v1 y.2.2.d) (Hr:=[_,_,_]++H) (.r rfl) rfl ⟨rfl,rfl,trivial⟩ cal59 rfl rfl hcon ?_
 rintro _ _ ⟨rfl,rfl⟩
 refine ⟨trivial,?_⟩
 refine SL.heap (H':=[_,_,_]++(vltO (⟨b0_,v0x1_,m0x5_,b0x0_,v0x0x4_,m0x0x5_,m0x0x6_⟩:VltB) z.2 y.2.2.d++H)) ?_ (fun _ hw=>HpOk.rotN (A:=vltO (⟨b0_,v0x1_,m0x5_,b0x0_,v0x0x4_,m0x0x5_,m0x0x6_⟩:VltB) z.2 y.2.2.d) (B:=[_,_,_]) (R:=H) hw)
 refine SL.nil (SQ.blk (SQ.thn (SX.region (SL.bin (.r rfl) rfl rfl (Bin.addI (by omega) (by omega)) (SL.mv (.r rfl) rfl (SL.nil ?_))))))
 exact SQ.again (i+1,z.2) ⟨hlt,hg⟩ (by dsimp only;omega) (by repeat' (first | exact trivial | refine And.intro rfl ?_)) (fun _ hw=>HpOk.pick (H:=[_,_,_]) hw [0,1,2] 3 rfl)
 have hge:i=y.2.2.tk.length:=by
  have:=of_decide_eq_false hc4
  omega
 subst hge
 rw [List.drop_length,giveF] at hg
 obtain rfl:v1=v':=Option.some.inj hg
 refine SX.exit (SQ.thnE (SQ.lpE (SQ.blkE (SQ.thn (SX.seq (SX.drawI mix [0] (Pl.ap [(true,0),(true,1),(true,2),(true,3),(true,4),(true,5)] .nil) (by kernel_rfl) (SL.mv (.r rfl) rfl (SL.nchk (.r rfl) rfl (SL.fa (.r rfl) rfl fo106_2 (SL.ld (.r rfl) sc32 rfl (cell_own 0 rfl rfl) (SL.asg (.r rfl) rfl (SL.asg (.r rfl) rfl (SL.nx (SX.ret (SQ.thnR (SQ.nilT 72 3 encSaved ?_))))))))))))))))
 exact SQ.fret (res2 rfl rfl rfl) (ret_of (M:=_::vltO (⟨b0_,v0x1_,m0x5_,b0x0_,v0x0x4_,m0x0x5_,m0x0x6_⟩:VltB) v1 y.2.2.d) ⟨_,rfl,rfl⟩ fun _ hw=>HpOk.pick (H:=[_,_,_,_]) hw [0] 4 rfl)
 replace h:=cF hc3 h
 obtain rfl:=Option.some.inj h
 refine SX.skip (SQ.thn (SX.sr (SL.mv (.r rfl) rfl (SL.nchk (.r rfl) rfl (SL.fa (.r rfl) rfl fo106_1 (SL.ld (.r rfl) sc36 rfl (cell_own 1 rfl rfl) (SL.asg (.r rfl) rfl (SL.asg (.r rfl) rfl (SL.nx (SX.ret ?_))))))))))
 exact SQ.fret (res2 rfl rfl rfl) (ret_of (M:=rowT 72 3 vo encSaved y.2.1.out::vltO (⟨b0_,v0x1_,m0x5_,b0x0_,v0x0x4_,m0x0x5_,m0x0x6_⟩:VltB) y.2.2.v y.2.2.d) ⟨_,rfl,rfl⟩ fun _ hw=>HpOk.pick (H:=[_,_,_,_,_,_,_,_,_,_,_,_,_,_,_,_]) hw [2,8,9,10,11,12,13,14] 16 rfl)
end Go.Proofs.YtkibffdipniemaaGreatDoor

/- What a reader of pages has. No condition. -/
namespace Go.Proofs.YtkibffdipniemaaGreatDoor
structure LdA where
 out:List SavedA
 rows:List RowA
 count:Int
end Go.Proofs.YtkibffdipniemaaGreatDoor

/- Plain functions of the references and the laws, printed from the loaded program, and the walks that show that the program computes them. Condition: the plain function yields. -/
namespace Go.Proofs.YtkibffdipniemaaGreatDoor
open Go
variable {K:Nat→Prop} {w0:World} {H:List Chunk}

def f_gpg_j2 (p1:RefA) (y1:List UInt8×Int) (o1:LdA):Option (Int×LdA):=
 (appL 40 o1.out [(⟨y1.1,p1.page,p1.tag⟩:SavedA)]).bind fun l4=>
 some (0,{ o1 with out:=l4 })
def f_gpg_l1_b (p0_1:VltA) (p0_2:DevA) (p1:RefA) (rec_:LdA→VltA→DevA→RefA→Option (Int×LdA)) (y1:List UInt8×Int) (l2:List RefA) (nx_f_gpg_l1:LdA×Int→Option (Int×LdA)) (o2:LdA) (a1:Int):Option (Int×LdA):=
 cond (decide (a1<(l2.length:Int)))
 (
  (nthI l2 a1).bind fun x1=>
  (rec_ o2 p0_1 p0_2 x1).bind fun y3=>
  cond (!decide (y3.1=0))
  (
   some (y3.1,y3.2))
  (
   nx_f_gpg_l1 (y3.2,wI (a1+1))))
 (
  f_gpg_j2 p1 y1 o2)
def f_gpg_l1 (p0_1:VltA) (p0_2:DevA) (p1:RefA) (rec_:LdA→VltA→DevA→RefA→Option (Int×LdA)) (y1:List UInt8×Int) (l2:List RefA):Nat→(LdA×Int)→Option (Int×LdA):=loopN fun nx x=>f_gpg_l1_b p0_1 p0_2 p1 rec_ y1 l2 nx x.1 x.2
def f_gpg_j1 (n:Nat) (p0:LdA) (p0_1:VltA) (p0_2:DevA) (p1:RefA) (rec_:LdA→VltA→DevA→RefA→Option (Int×LdA)) (y1:List UInt8×Int) (l1:List RowA) (l2:List RefA):Option (Int×LdA):=
 f_gpg_l1 p0_1 p0_2 p1 rec_ y1 l2 n ({ p0 with rows:=l1,count:=wI (p0.count+1) },0)
def f_gpg (rec_:LdA→VltA→DevA→RefA→Option (Int×LdA)) (n:Nat) (T:List UInt32) (p0:LdA) (p0_1:VltA) (p0_2:DevA) (p1:RefA):Option (Int×LdA):=
 cond (decide (p0.count=2100))
 (
  some (61,p0))
 (
  (f_vv_Read T p0_1 p0_2 p1).bind fun y1=>
  cond (!decide (y1.2=0))
  (
   some (y1.2,{ p0 with count:=wI (p0.count+1) }))
  (
   (f_rows_Decode n y1.1).bind fun y2=>
   cond (!decide (y2.2=0))
   (
    some (61,{ p0 with count:=wI (p0.count+1) }))
   (
    (appL 32 p0.rows y2.1.rows).bind fun l1=>
    cond (!(decide (y2.1.npage=0)&&(decide (y2.1.ntag=[])&&true)))
    (
     (appL 24 y2.1.kids [(⟨y2.1.npage,y2.1.ntag⟩:RefA)]).bind fun l3=>
     f_gpg_j1 n p0 p0_1 p0_2 p1 rec_ y1 l1 l3)
    (
     f_gpg_j1 n p0 p0_1 p0_2 p1 rec_ y1 l1 y2.1.kids))))
set_option maxHeartbeats 4000000 in
set_option maxRecDepth 100000 in
theorem c_gpg {rec_:LdA→VltA→DevA→RefA→Option (Int×LdA)} {n:Nat} {T:List UInt32} {b0_:Nat} {v0x1_:Value} {v0x2_:Value} {b0x0_:Nat} {v0x0x1_:Value} {m0x0x5_:Nat} {b0x0x0_:Nat} {v0x0x0x4_:Value} {m0x0x0x5_:Nat} {m0x0x0x6_:Nat} {p0:LdA} {p0_1:VltA} {p0_2:DevA} {p1:RefA} {r:Int×LdA} (h:f_gpg rec_ n T p0 p0_1 p0_2 p1=some r) (hS:ShaT K w0 T) (hrec:∀ {H:List Chunk} {b0_:Nat} {v0x1_:Value} {v0x2_:Value} {b0x0_:Nat} {v0x0x1_:Value} {m0x0x5_:Nat} {b0x0x0_:Nat} {v0x0x0x4_:Value} {m0x0x0x5_:Nat} {m0x0x0x6_:Nat} {p0:LdA} {p0_1:VltA} {p0_2:DevA} {p1:RefA} {r:Int×LdA},rec_ p0 p0_1 p0_2 p1=some r→Con Tryz.prog K w0 48 [vP b0_ 0,.agg (encRef p1).toArray] [own b0_ (.cells #[vP b0x0_ 0,v0x1_,v0x2_,vI p0.count] 99),rowT 72 3 v0x1_ encSaved p0.out,rowT 79 4 v0x2_ encRow p0.rows,own b0x0_ (.cells #[vP b0x0x0_ 0,v0x0x1_,vU32 p0_1.gen,vU32 p0_1.boot,vU64 p0_1.seals,.map (some m0x0x5_)] 96),rowT 138 2 v0x0x1_ encKey p0_1.ring,mapC m0x0x5_ vU32 vB p0_1.taken,own b0x0x0_ (.cells #[vB p0_2.off,vB p0_2.isCut,vI p0_2.lasts,vI p0_2.counts,v0x0x0x4_,.map (some m0x0x0x5_),.map (some m0x0x0x6_),vU64 p0_2.rcnt,vS p0_2.rtag,vU32 p0_2.rboots] 130),rowT 9 1 v0x0x0x4_ eS p0_2.blocks,mapC m0x0x0x5_ vU32 vS p0_2.pend,mapC m0x0x0x6_ vU32 vB p0_2.bad] H (fun u M=>∃vs0_0_1 vs0_0_2:Value,u=vI r.1∧M=[own b0_ (.cells #[vP b0x0_ 0,vs0_0_1,vs0_0_2,vI r.2.count] 99),rowT 72 3 vs0_0_1 encSaved r.2.out,rowT 79 4 vs0_0_2 encRow r.2.rows,own b0x0_ (.cells #[vP b0x0x0_ 0,v0x0x1_,vU32 p0_1.gen,vU32 p0_1.boot,vU64 p0_1.seals,.map (some m0x0x5_)] 96),rowT 138 2 v0x0x1_ encKey p0_1.ring,mapC m0x0x5_ vU32 vB p0_1.taken,own b0x0x0_ (.cells #[vB p0_2.off,vB p0_2.isCut,vI p0_2.lasts,vI p0_2.counts,v0x0x0x4_,.map (some m0x0x0x5_),.map (some m0x0x0x6_),vU64 p0_2.rcnt,vS p0_2.rtag,vU32 p0_2.rboots] 130),rowT 9 1 v0x0x0x4_ eS p0_2.blocks,mapC m0x0x0x5_ vU32 vS p0_2.pend,mapC m0x0x0x6_ vU32 vB p0_2.bad])):Con Tryz.prog K w0 48 [vP b0_ 0,.agg (encRef p1).toArray] [own b0_ (.cells #[vP b0x0_ 0,v0x1_,v0x2_,vI p0.count] 99),rowT 72 3 v0x1_ encSaved p0.out,rowT 79 4 v0x2_ encRow p0.rows,own b0x0_ (.cells #[vP b0x0x0_ 0,v0x0x1_,vU32 p0_1.gen,vU32 p0_1.boot,vU64 p0_1.seals,.map (some m0x0x5_)] 96),rowT 138 2 v0x0x1_ encKey p0_1.ring,mapC m0x0x5_ vU32 vB p0_1.taken,own b0x0x0_ (.cells #[vB p0_2.off,vB p0_2.isCut,vI p0_2.lasts,vI p0_2.counts,v0x0x0x4_,.map (some m0x0x0x5_),.map (some m0x0x0x6_),vU64 p0_2.rcnt,vS p0_2.rtag,vU32 p0_2.rboots] 130),rowT 9 1 v0x0x0x4_ eS p0_2.blocks,mapC m0x0x0x5_ vU32 vS p0_2.pend,mapC m0x0x0x6_ vU32 vB p0_2.bad] H (fun u M=>∃vs0_0_1 vs0_0_2:Value,u=vI r.1∧M=[own b0_ (.cells #[vP b0x0_ 0,vs0_0_1,vs0_0_2,vI r.2.count] 99),rowT 72 3 vs0_0_1 encSaved r.2.out,rowT 79 4 vs0_0_2 encRow r.2.rows,own b0x0_ (.cells #[vP b0x0x0_ 0,v0x0x1_,vU32 p0_1.gen,vU32 p0_1.boot,vU64 p0_1.seals,.map (some m0x0x5_)] 96),rowT 138 2 v0x0x1_ encKey p0_1.ring,mapC m0x0x5_ vU32 vB p0_1.taken,own b0x0x0_ (.cells #[vB p0_2.off,vB p0_2.isCut,vI p0_2.lasts,vI p0_2.counts,v0x0x0x4_,.map (some m0x0x0x5_),.map (some m0x0x0x6_),vU64 p0_2.rcnt,vS p0_2.rtag,vU32 p0_2.rboots] 130),rowT 9 1 v0x0x0x4_ eS p0_2.blocks,mapC m0x0x0x5_ vU32 vS p0_2.pend,mapC m0x0x0x6_ vU32 vB p0_2.bad]):=by
 unfold f_gpg at h
 refine Con.enter Tryz.func48 rfl rfl ?_
 refine SX.sr ?_
 refine SL.box (.r rfl) rfl (fun _=>trivial) fun b1=>?_
 refine SL.asg (.r rfl) rfl (SL.nx (SX.seq (SX.sr (SL.mv (.r rfl) rfl (SL.nchk (.r rfl) rfl (SL.fa (.r rfl) rfl fo99_3 (SL.ld (.r rfl) sc3 rfl (cell_own 1 rfl rfl) (SL.bin (.r rfl) rfl rfl Bin.eqI (SL.nx ?_)))))))))
 refine SX.cond rfl (fun hc1=>?_) (fun hc1=>?_)
 replace h:=cT hc1 h
 refine SX.sr (SL.asg (.r rfl) rfl (SL.nx (SX.ret (SQ.thnR ?_))))
 obtain rfl:=Option.some.inj h
 exact SQ.fret (res1 rfl rfl) (ret_of (M:=[_,_,_,_,_,_,_,_,_,_]) ⟨v0x1_,v0x2_,rfl,rfl⟩ fun _ hw=>HpOk.pick (H:=[_,_,_,_,_,_,_,_,_,_,_]) hw [1,2,3,4,5,6,7,8,9,10] 11 rfl)
 replace h:=cF hc1 h
 refine SX.skip (SQ.thn (SX.sr (SL.mv (.r rfl) rfl (SL.nchk (.r rfl) rfl (SL.fa (.r rfl) rfl fo99_3 (SL.ld (.r rfl) sc3 rfl (cell_own 1 rfl rfl) (SL.bin (.r rfl) rfl rfl Bin.addW (SL.nchk (.r rfl) rfl (SL.fa (.r rfl) rfl fo99_3 (SL.st 1 ⟨rfl,rfl,rfl⟩ rfl rfl rfl sz3 rfl rfl rfl trivial (SL.nx (SX.seq ?_))))))))))))
 obtain ⟨y1,hy1,h⟩:=bnd h
 refine SX.drawI mix [0,1] (Pl.ap [(true,0),(true,1),(true,2),(true,3),(true,4),(false,5),(false,6),(true,7),(true,8),(false,9)] (.last 10 .nil)) (by kernel_rfl) (SL.mv (.r rfl) rfl (SL.nchk (.r rfl) rfl (SL.fa (.r rfl) rfl fo99_0 (SL.ld (.r rfl) sc24 rfl (cell_own 1 rfl rfl) (SL.ldA [vU32 p1.page,vS p1.tag] (.r rfl) ag31 rfl rfl (cells_all 0 rfl) (SL.pick [4,5,6,7,8,9,10,0,1,2,3] 11 ?_))))))
 refine SL.call (vs:=[_,_]) (Hin:=[_,_,_,_,_,_,_]) (Hr:=_::_::_::_::_) (.r rfl) rfl ⟨rfl,rfl,trivial⟩ cal81 rfl rfl ((c_vv_Read hy1 hS :)) ?_
 rintro _ _ ⟨rfl,rfl⟩
 refine ⟨⟨⟨7,rfl⟩,⟨8,rfl⟩,trivial⟩,?_⟩
 refine SL.mv (.r rfl) rfl (SL.ext (.r rfl) rfl rfl (SL.ext (.r rfl) rfl rfl (SL.asg (.r rfl) rfl (SL.last (SL.asg (.r rfl) rfl (SL.nx (SX.seq (SX.sr (SL.mv (.r rfl) rfl (SL.bin (.r rfl) rfl rfl Bin.neI (SL.nx ?_)))))))))))
 refine SX.cond rfl (fun hc2=>?_) (fun hc2=>?_)
 replace h:=cT hc2 h
 refine SX.sr (SL.mv (.r rfl) rfl (SL.asg (.r rfl) rfl (SL.nx (SX.ret (SQ.thnR ?_)))))
 obtain rfl:=Option.some.inj h
 exact SQ.fret (res1 rfl rfl) (ret_of (M:=[_,_,_,_,_,_,_,_,_,_]) ⟨v0x1_,v0x2_,rfl,rfl⟩ fun _ hw=>HpOk.pick (H:=[_,_,_,_,_,_,_,_,_,_,_]) hw [8,9,10,0,1,2,3,4,5,6] 11 rfl)
 replace h:=cF hc2 h
 refine SX.skip (SQ.thn (SX.sr ?_))
 obtain ⟨y2,hy2,h⟩:=bnd h
 refine SL.mv (.r rfl) rfl ?_
 refine SL.call (vs:=[_]) (Hin:=[]) (Hr:=_::_::_::_::_::_::_::_::_::_::_::_) (.r rfl) rfl ⟨rfl,trivial⟩ cal82 rfl rfl (c_rows_Decode hy2) ?_
 rintro _ _ ⟨v1,v2,rfl,rfl⟩
 refine ⟨trivial,?_⟩
 refine SL.mv (.r rfl) rfl (SL.ext (.r rfl) rfl rfl (SL.ext (.r rfl) rfl rfl ?_))
 refine SL.alloc (.r rfl) ze148 (fun _=>trivial) fun b2=>?_
 refine SL.nilT 79 4 encRow (SL.nilT 31 2 encRef ?_)
 refine SL.rowV 3 rfl fun hv1 ho1=>?_
 refine SL.rowV 4 rfl fun hv2 ho2=>?_
 refine SL.st 2 ⟨rfl,rfl,rfl⟩ rfl rfl rfl sz148 rfl (by simp only [Value.oneCell'] at ho1 ho2;simp [Value.cells,Value.cells,Value.oneCell',ho1,ho2]) rfl trivial (SL.reAt 2 (own b2 (.cells #[vI y2.1.kind,vU32 y2.1.cx,vU32 y2.1.cy,vI y2.1.lev,v1,v2,vU32 y2.1.npage,vS y2.1.ntag] 148)) (SL.asg (.r rfl) rfl (SL.nx (SX.seq (SX.sr (SL.mv (.r rfl) rfl (SL.bin (.r rfl) rfl rfl Bin.neI (SL.nx ?_))))))))
 refine SX.cond rfl (fun hc3=>?_) (fun hc3=>?_)
 replace h:=cT hc3 h
 refine SX.sr (SL.asg (.r rfl) rfl (SL.nx (SX.ret (SQ.thnR ?_))))
 obtain rfl:=Option.some.inj h
 exact SQ.fret (res1 rfl rfl) (ret_of (M:=[_,_,_,_,_,_,_,_,_,_]) ⟨v0x1_,v0x2_,rfl,rfl⟩ fun _ hw=>HpOk.pick (H:=[_,_,_,_,_,_,_,_,_,_,_,_,_,_,_,_]) hw [13,14,15,5,6,7,8,9,10,11] 16 rfl)
 replace h:=cF hc3 h
 refine SX.skip (SQ.thn (SX.seq ?_))
 obtain ⟨l1,hl1,h⟩:=bnd h
 refine SX.drawI mix [2,13] (Pl.ap [(true,0),(true,1),(true,2),(true,3),(true,4),(true,5),(true,6),(false,7),(true,8),(true,9)] (.last 10 .nil)) (by kernel_rfl) (SL.mv (.r rfl) rfl (SL.mv (.r rfl) rfl (SL.nchk (.r rfl) rfl (SL.fa (.r rfl) rfl fo99_2 (SL.ld (.r rfl) sc35 rfl (cell_own 1 rfl rfl) (SL.fa (.r rfl) rfl fo148_2 (SL.ld (.r rfl) sc35 rfl (cell_own 0 rfl rfl) ?_)))))))
 refine SL.appR 15 3 hl1 (sz:=4) (enc:=encRow) (fun _=>rfl) (.r rfl) ty35 sz79 by79 ze79 rfl (by decide) rfl rfl rfl rfl (by simp [encRow,Value.oneCell']) (fun _=>⟨⟨2,rfl⟩,⟨13,rfl⟩,trivial⟩) fun v3=>?_
 refine SL.nchk (.r rfl) rfl (SL.fa (.r rfl) rfl fo99_2 (SL.last ?_))
 refine SL.rowV 15 rfl fun hv3 ho3=>?_
 refine SL.stR 13 ⟨rfl,rfl,rfl⟩ rfl rfl rfl sz35 hv3 ho3 rfl trivial (SL.nx (SX.sr (SL.fa (.r rfl) rfl fo148_3 (SL.ld (.r rfl) sc146 rfl (cell_own 2 rfl rfl) (SL.asg (.r rfl) rfl (SL.nx ?_))))))
 refine SX.meetD (α:=List RefA×Value) (fun x=>f_gpg_j1 n p0 p0_1 p0_2 p1 rec_ y1 l1 x.1=some r) (fun x=>[(0,vP b0_ 0),(3,vP b1 0),(5,vS y1.1),(8,x.2)]) (fun x=>own b0_ (.cells #[vP b0x0_ 0,v0x1_,v3,vI (wI (p0.count+1))] 99)::own b0x0_ (.cells #[vP b0x0x0_ 0,v0x0x1_,vU32 p0_1.gen,vU32 p0_1.boot,vU64 p0_1.seals,.map (some m0x0x5_)] 96)::own b0x0x0_ (.cells #[vB p0_2.off,vB p0_2.isCut,vI p0_2.lasts,vI p0_2.counts,v0x0x0x4_,.map (some m0x0x0x5_),.map (some m0x0x0x6_),vU64 p0_2.rcnt,vS p0_2.rtag,vU32 p0_2.rboots] 130)::rowT 9 1 v0x0x0x4_ eS p0_2.blocks::mapC m0x0x0x5_ vU32 vS p0_2.pend::mapC m0x0x0x6_ vU32 vB p0_2.bad::rowT 138 2 v0x0x1_ encKey p0_1.ring::mapC m0x0x5_ vU32 vB p0_1.taken::rowT 72 3 v0x1_ encSaved p0.out::rowT 79 4 v3 encRow l1::own b1 (.cells #[vU32 p1.page,vS p1.tag] 31)::rowT 31 2 x.2 encRef x.1::H) ?_ (fun x D h=>?_)
 refine SX.sr (SL.fa (.r rfl) rfl fo148_4 (SL.ldA [vU32 y2.1.npage,vS y2.1.ntag] (.r rfl) ag31 rfl rfl (cells_own 2 rfl (by rintro (_ | (_ | j)) u hj<;>first | exact hj | exact absurd hj (by simp))) (SL.bld [] (.r rfl) pl31 pk31 ze31 trivial rfl ?_)))
 refine SL.neAgg (.r rfl) fl31 rfl rfl (flatE_cons rfl rfl (eqV_32 (a:=y2.1.npage) (b:=0)) (flatE_cons rfl rfl (eqV_S (a:=y2.1.ntag) (b:=[])) flatE_nil)) ?_
 refine SL.nx ?_
 refine SX.cond rfl (fun hc4=>?_) (fun hc4=>?_)
 replace h:=cT hc4 h
 refine SX.region ?_
 obtain ⟨l3,hl3,h⟩:=bnd h
 refine SL.mv (.r rfl) rfl (SL.fa (.r rfl) rfl fo148_4 (SL.ldA [vU32 y2.1.npage,vS y2.1.ntag] (.r rfl) ag31 rfl rfl (cells_own 2 rfl (by rintro (_ | (_ | j)) u hj<;>first | exact hj | exact absurd hj (by simp))) ?_))
 refine SL.bsl [_] (.r rfl) ty146 sz31 ze31 ⟨rfl,trivial⟩ rfl rfl rfl (by first | (simp [Value.cells];done) | (intro v hv;simp only [List.mem_cons,List.not_mem_nil,or_false] at hv;rcases hv with rfl<;>rfl)) rfl rfl (fun _=>trivial) fun b3=>?_
 refine SL.ownT encRef 2 ([(⟨y2.1.npage,y2.1.ntag⟩:RefA)]:List RefA) rfl (fun _=>rfl) rfl ?_
 refine SL.appT 5 hl3 (sz:=2) (enc:=encRef) (fun _=>rfl) (.r rfl) ty146 sz31 by31 ze31 rfl (by decide) rfl rfl rfl rfl (cells_rowA (sz:=2) (enc:=encRef) 0 (fun _=>rfl) rfl) (by simp [encRef,Value.oneCell']) (fun _=>trivial) fun v5=>?_
 refine SL.asg (.r rfl) rfl (SL.nil ?_)
 exact SQ.midD (l3,v5) h (by repeat' (first | exact trivial | refine And.intro rfl ?_)) (fun _ hw=>HpOk.pick (H:=[_,_,_,_,_,_,_,_,_,_,_,_,_,_,_,_,_]) hw [14,6,9,10,11,12,7,8,15,16,13,5] 17 rfl)
 replace h:=cF hc4 h
 refine SX.skip ?_
 exact SQ.midD (y2.1.kids,v2) h (by repeat' (first | exact trivial | refine And.intro rfl ?_)) (fun _ hw=>HpOk.pick (H:=[_,_,_,_,_,_,_,_,_,_,_,_,_,_,_,_]) hw [13,5,8,9,10,11,6,7,14,15,12,4] 16 rfl)
 obtain ⟨l2,v4⟩:=x
 dsimp only at h
 unfold f_gpg_j1 at h
 refine SX.re [(0,vP b0_ 0),(3,vP b1 0),(5,vS y1.1),(8,v4)] (own b0_ (.cells #[vP b0x0_ 0,v0x1_,v3,vI (wI (p0.count+1))] 99)::own b0x0_ (.cells #[vP b0x0x0_ 0,v0x0x1_,vU32 p0_1.gen,vU32 p0_1.boot,vU64 p0_1.seals,.map (some m0x0x5_)] 96)::own b0x0x0_ (.cells #[vB p0_2.off,vB p0_2.isCut,vI p0_2.lasts,vI p0_2.counts,v0x0x0x4_,.map (some m0x0x0x5_),.map (some m0x0x0x6_),vU64 p0_2.rcnt,vS p0_2.rtag,vU32 p0_2.rboots] 130)::rowT 9 1 v0x0x0x4_ eS p0_2.blocks::mapC m0x0x0x5_ vU32 vS p0_2.pend::mapC m0x0x0x6_ vU32 vB p0_2.bad::rowT 138 2 v0x0x1_ encKey p0_1.ring::mapC m0x0x5_ vU32 vB p0_1.taken::rowT 72 3 v0x1_ encSaved p0.out::rowT 79 4 v3 encRow l1::own b1 (.cells #[vU32 p1.page,vS p1.tag] 31)::rowT 31 2 v4 encRef l2::H) ?_ (by repeat' (first | exact trivial | refine And.intro rfl ?_))
 refine SX.meetD (α:=LdA×Value×Value) (fun x=>f_gpg_j2 p1 y1 x.1=some r) (fun x=>[(0,vP b0_ 0),(3,vP b1 0),(5,vS y1.1)]) (fun x=>own b0_ (.cells #[vP b0x0_ 0,x.2.1,x.2.2,vI x.1.count] 99)::own b0x0_ (.cells #[vP b0x0x0_ 0,v0x0x1_,vU32 p0_1.gen,vU32 p0_1.boot,vU64 p0_1.seals,.map (some m0x0x5_)] 96)::own b0x0x0_ (.cells #[vB p0_2.off,vB p0_2.isCut,vI p0_2.lasts,vI p0_2.counts,v0x0x0x4_,.map (some m0x0x0x5_),.map (some m0x0x0x6_),vU64 p0_2.rcnt,vS p0_2.rtag,vU32 p0_2.rboots] 130)::rowT 9 1 v0x0x0x4_ eS p0_2.blocks::mapC m0x0x0x5_ vU32 vS p0_2.pend::mapC m0x0x0x6_ vU32 vB p0_2.bad::rowT 138 2 v0x0x1_ encKey p0_1.ring::mapC m0x0x5_ vU32 vB p0_1.taken::rowT 72 3 x.2.1 encSaved x.1.out::rowT 79 4 x.2.2 encRow x.1.rows::own b1 (.cells #[vU32 p1.page,vS p1.tag] 31)::H) ?_ (fun x D h=>?_)
 refine SX.sr (SL.mv (.r rfl) rfl (SL.lenT 11 (.r rfl) ty146 rfl rfl (SL.mv (.r rfl) rfl (SL.nx (SX.block ?_)))))
 refine SX.heap (SX.mono (SX.loop (α:=Nat×LdA×Value×Value×Int) (fun x=>f_gpg_l1 p0_1 p0_2 p1 rec_ y1 l2 x.1 (x.2.1,x.2.2.2.2)=some r) (fun x=>[(0,vP b0_ 0),(3,vP b1 0),(5,vS y1.1),(64,v4),(65,vI (l2.length:Int)),(66,vI x.2.2.2.2)]) (fun x=>own b0_ (.cells #[vP b0x0_ 0,x.2.2.1,x.2.2.2.1,vI x.2.1.count] 99)::own b0x0_ (.cells #[vP b0x0x0_ 0,v0x0x1_,vU32 p0_1.gen,vU32 p0_1.boot,vU64 p0_1.seals,.map (some m0x0x5_)] 96)::own b0x0x0_ (.cells #[vB p0_2.off,vB p0_2.isCut,vI p0_2.lasts,vI p0_2.counts,v0x0x0x4_,.map (some m0x0x0x5_),.map (some m0x0x0x6_),vU64 p0_2.rcnt,vS p0_2.rtag,vU32 p0_2.rboots] 130)::rowT 9 1 v0x0x0x4_ eS p0_2.blocks::mapC m0x0x0x5_ vU32 vS p0_2.pend::mapC m0x0x0x6_ vU32 vB p0_2.bad::rowT 138 2 v0x0x1_ encKey p0_1.ring::mapC m0x0x5_ vU32 vB p0_1.taken::rowT 72 3 x.2.2.1 encSaved x.2.1.out::rowT 79 4 x.2.2.2.1 encRow x.2.1.rows::own b1 (.cells #[vU32 p1.page,vS p1.tag] 31)::rowT 31 2 v4 encRef l2::H) (fun x=>x.1) (fun x D h=>?_) (n,{ p0 with rows:=l1,count:=wI (p0.count+1) },v0x1_,v3,0) h) (by repeat' (first | exact trivial | refine And.intro rfl ?_))) (fun _ hw=>HpOk.pick (H:=[_,_,_,_,_,_,_,_,_,_,_,_]) hw [0,1,2,3,4,5,6,7,8,9,10,11] 12 rfl)
 obtain ⟨m1,o2,v8,v9,a1⟩:=x
 dsimp only at h
 rcases m1 with _ | m1
 cases (show (none:Option _)=some r from h)
 replace h:f_gpg_l1_b p0_1 p0_2 p1 rec_ y1 l2 (f_gpg_l1 p0_1 p0_2 p1 rec_ y1 l2 m1) o2 a1=some r:=h
 unfold f_gpg_l1_b at h
 refine SX.re [(0,vP b0_ 0),(3,vP b1 0),(5,vS y1.1),(64,v4),(65,vI (l2.length:Int)),(66,vI a1)] (own b0_ (.cells #[vP b0x0_ 0,v8,v9,vI o2.count] 99)::own b0x0_ (.cells #[vP b0x0x0_ 0,v0x0x1_,vU32 p0_1.gen,vU32 p0_1.boot,vU64 p0_1.seals,.map (some m0x0x5_)] 96)::own b0x0x0_ (.cells #[vB p0_2.off,vB p0_2.isCut,vI p0_2.lasts,vI p0_2.counts,v0x0x0x4_,.map (some m0x0x0x5_),.map (some m0x0x0x6_),vU64 p0_2.rcnt,vS p0_2.rtag,vU32 p0_2.rboots] 130)::rowT 9 1 v0x0x0x4_ eS p0_2.blocks::mapC m0x0x0x5_ vU32 vS p0_2.pend::mapC m0x0x0x6_ vU32 vB p0_2.bad::rowT 138 2 v0x0x1_ encKey p0_1.ring::mapC m0x0x5_ vU32 vB p0_1.taken::rowT 72 3 v8 encSaved o2.out::rowT 79 4 v9 encRow o2.rows::own b1 (.cells #[vU32 p1.page,vS p1.tag] 31)::rowT 31 2 v4 encRef l2::H) ?_ (by repeat' (first | exact trivial | refine And.intro rfl ?_))
 refine SX.sr (SL.bin (.r rfl) rfl rfl Bin.ltI (SL.nx (SX.seq ?_)))
 refine SX.cond rfl (fun hc5=>?_) (fun hc5=>?_)
 replace h:=cT hc5 h
 refine SX.skip (SQ.thn (SX.seq (SX.block (SX.sr ?_))))
 obtain ⟨x1,hx1,h⟩:=bnd h
 refine SL.iaT 11 hx1 (.r rfl) ty146 sz31 rfl rfl rfl fun g1 m2 cp1 hv4=>?_
 refine SL.ldA (encRef x1) (.r rfl) ag31 rfl rfl (cells_rowT (sz:=2) (enc:=encRef) 11 (fun _=>rfl) rfl hv4 hx1) ?_
 refine SL.alloc (.r rfl) ze31 (fun _=>trivial) fun b4=>?_
 refine SL.st 0 ⟨rfl,rfl,rfl⟩ rfl rfl rfl sz31 rfl rfl rfl trivial (SL.nx (SX.sr ?_))
 obtain ⟨y3,hy3,h⟩:=bnd h
 refine SL.mv (.r rfl) rfl (SL.ldA [vU32 x1.page,vS x1.tag] (.r rfl) ag31 rfl rfl (cells_all 0 rfl) (SL.pick [1,9,10,2,7,8,3,4,5,6,0] 11 ?_))
 refine SL.call (vs:=[_,_]) (Hin:=[_,_,_,_,_,_,_,_,_,_]) (Hr:=_::_::_::_) (.r rfl) rfl ⟨rfl,rfl,trivial⟩ cal48 rfl rfl ((hrec hy3 :)) ?_
 rintro _ _ ⟨v10,v11,rfl,rfl⟩
 refine ⟨trivial,?_⟩
 refine SL.asg (.r rfl) rfl (SL.nx (SX.sr (SL.mv (.r rfl) rfl (SL.bin (.r rfl) rfl rfl Bin.neI (SL.nx ?_)))))
 refine SX.cond rfl (fun hc6=>?_) (fun hc6=>?_)
 replace h:=cT hc6 h
 refine SX.sr (SL.mv (.r rfl) rfl (SL.asg (.r rfl) rfl (SL.nx (SX.ret (SQ.blkR (SQ.thnR (SQ.lpR (SQ.blkR (SQ.midDR ?_)))))))))
 obtain rfl:=Option.some.inj h
 exact SQ.fret (res1 rfl rfl) (ret_of (M:=[_,_,_,_,_,_,_,_,_,_]) ⟨v10,v11,rfl,rfl⟩ fun _ hw=>HpOk.pick (H:=[_,_,_,_,_,_,_,_,_,_,_,_,_]) hw [0,1,2,3,4,5,6,7,8,9] 13 rfl)
 replace h:=cF hc6 h
 refine SX.skip (SQ.blk (SQ.thn (SX.region (SL.bin (.r rfl) rfl rfl Bin.addW (SL.mv (.r rfl) rfl (SL.nil ?_))))))
 exact SQ.again (m1,y3.2,v10,v11,wI (a1+1)) h (Nat.lt_succ_self _) (by repeat' (first | exact trivial | refine And.intro rfl ?_)) (fun _ hw=>HpOk.pick (H:=[_,_,_,_,_,_,_,_,_,_,_,_,_]) hw [0,3,6,7,8,9,4,5,1,2,11,12] 13 rfl)
 replace h:=cF hc5 h
 refine SX.exit (SQ.thnE (SQ.lpE (SQ.blkE ?_)))
 exact SQ.midD (o2,v8,v9) h (by repeat' (first | exact trivial | refine And.intro rfl ?_)) (fun _ hw=>HpOk.pick (H:=[_,_,_,_,_,_,_,_,_,_,_,_]) hw [0,1,2,3,4,5,6,7,8,9,10] 12 rfl)
 obtain ⟨o1,v6,v7⟩:=x
 dsimp only at h
 unfold f_gpg_j2 at h
 refine SX.re [(0,vP b0_ 0),(3,vP b1 0),(5,vS y1.1)] (own b0_ (.cells #[vP b0x0_ 0,v6,v7,vI o1.count] 99)::own b0x0_ (.cells #[vP b0x0x0_ 0,v0x0x1_,vU32 p0_1.gen,vU32 p0_1.boot,vU64 p0_1.seals,.map (some m0x0x5_)] 96)::own b0x0x0_ (.cells #[vB p0_2.off,vB p0_2.isCut,vI p0_2.lasts,vI p0_2.counts,v0x0x0x4_,.map (some m0x0x0x5_),.map (some m0x0x0x6_),vU64 p0_2.rcnt,vS p0_2.rtag,vU32 p0_2.rboots] 130)::rowT 9 1 v0x0x0x4_ eS p0_2.blocks::mapC m0x0x0x5_ vU32 vS p0_2.pend::mapC m0x0x0x6_ vU32 vB p0_2.bad::rowT 138 2 v0x0x1_ encKey p0_1.ring::mapC m0x0x5_ vU32 vB p0_1.taken::rowT 72 3 v6 encSaved o1.out::rowT 79 4 v7 encRow o1.rows::own b1 (.cells #[vU32 p1.page,vS p1.tag] 31)::H) ?_ (by repeat' (first | exact trivial | refine And.intro rfl ?_))
 refine SX.seq ?_
 obtain ⟨l4,hl4,h⟩:=bnd h
 refine SX.drawI mix [0,10] (Pl.ap [(true,0),(true,1),(true,2),(true,3),(true,4),(true,5),(true,6),(true,7),(false,8),(false,9),(true,10),(true,11)] (.last 12 .nil)) (by kernel_rfl) (SL.mv (.r rfl) rfl (SL.mv (.r rfl) rfl (SL.nchk (.r rfl) rfl (SL.fa (.r rfl) rfl fo99_1 (SL.ld (.r rfl) sc36 rfl (cell_own 0 rfl rfl) (SL.mv (.r rfl) rfl (SL.ldA [vU32 p1.page,vS p1.tag] (.r rfl) ag31 rfl rfl (cells_all 1 rfl) ?_)))))))
 refine SL.bld [_,_] (.r rfl) pl72 pk72 ze72 ⟨rfl,rfl,trivial⟩ rfl ?_
 refine SL.bsl [_] (.r rfl) ty36 sz72 ze72 ⟨rfl,trivial⟩ rfl rfl rfl (by first | (simp [Value.cells];done) | (intro v hv;simp only [List.mem_cons,List.not_mem_nil,or_false] at hv;rcases hv with rfl<;>rfl)) rfl rfl (fun _=>⟨⟨1,rfl⟩,⟨11,rfl⟩,trivial⟩) fun b5=>?_
 refine SL.ownT encSaved 3 ([(⟨y1.1,p1.page,p1.tag⟩:SavedA)]:List SavedA) rfl (fun _=>rfl) rfl ?_
 refine SL.appT 9 hl4 (sz:=3) (enc:=encSaved) (fun _=>rfl) (.r rfl) ty36 sz72 by72 ze72 rfl (by decide) rfl rfl rfl rfl (cells_rowA (sz:=3) (enc:=encSaved) 0 (fun _=>rfl) rfl) (by simp [encSaved,Value.oneCell']) (fun _=>⟨⟨1,rfl⟩,⟨11,rfl⟩,trivial⟩) fun v12=>?_
 refine SL.nchk (.r rfl) rfl (SL.fa (.r rfl) rfl fo99_1 (SL.last ?_))
 refine SL.rowV 9 rfl fun hv5 ho4=>?_
 refine SL.stR 1 ⟨rfl,rfl,rfl⟩ rfl rfl rfl sz36 hv5 ho4 rfl trivial (SL.nx (SX.sr (SL.asg (.r rfl) rfl (SL.nx (SX.ret ?_)))))
 obtain rfl:=Option.some.inj h
 exact SQ.fret (res1 rfl rfl) (ret_of (M:=[_,_,_,_,_,_,_,_,_,_]) ⟨v12,v7,rfl,rfl⟩ fun _ hw=>HpOk.pick (H:=[_,_,_,_,_,_,_,_,_,_,_,_]) hw [1,9,10,2,7,8,3,4,5,6] 12 rfl)


end Go.Proofs.YtkibffdipniemaaGreatDoor

/- grove.reader.page, tied; where grove.Load says that a page is. Condition: the plain functions yield. -/
namespace Go.Proofs.YtkibffdipniemaaGreatDoor
open Go
variable {K:Nat→Prop} {w0:World} {H:List Chunk}

def pgF (n:Nat) (T:List UInt32):Nat→LdA→VltA→DevA→RefA→Option (Int×LdA)
 | 0=>fun _ _ _ _=>none
 | f+1=>f_gpg (pgF n T f) n T
theorem c_pgF (n:Nat) (T:List UInt32):∀(f:Nat) {K:Nat→Prop} {w0:World} {H:List Chunk} {b0_:Nat} {v0x1_:Value} {v0x2_:Value} {b0x0_:Nat} {v0x0x1_:Value} {m0x0x5_:Nat} {b0x0x0_:Nat} {v0x0x0x4_:Value} {m0x0x0x5_:Nat} {m0x0x0x6_:Nat} {p0:LdA} {p0_1:VltA} {p0_2:DevA} {p1:RefA} {r:Int×LdA},pgF n T f p0 p0_1 p0_2 p1=some r→ShaT K w0 T→Con Tryz.prog K w0 48 [vP b0_ 0,.agg (encRef p1).toArray] [own b0_ (.cells #[vP b0x0_ 0,v0x1_,v0x2_,vI p0.count] 99),rowT 72 3 v0x1_ encSaved p0.out,rowT 79 4 v0x2_ encRow p0.rows,own b0x0_ (.cells #[vP b0x0x0_ 0,v0x0x1_,vU32 p0_1.gen,vU32 p0_1.boot,vU64 p0_1.seals,.map (some m0x0x5_)] 96),rowT 138 2 v0x0x1_ encKey p0_1.ring,mapC m0x0x5_ vU32 vB p0_1.taken,own b0x0x0_ (.cells #[vB p0_2.off,vB p0_2.isCut,vI p0_2.lasts,vI p0_2.counts,v0x0x0x4_,.map (some m0x0x0x5_),.map (some m0x0x0x6_),vU64 p0_2.rcnt,vS p0_2.rtag,vU32 p0_2.rboots] 130),rowT 9 1 v0x0x0x4_ eS p0_2.blocks,mapC m0x0x0x5_ vU32 vS p0_2.pend,mapC m0x0x0x6_ vU32 vB p0_2.bad] H (fun u M=>∃vs0_0_1 vs0_0_2:Value,u=vI r.1∧M=[own b0_ (.cells #[vP b0x0_ 0,vs0_0_1,vs0_0_2,vI r.2.count] 99),rowT 72 3 vs0_0_1 encSaved r.2.out,rowT 79 4 vs0_0_2 encRow r.2.rows,own b0x0_ (.cells #[vP b0x0x0_ 0,v0x0x1_,vU32 p0_1.gen,vU32 p0_1.boot,vU64 p0_1.seals,.map (some m0x0x5_)] 96),rowT 138 2 v0x0x1_ encKey p0_1.ring,mapC m0x0x5_ vU32 vB p0_1.taken,own b0x0x0_ (.cells #[vB p0_2.off,vB p0_2.isCut,vI p0_2.lasts,vI p0_2.counts,v0x0x0x4_,.map (some m0x0x0x5_),.map (some m0x0x0x6_),vU64 p0_2.rcnt,vS p0_2.rtag,vU32 p0_2.rboots] 130),rowT 9 1 v0x0x0x4_ eS p0_2.blocks,mapC m0x0x0x5_ vU32 vS p0_2.pend,mapC m0x0x0x6_ vU32 vB p0_2.bad])
 | 0,_,_,_,_,_,_,_,_,_,_,_,_,_,_,_,_,_,_,h,_=>by cases h
 | f+1,_,_,_,_,_,_,_,_,_,_,_,_,_,_,_,_,_,_,h,hS=>c_gpg h hS (fun h=>c_pgF n T f h hS)
def ldWh (outs:List SavedA):WhO Int:=fun q s=>
 (orO (decide (q=(outs.length:Int))) ((nthI outs q).bind fun x=>some (!decide (x.txt=s)))).bind fun c=>
  cond c (some ((⟨0,[]⟩,61),q)) ((nthI outs (wI (wI (q+1)-1))).bind fun x=>some ((⟨x.page,x.tag⟩,0),wI (q+1)))
abbrev ldC (ba bx br:Nat) (vv vo vr:Value) (cnt:Int) (outs:List SavedA) (_:Value) (q:Int):List Chunk:=
 [own ba (.cells #[vI q] 3),own bx (.cells #[vP br 0] 97),own br (.cells #[vv,vo,vr,vI cnt] 99),rowT 72 3 vo encSaved outs]
set_option maxHeartbeats 4000000 in
set_option maxRecDepth 100000 in
theorem c_load2 {T:List UInt32} {ba bx br:Nat} {vv vo vr:Value} {cnt:Int} {outs:List SavedA}:WhCon T 52 #[vP ba 0,vP bx 0] (ldC ba bx br vv vo vr cnt outs) (ldWh outs):=by
 intro K w0 H a q s r hS h
 unfold ldWh at h
 obtain ⟨c,hc,h⟩:=bnd h
 refine Con.enter Tryz.func52 rfl rfl ?_
 show SX _ _ _ _ _ _ _ _ _ (ldC ba bx br vv vo vr cnt outs a q++H)
 refine SX.sr ?_
 refine SL.alloc (.r rfl) ze31 (fun _=>trivial) fun b0=>?_
 refine SL.asg (.r rfl) rfl (SL.nx (SX.seq (SX.seq (SX.drawI mix [1,2,3,4] (Pl.of [(true,0),(true,1),(true,2),(true,3),(true,4),(true,5),(true,6),(true,7),(true,8),(true,9),(true,10),(true,11),(true,12),(true,13),(true,14),(true,15),(true,16),(true,17),(true,18)]) (by kernel_rfl) (SL.ld (.r rfl) sc3 rfl (cell_own 0 rfl rfl) (SL.ld (.r rfl) sc97 rfl (cell_own 1 rfl rfl) (SL.nchk (.r rfl) rfl (SL.fa (.r rfl) rfl fo99_1 (SL.ld (.r rfl) sc36 rfl (cell_own 2 rfl rfl) (SL.lenT 3 (.r rfl) ty36 rfl rfl ?_))))))))))
 refine SL.bin (.r rfl) rfl rfl Bin.eqI (SL.mv (.r rfl) rfl ?_)
 refine SL.orN 13 11 24 hc rfl (fun hb k=>?_) (fun hb hg k=>?_) ?_
 refine SL.pass rfl rfl rfl (SL.pass rfl rfl rfl (SL.pass rfl rfl rfl (SL.pass rfl rfl rfl (SL.pass rfl rfl rfl (SL.pass rfl rfl rfl (SL.pass rfl rfl rfl (SL.pass rfl rfl rfl ?_)))))))
 refine SL.pass rfl rfl rfl (SL.pass rfl rfl rfl (SL.pk (.r rfl) rfl rfl ?_))
 exact k.mono (by repeat' (first | exact trivial | refine And.intro rfl ?_))
 obtain ⟨x,hx,hg⟩:=bnd hg
 obtain rfl:=Option.some.inj hg
 refine SL.ld (.r rfl) sc97 rfl (cell_own 1 rfl rfl) (SL.nchk (.r rfl) rfl (SL.fa (.r rfl) rfl fo99_1 (SL.ld (.r rfl) sc36 rfl (cell_own 2 rfl rfl) (SL.ld (.r rfl) sc3 rfl (cell_own 0 rfl rfl) ?_))))
 refine SL.iaT 4 hx (.r rfl) ty36 sz72 rfl rfl rfl fun g1 m1 cp1 hv1=>?_
 refine SL.fa (.r rfl) rfl fo72_0 ?_
 refine SL.ld (.r rfl) sc9 rfl (cell_rowT (sz:=3) (enc:=encSaved) 3 0 (fun _=>rfl) rfl hv1 hx rfl) ?_
 refine SL.mv (.r rfl) rfl (SL.bin (.r rfl) rfl rfl Bin.neS (SL.pk (.r rfl) rfl rfl ?_))
 exact k.mono (by repeat' (first | exact trivial | refine And.intro rfl ?_))
 refine SL.nx ?_
 refine SX.cond rfl (fun hc1=>?_) (fun hc1=>?_)
 replace h:=cT hc1 h
 obtain rfl:=Option.some.inj h
 refine SX.sr (SL.bld [] (.r rfl) pl31 pk31 ze31 trivial rfl (SL.st 0 ⟨rfl,rfl,rfl⟩ rfl rfl rfl sz31 rfl rfl rfl trivial (SL.asg (.r rfl) rfl (SL.nx (SX.ret (SQ.thnR ?_))))))
 exact SQ.fret (resv2 rfl (resv.ag 0 (encRef ⟨0,[]⟩) ag31 rfl rfl rfl rfl) rfl) (ret_of (M:=ldC ba bx br vv vo vr cnt outs a q) ⟨rfl,a,rfl⟩ fun _ hw=>HpOk.pick (H:=[_]) hw [] 1 rfl)
 replace h:=cF hc1 h
 obtain ⟨x,hx,h⟩:=bnd h
 obtain rfl:=Option.some.inj h
 refine SX.skip (SQ.thn (SX.sr (SL.ld (.r rfl) sc3 rfl (cell_own 1 rfl rfl) (SL.bin (.r rfl) rfl rfl Bin.addW (SL.st 1 ⟨rfl,rfl,rfl⟩ rfl rfl rfl sz3 rfl rfl rfl trivial (SL.nx (SX.seq (SX.drawI mix [1,2,3,4] (Pl.ap [(true,0),(true,1),(true,2),(true,3),(true,4),(true,5),(true,6),(true,7),(true,8)] (.last 9 (Pl.of [(false,10)]))) (by kernel_rfl) (SL.ld (.r rfl) sc97 rfl (cell_own 1 rfl rfl) (SL.nchk (.r rfl) rfl (SL.fa (.r rfl) rfl fo99_1 (SL.ld (.r rfl) sc36 rfl (cell_own 2 rfl rfl) ?_))))))))))))
 refine SL.ld (.r rfl) sc3 rfl (cell_own 0 rfl rfl) (SL.bin (.r rfl) rfl rfl Bin.subW ?_)
 refine SL.iaT 4 hx (.r rfl) ty36 sz72 rfl rfl rfl fun g1 m1 cp1 hv1=>?_
 refine SL.fa (.r rfl) rfl fo72_1 ?_
 refine SL.ldA [vU32 x.page,vS x.tag] (.r rfl) ag31 rfl rfl (cells_rowS (sz:=3) (enc:=encSaved) 3 (fun _=>rfl) rfl hv1 hx rfl) ?_
 refine SL.last (SL.st 0 ⟨rfl,rfl,rfl⟩ rfl rfl rfl sz31 rfl rfl rfl trivial (SL.asg (.r rfl) rfl (SL.nx (SX.ret ?_))))
 exact SQ.fret (resv2 rfl (resv.ag 0 (encRef ⟨x.page,x.tag⟩) ag31 rfl rfl rfl rfl) rfl) (ret_of (M:=ldC ba bx br vv vo vr cnt outs a (wI (q+1))) ⟨rfl,a,rfl⟩ fun _ hw=>HpOk.pick (H:=[_]) hw [] 1 rfl)
end Go.Proofs.YtkibffdipniemaaGreatDoor

/- grove.Load. Condition: the plain function yields. -/
namespace Go.Proofs.YtkibffdipniemaaGreatDoor
open Go
variable {K:Nat→Prop} {w0:World} {H:List Chunk}

def refEq (a b:RefA):Bool:=decide (a.page=b.page)&&(decide (a.tag=b.tag)&&true)
def loadF (n:Nat) (T:List UInt32) (p0:VltA) (p0_1:DevA) (p1:RefA):Option (List RowA×List SavedA×Int):=
 (pgF n T n ⟨[],[],0⟩ p0 p0_1 p1).bind fun y=>cond (!decide (y.1=0)) (some ([],[],y.1))
  ((f_sst n y.2.rows).bind fun l=>(buildF n l).bind fun b=>cond (!decide (b.2=0)) (some ([],[],61))
   ((plNode n (ldWh y.2.out) n b.1 ⟨[],0⟩ 0).bind fun z=>cond ((!decide (z.2.1.wrong=0) || !decide (z.2.2=(y.2.out.length:Int))) || !refEq z.1 p1) (some ([],[],61)) (some (l,y.2.out,0))))
set_option maxHeartbeats 16000000 in
set_option maxRecDepth 100000 in
theorem w_load {n:Nat} {T:List UInt32} {b0_:Nat} {v0x1_:Value} {m0x5_:Nat} {b0x0_:Nat} {v0x0x4_:Value} {m0x0x5_:Nat} {m0x0x6_:Nat} {p0:VltA} {p0_1:DevA} {p1:RefA} {r:List RowA×List SavedA×Int} (h:loadF n T p0 p0_1 p1=some r) (hS:ShaT K w0 T):
  Con Tryz.prog K w0 15 [vP b0_ 0,.agg (encRef p1).toArray] (vltO ⟨b0_,v0x1_,m0x5_,b0x0_,v0x0x4_,m0x0x5_,m0x0x6_⟩ p0 p0_1) H (fun u M=>∃v0 v1:Value,u=.tuple #[v0,v1,vI r.2.2]∧M=rowT 79 4 v0 encRow r.1::rowT 72 3 v1 encSaved r.2.1::vltO ⟨b0_,v0x1_,m0x5_,b0x0_,v0x0x4_,m0x0x5_,m0x0x6_⟩ p0 p0_1):=by
 unfold loadF at h
 obtain ⟨⟨ye,y⟩,hy,h1⟩:=bnd h
 clear h
 dsimp only at h1
 refine Con.enter Tryz.func15 rfl rfl ?_
 show SX _ _ _ _ _ _ _ _ _ (vltO ⟨b0_,v0x1_,m0x5_,b0x0_,v0x0x4_,m0x0x5_,m0x0x6_⟩ p0 p0_1++H)
 refine SX.sr ?_
 refine SL.box (.r rfl) rfl (fun _=>trivial) fun b0=>?_
 refine SL.asg (.r rfl) rfl (SL.asg (.r rfl) rfl (SL.asg (.r rfl) rfl (SL.nx (SX.seq (SX.sr (SL.mv (.r rfl) rfl (SL.eqPN (.r rfl) ty24 rfl rfl (SL.nx (SX.condF rfl (SX.skip (SQ.thn (SX.sr (SL.mv (.r rfl) rfl (SL.bld [_] (.r rfl) pl99 pk99 ze99 ⟨rfl,trivial⟩ rfl ?_))))))))))))))
 refine SL.box (.r rfl) rfl (fun _=>trivial) fun b1=>?_
 refine SL.reAt 0 (own b1 (.cells #[vP b0_ 0,.slice none 0 0,.slice none 0 0,vI 0] 99)) ?_
 refine SL.alloc (.r rfl) ze97 (fun _=>trivial) fun b2=>?_
 refine SL.st 0 ⟨rfl,rfl,rfl⟩ rfl rfl rfl sz97 rfl rfl rfl trivial (SL.reAt 0 (own b2 (.cells #[vP b1 0] 97)) (SL.nilT 79 4 encRow (SL.nilT 72 3 encSaved (SL.nx (SX.seq (SX.sr (SL.ld (.r rfl) sc97 rfl (cell_own 2 rfl rfl) (SL.ldA (encRef p1) (.r rfl) ag31 rfl rfl (cells_all 4 rfl) (SL.pick [3,0,1,5,6,7,8,9,10,11,2,4] 12 ?_)))))))))
 have hcon:=c_pgF (K:=K) (w0:=w0) (H:=(own b2 (.cells #[vP b1 0] 97)::own b0 (.cells #[vU32 p1.page,vS p1.tag] 31)::H)++[marks []]) (b0_:=b1) (v0x1_:=.slice none 0 0) (v0x2_:=.slice none 0 0) (b0x0_:=b0_) (v0x0x1_:=v0x1_) (m0x0x5_:=m0x5_) (b0x0x0_:=b0x0_) (v0x0x0x4_:=v0x0x4_) (m0x0x0x5_:=m0x0x5_) (m0x0x0x6_:=m0x0x6_) n T n hy hS
 refine SL.call (vs:=[_,_]) (Hin:=own b1 (.cells #[vP b0_ 0,.slice none 0 0,.slice none 0 0,vI 0] 99)::rowT 72 3 (.slice none 0 0) encSaved []::rowT 79 4 (.slice none 0 0) encRow []::vltO ⟨b0_,v0x1_,m0x5_,b0x0_,v0x0x4_,m0x0x5_,m0x0x6_⟩ p0 p0_1) (Hr:=own b2 (.cells #[vP b1 0] 97)::own b0 (.cells #[vU32 p1.page,vS p1.tag] 31)::H) (.r rfl) rfl ⟨rfl,rfl,trivial⟩ cal48 rfl rfl hcon ?_
 rintro _ _ ⟨vo,vr,rfl,rfl⟩
 refine ⟨trivial,?_⟩
 refine SL.asg (.r rfl) rfl (SL.nx (SX.sr (SL.mv (.r rfl) rfl (SL.bin (.r rfl) rfl rfl Bin.neI (SL.nx ?_)))))
 refine SX.cond rfl (fun hc2=>?_) (fun hc2=>?_)
 replace h1:=cT hc2 h1
 obtain rfl:=Option.some.inj h1
 refine SX.sr (SL.mv (.r rfl) rfl (SL.asg (.r rfl) rfl (SL.asg (.r rfl) rfl (SL.asg (.r rfl) rfl (SL.nx (SX.ret (SQ.thnR (SQ.nilT 72 3 encSaved (SQ.nilT 79 4 encRow ?_)))))))))
 exact SQ.fret (res3 rfl rfl rfl rfl) (ret_of (M:=_::_::vltO ⟨b0_,v0x1_,m0x5_,b0x0_,v0x0x4_,m0x0x5_,m0x0x6_⟩ p0 p0_1) ⟨_,_,rfl,rfl⟩ fun _ hw=>HpOk.pick (H:=[_,_,_,_,_,_,_,_,_,_,_,_,_,_]) hw [0,1,5,6,7,8,9,10,11] 14 rfl)
 replace h1:=cF hc2 h1
 obtain ⟨l,hl,h2⟩:=bnd h1
 clear h1
 obtain ⟨⟨b,be⟩,hb,h3⟩:=bnd h2
 clear h2
 dsimp only at h3
 refine SX.skip (SQ.thn (SX.sr (SL.ld (.r rfl) sc97 rfl (cell_own 10 rfl rfl) (SL.nchk (.r rfl) rfl (SL.fa (.r rfl) rfl fo99_2 (SL.ld (.r rfl) sc35 rfl (cell_own 0 rfl rfl) (SL.pick [2,0,1,3,4,5,6,7,8,9,10,11] 12 ?_)))))))
 refine SL.call (vs:=[_,_]) (Hin:=[rowT 79 4 vr encRow y.rows]) (Hr:=_::_::(vltO ⟨b0_,v0x1_,m0x5_,b0x0_,v0x0x4_,m0x0x5_,m0x0x6_⟩ p0 p0_1++(_::_::H))) (.r rfl) rfl ⟨rfl,rfl,trivial⟩ cal49 rfl rfl (c_sst hl) ?_
 rintro _ _ ⟨rfl,rfl⟩
 refine ⟨trivial,?_⟩
 refine SL.nx (SX.sr (SL.ld (.r rfl) sc97 rfl (cell_own 10 rfl rfl) (SL.nchk (.r rfl) rfl (SL.fa (.r rfl) rfl fo99_2 (SL.ld (.r rfl) sc35 rfl (cell_own 1 rfl rfl) ?_)))))
 have hcon2:=Con.lend (K:=K) (w0:=w0) (H:=(own b1 (.cells #[vP b0_ 0,vo,vr,vI y.count] 99)::rowT 72 3 vo encSaved y.out::(vltO ⟨b0_,v0x1_,m0x5_,b0x0_,v0x0x4_,m0x0x5_,m0x0x6_⟩ p0 p0_1++(own b2 (.cells #[vP b1 0] 97)::own b0 (.cells #[vU32 p1.page,vS p1.tag] 31)::H)))++[marks []]) (f:=25) (B:=[rowT 79 4 vr encRow l]) (Hin:=[]) fun K' w1 hkk hB=>
  w_build hb (SlOf.lentT (e:=79) (v:=vr) (fun _=>rfl) (hB _ (by simp)))
 refine SL.call (vs:=[_]) (Hin:=[rowT 79 4 vr encRow l]) (Hr:=own b1 (.cells #[vP b0_ 0,vo,vr,vI y.count] 99)::rowT 72 3 vo encSaved y.out::(vltO ⟨b0_,v0x1_,m0x5_,b0x0_,v0x0x4_,m0x0x5_,m0x0x6_⟩ p0 p0_1++(own b2 (.cells #[vP b1 0] 97)::own b0 (.cells #[vU32 p1.page,vS p1.tag] 31)::H))) (.r rfl) rfl ⟨rfl,trivial⟩ cal25 rfl rfl hcon2 ?_
 rintro _ _ ⟨_,rfl,nv,L,rfl,hnz,rfl⟩
 refine ⟨trivial,?_⟩
 refine SL.mv (.r rfl) rfl (SL.ext (.r rfl) rfl rfl (SL.ext (.r rfl) rfl rfl ?_))
 refine SL.alloc (.r rfl) ze57 (fun _=>trivial) fun b3=>?_
 refine SL.st 0 ⟨rfl,rfl,rfl⟩ rfl rfl rfl sz57 rfl (List.all_eq_true.2 (oneNode nv)) rfl trivial (SL.reAt 0 (own b3 (.cells (encNode nv).toArray 57)) (SL.asg (.r rfl) rfl (SL.nx (SX.seq (SX.sr (SL.mv (.r rfl) rfl (SL.bin (.r rfl) rfl rfl Bin.neI (SL.nx ?_))))))))
 refine SX.cond rfl (fun hc3=>?_) (fun hc3=>?_)
 replace h3:=cT hc3 h3
 obtain rfl:=Option.some.inj h3
 refine SX.sr (SL.asg (.r rfl) rfl (SL.asg (.r rfl) rfl (SL.asg (.r rfl) rfl (SL.nx (SX.ret (SQ.thnR (SQ.nilT 72 3 encSaved (SQ.nilT 79 4 encRow ?_))))))))
 exact SQ.fret (res3 rfl rfl rfl rfl) (ret_of (M:=_::_::vltO ⟨b0_,v0x1_,m0x5_,b0x0_,v0x0x4_,m0x0x5_,m0x0x6_⟩ p0 p0_1) ⟨_,_,rfl,rfl⟩ fun _ hw=>HpOk.pick (H:=[_,_,_,_,_,_,_,_,_,_,_,_,_,_,_,_]) hw [0,1,7,8,9,10,11,12,13] 16 rfl)
 replace h3:=cF hc3 h3
 obtain ⟨z,hz,h4⟩:=bnd h3
 clear h3
 refine SX.skip (SQ.thn (SX.sr ?_))
 refine SL.alloc (.r rfl) ze3 (fun _=>trivial) fun b4=>?_
 refine SL.st 0 ⟨rfl,rfl,rfl⟩ rfl rfl rfl sz3 rfl rfl rfl trivial (SL.reAt 0 (own b4 (.cells #[vI 0] 3)) (SL.nx (SX.sr ?_)))
 refine SL.mkf (fv:=#[]) (cv:=#[_,_]) (.r rfl) rfl rfl ?_
 refine SL.bld [_] (.r rfl) pl106 pk106 ze106 ⟨rfl,trivial⟩ rfl ?_
 refine SL.box (.r rfl) rfl (fun _=>trivial) fun b5=>?_
 refine SL.nilT 72 3 encSaved (SL.asg (.r rfl) rfl (SL.nx ?_))
 have hcon3:=Con.lend (K:=K) (w0:=w0) (H:=(own b3 (.cells (encNode nv).toArray 57)::rowT 79 4 vr encRow l::(vltO ⟨b0_,v0x1_,m0x5_,b0x0_,v0x0x4_,m0x0x5_,m0x0x6_⟩ p0 p0_1++(own b0 (.cells #[vU32 p1.page,vS p1.tag] 31)::H)))++[marks []]) (f:=53) (B:=[fzC L]) (Hin:=plC b5 (.func (.func 52) #[] #[vP b4 0,vP b2 0]) (.slice none 0 0) ⟨[],0⟩::rowT 72 3 (.slice none 0 0) encSaved []::ldC b4 b2 b1 (vP b0_ 0) vo vr y.count y.out vo 0) fun K' w1 hkk hB=>
  c_planter_node (C:=ldC b4 b2 b1 (vP b0_ 0) vo vr y.count y.out) (bp:=b5) (vo:=.slice none 0 0) (ca:=vo) (cs:=#[vP b4 0,vP b2 0]) cal52 c_load2 n (hS.keeps hkk) hz (hnz.lent (hB _ (by simp)))
 generalize hpo:(fun (u:Value) (M:List Chunk)=>∃M',M=[fzC L]++M'∧(u=.agg (encRef z.1).toArray∧∃vo' ca',M'=plC b5 (.func (.func 52) #[] #[vP b4 0,vP b2 0]) vo' z.2.1::rowT 72 3 vo' encSaved z.2.1.out::ldC b4 b2 b1 (vP b0_ 0) vo vr y.count y.out ca' z.2.2))=po at hcon3
 refine SX.seq (SX.sr (SL.mv (.r rfl) rfl (SL.ldA (encNode nv) (.r rfl) ag57 rfl rfl (cells_all 3 rfl) (SL.pick [5,1,0,2,15,6,7,3,4,8,9,10,11,12,13,14,16] 17 ?_))))
 refine SL.call (vs:=[_,_]) (Hin:=[fzC L]++(plC b5 (.func (.func 52) #[] #[vP b4 0,vP b2 0]) (.slice none 0 0) ⟨[],0⟩::rowT 72 3 (.slice none 0 0) encSaved []::ldC b4 b2 b1 (vP b0_ 0) vo vr y.count y.out vo 0)) (Hr:=own b3 (.cells (encNode nv).toArray 57)::rowT 79 4 vr encRow l::(vltO ⟨b0_,v0x1_,m0x5_,b0x0_,v0x0x4_,m0x0x5_,m0x0x6_⟩ p0 p0_1++(own b0 (.cells #[vU32 p1.page,vS p1.tag] 31)::H))) (.r rfl) rfl ⟨rfl,rfl,trivial⟩ cal53 rfl rfl hcon3 ?_
 intro u0 M0 hpost
 rw [←hpo] at hpost
 obtain ⟨_,rfl,rfl,vo2,ca2,rfl⟩:=hpost
 refine ⟨trivial,?_⟩
 refine SL.alloc (.r rfl) ze31 (fun _=>trivial) fun b6=>?_
 refine SL.st 0 ⟨rfl,rfl,rfl⟩ rfl rfl rfl sz31 rfl rfl rfl trivial (SL.reAt 0 (own b6 (.cells #[vU32 z.1.page,vS z.1.tag] 31)) (SL.nx (SX.seq (SX.drawI mix [2,4,5,6,7,0,17] (Pl.of [(true,0),(true,1),(true,2),(true,3),(true,4),(true,5),(true,6),(true,7),(true,8),(true,9),(true,10),(true,11),(true,12),(true,13),(true,14),(true,15),(true,16),(true,17),(true,18)]) (by kernel_rfl) (SL.mv (.r rfl) rfl (SL.nchk (.r rfl) rfl (SL.fa (.r rfl) rfl fo106_2 (SL.ld (.r rfl) sc32 rfl (cell_own 0 rfl rfl) (SL.bin (.r rfl) rfl rfl Bin.neI ?_)))))))))
 refine SL.mv (.r rfl) rfl ?_
 refine SL.or (c := !decide (z.2.2=(y.out.length:Int))) 51 8 59 rfl (fun hb k=>?_) (fun hb k=>?_) ?_
 refine SL.pass rfl rfl rfl (SL.pass rfl rfl rfl (SL.pass rfl rfl rfl (SL.pass rfl rfl rfl (SL.pass rfl rfl rfl (SL.pass rfl rfl rfl (SL.pass rfl rfl rfl (SL.pk (.r rfl) rfl rfl ?_)))))))
 exact k.mono (by repeat' (first | exact trivial | refine And.intro rfl ?_))
 refine SL.ld (.r rfl) sc3 rfl (cell_own 1 rfl rfl) (SL.ld (.r rfl) sc97 rfl (cell_own 2 rfl rfl) (SL.nchk (.r rfl) rfl (SL.fa (.r rfl) rfl fo99_1 (SL.ld (.r rfl) sc36 rfl (cell_own 3 rfl rfl) (SL.lenT 4 (.r rfl) ty36 rfl rfl (SL.bin (.r rfl) rfl rfl Bin.neI (SL.pk (.r rfl) rfl rfl ?_)))))))
 exact k.mono (by repeat' (first | exact trivial | refine And.intro rfl ?_))
 refine SL.mv (.r rfl) rfl ?_
 refine SL.or (c := !refEq z.1 p1) 60 4 64 rfl (fun hb k=>?_) (fun hb k=>?_) ?_
 refine SL.pass rfl rfl rfl (SL.pass rfl rfl rfl (SL.pass rfl rfl rfl (SL.pk (.r rfl) rfl rfl ?_)))
 exact k.mono (by repeat' (first | exact trivial | refine And.intro rfl ?_))
 refine SL.ldA (encRef z.1) (.r rfl) ag31 rfl rfl (cells_all 5 rfl) (SL.ldA (encRef p1) (.r rfl) ag31 rfl rfl (cells_all 6 rfl) ?_)
 refine SL.neAgg (.r rfl) fl31 rfl rfl (flatE_cons rfl rfl (eqV_32 (a:=z.1.page) (b:=p1.page)) (flatE_cons rfl rfl (eqV_S (a:=z.1.tag) (b:=p1.tag)) flatE_nil)) ?_
 refine SL.pk (.r rfl) rfl rfl ?_
 exact k.mono (by repeat' (first | exact trivial | refine And.intro rfl ?_))
 refine SL.nx ?_
 refine SX.cond rfl (fun hc4=>?_) (fun hc4=>?_)
 replace h4:=cT hc4 h4
 obtain rfl:=Option.some.inj h4
 refine SX.sr (SL.asg (.r rfl) rfl (SL.asg (.r rfl) rfl (SL.asg (.r rfl) rfl (SL.nx (SX.ret (SQ.thnR (SQ.nilT 72 3 encSaved (SQ.nilT 79 4 encRow ?_))))))))
 exact SQ.fret (res3 rfl rfl rfl rfl) (ret_of (M:=_::_::vltO ⟨b0_,v0x1_,m0x5_,b0x0_,v0x0x4_,m0x0x5_,m0x0x6_⟩ p0 p0_1) ⟨_,_,rfl,rfl⟩ fun _ hw=>HpOk.pick (H:=[_,_,_,_,_,_,_,_,_,_,_,_,_,_,_,_,_,_,_,_]) hw [0,1,12,13,14,15,16,17,18] 20 rfl)
 replace h4:=cF hc4 h4
 obtain rfl:=Option.some.inj h4
 refine SX.skip (SQ.thn (SX.seq (SX.drawI mix [5,6] (Pl.of [(true,0),(true,1),(true,2),(true,3),(true,4),(true,5),(true,6),(true,7),(true,8),(true,9),(true,10)]) (by kernel_rfl) (SL.ld (.r rfl) sc97 rfl (cell_own 0 rfl rfl) (SL.nchk (.r rfl) rfl (SL.fa (.r rfl) rfl fo99_2 (SL.ld (.r rfl) sc35 rfl (cell_own 1 rfl rfl) (SL.ld (.r rfl) sc97 rfl (cell_own 0 rfl rfl) (SL.nchk (.r rfl) rfl (SL.fa (.r rfl) rfl fo99_1 ?_))))))))))
 refine SL.ld (.r rfl) sc36 rfl (cell_own 1 rfl rfl) (SL.asg (.r rfl) rfl (SL.asg (.r rfl) rfl (SL.asg (.r rfl) rfl (SL.nx (SX.ret ?_)))))
 exact SQ.fret (res3 rfl rfl rfl rfl) (ret_of (M:=rowT 79 4 vr encRow l::rowT 72 3 vo encSaved y.out::vltO ⟨b0_,v0x1_,m0x5_,b0x0_,v0x0x4_,m0x0x5_,m0x0x6_⟩ p0 p0_1) ⟨_,_,rfl,rfl⟩ fun _ hw=>HpOk.pick (H:=[_,_,_,_,_,_,_,_,_,_,_,_,_,_,_,_,_,_]) hw [9,7,10,11,12,13,14,15,16] 18 rfl)
end Go.Proofs.YtkibffdipniemaaGreatDoor
