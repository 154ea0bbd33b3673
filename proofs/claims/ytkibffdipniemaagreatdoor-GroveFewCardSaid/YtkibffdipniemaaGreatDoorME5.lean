/- The texts GG5, GG6, GG7, GG8, GG9, GG10, GG11, GG12, GG13, LG2, LG3, LG4, LG5, LG6, S24, GG14, GG15, GG16, GG17, GG18, GG19, one behind the other: each bears its own sentence. Conditions: as each says. -/
import Derived.Test.YtkibffdipniemaaGreatDoorME1
import Derived.Test.YtkibffdipniemaaGreatDoorME2
import Derived.Test.YtkibffdipniemaaGreatDoorME3
import Derived.Test.YtkibffdipniemaaGreatDoorME4

set_option linter.unusedVariables false
set_option linter.unusedSimpArgs false
set_option maxHeartbeats 1000000
/- Rows as a tree: quad.tree, quad.Build. Condition: the plain functions yield. -/
namespace Go.Proofs.YtkibffdipniemaaGreatDoor
open Go
variable {K:Nat→Prop} {w0:World} {H:List Chunk}

abbrev P4:=List RowA×List RowA×List RowA×List RowA
def partStep (c:CellA) (p:P4) (r:RowA):Option P4:=
 (f_cell_Where c r.x r.y).bind fun q=>
  if q.1=0 then (appL 32 p.1 [r]).bind fun l=>some (l,p.2)
  else if q.1=1 then (appL 32 p.2.1 [r]).bind fun l=>some (p.1,l,p.2.2)
  else if q.1=2 then (appL 32 p.2.2.1 [r]).bind fun l=>some (p.1,p.2.1,l,p.2.2.2)
  else if q.1=3 then (appL 32 p.2.2.2 [r]).bind fun l=>some (p.1,p.2.1,p.2.2.1,l)
  else none
theorem partStep_cases {c:CellA} {p p':P4} {r:RowA} (h:partStep c p r=some p'):∃e,
  (f_cell_Where c r.x r.y=some (0,e)∧∃l,appL 32 p.1 [r]=some l∧p'=(l,p.2))∨
  (f_cell_Where c r.x r.y=some (1,e)∧∃l,appL 32 p.2.1 [r]=some l∧p'=(p.1,l,p.2.2))∨
  (f_cell_Where c r.x r.y=some (2,e)∧∃l,appL 32 p.2.2.1 [r]=some l∧p'=(p.1,p.2.1,l,p.2.2.2))∨
  (f_cell_Where c r.x r.y=some (3,e)∧∃l,appL 32 p.2.2.2 [r]=some l∧p'=(p.1,p.2.1,p.2.2.1,l)):=by
 unfold partStep at h
 obtain ⟨⟨i,e⟩,hq,h⟩:=bnd h
 dsimp only at h
 refine ⟨e,?_⟩
 split at h
 rename_i hi
 subst hi
 obtain ⟨l,hl,h⟩:=bnd h
 exact .inl ⟨hq,l,hl,(Option.some.inj h).symm⟩
 split at h
 rename_i hi
 subst hi
 obtain ⟨l,hl,h⟩:=bnd h
 exact .inr (.inl ⟨hq,l,hl,(Option.some.inj h).symm⟩)
 split at h
 rename_i hi
 subst hi
 obtain ⟨l,hl,h⟩:=bnd h
 exact .inr (.inr (.inl ⟨hq,l,hl,(Option.some.inj h).symm⟩))
 split at h
 rename_i hi
 subst hi
 obtain ⟨l,hl,h⟩:=bnd h
 exact .inr (.inr (.inr ⟨hq,l,hl,(Option.some.inj h).symm⟩))
 cases h
def partsFrom (c:CellA):List RowA→P4→Option P4
 | [],p=>some p
 | r::l,p=>(partStep c p r).bind (partsFrom c l)
def kidsFrom (rec_:List RowA→Option NodeP):List (List RowA)→List NodeP→Option (List NodeP)
 | [],acc=>some acc
 | p::ps,acc=>cond (decide (0<(p.length:Int))) ((rec_ p).bind fun n=>(appL 64 acc [n]).bind fun acc'=>kidsFrom rec_ ps acc') (kidsFrom rec_ ps acc)
def treeF (n:Nat):Nat→List RowA→Option NodeP
 | 0,_=>none
 | f+1,l=>
  if 1048576<l.length then none else cond (decide ((l.length:Int)=0)) (some (.mk 0 0 0 [] []))
   ((f_quad_around n l).bind fun c=>cond (decide ((l.length:Int)≤4)||decide (c.lev=0)) ((cloneO l).bind fun rs=>some (.mk c.x c.y c.lev rs []))
    ((partsFrom c l ([],[],[],[])).bind fun ps=>(kidsFrom (treeF n f) [ps.1,ps.2.1,ps.2.2.1,ps.2.2.2] []).bind fun ks=>some (.mk c.x c.y c.lev [] ks)))
theorem appL_len {α β:Type} {b:Nat} {xs ys us:List α} {xs' ys':List β} (h:appL b xs ys=some us) (h1:xs'.length=xs.length) (h2:ys'.length=ys.length):appL b xs' ys'=some (xs'++ys')∧us=xs++ys:=by
 unfold appL at h ⊢
 split at h
 rename_i hc
 rw [h1,h2,if_pos hc]
 exact ⟨rfl,(Option.some.inj h).symm⟩
 cases h
def KidsFz (L:FzMap) (gs:List NodeV) (ks:List NodeP):Prop:=gs.length=ks.length∧∀(i:Nat) (a:NodeV) (b:NodeP),gs[i]? = some a→ks[i]? = some b→NodeFz L a b
theorem KidsFz.mono {L L':FzMap} {gs:List NodeV} {ks:List NodeP} (h:KidsFz L gs ks) (hs:∀p∈L,p∈L'):KidsFz L' gs ks:=⟨h.1,fun i a b ha hb=>(h.2 i a b ha hb).mono hs⟩
theorem KidsFz.snoc {L:FzMap} {gs:List NodeV} {ks:List NodeP} {a:NodeV} {n:NodeP} (h:KidsFz L gs ks) (hn:NodeFz L a n):KidsFz L (gs++[a]) (ks++[n]):=by
 refine ⟨by simp [h.1],fun i x y hx hy=>?_⟩
 rcases Nat.lt_or_ge i gs.length with hi | hi
 rw [List.getElem?_append_left hi] at hx
 rw [List.getElem?_append_left (by rw [←h.1];exact hi)] at hy
 exact h.2 i x y hx hy
 rw [List.getElem?_append_right hi] at hx
 rw [List.getElem?_append_right (by rw [←h.1];exact hi),←h.1] at hy
 have hz:i-gs.length=0:=by
  have:=(List.getElem?_eq_some_iff.1 hx).1
  simpa using this
 rw [hz] at hx hy
 simp at hx hy
 subst hx hy
 exact hn
set_option maxHeartbeats 8000000 in
set_option maxRecDepth 100000 in
theorem c_tree (n:Nat):∀(f:Nat) {K:Nat→Prop} {w0:World} {H:List Chunk} {v:Value} {l:List RowA} {t:NodeP},treeF n f l=some t→SlOf K w0 encRow 4 v l→
  Con Tryz.prog K w0 62 [v] [] H (fun u M=>∃(nv:NodeV) (L:FzMap),u=.agg (encNode nv).toArray∧NodeFz L nv t∧M=[fzC L])
 | 0,K,w0,H,v,l,t,h,_=>by cases h
 | f+1,K,w0,H,v,l,t,h,hs=>by
  have h:(if 1048576<l.length then none else cond (decide ((l.length:Int)=0)) (some (.mk 0 0 0 [] []))
   ((f_quad_around n l).bind fun c=>cond (decide ((l.length:Int)≤4)||decide (c.lev=0)) ((cloneO l).bind fun rs=>some (.mk c.x c.y c.lev rs []))
    ((partsFrom c l ([],[],[],[])).bind fun ps=>(kidsFrom (treeF n f) [ps.1,ps.2.1,ps.2.2.1,ps.2.2.2] []).bind fun ks=>some (.mk c.x c.y c.lev [] ks))))=some t:=h
  by_cases hbig:1048576<l.length
  rw [if_pos hbig] at h;cases h
  rw [if_neg hbig] at h
  refine Con.enter Tryz.func62 rfl rfl ?_
  refine SX.sr ?_
  refine SL.alloc (.r rfl) ze57 (fun _=>trivial) fun b2=>?_
  refine SL.nx (SX.seq (SX.sr (SL.mv (.r rfl) rfl (SL.lenV hs (.r rfl) ty35 rfl (SL.bin (.r rfl) rfl rfl Bin.eqI (SL.nx ?_))))))
  refine SX.cond rfl (fun hc1=>?_) (fun hc1=>?_)
  rw [hc1,cond_true] at h
  obtain rfl:=Option.some.inj h
  refine SX.sr (SL.bld [] (.r rfl) pl57 pk57 ze57 trivial rfl (SL.st 0 ⟨rfl,rfl,rfl⟩ rfl rfl rfl sz57 rfl rfl rfl trivial (SL.nx (SX.ret (SQ.thnR (SQ.fz0 ?_))))))
  exact SQ.fret (resv1 rfl (resv.ag 1 [vU32 0,vU32 0,vI 0,.slice none 0 0,.slice none 0 0] ag57 rfl rfl rfl rfl)) (ret_of (M:=[_]) ⟨⟨0,0,0,⟨none,0,0⟩,⟨none,0,0⟩⟩,[],rfl,.mk (FzSl.nil fun _=>rfl) (FzSl.nil fun _=>rfl) (kvs:=[]) rfl (fun i a b ha=>by simp at ha),rfl⟩ fun _ hw=>HpOk.pick (H:=[_,_]) hw [0] 2 rfl)
  rw [hc1,cond_false] at h
  obtain ⟨c,hc,h⟩:=bnd h
  refine SX.skip (SQ.thn (SX.sr (SL.mv (.r rfl) rfl ?_)))
  refine SL.call (vs:=[_]) (Hin:=[]) (Hr:=_::_) (.r rfl) rfl ⟨rfl,trivial⟩ cal91 rfl rfl (c_quad_around hc hs) ?_
  rintro _ _ ⟨rfl,rfl⟩
  refine ⟨trivial,?_⟩
  refine SL.bld [_] (.r rfl) pl57 pk57 ze57 ⟨rfl,trivial⟩ rfl ?_
  refine SL.alloc (.r rfl) ze57 (fun _=>trivial) fun b3=>?_
  refine SL.st 0 ⟨rfl,rfl,rfl⟩ rfl rfl rfl sz57 rfl rfl rfl trivial (SL.nx ?_)
  refine SX.re [(0,v),(2,vP b2 0),(3,vP b3 0)] (own b3 (.cells #[vU32 c.x,vU32 c.y,vI c.lev,.slice none 0 0,.slice none 0 0] 57)::own b2 (.cells #[vU32 0,vU32 0,vI 0,.slice none 0 0,.slice none 0 0] 57)::H) ?_ (by repeat' (first | exact trivial | refine And.intro rfl ?_))
  refine SX.seq (SX.sr (SL.mv (.r rfl) rfl (SL.lenV hs (.r rfl) ty35 rfl (SL.bin (.r rfl) rfl rfl Bin.leI (SL.mv (.r rfl) rfl ?_)))))
  refine SL.or (c:=decide (c.lev=0)) 21 5 26 rfl (fun hb k=>?_) (fun hb k=>?_) ?_
  refine SL.pass rfl rfl rfl (SL.pass rfl rfl rfl (SL.pass rfl rfl rfl (SL.pass rfl rfl rfl (SL.pk (.r rfl) rfl rfl ?_))))
  exact k.mono (by repeat' (first | exact trivial | refine And.intro rfl ?_))
  refine SL.fa (.r rfl) rfl fo57_0 (SL.fa (.r rfl) rfl fo54_2 (SL.ld (.r rfl) sc3 rfl (cell_own 0 rfl rfl) (SL.bin (.r rfl) rfl rfl Bin.eqI (SL.pk (.r rfl) rfl rfl ?_))))
  exact k.mono (by repeat' (first | exact trivial | refine And.intro rfl ?_))
  refine SL.nx ?_
  refine SX.cond rfl (fun hc2=>?_) (fun hc2=>?_)
  rw [hc2,cond_true] at h
  obtain ⟨rs,hrs,h⟩:=bnd h
  obtain rfl:=Option.some.inj h
  refine SX.sr (SL.mv (.r rfl) rfl ?_)
  refine SL.call (vs:=[_]) (Hin:=[]) (Hr:=_::_::_) (.r rfl) rfl ⟨rfl,trivial⟩ cal92 rfl rfl (w_clone hrs hs) ?_
  rintro v1 _ ⟨_,rfl,rfl⟩
  refine ⟨trivial,?_⟩
  refine SL.fa (.r rfl) rfl fo57_1 ?_
  refine SL.rowV 0 rfl fun hv1 ho1=>?_
  refine SL.stR 1 ⟨rfl,rfl,rfl⟩ rfl rfl rfl sz35 hv1 ho1 rfl trivial (SL.nx (SX.sr (SL.ldA [vU32 c.x,vU32 c.y,vI c.lev,v1,.slice none 0 0] (.r rfl) ag57 rfl rfl (cells_all 1 rfl) ?_)))
  refine SL.rowS 0 rfl fun s0 hs0=>?_
  subst hs0
  refine SL.st 2 ⟨rfl,rfl,rfl⟩ rfl rfl rfl sz57 rfl (List.all_eq_true.2 (oneNode ⟨c.x,c.y,c.lev,s0,⟨none,0,0⟩⟩)) rfl trivial (SL.nx (SX.ret (SQ.thnR ?_)))
  refine SQ.freeze (fun _=>rfl) fun L hL=>?_
  exact SQ.fret (resv1 rfl (resv.ag 2 [vU32 c.x,vU32 c.y,vI c.lev,s0.val,.slice none 0 0] ag57 rfl rfl rfl rfl)) (ret_of (M:=[_]) ⟨⟨c.x,c.y,c.lev,s0,⟨none,0,0⟩⟩,L,rfl,.mk hL (FzSl.nil fun _=>rfl) (kvs:=[]) rfl (fun i a b ha=>by simp at ha),rfl⟩ fun _ hw=>HpOk.pick (H:=[_,_,_]) hw [0] 3 rfl)
  rw [hc2,cond_false] at h
  obtain ⟨fin,hfin,h⟩:=bnd h
  obtain ⟨ks,hks,h⟩:=bnd h
  obtain rfl:=Option.some.inj h
  refine SX.skip (SQ.thn (SX.sr ?_))
  refine SL.alloc (.r rfl) ze159 (fun _=>trivial) fun b4=>?_
  refine SL.nilT 79 4 encRow (SL.nilT 79 4 encRow (SL.nilT 79 4 encRow (SL.nilT 79 4 encRow (SL.pick [4,0,1,2,3,5,6] 7 (SL.nx (SX.seq (SX.sr (SL.mv (.r rfl) rfl (SL.lenV hs (.r rfl) ty35 rfl (SL.mv (.r rfl) rfl (SL.nx (SX.block ?_))))))))))))
  refine SX.mono (SX.loop (α:=Nat×P4×Value×Value×Value×Value) (fun x=>x.1≤l.length∧partsFrom c (l.drop x.1) x.2.1=some fin) (fun x=>[(2,vP b2 0),(3,vP b3 0),(4,vP b4 0),(31,v),(32,vI l.length),(33,vI x.1)])
   (fun x=>own b4 (.cells #[x.2.2.1,x.2.2.2.1,x.2.2.2.2.1,x.2.2.2.2.2] 159)::rowT 79 4 x.2.2.1 encRow x.2.1.1::rowT 79 4 x.2.2.2.1 encRow x.2.1.2.1::rowT 79 4 x.2.2.2.2.1 encRow x.2.1.2.2.1::rowT 79 4 x.2.2.2.2.2 encRow x.2.1.2.2.2::own b3 (.cells #[vU32 c.x,vU32 c.y,vI c.lev,.slice none 0 0,.slice none 0 0] 57)::own b2 (.cells #[vU32 0,vU32 0,vI 0,.slice none 0 0,.slice none 0 0] 57)::H)
   (fun x=>l.length-x.1) (fun x D hp=>?_) (0,([],[],[],[]),.slice none 0 0,.slice none 0 0,.slice none 0 0,.slice none 0 0) ⟨Nat.zero_le _,hfin⟩) (by repeat' (first | exact trivial | refine And.intro rfl ?_))
  obtain ⟨i,⟨p0,p1,p2,p3⟩,v0,v1,v2,v3⟩:=x
  obtain ⟨hi,hp⟩:=hp
  dsimp only at hi hp ⊢
  refine SX.sr (SL.bin (.r rfl) rfl rfl Bin.ltI (SL.nx (SX.seq ?_)))
  refine SX.cond rfl (fun hc3=>?_) (fun hc3=>?_)
  have hlt:i<l.length:=by have:=of_decide_eq_true hc3;omega
  have hr:nthI l (i:Int)=some l[i]:=by simp [nthI,hlt]
  rw [List.drop_eq_getElem_cons hlt] at hp
  generalize l[i]=r at hr hp
  obtain ⟨p',hst,hp⟩:=bnd hp
  obtain ⟨e,hq⟩:=partStep_cases hst
  refine SX.skip (SQ.thn (SX.seq (SX.block (SX.sr ?_))))
  refine SL.iaN hr hs (.r rfl) ty35 sz79 rfl rfl fun be of_ hcc=>?_
  refine SL.ldA (encRow r) (.r rfl) ag79 rfl rfl (cells_kept hcc) ?_
  refine SL.alloc (.r rfl) ze79 (fun _=>trivial) fun b6=>?_
  refine SL.st 0 ⟨rfl,rfl,rfl⟩ rfl rfl rfl sz79 rfl rfl rfl trivial (SL.nx ?_)
  rcases hq with ⟨hw,u,hu,rfl⟩ | ⟨hw,u,hu,rfl⟩ | ⟨hw,u,hu,rfl⟩ | ⟨hw,u,hu,rfl⟩
  refine SX.sr (SL.fa (.r rfl) rfl fo57_0 (SL.ldA [vU32 c.x,vU32 c.y,vI c.lev] (.r rfl) ag54 rfl rfl (cells_own 6 rfl (by rintro (_ | _ | _ | j) u hj<;>first | exact hj | exact absurd hj (by simp))) (SL.fa (.r rfl) rfl fo79_1 (SL.ld (.r rfl) sc29 rfl (cell_own 0 rfl rfl) (SL.fa (.r rfl) rfl fo79_2 (SL.ld (.r rfl) sc29 rfl (cell_own 0 rfl rfl) ?_))))))
  refine SL.call (vs:=[_,_,_]) (Hin:=[]) (Hr:=_::_::_::_::_::_::_::_::_) (.r rfl) rfl ⟨rfl,rfl,rfl,trivial⟩ cal93 rfl rfl (c_cell_Where hw :) ?_
  rintro _ _ ⟨rfl,rfl⟩
  refine ⟨trivial,?_⟩
  refine SL.mv (.r rfl) rfl (SL.ext (.r rfl) rfl rfl (SL.ext (.r rfl) rfl rfl (SL.asg (.r rfl) rfl (SL.asg (.r rfl) rfl (SL.nx (SX.drawI mix [1,0] (Pl.ap [(true,0),(true,1),(true,2),(true,3),(true,4),(false,5),(false,6),(true,7)] (.last 8 .nil)) (by kernel_rfl) (SL.mv (.r rfl) rfl (SL.mv (.r rfl) rfl ?_))))))))
  refine SL.iaA (n:=0) (.r rfl) ty159 sz35 rfl rfl rfl (by omega) ?_
  refine SL.ld (.r rfl) sc35 rfl (cell_own 0 rfl rfl) (SL.ldA (encRow r) (.r rfl) ag79 rfl rfl (cells_all 1 rfl) ?_)
  refine SL.bsl [_] (.r rfl) ty35 sz79 ze79 ⟨rfl,trivial⟩ rfl rfl rfl (by intro v hv;simp only [List.mem_cons,List.not_mem_nil,or_false] at hv;subst hv;rfl) rfl rfl (fun _=>⟨⟨2,rfl⟩,⟨1,rfl⟩,trivial⟩) fun b7=>?_
  refine SL.ownT encRow 4 ([r]:List RowA) rfl (fun _=>rfl) rfl ?_
  refine SL.appT 3 hu (sz:=4) (enc:=encRow) (fun _=>rfl) (.r rfl) ty35 sz79 by79 ze79 rfl (by decide) rfl rfl rfl rfl (cells_rowA (sz:=4) (enc:=encRow) 0 (fun _=>rfl) rfl) (by simp [encRow,Value.oneCell']) (fun _=>⟨⟨2,rfl⟩,⟨1,rfl⟩,trivial⟩) fun v7=>?_
  refine SL.iaA (n:=0) (.r rfl) ty159 sz35 rfl rfl rfl (by omega) ?_
  refine SL.last ?_
  refine SL.rowV 3 rfl fun hv7 ho7=>?_
  refine SL.stR 2 ⟨rfl,rfl,rfl⟩ rfl rfl rfl sz35 hv7 ho7 rfl trivial (SL.nil (SQ.blk (SQ.thn (SX.region (SL.bin (.r rfl) rfl rfl (Bin.addI (by omega) (by omega)) (SL.mv (.r rfl) rfl (SL.nil ?_)))))))
  exact SQ.again (i+1,(u,p1,p2,p3),v7,v1,v2,v3) ⟨hlt,hp⟩ (by dsimp only;omega) (by repeat' (first | exact trivial | refine And.intro rfl ?_)) (fun _ hw=>HpOk.pick (H:=[_,_,_,_,_,_,_,_,_]) hw [2,3,4,5,6,7,8] 9 rfl)
  refine SX.sr (SL.fa (.r rfl) rfl fo57_0 (SL.ldA [vU32 c.x,vU32 c.y,vI c.lev] (.r rfl) ag54 rfl rfl (cells_own 6 rfl (by rintro (_ | _ | _ | j) u hj<;>first | exact hj | exact absurd hj (by simp))) (SL.fa (.r rfl) rfl fo79_1 (SL.ld (.r rfl) sc29 rfl (cell_own 0 rfl rfl) (SL.fa (.r rfl) rfl fo79_2 (SL.ld (.r rfl) sc29 rfl (cell_own 0 rfl rfl) ?_))))))
  refine SL.call (vs:=[_,_,_]) (Hin:=[]) (Hr:=_::_::_::_::_::_::_::_::_) (.r rfl) rfl ⟨rfl,rfl,rfl,trivial⟩ cal93 rfl rfl (c_cell_Where hw :) ?_
  rintro _ _ ⟨rfl,rfl⟩
  refine ⟨trivial,?_⟩
  refine SL.mv (.r rfl) rfl (SL.ext (.r rfl) rfl rfl (SL.ext (.r rfl) rfl rfl (SL.asg (.r rfl) rfl (SL.asg (.r rfl) rfl (SL.nx (SX.drawI mix [1,0] (Pl.ap [(true,0),(true,1),(true,2),(true,3),(true,4),(false,5),(false,6),(true,7)] (.last 8 .nil)) (by kernel_rfl) (SL.mv (.r rfl) rfl (SL.mv (.r rfl) rfl ?_))))))))
  refine SL.iaA (n:=1) (.r rfl) ty159 sz35 rfl rfl rfl (by omega) ?_
  refine SL.ld (.r rfl) sc35 rfl (cell_own 0 rfl rfl) (SL.ldA (encRow r) (.r rfl) ag79 rfl rfl (cells_all 1 rfl) ?_)
  refine SL.bsl [_] (.r rfl) ty35 sz79 ze79 ⟨rfl,trivial⟩ rfl rfl rfl (by intro v hv;simp only [List.mem_cons,List.not_mem_nil,or_false] at hv;subst hv;rfl) rfl rfl (fun _=>⟨⟨2,rfl⟩,⟨1,rfl⟩,trivial⟩) fun b7=>?_
  refine SL.ownT encRow 4 ([r]:List RowA) rfl (fun _=>rfl) rfl ?_
  refine SL.appT 4 hu (sz:=4) (enc:=encRow) (fun _=>rfl) (.r rfl) ty35 sz79 by79 ze79 rfl (by decide) rfl rfl rfl rfl (cells_rowA (sz:=4) (enc:=encRow) 0 (fun _=>rfl) rfl) (by simp [encRow,Value.oneCell']) (fun _=>⟨⟨2,rfl⟩,⟨1,rfl⟩,trivial⟩) fun v7=>?_
  refine SL.iaA (n:=1) (.r rfl) ty159 sz35 rfl rfl rfl (by omega) ?_
  refine SL.last ?_
  refine SL.rowV 4 rfl fun hv7 ho7=>?_
  refine SL.stR 2 ⟨rfl,rfl,rfl⟩ rfl rfl rfl sz35 hv7 ho7 rfl trivial (SL.nil (SQ.blk (SQ.thn (SX.region (SL.bin (.r rfl) rfl rfl (Bin.addI (by omega) (by omega)) (SL.mv (.r rfl) rfl (SL.nil ?_)))))))
  exact SQ.again (i+1,(p0,u,p2,p3),v0,v7,v2,v3) ⟨hlt,hp⟩ (by dsimp only;omega) (by repeat' (first | exact trivial | refine And.intro rfl ?_)) (fun _ hw=>HpOk.pick (H:=[_,_,_,_,_,_,_,_,_]) hw [2,3,4,5,6,7,8] 9 rfl)
  refine SX.sr (SL.fa (.r rfl) rfl fo57_0 (SL.ldA [vU32 c.x,vU32 c.y,vI c.lev] (.r rfl) ag54 rfl rfl (cells_own 6 rfl (by rintro (_ | _ | _ | j) u hj<;>first | exact hj | exact absurd hj (by simp))) (SL.fa (.r rfl) rfl fo79_1 (SL.ld (.r rfl) sc29 rfl (cell_own 0 rfl rfl) (SL.fa (.r rfl) rfl fo79_2 (SL.ld (.r rfl) sc29 rfl (cell_own 0 rfl rfl) ?_))))))
  refine SL.call (vs:=[_,_,_]) (Hin:=[]) (Hr:=_::_::_::_::_::_::_::_::_) (.r rfl) rfl ⟨rfl,rfl,rfl,trivial⟩ cal93 rfl rfl (c_cell_Where hw :) ?_
  rintro _ _ ⟨rfl,rfl⟩
  refine ⟨trivial,?_⟩
  refine SL.mv (.r rfl) rfl (SL.ext (.r rfl) rfl rfl (SL.ext (.r rfl) rfl rfl (SL.asg (.r rfl) rfl (SL.asg (.r rfl) rfl (SL.nx (SX.drawI mix [1,0] (Pl.ap [(true,0),(true,1),(true,2),(true,3),(true,4),(false,5),(false,6),(true,7)] (.last 8 .nil)) (by kernel_rfl) (SL.mv (.r rfl) rfl (SL.mv (.r rfl) rfl ?_))))))))
  refine SL.iaA (n:=2) (.r rfl) ty159 sz35 rfl rfl rfl (by omega) ?_
  refine SL.ld (.r rfl) sc35 rfl (cell_own 0 rfl rfl) (SL.ldA (encRow r) (.r rfl) ag79 rfl rfl (cells_all 1 rfl) ?_)
  refine SL.bsl [_] (.r rfl) ty35 sz79 ze79 ⟨rfl,trivial⟩ rfl rfl rfl (by intro v hv;simp only [List.mem_cons,List.not_mem_nil,or_false] at hv;subst hv;rfl) rfl rfl (fun _=>⟨⟨2,rfl⟩,⟨1,rfl⟩,trivial⟩) fun b7=>?_
  refine SL.ownT encRow 4 ([r]:List RowA) rfl (fun _=>rfl) rfl ?_
  refine SL.appT 5 hu (sz:=4) (enc:=encRow) (fun _=>rfl) (.r rfl) ty35 sz79 by79 ze79 rfl (by decide) rfl rfl rfl rfl (cells_rowA (sz:=4) (enc:=encRow) 0 (fun _=>rfl) rfl) (by simp [encRow,Value.oneCell']) (fun _=>⟨⟨2,rfl⟩,⟨1,rfl⟩,trivial⟩) fun v7=>?_
  refine SL.iaA (n:=2) (.r rfl) ty159 sz35 rfl rfl rfl (by omega) ?_
  refine SL.last ?_
  refine SL.rowV 5 rfl fun hv7 ho7=>?_
  refine SL.stR 2 ⟨rfl,rfl,rfl⟩ rfl rfl rfl sz35 hv7 ho7 rfl trivial (SL.nil (SQ.blk (SQ.thn (SX.region (SL.bin (.r rfl) rfl rfl (Bin.addI (by omega) (by omega)) (SL.mv (.r rfl) rfl (SL.nil ?_)))))))
  exact SQ.again (i+1,(p0,p1,u,p3),v0,v1,v7,v3) ⟨hlt,hp⟩ (by dsimp only;omega) (by repeat' (first | exact trivial | refine And.intro rfl ?_)) (fun _ hw=>HpOk.pick (H:=[_,_,_,_,_,_,_,_,_]) hw [2,3,4,5,6,7,8] 9 rfl)
  refine SX.sr (SL.fa (.r rfl) rfl fo57_0 (SL.ldA [vU32 c.x,vU32 c.y,vI c.lev] (.r rfl) ag54 rfl rfl (cells_own 6 rfl (by rintro (_ | _ | _ | j) u hj<;>first | exact hj | exact absurd hj (by simp))) (SL.fa (.r rfl) rfl fo79_1 (SL.ld (.r rfl) sc29 rfl (cell_own 0 rfl rfl) (SL.fa (.r rfl) rfl fo79_2 (SL.ld (.r rfl) sc29 rfl (cell_own 0 rfl rfl) ?_))))))
  refine SL.call (vs:=[_,_,_]) (Hin:=[]) (Hr:=_::_::_::_::_::_::_::_::_) (.r rfl) rfl ⟨rfl,rfl,rfl,trivial⟩ cal93 rfl rfl (c_cell_Where hw :) ?_
  rintro _ _ ⟨rfl,rfl⟩
  refine ⟨trivial,?_⟩
  refine SL.mv (.r rfl) rfl (SL.ext (.r rfl) rfl rfl (SL.ext (.r rfl) rfl rfl (SL.asg (.r rfl) rfl (SL.asg (.r rfl) rfl (SL.nx (SX.drawI mix [1,0] (Pl.ap [(true,0),(true,1),(true,2),(true,3),(true,4),(false,5),(false,6),(true,7)] (.last 8 .nil)) (by kernel_rfl) (SL.mv (.r rfl) rfl (SL.mv (.r rfl) rfl ?_))))))))
  refine SL.iaA (n:=3) (.r rfl) ty159 sz35 rfl rfl rfl (by omega) ?_
  refine SL.ld (.r rfl) sc35 rfl (cell_own 0 rfl rfl) (SL.ldA (encRow r) (.r rfl) ag79 rfl rfl (cells_all 1 rfl) ?_)
  refine SL.bsl [_] (.r rfl) ty35 sz79 ze79 ⟨rfl,trivial⟩ rfl rfl rfl (by intro v hv;simp only [List.mem_cons,List.not_mem_nil,or_false] at hv;subst hv;rfl) rfl rfl (fun _=>⟨⟨2,rfl⟩,⟨1,rfl⟩,trivial⟩) fun b7=>?_
  refine SL.ownT encRow 4 ([r]:List RowA) rfl (fun _=>rfl) rfl ?_
  refine SL.appT 6 hu (sz:=4) (enc:=encRow) (fun _=>rfl) (.r rfl) ty35 sz79 by79 ze79 rfl (by decide) rfl rfl rfl rfl (cells_rowA (sz:=4) (enc:=encRow) 0 (fun _=>rfl) rfl) (by simp [encRow,Value.oneCell']) (fun _=>⟨⟨2,rfl⟩,⟨1,rfl⟩,trivial⟩) fun v7=>?_
  refine SL.iaA (n:=3) (.r rfl) ty159 sz35 rfl rfl rfl (by omega) ?_
  refine SL.last ?_
  refine SL.rowV 6 rfl fun hv7 ho7=>?_
  refine SL.stR 2 ⟨rfl,rfl,rfl⟩ rfl rfl rfl sz35 hv7 ho7 rfl trivial (SL.nil (SQ.blk (SQ.thn (SX.region (SL.bin (.r rfl) rfl rfl (Bin.addI (by omega) (by omega)) (SL.mv (.r rfl) rfl (SL.nil ?_)))))))
  exact SQ.again (i+1,(p0,p1,p2,u),v0,v1,v2,v7) ⟨hlt,hp⟩ (by dsimp only;omega) (by repeat' (first | exact trivial | refine And.intro rfl ?_)) (fun _ hw=>HpOk.pick (H:=[_,_,_,_,_,_,_,_,_]) hw [2,3,4,5,6,7,8] 9 rfl)
  have hle:i=l.length:=by have:=of_decide_eq_false hc3;omega
  subst hle
  rw [List.drop_length] at hp
  obtain rfl:=Option.some.inj hp
  refine SX.exit (SQ.thnE (SQ.lpE (SQ.blkE (SQ.thn (SX.seq (SX.sr (SL.ldA [v0,v1,v2,v3] (.r rfl) ag159 rfl rfl (cells_all 0 rfl) (SL.mv (.r rfl) rfl (SL.nx (SX.nilT 57 5 encNode (SX.fz0 (SX.block ?_))))))))))))
  refine SX.heap (SX.mono (SX.loop (α:=Nat×List NodeV×List NodeP×Value×FzMap) (fun x=>x.1≤4∧kidsFrom (treeF n f) ([p0,p1,p2,p3].drop x.1) x.2.2.1=some ks∧KidsFz x.2.2.2.2 x.2.1 x.2.2.1) (fun x=>[(2,vP b2 0),(3,vP b3 0),(56,.agg #[v0,v1,v2,v3]),(57,vI x.1)])
   (fun x=>fzC x.2.2.2.2::rowT 57 5 x.2.2.2.1 encNode x.2.1::rowT 79 4 v0 encRow p0::rowT 79 4 v1 encRow p1::rowT 79 4 v2 encRow p2::rowT 79 4 v3 encRow p3::own b3 (.cells #[vU32 c.x,vU32 c.y,vI c.lev,.slice none 0 0,x.2.2.2.1] 57)::own b2 (.cells #[vU32 0,vU32 0,vI 0,.slice none 0 0,.slice none 0 0] 57)::H)
   (fun x=>4-x.1) (fun x D hp=>?_) (0,[],[],.slice none 0 0,[]) ⟨Nat.zero_le _,hks,rfl,fun i a b ha=>by simp at ha⟩) (by repeat' (first | exact trivial | refine And.intro rfl ?_))) (fun _ hw=>HpOk.pick (H:=[_,_,_,_,_,_,_,_,_]) hw [0,1,3,4,5,6,7,8] 9 rfl)
  obtain ⟨i,gs,ks',kv,L⟩:=x
  obtain ⟨hi,hkf,hkz⟩:=hp
  dsimp only at hi hkf hkz ⊢
  refine SX.sr (SL.bin (.r rfl) rfl rfl Bin.ltI (SL.nx (SX.seq ?_)))
  refine SX.cond rfl (fun hc4=>?_) (fun hc4=>?_)
  have hlt:i<4:=by have:=of_decide_eq_true hc4;omega
  clear hc4
  refine SX.skip (SQ.thn (SX.seq (SX.block ?_)))
  obtain rfl | rfl | rfl | rfl:i=0∨i=1∨i=2∨i=3:=by omega
  refine SX.sr ?_
  refine SL.ixA (i:=0) (.r rfl) ty159 sc35 rfl rfl rfl (by omega) rfl ?_
  refine SL.asg (.r rfl) rfl (SL.nx (SX.sr (SL.mv (.r rfl) rfl (SL.lenT 2 (.r rfl) ty35 rfl rfl (SL.bin (.r rfl) rfl rfl Bin.gtI (SL.nx ?_))))))
  have hkf:cond (decide (0<(p0.length:Int))) ((treeF n f p0).bind fun n'=>(appL 64 ks' [n']).bind fun acc'=>kidsFrom (treeF n f) ([p0,p1,p2,p3].drop (0+1)) acc') (kidsFrom (treeF n f) ([p0,p1,p2,p3].drop (0+1)) ks')=some ks:=hkf
  refine SX.cond rfl (fun hc5=>?_) (fun hc5=>?_)
  rw [hc5,cond_true] at hkf
  obtain ⟨nd,hnd,hkf⟩:=bnd hkf
  obtain ⟨acc,hacc,hkf⟩:=bnd hkf
  refine SX.drawI mix [6] (Pl.ap [(true,0),(true,1),(true,2),(false,3),(false,4),(false,5),(true,6)] (.last 7 .nil)) (by kernel_rfl) (SL.fa (.r rfl) rfl fo57_2 (SL.ld (.r rfl) sc55 rfl (cell_own 0 rfl rfl) (SL.mv (.r rfl) rfl (SL.pick [2,0,1,3,4,5,6,7] 8 ?_))))
  refine SL.call (vs:=[_]) (Hin:=[_]) (Hr:=_::_::_::_::_::_::_::_) (.r rfl) rfl ⟨rfl,trivial⟩ cal62 rfl rfl (Con.lend (B:=[_]) (Hin:=[]) fun K' w1 hk hB=>c_tree n f hnd (SlOf.lentT (e:=79) (fun _=>rfl) (hB _ (by simp)))) ?_
  rintro _ _ ⟨_,rfl,nv,L2,rfl,hnz,rfl⟩
  refine ⟨⟨⟨7,rfl⟩,trivial⟩,?_⟩
  obtain ⟨hg,rfl⟩:=appL_len (xs':=gs) (ys':=[nv]) hacc hkz.1 rfl
  refine SL.bsl [_] (.r rfl) ty55 sz57 ze57 ⟨rfl,trivial⟩ rfl rfl rfl (by intro v hv;simp only [List.mem_cons,List.not_mem_nil,or_false] at hv;subst hv;rfl) rfl rfl (fun _=>⟨⟨7+1,rfl⟩,trivial⟩) fun b7=>?_
  refine SL.ownT encNode 5 ([nv]:List NodeV) rfl (fun _=>rfl) rfl ?_
  refine SL.appT 4 hg (sz:=5) (enc:=encNode) (fun _=>rfl) (.r rfl) ty55 sz57 by57 ze57 rfl (by decide) rfl rfl rfl rfl (cells_rowA (sz:=5) (enc:=encNode) 0 (fun _=>rfl) rfl) oneNode (fun _=>⟨⟨7+1,rfl⟩,trivial⟩) fun v7=>?_
  refine SL.fa (.r rfl) rfl fo57_2 (SL.last ?_)
  refine SL.rowV 4 rfl fun hv7 ho7=>?_
  refine SL.stR (7+1) ⟨rfl,rfl,rfl⟩ rfl rfl rfl sz55 hv7 ho7 rfl trivial (SL.nil (SQ.blk (SQ.thn ?_)))
  refine SX.heap (H':=fzC L::fzC L2::rowT 57 5 v7 encNode (gs++[nv])::rowT 79 4 v0 encRow p0::rowT 79 4 v1 encRow p1::rowT 79 4 v2 encRow p2::rowT 79 4 v3 encRow p3::own b3 (.cells #[vU32 c.x,vU32 c.y,vI c.lev,.slice none 0 0,v7] 57)::own b2 (.cells #[vU32 0,vU32 0,vI 0,.slice none 0 0,.slice none 0 0] 57)::H) (SX.fzJoin ?_) (fun _ hw=>HpOk.pick (H:=[_,_,_,_,_,_,_,_,_,_]) hw [3,2,4,1,5,6,7,8,9] 10 rfl)
  refine SX.region (SL.bin (.r rfl) rfl rfl (Bin.addI (by omega) (by omega)) (SL.mv (.r rfl) rfl (SL.nil ?_)))
  exact SQ.again (0+1,gs++[nv],ks'++[nd],v7,L++L2) ⟨by omega,hkf,(hkz.mono fun p hp=>List.mem_append_left _ hp).snoc (hnz.mono fun p hp=>List.mem_append_right _ hp)⟩ (by dsimp only;omega) (by repeat' (first | exact trivial | refine And.intro rfl ?_)) (fun _ h=>h)
  rw [hc5,cond_false] at hkf
  refine SX.skip (SQ.blk (SQ.thn (SX.region (SL.bin (.r rfl) rfl rfl (Bin.addI (by omega) (by omega)) (SL.mv (.r rfl) rfl (SL.nil ?_))))))
  exact SQ.again (0+1,gs,ks',kv,L) ⟨by omega,hkf,hkz⟩ (by dsimp only;omega) (by repeat' (first | exact trivial | refine And.intro rfl ?_)) (fun _ h=>h)
  refine SX.sr ?_
  refine SL.ixA (i:=1) (.r rfl) ty159 sc35 rfl rfl rfl (by omega) rfl ?_
  refine SL.asg (.r rfl) rfl (SL.nx (SX.sr (SL.mv (.r rfl) rfl (SL.lenT 3 (.r rfl) ty35 rfl rfl (SL.bin (.r rfl) rfl rfl Bin.gtI (SL.nx ?_))))))
  have hkf:cond (decide (0<(p1.length:Int))) ((treeF n f p1).bind fun n'=>(appL 64 ks' [n']).bind fun acc'=>kidsFrom (treeF n f) ([p0,p1,p2,p3].drop (1+1)) acc') (kidsFrom (treeF n f) ([p0,p1,p2,p3].drop (1+1)) ks')=some ks:=hkf
  refine SX.cond rfl (fun hc5=>?_) (fun hc5=>?_)
  rw [hc5,cond_true] at hkf
  obtain ⟨nd,hnd,hkf⟩:=bnd hkf
  obtain ⟨acc,hacc,hkf⟩:=bnd hkf
  refine SX.drawI mix [6] (Pl.ap [(true,0),(true,1),(true,2),(false,3),(false,4),(false,5),(true,6)] (.last 7 .nil)) (by kernel_rfl) (SL.fa (.r rfl) rfl fo57_2 (SL.ld (.r rfl) sc55 rfl (cell_own 0 rfl rfl) (SL.mv (.r rfl) rfl (SL.pick [3,0,1,2,4,5,6,7] 8 ?_))))
  refine SL.call (vs:=[_]) (Hin:=[_]) (Hr:=_::_::_::_::_::_::_::_) (.r rfl) rfl ⟨rfl,trivial⟩ cal62 rfl rfl (Con.lend (B:=[_]) (Hin:=[]) fun K' w1 hk hB=>c_tree n f hnd (SlOf.lentT (e:=79) (fun _=>rfl) (hB _ (by simp)))) ?_
  rintro _ _ ⟨_,rfl,nv,L2,rfl,hnz,rfl⟩
  refine ⟨⟨⟨7,rfl⟩,trivial⟩,?_⟩
  obtain ⟨hg,rfl⟩:=appL_len (xs':=gs) (ys':=[nv]) hacc hkz.1 rfl
  refine SL.bsl [_] (.r rfl) ty55 sz57 ze57 ⟨rfl,trivial⟩ rfl rfl rfl (by intro v hv;simp only [List.mem_cons,List.not_mem_nil,or_false] at hv;subst hv;rfl) rfl rfl (fun _=>⟨⟨7+1,rfl⟩,trivial⟩) fun b7=>?_
  refine SL.ownT encNode 5 ([nv]:List NodeV) rfl (fun _=>rfl) rfl ?_
  refine SL.appT 4 hg (sz:=5) (enc:=encNode) (fun _=>rfl) (.r rfl) ty55 sz57 by57 ze57 rfl (by decide) rfl rfl rfl rfl (cells_rowA (sz:=5) (enc:=encNode) 0 (fun _=>rfl) rfl) oneNode (fun _=>⟨⟨7+1,rfl⟩,trivial⟩) fun v7=>?_
  refine SL.fa (.r rfl) rfl fo57_2 (SL.last ?_)
  refine SL.rowV 4 rfl fun hv7 ho7=>?_
  refine SL.stR (7+1) ⟨rfl,rfl,rfl⟩ rfl rfl rfl sz55 hv7 ho7 rfl trivial (SL.nil (SQ.blk (SQ.thn ?_)))
  refine SX.heap (H':=fzC L::fzC L2::rowT 57 5 v7 encNode (gs++[nv])::rowT 79 4 v0 encRow p0::rowT 79 4 v1 encRow p1::rowT 79 4 v2 encRow p2::rowT 79 4 v3 encRow p3::own b3 (.cells #[vU32 c.x,vU32 c.y,vI c.lev,.slice none 0 0,v7] 57)::own b2 (.cells #[vU32 0,vU32 0,vI 0,.slice none 0 0,.slice none 0 0] 57)::H) (SX.fzJoin ?_) (fun _ hw=>HpOk.pick (H:=[_,_,_,_,_,_,_,_,_,_]) hw [3,2,4,5,1,6,7,8,9] 10 rfl)
  refine SX.region (SL.bin (.r rfl) rfl rfl (Bin.addI (by omega) (by omega)) (SL.mv (.r rfl) rfl (SL.nil ?_)))
  exact SQ.again (1+1,gs++[nv],ks'++[nd],v7,L++L2) ⟨by omega,hkf,(hkz.mono fun p hp=>List.mem_append_left _ hp).snoc (hnz.mono fun p hp=>List.mem_append_right _ hp)⟩ (by dsimp only;omega) (by repeat' (first | exact trivial | refine And.intro rfl ?_)) (fun _ h=>h)
  rw [hc5,cond_false] at hkf
  refine SX.skip (SQ.blk (SQ.thn (SX.region (SL.bin (.r rfl) rfl rfl (Bin.addI (by omega) (by omega)) (SL.mv (.r rfl) rfl (SL.nil ?_))))))
  exact SQ.again (1+1,gs,ks',kv,L) ⟨by omega,hkf,hkz⟩ (by dsimp only;omega) (by repeat' (first | exact trivial | refine And.intro rfl ?_)) (fun _ h=>h)
  refine SX.sr ?_
  refine SL.ixA (i:=2) (.r rfl) ty159 sc35 rfl rfl rfl (by omega) rfl ?_
  refine SL.asg (.r rfl) rfl (SL.nx (SX.sr (SL.mv (.r rfl) rfl (SL.lenT 4 (.r rfl) ty35 rfl rfl (SL.bin (.r rfl) rfl rfl Bin.gtI (SL.nx ?_))))))
  have hkf:cond (decide (0<(p2.length:Int))) ((treeF n f p2).bind fun n'=>(appL 64 ks' [n']).bind fun acc'=>kidsFrom (treeF n f) ([p0,p1,p2,p3].drop (2+1)) acc') (kidsFrom (treeF n f) ([p0,p1,p2,p3].drop (2+1)) ks')=some ks:=hkf
  refine SX.cond rfl (fun hc5=>?_) (fun hc5=>?_)
  rw [hc5,cond_true] at hkf
  obtain ⟨nd,hnd,hkf⟩:=bnd hkf
  obtain ⟨acc,hacc,hkf⟩:=bnd hkf
  refine SX.drawI mix [6] (Pl.ap [(true,0),(true,1),(true,2),(false,3),(false,4),(false,5),(true,6)] (.last 7 .nil)) (by kernel_rfl) (SL.fa (.r rfl) rfl fo57_2 (SL.ld (.r rfl) sc55 rfl (cell_own 0 rfl rfl) (SL.mv (.r rfl) rfl (SL.pick [4,0,1,2,3,5,6,7] 8 ?_))))
  refine SL.call (vs:=[_]) (Hin:=[_]) (Hr:=_::_::_::_::_::_::_::_) (.r rfl) rfl ⟨rfl,trivial⟩ cal62 rfl rfl (Con.lend (B:=[_]) (Hin:=[]) fun K' w1 hk hB=>c_tree n f hnd (SlOf.lentT (e:=79) (fun _=>rfl) (hB _ (by simp)))) ?_
  rintro _ _ ⟨_,rfl,nv,L2,rfl,hnz,rfl⟩
  refine ⟨⟨⟨7,rfl⟩,trivial⟩,?_⟩
  obtain ⟨hg,rfl⟩:=appL_len (xs':=gs) (ys':=[nv]) hacc hkz.1 rfl
  refine SL.bsl [_] (.r rfl) ty55 sz57 ze57 ⟨rfl,trivial⟩ rfl rfl rfl (by intro v hv;simp only [List.mem_cons,List.not_mem_nil,or_false] at hv;subst hv;rfl) rfl rfl (fun _=>⟨⟨7+1,rfl⟩,trivial⟩) fun b7=>?_
  refine SL.ownT encNode 5 ([nv]:List NodeV) rfl (fun _=>rfl) rfl ?_
  refine SL.appT 4 hg (sz:=5) (enc:=encNode) (fun _=>rfl) (.r rfl) ty55 sz57 by57 ze57 rfl (by decide) rfl rfl rfl rfl (cells_rowA (sz:=5) (enc:=encNode) 0 (fun _=>rfl) rfl) oneNode (fun _=>⟨⟨7+1,rfl⟩,trivial⟩) fun v7=>?_
  refine SL.fa (.r rfl) rfl fo57_2 (SL.last ?_)
  refine SL.rowV 4 rfl fun hv7 ho7=>?_
  refine SL.stR (7+1) ⟨rfl,rfl,rfl⟩ rfl rfl rfl sz55 hv7 ho7 rfl trivial (SL.nil (SQ.blk (SQ.thn ?_)))
  refine SX.heap (H':=fzC L::fzC L2::rowT 57 5 v7 encNode (gs++[nv])::rowT 79 4 v0 encRow p0::rowT 79 4 v1 encRow p1::rowT 79 4 v2 encRow p2::rowT 79 4 v3 encRow p3::own b3 (.cells #[vU32 c.x,vU32 c.y,vI c.lev,.slice none 0 0,v7] 57)::own b2 (.cells #[vU32 0,vU32 0,vI 0,.slice none 0 0,.slice none 0 0] 57)::H) (SX.fzJoin ?_) (fun _ hw=>HpOk.pick (H:=[_,_,_,_,_,_,_,_,_,_]) hw [3,2,4,5,6,1,7,8,9] 10 rfl)
  refine SX.region (SL.bin (.r rfl) rfl rfl (Bin.addI (by omega) (by omega)) (SL.mv (.r rfl) rfl (SL.nil ?_)))
  exact SQ.again (2+1,gs++[nv],ks'++[nd],v7,L++L2) ⟨by omega,hkf,(hkz.mono fun p hp=>List.mem_append_left _ hp).snoc (hnz.mono fun p hp=>List.mem_append_right _ hp)⟩ (by dsimp only;omega) (by repeat' (first | exact trivial | refine And.intro rfl ?_)) (fun _ h=>h)
  rw [hc5,cond_false] at hkf
  refine SX.skip (SQ.blk (SQ.thn (SX.region (SL.bin (.r rfl) rfl rfl (Bin.addI (by omega) (by omega)) (SL.mv (.r rfl) rfl (SL.nil ?_))))))
  exact SQ.again (2+1,gs,ks',kv,L) ⟨by omega,hkf,hkz⟩ (by dsimp only;omega) (by repeat' (first | exact trivial | refine And.intro rfl ?_)) (fun _ h=>h)
  refine SX.sr ?_
  refine SL.ixA (i:=3) (.r rfl) ty159 sc35 rfl rfl rfl (by omega) rfl ?_
  refine SL.asg (.r rfl) rfl (SL.nx (SX.sr (SL.mv (.r rfl) rfl (SL.lenT 5 (.r rfl) ty35 rfl rfl (SL.bin (.r rfl) rfl rfl Bin.gtI (SL.nx ?_))))))
  have hkf:cond (decide (0<(p3.length:Int))) ((treeF n f p3).bind fun n'=>(appL 64 ks' [n']).bind fun acc'=>kidsFrom (treeF n f) ([p0,p1,p2,p3].drop (3+1)) acc') (kidsFrom (treeF n f) ([p0,p1,p2,p3].drop (3+1)) ks')=some ks:=hkf
  refine SX.cond rfl (fun hc5=>?_) (fun hc5=>?_)
  rw [hc5,cond_true] at hkf
  obtain ⟨nd,hnd,hkf⟩:=bnd hkf
  obtain ⟨acc,hacc,hkf⟩:=bnd hkf
  refine SX.drawI mix [6] (Pl.ap [(true,0),(true,1),(true,2),(false,3),(false,4),(false,5),(true,6)] (.last 7 .nil)) (by kernel_rfl) (SL.fa (.r rfl) rfl fo57_2 (SL.ld (.r rfl) sc55 rfl (cell_own 0 rfl rfl) (SL.mv (.r rfl) rfl (SL.pick [5,0,1,2,3,4,6,7] 8 ?_))))
  refine SL.call (vs:=[_]) (Hin:=[_]) (Hr:=_::_::_::_::_::_::_::_) (.r rfl) rfl ⟨rfl,trivial⟩ cal62 rfl rfl (Con.lend (B:=[_]) (Hin:=[]) fun K' w1 hk hB=>c_tree n f hnd (SlOf.lentT (e:=79) (fun _=>rfl) (hB _ (by simp)))) ?_
  rintro _ _ ⟨_,rfl,nv,L2,rfl,hnz,rfl⟩
  refine ⟨⟨⟨7,rfl⟩,trivial⟩,?_⟩
  obtain ⟨hg,rfl⟩:=appL_len (xs':=gs) (ys':=[nv]) hacc hkz.1 rfl
  refine SL.bsl [_] (.r rfl) ty55 sz57 ze57 ⟨rfl,trivial⟩ rfl rfl rfl (by intro v hv;simp only [List.mem_cons,List.not_mem_nil,or_false] at hv;subst hv;rfl) rfl rfl (fun _=>⟨⟨7+1,rfl⟩,trivial⟩) fun b7=>?_
  refine SL.ownT encNode 5 ([nv]:List NodeV) rfl (fun _=>rfl) rfl ?_
  refine SL.appT 4 hg (sz:=5) (enc:=encNode) (fun _=>rfl) (.r rfl) ty55 sz57 by57 ze57 rfl (by decide) rfl rfl rfl rfl (cells_rowA (sz:=5) (enc:=encNode) 0 (fun _=>rfl) rfl) oneNode (fun _=>⟨⟨7+1,rfl⟩,trivial⟩) fun v7=>?_
  refine SL.fa (.r rfl) rfl fo57_2 (SL.last ?_)
  refine SL.rowV 4 rfl fun hv7 ho7=>?_
  refine SL.stR (7+1) ⟨rfl,rfl,rfl⟩ rfl rfl rfl sz55 hv7 ho7 rfl trivial (SL.nil (SQ.blk (SQ.thn ?_)))
  refine SX.heap (H':=fzC L::fzC L2::rowT 57 5 v7 encNode (gs++[nv])::rowT 79 4 v0 encRow p0::rowT 79 4 v1 encRow p1::rowT 79 4 v2 encRow p2::rowT 79 4 v3 encRow p3::own b3 (.cells #[vU32 c.x,vU32 c.y,vI c.lev,.slice none 0 0,v7] 57)::own b2 (.cells #[vU32 0,vU32 0,vI 0,.slice none 0 0,.slice none 0 0] 57)::H) (SX.fzJoin ?_) (fun _ hw=>HpOk.pick (H:=[_,_,_,_,_,_,_,_,_,_]) hw [3,2,4,5,6,7,1,8,9] 10 rfl)
  refine SX.region (SL.bin (.r rfl) rfl rfl (Bin.addI (by omega) (by omega)) (SL.mv (.r rfl) rfl (SL.nil ?_)))
  exact SQ.again (3+1,gs++[nv],ks'++[nd],v7,L++L2) ⟨by omega,hkf,(hkz.mono fun p hp=>List.mem_append_left _ hp).snoc (hnz.mono fun p hp=>List.mem_append_right _ hp)⟩ (by dsimp only;omega) (by repeat' (first | exact trivial | refine And.intro rfl ?_)) (fun _ h=>h)
  rw [hc5,cond_false] at hkf
  refine SX.skip (SQ.blk (SQ.thn (SX.region (SL.bin (.r rfl) rfl rfl (Bin.addI (by omega) (by omega)) (SL.mv (.r rfl) rfl (SL.nil ?_))))))
  exact SQ.again (3+1,gs,ks',kv,L) ⟨by omega,hkf,hkz⟩ (by dsimp only;omega) (by repeat' (first | exact trivial | refine And.intro rfl ?_)) (fun _ h=>h)
  have hle:i=4:=by have:=of_decide_eq_false hc4;omega
  subst hle
  obtain rfl:=Option.some.inj (show some ks'=some ks from hkf)
  refine SX.exit (SQ.thnE (SQ.lpE (SQ.blkE (SQ.thn (SX.sr (SL.ldA [vU32 c.x,vU32 c.y,vI c.lev,.slice none 0 0,kv] (.r rfl) ag57 rfl rfl (cells_all 6 rfl) ?_))))))
  refine SL.rowS 1 rfl fun s0 hs0=>?_
  subst hs0
  refine SL.st 7 ⟨rfl,rfl,rfl⟩ rfl rfl rfl sz57 rfl (List.all_eq_true.2 (oneNode ⟨c.x,c.y,c.lev,⟨none,0,0⟩,s0⟩)) rfl trivial (SL.nx (SX.ret ?_))
  refine SQ.heap (H':=rowT 57 5 s0.val encNode gs::fzC L::own b2 (.cells #[vU32 c.x,vU32 c.y,vI c.lev,.slice none 0 0,s0.val] 57)::H) (SQ.freeze (fun _=>rfl) fun Lk hLk=>?_) (fun _ hw=>HpOk.pick (H:=[_,_,_,_,_,_,_,_]) hw [1,0,7] 8 rfl)
  refine SQ.fzJoin ?_
  exact SQ.fret (resv1 rfl (resv.ag 1 [vU32 c.x,vU32 c.y,vI c.lev,.slice none 0 0,s0.val] ag57 rfl rfl rfl rfl)) (ret_of (M:=[_]) ⟨⟨c.x,c.y,c.lev,⟨none,0,0⟩,s0⟩,Lk++L,rfl,.mk (FzSl.nil fun _=>rfl) (hLk.mono fun p hp=>List.mem_append_left _ hp) hkz.1 (fun i a b ha hb=>(hkz.2 i a b ha hb).mono fun p hp=>List.mem_append_right _ hp),rfl⟩ fun _ hw=>HpOk.pick (H:=[_,_]) hw [0] 2 rfl)
def buildF (n:Nat) (l:List RowA):Option (NodeP×Int):=
 (f_quad_Right n l).bind fun r=>cond (!r) (some (.mk 0 0 0 [] [],80)) ((treeF n n l).bind fun t=>some (t,0))
set_option maxRecDepth 100000 in
theorem w_build {n:Nat} {v:Value} {l:List RowA} {r:NodeP×Int} (h:buildF n l=some r) (hs:SlOf K w0 encRow 4 v l):
  Con Tryz.prog K w0 25 [v] [] H (fun u M=>∃(nv:NodeV) (L:FzMap),u=.tuple #[.agg (encNode nv).toArray,vI r.2]∧NodeFz L nv r.1∧M=[fzC L]):=by
 unfold buildF at h
 obtain ⟨y,hy,h⟩:=bnd h
 refine Con.enter Tryz.func25 rfl rfl ?_
 refine SX.sr ?_
 refine SL.alloc (.r rfl) ze57 (fun _=>trivial) fun b2=>?_
 refine SL.asg (.r rfl) rfl (SL.nx (SX.seq (SX.sr (SL.mv (.r rfl) rfl ?_))))
 refine SL.call (vs:=[_]) (Hin:=[]) (Hr:=_::_) (.r rfl) rfl ⟨rfl,trivial⟩ cal21 rfl rfl (c_quad_Right hy hs) ?_
 rintro _ _ ⟨rfl,rfl⟩
 refine ⟨trivial,?_⟩
 refine SL.not (.r rfl) rfl (SL.nx ?_)
 refine SX.cond rfl (fun hc=>?_) (fun hc=>?_)
 rw [hc,cond_true] at h
 obtain rfl:=Option.some.inj h
 refine SX.sr (SL.bld [] (.r rfl) pl57 pk57 ze57 trivial rfl (SL.st 0 ⟨rfl,rfl,rfl⟩ rfl rfl rfl sz57 rfl rfl rfl trivial (SL.asg (.r rfl) rfl (SL.nx (SX.ret (SQ.thnR (SQ.fz0 ?_)))))))
 exact SQ.fret (resv2 rfl (resv.ag 1 [vU32 0,vU32 0,vI 0,.slice none 0 0,.slice none 0 0] ag57 rfl rfl rfl rfl) rfl) (ret_of (M:=[_]) ⟨⟨0,0,0,⟨none,0,0⟩,⟨none,0,0⟩⟩,[],rfl,.mk (FzSl.nil fun _=>rfl) (FzSl.nil fun _=>rfl) (kvs:=[]) rfl (fun i a b ha=>by simp at ha),rfl⟩ fun _ hw=>HpOk.pick (H:=[_,_]) hw [0] 2 rfl)
 rw [hc,cond_false] at h
 obtain ⟨t,ht,h⟩:=bnd h
 obtain rfl:=Option.some.inj h
 refine SX.skip (SQ.thn (SX.sr (SL.mv (.r rfl) rfl ?_)))
 refine SL.call (vs:=[_]) (Hin:=[]) (Hr:=_::_) (.r rfl) rfl ⟨rfl,trivial⟩ cal62 rfl rfl (c_tree n n ht hs) ?_
 rintro _ _ ⟨nv,L,rfl,hnz,rfl⟩
 refine ⟨trivial,?_⟩
 refine SL.st 1 ⟨rfl,rfl,rfl⟩ rfl rfl rfl sz57 rfl (List.all_eq_true.2 (oneNode nv)) rfl trivial (SL.asg (.r rfl) rfl (SL.nx (SX.ret ?_)))
 exact SQ.fret (resv2 rfl (resv.ag 1 (encNode nv) ag57 rfl rfl rfl rfl) rfl) (ret_of (M:=[_]) ⟨nv,L,rfl,hnz,rfl⟩ fun _ hw=>HpOk.pick (H:=[_,_]) hw [0] 2 rfl)
end Go.Proofs.YtkibffdipniemaaGreatDoor

/- Plain functions of the references and the laws, printed from the loaded program, and the walks that show that the program computes them. Condition: the plain function yields. -/
namespace Go.Proofs.YtkibffdipniemaaGreatDoor
open Go
variable {K:Nat→Prop} {w0:World} {H:List Chunk}

def f_rows_Right_1 (p0:RefA):Option Bool:=
 (f_rows_RightRef p0).bind fun y1=>
 ret (!y1) fun x1=>
 some x1
set_option maxRecDepth 100000 in
theorem c_rows_Right_1 {p0:RefA} {r:Bool} (h:f_rows_Right_1 p0=some r)  : Con Tryz.prog K w0 167 [.agg (encRef p0).toArray] [] H (fun u M=>u=vB r∧M=[]):=by
 unfold f_rows_Right_1 at h
 refine Con.enter Tryz.func167 rfl rfl ?_
 refine SX.sr ?_
 refine SL.box (.r rfl) rfl (fun _=>trivial) fun b1=>?_
 refine SL.asg (.r rfl) rfl (SL.nx (SX.sr ?_))
 obtain ⟨y1,hy1,h⟩:=bnd h
 obtain ⟨x1,ex1,h⟩:=retE h
 refine SL.ldA [vU32 p0.page,vS p0.tag] (.r rfl) ag31 rfl rfl (cells_all 0 rfl) ?_
 refine SL.call (vs:=[_]) (Hin:=[]) (Hr:=_::_) (.r rfl) rfl ⟨rfl,trivial⟩ cal119 rfl rfl ((c_rows_RightRef hy1 :)) ?_
 rintro _ _ ⟨rfl,rfl⟩
 refine ⟨trivial,?_⟩
 refine SL.not (.r rfl) rfl ?_
 refine SL.asgX (u:=vB x1) (.r rfl) rfl (congrArg vB ex1) ?_
 refine SL.nx (SX.ret ?_)
 obtain rfl:=Option.some.inj h
 exact SQ.fret (res1 rfl rfl) (ret_of (M:=[]) ⟨rfl,rfl⟩ fun _ hw=>HpOk.pick (H:=[_]) hw [] 1 rfl)

def f_idx_j1:Option Int:=
 some (-1)
def f_idx_l1_b (p0:List RefA) (nx_f_idx_l1:Int→Option Int) (a1:Int):Option Int:=
 cond (decide (a1<(p0.length:Int)))
 (
  (nthI p0 a1).bind fun x1=>
  (f_rows_Right_1 x1).bind fun y1=>
  cond y1
  (
   some a1)
  (
   nx_f_idx_l1 (wI (a1+1))))
 (
  f_idx_j1)
def f_idx_l1 (p0:List RefA):Nat→Int→Option Int:=loopN fun nx x=>f_idx_l1_b p0 nx x
def f_idx (n:Nat) (p0:List RefA):Option Int:=
 f_idx_l1 p0 n 0
set_option maxRecDepth 100000 in
theorem c_idx {n:Nat} {v0_:Value} {p0:List RefA} {r:Int} (h:f_idx n p0=some r) (hs0_:SlOf K w0 encRef 2 v0_ p0):Con Tryz.prog K w0 205 [v0_,.func (.func 167) #[] #[]] [] H (fun u M=>u=vI r∧M=[]):=by
 unfold f_idx at h
 refine Con.enter Tryz.func205 rfl rfl ?_
 refine SX.sr (SL.asg (.r rfl) rfl (SL.nx ?_))
 refine SX.meetD (α:=Unit) (fun x=>f_idx_j1=some r) (fun x=>[]) (fun x=>H) ?_ (fun x D h=>?_)
 refine SX.sr (SL.mv (.r rfl) rfl (SL.lenV hs0_ (.r rfl) ty146 rfl (SL.mv (.r rfl) rfl (SL.nx (SX.block ?_)))))
 refine SX.heap (SX.mono (SX.loop (α:=Nat×Int) (fun x=>f_idx_l1 p0 x.1 x.2=some r) (fun x=>[(0,v0_),(1,.func (.func 167) #[] #[]),(7,vI (p0.length:Int)),(8,vI x.2)]) (fun x=>H) (fun x=>x.1) (fun x D h=>?_) (n,0) h) (by repeat' (first | exact trivial | refine And.intro rfl ?_))) (fun _ hw=>HpOk.pick (H:=[]) hw [] 0 rfl)
 obtain ⟨m1,a1⟩:=x
 dsimp only at h
 rcases m1 with _ | m1
 cases (show (none:Option _)=some r from h)
 replace h:f_idx_l1_b p0 (f_idx_l1 p0 m1) a1=some r:=h
 unfold f_idx_l1_b at h
 refine SX.re [(0,v0_),(1,.func (.func 167) #[] #[]),(7,vI (p0.length:Int)),(8,vI a1)] (H) ?_ (by repeat' (first | exact trivial | refine And.intro rfl ?_))
 refine SX.sr (SL.bin (.r rfl) rfl rfl Bin.ltI (SL.nx (SX.seq ?_)))
 refine SX.cond rfl (fun hc1=>?_) (fun hc1=>?_)
 replace h:=cT hc1 h
 refine SX.skip (SQ.thn (SX.seq (SX.block (SX.sr (SL.mv (.r rfl) rfl (SL.asg (.r rfl) rfl (SL.nx (SX.sr ?_))))))))
 obtain ⟨x1,hx1,h⟩:=bnd h
 obtain ⟨y1,hy1,h⟩:=bnd h
 refine SL.mv (.r rfl) rfl (SL.mv (.r rfl) rfl (SL.mv (.r rfl) rfl ?_))
 refine SL.iaN hx1 hs0_ (.r rfl) ty146 sz31 rfl rfl fun be1 of1 hc2=>?_
 refine SL.ldA (encRef x1) (.r rfl) ag31 rfl rfl (cells_kept hc2) ?_
 refine SL.call (vs:=[_]) (Hin:=[]) (Hr:=_) (.r rfl) rfl ⟨rfl,trivial⟩ cal167 rfl rfl ((c_rows_Right_1 hy1 :)) ?_
 rintro _ _ ⟨rfl,rfl⟩
 refine ⟨trivial,?_⟩
 refine SL.nx ?_
 refine SX.cond rfl (fun hc3=>?_) (fun hc3=>?_)
 replace h:=cT hc3 h
 refine SX.sr (SL.mv (.r rfl) rfl (SL.asg (.r rfl) rfl (SL.nx (SX.ret (SQ.blkR (SQ.thnR (SQ.lpR (SQ.blkR (SQ.midDR ?_)))))))))
 obtain rfl:=Option.some.inj h
 exact SQ.fret (res1 rfl rfl) (ret_of (M:=[]) ⟨rfl,rfl⟩ fun _ hw=>HpOk.pick (H:=[]) hw [] 0 rfl)
 replace h:=cF hc3 h
 refine SX.skip (SQ.blk (SQ.thn (SX.region (SL.bin (.r rfl) rfl rfl Bin.addW (SL.mv (.r rfl) rfl (SL.nil ?_))))))
 exact SQ.again (m1,wI (a1+1)) h (Nat.lt_succ_self _) (by repeat' (first | exact trivial | refine And.intro rfl ?_)) (fun _ hw=>HpOk.pick (H:=[]) hw [] 0 rfl)
 replace h:=cF hc1 h
 refine SX.exit (SQ.thnE (SQ.lpE (SQ.blkE ?_)))
 exact SQ.midD () h (by repeat' (first | exact trivial | refine And.intro rfl ?_)) (fun _ hw=>HpOk.pick (H:=[]) hw [] 0 rfl)
 unfold f_idx_j1 at h
 refine SX.re [] (H) ?_ (by repeat' (first | exact trivial | refine And.intro rfl ?_))
 refine SX.sr (SL.asg (.r rfl) rfl (SL.nx (SX.ret ?_)))
 obtain rfl:=Option.some.inj h
 exact SQ.fret (res1 rfl rfl) (ret_of (M:=[]) ⟨rfl,rfl⟩ fun _ hw=>HpOk.pick (H:=[]) hw [] 0 rfl)

def f_cot (n:Nat) (p0:List RefA):Option Bool:=
 (f_idx n p0).bind fun y1=>
 ret (decide (0≤y1)) fun x1=>
 some x1
set_option maxRecDepth 100000 in
theorem c_cot {n:Nat} {v0_:Value} {p0:List RefA} {r:Bool} (h:f_cot n p0=some r) (hs0_:SlOf K w0 encRef 2 v0_ p0):Con Tryz.prog K w0 166 [v0_,.func (.func 167) #[] #[]] [] H (fun u M=>u=vB r∧M=[]):=by
 unfold f_cot at h
 refine Con.enter Tryz.func166 rfl rfl ?_
 refine SX.sr (SL.asg (.r rfl) rfl (SL.nx (SX.sr ?_)))
 obtain ⟨y1,hy1,h⟩:=bnd h
 obtain ⟨x1,ex1,h⟩:=retE h
 refine SL.mv (.r rfl) rfl (SL.mv (.r rfl) rfl ?_)
 refine SL.call (vs:=[_,_]) (Hin:=[]) (Hr:=_) (.r rfl) rfl ⟨rfl,rfl,trivial⟩ cal205 rfl rfl (c_idx hy1 hs0_) ?_
 rintro _ _ ⟨rfl,rfl⟩
 refine ⟨trivial,?_⟩
 refine SL.bin (.r rfl) rfl rfl Bin.geI ?_
 refine SL.asgX (u:=vB x1) (.r rfl) rfl (congrArg vB ex1) ?_
 refine SL.nx (SX.ret ?_)
 obtain rfl:=Option.some.inj h
 exact SQ.fret (res1 rfl rfl) (ret_of (M:=[]) ⟨rfl,rfl⟩ fun _ hw=>HpOk.pick (H:=[]) hw [] 0 rfl)

def f_rows_Right (n:Nat) (p0:PageA):Option Bool:=
 ret (decide (p0.kind=1)) fun x1=>
 cond x1
 (
  (andO (((decide (p0.cx=0)&&(decide (p0.cy=0)&&(decide (p0.lev=0)&&true)))&&(decide ((p0.kids.length:Int)=0)))&&(decide ((p0.rows.length:Int)≤4))) ((f_quad_Right n p0.rows).bind fun y1=>some (y1))).bind fun y2=>
  (andO y2 ((f_rows_isNone (⟨p0.npage,p0.ntag⟩:RefA)).bind fun y3=>(orO y3 ((f_rows_RightRef (⟨p0.npage,p0.ntag⟩:RefA)).bind fun y4=>some (y4))).bind fun y5=>some (y5))).bind fun y6=>
  some y6)
 (
  ret (decide (p0.kind=2)) fun x2=>
  cond x2
  (
   (f_cot n p0.kids).bind fun y7=>
   (andO ((!y7)&&(decide ((p0.rows.length:Int)=0))) ((f_rows_isNone (⟨p0.npage,p0.ntag⟩:RefA)).bind fun y8=>some (y8))).bind fun y9=>
   (andO ((y9&&(decide (2≤(p0.kids.length:Int))))&&(decide ((p0.kids.length:Int)≤4))) ((f_cell_Right (⟨p0.cx,p0.cy,p0.lev⟩:CellA)).bind fun y10=>some (y10))).bind fun y11=>
   ret (y11&&(decide (0<p0.lev))) fun x3=>
   some x3)
  (
   some false))
set_option maxHeartbeats 4000000 in
set_option maxRecDepth 100000 in
theorem c_rows_Right {n:Nat} {v0_4 v0_5:Value} {p0:PageA} {r:Bool} (h:f_rows_Right n p0=some r) (hs0_4:SlOf K w0 encRow 4 v0_4 p0.rows) (hs0_5:SlOf K w0 encRef 2 v0_5 p0.kids):Con Tryz.prog K w0 122 [.agg #[vI p0.kind,vU32 p0.cx,vU32 p0.cy,vI p0.lev,v0_4,v0_5,vU32 p0.npage,vS p0.ntag]] [] H (fun u M=>u=vB r∧M=[]):=by
 unfold f_rows_Right at h
 refine Con.enter Tryz.func122 rfl rfl ?_
 refine SX.sr ?_
 refine SL.box (.r rfl) rfl (fun _=>trivial) fun b1=>?_
 refine SL.asg (.r rfl) rfl (SL.nx (SX.seq (SX.sr (SL.fa (.r rfl) rfl fo148_0 (SL.ld (.r rfl) sc3 rfl (cell_own 0 rfl rfl) (SL.nx (SX.block (SX.sr ?_))))))))
 obtain ⟨x1,ex1,h⟩:=retE h
 refine SL.bin (.r rfl) rfl rfl Bin.eqI ?_
 refine SL.asgX (u:=vB x1) (.r rfl) rfl (congrArg vB ex1) ?_
 refine SL.nx ?_
 refine SX.cond rfl (fun hc1=>?_) (fun hc1=>?_)
 replace h:=cT hc1 h
 refine SX.sr ?_
 obtain ⟨y2,hy2,h⟩:=bnd h
 obtain ⟨y6,hy6,h⟩:=bnd h
 refine SL.fa (.r rfl) rfl fo148_1 (SL.ldA [vU32 p0.cx,vU32 p0.cy,vI p0.lev] (.r rfl) ag54 rfl rfl (cells_own 0 rfl (by rintro (_ | (_ | (_ | j))) u hj<;>first | exact hj | exact absurd hj (by simp))) (SL.bld [] (.r rfl) pl54 pk54 ze54 trivial rfl ?_))
 refine SL.eqAgg (.r rfl) fl54 rfl rfl (flatE_cons rfl rfl (eqV_32 (a:=p0.cx) (b:=0)) (flatE_cons rfl rfl (eqV_32 (a:=p0.cy) (b:=0)) (flatE_cons rfl rfl (eqV_I (a:=p0.lev) (b:=0)) flatE_nil))) ?_
 refine SL.mv (.r rfl) rfl ?_
 refine SL.and (c:=decide ((p0.kids.length:Int)=0)) 12 5 17 rfl (fun hb k=>?_) (fun hb k=>?_) ?_
 refine SL.fa (.r rfl) rfl fo148_3 (SL.ld (.r rfl) sc146 rfl (cell_own 0 rfl rfl) (SL.lenV hs0_5 (.r rfl) ty146 rfl (SL.bin (.r rfl) rfl rfl Bin.eqI (SL.pk (.r rfl) rfl rfl ?_))))
 exact k.mono (by repeat' (first | exact trivial | refine And.intro rfl ?_))
 refine SL.pass rfl rfl rfl (SL.pass rfl rfl rfl (SL.pass rfl rfl rfl (SL.pass rfl rfl rfl (SL.pk (.r rfl) rfl rfl ?_))))
 exact k.mono (by repeat' (first | exact trivial | refine And.intro rfl ?_))
 refine SL.mv (.r rfl) rfl ?_
 refine SL.and (c:=decide ((p0.rows.length:Int)≤4)) 18 5 23 rfl (fun hb k=>?_) (fun hb k=>?_) ?_
 refine SL.fa (.r rfl) rfl fo148_2 (SL.ld (.r rfl) sc35 rfl (cell_own 0 rfl rfl) (SL.lenV hs0_4 (.r rfl) ty35 rfl (SL.bin (.r rfl) rfl rfl Bin.leI (SL.pk (.r rfl) rfl rfl ?_))))
 exact k.mono (by repeat' (first | exact trivial | refine And.intro rfl ?_))
 refine SL.pass rfl rfl rfl (SL.pass rfl rfl rfl (SL.pass rfl rfl rfl (SL.pass rfl rfl rfl (SL.pk (.r rfl) rfl rfl ?_))))
 exact k.mono (by repeat' (first | exact trivial | refine And.intro rfl ?_))
 refine SL.mv (.r rfl) rfl ?_
 refine SL.andN 24 4 28 hy2 rfl (fun hb hg3 k=>?_) (fun hb k=>?_) ?_
 obtain ⟨y1,hy1,hg3⟩:=bnd hg3
 obtain rfl:=Option.some.inj hg3
 refine SL.fa (.r rfl) rfl fo148_2 (SL.ld (.r rfl) sc35 rfl (cell_own 0 rfl rfl) ?_)
 refine SL.call (vs:=[_]) (Hin:=[]) (Hr:=_::_) (.r rfl) rfl ⟨rfl,trivial⟩ cal21 rfl rfl (c_quad_Right hy1 hs0_4) ?_
 rintro _ _ ⟨rfl,rfl⟩
 refine ⟨trivial,?_⟩
 refine SL.pk (.r rfl) rfl rfl ?_
 exact k.mono (by repeat' (first | exact trivial | refine And.intro rfl ?_))
 refine SL.pass rfl rfl rfl (SL.pass rfl rfl rfl (SL.pass rfl rfl rfl (SL.pk (.r rfl) rfl rfl ?_)))
 exact k.mono (by repeat' (first | exact trivial | refine And.intro rfl ?_))
 refine SL.mv (.r rfl) rfl ?_
 refine SL.andN 29 9 38 hy6 rfl (fun hb hg4 k=>?_) (fun hb k=>?_) ?_
 obtain ⟨y3,hy3,hg4⟩:=bnd hg4
 obtain ⟨y5,hy5,hg4⟩:=bnd hg4
 obtain rfl:=Option.some.inj hg4
 refine SL.fa (.r rfl) rfl fo148_4 (SL.ldA [vU32 p0.npage,vS p0.ntag] (.r rfl) ag31 rfl rfl (cells_own 0 rfl (by rintro (_ | (_ | j)) u hj<;>first | exact hj | exact absurd hj (by simp))) ?_)
 refine SL.call (vs:=[_]) (Hin:=[]) (Hr:=_::_) (.r rfl) rfl ⟨rfl,trivial⟩ cal165 rfl rfl ((c_rows_isNone hy3 :)) ?_
 rintro _ _ ⟨rfl,rfl⟩
 refine ⟨trivial,?_⟩
 refine SL.mv (.r rfl) rfl ?_
 refine SL.orN 33 4 37 hy5 rfl (fun hb k=>?_) (fun hb hg5 k=>?_) ?_
 refine SL.pass rfl rfl rfl (SL.pass rfl rfl rfl (SL.pass rfl rfl rfl (SL.pk (.r rfl) rfl rfl ?_)))
 exact k.mono (by repeat' (first | exact trivial | refine And.intro rfl ?_))
 obtain ⟨y4,hy4,hg5⟩:=bnd hg5
 obtain rfl:=Option.some.inj hg5
 refine SL.fa (.r rfl) rfl fo148_4 (SL.ldA [vU32 p0.npage,vS p0.ntag] (.r rfl) ag31 rfl rfl (cells_own 0 rfl (by rintro (_ | (_ | j)) u hj<;>first | exact hj | exact absurd hj (by simp))) ?_)
 refine SL.call (vs:=[_]) (Hin:=[]) (Hr:=_::_) (.r rfl) rfl ⟨rfl,trivial⟩ cal119 rfl rfl ((c_rows_RightRef hy4 :)) ?_
 rintro _ _ ⟨rfl,rfl⟩
 refine ⟨trivial,?_⟩
 refine SL.pk (.r rfl) rfl rfl ?_
 exact k.mono (by repeat' (first | exact trivial | refine And.intro rfl ?_))
 refine SL.pk (.r rfl) rfl rfl ?_
 exact k.mono (by repeat' (first | exact trivial | refine And.intro rfl ?_))
 refine SL.pass rfl rfl rfl (SL.pass rfl rfl rfl (SL.pass rfl rfl rfl (SL.pass rfl rfl rfl (SL.pass rfl rfl rfl (SL.pass rfl rfl rfl (SL.pass rfl rfl rfl (SL.pass rfl rfl rfl ?_)))))))
 refine SL.pk (.r rfl) rfl rfl ?_
 exact k.mono (by repeat' (first | exact trivial | refine And.intro rfl ?_))
 refine SL.asg (.r rfl) rfl (SL.nx (SX.ret (SQ.blkR (SQ.thnR ?_))))
 obtain rfl:=Option.some.inj h
 exact SQ.fret (res1 rfl rfl) (ret_of (M:=[]) ⟨rfl,rfl⟩ fun _ hw=>HpOk.pick (H:=[_]) hw [] 1 rfl)
 replace h:=cF hc1 h
 refine SX.sr ?_
 obtain ⟨x2,ex2,h⟩:=retE h
 refine SL.bin (.r rfl) rfl rfl Bin.eqI ?_
 refine SL.asgX (u:=vB x2) (.r rfl) rfl (congrArg vB ex2) ?_
 refine SL.nx ?_
 refine SX.cond rfl (fun hc2=>?_) (fun hc2=>?_)
 replace h:=cT hc2 h
 refine SX.sr ?_
 obtain ⟨y7,hy7,h⟩:=bnd h
 refine SL.fa (.r rfl) rfl fo148_3 (SL.ld (.r rfl) sc146 rfl (cell_own 0 rfl rfl) ?_)
 refine SL.call (vs:=[_,_]) (Hin:=[]) (Hr:=_::_) (.r rfl) rfl ⟨rfl,rfl,trivial⟩ cal166 rfl rfl (c_cot hy7 hs0_5) ?_
 rintro _ _ ⟨rfl,rfl⟩
 refine ⟨trivial,?_⟩
 refine SL.asg (.r rfl) rfl (SL.nx (SX.sr ?_))
 obtain ⟨y9,hy9,h⟩:=bnd h
 obtain ⟨y11,hy11,h⟩:=bnd h
 obtain ⟨x3,ex3,h⟩:=retE h
 refine SL.mv (.r rfl) rfl (SL.not (.r rfl) rfl (SL.mv (.r rfl) rfl ?_))
 refine SL.and (c:=decide ((p0.rows.length:Int)=0)) 46 5 51 rfl (fun hb k=>?_) (fun hb k=>?_) ?_
 refine SL.fa (.r rfl) rfl fo148_2 (SL.ld (.r rfl) sc35 rfl (cell_own 0 rfl rfl) (SL.lenV hs0_4 (.r rfl) ty35 rfl (SL.bin (.r rfl) rfl rfl Bin.eqI (SL.pk (.r rfl) rfl rfl ?_))))
 exact k.mono (by repeat' (first | exact trivial | refine And.intro rfl ?_))
 refine SL.pass rfl rfl rfl (SL.pass rfl rfl rfl (SL.pass rfl rfl rfl (SL.pass rfl rfl rfl (SL.pk (.r rfl) rfl rfl ?_))))
 exact k.mono (by repeat' (first | exact trivial | refine And.intro rfl ?_))
 refine SL.mv (.r rfl) rfl ?_
 refine SL.andN 52 4 56 hy9 rfl (fun hb hg7 k=>?_) (fun hb k=>?_) ?_
 obtain ⟨y8,hy8,hg7⟩:=bnd hg7
 obtain rfl:=Option.some.inj hg7
 refine SL.fa (.r rfl) rfl fo148_4 (SL.ldA [vU32 p0.npage,vS p0.ntag] (.r rfl) ag31 rfl rfl (cells_own 0 rfl (by rintro (_ | (_ | j)) u hj<;>first | exact hj | exact absurd hj (by simp))) ?_)
 refine SL.call (vs:=[_]) (Hin:=[]) (Hr:=_::_) (.r rfl) rfl ⟨rfl,trivial⟩ cal165 rfl rfl ((c_rows_isNone hy8 :)) ?_
 rintro _ _ ⟨rfl,rfl⟩
 refine ⟨trivial,?_⟩
 refine SL.pk (.r rfl) rfl rfl ?_
 exact k.mono (by repeat' (first | exact trivial | refine And.intro rfl ?_))
 refine SL.pass rfl rfl rfl (SL.pass rfl rfl rfl (SL.pass rfl rfl rfl (SL.pk (.r rfl) rfl rfl ?_)))
 exact k.mono (by repeat' (first | exact trivial | refine And.intro rfl ?_))
 refine SL.mv (.r rfl) rfl ?_
 refine SL.and (c:=decide (2≤(p0.kids.length:Int))) 57 5 62 rfl (fun hb k=>?_) (fun hb k=>?_) ?_
 refine SL.fa (.r rfl) rfl fo148_3 (SL.ld (.r rfl) sc146 rfl (cell_own 0 rfl rfl) (SL.lenV hs0_5 (.r rfl) ty146 rfl (SL.bin (.r rfl) rfl rfl Bin.geI (SL.pk (.r rfl) rfl rfl ?_))))
 exact k.mono (by repeat' (first | exact trivial | refine And.intro rfl ?_))
 refine SL.pass rfl rfl rfl (SL.pass rfl rfl rfl (SL.pass rfl rfl rfl (SL.pass rfl rfl rfl (SL.pk (.r rfl) rfl rfl ?_))))
 exact k.mono (by repeat' (first | exact trivial | refine And.intro rfl ?_))
 refine SL.mv (.r rfl) rfl ?_
 refine SL.and (c:=decide ((p0.kids.length:Int)≤4)) 63 5 68 rfl (fun hb k=>?_) (fun hb k=>?_) ?_
 refine SL.fa (.r rfl) rfl fo148_3 (SL.ld (.r rfl) sc146 rfl (cell_own 0 rfl rfl) (SL.lenV hs0_5 (.r rfl) ty146 rfl (SL.bin (.r rfl) rfl rfl Bin.leI (SL.pk (.r rfl) rfl rfl ?_))))
 exact k.mono (by repeat' (first | exact trivial | refine And.intro rfl ?_))
 refine SL.pass rfl rfl rfl (SL.pass rfl rfl rfl (SL.pass rfl rfl rfl (SL.pass rfl rfl rfl (SL.pk (.r rfl) rfl rfl ?_))))
 exact k.mono (by repeat' (first | exact trivial | refine And.intro rfl ?_))
 refine SL.mv (.r rfl) rfl ?_
 refine SL.andN 69 4 73 hy11 rfl (fun hb hg10 k=>?_) (fun hb k=>?_) ?_
 obtain ⟨y10,hy10,hg10⟩:=bnd hg10
 obtain rfl:=Option.some.inj hg10
 refine SL.fa (.r rfl) rfl fo148_1 (SL.ldA [vU32 p0.cx,vU32 p0.cy,vI p0.lev] (.r rfl) ag54 rfl rfl (cells_own 0 rfl (by rintro (_ | (_ | (_ | j))) u hj<;>first | exact hj | exact absurd hj (by simp))) ?_)
 refine SL.call (vs:=[_]) (Hin:=[]) (Hr:=_::_) (.r rfl) rfl ⟨rfl,trivial⟩ cal168 rfl rfl ((c_cell_Right hy10 :)) ?_
 rintro _ _ ⟨rfl,rfl⟩
 refine ⟨trivial,?_⟩
 refine SL.pk (.r rfl) rfl rfl ?_
 exact k.mono (by repeat' (first | exact trivial | refine And.intro rfl ?_))
 refine SL.pass rfl rfl rfl (SL.pass rfl rfl rfl (SL.pass rfl rfl rfl (SL.pk (.r rfl) rfl rfl ?_)))
 exact k.mono (by repeat' (first | exact trivial | refine And.intro rfl ?_))
 refine SL.mv (.r rfl) rfl ?_
 refine SL.and (c:=decide (0<p0.lev)) 74 5 79 rfl (fun hb k=>?_) (fun hb k=>?_) ?_
 refine SL.fa (.r rfl) rfl fo148_1 (SL.fa (.r rfl) rfl fo54_2 (SL.ld (.r rfl) sc3 rfl (cell_own 0 rfl rfl) (SL.bin (.r rfl) rfl rfl Bin.gtI (SL.pk (.r rfl) rfl rfl ?_))))
 exact k.mono (by repeat' (first | exact trivial | refine And.intro rfl ?_))
 refine SL.pass rfl rfl rfl (SL.pass rfl rfl rfl (SL.pass rfl rfl rfl (SL.pass rfl rfl rfl (SL.pk (.r rfl) rfl rfl ?_))))
 exact k.mono (by repeat' (first | exact trivial | refine And.intro rfl ?_))
 refine SL.asgX (u:=vB x3) (.r rfl) rfl (congrArg vB ex3) ?_
 refine SL.nx (SX.ret (SQ.blkR (SQ.thnR ?_)))
 obtain rfl:=Option.some.inj h
 exact SQ.fret (res1 rfl rfl) (ret_of (M:=[]) ⟨rfl,rfl⟩ fun _ hw=>HpOk.pick (H:=[_]) hw [] 1 rfl)
 replace h:=cF hc2 h
 refine SX.skip (SQ.blk (SQ.thn (SX.sr (SL.asg (.r rfl) rfl (SL.nx (SX.ret ?_))))))
 obtain rfl:=Option.some.inj h
 exact SQ.fret (res1 rfl rfl) (ret_of (M:=[]) ⟨rfl,rfl⟩ fun _ hw=>HpOk.pick (H:=[_]) hw [] 1 rfl)

end Go.Proofs.YtkibffdipniemaaGreatDoor

/- Pages as bytes: the writer, rows.Encode. Condition: the plain functions yield. -/
namespace Go.Proofs.YtkibffdipniemaaGreatDoor
open Go
variable {K:Nat→Prop} {w0:World} {H:List Chunk}
theorem c_rwr_put (b:Nat) (p v:Value) (e:TypeId) (n:UInt64) (w m:Nat) (xs:List UInt8) (hp:adr b p) (hl:lies e) (hw:w≤8) (hm:m≤1048576):Con Tryz.prog K w0 170 [vP b 0,vU64 n,vI w] [own b (.cells #[p,v] e),rowC 5 1 v m (xs.map fun b=>vU8 b)] H (fun r M=>r=.tuple #[]∧∃p' v',adr b p'∧M=[own b (.cells #[p',v'] e),rowC 5 1 v' (m+w) ((xs++lePut n w).map fun b=>vU8 b)]):=by
 refine Con.enter Tryz.func170 rfl rfl ?_
 refine SX.sr (SL.mv (.r rfl) rfl (SL.mv (.r rfl) rfl (SL.nx (SX.block ?_))))
 refine SX.mono (SX.loop (α:=Nat×Value×Value) (fun x=>x.1≤w∧adr b x.2.1) (fun x=>[(0,vP b 0),(1,vU64 n),(7,vI w),(8,vI x.1)]) (fun x=>own b (.cells #[x.2.1,x.2.2] e)::rowC 5 1 x.2.2 (m+x.1) ((xs++lePut n x.1).map fun b=>vU8 b)::H) (fun x=>w-x.1) (fun x D hp=>?_) (0,p,v) ⟨Nat.zero_le _,hp⟩ |>.heap (fun w h=>by simpa [lePut] using h)) (by repeat' (first | exact trivial | refine And.intro rfl ?_))
 obtain ⟨i,p,v⟩:=x
 obtain ⟨hi,hadr⟩:=hp
 simp only at hi hadr
 refine SX.sr (SL.bin (.r rfl) rfl rfl Bin.ltI (SL.nx (SX.seq ?_)))
 refine SX.cond rfl (fun hc1=>?_) (fun hc1=>?_)
 have hlt:i<w:=by simpa using hc1
 refine SX.skip (SQ.thn (SX.seq (SX.block (SX.sr (SL.mv (.r rfl) rfl (SL.asg (.r rfl) rfl (SL.nx (SX.drawI mix [] (Pl.ap [(true,0),(true,1),(true,2),(true,3),(true,4),(true,5),(true,6),(true,7)] (.last 8 .nil)) (by kernel_rfl) (SL.mv (.r rfl) rfl (SL.nchk (.r rfl) rfl (SL.fa (.r rfl) rfl fo243_0 (SL.mv (.r rfl) rfl (SL.mv (.r rfl) rfl ?_)))))))))))))
 refine SL.bin (.r rfl) rfl rfl (Bin.mulI (by omega) (by omega)) ?_
 refine SL.bin (.r rfl) rfl rfl (Bin.shr64 (n:=(8*i))) ?_
 refine SL.cv (.r rfl) rfl (Cv.u64_8 ty48 ty5) (SL.last ?_)
 refine SL.call (vs:=[_,_]) (Hin:=[_,_]) (.r rfl) rfl ⟨rfl,rfl,trivial⟩ cal151 rfl rfl (c_WriteByte e b p v (m+i) _ _ hadr hl (by omega)) ?_
 rintro _ _ ⟨rfl,v',rfl⟩
 refine ⟨trivial,?_⟩
 refine SL.nil (SQ.blk (SQ.thn (SX.region (SL.bin (.r rfl) rfl rfl (Bin.addI (by omega) (by omega)) (SL.mv (.r rfl) rfl (SL.nil ?_))))))
 refine SQ.again (i+1,vP b 0,v') ⟨hlt,.inr rfl⟩ (by simp only;omega) (by repeat' (first | exact trivial | refine And.intro rfl ?_)) (fun w hw=>?_)
 simp only
 rw [lePut_succ,←List.append_assoc,List.map_append (l₁:=xs++lePut n i),←Nat.add_assoc]
 exact hw
 have hie:i=w:=by simp at hc1;omega
 subst hie
 refine SX.exit (SQ.thnE (SQ.lpE (SQ.blkE ?_)))
 exact SQ.fend (res0 rfl) (ret_of (M:=[_,_]) ⟨rfl,p,v,hadr,rfl⟩ fun _ h=>h)


abbrev bufC (v:Value) (s:List UInt8):Chunk:=rowC 5 1 v s.length (s.map fun b=>vU8 b)
abbrev wrC (b:Nat) (p v:Value):Chunk:=own b (.cells #[p,v] 243)
def wputO (s:List UInt8) (n:UInt64) (w:Int):Option (List UInt8):=if s.length≤1048576∧0≤w∧w≤8 then some (s++lePut n w.toNat) else none
def wstrO (s t:List UInt8):Option (List UInt8):=if s.length≤1048576∧t.length≤1048576 then some (s++t) else none
def endO (s:List UInt8):Option (List UInt8×Int):=if s.length≤4194304 then some (s,0) else none
theorem w_wput {b:Nat} {p v:Value} {s r:List UInt8} {n:UInt64} {w:Int} (h:wputO s n w=some r) (ha:adr b p):Con Tryz.prog K w0 170 [vP b 0,vU64 n,vI w] [wrC b p v,bufC v s] H (fun u M=>u=.tuple #[]∧∃p' v',adr b p'∧M=[wrC b p' v',bufC v' r]):=by
 unfold wputO at h
 split at h
 rename_i hc
 obtain ⟨hl,h0,h8⟩:=hc
 obtain rfl:=Option.some.inj h
 obtain ⟨k,rfl⟩:=Int.eq_ofNat_of_zero_le h0
 have hk:(s++lePut n k).length=s.length+k:=by simp [lePut_length]
 have:=c_rwr_put (K:=K) (w0:=w0) (H:=H) b p v 243 n k s.length s ha li243 (by omega) hl
 refine Con.mono this ?_
 rintro u M ⟨rfl,p',v',ha',rfl⟩
 refine ⟨rfl,p',v',ha',?_⟩
 rw [bufC,Int.toNat_natCast,hk]
 cases h
theorem w_wstr {b:Nat} {p v:Value} {s t r:List UInt8} (h:wstrO s t=some r) (ha:adr b p):Con Tryz.prog K w0 101 [vP b 0,vS t] [wrC b p v,bufC v s] H (fun u M=>u=.tuple #[vI t.length,.nilIface]∧∃p' v',adr b p'∧M=[wrC b p' v',bufC v' r]):=by
 unfold wstrO at h
 split at h
 rename_i hc
 obtain ⟨hl,ht⟩:=hc
 obtain rfl:=Option.some.inj h
 refine Con.mono (c_WriteString 243 b p v s.length (s.map fun b=>vU8 b) t ha li243 (by omega)) ?_
 rintro u M ⟨rfl,v',rfl⟩
 refine ⟨rfl,vP b 0,v',.inr rfl,?_⟩
 simp [bufC,List.length_append]
 cases h
def wrefO (s:List UInt8) (r:RefA):Option (List UInt8):=
 if r.tag.length≤32 then (wputO s r.page.toUInt64 4).bind fun s1=>(rep0O [0] (32-(r.tag.length:Int))).bind fun z=>(catS r.tag z).bind fun u=>wstrO s1 u else none
theorem w_wref {b:Nat} {p v:Value} {s r:List UInt8} {x:RefA} (h:wrefO s x=some r) (ha:adr b p):Con Tryz.prog K w0 171 [vP b 0,.agg (encRef x).toArray] [wrC b p v,bufC v s] H (fun u M=>u=.tuple #[]∧∃p' v',adr b p'∧M=[wrC b p' v',bufC v' r]):=by
 unfold wrefO at h
 split at h
 case isFalse=>cases h
 rename_i hlen
 obtain ⟨s1,hs1,h⟩:=bnd h
 obtain ⟨z,hz,h⟩:=bnd h
 obtain ⟨u,hu,h⟩:=bnd h
 refine Con.enter Tryz.func171 rfl rfl ?_
 refine SX.sr ?_
 refine SL.box (.r rfl) rfl (fun _=>trivial) fun b0=>?_
 refine SL.nx (SX.pick [1,2,0] 3 (SX.sr (SL.mv (.r rfl) rfl (SL.fa (.r rfl) rfl fo31_0 (SL.ld (.r rfl) sc29 rfl (cell_own 2 rfl rfl) (SL.cv (.r rfl) rfl (Cv.u32_64 ty29 ty48) ?_))))))
 refine SL.call (vs:=[_,_,_]) (Hin:=[_,_]) (Hr:=_::_) (.r rfl) rfl ⟨rfl,rfl,rfl,trivial⟩ cal170 rfl rfl (w_wput hs1 ha) ?_
 rintro _ _ ⟨rfl,p1,v1,ha1,rfl⟩
 refine ⟨trivial,?_⟩
 refine SL.nx (SX.drawI mix [2] (Pl.ap [(true,0),(true,1),(true,2),(true,3),(true,4),(true,5),(true,6),(true,7),(true,8),(false,9),(true,10)] (.last 11 .nil)) (by kernel_rfl) (SL.mv (.r rfl) rfl (SL.nchk (.r rfl) rfl (SL.fa (.r rfl) rfl fo243_0 (SL.fa (.r rfl) rfl fo31_1 (SL.ld (.r rfl) sc9 rfl (cell_own 0 rfl rfl) (SL.fa (.r rfl) rfl fo31_1 (SL.ld (.r rfl) sc9 rfl (cell_own 0 rfl rfl) ?_))))))))
 refine SL.lenS (.r rfl) ty9 rfl (SL.bin (.r rfl) rfl rfl (Bin.subI (by omega) (by omega)) ?_)
 refine SL.call (vs:=[_,_]) (Hin:=[]) (Hr:=_::_::_::_) (.r rfl) rfl ⟨rfl,rfl,trivial⟩ cal70 rfl rfl (w_rep0 hz) ?_
 rintro _ _ ⟨rfl,rfl⟩
 refine ⟨⟨⟨2,rfl⟩,trivial⟩,?_⟩
 refine SL.bin (.r rfl) rfl rfl (Bin.catO hu) (SL.last ?_)
 refine SL.call (vs:=[_,_]) (Hin:=[_,_]) (Hr:=_::_) (.r rfl) rfl ⟨rfl,rfl,trivial⟩ cal101 rfl rfl (w_wstr h ha1) ?_
 rintro _ _ ⟨rfl,p2,v2,ha2,rfl⟩
 refine ⟨trivial,?_⟩
 refine SL.nil ?_
 exact SQ.fend (res0 rfl) (ret_of (M:=[_,_]) ⟨rfl,p2,v2,ha2,rfl⟩ fun _ hw=>HpOk.pick (H:=[_,_,_]) hw [0,1] 3 rfl)

def f_rows_Encode_l1_b (p0:PageA) (nx:List UInt8×Int→Option (List UInt8×Int)) (s:List UInt8) (i:Int):Option (List UInt8×Int):=
 cond (decide (i<(p0.kids.length:Int))) ((nthI p0.kids i).bind fun x=>(wrefO s x).bind fun s1=>nx (s1,wI (i+1))) (endO s)
def f_rows_Encode_l1 (p0:PageA):Nat→List UInt8×Int→Option (List UInt8×Int):=loopN fun nx x=>f_rows_Encode_l1_b p0 nx x.1 x.2
def f_rows_Encode_l2_b (p0:PageA) (nx:List UInt8×Int→Option (List UInt8×Int)) (s:List UInt8) (i:Int):Option (List UInt8×Int):=
 cond (decide (i<(p0.rows.length:Int))) ((nthI p0.rows i).bind fun x=>(wputO s x.id 8).bind fun s1=>(wputO s1 x.x.toUInt64 4).bind fun s2=>(wputO s2 x.y.toUInt64 4).bind fun s3=>(wputO s3 (toU64 (x.txt.length:Int)) 1).bind fun s4=>(wstrO s4 x.txt).bind fun s5=>nx (s5,wI (i+1))) (endO s)
def f_rows_Encode_l2 (p0:PageA):Nat→List UInt8×Int→Option (List UInt8×Int):=loopN fun nx x=>f_rows_Encode_l2_b p0 nx x.1 x.2
def f_rows_Encode (n:Nat) (p0:PageA):Option (List UInt8×Int):=
 (f_rows_Right n p0).bind fun y=>cond (!y) (some ([],90))
  ((wputO [] (toU64 p0.kind) 1).bind fun s1=>cond (decide (p0.kind=2))
   ((wputO s1 (toU64 (p0.kids.length:Int)) 1).bind fun s2=>(wputO s2 (toU64 p0.lev) 1).bind fun s3=>(wputO s3 p0.cx.toUInt64 4).bind fun s4=>(wputO s4 p0.cy.toUInt64 4).bind fun s5=>f_rows_Encode_l1 p0 n (s5,0))
   ((wputO s1 (toU64 (p0.rows.length:Int)) 1).bind fun s2=>(wrefO s2 ⟨p0.npage,p0.ntag⟩).bind fun s3=>f_rows_Encode_l2 p0 n (s3,0)))
set_option maxHeartbeats 8000000 in
set_option maxRecDepth 100000 in
theorem c_rows_Encode {n:Nat} {v0_4 v0_5:Value} {p0:PageA} {r:List UInt8×Int} (h:f_rows_Encode n p0=some r) (hs0_4:SlOf K w0 encRow 4 v0_4 p0.rows) (hs0_5:SlOf K w0 encRef 2 v0_5 p0.kids):Con Tryz.prog K w0 125 [.agg #[vI p0.kind,vU32 p0.cx,vU32 p0.cy,vI p0.lev,v0_4,v0_5,vU32 p0.npage,vS p0.ntag]] [] H (fun u M=>u=.tuple #[vS r.1,vI r.2]∧M=[]):=by
 unfold f_rows_Encode at h
 obtain ⟨y,hy,h⟩:=bnd h
 refine Con.enter Tryz.func125 rfl rfl ?_
 refine SX.sr ?_
 refine SL.box (.r rfl) rfl (fun _=>trivial) fun b0=>?_
 refine SL.asg (.r rfl) rfl (SL.asg (.r rfl) rfl (SL.nx (SX.seq (SX.sr (SL.ldA [vI p0.kind,vU32 p0.cx,vU32 p0.cy,vI p0.lev,v0_4,v0_5,vU32 p0.npage,vS p0.ntag] (.r rfl) ag148 rfl rfl (cells_all 0 rfl) ?_)))))
 refine SL.call (vs:=[_]) (Hin:=[]) (Hr:=_::_) (.r rfl) rfl ⟨rfl,trivial⟩ cal122 rfl rfl (c_rows_Right hy hs0_4 hs0_5) ?_
 rintro _ _ ⟨rfl,rfl⟩
 refine ⟨trivial,?_⟩
 refine SL.not (.r rfl) rfl (SL.nx ?_)
 refine SX.cond rfl (fun hc1=>?_) (fun hc1=>?_)
 replace h:=cT hc1 h
 obtain rfl:=Option.some.inj h
 refine SX.sr (SL.asg (.r rfl) rfl (SL.asg (.r rfl) rfl (SL.nx (SX.ret (SQ.thnR ?_)))))
 exact SQ.fret (res2 rfl rfl rfl) (ret_of (M:=[]) ⟨rfl,rfl⟩ fun _ hw=>HpOk.pick (H:=[_]) hw [] 1 rfl)
 replace h:=cF hc1 h
 obtain ⟨s1,hs1,h⟩:=bnd h
 refine SX.skip (SQ.thn (SX.sr ?_))
 refine SL.alloc (.r rfl) ze243 (fun _=>trivial) fun b1=>?_
 refine SL.nx (SX.sr ?_)
 refine SL.mkf (fv:=#[_]) (cv:=#[]) (.r rfl) rfl rfl ?_
 refine SL.asg (.r rfl) rfl (SL.nx (SX.nilRow 5 1 (SX.pick [1,0,2] 3 (SX.sr (SL.mv (.r rfl) rfl (SL.fa (.r rfl) rfl fo148_0 (SL.ld (.r rfl) sc3 rfl (cell_own 2 rfl rfl) (SL.cv (.r rfl) rfl (Cv.i_64 ty3 ty48) ?_))))))))
 refine SL.call (vs:=[_,_]) (Hin:=[_,_]) (Hr:=_::_) (.r rfl) rfl ⟨rfl,rfl,trivial⟩ cal170 rfl rfl (w_wput hs1 (.inl rfl)) ?_
 rintro _ _ ⟨rfl,p1,v1,ha1,rfl⟩
 refine ⟨trivial,?_⟩
 refine SL.nx (SX.seq (SX.sr (SL.fa (.r rfl) rfl fo148_0 (SL.ld (.r rfl) sc3 rfl (cell_own 2 rfl rfl) (SL.bin (.r rfl) rfl rfl Bin.eqI (SL.nx ?_))))))
 refine SX.cond rfl (fun hc2=>?_) (fun hc2=>?_)
 replace h:=cT hc2 h
 obtain ⟨s2,hs2,h⟩:=bnd h
 obtain ⟨s3,hs3,h⟩:=bnd h
 obtain ⟨s4,hs4,h⟩:=bnd h
 obtain ⟨s5,hs5,h⟩:=bnd h
 refine SX.sr (SL.mv (.r rfl) rfl (SL.fa (.r rfl) rfl fo148_3 (SL.ld (.r rfl) sc146 rfl (cell_own 2 rfl rfl) (SL.lenV hs0_5 (.r rfl) ty146 rfl (SL.cv (.r rfl) rfl (Cv.i_64 ty3 ty48) ?_)))))
 refine SL.call (vs:=[_,_]) (Hin:=[_,_]) (Hr:=_::_) (.r rfl) rfl ⟨rfl,rfl,trivial⟩ cal170 rfl rfl (w_wput hs2 ha1) ?_
 rintro _ _ ⟨rfl,p2,v2,ha2,rfl⟩
 refine ⟨trivial,?_⟩
 refine SL.nx (SX.sr (SL.mv (.r rfl) rfl (SL.fa (.r rfl) rfl fo148_1 (SL.fa (.r rfl) rfl fo54_2 (SL.ld (.r rfl) sc3 rfl (cell_own 2 rfl rfl) (SL.cv (.r rfl) rfl (Cv.i_64 ty3 ty48) ?_))))))
 refine SL.call (vs:=[_,_]) (Hin:=[_,_]) (Hr:=_::_) (.r rfl) rfl ⟨rfl,rfl,trivial⟩ cal170 rfl rfl (w_wput hs3 ha2) ?_
 rintro _ _ ⟨rfl,p3,v3,ha3,rfl⟩
 refine ⟨trivial,?_⟩
 refine SL.nx (SX.sr (SL.mv (.r rfl) rfl (SL.fa (.r rfl) rfl fo148_1 (SL.fa (.r rfl) rfl fo54_0 (SL.ld (.r rfl) sc29 rfl (cell_own 2 rfl rfl) (SL.cv (.r rfl) rfl (Cv.u32_64 ty29 ty48) ?_))))))
 refine SL.call (vs:=[_,_]) (Hin:=[_,_]) (Hr:=_::_) (.r rfl) rfl ⟨rfl,rfl,trivial⟩ cal170 rfl rfl (w_wput hs4 ha3) ?_
 rintro _ _ ⟨rfl,p4,v4,ha4,rfl⟩
 refine ⟨trivial,?_⟩
 refine SL.nx (SX.sr (SL.mv (.r rfl) rfl (SL.fa (.r rfl) rfl fo148_1 (SL.fa (.r rfl) rfl fo54_1 (SL.ld (.r rfl) sc29 rfl (cell_own 2 rfl rfl) (SL.cv (.r rfl) rfl (Cv.u32_64 ty29 ty48) ?_))))))
 refine SL.call (vs:=[_,_]) (Hin:=[_,_]) (Hr:=_::_) (.r rfl) rfl ⟨rfl,rfl,trivial⟩ cal170 rfl rfl (w_wput hs5 ha4) ?_
 rintro _ _ ⟨rfl,p5,v5,ha5,rfl⟩
 refine ⟨trivial,?_⟩
 refine SL.nx (SX.seq (SX.sr (SL.fa (.r rfl) rfl fo148_3 (SL.ld (.r rfl) sc146 rfl (cell_own 2 rfl rfl) (SL.lenV hs0_5 (.r rfl) ty146 rfl (SL.mv (.r rfl) rfl (SL.nx (SX.block ?_))))))))
 refine SX.mono (SX.loop (α:=Nat×List UInt8×Int×Value×Value) (fun x=>f_rows_Encode_l1 p0 x.1 (x.2.1,x.2.2.1)=some r∧adr b1 x.2.2.2.1) (fun x=>[(4,vP b1 0),(47,v0_5),(48,vI (p0.kids.length:Int)),(49,vI x.2.2.1)]) (fun x=>wrC b1 x.2.2.2.1 x.2.2.2.2::bufC x.2.2.2.2 x.2.1::own b0 (.cells #[vI p0.kind,vU32 p0.cx,vU32 p0.cy,vI p0.lev,v0_4,v0_5,vU32 p0.npage,vS p0.ntag] 148)::H) (fun x=>x.1) (fun x D hp=>?_) (n,s5,0,p5,v5) ⟨h,ha5⟩) (by repeat' (first | exact trivial | refine And.intro rfl ?_))
 obtain ⟨m1,s,i,p,v⟩:=x
 obtain ⟨h,ha⟩:=hp
 dsimp only at h ha
 rcases m1 with _ | m1
 cases (show (none:Option _)=some r from h)
 replace h:f_rows_Encode_l1_b p0 (f_rows_Encode_l1 p0 m1) s i=some r:=h
 unfold f_rows_Encode_l1_b at h
 refine SX.re [(4,vP b1 0),(47,v0_5),(48,vI (p0.kids.length:Int)),(49,vI i)] (wrC b1 p v::bufC v s::own b0 (.cells #[vI p0.kind,vU32 p0.cx,vU32 p0.cy,vI p0.lev,v0_4,v0_5,vU32 p0.npage,vS p0.ntag] 148)::H) ?_ (by repeat' (first | exact trivial | refine And.intro rfl ?_))
 refine SX.sr (SL.bin (.r rfl) rfl rfl Bin.ltI (SL.nx (SX.seq ?_)))
 refine SX.cond rfl (fun hc3=>?_) (fun hc3=>?_)
 replace h:=cT hc3 h
 obtain ⟨x1,hx1,h⟩:=bnd h
 obtain ⟨t1,ht1,h⟩:=bnd h
 refine SX.skip (SQ.thn (SX.seq (SX.block (SX.sr ?_))))
 refine SL.iaN hx1 hs0_5 (.r rfl) ty146 sz31 rfl rfl fun be1 of1 hc4=>?_
 refine SL.ldA (encRef x1) (.r rfl) ag31 rfl rfl (cells_kept hc4) ?_
 refine SL.alloc (.r rfl) ze31 (fun _=>trivial) fun b2=>?_
 refine SL.st 0 ⟨rfl,rfl,rfl⟩ rfl rfl rfl sz31 rfl rfl rfl trivial (SL.nx (SX.pick [1,2,0,3] 4 (SX.region (SL.ldA (encRef x1) (.r rfl) ag31 rfl rfl (cells_all 2 rfl) ?_))))
 refine SL.call (vs:=[_,_]) (Hin:=[_,_]) (Hr:=_::_) (.r rfl) rfl ⟨rfl,rfl,trivial⟩ cal171 rfl rfl (w_wref ht1 ha) ?_
 rintro _ _ ⟨rfl,p6,v6,ha6,rfl⟩
 refine ⟨trivial,?_⟩
 refine SL.nil (SQ.blk (SQ.thn (SX.region (SL.bin (.r rfl) rfl rfl Bin.addW (SL.mv (.r rfl) rfl (SL.nil ?_))))))
 exact SQ.again (m1,t1,wI (i+1),p6,v6) ⟨h,ha6⟩ (Nat.lt_succ_self _) (by repeat' (first | exact trivial | refine And.intro rfl ?_)) (fun _ hw=>HpOk.pick (H:=[_,_,_,_]) hw [0,1,3] 4 rfl)
 replace h:=cF hc3 h
 have hend:s.length≤140737488355328∧r=(s,0):=by
  unfold endO at h
  split at h
  rename_i hc
  exact ⟨by omega,(Option.some.inj h).symm⟩
  cases h
 obtain ⟨hend,rfl⟩:=hend
 refine SX.exit (SQ.thnE (SQ.lpE (SQ.blkE (SQ.thn (SX.sr (SL.fa (.r rfl) rfl fo243_0 ?_))))))
 refine SL.call (vs:=[_]) (Hin:=[_,_]) (Hr:=_::_) (.r rfl) rfl ⟨rfl,trivial⟩ cal103 rfl rfl (c_String 243 b1 p v s.length s hend) ?_
 rintro _ _ ⟨rfl,rfl⟩
 refine ⟨trivial,?_⟩
 refine SL.asg (.r rfl) rfl (SL.asg (.r rfl) rfl (SL.nx (SX.ret (SQ.thnR ?_))))
 exact SQ.fret (res2 rfl rfl rfl) (ret_of (M:=[]) ⟨rfl,rfl⟩ fun _ hw=>HpOk.pick (H:=[_,_,_]) hw [] 3 rfl)
 replace h:=cF hc2 h
 obtain ⟨s2,hs2,h⟩:=bnd h
 obtain ⟨s3,hs3,h⟩:=bnd h
 refine SX.skip (SQ.thn (SX.sr (SL.mv (.r rfl) rfl (SL.fa (.r rfl) rfl fo148_2 (SL.ld (.r rfl) sc35 rfl (cell_own 2 rfl rfl) (SL.lenV hs0_4 (.r rfl) ty35 rfl (SL.cv (.r rfl) rfl (Cv.i_64 ty3 ty48) ?_)))))))
 refine SL.call (vs:=[_,_]) (Hin:=[_,_]) (Hr:=_::_) (.r rfl) rfl ⟨rfl,rfl,trivial⟩ cal170 rfl rfl (w_wput hs2 ha1) ?_
 rintro _ _ ⟨rfl,p2,v2,ha2,rfl⟩
 refine ⟨trivial,?_⟩
 refine SL.nx (SX.sr (SL.fa (.r rfl) rfl fo148_4 (SL.ldA (encRef ⟨p0.npage,p0.ntag⟩) (.r rfl) ag31 rfl rfl (cells_own 2 rfl (by rintro (_ | (_ | j)) u hj<;>first | exact hj | exact absurd hj (by simp [encRef]))) ?_)))
 refine SL.call (vs:=[_,_]) (Hin:=[_,_]) (Hr:=_::_) (.r rfl) rfl ⟨rfl,rfl,trivial⟩ cal171 rfl rfl (w_wref hs3 ha2) ?_
 rintro _ _ ⟨rfl,p3,v3,ha3,rfl⟩
 refine ⟨trivial,?_⟩
 refine SL.nx (SX.seq (SX.sr (SL.fa (.r rfl) rfl fo148_2 (SL.ld (.r rfl) sc35 rfl (cell_own 2 rfl rfl) (SL.lenV hs0_4 (.r rfl) ty35 rfl (SL.mv (.r rfl) rfl (SL.nx (SX.block ?_))))))))
 refine SX.mono (SX.loop (α:=Nat×List UInt8×Int×Value×Value) (fun x=>f_rows_Encode_l2 p0 x.1 (x.2.1,x.2.2.1)=some r∧adr b1 x.2.2.2.1) (fun x=>[(4,vP b1 0),(68,v0_4),(69,vI (p0.rows.length:Int)),(5,.func (.func 170) #[vP b1 0] #[]),(70,vI x.2.2.1)]) (fun x=>wrC b1 x.2.2.2.1 x.2.2.2.2::bufC x.2.2.2.2 x.2.1::own b0 (.cells #[vI p0.kind,vU32 p0.cx,vU32 p0.cy,vI p0.lev,v0_4,v0_5,vU32 p0.npage,vS p0.ntag] 148)::H) (fun x=>x.1) (fun x D hp=>?_) (n,s3,0,p3,v3) ⟨h,ha3⟩) (by repeat' (first | exact trivial | refine And.intro rfl ?_))
 obtain ⟨m1,s,i,p,v⟩:=x
 obtain ⟨h,ha⟩:=hp
 dsimp only at h ha
 rcases m1 with _ | m1
 cases (show (none:Option _)=some r from h)
 replace h:f_rows_Encode_l2_b p0 (f_rows_Encode_l2 p0 m1) s i=some r:=h
 unfold f_rows_Encode_l2_b at h
 refine SX.re [(4,vP b1 0),(68,v0_4),(69,vI (p0.rows.length:Int)),(5,.func (.func 170) #[vP b1 0] #[]),(70,vI i)] (wrC b1 p v::bufC v s::own b0 (.cells #[vI p0.kind,vU32 p0.cx,vU32 p0.cy,vI p0.lev,v0_4,v0_5,vU32 p0.npage,vS p0.ntag] 148)::H) ?_ (by repeat' (first | exact trivial | refine And.intro rfl ?_))
 refine SX.sr (SL.bin (.r rfl) rfl rfl Bin.ltI (SL.nx (SX.seq ?_)))
 refine SX.cond rfl (fun hc3=>?_) (fun hc3=>?_)
 replace h:=cT hc3 h
 obtain ⟨x1,hx1,h⟩:=bnd h
 obtain ⟨t1,ht1,h⟩:=bnd h
 obtain ⟨t2,ht2,h⟩:=bnd h
 obtain ⟨t3,ht3,h⟩:=bnd h
 obtain ⟨t4,ht4,h⟩:=bnd h
 obtain ⟨t5,ht5,h⟩:=bnd h
 refine SX.skip (SQ.thn (SX.seq (SX.block (SX.sr ?_))))
 refine SL.iaN hx1 hs0_4 (.r rfl) ty35 sz79 rfl rfl fun be1 of1 hc4=>?_
 refine SL.ldA (encRow x1) (.r rfl) ag79 rfl rfl (cells_kept hc4) ?_
 refine SL.alloc (.r rfl) ze79 (fun _=>trivial) fun b2=>?_
 refine SL.st 0 ⟨rfl,rfl,rfl⟩ rfl rfl rfl sz79 rfl rfl rfl trivial (SL.nx (SX.pick [1,2,0,3] 4 (SX.sr (SL.mv (.r rfl) rfl (SL.fa (.r rfl) rfl fo79_0 (SL.ld (.r rfl) sc48 rfl (cell_own 2 rfl rfl) ?_))))))
 refine SL.call (vs:=[_,_]) (Hin:=[_,_]) (Hr:=_::_) (.r rfl) rfl ⟨rfl,rfl,trivial⟩ cal170 rfl rfl (w_wput ht1 ha) ?_
 rintro _ _ ⟨rfl,p4,v4,ha4,rfl⟩
 refine ⟨trivial,?_⟩
 refine SL.nx (SX.sr (SL.mv (.r rfl) rfl (SL.fa (.r rfl) rfl fo79_1 (SL.ld (.r rfl) sc29 rfl (cell_own 2 rfl rfl) (SL.cv (.r rfl) rfl (Cv.u32_64 ty29 ty48) ?_)))))
 refine SL.call (vs:=[_,_]) (Hin:=[_,_]) (Hr:=_::_) (.r rfl) rfl ⟨rfl,rfl,trivial⟩ cal170 rfl rfl (w_wput ht2 ha4) ?_
 rintro _ _ ⟨rfl,p5,v5,ha5,rfl⟩
 refine ⟨trivial,?_⟩
 refine SL.nx (SX.sr (SL.mv (.r rfl) rfl (SL.fa (.r rfl) rfl fo79_2 (SL.ld (.r rfl) sc29 rfl (cell_own 2 rfl rfl) (SL.cv (.r rfl) rfl (Cv.u32_64 ty29 ty48) ?_)))))
 refine SL.call (vs:=[_,_]) (Hin:=[_,_]) (Hr:=_::_) (.r rfl) rfl ⟨rfl,rfl,trivial⟩ cal170 rfl rfl (w_wput ht3 ha5) ?_
 rintro _ _ ⟨rfl,p6,v6,ha6,rfl⟩
 refine ⟨trivial,?_⟩
 refine SL.nx (SX.sr (SL.mv (.r rfl) rfl (SL.fa (.r rfl) rfl fo79_3 (SL.ld (.r rfl) sc9 rfl (cell_own 2 rfl rfl) (SL.lenS (.r rfl) ty9 rfl (SL.cv (.r rfl) rfl (Cv.i_64 ty3 ty48) ?_))))))
 refine SL.call (vs:=[_,_]) (Hin:=[_,_]) (Hr:=_::_) (.r rfl) rfl ⟨rfl,rfl,trivial⟩ cal170 rfl rfl (w_wput ht4 ha6) ?_
 rintro _ _ ⟨rfl,p7,v7,ha7,rfl⟩
 refine ⟨trivial,?_⟩
 refine SL.nx (SX.region (SL.fa (.r rfl) rfl fo243_0 (SL.fa (.r rfl) rfl fo79_3 (SL.ld (.r rfl) sc9 rfl (cell_own 2 rfl rfl) ?_))))
 refine SL.call (vs:=[_,_]) (Hin:=[_,_]) (Hr:=_::_) (.r rfl) rfl ⟨rfl,rfl,trivial⟩ cal101 rfl rfl (w_wstr ht5 ha7) ?_
 rintro _ _ ⟨rfl,p8,v8,ha8,rfl⟩
 refine ⟨trivial,?_⟩
 refine SL.nil (SQ.blk (SQ.thn (SX.region (SL.bin (.r rfl) rfl rfl Bin.addW (SL.mv (.r rfl) rfl (SL.nil ?_))))))
 exact SQ.again (m1,t5,wI (i+1),p8,v8) ⟨h,ha8⟩ (Nat.lt_succ_self _) (by repeat' (first | exact trivial | refine And.intro rfl ?_)) (fun _ hw=>HpOk.pick (H:=[_,_,_,_]) hw [0,1,3] 4 rfl)
 replace h:=cF hc3 h
 have hend:s.length≤140737488355328∧r=(s,0):=by
  unfold endO at h
  split at h
  rename_i hc
  exact ⟨by omega,(Option.some.inj h).symm⟩
  cases h
 obtain ⟨hend,rfl⟩:=hend
 refine SX.exit (SQ.thnE (SQ.lpE (SQ.blkE (SQ.thn (SX.sr (SL.fa (.r rfl) rfl fo243_0 ?_))))))
 refine SL.call (vs:=[_]) (Hin:=[_,_]) (Hr:=_::_) (.r rfl) rfl ⟨rfl,trivial⟩ cal103 rfl rfl (c_String 243 b1 p v s.length s hend) ?_
 rintro _ _ ⟨rfl,rfl⟩
 refine ⟨trivial,?_⟩
 refine SL.asg (.r rfl) rfl (SL.asg (.r rfl) rfl (SL.nx (SX.ret ?_)))
 exact SQ.fret (res2 rfl rfl rfl) (ret_of (M:=[]) ⟨rfl,rfl⟩ fun _ hw=>HpOk.pick (H:=[_,_,_]) hw [] 3 rfl)
end Go.Proofs.YtkibffdipniemaaGreatDoor

/- Plain functions of the references and the laws, printed from the loaded program, and the walks that show that the program computes them. Condition: the plain function yields. -/
namespace Go.Proofs.YtkibffdipniemaaGreatDoor
open Go
variable {K:Nat→Prop} {w0:World} {H:List Chunk}

def f_rows_reader_take (p0:RdA) (p1:Int):Option (List UInt8×RdA):=
 cond (decide ((p0.s.length:Int)<p1))
 (
  (rep0O [0] p1).bind fun y1=>
  some (y1,{ p0 with short:=true }))
 (
  (slcI p0.s 0 p1).bind fun s1=>
  (slcI p0.s p1 (p0.s.length:Int)).bind fun s2=>
  some (s1,{ p0 with s:=s2 }))
set_option maxRecDepth 100000 in
theorem c_rows_reader_take {b0_:Nat} {p0:RdA} {p1:Int} {r:List UInt8×RdA} (h:f_rows_reader_take p0 p1=some r)  : Con Tryz.prog K w0 203 [vP b0_ 0,vI p1] [own b0_ (.cells #[vS p0.s,vB p0.short] 194)] H (fun u M=>u=vS r.1∧M=[own b0_ (.cells #[vS r.2.s,vB r.2.short] 194)]):=by
 unfold f_rows_reader_take at h
 refine Con.enter Tryz.func203 rfl rfl ?_
 refine SX.sr (SL.asg (.r rfl) rfl (SL.nx (SX.seq (SX.sr (SL.mv (.r rfl) rfl (SL.nchk (.r rfl) rfl (SL.fa (.r rfl) rfl fo194_0 (SL.ld (.r rfl) sc9 rfl (cell_own 0 rfl rfl) (SL.lenS (.r rfl) ty9 rfl (SL.mv (.r rfl) rfl (SL.bin (.r rfl) rfl rfl Bin.ltI (SL.nx ?_))))))))))))
 refine SX.cond rfl (fun hc1=>?_) (fun hc1=>?_)
 replace h:=cT hc1 h
 refine SX.sr (SL.mv (.r rfl) rfl (SL.nchk (.r rfl) rfl (SL.fa (.r rfl) rfl fo194_1 (SL.st 0 ⟨rfl,rfl,rfl⟩ rfl rfl rfl sz4 rfl rfl rfl trivial (SL.nx (SX.sr ?_))))))
 obtain ⟨y1,hy1,h⟩:=bnd h
 refine SL.mv (.r rfl) rfl ?_
 refine SL.call (vs:=[_,_]) (Hin:=[]) (Hr:=_::_) (.r rfl) rfl ⟨rfl,rfl,trivial⟩ cal70 rfl rfl (w_rep0 hy1) ?_
 rintro _ _ ⟨rfl,rfl⟩
 refine ⟨trivial,?_⟩
 refine SL.asg (.r rfl) rfl (SL.nx (SX.ret (SQ.thnR ?_)))
 obtain rfl:=Option.some.inj h
 exact SQ.fret (res1 rfl rfl) (ret_of (M:=[_]) ⟨rfl,rfl⟩ fun _ hw=>HpOk.pick (H:=[_]) hw [0] 1 rfl)
 replace h:=cF hc1 h
 refine SX.skip (SQ.thn (SX.sr ?_))
 obtain ⟨s1,hs1,h⟩:=bnd h
 refine SL.mv (.r rfl) rfl (SL.nchk (.r rfl) rfl (SL.fa (.r rfl) rfl fo194_0 (SL.ld (.r rfl) sc9 rfl (cell_own 0 rfl rfl) (SL.mv (.r rfl) rfl (SL.slNh hs1 (.r rfl) ty9 rfl rfl (SL.asg (.r rfl) rfl (SL.nx (SX.sr ?_))))))))
 obtain ⟨s2,hs2,h⟩:=bnd h
 refine SL.mv (.r rfl) rfl (SL.mv (.r rfl) rfl (SL.nchk (.r rfl) rfl (SL.fa (.r rfl) rfl fo194_0 (SL.ld (.r rfl) sc9 rfl (cell_own 0 rfl rfl) (SL.mv (.r rfl) rfl (SL.slNl hs2 (.r rfl) ty9 rfl rfl (SL.nchk (.r rfl) rfl ?_)))))))
 refine SL.fa (.r rfl) rfl fo194_0 (SL.st 0 ⟨rfl,rfl,rfl⟩ rfl rfl rfl sz9 rfl rfl rfl trivial (SL.nx (SX.sr (SL.mv (.r rfl) rfl (SL.asg (.r rfl) rfl (SL.nx (SX.ret ?_)))))))
 obtain rfl:=Option.some.inj h
 exact SQ.fret (res1 rfl rfl) (ret_of (M:=[_]) ⟨rfl,rfl⟩ fun _ hw=>HpOk.pick (H:=[_]) hw [0] 1 rfl)


end Go.Proofs.YtkibffdipniemaaGreatDoor

/- Numbers of pages' bytes: rows.reader.get. Condition: the plain functions yield. -/
namespace Go.Proofs.YtkibffdipniemaaGreatDoor
open Go
variable {K:Nat→Prop} {w0:World} {H:List Chunk}

def f_rows_reader_get (p0:RdA) (p1:Int):Option (UInt64×RdA):=(f_rows_reader_take p0 p1).bind fun y=>if y.1.length≤8 then some (leGetN y.1 y.1.length,y.2) else none
set_option maxRecDepth 100000 in
theorem c_rows_reader_get {b0_:Nat} {p0:RdA} {p1:Int} {r:UInt64×RdA} (h:f_rows_reader_get p0 p1=some r):Con Tryz.prog K w0 162 [vP b0_ 0,vI p1] [own b0_ (.cells #[vS p0.s,vB p0.short] 194)] H (fun u M=>u=vU64 r.1∧M=[own b0_ (.cells #[vS r.2.s,vB r.2.short] 194)]):=by
 unfold f_rows_reader_get at h
 obtain ⟨⟨s,q⟩,hy,h⟩:=bnd h
 dsimp only at h
 split at h
 case isFalse=>cases h
 rename_i hlen
 obtain rfl:=Option.some.inj h
 refine Con.enter Tryz.func162 rfl rfl ?_
 refine SX.sr (SL.asg (.r rfl) rfl (SL.nx (SX.sr (SL.asg (.r rfl) rfl (SL.nx (SX.seq (SX.sr (SL.mv (.r rfl) rfl (SL.mv (.r rfl) rfl ?_)))))))))
 refine SL.call (vs:=[_,_]) (Hin:=[_]) (Hr:=_) (.r rfl) rfl ⟨rfl,rfl,trivial⟩ cal203 rfl rfl (c_rows_reader_take hy) ?_
 rintro _ _ ⟨rfl,rfl⟩
 refine ⟨trivial,?_⟩
 refine SL.stb (.r rfl) ty9 ty141 ty5 rfl (fun _=>trivial) fun v1 L1 hL=>?_
 refine SL.lenF hL (.r rfl) ty141 rfl (SL.mv (.r rfl) rfl (SL.nx (SX.block ?_)))
 refine SX.mono (SX.loop (α:=Nat) (fun k=>k≤s.length) (fun k=>[(5,vU64 (leGetN s k)),(11,v1),(12,vI (s.length:Nat)),(13,vI k)]) (fun k=>fzC L1::own b0_ (.cells #[vS q.s,vB q.short] 194)::H) (fun k=>s.length-k) (fun k D hp=>?_) 0 (Nat.zero_le _)) (by repeat' (first | exact trivial | refine And.intro rfl ?_))
 refine SX.sr (SL.bin (.r rfl) rfl rfl Bin.ltI (SL.nx (SX.seq ?_)))
 refine SX.cond rfl (fun hc1=>?_) (fun hc1=>?_)
 have hk:k<s.length:=by simpa using hc1
 have hn:nthI s (k:Int)=some (s.getD k 0):=by
  rw [nthI,if_pos (by omega)]
  simp [hk]
 refine SX.skip (SQ.thn (SX.seq (SX.block (SX.sr (SL.mv (.r rfl) rfl ?_)))))
 refine SL.iaF hn hL (.r rfl) ty141 sz5 rfl rfl fun b1 of1 hc=>?_
 refine SL.ld (.r rfl) sc5 rfl (cell_fz (j:=0) 0 rfl hc rfl) ?_
 refine SL.asg (.r rfl) rfl (SL.asg (.r rfl) rfl (SL.nx (SX.region (SL.mv (.r rfl) rfl (SL.mv (.r rfl) rfl (SL.cv (.r rfl) rfl (Cv.u8_64 ty5 ty48) (SL.mv (.r rfl) rfl (SL.bin (.r rfl) rfl rfl (Bin.mulI (by omega) (by omega)) ?_))))))))
 refine SL.bin (.r rfl) rfl rfl (Bin.shl64 (n:=(8*k))) ?_
 refine SL.bin (.r rfl) rfl rfl Bin.or64 (SL.asg (.r rfl) rfl (SL.nil (SQ.blk (SQ.thn (SX.region (SL.bin (.r rfl) rfl rfl (Bin.addI (by omega) (by omega)) (SL.mv (.r rfl) rfl (SL.nil ?_))))))))
 exact SQ.again (k+1) hk (by omega) (by repeat' (first | exact trivial | refine And.intro rfl ?_))
 have hk:k=s.length:=by simp at hc1;omega
 subst hk
 refine SX.exit (SQ.thnE (SQ.lpE (SQ.blkE (SQ.thn (SX.sr (SL.mv (.r rfl) rfl (SL.asg (.r rfl) rfl (SL.nx (SX.ret ?_)))))))))
 exact SQ.fret (res1 rfl rfl) (ret_of (M:=[_]) ⟨rfl,rfl⟩ fun _ hw=>HpOk.pick (H:=[_,_]) hw [1] 2 rfl)
end Go.Proofs.YtkibffdipniemaaGreatDoor

/- Plain functions of the references and the laws, printed from the loaded program, and the walks that show that the program computes them. Condition: the plain function yields. -/
namespace Go.Proofs.YtkibffdipniemaaGreatDoor
open Go
variable {K:Nat→Prop} {w0:World} {H:List Chunk}

def f_rows_reader_ref (p0:RdA):Option (RefA×RdA):=
 (f_rows_reader_get p0 4).bind fun y1=>
 (f_rows_reader_take y1.2 32).bind fun y2=>
 some ((⟨y1.1.toUInt32,y2.1⟩:RefA),y2.2)
set_option maxRecDepth 100000 in
theorem c_rows_reader_ref {b0_:Nat} {p0:RdA} {r:RefA×RdA} (h:f_rows_reader_ref p0=some r)  : Con Tryz.prog K w0 163 [vP b0_ 0] [own b0_ (.cells #[vS p0.s,vB p0.short] 194)] H (fun u M=>u=.agg (encRef r.1).toArray∧M=[own b0_ (.cells #[vS r.2.s,vB r.2.short] 194)]):=by
 unfold f_rows_reader_ref at h
 refine Con.enter Tryz.func163 rfl rfl ?_
 refine SX.sr ?_
 refine SL.alloc (.r rfl) ze31 (fun _=>trivial) fun b1=>?_
 refine SL.nx (SX.sr ?_)
 obtain ⟨y1,hy1,h⟩:=bnd h
 obtain ⟨y2,hy2,h⟩:=bnd h
 refine SL.mv (.r rfl) rfl (SL.pick [1,0] 2 ?_)
 refine SL.call (vs:=[_,_]) (Hin:=[_]) (Hr:=_::_) (.r rfl) rfl ⟨rfl,rfl,trivial⟩ cal162 rfl rfl (c_rows_reader_get hy1) ?_
 rintro _ _ ⟨rfl,rfl⟩
 refine ⟨trivial,?_⟩
 refine SL.cv (.r rfl) rfl (Cv.u64_32 ty48 ty29) (SL.mv (.r rfl) rfl ?_)
 refine SL.call (vs:=[_,_]) (Hin:=[_]) (Hr:=_::_) (.r rfl) rfl ⟨rfl,rfl,trivial⟩ cal203 rfl rfl (c_rows_reader_take hy2) ?_
 rintro _ _ ⟨rfl,rfl⟩
 refine ⟨trivial,?_⟩
 refine SL.bld [_,_] (.r rfl) pl31 pk31 ze31 ⟨rfl,rfl,trivial⟩ rfl (SL.st 1 ⟨rfl,rfl,rfl⟩ rfl rfl rfl sz31 rfl rfl rfl trivial (SL.nx (SX.ret ?_)))
 obtain rfl:=Option.some.inj h
 exact SQ.fret (resv1 rfl (resv.ag 1 (encRef (⟨y1.1.toUInt32,y2.1⟩:RefA)) ag31 rfl rfl rfl rfl)) (ret_of (M:=[_]) ⟨rfl,rfl⟩ fun _ hw=>HpOk.pick (H:=[_,_]) hw [0] 2 rfl)


end Go.Proofs.YtkibffdipniemaaGreatDoor

/- The range over the rows that a page's bytes hold. Condition: the plain functions yield. -/
namespace Go.Proofs.YtkibffdipniemaaGreatDoor
open Go
variable {K:Nat→Prop} {w0:World} {H:List Chunk}

abbrev rdC (b:Nat) (q:RdA):Chunk:=own b (.cells #[vS q.s,vB q.short] 194)
def readRow (q:RdA):Option (RowA×RdA):=
 (f_rows_reader_get q 8).bind fun a=>(f_rows_reader_get a.2 4).bind fun b=>(f_rows_reader_get b.2 4).bind fun c=>(f_rows_reader_get c.2 1).bind fun d=>(f_rows_reader_take d.2 (wI (d.1.toNat:Int))).bind fun e=>some (⟨a.1,b.1.toUInt32,c.1.toUInt32,e.1⟩,e.2)
def rowStep (n:Int) (s:Nat×RdA):Option (RowA×(Nat×RdA)):=if (s.1:Int)<n then (readRow s.2).bind fun y=>some (y.1,(s.1+1,y.2)) else none
def rowD (n:Int) (s:Nat×RdA):Bool:=decide (n≤(s.1:Int))
theorem rowD_step {n:Int} (s:Nat×RdA) (y:RowA×(Nat×RdA)) (h:rowStep n s=some y):rowD n s=false:=by
 unfold rowStep at h
 split at h
 rename_i hlt
 exact decide_eq_false (by omega)
 cases h
def rowsO (_:RdA) (n:Int):Option Unit:=if n≤1000000 then some () else none
theorem rowsO_le {q:RdA} {n:Int} {u:Unit} (h:rowsO q n=some u):n≤1000000:=by
 unfold rowsO at h
 split at h
 assumption
 cases h
theorem w_rows {b:Nat} {q:RdA} {n:Int} {r:Unit} (_:rowsO q n=some r):Con Tryz.prog K w0 164 [vP b 0,vI n] [] H (fun u M=>∃bn bq:Nat,u=.func (.func 204) #[] #[vP bn 0,vP bq 0]∧M=[own bn (.cells #[vI n] 3),own bq (.cells #[vP b 0] 192)]):=by
 refine Con.enter Tryz.func164 rfl rfl ?_
 refine SX.sr ?_
 refine SL.box (.r rfl) rfl (fun _=>trivial) fun b0=>?_
 refine SL.box (.r rfl) rfl (fun _=>trivial) fun b1=>?_
 refine SL.asg (.r rfl) rfl (SL.nx (SX.sr ?_))
 refine SL.mkf (fv:=#[]) (cv:=#[_,_]) (.r rfl) rfl rfl ?_
 refine SL.asg (.r rfl) rfl (SL.nx (SX.ret ?_))
 exact SQ.fret (res1 rfl rfl) (ret_of (M:=[_,_]) ⟨_,_,rfl,rfl⟩ fun _ hw=>HpOk.pick (H:=[_,_]) hw [0,1] 2 rfl)
def encR1 (r:RowA):List Value:=[.agg (encRow r).toArray]
set_option maxHeartbeats 4000000 in
set_option maxRecDepth 100000 in
theorem q_rows {bn bq br:Nat} {n:Int} {q0:RdA} {u0:Unit} (hu:rowsO q0 n=some u0) (s0:RdA):
  SeqSt Tryz.prog K w0 204 [vP bn 0,vP bq 0] [own bn (.cells #[vI n] 3),own bq (.cells #[vP br 0] 192)] encR1 (fun s=>rdC br s.2) (rowStep n) (fun s=>rowD n s=true) (0,s0):=by
 have hn:=rowsO_le hu
 intro lp J X T rc G0 hy hdef h0
 refine Con.enter Tryz.func204 rfl rfl ?_
 show SX _ _ _ _ _ _ _ _ _ (own bn (.cells #[vI n] 3)::own bq (.cells #[vP br 0] 192)::rdC br s0::((rc::G0)++T))
 refine SX.pick [2,0,1] 3 (SX.sr (SL.ld (.r rfl) sc3 rfl (cell_own 1 rfl rfl) (SL.mv (.r rfl) rfl (SL.nx (SX.block ?_)))))
 refine SX.mono (SX.loop (α:=Nat×RdA×List Chunk) (fun x=>J (x.1,x.2.1) x.2.2) (fun x=>[(0,vY lp),(2,vP bq 0),(5,vI n),(6,vI x.1)])
  (fun x=>rdC br x.2.1::own bn (.cells #[vI n] 3)::own bq (.cells #[vP br 0] 192)::(x.2.2++T)) (fun x=>n.toNat-x.1) (fun x D hp=>?_) (0,s0,rc::G0) h0) (by repeat' (first | exact trivial | refine And.intro rfl ?_))
 obtain ⟨k,q,G⟩:=x
 have hJ:J (k,q) G:=hp
 clear hp
 dsimp only
 refine SX.sr (SL.bin (.r rfl) rfl rfl Bin.ltI (SL.nx (SX.seq ?_)))
 refine SX.cond rfl (fun hc1=>?_) (fun hc1=>?_)
 have hlt:(k:Int)<n:=of_decide_eq_true hc1
 clear hc1
 obtain ⟨x,s1,hst⟩:∃x s1,rowStep n (k,q)=some (x,s1):=by
  rcases hdef _ _ hJ with hd | hd
  exact absurd hd (by simp [rowD];omega)
  exact hd
 have hst0:=hst
 unfold rowStep at hst
 rw [if_pos (show (((k,q):Nat×RdA).1:Int)<n from hlt)] at hst
 obtain ⟨y,hy1,hst⟩:=bnd hst
 unfold readRow at hy1
 dsimp only at hy1
 obtain ⟨a,ha,hy1⟩:=bnd hy1
 obtain ⟨b,hb,hy1⟩:=bnd hy1
 obtain ⟨c,hc,hy1⟩:=bnd hy1
 obtain ⟨d,hd,hy1⟩:=bnd hy1
 obtain ⟨e,he,hy1⟩:=bnd hy1
 obtain rfl:=Option.some.inj hy1
 obtain ⟨rfl,rfl⟩:(⟨a.1,b.1.toUInt32,c.1.toUInt32,e.1⟩:RowA)=x∧(k+1,e.2)=s1:=by
  have:=Option.some.inj hst
  exact ⟨congrArg Prod.fst this,congrArg Prod.snd this⟩
 refine SX.skip (SQ.thn (SX.seq (SX.block ?_)))
 refine SX.meetD (α:=Nat) (fun _=>True) (fun b0=>[(0,vY lp),(2,vP bq 0),(4,vP b0 0),(5,vI n),(6,vI k)]) (fun b0=>own b0 (.cells #[vU64 a.1,vU32 b.1.toUInt32,vU32 c.1.toUInt32,vS []] 79)::rdC br c.2::own bn (.cells #[vI n] 3)::own bq (.cells #[vP br 0] 192)::(G++T)) ?_ (fun b0 D _=>?_)
 refine SX.drawI mix [2] (Pl.ap [(true,0),(true,2),(true,5)] (.alt 1 (.alt 3 (Pl.ap [(true,4)] (.alt 6 (Pl.ap [(true,7),(true,8),(false,9)] (.last 10 .nil)) (.cons (false,9) (Pl.ap [(false,6),(true,7),(true,8)] (.last 10 .nil))))) (.cons (false,9) (Pl.ap [(false,3),(true,4),(false,6),(true,7),(true,8)] (.last 10 .nil)))) (.cons (false,9) (Pl.ap [(false,1),(false,3),(true,4),(false,6),(true,7),(true,8)] (.last 10 .nil))))) (by kernel_rfl) (SL.ld (.r rfl) sc192 rfl (cell_own 0 rfl rfl) (SL.ld (.r rfl) sc192 rfl (cell_own 0 rfl rfl) (SL.ld (.r rfl) sc192 rfl (cell_own 0 rfl rfl) ?_)))
 refine SL.two ?_ ?_
 refine SL.call (vs:=[_,_]) (Hin:=[_]) (Hr:=_::_::_) (.r rfl) rfl ⟨rfl,rfl,trivial⟩ cal162 rfl rfl (c_rows_reader_get ha) ?_
 rintro _ _ ⟨rfl,rfl⟩
 refine ⟨⟨⟨2,rfl⟩,trivial⟩,?_⟩
 refine SL.two ?_ ?_
 refine SL.call (vs:=[_,_]) (Hin:=[_]) (Hr:=_::_::_) (.r rfl) rfl ⟨rfl,rfl,trivial⟩ cal162 rfl rfl (c_rows_reader_get hb) ?_
 rintro _ _ ⟨rfl,rfl⟩
 refine ⟨⟨⟨2,rfl⟩,trivial⟩,?_⟩
 refine SL.cv (.r rfl) rfl (Cv.u64_32 ty48 ty29) ?_
 refine SL.two ?_ ?_
 refine SL.call (vs:=[_,_]) (Hin:=[_]) (Hr:=_::_::_) (.r rfl) rfl ⟨rfl,rfl,trivial⟩ cal162 rfl rfl (c_rows_reader_get hc) ?_
 rintro _ _ ⟨rfl,rfl⟩
 refine ⟨⟨⟨2,rfl⟩,trivial⟩,?_⟩
 refine SL.cv (.r rfl) rfl (Cv.u64_32 ty48 ty29) (SL.bld [_,_,_] (.r rfl) pl79 pk79 ze79 ⟨rfl,rfl,rfl,trivial⟩ rfl ?_)
 refine SL.alloc (.r rfl) ze79 (fun _=>⟨⟨3,rfl⟩,trivial⟩) fun b0=>?_
 refine SL.last (SL.st 0 ⟨rfl,rfl,rfl⟩ rfl rfl rfl sz79 rfl rfl rfl trivial (SL.nil ?_))
 exact SQ.midD b0 trivial (by repeat' (first | exact trivial | refine And.intro rfl ?_)) (fun _ hw=>HpOk.pick (H:=[_,_]) hw [0,1] 2 rfl)
 refine SL.alloc (.r rfl) ze79 (fun _=>⟨⟨3,rfl⟩,trivial⟩) fun b0=>?_
 refine SL.pick [1,0] 2 ?_
 refine SL.call (vs:=[_,_]) (Hin:=[_]) (Hr:=_::_::_::_) (.r rfl) rfl ⟨rfl,rfl,trivial⟩ cal162 rfl rfl (c_rows_reader_get hc) ?_
 rintro _ _ ⟨rfl,rfl⟩
 refine ⟨⟨⟨3,rfl⟩,trivial⟩,?_⟩
 refine SL.cv (.r rfl) rfl (Cv.u64_32 ty48 ty29) (SL.bld [_,_,_] (.r rfl) pl79 pk79 ze79 ⟨rfl,rfl,rfl,trivial⟩ rfl (SL.last (SL.st 1 ⟨rfl,rfl,rfl⟩ rfl rfl rfl sz79 rfl rfl rfl trivial (SL.nil ?_))))
 exact SQ.midD b0 trivial (by repeat' (first | exact trivial | refine And.intro rfl ?_)) (fun _ hw=>HpOk.pick (H:=[_,_]) hw [1,0] 2 rfl)
 refine SL.alloc (.r rfl) ze79 (fun _=>⟨⟨3,rfl⟩,trivial⟩) fun b0=>?_
 refine SL.pick [1,0] 2 ?_
 refine SL.call (vs:=[_,_]) (Hin:=[_]) (Hr:=_::_::_::_) (.r rfl) rfl ⟨rfl,rfl,trivial⟩ cal162 rfl rfl (c_rows_reader_get hb) ?_
 rintro _ _ ⟨rfl,rfl⟩
 refine ⟨⟨⟨3,rfl⟩,trivial⟩,?_⟩
 refine SL.cv (.r rfl) rfl (Cv.u64_32 ty48 ty29) ?_
 refine SL.call (vs:=[_,_]) (Hin:=[_]) (Hr:=_::_::_::_) (.r rfl) rfl ⟨rfl,rfl,trivial⟩ cal162 rfl rfl (c_rows_reader_get hc) ?_
 rintro _ _ ⟨rfl,rfl⟩
 refine ⟨⟨⟨3,rfl⟩,trivial⟩,?_⟩
 refine SL.cv (.r rfl) rfl (Cv.u64_32 ty48 ty29) (SL.bld [_,_,_] (.r rfl) pl79 pk79 ze79 ⟨rfl,rfl,rfl,trivial⟩ rfl (SL.last (SL.st 1 ⟨rfl,rfl,rfl⟩ rfl rfl rfl sz79 rfl rfl rfl trivial (SL.nil ?_))))
 exact SQ.midD b0 trivial (by repeat' (first | exact trivial | refine And.intro rfl ?_)) (fun _ hw=>HpOk.pick (H:=[_,_]) hw [1,0] 2 rfl)
 refine SL.alloc (.r rfl) ze79 (fun _=>⟨⟨3,rfl⟩,trivial⟩) fun b0=>?_
 refine SL.pick [1,0] 2 ?_
 refine SL.call (vs:=[_,_]) (Hin:=[_]) (Hr:=_::_::_::_) (.r rfl) rfl ⟨rfl,rfl,trivial⟩ cal162 rfl rfl (c_rows_reader_get ha) ?_
 rintro _ _ ⟨rfl,rfl⟩
 refine ⟨⟨⟨3,rfl⟩,trivial⟩,?_⟩
 refine SL.call (vs:=[_,_]) (Hin:=[_]) (Hr:=_::_::_::_) (.r rfl) rfl ⟨rfl,rfl,trivial⟩ cal162 rfl rfl (c_rows_reader_get hb) ?_
 rintro _ _ ⟨rfl,rfl⟩
 refine ⟨⟨⟨3,rfl⟩,trivial⟩,?_⟩
 refine SL.cv (.r rfl) rfl (Cv.u64_32 ty48 ty29) ?_
 refine SL.call (vs:=[_,_]) (Hin:=[_]) (Hr:=_::_::_::_) (.r rfl) rfl ⟨rfl,rfl,trivial⟩ cal162 rfl rfl (c_rows_reader_get hc) ?_
 rintro _ _ ⟨rfl,rfl⟩
 refine ⟨⟨⟨3,rfl⟩,trivial⟩,?_⟩
 refine SL.cv (.r rfl) rfl (Cv.u64_32 ty48 ty29) (SL.bld [_,_,_] (.r rfl) pl79 pk79 ze79 ⟨rfl,rfl,rfl,trivial⟩ rfl (SL.last (SL.st 1 ⟨rfl,rfl,rfl⟩ rfl rfl rfl sz79 rfl rfl rfl trivial (SL.nil ?_))))
 exact SQ.midD b0 trivial (by repeat' (first | exact trivial | refine And.intro rfl ?_)) (fun _ hw=>HpOk.pick (H:=[_,_]) hw [1,0] 2 rfl)
 refine SX.seq (SX.drawI mix [3] (Pl.ap [(true,0),(true,1),(false,2),(true,3),(false,4),(true,5)] (.last 6 .nil)) (by kernel_rfl) (SL.ld (.r rfl) sc192 rfl (cell_own 0 rfl rfl) (SL.ld (.r rfl) sc192 rfl (cell_own 0 rfl rfl) (SL.pick [1,0] 2 ?_))))
 refine SL.call (vs:=[_,_]) (Hin:=[_]) (Hr:=_::_::_::_) (.r rfl) rfl ⟨rfl,rfl,trivial⟩ cal162 rfl rfl (c_rows_reader_get hd) ?_
 rintro _ _ ⟨rfl,rfl⟩
 refine ⟨⟨⟨3,rfl⟩,trivial⟩,?_⟩
 refine SL.cv (.r rfl) rfl (Cv.I_I ty48 ty3) ?_
 refine SL.call (vs:=[_,_]) (Hin:=[_]) (Hr:=_::_::_::_) (.r rfl) rfl ⟨rfl,rfl,trivial⟩ cal203 rfl rfl (c_rows_reader_take he) ?_
 rintro _ _ ⟨rfl,rfl⟩
 refine ⟨⟨⟨3,rfl⟩,trivial⟩,?_⟩
 refine SL.fa (.r rfl) rfl fo79_3 (SL.last (SL.st 1 ⟨rfl,rfl,rfl⟩ rfl rfl rfl sz9 rfl rfl rfl trivial (SL.nx (SX.pick [1,2,3,0] 4 (SX.sr (SL.mv (.r rfl) rfl (SL.ldA (encRow ⟨a.1,b.1.toUInt32,c.1.toUInt32,e.1⟩) (.r rfl) ag79 rfl rfl (cells_all 0 rfl) ?_)))))))
 refine SL.yld (M2:=[_,_,_]) (G:=rdC br e.2::G) (T:=T) (vs:=[_]) (ok:=fun G1=>∃G2,G1=rdC br e.2::G2∧J (k+1,e.2) G2) (no:=X) (.r rfl) rfl ⟨rfl,trivial⟩ rfl ?_ (fun bb G1 hG1=>⟨trivial,?_⟩)
 intro M
 exact hy (k,q) ⟨a.1,b.1.toUInt32,c.1.toUInt32,e.1⟩ (k+1,e.2) hst0 G hJ M
 refine SL.not (.r rfl) rfl (SL.nx ?_)
 refine SX.cond rfl (fun hc3=>?_) (fun hc3=>?_)
 obtain rfl:bb=false:=by simpa using hc3
 refine SX.ret (SQ.blkR (SQ.thnR (SQ.lpR (SQ.blkR ?_))))
 exact SQ.fret (res0 rfl) (ret_of (M:=G1) (.inr hG1) fun _ h=>h.skip [_,_,_])
 obtain rfl:bb=true:=by simpa using hc3
 obtain ⟨G2,rfl,hJ2⟩:=hG1
 refine SX.skip (SQ.blk (SQ.thn (SX.region (SL.bin (.r rfl) rfl rfl (Bin.addI (by omega) (by omega)) (SL.mv (.r rfl) rfl (SL.nil ?_))))))
 exact SQ.again (k+1,e.2,G2) hJ2 (by dsimp only;omega) (by repeat' (first | exact trivial | refine And.intro rfl ?_)) (fun _ hw=>HpOk.pick (H:=[_,_,_,_]) hw [3,1,2] 4 rfl)
 have hge:n≤(k:Int):=by simpa using hc1
 refine SX.exit (SQ.thnE (SQ.lpE (SQ.blkE ?_)))
 exact SQ.fend (res0 rfl) (ret_of (M:=rdC br q::G) (.inl ⟨(k,q),G,decide_eq_true hge,rfl,hJ⟩) fun _ hw=>HpOk.pick (H:=[_,_,_]) hw [0] 3 rfl)
end Go.Proofs.YtkibffdipniemaaGreatDoor

/- Plain functions of the references and the laws, printed from the loaded program, and the walks that show that the program computes them. Condition: the plain function yields. -/
namespace Go.Proofs.YtkibffdipniemaaGreatDoor
open Go
variable {K:Nat→Prop} {w0:World} {H:List Chunk}

def f_rpg_j4 (y1:UInt64×RdA) (y9:UInt32) (y10:UInt32) (y11:Int) (l3:List RefA) (y16:RefA×RdA) (y17:List UInt8) (o4:RdA) (l7:List RowA):Option (PageA×RdA):=
 some ((⟨wI (y1.1.toNat:Int),y9,y10,y11,l7,l3,y16.1.page,y17⟩:PageA),o4)
def f_rpg_j6 (y1:UInt64×RdA) (y9:UInt32) (y10:UInt32) (y11:Int) (l3:List RefA) (y16:RefA×RdA) (y17:List UInt8) (o5:RdA) (l8:List RowA):Option (PageA×RdA):=
 f_rpg_j4 y1 y9 y10 y11 l3 y16 y17 o5 l8
def f_rpg_j5 (y1:UInt64×RdA) (y9:UInt32) (y10:UInt32) (y11:Int) (l3:List RefA) (y16:RefA×RdA) (y17:List UInt8) (o5:RdA) (l8:List RowA):Option (PageA×RdA):=
 f_rpg_j4 y1 y9 y10 y11 l3 y16 y17 o5 l8
def f_rpg_r1_b (y1:UInt64×RdA) (y9:UInt32) (y10:UInt32) (y11:Int) (l3:List RefA) (y16:RefA×RdA) (y17:List UInt8) (nx_f_rpg_r1:RdA×List RowA→Option (PageA×RdA)) (e1:RowA) (o5:RdA) (l8:List RowA):Option (PageA×RdA):=
 (appL 32 l8 [e1]).bind fun l9=>
 cond (o5.short||(decide (4<(l9.length:Int))))
 (
  f_rpg_j6 y1 y9 y10 y11 l3 y16 y17 o5 l9)
 (
  nx_f_rpg_r1 (o5,l9))
def f_rpg_r1 (y1:UInt64×RdA) (y9:UInt32) (y10:UInt32) (y11:Int) (l3:List RefA) (y16:RefA×RdA) (y17:List UInt8) (step:Nat×RdA→Option (RowA×(Nat×RdA))) (done:Nat×RdA→Bool):Nat→Nat×RdA→(RdA×List RowA)→Option (PageA×RdA):=rangeS step done (fun nx e s x=>f_rpg_r1_b y1 y9 y10 y11 l3 y16 y17 (nx s) e s.2 x.2) (fun s x=>f_rpg_j5 y1 y9 y10 y11 l3 y16 y17 s.2 x.2)
def f_rpg_j3 (n:Nat) (y1:UInt64×RdA) (x1:Int) (y9:UInt32) (y10:UInt32) (y11:Int) (l3:List RefA) (y16:RefA×RdA) (y17:List UInt8):Option (PageA×RdA):=
 (rowsO y16.2 x1).bind fun y19=>
 f_rpg_r1 y1 y9 y10 y11 l3 y16 y17 (rowStep x1) (rowD x1) n (0,y16.2) (y16.2,[])
def f_rpg_j1 (n:Nat) (y1:UInt64×RdA) (x1:Int) (o1:RdA) (y3:Int) (y4:UInt32) (y5:UInt32) (y6:Int) (l1:List RowA) (l2:List RefA) (y7:UInt32) (y8:List UInt8) (y9:UInt32) (y10:UInt32) (y11:Int) (l3:List RefA):Option (PageA×RdA):=
 (f_rows_reader_ref o1).bind fun y16=>
 (rep0O [0] 32).bind fun y18=>
 cond (decide (y16.1.page=0)&&(decide (y16.1.tag=y18)&&true))
 (
  f_rpg_j3 n y1 x1 y9 y10 y11 l3 y16 [])
 (
  f_rpg_j3 n y1 x1 y9 y10 y11 l3 y16 y16.1.tag)
def f_rpg_j2 (y1:UInt64×RdA) (y12:UInt64×RdA) (y13:UInt64×RdA) (y14:UInt64×RdA) (o2:RdA) (l4:List RefA):Option (PageA×RdA):=
 some ((⟨wI (y1.1.toNat:Int),y13.1.toUInt32,y14.1.toUInt32,wI (y12.1.toNat:Int),[],l4,0,[]⟩:PageA),o2)
def f_rpg_l1_b (y1:UInt64×RdA) (x1:Int) (y12:UInt64×RdA) (y13:UInt64×RdA) (y14:UInt64×RdA) (nx_f_rpg_l1:RdA×List RefA×Int→Option (PageA×RdA)) (o3:RdA) (l5:List RefA) (a1:Int):Option (PageA×RdA):=
 cond (decide (a1<min x1 5))
 (
  (f_rows_reader_ref o3).bind fun y15=>
  (appL 24 l5 [y15.1]).bind fun l6=>
  nx_f_rpg_l1 (y15.2,l6,wI (a1+1)))
 (
  f_rpg_j2 y1 y12 y13 y14 o3 l5)
def f_rpg_l1 (y1:UInt64×RdA) (x1:Int) (y12:UInt64×RdA) (y13:UInt64×RdA) (y14:UInt64×RdA):Nat→(RdA×List RefA×Int)→Option (PageA×RdA):=loopN fun nx x=>f_rpg_l1_b y1 x1 y12 y13 y14 nx x.1 x.2.1 x.2.2
def f_rpg (n:Nat) (p0:RdA):Option (PageA×RdA):=
 (f_rows_reader_get p0 1).bind fun y1=>
 (f_rows_reader_get y1.2 1).bind fun y2=>
 ret (wI (y2.1.toNat:Int)) fun x1=>
 cond (decide (wI (y1.1.toNat:Int)=2))
 (
  (f_rows_reader_get y2.2 1).bind fun y12=>
  (f_rows_reader_get y12.2 4).bind fun y13=>
  (f_rows_reader_get y13.2 4).bind fun y14=>
  f_rpg_l1 y1 x1 y12 y13 y14 n (y14.2,[],0))
 (
  f_rpg_j1 n y1 x1 y2.2 0 0 0 0 [] [] 0 [] 0 0 0 [])
set_option maxHeartbeats 4000000 in
set_option maxRecDepth 100000 in
theorem c_rpg {n:Nat} {b0_:Nat} {p0:RdA} {r:PageA×RdA} (h:f_rpg n p0=some r)  : Con Tryz.prog K w0 121 [vP b0_ 0] [own b0_ (.cells #[vS p0.s,vB p0.short] 194)] H (fun u M=>∃v0_4 v0_5:Value,u=.agg #[vI r.1.kind,vU32 r.1.cx,vU32 r.1.cy,vI r.1.lev,v0_4,v0_5,vU32 r.1.npage,vS r.1.ntag]∧M=[rowT 79 4 v0_4 encRow r.1.rows,rowT 31 2 v0_5 encRef r.1.kids,own b0_ (.cells #[vS r.2.s,vB r.2.short] 194)]):=by
 unfold f_rpg at h
 refine Con.enter Tryz.func121 rfl rfl ?_
 refine SX.sr ?_
 refine SL.box (.r rfl) rfl (fun _=>trivial) fun b1=>?_
 refine SL.alloc (.r rfl) ze148 (fun _=>trivial) fun b2=>?_
 refine SL.nilT 79 4 encRow (SL.nilT 31 2 encRef (SL.nx (SX.scope (SX.sr ?_))))
 obtain ⟨y1,hy1,h⟩:=bnd h
 refine SL.ld (.r rfl) sc192 rfl (cell_own 3 rfl rfl) (SL.pick [4,0,1,2,3] 5 ?_)
 refine SL.call (vs:=[_,_]) (Hin:=[_]) (Hr:=_::_::_::_::_) (.r rfl) rfl ⟨rfl,rfl,trivial⟩ cal162 rfl rfl (c_rows_reader_get hy1) ?_
 rintro _ _ ⟨rfl,rfl⟩
 refine ⟨trivial,?_⟩
 refine SL.cv (.r rfl) rfl (Cv.I_I ty48 ty3) (SL.bld [_] (.r rfl) pl148 pk148 ze148 ⟨rfl,trivial⟩ rfl ?_)
 refine SL.alloc (.r rfl) ze148 (fun _=>trivial) fun b3=>?_
 refine SL.nilT 79 4 encRow (SL.nilT 31 2 encRef (SL.st 2 ⟨rfl,rfl,rfl⟩ rfl rfl rfl sz148 rfl rfl rfl trivial (SL.reAt 2 (own b3 (.cells #[vI (wI (y1.1.toNat:Int)),vU32 0,vU32 0,vI 0,.slice none 0 0,.slice none 0 0,vU32 0,vS []] 148)) (SL.nilT 79 4 encRow (SL.nilT 31 2 encRef (SL.nx (SX.sr ?_)))))))
 obtain ⟨y2,hy2,h⟩:=bnd h
 obtain ⟨x1,ex1,h⟩:=retE h
 refine SL.ld (.r rfl) sc192 rfl (cell_own 9 rfl rfl) (SL.pick [5,0,1,2,3,4] 6 ?_)
 refine SL.call (vs:=[_,_]) (Hin:=[_]) (Hr:=_::_::_::_::_::_::_::_::_::_) (.r rfl) rfl ⟨rfl,rfl,trivial⟩ cal162 rfl rfl (c_rows_reader_get hy2) ?_
 rintro _ _ ⟨rfl,rfl⟩
 refine ⟨trivial,?_⟩
 refine SL.cv (.r rfl) rfl (Cv.I_I ty48 ty3) ?_
 refine SL.asgX (u:=vI x1) (.r rfl) rfl (congrArg vI ex1) ?_
 refine SL.nx ?_
 refine SX.meetD (α:=RdA×Int×UInt32×UInt32×Int×List RowA×Value×List RefA×Value×UInt32×List UInt8×UInt32×UInt32×Int×List RefA×Value) (fun x=>f_rpg_j1 n y1 x1 x.1 x.2.1 x.2.2.1 x.2.2.2.1 x.2.2.2.2.1 x.2.2.2.2.2.1 x.2.2.2.2.2.2.2.1 x.2.2.2.2.2.2.2.2.2.1 x.2.2.2.2.2.2.2.2.2.2.1 x.2.2.2.2.2.2.2.2.2.2.2.1 x.2.2.2.2.2.2.2.2.2.2.2.2.1 x.2.2.2.2.2.2.2.2.2.2.2.2.2.1 x.2.2.2.2.2.2.2.2.2.2.2.2.2.2.1=some r) (fun x=>[(0,vP b0_ 0),(1,vP b1 0),(2,vP b2 0),(3,vP b3 0),(4,vI x1)]) (fun x=>own b0_ (.cells #[vS x.1.s,vB x.1.short] 194)::own b1 (.cells #[vP b0_ 0] 192)::own b2 (.cells #[vI x.2.1,vU32 x.2.2.1,vU32 x.2.2.2.1,vI x.2.2.2.2.1,x.2.2.2.2.2.2.1,x.2.2.2.2.2.2.2.2.1,vU32 x.2.2.2.2.2.2.2.2.2.1,vS x.2.2.2.2.2.2.2.2.2.2.1] 148)::rowT 79 4 x.2.2.2.2.2.2.1 encRow x.2.2.2.2.2.1::rowT 31 2 x.2.2.2.2.2.2.2.2.1 encRef x.2.2.2.2.2.2.2.1::own b3 (.cells #[vI (wI (y1.1.toNat:Int)),vU32 x.2.2.2.2.2.2.2.2.2.2.2.1,vU32 x.2.2.2.2.2.2.2.2.2.2.2.2.1,vI x.2.2.2.2.2.2.2.2.2.2.2.2.2.1,.slice none 0 0,x.2.2.2.2.2.2.2.2.2.2.2.2.2.2.2,vU32 0,vS []] 148)::rowT 79 4 (.slice none 0 0) encRow []::rowT 31 2 x.2.2.2.2.2.2.2.2.2.2.2.2.2.2.2 encRef x.2.2.2.2.2.2.2.2.2.2.2.2.2.2.1::H) ?_ (fun x D h=>?_)
 refine SX.sr (SL.fa (.r rfl) rfl fo148_0 (SL.ld (.r rfl) sc3 rfl (cell_own 5 rfl rfl) (SL.bin (.r rfl) rfl rfl Bin.eqI (SL.nx ?_))))
 refine SX.cond rfl (fun hc1=>?_) (fun hc1=>?_)
 replace h:=cT hc1 h
 refine SX.sr ?_
 obtain ⟨y12,hy12,h⟩:=bnd h
 refine SL.ld (.r rfl) sc192 rfl (cell_own 9 rfl rfl) ?_
 refine SL.call (vs:=[_,_]) (Hin:=[_]) (Hr:=_::_::_::_::_::_::_::_::_::_) (.r rfl) rfl ⟨rfl,rfl,trivial⟩ cal162 rfl rfl (c_rows_reader_get hy12) ?_
 rintro _ _ ⟨rfl,rfl⟩
 refine ⟨trivial,?_⟩
 refine SL.cv (.r rfl) rfl (Cv.I_I ty48 ty3) (SL.fa (.r rfl) rfl fo148_1 (SL.fa (.r rfl) rfl fo54_2 (SL.st 5 ⟨rfl,rfl,rfl⟩ rfl rfl rfl sz3 rfl rfl rfl trivial (SL.reAt 5 (own b3 (.cells #[vI (wI (y1.1.toNat:Int)),vU32 0,vU32 0,vI (wI (y12.1.toNat:Int)),.slice none 0 0,.slice none 0 0,vU32 0,vS []] 148)) (SL.nx (SX.seq ?_))))))
 obtain ⟨y13,hy13,h⟩:=bnd h
 obtain ⟨y14,hy14,h⟩:=bnd h
 refine SX.drawI mix [9] (Pl.ap [(true,0),(true,3),(false,1),(true,2),(true,6),(true,7),(false,4),(true,5),(false,8),(true,9),(true,10)] (.last 11 .nil)) (by kernel_rfl) (SL.ld (.r rfl) sc192 rfl (cell_own 0 rfl rfl) (SL.ld (.r rfl) sc192 rfl (cell_own 0 rfl rfl) ?_))
 refine SL.call (vs:=[_,_]) (Hin:=[_]) (Hr:=_::_::_::_::_::_::_::_::_::_) (.r rfl) rfl ⟨rfl,rfl,trivial⟩ cal162 rfl rfl (c_rows_reader_get hy13) ?_
 rintro _ _ ⟨rfl,rfl⟩
 refine ⟨⟨⟨9,rfl⟩,trivial⟩,?_⟩
 refine SL.cv (.r rfl) rfl (Cv.u64_32 ty48 ty29) (SL.fa (.r rfl) rfl fo148_1 (SL.fa (.r rfl) rfl fo54_0 ?_))
 refine SL.call (vs:=[_,_]) (Hin:=[_]) (Hr:=_::_::_::_::_::_::_::_::_::_) (.r rfl) rfl ⟨rfl,rfl,trivial⟩ cal162 rfl rfl (c_rows_reader_get hy14) ?_
 rintro _ _ ⟨rfl,rfl⟩
 refine ⟨⟨⟨9,rfl⟩,trivial⟩,?_⟩
 refine SL.cv (.r rfl) rfl (Cv.u64_32 ty48 ty29) (SL.st 5 ⟨rfl,rfl,rfl⟩ rfl rfl rfl sz29 rfl rfl rfl ⟨⟨9,rfl⟩,trivial⟩ (SL.reAt 5 (own b3 (.cells #[vI (wI (y1.1.toNat:Int)),vU32 y13.1.toUInt32,vU32 0,vI (wI (y12.1.toNat:Int)),.slice none 0 0,.slice none 0 0,vU32 0,vS []] 148)) (SL.fa (.r rfl) rfl fo148_1 (SL.fa (.r rfl) rfl fo54_1 (SL.last (SL.st 5 ⟨rfl,rfl,rfl⟩ rfl rfl rfl sz29 rfl rfl rfl trivial (SL.reAt 5 (own b3 (.cells #[vI (wI (y1.1.toNat:Int)),vU32 y13.1.toUInt32,vU32 y14.1.toUInt32,vI (wI (y12.1.toNat:Int)),.slice none 0 0,.slice none 0 0,vU32 0,vS []] 148)) (SL.nx ?_))))))))
 refine SX.meetD (α:=RdA×List RefA×Value) (fun x=>f_rpg_j2 y1 y12 y13 y14 x.1 x.2.1=some r) (fun x=>[(0,vP b0_ 0),(2,vP b2 0),(3,vP b3 0)]) (fun x=>own b0_ (.cells #[vS x.1.s,vB x.1.short] 194)::own b2 (.cells #[vI 0,vU32 0,vU32 0,vI 0,.slice none 0 0,.slice none 0 0,vU32 0,vS []] 148)::rowT 79 4 (.slice none 0 0) encRow []::rowT 31 2 (.slice none 0 0) encRef []::own b3 (.cells #[vI (wI (y1.1.toNat:Int)),vU32 y13.1.toUInt32,vU32 y14.1.toUInt32,vI (wI (y12.1.toNat:Int)),.slice none 0 0,x.2.2,vU32 0,vS []] 148)::rowT 79 4 (.slice none 0 0) encRow []::rowT 31 2 x.2.2 encRef x.2.1::H) ?_ (fun x D h=>?_)
 refine SX.sr (SL.mv (.r rfl) rfl (SL.minI (.r rfl) rfl rfl (SL.mv (.r rfl) rfl (SL.nx (SX.block ?_)))))
 refine SX.heap (SX.mono (SX.loop (α:=Nat×RdA×List RefA×Value×Int) (fun x=>f_rpg_l1 y1 x1 y12 y13 y14 x.1 (x.2.1,x.2.2.1,x.2.2.2.2)=some r) (fun x=>[(0,vP b0_ 0),(1,vP b1 0),(2,vP b2 0),(3,vP b3 0),(32,vI (min x1 5)),(33,vI x.2.2.2.2)]) (fun x=>own b0_ (.cells #[vS x.2.1.s,vB x.2.1.short] 194)::own b1 (.cells #[vP b0_ 0] 192)::own b2 (.cells #[vI 0,vU32 0,vU32 0,vI 0,.slice none 0 0,.slice none 0 0,vU32 0,vS []] 148)::rowT 79 4 (.slice none 0 0) encRow []::rowT 31 2 (.slice none 0 0) encRef []::own b3 (.cells #[vI (wI (y1.1.toNat:Int)),vU32 y13.1.toUInt32,vU32 y14.1.toUInt32,vI (wI (y12.1.toNat:Int)),.slice none 0 0,x.2.2.2.1,vU32 0,vS []] 148)::rowT 79 4 (.slice none 0 0) encRow []::rowT 31 2 x.2.2.2.1 encRef x.2.2.1::H) (fun x=>x.1) (fun x D h=>?_) (n,y14.2,[],.slice none 0 0,0) h) (by repeat' (first | exact trivial | refine And.intro rfl ?_))) (fun _ hw=>HpOk.pick (H:=[_,_,_,_,_,_,_,_,_,_]) hw [0,9,8,7,6,5,2,1] 10 rfl)
 obtain ⟨m1,o3,l5,v5,a1⟩:=x
 dsimp only at h
 rcases m1 with _ | m1
 cases (show (none:Option _)=some r from h)
 replace h:f_rpg_l1_b y1 x1 y12 y13 y14 (f_rpg_l1 y1 x1 y12 y13 y14 m1) o3 l5 a1=some r:=h
 unfold f_rpg_l1_b at h
 refine SX.re [(0,vP b0_ 0),(1,vP b1 0),(2,vP b2 0),(3,vP b3 0),(32,vI (min x1 5)),(33,vI a1)] (own b0_ (.cells #[vS o3.s,vB o3.short] 194)::own b1 (.cells #[vP b0_ 0] 192)::own b2 (.cells #[vI 0,vU32 0,vU32 0,vI 0,.slice none 0 0,.slice none 0 0,vU32 0,vS []] 148)::rowT 79 4 (.slice none 0 0) encRow []::rowT 31 2 (.slice none 0 0) encRef []::own b3 (.cells #[vI (wI (y1.1.toNat:Int)),vU32 y13.1.toUInt32,vU32 y14.1.toUInt32,vI (wI (y12.1.toNat:Int)),.slice none 0 0,v5,vU32 0,vS []] 148)::rowT 79 4 (.slice none 0 0) encRow []::rowT 31 2 v5 encRef l5::H) ?_ (by repeat' (first | exact trivial | refine And.intro rfl ?_))
 refine SX.sr (SL.bin (.r rfl) rfl rfl Bin.ltI (SL.nx (SX.seq ?_)))
 refine SX.cond rfl (fun hc2=>?_) (fun hc2=>?_)
 replace h:=cT hc2 h
 refine SX.skip (SQ.thn (SX.seq (SX.block ?_)))
 obtain ⟨y15,hy15,h⟩:=bnd h
 obtain ⟨l6,hl6,h⟩:=bnd h
 refine SX.drawI mix [1,5] (Pl.ap [(true,0),(true,1),(true,2),(false,3),(false,4),(false,5),(true,6)] (.last 7 .nil)) (by kernel_rfl) (SL.fa (.r rfl) rfl fo148_3 (SL.ld (.r rfl) sc146 rfl (cell_own 1 rfl rfl) (SL.ld (.r rfl) sc192 rfl (cell_own 0 rfl rfl) ?_)))
 refine SL.call (vs:=[_]) (Hin:=[_]) (Hr:=_::_::_::_::_::_::_::_) (.r rfl) rfl ⟨rfl,trivial⟩ cal163 rfl rfl (c_rows_reader_ref hy15) ?_
 rintro _ _ ⟨rfl,rfl⟩
 refine ⟨⟨⟨1,rfl⟩,⟨5,rfl⟩,trivial⟩,?_⟩
 refine SL.bsl [_] (.r rfl) ty146 sz31 ze31 ⟨rfl,trivial⟩ rfl rfl rfl (by first | (simp [Value.cells];done) | (intro v hv;simp only [List.mem_cons,List.not_mem_nil,or_false] at hv;rcases hv with rfl<;>rfl)) rfl rfl (fun _=>⟨⟨2,rfl⟩,⟨6,rfl⟩,trivial⟩) fun b4=>?_
 refine SL.ownT encRef 2 ([y15.1]:List RefA) rfl (fun _=>rfl) rfl ?_
 refine SL.appT 8 hl6 (sz:=2) (enc:=encRef) (fun _=>rfl) (.r rfl) ty146 sz31 by31 ze31 rfl (by decide) rfl rfl rfl rfl (cells_rowA (sz:=2) (enc:=encRef) 0 (fun _=>rfl) rfl) (by simp [encRef,Value.oneCell']) (fun _=>⟨⟨2,rfl⟩,⟨6,rfl⟩,trivial⟩) fun v6=>?_
 refine SL.fa (.r rfl) rfl fo148_3 (SL.last ?_)
 refine SL.rowV 8 rfl fun hv1 ho1=>?_
 refine SL.stR 6 ⟨rfl,rfl,rfl⟩ rfl rfl rfl sz146 hv1 ho1 rfl trivial (SL.nil (SQ.blk (SQ.thn (SX.region (SL.bin (.r rfl) rfl rfl Bin.addW (SL.mv (.r rfl) rfl (SL.nil ?_)))))))
 exact SQ.again (m1,y15.2,l6,v6,wI (a1+1)) h (Nat.lt_succ_self _) (by repeat' (first | exact trivial | refine And.intro rfl ?_)) (fun _ hw=>HpOk.pick (H:=[_,_,_,_,_,_,_,_,_]) hw [1,2,3,4,5,6,7,8] 9 rfl)
 replace h:=cF hc2 h
 refine SX.exit (SQ.thnE (SQ.lpE (SQ.blkE ?_)))
 exact SQ.midD (o3,l5,v5) h (by repeat' (first | exact trivial | refine And.intro rfl ?_)) (fun _ hw=>HpOk.pick (H:=[_,_,_,_,_,_,_,_]) hw [0,2,3,4,5,6,7] 8 rfl)
 obtain ⟨o2,l4,v4⟩:=x
 dsimp only at h
 unfold f_rpg_j2 at h
 refine SX.re [(0,vP b0_ 0),(2,vP b2 0),(3,vP b3 0)] (own b0_ (.cells #[vS o2.s,vB o2.short] 194)::own b2 (.cells #[vI 0,vU32 0,vU32 0,vI 0,.slice none 0 0,.slice none 0 0,vU32 0,vS []] 148)::rowT 79 4 (.slice none 0 0) encRow []::rowT 31 2 (.slice none 0 0) encRef []::own b3 (.cells #[vI (wI (y1.1.toNat:Int)),vU32 y13.1.toUInt32,vU32 y14.1.toUInt32,vI (wI (y12.1.toNat:Int)),.slice none 0 0,v4,vU32 0,vS []] 148)::rowT 79 4 (.slice none 0 0) encRow []::rowT 31 2 v4 encRef l4::H) ?_ (by repeat' (first | exact trivial | refine And.intro rfl ?_))
 refine SX.sr (SL.ldA [vI (wI (y1.1.toNat:Int)),vU32 y13.1.toUInt32,vU32 y14.1.toUInt32,vI (wI (y12.1.toNat:Int)),.slice none 0 0,v4,vU32 0,vS []] (.r rfl) ag148 rfl rfl (cells_all 4 rfl) ?_)
 refine SL.rowV 5 rfl fun hv2 ho2=>?_
 refine SL.rowV 6 rfl fun hv3 ho3=>?_
 refine SL.st 1 ⟨rfl,rfl,rfl⟩ rfl rfl rfl sz148 rfl (by simp only [Value.oneCell'] at ho2 ho3;simp [Value.cells,Value.cells,Value.oneCell',ho2,ho3]) rfl trivial (SL.nx (SX.ret (SQ.midDR (SQ.scpR ?_))))
 obtain rfl:=Option.some.inj h
 exact SQ.fret (resv1 rfl (resv.ag 1 [vI (wI (y1.1.toNat:Int)),vU32 y13.1.toUInt32,vU32 y14.1.toUInt32,vI (wI (y12.1.toNat:Int)),.slice none 0 0,v4,vU32 0,vS []] ag148 rfl rfl rfl rfl)) (ret_of (M:=[_,_,_]) ⟨(.slice none 0 0),v4,rfl,rfl⟩ fun _ hw=>HpOk.pick (H:=[_,_,_,_,_,_,_]) hw [5,6,0] 7 rfl)
 replace h:=cF hc1 h
 refine SX.skip ?_
 exact SQ.midD (y2.2,0,0,0,0,[],.slice none 0 0,[],.slice none 0 0,0,[],0,0,0,[],.slice none 0 0) h (by repeat' (first | exact trivial | refine And.intro rfl ?_)) (fun _ hw=>HpOk.pick (H:=[_,_,_,_,_,_,_,_,_,_]) hw [0,9,8,7,6,5,2,1] 10 rfl)
 obtain ⟨o1,y3,y4,y5,y6,l1,v1,l2,v2,y7,y8,y9,y10,y11,l3,v3⟩:=x
 dsimp only at h
 unfold f_rpg_j1 at h
 refine SX.re [(0,vP b0_ 0),(1,vP b1 0),(2,vP b2 0),(3,vP b3 0),(4,vI x1)] (own b0_ (.cells #[vS o1.s,vB o1.short] 194)::own b1 (.cells #[vP b0_ 0] 192)::own b2 (.cells #[vI y3,vU32 y4,vU32 y5,vI y6,v1,v2,vU32 y7,vS y8] 148)::rowT 79 4 v1 encRow l1::rowT 31 2 v2 encRef l2::own b3 (.cells #[vI (wI (y1.1.toNat:Int)),vU32 y9,vU32 y10,vI y11,.slice none 0 0,v3,vU32 0,vS []] 148)::rowT 79 4 (.slice none 0 0) encRow []::rowT 31 2 v3 encRef l3::H) ?_ (by repeat' (first | exact trivial | refine And.intro rfl ?_))
 refine SX.sr ?_
 obtain ⟨y16,hy16,h⟩:=bnd h
 refine SL.ld (.r rfl) sc192 rfl (cell_own 1 rfl rfl) ?_
 refine SL.call (vs:=[_]) (Hin:=[_]) (Hr:=_::_::_::_::_::_::_::_) (.r rfl) rfl ⟨rfl,trivial⟩ cal163 rfl rfl (c_rows_reader_ref hy16) ?_
 rintro _ _ ⟨rfl,rfl⟩
 refine ⟨trivial,?_⟩
 refine SL.fa (.r rfl) rfl fo148_4 (SL.st 5 ⟨rfl,rfl,rfl⟩ rfl rfl rfl sz31 rfl rfl rfl trivial (SL.reAt 5 (own b3 (.cells #[vI (wI (y1.1.toNat:Int)),vU32 y9,vU32 y10,vI y11,.slice none 0 0,v3,vU32 y16.1.page,vS y16.1.tag] 148)) (SL.nx ?_)))
 refine SX.meetD (α:=List UInt8) (fun x=>f_rpg_j3 n y1 x1 y9 y10 y11 l3 y16 x=some r) (fun x=>[(0,vP b0_ 0),(1,vP b1 0),(2,vP b2 0),(3,vP b3 0),(4,vI x1)]) (fun x=>own b0_ (.cells #[vS y16.2.s,vB y16.2.short] 194)::own b1 (.cells #[vP b0_ 0] 192)::own b2 (.cells #[vI y3,vU32 y4,vU32 y5,vI y6,v1,v2,vU32 y7,vS y8] 148)::rowT 79 4 v1 encRow l1::rowT 31 2 v2 encRef l2::own b3 (.cells #[vI (wI (y1.1.toNat:Int)),vU32 y9,vU32 y10,vI y11,.slice none 0 0,v3,vU32 y16.1.page,vS x] 148)::rowT 79 4 (.slice none 0 0) encRow []::rowT 31 2 v3 encRef l3::H) ?_ (fun y17 D h=>?_)
 refine SX.seq ?_
 obtain ⟨y18,hy18,h⟩:=bnd h
 refine SX.drawI mix [5] (Pl.ap [(true,0),(true,1),(false,2),(false,3)] (.last 4 .nil)) (by kernel_rfl) (SL.fa (.r rfl) rfl fo148_4 (SL.ldA [vU32 y16.1.page,vS y16.1.tag] (.r rfl) ag31 rfl rfl (cells_own 0 rfl (by rintro (_ | (_ | j)) u hj<;>first | exact hj | exact absurd hj (by simp))) ?_))
 refine SL.call (vs:=[_,_]) (Hin:=[]) (Hr:=_::_::_::_::_::_::_::_::_) (.r rfl) rfl ⟨rfl,rfl,trivial⟩ cal70 rfl rfl (w_rep0 hy18) ?_
 rintro _ _ ⟨rfl,rfl⟩
 refine ⟨⟨⟨5,rfl⟩,trivial⟩,?_⟩
 refine SL.bld [_] (.r rfl) pl31 pk31 ze31 ⟨rfl,trivial⟩ rfl (SL.last ?_)
 refine SL.eqAgg (.r rfl) fl31 rfl rfl (flatE_cons rfl rfl (eqV_32 (a:=y16.1.page) (b:=0)) (flatE_cons rfl rfl (eqV_S (a:=y16.1.tag) (b:=y18)) flatE_nil)) ?_
 refine SL.nx ?_
 refine SX.cond rfl (fun hc3=>?_) (fun hc3=>?_)
 replace h:=cT hc3 h
 refine SX.region (SL.fa (.r rfl) rfl fo148_4 (SL.fa (.r rfl) rfl fo31_1 (SL.st 5 ⟨rfl,rfl,rfl⟩ rfl rfl rfl sz9 rfl rfl rfl trivial (SL.reAt 5 (own b3 (.cells #[vI (wI (y1.1.toNat:Int)),vU32 y9,vU32 y10,vI y11,.slice none 0 0,v3,vU32 y16.1.page,vS []] 148)) (SL.nil ?_)))))
 exact SQ.midD [] h (by repeat' (first | exact trivial | refine And.intro rfl ?_)) (fun _ hw=>HpOk.pick (H:=[_,_,_,_,_,_,_,_]) hw [0,1,2,3,4,5,6,7] 8 rfl)
 replace h:=cF hc3 h
 refine SX.skip ?_
 exact SQ.midD y16.1.tag h (by repeat' (first | exact trivial | refine And.intro rfl ?_)) (fun _ hw=>HpOk.pick (H:=[_,_,_,_,_,_,_,_]) hw [0,1,2,3,4,5,6,7] 8 rfl)
 unfold f_rpg_j3 at h
 refine SX.re [(0,vP b0_ 0),(1,vP b1 0),(2,vP b2 0),(3,vP b3 0),(4,vI x1)] (own b0_ (.cells #[vS y16.2.s,vB y16.2.short] 194)::own b1 (.cells #[vP b0_ 0] 192)::own b2 (.cells #[vI y3,vU32 y4,vU32 y5,vI y6,v1,v2,vU32 y7,vS y8] 148)::rowT 79 4 v1 encRow l1::rowT 31 2 v2 encRef l2::own b3 (.cells #[vI (wI (y1.1.toNat:Int)),vU32 y9,vU32 y10,vI y11,.slice none 0 0,v3,vU32 y16.1.page,vS y17] 148)::rowT 79 4 (.slice none 0 0) encRow []::rowT 31 2 v3 encRef l3::H) ?_ (by repeat' (first | exact trivial | refine And.intro rfl ?_))
 refine SX.seq (SX.label (SQ.thn ?_))
 refine SX.meetD (α:=RdA×List RowA×Value) (fun x=>f_rpg_j4 y1 y9 y10 y11 l3 y16 y17 x.1 x.2.1=some r) (fun x=>[(0,vP b0_ 0),(2,vP b2 0),(3,vP b3 0)]) (fun x=>own b0_ (.cells #[vS x.1.s,vB x.1.short] 194)::own b2 (.cells #[vI y3,vU32 y4,vU32 y5,vI y6,v1,v2,vU32 y7,vS y8] 148)::rowT 79 4 v1 encRow l1::rowT 31 2 v2 encRef l2::own b3 (.cells #[vI (wI (y1.1.toNat:Int)),vU32 y9,vU32 y10,vI y11,x.2.2,v3,vU32 y16.1.page,vS y17] 148)::rowT 79 4 x.2.2 encRow x.2.1::rowT 31 2 v3 encRef l3::H) ?_ (fun x D h=>?_)
 refine SX.sr ?_
 obtain ⟨y19,hy19,h⟩:=bnd h
 refine SL.ld (.r rfl) sc192 rfl (cell_own 1 rfl rfl) (SL.mv (.r rfl) rfl ?_)
 refine SL.call (vs:=[_,_]) (Hin:=[]) (Hr:=_::_::_::_::_::_::_::_::_) (.r rfl) rfl ⟨rfl,rfl,trivial⟩ cal164 rfl rfl (w_rows hy19) ?_
 rintro _ _ ⟨b5,b6,rfl,rfl⟩
 refine ⟨trivial,?_⟩
 refine SL.nx (SX.block ?_)
 refine SX.heap (SX.rangeSt (enc:=encR1) (C:=fun s=>rdC b0_ s.2) (0,y16.2) (G0:=own b1 (.cells #[vP b0_ 0] 192)::own b2 (.cells #[vI y3,vU32 y4,vU32 y5,vI y6,v1,v2,vU32 y7,vS y8] 148)::rowT 79 4 v1 encRow l1::rowT 31 2 v2 encRef l2::own b3 (.cells #[vI (wI (y1.1.toNat:Int)),vU32 y9,vU32 y10,vI y11,.slice none 0 0,v3,vU32 y16.1.page,vS y17] 148)::rowT 79 4 (.slice none 0 0) encRow []::rowT 31 2 v3 encRef l3::H) (fun s G=>∃(m:Nat) (x:RdA×List RowA×Value),f_rpg_r1 y1 y9 y10 y11 l3 y16 y17 (rowStep x1) (rowD x1) m s (x.1,x.2.1)=some r∧G=own b1 (.cells #[vP b0_ 0] 192)::own b2 (.cells #[vI y3,vU32 y4,vU32 y5,vI y6,v1,v2,vU32 y7,vS y8] 148)::rowT 79 4 v1 encRow l1::rowT 31 2 v2 encRef l2::own b3 (.cells #[vI (wI (y1.1.toNat:Int)),vU32 y9,vU32 y10,vI y11,x.2.2,v3,vU32 y16.1.page,vS y17] 148)::rowT 79 4 x.2.2 encRow x.2.1::rowT 31 2 v3 encRef l3::H) (fun c G=>(c=.exit 2∧∃x:RdA×List RowA×Value,f_rpg_j6 y1 y9 y10 y11 l3 y16 y17 x.1 x.2.1=some r∧G=own b0_ (.cells #[vS x.1.s,vB x.1.short] 194)::own b1 (.cells #[vP b0_ 0] 192)::own b2 (.cells #[vI y3,vU32 y4,vU32 y5,vI y6,v1,v2,vU32 y7,vS y8] 148)::rowT 79 4 v1 encRow l1::rowT 31 2 v2 encRef l2::own b3 (.cells #[vI (wI (y1.1.toNat:Int)),vU32 y9,vU32 y10,vI y11,x.2.2,v3,vU32 y16.1.page,vS y17] 148)::rowT 79 4 x.2.2 encRow x.2.1::rowT 31 2 v3 encRef l3::H)) rfl cal204 rfl (fun _=>rfl) (q_rows hy19 _) rfl ⟨n,(y16.2,[],.slice none 0 0),h,rfl⟩ (fun s G hJ=>by obtain ⟨m,x,h,_⟩:=hJ;exact rangeS_def h) (fun s0 e1 s1 G hst hJ lr lp Rest=>?_) (fun s G D hds hJ=>?_) (fun c G D hX=>?_)) (fun _ hw=>HpOk.pick (H:=[_,_,_,_,_,_,_,_,_,_]) hw [0,1,2,3,4,5,6,7,8,9] 10 rfl)
 obtain ⟨m1,⟨_,l8,v8⟩,h,rfl⟩:=hJ
 obtain ⟨k1,o5⟩:=s1
 unfold f_rpg_r1 at h
 obtain ⟨m2,h⟩:=rangeS_step rowD_step h hst
 replace h:f_rpg_r1_b y1 y9 y10 y11 l3 y16 y17 (f_rpg_r1 y1 y9 y10 y11 l3 y16 y17 (rowStep x1) (rowD x1) m2 (k1,o5)) e1 o5 l8=some r:=h
 unfold f_rpg_r1_b at h
 refine SX.region ?_
 refine SL.alloc (.r rfl) ze79 (fun _=>trivial) fun b7=>?_
 refine SL.st 0 ⟨rfl,rfl,rfl⟩ rfl rfl rfl sz79 rfl rfl rfl trivial (SL.nil ?_)
 refine SQ.bgn (G:=own b7 (.cells #[vU64 e1.id,vU32 e1.x,vU32 e1.y,vS e1.txt] 79)::own b0_ (.cells #[vS o5.s,vB o5.short] 194)::own b1 (.cells #[vP b0_ 0] 192)::own b2 (.cells #[vI y3,vU32 y4,vU32 y5,vI y6,v1,v2,vU32 y7,vS y8] 148)::rowT 79 4 v1 encRow l1::rowT 31 2 v2 encRef l2::own b3 (.cells #[vI (wI (y1.1.toNat:Int)),vU32 y9,vU32 y10,vI y11,v8,v3,vU32 y16.1.page,vS y17] 148)::rowT 79 4 v8 encRow l8::rowT 31 2 v3 encRef l3::H) ?_
 refine SX.block (SX.sr ?_)
 obtain ⟨l9,hl9,h⟩:=bnd h
 refine SL.fa (.r rfl) rfl fo148_2 (SL.ld (.r rfl) sc35 rfl (cell_own 6 rfl rfl) (SL.ldA [vU64 e1.id,vU32 e1.x,vU32 e1.y,vS e1.txt] (.r rfl) ag79 rfl rfl (cells_all 0 rfl) ?_))
 refine SL.bsl [_] (.r rfl) ty35 sz79 ze79 ⟨rfl,trivial⟩ rfl rfl rfl (by first | (simp [Value.cells];done) | (intro v hv;simp only [List.mem_cons,List.not_mem_nil,or_false] at hv;rcases hv with rfl<;>rfl)) rfl rfl (fun _=>trivial) fun b8=>?_
 refine SL.ownT encRow 4 ([e1]:List RowA) rfl (fun _=>rfl) rfl ?_
 refine SL.appT 8 hl9 (sz:=4) (enc:=encRow) (fun _=>rfl) (.r rfl) ty35 sz79 by79 ze79 rfl (by decide) rfl rfl rfl rfl (cells_rowA (sz:=4) (enc:=encRow) 0 (fun _=>rfl) rfl) (by simp [encRow,Value.oneCell']) (fun _=>trivial) fun v9=>?_
 refine SL.fa (.r rfl) rfl fo148_2 ?_
 refine SL.rowV 8 rfl fun hv4 ho4=>?_
 refine SL.stR 7 ⟨rfl,rfl,rfl⟩ rfl rfl rfl sz35 hv4 ho4 rfl trivial (SL.nx (SX.sr (SL.ld (.r rfl) sc192 rfl (cell_own 3 rfl rfl) (SL.nchk (.r rfl) rfl (SL.fa (.r rfl) rfl fo194_1 (SL.ld (.r rfl) sc4 rfl (cell_own 2 rfl rfl) (SL.mv (.r rfl) rfl ?_)))))))
 refine SL.or (c:=decide (4<(l9.length:Int))) 68 5 73 rfl (fun hb k=>?_) (fun hb k=>?_) ?_
 refine SL.pass rfl rfl rfl (SL.pass rfl rfl rfl (SL.pass rfl rfl rfl (SL.pass rfl rfl rfl (SL.pk (.r rfl) rfl rfl ?_))))
 exact k.mono (by repeat' (first | exact trivial | refine And.intro rfl ?_))
 refine SL.fa (.r rfl) rfl fo148_2 (SL.ld (.r rfl) sc35 rfl (cell_own 7 rfl rfl) (SL.lenT 8 (.r rfl) ty35 rfl rfl (SL.bin (.r rfl) rfl rfl Bin.gtI (SL.pk (.r rfl) rfl rfl ?_))))
 exact k.mono (by repeat' (first | exact trivial | refine And.intro rfl ?_))
 refine SL.nx ?_
 refine SX.cond rfl (fun hc4=>?_) (fun hc4=>?_)
 replace h:=cT hc4 h
 refine SX.exit (SQ.blkO ?_)
 exact SQ.rndE ⟨rfl,(o5,l9,v9),h,rfl⟩ (fun _ hw=>HpOk.pick (H:=[_,_,_,_,_,_,_,_,_,_]) hw [2,3,4,5,6,7,8,9] 10 rfl)
 replace h:=cF hc4 h
 refine SX.skip (SQ.blk ?_)
 exact SQ.rndN ⟨_,rfl,m2,(o5,l9,v9),h,rfl⟩ (fun _ hw=>HpOk.pick (H:=[_,_,_,_,_,_,_,_,_,_]) hw [2,3,4,5,6,7,8,9] 10 rfl)
 obtain ⟨m1,⟨_,l8,v8⟩,h,rfl⟩:=hJ
 obtain ⟨k1,o5⟩:=s
 unfold f_rpg_r1 at h
 replace h:=rangeS_fin h hds
 replace h:f_rpg_j5 y1 y9 y10 y11 l3 y16 y17 o5 l8=some r:=h
 unfold f_rpg_j5 at h
 refine SQ.blk ?_
 exact SQ.midD (o5,l8,v8) h (by repeat' (first | exact trivial | refine And.intro rfl ?_)) (fun _ hw=>HpOk.pick (H:=[_,_,_,_,_,_,_,_]) hw [0,2,3,4,5,6,7] 8 rfl)
 obtain ⟨rfl,hJ⟩:=hX
 obtain ⟨⟨o5,l8,v8⟩,h,rfl⟩:=hJ
 dsimp only at h
 unfold f_rpg_j6 at h
 refine SX.exit (SQ.blkE ?_)
 exact SQ.midD (o5,l8,v8) h (by repeat' (first | exact trivial | refine And.intro rfl ?_)) (fun _ hw=>HpOk.pick (H:=[_,_,_,_,_,_,_,_]) hw [0,2,3,4,5,6,7] 8 rfl)
 obtain ⟨o4,l7,v7⟩:=x
 dsimp only at h
 unfold f_rpg_j4 at h
 refine SX.re [(0,vP b0_ 0),(2,vP b2 0),(3,vP b3 0)] (own b0_ (.cells #[vS o4.s,vB o4.short] 194)::own b2 (.cells #[vI y3,vU32 y4,vU32 y5,vI y6,v1,v2,vU32 y7,vS y8] 148)::rowT 79 4 v1 encRow l1::rowT 31 2 v2 encRef l2::own b3 (.cells #[vI (wI (y1.1.toNat:Int)),vU32 y9,vU32 y10,vI y11,v7,v3,vU32 y16.1.page,vS y17] 148)::rowT 79 4 v7 encRow l7::rowT 31 2 v3 encRef l3::H) ?_ (by repeat' (first | exact trivial | refine And.intro rfl ?_))
 refine SX.sr (SL.ldA [vI (wI (y1.1.toNat:Int)),vU32 y9,vU32 y10,vI y11,v7,v3,vU32 y16.1.page,vS y17] (.r rfl) ag148 rfl rfl (cells_all 4 rfl) ?_)
 refine SL.rowV 5 rfl fun hv5 ho5=>?_
 refine SL.rowV 6 rfl fun hv6 ho6=>?_
 refine SL.st 1 ⟨rfl,rfl,rfl⟩ rfl rfl rfl sz148 rfl (by simp only [Value.oneCell'] at ho5 ho6;simp [Value.cells,Value.cells,Value.oneCell',ho5,ho6]) rfl trivial (SL.nx (SX.ret (SQ.scpR ?_)))
 obtain rfl:=Option.some.inj h
 exact SQ.fret (resv1 rfl (resv.ag 1 [vI (wI (y1.1.toNat:Int)),vU32 y9,vU32 y10,vI y11,v7,v3,vU32 y16.1.page,vS y17] ag148 rfl rfl rfl rfl)) (ret_of (M:=[_,_,_]) ⟨v7,v3,rfl,rfl⟩ fun _ hw=>HpOk.pick (H:=[_,_,_,_,_,_,_]) hw [5,6,0] 7 rfl)


end Go.Proofs.YtkibffdipniemaaGreatDoor

/- Plain functions of the references and the laws, printed from the loaded program, and the walks that show that the program computes them. Condition: the plain function yields. -/
namespace Go.Proofs.YtkibffdipniemaaGreatDoor
open Go
variable {K:Nat→Prop} {w0:World} {H:List Chunk}

def f_rows_Decode (n:Nat) (p0:List UInt8):Option (PageA×Int):=
 (f_rpg n ({ s:=p0,short:=false }:RdA)).bind fun y1=>
 (orO (y1.2.short||(!decide (y1.2.s=[]))) ((f_rows_Right n y1.1).bind fun y2=>some (!y2))).bind fun y3=>
 cond y3
 (
  some ((⟨0,0,0,0,[],[],0,[]⟩:PageA),90))
 (
  some (y1.1,0))
set_option maxHeartbeats 4000000 in
set_option maxRecDepth 100000 in
theorem c_rows_Decode {n:Nat} {p0:List UInt8} {r:PageA×Int} (h:f_rows_Decode n p0=some r)  : Con Tryz.prog K w0 82 [vS p0] [] H (fun u M=>∃v0_4 v0_5:Value,u=.tuple #[.agg #[vI r.1.kind,vU32 r.1.cx,vU32 r.1.cy,vI r.1.lev,v0_4,v0_5,vU32 r.1.npage,vS r.1.ntag],vI r.2]∧M=[rowT 79 4 v0_4 encRow r.1.rows,rowT 31 2 v0_5 encRef r.1.kids]):=by
 unfold f_rows_Decode at h
 refine Con.enter Tryz.func82 rfl rfl ?_
 refine SX.sr ?_
 refine SL.alloc (.r rfl) ze148 (fun _=>trivial) fun b1=>?_
 refine SL.nilT 79 4 encRow (SL.nilT 31 2 encRef (SL.asg (.r rfl) rfl (SL.nx (SX.sr (SL.mv (.r rfl) rfl (SL.bld [_] (.r rfl) pl194 pk194 ze194 ⟨rfl,trivial⟩ rfl ?_))))))
 refine SL.box (.r rfl) rfl (fun _=>trivial) fun b2=>?_
 refine SL.asg (.r rfl) rfl (SL.nx (SX.sr ?_))
 obtain ⟨y1,hy1,h⟩:=bnd h
 refine SL.mv (.r rfl) rfl ?_
 refine SL.call (vs:=[_]) (Hin:=[_]) (Hr:=_::_::_::_) (.r rfl) rfl ⟨rfl,trivial⟩ cal121 rfl rfl (c_rpg hy1) ?_
 rintro _ _ ⟨v1,v2,rfl,rfl⟩
 refine ⟨trivial,?_⟩
 refine SL.alloc (.r rfl) ze148 (fun _=>trivial) fun b3=>?_
 refine SL.nilT 79 4 encRow (SL.nilT 31 2 encRef ?_)
 refine SL.rowV 3 rfl fun hv1 ho1=>?_
 refine SL.rowV 4 rfl fun hv2 ho2=>?_
 refine SL.st 2 ⟨rfl,rfl,rfl⟩ rfl rfl rfl sz148 rfl (by simp only [Value.oneCell'] at ho1 ho2;simp [Value.cells,Value.cells,Value.oneCell',ho1,ho2]) rfl trivial (SL.reAt 2 (own b3 (.cells #[vI y1.1.kind,vU32 y1.1.cx,vU32 y1.1.cy,vI y1.1.lev,v1,v2,vU32 y1.1.npage,vS y1.1.ntag] 148)) (SL.nx (SX.seq (SX.sr ?_))))
 obtain ⟨y3,hy3,h⟩:=bnd h
 refine SL.mv (.r rfl) rfl (SL.nchk (.r rfl) rfl (SL.fa (.r rfl) rfl fo194_1 (SL.ld (.r rfl) sc4 rfl (cell_own 5 rfl rfl) (SL.mv (.r rfl) rfl ?_))))
 refine SL.or (c := !decide (y1.2.s=[])) 15 6 21 rfl (fun hb k=>?_) (fun hb k=>?_) ?_
 refine SL.pass rfl rfl rfl (SL.pass rfl rfl rfl (SL.pass rfl rfl rfl (SL.pass rfl rfl rfl (SL.pass rfl rfl rfl (SL.pk (.r rfl) rfl rfl ?_)))))
 exact k.mono (by repeat' (first | exact trivial | refine And.intro rfl ?_))
 refine SL.mv (.r rfl) rfl (SL.nchk (.r rfl) rfl (SL.fa (.r rfl) rfl fo194_0 (SL.ld (.r rfl) sc9 rfl (cell_own 5 rfl rfl) (SL.bin (.r rfl) rfl rfl Bin.neS (SL.pk (.r rfl) rfl rfl ?_)))))
 exact k.mono (by repeat' (first | exact trivial | refine And.intro rfl ?_))
 refine SL.mv (.r rfl) rfl ?_
 refine SL.orN 22 4 26 hy3 rfl (fun hb k=>?_) (fun hb hg2 k=>?_) ?_
 refine SL.pass rfl rfl rfl (SL.pass rfl rfl rfl (SL.pass rfl rfl rfl (SL.pk (.r rfl) rfl rfl ?_)))
 exact k.mono (by repeat' (first | exact trivial | refine And.intro rfl ?_))
 obtain ⟨y2,hy2,hg2⟩:=bnd hg2
 obtain rfl:=Option.some.inj hg2
 refine SL.ldA [vI y1.1.kind,vU32 y1.1.cx,vU32 y1.1.cy,vI y1.1.lev,v1,v2,vU32 y1.1.npage,vS y1.1.ntag] (.r rfl) ag148 rfl rfl (cells_all 2 rfl) (SL.pick [3,4,0,1,2] 5 ?_)
 refine SL.call (vs:=[_]) (Hin:=[_,_]) (Hr:=_::_::_::_::_::_::_::_) (.r rfl) rfl ⟨rfl,trivial⟩ cal122 rfl rfl (Con.lend (B:=[_,_]) (Hin:=[]) fun K' w1 hk hB=>(c_rows_Right hy2 (SlOf.lentT (e:=79) (v:=v1) (fun _=>rfl) (hB _ (by simp))) (SlOf.lentT (e:=31) (v:=v2) (fun _=>rfl) (hB _ (by simp))) :)) ?_
 rintro _ _ ⟨_,rfl,rfl,rfl⟩
 refine ⟨trivial,?_⟩
 refine SL.not (.r rfl) rfl (SL.pk (.r rfl) rfl rfl ?_)
 exact SL.mono (SL.heap k fun _ hw=>HpOk.pick (H:=[_,_,_,_,_,_,_,_,_]) hw [2,3,4,0,1,5,6,7,8] 9 rfl) (by repeat' (first | exact trivial | refine And.intro rfl ?_))
 refine SL.nx ?_
 refine SX.cond rfl (fun hc1=>?_) (fun hc1=>?_)
 replace h:=cT hc1 h
 refine SX.sr (SL.bld [] (.r rfl) pl148 pk148 ze148 trivial rfl (SL.st 8 ⟨rfl,rfl,rfl⟩ rfl rfl rfl sz148 rfl rfl rfl trivial (SL.reAt 8 (own b1 (.cells #[vI 0,vU32 0,vU32 0,vI 0,.slice none 0 0,.slice none 0 0,vU32 0,vS []] 148)) (SL.nilT 79 4 encRow (SL.nilT 31 2 encRef (SL.asg (.r rfl) rfl (SL.nx (SX.ret (SQ.thnR ?_)))))))))
 obtain rfl:=Option.some.inj h
 exact SQ.fret (resv2 rfl (resv.ag 10 [vI 0,vU32 0,vU32 0,vI 0,.slice none 0 0,.slice none 0 0,vU32 0,vS []] ag148 rfl rfl rfl rfl) rfl) (ret_of (M:=[_,_]) ⟨(.slice none 0 0),(.slice none 0 0),rfl,rfl⟩ fun _ hw=>HpOk.pick (H:=[_,_,_,_,_,_,_,_,_,_,_]) hw [1,0] 11 rfl)
 replace h:=cF hc1 h
 refine SX.skip (SQ.thn (SX.sr (SL.ldA [vI y1.1.kind,vU32 y1.1.cx,vU32 y1.1.cy,vI y1.1.lev,v1,v2,vU32 y1.1.npage,vS y1.1.ntag] (.r rfl) ag148 rfl rfl (cells_all 2 rfl) ?_)))
 refine SL.rowV 3 rfl fun hv3 ho3=>?_
 refine SL.rowV 4 rfl fun hv4 ho4=>?_
 refine SL.st 8 ⟨rfl,rfl,rfl⟩ rfl rfl rfl sz148 rfl (by simp only [Value.oneCell'] at ho3 ho4;simp [Value.cells,Value.cells,Value.oneCell',ho3,ho4]) rfl trivial (SL.reAt 8 (own b1 (.cells #[vI y1.1.kind,vU32 y1.1.cx,vU32 y1.1.cy,vI y1.1.lev,v1,v2,vU32 y1.1.npage,vS y1.1.ntag] 148)) (SL.asg (.r rfl) rfl (SL.nx (SX.ret ?_))))
 obtain rfl:=Option.some.inj h
 exact SQ.fret (resv2 rfl (resv.ag 8 [vI y1.1.kind,vU32 y1.1.cx,vU32 y1.1.cy,vI y1.1.lev,v1,v2,vU32 y1.1.npage,vS y1.1.ntag] ag148 rfl rfl rfl rfl) rfl) (ret_of (M:=[_,_]) ⟨v1,v2,rfl,rfl⟩ fun _ hw=>HpOk.pick (H:=[_,_,_,_,_,_,_,_,_]) hw [3,4] 9 rfl)


end Go.Proofs.YtkibffdipniemaaGreatDoor

/- Plain laws of pages as bytes: what rows.Right, rows.Encode and rows.Decode answer; what was encoded is decoded. No program in sight. Condition: rounds enough. -/
namespace Go.Proofs.YtkibffdipniemaaGreatDoor
open Go

/-! ### Rows that are -/
def rowOk (r:RowA):Bool:=decide (max r.x r.y<2147483648)&&decide ((r.txt.length:Int)≤16)
def rising:List RowA→Bool
 | []=>true
 | [_]=>true
 | a::b::l=>decide (a.id<b.id)&&rising (b::l)
def rightR (l:List RowA):Bool:=l.all rowOk&&rising l&&decide ((l.length:Int)≤1000)
theorem u64_not_le {a b:UInt64}:decide (b≤a) = !decide (a<b):=by
 rw [Bool.eq_iff_iff]
 simp only [Bool.not_eq_true',decide_eq_false_iff_not,decide_eq_true_eq]
 rw [UInt64.le_iff_toNat_le,UInt64.lt_iff_toNat_lt]
 omega
theorem rising_snoc:∀(l:List RowA) (a b:RowA),rising (l++[a,b])=(rising (l++[a])&&decide (a.id<b.id))
 | [],a,b=>by simp [rising]
 | [x],a,b=>by simp [rising]
 | x::y::l,a,b=>by
  have:=rising_snoc (y::l) a b
  simp only [List.cons_append,rising] at this ⊢
  rw [this,Bool.and_assoc]
theorem rising_take (l r:List RowA) (h:rising (l++r)=true):rising l=true:=by
 induction l with
 | nil=>rfl
 | cons a l ih=>
  cases l with
  | nil=>rfl
  | cons b l=>
   simp only [List.cons_append,rising,Bool.and_eq_true] at h ⊢
   exact ⟨h.1,ih h.2⟩
theorem rising_iff (l:List RowA):rising l=true↔l.Pairwise fun a b=>a.id<b.id:=by
 induction l with
 | nil=>simp [rising]
 | cons a l ih=>
  cases l with
  | nil=>simp [rising]
  | cons b l=>
   simp only [rising,Bool.and_eq_true,decide_eq_true_eq,ih]
   constructor
   rintro ⟨h1,h2⟩
   refine List.pairwise_cons.2 ⟨fun c hc=>?_,h2⟩
   rcases List.mem_cons.1 hc with rfl | hc
   exact h1
   have:=(List.pairwise_cons.1 h2).1 c hc
   rw [UInt64.lt_iff_toNat_lt] at*
   omega
   intro h
   exact ⟨(List.pairwise_cons.1 h).1 b (by simp),(List.pairwise_cons.1 h).2⟩
theorem quadRight_eq {n:Nat} (l:List RowA) (hn:l.length<n) (hb:l.length≤1073741824):f_quad_Right n l=some (rightR l):=by
 have key:∀(T S:List RowA),l=S++T→S.all rowOk=true→rising S=true→∀m,T.length<m→f_quad_Right_l1 l m (S.length:Int)=some (rightR l):=by
  intro T
  induction T with
  | nil=>
   intro S hl h1 h2 m hm
   obtain ⟨m,rfl⟩:∃k,m=k+1:=⟨m-1,by omega⟩
   show f_quad_Right_l1_b l (f_quad_Right_l1 l m) _=_
   unfold f_quad_Right_l1_b
   simp only [List.append_nil] at hl
   subst hl
   rw [decide_eq_false (by omega),cond_false]
   unfold f_quad_Right_j1 rightR
   rw [ret_eq,h1,h2]
   rfl
  | cons r T ih=>
   intro S hl h1 h2 m hm
   obtain ⟨m,rfl⟩:∃k,m=k+1:=⟨m-1,by omega⟩
   have hlen:l.length=S.length+(T.length+1):=by rw [hl];simp
   show f_quad_Right_l1_b l (f_quad_Right_l1 l m) _=_
   unfold f_quad_Right_l1_b
   have n1:nthI l (S.length:Int)=some r:=by
    rw [nthI_of rfl,hl]
    simp
   have hrow:f_quad_RightRow r=some (rowOk r):=by
    unfold f_quad_RightRow
    rw [ret_eq]
    rfl
   rw [decide_eq_true (by omega),cond_true,n1,some_bind,hrow,some_bind]
   have hall:l.all rowOk=(rowOk r&&T.all rowOk):=by rw [hl];simp [h1]
   by_cases hr:rowOk r=true
   rw [hr]
   simp only [orO,Bool.not_true,cond_false]
   rcases List.eq_nil_or_concat S with rfl | ⟨S0,a,rfl⟩
   have hz:decide (0<((([]:List RowA).length:Nat):Int))=false:=rfl
   rw [hz]
   simp only [andO,cond_false,some_bind]
   rw [wI_eq (by simp) (by simp)]
   have:=ih [r] (by rw [hl];rfl) (by simp [hr]) rfl m (by simp at hm;omega)
   simpa using this
   have hz:decide (0<(((S0.concat a).length:Nat):Int))=true:=by simp
   have hcl:(S0.concat a).length=S0.length+1:=by simp
   have n2:nthI l (wI (((S0.concat a).length:Int)-1))=some a:=by
    rw [wI_eq (by omega) (by omega),nthI_of (k:=S0.length) (by omega),hl]
    simp
   rw [hz]
   simp only [andO,cond_true,n2,some_bind,u64_not_le]
   have hl':l=(S0.concat a++[r])++T:=by rw [hl];simp
   by_cases hlt:a.id<r.id
   rw [decide_eq_true hlt,Bool.not_true,cond_false,wI_eq (by omega) (by omega)]
   have hri:rising (S0.concat a++[r])=true:=by
    have:=rising_snoc S0 a r
    rw [List.concat_eq_append,List.append_assoc]
    show rising (S0++[a,r])=true
    rw [this,←List.concat_eq_append,h2,decide_eq_true hlt]
    rfl
   have:=ih (S0.concat a++[r]) hl' (by simp only [List.all_append,h1];simp [hr]) hri m (by simp at hm;omega)
   rw [show ((S0.concat a++[r]).length:Int)=((S0.concat a).length:Int)+1 by simp only [List.length_append,List.length_singleton];omega] at this
   exact this
   rw [decide_eq_false hlt,Bool.not_false,cond_true]
   have:rising l=false:=by
    cases hx:rising l with
    | false=>rfl
    | true=>
     rw [hl'] at hx
     have h5:=rising_take _ _ hx
     rw [List.concat_eq_append,List.append_assoc] at h5
     have h6:rising (S0++[a,r])=true:=h5
     rw [rising_snoc,decide_eq_false hlt] at h6
     simp at h6
   unfold rightR
   rw [this]
   simp
   have hr':rowOk r=false:=by simpa using hr
   rw [hr']
   simp only [orO,Bool.not_false,cond_true,some_bind]
   unfold rightR
   rw [hall,hr']
   simp
 have:=key l [] rfl rfl rfl n hn
 unfold f_quad_Right
 simpa using this
/-! ### Pages that are -/
def refOk (r:RefA):Bool:=decide (2≤r.page)&&decide ((r.tag.length:Int)=32)
def refNo (r:RefA):Bool:=decide (r.page=0)&&decide (r.tag=[])
theorem rightRef_eq (r:RefA):f_rows_RightRef r=some (refOk r):=by
 unfold f_rows_RightRef
 rw [ret_eq]
 rfl
def cellOk (c:CellA):Bool:=cond (decide (c.lev<0)||decide (31<c.lev)) false (decide ((c.x ||| c.y) &&& (shl64 1 c.lev.toNat-1).toUInt32=0)&&decide (max c.x c.y<2147483648))
theorem cellRight_eq (c:CellA):f_cell_Right c=some (cellOk c):=by
 unfold f_cell_Right cellOk
 cases h:decide (c.lev<0)||decide (31<c.lev) with
 | true=>rfl
 | false=>
  simp only [Bool.or_eq_false_iff,decide_eq_false_iff_not] at h
  unfold f_cell_size shN
  rw [cond_false,cond_false,if_pos (by omega),some_bind,ret_eq,some_bind,ret_eq,ret_eq]
theorem contains_eq {n:Nat} (l:List RefA) (hn:l.length<n) (hb:l.length≤1073741824):f_cot n l=some (!l.all refOk):=by
 have key:∀(T S:List RefA),l=S++T→S.all refOk=true→∀m,T.length<m→∃y,f_idx_l1 l m (S.length:Int)=some y∧decide (0≤y) = !l.all refOk:=by
  intro T
  induction T with
  | nil=>
   intro S hl h1 m hm
   obtain ⟨m,rfl⟩:∃k,m=k+1:=⟨m-1,by omega⟩
   simp only [List.append_nil] at hl
   subst hl
   refine ⟨-1,?_,by rw [h1];rfl⟩
   show f_idx_l1_b l (f_idx_l1 l m) _=_
   unfold f_idx_l1_b
   rw [decide_eq_false (by omega),cond_false]
   rfl
  | cons r T ih=>
   intro S hl h1 m hm
   obtain ⟨m,rfl⟩:∃k,m=k+1:=⟨m-1,by omega⟩
   have hlen:l.length=S.length+(T.length+1):=by rw [hl];simp
   have n1:nthI l (S.length:Int)=some r:=by
    rw [nthI_of rfl,hl]
    simp
   by_cases hr:refOk r=true
   obtain ⟨y,h5,h6⟩:=ih (S++[r]) (by rw [hl];simp) (by simp only [List.all_append,h1];simp [hr]) m (by simp at hm;omega)
   refine ⟨y,?_,h6⟩
   show f_idx_l1_b l (f_idx_l1 l m) _=_
   unfold f_idx_l1_b f_rows_Right_1
   rw [decide_eq_true (by omega),cond_true,n1,some_bind,rightRef_eq,some_bind,ret_eq,some_bind,hr,Bool.not_true,cond_false,wI_eq (by omega) (by omega)]
   simpa using h5
   have hr':refOk r=false:=by simpa using hr
   refine ⟨(S.length:Int),?_,?_⟩
   show f_idx_l1_b l (f_idx_l1 l m) _=_
   unfold f_idx_l1_b f_rows_Right_1
   rw [decide_eq_true (by omega),cond_true,n1,some_bind,rightRef_eq,some_bind,ret_eq,some_bind,hr',Bool.not_false,cond_true]
   rw [hl]
   simp [hr']
 obtain ⟨y,h1,h2⟩:=key l [] rfl rfl n hn
 unfold f_cot f_idx
 have h1':f_idx_l1 l n 0=some y:=by simpa using h1
 rw [h1',some_bind,ret_eq,h2]
def pageOk (x:PageA):Bool:=
 cond (decide (x.kind=1)) ((((decide (x.cx=0)&&(decide (x.cy=0)&&(decide (x.lev=0)&&true)))&&decide ((x.kids.length:Int)=0))&&decide ((x.rows.length:Int)≤4))&&rightR x.rows&&(refNo ⟨x.npage,x.ntag⟩||refOk ⟨x.npage,x.ntag⟩))
  (cond (decide (x.kind=2)) ((x.kids.all refOk&&decide ((x.rows.length:Int)=0))&&refNo ⟨x.npage,x.ntag⟩&&decide (2≤(x.kids.length:Int))&&decide ((x.kids.length:Int)≤4)&&cellOk ⟨x.cx,x.cy,x.lev⟩&&decide (0<x.lev)) false)
theorem andO_some (b c:Bool):andO b (some c)=some (b&&c):=by cases b<;>rfl
theorem orO_some (b c:Bool):orO b (some c)=some (b||c):=by cases b<;>rfl
theorem isNone_eq (r:RefA):f_rows_isNone r=some (refNo r):=by
 unfold f_rows_isNone
 rw [ret_eq]
 unfold refNo
 simp
theorem pageRight_eq {n:Nat} (x:PageA) (hr:x.rows.length<n) (hk:x.kids.length<n) (hb:x.rows.length≤1073741824) (hc:x.kids.length≤1073741824):f_rows_Right n x=some (pageOk x):=by
 unfold f_rows_Right pageOk
 rw [ret_eq]
 cases hk1:decide (x.kind=1) with
 | true=>
  rw [cond_true,cond_true,quadRight_eq x.rows hr hb,some_bind,andO_some,some_bind,isNone_eq,some_bind,rightRef_eq,some_bind,orO_some,some_bind,andO_some,some_bind]
 | false=>
  rw [cond_false,cond_false,ret_eq]
  cases hk2:decide (x.kind=2) with
  | true=>
   rw [cond_true,cond_true,contains_eq x.kids hk hc,some_bind,isNone_eq,some_bind,andO_some,some_bind,cellRight_eq,some_bind,andO_some,some_bind,ret_eq,Bool.not_not]
  | false=>rfl
end Go.Proofs.YtkibffdipniemaaGreatDoor

/- Plain laws of pages as bytes: what rows.Encode answers, and that what was encoded is decoded. No program in sight. Condition: rounds enough. -/
namespace Go.Proofs.YtkibffdipniemaaGreatDoor
open Go

/-! ### Writing -/
def encRefB (r:RefA):List UInt8:=lePut r.page.toUInt64 4++(r.tag++List.replicate (32-r.tag.length) 0)
def encRowB (r:RowA):List UInt8:=lePut r.id 8++(lePut r.x.toUInt64 4++(lePut r.y.toUInt64 4++(lePut (toU64 (r.txt.length:Int)) 1++r.txt)))
def encPg (x:PageA):List UInt8:=
 lePut (toU64 x.kind) 1++cond (decide (x.kind=2)) (lePut (toU64 (x.kids.length:Int)) 1++(lePut (toU64 x.lev) 1++(lePut x.cx.toUInt64 4++(lePut x.cy.toUInt64 4++(x.kids.map encRefB).flatten))))
  (lePut (toU64 (x.rows.length:Int)) 1++(encRefB ⟨x.npage,x.ntag⟩++(x.rows.map encRowB).flatten))
theorem wput_eq {s:List UInt8} {n:UInt64} {w:Int} (k:Nat) (hw:w=(k:Int)) (hs:s.length≤1048576) (h:k≤8):wputO s n w=some (s++lePut n k):=by
 subst hw
 unfold wputO
 rw [if_pos ⟨hs,by omega,by omega⟩]
 rfl
theorem wput1 {s:List UInt8} {n:UInt64} (hs:s.length≤1048576):wputO s n 1=some (s++lePut n 1):=wput_eq 1 rfl hs (by omega)
theorem wput4 {s:List UInt8} {n:UInt64} (hs:s.length≤1048576):wputO s n 4=some (s++lePut n 4):=wput_eq 4 rfl hs (by omega)
theorem wput8 {s:List UInt8} {n:UInt64} (hs:s.length≤1048576):wputO s n 8=some (s++lePut n 8):=wput_eq 8 rfl hs (by omega)
theorem rep0_eq {n:Int} (k:Nat) (h:n=(k:Int)) (hk:k≤8192):rep0O [0] n=some (List.replicate k 0):=by
 subst h
 unfold rep0O
 rw [if_pos ⟨rfl,by omega,by omega⟩]
 rfl
theorem rep32:rep0O [0] 32=some (List.replicate 32 0):=rep0_eq 32 rfl (by omega)
theorem wstr_eq {s t:List UInt8} (hs:s.length≤1048576) (ht:t.length≤1048576):wstrO s t=some (s++t):=if_pos ⟨hs,ht⟩
theorem encRefB_len {r:RefA} (h:r.tag.length≤32):(encRefB r).length=36:=by
 unfold encRefB
 simp [lePut_length]
 omega
theorem wref_eq {s:List UInt8} {r:RefA} (hs:s.length≤1000000) (h:r.tag.length≤32):wrefO s r=some (s++encRefB r):=by
 unfold wrefO encRefB
 rw [if_pos h,wput4 (by omega),some_bind,rep0_eq (32-r.tag.length) (by omega) (by omega),some_bind,catS_eq (by simp;omega),some_bind,wstr_eq (by simp [lePut_length];omega) (by simp;omega),List.append_assoc]
theorem refOk_len {r:RefA} (h:refOk r=true):r.tag.length=32∧2≤r.page.toNat:=by
 unfold refOk at h
 simp only [Bool.and_eq_true,decide_eq_true_eq] at h
 exact ⟨by omega,by have:=UInt32.le_iff_toNat_le.1 h.1;simpa using this⟩
theorem refNo_eq {r:RefA} (h:refNo r=true):r=⟨0,[]⟩:=by
 unfold refNo at h
 simp only [Bool.and_eq_true,decide_eq_true_eq] at h
 cases r
 simp only at h
 rw [h.1,h.2]
theorem enc_l1 (x:PageA) (hb:x.kids.length≤1000):∀(T S:List RefA) (s:List UInt8),x.kids=S++T→(∀r∈T,r.tag.length≤32)→s.length+36*T.length≤100000→∀m,T.length<m→f_rows_Encode_l1 x m (s,(S.length:Int))=some (s++(T.map encRefB).flatten,0)
 | [],S,s,hk,ht,hs,m,hm=>by
  obtain ⟨m,rfl⟩:∃k,m=k+1:=⟨m-1,by omega⟩
  show f_rows_Encode_l1_b x (f_rows_Encode_l1 x m) _ _=_
  unfold f_rows_Encode_l1_b endO
  rw [hk]
  simp only [List.append_nil]
  rw [decide_eq_false (by omega),cond_false,if_pos (by simp at hs ⊢;omega)]
  simp
 | r::T,S,s,hk,ht,hs,m,hm=>by
  obtain ⟨m,rfl⟩:∃k,m=k+1:=⟨m-1,by omega⟩
  have hlen:x.kids.length=S.length+(T.length+1):=by rw [hk];simp
  have n1:nthI x.kids (S.length:Int)=some r:=by
   rw [nthI_of rfl,hk]
   simp
  simp only [List.length_cons] at hs hm
  have h32:=ht r (by simp)
  show f_rows_Encode_l1_b x (f_rows_Encode_l1 x m) _ _=_
  unfold f_rows_Encode_l1_b
  dsimp only
  rw [decide_eq_true (by omega),cond_true,n1,some_bind,wref_eq (by omega) h32,some_bind,wI_eq (by omega) (by omega)]
  have:=enc_l1 x hb T (S++[r]) (s++encRefB r) (by rw [hk];simp) (fun q hq=>ht q (by simp [hq])) (by simp [encRefB_len h32];omega) m (by omega)
  simpa using this
theorem encRowB_len (r:RowA):(encRowB r).length=17+r.txt.length:=by
 unfold encRowB
 simp [lePut_length]
 omega
theorem enc_l2 (x:PageA) (hb:x.rows.length≤1000):∀(T S:List RowA) (s:List UInt8),x.rows=S++T→(∀r∈T,r.txt.length≤16)→s.length+33*T.length≤100000→∀m,T.length<m→f_rows_Encode_l2 x m (s,(S.length:Int))=some (s++(T.map encRowB).flatten,0)
 | [],S,s,hk,ht,hs,m,hm=>by
  obtain ⟨m,rfl⟩:∃k,m=k+1:=⟨m-1,by omega⟩
  show f_rows_Encode_l2_b x (f_rows_Encode_l2 x m) _ _=_
  unfold f_rows_Encode_l2_b endO
  rw [hk]
  simp only [List.append_nil]
  rw [decide_eq_false (by omega),cond_false,if_pos (by simp at hs ⊢;omega)]
  simp
 | r::T,S,s,hk,ht,hs,m,hm=>by
  obtain ⟨m,rfl⟩:∃k,m=k+1:=⟨m-1,by omega⟩
  have hlen:x.rows.length=S.length+(T.length+1):=by rw [hk];simp
  have n1:nthI x.rows (S.length:Int)=some r:=by
   rw [nthI_of rfl,hk]
   simp
  simp only [List.length_cons] at hs hm
  have h16:=ht r (by simp)
  show f_rows_Encode_l2_b x (f_rows_Encode_l2 x m) _ _=_
  unfold f_rows_Encode_l2_b
  dsimp only
  rw [decide_eq_true (by omega),cond_true,n1,some_bind,wput8 (by omega),some_bind,wput4 (by simp [lePut_length];omega),some_bind,wput4 (by simp [lePut_length];omega),some_bind,
   wput1 (by simp [lePut_length];omega),some_bind,wstr_eq (by simp [lePut_length];omega) (by omega),some_bind,wI_eq (by omega) (by omega)]
  have:=enc_l2 x hb T (S++[r]) (s++encRowB r) (by rw [hk];simp) (fun q hq=>ht q (by simp [hq])) (by simp [encRowB_len];omega) m (by omega)
  simpa [encRowB] using this
theorem pageOk_leaf {x:PageA} (h:pageOk x=true) (hk:x.kind=1):x.cx=0∧x.cy=0∧x.lev=0∧x.kids=[]∧x.rows.length≤4∧rightR x.rows=true∧((x.npage=0∧x.ntag=[])∨refOk ⟨x.npage,x.ntag⟩=true):=by
 unfold pageOk at h
 rw [decide_eq_true hk,cond_true] at h
 simp only [Bool.and_eq_true,decide_eq_true_eq,Bool.or_eq_true,Bool.and_true] at h
 obtain ⟨⟨⟨⟨⟨h1,h2,h3⟩,h4⟩,h5⟩,h6⟩,h7⟩:=h
 refine ⟨h1,h2,h3,List.length_eq_zero_iff.1 (by omega),by omega,h6,?_⟩
 rcases h7 with h7 | h7
 have:=refNo_eq h7
 simp only [RefA.mk.injEq] at this
 exact .inl this
 exact .inr h7
theorem pageOk_inner {x:PageA} (h:pageOk x=true) (hk:x.kind≠1):x.kind=2∧(∀r∈x.kids,refOk r=true)∧x.rows=[]∧x.npage=0∧x.ntag=[]∧2≤x.kids.length∧x.kids.length≤4∧cellOk ⟨x.cx,x.cy,x.lev⟩=true∧0<x.lev:=by
 unfold pageOk at h
 rw [decide_eq_false hk,cond_false] at h
 cases hk2:decide (x.kind=2) with
 | false=>rw [hk2] at h;cases h
 | true=>
  rw [hk2,cond_true] at h
  simp only [Bool.and_eq_true,decide_eq_true_eq] at h
  obtain ⟨⟨⟨⟨⟨⟨h1,h2⟩,h3⟩,h4⟩,h5⟩,h6⟩,h7⟩:=h
  have:=refNo_eq h3
  simp only [RefA.mk.injEq] at this
  exact ⟨by simpa using hk2,fun r hr=>List.all_eq_true.1 h1 r hr,List.length_eq_zero_iff.1 (by omega),this.1,this.2,by omega,by omega,h6,h7⟩
theorem rightR_txt {l:List RowA} (h:rightR l=true):∀r∈l,r.txt.length≤16:=fun r hr=>by
 unfold rightR at h
 simp only [Bool.and_eq_true] at h
 have:=List.all_eq_true.1 h.1.1 r hr
 unfold rowOk at this
 simp only [Bool.and_eq_true,decide_eq_true_eq] at this
 omega
theorem encode_eq {n:Nat} {x:PageA} (hn:10≤n) (h:pageOk x=true):f_rows_Encode n x=some (encPg x,0):=by
 by_cases hk:x.kind=1
 obtain ⟨h1,h2,h3,h4,h5,h6,h7⟩:=pageOk_leaf h hk
 have h32:x.ntag.length≤32:=by
  rcases h7 with h7 | h7
  rw [h7.2];simp
  have:=(refOk_len h7).1
  simp only at this
  omega
 unfold f_rows_Encode encPg
 rw [pageRight_eq x (by omega) (by rw [h4];simp;omega) (by omega) (by rw [h4];simp),some_bind,h,Bool.not_true,cond_false,wput1 (by simp),some_bind,show decide (x.kind=2)=false by rw [hk];rfl,cond_false,cond_false,
  wput1 (by simp [lePut_length]),some_bind,wref_eq (by simp [lePut_length]) h32,some_bind]
 have:=enc_l2 x (by omega) x.rows [] (lePut (toU64 x.kind) 1++(lePut (toU64 (x.rows.length:Int)) 1++encRefB ⟨x.npage,x.ntag⟩)) rfl (rightR_txt h6) (by simp [lePut_length,encRefB_len (r:=⟨x.npage,x.ntag⟩) h32];omega) n (by omega)
 simpa using this
 obtain ⟨hk2,h1,h2,h3,h4,h5,h6,h7,h8⟩:=pageOk_inner h hk
 unfold f_rows_Encode encPg
 rw [pageRight_eq x (by rw [h2];simp;omega) (by omega) (by rw [h2];simp) (by omega),some_bind,h,Bool.not_true,cond_false,wput1 (by simp),some_bind,show decide (x.kind=2)=true by rw [hk2];rfl,cond_true,cond_true,
  wput1 (by simp [lePut_length]),some_bind,wput1 (by simp [lePut_length]),some_bind,wput4 (by simp [lePut_length]),some_bind,wput4 (by simp [lePut_length]),some_bind]
 have:=enc_l1 x (by omega) x.kids [] (lePut (toU64 x.kind) 1++(lePut (toU64 (x.kids.length:Int)) 1++(lePut (toU64 x.lev) 1++(lePut x.cx.toUInt64 4++lePut x.cy.toUInt64 4)))) rfl (fun r hr=>by have:=(refOk_len (h1 r hr)).1;omega) (by simp [lePut_length];omega) n (by omega)
 simpa using this
/-! ### Reading -/
theorem take_ok {a b:List UInt8} {sh:Bool} {k:Int} (hk:k=(a.length:Int)):f_rows_reader_take ⟨a++b,sh⟩ k=some (a,⟨b,sh⟩):=by
 subst hk
 unfold f_rows_reader_take
 have h1:slcI (a++b) 0 (a.length:Int)=some (((a++b).drop 0).take (a.length-0)):=slcI_of rfl rfl (by omega) (by simp)
 have h2:slcI (a++b) (a.length:Int) ((a++b).length:Int)=some (((a++b).drop a.length).take ((a++b).length-a.length)):=slcI_of rfl rfl (by simp) (by simp)
 rw [decide_eq_false (by simp;omega),cond_false]
 dsimp only
 rw [h1,some_bind,h2,some_bind]
 simp
theorem get_ok {v:UInt64} {w:Nat} {k:Int} {b:List UInt8} {sh:Bool} (hk:k=(w:Int)) (hw:w≤8) (hv:v.toNat<2^(8*w)):f_rows_reader_get ⟨lePut v w++b,sh⟩ k=some (v,⟨b,sh⟩):=by
 unfold f_rows_reader_get
 rw [take_ok (by rw [lePut_length];exact hk),some_bind]
 simp only [lePut_length]
 rw [if_pos hw]
 congr 2
 apply UInt64.toNat_inj.1
 have:=leGet_put v w [] hw w (Nat.le_refl _)
 simp only [List.append_nil] at this
 rw [this,Nat.mod_eq_of_lt hv]
theorem get1 {v:UInt64} {b:List UInt8} {sh:Bool} (hv:v.toNat<256):f_rows_reader_get ⟨lePut v 1++b,sh⟩ 1=some (v,⟨b,sh⟩):=get_ok (w:=1) rfl (by omega) hv
theorem get4 {v:UInt64} {b:List UInt8} {sh:Bool} (hv:v.toNat<4294967296):f_rows_reader_get ⟨lePut v 4++b,sh⟩ 4=some (v,⟨b,sh⟩):=get_ok (w:=4) rfl (by omega) hv
theorem get8 {v:UInt64} {b:List UInt8} {sh:Bool}:f_rows_reader_get ⟨lePut v 8++b,sh⟩ 8=some (v,⟨b,sh⟩):=get_ok (w:=8) rfl (by omega) (by have:=v.toNat_lt;omega)
theorem ref_ok {r:RefA} {b:List UInt8} {sh:Bool} (h:r.tag.length≤32):f_rows_reader_ref ⟨encRefB r++b,sh⟩=some (⟨r.page,r.tag++List.replicate (32-r.tag.length) 0⟩,⟨b,sh⟩):=by
 unfold f_rows_reader_ref encRefB
 rw [List.append_assoc,get4 (by have:=r.page.toNat_lt;simp;omega),some_bind,take_ok (by simp;omega),some_bind]
 simp
theorem refOk_tag {r:RefA} (h:refOk r=true):(⟨r.page,r.tag++List.replicate (32-r.tag.length) 0⟩:RefA)=r:=by
 have:=(refOk_len h).1
 rw [this]
 simp
theorem toU64_nat {k:Nat} (h:k<4294967296):(toU64 (k:Int)).toNat=k:=by
 simp only [toU64,UInt64.toNat_ofNat']
 omega
theorem readRow_ok {r:RowA} {b:List UInt8} {sh:Bool} (h:r.txt.length≤16):readRow ⟨encRowB r++b,sh⟩=some (r,⟨b,sh⟩):=by
 unfold readRow encRowB
 simp only [List.append_assoc]
 rw [get8,some_bind,get4 (by have:=r.x.toNat_lt;simp;omega),some_bind,get4 (by have:=r.y.toNat_lt;simp;omega),some_bind,
  get1 (by rw [toU64_nat (by omega)];omega),some_bind]
 simp only
 rw [toU64_nat (by omega),wI_eq (by omega) (by omega),take_ok rfl,some_bind]
 simp
theorem page_rows {n:Nat} {y1:UInt64×RdA} {y9 y10:UInt32} {y11:Int} {l3:List RefA} {y16:RefA×RdA} {y17:List UInt8} (N:Nat) (hN:N≤4):∀(T S:List RowA),S.length+T.length=N→(∀r∈T,r.txt.length≤16)→∀m,T.length<m→
  f_rpg_r1 y1 y9 y10 y11 l3 y16 y17 (rowStep (N:Int)) (rowD (N:Int)) m (S.length,⟨(T.map encRowB).flatten,false⟩) (⟨(T.map encRowB).flatten,false⟩,S)=some (⟨wI (y1.1.toNat:Int),y9,y10,y11,S++T,l3,y16.1.page,y17⟩,⟨[],false⟩)
 | [],S,hl,ht,m,hm=>by
  obtain ⟨m,rfl⟩:∃k,m=k+1:=⟨m-1,by omega⟩
  unfold f_rpg_r1
  rw [rangeS,show rowD (N:Int) (S.length,⟨(([]:List RowA).map encRowB).flatten,false⟩)=true by simp only [rowD,decide_eq_true_eq];simp at hl;omega,cond_true]
  unfold f_rpg_j5 f_rpg_j4
  simp
 | r::T,S,hl,ht,m,hm=>by
  obtain ⟨m,rfl⟩:∃k,m=k+1:=⟨m-1,by omega⟩
  simp only [List.length_cons] at hl hm
  have ih:=page_rows (n:=n) (y1:=y1) (y9:=y9) (y10:=y10) (y11:=y11) (l3:=l3) (y16:=y16) (y17:=y17) N hN T (S++[r]) (by simp;omega) (fun q hq=>ht q (by simp [hq])) m (by omega)
  unfold f_rpg_r1 at ih ⊢
  rw [rangeS,show rowD (N:Int) (S.length,⟨((r::T).map encRowB).flatten,false⟩)=false by simp only [rowD,decide_eq_false_iff_not];omega,cond_false]
  have hst:rowStep (N:Int) (S.length,⟨((r::T).map encRowB).flatten,false⟩)=some (r,(S.length+1,⟨(T.map encRowB).flatten,false⟩)):=by
   unfold rowStep
   simp only [List.map_cons,List.flatten_cons]
   rw [if_pos (by omega),readRow_ok (ht r (by simp)),some_bind]
  rw [hst,some_bind]
  dsimp only
  have body:∀nx,f_rpg_r1_b y1 y9 y10 y11 l3 y16 y17 nx r ⟨(T.map encRowB).flatten,false⟩ S=nx (⟨(T.map encRowB).flatten,false⟩,S++[r]):=fun nx=>by
   unfold f_rpg_r1_b
   rw [appL_eq (by simp;omega) (by simp;omega),some_bind,show ((false:Bool)||decide (4<((S++[r]).length:Int)))=false by simp;omega,cond_false]
  rw [body]
  simpa using ih
theorem page_kids {y1:UInt64×RdA} {y12 y13 y14:UInt64×RdA} (N:Nat) (hN:N≤4):∀(T S:List RefA),S.length+T.length=N→(∀r∈T,refOk r=true)→∀m,T.length<m→
  f_rpg_l1 y1 (N:Int) y12 y13 y14 m (⟨(T.map encRefB).flatten,false⟩,S,(S.length:Int))=some (⟨wI (y1.1.toNat:Int),y13.1.toUInt32,y14.1.toUInt32,wI (y12.1.toNat:Int),[],S++T,0,[]⟩,⟨[],false⟩)
 | [],S,hl,ht,m,hm=>by
  obtain ⟨m,rfl⟩:∃k,m=k+1:=⟨m-1,by omega⟩
  simp at hl
  show f_rpg_l1_b _ _ _ _ _ (f_rpg_l1 _ _ _ _ _ m) _ _ _=_
  unfold f_rpg_l1_b
  dsimp only
  rw [decide_eq_false (by omega),cond_false]
  unfold f_rpg_j2
  simp
 | r::T,S,hl,ht,m,hm=>by
  obtain ⟨m,rfl⟩:∃k,m=k+1:=⟨m-1,by omega⟩
  simp only [List.length_cons] at hl hm
  have hr:=ht r (by simp)
  have ih:=page_kids (y1:=y1) (y12:=y12) (y13:=y13) (y14:=y14) N hN T (S++[r]) (by simp;omega) (fun q hq=>ht q (by simp [hq])) m (by omega)
  show f_rpg_l1_b _ _ _ _ _ (f_rpg_l1 _ _ _ _ _ m) _ _ _=_
  unfold f_rpg_l1_b
  dsimp only
  rw [decide_eq_true (by omega),cond_true]
  simp only [List.map_cons,List.flatten_cons]
  rw [ref_ok (by have:=(refOk_len hr).1;omega),some_bind]
  simp only [refOk_tag hr]
  rw [appL_eq (by simp;omega) (by simp;omega),some_bind,wI_eq (by omega) (by omega)]
  simpa using ih
theorem decode_enc {n:Nat} {x:PageA} (hn:10≤n) (h:pageOk x=true):f_rows_Decode n (encPg x)=some (x,0):=by
 have key:f_rpg n ⟨encPg x,false⟩=some (x,⟨[],false⟩):=by
  unfold f_rpg encPg
  by_cases hk:x.kind=1
  obtain ⟨h1,h2,h3,h4,h5,h6,h7⟩:=pageOk_leaf h hk
  rw [get1 (by rw [hk];decide),some_bind,show decide (x.kind=2)=false by rw [hk];rfl,cond_false,get1 (by rw [toU64_nat (by omega)];omega),some_bind,ret_eq]
  simp only
  have e1:wI ((toU64 x.kind).toNat:Int)=1:=by rw [hk];rfl
  rw [e1,show decide ((1:Int)=2)=false from rfl,cond_false,toU64_nat (by omega),wI_eq (by omega) (by omega)]
  unfold f_rpg_j1
  have hx:(⟨1,0,0,0,x.rows,[],x.npage,x.ntag⟩:PageA)=x:=by
   cases x
   simp only at h1 h2 h3 h4 hk
   rw [h1,h2,h3,h4,hk]
  rcases h7 with h7 | h7
  rw [ref_ok (by simp only;rw [h7.2];simp),some_bind,rep32,some_bind]
  have hcond:(decide (x.npage=0)&&(decide (x.ntag++List.replicate (32-x.ntag.length) 0=List.replicate 32 0)&&true))=true:=by rw [h7.1,h7.2];rfl
  dsimp only
  rw [hcond,cond_true]
  unfold f_rpg_j3 rowsO
  rw [if_pos (by omega),some_bind]
  have:=page_rows (n:=n) (y1:=(toU64 x.kind,⟨lePut (toU64 (x.rows.length:Int)) 1++(encRefB ⟨x.npage,x.ntag⟩++(x.rows.map encRowB).flatten),false⟩)) (y9:=0) (y10:=0) (y11:=0) (l3:=[]) (y16:=(⟨x.npage,x.ntag++List.replicate (32-x.ntag.length) 0⟩,⟨(x.rows.map encRowB).flatten,false⟩)) (y17:=[]) x.rows.length h5 x.rows [] (by simp) (rightR_txt h6) n (by omega)
  rw [h7.2] at hx
  simp only [e1,List.nil_append,List.length_nil,hx] at this
  exact this
  have h32:=(refOk_len h7).1
  have h2':=(refOk_len h7).2
  simp only at h32 h2'
  rw [ref_ok (by simp only;omega),some_bind,rep32,some_bind]
  have ht:=refOk_tag h7
  simp only [RefA.mk.injEq,true_and] at ht
  simp only [ht]
  have h0:decide (x.npage=0)=false:=by
   rw [decide_eq_false_iff_not]
   intro e
   rw [e] at h2'
   simp at h2'
  rw [h0,Bool.false_and,cond_false]
  unfold f_rpg_j3 rowsO
  rw [if_pos (by omega),some_bind]
  have:=page_rows (n:=n) (y1:=(toU64 x.kind,⟨lePut (toU64 (x.rows.length:Int)) 1++(encRefB ⟨x.npage,x.ntag⟩++(x.rows.map encRowB).flatten),false⟩)) (y9:=0) (y10:=0) (y11:=0) (l3:=[]) (y16:=(⟨x.npage,x.ntag⟩,⟨(x.rows.map encRowB).flatten,false⟩)) (y17:=x.ntag) x.rows.length h5 x.rows [] (by simp) (rightR_txt h6) n (by omega)
  simp only [e1,List.nil_append,List.length_nil,hx] at this ⊢
  exact this
  obtain ⟨hk2,h1,h2,h3,h4,h5,h6,h7,h8⟩:=pageOk_inner h hk
  have hlev:x.lev≤31:=by
   unfold cellOk at h7
   cases hc:decide (x.lev<0)||decide (31<x.lev) with
   | true=>simp only [hc,cond_true] at h7;cases h7
   | false=>
    simp only [Bool.or_eq_false_iff,decide_eq_false_iff_not] at hc
    omega
  obtain ⟨L,hL⟩:∃L:Nat,x.lev=(L:Int):=⟨x.lev.toNat,by omega⟩
  rw [get1 (by rw [hk2];decide),some_bind,show decide (x.kind=2)=true by rw [hk2];rfl,cond_true,get1 (by rw [toU64_nat (by omega)];omega),some_bind,ret_eq]
  simp only
  have e1:wI ((toU64 x.kind).toNat:Int)=2:=by rw [hk2];rfl
  rw [e1,show decide ((2:Int)=2)=true from rfl,cond_true,get1 (by rw [hL,toU64_nat (by omega)];omega),some_bind,get4 (by have:=x.cx.toNat_lt;simp;omega),some_bind,get4 (by have:=x.cy.toNat_lt;simp;omega),some_bind,toU64_nat (by omega),wI_eq (by omega) (by omega)]
  have:=page_kids (y1:=(toU64 x.kind,⟨lePut (toU64 (x.kids.length:Int)) 1++(lePut (toU64 x.lev) 1++(lePut x.cx.toUInt64 4++(lePut x.cy.toUInt64 4++(x.kids.map encRefB).flatten))),false⟩)) (y12:=(toU64 x.lev,⟨lePut x.cx.toUInt64 4++(lePut x.cy.toUInt64 4++(x.kids.map encRefB).flatten),false⟩)) (y13:=(x.cx.toUInt64,⟨lePut x.cy.toUInt64 4++(x.kids.map encRefB).flatten,false⟩)) (y14:=(x.cy.toUInt64,⟨(x.kids.map encRefB).flatten,false⟩)) x.kids.length h6 x.kids [] (by simp) h1 n (by omega)
  have hx:(⟨2,x.cx,x.cy,x.lev,[],x.kids,0,[]⟩:PageA)=x:=by
   cases x
   simp only at h2 h3 h4 hk2
   rw [h2,h3,h4,hk2]
  have e2:wI ((toU64 x.lev).toNat:Int)=x.lev:=by rw [hL,toU64_nat (by omega),wI_eq (by omega) (by omega)]
  simp only [e1,e2,List.nil_append,List.length_nil,UInt32.toUInt32_toUInt64,hx] at this ⊢
  exact this
 unfold f_rows_Decode
 rw [key,some_bind]
 have hl:x.rows.length≤4∧x.kids.length≤4:=by
  by_cases hk:x.kind=1
  obtain ⟨h1,h2,h3,h4,h5,h6,h7⟩:=pageOk_leaf h hk
  rw [h4]
  exact ⟨h5,by simp⟩
  obtain ⟨hk2,h1,h2,h3,h4,h5,h6,h7,h8⟩:=pageOk_inner h hk
  rw [h2]
  exact ⟨by simp,h6⟩
 rw [pageRight_eq x (by omega) (by omega) (by omega) (by omega),some_bind,h]
 rfl
end Go.Proofs.YtkibffdipniemaaGreatDoor

/- Plain laws of cells and of the least cell around rows. No program in sight. Condition: rounds enough. -/
namespace Go.Proofs.YtkibffdipniemaaGreatDoor
open Go

/-! ### How many bits a number has -/
def bl (n:Nat):Nat:=if n=0 then 0 else Nat.log2 n+1
theorem bl_lt (n:Nat):n<2^bl n:=by
 unfold bl
 split
 rename_i h;subst h;simp
 exact Nat.lt_log2_self
theorem bl_le {n k:Nat} (h:n<2^k):bl n≤k:=by
 unfold bl
 split
 omega
 rename_i h0
 exact (Nat.log2_lt h0).2 h
theorem bl_ge {n:Nat} (h:0<bl n):2^(bl n-1)≤n:=by
 rcases Nat.lt_or_ge n (2^(bl n-1)) with h1 | h1
 have:=bl_le h1
 omega
 exact h1
theorem bl_uniq {n L:Nat} (h1:n<2^L) (h2:L=0∨2^(L-1)≤n):bl n=L:=by
 have a:=bl_le h1
 rcases h2 with h2 | h2
 omega
 rcases Nat.lt_or_ge (bl n) L with h | h
 have h3:2^bl n≤2^(L-1):=Nat.pow_le_pow_right (by decide) (by omega)
 have h4:=bl_lt n
 omega
 omega
theorem bl_shift {n k:Nat} (h:2^k≤n):bl n=k+bl (n / 2^k):=by
 have hp:=Nat.two_pow_pos k
 have h0:0<n / 2^k:=Nat.div_pos h hp
 have hb:0<bl (n / 2^k):=by
  unfold bl
  rw [if_neg (by omega)]
  omega
 refine bl_uniq ?_ (.inr ?_)
 rw [Nat.pow_add]
 have:=bl_lt (n / 2^k)
 rw [Nat.mul_comm]
 exact (Nat.div_lt_iff_lt_mul hp).1 this
 have:=bl_ge hb
 rw [show k+bl (n / 2^k)-1=k+(bl (n / 2^k)-1) by omega,Nat.pow_add]
 calc 2^k*2^(bl (n / 2^k)-1)≤2^k*(n / 2^k):=Nat.mul_le_mul_left _ this
  _≤n:=Nat.mul_div_le _ _
def lenTab:List UInt8:=[0,1,2,2,3,3,3,3,4,4,4,4,4,4,4,4,5,5,5,5,5,5,5,5,5,5,5,5,5,5,5,5]++List.replicate 32 6++List.replicate 64 7++List.replicate 128 8
theorem tab_eq:∀b:Fin 256,lenTab[b.val]? = some (UInt8.ofNat (bl b.val)):=by decide +kernel
set_option maxRecDepth 100000 in
theorem len_j2 (a:UInt32) (ha:a.toNat<256) (k:Nat) (hk:k≤24):f_l32_j2 a (k:Int)=some ((k+bl a.toNat:Nat):Int):=by
 have hb:a.toUInt8.toNat=a.toNat:=by
  rw [UInt32.toNat_toUInt8]
  omega
 have h8:bl a.toNat≤8:=bl_le (by omega)
 unfold f_l32_j2
 have ht:nthI lenTab (a.toUInt8.toNat:Int)=some (UInt8.ofNat (bl a.toNat)):=by
  rw [nthI_nat,hb]
  exact tab_eq ⟨a.toNat,ha⟩
 refine (congrArg (fun x=>Option.bind x _) (show nthI _ _=some (UInt8.ofNat (bl a.toNat)) from ht)).trans ?_
 rw [some_bind,ret_eq]
 have:(UInt8.ofNat (bl a.toNat)).toNat=bl a.toNat:=by simp;omega
 rw [this,wI_eq (by omega) (by omega)]
 rfl
theorem shr32_nat (n:UInt32) (k:Nat) (h:k≤32):(shr32 n k).toNat=n.toNat / 2^k:=by
 have h1:=n.toNat_lt
 simp only [shr32,UInt32.toNat_ofNat',Nat.min_eq_left h]
 exact Nat.mod_eq_of_lt (Nat.lt_of_le_of_lt (Nat.div_le_self _ _) h1)
theorem len_j1 (a:UInt32) (ha:a.toNat<65536) (k:Nat) (hk:k≤16):f_l32_j1 a (k:Int)=some ((k+bl a.toNat:Nat):Int):=by
 unfold f_l32_j1
 by_cases h:256≤a.toNat
 rw [decide_eq_true (show (256:UInt32)≤a by rw [UInt32.le_iff_toNat_le];exact h),cond_true,ret_eq,ret_eq,wI_eq (by omega) (by omega)]
 have hs:=shr32_nat a 8 (by decide)
 have:=len_j2 (shr32 a 8) (by rw [hs];omega) (k+8) (by omega)
 rw [show (k:Int)+8=((k+8:Nat):Int) by omega,this,hs]
 have hb:=bl_shift (n:=a.toNat) (k:=8) (by omega)
 congr 2
 omega
 rw [decide_eq_false (show ¬(256:UInt32)≤a by rw [UInt32.le_iff_toNat_le];exact h),cond_false]
 exact len_j2 a (by omega) k (by omega)
theorem len32_eq (a:UInt32):f_l32 a=some ((bl a.toNat:Nat):Int):=by
 have h32:=a.toNat_lt
 unfold f_l32
 by_cases h:65536≤a.toNat
 rw [decide_eq_true (show (65536:UInt32)≤a by rw [UInt32.le_iff_toNat_le];exact h),cond_true,ret_eq]
 have hs:=shr32_nat a 16 (by decide)
 have:=len_j1 (shr32 a 16) (by rw [hs];omega) 16 (by omega)
 rw [show ((16:Nat):Int)=16 from rfl] at this
 rw [this,hs]
 have hb:=bl_shift (n:=a.toNat) (k:=16) (by omega)
 congr 2
 omega
 rw [decide_eq_false (show ¬(65536:UInt32)≤a by rw [UInt32.le_iff_toNat_le];exact h),cond_false]
 have:=len_j1 a (by omega) 0 (by omega)
 rw [show ((0:Nat):Int)=0 from rfl,Nat.zero_add] at this
 exact this
/-! ### Low bits -/
theorem xor_lt_iff {a b L:Nat}:a ^^^ b<2^L↔a / 2^L=b / 2^L:=by
 constructor
 intro h
 have h1:(a ^^^ b) / 2^L=0:=Nat.div_eq_of_lt h
 have h2:(a / 2^L) ^^^ (b / 2^L)=0:=by rw [←Nat.xor_div_two_pow];exact h1
 calc a / 2^L=a / 2^L ^^^ (b / 2^L ^^^ b / 2^L):=by rw [Nat.xor_self,Nat.xor_zero]
  _=b / 2^L:=by rw [←Nat.xor_assoc,h2,Nat.zero_xor]
 intro h
 have h2:(a ^^^ b) / 2^L=0:=by rw [Nat.xor_div_two_pow,h,Nat.xor_self]
 exact (Nat.div_eq_zero_iff_lt (Nat.two_pow_pos L)).1 h2
theorem or_lt_iff {a b L:Nat}:a ||| b<2^L↔a<2^L∧b<2^L:=by
 constructor
 intro h
 exact ⟨Nat.lt_of_le_of_lt Nat.left_le_or h,Nat.lt_of_le_of_lt Nat.right_le_or h⟩
 intro h
 exact Nat.or_lt_two_pow h.1 h.2
theorem shl32_one {L:Nat} (h:L≤31):(shl32 1 L).toNat=2^L:=by
 simp only [shl32,UInt32.toNat_ofNat',Nat.min_eq_left (show L≤32 by omega)]
 have:2^L≤2^31:=Nat.pow_le_pow_right (by decide) h
 rw [show (1:UInt32).toNat=1 from rfl,Nat.one_mul]
 exact Nat.mod_eq_of_lt (Nat.lt_of_le_of_lt this (by decide))
theorem low32 {L:Nat} (h:L≤31):(shl32 1 L-1).toNat=2^L-1:=by
 have h1:=shl32_one h
 have h2:=Nat.two_pow_pos L
 have h3:2^L≤2^31:=Nat.pow_le_pow_right (by decide) h
 rw [UInt32.toNat_sub_of_le _ _ (by rw [UInt32.le_iff_toNat_le,h1];exact h2),h1]
 rfl
theorem and_high {a L:Nat} (hL:L≤32) (ha:a<2^32):a &&& (2^32-2^L)=a / 2^L*2^L:=by
 apply Nat.eq_of_testBit_eq
 intro i
 have hp:=Nat.two_pow_pos L
 have hx:2^L-1<2^32:=by
  have:2^L≤2^32:=Nat.pow_le_pow_right (by decide) hL
  omega
 rw [Nat.testBit_and,show 2^32-2^L=2^32-((2^L-1)+1) by rw [Nat.sub_add_cancel hp],Nat.testBit_two_pow_sub_succ hx,Nat.testBit_two_pow_sub_one,Nat.testBit_mul_two_pow,Nat.testBit_div_two_pow]
 by_cases h1:i<L
 rw [decide_eq_true h1,decide_eq_false (show ¬L≤i by omega)]
 simp
 rw [decide_eq_false h1,decide_eq_true (show L≤i by omega),Nat.sub_add_cancel (by omega)]
 by_cases h2:i<32
 rw [decide_eq_true h2];simp
 rw [Nat.testBit_lt_two_pow (Nat.lt_of_lt_of_le ha (Nat.pow_le_pow_right (by decide) (by omega)))]
 simp
theorem high32 (a:UInt32) {L:Nat} (h:L≤31):(a &&& ~~~(shl32 1 L-1)).toNat=a.toNat / 2^L*2^L:=by
 have h1:=low32 h
 have h2:=Nat.two_pow_pos L
 rw [UInt32.toNat_and,UInt32.toNat_not,h1,show UInt32.size-1-(2^L-1)=2^32-2^L by
  show 4294967296-1-(2^L-1)=4294967296-2^L
  omega]
 exact and_high (by omega) a.toNat_lt
theorem around_eq (x y:UInt32) {L:Nat} (h:L≤31):f_cell_around x y (L:Int)=some ⟨x &&& ~~~(shl32 1 L-1),y &&& ~~~(shl32 1 L-1),L⟩:=by
 unfold f_cell_around shN
 rw [if_pos (by omega),some_bind,ret_eq]
 rfl
/-! ### The least cell of two points -/
theorem least_eq {x y u v:UInt32} (hx:x.toNat<2147483648) (hy:y.toNat<2147483648) (hu:u.toNat<2147483648) (hv:v.toNat<2147483648):
  ∃L:Nat,L≤31∧f_cell_Least x y u v=some (⟨x &&& ~~~(shl32 1 L-1),y &&& ~~~(shl32 1 L-1),L⟩,0)∧x.toNat / 2^L=u.toNat / 2^L∧y.toNat / 2^L=v.toNat / 2^L∧
   (0<L→x.toNat / 2^(L-1)≠u.toNat / 2^(L-1)∨y.toNat / 2^(L-1)≠v.toNat / 2^(L-1)):=by
 have hn:((x ^^^ u) ||| (y ^^^ v)).toNat=(x.toNat ^^^ u.toNat) ||| (y.toNat ^^^ v.toNat):=by rw [UInt32.toNat_or,UInt32.toNat_xor,UInt32.toNat_xor]
 have hk:∀L,((x ^^^ u) ||| (y ^^^ v)).toNat<2^L↔x.toNat / 2^L=u.toNat / 2^L∧y.toNat / 2^L=v.toNat / 2^L:=fun L=>by
  rw [hn,or_lt_iff,xor_lt_iff,xor_lt_iff]
 have h31:((x ^^^ u) ||| (y ^^^ v)).toNat<2^31:=(hk 31).2 ⟨by omega,by omega⟩
 have hL:=bl_le h31
 obtain ⟨e1,e2⟩:=(hk _).1 (bl_lt ((x ^^^ u) ||| (y ^^^ v)).toNat)
 refine ⟨bl ((x ^^^ u) ||| (y ^^^ v)).toNat,hL,?_,e1,e2,fun h0=>?_⟩
 unfold f_cell_Least
 have hm:decide (2147483648≤max (max (max x y) u) v)=false:=by
  rw [decide_eq_false_iff_not,UInt32.le_iff_toNat_le,u32_max,u32_max,u32_max]
  show ¬(2147483648≤_)
  omega
 rw [hm,cond_false,len32_eq,some_bind,around_eq x y hL,some_bind,around_eq u v hL,some_bind]
 have ex:x &&& ~~~(shl32 1 (bl ((x ^^^ u) ||| (y ^^^ v)).toNat)-1)=u &&& ~~~(shl32 1 (bl ((x ^^^ u) ||| (y ^^^ v)).toNat)-1):=UInt32.toNat_inj.1 (by rw [high32 x hL,high32 u hL,e1])
 have ey:y &&& ~~~(shl32 1 (bl ((x ^^^ u) ||| (y ^^^ v)).toNat)-1)=v &&& ~~~(shl32 1 (bl ((x ^^^ u) ||| (y ^^^ v)).toNat)-1):=UInt32.toNat_inj.1 (by rw [high32 y hL,high32 v hL,e2])
 simp only [ex,ey,decide_true,Bool.and_self,Bool.not_true,cond_false]
 have hge:=bl_ge h0
 have:¬((x ^^^ u) ||| (y ^^^ v)).toNat<2^(bl ((x ^^^ u) ||| (y ^^^ v)).toNat-1):=by omega
 rw [hk] at this
 exact Classical.not_and_iff_not_or_not.1 this
end Go.Proofs.YtkibffdipniemaaGreatDoor

/- Plain laws of the tree of rows: what quad.Build answers. No program in sight. Condition: at most a thousand rows, and rounds enough. -/
namespace Go.Proofs.YtkibffdipniemaaGreatDoor
open Go

def qd (L:Nat) (r:RowA):Nat:=(r.x.toNat / 2^(L-1))%2+2*((r.y.toNat / 2^(L-1))%2)
structure AR (c:CellA) (l:List RowA) (L:Nat):Prop where
 lev:c.lev=(L:Int)
 le:L≤31
 cx:c.x.toNat%2^L=0
 cy:c.y.toNat%2^L=0
 lx:c.x.toNat<2147483648
 ly:c.y.toNat<2147483648
 inn:∀r∈l,r.x.toNat / 2^L=c.x.toNat / 2^L∧r.y.toNat / 2^L=c.y.toNat / 2^L
 two:0<L→∃r∈l,∃s∈l,qd L r≠qd L s
theorem rowOk_lt {r:RowA} (h:rowOk r=true):r.x.toNat<2147483648∧r.y.toNat<2147483648∧r.txt.length≤16:=by
 unfold rowOk at h
 simp only [Bool.and_eq_true,decide_eq_true_eq] at h
 have:=UInt32.lt_iff_toNat_lt.1 h.1
 rw [u32_max] at this
 have h2:max r.x.toNat r.y.toNat<2147483648:=this
 omega
theorem div_half {a L:Nat} (h:0<L):a / 2^(L-1) / 2=a / 2^L:=by
 rw [Nat.div_div_eq_div_mul,←Nat.pow_succ,Nat.succ_eq_add_one,Nat.sub_add_cancel h]
theorem around_spec {n:Nat} {l:List RowA} (hl:l≠[]) (hn:l.length<n) (hb:l.length≤1000000) (ok:∀r∈l,rowOk r=true):∃c L,f_quad_around n l=some c∧AR c l L:=by
 have key:∀(T S:List RowA) (x y u v:UInt32),l=S++T→(∀r∈S,x.toNat≤r.x.toNat∧r.x.toNat≤u.toNat∧y.toNat≤r.y.toNat∧r.y.toNat≤v.toNat)→(∃r∈l,r.x=x)→(∃r∈l,r.y=y)→(∃r∈l,r.x=u)→(∃r∈l,r.y=v)→
   ∀m,T.length<m→∃c L,f_quad_around_l1 l m (x,y,u,v,(S.length:Int))=some c∧AR c l L:=by
  intro T
  induction T with
  | nil=>
   intro S x y u v hS hin hx hy hu hv m hm
   obtain ⟨m,rfl⟩:∃k,m=k+1:=⟨m-1,by omega⟩
   simp only [List.append_nil] at hS
   subst hS
   obtain ⟨rx,hrx,ex⟩:=hx
   obtain ⟨ry,hry,ey⟩:=hy
   obtain ⟨ru,hru,eu⟩:=hu
   obtain ⟨rv,hrv,ev⟩:=hv
   have lx:=(rowOk_lt (ok rx hrx)).1
   have ly:=(rowOk_lt (ok ry hry)).2.1
   have lu:=(rowOk_lt (ok ru hru)).1
   have lv:=(rowOk_lt (ok rv hrv)).2.1
   rw [ex] at lx
   rw [ey] at ly
   rw [eu] at lu
   rw [ev] at lv
   obtain ⟨L,hL,hle,d1,d2,d3⟩:=least_eq lx ly lu lv
   have hp:=Nat.two_pow_pos L
   have hcx:=high32 x hL
   have hcy:=high32 y hL
   refine ⟨⟨x &&& ~~~(shl32 1 L-1),y &&& ~~~(shl32 1 L-1),L⟩,L,?_,⟨rfl,hL,?_,?_,?_,?_,fun r hr=>?_,fun h0=>?_⟩⟩
   show f_quad_around_l1_b l (f_quad_around_l1 l m) _ _ _ _ _=_
   unfold f_quad_around_l1_b
   dsimp only
   rw [decide_eq_false (by omega),cond_false]
   unfold f_quad_around_j1
   rw [hle,some_bind]
   show (x &&& ~~~(shl32 1 L-1)).toNat%2^L=0
   rw [hcx]
   exact Nat.mul_mod_left _ _
   show (y &&& ~~~(shl32 1 L-1)).toNat%2^L=0
   rw [hcy]
   exact Nat.mul_mod_left _ _
   show (x &&& ~~~(shl32 1 L-1)).toNat<_
   rw [hcx]
   exact Nat.lt_of_le_of_lt (Nat.div_mul_le_self _ _) lx
   show (y &&& ~~~(shl32 1 L-1)).toNat<_
   rw [hcy]
   exact Nat.lt_of_le_of_lt (Nat.div_mul_le_self _ _) ly
   show r.x.toNat / 2^L=(x &&& ~~~(shl32 1 L-1)).toNat / 2^L∧r.y.toNat / 2^L=(y &&& ~~~(shl32 1 L-1)).toNat / 2^L
   rw [hcx,hcy,Nat.mul_div_cancel _ hp,Nat.mul_div_cancel _ hp]
   obtain ⟨a1,a2,a3,a4⟩:=hin r hr
   have b1:=Nat.div_le_div_right (c:=2^L) a1
   have b2:=Nat.div_le_div_right (c:=2^L) a2
   have b3:=Nat.div_le_div_right (c:=2^L) a3
   have b4:=Nat.div_le_div_right (c:=2^L) a4
   omega
   have g1:=div_half (a:=x.toNat) h0
   have g2:=div_half (a:=u.toNat) h0
   have g3:=div_half (a:=y.toNat) h0
   have g4:=div_half (a:=v.toNat) h0
   rcases d3 h0 with d | d
   refine ⟨rx,hrx,ru,hru,fun e=>?_⟩
   unfold qd at e
   rw [ex,eu] at e
   omega
   refine ⟨ry,hry,rv,hrv,fun e=>?_⟩
   unfold qd at e
   rw [ey,ev] at e
   omega
  | cons r T ih=>
   intro S x y u v hS hin hx hy hu hv m hm
   obtain ⟨m,rfl⟩:∃k,m=k+1:=⟨m-1,by omega⟩
   have hlen:l.length=S.length+(T.length+1):=by rw [hS];simp
   have hr:r∈l:=by rw [hS];simp
   have n1:nthI l (S.length:Int)=some r:=by
    rw [nthI_of rfl,hS]
    simp
   have hmin:∀a b:UInt32,min a b=a∨min a b=b:=fun a b=>by
    show (if a≤b then a else b)=a∨(if a≤b then a else b)=b
    split
    exact .inl rfl
    exact .inr rfl
   have hmax:∀a b:UInt32,max a b=a∨max a b=b:=fun a b=>by
    show (if a≤b then b else a)=a∨(if a≤b then b else a)=b
    split
    exact .inr rfl
    exact .inl rfl
   obtain ⟨c,L,hc,hA⟩:=ih (S++[r]) (min x r.x) (min y r.y) (max u r.x) (max v r.y) (by rw [hS];simp) (fun q hq=>by
    rw [u32_min,u32_min,u32_max,u32_max]
    rcases List.mem_append.1 hq with hq | hq
    have:=hin q hq
    omega
    rw [List.mem_singleton.1 hq]
    omega) (by
    rcases hmin x r.x with e | e<;>rw [e]
    exact hx
    exact ⟨r,hr,rfl⟩) (by
    rcases hmin y r.y with e | e<;>rw [e]
    exact hy
    exact ⟨r,hr,rfl⟩) (by
    rcases hmax u r.x with e | e<;>rw [e]
    exact hu
    exact ⟨r,hr,rfl⟩) (by
    rcases hmax v r.y with e | e<;>rw [e]
    exact hv
    exact ⟨r,hr,rfl⟩) m (by simp at hm;omega)
   refine ⟨c,L,?_,hA⟩
   show f_quad_around_l1_b l (f_quad_around_l1 l m) _ _ _ _ _=_
   unfold f_quad_around_l1_b
   dsimp only
   rw [decide_eq_true (by omega),cond_true,n1,some_bind,ret_eq,ret_eq,ret_eq,ret_eq,wI_eq (by omega) (by omega)]
   rw [show ((S++[r]).length:Int)=(S.length:Int)+1 by simp only [List.length_append,List.length_singleton];omega] at hc
   exact hc
 obtain ⟨r0,l0,rfl⟩:∃r0 l0,l=r0::l0:=by
  cases l with
  | nil=>exact absurd rfl hl
  | cons r0 l0=>exact ⟨r0,l0,rfl⟩
 obtain ⟨c,L,hc,hA⟩:=key (r0::l0) [] r0.x r0.y r0.x r0.y rfl (by simp) ⟨r0,by simp,rfl⟩ ⟨r0,by simp,rfl⟩ ⟨r0,by simp,rfl⟩ ⟨r0,by simp,rfl⟩ n hn
 refine ⟨c,L,?_,hA⟩
 unfold f_quad_around
 have n0:nthI (r0::l0) 0=some r0:=rfl
 rw [n0,some_bind,some_bind,some_bind,some_bind]
 exact hc
/-! ### Quarters -/
theorem size_eq {c:CellA} {L:Nat} (h:c.lev=(L:Int)):f_cell_size c=some (shl64 1 L):=by
 unfold f_cell_size shN
 rw [h,if_pos (by omega),some_bind,ret_eq]
 rfl
theorem shl64_one {L:Nat} (h:L≤31):(shl64 1 L).toNat=2^L:=by
 simp only [shl64,UInt64.toNat_ofNat',Nat.min_eq_left (show L≤64 by omega)]
 have:2^L≤2^31:=Nat.pow_le_pow_right (by decide) h
 rw [show (1:UInt64).toNat=1 from rfl,Nat.one_mul]
 exact Nat.mod_eq_of_lt (Nat.lt_of_le_of_lt this (by decide))
theorem far32 {L:Nat} (h:L≤31):(shl64 1 L-1).toUInt32.toNat=2^L-1:=by
 have h1:=shl64_one h
 have h2:=Nat.two_pow_pos L
 have h3:2^L≤2^31:=Nat.pow_le_pow_right (by decide) h
 rw [UInt64.toNat_toUInt32,UInt64.toNat_sub_of_le _ _ (by rw [UInt64.le_iff_toNat_le,h1];exact h2),h1]
 show (2^L-1)%4294967296=_
 exact Nat.mod_eq_of_lt (by omega)
theorem cellOk_of {c:CellA} {L:Nat} (h:c.lev=(L:Int)) (hL:L≤31) (hx:c.x.toNat%2^L=0) (hy:c.y.toNat%2^L=0) (lx:c.x.toNat<2147483648) (ly:c.y.toNat<2147483648):cellOk c=true:=by
 unfold cellOk
 rw [h,show (decide ((L:Int)<0)||decide (31<(L:Int)))=false by simp;omega,cond_false,Int.toNat_natCast,Bool.and_eq_true,decide_eq_true_eq,decide_eq_true_eq]
 constructor
 apply UInt32.toNat_inj.1
 rw [UInt32.toNat_and,far32 hL,UInt32.toNat_or,Nat.and_two_pow_sub_one_eq_mod,Nat.or_mod_two_pow,hx,hy]
 rfl
 rw [UInt32.lt_iff_toNat_lt,u32_max]
 show max _ _<2147483648
 omega
theorem AR.ok {c:CellA} {l:List RowA} {L:Nat} (A:AR c l L):cellOk c=true:=cellOk_of A.lev A.le A.cx A.cy A.lx A.ly
theorem mul_lim {a P:Nat} (hP:a%P=0) (ha:a<2147483648) (hd:∃k,k*P=2147483648):a+P≤2147483648:=by
 obtain ⟨k,hk⟩:=hd
 have h1:a=a / P*P:=by
  have:=Nat.div_add_mod a P
  rw [hP,Nat.add_zero,Nat.mul_comm] at this
  exact this.symm
 have h2:a / P<k:=by
  rcases Nat.lt_or_ge (a / P) k with h | h
  exact h
  have:=Nat.mul_le_mul_right P h
  omega
 have h3:(a / P+1)*P≤k*P:=Nat.mul_le_mul_right P h2
 rw [Nat.add_mul,Nat.one_mul] at h3
 omega
theorem pow_dvd31 {L:Nat} (h:L≤31):∃k,k*2^L=2147483648:=⟨2^(31-L),by rw [←Nat.pow_add,Nat.sub_add_cancel h]⟩
theorem in_cell {a q P:Nat} (hP:0<P) (hq:q%P=0):(q≤a∧a≤q+(P-1))↔a / P=q / P:=by
 have h1:q=q / P*P:=by
  have:=Nat.div_add_mod q P
  rw [hq,Nat.add_zero,Nat.mul_comm] at this
  exact this.symm
 have h2:=Nat.div_add_mod a P
 have h3:=Nat.mod_lt a hP
 constructor
 rintro ⟨g1,g2⟩
 have g3:q / P≤a / P:=Nat.div_le_div_right g1
 have g4:a / P<q / P+1:=by
  refine (Nat.div_lt_iff_lt_mul hP).2 ?_
  rw [Nat.add_mul,Nat.one_mul,←h1]
  omega
 omega
 intro g
 rw [g,Nat.mul_comm,←h1] at h2
 omega
theorem cellHas_eq {q:CellA} {M:Nat} (x y:UInt32) (h:q.lev=(M:Int)) (hM:M≤31) (hx:q.x.toNat%2^M=0) (hy:q.y.toNat%2^M=0) (lx:q.x.toNat<2147483648) (ly:q.y.toNat<2147483648):
  f_cell_Has q x y=some (decide (x.toNat / 2^M=q.x.toNat / 2^M)&&decide (y.toNat / 2^M=q.y.toNat / 2^M)):=by
 have hp:=Nat.two_pow_pos M
 have mx:=mul_lim hx lx (pow_dvd31 hM)
 have my:=mul_lim hy ly (pow_dvd31 hM)
 have hf:=far32 hM
 have ex:(q.x+(shl64 1 M-1).toUInt32).toNat=q.x.toNat+(2^M-1):=by rw [UInt32.toNat_add,hf];omega
 have ey:(q.y+(shl64 1 M-1).toUInt32).toNat=q.y.toNat+(2^M-1):=by rw [UInt32.toNat_add,hf];omega
 unfold f_cell_Has
 rw [cellRight_eq,cellOk_of h hM hx hy lx ly,some_bind]
 unfold f_cell_all f_cell_In f_cell_RightBox
 rw [size_eq h]
 simp only [some_bind,ret_eq,andO,cond_true]
 congr 1
 rw [Bool.eq_iff_iff]
 simp only [Bool.and_eq_true,decide_eq_true_eq,UInt32.le_iff_toNat_le,UInt32.lt_iff_toNat_lt,u32_max,ex,ey,←in_cell hp hx,←in_cell hp hy]
 constructor
 rintro ⟨⟨⟨⟨_,h1⟩,h2⟩,h3⟩,h4⟩
 exact ⟨⟨h1,h2⟩,h3,h4⟩
 rintro ⟨⟨h1,h2⟩,h3,h4⟩
 refine ⟨⟨⟨⟨⟨⟨by omega,by omega⟩,?_⟩,h1⟩,h2⟩,h3⟩,h4⟩
 show max _ _<2147483648
 omega
theorem where_eq {c:CellA} {l:List RowA} {L:Nat} (A:AR c l L) (h0:0<L) {r:RowA} (hr:r∈l):f_cell_Where c r.x r.y=some ((qd L r:Int),0):=by
 have hL:=A.le
 have hp:=Nat.two_pow_pos (L-1)
 obtain ⟨i1,i2⟩:=A.inn r hr
 have mx:=mul_lim A.cx A.lx (pow_dvd31 hL)
 have my:=mul_lim A.cy A.ly (pow_dvd31 hL)
 have e2:2^L=2^(L-1)*2:=by rw [←Nat.pow_succ,Nat.succ_eq_add_one,Nat.sub_add_cancel h0]
 have hh:(shl64 1 L / 2).toUInt32.toNat=2^(L-1):=by
  rw [UInt64.toNat_toUInt32,UInt64.toNat_div,shl64_one hL,show (2:UInt64).toNat=2 from rfl,e2,Nat.mul_div_cancel _ (by decide)]
  show _%4294967296=_
  have:2^(L-1)≤2^31:=Nat.pow_le_pow_right (by decide) (by omega)
  exact Nat.mod_eq_of_lt (by omega)
 have hx2:c.x.toNat%2^(L-1)=0:=by
  have:=A.cx
  rw [e2] at this
  rw [←Nat.mod_mul_right_mod c.x.toNat (2^(L-1)) 2,this]
  simp
 have hy2:c.y.toNat%2^(L-1)=0:=by
  have:=A.cy
  rw [e2] at this
  rw [←Nat.mod_mul_right_mod c.y.toNat (2^(L-1)) 2,this]
  simp
 have gx:=div_half (a:=c.x.toNat) h0
 have gy:=div_half (a:=c.y.toNat) h0
 have rx:=div_half (a:=r.x.toNat) h0
 have ry:=div_half (a:=r.y.toNat) h0
 have cxe:c.x.toNat / 2^(L-1)%2=0:=by
  have:=A.cx
  rw [e2,Nat.mod_mul] at this
  have h5:2^(L-1)*(c.x.toNat / 2^(L-1)%2)=0:=by omega
  rcases Nat.mul_eq_zero.1 h5 with h6 | h6
  omega
  exact h6
 have cye:c.y.toNat / 2^(L-1)%2=0:=by
  have:=A.cy
  rw [e2,Nat.mod_mul] at this
  have h5:2^(L-1)*(c.y.toNat / 2^(L-1)%2)=0:=by omega
  rcases Nat.mul_eq_zero.1 h5 with h6 | h6
  omega
  exact h6
 generalize hhd:(shl64 1 L / 2).toUInt32=hf at hh
 
 have c0:∀a:UInt32,(a+hf*0)=a:=fun a=>by simp
 have c1:∀a:UInt32,a.toNat+2^L≤2147483648→(a+hf*1).toNat=a.toNat+2^(L-1):=fun a ha=>by
  rw [UInt32.mul_one,UInt32.toNat_add,hh]
  rw [e2] at ha
  omega
 have m1:∀a:Nat,a%2^(L-1)=0→(a+2^(L-1))%2^(L-1)=0:=fun a ha=>by simp [ha]
 have d1:∀a:Nat,(a+2^(L-1)) / 2^(L-1)=a / 2^(L-1)+1:=fun a=>Nat.add_div_right a hp
 have hlev:wI (c.lev-1)=((L-1:Nat):Int):=by rw [A.lev,wI_eq (by omega) (by omega)];omega
 have hasq:∀(qx qy:UInt32) (bx by_:Nat),qx.toNat=c.x.toNat+bx*2^(L-1)→qy.toNat=c.y.toNat+by_*2^(L-1)→bx≤1→by_≤1→
   f_cell_Has ⟨qx,qy,((L-1:Nat):Int)⟩ r.x r.y=some (decide (r.x.toNat / 2^(L-1)%2=bx)&&decide (r.y.toNat / 2^(L-1)%2=by_)):=by
  intro qx qy bx by_ e1 e3 hbx hby
  have hxm:qx.toNat%2^(L-1)=0:=by
   rw [e1,Nat.add_mul_mod_self_right]
   exact hx2
  have hym:qy.toNat%2^(L-1)=0:=by
   rw [e3,Nat.add_mul_mod_self_right]
   exact hy2
  have bxl:bx*2^(L-1)≤2^(L-1):=by
   calc bx*2^(L-1)≤1*2^(L-1):=Nat.mul_le_mul_right _ hbx
    _=2^(L-1):=Nat.one_mul _
  have byl:by_*2^(L-1)≤2^(L-1):=by
   calc by_*2^(L-1)≤1*2^(L-1):=Nat.mul_le_mul_right _ hby
    _=2^(L-1):=Nat.one_mul _
  rw [cellHas_eq (M:=L-1) r.x r.y rfl (by omega) hxm hym (by rw [e1];omega) (by rw [e3];omega)]
  have f1:qx.toNat / 2^(L-1)=c.x.toNat / 2^(L-1)+bx:=by rw [e1];exact Nat.add_mul_div_right _ _ hp
  have f2:qy.toNat / 2^(L-1)=c.y.toNat / 2^(L-1)+by_:=by rw [e3];exact Nat.add_mul_div_right _ _ hp
  congr 2
  rw [decide_eq_decide]
  show r.x.toNat / 2^(L-1)=qx.toNat / 2^(L-1)↔_
  rw [f1]
  omega
  rw [decide_eq_decide]
  show r.y.toNat / 2^(L-1)=qy.toNat / 2^(L-1)↔_
  rw [f2]
  omega
 unfold f_cell_Where quartO quartersO
 rw [some_bind,cellRight_eq,A.ok,some_bind,show (!true||decide (c.lev=0))=false by rw [A.lev];simp;omega,cond_false,size_eq A.lev,some_bind]
 have hq:quo64 (shl64 1 L) 2=some (shl64 1 L / 2):=by
  unfold quo64
  rw [if_neg (by decide)]
 rw [hq,some_bind,some_bind,hhd]
 unfold quartersL
 rw [hlev,c0,c0]
 have q00:=hasq c.x c.y 0 0 (by simp) (by simp) (by omega) (by omega)
 have q10:=hasq (c.x+hf*1) c.y 1 0 (by rw [c1 _ mx];omega) (by simp) (by omega) (by omega)
 have q01:=hasq c.x (c.y+hf*1) 0 1 (by simp) (by rw [c1 _ my];omega) (by omega) (by omega)
 have q11:=hasq (c.x+hf*1) (c.y+hf*1) 1 1 (by rw [c1 _ mx];omega) (by rw [c1 _ my];omega) (by omega) (by omega)
 unfold f_cell_Where_r1 qd
 simp only [rangeL,f_cell_Where_r1_b,q00,q10,q01,q11,some_bind]
 have bx:=Nat.mod_two_eq_zero_or_one (r.x.toNat / 2^(L-1))
 have by_:=Nat.mod_two_eq_zero_or_one (r.y.toNat / 2^(L-1))
 rcases bx with bx | bx<;>rcases by_ with by_ | by_<;>rw [bx,by_]<;>rfl
end Go.Proofs.YtkibffdipniemaaGreatDoor

/- Plain laws of the tree of rows: quad.tree, quad.Build. No program in sight. Condition: at most a thousand rows, and rounds enough. -/
namespace Go.Proofs.YtkibffdipniemaaGreatDoor
open Go

inductive All2 {α β:Type} (R:α→β→Prop):List α→List β→Prop
 | nil:All2 R [] []
 | cons {a b xs ys}:R a b→All2 R xs ys→All2 R (a::xs) (b::ys)
theorem All2.length {α β:Type} {R:α→β→Prop} {xs:List α} {ys:List β} (h:All2 R xs ys):xs.length=ys.length:=by
 induction h with
 | nil=>rfl
 | cons _ _ ih=>simp [ih]
def qparts (L:Nat) (l:List RowA):List (List RowA):=[l.filter fun r=>decide (qd L r=0),l.filter fun r=>decide (qd L r=1),l.filter fun r=>decide (qd L r=2),l.filter fun r=>decide (qd L r=3)]
def qlist (L:Nat) (l:List RowA):List (List RowA):=(qparts L l).filter fun p => !p.isEmpty
theorem qd_lt (L:Nat) (r:RowA):qd L r<4:=by
 unfold qd
 omega
theorem parts_eq {c:CellA} {l:List RowA} {L:Nat} (A:AR c l L) (h0:0<L):∀(T:List RowA) (p:P4),(∀r∈T,r∈l)→p.1.length+p.2.1.length+p.2.2.1.length+p.2.2.2.length+T.length≤100000→
  partsFrom c T p=some (p.1++T.filter (fun r=>decide (qd L r=0)),p.2.1++T.filter (fun r=>decide (qd L r=1)),p.2.2.1++T.filter (fun r=>decide (qd L r=2)),p.2.2.2++T.filter (fun r=>decide (qd L r=3)))
 | [],p,_,_=>by simp [partsFrom]
 | r::T,p,hT,hb=>by
  simp only [List.length_cons] at hb
  have hw:=where_eq A h0 (hT r (by simp))
  have h4:=qd_lt L r
  have ih:=fun p hp=>parts_eq A h0 T p (fun q hq=>hT q (by simp [hq])) hp
  unfold partsFrom partStep
  rw [hw,some_bind]
  dsimp only
  rcases (show qd L r=0∨qd L r=1∨qd L r=2∨qd L r=3 by omega) with e | e | e | e
  rw [e,if_pos (show ((0:Nat):Int)=0 from rfl),appL_eq (by simp;omega) (by simp;omega),some_bind,some_bind,ih _ (by simp;omega)]
  simp [e]
  rw [e,if_neg (by decide),if_pos (show ((1:Nat):Int)=1 from rfl),appL_eq (by simp;omega) (by simp;omega),some_bind,some_bind,ih _ (by simp;omega)]
  simp [e]
  rw [e,if_neg (by decide),if_neg (by decide),if_pos (show ((2:Nat):Int)=2 from rfl),appL_eq (by simp;omega) (by simp;omega),some_bind,some_bind,ih _ (by simp;omega)]
  simp [e]
  rw [e,if_neg (by decide),if_neg (by decide),if_neg (by decide),if_pos (show ((3:Nat):Int)=3 from rfl),appL_eq (by simp;omega) (by simp;omega),some_bind,some_bind,ih _ (by simp;omega)]
  simp [e]
theorem qparts_perm (L:Nat) (l:List RowA):(qparts L l).flatten.Perm l:=by
 unfold qparts
 simp only [List.flatten_cons,List.flatten_nil,List.append_nil]
 induction l with
 | nil=>exact List.Perm.refl _
 | cons r l ih=>
  have h4:=qd_lt L r
  rcases (show qd L r=0∨qd L r=1∨qd L r=2∨qd L r=3 by omega) with e | e | e | e<;>simp only [List.filter_cons,e,decide_true,if_true]<;>simp only [show decide ((0:Nat)=1)=false from rfl,show decide ((0:Nat)=2)=false from rfl,show decide ((0:Nat)=3)=false from rfl,show decide ((1:Nat)=0)=false from rfl,show decide ((1:Nat)=2)=false from rfl,show decide ((1:Nat)=3)=false from rfl,show decide ((2:Nat)=0)=false from rfl,show decide ((2:Nat)=1)=false from rfl,show decide ((2:Nat)=3)=false from rfl,show decide ((3:Nat)=0)=false from rfl,show decide ((3:Nat)=1)=false from rfl,show decide ((3:Nat)=2)=false from rfl,Bool.false_eq_true,if_false]
  all_goals
   refine List.perm_iff_count.2 fun x=>?_
   have:=List.perm_iff_count.1 ih x
   simp only [List.count_append,List.count_cons] at this ⊢
   omega
theorem flatten_nonempty (ps:List (List RowA)):(ps.filter fun p => !p.isEmpty).flatten=ps.flatten:=by
 induction ps with
 | nil=>rfl
 | cons p ps ih=>
  cases p with
  | nil=>simpa using ih
  | cons r p=>simp [ih]
theorem qlist_perm (L:Nat) (l:List RowA):(qlist L l).flatten.Perm l:=by
 unfold qlist
 rw [flatten_nonempty]
 exact qparts_perm L l
theorem qlist_mem {L:Nat} {l p:List RowA} (h:p∈qlist L l):p≠[]∧∃i,p=l.filter fun r=>decide (qd L r=i):=by
 unfold qlist at h
 obtain ⟨h1,h2⟩:=List.mem_filter.1 h
 refine ⟨by simpa using h2,?_⟩
 unfold qparts at h1
 simp only [List.mem_cons,List.not_mem_nil,or_false] at h1
 rcases h1 with rfl | rfl | rfl | rfl
 exact ⟨0,rfl⟩
 exact ⟨1,rfl⟩
 exact ⟨2,rfl⟩
 exact ⟨3,rfl⟩
theorem qlist_sub {L:Nat} {l p:List RowA} (h:p∈qlist L l):p.Sublist l:=by
 obtain ⟨_,i,rfl⟩:=qlist_mem h
 exact List.filter_sublist ..
theorem qlist_le4 (L:Nat) (l:List RowA):(qlist L l).length≤4:=by
 unfold qlist
 exact Nat.le_trans (List.length_filter_le ..) (Nat.le_refl 4)
theorem filter_in {L:Nat} {l:List RowA} {r:RowA} (h:r∈l):(l.filter fun s=>decide (qd L s=qd L r))∈qlist L l:=by
 have h4:=qd_lt L r
 unfold qlist
 refine List.mem_filter.2 ⟨?_,?_⟩
 unfold qparts
 rcases (show qd L r=0∨qd L r=1∨qd L r=2∨qd L r=3 by omega) with e | e | e | e<;>rw [e]<;>simp
 have:r∈l.filter fun s=>decide (qd L s=qd L r):=List.mem_filter.2 ⟨h,by simp⟩
 cases hx:l.filter fun s=>decide (qd L s=qd L r) with
 | nil=>rw [hx] at this;simp at this
 | cons a b=>rfl
theorem qlist_two {c:CellA} {l:List RowA} {L:Nat} (A:AR c l L) (h0:0<L):2≤(qlist L l).length∧∀p∈qlist L l,p.length<l.length:=by
 obtain ⟨r,hr,s,hs,hne⟩:=A.two h0
 have h1:=filter_in (L:=L) hr
 have h2:=filter_in (L:=L) hs
 have hd:(l.filter fun q=>decide (qd L q=qd L r))≠(l.filter fun q=>decide (qd L q=qd L s)):=by
  intro e
  have:r∈l.filter fun q=>decide (qd L q=qd L r):=List.mem_filter.2 ⟨hr,by simp⟩
  rw [e] at this
  have:=(List.mem_filter.1 this).2
  simp only [decide_eq_true_eq] at this
  exact hne this
 constructor
 rcases hq:qlist L l with _ | ⟨a,_ | ⟨b,q⟩⟩
 rw [hq] at h1;simp at h1
 rw [hq] at h1 h2
 simp only [List.mem_singleton] at h1 h2
 exact absurd (h1.trans h2.symm) hd
 simp
 intro p hp
 obtain ⟨_,i,rfl⟩:=qlist_mem hp
 have:∃q∈l,qd L q≠i:=by
  by_cases e:qd L r=i
  exact ⟨s,hs,fun e'=>hne (e.trans e'.symm)⟩
  exact ⟨r,hr,e⟩
 obtain ⟨q,hq,hqi⟩:=this
 rcases Nat.lt_or_ge (l.filter fun r=>decide (qd L r=i)).length l.length with h | h
 exact h
 have:=(List.filter_sublist (p:=fun r=>decide (qd L r=i)) (l:=l)).eq_of_length_le h
 have h5:=List.filter_eq_self.1 this q hq
 simp only [decide_eq_true_eq] at h5
 exact absurd h5 hqi
/-! ### Trees -/
def Tr:Nat→List RowA→NodeP→Prop
 | 0,_,_=>False
 | f+1,l,t=>(l=[]∧t=.mk 0 0 0 [] [])∨(l≠[]∧∃c L,AR c l L∧(((l.length≤4∨L=0)∧t=.mk c.x c.y c.lev l [])∨
   (4<l.length∧0<L∧∃ks,t=.mk c.x c.y c.lev [] ks∧All2 (Tr f) (qlist L l) ks)))
theorem kids_eq {rec_:List RowA→Option NodeP} {R:List RowA→NodeP→Prop}:∀(ps:List (List RowA)) (acc:List NodeP),(∀p∈ps,p≠[]→∃t,rec_ p=some t∧R p t)→acc.length+ps.length≤1000→∃ks,kidsFrom rec_ ps acc=some (acc++ks)∧All2 R (ps.filter fun p => !p.isEmpty) ks
 | [],acc,_,_=>⟨[],by simp [kidsFrom],.nil⟩
 | p::ps,acc,h,hb=>by
  simp only [List.length_cons] at hb
  unfold kidsFrom
  cases p with
  | nil=>
   obtain ⟨ks,h1,h2⟩:=kids_eq ps acc (fun q hq=>h q (by simp [hq])) (by omega)
   exact ⟨ks,by simpa using h1,by simpa using h2⟩
  | cons r p=>
   obtain ⟨t,ht,hR⟩:=h (r::p) (by simp) (by simp)
   obtain ⟨ks,h1,h2⟩:=kids_eq ps (acc++[t]) (fun q hq=>h q (by simp [hq])) (by simp;omega)
   refine ⟨t::ks,?_,?_⟩
   rw [decide_eq_true (by simp only [List.length_cons];omega),cond_true,ht,some_bind,appL_eq (by simp;omega) (by simp;omega),some_bind,h1]
   simp
   simp only [List.filter_cons,List.isEmpty_cons,Bool.not_false,if_true]
   exact .cons hR h2
theorem tree_eq {n:Nat}:∀(f:Nat) (l:List RowA),l.length<f→(∀r∈l,rowOk r=true)→l.length≤1000→l.length<n→∃t,treeF n f l=some t∧Tr f l t
 | 0,l,h,_,_,_=>by omega
 | f+1,l,h,ok,hb,hn=>by
  unfold treeF
  rw [if_neg (by omega)]
  by_cases hl:l=[]
  subst hl
  exact ⟨.mk 0 0 0 [] [],rfl,.inl ⟨rfl,rfl⟩⟩
  have hp:=List.length_pos_iff.2 hl
  obtain ⟨c,L,hc,A⟩:=around_spec hl hn (by omega) ok
  rw [decide_eq_false (by omega),cond_false,hc,some_bind]
  by_cases hleaf:l.length≤4∨L=0
  rw [show (decide ((l.length:Int)≤4)||decide (c.lev=0))=true by rw [A.lev];simp;omega,cond_true]
  unfold cloneO
  rw [appL_eq (by simp;omega) (by simp;omega),some_bind]
  exact ⟨_,rfl,.inr ⟨hl,c,L,A,.inl ⟨hleaf,rfl⟩⟩⟩
  have h0:0<L:=by omega
  rw [show (decide ((l.length:Int)≤4)||decide (c.lev=0))=false by rw [A.lev];simp;omega,cond_false,parts_eq A h0 l _ (fun r hr=>hr) (by simp;omega),some_bind]
  simp only [List.nil_append]
  obtain ⟨_,h2⟩:=qlist_two A h0
  obtain ⟨ks,h3,h4⟩:=kids_eq (rec_:=treeF n f) (R:=Tr f) (qparts L l) [] (fun p hp' hne=>by
   have hq:p∈qlist L l:=List.mem_filter.2 ⟨hp',by simpa using hne⟩
   have:=h2 p hq
   exact tree_eq f p (by omega) (fun r hr=>ok r ((qlist_sub hq).subset hr)) (by omega) (by omega)) (by simp [qparts])
  unfold qparts at h3
  rw [h3,some_bind]
  exact ⟨_,rfl,.inr ⟨hl,c,L,A,.inr ⟨by omega,h0,ks,by simp,h4⟩⟩⟩
theorem build_ok {n:Nat} {l:List RowA} (hn:1002≤n) (h:rightR l=true):∃t,buildF n l=some (t,0)∧treeF n n l=some t∧Tr n l t:=by
 have h':=h
 unfold rightR at h'
 simp only [Bool.and_eq_true,decide_eq_true_eq] at h'
 have hb:l.length≤1000:=by omega
 obtain ⟨t,h1,h2⟩:=tree_eq (n:=n) n l (by omega) (fun r hr=>List.all_eq_true.1 h'.1.1 r hr) hb (by omega)
 refine ⟨t,?_,h1,h2⟩
 unfold buildF
 rw [quadRight_eq l (by omega) (by omega),some_bind,h,Bool.not_true,cond_false,h1,some_bind]
theorem build_no {n:Nat} {l:List RowA} (hn:l.length<n) (hb:l.length≤1073741824) (h:rightR l=false):buildF n l=some (.mk 0 0 0 [] [],80):=by
 unfold buildF
 rw [quadRight_eq l hn hb,some_bind,h]
 rfl
end Go.Proofs.YtkibffdipniemaaGreatDoor

/- The engine: slices cut with a limit; pieces of a slice. No condition beyond those stated. -/
namespace Go.Proofs.YtkibffdipniemaaGreatDoor
open Go

variable {P:Program} {ro:Option Nat} {K:Nat→Prop} {w0:World} {N:Nat} {Q:Post} {D:List Nat} {l l':Tm} {H H' Hs:List Chunk} {ops:Array Oper} {items:Its}
variable {tk:Bool} {o:Oper} {t:Nat} {v:Value} {x y z u:Operand}

theorem SL.sl3 {b off n c sz:Nat} {k k' k'':IntKind} {i j m:Int} {ty e:TypeId} (p q:Nat) (ho:At ops N l o t (.slice ty x (some y) (some z) (some u))) (hty:P.underlying ty=some (.slice e)) (hsz:tsz P e=some sz) (hx:evl l x=some (.slice (some ⟨b,off,none⟩) n c)) (hy:evl l y=some (.int k i)) (hz:evl l z=some (.int k' j)) (hu:evl l u=some (.int k'' m))
  (hi:i=(p:Int)) (hj:j=(q:Int)) (hm:m=(q:Int)) (hp:p<q) (hq:q≤c) (h:SL P ro K w0 N ops Hs items Q D ((t,.slice (some ⟨b,off+p*sz,none⟩) (q-p) (q-p))::l) H):SL P ro K w0 N ops Hs (.cons (tk,o) items) Q D l H:=
 SL.val ho rfl (fun a w ha _=>by
  subst hi hj hm
  have hle:p≤q:=Nat.le_of_lt hp
  have hne:¬q=p:=by omega
  simp only [execOp,ho.op,Instr.sliceAt,Instr.slice,Option.map]
  simp [ha.eval hx,ha.eval hy,ha.eval hz,ha.eval hu,run_underlying hty,run_sizeOf hsz,Instr.sliceBounds,Instr.sliceBound,asIntOf,hq,hle,hne,Addr.add_mk]) h
theorem SlOf.piece {α:Type} {enc:α→List Value} {sz b off n cap:Nat} {xs:List α} (h:SlOf K w0 enc sz (.slice (some ⟨b,off,none⟩) n cap) xs) (p q:Nat) (hpq:p≤q) (hq:q≤xs.length):SlOf K w0 enc sz (.slice (some ⟨b,off+p*sz,none⟩) (q-p) (q-p)) ((xs.drop p).take (q-p)):=by
 have hl:((xs.drop p).take (q-p)).length=q-p:=by simp;omega
 refine ⟨h.len,?_⟩
 rcases h.at_ with ⟨a0,e,rfl⟩ | ⟨b',off',cap',e,hcap,hc⟩
 have:q=0:=by simpa using hq
 subst this
 obtain rfl:p=0:=by omega
 exact .inl ⟨_,rfl,by simp⟩
 simp only [Value.slice.injEq,Option.some.injEq,Addr.mk.injEq] at e
 obtain ⟨⟨rfl,rfl,_⟩,_,_⟩:=e
 refine .inr ⟨b,off+p*sz,q-p,by rw [hl],by omega,fun j u hu=>?_⟩
 have hfl:(xs.take p).flatMap enc++(((xs.drop p).take (q-p)).flatMap enc++((xs.drop p).drop (q-p)).flatMap enc)=xs.flatMap enc:=by
  rw [←List.flatMap_append,List.take_append_drop,←List.flatMap_append,List.take_append_drop]
 have hj:j<(((xs.drop p).take (q-p)).flatMap enc).length:=(List.getElem?_eq_some_iff.1 hu).1
 have hpl:((xs.take p).flatMap enc).length=p*sz:=by
  rw [flatMap_len h.len,List.length_take,Nat.min_eq_left (by omega)]
 have:=hc (p*sz+j) u (by
  rw [←hfl,List.getElem?_append_right (by omega),hpl,Nat.add_sub_cancel_left,List.getElem?_append_left hj]
  exact hu)
 rw [Nat.add_assoc]
 exact this
end Go.Proofs.YtkibffdipniemaaGreatDoor

/- A planter's page, wherever its pages are put. Condition: the plain functions yield. -/
namespace Go.Proofs.YtkibffdipniemaaGreatDoor
open Go
variable {K:Nat→Prop} {w0:World} {H:List Chunk}

theorem HpOk.rotN {A B R M:List Chunk} {w:World} (h:HpOk K w0 ((A++(B++R))++M) w):HpOk K w0 ((B++(A++R))++M) w:=by
 refine h.perm (List.Perm.append_right _ ?_)
 rw [←List.append_assoc,←List.append_assoc]
 exact List.Perm.append_right _ List.perm_append_comm
structure PlA where
 out:List SavedA
 wrong:Int
abbrev WhO (σ:Type):=σ→List UInt8→Option ((RefA×Int)×σ)
def WhCon {σ:Type} (T:List UInt32) (fid:FuncId) (cs:Array Value) (C:Value→σ→List Chunk) (wh:WhO σ):Prop:=
 ∀(K:Nat→Prop) (w0:World) (H:List Chunk) (a:Value) (q:σ) (s:List UInt8) (r:(RefA×Int)×σ),ShaT K w0 T→wh q s=some r→
  Con Tryz.prog K w0 fid (vS s::cs.toList) (C a q) H (fun u M=>u=.tuple #[.agg (encRef r.1.1).toArray,vI r.1.2]∧∃a',M=C a' r.2)
def plPut {σ:Type} (e:List UInt8) (p:PlA) (w:RefA×Int×σ):Option (RefA×(PlA×σ)):=
 cond (!decide (w.2.1=0)) (some (⟨0,[]⟩,({ p with wrong:=w.2.1 },w.2.2))) ((appL 40 p.out [⟨e,w.1.page,w.1.tag⟩]).bind fun l=>some (w.1,({ p with out:=l },w.2.2)))
def plPage {σ:Type} (n:Nat) (wh:WhO σ) (x:PageA) (p:PlA) (q:σ):Option (RefA×(PlA×σ)):=
 cond (!decide (p.wrong=0)) (some (⟨0,[]⟩,(p,q)))
  ((f_rows_Encode n x).bind fun e=>cond (decide (e.2=0)) ((wh q e.1).bind fun w=>plPut e.1 p (w.1.1,w.1.2,w.2)) (plPut e.1 p (⟨0,[]⟩,e.2,q)))
abbrev plC (bp:Nat) (fw vo:Value) (p:PlA):Chunk:=own bp (.cells #[fw,vo,vI p.wrong] 106)
set_option maxHeartbeats 4000000 in
set_option maxRecDepth 100000 in
theorem c_planter_page {σ:Type} {C:Value→σ→List Chunk} {wh:WhO σ} {fid:FuncId} {cs:Array Value} {T:List UInt32} {n bp:Nat} {vo v4 v5 a:Value} {x:PageA} {p:PlA} {q:σ} {r:RefA×(PlA×σ)} (hcal:callable Tryz.prog fid=true) (hwh:WhCon T fid cs C wh) (hS:ShaT K w0 T)
  (h:plPage n wh x p q=some r) (hs4:SlOf K w0 encRow 4 v4 x.rows) (hs5:SlOf K w0 encRef 2 v5 x.kids):
  Con Tryz.prog K w0 85 [vP bp 0,.agg #[vI x.kind,vU32 x.cx,vU32 x.cy,vI x.lev,v4,v5,vU32 x.npage,vS x.ntag]] (plC bp (.func (.func fid) #[] cs) vo p::rowT 72 3 vo encSaved p.out::C a q) H
   (fun u M=>u=.agg (encRef r.1).toArray∧∃vo' a',M=plC bp (.func (.func fid) #[] cs) vo' r.2.1::rowT 72 3 vo' encSaved r.2.1.out::C a' r.2.2):=by
 unfold plPage at h
 refine Con.enter Tryz.func85 rfl rfl ?_
 show SX _ _ _ _ _ _ _ _ _ (plC bp (.func (.func fid) #[] cs) vo p::rowT 72 3 vo encSaved p.out::(C a q++H))
 refine SX.sr ?_
 refine SL.box (.r rfl) rfl (fun _=>trivial) fun b0=>?_
 refine SL.alloc (.r rfl) ze31 (fun _=>trivial) fun b1=>?_
 refine SL.nx (SX.seq (SX.sr (SL.mv (.r rfl) rfl (SL.nchk (.r rfl) rfl (SL.fa (.r rfl) rfl fo106_2 (SL.ld (.r rfl) sc32 rfl (cell_own 2 rfl rfl) (SL.bin (.r rfl) rfl rfl Bin.neI (SL.nx ?_))))))))
 refine SX.cond rfl (fun hc1=>?_) (fun hc1=>?_)
 replace h:=cT hc1 h
 obtain rfl:=Option.some.inj h
 refine SX.sr (SL.bld [] (.r rfl) pl31 pk31 ze31 trivial rfl (SL.st 0 ⟨rfl,rfl,rfl⟩ rfl rfl rfl sz31 rfl rfl rfl trivial (SL.nx (SX.ret (SQ.thnR ?_)))))
 exact SQ.fret (resv1 rfl (resv.ag 0 (encRef ⟨0,[]⟩) ag31 rfl rfl rfl rfl)) (ret_of (M:=_::_::C a q) ⟨rfl,vo,a,rfl⟩ fun _ hw=>HpOk.pick (H:=[_,_,_,_]) hw [2,3] 4 rfl)
 replace h:=cF hc1 h
 obtain ⟨e,he,h⟩:=bnd h
 refine SX.skip (SQ.thn (SX.sr (SL.ldA [vI x.kind,vU32 x.cx,vU32 x.cy,vI x.lev,v4,v5,vU32 x.npage,vS x.ntag] (.r rfl) ag148 rfl rfl (cells_all 1 rfl) ?_)))
 refine SL.call (vs:=[_]) (Hin:=[]) (Hr:=_::_::_::_::_) (.r rfl) rfl ⟨rfl,trivial⟩ cal125 rfl rfl (c_rows_Encode he hs4 hs5) ?_
 rintro _ _ ⟨rfl,rfl⟩
 refine ⟨trivial,?_⟩
 refine SL.mv (.r rfl) rfl (SL.ext (.r rfl) rfl rfl (SL.ext (.r rfl) rfl rfl (SL.asg (.r rfl) rfl (SL.asg (.r rfl) rfl (SL.nx (SX.sr ?_))))))
 refine SL.alloc (.r rfl) ze31 (fun _=>trivial) fun b2=>?_
 refine SL.nx ?_
 refine SX.meetD (α:=RefA×Int×σ×Value) (fun w=>plPut e.1 p (w.1,w.2.1,w.2.2.1)=some r) (fun w=>[(0,vP bp 0),(4,vP b1 0),(5,vS e.1),(6,vI w.2.1),(7,vP b2 0)])
  (fun w=>own b2 (.cells #[vU32 w.1.page,vS w.1.tag] 31)::own b1 (.cells #[vU32 0,vS []] 31)::plC bp (.func (.func fid) #[] cs) vo p::rowT 72 3 vo encSaved p.out::(C w.2.2.2 w.2.2.1++H)) ?_ (fun w D h=>?_)
 refine SX.sr (SL.mv (.r rfl) rfl (SL.bin (.r rfl) rfl rfl Bin.eqI (SL.nx ?_)))
 refine SX.cond rfl (fun hc2=>?_) (fun hc2=>?_)
 replace h:=cT hc2 h
 obtain ⟨w,hw1,h⟩:=bnd h
 refine SX.region (SL.mv (.r rfl) rfl (SL.nchk (.r rfl) rfl (SL.fa (.r rfl) rfl fo106_0 (SL.ld (.r rfl) sc34 rfl (cell_own 3 rfl rfl) (SL.mv (.r rfl) rfl ?_)))))
 refine SL.heap (H':=C a q++([_,_,_,_,_]++H)) ?_ (fun _ hw=>HpOk.rotN (A:=[_,_,_,_,_]) (B:=C a q) (R:=H) hw)
 refine SL.call (vs:=[_]) (Hin:=C a q) (Hr:=[_,_,_,_,_]++H) (.r rfl) rfl ⟨rfl,trivial⟩ hcal rfl rfl (hwh K w0 _ a q e.1 w hS hw1) ?_
 rintro _ _ ⟨rfl,a1,rfl⟩
 refine ⟨trivial,?_⟩
 refine SL.heap ?_ (fun _ hw=>HpOk.rotN (A:=C a1 w.2) (B:=[_,_,_,_,_]) (R:=H) hw)
 refine SL.mv (.r rfl) rfl (SL.ext (.r rfl) rfl rfl (SL.ext (.r rfl) rfl rfl (SL.st 0 ⟨rfl,rfl,rfl⟩ rfl rfl rfl sz31 rfl rfl rfl trivial (SL.asg (.r rfl) rfl (SL.nil ?_)))))
 exact SQ.midD (w.1.1,w.1.2,w.2,a1) h (by repeat' (first | exact trivial | refine And.intro rfl ?_)) (fun _ hw=>HpOk.pick (H:=[_,_,_,_,_]) hw [0,1,3,4] 5 rfl)
 replace h:=cF hc2 h
 refine SX.skip ?_
 exact SQ.midD (⟨0,[]⟩,e.2,q,a) h (by repeat' (first | exact trivial | refine And.intro rfl ?_)) (fun _ hw=>HpOk.pick (H:=[_,_,_,_,_]) hw [0,1,3,4] 5 rfl)
 obtain ⟨w,we,q1,a1⟩:=w
 unfold plPut at h
 dsimp only at h
 refine SX.re [(0,vP bp 0),(4,vP b1 0),(5,vS e.1),(6,vI we),(7,vP b2 0)] (own b2 (.cells #[vU32 w.page,vS w.tag] 31)::own b1 (.cells #[vU32 0,vS []] 31)::plC bp (.func (.func fid) #[] cs) vo p::rowT 72 3 vo encSaved p.out::(C a1 q1++H)) ?_ (by repeat' (first | exact trivial | refine And.intro rfl ?_))
 refine SX.seq (SX.sr (SL.mv (.r rfl) rfl (SL.bin (.r rfl) rfl rfl Bin.neI (SL.nx ?_))))
 refine SX.cond rfl (fun hc3=>?_) (fun hc3=>?_)
 replace h:=cT hc3 h
 obtain rfl:=Option.some.inj h
 refine SX.sr (SL.mv (.r rfl) rfl (SL.mv (.r rfl) rfl (SL.nchk (.r rfl) rfl (SL.fa (.r rfl) rfl fo106_2 (SL.st 2 ⟨rfl,rfl,rfl⟩ rfl rfl rfl sz32 rfl rfl rfl trivial (SL.nx (SX.sr (SL.bld [] (.r rfl) pl31 pk31 ze31 trivial rfl (SL.st 1 ⟨rfl,rfl,rfl⟩ rfl rfl rfl sz31 rfl rfl rfl trivial (SL.nx (SX.ret (SQ.thnR ?_))))))))))))
 exact SQ.fret (resv1 rfl (resv.ag 1 (encRef ⟨0,[]⟩) ag31 rfl rfl rfl rfl)) (ret_of (M:=_::_::C a1 q1) ⟨rfl,vo,a1,rfl⟩ fun _ hw=>HpOk.pick (H:=[_,_,_,_]) hw [2,3] 4 rfl)
 replace h:=cF hc3 h
 obtain ⟨l,hl,h⟩:=bnd h
 obtain rfl:=Option.some.inj h
 refine SX.skip (SQ.thn (SX.seq (SX.drawI mix [0,2] (Pl.ap [(true,0),(true,1),(true,2),(true,3),(true,4),(true,5),(true,6),(true,7),(false,8),(false,9),(true,10),(true,11)] (.last 12 .nil)) (by kernel_rfl) (SL.mv (.r rfl) rfl (SL.mv (.r rfl) rfl (SL.nchk (.r rfl) rfl (SL.fa (.r rfl) rfl fo106_1 (SL.ld (.r rfl) sc36 rfl (cell_own 1 rfl rfl) (SL.mv (.r rfl) rfl (SL.ldA (encRef w) (.r rfl) ag31 rfl rfl (cells_all 0 rfl) ?_))))))))))
 refine SL.bld [_,_] (.r rfl) pl72 pk72 ze72 ⟨rfl,rfl,trivial⟩ rfl ?_
 refine SL.bsl [_] (.r rfl) ty36 sz72 ze72 ⟨rfl,trivial⟩ rfl rfl rfl (by first | (simp [Value.cells];done) | (intro v hv;simp only [List.mem_cons,List.not_mem_nil,or_false] at hv;rcases hv with rfl<;>rfl)) rfl rfl (fun _=>⟨⟨1,rfl⟩,⟨3,rfl⟩,trivial⟩) fun b3=>?_
 refine SL.ownT encSaved 3 ([(⟨e.1,w.page,w.tag⟩:SavedA)]:List SavedA) rfl (fun _=>rfl) rfl ?_
 refine SL.appT 4 hl (sz:=3) (enc:=encSaved) (fun _=>rfl) (.r rfl) ty36 sz72 by72 ze72 rfl (by decide) rfl rfl rfl rfl (cells_rowA (sz:=3) (enc:=encSaved) 0 (fun _=>rfl) rfl) (by simp [encSaved,Value.oneCell']) (fun _=>⟨⟨1,rfl⟩,⟨3,rfl⟩,trivial⟩) fun v3=>?_
 refine SL.nchk (.r rfl) rfl (SL.fa (.r rfl) rfl fo106_1 (SL.last ?_))
 refine SL.rowV 4 rfl fun hv3 ho3=>?_
 refine SL.stR 3 ⟨rfl,rfl,rfl⟩ rfl rfl rfl sz36 hv3 ho3 rfl trivial (SL.nx (SX.sr (SL.ldA (encRef w) (.r rfl) ag31 rfl rfl (cells_all 1 rfl) (SL.st 2 ⟨rfl,rfl,rfl⟩ rfl rfl rfl sz31 rfl rfl rfl trivial (SL.nx (SX.ret ?_))))))
 exact SQ.fret (resv1 rfl (resv.ag 2 (encRef w) ag31 rfl rfl rfl rfl)) (ret_of (M:=_::_::C a1 q1) ⟨rfl,v3,a1,rfl⟩ fun _ hw=>HpOk.pick (H:=[_,_,_,_,_]) hw [3,4] 5 rfl)
end Go.Proofs.YtkibffdipniemaaGreatDoor

/- Rows in pieces of four: slices.Chunk. Condition: at most 2^20 rows. -/
namespace Go.Proofs.YtkibffdipniemaaGreatDoor
open Go
variable {K:Nat→Prop} {w0:World} {H:List Chunk}

abbrev Piece:=SlV×List RowA
def encP (a:Piece):List Value:=[a.1.val]
def pieceAt (b off:Nat) (l:List RowA) (i:Nat):Piece:=
 (⟨some ⟨b,off+4*i*4,none⟩,min (4*i+4) l.length-4*i,min (4*i+4) l.length-4*i⟩,(l.drop (4*i)).take (min (4*i+4) l.length-4*i))
def piecesN (b off:Nat) (l:List RowA) (n:Nat):List Piece:=(List.range n).map (pieceAt b off l)
def chunksV (b off:Nat) (l:List RowA):List Piece:=piecesN b off l ((l.length+3) / 4)
theorem chunksV_ok {b off n cap:Nat} {l:List RowA} (h:SlOf K w0 encRow 4 (.slice (some ⟨b,off,none⟩) n cap) l):∀a∈chunksV b off l,SlOf K w0 encRow 4 a.1.val a.2:=by
 intro a ha
 obtain ⟨i,hi,rfl⟩:=List.mem_map.1 ha
 have hi':=List.mem_range.1 hi
 exact h.piece (4*i) (min (4*i+4) l.length) (by omega) (by omega)
theorem piecesN_succ (b off:Nat) (l:List RowA) (n:Nat):piecesN b off l (n+1)=piecesN b off l n++[pieceAt b off l n]:=by
 simp [piecesN,List.range_succ]
theorem chunksV_split (b off:Nat) (l:List RowA) (k:Nat) (h:4*k<l.length):∃suf,chunksV b off l=piecesN b off l k++pieceAt b off l k::suf:=by
 obtain ⟨m,hm⟩:∃m,(l.length+3) / 4=k+1+m:=⟨(l.length+3) / 4-(k+1),by omega⟩
 refine ⟨(List.range m).map fun j=>pieceAt b off l (k+1+j),?_⟩
 rw [chunksV,hm,piecesN,List.range_add,List.map_append,List.map_map,List.range_succ,List.map_append,List.append_assoc]
 rfl
set_option maxHeartbeats 4000000 in
set_option maxRecDepth 100000 in
theorem q_chunk {b1 b2 b off cap:Nat} {l:List RowA} {G0:List Chunk} (hl:l.length≤1048576) (hs:SlOf K w0 encRow 4 (.slice (some ⟨b,off,none⟩) l.length cap) l) (hcap:l.length≤cap):
  SeqAt Tryz.prog K w0 173 [vP b1 0,vP b2 0] [own b1 (.cells #[.slice (some ⟨b,off,none⟩) l.length cap] 35),own b2 (.cells #[vI 4] 3)] G0 encP (chunksV b off l):=by
 intro lp J X T rc hy h0
 refine Con.enter Tryz.func173 rfl rfl ?_
 show SX _ _ _ _ _ _ _ _ _ (own b1 (.cells #[.slice (some ⟨b,off,none⟩) l.length cap] 35)::own b2 (.cells #[vI 4] 3)::((rc::G0)++T))
 refine SX.sr (SL.asg (.r rfl) rfl (SL.nx (SX.block ?_)))
 refine SX.mono (SX.loop (α:=Nat×List Chunk) (fun x=>4*x.1≤l.length+3∧J (piecesN b off l x.1) x.2) (fun x=>[(0,vY lp),(1,vP b1 0),(2,vP b2 0),(4,vI ((4*x.1:Nat):Int))])
  (fun x=>own b1 (.cells #[.slice (some ⟨b,off,none⟩) l.length cap] 35)::own b2 (.cells #[vI 4] 3)::(x.2++T)) (fun x=>l.length-x.1) (fun x D hp=>?_) (0,rc::G0) ⟨by omega,h0⟩) (by repeat' (first | exact trivial | refine And.intro rfl ?_))
 obtain ⟨k,G⟩:=x
 obtain ⟨hk,hJ⟩:=hp
 dsimp only at hk hJ ⊢
 refine SX.seq (SX.sr (SL.mv (.r rfl) rfl (SL.ld (.r rfl) sc35 rfl (cell_own 0 rfl rfl) (SL.lenL (.r rfl) ty35 rfl (SL.bin (.r rfl) rfl rfl Bin.ltI (SL.nx ?_))))))
 refine SX.cond rfl (fun hc1=>?_) (fun hc1=>?_)
 have hlt:4*k<l.length:=by
  have:=of_decide_eq_true hc1
  omega
 clear hc1
 obtain ⟨suf,hsp⟩:=chunksV_split b off l k hlt
 refine SX.skip (SQ.thn (SX.seq (SX.block (SX.seq (SX.drawI mix [0,1] (Pl.of [(true,0),(true,1),(true,2),(true,3),(true,4),(true,5),(true,6)]) (by kernel_rfl) (SL.ld (.r rfl) sc3 rfl (cell_own 1 rfl rfl) (SL.ld (.r rfl) sc35 rfl (cell_own 0 rfl rfl) (SL.mv (.r rfl) rfl (SL.slLR (4*k) (.r rfl) ty35 sz79 rfl rfl rfl (by omega) (by omega) (SL.lenL (.r rfl) ty35 rfl (SL.minI (.r rfl) rfl rfl (SL.asg (.r rfl) rfl (SL.nx (SX.sr ?_))))))))))))))
 refine SL.mv (.r rfl) rfl (SL.ld (.r rfl) sc35 rfl (cell_own 0 rfl rfl) (SL.mv (.r rfl) rfl (SL.mv (.r rfl) rfl (SL.mv (.r rfl) rfl (SL.bin (.r rfl) rfl rfl (Bin.addI (by omega) (by omega)) (SL.mv (.r rfl) rfl (SL.mv (.r rfl) rfl ?_)))))))
 refine SL.bin (.r rfl) rfl rfl (Bin.addI (by omega) (by omega)) (SL.sl3 (4*k) (min (4*k+4) l.length) (.r rfl) ty35 sz79 rfl rfl rfl rfl rfl (by omega) (by omega) (by omega) (by omega) ?_)
 refine SL.yld (M2:=[_,_]) (G:=G) (T:=T) (vs:=[_]) (ok:=fun G1=>J (piecesN b off l (k+1)) G1) (no:=X) (.r rfl) rfl ⟨rfl,trivial⟩ rfl ?_ (fun bb G1 hG1=>⟨trivial,?_⟩)
 intro M
 have:=hy (piecesN b off l k) (pieceAt b off l k) suf hsp G hJ M
 rw [←piecesN_succ] at this
 exact this
 refine SL.not (.r rfl) rfl (SL.nx ?_)
 refine SX.cond rfl (fun hc3=>?_) (fun hc3=>?_)
 obtain rfl:bb=false:=by simpa using hc3
 refine SX.ret (SQ.blkR (SQ.thnR (SQ.lpR (SQ.blkR ?_))))
 exact SQ.fret (res0 rfl) (ret_of (M:=G1) (.inr hG1) fun _ h=>h.skip [_,_])
 obtain rfl:bb=true:=by simpa using hc3
 refine SX.skip (SQ.blk (SQ.thn (SX.region (SL.mv (.r rfl) rfl (SL.ld (.r rfl) sc3 rfl (cell_own 1 rfl rfl) (SL.bin (.r rfl) rfl rfl (Bin.addI (by omega) (by omega)) ?_))))))
 refine SL.asgX (u:=vI ((4*(k+1):Nat):Int)) (.r rfl) rfl (congrArg vI (by omega)) ?_
 refine SL.nil ?_
 exact SQ.again (k+1,G1) ⟨by omega,hG1⟩ (by dsimp only;omega) (by repeat' (first | exact trivial | refine And.intro rfl ?_)) (fun _ hw=>HpOk.pick (H:=[_,_]) hw [0,1] 2 rfl)
 have hge:l.length≤4*k:=by
  have:=of_decide_eq_false hc1
  omega
 have hkk:(l.length+3) / 4=k:=by omega
 refine SX.exit (SQ.thnE (SQ.lpE (SQ.blkE ?_)))
 exact SQ.fend (res0 rfl) (ret_of (M:=G) (.inl (by rw [chunksV,hkk];exact hJ)) fun _ h=>h.skip [_,_])
end Go.Proofs.YtkibffdipniemaaGreatDoor

/- Pieces collected, and gone through from the last: slices.Chunk, Collect, AppendSeq, Backward. Condition: at most 2^20 pieces. -/
namespace Go.Proofs.YtkibffdipniemaaGreatDoor
open Go
variable {K:Nat→Prop} {w0:World} {H:List Chunk}

theorem appL_snoc {α:Type} {by_:Nat} {xs:List α} {x:α} (h:xs.length+1≤1048576) (hb:by_≤1024):appL by_ xs [x]=some (xs++[x]):=by
 have h1:(xs.length+1)*by_≤1048576*1024:=Nat.mul_le_mul h hb
 rw [appL,if_pos ⟨by simp only [List.length_cons,List.length_nil,Nat.zero_add];omega,by simp only [List.length_cons,List.length_nil,Nat.zero_add];omega⟩]
theorem encP_one (a:Piece) (u:Value) (h:u∈encP a):u.oneCell'=true:=by
 obtain rfl:u=a.1.val:=by simpa [encP] using h
 rfl
theorem w_chunk {v:Value}:Con Tryz.prog K w0 128 [v,vI 4] [] H (fun u M=>∃b1 b2:Nat,u=.func (.func 173) #[] #[vP b1 0,vP b2 0]∧M=[own b1 (.cells v.cells 35),own b2 (.cells #[vI 4] 3)]):=by
 refine Con.enter Tryz.func128 rfl rfl ?_
 refine SX.sr ?_
 refine SL.box (.r rfl) rfl (fun _=>trivial) fun b1=>?_
 refine SL.box (.r rfl) rfl (fun _=>trivial) fun b2=>?_
 refine SL.asg (.r rfl) rfl (SL.nx (SX.seq (SX.sr (SL.ld (.r rfl) sc3 rfl (cell_own 0 rfl rfl) (SL.bin (.r rfl) rfl rfl Bin.ltI (SL.nx (SX.condF rfl (SX.skip (SQ.thn (SX.sr ?_))))))))))
 refine SL.mkf (fv:=#[]) (cv:=#[_,_]) (.r rfl) rfl rfl ?_
 refine SL.asg (.r rfl) rfl (SL.nx (SX.ret ?_))
 exact SQ.fret (res1 rfl rfl) (ret_of (M:=[_,_]) ⟨_,_,rfl,rfl⟩ fun _ hw=>HpOk.pick (H:=[_,_]) hw [1,0] 2 rfl)
set_option maxHeartbeats 4000000 in
set_option maxRecDepth 100000 in
theorem w_appendSeq {f:FuncId} {cap:List Value} {Hit:List Chunk} {xs:List Piece} (hcal:callable Tryz.prog f=true) (hn:xs.length≤1048576) (hseq:∀G0,SeqAt Tryz.prog K w0 f cap Hit G0 encP xs):
  Con Tryz.prog K w0 172 [.slice none 0 0,.func (.func f) #[] cap.toArray] Hit H (fun u M=>∃v0:Value,u=v0∧M=[rowT 35 1 v0 encP xs]):=by
 refine Con.enter Tryz.func172 rfl rfl ?_
 refine SX.sr ?_
 refine SL.box (.r rfl) rfl (fun _=>trivial) fun b0=>?_
 refine SL.asg (.r rfl) rfl (SL.nx (SX.nilT 35 1 encP (SX.pick [1,0] 2 (SX.seq (SX.sr (SL.mv (.r rfl) rfl (SL.nx (SX.block ?_))))))))
 refine SX.heap (SX.rangeAt (enc:=encP) xs (G0:=own b0 (.cells #[.slice none 0 0] 200)::rowT 35 1 (.slice none 0 0) encP []::H) (fun pre G=>∃vr:Value,G=own b0 (.cells #[vr] 200)::rowT 35 1 vr encP pre::H) (fun _ _=>False) rfl hcal rfl (fun _=>rfl) (hseq _) rfl ⟨_,rfl⟩ (fun pre x suf G hxs hJ r lp Rest=>?_) (fun G D hJ=>?_) (fun c G D hX=>hX.elim)) (fun _ hw=>HpOk.rotN (A:=[_,_]) (B:=Hit) (R:=H) hw)
 obtain ⟨vr,rfl⟩:=hJ
 have hlen:pre.length+1≤1048576:=by
  have:=congrArg List.length hxs
  simp only [List.length_append,List.length_cons] at this
  omega
 refine SX.region (SL.asg (.r rfl) rfl (SL.nil ?_))
 refine SQ.bgn (G:=own b0 (.cells #[vr] 200)::rowT 35 1 vr encP pre::H) ?_
 refine SX.block (SX.region (SL.ld (.r rfl) sc200 rfl (cell_own 0 rfl rfl) (SL.mv (.r rfl) rfl ?_)))
 refine SL.bsl [_] (.r rfl) ty200 sz35 ze35 ⟨rfl,trivial⟩ rfl rfl rfl (by intro v hv;simp only [List.mem_cons,List.not_mem_nil,or_false] at hv;rcases hv with rfl;rfl) rfl rfl (fun _=>trivial) fun b1=>?_
 refine SL.ownT encP 1 ([x]:List Piece) rfl (fun _=>rfl) rfl ?_
 refine SL.appT 2 (appL_snoc hlen (by decide:24≤1024)) (sz:=1) (enc:=encP) (fun _=>rfl) (.r rfl) ty200 sz35 by35 ze35 rfl (by decide) rfl rfl rfl rfl (cells_rowA (sz:=1) (enc:=encP) 0 (fun _=>rfl) rfl) encP_one (fun _=>trivial) fun v3=>?_
 refine SL.rowV 2 rfl fun hv3 ho3=>?_
 refine SL.stR 1 ⟨rfl,rfl,rfl⟩ rfl rfl rfl sz200 hv3 ho3 rfl trivial (SL.nil (SQ.blk ?_))
 exact SQ.rndN ⟨v3,rfl⟩ (fun _ hw=>HpOk.pick (H:=[_,_,_]) hw [1,2] 3 rfl)
 obtain ⟨vr,rfl⟩:=hJ
 refine SQ.blk (SQ.thn (SX.sr (SL.ld (.r rfl) sc200 rfl (cell_own 0 rfl rfl) (SL.asg (.r rfl) rfl (SL.nx (SX.ret ?_))))))
 exact SQ.fret (res1 rfl rfl) (ret_of (M:=[_]) ⟨_,rfl,rfl⟩ fun _ hw=>HpOk.pick (H:=[_,_]) hw [1] 2 rfl)
theorem w_collect {f:FuncId} {cap:List Value} {Hit:List Chunk} {xs:List Piece} (hcal:callable Tryz.prog f=true) (hn:xs.length≤1048576) (hseq:∀G0,SeqAt Tryz.prog K w0 f cap Hit G0 encP xs):
  Con Tryz.prog K w0 127 [.func (.func f) #[] cap.toArray] Hit H (fun u M=>∃v0:Value,u=v0∧M=[rowT 35 1 v0 encP xs]):=by
 refine Con.enter Tryz.func127 rfl rfl ?_
 refine SX.sr (SL.asg (.r rfl) rfl (SL.nx (SX.sr (SL.mv (.r rfl) rfl ?_))))
 refine SL.call (vs:=[_,_]) (Hin:=Hit) (Hr:=_) (.r rfl) rfl ⟨rfl,rfl,trivial⟩ cal172 rfl rfl (w_appendSeq hcal hn hseq) ?_
 rintro v1 _ ⟨_,rfl,rfl⟩
 refine ⟨trivial,?_⟩
 refine SL.asg (.r rfl) rfl (SL.nx (SX.ret ?_))
 exact SQ.fret (res1 rfl rfl) (ret_of (M:=[_]) ⟨_,rfl,rfl⟩ fun _ hw=>HpOk.pick (H:=[_]) hw [0] 1 rfl)
end Go.Proofs.YtkibffdipniemaaGreatDoor

/- A row of pieces, gone through from the last: slices.Backward. Condition: at most 2^20 pieces. -/
namespace Go.Proofs.YtkibffdipniemaaGreatDoor
open Go
variable {K:Nat→Prop} {w0:World} {H:List Chunk}

def backL {α:Type} (xs:List α):List (Int×α):=(xs.zipIdx.map fun p=>((p.2:Int),p.1)).reverse
theorem backL_length {α:Type} (xs:List α):(backL xs).length=xs.length:=by simp [backL]
theorem backL_get {α:Type} (xs:List α) (k:Nat) (h:k<xs.length):(backL xs)[k]'(by rw [backL_length];exact h)=(((xs.length-1-k:Nat):Int),xs[xs.length-1-k]'(by omega)):=by
 simp [backL,List.getElem_reverse,List.getElem_map,List.getElem_zipIdx]
theorem split_at {α:Type} (ys:List α) (k:Nat) (h:k<ys.length):ys=ys.take k++ys[k]::ys.drop (k+1):=by
 rw [←List.drop_eq_getElem_cons h,List.take_append_drop]
theorem take_snoc {α:Type} (ys:List α) (k:Nat) (h:k<ys.length):ys.take k++[ys[k]]=ys.take (k+1):=by
 rw [List.take_add_one,List.getElem?_eq_getElem h]
 rfl
def encBP (a:Int×Piece):List Value:=[vI a.1,a.2.1.val]
set_option maxHeartbeats 4000000 in
set_option maxRecDepth 100000 in
theorem q_back {bx:Nat} {va:Value} {xs:List Piece} {G0:List Chunk} (hn:xs.length≤1048576):
  SeqAt Tryz.prog K w0 174 [vP bx 0] [own bx (.cells #[va] 200),rowT 35 1 va encP xs] G0 encBP (backL xs):=by
 intro lp J X T rc hy h0
 refine Con.enter Tryz.func174 rfl rfl ?_
 show SX _ _ _ _ _ _ _ _ _ (own bx (.cells #[va] 200)::rowT 35 1 va encP xs::((rc::G0)++T))
 refine SX.sr ?_
 refine SL.rowV 1 rfl fun hva hoa=>?_
 refine SL.ld (.r rfl) sc200 rfl (cell_own 0 rfl rfl) (SL.lenT 1 (.r rfl) ty200 rfl rfl (SL.bin (.r rfl) rfl rfl (Bin.subI (by omega) (by omega)) (SL.asg (.r rfl) rfl (SL.nx (SX.block ?_)))))
 refine SX.mono (SX.loop (α:=Nat×List Chunk) (fun x=>x.1≤xs.length∧J ((backL xs).take x.1) x.2) (fun x=>[(0,vY lp),(1,vP bx 0),(3,vI ((xs.length:Int)-1-(x.1:Int)))])
  (fun x=>own bx (.cells #[va] 200)::rowT 35 1 va encP xs::(x.2++T)) (fun x=>xs.length-x.1) (fun x D hp=>?_) (0,rc::G0) ⟨Nat.zero_le _,h0⟩) (by simpa using (by repeat' (first | exact trivial | refine And.intro rfl ?_)))
 obtain ⟨k,G⟩:=x
 obtain ⟨hk,hJ⟩:=hp
 dsimp only at hk hJ ⊢
 refine SX.seq (SX.sr (SL.mv (.r rfl) rfl (SL.bin (.r rfl) rfl rfl Bin.geI (SL.nx ?_))))
 refine SX.cond rfl (fun hc1=>?_) (fun hc1=>?_)
 have hlt:k<xs.length:=by
  have:=of_decide_eq_true hc1
  omega
 clear hc1
 have hb:k<(backL xs).length:=by rw [backL_length];exact hlt
 have hget:=backL_get xs k hlt
 have hx:nthI xs ((xs.length:Int)-1-(k:Int))=some (xs[xs.length-1-k]'(by omega)):=by
  rw [nthI,if_pos (by omega),show ((xs.length:Int)-1-(k:Int)).toNat=xs.length-1-k by omega]
  exact List.getElem?_eq_getElem _
 refine SX.skip (SQ.thn (SX.seq (SX.block (SX.sr (SL.mv (.r rfl) rfl (SL.mv (.r rfl) rfl (SL.ld (.r rfl) sc200 rfl (cell_own 0 rfl rfl) (SL.mv (.r rfl) rfl ?_))))))))
 refine SL.iaT 1 hx (.r rfl) ty200 sz35 rfl rfl rfl fun g1 m1 cp1 hv1=>?_
 refine SL.ld (.r rfl) sc35 rfl (cell_rowT (sz:=1) (enc:=encP) 1 0 (fun _=>rfl) rfl hv1 hx rfl) ?_
 refine SL.yld (M2:=[_,_]) (G:=G) (T:=T) (vs:=[_,_]) (ok:=fun G1=>J ((backL xs).take (k+1)) G1) (no:=X) (.r rfl) rfl ⟨rfl,rfl,trivial⟩ rfl ?_ (fun bb G1 hG1=>⟨trivial,?_⟩)
 intro M
 have:=hy ((backL xs).take k) ((backL xs)[k]) ((backL xs).drop (k+1)) (split_at _ k hb) G hJ M
 rw [take_snoc _ k hb,hget] at this
 rw [show ((xs.length:Int)-1-(k:Int))=((xs.length-1-k:Nat):Int) by omega]
 exact this
 refine SL.not (.r rfl) rfl (SL.nx ?_)
 refine SX.cond rfl (fun hc3=>?_) (fun hc3=>?_)
 obtain rfl:bb=false:=by simpa using hc3
 refine SX.ret (SQ.blkR (SQ.thnR (SQ.lpR (SQ.blkR ?_))))
 exact SQ.fret (res0 rfl) (ret_of (M:=G1) (.inr hG1) fun _ h=>h.skip [_,_])
 obtain rfl:bb=true:=by simpa using hc3
 refine SX.skip (SQ.blk (SQ.thn (SX.region (SL.mv (.r rfl) rfl (SL.bin (.r rfl) rfl rfl (Bin.subI (by omega) (by omega)) ?_)))))
 refine SL.asgX (u:=vI ((xs.length:Int)-1-((k+1:Nat):Int))) (.r rfl) rfl (congrArg vI (by omega)) ?_
 refine SL.nil ?_
 exact SQ.again (k+1,G1) ⟨hlt,hG1⟩ (by dsimp only;omega) (by repeat' (first | exact trivial | refine And.intro rfl ?_)) (fun _ hw=>HpOk.pick (H:=[_,_]) hw [0,1] 2 rfl)
 have hge:k=xs.length:=by
  have:=of_decide_eq_false hc1
  omega
 subst hge
 rw [List.take_of_length_le (by rw [backL_length];exact Nat.le_refl _)] at hJ
 refine SX.exit (SQ.thnE (SQ.lpE (SQ.blkE ?_)))
 exact SQ.fend (res0 rfl) (ret_of (M:=G) (.inl hJ) fun _ h=>h.skip [_,_])
theorem w_back {va:Value} (hva:va.cells=#[va]):Con Tryz.prog K w0 129 [va] [] H (fun u M=>∃bx:Nat,u=.func (.func 174) #[] #[vP bx 0]∧M=[own bx (.cells #[va] 200)]):=by
 refine Con.enter Tryz.func129 rfl rfl ?_
 refine SX.sr ?_
 refine SL.box (.r rfl) rfl (fun _=>trivial) fun b1=>?_
 rw [hva]
 refine SL.asg (.r rfl) rfl (SL.nx (SX.sr ?_))
 refine SL.mkf (fv:=#[]) (cv:=#[_]) (.r rfl) rfl rfl ?_
 refine SL.asg (.r rfl) rfl (SL.nx (SX.ret ?_))
 exact SQ.fret (res1 rfl rfl) (ret_of (M:=[_]) ⟨_,rfl,rfl⟩ fun _ hw=>HpOk.pick (H:=[_]) hw [0] 1 rfl)
end Go.Proofs.YtkibffdipniemaaGreatDoor

/- Rows in pieces of four, the last one ahead: grove.pieces. Condition: at most 2^20 rows. -/
namespace Go.Proofs.YtkibffdipniemaaGreatDoor
open Go
variable {K:Nat→Prop} {w0:World} {H:List Chunk}

theorem backL_map {α:Type} (xs:List α):(backL xs).map (·.2)=xs.reverse:=by
 rw [backL,List.map_reverse,List.map_map]
 congr 1
 have:((fun x:Int×α=>x.2)∘fun p:α×Nat=>((p.2:Int),p.1))=Prod.fst:=rfl
 rw [this,List.zipIdx_map_fst]
def allV (v:Value) (l:List RowA):List Piece:=
 match v,l with
 | _,[]=>[(⟨none,0,0⟩,[])]
 | .slice (some a) _ _,l=>chunksV a.block a.off l
 | _,l=>[]
theorem allV_nil (v:Value):allV v []=[(⟨none,0,0⟩,[])]:=by cases v<;>rfl
theorem allV_cons {b off n c:Nat} {l:List RowA} (h:l≠[]):allV (.slice (some ⟨b,off,none⟩) n c) l=chunksV b off l:=by
 cases l with
 | nil=>exact absurd rfl h
 | cons _ _=>rfl
theorem allV_ok {v:Value} {l:List RowA} (h:SlOf K w0 encRow 4 v l):∀a∈allV v l,SlOf K w0 encRow 4 a.1.val a.2:=by
 by_cases hl:l=[]
 subst hl
 rw [allV_nil]
 intro a ha
 obtain rfl:=List.mem_singleton.1 ha
 exact ⟨h.len,.inl ⟨_,rfl,rfl⟩⟩
 rcases h.at_ with ⟨_,_,e⟩ | ⟨b,off,cap,rfl,hc,hcell⟩
 exact absurd e hl
 rw [allV_cons hl]
 exact chunksV_ok h
set_option maxRecDepth 100000 in
theorem q_chunk0 {b1 b2:Nat} {a:Option Addr} {G0:List Chunk}:
  SeqAt Tryz.prog K w0 173 [vP b1 0,vP b2 0] [own b1 (.cells #[.slice a 0 0] 35),own b2 (.cells #[vI 4] 3)] G0 encP []:=by
 intro lp J X T rc hy h0
 refine Con.enter Tryz.func173 rfl rfl ?_
 show SX _ _ _ _ _ _ _ _ _ (own b1 (.cells #[.slice a 0 0] 35)::own b2 (.cells #[vI 4] 3)::((rc::G0)++T))
 refine SX.sr (SL.asg (.r rfl) rfl (SL.nx (SX.block ?_)))
 refine SX.mono (SX.loop (α:=Unit) (fun _=>True) (fun _=>[(0,vY lp),(1,vP b1 0),(2,vP b2 0),(4,vI 0)])
  (fun _=>own b1 (.cells #[.slice a 0 0] 35)::own b2 (.cells #[vI 4] 3)::((rc::G0)++T)) (fun _=>0) (fun x D hp=>?_) () trivial) (by repeat' (first | exact trivial | refine And.intro rfl ?_))
 refine SX.seq (SX.sr (SL.mv (.r rfl) rfl (SL.ld (.r rfl) sc35 rfl (cell_own 0 rfl rfl) (SL.lenL (.r rfl) ty35 rfl (SL.bin (.r rfl) rfl rfl Bin.ltI (SL.nx (SX.condF rfl (SX.exit (SQ.thnE (SQ.lpE (SQ.blkE ?_)))))))))))
 exact SQ.fend (res0 rfl) (ret_of (M:=rc::G0) (.inl h0) fun _ h=>h.skip [_,_])
def chunksO (v:Value) (l:List RowA):List Piece:=if l=[] then [] else allV v l
theorem q_chunkV {b1 b2:Nat} {v:Value} {l:List RowA} (hl:l.length≤1048576) (hs:SlOf K w0 encRow 4 v l) (G0:List Chunk):
  SeqAt Tryz.prog K w0 173 [vP b1 0,vP b2 0] [own b1 (.cells v.cells 35),own b2 (.cells #[vI 4] 3)] G0 encP (chunksO v l):=by
 by_cases h0:l=[]
 subst h0
 rw [chunksO,if_pos rfl]
 rcases hs.at_ with ⟨a,rfl,_⟩ | ⟨b,off,cap,rfl,_⟩
 exact q_chunk0
 rcases hs.at_ with ⟨a,e,_⟩ | ⟨b',off',cap',e,hc,hcell⟩
 rw [e]
 exact q_chunk0
 have:=q_chunk (G0:=G0) (b1:=b1) (b2:=b2) (cap:=cap) hl hs (by simp)
 exact this
 rcases hs.at_ with ⟨_,_,e⟩ | ⟨b,off,cap,rfl,hc,hcell⟩
 exact absurd e h0
 rw [chunksO,if_neg h0,allV_cons h0]
 exact q_chunk hl hs hc
theorem chunksV_length (b off:Nat) (l:List RowA):(chunksV b off l).length=(l.length+3) / 4:=by simp [chunksV,piecesN]
theorem chunksO_length {v:Value} {l:List RowA} (hs:SlOf K w0 encRow 4 v l) (hl:l.length≤1048576):(chunksO v l).length≤1048576:=by
 by_cases h0:l=[]
 rw [chunksO,if_pos h0];simp
 rcases hs.at_ with ⟨_,_,e⟩ | ⟨b,off,cap,rfl,hc,hcell⟩
 exact absurd e h0
 rw [chunksO,if_neg h0,allV_cons h0,chunksV_length]
 omega
theorem allV_eq {v:Value} {l:List RowA} (hs:SlOf K w0 encRow 4 v l):(if (chunksO v l).length=0 then [((⟨none,0,0⟩:SlV),([]:List RowA))] else chunksO v l)=allV v l:=by
 by_cases h0:l=[]
 subst h0
 rw [chunksO,if_pos rfl,allV_nil]
 rfl
 rcases hs.at_ with ⟨_,_,e⟩ | ⟨b,off,cap,rfl,hc,hcell⟩
 exact absurd e h0
 have hp:0<l.length:=List.length_pos_iff.2 h0
 rw [chunksO,if_neg h0,allV_cons h0,if_neg (by rw [chunksV_length];omega)]
end Go.Proofs.YtkibffdipniemaaGreatDoor

/- The range over rows' pieces: grove.pieces. Condition: at most 2^20 rows. -/
namespace Go.Proofs.YtkibffdipniemaaGreatDoor
open Go
variable {K:Nat→Prop} {w0:World} {H:List Chunk}

theorem SlOf.one {α:Type} {enc:α→List Value} {sz:Nat} {v:Value} {xs:List α} (h:SlOf K w0 enc sz v xs):v.cells=#[v]:=by
 rcases h.at_ with ⟨_,rfl,_⟩ | ⟨_,_,_,rfl,_⟩<;>rfl
set_option maxHeartbeats 8000000 in
set_option maxRecDepth 100000 in
theorem q_pieces {bx:Nat} {v:Value} {l:List RowA} {G0:List Chunk} (hl:l.length≤1048576) (hs:SlOf K w0 encRow 4 v l):
  SeqAt Tryz.prog K w0 126 [vP bx 0] [own bx (.cells #[v] 35)] G0 encP (allV v l).reverse:=by
 intro lp J X T rc hy h0
 refine Con.enter Tryz.func126 rfl rfl ?_
 show SX _ _ _ _ _ _ _ _ _ (own bx (.cells #[v] 35)::((rc::G0)++T))
 have hlen:=chunksO_length hs hl
 refine SX.sr ?_
 refine SL.box (.r rfl) rfl (fun _=>trivial) fun b0=>?_
 refine SL.nx (SX.sr (SL.ld (.r rfl) sc35 rfl (cell_own 1 rfl rfl) ?_))
 refine SL.call (vs:=[_,_]) (Hin:=[]) (Hr:=_::_::_) (.r rfl) rfl ⟨rfl,rfl,trivial⟩ cal128 rfl rfl w_chunk ?_
 rintro _ _ ⟨b1,b2,rfl,rfl⟩
 refine ⟨trivial,?_⟩
 refine SL.call (vs:=[_]) (Hin:=[_,_]) (Hr:=_::_::_) (.r rfl) rfl ⟨rfl,trivial⟩ cal127 rfl rfl (w_collect (cap:=[vP b1 0,vP b2 0]) cal173 hlen (fun G0=>q_chunkV hl hs G0)) ?_
 rintro va _ ⟨_,rfl,rfl⟩
 refine ⟨trivial,?_⟩
 refine SL.asg (.r rfl) rfl (SL.nx ?_)
 refine SX.meetD (α:=Value×List Piece) (fun x=>x.2=allV v l) (fun x=>[(0,vY lp),(2,vP b0 0),(3,x.1)]) (fun x=>rowT 35 1 x.1 encP x.2::own b0 (.cells #[vY lp] 46)::((rc::G0)++T)) ?_ (fun x D hx=>?_)
 refine SX.sr (SL.mv (.r rfl) rfl (SL.lenT 0 (.r rfl) ty200 rfl rfl (SL.bin (.r rfl) rfl rfl Bin.eqI (SL.nx ?_))))
 refine SX.cond rfl (fun hc1=>?_) (fun hc1=>?_)
 have hz:(chunksO v l).length=0:=by
  have:=of_decide_eq_true hc1
  omega
 refine SX.region ?_
 refine SL.bsl [_] (.r rfl) ty200 sz35 ze35 ⟨rfl,trivial⟩ rfl rfl rfl (by simp [Value.cells]) rfl rfl (fun _=>trivial) fun b3=>?_
 refine SL.ownT encP 1 ([(⟨none,0,0⟩,[])]:List Piece) rfl (fun _=>rfl) rfl ?_
 refine SL.asg (.r rfl) rfl (SL.nil ?_)
 exact SQ.midD (.slice (some ⟨b3,0,none⟩) 1 1,[(⟨none,0,0⟩,[])]) (show ([(⟨none,0,0⟩,[])]:List Piece)=allV v l by rw [←allV_eq hs,if_pos hz]) (by repeat' (first | exact trivial | refine And.intro rfl ?_)) (fun _ hw=>HpOk.pick (H:=[_,_,_,_]) hw [0,2] 4 rfl)
 have hz:¬(chunksO v l).length=0:=by
  have:=of_decide_eq_false hc1
  omega
 refine SX.skip ?_
 exact SQ.midD (va,chunksO v l) (show chunksO v l=allV v l by rw [←allV_eq hs,if_neg hz]) (by repeat' (first | exact trivial | refine And.intro rfl ?_)) (fun _ hw=>HpOk.pick (H:=[_,_,_]) hw [0,1] 3 rfl)
 obtain ⟨va,xs⟩:=x
 have hx:xs=allV v l:=hx
 have hxn:xs.length≤1048576:=by
  rw [hx,←allV_eq hs]
  split
  simp
  exact hlen
 rw [←hx] at hy ⊢
 clear hx
 refine SX.re [(0,vY lp),(2,vP b0 0),(3,va)] (rowT 35 1 va encP xs::own b0 (.cells #[vY lp] 46)::((rc::G0)++T)) ?_ (by repeat' (first | exact trivial | refine And.intro rfl ?_))
 refine SX.sr ?_
 refine SL.rowS 0 rfl fun sv hsv=>?_
 refine SL.mv (.r rfl) rfl ?_
 refine SL.call (vs:=[_]) (Hin:=[]) (Hr:=_::_::_) (.r rfl) rfl ⟨rfl,trivial⟩ cal129 rfl rfl (w_back (va:=va) (by rw [hsv];rfl)) ?_
 rintro _ _ ⟨b4,rfl,rfl⟩
 refine ⟨trivial,?_⟩
 refine SL.nx (SX.block ?_)
 refine SX.rangeAt (enc:=encBP) (backL xs) (Hit:=[_,_]) (G0:=own b0 (.cells #[vY lp] 46)::((rc::G0)++T)) (fun pre Gx=>∃G,J (pre.map (·.2)) G∧Gx=own b0 (.cells #[vY lp] 46)::(G++T)) (fun c Gx=>c=.ret∧∃G,X G∧Gx=own b0 (.cells #[vY lp] 46)::(G++T)) rfl cal174 rfl (fun _=>rfl) (q_back hxn) rfl ⟨rc::G0,h0,rfl⟩ (fun pre x suf Gx hxs hJ r lr Rest=>?_) (fun Gx D hJ=>?_) (fun c Gx D hX=>?_)
 obtain ⟨G,hJ,rfl⟩:=hJ
 refine SX.region (SL.asg (.r rfl) rfl (SL.nil ?_))
 refine SQ.bgn (G:=own b0 (.cells #[vY lp] 46)::(G++T)) ?_
 refine SX.block (SX.sr (SL.ld (.r rfl) sc46 rfl (cell_own 0 rfl rfl) (SL.mv (.r rfl) rfl ?_)))
 refine SL.yld (M2:=[own b0 (.cells #[vY lp] 46)]) (G:=G) (T:=T++Tl r lr Rest .busy) (vs:=[_]) (ok:=fun G1=>J ((pre++[x]).map (·.2)) G1) (no:=X) (.r rfl) rfl ⟨rfl,trivial⟩ (by simp [List.append_assoc]) ?_ (fun bb G1 hG1=>⟨trivial,?_⟩)
 intro M
 have hsp:xs.reverse=pre.map (·.2)++x.2::suf.map (·.2):=by
  rw [←backL_map,hxs,List.map_append,List.map_cons]
 have:=hy (pre.map (·.2)) x.2 (suf.map (·.2)) hsp G hJ M
 rw [List.map_append,List.map_cons,List.map_nil]
 exact this
 refine SL.not (.r rfl) rfl (SL.nx ?_)
 refine SX.cond rfl (fun hc2=>?_) (fun hc2=>?_)
 obtain rfl:bb=false:=by simpa using hc2
 refine SX.ret (SQ.blkR ?_)
 exact SQ.rndR ⟨rfl,G1,hG1,rfl⟩ (fun _ hw=>by simpa [List.append_assoc] using hw)
 obtain rfl:bb=true:=by simpa using hc2
 refine SX.skip (SQ.blk ?_)
 exact SQ.rndN ⟨G1,hG1,rfl⟩ (fun _ hw=>by simpa [List.append_assoc] using hw)
 obtain ⟨G,hJ,rfl⟩:=hJ
 rw [backL_map] at hJ
 refine SQ.blk ?_
 exact SQ.fend (res0 rfl) (ret_of (M:=G) (.inl hJ) fun _ h=>h.skip [_])
 obtain ⟨rfl,G,hX,rfl⟩:=hX
 refine SX.ret (SQ.blkR ?_)
 exact SQ.fret (res0 rfl) (ret_of (M:=G) (.inr hX) fun _ h=>h.skip [_])
theorem w_pieces {v:Value} (hv:v.cells=#[v]):Con Tryz.prog K w0 86 [v] [] H (fun u M=>∃bx:Nat,u=.func (.func 126) #[] #[vP bx 0]∧M=[own bx (.cells #[v] 35)]):=by
 refine Con.enter Tryz.func86 rfl rfl ?_
 refine SX.sr ?_
 refine SL.box (.r rfl) rfl (fun _=>trivial) fun b1=>?_
 rw [hv]
 refine SL.asg (.r rfl) rfl (SL.nx (SX.sr ?_))
 refine SL.mkf (fv:=#[]) (cv:=#[_]) (.r rfl) rfl rfl ?_
 refine SL.asg (.r rfl) rfl (SL.nx (SX.ret ?_))
 exact SQ.fret (res1 rfl rfl) (ret_of (M:=[_]) ⟨_,rfl,rfl⟩ fun _ hw=>HpOk.pick (H:=[_]) hw [0] 1 rfl)
end Go.Proofs.YtkibffdipniemaaGreatDoor
