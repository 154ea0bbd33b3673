/- The texts VG2, LG10, LG11, S25, GG32, GG33, LG12, LG13, LG14, LG15, LG16, LG17, LG18, one behind the other: each bears its own sentence. Conditions: as each says. -/
import Derived.Test.YtkibffdipniemaaGreatDoorMA1
import Derived.Test.YtkibffdipniemaaGreatDoorMA2
import Derived.Test.YtkibffdipniemaaGreatDoorMA3
import Derived.Test.YtkibffdipniemaaGreatDoorMA4
import Derived.Test.YtkibffdipniemaaGreatDoorMA5
import Derived.Test.YtkibffdipniemaaGreatDoorMA6
set_option linter.unusedVariables false
set_option linter.unusedSimpArgs false
set_option maxHeartbeats 1000000

/- A vault and what it holds: what is written is read; the laws' vaults. No program's walk in sight. Condition: as each says. -/
namespace Go.Proofs.YtkibffdipniemaaGreatDoor
open Go

structure VS (N c:Nat) (R:List KeyA) (g:UInt32) (v:VltA) (d:DevA):Prop where
 dev:DOk N c d
 ring:v.ring=R
 rlen:R.length≤1099511627776
 gen:v.gen=g
 boot:v.boot=7
 tlen:v.taken.length≤c
structure Held (T:List UInt32) (R:List KeyA) (d:DevA) (p g:UInt32) (q:UInt64) (s b:List UInt8):Prop where
 key:∃k,findA R g=(k,0)∧b=blkA T k ⟨p,g,7,q⟩ s
 txt:s.length≤198
 is:hold d p=b
theorem Held.len {T:List UInt32} {R:List KeyA} {d:DevA} {p g:UInt32} {q:UInt64} {s b:List UInt8} (h:Held T R d p g q s b):b.length=256:=by
 obtain ⟨k,_,rfl⟩:=h.key
 exact blkA_length T k _ h.txt
theorem Held.page {T:List UInt32} {R:List KeyA} {d:DevA} {p g:UInt32} {q:UInt64} {s b:List UInt8} (h:Held T R d p g q s b):pageOf b=p:=by
 obtain ⟨k,_,rfl⟩:=h.key
 exact pageOf_blk T k _ s
theorem Held.opens {T:List UInt32} {R:List KeyA} {d:DevA} {p g:UInt32} {q:UInt64} {s b:List UInt8} (h:Held T R d p g q s b):openA T R b=(⟨p,g,7,q⟩,s,0):=by
 obtain ⟨k,hk,rfl⟩:=h.key
 have hs:sealA T R ⟨p,g,7,q⟩ s=(blkA T k ⟨p,g,7,q⟩ s,0):=by
  unfold sealA
  have:=h.txt
  simp [hk]
  omega
 have:=open_seal (T:=T) (l:=R) (h:=⟨p,g,7,q⟩) (s:=s) (by rw [hs])
 rwa [hs] at this
theorem Held.put {T:List UInt32} {R:List KeyA} {d d':DevA} {p p' g:UInt32} {q:UInt64} {s b b':List UInt8} (h:Held T R d p g q s b) (hd:∀x,hold d' x=if p'=x then b' else hold d x) (hne:p'≠p):Held T R d' p g q s b:=
 ⟨h.key,h.txt,by rw [hd,if_neg hne];exact h.is⟩
theorem ofNat_ne {i j:Nat} (hi:i<4294967296) (hj:j<4294967296) (h:i≠j):UInt32.ofNat i≠UInt32.ofNat j:=fun e=>h (by
 have:=congrArg UInt32.toNat e
 simpa [Nat.mod_eq_of_lt hi,Nat.mod_eq_of_lt hj] using this)
theorem VS.write {T:List UInt32} {N c:Nat} {R:List KeyA} {g:UInt32} {v:VltA} {d:DevA} (V:VS N c R g v d) (hc:c+1≤100) {k:KeyA} (hk:findA R g=(k,0)) {s:List UInt8} (hs:s.length≤198) (j:Nat)
  (h2:2≤j) (hj:j<N) (hfree:takenA v (UInt32.ofNat j)=false) (htk:∀x,2≤x→x<j→takenA v (UInt32.ofNat x)=true):
  ∃v' d' b,f_vv_Write T v d s=some (⟨UInt32.ofNat j,b.drop 224⟩,0,v',d')∧VS N (c+1) R g v' d'∧v'.seals=v.seals+1∧v'.taken=mput v.taken (UInt32.ofNat j) true∧
   (∀q,hold d' q=if UInt32.ofNat j=q then b else hold d q)∧Held T R d' (UInt32.ofNat j) g v.seals s b∧b=blkA T k ⟨UInt32.ofNat j,g,7,v.seals⟩ s∧d'.blocks=d.blocks:=by
 have hN:=V.dev.nle
 have hjn:(UInt32.ofNat j).toNat=j:=by simp;omega
 have hh:hd v (UInt32.ofNat j)=⟨UInt32.ofNat j,g,7,v.seals⟩:=by simp only [hd,V.gen,V.boot]
 have hb:=blkA_length T k (hd v (UInt32.ofNat j)) hs
 have hw:=write_at (T:=T) V.dev hc (by rw [V.ring];exact V.rlen) (by rw [V.ring,V.gen];exact hk) hs h2 hj hfree htk (by have:=V.tlen;omega)
 refine ⟨_,_,_,hw,⟨(V.dev.write hc (by rw [hjn];exact hj) hb).2,V.ring,V.rlen,V.gen,V.boot,?_⟩,rfl,rfl,fun q=>hold_put,⟨⟨k,hk,by rw [hh]⟩,hs,?_⟩,by rw [hh],rfl⟩
 have:(mdel v.taken (UInt32.ofNat j)).length≤v.taken.length:=List.length_filter_le ..
 have:=V.tlen
 show (mdel v.taken (UInt32.ofNat j)).length+1≤c+1
 omega
 rw [hold_put,if_pos rfl]
theorem VS.read {T:List UInt32} {N c:Nat} {R:List KeyA} {g g':UInt32} {v:VltA} {d:DevA} (V:VS N c R g v d) {p:UInt32} {q:UInt64} {s b:List UInt8} (h:Held T R d p g' q s b) (hp2:2≤p.toNat) (hp:p.toNat<N):
  f_vv_Read T v d ⟨p,b.drop 224⟩=some (s,0):=by
 have hb:=h.len
 have hr:f_dd_Read d p=some (b,0):=by rw [V.dev.read hp,h.is]
 have ht:(b.drop 224).length=32:=by simp [hb]
 have hl:v.ring.length≤1099511627776:=by rw [V.ring];exact V.rlen
 have h1:=read_at (T:=T) (v:=v) (d:=d) (r:=⟨p,b.drop 224⟩) hp2 ht hr hb hl
 rw [if_pos ⟨rfl,h.page⟩,V.ring,h.opens] at h1
 exact h1
/-! ### The laws' vaults -/
def d0 (N:Nat):DevA:={ off:=false,isCut:=false,lasts:=0,counts:=0,blocks:=List.replicate N (List.replicate 256 0),pend:=[],bad:=[],rcnt:=0,rtag:=List.replicate 32 0,rboots:=0 }
def v0:VltA:={ ring:=ringA 1,gen:=1,boot:=7,seals:=0,taken:=[] }
theorem d0_ok {N:Nat} (h:N≤4096):DOk N 0 (d0 N):=⟨List.length_replicate ..,h,rfl,rfl,rfl,Nat.le_refl 0,by omega⟩
theorem v0_ok {N:Nat} (h:N≤4096):VS N 0 (ringA 1) 1 v0 (d0 N):=⟨d0_ok h,rfl,by rw [ringA_length];omega,rfl,rfl,Nat.le_refl 0⟩
theorem find1 {m:Nat} (h:1≤m) (hm:m≤16):findA (ringA m) 1=(keyN 0,0):=findA_ring hm h
theorem new07 {N n:Nat} (h4:4≤N) (hN:N≤4096) (hn:N<n):∃r:RDevA,f_ref07_New n (N:Int)=some (some r,0)∧r.blk.length=N:=by
 refine ⟨{ blk:=List.replicate N (List.replicate 256 0),pnd:=List.replicate N [],bads:=List.replicate N false,rcnt:=0,rtag:=List.replicate 32 0,rboots:=0,left := -1,off:=false },?_,List.length_replicate ..⟩
 have z:∀k:Nat,k≤1048576→f_ref07_Zeros (k:Int)=some (List.replicate k 0):=fun k hk=>by
  rw [zeros_eq (by omega) (by omega)]
  simp
 have z1:=z 32 (by omega)
 have z2:=z 256 (by omega)
 clear z
 unfold f_ref07_New
 have hc:(decide ((N:Int)<4)||decide (4096<(N:Int)))=false:=by simp;omega
 rw [hc,cond_false]
 show (f_ref07_Zeros ((32:Nat):Int)).bind _=_
 rw [z1,some_bind]
 generalize List.replicate 32 (0:UInt8)=Y
 generalize List.replicate 256 (0:UInt8)=Z at z2 ⊢
 unfold f_ref07_New_l1
 refine loop_all (fun i=>(List.replicate i Z,List.replicate i [],List.replicate i false,(i:Int))) N ?_ ?_ hn
 intro i hi k
 simp only [f_ref07_New_l1_b]
 rw [decide_eq_true (by omega),cond_true]
 show (f_ref07_Zeros ((256:Nat):Int)).bind _=_
 rw [z2,some_bind,appL_eq (by simp;omega) (by simp;omega),some_bind,appL_eq (by simp;omega) (by simp;omega),some_bind,appL_eq (by simp;omega) (by simp;omega),some_bind,ret_eq,wI_eq (by omega) (by omega)]
 rw [←List.replicate_succ',←List.replicate_succ',←List.replicate_succ']
 rfl
 intro k
 simp only [f_ref07_New_l1_b]
 rw [decide_eq_false (by omega),cond_false]
 rfl
end Go.Proofs.YtkibffdipniemaaGreatDoor

/- Plain laws of saving: pages that have a place, or take one of a vault's. No program in sight. Condition: as each says. -/
namespace Go.Proofs.YtkibffdipniemaaGreatDoor
open Go

/-! ### What is taken -/
structure TkOk (N:Nat) (v:VltA):Prop where
 nd:(v.taken.map (·.1)).Nodup
 tr:∀e∈v.taken,e.2=true∧2≤e.1.toNat∧e.1.toNat<N
theorem TkOk.iff {N:Nat} {v:VltA} (h:TkOk N v) (p:UInt32):takenA v p=true↔p∈v.taken.map (·.1):=by
 unfold takenA
 constructor
 intro hp
 by_cases hm:∃e∈v.taken,e.1=p
 obtain ⟨e,he,rfl⟩:=hm
 exact List.mem_map_of_mem he
 rw [mget_none (fun e he e'=>hm ⟨e,he,e'⟩)] at hp
 exact absurd hp (by decide)
 intro hp
 obtain ⟨e,he,rfl⟩:=List.mem_map.1 hp
 rw [mget_some h.nd he]
 exact (h.tr e he).1
theorem ofNat_toNat {x:UInt32}:UInt32.ofNat x.toNat=x:=UInt32.toNat_inj.1 (by simp)
theorem TkOk.full {N:Nat} {v:VltA} (h:TkOk N v) (hN:N≤4096) (hl:N-2≤v.taken.length):∀x,2≤x→x<N→takenA v (UInt32.ofNat x)=true:=by
 intro x h1 h2
 rw [h.iff]
 by_cases hm:UInt32.ofNat x∈v.taken.map (·.1)
 exact hm
 exfalso
 have hnd:(x::v.taken.map fun e=>e.1.toNat).Nodup:=by
  refine List.nodup_cons.2 ⟨fun hx=>?_,?_⟩
  obtain ⟨e,he,e'⟩:=List.mem_map.1 hx
  refine hm ?_
  rw [←e',ofNat_toNat]
  exact List.mem_map_of_mem he
  have:=h.nd
  rw [show (v.taken.map fun e=>e.1.toNat)=(v.taken.map (·.1)).map UInt32.toNat by simp]
  exact List.Pairwise.map _ (fun a b hab e=>hab (UInt32.toNat_inj.1 e)) this
 have:=nodup_len hnd (l':=(List.range (N-2)).map (·+2)) (fun a ha=>by
  have hb:2≤a∧a<N:=by
   rcases List.mem_cons.1 ha with rfl | ha
   exact ⟨h1,h2⟩
   obtain ⟨e,he,rfl⟩:=List.mem_map.1 ha
   exact (h.tr e he).2
  exact List.mem_map.2 ⟨a-2,List.mem_range.2 (by omega),by omega⟩)
 simp at this
 omega
theorem least_of {P:Nat→Prop}:∀k,(∃j,j<k∧P j)→∃j,j<k∧P j∧∀x,x<j→¬P x
 | 0,⟨j,h,_⟩=>by omega
 | k+1,⟨j,h,hP⟩=>by
  by_cases hk:∃i,i<k∧P i
  obtain ⟨i,h1,h2,h3⟩:=least_of k hk
  exact ⟨i,by omega,h2,h3⟩
  have:j=k:=by
   rcases Nat.lt_or_ge j k with h' | h'
   exact absurd ⟨j,h',hP⟩ hk
   omega
  subst this
  exact ⟨j,by omega,hP,fun x hx hPx=>hk ⟨x,hx,hPx⟩⟩
theorem TkOk.free {N:Nat} {v:VltA} (h:TkOk N v) (hN:N≤4096) (hl:v.taken.length<N-2):∃j,2≤j∧j<N∧takenA v (UInt32.ofNat j)=false∧∀x,2≤x→x<j→takenA v (UInt32.ofNat x)=true:=by
 have:∃j,j<N∧(2≤j∧takenA v (UInt32.ofNat j)=false):=by
  by_cases hx:∃j,j<N∧(2≤j∧takenA v (UInt32.ofNat j)=false)
  exact hx
  exfalso
  have hnd:((List.range (N-2)).map (fun i=>UInt32.ofNat (i+2))).Nodup:=by
   refine List.pairwise_map.2 (List.Pairwise.imp_of_mem ?_ List.nodup_range)
   intro a b ha hb hne
   have ha:=List.mem_range.1 ha
   have hb:=List.mem_range.1 hb
   exact ofNat_ne (by omega) (by omega) (by omega)
  have:=nodup_len hnd (l':=v.taken.map (·.1)) (fun a ha=>by
   obtain ⟨i,hi,rfl⟩:=List.mem_map.1 ha
   have hi:=List.mem_range.1 hi
   rw [←h.iff]
   cases hc:takenA v (UInt32.ofNat (i+2)) with
   | true=>rfl
   | false=>exact absurd ⟨i+2,by omega,by omega,hc⟩ hx)
  simp at this
  omega
 obtain ⟨j,h1,⟨h2,h3⟩,h4⟩:=least_of N this
 refine ⟨j,h2,h1,h3,fun x hx1 hx2=>?_⟩
 cases hc:takenA v (UInt32.ofNat x) with
 | true=>rfl
 | false=>exact absurd ⟨hx1,hc⟩ (h4 x hx2)
/-! ### A page that can be read -/
def Rd (T:List UInt32) (R:List KeyA) (N:Nat) (v:VltA) (d:DevA) (s:SavedA):Prop:=2≤s.page.toNat∧s.page.toNat<N∧takenA v s.page=true∧∃g' qn b,Held T R d s.page g' qn s.txt b∧s.tag=b.drop 224
theorem Rd.ok {T:List UInt32} {R:List KeyA} {N c:Nat} {g:UInt32} {v:VltA} {d:DevA} {s:SavedA} (V:VS N c R g v d) (h:Rd T R N v d s):f_vv_Read T v d ⟨s.page,s.tag⟩=some (s.txt,0)∧refOk ⟨s.page,s.tag⟩=true∧s.txt.length≤198:=by
 obtain ⟨h1,h2,_,g',qn,b,hb,ht⟩:=h
 have hl:=hb.len
 refine ⟨by rw [ht];exact V.read hb h1 h2,?_,hb.txt⟩
 unfold refOk
 rw [Bool.and_eq_true,decide_eq_true_eq,decide_eq_true_eq]
 refine ⟨UInt32.le_iff_toNat_le.2 h1,?_⟩
 show (s.tag.length:Int)=32
 rw [ht,List.length_drop,hl]
 rfl
structure SvI (N c0:Nat) (R:List KeyA) (g:UInt32) (vb:VltA) (db:DevA) (q:SvA):Prop where
 vs:VS N (c0+q.tk.length) R g q.v q.d
 seals:q.v.seals=vb.seals+UInt64.ofNat q.tk.length
 tak:q.v.taken=(q.tk.map fun p=>(p,true)).reverse++vb.taken
 ok:TkOk N q.v
 keep:∀p,p∉q.tk→hold q.d p=hold db p
 lim:c0+q.tk.length+(N-2-q.v.taken.length)≤100
theorem SvI.notin {N c0:Nat} {R:List KeyA} {g:UInt32} {vb:VltA} {db:DevA} {q:SvA} (S:SvI N c0 R g vb db q) (hb:TkOk N vb) {p:UInt32} (h:takenA vb p=true):p∉q.tk∧takenA q.v p=true:=by
 rw [hb.iff] at h
 constructor
 intro hp
 have:=S.ok.nd
 rw [S.tak,List.map_append] at this
 refine (List.nodup_append.1 this).2.2 p ?_ p h rfl
 rw [List.map_reverse,List.mem_reverse,List.map_map]
 exact List.mem_map.2 ⟨p,hp,rfl⟩
 rw [S.ok.iff,S.tak,List.map_append]
 exact List.mem_append_right _ h
theorem SvI.base {T:List UInt32} {N c0:Nat} {R:List KeyA} {g:UInt32} {vb:VltA} {db:DevA} {q:SvA} (S:SvI N c0 R g vb db q) (hb:TkOk N vb) {s:SavedA} (h:Rd T R N vb db s):Rd T R N q.v q.d s:=by
 obtain ⟨h1,h2,h3,g',qn,b,hb',ht⟩:=h
 obtain ⟨h4,h5⟩:=S.notin hb h3
 exact ⟨h1,h2,h5,g',qn,b,⟨hb'.key,hb'.txt,by rw [S.keep _ h4];exact hb'.is⟩,ht⟩
end Go.Proofs.YtkibffdipniemaaGreatDoor

/- Plain laws of saving: what grove.Save answers. No program in sight. Condition: as each says. -/
namespace Go.Proofs.YtkibffdipniemaaGreatDoor
open Go

/-! ### How many pages -/
theorem pages_le:∀ {f:Nat} {l:List RowA} {t:NodeP},Tr f l t→(l=[]→pgN f t=1)∧(l≠[]→pgN f t+1≤2*l.length)
  | 0,_,_,h=>h.elim
  | f+1,l,t,h=>by
    rcases h with ⟨rfl,rfl⟩ | ⟨hne,c,L,A,⟨_,rfl⟩ | ⟨h4,hL,ks,rfl,hk⟩⟩
    exact ⟨fun _=>rfl,fun h=>absurd rfl h⟩
    refine ⟨fun h=>absurd h hne,fun _=>?_⟩
    have:=List.length_pos_iff.2 hne
    rw [pgN,if_pos (show (NodeP.mk c.x c.y c.lev l []).kids.length=0 from rfl)]
    simp only [NodeP.rows]
    omega
    refine ⟨fun h=>absurd h hne,fun _=>?_⟩
    have hkl:=hk.length
    have hq2:=(qlist_two A hL).1
    rw [pgN,if_neg (by simp only [NodeP.kids];omega)]
    simp only [NodeP.kids]
    have key:∀ {xs:List (List RowA)} {ys:List NodeP},All2 (Tr f) xs ys→(∀x∈xs,x≠[])→(ys.map (pgN f)).sum+xs.length≤2*xs.flatten.length:=by
      intro xs ys h
      induction h with
      | nil=>simp
      | @cons x y xs ys h1 h2 ih=>
        intro hx
        have a1:=(pages_le h1).2 (hx _ (by simp))
        have a2:=ih fun x hx'=>hx x (by simp [hx'])
        simp only [List.map_cons,List.sum_cons,List.length_cons,List.flatten_cons,List.length_append]
        omega
    have:=key hk fun x hx=>(qlist_mem hx).1
    rw [(qlist_perm L l).length_eq] at this
    omega
theorem pages_pos {f:Nat} {l:List RowA} {t:NodeP} (h:Tr f l t) (hl:l.length≤1000):pgN f t≤max 1 (2*l.length):=by
  obtain ⟨h1,h2⟩:=pages_le h
  by_cases e:l=[]
  rw [h1 e];omega
  have:=h2 e
  omega
/-! ### Where pages go -/
theorem keyS_ok {s:List UInt8} (h:s.length≤1048576):keyS s=some ⟨s,h⟩:=dif_pos h
theorem mdel_no {m:List (UInt32×Bool)} {p:UInt32} (h:p∉m.map (·.1)):mdel m p=m:=mdel_all fun e he e'=>h (by rw [←e'];exact List.mem_map_of_mem he)
theorem sav_ok {T:List UInt32} {N c0:Nat} {R:List KeyA} {g:UInt32} {vb:VltA} {db:DevA} {th:List (KeyS×RefA)} {k:KeyA} (hb:TkOk N vb) (hN:N≤4096) (hk:findA R g=(k,0)) (hth:∀key r,mget th key=some r→Rd T R N vb db ⟨key.1,r.page,r.tag⟩):
    WhOk (savWh T th) (SvI N c0 R g vb db) (fun q s=>Rd T R N q.v q.d s) (fun q=>N-2-q.v.taken.length):=by
  refine ⟨fun q s S hs=>?_⟩
  unfold savWh
  rw [keyS_ok (show s.length≤1048576 by omega),some_bind]
  cases hm:mget th ⟨s,by omega⟩ with
  | some r=>
    have hr:=S.base hb (hth _ r hm)
    exact ⟨r,0,q,rfl,S,fun _ h=>h,.inl ⟨rfl,(hr.ok S.vs).2.1,hr,Nat.le_succ _⟩⟩
  | none=>
    rw [show (none:Option RefA).isSome=false from rfl,cond_false]
    by_cases hroom:q.v.taken.length<N-2
    obtain ⟨j,j1,j2,j3,j4⟩:=S.ok.free hN hroom
    have hlim:=S.lim
    obtain ⟨v',d',b,e1,V1,s1,t1,h1,H1,_,_⟩:=S.vs.write (T:=T) (by omega) hk hs j j1 j2 j3 j4
    have hjn:(UInt32.ofNat j).toNat=j:=by simp;omega
    have hnin:UInt32.ofNat j∉q.v.taken.map (·.1):=by
      rw [←S.ok.iff,j3]
      decide
    have htk:v'.taken=(UInt32.ofNat j,true)::q.v.taken:=by rw [t1,mput,mdel_no hnin]
    have hok:TkOk N v':=by
      refine ⟨?_,fun e he=>?_⟩
      rw [htk,List.map_cons]
      exact List.nodup_cons.2 ⟨hnin,S.ok.nd⟩
      rw [htk] at he
      rcases List.mem_cons.1 he with rfl | he
      exact ⟨rfl,by rw [hjn];exact j1,by rw [hjn];exact j2⟩
      exact S.ok.tr e he
    have hntk:UInt32.ofNat j∉q.tk:=fun hj=>hnin (by
      rw [S.tak,List.map_append]
      refine List.mem_append_left _ ?_
      rw [List.map_reverse,List.mem_reverse,List.map_map]
      exact List.mem_map.2 ⟨_,hj,rfl⟩)
    rw [e1,some_bind]
    dsimp only
    rw [show decide ((0:Int)=0)=true from rfl,cond_true,appL_eq (by simp;omega) (by simp;omega),some_bind]
    have hlen:(q.tk++[UInt32.ofNat j]).length=q.tk.length+1:=by simp
    refine ⟨_,0,⟨q.tk++[UInt32.ofNat j],v',d'⟩,rfl,⟨?_,?_,?_,hok,fun p hp=>?_,?_⟩,fun x hx=>?_,.inl ⟨rfl,?_,?_,?_⟩⟩
    show VS N (c0+(q.tk++[UInt32.ofNat j]).length) R g v' d'
    rw [hlen]
    exact V1
    show v'.seals=vb.seals+UInt64.ofNat (q.tk++[UInt32.ofNat j]).length
    rw [s1,S.seals,hlen,UInt64.ofNat_add,UInt64.add_assoc]
    rfl
    show v'.taken=_
    rw [htk,S.tak]
    simp
    simp only [List.mem_append,List.mem_singleton,not_or] at hp
    show hold d' p=_
    rw [h1,if_neg (fun e=>hp.2 e.symm)]
    exact S.keep p hp.1
    show c0+(q.tk++[UInt32.ofNat j]).length+(N-2-v'.taken.length)≤100
    rw [hlen,htk,List.length_cons]
    omega
    obtain ⟨x1,x2,x3,g',qn,b',x4,x5⟩:=hx
    have hne:UInt32.ofNat j≠x.page:=fun e=>by
      rw [←e,j3] at x3
      exact absurd x3 (by decide)
    refine ⟨x1,x2,?_,g',qn,b',x4.put h1 hne,x5⟩
    show takenA v' x.page=true
    rw [hok.iff,htk,List.map_cons]
    exact List.mem_cons_of_mem _ ((S.ok.iff _).1 x3)
    have hl:=H1.len
    unfold refOk
    rw [Bool.and_eq_true,decide_eq_true_eq,decide_eq_true_eq]
    refine ⟨UInt32.le_iff_toNat_le.2 (by rw [hjn];exact j1),?_⟩
    rw [List.length_drop,hl]
    rfl
    refine ⟨by rw [hjn];exact j1,by rw [hjn];exact j2,?_,g,q.v.seals,b,H1,rfl⟩
    show takenA v' (UInt32.ofNat j)=true
    rw [hok.iff,htk]
    simp
    show N-2-q.v.taken.length≤N-2-v'.taken.length+1
    rw [htk,List.length_cons]
    omega
    have hw:=write_full (T:=T) S.vs.dev hs (S.ok.full hN (by omega))
    rw [hw,some_bind]
    dsimp only
    rw [show decide ((110:Int)=0)=false from rfl,cond_false]
    exact ⟨_,110,q,rfl,S,fun _ h=>h,.inr ⟨rfl,by omega⟩⟩
/-! ### What was had -/
theorem there_eq:∀(l:List (Int×SavedA)) (m:List (KeyS×RefA)),(∀s∈l,s.2.txt.length≤1048576)→m.length+l.length≤1000000000→
    ∃m',thereB l m=some m'∧∀k:KeyS,mget m' k=((l.reverse.find? fun s=>decide (s.2.txt=k.1)).map fun s=>(⟨s.2.page,s.2.tag⟩:RefA)).or (mget m k)
  | [],m,_,_=>⟨m,rfl,fun k=>by simp⟩
  | s::l,m,h,hb=>by
    simp only [List.length_cons] at hb
    have hd:(mdel m ⟨s.2.txt,h s (by simp)⟩).length≤m.length:=List.length_filter_le ..
    obtain ⟨m',h1,h2⟩:=there_eq l (mput m ⟨s.2.txt,h s (by simp)⟩ ⟨s.2.page,s.2.tag⟩) (fun x hx=>h x (by simp [hx])) (by
      show (mdel m _).length+1+l.length≤_
      omega)
    refine ⟨m',?_,fun k=>?_⟩
    rw [thereB,keyS_ok (h s (by simp)),some_bind]
    unfold mputI
    rw [if_pos (by omega),some_bind]
    exact h1
    rw [h2 k,List.reverse_cons,List.find?_append,mget_put]
    cases hf:l.reverse.find? fun s=>decide (s.2.txt=k.1) with
    | some x=>rfl
    | none=>
      simp only [Option.map_none,Option.none_or,List.find?_singleton]
      by_cases e:s.2.txt=k.1
      rw [if_pos (Subtype.ext e),if_pos (by simpa using e)]
      rfl
      rw [if_neg (fun e'=>e (congrArg Subtype.val e')),if_neg (by simpa using e)]
      rfl
theorem backL_rev {α:Type} (xs:List α):(backL xs).reverse.map (·.2)=xs:=by
  unfold backL
  rw [List.reverse_reverse,List.map_map]
  have:((fun x:Int×α=>x.2)∘fun p:α×Nat=>((p.2:Int),p.1))=Prod.fst:=rfl
  rw [this,List.zipIdx_map_fst]
theorem backL_mem {α:Type} {xs:List α} {s:Int×α} (h:s∈backL xs):s.2∈xs:=by
  rw [←backL_rev xs]
  exact List.mem_map_of_mem (List.mem_reverse.2 h)
theorem there_had (had:List SavedA) (h:∀s∈had,s.txt.length≤1048576) (hb:had.length≤1000000000):∃th,thereB (backL had) []=some th∧∀k:KeyS,mget th k=(had.find? fun s=>decide (s.txt=k.1)).map fun s=>(⟨s.page,s.tag⟩:RefA):=by
  obtain ⟨th,h1,h2⟩:=there_eq (backL had) [] (fun s hs=>h _ (backL_mem hs)) (by rw [backL_length];simpa using hb)
  refine ⟨th,h1,fun k=>?_⟩
  rw [h2 k,show mget ([]:List (KeyS×RefA)) k=none from rfl,Option.or_none]
  conv=>rhs;rw [←backL_rev had]
  rw [List.find?_map,Option.map_map]
  rfl
/-! ### What is given back -/
theorem give_all {N:Nat} (hN:N≤4096):∀(tk:List UInt32) (v:VltA) (d:DevA) (base:List (UInt32×Bool)),d.blocks.length=N→v.taken=(tk.map fun p=>(p,true)).reverse++base→(v.taken.map (·.1)).Nodup→(∀p∈tk,2≤p.toNat∧p.toNat<N)→
    giveF tk v d=some { v with taken:=base }
  | [],v,d,base,_,h,_,_=>by
    simp at h
    rw [giveF,←h]
  | p::tk,v,d,base,hd,h,hn,hr=>by
    obtain ⟨r1,r2⟩:=hr p (by simp)
    have hmem:(p,true)∈v.taken:=by rw [h];simp
    have hg:=mget_some hn hmem
    have hdel:mdel v.taken p=(tk.map fun p=>(p,true)).reverse++base:=by
      rw [h] at hn ⊢
      simp only [List.map_cons,List.reverse_cons,List.append_assoc,List.singleton_append,List.map_append] at hn ⊢
      obtain ⟨n1,n2,n3⟩:=List.nodup_append.1 hn
      obtain ⟨n4,n5⟩:=List.nodup_cons.1 n2
      unfold mdel
      rw [List.filter_append,List.filter_cons_of_neg (by simp)]
      congr 1
      exact mdel_no (m:=(tk.map fun p=>(p,true)).reverse) fun hp=>n3 p hp p (by simp) rfl
      exact mdel_no n4
    have hi:f_vv_isPage v d p=some true:=by
      have:=isPage_eq v d p.toNat r1 (by omega)
      rw [ofNat_toNat,hd,decide_eq_true r2] at this
      exact this
    have hgive:f_vv_Give v d p=some (0,{ v with taken:=mdel v.taken p }):=by
      unfold f_vv_Give
      rw [hi,some_bind,ret_eq,hg]
      rfl
    rw [giveF,hgive,some_bind]
    have:=give_all hN tk { v with taken:=mdel v.taken p } d base hd hdel (by
      show ((mdel v.taken p).map (·.1)).Nodup
      exact mdel_nodup hn) (fun q hq=>hr q (by simp [hq]))
    exact this
/-! ### Saving -/
theorem rightR_len {l:List RowA} (h:rightR l=true):l.length≤1000:=by
  unfold rightR at h
  simp only [Bool.and_eq_true,decide_eq_true_eq] at h
  omega
theorem save_res {n:Nat} {T:List UInt32} {N c0:Nat} {R:List KeyA} {g:UInt32} {vb:VltA} {db:DevA} {k:KeyA} {l:List RowA} {had:List SavedA} (hn:1100≤n) (hN:N≤4096) (V:VS N c0 R g vb db) (hb:TkOk N vb) (hk:findA R g=(k,0)) (hl:rightR l=true)
    (hhad:∀s∈had,Rd T R N vb db s) (hlen:had.length≤100000) (hlim:c0+(N-2-vb.taken.length)≤100):
    ∃t th,buildF n l=some (t,0)∧Tr n l t∧(∀k:KeyS,mget th k=(had.find? fun s=>decide (s.txt=k.1)).map fun s=>(⟨s.page,s.tag⟩:RefA))∧
      ((∃r out q,saveF n T vb db l had=some (out,0,q.v,q.d)∧RunT n t out r∧refOk r=true∧SvI N c0 R g vb db q∧(∀s∈out,Rd T R N q.v q.d s)∧out.length=pgN n t∧Path (savWh T th) ⟨[],vb,db⟩ out q∧N-2-vb.taken.length≤N-2-q.v.taken.length+pgN n t)∨
       (∃v d c,saveF n T vb db l had=some ([],110,v,d)∧N-2-vb.taken.length<pgN n t∧v.taken=vb.taken∧VS N c R g v d)):=by
  obtain ⟨t,h1,_,hT⟩:=build_ok (n:=n) (l:=l) (by omega) hl
  obtain ⟨th,h2,h3⟩:=there_had had (fun s hs=>by have:=((hhad s hs).ok V).2.2;omega) (by omega)
  have hth:∀(key:KeyS) r,mget th key=some r→Rd T R N vb db ⟨key.1,r.page,r.tag⟩:=by
    intro key r hr
    rw [h3 key] at hr
    obtain ⟨s,hs,rfl⟩:=Option.map_eq_some_iff.1 hr
    have h5:=List.find?_some hs
    simp only [decide_eq_true_eq] at h5
    rw [←h5]
    exact hhad s (List.mem_of_find?_eq_some hs)
  have W:=sav_ok (T:=T) (c0:=c0) (db:=db) hb hN hk hth
  have hpg:=pages_pos hT (rightR_len hl)
  have hl1:=rightR_len hl
  have S0:SvI N c0 R g vb db ⟨[],vb,db⟩:=⟨V,by simp,by simp,hb,fun _ _=>rfl,by simpa using hlim⟩
  obtain ⟨r,p',q,e1,e2,e3,e4,e5⟩:=node_res W (n:=n) (by omega) n l t ⟨[],0⟩ ⟨[],vb,db⟩ hT hl S0 rfl (by simp;omega)
  refine ⟨t,th,h1,hT,h3,?_⟩
  have hsave:saveF n T vb db l had=saveE (r,(p',q)):=by
    unfold saveF
    rw [h1,some_bind,show (!decide ((0:Int)=0))=false from rfl,cond_false,if_neg (by omega),h2,some_bind,e1,some_bind]
  rw [hsave]
  unfold saveE
  rcases e5 with ⟨w,seg,o1,o2,o3,o4,o5,o6⟩ | ⟨w,o6⟩
  left
  simp only [List.nil_append] at o1
  refine ⟨r,seg,q,?_,o3,e2 w,e3,o5,o2,o4,o6⟩
  dsimp only
  rw [w,show (!decide ((0:Int)=0))=false from rfl,cond_false,o1]
  right
  have hlim2:=e3.lim
  refine ⟨{ q.v with taken:=vb.taken },q.d,c0+q.tk.length,?_,o6,rfl,?_⟩
  dsimp only
  rw [w,show (!decide ((110:Int)=0))=true from rfl,cond_true,if_neg (by omega),give_all hN q.tk q.v q.d vb.taken e3.vs.dev.blen e3.tak e3.ok.nd (fun p hp=>by
    have:=e3.ok.tr (p,true) (by rw [e3.tak];refine List.mem_append_left _ ?_;rw [List.mem_reverse];exact List.mem_map.2 ⟨p,hp,rfl⟩)
    exact this.2),some_bind]
  have V':=e3.vs
  exact ⟨V'.dev,V'.ring,V'.rlen,V'.gen,V'.boot,Nat.le_trans V.tlen (Nat.le_add_right ..)⟩
end Go.Proofs.YtkibffdipniemaaGreatDoor

/- The engine: a make of no elements whose room is a number that is known when it runs. No condition beyond those stated. -/
namespace Go.Proofs.YtkibffdipniemaaGreatDoor
open Go
variable {P:Program} {ro:Option Nat} {K:Nat→Prop} {w0:World} {N:Nat} {Q:Post} {D:List Nat} {l l':Tm} {H H' Hs L:List Chunk} {ops:Array Oper} {items:Its}
variable {tk:Bool} {o:Oper} {t:Nat} {v:Value} {x y z:Operand}

def capI (by_:Nat) (c:Int):Option Unit:=if 0≤c∧(by_:Int)*c≤281474976710656∧c≤9223372036854775807 then some () else none
theorem SL.mkC {α:Type} {e ty:TypeId} {sz by_:Nat} {c:Int} {u:Unit} {zv:Value} {k k':IntKind} (hn:capI by_ c=some u) (enc:α→List Value) (ho:At ops N l o t (.makeSlice ty x y)) (hty:P.underlying ty=some (.slice e)) (hsz:tsz P e=some sz) (hby:byt P e=some by_) (hze:zer P e=some zv) (hzs:zv.cells.size=sz)
  (hx:evl l x=some (.int k 0)) (hy:evl l y=some (.int k' c))
  (hs:∀v',SubI Hs (rowT e sz v' enc ([]:List α)::H)) (h:∀v',SL P ro K w0 N ops Hs items Q D ((t,v')::l) (rowT e sz v' enc ([]:List α)::H)):SL P ro K w0 N ops Hs (.cons (false,o) items) Q D l H:=by
 unfold capI at hn
 split at hn
 rename_i hc
 obtain ⟨h1,h2,h3⟩:=hc
 obtain ⟨n,rfl⟩:∃n:Nat,c=(n:Int):=⟨c.toNat,by omega⟩
 refine SL.mkT (n:=n) enc ho hty hsz hby hze hzs hx hy (Nat.ble_eq_true_of_le ?_) (Nat.ble_eq_true_of_le (by omega)) hs h
 rw [←Int.natCast_mul] at h2
 omega
 cases hn
theorem SlOf.cut {α:Type} {enc:α→List Value} {sz:Nat} {xs:List α} {b off cap q:Nat} (hl:∀x,(enc x).length=sz) (hcap:xs.length≤cap) (hc:∀j u,(xs.flatMap enc)[j]? = some u→K b∧w0.cell? ⟨b,off+j,none⟩=some u) (hq:q≤xs.length):SlOf K w0 enc sz (.slice (some ⟨b,off+q*sz,none⟩) (xs.length-q) (cap-q)) (xs.drop q):=by
 refine ⟨hl,.inr ⟨b,off+q*sz,cap-q,by simp,by simp;omega,fun j u hu=>?_⟩⟩
 have hpre:(xs.take q).flatMap enc++(xs.drop q).flatMap enc=xs.flatMap enc:=by
  rw [←List.flatMap_append,List.take_append_drop]
 have hlen:((xs.take q).flatMap enc).length=q*sz:=by rw [flatMap_len hl,List.length_take,Nat.min_eq_left hq]
 have:=hc (q*sz+j) u (by
  rw [←hpre,List.getElem?_append_right (by omega),hlen,Nat.add_sub_cancel_left]
  exact hu)
 rw [Nat.add_assoc]
 exact this
theorem SL.slVL {α:Type} {enc:α→List Value} {sz:Nat} {xs us:List α} {k:IntKind} {j:Int} {ty e:TypeId} (hn:slcI xs j (xs.length:Int)=some us) (hk:SlOf K w0 enc sz v xs) (ho:At ops N l o t (.slice ty x (some z) none none)) (hty:P.underlying ty=some (.slice e)) (hsz:tsz P e=some sz) (hx:evl l x=some v) (hz:evl l z=some (.int k j))
  (h:∀v',SlOf K w0 enc sz v' us→SL P ro K w0 N ops Hs items Q D ((t,v')::l) H):SL P ro K w0 N ops Hs (.cons (tk,o) items) Q D l H:=by
 obtain ⟨h1,h2,h3,h4,rfl⟩:=slcI_some hn
 have e2:(xs.drop j.toNat).take ((xs.length:Int).toNat-j.toNat)=xs.drop j.toNat:=List.take_of_length_le (by simp)
 rw [e2] at h
 generalize j.toNat=q at*
 subst h1
 simp only [Int.toNat_natCast] at h3
 rcases hk.at_ with ⟨a0,rfl,rfl⟩ | ⟨b,off,cap,rfl,hcap,hc⟩
 have hq:q=0:=by simpa using h3
 subst hq
 refine SL.val (v:=.slice a0 0 0) ho rfl (fun a w ha _=>?_) (h _ ⟨hk.len,.inl ⟨_,rfl,by simp⟩⟩)
 simp only [execOp,ho.op,Instr.sliceAt,Instr.slice,Option.map]
 cases a0<;>simp [ha.eval hx,ha.eval hz,run_underlying hty,run_sizeOf hsz,Instr.sliceBounds,Instr.sliceBound,asIntOf]
 by_cases hqc:q<cap
 exact SL.slLR q ho hty hsz hx hz rfl h3 hqc (h _ (SlOf.cut hk.len hcap hc h3))
 have hqe:q=xs.length:=by omega
 have hce:cap=xs.length:=by omega
 subst hqe hce
 refine SL.val (v:=.slice (some ⟨b,off,none⟩) 0 0) ho rfl (fun a w ha _=>?_) (h _ ⟨hk.len,.inl ⟨_,rfl,by simp⟩⟩)
 simp only [execOp,ho.op,Instr.sliceAt,Instr.slice,Option.map]
 simp [ha.eval hx,ha.eval hz,run_underlying hty,run_sizeOf hsz,Instr.sliceBounds,Instr.sliceBound,asIntOf,Addr.add_mk]
end Go.Proofs.YtkibffdipniemaaGreatDoor

/- Plain functions of the references and the laws, printed from the loaded program, and the walks that show that the program computes them. Condition: the plain function yields. -/
namespace Go.Proofs.YtkibffdipniemaaGreatDoor
open Go
variable {K:Nat→Prop} {w0:World} {H:List Chunk}

def f_law14_made (n:Nat) (p0:Int):Option (Option (VltA×DevA×RVltA×RDevA)×Bool):=
 (f_device_New p0).bind fun y1=>
 (y1.1).bind fun d1=>
 (f_ref07_New n p0).bind fun y2=>
 (y2.1).bind fun d2=>
 cond ((!decide (y1.2=0))||(!decide (y2.2=0)))
 (
  some (none,false))
 (
  (f_law13_Ring n 1).bind fun y3=>
  (f_vault_New d1 y3 1 7).bind fun y4=>
  (y4.1).bind fun d3=>
  (f_law13_Ring n 1).bind fun y5=>
  (f_ref13_New n d2 y5 1 7).bind fun y6=>
  (y6.1).bind fun d4=>
  ret ((decide (y4.2=0))&&(decide (y6.2=0))) fun x1=>
  some (some (d3,d1,d4,d2),x1))
set_option maxHeartbeats 4000000 in
set_option maxRecDepth 100000 in
theorem c_law14_made {n:Nat} {p0:Int} {r:Option (VltA×DevA×RVltA×RDevA)×Bool} (h:f_law14_made n p0=some r)  : Con Tryz.prog K w0 12 [vI p0] [] H (fun u M=>(r.1=none∧u=.tuple #[.pointer none,.pointer none,.pointer none,vB r.2]∧M=[])∨(∃(d:VltA×DevA×RVltA×RDevA) (bn0:Nat) (vn0x1:Value) (mn0x5:Nat) (bn1:Nat) (vn1x4:Value) (mn1x5:Nat) (mn1x6:Nat) (bn2:Nat) (vn2x1:Value) (vn2x5:Value) (bn3:Nat) (vn3x0:Value) (vn3x1:Value) (vn3x2:Value),r.1=some d∧u=.tuple #[vP bn0 0,vP bn1 0,vP bn2 0,vB r.2]∧M=[own bn0 (.cells #[vP bn1 0,vn0x1,vU32 d.1.gen,vU32 d.1.boot,vU64 d.1.seals,.map (some mn0x5)] 96),rowT 138 2 vn0x1 encKey d.1.ring,mapC mn0x5 vU32 vB d.1.taken,own bn1 (.cells #[vB d.2.1.off,vB d.2.1.isCut,vI d.2.1.lasts,vI d.2.1.counts,vn1x4,.map (some mn1x5),.map (some mn1x6),vU64 d.2.1.rcnt,vS d.2.1.rtag,vU32 d.2.1.rboots] 130),rowT 9 1 vn1x4 eS d.2.1.blocks,mapC mn1x5 vU32 vS d.2.1.pend,mapC mn1x6 vU32 vB d.2.1.bad,own bn2 (.cells #[vP bn3 0,vn2x1,vU32 d.2.2.1.gen,vU32 d.2.2.1.boot,vU64 d.2.2.1.num,vn2x5] 69),rowT 138 2 vn2x1 encKey d.2.2.1.ring,rowT 4 1 vn2x5 eB d.2.2.1.taken,own bn3 (.cells #[vn3x0,vn3x1,vn3x2,vU64 d.2.2.2.rcnt,vS d.2.2.2.rtag,vU32 d.2.2.2.rboots,vI d.2.2.2.left,vB d.2.2.2.off] 132),rowT 9 1 vn3x0 eS d.2.2.2.blk,rowT 9 1 vn3x1 eS d.2.2.2.pnd,rowT 4 1 vn3x2 eB d.2.2.2.bads])):=by
 unfold f_law14_made at h
 refine Con.enter Tryz.func12 rfl rfl ?_
 refine SX.sr (SL.asg (.r rfl) rfl (SL.asg (.r rfl) rfl (SL.asg (.r rfl) rfl (SL.asg (.r rfl) rfl (SL.nx (SX.sr ?_))))))
 obtain ⟨y1,hy1,h⟩:=bnd h
 obtain ⟨d1,hd1,h⟩:=bnd h
 refine SL.mv (.r rfl) rfl ?_
 refine SL.call (vs:=[_]) (Hin:=[]) (Hr:=_) (.r rfl) rfl ⟨rfl,trivial⟩ cal40 rfl rfl (c_device_New hy1) ?_
 rintro _ _ (⟨hn,-,-⟩ | ⟨d_,b1,v1,m1,m2,hn,rfl,rfl⟩)
 rw [hd1] at hn;cases hn
 obtain rfl:d1=d_:=Option.some.inj (hd1.symm.trans hn)
 refine ⟨trivial,?_⟩
 refine SL.mv (.r rfl) rfl (SL.ext (.r rfl) rfl rfl (SL.ext (.r rfl) rfl rfl (SL.asg (.r rfl) rfl (SL.asg (.r rfl) rfl (SL.nx (SX.sr ?_))))))
 obtain ⟨y2,hy2,h⟩:=bnd h
 obtain ⟨d2,hd2,h⟩:=bnd h
 refine SL.mv (.r rfl) rfl ?_
 refine SL.call (vs:=[_]) (Hin:=[]) (Hr:=_::_::_::_::_) (.r rfl) rfl ⟨rfl,trivial⟩ cal41 rfl rfl (c_ref07_New hy2) ?_
 rintro _ _ (⟨hn,-,-⟩ | ⟨d_,b2,v2,v3,v4,hn,rfl,rfl⟩)
 rw [hd2] at hn;cases hn
 obtain rfl:d2=d_:=Option.some.inj (hd2.symm.trans hn)
 refine ⟨trivial,?_⟩
 refine SL.mv (.r rfl) rfl (SL.ext (.r rfl) rfl rfl (SL.ext (.r rfl) rfl rfl (SL.asg (.r rfl) rfl (SL.asg (.r rfl) rfl (SL.nx (SX.seq (SX.sr (SL.mv (.r rfl) rfl (SL.bin (.r rfl) rfl rfl Bin.neI (SL.mv (.r rfl) rfl ?_))))))))))
 refine SL.or (c := !decide (y2.2=0)) 26 3 29 rfl (fun hb k=>?_) (fun hb k=>?_) ?_
 refine SL.pass rfl rfl rfl (SL.pass rfl rfl rfl (SL.pk (.r rfl) rfl rfl ?_))
 exact k.mono (by repeat' (first | exact trivial | refine And.intro rfl ?_))
 refine SL.mv (.r rfl) rfl (SL.bin (.r rfl) rfl rfl Bin.neI (SL.pk (.r rfl) rfl rfl ?_))
 exact k.mono (by repeat' (first | exact trivial | refine And.intro rfl ?_))
 refine SL.nx ?_
 refine SX.cond rfl (fun hc1=>?_) (fun hc1=>?_)
 replace h:=cT hc1 h
 refine SX.sr (SL.asg (.r rfl) rfl (SL.asg (.r rfl) rfl (SL.asg (.r rfl) rfl (SL.asg (.r rfl) rfl (SL.nx (SX.ret (SQ.thnR ?_)))))))
 obtain rfl:=Option.some.inj h
 exact SQ.fret (res4 rfl rfl rfl rfl rfl) (ret_of (M:=[]) (.inl ⟨rfl,rfl,rfl⟩) fun _ hw=>HpOk.pick (H:=[_,_,_,_,_,_,_,_]) hw [] 8 rfl)
 replace h:=cF hc1 h
 refine SX.skip (SQ.thn (SX.sr ?_))
 obtain ⟨y3,hy3,h⟩:=bnd h
 obtain ⟨y4,hy4,h⟩:=bnd h
 obtain ⟨d3,hd3,h⟩:=bnd h
 refine SL.mv (.r rfl) rfl ?_
 refine SL.call (vs:=[_]) (Hin:=[]) (Hr:=_::_::_::_::_::_::_::_::_) (.r rfl) rfl ⟨rfl,trivial⟩ cal43 rfl rfl (c_law13_Ring hy3) ?_
 rintro v5 _ ⟨_,rfl,rfl⟩
 refine ⟨trivial,?_⟩
 refine SL.pick [0,5,6,7,8,1,2,3,4] 9 ?_
 refine SL.call (vs:=[_,_,vU32 1,vU32 7]) (Hin:=[_,_,_,_,_]) (Hr:=_::_::_::_::_) (.r rfl) rfl ⟨rfl,rfl,rfl,rfl,trivial⟩ cal42 rfl rfl (Con.lend (B:=[_]) (Hin:=[_,_,_,_]) fun K' w1 hk hB=>c_vault_New hy4 (SlOf.lentT (e:=138) (v:=v5) (fun _=>rfl) (hB _ (by simp)))) ?_
 rintro _ _ ⟨_,rfl,(⟨hn,-,-⟩ | ⟨d_,b3,v6,m3,hn,rfl,rfl⟩)⟩
 rw [hd3] at hn;cases hn
 obtain rfl:d3=d_:=Option.some.inj (hd3.symm.trans hn)
 refine ⟨trivial,?_⟩
 refine SL.mv (.r rfl) rfl (SL.ext (.r rfl) rfl rfl (SL.ext (.r rfl) rfl rfl (SL.asg (.r rfl) rfl (SL.asg (.r rfl) rfl (SL.nx (SX.sr ?_))))))
 obtain ⟨y5,hy5,h⟩:=bnd h
 obtain ⟨y6,hy6,h⟩:=bnd h
 obtain ⟨d4,hd4,h⟩:=bnd h
 refine SL.mv (.r rfl) rfl ?_
 refine SL.call (vs:=[_]) (Hin:=[]) (Hr:=_::_::_::_::_::_::_::_::_::_::_::_::_) (.r rfl) rfl ⟨rfl,trivial⟩ cal43 rfl rfl (c_law13_Ring hy5) ?_
 rintro v7 _ ⟨_,rfl,rfl⟩
 refine ⟨trivial,?_⟩
 refine SL.pick [9,10,11,12,0,1,2,3,4,5,6,7,8] 13 ?_
 refine SL.call (vs:=[_,_,vU32 1,vU32 7]) (Hin:=[_,_,_,_,_]) (Hr:=_::_::_::_::_::_::_::_::_) (.r rfl) rfl ⟨rfl,rfl,rfl,rfl,trivial⟩ cal44 rfl rfl (c_ref13_New hy6) ?_
 rintro _ _ (⟨hn,-,-⟩ | ⟨d_,b4,v8,v9,hn,rfl,rfl⟩)
 rw [hd4] at hn;cases hn
 obtain rfl:d4=d_:=Option.some.inj (hd4.symm.trans hn)
 refine ⟨trivial,?_⟩
 refine SL.mv (.r rfl) rfl (SL.ext (.r rfl) rfl rfl (SL.ext (.r rfl) rfl rfl (SL.asg (.r rfl) rfl (SL.asg (.r rfl) rfl (SL.nx (SX.sr ?_))))))
 obtain ⟨x1,ex1,h⟩:=retE h
 refine SL.mv (.r rfl) rfl (SL.mv (.r rfl) rfl (SL.mv (.r rfl) rfl (SL.mv (.r rfl) rfl (SL.bin (.r rfl) rfl rfl Bin.eqI (SL.mv (.r rfl) rfl ?_)))))
 refine SL.and (c:=decide (y6.2=0)) 47 3 50 rfl (fun hb k=>?_) (fun hb k=>?_) ?_
 refine SL.mv (.r rfl) rfl (SL.bin (.r rfl) rfl rfl Bin.eqI (SL.pk (.r rfl) rfl rfl ?_))
 exact k.mono (by repeat' (first | exact trivial | refine And.intro rfl ?_))
 refine SL.pass rfl rfl rfl (SL.pass rfl rfl rfl (SL.pk (.r rfl) rfl rfl ?_))
 exact k.mono (by repeat' (first | exact trivial | refine And.intro rfl ?_))
 refine SL.asg (.r rfl) rfl (SL.asg (.r rfl) rfl (SL.asg (.r rfl) rfl ?_))
 refine SL.asgX (u:=vB x1) (.r rfl) rfl (congrArg vB ex1) ?_
 refine SL.nx (SX.ret ?_)
 obtain rfl:=Option.some.inj h
 exact SQ.fret (res4 rfl rfl rfl rfl rfl) (ret_of (M:=[_,_,_,_,_,_,_,_,_,_,_,_,_,_]) (.inr ⟨_,b3,v6,m3,b1,v1,m1,m2,b4,v8,v9,b2,v2,v3,v4,rfl,rfl,rfl⟩) fun _ hw=>HpOk.pick (H:=[_,_,_,_,_,_,_,_,_,_,_,_,_,_,_]) hw [8,9,10,11,12,13,14,0,1,2,3,4,5,6] 15 rfl)

def f_law14_shown (n:Nat) (T:List UInt32):Option Bool:=
 (f_law14_made n 12).bind fun y1=>
 (y1.1).bind fun d1=>
 (saveF n T d1.1 d1.2.1 [(⟨1,0,0,[]⟩:RowA),(⟨2,0,0,[]⟩:RowA),(⟨3,0,0,[]⟩:RowA),(⟨4,0,0,[]⟩:RowA),(⟨5,0,0,[]⟩:RowA),(⟨6,8,0,[]⟩:RowA)] []).bind fun y2=>
 (f_law14_last y2.1).bind fun y3=>
 (loadF n T y2.2.2.1 y2.2.2.2 y3).bind fun y4=>
 (andO (((y1.2&&(decide (y2.2.1=0)))&&(decide (y4.2.2=0)))&&(decide ((y2.1.length:Int)=4))) ((f_ref09_Same n [(⟨1,0,0,[]⟩:RowA),(⟨2,0,0,[]⟩:RowA),(⟨3,0,0,[]⟩:RowA),(⟨4,0,0,[]⟩:RowA),(⟨5,0,0,[]⟩:RowA),(⟨6,8,0,[]⟩:RowA)] y4.1).bind fun y5=>some (y5))).bind fun y6=>
 (andO y6 ((f_ref14_Same n y2.1 y4.2.1).bind fun y7=>some (y7))).bind fun y8=>
 (andO y8 ((f_vv_Seals y2.2.2.1 y2.2.2.2).bind fun y9=>some (decide (y9=4)))).bind fun y10=>
 some y10
set_option maxHeartbeats 4000000 in
set_option maxRecDepth 100000 in
theorem c_law14_shown {n:Nat} {T:List UInt32} {r:Bool} (h:f_law14_shown n T=some r) (hS:ShaT K w0 T):Con Tryz.prog K w0 11 [] [] H (fun u M=>u=vB r∧M=[]):=by
 unfold f_law14_shown at h
 refine Con.enter Tryz.func11 rfl rfl ?_
 refine SX.sr (SL.asg (.r rfl) rfl (SL.nx (SX.sr ?_)))
 obtain ⟨y1,hy1,h⟩:=bnd h
 obtain ⟨d1,hd1,h⟩:=bnd h
 refine SL.call (vs:=[_]) (Hin:=[]) (Hr:=_) (.r rfl) rfl ⟨rfl,trivial⟩ cal12 rfl rfl (c_law14_made hy1) ?_
 rintro _ _ (⟨hn,-,-⟩ | ⟨d_,b1,v1,m1,b2,v2,m2,m3,b3,v3,v4,b4,v5,v6,v7,hn,rfl,rfl⟩)
 rw [hd1] at hn;cases hn
 obtain rfl:d1=d_:=Option.some.inj (hd1.symm.trans hn)
 refine ⟨trivial,?_⟩
 refine SL.mv (.r rfl) rfl (SL.ext (.r rfl) rfl rfl (SL.ext (.r rfl) rfl rfl (SL.ext (.r rfl) rfl rfl (SL.ext (.r rfl) rfl rfl (SL.asg (.r rfl) rfl (SL.asg (.r rfl) rfl (SL.asg (.r rfl) rfl ?_)))))))
 refine SL.asg (.r rfl) rfl (SL.nx (SX.sr (SL.bld [_] (.r rfl) pl79 pk79 ze79 ⟨rfl,trivial⟩ rfl (SL.bld [_] (.r rfl) pl79 pk79 ze79 ⟨rfl,trivial⟩ rfl (SL.bld [_] (.r rfl) pl79 pk79 ze79 ⟨rfl,trivial⟩ rfl (SL.bld [_] (.r rfl) pl79 pk79 ze79 ⟨rfl,trivial⟩ rfl (SL.bld [_] (.r rfl) pl79 pk79 ze79 ⟨rfl,trivial⟩ rfl (SL.bld [_,_] (.r rfl) pl79 pk79 ze79 ⟨rfl,rfl,trivial⟩ rfl ?_))))))))
 refine SL.bsl [_,_,_,_,_,_] (.r rfl) ty35 sz79 ze79 ⟨rfl,rfl,rfl,rfl,rfl,rfl,trivial⟩ rfl rfl rfl (by first | (simp [Value.cells];done) | (intro v hv;simp only [List.mem_cons,List.not_mem_nil,or_false] at hv;rcases hv with rfl | rfl | rfl | rfl | rfl | rfl<;>rfl)) rfl rfl (fun _=>trivial) fun b5=>?_
 refine SL.ownT encRow 4 ([(⟨1,0,0,[]⟩:RowA),(⟨2,0,0,[]⟩:RowA),(⟨3,0,0,[]⟩:RowA),(⟨4,0,0,[]⟩:RowA),(⟨5,0,0,[]⟩:RowA),(⟨6,8,0,[]⟩:RowA)]:List RowA) rfl (fun _=>rfl) rfl ?_
 refine SL.asg (.r rfl) rfl (SL.nx (SX.sr ?_))
 obtain ⟨y2,hy2,h⟩:=bnd h
 refine SL.mv (.r rfl) rfl (SL.mv (.r rfl) rfl ?_)
 refine SL.call (vs:=[_,_,_]) (Hin:=[_,_,_,_,_,_,_,_]) (Hr:=_::_::_::_::_::_::_::_) (.r rfl) rfl ⟨rfl,rfl,rfl,trivial⟩ cal19 rfl rfl (Con.lend (B:=[_]) (Hin:=[_,_,_,_,_,_,_]) fun K' w1 hk hB=>w_save hy2 (hS.keeps hk) (SlOf.lentT (e:=79) (v:=.slice (some ⟨b5,0,none⟩) 6 6) (fun _=>rfl) (hB _ (by simp))) (SlOf.nil (fun _=>rfl))) ?_
 rintro _ _ ⟨_,rfl,v8,rfl,rfl⟩
 refine ⟨trivial,?_⟩
 refine SL.mv (.r rfl) rfl (SL.ext (.r rfl) rfl rfl (SL.ext (.r rfl) rfl rfl (SL.asg (.r rfl) rfl (SL.asg (.r rfl) rfl (SL.nx (SX.sr ?_))))))
 obtain ⟨y3,hy3,h⟩:=bnd h
 obtain ⟨y4,hy4,h⟩:=bnd h
 refine SL.mv (.r rfl) rfl (SL.mv (.r rfl) rfl (SL.pick [1,0] 2 ?_))
 refine SL.call (vs:=[_]) (Hin:=[_]) (Hr:=_::_::_::_::_::_::_::_::_::_::_::_::_::_::_::_) (.r rfl) rfl ⟨rfl,trivial⟩ cal22 rfl rfl (Con.lend (B:=[_]) (Hin:=[]) fun K' w1 hk hB=>c_law14_last hy3 (SlOf.lentT (e:=72) (v:=v8) (fun _=>rfl) (hB _ (by simp)))) ?_
 rintro _ _ ⟨_,rfl,rfl,rfl⟩
 refine ⟨trivial,?_⟩
 refine SL.pick [2,3,4,5,6,7,8,0,1] 9 ?_
 refine SL.call (vs:=[_,_]) (Hin:=[_,_,_,_,_,_,_]) (Hr:=_::_::_::_::_::_::_::_::_::_) (.r rfl) rfl ⟨rfl,rfl,trivial⟩ cal15 rfl rfl ((w_load hy4 hS :)) ?_
 rintro _ _ ⟨v9,v10,rfl,rfl⟩
 refine ⟨trivial,?_⟩
 refine SL.mv (.r rfl) rfl (SL.ext (.r rfl) rfl rfl (SL.ext (.r rfl) rfl rfl (SL.ext (.r rfl) rfl rfl (SL.asg (.r rfl) rfl (SL.asg (.r rfl) rfl (SL.asg (.r rfl) rfl (SL.nx (SX.sr ?_))))))))
 obtain ⟨y6,hy6,h⟩:=bnd h
 obtain ⟨y8,hy8,h⟩:=bnd h
 obtain ⟨y10,hy10,h⟩:=bnd h
 refine SL.mv (.r rfl) rfl (SL.mv (.r rfl) rfl ?_)
 refine SL.and (c:=decide (y2.2.1=0)) 39 3 42 rfl (fun hb k=>?_) (fun hb k=>?_) ?_
 refine SL.mv (.r rfl) rfl (SL.bin (.r rfl) rfl rfl Bin.eqI (SL.pk (.r rfl) rfl rfl ?_))
 exact k.mono (by repeat' (first | exact trivial | refine And.intro rfl ?_))
 refine SL.pass rfl rfl rfl (SL.pass rfl rfl rfl (SL.pk (.r rfl) rfl rfl ?_))
 exact k.mono (by repeat' (first | exact trivial | refine And.intro rfl ?_))
 refine SL.mv (.r rfl) rfl ?_
 refine SL.and (c:=decide (y4.2.2=0)) 43 3 46 rfl (fun hb k=>?_) (fun hb k=>?_) ?_
 refine SL.mv (.r rfl) rfl (SL.bin (.r rfl) rfl rfl Bin.eqI (SL.pk (.r rfl) rfl rfl ?_))
 exact k.mono (by repeat' (first | exact trivial | refine And.intro rfl ?_))
 refine SL.pass rfl rfl rfl (SL.pass rfl rfl rfl (SL.pk (.r rfl) rfl rfl ?_))
 exact k.mono (by repeat' (first | exact trivial | refine And.intro rfl ?_))
 refine SL.mv (.r rfl) rfl ?_
 refine SL.and (c:=decide ((y2.1.length:Int)=4)) 47 4 51 rfl (fun hb k=>?_) (fun hb k=>?_) ?_
 refine SL.mv (.r rfl) rfl (SL.lenT 9 (.r rfl) ty36 rfl rfl (SL.bin (.r rfl) rfl rfl Bin.eqI (SL.pk (.r rfl) rfl rfl ?_)))
 exact k.mono (by repeat' (first | exact trivial | refine And.intro rfl ?_))
 refine SL.pass rfl rfl rfl (SL.pass rfl rfl rfl (SL.pass rfl rfl rfl (SL.pk (.r rfl) rfl rfl ?_)))
 exact k.mono (by repeat' (first | exact trivial | refine And.intro rfl ?_))
 refine SL.mv (.r rfl) rfl ?_
 refine SL.andN 52 4 56 hy6 rfl (fun hb hg4 k=>?_) (fun hb k=>?_) ?_
 obtain ⟨y5,hy5,hg4⟩:=bnd hg4
 obtain rfl:=Option.some.inj hg4
 refine SL.mv (.r rfl) rfl (SL.mv (.r rfl) rfl (SL.pick [10,0,1,2,3,4,5,6,7,8,9] 11 ?_))
 refine SL.call (vs:=[_,_]) (Hin:=[_,_]) (Hr:=_::_::_::_::_::_::_::_::_::_::_::_::_::_::_::_::_) (.r rfl) rfl ⟨rfl,rfl,trivial⟩ cal17 rfl rfl (Con.lend (B:=[_,_]) (Hin:=[]) fun K' w1 hk hB=>c_ref09_Same hy5 (SlOf.lentT (e:=79) (v:=.slice (some ⟨b5,0,none⟩) 6 6) (fun _=>rfl) (hB _ (by simp))) (SlOf.lentT (e:=79) (v:=v9) (fun _=>rfl) (hB _ (by simp)))) ?_
 rintro _ _ ⟨_,rfl,rfl,rfl⟩
 refine ⟨trivial,?_⟩
 refine SL.pk (.r rfl) rfl rfl ?_
 exact SL.mono (SL.heap k fun _ hw=>HpOk.pick (H:=[_,_,_,_,_,_,_,_,_,_,_,_,_,_,_,_,_,_]) hw [1,2,3,4,5,6,7,8,9,10,0,11,12,13,14,15,16,17] 18 rfl) (by repeat' (first | exact trivial | refine And.intro rfl ?_))
 refine SL.pass rfl rfl rfl (SL.pass rfl rfl rfl (SL.pass rfl rfl rfl (SL.pk (.r rfl) rfl rfl ?_)))
 exact k.mono (by repeat' (first | exact trivial | refine And.intro rfl ?_))
 refine SL.mv (.r rfl) rfl ?_
 refine SL.andN 57 4 61 hy8 rfl (fun hb hg5 k=>?_) (fun hb k=>?_) ?_
 obtain ⟨y7,hy7,hg5⟩:=bnd hg5
 obtain rfl:=Option.some.inj hg5
 refine SL.mv (.r rfl) rfl (SL.mv (.r rfl) rfl (SL.pick [9,1,0,2,3,4,5,6,7,8] 10 ?_))
 refine SL.call (vs:=[_,_]) (Hin:=[_,_]) (Hr:=_::_::_::_::_::_::_::_::_::_::_::_::_::_::_::_::_) (.r rfl) rfl ⟨rfl,rfl,trivial⟩ cal18 rfl rfl (Con.lend (B:=[_,_]) (Hin:=[]) fun K' w1 hk hB=>c_ref14_Same hy7 (SlOf.lentT (e:=72) (v:=v8) (fun _=>rfl) (hB _ (by simp))) (SlOf.lentT (e:=72) (v:=v10) (fun _=>rfl) (hB _ (by simp)))) ?_
 rintro _ _ ⟨_,rfl,rfl,rfl⟩
 refine ⟨trivial,?_⟩
 refine SL.pk (.r rfl) rfl rfl ?_
 exact SL.mono (SL.heap k fun _ hw=>HpOk.pick (H:=[_,_,_,_,_,_,_,_,_,_,_,_,_,_,_,_,_,_]) hw [2,1,3,4,5,6,7,8,9,0,10,11,12,13,14,15,16,17] 18 rfl) (by repeat' (first | exact trivial | refine And.intro rfl ?_))
 refine SL.pass rfl rfl rfl (SL.pass rfl rfl rfl (SL.pass rfl rfl rfl (SL.pk (.r rfl) rfl rfl ?_)))
 exact k.mono (by repeat' (first | exact trivial | refine And.intro rfl ?_))
 refine SL.mv (.r rfl) rfl ?_
 refine SL.andN 62 4 66 hy10 rfl (fun hb hg6 k=>?_) (fun hb k=>?_) ?_
 obtain ⟨y9,hy9,hg6⟩:=bnd hg6
 obtain rfl:=Option.some.inj hg6
 refine SL.mv (.r rfl) rfl (SL.pick [2,3,4,5,6,7,8,0,1] 9 ?_)
 refine SL.call (vs:=[_]) (Hin:=[_,_,_,_,_,_,_]) (Hr:=_::_::_::_::_::_::_::_::_::_::_::_) (.r rfl) rfl ⟨rfl,trivial⟩ cal23 rfl rfl (c_vv_Seals hy9) ?_
 rintro _ _ ⟨rfl,rfl⟩
 refine ⟨trivial,?_⟩
 refine SL.bin (.r rfl) rfl rfl (Bin.eq64 (b:=4)) ?_
 refine SL.pk (.r rfl) rfl rfl ?_
 exact SL.mono (SL.heap k fun _ hw=>HpOk.pick (H:=[_,_,_,_,_,_,_,_,_,_,_,_,_,_,_,_,_,_]) hw [7,8,0,1,2,3,4,5,6,9,10,11,12,13,14,15,16,17] 18 rfl) (by repeat' (first | exact trivial | refine And.intro rfl ?_))
 refine SL.pass rfl rfl rfl (SL.pass rfl rfl rfl (SL.pass rfl rfl rfl (SL.pk (.r rfl) rfl rfl ?_)))
 exact k.mono (by repeat' (first | exact trivial | refine And.intro rfl ?_))
 refine SL.asg (.r rfl) rfl (SL.nx (SX.ret ?_))
 obtain rfl:=Option.some.inj h
 exact SQ.fret (res1 rfl rfl) (ret_of (M:=[]) ⟨rfl,rfl⟩ fun _ hw=>HpOk.pick (H:=[_,_,_,_,_,_,_,_,_,_,_,_,_,_,_,_,_,_]) hw [] 18 rfl)

end Go.Proofs.YtkibffdipniemaaGreatDoor

/- Plain functions of the references and the laws, printed from the loaded program, and the walks that show that the program computes them. Condition: the plain function yields. -/
namespace Go.Proofs.YtkibffdipniemaaGreatDoor
open Go
variable {K:Nat→Prop} {w0:World} {H:List Chunk}

def f_lGA (n:Nat) (T:List UInt32) (p0:List RowA) (p1:Int):Option Bool:=
 (f_law14_shown n T).bind fun y1=>
 (f_law14_few p0).bind fun y2=>
 (f_law14_made n 80).bind fun y3=>
 (y3.1).bind fun d1=>
 (saveF n T d1.1 d1.2.1 y2 []).bind fun y4=>
 (f_vv_Seals y4.2.2.1 y4.2.2.2).bind fun y5=>
 (saveF n T y4.2.2.1 y4.2.2.2 y2 y4.1).bind fun y6=>
 cond (!decide (y4.2.1=0))
 (
  ret (y1&&(decide (y6.2.1=y4.2.1))) fun x1=>
  some x1)
 (
  (orO ((!y3.2)||(!decide (y6.2.1=0))) ((f_ref14_Same n y4.1 y6.1).bind fun y7=>some (!y7))).bind fun y8=>
  (orO y8 ((f_vv_Seals y6.2.2.1 y6.2.2.2).bind fun y9=>some (!decide (y9=y5)))).bind fun y10=>
  cond y10
  (
   some false)
  (
   cond ((decide (p1<0))||(decide ((y2.length:Int)≤p1)))
   (
    some y1)
   (
    (capI 32 (y2.length:Int)).bind fun u1=>
    (slcI y2 0 p1).bind fun l1=>
    (appL 32 [] l1).bind fun l2=>
    (slcI y2 (wI (p1+1)) (y2.length:Int)).bind fun l3=>
    (appL 32 l2 l3).bind fun l4=>
    (saveF n T y6.2.2.1 y6.2.2.2 l4 y4.1).bind fun y11=>
    (f_law14_last y11.1).bind fun y12=>
    (loadF n T y11.2.2.1 y11.2.2.2 y12).bind fun y13=>
    (andO ((y1&&(decide (y11.2.1=0)))&&(decide (y13.2.2=0))) ((f_vv_Seals y11.2.2.1 y11.2.2.2).bind fun y14=>some (decide (y14≤y5+20)))).bind fun y15=>
    (andO y15 ((f_ref09_Same n y13.1 l4).bind fun y16=>some (y16))).bind fun y17=>
    some y17)))
set_option maxHeartbeats 4000000 in
set_option maxRecDepth 100000 in
theorem c_lGA {n:Nat} {T:List UInt32} {v0_:Value} {p0:List RowA} {p1:Int} {r:Bool} (h:f_lGA n T p0 p1=some r) (hS:ShaT K w0 T) (hs0_:SlOf K w0 encRow 4 v0_ p0):Con Tryz.prog K w0 5 [v0_,vI p1] [] H (fun u M=>u=vB r∧M=[]):=by
 unfold f_lGA at h
 refine Con.enter Tryz.func5 rfl rfl ?_
 refine SX.sr (SL.asg (.r rfl) rfl (SL.nx (SX.sr ?_)))
 obtain ⟨y1,hy1,h⟩:=bnd h
 refine SL.call (vs:=[]) (Hin:=[]) (Hr:=_) (.r rfl) rfl trivial cal11 rfl rfl (c_law14_shown hy1 hS) ?_
 rintro _ _ ⟨rfl,rfl⟩
 refine ⟨trivial,?_⟩
 refine SL.asg (.r rfl) rfl (SL.nx (SX.sr ?_))
 obtain ⟨y2,hy2,h⟩:=bnd h
 refine SL.mv (.r rfl) rfl ?_
 refine SL.call (vs:=[_]) (Hin:=[]) (Hr:=_) (.r rfl) rfl ⟨rfl,trivial⟩ cal20 rfl rfl (c_law14_few hy2 hs0_) ?_
 rintro v1 _ ⟨_,rfl,hs1,rfl⟩
 refine ⟨trivial,?_⟩
 refine SL.asg (.r rfl) rfl (SL.nx (SX.sr ?_))
 obtain ⟨y3,hy3,h⟩:=bnd h
 obtain ⟨d1,hd1,h⟩:=bnd h
 refine SL.call (vs:=[_]) (Hin:=[]) (Hr:=_) (.r rfl) rfl ⟨rfl,trivial⟩ cal12 rfl rfl (c_law14_made hy3) ?_
 rintro _ _ (⟨hn,-,-⟩ | ⟨d_,b1,v2,m1,b2,v3,m2,m3,b3,v4,v5,b4,v6,v7,v8,hn,rfl,rfl⟩)
 rw [hd1] at hn;cases hn
 obtain rfl:d1=d_:=Option.some.inj (hd1.symm.trans hn)
 refine ⟨trivial,?_⟩
 refine SL.mv (.r rfl) rfl (SL.ext (.r rfl) rfl rfl (SL.ext (.r rfl) rfl rfl (SL.ext (.r rfl) rfl rfl (SL.ext (.r rfl) rfl rfl (SL.asg (.r rfl) rfl (SL.asg (.r rfl) rfl (SL.asg (.r rfl) rfl ?_)))))))
 refine SL.asg (.r rfl) rfl (SL.nx (SX.sr ?_))
 obtain ⟨y4,hy4,h⟩:=bnd h
 refine SL.mv (.r rfl) rfl (SL.mv (.r rfl) rfl ?_)
 refine SL.call (vs:=[_,_,_]) (Hin:=[_,_,_,_,_,_,_]) (Hr:=_::_::_::_::_::_::_::_) (.r rfl) rfl ⟨rfl,rfl,rfl,trivial⟩ cal19 rfl rfl (w_save hy4 hS hs1 (SlOf.nil (fun _=>rfl))) ?_
 rintro _ _ ⟨v9,rfl,rfl⟩
 refine ⟨trivial,?_⟩
 refine SL.mv (.r rfl) rfl (SL.ext (.r rfl) rfl rfl (SL.ext (.r rfl) rfl rfl (SL.asg (.r rfl) rfl (SL.asg (.r rfl) rfl (SL.nx (SX.sr ?_))))))
 obtain ⟨y5,hy5,h⟩:=bnd h
 refine SL.mv (.r rfl) rfl (SL.pick [1,2,3,4,5,6,7,0] 8 ?_)
 refine SL.call (vs:=[_]) (Hin:=[_,_,_,_,_,_,_]) (Hr:=_::_::_::_::_::_::_::_::_) (.r rfl) rfl ⟨rfl,trivial⟩ cal23 rfl rfl (c_vv_Seals hy5) ?_
 rintro _ _ ⟨rfl,rfl⟩
 refine ⟨trivial,?_⟩
 refine SL.asg (.r rfl) rfl (SL.nx (SX.sr ?_))
 obtain ⟨y6,hy6,h⟩:=bnd h
 refine SL.mv (.r rfl) rfl (SL.mv (.r rfl) rfl (SL.mv (.r rfl) rfl (SL.pick [7,0,1,2,3,4,5,6] 8 ?_)))
 refine SL.call (vs:=[_,_,_]) (Hin:=[_,_,_,_,_,_,_,_]) (Hr:=_::_::_::_::_::_::_::_) (.r rfl) rfl ⟨rfl,rfl,rfl,trivial⟩ cal19 rfl rfl (Con.lend (B:=[_]) (Hin:=[_,_,_,_,_,_,_]) fun K' w1 hk hB=>w_save hy6 (hS.keeps hk) (hs1.keeps hk) (SlOf.lentT (e:=72) (v:=v9) (fun _=>rfl) (hB _ (by simp)))) ?_
 rintro _ _ ⟨_,rfl,v10,rfl,rfl⟩
 refine ⟨trivial,?_⟩
 refine SL.mv (.r rfl) rfl (SL.ext (.r rfl) rfl rfl (SL.ext (.r rfl) rfl rfl (SL.asg (.r rfl) rfl (SL.asg (.r rfl) rfl (SL.nx (SX.seq (SX.sr (SL.mv (.r rfl) rfl (SL.bin (.r rfl) rfl rfl Bin.neI (SL.nx ?_))))))))))
 refine SX.cond rfl (fun hc1=>?_) (fun hc1=>?_)
 replace h:=cT hc1 h
 refine SX.re [(5,vB y1),(11,vI y4.2.1),(14,vI y6.2.1)] (rowT 72 3 v9 encSaved y4.1::rowT 72 3 v10 encSaved y6.1::own b1 (.cells #[vP b2 0,v2,vU32 y6.2.2.1.gen,vU32 y6.2.2.1.boot,vU64 y6.2.2.1.seals,.map (some m1)] 96)::rowT 138 2 v2 encKey y6.2.2.1.ring::mapC m1 vU32 vB y6.2.2.1.taken::own b2 (.cells #[vB y6.2.2.2.off,vB y6.2.2.2.isCut,vI y6.2.2.2.lasts,vI y6.2.2.2.counts,v3,.map (some m2),.map (some m3),vU64 y6.2.2.2.rcnt,vS y6.2.2.2.rtag,vU32 y6.2.2.2.rboots] 130)::rowT 9 1 v3 eS y6.2.2.2.blocks::mapC m2 vU32 vS y6.2.2.2.pend::mapC m3 vU32 vB y6.2.2.2.bad::own b3 (.cells #[vP b4 0,v4,vU32 d1.2.2.1.gen,vU32 d1.2.2.1.boot,vU64 d1.2.2.1.num,v5] 69)::rowT 138 2 v4 encKey d1.2.2.1.ring::rowT 4 1 v5 eB d1.2.2.1.taken::own b4 (.cells #[v6,v7,v8,vU64 d1.2.2.2.rcnt,vS d1.2.2.2.rtag,vU32 d1.2.2.2.rboots,vI d1.2.2.2.left,vB d1.2.2.2.off] 132)::rowT 9 1 v6 eS d1.2.2.2.blk::rowT 9 1 v7 eS d1.2.2.2.pnd::rowT 4 1 v8 eB d1.2.2.2.bads::H) ?_ (by repeat' (first | exact trivial | refine And.intro rfl ?_))
 refine SX.sr ?_
 obtain ⟨x1,ex1,h⟩:=retE h
 refine SL.mv (.r rfl) rfl (SL.mv (.r rfl) rfl ?_)
 refine SL.and (c:=decide (y6.2.1=y4.2.1)) 48 4 52 rfl (fun hb k=>?_) (fun hb k=>?_) ?_
 refine SL.mv (.r rfl) rfl (SL.mv (.r rfl) rfl (SL.bin (.r rfl) rfl rfl Bin.eqI (SL.pk (.r rfl) rfl rfl ?_)))
 exact k.mono (by repeat' (first | exact trivial | refine And.intro rfl ?_))
 refine SL.pass rfl rfl rfl (SL.pass rfl rfl rfl (SL.pass rfl rfl rfl (SL.pk (.r rfl) rfl rfl ?_)))
 exact k.mono (by repeat' (first | exact trivial | refine And.intro rfl ?_))
 refine SL.asgX (u:=vB x1) (.r rfl) rfl (congrArg vB ex1) ?_
 refine SL.nx (SX.ret (SQ.thnR ?_))
 obtain rfl:=Option.some.inj h
 exact SQ.fret (res1 rfl rfl) (ret_of (M:=[]) ⟨rfl,rfl⟩ fun _ hw=>HpOk.pick (H:=[_,_,_,_,_,_,_,_,_,_,_,_,_,_,_,_]) hw [] 16 rfl)
 replace h:=cF hc1 h
 refine SX.skip (SQ.thn (SX.seq ?_))
 refine SX.re [(0,v1),(1,vI p1),(5,vB y1),(6,vP b1 0),(9,vB y3.2),(10,v9),(12,vU64 y5),(13,v10),(14,vI y6.2.1)] (rowT 72 3 v9 encSaved y4.1::rowT 72 3 v10 encSaved y6.1::own b1 (.cells #[vP b2 0,v2,vU32 y6.2.2.1.gen,vU32 y6.2.2.1.boot,vU64 y6.2.2.1.seals,.map (some m1)] 96)::rowT 138 2 v2 encKey y6.2.2.1.ring::mapC m1 vU32 vB y6.2.2.1.taken::own b2 (.cells #[vB y6.2.2.2.off,vB y6.2.2.2.isCut,vI y6.2.2.2.lasts,vI y6.2.2.2.counts,v3,.map (some m2),.map (some m3),vU64 y6.2.2.2.rcnt,vS y6.2.2.2.rtag,vU32 y6.2.2.2.rboots] 130)::rowT 9 1 v3 eS y6.2.2.2.blocks::mapC m2 vU32 vS y6.2.2.2.pend::mapC m3 vU32 vB y6.2.2.2.bad::own b3 (.cells #[vP b4 0,v4,vU32 d1.2.2.1.gen,vU32 d1.2.2.1.boot,vU64 d1.2.2.1.num,v5] 69)::rowT 138 2 v4 encKey d1.2.2.1.ring::rowT 4 1 v5 eB d1.2.2.1.taken::own b4 (.cells #[v6,v7,v8,vU64 d1.2.2.2.rcnt,vS d1.2.2.2.rtag,vU32 d1.2.2.2.rboots,vI d1.2.2.2.left,vB d1.2.2.2.off] 132)::rowT 9 1 v6 eS d1.2.2.2.blk::rowT 9 1 v7 eS d1.2.2.2.pnd::rowT 4 1 v8 eB d1.2.2.2.bads::H) ?_ (by repeat' (first | exact trivial | refine And.intro rfl ?_))
 refine SX.sr ?_
 obtain ⟨y8,hy8,h⟩:=bnd h
 obtain ⟨y10,hy10,h⟩:=bnd h
 refine SL.mv (.r rfl) rfl (SL.not (.r rfl) rfl (SL.mv (.r rfl) rfl ?_))
 refine SL.or (c := !decide (y6.2.1=0)) 55 3 58 rfl (fun hb k=>?_) (fun hb k=>?_) ?_
 refine SL.pass rfl rfl rfl (SL.pass rfl rfl rfl (SL.pk (.r rfl) rfl rfl ?_))
 exact k.mono (by repeat' (first | exact trivial | refine And.intro rfl ?_))
 refine SL.mv (.r rfl) rfl (SL.bin (.r rfl) rfl rfl Bin.neI (SL.pk (.r rfl) rfl rfl ?_))
 exact k.mono (by repeat' (first | exact trivial | refine And.intro rfl ?_))
 refine SL.mv (.r rfl) rfl ?_
 refine SL.orN 59 5 64 hy8 rfl (fun hb k=>?_) (fun hb hg3 k=>?_) ?_
 refine SL.pass rfl rfl rfl (SL.pass rfl rfl rfl (SL.pass rfl rfl rfl (SL.pass rfl rfl rfl (SL.pk (.r rfl) rfl rfl ?_))))
 exact k.mono (by repeat' (first | exact trivial | refine And.intro rfl ?_))
 obtain ⟨y7,hy7,hg3⟩:=bnd hg3
 obtain rfl:=Option.some.inj hg3
 refine SL.mv (.r rfl) rfl (SL.mv (.r rfl) rfl ?_)
 refine SL.call (vs:=[_,_]) (Hin:=[_,_]) (Hr:=_::_::_::_::_::_::_::_::_::_::_::_::_::_::_) (.r rfl) rfl ⟨rfl,rfl,trivial⟩ cal18 rfl rfl (Con.lend (B:=[_,_]) (Hin:=[]) fun K' w1 hk hB=>c_ref14_Same hy7 (SlOf.lentT (e:=72) (v:=v9) (fun _=>rfl) (hB _ (by simp))) (SlOf.lentT (e:=72) (v:=v10) (fun _=>rfl) (hB _ (by simp)))) ?_
 rintro _ _ ⟨_,rfl,rfl,rfl⟩
 refine ⟨trivial,?_⟩
 refine SL.not (.r rfl) rfl (SL.pk (.r rfl) rfl rfl ?_)
 exact k.mono (by repeat' (first | exact trivial | refine And.intro rfl ?_))
 refine SL.mv (.r rfl) rfl ?_
 refine SL.orN 65 5 70 hy10 rfl (fun hb k=>?_) (fun hb hg4 k=>?_) ?_
 refine SL.pass rfl rfl rfl (SL.pass rfl rfl rfl (SL.pass rfl rfl rfl (SL.pass rfl rfl rfl (SL.pk (.r rfl) rfl rfl ?_))))
 exact k.mono (by repeat' (first | exact trivial | refine And.intro rfl ?_))
 obtain ⟨y9,hy9,hg4⟩:=bnd hg4
 obtain rfl:=Option.some.inj hg4
 refine SL.mv (.r rfl) rfl (SL.pick [2,3,4,5,6,7,8,0,1] 9 ?_)
 refine SL.call (vs:=[_]) (Hin:=[_,_,_,_,_,_,_]) (Hr:=_::_::_::_::_::_::_::_::_::_) (.r rfl) rfl ⟨rfl,trivial⟩ cal23 rfl rfl (c_vv_Seals hy9) ?_
 rintro _ _ ⟨rfl,rfl⟩
 refine ⟨trivial,?_⟩
 refine SL.mv (.r rfl) rfl (SL.bin (.r rfl) rfl rfl Bin.ne64 (SL.pk (.r rfl) rfl rfl ?_))
 exact SL.mono (SL.heap k fun _ hw=>HpOk.pick (H:=[_,_,_,_,_,_,_,_,_,_,_,_,_,_,_,_]) hw [7,8,0,1,2,3,4,5,6,9,10,11,12,13,14,15] 16 rfl) (by repeat' (first | exact trivial | refine And.intro rfl ?_))
 refine SL.nx ?_
 refine SX.cond rfl (fun hc2=>?_) (fun hc2=>?_)
 replace h:=cT hc2 h
 refine SX.sr (SL.asg (.r rfl) rfl (SL.nx (SX.ret (SQ.thnR ?_))))
 obtain rfl:=Option.some.inj h
 exact SQ.fret (res1 rfl rfl) (ret_of (M:=[]) ⟨rfl,rfl⟩ fun _ hw=>HpOk.pick (H:=[_,_,_,_,_,_,_,_,_,_,_,_,_,_,_,_]) hw [] 16 rfl)
 replace h:=cF hc2 h
 refine SX.skip (SQ.thn (SX.seq (SX.sr (SL.mv (.r rfl) rfl (SL.bin (.r rfl) rfl rfl Bin.ltI (SL.mv (.r rfl) rfl ?_))))))
 refine SL.or (c:=decide ((y2.length:Int)≤p1)) 73 5 78 rfl (fun hb k=>?_) (fun hb k=>?_) ?_
 refine SL.pass rfl rfl rfl (SL.pass rfl rfl rfl (SL.pass rfl rfl rfl (SL.pass rfl rfl rfl (SL.pk (.r rfl) rfl rfl ?_))))
 exact k.mono (by repeat' (first | exact trivial | refine And.intro rfl ?_))
 refine SL.mv (.r rfl) rfl (SL.mv (.r rfl) rfl (SL.lenV hs1 (.r rfl) ty35 rfl (SL.bin (.r rfl) rfl rfl Bin.geI (SL.pk (.r rfl) rfl rfl ?_))))
 exact k.mono (by repeat' (first | exact trivial | refine And.intro rfl ?_))
 refine SL.nx ?_
 refine SX.cond rfl (fun hc3=>?_) (fun hc3=>?_)
 replace h:=cT hc3 h
 refine SX.sr (SL.mv (.r rfl) rfl (SL.asg (.r rfl) rfl (SL.nx (SX.ret (SQ.thnR ?_)))))
 obtain rfl:=Option.some.inj h
 exact SQ.fret (res1 rfl rfl) (ret_of (M:=[]) ⟨rfl,rfl⟩ fun _ hw=>HpOk.pick (H:=[_,_,_,_,_,_,_,_,_,_,_,_,_,_,_,_]) hw [] 16 rfl)
 replace h:=cF hc3 h
 refine SX.skip (SQ.thn (SX.seq ?_))
 obtain ⟨u1,hu1,h⟩:=bnd h
 obtain ⟨l1,hl1,h⟩:=bnd h
 obtain ⟨l2,hl2,h⟩:=bnd h
 obtain ⟨l3,hl3,h⟩:=bnd h
 obtain ⟨l4,hl4,h⟩:=bnd h
 refine SX.drawI mix [] (Pl.ap [(true,0),(true,1),(true,3),(true,4),(true,5),(true,7),(true,8),(true,9),(true,10),(false,2),(false,6)] (.last 11 (Pl.of [(false,12)]))) (by kernel_rfl) (SL.mv (.r rfl) rfl (SL.lenV hs1 (.r rfl) ty35 rfl (SL.mv (.r rfl) rfl (SL.mv (.r rfl) rfl ?_))))
 refine SL.slVN hl1 hs1 (.r rfl) ty35 sz79 rfl rfl fun v12 hs2=>?_
 refine SL.mv (.r rfl) rfl (SL.mv (.r rfl) rfl (SL.bin (.r rfl) rfl rfl Bin.addW ?_))
 refine SL.slVL hl3 hs1 (.r rfl) ty35 sz79 rfl rfl fun v14 hs3=>?_
 refine SL.mkC hu1 encRow (.r rfl) ty35 sz79 by79 ze79 rfl rfl rfl (fun _=>trivial) fun v11=>?_
 refine SL.appV 0 hl2 hs2 (sz:=4) (enc:=encRow) (fun _=>rfl) (.r rfl) ty35 sz79 by79 ze79 rfl (by decide) rfl rfl rfl (by simp [encRow,Value.oneCell']) (fun _=>trivial) fun v13=>?_
 refine SL.last ?_
 refine SL.appV 0 hl4 hs3 (sz:=4) (enc:=encRow) (fun _=>rfl) (.r rfl) ty35 sz79 by79 ze79 rfl (by decide) rfl rfl rfl (by simp [encRow,Value.oneCell']) (fun _=>trivial) fun v15=>?_
 refine SL.asg (.r rfl) rfl (SL.nx (SX.sr ?_))
 obtain ⟨y11,hy11,h⟩:=bnd h
 refine SL.mv (.r rfl) rfl (SL.mv (.r rfl) rfl (SL.mv (.r rfl) rfl (SL.pick [0,1,3,4,5,6,7,8,9,2] 10 ?_)))
 refine SL.call (vs:=[_,_,_]) (Hin:=[_,_,_,_,_,_,_,_,_]) (Hr:=_::_::_::_::_::_::_::_::_) (.r rfl) rfl ⟨rfl,rfl,rfl,trivial⟩ cal19 rfl rfl (Con.lend (B:=[_,_]) (Hin:=[_,_,_,_,_,_,_]) fun K' w1 hk hB=>w_save hy11 (hS.keeps hk) (SlOf.lentT (e:=79) (v:=v15) (fun _=>rfl) (hB _ (by simp))) (SlOf.lentT (e:=72) (v:=v9) (fun _=>rfl) (hB _ (by simp)))) ?_
 rintro _ _ ⟨_,rfl,v16,rfl,rfl⟩
 refine ⟨trivial,?_⟩
 refine SL.mv (.r rfl) rfl (SL.ext (.r rfl) rfl rfl (SL.ext (.r rfl) rfl rfl (SL.asg (.r rfl) rfl (SL.asg (.r rfl) rfl (SL.nx (SX.sr ?_))))))
 obtain ⟨y12,hy12,h⟩:=bnd h
 obtain ⟨y13,hy13,h⟩:=bnd h
 refine SL.mv (.r rfl) rfl (SL.mv (.r rfl) rfl (SL.pick [2,0,1] 3 ?_))
 refine SL.call (vs:=[_]) (Hin:=[_]) (Hr:=_::_::_::_::_::_::_::_::_::_::_::_::_::_::_::_::_::_) (.r rfl) rfl ⟨rfl,trivial⟩ cal22 rfl rfl (Con.lend (B:=[_]) (Hin:=[]) fun K' w1 hk hB=>c_law14_last hy12 (SlOf.lentT (e:=72) (v:=v16) (fun _=>rfl) (hB _ (by simp)))) ?_
 rintro _ _ ⟨_,rfl,rfl,rfl⟩
 refine ⟨trivial,?_⟩
 refine SL.pick [3,4,5,6,7,8,9,0,1,2] 10 ?_
 refine SL.call (vs:=[_,_]) (Hin:=[_,_,_,_,_,_,_]) (Hr:=_::_::_::_::_::_::_::_::_::_::_::_) (.r rfl) rfl ⟨rfl,rfl,trivial⟩ cal15 rfl rfl ((w_load hy13 hS :)) ?_
 rintro _ _ ⟨v17,v18,rfl,rfl⟩
 refine ⟨trivial,?_⟩
 refine SL.mv (.r rfl) rfl (SL.ext (.r rfl) rfl rfl (SL.ext (.r rfl) rfl rfl (SL.ext (.r rfl) rfl rfl (SL.asg (.r rfl) rfl (SL.asg (.r rfl) rfl (SL.asg (.r rfl) rfl (SL.nx (SX.sr ?_))))))))
 obtain ⟨y15,hy15,h⟩:=bnd h
 obtain ⟨y17,hy17,h⟩:=bnd h
 refine SL.mv (.r rfl) rfl (SL.mv (.r rfl) rfl ?_)
 refine SL.and (c:=decide (y11.2.1=0)) 108 3 111 rfl (fun hb k=>?_) (fun hb k=>?_) ?_
 refine SL.mv (.r rfl) rfl (SL.bin (.r rfl) rfl rfl Bin.eqI (SL.pk (.r rfl) rfl rfl ?_))
 exact k.mono (by repeat' (first | exact trivial | refine And.intro rfl ?_))
 refine SL.pass rfl rfl rfl (SL.pass rfl rfl rfl (SL.pk (.r rfl) rfl rfl ?_))
 exact k.mono (by repeat' (first | exact trivial | refine And.intro rfl ?_))
 refine SL.mv (.r rfl) rfl ?_
 refine SL.and (c:=decide (y13.2.2=0)) 112 3 115 rfl (fun hb k=>?_) (fun hb k=>?_) ?_
 refine SL.mv (.r rfl) rfl (SL.bin (.r rfl) rfl rfl Bin.eqI (SL.pk (.r rfl) rfl rfl ?_))
 exact k.mono (by repeat' (first | exact trivial | refine And.intro rfl ?_))
 refine SL.pass rfl rfl rfl (SL.pass rfl rfl rfl (SL.pk (.r rfl) rfl rfl ?_))
 exact k.mono (by repeat' (first | exact trivial | refine And.intro rfl ?_))
 refine SL.mv (.r rfl) rfl ?_
 refine SL.andN 116 6 122 hy15 rfl (fun hb hg8 k=>?_) (fun hb k=>?_) ?_
 obtain ⟨y14,hy14,hg8⟩:=bnd hg8
 obtain rfl:=Option.some.inj hg8
 refine SL.mv (.r rfl) rfl (SL.pick [2,3,4,5,6,7,8,0,1] 9 ?_)
 refine SL.call (vs:=[_]) (Hin:=[_,_,_,_,_,_,_]) (Hr:=_::_::_::_::_::_::_::_::_::_::_::_::_::_) (.r rfl) rfl ⟨rfl,trivial⟩ cal23 rfl rfl (c_vv_Seals hy14) ?_
 rintro _ _ ⟨rfl,rfl⟩
 refine ⟨trivial,?_⟩
 refine SL.mv (.r rfl) rfl ?_
 refine SL.bin (.r rfl) rfl rfl (Bin.add64 (b:=20)) ?_
 refine SL.bin (.r rfl) rfl rfl Bin.le64 (SL.pk (.r rfl) rfl rfl ?_)
 exact SL.mono (SL.heap k fun _ hw=>HpOk.pick (H:=[_,_,_,_,_,_,_,_,_,_,_,_,_,_,_,_,_,_,_,_]) hw [7,8,0,1,2,3,4,5,6,9,10,11,12,13,14,15,16,17,18,19] 20 rfl) (by repeat' (first | exact trivial | refine And.intro rfl ?_))
 refine SL.pass rfl rfl rfl (SL.pass rfl rfl rfl (SL.pass rfl rfl rfl (SL.pass rfl rfl rfl (SL.pass rfl rfl rfl (SL.pk (.r rfl) rfl rfl ?_)))))
 exact k.mono (by repeat' (first | exact trivial | refine And.intro rfl ?_))
 refine SL.mv (.r rfl) rfl ?_
 refine SL.andN 123 4 127 hy17 rfl (fun hb hg9 k=>?_) (fun hb k=>?_) ?_
 obtain ⟨y16,hy16,hg9⟩:=bnd hg9
 obtain rfl:=Option.some.inj hg9
 refine SL.mv (.r rfl) rfl (SL.mv (.r rfl) rfl (SL.pick [0,10,1,2,3,4,5,6,7,8,9] 11 ?_))
 refine SL.call (vs:=[_,_]) (Hin:=[_,_]) (Hr:=_::_::_::_::_::_::_::_::_::_::_::_::_::_::_::_::_::_::_) (.r rfl) rfl ⟨rfl,rfl,trivial⟩ cal17 rfl rfl (Con.lend (B:=[_,_]) (Hin:=[]) fun K' w1 hk hB=>c_ref09_Same hy16 (SlOf.lentT (e:=79) (v:=v17) (fun _=>rfl) (hB _ (by simp))) (SlOf.lentT (e:=79) (v:=v15) (fun _=>rfl) (hB _ (by simp)))) ?_
 rintro _ _ ⟨_,rfl,rfl,rfl⟩
 refine ⟨trivial,?_⟩
 refine SL.pk (.r rfl) rfl rfl ?_
 exact SL.mono (SL.heap k fun _ hw=>HpOk.pick (H:=[_,_,_,_,_,_,_,_,_,_,_,_,_,_,_,_,_,_,_,_]) hw [0,2,3,4,5,6,7,8,9,10,1,11,12,13,14,15,16,17,18,19] 20 rfl) (by repeat' (first | exact trivial | refine And.intro rfl ?_))
 refine SL.pass rfl rfl rfl (SL.pass rfl rfl rfl (SL.pass rfl rfl rfl (SL.pk (.r rfl) rfl rfl ?_)))
 exact k.mono (by repeat' (first | exact trivial | refine And.intro rfl ?_))
 refine SL.asg (.r rfl) rfl (SL.nx (SX.ret ?_))
 obtain rfl:=Option.some.inj h
 exact SQ.fret (res1 rfl rfl) (ret_of (M:=[]) ⟨rfl,rfl⟩ fun _ hw=>HpOk.pick (H:=[_,_,_,_,_,_,_,_,_,_,_,_,_,_,_,_,_,_,_,_]) hw [] 20 rfl)


end Go.Proofs.YtkibffdipniemaaGreatDoor

/- The laws of layer 14, of the plain functions: GroveNone, GroveBack, GroveFull. No program's walk in sight. -/
namespace Go.Proofs.YtkibffdipniemaaGreatDoor
open Go

theorem made14_eq {N n:Nat} (h4:4≤N) (hN:N≤4096) (hn:4200≤n):∃w c,f_law14_made n (N:Int)=some (some (v0,d0 N,w,c),true):=by
 obtain ⟨r,hr,hrl⟩:=new07 h4 hN (show N<n by omega)
 obtain ⟨b1,hb1⟩:∃w,f_ref13_New n r (ringA 1) 1 7=some (some w,0):=by
  unfold f_ref13_New
  have hm:mkI 1 (r.blk.length:Int) false=some (List.replicate N false):=by
   unfold mkI
   rw [hrl,if_pos ⟨by omega,by omega,by omega⟩]
   simp
  have h0:nthI (List.replicate N false) 0=some false:=by
   have:=nthI_getD (l:=List.replicate N false) (i:=0) (k:=0) false rfl (by simp;omega)
   rw [this]
   congr 1
   cases N<;>rfl
  have h1:setI (List.replicate N false) 0 true=some ((List.replicate N false).set 0 true):=setI_of rfl (by simp;omega)
  have h2:∃x,nthI ((List.replicate N false).set 0 true) 1=some x:=⟨_,nthI_getD (k:=1) false rfl (by simp;omega)⟩
  obtain ⟨x,h2⟩:=h2
  have h3:setI ((List.replicate N false).set 0 true) 1 true=some (((List.replicate N false).set 0 true).set 1 true):=setI_of rfl (by simp;omega)
  rw [find04 (ringA 1) 1 (by rw [ringA_length];omega) (by omega),find1 (by omega) (by omega),some_bind,hm,some_bind,h0,some_bind,h1,some_bind,h2,some_bind,h3,some_bind]
  exact ⟨_,rfl⟩
 refine ⟨b1,r,?_⟩
 have hv:f_vault_New (d0 N) (ringA 1) 1 7=some (some v0,0):=by
  unfold f_vault_New findO
  rw [if_pos (by rw [ringA_length];omega),some_bind,find1 (by omega) (by omega),appL_eq (by simp [ringA_length]) (by simp [ringA_length]),some_bind]
  rfl
 have hring:f_law13_Ring n 1=some (ringA 1):=ring_eq 1 (by omega) (by omega)
 unfold f_law14_made
 rw [new_eq (by omega) (by omega),some_bind,some_bind,hr,some_bind,some_bind]
 show (f_law13_Ring n 1).bind _=_
 rw [hring,some_bind]
 show (f_vault_New (d0 N) (ringA 1) 1 7).bind _=_
 rw [hv,some_bind,some_bind,some_bind,hb1,some_bind,some_bind]
 rfl
theorem same_rows {n:Nat} (l:List RowA) (hn:l.length<n) (hb:l.length≤1000000):f_ref09_Same n l l=some true:=by
 unfold f_ref09_Same
 rw [show (!decide ((l.length:Int)=(l.length:Int)))=false by simp,cond_false]
 unfold f_ref09_Same_l1
 refine loop_all (fun i=>(i:Int)) l.length (fun i hi k=>?_) (fun k=>?_) hn
 unfold f_ref09_Same_l1_b
 have h1:nthI l (i:Int)=some l[i]:=by rw [nthI_nat];exact List.getElem?_eq_getElem hi
 rw [decide_eq_true (by omega),cond_true,h1,some_bind,some_bind,ret_eq,wI_eq (by omega) (by omega)]
 simp
 unfold f_ref09_Same_l1_b
 rw [decide_eq_false (by omega),cond_false]
 rfl
theorem same_pages {n:Nat} (l:List SavedA) (hn:l.length<n) (hb:l.length≤1000000):f_ref14_Same n l l=some true:=by
 unfold f_ref14_Same
 rw [show (!decide ((l.length:Int)=(l.length:Int)))=false by simp,cond_false]
 unfold f_ref14_Same_l1
 refine loop_all (fun i=>(i:Int)) l.length (fun i hi k=>?_) (fun k=>?_) hn
 unfold f_ref14_Same_l1_b
 have h1:nthI l (i:Int)=some l[i]:=by rw [nthI_nat];exact List.getElem?_eq_getElem hi
 rw [decide_eq_true (by omega),cond_true,h1,some_bind,some_bind,ret_eq,wI_eq (by omega) (by omega)]
 simp
 unfold f_ref14_Same_l1_b
 rw [decide_eq_false (by omega),cond_false]
 rfl
theorem few_eq (l:List RowA):f_law14_few l=some (l.take 24):=by
 unfold f_law14_few
 have h0:slcI l 0 (min (l.length:Int) 24)=some ((l.drop 0).take (min l.length 24-0)):=slcI_of rfl (by omega) (by omega) (by omega)
 rw [h0,some_bind]
 simp only [List.drop_zero,Nat.sub_zero]
 congr 1
 rcases Nat.le_total l.length 24 with h | h
 rw [Nat.min_eq_left h,List.take_of_length_le (Nat.le_refl _),List.take_of_length_le h]
 rw [Nat.min_eq_right h]
theorem few_len (l:List RowA):(l.take 24).length≤24:=by simp;omega
theorem v0_tk (N:Nat):TkOk N v0:=⟨List.nodup_nil,fun e he=>by simp [v0] at he⟩
theorem save_load {n:Nat} {T:List UInt32} {N c0:Nat} {R:List KeyA} {g:UInt32} {vb:VltA} {db:DevA} {q:SvA} {l:List RowA} {t:NodeP} {out:List SavedA} {r:RefA} (hn:2110≤n) (hl:rightR l=true) (hb:buildF n l=some (t,0)) (hT:Tr n l t) (hR:RunT n t out r)
  (S:SvI N c0 R g vb db q) (hrd:∀s∈out,Rd T R N q.v q.d s) (ho:out.length=pgN n t):f_law14_last out=some r∧loadF n T q.v q.d r=some (l,out,0):=by
 have hpg:=pages_pos hT (rightR_len hl)
 have hl1:=rightR_len hl
 constructor
 obtain ⟨a,s,rfl⟩:=hR.lastE
 simp only [List.length_append,List.length_singleton] at ho
 exact last_eq (by omega)
 exact load_ok hn hl hb hT hR (fun s hs=>⟨((hrd s hs).ok S.vs).1,((hrd s hs).ok S.vs).2.1⟩) (by omega)
theorem all_new {T:List UInt32} {th:List (KeyS×RefA)} (hth:∀k:KeyS,mget th k=none):∀(seg:List SavedA) (q q':SvA),Path (savWh T th) q seg q'→q'.tk.length=q.tk.length+seg.length
 | [],q,q',h=>by rw [show q=q' from h];rfl
 | s::seg,q,q',h=>by
  obtain ⟨q1,h1,h2⟩:=h
  have ih:=all_new hth seg q1 q' h2
  unfold savWh at h1
  obtain ⟨k,hk,h1⟩:=bnd h1
  rw [hth k,show (none:Option RefA).isSome=false from rfl,cond_false] at h1
  obtain ⟨y,hy,h1⟩:=bnd h1
  cases he:decide (y.2.1=0) with
  | true=>
   rw [he,cond_true] at h1
   obtain ⟨l,hl,h1⟩:=bnd h1
   have h3:=Option.some.inj h1
   have hq:q1=⟨l,y.2.2.1,y.2.2.2⟩:=(congrArg Prod.snd h3).symm
   unfold appL at hl
   split at hl
   have hl:=Option.some.inj hl
   rw [ih,hq,←hl]
   simp only [List.length_append,List.length_cons,List.length_nil]
   omega
   cases hl
  | false=>
   rw [he,cond_false] at h1
   have h3:=congrArg (fun z=>z.1.2) (Option.some.inj h1)
   simp only at h3
   rw [h3] at he
   simp at he
/-! ### What is shown -/
abbrev rows6:List RowA:=[⟨1,0,0,[]⟩,⟨2,0,0,[]⟩,⟨3,0,0,[]⟩,⟨4,0,0,[]⟩,⟨5,0,0,[]⟩,⟨6,8,0,[]⟩]
abbrev tree6:NodeP:=.mk 0 0 4 [] [.mk 0 0 0 [⟨1,0,0,[]⟩,⟨2,0,0,[]⟩,⟨3,0,0,[]⟩,⟨4,0,0,[]⟩,⟨5,0,0,[]⟩] [],.mk 8 0 0 [⟨6,8,0,[]⟩] []]
theorem rows6_ok:rightR rows6=true:=by decide +kernel
set_option maxRecDepth 100000 in
theorem rows6_tree:buildF 4200 rows6=some (tree6,0):=by kernel_rfl
theorem p_gshown (T:List UInt32):f_law14_shown 4200 T=some true:=by
 obtain ⟨w,c,hm⟩:=made14_eq (N:=12) (n:=4200) (by omega) (by omega) (by omega)
 have k1:=find1 (m:=1) (by omega) (by omega)
 obtain ⟨t,th,h1,h2,h3,h4⟩:=save_res (n:=4200) (T:=T) (l:=rows6) (had:=[]) (by omega) (N:=12) (by omega) (v0_ok (by omega)) (v0_tk 12) k1 rows6_ok (fun s hs=>by simp at hs) (by simp) (by simp [v0])
 obtain rfl:tree6=t:=by
  have:=h1.symm.trans rows6_tree
  simp only [Option.some.injEq,Prod.mk.injEq,and_true] at this
  exact this.symm
 have hpg:pgN 4200 tree6=4:=rfl
 rcases h4 with ⟨r,out,q,e1,e2,e3,e4,e5,e6,e7,_⟩ | ⟨v,d,c,_,e2,_,_⟩
 obtain ⟨f1,f2⟩:=save_load (n:=4200) (by omega) rows6_ok h1 h2 e2 e4 e5 e6
 rw [hpg] at e6
 unfold f_law14_shown
 rw [show (12:Int)=((12:Nat):Int) from rfl,hm,some_bind,some_bind]
 show (saveF 4200 T v0 (d0 12) rows6 []).bind _=_
 rw [e1,some_bind,f1,some_bind]
 dsimp only
 rw [f2,some_bind]
 dsimp only
 have hs:=e4.seals
 have htk:q.tk.length=4:=by
  rw [all_new (fun k=>h3 k) out _ _ e7,e6]
  rfl
 rw [htk] at hs
 show (andO _ ((f_ref09_Same 4200 rows6 rows6).bind _)).bind _=_
 rw [same_rows rows6 (by decide) (by decide),some_bind,same_pages out (by omega) (by omega)]
 unfold f_vv_Seals
 rw [hs,e6]
 rfl
 exfalso
 rw [hpg] at e2
 simp [v0] at e2
end Go.Proofs.YtkibffdipniemaaGreatDoor

/- The laws of layer 14, of the plain functions: GroveNone, GroveBack, GroveFull. No program's walk in sight. -/
namespace Go.Proofs.YtkibffdipniemaaGreatDoor
open Go

theorem save_bad {n:Nat} {T:List UInt32} {v:VltA} {d:DevA} {l:List RowA} {had:List SavedA} (hn:1100≤n) (hl:l.length≤1000) (h:rightR l=false):saveF n T v d l had=some ([],80,v,d):=by
 unfold saveF
 rw [build_no (by omega) (by omega) h,some_bind]
 rfl
end Go.Proofs.YtkibffdipniemaaGreatDoor

/- Plain laws of a tree's pages: no two of them have one text; a tree of one row less has few pages that are new. No program in sight. Condition: as each says. -/
namespace Go.Proofs.YtkibffdipniemaaGreatDoor
open Go

/-! ### A tree is told by its rows -/
theorem AR.uniq {c c':CellA} {l:List RowA} {L L':Nat} (hl:l≠[]) (A:AR c l L) (A':AR c' l L'):c=c'∧L=L':=by
 have key:∀ {c c':CellA} {L L':Nat},AR c l L→AR c' l L'→¬L<L':=by
  intro c c' L L' A A' h
  obtain ⟨r,hr,s,hs,hne⟩:=A'.two (by omega)
  refine hne ?_
  have hd:∀ {a b:Nat},a / 2^L=b / 2^L→a / 2^(L'-1)=b / 2^(L'-1):=by
   intro a b e
   have:2^(L'-1)=2^L*2^(L'-1-L):=by rw [←Nat.pow_add];congr 1;omega
   rw [this,←Nat.div_div_eq_div_mul,←Nat.div_div_eq_div_mul,e]
  unfold qd
  rw [hd ((A.inn r hr).1.trans (A.inn s hs).1.symm),hd ((A.inn r hr).2.trans (A.inn s hs).2.symm)]
 have hL:L=L':=by
  have h1:=key A A'
  have h2:=key A' A
  omega
 subst hL
 refine ⟨?_,rfl⟩
 obtain ⟨r,hr⟩:=List.exists_mem_of_ne_nil l hl
 have e1:=(A.inn r hr).1.symm.trans (A'.inn r hr).1
 have e2:=(A.inn r hr).2.symm.trans (A'.inn r hr).2
 have m:∀ {a b P:Nat},a%P=0→b%P=0→a / P=b / P→a=b:=by
  intro a b P h1 h2 h3
  have g1:=Nat.div_add_mod a P
  have g2:=Nat.div_add_mod b P
  rw [h1,h3] at g1
  rw [h2] at g2
  omega
 have x:=UInt32.toNat_inj.1 (m A.cx A'.cx e1)
 have y:=UInt32.toNat_inj.1 (m A.cy A'.cy e2)
 have z:=A.lev.trans A'.lev.symm
 cases c
 cases c'
 simp only at x y z
 rw [x,y,z]
theorem All2.eq_of {R R':List RowA→NodeP→Prop} (h:∀x a b,R x a→R' x b→a=b):∀ {xs:List (List RowA)} {as' bs':List NodeP},All2 R xs as'→All2 R' xs bs'→as'=bs'
 | [],_,_,.nil,.nil=>rfl
 | _::_,_,_,.cons h1 h2,.cons h3 h4=>by rw [h _ _ _ h1 h3,All2.eq_of h h2 h4]
theorem Tr.uniq:∀ {f f':Nat} {l:List RowA} {t t':NodeP},Tr f l t→Tr f' l t'→t=t'
 | 0,_,_,_,_,h,_=>h.elim
 | _+1,0,_,_,_,_,h=>h.elim
 | f+1,f'+1,l,t,t',h,h'=>by
  rcases h with ⟨rfl,rfl⟩ | ⟨hne,c,L,A,h⟩
  rcases h' with ⟨_,rfl⟩ | ⟨hne,_⟩
  rfl
  exact absurd rfl hne
  rcases h' with ⟨h0,_⟩ | ⟨_,c',L',A',h'⟩
  exact absurd h0 hne
  obtain ⟨rfl,rfl⟩:=A.uniq hne A'
  rcases h with ⟨h1,rfl⟩ | ⟨h1,h2,ks,rfl,hk⟩
  rcases h' with ⟨_,rfl⟩ | ⟨h3,h4,_⟩
  rfl
  omega
  rcases h' with ⟨h3,_⟩ | ⟨_,_,ks',rfl,hk'⟩
  omega
  rw [All2.eq_of (R:=Tr f) (R':=Tr f') (fun x a b ha hb=>Tr.uniq ha hb) hk hk']
/-! ### The pages of a run -/
abbrev refS (s:SavedA):RefA:=⟨s.page,s.tag⟩
structure Pgs (xs:List PageA) (seg:List SavedA) (rows:List RowA) (roots:List RefA):Prop where
 txt:seg.map (·.txt)=xs.map encPg
 ok:∀x∈xs,pageOk x=true
 rws:(xs.flatMap (·.rows)).Perm rows
 rfs:(xs.flatMap onP++roots).Perm (seg.map refS)
theorem Pgs.append {xs ys:List PageA} {a b:List SavedA} {r1 r2:List RowA} {u v:List RefA} (h1:Pgs xs a r1 u) (h2:Pgs ys b r2 v):Pgs (xs++ys) (a++b) (r1++r2) (u++v):=by
 refine ⟨by rw [List.map_append,List.map_append,h1.txt,h2.txt],fun x hx=>?_,?_,?_⟩
 rcases List.mem_append.1 hx with hx | hx
 exact h1.ok x hx
 exact h2.ok x hx
 rw [List.flatMap_append]
 exact h1.rws.append h2.rws
 rw [List.flatMap_append,List.map_append]
 refine List.Perm.trans ?_ (h1.rfs.append h2.rfs)
 rw [List.append_assoc,List.append_assoc]
 refine List.Perm.append_left _ ?_
 rw [←List.append_assoc,←List.append_assoc]
 exact List.Perm.append_right _ List.perm_append_comm
theorem rows_pgs:∀(ls:List (List RowA)) (seg:List SavedA) (r:RefA),ls≠[]→RunL ls ⟨0,[]⟩ seg r→(∀s∈seg,refOk (refS s)=true)→∃xs,Pgs xs seg ls.flatten [r]∧(∀x∈xs,x.rows∈ls):=by
 intro ls
 induction hn:ls.length generalizing ls with
 | zero=>intro seg r h;exact absurd (List.length_eq_zero_iff.1 hn) h
 | succ m ih=>
  intro seg r hne h hok
  obtain ⟨ls,l,rfl⟩:∃S0 z,ls=S0++[z]:=⟨_,_,(List.dropLast_concat_getLast hne).symm⟩
  obtain ⟨seg',r1,h1,h2,rfl⟩:=h.snoc
  rcases h1.last with ⟨rfl,rfl⟩ | ⟨s,hs,es⟩
  obtain ⟨rfl,_⟩:=h1
  refine ⟨[leafP l ⟨0,[]⟩],⟨rfl,fun x hx=>by rw [List.mem_singleton.1 hx];exact h2,by simp,?_⟩,fun x hx=>by rw [List.mem_singleton.1 hx];simp⟩
  have:onP (leafP l ⟨0,[]⟩)=[]:=if_pos rfl
  simp [this]
  have hne1:ls≠[]:=by
   intro e
   subst e
   rw [h1.1] at hs
   simp at hs
  obtain ⟨xs,hx,hm⟩:=ih ls (by simpa using hn) seg' r1 hne1 h1 (fun s hs=>hok s (List.mem_append_left _ hs))
  have ho:=hok s (List.mem_append_left _ hs)
  rw [show refS s=r1 from es] at ho
  have hon:onP (leafP l r1)=[r1]:=by
   unfold onP
   have:refNo ⟨r1.page,r1.tag⟩=false:=by
    have h5:=(refOk_len ho).1
    unfold refNo
    simp only [Bool.and_eq_false_iff,decide_eq_false_iff_not]
    right
    intro e
    have e:r1.tag=[]:=e
    rw [e] at h5
    simp at h5
   rw [this,if_neg (by decide)]
   rfl
  refine ⟨xs++[leafP l r1],⟨?_,fun x hx'=>?_,?_,?_⟩,fun x hx'=>?_⟩
  rw [List.map_append,List.map_append,hx.txt]
  rfl
  rcases List.mem_append.1 hx' with hx' | hx'
  exact hx.ok x hx'
  rw [List.mem_singleton.1 hx'];exact h2
  rw [List.flatMap_append,List.flatten_append]
  refine hx.rws.append ?_
  simp
  rw [List.flatMap_append,List.map_append]
  refine List.Perm.append ?_ (by simp)
  simpa [hon] using hx.rfs
  rcases List.mem_append.1 hx' with hx' | hx'
  exact List.mem_append_left _ (hm x hx')
  rw [List.mem_singleton.1 hx']
  simp
theorem kids_pgs {R:NodeP→List SavedA→RefA→Prop} {lv:NodeP→List RowA} {E:PageA→Prop}:∀(ks:List NodeP) (seg:List SavedA) (rs:List RefA),RunK R ks seg rs→(∀k∈ks,∀s r,R k s r→(∀x∈s,refOk (refS x)=true)→∃xs,Pgs xs s (lv k) [r]∧∀x∈xs,E x)→(∀s∈seg,refOk (refS s)=true)→
  ∃xs,Pgs xs seg (ks.map lv).flatten rs∧∀x∈xs,E x
 | [],seg,rs,h,_,_=>by
  obtain ⟨rfl,rfl⟩:=h
  exact ⟨[],⟨rfl,by simp,by simp,by simp⟩,by simp⟩
 | k::ks,seg,rs,h,hk,hok=>by
  obtain ⟨s1,r1,s2,rs',h1,h2,rfl,rfl⟩:=h
  obtain ⟨xs,p1,e1⟩:=hk k (by simp) s1 r1 h1 (fun s hs=>hok s (List.mem_append_left _ hs))
  obtain ⟨ys,p2,e2⟩:=kids_pgs ks s2 rs' h2 (fun j hj=>hk j (by simp [hj])) (fun s hs=>hok s (List.mem_append_right _ hs))
  refine ⟨xs++ys,by simpa using p1.append p2,fun x hx=>?_⟩
  rcases List.mem_append.1 hx with hx | hx
  exact e1 x hx
  exact e2 x hx
theorem fours_ne {l p:List RowA} (hl:l≠[]) (h:p∈fours l):p≠[]:=by
 unfold fours at h
 rw [if_neg hl] at h
 obtain ⟨i,hi,rfl⟩:=List.mem_map.1 h
 have:=List.mem_range.1 hi
 intro e
 have:=congrArg List.length e
 simp at this
 omega
theorem node_pgs:∀(f:Nat) (l:List RowA) (t:NodeP) (seg:List SavedA) (r:RefA),Tr f l t→l≠[]→RunT f t seg r→(∀s∈seg,refOk (refS s)=true)→∃xs,Pgs xs seg (lvN f t) [r]∧∀x∈xs,x.rows≠[]∨onP x≠[]
 | 0,_,_,_,_,h,_,_,_=>h.elim
 | f+1,l,t,seg,r,hT,hl,h,hok=>by
  have leaf:t.rows=l→t.kids=[]→∃xs,Pgs xs seg (lvN (f+1) t) [r]∧∀x∈xs,x.rows≠[]∨onP x≠[]:=by
   intro e1 e2
   rcases h.2 with ⟨_,h2⟩ | ⟨h1,_⟩
   have hne:(fours t.rows).reverse≠[]:=by
    intro e
    have:=congrArg List.length e
    rw [List.length_reverse,fours_len,List.length_nil] at this
    omega
   obtain ⟨xs,p1,p2⟩:=rows_pgs _ seg r hne h2 hok
   refine ⟨xs,⟨p1.txt,p1.ok,?_,p1.rfs⟩,fun x hx=>.inl ?_⟩
   rw [lvN,if_pos (by rw [e2];rfl)]
   refine p1.rws.trans ?_
   have h5:=(List.reverse_perm (fours t.rows)).flatten
   rw [fours_flat] at h5
   exact h5
   exact fours_ne (by rw [e1];exact hl) (List.mem_reverse.1 (p2 x hx))
   exact absurd e2 h1
  rcases hT with ⟨rfl,rfl⟩ | ⟨_,c,L,A,⟨_,rfl⟩ | ⟨h4,hL,ks,rfl,hk⟩⟩
  exact absurd rfl hl
  exact leaf rfl rfl
  have hkl:=hk.length
  have hq2:=(qlist_two A hL).1
  rcases h.2 with ⟨h1,_⟩ | ⟨_,segs,rs,h2,h3,rfl⟩
  have:ks=[]:=h1
  rw [this,List.length_nil] at hkl
  omega
  obtain ⟨xs,p1,p2⟩:=kids_pgs (lv:=lvN f) (E:=fun x=>x.rows≠[]∨onP x≠[]) ks segs rs h2 (fun k hkm s r hR hok=>by
   obtain ⟨l',hl',hT'⟩:=hk.right k hkm
   exact node_pgs f l' k s r hT' (qlist_mem hl').1 hR hok) (fun s hs=>hok s (List.mem_append_left _ hs))
  have hon:onP (innerP (.mk c.x c.y c.lev [] ks) rs)=rs:=if_pos rfl
  have hrl:rs.length=ks.length:=(RunK.len (g:=fun k=>pgN f k) (fun k s r hR=>RunT.len f hR) h2).2
  refine ⟨xs++[innerP (.mk c.x c.y c.lev [] ks) rs],⟨?_,fun x hx=>?_,?_,?_⟩,fun x hx=>?_⟩
  rw [List.map_append,List.map_append,p1.txt]
  rfl
  rcases List.mem_append.1 hx with hx | hx
  exact p1.ok x hx
  rw [List.mem_singleton.1 hx];exact h3
  rw [List.flatMap_append,lvN,if_neg (by simp only [NodeP.kids];omega)]
  simpa [NodeP.kids] using p1.rws
  rw [List.flatMap_append,List.map_append]
  refine List.Perm.append ?_ (by simp)
  simpa [hon] using p1.rfs
  rcases List.mem_append.1 hx with hx | hx
  exact p2 x hx
  rw [List.mem_singleton.1 hx]
  right
  rw [hon]
  intro e
  rw [e,List.length_nil] at hrl
  omega
end Go.Proofs.YtkibffdipniemaaGreatDoor

/- Plain laws of a tree's pages: no two of them have one text; what was had is found. No program in sight. Condition: as each says. -/
namespace Go.Proofs.YtkibffdipniemaaGreatDoor
open Go

theorem encPg_inj {x y:PageA} (hx:pageOk x=true) (hy:pageOk y=true) (h:encPg x=encPg y):x=y:=by
 have h1:=decode_enc (n:=10) (Nat.le_refl _) hx
 have h2:=decode_enc (n:=10) (Nat.le_refl _) hy
 rw [h] at h1
 have:=Option.some.inj (h1.symm.trans h2)
 exact congrArg Prod.fst this
theorem rising_nodup {l:List RowA} (h:rising l=true):l.Nodup:=((rising_iff l).1 h).imp fun hlt e=>by
 rw [e] at hlt
 exact u64_irr hlt (UInt64.le_refl _)
theorem texts_nodup {f:Nat} {l:List RowA} {t:NodeP} {seg:List SavedA} {r:RefA} (hT:Tr f l t) (hr:rightR l=true) (h:RunT f t seg r) (hok:∀s∈seg,refOk (refS s)=true) (hn:(seg.map refS).Nodup):(seg.map (·.txt)).Nodup:=by
 by_cases hl:l=[]
 have h1:=h.len
 rw [(pages_le hT).1 hl] at h1
 rcases seg with _ | ⟨a,_ | ⟨b,s⟩⟩
 simp at h1
 simp
 simp at h1
 obtain ⟨xs,P,hne⟩:=node_pgs f l t seg r hT hl h hok
 have hr':=hr
 unfold rightR at hr'
 simp only [Bool.and_eq_true] at hr'
 have n1:(xs.flatMap (·.rows)).Nodup:=(P.rws.trans hT.leaves).nodup_iff.2 (rising_nodup hr'.1.2)
 have n2:(xs.flatMap onP).Nodup:=(List.nodup_append.1 (P.rfs.nodup_iff.2 hn)).1
 have p1:=(List.pairwise_flatMap.1 n1).2
 have p2:=(List.pairwise_flatMap.1 n2).2
 rw [P.txt]
 refine List.pairwise_map.2 ((p1.and p2).imp_of_mem fun {a b} ha hb hab e=>?_)
 have e':=encPg_inj (P.ok a ha) (P.ok b hb) e
 subst e'
 rcases hne a ha with hx | hx
 obtain ⟨z,hz⟩:=List.exists_mem_of_ne_nil _ hx
 exact hab.1 z hz z hz rfl
 obtain ⟨z,hz⟩:=List.exists_mem_of_ne_nil _ hx
 exact hab.2 z hz z hz rfl
theorem find_self:∀ {had:List SavedA} {s:SavedA},(had.map (·.txt)).Nodup→s∈had→(had.find? fun x=>decide (x.txt=s.txt))=some s
 | a::l,s,hn,hs=>by
  simp only [List.map_cons,List.nodup_cons] at hn
  rcases List.mem_cons.1 hs with rfl | hs
  simp
  have:a.txt≠s.txt:=fun e=>hn.1 (by rw [e];exact List.mem_map_of_mem hs)
  rw [List.find?_cons_of_neg (by simpa using this)]
  exact find_self hn.2 hs
def KnownS (th:List (KeyS×RefA)) (s:SavedA):Prop:=s.txt.length≤198∧∀k:KeyS,k.1=s.txt→mget th k=some (refS s)
theorem known_had {had:List SavedA} {th:List (KeyS×RefA)} (hn:(had.map (·.txt)).Nodup) (hl:∀s∈had,s.txt.length≤198) (hth:∀k:KeyS,mget th k=(had.find? fun s=>decide (s.txt=k.1)).map fun s=>(⟨s.page,s.tag⟩:RefA)):∀s∈had,KnownS th s:=by
 intro s hs
 refine ⟨hl s hs,fun k hk=>?_⟩
 rw [hth k,hk,find_self hn hs]
 rfl
theorem known_wh {T:List UInt32} {th:List (KeyS×RefA)} {q:SvA} {s:SavedA} (h:KnownS th s):savWh T th q s.txt=some ((⟨s.page,s.tag⟩,0),q):=by
 unfold savWh
 rw [keyS_ok (show s.txt.length≤1048576 by have:=h.1;omega),some_bind,h.2 _ rfl]
 rfl
theorem known_path {T:List UInt32} {th:List (KeyS×RefA)} {q:SvA}:∀(seg:List SavedA),(∀s∈seg,KnownS th s)→Path (savWh T th) q seg q
 | [],_=>rfl
 | s::seg,h=>⟨q,known_wh (h s (by simp)),known_path seg fun x hx=>h x (by simp [hx])⟩
theorem new_pages {T:List UInt32} {th:List (KeyS×RefA)} (hth:∀k:KeyS,mget th k=none):∀(seg:List SavedA) (q q':SvA),Path (savWh T th) q seg q'→q'.tk=q.tk++seg.map (·.page)
 | [],q,q',h=>by rw [show q=q' from h];simp
 | s::seg,q,q',h=>by
  obtain ⟨q1,h1,h2⟩:=h
  have ih:=new_pages hth seg q1 q' h2
  unfold savWh at h1
  obtain ⟨k,hk,h1⟩:=bnd h1
  rw [hth k,show (none:Option RefA).isSome=false from rfl,cond_false] at h1
  obtain ⟨y,hy,h1⟩:=bnd h1
  cases he:decide (y.2.1=0) with
  | true=>
   rw [he,cond_true] at h1
   obtain ⟨l,hl,h1⟩:=bnd h1
   have h3:=Option.some.inj h1
   have hq:q1=⟨l,y.2.2.1,y.2.2.2⟩:=(congrArg Prod.snd h3).symm
   have hy1:y.1=⟨s.page,s.tag⟩:=congrArg (fun z=>z.1.1) h3
   unfold appL at hl
   split at hl
   have hl:=Option.some.inj hl
   rw [ih,hq,←hl,hy1]
   simp
   cases hl
  | false=>
   rw [he,cond_false] at h1
   have h3:=congrArg (fun z=>z.1.2) (Option.some.inj h1)
   simp only at h3
   rw [h3] at he
   simp at he
theorem SvI.tkn {N c0:Nat} {R:List KeyA} {g:UInt32} {vb:VltA} {db:DevA} {q:SvA} (S:SvI N c0 R g vb db q):q.tk.Nodup:=by
 have:=S.ok.nd
 rw [S.tak,List.map_append] at this
 have:=(List.nodup_append.1 this).1
 rw [List.map_reverse,List.map_map] at this
 have h2:(q.tk.map ((fun e:UInt32×Bool=>e.1)∘fun p=>(p,true)))=q.tk:=by
  simp [Function.comp_def]
 rw [h2] at this
 exact List.pairwise_reverse.1 (this.imp fun h=>h.symm) |>.imp fun h=>h.symm |> fun h=>h.symm
theorem save_again {n:Nat} {T:List UInt32} {N c0:Nat} {R:List KeyA} {g:UInt32} {v:VltA} {d:DevA} {l:List RowA} {t:NodeP} {out:List SavedA} {r:RefA} (hn:1100≤n) (V:VS N c0 R g v d) (hb:buildF n l=some (t,0)) (hR:RunT n t out r)
  (hrd:∀s∈out,Rd T R N v d s) (hnd:(out.map (·.txt)).Nodup) (hlen:out.length≤100000):saveF n T v d l out=some (out,0,v,d):=by
 obtain ⟨th,h2,h3⟩:=there_had out (fun s hs=>by have:=((hrd s hs).ok V).2.2;omega) (by omega)
 have hk:=known_had hnd (fun s hs=>((hrd s hs).ok V).2.2) h3
 have hp:=node_path (n:=n) (by omega) n (o:=[]) hR (known_path (T:=T) (q:=⟨[],v,d⟩) out hk) (by simpa using hlen)
 unfold saveF
 rw [hb,some_bind,show (!decide ((0:Int)=0))=false from rfl,cond_false,if_neg (by omega),h2,some_bind,hp,some_bind]
 unfold saveE
 simp
end Go.Proofs.YtkibffdipniemaaGreatDoor

/- Plain laws of a tree's pages: a tree of one row less has few pages that are new. No program in sight. Condition: as each says. -/
namespace Go.Proofs.YtkibffdipniemaaGreatDoor
open Go

theorem RunK.mono {R R':NodeP→List SavedA→RefA→Prop} (h:∀k s r,R k s r→R' k s r):∀ {ks:List NodeP} {seg:List SavedA} {rs:List RefA},RunK R ks seg rs→RunK R' ks seg rs
 | [],_,_,hk=>hk
 | _::_,_,_,hk=>by
  obtain ⟨s1,r1,s2,rs',h1,h2,h3,h4⟩:=hk
  exact ⟨s1,r1,s2,rs',h _ _ _ h1,RunK.mono h h2,h3,h4⟩
theorem RunT.up:∀(f:Nat) {t:NodeP} {seg:List SavedA} {r:RefA},RunT f t seg r→RunT (f+1) t seg r
 | 0,_,_,_,h=>h.elim
 | f+1,t,seg,r,h=>by
  refine ⟨h.1,?_⟩
  rcases h.2 with h2 | ⟨h1,segs,rs,h2,h3,h4⟩
  exact .inl h2
  exact .inr ⟨h1,segs,rs,h2.mono fun k s r hR=>RunT.up f hR,h3,h4⟩
theorem RunT.ups {f g:Nat} (hfg:f≤g) {t:NodeP} {seg:List SavedA} {r:RefA} (h:RunT f t seg r):RunT g t seg r:=by
 obtain ⟨d,rfl⟩:∃d,g=f+d:=⟨g-f,by omega⟩
 clear hfg
 induction d with
 | zero=>exact h
 | succ d ih=>exact RunT.up _ ih
section
variable {σ:Type} {wh:WhO σ} {n:Nat} {Inv:σ→Prop} {Good:σ→SavedA→Prop} {room:σ→Nat}
def GoT (wh:WhO σ) (n:Nat) (Inv:σ→Prop) (Good:σ→SavedA→Prop) (room:σ→Nat) (f:Nat) (t:NodeP) (c:Nat):Prop:=
 ∀(p:PlA) (q:σ),Inv q→p.wrong=0→p.out.length+pgN f t≤100000→c≤room q→
  ∃r p' q',plNode n wh f t p q=some (r,(p',q'))∧p'.wrong=0∧refOk r=true∧Inv q'∧(∀x,Good q x→Good q' x)∧(∃seg,p'.out=p.out++seg∧seg.length=pgN f t∧RunT f t seg r∧∀x∈seg,Good q' x)∧room q≤room q'+c
theorem GoT.weak {f:Nat} {t:NodeP} {c c':Nat} (h:GoT wh n Inv Good room f t c) (hc:c≤c'):GoT wh n Inv Good room f t c':=by
 intro p q hi hw hb hr
 obtain ⟨r,p',q',h1,h2,h3,h4,h5,h6,h7⟩:=h p q hi hw hb (by omega)
 exact ⟨r,p',q',h1,h2,h3,h4,h5,h6,by omega⟩
theorem go_new (W:WhOk wh Inv Good room) (hn:10≤n) {f:Nat} {l:List RowA} {t:NodeP} (hT:Tr f l t) (hr:rightR l=true):GoT wh n Inv Good room f t (pgN f t):=by
 intro p q hi hw hb hc
 obtain ⟨r,p',q',h1,h2,h3,h4,h5⟩:=node_res W hn f l t p q hT hr hi hw hb
 rcases h5 with ⟨w,seg,o1,o2,o3,_,o5,o6⟩ | ⟨_,w⟩
 exact ⟨r,p',q',h1,w,h2 w,h3,h4,⟨seg,o1,o2,o3,o5⟩,o6⟩
 omega
theorem go_known (hn:10≤n) {f:Nat} {t:NodeP} {seg:List SavedA} {r:RefA} (h:RunT f t seg r) (hr:refOk r=true) (hp:∀q,Inv q→Path wh q seg q) (hg:∀q,Inv q→∀s∈seg,Good q s):GoT wh n Inv Good room f t 0:=by
 intro p q hi hw hb _
 have hl:=h.len
 have:=node_path hn f (o:=p.out) h (hp q hi) (by omega)
 have hpe:(⟨p.out,0⟩:PlA)=p:=by
  cases p
  simp only at hw
  rw [hw]
 rw [hpe] at this
 exact ⟨r,_,q,this,rfl,hr,hi,fun _ h=>h,⟨seg,rfl,hl,h,hg q hi⟩,by omega⟩
theorem kids_go {f:Nat} {c:NodeP→Nat}:∀(ks:List NodeP) (acc:List RefA) (p:PlA) (q:σ),(∀k∈ks,GoT wh n Inv Good room f k (c k))→Inv q→p.wrong=0→p.out.length+(ks.map (pgN f)).sum≤100000→acc.length+ks.length≤1000→(ks.map c).sum≤room q→
  ∃rs p' q',kidsPl (plNode n wh f) ks p q acc=some (acc++rs,(p',q'))∧p'.wrong=0∧(∀r∈rs,refOk r=true)∧Inv q'∧(∀x,Good q x→Good q' x)∧(∃seg,p'.out=p.out++seg∧seg.length=(ks.map (pgN f)).sum∧RunK (RunT f) ks seg rs∧∀x∈seg,Good q' x)∧room q≤room q'+(ks.map c).sum
 | [],acc,p,q,_,hi,hw,_,_,_=>⟨[],p,q,by simp [kidsPl],hw,by simp,hi,fun _ h=>h,⟨[],by simp,rfl,⟨rfl,rfl⟩,by simp⟩,by simp⟩
 | k::ks,acc,p,q,hk,hi,hw,hb,ha,hc=>by
  simp only [List.map_cons,List.sum_cons,List.length_cons] at hb ha hc
  obtain ⟨r1,p1,q1,e1,w1,k1,i1,g1,⟨seg1,o1,l1,ru1,go1⟩,m1⟩:=hk k (by simp) p q hi hw (by omega) (by omega)
  obtain ⟨rs,p2,q2,e2,w2,k2,i2,g2,⟨seg2,o2,l2,ru2,go2⟩,m2⟩:=kids_go ks (acc++[r1]) p1 q1 (fun j hj=>hk j (by simp [hj])) i1 w1 (by rw [o1];simp;omega) (by simp;omega) (by omega)
  refine ⟨r1::rs,p2,q2,?_,w2,fun r hr=>?_,i2,fun x hx=>g2 x (g1 x hx),⟨seg1++seg2,by rw [o2,o1];simp,by simp [l1,l2],⟨seg1,r1,seg2,rs,ru1,ru2,rfl,rfl⟩,fun x hx=>?_⟩,by simp only [List.map_cons,List.sum_cons];omega⟩
  unfold kidsPl
  rw [e1,some_bind,appL_eq (by simp;omega) (by simp;omega),some_bind,e2]
  simp
  rcases List.mem_cons.1 hr with rfl | hr
  exact k1
  exact k2 r hr
  rcases List.mem_append.1 hx with hx | hx
  exact g2 _ (go1 x hx)
  exact go2 x hx
theorem go_inner (W:WhOk wh Inv Good room) (hn:10≤n) {f:Nat} {l:List RowA} {cc:CellA} {L:Nat} {ks:List NodeP} {c:NodeP→Nat} (A:AR cc l L) (hL:0<L) (hl:l.length≤1000) (hk:All2 (Tr f) (qlist L l) ks) (hgo:∀k∈ks,GoT wh n Inv Good room f k (c k)):
  GoT wh n Inv Good room (f+1) (.mk cc.x cc.y cc.lev [] ks) ((ks.map c).sum+1):=by
 intro p q hi hw hb hc
 have hkl:=hk.length
 have hq4:=qlist_le4 L l
 have hq2:=(qlist_two A hL).1
 have hpg:pgN (f+1) (.mk cc.x cc.y cc.lev [] ks)=(ks.map (pgN f)).sum+1:=by
  rw [pgN,if_neg (by simp only [NodeP.kids];omega)]
  rfl
 rw [hpg] at hb ⊢
 obtain ⟨rs,p1,q1,e1,w1,k1,i1,g1,⟨seg1,o1,l1,ru1,go1⟩,m1⟩:=kids_go (c:=c) ks [] p q hgo hi hw (by omega) (by simp;omega) (by omega)
 have hrun:plNode n wh (f+1) (.mk cc.x cc.y cc.lev [] ks) p q=plPage n wh (innerP (.mk cc.x cc.y cc.lev [] ks) rs) p1 q1:=by
  unfold plNode
  rw [if_neg (by simp only [NodeP.kids,NodeP.rows,List.length_nil];omega),decide_eq_true (by simp only [NodeP.kids];omega),cond_true,show (NodeP.mk cc.x cc.y cc.lev [] ks).kids=ks from rfl,e1,some_bind]
  rfl
 have hrl:=(RunK.len (fun k s r hr=>RunT.len f hr) ru1).2
 have hok:pageOk (innerP (.mk cc.x cc.y cc.lev [] ks) rs)=true:=by
  unfold pageOk innerP
  rw [show decide ((2:Int)=1)=false from rfl,cond_false,show decide ((2:Int)=2)=true from rfl,cond_true]
  have h5:rs.all refOk=true:=List.all_eq_true.2 k1
  have h6:cellOk ⟨cc.x,cc.y,cc.lev⟩=true:=A.ok
  have h7:=A.lev
  show (((rs.all refOk&&decide ((([]:List RowA).length:Int)=0))&&refNo ⟨0,[]⟩&&decide (2≤(rs.length:Int)))&&decide ((rs.length:Int)≤4)&&cellOk ⟨cc.x,cc.y,cc.lev⟩&&decide (0<cc.lev))=true
  rw [h5,h6,decide_eq_true (show 2≤(rs.length:Int) by omega),decide_eq_true (show (rs.length:Int)≤4 by omega),decide_eq_true (show 0<cc.lev by omega)]
  rfl
 obtain ⟨r,p',q',e2,k2,i2,g2,s2⟩:=page_res W hn hok i1 w1 (by rw [o1];simp;omega)
 rcases s2 with ⟨w2,seg2,o2,l2,rfl,_,go2,m2⟩ | ⟨w2,m2⟩
 refine ⟨r,p',q',hrun.trans e2,w2,k2 w2,i2,fun x hx=>g2 x (g1 x hx),⟨seg1++[⟨encPg (innerP (.mk cc.x cc.y cc.lev [] ks) rs),r.page,r.tag⟩],by rw [o2,o1];simp,by simp [l1],⟨⟨by simp [NodeP.rows],by simp only [NodeP.kids];omega⟩,.inr ⟨?_,seg1,rs,ru1,hok,rfl⟩⟩,fun x hx=>?_⟩,by omega⟩
 intro e
 have:ks=[]:=e
 rw [this,List.length_nil] at hkl
 omega
 rcases List.mem_append.1 hx with hx | hx
 exact g2 _ (go1 _ hx)
 exact go2 x hx
 omega
end
/-! ### One row less -/
theorem AR.less {c:CellA} {l l':List RowA} {L:Nat} (A:AR c l L) (hs:∀r∈l',r∈l) (h2:0<L→∃r∈l',∃s∈l',qd L r≠qd L s):AR c l' L:=⟨A.lev,A.le,A.cx,A.cy,A.lx,A.ly,fun r hr=>A.inn r (hs r hr),h2⟩
theorem qlist_nodup (L:Nat) (l:List RowA):(qlist L l).Nodup:=by
 have key:∀i j,i≠j→∀p,p=(l.filter fun r=>decide (qd L r=i))→∀q,q=(l.filter fun r=>decide (qd L r=j))→p≠[]→p≠q:=by
  intro i j hij p hp q hq hne e
  obtain ⟨z,hz⟩:=List.exists_mem_of_ne_nil _ hne
  have h1:=hz
  rw [hp] at h1
  rw [e,hq] at hz
  have a1:=(List.mem_filter.1 h1).2
  have a2:=(List.mem_filter.1 hz).2
  simp only [decide_eq_true_eq] at a1 a2
  omega
 have h4:(qparts L l).Pairwise fun p q=>p≠[]→p≠q:=by
  unfold qparts
  simp only [List.pairwise_cons,List.mem_cons,List.not_mem_nil,or_false,List.Pairwise.nil,and_true]
  refine ⟨?_,?_,?_,?_⟩
  rintro a (rfl | rfl | rfl)
  exact key 0 1 (by decide) _ rfl _ rfl
  exact key 0 2 (by decide) _ rfl _ rfl
  exact key 0 3 (by decide) _ rfl _ rfl
  rintro a (rfl | rfl)
  exact key 1 2 (by decide) _ rfl _ rfl
  exact key 1 3 (by decide) _ rfl _ rfl
  rintro a rfl
  exact key 2 3 (by decide) _ rfl _ rfl
  simp
 unfold qlist
 refine (h4.filter _).imp_of_mem fun {a b} ha hb h=>h ?_
 have:=(List.mem_filter.1 ha).2
 simpa using this
def lessN (m:Nat):Nat:=max 1 (m-4)
theorem cost_sum {c:List RowA→Nat} {X:List RowA} {C:Nat} {R:List RowA→NodeP→Prop} {d:NodeP→Nat}:∀ {xs:List (List RowA)} {ks:List NodeP},All2 R xs ks→xs.Nodup→(∀x k,x∈xs→R x k→x≠X→d k=0)→(∀k,d k≤C)→(X∉xs→(ks.map d).sum=0)∧(ks.map d).sum≤C
 | [],_,.nil,_,_,_=>by simp
 | x::xs,_,.cons (b:=k) (ys:=ks) h1 h2,hn,h0,hC=>by
  obtain ⟨n1,n2⟩:=List.nodup_cons.1 hn
  obtain ⟨i1,i2⟩:=cost_sum (c:=c) (X:=X) (C:=C) h2 n2 (fun y j hy=>h0 y j (by simp [hy])) hC
  simp only [List.map_cons,List.sum_cons]
  constructor
  intro hX
  simp only [List.mem_cons,not_or] at hX
  rw [h0 x k (by simp) h1 (fun e=>hX.1 e.symm),i1 hX.2]
  by_cases e:x=X
  subst e
  rw [i1 n1]
  have:=hC k
  omega
  rw [h0 x k (by simp) h1 e]
  omega
end Go.Proofs.YtkibffdipniemaaGreatDoor

/- Plain laws of a tree's pages: a tree of one row less has few pages that are new. No program in sight. Condition: as each says. -/
namespace Go.Proofs.YtkibffdipniemaaGreatDoor
open Go

theorem All2.left {α β:Type} {R:α→β→Prop} {xs:List α} {ys:List β} (h:All2 R xs ys):∀x∈xs,∃y∈ys,R x y:=by
 induction h with
 | nil=>simp
 | cons h1 _ ih=>
  intro x hx
  rcases List.mem_cons.1 hx with rfl | hx
  exact ⟨_,by simp,h1⟩
  obtain ⟨y,hy,hR⟩:=ih x hx
  exact ⟨y,by simp [hy],hR⟩
theorem RunK.each {R:NodeP→List SavedA→RefA→Prop}:∀ {ks:List NodeP} {seg:List SavedA} {rs:List RefA},RunK R ks seg rs→∀k∈ks,∃s r,R k s r∧(∀x∈s,x∈seg)∧r∈rs
 | [],_,_,_,k,hk=>by simp at hk
 | a::ks,_,_,h,k,hk=>by
  obtain ⟨s1,r1,s2,rs',h1,h2,rfl,rfl⟩:=h
  rcases List.mem_cons.1 hk with rfl | hk
  exact ⟨s1,r1,h1,fun x hx=>List.mem_append_left _ hx,by simp⟩
  obtain ⟨s,r,g1,g2,g3⟩:=RunK.each h2 k hk
  exact ⟨s,r,g1,fun x hx=>List.mem_append_right _ (g2 x hx),by simp [g3]⟩
section
variable {σ:Type} {wh:WhO σ} {n:Nat} {Inv:σ→Prop} {Good:σ→SavedA→Prop} {room:σ→Nat}
def Kn (wh:WhO σ) (Inv:σ→Prop) (Good:σ→SavedA→Prop) (s:SavedA):Prop:=∀q,Inv q→wh q s.txt=some ((⟨s.page,s.tag⟩,0),q)∧Good q s
def KnT (wh:WhO σ) (Inv:σ→Prop) (Good:σ→SavedA→Prop) (f:Nat) (t:NodeP):Prop:=∃seg r,RunT f t seg r∧refOk r=true∧∀s∈seg,Kn wh Inv Good s
theorem Kn.path {q:σ} (hi:Inv q):∀(seg:List SavedA),(∀s∈seg,Kn wh Inv Good s)→Path wh q seg q
 | [],_=>rfl
 | s::seg,h=>⟨q,(h s (by simp) q hi).1,Kn.path hi seg fun x hx=>h x (by simp [hx])⟩
theorem KnT.go (hn:10≤n) {f g:Nat} (hfg:f≤g) {t:NodeP} (h:KnT wh Inv Good f t):GoT wh n Inv Good room g t 0:=by
 obtain ⟨seg,r,h1,h2,h3⟩:=h
 exact go_known hn (h1.ups hfg) h2 (fun q hi=>Kn.path hi seg h3) fun q hi s hs=>(h3 s hs q hi).2
theorem pg_leaf {f:Nat} {l:List RowA} {t:NodeP} (hT:Tr f l t) (hl:l.length≤4∨∀c L,AR c l L→L=0):pgN f t=max 1 ((l.length+3) / 4):=by
 cases f with
 | zero=>exact hT.elim
 | succ f=>
  rcases hT with ⟨rfl,rfl⟩ | ⟨hne,c,L,A,⟨_,rfl⟩ | ⟨h4,hL,ks,rfl,hk⟩⟩
  rfl
  rw [pgN,if_pos (show (NodeP.mk c.x c.y c.lev l []).kids.length=0 from rfl)]
  rfl
  exfalso
  rcases hl with hl | hl
  omega
  have:=hl c L A
  omega
theorem go_less (W:WhOk wh Inv Good room) (hn:10≤n):∀(f f':Nat) (A B:List RowA) (x:RowA) (t t':NodeP),Tr f (A++x::B) t→Tr f' (A++B) t'→f≤f'→rightR (A++x::B)=true→KnT wh Inv Good f t→
  GoT wh n Inv Good room f' t' (lessN (A++x::B).length)
 | 0,_,_,_,_,_,_,h,_,_,_,_=>h.elim
 | f+1,0,_,_,_,_,_,_,h,_,_,_=>h.elim
 | f+1,f'+1,A,B,x,t,t',hT,hT',hff,hr,hkn=>by
  have hsub:(A++B).Sublist (A++x::B):=List.Sublist.append_left (List.sublist_cons_self x B) A
  have hr':=rightR_sub hr hsub
  have hlen:(A++x::B).length=(A++B).length+1:=by simp;omega
  have hl1000:=rightR_len hr
  have small:(A++B).length≤4∨(∀c L,AR c (A++B) L→L=0)→GoT wh n Inv Good room (f'+1) t' (lessN (A++x::B).length):=by
   intro hs
   refine (go_new W hn hT' hr').weak ?_
   rw [pg_leaf hT' hs,hlen]
   unfold lessN
   omega
  by_cases h5:(A++B).length≤4
  exact small (.inl h5)
  rcases hT with ⟨h0,_⟩ | ⟨_,c,L,AR1,⟨hleaf,_⟩ | ⟨h4,hL,ks,rfl,hk⟩⟩
  simp at h0
  
  have hL0:L=0:=by omega
  subst hL0
  refine small (.inr fun c' L' A'=>?_)
  have A0:AR c (A++B) 0:=AR1.less (fun r hr=>hsub.subset hr) (fun h=>absurd h (by decide))
  exact (A0.uniq (by intro e;rw [e] at h5;simp at h5) A').2.symm
  
  have hkids:∀k∈ks,KnT wh Inv Good f k:=by
   obtain ⟨seg,r,h1,h2,h3⟩:=hkn
   intro k hkm
   rcases h1.2 with ⟨h6,_⟩ | ⟨_,segs,rs,h6,h7,rfl⟩
   have:ks=[]:=h6
   rw [this] at hkm
   simp at hkm
   obtain ⟨s,r1,g1,g2,g3⟩:=h6.each k hkm
   obtain ⟨_,g4,_⟩:=pageOk_inner h7 (show ((2:Int)≠1) by decide)
   exact ⟨s,r1,g1,g4 r1 g3,fun y hy=>h3 y (List.mem_append_left _ (g2 y hy))⟩
  
  have other:∀i,i≠qd L x→(A++B).filter (fun r=>decide (qd L r=i))=(A++x::B).filter fun r=>decide (qd L r=i):=by
   intro i hi
   rw [List.filter_append,List.filter_append,List.filter_cons_of_neg (by simpa using fun e=>hi e.symm)]
  by_cases h2:∃r∈A++B,∃s∈A++B,qd L r≠qd L s
  have A2:AR c (A++B) L:=AR1.less (fun r hr=>hsub.subset hr) fun _=>h2
  have hne:A++B≠[]:=by intro e;rw [e] at h5;simp at h5
  rcases hT' with ⟨h0,_⟩ | ⟨_,c',L',A',h'⟩
  exact absurd h0 hne
  obtain ⟨rfl,rfl⟩:=A2.uniq hne A'
  rcases h' with ⟨h6,_⟩ | ⟨_,_,ks',rfl,hk'⟩
  omega
  
  let X:=(A++B).filter fun r=>decide (qd L r=qd L x)
  let C:=lessN ((A++x::B).filter fun r=>decide (qd L r=qd L x)).length
  have hC:C+1≤lessN (A++x::B).length:=by
   have hin:((A++x::B).filter fun r=>decide (qd L r=qd L x))∈qlist L (A++x::B):=filter_in (by simp)
   have:=(qlist_two AR1 hL).2 _ hin
   show lessN _+1≤_
   unfold lessN
   omega
  let d:NodeP→Nat:=fun k => @ite _ (∃p,p∈qlist L (A++B)∧Tr f' p k∧p≠X) (Classical.propDecidable _) 0 C
  have hgo:∀k∈ks',GoT wh n Inv Good room f' k (d k):=by
   intro k hkm
   have known:∀p,p∈qlist L (A++B)→Tr f' p k→p≠X→GoT wh n Inv Good room f' k 0:=by
    intro p hp hTp hpX
    obtain ⟨hpne,i,rfl⟩:=qlist_mem hp
    have hi:i≠qd L x:=fun e=>hpX (by rw [e])
    have heq:=other i hi
    have hmem:((A++x::B).filter fun r=>decide (qd L r=i))∈qlist L (A++x::B):=by
     obtain ⟨z,hz⟩:=List.exists_mem_of_ne_nil _ hpne
     rw [heq] at hz
     have hz1:=List.mem_filter.1 hz
     have hz2:qd L z=i:=by simpa using hz1.2
     rw [←hz2]
     exact filter_in hz1.1
    obtain ⟨k2,hk2,hT2⟩:=hk.left _ hmem
    rw [heq] at hTp
    have:=Tr.uniq hT2 hTp
    subst this
    exact (hkids _ hk2).go hn (by omega)
   show GoT wh n Inv Good room f' k (@ite _ _ (Classical.propDecidable _) 0 C)
   by_cases hex:∃p,p∈qlist L (A++B)∧Tr f' p k∧p≠X
   rw [if_pos hex]
   obtain ⟨p,hp,hTp,hpX⟩:=hex
   exact known p hp hTp hpX
   rw [if_neg hex]
   obtain ⟨p,hp,hTp⟩:=hk'.right k hkm
   have hpX:p=X:=Classical.byContradiction fun h=>hex ⟨p,hp,hTp,h⟩
   subst hpX
   have hmem:((A++x::B).filter fun r=>decide (qd L r=qd L x))∈qlist L (A++x::B):=filter_in (by simp)
   obtain ⟨k2,hk2,hT2⟩:=hk.left _ hmem
   have e1:((A++x::B).filter fun r=>decide (qd L r=qd L x))=(A.filter fun r=>decide (qd L r=qd L x))++x::(B.filter fun r=>decide (qd L r=qd L x)):=by
    rw [List.filter_append,List.filter_cons_of_pos (by simp)]
   have e2:X=(A.filter fun r=>decide (qd L r=qd L x))++(B.filter fun r=>decide (qd L r=qd L x)):=List.filter_append ..
   rw [e2] at hTp
   have hsubr:=rightR_sub hr (qlist_sub hmem)
   show GoT wh n Inv Good room f' k (lessN _)
   rw [e1] at hT2 hsubr ⊢
   exact go_less W hn f f' _ _ x k2 k hT2 hTp (by omega) hsubr (hkids k2 hk2)
  have hsum:=(cost_sum (c:=fun _=>0) (X:=X) (C:=C) (d:=d) hk' (qlist_nodup L (A++B)) (fun p k hp hTp hpX=>if_pos ⟨p,hp,hTp,hpX⟩) (fun k=>by
   show @ite _ _ (Classical.propDecidable _) 0 C≤C
   by_cases hex:∃p,p∈qlist L (A++B)∧Tr f' p k∧p≠X
   rw [if_pos hex];exact Nat.zero_le _
   rw [if_neg hex];exact Nat.le_refl _)).2
  exact (go_inner W hn A2 hL (rightR_len hr') hk' hgo).weak (by omega)
  
  have hall:∀r∈A++B,∀s∈A++B,qd L r=qd L s:=fun r hr s hs=>Classical.byContradiction fun h=>h2 ⟨r,hr,s,hs,h⟩
  obtain ⟨r0,hr0⟩:=List.exists_mem_of_ne_nil (A++B) (by intro e;rw [e] at h5;simp at h5)
  have hx:qd L r0≠qd L x:=by
   intro e
   obtain ⟨a,ha,b,hb,hab⟩:=AR1.two hL
   have hq:∀y∈A++x::B,qd L y=qd L r0:=by
    intro y hy
    rcases List.mem_append.1 hy with hy | hy
    exact hall y (List.mem_append_left _ hy) r0 hr0
    rcases List.mem_cons.1 hy with rfl | hy
    exact e.symm
    exact hall y (List.mem_append_right _ hy) r0 hr0
   exact hab ((hq a ha).trans (hq b hb).symm)
  have hpart:(A++B)=(A++x::B).filter fun r=>decide (qd L r=qd L r0):=by
   rw [←other (qd L r0) hx]
   exact (List.filter_eq_self.2 fun y hy=>by simpa using hall y hy r0 hr0).symm
  have hmem:(A++B)∈qlist L (A++x::B):=by
   rw [hpart]
   exact filter_in (hsub.subset hr0)
  obtain ⟨k2,hk2,hT2⟩:=hk.left _ hmem
  have:=Tr.uniq hT2 hT'
  subst this
  exact ((hkids _ hk2).go hn (by omega)).weak (Nat.zero_le _)
end
end Go.Proofs.YtkibffdipniemaaGreatDoor

/- The law GroveAgain of layer 14, of the plain functions. No program's walk in sight. -/
namespace Go.Proofs.YtkibffdipniemaaGreatDoor
open Go

theorem sav_known {T:List UInt32} {N c0:Nat} {R:List KeyA} {g:UInt32} {vb:VltA} {db:DevA} {th:List (KeyS×RefA)} (hb:TkOk N vb) {s:SavedA} (h:KnownS th s) (hr:Rd T R N vb db s):Kn (savWh T th) (SvI N c0 R g vb db) (fun q s=>Rd T R N q.v q.d s) s:=
 fun _ S=>⟨known_wh h,S.base hb hr⟩
theorem save_less {n:Nat} {T:List UInt32} {N c0:Nat} {R:List KeyA} {g:UInt32} {vb:VltA} {db:DevA} {k:KeyA} {A B:List RowA} {x:RowA} {t:NodeP} {had:List SavedA} {r0:RefA} (hn:1100≤n) (hN:N≤4096) (V:VS N c0 R g vb db) (hb:TkOk N vb) (hk:findA R g=(k,0))
  (hl:rightR (A++x::B)=true) (hT:Tr n (A++x::B) t) (hR:RunT n t had r0) (hr0:refOk r0=true) (hhad:∀s∈had,Rd T R N vb db s) (hnd:(had.map (·.txt)).Nodup) (hlen:had.length≤100000) (hlim:c0+(N-2-vb.taken.length)≤100) (hroom:lessN (A++x::B).length≤N-2-vb.taken.length):
  ∃t' r out q,buildF n (A++B)=some (t',0)∧Tr n (A++B) t'∧saveF n T vb db (A++B) had=some (out,0,q.v,q.d)∧RunT n t' out r∧SvI N c0 R g vb db q∧(∀s∈out,Rd T R N q.v q.d s)∧out.length=pgN n t'∧N-2-vb.taken.length≤N-2-q.v.taken.length+lessN (A++x::B).length:=by
 have hsub:(A++B).Sublist (A++x::B):=List.Sublist.append_left (List.sublist_cons_self x B) A
 have hl':=rightR_sub hl hsub
 have hl1:=rightR_len hl'
 obtain ⟨t',h1,_,hT'⟩:=build_ok (n:=n) (l:=A++B) (by omega) hl'
 obtain ⟨th,h2,h3⟩:=there_had had (fun s hs=>by have:=((hhad s hs).ok V).2.2;omega) (by omega)
 have hkn:=known_had hnd (fun s hs=>((hhad s hs).ok V).2.2) h3
 have hth:∀(key:KeyS) r,mget th key=some r→Rd T R N vb db ⟨key.1,r.page,r.tag⟩:=by
  intro key r hr
  rw [h3 key] at hr
  obtain ⟨s,hs,rfl⟩:=Option.map_eq_some_iff.1 hr
  have h5:=List.find?_some hs
  simp only [decide_eq_true_eq] at h5
  rw [←h5]
  exact hhad s (List.mem_of_find?_eq_some hs)
 have W:=sav_ok (T:=T) (c0:=c0) (db:=db) hb hN hk hth
 have hpg:=pages_pos hT' hl1
 have S0:SvI N c0 R g vb db ⟨[],vb,db⟩:=⟨V,by simp,by simp,hb,fun _ _=>rfl,by simpa using hlim⟩
 have hgo:=go_less W (n:=n) (by omega) n n A B x t t' hT hT' (Nat.le_refl _) hl ⟨had,r0,hR,hr0,fun s hs=>sav_known hb (hkn s hs) (hhad s hs)⟩
 obtain ⟨r,p',q,e1,e2,e3,e4,e5,⟨seg,o1,o2,o3,o4⟩,e6⟩:=hgo ⟨[],0⟩ ⟨[],vb,db⟩ S0 rfl (by simp;omega) hroom
 refine ⟨t',r,seg,q,h1,hT',?_,o3,e4,o4,o2,e6⟩
 unfold saveF
 rw [h1,some_bind,show (!decide ((0:Int)=0))=false from rfl,cond_false,if_neg (by omega),h2,some_bind,e1,some_bind]
 unfold saveE
 simp only [List.nil_append] at o1
 dsimp only
 rw [e2,show (!decide ((0:Int)=0))=false from rfl,cond_false,o1]
theorem p_GroveAgain (T:List UInt32) (l:List RowA) (m:Int):f_lGA 4200 T l m=some true:=by
 obtain ⟨w,c,hmade⟩:=made14_eq (N:=80) (n:=4200) (by omega) (by omega) (by omega)
 have hlen:=few_len l
 unfold f_lGA
 rw [p_gshown,some_bind,few_eq,some_bind,show (80:Int)=((80:Nat):Int) from rfl,hmade,some_bind,some_bind]
 show (saveF 4200 T v0 (d0 80) (l.take 24) []).bind _=_
 generalize l.take 24=l at hlen ⊢
 cases hr:rightR l with
 | false=>
  rw [save_bad (by omega) (by omega) hr,some_bind]
  dsimp only
  unfold f_vv_Seals
  rw [some_bind,save_bad (by omega) (by omega) hr,some_bind]
  rfl
 | true=>
  have k1:=find1 (m:=1) (by omega) (by omega)
  have hl24:(l++[]).take 24=l:=by rw [List.append_nil];exact List.take_of_length_le hlen
  obtain ⟨t,th,h1,h2,h3,h5⟩:=save_res (n:=4200) (T:=T) (l:=l) (had:=[]) (by omega) (N:=80) (by omega) (v0_ok (by omega)) (v0_tk 80) k1 hr (fun s hs=>by simp at hs) (by simp) (by simp [v0])
  have hpg:=pages_pos h2 (rightR_len hr)
  rcases h5 with ⟨r,out,q,e1,e2,e3,e4,e5,e6,e7,_⟩ | ⟨v,d,c,e1,e2,_,_⟩
  have hnp:=new_pages (fun k=>h3 k) out _ _ e7
  have hrefs:(out.map refS).Nodup:=by
   have h8:=e4.tkn
   rw [hnp,List.nil_append] at h8
   refine List.pairwise_map.2 ((List.pairwise_map.1 h8).imp fun hne e=>hne (congrArg RefA.page e))
  have hok:∀s∈out,refOk (refS s)=true:=fun s hs=>((e5 s hs).ok e4.vs).2.1
  have hnd:=texts_nodup h2 hr e2 hok hrefs
  have hag:=save_again (n:=4200) (by omega) e4.vs h1 e2 e5 hnd (by omega)
  rw [e1,some_bind]
  dsimp only
  unfold f_vv_Seals
  rw [some_bind,hag,some_bind]
  dsimp only
  rw [show (!decide ((0:Int)=0))=false from rfl,cond_false,same_pages out (by omega) (by omega),some_bind]
  simp only [Bool.not_true,Bool.or_false,orO,cond_false,some_bind,decide_true]
  by_cases hat:m<0∨(l.length:Int)≤m
  rw [show (decide (m<0)||decide ((l.length:Int)≤m))=true by simpa using hat,cond_true]
  obtain ⟨i,rfl⟩:∃i:Nat,m=(i:Int):=⟨m.toNat,by omega⟩
  have hi:i<l.length:=by omega
  rw [show (decide ((i:Int)<0)||decide ((l.length:Int)≤(i:Int)))=false by simp;omega,cond_false]
  have hspl:l=l.take i++l[i]::l.drop (i+1):=by
   rw [←List.drop_eq_getElem_cons hi,List.take_append_drop]
  have hcap:capI 32 (l.length:Int)=some ():=by
   unfold capI
   rw [if_pos ⟨by omega,by omega,by omega⟩]
  have s1:slcI l 0 (i:Int)=some (l.take i):=(slcI_of (l:=l) (p:=0) (q:=i) rfl rfl (by omega) (by omega)).trans (by simp)
  have s2:slcI l (wI ((i:Int)+1)) (l.length:Int)=some (l.drop (i+1)):=by
   rw [wI_eq (by omega) (by omega)]
   exact (slcI_of (l:=l) (p:=i+1) (q:=l.length) (by omega) rfl (by omega) (by omega)).trans (congrArg some (List.take_of_length_le (by simp)))
  rw [hcap,some_bind,s1,some_bind,appL_eq (by simp;omega) (by simp;omega),some_bind,s2,some_bind,appL_eq (by simp;omega) (by simp;omega),some_bind,List.nil_append]
  have htl:q.v.taken.length=out.length:=by
   rw [e4.tak,hnp]
   simp [v0]
  have hqtk:q.tk.length=out.length:=by rw [hnp];simp
  have hlim:=e4.lim
  rw [hspl] at hr h2
  have hlsp:=congrArg List.length hspl
  have hless:lessN (l.take i++l[i]::l.drop (i+1)).length≤20:=by
   rw [←hlsp]
   unfold lessN
   omega
  obtain ⟨t',r',out',q',g1,g2,g3,g4,g5,g6,g7,g8⟩:=save_less (n:=4200) (T:=T) (by omega) (N:=80) (by omega) e4.vs e4.ok k1 hr h2 e2 e3 e5 hnd (by omega) hlim (by omega)
  have hr':=rightR_sub hr (List.Sublist.append_left (List.sublist_cons_self l[i] (l.drop (i+1))) (l.take i))
  obtain ⟨f1,f2⟩:=save_load (n:=4200) (by omega) hr' g1 g2 g4 g5 g6 g7
  have hl2:(l.take i++l.drop (i+1)).length≤1000:=rightR_len hr'
  have htk':q'.tk.length≤20:=by
   have:=congrArg List.length g5.tak
   simp only [List.length_append,List.length_reverse,List.length_map] at this
   have h9:=g5.lim
   omega
  have hseal:decide (q'.v.seals≤q.v.seals+20)=true:=by
   rw [decide_eq_true_eq,g5.seals,e4.seals,UInt64.le_iff_toNat_le]
   simp only [v0,UInt64.toNat_add,UInt64.toNat_ofNat',UInt64.toNat_zero]
   have:(20:UInt64).toNat=20:=rfl
   rw [this]
   omega
  rw [g3,some_bind]
  dsimp only
  rw [f1,some_bind,f2,some_bind]
  dsimp only
  rw [same_rows _ (by omega) (by omega),some_bind,hseal]
  rfl
  have:v0.taken.length=0:=rfl
  omega
end Go.Proofs.YtkibffdipniemaaGreatDoor
