/- The texts VG2, LG10, LG11, S25, GG32, GG33, LG12, LG13, one behind the other: each bears its own sentence. Conditions: as each says. -/
import Derived.Test.YtkibffdipniemaaGreatDoorMN1
import Derived.Test.YtkibffdipniemaaGreatDoorMN2
import Derived.Test.YtkibffdipniemaaGreatDoorMN3
import Derived.Test.YtkibffdipniemaaGreatDoorMN4
import Derived.Test.YtkibffdipniemaaGreatDoorMN5
import Derived.Test.YtkibffdipniemaaGreatDoorMN6

set_option linter.unusedVariables false
set_option linter.unusedSimpArgs false
set_option maxHeartbeats 1000000
/- A vault and what it holds: what is written is read; the laws' vaults. No program's walk in sight. Condition: as each says. -/
namespace Go.Proofs.YtkibffdipniemaaGreatDoor
open Go

structure VS (N c:Nat) (R:List KeyA) (g:UInt32) (v:VltA) (d:DevA):Prop where
 dev:DOk N c d
 ring:v.ring=R
 rlen:R.length≤1099511627776
 gen:v.gen=g
 boot:v.boot=7
 tlen:v.taken.length≤c
structure Held (T:List UInt32) (R:List KeyA) (d:DevA) (p g:UInt32) (q:UInt64) (s b:List UInt8):Prop where
 key:∃k,findA R g=(k,0)∧b=blkA T k ⟨p,g,7,q⟩ s
 txt:s.length≤198
 is:hold d p=b
theorem Held.len {T:List UInt32} {R:List KeyA} {d:DevA} {p g:UInt32} {q:UInt64} {s b:List UInt8} (h:Held T R d p g q s b):b.length=256:=by
 obtain ⟨k,_,rfl⟩:=h.key
 exact blkA_length T k _ h.txt
theorem Held.page {T:List UInt32} {R:List KeyA} {d:DevA} {p g:UInt32} {q:UInt64} {s b:List UInt8} (h:Held T R d p g q s b):pageOf b=p:=by
 obtain ⟨k,_,rfl⟩:=h.key
 exact pageOf_blk T k _ s
theorem Held.opens {T:List UInt32} {R:List KeyA} {d:DevA} {p g:UInt32} {q:UInt64} {s b:List UInt8} (h:Held T R d p g q s b):openA T R b=(⟨p,g,7,q⟩,s,0):=by
 obtain ⟨k,hk,rfl⟩:=h.key
 have hs:sealA T R ⟨p,g,7,q⟩ s=(blkA T k ⟨p,g,7,q⟩ s,0):=by
  unfold sealA
  have:=h.txt
  simp [hk]
  omega
 have:=open_seal (T:=T) (l:=R) (h:=⟨p,g,7,q⟩) (s:=s) (by rw [hs])
 rwa [hs] at this
theorem Held.put {T:List UInt32} {R:List KeyA} {d d':DevA} {p p' g:UInt32} {q:UInt64} {s b b':List UInt8} (h:Held T R d p g q s b) (hd:∀x,hold d' x=if p'=x then b' else hold d x) (hne:p'≠p):Held T R d' p g q s b:=
 ⟨h.key,h.txt,by rw [hd,if_neg hne];exact h.is⟩
theorem ofNat_ne {i j:Nat} (hi:i<4294967296) (hj:j<4294967296) (h:i≠j):UInt32.ofNat i≠UInt32.ofNat j:=fun e=>h (by
 have:=congrArg UInt32.toNat e
 simpa [Nat.mod_eq_of_lt hi,Nat.mod_eq_of_lt hj] using this)
theorem VS.write {T:List UInt32} {N c:Nat} {R:List KeyA} {g:UInt32} {v:VltA} {d:DevA} (V:VS N c R g v d) (hc:c+1≤100) {k:KeyA} (hk:findA R g=(k,0)) {s:List UInt8} (hs:s.length≤198) (j:Nat)
  (h2:2≤j) (hj:j<N) (hfree:takenA v (UInt32.ofNat j)=false) (htk:∀x,2≤x→x<j→takenA v (UInt32.ofNat x)=true):
  ∃v' d' b,f_vv_Write T v d s=some (⟨UInt32.ofNat j,b.drop 224⟩,0,v',d')∧VS N (c+1) R g v' d'∧v'.seals=v.seals+1∧v'.taken=mput v.taken (UInt32.ofNat j) true∧
   (∀q,hold d' q=if UInt32.ofNat j=q then b else hold d q)∧Held T R d' (UInt32.ofNat j) g v.seals s b∧b=blkA T k ⟨UInt32.ofNat j,g,7,v.seals⟩ s∧d'.blocks=d.blocks:=by
 have hN:=V.dev.nle
 have hjn:(UInt32.ofNat j).toNat=j:=by simp;omega
 have hh:hd v (UInt32.ofNat j)=⟨UInt32.ofNat j,g,7,v.seals⟩:=by simp only [hd,V.gen,V.boot]
 have hb:=blkA_length T k (hd v (UInt32.ofNat j)) hs
 have hw:=write_at (T:=T) V.dev hc (by rw [V.ring];exact V.rlen) (by rw [V.ring,V.gen];exact hk) hs h2 hj hfree htk (by have:=V.tlen;omega)
 refine ⟨_,_,_,hw,⟨(V.dev.write hc (by rw [hjn];exact hj) hb).2,V.ring,V.rlen,V.gen,V.boot,?_⟩,rfl,rfl,fun q=>hold_put,⟨⟨k,hk,by rw [hh]⟩,hs,?_⟩,by rw [hh],rfl⟩
 have:(mdel v.taken (UInt32.ofNat j)).length≤v.taken.length:=List.length_filter_le ..
 have:=V.tlen
 show (mdel v.taken (UInt32.ofNat j)).length+1≤c+1
 omega
 rw [hold_put,if_pos rfl]
theorem VS.read {T:List UInt32} {N c:Nat} {R:List KeyA} {g g':UInt32} {v:VltA} {d:DevA} (V:VS N c R g v d) {p:UInt32} {q:UInt64} {s b:List UInt8} (h:Held T R d p g' q s b) (hp2:2≤p.toNat) (hp:p.toNat<N):
  f_vv_Read T v d ⟨p,b.drop 224⟩=some (s,0):=by
 have hb:=h.len
 have hr:f_dd_Read d p=some (b,0):=by rw [V.dev.read hp,h.is]
 have ht:(b.drop 224).length=32:=by simp [hb]
 have hl:v.ring.length≤1099511627776:=by rw [V.ring];exact V.rlen
 have h1:=read_at (T:=T) (v:=v) (d:=d) (r:=⟨p,b.drop 224⟩) hp2 ht hr hb hl
 rw [if_pos ⟨rfl,h.page⟩,V.ring,h.opens] at h1
 exact h1
/-! ### The laws' vaults -/
def d0 (N:Nat):DevA:={ off:=false,isCut:=false,lasts:=0,counts:=0,blocks:=List.replicate N (List.replicate 256 0),pend:=[],bad:=[],rcnt:=0,rtag:=List.replicate 32 0,rboots:=0 }
def v0:VltA:={ ring:=ringA 1,gen:=1,boot:=7,seals:=0,taken:=[] }
theorem d0_ok {N:Nat} (h:N≤4096):DOk N 0 (d0 N):=⟨List.length_replicate ..,h,rfl,rfl,rfl,Nat.le_refl 0,by omega⟩
theorem v0_ok {N:Nat} (h:N≤4096):VS N 0 (ringA 1) 1 v0 (d0 N):=⟨d0_ok h,rfl,by rw [ringA_length];omega,rfl,rfl,Nat.le_refl 0⟩
theorem find1 {m:Nat} (h:1≤m) (hm:m≤16):findA (ringA m) 1=(keyN 0,0):=findA_ring hm h
theorem new07 {N n:Nat} (h4:4≤N) (hN:N≤4096) (hn:N<n):∃r:RDevA,f_ref07_New n (N:Int)=some (some r,0)∧r.blk.length=N:=by
 refine ⟨{ blk:=List.replicate N (List.replicate 256 0),pnd:=List.replicate N [],bads:=List.replicate N false,rcnt:=0,rtag:=List.replicate 32 0,rboots:=0,left := -1,off:=false },?_,List.length_replicate ..⟩
 have z:∀k:Nat,k≤1048576→f_ref07_Zeros (k:Int)=some (List.replicate k 0):=fun k hk=>by
  rw [zeros_eq (by omega) (by omega)]
  simp
 have z1:=z 32 (by omega)
 have z2:=z 256 (by omega)
 clear z
 unfold f_ref07_New
 have hc:(decide ((N:Int)<4)||decide (4096<(N:Int)))=false:=by simp;omega
 rw [hc,cond_false]
 show (f_ref07_Zeros ((32:Nat):Int)).bind _=_
 rw [z1,some_bind]
 generalize List.replicate 32 (0:UInt8)=Y
 generalize List.replicate 256 (0:UInt8)=Z at z2 ⊢
 unfold f_ref07_New_l1
 refine loop_all (fun i=>(List.replicate i Z,List.replicate i [],List.replicate i false,(i:Int))) N ?_ ?_ hn
 intro i hi k
 simp only [f_ref07_New_l1_b]
 rw [decide_eq_true (by omega),cond_true]
 show (f_ref07_Zeros ((256:Nat):Int)).bind _=_
 rw [z2,some_bind,appL_eq (by simp;omega) (by simp;omega),some_bind,appL_eq (by simp;omega) (by simp;omega),some_bind,appL_eq (by simp;omega) (by simp;omega),some_bind,ret_eq,wI_eq (by omega) (by omega)]
 rw [←List.replicate_succ',←List.replicate_succ',←List.replicate_succ']
 rfl
 intro k
 simp only [f_ref07_New_l1_b]
 rw [decide_eq_false (by omega),cond_false]
 rfl
end Go.Proofs.YtkibffdipniemaaGreatDoor

/- Plain laws of saving: pages that have a place, or take one of a vault's. No program in sight. Condition: as each says. -/
namespace Go.Proofs.YtkibffdipniemaaGreatDoor
open Go

/-! ### What is taken -/
structure TkOk (N:Nat) (v:VltA):Prop where
 nd:(v.taken.map (·.1)).Nodup
 tr:∀e∈v.taken,e.2=true∧2≤e.1.toNat∧e.1.toNat<N
theorem TkOk.iff {N:Nat} {v:VltA} (h:TkOk N v) (p:UInt32):takenA v p=true↔p∈v.taken.map (·.1):=by
 unfold takenA
 constructor
 intro hp
 by_cases hm:∃e∈v.taken,e.1=p
 obtain ⟨e,he,rfl⟩:=hm
 exact List.mem_map_of_mem he
 rw [mget_none (fun e he e'=>hm ⟨e,he,e'⟩)] at hp
 exact absurd hp (by decide)
 intro hp
 obtain ⟨e,he,rfl⟩:=List.mem_map.1 hp
 rw [mget_some h.nd he]
 exact (h.tr e he).1
theorem ofNat_toNat {x:UInt32}:UInt32.ofNat x.toNat=x:=UInt32.toNat_inj.1 (by simp)
theorem TkOk.full {N:Nat} {v:VltA} (h:TkOk N v) (hN:N≤4096) (hl:N-2≤v.taken.length):∀x,2≤x→x<N→takenA v (UInt32.ofNat x)=true:=by
 intro x h1 h2
 rw [h.iff]
 by_cases hm:UInt32.ofNat x∈v.taken.map (·.1)
 exact hm
 exfalso
 have hnd:(x::v.taken.map fun e=>e.1.toNat).Nodup:=by
  refine List.nodup_cons.2 ⟨fun hx=>?_,?_⟩
  obtain ⟨e,he,e'⟩:=List.mem_map.1 hx
  refine hm ?_
  rw [←e',ofNat_toNat]
  exact List.mem_map_of_mem he
  have:=h.nd
  rw [show (v.taken.map fun e=>e.1.toNat)=(v.taken.map (·.1)).map UInt32.toNat by simp]
  exact List.Pairwise.map _ (fun a b hab e=>hab (UInt32.toNat_inj.1 e)) this
 have:=nodup_len hnd (l':=(List.range (N-2)).map (·+2)) (fun a ha=>by
  have hb:2≤a∧a<N:=by
   rcases List.mem_cons.1 ha with rfl | ha
   exact ⟨h1,h2⟩
   obtain ⟨e,he,rfl⟩:=List.mem_map.1 ha
   exact (h.tr e he).2
  exact List.mem_map.2 ⟨a-2,List.mem_range.2 (by omega),by omega⟩)
 simp at this
 omega
theorem least_of {P:Nat→Prop}:∀k,(∃j,j<k∧P j)→∃j,j<k∧P j∧∀x,x<j→¬P x
 | 0,⟨j,h,_⟩=>by omega
 | k+1,⟨j,h,hP⟩=>by
  by_cases hk:∃i,i<k∧P i
  obtain ⟨i,h1,h2,h3⟩:=least_of k hk
  exact ⟨i,by omega,h2,h3⟩
  have:j=k:=by
   rcases Nat.lt_or_ge j k with h' | h'
   exact absurd ⟨j,h',hP⟩ hk
   omega
  subst this
  exact ⟨j,by omega,hP,fun x hx hPx=>hk ⟨x,hx,hPx⟩⟩
theorem TkOk.free {N:Nat} {v:VltA} (h:TkOk N v) (hN:N≤4096) (hl:v.taken.length<N-2):∃j,2≤j∧j<N∧takenA v (UInt32.ofNat j)=false∧∀x,2≤x→x<j→takenA v (UInt32.ofNat x)=true:=by
 have:∃j,j<N∧(2≤j∧takenA v (UInt32.ofNat j)=false):=by
  by_cases hx:∃j,j<N∧(2≤j∧takenA v (UInt32.ofNat j)=false)
  exact hx
  exfalso
  have hnd:((List.range (N-2)).map (fun i=>UInt32.ofNat (i+2))).Nodup:=by
   refine List.pairwise_map.2 (List.Pairwise.imp_of_mem ?_ List.nodup_range)
   intro a b ha hb hne
   have ha:=List.mem_range.1 ha
   have hb:=List.mem_range.1 hb
   exact ofNat_ne (by omega) (by omega) (by omega)
  have:=nodup_len hnd (l':=v.taken.map (·.1)) (fun a ha=>by
   obtain ⟨i,hi,rfl⟩:=List.mem_map.1 ha
   have hi:=List.mem_range.1 hi
   rw [←h.iff]
   cases hc:takenA v (UInt32.ofNat (i+2)) with
   | true=>rfl
   | false=>exact absurd ⟨i+2,by omega,by omega,hc⟩ hx)
  simp at this
  omega
 obtain ⟨j,h1,⟨h2,h3⟩,h4⟩:=least_of N this
 refine ⟨j,h2,h1,h3,fun x hx1 hx2=>?_⟩
 cases hc:takenA v (UInt32.ofNat x) with
 | true=>rfl
 | false=>exact absurd ⟨hx1,hc⟩ (h4 x hx2)
/-! ### A page that can be read -/
def Rd (T:List UInt32) (R:List KeyA) (N:Nat) (v:VltA) (d:DevA) (s:SavedA):Prop:=2≤s.page.toNat∧s.page.toNat<N∧takenA v s.page=true∧∃g' qn b,Held T R d s.page g' qn s.txt b∧s.tag=b.drop 224
theorem Rd.ok {T:List UInt32} {R:List KeyA} {N c:Nat} {g:UInt32} {v:VltA} {d:DevA} {s:SavedA} (V:VS N c R g v d) (h:Rd T R N v d s):f_vv_Read T v d ⟨s.page,s.tag⟩=some (s.txt,0)∧refOk ⟨s.page,s.tag⟩=true∧s.txt.length≤198:=by
 obtain ⟨h1,h2,_,g',qn,b,hb,ht⟩:=h
 have hl:=hb.len
 refine ⟨by rw [ht];exact V.read hb h1 h2,?_,hb.txt⟩
 unfold refOk
 rw [Bool.and_eq_true,decide_eq_true_eq,decide_eq_true_eq]
 refine ⟨UInt32.le_iff_toNat_le.2 h1,?_⟩
 show (s.tag.length:Int)=32
 rw [ht,List.length_drop,hl]
 rfl
structure SvI (N c0:Nat) (R:List KeyA) (g:UInt32) (vb:VltA) (db:DevA) (q:SvA):Prop where
 vs:VS N (c0+q.tk.length) R g q.v q.d
 seals:q.v.seals=vb.seals+UInt64.ofNat q.tk.length
 tak:q.v.taken=(q.tk.map fun p=>(p,true)).reverse++vb.taken
 ok:TkOk N q.v
 keep:∀p,p∉q.tk→hold q.d p=hold db p
 lim:c0+q.tk.length+(N-2-q.v.taken.length)≤100
theorem SvI.notin {N c0:Nat} {R:List KeyA} {g:UInt32} {vb:VltA} {db:DevA} {q:SvA} (S:SvI N c0 R g vb db q) (hb:TkOk N vb) {p:UInt32} (h:takenA vb p=true):p∉q.tk∧takenA q.v p=true:=by
 rw [hb.iff] at h
 constructor
 intro hp
 have:=S.ok.nd
 rw [S.tak,List.map_append] at this
 refine (List.nodup_append.1 this).2.2 p ?_ p h rfl
 rw [List.map_reverse,List.mem_reverse,List.map_map]
 exact List.mem_map.2 ⟨p,hp,rfl⟩
 rw [S.ok.iff,S.tak,List.map_append]
 exact List.mem_append_right _ h
theorem SvI.base {T:List UInt32} {N c0:Nat} {R:List KeyA} {g:UInt32} {vb:VltA} {db:DevA} {q:SvA} (S:SvI N c0 R g vb db q) (hb:TkOk N vb) {s:SavedA} (h:Rd T R N vb db s):Rd T R N q.v q.d s:=by
 obtain ⟨h1,h2,h3,g',qn,b,hb',ht⟩:=h
 obtain ⟨h4,h5⟩:=S.notin hb h3
 exact ⟨h1,h2,h5,g',qn,b,⟨hb'.key,hb'.txt,by rw [S.keep _ h4];exact hb'.is⟩,ht⟩
end Go.Proofs.YtkibffdipniemaaGreatDoor

/- Plain laws of saving: what grove.Save answers. No program in sight. Condition: as each says. -/
namespace Go.Proofs.YtkibffdipniemaaGreatDoor
open Go

/-! ### How many pages -/
theorem pages_le:∀ {f:Nat} {l:List RowA} {t:NodeP},Tr f l t→(l=[]→pgN f t=1)∧(l≠[]→pgN f t+1≤2*l.length)
  | 0,_,_,h=>h.elim
  | f+1,l,t,h=>by
    rcases h with ⟨rfl,rfl⟩ | ⟨hne,c,L,A,⟨_,rfl⟩ | ⟨h4,hL,ks,rfl,hk⟩⟩
    exact ⟨fun _=>rfl,fun h=>absurd rfl h⟩
    refine ⟨fun h=>absurd h hne,fun _=>?_⟩
    have:=List.length_pos_iff.2 hne
    rw [pgN,if_pos (show (NodeP.mk c.x c.y c.lev l []).kids.length=0 from rfl)]
    simp only [NodeP.rows]
    omega
    refine ⟨fun h=>absurd h hne,fun _=>?_⟩
    have hkl:=hk.length
    have hq2:=(qlist_two A hL).1
    rw [pgN,if_neg (by simp only [NodeP.kids];omega)]
    simp only [NodeP.kids]
    have key:∀ {xs:List (List RowA)} {ys:List NodeP},All2 (Tr f) xs ys→(∀x∈xs,x≠[])→(ys.map (pgN f)).sum+xs.length≤2*xs.flatten.length:=by
      intro xs ys h
      induction h with
      | nil=>simp
      | @cons x y xs ys h1 h2 ih=>
        intro hx
        have a1:=(pages_le h1).2 (hx _ (by simp))
        have a2:=ih fun x hx'=>hx x (by simp [hx'])
        simp only [List.map_cons,List.sum_cons,List.length_cons,List.flatten_cons,List.length_append]
        omega
    have:=key hk fun x hx=>(qlist_mem hx).1
    rw [(qlist_perm L l).length_eq] at this
    omega
theorem pages_pos {f:Nat} {l:List RowA} {t:NodeP} (h:Tr f l t) (hl:l.length≤1000):pgN f t≤max 1 (2*l.length):=by
  obtain ⟨h1,h2⟩:=pages_le h
  by_cases e:l=[]
  rw [h1 e];omega
  have:=h2 e
  omega
/-! ### Where pages go -/
theorem keyS_ok {s:List UInt8} (h:s.length≤1048576):keyS s=some ⟨s,h⟩:=dif_pos h
theorem mdel_no {m:List (UInt32×Bool)} {p:UInt32} (h:p∉m.map (·.1)):mdel m p=m:=mdel_all fun e he e'=>h (by rw [←e'];exact List.mem_map_of_mem he)
theorem sav_ok {T:List UInt32} {N c0:Nat} {R:List KeyA} {g:UInt32} {vb:VltA} {db:DevA} {th:List (KeyS×RefA)} {k:KeyA} (hb:TkOk N vb) (hN:N≤4096) (hk:findA R g=(k,0)) (hth:∀key r,mget th key=some r→Rd T R N vb db ⟨key.1,r.page,r.tag⟩):
    WhOk (savWh T th) (SvI N c0 R g vb db) (fun q s=>Rd T R N q.v q.d s) (fun q=>N-2-q.v.taken.length):=by
  refine ⟨fun q s S hs=>?_⟩
  unfold savWh
  rw [keyS_ok (show s.length≤1048576 by omega),some_bind]
  cases hm:mget th ⟨s,by omega⟩ with
  | some r=>
    have hr:=S.base hb (hth _ r hm)
    exact ⟨r,0,q,rfl,S,fun _ h=>h,.inl ⟨rfl,(hr.ok S.vs).2.1,hr,Nat.le_succ _⟩⟩
  | none=>
    rw [show (none:Option RefA).isSome=false from rfl,cond_false]
    by_cases hroom:q.v.taken.length<N-2
    obtain ⟨j,j1,j2,j3,j4⟩:=S.ok.free hN hroom
    have hlim:=S.lim
    obtain ⟨v',d',b,e1,V1,s1,t1,h1,H1,_,_⟩:=S.vs.write (T:=T) (by omega) hk hs j j1 j2 j3 j4
    have hjn:(UInt32.ofNat j).toNat=j:=by simp;omega
    have hnin:UInt32.ofNat j∉q.v.taken.map (·.1):=by
      rw [←S.ok.iff,j3]
      decide
    have htk:v'.taken=(UInt32.ofNat j,true)::q.v.taken:=by rw [t1,mput,mdel_no hnin]
    have hok:TkOk N v':=by
      refine ⟨?_,fun e he=>?_⟩
      rw [htk,List.map_cons]
      exact List.nodup_cons.2 ⟨hnin,S.ok.nd⟩
      rw [htk] at he
      rcases List.mem_cons.1 he with rfl | he
      exact ⟨rfl,by rw [hjn];exact j1,by rw [hjn];exact j2⟩
      exact S.ok.tr e he
    have hntk:UInt32.ofNat j∉q.tk:=fun hj=>hnin (by
      rw [S.tak,List.map_append]
      refine List.mem_append_left _ ?_
      rw [List.map_reverse,List.mem_reverse,List.map_map]
      exact List.mem_map.2 ⟨_,hj,rfl⟩)
    rw [e1,some_bind]
    dsimp only
    rw [show decide ((0:Int)=0)=true from rfl,cond_true,appL_eq (by simp;omega) (by simp;omega),some_bind]
    have hlen:(q.tk++[UInt32.ofNat j]).length=q.tk.length+1:=by simp
    refine ⟨_,0,⟨q.tk++[UInt32.ofNat j],v',d'⟩,rfl,⟨?_,?_,?_,hok,fun p hp=>?_,?_⟩,fun x hx=>?_,.inl ⟨rfl,?_,?_,?_⟩⟩
    show VS N (c0+(q.tk++[UInt32.ofNat j]).length) R g v' d'
    rw [hlen]
    exact V1
    show v'.seals=vb.seals+UInt64.ofNat (q.tk++[UInt32.ofNat j]).length
    rw [s1,S.seals,hlen,UInt64.ofNat_add,UInt64.add_assoc]
    rfl
    show v'.taken=_
    rw [htk,S.tak]
    simp
    simp only [List.mem_append,List.mem_singleton,not_or] at hp
    show hold d' p=_
    rw [h1,if_neg (fun e=>hp.2 e.symm)]
    exact S.keep p hp.1
    show c0+(q.tk++[UInt32.ofNat j]).length+(N-2-v'.taken.length)≤100
    rw [hlen,htk,List.length_cons]
    omega
    obtain ⟨x1,x2,x3,g',qn,b',x4,x5⟩:=hx
    have hne:UInt32.ofNat j≠x.page:=fun e=>by
      rw [←e,j3] at x3
      exact absurd x3 (by decide)
    refine ⟨x1,x2,?_,g',qn,b',x4.put h1 hne,x5⟩
    show takenA v' x.page=true
    rw [hok.iff,htk,List.map_cons]
    exact List.mem_cons_of_mem _ ((S.ok.iff _).1 x3)
    have hl:=H1.len
    unfold refOk
    rw [Bool.and_eq_true,decide_eq_true_eq,decide_eq_true_eq]
    refine ⟨UInt32.le_iff_toNat_le.2 (by rw [hjn];exact j1),?_⟩
    rw [List.length_drop,hl]
    rfl
    refine ⟨by rw [hjn];exact j1,by rw [hjn];exact j2,?_,g,q.v.seals,b,H1,rfl⟩
    show takenA v' (UInt32.ofNat j)=true
    rw [hok.iff,htk]
    simp
    show N-2-q.v.taken.length≤N-2-v'.taken.length+1
    rw [htk,List.length_cons]
    omega
    have hw:=write_full (T:=T) S.vs.dev hs (S.ok.full hN (by omega))
    rw [hw,some_bind]
    dsimp only
    rw [show decide ((110:Int)=0)=false from rfl,cond_false]
    exact ⟨_,110,q,rfl,S,fun _ h=>h,.inr ⟨rfl,by omega⟩⟩
/-! ### What was had -/
theorem there_eq:∀(l:List (Int×SavedA)) (m:List (KeyS×RefA)),(∀s∈l,s.2.txt.length≤1048576)→m.length+l.length≤1000000000→
    ∃m',thereB l m=some m'∧∀k:KeyS,mget m' k=((l.reverse.find? fun s=>decide (s.2.txt=k.1)).map fun s=>(⟨s.2.page,s.2.tag⟩:RefA)).or (mget m k)
  | [],m,_,_=>⟨m,rfl,fun k=>by simp⟩
  | s::l,m,h,hb=>by
    simp only [List.length_cons] at hb
    have hd:(mdel m ⟨s.2.txt,h s (by simp)⟩).length≤m.length:=List.length_filter_le ..
    obtain ⟨m',h1,h2⟩:=there_eq l (mput m ⟨s.2.txt,h s (by simp)⟩ ⟨s.2.page,s.2.tag⟩) (fun x hx=>h x (by simp [hx])) (by
      show (mdel m _).length+1+l.length≤_
      omega)
    refine ⟨m',?_,fun k=>?_⟩
    rw [thereB,keyS_ok (h s (by simp)),some_bind]
    unfold mputI
    rw [if_pos (by omega),some_bind]
    exact h1
    rw [h2 k,List.reverse_cons,List.find?_append,mget_put]
    cases hf:l.reverse.find? fun s=>decide (s.2.txt=k.1) with
    | some x=>rfl
    | none=>
      simp only [Option.map_none,Option.none_or,List.find?_singleton]
      by_cases e:s.2.txt=k.1
      rw [if_pos (Subtype.ext e),if_pos (by simpa using e)]
      rfl
      rw [if_neg (fun e'=>e (congrArg Subtype.val e')),if_neg (by simpa using e)]
      rfl
theorem backL_rev {α:Type} (xs:List α):(backL xs).reverse.map (·.2)=xs:=by
  unfold backL
  rw [List.reverse_reverse,List.map_map]
  have:((fun x:Int×α=>x.2)∘fun p:α×Nat=>((p.2:Int),p.1))=Prod.fst:=rfl
  rw [this,List.zipIdx_map_fst]
theorem backL_mem {α:Type} {xs:List α} {s:Int×α} (h:s∈backL xs):s.2∈xs:=by
  rw [←backL_rev xs]
  exact List.mem_map_of_mem (List.mem_reverse.2 h)
theorem there_had (had:List SavedA) (h:∀s∈had,s.txt.length≤1048576) (hb:had.length≤1000000000):∃th,thereB (backL had) []=some th∧∀k:KeyS,mget th k=(had.find? fun s=>decide (s.txt=k.1)).map fun s=>(⟨s.page,s.tag⟩:RefA):=by
  obtain ⟨th,h1,h2⟩:=there_eq (backL had) [] (fun s hs=>h _ (backL_mem hs)) (by rw [backL_length];simpa using hb)
  refine ⟨th,h1,fun k=>?_⟩
  rw [h2 k,show mget ([]:List (KeyS×RefA)) k=none from rfl,Option.or_none]
  conv=>rhs;rw [←backL_rev had]
  rw [List.find?_map,Option.map_map]
  rfl
/-! ### What is given back -/
theorem give_all {N:Nat} (hN:N≤4096):∀(tk:List UInt32) (v:VltA) (d:DevA) (base:List (UInt32×Bool)),d.blocks.length=N→v.taken=(tk.map fun p=>(p,true)).reverse++base→(v.taken.map (·.1)).Nodup→(∀p∈tk,2≤p.toNat∧p.toNat<N)→
    giveF tk v d=some { v with taken:=base }
  | [],v,d,base,_,h,_,_=>by
    simp at h
    rw [giveF,←h]
  | p::tk,v,d,base,hd,h,hn,hr=>by
    obtain ⟨r1,r2⟩:=hr p (by simp)
    have hmem:(p,true)∈v.taken:=by rw [h];simp
    have hg:=mget_some hn hmem
    have hdel:mdel v.taken p=(tk.map fun p=>(p,true)).reverse++base:=by
      rw [h] at hn ⊢
      simp only [List.map_cons,List.reverse_cons,List.append_assoc,List.singleton_append,List.map_append] at hn ⊢
      obtain ⟨n1,n2,n3⟩:=List.nodup_append.1 hn
      obtain ⟨n4,n5⟩:=List.nodup_cons.1 n2
      unfold mdel
      rw [List.filter_append,List.filter_cons_of_neg (by simp)]
      congr 1
      exact mdel_no (m:=(tk.map fun p=>(p,true)).reverse) fun hp=>n3 p hp p (by simp) rfl
      exact mdel_no n4
    have hi:f_vv_isPage v d p=some true:=by
      have:=isPage_eq v d p.toNat r1 (by omega)
      rw [ofNat_toNat,hd,decide_eq_true r2] at this
      exact this
    have hgive:f_vv_Give v d p=some (0,{ v with taken:=mdel v.taken p }):=by
      unfold f_vv_Give
      rw [hi,some_bind,ret_eq,hg]
      rfl
    rw [giveF,hgive,some_bind]
    have:=give_all hN tk { v with taken:=mdel v.taken p } d base hd hdel (by
      show ((mdel v.taken p).map (·.1)).Nodup
      exact mdel_nodup hn) (fun q hq=>hr q (by simp [hq]))
    exact this
/-! ### Saving -/
theorem rightR_len {l:List RowA} (h:rightR l=true):l.length≤1000:=by
  unfold rightR at h
  simp only [Bool.and_eq_true,decide_eq_true_eq] at h
  omega
theorem save_res {n:Nat} {T:List UInt32} {N c0:Nat} {R:List KeyA} {g:UInt32} {vb:VltA} {db:DevA} {k:KeyA} {l:List RowA} {had:List SavedA} (hn:1100≤n) (hN:N≤4096) (V:VS N c0 R g vb db) (hb:TkOk N vb) (hk:findA R g=(k,0)) (hl:rightR l=true)
    (hhad:∀s∈had,Rd T R N vb db s) (hlen:had.length≤100000) (hlim:c0+(N-2-vb.taken.length)≤100):
    ∃t th,buildF n l=some (t,0)∧Tr n l t∧(∀k:KeyS,mget th k=(had.find? fun s=>decide (s.txt=k.1)).map fun s=>(⟨s.page,s.tag⟩:RefA))∧
      ((∃r out q,saveF n T vb db l had=some (out,0,q.v,q.d)∧RunT n t out r∧refOk r=true∧SvI N c0 R g vb db q∧(∀s∈out,Rd T R N q.v q.d s)∧out.length=pgN n t∧Path (savWh T th) ⟨[],vb,db⟩ out q∧N-2-vb.taken.length≤N-2-q.v.taken.length+pgN n t)∨
       (∃v d c,saveF n T vb db l had=some ([],110,v,d)∧N-2-vb.taken.length<pgN n t∧v.taken=vb.taken∧VS N c R g v d)):=by
  obtain ⟨t,h1,_,hT⟩:=build_ok (n:=n) (l:=l) (by omega) hl
  obtain ⟨th,h2,h3⟩:=there_had had (fun s hs=>by have:=((hhad s hs).ok V).2.2;omega) (by omega)
  have hth:∀(key:KeyS) r,mget th key=some r→Rd T R N vb db ⟨key.1,r.page,r.tag⟩:=by
    intro key r hr
    rw [h3 key] at hr
    obtain ⟨s,hs,rfl⟩:=Option.map_eq_some_iff.1 hr
    have h5:=List.find?_some hs
    simp only [decide_eq_true_eq] at h5
    rw [←h5]
    exact hhad s (List.mem_of_find?_eq_some hs)
  have W:=sav_ok (T:=T) (c0:=c0) (db:=db) hb hN hk hth
  have hpg:=pages_pos hT (rightR_len hl)
  have hl1:=rightR_len hl
  have S0:SvI N c0 R g vb db ⟨[],vb,db⟩:=⟨V,by simp,by simp,hb,fun _ _=>rfl,by simpa using hlim⟩
  obtain ⟨r,p',q,e1,e2,e3,e4,e5⟩:=node_res W (n:=n) (by omega) n l t ⟨[],0⟩ ⟨[],vb,db⟩ hT hl S0 rfl (by simp;omega)
  refine ⟨t,th,h1,hT,h3,?_⟩
  have hsave:saveF n T vb db l had=saveE (r,(p',q)):=by
    unfold saveF
    rw [h1,some_bind,show (!decide ((0:Int)=0))=false from rfl,cond_false,if_neg (by omega),h2,some_bind,e1,some_bind]
  rw [hsave]
  unfold saveE
  rcases e5 with ⟨w,seg,o1,o2,o3,o4,o5,o6⟩ | ⟨w,o6⟩
  left
  simp only [List.nil_append] at o1
  refine ⟨r,seg,q,?_,o3,e2 w,e3,o5,o2,o4,o6⟩
  dsimp only
  rw [w,show (!decide ((0:Int)=0))=false from rfl,cond_false,o1]
  right
  have hlim2:=e3.lim
  refine ⟨{ q.v with taken:=vb.taken },q.d,c0+q.tk.length,?_,o6,rfl,?_⟩
  dsimp only
  rw [w,show (!decide ((110:Int)=0))=true from rfl,cond_true,if_neg (by omega),give_all hN q.tk q.v q.d vb.taken e3.vs.dev.blen e3.tak e3.ok.nd (fun p hp=>by
    have:=e3.ok.tr (p,true) (by rw [e3.tak];refine List.mem_append_left _ ?_;rw [List.mem_reverse];exact List.mem_map.2 ⟨p,hp,rfl⟩)
    exact this.2),some_bind]
  have V':=e3.vs
  exact ⟨V'.dev,V'.ring,V'.rlen,V'.gen,V'.boot,Nat.le_trans V.tlen (Nat.le_add_right ..)⟩
end Go.Proofs.YtkibffdipniemaaGreatDoor

/- The engine: a make of no elements whose room is a number that is known when it runs. No condition beyond those stated. -/
namespace Go.Proofs.YtkibffdipniemaaGreatDoor
open Go
variable {P:Program} {ro:Option Nat} {K:Nat→Prop} {w0:World} {N:Nat} {Q:Post} {D:List Nat} {l l':Tm} {H H' Hs L:List Chunk} {ops:Array Oper} {items:Its}
variable {tk:Bool} {o:Oper} {t:Nat} {v:Value} {x y z:Operand}

end Go.Proofs.YtkibffdipniemaaGreatDoor

/- Plain functions of the references and the laws, printed from the loaded program, and the walks that show that the program computes them. Condition: the plain function yields. -/
namespace Go.Proofs.YtkibffdipniemaaGreatDoor
open Go
variable {K:Nat→Prop} {w0:World} {H:List Chunk}

def f_grove_Save_nil (p1:List RowA) (p2:List SavedA):Option (List SavedA×Int):=
 some ([],1)
set_option maxRecDepth 100000 in
theorem c_grove_Save_nil {v1_:Value} {p1:List RowA} {v2_:Value} {p2:List SavedA} {r:List SavedA×Int} (h:f_grove_Save_nil p1 p2=some r) (hs1_:SlOf K w0 encRow 4 v1_ p1) (hs2_:SlOf K w0 encSaved 3 v2_ p2):Con Tryz.prog K w0 19 [.pointer none,v1_,v2_] [] H (fun u M=>∃v0:Value,u=.tuple #[v0,vI r.2]∧M=[rowT 72 3 v0 encSaved r.1]):=by
 unfold f_grove_Save_nil at h
 refine Con.enter Tryz.func19 rfl rfl ?_
 refine SX.sr ?_
 refine SL.box (.r rfl) rfl (fun _=>trivial) fun b1=>?_
 refine SL.nilT 72 3 encSaved (SL.asg (.r rfl) rfl (SL.asg (.r rfl) rfl (SL.nx (SX.seq (SX.sr (SL.ld (.r rfl) sc24 rfl (cell_own 1 rfl rfl) (SL.eqPN (.r rfl) ty24 rfl rfl (SL.nx (SX.condT rfl (SX.sr (SL.nilT 72 3 encSaved (SL.asg (.r rfl) rfl ?_))))))))))))
 refine SL.asg (.r rfl) rfl (SL.nx (SX.ret (SQ.thnR ?_)))
 obtain rfl:=Option.some.inj h
 exact SQ.fret (res2 rfl rfl rfl) (ret_of (M:=[_]) ⟨(.slice none 0 0),rfl,rfl⟩ fun _ hw=>HpOk.pick (H:=[_,_,_]) hw [0] 3 rfl)

def f_grove_Load_nil (p1:RefA):Option (List RowA×List SavedA×Int):=
 some ([],[],1)
set_option maxRecDepth 100000 in
theorem c_grove_Load_nil {p1:RefA} {r:List RowA×List SavedA×Int} (h:f_grove_Load_nil p1=some r)  : Con Tryz.prog K w0 15 [.pointer none,.agg (encRef p1).toArray] [] H (fun u M=>∃v0 v1:Value,u=.tuple #[v0,v1,vI r.2.2]∧M=[rowT 79 4 v0 encRow r.1,rowT 72 3 v1 encSaved r.2.1]):=by
 unfold f_grove_Load_nil at h
 refine Con.enter Tryz.func15 rfl rfl ?_
 refine SX.sr ?_
 refine SL.box (.r rfl) rfl (fun _=>trivial) fun b1=>?_
 refine SL.nilT 79 4 encRow (SL.asg (.r rfl) rfl (SL.nilT 72 3 encSaved (SL.asg (.r rfl) rfl (SL.asg (.r rfl) rfl (SL.nx (SX.seq (SX.sr (SL.mv (.r rfl) rfl (SL.eqPN (.r rfl) ty24 rfl rfl (SL.nx (SX.condT rfl (SX.sr ?_))))))))))))
 refine SL.nilT 79 4 encRow (SL.asg (.r rfl) rfl (SL.nilT 72 3 encSaved (SL.asg (.r rfl) rfl (SL.asg (.r rfl) rfl (SL.nx (SX.ret (SQ.thnR ?_)))))))
 obtain rfl:=Option.some.inj h
 exact SQ.fret (res3 rfl rfl rfl rfl) (ret_of (M:=[_,_]) ⟨(.slice none 0 0),(.slice none 0 0),rfl,rfl⟩ fun _ hw=>HpOk.pick (H:=[_,_,_,_,_]) hw [1,0] 5 rfl)

def f_law14_made (n:Nat) (p0:Int):Option (Option (VltA×DevA×RVltA×RDevA)×Bool):=
 (f_device_New p0).bind fun y1=>
 (y1.1).bind fun d1=>
 (f_ref07_New n p0).bind fun y2=>
 (y2.1).bind fun d2=>
 cond ((!decide (y1.2=0))||(!decide (y2.2=0)))
 (
  some (none,false))
 (
  (f_law13_Ring n 1).bind fun y3=>
  (f_vault_New d1 y3 1 7).bind fun y4=>
  (y4.1).bind fun d3=>
  (f_law13_Ring n 1).bind fun y5=>
  (f_ref13_New n d2 y5 1 7).bind fun y6=>
  (y6.1).bind fun d4=>
  ret ((decide (y4.2=0))&&(decide (y6.2=0))) fun x1=>
  some (some (d3,d1,d4,d2),x1))
set_option maxHeartbeats 4000000 in
set_option maxRecDepth 100000 in
theorem c_law14_made {n:Nat} {p0:Int} {r:Option (VltA×DevA×RVltA×RDevA)×Bool} (h:f_law14_made n p0=some r)  : Con Tryz.prog K w0 12 [vI p0] [] H (fun u M=>(r.1=none∧u=.tuple #[.pointer none,.pointer none,.pointer none,vB r.2]∧M=[])∨(∃(d:VltA×DevA×RVltA×RDevA) (bn0:Nat) (vn0x1:Value) (mn0x5:Nat) (bn1:Nat) (vn1x4:Value) (mn1x5:Nat) (mn1x6:Nat) (bn2:Nat) (vn2x1:Value) (vn2x5:Value) (bn3:Nat) (vn3x0:Value) (vn3x1:Value) (vn3x2:Value),r.1=some d∧u=.tuple #[vP bn0 0,vP bn1 0,vP bn2 0,vB r.2]∧M=[own bn0 (.cells #[vP bn1 0,vn0x1,vU32 d.1.gen,vU32 d.1.boot,vU64 d.1.seals,.map (some mn0x5)] 96),rowT 138 2 vn0x1 encKey d.1.ring,mapC mn0x5 vU32 vB d.1.taken,own bn1 (.cells #[vB d.2.1.off,vB d.2.1.isCut,vI d.2.1.lasts,vI d.2.1.counts,vn1x4,.map (some mn1x5),.map (some mn1x6),vU64 d.2.1.rcnt,vS d.2.1.rtag,vU32 d.2.1.rboots] 130),rowT 9 1 vn1x4 eS d.2.1.blocks,mapC mn1x5 vU32 vS d.2.1.pend,mapC mn1x6 vU32 vB d.2.1.bad,own bn2 (.cells #[vP bn3 0,vn2x1,vU32 d.2.2.1.gen,vU32 d.2.2.1.boot,vU64 d.2.2.1.num,vn2x5] 69),rowT 138 2 vn2x1 encKey d.2.2.1.ring,rowT 4 1 vn2x5 eB d.2.2.1.taken,own bn3 (.cells #[vn3x0,vn3x1,vn3x2,vU64 d.2.2.2.rcnt,vS d.2.2.2.rtag,vU32 d.2.2.2.rboots,vI d.2.2.2.left,vB d.2.2.2.off] 132),rowT 9 1 vn3x0 eS d.2.2.2.blk,rowT 9 1 vn3x1 eS d.2.2.2.pnd,rowT 4 1 vn3x2 eB d.2.2.2.bads])):=by
 unfold f_law14_made at h
 refine Con.enter Tryz.func12 rfl rfl ?_
 refine SX.sr (SL.asg (.r rfl) rfl (SL.asg (.r rfl) rfl (SL.asg (.r rfl) rfl (SL.asg (.r rfl) rfl (SL.nx (SX.sr ?_))))))
 obtain ⟨y1,hy1,h⟩:=bnd h
 obtain ⟨d1,hd1,h⟩:=bnd h
 refine SL.mv (.r rfl) rfl ?_
 refine SL.call (vs:=[_]) (Hin:=[]) (Hr:=_) (.r rfl) rfl ⟨rfl,trivial⟩ cal40 rfl rfl (c_device_New hy1) ?_
 rintro _ _ (⟨hn,-,-⟩ | ⟨d_,b1,v1,m1,m2,hn,rfl,rfl⟩)
 rw [hd1] at hn;cases hn
 obtain rfl:d1=d_:=Option.some.inj (hd1.symm.trans hn)
 refine ⟨trivial,?_⟩
 refine SL.mv (.r rfl) rfl (SL.ext (.r rfl) rfl rfl (SL.ext (.r rfl) rfl rfl (SL.asg (.r rfl) rfl (SL.asg (.r rfl) rfl (SL.nx (SX.sr ?_))))))
 obtain ⟨y2,hy2,h⟩:=bnd h
 obtain ⟨d2,hd2,h⟩:=bnd h
 refine SL.mv (.r rfl) rfl ?_
 refine SL.call (vs:=[_]) (Hin:=[]) (Hr:=_::_::_::_::_) (.r rfl) rfl ⟨rfl,trivial⟩ cal41 rfl rfl (c_ref07_New hy2) ?_
 rintro _ _ (⟨hn,-,-⟩ | ⟨d_,b2,v2,v3,v4,hn,rfl,rfl⟩)
 rw [hd2] at hn;cases hn
 obtain rfl:d2=d_:=Option.some.inj (hd2.symm.trans hn)
 refine ⟨trivial,?_⟩
 refine SL.mv (.r rfl) rfl (SL.ext (.r rfl) rfl rfl (SL.ext (.r rfl) rfl rfl (SL.asg (.r rfl) rfl (SL.asg (.r rfl) rfl (SL.nx (SX.seq (SX.sr (SL.mv (.r rfl) rfl (SL.bin (.r rfl) rfl rfl Bin.neI (SL.mv (.r rfl) rfl ?_))))))))))
 refine SL.or (c := !decide (y2.2=0)) 26 3 29 rfl (fun hb k=>?_) (fun hb k=>?_) ?_
 refine SL.pass rfl rfl rfl (SL.pass rfl rfl rfl (SL.pk (.r rfl) rfl rfl ?_))
 exact k.mono (by repeat' (first | exact trivial | refine And.intro rfl ?_))
 refine SL.mv (.r rfl) rfl (SL.bin (.r rfl) rfl rfl Bin.neI (SL.pk (.r rfl) rfl rfl ?_))
 exact k.mono (by repeat' (first | exact trivial | refine And.intro rfl ?_))
 refine SL.nx ?_
 refine SX.cond rfl (fun hc1=>?_) (fun hc1=>?_)
 replace h:=cT hc1 h
 refine SX.sr (SL.asg (.r rfl) rfl (SL.asg (.r rfl) rfl (SL.asg (.r rfl) rfl (SL.asg (.r rfl) rfl (SL.nx (SX.ret (SQ.thnR ?_)))))))
 obtain rfl:=Option.some.inj h
 exact SQ.fret (res4 rfl rfl rfl rfl rfl) (ret_of (M:=[]) (.inl ⟨rfl,rfl,rfl⟩) fun _ hw=>HpOk.pick (H:=[_,_,_,_,_,_,_,_]) hw [] 8 rfl)
 replace h:=cF hc1 h
 refine SX.skip (SQ.thn (SX.sr ?_))
 obtain ⟨y3,hy3,h⟩:=bnd h
 obtain ⟨y4,hy4,h⟩:=bnd h
 obtain ⟨d3,hd3,h⟩:=bnd h
 refine SL.mv (.r rfl) rfl ?_
 refine SL.call (vs:=[_]) (Hin:=[]) (Hr:=_::_::_::_::_::_::_::_::_) (.r rfl) rfl ⟨rfl,trivial⟩ cal43 rfl rfl (c_law13_Ring hy3) ?_
 rintro v5 _ ⟨_,rfl,rfl⟩
 refine ⟨trivial,?_⟩
 refine SL.pick [0,5,6,7,8,1,2,3,4] 9 ?_
 refine SL.call (vs:=[_,_,vU32 1,vU32 7]) (Hin:=[_,_,_,_,_]) (Hr:=_::_::_::_::_) (.r rfl) rfl ⟨rfl,rfl,rfl,rfl,trivial⟩ cal42 rfl rfl (Con.lend (B:=[_]) (Hin:=[_,_,_,_]) fun K' w1 hk hB=>c_vault_New hy4 (SlOf.lentT (e:=138) (v:=v5) (fun _=>rfl) (hB _ (by simp)))) ?_
 rintro _ _ ⟨_,rfl,(⟨hn,-,-⟩ | ⟨d_,b3,v6,m3,hn,rfl,rfl⟩)⟩
 rw [hd3] at hn;cases hn
 obtain rfl:d3=d_:=Option.some.inj (hd3.symm.trans hn)
 refine ⟨trivial,?_⟩
 refine SL.mv (.r rfl) rfl (SL.ext (.r rfl) rfl rfl (SL.ext (.r rfl) rfl rfl (SL.asg (.r rfl) rfl (SL.asg (.r rfl) rfl (SL.nx (SX.sr ?_))))))
 obtain ⟨y5,hy5,h⟩:=bnd h
 obtain ⟨y6,hy6,h⟩:=bnd h
 obtain ⟨d4,hd4,h⟩:=bnd h
 refine SL.mv (.r rfl) rfl ?_
 refine SL.call (vs:=[_]) (Hin:=[]) (Hr:=_::_::_::_::_::_::_::_::_::_::_::_::_) (.r rfl) rfl ⟨rfl,trivial⟩ cal43 rfl rfl (c_law13_Ring hy5) ?_
 rintro v7 _ ⟨_,rfl,rfl⟩
 refine ⟨trivial,?_⟩
 refine SL.pick [9,10,11,12,0,1,2,3,4,5,6,7,8] 13 ?_
 refine SL.call (vs:=[_,_,vU32 1,vU32 7]) (Hin:=[_,_,_,_,_]) (Hr:=_::_::_::_::_::_::_::_::_) (.r rfl) rfl ⟨rfl,rfl,rfl,rfl,trivial⟩ cal44 rfl rfl (c_ref13_New hy6) ?_
 rintro _ _ (⟨hn,-,-⟩ | ⟨d_,b4,v8,v9,hn,rfl,rfl⟩)
 rw [hd4] at hn;cases hn
 obtain rfl:d4=d_:=Option.some.inj (hd4.symm.trans hn)
 refine ⟨trivial,?_⟩
 refine SL.mv (.r rfl) rfl (SL.ext (.r rfl) rfl rfl (SL.ext (.r rfl) rfl rfl (SL.asg (.r rfl) rfl (SL.asg (.r rfl) rfl (SL.nx (SX.sr ?_))))))
 obtain ⟨x1,ex1,h⟩:=retE h
 refine SL.mv (.r rfl) rfl (SL.mv (.r rfl) rfl (SL.mv (.r rfl) rfl (SL.mv (.r rfl) rfl (SL.bin (.r rfl) rfl rfl Bin.eqI (SL.mv (.r rfl) rfl ?_)))))
 refine SL.and (c:=decide (y6.2=0)) 47 3 50 rfl (fun hb k=>?_) (fun hb k=>?_) ?_
 refine SL.mv (.r rfl) rfl (SL.bin (.r rfl) rfl rfl Bin.eqI (SL.pk (.r rfl) rfl rfl ?_))
 exact k.mono (by repeat' (first | exact trivial | refine And.intro rfl ?_))
 refine SL.pass rfl rfl rfl (SL.pass rfl rfl rfl (SL.pk (.r rfl) rfl rfl ?_))
 exact k.mono (by repeat' (first | exact trivial | refine And.intro rfl ?_))
 refine SL.asg (.r rfl) rfl (SL.asg (.r rfl) rfl (SL.asg (.r rfl) rfl ?_))
 refine SL.asgX (u:=vB x1) (.r rfl) rfl (congrArg vB ex1) ?_
 refine SL.nx (SX.ret ?_)
 obtain rfl:=Option.some.inj h
 exact SQ.fret (res4 rfl rfl rfl rfl rfl) (ret_of (M:=[_,_,_,_,_,_,_,_,_,_,_,_,_,_]) (.inr ⟨_,b3,v6,m3,b1,v1,m1,m2,b4,v8,v9,b2,v2,v3,v4,rfl,rfl,rfl⟩) fun _ hw=>HpOk.pick (H:=[_,_,_,_,_,_,_,_,_,_,_,_,_,_,_]) hw [8,9,10,11,12,13,14,0,1,2,3,4,5,6] 15 rfl)

def f_law14_shown (n:Nat) (T:List UInt32):Option Bool:=
 (f_law14_made n 12).bind fun y1=>
 (y1.1).bind fun d1=>
 (saveF n T d1.1 d1.2.1 [(⟨1,0,0,[]⟩:RowA),(⟨2,0,0,[]⟩:RowA),(⟨3,0,0,[]⟩:RowA),(⟨4,0,0,[]⟩:RowA),(⟨5,0,0,[]⟩:RowA),(⟨6,8,0,[]⟩:RowA)] []).bind fun y2=>
 (f_law14_last y2.1).bind fun y3=>
 (loadF n T y2.2.2.1 y2.2.2.2 y3).bind fun y4=>
 (andO (((y1.2&&(decide (y2.2.1=0)))&&(decide (y4.2.2=0)))&&(decide ((y2.1.length:Int)=4))) ((f_ref09_Same n [(⟨1,0,0,[]⟩:RowA),(⟨2,0,0,[]⟩:RowA),(⟨3,0,0,[]⟩:RowA),(⟨4,0,0,[]⟩:RowA),(⟨5,0,0,[]⟩:RowA),(⟨6,8,0,[]⟩:RowA)] y4.1).bind fun y5=>some (y5))).bind fun y6=>
 (andO y6 ((f_ref14_Same n y2.1 y4.2.1).bind fun y7=>some (y7))).bind fun y8=>
 (andO y8 ((f_vv_Seals y2.2.2.1 y2.2.2.2).bind fun y9=>some (decide (y9=4)))).bind fun y10=>
 some y10
set_option maxHeartbeats 4000000 in
set_option maxRecDepth 100000 in
theorem c_law14_shown {n:Nat} {T:List UInt32} {r:Bool} (h:f_law14_shown n T=some r) (hS:ShaT K w0 T):Con Tryz.prog K w0 11 [] [] H (fun u M=>u=vB r∧M=[]):=by
 unfold f_law14_shown at h
 refine Con.enter Tryz.func11 rfl rfl ?_
 refine SX.sr (SL.asg (.r rfl) rfl (SL.nx (SX.sr ?_)))
 obtain ⟨y1,hy1,h⟩:=bnd h
 obtain ⟨d1,hd1,h⟩:=bnd h
 refine SL.call (vs:=[_]) (Hin:=[]) (Hr:=_) (.r rfl) rfl ⟨rfl,trivial⟩ cal12 rfl rfl (c_law14_made hy1) ?_
 rintro _ _ (⟨hn,-,-⟩ | ⟨d_,b1,v1,m1,b2,v2,m2,m3,b3,v3,v4,b4,v5,v6,v7,hn,rfl,rfl⟩)
 rw [hd1] at hn;cases hn
 obtain rfl:d1=d_:=Option.some.inj (hd1.symm.trans hn)
 refine ⟨trivial,?_⟩
 refine SL.mv (.r rfl) rfl (SL.ext (.r rfl) rfl rfl (SL.ext (.r rfl) rfl rfl (SL.ext (.r rfl) rfl rfl (SL.ext (.r rfl) rfl rfl (SL.asg (.r rfl) rfl (SL.asg (.r rfl) rfl (SL.asg (.r rfl) rfl ?_)))))))
 refine SL.asg (.r rfl) rfl (SL.nx (SX.sr (SL.bld [_] (.r rfl) pl79 pk79 ze79 ⟨rfl,trivial⟩ rfl (SL.bld [_] (.r rfl) pl79 pk79 ze79 ⟨rfl,trivial⟩ rfl (SL.bld [_] (.r rfl) pl79 pk79 ze79 ⟨rfl,trivial⟩ rfl (SL.bld [_] (.r rfl) pl79 pk79 ze79 ⟨rfl,trivial⟩ rfl (SL.bld [_] (.r rfl) pl79 pk79 ze79 ⟨rfl,trivial⟩ rfl (SL.bld [_,_] (.r rfl) pl79 pk79 ze79 ⟨rfl,rfl,trivial⟩ rfl ?_))))))))
 refine SL.bsl [_,_,_,_,_,_] (.r rfl) ty35 sz79 ze79 ⟨rfl,rfl,rfl,rfl,rfl,rfl,trivial⟩ rfl rfl rfl (by first | (simp [Value.cells];done) | (intro v hv;simp only [List.mem_cons,List.not_mem_nil,or_false] at hv;rcases hv with rfl | rfl | rfl | rfl | rfl | rfl<;>rfl)) rfl rfl (fun _=>trivial) fun b5=>?_
 refine SL.ownT encRow 4 ([(⟨1,0,0,[]⟩:RowA),(⟨2,0,0,[]⟩:RowA),(⟨3,0,0,[]⟩:RowA),(⟨4,0,0,[]⟩:RowA),(⟨5,0,0,[]⟩:RowA),(⟨6,8,0,[]⟩:RowA)]:List RowA) rfl (fun _=>rfl) rfl ?_
 refine SL.asg (.r rfl) rfl (SL.nx (SX.sr ?_))
 obtain ⟨y2,hy2,h⟩:=bnd h
 refine SL.mv (.r rfl) rfl (SL.mv (.r rfl) rfl ?_)
 refine SL.call (vs:=[_,_,_]) (Hin:=[_,_,_,_,_,_,_,_]) (Hr:=_::_::_::_::_::_::_::_) (.r rfl) rfl ⟨rfl,rfl,rfl,trivial⟩ cal19 rfl rfl (Con.lend (B:=[_]) (Hin:=[_,_,_,_,_,_,_]) fun K' w1 hk hB=>w_save hy2 (hS.keeps hk) (SlOf.lentT (e:=79) (v:=.slice (some ⟨b5,0,none⟩) 6 6) (fun _=>rfl) (hB _ (by simp))) (SlOf.nil (fun _=>rfl))) ?_
 rintro _ _ ⟨_,rfl,v8,rfl,rfl⟩
 refine ⟨trivial,?_⟩
 refine SL.mv (.r rfl) rfl (SL.ext (.r rfl) rfl rfl (SL.ext (.r rfl) rfl rfl (SL.asg (.r rfl) rfl (SL.asg (.r rfl) rfl (SL.nx (SX.sr ?_))))))
 obtain ⟨y3,hy3,h⟩:=bnd h
 obtain ⟨y4,hy4,h⟩:=bnd h
 refine SL.mv (.r rfl) rfl (SL.mv (.r rfl) rfl (SL.pick [1,0] 2 ?_))
 refine SL.call (vs:=[_]) (Hin:=[_]) (Hr:=_::_::_::_::_::_::_::_::_::_::_::_::_::_::_::_) (.r rfl) rfl ⟨rfl,trivial⟩ cal22 rfl rfl (Con.lend (B:=[_]) (Hin:=[]) fun K' w1 hk hB=>c_law14_last hy3 (SlOf.lentT (e:=72) (v:=v8) (fun _=>rfl) (hB _ (by simp)))) ?_
 rintro _ _ ⟨_,rfl,rfl,rfl⟩
 refine ⟨trivial,?_⟩
 refine SL.pick [2,3,4,5,6,7,8,0,1] 9 ?_
 refine SL.call (vs:=[_,_]) (Hin:=[_,_,_,_,_,_,_]) (Hr:=_::_::_::_::_::_::_::_::_::_) (.r rfl) rfl ⟨rfl,rfl,trivial⟩ cal15 rfl rfl ((w_load hy4 hS :)) ?_
 rintro _ _ ⟨v9,v10,rfl,rfl⟩
 refine ⟨trivial,?_⟩
 refine SL.mv (.r rfl) rfl (SL.ext (.r rfl) rfl rfl (SL.ext (.r rfl) rfl rfl (SL.ext (.r rfl) rfl rfl (SL.asg (.r rfl) rfl (SL.asg (.r rfl) rfl (SL.asg (.r rfl) rfl (SL.nx (SX.sr ?_))))))))
 obtain ⟨y6,hy6,h⟩:=bnd h
 obtain ⟨y8,hy8,h⟩:=bnd h
 obtain ⟨y10,hy10,h⟩:=bnd h
 refine SL.mv (.r rfl) rfl (SL.mv (.r rfl) rfl ?_)
 refine SL.and (c:=decide (y2.2.1=0)) 39 3 42 rfl (fun hb k=>?_) (fun hb k=>?_) ?_
 refine SL.mv (.r rfl) rfl (SL.bin (.r rfl) rfl rfl Bin.eqI (SL.pk (.r rfl) rfl rfl ?_))
 exact k.mono (by repeat' (first | exact trivial | refine And.intro rfl ?_))
 refine SL.pass rfl rfl rfl (SL.pass rfl rfl rfl (SL.pk (.r rfl) rfl rfl ?_))
 exact k.mono (by repeat' (first | exact trivial | refine And.intro rfl ?_))
 refine SL.mv (.r rfl) rfl ?_
 refine SL.and (c:=decide (y4.2.2=0)) 43 3 46 rfl (fun hb k=>?_) (fun hb k=>?_) ?_
 refine SL.mv (.r rfl) rfl (SL.bin (.r rfl) rfl rfl Bin.eqI (SL.pk (.r rfl) rfl rfl ?_))
 exact k.mono (by repeat' (first | exact trivial | refine And.intro rfl ?_))
 refine SL.pass rfl rfl rfl (SL.pass rfl rfl rfl (SL.pk (.r rfl) rfl rfl ?_))
 exact k.mono (by repeat' (first | exact trivial | refine And.intro rfl ?_))
 refine SL.mv (.r rfl) rfl ?_
 refine SL.and (c:=decide ((y2.1.length:Int)=4)) 47 4 51 rfl (fun hb k=>?_) (fun hb k=>?_) ?_
 refine SL.mv (.r rfl) rfl (SL.lenT 9 (.r rfl) ty36 rfl rfl (SL.bin (.r rfl) rfl rfl Bin.eqI (SL.pk (.r rfl) rfl rfl ?_)))
 exact k.mono (by repeat' (first | exact trivial | refine And.intro rfl ?_))
 refine SL.pass rfl rfl rfl (SL.pass rfl rfl rfl (SL.pass rfl rfl rfl (SL.pk (.r rfl) rfl rfl ?_)))
 exact k.mono (by repeat' (first | exact trivial | refine And.intro rfl ?_))
 refine SL.mv (.r rfl) rfl ?_
 refine SL.andN 52 4 56 hy6 rfl (fun hb hg4 k=>?_) (fun hb k=>?_) ?_
 obtain ⟨y5,hy5,hg4⟩:=bnd hg4
 obtain rfl:=Option.some.inj hg4
 refine SL.mv (.r rfl) rfl (SL.mv (.r rfl) rfl (SL.pick [10,0,1,2,3,4,5,6,7,8,9] 11 ?_))
 refine SL.call (vs:=[_,_]) (Hin:=[_,_]) (Hr:=_::_::_::_::_::_::_::_::_::_::_::_::_::_::_::_::_) (.r rfl) rfl ⟨rfl,rfl,trivial⟩ cal17 rfl rfl (Con.lend (B:=[_,_]) (Hin:=[]) fun K' w1 hk hB=>c_ref09_Same hy5 (SlOf.lentT (e:=79) (v:=.slice (some ⟨b5,0,none⟩) 6 6) (fun _=>rfl) (hB _ (by simp))) (SlOf.lentT (e:=79) (v:=v9) (fun _=>rfl) (hB _ (by simp)))) ?_
 rintro _ _ ⟨_,rfl,rfl,rfl⟩
 refine ⟨trivial,?_⟩
 refine SL.pk (.r rfl) rfl rfl ?_
 exact SL.mono (SL.heap k fun _ hw=>HpOk.pick (H:=[_,_,_,_,_,_,_,_,_,_,_,_,_,_,_,_,_,_]) hw [1,2,3,4,5,6,7,8,9,10,0,11,12,13,14,15,16,17] 18 rfl) (by repeat' (first | exact trivial | refine And.intro rfl ?_))
 refine SL.pass rfl rfl rfl (SL.pass rfl rfl rfl (SL.pass rfl rfl rfl (SL.pk (.r rfl) rfl rfl ?_)))
 exact k.mono (by repeat' (first | exact trivial | refine And.intro rfl ?_))
 refine SL.mv (.r rfl) rfl ?_
 refine SL.andN 57 4 61 hy8 rfl (fun hb hg5 k=>?_) (fun hb k=>?_) ?_
 obtain ⟨y7,hy7,hg5⟩:=bnd hg5
 obtain rfl:=Option.some.inj hg5
 refine SL.mv (.r rfl) rfl (SL.mv (.r rfl) rfl (SL.pick [9,1,0,2,3,4,5,6,7,8] 10 ?_))
 refine SL.call (vs:=[_,_]) (Hin:=[_,_]) (Hr:=_::_::_::_::_::_::_::_::_::_::_::_::_::_::_::_::_) (.r rfl) rfl ⟨rfl,rfl,trivial⟩ cal18 rfl rfl (Con.lend (B:=[_,_]) (Hin:=[]) fun K' w1 hk hB=>c_ref14_Same hy7 (SlOf.lentT (e:=72) (v:=v8) (fun _=>rfl) (hB _ (by simp))) (SlOf.lentT (e:=72) (v:=v10) (fun _=>rfl) (hB _ (by simp)))) ?_
 rintro _ _ ⟨_,rfl,rfl,rfl⟩
 refine ⟨trivial,?_⟩
 refine SL.pk (.r rfl) rfl rfl ?_
 exact SL.mono (SL.heap k fun _ hw=>HpOk.pick (H:=[_,_,_,_,_,_,_,_,_,_,_,_,_,_,_,_,_,_]) hw [2,1,3,4,5,6,7,8,9,0,10,11,12,13,14,15,16,17] 18 rfl) (by repeat' (first | exact trivial | refine And.intro rfl ?_))
 refine SL.pass rfl rfl rfl (SL.pass rfl rfl rfl (SL.pass rfl rfl rfl (SL.pk (.r rfl) rfl rfl ?_)))
 exact k.mono (by repeat' (first | exact trivial | refine And.intro rfl ?_))
 refine SL.mv (.r rfl) rfl ?_
 refine SL.andN 62 4 66 hy10 rfl (fun hb hg6 k=>?_) (fun hb k=>?_) ?_
 obtain ⟨y9,hy9,hg6⟩:=bnd hg6
 obtain rfl:=Option.some.inj hg6
 refine SL.mv (.r rfl) rfl (SL.pick [2,3,4,5,6,7,8,0,1] 9 ?_)
 refine SL.call (vs:=[_]) (Hin:=[_,_,_,_,_,_,_]) (Hr:=_::_::_::_::_::_::_::_::_::_::_::_) (.r rfl) rfl ⟨rfl,trivial⟩ cal23 rfl rfl (c_vv_Seals hy9) ?_
 rintro _ _ ⟨rfl,rfl⟩
 refine ⟨trivial,?_⟩
 refine SL.bin (.r rfl) rfl rfl (Bin.eq64 (b:=4)) ?_
 refine SL.pk (.r rfl) rfl rfl ?_
 exact SL.mono (SL.heap k fun _ hw=>HpOk.pick (H:=[_,_,_,_,_,_,_,_,_,_,_,_,_,_,_,_,_,_]) hw [7,8,0,1,2,3,4,5,6,9,10,11,12,13,14,15,16,17] 18 rfl) (by repeat' (first | exact trivial | refine And.intro rfl ?_))
 refine SL.pass rfl rfl rfl (SL.pass rfl rfl rfl (SL.pass rfl rfl rfl (SL.pk (.r rfl) rfl rfl ?_)))
 exact k.mono (by repeat' (first | exact trivial | refine And.intro rfl ?_))
 refine SL.asg (.r rfl) rfl (SL.nx (SX.ret ?_))
 obtain rfl:=Option.some.inj h
 exact SQ.fret (res1 rfl rfl) (ret_of (M:=[]) ⟨rfl,rfl⟩ fun _ hw=>HpOk.pick (H:=[_,_,_,_,_,_,_,_,_,_,_,_,_,_,_,_,_,_]) hw [] 18 rfl)

def f_lGN (n:Nat) (T:List UInt32) (p0:List RowA) (p1:RefA):Option Bool:=
 (f_law14_shown n T).bind fun y1=>
 (f_law14_few p0).bind fun y2=>
 (f_grove_Save_nil y2 []).bind fun y3=>
 (f_grove_Load_nil p1).bind fun y4=>
 ret (((((y1&&(decide (y3.2=1)))&&(decide (y4.2.2=1)))&&(decide ((y3.1.length:Int)=0)))&&(decide ((y4.1.length:Int)=0)))&&(decide ((y4.2.1.length:Int)=0))) fun x1=>
 some x1
set_option maxHeartbeats 4000000 in
set_option maxRecDepth 100000 in
theorem c_lGN {n:Nat} {T:List UInt32} {v0_:Value} {p0:List RowA} {p1:RefA} {r:Bool} (h:f_lGN n T p0 p1=some r) (hS:ShaT K w0 T) (hs0_:SlOf K w0 encRow 4 v0_ p0):Con Tryz.prog K w0 6 [v0_,.agg (encRef p1).toArray] [] H (fun u M=>u=vB r∧M=[]):=by
 unfold f_lGN at h
 refine Con.enter Tryz.func6 rfl rfl ?_
 refine SX.sr ?_
 refine SL.box (.r rfl) rfl (fun _=>trivial) fun b1=>?_
 refine SL.asg (.r rfl) rfl (SL.nx (SX.sr ?_))
 obtain ⟨y1,hy1,h⟩:=bnd h
 refine SL.call (vs:=[]) (Hin:=[]) (Hr:=_::_) (.r rfl) rfl trivial cal11 rfl rfl (c_law14_shown hy1 hS) ?_
 rintro _ _ ⟨rfl,rfl⟩
 refine ⟨trivial,?_⟩
 refine SL.asg (.r rfl) rfl (SL.nx (SX.sr ?_))
 obtain ⟨y2,hy2,h⟩:=bnd h
 obtain ⟨y3,hy3,h⟩:=bnd h
 refine SL.mv (.r rfl) rfl ?_
 refine SL.call (vs:=[_]) (Hin:=[]) (Hr:=_::_) (.r rfl) rfl ⟨rfl,trivial⟩ cal20 rfl rfl (c_law14_few hy2 hs0_) ?_
 rintro v1 _ ⟨_,rfl,hs1,rfl⟩
 refine ⟨trivial,?_⟩
 refine SL.call (vs:=[_,_,_]) (Hin:=[]) (Hr:=_::_) (.r rfl) rfl ⟨rfl,rfl,rfl,trivial⟩ cal19 rfl rfl (c_grove_Save_nil hy3 hs1 (SlOf.nil (fun _=>rfl))) ?_
 rintro _ _ ⟨v2,rfl,rfl⟩
 refine ⟨trivial,?_⟩
 refine SL.mv (.r rfl) rfl (SL.ext (.r rfl) rfl rfl (SL.ext (.r rfl) rfl rfl (SL.asg (.r rfl) rfl (SL.asg (.r rfl) rfl (SL.nx (SX.sr ?_))))))
 obtain ⟨y4,hy4,h⟩:=bnd h
 refine SL.ldA [vU32 p1.page,vS p1.tag] (.r rfl) ag31 rfl rfl (cells_all 1 rfl) ?_
 refine SL.call (vs:=[_,_]) (Hin:=[]) (Hr:=_::_::_) (.r rfl) rfl ⟨rfl,rfl,trivial⟩ cal15 rfl rfl ((c_grove_Load_nil hy4 :)) ?_
 rintro _ _ ⟨v3,v4,rfl,rfl⟩
 refine ⟨trivial,?_⟩
 refine SL.mv (.r rfl) rfl (SL.ext (.r rfl) rfl rfl (SL.ext (.r rfl) rfl rfl (SL.ext (.r rfl) rfl rfl (SL.asg (.r rfl) rfl (SL.asg (.r rfl) rfl (SL.asg (.r rfl) rfl (SL.nx (SX.sr ?_))))))))
 obtain ⟨x1,ex1,h⟩:=retE h
 refine SL.mv (.r rfl) rfl (SL.mv (.r rfl) rfl ?_)
 refine SL.and (c:=decide (y3.2=1)) 25 3 28 rfl (fun hb k=>?_) (fun hb k=>?_) ?_
 refine SL.mv (.r rfl) rfl (SL.bin (.r rfl) rfl rfl Bin.eqI (SL.pk (.r rfl) rfl rfl ?_))
 exact k.mono (by repeat' (first | exact trivial | refine And.intro rfl ?_))
 refine SL.pass rfl rfl rfl (SL.pass rfl rfl rfl (SL.pk (.r rfl) rfl rfl ?_))
 exact k.mono (by repeat' (first | exact trivial | refine And.intro rfl ?_))
 refine SL.mv (.r rfl) rfl ?_
 refine SL.and (c:=decide (y4.2.2=1)) 29 3 32 rfl (fun hb k=>?_) (fun hb k=>?_) ?_
 refine SL.mv (.r rfl) rfl (SL.bin (.r rfl) rfl rfl Bin.eqI (SL.pk (.r rfl) rfl rfl ?_))
 exact k.mono (by repeat' (first | exact trivial | refine And.intro rfl ?_))
 refine SL.pass rfl rfl rfl (SL.pass rfl rfl rfl (SL.pk (.r rfl) rfl rfl ?_))
 exact k.mono (by repeat' (first | exact trivial | refine And.intro rfl ?_))
 refine SL.mv (.r rfl) rfl ?_
 refine SL.and (c:=decide ((y3.1.length:Int)=0)) 33 4 37 rfl (fun hb k=>?_) (fun hb k=>?_) ?_
 refine SL.mv (.r rfl) rfl (SL.lenT 2 (.r rfl) ty36 rfl rfl (SL.bin (.r rfl) rfl rfl Bin.eqI (SL.pk (.r rfl) rfl rfl ?_)))
 exact k.mono (by repeat' (first | exact trivial | refine And.intro rfl ?_))
 refine SL.pass rfl rfl rfl (SL.pass rfl rfl rfl (SL.pass rfl rfl rfl (SL.pk (.r rfl) rfl rfl ?_)))
 exact k.mono (by repeat' (first | exact trivial | refine And.intro rfl ?_))
 refine SL.mv (.r rfl) rfl ?_
 refine SL.and (c:=decide ((y4.1.length:Int)=0)) 38 4 42 rfl (fun hb k=>?_) (fun hb k=>?_) ?_
 refine SL.mv (.r rfl) rfl (SL.lenT 0 (.r rfl) ty35 rfl rfl (SL.bin (.r rfl) rfl rfl Bin.eqI (SL.pk (.r rfl) rfl rfl ?_)))
 exact k.mono (by repeat' (first | exact trivial | refine And.intro rfl ?_))
 refine SL.pass rfl rfl rfl (SL.pass rfl rfl rfl (SL.pass rfl rfl rfl (SL.pk (.r rfl) rfl rfl ?_)))
 exact k.mono (by repeat' (first | exact trivial | refine And.intro rfl ?_))
 refine SL.mv (.r rfl) rfl ?_
 refine SL.and (c:=decide ((y4.2.1.length:Int)=0)) 43 4 47 rfl (fun hb k=>?_) (fun hb k=>?_) ?_
 refine SL.mv (.r rfl) rfl (SL.lenT 1 (.r rfl) ty36 rfl rfl (SL.bin (.r rfl) rfl rfl Bin.eqI (SL.pk (.r rfl) rfl rfl ?_)))
 exact k.mono (by repeat' (first | exact trivial | refine And.intro rfl ?_))
 refine SL.pass rfl rfl rfl (SL.pass rfl rfl rfl (SL.pass rfl rfl rfl (SL.pk (.r rfl) rfl rfl ?_)))
 exact k.mono (by repeat' (first | exact trivial | refine And.intro rfl ?_))
 refine SL.asgX (u:=vB x1) (.r rfl) rfl (congrArg vB ex1) ?_
 refine SL.nx (SX.ret ?_)
 obtain rfl:=Option.some.inj h
 exact SQ.fret (res1 rfl rfl) (ret_of (M:=[]) ⟨rfl,rfl⟩ fun _ hw=>HpOk.pick (H:=[_,_,_,_]) hw [] 4 rfl)

end Go.Proofs.YtkibffdipniemaaGreatDoor

/- Plain functions of the references and the laws, printed from the loaded program, and the walks that show that the program computes them. Condition: the plain function yields. -/
namespace Go.Proofs.YtkibffdipniemaaGreatDoor
open Go
variable {K:Nat→Prop} {w0:World} {H:List Chunk}

end Go.Proofs.YtkibffdipniemaaGreatDoor

/- The laws of layer 14, of the plain functions: GroveNone, GroveBack, GroveFull. No program's walk in sight. -/
namespace Go.Proofs.YtkibffdipniemaaGreatDoor
open Go

theorem made14_eq {N n:Nat} (h4:4≤N) (hN:N≤4096) (hn:4200≤n):∃w c,f_law14_made n (N:Int)=some (some (v0,d0 N,w,c),true):=by
 obtain ⟨r,hr,hrl⟩:=new07 h4 hN (show N<n by omega)
 obtain ⟨b1,hb1⟩:∃w,f_ref13_New n r (ringA 1) 1 7=some (some w,0):=by
  unfold f_ref13_New
  have hm:mkI 1 (r.blk.length:Int) false=some (List.replicate N false):=by
   unfold mkI
   rw [hrl,if_pos ⟨by omega,by omega,by omega⟩]
   simp
  have h0:nthI (List.replicate N false) 0=some false:=by
   have:=nthI_getD (l:=List.replicate N false) (i:=0) (k:=0) false rfl (by simp;omega)
   rw [this]
   congr 1
   cases N<;>rfl
  have h1:setI (List.replicate N false) 0 true=some ((List.replicate N false).set 0 true):=setI_of rfl (by simp;omega)
  have h2:∃x,nthI ((List.replicate N false).set 0 true) 1=some x:=⟨_,nthI_getD (k:=1) false rfl (by simp;omega)⟩
  obtain ⟨x,h2⟩:=h2
  have h3:setI ((List.replicate N false).set 0 true) 1 true=some (((List.replicate N false).set 0 true).set 1 true):=setI_of rfl (by simp;omega)
  rw [find04 (ringA 1) 1 (by rw [ringA_length];omega) (by omega),find1 (by omega) (by omega),some_bind,hm,some_bind,h0,some_bind,h1,some_bind,h2,some_bind,h3,some_bind]
  exact ⟨_,rfl⟩
 refine ⟨b1,r,?_⟩
 have hv:f_vault_New (d0 N) (ringA 1) 1 7=some (some v0,0):=by
  unfold f_vault_New findO
  rw [if_pos (by rw [ringA_length];omega),some_bind,find1 (by omega) (by omega),appL_eq (by simp [ringA_length]) (by simp [ringA_length]),some_bind]
  rfl
 have hring:f_law13_Ring n 1=some (ringA 1):=ring_eq 1 (by omega) (by omega)
 unfold f_law14_made
 rw [new_eq (by omega) (by omega),some_bind,some_bind,hr,some_bind,some_bind]
 show (f_law13_Ring n 1).bind _=_
 rw [hring,some_bind]
 show (f_vault_New (d0 N) (ringA 1) 1 7).bind _=_
 rw [hv,some_bind,some_bind,some_bind,hb1,some_bind,some_bind]
 rfl
theorem same_rows {n:Nat} (l:List RowA) (hn:l.length<n) (hb:l.length≤1000000):f_ref09_Same n l l=some true:=by
 unfold f_ref09_Same
 rw [show (!decide ((l.length:Int)=(l.length:Int)))=false by simp,cond_false]
 unfold f_ref09_Same_l1
 refine loop_all (fun i=>(i:Int)) l.length (fun i hi k=>?_) (fun k=>?_) hn
 unfold f_ref09_Same_l1_b
 have h1:nthI l (i:Int)=some l[i]:=by rw [nthI_nat];exact List.getElem?_eq_getElem hi
 rw [decide_eq_true (by omega),cond_true,h1,some_bind,some_bind,ret_eq,wI_eq (by omega) (by omega)]
 simp
 unfold f_ref09_Same_l1_b
 rw [decide_eq_false (by omega),cond_false]
 rfl
theorem same_pages {n:Nat} (l:List SavedA) (hn:l.length<n) (hb:l.length≤1000000):f_ref14_Same n l l=some true:=by
 unfold f_ref14_Same
 rw [show (!decide ((l.length:Int)=(l.length:Int)))=false by simp,cond_false]
 unfold f_ref14_Same_l1
 refine loop_all (fun i=>(i:Int)) l.length (fun i hi k=>?_) (fun k=>?_) hn
 unfold f_ref14_Same_l1_b
 have h1:nthI l (i:Int)=some l[i]:=by rw [nthI_nat];exact List.getElem?_eq_getElem hi
 rw [decide_eq_true (by omega),cond_true,h1,some_bind,some_bind,ret_eq,wI_eq (by omega) (by omega)]
 simp
 unfold f_ref14_Same_l1_b
 rw [decide_eq_false (by omega),cond_false]
 rfl
theorem few_eq (l:List RowA):f_law14_few l=some (l.take 24):=by
 unfold f_law14_few
 have h0:slcI l 0 (min (l.length:Int) 24)=some ((l.drop 0).take (min l.length 24-0)):=slcI_of rfl (by omega) (by omega) (by omega)
 rw [h0,some_bind]
 simp only [List.drop_zero,Nat.sub_zero]
 congr 1
 rcases Nat.le_total l.length 24 with h | h
 rw [Nat.min_eq_left h,List.take_of_length_le (Nat.le_refl _),List.take_of_length_le h]
 rw [Nat.min_eq_right h]
theorem v0_tk (N:Nat):TkOk N v0:=⟨List.nodup_nil,fun e he=>by simp [v0] at he⟩
theorem save_load {n:Nat} {T:List UInt32} {N c0:Nat} {R:List KeyA} {g:UInt32} {vb:VltA} {db:DevA} {q:SvA} {l:List RowA} {t:NodeP} {out:List SavedA} {r:RefA} (hn:2110≤n) (hl:rightR l=true) (hb:buildF n l=some (t,0)) (hT:Tr n l t) (hR:RunT n t out r)
  (S:SvI N c0 R g vb db q) (hrd:∀s∈out,Rd T R N q.v q.d s) (ho:out.length=pgN n t):f_law14_last out=some r∧loadF n T q.v q.d r=some (l,out,0):=by
 have hpg:=pages_pos hT (rightR_len hl)
 have hl1:=rightR_len hl
 constructor
 obtain ⟨a,s,rfl⟩:=hR.lastE
 simp only [List.length_append,List.length_singleton] at ho
 exact last_eq (by omega)
 exact load_ok hn hl hb hT hR (fun s hs=>⟨((hrd s hs).ok S.vs).1,((hrd s hs).ok S.vs).2.1⟩) (by omega)
theorem all_new {T:List UInt32} {th:List (KeyS×RefA)} (hth:∀k:KeyS,mget th k=none):∀(seg:List SavedA) (q q':SvA),Path (savWh T th) q seg q'→q'.tk.length=q.tk.length+seg.length
 | [],q,q',h=>by rw [show q=q' from h];rfl
 | s::seg,q,q',h=>by
  obtain ⟨q1,h1,h2⟩:=h
  have ih:=all_new hth seg q1 q' h2
  unfold savWh at h1
  obtain ⟨k,hk,h1⟩:=bnd h1
  rw [hth k,show (none:Option RefA).isSome=false from rfl,cond_false] at h1
  obtain ⟨y,hy,h1⟩:=bnd h1
  cases he:decide (y.2.1=0) with
  | true=>
   rw [he,cond_true] at h1
   obtain ⟨l,hl,h1⟩:=bnd h1
   have h3:=Option.some.inj h1
   have hq:q1=⟨l,y.2.2.1,y.2.2.2⟩:=(congrArg Prod.snd h3).symm
   unfold appL at hl
   split at hl
   have hl:=Option.some.inj hl
   rw [ih,hq,←hl]
   simp only [List.length_append,List.length_cons,List.length_nil]
   omega
   cases hl
  | false=>
   rw [he,cond_false] at h1
   have h3:=congrArg (fun z=>z.1.2) (Option.some.inj h1)
   simp only at h3
   rw [h3] at he
   simp at he
/-! ### What is shown -/
abbrev rows6:List RowA:=[⟨1,0,0,[]⟩,⟨2,0,0,[]⟩,⟨3,0,0,[]⟩,⟨4,0,0,[]⟩,⟨5,0,0,[]⟩,⟨6,8,0,[]⟩]
abbrev tree6:NodeP:=.mk 0 0 4 [] [.mk 0 0 0 [⟨1,0,0,[]⟩,⟨2,0,0,[]⟩,⟨3,0,0,[]⟩,⟨4,0,0,[]⟩,⟨5,0,0,[]⟩] [],.mk 8 0 0 [⟨6,8,0,[]⟩] []]
theorem rows6_ok:rightR rows6=true:=by decide +kernel
set_option maxRecDepth 100000 in
theorem rows6_tree:buildF 4200 rows6=some (tree6,0):=by kernel_rfl
theorem p_gshown (T:List UInt32):f_law14_shown 4200 T=some true:=by
 obtain ⟨w,c,hm⟩:=made14_eq (N:=12) (n:=4200) (by omega) (by omega) (by omega)
 have k1:=find1 (m:=1) (by omega) (by omega)
 obtain ⟨t,th,h1,h2,h3,h4⟩:=save_res (n:=4200) (T:=T) (l:=rows6) (had:=[]) (by omega) (N:=12) (by omega) (v0_ok (by omega)) (v0_tk 12) k1 rows6_ok (fun s hs=>by simp at hs) (by simp) (by simp [v0])
 obtain rfl:tree6=t:=by
  have:=h1.symm.trans rows6_tree
  simp only [Option.some.injEq,Prod.mk.injEq,and_true] at this
  exact this.symm
 have hpg:pgN 4200 tree6=4:=rfl
 rcases h4 with ⟨r,out,q,e1,e2,e3,e4,e5,e6,e7,_⟩ | ⟨v,d,c,_,e2,_,_⟩
 obtain ⟨f1,f2⟩:=save_load (n:=4200) (by omega) rows6_ok h1 h2 e2 e4 e5 e6
 rw [hpg] at e6
 unfold f_law14_shown
 rw [show (12:Int)=((12:Nat):Int) from rfl,hm,some_bind,some_bind]
 show (saveF 4200 T v0 (d0 12) rows6 []).bind _=_
 rw [e1,some_bind,f1,some_bind]
 dsimp only
 rw [f2,some_bind]
 dsimp only
 have hs:=e4.seals
 have htk:q.tk.length=4:=by
  rw [all_new (fun k=>h3 k) out _ _ e7,e6]
  rfl
 rw [htk] at hs
 show (andO _ ((f_ref09_Same 4200 rows6 rows6).bind _)).bind _=_
 rw [same_rows rows6 (by decide) (by decide),some_bind,same_pages out (by omega) (by omega)]
 unfold f_vv_Seals
 rw [hs,e6]
 rfl
 exfalso
 rw [hpg] at e2
 simp [v0] at e2
end Go.Proofs.YtkibffdipniemaaGreatDoor

/- The laws of layer 14, of the plain functions: GroveNone, GroveBack, GroveFull. No program's walk in sight. -/
namespace Go.Proofs.YtkibffdipniemaaGreatDoor
open Go

theorem p_GroveNone (T:List UInt32) (l:List RowA) (r:RefA):f_lGN 4200 T l r=some true:=by
 unfold f_lGN
 rw [p_gshown,some_bind,few_eq,some_bind]
 rfl
end Go.Proofs.YtkibffdipniemaaGreatDoor
