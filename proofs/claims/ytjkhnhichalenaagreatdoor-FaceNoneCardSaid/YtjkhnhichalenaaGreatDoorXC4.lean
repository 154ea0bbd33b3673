/- The texts GG19, GG20, GG21, GG22, GG23, GG24, GG25, GG26, GG27, GG28, S25, S30, R6, LG2, LG3, LG4, LG5, LG6, LG7, GG29, GG30, GG31, LG1, LG8, LG9, YI, Y1a, YF, V3f, VG1, VG2, LG10, LG11, U1, U2, U3, one behind the other: walks of the program, and plain laws of what it computes. Conditions: as each theorem says. -/
import Derived.Test.YtjkhnhichalenaaGreatDoorXC1
import Derived.Test.YtjkhnhichalenaaGreatDoorXC2
import Derived.Test.YtjkhnhichalenaaGreatDoorXC3

set_option linter.unusedVariables false
set_option linter.unusedSimpArgs false
set_option maxHeartbeats 4000000
set_option maxRecDepth 100000
namespace Go.Proofs.YtjkhnhichalenaaGreatDoor
open Go
section
variable {K:Nat→Prop}{w0:World}{H:List AZ}
theorem CG.one{α:Type}{enc:α→List Value}{sz:Nat}{v:Value}{xs:List α}(h:CG K w0 enc sz v xs):v.cells=#[v]:=by
 rcases h.at_ with⟨_,rfl,_⟩ | ⟨_,_,_,rfl,_⟩<;>rfl
theorem jk{bx:Nat}{v:Value}{l:List As}{G0:List AZ}(hl:l.length≤1048576)(hs:CG K w0 AX 4 v l):
  OD Tryz.prog K w0 162 [vP bx 0] [AK bx (.cells #[v] 37)] G0 JA (Ow v l).reverse:=by
 intro lp J9 X T rc hy h0
 refine T6.enter Tryz.func162 rfl rfl ?_
 show SX _ _ _ _ _ _ _ _ _ (AK bx (.cells #[v] 37)::((rc::G0)++T))
 have hlen:=Wy hs hl
 refine Y ?_
 refine Ba E E zU fun b0=>?_
 refine V (Y (AG 1 FY E (BY 0 oH mq E ?_)))
 rintro _ _ ⟨b1,b2,rfl,rfl⟩
 refine Bo (vs:=[_]) (Hin:=[_,_]) (Hr:=_::_::_) E E ⟨E,zT⟩ oG E E (gJ (cap:=[vP b1 0,vP b2 0]) od hlen (fun G0=>jj hl hs G0)) ?_
 rintro va _ ⟨_,rfl,rfl⟩
 refine⟨trivial,?_⟩
 refine U E (V ?_)
 refine BB (α:=Value×List MC) (fun x=>x.2=Ow v l) (fun x=>[(0,vY lp),(2,vP b0 0),(3,x.1)]) (fun x=>AC 37 1 x.1 JA x.2::AK b0 (.cells #[vY lp] 48)::((rc::G0)++T)) ?_ (fun x D hx=>?_)
 refine Y (J E (Di 0 E WI E E (AA E BS (V ?_))))
 refine A0 E (fun hc1=>?_) (fun hc1=>?_)
 have hz:(HV v l).length=0:=by
  have:=of_decide_eq_true hc1
  omega
 refine AS ?_
 refine CE [_] E WI JP eL ⟨E,zT⟩ E E E zX E E zU fun b3=>?_
 refine CJ JA 1 ([(⟨none,0,0⟩,[])]:List MC) E zV E ?_
 refine U E (Aa ?_)
 exact Az (.slice (some ⟨b3,0,none⟩) 1 1,[(⟨none,0,0⟩,[])]) (show([(⟨none,0,0⟩,[])]:List MC)=Ow v l by rw[←XX hs,if_pos hz]) tL (BX [0,2] 4 E E E)
 have hz:¬(HV v l).length=0:=by
  have:=of_decide_eq_false hc1
  omega
 refine AJ ?_
 exact Az (va,HV v l) (show HV v l=Ow v l by rw[←XX hs,if_neg hz]) tL (BX [0,1] 3 E E E)
 obtain⟨va,xs⟩:=x
 have hx:xs=Ow v l:=hx
 have hxn:xs.length≤1048576:=by
  rw[hx,←XX hs]
  split
  simp
  exact hlen
 rw[←hx]at hy ⊢
 clear hx
 try dsimp only
 refine Y ?_
 refine XQ 0 E fun sv hsv=>?_
 refine J E ?_
 refine BY 0 oI (px (va:=va) (by rw[hsv];rfl)) E ?_
 rintro _ _ ⟨b4,rfl,rfl⟩
 refine V (AQ ?_)
 refine MU (enc:=lL) (E3 xs) (Hit:=[_,_]) (G0:=AK b0 (.cells #[vY lp] 48)::((rc::G0)++T)) (fun pre Gx=>∃G,J9 (pre.map (·.2)) G∧Gx=AK b0 (.cells #[vY lp] 48)::(G++T)) (fun c Gx=>c=.ret∧∃G,X G∧Gx=AK b0 (.cells #[vY lp] 48)::(G++T)) E oe E zV (pi hxn) E ⟨rc::G0,h0,E⟩ (fun pre x suf Gx hxs hJ r lr Rest=>?_) (fun Gx D hJ=>?_) (fun c Gx D hX=>?_)
 obtain⟨G,hJ,rfl⟩:=hJ
 refine AS (U E (Aa ?_))
 refine Kk (G:=AK b0 (.cells #[vY lp] 48)::(G++T)) ?_
 refine AQ (Y (AG 0 tP E (J E ?_)))
 refine HQ (M2:=[AK b0 (.cells #[vY lp] 48)]) (G:=G) (T:=T++Tl r lr Rest .busy) (vs:=[_]) (ok:=fun G1=>J9 ((pre++[x]).map (·.2)) G1) (no:=X) E E ⟨E,zT⟩ (by simp[List.append_assoc]) ?_ (fun bb G1 hG1=>⟨zT,?_⟩)
 intro M
 have hsp:xs.reverse=pre.map (·.2)++x.2::suf.map (·.2):=by
  rw[←Xb,hxs,List.map_append,List.map_cons]
 have:=hy (pre.map (·.2)) x.2 (suf.map (·.2)) hsp G hJ M
 rw[List.map_append,List.map_cons,List.map_nil]
 exact this
 refine CW E E (V ?_)
 refine A0 E (fun hc2=>?_) (fun hc2=>?_)
 obtain rfl:bb=false:=by simpa using hc2
 refine AL (BC ?_)
 exact kV ⟨E,G1,hG1,E⟩ (fun _ hw=>by simpa[List.append_assoc]using hw)
 obtain rfl:bb=true:=by simpa using hc2
 refine AJ (Ay ?_)
 exact IA ⟨G1,hG1,E⟩ (fun _ hw=>by simpa[List.append_assoc]using hw)
 obtain⟨G,hJ,rfl⟩:=hJ
 rw[Xb]at hJ
 refine Ay ?_
 exact C9 (Dh E) (Ak (M:=G) (.inl hJ) fun _ h=>h.skip [_])
 obtain⟨rfl,G,hX,rfl⟩:=hX
 refine AL (BC ?_)
 exact Al (Dh E) (Ak (M:=G) (.inr hX) fun _ h=>h.skip [_])
theorem j6{v:Value}(hv:v.cells=#[v]):zC K w0 131 [v] [] H (fun u M=>∃bx:Nat,u=.func (.func 162) #[] #[vP bx 0]∧M=[AK bx (.cells #[v] 37)]):=by
 refine T6.enter Tryz.func131 rfl rfl ?_
 refine Y ?_
 refine Ba E E zU fun b1=>?_
 rw[hv]
 refine U E (V (Y ?_))
 refine G3 (fv:=#[]) (cv:=#[_]) E E E ?_
 refine U E (V (AL ?_))
 exact Bp [0] 1 (Cn E E) E E ⟨_,E,E⟩
end

section
variable {K:Nat→Prop}{w0:World}{H:List AZ}
theorem EP.mid:∀ {Hs A B R:List AZ},EP Hs A→EP Hs (B++(A++R))
 | [],_,_,_,_=>trivial
 | c::r,A,B,R,⟨⟨i,hi⟩,h⟩=>⟨⟨B.length+i,by
   have hlt:=(List.getElem?_eq_some_iff.1 hi).1
   rw[List.getElem?_append_right zO,Nat.add_sub_cancel_left,List.getElem?_append_left hlt,hi]⟩,EP.mid h⟩
theorem eQ{k:AZ}{A B R M:List AZ}{w:World}(h:Bc K w0 ((k::(A++(B++R)))++M) w):Bc K w0 ((k::(B++(A++R)))++M) w:=by
 refine h.perm (List.Perm.append_right _ (List.Perm.cons _ ?_))
 rw[←List.append_assoc,←List.append_assoc]
 exact List.Perm.append_right _ List.perm_append_comm
theorem XU{α:Type}{enc:α→List Value}{sz:Nat}(hl:∀x,(enc x).length=sz):CG K w0 enc sz zN []:=⟨hl,.inl ⟨_,rfl,rfl⟩⟩
def OM(l:List As):List (List As):=if l=[]then[[]]else(List.range ((l.length+3) / 4)).map fun i=>(l.drop (4*i)).take (min (4*i+4) l.length-4*i)
theorem cj{v:Value}{l:List As}(h:CG K w0 AX 4 v l):(Ow v l).map (·.2)=OM l:=by
 by_cases hl:l=[]
 subst hl
 rw[Vk]
 rfl
 rcases h.at_ with⟨_,_,e⟩ | ⟨b,off,cap,rfl,hc,hcell⟩
 exact absurd e hl
 rw[Ox hl,OM,if_neg hl,LX,Kb,List.map_map]
 rfl
def LC{σ:Type}(rec_:CZ→LI→σ→Option (Bb×(LI×σ))):List CZ→LI→σ→List Bb→Option (List Bb×(LI×σ))
 | [],p,q,acc=>some (acc,(p,q))
 | k::ks,p,q,acc=>(rec_ k p q).bind fun y=>(DO 24 acc [y.1]).bind fun acc'=>LC rec_ ks y.2.1 y.2.2 acc'
def Oj{σ:Type}(n:Nat)(wh:Wo σ):List (List As)→Bb→LI→σ→Option (Bb×(LI×σ))
 | [],r,p,q=>some (r,(p,q))
 | l::ls,r,p,q=>(J2 n wh ⟨1,0,0,0,l,[],r.page,r.tag⟩ p q).bind fun y=>cond (!decide (y.2.1.wrong=0)) (some y) (Oj n wh ls y.1 y.2.1 y.2.2)
def H8{σ:Type}(n:Nat)(wh:Wo σ):Nat→CZ→LI→σ→Option (Bb×(LI×σ))
 | 0,_,_,_=>none
 | f+1,t,p,q=>if 1048576<t.rows.length∨1048576<t.kids.length then none else cond (decide (0<(t.kids.length:Int)))
   ((LC (H8 n wh f) t.kids p q []).bind fun y=>J2 n wh ⟨2,t.cx,t.cy,t.lev,[],y.1,0,[]⟩ y.2.1 y.2.2)
   (Oj n wh (OM t.rows).reverse ⟨0,[]⟩ p q)
theorem RX{σ:Type}{C:Value→σ→List AZ}{wh:Wo σ}{fid:FuncId}{cs:Array Value}{T:List UInt32}{n bp:Nat}(hcal:AN Tryz.prog fid=true)(hwh:eV T fid cs C wh):
  ∀(f:Nat) {K:Nat→Prop} {w0:World} {H:List AZ} {vo ca:Value} {a:Fj} {t:CZ} {p:LI} {q:σ} {r:Bb×(LI×σ)},GQ K w0 T→H8 n wh f t p q=some r→Pc K w0 a t→
  zC K w0 94 [vP bp 0,.agg (Cs a).toArray] (Ln bp (.func (.func fid) #[] cs) vo p::AC 190 3 vo AT p.out::C ca q) H
   (fun u M=>u=.agg (B3 r.1).toArray∧∃vo' ca',M=Ln bp (.func (.func fid) #[] cs) vo' r.2.1::AC 190 3 vo' AT r.2.1.out::C ca' r.2.2)
 | 0,K,w0,H,vo,ca,a,t,p,q,r,hS,h,hN=>by cases h
 | f+1,K,w0,H,vo,ca,a,t,p,q,r,hS,h,hN=>by
  have h:(if 1048576<t.rows.length∨1048576<t.kids.length then none else cond (decide (0<(t.kids.length:Int)))
   ((LC (H8 n wh f) t.kids p q []).bind fun y=>J2 n wh ⟨2,t.cx,t.cy,t.lev,[],y.1,0,[]⟩ y.2.1 y.2.2)
   (Oj n wh (OM t.rows).reverse ⟨0,[]⟩ p q))=some r:=h
  split at h
  cases h
  rename_i hbig
  have hrl:t.rows.length≤1048576:=zO
  have hkl:t.kids.length≤1048576:=zO
  clear hbig
  obtain⟨rv,kv,rfl,hr,hk⟩:=hN.parts
  refine T6.enter Tryz.func94 rfl rfl ?_
  show SX _ _ _ _ _ _ _ _ _ (Ln bp (.func (.func fid) #[] cs) vo p::AC 190 3 vo AT p.out::(C ca q++H))
  refine Y ?_
  refine Ba E E zU fun b0=>?_
  refine Ba E E zU fun b1=>?_
  refine Ar E FC zU fun b2=>?_
  refine V (Km (AH (Y (AF E KV (AG 1 UY E (ZE hk E OQ E (AA E Cm (V ?_))))))))
  refine AP h E (fun hc1 h=>?_) fun hc1 h=>?_
  refine Y (AF rfl QZ (Aw [Z t.cx,Z t.cy,vI t.lev] rfl FZ rfl rfl (Ck 1 rfl (by rintro(_ | (_ | (_ | j))) u hj<;>first | exact hj | exact absurd hj zS)) (Bt [_,_] rfl fg ff cL ⟨rfl,rfl,trivial⟩ rfl ?_)))
  refine Ar E cL zU fun b3=>?_
  refine A7 0 E E E E sE E E E zT (N0 0 (AK b3 (.cells #[vI 2,Z t.cx,Z t.cy,vI t.lev,zN,zN,Z 0,vS []] 238)) (B5 188 2 B3 (V (AH (Y (AF E KV (AG 3 UY E (ZE hk E OQ E (J E (V (AQ ?_)))))))))))
  refine SX.heap (SX.mono (BU (α:=Nat×List Bb×Value×LI×σ×Value×Value) (fun x=>x.1≤t.kids.length∧((LC (H8 n wh f) (t.kids.drop x.1) x.2.2.2.1 x.2.2.2.2.1 x.2.1).bind fun y=>J2 n wh ⟨2,t.cx,t.cy,t.lev,[],y.1,0,[]⟩ y.2.1 y.2.2)=some r)
   (fun x=>[(2,vP b0 0),(4,vP b2 0),(5,vP b3 0),(18,kv.val),(19,vI (t.kids.length:Int)),(20,vI (x.1:Int))])
   (fun x=>AK b3 (.cells #[vI 2,Z t.cx,Z t.cy,vI t.lev,zN,x.2.2.1,Z 0,vS []] 238)::AC 188 2 x.2.2.1 B3 x.2.1::AK b2 (.cells #[Z 0,vS []] 188)::AK b0 (.cells #[vP bp 0] 191)::Ln bp (.func (.func fid) #[] cs) x.2.2.2.2.2.1 x.2.2.2.1::AC 190 3 x.2.2.2.2.2.1 AT x.2.2.2.1.out::(C x.2.2.2.2.2.2 x.2.2.2.2.1++H))
   (fun x=>t.kids.length-x.1) (fun x D hp=>?_) (0,[],zN,p,q,vo,ca) ⟨Nat.zero_le _,h⟩) tL) (BX [1,0,2,4,5,6] 7 rfl rfl rfl)
  clear h
  obtain⟨i,ks,vk,p1,q1,vo1,ca1⟩:=x
  obtain⟨hi,h⟩:=hp
  dsimp only at hi h ⊢
  refine Y (AA E BD (V (AH ?_)))
  refine A0 E (fun hc2=>?_) (fun hc2=>?_)
  have hlt:i<t.kids.length:=by
   have:=of_decide_eq_true hc2
   omega
  clear hc2
  have hnth:BN t.kids (i:Int)=some t.kids[i]:=by
   rw[BN,if_pos zO]
   exact List.getElem?_eq_getElem hlt
  rw[List.drop_eq_getElem_cons hlt,LC]at h
  refine AE h fun z hz h=>?_
  obtain⟨y,hy,hz⟩:=D6 hz
  obtain⟨ac,hac,hz⟩:=D6 hz
  have h2:((LC (H8 n wh f) (t.kids.drop (i+1)) y.2.1 y.2.2 ac).bind fun y=>J2 n wh ⟨2,t.cx,t.cy,t.lev,[],y.1,0,[]⟩ y.2.1 y.2.2)=some r:=by
   rw[hz];exact h
  refine AJ (AI (AH (AQ (Y ?_))))
  refine kH hnth hk E OQ Ie E E fun b5 of5 rv5 kv5 hr5 hk5 hc5=>?_
  obtain⟨rs5,rfl⟩:=hr5.slv
  obtain⟨kk5,hk51,hk52⟩:=hk5
  obtain⟨ks5,rfl⟩:=hk51.slv
  have hN5:Pc K w0 ⟨t.kids[i].cx,t.kids[i].cy,t.kids[i].lev,rs5,ks5⟩ t.kids[i]:=eR hr5 ⟨kk5,hk51,hk52⟩
  refine Aw [Z t.kids[i].cx,Z t.kids[i].cy,vI t.kids[i].lev,rs5.val,ks5.val] E NX E E (Da hc5) ?_
  refine Ar E Ih zU fun b4=>?_
  refine A7 0 E E E E Ie E E E zT (N0 0 (AK b4 (.cells #[Z t.kids[i].cx,Z t.kids[i].cy,vI t.kids[i].lev,rs5.val,ks5.val] 167)) (V (A2 DE [0,1,4] (CK [(true,0),(true,1),(true,2),(true,3),(false,4),(false,5),(false,6),(true,7)] (.last 8 .nil)) zK (AF E Ft (AG 1 LR E (AG 2 bg E (Aw [Z t.kids[i].cx,Z t.kids[i].cy,vI t.kids[i].lev,rs5.val,ks5.val] E NX E E (An 0 E) ?_)))))))
  refine SL.heap ?_ (fun _ hw=>F9 (A:=[AK b4 (.cells #[Z t.kids[i].cx,Z t.kids[i].cy,vI t.kids[i].lev,rs5.val,ks5.val] 167),AK b3 (.cells #[vI 2,Z t.cx,Z t.cy,vI t.lev,zN,vk,Z 0,vS []] 238),AC 188 2 vk B3 ks,AK b2 (.cells #[Z 0,vS []] 188),AK b0 (.cells #[vP bp 0] 191)]) (B:=Ln bp (.func (.func fid) #[] cs) vo1 p1::AC 190 3 vo1 AT p1.out::C ca1 q1) (R:=H) hw)
  have hcon:=RX (bp:=bp) hcal hwh f (ca:=ca1) (K:=K) (w0:=w0) (H:=([AK b4 (.cells #[Z t.kids[i].cx,Z t.kids[i].cy,vI t.kids[i].lev,rs5.val,ks5.val] 167),AK b3 (.cells #[vI 2,Z t.cx,Z t.cy,vI t.lev,.slice none 0 0,vk,Z 0,vS []] 238),AC 188 2 vk B3 ks,AK b2 (.cells #[Z 0,vS []] 188),AK b0 (.cells #[vP bp 0] 191)]++H)++[BZ D]) (vo:=vo1) hS hy hN5
  generalize hpo:(fun(u:Value) (M:List AZ)=>u=.agg (B3 y.1).toArray∧∃vo' ca',M=Ln bp (.func (.func fid) #[] cs) vo' y.2.1::AC 190 3 vo' AT y.2.1.out::C ca' y.2.2)=po at hcon
  refine Bo (vs:=[_,_]) (Hin:=Ln bp (.func (.func fid) #[] cs) vo1 p1::AC 190 3 vo1 AT p1.out::C ca1 q1) (Hr:=[AK b4 (.cells #[Z t.kids[i].cx,Z t.kids[i].cy,vI t.kids[i].lev,rs5.val,ks5.val] 167),AK b3 (.cells #[vI 2,Z t.cx,Z t.cy,vI t.lev,zN,vk,Z 0,vS []] 238),AC 188 2 vk B3 ks,AK b2 (.cells #[Z 0,vS []] 188),AK b0 (.cells #[vP bp 0] 191)]++H) E E ⟨E,E,zT⟩ lJ E E hcon ?_
  intro u0 M0 hpost
  rw[←hpo]at hpost
  obtain⟨rfl,vo2,ca2,rfl⟩:=hpost
  refine⟨EP.mid (A:=[AK b4 (.cells #[Z t.kids[i].cx,Z t.kids[i].cy,vI t.kids[i].lev,rs5.val,ks5.val] 167),AK b3 (.cells #[vI 2,Z t.cx,Z t.cy,vI t.lev,zN,vk,Z 0,vS []] 238),AC 188 2 vk B3 ks,AK b2 (.cells #[Z 0,vS []] 188),AK b0 (.cells #[vP bp 0] 191)]) ⟨⟨0,rfl⟩,⟨1,rfl⟩,⟨4,rfl⟩,trivial⟩,?_⟩
  refine SL.heap ?_ (fun _ hw=>F9 (A:=Ln bp (.func (.func fid) #[] cs) vo2 y.2.1::AC 190 3 vo2 AT y.2.1.out::C ca2 y.2.2) (B:=[AK b4 (.cells #[Z t.kids[i].cx,Z t.kids[i].cy,vI t.kids[i].lev,rs5.val,ks5.val] 167),AK b3 (.cells #[vI 2,Z t.cx,Z t.cy,vI t.lev,zN,vk,Z 0,vS []] 238),AC 188 2 vk B3 ks,AK b2 (.cells #[Z 0,vS []] 188),AK b0 (.cells #[vP bp 0] 191)]) (R:=H) hw)
  refine CE [_] rfl I7 EZ FC ⟨rfl,trivial⟩ rfl rfl rfl zW rfl rfl (fun _=>⟨⟨1,rfl⟩,⟨2,rfl⟩,⟨5,rfl⟩,trivial⟩) fun b6=>?_
  refine CJ B3 2 ([y.1]:List Bb) E zV E ?_
  refine Cr 3 hac (sz:=2) (enc:=B3) zV E I7 EZ qY FC E zD E E E E (CM (sz:=2) (enc:=B3) 0 zV E) (by simp[B3,Value.oneCell']) (fun _=>⟨⟨1,E⟩,⟨2,E⟩,⟨5,E⟩,zT⟩) fun v6=>?_
  refine AF E Ft (Bk ?_)
  refine Cu 3 E fun hv6 ho6=>?_
  refine Du 2 E E E E sD hv6 ho6 E zT (Aa (Ay (AI (AS (AA E (Bj zO zO) (J E (Aa ?_)))))))
  exact A1 (i+1,ac,v6,y.2.1,y.2.2,vo2,ca2) ⟨hlt,h2⟩ (by dsimp only;omega) tL (BX [2,3,4,5] 6 E E E)
  have hge:i=t.kids.length:=by
   have:=of_decide_eq_false hc2
   omega
  subst hge
  rw[List.drop_length,LC]at h
  replace h:J2 n wh ⟨2,t.cx,t.cy,t.lev,[],ks,0,[]⟩ p1 q1=some r:=h
  refine A4 (A9 (Bi (BA (AI (SX.pick [1,0,2,3] 4 (Y (AG 3 bg E (Aw [vI 2,Z t.cx,Z t.cy,vI t.lev,zN,vk,Z 0,vS []] E XW E E (An 1 E) ?_))))))))
  refine SL.heap ?_ (fun _ hw=>eQ (A:=[AK b3 (.cells #[vI 2,Z t.cx,Z t.cy,vI t.lev,zN,vk,Z 0,vS []] 238),AK b2 (.cells #[Z 0,vS []] 188),AK b0 (.cells #[vP bp 0] 191)]) (B:=(Ln bp (.func (.func fid) #[] cs) vo1 p1::AC 190 3 vo1 AT p1.out::C ca1 q1)) (R:=H) hw)
  have hcon:=Cl (K:=K) (w0:=w0) (H:=([AK b3 (.cells #[vI 2,Z t.cx,Z t.cy,vI t.lev,.slice none 0 0,vk,Z 0,vS []] 238),AK b2 (.cells #[Z 0,vS []] 188),AK b0 (.cells #[vP bp 0] 191)]++H)++[BZ D]) (f:=130) (B:=[AC 188 2 vk B3 ks]) (Hin:=(Ln bp (.func (.func fid) #[] cs) vo1 p1::AC 190 3 vo1 AT p1.out::C ca1 q1)) fun K' w1 hkk hB=>RY (bp:=bp) (a:=ca1) (vo:=vo1) (v4:=.slice none 0 0) (v5:=vk) hcal hwh (hS.keeps hkk) h (XU zV) (CY (e:=188) (v:=vk) zV (hB _ zS))
  refine Bo (vs:=[_,_]) (Hin:=AC 188 2 vk B3 ks::(Ln bp (.func (.func fid) #[] cs) vo1 p1::AC 190 3 vo1 AT p1.out::C ca1 q1)) (Hr:=[AK b3 (.cells #[vI 2,Z t.cx,Z t.cy,vI t.lev,zN,vk,Z 0,vS []] 238),AK b2 (.cells #[Z 0,vS []] 188),AK b0 (.cells #[vP bp 0] 191)]++H) E E ⟨E,E,zT⟩ gk E E hcon ?_
  rintro _ _ ⟨_,rfl,rfl,vo2,ca2,rfl⟩
  refine⟨trivial,?_⟩
  refine SL.heap ?_ (fun _ hw=>F9 (A:=AC 188 2 vk B3 ks::Ln bp (.func (.func fid) #[] cs) vo2 r.2.1::AC 190 3 vo2 AT r.2.1.out::C ca2 r.2.2) (B:=[AK b3 (.cells #[vI 2,Z t.cx,Z t.cy,vI t.lev,zN,vk,Z 0,vS []] 238),AK b2 (.cells #[Z 0,vS []] 188),AK b0 (.cells #[vP bp 0] 191)]) (R:=H) hw)
  refine A7 1 E E E E EZ E E E zT (V (AL (Ac (EO ?_))))
  exact Al (Id E (CC 1 (B3 r.1) C6 E E E E)) (Ak (M:=Ln bp (.func (.func fid) #[] cs) vo2 r.2.1::AC 190 3 vo2 AT r.2.1.out::C ca2 r.2.2) ⟨E,vo2,ca2,E⟩ fun _ hw=>Bc.pick (H:=[_,_,_,_]) hw [] 4 E)
  refine AJ (AI (Y ?_))
  refine Ar E FC zU fun b3=>?_
  refine V (AH (Kl (AI (AH (Y (AF E Se (AG 2 FY E (BY 0 nt (j6 hr.one) E ?_))))))))
  rintro _ _ ⟨bx,rfl,rfl⟩
  refine V (AQ ?_)
  have h0:Oj n wh (((Ow rv.val t.rows).reverse).map (·.2)) ⟨0,[]⟩ p q=some r:=by
   rw[List.map_reverse,cj hr];exact h
  refine SX.heap (MU (enc:=JA) (Ow rv.val t.rows).reverse (G0:=(AK b3 (.cells #[Z 0,vS []] 188)::AK b2 (.cells #[Z 0,vS []] 188)::AK b0 (.cells #[vP bp 0] 191)::Ln bp (.func (.func fid) #[] cs) vo p::AC 190 3 vo AT p.out::(C ca q++H))) (fun pre G=>∃(x:Bb) (p1:LI) (q1:σ) (vo1 ca1:Value),(∀suf,(Ow rv.val t.rows).reverse=pre++suf→Oj n wh (suf.map (·.2)) x p1 q1=some r)∧G=(AK b3 (.cells #[Z x.page,vS x.tag] 188)::AK b2 (.cells #[Z 0,vS []] 188)::AK b0 (.cells #[vP bp 0] 191)::Ln bp (.func (.func fid) #[] cs) vo1 p1::AC 190 3 vo1 AT p1.out::(C ca1 q1++H))) (fun c G=>c=.exit 2∧∃vo1 ca1:Value,G=(AK b3 (.cells #[Z r.1.page,vS r.1.tag] 188)::AK b2 (.cells #[Z 0,vS []] 188)::AK b0 (.cells #[vP bp 0] 191)::Ln bp (.func (.func fid) #[] cs) vo1 r.2.1::AC 190 3 vo1 AT r.2.1.out::(C ca1 r.2.2++H))) E oF E zV (jk hrl hr) E ⟨⟨0,[]⟩,p,q,vo,ca,fun suf e=>by rw[←show(Ow rv.val t.rows).reverse=suf from e];exact h0,E⟩ (fun pre x suf G hxs hJ lr lp Rest=>?_) (fun G D hJ=>?_) (fun c G D hX=>?_)) (BX [0,1,2,4,5,6] 7 E E E)
  obtain⟨w,p1,q1,vo1,ca1,h,rfl⟩:=hJ
  have h1:=h (x::suf) hxs
  rw[List.map_cons,Oj]at h1
  obtain⟨y,hy,h1⟩:=D6 h1
  have hx:CG K w0 AX 4 x.1.val x.2:=kc hr x (List.mem_reverse.1 (by rw[hxs];simp))
  refine AS (U E (Aa ?_))
  refine Kk (G:=AK b3 (.cells #[Z w.page,vS w.tag] 188)::AK b2 (.cells #[Z 0,vS []] 188)::AK b0 (.cells #[vP bp 0] 191)::Ln bp (.func (.func fid) #[] cs) vo1 p1::AC 190 3 vo1 AT p1.out::(C ca1 q1++H)) ?_
  refine AQ (Y (AG 2 bg E (J E (Aw (B3 w) E C6 E E (An 0 E) (Bt [_,_,_] E fg ff cL ⟨E,E,E,zT⟩ E ?_)))))
  refine SL.heap ?_ (fun _ hw=>F9 (A:=[AK b3 (.cells #[Z w.page,vS w.tag] 188),AK b2 (.cells #[Z 0,vS []] 188),AK b0 (.cells #[vP bp 0] 191)]) (B:=(Ln bp (.func (.func fid) #[] cs) vo1 p1::AC 190 3 vo1 AT p1.out::C ca1 q1)) (R:=(H++Tl lr lp Rest .busy)) (by simp only[List.append_assoc,List.cons_append,List.nil_append]at hw ⊢;exact hw))
  have hcon:=RY (K:=K) (w0:=w0) (H:=([AK b3 (.cells #[Z w.page,vS w.tag] 188),AK b2 (.cells #[Z 0,vS []] 188),AK b0 (.cells #[vP bp 0] 191)]++(H++Tl lr lp Rest .busy))++[BZ []]) (bp:=bp) (a:=ca1) (vo:=vo1) (v4:=x.1.val) (v5:=.slice none 0 0) hcal hwh hS hy hx (XU zV)
  refine Bo (vs:=[_,_]) (Hin:=(Ln bp (.func (.func fid) #[] cs) vo1 p1::AC 190 3 vo1 AT p1.out::C ca1 q1)) (Hr:=[AK b3 (.cells #[Z w.page,vS w.tag] 188),AK b2 (.cells #[Z 0,vS []] 188),AK b0 (.cells #[vP bp 0] 191)]++(H++Tl lr lp Rest .busy)) E E ⟨E,E,zT⟩ gk E E hcon ?_
  rintro _ _ ⟨rfl,vo2,ca2,rfl⟩
  refine⟨trivial,?_⟩
  refine SL.heap ?_ (fun _ hw=>F9 (A:=(Ln bp (.func (.func fid) #[] cs) vo2 y.2.1::AC 190 3 vo2 AT y.2.1.out::C ca2 y.2.2)) (B:=[AK b3 (.cells #[Z w.page,vS w.tag] 188),AK b2 (.cells #[Z 0,vS []] 188),AK b0 (.cells #[vP bp 0] 191)]) (R:=(H++Tl lr lp Rest .busy)) hw)
  refine A7 0 E E E E EZ E E E zT (N0 0 (AK b3 (.cells #[Z y.1.page,vS y.1.tag] 188)) (V (Y (AG 2 bg E (AU E E (AF E Sf (AG 3 Qe E (AA E BG (V ?_)))))))))
  have hheap:∀w1:World,Bc K w0 ((AK b3 (.cells #[Z y.1.page,vS y.1.tag] 188)::AK b2 (.cells #[Z 0,vS []] 188)::AK b0 (.cells #[vP bp 0] 191)::((Ln bp (.func (.func fid) #[] cs) vo2 y.2.1::AC 190 3 vo2 AT y.2.1.out::C ca2 y.2.2)++(H++Tl lr lp Rest .busy)))) w1→Bc K w0 ((AK b3 (.cells #[Z y.1.page,vS y.1.tag] 188)::AK b2 (.cells #[Z 0,vS []] 188)::AK b0 (.cells #[vP bp 0] 191)::Ln bp (.func (.func fid) #[] cs) vo2 y.2.1::AC 190 3 vo2 AT y.2.1.out::(C ca2 y.2.2++H))++Tl lr lp Rest .busy) w1:=by
   intro w1 hw
   simp only[List.append_assoc,List.cons_append]at hw ⊢
   exact hw
  refine AP h1 E (fun hc3 h1=>?_) fun hc3 h1=>?_
  obtain rfl:=zI h1
  refine A4 (HR ?_)
  exact N1 ⟨E,vo2,ca2,E⟩ hheap
  refine AJ (Ay ?_)
  exact IA ⟨y.1,y.2.1,y.2.2,vo2,ca2,fun suf' e=>by rw[XG hxs e];exact h1,E⟩ hheap
  obtain⟨x,p1,q1,vo1,ca1,h,rfl⟩:=hJ
  replace h:=h [] (List.append_nil _).symm
  obtain rfl:(x,(p1,q1))=r:=zI h
  refine Ay (AI (Y (Aw (B3 x) E C6 E E (An 0 E) (A7 1 E E E E EZ E E E zT (V (AL (EO ?_)))))))
  exact Al (Id E (CC 1 (B3 x) C6 E E E E)) (Ak (M:=_::_::C ca1 q1) ⟨E,vo1,ca1,E⟩ fun _ hw=>Bc.pick (H:=[_,_,_]) hw [] 3 E)
  obtain⟨rfl,vo1,ca1,rfl⟩:=hX
  refine A4 (BA (AI (Y (Aw (B3 r.1) E C6 E E (An 0 E) (A7 1 E E E E EZ E E E zT (V (AL (EO ?_))))))))
  exact Al (Id E (CC 1 (B3 r.1) C6 E E E E)) (Ak (M:=_::_::C ca1 r.2.2) ⟨E,vo1,ca1,E⟩ fun _ hw=>Bc.pick (H:=[_,_,_]) hw [] 3 E)
end

section
variable {K:Nat→Prop}{w0:World}{H:List AZ}
def lM(a:Int×BT):List Value:=[vI a.1,.agg (AT a.2).toArray]
theorem mI{bx:Nat}{va:Value}{xs:List BT}{G0:List AZ}(hn:xs.length≤1048576)(hs:CG K w0 AT 3 va xs):
  OD Tryz.prog K w0 127 [vP bx 0] [AK bx (.cells #[va] 88)] G0 lM (E3 xs):=by
 intro lp J9 X T rc hy h0
 refine T6.enter Tryz.func127 rfl rfl ?_
 show SX _ _ _ _ _ _ _ _ _ (AK bx (.cells #[va] 88)::((rc::G0)++T))
 refine Y (AG 0 Qf E (CF hs E Kf E (AA E (D0 zO zO) (U E (V (AQ ?_))))))
 refine SX.mono (BU (α:=Nat×List AZ) (fun x=>x.1≤xs.length∧J9 ((E3 xs).take x.1) x.2) (fun x=>[(0,vY lp),(1,vP bx 0),(3,vI ((xs.length:Int)-1-(x.1:Int)))])
  (fun x=>AK bx (.cells #[va] 88)::(x.2++T)) (fun x=>xs.length-x.1) (fun x D hp=>?_) (0,rc::G0) ⟨Nat.zero_le _,h0⟩) (by simpa using tL)
 obtain⟨k,G⟩:=x
 obtain⟨hk,hJ⟩:=hp
 dsimp only at hk hJ ⊢
 refine AH (Y (J E (AA E LU (V ?_))))
 refine A0 E (fun hc1=>?_) (fun hc1=>?_)
 have hlt:k<xs.length:=by
  have:=of_decide_eq_true hc1
  omega
 clear hc1
 have hb:k<(E3 xs).length:=by rw[JS];exact hlt
 have hget:=Xa xs k hlt
 have hx:BN xs ((xs.length:Int)-1-(k:Int))=some (xs[xs.length-1-k]' zO):=by
  rw[BN,if_pos zO,show((xs.length:Int)-1-(k:Int)).toNat=xs.length-1-k by omega]
  exact List.getElem?_eq_getElem _
 refine AJ (AI (AH (AQ (Y (J E (J E (AG 0 Qf E (J E ?_))))))))
 refine DF hx hs E Kf Ke E E fun be1 of1 hc1=>?_
 refine Aw (AT _) E R5 E E (Da hc1) ?_
 refine HQ (M2:=[_]) (G:=G) (T:=T) (vs:=[_,_]) (ok:=fun G1=>J9 ((E3 xs).take (k+1)) G1) (no:=X) E E ⟨E,E,zT⟩ E ?_ (fun bb G1 hG1=>⟨zT,?_⟩)
 intro M
 have:=hy ((E3 xs).take k) ((E3 xs)[k]) ((E3 xs).drop (k+1)) (Zn _ k hb) G hJ M
 rw[Yk _ k hb,hget]at this
 rw[show((xs.length:Int)-1-(k:Int))=((xs.length-1-k:Nat):Int) by omega]
 exact this
 refine CW E E (V ?_)
 refine A0 E (fun hc3=>?_) (fun hc3=>?_)
 obtain rfl:bb=false:=by simpa using hc3
 refine AL (BC (Ac (Ea (BC ?_))))
 exact Al (Dh E) (Ak (M:=G1) (.inr hG1) fun _ h=>h.skip [_])
 obtain rfl:bb=true:=by simpa using hc3
 refine AJ (Ay (AI (AS (J E (AA E (D0 zO zO) ?_)))))
 refine Aq (u:=vI ((xs.length:Int)-1-((k+1:Nat):Int))) E E (congrArg vI zO) ?_
 refine Aa ?_
 exact A1 (k+1,G1) ⟨hlt,hG1⟩ (by dsimp only;omega) tL (BX [0] 1 E E E)
 have hge:k=xs.length:=by
  have:=of_decide_eq_false hc1
  omega
 subst hge
 rw[List.take_of_length_le (by rw[JS];exact Nat.le_refl _)]at hJ
 refine A4 (A9 (Bi (BA ?_)))
 exact C9 (Dh E) (Ak (M:=G) (.inl hJ) fun _ h=>h.skip [_])
theorem mn{va:Value}(hva:va.cells=#[va]):zC K w0 91 [va] [] H (fun u M=>∃bx:Nat,u=.func (.func 127) #[] #[vP bx 0]∧M=[AK bx (.cells #[va] 88)]):=by
 refine T6.enter Tryz.func91 rfl rfl ?_
 refine Y ?_
 refine Ba E E zU fun b1=>?_
 rw[hva]
 refine U E (V (Y ?_))
 refine G3 (fv:=#[]) (cv:=#[_]) E E E ?_
 refine U E (V (AL ?_))
 exact Bp [0] 1 (Cn E E) E E ⟨_,E,E⟩
end

section
variable {K:Nat→Prop}{w0:World}{H:List AZ}
end

section
variable {K:Nat→Prop}{w0:World}{H:List AZ}
end

section
end

section
variable {K:Nat→Prop}{w0:World}{H:List AZ}
end

section
variable {K:Nat→Prop}{w0:World}{H:List AZ}
abbrev NL:={s:List UInt8 // s.length≤1048576}
def WY(s:List UInt8):Option NL:=if h:s.length≤1048576 then some ⟨s,h⟩else none
theorem YN{s:List UInt8}{k:NL}(h:WY s=some k):k.1=s:=by
 unfold WY at h
 split at h
 rw[←zI h]
 cases h
def P5(k:NL):Value:=vS k.1
theorem d7{P:Program}{k:TypeId}(hk:P.underlying k=some .string)(a:NL):∃l,keyOf P k (P5 a)=some l:=by
 refine⟨.string a.1,?_⟩
 have:=a.2
 simp[keyOf,hk,mapKey,vS,P5]
 show a.1.length≤maxLen
 simp[maxLen]
 omega
def SY(r:Bb):Value:=.agg (B3 r).toArray
theorem Ug{P:Program}{k:TypeId}(hk:P.underlying k=some .string):NM P k P5 SY:=
 ⟨Maps.string_keyed hk,d7 hk,⟨fun v=>match v with | .string b=>WY b.data.toList | _=>none,fun x=>by
  show WY x.1=some x
  unfold WY
  rw[dif_pos x.2]⟩,⟨fun v=>match v with | .agg a=>(match a.toList with | [.int _ p,.string b]=>some ⟨UInt32.ofNat p.toNat,b.data.toList⟩ | _=>none) | _=>none,fun x=>by
  cases x
  simp[SY,B3,Z,vS]⟩⟩
structure OS where
 b:Nat
 rv:Value
 mt:Nat
 d:Nat
 bv:Value
 mp:Nat
 mb:Nat
abbrev Kg(B:OS)(v:A5)(d:Ao):List AZ:=
 [AK B.b (.cells #[vP B.d 0,B.rv,Z v.gen,Z v.boot,AV v.seals,.map (some B.mt)] 181),AC 114 2 B.rv AY v.ring,Ab B.mt Z vB v.taken,AK B.d (.cells #[vB d.off,vB d.isCut,vI d.lasts,vI d.counts,B.bv,.map (some B.mp),.map (some B.mb),AV d.rcnt,vS d.rtag,Z d.rboots] 100),AC 9 1 B.bv eS d.blocks,Ab B.mp Z vS d.pend,Ab B.mb Z vB d.bad]
structure Yt where
 tk:List UInt32
 v:A5
 d:Ao
abbrev T4(bt bm bv bk:Nat)(B:OS)(th:List (NL×Bb))(a:Value)(q:Yt):List AZ:=
 AK bt (.cells #[.map (some bm)] 183)::Ab bm P5 SY th::AK bv (.cells #[vP B.b 0] 92)::AK bk (.cells #[a] 120)::AC 33 1 a BW q.tk::Kg B q.v q.d
def Sr(T:List UInt32)(th:List (NL×Bb)):Wo Yt:=fun q s=>
 (WY s).bind fun k=>cond (C0 th k).isSome (some (((C0 th k).getD ⟨0,[]⟩,0),q))
  ((GT T q.v q.d s).bind fun y=>cond (decide (y.2.1=0)) ((DO 4 q.tk [y.1.page]).bind fun l=>some ((y.1,y.2.1),⟨l,y.2.2.1,y.2.2.2⟩)) (some ((y.1,y.2.1),⟨q.tk,y.2.2.1,y.2.2.2⟩)))
theorem kq{T:List UInt32}{bt bm bv bk:Nat}{B:OS}{th:List (NL×Bb)}:eV T 92 #[vP bt 0,vP bv 0,vP bk 0] (T4 bt bm bv bk B th) (Sr T th):=by
 intro K w0 H a q s r hS h
 unfold Sr at h
 refine AE h fun k hk h=>?_
 have hks:=YN hk
 refine T6.enter Tryz.func92 rfl rfl ?_
 show SX _ _ _ _ _ _ _ _ _ (T4 bt bm bv bk B th a q++H)
 refine Y ?_
 refine Ar E FC zU fun b0=>?_
 refine U E (V (AH (Y (AG 1 mS E (J E ?_)))))
 refine ZF (zv:=(⟨0,[]⟩:Bb)) 2 (Ug Ce) E mf FC E (by rw[←hks];rfl) E ?_
 refine J E (Af E E E (Af E E E ?_))
 refine Ar E FC zU fun b1=>?_
 refine A7 0 E E E E EZ E E E zT (N0 0 (AK b1 (.cells #[Z ((C0 th k).getD ⟨0,[]⟩).page,vS ((C0 th k).getD ⟨0,[]⟩).tag] 188)) (U E (V (Y (J E (V ?_))))))
 refine AP h E (fun hc1 h=>?_) fun hc1 h=>?_
 obtain rfl:=zI h
 refine Y (Aw (B3 ((C0 th k).getD ⟨0,[]⟩)) E C6 E E (An 0 E) (A7 1 E E E E EZ E E E zT (U E (V (AL (Ac ?_))))))
 exact Al (Dz E (CC 1 (B3 ((C0 th k).getD ⟨0,[]⟩)) C6 E E E E) E) (Ak (M:=T4 bt bm bv bk B th a q) ⟨E,a,E⟩ fun _ hw=>Bc.pick (H:=[_,_]) hw [] 2 E)
 refine AE h fun y hy h=>?_
 refine AJ (AI (Y (AG 4 Su E (J E ?_))))
 refine SL.heap (H':=Kg B q.v q.d++([_,_,_,_,_,_,_]++H)) ?_ (fun _ hw=>F9 (A:=[_,_,_,_,_,_,_]) (B:=Kg B q.v q.d) (R:=H) hw)
 have hcon:=dC (K:=K) (w0:=w0) (H:=([AK b1 (.cells #[Z ((C0 th k).getD ⟨0,[]⟩).page,vS ((C0 th k).getD ⟨0,[]⟩).tag] 188),AK b0 (.cells #[Z 0,vS []] 188),AK bt (.cells #[.map (some bm)] 183),Ab bm P5 SY th,AK bv (.cells #[vP B.b 0] 92),AK bk (.cells #[a] 120),AC 33 1 a BW q.tk]++H)++[BZ []]) (Ap:=B.b) (Ad:=B.rv) (BE:=B.mt) (BO:=B.d) (B8:=B.bv) (B6:=B.mp) (B7:=B.mb) hy hS
 refine Bo (vs:=[_,_]) (Hin:=Kg B q.v q.d) (Hr:=[_,_,_,_,_,_,_]++H) E E ⟨E,E,zT⟩ rK E E hcon ?_
 rintro _ _ ⟨rfl,rfl⟩
 refine⟨trivial,?_⟩
 refine SL.heap (H':=[_,_,_,_,_,_,_]++(Kg B y.2.2.1 y.2.2.2++H)) ?_ (fun _ hw=>F9 (A:=Kg B y.2.2.1 y.2.2.2) (B:=[_,_,_,_,_,_,_]) (R:=H) hw)
 refine J E (Af E E E (Af E E E ?_))
 refine Ar E FC zU fun b2=>?_
 refine A7 0 E E E E EZ E E E zT (N0 0 (AK b2 (.cells #[Z y.1.page,vS y.1.tag] 188)) (U E (V ?_)))
 refine BB (α:=List UInt32×Value) (fun w=>some ((y.1,y.2.1),(⟨w.1,y.2.2.1,y.2.2.2⟩:Yt))=some r) (fun w=>[(9,vP b2 0),(10,vI y.2.1),(5,vP b0 0)])
  (fun w=>AK b2 (.cells #[Z y.1.page,vS y.1.tag] 188)::AK b0 (.cells #[Z 0,vS []] 188)::(T4 bt bm bv bk B th w.2 ⟨w.1,y.2.2.1,y.2.2.2⟩++H)) ?_ (fun w D h=>?_)
 refine Y (J E (AA E BS (V ?_)))
 refine AP h E (fun hc2 h=>?_) fun hc2 h=>?_
 refine AE h fun l hl h=>?_
 refine AS (AG 6 f9 E (AF E FW (AG 0 A6 E ?_)))
 refine CE [_] rfl CR Bq H4 ⟨rfl,trivial⟩ rfl rfl rfl zW rfl rfl zU fun b3=>?_
 refine CJ BW 1 ([y.1.page]:List UInt32) E zV E ?_
 refine Cr 8 hl (sz:=1) (enc:=BW) zV E CR Bq QP H4 E zD E E E E (CM (sz:=1) (enc:=BW) 0 zV E) (by simp[BW,Value.oneCell']) zU fun v3=>?_
 refine Cu 8 E fun hv3 ho3=>?_
 refine Du 7 E E E E gE hv3 ho3 E zT (Aa ?_)
 exact Az (l,v3) h tL (BX [1,3,4,5,6,7,8] 9 E E E)
 refine AJ ?_
 exact Az (q.tk,a) h tL (BX [0,2,3,4,5,6,7] 8 E E E)
 obtain⟨l,v3⟩:=w
 obtain rfl:=zI h
 dsimp only
 refine Y (Aw (B3 y.1) E C6 E E (An 0 E) (J E (A7 1 E E E E EZ E E E zT (U E (V (AL ?_))))))
 exact Al (Dz E (CC 1 (B3 y.1) C6 E E E E) E) (Ak (M:=T4 bt bm bv bk B th v3 ⟨l,y.2.2.1,y.2.2.2⟩) ⟨E,v3,E⟩ fun _ hw=>Bc.pick (H:=[_,_]) hw [] 2 E)
end

section
variable {K:Nat→Prop}{w0:World}{H:List AZ}
def RS:List (Int×BT)→List (NL×Bb)→Option (List (NL×Bb))
 | [],m=>some m
 | s::l,m=>(WY s.2.txt).bind fun k=>(ND m k ⟨s.2.page,s.2.tag⟩).bind fun m'=>RS l m'
def Sh:List UInt32→A5→Ao→Option A5
 | [],v,_=>some v
 | x::l,v,d=>(KR v d x).bind fun y=>Sh l y.2 d
def bc(y:Bb×(LI×Yt)):Option (List BT×Int×A5×Ao):=
 cond (!decide (y.2.1.wrong=0)) (if 1048576<y.2.2.tk.length then none else(Sh y.2.2.tk y.2.2.v y.2.2.d).bind fun v'=>some ([],y.2.1.wrong,v',y.2.2.d)) (some (y.2.1.out,0,y.2.2.v,y.2.2.d))
def Ss(n:Nat)(T:List UInt32)(p0:A5)(p0_1:Ao)(p1:List As)(p2:List BT):Option (List BT×Int×A5×Ao):=
 (TG n p1).bind fun b=>cond (!decide (b.2=0)) (some ([],b.2,p0,p0_1))
  (if 1048576<p2.length then none else(RS (E3 p2) []).bind fun th=>(H8 n (Sr T th) n b.1 ⟨[],0⟩ ⟨[],p0,p0_1⟩).bind bc)
theorem ir{n Ap BE BO B6 B7:Nat}{T:List UInt32}{Ad B8 Em GK:Value}{p0:A5}{p0_1:Ao}{p1:List As}{p2:List BT}{r:List BT×Int×A5×Ao}(h:Ss n T p0 p0_1 p1 p2=some r)(hS:GQ K w0 T)(hs1_:CG K w0 AX 4 Em p1)(hs2_:CG K w0 AT 3 GK p2):
  zC K w0 66 [vP Ap 0,Em,GK] (Kg ⟨Ap,Ad,BE,BO,B8,B6,B7⟩ p0 p0_1) H (fun u M=>∃v0:Value,u=.tuple #[v0,vI r.2.1]∧M=AC 190 3 v0 AT r.1::Kg ⟨Ap,Ad,BE,BO,B8,B6,B7⟩ r.2.2.1 r.2.2.2):=by
 unfold Ss at h
 refine AE h fun b hb h=>?_
 refine T6.enter Tryz.func66 rfl rfl ?_
 show SX _ _ _ _ _ _ _ _ _ (Kg ⟨Ap,Ad,BE,BO,B8,B6,B7⟩ p0 p0_1++H)
 refine Y ?_
 refine Ba E E zU fun b0=>?_
 refine U E (U E (V (AH (Y (AG 0 Su E (D8 E io E E (V (Cz E (AJ (AI (Y (J E ?_))))))))))))
 refine Bo (vs:=[_]) (Hin:=[]) (Hr:=_::(Kg ⟨Ap,Ad,BE,BO,B8,B6,B7⟩ p0 p0_1++H)) E E ⟨E,zT⟩ rH E E (mo hb hs1_) ?_
 rintro _ _ ⟨nv,L,rfl,hnz,rfl⟩
 refine⟨trivial,?_⟩
 refine J E (Af E E E (Af E E E ?_))
 refine Ar E Ih zU fun b1=>?_
 refine A7 0 E E E E Ie E (List.all_eq_true.2 (N8 nv)) E zT (N0 0 (AK b1 (.cells (Cs nv).toArray 167)) (U E (V (AH (Y (J E (AA E BG (V ?_))))))))
 refine AP h E (fun hc2 h=>?_) fun hc2 h=>?_
 obtain rfl:=zI h
 refine Y (J E (U E (U E (V (AL (Ac (Ou 190 3 AT ?_)))))))
 exact Al (ET E E E) (Ak (M:=_::Kg ⟨Ap,Ad,BE,BO,B8,B6,B7⟩ p0 p0_1) ⟨_,E,E⟩ fun _ hw=>Bc.pick (H:=[_,_,_,_]) hw [0] 4 E)
 split at h
 cases h
 rename_i hbig
 obtain⟨th,hth,h3⟩:=D6 h
 clear h
 obtain⟨y,hy,h⟩:=D6 h3
 clear h3
 refine AJ (AI (Y ?_))
 refine TA P5 SY E zU fun bm=>?_
 refine Ar E sW zU fun b2=>?_
 refine A7 0 E E E E sC E E E zT (N0 0 (AK b2 (.cells #[.map (some bm)] 183)) (V (AH (Y (J E ?_)))))
 refine Bo (vs:=[_]) (Hin:=[]) (Hr:=_::_::_::_::_::(Kg ⟨Ap,Ad,BE,BO,B8,B6,B7⟩ p0 p0_1++H)) E E ⟨E,zT⟩ rI E E (mn hs2_.one) ?_
 rintro _ _ ⟨bx,rfl,rfl⟩
 refine⟨trivial,?_⟩
 refine V (AQ ?_)
 refine MU (enc:=lM) (E3 p2) (G0:=(AK b2 (.cells #[.map (some bm)] 183)::Ab bm P5 SY []::AK b1 (.cells (Cs nv).toArray 167)::H5 L::AK b0 (.cells #[vP Ap 0] 92)::(Kg ⟨Ap,Ad,BE,BO,B8,B6,B7⟩ p0 p0_1++H))) (fun pre G=>∃m:List (NL×Bb),(∀suf,E3 p2=pre++suf→RS suf m=some th)∧G=(AK b2 (.cells #[.map (some bm)] 183)::Ab bm P5 SY m::AK b1 (.cells (Cs nv).toArray 167)::H5 L::AK b0 (.cells #[vP Ap 0] 92)::(Kg ⟨Ap,Ad,BE,BO,B8,B6,B7⟩ p0 p0_1++H))) (fun c G=>False) E nq E zV (mI zO hs2_) E ⟨[],fun suf e=>by rw[←show E3 p2=suf from e];exact hth,E⟩ (fun pre x suf G hxs hJ lr lp Rest=>?_) (fun G D hJ=>?_) (fun c G D hX=>hX.elim)
 obtain⟨m,hm,rfl⟩:=hJ
 have h1:=hm (x::suf) hxs
 rw[RS]at h1
 obtain⟨k,hk,h1⟩:=D6 h1
 obtain⟨m1,hm1,h1⟩:=D6 h1
 have hks:=YN hk
 refine AS ?_
 refine Ar E PX zU fun b3=>?_
 refine A7 0 E E E E Ke E E E zT (Aa ?_)
 refine Kk (G:=AK b3 (.cells #[vS x.2.txt,Z x.2.page,vS x.2.tag] 190)::(AK b2 (.cells #[.map (some bm)] 183)::Ab bm P5 SY m::AK b1 (.cells (Cs nv).toArray 167)::H5 L::AK b0 (.cells #[vP Ap 0] 92)::(Kg ⟨Ap,Ad,BE,BO,B8,B6,B7⟩ p0 p0_1++H))) ?_
 refine AQ (AS (AG 1 mS rfl (AF rfl lZ (AG 0 GP rfl (AF rfl KW (Aw [Z x.2.page,vS x.2.tag] rfl C6 rfl rfl (Ck 0 rfl (by rintro(_ | (_ | j)) u hj<;>first | exact hj | exact absurd hj zS)) ?_))))))
 refine QM (a:=(⟨x.2.page,x.2.tag⟩:Bb)) 2 hm1 (Ug Ce) E mf E (by rw[P5,hks];rfl) E E zT ?_
 refine Aa (Ay ?_)
 exact IA ⟨m1,fun suf' e=>by rw[XG hxs e];exact h1,E⟩ (BX [] 1 E E E)
 obtain⟨m,hm,rfl⟩:=hJ
 have h1:=hm [] (List.append_nil _).symm
 obtain rfl:m=th:=zI h1
 refine Ay (AI (Y ?_))
 refine Ar E sS zU fun b3=>?_
 refine N0 0 (AK b3 (.cells #[zN] 120)) (B5 33 1 BW (V (Y ?_)))
 refine G3 (fv:=#[]) (cv:=#[_,_,_]) E E E ?_
 refine Bt [_] E rn rX sX ⟨E,zT⟩ E ?_
 refine Ba E E zU fun b4=>?_
 refine B5 190 3 AT (U E (V ?_))
 have hcon:=Cl (K:=K) (w0:=w0) (H:=(AK b1 (.cells (Cs nv).toArray 167)::H)++[BZ D]) (f:=94) (B:=[H5 L]) (Hin:=Ln b4 (.func (.func 92) #[] #[vP b2 0,vP b0 0,vP b3 0]) (.slice none 0 0) ⟨[],0⟩::AC 190 3 (.slice none 0 0) AT []::T4 b2 bm b0 b3 (⟨Ap,Ad,BE,BO,B8,B6,B7⟩:OS) m (.slice none 0 0) ⟨[],p0,p0_1⟩) fun K' w1 hkk hB=>
  RX (C:=T4 b2 bm b0 b3 (⟨Ap,Ad,BE,BO,B8,B6,B7⟩:OS) m) (bp:=b4) (vo:=.slice none 0 0) (ca:=.slice none 0 0) (cs:=#[vP b2 0,vP b0 0,vP b3 0]) rJ kq n (hS.keeps hkk) hy (hnz.lent (hB _ zS))
 generalize hpo:(fun(u:Value) (M:List AZ)=>∃M',M=[H5 L]++M'∧(u=.agg (B3 y.1).toArray∧∃vo' ca',M'=Ln b4 (.func (.func 92) #[] #[vP b2 0,vP b0 0,vP b3 0]) vo' y.2.1::AC 190 3 vo' AT y.2.1.out::T4 b2 bm b0 b3 (⟨Ap,Ad,BE,BO,B8,B6,B7⟩:OS) m ca' y.2.2))=po at hcon
 refine Y (J E (Aw (Cs nv) E NX E E (An 6 E) ?_))
 refine SL.heap (H':=([H5 L]++(Ln b4 (.func (.func 92) #[] #[vP b2 0,vP b0 0,vP b3 0]) zN ⟨[],0⟩::AC 190 3 zN AT []::T4 b2 bm b0 b3 (⟨Ap,Ad,BE,BO,B8,B6,B7⟩:OS) m zN ⟨[],p0,p0_1⟩))++(AK b1 (.cells (Cs nv).toArray 167)::H)) ?_ (BX [7,1,0,4,5,8,3,2,9,10,11,12,13,14,15,6] 16 E E E)
 refine Bo (vs:=[_,_]) (Hin:=[H5 L]++(Ln b4 (.func (.func 92) #[] #[vP b2 0,vP b0 0,vP b3 0]) zN ⟨[],0⟩::AC 190 3 zN AT []::T4 b2 bm b0 b3 (⟨Ap,Ad,BE,BO,B8,B6,B7⟩:OS) m zN ⟨[],p0,p0_1⟩)) (Hr:=AK b1 (.cells (Cs nv).toArray 167)::H) E E ⟨E,E,zT⟩ lJ E E hcon ?_
 intro u0 M0 hpost
 rw[←hpo]at hpost
 obtain⟨_,rfl,rfl,vo,ca,rfl⟩:=hpost
 refine⟨trivial,?_⟩
 refine V ?_
 unfold bc at h
 refine AH (Y (J E (AU E E (AF E Sf (AG 1 Qe E (AA E BG (V ?_)))))))
 refine AP h E (fun hc3 h=>?_) fun hc3 h=>?_
 split at h
 cases h
 rename_i hbt
 refine AE h fun v' hv' h=>?_
 obtain rfl:=zI h
 refine AH (Y (AG 6 f9 E (Di 7 E CR E E (J E (V (AQ ?_))))))
 refine SX.heap (SX.mono (BU (α:=Nat×A5) (fun x=>x.1≤y.2.2.tk.length∧Sh (y.2.2.tk.drop x.1) x.2 y.2.2.d=some v') (fun x=>[(3,vP b0 0),(14,vP b4 0),(48,ca),(49,vI (y.2.2.tk.length:Int)),(50,vI (x.1:Int))])
  (fun x=>Ln b4 (.func (.func 92) #[] #[vP b2 0,vP b0 0,vP b3 0]) vo y.2.1::AK b0 (.cells #[vP Ap 0] 92)::AC 33 1 ca BW y.2.2.tk::(Kg (⟨Ap,Ad,BE,BO,B8,B6,B7⟩:OS) x.2 y.2.2.d++H))
  (fun x=>y.2.2.tk.length-x.1) (fun x D hp=>?_) (0,y.2.2.v) ⟨Nat.zero_le _,hv'⟩) tL) (BX [1,5,7,8,9,10,11,12,13,14] 16 rfl rfl rfl)
 obtain⟨i,v1⟩:=x
 obtain⟨hi,hg⟩:=hp
 dsimp only at hi hg ⊢
 refine Y (AA E BD (V (AH ?_)))
 refine A0 E (fun hc4=>?_) (fun hc4=>?_)
 have hlt:i<y.2.2.tk.length:=by
  have:=of_decide_eq_true hc4
  omega
 clear hc4
 have hnth:BN y.2.2.tk (i:Int)=some y.2.2.tk[i]:=by
  rw[BN,if_pos zO]
  exact List.getElem?_eq_getElem hlt
 rw[List.drop_eq_getElem_cons hlt,Sh]at hg
 refine AE hg fun z hz hg=>?_
 refine AJ (AI (AH (AQ (Y ?_))))
 refine CL 2 hnth E CR Bq E E E fun g1 m1 cp1 hv1=>?_
 refine B0 E A6 E (CD (sz:=1) (enc:=BW) 2 0 zV E hv1 hnth E) ?_
 refine U E (V (AS (AG 1 Su E (J E ?_))))
 refine SL.heap (H':=Kg (⟨Ap,Ad,BE,BO,B8,B6,B7⟩:OS) v1 y.2.2.d++([_,_,_]++H)) ?_ (fun _ hw=>F9 (A:=[_,_,_]) (B:=Kg (⟨Ap,Ad,BE,BO,B8,B6,B7⟩:OS) v1 y.2.2.d) (R:=H) hw)
 have hcon:=Xu (K:=K) (w0:=w0) (H:=([Ln b4 (.func (.func 92) #[] #[vP b2 0,vP b0 0,vP b3 0]) vo y.2.1,AK b0 (.cells #[vP Ap 0] 92),AC 33 1 ca BW y.2.2.tk]++H)++[BZ D]) (Ap:=Ap) (Ad:=Ad) (BE:=BE) (BO:=BO) (B8:=B8) (B6:=B6) (B7:=B7) hz
 refine Bo (vs:=[_,_]) (Hin:=Kg (⟨Ap,Ad,BE,BO,B8,B6,B7⟩:OS) v1 y.2.2.d) (Hr:=[_,_,_]++H) E E ⟨E,E,zT⟩ lK E E hcon ?_
 rintro _ _ ⟨rfl,rfl⟩
 refine⟨trivial,?_⟩
 refine SL.heap (H':=[_,_,_]++(Kg (⟨Ap,Ad,BE,BO,B8,B6,B7⟩:OS) z.2 y.2.2.d++H)) ?_ (fun _ hw=>F9 (A:=Kg (⟨Ap,Ad,BE,BO,B8,B6,B7⟩:OS) z.2 y.2.2.d) (B:=[_,_,_]) (R:=H) hw)
 refine Aa (Ay (AI (AS (AA E (Bj zO zO) (J E (Aa ?_))))))
 exact A1 (i+1,z.2) ⟨hlt,hg⟩ (by dsimp only;omega) tL (BX [0,1,2] 3 E E E)
 have hge:i=y.2.2.tk.length:=by
  have:=of_decide_eq_false hc4
  omega
 subst hge
 rw[List.drop_length,Sh]at hg
 obtain rfl:v1=v':=zI hg
 refine A4 (A9 (Bi (BA (AI (AH (A2 DE [0] (CK [(true,0),(true,1),(true,2),(true,3),(true,4),(true,5)] .nil) zK (J E (AU E E (AF E Sf (AG 0 Qe E (U E (U E (V (AL (Ac (Ou 190 3 AT ?_))))))))))))))))
 exact Al (ET E E E) (Ak (M:=_::Kg (⟨Ap,Ad,BE,BO,B8,B6,B7⟩:OS) v1 y.2.2.d) ⟨_,E,E⟩ fun _ hw=>Bc.pick (H:=[_,_,_,_]) hw [0] 4 E)
 obtain rfl:=zI h
 refine AJ (AI (Y (J E (AU E E (AF E YC (AG 1 Qf E (U E (U E (V (AL ?_))))))))))
 exact Al (ET E E E) (Ak (M:=AC 190 3 vo AT y.2.1.out::Kg (⟨Ap,Ad,BE,BO,B8,B6,B7⟩:OS) y.2.2.v y.2.2.d) ⟨_,E,E⟩ fun _ hw=>Bc.pick (H:=[_,_,_,_,_,_,_,_,_,_,_,_,_,_,_,_]) hw [2,8,9,10,11,12,13,14] 16 E)
end

section
structure tu where
 out:List BT
 rows:List As
 count:Int
end

section
variable {P:Program}{ro:Option Nat}{K:Nat→Prop}{w0:World}{N:Nat}{Q:DH}{D:List Nat}{l l':Tm}{H H' Hs L:List AZ}{ops:Array Oper}{items:Hq}
variable {tk:Bool}{o:Oper}{t:Nat}{v:Value}{x y z:Operand}
theorem ZJ{α:Type}{enc:α→List Value}{sz b off cap q:Nat}{xs:List α}(hl:∀x,(enc x).length=sz)(hcap:xs.length≤cap)(hc:∀j u,(xs.flatMap enc)[j]? = some u→K b∧w0.cell? ⟨b,off+j,none⟩=some u)(hq:q≤xs.length):CG K w0 enc sz (.slice (some ⟨b,off+q*sz,none⟩) (xs.length-q) (cap-q)) (xs.drop q):=by
 refine⟨hl,.inr ⟨b,off+q*sz,cap-q,by simp,by simp;omega,fun j u hu=>?_⟩⟩
 have hpre:(xs.take q).flatMap enc++(xs.drop q).flatMap enc=xs.flatMap enc:=by
  rw[←List.flatMap_append,List.take_append_drop]
 have hlen:((xs.take q).flatMap enc).length=q*sz:=by rw[I2 hl,List.length_take,Nat.min_eq_left hq]
 have:=hc (q*sz+j) u (by
  rw[←hpre,List.getElem?_append_right zO,hlen,Nat.add_sub_cancel_left]
  exact hu)
 rw[Nat.add_assoc]
 exact this
theorem cf{α:Type}{enc:α→List Value}{sz:Nat}{xs us:List α}{k:IntKind}{j:Int}{ty e:TypeId}(hn:LF xs j (xs.length:Int)=some us)(hk:CG K w0 enc sz v xs)(ho:At ops N l o t (.slice ty x (some z) none none))(hty:P.underlying ty=some (.slice e))(hsz:DC P e=some sz)(hx:Bn l x=some v)(hz:Bn l z=some (.int k j))
(h:∀v',CG K w0 enc sz v' us→SL P ro K w0 N ops Hs items Q D ((t,v')::l) H):SL P ro K w0 N ops Hs (.cons (tk,o) items) Q D l H:=by
 obtain⟨h1,h2,h3,h4,rfl⟩:=Nr hn
 have e2:(xs.drop j.toNat).take ((xs.length:Int).toNat-j.toNat)=xs.drop j.toNat:=List.take_of_length_le zS
 rw[e2]at h
 generalize j.toNat=q at*
 subst h1
 simp only[Int.toNat_natCast]at h3
 rcases hk.at_ with⟨a0,rfl,rfl⟩ | ⟨b,off,cap,rfl,hcap,hc⟩
 have hq:q=0:=by simpa using h3
 subst hq
 refine SL.val (v:=.slice a0 0 0) ho E (fun a w ha _=>?_) (h _ ⟨hk.len,.inl ⟨_,E,by simp⟩⟩)
 simp only[execOp,ho.op,Instr.sliceAt,Instr.slice,Option.map]
 cases a0<;>simp[ha.eval hx,ha.eval hz,Ax hty,Cd hsz,Instr.sliceBounds,Instr.sliceBound,asIntOf]
 by_cases hqc:q<cap
 exact XR q ho hty hsz hx hz E h3 hqc (h _ (ZJ hk.len hcap hc h3))
 have hqe:q=xs.length:=zO
 have hce:cap=xs.length:=zO
 subst hqe hce
 refine SL.val (v:=.slice (some ⟨b,off,none⟩) 0 0) ho E (fun a w ha _=>?_) (h _ ⟨hk.len,.inl ⟨_,E,by simp⟩⟩)
 simp only[execOp,ho.op,Instr.sliceAt,Instr.slice,Option.map]
 simp[ha.eval hx,ha.eval hz,Ax hty,Cd hsz,Instr.sliceBounds,Instr.sliceBound,asIntOf,Cg]
end

section
structure Ef where
 cnt:UInt64
 gen:UInt32
 rows:UInt32
 page:UInt32
 tag:List UInt8
deriving DecidableEq
def HW(r:Ef):List Value:=[AV r.cnt,Z r.gen,Z r.rows,Z r.page,vS r.tag]
structure Tb where
 kind:Int
 x0:UInt32
 y0:UInt32
 x1:UInt32
 y1:UInt32
 x:UInt32
 y:UInt32
 sq:UInt64
 k:Int
 after:UInt64
 isFrom:Bool
def U2(q:Tb):List Value:=[vI q.kind,Z q.x0,Z q.y0,Z q.x1,Z q.y1,Z q.x,Z q.y,AV q.sq,vI q.k,AV q.after,vB q.isFrom]
structure B2 where
 rows:List As
 pages:List BT
 gens:List (UInt32×UInt32)
 ring:List BV
 gen:UInt32
 bad:Bool
structure C2 where
 ops:List Ht
 isOpen:Bool
 closed:Bool
structure Fb where
 had:List BT
 out:List BT
 took:List UInt32
 err:Int
 must:List BT
structure Zt where
 ops:List Ht
 isOpen:Bool
 closed:Bool
structure Dy where
 rows:List As
 had:List BT
 gens:List UInt32
 bad:Bool
theorem Qj{P:Program}{k:TypeId}(hk:P.underlying k=some (.int .u32)):NM P k Z Z:=
 ⟨Maps.int_keyed hk,Vd hk,⟨fun v=>match v with | .int _ a=>some (UInt32.ofNat a.toNat) | _=>none,fun x=>by simp⟩,⟨fun v=>match v with | .int _ a=>some (UInt32.ofNat a.toNat) | _=>none,fun x=>by simp⟩⟩
def UH(s:BT):Value:=.agg (AT s).toArray
theorem Uh{P:Program}{k:TypeId}(hk:P.underlying k=some (.int .u32)):NM P k Z UH:=
 ⟨Maps.int_keyed hk,Vd hk,⟨fun v=>match v with | .int _ a=>some (UInt32.ofNat a.toNat) | _=>none,fun x=>by simp⟩,
  ⟨fun v=>match v with | .agg a=>(match a.toList with | [.string t,.int _ p,.string b]=>some ⟨t.data.toList,UInt32.ofNat p.toNat,b.data.toList⟩ | _=>none) | _=>none,fun x=>by
  cases x
  simp[UH,AT,Z,vS]⟩⟩
section
variable {P:Program}{ro:Option Nat}{K:Nat→Prop}{w0:World}{N:Nat}{Q:DH}{D:List Nat}{l l':Tm}{H H' Hs:List AZ}{ops:Array Oper}{items:Hq}
variable {tk:Bool}{o:Oper}{t:Nat}{v:Value}{x y z y1:Operand}
theorem kR{α:Type}{enc:α→List Value}{sz:Nat}{xs us:List α}{k k':IntKind}{j:Int}{ty e:TypeId}(hn:LF xs 0 j=some us)(hk:CG K w0 enc sz v xs)(ho:At ops N l o t (.slice ty x none (some z) (some y1)))(hty:P.underlying ty=some (.slice e))(hsz:DC P e=some sz)(hx:Bn l x=some v)(hz:Bn l z=some (.int k j))(hu:Bn l y1=some (.int k' j))
(h:∀v',CG K w0 enc sz v' us→SL P ro K w0 N ops Hs items Q D ((t,v')::l) H):SL P ro K w0 N ops Hs (.cons (tk,o) items) Q D l H:=by
 obtain⟨h1,h2,h3,h4,rfl⟩:=Nr hn
 have e2:(xs.drop (0:Int).toNat).take (j.toNat-(0:Int).toNat)=xs.take j.toNat:=by simp
 rw[e2]at h
 have hj:j=(j.toNat:Int):=zO
 generalize j.toNat=n at*
 subst hj
 have hn:n≤xs.length:=zO
 rcases hk.at_ with⟨a0,rfl,rfl⟩ | ⟨b,off,cap,rfl,hcap,hc⟩
 have hn0:n=0:=by simpa using hn
 subst hn0
 refine SL.val (v:=.slice a0 0 0) ho E (fun a w ha _=>?_) (h _ ⟨hk.len,.inl ⟨_,E,by simp⟩⟩)
 simp only[execOp,ho.op,Instr.sliceAt,Instr.slice,Option.map]
 cases a0<;>simp[ha.eval hx,ha.eval hz,ha.eval hu,Ax hty,Cd hsz,Instr.sliceBounds,Instr.sliceBound,asIntOf]
 have hle:n≤cap:=Nat.le_trans hn hcap
 refine SL.val (v:=.slice (some ⟨b,off,none⟩) n n) ho E (fun a w ha _=>?_) (h _ ⟨hk.len,.inr ⟨b,off,n,by simp[List.length_take,Nat.min_eq_left hn],by rw[List.length_take];exact Nat.min_le_left ..,?_⟩⟩)
 simp only[execOp,ho.op,Instr.sliceAt,Instr.slice,Option.map]
 simp[ha.eval hx,ha.eval hz,ha.eval hu,Ax hty,Cd hsz,Instr.sliceBounds,Instr.sliceBound,asIntOf,hle,Cg]
 intro j u hu
 refine hc j u ?_
 have hpre:(xs.take n).flatMap enc++(xs.drop n).flatMap enc=xs.flatMap enc:=by
  rw[←List.flatMap_append,List.take_append_drop]
 rw[←hpre,List.getElem?_append_left (List.getElem?_eq_some_iff.1 hu).1]
 exact hu
section
variable {κ α:Type}{ek:κ→Value}{ev:α→Value}{m:List (κ×α)}{b:Nat}{k:TypeId}
def Ci(v:Value)(ek:κ→Value)(ev:α→Value)(m:List (κ×α)):AZ:=
 ⟨fun b=>v=.map (some b),fun w=>(v=.map none∧m=[])∨∃b,v=.map (some b)∧(Ab b ek ev m).holds w,fun w w' h hw=>by
  rcases hw with hn | ⟨b,rfl,hb⟩
  exact .inl hn
  exact .inr ⟨b,rfl,(Ab b ek ev m).loc w w' (fun j hj=>h j (by rw[show j=b from hj])) hb⟩⟩
theorem Bc.nilM{w:World}(ek:κ→Value)(ev:α→Value)(h:Bc K w0 H w):Bc K w0 (Ci (.map none) ek ev []::H) w:=
 ⟨h.os,h.tape,h.output,h.size,h.klt,h.keep,fun c hc=>by
   rcases List.mem_cons.1 hc with rfl | hc
   exact .inl ⟨rfl,rfl⟩
   exact h.holds c hc,
  fun c hc b hb=>by
   rcases List.mem_cons.1 hc with rfl | hc
   cases hb
   exact h.foot c hc b hb,
  List.pairwise_cons.2 ⟨fun c _ b hb=>(by cases hb),h.disj⟩⟩
theorem kM(ek:κ→Value)(ev:α→Value)(h:SL P ro K w0 N ops Hs items Q D l (Ci (.map none) ek ev []::H)):SL P ro K w0 N ops Hs items Q D l H:=
 fun a w ha hw hs=>h a w ha (hw.nilM ek ev) hs
theorem nX(i:Nat)(hi:H[i]? = some (Ab b ek ev m))(h:SL P ro K w0 N ops Hs items Q D l (H.set i (Ci (.map (some b)) ek ev m)))(hs:EP Hs (H.set i (Ci (.map (some b)) ek ev m))):SL P ro K w0 N ops Hs items Q D l H:=by
 intro a w ha hw hs0
 refine h a w ha (Bc.turnAt i hw hi rfl rfl rfl (Nat.le_refl _) (fun _ _ _=>rfl) (.inr ⟨b,rfl,hw.holds _ (List.mem_append_left _ (List.mem_of_getElem? hi))⟩) fun b' hb=>?_) hs0
 obtain rfl:b=b':=by simpa[Ci]using hb
 exact⟨.inl rfl,(hw.foot _ (List.mem_append_left _ (List.mem_of_getElem? hi)) b rfl).1⟩
variable [DecidableEq κ]
omit [DecidableEq κ] in
theorem fT{w:World}(E9:NM P k ek ev){ty e:TypeId}(ht:P.underlying ty=some (.map k e)){zv:α}(hz:EF P e=some (ev zv))(key:κ)(c:Bool):
  (Instr.lookup ty (.map none) (ek key) c).run P w=.ok (if c then .tuple #[ev zv,.bool false]else ev zv) w:=by
 obtain⟨lx,hl⟩:=E9.lit key
 rcases E9.keyed.find w hl [] zS with⟨h1,h2⟩ | ⟨j,e0,h1,h2,h3⟩
 simp[Instr.lookup,Ax ht,E9.keyed.check w _ hl,h1,No hz,Result.andThen]
 simp at h2
theorem kI{ty e:TypeId}{key:κ}{zv:α}(i:Nat)(E9:NM P k ek ev)(ho:At ops N l o t (.lookup ty x y false))(ht:P.underlying ty=some (.map k e))(hz:EF P e=some (ev zv))(hx:Bn l x=some v)(hy:Bn l y=some (ek key))
(hi:(bif tk then Hs else H)[i]? = some (Ci v ek ev m))(h:SL P ro K w0 N ops Hs items Q D ((t,ev ((C0 m key).getD zv))::l) H):SL P ro K w0 N ops Hs (.cons (tk,o) items) Q D l H:=
 SL.val ho rfl (fun a w ha hsw=>by
  rcases(hsw.holds _ (List.mem_of_getElem? hi):(Ci v ek ev m).holds w)with⟨rfl,rfl⟩ | ⟨b,rfl,es,clock,hb,hr⟩
  have:=fT (w:=w) E9 ht hz key false
  simp[execOp,ho.op,ha.eval hx,ha.eval hy,this,C0]
  have:=hr.look E9 hb ht hz key false
  simp[execOp,ho.op,ha.eval hx,ha.eval hy,this]) h
end
def dL(P:Program)(ty:TypeId)(f:Nat):Option Nat:=
 match P.underlying ty with
 | some (.struct fs)=>match fs[f]? with
  | some fd=>if JO P fd.type then some fd.offset else none
  | none=>none
 | _=>none
theorem Zu{cs:Array Value}{d f:Nat}{ty:TypeId}(ho:At ops N l o t (.field ty x f))(hf:dL P ty f=some d)(hx:Bn l x=some (.agg cs))(hc:cs[d]? = some v)(h:SL P ro K w0 N ops Hs items Q D ((t,v)::l) H):SL P ro K w0 N ops Hs (.cons (tk,o) items) Q D l H:=
 SL.val ho rfl (fun a w ha _=>by
  unfold dL at hf
  cases hu:P.underlying ty with
  | none=>simp[hu]at hf
  | some ds=>
   cases ds<;>simp only[hu]at hf<;>try cases hf
   rename_i fs
   cases hfs:fs[f]? with
   | none=>simp[hfs]at hf
   | some fd=>
    simp only[hfs]at hf
    split at hf
    rename_i hs
    obtain rfl:=zI hf
    simp[execOp,ho.op,Instr.field,Ax hu,ha.eval hx,hfs,part,(WE hs w).1,hc,asAgg]
    cases hf) h
end
end

section
open Go Go.ChangeShapes Go.WideShapes Go.ChangeAt Go.RowKit Go.Deep Go.Lib Go.Joins
section
variable {G:Type}{enc:TypeId×Value→G}{P:Program}{W:World}
theorem jd{t:TypeId}{f0 f1 f2 f3:Field}{base:Nat}{v:Value}{d:DataW G}{p:List MemPlace}(ht:P.underlying t=some (.struct #[f0,f1,f2,f3]))(ct:P.cellsOf t=4)
(o0:f0.offset=0)(o1:f1.offset=1)(o2:f2.offset=2)(o3:f3.offset=3)(c0:P.cellsOf f0.type=1)(c1:P.cellsOf f1.type=1)(c2:P.cellsOf f2.type=1)(c3:P.cellsOf f3.type=1)
(u0:P.underlying f0.type=some (.int .u64))(u1:P.underlying f1.type=some (.int .u32))(u2:P.underlying f2.type=some (.int .u32))(u3:P.underlying f3.type=some .string)
(hval:Value.okWide P W .any base t v)(h:DataW.Trod enc P W 0 (fun _=>true) true t v d p):∃r:As,v=.agg (AX r).toArray:=by
 obtain⟨cs,rfl,hsz⟩:=okWide_struct ht hval
 obtain⟨n,hn⟩:=h
 obtain⟨xs,k,_,_,_,hxl,hf⟩:=DataW.trod_struct ht hn
 obtain⟨cl⟩:=cs
 rw[ct]at hsz
 match xs,hxl,cl,hsz with
 | [y0,y1,y2,y3],_,[a,b,c,e],_=>
  have g0:=hf 0 f0 rfl
  have g1:=hf 1 f1 rfl
  have g2:=hf 2 f2 rfl
  have g3:=hf 3 f3 rfl
  simp[Value.cells,o0,o1,o2,o3,c0,c1,c2,c3]at g0 g1 g2 g3
  obtain⟨z0,e0,_,w0⟩:=DataW.trod_int u0 g0
  obtain⟨z1,e1,_,w1⟩:=DataW.trod_int u1 g1
  obtain⟨z2,e2,_,w2⟩:=DataW.trod_int u2 g2
  obtain⟨s3,e3,_,_⟩:=DataW.trod_string u3 g3
  simp only[List.cons.injEq,and_true]at e0 e1 e2 e3
  subst e0 e1 e2 e3
  refine⟨⟨UInt64.ofNat z0.toNat,UInt32.ofNat z1.toNat,UInt32.ofNat z2.toNat,s3.data.toList⟩,?_⟩
  rw[cE w0,Px w1,Px w2,pq]
  rfl
theorem jc{t:TypeId}{f0 f1 f2 f3 f4 f5 f6 f7 b0 b1 b2 b3:Field}{base:Nat}{v:Value}{d:DataW G}{p:List MemPlace}(ht:P.underlying t=some (.struct #[f0,f1,f2,f3,f4,f5,f6,f7]))(ct:P.cellsOf t=11)
(ho:[f0,f1,f2,f3,f4,f5,f6,f7].map (·.offset)=[0,1,5,6,7,8,9,10])(hc:[f0,f1,f2,f3,f4,f5,f6,f7].map (fun f=>P.cellsOf f.type)=[1,4,1,1,1,1,1,1])
(hu:[f0,f2,f3,f4,f5,f6,f7].map (fun f=>P.underlying f.type)=[some (.int .i64),some (.int .u32),some (.int .u32),some (.int .u64),some (.int .i64),some (.int .u64),some .bool])
(hb:P.underlying f1.type=some (.struct #[b0,b1,b2,b3]))(hbo:[b0,b1,b2,b3].map (·.offset)=[0,1,2,3])(hbc:[b0,b1,b2,b3].map (fun f=>P.cellsOf f.type)=[1,1,1,1])(hbu:[b0,b1,b2,b3].map (fun f=>P.underlying f.type)=[some (.int .u32),some (.int .u32),some (.int .u32),some (.int .u32)])
(hval:Value.okWide P W .any base t v)(h:DataW.Trod enc P W 0 (fun _=>true) true t v d p):∃q:Tb,v=.agg (U2 q).toArray:=by
 simp only[List.map_cons,List.map_nil,List.cons.injEq,and_true]at ho hc hu hbo hbc hbu
 obtain⟨o0,o1,o2,o3,o4,o5,o6,o7⟩:=ho
 obtain⟨c0,c1,c2,c3,c4,c5,c6,c7⟩:=hc
 obtain⟨u0,u2,u3,u4,u5,u6,u7⟩:=hu
 obtain⟨p0,p1,p2,p3⟩:=hbo
 obtain⟨r0,r1,r2,r3⟩:=hbc
 obtain⟨v0,v1,v2,v3⟩:=hbu
 obtain⟨cs,rfl,hsz⟩:=okWide_struct ht hval
 obtain⟨n,hn⟩:=h
 obtain⟨xs,k,_,_,_,hxl,hf⟩:=DataW.trod_struct ht hn
 obtain⟨cl⟩:=cs
 rw[ct]at hsz
 match xs,hxl,cl,hsz with
 | [y0,y1,y2,y3,y4,y5,y6,y7],_,[a0,a1,a2,a3,a4,a5,a6,a7,a8,a9,a10],_=>
  have g0:=hf 0 f0 rfl
  have g1:=hf 1 f1 rfl
  have g2:=hf 2 f2 rfl
  have g3:=hf 3 f3 rfl
  have g4:=hf 4 f4 rfl
  have g5:=hf 5 f5 rfl
  have g6:=hf 6 f6 rfl
  have g7:=hf 7 f7 rfl
  simp[Value.cells,o0,o1,o2,o3,o4,o5,o6,o7,c0,c1,c2,c3,c4,c5,c6,c7]at g0 g1 g2 g3 g4 g5 g6 g7
  obtain⟨ys,k2,_,_,_,hyl,hg⟩:=DataW.trod_struct hb g1
  match ys,hyl with
  | [x0,x1,x2,x3],_=>
   have m0:=hg 0 b0 rfl
   have m1:=hg 1 b1 rfl
   have m2:=hg 2 b2 rfl
   have m3:=hg 3 b3 rfl
   simp[p0,p1,p2,p3,r0,r1,r2,r3]at m0 m1 m2 m3
   obtain⟨z0,e0,_,w0⟩:=DataW.trod_int u0 g0
   obtain⟨z1,e1,_,w1⟩:=DataW.trod_int v0 m0
   obtain⟨z2,e2,_,w2⟩:=DataW.trod_int v1 m1
   obtain⟨z3,e3,_,w3⟩:=DataW.trod_int v2 m2
   obtain⟨z4,e4,_,w4⟩:=DataW.trod_int v3 m3
   obtain⟨z5,e5,_,w5⟩:=DataW.trod_int u2 g2
   obtain⟨z6,e6,_,w6⟩:=DataW.trod_int u3 g3
   obtain⟨z7,e7,_,w7⟩:=DataW.trod_int u4 g4
   obtain⟨z8,e8,_,w8⟩:=DataW.trod_int u5 g5
   obtain⟨z9,e9,_,w9⟩:=DataW.trod_int u6 g6
   obtain⟨z10,e10,_⟩:=DataW.trod_bool u7 g7
   simp only[List.cons.injEq,and_true]at e0 e1 e2 e3 e4 e5 e6 e7 e8 e9 e10
   subst e0 e1 e2 e3 e4 e5 e6 e7 e8 e9 e10
   refine⟨⟨z0,UInt32.ofNat z1.toNat,UInt32.ofNat z2.toNat,UInt32.ofNat z3.toNat,UInt32.ofNat z4.toNat,UInt32.ofNat z5.toNat,UInt32.ofNat z6.toNat,UInt64.ofNat z7.toNat,z8,UInt64.ofNat z9.toNat,z10⟩,?_⟩
   rw[Px w1,Px w2,Px w3,Px w4,Px w5,Px w6,cE w7,cE w9]
   rfl
end
theorem fX{G:Type}{enc:TypeId×Value→G}{W:World}{base:Nat}{v:Value}{d:DataW G}{p:List MemPlace}(hval:Value.okWide Tryz.prog W .any base 35 v)(h:DataW.Trod enc Tryz.prog W 0 (fun _=>true) true 35 v d p):
  ∃r:As,v=.agg (AX r).toArray:=
 jd Tryz.underlying35 zK rfl rfl rfl rfl zK zK zK zK Tryz.underlying32 Tryz.underlying33 Tryz.underlying33 Tryz.underlying9 hval h
theorem fW{G:Type}{enc:TypeId×Value→G}{W:World}{base:Nat}{v:Value}{d:DataW G}{p:List MemPlace}(hval:Value.okWide Tryz.prog W .any base 52 v)(h:DataW.Trod enc Tryz.prog W 0 (fun _=>true) true 52 v d p):
  ∃q:Tb,v=.agg (U2 q).toArray:=
 jc Tryz.underlying52 zK rfl zK zK Tryz.underlying50 rfl zK zK hval h
end

section
def Nn(r:As):Bool:=decide (max r.x r.y<2147483648)&&decide ((r.txt.length:Int)≤16)
def F8:List As→Bool
 | []=>true
 | [_]=>true
 | a::b::l=>decide (a.id<b.id)&&F8 (b::l)
def FB(l:List As):Bool:=l.all Nn&&F8 l&&decide ((l.length:Int)≤1000)
theorem eE{a b:UInt64}:decide (b≤a) = !decide (a<b):=by
 rw[Bool.eq_iff_iff]
 simp only[Bool.not_eq_true',decide_eq_false_iff_not,decide_eq_true_eq]
 rw[UInt64.le_iff_toNat_le,UInt64.lt_iff_toNat_lt]
 omega
theorem RN:∀(l:List As) (a b:As),F8 (l++[a,b])=(F8 (l++[a])&&decide (a.id<b.id))
 | [],a,b=>by simp[F8]
 | [x],a,b=>by simp[F8]
 | x::y::l,a,b=>by
  have:=RN (y::l) a b
  simp only[List.cons_append,F8]at this ⊢
  rw[this,Bool.and_assoc]
theorem bZ(l r:List As)(h:F8 (l++r)=true):F8 l=true:=by
 induction l with
 | nil=>rfl
 | cons a l ih=>
  cases l with
  | nil=>rfl
  | cons b l=>
   simp only[List.cons_append,F8,Bool.and_eq_true]at h ⊢
   exact⟨h.1,ih h.2⟩
theorem Wk(l:List As):F8 l=true↔l.Pairwise fun a b=>a.id<b.id:=by
 induction l with
 | nil=>simp[F8]
 | cons a l ih=>
  cases l with
  | nil=>simp[F8]
  | cons b l=>
   simp only[F8,Bool.and_eq_true,decide_eq_true_eq,ih]
   constructor
   rintro⟨h1,h2⟩
   refine List.pairwise_cons.2 ⟨fun c hc=>?_,h2⟩
   rcases List.mem_cons.1 hc with rfl | hc
   exact h1
   have:=(List.pairwise_cons.1 h2).1 c hc
   rw[UInt64.lt_iff_toNat_lt]at*
   omega
   intro h
   exact⟨(List.pairwise_cons.1 h).1 b zS,(List.pairwise_cons.1 h).2⟩
theorem T2{n:Nat}(l:List As)(hn:l.length<n)(hb:l.length≤1073741824):Fe n l=some (FB l):=by
 have key:∀(T S:List As),l=S++T→S.all Nn=true→F8 S=true→∀m,T.length<m→GX l m (S.length:Int)=some (FB l):=by
  intro T
  induction T with
  | nil=>
   intro S hl h1 h2 m hm
   obtain⟨m,rfl⟩:∃k,m=k+1:=⟨m-1,by omega⟩
   show En l (GX l m) _=_
   unfold En
   simp only[List.append_nil]at hl
   subst hl
   rw[zf zO,CQ]
   unfold K0 FB
   rw[CI,h1,h2]
   rfl
  | cons r T ih=>
   intro S hl h1 h2 m hm
   obtain⟨m,rfl⟩:∃k,m=k+1:=⟨m-1,by omega⟩
   have hlen:l.length=S.length+(T.length+1):=by rw[hl];simp
   show En l (GX l m) _=_
   unfold En
   have n1:BN l (S.length:Int)=some r:=by
    rw[PI rfl,hl]
    simp
   have hrow:GW r=some (Nn r):=by
    unfold GW
    rw[CI]
    rfl
   rw[zt zO,DB,n1,AD,hrow,AD]
   have hall:l.all Nn=(Nn r&&T.all Nn):=by rw[hl];simp[h1]
   by_cases hr:Nn r=true
   rw[hr]
   simp only[V0,Bool.not_true,CQ]
   rcases List.eq_nil_or_concat S with rfl | ⟨S0,a,rfl⟩
   have hz:decide (0<((([]:List As).length:Nat):Int))=false:=rfl
   rw[hz]
   simp only[Fk,CQ,AD]
   rw[DK zS zS]
   have:=ih [r] (by rw[hl];rfl) (by simp[hr]) rfl m (by simp at hm;omega)
   simpa using this
   have hz:decide (0<(((S0.concat a).length:Nat):Int))=true:=by simp
   have hcl:(S0.concat a).length=S0.length+1:=by simp
   have n2:BN l (wI (((S0.concat a).length:Int)-1))=some a:=by
    rw[DK zO zO,PI (k:=S0.length) zO,hl]
    simp
   rw[hz]
   simp only[Fk,DB,n2,AD,eE]
   have hl':l=(S0.concat a++[r])++T:=by rw[hl];simp
   by_cases hlt:a.id<r.id
   rw[zt hlt,Bool.not_true,CQ,DK zO zO]
   have hri:F8 (S0.concat a++[r])=true:=by
    have:=RN S0 a r
    rw[List.concat_eq_append,List.append_assoc]
    show F8 (S0++[a,r])=true
    rw[this,←List.concat_eq_append,h2,zt hlt]
    rfl
   have:=ih (S0.concat a++[r]) hl' (by simp only[List.all_append,h1];simp[hr]) hri m (by simp at hm;omega)
   rw[show((S0.concat a++[r]).length:Int)=((S0.concat a).length:Int)+1 by simp only[List.length_append,List.length_singleton];omega]at this
   exact this
   rw[zf hlt,Bool.not_false,DB]
   have:F8 l=false:=by
    cases hx:F8 l with
    | false=>rfl
    | true=>
     rw[hl']at hx
     have h5:=bZ _ _ hx
     rw[List.concat_eq_append,List.append_assoc]at h5
     have h6:F8 (S0++[a,r])=true:=h5
     rw[RN,zf hlt]at h6
     simp at h6
   unfold FB
   rw[this]
   simp
   have hr':Nn r=false:=by simpa using hr
   rw[hr']
   simp only[V0,Bool.not_false,DB,AD]
   unfold FB
   rw[hall,hr']
   simp
 have:=key l [] rfl rfl rfl n hn
 unfold Fe
 simpa using this
def FA(r:Bb):Bool:=decide (2≤r.page)&&decide ((r.tag.length:Int)=32)
def So(r:Bb):Bool:=decide (r.page=0)&&decide (r.tag=[])
theorem Oi(r:Bb):Dq r=some (FA r):=by
 unfold Dq
 rw[CI]
 rfl
def OZ(c:Ch):Bool:=cond (decide (c.lev<0)||decide (31<c.lev)) false (decide ((c.x ||| c.y) &&& (shl64 1 c.lev.toNat-1).toUInt32=0)&&decide (max c.x c.y<2147483648))
theorem P3(c:Ch):Hu c=some (OZ c):=by
 unfold Hu OZ
 cases h:decide (c.lev<0)||decide (31<c.lev)with
 | true=>rfl
 | false=>
  simp only[Bool.or_eq_false_iff,decide_eq_false_iff_not]at h
  unfold HX Qg
  rw[CQ,CQ,if_pos zO,AD,CI,AD,CI,CI]
theorem aq{n:Nat}(l:List Bb)(hn:l.length<n)(hb:l.length≤1073741824):X3 n l=some (!l.all FA):=by
 have key:∀(T S:List Bb),l=S++T→S.all FA=true→∀m,T.length<m→∃y,Ma l m (S.length:Int)=some y∧decide (0≤y) = !l.all FA:=by
  intro T
  induction T with
  | nil=>
   intro S hl h1 m hm
   obtain⟨m,rfl⟩:∃k,m=k+1:=⟨m-1,by omega⟩
   simp only[List.append_nil]at hl
   subst hl
   refine⟨-1,?_,by rw[h1];rfl⟩
   show HZ l (Ma l m) _=_
   unfold HZ
   rw[zf zO,CQ]
   rfl
  | cons r T ih=>
   intro S hl h1 m hm
   obtain⟨m,rfl⟩:∃k,m=k+1:=⟨m-1,by omega⟩
   have hlen:l.length=S.length+(T.length+1):=by rw[hl];simp
   have n1:BN l (S.length:Int)=some r:=by
    rw[PI rfl,hl]
    simp
   by_cases hr:FA r=true
   obtain⟨y,h5,h6⟩:=ih (S++[r]) (by rw[hl];simp) (by simp only[List.all_append,h1];simp[hr]) m (by simp at hm;omega)
   refine⟨y,?_,h6⟩
   show HZ l (Ma l m) _=_
   unfold HZ JI
   rw[zt zO,DB,n1,AD,Oi,AD,CI,AD,hr,Bool.not_true,CQ,DK zO zO]
   simpa using h5
   have hr':FA r=false:=by simpa using hr
   refine⟨(S.length:Int),?_,?_⟩
   show HZ l (Ma l m) _=_
   unfold HZ JI
   rw[zt zO,DB,n1,AD,Oi,AD,CI,AD,hr',Bool.not_false,DB]
   rw[hl]
   simp[hr']
 obtain⟨y,h1,h2⟩:=key l [] rfl rfl n hn
 unfold X3 av
 have h1':Ma l n 0=some y:=by simpa using h1
 rw[h1',AD,CI,h2]
def I4(x:Dc):Bool:=
 cond (decide (x.kind=1)) ((((decide (x.cx=0)&&(decide (x.cy=0)&&(decide (x.lev=0)&&true)))&&decide ((x.kids.length:Int)=0))&&decide ((x.rows.length:Int)≤4))&&FB x.rows&&(So ⟨x.npage,x.ntag⟩||FA ⟨x.npage,x.ntag⟩))
  (cond (decide (x.kind=2)) ((x.kids.all FA&&decide ((x.rows.length:Int)=0))&&So ⟨x.npage,x.ntag⟩&&decide (2≤(x.kids.length:Int))&&decide ((x.kids.length:Int)≤4)&&OZ ⟨x.cx,x.cy,x.lev⟩&&decide (0<x.lev)) false)
theorem Qp(b c:Bool):Fk b (some c)=some (b&&c):=by cases b<;>rfl
theorem je(b c:Bool):V0 b (some c)=some (b||c):=by cases b<;>rfl
theorem YL(r:Bb):IW r=some (So r):=by
 unfold IW
 rw[CI]
 unfold So
 simp
theorem Ty{n:Nat}(x:Dc)(hr:x.rows.length<n)(hk:x.kids.length<n)(hb:x.rows.length≤1073741824)(hc:x.kids.length≤1073741824):Lf n x=some (I4 x):=by
 unfold Lf I4
 rw[CI]
 cases hk1:decide (x.kind=1)with
 | true=>
  rw[DB,DB,T2 x.rows hr hb,AD,Qp,AD,YL,AD,Oi,AD,je,AD,Qp,AD]
 | false=>
  rw[CQ,CQ,CI]
  cases hk2:decide (x.kind=2)with
  | true=>
   rw[DB,DB,aq x.kids hk hc,AD,YL,AD,Qp,AD,P3,AD,Qp,AD,CI,Bool.not_not]
  | false=>rfl
end

section
def LY(r:Bb):List UInt8:=CX r.page.toUInt64 4++(r.tag++List.replicate (32-r.tag.length) 0)
def O4(r:As):List UInt8:=CX r.id 8++(CX r.x.toUInt64 4++(CX r.y.toUInt64 4++(CX (Cq (r.txt.length:Int)) 1++r.txt)))
def Q2(x:Dc):List UInt8:=
 CX (Cq x.kind) 1++cond (decide (x.kind=2)) (CX (Cq (x.kids.length:Int)) 1++(CX (Cq x.lev) 1++(CX x.cx.toUInt64 4++(CX x.cy.toUInt64 4++(x.kids.map LY).flatten))))
  (CX (Cq (x.rows.length:Int)) 1++(LY ⟨x.npage,x.ntag⟩++(x.rows.map O4).flatten))
theorem Yq{s:List UInt8}{n:UInt64}{w:Int}(k:Nat)(hw:w=(k:Int))(hs:s.length≤1048576)(h:k≤8):Jj s n w=some (s++CX n k):=by
 subst hw
 unfold Jj
 rw[if_pos ⟨hs,by omega,by omega⟩]
 rfl
theorem WL{s:List UInt8}{n:UInt64}(hs:s.length≤1048576):Jj s n 1=some (s++CX n 1):=Yq 1 rfl hs zO
theorem Yp{s:List UInt8}{n:UInt64}(hs:s.length≤1048576):Jj s n 4=some (s++CX n 4):=Yq 4 rfl hs zO
theorem sO{s:List UInt8}{n:UInt64}(hs:s.length≤1048576):Jj s n 8=some (s++CX n 8):=Yq 8 rfl hs zO
theorem mO{n:Int}(k:Nat)(h:n=(k:Int))(hk:k≤8192):Sp [0] n=some (List.replicate k 0):=by
 subst h
 unfold Sp
 rw[if_pos ⟨rfl,by omega,by omega⟩]
 rfl
theorem eK{s t:List UInt8}(hs:s.length≤1048576)(ht:t.length≤1048576):Yr s t=some (s++t):=if_pos ⟨hs,ht⟩
theorem Oa{r:Bb}(h:r.tag.length≤32):(LY r).length=36:=by
 unfold LY
 simp[B9]
 omega
theorem eI{s:List UInt8}{r:Bb}(hs:s.length≤1000000)(h:r.tag.length≤32):WM s r=some (s++LY r):=by
 unfold WM LY
 rw[if_pos h,Yp zO,AD,mO (32-r.tag.length) zO zO,AD,Eg zQ,AD,eK (by simp[B9];omega) zQ,List.append_assoc]
theorem PO{r:Bb}(h:FA r=true):r.tag.length=32∧2≤r.page.toNat:=by
 unfold FA at h
 simp only[Bool.and_eq_true,decide_eq_true_eq]at h
 exact⟨by omega,by have:=UInt32.le_iff_toNat_le.1 h.1;simpa using this⟩
theorem Zh{r:Bb}(h:So r=true):r=⟨0,[]⟩:=by
 unfold So at h
 simp only[Bool.and_eq_true,decide_eq_true_eq]at h
 cases r
 simp only at h
 rw[h.1,h.2]
theorem iH(x:Dc)(hb:x.kids.length≤1000):∀(T S:List Bb) (s:List UInt8),x.kids=S++T→(∀r∈T,r.tag.length≤32)→s.length+36*T.length≤100000→∀m,T.length<m→F3 x m (s,(S.length:Int))=some (s++(T.map LY).flatten,0)
 | [],S,s,hk,ht,hs,m,hm=>by
  obtain⟨m,rfl⟩:∃k,m=k+1:=⟨m-1,by omega⟩
  show EW x (F3 x m) _ _=_
  unfold EW ZN
  rw[hk]
  simp only[List.append_nil]
  rw[zf zO,CQ,if_pos (by simp at hs ⊢;omega)]
  simp
 | r::T,S,s,hk,ht,hs,m,hm=>by
  obtain⟨m,rfl⟩:∃k,m=k+1:=⟨m-1,by omega⟩
  have hlen:x.kids.length=S.length+(T.length+1):=by rw[hk];simp
  have n1:BN x.kids (S.length:Int)=some r:=by
   rw[PI rfl,hk]
   simp
  simp only[List.length_cons]at hs hm
  have h32:=ht r zS
  show EW x (F3 x m) _ _=_
  unfold EW
  dsimp only
  rw[zt zO,DB,n1,AD,eI zO h32,AD,DK zO zO]
  have:=iH x hb T (S++[r]) (s++LY r) (by rw[hk];simp) (fun q hq=>ht q (by simp[hq])) (by simp[Oa h32];omega) m zO
  simpa using this
theorem U3(r:As):(O4 r).length=17+r.txt.length:=by
 unfold O4
 simp[B9]
 omega
theorem iI(x:Dc)(hb:x.rows.length≤1000):∀(T S:List As) (s:List UInt8),x.rows=S++T→(∀r∈T,r.txt.length≤16)→s.length+33*T.length≤100000→∀m,T.length<m→F4 x m (s,(S.length:Int))=some (s++(T.map O4).flatten,0)
 | [],S,s,hk,ht,hs,m,hm=>by
  obtain⟨m,rfl⟩:∃k,m=k+1:=⟨m-1,by omega⟩
  show EX x (F4 x m) _ _=_
  unfold EX ZN
  rw[hk]
  simp only[List.append_nil]
  rw[zf zO,CQ,if_pos (by simp at hs ⊢;omega)]
  simp
 | r::T,S,s,hk,ht,hs,m,hm=>by
  obtain⟨m,rfl⟩:∃k,m=k+1:=⟨m-1,by omega⟩
  have hlen:x.rows.length=S.length+(T.length+1):=by rw[hk];simp
  have n1:BN x.rows (S.length:Int)=some r:=by
   rw[PI rfl,hk]
   simp
  simp only[List.length_cons]at hs hm
  have h16:=ht r zS
  show EX x (F4 x m) _ _=_
  unfold EX
  dsimp only
  rw[zt zO,DB,n1,AD,sO zO,AD,Yp (by simp[B9];omega),AD,Yp (by simp[B9];omega),AD,
   WL (by simp[B9];omega),AD,eK (by simp[B9];omega) zO,AD,DK zO zO]
  have:=iI x hb T (S++[r]) (s++O4 r) (by rw[hk];simp) (fun q hq=>ht q (by simp[hq])) (by simp[U3];omega) m zO
  simpa[O4]using this
theorem VU{x:Dc}(h:I4 x=true)(hk:x.kind=1):x.cx=0∧x.cy=0∧x.lev=0∧x.kids=[]∧x.rows.length≤4∧FB x.rows=true∧((x.npage=0∧x.ntag=[])∨FA ⟨x.npage,x.ntag⟩=true):=by
 unfold I4 at h
 rw[zt hk,DB]at h
 simp only[Bool.and_eq_true,decide_eq_true_eq,Bool.or_eq_true,Bool.and_true]at h
 obtain⟨⟨⟨⟨⟨h1,h2,h3⟩,h4⟩,h5⟩,h6⟩,h7⟩:=h
 refine⟨h1,h2,h3,List.length_eq_zero_iff.1 zO,by omega,h6,?_⟩
 rcases h7 with h7 | h7
 have:=Zh h7
 simp only[Bb.mk.injEq]at this
 exact .inl this
 exact .inr h7
theorem Tx{x:Dc}(h:I4 x=true)(hk:x.kind≠1):x.kind=2∧(∀r∈x.kids,FA r=true)∧x.rows=[]∧x.npage=0∧x.ntag=[]∧2≤x.kids.length∧x.kids.length≤4∧OZ ⟨x.cx,x.cy,x.lev⟩=true∧0<x.lev:=by
 unfold I4 at h
 rw[zf hk,CQ]at h
 cases hk2:decide (x.kind=2)with
 | false=>rw[hk2]at h;cases h
 | true=>
  rw[hk2,DB]at h
  simp only[Bool.and_eq_true,decide_eq_true_eq]at h
  obtain⟨⟨⟨⟨⟨⟨h1,h2⟩,h3⟩,h4⟩,h5⟩,h6⟩,h7⟩:=h
  have:=Zh h3
  simp only[Bb.mk.injEq]at this
  exact⟨by simpa using hk2,fun r hr=>List.all_eq_true.1 h1 r hr,List.length_eq_zero_iff.1 zO,this.1,this.2,by omega,by omega,h6,h7⟩
theorem Wj{l:List As}(h:FB l=true):∀r∈l,r.txt.length≤16:=fun r hr=>by
 unfold FB at h
 simp only[Bool.and_eq_true]at h
 have:=List.all_eq_true.1 h.1.1 r hr
 unfold Nn at this
 simp only[Bool.and_eq_true,decide_eq_true_eq]at this
 omega
theorem fL{n:Nat}{x:Dc}(hn:10≤n)(h:I4 x=true):IV n x=some (Q2 x,0):=by
 by_cases hk:x.kind=1
 obtain⟨h1,h2,h3,h4,h5,h6,h7⟩:=VU h hk
 have h32:x.ntag.length≤32:=by
  rcases h7 with h7 | h7
  rw[h7.2];simp
  have:=(PO h7).1
  simp only at this
  omega
 unfold IV Q2
 rw[Ty x zO (by rw[h4];simp;omega) zO (by rw[h4];simp),AD,h,Bool.not_true,CQ,WL zS,AD,show decide (x.kind=2)=false by rw[hk];rfl,CQ,CQ,
  WL (by simp[B9]),AD,eI (by simp[B9]) h32,AD]
 have:=iI x zO x.rows [] (CX (Cq x.kind) 1++(CX (Cq (x.rows.length:Int)) 1++LY ⟨x.npage,x.ntag⟩)) rfl (Wj h6) (by simp[B9,Oa (r:=⟨x.npage,x.ntag⟩) h32];omega) n zO
 simpa using this
 obtain⟨hk2,h1,h2,h3,h4,h5,h6,h7,h8⟩:=Tx h hk
 unfold IV Q2
 rw[Ty x (by rw[h2];simp;omega) zO (by rw[h2];simp) zO,AD,h,Bool.not_true,CQ,WL zS,AD,show decide (x.kind=2)=true by rw[hk2];rfl,DB,DB,
  WL (by simp[B9]),AD,WL (by simp[B9]),AD,Yp (by simp[B9]),AD,Yp (by simp[B9]),AD]
 have:=iH x zO x.kids [] (CX (Cq x.kind) 1++(CX (Cq (x.kids.length:Int)) 1++(CX (Cq x.lev) 1++(CX x.cx.toUInt64 4++CX x.cy.toUInt64 4)))) rfl (fun r hr=>by have:=(PO (h1 r hr)).1;omega) (by simp[B9];omega) n zO
 simpa using this
end

section
def bl(n:Nat):Nat:=if n=0 then 0 else Nat.log2 n+1
theorem ed(n:Nat):n<2^bl n:=by
 unfold bl
 split
 rename_i h;subst h;simp
 exact Nat.lt_log2_self
theorem Z5{n k:Nat}(h:n<2^k):bl n≤k:=by
 unfold bl
 split
 omega
 rename_i h0
 exact(Nat.log2_lt h0).2 h
theorem kg{n:Nat}(h:0<bl n):2^(bl n-1)≤n:=by
 rcases Nat.lt_or_ge n (2^(bl n-1))with h1 | h1
 have:=Z5 h1
 omega
 exact h1
theorem kh{n L:Nat}(h1:n<2^L)(h2:L=0∨2^(L-1)≤n):bl n=L:=by
 have a:=Z5 h1
 rcases h2 with h2 | h2
 omega
 rcases Nat.lt_or_ge (bl n) L with h | h
 have h3:2^bl n≤2^(L-1):=Nat.pow_le_pow_right zD zO
 have h4:=ed n
 omega
 omega
theorem ZL{n k:Nat}(h:2^k≤n):bl n=k+bl (n / 2^k):=by
 have hp:=Nat.two_pow_pos k
 have h0:0<n / 2^k:=Nat.div_pos h hp
 have hb:0<bl (n / 2^k):=by
  unfold bl
  rw[if_neg zO]
  omega
 refine kh ?_ (.inr ?_)
 rw[Nat.pow_add]
 have:=ed (n / 2^k)
 rw[Nat.mul_comm]
 exact(Nat.div_lt_iff_lt_mul hp).1 this
 have:=kg hb
 rw[show k+bl (n / 2^k)-1=k+(bl (n / 2^k)-1) by omega,Nat.pow_add]
 calc 2^k*2^(bl (n / 2^k)-1)≤2^k*(n / 2^k):=Nat.mul_le_mul_left _ this
  _≤n:=Nat.mul_div_le _ _
def iV:List UInt8:=[0,1,2,2,3,3,3,3,4,4,4,4,4,4,4,4,5,5,5,5,5,5,5,5,5,5,5,5,5,5,5,5]++List.replicate 32 6++List.replicate 64 7++List.replicate 128 8
theorem pv:∀b:Fin 256,iV[b.val]? = some (UInt8.ofNat (bl b.val)):=by decide +kernel
theorem iX(a:UInt32)(ha:a.toNat<256)(k:Nat)(hk:k≤24):Oq a (k:Int)=some ((k+bl a.toNat:Nat):Int):=by
 have hb:a.toUInt8.toNat=a.toNat:=by
  rw[UInt32.toNat_toUInt8]
  omega
 have h8:bl a.toNat≤8:=Z5 zO
 unfold Oq
 have ht:BN iV (a.toUInt8.toNat:Int)=some (UInt8.ofNat (bl a.toNat)):=by
  rw[HO,hb]
  exact pv ⟨a.toNat,ha⟩
 refine(congrArg (fun x=>Option.bind x _) (show BN _ _=some (UInt8.ofNat (bl a.toNat))from ht)).trans ?_
 rw[AD,CI]
 have:(UInt8.ofNat (bl a.toNat)).toNat=bl a.toNat:=by simp;omega
 rw[this,DK zO zO]
 rfl
theorem Yh(n:UInt32)(k:Nat)(h:k≤32):(shr32 n k).toNat=n.toNat / 2^k:=by
 have h1:=n.toNat_lt
 simp only[shr32,UInt32.toNat_ofNat',Nat.min_eq_left h]
 exact Nat.mod_eq_of_lt (Nat.lt_of_le_of_lt (Nat.div_le_self _ _) h1)
theorem iW(a:UInt32)(ha:a.toNat<65536)(k:Nat)(hk:k≤16):Oo a (k:Int)=some ((k+bl a.toNat:Nat):Int):=by
 unfold Oo
 by_cases h:256≤a.toNat
 rw[zt (show(256:UInt32)≤a by rw[UInt32.le_iff_toNat_le];exact h),DB,CI,CI,DK zO zO]
 have hs:=Yh a 8 zD
 have:=iX (shr32 a 8) (by rw[hs];omega) (k+8) zO
 rw[show(k:Int)+8=((k+8:Nat):Int) by omega,this,hs]
 have hb:=ZL (n:=a.toNat) (k:=8) zO
 congr 2
 omega
 rw[zf (show ¬(256:UInt32)≤a by rw[UInt32.le_iff_toNat_le];exact h),CQ]
 exact iX a zO k zO
theorem jV(a:UInt32):X4 a=some ((bl a.toNat:Nat):Int):=by
 have h32:=a.toNat_lt
 unfold X4
 by_cases h:65536≤a.toNat
 rw[zt (show(65536:UInt32)≤a by rw[UInt32.le_iff_toNat_le];exact h),DB,CI]
 have hs:=Yh a 16 zD
 have:=iW (shr32 a 16) (by rw[hs];omega) 16 zO
 rw[show((16:Nat):Int)=16 from rfl]at this
 rw[this,hs]
 have hb:=ZL (n:=a.toNat) (k:=16) zO
 congr 2
 omega
 rw[zf (show ¬(65536:UInt32)≤a by rw[UInt32.le_iff_toNat_le];exact h),CQ]
 have:=iW a zO 0 zO
 rw[show((0:Nat):Int)=0 from rfl,Nat.zero_add]at this
 exact this
theorem Wm{a b L:Nat}:a ^^^ b<2^L↔a / 2^L=b / 2^L:=by
 constructor
 intro h
 have h1:(a ^^^ b) / 2^L=0:=Nat.div_eq_of_lt h
 have h2:(a / 2^L) ^^^ (b / 2^L)=0:=by rw[←Nat.xor_div_two_pow];exact h1
 calc a / 2^L=a / 2^L ^^^ (b / 2^L ^^^ b / 2^L):=by rw[Nat.xor_self,Nat.xor_zero]
  _=b / 2^L:=by rw[←Nat.xor_assoc,h2,Nat.zero_xor]
 intro h
 have h2:(a ^^^ b) / 2^L=0:=by rw[Nat.xor_div_two_pow,h,Nat.xor_self]
 exact(Nat.div_eq_zero_iff_lt (Nat.two_pow_pos L)).1 h2
theorem fZ{a b L:Nat}:a ||| b<2^L↔a<2^L∧b<2^L:=by
 constructor
 intro h
 exact⟨Nat.lt_of_le_of_lt Nat.left_le_or h,Nat.lt_of_le_of_lt Nat.right_le_or h⟩
 intro h
 exact Nat.or_lt_two_pow h.1 h.2
theorem gB{L:Nat}(h:L≤31):(shl32 1 L).toNat=2^L:=by
 simp only[shl32,UInt32.toNat_ofNat',Nat.min_eq_left (show L≤32 by omega)]
 have:2^L≤2^31:=Nat.pow_le_pow_right zD h
 rw[show(1:UInt32).toNat=1 from rfl,Nat.one_mul]
 exact Nat.mod_eq_of_lt (Nat.lt_of_le_of_lt this zD)
theorem rO{L:Nat}(h:L≤31):(shl32 1 L-1).toNat=2^L-1:=by
 have h1:=gB h
 have h2:=Nat.two_pow_pos L
 have h3:2^L≤2^31:=Nat.pow_le_pow_right zD h
 rw[UInt32.toNat_sub_of_le _ _ (by rw[UInt32.le_iff_toNat_le,h1];exact h2),h1]
 rfl
theorem jA{a L:Nat}(hL:L≤32)(ha:a<2^32):a &&& (2^32-2^L)=a / 2^L*2^L:=by
 apply Nat.eq_of_testBit_eq
 intro i
 have hp:=Nat.two_pow_pos L
 have hx:2^L-1<2^32:=by
  have:2^L≤2^32:=Nat.pow_le_pow_right zD hL
  omega
 rw[Nat.testBit_and,show 2^32-2^L=2^32-((2^L-1)+1) by rw[Nat.sub_add_cancel hp],Nat.testBit_two_pow_sub_succ hx,Nat.testBit_two_pow_sub_one,Nat.testBit_mul_two_pow,Nat.testBit_div_two_pow]
 by_cases h1:i<L
 rw[zt h1,zf (show ¬L≤i by omega)]
 simp
 rw[zf h1,zt (show L≤i by omega),Nat.sub_add_cancel zO]
 by_cases h2:i<32
 rw[zt h2];simp
 rw[Nat.testBit_lt_two_pow (Nat.lt_of_lt_of_le ha (Nat.pow_le_pow_right zD zO))]
 simp
theorem TL(a:UInt32){L:Nat}(h:L≤31):(a &&& ~~~(shl32 1 L-1)).toNat=a.toNat / 2^L*2^L:=by
 have h1:=rO h
 have h2:=Nat.two_pow_pos L
 rw[UInt32.toNat_and,UInt32.toNat_not,h1,show UInt32.size-1-(2^L-1)=2^32-2^L by
  show 4294967296-1-(2^L-1)=4294967296-2^L
  omega]
 exact jA zO a.toNat_lt
theorem XZ(x y:UInt32){L:Nat}(h:L≤31):IC x y (L:Int)=some ⟨x &&& ~~~(shl32 1 L-1),y &&& ~~~(shl32 1 L-1),L⟩:=by
 unfold IC Qg
 rw[if_pos zO,AD,CI]
 rfl
theorem jT{x y u v:UInt32}(hx:x.toNat<2147483648)(hy:y.toNat<2147483648)(hu:u.toNat<2147483648)(hv:v.toNat<2147483648):
  ∃L:Nat,L≤31∧LZ x y u v=some (⟨x &&& ~~~(shl32 1 L-1),y &&& ~~~(shl32 1 L-1),L⟩,0)∧x.toNat / 2^L=u.toNat / 2^L∧y.toNat / 2^L=v.toNat / 2^L∧
   (0<L→x.toNat / 2^(L-1)≠u.toNat / 2^(L-1)∨y.toNat / 2^(L-1)≠v.toNat / 2^(L-1)):=by
 have hn:((x ^^^ u) ||| (y ^^^ v)).toNat=(x.toNat ^^^ u.toNat) ||| (y.toNat ^^^ v.toNat):=by rw[UInt32.toNat_or,UInt32.toNat_xor,UInt32.toNat_xor]
 have hk:∀L,((x ^^^ u) ||| (y ^^^ v)).toNat<2^L↔x.toNat / 2^L=u.toNat / 2^L∧y.toNat / 2^L=v.toNat / 2^L:=fun L=>by
  rw[hn,fZ,Wm,Wm]
 have h31:((x ^^^ u) ||| (y ^^^ v)).toNat<2^31:=(hk 31).2 ⟨by omega,by omega⟩
 have hL:=Z5 h31
 obtain⟨e1,e2⟩:=(hk _).1 (ed ((x ^^^ u) ||| (y ^^^ v)).toNat)
 refine⟨bl ((x ^^^ u) ||| (y ^^^ v)).toNat,hL,?_,e1,e2,fun h0=>?_⟩
 unfold LZ
 have hm:decide (2147483648≤max (max (max x y) u) v)=false:=by
  rw[decide_eq_false_iff_not,UInt32.le_iff_toNat_le,Lt,Lt,Lt]
  show ¬(2147483648≤_)
  omega
 rw[hm,CQ,jV,AD,XZ x y hL,AD,XZ u v hL,AD]
 have ex:x &&& ~~~(shl32 1 (bl ((x ^^^ u) ||| (y ^^^ v)).toNat)-1)=u &&& ~~~(shl32 1 (bl ((x ^^^ u) ||| (y ^^^ v)).toNat)-1):=UInt32.toNat_inj.1 (by rw[TL x hL,TL u hL,e1])
 have ey:y &&& ~~~(shl32 1 (bl ((x ^^^ u) ||| (y ^^^ v)).toNat)-1)=v &&& ~~~(shl32 1 (bl ((x ^^^ u) ||| (y ^^^ v)).toNat)-1):=UInt32.toNat_inj.1 (by rw[TL y hL,TL v hL,e2])
 simp only[ex,ey,decide_true,Bool.and_self,Bool.not_true,CQ]
 have hge:=kg h0
 have:¬((x ^^^ u) ||| (y ^^^ v)).toNat<2^(bl ((x ^^^ u) ||| (y ^^^ v)).toNat-1):=zO
 rw[hk]at this
 exact Classical.not_and_iff_not_or_not.1 this
end

section
def qd(L:Nat)(r:As):Nat:=(r.x.toNat / 2^(L-1))%2+2*((r.y.toNat / 2^(L-1))%2)
structure AR(c:Ch)(l:List As)(L:Nat):Prop where
 lev:c.lev=(L:Int)
 le:L≤31
 cx:c.x.toNat%2^L=0
 cy:c.y.toNat%2^L=0
 lx:c.x.toNat<2147483648
 ly:c.y.toNat<2147483648
 inn:∀r∈l,r.x.toNat / 2^L=c.x.toNat / 2^L∧r.y.toNat / 2^L=c.y.toNat / 2^L
 two:0<L→∃r∈l,∃s∈l,qd L r≠qd L s
theorem TO{r:As}(h:Nn r=true):r.x.toNat<2147483648∧r.y.toNat<2147483648∧r.txt.length≤16:=by
 unfold Nn at h
 simp only[Bool.and_eq_true,decide_eq_true_eq]at h
 have:=UInt32.lt_iff_toNat_lt.1 h.1
 rw[Lt]at this
 have h2:max r.x.toNat r.y.toNat<2147483648:=this
 omega
theorem MY{a L:Nat}(h:0<L):a / 2^(L-1) / 2=a / 2^L:=by
 rw[Nat.div_div_eq_div_mul,←Nat.pow_succ,Nat.succ_eq_add_one,Nat.sub_add_cancel h]
theorem Z4{n:Nat}{l:List As}(hl:l≠[])(hn:l.length<n)(hb:l.length≤1000000)(ok:∀r∈l,Nn r=true):∃c L,IJ n l=some c∧AR c l L:=by
 have key:∀(T S:List As) (x y u v:UInt32),l=S++T→(∀r∈S,x.toNat≤r.x.toNat∧r.x.toNat≤u.toNat∧y.toNat≤r.y.toNat∧r.y.toNat≤v.toNat)→(∃r∈l,r.x=x)→(∃r∈l,r.y=y)→(∃r∈l,r.x=u)→(∃r∈l,r.y=v)→
   ∀m,T.length<m→∃c L,Fx l m (x,y,u,v,(S.length:Int))=some c∧AR c l L:=by
  intro T
  induction T with
  | nil=>
   intro S x y u v hS hin hx hy hu hv m hm
   obtain⟨m,rfl⟩:∃k,m=k+1:=⟨m-1,by omega⟩
   simp only[List.append_nil]at hS
   subst hS
   obtain⟨rx,hrx,ex⟩:=hx
   obtain⟨ry,hry,ey⟩:=hy
   obtain⟨ru,hru,eu⟩:=hu
   obtain⟨rv,hrv,ev⟩:=hv
   have lx:=(TO (ok rx hrx)).1
   have ly:=(TO (ok ry hry)).2.1
   have lu:=(TO (ok ru hru)).1
   have lv:=(TO (ok rv hrv)).2.1
   rw[ex]at lx
   rw[ey]at ly
   rw[eu]at lu
   rw[ev]at lv
   obtain⟨L,hL,hle,d1,d2,d3⟩:=jT lx ly lu lv
   have hp:=Nat.two_pow_pos L
   have hcx:=TL x hL
   have hcy:=TL y hL
   refine⟨⟨x &&& ~~~(shl32 1 L-1),y &&& ~~~(shl32 1 L-1),L⟩,L,?_,⟨rfl,hL,?_,?_,?_,?_,fun r hr=>?_,fun h0=>?_⟩⟩
   show EV l (Fx l m) _ _ _ _ _=_
   unfold EV
   dsimp only
   rw[zf zO,CQ]
   unfold Jq
   rw[hle,AD]
   show(x &&& ~~~(shl32 1 L-1)).toNat%2^L=0
   rw[hcx]
   exact Nat.mul_mod_left _ _
   show(y &&& ~~~(shl32 1 L-1)).toNat%2^L=0
   rw[hcy]
   exact Nat.mul_mod_left _ _
   show(x &&& ~~~(shl32 1 L-1)).toNat<_
   rw[hcx]
   exact Nat.lt_of_le_of_lt (Nat.div_mul_le_self _ _) lx
   show(y &&& ~~~(shl32 1 L-1)).toNat<_
   rw[hcy]
   exact Nat.lt_of_le_of_lt (Nat.div_mul_le_self _ _) ly
   show r.x.toNat / 2^L=(x &&& ~~~(shl32 1 L-1)).toNat / 2^L∧r.y.toNat / 2^L=(y &&& ~~~(shl32 1 L-1)).toNat / 2^L
   rw[hcx,hcy,Nat.mul_div_cancel _ hp,Nat.mul_div_cancel _ hp]
   obtain⟨a1,a2,a3,a4⟩:=hin r hr
   have b1:=Nat.div_le_div_right (c:=2^L) a1
   have b2:=Nat.div_le_div_right (c:=2^L) a2
   have b3:=Nat.div_le_div_right (c:=2^L) a3
   have b4:=Nat.div_le_div_right (c:=2^L) a4
   omega
   have g1:=MY (a:=x.toNat) h0
   have g2:=MY (a:=u.toNat) h0
   have g3:=MY (a:=y.toNat) h0
   have g4:=MY (a:=v.toNat) h0
   rcases d3 h0 with d | d
   refine⟨rx,hrx,ru,hru,fun e=>?_⟩
   unfold qd at e
   rw[ex,eu]at e
   omega
   refine⟨ry,hry,rv,hrv,fun e=>?_⟩
   unfold qd at e
   rw[ey,ev]at e
   omega
  | cons r T ih=>
   intro S x y u v hS hin hx hy hu hv m hm
   obtain⟨m,rfl⟩:∃k,m=k+1:=⟨m-1,by omega⟩
   have hlen:l.length=S.length+(T.length+1):=by rw[hS];simp
   have hr:r∈l:=by rw[hS];simp
   have n1:BN l (S.length:Int)=some r:=by
    rw[PI rfl,hS]
    simp
   have hmin:∀a b:UInt32,min a b=a∨min a b=b:=fun a b=>by
    show(if a≤b then a else b)=a∨(if a≤b then a else b)=b
    split
    exact .inl rfl
    exact .inr rfl
   have hmax:∀a b:UInt32,max a b=a∨max a b=b:=fun a b=>by
    show(if a≤b then b else a)=a∨(if a≤b then b else a)=b
    split
    exact .inr rfl
    exact .inl rfl
   obtain⟨c,L,hc,hA⟩:=ih (S++[r]) (min x r.x) (min y r.y) (max u r.x) (max v r.y) (by rw[hS];simp) (fun q hq=>by
    rw[Yn,Yn,Lt,Lt]
    rcases List.mem_append.1 hq with hq | hq
    have:=hin q hq
    omega
    rw[List.mem_singleton.1 hq]
    omega) (by
    rcases hmin x r.x with e | e<;>rw[e]
    exact hx
    exact⟨r,hr,rfl⟩) (by
    rcases hmin y r.y with e | e<;>rw[e]
    exact hy
    exact⟨r,hr,rfl⟩) (by
    rcases hmax u r.x with e | e<;>rw[e]
    exact hu
    exact⟨r,hr,rfl⟩) (by
    rcases hmax v r.y with e | e<;>rw[e]
    exact hv
    exact⟨r,hr,rfl⟩) m (by simp at hm;omega)
   refine⟨c,L,?_,hA⟩
   show EV l (Fx l m) _ _ _ _ _=_
   unfold EV
   dsimp only
   rw[zt zO,DB,n1,AD,CI,CI,CI,CI,DK zO zO]
   rw[show((S++[r]).length:Int)=(S.length:Int)+1 by simp only[List.length_append,List.length_singleton];omega]at hc
   exact hc
 obtain⟨r0,l0,rfl⟩:∃r0 l0,l=r0::l0:=by
  cases l with
  | nil=>exact absurd rfl hl
  | cons r0 l0=>exact⟨r0,l0,rfl⟩
 obtain⟨c,L,hc,hA⟩:=key (r0::l0) [] r0.x r0.y r0.x r0.y rfl zS ⟨r0,by simp,rfl⟩ ⟨r0,by simp,rfl⟩ ⟨r0,by simp,rfl⟩ ⟨r0,by simp,rfl⟩ n hn
 refine⟨c,L,?_,hA⟩
 unfold IJ
 have n0:BN (r0::l0) 0=some r0:=rfl
 rw[n0,AD,AD,AD,AD]
 exact hc
theorem size_eq{c:Ch}{L:Nat}(h:c.lev=(L:Int)):HX c=some (shl64 1 L):=by
 unfold HX Qg
 rw[h,if_pos zO,AD,CI]
 rfl
theorem Yg{L:Nat}(h:L≤31):(shl64 1 L).toNat=2^L:=by
 simp only[shl64,UInt64.toNat_ofNat',Nat.min_eq_left (show L≤64 by omega)]
 have:2^L≤2^31:=Nat.pow_le_pow_right zD h
 rw[show(1:UInt64).toNat=1 from rfl,Nat.one_mul]
 exact Nat.mod_eq_of_lt (Nat.lt_of_le_of_lt this zD)
theorem lQ{L:Nat}(h:L≤31):(shl64 1 L-1).toUInt32.toNat=2^L-1:=by
 have h1:=Yg h
 have h2:=Nat.two_pow_pos L
 have h3:2^L≤2^31:=Nat.pow_le_pow_right zD h
 rw[UInt64.toNat_toUInt32,UInt64.toNat_sub_of_le _ _ (by rw[UInt64.le_iff_toNat_le,h1];exact h2),h1]
 show(2^L-1)%4294967296=_
 exact Nat.mod_eq_of_lt zO
theorem Xx{c:Ch}{L:Nat}(h:c.lev=(L:Int))(hL:L≤31)(hx:c.x.toNat%2^L=0)(hy:c.y.toNat%2^L=0)(lx:c.x.toNat<2147483648)(ly:c.y.toNat<2147483648):OZ c=true:=by
 unfold OZ
 rw[h,show(decide ((L:Int)<0)||decide (31<(L:Int)))=false by simp;omega,CQ,Int.toNat_natCast,Bool.and_eq_true,decide_eq_true_eq,decide_eq_true_eq]
 constructor
 apply UInt32.toNat_inj.1
 rw[UInt32.toNat_and,lQ hL,UInt32.toNat_or,Nat.and_two_pow_sub_one_eq_mod,Nat.or_mod_two_pow,hx,hy]
 rfl
 rw[UInt32.lt_iff_toNat_lt,Lt]
 show max _ _<2147483648
 omega
theorem AR.ok{c:Ch}{l:List As}{L:Nat}(A:AR c l L):OZ c=true:=Xx A.lev A.le A.cx A.cy A.lx A.ly
theorem VT{a P:Nat}(hP:a%P=0)(ha:a<2147483648)(hd:∃k,k*P=2147483648):a+P≤2147483648:=by
 obtain⟨k,hk⟩:=hd
 have h1:a=a / P*P:=by
  have:=Nat.div_add_mod a P
  rw[hP,Nat.add_zero,Nat.mul_comm]at this
  exact this.symm
 have h2:a / P<k:=by
  rcases Nat.lt_or_ge (a / P) k with h | h
  exact h
  have:=Nat.mul_le_mul_right P h
  omega
 have h3:(a / P+1)*P≤k*P:=Nat.mul_le_mul_right P h2
 rw[Nat.add_mul,Nat.one_mul]at h3
 omega
theorem RJ{L:Nat}(h:L≤31):∃k,k*2^L=2147483648:=⟨2^(31-L),by rw[←Nat.pow_add,Nat.sub_add_cancel h]⟩
theorem dY{a q P:Nat}(hP:0<P)(hq:q%P=0):(q≤a∧a≤q+(P-1))↔a / P=q / P:=by
 have h1:q=q / P*P:=by
  have:=Nat.div_add_mod q P
  rw[hq,Nat.add_zero,Nat.mul_comm]at this
  exact this.symm
 have h2:=Nat.div_add_mod a P
 have h3:=Nat.mod_lt a hP
 constructor
 rintro⟨g1,g2⟩
 have g3:q / P≤a / P:=Nat.div_le_div_right g1
 have g4:a / P<q / P+1:=by
  refine(Nat.div_lt_iff_lt_mul hP).2 ?_
  rw[Nat.add_mul,Nat.one_mul,←h1]
  omega
 omega
 intro g
 rw[g,Nat.mul_comm,←h1]at h2
 omega
theorem dD{q:Ch}{M:Nat}(x y:UInt32)(h:q.lev=(M:Int))(hM:M≤31)(hx:q.x.toNat%2^M=0)(hy:q.y.toNat%2^M=0)(lx:q.x.toNat<2147483648)(ly:q.y.toNat<2147483648):
  MZ q x y=some (decide (x.toNat / 2^M=q.x.toNat / 2^M)&&decide (y.toNat / 2^M=q.y.toNat / 2^M)):=by
 have hp:=Nat.two_pow_pos M
 have mx:=VT hx lx (RJ hM)
 have my:=VT hy ly (RJ hM)
 have hf:=lQ hM
 have ex:(q.x+(shl64 1 M-1).toUInt32).toNat=q.x.toNat+(2^M-1):=by rw[UInt32.toNat_add,hf];omega
 have ey:(q.y+(shl64 1 M-1).toUInt32).toNat=q.y.toNat+(2^M-1):=by rw[UInt32.toNat_add,hf];omega
 unfold MZ
 rw[P3,Xx h hM hx hy lx ly,AD]
 unfold Pn Q6 Ks
 rw[size_eq h]
 simp only[AD,CI,Fk,DB]
 congr 1
 rw[Bool.eq_iff_iff]
 simp only[Bool.and_eq_true,decide_eq_true_eq,UInt32.le_iff_toNat_le,UInt32.lt_iff_toNat_lt,Lt,ex,ey,←dY hp hx,←dY hp hy]
 constructor
 rintro⟨⟨⟨⟨_,h1⟩,h2⟩,h3⟩,h4⟩
 exact⟨⟨h1,h2⟩,h3,h4⟩
 rintro⟨⟨h1,h2⟩,h3,h4⟩
 refine⟨⟨⟨⟨⟨⟨by omega,by omega⟩,?_⟩,h1⟩,h2⟩,h3⟩,h4⟩
 show max _ _<2147483648
 omega
theorem j7{c:Ch}{l:List As}{L:Nat}(A:AR c l L)(h0:0<L){r:As}(hr:r∈l):Fd c r.x r.y=some ((qd L r:Int),0):=by
 have hL:=A.le
 have hp:=Nat.two_pow_pos (L-1)
 obtain⟨i1,i2⟩:=A.inn r hr
 have mx:=VT A.cx A.lx (RJ hL)
 have my:=VT A.cy A.ly (RJ hL)
 have e2:2^L=2^(L-1)*2:=by rw[←Nat.pow_succ,Nat.succ_eq_add_one,Nat.sub_add_cancel h0]
 have hh:(shl64 1 L / 2).toUInt32.toNat=2^(L-1):=by
  rw[UInt64.toNat_toUInt32,UInt64.toNat_div,Yg hL,show(2:UInt64).toNat=2 from rfl,e2,Nat.mul_div_cancel _ zD]
  show _%4294967296=_
  have:2^(L-1)≤2^31:=Nat.pow_le_pow_right zD zO
  exact Nat.mod_eq_of_lt zO
 have hx2:c.x.toNat%2^(L-1)=0:=by
  have:=A.cx
  rw[e2]at this
  rw[←Nat.mod_mul_right_mod c.x.toNat (2^(L-1)) 2,this]
  simp
 have hy2:c.y.toNat%2^(L-1)=0:=by
  have:=A.cy
  rw[e2]at this
  rw[←Nat.mod_mul_right_mod c.y.toNat (2^(L-1)) 2,this]
  simp
 have gx:=MY (a:=c.x.toNat) h0
 have gy:=MY (a:=c.y.toNat) h0
 have rx:=MY (a:=r.x.toNat) h0
 have ry:=MY (a:=r.y.toNat) h0
 have cxe:c.x.toNat / 2^(L-1)%2=0:=by
  have:=A.cx
  rw[e2,Nat.mod_mul]at this
  have h5:2^(L-1)*(c.x.toNat / 2^(L-1)%2)=0:=zO
  rcases Nat.mul_eq_zero.1 h5 with h6 | h6
  omega
  exact h6
 have cye:c.y.toNat / 2^(L-1)%2=0:=by
  have:=A.cy
  rw[e2,Nat.mod_mul]at this
  have h5:2^(L-1)*(c.y.toNat / 2^(L-1)%2)=0:=zO
  rcases Nat.mul_eq_zero.1 h5 with h6 | h6
  omega
  exact h6
 generalize hhd:(shl64 1 L / 2).toUInt32=hf at hh
 
 have c0:∀a:UInt32,(a+hf*0)=a:=fun a=>by simp
 have c1:∀a:UInt32,a.toNat+2^L≤2147483648→(a+hf*1).toNat=a.toNat+2^(L-1):=fun a ha=>by
  rw[UInt32.mul_one,UInt32.toNat_add,hh]
  rw[e2]at ha
  omega
 have m1:∀a:Nat,a%2^(L-1)=0→(a+2^(L-1))%2^(L-1)=0:=fun a ha=>by simp[ha]
 have d1:∀a:Nat,(a+2^(L-1)) / 2^(L-1)=a / 2^(L-1)+1:=fun a=>Nat.add_div_right a hp
 have hlev:wI (c.lev-1)=((L-1:Nat):Int):=by rw[A.lev,DK zO zO];omega
 have hasq:∀(qx qy:UInt32) (bx by_:Nat),qx.toNat=c.x.toNat+bx*2^(L-1)→qy.toNat=c.y.toNat+by_*2^(L-1)→bx≤1→by_≤1→
   MZ ⟨qx,qy,((L-1:Nat):Int)⟩ r.x r.y=some (decide (r.x.toNat / 2^(L-1)%2=bx)&&decide (r.y.toNat / 2^(L-1)%2=by_)):=by
  intro qx qy bx by_ e1 e3 hbx hby
  have hxm:qx.toNat%2^(L-1)=0:=by
   rw[e1,Nat.add_mul_mod_self_right]
   exact hx2
  have hym:qy.toNat%2^(L-1)=0:=by
   rw[e3,Nat.add_mul_mod_self_right]
   exact hy2
  have bxl:bx*2^(L-1)≤2^(L-1):=by
   calc bx*2^(L-1)≤1*2^(L-1):=Nat.mul_le_mul_right _ hbx
    _=2^(L-1):=Nat.one_mul _
  have byl:by_*2^(L-1)≤2^(L-1):=by
   calc by_*2^(L-1)≤1*2^(L-1):=Nat.mul_le_mul_right _ hby
    _=2^(L-1):=Nat.one_mul _
  rw[dD (M:=L-1) r.x r.y rfl zO hxm hym (by rw[e1];omega) (by rw[e3];omega)]
  have f1:qx.toNat / 2^(L-1)=c.x.toNat / 2^(L-1)+bx:=by rw[e1];exact Nat.add_mul_div_right _ _ hp
  have f2:qy.toNat / 2^(L-1)=c.y.toNat / 2^(L-1)+by_:=by rw[e3];exact Nat.add_mul_div_right _ _ hp
  congr 2
  rw[decide_eq_decide]
  show r.x.toNat / 2^(L-1)=qx.toNat / 2^(L-1)↔_
  rw[f1]
  omega
  rw[decide_eq_decide]
  show r.y.toNat / 2^(L-1)=qy.toNat / 2^(L-1)↔_
  rw[f2]
  omega
 unfold Fd bY UX
 rw[AD,P3,A.ok,AD,show(!true||decide (c.lev=0))=false by rw[A.lev];simp;omega,CQ,size_eq A.lev,AD]
 have hq:RL (shl64 1 L) 2=some (shl64 1 L / 2):=by
  unfold RL
  rw[if_neg zD]
 rw[hq,AD,AD,hhd]
 unfold Er
 rw[hlev,c0,c0]
 have q00:=hasq c.x c.y 0 0 zS zS zO zO
 have q10:=hasq (c.x+hf*1) c.y 1 0 (by rw[c1 _ mx];omega) zS zO zO
 have q01:=hasq c.x (c.y+hf*1) 0 1 zS (by rw[c1 _ my];omega) zO zO
 have q11:=hasq (c.x+hf*1) (c.y+hf*1) 1 1 (by rw[c1 _ mx];omega) (by rw[c1 _ my];omega) zO zO
 unfold Ku qd
 simp only[VW,Io,q00,q10,q01,q11,AD]
 have bx:=Nat.mod_two_eq_zero_or_one (r.x.toNat / 2^(L-1))
 have by_:=Nat.mod_two_eq_zero_or_one (r.y.toNat / 2^(L-1))
 rcases bx with bx | bx<;>rcases by_ with by_ | by_<;>rw[bx,by_]<;>rfl
end

section
inductive WN {α β:Type} (R:α→β→Prop):List α→List β→Prop
 | nil:WN R [] []
 | cons {a b xs ys}:R a b→WN R xs ys→WN R (a::xs) (b::ys)
theorem WN.length{α β:Type}{R:α→β→Prop}{xs:List α}{ys:List β}(h:WN R xs ys):xs.length=ys.length:=by
 induction h with
 | nil=>rfl
 | cons _ _ ih=>simp[ih]
def Pu(L:Nat)(l:List As):List (List As):=[l.filter fun r=>decide (qd L r=0),l.filter fun r=>decide (qd L r=1),l.filter fun r=>decide (qd L r=2),l.filter fun r=>decide (qd L r=3)]
def NE(L:Nat)(l:List As):List (List As):=(Pu L l).filter fun p => !p.isEmpty
theorem fp(L:Nat)(r:As):qd L r<4:=by
 unfold qd
 omega
theorem Zf{c:Ch}{l:List As}{L:Nat}(A:AR c l L)(h0:0<L):∀(T:List As) (p:P4),(∀r∈T,r∈l)→p.1.length+p.2.1.length+p.2.2.1.length+p.2.2.2.length+T.length≤100000→
  MN c T p=some (p.1++T.filter (fun r=>decide (qd L r=0)),p.2.1++T.filter (fun r=>decide (qd L r=1)),p.2.2.1++T.filter (fun r=>decide (qd L r=2)),p.2.2.2++T.filter (fun r=>decide (qd L r=3)))
 | [],p,_,_=>by simp[MN]
 | r::T,p,hT,hb=>by
  simp only[List.length_cons]at hb
  have hw:=j7 A h0 (hT r zS)
  have h4:=fp L r
  have ih:=fun p hp=>Zf A h0 T p (fun q hq=>hT q (by simp[hq])) hp
  unfold MN TN
  rw[hw,AD]
  dsimp only
  rcases(show qd L r=0∨qd L r=1∨qd L r=2∨qd L r=3 by omega)with e | e | e | e
  rw[e,if_pos (show((0:Nat):Int)=0 from rfl),DX zQ zQ,AD,AD,ih _ zQ]
  simp[e]
  rw[e,if_neg zD,if_pos (show((1:Nat):Int)=1 from rfl),DX zQ zQ,AD,AD,ih _ zQ]
  simp[e]
  rw[e,if_neg zD,if_neg zD,if_pos (show((2:Nat):Int)=2 from rfl),DX zQ zQ,AD,AD,ih _ zQ]
  simp[e]
  rw[e,if_neg zD,if_neg zD,if_neg zD,if_pos (show((3:Nat):Int)=3 from rfl),DX zQ zQ,AD,AD,ih _ zQ]
  simp[e]
theorem bX(L:Nat)(l:List As):(Pu L l).flatten.Perm l:=by
 unfold Pu
 simp only[List.flatten_cons,List.flatten_nil,List.append_nil]
 induction l with
 | nil=>exact List.Perm.refl _
 | cons r l ih=>
  have h4:=fp L r
  rcases(show qd L r=0∨qd L r=1∨qd L r=2∨qd L r=3 by omega)with e | e | e | e<;>simp only[List.filter_cons,e,decide_true,if_true]<;>simp only[show decide ((0:Nat)=1)=false from rfl,show decide ((0:Nat)=2)=false from rfl,show decide ((0:Nat)=3)=false from rfl,show decide ((1:Nat)=0)=false from rfl,show decide ((1:Nat)=2)=false from rfl,show decide ((1:Nat)=3)=false from rfl,show decide ((2:Nat)=0)=false from rfl,show decide ((2:Nat)=1)=false from rfl,show decide ((2:Nat)=3)=false from rfl,show decide ((3:Nat)=0)=false from rfl,show decide ((3:Nat)=1)=false from rfl,show decide ((3:Nat)=2)=false from rfl,Bool.false_eq_true,if_false]
  all_goals
   refine List.perm_iff_count.2 fun x=>?_
   have:=List.perm_iff_count.1 ih x
   simp only[List.count_append,List.count_cons]at this ⊢
   omega
theorem VB(ps:List (List As)):(ps.filter fun p => !p.isEmpty).flatten=ps.flatten:=by
 induction ps with
 | nil=>rfl
 | cons p ps ih=>
  cases p with
  | nil=>simpa using ih
  | cons r p=>simp[ih]
theorem dn(L:Nat)(l:List As):(NE L l).flatten.Perm l:=by
 unfold NE
 rw[VB]
 exact bX L l
theorem UV{L:Nat}{l p:List As}(h:p∈NE L l):p≠[]∧∃i,p=l.filter fun r=>decide (qd L r=i):=by
 unfold NE at h
 obtain⟨h1,h2⟩:=List.mem_filter.1 h
 refine⟨by simpa using h2,?_⟩
 unfold Pu at h1
 simp only[List.mem_cons,List.not_mem_nil,or_false]at h1
 rcases h1 with rfl | rfl | rfl | rfl
 exact⟨0,rfl⟩
 exact⟨1,rfl⟩
 exact⟨2,rfl⟩
 exact⟨3,rfl⟩
theorem RK{L:Nat}{l p:List As}(h:p∈NE L l):p.Sublist l:=by
 obtain⟨_,i,rfl⟩:=UV h
 exact List.filter_sublist ..
theorem Ya(L:Nat)(l:List As):(NE L l).length≤4:=by
 unfold NE
 exact Nat.le_trans (List.length_filter_le ..) (Nat.le_refl 4)
theorem X5{L:Nat}{l:List As}{r:As}(h:r∈l):(l.filter fun s=>decide (qd L s=qd L r))∈NE L l:=by
 have h4:=fp L r
 unfold NE
 refine List.mem_filter.2 ⟨?_,?_⟩
 unfold Pu
 rcases(show qd L r=0∨qd L r=1∨qd L r=2∨qd L r=3 by omega)with e | e | e | e<;>rw[e]<;>simp
 have:r∈l.filter fun s=>decide (qd L s=qd L r):=List.mem_filter.2 ⟨h,by simp⟩
 cases hx:l.filter fun s=>decide (qd L s=qd L r)with
 | nil=>rw[hx]at this;simp at this
 | cons a b=>rfl
theorem UW{c:Ch}{l:List As}{L:Nat}(A:AR c l L)(h0:0<L):2≤(NE L l).length∧∀p∈NE L l,p.length<l.length:=by
 obtain⟨r,hr,s,hs,hne⟩:=A.two h0
 have h1:=X5 (L:=L) hr
 have h2:=X5 (L:=L) hs
 have hd:(l.filter fun q=>decide (qd L q=qd L r))≠(l.filter fun q=>decide (qd L q=qd L s)):=by
  intro e
  have:r∈l.filter fun q=>decide (qd L q=qd L r):=List.mem_filter.2 ⟨hr,by simp⟩
  rw[e]at this
  have:=(List.mem_filter.1 this).2
  simp only[decide_eq_true_eq]at this
  exact hne this
 constructor
 rcases hq:NE L l with _ | ⟨a,_ | ⟨b,q⟩⟩
 rw[hq]at h1;simp at h1
 rw[hq]at h1 h2
 simp only[List.mem_singleton]at h1 h2
 exact absurd (h1.trans h2.symm) hd
 simp
 intro p hp
 obtain⟨_,i,rfl⟩:=UV hp
 have:∃q∈l,qd L q≠i:=by
  by_cases e:qd L r=i
  exact⟨s,hs,fun e'=>hne (e.trans e'.symm)⟩
  exact⟨r,hr,e⟩
 obtain⟨q,hq,hqi⟩:=this
 rcases Nat.lt_or_ge (l.filter fun r=>decide (qd L r=i)).length l.length with h | h
 exact h
 have:=(List.filter_sublist (p:=fun r=>decide (qd L r=i)) (l:=l)).eq_of_length_le h
 have h5:=List.filter_eq_self.1 this q hq
 simp only[decide_eq_true_eq]at h5
 exact absurd h5 hqi
def Tr:Nat→List As→CZ→Prop
 | 0,_,_=>False
 | f+1,l,t=>(l=[]∧t=.mk 0 0 0 [] [])∨(l≠[]∧∃c L,AR c l L∧(((l.length≤4∨L=0)∧t=.mk c.x c.y c.lev l [])∨
   (4<l.length∧0<L∧∃ks,t=.mk c.x c.y c.lev [] ks∧WN (Tr f) (NE L l) ks)))
theorem YO{rec_:List As→Option CZ}{R:List As→CZ→Prop}:∀(ps:List (List As)) (acc:List CZ),(∀p∈ps,p≠[]→∃t,rec_ p=some t∧R p t)→acc.length+ps.length≤1000→∃ks,FG rec_ ps acc=some (acc++ks)∧WN R (ps.filter fun p => !p.isEmpty) ks
 | [],acc,_,_=>⟨[],by simp[FG],.nil⟩
 | p::ps,acc,h,hb=>by
  simp only[List.length_cons]at hb
  unfold FG
  cases p with
  | nil=>
   obtain⟨ks,h1,h2⟩:=YO ps acc (fun q hq=>h q (by simp[hq])) zO
   exact⟨ks,by simpa using h1,by simpa using h2⟩
  | cons r p=>
   obtain⟨t,ht,hR⟩:=h (r::p) zS zS
   obtain⟨ks,h1,h2⟩:=YO ps (acc++[t]) (fun q hq=>h q (by simp[hq])) zQ
   refine⟨t::ks,?_,?_⟩
   rw[zt (by simp only[List.length_cons];omega),DB,ht,AD,DX zQ zQ,AD,h1]
   simp
   simp only[List.filter_cons,List.isEmpty_cons,Bool.not_false,if_true]
   exact .cons hR h2
theorem eC{n:Nat}:∀(f:Nat) (l:List As),l.length<f→(∀r∈l,Nn r=true)→l.length≤1000→l.length<n→∃t,H3 n f l=some t∧Tr f l t
 | 0,l,h,_,_,_=>by omega
 | f+1,l,h,ok,hb,hn=>by
  unfold H3
  rw[if_neg zO]
  by_cases hl:l=[]
  subst hl
  exact⟨.mk 0 0 0 [] [],rfl,.inl ⟨rfl,rfl⟩⟩
  have hp:=List.length_pos_iff.2 hl
  obtain⟨c,L,hc,A⟩:=Z4 hl hn zO ok
  rw[zf zO,CQ,hc,AD]
  by_cases hleaf:l.length≤4∨L=0
  rw[show(decide ((l.length:Int)≤4)||decide (c.lev=0))=true by rw[A.lev];simp;omega,DB]
  unfold Q0
  rw[DX zQ zQ,AD]
  exact⟨_,rfl,.inr ⟨hl,c,L,A,.inl ⟨hleaf,rfl⟩⟩⟩
  have h0:0<L:=zO
  rw[show(decide ((l.length:Int)≤4)||decide (c.lev=0))=false by rw[A.lev];simp;omega,CQ,Zf A h0 l _ (fun r hr=>hr) zQ,AD]
  simp only[List.nil_append]
  obtain⟨_,h2⟩:=UW A h0
  obtain⟨ks,h3,h4⟩:=YO (rec_:=H3 n f) (R:=Tr f) (Pu L l) [] (fun p hp' hne=>by
   have hq:p∈NE L l:=List.mem_filter.2 ⟨hp',by simpa using hne⟩
   have:=h2 p hq
   exact eC f p zO (fun r hr=>ok r ((RK hq).subset hr)) zO zO) (by simp[Pu])
  unfold Pu at h3
  rw[h3,AD]
  exact⟨_,rfl,.inr ⟨hl,c,L,A,.inr ⟨by omega,h0,ks,by simp,h4⟩⟩⟩
theorem jD{n:Nat}{l:List As}(hn:1002≤n)(h:FB l=true):∃t,TG n l=some (t,0)∧H3 n n l=some t∧Tr n l t:=by
 have h':=h
 unfold FB at h'
 simp only[Bool.and_eq_true,decide_eq_true_eq]at h'
 have hb:l.length≤1000:=zO
 obtain⟨t,h1,h2⟩:=eC (n:=n) n l zO (fun r hr=>List.all_eq_true.1 h'.1.1 r hr) hb zO
 refine⟨t,?_,h1,h2⟩
 unfold TG
 rw[T2 l zO zO,AD,h,Bool.not_true,CQ,h1,AD]
end

section
theorem RA(l:List As):(OM l).length=max 1 ((l.length+3) / 4):=by
 unfold OM
 split
 rename_i h;subst h;rfl
 rename_i h
 have:=List.length_pos_iff.2 h
 simp
 omega
theorem fQ{l p:List As}(h:p∈OM l):p.length≤4∧p.Sublist l:=by
 unfold OM at h
 split at h
 rename_i hl
 subst hl
 simp only[List.mem_singleton]at h
 subst h
 exact⟨by simp,List.Sublist.refl _⟩
 obtain⟨i,_,rfl⟩:=List.mem_map.1 h
 exact⟨by simp;omega,(List.take_sublist ..).trans (List.drop_sublist ..)⟩
theorem Wi{l p:List As}(h:FB l=true)(hs:p.Sublist l):FB p=true:=by
 unfold FB at h ⊢
 simp only[Bool.and_eq_true,decide_eq_true_eq]at h ⊢
 refine⟨⟨List.all_eq_true.2 fun r hr=>List.all_eq_true.1 h.1.1 r (hs.subset hr),(Wk p).2 (((Wk l).1 h.1.2).sublist hs)⟩,?_⟩
 have:=hs.length_le
 omega
abbrev bM(l:List As)(r:Bb):Dc:=⟨1,0,0,0,l,[],r.page,r.tag⟩
abbrev VO(t:CZ)(rs:List Bb):Dc:=⟨2,t.cx,t.cy,t.lev,[],rs,0,[]⟩
def cV:List (List As)→Bb→List BT→Bb→Prop
 | [],r0,seg,r=>seg=[]∧r=r0
 | l::ls,r0,seg,r=>∃r1 seg',I4 (bM l r0)=true∧seg=⟨Q2 (bM l r0),r1.page,r1.tag⟩::seg'∧cV ls r1 seg' r
def gR(R:CZ→List BT→Bb→Prop):List CZ→List BT→List Bb→Prop
 | [],seg,rs=>seg=[]∧rs=[]
 | k::ks,seg,rs=>∃s1 r1 s2 rs',R k s1 r1∧gR R ks s2 rs'∧seg=s1++s2∧rs=r1::rs'
def XK:Nat→CZ→List BT→Bb→Prop
 | 0,_,_,_=>False
 | f+1,t,seg,r=>(t.rows.length≤1000∧t.kids.length≤1000)∧((t.kids=[]∧cV (OM t.rows).reverse ⟨0,[]⟩ seg r)∨(t.kids≠[]∧∃segs rs,gR (XK f) t.kids segs rs∧I4 (VO t rs)=true∧seg=segs++[⟨Q2 (VO t rs),r.page,r.tag⟩]))
def PM:Nat→CZ→Nat
 | 0,_=>0
 | f+1,t=>if t.kids.length=0 then max 1 ((t.rows.length+3) / 4)else(t.kids.map (PM f)).sum+1
theorem cV.len:∀ {ls:List (List As)} {r0 r:Bb} {seg:List BT} ,cV ls r0 seg r→seg.length=ls.length
 | [],_,_,_,h=>by rw[h.1];rfl
 | _::_,_,_,_,h=>by
  obtain⟨r1,seg',_,e,h'⟩:=h
  rw[e,List.length_cons,cV.len h',List.length_cons]
theorem gR.len{R:CZ→List BT→Bb→Prop}{g:CZ→Nat}(hg:∀k s r,R k s r→s.length=g k):∀ {ks:List CZ} {seg:List BT} {rs:List Bb},gR R ks seg rs→seg.length=(ks.map g).sum∧rs.length=ks.length
 | [],_,_,h=>by rw[h.1,h.2];simp
 | k::ks,_,_,h=>by
  obtain⟨s1,r1,s2,rs',h1,h2,e1,e2⟩:=h
  have ih:=gR.len hg h2
  rw[e1,e2,List.length_append,hg _ _ _ h1,ih.1,List.length_cons,ih.2]
  simp
theorem XK.len:∀(f:Nat) {t:CZ} {seg:List BT} {r:Bb} ,XK f t seg r→seg.length=PM f t
 | 0,_,_,_,h=>h.elim
 | f+1,t,seg,r,h=>by
  rcases h.2 with⟨h1,h2⟩ | ⟨h1,segs,rs,h2,_,e⟩
  rw[h2.len,PM,if_pos (by rw[h1];rfl),List.length_reverse,RA]
  have h0:=List.length_pos_iff.2 h1
  rw[e,PM,if_neg zO,List.length_append,(gR.len (fun k s r hr=>XK.len f hr) h2).1]
  rfl
def XJ{σ:Type}(wh:Wo σ):σ→List BT→σ→Prop
 | q,[],q'=>q=q'
 | q,s::ss,q'=>∃q1,wh q s.txt=some ((⟨s.page,s.tag⟩,0),q1)∧XJ wh q1 ss q'
theorem XJ.join{σ:Type}{wh:Wo σ}:∀ {a b:List BT} {q q1 q':σ},XJ wh q a q1→XJ wh q1 b q'→XJ wh q (a++b) q'
 | [],_,_,_,_,h,h'=>by cases h;exact h'
 | _::_,_,_,_,_,⟨q1,h1,h2⟩,h'=>⟨q1,h1,h2.join h'⟩
variable {σ:Type}{wh:Wo σ}{n:Nat}
structure ga{σ:Type}(wh:Wo σ)(Inv:σ→Prop)(Good:σ→BT→Prop)(room:σ→Nat):Prop where
 step:∀q s,Inv q→s.length≤198→∃r e q',wh q s=some ((r,e),q')∧Inv q'∧(∀x,Good q x→Good q' x)∧((e=0∧FA r=true∧Good q' ⟨s,r.page,r.tag⟩∧room q≤room q'+1)∨(e=110∧room q=0))
def i3(wh:Wo σ)(Inv:σ→Prop)(Good:σ→BT→Prop)(room:σ→Nat)(k:Nat)(Run:List BT→Prop)(p:LI)(q:σ)(p':LI)(q':σ):Prop:=
 Inv q'∧(∀x,Good q x→Good q' x)∧((p'.wrong=0∧∃seg,p'.out=p.out++seg∧seg.length=k∧Run seg∧XJ wh q seg q'∧(∀x∈seg,Good q' x)∧room q≤room q'+k)∨(p'.wrong=110∧room q<k))
variable {Inv:σ→Prop}{Good:σ→BT→Prop}{room:σ→Nat}
theorem Sm{x:Dc}{p:LI}{q:σ}(h:p.wrong≠0):J2 n wh x p q=some (⟨0,[]⟩,(p,q)):=by
 unfold J2
 rw[zf h]
 rfl
theorem X7{α:Type}(f:α→List UInt8)(m:Nat):∀(l:List α),(∀a∈l,(f a).length≤m)→(l.map f).flatten.length≤m*l.length
 | [],_=>by simp
 | a::l,h=>by
  have h1:=h a zS
  have h2:=X7 f m l (fun b hb=>h b (by simp[hb]))
  simp only[List.map_cons,List.flatten_cons,List.length_append,List.length_cons,Nat.mul_add,Nat.mul_one]
  omega
theorem jI{x:Dc}(h:I4 x=true):(Q2 x).length≤198:=by
 unfold Q2
 by_cases hk:x.kind=1
 obtain⟨h1,h2,h3,h4,h5,h6,h7⟩:=VU h hk
 have h32:x.ntag.length≤32:=by
  rcases h7 with h7 | h7
  rw[h7.2];simp
  have:=(PO h7).1
  simp only at this
  omega
 have:=X7 O4 33 x.rows (fun r hr=>by rw[U3];have:=Wj h6 r hr;omega)
 have h36:=Oa (r:=⟨x.npage,x.ntag⟩) h32
 rw[show decide (x.kind=2)=false by rw[hk];rfl,CQ]
 simp only[List.length_append,B9,h36]
 omega
 obtain⟨hk2,h1,h2,h3,h4,h5,h6,h7,h8⟩:=Tx h hk
 have:=X7 LY 36 x.kids (fun r hr=>by rw[Oa (by have:=(PO (h1 r hr)).1;omega)];exact Nat.le_refl _)
 rw[show decide (x.kind=2)=true by rw[hk2];rfl,DB]
 simp only[List.length_append,B9]
 omega
theorem Ze(W:ga wh Inv Good room)(hn:10≤n){x:Dc}{p:LI}{q:σ}(h:I4 x=true)(hi:Inv q)(hw:p.wrong=0)(hb:p.out.length≤100000):
  ∃r p' q',J2 n wh x p q=some (r,(p',q'))∧(p'.wrong=0→FA r=true)∧i3 wh Inv Good room 1 (fun seg=>seg=[⟨Q2 x,r.page,r.tag⟩]) p q p' q':=by
 obtain⟨r,e,q',h1,h2,h3,h4⟩:=W.step q (Q2 x) hi (jI h)
 unfold J2
 rw[hw,show(!decide ((0:Int)=0))=false from rfl,CQ,fL hn h,AD,show decide ((0:Int)=0)=true from rfl,DB,h1,AD]
 unfold YY
 rcases h4 with⟨rfl,h5,h6,h7⟩ | ⟨rfl,h5⟩
 rw[show(!decide ((0:Int)=0))=false from rfl,CQ,DX zQ zQ,AD]
 exact⟨r,_,q',rfl,fun _=>h5,h2,h3,.inl ⟨hw,_,rfl,rfl,rfl,⟨q',h1,rfl⟩,fun y hy=>by rw[List.mem_singleton.1 hy];exact h6,h7⟩⟩
 rw[show(!decide ((110:Int)=0))=true from rfl,DB]
 exact⟨⟨0,[]⟩,_,q',rfl,fun h0=>absurd h0 (show ¬((110:Int)=0) by decide),h2,h3,.inr ⟨rfl,by omega⟩⟩
theorem Zj(W:ga wh Inv Good room)(hn:10≤n):∀(ls:List (List As)) (r0:Bb) (p:LI) (q:σ),(∀l∈ls,l.length≤4∧FB l=true)→(r0=⟨0,[]⟩∨FA r0=true)→Inv q→p.wrong=0→p.out.length+ls.length≤100000→
  ∃r p' q',Oj n wh ls r0 p q=some (r,(p',q'))∧(p'.wrong=0→FA r=true∨(ls=[]∧r=r0))∧i3 wh Inv Good room ls.length (fun seg=>cV ls r0 seg r) p q p' q'
 | [],r0,p,q,hl,h0,hi,hw,hb=>⟨r0,p,q,rfl,fun _=>.inr ⟨rfl,rfl⟩,hi,fun _ h=>h,.inl ⟨hw,[],by simp,rfl,⟨rfl,rfl⟩,rfl,by simp,by simp⟩⟩
 | l::ls,r0,p,q,hl,h0,hi,hw,hb=>by
  obtain⟨l4,lr⟩:=hl l zS
  simp only[List.length_cons]at hb
  have hok:I4 (bM l r0)=true:=by
   unfold I4 bM
   rw[show decide ((1:Int)=1)=true from rfl,DB,lr]
   have:(So ⟨r0.page,r0.tag⟩||FA ⟨r0.page,r0.tag⟩)=true:=by
    rcases h0 with rfl | h0
    rfl
    rw[show FA ⟨r0.page,r0.tag⟩=true from h0];simp
   rw[this]
   simp
   omega
  obtain⟨r1,p1,q1,e1,k1,i1,g1,s1⟩:=Ze W hn hok hi hw zO
  unfold Oj
  rw[show J2 n wh ⟨1,0,0,0,l,[],r0.page,r0.tag⟩ p q=some (r1,(p1,q1))from e1,AD]
  rcases s1 with⟨w1,seg1,o1,le1,rfl,pa1,go1,ro1⟩ | ⟨w1,ro1⟩
  rw[w1,show(!decide ((0:Int)=0))=false from rfl,CQ]
  obtain⟨r,p',q',e2,k2,i2,g2,s2⟩:=Zj W hn ls r1 p1 q1 (fun q hq=>hl q (by simp[hq])) (.inr (k1 w1)) i1 w1 (by rw[o1];simp;omega)
  refine⟨r,p',q',e2,fun h=>?_,i2,fun x hx=>g2 x (g1 x hx),?_⟩
  rcases k2 h with h | ⟨_,h⟩
  exact .inl h
  rw[h]
  exact .inl (k1 w1)
  rcases s2 with⟨w2,seg2,o2,le2,ru2,pa2,go2,ro2⟩ | ⟨w2,ro2⟩
  refine .inl ⟨w2,_::seg2,by rw[o2,o1];simp,by simp[le2],⟨r1,seg2,hok,rfl,ru2⟩,pa1.join pa2,fun x hx=>?_,?_⟩
  rcases List.mem_cons.1 hx with rfl | hx
  exact g2 _ (go1 _ zS)
  exact go2 x hx
  simp only[List.length_cons]
  omega
  exact .inr ⟨w2,by simp only[List.length_cons];omega⟩
  rw[w1,show(!decide ((110:Int)=0))=true from rfl,DB]
  exact⟨r1,p1,q1,rfl,fun h=>absurd (w1.symm.trans h) zD,i1,g1,.inr ⟨w1,by simp only[List.length_cons];omega⟩⟩
theorem Tr.rows:∀ {f:Nat} {l:List As} {t:CZ} ,Tr f l t→t.rows.length≤l.length∧t.kids.length≤4
 | 0,_,_,h=>h.elim
 | f+1,l,t,h=>by
  rcases h with⟨rfl,rfl⟩ | ⟨_,c,L,A,⟨_,rfl⟩ | ⟨_,_,ks,rfl,hk⟩⟩
  simp[CZ.rows,CZ.kids]
  simp[CZ.rows,CZ.kids]
  have:=hk.length
  have:=Ya L l
  simp only[CZ.rows,CZ.kids,List.length_nil]
  omega
theorem Sk{rec_:CZ→LI→σ→Option (Bb×(LI×σ))}{p:LI}{q:σ}:∀(ks:List CZ) (acc:List Bb),(∀k∈ks,∃r,rec_ k p q=some (r,(p,q)))→acc.length+ks.length≤1000→∃rs,LC rec_ ks p q acc=some (acc++rs,(p,q))
 | [],acc,_,_=>⟨[],by simp[LC]⟩
 | k::ks,acc,h,hb=>by
  simp only[List.length_cons]at hb
  obtain⟨r,hr⟩:=h k zS
  obtain⟨rs,h'⟩:=Sk ks (acc++[r]) (fun j hj=>h j (by simp[hj])) zQ
  refine⟨r::rs,?_⟩
  unfold LC
  rw[hr,AD,DX zQ zQ,AD,h']
  simp
theorem WN.right{α β:Type}{R:α→β→Prop}{xs:List α}{ys:List β}(h:WN R xs ys):∀y∈ys,∃x∈xs,R x y:=by
 induction h with
 | nil=>simp
 | cons h1 _ ih=>
  intro y hy
  rcases List.mem_cons.1 hy with rfl | hy
  exact⟨_,by simp,h1⟩
  obtain⟨x,hx,hR⟩:=ih y hy
  exact⟨x,by simp[hx],hR⟩
theorem We{p:LI}{q:σ}(hw:p.wrong≠0):∀(f:Nat) {l:List As} {t:CZ},Tr f l t→l.length≤1000→∃r,H8 n wh f t p q=some (r,(p,q))
 | 0,_,_,h,_=>h.elim
 | f+1,l,t,h,hl=>by
  have hb:=Tr.rows h
  unfold H8
  rw[if_neg zO]
  by_cases h0:0<(t.kids.length:Int)
  rw[zt h0,DB]
  have hk:∀k∈t.kids,∃r,H8 n wh f k p q=some (r,(p,q)):=by
   rcases h with⟨rfl,rfl⟩ | ⟨_,c,L,A,⟨_,rfl⟩ | ⟨_,_,ks,rfl,hk⟩⟩
   simp[CZ.kids]
   simp[CZ.kids]
   intro k hkm
   obtain⟨l',hl',hT⟩:=hk.right k hkm
   exact We hw f hT (by have:=(RK hl').length_le;omega)
  obtain⟨acc',h'⟩:=Sk (rec_:=H8 n wh f) t.kids [] hk zQ
  rw[h',AD,Sm hw]
  exact⟨_,rfl⟩
  rw[zf h0,CQ]
  rcases hls:(OM t.rows).reverse with _ | ⟨x,ls⟩
  exact⟨_,rfl⟩
  unfold Oj
  rw[Sm hw,AD,zf hw]
  exact⟨_,rfl⟩
theorem ZT{rec_:CZ→LI→σ→Option (Bb×(LI×σ))}{R:CZ→List BT→Bb→Prop}{g:CZ→Nat}:∀(ks:List CZ) (acc:List Bb) (p:LI) (q:σ),
  (∀k∈ks,∀p q,Inv q→p.wrong=0→p.out.length+g k≤100000→∃r p' q',rec_ k p q=some (r,(p',q'))∧(p'.wrong=0→FA r=true)∧i3 wh Inv Good room (g k) (fun seg=>R k seg r) p q p' q')→
  (∀k∈ks,∀p q,p.wrong≠0→∃r,rec_ k p q=some (r,(p,q)))→Inv q→p.wrong=0→p.out.length+(ks.map g).sum≤100000→acc.length+ks.length≤1000→
  ∃rs p' q',LC rec_ ks p q acc=some (acc++rs,(p',q'))∧(p'.wrong=0→∀r∈rs,FA r=true)∧i3 wh Inv Good room (ks.map g).sum (fun seg=>gR R ks seg rs) p q p' q'
 | [],acc,p,q,_,_,hi,hw,_,_=>⟨[],p,q,by simp[LC],by simp,hi,fun _ h=>h,.inl ⟨hw,[],by simp,rfl,⟨rfl,rfl⟩,rfl,by simp,by simp⟩⟩
 | k::ks,acc,p,q,hk,hkw,hi,hw,hb,ha=>by
  simp only[List.map_cons,List.sum_cons,List.length_cons]at hb ha
  obtain⟨r1,p1,q1,e1,k1,i1,g1,s1⟩:=hk k zS p q hi hw zO
  unfold LC
  rw[e1,AD,DX zQ zQ,AD]
  rcases s1 with⟨w1,seg1,o1,le1,ru1,pa1,go1,ro1⟩ | ⟨w1,ro1⟩
  obtain⟨rs,p',q',e2,k2,i2,g2,s2⟩:=ZT ks (acc++[r1]) p1 q1 (fun j hj=>hk j (by simp[hj])) (fun j hj=>hkw j (by simp[hj])) i1 w1 (by rw[o1];simp;omega) zQ
  refine⟨r1::rs,p',q',by simpa using e2,fun h r hr=>?_,i2,fun x hx=>g2 x (g1 x hx),?_⟩
  rcases List.mem_cons.1 hr with rfl | hr
  exact k1 w1
  exact k2 h r hr
  rcases s2 with⟨w2,seg2,o2,le2,ru2,pa2,go2,ro2⟩ | ⟨w2,ro2⟩
  refine .inl ⟨w2,seg1++seg2,by rw[o2,o1];simp,by simp[le1,le2],⟨seg1,r1,seg2,rs,ru1,ru2,rfl,rfl⟩,pa1.join pa2,fun x hx=>?_,?_⟩
  rcases List.mem_append.1 hx with hx | hx
  exact g2 _ (go1 _ hx)
  exact go2 x hx
  simp only[List.map_cons,List.sum_cons]
  omega
  exact .inr ⟨w2,by simp only[List.map_cons,List.sum_cons];omega⟩
  obtain⟨acc',h'⟩:=Sk (rec_:=rec_) (p:=p1) (q:=q1) ks (acc++[r1]) (fun j hj=>hkw j (by simp[hj]) p1 q1 (by rw[w1];decide)) zQ
  exact⟨r1::acc',p1,q1,by simpa using h',fun h=>absurd (w1.symm.trans h) zD,i1,g1,.inr ⟨w1,by simp only[List.map_cons,List.sum_cons];omega⟩⟩
theorem Zc(W:ga wh Inv Good room)(hn:10≤n):∀(f:Nat) (l:List As) (t:CZ) (p:LI) (q:σ),Tr f l t→FB l=true→Inv q→p.wrong=0→p.out.length+PM f t≤100000→
  ∃r p' q',H8 n wh f t p q=some (r,(p',q'))∧(p'.wrong=0→FA r=true)∧i3 wh Inv Good room (PM f t) (fun seg=>XK f t seg r) p q p' q'
 | 0,_,_,_,_,h,_,_,_,_=>h.elim
 | f+1,l,t,p,q,h,hr,hi,hw,hb=>by
  have hl:l.length≤1000:=by
   unfold FB at hr
   simp only[Bool.and_eq_true,decide_eq_true_eq]at hr
   omega
  have hbd:=Tr.rows h
  have leaf:t.kids=[]→FB t.rows=true→∃r p' q',H8 n wh (f+1) t p q=some (r,(p',q'))∧(p'.wrong=0→FA r=true)∧i3 wh Inv Good room (PM (f+1) t) (fun seg=>XK (f+1) t seg r) p q p' q':=by
   intro hk hrr
   have hpg:PM (f+1) t=(OM t.rows).reverse.length:=by rw[PM,if_pos (by rw[hk];rfl),List.length_reverse,RA]
   obtain⟨r,p',q',e,k,i,g,s⟩:=Zj W hn (OM t.rows).reverse ⟨0,[]⟩ p q (fun x hx=>by
    have:=fQ (List.mem_reverse.1 hx)
    exact⟨this.1,Wi hrr this.2⟩) (.inl rfl) hi hw zO
   refine⟨r,p',q',?_,fun h0=>?_,i,g,?_⟩
   unfold H8
   rw[if_neg zO,zf (by rw[hk];simp),CQ]
   exact e
   rcases k h0 with h1 | ⟨h1,_⟩
   exact h1
   have:=congrArg List.length h1
   rw[List.length_reverse,RA,List.length_nil]at this
   omega
   rw[hpg]
   rcases s with⟨w,seg,o,le,ru,pa,go,ro⟩ | s
   exact .inl ⟨w,seg,o,le,⟨⟨by omega,by omega⟩,.inl ⟨hk,ru⟩⟩,pa,go,ro⟩
   exact .inr s
  rcases h with⟨rfl,rfl⟩ | ⟨_,c,L,A,⟨_,rfl⟩ | ⟨h4,hL,ks,rfl,hk⟩⟩
  exact leaf rfl hr
  exact leaf rfl hr
  have hkl:=hk.length
  have hq4:=Ya L l
  have hq2:=(UW A hL).1
  have hpg:PM (f+1) (.mk c.x c.y c.lev [] ks)=(ks.map (PM f)).sum+1:=by
   rw[PM,if_neg (by simp only[CZ.kids];omega)]
   rfl
  rw[hpg]at hb ⊢
  obtain⟨rs,p1,q1,e1,k1,i1,g1,s1⟩:=ZT (wh:=wh) (Inv:=Inv) (Good:=Good) (room:=room) (rec_:=H8 n wh f) (R:=XK f) (g:=PM f) ks [] p q (fun k hkm p q hi hw hb=>by
   obtain⟨l',hl',hT⟩:=hk.right k hkm
   exact Zc W hn f l' k p q hT (Wi hr (RK hl')) hi hw hb) (fun k hkm p q hw=>by
   obtain⟨l',hl',hT⟩:=hk.right k hkm
   exact We hw f hT (by have:=(RK hl').length_le;omega)) hi hw zO zQ
  have hrun:H8 n wh (f+1) (.mk c.x c.y c.lev [] ks) p q=J2 n wh (VO (.mk c.x c.y c.lev [] ks) rs) p1 q1:=by
   unfold H8
   rw[if_neg zO,zt (by simp only[CZ.kids];omega),DB,show(CZ.mk c.x c.y c.lev [] ks).kids=ks from rfl,e1,AD]
   rfl
  rw[hrun]
  rcases s1 with⟨w1,seg1,o1,le1,ru1,pa1,go1,ro1⟩ | ⟨w1,ro1⟩
  have hrl:=(gR.len (fun k s r hr=>XK.len f hr) ru1).2
  have hok:I4 (VO (.mk c.x c.y c.lev [] ks) rs)=true:=by
   unfold I4 VO
   rw[show decide ((2:Int)=1)=false from rfl,CQ,show decide ((2:Int)=2)=true from rfl,DB]
   have h5:rs.all FA=true:=List.all_eq_true.2 (k1 w1)
   have h6:OZ ⟨c.x,c.y,c.lev⟩=true:=A.ok
   have h7:=A.lev
   show(((rs.all FA&&decide ((([]:List As).length:Int)=0))&&So ⟨0,[]⟩&&decide (2≤(rs.length:Int)))&&decide ((rs.length:Int)≤4)&&OZ ⟨c.x,c.y,c.lev⟩&&decide (0<c.lev))=true
   rw[h5,h6,zt (show 2≤(rs.length:Int) by omega),zt (show(rs.length:Int)≤4 by omega),zt (show 0<c.lev by omega)]
   rfl
  obtain⟨r,p',q',e2,k2,i2,g2,s2⟩:=Ze W hn hok i1 w1 (by rw[o1];simp;omega)
  refine⟨r,p',q',e2,k2,i2,fun x hx=>g2 x (g1 x hx),?_⟩
  rcases s2 with⟨w2,seg2,o2,le2,rfl,pa2,go2,ro2⟩ | ⟨w2,ro2⟩
  refine .inl ⟨w2,seg1++[_],by rw[o2,o1];simp,by simp[le1],⟨⟨by simp[CZ.rows],by simp only[CZ.kids];omega⟩,.inr ⟨by
   intro e
   have:ks=[]:=e
   rw[this,List.length_nil]at hkl
   omega,seg1,rs,ru1,hok,rfl⟩⟩,pa1.join pa2,fun x hx=>?_,by omega⟩
  rcases List.mem_append.1 hx with hx | hx
  exact g2 _ (go1 _ hx)
  exact go2 x hx
  exact .inr ⟨w2,by omega⟩
  rw[Sm (by rw[w1];decide)]
  exact⟨_,p1,q1,rfl,fun h=>absurd (w1.symm.trans h) zD,i1,g1,.inr ⟨w1,by omega⟩⟩
end

section
variable {K:Nat→Prop}{w0:World}{H:List AZ}
end

section
variable {K:Nat→Prop}{w0:World}{H:List AZ}
end

section
variable {K:Nat→Prop}{w0:World}{H:List AZ}
end

section
def sg(l:List As):Prop:=l.Pairwise fun a b=>a.id≤b.id
inductive SB (bs:Nat):List As→Prop
 | last (S:List As):S.length≤bs→sg S→SB bs S
 | more (S R:List As):S.length=bs→sg S→SB bs R→SB bs (S++R)
end

section
variable {n:Nat}{T:List UInt32}{v:A5}{d:Ao}
end

section
theorem cV.lastE:∀ {ls:List (List As)} {r0 r:Bb} {seg:List BT} ,ls≠[]→cV ls r0 seg r→∃a s,seg=a++[⟨s,r.page,r.tag⟩]
 | [],_,_,_,h,_=>absurd rfl h
 | l::ls,r0,seg,r,_,h=>by
  obtain⟨r1,seg',h1,rfl,h2⟩:=h
  rcases ls with _ | ⟨l2,ls⟩
  obtain⟨rfl,rfl⟩:=h2
  exact⟨[],_,rfl⟩
  obtain⟨a,s,rfl⟩:=cV.lastE zS h2
  exact⟨_::a,s,rfl⟩
theorem XK.lastE{f:Nat}{t:CZ}{seg:List BT}{r:Bb}(h:XK f t seg r):∃a s,seg=a++[⟨s,r.page,r.tag⟩]:=by
 cases f with
 | zero=>exact h.elim
 | succ f=>
  rcases h.2 with⟨_,h2⟩ | ⟨_,segs,rs,_,_,rfl⟩
  refine cV.lastE ?_ h2
  intro e
  have:=congrArg List.length e
  rw[List.length_reverse,RA,List.length_nil]at this
  omega
  exact⟨segs,_,rfl⟩
end



section
theorem kB{n:Int}(h0:0≤n)(h1:n≤1048576):E7 n=some (List.replicate n.toNat 0):=by
 unfold E7 fU
 rw[if_pos ⟨h0,by omega,by omega⟩,AD]
def Wz(d:Ao):Bool := !(d.isCut&&decide (d.lasts=0)||d.off)
def I3(d:Ao):Ao:={ d with lasts:=if d.isCut then wI (d.lasts-1)else d.lasts,counts:=wI (d.counts+1) }
def bP(d:Ao):Ao:={ d with off:=true }
theorem TP(d:Ao):DU d=some (if Wz d then(0,I3 d)else(71,bP d)):=by
 obtain⟨off,isCut,lasts,counts,bl,pd,bd,rc,rt,rb⟩:=d
 unfold DU Eh Ei
 by_cases h0:lasts=0<;>cases off<;>cases isCut<;>simp[Wz,I3,bP,h0]
def lq(d:Ao)(r:Ao):Int×Ao:=if Wz d then(0,r)else(71,bP d)
theorem bH(d:Ao)(p:UInt32):On d p=some (decide (p.toNat<d.blocks.length)):=by
 unfold On
 rw[CI]
 congr 1
 simp
theorem j9{d:Ao}{p:UInt32}{s:List UInt8}(hp:p.toNat<d.blocks.length)(hs:s.length=256)(hm:d.pend.length<9223372036854775807):Ij d p s=some (lq d { I3 d with pend:=Mb d.pend p s }):=by
 unfold Ij KC
 rw[bH,AD,CI,zt hp,hs]
 simp only[TP,AD]
 cases h:Wz d
 simp[lq,h,bP]
 simp only[lq,h,if_true]
 have:(I3 d).pend=d.pend:=rfl
 simp[ND,this,hm]
def Ic(d:Ao)(p:UInt32):List UInt8:=(C0 d.pend p).getD (d.blocks.getD p.toNat [])
theorem jQ{d:Ao}{p:UInt32}(hp:p.toNat<d.blocks.length):Sa d p=some (Ic d p):=by
 unfold Sa Ic
 rw[CI,CI]
 cases h:C0 d.pend p with
 | some s=>simp
 | none=>
  rw[HO,List.getElem?_eq_getElem hp]
  simp[hp]
theorem mN{d:Ao}{p:UInt32}(hp:p.toNat<d.blocks.length):MD d p=some (if d.off then([],71)else if(C0 d.bad p).getD false then([],70)else(Ic d p,0)):=by
 unfold MD
 rw[bH,AD,CI,zt hp,jQ hp]
 cases d.off
 cases h:(C0 d.bad p).getD false<;>simp[CI,h]
 simp
theorem pf{n:Int}(h1:4≤n)(h2:n≤4096):JU n=some (some { off:=false,isCut:=false,lasts:=0,counts:=0,blocks:=List.replicate n.toNat (List.replicate 256 0),pend:=[],bad:=[],rcnt:=0,rtag:=List.replicate 32 0,rboots:=0 },0):=by
 unfold JU Sp bq
 have e:(decide (n<4)||decide (4096<n))=false:=by simp;omega
 rw[e,CQ]
 simp only[AD]
 rw[if_pos zS,AD,if_pos zS,AD,if_pos ⟨by omega,by omega⟩,AD]
 rfl
theorem pg{d r:Ao}(h:Wz d=true):lq d r=(0,r):=by simp[lq,h]
end



section
theorem Yb(l:List BV)(hl:l.length≤1048576){n:Nat}(hm:16<n):Gu n l=some (DV l):=by
 unfold Gu DV
 by_cases h16:l.length≤16
 rw[show decide (16<(l.length:Int))=false by simp;omega,show decide (l.length≤16)=true by simp[h16]]
 simp only[CQ,Bool.true_and]
 unfold Jy
 refine(congrArg (CO _ n) ?_).trans ((jW (fun i=>(Kc l i,(i:Int))) (fun i=>some (((LQ l).drop i).all (·.2))) l.length (fun i hi k hk=>?_) (fun k=>?_) zO).trans ?_)
 rfl
 have ei:((i+1:Nat):Int)=(i:Int)+1:=zO
 have st:(LQ l).drop i=((l.getD i GU).gen,ON l i)::(LQ l).drop (i+1):=by
  rw[List.drop_eq_getElem_cons (by rw[P8];exact hi)]
  congr 1
  exact zI ((List.getElem?_eq_getElem _).symm.trans (UN l i hi))
 dsimp only at hk ⊢
 rw[st,List.all_cons]
 simp only[GH,show decide ((i:Int)<(l.length:Int))=true by simp;omega,DB]
 rw[Cw (k:=i) GU rfl hi,AD,AD]
 have hko:ON l i = !((decide ((l.getD i GU).gen≤Kc l i))||(!decide (((l.getD i GU).secret.length:Int)=32))):=by
  unfold ON
  rw[Bool.not_or,Bool.not_not]
  congr 1
  rw[Bool.eq_iff_iff]
  simp[UInt32.not_le]
 generalize hg:(decide ((l.getD i GU).gen≤Kc l i))=p at hko
 generalize (!decide (((l.getD i GU).secret.length:Int)=32))=q at hko
 have ho:V0 p (some q)=some (p||q):=by cases p<;>rfl
 rw[ho,AD,hko]
 cases hpq:(p||q)with
 | true=>simp only[DB,Bool.not_true,Bool.false_and]
 | false=>
  simp only[CQ,Bool.not_false,Bool.true_and]
  rw[AD,CI,DK zO zO,←ei]
  exact hk
 simp only[GH,show decide ((l.length:Int)<(l.length:Int))=false by simp,CQ,Jx]
 rw[List.drop_of_length_le (by rw[P8];exact Nat.le_refl _)]
 rfl
 simp
 rw[show decide (16<(l.length:Int))=true by simp;omega,show decide (l.length≤16)=false by simp;omega]
 rfl
theorem iK(l:List BV)(g:UInt32)(hl:l.length≤1048576){n:Nat}(hm:16<n):JY n l g=some (DR l g):=by
 unfold JY
 rw[Yb l hl hm,AD]
 cases hr:DV l with
 | false=>
  simp only[Bool.not_false,DB]
  unfold DR
  rw[if_pos hr]
  rfl
 | true=>
  simp only[Bool.not_true,CQ]
  have h16:=((N9 l).1 hr).1
  unfold LA
  have hno:(∀k∈l,k.gen≠g)→DR l g=(GU,41):=fun h=>by
   unfold DR
   rw[if_neg (by simp[hr])]
   split
   rename_i k hk
   rw[if_neg (h k (List.mem_of_getElem? hk))]
   rfl
  refine(congrArg (CO _ n) ?_).trans (jX (fun i=>((0:UInt32),([]:List UInt8),(i:Int))) (fun i=>∀k∈l.take i,k.gen≠g) l.length (fun i hi hp k hk=>?_) (fun hp k=>?_) zS zO)
  rfl
  have ei:((i+1:Nat):Int)=(i:Int)+1:=zO
  have hgi:l[i]? = some (l.getD i GU):=Jb GU hi
  dsimp only at hk ⊢
  simp only[Gt,show decide ((i:Int)<(l.length:Int))=true by simp;omega,DB]
  rw[Cw (k:=i) GU rfl hi,AD]
  by_cases hg:(l.getD i GU).gen=g
  rw[show decide ((l.getD i GU).gen=g)=true by simp only[hg,decide_true]]
  simp only[DB]
  rw[AD,ZQ.2 ⟨hr,List.mem_of_getElem? hgi,hg⟩]
  rw[show decide ((l.getD i GU).gen=g)=false by simp only[hg,decide_false]]
  simp only[CQ]
  rw[CI,DK zO zO,←ei]
  refine hk fun k' hk'=>?_
  rw[List.take_add_one,hgi]at hk'
  rcases List.mem_append.1 hk' with h | h
  exact hp k' h
  simp only[Option.toList_some,List.mem_singleton]at h
  rw[h];exact hg
  simp only[Gt,show decide ((l.length:Int)<(l.length:Int))=false by simp,CQ,K9]
  rw[List.take_length]at hp
  rw[hno hp]
  rfl
end

section
def fb(a b c d:UInt8):UInt32:=((a.toUInt32 ||| shl32 b.toUInt32 8) ||| shl32 c.toUInt32 16) ||| shl32 d.toUInt32 24
def Og(b:List UInt8):UInt32:=fb (b.getD 0 0) (b.getD 1 0) (b.getD 2 0) (b.getD 3 0)
theorem Sv(b:UInt8)(k:Nat)(h:k≤24):(shl32 b.toUInt32 k).toNat=b.toNat*2^k:=by
 have h1:=b.toNat_lt
 simp only[shl32,UInt32.toNat_ofNat',Nat.min_eq_left (show k≤32 by omega),UInt8.toNat_toUInt32]
 refine Nat.mod_eq_of_lt ?_
 calc b.toNat*2^k<2^8*2^k:=Nat.mul_lt_mul_of_pos_right h1 (Nat.two_pow_pos k)
  _=2^(8+k):=(Nat.pow_add 2 8 k).symm
  _≤2^32:=Nat.pow_le_pow_right zD zO
theorem bO{u v k:Nat}(h:u<2^k):u ||| v*2^k=u+v*2^k:=by
 rw[Nat.or_comm,Nat.mul_comm,←Nat.two_pow_add_eq_or_of_lt h,Nat.add_comm]
theorem fc(a b c d:UInt8):(fb a b c d).toNat=a.toNat+b.toNat*2^8+c.toNat*2^16+d.toNat*2^24:=by
 have ha:=a.toNat_lt
 have hb:=b.toNat_lt
 have hc:=c.toNat_lt
 unfold fb
 rw[UInt32.toNat_or,UInt32.toNat_or,UInt32.toNat_or,Sv _ 8 zD,Sv _ 16 zD,Sv _ 24 zD,UInt8.toNat_toUInt32]
 rw[bO (u:=a.toNat) (k:=8) zO,bO (k:=16) zO,bO (k:=24) zO]
theorem dg(x:UInt32)(r:List UInt8):Og (CX x.toUInt64 4++r)=x:=by
 apply UInt32.toNat_inj.1
 have hx:=x.toNat_lt
 unfold Og
 rw[fc]
 simp only[N7 _ 4 _ (show 0<4 by decide),N7 _ 4 _ (show 1<4 by decide),N7 _ 4 _ (show 2<4 by decide),N7 _ 4 _ (show 3<4 by decide),UInt64.toNat_toUInt8]
 rw[MO _ _ zD,MO _ _ zD,MO _ _ zD,MO _ _ zD]
 simp only[UInt32.toNat_toUInt64]
 omega
theorem df(T:List UInt32)(k:BV)(h:C5)(s:List UInt8):Og (HT T k h s)=h.page:=by
 rw[HT,Ko,YZ]
 simp only[List.append_assoc]
 exact dg _ _
theorem il{b:List UInt8}(h:b.length=256):Zo b=some (b.drop 224):=by
 unfold Zo
 rw[if_pos zO,h]
theorem mA{T:List UInt32}{v:A5}{d:Ao}{p:UInt32}{tag b:List UInt8}(hr:MD d p=some (b,0))(hb:b.length=256)(hl:v.ring.length≤1099511627776):
  UK T v d p tag=some (if b.drop 224=tag∧Og b=p then Vz T v.ring b else(Si,[],61)):=by
 unfold UK
 have g:∀i:Nat,i<4→BN b (i:Int)=some (b.getD i 0):=fun i hi=>Cw 0 rfl zO
 have g0:=g 0 zO
 have g1:=g 1 zO
 have g2:=g 2 zO
 have g3:=g 3 zO
 rw[hr,AD]
 show(BN b 0).bind _=_
 rw[show BN b 0=some (b.getD 0 0)from g0,AD,show BN b 1=some (b.getD 1 0)from g1,AD,show BN b 2=some (b.getD 2 0)from g2,AD,show BN b 3=some (b.getD 3 0)from g3,AD,CI,il hb,AD]
 change cond (!decide (b.drop 224=tag) || !decide (Og b=p)) _ _=_
 by_cases h:b.drop 224=tag∧Og b=p
 rw[if_pos h,zt h.1,zt h.2]
 unfold lz
 rw[if_pos ⟨hl,by show b.length≤_;omega⟩]
 rfl
 rw[if_neg h]
 have:(!decide (b.drop 224=tag) || !decide (Og b=p))=true:=by
  simp only[Bool.or_eq_true,Bool.not_eq_true',decide_eq_false_iff_not]
  exact Classical.not_and_iff_not_or_not.1 h
 rw[this]
 rfl
theorem fu{r:Bb}(h1:2≤r.page.toNat)(h2:r.tag.length=32):Dq r=some true:=by
 unfold Dq
 have e1:decide ((2:UInt32)≤r.page)=true:=by rw[decide_eq_true_eq,UInt32.le_iff_toNat_le];exact h1
 have e2:decide ((r.tag.length:Int)=32)=true:=by rw[decide_eq_true_eq];omega
 rw[e1,e2]
 rfl
theorem mM{T:List UInt32}{v:A5}{d:Ao}{r:Bb}{b:List UInt8}(h1:2≤r.page.toNat)(h2:r.tag.length=32)(hr:MD d r.page=some (b,0))(hb:b.length=256)(hl:v.ring.length≤1099511627776):
  Q7 T v d r=some (if b.drop 224=r.tag∧Og b=r.page then(Vz T v.ring b).2 else([],61)):=by
 unfold Q7
 rw[fu h1 h2,AD,CI]
 unfold WW
 rw[mA hr hb hl]
 simp only[AD,Bool.not_true,CQ]
 split<;>rfl
abbrev hd(v:A5)(p:UInt32):C5:=⟨p,v.gen,v.boot,v.seals⟩
structure Rj(N c:Nat)(d:Ao):Prop where
 blen:d.blocks.length=N
 nle:N≤4096
 on:d.off=false
 uncut:d.isCut=false
 good:d.bad=[]
 plen:d.pend.length≤c
 cle:c≤100
theorem Rj.write{N c:Nat}{d:Ao}(D:Rj N c d)(hc:c+1≤100){p:UInt32}{b:List UInt8}(hp:p.toNat<N)(hb:b.length=256):
  Ij d p b=some (0,{ d with counts:=wI (d.counts+1),pend:=Mb d.pend p b })∧Rj N (c+1) { d with counts:=wI (d.counts+1),pend:=Mb d.pend p b }:=by
 have h0:Wz d=true:=by simp[Wz,D.on,D.uncut]
 constructor
 rw[j9 (by rw[D.blen];exact hp) hb (by have:=D.plen;have:=D.cle;omega),pg h0]
 simp[I3,D.uncut]
 refine⟨D.blen,D.nle,D.on,D.uncut,D.good,?_,hc⟩
 have:(Gz d.pend p).length≤d.pend.length:=List.length_filter_le ..
 have:=D.plen
 show(Gz d.pend p).length+1≤c+1
 omega
theorem Rj.read{N c:Nat}{d:Ao}(D:Rj N c d){p:UInt32}(hp:p.toNat<N):MD d p=some (Ic d p,0):=by
 rw[mN (by rw[D.blen];exact hp),D.on,D.good]
 rfl
theorem Vv{d:Ao}{p q:UInt32}{b:List UInt8}{c:Int}:Ic { d with counts:=c,pend:=Mb d.pend p b } q=if p=q then b else Ic d q:=by
 unfold Ic
 rw[ZZ]
 split<;>rfl
theorem Zl{T:List UInt32}{l:List BV}{h:C5}{s:List UInt8}{k:BV}(hl:l.length≤1099511627776)(hk:DR l h.gen=(k,0))(hs:s.length≤198):WF T l h s=some (HT T k h s,0):=by
 unfold WF HI
 rw[if_pos ⟨hl,by omega⟩,hk]
 simp
 omega
theorem dw{T:List UInt32}{v:A5}{d:Ao}{N c:Nat}{k:BV}{p:UInt32}{s:List UInt8}(D:Rj N c d)(hc:c+1≤100)(hl:v.ring.length≤1099511627776)(hk:DR v.ring v.gen=(k,0))(hp:p.toNat<N)(hs:s.length≤198):
  KS T v d p s=some ((HT T k (hd v p) s).drop 224,0,{ v with seals:=v.seals+1 },{ d with counts:=wI (d.counts+1),pend:=Mb d.pend p (HT T k (hd v p) s) }):=by
 unfold KS
 have hb:=Kn T k (hd v p) hs
 rw[Zl (h:=hd v p) hl hk hs,AD,(D.write hc hp hb).1]
 simp only[AD,il hb]
 rfl
theorem YJ(v:A5):∀(k i:Nat),(∀x,i≤x→x<i+k→EN v (UInt32.ofNat x)=true)→F7 v i k=[]
 | 0,i,_=>rfl
 | k+1,i,h=>by
  rw[F7,if_pos (h i (Nat.le_refl _) zO)]
  exact YJ v k (i+1) fun x h1 h2=>h x zO zO
theorem dW(v:A5)(j:Nat)(hj:EN v (UInt32.ofNat j)=false):∀(k i:Nat),i≤j→j<i+k→(∀x,i≤x→x<j→EN v (UInt32.ofNat x)=true)→F7 v i k=[UInt32.ofNat j]
 | 0,i,h1,h2,_=>by omega
 | k+1,i,h1,h2,h=>by
  by_cases e:i=j
  subst e
  rw[F7,if_neg (by rw[hj];decide)]
  rw[F7,if_pos (h i (Nat.le_refl _) zO)]
  exact dW v j hj k (i+1) zO zO fun x h1 h2=>h x zO zO
theorem j8{T:List UInt32}{v:A5}{d:Ao}{N c j:Nat}{k:BV}{s:List UInt8}(D:Rj N c d)(hc:c+1≤100)(hl:v.ring.length≤1099511627776)(hk:DR v.ring v.gen=(k,0))(hs:s.length≤198)
(h2:2≤j)(hj:j<N)(hfree:EN v (UInt32.ofNat j)=false)(htk:∀x,2≤x→x<j→EN v (UInt32.ofNat x)=true)(ht:v.taken.length≤100):
  GT T v d s=some (⟨UInt32.ofNat j,(HT T k (hd v (UInt32.ofNat j)) s).drop 224⟩,0,{ v with seals:=v.seals+1,taken:=Mb v.taken (UInt32.ofNat j) true },{ d with counts:=wI (d.counts+1),pend:=Mb d.pend (UInt32.ofNat j) (HT T k (hd v (UInt32.ofNat j)) s) }):=by
 have hN:=D.nle
 have hjn:(UInt32.ofNat j).toNat=j:=by simp;omega
 unfold GT bG VN
 rw[CI,zf zO,CQ,AD,D.blen,if_pos zO,AD,dW v j hfree (N-2) 2 h2 zO htk]
 show Fs T v d s (UInt32.ofNat j)=_
 unfold Fs
 have h0:decide (UInt32.ofNat j=0)=false:=by
  rw[decide_eq_false_iff_not]
  intro e
  have:=congrArg UInt32.toNat e
  rw[hjn]at this
  simp at this
  omega
 rw[h0,CQ,dw D hc hl hk (by rw[hjn];exact hj) hs]
 simp only[AD,ND]
 rw[if_pos zO]
 rfl
theorem eJ{T:List UInt32}{v:A5}{d:Ao}{N c:Nat}{s:List UInt8}(D:Rj N c d)(hs:s.length≤198)(htk:∀x,2≤x→x<N→EN v (UInt32.ofNat x)=true):
  GT T v d s=some (⟨0,[]⟩,110,v,d):=by
 have hN:=D.nle
 unfold GT bG VN
 rw[CI,zf zO,CQ,AD,D.blen,if_pos zO,AD,YJ v (N-2) 2 (fun x h1 h2=>htk x h1 zO)]
 rfl
def Sj(i:Nat):BV:=⟨UInt32.ofNat (i+1),List.replicate 32 (UInt8.ofNat (65+i))⟩
def Dj(m:Nat):List BV:=(List.range m).map Sj
theorem DS(m:Nat):(Dj m).length=m:=by simp[Dj]
theorem dt(m:Nat):Dj (m+1)=Dj m++[Sj m]:=by simp[Dj,List.range_succ]
theorem mQ(m:Nat)(hm:m≤30){n:Nat}(hn:40≤n):Hv n (m:Int)=some (Dj m):=by
 unfold Hv EI
 refine Ez (fun i=>(Dj i,((i+1:Nat):Int))) m ?_ ?_ zO
 intro i hi k
 simp only[Gl]
 rw[zt zO,DB]
 unfold Ky
 refine Ez (fun j=>(List.replicate j (UInt8.ofNat (65+i)),(j:Int))) 32 ?_ ?_ zO
 intro j hj k'
 simp only[Gm]
 rw[zt zO,DB,DX zQ zQ,AD,CI]
 have e:If (wI (64+((i+1:Nat):Int)))=UInt8.ofNat (65+i):=by
  rw[DK zO zO]
  unfold If
  congr 1
  omega
 rw[e,DK zO zO,←List.replicate_succ']
 rfl
 intro k'
 simp only[Gm]
 rw[zf zO,CQ]
 unfold Kx
 rw[DX (by simp[DS];omega) (by simp[DS];omega),AD]
 unfold Kw
 rw[CI,DK zO zO]
 have e:FN ((i+1:Nat):Int)=UInt32.ofNat (i+1):=by
  unfold FN
  congr 1
  omega
 rw[e,dt]
 rfl
 intro k
 simp only[Gl]
 rw[zf zO,CQ]
 rfl
theorem Vw{i:Nat}(h:i<30):(Sj i).gen.toNat=i+1:=by simp[Sj];omega
theorem RM(m:Nat)(hm:m≤16):DV (Dj m)=true:=by
 refine(fr _).2 ⟨by rw[DS];exact hm,?_,?_⟩
 unfold Dj
 rw[List.pairwise_map]
 refine List.Pairwise.imp_of_mem ?_ List.pairwise_lt_range
 intro a b ha hb hlt
 have h1:=List.mem_range.1 ha
 have h2:=List.mem_range.1 hb
 rw[UInt32.lt_iff_toNat_lt,Vw zO,Vw zO]
 omega
 intro k hk
 obtain⟨i,hi,rfl⟩:=List.mem_map.1 hk
 have h1:=List.mem_range.1 hi
 refine⟨?_,by simp[Sj]⟩
 rw[UInt32.lt_iff_toNat_lt,Vw zO]
 simp
theorem dJ{m i:Nat}(hm:m≤16)(hi:i<m):DR (Dj m) (Sj i).gen=(Sj i,0):=
 ZQ.2 ⟨RM m hm,List.mem_map.2 ⟨i,List.mem_range.2 hi,rfl⟩,rfl⟩
end

section
structure VS(N c:Nat)(R:List BV)(g:UInt32)(v:A5)(d:Ao):Prop where
 dev:Rj N c d
 ring:v.ring=R
 rlen:R.length≤1099511627776
 gen:v.gen=g
 boot:v.boot=1
 tlen:v.taken.length≤c
structure WR(T:List UInt32)(R:List BV)(d:Ao)(p g:UInt32)(q:UInt64)(s b:List UInt8):Prop where
 key:∃k,DR R g=(k,0)∧b=HT T k ⟨p,g,1,q⟩ s
 txt:s.length≤198
 is:Ic d p=b
theorem WR.len{T:List UInt32}{R:List BV}{d:Ao}{p g:UInt32}{q:UInt64}{s b:List UInt8}(h:WR T R d p g q s b):b.length=256:=by
 obtain⟨k,_,rfl⟩:=h.key
 exact Kn T k _ h.txt
theorem WR.page{T:List UInt32}{R:List BV}{d:Ao}{p g:UInt32}{q:UInt64}{s b:List UInt8}(h:WR T R d p g q s b):Og b=p:=by
 obtain⟨k,_,rfl⟩:=h.key
 exact df T k _ s
theorem WR.opens{T:List UInt32}{R:List BV}{d:Ao}{p g:UInt32}{q:UInt64}{s b:List UInt8}(h:WR T R d p g q s b):Vz T R b=(⟨p,g,1,q⟩,s,0):=by
 obtain⟨k,hk,rfl⟩:=h.key
 have hs:HI T R ⟨p,g,1,q⟩ s=(HT T k ⟨p,g,1,q⟩ s,0):=by
  unfold HI
  have:=h.txt
  simp[hk]
  omega
 have:=fY (T:=T) (l:=R) (h:=⟨p,g,1,q⟩) (s:=s) (by rw[hs])
 rwa [hs]at this
theorem WR.put{T:List UInt32}{R:List BV}{d d':Ao}{p p' g:UInt32}{q:UInt64}{s b b':List UInt8}(h:WR T R d p g q s b)(hd:∀x,Ic d' x=if p'=x then b' else Ic d x)(hne:p'≠p):WR T R d' p g q s b:=
 ⟨h.key,h.txt,by rw[hd,if_neg hne];exact h.is⟩
theorem jb{i j:Nat}(hi:i<4294967296)(hj:j<4294967296)(h:i≠j):UInt32.ofNat i≠UInt32.ofNat j:=fun e=>h (by
 have:=congrArg UInt32.toNat e
 simpa[Nat.mod_eq_of_lt hi,Nat.mod_eq_of_lt hj]using this)
theorem VS.write{T:List UInt32}{N c:Nat}{R:List BV}{g:UInt32}{v:A5}{d:Ao}(V9:VS N c R g v d)(hc:c+1≤100){k:BV}(hk:DR R g=(k,0)){s:List UInt8}(hs:s.length≤198)(j:Nat)
(h2:2≤j)(hj:j<N)(hfree:EN v (UInt32.ofNat j)=false)(htk:∀x,2≤x→x<j→EN v (UInt32.ofNat x)=true):
  ∃v' d' b,GT T v d s=some (⟨UInt32.ofNat j,b.drop 224⟩,0,v',d')∧VS N (c+1) R g v' d'∧v'.seals=v.seals+1∧v'.taken=Mb v.taken (UInt32.ofNat j) true∧
   (∀q,Ic d' q=if UInt32.ofNat j=q then b else Ic d q)∧WR T R d' (UInt32.ofNat j) g v.seals s b∧b=HT T k ⟨UInt32.ofNat j,g,1,v.seals⟩ s∧d'.blocks=d.blocks:=by
 have hN:=V9.dev.nle
 have hjn:(UInt32.ofNat j).toNat=j:=by simp;omega
 have hh:hd v (UInt32.ofNat j)=⟨UInt32.ofNat j,g,1,v.seals⟩:=by simp only[hd,V9.gen,V9.boot]
 have hb:=Kn T k (hd v (UInt32.ofNat j)) hs
 have hw:=j8 (T:=T) V9.dev hc (by rw[V9.ring];exact V9.rlen) (by rw[V9.ring,V9.gen];exact hk) hs h2 hj hfree htk (by have:=V9.tlen;omega)
 refine⟨_,_,_,hw,⟨(V9.dev.write hc (by rw[hjn];exact hj) hb).2,V9.ring,V9.rlen,V9.gen,V9.boot,?_⟩,rfl,rfl,fun q=>Vv,⟨⟨k,hk,by rw[hh]⟩,hs,?_⟩,by rw[hh],rfl⟩
 have:(Gz v.taken (UInt32.ofNat j)).length≤v.taken.length:=List.length_filter_le ..
 have:=V9.tlen
 show(Gz v.taken (UInt32.ofNat j)).length+1≤c+1
 omega
 rw[Vv,if_pos rfl]
theorem VS.read{T:List UInt32}{N c:Nat}{R:List BV}{g g':UInt32}{v:A5}{d:Ao}(V9:VS N c R g v d){p:UInt32}{q:UInt64}{s b:List UInt8}(h:WR T R d p g' q s b)(hp2:2≤p.toNat)(hp:p.toNat<N):
  Q7 T v d ⟨p,b.drop 224⟩=some (s,0):=by
 have hb:=h.len
 have hr:MD d p=some (b,0):=by rw[V9.dev.read hp,h.is]
 have ht:(b.drop 224).length=32:=by simp[hb]
 have hl:v.ring.length≤1099511627776:=by rw[V9.ring];exact V9.rlen
 have h1:=mM (T:=T) (v:=v) (d:=d) (r:=⟨p,b.drop 224⟩) hp2 ht hr hb hl
 rw[if_pos ⟨rfl,h.page⟩,V9.ring,h.opens]at h1
 exact h1
def d0(N:Nat):Ao:={ off:=false,isCut:=false,lasts:=0,counts:=0,blocks:=List.replicate N (List.replicate 256 0),pend:=[],bad:=[],rcnt:=0,rtag:=List.replicate 32 0,rboots:=0 }
def v0:A5:={ ring:=Dj 1,gen:=1,boot:=1,seals:=0,taken:=[] }
theorem X6{m:Nat}(h:1≤m)(hm:m≤16):DR (Dj m) 1=(Sj 0,0):=dJ hm h
def r0(N:Nat):A8:={ blk:=List.replicate N (List.replicate 256 0),pnd:=List.replicate N [],bads:=List.replicate N false,rcnt:=0,rtag:=List.replicate 32 0,rboots:=0,left := -1,off:=false }
theorem pc{N n:Nat}(h4:4≤N)(hN:N≤4096)(hn:N<n):LB n (N:Int)=some (some (r0 N),0):=by
 have z:∀k:Nat,k≤1048576→E7 (k:Int)=some (List.replicate k 0):=fun k hk=>by
  rw[kB zO zO]
  simp
 have z1:=z 32 zO
 have z2:=z 256 zO
 clear z
 unfold LB r0
 have hc:(decide ((N:Int)<4)||decide (4096<(N:Int)))=false:=by simp;omega
 rw[hc,CQ]
 show(E7 ((32:Nat):Int)).bind _=_
 rw[z1,AD]
 generalize List.replicate 32 (0:UInt8)=Y9
 generalize List.replicate 256 (0:UInt8)=Z9 at z2 ⊢
 unfold L6
 refine Ez (fun i=>(List.replicate i Z9,List.replicate i [],List.replicate i false,(i:Int))) N ?_ ?_ hn
 intro i hi k
 simp only[Hh]
 rw[zt zO,DB]
 show(E7 ((256:Nat):Int)).bind _=_
 rw[z2,AD,DX zQ zQ,AD,DX zQ zQ,AD,DX zQ zQ,AD,CI,DK zO zO]
 rw[←List.replicate_succ',←List.replicate_succ',←List.replicate_succ']
 rfl
 intro k
 simp only[Hh]
 rw[zf zO,CQ]
 rfl
end

section
structure Tc(N:Nat)(v:A5):Prop where
 nd:(v.taken.map (·.1)).Nodup
 tr:∀e∈v.taken,e.2=true∧2≤e.1.toNat∧e.1.toNat<N
theorem Tc.iff{N:Nat}{v:A5}(h:Tc N v)(p:UInt32):EN v p=true↔p∈v.taken.map (·.1):=by
 unfold EN
 constructor
 intro hp
 by_cases hm:∃e∈v.taken,e.1=p
 obtain⟨e,he,rfl⟩:=hm
 exact List.mem_map_of_mem he
 rw[YQ (fun e he e'=>hm ⟨e,he,e'⟩)]at hp
 exact absurd hp zD
 intro hp
 obtain⟨e,he,rfl⟩:=List.mem_map.1 hp
 rw[UQ h.nd he]
 exact(h.tr e he).1
theorem ofNat_toNat{x:UInt32}:UInt32.ofNat x.toNat=x:=UInt32.toNat_inj.1 zS
theorem Tc.full{N:Nat}{v:A5}(h:Tc N v)(hN:N≤4096)(hl:N-2≤v.taken.length):∀x,2≤x→x<N→EN v (UInt32.ofNat x)=true:=by
 intro x h1 h2
 rw[h.iff]
 by_cases hm:UInt32.ofNat x∈v.taken.map (·.1)
 exact hm
 exfalso
 have hnd:(x::v.taken.map fun e=>e.1.toNat).Nodup:=by
  refine List.nodup_cons.2 ⟨fun hx=>?_,?_⟩
  obtain⟨e,he,e'⟩:=List.mem_map.1 hx
  refine hm ?_
  rw[←e',ofNat_toNat]
  exact List.mem_map_of_mem he
  have:=h.nd
  rw[show(v.taken.map fun e=>e.1.toNat)=(v.taken.map (·.1)).map UInt32.toNat by simp]
  exact List.Pairwise.map _ (fun a b hab e=>hab (UInt32.toNat_inj.1 e)) this
 have:=RF hnd (l':=(List.range (N-2)).map (·+2)) (fun a ha=>by
  have hb:2≤a∧a<N:=by
   rcases List.mem_cons.1 ha with rfl | ha
   exact⟨h1,h2⟩
   obtain⟨e,he,rfl⟩:=List.mem_map.1 ha
   exact(h.tr e he).2
  exact List.mem_map.2 ⟨a-2,List.mem_range.2 zO,by omega⟩)
 simp at this
 omega
theorem ZU{P:Nat→Prop}:∀k,(∃j,j<k∧P j)→∃j,j<k∧P j∧∀x,x<j→¬P x
 | 0,⟨j,h,_⟩=>by omega
 | k+1,⟨j,h,hP⟩=>by
  by_cases hk:∃i,i<k∧P i
  obtain⟨i,h1,h2,h3⟩:=ZU k hk
  exact⟨i,by omega,h2,h3⟩
  have:j=k:=by
   rcases Nat.lt_or_ge j k with h' | h'
   exact absurd ⟨j,h',hP⟩ hk
   omega
  subst this
  exact⟨j,by omega,hP,fun x hx hPx=>hk ⟨x,hx,hPx⟩⟩
theorem Tc.free{N:Nat}{v:A5}(h:Tc N v)(hN:N≤4096)(hl:v.taken.length<N-2):∃j,2≤j∧j<N∧EN v (UInt32.ofNat j)=false∧∀x,2≤x→x<j→EN v (UInt32.ofNat x)=true:=by
 have:∃j,j<N∧(2≤j∧EN v (UInt32.ofNat j)=false):=by
  by_cases hx:∃j,j<N∧(2≤j∧EN v (UInt32.ofNat j)=false)
  exact hx
  exfalso
  have hnd:((List.range (N-2)).map (fun i=>UInt32.ofNat (i+2))).Nodup:=by
   refine List.pairwise_map.2 (List.Pairwise.imp_of_mem ?_ List.nodup_range)
   intro a b ha hb hne
   have ha:=List.mem_range.1 ha
   have hb:=List.mem_range.1 hb
   exact jb zO zO zO
  have:=RF hnd (l':=v.taken.map (·.1)) (fun a ha=>by
   obtain⟨i,hi,rfl⟩:=List.mem_map.1 ha
   have hi:=List.mem_range.1 hi
   rw[←h.iff]
   cases hc:EN v (UInt32.ofNat (i+2))with
   | true=>rfl
   | false=>exact absurd ⟨i+2,by omega,by omega,hc⟩ hx)
  simp at this
  omega
 obtain⟨j,h1,⟨h2,h3⟩,h4⟩:=ZU N this
 refine⟨j,h2,h1,h3,fun x hx1 hx2=>?_⟩
 cases hc:EN v (UInt32.ofNat x)with
 | true=>rfl
 | false=>exact absurd ⟨hx1,hc⟩ (h4 x hx2)
def Rd(T:List UInt32)(R:List BV)(N:Nat)(v:A5)(d:Ao)(s:BT):Prop:=2≤s.page.toNat∧s.page.toNat<N∧EN v s.page=true∧∃g' qn b,WR T R d s.page g' qn s.txt b∧s.tag=b.drop 224
theorem Rd.ok{T:List UInt32}{R:List BV}{N c:Nat}{g:UInt32}{v:A5}{d:Ao}{s:BT}(V9:VS N c R g v d)(h:Rd T R N v d s):Q7 T v d ⟨s.page,s.tag⟩=some (s.txt,0)∧FA ⟨s.page,s.tag⟩=true∧s.txt.length≤198:=by
 obtain⟨h1,h2,_,g',qn,b,hb,ht⟩:=h
 have hl:=hb.len
 refine⟨by rw[ht];exact V9.read hb h1 h2,?_,hb.txt⟩
 unfold FA
 rw[Bool.and_eq_true,decide_eq_true_eq,decide_eq_true_eq]
 refine⟨UInt32.le_iff_toNat_le.2 h1,?_⟩
 show(s.tag.length:Int)=32
 rw[ht,List.length_drop,hl]
 rfl
structure kZ(N c0:Nat)(R:List BV)(g:UInt32)(vb:A5)(db:Ao)(q:Yt):Prop where
 vs:VS N (c0+q.tk.length) R g q.v q.d
 seals:q.v.seals=vb.seals+UInt64.ofNat q.tk.length
 tak:q.v.taken=(q.tk.map fun p=>(p,true)).reverse++vb.taken
 ok:Tc N q.v
 keep:∀p,p∉q.tk→Ic q.d p=Ic db p
 lim:c0+q.tk.length+(N-2-q.v.taken.length)≤100
theorem kZ.notin{N c0:Nat}{R:List BV}{g:UInt32}{vb:A5}{db:Ao}{q:Yt}(S:kZ N c0 R g vb db q)(hb:Tc N vb){p:UInt32}(h:EN vb p=true):p∉q.tk∧EN q.v p=true:=by
 rw[hb.iff]at h
 constructor
 intro hp
 have:=S.ok.nd
 rw[S.tak,List.map_append]at this
 refine(List.nodup_append.1 this).2.2 p ?_ p h rfl
 rw[List.map_reverse,List.mem_reverse,List.map_map]
 exact List.mem_map.2 ⟨p,hp,rfl⟩
 rw[S.ok.iff,S.tak,List.map_append]
 exact List.mem_append_right _ h
theorem kZ.base{T:List UInt32}{N c0:Nat}{R:List BV}{g:UInt32}{vb:A5}{db:Ao}{q:Yt}(S:kZ N c0 R g vb db q)(hb:Tc N vb){s:BT}(h:Rd T R N vb db s):Rd T R N q.v q.d s:=by
 obtain⟨h1,h2,h3,g',qn,b,hb',ht⟩:=h
 obtain⟨h4,h5⟩:=S.notin hb h3
 exact⟨h1,h2,h5,g',qn,b,⟨hb'.key,hb'.txt,by rw[S.keep _ h4];exact hb'.is⟩,ht⟩
end

section
theorem V3:∀ {f:Nat} {l:List As} {t:CZ} ,Tr f l t→(l=[]→PM f t=1)∧(l≠[]→PM f t+1≤2*l.length)
  | 0,_,_,h=>h.elim
  | f+1,l,t,h=>by
    rcases h with⟨rfl,rfl⟩ | ⟨hne,c,L,A,⟨_,rfl⟩ | ⟨h4,hL,ks,rfl,hk⟩⟩
    exact⟨fun _=>rfl,fun h=>absurd rfl h⟩
    refine⟨fun h=>absurd h hne,fun _=>?_⟩
    have:=List.length_pos_iff.2 hne
    rw[PM,if_pos (show(CZ.mk c.x c.y c.lev l []).kids.length=0 from rfl)]
    simp only[CZ.rows]
    omega
    refine⟨fun h=>absurd h hne,fun _=>?_⟩
    have hkl:=hk.length
    have hq2:=(UW A hL).1
    rw[PM,if_neg (by simp only[CZ.kids];omega)]
    simp only[CZ.kids]
    have key:∀ {xs:List (List As)} {ys:List CZ},WN (Tr f) xs ys→(∀x∈xs,x≠[])→(ys.map (PM f)).sum+xs.length≤2*xs.flatten.length:=by
      intro xs ys h
      induction h with
      | nil=>simp
      | @cons x y xs ys h1 h2 ih=>
        intro hx
        have a1:=(V3 h1).2 (hx _ zS)
        have a2:=ih fun x hx'=>hx x (by simp[hx'])
        simp only[List.map_cons,List.sum_cons,List.length_cons,List.flatten_cons,List.length_append]
        omega
    have:=key hk fun x hx=>(UV hx).1
    rw[(dn L l).length_eq]at this
    omega
theorem fe{f:Nat}{l:List As}{t:CZ}(h:Tr f l t)(hl:l.length≤1000):PM f t≤max 1 (2*l.length):=by
  obtain⟨h1,h2⟩:=V3 h
  by_cases e:l=[]
  rw[h1 e];omega
  have:=h2 e
  omega
theorem dZ{s:List UInt8}(h:s.length≤1048576):WY s=some ⟨s,h⟩:=dif_pos h
theorem YP{m:List (UInt32×Bool)}{p:UInt32}(h:p∉m.map (·.1)):Gz m p=m:=TM fun e he e'=>h (by rw[←e'];exact List.mem_map_of_mem he)
theorem pm{T:List UInt32}{N c0:Nat}{R:List BV}{g:UInt32}{vb:A5}{db:Ao}{th:List (NL×Bb)}{k:BV}(hb:Tc N vb)(hN:N≤4096)(hk:DR R g=(k,0))(hth:∀key r,C0 th key=some r→Rd T R N vb db ⟨key.1,r.page,r.tag⟩):
    ga (Sr T th) (kZ N c0 R g vb db) (fun q s=>Rd T R N q.v q.d s) (fun q=>N-2-q.v.taken.length):=by
  refine⟨fun q s S hs=>?_⟩
  unfold Sr
  rw[dZ (show s.length≤1048576 by omega),AD]
  cases hm:C0 th ⟨s,by omega⟩with
  | some r=>
    have hr:=S.base hb (hth _ r hm)
    exact⟨r,0,q,rfl,S,fun _ h=>h,.inl ⟨rfl,(hr.ok S.vs).2.1,hr,Nat.le_succ _⟩⟩
  | none=>
    rw[show(none:Option Bb).isSome=false from rfl,CQ]
    by_cases hroom:q.v.taken.length<N-2
    obtain⟨j,j1,j2,j3,j4⟩:=S.ok.free hN hroom
    have hlim:=S.lim
    obtain⟨v',d',b,e1,V1,s1,t1,h1,H1,_,_⟩:=S.vs.write (T:=T) zO hk hs j j1 j2 j3 j4
    have hjn:(UInt32.ofNat j).toNat=j:=by simp;omega
    have hnin:UInt32.ofNat j∉q.v.taken.map (·.1):=by
      rw[←S.ok.iff,j3]
      decide
    have htk:v'.taken=(UInt32.ofNat j,true)::q.v.taken:=by rw[t1,Mb,YP hnin]
    have hok:Tc N v':=by
      refine⟨?_,fun e he=>?_⟩
      rw[htk,List.map_cons]
      exact List.nodup_cons.2 ⟨hnin,S.ok.nd⟩
      rw[htk]at he
      rcases List.mem_cons.1 he with rfl | he
      exact⟨rfl,by rw[hjn];exact j1,by rw[hjn];exact j2⟩
      exact S.ok.tr e he
    have hntk:UInt32.ofNat j∉q.tk:=fun hj=>hnin (by
      rw[S.tak,List.map_append]
      refine List.mem_append_left _ ?_
      rw[List.map_reverse,List.mem_reverse,List.map_map]
      exact List.mem_map.2 ⟨_,hj,rfl⟩)
    rw[e1,AD]
    dsimp only
    rw[show decide ((0:Int)=0)=true from rfl,DB,DX zQ zQ,AD]
    have hlen:(q.tk++[UInt32.ofNat j]).length=q.tk.length+1:=by simp
    refine⟨_,0,⟨q.tk++[UInt32.ofNat j],v',d'⟩,rfl,⟨?_,?_,?_,hok,fun p hp=>?_,?_⟩,fun x hx=>?_,.inl ⟨rfl,?_,?_,?_⟩⟩
    show VS N (c0+(q.tk++[UInt32.ofNat j]).length) R g v' d'
    rw[hlen]
    exact V1
    show v'.seals=vb.seals+UInt64.ofNat (q.tk++[UInt32.ofNat j]).length
    rw[s1,S.seals,hlen,UInt64.ofNat_add,UInt64.add_assoc]
    rfl
    show v'.taken=_
    rw[htk,S.tak]
    simp
    simp only[List.mem_append,List.mem_singleton,not_or]at hp
    show Ic d' p=_
    rw[h1,if_neg (fun e=>hp.2 e.symm)]
    exact S.keep p hp.1
    show c0+(q.tk++[UInt32.ofNat j]).length+(N-2-v'.taken.length)≤100
    rw[hlen,htk,List.length_cons]
    omega
    obtain⟨x1,x2,x3,g',qn,b',x4,x5⟩:=hx
    have hne:UInt32.ofNat j≠x.page:=fun e=>by
      rw[←e,j3]at x3
      exact absurd x3 zD
    refine⟨x1,x2,?_,g',qn,b',x4.put h1 hne,x5⟩
    show EN v' x.page=true
    rw[hok.iff,htk,List.map_cons]
    exact List.mem_cons_of_mem _ ((S.ok.iff _).1 x3)
    have hl:=H1.len
    unfold FA
    rw[Bool.and_eq_true,decide_eq_true_eq,decide_eq_true_eq]
    refine⟨UInt32.le_iff_toNat_le.2 (by rw[hjn];exact j1),?_⟩
    rw[List.length_drop,hl]
    rfl
    refine⟨by rw[hjn];exact j1,by rw[hjn];exact j2,?_,g,q.v.seals,b,H1,rfl⟩
    show EN v' (UInt32.ofNat j)=true
    rw[hok.iff,htk]
    simp
    show N-2-q.v.taken.length≤N-2-v'.taken.length+1
    rw[htk,List.length_cons]
    omega
    have hw:=eJ (T:=T) S.vs.dev hs (S.ok.full hN zO)
    rw[hw,AD]
    dsimp only
    rw[show decide ((110:Int)=0)=false from rfl,CQ]
    exact⟨_,110,q,rfl,S,fun _ h=>h,.inr ⟨rfl,by omega⟩⟩
theorem Zp:∀(l:List (Int×BT)) (m:List (NL×Bb)),(∀s∈l,s.2.txt.length≤1048576)→m.length+l.length≤1000000000→
    ∃m',RS l m=some m'∧∀k:NL,C0 m' k=((l.reverse.find? fun s=>decide (s.2.txt=k.1)).map fun s=>(⟨s.2.page,s.2.tag⟩:Bb)).or (C0 m k)
  | [],m,_,_=>⟨m,rfl,fun k=>by simp⟩
  | s::l,m,h,hb=>by
    simp only[List.length_cons]at hb
    have hd:(Gz m ⟨s.2.txt,h s zS⟩).length≤m.length:=List.length_filter_le ..
    obtain⟨m',h1,h2⟩:=Zp l (Mb m ⟨s.2.txt,h s zS⟩ ⟨s.2.page,s.2.tag⟩) (fun x hx=>h x (by simp[hx])) (by
      show(Gz m _).length+1+l.length≤_
      omega)
    refine⟨m',?_,fun k=>?_⟩
    rw[RS,dZ (h s zS),AD]
    unfold ND
    rw[if_pos zO,AD]
    exact h1
    rw[h2 k,List.reverse_cons,List.find?_append,ZZ]
    cases hf:l.reverse.find? fun s=>decide (s.2.txt=k.1)with
    | some x=>rfl
    | none=>
      simp only[Option.map_none,Option.none_or,List.find?_singleton]
      by_cases e:s.2.txt=k.1
      rw[if_pos (Subtype.ext e),if_pos (by simpa using e)]
      rfl
      rw[if_neg (fun e'=>e (congrArg Subtype.val e')),if_neg (by simpa using e)]
      rfl
theorem Xc{α:Type}(xs:List α):(E3 xs).reverse.map (·.2)=xs:=by
  unfold E3
  rw[List.reverse_reverse,List.map_map]
  have:((fun x:Int×α=>x.2)∘fun p:α×Nat=>((p.2:Int),p.1))=Prod.fst:=rfl
  rw[this,List.zipIdx_map_fst]
theorem ea{α:Type}{xs:List α}{s:Int×α}(h:s∈E3 xs):s.2∈xs:=by
  rw[←Xc xs]
  exact List.mem_map_of_mem (List.mem_reverse.2 h)
theorem gG(had:List BT)(h:∀s∈had,s.txt.length≤1048576)(hb:had.length≤1000000000):∃th,RS (E3 had) []=some th∧∀k:NL,C0 th k=(had.find? fun s=>decide (s.txt=k.1)).map fun s=>(⟨s.page,s.tag⟩:Bb):=by
  obtain⟨th,h1,h2⟩:=Zp (E3 had) [] (fun s hs=>h _ (ea hs)) (by rw[JS];simpa using hb)
  refine⟨th,h1,fun k=>?_⟩
  rw[h2 k,show C0 ([]:List (NL×Bb)) k=none from rfl,Option.or_none]
  conv=>rhs;rw[←Xc had]
  rw[List.find?_map,Option.map_map]
  rfl
theorem ZS{N:Nat}(hN:N≤4096):∀(tk:List UInt32) (v:A5) (d:Ao) (base:List (UInt32×Bool)),d.blocks.length=N→v.taken=(tk.map fun p=>(p,true)).reverse++base→(v.taken.map (·.1)).Nodup→(∀p∈tk,2≤p.toNat∧p.toNat<N)→
    Sh tk v d=some { v with taken:=base }
  | [],v,d,base,_,h,_,_=>by
    simp at h
    rw[Sh,←h]
  | p::tk,v,d,base,hd,h,hn,hr=>by
    obtain⟨r1,r2⟩:=hr p zS
    have hmem:(p,true)∈v.taken:=by rw[h];simp
    have hg:=UQ hn hmem
    have hdel:Gz v.taken p=(tk.map fun p=>(p,true)).reverse++base:=by
      rw[h]at hn ⊢
      simp only[List.map_cons,List.reverse_cons,List.append_assoc,List.singleton_append,List.map_append]at hn ⊢
      obtain⟨n1,n2,n3⟩:=List.nodup_append.1 hn
      obtain⟨n4,n5⟩:=List.nodup_cons.1 n2
      unfold Gz
      rw[List.filter_append,List.filter_cons_of_neg zS]
      congr 1
      exact YP (m:=(tk.map fun p=>(p,true)).reverse) fun hp=>n3 p hp p zS rfl
      exact YP n4
    have hi:Hm v d p=some true:=by
      have:=YM v d p.toNat r1 zO
      rw[ofNat_toNat,hd,zt r2]at this
      exact this
    have hgive:KR v d p=some (0,{ v with taken:=Gz v.taken p }):=by
      unfold KR
      rw[hi,AD,CI,hg]
      rfl
    rw[Sh,hgive,AD]
    have:=ZS hN tk { v with taken:=Gz v.taken p } d base hd hdel (by
      show((Gz v.taken p).map (·.1)).Nodup
      exact da hn) (fun q hq=>hr q (by simp[hq]))
    exact this
theorem Wh{l:List As}(h:FB l=true):l.length≤1000:=by
  unfold FB at h
  simp only[Bool.and_eq_true,decide_eq_true_eq]at h
  omega
theorem jq{n N c0:Nat}{T:List UInt32}{R:List BV}{g:UInt32}{vb:A5}{db:Ao}{k:BV}{l:List As}{had:List BT}(hn:1100≤n)(hN:N≤4096)(V9:VS N c0 R g vb db)(hb:Tc N vb)(hk:DR R g=(k,0))(hl:FB l=true)
(hhad:∀s∈had,Rd T R N vb db s)(hlen:had.length≤100000)(hlim:c0+(N-2-vb.taken.length)≤100):
    ∃t th,TG n l=some (t,0)∧Tr n l t∧(∀k:NL,C0 th k=(had.find? fun s=>decide (s.txt=k.1)).map fun s=>(⟨s.page,s.tag⟩:Bb))∧
      ((∃r out q,Ss n T vb db l had=some (out,0,q.v,q.d)∧XK n t out r∧FA r=true∧kZ N c0 R g vb db q∧(∀s∈out,Rd T R N q.v q.d s)∧out.length=PM n t∧XJ (Sr T th) ⟨[],vb,db⟩ out q∧N-2-vb.taken.length≤N-2-q.v.taken.length+PM n t)∨
       (∃v d c,Ss n T vb db l had=some ([],110,v,d)∧N-2-vb.taken.length<PM n t∧v.taken=vb.taken∧VS N c R g v d)):=by
  obtain⟨t,h1,_,hT⟩:=jD (n:=n) (l:=l) zO hl
  obtain⟨th,h2,h3⟩:=gG had (fun s hs=>by have:=((hhad s hs).ok V9).2.2;omega) zO
  have hth:∀(key:NL) r,C0 th key=some r→Rd T R N vb db ⟨key.1,r.page,r.tag⟩:=by
    intro key r hr
    rw[h3 key]at hr
    obtain⟨s,hs,rfl⟩:=Option.map_eq_some_iff.1 hr
    have h5:=List.find?_some hs
    simp only[decide_eq_true_eq]at h5
    rw[←h5]
    exact hhad s (List.mem_of_find?_eq_some hs)
  have W:=pm (T:=T) (c0:=c0) (db:=db) hb hN hk hth
  have hpg:=fe hT (Wh hl)
  have hl1:=Wh hl
  have S0:kZ N c0 R g vb db ⟨[],vb,db⟩:=⟨V9,by simp,by simp,hb,fun _ _=>rfl,by simpa using hlim⟩
  obtain⟨r,p',q,e1,e2,e3,e4,e5⟩:=Zc W (n:=n) zO n l t ⟨[],0⟩ ⟨[],vb,db⟩ hT hl S0 rfl zQ
  refine⟨t,th,h1,hT,h3,?_⟩
  have hsave:Ss n T vb db l had=bc (r,(p',q)):=by
    unfold Ss
    rw[h1,AD,show(!decide ((0:Int)=0))=false from rfl,CQ,if_neg zO,h2,AD,e1,AD]
  rw[hsave]
  unfold bc
  rcases e5 with⟨w,seg,o1,o2,o3,o4,o5,o6⟩ | ⟨w,o6⟩
  left
  simp only[List.nil_append]at o1
  refine⟨r,seg,q,?_,o3,e2 w,e3,o5,o2,o4,o6⟩
  dsimp only
  rw[w,show(!decide ((0:Int)=0))=false from rfl,CQ,o1]
  right
  have hlim2:=e3.lim
  refine⟨{ q.v with taken:=vb.taken },q.d,c0+q.tk.length,?_,o6,rfl,?_⟩
  dsimp only
  rw[w,show(!decide ((110:Int)=0))=true from rfl,DB,if_neg zO,ZS hN q.tk q.v q.d vb.taken e3.vs.dev.blen e3.tak e3.ok.nd (fun p hp=>by
    have:=e3.ok.tr (p,true) (by rw[e3.tak];refine List.mem_append_left _ ?_;rw[List.mem_reverse];exact List.mem_map.2 ⟨p,hp,rfl⟩)
    exact this.2),AD]
  have V':=e3.vs
  exact⟨V'.dev,V'.ring,V'.rlen,V'.gen,V'.boot,Nat.le_trans V9.tlen (Nat.le_add_right ..)⟩
end

section
variable {K:Nat→Prop}{w0:World}{H:List AZ}
def DW(p0:UInt32)(p1:Int):Option UInt32:=
 (Qg p1).bind fun n1=>
 (Qg (wI (32-p1))).bind fun n2=>
 ret ((shl32 p0 n1) ||| (shr32 p0 n2)) fun x1=>
 some x1
theorem Lv{p0 r:UInt32}{p1:Int}(h:DW p0 p1=some r): zC K w0 325 [Z p0,vI p1] [] H (fun u M=>u=Z r∧M=[]):=by
 unfold DW at h
 refine T6.enter Tryz.func325 rfl rfl ?_
 refine Y (U E (V (AH ?_)))
 refine AE h fun n1 hn1 h=>?_
 refine AE h fun n2 hn2 h=>?_
 obtain⟨x1,ex1,h⟩:=By h
 refine A2 DE [] (C3 [(true,0),(true,1),(true,2),(true,3),(true,4),(true,5),(true,6),(true,7),(true,8)]) zK (J E (J E (AA E (Rt hn1) (J E (J E (AA E Dn (AA E (WP hn2) ?_)))))))
 refine AA E Es ?_
 refine Aq (u:=Z x1) E E (by rw[ex1]) ?_
 refine V (AL ?_)
 obtain rfl:=zI h
 exact AW [] 0 E E E
def IK(p0:UInt32)(p1:UInt32)(p2:UInt32)(p3:UInt32):Option (List UInt32):=
 ret (p0+p1) fun a_1=>
 (DW (p3 ^^^ a_1) 16).bind fun y1=>
 ret (p2+y1) fun x1=>
 (DW (p1 ^^^ x1) 12).bind fun y2=>
 ret (a_1+y2) fun a_2=>
 (DW (y1 ^^^ a_2) 8).bind fun y3=>
 ret (x1+y3) fun x2=>
 (DW (y2 ^^^ x2) 7).bind fun y4=>
 some [a_2,y4,x2,y3]
theorem QU{p0 p1 p2 p3:UInt32}{r:List UInt32}(h:IK p0 p1 p2 p3=some r): zC K w0 323 [Z p0,Z p1,Z p2,Z p3] [] H (fun u M=>u=.agg (DM Z r)∧r.length=4∧M=[]):=by
 unfold IK at h
 refine T6.enter Tryz.func323 rfl rfl ?_
 refine Y ?_
 refine Ar E S4 zU fun b1=>?_
 refine V (Y ?_)
 obtain⟨a_1,ea_1,h⟩:=By h
 refine J E (J E (AA E B4 ?_))
 refine Aq (u:=Z a_1) E E (by rw[ea_1]) ?_
 refine V (Y ?_)
 refine AE h fun y1 hy1 h=>?_
 refine J E (J E (AA E Cf (AM 0 XB (Lv hy1) E (U E (V (Y ?_))))))
 obtain⟨x1,ex1,h⟩:=By h
 refine J E (J E (AA E B4 ?_))
 refine Aq (u:=Z x1) E E (by rw[ex1]) ?_
 refine V (Y ?_)
 refine AE h fun y2 hy2 h=>?_
 refine J E (J E (AA E Cf (AM 0 XB (Lv hy2) E (U E (V (Y ?_))))))
 obtain⟨a_2,ea_2,h⟩:=By h
 refine J E (J E (AA E B4 ?_))
 refine Aq (u:=Z a_2) E E (by rw[ea_2]) ?_
 refine V (Y ?_)
 refine AE h fun y3 hy3 h=>?_
 refine J E (J E (AA E Cf (AM 0 XB (Lv hy3) E (U E (V (Y ?_))))))
 obtain⟨x2,ex2,h⟩:=By h
 refine J E (J E (AA E B4 ?_))
 refine Aq (u:=Z x2) E E (by rw[ex2]) ?_
 refine V (Y ?_)
 refine AE h fun y4 hy4 h=>?_
 refine J E (J E (AA E Cf (AM 0 XB (Lv hy4) E (U E (V (Y (J E (J E (J E ?_)))))))))
 refine J E (Bt [_,_,_,_] E r5 rf S4 ⟨E,E,E,E,zT⟩ E (A7 0 E E E E WH E E E zT (V (AL ?_))))
 obtain rfl:=zI h
 exact Al (Id E (CC 0 (([a_2,y4,x2,y3]).map Z) eX E E E E)) (Ak (M:=[]) ⟨E,E,E⟩ fun _ hw=>Bc.pick (H:=[_]) hw [] 1 E)
def JW(p0:List UInt8)(p1:Int):Option UInt32:=
 (BN p0 p1).bind fun c1=>
 (BN p0 (wI (p1+1))).bind fun c2=>
 (BN p0 (wI (p1+2))).bind fun c3=>
 (BN p0 (wI (p1+3))).bind fun c4=>
 ret (((c1.toUInt32 ||| (shl32 c2.toUInt32 8)) ||| (shl32 c3.toUInt32 16)) ||| (shl32 c4.toUInt32 24)) fun x1=>
 some x1
theorem Th{p0:List UInt8}{p1:Int}{r:UInt32}(h:JW p0 p1=some r): zC K w0 322 [vS p0,vI p1] [] H (fun u M=>u=Z r∧M=[]):=by
 unfold JW at h
 refine T6.enter Tryz.func322 rfl rfl ?_
 refine Y (U E (V (AH ?_)))
 refine AE h fun c1 hc1 h=>?_
 refine AE h fun c2 hc2 h=>?_
 refine AE h fun c3 hc3 h=>?_
 refine AE h fun c4 hc4 h=>?_
 obtain⟨x1,ex1,h⟩:=By h
 refine A2 DE [] (C3 [(true,0),(true,1),(true,2),(true,3),(true,4),(true,5),(true,6),(true,7),(true,8),(true,9),(true,10),(true,11),(true,12),(true,13),(true,14),(true,15),(true,16),(true,17),(true,18),(true,19),(true,20),(true,21),(true,22),(true,23),(true,24),(true,25)]) zK (J E (J E (Ki hc1 E Ce E E (BM E E (FE DG CP) (J E (J E (AA E Bu ?_)))))))
 refine Ki hc2 E Ce E E (BM E E (FE DG CP) ?_)
 refine AA E (FQ.shl32 (n:=8)) ?_
 refine AA E Es (J E (J E (AA E Bu (Ki hc3 E Ce E E (BM E E (FE DG CP) ?_)))))
 refine AA E (FQ.shl32 (n:=16)) ?_
 refine AA E Es (J E (J E (AA E Bu (Ki hc4 E Ce E E (BM E E (FE DG CP) ?_)))))
 refine AA E (FQ.shl32 (n:=24)) ?_
 refine AA E Es ?_
 refine Aq (u:=Z x1) E E (by rw[ex1]) ?_
 refine V (AL ?_)
 obtain rfl:=zI h
 exact AW [] 0 E E E
def Ju(l5:List UInt32):Option (List UInt32):=
 some l5
def GG(p2:List UInt8)(nx_f_ref01_State_l2:List UInt32×Int→Option (List UInt32))(l6:List UInt32)(a2:Int):Option (List UInt32):=
 cond (decide (a2<3))
 (
  (JW p2 (wI (4*a2))).bind fun y2=>
  (DO 4 l6 [y2]).bind fun l7=>
  ret (wI (a2+1)) fun i_2=>
  nx_f_ref01_State_l2 (l7,i_2))
 (
  Ju l6)
def Jw(p2:List UInt8):Nat→(List UInt32×Int)→Option (List UInt32):=CO fun nx x=>GG p2 nx x.1 x.2
def Hb(n:Nat)(p1:UInt32)(p2:List UInt8)(l1:List UInt32):Option (List UInt32):=
 (DO 4 l1 [p1]).bind fun l4=>
 Jw p2 n (l4,0)
def GF(n:Nat)(p0:List UInt8)(p1:UInt32)(p2:List UInt8)(nx_f_ref01_State_l1:List UInt32×Int→Option (List UInt32))(l2:List UInt32)(a1:Int):Option (List UInt32):=
 cond (decide (a1<8))
 (
  (JW p0 (wI (4*a1))).bind fun y1=>
  (DO 4 l2 [y1]).bind fun l3=>
  ret (wI (a1+1)) fun i_1=>
  nx_f_ref01_State_l1 (l3,i_1))
 (
  Hb n p1 p2 l2)
def Jv(n:Nat)(p0:List UInt8)(p1:UInt32)(p2:List UInt8):Nat→(List UInt32×Int)→Option (List UInt32):=CO fun nx x=>GF n p0 p1 p2 nx x.1 x.2
def KJ(n:Nat)(p0:List UInt8)(p1:UInt32)(p2:List UInt8):Option (List UInt32):=
 Jv n p0 p1 p2 n ([1634760805,857760878,2036477234,1797285236],0)
theorem Xk{n:Nat}{p0 p2:List UInt8}{p1:UInt32}{r:List UInt32}(h:KJ n p0 p1 p2=some r): zC K w0 309 [vS p0,Z p1,vS p2] [] H (fun u M=>∃v0:Value,u=v0∧M=[AC 33 1 v0 BW r]):=by
 unfold KJ at h
 refine T6.enter Tryz.func309 rfl rfl ?_
 refine Y (B5 33 1 BW (U E (V (Y ?_))))
 refine CE [_,_,_,_] E CR Bq H4 ⟨E,E,E,E,zT⟩ E E E zX E E zU fun b1=>?_
 refine CJ BW 1 ([1634760805,857760878,2036477234,1797285236]:List UInt32) E zV E ?_
 refine U E (V ?_)
 refine BB (α:=List UInt32×Value) (fun x=>Hb n p1 p2 x.1=some r) (fun x=>[(1,Z p1),(2,vS p2),(7,x.2)]) (fun x=>AC 33 1 x.2 BW x.1::H) ?_ (fun x D h=>?_)
 refine Y (U E (V (AQ ?_)))
 refine SX.heap (SX.mono (BU (α:=Nat×List UInt32×Value×Int) (fun x=>Jv n p0 p1 p2 x.1 (x.2.1,x.2.2.2)=some r) (fun x=>[(0,vS p0),(1,Z p1),(2,vS p2),(7,x.2.2.1),(8,vI x.2.2.2)]) (fun x=>AC 33 1 x.2.2.1 BW x.2.1::H) (fun x=>x.1) (fun x D h=>?_) (n,[1634760805,857760878,2036477234,1797285236],.slice (some ⟨b1,0,none⟩) 4 4,0) h) tL) (BX [0] 2 E E E)
 obtain⟨m1,l2,v2,a1⟩:=x
 dsimp only at h
 rcases m1 with _ | m1
 cases (show(none:Option _)=some r from h)
 replace h:GF n p0 p1 p2 (Jv n p0 p1 p2 m1) l2 a1=some r:=h
 unfold GF at h
 try dsimp only
 refine AH (Y (J E (AA E BD (V ?_))))
 refine AP h E (fun hc1 h=>?_) fun hc1 h=>?_
 refine AJ (AI (AH (AQ (AS ?_))))
 refine AE h fun y1 hy1 h=>?_
 refine AE h fun l3 hl3 h=>?_
 refine J E (J E (J E (AA E MR (AM 0 iD (Th hy1) E ?_))))
 refine CE [_] E CR Bq H4 ⟨E,zT⟩ E E E zX E E zU fun b2=>?_
 refine CJ BW 1 ([y1]:List UInt32) E zV E ?_
 refine Cr 1 hl3 (sz:=1) (enc:=BW) zV E CR Bq QP H4 E zD E E E E (CM (sz:=1) (enc:=BW) 0 zV E) (by simp[BW,Value.oneCell']) zU fun v3=>?_
 refine U E (Aa (Ay (AI (AS ?_))))
 obtain⟨i_1,ei_1,h⟩:=By h
 refine J E (AA E Bu ?_)
 refine Aq (u:=vI i_1) E E (by rw[ei_1]) ?_
 refine Aa ?_
 exact A1 (m1,l3,v3,i_1) h (Nat.lt_succ_self _) tL (BX [1] 2 E E E)
 refine A4 (A9 (Bi (BA ?_)))
 exact Az (l2,v2) h tL (BX [0] 1 E E E)
 obtain⟨l1,v1⟩:=x
 dsimp only at h
 unfold Hb at h
 try dsimp only
 refine Y ?_
 refine AE h fun l4 hl4 h=>?_
 refine J E (J E ?_)
 refine CE [_] E CR Bq H4 ⟨E,zT⟩ E E E zX E E zU fun b3=>?_
 refine CJ BW 1 ([p1]:List UInt32) E zV E ?_
 refine Cr 1 hl4 (sz:=1) (enc:=BW) zV E CR Bq QP H4 E zD E E E E (CM (sz:=1) (enc:=BW) 0 zV E) (by simp[BW,Value.oneCell']) zU fun v4=>?_
 refine U E (V ?_)
 refine BB (α:=List UInt32×Value) (fun x=>Ju x.1=some r) (fun x=>[(7,x.2)]) (fun x=>AC 33 1 x.2 BW x.1::H) ?_ (fun x D h=>?_)
 refine Y (U E (V (AQ ?_)))
 refine SX.heap (SX.mono (BU (α:=Nat×List UInt32×Value×Int) (fun x=>Jw p2 x.1 (x.2.1,x.2.2.2)=some r) (fun x=>[(2,vS p2),(7,x.2.2.1),(9,vI x.2.2.2)]) (fun x=>AC 33 1 x.2.2.1 BW x.2.1::H) (fun x=>x.1) (fun x D h=>?_) (n,l4,v4,0) h) tL) (BX [1] 2 E E E)
 obtain⟨m2,l6,v6,a2⟩:=x
 dsimp only at h
 rcases m2 with _ | m2
 cases (show(none:Option _)=some r from h)
 replace h:GG p2 (Jw p2 m2) l6 a2=some r:=h
 unfold GG at h
 try dsimp only
 refine AH (Y (J E (AA E BD (V ?_))))
 refine AP h E (fun hc2 h=>?_) fun hc2 h=>?_
 refine AJ (AI (AH (AQ (AS ?_))))
 refine AE h fun y2 hy2 h=>?_
 refine AE h fun l7 hl7 h=>?_
 refine J E (J E (J E (AA E MR (AM 0 iD (Th hy2) E ?_))))
 refine CE [_] E CR Bq H4 ⟨E,zT⟩ E E E zX E E zU fun b4=>?_
 refine CJ BW 1 ([y2]:List UInt32) E zV E ?_
 refine Cr 1 hl7 (sz:=1) (enc:=BW) zV E CR Bq QP H4 E zD E E E E (CM (sz:=1) (enc:=BW) 0 zV E) (by simp[BW,Value.oneCell']) zU fun v7=>?_
 refine U E (Aa (Ay (AI (AS ?_))))
 obtain⟨i_2,ei_2,h⟩:=By h
 refine J E (AA E Bu ?_)
 refine Aq (u:=vI i_2) E E (by rw[ei_2]) ?_
 refine Aa ?_
 exact A1 (m2,l7,v7,i_2) h (Nat.lt_succ_self _) tL (BX [1] 2 E E E)
 refine A4 (A9 (Bi (BA ?_)))
 exact Az (l6,v6) h tL (BX [0] 1 E E E)
 obtain⟨l5,v5⟩:=x
 dsimp only at h
 unfold Ju at h
 try dsimp only
 refine Y (J E (U E (V (AL ?_))))
 obtain rfl:=zI h
 exact Bp [0] 1 (Cn E E) E E ⟨v5,E,E⟩
def DA(p0:List UInt32)(p1:Int)(p2:Int)(p3:Int)(p4:Int):Option (List UInt32):=
 (BN p0 p1).bind fun x1=>
 (BN p0 p2).bind fun x2=>
 (BN p0 p3).bind fun x3=>
 (BN p0 p4).bind fun x4=>
 (IK x1 x2 x3 x4).bind fun y1=>
 (BN y1 0).bind fun x5=>
 (BN p0 p1).bind fun x6=>
 (OA p0 p1 x5).bind fun l1=>
 (BN y1 1).bind fun x7=>
 (BN l1 p2).bind fun x8=>
 (OA l1 p2 x7).bind fun l2=>
 (BN y1 2).bind fun x9=>
 (BN l2 p3).bind fun x10=>
 (OA l2 p3 x9).bind fun l3=>
 (BN y1 3).bind fun x11=>
 (BN l3 p4).bind fun x12=>
 (OA l3 p4 x11).bind fun l4=>
 some l4
theorem Ii{DJ:Value}{p0 r:List UInt32}{p1 p2 p3 p4:Int}(h:DA p0 p1 p2 p3 p4=some r): zC K w0 310 [DJ,vI p1,vI p2,vI p3,vI p4] [AC 33 1 DJ BW p0] H (fun u M=>u=.tuple #[]∧M=[AC 33 1 DJ BW r]):=by
 unfold DA at h
 refine T6.enter Tryz.func310 rfl rfl ?_
 refine AH ?_
 refine AE h fun x1 hx1 h=>?_
 refine AE h fun x2 hx2 h=>?_
 refine AE h fun x3 hx3 h=>?_
 refine AE h fun x4 hx4 h=>?_
 refine AE h fun y1 hy1 h=>?_
 refine A2 DE [0] (CK [(true,0),(true,1),(true,2),(true,3),(true,4),(true,5),(true,6),(true,7),(true,8),(true,9),(true,10),(true,11),(true,12),(true,13),(true,14),(true,15)] (.alt 16 (C3 [(false,17),(false,18)]) (.cons (false,17) (C3 [(false,16),(false,18)])))) zK (J E (J E ?_))
 refine CL 0 hx1 E CR Bq E E E fun g1 m1 cp1 hv1=>?_
 refine B0 E A6 E (CD (sz:=1) (enc:=BW) 0 0 zV E hv1 hx1 E) ?_
 refine J E (J E ?_)
 refine CL 0 hx2 E CR Bq E E E fun g2 m2 cp2 hv2=>?_
 refine B0 E A6 E (CD (sz:=1) (enc:=BW) 0 0 zV E hv2 hx2 E) ?_
 refine J E (J E ?_)
 refine CL 0 hx3 E CR Bq E E E fun g3 m3 cp3 hv3=>?_
 refine B0 E A6 E (CD (sz:=1) (enc:=BW) 0 0 zV E hv3 hx3 E) ?_
 refine J E (J E ?_)
 refine CL 0 hx4 E CR Bq E E E fun g4 m4 cp4 hv4=>?_
 refine B0 E A6 E (CD (sz:=1) (enc:=BW) 0 0 zV E hv4 hx4 E) ?_
 refine Ql ?_ ?_
 refine Bo (vs:=[_,_,_,_]) (Hin:=[]) (Hr:=_::_) E E ⟨E,E,E,E,zT⟩ iE E E (QU hy1) ?_
 rintro _ _ ⟨rfl,hn1,rfl⟩
 refine⟨⟨⟨0,rfl⟩,trivial⟩,?_⟩
 refine Ar E S4 (fun _=>⟨⟨1,E⟩,zT⟩) fun b1=>?_
 refine OW 0 E E E E WH ((TE ..).trans hn1) E (N2 (f:=Z) zV y1) ⟨⟨1,E⟩,zT⟩ ?_
 refine V (Y ?_)
 refine AE h fun x5 hx5 h=>?_
 refine AE h fun x6 hx6 h=>?_
 refine AE h fun l1 hl1 h=>?_
 refine J E (J E ?_)
 refine Mf (xs:=y1) hx5 E QG Bq E E hn1 ?_
 refine B0 E A6 E (Cp 0 E (Eu (Ep hx5).2.2)) ?_
 refine CL 1 hx6 E CR Bq E E E fun g5 m5 cp5 hv5=>?_
 refine GC (sz:=1) (enc:=BW) 1 hl1 zV E E E E E hv5 Bq (by simp[Value.oneCell']) zT ?_
 refine V (Y ?_)
 refine AE h fun x7 hx7 h=>?_
 refine AE h fun x8 hx8 h=>?_
 refine AE h fun l2 hl2 h=>?_
 refine J E (J E ?_)
 refine Mf (xs:=y1) hx7 E QG Bq E E hn1 ?_
 refine B0 E A6 E (Cp 0 E (Eu (Ep hx7).2.2)) ?_
 refine CL 1 hx8 E CR Bq E E E fun g6 m6 cp6 hv6=>?_
 refine GC (sz:=1) (enc:=BW) 1 hl2 zV E E E E E hv6 Bq (by simp[Value.oneCell']) zT ?_
 refine V (Y ?_)
 refine AE h fun x9 hx9 h=>?_
 refine AE h fun x10 hx10 h=>?_
 refine AE h fun l3 hl3 h=>?_
 refine J E (J E ?_)
 refine Mf (xs:=y1) hx9 E QG Bq E E hn1 ?_
 refine B0 E A6 E (Cp 0 E (Eu (Ep hx9).2.2)) ?_
 refine CL 1 hx10 E CR Bq E E E fun g7 m7 cp7 hv7=>?_
 refine GC (sz:=1) (enc:=BW) 1 hl3 zV E E E E E hv7 Bq (by simp[Value.oneCell']) zT ?_
 refine V (AS ?_)
 refine AE h fun x11 hx11 h=>?_
 refine AE h fun x12 hx12 h=>?_
 refine AE h fun l4 hl4 h=>?_
 refine J E (J E ?_)
 refine Mf (xs:=y1) hx11 E QG Bq E E hn1 ?_
 refine B0 E A6 E (Cp 0 E (Eu (Ep hx11).2.2)) ?_
 refine CL 1 hx12 E CR Bq E E E fun g8 m8 cp8 hv8=>?_
 refine GC (sz:=1) (enc:=BW) 1 hl4 zV E E E E E hv8 Bq (by simp[Value.oneCell']) zT ?_
 refine Aa ?_
 obtain rfl:=zI h
 exact C9 (Dh E) (Ak (M:=[_]) ⟨E,E⟩ fun _ hw=>Bc.pick (H:=[_,_]) hw [1] 2 E)
 refine Ar E S4 (fun _=>⟨⟨1,E⟩,zT⟩) fun b1=>?_
 refine Bo (vs:=[_,_,_,_]) (Hin:=[]) (Hr:=_::_::_) E E ⟨E,E,E,E,zT⟩ iE E E (QU hy1) ?_
 rintro _ _ ⟨rfl,hn1,rfl⟩
 refine⟨⟨⟨1,rfl⟩,trivial⟩,?_⟩
 refine OW 0 E E E E WH ((TE ..).trans hn1) E (N2 (f:=Z) zV y1) ⟨⟨1,E⟩,zT⟩ ?_
 refine V (Y ?_)
 refine AE h fun x5 hx5 h=>?_
 refine AE h fun x6 hx6 h=>?_
 refine AE h fun l1 hl1 h=>?_
 refine J E (J E ?_)
 refine Mf (xs:=y1) hx5 E QG Bq E E hn1 ?_
 refine B0 E A6 E (Cp 0 E (Eu (Ep hx5).2.2)) ?_
 refine CL 1 hx6 E CR Bq E E E fun g5 m5 cp5 hv5=>?_
 refine GC (sz:=1) (enc:=BW) 1 hl1 zV E E E E E hv5 Bq (by simp[Value.oneCell']) zT ?_
 refine V (Y ?_)
 refine AE h fun x7 hx7 h=>?_
 refine AE h fun x8 hx8 h=>?_
 refine AE h fun l2 hl2 h=>?_
 refine J E (J E ?_)
 refine Mf (xs:=y1) hx7 E QG Bq E E hn1 ?_
 refine B0 E A6 E (Cp 0 E (Eu (Ep hx7).2.2)) ?_
 refine CL 1 hx8 E CR Bq E E E fun g6 m6 cp6 hv6=>?_
 refine GC (sz:=1) (enc:=BW) 1 hl2 zV E E E E E hv6 Bq (by simp[Value.oneCell']) zT ?_
 refine V (Y ?_)
 refine AE h fun x9 hx9 h=>?_
 refine AE h fun x10 hx10 h=>?_
 refine AE h fun l3 hl3 h=>?_
 refine J E (J E ?_)
 refine Mf (xs:=y1) hx9 E QG Bq E E hn1 ?_
 refine B0 E A6 E (Cp 0 E (Eu (Ep hx9).2.2)) ?_
 refine CL 1 hx10 E CR Bq E E E fun g7 m7 cp7 hv7=>?_
 refine GC (sz:=1) (enc:=BW) 1 hl3 zV E E E E E hv7 Bq (by simp[Value.oneCell']) zT ?_
 refine V (AS ?_)
 refine AE h fun x11 hx11 h=>?_
 refine AE h fun x12 hx12 h=>?_
 refine AE h fun l4 hl4 h=>?_
 refine J E (J E ?_)
 refine Mf (xs:=y1) hx11 E QG Bq E E hn1 ?_
 refine B0 E A6 E (Cp 0 E (Eu (Ep hx11).2.2)) ?_
 refine CL 1 hx12 E CR Bq E E E fun g8 m8 cp8 hv8=>?_
 refine GC (sz:=1) (enc:=BW) 1 hl4 zV E E E E E hv8 Bq (by simp[Value.oneCell']) zT ?_
 refine Aa ?_
 obtain rfl:=zI h
 exact C9 (Dh E) (Ak (M:=[_]) ⟨E,E⟩ fun _ hw=>Bc.pick (H:=[_,_]) hw [1] 2 E)
def Jr(l4:List UInt8):Option (List UInt8×Int):=
 some (l4,0)
def GE(y1:List UInt32)(l2:List UInt32)(nx_f_ref01_Block_l2:List UInt8×Int→Option (List UInt8×Int))(l5:List UInt8)(a2:Int):Option (List UInt8×Int):=
 cond (decide (a2<16))
 (
  (BN l2 a2).bind fun x2=>
  (BN y1 a2).bind fun x3=>
  ret (x2+x3) fun x4=>
  (DO 1 l5 [x4.toUInt8,(shr32 x4 8).toUInt8,(shr32 x4 16).toUInt8,(shr32 x4 24).toUInt8]).bind fun l6=>
  ret (wI (a2+1)) fun x5=>
  nx_f_ref01_Block_l2 (l6,x5))
 (
  Jr l5)
def Jt(y1:List UInt32)(l2:List UInt32):Nat→(List UInt8×Int)→Option (List UInt8×Int):=CO fun nx x=>GE y1 l2 nx x.1 x.2
def Fy(n:Nat)(y1:List UInt32)(l2:List UInt32):Option (List UInt8×Int):=
 Jt y1 l2 n ([],0)
def GD(n:Nat)(y1:List UInt32)(nx_f_ref01_Block_l1:List UInt32×Int→Option (List UInt8×Int))(l3:List UInt32)(a1:Int):Option (List UInt8×Int):=
 cond (decide (a1<10))
 (
  (DA l3 0 4 8 12).bind fun y2=>
  (DA y2 1 5 9 13).bind fun y3=>
  (DA y3 2 6 10 14).bind fun y4=>
  (DA y4 3 7 11 15).bind fun y5=>
  (DA y5 0 5 10 15).bind fun y6=>
  (DA y6 1 6 11 12).bind fun y7=>
  (DA y7 2 7 8 13).bind fun y8=>
  (DA y8 3 4 9 14).bind fun y9=>
  ret (wI (a1+1)) fun x1=>
  nx_f_ref01_Block_l1 (y9,x1))
 (
  Fy n y1 l3)
def Js(n:Nat)(y1:List UInt32):Nat→(List UInt32×Int)→Option (List UInt8×Int):=CO fun nx x=>GD n y1 nx x.1 x.2
def Gn(n:Nat)(p0:List UInt8)(p1:UInt32)(p2:List UInt8):Option (List UInt8×Int):=
 cond ((!decide ((p0.length:Int)=32))||(!decide ((p2.length:Int)=12)))
 (
  some ([],2))
 (
  (KJ n p0 p1 p2).bind fun y1=>
  (DO 4 [] y1).bind fun l1=>
  Js n y1 n (l1,0))
theorem Xj{n:Nat}{p0 p2:List UInt8}{p1:UInt32}{r:List UInt8×Int}(h:Gn n p0 p1 p2=some r): zC K w0 285 [vS p0,Z p1,vS p2] [] H (fun u M=>u=.tuple #[vS r.1,vI r.2]∧M=[]):=by
 unfold Gn at h
 refine T6.enter Tryz.func285 rfl rfl ?_
 refine Y (U E (U E (V (AH (Y (J E (Bz E Ce E (AA E BG (J E ?_)))))))))
 refine E2 (c := !decide ((p2.length:Int)=12)) 17 4 21 E (fun hb k=>?_) (fun hb k=>?_) ?_
 refine AB E (AB E (AB E (Ag E E E ?_)))
 exact k.mono tL
 refine J E (Bz E Ce E (AA E BG (Ag E E E ?_)))
 exact k.mono tL
 refine V ?_
 refine AP h E (fun hc1 h=>?_) fun hc1 h=>?_
 refine Y (U E (U E (V (AL (Ac ?_)))))
 obtain rfl:=zI h
 exact AW [] 0 E E E
 refine AJ (AI (Y ?_))
 refine AE h fun y1 hy1 h=>?_
 refine J E (J E (J E ?_))
 refine Bo (vs:=[_,_,_]) (Hin:=[]) (Hr:=_) E E ⟨E,E,E,zT⟩ pV E E (Xk hy1) ?_
 rintro v1 _ ⟨_,rfl,rfl⟩
 refine⟨trivial,?_⟩
 refine U E (V (Y ?_))
 refine AE h fun l1 hl1 h=>?_
 refine gV (n:=16) BW E CR Bq QP H4 E E E E E zU fun v2=>?_
 refine J E ?_
 refine kE 0 1 hl1 (sz:=1) (enc:=BW) zV E CR Bq QP H4 E zD E E E E (by simp[BW,Value.oneCell']) zU fun v3=>?_
 refine U E (V ?_)
 refine BB (α:=List UInt32×Value) (fun x=>Fy n y1 x.1=some r) (fun x=>[(8,v1),(9,x.2)]) (fun x=>AC 33 1 v1 BW y1::AC 33 1 x.2 BW x.1::H) ?_ (fun x D h=>?_)
 refine Y (U E (V (AQ ?_)))
 refine SX.heap (SX.mono (BU (α:=Nat×List UInt32×Value×Int) (fun x=>Js n y1 x.1 (x.2.1,x.2.2.2)=some r) (fun x=>[(8,v1),(9,x.2.2.1),(10,vI x.2.2.2)]) (fun x=>AC 33 1 v1 BW y1::AC 33 1 x.2.2.1 BW x.2.1::H) (fun x=>x.1) (fun x D h=>?_) (n,l1,v3,0) h) tL) (BX [1,0] 2 E E E)
 obtain⟨m1,l3,v5,a1⟩:=x
 dsimp only at h
 rcases m1 with _ | m1
 cases (show(none:Option _)=some r from h)
 replace h:GD n y1 (Js n y1 m1) l3 a1=some r:=h
 unfold GD at h
 try dsimp only
 refine AH (Y (J E (AA E BD (V ?_))))
 refine AP h E (fun hc2 h=>?_) fun hc2 h=>?_
 refine AJ (AI (AH (AQ (Y ?_))))
 refine AE h fun y2 hy2 h=>?_
 refine J E (SL.pick [1,0] 2 (AM 1 Pm (Ii hy2) E (V (Y ?_))))
 refine AE h fun y3 hy3 h=>?_
 refine J E (AM 1 Pm (Ii hy3) E (V (Y ?_)))
 refine AE h fun y4 hy4 h=>?_
 refine J E (AM 1 Pm (Ii hy4) E (V (Y ?_)))
 refine AE h fun y5 hy5 h=>?_
 refine J E (AM 1 Pm (Ii hy5) E (V (Y ?_)))
 refine AE h fun y6 hy6 h=>?_
 refine J E (AM 1 Pm (Ii hy6) E (V (Y ?_)))
 refine AE h fun y7 hy7 h=>?_
 refine J E (AM 1 Pm (Ii hy7) E (V (Y ?_)))
 refine AE h fun y8 hy8 h=>?_
 refine J E (AM 1 Pm (Ii hy8) E (V (AS ?_)))
 refine AE h fun y9 hy9 h=>?_
 refine J E (AM 1 Pm (Ii hy9) E (Aa (Ay (AI (AS ?_)))))
 obtain⟨x1,ex1,h⟩:=By h
 refine J E (AA E Bu ?_)
 refine Aq (u:=vI x1) E E (by rw[ex1]) ?_
 refine Aa ?_
 exact A1 (m1,y9,v5,x1) h (Nat.lt_succ_self _) tL (BX [1,0] 2 E E E)
 refine A4 (A9 (Bi (BA ?_)))
 exact Az (l3,v5) h tL (BX [0,1] 2 E E E)
 obtain⟨l2,v4⟩:=x
 dsimp only at h
 unfold Fy at h
 try dsimp only
 refine Y (B5 5 1 FS (U E (V ?_)))
 refine BB (α:=List UInt8×Value) (fun x=>Jr x.1=some r) (fun x=>[(11,x.2)]) (fun x=>AC 5 1 x.2 FS x.1::H) ?_ (fun x D h=>?_)
 refine Y (U E (V (AQ ?_)))
 refine SX.heap (SX.mono (BU (α:=Nat×List UInt8×Value×Int) (fun x=>Jt y1 l2 x.1 (x.2.1,x.2.2.2)=some r) (fun x=>[(8,v1),(9,v4),(11,x.2.2.1),(12,vI x.2.2.2)]) (fun x=>AC 33 1 v1 BW y1::AC 33 1 v4 BW l2::AC 5 1 x.2.2.1 FS x.2.1::H) (fun x=>x.1) (fun x D h=>?_) (n,[],zN,0) h) tL) (BX [1,2,0] 3 E E E)
 obtain⟨m2,l5,v7,a2⟩:=x
 dsimp only at h
 rcases m2 with _ | m2
 cases (show(none:Option _)=some r from h)
 replace h:GE y1 l2 (Jt y1 l2 m2) l5 a2=some r:=h
 unfold GE at h
 try dsimp only
 refine AH (Y (J E (AA E BD (V ?_))))
 refine AP h E (fun hc3 h=>?_) fun hc3 h=>?_
 refine AJ (AI (AH (AQ (AH ?_))))
 refine AE h fun x2 hx2 h=>?_
 refine AE h fun x3 hx3 h=>?_
 obtain⟨x4,ex4,h⟩:=By h
 refine A2 DE [0,1] (C3 [(true,0),(true,1),(true,2),(true,3),(true,4),(true,5),(true,6),(true,7),(true,8),(true,9)]) zK (J E (J E ?_))
 refine CL 1 hx2 E CR Bq E E E fun g1 m3 cp1 hv1=>?_
 refine B0 E A6 E (CD (sz:=1) (enc:=BW) 1 0 zV E hv1 hx2 E) ?_
 refine J E (J E ?_)
 refine CL 0 hx3 E CR Bq E E E fun g2 m4 cp2 hv2=>?_
 refine B0 E A6 E (CD (sz:=1) (enc:=BW) 0 0 zV E hv2 hx3 E) ?_
 refine AA E B4 ?_
 refine Aq (u:=Z x4) E E (by rw[ex4]) ?_
 refine V (AS ?_)
 refine AE h fun l6 hl6 h=>?_
 refine J E (J E (BM E E (Cx CP DG) (J E ?_)))
 refine AA E (FQ.shr32 (n:=8)) ?_
 refine BM E E (Cx CP DG) (J E ?_)
 refine AA E (FQ.shr32 (n:=16)) ?_
 refine BM E E (Cx CP DG) (J E ?_)
 refine AA E (FQ.shr32 (n:=24)) ?_
 refine BM E E (Cx CP DG) ?_
 refine CE [_,_,_,_] E Ca Ji Kh ⟨E,E,E,E,zT⟩ E E E zX E E zU fun b1=>?_
 refine CJ FS 1 ([x4.toUInt8,(shr32 x4 8).toUInt8,(shr32 x4 16).toUInt8,(shr32 x4 24).toUInt8]:List UInt8) E zV E ?_
 refine Cr 3 hl6 (sz:=1) (enc:=FS) zV E Ca Ji Vl Kh E zD E E E E (CM (sz:=1) (enc:=FS) 0 zV E) (by simp[FS,Value.oneCell']) zU fun v8=>?_
 refine U E (Aa (Ay (AI (AS ?_))))
 obtain⟨x5,ex5,h⟩:=By h
 refine J E (AA E Bu ?_)
 refine Aq (u:=vI x5) E E (by rw[ex5]) ?_
 refine Aa ?_
 exact A1 (m2,l6,v8,x5) h (Nat.lt_succ_self _) tL (BX [1,2,3] 4 E E E)
 refine A4 (A9 (Bi (BA ?_)))
 exact Az (l5,v7) h tL (BX [2] 3 E E E)
 obtain⟨l4,v6⟩:=x
 dsimp only at h
 unfold Jr at h
 try dsimp only
 refine Y (J E (Ge 0 E Ca DG Ce E E (U E (U E (V (AL ?_))))))
 obtain rfl:=zI h
 exact AW [] 1 E E E
def Lw(l1:List UInt8):Option (List UInt8×Int):=
 some (l1,0)
def HL(p2:List UInt8)(l2:List UInt8)(a2:Int)(nx_f_ref01_Xor_l1:List UInt8×List UInt8×Int→Option (List UInt8×Int))(a3:List UInt8):Option (List UInt8×Int):=
 (BN p2 a2).bind fun c1=>
 (T3 a2 64).bind fun q3=>
 (BN a3 q3).bind fun c2=>
 (DO 1 l2 [c1 ^^^ c2]).bind fun l3=>
 ret (wI (a2+1)) fun i_1=>
 nx_f_ref01_Xor_l1 (l3,a3,i_1)
def Hc(n:Nat)(p0:List UInt8)(p1:List UInt8)(p2:List UInt8)(nx_f_ref01_Xor_l1:List UInt8×List UInt8×Int→Option (List UInt8×Int))(l2:List UInt8)(a1:List UInt8)(a2:Int):Option (List UInt8×Int):=
 cond (decide (a2<(p2.length:Int)))
 (
  (T3 a2 64).bind fun q1=>
  cond (decide (q1=0))
  (
   (VV a2 64).bind fun q2=>
   (Gn n p0 (FN q2) p1).bind fun y1=>
   HL p2 l2 a2 nx_f_ref01_Xor_l1 y1.1)
  (
   HL p2 l2 a2 nx_f_ref01_Xor_l1 a1))
 (
  Lw l2)
def JB(n:Nat)(p0:List UInt8)(p1:List UInt8)(p2:List UInt8):Nat→(List UInt8×List UInt8×Int)→Option (List UInt8×Int):=CO fun nx x=>Hc n p0 p1 p2 nx x.1 x.2.1 x.2.2
def Mr(n:Nat)(p0:List UInt8)(p1:List UInt8)(p2:List UInt8):Option (List UInt8×Int):=
 cond (((!decide ((p0.length:Int)=32))||(!decide ((p1.length:Int)=12)))||(decide (1048576<(p2.length:Int))))
 (
  some ([],2))
 (
  JB n p0 p1 p2 n ([],[],0))
theorem aI{n:Nat}{p0 p1 p2:List UInt8}{r:List UInt8×Int}(h:Mr n p0 p1 p2=some r): zC K w0 256 [vS p0,vS p1,vS p2] [] H (fun u M=>u=.tuple #[vS r.1,vI r.2]∧M=[]):=by
 unfold Mr at h
 refine T6.enter Tryz.func256 rfl rfl ?_
 refine Y (U E (U E (V (AH (Y (J E (Bz E Ce E (AA E BG (J E ?_)))))))))
 refine E2 (c := !decide ((p1.length:Int)=12)) 16 4 20 E (fun hb k=>?_) (fun hb k=>?_) ?_
 refine AB E (AB E (AB E (Ag E E E ?_)))
 exact k.mono tL
 refine J E (Bz E Ce E (AA E BG (Ag E E E ?_)))
 exact k.mono tL
 refine J E ?_
 refine E2 (c:=decide (1048576<(p2.length:Int))) 21 4 25 E (fun hb k=>?_) (fun hb k=>?_) ?_
 refine AB E (AB E (AB E (Ag E E E ?_)))
 exact k.mono tL
 refine J E (Bz E Ce E (AA E Cm (Ag E E E ?_)))
 exact k.mono tL
 refine V ?_
 refine AP h E (fun hc1 h=>?_) fun hc1 h=>?_
 refine Y (U E (U E (V (AL (Ac ?_)))))
 obtain rfl:=zI h
 exact AW [] 0 E E E
 refine AJ (AI (Y (B5 5 1 FS (U E (V (Y (U E (V ?_))))))))
 refine BB (α:=List UInt8×Value) (fun x=>Lw x.1=some r) (fun x=>[(8,x.2)]) (fun x=>AC 5 1 x.2 FS x.1::H) ?_ (fun x D h=>?_)
 refine Y (U E (V (AQ ?_)))
 refine SX.heap (SX.mono (BU (α:=Nat×List UInt8×Value×List UInt8×Int) (fun x=>JB n p0 p1 p2 x.1 (x.2.1,x.2.2.2.1,x.2.2.2.2)=some r) (fun x=>[(0,vS p0),(1,vS p1),(2,vS p2),(8,x.2.2.1),(9,vS x.2.2.2.1),(10,vI x.2.2.2.2)]) (fun x=>AC 5 1 x.2.2.1 FS x.2.1::H) (fun x=>x.1) (fun x D h=>?_) (n,[],zN,[],0) h) tL) (BX [0] 1 E E E)
 obtain⟨m1,l2,v2,a1,a2⟩:=x
 dsimp only at h
 rcases m1 with _ | m1
 cases (show(none:Option _)=some r from h)
 replace h:Hc n p0 p1 p2 (JB n p0 p1 p2 m1) l2 a1 a2=some r:=h
 unfold Hc at h
 try dsimp only
 refine AH (Y (J E (J E (Bz E Ce E (AA E BD (V ?_))))))
 refine AP h E (fun hc2 h=>?_) fun hc2 h=>?_
 refine AJ (AI (AH (AQ ?_)))
 refine BB (α:=List UInt8) (fun x=>HL p2 l2 a2 (JB n p0 p1 p2 m1) x=some r) (fun x=>[(0,vS p0),(1,vS p1),(2,vS p2),(8,v2),(9,vS x),(10,vI a2)]) (fun x=>AC 5 1 v2 FS l2::H) ?_ (fun a3 D h=>?_)
 refine Y ?_
 refine AE h fun q1 hq1 h=>?_
 refine J E (AA E (S6 hq1) (AA E BS (V ?_)))
 refine AP h E (fun hc3 h=>?_) fun hc3 h=>?_
 refine Y ?_
 refine AE h fun q2 hq2 h=>?_
 refine AE h fun y1 hy1 h=>?_
 refine J E (J E (AA E (Vf hq2) (BM E E (QJ JQ CP) (J E (AM 0 pN (Xj hy1) E (J E (Af E E E ?_)))))))
 refine Af E E E (U E (U E (V (AS (J E (U E (Aa ?_)))))))
 exact Az y1.1 h tL (BX [0] 1 E E E)
 refine AJ ?_
 exact Az a1 h tL (BX [0] 1 E E E)
 unfold HL at h
 try dsimp only
 refine AE h fun c1 hc1 h=>?_
 refine AE h fun q3 hq3 h=>?_
 refine AE h fun c2 hc2 h=>?_
 refine AE h fun l3 hl3 h=>?_
 refine A2 DE [] (CK [(true,0),(true,1),(true,2),(true,3),(true,4),(true,5),(true,6),(true,7),(true,8),(false,9)] (.last 10 (C3 [(false,11)]))) zK (J E (J E (J E (Ki hc1 E Ce E E (J E (J E (AA E (S6 hq3) ?_)))))))
 refine Ki hc2 E Ce E E (AA E S7 ?_)
 refine CE [_] E Ca Ji Kh ⟨E,zT⟩ E E E zX E E zU fun b1=>?_
 refine CJ FS 1 ([c1 ^^^ c2]:List UInt8) E zV E ?_
 refine Bk ?_
 refine Cr 1 hl3 (sz:=1) (enc:=FS) zV E Ca Ji Vl Kh E zD E E E E (CM (sz:=1) (enc:=FS) 0 zV E) (by simp[FS,Value.oneCell']) zU fun v3=>?_
 refine U E (Aa (Ay (AI (AS ?_))))
 obtain⟨i_1,ei_1,h⟩:=By h
 refine J E (AA E Bu ?_)
 refine Aq (u:=vI i_1) E E (by rw[ei_1]) ?_
 refine Aa ?_
 exact A1 (m1,l3,v3,a3,i_1) h (Nat.lt_succ_self _) tL (BX [1] 2 E E E)
 refine A4 (A9 (Bi (BA ?_)))
 exact Az (l2,v2) h tL (BX [0] 1 E E E)
 obtain⟨l1,v1⟩:=x
 dsimp only at h
 unfold Lw at h
 try dsimp only
 refine Y (J E (Ge 0 E Ca DG Ce E E (U E (U E (V (AL ?_))))))
 obtain rfl:=zI h
 exact AW [] 1 E E E
end

section
variable {K:Nat→Prop}{w0:World}{H:List AZ}
def CH(p0:UInt32)(p1:Int):Option UInt32:=
 (Qg p1).bind fun n1=>
 (Qg (wI (32-p1))).bind fun n2=>
 ret ((shr32 p0 n1) ||| (shl32 p0 n2)) fun x1=>
 some x1
theorem EC{p0 r:UInt32}{p1:Int}(h:CH p0 p1=some r): zC K w0 311 [Z p0,vI p1] [] H (fun u M=>u=Z r∧M=[]):=by
 unfold CH at h
 refine T6.enter Tryz.func311 rfl rfl ?_
 refine Y (U E (V (AH ?_)))
 refine AE h fun n1 hn1 h=>?_
 refine AE h fun n2 hn2 h=>?_
 obtain⟨x1,ex1,h⟩:=By h
 refine A2 DE [] (C3 [(true,0),(true,1),(true,2),(true,3),(true,4),(true,5),(true,6),(true,7),(true,8)]) zK (J E (J E (AA E (WP hn1) (J E (J E (AA E Dn (AA E (Rt hn2) ?_)))))))
 refine AA E Es ?_
 refine Aq (u:=Z x1) E E (by rw[ex1]) ?_
 refine V (AL ?_)
 obtain rfl:=zI h
 exact AW [] 0 E E E
def Ms:Option (List UInt32):=
 some [1779033703,3144134277,1013904242,2773480762,1359893119,2600822924,528734635,1541459225]
theorem Xl{r:List UInt32}(h:Ms=some r): zC K w0 288 [] [] H (fun u M=>∃v0:Value,u=v0∧M=[AC 33 1 v0 BW r]):=by
 unfold Ms at h
 refine T6.enter Tryz.func288 rfl rfl ?_
 refine Y (B5 33 1 BW (U E (V (Y ?_))))
 refine CE [_,_,_,_,_,_,_,_] E CR Bq H4 ⟨E,E,E,E,E,E,E,E,zT⟩ E E E zX E E zU fun b1=>?_
 refine CJ BW 1 ([1779033703,3144134277,1013904242,2773480762,1359893119,2600822924,528734635,1541459225]:List UInt32) E zV E ?_
 refine U E (V (AL ?_))
 obtain rfl:=zI h
 exact Bp [0] 2 (Cn E E) E E ⟨(.slice (some ⟨b1,0,none⟩) 8 8),E,E⟩
def K5(l9:List UInt32):Option (List UInt32):=
 some l9
def Gr(p0:List UInt32)(nx_f_ref02_part_l3:List UInt32×Int→Option (List UInt32))(l10:List UInt32)(a3:Int):Option (List UInt32):=
 cond (decide (a3<8))
 (
  (BN l10 a3).bind fun x27=>
  (BN p0 a3).bind fun x28=>
  (BN l10 a3).bind fun x29=>
  (OA l10 a3 (x27+x28)).bind fun l11=>
  ret (wI (a3+1)) fun x30=>
  nx_f_ref02_part_l3 (l11,x30))
 (
  K5 l10)
def K7(p0:List UInt32):Nat→(List UInt32×Int)→Option (List UInt32):=CO fun nx x=>Gr p0 nx x.1 x.2
def Ga(n:Nat)(p0:List UInt32)(l7:List UInt32):Option (List UInt32):=
 K7 p0 n (l7,0)
def Gq(n:Nat)(T:List UInt32)(p0:List UInt32)(l1:List UInt32)(nx_f_ref02_part_l2:List UInt32×Int→Option (List UInt32))(l8:List UInt32)(a2:Int):Option (List UInt32):=
 cond (decide (a2<64))
 (
  (BN l8 0).bind fun x6=>
  (BN l8 4).bind fun x7=>
  (BN l8 7).bind fun x8=>
  (CH x7 6).bind fun y5=>
  (CH x7 11).bind fun y6=>
  (CH x7 25).bind fun y7=>
  (BN l8 5).bind fun x9=>
  (BN l8 6).bind fun x10=>
  (BN T a2).bind fun x11=>
  (BN l1 a2).bind fun x12=>
  ret ((((x8+((y5 ^^^ y6) ^^^ y7))+((x7 &&& x9) ^^^ ((4294967295 ^^^ x7) &&& x10)))+x11)+x12) fun x13=>
  (CH x6 2).bind fun y8=>
  (CH x6 13).bind fun y9=>
  (CH x6 22).bind fun y10=>
  (BN l8 1).bind fun x14=>
  (BN l8 2).bind fun x15=>
  (BN l8 1).bind fun x16=>
  (BN l8 2).bind fun x17=>
  ret (((y8 ^^^ y9) ^^^ y10)+(((x6 &&& x14) ^^^ (x6 &&& x15)) ^^^ (x16 &&& x17))) fun x18=>
  (BN l8 0).bind fun x19=>
  (BN l8 1).bind fun x20=>
  (BN l8 2).bind fun x21=>
  (BN l8 3).bind fun x22=>
  (BN l8 4).bind fun x23=>
  (BN l8 5).bind fun x24=>
  (BN l8 6).bind fun x25=>
  ret (wI (a2+1)) fun x26=>
  nx_f_ref02_part_l2 ([x13+x18,x19,x20,x21,x22+x13,x23,x24,x25],x26))
 (
  Ga n p0 l8)
def K6(n:Nat)(T:List UInt32)(p0:List UInt32)(l1:List UInt32):Nat→(List UInt32×Int)→Option (List UInt32):=CO fun nx x=>Gq n T p0 l1 nx x.1 x.2
def GY(n:Nat)(T:List UInt32)(p0:List UInt32)(l1:List UInt32):Option (List UInt32):=
 (DO 4 [] p0).bind fun l6=>
 K6 n T p0 l1 n (l6,0)
def GZ(a1:Int)(nx_f_ref02_part_l1:List UInt32×Int→Option (List UInt32))(l3:List UInt32):Option (List UInt32):=
 ret (wI (a1+1)) fun x5=>
 nx_f_ref02_part_l1 (l3,x5)
def Gp(n:Nat)(T:List UInt32)(p0:List UInt32)(p1:List UInt8)(nx_f_ref02_part_l1:List UInt32×Int→Option (List UInt32))(l2:List UInt32)(a1:Int):Option (List UInt32):=
 cond (decide (a1<64))
 (
  cond (decide (a1<16))
  (
   (BN p1 (wI (4*a1))).bind fun c1=>
   (BN p1 (wI ((wI (4*a1))+1))).bind fun c2=>
   (BN p1 (wI ((wI (4*a1))+2))).bind fun c3=>
   (BN p1 (wI ((wI (4*a1))+3))).bind fun c4=>
   (DO 4 l2 [(((shl32 c1.toUInt32 24) ||| (shl32 c2.toUInt32 16)) ||| (shl32 c3.toUInt32 8)) ||| c4.toUInt32]).bind fun l4=>
   GZ a1 nx_f_ref02_part_l1 l4)
  (
   (BN l2 (wI (a1-15))).bind fun x1=>
   (BN l2 (wI (a1-2))).bind fun x2=>
   (BN l2 (wI (a1-16))).bind fun x3=>
   (CH x1 7).bind fun y1=>
   (CH x1 18).bind fun y2=>
   (BN l2 (wI (a1-7))).bind fun x4=>
   (CH x2 17).bind fun y3=>
   (CH x2 19).bind fun y4=>
   (DO 4 l2 [((x3+((y1 ^^^ y2) ^^^ (shr32 x1 3)))+x4)+((y3 ^^^ y4) ^^^ (shr32 x2 10))]).bind fun l5=>
   GZ a1 nx_f_ref02_part_l1 l5))
 (
  GY n T p0 l2)
def IL(n:Nat)(T:List UInt32)(p0:List UInt32)(p1:List UInt8):Nat→(List UInt32×Int)→Option (List UInt32):=CO fun nx x=>Gp n T p0 p1 nx x.1 x.2
def Lb(n:Nat)(T:List UInt32)(p0:List UInt32)(p1:List UInt8):Option (List UInt32):=
 IL n T p0 p1 n ([],0)
theorem Yz{n:Nat}{T p0 r:List UInt32}{DJ:Value}{p1:List UInt8}(h:Lb n T p0 p1=some r)(hT:I9 K w0 2 64 T)(hs0_:CG K w0 BW 1 DJ p0):zC K w0 289 [DJ,vS p1] [] H (fun u M=>∃v0:Value,u=v0∧M=[AC 33 1 v0 BW r]):=by
 unfold Lb at h
 refine T6.enter Tryz.func289 rfl rfl ?_
 refine Y (B5 33 1 BW (U E (V (Y (B5 33 1 BW (U E (V ?_)))))))
 refine BB (α:=List UInt32×Value) (fun x=>GY n T p0 x.1=some r) (fun x=>[(0,DJ),(5,x.2)]) (fun x=>AC 33 1 x.2 BW x.1::H) ?_ (fun x D h=>?_)
 refine Y (U E (V (AQ ?_)))
 refine SX.heap (SX.mono (BU (α:=Nat×List UInt32×Value×Int) (fun x=>IL n T p0 p1 x.1 (x.2.1,x.2.2.2)=some r) (fun x=>[(0,DJ),(1,vS p1),(5,x.2.2.1),(6,vI x.2.2.2)]) (fun x=>AC 33 1 x.2.2.1 BW x.2.1::H) (fun x=>x.1) (fun x D h=>?_) (n,[],zN,0) h) tL) (BX [0] 2 E E E)
 obtain⟨m1,l2,v2,a1⟩:=x
 dsimp only at h
 rcases m1 with _ | m1
 cases (show(none:Option _)=some r from h)
 replace h:Gp n T p0 p1 (IL n T p0 p1 m1) l2 a1=some r:=h
 unfold Gp at h
 try dsimp only
 refine AH (Y (J E (AA E BD (V ?_))))
 refine AP h E (fun hc1 h=>?_) fun hc1 h=>?_
 refine AJ (AI ?_)
 refine BB (α:=List UInt32×Value) (fun x=>GZ a1 (IL n T p0 p1 m1) x.1=some r) (fun x=>[(0,DJ),(1,vS p1),(5,x.2),(6,vI a1)]) (fun x=>AC 33 1 x.2 BW x.1::H) ?_ (fun x D h=>?_)
 refine AQ (AH (Y (J E (AA E BD (V ?_)))))
 refine AP h E (fun hc2 h=>?_) fun hc2 h=>?_
 refine AH ?_
 refine AE h fun c1 hc1 h=>?_
 refine AE h fun c2 hc2 h=>?_
 refine AE h fun c3 hc3 h=>?_
 refine AE h fun c4 hc4 h=>?_
 refine AE h fun l4 hl4 h=>?_
 refine A2 DE [] (CK [(true,0),(true,1),(true,2),(true,3),(true,4),(true,5),(true,6),(true,7),(true,8),(true,9),(true,10),(true,11),(true,12),(true,13),(true,14),(true,15),(true,16),(true,17),(true,18),(true,19),(true,20),(true,21),(true,22),(true,23),(true,24),(true,25),(true,26),(true,27),(true,28),(true,29),(false,30)] (.last 31 (C3 [(false,32)]))) zK (J E (J E (J E (AA E MR (Ki hc1 E Ce E E (BM E E (FE DG CP) ?_))))))
 refine AA E (FQ.shl32 (n:=24)) ?_
 refine J E (J E (AA E MR (AA E Bu (Ki hc2 E Ce E E (BM E E (FE DG CP) ?_)))))
 refine AA E (FQ.shl32 (n:=16)) ?_
 refine AA E Es (J E (J E (AA E MR (AA E Bu (Ki hc3 E Ce E E (BM E E (FE DG CP) ?_))))))
 refine AA E (FQ.shl32 (n:=8)) ?_
 refine AA E Es (J E (J E (AA E MR (AA E Bu (Ki hc4 E Ce E E (BM E E (FE DG CP) (AA E Es ?_)))))))
 refine CE [_] E CR Bq H4 ⟨E,zT⟩ E E E zX E E zU fun b1=>?_
 refine CJ BW 1 ([(((shl32 c1.toUInt32 24) ||| (shl32 c2.toUInt32 16)) ||| (shl32 c3.toUInt32 8)) ||| c4.toUInt32]:List UInt32) E zV E ?_
 refine Bk ?_
 refine Cr 1 hl4 (sz:=1) (enc:=BW) zV E CR Bq QP H4 E zD E E E E (CM (sz:=1) (enc:=BW) 0 zV E) (by simp[BW,Value.oneCell']) zU fun v4=>?_
 refine U E (V (A4 (A9 (BA ?_))))
 exact Az (l4,v4) h tL (BX [1] 2 E E E)
 refine AJ (AI (Y ?_))
 refine AE h fun x1 hx1 h=>?_
 refine J E (J E (AA E Dn ?_))
 refine CL 0 hx1 E CR Bq E E E fun g1 m2 cp1 hv1=>?_
 refine B0 E A6 E (CD (sz:=1) (enc:=BW) 0 0 zV E hv1 hx1 E) ?_
 refine U E (V (Y ?_))
 refine AE h fun x2 hx2 h=>?_
 refine J E (J E (AA E Dn ?_))
 refine CL 0 hx2 E CR Bq E E E fun g2 m3 cp2 hv2=>?_
 refine B0 E A6 E (CD (sz:=1) (enc:=BW) 0 0 zV E hv2 hx2 E) ?_
 refine U E (V ?_)
 refine AE h fun x3 hx3 h=>?_
 refine AE h fun y1 hy1 h=>?_
 refine AE h fun y2 hy2 h=>?_
 refine AE h fun x4 hx4 h=>?_
 refine AE h fun y3 hy3 h=>?_
 refine AE h fun y4 hy4 h=>?_
 refine AE h fun l5 hl5 h=>?_
 refine A2 DE [0] (CK [(true,0),(true,1),(true,2),(true,3),(true,4),(true,5),(true,6),(true,8),(true,11),(true,12),(true,15),(true,16),(true,17),(true,18),(true,19),(true,21),(true,23),(true,26),(true,27),(false,7),(false,9),(true,10),(true,13),(true,14),(true,20),(false,22),(false,24),(true,25),(true,28),(true,29),(false,30)] (.last 31 (C3 [(false,32)]))) zK (J E (J E (J E (AA E Dn ?_))))
 refine CL 0 hx3 E CR Bq E E E fun g3 m4 cp3 hv3=>?_
 refine B0 E A6 E (CD (sz:=1) (enc:=BW) 0 0 zV E hv3 hx3 E) ?_
 refine J E (J E (J E ?_))
 refine AA E (FQ.shr32 (n:=3)) ?_
 refine J E (J E (AA E Dn ?_))
 refine CL 0 hx4 E CR Bq E E E fun g4 m5 cp4 hv4=>?_
 refine B0 E A6 E (CD (sz:=1) (enc:=BW) 0 0 zV E hv4 hx4 E) ?_
 refine J E (J E (J E ?_))
 refine AA E (FQ.shr32 (n:=10)) ?_
 refine Bf 0 Nu (EC hy1) E ⟨⟨0,E⟩,zT⟩ (Bf 0 Nu (EC hy2) E ⟨⟨0,E⟩,zT⟩ (AA E Cf (AA E Cf (AA E B4 (AA E B4 (Bf 0 Nu (EC hy3) E ⟨⟨0,E⟩,zT⟩ (Bf 0 Nu (EC hy4) E ⟨⟨0,E⟩,zT⟩ ?_)))))))
 refine AA E Cf (AA E Cf (AA E B4 ?_))
 refine CE [_] E CR Bq H4 ⟨E,zT⟩ E E E zX E E (fun _=>⟨⟨1,E⟩,zT⟩) fun b2=>?_
 refine CJ BW 1 ([((x3+((y1 ^^^ y2) ^^^ (shr32 x1 3)))+x4)+((y3 ^^^ y4) ^^^ (shr32 x2 10))]:List UInt32) E zV E ?_
 refine Bk ?_
 refine Cr 1 hl5 (sz:=1) (enc:=BW) zV E CR Bq QP H4 E zD E E E E (CM (sz:=1) (enc:=BW) 0 zV E) (by simp[BW,Value.oneCell']) zU fun v5=>?_
 refine U E (Aa (Ay ?_))
 exact Az (l5,v5) h tL (BX [1] 2 E E E)
 obtain⟨l3,v3⟩:=x
 dsimp only at h
 unfold GZ at h
 try dsimp only
 refine AS ?_
 obtain⟨x5,ex5,h⟩:=By h
 refine J E (AA E Bu ?_)
 refine Aq (u:=vI x5) E E (by rw[ex5]) ?_
 refine Aa ?_
 exact A1 (m1,l3,v3,x5) h (Nat.lt_succ_self _) tL (BX [0] 1 E E E)
 refine A4 (A9 (Bi (BA ?_)))
 exact Az (l2,v2) h tL (BX [0] 1 E E E)
 obtain⟨l1,v1⟩:=x
 dsimp only at h
 unfold GY at h
 try dsimp only
 refine Y ?_
 refine AE h fun l6 hl6 h=>?_
 refine gV (n:=8) BW E CR Bq QP H4 E E E E E zU fun v6=>?_
 refine J E ?_
 refine Rv 0 hl6 hs0_ (sz:=1) (enc:=BW) zV E CR Bq QP H4 E zD E E E (by simp[BW,Value.oneCell']) zU fun v7=>?_
 refine U E (V ?_)
 refine BB (α:=List UInt32×Value) (fun x=>Ga n p0 x.1=some r) (fun x=>[(0,DJ),(9,x.2)]) (fun x=>AC 33 1 x.2 BW x.1::H) ?_ (fun x D h=>?_)
 refine Y (U E (V (AQ ?_)))
 refine SX.heap (SX.mono (BU (α:=Nat×List UInt32×Value×Int) (fun x=>K6 n T p0 l1 x.1 (x.2.1,x.2.2.2)=some r) (fun x=>[(0,DJ),(5,v1),(9,x.2.2.1),(10,vI x.2.2.2)]) (fun x=>AC 33 1 v1 BW l1::AC 33 1 x.2.2.1 BW x.2.1::H) (fun x=>x.1) (fun x D h=>?_) (n,l6,v7,0) h) tL) (BX [1,0] 2 E E E)
 obtain⟨m6,l8,v9,a2⟩:=x
 dsimp only at h
 rcases m6 with _ | m6
 cases (show(none:Option _)=some r from h)
 replace h:Gq n T p0 l1 (K6 n T p0 l1 m6) l8 a2=some r:=h
 unfold Gq at h
 try dsimp only
 refine AH (Y (J E (AA E BD (V ?_))))
 refine AP h E (fun hc3 h=>?_) fun hc3 h=>?_
 refine AJ (AI (AH (AQ (Y ?_))))
 refine AE h fun x6 hx6 h=>?_
 refine J E ?_
 refine CL 1 hx6 E CR Bq E E E fun g5 m7 cp5 hv5=>?_
 refine B0 E A6 E (CD (sz:=1) (enc:=BW) 1 0 zV E hv5 hx6 E) ?_
 refine U E (V (Y ?_))
 refine AE h fun x7 hx7 h=>?_
 refine J E ?_
 refine CL 1 hx7 E CR Bq E E E fun g6 m8 cp6 hv6=>?_
 refine B0 E A6 E (CD (sz:=1) (enc:=BW) 1 0 zV E hv6 hx7 E) ?_
 refine U E (V (AH ?_))
 refine AE h fun x8 hx8 h=>?_
 refine AE h fun y5 hy5 h=>?_
 refine AE h fun y6 hy6 h=>?_
 refine AE h fun y7 hy7 h=>?_
 refine AE h fun x9 hx9 h=>?_
 refine AE h fun x10 hx10 h=>?_
 refine AE h fun x11 hx11 h=>?_
 refine AE h fun x12 hx12 h=>?_
 obtain⟨x13,ex13,h⟩:=By h
 refine A2 DE [0,1] (CK [(true,0),(true,1),(true,2),(true,3),(true,5),(true,8),(true,12),(true,13),(true,14),(true,15),(true,16),(true,17),(true,18),(true,19),(true,20),(true,21),(true,22),(true,23),(true,25),(true,26),(true,27),(true,29),(true,30),(true,31),(true,32),(false,4),(false,6),(true,7),(false,9),(false,10),(false,11),(false,24),(false,28)] (.last 33 (C3 [(false,34)]))) zK (J E ?_)
 refine CL 1 hx8 E CR Bq E E E fun g7 m9 cp7 hv7=>?_
 refine B0 E A6 E (CD (sz:=1) (enc:=BW) 1 0 zV E hv7 hx8 E) ?_
 refine J E (J E (J E (J E (J E ?_))))
 refine CL 1 hx9 E CR Bq E E E fun g8 m10 cp8 hv8=>?_
 refine B0 E A6 E (CD (sz:=1) (enc:=BW) 1 0 zV E hv8 hx9 E) ?_
 refine AA E Gd (J E (ZI E E (J E ?_)))
 refine CL 1 hx10 E CR Bq E E E fun g9 m11 cp9 hv9=>?_
 refine B0 E A6 E (CD (sz:=1) (enc:=BW) 1 0 zV E hv9 hx10 E) ?_
 refine AA E Gd (AA E Cf (J E ?_))
 refine Mf (xs:=T) hx11 E RT Bq E E hT.len ?_
 refine B0 E A6 E (pw hT hx11) (J E (J E ?_))
 refine CL 0 hx12 E CR Bq E E E fun g10 m12 cp10 hv10=>?_
 refine B0 E A6 E (CD (sz:=1) (enc:=BW) 0 0 zV E hv10 hx12 E) ?_
 refine Bf 0 Nu (EC hy5) E ⟨⟨0,E⟩,⟨1,E⟩,zT⟩ (Bf 0 Nu (EC hy6) E ⟨⟨0,E⟩,⟨1,E⟩,zT⟩ (AA E Cf (Bf 0 Nu (EC hy7) E ⟨⟨0,E⟩,⟨1,E⟩,zT⟩ (AA E Cf (AA E B4 (AA E B4 (AA E B4 (Bk ?_))))))))
 refine AA E B4 ?_
 refine Aq (u:=Z x13) E E (by rw[ex13]) ?_
 refine V (AH ?_)
 refine AE h fun y8 hy8 h=>?_
 refine AE h fun y9 hy9 h=>?_
 refine AE h fun y10 hy10 h=>?_
 refine AE h fun x14 hx14 h=>?_
 refine AE h fun x15 hx15 h=>?_
 refine AE h fun x16 hx16 h=>?_
 refine AE h fun x17 hx17 h=>?_
 obtain⟨x18,ex18,h⟩:=By h
 refine A2 DE [1] (CK [(true,0),(true,2),(true,5),(true,8),(true,9),(true,10),(true,11),(true,12),(true,13),(true,14),(true,15),(true,16),(true,17),(true,18),(true,19),(true,20),(true,21),(true,22),(true,23),(true,24),(true,25),(true,26),(false,1),(false,3),(true,4),(false,6),(false,7)] (.last 27 (C3 [(false,28)]))) zK (J E (J E (J E (J E (J E ?_)))))
 refine CL 1 hx14 E CR Bq E E E fun g11 m13 cp11 hv11=>?_
 refine B0 E A6 E (CD (sz:=1) (enc:=BW) 0 0 zV E hv11 hx14 E) ?_
 refine AA E Gd (J E (J E ?_))
 refine CL 1 hx15 E CR Bq E E E fun g12 m14 cp12 hv12=>?_
 refine B0 E A6 E (CD (sz:=1) (enc:=BW) 0 0 zV E hv12 hx15 E) ?_
 refine AA E Gd (AA E Cf (J E ?_))
 refine CL 1 hx16 E CR Bq E E E fun g13 m15 cp13 hv13=>?_
 refine B0 E A6 E (CD (sz:=1) (enc:=BW) 0 0 zV E hv13 hx16 E) ?_
 refine J E ?_
 refine CL 1 hx17 E CR Bq E E E fun g14 m16 cp14 hv14=>?_
 refine B0 E A6 E (CD (sz:=1) (enc:=BW) 0 0 zV E hv14 hx17 E) ?_
 refine AA E Gd (AA E Cf (Bf 0 Nu (EC hy8) E ⟨⟨1,E⟩,zT⟩ (Bf 0 Nu (EC hy9) E ⟨⟨1,E⟩,zT⟩ (AA E Cf (Bf 0 Nu (EC hy10) E ⟨⟨1,E⟩,zT⟩ (AA E Cf (Bk (AA E B4 ?_))))))))
 refine Aq (u:=Z x18) E E (by rw[ex18]) ?_
 refine V ?_
 refine AE h fun x19 hx19 h=>?_
 refine AE h fun x20 hx20 h=>?_
 refine AE h fun x21 hx21 h=>?_
 refine AE h fun x22 hx22 h=>?_
 refine AE h fun x23 hx23 h=>?_
 refine AE h fun x24 hx24 h=>?_
 refine AE h fun x25 hx25 h=>?_
 refine A2 DE [1] (CK [(true,0),(true,1),(true,2),(true,3),(true,4),(true,5),(true,6),(true,7),(true,8),(true,9),(true,10),(true,11),(true,12),(true,13),(true,14),(true,15),(true,16),(true,17),(true,18),(true,19),(true,20),(true,21),(true,22),(true,23),(true,24),(true,25)] (.last 26 (C3 [(false,27)]))) zK (J E (J E (AA E B4 (J E ?_))))
 refine CL 1 hx19 E CR Bq E E E fun g15 m17 cp15 hv15=>?_
 refine B0 E A6 E (CD (sz:=1) (enc:=BW) 0 0 zV E hv15 hx19 E) ?_
 refine J E ?_
 refine CL 1 hx20 E CR Bq E E E fun g16 m18 cp16 hv16=>?_
 refine B0 E A6 E (CD (sz:=1) (enc:=BW) 0 0 zV E hv16 hx20 E) ?_
 refine J E ?_
 refine CL 1 hx21 E CR Bq E E E fun g17 m19 cp17 hv17=>?_
 refine B0 E A6 E (CD (sz:=1) (enc:=BW) 0 0 zV E hv17 hx21 E) ?_
 refine J E ?_
 refine CL 1 hx22 E CR Bq E E E fun g18 m20 cp18 hv18=>?_
 refine B0 E A6 E (CD (sz:=1) (enc:=BW) 0 0 zV E hv18 hx22 E) ?_
 refine J E (AA E B4 (J E ?_))
 refine CL 1 hx23 E CR Bq E E E fun g19 m21 cp19 hv19=>?_
 refine B0 E A6 E (CD (sz:=1) (enc:=BW) 0 0 zV E hv19 hx23 E) ?_
 refine J E ?_
 refine CL 1 hx24 E CR Bq E E E fun g20 m22 cp20 hv20=>?_
 refine B0 E A6 E (CD (sz:=1) (enc:=BW) 0 0 zV E hv20 hx24 E) ?_
 refine J E ?_
 refine CL 1 hx25 E CR Bq E E E fun g21 m23 cp21 hv21=>?_
 refine B0 E A6 E (CD (sz:=1) (enc:=BW) 0 0 zV E hv21 hx25 E) ?_
 refine Bk ?_
 refine CE [_,_,_,_,_,_,_,_] E CR Bq H4 ⟨E,E,E,E,E,E,E,E,zT⟩ E E E zX E E zU fun b3=>?_
 refine CJ BW 1 ([x13+x18,x19,x20,x21,x22+x13,x23,x24,x25]:List UInt32) E zV E ?_
 refine U E (Aa (Ay (AI (AS ?_))))
 obtain⟨x26,ex26,h⟩:=By h
 refine J E (AA E Bu ?_)
 refine Aq (u:=vI x26) E E (by rw[ex26]) ?_
 refine Aa ?_
 exact A1 (m6,[x13+x18,x19,x20,x21,x22+x13,x23,x24,x25],.slice (some ⟨b3,0,none⟩) 8 8,x26) h (Nat.lt_succ_self _) tL (BX [1,0] 3 E E E)
 refine A4 (A9 (Bi (BA ?_)))
 exact Az (l8,v9) h tL (BX [1] 2 E E E)
 obtain⟨l7,v8⟩:=x
 dsimp only at h
 unfold Ga at h
 try dsimp only
 refine BB (α:=List UInt32×Value) (fun x=>K5 x.1=some r) (fun x=>[(9,x.2)]) (fun x=>AC 33 1 x.2 BW x.1::H) ?_ (fun x D h=>?_)
 refine Y (U E (V (AQ ?_)))
 refine SX.heap (SX.mono (BU (α:=Nat×List UInt32×Value×Int) (fun x=>K7 p0 x.1 (x.2.1,x.2.2.2)=some r) (fun x=>[(0,DJ),(9,x.2.2.1),(15,vI x.2.2.2)]) (fun x=>AC 33 1 x.2.2.1 BW x.2.1::H) (fun x=>x.1) (fun x D h=>?_) (n,l7,v8,0) h) tL) (BX [0] 1 E E E)
 obtain⟨m24,l10,v11,a3⟩:=x
 dsimp only at h
 rcases m24 with _ | m24
 cases (show(none:Option _)=some r from h)
 replace h:Gr p0 (K7 p0 m24) l10 a3=some r:=h
 unfold Gr at h
 try dsimp only
 refine AH (Y (J E (AA E BD (V ?_))))
 refine AP h E (fun hc4 h=>?_) fun hc4 h=>?_
 refine AJ (AI (AH (AQ ?_)))
 refine AE h fun x27 hx27 h=>?_
 refine AE h fun x28 hx28 h=>?_
 refine AE h fun x29 hx29 h=>?_
 refine AE h fun l11 hl11 h=>?_
 refine A2 DE [0] (CK [(true,0),(true,1),(true,2),(true,3),(true,4),(true,5),(true,6),(true,7),(true,8),(true,9),(true,10),(true,11)] (.last 12 .nil)) zK (J E (J E (J E (J E ?_))))
 refine CL 0 hx27 E CR Bq E E E fun g22 m25 cp22 hv22=>?_
 refine B0 E A6 E (CD (sz:=1) (enc:=BW) 0 0 zV E hv22 hx27 E) ?_
 refine J E (J E ?_)
 refine DF hx28 hs0_ E CR Bq E E fun be1 of1 hc5=>?_
 refine B0 E A6 E (Dd (j:=0) hc5 E) ?_
 refine AA E B4 ?_
 refine CL 0 hx29 E CR Bq E E E fun g23 m26 cp23 hv23=>?_
 refine Bk ?_
 refine GC (sz:=1) (enc:=BW) 0 hl11 zV E E E E E hv23 Bq (by simp[Value.oneCell']) zT ?_
 refine Aa (Ay (AI (AS ?_)))
 obtain⟨x30,ex30,h⟩:=By h
 refine J E (AA E Bu ?_)
 refine Aq (u:=vI x30) E E (by rw[ex30]) ?_
 refine Aa ?_
 exact A1 (m24,l11,v11,x30) h (Nat.lt_succ_self _) tL (BX [0] 1 E E E)
 refine A4 (A9 (Bi (BA ?_)))
 exact Az (l10,v11) h tL (BX [0] 1 E E E)
 obtain⟨l9,v10⟩:=x
 dsimp only at h
 unfold K5 at h
 try dsimp only
 refine Y (J E (U E (V (AL ?_))))
 obtain rfl:=zI h
 exact Bp [0] 1 (Cn E E) E E ⟨v10,E,E⟩
def It(p0:List UInt8)(a1:List UInt8):Option (List UInt8):=
 ret ((Cq (p0.length:Int))*8) fun x1=>
 (EG a1 [(shr64 x1 56).toUInt8,(shr64 x1 48).toUInt8,(shr64 x1 40).toUInt8,(shr64 x1 32).toUInt8,(shr64 x1 24).toUInt8,(shr64 x1 16).toUInt8,(shr64 x1 8).toUInt8,x1.toUInt8]).bind fun s3=>
 some s3
def Fo(p0:List UInt8)(nx_f_ref02_Filled_l1:List UInt8→Option (List UInt8))(a2:List UInt8):Option (List UInt8):=
 (T3 (a2.length:Int) 64).bind fun q1=>
 cond (!decide (q1=56))
 (
  (EG a2 [0]).bind fun s2=>
  nx_f_ref02_Filled_l1 s2)
 (
  It p0 a2)
def Iu(p0:List UInt8):Nat→List UInt8→Option (List UInt8):=CO fun nx x=>Fo p0 nx x
def JC(n:Nat)(p0:List UInt8):Option (List UInt8):=
 (EG p0 [128]).bind fun s1=>
 Iu p0 n s1
theorem Ws{n:Nat}{p0 r:List UInt8}(h:JC n p0=some r): zC K w0 287 [vS p0] [] H (fun u M=>u=vS r∧M=[]):=by
 unfold JC at h
 refine T6.enter Tryz.func287 rfl rfl ?_
 refine Y (U E (V (Y ?_)))
 refine AE h fun s1 hs1 h=>?_
 refine J E (AA E (CN hs1) (U E (V ?_)))
 refine BB (α:=List UInt8) (fun x=>It p0 x=some r) (fun x=>[(0,vS p0),(3,vS x)]) (fun x=>H) ?_ (fun a1 D h=>?_)
 refine AQ ?_
 refine SX.heap (SX.mono (BU (α:=Nat×List UInt8) (fun x=>Iu p0 x.1 x.2=some r) (fun x=>[(0,vS p0),(3,vS x.2)]) (fun x=>H) (fun x=>x.1) (fun x D h=>?_) (n,s1) h) tL) (BX [] 0 E E E)
 obtain⟨m1,a2⟩:=x
 dsimp only at h
 rcases m1 with _ | m1
 cases (show(none:Option _)=some r from h)
 replace h:Fo p0 (Iu p0 m1) a2=some r:=h
 unfold Fo at h
 try dsimp only
 refine AH (Y ?_)
 refine AE h fun q1 hq1 h=>?_
 refine J E (Bz E Ce E (AA E (S6 hq1) (AA E BG (V ?_))))
 refine AP h E (fun hc1 h=>?_) fun hc1 h=>?_
 refine AJ (AI (AQ (AS ?_)))
 refine AE h fun s2 hs2 h=>?_
 refine J E (AA E (CN hs2) (U E (Aa (Ay ?_))))
 exact A1 (m1,s2) h (Nat.lt_succ_self _) tL (BX [] 0 E E E)
 refine A4 (A9 (Bi (BA ?_)))
 exact Az a2 h tL (BX [] 0 E E E)
 unfold It at h
 try dsimp only
 refine Y ?_
 obtain⟨x1,ex1,h⟩:=By h
 refine J E (Bz E Ce E (BM E E (Et JQ DL) ?_))
 refine AA E (MB (b:=8)) ?_
 refine Aq (u:=AV x1) E E (by rw[ex1]) ?_
 refine V (Y ?_)
 refine AE h fun s3 hs3 h=>?_
 refine J E (J E ?_)
 refine AA E (FQ.shr64 (n:=56)) ?_
 refine BM E E (FD DL DG) (J E ?_)
 refine AA E (FQ.shr64 (n:=48)) ?_
 refine BM E E (FD DL DG) (J E ?_)
 refine AA E (FQ.shr64 (n:=40)) ?_
 refine BM E E (FD DL DG) (J E ?_)
 refine AA E (FQ.shr64 (n:=32)) ?_
 refine BM E E (FD DL DG) (J E ?_)
 refine AA E (FQ.shr64 (n:=24)) ?_
 refine BM E E (FD DL DG) (J E ?_)
 refine AA E (FQ.shr64 (n:=16)) ?_
 refine BM E E (FD DL DG) (J E ?_)
 refine AA E (FQ.shr64 (n:=8)) ?_
 refine BM E E (FD DL DG) (J E (BM E E (FD DL DG) ?_))
 refine CE [_,_,_,_,_,_,_,_] E Ca Ji Kh ⟨E,E,E,E,E,E,E,E,zT⟩ E E E zX E E zU fun b1=>?_
 refine CJ FS 1 ([(shr64 x1 56).toUInt8,(shr64 x1 48).toUInt8,(shr64 x1 40).toUInt8,(shr64 x1 32).toUInt8,(shr64 x1 24).toUInt8,(shr64 x1 16).toUInt8,(shr64 x1 8).toUInt8,x1.toUInt8]:List UInt8) E zV E ?_
 refine Ge 0 E Ca DG Ce E E (AA E (CN hs3) (U E (V (AL ?_))))
 obtain rfl:=zI h
 exact AW [] 1 E E E
def Lx(l3:List UInt8):Option (List UInt8):=
 some l3
def He(l1:List UInt32)(nx_f_ref02_Sum_l2:List UInt8×Int→Option (List UInt8))(l4:List UInt8)(a2:Int):Option (List UInt8):=
 cond (decide (a2<8))
 (
  (BN l1 a2).bind fun x1=>
  (BN l1 a2).bind fun x2=>
  (BN l1 a2).bind fun x3=>
  (BN l1 a2).bind fun x4=>
  (DO 1 l4 [(shr32 x1 24).toUInt8,(shr32 x2 16).toUInt8,(shr32 x3 8).toUInt8,x4.toUInt8]).bind fun l5=>
  ret (wI (a2+1)) fun i_2=>
  nx_f_ref02_Sum_l2 (l5,i_2))
 (
  Lx l4)
def Lz(l1:List UInt32):Nat→(List UInt8×Int)→Option (List UInt8):=CO fun nx x=>He l1 nx x.1 x.2
def JD(n:Nat)(l1:List UInt32):Option (List UInt8):=
 Lz l1 n ([],0)
def Hd(n:Nat)(T:List UInt32)(y1:List UInt8)(nx_f_ref02_Sum_l1:List UInt32×Int→Option (List UInt8))(l2:List UInt32)(a1:Int):Option (List UInt8):=
 cond (decide (a1<(y1.length:Int)))
 (
  (LF y1 a1 (wI (a1+64))).bind fun s1=>
  (Lb n T l2 s1).bind fun y3=>
  ret (wI (a1+64)) fun i_1=>
  nx_f_ref02_Sum_l1 (y3,i_1))
 (
  JD n l2)
def Ly(n:Nat)(T:List UInt32)(y1:List UInt8):Nat→(List UInt32×Int)→Option (List UInt8):=CO fun nx x=>Hd n T y1 nx x.1 x.2
def Iv(n:Nat)(T:List UInt32)(p0:List UInt8):Option (List UInt8):=
 (JC n p0).bind fun y1=>
 (Ms).bind fun y2=>
 Ly n T y1 n (y2,0)
theorem Qv{n:Nat}{T:List UInt32}{p0 r:List UInt8}(h:Iv n T p0=some r)(hT:I9 K w0 2 64 T):zC K w0 260 [vS p0] [] H (fun u M=>u=vS r∧M=[]):=by
 unfold Iv at h
 refine T6.enter Tryz.func260 rfl rfl ?_
 refine Y (U E (V (Y ?_)))
 refine AE h fun y1 hy1 h=>?_
 refine J E (AM 0 pO (Ws hy1) E (U E (V (Y ?_))))
 refine AE h fun y2 hy2 h=>?_
 refine Bo (vs:=[]) (Hin:=[]) (Hr:=_) E E zT pP E E (Xl hy2) ?_
 rintro v1 _ ⟨_,rfl,rfl⟩
 refine⟨trivial,?_⟩
 refine U E (V ?_)
 refine BB (α:=List UInt32×Value) (fun x=>JD n x.1=some r) (fun x=>[(4,x.2)]) (fun x=>AC 33 1 x.2 BW x.1::H) ?_ (fun x D h=>?_)
 refine Y (U E (V (AQ ?_)))
 refine SX.heap (SX.mono (BU (α:=Nat×List UInt32×Value×Int) (fun x=>Ly n T y1 x.1 (x.2.1,x.2.2.2)=some r) (fun x=>[(3,vS y1),(4,x.2.2.1),(5,vI x.2.2.2)]) (fun x=>AC 33 1 x.2.2.1 BW x.2.1::H) (fun x=>x.1) (fun x D h=>?_) (n,y2,v1,0) h) tL) (BX [0] 1 E E E)
 obtain⟨m1,l2,v3,a1⟩:=x
 dsimp only at h
 rcases m1 with _ | m1
 cases (show(none:Option _)=some r from h)
 replace h:Hd n T y1 (Ly n T y1 m1) l2 a1=some r:=h
 unfold Hd at h
 try dsimp only
 refine AH (Y (J E (J E (Bz E Ce E (AA E BD (V ?_))))))
 refine AP h E (fun hc1 h=>?_) fun hc1 h=>?_
 refine AJ (AI (AH (AQ (AS ?_))))
 refine AE h fun s1 hs1 h=>?_
 refine AE h fun y3 hy3 h=>?_
 refine J E (J E (J E (J E (AA E Bu (nU hs1 E Ce E E E ?_)))))
 refine Bo (vs:=[_,_]) (Hin:=[_]) (Hr:=_) E E ⟨E,E,zT⟩ pQ E E (Cl (B:=[_]) (Hin:=[]) fun K' w1 hk hB=>Yz hy3 (hT.keeps hk) (CY (e:=33) zV (hB _ zS))) ?_
 rintro v4 _ ⟨_,rfl,_,rfl,rfl⟩
 refine⟨trivial,?_⟩
 refine U E (Aa (Ay (AI (AS ?_))))
 obtain⟨i_1,ei_1,h⟩:=By h
 refine J E (AA E Bu ?_)
 refine Aq (u:=vI i_1) E E (by rw[ei_1]) ?_
 refine Aa ?_
 exact A1 (m1,y3,v4,i_1) h (Nat.lt_succ_self _) tL (BX [1] 2 E E E)
 refine A4 (A9 (Bi (BA ?_)))
 exact Az (l2,v3) h tL (BX [0] 1 E E E)
 obtain⟨l1,v2⟩:=x
 dsimp only at h
 unfold JD at h
 try dsimp only
 refine Y (B5 5 1 FS (U E (V ?_)))
 refine BB (α:=List UInt8×Value) (fun x=>Lx x.1=some r) (fun x=>[(6,x.2)]) (fun x=>AC 5 1 x.2 FS x.1::H) ?_ (fun x D h=>?_)
 refine Y (U E (V (AQ ?_)))
 refine SX.heap (SX.mono (BU (α:=Nat×List UInt8×Value×Int) (fun x=>Lz l1 x.1 (x.2.1,x.2.2.2)=some r) (fun x=>[(4,v2),(6,x.2.2.1),(7,vI x.2.2.2)]) (fun x=>AC 33 1 v2 BW l1::AC 5 1 x.2.2.1 FS x.2.1::H) (fun x=>x.1) (fun x D h=>?_) (n,[],zN,0) h) tL) (BX [1,0] 2 E E E)
 obtain⟨m2,l4,v6,a2⟩:=x
 dsimp only at h
 rcases m2 with _ | m2
 cases (show(none:Option _)=some r from h)
 replace h:He l1 (Lz l1 m2) l4 a2=some r:=h
 unfold He at h
 try dsimp only
 refine AH (Y (J E (AA E BD (V ?_))))
 refine AP h E (fun hc2 h=>?_) fun hc2 h=>?_
 refine AJ (AI (AH (AQ ?_)))
 refine AE h fun x1 hx1 h=>?_
 refine AE h fun x2 hx2 h=>?_
 refine AE h fun x3 hx3 h=>?_
 refine AE h fun x4 hx4 h=>?_
 refine AE h fun l5 hl5 h=>?_
 refine A2 DE [0] (CK [(true,0),(true,1),(true,2),(true,3),(true,4),(true,5),(true,6),(true,7),(true,8),(true,9),(true,10),(true,11),(true,12),(true,13),(true,14),(true,15),(true,16),(true,17),(true,18),(true,19),(true,20),(true,21),(true,22),(true,23),(false,24)] (.last 25 (C3 [(false,26)]))) zK (J E (J E (J E ?_)))
 refine CL 0 hx1 E CR Bq E E E fun g1 m3 cp1 hv1=>?_
 refine B0 E A6 E (CD (sz:=1) (enc:=BW) 0 0 zV E hv1 hx1 E) ?_
 refine AA E (FQ.shr32 (n:=24)) ?_
 refine BM E E (Cx CP DG) (J E (J E ?_))
 refine CL 0 hx2 E CR Bq E E E fun g2 m4 cp2 hv2=>?_
 refine B0 E A6 E (CD (sz:=1) (enc:=BW) 0 0 zV E hv2 hx2 E) ?_
 refine AA E (FQ.shr32 (n:=16)) ?_
 refine BM E E (Cx CP DG) (J E (J E ?_))
 refine CL 0 hx3 E CR Bq E E E fun g3 m5 cp3 hv3=>?_
 refine B0 E A6 E (CD (sz:=1) (enc:=BW) 0 0 zV E hv3 hx3 E) ?_
 refine AA E (FQ.shr32 (n:=8)) ?_
 refine BM E E (Cx CP DG) (J E (J E ?_))
 refine CL 0 hx4 E CR Bq E E E fun g4 m6 cp4 hv4=>?_
 refine B0 E A6 E (CD (sz:=1) (enc:=BW) 0 0 zV E hv4 hx4 E) ?_
 refine BM E E (Cx CP DG) ?_
 refine CE [_,_,_,_] E Ca Ji Kh ⟨E,E,E,E,zT⟩ E E E zX E E (fun _=>⟨⟨1,E⟩,zT⟩) fun b1=>?_
 refine CJ FS 1 ([(shr32 x1 24).toUInt8,(shr32 x2 16).toUInt8,(shr32 x3 8).toUInt8,x4.toUInt8]:List UInt8) E zV E ?_
 refine Bk ?_
 refine Cr 2 hl5 (sz:=1) (enc:=FS) zV E Ca Ji Vl Kh E zD E E E E (CM (sz:=1) (enc:=FS) 0 zV E) (by simp[FS,Value.oneCell']) zU fun v7=>?_
 refine U E (Aa (Ay (AI (AS ?_))))
 obtain⟨i_2,ei_2,h⟩:=By h
 refine J E (AA E Bu ?_)
 refine Aq (u:=vI i_2) E E (by rw[ei_2]) ?_
 refine Aa ?_
 exact A1 (m2,l5,v7,i_2) h (Nat.lt_succ_self _) tL (BX [1,2] 3 E E E)
 refine A4 (A9 (Bi (BA ?_)))
 exact Az (l4,v6) h tL (BX [1] 2 E E E)
 obtain⟨l3,v5⟩:=x
 dsimp only at h
 unfold Lx at h
 try dsimp only
 refine Y (J E (Ge 0 E Ca DG Ce E E (U E (V (AL ?_)))))
 obtain rfl:=zI h
 exact AW [] 1 E E E
def Gc(p1:UInt8)(l2:List UInt8)(a2:Int)(nx_f_ref03_part_l1:List UInt8×Int→Option (List UInt8))(a3:UInt8):Option (List UInt8):=
 (DO 1 l2 [a3 ^^^ p1]).bind fun l3=>
 ret (wI (a2+1)) fun i_1=>
 nx_f_ref03_part_l1 (l3,i_1)
def K8(l1:List UInt8):Option (List UInt8):=
 some l1
def Gs(p1:UInt8)(a1:List UInt8)(nx_f_ref03_part_l1:List UInt8×Int→Option (List UInt8))(l2:List UInt8)(a2:Int):Option (List UInt8):=
 cond (decide (a2<64))
 (
  cond (decide (a2<(a1.length:Int)))
  (
   (BN a1 a2).bind fun c1=>
   Gc p1 l2 a2 nx_f_ref03_part_l1 c1)
  (
   Gc p1 l2 a2 nx_f_ref03_part_l1 0))
 (
  K8 l2)
def IM(p1:UInt8)(a1:List UInt8):Nat→(List UInt8×Int)→Option (List UInt8):=CO fun nx x=>Gs p1 a1 nx x.1 x.2
def Gb(n:Nat)(p1:UInt8)(a1:List UInt8):Option (List UInt8):=
 IM p1 a1 n ([],0)
def JX(n:Nat)(T:List UInt32)(p0:List UInt8)(p1:UInt8):Option (List UInt8):=
 cond (decide (64<(p0.length:Int)))
 (
  (Iv n T p0).bind fun y1=>
  Gb n p1 y1)
 (
  Gb n p1 p0)
theorem Ti{n:Nat}{T:List UInt32}{p0 r:List UInt8}{p1:UInt8}(h:JX n T p0 p1=some r)(hT:I9 K w0 2 64 T):zC K w0 290 [vS p0,EE p1] [] H (fun u M=>u=vS r∧M=[]):=by
 unfold JX at h
 refine T6.enter Tryz.func290 rfl rfl ?_
 refine Y (U E (V ?_))
 refine BB (α:=List UInt8) (fun x=>Gb n p1 x=some r) (fun x=>[(0,vS x),(1,EE p1)]) (fun x=>H) ?_ (fun a1 D h=>?_)
 refine Y (J E (Bz E Ce E (AA E Cm (V ?_))))
 refine AP h E (fun hc1 h=>?_) fun hc1 h=>?_
 refine AS ?_
 refine AE h fun y1 hy1 h=>?_
 refine J E (AM 0 ai (Qv hy1 hT) E (U E (Aa ?_)))
 exact Az y1 h tL (BX [] 0 E E E)
 refine AJ ?_
 exact Az p0 h tL (BX [] 0 E E E)
 unfold Gb at h
 try dsimp only
 refine Y (B5 5 1 FS (U E (V ?_)))
 refine BB (α:=List UInt8×Value) (fun x=>K8 x.1=some r) (fun x=>[(5,x.2)]) (fun x=>AC 5 1 x.2 FS x.1::H) ?_ (fun x D h=>?_)
 refine Y (U E (V (AQ ?_)))
 refine SX.heap (SX.mono (BU (α:=Nat×List UInt8×Value×Int) (fun x=>IM p1 a1 x.1 (x.2.1,x.2.2.2)=some r) (fun x=>[(0,vS a1),(1,EE p1),(5,x.2.2.1),(6,vI x.2.2.2)]) (fun x=>AC 5 1 x.2.2.1 FS x.2.1::H) (fun x=>x.1) (fun x D h=>?_) (n,[],zN,0) h) tL) (BX [0] 1 E E E)
 obtain⟨m1,l2,v2,a2⟩:=x
 dsimp only at h
 rcases m1 with _ | m1
 cases (show(none:Option _)=some r from h)
 replace h:Gs p1 a1 (IM p1 a1 m1) l2 a2=some r:=h
 unfold Gs at h
 try dsimp only
 refine AH (Y (J E (AA E BD (V ?_))))
 refine AP h E (fun hc2 h=>?_) fun hc2 h=>?_
 refine AJ (AI (AH (AQ (Y (U E (V ?_))))))
 refine BB (α:=UInt8) (fun x=>Gc p1 l2 a2 (IM p1 a1 m1) x=some r) (fun x=>[(0,vS a1),(1,EE p1),(5,v2),(6,vI a2),(7,EE x)]) (fun x=>AC 5 1 v2 FS l2::H) ?_ (fun a3 D h=>?_)
 refine Y (J E (J E (Bz E Ce E (AA E BD (V ?_)))))
 refine AP h E (fun hc3 h=>?_) fun hc3 h=>?_
 refine AS ?_
 refine AE h fun c1 hc1 h=>?_
 refine J E (J E (Ki hc1 E Ce E E (U E (Aa ?_))))
 exact Az c1 h tL (BX [0] 1 E E E)
 refine AJ ?_
 exact Az 0 h tL (BX [0] 1 E E E)
 unfold Gc at h
 try dsimp only
 refine AS ?_
 refine AE h fun l3 hl3 h=>?_
 refine J E (J E (J E (AA E S7 ?_)))
 refine CE [_] E Ca Ji Kh ⟨E,zT⟩ E E E zX E E zU fun b1=>?_
 refine CJ FS 1 ([a3 ^^^ p1]:List UInt8) E zV E ?_
 refine Cr 1 hl3 (sz:=1) (enc:=FS) zV E Ca Ji Vl Kh E zD E E E E (CM (sz:=1) (enc:=FS) 0 zV E) (by simp[FS,Value.oneCell']) zU fun v3=>?_
 refine U E (Aa (Ay (AI (AS ?_))))
 obtain⟨i_1,ei_1,h⟩:=By h
 refine J E (AA E Bu ?_)
 refine Aq (u:=vI i_1) E E (by rw[ei_1]) ?_
 refine Aa ?_
 exact A1 (m1,l3,v3,i_1) h (Nat.lt_succ_self _) tL (BX [1] 2 E E E)
 refine A4 (A9 (Bi (BA ?_)))
 exact Az (l2,v2) h tL (BX [0] 1 E E E)
 obtain⟨l1,v1⟩:=x
 dsimp only at h
 unfold K8 at h
 try dsimp only
 refine Y (J E (Ge 0 E Ca DG Ce E E (U E (V (AL ?_)))))
 obtain rfl:=zI h
 exact AW [] 1 E E E
def Mt(n:Nat)(T:List UInt32)(p0:List UInt8)(p1:List UInt8):Option (List (List UInt8)):=
 (JX n T p0 54).bind fun y1=>
 (EG y1 p1).bind fun s1=>
 (JX n T p0 92).bind fun y2=>
 (Iv n T s1).bind fun y3=>
 (EG y2 y3).bind fun s2=>
 some [s1,s2]
theorem Xm{n:Nat}{T:List UInt32}{p0 p1:List UInt8}{r:List (List UInt8)}(h:Mt n T p0 p1=some r)(hT:I9 K w0 2 64 T):zC K w0 261 [vS p0,vS p1] [] H (fun u M=>∃v0:Value,u=v0∧M=[AC 9 1 v0 eS r]):=by
 unfold Mt at h
 refine T6.enter Tryz.func261 rfl rfl ?_
 refine Y (B5 9 1 eS (U E (V (Y ?_))))
 refine AE h fun y1 hy1 h=>?_
 refine AE h fun s1 hs1 h=>?_
 refine J E (AM 0 iA (Ti hy1 hT) E (J E (AA E (CN hs1) (U E (V (Y ?_))))))
 refine AE h fun y2 hy2 h=>?_
 refine AE h fun y3 hy3 h=>?_
 refine AE h fun s2 hs2 h=>?_
 refine J E (J E (AM 0 iA (Ti hy2 hT) E (J E (AM 0 ai (Qv hy3 hT) E (AA E (CN hs2) ?_)))))
 refine CE [_,_] E Eb HC TZ ⟨E,E,zT⟩ E E E zX E E zU fun b1=>?_
 refine CJ eS 1 ([s1,s2]:List (List UInt8)) E zV E ?_
 refine U E (V (AL ?_))
 obtain rfl:=zI h
 exact Bp [0] 2 (Cn E E) E E ⟨(.slice (some ⟨b1,0,none⟩) 2 2),E,E⟩
def Iy(n:Nat)(T:List UInt32)(p0:List UInt8)(p1:List UInt8):Option (List UInt8):=
 (Mt n T p0 p1).bind fun y1=>
 (BN y1 1).bind fun x1=>
 (Iv n T x1).bind fun y2=>
 some y2
theorem Uv{n:Nat}{T:List UInt32}{p0 p1 r:List UInt8}(h:Iy n T p0 p1=some r)(hT:I9 K w0 2 64 T):zC K w0 221 [vS p0,vS p1] [] H (fun u M=>u=vS r∧M=[]):=by
 unfold Iy at h
 refine T6.enter Tryz.func221 rfl rfl ?_
 refine Y (U E (V (Y ?_)))
 refine AE h fun y1 hy1 h=>?_
 refine AE h fun x1 hx1 h=>?_
 refine AE h fun y2 hy2 h=>?_
 refine J E (J E ?_)
 refine Bo (vs:=[_,_]) (Hin:=[]) (Hr:=_) E E ⟨E,E,zT⟩ pG E E (Xm hy1 hT) ?_
 rintro v1 _ ⟨_,rfl,rfl⟩
 refine⟨trivial,?_⟩
 refine CL 0 hx1 E Eb HC E E E fun g1 m1 cp1 hv1=>?_
 refine B0 E GP E (CD (sz:=1) (enc:=eS) 0 0 zV E hv1 hx1 E) ?_
 refine AM 0 ai (Qv hy2 hT) E (U E (V (AL ?_)))
 obtain rfl:=zI h
 exact AW [] 1 E E E
def Iw(p2:Int)(a1:List UInt8):Option (List UInt8×Int):=
 (LF a1 0 p2).bind fun s4=>
 some (s4,0)
def Fp(n:Nat)(T:List UInt32)(p0:List UInt8)(p1:List UInt8)(p2:Int)(nx_f_ref03_Expand_l1:List UInt8×List UInt8×Int→Option (List UInt8×Int))(a2:List UInt8)(a3:List UInt8)(a4:Int):Option (List UInt8×Int):=
 cond (decide ((a2.length:Int)<p2))
 (
  (EG a3 p1).bind fun s1=>
  (EG s1 [If a4]).bind fun s2=>
  (Iy n T p0 s2).bind fun y1=>
  (EG a2 y1).bind fun s3=>
  ret (wI (a4+1)) fun i_1=>
  nx_f_ref03_Expand_l1 (s3,y1,i_1))
 (
  Iw p2 a2)
def Ix(n:Nat)(T:List UInt32)(p0:List UInt8)(p1:List UInt8)(p2:Int):Nat→(List UInt8×List UInt8×Int)→Option (List UInt8×Int):=CO fun nx x=>Fp n T p0 p1 p2 nx x.1 x.2.1 x.2.2
def HM(n:Nat)(T:List UInt32)(p0:List UInt8)(p1:List UInt8)(p2:Int):Option (List UInt8×Int):=
 cond ((decide (p2<0))||(decide (8160<p2)))
 (
  some ([],2))
 (
  Ix n T p0 p1 p2 n ([],[],1))
theorem RZ{n:Nat}{T:List UInt32}{p0 p1:List UInt8}{p2:Int}{r:List UInt8×Int}(h:HM n T p0 p1 p2=some r)(hT:I9 K w0 2 64 T):zC K w0 259 [vS p0,vS p1,vI p2] [] H (fun u M=>u=.tuple #[vS r.1,vI r.2]∧M=[]):=by
 unfold HM at h
 refine T6.enter Tryz.func259 rfl rfl ?_
 refine Y (U E (U E (V (AH (Y (J E (AA E BD (J E ?_))))))))
 refine E2 (c:=decide (8160<p2)) 13 3 16 E (fun hb k=>?_) (fun hb k=>?_) ?_
 refine AB E (AB E (Ag E E E ?_))
 exact k.mono tL
 refine J E (AA E Cm (Ag E E E ?_))
 exact k.mono tL
 refine V ?_
 refine AP h E (fun hc1 h=>?_) fun hc1 h=>?_
 refine Y (U E (U E (V (AL (Ac ?_)))))
 obtain rfl:=zI h
 exact AW [] 0 E E E
 refine AJ (AI (Y (U E (V (Y (U E (V ?_)))))))
 refine BB (α:=List UInt8) (fun x=>Iw p2 x=some r) (fun x=>[(2,vI p2),(8,vS x)]) (fun x=>H) ?_ (fun a1 D h=>?_)
 refine Y (U E (V (AQ ?_)))
 refine SX.heap (SX.mono (BU (α:=Nat×List UInt8×List UInt8×Int) (fun x=>Ix n T p0 p1 p2 x.1 (x.2.1,x.2.2.1,x.2.2.2)=some r) (fun x=>[(0,vS p0),(1,vS p1),(2,vI p2),(8,vS x.2.1),(9,vS x.2.2.1),(10,vI x.2.2.2)]) (fun x=>H) (fun x=>x.1) (fun x D h=>?_) (n,[],[],1) h) tL) (BX [] 0 E E E)
 obtain⟨m1,a2,a3,a4⟩:=x
 dsimp only at h
 rcases m1 with _ | m1
 cases (show(none:Option _)=some r from h)
 replace h:Fp n T p0 p1 p2 (Ix n T p0 p1 p2 m1) a2 a3 a4=some r:=h
 unfold Fp at h
 try dsimp only
 refine AH (Y (J E (Bz E Ce E (J E (AA E BD (V ?_))))))
 refine AP h E (fun hc2 h=>?_) fun hc2 h=>?_
 refine AJ (AI (AH (AQ (Y ?_))))
 refine AE h fun s1 hs1 h=>?_
 refine AE h fun s2 hs2 h=>?_
 refine AE h fun y1 hy1 h=>?_
 refine J E (J E (J E (AA E (CN hs1) (J E (BM E E (Qh JQ DG) ?_)))))
 refine CE [_] E Ca Ji Kh ⟨E,zT⟩ E E E zX E E zU fun b1=>?_
 refine CJ FS 1 ([If a4]:List UInt8) E zV E ?_
 refine Ge 0 E Ca DG Ce E E (AA E (CN hs2) (AM 0 hC (Uv hy1 hT) E (U E (V (AS ?_)))))
 refine AE h fun s3 hs3 h=>?_
 refine J E (J E (AA E (CN hs3) (U E (Aa (Ay (AI (AS ?_)))))))
 obtain⟨i_1,ei_1,h⟩:=By h
 refine J E (AA E Bu ?_)
 refine Aq (u:=vI i_1) E E (by rw[ei_1]) ?_
 refine Aa ?_
 exact A1 (m1,s3,y1,i_1) h (Nat.lt_succ_self _) tL (BX [] 1 E E E)
 refine A4 (A9 (Bi (BA ?_)))
 exact Az a2 h tL (BX [] 0 E E E)
 unfold Iw at h
 try dsimp only
 refine Y ?_
 refine AE h fun s4 hs4 h=>?_
 refine J E (J E (kP hs4 E Ce E E (U E (U E (V (AL ?_))))))
 obtain rfl:=zI h
 exact AW [] 0 E E E
end

section
variable {K:Nat→Prop}{w0:World}{H:List AZ}
def JZ(n:Nat)(T:List UInt32)(p0:BV):Option (List UInt8×List UInt8×Int):=
 (Gu n [p0]).bind fun y1=>
 cond (!y1)
 (
  some ([],[],40))
 (
  (EG [115,101,97,108] [p0.gen.toUInt8,(shr32 p0.gen 8).toUInt8,(shr32 p0.gen 16).toUInt8,(shr32 p0.gen 24).toUInt8]).bind fun s1=>
  (HM n T p0.secret s1 32).bind fun y2=>
  (EG [98,105,110,100] [p0.gen.toUInt8,(shr32 p0.gen 8).toUInt8,(shr32 p0.gen 16).toUInt8,(shr32 p0.gen 24).toUInt8]).bind fun s2=>
  (HM n T p0.secret s2 32).bind fun y3=>
  some (y2.1,y3.1,0))
theorem Tk{n:Nat}{T:List UInt32}{p0:BV}{r:List UInt8×List UInt8×Int}(h:JZ n T p0=some r)(hT:I9 K w0 2 64 T):zC K w0 220 [.agg (AY p0).toArray] [] H (fun u M=>u=.tuple #[vS r.1,vS r.2.1,vI r.2.2]∧M=[]):=by
 unfold JZ at h
 refine T6.enter Tryz.func220 rfl rfl ?_
 refine Y ?_
 refine Ba E E zU fun b1=>?_
 refine U E (U E (U E (V (Y ?_))))
 refine AE h fun y1 hy1 h=>?_
 refine Aw [Z p0.gen,vS p0.secret] E LJ E E (An 0 E) ?_
 refine CE [_] E GV E4 Jk ⟨E,zT⟩ E E E zX E E zU fun b2=>?_
 refine CJ AY 2 ([p0]:List BV) E zV E ?_
 refine Bo (vs:=[_]) (Hin:=[_]) (Hr:=_::_) E E ⟨E,zT⟩ fB E E (Cl (B:=[_]) (Hin:=[]) fun K' w1 hk hB=>O1 hy1 (CY (e:=114) zV (hB _ zS))) ?_
 rintro _ _ ⟨_,rfl,rfl,rfl⟩
 refine⟨trivial,?_⟩
 refine U E (V (AH (Y (J E (CW E E (V ?_))))))
 refine AP h E (fun hc1 h=>?_) fun hc1 h=>?_
 refine Y (U E (U E (U E (V (AL (Ac ?_))))))
 obtain rfl:=zI h
 exact AW [] 2 E E E
 refine AJ (AI (Y (AF E FV (AG 1 A6 E (BM E E (Cx CP DG) (AF E FV (AG 1 A6 E ?_)))))))
 refine AA E (FQ.shr32 (n:=8)) ?_
 refine BM E E (Cx CP DG) (AF E FV (AG 1 A6 E ?_))
 refine AA E (FQ.shr32 (n:=16)) ?_
 refine BM E E (Cx CP DG) (AF E FV (AG 1 A6 E ?_))
 refine AA E (FQ.shr32 (n:=24)) ?_
 refine BM E E (Cx CP DG) ?_
 refine CE [_,_,_,_] E Ca Ji Kh ⟨E,E,E,E,zT⟩ E E E zX E E zU fun b3=>?_
 refine CJ FS 1 ([p0.gen.toUInt8,(shr32 p0.gen 8).toUInt8,(shr32 p0.gen 16).toUInt8,(shr32 p0.gen 24).toUInt8]:List UInt8) E zV E ?_
 refine Ge 0 E Ca DG Ce E E (U E (V (Y ?_)))
 refine AE h fun s1 hs1 h=>?_
 refine AE h fun y2 hy2 h=>?_
 refine AF E QY (AG 2 GP E (J E (AA E (CN hs1) (AM 0 hU (RZ hy2 hT) E (J E (Af E E E (Af E E E ?_)))))))
 refine U E (U E (V (Y ?_)))
 refine AE h fun s2 hs2 h=>?_
 refine AE h fun y3 hy3 h=>?_
 refine AF E QY (AG 2 GP E (J E (AA E (CN hs2) (AM 0 hU (RZ hy3 hT) E (J E (Af E E E (Af E E E ?_)))))))
 refine U E (U E (V (Y (J E (J E (U E (U E (U E (V (AL ?_))))))))))
 obtain rfl:=zI h
 exact AW [] 3 E E E
def L0(a1:List UInt8):Option (List UInt8×Int):=
 some (a1,0)
def Hf(nx_f_ref05_Pad_l1:List UInt8→Option (List UInt8×Int))(a2:List UInt8):Option (List UInt8×Int):=
 cond (decide ((a2.length:Int)<200))
 (
  (EG a2 [0]).bind fun s2=>
  nx_f_ref05_Pad_l1 s2)
 (
  L0 a2)
def L3:Nat→List UInt8→Option (List UInt8×Int):=CO fun nx x=>Hf  nx x
def Mu(n:Nat)(p0:List UInt8):Option (List UInt8×Int):=
 cond (decide (198<(p0.length:Int)))
 (
  some ([],50))
 (
  (VV (p0.length:Int) 256).bind fun q1=>
  (T3 (p0.length:Int) 256).bind fun q2=>
  (EG [If q1,If q2] p0).bind fun s1=>
  L3 n s1)
theorem aJ{n:Nat}{p0:List UInt8}{r:List UInt8×Int}(h:Mu n p0=some r): zC K w0 218 [vS p0] [] H (fun u M=>u=.tuple #[vS r.1,vI r.2]∧M=[]):=by
 unfold Mu at h
 refine T6.enter Tryz.func218 rfl rfl ?_
 refine Y (U E (U E (V (AH (Y (J E (Bz E Ce E (AA E Cm (V ?_)))))))))
 refine AP h E (fun hc1 h=>?_) fun hc1 h=>?_
 refine Y (U E (U E (V (AL (Ac ?_)))))
 obtain rfl:=zI h
 exact AW [] 0 E E E
 refine AJ (AI (Y ?_))
 refine AE h fun q1 hq1 h=>?_
 refine AE h fun q2 hq2 h=>?_
 refine AE h fun s1 hs1 h=>?_
 refine J E (Bz E Ce E (AA E (Vf hq1) (BM E E (Qh JQ DG) (J E (Bz E Ce E (AA E (S6 hq2) (BM E E (Qh JQ DG) ?_)))))))
 refine CE [_,_] E Ca Ji Kh ⟨E,E,zT⟩ E E E zX E E zU fun b1=>?_
 refine CJ FS 1 ([If q1,If q2]:List UInt8) E zV E ?_
 refine Ge 0 E Ca DG Ce E E (J E (AA E (CN hs1) (U E (V ?_))))
 refine BB (α:=List UInt8) (fun x=>L0 x=some r) (fun x=>[(4,vS x)]) (fun x=>H) ?_ (fun a1 D h=>?_)
 refine AQ ?_
 refine SX.heap (SX.mono (BU (α:=Nat×List UInt8) (fun x=>L3 x.1 x.2=some r) (fun x=>[(4,vS x.2)]) (fun x=>H) (fun x=>x.1) (fun x D h=>?_) (n,s1) h) tL) (BX [] 1 E E E)
 obtain⟨m1,a2⟩:=x
 dsimp only at h
 rcases m1 with _ | m1
 cases (show(none:Option _)=some r from h)
 replace h:Hf (L3 m1) a2=some r:=h
 unfold Hf at h
 try dsimp only
 refine AH (Y (J E (Bz E Ce E (AA E BD (V ?_)))))
 refine AP h E (fun hc2 h=>?_) fun hc2 h=>?_
 refine AJ (AI (AQ (AS ?_)))
 refine AE h fun s2 hs2 h=>?_
 refine J E (AA E (CN hs2) (U E (Aa (Ay ?_))))
 exact A1 (m1,s2) h (Nat.lt_succ_self _) tL (BX [] 0 E E E)
 refine A4 (A9 (Bi (BA ?_)))
 exact Az a2 h tL (BX [] 0 E E E)
 unfold L0 at h
 try dsimp only
 refine Y (J E (U E (U E (V (AL ?_)))))
 obtain rfl:=zI h
 exact AW [] 0 E E E
def L4(a1:List UInt8):Option (List UInt8):=
 some a1
def Hg(p1:Int)(nx_f_ref06_put_l1:UInt64×List UInt8×Int→Option (List UInt8))(a2:UInt64)(a3:List UInt8)(a4:Int):Option (List UInt8):=
 cond (decide (a4<p1))
 (
  (EG a3 [a2.toUInt8]).bind fun s1=>
  (RL a2 256).bind fun q1=>
  ret (wI (a4+1)) fun i_1=>
  nx_f_ref06_put_l1 (q1,s1,i_1))
 (
  L4 a3)
def L5(p1:Int):Nat→(UInt64×List UInt8×Int)→Option (List UInt8):=CO fun nx x=>Hg p1 nx x.1 x.2.1 x.2.2
def Dw(n:Nat)(p0:UInt64)(p1:Int):Option (List UInt8):=
 L5 p1 n (p0,[],0)
theorem Kp{n:Nat}{p0:UInt64}{p1:Int}{r:List UInt8}(h:Dw n p0 p1=some r): zC K w0 286 [AV p0,vI p1] [] H (fun u M=>u=vS r∧M=[]):=by
 unfold Dw at h
 refine T6.enter Tryz.func286 rfl rfl ?_
 refine Y (U E (V (Y (U E (V ?_)))))
 refine BB (α:=List UInt8) (fun x=>L4 x=some r) (fun x=>[(5,vS x)]) (fun x=>H) ?_ (fun a1 D h=>?_)
 refine Y (U E (V (AQ ?_)))
 refine SX.heap (SX.mono (BU (α:=Nat×UInt64×List UInt8×Int) (fun x=>L5 p1 x.1 (x.2.1,x.2.2.1,x.2.2.2)=some r) (fun x=>[(0,AV x.2.1),(1,vI p1),(5,vS x.2.2.1),(6,vI x.2.2.2)]) (fun x=>H) (fun x=>x.1) (fun x D h=>?_) (n,p0,[],0) h) tL) (BX [] 0 E E E)
 obtain⟨m1,a2,a3,a4⟩:=x
 dsimp only at h
 rcases m1 with _ | m1
 cases (show(none:Option _)=some r from h)
 replace h:Hg p1 (L5 p1 m1) a2 a3 a4=some r:=h
 unfold Hg at h
 try dsimp only
 refine AH (Y (J E (J E (AA E BD (V ?_)))))
 refine AP h E (fun hc1 h=>?_) fun hc1 h=>?_
 refine AJ (AI (AH (AQ (Y ?_))))
 refine AE h fun s1 hs1 h=>?_
 refine J E (J E (BM E E (FD DL DG) ?_))
 refine CE [_] E Ca Ji Kh ⟨E,zT⟩ E E E zX E E zU fun b1=>?_
 refine CJ FS 1 ([a2.toUInt8]:List UInt8) E zV E ?_
 refine Ge 0 E Ca DG Ce E E (AA E (CN hs1) (U E (V (AS ?_))))
 refine AE h fun q1 hq1 h=>?_
 refine J E ?_
 refine AA E (Pa (b:=256) hq1) ?_
 refine U E (Aa (Ay (AI (AS ?_))))
 obtain⟨i_1,ei_1,h⟩:=By h
 refine J E (AA E Bu ?_)
 refine Aq (u:=vI i_1) E E (by rw[ei_1]) ?_
 refine Aa ?_
 exact A1 (m1,q1,s1,i_1) h (Nat.lt_succ_self _) tL (BX [] 1 E E E)
 refine A4 (A9 (Bi (BA ?_)))
 exact Az a3 h tL (BX [] 0 E E E)
 unfold L4 at h
 try dsimp only
 refine Y (J E (U E (V (AL ?_))))
 obtain rfl:=zI h
 exact AW [] 0 E E E
def Mv(n:Nat)(p0:C5):Option (List UInt8):=
 (Dw n p0.page.toUInt64 4).bind fun y1=>
 (Dw n p0.gen.toUInt64 4).bind fun y2=>
 (EG y1 y2).bind fun s1=>
 (Dw n p0.boot.toUInt64 4).bind fun y3=>
 (EG s1 y3).bind fun s2=>
 (Dw n p0.seq 8).bind fun y4=>
 (EG s2 y4).bind fun s3=>
 (EG s3 [0,0,0,0]).bind fun s4=>
 some s4
theorem aK{n:Nat}{p0:C5}{r:List UInt8}(h:Mv n p0=some r): zC K w0 258 [.agg (J7 p0).toArray] [] H (fun u M=>u=vS r∧M=[]):=by
 unfold Mv at h
 refine T6.enter Tryz.func258 rfl rfl ?_
 refine Y ?_
 refine Ba E E zU fun b1=>?_
 refine U E (V (AH ?_))
 refine AE h fun y1 hy1 h=>?_
 refine AE h fun y2 hy2 h=>?_
 refine AE h fun s1 hs1 h=>?_
 refine AE h fun y3 hy3 h=>?_
 refine AE h fun s2 hs2 h=>?_
 refine AE h fun y4 hy4 h=>?_
 refine AE h fun s3 hs3 h=>?_
 refine AE h fun s4 hs4 h=>?_
 refine A2 DE [0] (CK [(true,0),(true,1),(true,2),(true,4),(true,5),(true,6),(true,9),(true,10),(true,11),(true,14),(true,15),(false,3),(false,7),(true,8),(false,12),(true,13),(false,16)] (.last 17 (C3 [(false,18),(false,19)]))) zK (AF E dV (AG 0 A6 E (BM E E (Co CP DL) (AF E VL (AG 0 A6 E (BM E E (Co CP DL) (AF E YF ?_)))))))
 refine AG 0 A6 E (BM E E (Co CP DL) (AF E YG (AG 0 FX E (Bf 0 TH (Kp hy1) E ⟨⟨0,E⟩,zT⟩ (Bf 0 TH (Kp hy2) E ⟨⟨0,E⟩,zT⟩ (AA E (CN hs1) (Bf 0 TH (Kp hy3) E ⟨⟨0,E⟩,zT⟩ ?_)))))))
 refine AA E (CN hs2) (Bf 0 TH (Kp hy4) E ⟨⟨0,E⟩,zT⟩ (Bk (AA E (CN hs3) (AA E (CN hs4) (U E (V (AL ?_)))))))
 obtain rfl:=zI h
 exact AW [] 1 E E E
def KL(n:Nat)(p0:C5):Option (List UInt8):=
 (Dw n p0.boot.toUInt64 4).bind fun y1=>
 (Dw n p0.seq 8).bind fun y2=>
 (EG y1 y2).bind fun s1=>
 some s1
theorem Xo{n:Nat}{p0:C5}{r:List UInt8}(h:KL n p0=some r): zC K w0 257 [.agg (J7 p0).toArray] [] H (fun u M=>u=vS r∧M=[]):=by
 unfold KL at h
 refine T6.enter Tryz.func257 rfl rfl ?_
 refine Y ?_
 refine Ba E E zU fun b1=>?_
 refine U E (V (AH ?_))
 refine AE h fun y1 hy1 h=>?_
 refine AE h fun y2 hy2 h=>?_
 refine AE h fun s1 hs1 h=>?_
 refine A2 DE [0] (CK [(true,0),(true,1),(true,2),(true,4),(true,5),(false,3)] (.last 6 (C3 [(false,7),(false,8)]))) zK (AF E YF (AG 0 A6 E (BM E E (Co CP DL) (AF E YG (AG 0 FX E (Bf 0 TH (Kp hy1) E ⟨⟨0,E⟩,zT⟩ (Bk (AM 0 TH (Kp hy2) E ?_))))))))
 refine AA E (CN hs1) (U E (V (AL ?_)))
 obtain rfl:=zI h
 exact AW [] 1 E E E
def KK(n:Nat)(T:List UInt32)(p0:BV)(p1:C5)(p2:List UInt8):Option (List UInt8):=
 (JZ n T p0).bind fun y1=>
 (KL n p1).bind fun y2=>
 (Mr n y1.1 y2 p2).bind fun y3=>
 (Mv n p1).bind fun y4=>
 (EG y4 y3.1).bind fun s1=>
 some s1
theorem Xn{n:Nat}{T:List UInt32}{p0:BV}{p1:C5}{p2 r:List UInt8}(h:KK n T p0 p1 p2=some r)(hT:I9 K w0 2 64 T):zC K w0 219 [.agg (AY p0).toArray,.agg (J7 p1).toArray,vS p2] [] H (fun u M=>u=vS r∧M=[]):=by
 unfold KK at h
 refine T6.enter Tryz.func219 rfl rfl ?_
 refine Y ?_
 refine Ba E E zU fun b1=>?_
 refine Ba E E zU fun b2=>?_
 refine U E (V (Y ?_))
 refine AE h fun y1 hy1 h=>?_
 refine Aw [Z p0.gen,vS p0.secret] E LJ E E (An 1 E) (AM 0 gz (Tk hy1 hT) E (J E (Af E E E (Af E E E (Af E E E (U E (U E ?_)))))))
 refine U E (V (Y ?_))
 refine AE h fun y2 hy2 h=>?_
 refine AE h fun y3 hy3 h=>?_
 refine J E (Aw [Z p1.page,Z p1.gen,Z p1.boot,AV p1.seq] E T9 E E (An 0 E) (AM 0 pE (Xo hy2) E (J E (AM 0 pD (aI hy3) E (J E (Af E E E (Af E E E ?_)))))))
 refine U E (U E (V (Y ?_)))
 refine AE h fun y4 hy4 h=>?_
 refine AE h fun s1 hs1 h=>?_
 refine Aw [Z p1.page,Z p1.gen,Z p1.boot,AV p1.seq] E T9 E E (An 0 E) (AM 0 pF (aK hy4) E (J E (AA E (CN hs1) (U E (V (AL ?_))))))
 obtain rfl:=zI h
 exact AW [] 2 E E E
def Lc(n:Nat)(T:List UInt32)(p0:List BV)(p1:C5)(p2:List UInt8):Option (List UInt8×Int):=
 (JY n p0 p1.gen).bind fun y1=>
 cond (!decide (y1.2=0))
 (
  some ([],y1.2))
 (
  (Mu n p2).bind fun y2=>
  cond (!decide (y2.2=0))
  (
   some ([],y2.2))
  (
   (KK n T y1.1 p1 y2.1).bind fun y3=>
   (JZ n T y1.1).bind fun y4=>
   (Iy n T y4.2.1 y3).bind fun y5=>
   (EG y3 y5).bind fun s1=>
   some (s1,0)))
theorem Y0{n:Nat}{T:List UInt32}{DJ:Value}{p0:List BV}{p1:C5}{p2:List UInt8}{r:List UInt8×Int}(h:Lc n T p0 p1 p2=some r)(hT:I9 K w0 2 64 T)(hs0_:CG K w0 AY 2 DJ p0):zC K w0 179 [DJ,.agg (J7 p1).toArray,vS p2] [] H (fun u M=>u=.tuple #[vS r.1,vI r.2]∧M=[]):=by
 unfold Lc at h
 refine T6.enter Tryz.func179 rfl rfl ?_
 refine Y ?_
 refine Ba E E zU fun b1=>?_
 refine U E (U E (V (Y ?_)))
 refine AE h fun y1 hy1 h=>?_
 refine J E (AF E VL (AG 0 A6 E (AM 0 lE (Tj hy1 hs0_) E (J E (Af E E E (Af E E E ?_))))))
 refine Ar E Jk zU fun b2=>?_
 refine A7 0 E E E E E4 E E E zT (U E (V (AH (Y (J E (AA E BG (V ?_)))))))
 refine AP h E (fun hc1 h=>?_) fun hc1 h=>?_
 refine Y (J E (U E (U E (V (AL (Ac ?_))))))
 obtain rfl:=zI h
 exact AW [] 2 E E E
 refine AJ (AI (Y ?_))
 refine AE h fun y2 hy2 h=>?_
 refine J E (AM 0 oq (aJ hy2) E (J E (Af E E E (Af E E E (U E (U E (V (AH (Y (J E ?_))))))))))
 refine AA E BG (V ?_)
 refine AP h E (fun hc2 h=>?_) fun hc2 h=>?_
 refine Y (J E (U E (U E (V (AL (Ac ?_))))))
 obtain rfl:=zI h
 exact AW [] 2 E E E
 refine AJ (AI (Y ?_))
 refine AE h fun y3 hy3 h=>?_
 refine Aw [Z y1.1.gen,vS y1.1.secret] E LJ E E (An 0 E) (Aw [Z p1.page,Z p1.gen,Z p1.boot,AV p1.seq] E T9 E E (An 1 E) (J E (AM 0 ot (Xn hy3 hT) E (U E (V (Y ?_))))))
 refine AE h fun y4 hy4 h=>?_
 refine Aw [Z y1.1.gen,vS y1.1.secret] E LJ E E (An 0 E) (AM 0 gz (Tk hy4 hT) E (J E (Af E E E (Af E E E (Af E E E (U E (U E ?_)))))))
 refine U E (V (Y ?_))
 refine AE h fun y5 hy5 h=>?_
 refine AE h fun s1 hs1 h=>?_
 refine J E (J E (J E (AM 0 hC (Uv hy5 hT) E (AA E (CN hs1) (U E (U E (V (AL ?_))))))))
 obtain rfl:=zI h
 exact AW [] 2 E E E
end
end Go.Proofs.YtjkhnhichalenaaGreatDoor
