/- The texts FP3, S30, FP4, FJ0, FW0, FP5, FP2, FB0, FB1, FP6, FL1a, FM1, FL1, FM2, FP7, S26, S27, S28, FN0, FP8, one behind the other: walks of the program, and plain laws of what it computes. Conditions: as each theorem says. -/
import Derived.Test.YtpaohlmgfifebaaGreatDoorXE1
import Derived.Test.YtpaohlmgfifebaaGreatDoorXE2
import Derived.Test.YtpaohlmgfifebaaGreatDoorXE3
import Derived.Test.YtpaohlmgfifebaaGreatDoorXE4
import Derived.Test.YtpaohlmgfifebaaGreatDoorXE5

set_option linter.unusedVariables false
set_option linter.unusedSimpArgs false
set_option maxHeartbeats 4000000
set_option maxRecDepth 100000
namespace Go.Proofs.YtpaohlmgfifebaaGreatDoor
open Go
section
variable {K:Nat→Prop}{w0:World}{H:List Ab}
def RN(p0:Au):Option (UInt32×Int×Au):=
 ret (decide (p0.rboots=4294967295)) fun x1=>
 cond x1
 (
  some (0,72,p0))
 (
  (E5 p0).bind fun y1=>
  cond (!decide (y1.1=0))
  (
   some (0,y1.1,y1.2))
  (
   ret (y1.2.rboots+1) fun x2=>
   some (x2,0,{ y1.2 with rboots:=y1.2.rboots+1 })))
theorem gC{A7 BX Cb:Nat}{Cc:Value}{p0:Au}{r:UInt32×Int×Au}(h:RN p0=some r): zC K w0 80 [vP A7 0] [dO A7 Cc BX Cb p0,AD 9 1 Cc eS p0.blocks,Al BX AC vS p0.pend,Al Cb AC vB p0.bad] H (fun u M=>u=.tuple #[AC r.1,vI r.2.1]∧M=[dO A7 Cc BX Cb r.2.2,AD 9 1 Cc eS r.2.2.blocks,Al BX AC vS r.2.2.pend,Al Cb AC vB r.2.2.bad]):=by
 unfold RN at h
 refine Vf.enter Tryz.func80 rfl rfl ?_
 refine Y (O E (O E (U (AE (AK (Y (J E (GJ E YY E E (O E (U (EO E (Y ?_))))))))))))
 obtain⟨x1,ex1,h⟩:=BG h
 refine J E (AV E E (AF E ND (AF E RP (AG 0 Ah E ?_))))
 refine V E (Oz (b:=4294967295)) ?_
 refine AX (u:=vB x1) E E (congrArg vB ex1) ?_
 refine U ?_
 refine AL h E (fun hc2 h=>?_) fun hc2 h=>?_
 refine Y (O E (O E (U (AM (BO (Ag ?_))))))
 obtain rfl:=zI h
 exact AW [0,1,2,3] 4 E E E
 refine AH (Ao (AI (AE (Y ?_))))
 refine AB h fun y1 hy1 h=>?_
 refine J E (AV E E (AF E Wv (AN 4 Yv ((In hy1 :)) E (O E (U (Y (J E (V E Bg (U ?_)))))))))
 refine AL h E (fun hc3 h=>?_) fun hc3 h=>?_
 refine Y (J E (O E (O E (U (AM (Ag ?_))))))
 obtain rfl:=zI h
 exact AW [0,1,2,3] 4 E E E
 refine AH (AI (Y (J E (AV E E (AF E ND (AF E RP (AG 0 Ah E ?_)))))))
 refine V E (CQ (b:=1)) ?_
 refine AV E E (AF E ND (AF E RP (BN 0 E E E E Aa E E E zT (U (Y ?_)))))
 obtain⟨x2,ex2,h⟩:=BG h
 refine J E (AV E E (AF E ND (AF E RP (AG 0 Ah E ?_))))
 refine AX (u:=AC x2) E E (congrArg AC ex2) ?_
 refine O E (U (AM ?_))
 obtain rfl:=zI h
 exact AW [0,1,2,3] 4 E E E
def MT(y1:Int×Au)(o1:Au):Option (Int×Au):=
 some (y1.1,o1)
def M6(p0:Au)(p1:List UInt8):Option (Int×Au):=
 ret (!decide ((p1.length:Int)=32)) fun x1=>
 cond x1
 (
  some (2,p0))
 (
  ret (decide (p0.rcnt=18446744073709551615)) fun x2=>
  cond x2
  (
   some (72,p0))
  (
   (E5 p0).bind fun y1=>
   cond (decide (y1.1=0))
   (
    MT y1 ({ y1.2 with rcnt:=y1.2.rcnt+1,rtag:=p1 }))
   (
    MT y1 y1.2)))
theorem Rb{A7 BX Cb:Nat}{Cc:Value}{p0:Au}{p1:List UInt8}{r:Int×Au}(h:M6 p0 p1=some r): zC K w0 123 [vP A7 0,vS p1] [dO A7 Cc BX Cb p0,AD 9 1 Cc eS p0.blocks,Al BX AC vS p0.pend,Al Cb AC vB p0.bad] H (fun u M=>u=vI r.1∧M=[dO A7 Cc BX Cb r.2,AD 9 1 Cc eS r.2.blocks,Al BX AC vS r.2.pend,Al Cb AC vB r.2.bad]):=by
 unfold M6 at h
 refine Vf.enter Tryz.func123 rfl rfl ?_
 refine Y (O E (U (AE (AK (Y (J E (GJ E YY E E (O E (U (EO E (Y ?_)))))))))))
 obtain⟨x1,ex1,h⟩:=BG h
 refine J E (CI E De E (V E Bg ?_))
 refine AX (u:=vB x1) E E (congrArg vB ex1) ?_
 refine U ?_
 refine AL h E (fun hc2 h=>?_) fun hc2 h=>?_
 refine Y (O E (U (AM (BO (Ag ?_)))))
 obtain rfl:=zI h
 exact AW [0,1,2,3] 4 E E E
 refine Y ?_
 obtain⟨x2,ex2,h⟩:=BG h
 refine J E (AV E E (AF E ND (AF E RO (AG 0 Il E ?_))))
 refine V E (K7 (b:=18446744073709551615)) ?_
 refine AX (u:=vB x2) E E (congrArg vB ex2) ?_
 refine U ?_
 refine AL h E (fun hc3 h=>?_) fun hc3 h=>?_
 refine Y (O E (U (AM (BO (Ag ?_)))))
 obtain rfl:=zI h
 exact AW [0,1,2,3] 4 E E E
 refine AH (Ao (AI (Y ?_)))
 refine AB h fun y1 hy1 h=>?_
 refine J E (AV E E (AF E Wv (AN 4 Yv ((In hy1 :)) E (O E (U ?_)))))
 refine Az (α:=Au) (fun x=>MT y1 x=some r) (fun x=>[(0,vP A7 0),(5,vI y1.1)]) (fun x=>dO A7 Cc BX Cb x::AD 9 1 Cc eS x.blocks::Al BX AC vS x.pend::Al Cb AC vB x.bad::H) ?_ (fun o1 D h=>?_)
 refine Y (J E (V E Bv (U ?_)))
 refine AL h E (fun hc4 h=>?_) fun hc4 h=>?_
 refine Y (J E (AV E E (AF E ND (AF E RO (AG 0 Il E ?_)))))
 refine V E (JU (b:=1)) ?_
 refine AV E E (AF E ND (AF E RO (BN 0 E E E E lk E E E zT (U (AJ (J E (J E (AV E E (AF E ND ?_)))))))))
 refine AF E eA (BN 0 E E E E Is E E E zT (AT ?_))
 exact Ak ({ y1.2 with rcnt:=y1.2.rcnt+1,rtag:=p1 }) h tL (A5 [0,1,2,3] 4 rfl rfl rfl)
 refine AH ?_
 exact Ak y1.2 h tL (A5 [0,1,2,3] 4 E E E)
 unfold MT at h
 try dsimp only
 refine Y (J E (O E (U (AM ?_))))
 obtain rfl:=zI h
 exact AW [0,1,2,3] 4 E E E
def Gl(p0:Au):Option fg:=
 some (⟨p0.rcnt,p0.rtag,p0.rboots⟩:fg)
theorem Le{A7 BX Cb:Nat}{Cc:Value}{p0:Au}{r:fg}(h:Gl p0=some r): zC K w0 14 [vP A7 0] [dO A7 Cc BX Cb p0,AD 9 1 Cc eS p0.blocks,Al BX AC vS p0.pend,Al Cb AC vB p0.bad] H (fun u M=>u=.agg (lG r).toArray∧M=[dO A7 Cc BX Cb p0,AD 9 1 Cc eS p0.blocks,Al BX AC vS p0.pend,Al Cb AC vB p0.bad]):=by
 unfold Gl at h
 refine Vf.enter Tryz.func14 rfl rfl ?_
 refine Y ?_
 refine A6 E ug zU fun b1=>?_
 refine U (AE (Y (J rfl (GJ rfl YY rfl rfl (U (EO rfl (AH (AI (Y (J rfl (AV rfl rfl (AF rfl ND (BA [Bh p0.rcnt,vS p0.rtag,AC p0.rboots] rfl uY rfl rfl (Dy 1 rfl (by rintro(_ | (_ | (_ | j))) u hj<;>first | exact hj | exact absurd hj zS)) (BN 0 rfl rfl rfl rfl xt rfl rfl rfl trivial (U (AM ?_))))))))))))))))
 obtain rfl:=zI h
 exact Ax (KC E (Cj 0 (lG (⟨p0.rcnt,p0.rtag,p0.rboots⟩:fg)) uY E E E E)) (As (M:=[_,_,_,_]) ⟨E,E⟩ fun _ hw=>Br.pick (H:=[_,_,_,_,_]) hw [1,2,3,4] 5 E)
def ON(y1:Int×Au)(o1:Au):Option (Int×Au):=
 some (y1.1,o1)
def Qk(y1:Int×Au)(o2:Au):Option (Int×Au):=
 ON y1 ({ o2 with pend:=[] })
def Ql(y1:Int×Au)(o3:Au):Option (Int×Au):=
 Qk y1 o3
def Jp(y1:Int×Au)(nx_f_dd_Flush_r1:Au→Option (Int×Au))(e1:Int×UInt32)(o3:Au):Option (Int×Au):=
 (A1 o3.blocks (e1.2.toNat:Int)).bind fun x1=>
 (FX o3.blocks (e1.2.toNat:Int) ((Db o3.pend e1.2).getD [])).bind fun l1=>
 nx_f_dd_Flush_r1 ({ o3 with blocks:=l1 })
def Li(y1:Int×Au):List (Int×UInt32)→Au→Option (Int×Au):=XF (fun nx e x=>Jp y1 nx e x) (fun x=>Ql y1 x)
def KI(p0:Au):Option (Int×Au):=
 (E5 p0).bind fun y1=>
 cond (decide (y1.1=0))
 (
  (X1 y1.2).bind fun y2=>
  (Y7 y1.2).bind fun xs1=>
  Li y1 xs1 y1.2)
 (
  ON y1 y1.2)
theorem RJ{A7 BX Cb:Nat}{Cc:Value}{p0:Au}{r:Int×Au}(h:KI p0=some r): zC K w0 118 [vP A7 0] [dO A7 Cc BX Cb p0,AD 9 1 Cc eS p0.blocks,Al BX AC vS p0.pend,Al Cb AC vB p0.bad] H (fun u M=>u=vI r.1∧M=[dO A7 Cc BX Cb r.2,AD 9 1 Cc eS r.2.blocks,Al BX AC vS r.2.pend,Al Cb AC vB r.2.bad]):=by
 unfold KI at h
 refine Vf.enter Tryz.func118 rfl rfl ?_
 refine Y ?_
 refine Bw E E zU fun b1=>?_
 refine O E (U (AE (Y (AG 0 Ow E (GJ E YY E E (U (EO E (AH (AI (Y ?_))))))))))
 refine AB h fun y1 hy1 h=>?_
 refine AG 0 Ow E (AV E E (AF E Wv (SL.pick [1,2,3,4,0] 5 (AN 4 Yv ((In hy1 :)) E (O E (U ?_))))))
 refine Az (α:=Au) (fun x=>ON y1 x=some r) (fun x=>[(0,vP A7 0),(3,vI y1.1)]) (fun x=>dO A7 Cc BX Cb x::AD 9 1 Cc eS x.blocks::Al BX AC vS x.pend::Al Cb AC vB x.bad::H) ?_ (fun o1 D h=>?_)
 refine Y (J E (V E Bv (U ?_)))
 refine AL h E (fun hc2 h=>?_) fun hc2 h=>?_
 refine Az (α:=Au) (fun x=>Qk y1 x=some r) (fun x=>[(0,vP A7 0),(1,vP b1 0),(3,vI y1.1)]) (fun x=>dO A7 Cc BX Cb x::AD 9 1 Cc eS x.blocks::Al BX AC vS x.pend::Al Cb AC vB x.bad::own b1 (.cells #[vP A7 0] 26)::H) ?_ (fun o2 D h=>?_)
 refine Y ?_
 refine AB h fun y2 hy2 h=>?_
 refine AG 4 Ow E (Bi 0 sE (j8 hy2) E ?_)
 rintro _ _ ⟨b2,rfl,rfl⟩
 refine U (AK ?_)
 refine AB h fun xs1 hxs1 h=>?_
 refine SX.heap (N1 (enc:=jF) xs1 (G0:=dO A7 Cc BX Cb y1.2::AD 9 1 Cc eS y1.2.blocks::Al BX AC vS y1.2.pend::Al Cb AC vB y1.2.bad::own b1 (.cells #[vP A7 0] 26)::H) (fun pre G=>∃x:Au,(∀suf,xs1=pre++suf→Li y1 suf x=some r)∧G=dO A7 Cc BX Cb x::AD 9 1 Cc eS x.blocks::Al BX AC vS x.pend::Al Cb AC vB x.bad::own b1 (.cells #[vP A7 0] 26)::H) (fun c G=>False) E sT E zV (qE hxs1) E ⟨y1.2,fun suf e=>by rw[←show xs1=suf from e];exact h,E⟩ (fun pre e1 suf1 G hpre hJ lr lp Rest=>?_) (fun G D hJ=>?_) (fun c G D hX=>?_)) (A5 [0,1,2,3,4,5] 6 E E E)
 obtain⟨o3,h,rfl⟩:=hJ
 replace h:Jp y1 (Li y1 suf1) e1 o3=some r:=h _ hpre
 unfold Jp at h
 refine AJ (O E (AT ?_))
 refine MI (G:=dO A7 Cc BX Cb o3::AD 9 1 Cc eS o3.blocks::Al BX AC vS o3.pend::Al Cb AC vB o3.bad::own b1 (.cells #[vP A7 0] 26)::H) ?_
 refine AK ?_
 refine AB h fun x1 hx1 h=>?_
 refine AB h fun l1 hl1 h=>?_
 refine Ai C2 [0,2,4] (BJ (Hp 0 12) (.last 12 .nil)) zK (AG 2 Ow E (AV E E (AF E Ww (AG 0 RY E (J E (AG 2 Ow E (AV E E ?_)))))))
 refine AF E Wx (AG 0 lh E (J E ?_))
 refine Yr (zv:=[]) 1 (Vg C6) E lq VD E E E ?_
 refine AZ 1 hx1 E F8 Is E E E fun g1 m1 cp1 hv1=>?_
 refine A4 ?_
 refine BB (sz:=1) (enc:=eS) 1 hl1 zV rfl rfl rfl rfl rfl hv1 Is (by first | (simp[Value.oneCell'];done) | simp[eS,Value.oneCell']) trivial ?_
 refine AT (Ao ?_)
 exact Jl ⟨({ o3 with blocks:=l1 }),fun suf e=>by rw[Y6 hpre e];exact h,rfl⟩ (A5 [0,1,2,3,4] 5 rfl rfl rfl)
 obtain⟨o3,h,rfl⟩:=hJ
 replace h:Ql y1 o3=some r:=h [] (List.append_nil _).symm
 unfold Ql at h
 refine Ao ?_
 exact Ak o3 h tL (A5 [0,1,2,3,4] 5 E E E)
 exact hX.elim
 unfold Qk at h
 try dsimp only
 refine AJ (AG 4 Ow E (AV E E (AF E Wx (AG 0 lh E (rC 2 E E E lq E E zT (AT ?_))))))
 exact Ak ({ o2 with pend:=[] }) h tL (A5 [0,1,2,3] 5 rfl rfl rfl)
 refine AH ?_
 exact Ak y1.2 h tL (A5 [0,1,2,3] 5 E E E)
 unfold ON at h
 try dsimp only
 refine Y (J E (O E (U (AM ?_))))
 obtain rfl:=zI h
 exact AW [0,1,2,3] 4 E E E
def Pe(T:List UInt32)(p0:BD)(p0_1:Au)(p1:UInt32)(p2:List UInt8):Option (List UInt8×Int×BD×Au):=
 ret (decide (2≤p1)) fun x1=>
 cond x1
 (
  some ([],2,p0,p0_1))
 (
  ret (decide (198<(p2.length:Int))) fun x2=>
  cond x2
  (
   some ([],50,p0,p0_1))
  (
   (Lv T p0 p0_1 p1 p2).bind fun y1=>
   some (y1.1,y1.2.1,y1.2.2.1,y1.2.2.2)))
theorem UD{T:List UInt32}{A7 BX Bb CX CY:Nat}{Aj CZ:Value}{p0:BD}{p0_1:Au}{p1:UInt32}{p2:List UInt8}{r:List UInt8×Int×BD×Au}(h:Pe T p0 p0_1 p1 p2=some r)(hS:Hq K w0 T):zC K w0 121 [vP A7 0,AC p1,vS p2] [vO A7 Bb Aj BX p0,AD 55 2 Aj Ad p0.ring,Al BX AC vB p0.taken,dO Bb CZ CX CY p0_1,AD 9 1 CZ eS p0_1.blocks,Al CX AC vS p0_1.pend,Al CY AC vB p0_1.bad] H (fun u M=>u=.tuple #[vS r.1,vI r.2.1]∧M=[vO A7 Bb Aj BX r.2.2.1,AD 55 2 Aj Ad r.2.2.1.ring,Al BX AC vB r.2.2.1.taken,dO Bb CZ CX CY r.2.2.2,AD 9 1 CZ eS r.2.2.2.blocks,Al CX AC vS r.2.2.2.pend,Al CY AC vB r.2.2.2.bad]):=by
 unfold Pe at h
 refine Vf.enter Tryz.func121 rfl rfl ?_
 refine Y (O E (O E (U (AE (AK (Y (J E (GJ E lo E E (O E (U (EO E (Y ?_))))))))))))
 obtain⟨x1,ex1,h⟩:=BG h
 refine J E ?_
 refine V E (I0 (b:=2)) ?_
 refine AX (u:=vB x1) E E (congrArg vB ex1) ?_
 refine U ?_
 refine AL h E (fun hc2 h=>?_) fun hc2 h=>?_
 refine Y (O E (O E (U (AM (BO (Ag ?_))))))
 obtain rfl:=zI h
 exact AW [0,1,2,3,4,5,6] 7 E E E
 refine Y ?_
 obtain⟨x2,ex2,h⟩:=BG h
 refine J E (CI E De E (V E C8 ?_))
 refine AX (u:=vB x2) E E (congrArg vB ex2) ?_
 refine U ?_
 refine AL h E (fun hc3 h=>?_) fun hc3 h=>?_
 refine Y (O E (O E (U (AM (BO (Ag ?_))))))
 obtain rfl:=zI h
 exact AW [0,1,2,3,4,5,6] 7 E E E
 refine AH (Ao (AI (Y ?_)))
 refine AB h fun y1 hy1 h=>?_
 refine J E (J E (J E (AN 7 kc (Zn hy1 hS) E (Ap E E E (Ap E E E (O E (O E (U (AM ?_)))))))))
 obtain rfl:=zI h
 exact AW [0,1,2,3,4,5,6] 7 E E E
end

section
structure GI where
 cnt:UInt64
 gen:UInt32
 rows:UInt32
 page:UInt32
 tag:List UInt8
deriving DecidableEq
def JC(r:GI):List Value:=[Bh r.cnt,AC r.gen,AC r.rows,AC r.page,vS r.tag]
structure yS where
 kind:Int
 x0:UInt32
 y0:UInt32
 x1:UInt32
 y1:UInt32
 x:UInt32
 y:UInt32
 sq:UInt64
 k:Int
 after:UInt64
 isFrom:Bool
structure B3 where
 rows:List A3
 pages:List BU
 gens:List (UInt32×UInt32)
 ring:List Bf
 gen:UInt32
 bad:Bool
structure D0 where
 ops:List Iv
 isOpen:Bool
 closed:Bool
structure HH where
 had:List BU
 out:List BU
 took:List UInt32
 err:Int
 must:List BU
structure To where
 ops:List Iv
 isOpen:Bool
 closed:Bool
structure FI where
 rows:List A3
 had:List BU
 gens:List UInt32
 bad:Bool
theorem Sb{P:Program}{k:TypeId}(hk:P.underlying k=some (.int .u32)):Ot P k AC AC:=
 ⟨Maps.int_keyed hk,XM hk,⟨fun v=>match v with | .int _ a=>some (UInt32.ofNat a.toNat) | _=>none,fun x=>by simp⟩,⟨fun v=>match v with | .int _ a=>some (UInt32.ofNat a.toNat) | _=>none,fun x=>by simp⟩⟩
def Vr(s:BU):Value:=.agg (AY s).toArray
theorem WO{P:Program}{k:TypeId}(hk:P.underlying k=some (.int .u32)):Ot P k AC Vr:=
 ⟨Maps.int_keyed hk,XM hk,⟨fun v=>match v with | .int _ a=>some (UInt32.ofNat a.toNat) | _=>none,fun x=>by simp⟩,
  ⟨fun v=>match v with | .agg a=>(match a.toList with | [.string t,.int _ p,.string b]=>some ⟨t.data.toList,UInt32.ofNat p.toNat,b.data.toList⟩ | _=>none) | _=>none,fun x=>by
  cases x
  simp[Vr,AY,AC,vS]⟩⟩
section
variable {P:Program}{ro:Option Nat}{K:Nat→Prop}{w0:World}{N:Nat}{Q:Eg}{D:List Nat}{l l':Tm}{H H' Hs:List Ab}{ops:Array Oper}{items:I5}
variable {tk:Bool}{o:Oper}{t:Nat}{v:Value}{x y z y1:Operand}
theorem n9{α:Type}{enc:α→List Value}{sz:Nat}{xs us:List α}{k k':IntKind}{j:Int}{ty e:TypeId}(hn:KK xs 0 j=some us)(hk:CR K w0 enc sz v xs)(ho:At ops N l o t (.slice ty x none (some z) (some y1)))(hty:P.underlying ty=some (.slice e))(hsz:Ee P e=some sz)(hx:B4 l x=some v)(hz:B4 l z=some (.int k j))(hu:B4 l y1=some (.int k' j))
(h:∀v',CR K w0 enc sz v' us→SL P ro K w0 N ops Hs items Q D ((t,v')::l) H):SL P ro K w0 N ops Hs (.cons (tk,o) items) Q D l H:=by
 obtain⟨h1,h2,h3,h4,rfl⟩:=PM hn
 have e2:(xs.drop (0:Int).toNat).take (j.toNat-(0:Int).toNat)=xs.take j.toNat:=by simp
 rw[e2]at h
 have hj:j=(j.toNat:Int):=zO
 generalize j.toNat=n at*
 subst hj
 have hn:n≤xs.length:=zO
 rcases hk.at_ with⟨a0,rfl,rfl⟩ | ⟨b,off,cap,rfl,hcap,hc⟩
 have hn0:n=0:=by simpa using hn
 subst hn0
 refine SL.val (v:=.slice a0 0 0) ho E (fun a w ha _=>?_) (h _ ⟨hk.len,.inl ⟨_,E,by simp⟩⟩)
 simp only[execOp,ho.op,Instr.sliceAt,Instr.slice,Option.map]
 cases a0<;>simp[ha.eval hx,ha.eval hz,ha.eval hu,A8 hty,Dc hsz,Instr.sliceBounds,Instr.sliceBound,asIntOf]
 have hle:n≤cap:=Nat.le_trans hn hcap
 refine SL.val (v:=.slice (some ⟨b,off,none⟩) n n) ho E (fun a w ha _=>?_) (h _ ⟨hk.len,.inr ⟨b,off,n,by simp[List.length_take,Nat.min_eq_left hn],by rw[List.length_take];exact Nat.min_le_left ..,?_⟩⟩)
 simp only[execOp,ho.op,Instr.sliceAt,Instr.slice,Option.map]
 simp[ha.eval hx,ha.eval hz,ha.eval hu,A8 hty,Dc hsz,Instr.sliceBounds,Instr.sliceBound,asIntOf,hle,Dd]
 intro j u hu
 refine hc j u ?_
 have hpre:(xs.take n).flatMap enc++(xs.drop n).flatMap enc=xs.flatMap enc:=by
  rw[←List.flatMap_append,List.take_append_drop]
 rw[←hpre,List.getElem?_append_left (List.getElem?_eq_some_iff.1 hu).1]
 exact hu
section
variable {κ α:Type}{ek:κ→Value}{ev:α→Value}{m:List (κ×α)}{b:Nat}{k:TypeId}
def EU(v:Value)(ek:κ→Value)(ev:α→Value)(m:List (κ×α)):Ab:=
 ⟨fun b=>v=.map (some b),fun w=>(v=.map none∧m=[])∨∃b,v=.map (some b)∧(Al b ek ev m).holds w,fun w w' h hw=>by
  rcases hw with hn | ⟨b,rfl,hb⟩
  exact .inl hn
  exact .inr ⟨b,rfl,(Al b ek ev m).loc w w' (fun j hj=>h j (by rw[show j=b from hj])) hb⟩⟩
theorem Br.nilM{w:World}(ek:κ→Value)(ev:α→Value)(h:Br K w0 H w):Br K w0 (EU (.map none) ek ev []::H) w:=
 ⟨h.os,h.tape,h.output,h.size,h.klt,h.keep,fun c hc=>by
   rcases List.mem_cons.1 hc with rfl | hc
   exact .inl ⟨rfl,rfl⟩
   exact h.holds c hc,
  fun c hc b hb=>by
   rcases List.mem_cons.1 hc with rfl | hc
   cases hb
   exact h.foot c hc b hb,
  List.pairwise_cons.2 ⟨fun c _ b hb=>(by cases hb),h.disj⟩⟩
theorem ny(ek:κ→Value)(ev:α→Value)(h:SL P ro K w0 N ops Hs items Q D l (EU (.map none) ek ev []::H)):SL P ro K w0 N ops Hs items Q D l H:=
 fun a w ha hw hs=>h a w ha (hw.nilM ek ev) hs
theorem rO(i:Nat)(hi:H[i]? = some (Al b ek ev m))(h:SL P ro K w0 N ops Hs items Q D l (H.set i (EU (.map (some b)) ek ev m)))(hs:Fy Hs (H.set i (EU (.map (some b)) ek ev m))):SL P ro K w0 N ops Hs items Q D l H:=by
 intro a w ha hw hs0
 refine h a w ha (Br.turnAt i hw hi rfl rfl rfl (Nat.le_refl _) (fun _ _ _=>rfl) (.inr ⟨b,rfl,hw.holds _ (List.mem_append_left _ (List.mem_of_getElem? hi))⟩) fun b' hb=>?_) hs0
 obtain rfl:b=b':=by simpa[EU]using hb
 exact⟨.inl rfl,(hw.foot _ (List.mem_append_left _ (List.mem_of_getElem? hi)) b rfl).1⟩
variable [DecidableEq κ]
omit [DecidableEq κ] in
theorem jS{w:World}(E9:Ot P k ek ev){ty e:TypeId}(ht:P.underlying ty=some (.map k e)){zv:α}(hz:Fk P e=some (ev zv))(key:κ)(c:Bool):
  (Instr.lookup ty (.map none) (ek key) c).run P w=.ok (if c then .tuple #[ev zv,.bool false]else ev zv) w:=by
 obtain⟨lx,hl⟩:=E9.lit key
 rcases E9.keyed.find w hl [] zS with⟨h1,h2⟩ | ⟨j,e0,h1,h2,h3⟩
 simp[Instr.lookup,A8 ht,E9.keyed.check w _ hl,h1,PI hz,Result.andThen]
 simp at h2
theorem nr{ty e:TypeId}{key:κ}{zv:α}(i:Nat)(E9:Ot P k ek ev)(ho:At ops N l o t (.lookup ty x y false))(ht:P.underlying ty=some (.map k e))(hz:Fk P e=some (ev zv))(hx:B4 l x=some v)(hy:B4 l y=some (ek key))
(hi:(bif tk then Hs else H)[i]? = some (EU v ek ev m))(h:SL P ro K w0 N ops Hs items Q D ((t,ev ((Db m key).getD zv))::l) H):SL P ro K w0 N ops Hs (.cons (tk,o) items) Q D l H:=
 SL.val ho rfl (fun a w ha hsw=>by
  rcases(hsw.holds _ (List.mem_of_getElem? hi):(EU v ek ev m).holds w)with⟨rfl,rfl⟩ | ⟨b,rfl,es,clock,hb,hr⟩
  have:=jS (w:=w) E9 ht hz key false
  simp[execOp,ho.op,ha.eval hx,ha.eval hy,this,Db]
  have:=hr.look E9 hb ht hz key false
  simp[execOp,ho.op,ha.eval hx,ha.eval hy,this]) h
end
def Z2(P:Program)(ty:TypeId)(f:Nat):Option Nat:=
 match P.underlying ty with
 | some (.struct fs)=>match fs[f]? with
  | some fd=>if Kh P fd.type then some fd.offset else none
  | none=>none
 | _=>none
theorem WT{cs:Array Value}{d f:Nat}{ty:TypeId}(ho:At ops N l o t (.field ty x f))(hf:Z2 P ty f=some d)(hx:B4 l x=some (.agg cs))(hc:cs[d]? = some v)(h:SL P ro K w0 N ops Hs items Q D ((t,v)::l) H):SL P ro K w0 N ops Hs (.cons (tk,o) items) Q D l H:=
 SL.val ho rfl (fun a w ha _=>by
  unfold Z2 at hf
  cases hu:P.underlying ty with
  | none=>simp[hu]at hf
  | some ds=>
   cases ds<;>simp only[hu]at hf<;>try cases hf
   rename_i fs
   cases hfs:fs[f]? with
   | none=>simp[hfs]at hf
   | some fd=>
    simp only[hfs]at hf
    split at hf
    rename_i hs
    obtain rfl:=zI hf
    simp[execOp,ho.op,Instr.field,A8 hu,ha.eval hx,hfs,part,(Xv hs w).1,hc,asAgg]
    cases hf) h
end
abbrev sO(b:Nat)(x y z:Value)(e f:Nat)(r:Value)(d:B3):Ab:=own b (.cells #[x,y,z,vP e 0,vP f 0,r,AC d.gen,vB d.bad] 95)
end

section
variable {K:Nat→Prop}{w0:World}{H:List Ab}
def Io(p0:BM):Option (UInt32×Int×BM):=
 cond (decide (p0.rboots=4294967295))
 (
  some (0,72,p0))
 (
  (FG p0).bind fun y1=>
  cond (!decide (y1.1=0))
  (
   some (0,y1.1,y1.2))
  (
   ret (y1.2.rboots+1) fun x1=>
   some (x1,0,{ y1.2 with rboots:=y1.2.rboots+1 })))
theorem Td{A7:Nat}{BF Aj BK:Value}{p0:BM}{r:UInt32×Int×BM}(h:Io p0=some r): zC K w0 58 [vP A7 0] [eO A7 BF Aj BK p0,AD 9 1 BF eS p0.blk,AD 9 1 Aj eS p0.pnd,AD 4 1 BK eB p0.bads] H (fun u M=>u=.tuple #[AC r.1,vI r.2.1]∧M=[eO A7 BF Aj BK r.2.2,AD 9 1 BF eS r.2.2.blk,AD 9 1 Aj eS r.2.2.pnd,AD 4 1 BK eB r.2.2.bads]):=by
 unfold Io at h
 refine Vf.enter Tryz.func58 rfl rfl ?_
 refine Y (O E (O E (U (AE (Y (J E (AV E E (AF E NE (AF E RP (AG 0 Ah E ?_))))))))))
 refine V E (Oz (b:=4294967295)) ?_
 refine U ?_
 refine AL h E (fun hc1 h=>?_) fun hc1 h=>?_
 refine Y (O E (O E (U (AM (Ag ?_)))))
 obtain rfl:=zI h
 exact AW [0,1,2,3] 4 E E E
 refine AH (AI (Y ?_))
 refine AB h fun y1 hy1 h=>?_
 refine J E (AN 4 du (KN hy1) E (O E (U (AE (Y (J E (V E Bg (U ?_))))))))
 refine AL h E (fun hc2 h=>?_) fun hc2 h=>?_
 refine Y (J E (O E (O E (U (AM (Ag ?_))))))
 obtain rfl:=zI h
 exact AW [0,1,2,3] 4 E E E
 refine AH (AI (Y (J E (AV E E (AF E NE (AF E RP (AG 0 Ah E ?_)))))))
 refine V E (CQ (b:=1)) ?_
 refine AV E E (AF E NE (AF E RP (BN 0 E E E E Aa E E E zT (U (Y ?_)))))
 obtain⟨x1,ex1,h⟩:=BG h
 refine J E (AV E E (AF E NE (AF E RP (AG 0 Ah E ?_))))
 refine AX (u:=AC x1) E E (congrArg AC ex1) ?_
 refine O E (U (AM ?_))
 obtain rfl:=zI h
 exact AW [0,1,2,3] 4 E E E
def Gn(y1:Int×BM)(o1:BM):Option (Int×BM):=
 some (y1.1,o1)
def Gb(p0:BM)(p1:List UInt8):Option (Int×BM):=
 cond (!decide ((p1.length:Int)=32))
 (
  some (2,p0))
 (
  cond (decide (p0.rcnt=18446744073709551615))
  (
   some (72,p0))
  (
   (FG p0).bind fun y1=>
   cond (decide (y1.1=0))
   (
    Gn y1 ({ y1.2 with rcnt:=y1.2.rcnt+1,rtag:=p1 }))
   (
    Gn y1 y1.2)))
theorem N3{A7:Nat}{BF Aj BK:Value}{p0:BM}{p1:List UInt8}{r:Int×BM}(h:Gb p0 p1=some r): zC K w0 131 [vP A7 0,vS p1] [eO A7 BF Aj BK p0,AD 9 1 BF eS p0.blk,AD 9 1 Aj eS p0.pnd,AD 4 1 BK eB p0.bads] H (fun u M=>u=vI r.1∧M=[eO A7 BF Aj BK r.2,AD 9 1 BF eS r.2.blk,AD 9 1 Aj eS r.2.pnd,AD 4 1 BK eB r.2.bads]):=by
 unfold Gb at h
 refine Vf.enter Tryz.func131 rfl rfl ?_
 refine Y (O E (U (AE (Y (J E (CI E De E (V E Bg (U ?_))))))))
 refine AL h E (fun hc1 h=>?_) fun hc1 h=>?_
 refine Y (O E (U (AM (Ag ?_))))
 obtain rfl:=zI h
 exact AW [0,1,2,3] 4 E E E
 refine AH (AI (AE (Y (J E (AV E E (AF E NE (AF E RO (AG 0 Il E ?_))))))))
 refine V E (K7 (b:=18446744073709551615)) ?_
 refine U ?_
 refine AL h E (fun hc2 h=>?_) fun hc2 h=>?_
 refine Y (O E (U (AM (Ag ?_))))
 obtain rfl:=zI h
 exact AW [0,1,2,3] 4 E E E
 refine AH (AI (Y ?_))
 refine AB h fun y1 hy1 h=>?_
 refine J E (AN 4 du (KN hy1) E (O E (U ?_)))
 refine Az (α:=BM) (fun x=>Gn y1 x=some r) (fun x=>[(0,vP A7 0),(5,vI y1.1)]) (fun x=>eO A7 BF Aj BK x::AD 9 1 BF eS x.blk::AD 9 1 Aj eS x.pnd::AD 4 1 BK eB x.bads::H) ?_ (fun o1 D h=>?_)
 refine Y (J E (V E Bv (U ?_)))
 refine AL h E (fun hc3 h=>?_) fun hc3 h=>?_
 refine Y (J E (AV E E (AF E NE (AF E RO (AG 0 Il E ?_)))))
 refine V E (JU (b:=1)) ?_
 refine AV E E (AF E NE (AF E RO (BN 0 E E E E lk E E E zT (U (AJ (J E (J E (AV E E (AF E NE ?_)))))))))
 refine AF E eA (BN 0 E E E E Is E E E zT (AT ?_))
 exact Ak ({ y1.2 with rcnt:=y1.2.rcnt+1,rtag:=p1 }) h tL (A5 [0,1,2,3] 4 rfl rfl rfl)
 refine AH ?_
 exact Ak y1.2 h tL (A5 [0,1,2,3] 4 E E E)
 unfold Gn at h
 try dsimp only
 refine Y (J E (O E (U (AM ?_))))
 obtain rfl:=zI h
 exact AW [0,1,2,3] 4 E E E
def JY(y1:Int×BM)(o1:BM):Option (Int×BM):=
 some (y1.1,o1)
def FQ(a1:Int)(nx_f_ref07_Device_Flush_l1:BM×Int→Option (Int×BM))(o3:BM):Option (Int×BM):=
 ret (wI (a1+1)) fun i_1=>
 nx_f_ref07_Device_Flush_l1 (o3,i_1)
def Fh(y1:Int×BM)(nx_f_ref07_Device_Flush_l1:BM×Int→Option (Int×BM))(o2:BM)(a1:Int):Option (Int×BM):=
 cond ((decide (a1<(o2.blk.length:Int)))&&(decide (y1.1=0)))
 (
  (A1 o2.pnd a1).bind fun x1=>
  cond (!decide (x1=[]))
  (
   (A1 o2.pnd a1).bind fun x2=>
   (A1 o2.blk a1).bind fun x3=>
   (FX o2.blk a1 x2).bind fun l1=>
   (A1 o2.pnd a1).bind fun x4=>
   (FX o2.pnd a1 []).bind fun l2=>
   FQ a1 nx_f_ref07_Device_Flush_l1 ({ o2 with blk:=l1,pnd:=l2 }))
  (
   FQ a1 nx_f_ref07_Device_Flush_l1 o2))
 (
  JY y1 o2)
def FR(y1:Int×BM):Nat→(BM×Int)→Option (Int×BM):=CH fun nx x=>Fh y1 nx x.1 x.2
def GE(n:Nat)(p0:BM):Option (Int×BM):=
 (FG p0).bind fun y1=>
 FR y1 n (y1.2,0)
theorem LK{n A7:Nat}{BF Aj BK:Value}{p0:BM}{r:Int×BM}(h:GE n p0=some r): zC K w0 127 [vP A7 0] [eO A7 BF Aj BK p0,AD 9 1 BF eS p0.blk,AD 9 1 Aj eS p0.pnd,AD 4 1 BK eB p0.bads] H (fun u M=>u=vI r.1∧M=[eO A7 BF Aj BK r.2,AD 9 1 BF eS r.2.blk,AD 9 1 Aj eS r.2.pnd,AD 4 1 BK eB r.2.bads]):=by
 unfold GE at h
 refine Vf.enter Tryz.func127 rfl rfl ?_
 refine Y (O E (U (Y ?_)))
 refine AB h fun y1 hy1 h=>?_
 refine J E (AN 4 du (KN hy1) E (O E (U ?_)))
 refine Az (α:=BM) (fun x=>JY y1 x=some r) (fun x=>[(0,vP A7 0),(3,vI y1.1)]) (fun x=>eO A7 BF Aj BK x::AD 9 1 BF eS x.blk::AD 9 1 Aj eS x.pnd::AD 4 1 BK eB x.bads::H) ?_ (fun o1 D h=>?_)
 refine Y (O E (U (AK ?_)))
 refine SX.heap (SX.mono (A9 (α:=Nat×BM×Int) (fun x=>FR y1 x.1 (x.2.1,x.2.2)=some r) (fun x=>[(0,vP A7 0),(3,vI y1.1),(4,vI x.2.2)]) (fun x=>eO A7 BF Aj BK x.2.1::AD 9 1 BF eS x.2.1.blk::AD 9 1 Aj eS x.2.1.pnd::AD 4 1 BK eB x.2.1.bads::H) (fun x=>x.1) (fun x D h=>?_) (n,y1.2,0) h) tL) (A5 [0,1,2,3] 4 E E E)
 obtain⟨m1,o2,a1⟩:=x
 dsimp only at h
 rcases m1 with _ | m1
 cases (show(none:Option _)=some r from h)
 replace h:Fh y1 (FR y1 m1) o2 a1=some r:=h
 unfold Fh at h
 try dsimp only
 refine AE (Y (J E (J E (AV E E (AF E SK (AG 0 RY E (FJ 1 E F8 E E (V E BL (J E ?_)))))))))
 refine DT (c:=decide (y1.1=0)) 14 3 17 E (fun hb k=>?_) (fun hb k=>?_) ?_
 refine J E (V E Bv (An E E E ?_))
 exact k.mono tL
 refine AA E (AA E (An E E E ?_))
 exact k.mono tL
 refine U ?_
 refine AL h E (fun hc1 h=>?_) fun hc1 h=>?_
 refine AH (AI ?_)
 refine Az (α:=BM) (fun x=>FQ a1 (FR y1 m1) x=some r) (fun x=>[(0,vP A7 0),(3,vI y1.1),(4,vI a1)]) (fun x=>eO A7 BF Aj BK x::AD 9 1 BF eS x.blk::AD 9 1 Aj eS x.pnd::AD 4 1 BK eB x.bads::H) ?_ (fun o3 D h=>?_)
 refine AK (Y ?_)
 refine AB h fun x1 hx1 h=>?_
 refine J E (AV E E (AF E SM (AG 0 RY E (J E ?_))))
 refine AZ 2 hx1 E F8 Is E E E fun g1 m2 cp1 hv1=>?_
 refine Aq E H9 E (AS (sz:=1) (enc:=eS) 2 0 zV E hv1 hx1 E) ?_
 refine V E WJ (U ?_)
 refine AL h E (fun hc2 h=>?_) fun hc2 h=>?_
 refine AE ?_
 refine AB h fun x2 hx2 h=>?_
 refine AB h fun x3 hx3 h=>?_
 refine AB h fun l1 hl1 h=>?_
 refine Ai C2 [0,2] (BJ (Hp 0 13) (.last 13 .nil)) zK (J E (AV E E (AF E SK (AG 0 RY E (J E (J E (AV E E ?_)))))))
 refine AF E SM (AG 0 RY E (J E ?_))
 refine AZ 2 hx2 E F8 Is E E E fun g2 m3 cp2 hv2=>?_
 refine Aq E H9 E (AS (sz:=1) (enc:=eS) 1 0 zV E hv2 hx2 E) ?_
 refine AZ 1 hx3 E F8 Is E E E fun g3 m4 cp3 hv3=>?_
 refine A4 ?_
 refine BB (sz:=1) (enc:=eS) 1 hl1 zV rfl rfl rfl rfl rfl hv3 Is (by first | (simp[Value.oneCell'];done) | simp[eS,Value.oneCell']) trivial ?_
 refine U (AJ ?_)
 refine AB h fun x4 hx4 h=>?_
 refine AB h fun l2 hl2 h=>?_
 refine J E (AV E E (AF E SM (AG 0 RY E (J E ?_))))
 refine AZ 2 hx4 E F8 Is E E E fun g4 m5 cp4 hv4=>?_
 refine BB (sz:=1) (enc:=eS) 2 hl2 zV rfl rfl rfl rfl rfl hv4 Is (by first | (simp[Value.oneCell'];done) | simp[eS,Value.oneCell']) trivial ?_
 refine AT (Ao ?_)
 exact Ak ({ o2 with blk:=l1,pnd:=l2 }) h tL (A5 [0,1,2,3] 4 rfl rfl rfl)
 refine AH (Ao ?_)
 exact Ak o2 h tL (A5 [0,1,2,3] 4 E E E)
 unfold FQ at h
 try dsimp only
 refine AJ ?_
 obtain⟨i_1,ei_1,h⟩:=BG h
 refine J E (V E Aw ?_)
 refine AX (u:=vI i_1) E E (congrArg vI ei_1) ?_
 refine AT ?_
 exact Am (m1,o3,i_1) h (Nat.lt_succ_self _) tL (A5 [0,1,2,3] 4 E E E)
 refine Av (Ay (BP (A0 ?_)))
 exact Ak o2 h tL (A5 [0,1,2,3] 4 E E E)
 unfold JY at h
 try dsimp only
 refine Y (J E (O E (U (AM ?_))))
 obtain rfl:=zI h
 exact AW [0,1,2,3] 4 E E E
def Kq(n:Nat)(p0:List Bf):Option (UInt32×Int):=
 (If n p0).bind fun y1=>
 cond (!y1)
 (
  some (0,40))
 (
  cond (decide ((p0.length:Int)=0))
  (
   some (0,41))
  (
   (A1 p0 (wI ((p0.length:Int)-1))).bind fun x1=>
   some (x1.gen,0)))
theorem Yh{n:Nat}{BW:Value}{p0:List Bf}{r:UInt32×Int}(h:Kq n p0=some r)(hs0_:CR K w0 Ad 2 BW p0):zC K w0 56 [BW] [] H (fun u M=>u=.tuple #[AC r.1,vI r.2]∧M=[]):=by
 unfold Kq at h
 refine Vf.enter Tryz.func56 rfl rfl ?_
 refine Y (O E (O E (U (Y ?_))))
 refine AB h fun y1 hy1 h=>?_
 refine J E (AN 0 jB (Qg hy1 hs0_) E (O E (U (AE (Y (J E (CO E E (U ?_))))))))
 refine AL h E (fun hc1 h=>?_) fun hc1 h=>?_
 refine Y (O E (O E (U (AM (Ag ?_)))))
 obtain rfl:=zI h
 exact AW [] 0 E E E
 refine AH (AI (AE (Y (J E (CW hs0_ E IF E (V E Bv (U ?_)))))))
 refine AL h E (fun hc2 h=>?_) fun hc2 h=>?_
 refine Y (O E (O E (U (AM (Ag ?_)))))
 obtain rfl:=zI h
 exact AW [] 0 E E E
 refine AH (AI (Y ?_))
 refine AB h fun x1 hx1 h=>?_
 refine J E (J E (CW hs0_ E IF E (V E BC ?_)))
 refine EL hx1 hs0_ E IF It E E fun be1 of1 hc3=>?_
 refine AF E Iq ?_
 refine Aq E Ah E (E1 (j:=0) hc3 E) ?_
 refine O E (O E (U (AM ?_)))
 obtain rfl:=zI h
 exact AW [] 0 E E E
def JP(n:Nat)(T:List UInt32)(p0:Bt)(p0_1:BM)(p1:UInt32)(p2:List UInt8):Option (List UInt8×Int×Bt×BM):=
 cond (decide (1<p1))
 (
  some ([],2,p0,p0_1))
 (
  cond (decide (198<(p2.length:Int)))
  (
   some ([],50,p0,p0_1))
  (
   (Gc n T p0 p0_1 p1 p2).bind fun y1=>
   some (y1.1,y1.2.1,y1.2.2.1,y1.2.2.2)))
theorem Pb{n A7 Bb:Nat}{T:List UInt32}{Aj Bs FM Bu FN:Value}{p0:Bt}{p0_1:BM}{p1:UInt32}{p2:List UInt8}{r:List UInt8×Int×Bt×BM}(h:JP n T p0 p0_1 p1 p2=some r)(hT:Kl K w0 2 64 T):zC K w0 130 [vP A7 0,AC p1,vS p2] [wO A7 Bb Aj Bs p0,AD 55 2 Aj Ad p0.ring,AD 4 1 Bs eB p0.taken,eO Bb FM Bu FN p0_1,AD 9 1 FM eS p0_1.blk,AD 9 1 Bu eS p0_1.pnd,AD 4 1 FN eB p0_1.bads] H (fun u M=>u=.tuple #[vS r.1,vI r.2.1]∧M=[wO A7 Bb Aj Bs r.2.2.1,AD 55 2 Aj Ad r.2.2.1.ring,AD 4 1 Bs eB r.2.2.1.taken,eO Bb FM Bu FN r.2.2.2,AD 9 1 FM eS r.2.2.2.blk,AD 9 1 Bu eS r.2.2.2.pnd,AD 4 1 FN eB r.2.2.2.bads]):=by
 unfold JP at h
 refine Vf.enter Tryz.func130 rfl rfl ?_
 refine Y (O E (O E (U (AE (Y (J E ?_))))))
 refine V E (Un (b:=1)) ?_
 refine U ?_
 refine AL h E (fun hc1 h=>?_) fun hc1 h=>?_
 refine Y (O E (O E (U (AM (Ag ?_)))))
 obtain rfl:=zI h
 exact AW [0,1,2,3,4,5,6] 7 E E E
 refine AH (AI (AE (Y (J E (CI E De E (V E C8 (U ?_)))))))
 refine AL h E (fun hc2 h=>?_) fun hc2 h=>?_
 refine Y (O E (O E (U (AM (Ag ?_)))))
 obtain rfl:=zI h
 exact AW [0,1,2,3,4,5,6] 7 E E E
 refine AH (AI (Y ?_))
 refine AB h fun y1 hy1 h=>?_
 refine J E (J E (J E (AN 7 kh (Pc hy1 hT) E (Ap E E E (Ap E E E (O E (O E (U (AM ?_)))))))))
 obtain rfl:=zI h
 exact AW [0,1,2,3,4,5,6] 7 E E E
def Ii(p0:GI):Option Bool:=
 (Hd (⟨p0.page,p0.tag⟩:Bo)).bind fun y1=>
 ret ((((decide (0<p0.cnt))&&(decide (0<p0.gen)))&&(decide (p0.rows≤1000)))&&y1) fun x1=>
 some x1
theorem T9{p0:GI}{r:Bool}(h:Ii p0=some r): zC K w0 161 [.agg (JC p0).toArray] [] H (fun u M=>u=vB r∧M=[]):=by
 unfold Ii at h
 refine Vf.enter Tryz.func161 rfl rfl ?_
 refine Y ?_
 refine Bw E E zU fun b1=>?_
 refine O E (U (Y ?_))
 refine AB h fun y1 hy1 h=>?_
 refine AF rfl SO (BA [AC p0.page,vS p0.tag] rfl EZ rfl rfl (Dy 0 rfl (by rintro(_ | (_ | j)) u hj<;>first | exact hj | exact absurd hj zS)) (AN 0 de ((OG hy1 :)) rfl (O rfl (U (Y ?_)))))
 obtain⟨x1,ex1,h⟩:=BG h
 refine AF E NF (AG 0 Il E ?_)
 refine V E (O0 (b:=0)) ?_
 refine J E ?_
 refine DT (c:=decide (0<p0.gen)) 10 4 14 E (fun hb k=>?_) (fun hb k=>?_) ?_
 refine AF E W3 (AG 0 Ah E ?_)
 refine V E (Un (b:=0)) ?_
 refine An E E E ?_
 exact k.mono tL
 refine AA E (AA E (AA E (An E E E ?_)))
 exact k.mono tL
 refine J E ?_
 refine DT (c:=decide (p0.rows≤1000)) 15 4 19 E (fun hb k=>?_) (fun hb k=>?_) ?_
 refine AF E W4 (AG 0 Ah E ?_)
 refine V E (O1 (b:=1000)) ?_
 refine An E E E ?_
 exact k.mono tL
 refine AA E (AA E (AA E (An E E E ?_)))
 exact k.mono tL
 refine J E ?_
 refine DT (c:=y1) 20 2 22 E (fun hb k=>?_) (fun hb k=>?_) ?_
 refine J E (An E E E ?_)
 exact k.mono tL
 refine AA E (An E E E ?_)
 exact k.mono tL
 refine AX (u:=vB x1) E E (congrArg vB ex1) ?_
 refine U (AM ?_)
 obtain rfl:=zI h
 exact AW [] 1 E E E
def Pu(a1:List UInt8):Option (List UInt8):=
 some a1
def Oa(p1:Int)(nx_f_ref15_put_l1:UInt64×List UInt8×Int→Option (List UInt8))(a2:UInt64)(a3:List UInt8)(a4:Int):Option (List UInt8):=
 cond (decide (a4<p1))
 (
  (Fp a3 [a2.toUInt8]).bind fun s1=>
  (TF a2 256).bind fun q1=>
  ret (wI (a4+1)) fun i_1=>
  nx_f_ref15_put_l1 (q1,s1,i_1))
 (
  Pu a3)
def Pv(p1:Int):Nat→(UInt64×List UInt8×Int)→Option (List UInt8):=CH fun nx x=>Oa p1 nx x.1 x.2.1 x.2.2
def JQ(n:Nat)(p0:UInt64)(p1:Int):Option (List UInt8):=
 Pv p1 n (p0,[],0)
theorem QC{n:Nat}{p0:UInt64}{p1:Int}{r:List UInt8}(h:JQ n p0 p1=some r): zC K w0 162 [Bh p0,vI p1] [] H (fun u M=>u=vS r∧M=[]):=by
 unfold JQ at h
 refine Vf.enter Tryz.func162 rfl rfl ?_
 refine Y (O E (U (Y (O E (U ?_)))))
 refine Az (α:=List UInt8) (fun x=>Pu x=some r) (fun x=>[(5,vS x)]) (fun x=>H) ?_ (fun a1 D h=>?_)
 refine Y (O E (U (AK ?_)))
 refine SX.heap (SX.mono (A9 (α:=Nat×UInt64×List UInt8×Int) (fun x=>Pv p1 x.1 (x.2.1,x.2.2.1,x.2.2.2)=some r) (fun x=>[(0,Bh x.2.1),(1,vI p1),(5,vS x.2.2.1),(6,vI x.2.2.2)]) (fun x=>H) (fun x=>x.1) (fun x D h=>?_) (n,p0,[],0) h) tL) (A5 [] 0 E E E)
 obtain⟨m1,a2,a3,a4⟩:=x
 dsimp only at h
 rcases m1 with _ | m1
 cases (show(none:Option _)=some r from h)
 replace h:Oa p1 (Pv p1 m1) a2 a3 a4=some r:=h
 unfold Oa at h
 try dsimp only
 refine AE (Y (J E (J E (V E BL (U ?_)))))
 refine AL h E (fun hc1 h=>?_) fun hc1 h=>?_
 refine AH (AI (AE (AK (Y ?_))))
 refine AB h fun s1 hs1 h=>?_
 refine J E (J E (BZ E E (Gt En Ej) ?_))
 refine Ck [_] rfl DO LM MF ⟨rfl,trivial⟩ rfl rfl rfl zW rfl rfl zU fun b1=>?_
 refine Cp G7 1 ([a2.toUInt8]:List UInt8) E zV E ?_
 refine IQ 0 E DO Ej De E E (V E (C3 hs1) (O E (U (AJ ?_))))
 refine AB h fun q1 hq1 h=>?_
 refine J E ?_
 refine V E (RD (b:=256) hq1) ?_
 refine O E (AT (Ao (AI (AJ ?_))))
 obtain⟨i_1,ei_1,h⟩:=BG h
 refine J E (V E Aw ?_)
 refine AX (u:=vI i_1) E E (congrArg vI ei_1) ?_
 refine AT ?_
 exact Am (m1,q1,s1,i_1) h (Nat.lt_succ_self _) tL (A5 [] 1 E E E)
 refine Av (Ay (BP (A0 ?_)))
 exact Ak a3 h tL (A5 [] 0 E E E)
 unfold Pu at h
 try dsimp only
 refine Y (J E (O E (U (AM ?_))))
 obtain rfl:=zI h
 exact AW [] 0 E E E
def Ks(n:Nat)(p0:GI):Option (List UInt8×Int):=
 (Ii p0).bind fun y1=>
 cond (!y1)
 (
  some ([],120))
 (
  (JQ n p0.cnt 8).bind fun y2=>
  (Fp [115,112,104,114] y2).bind fun s1=>
  (JQ n p0.gen.toUInt64 4).bind fun y3=>
  (Fp s1 y3).bind fun s2=>
  (JQ n p0.rows.toUInt64 4).bind fun y4=>
  (Fp s2 y4).bind fun s3=>
  (JQ n p0.page.toUInt64 4).bind fun y5=>
  (Fp s3 y5).bind fun s4=>
  (Fp s4 p0.tag).bind fun s5=>
  some (s5,0))
theorem TT{n:Nat}{p0:GI}{r:List UInt8×Int}(h:Ks n p0=some r): zC K w0 129 [.agg (JC p0).toArray] [] H (fun u M=>u=.tuple #[vS r.1,vI r.2]∧M=[]):=by
 unfold Ks at h
 refine Vf.enter Tryz.func129 rfl rfl ?_
 refine Y ?_
 refine Bw E E zU fun b1=>?_
 refine O E (O E (U (Y ?_)))
 refine AB h fun y1 hy1 h=>?_
 refine BA [Bh p0.cnt,AC p0.gen,AC p0.rows,AC p0.page,vS p0.tag] E KM E E (A2 0 E) (AN 0 kg ((T9 hy1 :)) E (O E (U (AE (Y (J E (CO E E (U ?_))))))))
 refine AL h E (fun hc1 h=>?_) fun hc1 h=>?_
 refine Y (O E (O E (U (AM (Ag ?_)))))
 obtain rfl:=zI h
 exact AW [] 1 E E E
 refine AH (AI (AE ?_))
 refine AB h fun y2 hy2 h=>?_
 refine AB h fun s1 hs1 h=>?_
 refine AB h fun y3 hy3 h=>?_
 refine AB h fun s2 hs2 h=>?_
 refine AB h fun y4 hy4 h=>?_
 refine AB h fun s3 hs3 h=>?_
 refine AB h fun y5 hy5 h=>?_
 refine AB h fun s4 hs4 h=>?_
 refine AB h fun s5 hs5 h=>?_
 refine Ai C2 [0] (BJ [(true,0),(true,1),(true,4),(true,5),(true,6),(true,9),(true,10),(true,11),(true,14),(true,15),(true,16),(true,17),(true,20),(true,21),(true,22),(false,2),(true,3),(false,7),(true,8),(false,12),(true,13),(false,18),(false,19)] (.last 23 (C0 [(false,24),(false,25)]))) zK (AF E NF (AG 0 Il E (AF E W3 (AG 0 Ah E (BZ E E (D9 C6 En) (AF E W4 (AG 0 Ah E ?_)))))))
 refine BZ E E (D9 C6 En) (AF E SO (AF E HB (AG 0 Ah E (BZ E E (D9 C6 En) (AF E SO (AF E Og (AG 0 H9 E ?_)))))))
 refine BT 0 Yx (QC hy2) E ⟨⟨0,E⟩,zT⟩ (V E (C3 hs1) (BT 0 Yx (QC hy3) E ⟨⟨0,E⟩,zT⟩ (V E (C3 hs2) (BT 0 Yx (QC hy4) E ⟨⟨0,E⟩,zT⟩ (V E (C3 hs3) (BT 0 Yx (QC hy5) E ⟨⟨0,E⟩,zT⟩ (V E (C3 hs4) (A4 ?_))))))))
 refine V E (C3 hs5) (O E (O E (U (AM ?_))))
 obtain rfl:=zI h
 exact AW [] 1 E E E
def NB(p0:UInt64)(p1:UInt32)(p2:Int)(p3:Bo):Option (GI×Int):=
 cond (decide (p0=18446744073709551615))
 (
  some ((⟨0,0,0,0,[]⟩:GI),72))
 (
  cond ((decide (p2<0))||(decide (1000<p2)))
  (
   some ((⟨0,0,0,0,[]⟩:GI),120))
  (
   (Ii (⟨p0+1,p1,GW p2,p3.page,p3.tag⟩:GI)).bind fun y1=>
   cond (!y1)
   (
    some ((⟨0,0,0,0,[]⟩:GI),120))
   (
    some ((⟨p0+1,p1,GW p2,p3.page,p3.tag⟩:GI),0))))
theorem VP{p0:UInt64}{p1:UInt32}{p2:Int}{p3:Bo}{r:GI×Int}(h:NB p0 p1 p2 p3=some r): zC K w0 128 [Bh p0,AC p1,vI p2,.agg (CP p3).toArray] [] H (fun u M=>u=.tuple #[.agg (JC r.1).toArray,vI r.2]∧M=[]):=by
 unfold NB at h
 refine Vf.enter Tryz.func128 rfl rfl ?_
 refine Y ?_
 refine Bw E E zU fun b1=>?_
 refine A6 E Mx zU fun b2=>?_
 refine O E (U (AE (Y (J E ?_))))
 refine V E (K7 (b:=18446744073709551615)) ?_
 refine U ?_
 refine AL h E (fun hc1 h=>?_) fun hc1 h=>?_
 refine Y (Cf [] E V7 V6 Mx zT E (BN 0 E E E E Om E E E zT (O E (U (AM (Ag ?_))))))
 obtain rfl:=zI h
 exact Ax (Fi E (Cj 0 (JC (⟨0,0,0,0,[]⟩:GI)) KM E E E E) E) (As (M:=[]) ⟨E,E⟩ fun _ hw=>Br.pick (H:=[_,_]) hw [] 2 E)
 refine AH (AI (AE (Y (J E (V E BL (J E ?_))))))
 refine GR (c:=decide (1000<p2)) 17 3 20 E (fun hb k=>?_) (fun hb k=>?_) ?_
 refine AA E (AA E (An E E E ?_))
 exact k.mono tL
 refine J E (V E C8 (An E E E ?_))
 exact k.mono tL
 refine U ?_
 refine AL h E (fun hc2 h=>?_) fun hc2 h=>?_
 refine Y (Cf [] E V7 V6 Mx zT E (BN 0 E E E E Om E E E zT (O E (U (AM (Ag ?_))))))
 obtain rfl:=zI h
 exact Ax (Fi E (Cj 0 (JC (⟨0,0,0,0,[]⟩:GI)) KM E E E E) E) (As (M:=[]) ⟨E,E⟩ fun _ hw=>Br.pick (H:=[_,_]) hw [] 2 E)
 refine AH (AI (Y (J E ?_)))
 refine V E (JU (b:=1)) ?_
 refine J E (J E (BZ E E (Rx Jh C6) (BA [AC p3.page,vS p3.tag] E EZ E E (A2 1 E) (Cf [_,_,_,_] E V7 V6 Mx ⟨E,E,E,E,zT⟩ E ?_))))
 refine A6 E Mx zU fun b3=>?_
 refine BN 0 E E E E Om E E E zT (U (Y ?_))
 refine AB h fun y1 hy1 h=>?_
 refine BA [Bh (p0+1),AC p1,AC (GW p2),AC p3.page,vS p3.tag] E KM E E (A2 0 E) (AN 0 kg ((T9 hy1 :)) E (O E (U (AE (Y (J E (CO E E (U ?_))))))))
 refine AL h E (fun hc3 h=>?_) fun hc3 h=>?_
 refine Y (Cf [] E V7 V6 Mx zT E (BN 1 E E E E Om E E E zT (O E (U (AM (Ag ?_))))))
 obtain rfl:=zI h
 exact Ax (Fi E (Cj 1 (JC (⟨0,0,0,0,[]⟩:GI)) KM E E E E) E) (As (M:=[]) ⟨E,E⟩ fun _ hw=>Br.pick (H:=[_,_,_]) hw [] 3 E)
 refine AH (AI (Y (BA [Bh (p0+1),AC p1,AC (GW p2),AC p3.page,vS p3.tag] E KM E E (A2 0 E) (BN 1 E E E E Om E E E zT (O E (U (AM ?_)))))))
 obtain rfl:=zI h
 exact Ax (Fi E (Cj 1 (JC (⟨p0+1,p1,GW p2,p3.page,p3.tag⟩:GI)) KM E E E E) E) (As (M:=[]) ⟨E,E⟩ fun _ hw=>Br.pick (H:=[_,_,_]) hw [] 3 E)
end

section
variable {K:Nat→Prop}{w0:World}{H:List Ab}
def eK(l:List (List UInt8))(s:List UInt8):Option (List UInt8):=if s=[]∧2≤l.length∧l.length≤1000000∧0<l.flatten.length∧l.flatten.length≤1000000 then some l.flatten else none
theorem Sx{l:List (List UInt8)}{i:Nat}{x:List UInt8}(h:l[i]? = some x):(l.take (i+1)).flatten=(l.take i).flatten++x:=by
 obtain⟨hlt,hg⟩:=List.getElem?_eq_some_iff.1 h
 rw[←List.take_append_getElem hlt,hg]
 simp
theorem Vv(l:List (List UInt8))(i:Nat):(l.take i).flatten.length≤l.flatten.length:=by
 have:l.flatten=(l.take i).flatten++(l.drop i).flatten:=by rw[←List.flatten_append,List.take_append_drop]
 rw[this,List.length_append]
 omega
theorem uV{v0:Value}{l:List (List UInt8)}{s r:List UInt8}(h:eK l s=some r)(hs0:CR K w0 eS 1 v0 l):zC K w0 209 [v0,vS s] [] H (fun u M=>u=vS r∧M=[]):=by
 unfold eK at h
 split at h
 rotate_left
 cases h
 rename_i hl
 obtain⟨rfl,h2,h3,h0,h4⟩:=hl
 obtain rfl:=zI h
 refine Vf.enter Tryz.func209 rfl rfl ?_
 refine Y (O E (U (AE (Y (J E (CW hs0 E F8 E (U (AK (Y (V E Bv (O E (U ?_))))))))))))
 refine BH E (fun hc1=>absurd (of_decide_eq_true hc1) zO) (fun _=>?_)
 refine Y (V E Bv (O E (U ?_)))
 refine BH E (fun hc1=>absurd (of_decide_eq_true hc1) zO) (fun _=>?_)
 refine AH (Ao (AI (Y (O E (U (AE (Y (J E (CI E De E (V E C8 (U ?_)))))))))))
 refine BH E (fun hc1=>absurd hc1 zD) (fun _=>?_)
 refine AH (AI (AE (Y (J E (CW hs0 E F8 E (J E (U (AK ?_))))))))
 refine SX.mono (A9 (α:=Nat) (fun i=>i≤l.length) (fun i=>[(0,v0),(1,vS []),(4,vS []),(5,vI ((l.take i).flatten.length:Nat)),(39,v0),(40,vI (l.length:Int)),(41,vI i)]) (fun _=>H) (fun i=>l.length-i) (fun i D hp=>?_) 0 (Nat.zero_le _)) tL
 refine Y (V E BL (U (AE ?_)))
 refine BH E (fun hc1=>?_) (fun hc1=>?_)
 have hlt:i<l.length:=by
  have:=of_decide_eq_true hc1
  omega
 obtain⟨x,hx⟩:∃x,l[i]? = some x:=⟨_,List.getElem?_eq_getElem hlt⟩
 have hn:A1 l (i:Int)=some x:=by rw[Fv];exact hx
 have hf:=Sx hx
 have hfl:=Vv l (i+1)
 rw[hf,List.length_append]at hfl
 refine AH (AI (AE (AK (Y ?_))))
 refine EL hn hs0 E F8 Is E E fun be of hc=>?_
 refine Aq E H9 E (E1 (j:=0) hc E) ?_
 refine O E (U (AE (Y (J E (CI E De E (J E (V E (FZ zO zO) (V E C8 (U ?_)))))))))
 refine BH E (fun hc1=>absurd (of_decide_eq_true hc1) zO) (fun _=>?_)
 refine AH (AI (AJ (J E (J E (CI E De E (V E (B2 zO zO) ?_))))))
 refine AX (u:=vI ((l.take (i+1)).flatten.length:Nat)) E E (congrArg vI (by rw[hf,List.length_append];rfl)) ?_
 refine AT (Ao (AI (AJ (V E (B2 zO zO) (J E (AT ?_))))))
 exact Am (i+1) zO zO tL (fun _ hw=>hw)
 have hi:i=l.length:=by
  have:=of_decide_eq_false hc1
  omega
 subst hi
 rw[List.take_length]
 refine Av (Ay (BP (A0 (AI (Y ?_)))))
 refine A6 E bA zU fun b0=>?_
 refine U (Y (J E (Bi 1 ou (f8 b0 _ _ (.inl E) h0 zO) E ?_)))
 rintro _ _ ⟨rfl,v1,rfl⟩
 refine U ?_
 have hn0:A1 l 0=some (l[0]' zO):=by
  have:=Fv (l:=l) (i:=0)
  rw[List.getElem?_eq_getElem zO]at this
  exact this
 have hf0:(l.take (0+1)).flatten=l[0]' zO:=by
  have:=Sx (List.getElem?_eq_getElem (l:=l) (i:=0) zO)
  simpa using this
 have hfl0:=Vv l (0+1)
 rw[hf0]at hfl0
 refine Y (J E ?_)
 refine EL hn0 hs0 E F8 Is E E fun be of hc=>?_
 refine Aq E H9 E (E1 (j:=0) hc E) ?_
 refine Bi 2 UF (IU 161 b0 _ v1 0 [] _ (.inr E) S5 zO) E ?_
 rintro _ _ ⟨rfl,v2,rfl⟩
 refine U ?_
 have hcut:KK l 1 (l.length:Int)=some (l.drop 1):=by
  unfold KK
  rw[if_pos zO]
  congr 1
  exact List.take_of_length_le zS
 refine AE (Y (J E ?_))
 refine fx hcut hs0 E F8 Is E E fun v3 hs3=>?_
 refine CW hs3 E F8 E (J E (U (AK ?_)))
 refine SX.heap (SX.mono (A9 (α:=Nat×Value) (fun x=>x.1+1≤l.length) (fun x=>[(1,vS []),(4,vS []),(8,vP b0 0),(63,v3),(64,vI ((l.drop 1).length:Int)),(65,vI x.1)])
  (fun x=>own b0 (.cells #[vP b0 0,x.2] 161)::Ew 5 1 x.2 (l.take (x.1+1)).flatten.length ((l.take (x.1+1)).flatten.map fun b=>Fo b)::H) (fun x=>l.length-x.1) (fun x D hp=>?_) (0,v2) (by dsimp only;omega)) tL) (fun _ hw=>by
   dsimp only
   rw[hf0]
   simpa using hw)
 obtain⟨i,v⟩:=x
 dsimp only at hp ⊢
 refine Y (V E BL (U (AE ?_)))
 refine BH E (fun hc1=>?_) (fun hc1=>?_)
 have hlt:i+1<l.length:=by
  have:=of_decide_eq_true hc1
  rw[List.length_drop]at this
  omega
 obtain⟨x,hx⟩:∃x,l[i+1]? = some x:=⟨_,List.getElem?_eq_getElem hlt⟩
 have hn:A1 (l.drop 1) (i:Int)=some x:=by rw[Fv,List.getElem?_drop,Nat.add_comm];exact hx
 have hf:=Sx hx
 have hfl:=Vv l (i+1+1)
 rw[hf,List.length_append]at hfl
 refine AH (AI (AE (AK (Y ?_))))
 refine EL hn hs3 E F8 Is E E fun be of hc=>?_
 refine Aq E H9 E (E1 (j:=0) hc E) ?_
 refine O E (U (Y (J E (Bi 2 UF (IU 161 b0 _ v _ _ [] (.inr E) S5 (by simp only[List.length_nil];omega)) E ?_))))
 rintro _ _ ⟨rfl,v4,rfl⟩
 refine U (AJ (J E (Bi 2 UF (IU 161 b0 _ v4 _ _ x (.inr E) S5 (by simp only[List.length_nil];omega)) E ?_)))
 rintro _ _ ⟨rfl,v5,rfl⟩
 refine AT (Ao (AI (AJ (V E (B2 zO zO) (J E (AT ?_))))))
 exact Am (i+1,v5) (by dsimp only;omega) (by dsimp only;omega) tL (fun _ hw=>by
  dsimp only
  rw[hf]
  simpa using hw)
 have hi:i+1=l.length:=by
  have:=of_decide_eq_false hc1
  rw[List.length_drop]at this
  omega
 rw[hi,List.take_length]
 refine Av (Ay (BP (A0 (AI (Y (AN 2 Rg (LA 161 b0 _ v _ l.flatten zO) E (O E (U (AM ?_)))))))))
 exact Ax (D7 E E) (As (M:=[]) ⟨E,E⟩ fun _ h=>h.skip [_,_])
end

section
variable {K:Nat→Prop}{w0:World}{H:List Ab}
def XA(l:List Bf):Option (List Bf):=Eh 24 [] l
theorem nb{v:Value}{l r:List Bf}(h:XA l=some r)(hs:CR K w0 Ad 2 v l):zC K w0 82 [v] [] H (fun u M=>∃v0:Value,u=v0∧M=[AD 55 2 v0 Ad r]):=by
 unfold XA at h
 have hn:(v=.slice none 0 0∧l=[])∨∃a n c,v=.slice (some a) n c:=by
  rcases hs.at_ with⟨a,rfl,e⟩ | ⟨b,off,cap,rfl,_⟩
  cases a with
  | none=>exact .inl ⟨rfl,e⟩
  | some a=>exact .inr ⟨_,_,_,rfl⟩
  exact .inr ⟨_,_,_,rfl⟩
 refine Vf.enter Tryz.func82 rfl rfl ?_
 refine Y (O E (U ?_))
 rcases hn with⟨rfl,rfl⟩ | ⟨a,n,c,rfl⟩
 refine AE (Y (J E (WS E IF E E (U (R8 E (Y (O E (U (AM (Ag (QY 55 2 Ad ?_)))))))))))
 obtain rfl:r=[]:=by
  rw[Eh,if_pos zS]at h
  simpa using h.symm
 exact CC [0] 1 (D7 E E) E E ⟨_,E,E⟩
 refine AE (Y (J E (WS E IF E E (U (EO E (AH (AI (Y ?_))))))))
 refine ZD E IF It zU fun b1=>?_
 refine Cp Ad 2 ([]:List Bf) E zV E ?_
 refine J E ?_
 refine Tp 0 h hs (sz:=2) (enc:=Ad) zV E IF It oT Ox E zD E E E (by simp[Ad,Value.oneCell']) zU fun v1=>?_
 refine O E (U (AM ?_))
 exact CC [0] 1 (D7 E E) E E ⟨_,E,E⟩
def XI(l:List Bf):Option Bool:=if l.length≤1099511627776 then some (E7 l)else none
theorem nc{v:Value}{l:List Bf}{r:Bool}(h:XI l=some r)(hk:CR K w0 Ad 2 v l):zC K w0 79 [v] [] H (fun u M=>u=vB r∧M=[]):=by
 unfold XI at h
 split at h
 rename_i hl
 obtain rfl:=zI h
 exact Rc v l hk hk.cells1 hl
 cases h
end

section
variable {K:Nat→Prop}{w0:World}{H:List Ab}
def Jq(p0:List Bf):Option (UInt32×Int):=
 (XI p0).bind fun y1=>
 ret (!y1) fun x1=>
 cond x1
 (
  some (0,40))
 (
  ret (decide ((p0.length:Int)=0)) fun x2=>
  cond x2
  (
   some (0,41))
  (
   (A1 p0 (wI ((p0.length:Int)-1))).bind fun x3=>
   some (x3.gen,0)))
theorem T3{BW:Value}{p0:List Bf}{r:UInt32×Int}(h:Jq p0=some r)(hs0_:CR K w0 Ad 2 BW p0):zC K w0 52 [BW] [] H (fun u M=>u=.tuple #[AC r.1,vI r.2]∧M=[]):=by
 unfold Jq at h
 refine Vf.enter Tryz.func52 rfl rfl ?_
 refine Y (O E (O E (U (AE (AK (Y ?_))))))
 refine AB h fun y1 hy1 h=>?_
 obtain⟨x1,ex1,h⟩:=BG h
 refine J E (AN 0 jA (nc hy1 hs0_) E (CO E E ?_))
 refine AX (u:=vB x1) E E (congrArg vB ex1) ?_
 refine U ?_
 refine AL h E (fun hc1 h=>?_) fun hc1 h=>?_
 refine Y (O E (O E (U (AM (BO (Ag ?_))))))
 obtain rfl:=zI h
 exact AW [] 0 E E E
 refine Y ?_
 obtain⟨x2,ex2,h⟩:=BG h
 refine J E (CW hs0_ E IF E (V E Bv ?_))
 refine AX (u:=vB x2) E E (congrArg vB ex2) ?_
 refine U ?_
 refine AL h E (fun hc2 h=>?_) fun hc2 h=>?_
 refine Y (O E (O E (U (AM (BO (Ag ?_))))))
 obtain rfl:=zI h
 exact AW [] 0 E E E
 refine AH (Ao (AI (Y ?_)))
 refine AB h fun x3 hx3 h=>?_
 refine J E (J E (CW hs0_ E IF E (V E BC ?_)))
 refine EL hx3 hs0_ E IF It E E fun be1 of1 hc3=>?_
 refine AF E Iq ?_
 refine Aq E Ah E (E1 (j:=0) hc3 E) ?_
 refine O E (O E (U (AM ?_)))
 obtain rfl:=zI h
 exact AW [] 0 E E E
def LG(p0:GI):Option Bool:=
 (E3 (((decide (0<p0.cnt))&&(decide (0<p0.gen)))&&(decide (p0.rows≤1000))) ((FS (⟨p0.page,p0.tag⟩:Bo)).bind fun y1=>some (y1))).bind fun y2=>
 some y2
theorem VQ{p0:GI}{r:Bool}(h:LG p0=some r): zC K w0 157 [.agg (JC p0).toArray] [] H (fun u M=>u=vB r∧M=[]):=by
 unfold LG at h
 refine Vf.enter Tryz.func157 rfl rfl ?_
 refine Y ?_
 refine Bw E E zU fun b1=>?_
 refine O E (U (Y ?_))
 refine AB h fun y2 hy2 h=>?_
 refine AF E NF (AG 0 Il E ?_)
 refine V E (O0 (b:=0)) ?_
 refine J E ?_
 refine DT (c:=decide (0<p0.gen)) 6 4 10 E (fun hb k=>?_) (fun hb k=>?_) ?_
 refine AF E W3 (AG 0 Ah E ?_)
 refine V E (Un (b:=0)) ?_
 refine An E E E ?_
 exact k.mono tL
 refine AA E (AA E (AA E (An E E E ?_)))
 exact k.mono tL
 refine J E ?_
 refine DT (c:=decide (p0.rows≤1000)) 11 4 15 E (fun hb k=>?_) (fun hb k=>?_) ?_
 refine AF E W4 (AG 0 Ah E ?_)
 refine V E (O1 (b:=1000)) ?_
 refine An E E E ?_
 exact k.mono tL
 refine AA E (AA E (AA E (An E E E ?_)))
 exact k.mono tL
 refine J E ?_
 refine Du 16 4 20 hy2 E (fun hb hg3 k=>?_) (fun hb k=>?_) ?_
 obtain⟨y1,hy1,hg3⟩:=Da hg3
 obtain rfl:=zI hg3
 refine AF rfl SO (BA [AC p0.page,vS p0.tag] rfl EZ rfl rfl (Dy 0 rfl (by rintro(_ | (_ | j)) u hj<;>first | exact hj | exact absurd hj zS)) (AN 0 dd ((O7 hy1 :)) rfl (An rfl rfl rfl ?_)))
 exact k.mono tL
 refine AA E (AA E (AA E (An E E E ?_)))
 exact k.mono tL
 refine O E (U (AM ?_))
 obtain rfl:=zI h
 exact AW [] 1 E E E
def PD(l1:List UInt8):Option (List UInt8):=
 some l1
def Nt(p0:UInt64)(p1:Int)(nx_f_root_bytes_l1:List UInt8×Int→Option (List UInt8))(l2:List UInt8)(a1:Int):Option (List UInt8):=
 cond (decide (a1<p1))
 (
  (Q6 (wI (8*a1))).bind fun n1=>
  (Eh 1 l2 [(shr64 p0 n1).toUInt8]).bind fun l3=>
  nx_f_root_bytes_l1 (l3,wI (a1+1)))
 (
  PD l2)
def PE(p0:UInt64)(p1:Int):Nat→(List UInt8×Int)→Option (List UInt8):=CH fun nx x=>Nt p0 p1 nx x.1 x.2
def IC(n:Nat)(p0:UInt64)(p1:Int):Option (List UInt8):=
 PE p0 p1 n ([],0)
theorem PP{n:Nat}{p0:UInt64}{p1:Int}{r:List UInt8}(h:IC n p0 p1=some r): zC K w0 181 [Bh p0,vI p1] [] H (fun u M=>u=vS r∧M=[]):=by
 unfold IC at h
 refine Vf.enter Tryz.func181 rfl rfl ?_
 refine Y (O E (U (Y (Ci 5 1 G7 (O E (U ?_))))))
 refine Az (α:=List UInt8×Value) (fun x=>PD x.1=some r) (fun x=>[(5,x.2)]) (fun x=>AD 5 1 x.2 G7 x.1::H) ?_ (fun x D h=>?_)
 refine Y (J E (J E (U (AK ?_))))
 refine SX.heap (SX.mono (A9 (α:=Nat×List UInt8×Value×Int) (fun x=>PE p0 p1 x.1 (x.2.1,x.2.2.2)=some r) (fun x=>[(0,Bh p0),(5,x.2.2.1),(7,vI p1),(8,vI x.2.2.2)]) (fun x=>AD 5 1 x.2.2.1 G7 x.2.1::H) (fun x=>x.1) (fun x D h=>?_) (n,[],zN,0) h) tL) (A5 [0] 1 E E E)
 obtain⟨m1,l2,v2,a1⟩:=x
 dsimp only at h
 rcases m1 with _ | m1
 cases (show(none:Option _)=some r from h)
 replace h:Nt p0 p1 (PE p0 p1 m1) l2 a1=some r:=h
 unfold Nt at h
 try dsimp only
 refine Y (V E BL (U (AE ?_)))
 refine AL h E (fun hc1 h=>?_) fun hc1 h=>?_
 refine AH (AI (AE (AK (Y (J E (O E (U (AJ ?_))))))))
 refine AB h fun n1 hn1 h=>?_
 refine AB h fun l3 hl3 h=>?_
 refine J E (J E (J E (V E Ha (V E (fb hn1) (BZ E E (Gt En Ej) ?_)))))
 refine Ck [_] rfl DO LM MF ⟨rfl,trivial⟩ rfl rfl rfl zW rfl rfl zU fun b1=>?_
 refine Cp G7 1 ([(shr64 p0 n1).toUInt8]:List UInt8) E zV E ?_
 refine EF 1 hl3 (sz:=1) (enc:=G7) zV E DO LM XV MF E zD E E E E (Ct (sz:=1) (enc:=G7) 0 zV E) (by simp[G7,Value.oneCell']) zU fun v3=>?_
 refine O E (AT (Ao (AI (AJ (V E Aw (J E (AT ?_)))))))
 exact Am (m1,l3,v3,wI (a1+1)) h (Nat.lt_succ_self _) tL (A5 [1] 2 E E E)
 refine Av (Ay (BP (A0 ?_)))
 exact Ak (l2,v2) h tL (A5 [0] 1 E E E)
 obtain⟨l1,v1⟩:=x
 dsimp only at h
 unfold PD at h
 try dsimp only
 refine Y (J E (IQ 0 E DO Ej De E E (O E (U (AM ?_)))))
 obtain rfl:=zI h
 exact AW [] 1 E E E
def QG(p0:List (List UInt8)):Option (List UInt8):=
 (eK p0 []).bind fun y1=>
 some y1
theorem dL{BW:Value}{p0:List (List UInt8)}{r:List UInt8}(h:QG p0=some r)(hs0_:CR K w0 eS 1 BW p0):zC K w0 180 [BW] [] H (fun u M=>u=vS r∧M=[]):=by
 unfold QG at h
 refine Vf.enter Tryz.func180 rfl rfl ?_
 refine Y (O E (U (Y ?_)))
 refine AB h fun y1 hy1 h=>?_
 refine J E (AN 0 so (uV hy1 hs0_) E (O E (U (AM ?_))))
 obtain rfl:=zI h
 exact AW [] 0 E E E
def Oe(n:Nat)(p0:GI):Option (List UInt8):=
 (IC n p0.cnt 8).bind fun y1=>
 (IC n p0.gen.toUInt64 4).bind fun y2=>
 (IC n p0.rows.toUInt64 4).bind fun y3=>
 (IC n p0.page.toUInt64 4).bind fun y4=>
 (QG [[115,112,104,114],y1,y2,y3,y4,p0.tag]).bind fun y5=>
 some y5
theorem dM{n:Nat}{p0:GI}{r:List UInt8}(h:Oe n p0=some r): zC K w0 158 [.agg (JC p0).toArray] [] H (fun u M=>u=vS r∧M=[]):=by
 unfold Oe at h
 refine Vf.enter Tryz.func158 rfl rfl ?_
 refine Y ?_
 refine Bw E E zU fun b1=>?_
 refine O E (U (AE ?_))
 refine AB h fun y1 hy1 h=>?_
 refine AB h fun y2 hy2 h=>?_
 refine AB h fun y3 hy3 h=>?_
 refine AB h fun y4 hy4 h=>?_
 refine AB h fun y5 hy5 h=>?_
 refine Ai C2 [0] (BJ [(true,0),(true,1),(true,3),(true,4),(true,5),(true,7),(true,8),(true,9),(true,11),(true,12),(true,13),(true,14),(true,16),(true,17),(true,18),(false,2),(false,6),(false,10),(false,15)] (.last 19 (C0 [(false,20),(false,21)]))) zK (AF E NF (AG 0 Il E (AF E W3 (AG 0 Ah E (BZ E E (D9 C6 En) (AF E W4 (AG 0 Ah E ?_)))))))
 refine BZ E E (D9 C6 En) (AF E SO (AF E HB (AG 0 Ah E (BZ E E (D9 C6 En) (AF E SO (AF E Og (AG 0 H9 E ?_)))))))
 refine BT 0 Yz (PP hy1) E ⟨⟨0,E⟩,zT⟩ (BT 0 Yz (PP hy2) E ⟨⟨0,E⟩,zT⟩ (BT 0 Yz (PP hy3) E ⟨⟨0,E⟩,zT⟩ (BT 0 Yz (PP hy4) E ⟨⟨0,E⟩,zT⟩ (A4 ?_))))
 refine Ck [_,_,_,_,_,_] rfl F8 Is VD ⟨rfl,rfl,rfl,rfl,rfl,rfl,trivial⟩ rfl rfl rfl (by first | (simp[Value.cells];done) | (intro v hv;simp only[List.mem_cons,List.not_mem_nil,or_false]at hv;rcases hv with rfl | rfl | rfl | rfl | rfl | rfl<;>rfl)) rfl rfl zU fun b2=>?_
 refine Cp eS 1 ([[115,112,104,114],y1,y2,y3,y4,p0.tag]:List (List UInt8)) E zV E ?_
 refine Bx (vs:=[_]) (Hin:=[_]) (Hr:=_::_) E E ⟨E,zT⟩ sV E E (Dm (B:=[_]) (Hin:=[]) fun K' w1 hk hB=>dL hy5 (C1 (e:=9) (v:=.slice (some ⟨b2,0,none⟩) 6 6) zV (hB _ zS))) ?_
 rintro _ _ ⟨_,rfl,rfl,rfl⟩
 refine⟨trivial,?_⟩
 refine O E (U (AM ?_))
 obtain rfl:=zI h
 exact AW [] 2 E E E
def Lt(n:Nat)(p0:GI):Option (List UInt8×Int):=
 (LG p0).bind fun y1=>
 cond (!y1)
 (
  some ([],120))
 (
  (Oe n p0).bind fun y2=>
  some (y2,0))
theorem Qh{n:Nat}{p0:GI}{r:List UInt8×Int}(h:Lt n p0=some r): zC K w0 120 [.agg (JC p0).toArray] [] H (fun u M=>u=.tuple #[vS r.1,vI r.2]∧M=[]):=by
 unfold Lt at h
 refine Vf.enter Tryz.func120 rfl rfl ?_
 refine Y ?_
 refine Bw E E zU fun b1=>?_
 refine O E (O E (U (AE (Y ?_))))
 refine AB h fun y1 hy1 h=>?_
 refine BA [Bh p0.cnt,AC p0.gen,AC p0.rows,AC p0.page,vS p0.tag] E KM E E (A2 0 E) (AN 0 kf ((VQ hy1 :)) E (CO E E (U ?_)))
 refine AL h E (fun hc1 h=>?_) fun hc1 h=>?_
 refine Y (O E (O E (U (AM (Ag ?_)))))
 obtain rfl:=zI h
 exact AW [] 1 E E E
 refine AH (AI (Y ?_))
 refine AB h fun y2 hy2 h=>?_
 refine BA [Bh p0.cnt,AC p0.gen,AC p0.rows,AC p0.page,vS p0.tag] E KM E E (A2 0 E) (AN 0 sF ((dM hy2 :)) E (O E (O E (U (AM ?_)))))
 obtain rfl:=zI h
 exact AW [] 1 E E E
def QF(p0:UInt64):Option UInt32:=
 ret ((p0 &&& 1).toUInt32) fun x1=>
 some x1
theorem So{p0:UInt64}{r:UInt32}(h:QF p0=some r): zC K w0 122 [Bh p0] [] H (fun u M=>u=AC r∧M=[]):=by
 unfold QF at h
 refine Vf.enter Tryz.func122 rfl rfl ?_
 refine Y (O E (U (Y ?_)))
 obtain⟨x1,ex1,h⟩:=BG h
 refine J E ?_
 refine V E (Oy (b:=1)) ?_
 refine BZ E E (O2 En C6) ?_
 refine AX (u:=AC x1) E E (congrArg AC ex1) ?_
 refine U (AM ?_)
 obtain rfl:=zI h
 exact AW [] 0 E E E
def Od(p0:UInt64)(p1:UInt32)(p2:Int)(p3:Bo):Option (GI×Int):=
 ret (decide (p0+1=0)) fun x1=>
 cond x1
 (
  some ((⟨0,0,0,0,[]⟩:GI),72))
 (
  (Yn ((decide (p2<0))||(decide (1000<p2))) ((LG (⟨p0+1,p1,GW p2,p3.page,p3.tag⟩:GI)).bind fun y1=>some (!y1))).bind fun y2=>
  cond y2
  (
   some ((⟨0,0,0,0,[]⟩:GI),120))
  (
   some ((⟨p0+1,p1,GW p2,p3.page,p3.tag⟩:GI),0)))
theorem Sn{p0:UInt64}{p1:UInt32}{p2:Int}{p3:Bo}{r:GI×Int}(h:Od p0 p1 p2 p3=some r): zC K w0 119 [Bh p0,AC p1,vI p2,.agg (CP p3).toArray] [] H (fun u M=>u=.tuple #[.agg (JC r.1).toArray,vI r.2]∧M=[]):=by
 unfold Od at h
 refine Vf.enter Tryz.func119 rfl rfl ?_
 refine Y ?_
 refine Bw E E zU fun b1=>?_
 refine A6 E Mx zU fun b2=>?_
 refine O E (U (Y (J E ?_)))
 refine V E (JU (b:=1)) ?_
 refine J E (J E (BZ E E (Rx Jh C6) (BA [AC p3.page,vS p3.tag] E EZ E E (A2 1 E) (Cf [_,_,_,_] E V7 V6 Mx ⟨E,E,E,E,zT⟩ E ?_))))
 refine A6 E Mx zU fun b3=>?_
 refine BN 0 E E E E Om E E E zT (U (AE (AK (Y ?_))))
 obtain⟨x1,ex1,h⟩:=BG h
 refine AF E NF (AG 0 Il E ?_)
 refine V E (K7 (b:=0)) ?_
 refine AX (u:=vB x1) E E (congrArg vB ex1) ?_
 refine U ?_
 refine AL h E (fun hc1 h=>?_) fun hc1 h=>?_
 refine Y (Cf [] E V7 V6 Mx zT E (BN 1 E E E E Om E E E zT (O E (U (AM (BO (Ag ?_)))))))
 obtain rfl:=zI h
 exact Ax (Fi E (Cj 1 (JC (⟨0,0,0,0,[]⟩:GI)) KM E E E E) E) (As (M:=[]) ⟨E,E⟩ fun _ hw=>Br.pick (H:=[_,_,_]) hw [] 3 E)
 refine Y ?_
 refine AB h fun y2 hy2 h=>?_
 refine J E (V E BL (J E ?_))
 refine GR (c:=decide (1000<p2)) 26 3 29 E (fun hb k=>?_) (fun hb k=>?_) ?_
 refine AA E (AA E (An E E E ?_))
 exact k.mono tL
 refine J E (V E C8 (An E E E ?_))
 exact k.mono tL
 refine J E ?_
 refine Sd 30 4 34 hy2 E (fun hb k=>?_) (fun hb hg2 k=>?_) ?_
 refine AA E (AA E (AA E (An E E E ?_)))
 exact k.mono tL
 obtain⟨y1,hy1,hg2⟩:=Da hg2
 obtain rfl:=zI hg2
 refine BA [Bh (p0+1),AC p1,AC (GW p2),AC p3.page,vS p3.tag] E KM E E (A2 0 E) (AN 0 kf ((VQ hy1 :)) E (CO E E (An E E E ?_)))
 exact k.mono tL
 refine O E (U ?_)
 refine AL h E (fun hc2 h=>?_) fun hc2 h=>?_
 refine Y (Cf [] E V7 V6 Mx zT E (BN 1 E E E E Om E E E zT (O E (U (AM (BO (Ag ?_)))))))
 obtain rfl:=zI h
 exact Ax (Fi E (Cj 1 (JC (⟨0,0,0,0,[]⟩:GI)) KM E E E E) E) (As (M:=[]) ⟨E,E⟩ fun _ hw=>Br.pick (H:=[_,_,_]) hw [] 3 E)
 refine AH (Ao (AI (Y (BA [Bh (p0+1),AC p1,AC (GW p2),AC p3.page,vS p3.tag] E KM E E (A2 0 E) (BN 1 E E E E Om E E E zT (O E (U (AM ?_))))))))
 obtain rfl:=zI h
 exact Ax (Fi E (Cj 1 (JC (⟨p0+1,p1,GW p2,p3.page,p3.tag⟩:GI)) KM E E E E) E) (As (M:=[]) ⟨E,E⟩ fun _ hw=>Br.pick (H:=[_,_,_]) hw [] 3 E)
end

section
variable {K:Nat→Prop}{w0:World}{H:List Ab}
def IH(p0:A3)(p1:UInt64):Option Int:=
 (G8 p0.id p1).bind fun y1=>
 some y1
theorem SE{p0:A3}{p1:UInt64}{r:Int}(h:IH p0 p1=some r): zC K w0 144 [.agg (Ac p0).toArray,Bh p1] [] H (fun u M=>u=vI r∧M=[]):=by
 unfold IH at h
 refine Vf.enter Tryz.func144 rfl rfl ?_
 refine Y ?_
 refine Bw E E zU fun b1=>?_
 refine O E (U (Y ?_))
 refine AB h fun y1 hy1 h=>?_
 refine AF E RQ (AG 0 Il E (J E (AN 0 r9 (Tc hy1) E (O E (U (AM ?_))))))
 obtain rfl:=zI h
 exact AW [] 1 E E E
def C4(p0:List A3)(p1:UInt64)(a1:Int):Option (Int×Bool):=
 (E3 (decide (a1<(p0.length:Int))) ((A1 p0 a1).bind fun x3=>(IH x3 p1).bind fun y2=>some (decide (y2=0)))).bind fun y3=>
 some (a1,y3)
def Cu(p0:List A3)(p1:UInt64)(nx_f_slices_BinarySearchFunc_api_Row_api_Row_uint64_l1:Int×Int→Option (Int×Bool))(a2:Int)(a3:Int):Option (Int×Bool):=
 cond (decide (a2<a3))
 (
  ret (wI ((shr64 (DJ (wI (a2+a3))) 1).toNat:Int)) fun x1=>
  (A1 p0 x1).bind fun x2=>
  (IH x2 p1).bind fun y1=>
  cond (decide (y1<0))
  (
   ret (wI (x1+1)) fun i_1=>
   nx_f_slices_BinarySearchFunc_api_Row_api_Row_uint64_l1 (i_1,a3))
  (
   nx_f_slices_BinarySearchFunc_api_Row_api_Row_uint64_l1 (a2,x1)))
 (
  C4 p0 p1 a2)
def C5(p0:List A3)(p1:UInt64):Nat→(Int×Int)→Option (Int×Bool):=CH fun nx x=>Cu p0 p1 nx x.1 x.2
def Dt(n:Nat)(p0:List A3)(p1:UInt64):Option (Int×Bool):=
 C5 p0 p1 n (0,(p0.length:Int))
theorem Ir{n:Nat}{BW:Value}{p0:List A3}{p1:UInt64}{r:Int×Bool}(h:Dt n p0 p1=some r)(hs0_:CR K w0 Ac 4 BW p0):zC K w0 143 [BW,Bh p1,.func (.func 144) #[] #[]] [] H (fun u M=>u=.tuple #[vI r.1,vB r.2]∧M=[]):=by
 unfold Dt at h
 refine Vf.enter Tryz.func143 rfl rfl ?_
 refine Y (O E (O E (U (Y (J E (CW hs0_ E D8 E (O E (U (Y (J E (O E (O E (U ?_)))))))))))))
 refine Az (α:=Int) (fun x=>C4 p0 p1 x=some r) (fun x=>[(0,BW),(1,Bh p1),(2,.func (.func 144) #[] #[]),(8,vI (p0.length:Int)),(9,vI x)]) (fun x=>H) ?_ (fun a1 D h=>?_)
 refine AK ?_
 refine SX.heap (SX.mono (A9 (α:=Nat×Int×Int) (fun x=>C5 p0 p1 x.1 (x.2.1,x.2.2)=some r) (fun x=>[(0,BW),(1,Bh p1),(2,.func (.func 144) #[] #[]),(8,vI (p0.length:Int)),(9,vI x.2.1),(10,vI x.2.2)]) (fun x=>H) (fun x=>x.1) (fun x D h=>?_) (n,0,(p0.length:Int)) h) tL) (A5 [] 0 E E E)
 obtain⟨m1,a2,a3⟩:=x
 dsimp only at h
 rcases m1 with _ | m1
 cases (show(none:Option _)=some r from h)
 replace h:Cu p0 p1 (C5 p0 p1 m1) a2 a3=some r:=h
 unfold Cu at h
 try dsimp only
 refine AE (Y (J E (J E (V E BL (U ?_)))))
 refine AL h E (fun hc1 h=>?_) fun hc1 h=>?_
 refine AH (AI (AK (Y ?_)))
 obtain⟨x1,ex1,h⟩:=BG h
 refine J E (J E (V E Aw (BZ E E (Ff Jh PN) ?_)))
 refine V E (Gy.shr64 (n:=1)) ?_
 refine BZ E E (kE PN Jh) ?_
 refine AX (u:=vI x1) E E (congrArg vI ex1) ?_
 refine U (Y ?_)
 refine AB h fun x2 hx2 h=>?_
 refine AB h fun y1 hy1 h=>?_
 refine J E (J E (J E ?_))
 refine EL hx2 hs0_ E D8 FE E E fun be1 of1 hc2=>?_
 refine BA (Ac x2) E IA E E (Ek hc2) (J E (AN 0 kb ((SE hy1 :)) E (V E BL (U ?_))))
 refine AL h E (fun hc3 h=>?_) fun hc3 h=>?_
 refine AJ ?_
 obtain⟨i_1,ei_1,h⟩:=BG h
 refine J E (V E Aw ?_)
 refine AX (u:=vI i_1) E E (congrArg vI ei_1) ?_
 refine AT (Ao ?_)
 exact Am (m1,i_1,a3) h (Nat.lt_succ_self _) tL (A5 [] 0 E E E)
 refine AJ (J E (O E (AT (Ao ?_))))
 exact Am (m1,a2,x1) h (Nat.lt_succ_self _) tL (A5 [] 0 E E E)
 refine Av (Ay (BP (A0 ?_)))
 exact Ak a2 h tL (A5 [] 0 E E E)
 unfold C4 at h
 try dsimp only
 refine Y ?_
 refine AB h fun y3 hy3 h=>?_
 refine J E (J E (J E (V E BL (J E ?_))))
 refine Du 39 9 48 hy3 E (fun hb hg1 k=>?_) (fun hb k=>?_) ?_
 obtain⟨x3,hx3,hg1⟩:=Da hg1
 obtain⟨y2,hy2,hg1⟩:=Da hg1
 obtain rfl:=zI hg1
 refine J E (J E (J E ?_))
 refine EL hx3 hs0_ E D8 FE E E fun be2 of2 hc4=>?_
 refine BA (Ac x3) E IA E E (Ek hc4) (J E (AN 0 kb ((SE hy2 :)) E (V E Bv (An E E E ?_))))
 exact k.mono tL
 refine AA E (AA E (AA E (AA E (AA E (AA E (AA E (AA E ?_)))))))
 refine An E E E ?_
 exact k.mono tL
 refine O E (O E (U (AM ?_)))
 obtain rfl:=zI h
 exact AW [] 0 E E E
def Jr(n:Nat)(p0:List A3)(p1:UInt64):Option (Int×Bool):=
 (Dt n p0 p1).bind fun y1=>
 some (y1.1,y1.2)
theorem T4{n:Nat}{BW:Value}{p0:List A3}{p1:UInt64}{r:Int×Bool}(h:Jr n p0 p1=some r)(hs0_:CR K w0 Ac 4 BW p0):zC K w0 104 [BW,Bh p1] [] H (fun u M=>u=.tuple #[vI r.1,vB r.2]∧M=[]):=by
 unfold Jr at h
 refine Vf.enter Tryz.func104 rfl rfl ?_
 refine Y (O E (O E (U (Y ?_))))
 refine AB h fun y1 hy1 h=>?_
 refine J E (J E (AN 0 r8 (Ir hy1 hs0_) E (Ap E E E (Ap E E E (O E (O E (U (AM ?_))))))))
 obtain rfl:=zI h
 exact AW [] 0 E E E
def JH(p0:Iv)(y1:List UInt8):Option Int:=
 (HF (⟨p0.id,p0.x,p0.y,y1⟩:A3)).bind fun y2=>
 cond (!y2)
 (
  some 80)
 (
  some 0)
def Lm(p0:Iv):Option Int:=
 ret (decide (p0.kind=3)) fun x1=>
 cond x1
 (
  some 0)
 (
  ret (decide (p0.kind=2)) fun x2=>
  cond x2
  (
   JH p0 [])
  (
   ret (decide (p0.kind=1)) fun x3=>
   cond x3
   (
    JH p0 p0.txt)
   (
    some 2)))
theorem ZZ{p0:Iv}{r:Int}(h:Lm p0=some r): zC K w0 136 [.agg (Cg p0).toArray] [] H (fun u M=>u=vI r∧M=[]):=by
 unfold Lm at h
 refine Vf.enter Tryz.func136 rfl rfl ?_
 refine Y ?_
 refine Bw E E zU fun b1=>?_
 refine O rfl (U (Y (AF rfl Z4 (BA [Bh p0.id,AC p0.x,AC p0.y,vS p0.txt] rfl IA rfl rfl (Dy 0 rfl (by rintro(_ | (_ | (_ | (_ | j)))) u hj<;>first | exact hj | exact absurd hj zS)) ?_))))
 refine A6 E Iu zU fun b2=>?_
 refine BN 0 E E E E FE E E E zT (U (AE (Y (AF E Wy (AG 1 Gi E (U (AK ?_)))))))
 refine Az (α:=List UInt8) (fun x=>JH p0 x=some r) (fun x=>[(3,vP b2 0)]) (fun x=>own b2 (.cells #[Bh p0.id,AC p0.x,AC p0.y,vS x] 43)::H) ?_ (fun y1 D h=>?_)
 refine AK (AE (AK (AE (AK (AE (AE (Y ?_)))))))
 obtain⟨x1,ex1,h⟩:=BG h
 refine V E Bv ?_
 refine AX (u:=vB x1) E E (congrArg vB ex1) ?_
 refine U ?_
 refine AL h E (fun hc1 h=>?_) fun hc1 h=>?_
 refine Av (Ay (Ay (A0 (AI (AE (Y (O E (U (AM (Ag (BO (Ag (BO (F9 (BO (Ag ?_))))))))))))))))
 obtain rfl:=zI h
 exact AW [] 2 E E E
 refine AH (AI (AE (Y ?_)))
 obtain⟨x2,ex2,h⟩:=BG h
 refine V E Bv ?_
 refine AX (u:=vB x2) E E (congrArg vB ex2) ?_
 refine U ?_
 refine AL h E (fun hc2 h=>?_) fun hc2 h=>?_
 refine Av (Ay (Ay (FK (Ay (A0 (AI (AJ (AF E QH (BN 0 E E E E Is E E E zT (AT (Ao ?_)))))))))))
 exact Ak [] h tL (A5 [0] 2 E E E)
 refine AH (AI (Y ?_))
 obtain⟨x3,ex3,h⟩:=BG h
 refine V E Bv ?_
 refine AX (u:=vB x3) E E (congrArg vB ex3) ?_
 refine U ?_
 refine AL h E (fun hc3 h=>?_) fun hc3 h=>?_
 refine Av (Ay (FK (Ay (FK (Ay (A0 ?_))))))
 exact Ak p0.txt h tL (A5 [0] 2 E E E)
 refine AH (AI (Av (FK (Ay (FK (Ay (FK (mK (A0 (AI (Y (O E (U (AM ?_))))))))))))))
 obtain rfl:=zI h
 exact AW [] 2 E E E
 unfold JH at h
 try dsimp only
 refine AE (AE (Y ?_))
 refine AB h fun y2 hy2 h=>?_
 refine BA [Bh p0.id,AC p0.x,AC p0.y,vS y1] E IA E E (A2 0 E) (AN 0 ka ((SF hy2 :)) E (CO E E (U ?_)))
 refine AL h E (fun hc4 h=>?_) fun hc4 h=>?_
 refine Y (O E (U (AM (Ag (Ag (BO (Ag ?_)))))))
 obtain rfl:=zI h
 exact AW [] 1 E E E
 refine AH (AI (Y (O E (U (AM (Ag (BO (Ag ?_))))))))
 obtain rfl:=zI h
 exact AW [] 1 E E E
def JG(p0:List A3)(a1:Int)(l2:List A3):Option (List A3×Int):=
 (KK p0 a1 (p0.length:Int)).bind fun l4=>
 (Eh 32 l2 l4).bind fun l5=>
 some (l5,0)
def Gm(p0:List A3)(p1:Iv)(y3:Int×Bool)(a1:Int)(y4:List UInt8):Option (List A3×Int):=
 (KK p0 0 y3.1).bind fun l1=>
 (PS l1).bind fun y5=>
 cond (!decide (p1.kind=3))
 (
  (Eh 32 y5 [(⟨p1.id,p1.x,p1.y,y4⟩:A3)]).bind fun l3=>
  JG p0 a1 l3)
 (
  JG p0 a1 y5)
def EW(n:Nat)(p0:List A3)(p1:Iv):Option (List A3×Int):=
 (HJ n p0).bind fun y1=>
 cond (!y1)
 (
  some ([],80))
 (
  (Lm p1).bind fun y2=>
  cond (!decide (y2=0))
  (
   some ([],y2))
  (
   (Jr n p0 p1.id).bind fun y3=>
   ret ((!y3.2)&&(!decide (p1.kind=1))) fun x1=>
   cond x1
   (
    some ([],100))
   (
    ret ((!y3.2)&&(decide ((p0.length:Int)=1000))) fun x2=>
    cond x2
    (
     some ([],82))
    (
     cond y3.2
     (
      ret (wI (y3.1+1)) fun x3=>
      (A1 p0 y3.1).bind fun x4=>
      cond ((decide (p1.kind=2))&&(!(decide (x4.id=p1.id)&&(decide (x4.x=p1.x)&&(decide (x4.y=p1.y)&&(decide (x4.txt=p1.txt)&&true))))))
      (
       Gm p0 p1 y3 x3 x4.txt)
      (
       Gm p0 p1 y3 x3 p1.txt))
     (
      Gm p0 p1 y3 y3.1 p1.txt)))))
theorem ZY{n:Nat}{BW:Value}{p0:List A3}{p1:Iv}{r:List A3×Int}(h:EW n p0 p1=some r)(hs0_:CR K w0 Ac 4 BW p0):zC K w0 95 [BW,.agg (Cg p1).toArray] [] H (fun u M=>∃v0:Value,u=.tuple #[v0,vI r.2]∧M=[AD 43 4 v0 Ac r.1]):=by
 unfold EW at h
 refine Vf.enter Tryz.func95 rfl rfl ?_
 refine Y ?_
 refine Bw E E zU fun b1=>?_
 refine Ci 43 4 Ac (O E (O E (U (AE (Y ?_)))))
 refine AB h fun y1 hy1 h=>?_
 refine J E (AN 0 Zq (Mz hy1 hs0_) E (CO E E (U ?_)))
 refine AL h E (fun hc1 h=>?_) fun hc1 h=>?_
 refine Y (Ci 43 4 Ac (O E (O E (U (AM (Ag ?_))))))
 obtain rfl:=zI h
 exact CC [0] 3 (F1 E E E) E E ⟨(.slice none 0 0),E,E⟩
 refine AH (AI (AE (Y ?_)))
 refine AB h fun y2 hy2 h=>?_
 refine BA [vI p1.kind,Bh p1.id,AC p1.x,AC p1.y,vS p1.txt] E Si E E (A2 1 E) (AN 0 r5 ((ZZ hy2 :)) E (O E (U (Y (J E (V E Bg (U ?_)))))))
 refine AL h E (fun hc2 h=>?_) fun hc2 h=>?_
 refine Y (J E (Ci 43 4 Ac (O E (O E (U (AM (Ag ?_)))))))
 obtain rfl:=zI h
 exact CC [0] 3 (F1 E E E) E E ⟨(.slice none 0 0),E,E⟩
 refine AH (AI (Y ?_))
 refine AB h fun y3 hy3 h=>?_
 refine J E (AF E Z4 (AF E RQ (AG 1 Il E (AN 0 kT (T4 hy3 hs0_) E (J E (Ap E E E (Ap E E E ?_)))))))
 refine O E (O E (U (AE (AK (Y ?_)))))
 obtain⟨x1,ex1,h⟩:=BG h
 refine J E (CO E E (J E ?_))
 refine DT (c := !decide (p1.kind=1)) 32 4 36 E (fun hb k=>?_) (fun hb k=>?_) ?_
 refine AF E Wy (AG 1 Gi E (V E Bg (An E E E ?_)))
 exact k.mono tL
 refine AA E (AA E (AA E (An E E E ?_)))
 exact k.mono tL
 refine AX (u:=vB x1) E E (congrArg vB ex1) ?_
 refine U ?_
 refine AL h E (fun hc3 h=>?_) fun hc3 h=>?_
 refine Y (Ci 43 4 Ac (O E (O E (U (AM (BO (Ag ?_)))))))
 obtain rfl:=zI h
 exact CC [0] 3 (F1 E E E) E E ⟨(.slice none 0 0),E,E⟩
 refine Y ?_
 obtain⟨x2,ex2,h⟩:=BG h
 refine J E (CO E E (J E ?_))
 refine DT (c:=decide ((p0.length:Int)=1000)) 40 4 44 E (fun hb k=>?_) (fun hb k=>?_) ?_
 refine J E (CW hs0_ E D8 E (V E Bv (An E E E ?_)))
 exact k.mono tL
 refine AA E (AA E (AA E (An E E E ?_)))
 exact k.mono tL
 refine AX (u:=vB x2) E E (congrArg vB ex2) ?_
 refine U ?_
 refine AL h E (fun hc4 h=>?_) fun hc4 h=>?_
 refine Y (Ci 43 4 Ac (O E (O E (U (AM (BO (Ag ?_)))))))
 obtain rfl:=zI h
 exact CC [0] 3 (F1 E E E) E E ⟨(.slice none 0 0),E,E⟩
 refine AH (Ao (AI (Y (J rfl (O rfl (U (Y (AF rfl Z4 (BA [Bh p1.id,AC p1.x,AC p1.y,vS p1.txt] rfl IA rfl rfl (Dy 1 rfl (by rintro(_ | (_ | (_ | (_ | j)))) u hj<;>first | exact hj | exact absurd hj zS)) ?_)))))))))
 refine A6 E Iu zU fun b2=>?_
 refine BN 0 E E E E FE E E E zT (U ?_)
 refine Az (α:=Int×List UInt8) (fun x=>Gm p0 p1 y3 x.1 x.2=some r) (fun x=>[(0,BW),(3,vP b1 0),(7,vI y3.1),(9,vI x.1),(10,vP b2 0)]) (fun x=>own b1 (.cells #[vI p1.kind,Bh p1.id,AC p1.x,AC p1.y,vS p1.txt] 105)::own b2 (.cells #[Bh p1.id,AC p1.x,AC p1.y,vS x.2] 43)::H) ?_ (fun x D h=>?_)
 refine Y (J E (U ?_))
 refine AL h E (fun hc5 h=>?_) fun hc5 h=>?_
 refine Y ?_
 obtain⟨x3,ex3,h⟩:=BG h
 refine J E (V E Aw ?_)
 refine AX (u:=vI x3) E E (congrArg vI ex3) ?_
 refine U (Y ?_)
 refine AB h fun x4 hx4 h=>?_
 refine J E (J E ?_)
 refine EL hx4 hs0_ E D8 FE E E fun be1 of1 hc6=>?_
 refine BA (Ac x4) E IA E E (Ek hc6) ?_
 refine A6 E Iu zU fun b3=>?_
 refine BN 0 E E E E FE E E E zT (U ?_)
 refine ZL [(0,BW),(3,vP b1 0),(7,vI y3.1),(9,vI x3),(10,vP b2 0),(11,vP b3 0)] (own b3 (.cells #[Bh x4.id,AC x4.x,AC x4.y,vS x4.txt] 43)::own b2 (.cells #[Bh p1.id,AC p1.x,AC p1.y,vS p1.txt] 43)::AD 43 4 zN Ac []::own b1 (.cells #[vI p1.kind,Bh p1.id,AC p1.x,AC p1.y,vS p1.txt] 105)::H) ?_ tL
 refine Y (AF E Wy (AG 3 Gi E (V E Bv (J E ?_))))
 refine DT (c := !(decide (x4.id=p1.id)&&(decide (x4.x=p1.x)&&(decide (x4.y=p1.y)&&(decide (x4.txt=p1.txt)&&true))))) 58 4 62 E (fun hb k=>?_) (fun hb k=>?_) ?_
 refine BA [Bh x4.id,AC x4.x,AC x4.y,vS x4.txt] E IA E E (A2 0 E) (BA [Bh p1.id,AC p1.x,AC p1.y,vS p1.txt] E IA E E (A2 1 E) ?_)
 refine XQ E pI E E (DW E E (dz (a:=x4.id) (b:=p1.id)) (DW E E (KO (a:=x4.x) (b:=p1.x)) (DW E E (KO (a:=x4.y) (b:=p1.y)) (DW E E (UI (a:=x4.txt) (b:=p1.txt)) Kc)))) ?_
 refine An E E E ?_
 exact k.mono tL
 refine AA E (AA E (AA E (An E E E ?_)))
 exact k.mono tL
 refine U ?_
 refine AL h E (fun hc7 h=>?_) fun hc7 h=>?_
 refine AJ (AF E QH (AG 0 H9 E (AF E QH (BN 1 E E E E Is E E E zT (AT ?_)))))
 exact Ak (x3,x4.txt) h tL (A5 [3,1] 4 E E E)
 refine AH ?_
 exact Ak (x3,p1.txt) h tL (A5 [3,1] 4 E E E)
 refine AH ?_
 exact Ak (y3.1,p1.txt) h tL (A5 [2,0] 3 E E E)
 obtain⟨a1,y4⟩:=x
 dsimp only at h
 unfold Gm at h
 try dsimp only
 refine Y ?_
 refine AB h fun l1 hl1 h=>?_
 refine AB h fun y5 hy5 h=>?_
 refine J E (J E (J E ?_))
 refine n9 hl1 hs0_ E D8 FE E E E fun v1 hs1=>?_
 refine Bx (vs:=[_]) (Hin:=[]) (Hr:=_::_::_) E E ⟨E,zT⟩ i9 E E (aw hy5 hs1) ?_
 rintro v2 _ ⟨_,rfl,rfl⟩
 refine⟨trivial,?_⟩
 refine O E (U ?_)
 refine Az (α:=List A3×Value) (fun x=>JG p0 a1 x.1=some r) (fun x=>[(0,BW),(9,vI a1),(12,x.2)]) (fun x=>AD 43 4 x.2 Ac x.1::H) ?_ (fun x D h=>?_)
 refine Y (AF E Wy (AG 1 Gi E (V E Bg (U ?_))))
 refine AL h E (fun hc8 h=>?_) fun hc8 h=>?_
 refine AJ ?_
 refine AB h fun l3 hl3 h=>?_
 refine J E (BA [Bh p1.id,AC p1.x,AC p1.y,vS y4] E IA E E (A2 2 E) ?_)
 refine Ck [_] rfl D8 FE Iu ⟨rfl,trivial⟩ rfl rfl rfl zW rfl rfl zU fun b4=>?_
 refine Cp Ac 4 ([(⟨p1.id,p1.x,p1.y,y4⟩:A3)]:List A3) E zV E ?_
 refine EF 1 hl3 (sz:=4) (enc:=Ac) zV E D8 FE ZV Iu E zD E E E E (Ct (sz:=4) (enc:=Ac) 0 zV E) (by simp[Ac,Value.oneCell']) zU fun v4=>?_
 refine O E (AT ?_)
 exact Ak (l3,v4) h tL (A5 [1] 4 E E E)
 refine AH ?_
 exact Ak (y5,v2) h tL (A5 [0] 3 E E E)
 obtain⟨l2,v3⟩:=x
 dsimp only at h
 unfold JG at h
 try dsimp only
 refine Y ?_
 refine AB h fun l4 hl4 h=>?_
 refine AB h fun l5 hl5 h=>?_
 refine J E (J E (J E ?_))
 refine fx hl4 hs0_ E D8 FE E E fun v5 hs2=>?_
 refine Tp 0 hl5 hs2 (sz:=4) (enc:=Ac) zV E D8 FE ZV Iu E zD E E E (by simp[Ac,Value.oneCell']) zU fun v6=>?_
 refine O E (O E (U (AM ?_)))
 obtain rfl:=zI h
 exact CC [0] 1 (F1 E E E) E E ⟨v6,E,E⟩
def KS(n:Nat)(p0:List A3)(p1:UInt64):Option (A3×Int):=
 (HJ n p0).bind fun y1=>
 cond (!y1)
 (
  some ((⟨0,0,0,[]⟩:A3),80))
 (
  (Jr n p0 p1).bind fun y2=>
  cond (!y2.2)
  (
   some ((⟨0,0,0,[]⟩:A3),100))
  (
   (A1 p0 y2.1).bind fun x1=>
   some (x1,0)))
theorem dF{n:Nat}{BW:Value}{p0:List A3}{p1:UInt64}{r:A3×Int}(h:KS n p0 p1=some r)(hs0_:CR K w0 Ac 4 BW p0):zC K w0 72 [BW,Bh p1] [] H (fun u M=>u=.tuple #[.agg (Ac r.1).toArray,vI r.2]∧M=[]):=by
 unfold KS at h
 refine Vf.enter Tryz.func72 rfl rfl ?_
 refine Y ?_
 refine A6 E Iu zU fun b1=>?_
 refine O E (U (AE (Y ?_)))
 refine AB h fun y1 hy1 h=>?_
 refine J E (AN 0 Zq (Mz hy1 hs0_) E (CO E E (U ?_)))
 refine AL h E (fun hc1 h=>?_) fun hc1 h=>?_
 refine Y (Cf [] E hE gz Iu zT E (BN 0 E E E E FE E E E zT (O E (U (AM (Ag ?_))))))
 obtain rfl:=zI h
 exact Ax (Fi E (Cj 0 (Ac (⟨0,0,0,[]⟩:A3)) IA E E E E) E) (As (M:=[]) ⟨E,E⟩ fun _ hw=>Br.pick (H:=[_]) hw [] 1 E)
 refine AH (AI (Y ?_))
 refine AB h fun y2 hy2 h=>?_
 refine J E (J E (AN 0 kT (T4 hy2 hs0_) E (J E (Ap E E E (Ap E E E (O E (O E (U (AE (Y ?_))))))))))
 refine J E (CO E E (U ?_))
 refine AL h E (fun hc2 h=>?_) fun hc2 h=>?_
 refine Y (Cf [] E hE gz Iu zT E (BN 0 E E E E FE E E E zT (O E (U (AM (Ag ?_))))))
 obtain rfl:=zI h
 exact Ax (Fi E (Cj 0 (Ac (⟨0,0,0,[]⟩:A3)) IA E E E E) E) (As (M:=[]) ⟨E,E⟩ fun _ hw=>Br.pick (H:=[_]) hw [] 1 E)
 refine AH (AI (Y ?_))
 refine AB h fun x1 hx1 h=>?_
 refine J E (J E ?_)
 refine EL hx1 hs0_ E D8 FE E E fun be1 of1 hc3=>?_
 refine BA (Ac x1) E IA E E (Ek hc3) (BN 0 E E E E FE E E E zT (O E (U (AM ?_))))
 obtain rfl:=zI h
 exact Ax (Fi E (Cj 0 (Ac x1) IA E E E E) E) (As (M:=[]) ⟨E,E⟩ fun _ hw=>Br.pick (H:=[_]) hw [] 1 E)
end

section
variable {K:Nat→Prop}{w0:World}{H:List Ab}
abbrev RH:=Nat×Option (Value×List A3)
def an(v0:Value)(s:RH):Value:=s.2.elim v0 (·.1)
def Xx(p0:List A3)(s:RH):List A3:=s.2.elim p0 (·.2)
def RC(s:RH):Ab:=AD 43 4 (an (.slice none 0 0) s) Ac (Xx [] s)
def dy(x:Value×Int):List Value:=[x.1,vI x.2]
def xT(n:Nat)(p0:List A3)(ops:List Iv)(s:RH)(x:Value×Int)(s':RH):Prop:=∃o m,ops[s.1]? = some o∧EW n (Xx p0 s) o=some (m,x.2)∧s'=(s.1+1,some (x.1,m))
def xS(n:Nat)(p0:List A3)(ops:List Iv)(s:RH):Prop:=∀o,ops[s.1]? = some o→∃r,EW n (Xx p0 s) o=some r
theorem ip{n:Nat}{v0:Value}{p0:List A3}{s:RH}{o:Iv}{r:List A3×Int}(h:EW n (Xx p0 s) o=some r)(hs0:CR K w0 Ac 4 v0 p0):zC K w0 95 [an v0 s,.agg (Cg o).toArray] [RC s] H (fun u M=>∃v:Value,u=.tuple #[v,vI r.2]∧M=[RC s,AD 43 4 v Ac r.1]):=by
 refine Vf.mono (Dm (B:=[RC s]) (Hin:=[]) (fun K' w1 hk hB=>ZY h ?_)) ?_
 obtain⟨k,_ | ⟨v,m⟩⟩:=s
 exact hs0.keeps hk
 exact C1 (e:=43) (v:=v) zV (hB _ (by simp[RC,an,Xx]))
 rintro _ _ ⟨_,rfl,v,rfl,rfl⟩
 exact⟨v,rfl,rfl⟩
theorem qD{n:Nat}{v0 vo:Value}{p0:List A3}{ops:List Iv}(hs0:CR K w0 Ac 4 v0 p0)(hs1:CR K w0 Cg 5 vo ops)(hl:ops.length≤1000000)(bo bl:Nat):
  cm Tryz.prog K w0 134 [vP bo 0,vP bl 0] [own bo (.cells #[vo] 79),own bl (.cells #[v0] 22)] dy (fun s=>[RC s]) (xT n p0 ops) (fun s=>ops.length≤s.1) (xS n p0 ops) (0,none):=by
 intro lp J9 X T rc G0 hy hdef h0
 refine Vf.enter Tryz.func134 rfl rfl ?_
 show SX _ _ _ _ _ _ _ _ _ (own bo (.cells #[vo] 79)::own bl (.cells #[v0] 22)::RC (0,none)::((rc::G0)++T))
 refine SX.pick [2,0,1] 3 (Y (AG 1 cV E (CW hs1 E Tb E (J E (U (AK ?_))))))
 refine SX.mono (A9 (α:=RH×List Ab) (fun x=>J9 x.1 x.2) (fun x=>[(0,vY lp),(1,vP bo 0),(2,vP bl 0),(8,vo),(9,vI (ops.length:Int)),(10,vI x.1.1)])
  (fun x=>RC x.1::own bo (.cells #[vo] 79)::own bl (.cells #[an v0 x.1] 22)::(x.2++T)) (fun x=>ops.length-x.1.1) (fun x D hp=>?_) ((0,none),rc::G0) h0) tL
 obtain⟨s,G⟩:=x
 have hJ:J9 s G:=hp
 clear hp
 dsimp only
 refine Y (V E BL (U (AE ?_)))
 refine BH E (fun hc1=>?_) (fun hc1=>?_)
 have hlt:s.1<ops.length:=by
  have:=of_decide_eq_true hc1
  omega
 clear hc1
 obtain⟨o,ho⟩:∃o,ops[s.1]? = some o:=⟨_,List.getElem?_eq_getElem hlt⟩
 obtain⟨r,hr⟩:=hdef _ _ hJ o ho
 have hn:A1 ops ((s.1:Nat):Int)=some o:=by rw[Fv];exact ho
 refine AH (AI (AE (AK (Y ?_))))
 refine EL hn hs1 E Tb WG E E fun be of hc=>?_
 refine BA (Cg o) E Si E E (Ek hc) ?_
 refine A6 E X4 zU fun b0=>?_
 refine BN 0 E E E E WG E E E zT (U (Y (AG 3 HC E (BA (Cg o) E Si E E (A2 0 E) (SL.pick [1,0] 2 (Bi 1 jC (ip hr hs0) E ?_))))))
 rintro _ _ ⟨v1,rfl,rfl⟩
 refine J E (Ap E E E (Ap E E E (O E (O E (U (SX.pick [0,2,3,4,1] 5 (AE (Y (J E (J E ?_))))))))))
 refine J E ?_
 refine I7 (M2:=[_,_,_,_]) (G:=RC (s.1+1,some (v1,r.1))::G) (T:=T) (vs:=[_,_]) (ok:=fun G1=>∃G2,G1=RC (s.1+1,some (v1,r.1))::G2∧J9 (s.1+1,some (v1,r.1)) G2) (no:=X) E E ⟨E,E,zT⟩ E ?_ (fun bb G1 hG1=>⟨zT,?_⟩)
 intro M
 exact hy s (v1,r.2) (s.1+1,some (v1,r.1)) ⟨o,r.1,ho,hr,rfl⟩ G hJ M
 refine CO E E (U ?_)
 refine BH E (fun hc3=>?_) (fun hc3=>?_)
 obtain rfl:bb=false:=by simpa using hc3
 refine AM (Ag (BO (Ag (FB (BO ?_)))))
 exact Ax (E4 E) (As (M:=G1) (.inr hG1) fun _ h=>h.skip [_,_,_,_])
 obtain rfl:bb=true:=by simpa using hc3
 obtain⟨G2,rfl,hJ2⟩:=hG1
 refine AH (AI (AJ (J E ?_)))
 refine EI 4 E fun hv1 ho1=>?_
 refine FV 3 E E E E K5 hv1 ho1 E zT (AT (Ao (AI (AJ (V E (B2 zO zO) (J E (AT ?_)))))))
 exact Am ((s.1+1,some (v1,r.1)),G2) hJ2 (by dsimp only;omega) tL (A5 [4,2,3] 5 E E E)
 have hge:ops.length≤s.1:=by simpa using hc1
 refine Av (Ay (BP (A0 ?_)))
 exact D5 (E4 E) (As (M:=RC s::G) (.inl ⟨s,G,hge,E,hJ⟩) fun _ hw=>Br.pick (H:=[_,_,_]) hw [0] 3 E)
theorem qk{v0 v1:Value}{p0:List A3}{ops:List Iv}(hs0:CR K w0 Ac 4 v0 p0)(hs1:CR K w0 Cg 5 v1 ops):zC K w0 93 [v0,v1] [] H (fun u M=>∃bo bl:Nat,u=.func (.func 134) #[] #[vP bo 0,vP bl 0]∧M=[own bo (.cells #[v1] 79),own bl (.cells #[v0] 22)]):=by
 refine Vf.enter Tryz.func93 rfl rfl ?_
 refine Y ?_
 refine R6 hs0 fun hv0 ho0=>?_
 refine ZC hv0 E E zU fun b0=>?_
 refine R6 hs1 fun hv1 ho1=>?_
 refine ZC hv1 E E zU fun b1=>?_
 refine O E (U (Y ?_))
 refine Im (fv:=#[]) (cv:=#[_,_]) E E E ?_
 refine O E (U (AM ?_))
 exact CC [0,1] 2 (D7 E E) E E ⟨_,_,E,E⟩
def OE(n:Nat):List Iv→List A3→Int→Option (List A3×Int×Int)
 | [],cur,_=>some (cur,0,0)
 | o::r,cur,at_=>(EW n cur o).bind fun y=>cond (decide (y.2=0)) (OE n r y.1 (at_+1)) (some ([],at_,y.2))
def NR(n:Nat)(l:List A3)(ops:List Iv):Option (List A3×Int×Int):=(HJ n l).bind fun y=>cond (!y) (some ([],0,80)) (cond (decide ((ops.length:Int)=0)||decide (64<(ops.length:Int))) (some ([],0,101)) (OE n ops l 0))
theorem nU{s:RH}(h:s.2≠none)(v0:Value)(p0:List A3):RC s=AD 43 4 (an v0 s) Ac (Xx p0 s):=by
 obtain⟨k,_ | ⟨v,m⟩⟩:=s
 exact absurd rfl h
 rfl
theorem oW{n:Nat}{v0 v1:Value}{p0:List A3}{ops:List Iv}{r:List A3×Int×Int}(h:NR n p0 ops=some r)(hs0:CR K w0 Ac 4 v0 p0)(hs1:CR K w0 Cg 5 v1 ops):zC K w0 62 [v0,v1] [] H (fun u M=>∃v:Value,u=.tuple #[v,vI r.2.1,vI r.2.2]∧M=[AD 43 4 v Ac r.1]):=by
 unfold NR at h
 refine Vf.enter Tryz.func62 rfl rfl ?_
 refine Y (O E (O E (O E (U (MK (AE (AK (Y ?_))))))))
 refine AB h fun y1 hy1 h=>?_
 refine J E (AN 0 Zq (Mz hy1 hs0) E (CO E E (O E (U ?_))))
 refine AL h E (fun hc1 h=>?_) fun hc1 h=>?_
 refine Y (O E (O E (O E (U (AM (BO (Ag (Fx ?_))))))))
 obtain rfl:=zI h
 refine QY 43 4 Ac ?_
 exact CC [0] 1 (aY E E E E) E E ⟨_,E,E⟩
 refine Y (J E (CW hs1 E Tb E (V E Bv (J E ?_))))
 refine GR (c:=decide (64<(ops.length:Int))) 20 4 24 E (fun hb k=>?_) (fun hb k=>?_) ?_
 refine AA E (AA E (AA E (An E E E ?_)))
 exact k.mono tL
 refine J E (CW hs1 E Tb E (V E C8 (An E E E ?_)))
 exact k.mono tL
 refine O E (U ?_)
 refine AL h E (fun hc2 h=>?_) fun hc2 h=>?_
 refine Y (O E (O E (O E (U (AM (BO (Ag (Fx ?_))))))))
 obtain rfl:=zI h
 refine QY 43 4 Ac ?_
 exact CC [0] 1 (aY E E E E) E E ⟨_,E,E⟩
 have hl:0<ops.length∧ops.length≤64:=by
  simp only[Bool.or_eq_false_iff,decide_eq_false_iff_not]at hc2
  omega
 refine AH (Ao (AI (Y ?_)))
 refine A6 E qs zU fun b0=>?_
 refine BN 0 E E E E QP E E E zT (U (Y (J E ?_)))
 refine A6 E iW zU fun b1=>?_
 refine R6 hs0 fun hv0 ho0=>?_
 refine FV 0 E E E E K5 hv0 ho0 E zT (U (Y ?_))
 refine A6 E uf zU fun b2=>?_
 refine BN 0 E E E E iL E E E zT (U (AE (MJ (AI (AE (Y (J E (J E (Ci 43 4 Ac (Bi 0 vh (qk hs0 hs1) E ?_))))))))))
 rintro _ _ ⟨b3,b4,rfl,rfl⟩
 refine U (AK ?_)
 refine WV (enc:=dy) (C:=fun s=>[RC s]) (0,none) (G0:=own b2 (.cells #[vI 0] 30)::own b1 (.cells #[v0] 22)::own b0 (.cells #[vI 0] 3)::H)
  (fun s G=>OE n (ops.drop s.1) (Xx p0 s) s.1=some r∧(s.2=none→s.1=0)∧G=own b2 (.cells #[vI 0] 30)::own b1 (.cells #[an v0 s] 22)::own b0 (.cells #[vI s.1] 3)::H)
  (fun c G=>c=.exit 1∧∃v:Value,r.2.2≠0∧r.1=[]∧G=own b2 (.cells #[vI r.2.2] 30)::own b1 (.cells #[v] 22)::own b0 (.cells #[vI r.2.1] 3)::H)
  rfl rr rfl zV (qD (n:=n) hs0 hs1 zO _ _) rfl ⟨h,fun _=>rfl,rfl⟩ ?_ (fun s x s1 G hst hJ lr lp Rest=>?_) (fun s G D hds hJ=>?_) (fun c G D hX=>?_)
 rintro s G ⟨h,-,-⟩ o ho
 obtain⟨hlt,hg⟩:=List.getElem?_eq_some_iff.1 ho
 rw[List.drop_eq_getElem_cons hlt,hg,OE]at h
 obtain⟨y,hy,-⟩:=Da h
 exact⟨y,hy⟩
 obtain⟨h,-,rfl⟩:=hJ
 obtain⟨o,m,ho,hm,rfl⟩:=hst
 obtain⟨v,e⟩:=x
 obtain⟨hlt,hg⟩:=List.getElem?_eq_some_iff.1 ho
 rw[List.drop_eq_getElem_cons hlt,hg,OE,hm]at h
 replace h:cond (decide (e=0)) (OE n (ops.drop (s.1+1)) m (s.1+1)) (some ([],(s.1:Int),e))=some r:=h
 refine Y (O E (U (AJ (O E (AT (MI (AK (AE (Y (J E (V E Bg (U ?_))))))))))))
 refine BH E (fun hc3=>?_) (fun hc3=>?_)
 have he:e≠0:=by simpa using hc3
 rw[zf he,Bq]at h
 obtain rfl:=zI h
 refine Y (J E (BN 1 E E E E iL E E E zT (U (Av (Ay (FK ?_))))))
 exact PY ⟨E,_,he,E,E⟩ (A5 [1,2,3] 4 E E E)
 obtain rfl:e=0:=by simpa using hc3
 replace h:OE n (ops.drop (s.1+1)) m (s.1+1)=some r:=h
 refine AH (AI (Y (J E ?_)))
 refine EI 0 E fun hv1 ho1=>?_
 refine FV 2 E E E E K5 hv1 ho1 E zT (U (AJ (AG 3 Gi E (V E (B2 zO zO) (BN 3 E E E E QP E E E zT (AT (Ao ?_)))))))
 exact Jl ⟨_,E,h,(fun e=>absurd e zS),E⟩ (A5 [0,1,2,3] 4 E E E)
 obtain⟨h,hn,rfl⟩:=hJ
 rw[List.drop_eq_nil_of_le hds,OE]at h
 obtain rfl:=zI h
 have hs:s.2≠none:=fun e=>by
  have:=hn e
  omega
 refine SX.heap (H':=AD 43 4 (an v0 s) Ac (Xx p0 s)::own b2 (.cells #[vI 0] 30)::own b1 (.cells #[an v0 s] 22)::own b0 (.cells #[vI s.1] 3)::H) ?_ (fun _ hw=>by rw[←nU hs];exact hw) |> fun h=>Ao (AI h)
 refine AE (Y (AG 1 ST E (V E Bg (U (EO E (AH (AI (Y (AG 2 HC E (O E (O E (O E (U (AM (Fx ?_)))))))))))))))
 exact CC [0] 4 (aY E E E E) E E ⟨_,E,E⟩
 obtain⟨rfl,v,he,hr,rfl⟩:=hX
 refine Av (A0 (AI (AE (Y (AG 0 ST E (V E Bg (U ?_)))))))
 refine BH E (fun hc5=>?_) (fun hc5=>absurd hc5 (by simp[he]))
 refine AE (Ai C2 [0,2] (C0 (Hp 0 5)) zK (AG 1 Gi E (AG 0 ST E (O E (O E (O E (U (AM (Ag (Fx (QY 43 4 Ac ?_)))))))))))
 exact CC [0] 4 (aY E E E E) E E ⟨_,E,by rw[hr]<;>rfl⟩
end

section
variable {K:Nat→Prop}{w0:World}{H:List Ab}
abbrev TW(bf:Nat)(vo x1 x2 x3:Value):Ab:=own bf (.cells #[vo,x1,x2,x3] 85)
def xR(n:Nat)(v0:Value)(p0:List A3)(ops:List Iv)(s:RH)(x:Value×Int)(s':RH):Prop:=
 (s=(0,none)∧x=(v0,0)∧s'=(1,none))∨∃o m,s.1≠0∧ops[s.1-1]? = some o∧EW n (Xx p0 s) o=some (m,x.2)∧s'=(s.1+1,some (x.1,m))
def xQ(n:Nat)(p0:List A3)(ops:List Iv)(s:RH):Prop:=s.1≠0→∀o,ops[s.1-1]? = some o→∃r,EW n (Xx p0 s) o=some r
theorem nZ{bf:Nat}{v0:Value}{p0:List A3}(hs0:CR K w0 Ac 4 v0 p0):zC K w0 94 [vP bf 0,v0] [] H (fun u M=>∃bl bb:Nat,u=.func (.func 135) #[] #[vP bl 0,vP bb 0]∧M=[own bl (.cells #[v0] 22),own bb (.cells #[vP bf 0] 132)]):=by
 refine Vf.enter Tryz.func94 rfl rfl ?_
 refine Y ?_
 refine Bw E E zU fun b0=>?_
 refine R6 hs0 fun hv0 ho0=>?_
 refine ZC hv0 E E zU fun b1=>?_
 refine O E (U (Y ?_))
 refine Im (fv:=#[]) (cv:=#[_,_]) E E E ?_
 refine O E (U (AM ?_))
 exact CC [0,1] 2 (D7 E E) E E ⟨_,_,E,E⟩
theorem nH{n bf:Nat}{v0 vo x1 x2 x3:Value}{p0:List A3}{ops:List Iv}(hs0:CR K w0 Ac 4 v0 p0)(hl:ops.length≤1000000)(bl bb:Nat):
  cm Tryz.prog K w0 135 [vP bl 0,vP bb 0] [own bl (.cells #[v0] 22),own bb (.cells #[vP bf 0] 132)] dy (fun s=>[RC s,TW bf vo x1 x2 x3,AD 105 5 vo Cg ops]) (xR n v0 p0 ops) (fun s=>ops.length+1≤s.1) (xQ n p0 ops) (0,none):=by
 intro lp J9 X T rc G0 hy hdef h0
 refine Vf.enter Tryz.func135 rfl rfl ?_
 show SX _ _ _ _ _ _ _ _ _ (own bl (.cells #[v0] 22)::own bb (.cells #[vP bf 0] 132)::RC (0,none)::TW bf vo x1 x2 x3::AD 105 5 vo Cg ops::((rc::G0)++T))
 refine AE (Y (J E (AG 0 HC E ?_)))
 refine I7 (M2:=[_,_]) (G:=RC (1,none)::TW bf vo x1 x2 x3::AD 105 5 vo Cg ops::(rc::G0)) (T:=T) (vs:=[_,_]) (ok:=fun G1=>∃G2,G1=RC (1,none)::TW bf vo x1 x2 x3::AD 105 5 vo Cg ops::G2∧J9 (1,none) G2) (no:=X) E E ⟨E,E,zT⟩ E ?_ (fun bb0 G1 hG1=>⟨zT,?_⟩)
 intro M
 exact hy (0,none) (v0,0) (1,none) (.inl ⟨rfl,rfl,rfl⟩) (rc::G0) h0 M
 refine CO E E (U ?_)
 refine BH E (fun hc1=>?_) (fun hc1=>?_)
 obtain rfl:bb0=false:=by simpa using hc1
 refine AM (Ag ?_)
 exact Ax (E4 E) (As (M:=G1) (.inr hG1) fun _ h=>h.skip [_,_])
 obtain rfl:bb0=true:=by simpa using hc1
 obtain⟨G2,rfl,hJ2⟩:=hG1
 refine AH (AI (SX.pick [2,3,4,0,1] 5 (Y (AG 4 wa E (AV E E (AF E RR (AG 1 cV E (FJ 2 E Tb E E (J E (U (AK ?_)))))))))))
 refine SX.heap (SX.mono (A9 (α:=RH×List Ab) (fun x=>x.1.1≠0∧J9 x.1 x.2) (fun x=>[(0,vY lp),(1,vP bl 0),(15,vo),(16,vI (ops.length:Int)),(17,vI ((x.1.1-1:Nat):Int))])
  (fun x=>RC x.1::TW bf vo x1 x2 x3::AD 105 5 vo Cg ops::own bl (.cells #[an v0 x.1] 22)::(x.2++T)) (fun x=>ops.length+1-x.1.1) (fun x D hp=>?_) ((1,none),G2) ⟨by simp,hJ2⟩) tL) (A5 [0,1,2,3] 5 rfl rfl rfl)
 obtain⟨s,G⟩:=x
 obtain⟨hs1,hJ⟩:s.1≠0∧J9 s G:=hp
 dsimp only
 refine Y (V E BL (U (AE ?_)))
 refine BH E (fun hc1=>?_) (fun hc1=>?_)
 have hlt:s.1-1<ops.length:=by
  have:=of_decide_eq_true hc1
  omega
 clear hc1
 obtain⟨o,ho⟩:∃o,ops[s.1-1]? = some o:=⟨_,List.getElem?_eq_getElem hlt⟩
 obtain⟨r,hr⟩:=hdef _ _ hJ hs1 o ho
 have hn:A1 ops ((s.1-1:Nat):Int)=some o:=by rw[Fv];exact ho
 refine AH (AI (AE (AK (Y ?_))))
 refine AZ 2 hn E Tb WG E E E fun g m cp hv=>?_
 refine BA (Cg o) E Si E E (N4 (sz:=5) (enc:=Cg) 2 zV E hv hn) ?_
 refine A6 E X4 zU fun b0=>?_
 refine BN 0 E E E E WG E E E zT (U (Y (AG 4 HC E (BA (Cg o) E Si E E (A2 0 E) (SL.pick [1,0] 2 (Bi 1 jC (ip hr hs0) E ?_))))))
 rintro _ _ ⟨v1,rfl,rfl⟩
 refine J E (Ap E E E (Ap E E E (O E (O E (U (SX.pick [0,2,5,1,3,4] 6 (AE (Y (J E (J E ?_))))))))))
 refine J E ?_
 refine I7 (M2:=[_,_,_]) (G:=RC (s.1+1,some (v1,r.1))::TW bf vo x1 x2 x3::AD 105 5 vo Cg ops::G) (T:=T) (vs:=[_,_]) (ok:=fun G1=>∃G2,G1=RC (s.1+1,some (v1,r.1))::TW bf vo x1 x2 x3::AD 105 5 vo Cg ops::G2∧J9 (s.1+1,some (v1,r.1)) G2) (no:=X) E E ⟨E,E,zT⟩ E ?_ (fun bb G1 hG1=>⟨zT,?_⟩)
 intro M
 exact hy s (v1,r.2) (s.1+1,some (v1,r.1)) (.inr ⟨o,r.1,hs1,ho,hr,rfl⟩) G hJ M
 refine CO E E (U ?_)
 refine BH E (fun hc3=>?_) (fun hc3=>?_)
 obtain rfl:bb=false:=by simpa using hc3
 refine AM (Ag (BO (Ag (FB (BO ?_)))))
 exact Ax (E4 E) (As (M:=G1) (.inr hG1) fun _ h=>h.skip [_,_,_])
 obtain rfl:bb=true:=by simpa using hc3
 obtain⟨G2,rfl,hJ2⟩:=hG1
 refine AH (AI (AJ (J E ?_)))
 refine EI 3 E fun hv1 ho1=>?_
 refine FV 2 E E E E K5 hv1 ho1 E zT (AT (Ao (AI (AJ (V E (B2 zO zO) ?_)))))
 refine nt (v:=vI ((s.1+1-1:Nat):Int)) E (by rw[show((s.1+1-1:Nat):Int)=((s.1-1:Nat):Int)+1 by omega];rfl) ?_
 refine AT ?_
 exact Am ((s.1+1,some (v1,r.1)),G2) ⟨by simp,hJ2⟩ (by dsimp only;omega) tL (A5 [3,4,5,2] 6 E E E)
 have hge:ops.length+1≤s.1:=by
  have:=of_decide_eq_false hc1
  omega
 refine Av (Ay (BP (A0 ?_)))
 exact D5 (E4 E) (As (M:=RC s::TW bf vo x1 x2 x3::AD 105 5 vo Cg ops::G) (.inl ⟨s,G,hge,E,hJ⟩) fun _ hw=>Br.pick (H:=[_,_,_,_]) hw [0,1,2] 4 E)
def GZ(n:Nat):List Iv→List A3→Option (List A3×Int)
 | [],cur=>some (cur,0)
 | o::r,cur=>(EW n cur o).bind fun y=>cond (decide (y.2=0)) (GZ n r y.1) (some ([],y.2))
def Tw(n:Nat)(f:D0)(l:List A3)(o:Iv):Option (Int×D0):=
 cond (decide ((f.ops.length:Int)=64)) (some (101,f)) (cond (decide (f.ops.length≤1000000)) ((GZ n f.ops l).bind fun y=>cond (!decide (y.2=0)) (some (y.2,f)) ((EW n y.1 o).bind fun z=>cond (decide (z.2=0)) ((Eh 40 f.ops [o]).bind fun l=>some (z.2,{ f with ops:=l })) (some (z.2,f)))) none)
theorem rT{n bf bs:Nat}{v0 vo:Value}{f:D0}{p0:List A3}{o:Iv}{r:Int×D0}(h:Tw n f p0 o=some r)(hs0:CR K w0 Ac 4 v0 p0):
  zC K w0 63 [vP bf 0,v0,.agg (Cg o).toArray] [TW bf vo (vB f.isOpen) (vP bs 0) (vB f.closed),AD 105 5 vo Cg f.ops] H (fun u M=>∃v:Value,u=vI r.1∧M=[TW bf v (vB r.2.isOpen) (vP bs 0) (vB r.2.closed),AD 105 5 v Cg r.2.ops]):=by
 unfold Tw at h
 refine Vf.enter Tryz.func63 rfl rfl ?_
 refine Y ?_
 refine Bw E E zU fun b0=>?_
 refine O E (U (MK (AE (Y (J E (AV E E (AF E RR (AG 1 cV E (FJ 2 E Tb E E (V E Bv (U ?_)))))))))))
 refine AL h E (fun hc1 h=>?_) fun hc1 h=>?_
 refine Y (O E (U (AM (Ag (Fx ?_)))))
 obtain rfl:=zI h
 exact CC [1,2] 3 (D7 E E) E E ⟨_,E,E⟩
 have hl:f.ops.length≤1000000:=by
  rcases Nat.lt_or_ge 1000000 f.ops.length with hg | hg
  rw[zf zO,Bq]at h
  cases h
  exact hg
 rw[zt hl,Ch]at h
 refine AB h fun y hy h=>?_
 refine AH (AI (Y (J E ?_)))
 refine A6 E iW zU fun b1=>?_
 refine R6 hs0 fun hv0 ho0=>?_
 refine FV 0 E E E E K5 hv0 ho0 E zT (U (Y ?_))
 refine A6 E uf zU fun b2=>?_
 refine BN 0 E E E E iL E E E zT (U (AE (MJ (AI (SX.pick [3,4,0,1,2] 5 (AE (Y (J E (J E (Ci 43 4 Ac (Bi 0 vi (nZ hs0) E ?_)))))))))))
 rintro _ _ ⟨b3,b4,rfl,rfl⟩
 refine U (AK ?_)
 refine WV (enc:=dy) (C:=fun s=>[RC s,TW bf vo (vB f.isOpen) (vP bs 0) (vB f.closed),AD 105 5 vo Cg f.ops]) (0,none) (G0:=own b2 (.cells #[vI 0] 30)::own b1 (.cells #[v0] 22)::own b0 (.cells #[vI o.kind,Bh o.id,AC o.x,AC o.y,vS o.txt] 105)::H)
  (fun s G=>GZ n (f.ops.drop (s.1-1)) (Xx p0 s)=some y∧(s.1=0→s.2=none)∧G=own b2 (.cells #[vI 0] 30)::own b1 (.cells #[an v0 s] 22)::own b0 (.cells #[vI o.kind,Bh o.id,AC o.x,AC o.y,vS o.txt] 105)::H)
  (fun c G=>c=.exit 0∧∃(s:RH) (v:Value),y.2≠0∧G=RC s::TW bf vo (vB f.isOpen) (vP bs 0) (vB f.closed)::AD 105 5 vo Cg f.ops::own b2 (.cells #[vI y.2] 30)::own b1 (.cells #[v] 22)::own b0 (.cells #[vI o.kind,Bh o.id,AC o.x,AC o.y,vS o.txt] 105)::H)
  rfl rz rfl zV (nH (n:=n) hs0 hl _ _) rfl ⟨hy,fun _=>rfl,rfl⟩ ?_ (fun s x s1 G hst hJ lr lp Rest=>?_) (fun s G D hds hJ=>?_) (fun c G D hX=>?_)
 rintro s G ⟨h,-,-⟩-o ho
 obtain⟨hlt,hg⟩:=List.getElem?_eq_some_iff.1 ho
 rw[List.drop_eq_getElem_cons hlt,hg,GZ]at h
 obtain⟨y,hy,-⟩:=Da h
 exact⟨y,hy⟩
 obtain⟨h1,-,rfl⟩:=hJ
 obtain⟨v,e⟩:=x
 have hx:(e=0∧GZ n (f.ops.drop (s1.1-1)) (Xx p0 s1)=some y∧an v0 s1=v∧v.cells=#[v]∧v.oneCell'=true∧s1.1≠0)∨(∃(m:List A3) (k:Nat),e≠0∧s1=(k,some (v,m))∧y=([],e))∨(∃(m:List A3) (k:Nat),e=0∧s1=(k+1,some (v,m))∧GZ n (f.ops.drop k) m=some y):=by
  rcases hst with⟨rfl,hx,rfl⟩ | ⟨o',m,h0,ho,hm,rfl⟩
  obtain⟨rfl,rfl⟩:=Prod.mk.inj hx
  exact .inl ⟨rfl,h1,rfl,hv0,ho0,by simp⟩
  obtain⟨hlt,hg⟩:=List.getElem?_eq_some_iff.1 ho
  rw[List.drop_eq_getElem_cons hlt,hg,GZ,hm]at h1
  replace h1:cond (decide (e=0)) (GZ n (f.ops.drop (s.1-1+1)) m) (some ([],e))=some y:=h1
  by_cases he:e=0
  rw[zt he,Ch,Nat.sub_add_cancel zO]at h1
  exact .inr (.inr ⟨m,s.1,he,rfl,h1⟩)
  rw[zf he,Bq]at h1
  exact .inr (.inl ⟨m,s.1+1,he,rfl,(zI h1).symm⟩)
 refine Y (O E (U (AJ (O E (AT (MI (AK (AE (Y (J E (V E Bg (U ?_))))))))))))
 refine BH E (fun hc3=>?_) (fun hc3=>?_)
 have he:e≠0:=by simpa using hc3
 obtain⟨m,k,-,rfl,rfl⟩:∃(m:List A3) (k:Nat),e≠0∧s1=(k,some (v,m))∧y=([],e):=by
  rcases hx with hx | hx | ⟨m,k,hx,-⟩
  exact absurd hx.1 he
  exact hx
  exact absurd hx he
 refine Y (J E (BN 3 E E E E iL E E E zT (U (Av (Ay (FK ?_))))))
 exact PY ⟨E,_,_,he,E⟩ (A5 [0,1,2,3,4,5] 6 E E E)
 obtain rfl:e=0:=by simpa using hc3
 refine AH (AI (AJ (J E ?_)))
 rcases hx with⟨-,h2,hv,hv1,ho1,h0⟩ | ⟨m,k,hx,-⟩ | ⟨m,k,-,rfl,h2⟩
 refine FV 4 E E E E K5 hv1 ho1 E zT (AT (Ao ?_))
 exact Jl ⟨_,E,h2,fun e=>absurd e h0,by rw[hv]⟩ (A5 [0,1,2,3,4,5] 6 E E E)
 exact absurd rfl hx
 refine EI 0 E fun hv1 ho1=>?_
 refine FV 4 E E E E K5 hv1 ho1 E zT (AT (Ao ?_))
 exact Jl ⟨_,E,h2,(fun e=>absurd e zS),E⟩ (A5 [0,1,2,3,4,5] 6 E E E)
 obtain⟨h1,-,rfl⟩:=hJ
 rw[List.drop_eq_nil_of_le zO,GZ]at h1
 obtain rfl:=zI h1
 obtain⟨z,hz,h⟩:=Da (show(EW n (Xx p0 s) o).bind _=some r from h)
 refine Ao (AI (AE (Y (AG 3 ST E (V E Bg (U (EO E (AH (AI (Y (AG 4 HC E (BA (Cg o) E Si E E (A2 5 E) (Bi 1 jC (ip hz hs0) E ?_)))))))))))))
 rintro _ _ ⟨v1,rfl,rfl⟩
 refine J E (Ap E E E (Ap E E E (O E (O E (U (AE (Y (J E (V E Bv (U ?_))))))))))
 refine AL h E (fun hc4 h=>?_) fun hc4 h=>?_
 refine AB h fun l hl1 h=>?_
 refine Ai C2 [2,6] (BJ [(true,0),(true,1),(true,2),(true,3),(true,4),(true,5),(false,6),(false,7),(true,8),(true,9)] (.last 10 .nil)) zK (J E (J E (AV E E (AF E RR (AG 0 cV E (BA (Cg o) E Si E E (A2 1 E) ?_))))))
 refine Ck [_] rfl Tb WG X4 ⟨rfl,trivial⟩ rfl rfl rfl zW rfl rfl (fun _=>⟨⟨3,rfl⟩,⟨7,rfl⟩,trivial⟩) fun b5=>?_
 refine Cp Cg 5 ([o]:List Iv) E zV E ?_
 refine EF 4 hl1 (sz:=5) (enc:=Cg) zV E Tb WG uu X4 E zD E E E E (Ct (sz:=5) (enc:=Cg) 0 zV E) (by simp[Cg,Value.oneCell']) (fun _=>⟨⟨3,E⟩,⟨7,E⟩,zT⟩) fun v2=>?_
 refine AV E E (AF E RR (A4 ?_))
 refine EI 4 E fun hv2 ho2=>?_
 refine FV 3 E E E E qV hv2 ho2 E zT (U (Y (J E (O E (U (AM (Fx ?_)))))))
 obtain rfl:=zI h
 exact CC [3,4] 8 (D7 E E) E E ⟨v2,E,E⟩
 refine AH (AI (Y (J E (O E (U (AM (Fx ?_)))))))
 obtain rfl:=zI h
 exact CC [2,3] 7 (D7 E E) E E ⟨_,E,E⟩
 obtain⟨rfl,s,v,he,rfl⟩:=hX
 rw[zf he]at h
 obtain rfl:=zI (show some _=some r from h)
 refine Av (A0 (AI (AE (Y (AG 3 ST E (V E Bg (U ?_)))))))
 refine BH E (fun hc5=>?_) (fun hc5=>absurd hc5 (by simp[he]))
 refine Y (AG 3 ST E (O E (U (AM (Ag (Fx ?_))))))
 exact CC [1,2] 6 (D7 E E) E E ⟨_,E,E⟩
end

section
variable {K:Nat→Prop}{w0:World}{H:List Ab}
def I4(p0:Au):Option Bool:=
 (Gl p0).bind fun y1=>
 ret (decide (y1.cnt=18446744073709551615)) fun x1=>
 some x1
theorem TU{A7 BX Cb:Nat}{Cc:Value}{p0:Au}{r:Bool}(h:I4 p0=some r): zC K w0 53 [vP A7 0] [dO A7 Cc BX Cb p0,AD 9 1 Cc eS p0.blocks,Al BX AC vS p0.pend,Al Cb AC vB p0.bad] H (fun u M=>u=vB r∧M=[dO A7 Cc BX Cb p0,AD 9 1 Cc eS p0.blocks,Al BX AC vS p0.pend,Al Cb AC vB p0.bad]):=by
 unfold I4 at h
 refine Vf.enter Tryz.func53 rfl rfl ?_
 refine Y (O E (U (Y ?_)))
 refine AB h fun y1 hy1 h=>?_
 obtain⟨x1,ex1,h⟩:=BG h
 refine J E (AN 4 Zo (Le hy1) E (WT E (show Z2 Tryz.prog 38 0=some 0 by kernel_rfl) E E ?_))
 refine V E (K7 (b:=18446744073709551615)) ?_
 refine AX (u:=vB x1) E E (congrArg vB ex1) ?_
 refine U (AM ?_)
 obtain rfl:=zI h
 exact AW [0,1,2,3] 4 E E E
def Lu(p0:Au)(p1:List Bf):Option (Option (B3×BD)×Int×Au):=
 (Jq p1).bind fun y1=>
 cond (!decide (y1.2=0))
 (
  some (none,y1.2,p0))
 (
  (RN p0).bind fun y2=>
  cond (!decide (y2.2.1=0))
  (
   some (none,y2.2.1,y2.2.2))
  (
   (Of y2.2.2 p1 y1.1 y2.1).bind fun y3=>
   (y3.1).bind fun d1=>
   (XA p1).bind fun y4=>
   some (some (({ rows:=[],pages:=[],gens:=[],ring:=y4,gen:=y1.1,bad:=false }:B3),d1),y3.2,y2.2.2)))
theorem Zl{A7 BX Cb:Nat}{Cc FU:Value}{p0:Au}{p1:List Bf}{r:Option (B3×BD)×Int×Au}(h:Lu p0 p1=some r)(hs1_:CR K w0 Ad 2 FU p1):zC K w0 54 [vP A7 0,FU] [dO A7 Cc BX Cb p0,AD 9 1 Cc eS p0.blocks,Al BX AC vS p0.pend,Al Cb AC vB p0.bad] H (fun u M=>(r.1=none∧u=.tuple #[.pointer none,vI r.2.1]∧M=[dO A7 Cc BX Cb r.2.2,AD 9 1 Cc eS r.2.2.blocks,Al BX AC vS r.2.2.pend,Al Cb AC vB r.2.2.bad])∨(∃(d:B3×BD) (bn0:Nat) (vn0x0:Value) (vn0x1:Value) (vn0x2:Value) (vn0x5:Value) (bn1:Nat) (vn1x1:Value) (mn1x5:Nat),r.1=some d∧u=.tuple #[vP bn0 0,vI r.2.1]∧M=[sO bn0 vn0x0 vn0x1 vn0x2 A7 bn1 vn0x5 d.1,AD 43 4 vn0x0 Ac d.1.rows,AD 148 3 vn0x1 AY d.1.pages,EU vn0x2 AC AC d.1.gens,AD 55 2 vn0x5 Ad d.1.ring,vO bn1 A7 vn1x1 mn1x5 d.2,AD 55 2 vn1x1 Ad d.2.ring,Al mn1x5 AC vB d.2.taken,dO A7 Cc BX Cb r.2.2,AD 9 1 Cc eS r.2.2.blocks,Al BX AC vS r.2.2.pend,Al Cb AC vB r.2.2.bad])):=by
 unfold Lu at h
 refine Vf.enter Tryz.func54 rfl rfl ?_
 refine Y (O E (O E (U (Y ?_))))
 refine AB h fun y1 hy1 h=>?_
 refine J E (AN 0 om (T3 hy1 hs1_) E (J E (Ap E E E (Ap E E E (O E (O E (U (AE (Y (J E ?_))))))))))
 refine V E Bg (U ?_)
 refine AL h E (fun hc1 h=>?_) fun hc1 h=>?_
 refine Y (J E (O E (O E (U (AM (Ag ?_))))))
 obtain rfl:=zI h
 exact Ax (F1 E E E) (As (M:=[_,_,_,_]) (.inl ⟨E,E,E⟩) fun _ hw=>Br.pick (H:=[_,_,_,_]) hw [0,1,2,3] 4 E)
 refine AH (AI (Y ?_))
 refine AB h fun y2 hy2 h=>?_
 refine J E (AN 4 vX (gC hy2) E (J E (Ap E E E (Ap E E E (O E (O E (U (AE (Y (J E ?_))))))))))
 refine V E Bg (U ?_)
 refine AL h E (fun hc2 h=>?_) fun hc2 h=>?_
 refine Y (J E (O E (O E (U (AM (Ag ?_))))))
 obtain rfl:=zI h
 exact Ax (F1 E E E) (As (M:=[_,_,_,_]) (.inl ⟨E,E,E⟩) fun _ hw=>Br.pick (H:=[_,_,_,_]) hw [0,1,2,3] 4 E)
 refine AH (AI (Y ?_))
 refine AB h fun y3 hy3 h=>?_
 refine AB h fun d1 hd1 h=>?_
 refine J E (J E (J E (J E ?_)))
 refine Bx (vs:=[_,_,_,_]) (Hin:=[_,_,_,_]) (Hr:=_) E E ⟨E,E,E,E,zT⟩ vZ E E (dT hy3 hs1_) ?_
 rintro _ _ (⟨hn,-,-⟩ | ⟨d_,b1,v1,m1,hn,rfl,rfl⟩)
 rw[hd1]at hn;cases hn
 obtain rfl:d1=d_:=zI (hd1.symm.trans hn)
 refine⟨trivial,?_⟩
 refine J E (Ap E E E (Ap E E E (O E (O E (U (Y ?_))))))
 refine AB h fun y4 hy4 h=>?_
 refine J E (J E (J E ?_))
 refine Bx (vs:=[_]) (Hin:=[]) (Hr:=_::_::_::_::_::_::_::_) E E ⟨E,zT⟩ vc E E (nb hy4 hs1_) ?_
 rintro v2 _ ⟨_,rfl,rfl⟩
 refine⟨trivial,?_⟩
 refine J E ?_
 refine EI 0 E fun hv1 ho1=>?_
 refine Tq [vP A7 0,vP b1 0,v2,AC y1.1] [#[vP A7 0],#[vP b1 0],#[v2],#[AC y1.1]] (by simp only[List.map_cons,List.map_nil,hv1];rfl) E xk xf yB ⟨E,E,E,E,zT⟩ E ?_
 refine Bw E E zU fun b2=>?_
 refine Ci 43 4 Ac (Ci 148 3 AY (ny AC AC (J E (O E (O E (U (AM ?_)))))))
 obtain rfl:=zI h
 exact Ax (F1 E E E) (As (M:=[_,_,_,_,_,_,_,_,_,_,_,_]) (.inr ⟨_,b2,zN,zN,(.map none),v2,b1,v1,m1,E,E,E⟩) fun _ hw=>Br.pick (H:=[_,_,_,_,_,_,_,_,_,_,_,_]) hw [3,2,1,0,4,5,6,7,8,9,10,11] 12 E)
def Fu(n:Nat)(T:List UInt32)(p0:B3)(p0_1:BD)(p0_2:Au)(p1:List A3)(p2:List BU):Option (Int×BD×Au):=
 (KI p0_2).bind fun y1=>
 cond (!decide (y1.1=0))
 (
  some (y1.1,p0_1,y1.2))
 (
  (Gl y1.2).bind fun y2=>
  (A1 p2 (wI ((p2.length:Int)-1))).bind fun x1=>
  (Od y2.cnt p0.gen (p1.length:Int) (⟨x1.page,x1.tag⟩:Bo)).bind fun y3=>
  cond (!decide (y3.2=0))
  (
   some (y3.2,p0_1,y1.2))
  (
   (Lt n y3.1).bind fun y4=>
   (QF y3.1.cnt).bind fun y5=>
   (Pe T p0_1 y1.2 y5 y4.1).bind fun y6=>
   cond (!decide (y6.2.1=0))
   (
    some (y6.2.1,y6.2.2.1,y6.2.2.2))
   (
    (KI y6.2.2.2).bind fun y7=>
    cond (!decide (y7.1=0))
    (
     some (y7.1,y6.2.2.1,y7.2))
    (
     (M6 y7.2 y6.1).bind fun y8=>
     some (y8.1,y6.2.2.1,y8.2)))))
theorem OI{n A7 DX CA BY Bc Bd:Nat}{T:List UInt32}{BF Aj BK Bs CB Be FU H4:Value}{p0:B3}{p0_1:BD}{p0_2:Au}{p1:List A3}{p2:List BU}{r:Int×BD×Au}(h:Fu n T p0 p0_1 p0_2 p1 p2=some r)(hS:Hq K w0 T)(hs1_:CR K w0 Ac 4 FU p1)(hs2_:CR K w0 AY 3 H4 p2):zC K w0 84 [vP A7 0,FU,H4] [sO A7 BF Aj BK BY DX Bs p0,AD 43 4 BF Ac p0.rows,AD 148 3 Aj AY p0.pages,EU BK AC AC p0.gens,AD 55 2 Bs Ad p0.ring,vO DX BY CB CA p0_1,AD 55 2 CB Ad p0_1.ring,Al CA AC vB p0_1.taken,dO BY Be Bc Bd p0_2,AD 9 1 Be eS p0_2.blocks,Al Bc AC vS p0_2.pend,Al Bd AC vB p0_2.bad] H (fun u M=>u=vI r.1∧M=[sO A7 BF Aj BK BY DX Bs p0,AD 43 4 BF Ac p0.rows,AD 148 3 Aj AY p0.pages,EU BK AC AC p0.gens,AD 55 2 Bs Ad p0.ring,vO DX BY CB CA r.2.1,AD 55 2 CB Ad r.2.1.ring,Al CA AC vB r.2.1.taken,dO BY Be Bc Bd r.2.2,AD 9 1 Be eS r.2.2.blocks,Al Bc AC vS r.2.2.pend,Al Bd AC vB r.2.2.bad]):=by
 unfold Fu at h
 refine Vf.enter Tryz.func84 rfl rfl ?_
 refine Y (O E (U (AE (Y ?_))))
 refine AB h fun y1 hy1 h=>?_
 refine J E (AV E E (AF E QI (AG 0 Ow E (SL.pick [8,9,10,11,0,1,2,3,4,5,6,7] 12 (AN 4 Yw (RJ hy1) E (O E (U (Y (J E ?_)))))))))
 refine V E Bg (U ?_)
 refine AL h E (fun hc1 h=>?_) fun hc1 h=>?_
 refine Y (J E (O E (U (AM (Ag ?_)))))
 obtain rfl:=zI h
 exact AW [4,5,6,7,8,9,10,11,0,1,2,3] 12 E E E
 refine AH (AI (AE ?_))
 refine AB h fun y2 hy2 h=>?_
 refine AB h fun x1 hx1 h=>?_
 refine AB h fun y3 hy3 h=>?_
 refine Ai C2 [4] (BJ [(true,0),(true,1),(true,2),(true,3),(true,6),(true,7),(true,8),(true,9),(true,10),(true,11),(true,12),(true,13),(true,14),(true,15),(true,16),(true,17),(true,18)] (.alt 4 (BJ [(true,5)] (.alt 19 (BJ [(true,20),(true,21),(true,22),(false,23),(false,24)] (.last 25 .nil)) (.cons (false,23) (BJ [(false,19),(true,20),(true,21),(true,22),(false,24)] (.last 25 .nil))))) (.cons (false,23) (BJ [(false,4),(true,5),(false,19),(true,20),(true,21),(true,22),(false,24)] (.last 25 .nil))))) zK (J E (AV E E (AF E QI (AG 0 Ow E (J E (AV E E (AF E lL ?_)))))))
 refine AG 0 Ah E (J E (CW hs1_ E D8 E (J E (J E (CW hs2_ E MD E (V E BC ?_))))))
 refine EL hx1 hs2_ E MD MC E E fun be1 of1 hc2=>?_
 refine AF E Lx ?_
 refine BA [AC x1.page,vS x1.tag] E EZ E E (Zt (d:=1) hc2 E) ?_
 refine E6 ?_ ?_
 refine BT 4 Zo (Le hy2) E ⟨⟨4,E⟩,zT⟩ (WT E (show Z2 Tryz.prog 38 0=some 0 by kernel_rfl) E E ?_)
 refine E6 ?_ ?_
 refine BT 0 dV ((Sn hy3 :)) E ⟨⟨4,E⟩,zT⟩ (J E (Ap E E E (Ap E E E ?_)))
 refine A6 E Mx (fun _=>⟨⟨5,E⟩,zT⟩) fun b1=>?_
 refine BN 0 E E E E Om E E E ⟨⟨5,E⟩,zT⟩ (A4 (O E (U (AE (Y (J E (V E Bg (U ?_))))))))
 refine AL h E (fun hc3 h=>?_) fun hc3 h=>?_
 refine Y (J E (O E (U (AM (Ag ?_)))))
 obtain rfl:=zI h
 exact AW [5,6,7,8,9,10,11,12,1,2,3,4] 13 E E E
 refine AH (AI (Y ?_))
 refine AB h fun y4 hy4 h=>?_
 refine BA [Bh y3.1.cnt,AC y3.1.gen,AC y3.1.rows,AC y3.1.page,vS y3.1.tag] E KM E E (A2 0 E) (AN 0 dW ((Qh hy4 :)) E (J E (Ap E E E (Ap E E E (O E (O E (U (AE ?_))))))))
 refine AB h fun y5 hy5 h=>?_
 refine AB h fun y6 hy6 h=>?_
 refine Ai C2 [0,5] (BJ [(true,0),(true,1),(true,2),(true,3),(true,4),(true,5),(true,7),(false,6),(false,8),(false,9),(true,10),(true,11),(false,12)] (.last 13 .nil)) zK (J E (AV E E (AF E U2 (AG 1 Ue E (AF E NF (AG 0 Il E (J E ?_)))))))
 refine BT 0 dY (So hy5) E ⟨⟨0,E⟩,⟨5,E⟩,zT⟩ (SL.pick [10,11,12,1,2,3,4,0,5,6,7,8,9] 13 (BT 7 dX (UD hy6 hS) E ⟨⟨7,E⟩,⟨8,E⟩,zT⟩ (J E (Ap E E E (Ap E E E (O E (A4 (O E (U (AE (Y ?_)))))))))))
 refine J E (V E Bg (U ?_))
 refine AL h E (fun hc4 h=>?_) fun hc4 h=>?_
 refine Y (J E (O E (U (AM (Ag ?_)))))
 obtain rfl:=zI h
 exact AW [8,9,10,11,12,0,1,2,3,4,5,6] 13 E E E
 refine AH (AI (AE (Y ?_)))
 refine AB h fun y7 hy7 h=>?_
 refine J E (AV E E (AF E QI (AG 8 Ow E (SL.pick [3,4,5,6,0,1,2] 7 (AN 4 Yw (RJ hy7) E (O E (U (Y (J E ?_)))))))))
 refine V E Bg (U ?_)
 refine AL h E (fun hc5 h=>?_) fun hc5 h=>?_
 refine Y (J E (O E (U (AM (Ag ?_)))))
 obtain rfl:=zI h
 exact AW [8,9,10,11,12,4,5,6,0,1,2,3] 13 E E E
 refine AH (AI (Y ?_))
 refine AB h fun y8 hy8 h=>?_
 refine J E (AV E E (AF E QI (AG 8 Ow E (J E (AN 4 dZ (Rb hy8) E (O E (U (AM ?_))))))))
 obtain rfl:=zI h
 exact AW [8,9,10,11,12,4,5,6,0,1,2,3] 13 E E E
 refine A6 E Mx (fun _=>⟨⟨5,E⟩,zT⟩) fun b1=>?_
 refine BT 0 dV ((Sn hy3 :)) E ⟨⟨5,E⟩,zT⟩ (J E (Ap E E E (Ap E E E (BN 0 E E E E Om E E E ⟨⟨5,E⟩,zT⟩ (A4 (O E (U (AE (Y (J E (V E Bg (U ?_))))))))))))
 refine AL h E (fun hc3 h=>?_) fun hc3 h=>?_
 refine Y (J E (O E (U (AM (Ag ?_)))))
 obtain rfl:=zI h
 exact AW [5,6,7,8,9,10,11,12,1,2,3,4] 13 E E E
 refine AH (AI (Y ?_))
 refine AB h fun y4 hy4 h=>?_
 refine BA [Bh y3.1.cnt,AC y3.1.gen,AC y3.1.rows,AC y3.1.page,vS y3.1.tag] E KM E E (A2 0 E) (AN 0 dW ((Qh hy4 :)) E (J E (Ap E E E (Ap E E E (O E (O E (U (AE ?_))))))))
 refine AB h fun y5 hy5 h=>?_
 refine AB h fun y6 hy6 h=>?_
 refine Ai C2 [0,5] (BJ [(true,0),(true,1),(true,2),(true,3),(true,4),(true,5),(true,7),(false,6),(false,8),(false,9),(true,10),(true,11),(false,12)] (.last 13 .nil)) zK (J E (AV E E (AF E U2 (AG 1 Ue E (AF E NF (AG 0 Il E (J E ?_)))))))
 refine BT 0 dY (So hy5) E ⟨⟨0,E⟩,⟨5,E⟩,zT⟩ (SL.pick [10,11,12,1,2,3,4,0,5,6,7,8,9] 13 (BT 7 dX (UD hy6 hS) E ⟨⟨7,E⟩,⟨8,E⟩,zT⟩ (J E (Ap E E E (Ap E E E (O E (A4 (O E (U (AE (Y ?_)))))))))))
 refine J E (V E Bg (U ?_))
 refine AL h E (fun hc4 h=>?_) fun hc4 h=>?_
 refine Y (J E (O E (U (AM (Ag ?_)))))
 obtain rfl:=zI h
 exact AW [8,9,10,11,12,0,1,2,3,4,5,6] 13 E E E
 refine AH (AI (AE (Y ?_)))
 refine AB h fun y7 hy7 h=>?_
 refine J E (AV E E (AF E QI (AG 8 Ow E (SL.pick [3,4,5,6,0,1,2] 7 (AN 4 Yw (RJ hy7) E (O E (U (Y (J E ?_)))))))))
 refine V E Bg (U ?_)
 refine AL h E (fun hc5 h=>?_) fun hc5 h=>?_
 refine Y (J E (O E (U (AM (Ag ?_)))))
 obtain rfl:=zI h
 exact AW [8,9,10,11,12,4,5,6,0,1,2,3] 13 E E E
 refine AH (AI (Y ?_))
 refine AB h fun y8 hy8 h=>?_
 refine J E (AV E E (AF E QI (AG 8 Ow E (J E (AN 4 dZ (Rb hy8) E (O E (U (AM ?_))))))))
 obtain rfl:=zI h
 exact AW [8,9,10,11,12,4,5,6,0,1,2,3] 13 E E E
 refine A6 E Mx (fun _=>⟨⟨5,E⟩,zT⟩) fun b1=>?_
 refine SL.pick [1,2,3,4,0] 5 (BT 4 Zo (Le hy2) E ⟨⟨5,E⟩,zT⟩ (WT E (show Z2 Tryz.prog 38 0=some 0 by kernel_rfl) E E (BT 0 dV ((Sn hy3 :)) E ⟨⟨5,E⟩,zT⟩ (J E (Ap E E E (Ap E E E (BN 4 E E E E Om E E E ⟨⟨5,E⟩,zT⟩ (A4 ?_))))))))
 refine O E (U (AE (Y (J E (V E Bg (U ?_))))))
 refine AL h E (fun hc3 h=>?_) fun hc3 h=>?_
 refine Y (J E (O E (U (AM (Ag ?_)))))
 obtain rfl:=zI h
 exact AW [5,6,7,8,9,10,11,12,0,1,2,3] 13 E E E
 refine AH (AI (Y ?_))
 refine AB h fun y4 hy4 h=>?_
 refine BA [Bh y3.1.cnt,AC y3.1.gen,AC y3.1.rows,AC y3.1.page,vS y3.1.tag] E KM E E (A2 4 E) (AN 0 dW ((Qh hy4 :)) E (J E (Ap E E E (Ap E E E (O E (O E (U (AE ?_))))))))
 refine AB h fun y5 hy5 h=>?_
 refine AB h fun y6 hy6 h=>?_
 refine Ai C2 [4,5] (BJ [(true,0),(true,1),(true,2),(true,3),(true,4),(true,5),(true,7),(false,6),(false,8),(false,9),(true,10),(true,11),(false,12)] (.last 13 .nil)) zK (J E (AV E E (AF E U2 (AG 1 Ue E (AF E NF (AG 0 Il E (J E ?_)))))))
 refine BT 0 dY (So hy5) E ⟨⟨4,E⟩,⟨5,E⟩,zT⟩ (SL.pick [10,11,12,0,1,2,3,4,5,6,7,8,9] 13 (BT 7 dX (UD hy6 hS) E ⟨⟨7,E⟩,⟨8,E⟩,zT⟩ (J E (Ap E E E (Ap E E E (O E (A4 (O E (U (AE (Y ?_)))))))))))
 refine J E (V E Bg (U ?_))
 refine AL h E (fun hc4 h=>?_) fun hc4 h=>?_
 refine Y (J E (O E (U (AM (Ag ?_)))))
 obtain rfl:=zI h
 exact AW [8,9,10,11,12,0,1,2,3,4,5,6] 13 E E E
 refine AH (AI (AE (Y ?_)))
 refine AB h fun y7 hy7 h=>?_
 refine J E (AV E E (AF E QI (AG 8 Ow E (SL.pick [3,4,5,6,0,1,2] 7 (AN 4 Yw (RJ hy7) E (O E (U (Y (J E ?_)))))))))
 refine V E Bg (U ?_)
 refine AL h E (fun hc5 h=>?_) fun hc5 h=>?_
 refine Y (J E (O E (U (AM (Ag ?_)))))
 obtain rfl:=zI h
 exact AW [8,9,10,11,12,4,5,6,0,1,2,3] 13 E E E
 refine AH (AI (Y ?_))
 refine AB h fun y8 hy8 h=>?_
 refine J E (AV E E (AF E QI (AG 8 Ow E (J E (AN 4 dZ (Rb hy8) E (O E (U (AM ?_))))))))
 obtain rfl:=zI h
 exact AW [8,9,10,11,12,4,5,6,0,1,2,3] 13 E E E
def Fa(a2:Int)(nx_f_store_Store_moves_l2:List (UInt32×UInt32)×Int→Option (B3×BD))(l6:List (UInt32×UInt32)):Option (B3×BD):=
 nx_f_store_Store_moves_l2 (l6,wI (a2+1))
def Fb(a3:Int)(nx_f_store_Store_moves_l3:BD×Int→Option (B3×BD))(o3:BD):Option (B3×BD):=
 nx_f_store_Store_moves_l3 (o3,wI (a3+1))
def J7(p0:B3)(p1:List A3)(p2:List BU)(l4:List (UInt32×UInt32))(o1:BD):Option (B3×BD):=
 some ({ p0 with rows:=p1,pages:=p2,gens:=l4 },o1)
def Ev(p0:B3)(p0_2:Au)(p1:List A3)(p2:List BU)(l4:List (UInt32×UInt32))(nx_f_store_Store_moves_l3:BD×Int→Option (B3×BD))(o2:BD)(a3:Int):Option (B3×BD):=
 cond (decide (a3<(p0.pages.length:Int)))
 (
  (A1 p0.pages a3).bind fun x3=>
  ret ((Db l4 x3.page).getD 0) fun x4=>
  ret ((Db l4 x3.page).isSome) fun ok_1=>
  cond (!ok_1)
  (
   (Jc o2 p0_2 x3.page).bind fun y1=>
   Fb a3 nx_f_store_Store_moves_l3 y1.2)
  (
   Fb a3 nx_f_store_Store_moves_l3 o2))
 (
  J7 p0 p1 p2 l4 o2)
def Em(p0:B3)(p0_2:Au)(p1:List A3)(p2:List BU)(l4:List (UInt32×UInt32)):Nat→(BD×Int)→Option (B3×BD):=CH fun nx x=>Ev p0 p0_2 p1 p2 l4 nx x.1 x.2
def J6(n:Nat)(p0:B3)(p0_1:BD)(p0_2:Au)(p1:List A3)(p2:List BU)(l4:List (UInt32×UInt32)):Option (B3×BD):=
 Em p0 p0_2 p1 p2 l4 n (p0_1,0)
def Eu(n:Nat)(p0:B3)(p0_1:BD)(p0_2:Au)(p1:List A3)(p2:List BU)(l1:List (UInt32×BU))(nx_f_store_Store_moves_l2:List (UInt32×UInt32)×Int→Option (B3×BD))(l5:List (UInt32×UInt32))(a2:Int):Option (B3×BD):=
 cond (decide (a2<(p2.length:Int)))
 (
  (A1 p2 a2).bind fun x2=>
  (Oj l5 x2.page p0.gen).bind fun l7=>
  cond (decide (((Db l1 x2.page).getD (⟨[],0,[]⟩:BU)).txt=x2.txt)&&(decide (((Db l1 x2.page).getD (⟨[],0,[]⟩:BU)).page=x2.page)&&(decide (((Db l1 x2.page).getD (⟨[],0,[]⟩:BU)).tag=x2.tag)&&true)))
  (
   (Oj l7 x2.page ((Db p0.gens x2.page).getD 0)).bind fun l8=>
   Fa a2 nx_f_store_Store_moves_l2 l8)
  (
   Fa a2 nx_f_store_Store_moves_l2 l7))
 (
  J6 n p0 p0_1 p0_2 p1 p2 l5)
def El(n:Nat)(p0:B3)(p0_1:BD)(p0_2:Au)(p1:List A3)(p2:List BU)(l1:List (UInt32×BU)):Nat→(List (UInt32×UInt32)×Int)→Option (B3×BD):=CH fun nx x=>Eu n p0 p0_1 p0_2 p1 p2 l1 nx x.1 x.2
def J5(n:Nat)(p0:B3)(p0_1:BD)(p0_2:Au)(p1:List A3)(p2:List BU)(l1:List (UInt32×BU)):Option (B3×BD):=
 El n p0 p0_1 p0_2 p1 p2 l1 n ([],0)
def Et(n:Nat)(p0:B3)(p0_1:BD)(p0_2:Au)(p1:List A3)(p2:List BU)(nx_f_store_Store_moves_l1:List (UInt32×BU)×Int→Option (B3×BD))(l2:List (UInt32×BU))(a1:Int):Option (B3×BD):=
 cond (decide (a1<(p0.pages.length:Int)))
 (
  (A1 p0.pages a1).bind fun x1=>
  (Oj l2 x1.page x1).bind fun l3=>
  nx_f_store_Store_moves_l1 (l3,wI (a1+1)))
 (
  J5 n p0 p0_1 p0_2 p1 p2 l2)
def Fd(n:Nat)(p0:B3)(p0_1:BD)(p0_2:Au)(p1:List A3)(p2:List BU):Nat→(List (UInt32×BU)×Int)→Option (B3×BD):=CH fun nx x=>Et n p0 p0_1 p0_2 p1 p2 nx x.1 x.2
def Ge(n:Nat)(p0:B3)(p0_1:BD)(p0_2:Au)(p1:List A3)(p2:List BU):Option (B3×BD):=
 Fd n p0 p0_1 p0_2 p1 p2 n ([],0)
theorem Pd{n A7 DX CA BY Bc Bd:Nat}{BF Aj BK Bs CB Be FU H4:Value}{p0:B3}{p0_1:BD}{p0_2:Au}{p1:List A3}{p2:List BU}{r:B3×BD}(h:Ge n p0 p0_1 p0_2 p1 p2=some r): zC K w0 85 [vP A7 0,FU,H4] [sO A7 BF Aj BK BY DX Bs p0,AD 43 4 BF Ac p0.rows,AD 148 3 Aj AY p0.pages,EU BK AC AC p0.gens,AD 55 2 Bs Ad p0.ring,vO DX BY CB CA p0_1,AD 55 2 CB Ad p0_1.ring,Al CA AC vB p0_1.taken,dO BY Be Bc Bd p0_2,AD 9 1 Be eS p0_2.blocks,Al Bc AC vS p0_2.pend,Al Bd AC vB p0_2.bad,AD 43 4 FU Ac p1,AD 148 3 H4 AY p2] H (fun u M=>∃vs0_0_0 vs0_0_1 vs0_0_2:Value,u=.tuple #[]∧M=[sO A7 vs0_0_0 vs0_0_1 vs0_0_2 BY DX Bs r.1,AD 43 4 vs0_0_0 Ac r.1.rows,AD 148 3 vs0_0_1 AY r.1.pages,EU vs0_0_2 AC AC r.1.gens,AD 55 2 Bs Ad r.1.ring,vO DX BY CB CA r.2,AD 55 2 CB Ad r.2.ring,Al CA AC vB r.2.taken,dO BY Be Bc Bd p0_2,AD 9 1 Be eS p0_2.blocks,Al Bc AC vS p0_2.pend,Al Bd AC vB p0_2.bad]):=by
 unfold Ge at h
 refine Vf.enter Tryz.func85 rfl rfl ?_
 refine Y ?_
 refine Us AC Vr E zU fun b1=>?_
 refine O E (U ?_)
 refine Az (α:=List (UInt32×BU)) (fun x=>J5 n p0 p0_1 p0_2 p1 p2 x=some r) (fun x=>[(0,vP A7 0),(1,FU),(2,H4),(6,.map (some b1))]) (fun x=>sO A7 BF Aj BK BY DX Bs p0::AD 43 4 BF Ac p0.rows::AD 148 3 Aj AY p0.pages::EU BK AC AC p0.gens::dO BY Be Bc Bd p0_2::AD 9 1 Be eS p0_2.blocks::Al Bc AC vS p0_2.pend::Al Bd AC vB p0_2.bad::vO DX BY CB CA p0_1::AD 55 2 CB Ad p0_1.ring::Al CA AC vB p0_1.taken::AD 55 2 Bs Ad p0.ring::AD 43 4 FU Ac p1::AD 148 3 H4 AY p2::Al b1 AC Vr x::H) ?_ (fun l1 D h=>?_)
 refine Y (J E (AV E E (AF E RT (AF E eE (AG 1 SU E (FJ 3 E MD E E (J E (U (AK ?_)))))))))
 refine SX.heap (SX.mono (A9 (α:=Nat×List (UInt32×BU)×Int) (fun x=>Fd n p0 p0_1 p0_2 p1 p2 x.1 (x.2.1,x.2.2)=some r) (fun x=>[(0,vP A7 0),(1,FU),(2,H4),(6,.map (some b1)),(21,Aj),(22,vI (p0.pages.length:Int)),(23,vI x.2.2)]) (fun x=>sO A7 BF Aj BK BY DX Bs p0::AD 43 4 BF Ac p0.rows::AD 148 3 Aj AY p0.pages::EU BK AC AC p0.gens::dO BY Be Bc Bd p0_2::AD 9 1 Be eS p0_2.blocks::Al Bc AC vS p0_2.pend::Al Bd AC vB p0_2.bad::vO DX BY CB CA p0_1::AD 55 2 CB Ad p0_1.ring::Al CA AC vB p0_1.taken::AD 55 2 Bs Ad p0.ring::AD 43 4 FU Ac p1::AD 148 3 H4 AY p2::Al b1 AC Vr x.2.1::H) (fun x=>x.1) (fun x D h=>?_) (n,[],0) h) tL) (A5 [1,2,3,4,9,10,11,12,6,7,8,5,13,14,0] 15 E E E)
 obtain⟨m1,l2,a1⟩:=x
 dsimp only at h
 rcases m1 with _ | m1
 cases (show(none:Option _)=some r from h)
 replace h:Et n p0 p0_1 p0_2 p1 p2 (Fd n p0 p0_1 p0_2 p1 p2 m1) l2 a1=some r:=h
 unfold Et at h
 try dsimp only
 refine Y (V E BL (U (AE ?_)))
 refine AL h E (fun hc1 h=>?_) fun hc1 h=>?_
 refine AH (AI (AE (AK (Y ?_))))
 refine AB h fun x1 hx1 h=>?_
 refine AZ 2 hx1 E MD MC E E E fun g1 m2 cp1 hv1=>?_
 refine BA (AY x1) E Tx E E (N4 (sz:=3) (enc:=AY) 2 zV E hv1 hx1) ?_
 refine A6 E RA zU fun b2=>?_
 refine BN 0 E E E E MC E E E zT (U (AJ ?_))
 refine AB h fun l3 hl3 h=>?_
 refine J E (AF E Lx (AF E HB (AG 0 Ah E (BA [vS x1.txt,AC x1.page,vS x1.tag] E Tx E E (A2 0 E) ?_))))
 refine R5 (a:=x1) 15 hl3 (WO C6) E qa E E E E zT ?_
 refine AT (Ao (AI (AJ (V E Aw (J E (AT ?_))))))
 exact Am (m1,l3,wI (a1+1)) h (Nat.lt_succ_self _) tL (A5 [1,2,3,4,5,6,7,8,9,10,11,12,13,14,15] 16 E E E)
 refine Av (Ay (BP (A0 ?_)))
 exact Ak l2 h tL (A5 [0,1,2,3,4,5,6,7,8,9,10,11,12,13,14] 15 E E E)
 unfold J5 at h
 try dsimp only
 refine Y ?_
 refine Us AC AC E zU fun b3=>?_
 refine O E (U ?_)
 refine Az (α:=List (UInt32×UInt32)) (fun x=>J6 n p0 p0_1 p0_2 p1 p2 x=some r) (fun x=>[(0,vP A7 0),(1,FU),(2,H4),(9,.map (some b3))]) (fun x=>sO A7 BF Aj BK BY DX Bs p0::AD 43 4 BF Ac p0.rows::AD 148 3 Aj AY p0.pages::EU BK AC AC p0.gens::dO BY Be Bc Bd p0_2::AD 9 1 Be eS p0_2.blocks::Al Bc AC vS p0_2.pend::Al Bd AC vB p0_2.bad::vO DX BY CB CA p0_1::AD 55 2 CB Ad p0_1.ring::Al CA AC vB p0_1.taken::AD 55 2 Bs Ad p0.ring::AD 43 4 FU Ac p1::AD 148 3 H4 AY p2::Al b3 AC AC x::H) ?_ (fun l4 D h=>?_)
 refine Y (J E (FJ 14 E MD E E (J E (U (AK ?_)))))
 refine SX.heap (SX.mono (A9 (α:=Nat×List (UInt32×UInt32)×Int) (fun x=>El n p0 p0_1 p0_2 p1 p2 l1 x.1 (x.2.1,x.2.2)=some r) (fun x=>[(0,vP A7 0),(1,FU),(2,H4),(6,.map (some b1)),(9,.map (some b3)),(34,H4),(35,vI (p2.length:Int)),(36,vI x.2.2)]) (fun x=>sO A7 BF Aj BK BY DX Bs p0::AD 43 4 BF Ac p0.rows::AD 148 3 Aj AY p0.pages::EU BK AC AC p0.gens::dO BY Be Bc Bd p0_2::AD 9 1 Be eS p0_2.blocks::Al Bc AC vS p0_2.pend::Al Bd AC vB p0_2.bad::vO DX BY CB CA p0_1::AD 55 2 CB Ad p0_1.ring::Al CA AC vB p0_1.taken::AD 55 2 Bs Ad p0.ring::AD 43 4 FU Ac p1::AD 148 3 H4 AY p2::Al b1 AC Vr l1::Al b3 AC AC x.2.1::H) (fun x=>x.1) (fun x D h=>?_) (n,[],0) h) tL) (A5 [1,2,3,4,5,6,7,8,9,10,11,12,13,14,15,0] 16 E E E)
 obtain⟨m3,l5,a2⟩:=x
 dsimp only at h
 rcases m3 with _ | m3
 cases (show(none:Option _)=some r from h)
 replace h:Eu n p0 p0_1 p0_2 p1 p2 l1 (El n p0 p0_1 p0_2 p1 p2 l1 m3) l5 a2=some r:=h
 unfold Eu at h
 try dsimp only
 refine Y (V E BL (U (AE ?_)))
 refine AL h E (fun hc2 h=>?_) fun hc2 h=>?_
 refine AH (AI ?_)
 refine Az (α:=List (UInt32×UInt32)) (fun x=>Fa a2 (El n p0 p0_1 p0_2 p1 p2 l1 m3) x=some r) (fun x=>[(0,vP A7 0),(1,FU),(2,H4),(6,.map (some b1)),(9,.map (some b3)),(34,H4),(35,vI (p2.length:Int)),(36,vI a2)]) (fun x=>sO A7 BF Aj BK BY DX Bs p0::AD 43 4 BF Ac p0.rows::AD 148 3 Aj AY p0.pages::EU BK AC AC p0.gens::dO BY Be Bc Bd p0_2::AD 9 1 Be eS p0_2.blocks::Al Bc AC vS p0_2.pend::Al Bd AC vB p0_2.bad::vO DX BY CB CA p0_1::AD 55 2 CB Ad p0_1.ring::Al CA AC vB p0_1.taken::AD 55 2 Bs Ad p0.ring::AD 43 4 FU Ac p1::AD 148 3 H4 AY p2::Al b1 AC Vr l1::Al b3 AC AC x::H) ?_ (fun l6 D h=>?_)
 refine AK (Y ?_)
 refine AB h fun x2 hx2 h=>?_
 refine AZ 13 hx2 E MD MC E E E fun g2 m4 cp2 hv2=>?_
 refine BA (AY x2) E Tx E E (N4 (sz:=3) (enc:=AY) 13 zV E hv2 hx2) ?_
 refine A6 E RA zU fun b4=>?_
 refine BN 0 E E E E MC E E E zT (U (AE ?_))
 refine AB h fun l7 hl7 h=>?_
 refine Ai C2 [0,1] (BJ (Hp 0 8) (.last 8 .nil)) zK (J E (AF E Lx (AF E HB (AG 0 Ah E (J E (AV E E (AF E lL ?_)))))))
 refine AG 1 Ah E (A4 (R5 16 hl7 (Sb C6) E ln E E E E zT (U (Y (J E (AF E Lx (AF E HB (AG 0 Ah E ?_))))))))
 refine Yr (zv:=(⟨[],0,[]⟩:BU)) 15 (WO C6) E qa RA E E E ?_
 refine BA [vS x2.txt,AC x2.page,vS x2.tag] E Tx E E (A2 0 E) ?_
 refine ZF E (show gT Tryz.prog 148=some [(0,.string),(1,.int .u32),(2,.string)] by kernel_rfl) E E (DW E E (UI (a:=((Db l1 x2.page).getD (⟨[],0,[]⟩:BU)).txt) (b:=x2.txt)) (DW E E (KO (a:=((Db l1 x2.page).getD (⟨[],0,[]⟩:BU)).page) (b:=x2.page)) (DW E E (UI (a:=((Db l1 x2.page).getD (⟨[],0,[]⟩:BU)).tag) (b:=x2.tag)) Kc))) ?_
 refine U ?_
 refine AL h E (fun hc3 h=>?_) fun hc3 h=>?_
 refine AB h fun l8 hl8 h=>?_
 refine Ai C2 [0,1,4] (BJ (Hp 0 13) (.last 13 .nil)) zK (J E (AF E Lx (AF E HB (AG 0 Ah E (J E (AV E E (AF E RT ?_)))))))
 refine AF E uA (AG 1 xq E (AF E Lx (AF E HB (AG 0 Ah E ?_))))
 refine nr (zv:=0) 2 (Sb C6) E ln Jf E E E ?_
 refine A4 (R5 16 hl8 (Sb C6) E ln E E E E zT (AT (Ao ?_)))
 exact Ak l8 h tL (A5 [1,2,3,4,5,6,7,8,9,10,11,12,13,14,15,16] 17 E E E)
 refine AH (Ao ?_)
 exact Ak l7 h tL (A5 [1,2,3,4,5,6,7,8,9,10,11,12,13,14,15,16] 17 E E E)
 unfold Fa at h
 try dsimp only
 refine AJ (V E Aw (J E (AT ?_)))
 exact Am (m3,l6,wI (a2+1)) h (Nat.lt_succ_self _) tL (A5 [0,1,2,3,4,5,6,7,8,9,10,11,12,13,14,15] 16 E E E)
 refine Av (Ay (BP (A0 ?_)))
 exact Ak l5 h tL (A5 [0,1,2,3,4,5,6,7,8,9,10,11,12,13,15] 16 E E E)
 unfold J6 at h
 try dsimp only
 refine Az (α:=BD) (fun x=>J7 p0 p1 p2 l4 x=some r) (fun x=>[(0,vP A7 0),(1,FU),(2,H4),(9,.map (some b3))]) (fun x=>sO A7 BF Aj BK BY DX Bs p0::AD 43 4 BF Ac p0.rows::AD 148 3 Aj AY p0.pages::EU BK AC AC p0.gens::dO BY Be Bc Bd p0_2::AD 9 1 Be eS p0_2.blocks::Al Bc AC vS p0_2.pend::Al Bd AC vB p0_2.bad::vO DX BY CB CA x::AD 55 2 CB Ad x.ring::Al CA AC vB x.taken::AD 55 2 Bs Ad p0.ring::AD 43 4 FU Ac p1::AD 148 3 H4 AY p2::Al b3 AC AC l4::H) ?_ (fun o1 D h=>?_)
 refine Y (J E (AV E E (AF E RT (AF E eE (AG 0 SU E (FJ 2 E MD E E (J E (U (AK ?_)))))))))
 refine SX.heap (SX.mono (A9 (α:=Nat×BD×Int) (fun x=>Em p0 p0_2 p1 p2 l4 x.1 (x.2.1,x.2.2)=some r) (fun x=>[(0,vP A7 0),(1,FU),(2,H4),(9,.map (some b3)),(73,Aj),(74,vI (p0.pages.length:Int)),(75,vI x.2.2)]) (fun x=>sO A7 BF Aj BK BY DX Bs p0::AD 43 4 BF Ac p0.rows::AD 148 3 Aj AY p0.pages::EU BK AC AC p0.gens::dO BY Be Bc Bd p0_2::AD 9 1 Be eS p0_2.blocks::Al Bc AC vS p0_2.pend::Al Bd AC vB p0_2.bad::vO DX BY CB CA x.2.1::AD 55 2 CB Ad x.2.1.ring::Al CA AC vB x.2.1.taken::AD 55 2 Bs Ad p0.ring::AD 43 4 FU Ac p1::AD 148 3 H4 AY p2::Al b3 AC AC l4::H) (fun x=>x.1) (fun x D h=>?_) (n,p0_1,0) h) tL) (A5 [0,1,2,3,4,5,6,7,8,9,10,11,12,13,14] 15 E E E)
 obtain⟨m5,o2,a3⟩:=x
 dsimp only at h
 rcases m5 with _ | m5
 cases (show(none:Option _)=some r from h)
 replace h:Ev p0 p0_2 p1 p2 l4 (Em p0 p0_2 p1 p2 l4 m5) o2 a3=some r:=h
 unfold Ev at h
 try dsimp only
 refine Y (V E BL (U (AE ?_)))
 refine AL h E (fun hc4 h=>?_) fun hc4 h=>?_
 refine AH (AI ?_)
 refine Az (α:=BD) (fun x=>Fb a3 (Em p0 p0_2 p1 p2 l4 m5) x=some r) (fun x=>[(0,vP A7 0),(1,FU),(2,H4),(9,.map (some b3)),(73,Aj),(74,vI (p0.pages.length:Int)),(75,vI a3)]) (fun x=>sO A7 BF Aj BK BY DX Bs p0::AD 43 4 BF Ac p0.rows::AD 148 3 Aj AY p0.pages::EU BK AC AC p0.gens::dO BY Be Bc Bd p0_2::AD 9 1 Be eS p0_2.blocks::Al Bc AC vS p0_2.pend::Al Bd AC vB p0_2.bad::vO DX BY CB CA x::AD 55 2 CB Ad x.ring::Al CA AC vB x.taken::AD 55 2 Bs Ad p0.ring::AD 43 4 FU Ac p1::AD 148 3 H4 AY p2::Al b3 AC AC l4::H) ?_ (fun o3 D h=>?_)
 refine AK (Y ?_)
 refine AB h fun x3 hx3 h=>?_
 refine AZ 2 hx3 E MD MC E E E fun g3 m6 cp3 hv3=>?_
 refine BA (AY x3) E Tx E E (N4 (sz:=3) (enc:=AY) 2 zV E hv3 hx3) ?_
 refine A6 E RA zU fun b5=>?_
 refine BN 0 E E E E MC E E E zT (U (Y ?_))
 obtain⟨x4,ex4,h⟩:=BG h
 obtain⟨ok_1,eok_1,h⟩:=BG h
 refine J E (AF E Lx (AF E HB (AG 0 Ah E ?_)))
 refine bY (zv:=0) 15 (Sb C6) E ln Jf E E E ?_
 refine J E (Ap E E E (Ap E E E ?_))
 refine AX (u:=AC x4) E E (congrArg AC ex4) ?_
 refine AX (u:=vB ok_1) E E (congrArg vB eok_1) ?_
 refine U (Y (J E (CO E E (U ?_))))
 refine AL h E (fun hc5 h=>?_) fun hc5 h=>?_
 refine AB h fun y1 hy1 h=>?_
 refine Ai C2 [0,1] (BJ (Hp 0 7) (.last 7 .nil)) zK (J E (AV E E (AF E U2 (AG 1 Ue E (AF E Lx (AF E HB (AG 0 Ah E (A4 ?_))))))))
 refine SL.pick [9,10,11,5,6,7,8,0,1,2,3,4] 12 (AN 7 kV (Zm hy1) E (AT (Ao ?_)))
 exact Ak y1.2 h tL (A5 [8,9,10,11,3,4,5,6,0,1,2,12,13,14,15] 16 E E E)
 refine AH (Ao ?_)
 exact Ak o2 h tL (A5 [1,2,3,4,5,6,7,8,9,10,11,12,13,14,15] 16 E E E)
 unfold Fb at h
 try dsimp only
 refine AJ (V E Aw (J E (AT ?_)))
 exact Am (m5,o3,wI (a3+1)) h (Nat.lt_succ_self _) tL (A5 [0,1,2,3,4,5,6,7,8,9,10,11,12,13,14] 15 E E E)
 refine Av (Ay (BP (A0 ?_)))
 exact Ak o2 h tL (A5 [0,1,2,3,4,5,6,7,8,9,10,11,12,13,14] 15 E E E)
 unfold J7 at h
 try dsimp only
 refine AJ (J E (J E (J E (J E ?_))))
 refine EI 12 E fun hv4 ho1=>?_
 refine EI 13 E fun hv5 ho2=>?_
 refine Tq [FU,H4,.map (some b3)] [#[FU],#[H4],#[.map (some b3)]] (by simp only[List.map_cons,List.map_nil,hv4,hv5];rfl) E xj xe yA ⟨E,E,E,zT⟩ E (AV E E (AF E RT ?_))
 refine EI 12 E fun hv6 ho3=>?_
 refine EI 13 E fun hv7 ho4=>?_
 refine BN 0 E E E E xu E (show[FU,H4,.map (some b3)].all (·.oneCell')=true by simp only[List.all_cons,ho3,ho4];rfl) E zT ?_
 refine rO 14 E ?_ zT
 refine AT ?_
 obtain rfl:=zI h
 exact D5 (E4 E) (As (M:=[_,_,_,_,_,_,_,_,_,_,_,_]) ⟨FU,H4,(.map (some b3)),E,E⟩ fun _ hw=>Br.pick (H:=[_,_,_,_,_,_,_,_,_,_,_,_,_,_,_]) hw [0,12,13,14,11,8,9,10,4,5,6,7] 15 E)
def GP(n:Nat)(p0:B3)(p1:List A3)(y1:List BU×Int×BD×Au)(o1:Au)(o2:BD)(a1:Int):Option (Int×B3×BD×Au):=
 cond (!decide (a1=0))
 (
  some (a1,{ p0 with bad:=true },o2,o1))
 (
  (Ge n p0 o2 o1 p1 y1.1).bind fun y3=>
  some (0,y3.1,y3.2,o1))
def FT(n:Nat)(T:List UInt32)(p0:B3)(p0_1:BD)(p0_2:Au)(p1:List A3)(p2:List BU):Option (Int×B3×BD×Au):=
 (Ud n T p0_1 p0_2 p1 p2).bind fun y1=>
 ret (decide (y1.2.1=110)) fun x1=>
 cond x1
 (
  some (y1.2.1,p0,y1.2.2.1,y1.2.2.2))
 (
  ret (decide (y1.2.1=0)) fun x2=>
  cond x2
  (
   (Fu n T p0 y1.2.2.1 y1.2.2.2 p1 y1.1).bind fun y2=>
   GP n p0 p1 y1 y2.2.2 y2.2.1 y2.1)
  (
   GP n p0 p1 y1 y1.2.2.2 y1.2.2.1 y1.2.1))
theorem Th{n A7 DX CA BY Bc Bd:Nat}{T:List UInt32}{BF Aj BK Bs CB Be FU H4:Value}{p0:B3}{p0_1:BD}{p0_2:Au}{p1:List A3}{p2:List BU}{r:Int×B3×BD×Au}(h:FT n T p0 p0_1 p0_2 p1 p2=some r)(hS:Hq K w0 T)(hs2_:CR K w0 AY 3 H4 p2):zC K w0 55 [vP A7 0,FU,H4] [sO A7 BF Aj BK BY DX Bs p0,AD 43 4 BF Ac p0.rows,AD 148 3 Aj AY p0.pages,EU BK AC AC p0.gens,AD 55 2 Bs Ad p0.ring,vO DX BY CB CA p0_1,AD 55 2 CB Ad p0_1.ring,Al CA AC vB p0_1.taken,dO BY Be Bc Bd p0_2,AD 9 1 Be eS p0_2.blocks,Al Bc AC vS p0_2.pend,Al Bd AC vB p0_2.bad,AD 43 4 FU Ac p1] H (fun u M=>∃vs0_0_0 vs0_0_1 vs0_0_2:Value,u=vI r.1∧M=[sO A7 vs0_0_0 vs0_0_1 vs0_0_2 BY DX Bs r.2.1,AD 43 4 vs0_0_0 Ac r.2.1.rows,AD 148 3 vs0_0_1 AY r.2.1.pages,EU vs0_0_2 AC AC r.2.1.gens,AD 55 2 Bs Ad r.2.1.ring,vO DX BY CB CA r.2.2.1,AD 55 2 CB Ad r.2.2.1.ring,Al CA AC vB r.2.2.1.taken,dO BY Be Bc Bd r.2.2.2,AD 9 1 Be eS r.2.2.2.blocks,Al Bc AC vS r.2.2.2.pend,Al Bd AC vB r.2.2.2.bad]):=by
 unfold FT at h
 refine Vf.enter Tryz.func55 rfl rfl ?_
 refine Y (O E (U (Y ?_)))
 refine AB h fun y1 hy1 h=>?_
 refine J E (AV E E (AF E U2 (AG 0 Ue E (J E (J E (SL.pick [12,5,6,7,8,9,10,11,0,1,2,3,4] 13 ?_))))))
 refine Bx (vs:=[_,_,_]) (Hin:=[_,_,_,_,_,_,_,_]) (Hr:=_::_::_::_::_::_) E E ⟨E,E,E,zT⟩ ow E E (Dm (B:=[_]) (Hin:=[_,_,_,_,_,_,_]) fun K' w1 hk hB=>lz hy1 (hS.keeps hk) (C1 (e:=43) (v:=FU) zV (hB _ zS)) (hs2_.keeps hk)) ?_
 rintro _ _ ⟨_,rfl,v1,rfl,rfl⟩
 refine⟨trivial,?_⟩
 refine J E (Ap E E E (Ap E E E (O E (O E (U ?_)))))
 refine Az (α:=Au×BD×Int) (fun x=>GP n p0 p1 y1 x.1 x.2.1 x.2.2=some r) (fun x=>[(0,vP A7 0),(1,FU),(7,v1),(8,vI x.2.2)]) (fun x=>sO A7 BF Aj BK BY DX Bs p0::AD 43 4 BF Ac p0.rows::AD 148 3 Aj AY p0.pages::EU BK AC AC p0.gens::dO BY Be Bc Bd x.1::AD 9 1 Be eS x.1.blocks::Al Bc AC vS x.1.pend::Al Bd AC vB x.1.bad::vO DX BY CB CA x.2.1::AD 55 2 CB Ad x.2.1.ring::Al CA AC vB x.2.1.taken::AD 55 2 Bs Ad p0.ring::AD 43 4 FU Ac p1::AD 148 3 v1 AY y1.1::H) ?_ (fun x D h=>?_)
 refine Y (J E (U (AK (Y ?_))))
 obtain⟨x1,ex1,h⟩:=BG h
 refine V E Bv ?_
 refine AX (u:=vB x1) E E (congrArg vB ex1) ?_
 refine U ?_
 refine AL h E (fun hc1 h=>?_) fun hc1 h=>?_
 refine Y (J E (O E (U (AM (BO (F9 ?_))))))
 obtain rfl:=zI h
 exact CC [9,10,11,12,13,2,3,4,5,6,7,8] 14 (D7 E E) E E ⟨BF,Aj,BK,E,E⟩
 refine Y ?_
 obtain⟨x2,ex2,h⟩:=BG h
 refine V E Bv ?_
 refine AX (u:=vB x2) E E (congrArg vB ex2) ?_
 refine U ?_
 refine AL h E (fun hc2 h=>?_) fun hc2 h=>?_
 refine AJ ?_
 refine AB h fun y2 hy2 h=>?_
 refine J E (J E (J E (SL.pick [0,1,9,10,11,12,13,2,3,4,5,6,7,8] 14 ?_)))
 refine Bx (vs:=[_,_,_]) (Hin:=[_,_,_,_,_,_,_,_,_,_,_,_,_,_]) (Hr:=_) E E ⟨E,E,E,zT⟩ ox E E (Dm (B:=[_,_]) (Hin:=[_,_,_,_,_,_,_,_,_,_,_,_]) fun K' w1 hk hB=>OI hy2 (hS.keeps hk) (C1 (e:=43) (v:=FU) zV (hB _ zS)) (C1 (e:=148) (v:=v1) zV (hB _ zS))) ?_
 rintro _ _ ⟨_,rfl,rfl,rfl⟩
 refine⟨trivial,?_⟩
 refine O E (AT (Ao ?_))
 exact Ak (y2.2.2,y2.2.1,y2.1) h tL (A5 [2,3,4,5,10,11,12,13,7,8,9,6,0,1] 14 E E E)
 refine AH (Ao ?_)
 exact Ak (y1.2.2.2,y1.2.2.1,y1.2.1) h tL (A5 [9,10,11,12,5,6,7,8,2,3,4,13,0,1] 14 E E E)
 obtain⟨o1,o2,a1⟩:=x
 dsimp only at h
 unfold GP at h
 try dsimp only
 refine AE (Y (J E (V E Bg (U ?_))))
 refine AL h E (fun hc3 h=>?_) fun hc3 h=>?_
 refine Y (J E (AV E E (AF E eF (BN 0 E E E E Ti E E E zT (U (Y (J E (O E (U (AM (Ag ?_)))))))))))
 obtain rfl:=zI h
 exact CC [0,1,2,3,11,8,9,10,4,5,6,7] 14 (D7 E E) E E ⟨BF,Aj,BK,E,E⟩
 refine AH (AI (Y ?_))
 refine AB h fun y3 hy3 h=>?_
 refine J E (J E (J E (SL.pick [0,1,2,3,11,8,9,10,4,5,6,7,12,13] 14 (Bi 14 oy (Pd hy3) E ?_))))
 rintro _ _ ⟨v2,v3,v4,rfl,rfl⟩
 refine U (Y (O E (U (AM ?_))))
 obtain rfl:=zI h
 exact CC [0,1,2,3,4,5,6,7,8,9,10,11] 12 (D7 E E) E E ⟨v2,v3,v4,E,E⟩
def G5(n:Nat)(p0:B3)(p1:List A3)(y1:List BU×Int×BD×Au)(o1:Au)(o2:BD)(a1:Int):Option (Int×B3×BD×Au):=
 cond (!decide (a1=0))
 (
  some (a1,{ p0 with bad:=true },o2,o1))
 (
  (Ge n p0 o2 o1 p1 y1.1).bind fun y3=>
  some (0,y3.1,y3.2,o1))
def Gq(n:Nat)(T:List UInt32)(p0:B3)(p0_1:BD)(p0_2:Au)(p1:List A3):Option (Int×B3×BD×Au):=
 (Ud n T p0_1 p0_2 p1 p0.pages).bind fun y1=>
 ret (decide (y1.2.1=110)) fun x1=>
 cond x1
 (
  some (y1.2.1,p0,y1.2.2.1,y1.2.2.2))
 (
  ret (decide (y1.2.1=0)) fun x2=>
  cond x2
  (
   (Fu n T p0 y1.2.2.1 y1.2.2.2 p1 y1.1).bind fun y2=>
   G5 n p0 p1 y1 y2.2.2 y2.2.1 y2.1)
  (
   G5 n p0 p1 y1 y1.2.2.2 y1.2.2.1 y1.2.1))
theorem Sp{n A7 DX CA BY Bc Bd:Nat}{T:List UInt32}{BF Aj BK Bs CB Be FU:Value}{p0:B3}{p0_1:BD}{p0_2:Au}{p1:List A3}{r:Int×B3×BD×Au}(h:Gq n T p0 p0_1 p0_2 p1=some r)(hS:Hq K w0 T):zC K w0 55 [vP A7 0,FU,Aj] [sO A7 BF Aj BK BY DX Bs p0,AD 43 4 BF Ac p0.rows,AD 148 3 Aj AY p0.pages,EU BK AC AC p0.gens,AD 55 2 Bs Ad p0.ring,vO DX BY CB CA p0_1,AD 55 2 CB Ad p0_1.ring,Al CA AC vB p0_1.taken,dO BY Be Bc Bd p0_2,AD 9 1 Be eS p0_2.blocks,Al Bc AC vS p0_2.pend,Al Bd AC vB p0_2.bad,AD 43 4 FU Ac p1] H (fun u M=>∃vs0_0_0 vs0_0_1 vs0_0_2:Value,u=vI r.1∧M=[sO A7 vs0_0_0 vs0_0_1 vs0_0_2 BY DX Bs r.2.1,AD 43 4 vs0_0_0 Ac r.2.1.rows,AD 148 3 vs0_0_1 AY r.2.1.pages,EU vs0_0_2 AC AC r.2.1.gens,AD 55 2 Bs Ad r.2.1.ring,vO DX BY CB CA r.2.2.1,AD 55 2 CB Ad r.2.2.1.ring,Al CA AC vB r.2.2.1.taken,dO BY Be Bc Bd r.2.2.2,AD 9 1 Be eS r.2.2.2.blocks,Al Bc AC vS r.2.2.2.pend,Al Bd AC vB r.2.2.2.bad]):=by
 unfold Gq at h
 refine Vf.enter Tryz.func55 rfl rfl ?_
 refine Y (O E (U (Y ?_)))
 refine AB h fun y1 hy1 h=>?_
 refine J E (AV E E (AF E U2 (AG 0 Ue E (J E (J E (SL.pick [12,2,5,6,7,8,9,10,11,0,1,3,4] 13 ?_))))))
 refine Bx (vs:=[_,_,_]) (Hin:=[_,_,_,_,_,_,_,_,_]) (Hr:=_::_::_::_::_) E E ⟨E,E,E,zT⟩ ow E E (Dm (B:=[_,_]) (Hin:=[_,_,_,_,_,_,_]) fun K' w1 hk hB=>lz hy1 (hS.keeps hk) (C1 (e:=43) (v:=FU) zV (hB _ zS)) (C1 (e:=148) (v:=Aj) zV (hB _ zS))) ?_
 rintro _ _ ⟨_,rfl,v1,rfl,rfl⟩
 refine⟨trivial,?_⟩
 refine J E (Ap E E E (Ap E E E (O E (O E (U ?_)))))
 refine Az (α:=Au×BD×Int) (fun x=>G5 n p0 p1 y1 x.1 x.2.1 x.2.2=some r) (fun x=>[(0,vP A7 0),(1,FU),(7,v1),(8,vI x.2.2)]) (fun x=>sO A7 BF Aj BK BY DX Bs p0::AD 43 4 BF Ac p0.rows::AD 148 3 Aj AY p0.pages::EU BK AC AC p0.gens::dO BY Be Bc Bd x.1::AD 9 1 Be eS x.1.blocks::Al Bc AC vS x.1.pend::Al Bd AC vB x.1.bad::vO DX BY CB CA x.2.1::AD 55 2 CB Ad x.2.1.ring::Al CA AC vB x.2.1.taken::AD 55 2 Bs Ad p0.ring::AD 43 4 FU Ac p1::AD 148 3 v1 AY y1.1::H) ?_ (fun x D h=>?_)
 refine Y (J E (U (AK (Y ?_))))
 obtain⟨x1,ex1,h⟩:=BG h
 refine V E Bv ?_
 refine AX (u:=vB x1) E E (congrArg vB ex1) ?_
 refine U ?_
 refine AL h E (fun hc1 h=>?_) fun hc1 h=>?_
 refine Y (J E (O E (U (AM (BO (F9 ?_))))))
 obtain rfl:=zI h
 exact CC [10,11,1,12,13,3,4,5,6,7,8,9] 14 (D7 E E) E E ⟨BF,Aj,BK,E,E⟩
 refine Y ?_
 obtain⟨x2,ex2,h⟩:=BG h
 refine V E Bv ?_
 refine AX (u:=vB x2) E E (congrArg vB ex2) ?_
 refine U ?_
 refine AL h E (fun hc2 h=>?_) fun hc2 h=>?_
 refine AJ ?_
 refine AB h fun y2 hy2 h=>?_
 refine J E (J E (J E (SL.pick [0,2,10,11,1,12,13,3,4,5,6,7,8,9] 14 ?_)))
 refine Bx (vs:=[_,_,_]) (Hin:=[_,_,_,_,_,_,_,_,_,_,_,_,_,_]) (Hr:=_) E E ⟨E,E,E,zT⟩ ox E E (Dm (B:=[_,_]) (Hin:=[_,_,_,_,_,_,_,_,_,_,_,_]) fun K' w1 hk hB=>OI hy2 (hS.keeps hk) (C1 (e:=43) (v:=FU) zV (hB _ zS)) (C1 (e:=148) (v:=v1) zV (hB _ zS))) ?_
 rintro _ _ ⟨_,rfl,rfl,rfl⟩
 refine⟨trivial,?_⟩
 refine O E (AT (Ao ?_))
 exact Ak (y2.2.2,y2.2.1,y2.1) h tL (A5 [2,3,4,5,10,11,12,13,7,8,9,6,0,1] 14 E E E)
 refine AH (Ao ?_)
 exact Ak (y1.2.2.2,y1.2.2.1,y1.2.1) h tL (A5 [10,11,1,12,6,7,8,9,3,4,5,13,0,2] 14 E E E)
 obtain⟨o1,o2,a1⟩:=x
 dsimp only at h
 unfold G5 at h
 try dsimp only
 refine AE (Y (J E (V E Bg (U ?_))))
 refine AL h E (fun hc3 h=>?_) fun hc3 h=>?_
 refine Y (J E (AV E E (AF E eF (BN 0 E E E E Ti E E E zT (U (Y (J E (O E (U (AM (Ag ?_)))))))))))
 obtain rfl:=zI h
 exact CC [0,1,2,3,11,8,9,10,4,5,6,7] 14 (D7 E E) E E ⟨BF,Aj,BK,E,E⟩
 refine AH (AI (Y ?_))
 refine AB h fun y3 hy3 h=>?_
 refine J E (J E (J E (SL.pick [0,1,2,3,11,8,9,10,4,5,6,7,12,13] 14 (Bi 14 oy (Pd hy3) E ?_))))
 rintro _ _ ⟨v2,v3,v4,rfl,rfl⟩
 refine U (Y (O E (U (AM ?_))))
 obtain rfl:=zI h
 exact CC [0,1,2,3,4,5,6,7,8,9,10,11] 12 (D7 E E) E E ⟨v2,v3,v4,E,E⟩
def Kb(o1:Au)(o2:B3)(o3:BD)(a1:Int):Option (Option (B3×BD)×Int×Au):=
 cond (!decide (a1=0))
 (
  some (none,a1,o1))
 (
  some (some (o2,o3),0,o1))
def Kv(n:Nat)(T:List UInt32)(p0:Au)(p1:List Bf):Option (Option (B3×BD)×Int×Au):=
 (Jq p1).bind fun y1=>
 (E3 (decide (y1.2=0)) ((I4 p0).bind fun y2=>some (y2))).bind fun y3=>
 cond y3
 (
  some (none,72,p0))
 (
  (Lu p0 p1).bind fun y4=>
  (y4.1).bind fun d1=>
  cond (decide (y4.2.1=0))
  (
   (FT n T d1.1 d1.2 y4.2.2 [] []).bind fun y5=>
   Kb y5.2.2.2 y5.2.1 y5.2.2.1 y5.1)
  (
   Kb y4.2.2 d1.1 d1.2 y4.2.1))
theorem Yl{n A7 BX Cb:Nat}{T:List UInt32}{Cc FU:Value}{p0:Au}{p1:List Bf}{r:Option (B3×BD)×Int×Au}(h:Kv n T p0 p1=some r)(hS:Hq K w0 T)(hs1_:CR K w0 Ad 2 FU p1):zC K w0 29 [vP A7 0,FU] [dO A7 Cc BX Cb p0,AD 9 1 Cc eS p0.blocks,Al BX AC vS p0.pend,Al Cb AC vB p0.bad] H (fun u M=>(r.1=none∧u=.tuple #[.pointer none,vI r.2.1]∧M=[dO A7 Cc BX Cb r.2.2,AD 9 1 Cc eS r.2.2.blocks,Al BX AC vS r.2.2.pend,Al Cb AC vB r.2.2.bad])∨(∃(d:B3×BD) (bn0:Nat) (vn0x0:Value) (vn0x1:Value) (vn0x2:Value) (vn0x5:Value) (bn1:Nat) (vn1x1:Value) (mn1x5:Nat),r.1=some d∧u=.tuple #[vP bn0 0,vI r.2.1]∧M=[sO bn0 vn0x0 vn0x1 vn0x2 A7 bn1 vn0x5 d.1,AD 43 4 vn0x0 Ac d.1.rows,AD 148 3 vn0x1 AY d.1.pages,EU vn0x2 AC AC d.1.gens,AD 55 2 vn0x5 Ad d.1.ring,vO bn1 A7 vn1x1 mn1x5 d.2,AD 55 2 vn1x1 Ad d.2.ring,Al mn1x5 AC vB d.2.taken,dO A7 Cc BX Cb r.2.2,AD 9 1 Cc eS r.2.2.blocks,Al BX AC vS r.2.2.pend,Al Cb AC vB r.2.2.bad])):=by
 unfold Kv at h
 refine Vf.enter Tryz.func29 rfl rfl ?_
 refine Y (O E (O E (U (AE (Y (J E (GJ E YY E E (U (EO E (AH (AI (AE (Y ?_)))))))))))))
 refine AB h fun y1 hy1 h=>?_
 refine J E (AN 0 om (T3 hy1 hs1_) E (J E (Ap E E E (Ap E E E (O E (O E (U (Y ?_))))))))
 refine AB h fun y3 hy3 h=>?_
 refine J E (V E Bv (J E ?_))
 refine Du 19 3 22 hy3 E (fun hb hg1 k=>?_) (fun hb k=>?_) ?_
 obtain⟨y2,hy2,hg1⟩:=Da hg1
 obtain rfl:=zI hg1
 refine J E (AN 4 oo (TU hy2) E (An E E E ?_))
 exact k.mono tL
 refine AA E (AA E (An E E E ?_))
 exact k.mono tL
 refine U ?_
 refine AL h E (fun hc2 h=>?_) fun hc2 h=>?_
 refine Y (O E (O E (U (AM (Ag ?_)))))
 obtain rfl:=zI h
 exact Ax (F1 E E E) (As (M:=[_,_,_,_]) (.inl ⟨E,E,E⟩) fun _ hw=>Br.pick (H:=[_,_,_,_]) hw [0,1,2,3] 4 E)
 refine AH (AI (Y ?_))
 refine AB h fun y4 hy4 h=>?_
 refine AB h fun d1 hd1 h=>?_
 refine J E (J E ?_)
 refine Bx (vs:=[_,_]) (Hin:=[_,_,_,_]) (Hr:=_) E E ⟨E,E,zT⟩ vJ E E (Zl hy4 hs1_) ?_
 rintro _ _ (⟨hn,-,-⟩ | ⟨d_,b1,v1,v2,v3,v4,b2,v5,m1,hn,rfl,rfl⟩)
 rw[hd1]at hn;cases hn
 obtain rfl:d1=d_:=zI (hd1.symm.trans hn)
 refine⟨trivial,?_⟩
 refine J E (Ap E E E (Ap E E E (O E (O E (U ?_)))))
 refine Az (α:=Au×B3×Value×Value×Value×BD×Int) (fun x=>Kb x.1 x.2.1 x.2.2.2.2.2.1 x.2.2.2.2.2.2=some r) (fun x=>[(0,vP A7 0),(8,vP b1 0),(9,vI x.2.2.2.2.2.2)]) (fun x=>dO A7 Cc BX Cb x.1::AD 9 1 Cc eS x.1.blocks::Al BX AC vS x.1.pend::Al Cb AC vB x.1.bad::sO b1 x.2.2.1 x.2.2.2.1 x.2.2.2.2.1 A7 b2 v4 x.2.1::AD 43 4 x.2.2.1 Ac x.2.1.rows::AD 148 3 x.2.2.2.1 AY x.2.1.pages::EU x.2.2.2.2.1 AC AC x.2.1.gens::vO b2 A7 v5 m1 x.2.2.2.2.2.1::AD 55 2 v5 Ad x.2.2.2.2.2.1.ring::Al m1 AC vB x.2.2.2.2.2.1.taken::AD 55 2 v4 Ad x.2.1.ring::H) ?_ (fun x D h=>?_)
 refine Y (J E (V E Bv (U ?_)))
 refine AL h E (fun hc3 h=>?_) fun hc3 h=>?_
 refine AJ ?_
 refine AB h fun y5 hy5 h=>?_
 refine J E (Ci 43 4 Ac (SL.pick [1,2,3,4,5,6,7,8,9,10,11,12,0] 13 ?_))
 refine Bi 13 oq (Th hy5 hS (CR.nil zV)) E ?_
 rintro _ _ ⟨v9,v10,v11,rfl,rfl⟩
 refine O E (AT ?_)
 exact Ak (y5.2.2.2,y5.2.1,v9,v10,v11,y5.2.2.1,y5.1) h tL (A5 [8,9,10,11,0,1,2,3,5,6,7,4] 12 E E E)
 refine AH ?_
 exact Ak (y4.2.2,d1.1,v1,v2,v3,d1.2,y4.2.1) h tL (A5 [8,9,10,11,0,1,2,3,5,6,7,4] 12 E E E)
 obtain⟨o1,o2,v6,v7,v8,o3,a1⟩:=x
 dsimp only at h
 unfold Kb at h
 try dsimp only
 refine AE (Y (J E (V E Bg (U ?_))))
 refine AL h E (fun hc4 h=>?_) fun hc4 h=>?_
 refine Y (J E (O E (O E (U (AM (Ag ?_))))))
 obtain rfl:=zI h
 exact Ax (F1 E E E) (As (M:=[_,_,_,_]) (.inl ⟨E,E,E⟩) fun _ hw=>Br.pick (H:=[_,_,_,_,_,_,_,_,_,_,_,_]) hw [0,1,2,3] 12 E)
 refine AH (AI (Y (J E (O E (O E (U (AM ?_)))))))
 obtain rfl:=zI h
 exact Ax (F1 E E E) (As (M:=[_,_,_,_,_,_,_,_,_,_,_,_]) (.inr ⟨_,b1,v6,v7,v8,v4,b2,v5,m1,E,E,E⟩) fun _ hw=>Br.pick (H:=[_,_,_,_,_,_,_,_,_,_,_,_]) hw [4,5,6,7,11,8,9,10,0,1,2,3] 12 E)
def HU(p0:B3)(p0_1:BD)(p0_2:Au):Option Int:=
 cond p0.bad
 (
  some 131)
 (
  some 0)
theorem UC{A7 DX CA BY Bc Bd:Nat}{BF Aj BK Bs CB Be:Value}{p0:B3}{p0_1:BD}{p0_2:Au}{r:Int}(h:HU p0 p0_1 p0_2=some r): zC K w0 61 [vP A7 0] [sO A7 BF Aj BK BY DX Bs p0,AD 43 4 BF Ac p0.rows,AD 148 3 Aj AY p0.pages,EU BK AC AC p0.gens,AD 55 2 Bs Ad p0.ring,vO DX BY CB CA p0_1,AD 55 2 CB Ad p0_1.ring,Al CA AC vB p0_1.taken,dO BY Be Bc Bd p0_2,AD 9 1 Be eS p0_2.blocks,Al Bc AC vS p0_2.pend,Al Bd AC vB p0_2.bad] H (fun u M=>u=vI r∧M=[sO A7 BF Aj BK BY DX Bs p0,AD 43 4 BF Ac p0.rows,AD 148 3 Aj AY p0.pages,EU BK AC AC p0.gens,AD 55 2 Bs Ad p0.ring,vO DX BY CB CA p0_1,AD 55 2 CB Ad p0_1.ring,Al CA AC vB p0_1.taken,dO BY Be Bc Bd p0_2,AD 9 1 Be eS p0_2.blocks,Al Bc AC vS p0_2.pend,Al Bd AC vB p0_2.bad]):=by
 unfold HU at h
 refine Vf.enter Tryz.func61 rfl rfl ?_
 refine Y (O E (U (AE (AK (Y (J E (GJ E lm E E (O E (U (EO E (Y (J E (AV E E (AF E eF ?_))))))))))))))
 refine AG 0 Xu E (O E (U ?_))
 refine AL h E (fun hc2 h=>?_) fun hc2 h=>?_
 refine Y (O E (U (AM (BO (Ag ?_)))))
 obtain rfl:=zI h
 exact AW [0,1,2,3,4,5,6,7,8,9,10,11] 12 E E E
 refine AH (Ao (AI (Y (O E (U (AM ?_))))))
 obtain rfl:=zI h
 exact AW [0,1,2,3,4,5,6,7,8,9,10,11] 12 E E E
def Dl(n:Nat)(T:List UInt32)(p0:B3)(p0_1:BD)(p0_2:Au)(p1:List Iv):Option (Int×Int×B3×BD×Au):=
 (HU p0 p0_1 p0_2).bind fun y1=>
 cond (!decide (y1=0))
 (
  some (0,y1,p0,p0_1,p0_2))
 (
  (NR n p0.rows p1).bind fun y2=>
  ret (!decide (y2.2.2=0)) fun x1=>
  cond x1
  (
   some (y2.2.1,y2.2.2,p0,p0_1,p0_2))
  (
   (I4 p0_2).bind fun y3=>
   cond y3
   (
    some (0,72,p0,p0_1,p0_2))
   (
    (Gq n T p0 p0_1 p0_2 y2.1).bind fun y4=>
    some (0,y4.1,y4.2.1,y4.2.2.1,y4.2.2.2))))
theorem Ov{n A7 DX CA BY Bc Bd:Nat}{T:List UInt32}{BF Aj BK Bs CB Be FU:Value}{p0:B3}{p0_1:BD}{p0_2:Au}{p1:List Iv}{r:Int×Int×B3×BD×Au}(h:Dl n T p0 p0_1 p0_2 p1=some r)(hS:Hq K w0 T)(hs1_:CR K w0 Cg 5 FU p1):zC K w0 36 [vP A7 0,FU] [sO A7 BF Aj BK BY DX Bs p0,AD 43 4 BF Ac p0.rows,AD 148 3 Aj AY p0.pages,EU BK AC AC p0.gens,AD 55 2 Bs Ad p0.ring,vO DX BY CB CA p0_1,AD 55 2 CB Ad p0_1.ring,Al CA AC vB p0_1.taken,dO BY Be Bc Bd p0_2,AD 9 1 Be eS p0_2.blocks,Al Bc AC vS p0_2.pend,Al Bd AC vB p0_2.bad] H (fun u M=>∃vs0_0_0 vs0_0_1 vs0_0_2:Value,u=.tuple #[vI r.1,vI r.2.1]∧M=[sO A7 vs0_0_0 vs0_0_1 vs0_0_2 BY DX Bs r.2.2.1,AD 43 4 vs0_0_0 Ac r.2.2.1.rows,AD 148 3 vs0_0_1 AY r.2.2.1.pages,EU vs0_0_2 AC AC r.2.2.1.gens,AD 55 2 Bs Ad r.2.2.1.ring,vO DX BY CB CA r.2.2.2.1,AD 55 2 CB Ad r.2.2.2.1.ring,Al CA AC vB r.2.2.2.1.taken,dO BY Be Bc Bd r.2.2.2.2,AD 9 1 Be eS r.2.2.2.2.blocks,Al Bc AC vS r.2.2.2.2.pend,Al Bd AC vB r.2.2.2.2.bad]):=by
 unfold Dl at h
 refine Vf.enter Tryz.func36 rfl rfl ?_
 refine Y (O E (O E (U (AE (Y ?_)))))
 refine AB h fun y1 hy1 h=>?_
 refine J E (AN 12 vR (UC hy1) E (O E (U (Y (J E (V E Bg (U ?_)))))))
 refine AL h E (fun hc1 h=>?_) fun hc1 h=>?_
 refine Y (J E (O E (O E (U (AM (Ag ?_))))))
 obtain rfl:=zI h
 exact CC [0,1,2,3,4,5,6,7,8,9,10,11] 12 (F1 E E E) E E ⟨BF,Aj,BK,E,E⟩
 refine AH (AI (Y ?_))
 refine AB h fun y2 hy2 h=>?_
 refine J E (AV E E (AF E RT (AF E eC (AG 0 HC E (J E (SL.pick [1,0] 2 ?_))))))
 refine Bx (vs:=[_,_]) (Hin:=[_]) (Hr:=_::_::_::_::_::_::_::_::_::_::_::_) E E ⟨E,E,zT⟩ vT E E (Dm (B:=[_]) (Hin:=[]) fun K' w1 hk hB=>oW hy2 (C1 (e:=43) (v:=BF) zV (hB _ zS)) (hs1_.keeps hk)) ?_
 rintro _ _ ⟨_,rfl,v1,rfl,rfl⟩
 refine⟨trivial,?_⟩
 refine J E (Ap E E E (Ap E E E (Ap E E E (O E (O E (O E (U (AE (AK (Y ?_))))))))))
 obtain⟨x1,ex1,h⟩:=BG h
 refine J E (V E Bg ?_)
 refine AX (u:=vB x1) E E (congrArg vB ex1) ?_
 refine U ?_
 refine AL h E (fun hc2 h=>?_) fun hc2 h=>?_
 refine Y (J E (J E (O E (O E (U (AM (BO (Ag ?_))))))))
 obtain rfl:=zI h
 exact CC [2,0,3,4,5,6,7,8,9,10,11,12] 13 (F1 E E E) E E ⟨BF,Aj,BK,E,E⟩
 refine Y ?_
 refine AB h fun y3 hy3 h=>?_
 refine J E (AV E E (AF E QI (AG 2 Ow E (SL.pick [9,10,11,12,0,1,2,3,4,5,6,7,8] 13 (AN 4 oo (TU hy3) E (O E (U ?_)))))))
 refine AL h E (fun hc3 h=>?_) fun hc3 h=>?_
 refine Y (O E (O E (U (AM (BO (Ag ?_))))))
 obtain rfl:=zI h
 exact CC [6,4,7,8,9,10,11,12,0,1,2,3] 13 (F1 E E E) E E ⟨BF,Aj,BK,E,E⟩
 refine AH (Ao (AI (Y ?_)))
 refine AB h fun y4 hy4 h=>?_
 refine J E (J E (J E (AV E E (AF E RT (AF E eE (AG 6 SU E (SL.pick [6,4,7,8,9,10,11,12,0,1,2,3,5] 13 ?_)))))))
 refine Bi 13 oq (Sp hy4 hS) E ?_
 rintro _ _ ⟨v2,v3,v4,rfl,rfl⟩
 refine O E (O E (U (AM ?_)))
 obtain rfl:=zI h
 exact CC [0,1,2,3,4,5,6,7,8,9,10,11] 12 (F1 E E E) E E ⟨v2,v3,v4,E,E⟩
def DC(p0:B3)(p0_1:BD)(p0_2:Au):Option (List A3):=
 (PS p0.rows).bind fun y1=>
 some y1
theorem Mp{A7 DX CA BY Bc Bd:Nat}{BF Aj BK Bs CB Be:Value}{p0:B3}{p0_1:BD}{p0_2:Au}{r:List A3}(h:DC p0 p0_1 p0_2=some r): zC K w0 13 [vP A7 0] [sO A7 BF Aj BK BY DX Bs p0,AD 43 4 BF Ac p0.rows,AD 148 3 Aj AY p0.pages,EU BK AC AC p0.gens,AD 55 2 Bs Ad p0.ring,vO DX BY CB CA p0_1,AD 55 2 CB Ad p0_1.ring,Al CA AC vB p0_1.taken,dO BY Be Bc Bd p0_2,AD 9 1 Be eS p0_2.blocks,Al Bc AC vS p0_2.pend,Al Bd AC vB p0_2.bad] H (fun u M=>∃v0:Value,u=v0∧M=[AD 43 4 v0 Ac r,sO A7 BF Aj BK BY DX Bs p0,AD 43 4 BF Ac p0.rows,AD 148 3 Aj AY p0.pages,EU BK AC AC p0.gens,AD 55 2 Bs Ad p0.ring,vO DX BY CB CA p0_1,AD 55 2 CB Ad p0_1.ring,Al CA AC vB p0_1.taken,dO BY Be Bc Bd p0_2,AD 9 1 Be eS p0_2.blocks,Al Bc AC vS p0_2.pend,Al Bd AC vB p0_2.bad]):=by
 unfold DC at h
 refine Vf.enter Tryz.func13 rfl rfl ?_
 refine Y (Ci 43 4 Ac (O E (U (AE (Y (J E (GJ E lm E E (U (EO E (AH (AI (Y ?_))))))))))))
 refine AB h fun y1 hy1 h=>?_
 refine J E (AV E E (AF E RT (AF E eC (AG 1 HC E (SL.pick [2,0,1] 3 ?_)))))
 refine Bx (vs:=[_]) (Hin:=[_]) (Hr:=_::_::_::_::_::_::_::_::_::_::_::_::_) E E ⟨E,zT⟩ i9 E E (Dm (B:=[_]) (Hin:=[]) fun K' w1 hk hB=>aw hy1 (C1 (e:=43) (v:=BF) zV (hB _ zS))) ?_
 rintro v1 _ ⟨_,rfl,_,rfl,rfl⟩
 refine⟨trivial,?_⟩
 refine O E (U (AM ?_))
 obtain rfl:=zI h
 exact CC [1,3,0,4,5,6,7,8,9,10,11,12,13] 14 (D7 E E) E E ⟨v1,E,E⟩
def Ij(n:Nat)(p0:B3)(p0_1:BD)(p0_2:Au)(p1:UInt64):Option (A3×Int):=
 (KS n p0.rows p1).bind fun y1=>
 some ((⟨y1.1.id,y1.1.x,y1.1.y,y1.1.txt⟩:A3),y1.2)
theorem Vp{n A7 DX CA BY Bc Bd:Nat}{BF Aj BK Bs CB Be:Value}{p0:B3}{p0_1:BD}{p0_2:Au}{p1:UInt64}{r:A3×Int}(h:Ij n p0 p0_1 p0_2 p1=some r): zC K w0 48 [vP A7 0,Bh p1] [sO A7 BF Aj BK BY DX Bs p0,AD 43 4 BF Ac p0.rows,AD 148 3 Aj AY p0.pages,EU BK AC AC p0.gens,AD 55 2 Bs Ad p0.ring,vO DX BY CB CA p0_1,AD 55 2 CB Ad p0_1.ring,Al CA AC vB p0_1.taken,dO BY Be Bc Bd p0_2,AD 9 1 Be eS p0_2.blocks,Al Bc AC vS p0_2.pend,Al Bd AC vB p0_2.bad] H (fun u M=>u=.tuple #[.agg (Ac r.1).toArray,vI r.2]∧M=[sO A7 BF Aj BK BY DX Bs p0,AD 43 4 BF Ac p0.rows,AD 148 3 Aj AY p0.pages,EU BK AC AC p0.gens,AD 55 2 Bs Ad p0.ring,vO DX BY CB CA p0_1,AD 55 2 CB Ad p0_1.ring,Al CA AC vB p0_1.taken,dO BY Be Bc Bd p0_2,AD 9 1 Be eS p0_2.blocks,Al Bc AC vS p0_2.pend,Al Bd AC vB p0_2.bad]):=by
 unfold Ij at h
 refine Vf.enter Tryz.func48 rfl rfl ?_
 refine Y ?_
 refine A6 E Iu zU fun b1=>?_
 refine O E (U (AE (Y (J E (GJ E lm E E (U (EO E (AH (AI (Y ?_))))))))))
 refine AB h fun y1 hy1 h=>?_
 refine J E (AV E E (AF E RT (AF E eC (AG 1 HC E (J E (SL.pick [2,0,1] 3 ?_))))))
 refine Bx (vs:=[_,_]) (Hin:=[_]) (Hr:=_::_::_::_::_::_::_::_::_::_::_::_::_) E E ⟨E,E,zT⟩ vW E E (Dm (B:=[_]) (Hin:=[]) fun K' w1 hk hB=>dF hy1 (C1 (e:=43) (v:=BF) zV (hB _ zS))) ?_
 rintro _ _ ⟨_,rfl,rfl,rfl⟩
 refine⟨trivial,?_⟩
 refine Ap E E E (Ap E E E (BN 1 E E E E FE E E E zT (O E (U (AM ?_)))))
 obtain rfl:=zI h
 exact Ax (Fi E (Cj 1 (Ac (⟨y1.1.id,y1.1.x,y1.1.y,y1.1.txt⟩:A3)) IA E E E E) E) (As (M:=[_,_,_,_,_,_,_,_,_,_,_,_]) ⟨E,E⟩ fun _ hw=>Br.pick (H:=[_,_,_,_,_,_,_,_,_,_,_,_,_]) hw [2,0,3,4,5,6,7,8,9,10,11,12] 13 E)
end

section
structure Dv(N m:Nat)(c:UInt64)(d:Au):Prop where
 bl:d.blocks.length=N
 pl:d.pend.length≤m
 pk:∀e∈d.pend,e.1.toNat<N
 rc:d.rcnt=c
theorem Dv.up{N m m':Nat}{c:UInt64}{d:Au}(D:Dv N m c d)(h:m≤m'):Dv N m' c d:=⟨D.bl,Nat.le_trans D.pl h,D.pk,D.rc⟩
theorem mW{N m:Nat}{c:UInt64}{d:Au}{p:UInt32}{s:List UInt8}{y:Int×Au}(h:KJ d p s=some y)(D:Dv N m c d):Dv N (m+1) c y.2:=by
 unfold KJ at h
 rw[eI,Z,BE]at h
 cases hh:((!decide (p.toNat<d.blocks.length))||(!decide ((s.length:Int)=256)))with
 | true=>
  rw[hh,Ch]at h
  obtain rfl:=zI h
  exact D.up (Nat.le_succ _)
 | false=>
  rw[hh,Bq,U6,Z]at h
  have hp:p.toNat<N:=by
   simp at hh
   rw[←D.bl]
   exact hh.1
  cases hon:Xk d with
  | true=>
   rw[hon]at h
   simp only[if_true,decide_true,Ch]at h
   refine AB h fun l hl h=>?_
   obtain⟨-,rfl⟩:=YP hl
   obtain rfl:=zI (show some _=some y from h)
   refine⟨D.bl,?_,?_,D.rc⟩
   have:(Fq d.pend p).length≤d.pend.length:=List.length_filter_le ..
   have:=D.pl
   show(Fq d.pend p).length+1≤m+1
   omega
   intro e he
   rcases List.mem_cons.1 (show e∈(p,s)::Fq d.pend p from he)with rfl | he
   exact hp
   exact D.pk e (List.mem_filter.1 he).1
  | false=>
   rw[hon]at h
   obtain rfl:=zI (show some _=some y from h)
   exact⟨D.bl,Nat.le_succ_of_le D.pl,D.pk,D.rc⟩
theorem gO{T:List UInt32}{N m:Nat}{c:UInt64}{v:BD}{d:Au}{p:UInt32}{s:List UInt8}{y:List UInt8×Int×BD×Au}(h:Lv T v d p s=some y)(D:Dv N m c d):Dv N (m+1) c y.2.2.2:=by
 unfold Lv at h
 obtain⟨y1,-,h⟩:=Da h
 cases h1:(!decide (y1.2=0))with
 | true=>
  rw[h1,Ch]at h
  obtain rfl:=zI h
  exact D.up (Nat.le_succ _)
 | false=>
  rw[h1,Bq]at h
  refine AB h fun y2 h2 h=>?_
  have D2:=mW h2 D
  cases h3:(!decide (y2.1=0))with
  | true=>
   rw[h3,Ch]at h
   obtain rfl:=zI h
   exact D2
  | false=>
   rw[h3,Bq]at h
   obtain⟨y3,-,h⟩:=Da h
   obtain rfl:=zI h
   exact D2
theorem vj{T:List UInt32}{N m:Nat}{c:UInt64}{v:BD}{d:Au}{s:List UInt8}{y:Bo×Int×BD×Au}(h:ID T v d s=some y)(D:Dv N m c d):Dv N (m+1) c y.2.2.2:=by
 have key:∀ {p:UInt32},HV T v d s p=some y→Dv N (m+1) c y.2.2.2:=by
  intro p h
  unfold HV at h
  cases h1:decide (p=0)with
  | true=>
   rw[h1,Ch]at h
   obtain rfl:=zI h
   exact D.up (Nat.le_succ _)
  | false=>
   rw[h1,Bq]at h
   refine AB h fun y4 h4 h=>?_
   have D4:=gO h4 D
   cases h3:(!decide (y4.2.1=0))with
   | true=>
    rw[h3,Ch]at h
    obtain rfl:=zI h
    exact D4
   | false=>
    rw[h3,Bq]at h
    obtain⟨l,-,h⟩:=Da h
    obtain rfl:=zI h
    exact D4
 unfold ID at h
 rw[BE]at h
 cases h1:decide (198<(s.length:Int))with
 | true=>
  rw[h1,Ch]at h
  obtain rfl:=zI h
  exact D.up (Nat.le_succ _)
 | false=>
  rw[h1,Bq]at h
  obtain⟨_,-,h⟩:=Da h
  obtain⟨xs,-,h⟩:=Da h
  cases xs with
  | nil=>exact key (p:=0) h
  | cons e xs=>exact key (p:=e) h
theorem gv{T:List UInt32}{th:List (Nz×Bo)}{N:Nat}{c:UInt64}:∀(seg:List BU) (m:Nat) (q q':Vh),WP (P1 T th) q seg q'→Dv N m c q.d→Dv N (m+seg.length) c q'.d∧q'.tk.length≤q.tk.length+seg.length
 | [],m,q,q',h,D=>by rw[←show q=q' from h];exact⟨D,Nat.le_refl _⟩
 | s::seg,m,q,q',h,D=>by
  obtain⟨q1,h1,h2⟩:=h
  have D1:Dv N (m+1) c q1.d∧q1.tk.length≤q.tk.length+1:=by
   unfold P1 at h1
   obtain⟨k,hk,h1⟩:=Da h1
   cases hs:(Db th k).isSome with
   | true=>
    rw[hs,Ch]at h1
    have h3:=congrArg Prod.snd (zI h1)
    rw[←show q=q1 from h3]
    exact⟨D.up (Nat.le_succ _),Nat.le_succ _⟩
   | false=>
    rw[hs,Bq]at h1
    obtain⟨y,hy,h1⟩:=Da h1
    have D2:=vj hy D
    cases he:decide (y.2.1=0)with
    | true=>
     rw[he,Ch]at h1
     obtain⟨l,hl,h1⟩:=Da h1
     rw[←show(⟨l,y.2.2.1,y.2.2.2⟩:Vh)=q1 from congrArg Prod.snd (zI h1)]
     refine⟨D2,?_⟩
     unfold Eh at hl
     split at hl
     obtain rfl:=zI hl
     simp
     cases hl
    | false=>
     rw[he,Bq]at h1
     rw[←show(⟨q.tk,y.2.2.1,y.2.2.2⟩:Vh)=q1 from congrArg Prod.snd (zI h1)]
     exact⟨D2,Nat.le_succ _⟩
  have:=gv seg (m+1) q1 q' h2 D1.1
  have h5:=D1.2
  rw[List.length_cons,show m+(seg.length+1)=m+1+seg.length by omega]
  exact⟨this.1,by omega⟩
theorem mM{N:Nat}{c:UInt64}{d:Au}{tag:List UInt8}(D:Dv N 0 c d)(K:SZ N 0 d)(ht:tag.length=32)(hc:c≠18446744073709551615):∃d',M6 d tag=some (0,d')∧Dv N 0 (c+1) d'∧SZ N 0 d'∧∀p,KA d' p=KA d p:=by
 have hon:Xk d=true:=by simp[Xk,K.on,K.uncut]
 refine⟨{ Py d with rcnt:=d.rcnt+1,rtag:=tag },?_,⟨D.bl,D.pl,D.pk,by rw[←D.rc]⟩,⟨K.blen,K.nle,K.on,K.uncut,K.good,K.plen,by omega⟩,fun p=>rfl⟩
 unfold M6
 rw[BE,zt (by omega:(tag.length:Int)=32)]
 simp only[Bool.not_true,Bq]
 rw[BE,zf (by rw[D.rc];exact hc),Bq,U6,hon,Z]
 rfl
theorem uN{T:List UInt32}{N:Nat}{c:UInt64}{v:BD}{d:Au}{k:Bf}{s:List UInt8}(D:Dv N 0 c d)(K:SZ N 0 d)(hr:v.ring.length≤1099511627776)(hk:Eo v.ring v.gen=(k,0))(hs:s.length≤198)(p:UInt32)(hp:p.toNat<2)(hN:4≤N):
  ∃tag d',Pe T v d p s=some (tag,0,{ v with seals:=v.seals+1 },d')∧tag.length=32∧Dv N 1 c d'∧SZ N 1 d'∧∀q:UInt32,2≤q.toNat→KA d' q=KA d q:=by
 have hb:=ML T k (hd v p) hs
 have hw:=iD (T:=T) K zO hr hk (show p.toNat<N by omega) hs
 refine⟨(I9 T k (hd v p) s).drop 224,{ d with counts:=wI (d.counts+1),pend:=KB d.pend p (I9 T k (hd v p) s) },?_,by simp[hb],gO hw D,(K.write zO (show p.toNat<N by omega) hb).2,fun q hq=>?_⟩
 unfold Pe
 have h1:decide ((2:UInt32)≤p)=false:=by rw[decide_eq_false_iff_not,UInt32.le_iff_toNat_le];exact Nat.not_le.2 hp
 rw[BE,h1,Bq,BE,zf zO,Bq,hw,Z]
 rw[Xc,if_neg (fun e=>by subst e;omega)]
theorem rS(x:UInt64):∃l,IC 2200000 x 8=some l∧l.length=8:=⟨_,rfl,rfl⟩
theorem c8(x:UInt64):∃l,IC 2200000 x 4=some l∧l.length=4:=⟨_,rfl,rfl⟩
theorem jq(r:GI)(h:r.tag.length=32):∃s,Oe 2200000 r=some s∧s.length=56:=by
 obtain⟨a,ha,la⟩:=rS r.cnt
 obtain⟨b,hb,lb⟩:=c8 r.gen.toUInt64
 obtain⟨c,hc,lc⟩:=c8 r.rows.toUInt64
 obtain⟨e,he,le⟩:=c8 r.page.toUInt64
 have hl:([[115,112,104,114],a,b,c,e,r.tag]:List (List UInt8)).flatten.length=56:=by simp[la,lb,lc,le,h]
 refine⟨_,?_,hl⟩
 unfold Oe QG eK
 rw[ha,Z,hb,Z,hc,Z,he,Z,if_pos ⟨rfl,by simp,by simp,by omega,by omega⟩]
 rfl
end

section
theorem lX:∀ {f:Nat} {l:List A3} {t:DB} ,Tr f l t→(l.length≤4→OB f t=1)∧(5≤l.length→OB f t+5≤2*l.length)
 | 0,_,_,h=>h.elim
 | f+1,l,t,h=>by
  rcases h with⟨rfl,rfl⟩ | ⟨hne,c,L,A,⟨_,rfl⟩ | ⟨h4,hL,ks,rfl,hk⟩⟩
  exact⟨fun _=>rfl,fun h=>by simp at h⟩
  rw[OB,if_pos (show(DB.mk c.x c.y c.lev l []).kids.length=0 from rfl)]
  simp only[DB.rows]
  exact⟨fun h=>by omega,fun h=>by omega⟩
  refine⟨fun h=>absurd h zO,fun _=>?_⟩
  have hkl:=hk.length
  have hq2:=(TE A hL).1
  have hq4:=V8 L l
  rw[OB,if_neg (by simp only[DB.kids];omega)]
  simp only[DB.kids]
  have key:∀ {xs:List (List A3)} {ys:List DB},WI (Tr f) xs ys→(∀x∈xs,x≠[])→
    (ys.map (OB f)).sum+xs.length≤2*xs.flatten.length∧((ys.map (OB f)).sum=xs.length∨(ys.map (OB f)).sum+xs.length+4≤2*xs.flatten.length):=by
   intro xs ys h
   induction h with
   | nil=>simp
   | @cons x y xs ys h1 h2 ih=>
    intro hx
    have a1:=lX h1
    obtain⟨a2,a3⟩:=ih fun x hx'=>hx x (by simp[hx'])
    have a4:=List.length_pos_iff.2 (hx x zS)
    simp only[List.map_cons,List.sum_cons,List.length_cons,List.flatten_cons,List.length_append]
    by_cases h5:x.length≤4
    have:=a1.1 h5
    omega
    have:=a1.2 zO
    omega
  have:=key hk fun x hx=>(TC hx).1
  rw[(YT L l).length_eq]at this
  omega
def Ke(k:Nat):Nat:=if k≤4 then 1 else 2*k-5
theorem gt{f:Nat}{l:List A3}{t:DB}(h:Tr f l t):OB f t≤Ke l.length:=by
 have:=lX h
 unfold Ke
 split<;>omega
theorem gw{T:List UInt32}{th:List (Nz×Bo)}:∀(seg:List BU) (q q':Vh),WP (P1 T th) q seg q'→∀p∈q'.tk,p∈q.tk∨p∈seg.map (·.page)
 | [],q,q',h,p,hp=>by rw[←show q=q' from h]at hp;exact .inl hp
 | s::seg,q,q',h,p,hp=>by
  obtain⟨q1,h1,h2⟩:=h
  have D1:∀p∈q1.tk,p∈q.tk∨p=s.page:=by
   unfold P1 at h1
   obtain⟨k,hk,h1⟩:=Da h1
   cases hs:(Db th k).isSome with
   | true=>
    rw[hs,Ch]at h1
    have h3:=congrArg Prod.snd (zI h1)
    rw[←show q=q1 from h3]
    exact fun p hp=>.inl hp
   | false=>
    rw[hs,Bq]at h1
    obtain⟨y,hy,h1⟩:=Da h1
    cases he:decide (y.2.1=0)with
    | true=>
     rw[he,Ch]at h1
     obtain⟨l,hl,h1⟩:=Da h1
     have h5:=zI h1
     rw[←show(⟨l,y.2.2.1,y.2.2.2⟩:Vh)=q1 from congrArg Prod.snd h5]
     have h6:y.1=⟨s.page,s.tag⟩:=congrArg (fun x=>x.1.1) h5
     unfold Eh at hl
     split at hl
     obtain rfl:=zI hl
     intro p hp
     rcases List.mem_append.1 hp with hp | hp
     exact .inl hp
     right
     rw[List.mem_singleton.1 hp,h6]
     cases hl
    | false=>
     rw[he,Bq]at h1
     rw[←show(⟨q.tk,y.2.2.1,y.2.2.2⟩:Vh)=q1 from congrArg Prod.snd (zI h1)]
     exact fun p hp=>.inl hp
  rcases gw seg q1 q' h2 p hp with h | h
  rcases D1 p h with h | rfl
  exact .inl h
  exact .inr (List.mem_cons_self ..)
  exact .inr (List.mem_cons_of_mem _ h)
theorem pW{v:BD}{d:Au}{p:UInt32}(hb:d.blocks.length=60)(h2:2≤p.toNat)(h60:p.toNat<60):∃e,Jc v d p=some (e,{ v with taken:=Fq v.taken p })∨(Jc v d p=some (e,v)∧Fq v.taken p=v.taken)∨(∃q∈v.taken,q.2=false):=by
 have h1:JR v d p=some true:=by
  unfold JR OM
  have:decide (2≤p)=true:=zt (UInt32.le_iff_toNat_le.2 h2)
  rw[this,hb]
  show(some (decide ((p.toNat:Int)<((60:Nat):Int)))).bind _=_
  rw[zt zO]
  rfl
 unfold Jc
 rw[h1,Z,BE]
 cases hm:Db v.taken p with
 | none=>
  refine⟨2,.inr (.inl ⟨rfl,QW fun e he hep=>?_⟩)⟩
  unfold Db at hm
  have:=List.find?_eq_none.1 (Option.map_eq_none_iff.1 hm) e he
  simp[hep]at this
 | some b=>
  cases b with
  | true=>exact⟨0,.inl rfl⟩
  | false=>
   refine⟨2,.inr (.inr ?_)⟩
   unfold Db at hm
   obtain⟨q,hq,hb⟩:=Option.map_eq_some_iff.1 hm
   exact⟨q,List.mem_of_find?_eq_some hq,hb⟩
theorem pX{v:BD}{d:Au}{p:UInt32}(hb:d.blocks.length=60)(h2:2≤p.toNat)(h60:p.toNat<60)(ht:∀q∈v.taken,q.2=true):∃e,Jc v d p=some (e,{ v with taken:=Fq v.taken p }):=by
 obtain⟨e,h | ⟨h,h3⟩ | ⟨q,hq,hf⟩⟩:=pW (v:=v) hb h2 h60
 exact⟨e,h⟩
 refine⟨e,?_⟩
 rw[h,h3]
 rw[ht q hq]at hf
 cases hf
def Nu(g:List (UInt32×UInt32)):List BU→List (UInt32×Bool)→List (UInt32×Bool)
 | [],t=>t
 | s::r,t=>Nu g r (if(Db g s.page).isSome then t else Fq t s.page)
theorem Vx(g:List (UInt32×UInt32)):∀(r:List BU) (t:List (UInt32×Bool)),(Nu g r t).Sublist t∧∀e∈t,(e∈Nu g r t↔∀s∈r,s.page=e.1→(Db g s.page).isSome=true)
 | [],t=>⟨List.Sublist.refl _,fun e he=>by simp[Nu,he]⟩
 | s::r,t=>by
  rw[Nu]
  cases hs:(Db g s.page).isSome with
  | true=>
   rw[if_pos rfl]
   obtain⟨h1,h2⟩:=Vx g r t
   refine⟨h1,fun e he=>?_⟩
   rw[h2 e he]
   constructor
   intro h x hx hp
   rcases List.mem_cons.1 hx with rfl | hx
   exact hs
   exact h x hx hp
   exact fun h x hx hp=>h x (List.mem_cons_of_mem _ hx) hp
  | false=>
   rw[if_neg zD]
   obtain⟨h1,h2⟩:=Vx g r (Fq t s.page)
   refine⟨h1.trans List.filter_sublist,fun e he=>?_⟩
   by_cases hp:e.1=s.page
   constructor
   intro h
   have:=(List.mem_filter.1 (h1.subset h)).2
   simp[hp]at this
   intro h
   have:=h s (List.mem_cons_self ..) hp.symm
   rw[hs]at this
   cases this
   rw[h2 e (List.mem_filter.2 ⟨he,by simpa using hp⟩)]
   constructor
   intro h x hx hp'
   rcases List.mem_cons.1 hx with rfl | hx
   exact absurd hp'.symm hp
   exact h x hx hp'
   exact fun h x hx hp=>h x (List.mem_cons_of_mem _ hx) hp
variable {o:B3}{d:Au}{l:List A3}{ps:List BU}
theorem eR{g:List (UInt32×UInt32)}(hb:d.blocks.length=60)(ho:∀s∈o.pages,2≤s.page.toNat∧s.page.toNat<60)(hl:o.pages.length≤100000):∀(k i m:Nat) (v:BD),i+k=o.pages.length→k<m→(∀q∈v.taken,q.2=true)→
  Em o d l ps g m (v,(i:Int))=some ({ o with rows:=l,pages:=ps,gens:=g },{ v with taken:=Nu g (o.pages.drop i) v.taken })
 | _,_,0,_,_,h,_=>absurd h (Nat.not_lt_zero _)
 | 0,i,m+1,v,hi,_,_=>by
  show Ev o d l ps g (Em o d l ps g m) v (i:Int)=_
  unfold Ev
  rw[zf zO,Bq,List.drop_eq_nil_of_le zO]
  rfl
 | k+1,i,m+1,v,hi,hm,ht=>by
  have hil:i<o.pages.length:=zO
  have n1:A1 o.pages (i:Int)=some o.pages[i]:=by rw[L5 rfl,List.getElem?_eq_getElem hil]
  show Ev o d l ps g (Em o d l ps g m) v (i:Int)=_
  unfold Ev
  rw[zt zO,Ch,n1,Z,BE,BE,List.drop_eq_getElem_cons hil,Nu]
  have hsx:=ho _ (List.getElem_mem hil)
  cases hg:(Db g o.pages[i].page).isSome with
  | true=>
   rw[show(!true)=false from rfl,Bq]
   unfold Fb
   rw[BV zO zO,show(i:Int)+1=((i+1:Nat):Int) by omega,eR hb ho hl k (i+1) m v zO zO ht,if_pos rfl]
  | false=>
   obtain⟨e,he⟩:=pX (v:=v) hb hsx.1 hsx.2 ht
   rw[show(!false)=true from rfl,Ch,he,Z]
   unfold Fb
   rw[BV zO zO,show(i:Int)+1=((i+1:Nat):Int) by omega,eR hb ho hl k (i+1) m _ zO zO (fun q hq=>ht q (List.mem_filter.1 hq).1),if_neg zD]
theorem Xh{α:Type}{m:List (UInt32×α)}{p:UInt32}{a:α}:(KB m p a).length≤m.length+1:=by
 show(Fq m p).length+1≤_
 have:(Fq m p).length≤m.length:=List.length_filter_le ..
 omega
theorem Xg{α:Type}{m:List (UInt32×α)}{p:UInt32}{a:α}(h:m.length≤1000000):Oj m p a=some (KB m p a):=by
 unfold Oj
 rw[if_pos zO]
def Qu(o:B3)(was:List (UInt32×BU)):List BU→List (UInt32×UInt32)→List (UInt32×UInt32)
 | [],g=>g
 | s::r,g=>Qu o was r (KB g s.page (if Db was s.page=some s∨(Db was s.page=none∧s=⟨[],0,[]⟩)then(Db o.gens s.page).getD 0 else o.gen))
theorem m0{α:Type}{m:List (UInt32×α)}{p:UInt32}{a b:α}:KB (KB m p a) p b=KB m p b:=by
 show(p,b)::Fq ((p,a)::Fq m p) p=(p,b)::Fq m p
 have:Fq ((p,a)::Fq m p) p=Fq (Fq m p) p:=by simp[Fq]
 rw[this]
 congr 1
 exact QW fun e he=>by simpa using(List.mem_filter.1 he).2
theorem eQ{was:List (UInt32×BU)}{n:Nat}{v:BD}(hl:ps.length≤100000):∀(k i m:Nat) (g:List (UInt32×UInt32)),i+k=ps.length→k<m→g.length≤i→
  El n o v d l ps was m (g,(i:Int))=Em o d l ps (Qu o was (ps.drop i) g) n (v,0)
 | _,_,0,_,_,h,_=>absurd h (Nat.not_lt_zero _)
 | 0,i,m+1,g,hi,_,_=>by
  show Eu n o v d l ps was (El n o v d l ps was m) g (i:Int)=_
  unfold Eu
  rw[zf zO,Bq,List.drop_eq_nil_of_le zO]
  rfl
 | k+1,i,m+1,g,hi,hm,hg=>by
  have hil:i<ps.length:=zO
  have n1:A1 ps (i:Int)=some ps[i]:=by rw[L5 rfl,List.getElem?_eq_getElem hil]
  show Eu n o v d l ps was (El n o v d l ps was m) g (i:Int)=_
  unfold Eu
  rw[zt zO,Ch,n1,Z,Xg zO,Z,List.drop_eq_getElem_cons hil,Qu]
  have hmp:=Xh (m:=g) (p:=ps[i].page) (a:=o.gen)
  have hq:(decide (((Db was ps[i].page).getD ⟨[],0,[]⟩).txt=ps[i].txt)&&(decide (((Db was ps[i].page).getD ⟨[],0,[]⟩).page=ps[i].page)&&(decide (((Db was ps[i].page).getD ⟨[],0,[]⟩).tag=ps[i].tag)&&true)))=decide (Db was ps[i].page=some ps[i]∨(Db was ps[i].page=none∧ps[i]=⟨[],0,[]⟩)):=by
   have e1:∀a b:BU,(decide (a.txt=b.txt)&&(decide (a.page=b.page)&&(decide (a.tag=b.tag)&&true)))=decide (a=b):=fun a b=>by
    obtain⟨a1,a2,a3⟩:=a
    obtain⟨b1,b2,b3⟩:=b
    simp[BU.mk.injEq]
   rw[e1]
   cases Db was ps[i].page with
   | none=>simp[eq_comm]
   | some x=>simp
  rw[hq]
  by_cases hc:Db was ps[i].page=some ps[i]∨(Db was ps[i].page=none∧ps[i]=⟨[],0,[]⟩)
  rw[zt hc,Ch,Xg zO,Z,m0,if_pos hc]
  have hmp2:=Xh (m:=g) (p:=ps[i].page) (a:=(Db o.gens ps[i].page).getD 0)
  unfold Fa
  rw[BV zO zO,show(i:Int)+1=((i+1:Nat):Int) by omega,eQ hl k (i+1) m _ zO zO zO]
  rw[zf hc,Bq,if_neg hc]
  unfold Fa
  rw[BV zO zO,show(i:Int)+1=((i+1:Nat):Int) by omega,eQ hl k (i+1) m _ zO zO zO]
def XN:List BU→List (UInt32×BU)→List (UInt32×BU)
 | [],w=>w
 | s::r,w=>XN r (KB w s.page s)
theorem lV{n:Nat}{v:BD}(hl:o.pages.length≤100000):∀(k i m:Nat) (w:List (UInt32×BU)),i+k=o.pages.length→k<m→w.length≤i→
  Fd n o v d l ps m (w,(i:Int))=El n o v d l ps (XN (o.pages.drop i) w) n ([],0)
 | _,_,0,_,_,h,_=>absurd h (Nat.not_lt_zero _)
 | 0,i,m+1,w,hi,_,_=>by
  show Et n o v d l ps (Fd n o v d l ps m) w (i:Int)=_
  unfold Et
  rw[zf zO,Bq,List.drop_eq_nil_of_le zO]
  rfl
 | k+1,i,m+1,w,hi,hm,hw=>by
  have hil:i<o.pages.length:=zO
  have n1:A1 o.pages (i:Int)=some o.pages[i]:=by rw[L5 rfl,List.getElem?_eq_getElem hil]
  show Et n o v d l ps (Fd n o v d l ps m) w (i:Int)=_
  unfold Et
  have hmp:=Xh (m:=w) (p:=o.pages[i].page) (a:=o.pages[i])
  rw[zt zO,Ch,n1,Z,Xg zO,Z,List.drop_eq_getElem_cons hil,XN,BV zO zO,show(i:Int)+1=((i+1:Nat):Int) by omega,lV hl k (i+1) m _ zO zO zO]
theorem YJ(o:B3)(was:List (UInt32×BU)):∀(r:List BU) (g:List (UInt32×UInt32)) (p:UInt32),(Db (Qu o was r g) p).isSome=true↔(Db g p).isSome=true∨p∈r.map (·.page)
 | [],g,p=>by simp[Qu]
 | s::r,g,p=>by
  rw[Qu,YJ o was r,Xf]
  by_cases h:s.page=p
  simp[h]
  have h':p≠s.page:=fun e=>h e.symm
  simp[h,h']
theorem jV{n:Nat}{v:BD}(hb:d.blocks.length=60)(ho:∀s∈o.pages,2≤s.page.toNat∧s.page.toNat<60)(hl:o.pages.length≤1000)(hp:ps.length≤1000)(hn:1001≤n)(ht:∀q∈v.taken,q.2=true):
  Ge n o v d l ps=some ({ o with rows:=l,pages:=ps,gens:=Qu o (XN o.pages []) ps [] },{ v with taken:=Nu (Qu o (XN o.pages []) ps []) o.pages v.taken }):=by
 unfold Ge
 have h1:=lV (o:=o) (d:=d) (l:=l) (ps:=ps) (n:=n) (v:=v) zO o.pages.length 0 n [] zO zO (Nat.zero_le _)
 have h2:=eQ (o:=o) (d:=d) (l:=l) (ps:=ps) (n:=n) (v:=v) (was:=XN o.pages []) zO ps.length 0 n [] zO zO (Nat.zero_le _)
 have h3:=eR (o:=o) (d:=d) (l:=l) (ps:=ps) (g:=Qu o (XN o.pages []) ps []) hb ho zO o.pages.length 0 n v zO zO ht
 exact h1.trans (h2.trans h3)
end

section
def Sy(m:List (UInt32×List UInt8))(bl:List (List UInt8)):List (List UInt8):=(RU m).foldl (fun b p=>b.set p.toNat ((Db m p).getD [])) bl
theorem SV(f:UInt32→List UInt8):∀(ks:List UInt32) (bl:List (List UInt8)),(ks.foldl (fun b p=>b.set p.toNat (f p)) bl).length=bl.length
 | [],bl=>rfl
 | k::ks,bl=>by rw[List.foldl_cons,SV f ks];simp
theorem RV{α:Type}{m:List (UInt32×α)}{k:UInt32}:k∈RU m↔k∈m.map (·.1):=(List.mergeSort_perm _ _).mem_iff
theorem YI(y:Int×Au):∀(es:List (Int×UInt32)) (x:Au),(∀e∈es,e.2.toNat<x.blocks.length)→
  Li y es x=some (y.1,{ x with blocks:=es.foldl (fun b e=>b.set e.2.toNat ((Db x.pend e.2).getD [])) x.blocks,pend:=[] })
 | [],x,_=>rfl
 | e::es,x,h=>by
  have he:=h e (List.mem_cons_self ..)
  show Jp y (Li y es) e x=_
  unfold Jp
  rw[Fv,List.getElem?_eq_getElem he,Z,MA rfl he,Z]
  exact YI y es _ (fun e' h'=>by show _<(List.set ..).length;rw[List.length_set];exact h e' (List.mem_cons_of_mem _ h'))
theorem Zv{β:Type}(g:β→UInt32→β):∀(ks:List UInt32) (j:Nat) (b:β),((ks.zipIdx j).map fun q=>((q.2:Int),q.1)).foldl (fun b e=>g b e.2) b=ks.foldl g b
 | [],j,b=>rfl
 | k::ks,j,b=>by simp only[List.zipIdx_cons,List.map_cons,List.foldl_cons];exact Zv g ks (j+1) _
theorem jI{ks:List UInt32}{e:Int×UInt32}(h:e∈Rj ks):e.2∈ks:=by
 obtain⟨q,hq,rfl⟩:=List.mem_map.1 h
 obtain⟨_,_,h2⟩:=List.mem_zipIdx hq
 rw[h2]
 exact List.getElem_mem _
theorem me{d:Au}(hl:d.pend.length≤Rq)(hk:∀q∈d.pend,q.1.toNat<d.blocks.length)(hon:Xk d=true):KI d=some (0,{ Py d with blocks:=Sy d.pend d.blocks,pend:=[] }):=by
 unfold KI
 rw[U6,hon]
 simp only[if_true,Z,decide_true,Ch]
 unfold X1 Y7
 rw[Z,show(Py d).pend=d.pend from rfl,if_pos hl,Z,YI _ _ _ (fun e he=>?_)]
 rw[show(Py d).pend=d.pend from rfl,show(Py d).blocks=d.blocks from rfl,show(Rj (RU d.pend)).foldl (fun b e=>b.set e.2.toNat ((Db d.pend e.2).getD [])) d.blocks=Sy d.pend d.blocks from Zv (fun(b:List (List UInt8)) p=>b.set p.toNat ((Db d.pend p).getD [])) (RU d.pend) 0 d.blocks]
 have:=RV.1 (jI he)
 obtain⟨q,hq,e1⟩:=List.mem_map.1 this
 rw[show(Py d).blocks=d.blocks from rfl,←e1]
 exact hk q hq
theorem Vc(f:UInt32→List UInt8):∀(ks:List UInt32) (bl:List (List UInt8)) (p:UInt32),(∀k∈ks,k.toNat<bl.length)→p.toNat<bl.length→
  (ks.foldl (fun b q=>b.set q.toNat (f q)) bl).getD p.toNat []=if p∈ks then f p else bl.getD p.toNat []
 | [],bl,p,_,_=>by simp
 | k::ks,bl,p,h,hp=>by
  have hk:=h k (List.mem_cons_self ..)
  rw[List.foldl_cons,Vc f ks _ p (fun q hq=>by rw[List.length_set];exact h q (List.mem_cons_of_mem _ hq)) (by rw[List.length_set];exact hp)]
  by_cases h1:p∈ks
  rw[if_pos h1,if_pos (List.mem_cons_of_mem _ h1)]
  rw[if_neg h1]
  by_cases e:k=p
  subst e
  rw[if_pos (List.mem_cons_self ..),List.getD_eq_getElem?_getD,List.getElem?_set_self hk]
  rfl
  have hne:k.toNat≠p.toNat:=fun h=>e (UInt32.toNat_inj.1 h)
  rw[if_neg (by intro h;rcases List.mem_cons.1 h with h | h;exact e h.symm;exact h1 h),List.getD_eq_getElem?_getD,List.getElem?_set_ne hne,List.getD_eq_getElem?_getD]
theorem lK{N m c0:Nat}{c:UInt64}{d:Au}(D:Dv N m c d)(hm:m≤Rq)(K:SZ N c0 d):∃d',KI d=some (0,d')∧Dv N 0 c d'∧SZ N 0 d'∧∀p:UInt32,p.toNat<N→KA d' p=KA d p:=by
 have hon:Xk d=true:=by simp[Xk,K.on,K.uncut]
 have hk:∀q∈d.pend,q.1.toNat<d.blocks.length:=fun q hq=>by rw[D.bl];exact D.pk q hq
 have hb:(Sy d.pend d.blocks).length=N:=by unfold Sy;rw[SV,D.bl]
 refine⟨{ Py d with blocks:=Sy d.pend d.blocks,pend:=[] },?_,⟨hb,Nat.zero_le _,fun _ h=>(by cases h),D.rc⟩,⟨hb,K.nle,K.on,K.uncut,K.good,Nat.zero_le _,by omega⟩,fun p hp=>?_⟩
 exact me (Nat.le_trans D.pl hm) hk hon
 show(Sy d.pend d.blocks).getD p.toNat []=(Db d.pend p).getD (d.blocks.getD p.toNat [])
 unfold Sy
 rw[Vc _ _ _ _ (fun k hk'=>by obtain⟨q,hq,rfl⟩:=List.mem_map.1 (RV.1 hk');exact hk q hq) (by rw[D.bl];exact hp)]
 by_cases h:p∈RU d.pend
 rw[if_pos h]
 have h2:=RV.1 h
 cases hg:Db d.pend p with
 | some s=>rfl
 | none=>
  exfalso
  obtain⟨q,hq,rfl⟩:=List.mem_map.1 h2
  unfold Db at hg
  have:=List.find?_eq_none.1 (Option.map_eq_none_iff.1 hg) q hq
  simp at this
 rw[if_neg h]
 have:Db d.pend p=none:=V2 fun q hq e=>h (RV.2 (by rw[←e];exact List.mem_map_of_mem hq))
 rw[this]
 rfl
theorem t0{N c0:Nat}{c:UInt64}{d:Au}(D:Dv N 1 c d)(K:SZ N c0 d):∃d',KI d=some (0,d')∧Dv N 0 c d'∧SZ N 0 d'∧∀p:UInt32,p.toNat<N→KA d' p=KA d p:=lK D (Nat.le_trans zO vp) K
end

section
theorem SZ.le'{N c c':Nat}{d:Au}(K:SZ N c d)(h:d.pend.length≤c')(h2:c'≤100):SZ N c' d:=⟨K.blen,K.nle,K.on,K.uncut,K.good,h,h2⟩
theorem ee{T:List UInt32}{c0 m:Nat}{R:List Bf}{g:UInt32}{k:Bf}{c:UInt64}{o:B3}{v:BD}{d:Au}{l:List A3}{ps:List BU}{s:BU}(V9:VS 60 c0 R g v d)(D:Dv 60 m c d)(hm:m≤Rq)(hc:c.toNat<1000000)(hg:o.gen=g)(h0:0<g)(hk:Eo R g=(k,0))
(hl:l.length≤1000)(hp:ps.length≤1000)(hs:Gr ⟨s.page,s.tag⟩=true):
  ∃d',Fu 2200000 T o v d l (ps++[s])=some (0,{ v with seals:=v.seals+1 },d')∧Dv 60 0 (c+1) d'∧SZ 60 0 d'∧∀q:UInt32,2≤q.toNat→q.toNat<60→KA d' q=KA d q:=by
 obtain⟨d1,h1,D1,K1,e1⟩:=lK D hm V9.dev
 have hc1:(c+1).toNat=c.toNat+1:=by
  rw[UInt64.toNat_add]
  show(c.toNat+1)%_=_
  omega
 have hu:(GW (l.length:Int)).toNat=l.length:=by simp only[GW,UInt32.toNat_ofNat'];omega
 have hr:LG ⟨c+1,g,GW (l.length:Int),s.page,s.tag⟩=some true:=by
  unfold LG
  rw[QL,hs,zt (show 0<c+1 by rw[UInt64.lt_iff_toNat_lt,hc1];exact Nat.succ_pos _),zt h0,zt (show GW (l.length:Int)≤1000 by rw[UInt32.le_iff_toNat_le,hu];exact hl)]
  rfl
 have hn:Od c g (l.length:Int) ⟨s.page,s.tag⟩=some (⟨c+1,g,GW (l.length:Int),s.page,s.tag⟩,0):=by
  unfold Od
  have h0:decide (c+1=0)=false:=zf fun e=>by
   have:=congrArg UInt64.toNat e
   rw[hc1]at this
   cases this
  have h2:(decide ((l.length:Int)<0)||decide (1000<(l.length:Int)))=false:=by simp;omega
  rw[BE,h0,Bq,h2,hr]
  rfl
 obtain⟨t,ht,htl⟩:=jq ⟨c+1,g,GW (l.length:Int),s.page,s.tag⟩ (Q1 hs).1
 have he:Lt 2200000 ⟨c+1,g,GW (l.length:Int),s.page,s.tag⟩=some (t,0):=by
  unfold Lt
  rw[hr,Z,ht]
  rfl
 have hsl:((c+1) &&& 1).toUInt32.toNat<2:=by
  have:((c+1) &&& 1).toNat<2:=by
   rw[UInt64.toNat_and]
   exact Nat.lt_succ_of_le Nat.and_le_right
  simp only[UInt64.toNat_toUInt32]
  omega
 obtain⟨tag,d2,h2,lt,D2,K2,e2⟩:=uN (T:=T) D1 K1 (by rw[V9.ring];exact V9.rlen) (by rw[V9.ring,V9.gen];exact hk) (show t.length≤198 by omega) ((c+1) &&& 1).toUInt32 hsl zO
 obtain⟨d3,h3,D3,K3,e3⟩:=t0 D2 K2
 obtain⟨d4,h4,D4,K4,e4⟩:=mM D3 K3 lt (by rintro rfl;exact absurd hc zD)
 refine⟨d4,?_,D4,K4,fun q hq hq2=>?_⟩
 unfold Fu Gl QF
 rw[h1,Z]
 simp only[decide_true,Bool.not_true,Bq,Z]
 have hlast:A1 (ps++[s]) (wI (((ps++[s]).length:Int)-1))=some s:=by
  rw[List.length_append,List.length_singleton,BV zO zO,show((ps.length+1:Nat):Int)-1=(ps.length:Int) by omega,Fv,List.getElem?_append_right (Nat.le_refl _)]
  simp
 rw[hlast,Z,D1.rc,hg,hn,Z]
 simp only[decide_true,Bool.not_true,Bq]
 rw[he,Z,BE,Z,h2,Z]
 simp only[decide_true,Bool.not_true,Bq]
 rw[h3,Z]
 simp only[decide_true,Bool.not_true,Bq]
 rw[h4,Z]
 rw[e4,e3 q hq2,e2 q hq,e1 q hq2]
structure WW(T:List UInt32)(R:List Bf)(g:UInt32)(c:UInt64)(o:B3)(v:BD)(d:Au):Prop where
 vs:VS 60 v.taken.length R g v d
 tk:Tu 60 v
 dv:Dv 60 0 c d
 gen:o.gen=g
 few:o.pages.length≤24
 rd:∀s∈o.pages,Rd T R 60 v d s
 own:∀e∈v.taken,e.1∈o.pages.map (·.page)
 bad:o.bad=false
theorem WW.len{T:List UInt32}{R:List Bf}{g:UInt32}{c:UInt64}{o:B3}{v:BD}{d:Au}(S:WW T R g c o v d):v.taken.length≤o.pages.length:=by
 have:=PH S.tk.nd (l':=o.pages.map (·.page)) fun x hx=>by
  obtain⟨e,he,rfl⟩:=List.mem_map.1 hx
  exact S.own e he
 simpa using this
theorem cO{T:List UInt32}{th:List (Nz×Bo)}(hth:∀k,Db th k=none):∀(seg:List BU) (q q':Vh),WP (P1 T th) q seg q'→(∀p∈q.tk,p∈q'.tk)∧∀s∈seg,s.page∈q'.tk
 | [],q,q',h=>by rw[←show q=q' from h];exact⟨fun _ h=>h,fun _ h=>(by cases h)⟩
 | s::seg,q,q',h=>by
  obtain⟨q1,h1,h2⟩:=h
  obtain⟨a1,a2⟩:=cO hth seg q1 q' h2
  have D1:(∀p∈q.tk,p∈q1.tk)∧s.page∈q1.tk:=by
   unfold P1 at h1
   obtain⟨k,hk,h1⟩:=Da h1
   rw[hth k,show(none:Option Bo).isSome=false from rfl,Bq]at h1
   obtain⟨y,hy,h1⟩:=Da h1
   cases he:decide (y.2.1=0)with
   | true=>
    rw[he,Ch]at h1
    obtain⟨l,hl,h1⟩:=Da h1
    have h5:=zI h1
    rw[←show(⟨l,y.2.2.1,y.2.2.2⟩:Vh)=q1 from congrArg Prod.snd h5]
    have h6:y.1=⟨s.page,s.tag⟩:=congrArg (fun x=>x.1.1) h5
    unfold Eh at hl
    split at hl
    obtain rfl:=zI hl
    exact⟨fun p hp=>List.mem_append_left _ hp,List.mem_append_right _ (by rw[h6];exact List.mem_singleton.2 rfl)⟩
    cases hl
   | false=>
    rw[he,Bq]at h1
    have h5:=zI h1
    have h6:y.2.1=0:=congrArg (fun x=>x.1.2) h5
    rw[h6]at he
    cases he
  exact⟨fun p hp=>a1 p (D1.1 p hp),fun x hx=>by
   rcases List.mem_cons.1 hx with rfl | hx
   exact a1 _ D1.2
   exact a2 x hx⟩
theorem YE{T:List UInt32}{R:List Bf}{g:UInt32}{k:Bf}{c:UInt64}{o:B3}{v:BD}{d:Au}{l:List A3}{wth:List BU}(S:WW T R g c o v d)(hc:c.toNat<1000000)(h0:0<g)(hk:Eo R g=(k,0))(hl:Ke l.length≤Rq)(hl3:Ke l.length≤24)(hl2:l.length≤1000)
(hr:Er l=true)(hw:∀s∈wth,Rd T R 60 v d s)(hwl:wth.length≤1000):
  ∃o' v' d',FT 2200000 T o v d l wth=some (0,o',v',d')∧o'.rows=l∧o'.ring=o.ring∧WW T R g (c+1) o' v' d'∧o'.gens=Qu o (XN o.pages []) o'.pages []∧(wth=[]→∀s∈o'.pages,s.page∉o.pages.map (·.page))∧v'.boot=v.boot∧o'.pages.length≤Ke l.length:=by
 have htl:=S.len
 have hfew:=S.few
 obtain⟨t,th,hb,hT,hth,h⟩:=nQ (T:=T) (n:=2200000) (N:=60) (l:=l) (had:=wth) zO zO S.vs S.tk hk hr hw zO zO
 have hpg:=gt hT
 rcases h with⟨r,out,q,hsv,hR,hrf,SI,hrd,hlen,hp,-⟩ | ⟨v',d',c',hsv,hlt,-,-⟩
 obtain⟨a,s,hs⟩:=hR.lastE
 obtain⟨D1,ltk⟩:=gv out 0 _ _ hp S.dv
 have hal:a.length≤1000:=by
  have:=congrArg List.length hs
  rw[List.length_append,List.length_singleton]at this
  omega
 obtain⟨d2,hpub,D2,K2,e2⟩:=ee (T:=T) (o:=o) (l:=l) (ps:=a) (s:=⟨s,r.page,r.tag⟩) SI.vs D1 (Nat.le_trans zO hl) hc S.gen h0 hk hl2 hal hrf
 rw[←hs]at hpub
 have hmv:=jV (o:=o) (d:=d2) (l:=l) (ps:=out) (n:=2200000) (v:={ q.v with seals:=q.v.seals+1 }) D2.bl (fun x hx=>⟨(S.rd x hx).1,(S.rd x hx).2.1⟩) zO zO zO (fun x hx=>(SI.ok.tr x hx).1)
 generalize hG:Qu o (XN o.pages []) out []=G at hmv
 have hGs:∀p,(Db G p).isSome=true↔p∈out.map (·.page):=fun p=>by
  rw[←hG,YJ]
  simp[Db]
 obtain⟨hsub,hgm⟩:=Vx G o.pages q.v.taken
 have hnd:((Nu G o.pages q.v.taken).map (·.1)).Nodup:=SI.ok.nd.sublist (hsub.map _)
 have hown:∀e∈Nu G o.pages q.v.taken,e.1∈out.map (·.page):=fun e he=>by
  have h1:=hsub.subset he
  have h2:=(hgm e h1).1 he
  rw[SI.tak]at h1
  rcases List.mem_append.1 h1 with h3 | h3
  obtain⟨p,hp',rfl⟩:=List.mem_map.1 (List.mem_reverse.1 h3)
  rcases gw out _ _ hp p hp' with h4 | h4
  cases h4
  exact h4
  obtain⟨x,hx,hxe⟩:=List.mem_map.1 (S.own e h3)
  have h5:=h2 x hx hxe
  rw[hxe]at h5
  exact(hGs _).1 h5
 have hlen3:(Nu G o.pages q.v.taken).length≤out.length:=by
  have:=PH hnd (l':=out.map (·.page)) fun x hx=>by
   obtain⟨e,he,rfl⟩:=List.mem_map.1 hx
   exact hown e he
  simpa using this
 have hp2:d2.pend.length≤0:=D2.pl
 refine⟨{ o with rows:=l,pages:=out,gens:=G },{ q.v with seals:=q.v.seals+1,taken:=Nu G o.pages q.v.taken },d2,?_,rfl,rfl,⟨⟨K2.le' zO (by show(Nu G o.pages q.v.taken).length≤100;omega),SI.vs.ring,SI.vs.rlen,SI.vs.gen,SI.vs.boot,Nat.le_refl _⟩,⟨hnd,fun e he=>SI.ok.tr e (hsub.subset he)⟩,D2,S.gen,by show out.length≤24;omega,fun x hx=>?_,hown,S.bad⟩,hG.symm,fun hz x hx hxo=>?_,SI.vs.boot.trans S.vs.boot.symm,by show out.length≤_;omega⟩
 unfold FT
 rw[hsv,Z,BE]
 show cond (decide ((0:Int)=110)) _ _=_
 rw[show decide ((0:Int)=110)=false from rfl,Bq,BE]
 show cond (decide ((0:Int)=0)) _ _=_
 rw[show decide ((0:Int)=0)=true from rfl,Ch,hpub,Z]
 unfold GP
 show cond (!decide ((0:Int)=0)) _ _=_
 rw[show(!decide ((0:Int)=0))=false from rfl,Bq,hmv,Z]
 obtain⟨h1,h2,h3,g',qn,b,hh,hb⟩:=hrd x hx
 refine⟨h1,h2,?_,g',qn,b,⟨hh.key,hh.txt,by rw[e2 _ h1 h2];exact hh.is⟩,hb⟩
 rw[SI.ok.iff]at h3
 obtain⟨e,he,hex⟩:=List.mem_map.1 h3
 have h4:e∈Nu G o.pages q.v.taken:=(hgm e he).2 fun y _ hye=>by
  rw[hye,hGs,hex]
  exact List.mem_map_of_mem hx
 have h5:Tu 60 ({ q.v with seals:=q.v.seals+1,taken:=Nu G o.pages q.v.taken }:BD):=⟨hnd,fun e he=>SI.ok.tr e (hsub.subset he)⟩
 rw[h5.iff]
 exact List.mem_map.2 ⟨e,h4,hex⟩
 subst hz
 have h1:=(cO (T:=T) (th:=th) (fun k=>by rw[hth];rfl) out _ _ hp).2 x hx
 obtain⟨y,hy,hye⟩:=List.mem_map.1 hxo
 have h2:=(S.rd y hy).2.2.1
 rw[hye]at h2
 exact(SI.notin S.tk h2).1 h1
 exfalso
 omega
end

section
variable {K:Nat→Prop}{w0:World}{H:List Ab}
def UL(p0:B3)(p0_1:BD)(p0_2:Au):Option (Option D0×Int):=
 some (some ({ ops:=[],isOpen:=false,closed:=false }:D0),0)
theorem gE{A7 DX CA BY Bc Bd:Nat}{BF Aj BK Bs CB Be:Value}{p0:B3}{p0_1:BD}{p0_2:Au}{r:Option D0×Int}(h:UL p0 p0_1 p0_2=some r): zC K w0 32 [vP A7 0] [sO A7 BF Aj BK BY DX Bs p0,AD 43 4 BF Ac p0.rows,AD 148 3 Aj AY p0.pages,EU BK AC AC p0.gens,AD 55 2 Bs Ad p0.ring,vO DX BY CB CA p0_1,AD 55 2 CB Ad p0_1.ring,Al CA AC vB p0_1.taken,dO BY Be Bc Bd p0_2,AD 9 1 Be eS p0_2.blocks,Al Bc AC vS p0_2.pend,Al Bd AC vB p0_2.bad] H (fun u M=>(r.1=none∧u=.tuple #[.pointer none,vI r.2]∧M=[sO A7 BF Aj BK BY DX Bs p0,AD 43 4 BF Ac p0.rows,AD 148 3 Aj AY p0.pages,EU BK AC AC p0.gens,AD 55 2 Bs Ad p0.ring,vO DX BY CB CA p0_1,AD 55 2 CB Ad p0_1.ring,Al CA AC vB p0_1.taken,dO BY Be Bc Bd p0_2,AD 9 1 Be eS p0_2.blocks,Al Bc AC vS p0_2.pend,Al Bd AC vB p0_2.bad])∨(∃(d:D0) (bn0:Nat) (vn0x0:Value),r.1=some d∧u=.tuple #[vP bn0 0,vI r.2]∧M=[own bn0 (.cells #[vn0x0,vB d.isOpen,vP A7 0,vB d.closed] 85),AD 105 5 vn0x0 Cg d.ops,sO A7 BF Aj BK BY DX Bs p0,AD 43 4 BF Ac p0.rows,AD 148 3 Aj AY p0.pages,EU BK AC AC p0.gens,AD 55 2 Bs Ad p0.ring,vO DX BY CB CA p0_1,AD 55 2 CB Ad p0_1.ring,Al CA AC vB p0_1.taken,dO BY Be Bc Bd p0_2,AD 9 1 Be eS p0_2.blocks,Al Bc AC vS p0_2.pend,Al Bd AC vB p0_2.bad])):=by
 unfold UL at h
 refine Vf.enter Tryz.func32 rfl rfl ?_
 refine Y (O E (O E (U (AE (Y (J E (GJ E lm E E (U (EO E (AH (AI (Y (J E (Cf [_] E xi xd xz ⟨E,zT⟩ E ?_))))))))))))))
 refine Bw E E zU fun b1=>?_
 refine Ci 105 5 Cg (O E (O E (U (AM ?_))))
 obtain rfl:=zI h
 exact Ax (F1 E E E) (As (M:=[_,_,_,_,_,_,_,_,_,_,_,_,_,_]) (.inr ⟨_,b1,zN,E,E,E⟩) fun _ hw=>Br.pick (H:=[_,_,_,_,_,_,_,_,_,_,_,_,_,_]) hw [1,0,2,3,4,5,6,7,8,9,10,11,12,13] 14 E)
def Dp(p0:D0)(p0_1:B3)(p0_2:BD)(p0_3:Au):Option Int:=
 cond p0.closed
 (
  some 141)
 (
  some 0)
theorem IV{A7 Do CS Bm BI BQ BR:Nat}{BF DF DG DH CV Bn BS:Value}{p0:D0}{p0_1:B3}{p0_2:BD}{p0_3:Au}{r:Int}(h:Dp p0 p0_1 p0_2 p0_3=some r): zC K w0 33 [vP A7 0] [own A7 (.cells #[BF,vB p0.isOpen,vP Do 0,vB p0.closed] 85),AD 105 5 BF Cg p0.ops,sO Do DF DG DH BI CS CV p0_1,AD 43 4 DF Ac p0_1.rows,AD 148 3 DG AY p0_1.pages,EU DH AC AC p0_1.gens,AD 55 2 CV Ad p0_1.ring,vO CS BI Bn Bm p0_2,AD 55 2 Bn Ad p0_2.ring,Al Bm AC vB p0_2.taken,dO BI BS BQ BR p0_3,AD 9 1 BS eS p0_3.blocks,Al BQ AC vS p0_3.pend,Al BR AC vB p0_3.bad] H (fun u M=>u=vI r∧M=[own A7 (.cells #[BF,vB p0.isOpen,vP Do 0,vB p0.closed] 85),AD 105 5 BF Cg p0.ops,sO Do DF DG DH BI CS CV p0_1,AD 43 4 DF Ac p0_1.rows,AD 148 3 DG AY p0_1.pages,EU DH AC AC p0_1.gens,AD 55 2 CV Ad p0_1.ring,vO CS BI Bn Bm p0_2,AD 55 2 Bn Ad p0_2.ring,Al Bm AC vB p0_2.taken,dO BI BS BQ BR p0_3,AD 9 1 BS eS p0_3.blocks,Al BQ AC vS p0_3.pend,Al BR AC vB p0_3.bad]):=by
 unfold Dp at h
 refine Vf.enter Tryz.func33 rfl rfl ?_
 refine Y (O E (U (AE (AK (Y (J E (GJ E xx E E (O E (U (EO E (Y (J E (AV E E (AF E t9 ?_))))))))))))))
 refine AG 0 Xu E (O E (U ?_))
 refine AL h E (fun hc2 h=>?_) fun hc2 h=>?_
 refine Y (O E (U (AM (BO (Ag ?_)))))
 obtain rfl:=zI h
 exact AW [0,1,2,3,4,5,6,7,8,9,10,11,12,13] 14 E E E
 refine AH (Ao (AI (Y (O E (U (AM ?_))))))
 obtain rfl:=zI h
 exact AW [0,1,2,3,4,5,6,7,8,9,10,11,12,13] 14 E E E
def Mq(p0:D0)(p0_1:B3)(p0_2:BD)(p0_3:Au):Option D0:=
 some ({ p0 with ops:=[],isOpen:=true })
theorem U9{A7 Do CS Bm BI BQ BR:Nat}{BF DF DG DH CV Bn BS:Value}{p0:D0}{p0_1:B3}{p0_2:BD}{p0_3:Au}{r:D0}(h:Mq p0 p0_1 p0_2 p0_3=some r): zC K w0 34 [vP A7 0] [own A7 (.cells #[BF,vB p0.isOpen,vP Do 0,vB p0.closed] 85),AD 105 5 BF Cg p0.ops,sO Do DF DG DH BI CS CV p0_1,AD 43 4 DF Ac p0_1.rows,AD 148 3 DG AY p0_1.pages,EU DH AC AC p0_1.gens,AD 55 2 CV Ad p0_1.ring,vO CS BI Bn Bm p0_2,AD 55 2 Bn Ad p0_2.ring,Al Bm AC vB p0_2.taken,dO BI BS BQ BR p0_3,AD 9 1 BS eS p0_3.blocks,Al BQ AC vS p0_3.pend,Al BR AC vB p0_3.bad] H (fun u M=>∃vs0_0_0:Value,u=.tuple #[]∧M=[own A7 (.cells #[vs0_0_0,vB r.isOpen,vP Do 0,vB r.closed] 85),AD 105 5 vs0_0_0 Cg r.ops,sO Do DF DG DH BI CS CV p0_1,AD 43 4 DF Ac p0_1.rows,AD 148 3 DG AY p0_1.pages,EU DH AC AC p0_1.gens,AD 55 2 CV Ad p0_1.ring,vO CS BI Bn Bm p0_2,AD 55 2 Bn Ad p0_2.ring,Al Bm AC vB p0_2.taken,dO BI BS BQ BR p0_3,AD 9 1 BS eS p0_3.blocks,Al BQ AC vS p0_3.pend,Al BR AC vB p0_3.bad]):=by
 unfold Mq at h
 refine Vf.enter Tryz.func34 rfl rfl ?_
 refine AJ (J E (J E (AV E E (AF E RR (BN 0 E E E E qV E E E zT (Ci 105 5 Cg (AV E E (AF E U1 ?_))))))))
 refine BN 1 E E E E Ti E E E zT (AT ?_)
 obtain rfl:=zI h
 exact D5 (E4 E) (As (M:=[_,_,_,_,_,_,_,_,_,_,_,_,_,_]) ⟨zN,E,E⟩ fun _ hw=>Br.pick (H:=[_,_,_,_,_,_,_,_,_,_,_,_,_,_,_]) hw [1,0,3,4,5,6,7,8,9,10,11,12,13,14] 15 E)
def KQ(p0:D0)(p0_1:B3)(p0_2:BD)(p0_3:Au):Option (List Iv×D0):=
 some (p0.ops,{ p0 with ops:=[],isOpen:=false })
theorem Vk{A7 Do CS Bm BI BQ BR:Nat}{BF DF DG DH CV Bn BS:Value}{p0:D0}{p0_1:B3}{p0_2:BD}{p0_3:Au}{r:List Iv×D0}(h:KQ p0 p0_1 p0_2 p0_3=some r): zC K w0 35 [vP A7 0] [own A7 (.cells #[BF,vB p0.isOpen,vP Do 0,vB p0.closed] 85),AD 105 5 BF Cg p0.ops,sO Do DF DG DH BI CS CV p0_1,AD 43 4 DF Ac p0_1.rows,AD 148 3 DG AY p0_1.pages,EU DH AC AC p0_1.gens,AD 55 2 CV Ad p0_1.ring,vO CS BI Bn Bm p0_2,AD 55 2 Bn Ad p0_2.ring,Al Bm AC vB p0_2.taken,dO BI BS BQ BR p0_3,AD 9 1 BS eS p0_3.blocks,Al BQ AC vS p0_3.pend,Al BR AC vB p0_3.bad] H (fun u M=>∃v0 vs0_0_0:Value,u=v0∧M=[AD 105 5 v0 Cg r.1,own A7 (.cells #[vs0_0_0,vB r.2.isOpen,vP Do 0,vB r.2.closed] 85),AD 105 5 vs0_0_0 Cg r.2.ops,sO Do DF DG DH BI CS CV p0_1,AD 43 4 DF Ac p0_1.rows,AD 148 3 DG AY p0_1.pages,EU DH AC AC p0_1.gens,AD 55 2 CV Ad p0_1.ring,vO CS BI Bn Bm p0_2,AD 55 2 Bn Ad p0_2.ring,Al Bm AC vB p0_2.taken,dO BI BS BQ BR p0_3,AD 9 1 BS eS p0_3.blocks,Al BQ AC vS p0_3.pend,Al BR AC vB p0_3.bad]):=by
 unfold KQ at h
 refine Vf.enter Tryz.func35 rfl rfl ?_
 refine Y (Ci 105 5 Cg (O E (U (Y (J E (AV E E (AF E RR (AG 1 cV E (O E (U (Y (J E ?_))))))))))))
 refine J E (AV E E (AF E RR (BN 1 E E E E qV E E E zT (Ci 105 5 Cg (AV E E (AF E U1 (BN 2 E E E E Ti E E E zT (U (Y ?_)))))))))
 refine J E (O E (U (AM ?_)))
 obtain rfl:=zI h
 exact CC [3,2,0,4,5,6,7,8,9,10,11,12,13,14,15] 16 (D7 E E) E E ⟨BF,(.slice none 0 0),E,E⟩
def GS(p0:D0)(p0_1:B3)(p0_2:BD)(p0_3:Au):Option (Int×D0):=
 (Dp p0 p0_1 p0_2 p0_3).bind fun y1=>
 ret (!decide (y1=0)) fun x1=>
 cond x1
 (
  some (y1,p0))
 (
  cond p0.isOpen
  (
   some (140,p0))
  (
   (Mq p0 p0_1 p0_2 p0_3).bind fun y2=>
   some (0,y2)))
theorem Qf{A7 Do CS Bm BI BQ BR:Nat}{BF DF DG DH CV Bn BS:Value}{p0:D0}{p0_1:B3}{p0_2:BD}{p0_3:Au}{r:Int×D0}(h:GS p0 p0_1 p0_2 p0_3=some r): zC K w0 9 [vP A7 0] [own A7 (.cells #[BF,vB p0.isOpen,vP Do 0,vB p0.closed] 85),AD 105 5 BF Cg p0.ops,sO Do DF DG DH BI CS CV p0_1,AD 43 4 DF Ac p0_1.rows,AD 148 3 DG AY p0_1.pages,EU DH AC AC p0_1.gens,AD 55 2 CV Ad p0_1.ring,vO CS BI Bn Bm p0_2,AD 55 2 Bn Ad p0_2.ring,Al Bm AC vB p0_2.taken,dO BI BS BQ BR p0_3,AD 9 1 BS eS p0_3.blocks,Al BQ AC vS p0_3.pend,Al BR AC vB p0_3.bad] H (fun u M=>∃vs0_0_0:Value,u=vI r.1∧M=[own A7 (.cells #[vs0_0_0,vB r.2.isOpen,vP Do 0,vB r.2.closed] 85),AD 105 5 vs0_0_0 Cg r.2.ops,sO Do DF DG DH BI CS CV p0_1,AD 43 4 DF Ac p0_1.rows,AD 148 3 DG AY p0_1.pages,EU DH AC AC p0_1.gens,AD 55 2 CV Ad p0_1.ring,vO CS BI Bn Bm p0_2,AD 55 2 Bn Ad p0_2.ring,Al Bm AC vB p0_2.taken,dO BI BS BQ BR p0_3,AD 9 1 BS eS p0_3.blocks,Al BQ AC vS p0_3.pend,Al BR AC vB p0_3.bad]):=by
 unfold GS at h
 refine Vf.enter Tryz.func9 rfl rfl ?_
 refine Y (O E (U (Y ?_)))
 refine AB h fun y1 hy1 h=>?_
 refine J E (AN 14 Zp (IV hy1) E (O E (U (AE (AK (Y ?_))))))
 obtain⟨x1,ex1,h⟩:=BG h
 refine J E (V E Bg ?_)
 refine AX (u:=vB x1) E E (congrArg vB ex1) ?_
 refine U ?_
 refine AL h E (fun hc1 h=>?_) fun hc1 h=>?_
 refine Y (J E (O E (U (AM (BO (Ag ?_))))))
 obtain rfl:=zI h
 exact CC [0,1,2,3,4,5,6,7,8,9,10,11,12,13] 14 (D7 E E) E E ⟨BF,E,E⟩
 refine Y (J E (AV E E (AF E RS (AF E U1 (AG 0 Xu E (O E (U ?_)))))))
 refine AL h E (fun hc2 h=>?_) fun hc2 h=>?_
 refine Y (O E (U (AM (BO (Ag ?_)))))
 obtain rfl:=zI h
 exact CC [0,1,2,3,4,5,6,7,8,9,10,11,12,13] 14 (D7 E E) E E ⟨BF,E,E⟩
 refine AH (Ao (AI (Y ?_)))
 refine AB h fun y2 hy2 h=>?_
 refine J E (AV E E (AF E RS (Bi 14 vD ((U9 hy2 :)) E ?_)))
 rintro _ _ ⟨v1,rfl,rfl⟩
 refine U (Y (O E (U (AM ?_))))
 obtain rfl:=zI h
 exact CC [0,1,2,3,4,5,6,7,8,9,10,11,12,13] 14 (D7 E E) E E ⟨v1,E,E⟩
def H7(y2:List Iv×D0)(o1:B3)(o2:Au)(o3:BD)(a1:Int):Option (Int×D0×B3×BD×Au):=
 some (a1,y2.2,o1,o3,o2)
def EV(n:Nat)(T:List UInt32)(p0:D0)(p0_1:B3)(p0_2:BD)(p0_3:Au):Option (Int×D0×B3×BD×Au):=
 (Dp p0 p0_1 p0_2 p0_3).bind fun y1=>
 ret (!decide (y1=0)) fun x1=>
 cond x1
 (
  some (y1,p0,p0_1,p0_2,p0_3))
 (
  ret (!p0.isOpen) fun x2=>
  cond x2
  (
   some (140,p0,p0_1,p0_2,p0_3))
  (
   (KQ p0 p0_1 p0_2 p0_3).bind fun y2=>
   cond (decide (0<(y2.1.length:Int)))
   (
    (Dl n T p0_1 p0_2 p0_3 y2.1).bind fun y3=>
    H7 y2 y3.2.2.1 y3.2.2.2.2 y3.2.2.2.1 y3.2.1)
   (
    H7 y2 p0_1 p0_3 p0_2 y1)))
theorem Mn{n A7 Do CS Bm BI BQ BR:Nat}{T:List UInt32}{BF DF DG DH CV Bn BS:Value}{p0:D0}{p0_1:B3}{p0_2:BD}{p0_3:Au}{r:Int×D0×B3×BD×Au}(h:EV n T p0 p0_1 p0_2 p0_3=some r)(hS:Hq K w0 T):zC K w0 11 [vP A7 0] [own A7 (.cells #[BF,vB p0.isOpen,vP Do 0,vB p0.closed] 85),AD 105 5 BF Cg p0.ops,sO Do DF DG DH BI CS CV p0_1,AD 43 4 DF Ac p0_1.rows,AD 148 3 DG AY p0_1.pages,EU DH AC AC p0_1.gens,AD 55 2 CV Ad p0_1.ring,vO CS BI Bn Bm p0_2,AD 55 2 Bn Ad p0_2.ring,Al Bm AC vB p0_2.taken,dO BI BS BQ BR p0_3,AD 9 1 BS eS p0_3.blocks,Al BQ AC vS p0_3.pend,Al BR AC vB p0_3.bad] H (fun u M=>∃vs0_0_0 vs0_1_0 vs0_1_1 vs0_1_2:Value,u=vI r.1∧M=[own A7 (.cells #[vs0_0_0,vB r.2.1.isOpen,vP Do 0,vB r.2.1.closed] 85),AD 105 5 vs0_0_0 Cg r.2.1.ops,sO Do vs0_1_0 vs0_1_1 vs0_1_2 BI CS CV r.2.2.1,AD 43 4 vs0_1_0 Ac r.2.2.1.rows,AD 148 3 vs0_1_1 AY r.2.2.1.pages,EU vs0_1_2 AC AC r.2.2.1.gens,AD 55 2 CV Ad r.2.2.1.ring,vO CS BI Bn Bm r.2.2.2.1,AD 55 2 Bn Ad r.2.2.2.1.ring,Al Bm AC vB r.2.2.2.1.taken,dO BI BS BQ BR r.2.2.2.2,AD 9 1 BS eS r.2.2.2.2.blocks,Al BQ AC vS r.2.2.2.2.pend,Al BR AC vB r.2.2.2.2.bad]):=by
 unfold EV at h
 refine Vf.enter Tryz.func11 rfl rfl ?_
 refine Y (O E (U (Y ?_)))
 refine AB h fun y1 hy1 h=>?_
 refine J E (AN 14 Zp (IV hy1) E (O E (U (AE (AK (Y ?_))))))
 obtain⟨x1,ex1,h⟩:=BG h
 refine J E (V E Bg ?_)
 refine AX (u:=vB x1) E E (congrArg vB ex1) ?_
 refine U ?_
 refine AL h E (fun hc1 h=>?_) fun hc1 h=>?_
 refine Y (J E (O E (U (AM (BO (Ag ?_))))))
 obtain rfl:=zI h
 exact CC [0,1,2,3,4,5,6,7,8,9,10,11,12,13] 14 (D7 E E) E E ⟨BF,DF,DG,DH,E,E⟩
 refine Y ?_
 obtain⟨x2,ex2,h⟩:=BG h
 refine J E (AV E E (AF E RS (AF E U1 (AG 0 Xu E (CO E E ?_)))))
 refine AX (u:=vB x2) E E (congrArg vB ex2) ?_
 refine U ?_
 refine AL h E (fun hc2 h=>?_) fun hc2 h=>?_
 refine Y (O E (U (AM (BO (Ag ?_)))))
 obtain rfl:=zI h
 exact CC [0,1,2,3,4,5,6,7,8,9,10,11,12,13] 14 (D7 E E) E E ⟨BF,DF,DG,DH,E,E⟩
 refine AH (Ao (AI (Y ?_)))
 refine AB h fun y2 hy2 h=>?_
 refine J E (AV E E (AF E RS ?_))
 refine Bx (vs:=[_]) (Hin:=[_,_,_,_,_,_,_,_,_,_,_,_,_,_]) (Hr:=_) E E ⟨E,zT⟩ vE E E ((Vk hy2 :)) ?_
 rintro v1 _ ⟨_,v2,rfl,rfl⟩
 refine⟨trivial,?_⟩
 refine O E (U ?_)
 refine Az (α:=B3×Value×Value×Value×Au×BD×Int) (fun x=>H7 y2 x.1 x.2.2.2.2.1 x.2.2.2.2.2.1 x.2.2.2.2.2.2=some r) (fun x=>[(0,vP A7 0),(3,vI x.2.2.2.2.2.2)]) (fun x=>own A7 (.cells #[v2,vB y2.2.isOpen,vP Do 0,vB y2.2.closed] 85)::AD 105 5 v2 Cg y2.2.ops::sO Do x.2.1 x.2.2.1 x.2.2.2.1 BI CS CV x.1::AD 43 4 x.2.1 Ac x.1.rows::AD 148 3 x.2.2.1 AY x.1.pages::EU x.2.2.2.1 AC AC x.1.gens::dO BI BS BQ BR x.2.2.2.2.1::AD 9 1 BS eS x.2.2.2.2.1.blocks::Al BQ AC vS x.2.2.2.2.1.pend::Al BR AC vB x.2.2.2.2.1.bad::vO CS BI Bn Bm x.2.2.2.2.2.1::AD 55 2 Bn Ad x.2.2.2.2.2.1.ring::Al Bm AC vB x.2.2.2.2.2.1.taken::AD 55 2 CV Ad x.1.ring::H) ?_ (fun x D h=>?_)
 refine Y (J E (FJ 0 E Tb E E (V E C8 (U ?_))))
 refine AL h E (fun hc3 h=>?_) fun hc3 h=>?_
 refine AJ ?_
 refine AB h fun y3 hy3 h=>?_
 refine J E (AV E E (AF E Y5 (AG 1 lg E (J E (SL.pick [0,3,4,5,6,7,8,9,10,11,12,13,14,1,2] 15 ?_)))))
 refine Bx (vs:=[_,_]) (Hin:=[_,_,_,_,_,_,_,_,_,_,_,_,_]) (Hr:=_::_::_) E E ⟨E,E,zT⟩ oh E E (Dm (B:=[_]) (Hin:=[_,_,_,_,_,_,_,_,_,_,_,_]) fun K' w1 hk hB=>Ov hy3 (hS.keeps hk) (C1 (e:=105) (v:=v1) zV (hB _ zS))) ?_
 rintro _ _ ⟨_,rfl,v6,v7,v8,rfl,rfl⟩
 refine⟨trivial,?_⟩
 refine J E (Ap E E E (Ap E E E (O E (AT ?_))))
 exact Ak (y3.2.2.1,v6,v7,v8,y3.2.2.2.2,y3.2.2.2.1,y3.2.1) h tL (A5 [13,14,1,2,3,4,9,10,11,12,6,7,8,5] 15 E E E)
 refine AH ?_
 exact Ak (p0_1,DF,DG,DH,p0_3,p0_2,y1) h tL (A5 [1,2,3,4,5,6,11,12,13,14,8,9,10,7] 15 E E E)
 obtain⟨o1,v3,v4,v5,o2,o3,a1⟩:=x
 dsimp only at h
 unfold H7 at h
 try dsimp only
 refine Y (J E (O E (U (AM ?_))))
 obtain rfl:=zI h
 exact CC [0,1,2,3,4,5,13,10,11,12,6,7,8,9] 14 (D7 E E) E E ⟨v2,v3,v4,v5,E,E⟩
def LQ(p0:D0)(p0_1:B3)(p0_2:BD)(p0_3:Au):Option Int:=
 (Dp p0 p0_1 p0_2 p0_3).bind fun y1=>
 cond ((!decide (y1=0))||(!p0.isOpen))
 (
  some (-1))
 (
  some (p0.ops.length:Int))
theorem Wc{A7 Do CS Bm BI BQ BR:Nat}{BF DF DG DH CV Bn BS:Value}{p0:D0}{p0_1:B3}{p0_2:BD}{p0_3:Au}{r:Int}(h:LQ p0 p0_1 p0_2 p0_3=some r): zC K w0 26 [vP A7 0] [own A7 (.cells #[BF,vB p0.isOpen,vP Do 0,vB p0.closed] 85),AD 105 5 BF Cg p0.ops,sO Do DF DG DH BI CS CV p0_1,AD 43 4 DF Ac p0_1.rows,AD 148 3 DG AY p0_1.pages,EU DH AC AC p0_1.gens,AD 55 2 CV Ad p0_1.ring,vO CS BI Bn Bm p0_2,AD 55 2 Bn Ad p0_2.ring,Al Bm AC vB p0_2.taken,dO BI BS BQ BR p0_3,AD 9 1 BS eS p0_3.blocks,Al BQ AC vS p0_3.pend,Al BR AC vB p0_3.bad] H (fun u M=>u=vI r∧M=[own A7 (.cells #[BF,vB p0.isOpen,vP Do 0,vB p0.closed] 85),AD 105 5 BF Cg p0.ops,sO Do DF DG DH BI CS CV p0_1,AD 43 4 DF Ac p0_1.rows,AD 148 3 DG AY p0_1.pages,EU DH AC AC p0_1.gens,AD 55 2 CV Ad p0_1.ring,vO CS BI Bn Bm p0_2,AD 55 2 Bn Ad p0_2.ring,Al Bm AC vB p0_2.taken,dO BI BS BQ BR p0_3,AD 9 1 BS eS p0_3.blocks,Al BQ AC vS p0_3.pend,Al BR AC vB p0_3.bad]):=by
 unfold LQ at h
 refine Vf.enter Tryz.func26 rfl rfl ?_
 refine Y (O E (U (AE (Y ?_))))
 refine AB h fun y1 hy1 h=>?_
 refine J E (AN 14 Zp (IV hy1) E (V E Bg (J E ?_)))
 refine GR (c := !p0.isOpen) 6 7 13 E (fun hb k=>?_) (fun hb k=>?_) ?_
 refine AA E (AA E (AA E (AA E (AA E (AA E (An E E E ?_))))))
 exact k.mono tL
 refine J E (AV E E (AF E RS (AF E U1 (AG 0 Xu E (CO E E (An E E E ?_))))))
 exact k.mono tL
 refine U ?_
 refine AL h E (fun hc1 h=>?_) fun hc1 h=>?_
 refine Y (O E (U (AM (Ag ?_))))
 obtain rfl:=zI h
 exact AW [0,1,2,3,4,5,6,7,8,9,10,11,12,13] 14 E E E
 refine AH (AI (Y (J E (AV E E (AF E RS (AF E RR (AG 0 cV E (FJ 1 E Tb E E (O E (U (AM ?_)))))))))))
 obtain rfl:=zI h
 exact AW [0,1,2,3,4,5,6,7,8,9,10,11,12,13] 14 E E E
def F2(n:Nat)(T:List UInt32)(p0:D0)(p0_1:B3)(p0_2:BD)(p0_3:Au)(p1:Iv):Option (Int×D0×B3×BD×Au):=
 (Dp p0 p0_1 p0_2 p0_3).bind fun y1=>
 ret (!decide (y1=0)) fun x1=>
 cond x1
 (
  some (y1,p0,p0_1,p0_2,p0_3))
 (
  cond p0.isOpen
  (
   (DC p0_1 p0_2 p0_3).bind fun y2=>
   (Tw n p0 y2 p1).bind fun y3=>
   some (y3.1,y3.2,p0_1,p0_2,p0_3))
  (
   (Dl n T p0_1 p0_2 p0_3 [p1]).bind fun y4=>
   some (y4.2.1,p0,y4.2.2.1,y4.2.2.2.1,y4.2.2.2.2)))
theorem U8{n A7 Do CS Bm BI BQ BR:Nat}{T:List UInt32}{BF DF DG DH CV Bn BS:Value}{p0:D0}{p0_1:B3}{p0_2:BD}{p0_3:Au}{p1:Iv}{r:Int×D0×B3×BD×Au}(h:F2 n T p0 p0_1 p0_2 p0_3 p1=some r)(hS:Hq K w0 T):zC K w0 38 [vP A7 0,.agg (Cg p1).toArray] [own A7 (.cells #[BF,vB p0.isOpen,vP Do 0,vB p0.closed] 85),AD 105 5 BF Cg p0.ops,sO Do DF DG DH BI CS CV p0_1,AD 43 4 DF Ac p0_1.rows,AD 148 3 DG AY p0_1.pages,EU DH AC AC p0_1.gens,AD 55 2 CV Ad p0_1.ring,vO CS BI Bn Bm p0_2,AD 55 2 Bn Ad p0_2.ring,Al Bm AC vB p0_2.taken,dO BI BS BQ BR p0_3,AD 9 1 BS eS p0_3.blocks,Al BQ AC vS p0_3.pend,Al BR AC vB p0_3.bad] H (fun u M=>∃vs0_0_0 vs0_1_0 vs0_1_1 vs0_1_2:Value,u=vI r.1∧M=[own A7 (.cells #[vs0_0_0,vB r.2.1.isOpen,vP Do 0,vB r.2.1.closed] 85),AD 105 5 vs0_0_0 Cg r.2.1.ops,sO Do vs0_1_0 vs0_1_1 vs0_1_2 BI CS CV r.2.2.1,AD 43 4 vs0_1_0 Ac r.2.2.1.rows,AD 148 3 vs0_1_1 AY r.2.2.1.pages,EU vs0_1_2 AC AC r.2.2.1.gens,AD 55 2 CV Ad r.2.2.1.ring,vO CS BI Bn Bm r.2.2.2.1,AD 55 2 Bn Ad r.2.2.2.1.ring,Al Bm AC vB r.2.2.2.1.taken,dO BI BS BQ BR r.2.2.2.2,AD 9 1 BS eS r.2.2.2.2.blocks,Al BQ AC vS r.2.2.2.2.pend,Al BR AC vB r.2.2.2.2.bad]):=by
 unfold F2 at h
 refine Vf.enter Tryz.func38 rfl rfl ?_
 refine Y ?_
 refine Bw E E zU fun b1=>?_
 refine O E (U (Y ?_))
 refine AB h fun y1 hy1 h=>?_
 refine J E (SL.pick [1,2,3,4,5,6,7,8,9,10,11,12,13,14,0] 15 (AN 14 Zp (IV hy1) E (O E (U (AE (AK (Y ?_)))))))
 obtain⟨x1,ex1,h⟩:=BG h
 refine J E (V E Bg ?_)
 refine AX (u:=vB x1) E E (congrArg vB ex1) ?_
 refine U ?_
 refine AL h E (fun hc1 h=>?_) fun hc1 h=>?_
 refine Y (J E (O E (U (AM (BO (Ag ?_))))))
 obtain rfl:=zI h
 exact CC [0,1,2,3,4,5,6,7,8,9,10,11,12,13] 15 (D7 E E) E E ⟨BF,DF,DG,DH,E,E⟩
 refine Y (J E (AV E E (AF E RS (AF E U1 (AG 0 Xu E (O E (U ?_)))))))
 refine AL h E (fun hc2 h=>?_) fun hc2 h=>?_
 refine AE ?_
 refine AB h fun y2 hy2 h=>?_
 refine AB h fun y3 hy3 h=>?_
 refine Ai C2 [0,14] (BJ [(true,0),(true,1),(true,2),(true,3),(true,4),(true,5),(true,6),(true,8),(false,7)] (.last 9 (C0 [(false,10)]))) zK (J E (AV E E (AF E RS (J E (AV E E (AF E Y5 (AG 0 lg E ?_)))))))
 refine BA [vI p1.kind,Bh p1.id,AC p1.x,AC p1.y,vS p1.txt] E Si E E (A2 1 E) (SL.pick [2,3,4,5,6,7,8,9,10,11,12,13,0,1] 14 ?_)
 refine Bx (vs:=[_]) (Hin:=[_,_,_,_,_,_,_,_,_,_,_,_]) (Hr:=_::_::_::_) E E ⟨E,zT⟩ i8 E E (Mp hy2) ?_
 rintro v1 _ ⟨_,rfl,rfl⟩
 refine⟨⟨⟨13,rfl⟩,⟨15,rfl⟩,trivial⟩,?_⟩
 refine A4 (SL.pick [0,13,14,1,2,3,4,5,6,7,8,9,10,11,12] 15 ?_)
 refine Bx (vs:=[_,_,_]) (Hin:=[_,_,_]) (Hr:=_::_::_::_::_::_::_::_::_::_::_::_::_::_) E E ⟨E,E,E,zT⟩ vU E E (Dm (B:=[_]) (Hin:=[_,_]) fun K' w1 hk hB=>(rT hy3 (C1 (e:=43) (v:=v1) zV (hB _ zS)) :)) ?_
 rintro _ _ ⟨_,rfl,v2,rfl,rfl⟩
 refine⟨trivial,?_⟩
 refine O E (U (AM (BO (Ag ?_))))
 obtain rfl:=zI h
 exact CC [1,2,3,4,5,6,7,8,9,10,11,12,13,14] 16 (D7 E E) E E ⟨v2,DF,DG,DH,E,E⟩
 refine AH (Ao (AI (AE ?_)))
 refine AB h fun y4 hy4 h=>?_
 refine Ai C2 [0,14] (BJ [(true,0),(true,1),(true,2),(true,3),(true,4),(false,5),(false,6),(false,7),(true,8),(false,9)] (.last 10 .nil)) zK (J E (AV E E (AF E Y5 (AG 0 lg E (BA [vI p1.kind,Bh p1.id,AC p1.x,AC p1.y,vS p1.txt] E Si E E (A2 1 E) ?_)))))
 refine Ck [_] rfl Tb WG X4 ⟨rfl,trivial⟩ rfl rfl rfl zW rfl rfl (fun _=>⟨⟨1,rfl⟩,⟨15,rfl⟩,trivial⟩) fun b2=>?_
 refine Cp Cg 5 ([p1]:List Iv) E zV E ?_
 refine SL.pick [0,3,4,5,6,7,8,9,10,11,12,13,14,1,2] 15 ?_
 refine Bx (vs:=[_,_]) (Hin:=[_,_,_,_,_,_,_,_,_,_,_,_,_]) (Hr:=_::_::_::_) E E ⟨E,E,zT⟩ oh E E (Dm (B:=[_]) (Hin:=[_,_,_,_,_,_,_,_,_,_,_,_]) fun K' w1 hk hB=>Ov hy4 (hS.keeps hk) (C1 (e:=105) (v:=.slice (some ⟨b2,0,none⟩) 1 1) zV (hB _ zS))) ?_
 rintro _ _ ⟨_,rfl,v3,v4,v5,rfl,rfl⟩
 refine⟨⟨⟨13,rfl⟩,⟨15,rfl⟩,trivial⟩,?_⟩
 refine J E (Ap E E E (Ap E E E (A4 (O E (U (Y (J E (O E (U (AM ?_))))))))))
 obtain rfl:=zI h
 exact CC [13,14,1,2,3,4,5,6,7,8,9,10,11,12] 16 (D7 E E) E E ⟨BF,v3,v4,v5,E,E⟩
def EP(n:Nat)(T:List UInt32)(p0:D0)(p0_1:B3)(p0_2:BD)(p0_3:Au)(p1:A3):Option (Int×D0×B3×BD×Au):=
 (F2 n T p0 p0_1 p0_2 p0_3 (⟨1,p1.id,p1.x,p1.y,p1.txt⟩:Iv)).bind fun y1=>
 some (y1.1,y1.2.1,y1.2.2.1,y1.2.2.2.1,y1.2.2.2.2)
theorem SC{n A7 Do CS Bm BI BQ BR:Nat}{T:List UInt32}{BF DF DG DH CV Bn BS:Value}{p0:D0}{p0_1:B3}{p0_2:BD}{p0_3:Au}{p1:A3}{r:Int×D0×B3×BD×Au}(h:EP n T p0 p0_1 p0_2 p0_3 p1=some r)(hS:Hq K w0 T):zC K w0 15 [vP A7 0,.agg (Ac p1).toArray] [own A7 (.cells #[BF,vB p0.isOpen,vP Do 0,vB p0.closed] 85),AD 105 5 BF Cg p0.ops,sO Do DF DG DH BI CS CV p0_1,AD 43 4 DF Ac p0_1.rows,AD 148 3 DG AY p0_1.pages,EU DH AC AC p0_1.gens,AD 55 2 CV Ad p0_1.ring,vO CS BI Bn Bm p0_2,AD 55 2 Bn Ad p0_2.ring,Al Bm AC vB p0_2.taken,dO BI BS BQ BR p0_3,AD 9 1 BS eS p0_3.blocks,Al BQ AC vS p0_3.pend,Al BR AC vB p0_3.bad] H (fun u M=>∃vs0_0_0 vs0_1_0 vs0_1_1 vs0_1_2:Value,u=vI r.1∧M=[own A7 (.cells #[vs0_0_0,vB r.2.1.isOpen,vP Do 0,vB r.2.1.closed] 85),AD 105 5 vs0_0_0 Cg r.2.1.ops,sO Do vs0_1_0 vs0_1_1 vs0_1_2 BI CS CV r.2.2.1,AD 43 4 vs0_1_0 Ac r.2.2.1.rows,AD 148 3 vs0_1_1 AY r.2.2.1.pages,EU vs0_1_2 AC AC r.2.2.1.gens,AD 55 2 CV Ad r.2.2.1.ring,vO CS BI Bn Bm r.2.2.2.1,AD 55 2 Bn Ad r.2.2.2.1.ring,Al Bm AC vB r.2.2.2.1.taken,dO BI BS BQ BR r.2.2.2.2,AD 9 1 BS eS r.2.2.2.2.blocks,Al BQ AC vS r.2.2.2.2.pend,Al BR AC vB r.2.2.2.2.bad]):=by
 unfold EP at h
 refine Vf.enter Tryz.func15 rfl rfl ?_
 refine Y ?_
 refine Bw E E zU fun b1=>?_
 refine O E (U (Y ?_))
 refine AB h fun y1 hy1 h=>?_
 refine J E (BA [Bh p1.id,AC p1.x,AC p1.y,vS p1.txt] E IA E E (A2 0 E) (Cf [_,_] E wM vy X4 ⟨E,E,zT⟩ E (SL.pick [1,2,3,4,5,6,7,8,9,10,11,12,13,14,0] 15 (Bi 14 vF ((U8 hy1 hS :)) E ?_))))
 rintro _ _ ⟨v1,v2,v3,v4,rfl,rfl⟩
 refine O E (U (AM ?_))
 obtain rfl:=zI h
 exact CC [0,1,2,3,4,5,6,7,8,9,10,11,12,13] 15 (D7 E E) E E ⟨v1,v2,v3,v4,E,E⟩
def Ga(n:Nat)(p0:D0)(p0_1:B3)(p0_2:BD)(p0_3:Au)(p1:UInt64):Option (A3×Int):=
 (Dp p0 p0_1 p0_2 p0_3).bind fun y1=>
 cond (!decide (y1=0))
 (
  some ((⟨0,0,0,[]⟩:A3),y1))
 (
  (Ij n p0_1 p0_2 p0_3 p1).bind fun y2=>
  some ((⟨y2.1.id,y2.1.x,y2.1.y,y2.1.txt⟩:A3),y2.2))
theorem SA{n A7 Do CS Bm BI BQ BR:Nat}{BF DF DG DH CV Bn BS:Value}{p0:D0}{p0_1:B3}{p0_2:BD}{p0_3:Au}{p1:UInt64}{r:A3×Int}(h:Ga n p0 p0_1 p0_2 p0_3 p1=some r): zC K w0 25 [vP A7 0,Bh p1] [own A7 (.cells #[BF,vB p0.isOpen,vP Do 0,vB p0.closed] 85),AD 105 5 BF Cg p0.ops,sO Do DF DG DH BI CS CV p0_1,AD 43 4 DF Ac p0_1.rows,AD 148 3 DG AY p0_1.pages,EU DH AC AC p0_1.gens,AD 55 2 CV Ad p0_1.ring,vO CS BI Bn Bm p0_2,AD 55 2 Bn Ad p0_2.ring,Al Bm AC vB p0_2.taken,dO BI BS BQ BR p0_3,AD 9 1 BS eS p0_3.blocks,Al BQ AC vS p0_3.pend,Al BR AC vB p0_3.bad] H (fun u M=>u=.tuple #[.agg (Ac r.1).toArray,vI r.2]∧M=[own A7 (.cells #[BF,vB p0.isOpen,vP Do 0,vB p0.closed] 85),AD 105 5 BF Cg p0.ops,sO Do DF DG DH BI CS CV p0_1,AD 43 4 DF Ac p0_1.rows,AD 148 3 DG AY p0_1.pages,EU DH AC AC p0_1.gens,AD 55 2 CV Ad p0_1.ring,vO CS BI Bn Bm p0_2,AD 55 2 Bn Ad p0_2.ring,Al Bm AC vB p0_2.taken,dO BI BS BQ BR p0_3,AD 9 1 BS eS p0_3.blocks,Al BQ AC vS p0_3.pend,Al BR AC vB p0_3.bad]):=by
 unfold Ga at h
 refine Vf.enter Tryz.func25 rfl rfl ?_
 refine Y ?_
 refine A6 E Iu zU fun b1=>?_
 refine O E (U (AE (Y ?_)))
 refine AB h fun y1 hy1 h=>?_
 refine J E (SL.pick [1,2,3,4,5,6,7,8,9,10,11,12,13,14,0] 15 (AN 14 Zp (IV hy1) E (O E (U (Y (J E (V E Bg (U ?_))))))))
 refine AL h E (fun hc1 h=>?_) fun hc1 h=>?_
 refine Y (Cf [] E hE gz Iu zT E (J E (BN 14 E E E E FE E E E zT (O E (U (AM (Ag ?_)))))))
 obtain rfl:=zI h
 exact Ax (Fi E (Cj 14 (Ac (⟨0,0,0,[]⟩:A3)) IA E E E E) E) (As (M:=[_,_,_,_,_,_,_,_,_,_,_,_,_,_]) ⟨E,E⟩ fun _ hw=>Br.pick (H:=[_,_,_,_,_,_,_,_,_,_,_,_,_,_,_]) hw [0,1,2,3,4,5,6,7,8,9,10,11,12,13] 15 E)
 refine AH (AI (Y ?_))
 refine AB h fun y2 hy2 h=>?_
 refine J E (AV E E (AF E Y5 (AG 0 lg E (J E (SL.pick [2,3,4,5,6,7,8,9,10,11,12,13,0,1] 14 (AN 12 vG (Vp hy2) E (Ap E E E ?_)))))))
 refine Ap E E E (BN 14 E E E E FE E E E zT (O E (U (AM ?_))))
 obtain rfl:=zI h
 exact Ax (Fi E (Cj 14 (Ac (⟨y2.1.id,y2.1.x,y2.1.y,y2.1.txt⟩:A3)) IA E E E E) E) (As (M:=[_,_,_,_,_,_,_,_,_,_,_,_,_,_]) ⟨E,E⟩ fun _ hw=>Br.pick (H:=[_,_,_,_,_,_,_,_,_,_,_,_,_,_,_]) hw [12,13,0,1,2,3,4,5,6,7,8,9,10,11] 15 E)
end

section
structure yR where
 out:List BU
 rows:List A3
 count:Int
 err:Int
end

section
variable {P:Program}{ro:Option Nat}{K:Nat→Prop}{w0:World}{N:Nat}{Q:Eg}{D:List Nat}{l l':Tm}{H H' Hs L:List Ab}{ops:Array Oper}{items:I5}
variable {tk:Bool}{o:Oper}{t:Nat}{v:Value}{x y z:Operand}
variable {α:Type}{enc:α→List Value}{sz:Nat}{xs us:List α}{e ty:TypeId}
end

section
variable {P:Program}{ro:Option Nat}{K:Nat→Prop}{w0:World}{N:Nat}{Q:Eg}{D:List Nat}{l l':Tm}{H H' Hs L:List Ab}{ops:Array Oper}{items:I5}
variable {tk:Bool}{o:Oper}{t:Nat}{v:Value}{x y z:Operand}
theorem n6{b off n c sz:Nat}{k k':IntKind}{i j:Int}{ty e:TypeId}(p q:Nat)(ho:At ops N l o t (.slice ty x (some y) (some z) none))(hty:P.underlying ty=some (.slice e))(hsz:Ee P e=some sz)(hx:B4 l x=some (.slice (some ⟨b,off,none⟩) n c))(hy:B4 l y=some (.int k i))(hz:B4 l z=some (.int k' j))
(hi:i=(p:Int))(hj:j=(q:Int))(hp:p≤q)(hq:q≤c)(hpc:p<c)(h:SL P ro K w0 N ops Hs items Q D ((t,.slice (some ⟨b,off+p*sz,none⟩) (q-p) (c-p))::l) H):SL P ro K w0 N ops Hs (.cons (tk,o) items) Q D l H:=
 SL.val ho rfl (fun a w ha _=>by
  subst hi hj
  have hne:¬c=p:=zO
  simp only[execOp,ho.op,Instr.sliceAt,Instr.slice,Option.map]
  simp[ha.eval hx,ha.eval hy,ha.eval hz,A8 hty,Dc hsz,Instr.sliceBounds,Instr.sliceBound,asIntOf,hq,hp,Dd];omega) h
theorem oA{α:Type}{enc:α→List Value}{sz:Nat}{xs us:List α}{k k':IntKind}{i j:Int}{ty e:TypeId}(hn:KK xs i j=some us)(hk:CR K w0 enc sz v xs)(ho:At ops N l o t (.slice ty x (some y) (some z) none))(hty:P.underlying ty=some (.slice e))(hsz:Ee P e=some sz)(hx:B4 l x=some v)(hy:B4 l y=some (.int k i))(hz:B4 l z=some (.int k' j))
(h:∀v',CR K w0 enc sz v' us→SL P ro K w0 N ops Hs items Q D ((t,v')::l) H):SL P ro K w0 N ops Hs (.cons (tk,o) items) Q D l H:=by
 obtain⟨h1,h2,h3,h4,rfl⟩:=PM hn
 have hi:i=(i.toNat:Int):=zO
 have hj:j=(j.toNat:Int):=zO
 generalize i.toNat=p at*
 generalize j.toNat=q at*
 subst hi hj
 rcases hk.at_ with⟨a0,rfl,rfl⟩ | ⟨b,off,cap,rfl,hcap,hc⟩
 have hq:q=0:=by simpa using h4
 have hp:p=0:=zO
 subst hq hp
 refine SL.val (v:=.slice a0 0 0) ho E (fun a w ha _=>?_) (h _ ⟨hk.len,.inl ⟨_,E,by simp⟩⟩)
 simp only[execOp,ho.op,Instr.sliceAt,Instr.slice,Option.map]
 cases a0<;>simp[ha.eval hx,ha.eval hy,ha.eval hz,A8 hty,Dc hsz,Instr.sliceBounds,Instr.sliceBound,asIntOf]
 have hl:((xs.drop p).take (q-p)).length=q-p:=by simp;omega
 by_cases hpc:p<cap
 refine n6 p q ho hty hsz hx hy hz E E h3 zO hpc (h _ ⟨hk.len,.inr ⟨b,off+p*sz,cap-p,by rw[hl],by rw[hl];omega,fun j' u hu=>?_⟩⟩)
 have hc':=(bc hk.len hcap hc (show p≤xs.length by omega)).at_
 have hpre:((xs.drop p).take (q-p))++((xs.drop p).drop (q-p))=xs.drop p:=List.take_append_drop ..
 have hlen:((xs.take p).flatMap enc).length=p*sz:=by rw[Kd hk.len,List.length_take,Nat.min_eq_left zO]
 have:=hc (p*sz+j') u (by
  rw[←List.take_append_drop p xs,List.flatMap_append,List.getElem?_append_right zO,hlen,Nat.add_sub_cancel_left,←hpre,List.flatMap_append,List.getElem?_append_left (List.getElem?_eq_some_iff.1 hu).1]
  exact hu)
 rw[Nat.add_assoc]
 exact this
 have hpe:p=cap:=zO
 have hqe:q=p:=zO
 subst hqe
 refine SL.val (v:=.slice (some ⟨b,off,none⟩) 0 0) ho E (fun a w ha _=>?_) (h _ ⟨hk.len,.inl ⟨_,E,by simp⟩⟩)
 simp only[execOp,ho.op,Instr.sliceAt,Instr.slice,Option.map]
 simp[ha.eval hx,ha.eval hy,ha.eval hz,A8 hty,Dc hsz,Instr.sliceBounds,Instr.sliceBound,asIntOf,Dd,hpe]
end

section
variable {K:Nat→Prop}{w0:World}{H:List Ab}
def bj(x:DB):List Value:=[AC x.cx,AC x.cy,vI x.lev,.slice none 0 0,.slice none 0 0]
theorem ql:zC K w0 159 [zN] [] H (fun u M=>u=.agg #[AC 0,AC 0,vI 0,zN,zN]∧M=[]):=by
 refine Vf.enter Tryz.func159 rfl rfl ?_
 refine Y ?_
 refine A6 E KG zU fun b0=>?_
 refine U (AE (Y (J E (Jk E D8 E (V E Bv (U ?_))))))
 refine BH E (fun hc1=>?_) (fun hc1=>absurd hc1 zD)
 refine Y (Cf [] E ec eZ KG zT E (BN 0 E E E E KD E E E zT (U (AM (Ag ?_)))))
 exact Ax (KC E (Cj 0 [AC 0,AC 0,vI 0,zN,zN] O4 E E E E)) (As (M:=[]) ⟨E,E⟩ fun _ h=>h.skip [_])
def kR:Option Int:=some 0
theorem na{r:Int}(h:kR=some r):zC K w0 124 [zN] [] H (fun u M=>u=.tuple #[.agg #[AC 0,AC 0,vI 0,zN,zN],vI r]∧M=[]):=by
 obtain rfl:=zI h
 refine Vf.enter Tryz.func124 rfl rfl ?_
 refine Y ?_
 refine A6 E KG zU fun b0=>?_
 refine O E (U (Y (J E ?_)))
 refine AN 0 pA (T6 (n:=1) (p0:=[]) (r:=true) E (CR.nil zV)) E ?_
 refine O E (U (AE (Y (J E (CO E E (U ?_))))))
 refine BH E (fun hc1=>absurd hc1 zD) (fun hc1=>?_)
 refine AH (AI (Y (J E (AN 0 sG ql E (BN 0 E E E E KD E E E zT (O E (U (AM ?_))))))))
 exact Ax (Fi E (Cj 0 [AC 0,AC 0,vI 0,zN,zN] O4 E E E E) E) (As (M:=[]) ⟨E,E⟩ fun _ h=>h.skip [_])
end

section
variable {K:Nat→Prop}{w0:World}{H:List Ab}
def GN(n:Nat)(T:List UInt32)(p0_1:Bt)(p0_2:BM)(y1:List UInt8×Int)(o2:HH)(y2:UInt32)(y3:List UInt8):Option (Bo×HH×Bt×BM):=
 (HS n T p0_1 p0_2 y1.1).bind fun y6=>
 cond (!decide (y6.2.1=0))
 (
  none)
 (
  (Eh 4 o2.took [y6.1.page]).bind fun l1=>
  (Eh 40 o2.out [(⟨y1.1,y6.1.page,y6.1.tag⟩:BU)]).bind fun l2=>
  some ((⟨y6.1.page,y6.1.tag⟩:Bo),{ o2 with out:=l2,took:=l1 },y6.2.2.1,y6.2.2.2))
def Ih(n:Nat)(T:List UInt32)(p0_1:Bt)(p0_2:BM)(y1:List UInt8×Int)(nx_f_ref14_keeper_place_l1:HH×UInt32×List UInt8×Int→Option (Bo×HH×Bt×BM))(o3:HH)(y4:UInt32)(y5:List UInt8)(a1:Int):Option (Bo×HH×Bt×BM):=
 cond (decide (a1<(o3.had.length:Int)))
 (
  none)
 (
  GN n T p0_1 p0_2 y1 o3 y4 y5)
def Ja(n:Nat)(T:List UInt32)(p0_1:Bt)(p0_2:BM)(y1:List UInt8×Int):Nat→(HH×UInt32×List UInt8×Int)→Option (Bo×HH×Bt×BM):=CH fun nx x=>Ih n T p0_1 p0_2 y1 nx x.1 x.2.1 x.2.2.1 x.2.2.2
def JZ(n:Nat)(T:List UInt32)(p0_1:Bt)(p0_2:BM)(y1:List UInt8×Int)(o1:HH):Option (Bo×HH×Bt×BM):=
 cond (!decide (o1.err=0))
 (
  none)
 (
  Ja n T p0_1 p0_2 y1 n (o1,0,[],0))
def GG(n:Nat)(T:List UInt32)(p0:HH)(p0_1:Bt)(p0_2:BM)(p1:FF):Option (Bo×HH×Bt×BM):=
 (Kr n p1).bind fun y1=>
 cond ((!decide (y1.2=0))&&(decide (p0.err=0)))
 (
  none)
 (
  JZ n T p0_1 p0_2 y1 p0)
theorem Tf{n A7 Bb C9:Nat}{T:List UInt32}{Aj BK Fj Bs Bu DA CD CE CF qf qg:Value}{p0:HH}{p0_1:Bt}{p0_2:BM}{p1:FF}{r:Bo×HH×Bt×BM}(h:GG n T p0 p0_1 p0_2 p1=some r)(hT:Kl K w0 2 64 T)(hs1_4:CR K w0 Ac 4 qf p1.rows)(hs1_5:CR K w0 CP 2 qg p1.kids):zC K w0 160 [vP A7 0,.agg #[vI p1.kind,AC p1.cx,AC p1.cy,vI p1.lev,qf,qg,AC p1.npage,vS p1.ntag]] [own A7 (.cells #[vP Bb 0,Aj,BK,Fj,vI p0.err,Bs] 229),AD 148 3 Aj AY p0.had,AD 148 3 BK AY p0.out,AD 36 1 Fj AQ p0.took,AD 148 3 Bs AY p0.must,wO Bb C9 Bu DA p0_1,AD 55 2 Bu Ad p0_1.ring,AD 4 1 DA eB p0_1.taken,eO C9 CD CE CF p0_2,AD 9 1 CD eS p0_2.blk,AD 9 1 CE eS p0_2.pnd,AD 4 1 CF eB p0_2.bads] H (fun u M=>∃vs0_0_2 vs0_0_3:Value,u=.agg (CP r.1).toArray∧M=[own A7 (.cells #[vP Bb 0,Aj,vs0_0_2,vs0_0_3,vI r.2.1.err,Bs] 229),AD 148 3 Aj AY r.2.1.had,AD 148 3 vs0_0_2 AY r.2.1.out,AD 36 1 vs0_0_3 AQ r.2.1.took,AD 148 3 Bs AY r.2.1.must,wO Bb C9 Bu DA r.2.2.1,AD 55 2 Bu Ad r.2.2.1.ring,AD 4 1 DA eB r.2.2.1.taken,eO C9 CD CE CF r.2.2.2,AD 9 1 CD eS r.2.2.2.blk,AD 9 1 CE eS r.2.2.2.pnd,AD 4 1 CF eB r.2.2.2.bads]):=by
 unfold GG at h
 refine Vf.enter Tryz.func160 rfl rfl ?_
 refine Y ?_
 refine Bw E E zU fun b1=>?_
 refine A6 E Gs zU fun b2=>?_
 refine U (Y ?_)
 refine AB h fun y1 hy1 h=>?_
 refine BA [vI p1.kind,AC p1.cx,AC p1.cy,vI p1.lev,qf,qg,AC p1.npage,vS p1.ntag] E ZO E E (A2 1 E) (AN 0 sW ((Yi hy1 hs1_4 hs1_5 :)) E (J E (Ap E E E (Ap E E E (O E (O E (U ?_)))))))
 refine Az (α:=HH) (fun x=>JZ n T p0_1 p0_2 y1 x=some r) (fun x=>[(0,vP A7 0),(4,vP b2 0),(5,vS y1.1)]) (fun x=>own A7 (.cells #[vP Bb 0,Aj,BK,Fj,vI x.err,Bs] 229)::wO Bb C9 Bu DA p0_1::eO C9 CD CE CF p0_2::AD 9 1 CD eS p0_2.blk::AD 9 1 CE eS p0_2.pnd::AD 4 1 CF eB p0_2.bads::AD 55 2 Bu Ad p0_1.ring::AD 4 1 DA eB p0_1.taken::AD 148 3 Aj AY x.had::AD 148 3 BK AY x.out::AD 36 1 Fj AQ x.took::AD 148 3 Bs AY x.must::own b2 (.cells #[AC 0,vS []] 146)::H) ?_ (fun o1 D h=>?_)
 refine Y (J E (V E Bg (J E ?_)))
 refine DT (c:=decide (p0.err=0)) 18 6 24 E (fun hb k=>?_) (fun hb k=>?_) ?_
 refine J E (AV E E (AF E aB (AG 2 ST E (V E Bv (An E E E ?_)))))
 exact k.mono tL
 refine AA E (AA E (AA E (AA E (AA E (An E E E ?_)))))
 exact k.mono tL
 refine U ?_
 refine AL h E (fun hc1 h=>?_) fun hc1 h=>?_
 cases h
 refine AH ?_
 exact Ak p0 h tL (A5 [2,7,10,11,12,13,8,9,3,4,5,6,0] 14 E E E)
 unfold JZ at h
 try dsimp only
 refine AE (Y (J E (AV E E (AF E aB (AG 0 ST E (V E Bg (U ?_)))))))
 refine AL h E (fun hc2 h=>?_) fun hc2 h=>?_
 cases h
 refine AH (AI (AE (Y (J E (AV E E (AF E ga (AG 0 PJ E (GJ E wx E E (U (EO E (AH (AI ?_))))))))))))
 refine Az (α:=HH×UInt32×List UInt8) (fun x=>GN n T p0_1 p0_2 y1 x.1 x.2.1 x.2.2=some r) (fun x=>[(0,vP A7 0),(4,vP b2 0),(5,vS y1.1)]) (fun x=>own A7 (.cells #[vP Bb 0,Aj,BK,Fj,vI x.1.err,Bs] 229)::wO Bb C9 Bu DA p0_1::eO C9 CD CE CF p0_2::AD 9 1 CD eS p0_2.blk::AD 9 1 CE eS p0_2.pnd::AD 4 1 CF eB p0_2.bads::AD 55 2 Bu Ad p0_1.ring::AD 4 1 DA eB p0_1.taken::AD 148 3 Aj AY x.1.had::AD 148 3 BK AY x.1.out::AD 36 1 Fj AQ x.1.took::AD 148 3 Bs AY x.1.must::own b2 (.cells #[AC x.2.1,vS x.2.2] 146)::H) ?_ (fun x D h=>?_)
 refine Y (O E (U (AK ?_)))
 refine SX.heap (SX.mono (A9 (α:=Nat×HH×UInt32×List UInt8×Int) (fun x=>Ja n T p0_1 p0_2 y1 x.1 (x.2.1,x.2.2.1,x.2.2.2.1,x.2.2.2.2)=some r) (fun x=>[(0,vP A7 0),(4,vP b2 0),(5,vS y1.1),(8,vI x.2.2.2.2)]) (fun x=>own A7 (.cells #[vP Bb 0,Aj,BK,Fj,vI x.2.1.err,Bs] 229)::wO Bb C9 Bu DA p0_1::eO C9 CD CE CF p0_2::AD 9 1 CD eS p0_2.blk::AD 9 1 CE eS p0_2.pnd::AD 4 1 CF eB p0_2.bads::AD 55 2 Bu Ad p0_1.ring::AD 4 1 DA eB p0_1.taken::AD 148 3 Aj AY x.2.1.had::AD 148 3 BK AY x.2.1.out::AD 36 1 Fj AQ x.2.1.took::AD 148 3 Bs AY x.2.1.must::own b2 (.cells #[AC x.2.2.1,vS x.2.2.2.1] 146)::H) (fun x=>x.1) (fun x D h=>?_) (n,o1,0,[],0) h) tL) (A5 [0,1,2,3,4,5,6,7,8,9,10,11,12] 13 E E E)
 obtain⟨m1,o3,y4,y5,a1⟩:=x
 dsimp only at h
 rcases m1 with _ | m1
 cases (show(none:Option _)=some r from h)
 replace h:Ih n T p0_1 p0_2 y1 (Ja n T p0_1 p0_2 y1 m1) o3 y4 y5 a1=some r:=h
 unfold Ih at h
 try dsimp only
 refine AE (Y (J E (J E (AV E E (AF E pT (AG 0 SU E (FJ 8 E MD E E (V E BL (U ?_)))))))))
 refine AL h E (fun hc4 h=>?_) fun hc4 h=>?_
 cases h
 refine Av (Ay (BP (A0 ?_)))
 exact Ak (o3,y4,y5) h tL (A5 [0,1,2,3,4,5,6,7,8,9,10,11,12] 13 E E E)
 obtain⟨o2,y2,y3⟩:=x
 dsimp only at h
 unfold GN at h
 try dsimp only
 refine Y ?_
 refine AB h fun y6 hy6 h=>?_
 refine J E (AV E E (AF E ga (AG 0 PJ E (J E (SL.pick [1,6,7,2,3,4,5,0] 8 (AN 7 sX (T7 hy6 hT) E (J E ?_)))))))
 refine Ap E E E (Ap E E E ?_)
 refine A6 E Gs zU fun b3=>?_
 refine BN 0 E E E E F6 E E E zT (O E (U (AE (Y (J E (V E Bg (U ?_)))))))
 refine AL h E (fun hc5 h=>?_) fun hc5 h=>?_
 cases h
 refine AH (AI (AE ?_))
 refine AB h fun l1 hl1 h=>?_
 refine Ai C2 [0,8] (BJ [(true,0),(true,1),(true,2),(true,3),(true,4),(true,5),(true,6),(false,7),(false,8),(true,9),(true,10)] (.last 11 .nil)) zK (J E (J E (AV E E (AF E gb (AG 1 js E (AF E HB (AG 0 Ah E ?_)))))))
 refine Ck [_] rfl Af Aa Jf ⟨rfl,trivial⟩ rfl rfl rfl zW rfl rfl (fun _=>⟨⟨1,rfl⟩,⟨9,rfl⟩,trivial⟩) fun b4=>?_
 refine Cp AQ 1 ([y6.1.page]:List UInt32) E zV E ?_
 refine EF 12 hl1 (sz:=1) (enc:=AQ) zV E Af Aa R9 Jf E zD E E E E (Ct (sz:=1) (enc:=AQ) 0 zV E) (by simp[AQ,Value.oneCell']) (fun _=>⟨⟨1,E⟩,⟨9,E⟩,zT⟩) fun v1=>?_
 refine AV E E (AF E gb (A4 ?_))
 refine EI 12 E fun hv1 ho1=>?_
 refine FV 9 E E E E jy hv1 ho1 E zT (U (AE ?_))
 refine AB h fun l2 hl2 h=>?_
 refine Ai C2 [1,9] (BJ [(true,0),(true,1),(true,2),(true,3),(true,4),(true,5),(true,6),(true,7),(false,8),(false,9),(true,10),(true,11)] (.last 12 .nil)) zK (J E (J E (AV E E (AF E aA (AG 1 SU E (J E (BA [AC y6.1.page,vS y6.1.tag] E EZ E E (A2 0 E) ?_)))))))
 refine Cf [_,_] E p9 py RA ⟨E,E,zT⟩ E ?_
 refine Ck [_] rfl MD MC RA ⟨rfl,trivial⟩ rfl rfl rfl zW rfl rfl (fun _=>⟨⟨2,rfl⟩,⟨10,rfl⟩,trivial⟩) fun b5=>?_
 refine Cp AY 3 ([(⟨y1.1,y6.1.page,y6.1.tag⟩:BU)]:List BU) E zV E ?_
 refine EF 12 hl2 (sz:=3) (enc:=AY) zV E MD MC oS RA E zD E E E E (Ct (sz:=3) (enc:=AY) 0 zV E) (by simp[AY,Value.oneCell']) (fun _=>⟨⟨2,E⟩,⟨10,E⟩,zT⟩) fun v2=>?_
 refine AV E E (AF E aA (A4 ?_))
 refine EI 12 E fun hv2 ho2=>?_
 refine FV 10 E E E E qW hv2 ho2 E zT (U (Y (BA [AC y6.1.page,vS y6.1.tag] E EZ E E (A2 2 E) (BN 15 E E E E F6 E E E zT (U (AM ?_))))))
 obtain rfl:=zI h
 exact Ax (KC E (Cj 15 (CP (⟨y6.1.page,y6.1.tag⟩:Bo)) EZ E E E E)) (As (M:=[_,_,_,_,_,_,_,_,_,_,_,_]) ⟨v2,v1,E,E⟩ fun _ hw=>Br.pick (H:=[_,_,_,_,_,_,_,_,_,_,_,_,_,_,_,_]) hw [10,11,12,13,14,3,4,5,6,7,8,9] 16 E)
def Jy(o4:HH)(o5:Bt)(o6:BM)(y3:UInt32)(y4:List UInt8):Option (Bo×HH×Bt×BM):=
 some ((⟨y3,y4⟩:Bo),o4,o5,o6)
def F0(n:Nat)(T:List UInt32)(nx_f_ref14_keeper_node_l1:HH×Bt×BM×UInt32×List UInt8×Int→Option (Bo×HH×Bt×BM))(o7:HH)(o8:Bt)(o9:BM)(y5:UInt32)(y6:List UInt8)(a1:Int):Option (Bo×HH×Bt×BM):=
 cond (decide (0≤a1))
 (
  (KK [] a1 (min 0 (wI (a1+4)))).bind fun l1=>
  (GG n T o7 o8 o9 (⟨1,0,0,0,l1,[],y5,y6⟩:FF)).bind fun y7=>
  ret (wI (a1-4)) fun x2=>
  nx_f_ref14_keeper_node_l1 (y7.2.1,y7.2.2.1,y7.2.2.2,y7.1.page,y7.1.tag,x2))
 (
  Jy o7 o8 o9 y5 y6)
def Hf(n:Nat)(T:List UInt32):Nat→(HH×Bt×BM×UInt32×List UInt8×Int)→Option (Bo×HH×Bt×BM):=CH fun nx x=>F0 n T nx x.1 x.2.1 x.2.2.1 x.2.2.2.1 x.2.2.2.2.1 x.2.2.2.2.2
def Jx(n:Nat)(T:List UInt32)(o1:HH)(o2:Bt)(o3:BM)(y1:UInt32)(y2:List UInt8):Option (Bo×HH×Bt×BM):=
 (K0 (wI ((max 0 1)-1)) 4).bind fun q1=>
 ret (wI (q1*4)) fun x1=>
 Hf n T n (o1,o2,o3,0,[],x1)
def HT(n:Nat)(T:List UInt32)(p0:HH)(p0_1:Bt)(p0_2:BM):Option (Bo×HH×Bt×BM):=
 cond (decide (0<0))
 (
  none)
 (
  Jx n T p0 p0_1 p0_2 0 [])
theorem T8{n A7 Bb C9:Nat}{T:List UInt32}{Aj BK Fj Bs Bu DA CD CE CF:Value}{p0:HH}{p0_1:Bt}{p0_2:BM}{r:Bo×HH×Bt×BM}(h:HT n T p0 p0_1 p0_2=some r)(hT:Kl K w0 2 64 T):zC K w0 125 [vP A7 0,.agg #[AC 0,AC 0,vI 0,zN,zN]] [own A7 (.cells #[vP Bb 0,Aj,BK,Fj,vI p0.err,Bs] 229),AD 148 3 Aj AY p0.had,AD 148 3 BK AY p0.out,AD 36 1 Fj AQ p0.took,AD 148 3 Bs AY p0.must,wO Bb C9 Bu DA p0_1,AD 55 2 Bu Ad p0_1.ring,AD 4 1 DA eB p0_1.taken,eO C9 CD CE CF p0_2,AD 9 1 CD eS p0_2.blk,AD 9 1 CE eS p0_2.pnd,AD 4 1 CF eB p0_2.bads] H (fun u M=>∃vs0_0_2 vs0_0_3:Value,u=.agg (CP r.1).toArray∧M=[own A7 (.cells #[vP Bb 0,Aj,vs0_0_2,vs0_0_3,vI r.2.1.err,Bs] 229),AD 148 3 Aj AY r.2.1.had,AD 148 3 vs0_0_2 AY r.2.1.out,AD 36 1 vs0_0_3 AQ r.2.1.took,AD 148 3 Bs AY r.2.1.must,wO Bb C9 Bu DA r.2.2.1,AD 55 2 Bu Ad r.2.2.1.ring,AD 4 1 DA eB r.2.2.1.taken,eO C9 CD CE CF r.2.2.2,AD 9 1 CD eS r.2.2.2.blk,AD 9 1 CE eS r.2.2.2.pnd,AD 4 1 CF eB r.2.2.2.bads]):=by
 unfold HT at h
 refine Vf.enter Tryz.func125 rfl rfl ?_
 refine Y ?_
 refine Bw E E zU fun b1=>?_
 refine A6 E Gs zU fun b2=>?_
 refine U ?_
 refine Az (α:=HH×Bt×BM×Value×Value×UInt32×List UInt8) (fun x=>Jx n T x.1 x.2.1 x.2.2.1 x.2.2.2.2.2.1 x.2.2.2.2.2.2=some r) (fun x=>[(0,vP A7 0),(3,vP b1 0),(4,vP b2 0)]) (fun x=>own A7 (.cells #[vP Bb 0,Aj,x.2.2.2.1,x.2.2.2.2.1,vI x.1.err,Bs] 229)::wO Bb C9 Bu DA x.2.1::eO C9 CD CE CF x.2.2.1::AD 9 1 CD eS x.2.2.1.blk::AD 9 1 CE eS x.2.2.1.pnd::AD 4 1 CF eB x.2.2.1.bads::AD 55 2 Bu Ad x.2.1.ring::AD 4 1 DA eB x.2.1.taken::AD 148 3 Aj AY x.1.had::AD 148 3 x.2.2.2.1 AY x.1.out::AD 36 1 x.2.2.2.2.1 AQ x.1.took::AD 148 3 Bs AY x.1.must::own b1 (.cells #[AC 0,AC 0,vI 0,zN,zN] 204)::own b2 (.cells #[AC x.2.2.2.2.2.1,vS x.2.2.2.2.2.2] 146)::H) ?_ (fun x D h=>?_)
 refine Y (AF E Ly (AG 1 WB E (Jk E P2 E (V E C8 (U ?_)))))
 refine AL h E (fun hc1 h=>?_) fun hc1 h=>?_
 cases h
 refine AH ?_
 exact Ak (p0,p0_1,p0_2,BK,Fj,0,[]) h tL (A5 [2,7,10,11,12,13,8,9,3,4,5,6,1,0] 14 E E E)
 obtain⟨o1,o2,o3,v1,v2,y1,y2⟩:=x
 dsimp only at h
 unfold Jx at h
 try dsimp only
 refine Y (Cf [] E P0 Pz Gs zT E ?_)
 refine A6 E Gs zU fun b3=>?_
 refine BN 0 E E E E F6 E E E zT (U ?_)
 refine Az (α:=HH×Bt×BM×Value×Value×UInt32×List UInt8) (fun x=>Jy x.1 x.2.1 x.2.2.1 x.2.2.2.2.2.1 x.2.2.2.2.2.2=some r) (fun x=>[(0,vP A7 0),(4,vP b2 0),(7,vP b3 0)]) (fun x=>own A7 (.cells #[vP Bb 0,Aj,x.2.2.2.1,x.2.2.2.2.1,vI x.1.err,Bs] 229)::wO Bb C9 Bu DA x.2.1::eO C9 CD CE CF x.2.2.1::AD 9 1 CD eS x.2.2.1.blk::AD 9 1 CE eS x.2.2.1.pnd::AD 4 1 CF eB x.2.2.1.bads::AD 55 2 Bu Ad x.2.1.ring::AD 4 1 DA eB x.2.1.taken::AD 148 3 Aj AY x.1.had::AD 148 3 x.2.2.2.1 AY x.1.out::AD 36 1 x.2.2.2.2.1 AQ x.1.took::AD 148 3 Bs AY x.1.must::own b2 (.cells #[AC y1,vS y2] 146)::own b3 (.cells #[AC x.2.2.2.2.2.1,vS x.2.2.2.2.2.2] 146)::H) ?_ (fun x D h=>?_)
 refine Y ?_
 refine AB h fun q1 hq1 h=>?_
 obtain⟨x1,ex1,h⟩:=BG h
 refine AF E UO (AG 13 HC E (Jk E D8 E (ft E E E (V E BC (V E (K6 hq1) (V E Ha ?_))))))
 refine AX (u:=vI x1) E E (congrArg vI ex1) ?_
 refine U (AK ?_)
 refine SX.heap (SX.mono (A9 (α:=Nat×HH×Bt×BM×Value×Value×UInt32×List UInt8×Int) (fun x=>Hf n T x.1 (x.2.1,x.2.2.1,x.2.2.2.1,x.2.2.2.2.2.2.1,x.2.2.2.2.2.2.2.1,x.2.2.2.2.2.2.2.2)=some r) (fun x=>[(0,vP A7 0),(3,vP b1 0),(4,vP b2 0),(7,vP b3 0),(8,vI x.2.2.2.2.2.2.2.2)]) (fun x=>own A7 (.cells #[vP Bb 0,Aj,x.2.2.2.2.1,x.2.2.2.2.2.1,vI x.2.1.err,Bs] 229)::wO Bb C9 Bu DA x.2.2.1::eO C9 CD CE CF x.2.2.2.1::AD 9 1 CD eS x.2.2.2.1.blk::AD 9 1 CE eS x.2.2.2.1.pnd::AD 4 1 CF eB x.2.2.2.1.bads::AD 55 2 Bu Ad x.2.2.1.ring::AD 4 1 DA eB x.2.2.1.taken::AD 148 3 Aj AY x.2.1.had::AD 148 3 x.2.2.2.2.1 AY x.2.1.out::AD 36 1 x.2.2.2.2.2.1 AQ x.2.1.took::AD 148 3 Bs AY x.2.1.must::own b1 (.cells #[AC 0,AC 0,vI 0,zN,zN] 204)::own b2 (.cells #[AC y1,vS y2] 146)::own b3 (.cells #[AC x.2.2.2.2.2.2.1,vS x.2.2.2.2.2.2.2.1] 146)::H) (fun x=>x.1) (fun x D h=>?_) (n,o1,o2,o3,v1,v2,0,[],x1) h) tL) (A5 [1,2,3,4,5,6,7,8,9,10,11,12,13,14,0] 15 E E E)
 obtain⟨m1,o7,o8,o9,v5,v6,y5,y6,a1⟩:=x
 dsimp only at h
 rcases m1 with _ | m1
 cases (show(none:Option _)=some r from h)
 replace h:F0 n T (Hf n T m1) o7 o8 o9 y5 y6 a1=some r:=h
 unfold F0 at h
 try dsimp only
 refine AE (Y (J E (V E FH (U ?_))))
 refine AL h E (fun hc2 h=>?_) fun hc2 h=>?_
 refine AH (AI (AE (AK ?_)))
 refine AB h fun l1 hl1 h=>?_
 refine AB h fun y7 hy7 h=>?_
 refine Ai C2 [12,14] (BJ (Hp 0 13) (.last 13 (C0 [(false,14)]))) zK (J E (AF E UO (AG 0 HC E (J E (AF E UO (AG 0 HC E (Jk E D8 E ?_)))))))
 refine J E (V E Aw (ZG E E E ?_))
 refine oA hl1 (CR.nil (enc:=Ac) (sz:=4) zV) E D8 FE E E E fun v7 hs1=>?_
 refine BA [AC y5,vS y6] E EZ E E (A2 1 E) ?_
 refine R6 hs1 fun hv1 ho1=>?_
 refine Tq [vI 1,v7,.agg #[AC y5,vS y6]] [#[vI 1],#[v7],#[AC y5,vS y6]] (by simp only[List.map_cons,List.map_nil,hv1];rfl) E jf je fW ⟨E,E,E,zT⟩ E (A4 (SL.pick [0,8,9,10,11,1,6,7,2,3,4,5] 12 ?_))
 refine Bi 12 sH ((Tf hy7 hT hs1 (CR.nil zV) :)) E ?_
 rintro _ _ ⟨v8,v9,rfl,rfl⟩
 refine BN 14 E E E E F6 E E E zT (AT (Ao (AI (AJ ?_))))
 obtain⟨x2,ex2,h⟩:=BG h
 refine J E (V E BC ?_)
 refine AX (u:=vI x2) E E (congrArg vI ex2) ?_
 refine AT ?_
 exact Am (m1,y7.2.1,y7.2.2.1,y7.2.2.2,v8,v9,y7.1.page,y7.1.tag,x2) h (Nat.lt_succ_self _) tL (A5 [0,5,8,9,10,11,6,7,1,2,3,4,12,13,14] 15 E E E)
 refine Av (Ay (BP (A0 ?_)))
 exact Ak (o7,o8,o9,v5,v6,y5,y6) h tL (A5 [0,1,2,3,4,5,6,7,8,9,10,11,13,14] 15 E E E)
 obtain⟨o4,o5,o6,v3,v4,y3,y4⟩:=x
 dsimp only at h
 unfold Jy at h
 try dsimp only
 refine Y (BA [AC y3,vS y4] E EZ E E (A2 13 E) (BN 12 E E E E F6 E E E zT (U (AM ?_))))
 obtain rfl:=zI h
 exact Ax (KC E (Cj 12 (CP (⟨y3,y4⟩:Bo)) EZ E E E E)) (As (M:=[_,_,_,_,_,_,_,_,_,_,_,_]) ⟨v3,v4,E,E⟩ fun _ hw=>Br.pick (H:=[_,_,_,_,_,_,_,_,_,_,_,_,_,_]) hw [0,8,9,10,11,1,6,7,2,3,4,5] 14 E)
def PC(y2:Bo×HH×Bt×BM)(o1:Bt):Option (List BU×Int×Bt×BM):=
 some (y2.2.1.out,0,o1,y2.2.2.2)
def NA(n:Nat)(T:List UInt32)(p0:Bt)(p0_1:BM):Option (List BU×Int×Bt×BM):=
 (kR).bind fun y1=>
 cond (!decide (y1=0))
 (
  none)
 (
  (HT n T ({ had:=[],out:=[],took:=[],err:=0,must:=[] }:HH) p0 p0_1).bind fun y2=>
  cond (!decide (y2.2.1.err=0))
  (
   none)
  (
   PC y2 y2.2.2.1))
theorem bJ{n A7 Bb:Nat}{T:List UInt32}{Aj Bs FM Bu FN:Value}{p0:Bt}{p0_1:BM}{r:List BU×Int×Bt×BM}(h:NA n T p0 p0_1=some r)(hT:Kl K w0 2 64 T):zC K w0 89 [vP A7 0,zN,zN] [wO A7 Bb Aj Bs p0,AD 55 2 Aj Ad p0.ring,AD 4 1 Bs eB p0.taken,eO Bb FM Bu FN p0_1,AD 9 1 FM eS p0_1.blk,AD 9 1 Bu eS p0_1.pnd,AD 4 1 FN eB p0_1.bads] H (fun u M=>∃v0:Value,u=.tuple #[v0,vI r.2.1]∧M=[AD 148 3 v0 AY r.1,wO A7 Bb Aj Bs r.2.2.1,AD 55 2 Aj Ad r.2.2.1.ring,AD 4 1 Bs eB r.2.2.1.taken,eO Bb FM Bu FN r.2.2.2,AD 9 1 FM eS r.2.2.2.blk,AD 9 1 Bu eS r.2.2.2.pnd,AD 4 1 FN eB r.2.2.2.bads]):=by
 unfold NA at h
 refine Vf.enter Tryz.func89 rfl rfl ?_
 refine Y (Ci 148 3 AY (O E (O E (U (Y ?_)))))
 refine AB h fun y1 hy1 h=>?_
 refine J E (AN 0 rm (na hy1) E (J E (Ap E E E (Ap E E E ?_))))
 refine A6 E KG zU fun b1=>?_
 refine Ci 43 4 Ac (Ci 204 5 bj (BN 2 E E E E KD E E E zT (Ci 43 4 Ac (Ci 204 5 bj (O E (U (AE (Y (J E (V E Bg (U ?_)))))))))))
 refine AL h E (fun hc1 h=>?_) fun hc1 h=>?_
 cases h
 refine AH (AI (Y (J E (J E (Cf [_,_] E wT wE xH ⟨E,E,zT⟩ E ?_)))))
 refine Bw E E zU fun b2=>?_
 refine Ci 148 3 AY (Ci 148 3 AY (Ci 36 1 AQ (Ci 148 3 AY (O E (U (Y ?_))))))
 refine AB h fun y2 hy2 h=>?_
 refine J E (BA [AC 0,AC 0,vI 0,zN,zN] E O4 E E (A2 9 E) (SL.pick [4,3,2,1,0,11,12,13,14,15,16,17,5,6,7,8,9,10] 18 (Bi 12 rn ((T8 hy2 hT :)) E ?_)))
 rintro _ _ ⟨v1,v2,rfl,rfl⟩
 refine U ?_
 refine Az (α:=Bt) (fun x=>PC y2 x=some r) (fun x=>[(0,vP A7 0),(10,vP b2 0)]) (fun x=>wO A7 Bb Aj Bs x::eO Bb FM Bu FN y2.2.2.2::AD 9 1 FM eS y2.2.2.2.blk::AD 9 1 Bu eS y2.2.2.2.pnd::AD 4 1 FN eB y2.2.2.2.bads::AD 55 2 Aj Ad x.ring::AD 4 1 Bs eB x.taken::own b2 (.cells #[vP A7 0,zN,v1,v2,vI y2.2.1.err,zN] 229)::AD 148 3 zN AY y2.2.1.had::AD 148 3 v1 AY y2.2.1.out::AD 36 1 v2 AQ y2.2.1.took::AD 148 3 zN AY y2.2.1.must::H) ?_ (fun o1 D h=>?_)
 refine Y (J E (AV E E (AF E aB (AG 0 ST E (V E Bg (U ?_))))))
 refine AL h E (fun hc2 h=>?_) fun hc2 h=>?_
 cases h
 refine AH ?_
 exact Ak y2.2.2.1 h tL (A5 [5,8,9,10,11,6,7,0,1,2,3,4] 18 E E E)
 unfold PC at h
 try dsimp only
 refine Y (J E (AV E E (AF E aA (AG 7 SU E (O E (O E (U (AM ?_))))))))
 obtain rfl:=zI h
 exact CC [9,0,5,6,1,2,3,4] 12 (F1 E E E) E E ⟨v1,E,E⟩
end
end Go.Proofs.YtpaohlmgfifebaaGreatDoor
