/- The texts FE0, WS1, WS1b, WS2, Z1, Z2, W6, W7, FD1, FD2, FD1b, FD3, one behind the other: walks of the program, and plain laws of what it computes. Conditions: as each theorem says. -/
import Derived.Test.YtpaohlmgfifebaaGreatDoorXE1
import Derived.Test.YtpaohlmgfifebaaGreatDoorXE2
import Derived.Test.YtpaohlmgfifebaaGreatDoorXE3
import Derived.Test.YtpaohlmgfifebaaGreatDoorXE4
import Derived.Sort.AssemblyPlain

set_option linter.unusedVariables false
set_option linter.unusedSimpArgs false
set_option maxHeartbeats 4000000
set_option maxRecDepth 100000
namespace Go.Proofs.YtpaohlmgfifebaaGreatDoor
open Go
section
variable {K:Nat→Prop}{w0:World}{H:List Ab}
def GD(a5:UInt64)(a6:Int):Option Int:=
 (A1 ([0,1,2,2,3,3,3,3,4,4,4,4,4,4,4,4,5,5,5,5,5,5,5,5,5,5,5,5,5,5,5,5,6,6,6,6,6,6,6,6,6,6,6,6,6,6,6,6,6,6,6,6,6,6,6,6,6,6,6,6,6,6,6,6,7,7,7,7,7,7,7,7,7,7,7,7,7,7,7,7,7,7,7,7,7,7,7,7,7,7,7,7,7,7,7,7,7,7,7,7,7,7,7,7,7,7,7,7,7,7,7,7,7,7,7,7,7,7,7,7,7,7,7,7,7,7,7,7,8,8,8,8,8,8,8,8,8,8,8,8,8,8,8,8,8,8,8,8,8,8,8,8,8,8,8,8,8,8,8,8,8,8,8,8,8,8,8,8,8,8,8,8,8,8,8,8,8,8,8,8,8,8,8,8,8,8,8,8,8,8,8,8,8,8,8,8,8,8,8,8,8,8,8,8,8,8,8,8,8,8,8,8,8,8,8,8,8,8,8,8,8,8,8,8,8,8,8,8,8,8,8,8,8,8,8,8,8,8,8,8,8,8,8,8,8,8,8,8,8,8,8,8,8,8,8,8]:List UInt8) (a5.toUInt8.toNat:Int)).bind fun c1=>
 ret (wI (a6+(c1.toNat:Int))) fun x6=>
 some x6
def GC(a3:UInt64)(a4:Int):Option Int:=
 cond (decide (256≤a3))
 (
  ret (shr64 a3 8) fun x4=>
  ret (wI (a4+8)) fun x5=>
  GD x4 x5)
 (
  GD a3 a4)
def GB(a1:UInt64)(a2:Int):Option Int:=
 cond (decide (65536≤a1))
 (
  ret (shr64 a1 16) fun x2=>
  ret (wI (a2+16)) fun x3=>
  GC x2 x3)
 (
  GC a1 a2)
def IY(p0:UInt64):Option Int:=
 cond (decide (4294967296≤p0))
 (
  ret (shr64 p0 32) fun x1=>
  GB x1 32)
 (
  GB p0 0)
theorem Vm{p0:UInt64}{r:Int}(h:IY p0=some r): zC K w0 244 [Bh p0] [] H (fun u M=>u=vI r∧M=[]):=by
 unfold IY at h
 refine Vf.enter Tryz.func244 rfl rfl ?_
 refine Y (O E (U ?_))
 refine Az (α:=UInt64×Int) (fun x=>GB x.1 x.2=some r) (fun x=>[(0,Bh x.1),(2,vI x.2)]) (fun x=>H) ?_ (fun x D h=>?_)
 refine Y (J E ?_)
 refine V E (Rw (b:=4294967296)) ?_
 refine U ?_
 refine AL h E (fun hc1 h=>?_) fun hc1 h=>?_
 refine Y ?_
 obtain⟨x1,ex1,h⟩:=BG h
 refine J E ?_
 refine V E (Gy.shr64 (n:=32)) ?_
 refine AX (u:=Bh x1) E E (congrArg Bh ex1) ?_
 refine U (AJ (O E (AT ?_)))
 exact Ak (x1,32) h tL (A5 [] 0 E E E)
 refine AH ?_
 exact Ak (p0,0) h tL (A5 [] 0 E E E)
 obtain⟨a1,a2⟩:=x
 dsimp only at h
 unfold GB at h
 try dsimp only
 refine Az (α:=UInt64×Int) (fun x=>GC x.1 x.2=some r) (fun x=>[(0,Bh x.1),(2,vI x.2)]) (fun x=>H) ?_ (fun x D h=>?_)
 refine Y (J E ?_)
 refine V E (Rw (b:=65536)) ?_
 refine U ?_
 refine AL h E (fun hc2 h=>?_) fun hc2 h=>?_
 refine Y ?_
 obtain⟨x2,ex2,h⟩:=BG h
 refine J E ?_
 refine V E (Gy.shr64 (n:=16)) ?_
 refine AX (u:=Bh x2) E E (congrArg Bh ex2) ?_
 refine U (AJ ?_)
 obtain⟨x3,ex3,h⟩:=BG h
 refine J E (V E Aw ?_)
 refine AX (u:=vI x3) E E (congrArg vI ex3) ?_
 refine AT ?_
 exact Ak (x2,x3) h tL (A5 [] 0 E E E)
 refine AH ?_
 exact Ak (a1,a2) h tL (A5 [] 0 E E E)
 obtain⟨a3,a4⟩:=x
 dsimp only at h
 unfold GC at h
 try dsimp only
 refine Az (α:=UInt64×Int) (fun x=>GD x.1 x.2=some r) (fun x=>[(0,Bh x.1),(2,vI x.2)]) (fun x=>H) ?_ (fun x D h=>?_)
 refine Y (J E ?_)
 refine V E (Rw (b:=256)) ?_
 refine U ?_
 refine AL h E (fun hc3 h=>?_) fun hc3 h=>?_
 refine Y ?_
 obtain⟨x4,ex4,h⟩:=BG h
 refine J E ?_
 refine V E (Gy.shr64 (n:=8)) ?_
 refine AX (u:=Bh x4) E E (congrArg Bh ex4) ?_
 refine U (AJ ?_)
 obtain⟨x5,ex5,h⟩:=BG h
 refine J E (V E Aw ?_)
 refine AX (u:=vI x5) E E (congrArg vI ex5) ?_
 refine AT ?_
 exact Ak (x4,x5) h tL (A5 [] 0 E E E)
 refine AH ?_
 exact Ak (a3,a4) h tL (A5 [] 0 E E E)
 obtain⟨a5,a6⟩:=x
 dsimp only at h
 unfold GD at h
 try dsimp only
 refine Y ?_
 refine AB h fun c1 hc1 h=>?_
 obtain⟨x6,ex6,h⟩:=BG h
 refine J E (J E (BZ E E (Gt En Ej) (MG hc1 E De E E (BZ E E (fe Ej Jh) (V E Aw ?_)))))
 refine AX (u:=vI x6) E E (congrArg vI ex6) ?_
 refine U (AM ?_)
 obtain rfl:=zI h
 exact AW [] 0 E E E
def IG(p0:UInt64):Option Int:=
 (IY p0).bind fun y1=>
 some y1
theorem SD{p0:UInt64}{r:Int}(h:IG p0=some r): zC K w0 208 [Bh p0] [] H (fun u M=>u=vI r∧M=[]):=by
 unfold IG at h
 refine Vf.enter Tryz.func208 rfl rfl ?_
 refine Y (O E (U (AE (EO E (AH (AI (Y ?_)))))))
 refine AB h fun y1 hy1 h=>?_
 refine J E (AN 0 tQ (Vm hy1) E (O E (U (AM ?_))))
 obtain rfl:=zI h
 exact AW [] 0 E E E
def Ht(p0:UInt32):Option Bool:=
 ret (!decide (p0=p0)) fun x1=>
 some x1
theorem P7{p0:UInt32}{r:Bool}(h:Ht p0=some r): zC K w0 266 [AC p0] [] H (fun u M=>u=vB r∧M=[]):=by
 unfold Ht at h
 refine Vf.enter Tryz.func266 rfl rfl ?_
 refine Y (O E (U (Y ?_)))
 obtain⟨x1,ex1,h⟩:=BG h
 refine J E (J E (V E mE ?_))
 refine AX (u:=vB x1) E E (congrArg vB ex1) ?_
 refine U (AM ?_)
 obtain rfl:=zI h
 exact AW [] 0 E E E
def Cr(p0:UInt32)(p1:UInt32):Option Bool:=
 (Ht p0).bind fun y1=>
 (E3 y1 ((Ht p1).bind fun y2=>some (!y2))).bind fun y3=>
 ret (y3||(decide (p0<p1))) fun x1=>
 some x1
theorem By{p0 p1:UInt32}{r:Bool}(h:Cr p0 p1=some r): zC K w0 241 [AC p0,AC p1] [] H (fun u M=>u=vB r∧M=[]):=by
 unfold Cr at h
 refine Vf.enter Tryz.func241 rfl rfl ?_
 refine Y (O E (U (Y ?_)))
 refine AB h fun y1 hy1 h=>?_
 refine AB h fun y3 hy3 h=>?_
 obtain⟨x1,ex1,h⟩:=BG h
 refine J E (AN 0 k9 (P7 hy1) E (J E ?_))
 refine Du 7 4 11 hy3 E (fun hb hg1 k=>?_) (fun hb k=>?_) ?_
 obtain⟨y2,hy2,hg1⟩:=Da hg1
 obtain rfl:=zI hg1
 refine J E (AN 0 k9 (P7 hy2) E (CO E E (An E E E ?_)))
 exact k.mono tL
 refine AA E (AA E (AA E (An E E E ?_)))
 exact k.mono tL
 refine J E ?_
 refine GR (c:=decide (p0<p1)) 12 4 16 E (fun hb k=>?_) (fun hb k=>?_) ?_
 refine AA E (AA E (AA E (An E E E ?_)))
 exact k.mono tL
 refine J E (J E (V E QQ (An E E E ?_)))
 exact k.mono tL
 refine AX (u:=vB x1) E E (congrArg vB ex1) ?_
 refine U (AM ?_)
 obtain rfl:=zI h
 exact AW [] 0 E E E
def D6(a1:Int)(nx_f_slices_insertionSortOrdered_uint32_l1:List UInt32×Int→Option (List UInt32))(l2:List UInt32):Option (List UInt32):=
 ret (wI (a1+1)) fun i_2=>
 nx_f_slices_insertionSortOrdered_uint32_l1 (l2,i_2)
def Dr(p1:Int)(a1:Int)(nx_f_slices_insertionSortOrdered_uint32_l1:List UInt32×Int→Option (List UInt32))(nx_f_slices_insertionSortOrdered_uint32_l2:List UInt32×Int→Option (List UInt32))(l3:List UInt32)(a2:Int):Option (List UInt32):=
 (E3 (decide (p1<a2)) ((A1 l3 a2).bind fun x1=>(A1 l3 (wI (a2-1))).bind fun x2=>(Cr x1 x2).bind fun y1=>some (y1))).bind fun y2=>
 cond y2
 (
  (A1 l3 (wI (a2-1))).bind fun x3=>
  (A1 l3 a2).bind fun x4=>
  (A1 l3 a2).bind fun x5=>
  (FX l3 a2 x3).bind fun l4=>
  (A1 l4 (wI (a2-1))).bind fun x6=>
  (FX l4 (wI (a2-1)) x4).bind fun l5=>
  ret (wI (a2-1)) fun j_1=>
  nx_f_slices_insertionSortOrdered_uint32_l2 (l5,j_1))
 (
  D6 a1 nx_f_slices_insertionSortOrdered_uint32_l1 l3)
def DZ(p1:Int)(a1:Int)(nx_f_slices_insertionSortOrdered_uint32_l1:List UInt32×Int→Option (List UInt32)):Nat→(List UInt32×Int)→Option (List UInt32):=CH fun nx x=>Dr p1 a1 nx_f_slices_insertionSortOrdered_uint32_l1 nx x.1 x.2
def Dq(n:Nat)(p1:Int)(p2:Int)(nx_f_slices_insertionSortOrdered_uint32_l1:List UInt32×Int→Option (List UInt32))(l1:List UInt32)(a1:Int):Option (List UInt32):=
 cond (decide (a1<p2))
 (
  DZ p1 a1 nx_f_slices_insertionSortOrdered_uint32_l1 n (l1,a1))
 (
  some l1)
def CG(n:Nat)(p1:Int)(p2:Int):Nat→(List UInt32×Int)→Option (List UInt32):=CH fun nx x=>Dq n p1 p2 nx x.1 x.2
def ET(n:Nat)(p0:List UInt32)(p1:Int)(p2:Int):Option (List UInt32):=
 ret (wI (p1+1)) fun i_1=>
 CG n p1 p2 n (p0,i_1)
theorem MP{n:Nat}{BW:Value}{p0 r:List UInt32}{p1 p2:Int}(h:ET n p0 p1 p2=some r): zC K w0 235 [BW,vI p1,vI p2] [AD 36 1 BW AQ p0] H (fun u M=>u=.tuple #[]∧M=[AD 36 1 BW AQ r]):=by
 unfold ET at h
 refine Vf.enter Tryz.func235 rfl rfl ?_
 refine Y ?_
 obtain⟨i_1,ei_1,h⟩:=BG h
 refine J E (V E Aw ?_)
 refine AX (u:=vI i_1) E E (congrArg vI ei_1) ?_
 refine U (AK ?_)
 refine SX.heap (SX.mono (A9 (α:=Nat×List UInt32×Int) (fun x=>CG n p1 p2 x.1 (x.2.1,x.2.2)=some r) (fun x=>[(0,BW),(1,vI p1),(2,vI p2),(6,vI x.2.2)]) (fun x=>AD 36 1 BW AQ x.2.1::H) (fun x=>x.1) (fun x D h=>?_) (n,p0,i_1) h) tL) (A5 [0] 1 E E E)
 obtain⟨m1,l1,a1⟩:=x
 dsimp only at h
 rcases m1 with _ | m1
 cases (show(none:Option _)=some r from h)
 replace h:Dq n p1 p2 (CG n p1 p2 m1) l1 a1=some r:=h
 unfold Dq at h
 try dsimp only
 refine AE (Y (J E (J E (V E BL (U ?_)))))
 refine AL h E (fun hc1 h=>?_) fun hc1 h=>?_
 refine AH (AI ?_)
 refine Az (α:=List UInt32) (fun x=>D6 a1 (CG n p1 p2 m1) x=some r) (fun x=>[(0,BW),(1,vI p1),(2,vI p2),(6,vI a1)]) (fun x=>AD 36 1 BW AQ x::H) ?_ (fun l2 D h=>?_)
 refine AK (Y (J E (O E (U (AK ?_)))))
 refine SX.heap (SX.mono (A9 (α:=Nat×List UInt32×Int) (fun x=>DZ p1 a1 (CG n p1 p2 m1) x.1 (x.2.1,x.2.2)=some r) (fun x=>[(0,BW),(1,vI p1),(2,vI p2),(6,vI a1),(7,vI x.2.2)]) (fun x=>AD 36 1 BW AQ x.2.1::H) (fun x=>x.1) (fun x D h=>?_) (n,l1,a1) h) tL) (A5 [0] 1 E E E)
 obtain⟨m2,l3,a2⟩:=x
 dsimp only at h
 rcases m2 with _ | m2
 cases (show(none:Option _)=some r from h)
 replace h:Dr p1 a1 (CG n p1 p2 m1) (DZ p1 a1 (CG n p1 p2 m1) m2) l3 a2=some r:=h
 unfold Dr at h
 try dsimp only
 refine AE (AE ?_)
 refine AB h fun y2 hy2 h=>?_
 refine Ai C2 [0] (C0 [(true,0),(true,1),(true,2),(true,3),(true,4),(true,5),(true,6),(true,7),(true,8),(true,9),(true,10),(true,11),(true,12),(false,13),(false,14)]) zK (J E (J E (V E C8 (J E ?_))))
 refine Du 19 11 30 hy2 E (fun hb hg1 k=>?_) (fun hb k=>?_) ?_
 obtain⟨x1,hx1,hg1⟩:=Da hg1
 obtain⟨x2,hx2,hg1⟩:=Da hg1
 obtain⟨y1,hy1,hg1⟩:=Da hg1
 obtain rfl:=zI hg1
 refine J E (J E ?_)
 refine AZ 0 hx1 E Af Aa E E E fun g1 m3 cp1 hv1=>?_
 refine Aq E Ah E (AS (sz:=1) (enc:=AQ) 0 0 zV E hv1 hx1 E) ?_
 refine J E (J E (V E BC ?_))
 refine AZ 0 hx2 E Af Aa E E E fun g2 m4 cp2 hv2=>?_
 refine Aq E Ah E (AS (sz:=1) (enc:=AQ) 0 0 zV E hv2 hx2 E) ?_
 refine BT 0 F7 (By hy1) E ⟨⟨0,E⟩,zT⟩ (An E E E ?_)
 exact k.mono tL
 refine AA E (AA E (AA E (AA E (AA E (AA E (AA E (AA E ?_)))))))
 refine AA E (AA E (An E E E ?_))
 exact k.mono tL
 refine U ?_
 refine AL h E (fun hc2 h=>?_) fun hc2 h=>?_
 refine AH (AI (AE (AK ?_)))
 refine AB h fun x3 hx3 h=>?_
 refine AB h fun x4 hx4 h=>?_
 refine AB h fun x5 hx5 h=>?_
 refine AB h fun l4 hl4 h=>?_
 refine AB h fun x6 hx6 h=>?_
 refine AB h fun l5 hl5 h=>?_
 refine Ai C2 [] (BJ [(true,0),(true,1),(true,2),(true,3),(true,4),(true,5),(true,6),(true,7),(true,8),(true,10),(true,11),(true,12)] (.alt 9 (BJ [(false,13),(true,14),(false,15),(true,16)] (.last 17 .nil)) (.cons (false,13) (BJ [(false,9),(true,14),(false,15),(true,16)] (.last 17 .nil))))) zK (J E (J E (J E (J E (V E BC (J E (J E ?_)))))))
 refine V E BC ?_
 refine AZ 0 hx3 E Af Aa E E E fun g3 m5 cp3 hv3=>?_
 refine J E (J E ?_)
 refine AZ 0 hx4 E Af Aa E E E fun g4 m6 cp4 hv4=>?_
 refine E6 ?_ ?_
 refine Aq E Ah E (AS (sz:=1) (enc:=AQ) 0 0 zV E hv3 hx3 E) ?_
 refine Aq E Ah E (AS (sz:=1) (enc:=AQ) 0 0 zV E hv4 hx4 E) ?_
 refine AZ 0 hx5 E Af Aa E E E fun g5 m7 cp5 hv5=>?_
 refine BB (sz:=1) (enc:=AQ) 0 hl4 zV rfl rfl rfl rfl rfl hv5 Aa (by first | (simp[Value.oneCell'];done) | simp[AQ,Value.oneCell']) trivial ?_
 refine AZ 0 hx6 E Af Aa E E E fun g6 m8 cp6 hv6=>?_
 refine A4 ?_
 refine BB (sz:=1) (enc:=AQ) 0 hl5 zV rfl rfl rfl rfl rfl hv6 Aa (by first | (simp[Value.oneCell'];done) | simp[AQ,Value.oneCell']) trivial ?_
 refine AT (Ao (AI (AJ ?_)))
 obtain⟨j_1,ej_1,h⟩:=BG h
 refine J E (V E BC ?_)
 refine AX (u:=vI j_1) E E (congrArg vI ej_1) ?_
 refine AT ?_
 exact Am (m2,l5,j_1) h (Nat.lt_succ_self _) tL (A5 [0] 1 E E E)
 refine Aq E Ah E (AS (sz:=1) (enc:=AQ) 0 0 zV E hv4 hx4 E) ?_
 refine Aq E Ah E (AS (sz:=1) (enc:=AQ) 0 0 zV E hv3 hx3 E) ?_
 refine AZ 0 hx5 E Af Aa E E E fun g5 m7 cp5 hv5=>?_
 refine BB (sz:=1) (enc:=AQ) 0 hl4 zV rfl rfl rfl rfl rfl hv5 Aa (by first | (simp[Value.oneCell'];done) | simp[AQ,Value.oneCell']) trivial ?_
 refine AZ 0 hx6 E Af Aa E E E fun g6 m8 cp6 hv6=>?_
 refine A4 ?_
 refine BB (sz:=1) (enc:=AQ) 0 hl5 zV rfl rfl rfl rfl rfl hv6 Aa (by first | (simp[Value.oneCell'];done) | simp[AQ,Value.oneCell']) trivial ?_
 refine AT (Ao (AI (AJ ?_)))
 obtain⟨j_1,ej_1,h⟩:=BG h
 refine J E (V E BC ?_)
 refine AX (u:=vI j_1) E E (congrArg vI ej_1) ?_
 refine AT ?_
 exact Am (m2,l5,j_1) h (Nat.lt_succ_self _) tL (A5 [0] 1 E E E)
 refine Av (Ay (BP (A0 (Ao ?_))))
 exact Ak l3 h tL (A5 [0] 1 E E E)
 unfold D6 at h
 try dsimp only
 refine AJ ?_
 obtain⟨i_2,ei_2,h⟩:=BG h
 refine J E (V E Aw ?_)
 refine AX (u:=vI i_2) E E (congrArg vI ei_2) ?_
 refine AT ?_
 exact Am (m1,l2,i_2) h (Nat.lt_succ_self _) tL (A5 [0] 1 E E E)
 refine Av (Ay (BP (A0 ?_)))
 obtain rfl:=zI h
 exact D5 (E4 E) (As (M:=[_]) ⟨E,E⟩ fun _ hw=>Br.pick (H:=[_]) hw [0] 1 E)
end

section
variable {K:Nat→Prop}{w0:World}{H:List Ab}
def EC(p0:List UInt32)(p1:Int)(p2:Int)(p3:Int):Option (Int×Int×Int):=
 (A1 p0 p2).bind fun x1=>
 (A1 p0 p1).bind fun x2=>
 (Cr x1 x2).bind fun y1=>
 cond y1
 (
  some (p2,p1,wI (p3+1)))
 (
  some (p1,p2,p3))
theorem HE{BW:Value}{p0:List UInt32}{p1 p2 p3:Int}{uq:Nat}{r:Int×Int×Int}(h:EC p0 p1 p2 p3=some r)(hs0_:CR K w0 AQ 1 BW p0):zC K w0 279 [BW,vI p1,vI p2,vP uq 0] [own uq (.cells #[vI p3] 3)] H (fun u M=>u=.tuple #[vI r.1,vI r.2.1]∧M=[own uq (.cells #[vI r.2.2] 3)]):=by
 unfold EC at h
 refine Vf.enter Tryz.func279 rfl rfl ?_
 refine Y (O E (O E (U (AE (AE ?_)))))
 refine AB h fun x1 hx1 h=>?_
 refine AB h fun x2 hx2 h=>?_
 refine AB h fun y1 hy1 h=>?_
 refine Ai C2 [] (BJ (Hp 0 8) (.last 8 .nil)) zK (J E (J E ?_))
 refine EL hx1 hs0_ E Af Aa E E fun be1 of1 hc1=>?_
 refine Aq E Ah E (E1 (j:=0) hc1 E) ?_
 refine J E (J E ?_)
 refine EL hx2 hs0_ E Af Aa E E fun be2 of2 hc2=>?_
 refine Aq E Ah E (E1 (j:=0) hc2 E) ?_
 refine A4 (AN 0 F7 (By hy1) E (U ?_))
 refine AL h E (fun hc3 h=>?_) fun hc3 h=>?_
 refine Y (J E (AV E E (AG 0 Gi E (V E Aw (AV E E (BN 0 E E E E QP E E E zT (U (Y (J E (J E ?_))))))))))
 refine O E (O E (U (AM (Ag ?_))))
 obtain rfl:=zI h
 exact AW [0] 1 E E E
 refine AH (AI (Y (J E (J E (O E (O E (U (AM ?_))))))))
 obtain rfl:=zI h
 exact AW [0] 1 E E E
def EB(p0:List UInt32)(p1:Int)(p2:Int)(p3:Int)(p4:Int):Option (Int×Int):=
 (EC p0 p1 p2 p4).bind fun y1=>
 (EC p0 y1.2.1 p3 y1.2.2).bind fun y2=>
 (EC p0 y1.1 y2.1 y2.2.2).bind fun y3=>
 some (y3.2.1,y3.2.2)
theorem Jm{BW:Value}{p0:List UInt32}{p1 p2 p3 p4:Int}{ur:Nat}{r:Int×Int}(h:EB p0 p1 p2 p3 p4=some r)(hs0_:CR K w0 AQ 1 BW p0):zC K w0 265 [BW,vI p1,vI p2,vI p3,vP ur 0] [own ur (.cells #[vI p4] 3)] H (fun u M=>u=vI r.1∧M=[own ur (.cells #[vI r.2] 3)]):=by
 unfold EB at h
 refine Vf.enter Tryz.func265 rfl rfl ?_
 refine Y (O E (U (Y ?_)))
 refine AB h fun y1 hy1 h=>?_
 refine J E (J E (J E (J E (AN 1 dq (HE hy1 hs0_) E (J E (Ap E E E (Ap E E E ?_)))))))
 refine O E (O E (U (Y ?_)))
 refine AB h fun y2 hy2 h=>?_
 refine J E (J E (J E (J E (AN 1 dq (HE hy2 hs0_) E (J E (Ap E E E (Ap E E E ?_)))))))
 refine O E (O E (U (Y ?_)))
 refine AB h fun y3 hy3 h=>?_
 refine J E (J E (J E (J E (AN 1 dq (HE hy3 hs0_) E (J E (Ap E E E (Ap E E E ?_)))))))
 refine O E (O E (U (Y (J E (O E (U (AM ?_)))))))
 obtain rfl:=zI h
 exact AW [0] 1 E E E
def Cq(p0:List UInt32)(p1:Int)(p2:Int):Option (Int×Int):=
 (EB p0 (wI (p1-1)) p1 (wI (p1+1)) p2).bind fun y1=>
 some (y1.1,y1.2)
theorem Fg{BW:Value}{p0:List UInt32}{p1 p2:Int}{uo:Nat}{r:Int×Int}(h:Cq p0 p1 p2=some r)(hs0_:CR K w0 AQ 1 BW p0):zC K w0 264 [BW,vI p1,vP uo 0] [own uo (.cells #[vI p2] 3)] H (fun u M=>u=vI r.1∧M=[own uo (.cells #[vI r.2] 3)]):=by
 unfold Cq at h
 refine Vf.enter Tryz.func264 rfl rfl ?_
 refine Y (O E (U (Y ?_)))
 refine AB h fun y1 hy1 h=>?_
 refine J E (J E (V E BC (J E (J E (V E Aw (J E (AN 1 k5 (Jm hy1 hs0_) E ?_)))))))
 refine O E (U (AM ?_))
 obtain rfl:=zI h
 exact AW [0] 1 E E E
def Dx(nx_f_slices_reverseRangeOrdered_uint32_l1:List UInt32×Int×Int→Option (List UInt32))(l1:List UInt32)(a1:Int)(a2:Int):Option (List UInt32):=
 cond (decide (a1<a2))
 (
  (A1 l1 a2).bind fun x1=>
  (A1 l1 a1).bind fun x2=>
  (A1 l1 a1).bind fun x3=>
  (FX l1 a1 x1).bind fun l2=>
  (A1 l2 a2).bind fun x4=>
  (FX l2 a2 x2).bind fun l3=>
  ret (wI (a1+1)) fun i_1=>
  ret (wI (a2-1)) fun j_2=>
  nx_f_slices_reverseRangeOrdered_uint32_l1 (l3,i_1,j_2))
 (
  some l1)
def EH:Nat→(List UInt32×Int×Int)→Option (List UInt32):=CH fun nx x=>Dx  nx x.1 x.2.1 x.2.2
def EX(n:Nat)(p0:List UInt32)(p1:Int)(p2:Int):Option (List UInt32):=
 ret (wI (p2-1)) fun j_1=>
 EH n (p0,p1,j_1)
theorem Mo{n:Nat}{BW:Value}{p0 r:List UInt32}{p1 p2:Int}(h:EX n p0 p1 p2=some r): zC K w0 239 [BW,vI p1,vI p2] [AD 36 1 BW AQ p0] H (fun u M=>u=.tuple #[]∧M=[AD 36 1 BW AQ r]):=by
 unfold EX at h
 refine Vf.enter Tryz.func239 rfl rfl ?_
 refine Y (J E (O E (U (Y ?_))))
 obtain⟨j_1,ej_1,h⟩:=BG h
 refine J E (V E BC ?_)
 refine AX (u:=vI j_1) E E (congrArg vI ej_1) ?_
 refine U (AK ?_)
 refine SX.heap (SX.mono (A9 (α:=Nat×List UInt32×Int×Int) (fun x=>EH x.1 (x.2.1,x.2.2.1,x.2.2.2)=some r) (fun x=>[(0,BW),(6,vI x.2.2.1),(7,vI x.2.2.2)]) (fun x=>AD 36 1 BW AQ x.2.1::H) (fun x=>x.1) (fun x D h=>?_) (n,p0,p1,j_1) h) tL) (A5 [0] 1 E E E)
 obtain⟨m1,l1,a1,a2⟩:=x
 dsimp only at h
 rcases m1 with _ | m1
 cases (show(none:Option _)=some r from h)
 replace h:Dx (EH m1) l1 a1 a2=some r:=h
 unfold Dx at h
 try dsimp only
 refine AE (Y (J E (J E (V E BL (U ?_)))))
 refine AL h E (fun hc1 h=>?_) fun hc1 h=>?_
 refine AH (AI (AK (AE ?_)))
 refine AB h fun x1 hx1 h=>?_
 refine AB h fun x2 hx2 h=>?_
 refine AB h fun x3 hx3 h=>?_
 refine AB h fun l2 hl2 h=>?_
 refine AB h fun x4 hx4 h=>?_
 refine AB h fun l3 hl3 h=>?_
 refine Ai C2 [] (BJ [(true,0),(true,1),(true,2),(true,3),(true,4),(true,5),(true,6),(true,8),(true,9),(true,10)] (.alt 7 (BJ [(false,11),(true,12),(false,13),(true,14)] (.last 15 .nil)) (.cons (false,11) (BJ [(false,7),(true,12),(false,13),(true,14)] (.last 15 .nil))))) zK (J E (J E (J E (J E (J E (J E ?_))))))
 refine AZ 0 hx1 E Af Aa E E E fun g1 m2 cp1 hv1=>?_
 refine J E (J E ?_)
 refine AZ 0 hx2 E Af Aa E E E fun g2 m3 cp2 hv2=>?_
 refine E6 ?_ ?_
 refine Aq E Ah E (AS (sz:=1) (enc:=AQ) 0 0 zV E hv1 hx1 E) ?_
 refine Aq E Ah E (AS (sz:=1) (enc:=AQ) 0 0 zV E hv2 hx2 E) ?_
 refine AZ 0 hx3 E Af Aa E E E fun g3 m4 cp3 hv3=>?_
 refine BB (sz:=1) (enc:=AQ) 0 hl2 zV E E E E E hv3 Aa (by simp[Value.oneCell']) zT ?_
 refine AZ 0 hx4 E Af Aa E E E fun g4 m5 cp4 hv4=>?_
 refine A4 ?_
 refine BB (sz:=1) (enc:=AQ) 0 hl3 zV E E E E E hv4 Aa (by simp[Value.oneCell']) zT ?_
 refine U (Y ?_)
 obtain⟨i_1,ei_1,h⟩:=BG h
 refine J E (V E Aw ?_)
 refine AX (u:=vI i_1) E E (congrArg vI ei_1) ?_
 refine U (AJ ?_)
 obtain⟨j_2,ej_2,h⟩:=BG h
 refine J E (V E BC ?_)
 refine AX (u:=vI j_2) E E (congrArg vI ej_2) ?_
 refine AT (Ao ?_)
 exact Am (m1,l3,i_1,j_2) h (Nat.lt_succ_self _) tL (A5 [0] 1 E E E)
 refine Aq E Ah E (AS (sz:=1) (enc:=AQ) 0 0 zV E hv2 hx2 E) ?_
 refine Aq E Ah E (AS (sz:=1) (enc:=AQ) 0 0 zV E hv1 hx1 E) ?_
 refine AZ 0 hx3 E Af Aa E E E fun g3 m4 cp3 hv3=>?_
 refine BB (sz:=1) (enc:=AQ) 0 hl2 zV E E E E E hv3 Aa (by simp[Value.oneCell']) zT ?_
 refine AZ 0 hx4 E Af Aa E E E fun g4 m5 cp4 hv4=>?_
 refine A4 ?_
 refine BB (sz:=1) (enc:=AQ) 0 hl3 zV E E E E E hv4 Aa (by simp[Value.oneCell']) zT ?_
 refine U (Y ?_)
 obtain⟨i_1,ei_1,h⟩:=BG h
 refine J E (V E Aw ?_)
 refine AX (u:=vI i_1) E E (congrArg vI ei_1) ?_
 refine U (AJ ?_)
 obtain⟨j_2,ej_2,h⟩:=BG h
 refine J E (V E BC ?_)
 refine AX (u:=vI j_2) E E (congrArg vI ej_2) ?_
 refine AT (Ao ?_)
 exact Am (m1,l3,i_1,j_2) h (Nat.lt_succ_self _) tL (A5 [0] 1 E E E)
 refine Av (Ay (BP (A0 ?_)))
 obtain rfl:=zI h
 exact D5 (E4 E) (As (M:=[_]) ⟨E,E⟩ fun _ hw=>Br.pick (H:=[_]) hw [0] 1 E)
def Di(y1:Int)(a1:Int):Option (Int×Int):=
 ret (decide (y1=0)) fun x2=>
 cond x2
 (
  some (a1,1))
 (
  ret (decide (y1=12)) fun x3=>
  cond x3
  (
   some (a1,2))
  (
   some (a1,0)))
def Dj(p0:List UInt32)(y2:Int)(a2:Int)(a3:Int)(a4:Int):Option (Int×Int):=
 (EB p0 a2 a3 a4 y2).bind fun y6=>
 Di y6.2 y6.1
def Eb(p0:List UInt32)(p1:Int)(p2:Int):Option (Int×Int):=
 ret (wI (p2-p1)) fun x1=>
 (K0 x1 4).bind fun q1=>
 ret (wI (p1+(wI (q1*1)))) fun i_1=>
 (K0 x1 4).bind fun q2=>
 ret (wI (p1+(wI (q2*2)))) fun j_1=>
 (K0 x1 4).bind fun q3=>
 ret (wI (p1+(wI (q3*3)))) fun k_1=>
 cond (decide (8≤x1))
 (
  cond (decide (50≤x1))
  (
   (Cq p0 i_1 0).bind fun y3=>
   (Cq p0 j_1 y3.2).bind fun y4=>
   (Cq p0 k_1 y4.2).bind fun y5=>
   Dj p0 y5.2 y3.1 y4.1 y5.1)
  (
   Dj p0 0 i_1 j_1 k_1))
 (
  Di 0 j_1)
theorem M1{BW:Value}{p0:List UInt32}{p1 p2:Int}{r:Int×Int}(h:Eb p0 p1 p2=some r)(hs0_:CR K w0 AQ 1 BW p0):zC K w0 238 [BW,vI p1,vI p2] [] H (fun u M=>u=.tuple #[vI r.1,vI r.2]∧M=[]):=by
 unfold Eb at h
 refine Vf.enter Tryz.func238 rfl rfl ?_
 refine Y (O E (O E (U (Y ?_))))
 obtain⟨x1,ex1,h⟩:=BG h
 refine J E (J E (V E BC ?_))
 refine AX (u:=vI x1) E E (congrArg vI ex1) ?_
 refine U (Y ?_)
 refine A6 E qs zU fun b1=>?_
 refine U (Y ?_)
 refine AB h fun q1 hq1 h=>?_
 obtain⟨i_1,ei_1,h⟩:=BG h
 refine J E (J E (V E (K6 hq1) (V E Ha (V E Aw ?_))))
 refine AX (u:=vI i_1) E E (congrArg vI ei_1) ?_
 refine U (Y ?_)
 refine AB h fun q2 hq2 h=>?_
 obtain⟨j_1,ej_1,h⟩:=BG h
 refine J E (J E (V E (K6 hq2) (V E Ha (V E Aw ?_))))
 refine AX (u:=vI j_1) E E (congrArg vI ej_1) ?_
 refine U (Y ?_)
 refine AB h fun q3 hq3 h=>?_
 obtain⟨k_1,ek_1,h⟩:=BG h
 refine J E (J E (V E (K6 hq3) (V E Ha (V E Aw ?_))))
 refine AX (u:=vI k_1) E E (congrArg vI ek_1) ?_
 refine U ?_
 refine Az (α:=Int×Int) (fun x=>Di x.1 x.2=some r) (fun x=>[(9,vP b1 0),(11,vI x.2)]) (fun x=>own b1 (.cells #[vI x.1] 3)::H) ?_ (fun x D h=>?_)
 refine Y (J E (V E FH (U ?_)))
 refine AL h E (fun hc1 h=>?_) fun hc1 h=>?_
 refine Az (α:=Int×Int×Int×Int) (fun x=>Dj p0 x.1 x.2.1 x.2.2.1 x.2.2.2=some r) (fun x=>[(0,BW),(9,vP b1 0),(10,vI x.2.1),(11,vI x.2.2.1),(12,vI x.2.2.2)]) (fun x=>own b1 (.cells #[vI x.1] 3)::H) ?_ (fun x D h=>?_)
 refine Y (J E (V E FH (U ?_)))
 refine AL h E (fun hc2 h=>?_) fun hc2 h=>?_
 refine Y ?_
 refine AB h fun y3 hy3 h=>?_
 refine J E (J E (AN 1 dp (Fg hy3 hs0_) E (O E (U (Y ?_)))))
 refine AB h fun y4 hy4 h=>?_
 refine J E (J E (AN 1 dp (Fg hy4 hs0_) E (O E (U (AJ ?_)))))
 refine AB h fun y5 hy5 h=>?_
 refine J E (J E (AN 1 dp (Fg hy5 hs0_) E (O E (AT ?_))))
 exact Ak (y5.2,y3.1,y4.1,y5.1) h tL (A5 [0] 1 E E E)
 refine AH ?_
 exact Ak (0,i_1,j_1,k_1) h tL (A5 [0] 1 E E E)
 obtain⟨y2,a2,a3,a4⟩:=x
 dsimp only at h
 unfold Dj at h
 try dsimp only
 refine AJ ?_
 refine AB h fun y6 hy6 h=>?_
 refine J E (J E (J E (J E (AN 1 k5 (Jm hy6 hs0_) E (O E (AT ?_))))))
 exact Ak (y6.2,y6.1) h tL (A5 [0] 1 E E E)
 refine AH ?_
 exact Ak (0,j_1) h tL (A5 [0] 1 E E E)
 obtain⟨y1,a1⟩:=x
 dsimp only at h
 unfold Di at h
 try dsimp only
 refine Y (AG 0 Gi E (U (AK (Y ?_))))
 obtain⟨x2,ex2,h⟩:=BG h
 refine V E Bv ?_
 refine AX (u:=vB x2) E E (congrArg vB ex2) ?_
 refine U ?_
 refine AL h E (fun hc3 h=>?_) fun hc3 h=>?_
 refine Y (J E (O E (O E (U (AM (BO ?_))))))
 obtain rfl:=zI h
 exact AW [] 1 E E E
 refine Y ?_
 obtain⟨x3,ex3,h⟩:=BG h
 refine V E Bv ?_
 refine AX (u:=vB x3) E E (congrArg vB ex3) ?_
 refine U ?_
 refine AL h E (fun hc4 h=>?_) fun hc4 h=>?_
 refine Y (J E (O E (O E (U (AM (BO ?_))))))
 obtain rfl:=zI h
 exact AW [] 1 E E E
 refine Y (J E (O E (O E (U (AM (BO ?_))))))
 obtain rfl:=zI h
 exact AW [] 1 E E E
def Dz(p3:Int)(l1:List UInt32)(a1:Int)(nx_f_slices_siftDownOrdered_uint32_l1:List UInt32×Int→Option (List UInt32))(a2:Int):Option (List UInt32):=
 (A1 l1 (wI (p3+a1))).bind fun x5=>
 (A1 l1 (wI (p3+a2))).bind fun x6=>
 (Cr x5 x6).bind fun y3=>
 cond (!y3)
 (
  some l1)
 (
  (A1 l1 (wI (p3+a2))).bind fun x7=>
  (A1 l1 (wI (p3+a1))).bind fun x8=>
  (A1 l1 (wI (p3+a1))).bind fun x9=>
  (FX l1 (wI (p3+a1)) x7).bind fun l2=>
  (A1 l2 (wI (p3+a2))).bind fun x10=>
  (FX l2 (wI (p3+a2)) x8).bind fun l3=>
  nx_f_slices_siftDownOrdered_uint32_l1 (l3,a2))
def DM(p2:Int)(p3:Int)(nx_f_slices_siftDownOrdered_uint32_l1:List UInt32×Int→Option (List UInt32))(l1:List UInt32)(a1:Int):Option (List UInt32):=
 ret (wI ((wI (2*a1))+1)) fun x1=>
 cond (decide (p2≤x1))
 (
  some l1)
 (
  (E3 (decide (wI (x1+1)<p2)) ((A1 l1 (wI (p3+x1))).bind fun x2=>(A1 l1 (wI ((wI (p3+x1))+1))).bind fun x3=>(Cr x2 x3).bind fun y1=>some (y1))).bind fun y2=>
  cond y2
  (
   ret (wI (x1+1)) fun x4=>
   Dz p3 l1 a1 nx_f_slices_siftDownOrdered_uint32_l1 x4)
  (
   Dz p3 l1 a1 nx_f_slices_siftDownOrdered_uint32_l1 x1))
def C7(p2:Int)(p3:Int):Nat→(List UInt32×Int)→Option (List UInt32):=CH fun nx x=>DM p2 p3 nx x.1 x.2
def Ds(n:Nat)(p0:List UInt32)(p1:Int)(p2:Int)(p3:Int):Option (List UInt32):=
 C7 p2 p3 n (p0,p1)
theorem Gk{n:Nat}{BW:Value}{p0 r:List UInt32}{p1 p2 p3:Int}(h:Ds n p0 p1 p2 p3=some r): zC K w0 261 [BW,vI p1,vI p2,vI p3] [AD 36 1 BW AQ p0] H (fun u M=>u=.tuple #[]∧M=[AD 36 1 BW AQ r]):=by
 unfold Ds at h
 refine Vf.enter Tryz.func261 rfl rfl ?_
 refine Y (J E (O E (U (AK ?_))))
 refine SX.heap (SX.mono (A9 (α:=Nat×List UInt32×Int) (fun x=>C7 p2 p3 x.1 (x.2.1,x.2.2)=some r) (fun x=>[(0,BW),(2,vI p2),(3,vI p3),(8,vI x.2.2)]) (fun x=>AD 36 1 BW AQ x.2.1::H) (fun x=>x.1) (fun x D h=>?_) (n,p0,p1) h) tL) (A5 [0] 1 E E E)
 obtain⟨m1,l1,a1⟩:=x
 dsimp only at h
 rcases m1 with _ | m1
 cases (show(none:Option _)=some r from h)
 replace h:DM p2 p3 (C7 p2 p3 m1) l1 a1=some r:=h
 unfold DM at h
 try dsimp only
 refine AK (Y ?_)
 obtain⟨x1,ex1,h⟩:=BG h
 refine J E (V E Ha (V E Aw ?_))
 refine AX (u:=vI x1) E E (congrArg vI ex1) ?_
 refine U (AE (Y (J E (J E (V E FH (U ?_))))))
 refine AL h E (fun hc1 h=>?_) fun hc1 h=>?_
 refine Av (Ay (FK (BP (A0 ?_))))
 obtain rfl:=zI h
 exact D5 (E4 E) (As (M:=[_]) ⟨E,E⟩ fun _ hw=>Br.pick (H:=[_]) hw [0] 1 E)
 refine AH (AI ?_)
 refine Az (α:=Int) (fun x=>Dz p3 l1 a1 (C7 p2 p3 m1) x=some r) (fun x=>[(0,BW),(2,vI p2),(3,vI p3),(8,vI a1),(9,vI x)]) (fun x=>AD 36 1 BW AQ l1::H) ?_ (fun a2 D h=>?_)
 refine AE ?_
 refine AB h fun y2 hy2 h=>?_
 refine Ai C2 [0] (C0 [(true,0),(true,1),(true,2),(true,3),(true,4),(true,5),(true,6),(true,7),(true,8),(true,9),(true,10),(true,11),(true,12),(true,13),(true,14),(true,15),(true,16),(true,17),(false,18),(false,19)]) zK (J E (V E Aw (J E (V E BL (J E ?_)))))
 refine Du 21 15 36 hy2 E (fun hb hg1 k=>?_) (fun hb k=>?_) ?_
 obtain⟨x2,hx2,hg1⟩:=Da hg1
 obtain⟨x3,hx3,hg1⟩:=Da hg1
 obtain⟨y1,hy1,hg1⟩:=Da hg1
 obtain rfl:=zI hg1
 refine J E (J E (J E (V E Aw ?_)))
 refine AZ 0 hx2 E Af Aa E E E fun g1 m2 cp1 hv1=>?_
 refine Aq E Ah E (AS (sz:=1) (enc:=AQ) 0 0 zV E hv1 hx2 E) ?_
 refine J E (J E (J E (V E Aw (V E Aw ?_))))
 refine AZ 0 hx3 E Af Aa E E E fun g2 m3 cp2 hv2=>?_
 refine Aq E Ah E (AS (sz:=1) (enc:=AQ) 0 0 zV E hv2 hx3 E) ?_
 refine BT 0 F7 (By hy1) E ⟨⟨0,E⟩,zT⟩ (An E E E ?_)
 exact k.mono tL
 refine AA E (AA E (AA E (AA E (AA E (AA E (AA E (AA E ?_)))))))
 refine AA E (AA E (AA E (AA E (AA E (AA E (An E E E ?_))))))
 exact k.mono tL
 refine U ?_
 refine AL h E (fun hc2 h=>?_) fun hc2 h=>?_
 refine AJ ?_
 obtain⟨x4,ex4,h⟩:=BG h
 refine J E (V E Aw ?_)
 refine AX (u:=vI x4) E E (congrArg vI ex4) ?_
 refine AT ?_
 exact Ak x4 h tL (A5 [0] 1 E E E)
 refine AH ?_
 exact Ak x1 h tL (A5 [0] 1 E E E)
 unfold Dz at h
 try dsimp only
 refine AE (AE ?_)
 refine AB h fun x5 hx5 h=>?_
 refine AB h fun x6 hx6 h=>?_
 refine AB h fun y3 hy3 h=>?_
 refine Ai C2 [0] (BJ (Hp 0 12) (.last 12 (C0 [(false,13)]))) zK (J E (J E (J E (V E Aw ?_))))
 refine AZ 0 hx5 E Af Aa E E E fun g3 m4 cp3 hv3=>?_
 refine Aq E Ah E (AS (sz:=1) (enc:=AQ) 0 0 zV E hv3 hx5 E) ?_
 refine J E (J E (J E (V E Aw ?_)))
 refine AZ 0 hx6 E Af Aa E E E fun g4 m5 cp4 hv4=>?_
 refine Aq E Ah E (AS (sz:=1) (enc:=AQ) 0 0 zV E hv4 hx6 E) ?_
 refine A4 (AN 0 F7 (By hy3) E (CO E E (U ?_)))
 refine AL h E (fun hc3 h=>?_) fun hc3 h=>?_
 refine AM (Ag (BO (FB (BO ?_))))
 obtain rfl:=zI h
 exact AW [0] 1 E E E
 refine AH (AI (AE ?_))
 refine AB h fun x7 hx7 h=>?_
 refine AB h fun x8 hx8 h=>?_
 refine AB h fun x9 hx9 h=>?_
 refine AB h fun l2 hl2 h=>?_
 refine AB h fun x10 hx10 h=>?_
 refine AB h fun l3 hl3 h=>?_
 refine Ai C2 [] (BJ [(true,0),(true,1),(true,2),(true,3),(true,4),(true,5),(true,6),(true,7),(true,8),(true,9),(true,10),(true,11),(true,12),(true,14),(true,15),(true,16),(true,17),(true,18)] (.alt 13 (BJ [(false,19),(true,20),(false,21),(true,22)] (.last 23 .nil)) (.cons (false,19) (BJ [(false,13),(true,20),(false,21),(true,22)] (.last 23 .nil))))) zK (J E (J E (J E (V E Aw (J E (J E (J E ?_)))))))
 refine V E Aw (J E (J E (J E (V E Aw ?_))))
 refine AZ 0 hx7 E Af Aa E E E fun g5 m6 cp5 hv5=>?_
 refine J E (J E (J E (V E Aw ?_)))
 refine AZ 0 hx8 E Af Aa E E E fun g6 m7 cp6 hv6=>?_
 refine E6 ?_ ?_
 refine Aq E Ah E (AS (sz:=1) (enc:=AQ) 0 0 zV E hv5 hx7 E) ?_
 refine Aq E Ah E (AS (sz:=1) (enc:=AQ) 0 0 zV E hv6 hx8 E) ?_
 refine AZ 0 hx9 E Af Aa E E E fun g7 m8 cp7 hv7=>?_
 refine BB (sz:=1) (enc:=AQ) 0 hl2 zV E E E E E hv7 Aa (by simp[Value.oneCell']) zT ?_
 refine AZ 0 hx10 E Af Aa E E E fun g8 m9 cp8 hv8=>?_
 refine A4 ?_
 refine BB (sz:=1) (enc:=AQ) 0 hl3 zV E E E E E hv8 Aa (by simp[Value.oneCell']) zT ?_
 refine U (AJ (J E (O E (AT (Ao ?_)))))
 exact Am (m1,l3,a2) h (Nat.lt_succ_self _) tL (A5 [0] 1 E E E)
 refine Aq E Ah E (AS (sz:=1) (enc:=AQ) 0 0 zV E hv6 hx8 E) ?_
 refine Aq E Ah E (AS (sz:=1) (enc:=AQ) 0 0 zV E hv5 hx7 E) ?_
 refine AZ 0 hx9 E Af Aa E E E fun g7 m8 cp7 hv7=>?_
 refine BB (sz:=1) (enc:=AQ) 0 hl2 zV E E E E E hv7 Aa (by simp[Value.oneCell']) zT ?_
 refine AZ 0 hx10 E Af Aa E E E fun g8 m9 cp8 hv8=>?_
 refine A4 ?_
 refine BB (sz:=1) (enc:=AQ) 0 hl3 zV E E E E E hv8 Aa (by simp[Value.oneCell']) zT ?_
 refine U (AJ (J E (O E (AT (Ao ?_)))))
 exact Am (m1,l3,a2) h (Nat.lt_succ_self _) tL (A5 [0] 1 E E E)
def ES(n:Nat)(p1:Int)(nx_f_slices_heapSortOrdered_uint32_l2:List UInt32×Int→Option (List UInt32))(l3:List UInt32)(a2:Int):Option (List UInt32):=
 cond (decide (0≤a2))
 (
  (A1 l3 (wI (p1+a2))).bind fun x1=>
  (A1 l3 p1).bind fun x2=>
  (A1 l3 p1).bind fun x3=>
  (FX l3 p1 x1).bind fun l4=>
  (A1 l4 (wI (p1+a2))).bind fun x4=>
  (FX l4 (wI (p1+a2)) x2).bind fun l5=>
  (Ds n l5 0 a2 p1).bind fun y2=>
  ret (wI (a2-1)) fun i_3=>
  nx_f_slices_heapSortOrdered_uint32_l2 (y2,i_3))
 (
  some l3)
def Ed(n:Nat)(p1:Int):Nat→(List UInt32×Int)→Option (List UInt32):=CH fun nx x=>ES n p1 nx x.1 x.2
def FC(n:Nat)(p1:Int)(hi_1:Int)(l1:List UInt32):Option (List UInt32):=
 ret (wI (hi_1-1)) fun i_2=>
 Ed n p1 n (l1,i_2)
def ER(n:Nat)(p1:Int)(hi_1:Int)(nx_f_slices_heapSortOrdered_uint32_l1:List UInt32×Int→Option (List UInt32))(l2:List UInt32)(a1:Int):Option (List UInt32):=
 cond (decide (0≤a1))
 (
  (Ds n l2 a1 hi_1 p1).bind fun y1=>
  ret (wI (a1-1)) fun i_1=>
  nx_f_slices_heapSortOrdered_uint32_l1 (y1,i_1))
 (
  FC n p1 hi_1 l2)
def Ec(n:Nat)(p1:Int)(hi_1:Int):Nat→(List UInt32×Int)→Option (List UInt32):=CH fun nx x=>ER n p1 hi_1 nx x.1 x.2
def Ez(n:Nat)(p0:List UInt32)(p1:Int)(p2:Int):Option (List UInt32):=
 ret (wI (p2-p1)) fun hi_1=>
 (K0 (wI (hi_1-1)) 2).bind fun q1=>
 Ec n p1 hi_1 n (p0,q1)
theorem OH{n:Nat}{BW:Value}{p0 r:List UInt32}{p1 p2:Int}(h:Ez n p0 p1 p2=some r): zC K w0 236 [BW,vI p1,vI p2] [AD 36 1 BW AQ p0] H (fun u M=>u=.tuple #[]∧M=[AD 36 1 BW AQ r]):=by
 unfold Ez at h
 refine Vf.enter Tryz.func236 rfl rfl ?_
 refine Y (J E (O E (U (Y (O E (U (Y ?_)))))))
 obtain⟨hi_1,ehi_1,h⟩:=BG h
 refine J E (J E (V E BC ?_))
 refine AX (u:=vI hi_1) E E (congrArg vI ehi_1) ?_
 refine U ?_
 refine Az (α:=List UInt32) (fun x=>FC n p1 hi_1 x=some r) (fun x=>[(0,BW),(6,vI p1),(7,vI 0),(8,vI hi_1)]) (fun x=>AD 36 1 BW AQ x::H) ?_ (fun l1 D h=>?_)
 refine Y ?_
 refine AB h fun q1 hq1 h=>?_
 refine J E (V E BC (V E (K6 hq1) (O E (U (AK ?_)))))
 refine SX.heap (SX.mono (A9 (α:=Nat×List UInt32×Int) (fun x=>Ec n p1 hi_1 x.1 (x.2.1,x.2.2)=some r) (fun x=>[(0,BW),(6,vI p1),(7,vI 0),(8,vI hi_1),(9,vI x.2.2)]) (fun x=>AD 36 1 BW AQ x.2.1::H) (fun x=>x.1) (fun x D h=>?_) (n,p0,q1) h) tL) (A5 [0] 1 E E E)
 obtain⟨m1,l2,a1⟩:=x
 dsimp only at h
 rcases m1 with _ | m1
 cases (show(none:Option _)=some r from h)
 replace h:ER n p1 hi_1 (Ec n p1 hi_1 m1) l2 a1=some r:=h
 unfold ER at h
 try dsimp only
 refine AE (Y (J E (V E FH (U ?_))))
 refine AL h E (fun hc1 h=>?_) fun hc1 h=>?_
 refine AH (AI (AE (AK (AJ ?_))))
 refine AB h fun y1 hy1 h=>?_
 refine J E (J E (J E (J E (AN 1 dn (Gk hy1) E (AT (Ao (AI (AJ ?_))))))))
 obtain⟨i_1,ei_1,h⟩:=BG h
 refine J E (V E BC ?_)
 refine AX (u:=vI i_1) E E (congrArg vI ei_1) ?_
 refine AT ?_
 exact Am (m1,y1,i_1) h (Nat.lt_succ_self _) tL (A5 [0] 1 E E E)
 refine Av (Ay (BP (A0 ?_)))
 exact Ak l2 h tL (A5 [0] 1 E E E)
 unfold FC at h
 try dsimp only
 refine Y ?_
 obtain⟨i_2,ei_2,h⟩:=BG h
 refine J E (V E BC ?_)
 refine AX (u:=vI i_2) E E (congrArg vI ei_2) ?_
 refine U (AK ?_)
 refine SX.heap (SX.mono (A9 (α:=Nat×List UInt32×Int) (fun x=>Ed n p1 x.1 (x.2.1,x.2.2)=some r) (fun x=>[(0,BW),(6,vI p1),(7,vI 0),(10,vI x.2.2)]) (fun x=>AD 36 1 BW AQ x.2.1::H) (fun x=>x.1) (fun x D h=>?_) (n,l1,i_2) h) tL) (A5 [0] 1 E E E)
 obtain⟨m2,l3,a2⟩:=x
 dsimp only at h
 rcases m2 with _ | m2
 cases (show(none:Option _)=some r from h)
 replace h:ES n p1 (Ed n p1 m2) l3 a2=some r:=h
 unfold ES at h
 try dsimp only
 refine AE (Y (J E (V E FH (U ?_))))
 refine AL h E (fun hc2 h=>?_) fun hc2 h=>?_
 refine AH (AI (AE (AK (AE ?_))))
 refine AB h fun x1 hx1 h=>?_
 refine AB h fun x2 hx2 h=>?_
 refine AB h fun x3 hx3 h=>?_
 refine AB h fun l4 hl4 h=>?_
 refine AB h fun x4 hx4 h=>?_
 refine AB h fun l5 hl5 h=>?_
 refine Ai C2 [] (BJ [(true,0),(true,1),(true,2),(true,3),(true,4),(true,5),(true,6),(true,7),(true,8),(true,9),(true,10),(true,12),(true,13),(true,14)] (.alt 11 (BJ [(false,15),(true,16),(false,17),(true,18)] (.last 19 .nil)) (.cons (false,15) (BJ [(false,11),(true,16),(false,17),(true,18)] (.last 19 .nil))))) zK (J E (J E (J E (J E (J E (V E Aw (J E ?_)))))))
 refine J E (J E (V E Aw ?_))
 refine AZ 0 hx1 E Af Aa E E E fun g1 m3 cp1 hv1=>?_
 refine J E (J E ?_)
 refine AZ 0 hx2 E Af Aa E E E fun g2 m4 cp2 hv2=>?_
 refine E6 ?_ ?_
 refine Aq E Ah E (AS (sz:=1) (enc:=AQ) 0 0 zV E hv1 hx1 E) ?_
 refine Aq E Ah E (AS (sz:=1) (enc:=AQ) 0 0 zV E hv2 hx2 E) ?_
 refine AZ 0 hx3 E Af Aa E E E fun g3 m5 cp3 hv3=>?_
 refine BB (sz:=1) (enc:=AQ) 0 hl4 zV E E E E E hv3 Aa (by simp[Value.oneCell']) zT ?_
 refine AZ 0 hx4 E Af Aa E E E fun g4 m6 cp4 hv4=>?_
 refine A4 ?_
 refine BB (sz:=1) (enc:=AQ) 0 hl5 zV E E E E E hv4 Aa (by simp[Value.oneCell']) zT ?_
 refine U (AJ ?_)
 refine AB h fun y2 hy2 h=>?_
 refine J E (J E (J E (J E (AN 1 dn (Gk hy2) E (AT (Ao (AI (AJ ?_))))))))
 obtain⟨i_3,ei_3,h⟩:=BG h
 refine J E (V E BC ?_)
 refine AX (u:=vI i_3) E E (congrArg vI ei_3) ?_
 refine AT ?_
 exact Am (m2,y2,i_3) h (Nat.lt_succ_self _) tL (A5 [0] 1 E E E)
 refine Aq E Ah E (AS (sz:=1) (enc:=AQ) 0 0 zV E hv2 hx2 E) ?_
 refine Aq E Ah E (AS (sz:=1) (enc:=AQ) 0 0 zV E hv1 hx1 E) ?_
 refine AZ 0 hx3 E Af Aa E E E fun g3 m5 cp3 hv3=>?_
 refine BB (sz:=1) (enc:=AQ) 0 hl4 zV E E E E E hv3 Aa (by simp[Value.oneCell']) zT ?_
 refine AZ 0 hx4 E Af Aa E E E fun g4 m6 cp4 hv4=>?_
 refine A4 ?_
 refine BB (sz:=1) (enc:=AQ) 0 hl5 zV E E E E E hv4 Aa (by simp[Value.oneCell']) zT ?_
 refine U (AJ ?_)
 refine AB h fun y2 hy2 h=>?_
 refine J E (J E (J E (J E (AN 1 dn (Gk hy2) E (AT (Ao (AI (AJ ?_))))))))
 obtain⟨i_3,ei_3,h⟩:=BG h
 refine J E (V E BC ?_)
 refine AX (u:=vI i_3) E E (congrArg vI ei_3) ?_
 refine AT ?_
 exact Am (m2,y2,i_3) h (Nat.lt_succ_self _) tL (A5 [0] 1 E E E)
 refine Av (Ay (BP (A0 ?_)))
 obtain rfl:=zI h
 exact D5 (E4 E) (As (M:=[_]) ⟨E,E⟩ fun _ hw=>Br.pick (H:=[_]) hw [0] 1 E)
def GO(p0:Int):Option UInt64:=
 (IG (DJ p0)).bind fun y1=>
 (Q6 y1).bind fun n1=>
 ret (shl64 1 n1) fun x1=>
 some x1
theorem Rf{p0:Int}{r:UInt64}(h:GO p0=some r): zC K w0 262 [vI p0] [] H (fun u M=>u=Bh r∧M=[]):=by
 unfold GO at h
 refine Vf.enter Tryz.func262 rfl rfl ?_
 refine Y (O E (U (Y ?_)))
 refine AB h fun y1 hy1 h=>?_
 refine AB h fun n1 hn1 h=>?_
 obtain⟨x1,ex1,h⟩:=BG h
 refine J E (BZ E E (Ff Jh PN) (AN 0 kn (SD hy1) E ?_))
 refine V E (X6 (a:=1) hn1) ?_
 refine AX (u:=Bh x1) E E (congrArg Bh ex1) ?_
 refine U (AM ?_)
 obtain rfl:=zI h
 exact AW [] 0 E E E
def Gd(p0:UInt64):Option (UInt64×UInt64):=
 ret (((p0 ^^^ (shl64 p0 13)) ^^^ (shr64 (p0 ^^^ (shl64 p0 13)) 7)) ^^^ (shl64 ((p0 ^^^ (shl64 p0 13)) ^^^ (shr64 (p0 ^^^ (shl64 p0 13)) 7)) 17)) fun x1=>
 some (x1,((p0 ^^^ (shl64 p0 13)) ^^^ (shr64 (p0 ^^^ (shl64 p0 13)) 7)) ^^^ (shl64 ((p0 ^^^ (shl64 p0 13)) ^^^ (shr64 (p0 ^^^ (shl64 p0 13)) 7)) 17))
theorem SH{A7:Nat}{p0:UInt64}{r:UInt64×UInt64}(h:Gd p0=some r): zC K w0 263 [vP A7 0] [own A7 (.cells #[Bh p0] 353)] H (fun u M=>u=Bh r.1∧M=[own A7 (.cells #[Bh r.2] 353)]):=by
 unfold Gd at h
 refine Vf.enter Tryz.func263 rfl rfl ?_
 refine Y (O E (U (AE (Ai C2 [0] (BJ (Hp 0 9) (.last 9 .nil)) zK (J E (AV E E (AG 0 WC E (J E (AV E E (AG 0 WC E ?_))))))))))
 refine V E (Gy.shl64 (n:=13)) ?_
 refine V E Ve (AV E E (A4 (BN 0 E E E E fK E E E zT (U (AE (Ai C2 [0] (BJ (Hp 0 9) (.last 9 .nil)) zK (J E (AV E E (AG 0 WC E (J E ?_))))))))))
 refine AV E E (AG 0 WC E ?_)
 refine V E (Gy.shr64 (n:=7)) ?_
 refine V E Ve (AV E E (A4 (BN 0 E E E E fK E E E zT (U (AE (Ai C2 [0] (BJ (Hp 0 9) (.last 9 .nil)) zK (J E (AV E E (AG 0 WC E (J E ?_))))))))))
 refine AV E E (AG 0 WC E ?_)
 refine V E (Gy.shl64 (n:=17)) ?_
 refine V E Ve (AV E E (A4 (BN 0 E E E E fK E E E zT (U (Y ?_)))))
 obtain⟨x1,ex1,h⟩:=BG h
 refine J E (AV E E (AG 0 WC E ?_))
 refine AX (u:=Bh x1) E E (congrArg Bh ex1) ?_
 refine U (AM ?_)
 obtain rfl:=zI h
 exact AW [0] 1 E E E
def DY(p1:Int)(l1:List UInt32)(a1:Int)(y3:UInt64×UInt64)(nx_f_slices_breakPatternsOrdered_uint32_l1:List UInt32×UInt64×Int→Option (List UInt32))(a2:Int):Option (List UInt32):=
 (A1 l1 (wI (p1+a2))).bind fun x5=>
 (A1 l1 a1).bind fun x6=>
 (A1 l1 a1).bind fun x7=>
 (FX l1 a1 x5).bind fun l2=>
 (A1 l2 (wI (p1+a2))).bind fun x8=>
 (FX l2 (wI (p1+a2)) x6).bind fun l3=>
 ret (wI (a1+1)) fun x9=>
 nx_f_slices_breakPatternsOrdered_uint32_l1 (l3,y3.2,x9)
def Cs(p1:Int)(x1:Int)(y1:UInt64)(nx_f_slices_breakPatternsOrdered_uint32_l1:List UInt32×UInt64×Int→Option (List UInt32))(l1:List UInt32)(y2:UInt64)(a1:Int):Option (List UInt32):=
 (K0 x1 4).bind fun q2=>
 cond (decide (a1≤wI ((wI (p1+(wI (q2*2))))+1)))
 (
  (Gd y2).bind fun y3=>
  ret (wI ((y3.1 &&& (y1-1)).toNat:Int)) fun x3=>
  cond (decide (x1≤x3))
  (
   ret (wI (x3-x1)) fun x4=>
   DY p1 l1 a1 y3 nx_f_slices_breakPatternsOrdered_uint32_l1 x4)
  (
   DY p1 l1 a1 y3 nx_f_slices_breakPatternsOrdered_uint32_l1 x3))
 (
  some l1)
def Ce(p1:Int)(x1:Int)(y1:UInt64):Nat→(List UInt32×UInt64×Int)→Option (List UInt32):=CH fun nx x=>Cs p1 x1 y1 nx x.1 x.2.1 x.2.2
def EQ(n:Nat)(p0:List UInt32)(p1:Int)(p2:Int):Option (List UInt32):=
 ret (wI (p2-p1)) fun x1=>
 cond (decide (8≤x1))
 (
  (GO x1).bind fun y1=>
  (K0 x1 4).bind fun q1=>
  ret (wI ((wI (p1+(wI (q1*2))))-1)) fun x2=>
  Ce p1 x1 y1 n (p0,DJ x1,x2))
 (
  some p0)
theorem MO{n:Nat}{BW:Value}{p0 r:List UInt32}{p1 p2:Int}(h:EQ n p0 p1 p2=some r): zC K w0 237 [BW,vI p1,vI p2] [AD 36 1 BW AQ p0] H (fun u M=>u=.tuple #[]∧M=[AD 36 1 BW AQ r]):=by
 unfold EQ at h
 refine Vf.enter Tryz.func237 rfl rfl ?_
 refine Y ?_
 obtain⟨x1,ex1,h⟩:=BG h
 refine J E (J E (V E BC ?_))
 refine AX (u:=vI x1) E E (congrArg vI ex1) ?_
 refine U (Y (J E (V E FH (U ?_))))
 refine AL h E (fun hc1 h=>?_) fun hc1 h=>?_
 refine Y (J E (BZ E E (Ff Jh wz) ?_))
 refine A6 E xM zU fun b1=>?_
 refine BN 0 E E E E fK E E E zT (U (Y ?_))
 refine AB h fun y1 hy1 h=>?_
 refine J E (AN 0 td (Rf hy1) E (O E (U (Y ?_))))
 refine AB h fun q1 hq1 h=>?_
 obtain⟨x2,ex2,h⟩:=BG h
 refine J E (J E (V E (K6 hq1) (V E Ha (V E Aw (V E BC ?_)))))
 refine AX (u:=vI x2) E E (congrArg vI ex2) ?_
 refine U (AK ?_)
 refine SX.heap (SX.mono (A9 (α:=Nat×List UInt32×UInt64×Int) (fun x=>Ce p1 x1 y1 x.1 (x.2.1,x.2.2.1,x.2.2.2)=some r) (fun x=>[(0,BW),(1,vI p1),(6,vI x1),(7,vP b1 0),(8,Bh y1),(9,vI x.2.2.2)]) (fun x=>AD 36 1 BW AQ x.2.1::own b1 (.cells #[Bh x.2.2.1] 353)::H) (fun x=>x.1) (fun x D h=>?_) (n,p0,DJ x1,x2) h) tL) (A5 [1,0] 2 E E E)
 obtain⟨m1,l1,y2,a1⟩:=x
 dsimp only at h
 rcases m1 with _ | m1
 cases (show(none:Option _)=some r from h)
 replace h:Cs p1 x1 y1 (Ce p1 x1 y1 m1) l1 y2 a1=some r:=h
 unfold Cs at h
 try dsimp only
 refine AE (Y ?_)
 refine AB h fun q2 hq2 h=>?_
 refine J E (J E (J E (V E (K6 hq2) (V E Ha (V E Aw (V E Aw (V E Ex (U ?_))))))))
 refine AL h E (fun hc2 h=>?_) fun hc2 h=>?_
 refine AH (AI (AE (AK (Y ?_))))
 refine AB h fun y3 hy3 h=>?_
 obtain⟨x3,ex3,h⟩:=BG h
 refine SL.pick [1,0] 2 (AN 1 te (SH hy3) E (J E ?_))
 refine V E (SW (b:=1)) ?_
 refine V E Oy (BZ E E (kE PN Jh) ?_)
 refine AX (u:=vI x3) E E (congrArg vI ex3) ?_
 refine U ?_
 refine Az (α:=Int) (fun x=>DY p1 l1 a1 y3 (Ce p1 x1 y1 m1) x=some r) (fun x=>[(0,BW),(1,vI p1),(6,vI x1),(7,vP b1 0),(8,Bh y1),(9,vI a1),(10,vI x)]) (fun x=>AD 36 1 BW AQ l1::own b1 (.cells #[Bh y3.2] 353)::H) ?_ (fun a2 D h=>?_)
 refine Y (J E (J E (V E FH (U ?_))))
 refine AL h E (fun hc3 h=>?_) fun hc3 h=>?_
 refine AJ ?_
 obtain⟨x4,ex4,h⟩:=BG h
 refine J E (J E (V E BC ?_))
 refine AX (u:=vI x4) E E (congrArg vI ex4) ?_
 refine AT ?_
 exact Ak x4 h tL (A5 [1,0] 2 E E E)
 refine AH ?_
 exact Ak x3 h tL (A5 [1,0] 2 E E E)
 unfold DY at h
 try dsimp only
 refine AB h fun x5 hx5 h=>?_
 refine AB h fun x6 hx6 h=>?_
 refine AB h fun x7 hx7 h=>?_
 refine AB h fun l2 hl2 h=>?_
 refine AB h fun x8 hx8 h=>?_
 refine AB h fun l3 hl3 h=>?_
 refine Ai C2 [] (BJ [(true,0),(true,1),(true,2),(true,3),(true,4),(true,5),(true,6),(true,7),(true,8),(true,9),(true,10),(true,12),(true,13),(true,14)] (.alt 11 (BJ [(false,15),(true,16),(false,17),(true,18)] (.last 19 .nil)) (.cons (false,15) (BJ [(false,11),(true,16),(false,17),(true,18)] (.last 19 .nil))))) zK (J E (J E (J E (J E (J E (V E Aw (J E ?_)))))))
 refine J E (J E (V E Aw ?_))
 refine AZ 0 hx5 E Af Aa E E E fun g1 m2 cp1 hv1=>?_
 refine J E (J E ?_)
 refine AZ 0 hx6 E Af Aa E E E fun g2 m3 cp2 hv2=>?_
 refine E6 ?_ ?_
 refine Aq E Ah E (AS (sz:=1) (enc:=AQ) 0 0 zV E hv1 hx5 E) ?_
 refine Aq E Ah E (AS (sz:=1) (enc:=AQ) 0 0 zV E hv2 hx6 E) ?_
 refine AZ 0 hx7 E Af Aa E E E fun g3 m4 cp3 hv3=>?_
 refine BB (sz:=1) (enc:=AQ) 0 hl2 zV E E E E E hv3 Aa (by simp[Value.oneCell']) zT ?_
 refine AZ 0 hx8 E Af Aa E E E fun g4 m5 cp4 hv4=>?_
 refine A4 ?_
 refine BB (sz:=1) (enc:=AQ) 0 hl3 zV E E E E E hv4 Aa (by simp[Value.oneCell']) zT ?_
 refine AT (Ao (AI (AJ ?_)))
 obtain⟨x9,ex9,h⟩:=BG h
 refine J E (V E Aw ?_)
 refine AX (u:=vI x9) E E (congrArg vI ex9) ?_
 refine AT ?_
 exact Am (m1,l3,y3.2,x9) h (Nat.lt_succ_self _) tL (A5 [0,1] 2 E E E)
 refine Aq E Ah E (AS (sz:=1) (enc:=AQ) 0 0 zV E hv2 hx6 E) ?_
 refine Aq E Ah E (AS (sz:=1) (enc:=AQ) 0 0 zV E hv1 hx5 E) ?_
 refine AZ 0 hx7 E Af Aa E E E fun g3 m4 cp3 hv3=>?_
 refine BB (sz:=1) (enc:=AQ) 0 hl2 zV E E E E E hv3 Aa (by simp[Value.oneCell']) zT ?_
 refine AZ 0 hx8 E Af Aa E E E fun g4 m5 cp4 hv4=>?_
 refine A4 ?_
 refine BB (sz:=1) (enc:=AQ) 0 hl3 zV E E E E E hv4 Aa (by simp[Value.oneCell']) zT ?_
 refine AT (Ao (AI (AJ ?_)))
 obtain⟨x9,ex9,h⟩:=BG h
 refine J E (V E Aw ?_)
 refine AX (u:=vI x9) E E (congrArg vI ex9) ?_
 refine AT ?_
 exact Am (m1,l3,y3.2,x9) h (Nat.lt_succ_self _) tL (A5 [0,1] 2 E E E)
 refine Av (Ay (BP (A0 ?_)))
 obtain rfl:=zI h
 exact D5 (E4 E) (As (M:=[_]) ⟨E,E⟩ fun _ hw=>Br.pick (H:=[_,_]) hw [0] 2 E)
 refine AH ?_
 obtain rfl:=zI h
 exact D5 (E4 E) (As (M:=[_]) ⟨E,E⟩ fun _ hw=>Br.pick (H:=[_]) hw [0] 1 E)
end

section
variable {K:Nat→Prop}{w0:World}{H:List Ab}
def E0(l1:List UInt32):Option (Bool×List UInt32):=
 some (false,l1)
def B9(a2:Int)(nx_f_slices_partialInsertionSortOrdered_uint32_l1:List UInt32×Int×Int→Option (Bool×List UInt32))(l3:List UInt32)(a3:Int):Option (Bool×List UInt32):=
 ret (wI (a2+1)) fun x25=>
 nx_f_slices_partialInsertionSortOrdered_uint32_l1 (l3,a3,x25)
def CK(p2:Int)(a2:Int)(a4:Int)(nx_f_slices_partialInsertionSortOrdered_uint32_l1:List UInt32×Int×Int→Option (Bool×List UInt32))(nx_f_slices_partialInsertionSortOrdered_uint32_l4:List UInt32×Int→Option (Bool×List UInt32))(l10:List UInt32)(a7:Int):Option (Bool×List UInt32):=
 cond (decide (a7<p2))
 (
  (A1 l10 a7).bind fun x18=>
  (A1 l10 (wI (a7-1))).bind fun x19=>
  (Cr x18 x19).bind fun y4=>
  cond (!y4)
  (
   B9 a2 nx_f_slices_partialInsertionSortOrdered_uint32_l1 l10 a4)
  (
   (A1 l10 (wI (a7-1))).bind fun x20=>
   (A1 l10 a7).bind fun x21=>
   (A1 l10 a7).bind fun x22=>
   (FX l10 a7 x20).bind fun l11=>
   (A1 l11 (wI (a7-1))).bind fun x23=>
   (FX l11 (wI (a7-1)) x21).bind fun l12=>
   ret (wI (a7+1)) fun x24=>
   nx_f_slices_partialInsertionSortOrdered_uint32_l4 (l12,x24)))
 (
  B9 a2 nx_f_slices_partialInsertionSortOrdered_uint32_l1 l10 a4)
def CU(p2:Int)(a2:Int)(a4:Int)(nx_f_slices_partialInsertionSortOrdered_uint32_l1:List UInt32×Int×Int→Option (Bool×List UInt32)):Nat→(List UInt32×Int)→Option (Bool×List UInt32):=CH fun nx x=>CK p2 a2 a4 nx_f_slices_partialInsertionSortOrdered_uint32_l1 nx x.1 x.2
def Ba(n:Nat)(p2:Int)(a2:Int)(a4:Int)(nx_f_slices_partialInsertionSortOrdered_uint32_l1:List UInt32×Int×Int→Option (Bool×List UInt32))(l6:List UInt32):Option (Bool×List UInt32):=
 cond (decide (2≤wI (p2-a4)))
 (
  ret (wI (a4+1)) fun x17=>
  CU p2 a2 a4 nx_f_slices_partialInsertionSortOrdered_uint32_l1 n (l6,x17))
 (
  B9 a2 nx_f_slices_partialInsertionSortOrdered_uint32_l1 l6 a4)
def CJ(n:Nat)(p2:Int)(a2:Int)(a4:Int)(nx_f_slices_partialInsertionSortOrdered_uint32_l1:List UInt32×Int×Int→Option (Bool×List UInt32))(nx_f_slices_partialInsertionSortOrdered_uint32_l3:List UInt32×Int→Option (Bool×List UInt32))(l7:List UInt32)(a6:Int):Option (Bool×List UInt32):=
 cond (decide (1≤a6))
 (
  (A1 l7 a6).bind fun x10=>
  (A1 l7 (wI (a6-1))).bind fun x11=>
  (Cr x10 x11).bind fun y3=>
  cond (!y3)
  (
   Ba n p2 a2 a4 nx_f_slices_partialInsertionSortOrdered_uint32_l1 l7)
  (
   (A1 l7 (wI (a6-1))).bind fun x12=>
   (A1 l7 a6).bind fun x13=>
   (A1 l7 a6).bind fun x14=>
   (FX l7 a6 x12).bind fun l8=>
   (A1 l8 (wI (a6-1))).bind fun x15=>
   (FX l8 (wI (a6-1)) x13).bind fun l9=>
   ret (wI (a6-1)) fun x16=>
   nx_f_slices_partialInsertionSortOrdered_uint32_l3 (l9,x16)))
 (
  Ba n p2 a2 a4 nx_f_slices_partialInsertionSortOrdered_uint32_l1 l7)
def CT(n:Nat)(p2:Int)(a2:Int)(a4:Int)(nx_f_slices_partialInsertionSortOrdered_uint32_l1:List UInt32×Int×Int→Option (Bool×List UInt32)):Nat→(List UInt32×Int)→Option (Bool×List UInt32):=CH fun nx x=>CJ n p2 a2 a4 nx_f_slices_partialInsertionSortOrdered_uint32_l1 nx x.1 x.2
def DU(n:Nat)(p1:Int)(p2:Int)(l2:List UInt32)(a2:Int)(nx_f_slices_partialInsertionSortOrdered_uint32_l1:List UInt32×Int×Int→Option (Bool×List UInt32))(a4:Int):Option (Bool×List UInt32):=
 cond (decide (a4=p2))
 (
  some (true,l2))
 (
  cond (decide (wI (p2-p1)<50))
  (
   some (false,l2))
  (
   (A1 l2 (wI (a4-1))).bind fun x5=>
   (A1 l2 a4).bind fun x6=>
   (A1 l2 a4).bind fun x7=>
   (FX l2 a4 x5).bind fun l4=>
   (A1 l4 (wI (a4-1))).bind fun x8=>
   (FX l4 (wI (a4-1)) x6).bind fun l5=>
   cond (decide (2≤wI (a4-p1)))
   (
    ret (wI (a4-1)) fun x9=>
    CT n p2 a2 a4 nx_f_slices_partialInsertionSortOrdered_uint32_l1 n (l5,x9))
   (
    Ba n p2 a2 a4 nx_f_slices_partialInsertionSortOrdered_uint32_l1 l5)))
def DL(n:Nat)(p1:Int)(p2:Int)(l2:List UInt32)(a2:Int)(nx_f_slices_partialInsertionSortOrdered_uint32_l1:List UInt32×Int×Int→Option (Bool×List UInt32))(nx_f_slices_partialInsertionSortOrdered_uint32_l2:Int→Option (Bool×List UInt32))(a5:Int):Option (Bool×List UInt32):=
 (E3 (decide (a5<p2)) ((A1 l2 a5).bind fun x2=>(A1 l2 (wI (a5-1))).bind fun x3=>(Cr x2 x3).bind fun y1=>some (!y1))).bind fun y2=>
 cond y2
 (
  ret (wI (a5+1)) fun x4=>
  nx_f_slices_partialInsertionSortOrdered_uint32_l2 x4)
 (
  DU n p1 p2 l2 a2 nx_f_slices_partialInsertionSortOrdered_uint32_l1 a5)
def DV(n:Nat)(p1:Int)(p2:Int)(l2:List UInt32)(a2:Int)(nx_f_slices_partialInsertionSortOrdered_uint32_l1:List UInt32×Int×Int→Option (Bool×List UInt32)):Nat→Int→Option (Bool×List UInt32):=CH fun nx x=>DL n p1 p2 l2 a2 nx_f_slices_partialInsertionSortOrdered_uint32_l1 nx x
def DK(n:Nat)(p1:Int)(p2:Int)(nx_f_slices_partialInsertionSortOrdered_uint32_l1:List UInt32×Int×Int→Option (Bool×List UInt32))(l2:List UInt32)(a1:Int)(a2:Int):Option (Bool×List UInt32):=
 cond (decide (a2<5))
 (
  DV n p1 p2 l2 a2 nx_f_slices_partialInsertionSortOrdered_uint32_l1 n a1)
 (
  E0 l2)
def Ae(n:Nat)(p1:Int)(p2:Int):Nat→(List UInt32×Int×Int)→Option (Bool×List UInt32):=CH fun nx x=>DK n p1 p2 nx x.1 x.2.1 x.2.2
def Dk(n:Nat)(p0:List UInt32)(p1:Int)(p2:Int):Option (Bool×List UInt32):=
 ret (wI (p1+1)) fun x1=>
 Ae n p1 p2 n (p0,x1,0)
theorem Jn{n:Nat}{BW:Value}{p0:List UInt32}{p1 p2:Int}{r:Bool×List UInt32}(h:Dk n p0 p1 p2=some r): zC K w0 240 [BW,vI p1,vI p2] [AD 36 1 BW AQ p0] H (fun u M=>u=vB r.1∧M=[AD 36 1 BW AQ r.2]):=by
 unfold Dk at h
 refine Vf.enter Tryz.func240 rfl rfl ?_
 refine Y (O E (U (Y ?_)))
 obtain⟨x1,ex1,h⟩:=BG h
 refine J E (V E Aw ?_)
 refine AX (u:=vI x1) E E (congrArg vI ex1) ?_
 refine U ?_
 refine Az (α:=List UInt32) (fun x=>E0 x=some r) (fun x=>[(0,BW)]) (fun x=>AD 36 1 BW AQ x::H) ?_ (fun l1 D h=>?_)
 refine Y (O E (U (AK ?_)))
 refine SX.heap (SX.mono (A9 (α:=Nat×List UInt32×Int×Int) (fun x=>Ae n p1 p2 x.1 (x.2.1,x.2.2.1,x.2.2.2)=some r) (fun x=>[(0,BW),(1,vI p1),(2,vI p2),(7,vI x.2.2.1),(8,vI x.2.2.2)]) (fun x=>AD 36 1 BW AQ x.2.1::H) (fun x=>x.1) (fun x D h=>?_) (n,p0,x1,0) h) tL) (A5 [0] 1 E E E)
 obtain⟨m1,l2,a1,a2⟩:=x
 dsimp only at h
 rcases m1 with _ | m1
 cases (show(none:Option _)=some r from h)
 replace h:DK n p1 p2 (Ae n p1 p2 m1) l2 a1 a2=some r:=h
 unfold DK at h
 try dsimp only
 refine AE (Y (J E (V E BL (U ?_))))
 refine AL h E (fun hc1 h=>?_) fun hc1 h=>?_
 refine AH (AI ?_)
 refine Az (α:=List UInt32×Int) (fun x=>B9 a2 (Ae n p1 p2 m1) x.1 x.2=some r) (fun x=>[(0,BW),(1,vI p1),(2,vI p2),(7,vI x.2),(8,vI a2)]) (fun x=>AD 36 1 BW AQ x.1::H) ?_ (fun x D h=>?_)
 refine AK ?_
 refine Az (α:=Int) (fun x=>DU n p1 p2 l2 a2 (Ae n p1 p2 m1) x=some r) (fun x=>[(0,BW),(1,vI p1),(2,vI p2),(7,vI x),(8,vI a2)]) (fun x=>AD 36 1 BW AQ l2::H) ?_ (fun a4 D h=>?_)
 refine AK ?_
 refine SX.heap (SX.mono (A9 (α:=Nat×Int) (fun x=>DV n p1 p2 l2 a2 (Ae n p1 p2 m1) x.1 x.2=some r) (fun x=>[(0,BW),(1,vI p1),(2,vI p2),(7,vI x.2),(8,vI a2)]) (fun x=>AD 36 1 BW AQ l2::H) (fun x=>x.1) (fun x D h=>?_) (n,a1) h) tL) (A5 [0] 1 E E E)
 obtain⟨m2,a5⟩:=x
 dsimp only at h
 rcases m2 with _ | m2
 cases (show(none:Option _)=some r from h)
 replace h:DL n p1 p2 l2 a2 (Ae n p1 p2 m1) (DV n p1 p2 l2 a2 (Ae n p1 p2 m1) m2) a5=some r:=h
 unfold DL at h
 try dsimp only
 refine AE (AE ?_)
 refine AB h fun y2 hy2 h=>?_
 refine Ai C2 [0] (C0 [(true,0),(true,1),(true,2),(true,3),(true,4),(true,5),(true,6),(true,7),(true,8),(true,9),(true,10),(true,11),(true,12),(false,13),(false,14),(false,15)]) zK (J E (J E (V E BL (J E ?_))))
 refine Du 20 12 32 hy2 E (fun hb hg1 k=>?_) (fun hb k=>?_) ?_
 obtain⟨x2,hx2,hg1⟩:=Da hg1
 obtain⟨x3,hx3,hg1⟩:=Da hg1
 obtain⟨y1,hy1,hg1⟩:=Da hg1
 obtain rfl:=zI hg1
 refine J E (J E ?_)
 refine AZ 0 hx2 E Af Aa E E E fun g1 m3 cp1 hv1=>?_
 refine Aq E Ah E (AS (sz:=1) (enc:=AQ) 0 0 zV E hv1 hx2 E) ?_
 refine J E (J E (V E BC ?_))
 refine AZ 0 hx3 E Af Aa E E E fun g2 m4 cp2 hv2=>?_
 refine Aq E Ah E (AS (sz:=1) (enc:=AQ) 0 0 zV E hv2 hx3 E) ?_
 refine BT 0 F7 (By hy1) E ⟨⟨0,E⟩,zT⟩ (CO E E (An E E E ?_))
 exact k.mono tL
 refine AA E (AA E (AA E (AA E (AA E (AA E (AA E (AA E ?_)))))))
 refine AA E (AA E (AA E (An E E E ?_)))
 exact k.mono tL
 refine U ?_
 refine AL h E (fun hc2 h=>?_) fun hc2 h=>?_
 refine AH (AI (AK (AJ ?_)))
 obtain⟨x4,ex4,h⟩:=BG h
 refine J E (V E Aw ?_)
 refine AX (u:=vI x4) E E (congrArg vI ex4) ?_
 refine AT (Ao ?_)
 exact Am (m2,x4) h (Nat.lt_succ_self _) tL (A5 [0] 1 E E E)
 refine Av (Ay (BP (A0 ?_)))
 exact Ak a5 h tL (A5 [0] 1 E E E)
 unfold DU at h
 try dsimp only
 refine AE (Y (J E (J E (V E Bv (U ?_)))))
 refine AL h E (fun hc3 h=>?_) fun hc3 h=>?_
 refine Y (O E (U (AM (Ag (BO (F9 (FB (BO (F9 ?_)))))))))
 obtain rfl:=zI h
 exact AW [0] 1 E E E
 refine AH (AI (AE (Y (J E (J E (V E BC (V E BL (U ?_))))))))
 refine AL h E (fun hc4 h=>?_) fun hc4 h=>?_
 refine Y (O E (U (AM (Ag (BO (F9 (FB (BO (F9 ?_)))))))))
 obtain rfl:=zI h
 exact AW [0] 1 E E E
 refine AH (AI (AE ?_))
 refine AB h fun x5 hx5 h=>?_
 refine AB h fun x6 hx6 h=>?_
 refine AB h fun x7 hx7 h=>?_
 refine AB h fun l4 hl4 h=>?_
 refine AB h fun x8 hx8 h=>?_
 refine AB h fun l5 hl5 h=>?_
 refine Ai C2 [] (BJ [(true,0),(true,1),(true,2),(true,3),(true,4),(true,5),(true,6),(true,7),(true,8),(true,10),(true,11),(true,12)] (.alt 9 (BJ [(false,13),(true,14),(false,15),(true,16)] (.last 17 .nil)) (.cons (false,13) (BJ [(false,9),(true,14),(false,15),(true,16)] (.last 17 .nil))))) zK (J E (J E (J E (J E (V E BC (J E (J E ?_)))))))
 refine V E BC ?_
 refine AZ 0 hx5 E Af Aa E E E fun g3 m5 cp3 hv3=>?_
 refine J E (J E ?_)
 refine AZ 0 hx6 E Af Aa E E E fun g4 m6 cp4 hv4=>?_
 refine E6 ?_ ?_
 refine Aq E Ah E (AS (sz:=1) (enc:=AQ) 0 0 zV E hv3 hx5 E) ?_
 refine Aq E Ah E (AS (sz:=1) (enc:=AQ) 0 0 zV E hv4 hx6 E) ?_
 refine AZ 0 hx7 E Af Aa E E E fun g5 m7 cp5 hv5=>?_
 refine BB (sz:=1) (enc:=AQ) 0 hl4 zV E E E E E hv5 Aa (by simp[Value.oneCell']) zT ?_
 refine AZ 0 hx8 E Af Aa E E E fun g6 m8 cp6 hv6=>?_
 refine A4 ?_
 refine BB (sz:=1) (enc:=AQ) 0 hl5 zV E E E E E hv6 Aa (by simp[Value.oneCell']) zT ?_
 refine U ?_
 refine Az (α:=List UInt32) (fun x=>Ba n p2 a2 a4 (Ae n p1 p2 m1) x=some r) (fun x=>[(0,BW),(1,vI p1),(2,vI p2),(7,vI a4),(8,vI a2)]) (fun x=>AD 36 1 BW AQ x::H) ?_ (fun l6 D h=>?_)
 refine Y (J E (J E (V E BC (V E FH (U ?_)))))
 refine AL h E (fun hc5 h=>?_) fun hc5 h=>?_
 refine Y ?_
 obtain⟨x9,ex9,h⟩:=BG h
 refine J E (V E BC ?_)
 refine AX (u:=vI x9) E E (congrArg vI ex9) ?_
 refine U (AK ?_)
 refine SX.heap (SX.mono (A9 (α:=Nat×List UInt32×Int) (fun x=>CT n p2 a2 a4 (Ae n p1 p2 m1) x.1 (x.2.1,x.2.2)=some r) (fun x=>[(0,BW),(1,vI p1),(2,vI p2),(7,vI a4),(8,vI a2),(9,vI x.2.2)]) (fun x=>AD 36 1 BW AQ x.2.1::H) (fun x=>x.1) (fun x D h=>?_) (n,l5,x9) h) tL) (A5 [0] 1 E E E)
 obtain⟨m9,l7,a6⟩:=x
 dsimp only at h
 rcases m9 with _ | m9
 cases (show(none:Option _)=some r from h)
 replace h:CJ n p2 a2 a4 (Ae n p1 p2 m1) (CT n p2 a2 a4 (Ae n p1 p2 m1) m9) l7 a6=some r:=h
 unfold CJ at h
 try dsimp only
 refine AE (Y (J E (V E FH (U ?_))))
 refine AL h E (fun hc6 h=>?_) fun hc6 h=>?_
 refine AH (AI (AE (AK (AE (AE ?_)))))
 refine AB h fun x10 hx10 h=>?_
 refine AB h fun x11 hx11 h=>?_
 refine AB h fun y3 hy3 h=>?_
 refine Ai C2 [0] (BJ (Hp 0 9) (.last 9 (C0 [(false,10)]))) zK (J E (J E ?_))
 refine AZ 0 hx10 E Af Aa E E E fun g7 m10 cp7 hv7=>?_
 refine Aq E Ah E (AS (sz:=1) (enc:=AQ) 0 0 zV E hv7 hx10 E) ?_
 refine J E (J E (V E BC ?_))
 refine AZ 0 hx11 E Af Aa E E E fun g8 m11 cp8 hv8=>?_
 refine Aq E Ah E (AS (sz:=1) (enc:=AQ) 0 0 zV E hv8 hx11 E) ?_
 refine A4 (AN 0 F7 (By hy3) E (CO E E (U ?_)))
 refine AL h E (fun hc7 h=>?_) fun hc7 h=>?_
 refine Av (Ay (FK (Ay (BP (A0 ?_)))))
 exact Ak l7 h tL (A5 [0] 1 E E E)
 refine AH (AI ?_)
 refine AB h fun x12 hx12 h=>?_
 refine AB h fun x13 hx13 h=>?_
 refine AB h fun x14 hx14 h=>?_
 refine AB h fun l8 hl8 h=>?_
 refine AB h fun x15 hx15 h=>?_
 refine AB h fun l9 hl9 h=>?_
 refine Ai C2 [] (BJ [(true,0),(true,1),(true,2),(true,3),(true,4),(true,5),(true,6),(true,7),(true,8),(true,10),(true,11),(true,12)] (.alt 9 (BJ [(false,13),(true,14),(false,15),(true,16)] (.last 17 .nil)) (.cons (false,13) (BJ [(false,9),(true,14),(false,15),(true,16)] (.last 17 .nil))))) zK (J E (J E (J E (J E (V E BC (J E (J E ?_)))))))
 refine V E BC ?_
 refine AZ 0 hx12 E Af Aa E E E fun g9 m12 cp9 hv9=>?_
 refine J E (J E ?_)
 refine AZ 0 hx13 E Af Aa E E E fun g10 m13 cp10 hv10=>?_
 refine E6 ?_ ?_
 refine Aq E Ah E (AS (sz:=1) (enc:=AQ) 0 0 zV E hv9 hx12 E) ?_
 refine Aq E Ah E (AS (sz:=1) (enc:=AQ) 0 0 zV E hv10 hx13 E) ?_
 refine AZ 0 hx14 E Af Aa E E E fun g11 m14 cp11 hv11=>?_
 refine BB (sz:=1) (enc:=AQ) 0 hl8 zV E E E E E hv11 Aa (by simp[Value.oneCell']) zT ?_
 refine AZ 0 hx15 E Af Aa E E E fun g12 m15 cp12 hv12=>?_
 refine A4 ?_
 refine BB (sz:=1) (enc:=AQ) 0 hl9 zV E E E E E hv12 Aa (by simp[Value.oneCell']) zT ?_
 refine AT (Ao (AI (AJ ?_)))
 obtain⟨x16,ex16,h⟩:=BG h
 refine J E (V E BC ?_)
 refine AX (u:=vI x16) E E (congrArg vI ex16) ?_
 refine AT ?_
 exact Am (m9,l9,x16) h (Nat.lt_succ_self _) tL (A5 [0] 1 E E E)
 refine Aq E Ah E (AS (sz:=1) (enc:=AQ) 0 0 zV E hv10 hx13 E) ?_
 refine Aq E Ah E (AS (sz:=1) (enc:=AQ) 0 0 zV E hv9 hx12 E) ?_
 refine AZ 0 hx14 E Af Aa E E E fun g11 m14 cp11 hv11=>?_
 refine BB (sz:=1) (enc:=AQ) 0 hl8 zV E E E E E hv11 Aa (by simp[Value.oneCell']) zT ?_
 refine AZ 0 hx15 E Af Aa E E E fun g12 m15 cp12 hv12=>?_
 refine A4 ?_
 refine BB (sz:=1) (enc:=AQ) 0 hl9 zV E E E E E hv12 Aa (by simp[Value.oneCell']) zT ?_
 refine AT (Ao (AI (AJ ?_)))
 obtain⟨x16,ex16,h⟩:=BG h
 refine J E (V E BC ?_)
 refine AX (u:=vI x16) E E (congrArg vI ex16) ?_
 refine AT ?_
 exact Am (m9,l9,x16) h (Nat.lt_succ_self _) tL (A5 [0] 1 E E E)
 refine Av (Ay (BP (A0 ?_)))
 exact Ak l7 h tL (A5 [0] 1 E E E)
 refine AH ?_
 exact Ak l5 h tL (A5 [0] 1 E E E)
 unfold Ba at h
 try dsimp only
 refine Y (J E (J E (V E BC (V E FH (U ?_)))))
 refine AL h E (fun hc8 h=>?_) fun hc8 h=>?_
 refine Y ?_
 obtain⟨x17,ex17,h⟩:=BG h
 refine J E (V E Aw ?_)
 refine AX (u:=vI x17) E E (congrArg vI ex17) ?_
 refine U (AK ?_)
 refine SX.heap (SX.mono (A9 (α:=Nat×List UInt32×Int) (fun x=>CU p2 a2 a4 (Ae n p1 p2 m1) x.1 (x.2.1,x.2.2)=some r) (fun x=>[(0,BW),(1,vI p1),(2,vI p2),(7,vI a4),(8,vI a2),(10,vI x.2.2)]) (fun x=>AD 36 1 BW AQ x.2.1::H) (fun x=>x.1) (fun x D h=>?_) (n,l6,x17) h) tL) (A5 [0] 1 E E E)
 obtain⟨m16,l10,a7⟩:=x
 dsimp only at h
 rcases m16 with _ | m16
 cases (show(none:Option _)=some r from h)
 replace h:CK p2 a2 a4 (Ae n p1 p2 m1) (CU p2 a2 a4 (Ae n p1 p2 m1) m16) l10 a7=some r:=h
 unfold CK at h
 try dsimp only
 refine AE (Y (J E (J E (V E BL (U ?_)))))
 refine AL h E (fun hc9 h=>?_) fun hc9 h=>?_
 refine AH (AI (AE (AK (AE (AE ?_)))))
 refine AB h fun x18 hx18 h=>?_
 refine AB h fun x19 hx19 h=>?_
 refine AB h fun y4 hy4 h=>?_
 refine Ai C2 [0] (BJ (Hp 0 9) (.last 9 (C0 [(false,10)]))) zK (J E (J E ?_))
 refine AZ 0 hx18 E Af Aa E E E fun g13 m17 cp13 hv13=>?_
 refine Aq E Ah E (AS (sz:=1) (enc:=AQ) 0 0 zV E hv13 hx18 E) ?_
 refine J E (J E (V E BC ?_))
 refine AZ 0 hx19 E Af Aa E E E fun g14 m18 cp14 hv14=>?_
 refine Aq E Ah E (AS (sz:=1) (enc:=AQ) 0 0 zV E hv14 hx19 E) ?_
 refine A4 (AN 0 F7 (By hy4) E (CO E E (U ?_)))
 refine AL h E (fun hc10 h=>?_) fun hc10 h=>?_
 refine Av (Ay (FK (Ay (BP (A0 (Ao ?_))))))
 exact Ak (l10,a4) h tL (A5 [0] 1 E E E)
 refine AH (AI ?_)
 refine AB h fun x20 hx20 h=>?_
 refine AB h fun x21 hx21 h=>?_
 refine AB h fun x22 hx22 h=>?_
 refine AB h fun l11 hl11 h=>?_
 refine AB h fun x23 hx23 h=>?_
 refine AB h fun l12 hl12 h=>?_
 refine Ai C2 [] (BJ [(true,0),(true,1),(true,2),(true,3),(true,4),(true,5),(true,6),(true,7),(true,8),(true,10),(true,11),(true,12)] (.alt 9 (BJ [(false,13),(true,14),(false,15),(true,16)] (.last 17 .nil)) (.cons (false,13) (BJ [(false,9),(true,14),(false,15),(true,16)] (.last 17 .nil))))) zK (J E (J E (J E (J E (V E BC (J E (J E ?_)))))))
 refine V E BC ?_
 refine AZ 0 hx20 E Af Aa E E E fun g15 m19 cp15 hv15=>?_
 refine J E (J E ?_)
 refine AZ 0 hx21 E Af Aa E E E fun g16 m20 cp16 hv16=>?_
 refine E6 ?_ ?_
 refine Aq E Ah E (AS (sz:=1) (enc:=AQ) 0 0 zV E hv15 hx20 E) ?_
 refine Aq E Ah E (AS (sz:=1) (enc:=AQ) 0 0 zV E hv16 hx21 E) ?_
 refine AZ 0 hx22 E Af Aa E E E fun g17 m21 cp17 hv17=>?_
 refine BB (sz:=1) (enc:=AQ) 0 hl11 zV E E E E E hv17 Aa (by simp[Value.oneCell']) zT ?_
 refine AZ 0 hx23 E Af Aa E E E fun g18 m22 cp18 hv18=>?_
 refine A4 ?_
 refine BB (sz:=1) (enc:=AQ) 0 hl12 zV E E E E E hv18 Aa (by simp[Value.oneCell']) zT ?_
 refine AT (Ao (AI (AJ ?_)))
 obtain⟨x24,ex24,h⟩:=BG h
 refine J E (V E Aw ?_)
 refine AX (u:=vI x24) E E (congrArg vI ex24) ?_
 refine AT ?_
 exact Am (m16,l12,x24) h (Nat.lt_succ_self _) tL (A5 [0] 1 E E E)
 refine Aq E Ah E (AS (sz:=1) (enc:=AQ) 0 0 zV E hv16 hx21 E) ?_
 refine Aq E Ah E (AS (sz:=1) (enc:=AQ) 0 0 zV E hv15 hx20 E) ?_
 refine AZ 0 hx22 E Af Aa E E E fun g17 m21 cp17 hv17=>?_
 refine BB (sz:=1) (enc:=AQ) 0 hl11 zV E E E E E hv17 Aa (by simp[Value.oneCell']) zT ?_
 refine AZ 0 hx23 E Af Aa E E E fun g18 m22 cp18 hv18=>?_
 refine A4 ?_
 refine BB (sz:=1) (enc:=AQ) 0 hl12 zV E E E E E hv18 Aa (by simp[Value.oneCell']) zT ?_
 refine AT (Ao (AI (AJ ?_)))
 obtain⟨x24,ex24,h⟩:=BG h
 refine J E (V E Aw ?_)
 refine AX (u:=vI x24) E E (congrArg vI ex24) ?_
 refine AT ?_
 exact Am (m16,l12,x24) h (Nat.lt_succ_self _) tL (A5 [0] 1 E E E)
 refine Av (Ay (BP (A0 (Ao ?_))))
 exact Ak (l10,a4) h tL (A5 [0] 1 E E E)
 refine AH (Ao ?_)
 exact Ak (l6,a4) h tL (A5 [0] 1 E E E)
 refine Aq E Ah E (AS (sz:=1) (enc:=AQ) 0 0 zV E hv4 hx6 E) ?_
 refine Aq E Ah E (AS (sz:=1) (enc:=AQ) 0 0 zV E hv3 hx5 E) ?_
 refine AZ 0 hx7 E Af Aa E E E fun g5 m7 cp5 hv5=>?_
 refine BB (sz:=1) (enc:=AQ) 0 hl4 zV E E E E E hv5 Aa (by simp[Value.oneCell']) zT ?_
 refine AZ 0 hx8 E Af Aa E E E fun g6 m8 cp6 hv6=>?_
 refine A4 ?_
 refine BB (sz:=1) (enc:=AQ) 0 hl5 zV E E E E E hv6 Aa (by simp[Value.oneCell']) zT ?_
 refine U ?_
 refine Az (α:=List UInt32) (fun x=>Ba n p2 a2 a4 (Ae n p1 p2 m1) x=some r) (fun x=>[(0,BW),(1,vI p1),(2,vI p2),(7,vI a4),(8,vI a2)]) (fun x=>AD 36 1 BW AQ x::H) ?_ (fun l6 D h=>?_)
 refine Y (J E (J E (V E BC (V E FH (U ?_)))))
 refine AL h E (fun hc5 h=>?_) fun hc5 h=>?_
 refine Y ?_
 obtain⟨x9,ex9,h⟩:=BG h
 refine J E (V E BC ?_)
 refine AX (u:=vI x9) E E (congrArg vI ex9) ?_
 refine U (AK ?_)
 refine SX.heap (SX.mono (A9 (α:=Nat×List UInt32×Int) (fun x=>CT n p2 a2 a4 (Ae n p1 p2 m1) x.1 (x.2.1,x.2.2)=some r) (fun x=>[(0,BW),(1,vI p1),(2,vI p2),(7,vI a4),(8,vI a2),(9,vI x.2.2)]) (fun x=>AD 36 1 BW AQ x.2.1::H) (fun x=>x.1) (fun x D h=>?_) (n,l5,x9) h) tL) (A5 [0] 1 E E E)
 obtain⟨m9,l7,a6⟩:=x
 dsimp only at h
 rcases m9 with _ | m9
 cases (show(none:Option _)=some r from h)
 replace h:CJ n p2 a2 a4 (Ae n p1 p2 m1) (CT n p2 a2 a4 (Ae n p1 p2 m1) m9) l7 a6=some r:=h
 unfold CJ at h
 try dsimp only
 refine AE (Y (J E (V E FH (U ?_))))
 refine AL h E (fun hc6 h=>?_) fun hc6 h=>?_
 refine AH (AI (AE (AK (AE (AE ?_)))))
 refine AB h fun x10 hx10 h=>?_
 refine AB h fun x11 hx11 h=>?_
 refine AB h fun y3 hy3 h=>?_
 refine Ai C2 [0] (BJ (Hp 0 9) (.last 9 (C0 [(false,10)]))) zK (J E (J E ?_))
 refine AZ 0 hx10 E Af Aa E E E fun g7 m10 cp7 hv7=>?_
 refine Aq E Ah E (AS (sz:=1) (enc:=AQ) 0 0 zV E hv7 hx10 E) ?_
 refine J E (J E (V E BC ?_))
 refine AZ 0 hx11 E Af Aa E E E fun g8 m11 cp8 hv8=>?_
 refine Aq E Ah E (AS (sz:=1) (enc:=AQ) 0 0 zV E hv8 hx11 E) ?_
 refine A4 (AN 0 F7 (By hy3) E (CO E E (U ?_)))
 refine AL h E (fun hc7 h=>?_) fun hc7 h=>?_
 refine Av (Ay (FK (Ay (BP (A0 ?_)))))
 exact Ak l7 h tL (A5 [0] 1 E E E)
 refine AH (AI ?_)
 refine AB h fun x12 hx12 h=>?_
 refine AB h fun x13 hx13 h=>?_
 refine AB h fun x14 hx14 h=>?_
 refine AB h fun l8 hl8 h=>?_
 refine AB h fun x15 hx15 h=>?_
 refine AB h fun l9 hl9 h=>?_
 refine Ai C2 [] (BJ [(true,0),(true,1),(true,2),(true,3),(true,4),(true,5),(true,6),(true,7),(true,8),(true,10),(true,11),(true,12)] (.alt 9 (BJ [(false,13),(true,14),(false,15),(true,16)] (.last 17 .nil)) (.cons (false,13) (BJ [(false,9),(true,14),(false,15),(true,16)] (.last 17 .nil))))) zK (J E (J E (J E (J E (V E BC (J E (J E ?_)))))))
 refine V E BC ?_
 refine AZ 0 hx12 E Af Aa E E E fun g9 m12 cp9 hv9=>?_
 refine J E (J E ?_)
 refine AZ 0 hx13 E Af Aa E E E fun g10 m13 cp10 hv10=>?_
 refine E6 ?_ ?_
 refine Aq E Ah E (AS (sz:=1) (enc:=AQ) 0 0 zV E hv9 hx12 E) ?_
 refine Aq E Ah E (AS (sz:=1) (enc:=AQ) 0 0 zV E hv10 hx13 E) ?_
 refine AZ 0 hx14 E Af Aa E E E fun g11 m14 cp11 hv11=>?_
 refine BB (sz:=1) (enc:=AQ) 0 hl8 zV E E E E E hv11 Aa (by simp[Value.oneCell']) zT ?_
 refine AZ 0 hx15 E Af Aa E E E fun g12 m15 cp12 hv12=>?_
 refine A4 ?_
 refine BB (sz:=1) (enc:=AQ) 0 hl9 zV E E E E E hv12 Aa (by simp[Value.oneCell']) zT ?_
 refine AT (Ao (AI (AJ ?_)))
 obtain⟨x16,ex16,h⟩:=BG h
 refine J E (V E BC ?_)
 refine AX (u:=vI x16) E E (congrArg vI ex16) ?_
 refine AT ?_
 exact Am (m9,l9,x16) h (Nat.lt_succ_self _) tL (A5 [0] 1 E E E)
 refine Aq E Ah E (AS (sz:=1) (enc:=AQ) 0 0 zV E hv10 hx13 E) ?_
 refine Aq E Ah E (AS (sz:=1) (enc:=AQ) 0 0 zV E hv9 hx12 E) ?_
 refine AZ 0 hx14 E Af Aa E E E fun g11 m14 cp11 hv11=>?_
 refine BB (sz:=1) (enc:=AQ) 0 hl8 zV E E E E E hv11 Aa (by simp[Value.oneCell']) zT ?_
 refine AZ 0 hx15 E Af Aa E E E fun g12 m15 cp12 hv12=>?_
 refine A4 ?_
 refine BB (sz:=1) (enc:=AQ) 0 hl9 zV E E E E E hv12 Aa (by simp[Value.oneCell']) zT ?_
 refine AT (Ao (AI (AJ ?_)))
 obtain⟨x16,ex16,h⟩:=BG h
 refine J E (V E BC ?_)
 refine AX (u:=vI x16) E E (congrArg vI ex16) ?_
 refine AT ?_
 exact Am (m9,l9,x16) h (Nat.lt_succ_self _) tL (A5 [0] 1 E E E)
 refine Av (Ay (BP (A0 ?_)))
 exact Ak l7 h tL (A5 [0] 1 E E E)
 refine AH ?_
 exact Ak l5 h tL (A5 [0] 1 E E E)
 unfold Ba at h
 try dsimp only
 refine Y (J E (J E (V E BC (V E FH (U ?_)))))
 refine AL h E (fun hc8 h=>?_) fun hc8 h=>?_
 refine Y ?_
 obtain⟨x17,ex17,h⟩:=BG h
 refine J E (V E Aw ?_)
 refine AX (u:=vI x17) E E (congrArg vI ex17) ?_
 refine U (AK ?_)
 refine SX.heap (SX.mono (A9 (α:=Nat×List UInt32×Int) (fun x=>CU p2 a2 a4 (Ae n p1 p2 m1) x.1 (x.2.1,x.2.2)=some r) (fun x=>[(0,BW),(1,vI p1),(2,vI p2),(7,vI a4),(8,vI a2),(10,vI x.2.2)]) (fun x=>AD 36 1 BW AQ x.2.1::H) (fun x=>x.1) (fun x D h=>?_) (n,l6,x17) h) tL) (A5 [0] 1 E E E)
 obtain⟨m16,l10,a7⟩:=x
 dsimp only at h
 rcases m16 with _ | m16
 cases (show(none:Option _)=some r from h)
 replace h:CK p2 a2 a4 (Ae n p1 p2 m1) (CU p2 a2 a4 (Ae n p1 p2 m1) m16) l10 a7=some r:=h
 unfold CK at h
 try dsimp only
 refine AE (Y (J E (J E (V E BL (U ?_)))))
 refine AL h E (fun hc9 h=>?_) fun hc9 h=>?_
 refine AH (AI (AE (AK (AE (AE ?_)))))
 refine AB h fun x18 hx18 h=>?_
 refine AB h fun x19 hx19 h=>?_
 refine AB h fun y4 hy4 h=>?_
 refine Ai C2 [0] (BJ (Hp 0 9) (.last 9 (C0 [(false,10)]))) zK (J E (J E ?_))
 refine AZ 0 hx18 E Af Aa E E E fun g13 m17 cp13 hv13=>?_
 refine Aq E Ah E (AS (sz:=1) (enc:=AQ) 0 0 zV E hv13 hx18 E) ?_
 refine J E (J E (V E BC ?_))
 refine AZ 0 hx19 E Af Aa E E E fun g14 m18 cp14 hv14=>?_
 refine Aq E Ah E (AS (sz:=1) (enc:=AQ) 0 0 zV E hv14 hx19 E) ?_
 refine A4 (AN 0 F7 (By hy4) E (CO E E (U ?_)))
 refine AL h E (fun hc10 h=>?_) fun hc10 h=>?_
 refine Av (Ay (FK (Ay (BP (A0 (Ao ?_))))))
 exact Ak (l10,a4) h tL (A5 [0] 1 E E E)
 refine AH (AI ?_)
 refine AB h fun x20 hx20 h=>?_
 refine AB h fun x21 hx21 h=>?_
 refine AB h fun x22 hx22 h=>?_
 refine AB h fun l11 hl11 h=>?_
 refine AB h fun x23 hx23 h=>?_
 refine AB h fun l12 hl12 h=>?_
 refine Ai C2 [] (BJ [(true,0),(true,1),(true,2),(true,3),(true,4),(true,5),(true,6),(true,7),(true,8),(true,10),(true,11),(true,12)] (.alt 9 (BJ [(false,13),(true,14),(false,15),(true,16)] (.last 17 .nil)) (.cons (false,13) (BJ [(false,9),(true,14),(false,15),(true,16)] (.last 17 .nil))))) zK (J E (J E (J E (J E (V E BC (J E (J E ?_)))))))
 refine V E BC ?_
 refine AZ 0 hx20 E Af Aa E E E fun g15 m19 cp15 hv15=>?_
 refine J E (J E ?_)
 refine AZ 0 hx21 E Af Aa E E E fun g16 m20 cp16 hv16=>?_
 refine E6 ?_ ?_
 refine Aq E Ah E (AS (sz:=1) (enc:=AQ) 0 0 zV E hv15 hx20 E) ?_
 refine Aq E Ah E (AS (sz:=1) (enc:=AQ) 0 0 zV E hv16 hx21 E) ?_
 refine AZ 0 hx22 E Af Aa E E E fun g17 m21 cp17 hv17=>?_
 refine BB (sz:=1) (enc:=AQ) 0 hl11 zV E E E E E hv17 Aa (by simp[Value.oneCell']) zT ?_
 refine AZ 0 hx23 E Af Aa E E E fun g18 m22 cp18 hv18=>?_
 refine A4 ?_
 refine BB (sz:=1) (enc:=AQ) 0 hl12 zV E E E E E hv18 Aa (by simp[Value.oneCell']) zT ?_
 refine AT (Ao (AI (AJ ?_)))
 obtain⟨x24,ex24,h⟩:=BG h
 refine J E (V E Aw ?_)
 refine AX (u:=vI x24) E E (congrArg vI ex24) ?_
 refine AT ?_
 exact Am (m16,l12,x24) h (Nat.lt_succ_self _) tL (A5 [0] 1 E E E)
 refine Aq E Ah E (AS (sz:=1) (enc:=AQ) 0 0 zV E hv16 hx21 E) ?_
 refine Aq E Ah E (AS (sz:=1) (enc:=AQ) 0 0 zV E hv15 hx20 E) ?_
 refine AZ 0 hx22 E Af Aa E E E fun g17 m21 cp17 hv17=>?_
 refine BB (sz:=1) (enc:=AQ) 0 hl11 zV E E E E E hv17 Aa (by simp[Value.oneCell']) zT ?_
 refine AZ 0 hx23 E Af Aa E E E fun g18 m22 cp18 hv18=>?_
 refine A4 ?_
 refine BB (sz:=1) (enc:=AQ) 0 hl12 zV E E E E E hv18 Aa (by simp[Value.oneCell']) zT ?_
 refine AT (Ao (AI (AJ ?_)))
 obtain⟨x24,ex24,h⟩:=BG h
 refine J E (V E Aw ?_)
 refine AX (u:=vI x24) E E (congrArg vI ex24) ?_
 refine AT ?_
 exact Am (m16,l12,x24) h (Nat.lt_succ_self _) tL (A5 [0] 1 E E E)
 refine Av (Ay (BP (A0 (Ao ?_))))
 exact Ak (l10,a4) h tL (A5 [0] 1 E E E)
 refine AH (Ao ?_)
 exact Ak (l6,a4) h tL (A5 [0] 1 E E E)
 obtain⟨l3,a3⟩:=x
 dsimp only at h
 unfold B9 at h
 try dsimp only
 refine AJ ?_
 obtain⟨x25,ex25,h⟩:=BG h
 refine J E (V E Aw ?_)
 refine AX (u:=vI x25) E E (congrArg vI ex25) ?_
 refine AT ?_
 exact Am (m1,l3,a3,x25) h (Nat.lt_succ_self _) tL (A5 [0] 1 E E E)
 refine Av (Ay (BP (A0 ?_)))
 exact Ak l2 h tL (A5 [0] 1 E E E)
 unfold E0 at h
 try dsimp only
 refine Y (O E (U (AM ?_)))
 obtain rfl:=zI h
 exact AW [0] 1 E E E
def Dw(l3:List UInt32)(a1:Int):Option (Int×List UInt32):=
 some (a1,l3)
def Cx(l4:List UInt32)(a4:Int)(nx_f_slices_partitionEqualOrdered_uint32_l1:List UInt32×Int×Int→Option (Int×List UInt32))(a6:Int):Option (Int×List UInt32):=
 cond (decide (a6<a4))
 (
  Dw l4 a4)
 (
  (A1 l4 a6).bind fun x13=>
  (A1 l4 a4).bind fun x14=>
  (A1 l4 a4).bind fun x15=>
  (FX l4 a4 x13).bind fun l5=>
  (A1 l5 a6).bind fun x16=>
  (FX l5 a6 x14).bind fun l6=>
  ret (wI (a4+1)) fun x17=>
  ret (wI (a6-1)) fun x18=>
  nx_f_slices_partitionEqualOrdered_uint32_l1 (l6,x17,x18))
def Cn(p1:Int)(l4:List UInt32)(a4:Int)(nx_f_slices_partitionEqualOrdered_uint32_l1:List UInt32×Int×Int→Option (Int×List UInt32))(nx_f_slices_partitionEqualOrdered_uint32_l3:Int→Option (Int×List UInt32))(a7:Int):Option (Int×List UInt32):=
 (E3 (decide (a4≤a7)) ((A1 l4 p1).bind fun x10=>(A1 l4 a7).bind fun x11=>(Cr x10 x11).bind fun y3=>some (y3))).bind fun y4=>
 cond y4
 (
  ret (wI (a7-1)) fun x12=>
  nx_f_slices_partitionEqualOrdered_uint32_l3 x12)
 (
  Cx l4 a4 nx_f_slices_partitionEqualOrdered_uint32_l1 a7)
def Cz(p1:Int)(l4:List UInt32)(a4:Int)(nx_f_slices_partitionEqualOrdered_uint32_l1:List UInt32×Int×Int→Option (Int×List UInt32)):Nat→Int→Option (Int×List UInt32):=CH fun nx x=>Cn p1 l4 a4 nx_f_slices_partitionEqualOrdered_uint32_l1 nx x
def Cw(n:Nat)(p1:Int)(l4:List UInt32)(a3:Int)(nx_f_slices_partitionEqualOrdered_uint32_l1:List UInt32×Int×Int→Option (Int×List UInt32))(a4:Int):Option (Int×List UInt32):=
 Cz p1 l4 a4 nx_f_slices_partitionEqualOrdered_uint32_l1 n a3
def Cm(n:Nat)(p1:Int)(l4:List UInt32)(a3:Int)(nx_f_slices_partitionEqualOrdered_uint32_l1:List UInt32×Int×Int→Option (Int×List UInt32))(nx_f_slices_partitionEqualOrdered_uint32_l2:Int→Option (Int×List UInt32))(a5:Int):Option (Int×List UInt32):=
 (E3 (decide (a5≤a3)) ((A1 l4 p1).bind fun x7=>(A1 l4 a5).bind fun x8=>(Cr x7 x8).bind fun y1=>some (!y1))).bind fun y2=>
 cond y2
 (
  ret (wI (a5+1)) fun x9=>
  nx_f_slices_partitionEqualOrdered_uint32_l2 x9)
 (
  Cw n p1 l4 a3 nx_f_slices_partitionEqualOrdered_uint32_l1 a5)
def Cy(n:Nat)(p1:Int)(l4:List UInt32)(a3:Int)(nx_f_slices_partitionEqualOrdered_uint32_l1:List UInt32×Int×Int→Option (Int×List UInt32)):Nat→Int→Option (Int×List UInt32):=CH fun nx x=>Cm n p1 l4 a3 nx_f_slices_partitionEqualOrdered_uint32_l1 nx x
def Cl(n:Nat)(p1:Int)(nx_f_slices_partitionEqualOrdered_uint32_l1:List UInt32×Int×Int→Option (Int×List UInt32))(l4:List UInt32)(a2:Int)(a3:Int):Option (Int×List UInt32):=
 Cy n p1 l4 a3 nx_f_slices_partitionEqualOrdered_uint32_l1 n a2
def Ar(n:Nat)(p1:Int):Nat→(List UInt32×Int×Int)→Option (Int×List UInt32):=CH fun nx x=>Cl n p1 nx x.1 x.2.1 x.2.2
def EJ(n:Nat)(p0:List UInt32)(p1:Int)(p2:Int)(p3:Int):Option (Int×List UInt32):=
 (A1 p0 p3).bind fun x1=>
 (A1 p0 p1).bind fun x2=>
 (A1 p0 p1).bind fun x3=>
 (FX p0 p1 x1).bind fun l1=>
 (A1 l1 p3).bind fun x4=>
 (FX l1 p3 x2).bind fun l2=>
 ret (wI (p1+1)) fun x5=>
 ret (wI (p2-1)) fun x6=>
 Ar n p1 n (l2,x5,x6)
theorem Lf{n:Nat}{BW:Value}{p0:List UInt32}{p1 p2 p3:Int}{r:Int×List UInt32}(h:EJ n p0 p1 p2 p3=some r): zC K w0 242 [BW,vI p1,vI p2,vI p3] [AD 36 1 BW AQ p0] H (fun u M=>u=vI r.1∧M=[AD 36 1 BW AQ r.2]):=by
 unfold EJ at h
 refine Vf.enter Tryz.func242 rfl rfl ?_
 refine Y (O E (U (AE ?_)))
 refine AB h fun x1 hx1 h=>?_
 refine AB h fun x2 hx2 h=>?_
 refine AB h fun x3 hx3 h=>?_
 refine AB h fun l1 hl1 h=>?_
 refine AB h fun x4 hx4 h=>?_
 refine AB h fun l2 hl2 h=>?_
 refine Ai C2 [] (BJ [(true,0),(true,1),(true,2),(true,3),(true,4),(true,5),(true,6),(true,8),(true,9),(true,10)] (.alt 7 (BJ [(false,11),(true,12),(false,13),(true,14)] (.last 15 .nil)) (.cons (false,11) (BJ [(false,7),(true,12),(false,13),(true,14)] (.last 15 .nil))))) zK (J E (J E (J E (J E (J E (J E ?_))))))
 refine AZ 0 hx1 E Af Aa E E E fun g1 m1 cp1 hv1=>?_
 refine J E (J E ?_)
 refine AZ 0 hx2 E Af Aa E E E fun g2 m2 cp2 hv2=>?_
 refine E6 ?_ ?_
 refine Aq E Ah E (AS (sz:=1) (enc:=AQ) 0 0 zV E hv1 hx1 E) ?_
 refine Aq E Ah E (AS (sz:=1) (enc:=AQ) 0 0 zV E hv2 hx2 E) ?_
 refine AZ 0 hx3 E Af Aa E E E fun g3 m3 cp3 hv3=>?_
 refine BB (sz:=1) (enc:=AQ) 0 hl1 zV E E E E E hv3 Aa (by simp[Value.oneCell']) zT ?_
 refine AZ 0 hx4 E Af Aa E E E fun g4 m4 cp4 hv4=>?_
 refine A4 ?_
 refine BB (sz:=1) (enc:=AQ) 0 hl2 zV E E E E E hv4 Aa (by simp[Value.oneCell']) zT ?_
 refine U (Y ?_)
 obtain⟨x5,ex5,h⟩:=BG h
 obtain⟨x6,ex6,h⟩:=BG h
 refine J E (V E Aw (J E (V E BC ?_)))
 refine AX (u:=vI x5) E E (congrArg vI ex5) ?_
 refine AX (u:=vI x6) E E (congrArg vI ex6) ?_
 refine U ?_
 refine Az (α:=List UInt32×Int) (fun x=>Dw x.1 x.2=some r) (fun x=>[(0,BW),(9,vI x.2)]) (fun x=>AD 36 1 BW AQ x.1::H) ?_ (fun x D h=>?_)
 refine AK ?_
 refine SX.heap (SX.mono (A9 (α:=Nat×List UInt32×Int×Int) (fun x=>Ar n p1 x.1 (x.2.1,x.2.2.1,x.2.2.2)=some r) (fun x=>[(0,BW),(1,vI p1),(9,vI x.2.2.1),(10,vI x.2.2.2)]) (fun x=>AD 36 1 BW AQ x.2.1::H) (fun x=>x.1) (fun x D h=>?_) (n,l2,x5,x6) h) tL) (A5 [0] 1 E E E)
 obtain⟨m5,l4,a2,a3⟩:=x
 dsimp only at h
 rcases m5 with _ | m5
 cases (show(none:Option _)=some r from h)
 replace h:Cl n p1 (Ar n p1 m5) l4 a2 a3=some r:=h
 unfold Cl at h
 try dsimp only
 refine AK ?_
 refine Az (α:=Int) (fun x=>Cw n p1 l4 a3 (Ar n p1 m5) x=some r) (fun x=>[(0,BW),(1,vI p1),(9,vI x),(10,vI a3)]) (fun x=>AD 36 1 BW AQ l4::H) ?_ (fun a4 D h=>?_)
 refine AK ?_
 refine SX.heap (SX.mono (A9 (α:=Nat×Int) (fun x=>Cy n p1 l4 a3 (Ar n p1 m5) x.1 x.2=some r) (fun x=>[(0,BW),(1,vI p1),(9,vI x.2),(10,vI a3)]) (fun x=>AD 36 1 BW AQ l4::H) (fun x=>x.1) (fun x D h=>?_) (n,a2) h) tL) (A5 [0] 1 E E E)
 obtain⟨m6,a5⟩:=x
 dsimp only at h
 rcases m6 with _ | m6
 cases (show(none:Option _)=some r from h)
 replace h:Cm n p1 l4 a3 (Ar n p1 m5) (Cy n p1 l4 a3 (Ar n p1 m5) m6) a5=some r:=h
 unfold Cm at h
 try dsimp only
 refine AE (AE ?_)
 refine AB h fun y2 hy2 h=>?_
 refine Ai C2 [0] (C0 [(true,0),(true,1),(true,2),(true,3),(true,4),(true,5),(true,6),(true,7),(true,8),(true,9),(true,10),(true,11),(false,12),(false,13),(false,14)]) zK (J E (J E (V E Ex (J E ?_))))
 refine Du 32 11 43 hy2 E (fun hb hg1 k=>?_) (fun hb k=>?_) ?_
 obtain⟨x7,hx7,hg1⟩:=Da hg1
 obtain⟨x8,hx8,hg1⟩:=Da hg1
 obtain⟨y1,hy1,hg1⟩:=Da hg1
 obtain rfl:=zI hg1
 refine J E (J E ?_)
 refine AZ 0 hx7 E Af Aa E E E fun g5 m7 cp5 hv5=>?_
 refine Aq E Ah E (AS (sz:=1) (enc:=AQ) 0 0 zV E hv5 hx7 E) ?_
 refine J E (J E ?_)
 refine AZ 0 hx8 E Af Aa E E E fun g6 m8 cp6 hv6=>?_
 refine Aq E Ah E (AS (sz:=1) (enc:=AQ) 0 0 zV E hv6 hx8 E) ?_
 refine BT 0 F7 (By hy1) E ⟨⟨0,E⟩,zT⟩ (CO E E (An E E E ?_))
 exact k.mono tL
 refine AA E (AA E (AA E (AA E (AA E (AA E (AA E (AA E ?_)))))))
 refine AA E (AA E (An E E E ?_))
 exact k.mono tL
 refine U ?_
 refine AL h E (fun hc1 h=>?_) fun hc1 h=>?_
 refine AH (AI (AK (AJ ?_)))
 obtain⟨x9,ex9,h⟩:=BG h
 refine J E (V E Aw ?_)
 refine AX (u:=vI x9) E E (congrArg vI ex9) ?_
 refine AT (Ao ?_)
 exact Am (m6,x9) h (Nat.lt_succ_self _) tL (A5 [0] 1 E E E)
 refine Av (Ay (BP (A0 ?_)))
 exact Ak a5 h tL (A5 [0] 1 E E E)
 unfold Cw at h
 try dsimp only
 refine Az (α:=Int) (fun x=>Cx l4 a4 (Ar n p1 m5) x=some r) (fun x=>[(0,BW),(1,vI p1),(9,vI a4),(10,vI x)]) (fun x=>AD 36 1 BW AQ l4::H) ?_ (fun a6 D h=>?_)
 refine AK ?_
 refine SX.heap (SX.mono (A9 (α:=Nat×Int) (fun x=>Cz p1 l4 a4 (Ar n p1 m5) x.1 x.2=some r) (fun x=>[(0,BW),(1,vI p1),(9,vI a4),(10,vI x.2)]) (fun x=>AD 36 1 BW AQ l4::H) (fun x=>x.1) (fun x D h=>?_) (n,a3) h) tL) (A5 [0] 1 E E E)
 obtain⟨m9,a7⟩:=x
 dsimp only at h
 rcases m9 with _ | m9
 cases (show(none:Option _)=some r from h)
 replace h:Cn p1 l4 a4 (Ar n p1 m5) (Cz p1 l4 a4 (Ar n p1 m5) m9) a7=some r:=h
 unfold Cn at h
 try dsimp only
 refine AE (AE ?_)
 refine AB h fun y4 hy4 h=>?_
 refine Ai C2 [0] (C0 [(true,0),(true,1),(true,2),(true,3),(true,4),(true,5),(true,6),(true,7),(true,8),(true,9),(true,10),(true,11),(false,12),(false,13)]) zK (J E (J E (V E Ex (J E ?_))))
 refine Du 49 10 59 hy4 E (fun hb hg2 k=>?_) (fun hb k=>?_) ?_
 obtain⟨x10,hx10,hg2⟩:=Da hg2
 obtain⟨x11,hx11,hg2⟩:=Da hg2
 obtain⟨y3,hy3,hg2⟩:=Da hg2
 obtain rfl:=zI hg2
 refine J E (J E ?_)
 refine AZ 0 hx10 E Af Aa E E E fun g7 m10 cp7 hv7=>?_
 refine Aq E Ah E (AS (sz:=1) (enc:=AQ) 0 0 zV E hv7 hx10 E) ?_
 refine J E (J E ?_)
 refine AZ 0 hx11 E Af Aa E E E fun g8 m11 cp8 hv8=>?_
 refine Aq E Ah E (AS (sz:=1) (enc:=AQ) 0 0 zV E hv8 hx11 E) ?_
 refine BT 0 F7 (By hy3) E ⟨⟨0,E⟩,zT⟩ (An E E E ?_)
 exact k.mono tL
 refine AA E (AA E (AA E (AA E (AA E (AA E (AA E (AA E ?_)))))))
 refine AA E (An E E E ?_)
 exact k.mono tL
 refine U ?_
 refine AL h E (fun hc2 h=>?_) fun hc2 h=>?_
 refine AH (AI (AK (AJ ?_)))
 obtain⟨x12,ex12,h⟩:=BG h
 refine J E (V E BC ?_)
 refine AX (u:=vI x12) E E (congrArg vI ex12) ?_
 refine AT (Ao ?_)
 exact Am (m9,x12) h (Nat.lt_succ_self _) tL (A5 [0] 1 E E E)
 refine Av (Ay (BP (A0 ?_)))
 exact Ak a7 h tL (A5 [0] 1 E E E)
 unfold Cx at h
 try dsimp only
 refine AE (Y (J E (J E (V E C8 (U ?_)))))
 refine AL h E (fun hc3 h=>?_) fun hc3 h=>?_
 refine Av (Ay (FK (BP (A0 ?_))))
 exact Ak (l4,a4) h tL (A5 [0] 1 E E E)
 refine AH (AI (AE ?_))
 refine AB h fun x13 hx13 h=>?_
 refine AB h fun x14 hx14 h=>?_
 refine AB h fun x15 hx15 h=>?_
 refine AB h fun l5 hl5 h=>?_
 refine AB h fun x16 hx16 h=>?_
 refine AB h fun l6 hl6 h=>?_
 refine Ai C2 [] (BJ [(true,0),(true,1),(true,2),(true,3),(true,4),(true,5),(true,6),(true,8),(true,9),(true,10)] (.alt 7 (BJ [(false,11),(true,12),(false,13),(true,14)] (.last 15 .nil)) (.cons (false,11) (BJ [(false,7),(true,12),(false,13),(true,14)] (.last 15 .nil))))) zK (J E (J E (J E (J E (J E (J E ?_))))))
 refine AZ 0 hx13 E Af Aa E E E fun g9 m12 cp9 hv9=>?_
 refine J E (J E ?_)
 refine AZ 0 hx14 E Af Aa E E E fun g10 m13 cp10 hv10=>?_
 refine E6 ?_ ?_
 refine Aq E Ah E (AS (sz:=1) (enc:=AQ) 0 0 zV E hv9 hx13 E) ?_
 refine Aq E Ah E (AS (sz:=1) (enc:=AQ) 0 0 zV E hv10 hx14 E) ?_
 refine AZ 0 hx15 E Af Aa E E E fun g11 m14 cp11 hv11=>?_
 refine BB (sz:=1) (enc:=AQ) 0 hl5 zV E E E E E hv11 Aa (by simp[Value.oneCell']) zT ?_
 refine AZ 0 hx16 E Af Aa E E E fun g12 m15 cp12 hv12=>?_
 refine A4 ?_
 refine BB (sz:=1) (enc:=AQ) 0 hl6 zV E E E E E hv12 Aa (by simp[Value.oneCell']) zT ?_
 refine U (Y ?_)
 obtain⟨x17,ex17,h⟩:=BG h
 refine J E (V E Aw ?_)
 refine AX (u:=vI x17) E E (congrArg vI ex17) ?_
 refine U (AJ ?_)
 obtain⟨x18,ex18,h⟩:=BG h
 refine J E (V E BC ?_)
 refine AX (u:=vI x18) E E (congrArg vI ex18) ?_
 refine AT (Ao ?_)
 exact Am (m5,l6,x17,x18) h (Nat.lt_succ_self _) tL (A5 [0] 1 E E E)
 refine Aq E Ah E (AS (sz:=1) (enc:=AQ) 0 0 zV E hv10 hx14 E) ?_
 refine Aq E Ah E (AS (sz:=1) (enc:=AQ) 0 0 zV E hv9 hx13 E) ?_
 refine AZ 0 hx15 E Af Aa E E E fun g11 m14 cp11 hv11=>?_
 refine BB (sz:=1) (enc:=AQ) 0 hl5 zV E E E E E hv11 Aa (by simp[Value.oneCell']) zT ?_
 refine AZ 0 hx16 E Af Aa E E E fun g12 m15 cp12 hv12=>?_
 refine A4 ?_
 refine BB (sz:=1) (enc:=AQ) 0 hl6 zV E E E E E hv12 Aa (by simp[Value.oneCell']) zT ?_
 refine U (Y ?_)
 obtain⟨x17,ex17,h⟩:=BG h
 refine J E (V E Aw ?_)
 refine AX (u:=vI x17) E E (congrArg vI ex17) ?_
 refine U (AJ ?_)
 obtain⟨x18,ex18,h⟩:=BG h
 refine J E (V E BC ?_)
 refine AX (u:=vI x18) E E (congrArg vI ex18) ?_
 refine AT (Ao ?_)
 exact Am (m5,l6,x17,x18) h (Nat.lt_succ_self _) tL (A5 [0] 1 E E E)
 obtain⟨l3,a1⟩:=x
 dsimp only at h
 unfold Dw at h
 try dsimp only
 refine Y (J E (O E (U (AM ?_))))
 obtain rfl:=zI h
 exact AW [0] 1 E E E
 refine Aq E Ah E (AS (sz:=1) (enc:=AQ) 0 0 zV E hv2 hx2 E) ?_
 refine Aq E Ah E (AS (sz:=1) (enc:=AQ) 0 0 zV E hv1 hx1 E) ?_
 refine AZ 0 hx3 E Af Aa E E E fun g3 m3 cp3 hv3=>?_
 refine BB (sz:=1) (enc:=AQ) 0 hl1 zV E E E E E hv3 Aa (by simp[Value.oneCell']) zT ?_
 refine AZ 0 hx4 E Af Aa E E E fun g4 m4 cp4 hv4=>?_
 refine A4 ?_
 refine BB (sz:=1) (enc:=AQ) 0 hl2 zV E E E E E hv4 Aa (by simp[Value.oneCell']) zT ?_
 refine U (Y ?_)
 obtain⟨x5,ex5,h⟩:=BG h
 obtain⟨x6,ex6,h⟩:=BG h
 refine J E (V E Aw (J E (V E BC ?_)))
 refine AX (u:=vI x5) E E (congrArg vI ex5) ?_
 refine AX (u:=vI x6) E E (congrArg vI ex6) ?_
 refine U ?_
 refine Az (α:=List UInt32×Int) (fun x=>Dw x.1 x.2=some r) (fun x=>[(0,BW),(9,vI x.2)]) (fun x=>AD 36 1 BW AQ x.1::H) ?_ (fun x D h=>?_)
 refine AK ?_
 refine SX.heap (SX.mono (A9 (α:=Nat×List UInt32×Int×Int) (fun x=>Ar n p1 x.1 (x.2.1,x.2.2.1,x.2.2.2)=some r) (fun x=>[(0,BW),(1,vI p1),(9,vI x.2.2.1),(10,vI x.2.2.2)]) (fun x=>AD 36 1 BW AQ x.2.1::H) (fun x=>x.1) (fun x D h=>?_) (n,l2,x5,x6) h) tL) (A5 [0] 1 E E E)
 obtain⟨m5,l4,a2,a3⟩:=x
 dsimp only at h
 rcases m5 with _ | m5
 cases (show(none:Option _)=some r from h)
 replace h:Cl n p1 (Ar n p1 m5) l4 a2 a3=some r:=h
 unfold Cl at h
 try dsimp only
 refine AK ?_
 refine Az (α:=Int) (fun x=>Cw n p1 l4 a3 (Ar n p1 m5) x=some r) (fun x=>[(0,BW),(1,vI p1),(9,vI x),(10,vI a3)]) (fun x=>AD 36 1 BW AQ l4::H) ?_ (fun a4 D h=>?_)
 refine AK ?_
 refine SX.heap (SX.mono (A9 (α:=Nat×Int) (fun x=>Cy n p1 l4 a3 (Ar n p1 m5) x.1 x.2=some r) (fun x=>[(0,BW),(1,vI p1),(9,vI x.2),(10,vI a3)]) (fun x=>AD 36 1 BW AQ l4::H) (fun x=>x.1) (fun x D h=>?_) (n,a2) h) tL) (A5 [0] 1 E E E)
 obtain⟨m6,a5⟩:=x
 dsimp only at h
 rcases m6 with _ | m6
 cases (show(none:Option _)=some r from h)
 replace h:Cm n p1 l4 a3 (Ar n p1 m5) (Cy n p1 l4 a3 (Ar n p1 m5) m6) a5=some r:=h
 unfold Cm at h
 try dsimp only
 refine AE (AE ?_)
 refine AB h fun y2 hy2 h=>?_
 refine Ai C2 [0] (C0 [(true,0),(true,1),(true,2),(true,3),(true,4),(true,5),(true,6),(true,7),(true,8),(true,9),(true,10),(true,11),(false,12),(false,13),(false,14)]) zK (J E (J E (V E Ex (J E ?_))))
 refine Du 32 11 43 hy2 E (fun hb hg1 k=>?_) (fun hb k=>?_) ?_
 obtain⟨x7,hx7,hg1⟩:=Da hg1
 obtain⟨x8,hx8,hg1⟩:=Da hg1
 obtain⟨y1,hy1,hg1⟩:=Da hg1
 obtain rfl:=zI hg1
 refine J E (J E ?_)
 refine AZ 0 hx7 E Af Aa E E E fun g5 m7 cp5 hv5=>?_
 refine Aq E Ah E (AS (sz:=1) (enc:=AQ) 0 0 zV E hv5 hx7 E) ?_
 refine J E (J E ?_)
 refine AZ 0 hx8 E Af Aa E E E fun g6 m8 cp6 hv6=>?_
 refine Aq E Ah E (AS (sz:=1) (enc:=AQ) 0 0 zV E hv6 hx8 E) ?_
 refine BT 0 F7 (By hy1) E ⟨⟨0,E⟩,zT⟩ (CO E E (An E E E ?_))
 exact k.mono tL
 refine AA E (AA E (AA E (AA E (AA E (AA E (AA E (AA E ?_)))))))
 refine AA E (AA E (An E E E ?_))
 exact k.mono tL
 refine U ?_
 refine AL h E (fun hc1 h=>?_) fun hc1 h=>?_
 refine AH (AI (AK (AJ ?_)))
 obtain⟨x9,ex9,h⟩:=BG h
 refine J E (V E Aw ?_)
 refine AX (u:=vI x9) E E (congrArg vI ex9) ?_
 refine AT (Ao ?_)
 exact Am (m6,x9) h (Nat.lt_succ_self _) tL (A5 [0] 1 E E E)
 refine Av (Ay (BP (A0 ?_)))
 exact Ak a5 h tL (A5 [0] 1 E E E)
 unfold Cw at h
 try dsimp only
 refine Az (α:=Int) (fun x=>Cx l4 a4 (Ar n p1 m5) x=some r) (fun x=>[(0,BW),(1,vI p1),(9,vI a4),(10,vI x)]) (fun x=>AD 36 1 BW AQ l4::H) ?_ (fun a6 D h=>?_)
 refine AK ?_
 refine SX.heap (SX.mono (A9 (α:=Nat×Int) (fun x=>Cz p1 l4 a4 (Ar n p1 m5) x.1 x.2=some r) (fun x=>[(0,BW),(1,vI p1),(9,vI a4),(10,vI x.2)]) (fun x=>AD 36 1 BW AQ l4::H) (fun x=>x.1) (fun x D h=>?_) (n,a3) h) tL) (A5 [0] 1 E E E)
 obtain⟨m9,a7⟩:=x
 dsimp only at h
 rcases m9 with _ | m9
 cases (show(none:Option _)=some r from h)
 replace h:Cn p1 l4 a4 (Ar n p1 m5) (Cz p1 l4 a4 (Ar n p1 m5) m9) a7=some r:=h
 unfold Cn at h
 try dsimp only
 refine AE (AE ?_)
 refine AB h fun y4 hy4 h=>?_
 refine Ai C2 [0] (C0 [(true,0),(true,1),(true,2),(true,3),(true,4),(true,5),(true,6),(true,7),(true,8),(true,9),(true,10),(true,11),(false,12),(false,13)]) zK (J E (J E (V E Ex (J E ?_))))
 refine Du 49 10 59 hy4 E (fun hb hg2 k=>?_) (fun hb k=>?_) ?_
 obtain⟨x10,hx10,hg2⟩:=Da hg2
 obtain⟨x11,hx11,hg2⟩:=Da hg2
 obtain⟨y3,hy3,hg2⟩:=Da hg2
 obtain rfl:=zI hg2
 refine J E (J E ?_)
 refine AZ 0 hx10 E Af Aa E E E fun g7 m10 cp7 hv7=>?_
 refine Aq E Ah E (AS (sz:=1) (enc:=AQ) 0 0 zV E hv7 hx10 E) ?_
 refine J E (J E ?_)
 refine AZ 0 hx11 E Af Aa E E E fun g8 m11 cp8 hv8=>?_
 refine Aq E Ah E (AS (sz:=1) (enc:=AQ) 0 0 zV E hv8 hx11 E) ?_
 refine BT 0 F7 (By hy3) E ⟨⟨0,E⟩,zT⟩ (An E E E ?_)
 exact k.mono tL
 refine AA E (AA E (AA E (AA E (AA E (AA E (AA E (AA E ?_)))))))
 refine AA E (An E E E ?_)
 exact k.mono tL
 refine U ?_
 refine AL h E (fun hc2 h=>?_) fun hc2 h=>?_
 refine AH (AI (AK (AJ ?_)))
 obtain⟨x12,ex12,h⟩:=BG h
 refine J E (V E BC ?_)
 refine AX (u:=vI x12) E E (congrArg vI ex12) ?_
 refine AT (Ao ?_)
 exact Am (m9,x12) h (Nat.lt_succ_self _) tL (A5 [0] 1 E E E)
 refine Av (Ay (BP (A0 ?_)))
 exact Ak a7 h tL (A5 [0] 1 E E E)
 unfold Cx at h
 try dsimp only
 refine AE (Y (J E (J E (V E C8 (U ?_)))))
 refine AL h E (fun hc3 h=>?_) fun hc3 h=>?_
 refine Av (Ay (FK (BP (A0 ?_))))
 exact Ak (l4,a4) h tL (A5 [0] 1 E E E)
 refine AH (AI (AE ?_))
 refine AB h fun x13 hx13 h=>?_
 refine AB h fun x14 hx14 h=>?_
 refine AB h fun x15 hx15 h=>?_
 refine AB h fun l5 hl5 h=>?_
 refine AB h fun x16 hx16 h=>?_
 refine AB h fun l6 hl6 h=>?_
 refine Ai C2 [] (BJ [(true,0),(true,1),(true,2),(true,3),(true,4),(true,5),(true,6),(true,8),(true,9),(true,10)] (.alt 7 (BJ [(false,11),(true,12),(false,13),(true,14)] (.last 15 .nil)) (.cons (false,11) (BJ [(false,7),(true,12),(false,13),(true,14)] (.last 15 .nil))))) zK (J E (J E (J E (J E (J E (J E ?_))))))
 refine AZ 0 hx13 E Af Aa E E E fun g9 m12 cp9 hv9=>?_
 refine J E (J E ?_)
 refine AZ 0 hx14 E Af Aa E E E fun g10 m13 cp10 hv10=>?_
 refine E6 ?_ ?_
 refine Aq E Ah E (AS (sz:=1) (enc:=AQ) 0 0 zV E hv9 hx13 E) ?_
 refine Aq E Ah E (AS (sz:=1) (enc:=AQ) 0 0 zV E hv10 hx14 E) ?_
 refine AZ 0 hx15 E Af Aa E E E fun g11 m14 cp11 hv11=>?_
 refine BB (sz:=1) (enc:=AQ) 0 hl5 zV E E E E E hv11 Aa (by simp[Value.oneCell']) zT ?_
 refine AZ 0 hx16 E Af Aa E E E fun g12 m15 cp12 hv12=>?_
 refine A4 ?_
 refine BB (sz:=1) (enc:=AQ) 0 hl6 zV E E E E E hv12 Aa (by simp[Value.oneCell']) zT ?_
 refine U (Y ?_)
 obtain⟨x17,ex17,h⟩:=BG h
 refine J E (V E Aw ?_)
 refine AX (u:=vI x17) E E (congrArg vI ex17) ?_
 refine U (AJ ?_)
 obtain⟨x18,ex18,h⟩:=BG h
 refine J E (V E BC ?_)
 refine AX (u:=vI x18) E E (congrArg vI ex18) ?_
 refine AT (Ao ?_)
 exact Am (m5,l6,x17,x18) h (Nat.lt_succ_self _) tL (A5 [0] 1 E E E)
 refine Aq E Ah E (AS (sz:=1) (enc:=AQ) 0 0 zV E hv10 hx14 E) ?_
 refine Aq E Ah E (AS (sz:=1) (enc:=AQ) 0 0 zV E hv9 hx13 E) ?_
 refine AZ 0 hx15 E Af Aa E E E fun g11 m14 cp11 hv11=>?_
 refine BB (sz:=1) (enc:=AQ) 0 hl5 zV E E E E E hv11 Aa (by simp[Value.oneCell']) zT ?_
 refine AZ 0 hx16 E Af Aa E E E fun g12 m15 cp12 hv12=>?_
 refine A4 ?_
 refine BB (sz:=1) (enc:=AQ) 0 hl6 zV E E E E E hv12 Aa (by simp[Value.oneCell']) zT ?_
 refine U (Y ?_)
 obtain⟨x17,ex17,h⟩:=BG h
 refine J E (V E Aw ?_)
 refine AX (u:=vI x17) E E (congrArg vI ex17) ?_
 refine U (AJ ?_)
 obtain⟨x18,ex18,h⟩:=BG h
 refine J E (V E BC ?_)
 refine AX (u:=vI x18) E E (congrArg vI ex18) ?_
 refine AT (Ao ?_)
 exact Am (m5,l6,x17,x18) h (Nat.lt_succ_self _) tL (A5 [0] 1 E E E)
 obtain⟨l3,a1⟩:=x
 dsimp only at h
 unfold Dw at h
 try dsimp only
 refine Y (J E (O E (U (AM ?_))))
 obtain rfl:=zI h
 exact AW [0] 1 E E E
def CL(p1:Int)(l7:List UInt32)(a5:Int):Option (Int×Bool×List UInt32):=
 (A1 l7 p1).bind fun x35=>
 (A1 l7 a5).bind fun x36=>
 (A1 l7 a5).bind fun x37=>
 (FX l7 a5 x35).bind fun l11=>
 (A1 l11 p1).bind fun x38=>
 (FX l11 p1 x36).bind fun l12=>
 some (a5,false,l12)
def B6(p1:Int)(l8:List UInt32)(a8:Int)(nx_f_slices_partitionOrdered_uint32_l3:List UInt32×Int×Int→Option (Int×Bool×List UInt32))(a10:Int):Option (Int×Bool×List UInt32):=
 cond (decide (a10<a8))
 (
  CL p1 l8 a10)
 (
  (A1 l8 a10).bind fun x29=>
  (A1 l8 a8).bind fun x30=>
  (A1 l8 a8).bind fun x31=>
  (FX l8 a8 x29).bind fun l9=>
  (A1 l9 a10).bind fun x32=>
  (FX l9 a10 x30).bind fun l10=>
  ret (wI (a8+1)) fun x33=>
  ret (wI (a10-1)) fun x34=>
  nx_f_slices_partitionOrdered_uint32_l3 (l10,x33,x34))
def B1(p1:Int)(l8:List UInt32)(a8:Int)(nx_f_slices_partitionOrdered_uint32_l3:List UInt32×Int×Int→Option (Int×Bool×List UInt32))(nx_f_slices_partitionOrdered_uint32_l5:Int→Option (Int×Bool×List UInt32))(a11:Int):Option (Int×Bool×List UInt32):=
 (E3 (decide (a8≤a11)) ((A1 l8 a11).bind fun x26=>(A1 l8 p1).bind fun x27=>(Cr x26 x27).bind fun y7=>some (!y7))).bind fun y8=>
 cond y8
 (
  ret (wI (a11-1)) fun x28=>
  nx_f_slices_partitionOrdered_uint32_l5 x28)
 (
  B6 p1 l8 a8 nx_f_slices_partitionOrdered_uint32_l3 a11)
def B8(p1:Int)(l8:List UInt32)(a8:Int)(nx_f_slices_partitionOrdered_uint32_l3:List UInt32×Int×Int→Option (Int×Bool×List UInt32)):Nat→Int→Option (Int×Bool×List UInt32):=CH fun nx x=>B1 p1 l8 a8 nx_f_slices_partitionOrdered_uint32_l3 nx x
def B5(n:Nat)(p1:Int)(l8:List UInt32)(a7:Int)(nx_f_slices_partitionOrdered_uint32_l3:List UInt32×Int×Int→Option (Int×Bool×List UInt32))(a8:Int):Option (Int×Bool×List UInt32):=
 B8 p1 l8 a8 nx_f_slices_partitionOrdered_uint32_l3 n a7
def B0(n:Nat)(p1:Int)(l8:List UInt32)(a7:Int)(nx_f_slices_partitionOrdered_uint32_l3:List UInt32×Int×Int→Option (Int×Bool×List UInt32))(nx_f_slices_partitionOrdered_uint32_l4:Int→Option (Int×Bool×List UInt32))(a9:Int):Option (Int×Bool×List UInt32):=
 (E3 (decide (a9≤a7)) ((A1 l8 a9).bind fun x23=>(A1 l8 p1).bind fun x24=>(Cr x23 x24).bind fun y5=>some (y5))).bind fun y6=>
 cond y6
 (
  ret (wI (a9+1)) fun x25=>
  nx_f_slices_partitionOrdered_uint32_l4 x25)
 (
  B5 n p1 l8 a7 nx_f_slices_partitionOrdered_uint32_l3 a9)
def B7(n:Nat)(p1:Int)(l8:List UInt32)(a7:Int)(nx_f_slices_partitionOrdered_uint32_l3:List UInt32×Int×Int→Option (Int×Bool×List UInt32)):Nat→Int→Option (Int×Bool×List UInt32):=CH fun nx x=>B0 n p1 l8 a7 nx_f_slices_partitionOrdered_uint32_l3 nx x
def Bz(n:Nat)(p1:Int)(nx_f_slices_partitionOrdered_uint32_l3:List UInt32×Int×Int→Option (Int×Bool×List UInt32))(l8:List UInt32)(a6:Int)(a7:Int):Option (Int×Bool×List UInt32):=
 B7 n p1 l8 a7 nx_f_slices_partitionOrdered_uint32_l3 n a6
def AU(n:Nat)(p1:Int):Nat→(List UInt32×Int×Int)→Option (Int×Bool×List UInt32):=CH fun nx x=>Bz n p1 nx x.1 x.2.1 x.2.2
def DQ(n:Nat)(p1:Int)(l2:List UInt32)(a1:Int)(a3:Int):Option (Int×Bool×List UInt32):=
 cond (decide (a3<a1))
 (
  (A1 l2 p1).bind fun x13=>
  (A1 l2 a3).bind fun x14=>
  (A1 l2 a3).bind fun x15=>
  (FX l2 a3 x13).bind fun l3=>
  (A1 l3 p1).bind fun x16=>
  (FX l3 p1 x14).bind fun l4=>
  some (a3,true,l4))
 (
  (A1 l2 a3).bind fun x17=>
  (A1 l2 a1).bind fun x18=>
  (A1 l2 a1).bind fun x19=>
  (FX l2 a1 x17).bind fun l5=>
  (A1 l5 a3).bind fun x20=>
  (FX l5 a3 x18).bind fun l6=>
  ret (wI (a1+1)) fun x21=>
  ret (wI (a3-1)) fun x22=>
  AU n p1 n (l6,x21,x22))
def DE(n:Nat)(p1:Int)(l2:List UInt32)(a1:Int)(nx_f_slices_partitionOrdered_uint32_l2:Int→Option (Int×Bool×List UInt32))(a4:Int):Option (Int×Bool×List UInt32):=
 (E3 (decide (a1≤a4)) ((A1 l2 a4).bind fun x10=>(A1 l2 p1).bind fun x11=>(Cr x10 x11).bind fun y3=>some (!y3))).bind fun y4=>
 cond y4
 (
  ret (wI (a4-1)) fun x12=>
  nx_f_slices_partitionOrdered_uint32_l2 x12)
 (
  DQ n p1 l2 a1 a4)
def DS(n:Nat)(p1:Int)(l2:List UInt32)(a1:Int):Nat→Int→Option (Int×Bool×List UInt32):=CH fun nx x=>DE n p1 l2 a1 nx x
def DP(n:Nat)(p1:Int)(l2:List UInt32)(x6:Int)(a1:Int):Option (Int×Bool×List UInt32):=
 DS n p1 l2 a1 n x6
def DD(n:Nat)(p1:Int)(l2:List UInt32)(x6:Int)(nx_f_slices_partitionOrdered_uint32_l1:Int→Option (Int×Bool×List UInt32))(a2:Int):Option (Int×Bool×List UInt32):=
 (E3 (decide (a2≤x6)) ((A1 l2 a2).bind fun x7=>(A1 l2 p1).bind fun x8=>(Cr x7 x8).bind fun y1=>some (y1))).bind fun y2=>
 cond y2
 (
  ret (wI (a2+1)) fun x9=>
  nx_f_slices_partitionOrdered_uint32_l1 x9)
 (
  DP n p1 l2 x6 a2)
def DR(n:Nat)(p1:Int)(l2:List UInt32)(x6:Int):Nat→Int→Option (Int×Bool×List UInt32):=CH fun nx x=>DD n p1 l2 x6 nx x
def Ep(n:Nat)(p0:List UInt32)(p1:Int)(p2:Int)(p3:Int):Option (Int×Bool×List UInt32):=
 (A1 p0 p3).bind fun x1=>
 (A1 p0 p1).bind fun x2=>
 (A1 p0 p1).bind fun x3=>
 (FX p0 p1 x1).bind fun l1=>
 (A1 l1 p3).bind fun x4=>
 (FX l1 p3 x2).bind fun l2=>
 ret (wI (p1+1)) fun x5=>
 ret (wI (p2-1)) fun x6=>
 DR n p1 l2 x6 n x5
theorem OA{n:Nat}{BW:Value}{p0:List UInt32}{p1 p2 p3:Int}{r:Int×Bool×List UInt32}(h:Ep n p0 p1 p2 p3=some r): zC K w0 243 [BW,vI p1,vI p2,vI p3] [AD 36 1 BW AQ p0] H (fun u M=>u=.tuple #[vI r.1,vB r.2.1]∧M=[AD 36 1 BW AQ r.2.2]):=by
 unfold Ep at h
 refine Vf.enter Tryz.func243 rfl rfl ?_
 refine Y (O E (O E (U (AE ?_))))
 refine AB h fun x1 hx1 h=>?_
 refine AB h fun x2 hx2 h=>?_
 refine AB h fun x3 hx3 h=>?_
 refine AB h fun l1 hl1 h=>?_
 refine AB h fun x4 hx4 h=>?_
 refine AB h fun l2 hl2 h=>?_
 refine Ai C2 [] (BJ [(true,0),(true,1),(true,2),(true,3),(true,4),(true,5),(true,6),(true,8),(true,9),(true,10)] (.alt 7 (BJ [(false,11),(true,12),(false,13),(true,14)] (.last 15 .nil)) (.cons (false,11) (BJ [(false,7),(true,12),(false,13),(true,14)] (.last 15 .nil))))) zK (J E (J E (J E (J E (J E (J E ?_))))))
 refine AZ 0 hx1 E Af Aa E E E fun g1 m1 cp1 hv1=>?_
 refine J E (J E ?_)
 refine AZ 0 hx2 E Af Aa E E E fun g2 m2 cp2 hv2=>?_
 refine E6 ?_ ?_
 refine Aq E Ah E (AS (sz:=1) (enc:=AQ) 0 0 zV E hv1 hx1 E) ?_
 refine Aq E Ah E (AS (sz:=1) (enc:=AQ) 0 0 zV E hv2 hx2 E) ?_
 refine AZ 0 hx3 E Af Aa E E E fun g3 m3 cp3 hv3=>?_
 refine BB (sz:=1) (enc:=AQ) 0 hl1 zV E E E E E hv3 Aa (by simp[Value.oneCell']) zT ?_
 refine AZ 0 hx4 E Af Aa E E E fun g4 m4 cp4 hv4=>?_
 refine A4 ?_
 refine BB (sz:=1) (enc:=AQ) 0 hl2 zV E E E E E hv4 Aa (by simp[Value.oneCell']) zT ?_
 refine U (Y ?_)
 obtain⟨x5,ex5,h⟩:=BG h
 obtain⟨x6,ex6,h⟩:=BG h
 refine J E (V E Aw (J E (V E BC ?_)))
 refine AX (u:=vI x5) E E (congrArg vI ex5) ?_
 refine AX (u:=vI x6) E E (congrArg vI ex6) ?_
 refine U ?_
 refine Az (α:=Int) (fun x=>DP n p1 l2 x6 x=some r) (fun x=>[(0,BW),(1,vI p1),(10,vI x),(11,vI x6)]) (fun x=>AD 36 1 BW AQ l2::H) ?_ (fun a1 D h=>?_)
 refine AK ?_
 refine SX.heap (SX.mono (A9 (α:=Nat×Int) (fun x=>DR n p1 l2 x6 x.1 x.2=some r) (fun x=>[(0,BW),(1,vI p1),(10,vI x.2),(11,vI x6)]) (fun x=>AD 36 1 BW AQ l2::H) (fun x=>x.1) (fun x D h=>?_) (n,x5) h) tL) (A5 [0] 1 E E E)
 obtain⟨m5,a2⟩:=x
 dsimp only at h
 rcases m5 with _ | m5
 cases (show(none:Option _)=some r from h)
 replace h:DD n p1 l2 x6 (DR n p1 l2 x6 m5) a2=some r:=h
 unfold DD at h
 try dsimp only
 refine AE (AE ?_)
 refine AB h fun y2 hy2 h=>?_
 refine Ai C2 [0] (C0 [(true,0),(true,1),(true,2),(true,3),(true,4),(true,5),(true,6),(true,7),(true,8),(true,9),(true,10),(true,11),(false,12),(false,13)]) zK (J E (J E (V E Ex (J E ?_))))
 refine Du 33 10 43 hy2 E (fun hb hg1 k=>?_) (fun hb k=>?_) ?_
 obtain⟨x7,hx7,hg1⟩:=Da hg1
 obtain⟨x8,hx8,hg1⟩:=Da hg1
 obtain⟨y1,hy1,hg1⟩:=Da hg1
 obtain rfl:=zI hg1
 refine J E (J E ?_)
 refine AZ 0 hx7 E Af Aa E E E fun g5 m6 cp5 hv5=>?_
 refine Aq E Ah E (AS (sz:=1) (enc:=AQ) 0 0 zV E hv5 hx7 E) ?_
 refine J E (J E ?_)
 refine AZ 0 hx8 E Af Aa E E E fun g6 m7 cp6 hv6=>?_
 refine Aq E Ah E (AS (sz:=1) (enc:=AQ) 0 0 zV E hv6 hx8 E) ?_
 refine BT 0 F7 (By hy1) E ⟨⟨0,E⟩,zT⟩ (An E E E ?_)
 exact k.mono tL
 refine AA E (AA E (AA E (AA E (AA E (AA E (AA E (AA E ?_)))))))
 refine AA E (An E E E ?_)
 exact k.mono tL
 refine U ?_
 refine AL h E (fun hc1 h=>?_) fun hc1 h=>?_
 refine AH (AI (AK (AJ ?_)))
 obtain⟨x9,ex9,h⟩:=BG h
 refine J E (V E Aw ?_)
 refine AX (u:=vI x9) E E (congrArg vI ex9) ?_
 refine AT (Ao ?_)
 exact Am (m5,x9) h (Nat.lt_succ_self _) tL (A5 [0] 1 E E E)
 refine Av (Ay (BP (A0 ?_)))
 exact Ak a2 h tL (A5 [0] 1 E E E)
 unfold DP at h
 try dsimp only
 refine Az (α:=Int) (fun x=>DQ n p1 l2 a1 x=some r) (fun x=>[(0,BW),(1,vI p1),(10,vI a1),(11,vI x)]) (fun x=>AD 36 1 BW AQ l2::H) ?_ (fun a3 D h=>?_)
 refine AK ?_
 refine SX.heap (SX.mono (A9 (α:=Nat×Int) (fun x=>DS n p1 l2 a1 x.1 x.2=some r) (fun x=>[(0,BW),(1,vI p1),(10,vI a1),(11,vI x.2)]) (fun x=>AD 36 1 BW AQ l2::H) (fun x=>x.1) (fun x D h=>?_) (n,x6) h) tL) (A5 [0] 1 E E E)
 obtain⟨m8,a4⟩:=x
 dsimp only at h
 rcases m8 with _ | m8
 cases (show(none:Option _)=some r from h)
 replace h:DE n p1 l2 a1 (DS n p1 l2 a1 m8) a4=some r:=h
 unfold DE at h
 try dsimp only
 refine AE (AE ?_)
 refine AB h fun y4 hy4 h=>?_
 refine Ai C2 [0] (C0 [(true,0),(true,1),(true,2),(true,3),(true,4),(true,5),(true,6),(true,7),(true,8),(true,9),(true,10),(true,11),(false,12),(false,13),(false,14)]) zK (J E (J E (V E Ex (J E ?_))))
 refine Du 49 11 60 hy4 E (fun hb hg2 k=>?_) (fun hb k=>?_) ?_
 obtain⟨x10,hx10,hg2⟩:=Da hg2
 obtain⟨x11,hx11,hg2⟩:=Da hg2
 obtain⟨y3,hy3,hg2⟩:=Da hg2
 obtain rfl:=zI hg2
 refine J E (J E ?_)
 refine AZ 0 hx10 E Af Aa E E E fun g7 m9 cp7 hv7=>?_
 refine Aq E Ah E (AS (sz:=1) (enc:=AQ) 0 0 zV E hv7 hx10 E) ?_
 refine J E (J E ?_)
 refine AZ 0 hx11 E Af Aa E E E fun g8 m10 cp8 hv8=>?_
 refine Aq E Ah E (AS (sz:=1) (enc:=AQ) 0 0 zV E hv8 hx11 E) ?_
 refine BT 0 F7 (By hy3) E ⟨⟨0,E⟩,zT⟩ (CO E E (An E E E ?_))
 exact k.mono tL
 refine AA E (AA E (AA E (AA E (AA E (AA E (AA E (AA E ?_)))))))
 refine AA E (AA E (An E E E ?_))
 exact k.mono tL
 refine U ?_
 refine AL h E (fun hc2 h=>?_) fun hc2 h=>?_
 refine AH (AI (AK (AJ ?_)))
 obtain⟨x12,ex12,h⟩:=BG h
 refine J E (V E BC ?_)
 refine AX (u:=vI x12) E E (congrArg vI ex12) ?_
 refine AT (Ao ?_)
 exact Am (m8,x12) h (Nat.lt_succ_self _) tL (A5 [0] 1 E E E)
 refine Av (Ay (BP (A0 ?_)))
 exact Ak a4 h tL (A5 [0] 1 E E E)
 unfold DQ at h
 try dsimp only
 refine AE (Y (J E (J E (V E C8 (U ?_)))))
 refine AL h E (fun hc3 h=>?_) fun hc3 h=>?_
 refine AE ?_
 refine AB h fun x13 hx13 h=>?_
 refine AB h fun x14 hx14 h=>?_
 refine AB h fun x15 hx15 h=>?_
 refine AB h fun l3 hl3 h=>?_
 refine AB h fun x16 hx16 h=>?_
 refine AB h fun l4 hl4 h=>?_
 refine Ai C2 [] (BJ [(true,0),(true,1),(true,2),(true,3),(true,4),(true,5),(true,6),(true,8),(true,9),(true,10)] (.alt 7 (BJ [(false,11),(true,12),(false,13),(true,14)] (.last 15 .nil)) (.cons (false,11) (BJ [(false,7),(true,12),(false,13),(true,14)] (.last 15 .nil))))) zK (J E (J E (J E (J E (J E (J E ?_))))))
 refine AZ 0 hx13 E Af Aa E E E fun g9 m11 cp9 hv9=>?_
 refine J E (J E ?_)
 refine AZ 0 hx14 E Af Aa E E E fun g10 m12 cp10 hv10=>?_
 refine E6 ?_ ?_
 refine Aq E Ah E (AS (sz:=1) (enc:=AQ) 0 0 zV E hv9 hx13 E) ?_
 refine Aq E Ah E (AS (sz:=1) (enc:=AQ) 0 0 zV E hv10 hx14 E) ?_
 refine AZ 0 hx15 E Af Aa E E E fun g11 m13 cp11 hv11=>?_
 refine BB (sz:=1) (enc:=AQ) 0 hl3 zV E E E E E hv11 Aa (by simp[Value.oneCell']) zT ?_
 refine AZ 0 hx16 E Af Aa E E E fun g12 m14 cp12 hv12=>?_
 refine A4 ?_
 refine BB (sz:=1) (enc:=AQ) 0 hl4 zV E E E E E hv12 Aa (by simp[Value.oneCell']) zT ?_
 refine U (Y (J E (O E (O E (U (AM (Ag ?_)))))))
 obtain rfl:=zI h
 exact AW [0] 1 E E E
 refine Aq E Ah E (AS (sz:=1) (enc:=AQ) 0 0 zV E hv10 hx14 E) ?_
 refine Aq E Ah E (AS (sz:=1) (enc:=AQ) 0 0 zV E hv9 hx13 E) ?_
 refine AZ 0 hx15 E Af Aa E E E fun g11 m13 cp11 hv11=>?_
 refine BB (sz:=1) (enc:=AQ) 0 hl3 zV E E E E E hv11 Aa (by simp[Value.oneCell']) zT ?_
 refine AZ 0 hx16 E Af Aa E E E fun g12 m14 cp12 hv12=>?_
 refine A4 ?_
 refine BB (sz:=1) (enc:=AQ) 0 hl4 zV E E E E E hv12 Aa (by simp[Value.oneCell']) zT ?_
 refine U (Y (J E (O E (O E (U (AM (Ag ?_)))))))
 obtain rfl:=zI h
 exact AW [0] 1 E E E
 refine AH (AI (AE ?_))
 refine AB h fun x17 hx17 h=>?_
 refine AB h fun x18 hx18 h=>?_
 refine AB h fun x19 hx19 h=>?_
 refine AB h fun l5 hl5 h=>?_
 refine AB h fun x20 hx20 h=>?_
 refine AB h fun l6 hl6 h=>?_
 refine Ai C2 [] (BJ [(true,0),(true,1),(true,2),(true,3),(true,4),(true,5),(true,6),(true,8),(true,9),(true,10)] (.alt 7 (BJ [(false,11),(true,12),(false,13),(true,14)] (.last 15 .nil)) (.cons (false,11) (BJ [(false,7),(true,12),(false,13),(true,14)] (.last 15 .nil))))) zK (J E (J E (J E (J E (J E (J E ?_))))))
 refine AZ 0 hx17 E Af Aa E E E fun g13 m15 cp13 hv13=>?_
 refine J E (J E ?_)
 refine AZ 0 hx18 E Af Aa E E E fun g14 m16 cp14 hv14=>?_
 refine E6 ?_ ?_
 refine Aq E Ah E (AS (sz:=1) (enc:=AQ) 0 0 zV E hv13 hx17 E) ?_
 refine Aq E Ah E (AS (sz:=1) (enc:=AQ) 0 0 zV E hv14 hx18 E) ?_
 refine AZ 0 hx19 E Af Aa E E E fun g15 m17 cp15 hv15=>?_
 refine BB (sz:=1) (enc:=AQ) 0 hl5 zV E E E E E hv15 Aa (by simp[Value.oneCell']) zT ?_
 refine AZ 0 hx20 E Af Aa E E E fun g16 m18 cp16 hv16=>?_
 refine A4 ?_
 refine BB (sz:=1) (enc:=AQ) 0 hl6 zV E E E E E hv16 Aa (by simp[Value.oneCell']) zT ?_
 refine U (Y ?_)
 obtain⟨x21,ex21,h⟩:=BG h
 refine J E (V E Aw ?_)
 refine AX (u:=vI x21) E E (congrArg vI ex21) ?_
 refine U (Y ?_)
 obtain⟨x22,ex22,h⟩:=BG h
 refine J E (V E BC ?_)
 refine AX (u:=vI x22) E E (congrArg vI ex22) ?_
 refine U ?_
 refine Az (α:=List UInt32×Int) (fun x=>CL p1 x.1 x.2=some r) (fun x=>[(0,BW),(1,vI p1),(11,vI x.2)]) (fun x=>AD 36 1 BW AQ x.1::H) ?_ (fun x D h=>?_)
 refine AK ?_
 refine SX.heap (SX.mono (A9 (α:=Nat×List UInt32×Int×Int) (fun x=>AU n p1 x.1 (x.2.1,x.2.2.1,x.2.2.2)=some r) (fun x=>[(0,BW),(1,vI p1),(10,vI x.2.2.1),(11,vI x.2.2.2)]) (fun x=>AD 36 1 BW AQ x.2.1::H) (fun x=>x.1) (fun x D h=>?_) (n,l6,x21,x22) h) tL) (A5 [0] 1 E E E)
 obtain⟨m19,l8,a6,a7⟩:=x
 dsimp only at h
 rcases m19 with _ | m19
 cases (show(none:Option _)=some r from h)
 replace h:Bz n p1 (AU n p1 m19) l8 a6 a7=some r:=h
 unfold Bz at h
 try dsimp only
 refine AK ?_
 refine Az (α:=Int) (fun x=>B5 n p1 l8 a7 (AU n p1 m19) x=some r) (fun x=>[(0,BW),(1,vI p1),(10,vI x),(11,vI a7)]) (fun x=>AD 36 1 BW AQ l8::H) ?_ (fun a8 D h=>?_)
 refine AK ?_
 refine SX.heap (SX.mono (A9 (α:=Nat×Int) (fun x=>B7 n p1 l8 a7 (AU n p1 m19) x.1 x.2=some r) (fun x=>[(0,BW),(1,vI p1),(10,vI x.2),(11,vI a7)]) (fun x=>AD 36 1 BW AQ l8::H) (fun x=>x.1) (fun x D h=>?_) (n,a6) h) tL) (A5 [0] 1 E E E)
 obtain⟨m20,a9⟩:=x
 dsimp only at h
 rcases m20 with _ | m20
 cases (show(none:Option _)=some r from h)
 replace h:B0 n p1 l8 a7 (AU n p1 m19) (B7 n p1 l8 a7 (AU n p1 m19) m20) a9=some r:=h
 unfold B0 at h
 try dsimp only
 refine AE (AE ?_)
 refine AB h fun y6 hy6 h=>?_
 refine Ai C2 [0] (C0 [(true,0),(true,1),(true,2),(true,3),(true,4),(true,5),(true,6),(true,7),(true,8),(true,9),(true,10),(true,11),(false,12),(false,13)]) zK (J E (J E (V E Ex (J E ?_))))
 refine Du 102 10 112 hy6 E (fun hb hg3 k=>?_) (fun hb k=>?_) ?_
 obtain⟨x23,hx23,hg3⟩:=Da hg3
 obtain⟨x24,hx24,hg3⟩:=Da hg3
 obtain⟨y5,hy5,hg3⟩:=Da hg3
 obtain rfl:=zI hg3
 refine J E (J E ?_)
 refine AZ 0 hx23 E Af Aa E E E fun g17 m21 cp17 hv17=>?_
 refine Aq E Ah E (AS (sz:=1) (enc:=AQ) 0 0 zV E hv17 hx23 E) ?_
 refine J E (J E ?_)
 refine AZ 0 hx24 E Af Aa E E E fun g18 m22 cp18 hv18=>?_
 refine Aq E Ah E (AS (sz:=1) (enc:=AQ) 0 0 zV E hv18 hx24 E) ?_
 refine BT 0 F7 (By hy5) E ⟨⟨0,E⟩,zT⟩ (An E E E ?_)
 exact k.mono tL
 refine AA E (AA E (AA E (AA E (AA E (AA E (AA E (AA E ?_)))))))
 refine AA E (An E E E ?_)
 exact k.mono tL
 refine U ?_
 refine AL h E (fun hc4 h=>?_) fun hc4 h=>?_
 refine AH (AI (AK (AJ ?_)))
 obtain⟨x25,ex25,h⟩:=BG h
 refine J E (V E Aw ?_)
 refine AX (u:=vI x25) E E (congrArg vI ex25) ?_
 refine AT (Ao ?_)
 exact Am (m20,x25) h (Nat.lt_succ_self _) tL (A5 [0] 1 E E E)
 refine Av (Ay (BP (A0 ?_)))
 exact Ak a9 h tL (A5 [0] 1 E E E)
 unfold B5 at h
 try dsimp only
 refine Az (α:=Int) (fun x=>B6 p1 l8 a8 (AU n p1 m19) x=some r) (fun x=>[(0,BW),(1,vI p1),(10,vI a8),(11,vI x)]) (fun x=>AD 36 1 BW AQ l8::H) ?_ (fun a10 D h=>?_)
 refine AK ?_
 refine SX.heap (SX.mono (A9 (α:=Nat×Int) (fun x=>B8 p1 l8 a8 (AU n p1 m19) x.1 x.2=some r) (fun x=>[(0,BW),(1,vI p1),(10,vI a8),(11,vI x.2)]) (fun x=>AD 36 1 BW AQ l8::H) (fun x=>x.1) (fun x D h=>?_) (n,a7) h) tL) (A5 [0] 1 E E E)
 obtain⟨m23,a11⟩:=x
 dsimp only at h
 rcases m23 with _ | m23
 cases (show(none:Option _)=some r from h)
 replace h:B1 p1 l8 a8 (AU n p1 m19) (B8 p1 l8 a8 (AU n p1 m19) m23) a11=some r:=h
 unfold B1 at h
 try dsimp only
 refine AE (AE ?_)
 refine AB h fun y8 hy8 h=>?_
 refine Ai C2 [0] (C0 [(true,0),(true,1),(true,2),(true,3),(true,4),(true,5),(true,6),(true,7),(true,8),(true,9),(true,10),(true,11),(false,12),(false,13),(false,14)]) zK (J E (J E (V E Ex (J E ?_))))
 refine Du 118 11 129 hy8 E (fun hb hg4 k=>?_) (fun hb k=>?_) ?_
 obtain⟨x26,hx26,hg4⟩:=Da hg4
 obtain⟨x27,hx27,hg4⟩:=Da hg4
 obtain⟨y7,hy7,hg4⟩:=Da hg4
 obtain rfl:=zI hg4
 refine J E (J E ?_)
 refine AZ 0 hx26 E Af Aa E E E fun g19 m24 cp19 hv19=>?_
 refine Aq E Ah E (AS (sz:=1) (enc:=AQ) 0 0 zV E hv19 hx26 E) ?_
 refine J E (J E ?_)
 refine AZ 0 hx27 E Af Aa E E E fun g20 m25 cp20 hv20=>?_
 refine Aq E Ah E (AS (sz:=1) (enc:=AQ) 0 0 zV E hv20 hx27 E) ?_
 refine BT 0 F7 (By hy7) E ⟨⟨0,E⟩,zT⟩ (CO E E (An E E E ?_))
 exact k.mono tL
 refine AA E (AA E (AA E (AA E (AA E (AA E (AA E (AA E ?_)))))))
 refine AA E (AA E (An E E E ?_))
 exact k.mono tL
 refine U ?_
 refine AL h E (fun hc5 h=>?_) fun hc5 h=>?_
 refine AH (AI (AK (AJ ?_)))
 obtain⟨x28,ex28,h⟩:=BG h
 refine J E (V E BC ?_)
 refine AX (u:=vI x28) E E (congrArg vI ex28) ?_
 refine AT (Ao ?_)
 exact Am (m23,x28) h (Nat.lt_succ_self _) tL (A5 [0] 1 E E E)
 refine Av (Ay (BP (A0 ?_)))
 exact Ak a11 h tL (A5 [0] 1 E E E)
 unfold B6 at h
 try dsimp only
 refine AE (Y (J E (J E (V E C8 (U ?_)))))
 refine AL h E (fun hc6 h=>?_) fun hc6 h=>?_
 refine Av (Ay (FK (BP (A0 ?_))))
 exact Ak (l8,a10) h tL (A5 [0] 1 E E E)
 refine AH (AI (AE ?_))
 refine AB h fun x29 hx29 h=>?_
 refine AB h fun x30 hx30 h=>?_
 refine AB h fun x31 hx31 h=>?_
 refine AB h fun l9 hl9 h=>?_
 refine AB h fun x32 hx32 h=>?_
 refine AB h fun l10 hl10 h=>?_
 refine Ai C2 [] (BJ [(true,0),(true,1),(true,2),(true,3),(true,4),(true,5),(true,6),(true,8),(true,9),(true,10)] (.alt 7 (BJ [(false,11),(true,12),(false,13),(true,14)] (.last 15 .nil)) (.cons (false,11) (BJ [(false,7),(true,12),(false,13),(true,14)] (.last 15 .nil))))) zK (J E (J E (J E (J E (J E (J E ?_))))))
 refine AZ 0 hx29 E Af Aa E E E fun g21 m26 cp21 hv21=>?_
 refine J E (J E ?_)
 refine AZ 0 hx30 E Af Aa E E E fun g22 m27 cp22 hv22=>?_
 refine E6 ?_ ?_
 refine Aq E Ah E (AS (sz:=1) (enc:=AQ) 0 0 zV E hv21 hx29 E) ?_
 refine Aq E Ah E (AS (sz:=1) (enc:=AQ) 0 0 zV E hv22 hx30 E) ?_
 refine AZ 0 hx31 E Af Aa E E E fun g23 m28 cp23 hv23=>?_
 refine BB (sz:=1) (enc:=AQ) 0 hl9 zV E E E E E hv23 Aa (by simp[Value.oneCell']) zT ?_
 refine AZ 0 hx32 E Af Aa E E E fun g24 m29 cp24 hv24=>?_
 refine A4 ?_
 refine BB (sz:=1) (enc:=AQ) 0 hl10 zV E E E E E hv24 Aa (by simp[Value.oneCell']) zT ?_
 refine U (Y ?_)
 obtain⟨x33,ex33,h⟩:=BG h
 refine J E (V E Aw ?_)
 refine AX (u:=vI x33) E E (congrArg vI ex33) ?_
 refine U (AJ ?_)
 obtain⟨x34,ex34,h⟩:=BG h
 refine J E (V E BC ?_)
 refine AX (u:=vI x34) E E (congrArg vI ex34) ?_
 refine AT (Ao ?_)
 exact Am (m19,l10,x33,x34) h (Nat.lt_succ_self _) tL (A5 [0] 1 E E E)
 refine Aq E Ah E (AS (sz:=1) (enc:=AQ) 0 0 zV E hv22 hx30 E) ?_
 refine Aq E Ah E (AS (sz:=1) (enc:=AQ) 0 0 zV E hv21 hx29 E) ?_
 refine AZ 0 hx31 E Af Aa E E E fun g23 m28 cp23 hv23=>?_
 refine BB (sz:=1) (enc:=AQ) 0 hl9 zV E E E E E hv23 Aa (by simp[Value.oneCell']) zT ?_
 refine AZ 0 hx32 E Af Aa E E E fun g24 m29 cp24 hv24=>?_
 refine A4 ?_
 refine BB (sz:=1) (enc:=AQ) 0 hl10 zV E E E E E hv24 Aa (by simp[Value.oneCell']) zT ?_
 refine U (Y ?_)
 obtain⟨x33,ex33,h⟩:=BG h
 refine J E (V E Aw ?_)
 refine AX (u:=vI x33) E E (congrArg vI ex33) ?_
 refine U (AJ ?_)
 obtain⟨x34,ex34,h⟩:=BG h
 refine J E (V E BC ?_)
 refine AX (u:=vI x34) E E (congrArg vI ex34) ?_
 refine AT (Ao ?_)
 exact Am (m19,l10,x33,x34) h (Nat.lt_succ_self _) tL (A5 [0] 1 E E E)
 obtain⟨l7,a5⟩:=x
 dsimp only at h
 unfold CL at h
 try dsimp only
 refine AE ?_
 refine AB h fun x35 hx35 h=>?_
 refine AB h fun x36 hx36 h=>?_
 refine AB h fun x37 hx37 h=>?_
 refine AB h fun l11 hl11 h=>?_
 refine AB h fun x38 hx38 h=>?_
 refine AB h fun l12 hl12 h=>?_
 refine Ai C2 [] (BJ [(true,0),(true,1),(true,2),(true,3),(true,4),(true,5),(true,6),(true,8),(true,9),(true,10)] (.alt 7 (BJ [(false,11),(true,12),(false,13),(true,14)] (.last 15 .nil)) (.cons (false,11) (BJ [(false,7),(true,12),(false,13),(true,14)] (.last 15 .nil))))) zK (J E (J E (J E (J E (J E (J E ?_))))))
 refine AZ 0 hx35 E Af Aa E E E fun g25 m30 cp25 hv25=>?_
 refine J E (J E ?_)
 refine AZ 0 hx36 E Af Aa E E E fun g26 m31 cp26 hv26=>?_
 refine E6 ?_ ?_
 refine Aq E Ah E (AS (sz:=1) (enc:=AQ) 0 0 zV E hv25 hx35 E) ?_
 refine Aq E Ah E (AS (sz:=1) (enc:=AQ) 0 0 zV E hv26 hx36 E) ?_
 refine AZ 0 hx37 E Af Aa E E E fun g27 m32 cp27 hv27=>?_
 refine BB (sz:=1) (enc:=AQ) 0 hl11 zV E E E E E hv27 Aa (by simp[Value.oneCell']) zT ?_
 refine AZ 0 hx38 E Af Aa E E E fun g28 m33 cp28 hv28=>?_
 refine A4 ?_
 refine BB (sz:=1) (enc:=AQ) 0 hl12 zV E E E E E hv28 Aa (by simp[Value.oneCell']) zT ?_
 refine U (Y (J E (O E (O E (U (AM ?_))))))
 obtain rfl:=zI h
 exact AW [0] 1 E E E
 refine Aq E Ah E (AS (sz:=1) (enc:=AQ) 0 0 zV E hv26 hx36 E) ?_
 refine Aq E Ah E (AS (sz:=1) (enc:=AQ) 0 0 zV E hv25 hx35 E) ?_
 refine AZ 0 hx37 E Af Aa E E E fun g27 m32 cp27 hv27=>?_
 refine BB (sz:=1) (enc:=AQ) 0 hl11 zV E E E E E hv27 Aa (by simp[Value.oneCell']) zT ?_
 refine AZ 0 hx38 E Af Aa E E E fun g28 m33 cp28 hv28=>?_
 refine A4 ?_
 refine BB (sz:=1) (enc:=AQ) 0 hl12 zV E E E E E hv28 Aa (by simp[Value.oneCell']) zT ?_
 refine U (Y (J E (O E (O E (U (AM ?_))))))
 obtain rfl:=zI h
 exact AW [0] 1 E E E
 refine Aq E Ah E (AS (sz:=1) (enc:=AQ) 0 0 zV E hv14 hx18 E) ?_
 refine Aq E Ah E (AS (sz:=1) (enc:=AQ) 0 0 zV E hv13 hx17 E) ?_
 refine AZ 0 hx19 E Af Aa E E E fun g15 m17 cp15 hv15=>?_
 refine BB (sz:=1) (enc:=AQ) 0 hl5 zV E E E E E hv15 Aa (by simp[Value.oneCell']) zT ?_
 refine AZ 0 hx20 E Af Aa E E E fun g16 m18 cp16 hv16=>?_
 refine A4 ?_
 refine BB (sz:=1) (enc:=AQ) 0 hl6 zV E E E E E hv16 Aa (by simp[Value.oneCell']) zT ?_
 refine U (Y ?_)
 obtain⟨x21,ex21,h⟩:=BG h
 refine J E (V E Aw ?_)
 refine AX (u:=vI x21) E E (congrArg vI ex21) ?_
 refine U (Y ?_)
 obtain⟨x22,ex22,h⟩:=BG h
 refine J E (V E BC ?_)
 refine AX (u:=vI x22) E E (congrArg vI ex22) ?_
 refine U ?_
 refine Az (α:=List UInt32×Int) (fun x=>CL p1 x.1 x.2=some r) (fun x=>[(0,BW),(1,vI p1),(11,vI x.2)]) (fun x=>AD 36 1 BW AQ x.1::H) ?_ (fun x D h=>?_)
 refine AK ?_
 refine SX.heap (SX.mono (A9 (α:=Nat×List UInt32×Int×Int) (fun x=>AU n p1 x.1 (x.2.1,x.2.2.1,x.2.2.2)=some r) (fun x=>[(0,BW),(1,vI p1),(10,vI x.2.2.1),(11,vI x.2.2.2)]) (fun x=>AD 36 1 BW AQ x.2.1::H) (fun x=>x.1) (fun x D h=>?_) (n,l6,x21,x22) h) tL) (A5 [0] 1 E E E)
 obtain⟨m19,l8,a6,a7⟩:=x
 dsimp only at h
 rcases m19 with _ | m19
 cases (show(none:Option _)=some r from h)
 replace h:Bz n p1 (AU n p1 m19) l8 a6 a7=some r:=h
 unfold Bz at h
 try dsimp only
 refine AK ?_
 refine Az (α:=Int) (fun x=>B5 n p1 l8 a7 (AU n p1 m19) x=some r) (fun x=>[(0,BW),(1,vI p1),(10,vI x),(11,vI a7)]) (fun x=>AD 36 1 BW AQ l8::H) ?_ (fun a8 D h=>?_)
 refine AK ?_
 refine SX.heap (SX.mono (A9 (α:=Nat×Int) (fun x=>B7 n p1 l8 a7 (AU n p1 m19) x.1 x.2=some r) (fun x=>[(0,BW),(1,vI p1),(10,vI x.2),(11,vI a7)]) (fun x=>AD 36 1 BW AQ l8::H) (fun x=>x.1) (fun x D h=>?_) (n,a6) h) tL) (A5 [0] 1 E E E)
 obtain⟨m20,a9⟩:=x
 dsimp only at h
 rcases m20 with _ | m20
 cases (show(none:Option _)=some r from h)
 replace h:B0 n p1 l8 a7 (AU n p1 m19) (B7 n p1 l8 a7 (AU n p1 m19) m20) a9=some r:=h
 unfold B0 at h
 try dsimp only
 refine AE (AE ?_)
 refine AB h fun y6 hy6 h=>?_
 refine Ai C2 [0] (C0 [(true,0),(true,1),(true,2),(true,3),(true,4),(true,5),(true,6),(true,7),(true,8),(true,9),(true,10),(true,11),(false,12),(false,13)]) zK (J E (J E (V E Ex (J E ?_))))
 refine Du 102 10 112 hy6 E (fun hb hg3 k=>?_) (fun hb k=>?_) ?_
 obtain⟨x23,hx23,hg3⟩:=Da hg3
 obtain⟨x24,hx24,hg3⟩:=Da hg3
 obtain⟨y5,hy5,hg3⟩:=Da hg3
 obtain rfl:=zI hg3
 refine J E (J E ?_)
 refine AZ 0 hx23 E Af Aa E E E fun g17 m21 cp17 hv17=>?_
 refine Aq E Ah E (AS (sz:=1) (enc:=AQ) 0 0 zV E hv17 hx23 E) ?_
 refine J E (J E ?_)
 refine AZ 0 hx24 E Af Aa E E E fun g18 m22 cp18 hv18=>?_
 refine Aq E Ah E (AS (sz:=1) (enc:=AQ) 0 0 zV E hv18 hx24 E) ?_
 refine BT 0 F7 (By hy5) E ⟨⟨0,E⟩,zT⟩ (An E E E ?_)
 exact k.mono tL
 refine AA E (AA E (AA E (AA E (AA E (AA E (AA E (AA E ?_)))))))
 refine AA E (An E E E ?_)
 exact k.mono tL
 refine U ?_
 refine AL h E (fun hc4 h=>?_) fun hc4 h=>?_
 refine AH (AI (AK (AJ ?_)))
 obtain⟨x25,ex25,h⟩:=BG h
 refine J E (V E Aw ?_)
 refine AX (u:=vI x25) E E (congrArg vI ex25) ?_
 refine AT (Ao ?_)
 exact Am (m20,x25) h (Nat.lt_succ_self _) tL (A5 [0] 1 E E E)
 refine Av (Ay (BP (A0 ?_)))
 exact Ak a9 h tL (A5 [0] 1 E E E)
 unfold B5 at h
 try dsimp only
 refine Az (α:=Int) (fun x=>B6 p1 l8 a8 (AU n p1 m19) x=some r) (fun x=>[(0,BW),(1,vI p1),(10,vI a8),(11,vI x)]) (fun x=>AD 36 1 BW AQ l8::H) ?_ (fun a10 D h=>?_)
 refine AK ?_
 refine SX.heap (SX.mono (A9 (α:=Nat×Int) (fun x=>B8 p1 l8 a8 (AU n p1 m19) x.1 x.2=some r) (fun x=>[(0,BW),(1,vI p1),(10,vI a8),(11,vI x.2)]) (fun x=>AD 36 1 BW AQ l8::H) (fun x=>x.1) (fun x D h=>?_) (n,a7) h) tL) (A5 [0] 1 E E E)
 obtain⟨m23,a11⟩:=x
 dsimp only at h
 rcases m23 with _ | m23
 cases (show(none:Option _)=some r from h)
 replace h:B1 p1 l8 a8 (AU n p1 m19) (B8 p1 l8 a8 (AU n p1 m19) m23) a11=some r:=h
 unfold B1 at h
 try dsimp only
 refine AE (AE ?_)
 refine AB h fun y8 hy8 h=>?_
 refine Ai C2 [0] (C0 [(true,0),(true,1),(true,2),(true,3),(true,4),(true,5),(true,6),(true,7),(true,8),(true,9),(true,10),(true,11),(false,12),(false,13),(false,14)]) zK (J E (J E (V E Ex (J E ?_))))
 refine Du 118 11 129 hy8 E (fun hb hg4 k=>?_) (fun hb k=>?_) ?_
 obtain⟨x26,hx26,hg4⟩:=Da hg4
 obtain⟨x27,hx27,hg4⟩:=Da hg4
 obtain⟨y7,hy7,hg4⟩:=Da hg4
 obtain rfl:=zI hg4
 refine J E (J E ?_)
 refine AZ 0 hx26 E Af Aa E E E fun g19 m24 cp19 hv19=>?_
 refine Aq E Ah E (AS (sz:=1) (enc:=AQ) 0 0 zV E hv19 hx26 E) ?_
 refine J E (J E ?_)
 refine AZ 0 hx27 E Af Aa E E E fun g20 m25 cp20 hv20=>?_
 refine Aq E Ah E (AS (sz:=1) (enc:=AQ) 0 0 zV E hv20 hx27 E) ?_
 refine BT 0 F7 (By hy7) E ⟨⟨0,E⟩,zT⟩ (CO E E (An E E E ?_))
 exact k.mono tL
 refine AA E (AA E (AA E (AA E (AA E (AA E (AA E (AA E ?_)))))))
 refine AA E (AA E (An E E E ?_))
 exact k.mono tL
 refine U ?_
 refine AL h E (fun hc5 h=>?_) fun hc5 h=>?_
 refine AH (AI (AK (AJ ?_)))
 obtain⟨x28,ex28,h⟩:=BG h
 refine J E (V E BC ?_)
 refine AX (u:=vI x28) E E (congrArg vI ex28) ?_
 refine AT (Ao ?_)
 exact Am (m23,x28) h (Nat.lt_succ_self _) tL (A5 [0] 1 E E E)
 refine Av (Ay (BP (A0 ?_)))
 exact Ak a11 h tL (A5 [0] 1 E E E)
 unfold B6 at h
 try dsimp only
 refine AE (Y (J E (J E (V E C8 (U ?_)))))
 refine AL h E (fun hc6 h=>?_) fun hc6 h=>?_
 refine Av (Ay (FK (BP (A0 ?_))))
 exact Ak (l8,a10) h tL (A5 [0] 1 E E E)
 refine AH (AI (AE ?_))
 refine AB h fun x29 hx29 h=>?_
 refine AB h fun x30 hx30 h=>?_
 refine AB h fun x31 hx31 h=>?_
 refine AB h fun l9 hl9 h=>?_
 refine AB h fun x32 hx32 h=>?_
 refine AB h fun l10 hl10 h=>?_
 refine Ai C2 [] (BJ [(true,0),(true,1),(true,2),(true,3),(true,4),(true,5),(true,6),(true,8),(true,9),(true,10)] (.alt 7 (BJ [(false,11),(true,12),(false,13),(true,14)] (.last 15 .nil)) (.cons (false,11) (BJ [(false,7),(true,12),(false,13),(true,14)] (.last 15 .nil))))) zK (J E (J E (J E (J E (J E (J E ?_))))))
 refine AZ 0 hx29 E Af Aa E E E fun g21 m26 cp21 hv21=>?_
 refine J E (J E ?_)
 refine AZ 0 hx30 E Af Aa E E E fun g22 m27 cp22 hv22=>?_
 refine E6 ?_ ?_
 refine Aq E Ah E (AS (sz:=1) (enc:=AQ) 0 0 zV E hv21 hx29 E) ?_
 refine Aq E Ah E (AS (sz:=1) (enc:=AQ) 0 0 zV E hv22 hx30 E) ?_
 refine AZ 0 hx31 E Af Aa E E E fun g23 m28 cp23 hv23=>?_
 refine BB (sz:=1) (enc:=AQ) 0 hl9 zV E E E E E hv23 Aa (by simp[Value.oneCell']) zT ?_
 refine AZ 0 hx32 E Af Aa E E E fun g24 m29 cp24 hv24=>?_
 refine A4 ?_
 refine BB (sz:=1) (enc:=AQ) 0 hl10 zV E E E E E hv24 Aa (by simp[Value.oneCell']) zT ?_
 refine U (Y ?_)
 obtain⟨x33,ex33,h⟩:=BG h
 refine J E (V E Aw ?_)
 refine AX (u:=vI x33) E E (congrArg vI ex33) ?_
 refine U (AJ ?_)
 obtain⟨x34,ex34,h⟩:=BG h
 refine J E (V E BC ?_)
 refine AX (u:=vI x34) E E (congrArg vI ex34) ?_
 refine AT (Ao ?_)
 exact Am (m19,l10,x33,x34) h (Nat.lt_succ_self _) tL (A5 [0] 1 E E E)
 refine Aq E Ah E (AS (sz:=1) (enc:=AQ) 0 0 zV E hv22 hx30 E) ?_
 refine Aq E Ah E (AS (sz:=1) (enc:=AQ) 0 0 zV E hv21 hx29 E) ?_
 refine AZ 0 hx31 E Af Aa E E E fun g23 m28 cp23 hv23=>?_
 refine BB (sz:=1) (enc:=AQ) 0 hl9 zV E E E E E hv23 Aa (by simp[Value.oneCell']) zT ?_
 refine AZ 0 hx32 E Af Aa E E E fun g24 m29 cp24 hv24=>?_
 refine A4 ?_
 refine BB (sz:=1) (enc:=AQ) 0 hl10 zV E E E E E hv24 Aa (by simp[Value.oneCell']) zT ?_
 refine U (Y ?_)
 obtain⟨x33,ex33,h⟩:=BG h
 refine J E (V E Aw ?_)
 refine AX (u:=vI x33) E E (congrArg vI ex33) ?_
 refine U (AJ ?_)
 obtain⟨x34,ex34,h⟩:=BG h
 refine J E (V E BC ?_)
 refine AX (u:=vI x34) E E (congrArg vI ex34) ?_
 refine AT (Ao ?_)
 exact Am (m19,l10,x33,x34) h (Nat.lt_succ_self _) tL (A5 [0] 1 E E E)
 obtain⟨l7,a5⟩:=x
 dsimp only at h
 unfold CL at h
 try dsimp only
 refine AE ?_
 refine AB h fun x35 hx35 h=>?_
 refine AB h fun x36 hx36 h=>?_
 refine AB h fun x37 hx37 h=>?_
 refine AB h fun l11 hl11 h=>?_
 refine AB h fun x38 hx38 h=>?_
 refine AB h fun l12 hl12 h=>?_
 refine Ai C2 [] (BJ [(true,0),(true,1),(true,2),(true,3),(true,4),(true,5),(true,6),(true,8),(true,9),(true,10)] (.alt 7 (BJ [(false,11),(true,12),(false,13),(true,14)] (.last 15 .nil)) (.cons (false,11) (BJ [(false,7),(true,12),(false,13),(true,14)] (.last 15 .nil))))) zK (J E (J E (J E (J E (J E (J E ?_))))))
 refine AZ 0 hx35 E Af Aa E E E fun g25 m30 cp25 hv25=>?_
 refine J E (J E ?_)
 refine AZ 0 hx36 E Af Aa E E E fun g26 m31 cp26 hv26=>?_
 refine E6 ?_ ?_
 refine Aq E Ah E (AS (sz:=1) (enc:=AQ) 0 0 zV E hv25 hx35 E) ?_
 refine Aq E Ah E (AS (sz:=1) (enc:=AQ) 0 0 zV E hv26 hx36 E) ?_
 refine AZ 0 hx37 E Af Aa E E E fun g27 m32 cp27 hv27=>?_
 refine BB (sz:=1) (enc:=AQ) 0 hl11 zV E E E E E hv27 Aa (by simp[Value.oneCell']) zT ?_
 refine AZ 0 hx38 E Af Aa E E E fun g28 m33 cp28 hv28=>?_
 refine A4 ?_
 refine BB (sz:=1) (enc:=AQ) 0 hl12 zV E E E E E hv28 Aa (by simp[Value.oneCell']) zT ?_
 refine U (Y (J E (O E (O E (U (AM ?_))))))
 obtain rfl:=zI h
 exact AW [0] 1 E E E
 refine Aq E Ah E (AS (sz:=1) (enc:=AQ) 0 0 zV E hv26 hx36 E) ?_
 refine Aq E Ah E (AS (sz:=1) (enc:=AQ) 0 0 zV E hv25 hx35 E) ?_
 refine AZ 0 hx37 E Af Aa E E E fun g27 m32 cp27 hv27=>?_
 refine BB (sz:=1) (enc:=AQ) 0 hl11 zV E E E E E hv27 Aa (by simp[Value.oneCell']) zT ?_
 refine AZ 0 hx38 E Af Aa E E E fun g28 m33 cp28 hv28=>?_
 refine A4 ?_
 refine BB (sz:=1) (enc:=AQ) 0 hl12 zV E E E E E hv28 Aa (by simp[Value.oneCell']) zT ?_
 refine U (Y (J E (O E (O E (U (AM ?_))))))
 obtain rfl:=zI h
 exact AW [0] 1 E E E
 refine Aq E Ah E (AS (sz:=1) (enc:=AQ) 0 0 zV E hv2 hx2 E) ?_
 refine Aq E Ah E (AS (sz:=1) (enc:=AQ) 0 0 zV E hv1 hx1 E) ?_
 refine AZ 0 hx3 E Af Aa E E E fun g3 m3 cp3 hv3=>?_
 refine BB (sz:=1) (enc:=AQ) 0 hl1 zV E E E E E hv3 Aa (by simp[Value.oneCell']) zT ?_
 refine AZ 0 hx4 E Af Aa E E E fun g4 m4 cp4 hv4=>?_
 refine A4 ?_
 refine BB (sz:=1) (enc:=AQ) 0 hl2 zV E E E E E hv4 Aa (by simp[Value.oneCell']) zT ?_
 refine U (Y ?_)
 obtain⟨x5,ex5,h⟩:=BG h
 obtain⟨x6,ex6,h⟩:=BG h
 refine J E (V E Aw (J E (V E BC ?_)))
 refine AX (u:=vI x5) E E (congrArg vI ex5) ?_
 refine AX (u:=vI x6) E E (congrArg vI ex6) ?_
 refine U ?_
 refine Az (α:=Int) (fun x=>DP n p1 l2 x6 x=some r) (fun x=>[(0,BW),(1,vI p1),(10,vI x),(11,vI x6)]) (fun x=>AD 36 1 BW AQ l2::H) ?_ (fun a1 D h=>?_)
 refine AK ?_
 refine SX.heap (SX.mono (A9 (α:=Nat×Int) (fun x=>DR n p1 l2 x6 x.1 x.2=some r) (fun x=>[(0,BW),(1,vI p1),(10,vI x.2),(11,vI x6)]) (fun x=>AD 36 1 BW AQ l2::H) (fun x=>x.1) (fun x D h=>?_) (n,x5) h) tL) (A5 [0] 1 E E E)
 obtain⟨m5,a2⟩:=x
 dsimp only at h
 rcases m5 with _ | m5
 cases (show(none:Option _)=some r from h)
 replace h:DD n p1 l2 x6 (DR n p1 l2 x6 m5) a2=some r:=h
 unfold DD at h
 try dsimp only
 refine AE (AE ?_)
 refine AB h fun y2 hy2 h=>?_
 refine Ai C2 [0] (C0 [(true,0),(true,1),(true,2),(true,3),(true,4),(true,5),(true,6),(true,7),(true,8),(true,9),(true,10),(true,11),(false,12),(false,13)]) zK (J E (J E (V E Ex (J E ?_))))
 refine Du 33 10 43 hy2 E (fun hb hg1 k=>?_) (fun hb k=>?_) ?_
 obtain⟨x7,hx7,hg1⟩:=Da hg1
 obtain⟨x8,hx8,hg1⟩:=Da hg1
 obtain⟨y1,hy1,hg1⟩:=Da hg1
 obtain rfl:=zI hg1
 refine J E (J E ?_)
 refine AZ 0 hx7 E Af Aa E E E fun g5 m6 cp5 hv5=>?_
 refine Aq E Ah E (AS (sz:=1) (enc:=AQ) 0 0 zV E hv5 hx7 E) ?_
 refine J E (J E ?_)
 refine AZ 0 hx8 E Af Aa E E E fun g6 m7 cp6 hv6=>?_
 refine Aq E Ah E (AS (sz:=1) (enc:=AQ) 0 0 zV E hv6 hx8 E) ?_
 refine BT 0 F7 (By hy1) E ⟨⟨0,E⟩,zT⟩ (An E E E ?_)
 exact k.mono tL
 refine AA E (AA E (AA E (AA E (AA E (AA E (AA E (AA E ?_)))))))
 refine AA E (An E E E ?_)
 exact k.mono tL
 refine U ?_
 refine AL h E (fun hc1 h=>?_) fun hc1 h=>?_
 refine AH (AI (AK (AJ ?_)))
 obtain⟨x9,ex9,h⟩:=BG h
 refine J E (V E Aw ?_)
 refine AX (u:=vI x9) E E (congrArg vI ex9) ?_
 refine AT (Ao ?_)
 exact Am (m5,x9) h (Nat.lt_succ_self _) tL (A5 [0] 1 E E E)
 refine Av (Ay (BP (A0 ?_)))
 exact Ak a2 h tL (A5 [0] 1 E E E)
 unfold DP at h
 try dsimp only
 refine Az (α:=Int) (fun x=>DQ n p1 l2 a1 x=some r) (fun x=>[(0,BW),(1,vI p1),(10,vI a1),(11,vI x)]) (fun x=>AD 36 1 BW AQ l2::H) ?_ (fun a3 D h=>?_)
 refine AK ?_
 refine SX.heap (SX.mono (A9 (α:=Nat×Int) (fun x=>DS n p1 l2 a1 x.1 x.2=some r) (fun x=>[(0,BW),(1,vI p1),(10,vI a1),(11,vI x.2)]) (fun x=>AD 36 1 BW AQ l2::H) (fun x=>x.1) (fun x D h=>?_) (n,x6) h) tL) (A5 [0] 1 E E E)
 obtain⟨m8,a4⟩:=x
 dsimp only at h
 rcases m8 with _ | m8
 cases (show(none:Option _)=some r from h)
 replace h:DE n p1 l2 a1 (DS n p1 l2 a1 m8) a4=some r:=h
 unfold DE at h
 try dsimp only
 refine AE (AE ?_)
 refine AB h fun y4 hy4 h=>?_
 refine Ai C2 [0] (C0 [(true,0),(true,1),(true,2),(true,3),(true,4),(true,5),(true,6),(true,7),(true,8),(true,9),(true,10),(true,11),(false,12),(false,13),(false,14)]) zK (J E (J E (V E Ex (J E ?_))))
 refine Du 49 11 60 hy4 E (fun hb hg2 k=>?_) (fun hb k=>?_) ?_
 obtain⟨x10,hx10,hg2⟩:=Da hg2
 obtain⟨x11,hx11,hg2⟩:=Da hg2
 obtain⟨y3,hy3,hg2⟩:=Da hg2
 obtain rfl:=zI hg2
 refine J E (J E ?_)
 refine AZ 0 hx10 E Af Aa E E E fun g7 m9 cp7 hv7=>?_
 refine Aq E Ah E (AS (sz:=1) (enc:=AQ) 0 0 zV E hv7 hx10 E) ?_
 refine J E (J E ?_)
 refine AZ 0 hx11 E Af Aa E E E fun g8 m10 cp8 hv8=>?_
 refine Aq E Ah E (AS (sz:=1) (enc:=AQ) 0 0 zV E hv8 hx11 E) ?_
 refine BT 0 F7 (By hy3) E ⟨⟨0,E⟩,zT⟩ (CO E E (An E E E ?_))
 exact k.mono tL
 refine AA E (AA E (AA E (AA E (AA E (AA E (AA E (AA E ?_)))))))
 refine AA E (AA E (An E E E ?_))
 exact k.mono tL
 refine U ?_
 refine AL h E (fun hc2 h=>?_) fun hc2 h=>?_
 refine AH (AI (AK (AJ ?_)))
 obtain⟨x12,ex12,h⟩:=BG h
 refine J E (V E BC ?_)
 refine AX (u:=vI x12) E E (congrArg vI ex12) ?_
 refine AT (Ao ?_)
 exact Am (m8,x12) h (Nat.lt_succ_self _) tL (A5 [0] 1 E E E)
 refine Av (Ay (BP (A0 ?_)))
 exact Ak a4 h tL (A5 [0] 1 E E E)
 unfold DQ at h
 try dsimp only
 refine AE (Y (J E (J E (V E C8 (U ?_)))))
 refine AL h E (fun hc3 h=>?_) fun hc3 h=>?_
 refine AE ?_
 refine AB h fun x13 hx13 h=>?_
 refine AB h fun x14 hx14 h=>?_
 refine AB h fun x15 hx15 h=>?_
 refine AB h fun l3 hl3 h=>?_
 refine AB h fun x16 hx16 h=>?_
 refine AB h fun l4 hl4 h=>?_
 refine Ai C2 [] (BJ [(true,0),(true,1),(true,2),(true,3),(true,4),(true,5),(true,6),(true,8),(true,9),(true,10)] (.alt 7 (BJ [(false,11),(true,12),(false,13),(true,14)] (.last 15 .nil)) (.cons (false,11) (BJ [(false,7),(true,12),(false,13),(true,14)] (.last 15 .nil))))) zK (J E (J E (J E (J E (J E (J E ?_))))))
 refine AZ 0 hx13 E Af Aa E E E fun g9 m11 cp9 hv9=>?_
 refine J E (J E ?_)
 refine AZ 0 hx14 E Af Aa E E E fun g10 m12 cp10 hv10=>?_
 refine E6 ?_ ?_
 refine Aq E Ah E (AS (sz:=1) (enc:=AQ) 0 0 zV E hv9 hx13 E) ?_
 refine Aq E Ah E (AS (sz:=1) (enc:=AQ) 0 0 zV E hv10 hx14 E) ?_
 refine AZ 0 hx15 E Af Aa E E E fun g11 m13 cp11 hv11=>?_
 refine BB (sz:=1) (enc:=AQ) 0 hl3 zV E E E E E hv11 Aa (by simp[Value.oneCell']) zT ?_
 refine AZ 0 hx16 E Af Aa E E E fun g12 m14 cp12 hv12=>?_
 refine A4 ?_
 refine BB (sz:=1) (enc:=AQ) 0 hl4 zV E E E E E hv12 Aa (by simp[Value.oneCell']) zT ?_
 refine U (Y (J E (O E (O E (U (AM (Ag ?_)))))))
 obtain rfl:=zI h
 exact AW [0] 1 E E E
 refine Aq E Ah E (AS (sz:=1) (enc:=AQ) 0 0 zV E hv10 hx14 E) ?_
 refine Aq E Ah E (AS (sz:=1) (enc:=AQ) 0 0 zV E hv9 hx13 E) ?_
 refine AZ 0 hx15 E Af Aa E E E fun g11 m13 cp11 hv11=>?_
 refine BB (sz:=1) (enc:=AQ) 0 hl3 zV E E E E E hv11 Aa (by simp[Value.oneCell']) zT ?_
 refine AZ 0 hx16 E Af Aa E E E fun g12 m14 cp12 hv12=>?_
 refine A4 ?_
 refine BB (sz:=1) (enc:=AQ) 0 hl4 zV E E E E E hv12 Aa (by simp[Value.oneCell']) zT ?_
 refine U (Y (J E (O E (O E (U (AM (Ag ?_)))))))
 obtain rfl:=zI h
 exact AW [0] 1 E E E
 refine AH (AI (AE ?_))
 refine AB h fun x17 hx17 h=>?_
 refine AB h fun x18 hx18 h=>?_
 refine AB h fun x19 hx19 h=>?_
 refine AB h fun l5 hl5 h=>?_
 refine AB h fun x20 hx20 h=>?_
 refine AB h fun l6 hl6 h=>?_
 refine Ai C2 [] (BJ [(true,0),(true,1),(true,2),(true,3),(true,4),(true,5),(true,6),(true,8),(true,9),(true,10)] (.alt 7 (BJ [(false,11),(true,12),(false,13),(true,14)] (.last 15 .nil)) (.cons (false,11) (BJ [(false,7),(true,12),(false,13),(true,14)] (.last 15 .nil))))) zK (J E (J E (J E (J E (J E (J E ?_))))))
 refine AZ 0 hx17 E Af Aa E E E fun g13 m15 cp13 hv13=>?_
 refine J E (J E ?_)
 refine AZ 0 hx18 E Af Aa E E E fun g14 m16 cp14 hv14=>?_
 refine E6 ?_ ?_
 refine Aq E Ah E (AS (sz:=1) (enc:=AQ) 0 0 zV E hv13 hx17 E) ?_
 refine Aq E Ah E (AS (sz:=1) (enc:=AQ) 0 0 zV E hv14 hx18 E) ?_
 refine AZ 0 hx19 E Af Aa E E E fun g15 m17 cp15 hv15=>?_
 refine BB (sz:=1) (enc:=AQ) 0 hl5 zV E E E E E hv15 Aa (by simp[Value.oneCell']) zT ?_
 refine AZ 0 hx20 E Af Aa E E E fun g16 m18 cp16 hv16=>?_
 refine A4 ?_
 refine BB (sz:=1) (enc:=AQ) 0 hl6 zV E E E E E hv16 Aa (by simp[Value.oneCell']) zT ?_
 refine U (Y ?_)
 obtain⟨x21,ex21,h⟩:=BG h
 refine J E (V E Aw ?_)
 refine AX (u:=vI x21) E E (congrArg vI ex21) ?_
 refine U (Y ?_)
 obtain⟨x22,ex22,h⟩:=BG h
 refine J E (V E BC ?_)
 refine AX (u:=vI x22) E E (congrArg vI ex22) ?_
 refine U ?_
 refine Az (α:=List UInt32×Int) (fun x=>CL p1 x.1 x.2=some r) (fun x=>[(0,BW),(1,vI p1),(11,vI x.2)]) (fun x=>AD 36 1 BW AQ x.1::H) ?_ (fun x D h=>?_)
 refine AK ?_
 refine SX.heap (SX.mono (A9 (α:=Nat×List UInt32×Int×Int) (fun x=>AU n p1 x.1 (x.2.1,x.2.2.1,x.2.2.2)=some r) (fun x=>[(0,BW),(1,vI p1),(10,vI x.2.2.1),(11,vI x.2.2.2)]) (fun x=>AD 36 1 BW AQ x.2.1::H) (fun x=>x.1) (fun x D h=>?_) (n,l6,x21,x22) h) tL) (A5 [0] 1 E E E)
 obtain⟨m19,l8,a6,a7⟩:=x
 dsimp only at h
 rcases m19 with _ | m19
 cases (show(none:Option _)=some r from h)
 replace h:Bz n p1 (AU n p1 m19) l8 a6 a7=some r:=h
 unfold Bz at h
 try dsimp only
 refine AK ?_
 refine Az (α:=Int) (fun x=>B5 n p1 l8 a7 (AU n p1 m19) x=some r) (fun x=>[(0,BW),(1,vI p1),(10,vI x),(11,vI a7)]) (fun x=>AD 36 1 BW AQ l8::H) ?_ (fun a8 D h=>?_)
 refine AK ?_
 refine SX.heap (SX.mono (A9 (α:=Nat×Int) (fun x=>B7 n p1 l8 a7 (AU n p1 m19) x.1 x.2=some r) (fun x=>[(0,BW),(1,vI p1),(10,vI x.2),(11,vI a7)]) (fun x=>AD 36 1 BW AQ l8::H) (fun x=>x.1) (fun x D h=>?_) (n,a6) h) tL) (A5 [0] 1 E E E)
 obtain⟨m20,a9⟩:=x
 dsimp only at h
 rcases m20 with _ | m20
 cases (show(none:Option _)=some r from h)
 replace h:B0 n p1 l8 a7 (AU n p1 m19) (B7 n p1 l8 a7 (AU n p1 m19) m20) a9=some r:=h
 unfold B0 at h
 try dsimp only
 refine AE (AE ?_)
 refine AB h fun y6 hy6 h=>?_
 refine Ai C2 [0] (C0 [(true,0),(true,1),(true,2),(true,3),(true,4),(true,5),(true,6),(true,7),(true,8),(true,9),(true,10),(true,11),(false,12),(false,13)]) zK (J E (J E (V E Ex (J E ?_))))
 refine Du 102 10 112 hy6 E (fun hb hg3 k=>?_) (fun hb k=>?_) ?_
 obtain⟨x23,hx23,hg3⟩:=Da hg3
 obtain⟨x24,hx24,hg3⟩:=Da hg3
 obtain⟨y5,hy5,hg3⟩:=Da hg3
 obtain rfl:=zI hg3
 refine J E (J E ?_)
 refine AZ 0 hx23 E Af Aa E E E fun g17 m21 cp17 hv17=>?_
 refine Aq E Ah E (AS (sz:=1) (enc:=AQ) 0 0 zV E hv17 hx23 E) ?_
 refine J E (J E ?_)
 refine AZ 0 hx24 E Af Aa E E E fun g18 m22 cp18 hv18=>?_
 refine Aq E Ah E (AS (sz:=1) (enc:=AQ) 0 0 zV E hv18 hx24 E) ?_
 refine BT 0 F7 (By hy5) E ⟨⟨0,E⟩,zT⟩ (An E E E ?_)
 exact k.mono tL
 refine AA E (AA E (AA E (AA E (AA E (AA E (AA E (AA E ?_)))))))
 refine AA E (An E E E ?_)
 exact k.mono tL
 refine U ?_
 refine AL h E (fun hc4 h=>?_) fun hc4 h=>?_
 refine AH (AI (AK (AJ ?_)))
 obtain⟨x25,ex25,h⟩:=BG h
 refine J E (V E Aw ?_)
 refine AX (u:=vI x25) E E (congrArg vI ex25) ?_
 refine AT (Ao ?_)
 exact Am (m20,x25) h (Nat.lt_succ_self _) tL (A5 [0] 1 E E E)
 refine Av (Ay (BP (A0 ?_)))
 exact Ak a9 h tL (A5 [0] 1 E E E)
 unfold B5 at h
 try dsimp only
 refine Az (α:=Int) (fun x=>B6 p1 l8 a8 (AU n p1 m19) x=some r) (fun x=>[(0,BW),(1,vI p1),(10,vI a8),(11,vI x)]) (fun x=>AD 36 1 BW AQ l8::H) ?_ (fun a10 D h=>?_)
 refine AK ?_
 refine SX.heap (SX.mono (A9 (α:=Nat×Int) (fun x=>B8 p1 l8 a8 (AU n p1 m19) x.1 x.2=some r) (fun x=>[(0,BW),(1,vI p1),(10,vI a8),(11,vI x.2)]) (fun x=>AD 36 1 BW AQ l8::H) (fun x=>x.1) (fun x D h=>?_) (n,a7) h) tL) (A5 [0] 1 E E E)
 obtain⟨m23,a11⟩:=x
 dsimp only at h
 rcases m23 with _ | m23
 cases (show(none:Option _)=some r from h)
 replace h:B1 p1 l8 a8 (AU n p1 m19) (B8 p1 l8 a8 (AU n p1 m19) m23) a11=some r:=h
 unfold B1 at h
 try dsimp only
 refine AE (AE ?_)
 refine AB h fun y8 hy8 h=>?_
 refine Ai C2 [0] (C0 [(true,0),(true,1),(true,2),(true,3),(true,4),(true,5),(true,6),(true,7),(true,8),(true,9),(true,10),(true,11),(false,12),(false,13),(false,14)]) zK (J E (J E (V E Ex (J E ?_))))
 refine Du 118 11 129 hy8 E (fun hb hg4 k=>?_) (fun hb k=>?_) ?_
 obtain⟨x26,hx26,hg4⟩:=Da hg4
 obtain⟨x27,hx27,hg4⟩:=Da hg4
 obtain⟨y7,hy7,hg4⟩:=Da hg4
 obtain rfl:=zI hg4
 refine J E (J E ?_)
 refine AZ 0 hx26 E Af Aa E E E fun g19 m24 cp19 hv19=>?_
 refine Aq E Ah E (AS (sz:=1) (enc:=AQ) 0 0 zV E hv19 hx26 E) ?_
 refine J E (J E ?_)
 refine AZ 0 hx27 E Af Aa E E E fun g20 m25 cp20 hv20=>?_
 refine Aq E Ah E (AS (sz:=1) (enc:=AQ) 0 0 zV E hv20 hx27 E) ?_
 refine BT 0 F7 (By hy7) E ⟨⟨0,E⟩,zT⟩ (CO E E (An E E E ?_))
 exact k.mono tL
 refine AA E (AA E (AA E (AA E (AA E (AA E (AA E (AA E ?_)))))))
 refine AA E (AA E (An E E E ?_))
 exact k.mono tL
 refine U ?_
 refine AL h E (fun hc5 h=>?_) fun hc5 h=>?_
 refine AH (AI (AK (AJ ?_)))
 obtain⟨x28,ex28,h⟩:=BG h
 refine J E (V E BC ?_)
 refine AX (u:=vI x28) E E (congrArg vI ex28) ?_
 refine AT (Ao ?_)
 exact Am (m23,x28) h (Nat.lt_succ_self _) tL (A5 [0] 1 E E E)
 refine Av (Ay (BP (A0 ?_)))
 exact Ak a11 h tL (A5 [0] 1 E E E)
 unfold B6 at h
 try dsimp only
 refine AE (Y (J E (J E (V E C8 (U ?_)))))
 refine AL h E (fun hc6 h=>?_) fun hc6 h=>?_
 refine Av (Ay (FK (BP (A0 ?_))))
 exact Ak (l8,a10) h tL (A5 [0] 1 E E E)
 refine AH (AI (AE ?_))
 refine AB h fun x29 hx29 h=>?_
 refine AB h fun x30 hx30 h=>?_
 refine AB h fun x31 hx31 h=>?_
 refine AB h fun l9 hl9 h=>?_
 refine AB h fun x32 hx32 h=>?_
 refine AB h fun l10 hl10 h=>?_
 refine Ai C2 [] (BJ [(true,0),(true,1),(true,2),(true,3),(true,4),(true,5),(true,6),(true,8),(true,9),(true,10)] (.alt 7 (BJ [(false,11),(true,12),(false,13),(true,14)] (.last 15 .nil)) (.cons (false,11) (BJ [(false,7),(true,12),(false,13),(true,14)] (.last 15 .nil))))) zK (J E (J E (J E (J E (J E (J E ?_))))))
 refine AZ 0 hx29 E Af Aa E E E fun g21 m26 cp21 hv21=>?_
 refine J E (J E ?_)
 refine AZ 0 hx30 E Af Aa E E E fun g22 m27 cp22 hv22=>?_
 refine E6 ?_ ?_
 refine Aq E Ah E (AS (sz:=1) (enc:=AQ) 0 0 zV E hv21 hx29 E) ?_
 refine Aq E Ah E (AS (sz:=1) (enc:=AQ) 0 0 zV E hv22 hx30 E) ?_
 refine AZ 0 hx31 E Af Aa E E E fun g23 m28 cp23 hv23=>?_
 refine BB (sz:=1) (enc:=AQ) 0 hl9 zV E E E E E hv23 Aa (by simp[Value.oneCell']) zT ?_
 refine AZ 0 hx32 E Af Aa E E E fun g24 m29 cp24 hv24=>?_
 refine A4 ?_
 refine BB (sz:=1) (enc:=AQ) 0 hl10 zV E E E E E hv24 Aa (by simp[Value.oneCell']) zT ?_
 refine U (Y ?_)
 obtain⟨x33,ex33,h⟩:=BG h
 refine J E (V E Aw ?_)
 refine AX (u:=vI x33) E E (congrArg vI ex33) ?_
 refine U (AJ ?_)
 obtain⟨x34,ex34,h⟩:=BG h
 refine J E (V E BC ?_)
 refine AX (u:=vI x34) E E (congrArg vI ex34) ?_
 refine AT (Ao ?_)
 exact Am (m19,l10,x33,x34) h (Nat.lt_succ_self _) tL (A5 [0] 1 E E E)
 refine Aq E Ah E (AS (sz:=1) (enc:=AQ) 0 0 zV E hv22 hx30 E) ?_
 refine Aq E Ah E (AS (sz:=1) (enc:=AQ) 0 0 zV E hv21 hx29 E) ?_
 refine AZ 0 hx31 E Af Aa E E E fun g23 m28 cp23 hv23=>?_
 refine BB (sz:=1) (enc:=AQ) 0 hl9 zV E E E E E hv23 Aa (by simp[Value.oneCell']) zT ?_
 refine AZ 0 hx32 E Af Aa E E E fun g24 m29 cp24 hv24=>?_
 refine A4 ?_
 refine BB (sz:=1) (enc:=AQ) 0 hl10 zV E E E E E hv24 Aa (by simp[Value.oneCell']) zT ?_
 refine U (Y ?_)
 obtain⟨x33,ex33,h⟩:=BG h
 refine J E (V E Aw ?_)
 refine AX (u:=vI x33) E E (congrArg vI ex33) ?_
 refine U (AJ ?_)
 obtain⟨x34,ex34,h⟩:=BG h
 refine J E (V E BC ?_)
 refine AX (u:=vI x34) E E (congrArg vI ex34) ?_
 refine AT (Ao ?_)
 exact Am (m19,l10,x33,x34) h (Nat.lt_succ_self _) tL (A5 [0] 1 E E E)
 obtain⟨l7,a5⟩:=x
 dsimp only at h
 unfold CL at h
 try dsimp only
 refine AE ?_
 refine AB h fun x35 hx35 h=>?_
 refine AB h fun x36 hx36 h=>?_
 refine AB h fun x37 hx37 h=>?_
 refine AB h fun l11 hl11 h=>?_
 refine AB h fun x38 hx38 h=>?_
 refine AB h fun l12 hl12 h=>?_
 refine Ai C2 [] (BJ [(true,0),(true,1),(true,2),(true,3),(true,4),(true,5),(true,6),(true,8),(true,9),(true,10)] (.alt 7 (BJ [(false,11),(true,12),(false,13),(true,14)] (.last 15 .nil)) (.cons (false,11) (BJ [(false,7),(true,12),(false,13),(true,14)] (.last 15 .nil))))) zK (J E (J E (J E (J E (J E (J E ?_))))))
 refine AZ 0 hx35 E Af Aa E E E fun g25 m30 cp25 hv25=>?_
 refine J E (J E ?_)
 refine AZ 0 hx36 E Af Aa E E E fun g26 m31 cp26 hv26=>?_
 refine E6 ?_ ?_
 refine Aq E Ah E (AS (sz:=1) (enc:=AQ) 0 0 zV E hv25 hx35 E) ?_
 refine Aq E Ah E (AS (sz:=1) (enc:=AQ) 0 0 zV E hv26 hx36 E) ?_
 refine AZ 0 hx37 E Af Aa E E E fun g27 m32 cp27 hv27=>?_
 refine BB (sz:=1) (enc:=AQ) 0 hl11 zV E E E E E hv27 Aa (by simp[Value.oneCell']) zT ?_
 refine AZ 0 hx38 E Af Aa E E E fun g28 m33 cp28 hv28=>?_
 refine A4 ?_
 refine BB (sz:=1) (enc:=AQ) 0 hl12 zV E E E E E hv28 Aa (by simp[Value.oneCell']) zT ?_
 refine U (Y (J E (O E (O E (U (AM ?_))))))
 obtain rfl:=zI h
 exact AW [0] 1 E E E
 refine Aq E Ah E (AS (sz:=1) (enc:=AQ) 0 0 zV E hv26 hx36 E) ?_
 refine Aq E Ah E (AS (sz:=1) (enc:=AQ) 0 0 zV E hv25 hx35 E) ?_
 refine AZ 0 hx37 E Af Aa E E E fun g27 m32 cp27 hv27=>?_
 refine BB (sz:=1) (enc:=AQ) 0 hl11 zV E E E E E hv27 Aa (by simp[Value.oneCell']) zT ?_
 refine AZ 0 hx38 E Af Aa E E E fun g28 m33 cp28 hv28=>?_
 refine A4 ?_
 refine BB (sz:=1) (enc:=AQ) 0 hl12 zV E E E E E hv28 Aa (by simp[Value.oneCell']) zT ?_
 refine U (Y (J E (O E (O E (U (AM ?_))))))
 obtain rfl:=zI h
 exact AW [0] 1 E E E
 refine Aq E Ah E (AS (sz:=1) (enc:=AQ) 0 0 zV E hv14 hx18 E) ?_
 refine Aq E Ah E (AS (sz:=1) (enc:=AQ) 0 0 zV E hv13 hx17 E) ?_
 refine AZ 0 hx19 E Af Aa E E E fun g15 m17 cp15 hv15=>?_
 refine BB (sz:=1) (enc:=AQ) 0 hl5 zV E E E E E hv15 Aa (by simp[Value.oneCell']) zT ?_
 refine AZ 0 hx20 E Af Aa E E E fun g16 m18 cp16 hv16=>?_
 refine A4 ?_
 refine BB (sz:=1) (enc:=AQ) 0 hl6 zV E E E E E hv16 Aa (by simp[Value.oneCell']) zT ?_
 refine U (Y ?_)
 obtain⟨x21,ex21,h⟩:=BG h
 refine J E (V E Aw ?_)
 refine AX (u:=vI x21) E E (congrArg vI ex21) ?_
 refine U (Y ?_)
 obtain⟨x22,ex22,h⟩:=BG h
 refine J E (V E BC ?_)
 refine AX (u:=vI x22) E E (congrArg vI ex22) ?_
 refine U ?_
 refine Az (α:=List UInt32×Int) (fun x=>CL p1 x.1 x.2=some r) (fun x=>[(0,BW),(1,vI p1),(11,vI x.2)]) (fun x=>AD 36 1 BW AQ x.1::H) ?_ (fun x D h=>?_)
 refine AK ?_
 refine SX.heap (SX.mono (A9 (α:=Nat×List UInt32×Int×Int) (fun x=>AU n p1 x.1 (x.2.1,x.2.2.1,x.2.2.2)=some r) (fun x=>[(0,BW),(1,vI p1),(10,vI x.2.2.1),(11,vI x.2.2.2)]) (fun x=>AD 36 1 BW AQ x.2.1::H) (fun x=>x.1) (fun x D h=>?_) (n,l6,x21,x22) h) tL) (A5 [0] 1 E E E)
 obtain⟨m19,l8,a6,a7⟩:=x
 dsimp only at h
 rcases m19 with _ | m19
 cases (show(none:Option _)=some r from h)
 replace h:Bz n p1 (AU n p1 m19) l8 a6 a7=some r:=h
 unfold Bz at h
 try dsimp only
 refine AK ?_
 refine Az (α:=Int) (fun x=>B5 n p1 l8 a7 (AU n p1 m19) x=some r) (fun x=>[(0,BW),(1,vI p1),(10,vI x),(11,vI a7)]) (fun x=>AD 36 1 BW AQ l8::H) ?_ (fun a8 D h=>?_)
 refine AK ?_
 refine SX.heap (SX.mono (A9 (α:=Nat×Int) (fun x=>B7 n p1 l8 a7 (AU n p1 m19) x.1 x.2=some r) (fun x=>[(0,BW),(1,vI p1),(10,vI x.2),(11,vI a7)]) (fun x=>AD 36 1 BW AQ l8::H) (fun x=>x.1) (fun x D h=>?_) (n,a6) h) tL) (A5 [0] 1 E E E)
 obtain⟨m20,a9⟩:=x
 dsimp only at h
 rcases m20 with _ | m20
 cases (show(none:Option _)=some r from h)
 replace h:B0 n p1 l8 a7 (AU n p1 m19) (B7 n p1 l8 a7 (AU n p1 m19) m20) a9=some r:=h
 unfold B0 at h
 try dsimp only
 refine AE (AE ?_)
 refine AB h fun y6 hy6 h=>?_
 refine Ai C2 [0] (C0 [(true,0),(true,1),(true,2),(true,3),(true,4),(true,5),(true,6),(true,7),(true,8),(true,9),(true,10),(true,11),(false,12),(false,13)]) zK (J E (J E (V E Ex (J E ?_))))
 refine Du 102 10 112 hy6 E (fun hb hg3 k=>?_) (fun hb k=>?_) ?_
 obtain⟨x23,hx23,hg3⟩:=Da hg3
 obtain⟨x24,hx24,hg3⟩:=Da hg3
 obtain⟨y5,hy5,hg3⟩:=Da hg3
 obtain rfl:=zI hg3
 refine J E (J E ?_)
 refine AZ 0 hx23 E Af Aa E E E fun g17 m21 cp17 hv17=>?_
 refine Aq E Ah E (AS (sz:=1) (enc:=AQ) 0 0 zV E hv17 hx23 E) ?_
 refine J E (J E ?_)
 refine AZ 0 hx24 E Af Aa E E E fun g18 m22 cp18 hv18=>?_
 refine Aq E Ah E (AS (sz:=1) (enc:=AQ) 0 0 zV E hv18 hx24 E) ?_
 refine BT 0 F7 (By hy5) E ⟨⟨0,E⟩,zT⟩ (An E E E ?_)
 exact k.mono tL
 refine AA E (AA E (AA E (AA E (AA E (AA E (AA E (AA E ?_)))))))
 refine AA E (An E E E ?_)
 exact k.mono tL
 refine U ?_
 refine AL h E (fun hc4 h=>?_) fun hc4 h=>?_
 refine AH (AI (AK (AJ ?_)))
 obtain⟨x25,ex25,h⟩:=BG h
 refine J E (V E Aw ?_)
 refine AX (u:=vI x25) E E (congrArg vI ex25) ?_
 refine AT (Ao ?_)
 exact Am (m20,x25) h (Nat.lt_succ_self _) tL (A5 [0] 1 E E E)
 refine Av (Ay (BP (A0 ?_)))
 exact Ak a9 h tL (A5 [0] 1 E E E)
 unfold B5 at h
 try dsimp only
 refine Az (α:=Int) (fun x=>B6 p1 l8 a8 (AU n p1 m19) x=some r) (fun x=>[(0,BW),(1,vI p1),(10,vI a8),(11,vI x)]) (fun x=>AD 36 1 BW AQ l8::H) ?_ (fun a10 D h=>?_)
 refine AK ?_
 refine SX.heap (SX.mono (A9 (α:=Nat×Int) (fun x=>B8 p1 l8 a8 (AU n p1 m19) x.1 x.2=some r) (fun x=>[(0,BW),(1,vI p1),(10,vI a8),(11,vI x.2)]) (fun x=>AD 36 1 BW AQ l8::H) (fun x=>x.1) (fun x D h=>?_) (n,a7) h) tL) (A5 [0] 1 E E E)
 obtain⟨m23,a11⟩:=x
 dsimp only at h
 rcases m23 with _ | m23
 cases (show(none:Option _)=some r from h)
 replace h:B1 p1 l8 a8 (AU n p1 m19) (B8 p1 l8 a8 (AU n p1 m19) m23) a11=some r:=h
 unfold B1 at h
 try dsimp only
 refine AE (AE ?_)
 refine AB h fun y8 hy8 h=>?_
 refine Ai C2 [0] (C0 [(true,0),(true,1),(true,2),(true,3),(true,4),(true,5),(true,6),(true,7),(true,8),(true,9),(true,10),(true,11),(false,12),(false,13),(false,14)]) zK (J E (J E (V E Ex (J E ?_))))
 refine Du 118 11 129 hy8 E (fun hb hg4 k=>?_) (fun hb k=>?_) ?_
 obtain⟨x26,hx26,hg4⟩:=Da hg4
 obtain⟨x27,hx27,hg4⟩:=Da hg4
 obtain⟨y7,hy7,hg4⟩:=Da hg4
 obtain rfl:=zI hg4
 refine J E (J E ?_)
 refine AZ 0 hx26 E Af Aa E E E fun g19 m24 cp19 hv19=>?_
 refine Aq E Ah E (AS (sz:=1) (enc:=AQ) 0 0 zV E hv19 hx26 E) ?_
 refine J E (J E ?_)
 refine AZ 0 hx27 E Af Aa E E E fun g20 m25 cp20 hv20=>?_
 refine Aq E Ah E (AS (sz:=1) (enc:=AQ) 0 0 zV E hv20 hx27 E) ?_
 refine BT 0 F7 (By hy7) E ⟨⟨0,E⟩,zT⟩ (CO E E (An E E E ?_))
 exact k.mono tL
 refine AA E (AA E (AA E (AA E (AA E (AA E (AA E (AA E ?_)))))))
 refine AA E (AA E (An E E E ?_))
 exact k.mono tL
 refine U ?_
 refine AL h E (fun hc5 h=>?_) fun hc5 h=>?_
 refine AH (AI (AK (AJ ?_)))
 obtain⟨x28,ex28,h⟩:=BG h
 refine J E (V E BC ?_)
 refine AX (u:=vI x28) E E (congrArg vI ex28) ?_
 refine AT (Ao ?_)
 exact Am (m23,x28) h (Nat.lt_succ_self _) tL (A5 [0] 1 E E E)
 refine Av (Ay (BP (A0 ?_)))
 exact Ak a11 h tL (A5 [0] 1 E E E)
 unfold B6 at h
 try dsimp only
 refine AE (Y (J E (J E (V E C8 (U ?_)))))
 refine AL h E (fun hc6 h=>?_) fun hc6 h=>?_
 refine Av (Ay (FK (BP (A0 ?_))))
 exact Ak (l8,a10) h tL (A5 [0] 1 E E E)
 refine AH (AI (AE ?_))
 refine AB h fun x29 hx29 h=>?_
 refine AB h fun x30 hx30 h=>?_
 refine AB h fun x31 hx31 h=>?_
 refine AB h fun l9 hl9 h=>?_
 refine AB h fun x32 hx32 h=>?_
 refine AB h fun l10 hl10 h=>?_
 refine Ai C2 [] (BJ [(true,0),(true,1),(true,2),(true,3),(true,4),(true,5),(true,6),(true,8),(true,9),(true,10)] (.alt 7 (BJ [(false,11),(true,12),(false,13),(true,14)] (.last 15 .nil)) (.cons (false,11) (BJ [(false,7),(true,12),(false,13),(true,14)] (.last 15 .nil))))) zK (J E (J E (J E (J E (J E (J E ?_))))))
 refine AZ 0 hx29 E Af Aa E E E fun g21 m26 cp21 hv21=>?_
 refine J E (J E ?_)
 refine AZ 0 hx30 E Af Aa E E E fun g22 m27 cp22 hv22=>?_
 refine E6 ?_ ?_
 refine Aq E Ah E (AS (sz:=1) (enc:=AQ) 0 0 zV E hv21 hx29 E) ?_
 refine Aq E Ah E (AS (sz:=1) (enc:=AQ) 0 0 zV E hv22 hx30 E) ?_
 refine AZ 0 hx31 E Af Aa E E E fun g23 m28 cp23 hv23=>?_
 refine BB (sz:=1) (enc:=AQ) 0 hl9 zV E E E E E hv23 Aa (by simp[Value.oneCell']) zT ?_
 refine AZ 0 hx32 E Af Aa E E E fun g24 m29 cp24 hv24=>?_
 refine A4 ?_
 refine BB (sz:=1) (enc:=AQ) 0 hl10 zV E E E E E hv24 Aa (by simp[Value.oneCell']) zT ?_
 refine U (Y ?_)
 obtain⟨x33,ex33,h⟩:=BG h
 refine J E (V E Aw ?_)
 refine AX (u:=vI x33) E E (congrArg vI ex33) ?_
 refine U (AJ ?_)
 obtain⟨x34,ex34,h⟩:=BG h
 refine J E (V E BC ?_)
 refine AX (u:=vI x34) E E (congrArg vI ex34) ?_
 refine AT (Ao ?_)
 exact Am (m19,l10,x33,x34) h (Nat.lt_succ_self _) tL (A5 [0] 1 E E E)
 refine Aq E Ah E (AS (sz:=1) (enc:=AQ) 0 0 zV E hv22 hx30 E) ?_
 refine Aq E Ah E (AS (sz:=1) (enc:=AQ) 0 0 zV E hv21 hx29 E) ?_
 refine AZ 0 hx31 E Af Aa E E E fun g23 m28 cp23 hv23=>?_
 refine BB (sz:=1) (enc:=AQ) 0 hl9 zV E E E E E hv23 Aa (by simp[Value.oneCell']) zT ?_
 refine AZ 0 hx32 E Af Aa E E E fun g24 m29 cp24 hv24=>?_
 refine A4 ?_
 refine BB (sz:=1) (enc:=AQ) 0 hl10 zV E E E E E hv24 Aa (by simp[Value.oneCell']) zT ?_
 refine U (Y ?_)
 obtain⟨x33,ex33,h⟩:=BG h
 refine J E (V E Aw ?_)
 refine AX (u:=vI x33) E E (congrArg vI ex33) ?_
 refine U (AJ ?_)
 obtain⟨x34,ex34,h⟩:=BG h
 refine J E (V E BC ?_)
 refine AX (u:=vI x34) E E (congrArg vI ex34) ?_
 refine AT (Ao ?_)
 exact Am (m19,l10,x33,x34) h (Nat.lt_succ_self _) tL (A5 [0] 1 E E E)
 obtain⟨l7,a5⟩:=x
 dsimp only at h
 unfold CL at h
 try dsimp only
 refine AE ?_
 refine AB h fun x35 hx35 h=>?_
 refine AB h fun x36 hx36 h=>?_
 refine AB h fun x37 hx37 h=>?_
 refine AB h fun l11 hl11 h=>?_
 refine AB h fun x38 hx38 h=>?_
 refine AB h fun l12 hl12 h=>?_
 refine Ai C2 [] (BJ [(true,0),(true,1),(true,2),(true,3),(true,4),(true,5),(true,6),(true,8),(true,9),(true,10)] (.alt 7 (BJ [(false,11),(true,12),(false,13),(true,14)] (.last 15 .nil)) (.cons (false,11) (BJ [(false,7),(true,12),(false,13),(true,14)] (.last 15 .nil))))) zK (J E (J E (J E (J E (J E (J E ?_))))))
 refine AZ 0 hx35 E Af Aa E E E fun g25 m30 cp25 hv25=>?_
 refine J E (J E ?_)
 refine AZ 0 hx36 E Af Aa E E E fun g26 m31 cp26 hv26=>?_
 refine E6 ?_ ?_
 refine Aq E Ah E (AS (sz:=1) (enc:=AQ) 0 0 zV E hv25 hx35 E) ?_
 refine Aq E Ah E (AS (sz:=1) (enc:=AQ) 0 0 zV E hv26 hx36 E) ?_
 refine AZ 0 hx37 E Af Aa E E E fun g27 m32 cp27 hv27=>?_
 refine BB (sz:=1) (enc:=AQ) 0 hl11 zV E E E E E hv27 Aa (by simp[Value.oneCell']) zT ?_
 refine AZ 0 hx38 E Af Aa E E E fun g28 m33 cp28 hv28=>?_
 refine A4 ?_
 refine BB (sz:=1) (enc:=AQ) 0 hl12 zV E E E E E hv28 Aa (by simp[Value.oneCell']) zT ?_
 refine U (Y (J E (O E (O E (U (AM ?_))))))
 obtain rfl:=zI h
 exact AW [0] 1 E E E
 refine Aq E Ah E (AS (sz:=1) (enc:=AQ) 0 0 zV E hv26 hx36 E) ?_
 refine Aq E Ah E (AS (sz:=1) (enc:=AQ) 0 0 zV E hv25 hx35 E) ?_
 refine AZ 0 hx37 E Af Aa E E E fun g27 m32 cp27 hv27=>?_
 refine BB (sz:=1) (enc:=AQ) 0 hl11 zV E E E E E hv27 Aa (by simp[Value.oneCell']) zT ?_
 refine AZ 0 hx38 E Af Aa E E E fun g28 m33 cp28 hv28=>?_
 refine A4 ?_
 refine BB (sz:=1) (enc:=AQ) 0 hl12 zV E E E E E hv28 Aa (by simp[Value.oneCell']) zT ?_
 refine U (Y (J E (O E (O E (U (AM ?_))))))
 obtain rfl:=zI h
 exact AW [0] 1 E E E
end

section
variable {K:Nat→Prop}{w0:World}{H:List Ab}
def Dh(n:Nat)(rec_:(List UInt32)→Int→Int→Int→Option (List UInt32))(a1:Int)(a2:Int)(a4:Bool)(a5:Bool)(x1:Int)(a6:Int)(a7:Int)(nx_f_slices_pdqsortOrdered_uint32_l1:List UInt32×Int×Int×Int×Bool×Bool→Option (List UInt32))(l4:List UInt32):Option (List UInt32):=
 (E3 (decide (0<a1)) ((A1 l4 (wI (a1-1))).bind fun x4=>(A1 l4 a7).bind fun x5=>(Cr x4 x5).bind fun y7=>some (!y7))).bind fun y8=>
 cond y8
 (
  (EJ n l4 a1 a2 a7).bind fun y9=>
  nx_f_slices_pdqsortOrdered_uint32_l1 (y9.2,y9.1,a2,a6,a4,a5))
 (
  (Ep n l4 a1 a2 a7).bind fun y10=>
  ret (wI (y10.1-a1)) fun x6=>
  ret (wI (a2-y10.1)) fun x7=>
  (K0 x1 8).bind fun q1=>
  cond (decide (x6<x7))
  (
   ret (decide (q1≤x6)) fun x8=>
   (rec_ y10.2.2 a1 y10.1 a6).bind fun y11=>
   ret (wI (y10.1+1)) fun x9=>
   nx_f_slices_pdqsortOrdered_uint32_l1 (y11,x9,a2,a6,x8,y10.2.1))
  (
   ret (decide (q1≤x7)) fun x10=>
   (rec_ y10.2.2 (wI (y10.1+1)) a2 a6).bind fun y12=>
   nx_f_slices_pdqsortOrdered_uint32_l1 (y12,a1,y10.1,a6,x10,y10.2.1)))
def EE(n:Nat)(rec_:(List UInt32)→Int→Int→Int→Option (List UInt32))(a1:Int)(a2:Int)(a4:Bool)(a5:Bool)(x1:Int)(a6:Int)(nx_f_slices_pdqsortOrdered_uint32_l1:List UInt32×Int×Int×Int×Bool×Bool→Option (List UInt32))(l3:List UInt32)(a7:Int)(a8:Int):Option (List UInt32):=
 cond ((a4&&a5)&&(decide (a8=1)))
 (
  (Dk n l3 a1 a2).bind fun y6=>
  cond y6.1
  (
   some y6.2)
  (
   Dh n rec_ a1 a2 a4 a5 x1 a6 a7 nx_f_slices_pdqsortOrdered_uint32_l1 y6.2))
 (
  Dh n rec_ a1 a2 a4 a5 x1 a6 a7 nx_f_slices_pdqsortOrdered_uint32_l1 l3)
def ED(n:Nat)(rec_:(List UInt32)→Int→Int→Int→Option (List UInt32))(a1:Int)(a2:Int)(a4:Bool)(a5:Bool)(x1:Int)(nx_f_slices_pdqsortOrdered_uint32_l1:List UInt32×Int×Int×Int×Bool×Bool→Option (List UInt32))(l2:List UInt32)(a6:Int):Option (List UInt32):=
 (Eb l2 a1 a2).bind fun y4=>
 cond (decide (y4.2=2))
 (
  (EX n l2 a1 a2).bind fun y5=>
  ret (wI ((wI (a2-1))-(wI (y4.1-a1)))) fun x3=>
  EE n rec_ a1 a2 a4 a5 x1 a6 nx_f_slices_pdqsortOrdered_uint32_l1 y5 x3 1)
 (
  EE n rec_ a1 a2 a4 a5 x1 a6 nx_f_slices_pdqsortOrdered_uint32_l1 l2 y4.1 y4.2)
def CM(n:Nat)(rec_:(List UInt32)→Int→Int→Int→Option (List UInt32))(nx_f_slices_pdqsortOrdered_uint32_l1:List UInt32×Int×Int×Int×Bool×Bool→Option (List UInt32))(l1:List UInt32)(a1:Int)(a2:Int)(a3:Int)(a4:Bool)(a5:Bool):Option (List UInt32):=
 ret (wI (a2-a1)) fun x1=>
 cond (decide (x1≤12))
 (
  (ET n l1 a1 a2).bind fun y1=>
  some y1)
 (
  cond (decide (a3=0))
  (
   (Ez n l1 a1 a2).bind fun y2=>
   some y2)
  (
   cond (!a4)
   (
    (EQ n l1 a1 a2).bind fun y3=>
    ret (wI (a3-1)) fun x2=>
    ED n rec_ a1 a2 a4 a5 x1 nx_f_slices_pdqsortOrdered_uint32_l1 y3 x2)
   (
    ED n rec_ a1 a2 a4 a5 x1 nx_f_slices_pdqsortOrdered_uint32_l1 l1 a3)))
def Bk(n:Nat)(rec_:(List UInt32)→Int→Int→Int→Option (List UInt32)):Nat→(List UInt32×Int×Int×Int×Bool×Bool)→Option (List UInt32):=CH fun nx x=>CM n rec_ nx x.1 x.2.1 x.2.2.1 x.2.2.2.1 x.2.2.2.2.1 x.2.2.2.2.2
def G4(rec_:(List UInt32)→Int→Int→Int→Option (List UInt32))(n:Nat)(p0:List UInt32)(p1:Int)(p2:Int)(p3:Int):Option (List UInt32):=
 Bk n rec_ n (p0,p1,p2,p3,true,true)
theorem Or{rec_:(List UInt32)→Int→Int→Int→Option (List UInt32)}{n:Nat}{BW:Value}{p0 r:List UInt32}{p1 p2 p3:Int}(h:G4 rec_ n p0 p1 p2 p3=some r)(hrec:∀ {H:List Ab} {BW:Value} {p0:List UInt32} {p1:Int} {p2:Int} {p3:Int} {r:List UInt32},rec_ p0 p1 p2 p3=some r→zC K w0 207 [BW,vI p1,vI p2,vI p3] [AD 36 1 BW AQ p0] H (fun u M=>u=.tuple #[]∧M=[AD 36 1 BW AQ r])):zC K w0 207 [BW,vI p1,vI p2,vI p3] [AD 36 1 BW AQ p0] H (fun u M=>u=.tuple #[]∧M=[AD 36 1 BW AQ r]):=by
 unfold G4 at h
 refine Vf.enter Tryz.func207 rfl rfl ?_
 refine Y (O E (U (Y (O E (U (AK ?_))))))
 refine SX.heap (SX.mono (A9 (α:=Nat×List UInt32×Int×Int×Int×Bool×Bool) (fun x=>Bk n rec_ x.1 (x.2.1,x.2.2.1,x.2.2.2.1,x.2.2.2.2.1,x.2.2.2.2.2.1,x.2.2.2.2.2.2)=some r) (fun x=>[(0,BW),(1,vI x.2.2.1),(2,vI x.2.2.2.1),(3,vI x.2.2.2.2.1),(8,vB x.2.2.2.2.2.1),(9,vB x.2.2.2.2.2.2)]) (fun x=>AD 36 1 BW AQ x.2.1::H) (fun x=>x.1) (fun x D h=>?_) (n,p0,p1,p2,p3,true,true) h) tL) (A5 [0] 1 E E E)
 obtain⟨m1,l1,a1,a2,a3,a4,a5⟩:=x
 dsimp only at h
 rcases m1 with _ | m1
 cases (show(none:Option _)=some r from h)
 replace h:CM n rec_ (Bk n rec_ m1) l1 a1 a2 a3 a4 a5=some r:=h
 unfold CM at h
 try dsimp only
 refine AK (Y ?_)
 obtain⟨x1,ex1,h⟩:=BG h
 refine J E (J E (V E BC ?_))
 refine AX (u:=vI x1) E E (congrArg vI ex1) ?_
 refine U (AE (Y (J E (V E Ex (U ?_)))))
 refine AL h E (fun hc1 h=>?_) fun hc1 h=>?_
 refine Y ?_
 refine AB h fun y1 hy1 h=>?_
 refine J E (J E (J E (AN 1 tH (MP hy1) E (U (AM (Ag (BO (FB (BO ?_)))))))))
 obtain rfl:=zI h
 exact AW [0] 1 E E E
 refine AH (AI (AE (Y (J E (V E Bv (U ?_))))))
 refine AL h E (fun hc2 h=>?_) fun hc2 h=>?_
 refine Y ?_
 refine AB h fun y2 hy2 h=>?_
 refine J E (J E (J E (AN 1 tI (OH hy2) E (U (AM (Ag (BO (FB (BO ?_)))))))))
 obtain rfl:=zI h
 exact AW [0] 1 E E E
 refine AH (AI ?_)
 refine Az (α:=List UInt32×Int) (fun x=>ED n rec_ a1 a2 a4 a5 x1 (Bk n rec_ m1) x.1 x.2=some r) (fun x=>[(0,BW),(1,vI a1),(2,vI a2),(3,vI x.2),(8,vB a4),(9,vB a5),(10,vI x1)]) (fun x=>AD 36 1 BW AQ x.1::H) ?_ (fun x D h=>?_)
 refine Y (J E (CO E E (U ?_)))
 refine AL h E (fun hc3 h=>?_) fun hc3 h=>?_
 refine Y ?_
 refine AB h fun y3 hy3 h=>?_
 refine J E (J E (J E (AN 1 tJ (MO hy3) E (U (AJ ?_)))))
 obtain⟨x2,ex2,h⟩:=BG h
 refine J E (V E BC ?_)
 refine AX (u:=vI x2) E E (congrArg vI ex2) ?_
 refine AT ?_
 exact Ak (y3,x2) h tL (A5 [0] 1 E E E)
 refine AH ?_
 exact Ak (l1,a3) h tL (A5 [0] 1 E E E)
 obtain⟨l2,a6⟩:=x
 dsimp only at h
 unfold ED at h
 try dsimp only
 refine Y ?_
 refine AB h fun y4 hy4 h=>?_
 refine J E (J E (J E ?_))
 refine Bx (vs:=[_,_,_]) (Hin:=[_]) (Hr:=_) E E ⟨E,E,E,zT⟩ tK E E (Dm (B:=[_]) (Hin:=[]) fun K' w1 hk hB=>M1 hy4 (C1 (e:=36) zV (hB _ zS))) ?_
 rintro _ _ ⟨_,rfl,rfl,rfl⟩
 refine⟨trivial,?_⟩
 refine J E (Ap E E E (Ap E E E (O E (O E (U ?_)))))
 refine Az (α:=List UInt32×Int×Int) (fun x=>EE n rec_ a1 a2 a4 a5 x1 a6 (Bk n rec_ m1) x.1 x.2.1 x.2.2=some r) (fun x=>[(0,BW),(1,vI a1),(2,vI a2),(3,vI a6),(8,vB a4),(9,vB a5),(10,vI x1),(11,vI x.2.1),(12,vI x.2.2)]) (fun x=>AD 36 1 BW AQ x.1::H) ?_ (fun x D h=>?_)
 refine Y (J E (V E Bv (U ?_)))
 refine AL h E (fun hc4 h=>?_) fun hc4 h=>?_
 refine Y ?_
 refine AB h fun y5 hy5 h=>?_
 refine J E (J E (J E (AN 1 tM (Mo hy5) E (U (Y ?_)))))
 obtain⟨x3,ex3,h⟩:=BG h
 refine J E (V E BC (J E (J E (V E BC (V E BC ?_)))))
 refine AX (u:=vI x3) E E (congrArg vI ex3) ?_
 refine U (AJ (O E (AT ?_)))
 exact Ak (y5,x3,1) h tL (A5 [0] 1 E E E)
 refine AH ?_
 exact Ak (l2,y4.1,y4.2) h tL (A5 [0] 1 E E E)
 obtain⟨l3,a7,a8⟩:=x
 dsimp only at h
 unfold EE at h
 refine ZL [(0,BW),(1,vI a1),(2,vI a2),(3,vI a6),(8,vB a4),(9,vB a5),(10,vI x1),(11,vI a7),(12,vI a8)] (AD 36 1 BW AQ l3::H) ?_ tL
 refine Az (α:=List UInt32) (fun x=>Dh n rec_ a1 a2 a4 a5 x1 a6 a7 (Bk n rec_ m1) x=some r) (fun x=>[(0,BW),(1,vI a1),(2,vI a2),(3,vI a6),(8,vB a4),(9,vB a5),(10,vI x1),(11,vI a7)]) (fun x=>AD 36 1 BW AQ x::H) ?_ (fun l4 D h=>?_)
 refine Y (J E (J E ?_))
 refine DT (c:=a5) 62 2 64 E (fun hb k=>?_) (fun hb k=>?_) ?_
 refine J E (An E E E ?_)
 exact k.mono tL
 refine AA E (An E E E ?_)
 exact k.mono tL
 refine J E ?_
 refine DT (c:=decide (a8=1)) 65 3 68 E (fun hb k=>?_) (fun hb k=>?_) ?_
 refine J E (V E Bv (An E E E ?_))
 exact k.mono tL
 refine AA E (AA E (An E E E ?_))
 exact k.mono tL
 refine U ?_
 refine AL h E (fun hc5 h=>?_) fun hc5 h=>?_
 refine Y ?_
 refine AB h fun y6 hy6 h=>?_
 refine J E (J E (J E (AN 1 tN (Jn hy6) E (U ?_))))
 refine AL h E (fun hc6 h=>?_) fun hc6 h=>?_
 refine AM (F9 (BO (FB (BO ?_))))
 obtain rfl:=zI h
 exact AW [0] 1 E E E
 refine AH ?_
 exact Ak y6.2 h tL (A5 [0] 1 E E E)
 refine AH ?_
 exact Ak l3 h tL (A5 [0] 1 E E E)
 unfold Dh at h
 try dsimp only
 refine AE (AE ?_)
 refine AB h fun y8 hy8 h=>?_
 refine Ai C2 [0] (C0 [(true,0),(true,1),(true,2),(true,3),(true,4),(true,5),(true,6),(true,7),(true,8),(true,9),(true,10),(true,11),(false,12),(false,13),(false,14)]) zK (J E (V E C8 (J E ?_)))
 refine Du 75 12 87 hy8 E (fun hb hg3 k=>?_) (fun hb k=>?_) ?_
 obtain⟨x4,hx4,hg3⟩:=Da hg3
 obtain⟨x5,hx5,hg3⟩:=Da hg3
 obtain⟨y7,hy7,hg3⟩:=Da hg3
 obtain rfl:=zI hg3
 refine J E (J E (V E BC ?_))
 refine AZ 0 hx4 E Af Aa E E E fun g1 m2 cp1 hv1=>?_
 refine Aq E Ah E (AS (sz:=1) (enc:=AQ) 0 0 zV E hv1 hx4 E) ?_
 refine J E (J E ?_)
 refine AZ 0 hx5 E Af Aa E E E fun g2 m3 cp2 hv2=>?_
 refine Aq E Ah E (AS (sz:=1) (enc:=AQ) 0 0 zV E hv2 hx5 E) ?_
 refine BT 0 F7 (By hy7) E ⟨⟨0,E⟩,zT⟩ (CO E E (An E E E ?_))
 exact k.mono tL
 refine AA E (AA E (AA E (AA E (AA E (AA E (AA E (AA E ?_)))))))
 refine AA E (AA E (AA E (An E E E ?_)))
 exact k.mono tL
 refine U ?_
 refine AL h E (fun hc7 h=>?_) fun hc7 h=>?_
 refine Y ?_
 refine AB h fun y9 hy9 h=>?_
 refine J E (J E (J E (J E (AN 1 tO (Lf hy9) E (O E (U (Y (J E (O E (U (Av (Ay (A0 ?_)))))))))))))
 exact Am (m1,y9.2,y9.1,a2,a6,a4,a5) h (Nat.lt_succ_self _) tL (A5 [0] 1 E E E)
 refine AH (AI (Y ?_))
 refine AB h fun y10 hy10 h=>?_
 refine J E (J E (J E (J E (AN 1 tP (OA hy10) E (J E (Ap E E E (Ap E E E ?_)))))))
 refine O E (O E (U (Y (J E (O E (U (Y ?_)))))))
 obtain⟨x6,ex6,h⟩:=BG h
 obtain⟨x7,ex7,h⟩:=BG h
 refine J E (J E (V E BC (J E (J E (V E BC ?_)))))
 refine AX (u:=vI x6) E E (congrArg vI ex6) ?_
 refine AX (u:=vI x7) E E (congrArg vI ex7) ?_
 refine U (Y ?_)
 refine AB h fun q1 hq1 h=>?_
 refine J E (V E (K6 hq1) (O E (U (Y (J E (J E (V E BL (U ?_))))))))
 refine AL h E (fun hc8 h=>?_) fun hc8 h=>?_
 refine Y ?_
 obtain⟨x8,ex8,h⟩:=BG h
 refine J E (J E (V E FH ?_))
 refine AX (u:=vB x8) E E (congrArg vB ex8) ?_
 refine U (Y ?_)
 refine AB h fun y11 hy11 h=>?_
 refine J E (J E (J E (J E (AN 1 df (hrec hy11) E (U (AJ ?_))))))
 obtain⟨x9,ex9,h⟩:=BG h
 refine J E (V E Aw ?_)
 refine AX (u:=vI x9) E E (congrArg vI ex9) ?_
 refine AT (Ao ?_)
 exact Am (m1,y11,x9,a2,a6,x8,y10.2.1) h (Nat.lt_succ_self _) tL (A5 [0] 1 E E E)
 refine Y ?_
 obtain⟨x10,ex10,h⟩:=BG h
 refine J E (J E (V E FH ?_))
 refine AX (u:=vB x10) E E (congrArg vB ex10) ?_
 refine U (Y ?_)
 refine AB h fun y12 hy12 h=>?_
 refine J E (J E (V E Aw (J E (J E (AN 1 df (hrec hy12) E (U (AJ (J E (O E (AT (Ao ?_)))))))))))
 exact Am (m1,y12,a1,y10.1,a6,x10,y10.2.1) h (Nat.lt_succ_self _) tL (A5 [0] 1 E E E)
end

section
open Go Go.Sort
abbrev CN:UInt32→UInt32→Bool:=fun a b=>decide (a<b)
theorem Oi(a b:UInt32):Cr a b=some (CN a b):=by
 simp[Cr,Ht,ret,E3]
theorem Ik{d:Array UInt32}{z:Int}{i:Nat}(hz:z=(i:Int))(hi:i<d.size):A1 d.toList z=some d[i]! := by
 rw[L5 hz]
 simp[hi]
theorem ud{d:Array UInt32}{z:Int}{i:Nat}{x:UInt32}(hz:z=(i:Int))(hi:i<d.size):FX d.toList z x=some (d.setIfInBounds i x).toList:=by
 rw[MA hz (by simpa using hi)]
 simp
theorem Cd(d:Array UInt32)(i j:Nat):(swp d i j).size=d.size:=by simp[swp]
theorem Nw{β:Type}{d:Array UInt32}{zi zj:Int}{i j:Nat}(h1:zi=(i:Int))(h2:zj=(j:Int))(hi:i<d.size)(hj:j<d.size)(k:List UInt32→Option β):
  ((A1 d.toList zj).bind fun x1=>(A1 d.toList zi).bind fun x2=>(A1 d.toList zi).bind fun _=>(FX d.toList zi x1).bind fun l2=>(A1 l2 zj).bind fun _=>(FX l2 zj x2).bind fun l3=>k l3)=k (swp d i j).toList:=by
 rw[Ik h2 hj,Z,Ik h1 hi,Z,Z,ud h1 hi,Z,Ik h2 (by simpa using hj),Z,ud h2 (by simpa using hj),Z]
 rfl
theorem aU{d:Array UInt32}{a b s:Nat}(ha:a<d.size)(hb:b<d.size)(hs:s<1000):EC d.toList a b s=some (((order2 CN d a b s).1:Int),((order2 CN d a b s).2.1:Int),((order2 CN d a b s).2.2:Int)):=by
 unfold EC order2
 rw[Ik rfl hb,Z,Ik rfl ha,Z,Oi,Z,BV zO zO]
 cases CN d[b]! d[a]! <;> simp
theorem Qx{d:Array UInt32}{a b s n:Nat}(ha:a<n)(hb:b<n):(order2 CN d a b s).1<n∧(order2 CN d a b s).2.1<n∧(order2 CN d a b s).2.2≤s+1:=by
 unfold order2
 cases CN d[b]! d[a]! <;> simp[ha,hb]
theorem aQ{d:Array UInt32}{a b c s:Nat}(ha:a<d.size)(hb:b<d.size)(hc:c<d.size)(hs:s<900):EB d.toList a b c s=some (((median CN d a b c s).1:Int),((median CN d a b c s).2:Int)):=by
 obtain⟨h1,h2,h3⟩:=Qx (d:=d) (s:=s) ha hb
 unfold EB median
 rw[aU ha hb zO,Z]
 dsimp only
 generalize order2 CN d a b s=r1 at h1 h2 h3 ⊢
 obtain⟨h4,h5,h6⟩:=Qx (d:=d) (s:=r1.2.2) h2 hc
 rw[aU h2 hc zO,Z]
 dsimp only
 generalize order2 CN d r1.2.1 c r1.2.2=r2 at h4 h5 h6 ⊢
 rw[aU h1 h4 zO,Z]
theorem jT{d:Array UInt32}{a b c s n:Nat}(ha:a<n)(hb:b<n)(hc:c<n):(median CN d a b c s).1<n∧(median CN d a b c s).2≤s+3:=by
 unfold median
 dsimp only
 obtain⟨h1,h2,h3⟩:=Qx (d:=d) (s:=s) ha hb
 generalize order2 CN d a b s=r1 at h1 h2 h3 ⊢
 obtain⟨h4,h5,h6⟩:=Qx (d:=d) (s:=r1.2.2) h2 hc
 generalize order2 CN d r1.2.1 c r1.2.2=r2 at h4 h5 h6 ⊢
 obtain⟨h7,h8,h9⟩:=Qx (d:=d) (s:=r2.2.2) h1 h4
 exact⟨h8,by omega⟩
def S2:Hint→Int
 | .unknown=>0
 | .increasing=>1
 | .decreasing=>2
theorem aV(s i:Nat):Di (s:Int) (i:Int)=some ((i:Int),S2 (if s=0 then .increasing else if s=12 then .decreasing else .unknown)):=by
 unfold Di
 rw[BE,BE]
 by_cases h0:s=0
 simp[h0,S2]
 by_cases h1:s=12
 simp[h1,S2]
 have e0:¬((s:Int)=0):=zO
 have e1:¬((s:Int)=12):=zO
 simp[h0,h1,e1,S2]
theorem qF{l:Nat}:K0 (l:Int) 4=some ((l / 4:Nat):Int)∨4611686018427387904≤l:=by
 rcases Nat.lt_or_ge l 4611686018427387904 with h | h
 left
 unfold K0
 rw[if_neg zO,Int.tdiv_eq_ediv_of_nonneg zO]
 rw[BV zO zO]
 rfl
 exact .inr h
theorem bN{d:Array UInt32}{a b:Nat}(hab:a<b)(hb:b≤d.size)(hd:d.size<2305843009213693952):Eb d.toList a b=some (((choosePivot CN d a b).1:Int),S2 (choosePivot CN d a b).2):=by
 unfold Eb choosePivot
 have e1:wI ((b:Int)-(a:Int))=((b-a:Nat):Int):=by rw[BV zO zO];omega
 have e2:K0 ((b-a:Nat):Int) 4=some (((b-a) / 4:Nat):Int):=qF.resolve_right zO
 rw[BE,e1,e2,Z,BE,Z,BE,Z,BE]
 have e3:∀k:Nat,k≤3→wI ((a:Int)+wI ((((b-a) / 4:Nat):Int)*(k:Int)))=((a+(b-a) / 4*k:Nat):Int):=by
  intro k hk
  have h1:(((b-a) / 4:Nat):Int)*(k:Int)=(((b-a) / 4*k:Nat):Int):=by simp
  have h2:(b-a) / 4*k≤(b-a) / 4*3:=Nat.mul_le_mul_left _ hk
  have h3:wI (((b-a) / 4*k:Nat):Int)=(((b-a) / 4*k:Nat):Int):=BV zO zO
  rw[h1,h3,BV zO zO]
  simp
 have k1:wI ((a:Int)+wI ((((b-a) / 4:Nat):Int)*1))=_:=e3 1 zO
 have k2:wI ((a:Int)+wI ((((b-a) / 4:Nat):Int)*2))=_:=e3 2 zO
 have k3:wI ((a:Int)+wI ((((b-a) / 4:Nat):Int)*3))=_:=e3 3 zO
 rw[k1,k2,k3]
 have hi:a+(b-a) / 4*1<d.size:=zO
 have hj:a+(b-a) / 4*2<d.size:=zO
 have hk:a+(b-a) / 4*3<d.size:=zO
 have hi1:50≤b-a→1≤a+(b-a) / 4*1∧a+(b-a) / 4*1+1<d.size∧1≤a+(b-a) / 4*2∧a+(b-a) / 4*2+1<d.size∧1≤a+(b-a) / 4*3∧a+(b-a) / 4*3+1<d.size:=zO
 dsimp only
 generalize a+(b-a) / 4*1=i at hi hi1 ⊢
 generalize a+(b-a) / 4*2=j at hj hi1 ⊢
 generalize a+(b-a) / 4*3=k at hk hi1 ⊢
 by_cases h8:8≤b-a
 rw[zt (show(8:Int)≤((b-a:Nat):Int) by omega),Ch,if_pos h8]
 by_cases h50:50≤b-a
 obtain⟨p1,p2,p3,p4,p5,p6⟩:=hi1 h50
 rw[zt (show(50:Int)≤((b-a:Nat):Int) by omega),Ch,if_pos h50]
 have adj:∀x s:Nat,1≤x→x+1<d.size→s<900→Cq d.toList x s=some (((medianAdjacent CN d x s).1:Int),((medianAdjacent CN d x s).2:Int)):=by
  intro x s h1 h2 h3
  unfold Cq medianAdjacent
  have e1:wI ((x:Int)-1)=((x-1:Nat):Int):=by rw[BV zO zO];omega
  have e2:wI ((x:Int)+1)=((x+1:Nat):Int):=by rw[BV zO zO];omega
  rw[e1,e2,aQ zO zO h2 h3,Z]
 have bd:∀x s:Nat,1≤x→x+1<d.size→(medianAdjacent CN d x s).1<d.size∧(medianAdjacent CN d x s).2≤s+3:=fun x s h1 h2=>jT zO zO h2
 obtain⟨b1,b2⟩:=bd i 0 p1 p2
 have a0:Cq d.toList i 0=_:=adj i 0 p1 p2 zO
 rw[a0,Z]
 dsimp only
 generalize medianAdjacent CN d i 0=ri at b1 b2 ⊢
 obtain⟨b3,b4⟩:=bd j ri.2 p3 p4
 rw[adj j ri.2 p3 p4 zO,Z]
 dsimp only
 generalize medianAdjacent CN d j ri.2=rj at b3 b4 ⊢
 obtain⟨b5,b6⟩:=bd k rj.2 p5 p6
 rw[adj k rj.2 p5 p6 zO,Z]
 dsimp only
 generalize medianAdjacent CN d k rj.2=rk at b5 b6 ⊢
 unfold Dj
 rw[aQ b1 b3 b5 zO,Z]
 exact aV _ _
 rw[zf (show ¬(50:Int)≤((b-a:Nat):Int) by omega),Bq,if_neg h50]
 unfold Dj
 have a0:EB d.toList i j k 0=_:=aQ (s:=0) hi hj hk zO
 rw[a0,Z]
 exact aV _ _
 rw[zf (show ¬(8:Int)≤((b-a:Nat):Int) by omega),Bq,if_neg h8]
 exact aV 0 j
theorem nL:∀(m i j:Nat) (d:Array UInt32),j-i<m→j<d.size→d.size<2305843009213693952→EH m (d.toList,(i:Int),(j:Int))=some (reverseLoop i j d).toList:=by
 intro m
 induction m with
 | zero=>intro i j d h;omega
 | succ m ih=>
  intro i j d hm hj hd
  show Dx (EH m) d.toList i j=_
  unfold Dx
  rw[reverseLoop]
  by_cases hij:i<j
  rw[if_pos hij,zt (show(i:Int)<(j:Int) by omega),Ch,Nw rfl rfl zO hj,BE,BE]
  have e1:wI ((i:Int)+1)=((i+1:Nat):Int):=by rw[BV zO zO];omega
  have e2:wI ((j:Int)-1)=((j-1:Nat):Int):=by rw[BV zO zO];omega
  rw[e1,e2]
  exact ih _ _ _ zO (by rw[Cd];omega) (by rw[Cd];exact hd)
  rw[if_neg hij,zf (show ¬(i:Int)<(j:Int) by omega),Bq]
theorem aZ{d:Array UInt32}{a b n:Nat}(hab:a<b)(hb:b≤d.size)(hd:d.size<2305843009213693952)(hn:d.size<n):EX n d.toList a b=some (reverseRange d a b).toList:=by
 unfold EX reverseRange
 have e1:wI ((b:Int)-1)=((b-1:Nat):Int):=by rw[BV zO zO];omega
 rw[BE,e1]
 exact nL n a (b-1) d zO zO hd
theorem wd{hi first:Nat}:∀(m root:Nat) (d:Array UInt32),hi-root<m→root<hi→first+hi≤d.size→d.size<2305843009213693952→
  C7 hi first m (d.toList,(root:Int))=some (siftDown CN hi first root d).toList:=by
 intro m
 induction m with
 | zero=>intro root d h;omega
 | succ m ih=>
  intro root d hm hr hf hd
  show DM hi first (C7 hi first m) d.toList root=_
  unfold DM
  rw[siftDown]
  have e0:wI (2*(root:Int))=((2*root:Nat):Int):=by rw[BV zO zO];omega
  have e1:wI (((2*root:Nat):Int)+1)=((2*root+1:Nat):Int):=by rw[BV zO zO];omega
  have e2:wI (((2*root+1:Nat):Int)+1)=((2*root+2:Nat):Int):=by rw[BV zO zO];omega
  have f1:wI ((first:Int)+((2*root+1:Nat):Int))=((first+(2*root+1):Nat):Int):=by rw[BV zO zO];omega
  rw[e0,BE,e1]
  by_cases hge:2*root+1≥hi
  rw[dif_pos hge,zt (show(hi:Int)≤((2*root+1:Nat):Int) by omega),Ch]
  have f2:wI (((first+(2*root+1):Nat):Int)+1)=((first+(2*root+2):Nat):Int):=by rw[BV zO zO];omega
  have fr:wI ((first:Int)+(root:Int))=((first+root:Nat):Int):=by rw[BV zO zO];omega
  rw[dif_neg hge,zf (show ¬(hi:Int)≤((2*root+1:Nat):Int) by omega),Bq,e2,f1,f2]
  
  have hj:∀c:Nat,c<hi→root<c→Dz first d.toList root (C7 hi first m) c=(if !CN d[first+root]! d[first+c]! then some d.toList else some (siftDown CN hi first c (swp d (first+root) (first+c))).toList):=by
   intro c hc hrc
   have fc:wI ((first:Int)+(c:Int))=((first+c:Nat):Int):=by rw[BV zO zO];omega
   unfold Dz
   rw[fr,fc,Nw rfl rfl zO zO,Ik rfl zO,Z,Ik rfl zO,Z,Oi,Z]
   cases hlt:CN d[first+root]! d[first+c]!
   rfl
   simp only[Bool.not_true,Bq,Bool.false_eq_true,if_false]
   exact ih c _ zO hc (by rw[Cd];exact hf) (by rw[Cd];exact hd)
  by_cases h2:2*root+1+1<hi
  rw[zt (show((2*root+2:Nat):Int)<(hi:Int) by omega)]
  simp only[E3,Ch]
  rw[Ik rfl zO,Z,Ik (i:=first+(2*root+2)) rfl zO,Z,Oi,Z,Z]
  have e9:first+(2*root+1)+1=first+(2*root+2):=zO
  rw[e9]
  cases hc:CN d[first+(2*root+1)]! d[first+(2*root+2)]!
  simp only[Bq,h2,decide_true,Bool.true_and,Bool.false_eq_true,if_false]
  rw[hj _ zO zO]
  split<;>rfl
  simp only[Ch,h2,decide_true,Bool.true_and,if_true,BE]
  rw[hj _ zO zO]
  split
  rfl
  rfl
  rw[zf (show ¬((2*root+2:Nat):Int)<(hi:Int) by omega)]
  simp only[E3,Z,Bq,h2,decide_false,Bool.false_and,Bool.false_eq_true,if_false]
  rw[hj _ zO zO]
  split<;>rfl
theorem HZ(hi first:Nat)(root:Nat)(d:Array UInt32):(siftDown CN hi first root d).size=d.size:=by
 fun_induction siftDown CN hi first root d<;>simp_all[Cd]
theorem am{hi first root n:Nat}{d:Array UInt32}(hr:root<hi)(hf:first+hi≤d.size)(hd:d.size<2305843009213693952)(hn:d.size<n):
  Ds n d.toList root hi first=some (siftDown CN hi first root d).toList:=wd n root d zO hr hf hd
theorem jv{first n:Nat}{d:Array UInt32}(hn:0<n):Ds n d.toList 0 0 first=some (siftDown CN 0 first 0 d).toList:=by
 obtain⟨m,rfl⟩:∃m,n=m+1:=⟨n-1,by omega⟩
 show DM 0 first (C7 0 first m) d.toList 0=_
 unfold DM
 have e0:wI (wI (2*0)+1)=1:=by rw[show(2:Int)*0=0 from rfl,BV (x:=0) zO zO,BV zO zO];rfl
 rw[siftDown,dif_pos zO,e0,BE]
 rfl
theorem mh{first n:Nat}(hn:0<n):∀(m k:Nat) (d:Array UInt32),k<m→first+k≤d.size→d.size<2305843009213693952→d.size<n→
  Ed n first m (d.toList,(k:Int)-1)=some (heapPop CN first k d).toList:=by
 intro m
 induction m with
 | zero=>intro k d h;omega
 | succ m ih=>
  intro k d hm hf hd hdn
  show ES n first (Ed n first m) d.toList ((k:Int)-1)=_
  unfold ES
  cases k with
  | zero=>rfl
  | succ k=>
   have e0:((k+1:Nat):Int)-1=(k:Int):=zO
   have e1:wI ((first:Int)+(k:Int))=((first+k:Nat):Int):=by rw[BV zO zO];omega
   have e2:wI ((k:Int)-1)=(k:Int)-1:=BV zO zO
   rw[e0,zt (show(0:Int)≤(k:Int) by omega),Ch,e1,Nw (i:=first) rfl rfl zO zO]
   have h1:Ds n (swp d first (first+k)).toList 0 (k:Int) first=some (siftDown CN k first 0 (swp d first (first+k))).toList:=by
    rcases Nat.eq_zero_or_pos k with h0 | h0
    subst h0
    exact jv hn
    exact am (root:=0) h0 (by rw[Cd];omega) (by rw[Cd];exact hd) (by rw[Cd];exact hdn)
   rw[h1,Z,BE,e2]
   exact ih k _ zO (by rw[HZ,Cd];omega) (by rw[HZ,Cd];exact hd) (by rw[HZ,Cd];exact hdn)
theorem TX(hi first:Nat):∀(k:Nat) (d:Array UInt32),(heapBuild CN hi first k d).size=d.size
 | 0,d=>rfl
 | k+1,d=>by rw[heapBuild,TX hi first k,HZ]
theorem jO{d:Array UInt32}{a b n:Nat}(hab:a<b)(hb:b≤d.size)(hd:d.size<2305843009213693952)(hn:d.size+1<n):Ez n d.toList a b=some (heapSort CN d a b).toList:=by
 unfold Ez heapSort
 have e1:wI ((b:Int)-(a:Int))=((b-a:Nat):Int):=by rw[BV zO zO];omega
 have e2:wI (((b-a:Nat):Int)-1)=((b-a-1:Nat):Int):=by rw[BV zO zO];omega
 have e3:K0 ((b-a-1:Nat):Int) 2=some (((b-a-1) / 2:Nat):Int):=by
  unfold K0
  rw[if_neg zO,Int.tdiv_eq_ediv_of_nonneg zO,BV zO zO]
  rfl
 rw[e1,BE,e2,e3,Z]
 
 have key:∀(m k:Nat) (d:Array UInt32),k<m→k≤b-a→b≤d.size→d.size<2305843009213693952→d.size+1<n→
   Ec n a ((b-a:Nat):Int) m (d.toList,(k:Int)-1)=some (heapPop CN a (b-a) (heapBuild CN (b-a) a k d)).toList:=by
  intro m
  induction m with
  | zero=>intro k d h;omega
  | succ m ih=>
   intro k d hm hk hb hd hdn
   show ER n a ((b-a:Nat):Int) (Ec n a ((b-a:Nat):Int) m) d.toList ((k:Int)-1)=_
   unfold ER
   cases k with
   | zero=>
    rw[zf (show ¬(0:Int)≤((0:Nat):Int)-1 by omega),Bq]
    unfold FC
    rw[BE,BV zO zO]
    exact mh zO n (b-a) d zO zO hd zO
   | succ k=>
    have e0:((k+1:Nat):Int)-1=(k:Int):=zO
    have e4:wI ((k:Int)-1)=(k:Int)-1:=BV zO zO
    rw[e0,zt (show(0:Int)≤(k:Int) by omega),Ch,am zO zO hd zO,Z,BE,e4]
    rw[ih k _ zO zO (by rw[HZ];exact hb) (by rw[HZ];exact hd) (by rw[HZ];exact hdn)]
    rfl
 have h9:(((b-a-1) / 2:Nat):Int)=(((b-a-1) / 2+1:Nat):Int)-1:=zO
 rw[h9]
 exact key n _ d zO zO hb hd hn
section partialIns
variable {n:Nat}{a b:Nat}(nx:List UInt32×Int×Int→Option (Bool×List UInt32))(s i:Nat)
theorem nT:∀(m j:Nat) (d:Array UInt32),b-j<m→1≤j→b≤d.size→d.size<2305843009213693952→s<5→
  CU b s i nx m (d.toList,(j:Int))=nx ((shiftUp CN b j d).toList,(i:Int),((s+1:Nat):Int)):=by
 intro m
 induction m with
 | zero=>intro j d h;omega
 | succ m ih=>
  intro j d hm hj hb hd hs
  have hj2:∀d:Array UInt32,B9 s nx d.toList i=nx (d.toList,(i:Int),((s+1:Nat):Int)):=by
   intro d
   unfold B9
   rw[BE,BV zO zO]
   rfl
  show CK b s i nx (CU b s i nx m) d.toList j=_
  unfold CK
  rw[shiftUp]
  by_cases h:j<b
  have e1:wI ((j:Int)-1)=((j-1:Nat):Int):=by rw[BV zO zO];omega
  have e2:wI ((j:Int)+1)=((j+1:Nat):Int):=by rw[BV zO zO];omega
  rw[if_pos h,zt (show(j:Int)<(b:Int) by omega),Ch,e1,Nw rfl rfl zO zO,Ik rfl zO,Z,Ik rfl zO,Z,Oi,Z,BE,e2]
  cases hlt:CN d[j]! d[j-1]!
  simp only[Bool.not_false,Ch,if_true]
  exact hj2 d
  simp only[Bool.not_true,Bq,Bool.false_eq_true,if_false]
  exact ih _ _ zO zO (by rw[Cd];exact hb) (by rw[Cd];exact hd) hs
  rw[if_neg h,zf (show ¬(j:Int)<(b:Int) by omega),Bq]
  exact hj2 d
theorem Vd(b:Nat)(j:Nat)(d:Array UInt32):(shiftUp CN b j d).size=d.size:=by
 fun_induction shiftUp CN b j d<;>simp_all[Cd]
theorem Nj:∀(j:Nat) (d:Array UInt32),(shiftDown CN j d).size=d.size
 | 0,d=>rfl
 | j+1,d=>by
  rw[shiftDown]
  split
  rfl
  rw[Nj j,Cd]
theorem vn{d:Array UInt32}(hi:1≤i)(hib:i≤b)(hb:b≤d.size)(hd:d.size<2305843009213693952)(hn:d.size<n)(hs:s<5):
  Ba n b s i nx d.toList=nx ((if b-i≥2 then shiftUp CN b (i+1) d else d).toList,(i:Int),((s+1:Nat):Int)):=by
 unfold Ba
 have e1:wI ((b:Int)-(i:Int))=((b-i:Nat):Int):=by rw[BV zO zO];omega
 have e2:wI ((i:Int)+1)=((i+1:Nat):Int):=by rw[BV zO zO];omega
 rw[e1,e2,BE]
 by_cases h:b-i≥2
 rw[if_pos h,zt (show(2:Int)≤((b-i:Nat):Int) by omega),Ch]
 exact nT nx s i n (i+1) d zO zO hb hd hs
 rw[if_neg h,zf (show ¬(2:Int)≤((b-i:Nat):Int) by omega),Bq]
 unfold B9
 rw[BE,BV zO zO]
 rfl
theorem iF(hi:1≤i)(hib:i≤b)(hs:s<5):∀(m j:Nat) (d:Array UInt32),j<m→j<b→b≤d.size→d.size<2305843009213693952→d.size<n→
  CT n b s i nx m (d.toList,(j:Int))=Ba n b s i nx (shiftDown CN j d).toList:=by
 intro m
 induction m with
 | zero=>intro j d h;omega
 | succ m ih=>
  intro j d hm hj hb hd hn
  show CJ n b s i nx (CT n b s i nx m) d.toList j=_
  unfold CJ
  cases j with
  | zero=>rfl
  | succ j=>
   have e1:wI (((j+1:Nat):Int)-1)=(j:Int):=by rw[BV zO zO];omega
   rw[zt (show(1:Int)≤((j+1:Nat):Int) by omega),Ch,e1,Nw rfl rfl zO zO,Ik rfl zO,Z,Ik rfl zO,Z,Oi,Z,BE,shiftDown]
   cases hlt:CN d[j+1]! d[j]!
   rfl
   simp only[Bool.not_true,Bq,Bool.false_eq_true,if_false]
   exact ih _ _ zO zO (by rw[Cd];exact hb) (by rw[Cd];exact hd) (by rw[Cd];exact hn)
end partialIns
theorem ah(d:Array UInt32)(b i:Nat):i≤scanSorted CN d b i:=by
 fun_induction scanSorted CN d b i<;>omega
theorem ai(d:Array UInt32)(b i:Nat)(h:i≤b):scanSorted CN d b i≤b:=by
 fun_induction scanSorted CN d b i
 rename_i hc ih
 simp only[Bool.and_eq_true,decide_eq_true_eq]at hc
 exact ih zO
 exact h
theorem fC{n a b:Nat}(nx:List UInt32×Int×Int→Option (Bool×List UInt32))(s:Nat)(d:Array UInt32)(hb:b≤d.size)(hd:d.size<2305843009213693952):∀(m i:Nat),b-i<m→1≤i→i≤b→
  DV n a b d.toList s nx m (i:Int)=DU n a b d.toList s nx ((scanSorted CN d b i:Nat):Int):=by
 intro m
 induction m with
 | zero=>intro i h;omega
 | succ m ih=>
  intro i hm h1 hib
  show DL n a b d.toList s nx (DV n a b d.toList s nx m) i=_
  unfold DL
  rw[scanSorted]
  by_cases h:i<b
  have e1:wI ((i:Int)-1)=((i-1:Nat):Int):=by rw[BV zO zO];omega
  have e2:wI ((i:Int)+1)=((i+1:Nat):Int):=by rw[BV zO zO];omega
  rw[zt (show(i:Int)<(b:Int) by omega),e1,Ik rfl zO,Z,Ik rfl zO,Z,Oi,Z]
  simp only[E3,Ch,Z,h,decide_true,Bool.true_and]
  cases hlt:CN d[i]! d[i-1]!
  simp only[Bool.not_false,Ch,if_true,BE,e2]
  exact ih _ zO zO zO
  simp
  rw[zf (show ¬(i:Int)<(b:Int) by omega)]
  simp only[E3,Bq,Z,h,decide_false,Bool.false_and,Bool.false_eq_true,if_false]
theorem eY{n a b:Nat}(hab:a<b):∀(q:Nat) (m i:Nat) (d:Array UInt32),q≤5→q<m→1≤i→a<i→i≤b→b≤d.size→d.size<2305843009213693952→d.size<n→
  Ae n a b m (d.toList,(i:Int),((5-q:Nat):Int))=some ((partialIns CN a b q i d).2,(partialIns CN a b q i d).1.toList):=by
 intro q
 induction q with
 | zero=>
  intro m i d _ hm _ _ _ _ _ _
  obtain⟨m,rfl⟩:∃k,m=k+1:=⟨m-1,by omega⟩
  rfl
 | succ q ih=>
  intro m i d hq hm h1 hai hib hb hd hn
  obtain⟨m,rfl⟩:∃k,m=k+1:=⟨m-1,by omega⟩
  show DK n a b (Ae n a b m) d.toList i ((5-(q+1):Nat):Int)=_
  unfold DK
  rw[zt (show((5-(q+1):Nat):Int)<5 by omega),Ch,fC _ _ d hb hd n i zO h1 hib,partialIns]
  have g1:=ah d b i
  have g2:=ai d b i hib
  dsimp only
  generalize scanSorted CN d b i=j at g1 g2 ⊢
  unfold DU
  by_cases hj:j=b
  rw[if_pos hj,zt (show(j:Int)=(b:Int) by omega),Ch]
  have e1:wI ((b:Int)-(a:Int))=((b-a:Nat):Int):=by rw[BV zO zO];omega
  have e2:wI ((j:Int)-1)=((j-1:Nat):Int):=by rw[BV zO zO];omega
  have e3:wI ((j:Int)-(a:Int))=((j-a:Nat):Int):=by rw[BV zO zO];omega
  rw[if_neg hj,zf (show ¬(j:Int)=(b:Int) by omega),Bq,e1]
  by_cases h50:b-a<50
  rw[if_pos h50,zt (show((b-a:Nat):Int)<50 by omega),Ch]
  have hsz:=Cd d j (j-1)
  rw[if_neg h50,zf (show ¬((b-a:Nat):Int)<50 by omega),Bq,e2,Nw rfl rfl zO zO,e3,BE]
  have hq5:((5-(q+1)+1:Nat):Int)=((5-q:Nat):Int):=zO
  generalize swp d j (j-1)=d1 at hsz ⊢
  have fin:∀d2:Array UInt32,d2.size=d.size→Ba n b ((5-(q+1):Nat):Int) j (Ae n a b m) d2.toList=some ((partialIns CN a b q j (if b-j≥2 then shiftUp CN b (j+1) d2 else d2)).2,(partialIns CN a b q j (if b-j≥2 then shiftUp CN b (j+1) d2 else d2)).1.toList):=by
   intro d2 h2
   have hz:(if b-j≥2 then shiftUp CN b (j+1) d2 else d2).size=d.size:=by
    split
    rw[Vd,h2]
    exact h2
   rw[vn _ _ _ zO zO zO zO zO zO,hq5]
   exact ih m j _ zO zO zO zO g2 (by rw[hz];exact hb) (by rw[hz];exact hd) (by rw[hz];exact hn)
  by_cases h2:j-a≥2
  rw[if_pos h2,zt (show(2:Int)≤((j-a:Nat):Int) by omega),Ch,iF _ _ _ zO zO zO n (j-1) d1 zO zO zO zO zO]
  exact fin _ (by rw[Nj,hsz])
  rw[if_neg h2,zf (show ¬(2:Int)≤((j-a:Nat):Int) by omega),Bq]
  exact fin _ hsz
theorem S8{n a b:Nat}{d:Array UInt32}(hab:a<b)(hb:b≤d.size)(hd:d.size<2305843009213693952)(hn:d.size<n)(h5:5<n):
  Dk n d.toList a b=some ((partialInsertionSort CN d a b).2,(partialInsertionSort CN d a b).1.toList):=by
 unfold Dk partialInsertionSort
 have e2:wI ((a:Int)+1)=((a+1:Nat):Int):=by rw[BV zO zO];omega
 rw[BE,e2]
 exact eY hab 5 n (a+1) d zO h5 zO zO zO hb hd hn
theorem yP{n a j:Nat}{d:Array UInt32}(ha:a<d.size)(hj:j<d.size)(hd:d.size<2305843009213693952):∀(m i:Nat),j+1-i<m→
  DR n (a:Int) d.toList (j:Int) m (i:Int)=DP n (a:Int) d.toList (j:Int) ((scanUp (fun x=>CN x d[a]!) d j i:Nat):Int):=by
 intro m
 induction m with
 | zero=>intro i h;omega
 | succ m ih=>
  intro i hm
  show DD n (a:Int) d.toList (j:Int) (DR n (a:Int) d.toList (j:Int) m) (i:Int)=_
  unfold DD
  rw[scanUp]
  by_cases h:i≤j
  have e2:wI ((i:Int)+1)=((i+1:Nat):Int):=by rw[BV zO zO];omega
  rw[zt (show(i:Int)≤(j:Int) by omega),Ik rfl zO,Z,Ik rfl zO,Z,Oi,Z]
  simp only[E3,Ch,Z,h,decide_true,Bool.true_and]
  cases hlt:CN d[i]! d[a]!
  simp
  simp only[Ch,if_true,BE,e2]
  exact ih _ zO
  rw[zf (show ¬(i:Int)≤(j:Int) by omega)]
  simp only[E3,Bq,Z,h,decide_false,Bool.false_and,Bool.false_eq_true,if_false]
theorem yN{n a i:Nat}{d:Array UInt32}(ha:a<d.size)(hi:1≤i)(hd:d.size<2305843009213693952):∀(m j:Nat),j<m→j<d.size→
  DS n (a:Int) d.toList (i:Int) m (j:Int)=DQ n (a:Int) d.toList (i:Int) ((scanDown (fun x => !CN x d[a]!) d i j:Nat):Int):=by
 intro m
 induction m with
 | zero=>intro j h;omega
 | succ m ih=>
  intro j hm hj
  show DE n (a:Int) d.toList (i:Int) (DS n (a:Int) d.toList (i:Int) m) (j:Int)=_
  unfold DE
  cases j with
  | zero=>
   rw[zf (show ¬(i:Int)≤((0:Nat):Int) by omega)]
   rfl
  | succ j=>
   rw[scanDown]
   by_cases h:i≤j+1
   have e2:wI (((j+1:Nat):Int)-1)=(j:Int):=by rw[BV zO zO];omega
   rw[zt (show(i:Int)≤((j+1:Nat):Int) by omega),Ik rfl zO,Z,Ik rfl zO,Z,Oi,Z]
   simp only[E3,Ch,Z,h,decide_true,Bool.true_and]
   cases hlt:CN d[j+1]! d[a]!
   simp only[Bool.not_false,Ch,if_true,BE,e2]
   exact ih _ zO zO
   simp
   rw[zf (show ¬(i:Int)≤((j+1:Nat):Int) by omega)]
   simp only[E3,Bq,Z,h,decide_false,Bool.false_and,Bool.false_eq_true,if_false]
theorem yQ{n a j:Nat}{d:Array UInt32}{nx:List UInt32×Int×Int→Option (Int×Bool×List UInt32)}(ha:a<d.size)(hj:j<d.size)(hd:d.size<2305843009213693952):∀(m i:Nat),j+1-i<m→
  B7 n (a:Int) d.toList (j:Int) nx m (i:Int)=B5 n (a:Int) d.toList (j:Int) nx ((scanUp (fun x=>CN x d[a]!) d j i:Nat):Int):=by
 intro m
 induction m with
 | zero=>intro i h;omega
 | succ m ih=>
  intro i hm
  show B0 n (a:Int) d.toList (j:Int) nx (B7 n (a:Int) d.toList (j:Int) nx m) (i:Int)=_
  unfold B0
  rw[scanUp]
  by_cases h:i≤j
  have e2:wI ((i:Int)+1)=((i+1:Nat):Int):=by rw[BV zO zO];omega
  rw[zt (show(i:Int)≤(j:Int) by omega),Ik rfl zO,Z,Ik rfl zO,Z,Oi,Z]
  simp only[E3,Ch,Z,h,decide_true,Bool.true_and]
  cases hlt:CN d[i]! d[a]!
  simp
  simp only[Ch,if_true,BE,e2]
  exact ih _ zO
  rw[zf (show ¬(i:Int)≤(j:Int) by omega)]
  simp only[E3,Bq,Z,h,decide_false,Bool.false_and,Bool.false_eq_true,if_false]
theorem yO{a i:Nat}{d:Array UInt32}{nx:List UInt32×Int×Int→Option (Int×Bool×List UInt32)}(ha:a<d.size)(hi:1≤i)(hd:d.size<2305843009213693952):∀(m j:Nat),j<m→j<d.size→
  B8 (a:Int) d.toList (i:Int) nx m (j:Int)=B6 (a:Int) d.toList (i:Int) nx ((scanDown (fun x => !CN x d[a]!) d i j:Nat):Int):=by
 intro m
 induction m with
 | zero=>intro j h;omega
 | succ m ih=>
  intro j hm hj
  show B1 (a:Int) d.toList (i:Int) nx (B8 (a:Int) d.toList (i:Int) nx m) (j:Int)=_
  unfold B1
  cases j with
  | zero=>
   rw[zf (show ¬(i:Int)≤((0:Nat):Int) by omega)]
   rfl
  | succ j=>
   rw[scanDown]
   by_cases h:i≤j+1
   have e2:wI (((j+1:Nat):Int)-1)=(j:Int):=by rw[BV zO zO];omega
   rw[zt (show(i:Int)≤((j+1:Nat):Int) by omega),Ik rfl zO,Z,Ik rfl zO,Z,Oi,Z]
   simp only[E3,Ch,Z,h,decide_true,Bool.true_and]
   cases hlt:CN d[j+1]! d[a]!
   simp only[Bool.not_false,Ch,if_true,BE,e2]
   exact ih _ zO zO
   simp
   rw[zf (show ¬(i:Int)≤((j+1:Nat):Int) by omega)]
   simp only[E3,Bq,Z,h,decide_false,Bool.false_and,Bool.false_eq_true,if_false]
theorem eU{n a j:Nat}{d:Array UInt32}{nx:List UInt32×Int×Int→Option (Int×List UInt32)}(ha:a<d.size)(hj:j<d.size)(hd:d.size<2305843009213693952):∀(m i:Nat),j+1-i<m→
  Cy n (a:Int) d.toList (j:Int) nx m (i:Int)=Cw n (a:Int) d.toList (j:Int) nx ((scanUp (fun x => !CN d[a]! x) d j i:Nat):Int):=by
 intro m
 induction m with
 | zero=>intro i h;omega
 | succ m ih=>
  intro i hm
  show Cm n (a:Int) d.toList (j:Int) nx (Cy n (a:Int) d.toList (j:Int) nx m) (i:Int)=_
  unfold Cm
  rw[scanUp]
  by_cases h:i≤j
  have e2:wI ((i:Int)+1)=((i+1:Nat):Int):=by rw[BV zO zO];omega
  rw[zt (show(i:Int)≤(j:Int) by omega),Ik rfl zO,Z,Ik rfl zO,Z,Oi,Z]
  simp only[E3,Ch,Z,h,decide_true,Bool.true_and]
  cases hlt:CN d[a]! d[i]!
  simp only[Bool.not_false,Ch,if_true,BE,e2]
  exact ih _ zO
  simp
  rw[zf (show ¬(i:Int)≤(j:Int) by omega)]
  simp only[E3,Bq,Z,h,decide_false,Bool.false_and,Bool.false_eq_true,if_false]
theorem eD{a i:Nat}{d:Array UInt32}{nx:List UInt32×Int×Int→Option (Int×List UInt32)}(ha:a<d.size)(hi:1≤i)(hd:d.size<2305843009213693952):∀(m j:Nat),j<m→j<d.size→
  Cz (a:Int) d.toList (i:Int) nx m (j:Int)=Cx d.toList (i:Int) nx ((scanDown (fun x=>CN d[a]! x) d i j:Nat):Int):=by
 intro m
 induction m with
 | zero=>intro j h;omega
 | succ m ih=>
  intro j hm hj
  show Cn (a:Int) d.toList (i:Int) nx (Cz (a:Int) d.toList (i:Int) nx m) (j:Int)=_
  unfold Cn
  cases j with
  | zero=>
   rw[zf (show ¬(i:Int)≤((0:Nat):Int) by omega)]
   rfl
  | succ j=>
   rw[scanDown]
   by_cases h:i≤j+1
   have e2:wI (((j+1:Nat):Int)-1)=(j:Int):=by rw[BV zO zO];omega
   rw[zt (show(i:Int)≤((j+1:Nat):Int) by omega),Ik rfl zO,Z,Ik rfl zO,Z,Oi,Z]
   simp only[E3,Ch,Z,h,decide_true,Bool.true_and]
   cases hlt:CN d[a]! d[j+1]!
   simp
   simp only[Ch,if_true,BE,e2]
   exact ih _ zO zO
   rw[zf (show ¬(i:Int)≤((j+1:Nat):Int) by omega)]
   simp only[E3,Bq,Z,h,decide_false,Bool.false_and,Bool.false_eq_true,if_false]
theorem WD{p:UInt32→Bool}{d:Array UInt32}{j:Nat}:∀(k i:Nat),j+1-i≤k→i≤j+2→scanUp p d j i≤j+2:=by
 intro k
 induction k with
 | zero=>
  intro i h hi
  rw[scanUp]
  have:¬i≤j:=zO
  simp[this]
  omega
 | succ k ih=>
  intro i h hi
  rw[scanUp]
  split
  rename_i hc
  simp only[Bool.and_eq_true,decide_eq_true_eq]at hc
  exact ih _ zO zO
  exact hi
theorem QN{p:UInt32→Bool}{d:Array UInt32}{i:Nat}:∀(j:Nat),i≤j+2→i≤scanDown p d i j+2
 | 0,h=>by simpa[scanDown]using h
 | j+1,h=>by
  rw[scanDown]
  split
  rename_i hc
  simp only[Bool.and_eq_true,decide_eq_true_eq]at hc
  exact QN j zO
  exact h
theorem jc{n a:Nat}:∀(m i j:Nat) (d:Array UInt32),j+1-i<m→a<i→i≤j+2→j<d.size→a<d.size→d.size<2305843009213693952→d.size+1<n→
  AU n a m (d.toList,(i:Int),(j:Int))=some (((partLoop CN a i j d).1:Int),false,(swp (partLoop CN a i j d).2 (partLoop CN a i j d).1 a).toList):=by
 intro m
 induction m with
 | zero=>intro i j d h;omega
 | succ m ih=>
  intro i j d hm hai hij hj ha hd hn
  show Bz n a (AU n a m) d.toList i j=_
  unfold Bz
  rw[yQ zO hj hd n i zO,partLoop_eq]
  have g1:=scanUp_ge (fun x=>CN x d[a]!) d j i
  have g2:=WD (p:=fun x=>CN x d[a]!) (d:=d) (j:=j) _ i (Nat.le_refl _) hij
  generalize scanUp (fun x=>CN x d[a]!) d j i=i2 at g1 g2 ⊢
  unfold B5
  rw[yO zO zO hd n j zO hj]
  have g3:=scanDown_le (fun x => !CN x d[a]!) d i2 j
  have g4:=QN (p:=fun x => !CN x d[a]!) (d:=d) (i:=i2) j g2
  generalize scanDown (fun x => !CN x d[a]!) d i2 j=j2 at g3 g4 ⊢
  unfold B6
  by_cases h:i2>j2
  rw[if_pos h,zt (show(j2:Int)<(i2:Int) by omega),Ch]
  unfold CL
  rw[Nw rfl rfl zO zO]
  have e1:wI ((i2:Int)+1)=((i2+1:Nat):Int):=by rw[BV zO zO];omega
  have e2:wI ((j2:Int)-1)=((j2-1:Nat):Int):=by rw[BV zO zO];omega
  rw[if_neg h,zf (show ¬(j2:Int)<(i2:Int) by omega),Bq,Nw rfl rfl zO zO,BE,BE,e1,e2]
  exact ih _ _ _ zO zO zO (by rw[Cd];omega) (by rw[Cd];exact ha) (by rw[Cd];exact hd) (by rw[Cd];exact hn)
theorem gu{n a b pivot:Nat}{d:Array UInt32}(h1:a≤pivot)(h2:pivot<b)(hb:b≤d.size)(hd:d.size<2305843009213693952)(hn:d.size+1<n):
  Ep n d.toList a b pivot=some (((partition CN d a b pivot).1:Int),(partition CN d a b pivot).2.1,(partition CN d a b pivot).2.2.toList):=by
 unfold Ep partition
 have e1:wI ((a:Int)+1)=((a+1:Nat):Int):=by rw[BV zO zO];omega
 have e2:wI ((b:Int)-1)=((b-1:Nat):Int):=by rw[BV zO zO];omega
 rw[Nw rfl rfl zO zO,BE,BE,e1,e2]
 have hsz:=Cd d a pivot
 dsimp only
 generalize swp d a pivot=d at hsz ⊢
 rw[yP zO zO zO n (a+1) zO]
 have g1:=scanUp_ge (fun x=>CN x d[a]!) d (b-1) (a+1)
 have g2:=WD (p:=fun x=>CN x d[a]!) (d:=d) (j:=b-1) _ (a+1) (Nat.le_refl _) zO
 generalize scanUp (fun x=>CN x d[a]!) d (b-1) (a+1)=i2 at g1 g2 ⊢
 unfold DP
 rw[yN zO zO zO n (b-1) zO zO]
 have g3:=scanDown_le (fun x => !CN x d[a]!) d i2 (b-1)
 have g4:=QN (p:=fun x => !CN x d[a]!) (d:=d) (i:=i2) (b-1) g2
 generalize scanDown (fun x => !CN x d[a]!) d i2 (b-1)=j2 at g3 g4 ⊢
 unfold DQ
 by_cases h:i2>j2
 rw[if_pos h,zt (show(j2:Int)<(i2:Int) by omega),Ch,Nw rfl rfl zO zO]
 have e3:wI ((i2:Int)+1)=((i2+1:Nat):Int):=by rw[BV zO zO];omega
 have e4:wI ((j2:Int)-1)=((j2-1:Nat):Int):=by rw[BV zO zO];omega
 rw[if_neg h,zf (show ¬(j2:Int)<(i2:Int) by omega),Bq,Nw rfl rfl zO zO,BE,BE,e3,e4]
 exact jc n _ _ _ zO zO zO (by rw[Cd];omega) (by rw[Cd];omega) (by rw[Cd];omega) (by rw[Cd];omega)
theorem eX{n a:Nat}:∀(m i j:Nat) (d:Array UInt32),j+1-i<m→a<i→i≤j+2→j<d.size→a<d.size→d.size<2305843009213693952→d.size+1<n→
  Ar n a m (d.toList,(i:Int),(j:Int))=some (((partEqLoop CN a i j d).1:Int),(partEqLoop CN a i j d).2.toList):=by
 intro m
 induction m with
 | zero=>intro i j d h;omega
 | succ m ih=>
  intro i j d hm hai hij hj ha hd hn
  show Cl n a (Ar n a m) d.toList i j=_
  unfold Cl
  rw[eU zO hj hd n i zO,partEqLoop_eq]
  have g1:=scanUp_ge (fun x => !CN d[a]! x) d j i
  have g2:=WD (p:=fun x => !CN d[a]! x) (d:=d) (j:=j) _ i (Nat.le_refl _) hij
  generalize scanUp (fun x => !CN d[a]! x) d j i=i2 at g1 g2 ⊢
  unfold Cw
  rw[eD zO zO hd n j zO hj]
  have g3:=scanDown_le (fun x=>CN d[a]! x) d i2 j
  have g4:=QN (p:=fun x=>CN d[a]! x) (d:=d) (i:=i2) j g2
  generalize scanDown (fun x=>CN d[a]! x) d i2 j=j2 at g3 g4 ⊢
  unfold Cx
  by_cases h:i2>j2
  rw[if_pos h,zt (show(j2:Int)<(i2:Int) by omega),Ch]
  rfl
  have e1:wI ((i2:Int)+1)=((i2+1:Nat):Int):=by rw[BV zO zO];omega
  have e2:wI ((j2:Int)-1)=((j2-1:Nat):Int):=by rw[BV zO zO];omega
  rw[if_neg h,zf (show ¬(j2:Int)<(i2:Int) by omega),Bq,Nw rfl rfl zO zO,BE,BE,e1,e2]
  exact ih _ _ _ zO zO zO (by rw[Cd];omega) (by rw[Cd];exact ha) (by rw[Cd];exact hd) (by rw[Cd];exact hn)
theorem Xl{n a b pivot:Nat}{d:Array UInt32}(h1:a≤pivot)(h2:pivot<b)(hb:b≤d.size)(hd:d.size<2305843009213693952)(hn:d.size+1<n):
  EJ n d.toList a b pivot=some (((partitionEqual CN d a b pivot).1:Int),(partitionEqual CN d a b pivot).2.toList):=by
 unfold EJ partitionEqual
 have e1:wI ((a:Int)+1)=((a+1:Nat):Int):=by rw[BV zO zO];omega
 have e2:wI ((b:Int)-1)=((b-1:Nat):Int):=by rw[BV zO zO];omega
 rw[Nw rfl rfl zO zO,BE,BE,e1,e2]
 exact eX n _ _ _ zO zO zO (by rw[Cd];omega) (by rw[Cd];omega) (by rw[Cd];omega) (by rw[Cd];omega)
theorem jP{a:Nat}(a1:Int)(nx1:List UInt32×Int→Option (List UInt32)):∀(m j:Nat) (d:Array UInt32),j<m→j<d.size→d.size<2305843009213693952→
  DZ a a1 nx1 m (d.toList,(j:Int))=D6 a1 nx1 (insInner CN a j d).toList:=by
 intro m
 induction m with
 | zero=>intro j d h;omega
 | succ m ih=>
  intro j d hm hj hd
  show Dr a a1 nx1 (DZ a a1 nx1 m) d.toList j=_
  unfold Dr
  cases j with
  | zero=>
   rw[zf (show ¬(a:Int)<((0:Nat):Int) by omega)]
   rfl
  | succ j=>
   rw[insInner]
   have e1:wI (((j+1:Nat):Int)-1)=(j:Int):=by rw[BV zO zO];omega
   by_cases h:j+1>a
   rw[zt (show(a:Int)<((j+1:Nat):Int) by omega),e1]
   have hsw:=Nw (d:=d) (k:=fun l3=>ret (j:Int) fun j_1=>DZ a a1 nx1 m (l3,j_1)) (i:=j+1) (j:=j) rfl rfl zO zO
   rw[hsw,Ik rfl zO,Z,Ik rfl zO,Z,Oi,Z]
   simp only[E3,Ch,Z,h,decide_true,Bool.true_and,BE]
   cases hlt:CN d[j+1]! d[j]!
   simp
   simp only[Ch,if_true]
   exact ih _ _ zO (by rw[Cd];omega) (by rw[Cd];exact hd)
   rw[zf (show ¬(a:Int)<((j+1:Nat):Int) by omega)]
   simp only[E3,Bq,Z,h,decide_false,Bool.false_and,Bool.false_eq_true,if_false]
theorem L3(a:Nat):∀(j:Nat) (d:Array UInt32),(insInner CN a j d).size=d.size
 | 0,d=>rfl
 | j+1,d=>by
  rw[insInner]
  split
  rw[L3 a j,Cd]
  rfl
theorem jQ{n a b:Nat}:∀(m i:Nat) (d:Array UInt32),b-i<m→b≤d.size→d.size<2305843009213693952→d.size<n→
  CG n a b m (d.toList,(i:Int))=some (insOuter CN a b i d).toList:=by
 intro m
 induction m with
 | zero=>intro i d h;omega
 | succ m ih=>
  intro i d hm hb hd hn
  show Dq n a b (CG n a b m) d.toList i=_
  unfold Dq
  rw[insOuter]
  by_cases h:i<b
  rw[if_pos h,zt (show(i:Int)<(b:Int) by omega),Ch,jP _ _ n i d zO zO hd]
  unfold D6
  have e2:wI ((i:Int)+1)=((i+1:Nat):Int):=by rw[BV zO zO];omega
  rw[BE,e2]
  exact ih _ _ zO (by rw[L3];exact hb) (by rw[L3];exact hd) (by rw[L3];exact hn)
  rw[if_neg h,zf (show ¬(i:Int)<(b:Int) by omega),Bq]
theorem TY{n a b:Nat}{d:Array UInt32}(hb:b≤d.size)(ha:a≤d.size)(hd:d.size<2305843009213693952)(hn:d.size<n):
  ET n d.toList a b=some (insertionSort CN d a b).toList:=by
 unfold ET insertionSort
 have e2:wI ((a:Int)+1)=((a+1:Nat):Int):=by rw[BV zO zO];omega
 rw[BE,e2]
 exact jQ n _ _ zO hb hd hn
theorem Yc{n k:Nat}(h1:n<2^k)(h2:k=0∨2^(k-1)≤n):bitsLen n=k:=by
 have h3:=(bitsLen_le_iff n k).2 h1
 rcases h2 with rfl | h2
 omega
 rcases Nat.lt_or_ge (bitsLen n) k with h | h
 have:=(bitsLen_le_iff n (k-1)).1 zO
 omega
 omega
theorem Qe{n k:Nat}(h:2^k≤n):bitsLen n=bitsLen (n / 2^k)+k:=by
 have hp:0<2^k:=Nat.pow_pos zO
 have h0:0<n / 2^k:=Nat.div_pos h hp
 have h1:=lt_two_pow_bitsLen (n / 2^k)
 refine Yc ?_ (.inr ?_)
 rw[Nat.pow_add]
 exact(Nat.div_lt_iff_lt_mul hp).1 h1
 have h2:0<bitsLen (n / 2^k):=by
  rcases Nat.eq_zero_or_pos (bitsLen (n / 2^k))with h3 | h3
  rw[h3]at h1;simp at h1;omega
  exact h3
 have h3:2^(bitsLen (n / 2^k)-1)≤n / 2^k:=by
  rcases Nat.lt_or_ge (n / 2^k) (2^(bitsLen (n / 2^k)-1))with h4 | h4
  have:=(bitsLen_le_iff _ _).2 h4
  omega
  exact h4
 have e:bitsLen (n / 2^k)+k-1=(bitsLen (n / 2^k)-1)+k:=zO
 rw[e,Nat.pow_add]
 exact Nat.le_trans (Nat.mul_le_mul_right _ h3) (Nat.div_mul_le_self ..)
theorem mr{L:List UInt8}(hL:((List.range 256).all fun x=>decide ((L[x]?).map UInt8.toNat=some (bitsLen x)))=true)(k:UInt8){s:Nat}(hs:s≤64):
  ((A1 L (k.toNat:Int)).bind fun c1=>ret (wI ((s:Int)+(c1.toNat:Int))) fun x6=>some x6)=some ((s+bitsLen k.toNat:Nat):Int):=by
 have hk:=k.toNat_lt
 have h:=List.all_eq_true.1 hL k.toNat (List.mem_range.2 zO)
 have h:=of_decide_eq_true h
 have h7:bitsLen k.toNat≤8:=(bitsLen_le_iff _ _).2 zO
 rw[Fv]
 cases hc:L[k.toNat]? with
 | none=>rw[hc]at h;cases h
 | some c=>
  rw[hc]at h
  have h9:c.toNat=bitsLen k.toNat:=zI h
  rw[Z,BE,h9,BV zO zO]
  simp
theorem gl{a:UInt64}{s:Nat}(ha:a.toNat<256)(hs:s≤64):GD a s=some ((s+bitsLen a.toNat:Nat):Int):=by
 have e:a.toUInt8.toNat=a.toNat:=by simp;omega
 unfold GD
 rw[←e]
 exact mr zK a.toUInt8 hs
theorem Ki(a:UInt64)(k:Nat)(hk:k<64):(shr64 a k).toNat=a.toNat / 2^k:=by
 have:=a.toNat_lt
 have hm:min k 64=k:=zO
 have h2:a.toNat / 2^k≤a.toNat:=Nat.div_le_self ..
 simp only[shr64,hm,UInt64.toNat_ofNat']
 exact Nat.mod_eq_of_lt zO
theorem gk{a:UInt64}{s:Nat}(ha:a.toNat<65536)(hs:s≤56):GC a s=some ((s+bitsLen a.toNat:Nat):Int):=by
 unfold GC
 by_cases h:256≤a
 have h':256≤a.toNat:=by rw[UInt64.le_iff_toNat_le]at h;exact h
 have e1:wI ((s:Int)+8)=((s+8:Nat):Int):=by rw[BV zO zO];omega
 rw[zt h,Ch,BE,BE,e1,gl (by rw[Ki _ _ zO];omega) zO,Ki _ _ zO,Qe (n:=a.toNat) (k:=8) zO]
 congr 1;omega
 have h':a.toNat<256:=by rw[UInt64.not_le,UInt64.lt_iff_toNat_lt]at h;exact h
 rw[zf h,Bq,gl h' zO]
theorem gj{a:UInt64}{s:Nat}(ha:a.toNat<4294967296)(hs:s≤40):GB a s=some ((s+bitsLen a.toNat:Nat):Int):=by
 unfold GB
 by_cases h:65536≤a
 have h':65536≤a.toNat:=by rw[UInt64.le_iff_toNat_le]at h;exact h
 have e1:wI ((s:Int)+16)=((s+16:Nat):Int):=by rw[BV zO zO];omega
 rw[zt h,Ch,BE,BE,e1,gk (by rw[Ki _ _ zO];omega) zO,Ki _ _ zO,Qe (n:=a.toNat) (k:=16) zO]
 congr 1;omega
 have h':a.toNat<65536:=by rw[UInt64.not_le,UInt64.lt_iff_toNat_lt]at h;exact h
 rw[zf h,Bq,gk h' zO]
theorem pZ(a:UInt64):IG a=some ((bitsLen a.toNat:Nat):Int):=by
 have key:IY a=some ((bitsLen a.toNat:Nat):Int):=by
  unfold IY
  by_cases h:4294967296≤a
  have h':4294967296≤a.toNat:=by rw[UInt64.le_iff_toNat_le]at h;exact h
  have:=a.toNat_lt
  have e:=gj (a:=shr64 a 32) (s:=32) (by rw[Ki _ _ zO];omega) zO
  rw[zt h,Ch,BE]
  refine e.trans ?_
  rw[Ki _ _ zO,Qe (n:=a.toNat) (k:=32) zO]
  congr 1;omega
  have h':a.toNat<4294967296:=by rw[UInt64.not_le,UInt64.lt_iff_toNat_lt]at h;exact h
  rw[zf h,Bq]
  have e:=gj (a:=a) (s:=0) h' zO
  simpa using e
 unfold IG
 rw[key,Z]
theorem li(a:UInt64)(k:Nat)(hk:k<64):shl64 a k=a <<< (UInt64.ofNat k):=by
 apply UInt64.toNat_inj.1
 have hm:min k 64=k:=zO
 simp only[shl64,hm,UInt64.toNat_ofNat',UInt64.toNat_shiftLeft]
 have e:k%2^64%64=k:=zO
 rw[e,Nat.shiftLeft_eq]
theorem uK(a:UInt64)(k:Nat)(hk:k<64):shr64 a k=a >>> (UInt64.ofNat k):=by
 apply UInt64.toNat_inj.1
 rw[Ki a k hk]
 simp only[UInt64.toNat_shiftRight,UInt64.toNat_ofNat']
 have e:k%2^64%64=k:=zO
 rw[e,Nat.shiftRight_eq_div_pow]
theorem w8(r:UInt64):Gd r=some (xorNext r,xorNext r):=by
 unfold Gd xorNext
 rw[BE,li r 13 zO,uK _ 7 zO,li _ 17 zO]
 rfl
theorem xl{l:Nat}(hl:l<2305843009213693952):∃y:UInt64,GO (l:Int)=some y∧y.toNat=1 <<< bitsLen l:=by
 have h1:bitsLen l≤61:=(bitsLen_le_iff l 61).2 zO
 have h2:(DJ (l:Int)).toNat=l:=by simp only[DJ,UInt64.toNat_ofNat'];omega
 refine⟨shl64 1 (bitsLen l),?_,?_⟩
 unfold GO
 rw[pZ,Z,h2]
 have e:Q6 ((bitsLen l:Nat):Int)=some (bitsLen l):=by
  unfold Q6
  rw[if_pos zO]
  rfl
 rw[e,Z,BE]
 have hm:min (bitsLen l) 64=bitsLen l:=zO
 have h3:2^bitsLen l≤2^61:=Nat.pow_le_pow_right zO h1
 simp only[shl64,hm,UInt64.toNat_ofNat',Nat.shiftLeft_eq]
 rw[show(1:UInt64).toNat=1 from rfl]
 exact Nat.mod_eq_of_lt zO
theorem f7{n a b:Nat}{y:UInt64}(hab:8≤b-a)(hy:y.toNat=1 <<< bitsLen (b-a))(nx:List UInt32×UInt64×Int→Option (List UInt32))(r:UInt64)(d:Array UInt32)(idx:Nat)(h1:a≤idx)(h2:idx<b)(hb:b≤d.size)(hd:d.size<2305843009213693952)
(hle:idx≤a+(b-a) / 4*2+1):
  Cs a ((b-a:Nat):Int) y nx d.toList r idx=nx ((breakStep a (b-a) (1 <<< bitsLen (b-a)) (r,d) idx).2.toList,(breakStep a (b-a) (1 <<< bitsLen (b-a)) (r,d) idx).1,((idx+1:Nat):Int)):=by
 have q4:K0 ((b-a:Nat):Int) 4=some (((b-a) / 4:Nat):Int):=qF.resolve_right zO
 have e1:wI ((((b-a) / 4:Nat):Int)*2)=(((b-a) / 4*2:Nat):Int):=by rw[BV zO zO];omega
 have e2:wI ((a:Int)+(((b-a) / 4*2:Nat):Int))=((a+(b-a) / 4*2:Nat):Int):=by rw[BV zO zO];omega
 have e3:wI (((a+(b-a) / 4*2:Nat):Int)+1)=((a+(b-a) / 4*2+1:Nat):Int):=by rw[BV zO zO];omega
 have hl61:bitsLen (b-a)≤61:=(bitsLen_le_iff _ 61).2 zO
 have hp:1 <<< bitsLen (b-a)=2^bitsLen (b-a):=by rw[Nat.shiftLeft_eq,Nat.one_mul]
 have hp2:2^bitsLen (b-a)≤2^61:=Nat.pow_le_pow_right zO hl61
 have hp3:=two_pow_bitsLen_le (n:=b-a) zO
 have hp0:0<2^bitsLen (b-a):=Nat.pow_pos zO
 have hy1:(y-1).toNat=1 <<< bitsLen (b-a)-1:=by
  rw[UInt64.toNat_sub_of_le _ _ (by rw[UInt64.le_iff_toNat_le,hy,hp];exact hp0),hy]
  rfl
 unfold Cs breakStep
 dsimp only
 rw[q4,Z,e1,e2,e3,zt (show(idx:Int)≤((a+(b-a) / 4*2+1:Nat):Int) by omega),Ch,w8,Z]
 dsimp only
 have ho:(xorNext r &&& (y-1)).toNat=(xorNext r).toNat &&& (1 <<< bitsLen (b-a)-1):=by rw[UInt64.toNat_and,hy1]
 have hlt:(xorNext r).toNat &&& (1 <<< bitsLen (b-a)-1)<2^bitsLen (b-a):=by
  rw[hp]
  exact Nat.lt_of_le_of_lt Nat.and_le_right zO
 rw[ho,BE]
 generalize (xorNext r).toNat &&& (1 <<< bitsLen (b-a)-1)=o at hlt ⊢
 have eo:wI (o:Int)=(o:Int):=BV zO zO
 rw[eo]
 have hj:∀q:Nat,q<b-a→DY a d.toList idx (xorNext r,xorNext r) nx q=nx ((swp d idx (a+q)).toList,xorNext r,((idx+1:Nat):Int)):=by
  intro q hq
  unfold DY
  have e4:wI ((a:Int)+(q:Int))=((a+q:Nat):Int):=by rw[BV zO zO];omega
  have e5:wI ((idx:Int)+1)=((idx+1:Nat):Int):=by rw[BV zO zO];omega
  rw[e4,Nw rfl rfl zO zO,BE,e5]
 by_cases h:o≥b-a
 have e6:wI ((o:Int)-((b-a:Nat):Int))=((o-(b-a):Nat):Int):=by rw[BV zO zO];omega
 rw[if_pos h,zt (show((b-a:Nat):Int)≤(o:Int) by omega),Ch,BE,e6]
 exact hj _ zO
 rw[if_neg h,zf (show ¬((b-a:Nat):Int)≤(o:Int) by omega),Bq]
 exact hj _ zO
theorem Hn(a l m:Nat)(st:UInt64×Array UInt32)(i:Nat):(breakStep a l m st i).2.size=st.2.size:=by simp[breakStep,Cd]
theorem Yd{n a b:Nat}{d:Array UInt32}(hab:a≤b)(hb:b≤d.size)(hd:d.size<2305843009213693952)(hn:3<n):
  EQ n d.toList a b=some (breakPatterns d a b).toList:=by
 unfold EQ breakPatterns
 have e0:wI ((b:Int)-(a:Int))=((b-a:Nat):Int):=by rw[BV zO zO];omega
 rw[e0,BE]
 dsimp only
 by_cases h8:b-a≥8
 have q4:K0 ((b-a:Nat):Int) 4=some (((b-a) / 4:Nat):Int):=qF.resolve_right zO
 have e1:wI ((((b-a) / 4:Nat):Int)*2)=(((b-a) / 4*2:Nat):Int):=by rw[BV zO zO];omega
 have e2:wI ((a:Int)+(((b-a) / 4*2:Nat):Int))=((a+(b-a) / 4*2:Nat):Int):=by rw[BV zO zO];omega
 have e3:wI (((a+(b-a) / 4*2:Nat):Int)-1)=((a+(b-a) / 4*2-1:Nat):Int):=by rw[BV zO zO];omega
 have e4:DJ ((b-a:Nat):Int)=UInt64.ofNat (b-a):=by
  apply UInt64.toNat_inj.1
  simp only[DJ,UInt64.toNat_ofNat'];omega
 obtain⟨y,hy,hyn⟩:=xl (l:=b-a) zO
 rw[if_pos h8,zt (show(8:Int)≤((b-a:Nat):Int) by omega),Ch,hy,Z,q4,Z,e1,e2,e3,e4,BE]
 obtain⟨m,rfl⟩:∃m,n=m+4:=⟨n-4,by omega⟩
 have st:∀(m:Nat) (r:UInt64) (d:Array UInt32) (idx:Nat),a≤idx→idx<b→b≤d.size→d.size<2305843009213693952→idx≤a+(b-a) / 4*2+1→
   Ce a ((b-a:Nat):Int) y (m+1) (d.toList,r,(idx:Int))=Ce a ((b-a:Nat):Int) y m ((breakStep a (b-a) (1 <<< bitsLen (b-a)) (r,d) idx).2.toList,(breakStep a (b-a) (1 <<< bitsLen (b-a)) (r,d) idx).1,((idx+1:Nat):Int)):=
  fun m r d idx h1 h2 h3 h4 h5=>f7 (n:=m) zO hyn (Ce a ((b-a:Nat):Int) y m) r d idx h1 h2 h3 h4 h5
 rw[st _ _ _ _ zO zO hb hd zO,st _ _ _ _ zO zO (by rw[Hn];exact hb) (by rw[Hn];exact hd) zO,
  st _ _ _ _ zO zO (by rw[Hn,Hn];exact hb) (by rw[Hn,Hn];exact hd) zO]
 show Cs a ((b-a:Nat):Int) y (Ce a ((b-a:Nat):Int) y m) _ _ _=_
 unfold Cs
 have e5:wI (((a+(b-a) / 4*2:Nat):Int)+1)=((a+(b-a) / 4*2+1:Nat):Int):=by rw[BV zO zO];omega
 dsimp only
 rw[q4,Z,e1,e2,e5,zf zO,Bq]
 rw[if_neg h8,zf (show ¬(8:Int)≤((b-a:Nat):Int) by omega),Bq]
end

section
open Go Go.Sort
theorem qT:SWO CN:=⟨fun x=>by simp[CN],fun x y z h1 h2=>by
  simp only[CN,decide_eq_true_eq]at*
  exact UInt32.lt_trans h1 h2,fun x y z h1 h2=>by
  simp only[CN,decide_eq_false_iff_not,UInt32.not_lt]at*
  exact UInt32.le_trans h2 h1⟩
theorem UT(a b:Nat):∀(k i:Nat) (d:Array UInt32),b-i≤k→(insOuter CN a b i d).size=d.size:=by
 intro k
 induction k with
 | zero=>
  intro i d h
  rw[insOuter,if_neg zO]
 | succ k ih=>
  intro i d h
  rw[insOuter]
  split
  rw[ih _ _ zO,L3]
  rfl
theorem VW(first:Nat):∀(k:Nat) (d:Array UInt32),(heapPop CN first k d).size=d.size
 | 0,d=>rfl
 | k+1,d=>by rw[heapPop,VW first k,HZ,Cd]
theorem aK(d:Array UInt32)(a b:Nat):(heapSort CN d a b).size=d.size:=by
 unfold heapSort
 rw[VW,TX]
theorem Ji(d:Array UInt32)(a b:Nat):(breakPatterns d a b).size=d.size:=by
 unfold breakPatterns
 dsimp only
 split
 simp[Hn]
 rfl
theorem XH:∀(k i j:Nat) (d:Array UInt32),j-i≤k→(reverseLoop i j d).size=d.size:=by
 intro k
 induction k with
 | zero=>
  intro i j d h
  rw[reverseLoop,if_neg zO]
 | succ k ih=>
  intro i j d h
  rw[reverseLoop]
  split
  rw[ih _ _ _ zO,Cd]
  rfl
theorem SS(a b:Nat):∀(s i:Nat) (d:Array UInt32),(partialIns CN a b s i d).1.size=d.size
 | 0,i,d=>rfl
 | s+1,i,d=>by
  rw[partialIns]
  dsimp only
  split
  rfl
  split
  rfl
  rw[SS a b s]
  split
  rw[Vd]
  split
  rw[Nj,Cd]
  rw[Cd]
  split
  rw[Nj,Cd]
  rw[Cd]
theorem bS{d:Array UInt32}{a b pivot:Nat}(h1:a≤pivot)(h2:pivot<b)(hb:b≤d.size):a<(partitionEqual CN d a b pivot).1∧(partitionEqual CN d a b pivot).1≤b∧(partitionEqual CN d a b pivot).2.size=d.size:=by
 have h:=partEqLoop_spec (lt:=CN) a b _ (a+1) (b-1) (swp d a pivot) (Nat.le_refl _) zO zO zO (by rw[Cd];exact hb) (fun t _ _=>by omega) (fun t _ _=>by omega)
 exact⟨h.1,h.2.1,h.2.2.1.1.trans (Cd ..)⟩
def XE(d1:Array UInt32)(a b limit:Nat)(wasBalanced wasPartitioned:Bool):Array UInt32:=
 let c:=choosePivot CN d1 a b
 let d2:=if c.2=.decreasing then reverseRange d1 a b else d1
 let pivot:=if c.2=.decreasing then(b-1)-(c.1-a)else c.1
 let hint:=if c.2=.decreasing then Hint.increasing else c.2
 let pi:=if wasBalanced&&wasPartitioned&&hint=.increasing then partialInsertionSort CN d2 a b else(d2,false)
 if pi.2 then pi.1 else
 let d3:=pi.1
 if a>0 && !CN d3[a-1]! d3[pivot]! then
  match partitionEqual CN d3 a b pivot with
  | (mid,d4)=>if _h:a<mid∧mid≤b then pdq CN d4 mid b limit wasBalanced wasPartitioned else d4
 else
  match partition CN d3 a b pivot with
  | (mid,alreadyPartitioned,d4)=>
   if _h:a≤mid∧mid<b then
    if mid-a<b-mid then
     pdq CN (pdq CN d4 a mid limit true true) (mid+1) b limit (decide (mid-a≥(b-a) / 8)) alreadyPartitioned
    else
     pdq CN (pdq CN d4 (mid+1) b limit true true) a mid limit (decide (b-mid≥(b-a) / 8)) alreadyPartitioned
   else d4
theorem cP(d:Array UInt32)(a b limit:Nat)(wb wp:Bool):pdq CN d a b limit wb wp=if b-a≤12 then insertionSort CN d a b else if limit=0 then heapSort CN d a b else XE (if !wb then breakPatterns d a b else d) a b (if !wb then limit-1 else limit) wb wp:=by
 rw[pdq]
 rfl
def Mj(n:Nat):Nat→List UInt32→Int→Int→Int→Option (List UInt32)
 | 0=>fun _ _ _ _=>none
 | k+1=>G4 (Mj n k) n
def ZA(n:Nat)(k:Nat):Prop:=∀(kk a b limit:Nat) (wb wp:Bool) (d:Array UInt32),k≤kk→b-a≤k→a≤b→b≤d.size→d.size<2305843009213693952→d.size+5<n→limit<4611686018427387904→
 (∀m,b-a<m→Bk n (Mj n kk) m (d.toList,(a:Int),(b:Int),(limit:Int),wb,wp)=some (pdq CN d a b limit wb wp).toList)∧(pdq CN d a b limit wb wp).size=d.size
theorem xm{l:Nat}(h:l<4611686018427387904):K0 (l:Int) 8=some ((l / 8:Nat):Int):=by
 unfold K0
 rw[if_neg zO,Int.tdiv_eq_ediv_of_nonneg zO,BV zO zO]
 rfl
theorem vw{n k kk a b limit pivot:Nat}{wb wp:Bool}{d:Array UInt32}(hk:k+1≤kk)(ih:ZA n k)(hbk:b-a≤k+1)(h1:a≤pivot)(h2:pivot<b)(hb:b≤d.size)(hd:d.size<2305843009213693952)(hn:d.size+5<n)(hl:limit<4611686018427387904):
  (∀m,b-a<m+1→Dh n (Mj n kk) a b wb wp ((b-a:Nat):Int) limit pivot (Bk n (Mj n kk) m) d.toList=some (if a>0 && !CN d[a-1]! d[pivot]! then
   match partitionEqual CN d a b pivot with
   | (mid,d4)=>if _h:a<mid∧mid≤b then pdq CN d4 mid b limit wb wp else d4
  else
   match partition CN d a b pivot with
   | (mid,alreadyPartitioned,d4)=>
    if _h:a≤mid∧mid<b then
     if mid-a<b-mid then
      pdq CN (pdq CN d4 a mid limit true true) (mid+1) b limit (decide (mid-a≥(b-a) / 8)) alreadyPartitioned
     else
      pdq CN (pdq CN d4 (mid+1) b limit true true) a mid limit (decide (b-mid≥(b-a) / 8)) alreadyPartitioned
    else d4).toList)∧(if a>0 && !CN d[a-1]! d[pivot]! then
   match partitionEqual CN d a b pivot with
   | (mid,d4)=>if _h:a<mid∧mid≤b then pdq CN d4 mid b limit wb wp else d4
  else
   match partition CN d a b pivot with
   | (mid,alreadyPartitioned,d4)=>
    if _h:a≤mid∧mid<b then
     if mid-a<b-mid then
      pdq CN (pdq CN d4 a mid limit true true) (mid+1) b limit (decide (mid-a≥(b-a) / 8)) alreadyPartitioned
     else
      pdq CN (pdq CN d4 (mid+1) b limit true true) a mid limit (decide (b-mid≥(b-a) / 8)) alreadyPartitioned
    else d4).size=d.size:=by
 have hcond:(E3 (decide ((0:Int)<(a:Int))) ((A1 d.toList (wI ((a:Int)-1))).bind fun x4=>(A1 d.toList (pivot:Int)).bind fun x5=>(Cr x4 x5).bind fun y7=>some (!y7)))=some (decide (a>0) && !CN d[a-1]! d[pivot]!):=by
  by_cases h0:a>0
  have e1:wI ((a:Int)-1)=((a-1:Nat):Int):=by rw[BV zO zO];omega
  rw[zt (show(0:Int)<(a:Int) by omega),e1,Ik rfl zO,Z,Ik rfl zO,Z,Oi,Z,zt h0]
  simp[E3]
  rw[zf (show ¬(0:Int)<(a:Int) by omega),zf h0]
  simp[E3]
 unfold Dh
 rw[hcond]
 simp only[Z]
 cases hc:(decide (a>0) && !CN d[a-1]! d[pivot]!)
 
 have hp:=partition_holds CN qT d a b pivot h1 h2 hb
 have ep:=gu (n:=n) h1 h2 hb hd zO
 simp only[Bq,Bool.false_eq_true,if_false]
 rw[ep]
 simp only[Z]
 obtain⟨r1,r2,r3,_⟩:=hp
 have r3:=r3.1
 generalize partition CN d a b pivot=r at r1 r2 r3 ⊢
 obtain⟨mid,ap,d4⟩:=r
 dsimp only at r1 r2 r3 ⊢
 have e6:wI ((mid:Int)-(a:Int))=((mid-a:Nat):Int):=by rw[BV zO zO];omega
 have e7:wI ((b:Int)-(mid:Int))=((b-mid:Nat):Int):=by rw[BV zO zO];omega
 have e9:wI ((mid:Int)+1)=((mid+1:Nat):Int):=by rw[BV zO zO];omega
 rw[dif_pos ⟨r1,r2⟩,e6,e7,e9,xm zO]
 simp only[Z,BE]
 obtain⟨kk,rfl⟩:∃q,kk=q+1:=⟨kk-1,by omega⟩
 by_cases hlt:mid-a<b-mid
 rw[if_pos hlt,zt (show((mid-a:Nat):Int)<((b-mid:Nat):Int) by omega)]
 simp only[Ch]
 obtain⟨i1,i2⟩:=ih kk a mid limit true true d4 zO zO zO zO zO zO hl
 have erec:Mj n (kk+1) d4.toList (a:Int) (mid:Int) (limit:Int)=some (pdq CN d4 a mid limit true true).toList:=i1 n zO
 obtain⟨j1,j2⟩:=ih (kk+1) (mid+1) b limit (decide (mid-a≥(b-a) / 8)) ap (pdq CN d4 a mid limit true true) zO zO zO zO zO zO hl
 refine⟨fun m hm=>?_,by omega⟩
 rw[erec,Z]
 have eb:decide ((((b-a) / 8:Nat):Int)≤((mid-a:Nat):Int))=decide (mid-a≥(b-a) / 8):=by congr 1;exact propext zO
 rw[eb]
 exact j1 m zO
 rw[if_neg hlt,zf (show ¬((mid-a:Nat):Int)<((b-mid:Nat):Int) by omega)]
 simp only[Bq]
 obtain⟨i1,i2⟩:=ih kk (mid+1) b limit true true d4 zO zO zO zO zO zO hl
 have erec:Mj n (kk+1) d4.toList ((mid+1:Nat):Int) (b:Int) (limit:Int)=some (pdq CN d4 (mid+1) b limit true true).toList:=i1 n zO
 obtain⟨j1,j2⟩:=ih (kk+1) a mid limit (decide (b-mid≥(b-a) / 8)) ap (pdq CN d4 (mid+1) b limit true true) zO zO zO zO zO zO hl
 refine⟨fun m hm=>?_,by omega⟩
 rw[erec,Z]
 have eb:decide ((((b-a) / 8:Nat):Int)≤((b-mid:Nat):Int))=decide (b-mid≥(b-a) / 8):=by congr 1;exact propext zO
 rw[eb]
 exact j1 m zO
 
 obtain⟨r1,r2,r3⟩:=bS h1 h2 hb
 have ep:=Xl (n:=n) h1 h2 hb hd zO
 simp only[Ch,if_true]
 rw[ep]
 simp only[Z]
 generalize partitionEqual CN d a b pivot=r at r1 r2 r3 ⊢
 obtain⟨mid,d4⟩:=r
 dsimp only at r1 r2 r3 ⊢
 rw[dif_pos ⟨r1,r2⟩]
 obtain⟨j1,j2⟩:=ih kk mid b limit wb wp d4 zO zO zO zO zO zO hl
 exact⟨fun m hm=>j1 m zO,by omega⟩
def UY(d3:Array UInt32)(a b limit pivot:Nat)(wb wp:Bool):Array UInt32:=
 if a>0 && !CN d3[a-1]! d3[pivot]! then
  match partitionEqual CN d3 a b pivot with
  | (mid,d4)=>if _h:a<mid∧mid≤b then pdq CN d4 mid b limit wb wp else d4
 else
  match partition CN d3 a b pivot with
  | (mid,alreadyPartitioned,d4)=>
   if _h:a≤mid∧mid<b then
    if mid-a<b-mid then
     pdq CN (pdq CN d4 a mid limit true true) (mid+1) b limit (decide (mid-a≥(b-a) / 8)) alreadyPartitioned
    else
     pdq CN (pdq CN d4 (mid+1) b limit true true) a mid limit (decide (b-mid≥(b-a) / 8)) alreadyPartitioned
   else d4
theorem lZ{n k kk a b limit pivot:Nat}{wb wp:Bool}{d:Array UInt32}(hk:k+1≤kk)(ih:ZA n k)(hbk:b-a≤k+1)(h1:a≤pivot)(h2:pivot<b)(hb:b≤d.size)(hd:d.size<2305843009213693952)(hn:d.size+5<n)(hl:limit<4611686018427387904):
  (∀m,b-a<m+1→Dh n (Mj n kk) a b wb wp ((b-a:Nat):Int) limit pivot (Bk n (Mj n kk) m) d.toList=some (UY d a b limit pivot wb wp).toList)∧(UY d a b limit pivot wb wp).size=d.size:=
 vw hk ih hbk h1 h2 hb hd hn hl
theorem pv{n k kk a b limit pivot:Nat}{wb wp:Bool}{d:Array UInt32}{hint:Hint}(hk:k+1≤kk)(ih:ZA n k)(hbk:b-a≤k+1)(h1:a≤pivot)(h2:pivot<b)(hb:b≤d.size)(hd:d.size<2305843009213693952)(hn:d.size+5<n)(hl:limit<4611686018427387904):
  (∀m,b-a<m+1→EE n (Mj n kk) a b wb wp ((b-a:Nat):Int) limit (Bk n (Mj n kk) m) d.toList pivot (S2 hint)=some (if(if wb&&wp&&hint=.increasing then partialInsertionSort CN d a b else(d,false)).2 then(if wb&&wp&&hint=.increasing then partialInsertionSort CN d a b else(d,false)).1 else UY (if wb&&wp&&hint=.increasing then partialInsertionSort CN d a b else(d,false)).1 a b limit pivot wb wp).toList)∧
   (if(if wb&&wp&&hint=.increasing then partialInsertionSort CN d a b else(d,false)).2 then(if wb&&wp&&hint=.increasing then partialInsertionSort CN d a b else(d,false)).1 else UY (if wb&&wp&&hint=.increasing then partialInsertionSort CN d a b else(d,false)).1 a b limit pivot wb wp).size=d.size:=by
 have eh:decide (S2 hint=1)=decide (hint=.increasing):=by cases hint<;>rfl
 unfold EE
 rw[eh]
 cases hc:(wb&&wp&&decide (hint=.increasing))
 simp only[Bq,Bool.false_eq_true,if_false]
 exact lZ hk ih hbk h1 h2 hb hd hn hl
 simp only[Ch,if_true]
 rw[S8 zO hb hd zO zO]
 simp only[Z]
 have hsz:(partialInsertionSort CN d a b).1.size=d.size:=SS ..
 generalize partialInsertionSort CN d a b=r at hsz ⊢
 obtain⟨d3,fin⟩:=r
 dsimp only at hsz ⊢
 cases fin
 simp only[Bq,Bool.false_eq_true,if_false]
 obtain⟨j1,j2⟩:=lZ (wb:=wb) (wp:=wp) hk ih hbk h1 h2 (d:=d3) zO zO zO hl
 exact⟨j1,by omega⟩
 exact⟨fun _ _=>rfl,hsz⟩
theorem pu{n k kk a b limit:Nat}{wb wp:Bool}{d:Array UInt32}(hk:k+1≤kk)(ih:ZA n k)(hbk:b-a≤k+1)(hab:a<b)(hb:b≤d.size)(hd:d.size<2305843009213693952)(hn:d.size+5<n)(hl:limit<4611686018427387904):
  (∀m,b-a<m+1→ED n (Mj n kk) a b wb wp ((b-a:Nat):Int) (Bk n (Mj n kk) m) d.toList limit=some (XE d a b limit wb wp).toList)∧(XE d a b limit wb wp).size=d.size:=by
 have hc:=choosePivot_holds CN d a b hab
 unfold ED
 rw[bN hab hb hd]
 simp only[Z]
 have e0:XE d a b limit wb wp=(let c:=choosePivot CN d a b
  let d2:=if c.2=.decreasing then reverseRange d a b else d
  let pivot:=if c.2=.decreasing then(b-1)-(c.1-a)else c.1
  let hint:=if c.2=.decreasing then Hint.increasing else c.2
  let pi:=if wb&&wp&&hint=.increasing then partialInsertionSort CN d2 a b else(d2,false)
  if pi.2 then pi.1 else UY pi.1 a b limit pivot wb wp):=rfl
 rw[e0]
 obtain⟨c1,c2⟩:=hc
 generalize choosePivot CN d a b=c at c1 c2 ⊢
 obtain⟨p,h⟩:=c
 dsimp only at c1 c2 ⊢
 by_cases hdec:h=.decreasing
 have e1:decide (S2 h=2)=true:=by rw[hdec];rfl
 have e2:wI ((b:Int)-1)=((b-1:Nat):Int):=by rw[BV zO zO];omega
 have e3:wI ((p:Int)-(a:Int))=((p-a:Nat):Int):=by rw[BV zO zO];omega
 have e4:wI (((b-1:Nat):Int)-((p-a:Nat):Int))=(((b-1)-(p-a):Nat):Int):=by rw[BV zO zO];omega
 rw[e1,aZ hab hb hd zO]
 simp only[Ch,Z,BE,e2,e3,e4,hdec,if_true]
 have hsz:(reverseRange d a b).size=d.size:=XH _ _ _ _ (Nat.le_refl _)
 obtain⟨j1,j2⟩:=pv (hint:=.increasing) (wb:=wb) (wp:=wp) (pivot:=(b-1)-(p-a)) (d:=reverseRange d a b) hk ih hbk zO zO zO zO zO hl
 exact⟨j1,j2.trans hsz⟩
 have e1:decide (S2 h=2)=false:=by cases h<;>first | rfl | exact absurd rfl hdec
 rw[e1]
 simp only[Bq,hdec,if_false]
 exact pv hk ih hbk c1 c2 hb hd hn hl
theorem px(n:Nat):∀k,ZA n k:=by
 intro k
 induction k with
 | zero=>
  intro kk a b limit wb wp d _ hk hab hb hd hn hl
  have h12:b-a≤12:=zO
  rw[cP,if_pos h12]
  have hsz:(insertionSort CN d a b).size=d.size:=UT _ _ _ _ _ (Nat.le_refl _)
  refine⟨fun m hm=>?_,hsz⟩
  obtain⟨m,rfl⟩:∃q,m=q+1:=⟨m-1,by omega⟩
  show CM n (Mj n kk) (Bk n (Mj n kk) m) d.toList a b limit wb wp=_
  unfold CM
  have e0:wI ((b:Int)-(a:Int))=((b-a:Nat):Int):=by rw[BV zO zO];omega
  rw[BE,e0,zt (show((b-a:Nat):Int)≤12 by omega),Ch,TY hb zO hd zO,Z]
 | succ k ih=>
  intro kk a b limit wb wp d hkk hk hab hb hd hn hl
  rw[cP]
  have e0:wI ((b:Int)-(a:Int))=((b-a:Nat):Int):=by rw[BV zO zO];omega
  have hshow:∀m,Bk n (Mj n kk) (m+1) (d.toList,(a:Int),(b:Int),(limit:Int),wb,wp)=CM n (Mj n kk) (Bk n (Mj n kk) m) d.toList a b limit wb wp:=fun m=>rfl
  by_cases h12:b-a≤12
  rw[if_pos h12]
  refine⟨fun m hm=>?_,UT _ _ _ _ _ (Nat.le_refl _)⟩
  obtain⟨m,rfl⟩:∃q,m=q+1:=⟨m-1,by omega⟩
  rw[hshow]
  unfold CM
  rw[BE,e0,zt (show((b-a:Nat):Int)≤12 by omega),Ch,TY hb zO hd zO,Z]
  rw[if_neg h12]
  by_cases h0:limit=0
  rw[if_pos h0]
  refine⟨fun m hm=>?_,aK ..⟩
  obtain⟨m,rfl⟩:∃q,m=q+1:=⟨m-1,by omega⟩
  rw[hshow]
  unfold CM
  rw[BE,e0,zf (show ¬((b-a:Nat):Int)≤12 by omega),Bq,zt (show(limit:Int)=0 by omega),Ch,jO zO hb hd zO,Z]
  rw[if_neg h0]
  cases wb
  obtain⟨j1,j2⟩:=pu (limit:=limit-1) (wb:=false) (wp:=wp) (d:=breakPatterns d a b) hkk ih hk zO (by rw[Ji];exact hb) (by rw[Ji];exact hd) (by rw[Ji];exact hn) zO
  refine⟨fun m hm=>?_,by rw[Ji]at j2;exact j2⟩
  obtain⟨m,rfl⟩:∃q,m=q+1:=⟨m-1,by omega⟩
  rw[hshow]
  unfold CM
  have e1:wI ((limit:Int)-1)=((limit-1:Nat):Int):=by rw[BV zO zO];omega
  rw[BE,e0,zf (show ¬((b-a:Nat):Int)≤12 by omega),Bq,zf (show ¬(limit:Int)=0 by omega),Bq,Yd hab hb hd zO]
  simp only[Bool.not_false,Ch,Z,BE,e1]
  exact j1 m hm
  obtain⟨j1,j2⟩:=pu (limit:=limit) (wb:=true) (wp:=wp) (d:=d) hkk ih hk zO hb hd hn hl
  refine⟨fun m hm=>?_,j2⟩
  obtain⟨m,rfl⟩:∃q,m=q+1:=⟨m-1,by omega⟩
  rw[hshow]
  unfold CM
  rw[BE,e0,zf (show ¬((b-a:Nat):Int)≤12 by omega),Bq,zf (show ¬(limit:Int)=0 by omega),Bq]
  simp only[Bool.not_true,Bq]
  exact j1 m hm
theorem jd(l:List UInt32)(hl:l.length<2305843009213693952)(lim:Nat)(hlim:lim<4611686018427387904):Mj (l.length+6) (l.length+6) l 0 (l.length:Int) lim=some (l.mergeSort fun a b=>decide (a≤b)):=by
 obtain⟨h,_⟩:=px (l.length+6) l.length (l.length+5) 0 l.length lim true true l.toArray zO zO zO zS (by simpa using hl) zS hlim
 have h1:Mj (l.length+6) (l.length+6) l 0 (l.length:Int) lim=some (pdq CN l.toArray 0 l.length lim true true).toList:=h (l.length+6) zO
 rw[h1]
 congr 1
 have hs:=pdq_sorts CN qT l.toArray 0 l.length lim true true zO zS (.inl rfl)
 have hu:=sorted_unique_holds qT (fun x y h1 h2=>by
  simp only[decide_eq_false_iff_not,UInt32.not_lt]at h1 h2
  exact UInt32.le_antisymm h2 h1) l.toArray (pdq CN l.toArray 0 l.length lim true true) (by simpa using hs.1) (by simpa using hs.2)
 rw[hu]
 congr 1
 funext x y
 show(!decide (y<x))=decide (x≤y)
 by_cases h:y<x
 simp[h,UInt32.not_le.2 h]
 simp[h,UInt32.not_lt.1 h]
end

section
variable {K:Nat→Prop}{w0:World}{H:List Ab}
theorem kS(n:Nat):∀(k:Nat) {H:List Ab} {BW:Value} {p0:List UInt32} {p1 p2 p3:Int} {r:List UInt32},Mj n k p0 p1 p2 p3=some r→zC K w0 207 [BW,vI p1,vI p2,vI p3] [AD 36 1 BW AQ p0] H (fun u M=>u=.tuple #[]∧M=[AD 36 1 BW AQ r])
 | 0,_,_,_,_,_,_,_,h=>by cases h
 | k+1,_,_,_,_,_,_,_,h=>Or (rec_:=Mj n k) h (fun h'=>kS n k h')
def pw(n:Nat)(d:List UInt32)(a b limit:Int):Option (List UInt32):=Mj n n d a b limit
theorem oY{n:Nat}{BW:Value}{p0 r:List UInt32}{p1 p2 p3:Int}(h:pw n p0 p1 p2 p3=some r):zC K w0 207 [BW,vI p1,vI p2,vI p3] [AD 36 1 BW AQ p0] H (fun u M=>u=.tuple #[]∧M=[AD 36 1 BW AQ r]):=kS n n h
end

section
variable {K:Nat→Prop}{w0:World}{H:List Ab}
def FL(n:Nat)(p0:List UInt32):Option (List UInt32):=
 (IG (DJ (p0.length:Int))).bind fun y1=>
 (pw n p0 0 (p0.length:Int) y1).bind fun y2=>
 some y2
theorem Po{n:Nat}{BW:Value}{p0 r:List UInt32}(h:FL n p0=some r): zC K w0 178 [BW] [AD 36 1 BW AQ p0] H (fun u M=>u=.tuple #[]∧M=[AD 36 1 BW AQ r]):=by
 unfold FL at h
 refine Vf.enter Tryz.func178 rfl rfl ?_
 refine Y (J E (FJ 0 E Af E E (O E (U (AJ ?_)))))
 refine AB h fun y1 hy1 h=>?_
 refine AB h fun y2 hy2 h=>?_
 refine J E (J E (J E (BZ E E (Ff Jh PN) (AN 0 kn (SD hy1) E (AN 1 df (oY hy2) E (AT ?_))))))
 obtain rfl:=zI h
 exact D5 (E4 E) (As (M:=[_]) ⟨E,E⟩ fun _ hw=>Br.pick (H:=[_]) hw [0] 1 E)
end



section
variable {K:Nat→Prop}{w0:World}{H:List Ab}
def jF(p:Int×UInt32):List Value:=[vI p.1,AC p.2]
def Rj(ss:List UInt32):List (Int×UInt32):=ss.zipIdx.map fun q=>((q.2:Int),q.1)
theorem bO(ss:List UInt32):(Rj ss).length=ss.length:=by simp[Rj]
theorem jH{ss:List UInt32}{i:Nat}{p:UInt32}(h:ss[i]? = some p):(Rj ss)[i]? = some ((i:Int),p):=by simp[Rj,h]
abbrev lF(b mp mb:Nat)(v:Value)(d:Au)(T:List Ab):List Ab:=
 dO b v mp mb d::AD 9 1 v eS d.blocks::Al mp AC vS d.pend::Al mb AC vB d.bad::T
theorem jj(b mp mb bx:Nat)(vb:Value)(d:Au)(G1:List Ab)(ss:List UInt32)(hss:∀ks,ks.Perm (d.pend.map (·.1))→∃n,FL n ks=some ss)(hlen:d.pend.length≤1073741824)(hlen2:ss.length≤1073741824):
  Pm Tryz.prog K w0 177 [vP bx 0] [own bx (.cells #[vP b 0] 26)] (lF b mp mb vb d G1) jF (Rj ss):=by
 intro lp J9 X T rc hy h0
 refine Vf.enter Tryz.func177 rfl rfl ?_
 show SX _ _ _ _ _ _ _ _ _ (own bx (.cells #[vP b 0] 26)::rc::lF b mp mb vb d (G1++T))
 refine Y (Ci 36 1 AQ (O E (U (AE (Y (AG 1 Ow E (AV E E (AF E Wx (AG 3 lh E ?_)))))))))
 refine rI 5 E lq E E (fun it=>trivial) fun it=>?_
 refine U (AK ?_)
 refine SX.mono (A9 (α:=List (UInt32×List UInt8)×Value) (fun _=>True) (fun x=>[(0,vY lp),(3,x.2),(11,vP it 0)])
  (fun x=>AD 36 1 x.2 AQ (x.1.map (·.1))::own bx (.cells #[vP b 0] 26)::rc::dO b vb mp mb d::AD 9 1 vb eS d.blocks::PG mp it AC vS d.pend x.1::Al mb AC vB d.bad::(G1++T))
  (fun x=>d.pend.length-x.1.length) (fun x D hp=>?_) ([],zN) trivial) tL
 obtain⟨done,v⟩:=x
 dsimp only
 refine Y ?_
 refine rG 5 (Vg C6) E E E zT (fun hperm=>?_) (fun p hp hlt=>⟨zT,?_⟩)
 refine Ap E E E (U (AE (EO E (Av (Ay (BP (A0 (AI (mL 5 E ?_)))))))))
 obtain⟨n,hn⟩:=hss (done.map (·.1)) (hperm.map _)
 refine Y (J E (AN 1 sU (Po hn) E (U (Y (J E (FJ 0 E Af E E (J E (U (AK ?_)))))))))
 refine SX.mono (A9 (α:=Nat×List Ab) (fun x=>x.1≤ss.length∧J9 ((Rj ss).take x.1) x.2) (fun x=>[(0,vY lp),(22,v),(23,vI ss.length),(24,vI x.1)])
  (fun x=>AD 36 1 v AQ ss::own bx (.cells #[vP b 0] 26)::(x.2++T)) (fun x=>ss.length-x.1) (fun x D hp=>?_) (0,rc::lF b mp mb vb d G1) ⟨Nat.zero_le _,h0⟩) tL
 obtain⟨i,G⟩:=x
 obtain⟨hi,hJ⟩:=hp
 dsimp only at hi hJ ⊢
 refine Y (V E BL (U (AE ?_)))
 refine BH E (fun hc2=>?_) (fun hc2=>?_)
 have hlt:i<ss.length:=by simpa using hc2
 have hg:ss[i]? = some ss[i]:=List.getElem?_eq_getElem hlt
 have hn2:A1 ss (i:Int)=some ss[i]:=by simp[A1,hlt]
 have hge:=jH hg
 generalize ss[i]=p at hg hn2 hge
 refine AH (AI (AE (AK (Y (J E ?_)))))
 refine AZ 0 hn2 E Af Aa E E E fun g m cp hv=>?_
 refine Aq E Ah E (AS (sz:=1) (enc:=AQ) 0 0 zV E hv hn2 E) ?_
 refine O E (O E (U (Y (J E (J E (J E ?_))))))
 refine I7 (M2:=[_,_]) (G:=G) (T:=T) (vs:=[_,_]) (ok:=fun G1=>J9 ((Rj ss).take (i+1)) G1) (no:=X) E E ⟨E,E,zT⟩ E ?_ (fun bb G1 hG1=>⟨zT,?_⟩)
 intro M
 have:=hy _ _ _ (Gg hge).1 G hJ M
 rw[←(Gg hge).2]at this
 exact this
 refine CO E E (U ?_)
 refine BH E (fun hc3=>?_) (fun hc3=>?_)
 obtain rfl:bb=false:=by simpa using hc3
 refine AM (BO (Ag (FB (BO ?_))))
 exact Ax (E4 E) (As (M:=G1) (.inr hG1) fun _ h=>h.skip [_,_])
 obtain rfl:bb=true:=by simpa using hc3
 refine AH (Ao (AI (AJ (V E (B2 zO zO) (J E (AT ?_))))))
 exact Am (i+1,G1) ⟨hlt,hG1⟩ (by dsimp only;omega) tL (fun _ h=>h)
 have hle:i=ss.length:=by simp at hc2;omega
 refine Av (Ay (BP (A0 ?_)))
 exact D5 (E4 E) (As (M:=G) (.inl (by rw[List.take_of_length_le (by rw[bO];omega)]at hJ;exact hJ)) fun _ h=>h.skip [_,_])
 refine Ap E E E (U (AE (R8 E (AH (AI (AK (Y (rE 5 E E E (Ap E E E (O E (U (AJ (J E (J E ?_))))))))))))))
 refine Ck [_] E Af Aa Jf ⟨E,zT⟩ E E E zX E E zU fun b0=>?_
 refine Cp AQ 1 ([p.1]:List UInt32) E zV E ?_
 have hl:Eh 4 (done.map (·.1)) [p.1]=some ((done++[p]).map (·.1)):=by
  simp only[Eh,List.length_map,List.length_cons,List.length_nil,List.map_append,List.map_cons,List.map_nil]
  rw[if_pos ⟨by omega,by omega⟩]
 refine EF 1 hl (sz:=1) (enc:=AQ) zV E Af Aa R9 Jf E zD E E E E (Ct (sz:=1) (enc:=AQ) 0 zV E) (by simp[AQ,Value.oneCell']) zU fun v2=>?_
 refine O E (AT (Ao ?_))
 exact Am (done++[p],v2) zT zQ tL (fun _ h=>h.skip [_])
theorem i6(b:Nat):zC K w0 156 [vP b 0] [] H (fun u M=>∃bx,u=.func (.func 177) #[] #[vP bx 0]∧M=[own bx (.cells #[vP b 0] 26)]):=by
 refine Vf.enter Tryz.func156 rfl rfl ?_
 refine Y ?_
 refine Bw E E zU fun b0=>?_
 refine O E (U (Y ?_))
 refine Im (fv:=#[]) (cv:=#[_]) E E E ?_
 refine O E (U (AM ?_))
 exact Ax (D7 E E) (As (M:=[_]) ⟨_,E,E⟩ fun _ h=>h.skip [])
end

section
theorem fE{a b:List UInt32}(hp:a.Perm b)(ha:a.Pairwise (fun x y=>decide (x≤y)=true))(hb:b.Pairwise (fun x y=>decide (x≤y)=true)):a=b:=
 List.Perm.eq_of_pairwise (fun x y _ _ h1 h2=>UInt32.le_antisymm (of_decide_eq_true h1) (of_decide_eq_true h2)) ha hb hp
theorem aS(l:List UInt32):(l.mergeSort fun a b=>decide (a≤b)).Pairwise (fun x y=>decide (x≤y)=true):=
 List.pairwise_mergeSort (le:=fun a b:UInt32=>decide (a≤b)) (fun a b c h1 h2=>zt (UInt32.le_trans (of_decide_eq_true h1) (of_decide_eq_true h2))) (fun a b=>by
  rcases UInt32.le_total a b with h | h
  exact(by simp[h])
  exact(by simp[h])) l
theorem V0{a b:List UInt32}(h:a.Perm b):(a.mergeSort fun a b=>decide (a≤b))=b.mergeSort fun a b=>decide (a≤b):=
 fE ((List.mergeSort_perm a _).trans (h.trans (List.mergeSort_perm b _).symm)) (aS a) (aS b)
theorem iJ(ks:List UInt32)(h:ks.length≤1073741824):∃n,FL n ks=some (ks.mergeSort fun a b=>decide (a≤b)):=by
 refine⟨ks.length+6,?_⟩
 have h2:(DJ (ks.length:Int)).toNat=ks.length:=by simp only[DJ,UInt64.toNat_ofNat'];omega
 have h3:Go.Sort.bitsLen ks.length≤62:=(Go.Sort.bitsLen_le_iff _ 62).2 zO
 unfold FL pw
 rw[pZ,Z,h2,jd ks zO _ zO,Z]
end

section
variable {K:Nat→Prop}{w0:World}{H:List Ab}
def RU{α:Type}(m:List (UInt32×α)):List UInt32:=(m.map (·.1)).mergeSort fun a b=>decide (a≤b)
def Rq:Nat:=1073741824
theorem vp:12≤Rq:=by decide
def Y7(d:Au):Option (List (Int×UInt32)):=if d.pend.length≤Rq then some (Rj (RU d.pend))else none
theorem qE{b mp mb bx:Nat}{vb:Value}{d:Au}{G1:List Ab}{xs:List (Int×UInt32)}(h:Y7 d=some xs):
  Pm Tryz.prog K w0 177 [vP bx 0] [own bx (.cells #[vP b 0] 26)] (lF b mp mb vb d G1) jF xs:=by
 unfold Y7 at h
 split at h
 rename_i hl
 obtain rfl:=zI h
 have hl':d.pend.length≤1073741824:=hl
 refine jj b mp mb bx vb d G1 (RU d.pend) (fun ks hk=>?_) zO (by simp[RU];omega)
 obtain⟨n,hn⟩:=iJ ks (by rw[hk.length_eq];simpa using hl')
 exact⟨n,by rw[hn,V0 hk];rfl⟩
 cases h
def X1(_:Au):Option Unit:=some ()
theorem j8{b:Nat}{d:Au}{r:Unit}(_:X1 d=some r):zC K w0 156 [vP b 0] [] H (fun u M=>∃bx:Nat,u=.func (.func 177) #[] #[vP bx 0]∧M=[own bx (.cells #[vP b 0] 26)]):=i6 b
end
end Go.Proofs.YtpaohlmgfifebaaGreatDoor
