/- The texts FP9, V1, V2, V3, V4a, FL3, FP7k, FR0, FP10, FL4, FM3, S31, FS1, FS2, FL8a, FP11, FP15, FL9, one behind the other: walks of the program, and plain laws of what it computes. Conditions: as each theorem says. -/
import Derived.Test.YtpaohlmgfifebaaGreatDoorXE1
import Derived.Test.YtpaohlmgfifebaaGreatDoorXE2
import Derived.Test.YtpaohlmgfifebaaGreatDoorXE3
import Derived.Test.YtpaohlmgfifebaaGreatDoorXE4
import Derived.Test.YtpaohlmgfifebaaGreatDoorXE5
import Derived.Test.YtpaohlmgfifebaaGreatDoorXE6

set_option linter.unusedVariables false
set_option linter.unusedSimpArgs false
set_option maxHeartbeats 4000000
set_option maxRecDepth 100000
namespace Go.Proofs.YtpaohlmgfifebaaGreatDoor
open Go
section
variable {K:Nat→Prop}{w0:World}{H:List Ab}
def PV(p0:BM):Option Bool:=
 ret (decide (p0.rcnt=18446744073709551615)) fun x1=>
 some x1
theorem bK{A7:Nat}{BF Aj BK:Value}{p0:BM}{r:Bool}(h:PV p0=some r): zC K w0 57 [vP A7 0] [eO A7 BF Aj BK p0,AD 9 1 BF eS p0.blk,AD 9 1 Aj eS p0.pnd,AD 4 1 BK eB p0.bads] H (fun u M=>u=vB r∧M=[eO A7 BF Aj BK p0,AD 9 1 BF eS p0.blk,AD 9 1 Aj eS p0.pnd,AD 4 1 BK eB p0.bads]):=by
 unfold PV at h
 refine Vf.enter Tryz.func57 rfl rfl ?_
 refine Y (O E (U (Y ?_)))
 obtain⟨x1,ex1,h⟩:=BG h
 refine J E (AV E E (AF E NE (AF E RO (AG 0 Il E ?_))))
 refine V E (K7 (b:=18446744073709551615)) ?_
 refine AX (u:=vB x1) E E (congrArg vB ex1) ?_
 refine U (AM ?_)
 obtain rfl:=zI h
 exact AW [0,1,2,3] 4 E E E
def Ob:Option Int:=
 some (-1)
def Mt(p0:List BU)(nx_f_ref16_place_l1:Int→Option Int)(a1:Int):Option Int:=
 cond (decide (a1<(p0.length:Int)))
 (
  none)
 (
  Ob)
def Oc(p0:List BU):Nat→Int→Option Int:=CH fun nx x=>Mt p0 nx x
def Qp(n:Nat)(p0:List BU)(p1:UInt32):Option Int:=
 Oc p0 n 0
theorem Zj{n:Nat}{BW:Value}{p0:List BU}{p1:UInt32}{r:Int}(h:Qp n p0 p1=some r)(hs0_:CR K w0 AY 3 BW p0):zC K w0 132 [BW,AC p1] [] H (fun u M=>u=vI r∧M=[]):=by
 unfold Qp at h
 refine Vf.enter Tryz.func132 rfl rfl ?_
 refine Y (O E (U ?_))
 refine Az (α:=Unit) (fun x=>Ob=some r) (fun x=>[]) (fun x=>H) ?_ (fun x D h=>?_)
 refine Y (O E (U (AK ?_)))
 refine SX.heap (SX.mono (A9 (α:=Nat×Int) (fun x=>Oc p0 x.1 x.2=some r) (fun x=>[(0,BW),(1,AC p1),(5,vI x.2)]) (fun x=>H) (fun x=>x.1) (fun x D h=>?_) (n,0) h) tL) (A5 [] 0 E E E)
 obtain⟨m1,a1⟩:=x
 dsimp only at h
 rcases m1 with _ | m1
 cases (show(none:Option _)=some r from h)
 replace h:Mt p0 (Oc p0 m1) a1=some r:=h
 unfold Mt at h
 try dsimp only
 refine AE (Y (J E (J E (CW hs0_ E MD E (V E BL (U ?_))))))
 refine AL h E (fun hc1 h=>?_) fun hc1 h=>?_
 cases h
 refine Av (Ay (BP (A0 ?_)))
 exact Ak () h tL (A5 [] 0 E E E)
 unfold Ob at h
 try dsimp only
 refine Y (O E (U (AM ?_)))
 obtain rfl:=zI h
 exact AW [] 0 E E E
def Ft(n:Nat)(T:List UInt32)(p0:FI)(p0_1:Bt)(p0_2:BM)(p2:List BU):Option (Int×Bt×BM):=
 (GE n p0_2).bind fun y1=>
 cond (!decide (y1.1=0))
 (
  none)
 (
  (A1 p2 (wI ((p2.length:Int)-1))).bind fun x1=>
  (NB y1.2.rcnt p0_1.gen 0 (⟨x1.page,x1.tag⟩:Bo)).bind fun y2=>
  cond (!decide (y2.2=0))
  (
   none)
  (
   (Ks n y2.1).bind fun y3=>
   (Xm y2.1.cnt 2).bind fun q1=>
   (JP n T p0_1 y1.2 q1.toUInt32 y3.1).bind fun y4=>
   cond (!decide (y4.2.1=0))
   (
    none)
   (
    (GE n y4.2.2.2).bind fun y5=>
    cond (!decide (y5.1=0))
    (
     none)
    (
     (Gb y5.2 y4.1).bind fun y6=>
     some (y6.1,y4.2.2.1,y6.2)))))
theorem Sm{n A7 Bb C9:Nat}{T:List UInt32}{Aj BK Fj Bu DA CD CE CF H4:Value}{p0:FI}{p0_1:Bt}{p0_2:BM}{p2:List BU}{r:Int×Bt×BM}(h:Ft n T p0 p0_1 p0_2 p2=some r)(hT:Kl K w0 2 64 T)(hs2_:CR K w0 AY 3 H4 p2):zC K w0 90 [vP A7 0,zN,H4] [own A7 (.cells #[vP Bb 0,Aj,BK,Fj,vB p0.bad] 131),AD 43 4 Aj Ac p0.rows,AD 148 3 BK AY p0.had,AD 36 1 Fj AQ p0.gens,wO Bb C9 Bu DA p0_1,AD 55 2 Bu Ad p0_1.ring,AD 4 1 DA eB p0_1.taken,eO C9 CD CE CF p0_2,AD 9 1 CD eS p0_2.blk,AD 9 1 CE eS p0_2.pnd,AD 4 1 CF eB p0_2.bads] H (fun u M=>u=vI r.1∧M=[own A7 (.cells #[vP Bb 0,Aj,BK,Fj,vB p0.bad] 131),AD 43 4 Aj Ac p0.rows,AD 148 3 BK AY p0.had,AD 36 1 Fj AQ p0.gens,wO Bb C9 Bu DA r.2.1,AD 55 2 Bu Ad r.2.1.ring,AD 4 1 DA eB r.2.1.taken,eO C9 CD CE CF r.2.2,AD 9 1 CD eS r.2.2.blk,AD 9 1 CE eS r.2.2.pnd,AD 4 1 CF eB r.2.2.bads]):=by
 unfold Ft at h
 refine Vf.enter Tryz.func90 rfl rfl ?_
 refine Y (O E (U (Y ?_)))
 refine AB h fun y1 hy1 h=>?_
 refine J E (AV E E (AF E Lw (AG 0 PJ E (AV E E (AF E Qt (AG 4 af E (SL.pick [7,8,9,10,0,1,2,3,4,5,6] 11 ?_)))))))
 refine AN 4 da (LK hy1) E (O E (U (AE (Y (J E (V E Bg (U ?_)))))))
 refine AL h E (fun hc1 h=>?_) fun hc1 h=>?_
 cases h
 refine AH (AI (AE ?_))
 refine AB h fun x1 hx1 h=>?_
 refine AB h fun y2 hy2 h=>?_
 refine Ai C2 [0,4,8] (BJ (Hp 0 27) (.alt 27 (BJ [(true,28),(true,29),(true,30),(false,31),(false,32)] (.last 33 .nil)) (.cons (false,31) (BJ [(false,27),(true,28),(true,29),(true,30),(false,32)] (.last 33 .nil))))) zK (J E (AV E E (AF E Lw (AG 1 PJ E (AV E E (AF E Qt (AG 2 af E ?_)))))))
 refine AV E E (AF E NE (AF E RO (AG 0 Il E (J E (AV E E (AF E Lw (AG 1 PJ E ?_)))))))
 refine AV E E (AF E Z6 (AG 2 Ah E (J E (Jk E D8 E (J E (J E (CW hs2_ E MD E ?_)))))))
 refine V E BC ?_
 refine EL hx1 hs2_ E MD MC E E fun be1 of1 hc2=>?_
 refine AF E Lx ?_
 refine BA [AC x1.page,vS x1.tag] E EZ E E (Zt (d:=1) hc2 E) ?_
 refine E6 ?_ ?_
 refine BT 0 kW ((VP hy2 :)) E ⟨⟨0,E⟩,⟨4,E⟩,⟨8,E⟩,zT⟩ (J E (Ap E E E (Ap E E E ?_)))
 refine A6 E Mx (fun _=>⟨⟨1,E⟩,⟨5,E⟩,⟨9,E⟩,zT⟩) fun b1=>?_
 refine BN 0 E E E E Om E E E ⟨⟨1,E⟩,⟨5,E⟩,⟨9,E⟩,zT⟩ (A4 (O E (U (AE (Y (J E (V E Bg (U ?_))))))))
 refine AL h E (fun hc3 h=>?_) fun hc3 h=>?_
 cases h
 refine AH (AI (Y ?_))
 refine AB h fun y3 hy3 h=>?_
 refine BA [Bh y2.1.cnt,AC y2.1.gen,AC y2.1.rows,AC y2.1.page,vS y2.1.tag] E KM E E (A2 0 E) (AN 0 kX ((TT hy3 :)) E (J E (Ap E E E (Ap E E E (O E (O E (U (AE ?_))))))))
 refine AB h fun q1 hq1 h=>?_
 refine AB h fun y4 hy4 h=>?_
 refine Ai C2 [0,5] (BJ [(true,0),(true,1),(true,2),(true,3),(true,4),(true,5),(true,6),(true,7),(true,8),(false,9),(false,10),(true,11),(true,12),(false,13)] (.last 14 .nil)) zK (J E (AV E E (AF E Lw (AG 1 PJ E (AF E NF (AG 0 Il E ?_))))))
 refine V E (RE (b:=2) hq1) ?_
 refine BZ E E (O2 En C6) (J E (SL.pick [9,10,11,1,2,3,4,0,5,6,7,8] 12 (BT 7 kY (Pb hy4 hT) E ⟨⟨7,E⟩,⟨8,E⟩,zT⟩ (J E (Ap E E E (Ap E E E (O E (A4 ?_))))))))
 refine O E (U (AE (Y (J E (V E Bg (U ?_))))))
 refine AL h E (fun hc4 h=>?_) fun hc4 h=>?_
 cases h
 refine AH (AI (Y ?_))
 refine AB h fun y5 hy5 h=>?_
 refine J E (AV E E (AF E Lw (AG 8 PJ E (AV E E (AF E Qt (AG 0 af E (SL.pick [3,4,5,6,0,1,2] 7 ?_)))))))
 refine AN 4 da (LK hy5) E (O E (U (AE (Y (J E (V E Bg (U ?_)))))))
 refine AL h E (fun hc5 h=>?_) fun hc5 h=>?_
 cases h
 refine AH (AI (Y ?_))
 refine AB h fun y6 hy6 h=>?_
 refine J E (AV E E (AF E Lw (AG 8 PJ E (AV E E (AF E Qt (AG 4 af E (J E ?_)))))))
 refine AN 4 kZ (N3 hy6) E (O E (U (AM ?_)))
 obtain rfl:=zI h
 exact AW [8,9,10,11,4,5,6,0,1,2,3] 12 E E E
 refine A6 E Mx (fun _=>⟨⟨1,E⟩,⟨5,E⟩,⟨9,E⟩,zT⟩) fun b1=>?_
 refine BT 0 kW ((VP hy2 :)) E ⟨⟨1,E⟩,⟨5,E⟩,⟨9,E⟩,zT⟩ (J E (Ap E E E (Ap E E E (BN 0 E E E E Om E E E ⟨⟨1,E⟩,⟨5,E⟩,⟨9,E⟩,zT⟩ (A4 (O E (U (AE (Y (J E (V E Bg (U ?_))))))))))))
 refine AL h E (fun hc3 h=>?_) fun hc3 h=>?_
 cases h
 refine AH (AI (Y ?_))
 refine AB h fun y3 hy3 h=>?_
 refine BA [Bh y2.1.cnt,AC y2.1.gen,AC y2.1.rows,AC y2.1.page,vS y2.1.tag] E KM E E (A2 0 E) (AN 0 kX ((TT hy3 :)) E (J E (Ap E E E (Ap E E E (O E (O E (U (AE ?_))))))))
 refine AB h fun q1 hq1 h=>?_
 refine AB h fun y4 hy4 h=>?_
 refine Ai C2 [0,5] (BJ [(true,0),(true,1),(true,2),(true,3),(true,4),(true,5),(true,6),(true,7),(true,8),(false,9),(false,10),(true,11),(true,12),(false,13)] (.last 14 .nil)) zK (J E (AV E E (AF E Lw (AG 1 PJ E (AF E NF (AG 0 Il E ?_))))))
 refine V E (RE (b:=2) hq1) ?_
 refine BZ E E (O2 En C6) (J E (SL.pick [9,10,11,1,2,3,4,0,5,6,7,8] 12 (BT 7 kY (Pb hy4 hT) E ⟨⟨7,E⟩,⟨8,E⟩,zT⟩ (J E (Ap E E E (Ap E E E (O E (A4 ?_))))))))
 refine O E (U (AE (Y (J E (V E Bg (U ?_))))))
 refine AL h E (fun hc4 h=>?_) fun hc4 h=>?_
 cases h
 refine AH (AI (Y ?_))
 refine AB h fun y5 hy5 h=>?_
 refine J E (AV E E (AF E Lw (AG 8 PJ E (AV E E (AF E Qt (AG 0 af E (SL.pick [3,4,5,6,0,1,2] 7 ?_)))))))
 refine AN 4 da (LK hy5) E (O E (U (AE (Y (J E (V E Bg (U ?_)))))))
 refine AL h E (fun hc5 h=>?_) fun hc5 h=>?_
 cases h
 refine AH (AI (Y ?_))
 refine AB h fun y6 hy6 h=>?_
 refine J E (AV E E (AF E Lw (AG 8 PJ E (AV E E (AF E Qt (AG 4 af E (J E ?_)))))))
 refine AN 4 kZ (N3 hy6) E (O E (U (AM ?_)))
 obtain rfl:=zI h
 exact AW [8,9,10,11,4,5,6,0,1,2,3] 12 E E E
def J1(p0:FI)(p2:List BU)(l1:List UInt32)(o1:Bt):Option (FI×Bt):=
 some ({ p0 with rows:=[],had:=p2,gens:=l1 },o1)
def Iy(p0:FI)(p2:List BU)(l1:List UInt32)(nx_f_ref16_Store_moved_l2:Bt×Int→Option (FI×Bt))(o2:Bt)(a3:Int):Option (FI×Bt):=
 cond (decide (a3<(p0.had.length:Int)))
 (
  none)
 (
  J1 p0 p2 l1 o2)
def J2(p0:FI)(p2:List BU)(l1:List UInt32):Nat→(Bt×Int)→Option (FI×Bt):=CH fun nx x=>Iy p0 p2 l1 nx x.1 x.2
def Jz(n:Nat)(p0:FI)(p0_1:Bt)(p2:List BU)(l1:List UInt32):Option (FI×Bt):=
 J2 p0 p2 l1 n (p0_1,0)
def J0(l2:List UInt32)(a1:Int)(nx_f_ref16_Store_moved_l1:List UInt32×Int→Option (FI×Bt))(a2:UInt32):Option (FI×Bt):=
 (Eh 4 l2 [a2]).bind fun l3=>
 ret (wI (a1+1)) fun i_1=>
 nx_f_ref16_Store_moved_l1 (l3,i_1)
def Ix(n:Nat)(p0:FI)(p0_1:Bt)(p2:List BU)(nx_f_ref16_Store_moved_l1:List UInt32×Int→Option (FI×Bt))(l2:List UInt32)(a1:Int):Option (FI×Bt):=
 cond (decide (a1<(p2.length:Int)))
 (
  (A1 p2 a1).bind fun x1=>
  (Qp n p0.had x1.page).bind fun y1=>
  (E3 (decide (0≤y1)) ((A1 p0.had y1).bind fun x2=>(A1 p2 a1).bind fun x3=>some (decide (x2.txt=x3.txt)&&(decide (x2.page=x3.page)&&(decide (x2.tag=x3.tag)&&true))))).bind fun y2=>
  cond y2
  (
   none)
  (
   J0 l2 a1 nx_f_ref16_Store_moved_l1 p0_1.gen))
 (
  Jz n p0 p0_1 p2 l2)
def Hg(n:Nat)(p0:FI)(p0_1:Bt)(p2:List BU):Nat→(List UInt32×Int)→Option (FI×Bt):=CH fun nx x=>Ix n p0 p0_1 p2 nx x.1 x.2
def Ls(n:Nat)(p0:FI)(p0_1:Bt)(p0_2:BM)(p2:List BU):Option (FI×Bt):=
 Hg n p0 p0_1 p2 n ([],0)
theorem UA{n A7 Bb C9:Nat}{Aj BK Fj Bu DA CD CE CF H4:Value}{p0:FI}{p0_1:Bt}{p0_2:BM}{p2:List BU}{r:FI×Bt}(h:Ls n p0 p0_1 p0_2 p2=some r): zC K w0 91 [vP A7 0,zN,H4] [own A7 (.cells #[vP Bb 0,Aj,BK,Fj,vB p0.bad] 131),AD 43 4 Aj Ac p0.rows,AD 148 3 BK AY p0.had,AD 36 1 Fj AQ p0.gens,wO Bb C9 Bu DA p0_1,AD 55 2 Bu Ad p0_1.ring,AD 4 1 DA eB p0_1.taken,eO C9 CD CE CF p0_2,AD 9 1 CD eS p0_2.blk,AD 9 1 CE eS p0_2.pnd,AD 4 1 CF eB p0_2.bads,AD 148 3 H4 AY p2] H (fun u M=>∃vs0_0_1 vs0_0_2 vs0_0_3:Value,u=.tuple #[]∧M=[own A7 (.cells #[vP Bb 0,vs0_0_1,vs0_0_2,vs0_0_3,vB r.1.bad] 131),AD 43 4 vs0_0_1 Ac r.1.rows,AD 148 3 vs0_0_2 AY r.1.had,AD 36 1 vs0_0_3 AQ r.1.gens,wO Bb C9 Bu DA r.2,AD 55 2 Bu Ad r.2.ring,AD 4 1 DA eB r.2.taken,eO C9 CD CE CF p0_2,AD 9 1 CD eS p0_2.blk,AD 9 1 CE eS p0_2.pnd,AD 4 1 CF eB p0_2.bads]):=by
 unfold Ls at h
 refine Vf.enter Tryz.func91 rfl rfl ?_
 refine Y (Ci 36 1 AQ (O E (U ?_)))
 refine Az (α:=List UInt32×Value) (fun x=>Jz n p0 p0_1 p2 x.1=some r) (fun x=>[(0,vP A7 0),(1,zN),(2,H4),(6,x.2)]) (fun x=>own A7 (.cells #[vP Bb 0,Aj,BK,Fj,vB p0.bad] 131)::wO Bb C9 Bu DA p0_1::eO C9 CD CE CF p0_2::AD 9 1 CD eS p0_2.blk::AD 9 1 CE eS p0_2.pnd::AD 4 1 CF eB p0_2.bads::AD 55 2 Bu Ad p0_1.ring::AD 4 1 DA eB p0_1.taken::AD 43 4 Aj Ac p0.rows::AD 148 3 BK AY p0.had::AD 36 1 Fj AQ p0.gens::AD 148 3 H4 AY p2::AD 36 1 x.2 AQ x.1::H) ?_ (fun x D h=>?_)
 refine Y (O E (U (AK ?_)))
 refine SX.heap (SX.mono (A9 (α:=Nat×List UInt32×Value×Int) (fun x=>Hg n p0 p0_1 p2 x.1 (x.2.1,x.2.2.2)=some r) (fun x=>[(0,vP A7 0),(1,zN),(2,H4),(6,x.2.2.1),(7,vI x.2.2.2)]) (fun x=>own A7 (.cells #[vP Bb 0,Aj,BK,Fj,vB p0.bad] 131)::wO Bb C9 Bu DA p0_1::eO C9 CD CE CF p0_2::AD 9 1 CD eS p0_2.blk::AD 9 1 CE eS p0_2.pnd::AD 4 1 CF eB p0_2.bads::AD 55 2 Bu Ad p0_1.ring::AD 4 1 DA eB p0_1.taken::AD 43 4 Aj Ac p0.rows::AD 148 3 BK AY p0.had::AD 36 1 Fj AQ p0.gens::AD 148 3 H4 AY p2::AD 36 1 x.2.2.1 AQ x.2.1::H) (fun x=>x.1) (fun x D h=>?_) (n,[],zN,0) h) tL) (A5 [1,5,8,9,10,11,6,7,2,3,4,12,0] 13 E E E)
 obtain⟨m1,l2,v2,a1⟩:=x
 dsimp only at h
 rcases m1 with _ | m1
 cases (show(none:Option _)=some r from h)
 replace h:Ix n p0 p0_1 p2 (Hg n p0 p0_1 p2 m1) l2 a1=some r:=h
 unfold Ix at h
 try dsimp only
 refine AE (Y (J E (J E (FJ 11 E MD E E (V E BL (U ?_))))))
 refine AL h E (fun hc1 h=>?_) fun hc1 h=>?_
 refine AH (AI (AE (AK (AE ?_))))
 refine AB h fun x1 hx1 h=>?_
 refine AB h fun y1 hy1 h=>?_
 refine Ai C2 [0,11] (BJ (Hp 0 10) (.last 10 (C0 [(false,11)]))) zK (J E (AV E E (AF E W0 (AG 0 SU E (J E (J E ?_))))))
 refine AZ 11 hx1 E MD MC E E E fun g1 m2 cp1 hv1=>?_
 refine AF E Lx (AF E HB ?_)
 refine Aq E Ah E (AS (sz:=3) (enc:=AY) 1 1 zV E hv1 hx1 E) ?_
 refine A4 (SL.pick [9,0,1,2,3,4,5,6,7,8] 10 ?_)
 refine Bx (vs:=[_,_]) (Hin:=[_]) (Hr:=_::_::_::_::_::_::_::_::_::_::_::_::_) E E ⟨E,E,zT⟩ rq E E (Dm (B:=[_]) (Hin:=[]) fun K' w1 hk hB=>Zj hy1 (C1 (e:=148) (v:=BK) zV (hB _ zS))) ?_
 rintro _ _ ⟨_,rfl,rfl,rfl⟩
 refine⟨trivial,?_⟩
 refine O E (U (Y (J E (AV E E (AF E Lw (AG 1 PJ E (AV E E (AF E Z6 (AG 2 Ah E ?_)))))))))
 refine O E (U ?_)
 refine Az (α:=UInt32) (fun x=>J0 l2 a1 (Hg n p0 p0_1 p2 m1) x=some r) (fun x=>[(0,vP A7 0),(1,zN),(2,H4),(6,v2),(7,vI a1),(9,AC x)]) (fun x=>own A7 (.cells #[vP Bb 0,Aj,BK,Fj,vB p0.bad] 131)::wO Bb C9 Bu DA p0_1::eO C9 CD CE CF p0_2::AD 9 1 CD eS p0_2.blk::AD 9 1 CE eS p0_2.pnd::AD 4 1 CF eB p0_2.bads::AD 55 2 Bu Ad p0_1.ring::AD 4 1 DA eB p0_1.taken::AD 43 4 Aj Ac p0.rows::AD 148 3 BK AY p0.had::AD 36 1 Fj AQ p0.gens::AD 148 3 H4 AY p2::AD 36 1 v2 AQ l2::H) ?_ (fun a2 D h=>?_)
 refine AE ?_
 refine AB h fun y2 hy2 h=>?_
 refine Ai C2 [0,1,11] (C0 (Hp 0 16)) zK (J E (V E FH (J E ?_)))
 refine Du 37 13 50 hy2 E (fun hb hg1 k=>?_) (fun hb k=>?_) ?_
 obtain⟨x2,hx2,hg1⟩:=Da hg1
 obtain⟨x3,hx3,hg1⟩:=Da hg1
 obtain rfl:=zI hg1
 refine J E (AV E E (AF E W0 (AG 1 SU E (J E ?_))))
 refine AZ 0 hx2 E MD MC E E E fun g2 m3 cp2 hv2=>?_
 refine BA (AY x2) E Tx E E (N4 (sz:=3) (enc:=AY) 0 zV E hv2 hx2) ?_
 refine J E (J E ?_)
 refine AZ 11 hx3 E MD MC E E E fun g3 m4 cp3 hv3=>?_
 refine BA (AY x3) E Tx E E (N4 (sz:=3) (enc:=AY) 2 zV E hv3 hx3) ?_
 refine ZF E (show gT Tryz.prog 148=some [(0,.string),(1,.int .u32),(2,.string)] by kernel_rfl) E E (DW E E (UI (a:=x2.txt) (b:=x3.txt)) (DW E E (KO (a:=x2.page) (b:=x3.page)) (DW E E (UI (a:=x2.tag) (b:=x3.tag)) Kc))) ?_
 refine An E E E ?_
 exact k.mono tL
 refine AA E (AA E (AA E (AA E (AA E (AA E (AA E (AA E ?_)))))))
 refine AA E (AA E (AA E (AA E (An E E E ?_))))
 exact k.mono tL
 refine U ?_
 refine AL h E (fun hc2 h=>?_) fun hc2 h=>?_
 cases h
 refine AH ?_
 exact Ak p0_1.gen h tL (A5 [1,2,3,4,5,6,7,8,9,0,10,11,12] 13 E E E)
 unfold J0 at h
 try dsimp only
 refine AJ ?_
 refine AB h fun l3 hl3 h=>?_
 refine J E (J E ?_)
 refine Ck [_] rfl Af Aa Jf ⟨rfl,trivial⟩ rfl rfl rfl zW rfl rfl zU fun b1=>?_
 refine Cp AQ 1 ([a2]:List UInt32) E zV E ?_
 refine EF 13 hl3 (sz:=1) (enc:=AQ) zV E Af Aa R9 Jf E zD E E E E (Ct (sz:=1) (enc:=AQ) 0 zV E) (by simp[AQ,Value.oneCell']) zU fun v3=>?_
 refine O E (AT (Ao (AI (AJ ?_))))
 obtain⟨i_1,ei_1,h⟩:=BG h
 refine J E (V E Aw ?_)
 refine AX (u:=vI i_1) E E (congrArg vI ei_1) ?_
 refine AT ?_
 exact Am (m1,l3,v3,i_1) h (Nat.lt_succ_self _) tL (A5 [1,2,3,4,5,6,7,8,9,10,11,12,13] 14 E E E)
 refine Av (Ay (BP (A0 ?_)))
 exact Ak (l2,v2) h tL (A5 [0,1,2,3,4,5,6,7,8,9,10,11,12] 13 E E E)
 obtain⟨l1,v1⟩:=x
 dsimp only at h
 unfold Jz at h
 try dsimp only
 refine Az (α:=Bt) (fun x=>J1 p0 p2 l1 x=some r) (fun x=>[(0,vP A7 0),(1,zN),(2,H4),(6,v1)]) (fun x=>own A7 (.cells #[vP Bb 0,Aj,BK,Fj,vB p0.bad] 131)::wO Bb C9 Bu DA x::eO C9 CD CE CF p0_2::AD 9 1 CD eS p0_2.blk::AD 9 1 CE eS p0_2.pnd::AD 4 1 CF eB p0_2.bads::AD 55 2 Bu Ad x.ring::AD 4 1 DA eB x.taken::AD 43 4 Aj Ac p0.rows::AD 148 3 BK AY p0.had::AD 36 1 Fj AQ p0.gens::AD 148 3 H4 AY p2::AD 36 1 v1 AQ l1::H) ?_ (fun o1 D h=>?_)
 refine Y (O E (U (AK ?_)))
 refine SX.heap (SX.mono (A9 (α:=Nat×Bt×Int) (fun x=>J2 p0 p2 l1 x.1 (x.2.1,x.2.2)=some r) (fun x=>[(0,vP A7 0),(1,zN),(2,H4),(6,v1),(10,vI x.2.2)]) (fun x=>own A7 (.cells #[vP Bb 0,Aj,BK,Fj,vB p0.bad] 131)::wO Bb C9 Bu DA x.2.1::eO C9 CD CE CF p0_2::AD 9 1 CD eS p0_2.blk::AD 9 1 CE eS p0_2.pnd::AD 4 1 CF eB p0_2.bads::AD 55 2 Bu Ad x.2.1.ring::AD 4 1 DA eB x.2.1.taken::AD 43 4 Aj Ac p0.rows::AD 148 3 BK AY p0.had::AD 36 1 Fj AQ p0.gens::AD 148 3 H4 AY p2::AD 36 1 v1 AQ l1::H) (fun x=>x.1) (fun x D h=>?_) (n,p0_1,0) h) tL) (A5 [0,1,2,3,4,5,6,7,8,9,10,11,12] 13 E E E)
 obtain⟨m5,o2,a3⟩:=x
 dsimp only at h
 rcases m5 with _ | m5
 cases (show(none:Option _)=some r from h)
 replace h:Iy p0 p2 l1 (J2 p0 p2 l1 m5) o2 a3=some r:=h
 unfold Iy at h
 try dsimp only
 refine AE (Y (J E (J E (AV E E (AF E W0 (AG 0 SU E (FJ 9 E MD E E (V E BL (U ?_)))))))))
 refine AL h E (fun hc3 h=>?_) fun hc3 h=>?_
 cases h
 refine Av (Ay (BP (A0 ?_)))
 exact Ak o2 h tL (A5 [0,1,2,3,4,5,6,7,8,9,10,11,12] 13 E E E)
 unfold J1 at h
 try dsimp only
 refine Y (J E (J E (AV E E (AF E pK (BN 0 E E E E K5 E E E zT (Ci 43 4 Ac (U (Y (J E (J E ?_))))))))))
 refine AV E E (AF E W0 ?_)
 refine EI 12 E fun hv4 ho1=>?_
 refine FV 1 E E E E qW hv4 ho1 E zT (U (AJ (J E (J E (AV E E (AF E pL ?_))))))
 refine EI 13 E fun hv5 ho2=>?_
 refine FV 1 E E E E jy hv5 ho2 E zT (AT ?_)
 obtain rfl:=zI h
 exact D5 (E4 E) (As (M:=[_,_,_,_,_,_,_,_,_,_,_]) ⟨zN,H4,v1,E,E⟩ fun _ hw=>Br.pick (H:=[_,_,_,_,_,_,_,_,_,_,_,_,_,_]) hw [1,0,12,13,2,7,8,3,4,5,6] 14 E)
def Jb(n:Nat)(p0:FI)(y1:List BU×Int×Bt×BM)(o1:Bt)(o2:BM)(a1:Int):Option (Int×FI×Bt×BM):=
 cond (!decide (a1=0))
 (
  none)
 (
  (Ls n p0 o1 o2 y1.1).bind fun y3=>
  some (0,y3.1,y3.2,o2))
def HA(n:Nat)(T:List UInt32)(p0:FI)(p0_1:Bt)(p0_2:BM):Option (Int×FI×Bt×BM):=
 (NA n T p0_1 p0_2).bind fun y1=>
 cond (decide (y1.2.1=0))
 (
  (Ft n T p0 y1.2.2.1 y1.2.2.2 y1.1).bind fun y2=>
  Jb n p0 y1 y2.2.1 y2.2.2 y2.1)
 (
  none)
theorem Tg{n A7 Bb C9:Nat}{T:List UInt32}{Aj BK Fj Bu DA CD CE CF:Value}{p0:FI}{p0_1:Bt}{p0_2:BM}{r:Int×FI×Bt×BM}(h:HA n T p0 p0_1 p0_2=some r)(hT:Kl K w0 2 64 T):zC K w0 60 [vP A7 0,zN,zN] [own A7 (.cells #[vP Bb 0,Aj,BK,Fj,vB p0.bad] 131),AD 43 4 Aj Ac p0.rows,AD 148 3 BK AY p0.had,AD 36 1 Fj AQ p0.gens,wO Bb C9 Bu DA p0_1,AD 55 2 Bu Ad p0_1.ring,AD 4 1 DA eB p0_1.taken,eO C9 CD CE CF p0_2,AD 9 1 CD eS p0_2.blk,AD 9 1 CE eS p0_2.pnd,AD 4 1 CF eB p0_2.bads] H (fun u M=>∃vs0_0_1 vs0_0_2 vs0_0_3:Value,u=vI r.1∧M=[own A7 (.cells #[vP Bb 0,vs0_0_1,vs0_0_2,vs0_0_3,vB r.2.1.bad] 131),AD 43 4 vs0_0_1 Ac r.2.1.rows,AD 148 3 vs0_0_2 AY r.2.1.had,AD 36 1 vs0_0_3 AQ r.2.1.gens,wO Bb C9 Bu DA r.2.2.1,AD 55 2 Bu Ad r.2.2.1.ring,AD 4 1 DA eB r.2.2.1.taken,eO C9 CD CE CF r.2.2.2,AD 9 1 CD eS r.2.2.2.blk,AD 9 1 CE eS r.2.2.2.pnd,AD 4 1 CF eB r.2.2.2.bads]):=by
 unfold HA at h
 refine Vf.enter Tryz.func60 rfl rfl ?_
 refine Y (O E (U (Y ?_)))
 refine AB h fun y1 hy1 h=>?_
 refine J E (AV E E (AF E Lw (AG 0 PJ E (J E (J E (SL.pick [4,5,6,7,8,9,10,0,1,2,3] 11 (Bi 7 vd (bJ hy1 hT) E ?_)))))))
 rintro _ _ ⟨v1,rfl,rfl⟩
 refine J E (Ap E E E (Ap E E E (O E (O E (U ?_)))))
 refine Az (α:=Bt×BM×Int) (fun x=>Jb n p0 y1 x.1 x.2.1 x.2.2=some r) (fun x=>[(0,vP A7 0),(1,zN),(7,v1),(8,vI x.2.2)]) (fun x=>own A7 (.cells #[vP Bb 0,Aj,BK,Fj,vB p0.bad] 131)::wO Bb C9 Bu DA x.1::eO C9 CD CE CF x.2.1::AD 9 1 CD eS x.2.1.blk::AD 9 1 CE eS x.2.1.pnd::AD 4 1 CF eB x.2.1.bads::AD 55 2 Bu Ad x.1.ring::AD 4 1 DA eB x.1.taken::AD 43 4 Aj Ac p0.rows::AD 148 3 BK AY p0.had::AD 36 1 Fj AQ p0.gens::AD 148 3 v1 AY y1.1::H) ?_ (fun x D h=>?_)
 refine Y (J E (V E Bv (U ?_)))
 refine AL h E (fun hc1 h=>?_) fun hc1 h=>?_
 refine AJ ?_
 refine AB h fun y2 hy2 h=>?_
 refine J E (J E (J E (SL.pick [0,8,9,10,11,1,2,3,4,5,6,7] 12 ?_)))
 refine Bx (vs:=[_,_,_]) (Hin:=[_,_,_,_,_,_,_,_,_,_,_,_]) (Hr:=_) E E ⟨E,E,E,zT⟩ ve E E (Dm (B:=[_]) (Hin:=[_,_,_,_,_,_,_,_,_,_,_]) fun K' w1 hk hB=>Sm hy2 (hT.keeps hk) (C1 (e:=148) (v:=v1) zV (hB _ zS))) ?_
 rintro _ _ ⟨_,rfl,rfl,rfl⟩
 refine⟨trivial,?_⟩
 refine O E (AT ?_)
 exact Ak (y2.2.1,y2.2.2,y2.1) h tL (A5 [1,5,8,9,10,11,6,7,2,3,4,0] 12 E E E)
 cases h
 obtain⟨o1,o2,a1⟩:=x
 dsimp only at h
 unfold Jb at h
 try dsimp only
 refine AE (Y (J E (V E Bg (U ?_))))
 refine AL h E (fun hc2 h=>?_) fun hc2 h=>?_
 cases h
 refine AH (AI (Y ?_))
 refine AB h fun y3 hy3 h=>?_
 refine J E (J E (J E (SL.pick [0,8,9,10,1,6,7,2,3,4,5,11] 12 (Bi 12 vf (UA hy3) E ?_))))
 rintro _ _ ⟨v2,v3,v4,rfl,rfl⟩
 refine U (Y (O E (U (AM ?_))))
 obtain rfl:=zI h
 exact CC [0,1,2,3,4,5,6,7,8,9,10] 11 (D7 E E) E E ⟨v2,v3,v4,E,E⟩
def Kt(n:Nat)(T:List UInt32)(p0:BM)(p1:List Bf):Option (Option (FI×Bt)×Int×BM):=
 (Kq n p1).bind fun y1=>
 cond (!decide (y1.2=0))
 (
  none)
 (
  (PV p0).bind fun y2=>
  cond y2
  (
   none)
  (
   (Io p0).bind fun y3=>
   cond (!decide (y3.2.1=0))
   (
    none)
   (
    (OZ n y3.2.2 p1 y1.1 y3.1).bind fun y4=>
    (y4.1).bind fun d1=>
    (HA n T ({ rows:=[],had:=[],gens:=[],bad:=false }:FI) d1 y3.2.2).bind fun y5=>
    cond (!decide (y5.1=0))
    (
     none)
    (
     some (some (y5.2.1,y5.2.2.1),0,y5.2.2.2)))))
theorem Yj{n A7:Nat}{T:List UInt32}{BF Aj BK FU:Value}{p0:BM}{p1:List Bf}{r:Option (FI×Bt)×Int×BM}(h:Kt n T p0 p1=some r)(hT:Kl K w0 2 64 T):zC K w0 31 [vP A7 0,FU] [eO A7 BF Aj BK p0,AD 9 1 BF eS p0.blk,AD 9 1 Aj eS p0.pnd,AD 4 1 BK eB p0.bads,AD 55 2 FU Ad p1] H (fun u M=>(r.1=none∧u=.tuple #[.pointer none,vI r.2.1]∧M=[eO A7 BF Aj BK r.2.2,AD 9 1 BF eS r.2.2.blk,AD 9 1 Aj eS r.2.2.pnd,AD 4 1 BK eB r.2.2.bads])∨(∃(d:FI×Bt) (bn0:Nat) (vn0x1:Value) (vn0x2:Value) (vn0x3:Value) (bn1:Nat) (vn1x1:Value) (vn1x5:Value),r.1=some d∧u=.tuple #[vP bn0 0,vI r.2.1]∧M=[own bn0 (.cells #[vP bn1 0,vn0x1,vn0x2,vn0x3,vB d.1.bad] 131),AD 43 4 vn0x1 Ac d.1.rows,AD 148 3 vn0x2 AY d.1.had,AD 36 1 vn0x3 AQ d.1.gens,wO bn1 A7 vn1x1 vn1x5 d.2,AD 55 2 vn1x1 Ad d.2.ring,AD 4 1 vn1x5 eB d.2.taken,eO A7 BF Aj BK r.2.2,AD 9 1 BF eS r.2.2.blk,AD 9 1 Aj eS r.2.2.pnd,AD 4 1 BK eB r.2.2.bads])):=by
 unfold Kt at h
 refine Vf.enter Tryz.func31 rfl rfl ?_
 refine Y (O E (O E (U (Y ?_))))
 refine AB h fun y1 hy1 h=>?_
 refine J E (SL.pick [4,0,1,2,3] 5 ?_)
 refine Bx (vs:=[_]) (Hin:=[_]) (Hr:=_::_::_::_::_) E E ⟨E,zT⟩ vK E E (Dm (B:=[_]) (Hin:=[]) fun K' w1 hk hB=>Yh hy1 (C1 (e:=55) (v:=FU) zV (hB _ zS))) ?_
 rintro _ _ ⟨_,rfl,rfl,rfl⟩
 refine⟨trivial,?_⟩
 refine J E (Ap E E E (Ap E E E (O E (O E (U (AE (Y (J E (V E Bg (U ?_))))))))))
 refine AL h E (fun hc1 h=>?_) fun hc1 h=>?_
 cases h
 refine AH (AI (AE (Y ?_)))
 refine AB h fun y2 hy2 h=>?_
 refine J E (SL.pick [1,2,3,4,0] 5 (AN 4 vL (bK hy2) E (U ?_)))
 refine AL h E (fun hc2 h=>?_) fun hc2 h=>?_
 cases h
 refine AH (AI (Y ?_))
 refine AB h fun y3 hy3 h=>?_
 refine J E (AN 4 vM (Td hy3) E (J E (Ap E E E (Ap E E E (O E (O E (U (AE (Y (J E ?_))))))))))
 refine V E Bg (U ?_)
 refine AL h E (fun hc3 h=>?_) fun hc3 h=>?_
 cases h
 refine AH (AI (Y ?_))
 refine AB h fun y4 hy4 h=>?_
 refine AB h fun d1 hd1 h=>?_
 refine J E (J E (J E (J E ?_)))
 refine Bx (vs:=[_,_,_,_]) (Hin:=[_,_,_,_,_]) (Hr:=_) E E ⟨E,E,E,E,zT⟩ vN E E (dK hy4) ?_
 rintro _ _ (⟨hn,-,-⟩ | ⟨d_,b1,v1,v2,hn,rfl,rfl⟩)
 rw[hd1]at hn;cases hn
 obtain rfl:d1=d_:=zI (hd1.symm.trans hn)
 refine⟨trivial,?_⟩
 refine J E (Ap E E E (Ap E E E (O E (O E (U (Y (J E (Cf [_] E wP wA xC ⟨E,zT⟩ E ?_))))))))
 refine Bw E E zU fun b2=>?_
 refine Ci 43 4 Ac (Ci 148 3 AY (Ci 36 1 AQ (O E (U (Y ?_)))))
 refine AB h fun y5 hy5 h=>?_
 refine J E (SL.pick [3,2,1,0,4,5,6,7,8,9,10] 11 (Bi 11 vQ (Tg hy5 hT) E ?_))
 rintro _ _ ⟨v3,v4,v5,rfl,rfl⟩
 refine O E (U (AE (Y (J E (V E Bg (U ?_))))))
 refine AL h E (fun hc4 h=>?_) fun hc4 h=>?_
 cases h
 refine AH (AI (Y (J E (O E (O E (U (AM ?_)))))))
 obtain rfl:=zI h
 exact Ax (F1 E E E) (As (M:=[_,_,_,_,_,_,_,_,_,_,_]) (.inr ⟨_,b2,v3,v4,v5,b1,v1,v2,E,E,E⟩) fun _ hw=>Br.pick (H:=[_,_,_,_,_,_,_,_,_,_,_]) hw [0,1,2,3,4,5,6,7,8,9,10] 11 E)
end

section
theorem uO(x:UInt32)(n:Nat)(h:n≤32):E8 x (n:Int)=some (rl x n):=by
 unfold E8
 rw[XL,Z,BV zO zO,show(32-(n:Int))=((32-n:Nat):Int) by omega,XL,Z]
 rfl
theorem jl(a b c d:UInt32):Jt a b c d=some (Q4.quarter ⟨a,b,c,d⟩).list:=by
 have t16:∀x,E8 x 16=some (rl x 16):=fun x=>uO x 16 zD
 have t12:∀x,E8 x 12=some (rl x 12):=fun x=>uO x 12 zD
 have t8:∀x,E8 x 8=some (rl x 8):=fun x=>uO x 8 zD
 have t7:∀x,E8 x 7=some (rl x 7):=fun x=>uO x 7 zD
 simp only[Jt,ret,t16,t12,t8,t7,Z]
 rfl
theorem mC(s:List UInt8)(i:Nat)(h:i+3<s.length)(hi:s.length≤1099511627776):LC s (i:Int)=some (Lc s i):=by
 unfold LC
 rw[EK (k:=i) 0 rfl zO,Z,BV zO zO,EK (k:=i+1) 0 zO zO,Z,
  BV zO zO,EK (k:=i+2) 0 zO zO,Z,BV zO zO,EK (k:=i+3) 0 zO zO,Z]
 rfl
theorem j9(c:UInt32):Lc (HX c) 0=c:=by
 apply UInt32.toNat_inj.1
 have hc:=c.toNat_lt
 have e8:∀k,k≤32→(shr32 c k).toNat=c.toNat / 2^k:=fun k hk=>by
  simp only[shr32,UInt32.toNat_ofNat',Nat.min_eq_left hk]
  exact Nat.mod_eq_of_lt (Nat.lt_of_le_of_lt (Nat.div_le_self _ _) hc)
 have s8:∀(x:UInt8) k,k≤24→(shl32 x.toUInt32 k).toNat=x.toNat*2^k:=fun x k hk=>by
  have hx:=x.toNat_lt
  simp only[shl32,UInt32.toNat_ofNat',UInt8.toNat_toUInt32,Nat.min_eq_left (show k≤32 by omega)]
  refine Nat.mod_eq_of_lt ?_
  calc x.toNat*2^k<2^8*2^k:=Nat.mul_lt_mul_of_pos_right hx (Nat.two_pow_pos k)
   _=2^(8+k):=(Nat.pow_add 2 8 k).symm
   _≤2^32:=Nat.pow_le_pow_right zD zO
 have key:∀(a b k:Nat),a<2^k→a ||| b*2^k=a+b*2^k:=fun a b k h=>by
  rw[Nat.or_comm,Nat.mul_comm,←Nat.two_pow_add_eq_or_of_lt h,Nat.add_comm]
 show(Lc [c.toUInt8,(shr32 c 8).toUInt8,(shr32 c 16).toUInt8,(shr32 c 24).toUInt8] 0).toNat=_
 simp only[Lc,NS,List.getD_cons_zero,List.getD_cons_succ,Nat.zero_add]
 rw[UInt32.toNat_or,UInt32.toNat_or,UInt32.toNat_or,s8 _ 8 zO,s8 _ 16 zO,s8 _ 24 zO]
 simp only[UInt8.toNat_toUInt32,UInt32.toNat_toUInt8,e8 8 zO,e8 16 zO,e8 24 zO]
 rw[key _ _ 8 zO,key _ _ 16 zO,key _ _ 24 zO]
 omega
theorem qS(key:List UInt8)(counter:UInt32)(nonce:List UInt8)(hk:key.length=32)(hn:nonce.length=12){n:Nat}(hm:8<n):Ln n key counter nonce=some (I8 key counter nonce):=by
 have hw:∀(s:List UInt8) (i:Nat),i<s.length / 4→(DI s).take (i+1)=(DI s).take i++[Lc s (4*i)]:=fun s i hi=>by
  rw[List.take_add_one,List.getElem?_eq_getElem (by rw[Fm];exact hi)]
  simp[DI]
 have he:DI Lh=[1634760805,857760878,2036477234,1797285236]:=by decide
 have hc:DI (HX counter)=[counter]:=by
  have:DI (HX counter)=[Lc (HX counter) 0]:=by
   unfold DI
   rw[show(HX counter).length=4 from rfl]
   rfl
  rw[this,j9]
 unfold Ln LW
 have h2:JI n counter nonce (DI Lh++DI key)=some (I8 key counter nonce):=by
  unfold JI LX
  have hlk:(DI key).length=8:=by rw[Fm,hk]
  rw[FA (by simp[he,hlk]) (by simp[he,hlk]),Z]
  refine(congrArg (CH _ n) ?_).trans (GH (fun i=>(DI Lh++DI key++[counter]++(DI nonce).take i,(i:Int))) 3 (fun i hi k=>?_) (fun k=>?_) zO)
  simp
  simp only[Hy,show decide ((i:Int)<3)=true by simp;omega,Ch]
  rw[BV zO zO,show 4*(i:Int)=((4*i:Nat):Int) by omega,mC nonce (4*i) zO zO,Z,FA (by simp[he,hlk,Fm];omega) (by simp[he,hlk,Fm];omega),Z]
  simp only[ret]
  rw[BV zO zO,hw nonce i zO]
  simp
  simp only[Hy,show decide (((3:Nat):Int)<3)=false by decide,Bq,LV]
  rw[List.take_of_length_le (by have:=Fm nonce;omega)]
  simp[I8,hc]
 refine(congrArg (CH _ n) ?_).trans (GH (fun i=>(DI Lh++(DI key).take i,(i:Int))) 8 (fun i hi k=>?_) (fun k=>?_) hm)
 simp[he]
 simp only[Hx,show decide ((i:Int)<8)=true by simp;omega,Ch]
 rw[BV zO zO,show 4*(i:Int)=((4*i:Nat):Int) by omega,mC key (4*i) zO zO,Z,FA (by simp[he,Fm];omega) (by simp[he,Fm];omega),Z]
 simp only[ret]
 rw[BV zO zO,hw key i zO]
 simp
 simp only[Hx,show decide (((8:Nat):Int)<8)=false by decide,Bq]
 rw[List.take_of_length_le (by have:=Fm key;omega)]
 exact h2
theorem xU(ws:List UInt32)(ix:Nat→Nat)(h:∀k,k<4→ix k<ws.length):Ea ws (ix 0:Int) (ix 1:Int) (ix 2:Int) (ix 3:Int)=some (nK ws ix):=by
 unfold Ea
 have h0:=h 0 zD
 have h1:=h 1 zD
 have h2:=h 2 zD
 have h3:=h 3 zD
 have g:∀(l:List UInt32) (k:Nat),k<l.length→A1 l (k:Int)=some (l.getD k 0):=fun l k hk=>EK 0 rfl hk
 rw[g _ _ h0,Z,g _ _ h1,Z,g _ _ h2,Z,g _ _ h3,Z,jl,Z]
 generalize hq:Q4.quarter ⟨ws.getD (ix 0) 0,ws.getD (ix 1) 0,ws.getD (ix 2) 0,ws.getD (ix 3) 0⟩=q
 have q0:A1 q.list 0=some q.a:=rfl
 have q1:A1 q.list 1=some q.b:=rfl
 have q2:A1 q.list 2=some q.c:=rfl
 have q3:A1 q.list 3=some q.d:=rfl
 simp only[q0,q1,q2,q3,Z,MA rfl h0,g (ws.set (ix 0) q.a) (ix 1) (by simpa using h1),MA rfl (show ix 1<(ws.set (ix 0) q.a).length by simpa using h1),
  g ((ws.set (ix 0) q.a).set (ix 1) q.b) (ix 2) (by simpa using h2),MA rfl (show ix 2<((ws.set (ix 0) q.a).set (ix 1) q.b).length by simpa using h2),
  g (((ws.set (ix 0) q.a).set (ix 1) q.b).set (ix 2) q.c) (ix 3) (by simpa using h3),MA rfl (show ix 3<(((ws.set (ix 0) q.a).set (ix 1) q.b).set (ix 2) q.c).length by simpa using h3)]
 unfold nK
 rw[hq]
 rfl
theorem oQ(key:List UInt8)(counter:UInt32)(nonce:List UInt8)(hk:key.length=32)(hn:nonce.length=12){n:Nat}(hm:16<n):IZ n key counter nonce=some (LP key counter nonce,0):=by
 have hb:=OF (counter:=counter) hk hn
 unfold IZ
 rw[show((!decide ((key.length:Int)=32))||(!decide ((nonce.length:Int)=12)))=false by simp[hk,hn]]
 simp only[Bq]
 rw[qS key counter nonce hk hn zO,Z]
 generalize hw:I8 key counter nonce=w at hb
 rw[FA (by simp[hb]) (by simp[hb]),Z,List.nil_append]
 have hl:∀l:List UInt32,(l.flatMap HX).length=4*l.length:=by
  intro l
  induction l with
  | nil=>rfl
  | cons x r ih=>rw[List.flatMap_cons,List.length_append,ih,List.length_cons];simp[HX];omega
 have h3:∀ws:List UInt32,ws.length=16→Hc n w ws=some ((List.zipWith (·+·) ws w).flatMap HX,0):=by
  intro ws ht
  have hz:(List.zipWith (·+·) ws w).length=16:=by simp[ht,hb]
  have hg:∀i,i<16→(List.zipWith (·+·) ws w)[i]? = some (ws.getD i 0+w.getD i 0):=fun i hi=>by
   simp[List.getD_eq_getElem?_getD,ht,hb,hi]
  generalize List.zipWith (·+·) ws w=z at hz hg
  unfold Hc LU
  refine(congrArg (CH _ n) ?_).trans (GH (fun i=>((z.take i).flatMap HX,(i:Int))) 16 (fun i hi k=>?_) (fun k=>?_) zO)
  simp
  have ei:((i+1:Nat):Int)=(i:Int)+1:=zO
  have st:(z.take (i+1)).flatMap HX=(z.take i).flatMap HX++HX (ws.getD i 0+w.getD i 0):=by
   rw[List.take_add_one,hg i hi,List.flatMap_append]
   simp
  dsimp only
  rw[st,ei]
  simp only[Hw,show decide ((i:Int)<16)=true by simp;omega,Ch,ret]
  rw[EK (k:=i) 0 rfl zO,Z,EK (k:=i) 0 rfl zO,Z,FA (by rw[hl];simp[hz];omega) (by rw[hl];simp[hz];omega),Z,BV zO zO]
  rfl
  simp only[Hw,show decide (((16:Nat):Int)<16)=false by decide,Bq,LS]
  rw[List.take_of_length_le zO]
 have h2:Hc n w (Uh w 10)=some (LP key counter nonce,0):=by
  rw[h3 _ (by rw[On,hb])]
  unfold LP lW
  rw[hw]
 unfold LT
 refine(congrArg (CH _ n) ?_).trans (GH (fun i=>(Uh w i,(i:Int))) 10 (fun i hi k=>?_) (fun k=>?_) zO)
 rfl
 simp only[Hv,show decide ((i:Int)<10)=true by simp;omega,Ch,ret]
 have hl0:(Uh w i).length=16:=by rw[On,hb]
 have hA:∀(l:List UInt32) (s j:Nat),l.length=16→j<4→Ea l (Jd s j 0:Int) (Jd s j 1:Int) (Jd s j 2:Int) (Jd s j 3:Int)=some (nK l (Jd s j)):=fun l s j hl hj=>xU l (Jd s j) (fun k hk=>by unfold Jd;omega)
 have r:∀(l:List UInt32) (s:Nat),l.length=16→∀j,(FD l s j).length=16:=fun l s hl j=>by rw[L9,hl]
 have a0:∀l:List UInt32,l.length=16→Ea l 0 4 8 12=some (FD l 0 1):=fun l hl=>hA l 0 0 hl zD
 have a1:∀l:List UInt32,l.length=16→Ea (FD l 0 1) 1 5 9 13=some (FD l 0 2):=fun l hl=>hA _ 0 1 (r _ _ hl _) zD
 have a2:∀l:List UInt32,l.length=16→Ea (FD l 0 2) 2 6 10 14=some (FD l 0 3):=fun l hl=>hA _ 0 2 (r _ _ hl _) zD
 have a3:∀l:List UInt32,l.length=16→Ea (FD l 0 3) 3 7 11 15=some (FD l 0 4):=fun l hl=>hA _ 0 3 (r _ _ hl _) zD
 have b0:∀l:List UInt32,l.length=16→Ea l 0 5 10 15=some (FD l 1 1):=fun l hl=>hA l 1 0 hl zD
 have b1:∀l:List UInt32,l.length=16→Ea (FD l 1 1) 1 6 11 12=some (FD l 1 2):=fun l hl=>hA _ 1 1 (r _ _ hl _) zD
 have b2:∀l:List UInt32,l.length=16→Ea (FD l 1 2) 2 7 8 13=some (FD l 1 3):=fun l hl=>hA _ 1 2 (r _ _ hl _) zD
 have b3:∀l:List UInt32,l.length=16→Ea (FD l 1 3) 3 4 9 14=some (FD l 1 4):=fun l hl=>hA _ 1 3 (r _ _ hl _) zD
 have hl4:=r _ 0 hl0 4
 rw[a0 _ hl0,Z,a1 _ hl0,Z,a2 _ hl0,Z,a3 _ hl0,Z,b0 _ hl4,Z,b1 _ hl4,Z,b2 _ hl4,Z,b3 _ hl4,Z,BV zO zO]
 rfl
 simp only[Hv,show decide (((10:Nat):Int)<10)=false by decide,Bq]
 exact h2
theorem w7(key nonce s:List UInt8)(hk:key.length=32)(hn:nonce.length=12)(hs:s.length≤1048576){n:Nat}(hm:16<n)(hm2:s.length<n):OO n key nonce s=some (KF key nonce s,0):=by
 have hB:∀i,IZ n key (UInt32.ofNat i) nonce=some (LP key (UInt32.ofNat i) nonce,0):=fun i=>oQ key _ nonce hk hn hm
 have hL:∀i,(LP key (UInt32.ofNat i) nonce).length=64:=fun i=>Tz hk hn
 have hX:∀i,i<s.length→(KF key nonce s).take (i+1)=(KF key nonce s).take i++[s.getD i 0 ^^^ (LP key (UInt32.ofNat (i / 64)) nonce).getD (i%64) 0]:=fun i hi=>by
  rw[List.take_add_one,List.getElem?_eq_getElem (by rw[HN];exact hi)]
  simp[KF,Q7]
 have hXl:=HN key nonce s
 generalize KF key nonce s=X at hX hXl ⊢
 generalize hBf:(fun i=>LP key (UInt32.ofNat i) nonce)=B
 have hB':∀i,IZ n key (UInt32.ofNat i) nonce=some (B i,0):=fun i=>by rw[hB i,←hBf]
 have hL':∀i,(B i).length=64:=fun i=>by rw[←hBf];exact hL i
 have hX':∀i,i<s.length→X.take (i+1)=X.take i++[s.getD i 0 ^^^ (B (i / 64)).getD (i%64) 0]:=fun i hi=>by rw[hX i hi,←hBf]
 clear hB hL hX hBf
 unfold OO
 rw[show(((!decide ((key.length:Int)=32))||(!decide ((nonce.length:Int)=12)))||(decide (1048576<(s.length:Int))))=false by simp[hk,hn];omega]
 simp only[Bq]
 unfold Kn
 refine(congrArg (CH _ n) ?_).trans (GH (fun i=>(X.take i,(if i=0 then[]else B ((i-1) / 64)),(i:Int))) s.length (fun i hi k=>?_) (fun k=>?_) hm2)
 simp
 have ei:((i+1:Nat):Int)=(i:Int)+1:=zO
 dsimp only
 rw[hX' i hi,if_neg (show ¬i+1=0 by omega),Nat.add_sub_cancel,ei]
 simp only[JJ,show decide ((i:Int)<(s.length:Int))=true by simp;omega,Ch]
 have hr:Va (i:Int) 64=some ((i%64:Nat):Int):=XG zD
 have hq:K0 (i:Int) 64=some ((i / 64:Nat):Int):=hU zD zO
 have hj:I2 s (X.take i) (i:Int) k (B (i / 64))=k (X.take i++[s.getD i 0 ^^^ (B (i / 64)).getD (i%64) 0],B (i / 64),(i:Int)+1):=by
  have hbl:=hL' (i / 64)
  unfold I2
  rw[EK (k:=i) 0 rfl hi,Z,hr,Z,EK (k:=i%64) 0 rfl zO,Z,FA zQ zQ,Z]
  simp only[ret]
  rw[BV zO zO]
 rw[hr,Z]
 by_cases h0:i%64=0
 rw[show decide (((i%64:Nat):Int)=0)=true by simp;omega]
 simp only[Ch]
 have hu:GW ((i / 64:Nat):Int)=UInt32.ofNat (i / 64):=by
  simp only[GW]
  congr 1
  omega
 rw[hq,Z,hu,hB',Z]
 exact hj
 rw[show decide (((i%64:Nat):Int)=0)=false by simp;omega]
 simp only[Bq]
 rw[if_neg (show ¬i=0 by omega),show(i-1) / 64=i / 64 by omega]
 exact hj
 simp only[JJ,show decide ((s.length:Int)<(s.length:Int))=false by simp,Bq,NU]
 rw[List.take_of_length_le zO]
end

section
theorem bU(x:UInt32)(n:Nat)(h:n≤32):Co x (n:Int)=some (Lb x n):=by
 unfold Co
 rw[XL,Z,BV zO zO,show(32-(n:Int))=((32-n:Nat):Int) by omega,XL,Z]
 rfl
theorem nA(s:List UInt8)(w:List UInt32)(h:16≤w.length):S6 s w=w.getD (w.length-16) 0+qQ (w.getD (w.length-15) 0)+w.getD (w.length-7) 0+qR (w.getD (w.length-2) 0):=by
 unfold S6
 rw[if_neg zO]
 ac_rfl
theorem pr{h:List UInt32}(hh:h.length=8){n:Nat}(hm:64<n):∀f:List UInt32,f.length=8→IL n h f=some (List.zipWith (·+·) f h):=by
 intro f hf
 have hfl:h.length=f.length:=zO
 unfold IL Ma
 refine(congrArg (CH _ n) ?_).trans (GH (fun i=>(Ta f h i,(i:Int))) 8 (fun i hi k=>?_) (fun k=>?_) zO)
 simp[Ta]
 have ei:((i+1:Nat):Int)=(i:Int)+1:=zO
 have hml:=XB f h hfl i
 dsimp only
 rw[ei,←cI f h hfl i zO,←cH f h hfl i zO]
 simp only[Ic,show decide ((i:Int)<8)=true by simp;omega,Ch,ret]
 rw[EK (k:=i) 0 rfl zO,Z,EK (k:=i) 0 rfl zO,Z,Z,MA rfl zO,Z,BV zO zO]
 simp only[Ic,show decide (((8:Nat):Int)<8)=false by decide,Bq,MY]
 have:=aR f h hfl
 rw[hf]at this
 rw[this]
theorem pq{T h:List UInt32}(hT:T.length=64)(hh:h.length=8){n:Nat}(hm:64<n):∀w:List UInt32,w.length=64→IJ n T h w=some (List.zipWith (·+·) h (H3 T w h 64).list):=by
 intro w hw
 have t6:∀x,Co x 6=some (Lb x 6):=fun x=>bU x 6 zD
 have t11:∀x,Co x 11=some (Lb x 11):=fun x=>bU x 11 zD
 have t25:∀x,Co x 25=some (Lb x 25):=fun x=>bU x 25 zD
 have t2:∀x,Co x 2=some (Lb x 2):=fun x=>bU x 2 zD
 have t13:∀x,Co x 13=some (Lb x 13):=fun x=>bU x 13 zD
 have t22:∀x,Co x 22=some (Lb x 22):=fun x=>bU x 22 zD
 have hz:∀q:Oq,IL n h q.list=some (List.zipWith (·+·) h q.list):=fun q=>by
  rw[pr hh hm _ rfl,List.zipWith_comm]
  simp only[UInt32.add_comm]
 have hN:∀i,H3 T w h (i+1)=(H3 T w h i).step (T.getD i 0) (w.getD i 0):=fun i=>rfl
 have h0:(H3 T w h 0).list=h:=Sf hh
 generalize H3 T w h=R at hN h0 ⊢
 unfold IJ MZ
 rw[FA (by simp[hh]) (by simp[hh]),Z,List.nil_append]
 refine(congrArg (CH _ n) ?_).trans (GH (fun i=>((R i).list,(i:Int))) 64 (fun i hi k=>?_) (fun k=>?_) zO)
 simp[h0]
 have ei:((i+1:Nat):Int)=(i:Int)+1:=zO
 dsimp only
 rw[ei,hN]
 generalize R i=q
 have q0:A1 q.list 0=some q.a:=rfl
 have q1:A1 q.list 1=some q.b:=rfl
 have q2:A1 q.list 2=some q.c:=rfl
 have q3:A1 q.list 3=some q.d:=rfl
 have q4:A1 q.list 4=some q.e:=rfl
 have q5:A1 q.list 5=some q.f:=rfl
 have q6:A1 q.list 6=some q.g:=rfl
 have q7:A1 q.list 7=some q.i:=rfl
 simp only[Ib,show decide ((i:Int)<64)=true by simp;omega,Ch,BE,q0,q1,q2,q3,q4,q5,q6,q7,Z,t6,t11,t25,t2,t13,t22]
 rw[EK (k:=i) 0 rfl zO,Z,EK (k:=i) 0 rfl zO,Z,BV zO zO]
 simp only[Oq.step,Oq.list,Oq.t1,Oq.t2]
 simp only[Ib,show decide (((64:Nat):Int)<64)=false by decide,Bq]
 exact hz _
theorem uF(T h:List UInt32)(s:List UInt8)(hT:T.length=64)(hh:h.length=8)(hs:s.length=64){n:Nat}(hm:64<n):M7 n T h s=some (S3 T h s):=by
 
 have t7:∀x,Co x 7=some (Lb x 7):=fun x=>bU x 7 zD
 have t18:∀x,Co x 18=some (Lb x 18):=fun x=>bU x 18 zD
 have t17:∀x,Co x 17=some (Lb x 17):=fun x=>bU x 17 zD
 have t19:∀x,Co x 19=some (Lb x 19):=fun x=>bU x 19 zD
 unfold M7 Ju
 have hW:∀i,Gf s (i+1)=Gf s i++[S6 s (Gf s i)]:=fun i=>rfl
 have hWl:=Nk s
 have hfin:IJ n T h (Gf s 64)=some (S3 T h s):=by
  unfold S3 FY
  exact pq hT hh hm _ (hWl 64)
 have hW0:Gf s 0=[]:=rfl
 generalize Gf s=W at hW hWl hfin hW0
 refine(congrArg (CH _ n) ?_).trans (GH (fun i=>(W i,(i:Int))) 64 (fun i hi k=>?_) (fun k=>?_) hm)
 simp[hW0]
 have ei:((i+1:Nat):Int)=(i:Int)+1:=zO
 have hl:=hWl i
 dsimp only
 rw[ei,hW]
 generalize W i=w at hl
 simp only[Ia,show decide ((i:Int)<64)=true by simp;omega,Ch]
 have hj:∀x:UInt32,(Eh 4 w [x]).bind (fun l=>IK (i:Int) k l)=k (w++[x],(i:Int)+1):=fun x=>by
  rw[FA zQ zQ,Z]
  simp only[IK,ret]
  rw[BV zO zO]
 by_cases hlt:i<16
 rw[show decide ((i:Int)<16)=true by simp;omega]
 simp only[Ch]
 rw[BV zO zO,EK (k:=4*i) 0 zO zO,Z,BV zO zO,EK (k:=4*i+1) 0 zO zO,Z,BV zO zO,EK (k:=4*i+2) 0 zO zO,Z,
  BV zO zO,EK (k:=4*i+3) 0 zO zO,Z,hj]
 unfold S6
 rw[if_pos zO,hl]
 rfl
 rw[show decide ((i:Int)<16)=false by simp;omega]
 simp only[Bq]
 rw[BV zO zO,EK (k:=i-15) 0 zO zO,Z,BV zO zO,EK (k:=i-2) 0 zO zO,Z,BV zO zO,EK (k:=i-16) 0 zO zO,Z,
  t7,Z,t18,Z,BV zO zO,EK (k:=i-7) 0 zO zO,Z,t17,Z,t19,Z,hj,nA s w zO,hl]
 rfl
 simp only[Ia,show decide (((64:Nat):Int)<64)=false by decide,Bq]
 exact hfin
theorem iH(x:UInt64):shr64 x 0=x:=by
 apply UInt64.toNat_inj.1
 have:=x.toNat_lt
 simp[shr64]
theorem mc(s:List UInt8)(hs:s.length≤1099511627776){n:Nat}(hm:64<n):Ko n s=some (s++Mw s.length):=by
 unfold Ko
 rw[GK zQ,Z]
 unfold KU
 have hp:NH s.length<64:=by unfold NH;omega
 refine(congrArg (CH _ n) ?_).trans (GH (fun i=>s++[128]++List.replicate i 0) (NH s.length) (fun i hi k=>?_) (fun k=>?_) zO)
 simp
 have hl:(s++[128]++List.replicate i (0:UInt8)).length=s.length+1+i:=by simp;omega
 have st:s++[128]++List.replicate (i+1) (0:UInt8)=s++[128]++List.replicate i 0++[0]:=by rw[List.replicate_succ',List.append_assoc _ _ [0]]
 rw[st]
 generalize s++[128]++List.replicate i (0:UInt8)=u at hl
 simp only[HQ]
 rw[hl,show(64:Int)=((64:Nat):Int)from rfl,XG zD,Z,show(!decide ((((s.length+1+i)%64:Nat):Int)=56))=true by unfold NH at hi;simp;omega]
 simp only[Ch]
 rw[GK zQ,Z]
 have hl:(s++[128]++List.replicate (NH s.length) (0:UInt8)).length=s.length+1+NH s.length:=by simp;omega
 have ht:s++Mw s.length=s++[128]++List.replicate (NH s.length) 0++Ty (DJ s.length*8):=by simp[Mw]
 rw[ht]
 generalize s++[128]++List.replicate (NH s.length) (0:UInt8)=u at hl
 simp only[HQ]
 rw[hl,show(64:Int)=((64:Nat):Int)from rfl,XG zD,Z,show(!decide ((((s.length+1+NH s.length)%64:Nat):Int)=56))=false by unfold NH;simp;omega]
 simp only[Bq,KT,ret]
 rw[GK zQ,Z]
 simp only[Ty,iH]
theorem jw(T:List UInt32)(s:List UInt8)(hT:T.length=64)(hs:s.length≤1099511627776){n:Nat}(hm:64<n)(hm2:s.length<n):KV n T s=some (Ol T s):=by
 unfold KV
 rw[mc s hs hm,Z]
 have hw:(s++Mw s.length).length%64=0:=by
  simp[Mw,NH,Ty];omega
 have hlen:(s++Mw s.length).length≤s.length+73:=by
  simp[Mw,NH,Ty];omega
 have hsum:Ol T s=(H8 T FO (s++Mw s.length) ((s++Mw s.length).length / 64)).list.flatMap IS:=by
  unfold Ol
  rw[My]
 rw[hsum]
 generalize s++Mw s.length=f at hw hlen
 
 have hl:∀l:List UInt32,(l.flatMap IS).length=4*l.length:=by
  intro l
  induction l with
  | nil=>rfl
  | cons x r ih=>rw[List.flatMap_cons,List.length_append,ih,List.length_cons];simp[IS];omega
 have h1:∀l:List UInt32,l.length=8→Kp n l=some (l.flatMap IS):=by
  intro l h8
  unfold Kp NX
  refine(congrArg (CH _ n) ?_).trans (GH (fun i=>((l.take i).flatMap IS,(i:Int))) 8 (fun i hi k=>?_) (fun k=>?_) zO)
  simp
  have ei:((i+1:Nat):Int)=(i:Int)+1:=zO
  have st:(l.take (i+1)).flatMap IS=(l.take i).flatMap IS++IS (l.getD i 0):=by
   rw[List.take_add_one,LH 0 zO,List.flatMap_append]
   simp
  dsimp only
  rw[st,ei]
  simp only[JL,show decide ((i:Int)<8)=true by simp;omega,Ch,ret]
  rw[EK (k:=i) 0 rfl zO,Z,Z,Z,Z,FA (by rw[hl];simp;omega) (by rw[hl];simp;omega),Z,BV zO zO]
  rfl
  simp only[JL,show decide (((8:Nat):Int)<8)=false by decide,Bq,NV]
  rw[List.take_of_length_le zO]
 unfold NW
 have hfirst:OP=some FO.list:=rfl
 rw[hfirst,Z]
 have hP:∀j,(H8 T FO f (j+1)).list=S3 T (H8 T FO f j).list ((f.drop (64*j)).take 64):=fun j=>by
  show(Vy T _ _).list=_
  unfold Vy
  exact Sf (VX rfl)
 have hP8:∀j,(H8 T FO f j).list.length=8:=fun j=>rfl
 have hP0:(H8 T FO f 0).list=FO.list:=rfl
 generalize (fun j=>(H8 T FO f j).list)=R at hP hP8 hP0
 generalize hR:(fun j=>(H8 T FO f j).list)=R at*
 have hP':∀j,R (j+1)=S3 T (R j) ((f.drop (64*j)).take 64):=fun j=>by rw[←hR];exact hP j
 have hP8':∀j,(R j).length=8:=fun j=>by rw[←hR];exact hP8 j
 have hP0':R 0=FO.list:=by rw[←hR];exact hP0
 have hRN:(H8 T FO f (f.length / 64)).list=R (f.length / 64):=by rw[←hR]
 rw[hRN]
 clear hR hRN hP hP8 hP0
 refine(congrArg (CH _ n) ?_).trans (GH (fun j=>(R j,((64*j:Nat):Int))) (f.length / 64) (fun j hj k=>?_) (fun k=>?_) zO)
 simp[hP0']
 have ej:((64*(j+1):Nat):Int)=((64*j:Nat):Int)+64:=zO
 dsimp only
 rw[hP',ej]
 simp only[JK,show decide (((64*j:Nat):Int)<(f.length:Int))=true by simp;omega,Ch,ret]
 rw[BV zO zO,iI (p:=64*j) (q:=64*j+64) rfl zO zO zO,Z,show 64*j+64-64*j=64 by omega,uF T (R j) _ hT (hP8' j) zQ hm,Z]
 simp only[JK,show decide (((64*(f.length / 64):Nat):Int)<(f.length:Int))=false by simp;omega,Bq]
 exact h1 _ (hP8' _)
theorem lY(T:List UInt32)(key:List UInt8)(c:UInt8)(hT:T.length=64)(hs:key.length≤1099511627776){n:Nat}(hm:64<n)(hm2:key.length<n):LD n T key c=some (HY T key c):=by
 have h1:∀u:List UInt8,u.length≤64→IM n c u=some ((List.range 64).map fun i=>u.getD i 0 ^^^ c):=by
  intro u hu
  unfold IM Jv
  refine(congrArg (CH _ n) ?_).trans (GH (fun i=>((List.range i).map (fun i=>u.getD i 0 ^^^ c),(i:Int))) 64 (fun i hi k=>?_) (fun k=>?_) hm)
  simp
  have ei:((i+1:Nat):Int)=(i:Int)+1:=zO
  have st:(List.range (i+1)).map (fun i=>u.getD i 0 ^^^ c)=(List.range i).map (fun i=>u.getD i 0 ^^^ c)++[u.getD i 0 ^^^ c]:=by simp[List.range_succ]
  have hj:IN c ((List.range i).map (fun i=>u.getD i 0 ^^^ c)) (i:Int) k (u.getD i 0)=k ((List.range i).map (fun i=>u.getD i 0 ^^^ c)++[u.getD i 0 ^^^ c],(i:Int)+1):=by
   unfold IN
   rw[FA zQ zQ,Z]
   simp only[ret]
   rw[BV zO zO]
  dsimp only
  rw[st,ei,←hj]
  simp only[Id,show decide ((i:Int)<64)=true by simp;omega,Ch]
  by_cases h0:i<u.length
  rw[show decide ((i:Int)<(u.length:Int))=true by simp;omega]
  simp only[Ch]
  rw[EK (k:=i) 0 rfl h0,Z]
  rw[show decide ((i:Int)<(u.length:Int))=false by simp;omega]
  simp only[Bq]
  rw[show u.getD i 0=0 by simp[List.getD_eq_getElem?_getD,List.getElem?_eq_none (show u.length≤i by omega)]]
  simp only[Id,show decide (((64:Nat):Int)<64)=false by decide,Bq,Mb]
 unfold LD HY Gw
 by_cases h0:64<key.length
 rw[show decide (64<(key.length:Int))=true by simp;omega,if_pos h0]
 simp only[Ch]
 rw[jw T key hT hs hm hm2,Z]
 exact h1 _ (by rw[Kj];omega)
 rw[show decide (64<(key.length:Int))=false by simp;omega,if_neg h0]
 simp only[Bq]
 exact h1 _ zO
theorem pc(T:List UInt32)(key m:List UInt8)(hT:T.length=64)(hk:key.length≤1048576)(hs:m.length≤1048576){n:Nat}(hm:2097152<n):KY n T key m=some (TZ T key m):=by
 unfold KY OQ
 have l1:=NI T key 54
 have l2:=NI T key 92
 rw[lY T key 54 hT zO zO zO,Z,GK zO,Z,lY T key 92 hT zO zO zO,Z,jw T _ hT zQ zO zQ,Z,
  GK (by rw[Kj];omega),Z,Z]
 have e:A1 [HY T key 54++m,HY T key 92++Ol T (HY T key 54++m)] 1=some (HY T key 92++Ol T (HY T key 54++m)):=rfl
 rw[e,Z,jw T _ hT (by rw[List.length_append,Kj];omega) zO (by rw[List.length_append,Kj];omega),Z]
 unfold TZ
 exact Eq.refl _
theorem pG(T:List UInt32)(key label:List UInt8)(hT:T.length=64)(hk:key.length≤1048576)(hl:label.length≤1000000){n:Nat}(hm:2097152<n):I3 n T key label 32=some (H6 T key label,0):=by
 have hml:∀m,(TZ T key m).length=32:=fun m=>JS T key m
 have hmac:KY n T key ([]++label++[KE 1])=some (H6 T key label):=by
  rw[pc T key _ hT hk zQ hm]
  rfl
 have he:(H6 T key label).length=32:=hml _
 generalize H6 T key label=x at hmac he ⊢
 unfold I3 KX
 rw[show((decide ((32:Int)<0))||(decide ((8160:Int)<32)))=false by decide]
 simp only[Bq]
 obtain⟨m,rfl⟩:∃m,n=m+1+1:=⟨n-2,by omega⟩
 rw[YN]
 simp only[HR]
 rw[show decide (((([]:List UInt8).length:Nat):Int)<32)=true by decide]
 simp only[Ch]
 rw[GK zQ,Z,GK zQ,Z,hmac,Z,GK zQ,Z]
 rw[BE,List.nil_append,YN]
 simp only[HR]
 rw[show decide (((x.length:Nat):Int)<32)=false by rw[he];decide]
 simp only[Bq,KW]
 rw[show KK x 0 32=some ((x.drop 0).take (32-0))from iI (p:=0) (q:=32) rfl rfl zO zO,Z]
 simp[List.take_of_length_le,he]
end

section
theorem ef(x:UInt64)(w:Nat)(hw:w≤8){n:Nat}(hm:8<n):FW n x (w:Int)=some (DN x w):=by
 unfold FW Nb
 have hS:∀i,i<8→shr64 x (8*(i+1))=shr64 x (8*i) / 256:=fun i hi=>by
  apply UInt64.toNat_inj.1
  rw[UInt64.toNat_div,MB _ _ zO,MB _ _ zO,show(256:UInt64).toNat=2^8 from rfl,Nat.div_div_eq_div_mul,←Nat.pow_add,show 8*(i+1)=8*i+8 by omega]
 have hP:∀i,DN x (i+1)=DN x i++[(shr64 x (8*i)).toUInt8]:=UW x
 have h0:shr64 x (8*0)=x:=by rw[Nat.mul_zero,iH]
 have hl:=Ca x
 have hp0:DN x 0=[]:=rfl
 generalize DN x=Pt at hP hl hp0 ⊢
 generalize hq:(fun i=>shr64 x (8*i))=S
 have hS':∀i,i<8→S (i+1)=S i / 256:=fun i hi=>by rw[←hq];exact hS i hi
 have hP':∀i,Pt (i+1)=Pt i++[(S i).toUInt8]:=fun i=>by rw[hP,←hq]
 have h0':S 0=x:=by rw[←hq];exact h0
 clear hS hP h0 hq
 refine(congrArg (CH _ n) ?_).trans (GH (fun i=>(S i,Pt i,(i:Int))) w (fun i hi k=>?_) (fun k=>?_) zO)
 simp[h0',hp0]
 have ei:((i+1:Nat):Int)=(i:Int)+1:=zO
 dsimp only
 rw[ei,hP',hS' i zO]
 simp only[JN,show decide ((i:Int)<(w:Int))=true by simp;omega,Ch]
 have hlp:=hl i
 rw[GK zQ,Z,show TF (S i) 256=some (S i / 256)from rfl,Z,BE,BV zO zO]
 simp only[JN,show decide ((w:Int)<(w:Int))=false by simp,Bq,Na]
theorem pg(h:EY){n:Nat}(hm:8<n):Lp n h=some (Mh h):=by
 unfold Lp
 rw[show FW n h.boot.toUInt64 4=some (DN h.boot.toUInt64 4)from ef _ 4 zD hm,Z,show FW n h.seq 8=some (DN h.seq 8)from ef _ 8 zD hm,Z,GK (by simp[Ca]),Z]
 unfold Mh
 exact Eq.refl _
theorem uh(h:EY){n:Nat}(hm:8<n):OS n h=some (Q0 h):=by
 unfold OS
 have p4:∀x:UInt64,FW n x 4=some (DN x 4):=fun x=>ef _ 4 zD hm
 have p8:∀x:UInt64,FW n x 8=some (DN x 8):=fun x=>ef _ 8 zD hm
 rw[p4,Z,p4,Z,GK (by simp[Ca]),Z,p4,Z,GK (by simp[Ca]),Z,p8,Z,GK (by simp[Ca]),Z,GK (by simp[Ca]),Z]
 simp[Q0,Mh]
theorem lj(T:List UInt32)(k:Bf)(hT:T.length=64)(hr:E7 [k]=true){n:Nat}(hm:2097152<n):LF n T k=some (Q8 T k PK,Q8 T k Pn,0):=by
 have hl:=YU hr
 unfold LF
 rw[aa [k] zS zO,Z,hr]
 simp only[Bool.not_true,Bq]
 rw[GK zS,Z,pG T k.secret _ hT zO zS hm,Z,GK zS,Z,pG T k.secret _ hT zO zS hm,Z]
 exact Eq.refl _
theorem vu(s:List UInt8){n:Nat}(hm:256<n):OR n s=some (Qy s):=by
 unfold OR Qy
 by_cases h:198<s.length
 rw[show decide (198<(s.length:Int))=true by simp;omega,if_pos h]
 simp only[Ch]
 rw[show decide (198<(s.length:Int))=false by simp;omega,if_neg h]
 simp only[Bq]
 rw[show K0 (s.length:Int) 256=some ((s.length / 256:Nat):Int)from hU (b:=256) zD zO,Z,show Va (s.length:Int) 256=some ((s.length%256:Nat):Int)from XG (b:=256) zD,Z,GK zQ,Z]
 have hp:L6 s=[KE ((s.length / 256:Nat):Int),KE ((s.length%256:Nat):Int)]++s++List.replicate (198-s.length) 0:=by
  unfold L6
  congr 3
  simp only[KE]
  congr 2
  omega
 rw[hp]
 have hl:([KE ((s.length / 256:Nat):Int),KE ((s.length%256:Nat):Int)]++s).length=s.length+2:=by simp
 generalize [KE ((s.length / 256:Nat):Int),KE ((s.length%256:Nat):Int)]++s=u at hl
 unfold NZ
 refine(congrArg (CH _ n) ?_).trans (GH (fun i=>u++List.replicate i 0) (198-s.length) (fun i hi k=>?_) (fun k=>?_) zO)
 simp
 have st:u++List.replicate (i+1) (0:UInt8)=u++List.replicate i 0++[0]:=by rw[List.replicate_succ',List.append_assoc]
 have hl2:(u++List.replicate i (0:UInt8)).length=s.length+2+i:=by simp;omega
 rw[st]
 generalize u++List.replicate i (0:UInt8)=y at hl2
 unfold JM
 rw[show decide ((y.length:Int)<200)=true by simp;omega]
 simp only[Ch]
 rw[GK zQ,Z]
 have hl2:(u++List.replicate (198-s.length) (0:UInt8)).length=200:=by simp;omega
 generalize u++List.replicate (198-s.length) (0:UInt8)=y at hl2
 unfold JM
 rw[show decide ((y.length:Int)<200)=false by simp;omega]
 simp only[Bq]
 unfold NY
 exact Eq.refl _
end

section
theorem oR(T:List UInt32)(k:Bf)(h:EY)(body:List UInt8)(hT:T.length=64)(hr:E7 [k]=true)(hb:body.length=200){n:Nat}(hm:2097152<n):Lo n T k h body=some (MM T k h body):=by
 unfold Lo
 rw[lj T k hT hr hm,Z,pg h zO,Z,w7 _ _ _ (QO T k PK) (L4 h) zO zO zO,Z,uh h zO,Z,GK (by rw[JT,HN];omega),Z]
 rfl
theorem uJ(T:List UInt32)(l:List Bf)(h:EY)(s:List UInt8)(hT:T.length=64)(hl:l.length≤1048576){n:Nat}(hm:2097152<n):M8 n T l h s=some (Iz T l h s):=by
 unfold M8
 rw[lJ l h.gen hl zO,Z]
 unfold Iz
 by_cases hf:(Eo l h.gen).2=0
 obtain⟨_,_,_,hr⟩:=Wr hf
 rw[show(!decide ((Eo l h.gen).2=0))=false by simp[hf],if_neg (by simp[hf])]
 simp only[Bq]
 rw[vu s zO,Z]
 by_cases h1:198<s.length
 rw[if_pos h1,show Qy s=([],50) by unfold Qy;rw[if_pos h1]]
 rfl
 rw[if_neg h1,show Qy s=(L6 s,0) by unfold Qy;rw[if_neg h1]]
 have hp:=HL (s:=s) zO
 rw[show(!decide (((L6 s,(0:Int)):List UInt8×Int).2=0))=false from rfl]
 simp only[Bq]
 have hbl:=IT T (Eo l h.gen).1 h hp
 rw[oR T _ h _ hT hr hp hm,Z,lj T _ hT hr hm,Z]
 dsimp only
 rw[pc T _ _ hT (by rw[QO];omega) (by rw[hbl];omega) hm,Z,GK (by rw[hbl,JS];omega),Z]
 unfold I9
 exact Eq.refl _
 rw[show(!decide ((Eo l h.gen).2=0))=true by simp[hf],if_pos hf]
 simp only[Ch]
end

section
structure Ya(k:UInt64)(c:BM):Prop where
 bl:c.blk.length=60
 pl:c.pnd.length=60
 lf:c.left = -1
 on:c.off=false
 rc:c.rcnt=k
theorem pj{k:UInt64}{c:BM}(R:Ya k c):FG c=some (0,c):=by
 unfold FG G9
 rw[R.lf,show decide ((-1:Int)=0)=false from rfl,Bq,R.on,Bq,show decide ((0:Int) < -1)=false from rfl,Bq]
 rfl
theorem qr{k:UInt64}{c:BM}{p:UInt32}{b:List UInt8}(R:Ya k c)(hp:p.toNat<60)(hb:b.length=256):∃c',GF c p b=some (0,c')∧Ya k c':=by
 have h1:decide (p.toUInt64<DJ (c.blk.length:Int))=true:=by
  rw[R.bl,decide_eq_true_eq,UInt64.lt_iff_toNat_lt]
  show p.toUInt64.toNat<60
  simpa using hp
 refine⟨{ c with pnd:=c.pnd.set p.toNat b },?_,⟨R.bl,(List.length_set ..).trans R.pl,R.lf,R.on,R.rc⟩⟩
 unfold GF KZ
 rw[BE,Z,h1,hb]
 show(FG c).bind _=_
 have h2:A1 c.pnd ((p.toNat:Nat):Int)=some (c.pnd[p.toNat]'(by rw[R.pl];exact hp)):=by rw[Fv];exact List.getElem?_eq_getElem _
 rw[pj R,Z]
 show(A1 c.pnd ((p.toNat:Nat):Int)).bind _=_
 rw[h2,Z,MA rfl (by rw[R.pl];exact hp),Z]
 rfl
theorem gW{k:UInt64}{c:BM}(R:Ya k c):∃c',GE 2200000 c=some (0,c')∧Ya k c':=by
 unfold GE
 rw[pj R,Z]
 have key:∀(i m:Nat) (x:BM),i≤60→60-i<m→Ya k x→∃c',FR (0,c) m (x,(i:Int))=some (0,c')∧Ya k c':=by
  intro i m
  induction m generalizing i with
  | zero=>intro x _ h;omega
  | succ m ih=>
   intro x hi hm X
   show ∃c',Fh (0,c) (FR (0,c) m) x (i:Int)=some (0,c')∧Ya k c'
   unfold Fh
   rw[X.bl]
   by_cases h:i<60
   have h1:A1 x.pnd (i:Int)=some (x.pnd[i]'(by rw[X.pl];exact h)):=by rw[Fv];exact List.getElem?_eq_getElem _
   have h2:A1 x.blk (i:Int)=some (x.blk[i]'(by rw[X.bl];exact h)):=by rw[Fv];exact List.getElem?_eq_getElem _
   rw[show(decide ((i:Int)<((60:Nat):Int))&&decide (((0,c):Int×BM).1=0))=true by simp;omega,Ch,h1,Z]
   cases (!decide (x.pnd[i]'(by rw[X.pl];exact h)=[]))with
   | true=>
    rw[Ch,Z,h2,Z,MA rfl (by rw[X.bl];exact h),Z,Z,MA rfl (by rw[X.pl];exact h),Z]
    unfold FQ
    rw[BE,BV zO zO]
    exact ih (i+1) _ zO zO ⟨(List.length_set ..).trans X.bl,(List.length_set ..).trans X.pl,X.lf,X.on,X.rc⟩
   | false=>
    rw[Bq]
    unfold FQ
    rw[BE,BV zO zO]
    exact ih (i+1) _ zO zO X
   rw[show(decide ((i:Int)<((60:Nat):Int))&&decide (((0,c):Int×BM).1=0))=false by simp;omega,Bq]
   exact⟨x,rfl,X⟩
 exact key 0 2200000 c zO zO R
theorem uj{k:UInt64}{c:BM}{t:List UInt8}(R:Ya k c)(ht:t.length=32)(hk:k≠18446744073709551615):∃c',Gb c t=some (0,c'):=by
 unfold Gb
 rw[ht,show(!decide (((32:Nat):Int)=32))=false from rfl,Bq,zf (by rw[R.rc];exact hk),Bq,pj R,Z]
 exact⟨_,rfl⟩
theorem uL{b:List UInt8}(hb:b.length=256):KK b 224 (b.length:Int)=some (b.drop 224):=by
 unfold KK
 rw[if_pos zO,show(224:Int).toNat=224 from rfl,show(b.length:Int).toNat=b.length from rfl,List.take_of_length_le zS]
theorem iE{T:List UInt32}{k:UInt64}{w:Bt}{c:BM}{p:UInt32}{s:List UInt8}(hT:T.length=64)(hr:w.ring=Ei 1)(hg:w.gen=1)(R:Ya k c)(hp:p.toNat<60)(hs:s.length≤198):
  ∃tag c',Gc 2200000 T w c p s=some (tag,0,{ w with num:=w.num+1 },c')∧tag.length=32∧Ya k c':=by
 have hb:=ML T (UU 0) ⟨p,w.gen,w.boot,w.num⟩ hs
 have hse:Iz T (Ei 1) ⟨p,w.gen,w.boot,w.num⟩ s=(I9 T (UU 0) ⟨p,w.gen,w.boot,w.num⟩ s,0):=by
  have:=cW (T:=T) (l:=Ei 1) (h:=⟨p,w.gen,w.boot,w.num⟩) (s:=s) (by rw[E2];omega) (by rw[hg];exact Z0 zO zO) hs
  unfold Xw at this
  rw[if_pos ⟨by rw[E2];omega,by omega⟩]at this
  exact zI this
 obtain⟨c',hw,R'⟩:=qr R hp hb
 refine⟨(I9 T (UU 0) ⟨p,w.gen,w.boot,w.num⟩ s).drop 224,c',?_,by simp[hb],R'⟩
 unfold Gc
 rw[hr,uJ T (Ei 1) _ s hT (by rw[E2];omega) zO,hse,Z]
 show(GF c p _).bind _=_
 rw[hw,Z]
 show(KK _ 224 _).bind _=_
 rw[uL hb,Z]
theorem vv:∃t,Kr 2200000 ⟨1,0,0,0,[],[],0,[]⟩=some (t,0)∧t.length≤198:=by
 have h:(Kr 2200000 ⟨1,0,0,0,[],[],0,[]⟩).map (fun y=>(y.2,decide (y.1.length≤198)))=some (0,true):=zK
 obtain⟨⟨t,e⟩,h1,h2⟩:=Option.map_eq_some_iff.1 h
 simp only[Prod.mk.injEq,decide_eq_true_eq]at h2
 obtain⟨rfl,h2⟩:=h2
 exact⟨t,h1,h2⟩
theorem mf{T:List UInt32}(hT:T.length=64):∃s w c,Kt 2200000 T (r0 60) (Ei 1)=some (some (s,w),0,c):=by
 have hr1:E7 (Ei 1)=true:=TG 1 zO
 have hn:Kq 2200000 (Ei 1)=some (1,0):=by
  unfold Kq
  rw[aa _ (by rw[E2];omega) zO,hr1]
  rfl
 have R0:Ya 0 { r0 60 with rboots:=1 }:=⟨List.length_replicate ..,List.length_replicate ..,rfl,rfl,rfl⟩
 have hst:Io (r0 60)=some (1,0,{ r0 60 with rboots:=1 }):=rfl
 have hv:∃l,OZ 2200000 { r0 60 with rboots:=1 } (Ei 1) 1 1=some (some { ring:=Ei 1,gen:=1,boot:=1,num:=0,taken:=l },0)∧l.length=60∧A1 l 2=some false:=by
  refine⟨((List.replicate 60 false).set 0 true).set 1 true,?_,rfl,rfl⟩
  unfold OZ
  rw[lJ (Ei 1) 1 (by rw[E2];omega) zO,Z0 zO zO,Z]
  rfl
 obtain⟨l,hv,hl,h2⟩:=hv
 obtain⟨t,ht,htl⟩:=vv
 generalize hw:({ ring:=Ei 1,gen:=1,boot:=1,num:=0,taken:=l }:Bt)=w at hv
 generalize hc:({ r0 60 with rboots:=1 }:BM)=c at hv hst R0
 have wr:w.ring=Ei 1:=by rw[←hw]
 have wg:w.gen=1:=by rw[←hw]
 have wt:w.taken=l:=by rw[←hw]
 obtain⟨tag,c1,hs1,ltag,R1⟩:=iE hT wr wg R0 (show(GW 2).toNat<60 by decide) htl
 have hwr:HS 2200000 T w c t=some (⟨2,tag⟩,0,{ w with num:=w.num+1,taken:=l.set 2 true },c1):=by
  unfold HS
  rw[zf zO,Bq]
  show Fz 2200000 T t (He 2200000 T t 2199999) w c 0 [] 2=_
  unfold Fz
  rw[wt,hl,show decide ((2:Int)<((60:Nat):Int))=true from rfl,Ch,h2,Z,Bq,hs1,Z]
  simp only[decide_true,Bool.not_true,Bq]
  rw[wt,h2,Z,MA (show(2:Int)=((2:Nat):Int)from rfl) zO,Z]
  rfl
 have hsv:NA 2200000 T w c=some ([⟨t,2,tag⟩],0,{ w with num:=w.num+1,taken:=l.set 2 true },c1):=by
  have hpl:GG 2200000 T { had:=[],out:=[],took:=[],err:=0,must:=[] } w c ⟨1,0,0,0,[],[],0,[]⟩=some (⟨2,tag⟩,{ had:=[],out:=[⟨t,2,tag⟩],took:=[2],err:=0,must:=[] },{ w with num:=w.num+1,taken:=l.set 2 true },c1):=by
   unfold GG
   rw[ht,Z]
   show GN 2200000 T w c (t,0) { had:=[],out:=[],took:=[],err:=0,must:=[] } 0 []=_
   unfold GN
   rw[hwr,Z]
   rfl
  have hnd:HT 2200000 T { had:=[],out:=[],took:=[],err:=0,must:=[] } w c=some (⟨2,tag⟩,{ had:=[],out:=[⟨t,2,tag⟩],took:=[2],err:=0,must:=[] },{ w with num:=w.num+1,taken:=l.set 2 true },c1):=by
   show F0 2200000 T (Hf 2200000 T 2199999) { had:=[],out:=[],took:=[],err:=0,must:=[] } w c 0 [] 0=_
   unfold F0
   show(GG 2200000 T { had:=[],out:=[],took:=[],err:=0,must:=[] } w c ⟨1,0,0,0,[],[],0,[]⟩).bind _=_
   rw[hpl,Z]
   rfl
  unfold NA
  show(HT 2200000 T { had:=[],out:=[],took:=[],err:=0,must:=[] } w c).bind _=_
  rw[hnd,Z]
  rfl
 generalize hw2:({ w with num:=w.num+1,taken:=l.set 2 true }:Bt)=w2 at hsv
 have w2r:w2.ring=Ei 1:=by rw[←hw2];exact wr
 have w2g:w2.gen=1:=by rw[←hw2];exact wg
 obtain⟨c2,hf,R2⟩:=gW R1
 have hri:Ii ⟨1,1,0,2,tag⟩=some true:=by
  unfold Ii Hd
  rw[ltag]
  rfl
 have put8:∀x:UInt64,∃a,JQ 2200000 x 8=some a∧a.length=8:=fun x=>⟨_,rfl,rfl⟩
 have put4:∀x:UInt64,∃a,JQ 2200000 x 4=some a∧a.length=4:=fun x=>⟨_,rfl,rfl⟩
 obtain⟨a1,p1,q1⟩:=put8 1
 obtain⟨a2,p2,q2⟩:=put4 (1:UInt32).toUInt64
 obtain⟨a3,p3,q3⟩:=put4 (0:UInt32).toUInt64
 obtain⟨a4,p4,q4⟩:=put4 (2:UInt32).toUInt64
 have he:∃u,Ks 2200000 ⟨1,1,0,2,tag⟩=some (u,0)∧u.length≤198:=by
  refine⟨[115,112,104,114]++a1++a2++a3++a4++tag,?_,by simp[q1,q2,q3,q4,ltag]⟩
  unfold Ks Fp
  rw[hri,Z]
  simp only[Bool.not_true,Bq]
  rw[p1,Z,if_pos (by simp[q1]),Z,p2,Z,if_pos (by simp[q1,q2]),Z,p3,Z,if_pos (by simp[q1,q2,q3]),Z,p4,Z,if_pos (by simp[q1,q2,q3,q4]),Z,if_pos (by simp[q1,q2,q3,q4,ltag]),Z]
 obtain⟨u,he,hu⟩:=he
 obtain⟨tg2,c3,hs3,ltg2,R3⟩:=iE (T:=T) (p:=(1:UInt64).toUInt32) hT w2r w2g R2 zD hu
 obtain⟨c4,hf4,R4⟩:=gW R3
 obtain⟨c5,ha⟩:=uj R4 ltg2 zD
 have hpub:∀s,Ft 2200000 T s w2 c1 [⟨t,2,tag⟩]=some (0,{ w2 with num:=w2.num+1 },c5):=by
  intro s
  unfold Ft
  have hnx:NB 0 w2.gen 0 ⟨2,tag⟩=some (⟨1,1,0,2,tag⟩,0):=by
   rw[w2g]
   unfold NB
   rw[show decide ((0:UInt64)=18446744073709551615)=false from rfl,Bq,show(decide ((0:Int)<0)||decide ((1000:Int)<0))=false from rfl,Bq]
   show(Ii ⟨1,1,0,2,tag⟩).bind _=_
   rw[hri]
   rfl
  rw[hf,Z]
  simp only[decide_true,Bool.not_true,Bq]
  rw[show A1 [(⟨t,2,tag⟩:BU)] (wI (([(⟨t,2,tag⟩:BU)].length:Int)-1))=some ⟨t,2,tag⟩from rfl,Z,R2.rc,hnx,Z]
  simp only[decide_true,Bool.not_true,Bq]
  rw[he,Z,show Xm (1:UInt64) 2=some 1 from rfl,Z]
  unfold JP
  rw[show decide ((1:UInt32)<(1:UInt64).toUInt32)=false from rfl,Bq,zf (show ¬(198<(u.length:Int)) by omega),Bq,hs3,Z,Z]
  simp only[decide_true,Bool.not_true,Bq]
  rw[hf4,Z]
  simp only[decide_true,Bool.not_true,Bq]
  rw[ha,Z]
 have hch:∃s',HA 2200000 T { rows:=[],had:=[],gens:=[],bad:=false } w c=some (0,s',{ w2 with num:=w2.num+1 },c5):=by
  refine⟨{ rows:=[],had:=[⟨t,2,tag⟩],gens:=[w2.gen],bad:=false },?_⟩
  unfold HA
  rw[hsv,Z]
  show(Ft 2200000 T _ w2 c1 [⟨t,2,tag⟩]).bind _=_
  rw[hpub,Z]
  rfl
 obtain⟨s',hch⟩:=hch
 refine⟨s',{ w2 with num:=w2.num+1 },c5,?_⟩
 unfold Kt PV
 rw[hn,Z]
 simp only[decide_true,Bool.not_true,Bq]
 rw[BE,Z,show decide ((r0 60).rcnt=18446744073709551615)=false from rfl,Bq,hst,Z]
 simp only[decide_true,Bool.not_true,Bq]
 rw[hv,Z,Z,hch,Z]
 rfl
end

section
variable {K:Nat→Prop}{w0:World}{H:List Ab}
end

section
variable {P:Program}{K:Nat→Prop}{w0:World}{l:Tm}{H:List Ab}
theorem uc{fn:Func}{t u s r q:Nat}{v v' v'' v4 v5:Value}(hr:fn.results=#[.tmp t,.tmp u,.tmp s,.tmp r,.tmp q])(hv:look l t=some v)(hv':look l u=some v')(hv'':look l s=some v'')(h4:look l r=some v4)(h5:look l q=some v5):∀a w,LO l a→H5 K w0 H w→(results fn a.tmps).run P w=.ok (.tuple #[v,v',v'',v4,v5]) w:=by
 intro a w ha _
 have h1:=HG ha hv
 have h2:=HG ha hv'
 have h3:=HG ha hv''
 have h4:=HG ha h4
 have h5:=HG ha h5
 simp[results,hr,←h1,←h2,←h3,←h4,←h5]
end

section
variable {K:Nat→Prop}{w0:World}{H:List Ab}
def JX(n:Nat)(T:List UInt32):Option (Option (D0×B3×BD×Au×To×FI×Bt×BM)×Bool):=
 (LB 60).bind fun y1=>
 (y1.1).bind fun d1=>
 (Me n 60).bind fun y2=>
 (y2.1).bind fun d2=>
 cond ((!decide (y1.2=0))||(!decide (y2.2=0)))
 (
  some (none,false))
 (
  (JW n 1).bind fun y3=>
  (Kv n T d1 y3).bind fun y4=>
  (y4.1).bind fun d3=>
  (JW n 1).bind fun y5=>
  (Kt n T d2 y5).bind fun y6=>
  (y6.1).bind fun d4=>
  (UL d3.1 d3.2 y4.2.2).bind fun y7=>
  (y7.1).bind fun d5=>
  ret (((decide (y4.2.1=0))&&(decide (y6.2.1=0)))&&(decide (y7.2=0))) fun x1=>
  some (some (d5,d3.1,d3.2,y4.2.2,({ ops:=[],isOpen:=false,closed:=false }:To),d4.1,d4.2,y6.2.2),x1))
theorem Re{n:Nat}{T:List UInt32}{r:Option (D0×B3×BD×Au×To×FI×Bt×BM)×Bool}(h:JX n T=some r)(hS:Hq K w0 T)(hT:Kl K w0 2 64 T):zC K w0 8 [] [] H (fun u M=>(r.1=none∧u=.tuple #[.pointer none,.pointer none,.pointer none,.pointer none,vB r.2]∧M=[])∨(∃(d:D0×B3×BD×Au×To×FI×Bt×BM) (bn0:Nat) (vn0x0:Value) (bn1:Nat) (vn1x0:Value) (vn1x1:Value) (vn1x2:Value) (vn1x5:Value) (bn2:Nat) (vn2x1:Value) (mn2x5:Nat) (bn3:Nat) (vn3x4:Value) (mn3x5:Nat) (mn3x6:Nat) (bn4:Nat) (vn4x1:Value) (bn5:Nat) (vn5x1:Value) (vn5x2:Value) (vn5x3:Value) (bn6:Nat) (vn6x1:Value) (vn6x5:Value) (bn7:Nat) (vn7x0:Value) (vn7x1:Value) (vn7x2:Value),r.1=some d∧u=.tuple #[vP bn0 0,vP bn1 0,vP bn3 0,vP bn4 0,vB r.2]∧M=[own bn0 (.cells #[vn0x0,vB d.1.isOpen,vP bn1 0,vB d.1.closed] 85),AD 105 5 vn0x0 Cg d.1.ops,sO bn1 vn1x0 vn1x1 vn1x2 bn3 bn2 vn1x5 d.2.1,AD 43 4 vn1x0 Ac d.2.1.rows,AD 148 3 vn1x1 AY d.2.1.pages,EU vn1x2 AC AC d.2.1.gens,AD 55 2 vn1x5 Ad d.2.1.ring,vO bn2 bn3 vn2x1 mn2x5 d.2.2.1,AD 55 2 vn2x1 Ad d.2.2.1.ring,Al mn2x5 AC vB d.2.2.1.taken,dO bn3 vn3x4 mn3x5 mn3x6 d.2.2.2.1,AD 9 1 vn3x4 eS d.2.2.2.1.blocks,Al mn3x5 AC vS d.2.2.2.1.pend,Al mn3x6 AC vB d.2.2.2.1.bad,own bn4 (.cells #[vP bn5 0,vn4x1,vB d.2.2.2.2.1.isOpen,vB d.2.2.2.2.1.closed] 81),AD 105 5 vn4x1 Cg d.2.2.2.2.1.ops,own bn5 (.cells #[vP bn6 0,vn5x1,vn5x2,vn5x3,vB d.2.2.2.2.2.1.bad] 131),AD 43 4 vn5x1 Ac d.2.2.2.2.2.1.rows,AD 148 3 vn5x2 AY d.2.2.2.2.2.1.had,AD 36 1 vn5x3 AQ d.2.2.2.2.2.1.gens,wO bn6 bn7 vn6x1 vn6x5 d.2.2.2.2.2.2.1,AD 55 2 vn6x1 Ad d.2.2.2.2.2.2.1.ring,AD 4 1 vn6x5 eB d.2.2.2.2.2.2.1.taken,eO bn7 vn7x0 vn7x1 vn7x2 d.2.2.2.2.2.2.2,AD 9 1 vn7x0 eS d.2.2.2.2.2.2.2.blk,AD 9 1 vn7x1 eS d.2.2.2.2.2.2.2.pnd,AD 4 1 vn7x2 eB d.2.2.2.2.2.2.2.bads])):=by
 unfold JX at h
 refine Vf.enter Tryz.func8 rfl rfl ?_
 refine Y (O E (O E (O E (O E (O E (U (Y ?_)))))))
 refine AB h fun y1 hy1 h=>?_
 refine AB h fun d1 hd1 h=>?_
 refine Bx (vs:=[_]) (Hin:=[]) (Hr:=_) E E ⟨E,zT⟩ u6 E E (bE hy1) ?_
 rintro _ _ (⟨hn,-,-⟩ | ⟨d_,b1,v1,m1,m2,hn,rfl,rfl⟩)
 rw[hd1]at hn;cases hn
 obtain rfl:d1=d_:=zI (hd1.symm.trans hn)
 refine⟨trivial,?_⟩
 refine J E (Ap E E E (Ap E E E (O E (O E (U (Y ?_))))))
 refine AB h fun y2 hy2 h=>?_
 refine AB h fun d2 hd2 h=>?_
 refine Bx (vs:=[_]) (Hin:=[]) (Hr:=_::_::_::_::_) E E ⟨E,zT⟩ u7 E E (dJ hy2) ?_
 rintro _ _ (⟨hn,-,-⟩ | ⟨d_,b2,v2,v3,v4,hn,rfl,rfl⟩)
 rw[hd2]at hn;cases hn
 obtain rfl:d2=d_:=zI (hd2.symm.trans hn)
 refine⟨trivial,?_⟩
 refine J E (Ap E E E (Ap E E E (O E (O E (U (AE (Y (J E (V E Bg (J E ?_))))))))))
 refine GR (c := !decide (y2.2=0)) 25 3 28 E (fun hb k=>?_) (fun hb k=>?_) ?_
 refine AA E (AA E (An E E E ?_))
 exact k.mono tL
 refine J E (V E Bg (An E E E ?_))
 exact k.mono tL
 refine U ?_
 refine AL h E (fun hc1 h=>?_) fun hc1 h=>?_
 refine Y (O E (O E (O E (O E (O E (U (AM (Ag ?_))))))))
 obtain rfl:=zI h
 exact Ax (uc E E E E E E) (As (M:=[]) (.inl ⟨E,E,E⟩) fun _ hw=>Br.pick (H:=[_,_,_,_,_,_,_,_]) hw [] 8 E)
 refine AH (AI (Y ?_))
 refine AB h fun y3 hy3 h=>?_
 refine AB h fun y4 hy4 h=>?_
 refine AB h fun d3 hd3 h=>?_
 refine J E ?_
 refine Bx (vs:=[_]) (Hin:=[]) (Hr:=_::_::_::_::_::_::_::_::_) E E ⟨E,zT⟩ oe E E (VH hy3) ?_
 rintro v5 _ ⟨_,rfl,rfl⟩
 refine⟨trivial,?_⟩
 refine SL.pick [0,5,6,7,8,1,2,3,4] 9 ?_
 refine Bx (vs:=[_,_]) (Hin:=[_,_,_,_,_]) (Hr:=_::_::_::_::_) E E ⟨E,E,zT⟩ u9 E E (Dm (B:=[_]) (Hin:=[_,_,_,_]) fun K' w1 hk hB=>Yl hy4 (hS.keeps hk) (C1 (e:=55) (v:=v5) zV (hB _ zS))) ?_
 rintro _ _ ⟨_,rfl,(⟨hn,-,-⟩ | ⟨d_,b3,v6,v7,v8,v9,b4,v10,m3,hn,rfl,rfl⟩)⟩
 rw[hd3]at hn;cases hn
 obtain rfl:d3=d_:=zI (hd3.symm.trans hn)
 refine⟨trivial,?_⟩
 refine J E (Ap E E E (Ap E E E (O E (O E (U (Y ?_))))))
 refine AB h fun y5 hy5 h=>?_
 refine AB h fun y6 hy6 h=>?_
 refine AB h fun d4 hd4 h=>?_
 refine J E ?_
 refine Bx (vs:=[_]) (Hin:=[]) (Hr:=_::_::_::_::_::_::_::_::_::_::_::_::_::_::_::_::_::_) E E ⟨E,zT⟩ oe E E (VH hy5) ?_
 rintro v11 _ ⟨_,rfl,rfl⟩
 refine⟨trivial,?_⟩
 refine SL.pick [14,15,16,17,0,1,2,3,4,5,6,7,8,9,10,11,12,13] 18 ?_
 refine Bx (vs:=[_,_]) (Hin:=[_,_,_,_,_]) (Hr:=_::_::_::_::_::_::_::_::_::_::_::_::_::_) E E ⟨E,E,zT⟩ vA E E (Yj hy6 hT) ?_
 rintro _ _ (⟨hn,-,-⟩ | ⟨d_,b5,v12,v13,v14,b6,v15,v16,hn,rfl,rfl⟩)
 rw[hd4]at hn;cases hn
 obtain rfl:d4=d_:=zI (hd4.symm.trans hn)
 refine⟨trivial,?_⟩
 refine J E (Ap E E E (Ap E E E (O E (O E (U (Y ?_))))))
 refine AB h fun y7 hy7 h=>?_
 refine AB h fun d5 hd5 h=>?_
 refine J E (SL.pick [12,13,14,15,16,17,18,19,20,21,22,23,0,1,2,3,4,5,6,7,8,9,10,11] 24 ?_)
 refine Bx (vs:=[_]) (Hin:=[_,_,_,_,_,_,_,_,_,_,_,_]) (Hr:=_::_::_::_::_::_::_::_::_::_::_::_::_) E E ⟨E,zT⟩ vC E E (gE hy7) ?_
 rintro _ _ (⟨hn,-,-⟩ | ⟨d_,b7,v17,hn,rfl,rfl⟩)
 rw[hd5]at hn;cases hn
 obtain rfl:d5=d_:=zI (hd5.symm.trans hn)
 refine⟨trivial,?_⟩
 refine J E (Ap E E E (Ap E E E (O E (O E (U (Y ?_))))))
 obtain⟨x1,ex1,h⟩:=BG h
 refine J E (J E (J E (J E (Cf [_] E xh xc xy ⟨E,zT⟩ E ?_))))
 refine Bw E E zU fun b8=>?_
 refine Ci 105 5 Cg (J E (V E Bv (J E ?_)))
 refine DT (c:=decide (y6.2.1=0)) 54 3 57 E (fun hb k=>?_) (fun hb k=>?_) ?_
 refine J E (V E Bv (An E E E ?_))
 exact k.mono tL
 refine AA E (AA E (An E E E ?_))
 exact k.mono tL
 refine J E ?_
 refine DT (c:=decide (y7.2=0)) 58 3 61 E (fun hb k=>?_) (fun hb k=>?_) ?_
 refine J E (V E Bv (An E E E ?_))
 exact k.mono tL
 refine AA E (AA E (An E E E ?_))
 exact k.mono tL
 refine O E (O E (O E (O E ?_)))
 refine AX (u:=vB x1) E E (congrArg vB ex1) ?_
 refine U (AM ?_)
 obtain rfl:=zI h
 exact Ax (uc E E E E E E) (As (M:=[_,_,_,_,_,_,_,_,_,_,_,_,_,_,_,_,_,_,_,_,_,_,_,_,_,_,_]) (.inr ⟨_,b7,v17,b3,v6,v7,v8,v9,b4,v10,m3,b1,v1,m1,m2,b8,zN,b5,v12,v13,v14,b6,v15,v16,b2,v2,v3,v4,E,E,E⟩) fun _ hw=>Br.pick (H:=[_,_,_,_,_,_,_,_,_,_,_,_,_,_,_,_,_,_,_,_,_,_,_,_,_,_,_,_]) hw [2,3,4,5,6,7,8,9,10,11,12,13,14,15,1,0,16,17,18,19,20,21,22,23,24,25,26] 28 E)
def Ll(n:Nat)(T:List UInt32):Option Bool:=
 (JX n T).bind fun y1=>
 (y1.1).bind fun d1=>
 (EV n T d1.1 d1.2.1 d1.2.2.1 d1.2.2.2.1).bind fun y2=>
 (GS y2.2.1 y2.2.2.1 y2.2.2.2.1 y2.2.2.2.2).bind fun y3=>
 (EP n T y3.2 y2.2.2.1 y2.2.2.2.1 y2.2.2.2.2 (⟨1,2,0,[]⟩:A3)).bind fun y4=>
 (Ga n y4.2.1 y4.2.2.1 y4.2.2.2.1 y4.2.2.2.2 1).bind fun y5=>
 (LQ y4.2.1 y4.2.2.1 y4.2.2.2.1 y4.2.2.2.2).bind fun y6=>
 (EV n T y4.2.1 y4.2.2.1 y4.2.2.2.1 y4.2.2.2.2).bind fun y7=>
 (Ga n y7.2.1 y7.2.2.1 y7.2.2.2.1 y7.2.2.2.2 1).bind fun y8=>
 ret ((((((((y1.2&&(decide (y2.1=140)))&&(decide (y3.1=0)))&&(decide (y4.1=0)))&&(decide (y5.2=100)))&&(decide (y6=1)))&&(decide (y7.1=0)))&&(decide (y8.2=0)))&&(decide (y8.1.id=1)&&(decide (y8.1.x=2)&&(decide (y8.1.y=0)&&(decide (y8.1.txt=[])&&true))))) fun x1=>
 some x1
theorem ZW{n:Nat}{T:List UInt32}{r:Bool}(h:Ll n T=some r)(hS:Hq K w0 T)(hT:Kl K w0 2 64 T):zC K w0 7 [] [] H (fun u M=>u=vB r∧M=[]):=by
 unfold Ll at h
 refine Vf.enter Tryz.func7 rfl rfl ?_
 refine Y (O E (U (Y ?_)))
 refine AB h fun y1 hy1 h=>?_
 refine AB h fun d1 hd1 h=>?_
 refine Bx (vs:=[]) (Hin:=[]) (Hr:=_) E E zT ov E E (Re hy1 hS hT) ?_
 rintro _ _ (⟨hn,-,-⟩ | ⟨d_,b1,v1,b2,v2,v3,v4,v5,b3,v6,m1,b4,v7,m2,m3,b5,v8,b6,v9,v10,v11,b7,v12,v13,b8,v14,v15,v16,hn,rfl,rfl⟩)
 rw[hd1]at hn;cases hn
 obtain rfl:d1=d_:=zI (hd1.symm.trans hn)
 refine⟨trivial,?_⟩
 refine J E (Ap E E E (Ap E E E (Ap E E E (Ap E E E (Ap E E E (O E (O E ?_)))))))
 refine O E (O E (O E (U (Y ?_))))
 refine AB h fun y2 hy2 h=>?_
 refine J E (Bi 14 i7 (Mn hy2 hS) E ?_)
 rintro _ _ ⟨v17,v18,v19,v20,rfl,rfl⟩
 refine O E (U (Y ?_))
 refine AB h fun y3 hy3 h=>?_
 refine J E (Bi 14 uZ (Qf hy3) E ?_)
 rintro _ _ ⟨v21,rfl,rfl⟩
 refine O E (U (Y ?_))
 refine AB h fun y4 hy4 h=>?_
 refine J E (Cf [_,_] E hE gz Iu ⟨E,E,zT⟩ E (Bi 14 oc ((SC hy4 hS :)) E ?_))
 rintro _ _ ⟨v22,v23,v24,v25,rfl,rfl⟩
 refine O E (U (Y ?_))
 refine AB h fun y5 hy5 h=>?_
 refine J E (AN 14 od (SA hy5) E (J E (Ap E E E (Ap E E E ?_))))
 refine A6 E Iu zU fun b9=>?_
 refine BN 0 E E E E FE E E E zT (O E (U (Y ?_)))
 refine AB h fun y6 hy6 h=>?_
 refine J E (SL.pick [1,2,3,4,5,6,7,8,9,10,11,12,13,14,0] 15 (AN 14 u5 (Wc hy6) E (O E (U (Y ?_)))))
 refine AB h fun y7 hy7 h=>?_
 refine J E (Bi 14 i7 (Mn hy7 hS) E ?_)
 rintro _ _ ⟨v26,v27,v28,v29,rfl,rfl⟩
 refine O E (U (Y ?_))
 refine AB h fun y8 hy8 h=>?_
 refine J E (AN 14 od (SA hy8) E (J E (Ap E E E (Ap E E E ?_))))
 refine A6 E Iu zU fun b10=>?_
 refine BN 0 E E E E FE E E E zT (O E (U (Y ?_)))
 obtain⟨x1,ex1,h⟩:=BG h
 refine J E (J E ?_)
 refine DT (c:=decide (y2.1=140)) 44 3 47 E (fun hb k=>?_) (fun hb k=>?_) ?_
 refine J E (V E Bv (An E E E ?_))
 exact k.mono tL
 refine AA E (AA E (An E E E ?_))
 exact k.mono tL
 refine J E ?_
 refine DT (c:=decide (y3.1=0)) 48 3 51 E (fun hb k=>?_) (fun hb k=>?_) ?_
 refine J E (V E Bv (An E E E ?_))
 exact k.mono tL
 refine AA E (AA E (An E E E ?_))
 exact k.mono tL
 refine J E ?_
 refine DT (c:=decide (y4.1=0)) 52 3 55 E (fun hb k=>?_) (fun hb k=>?_) ?_
 refine J E (V E Bv (An E E E ?_))
 exact k.mono tL
 refine AA E (AA E (An E E E ?_))
 exact k.mono tL
 refine J E ?_
 refine DT (c:=decide (y5.2=100)) 56 3 59 E (fun hb k=>?_) (fun hb k=>?_) ?_
 refine J E (V E Bv (An E E E ?_))
 exact k.mono tL
 refine AA E (AA E (An E E E ?_))
 exact k.mono tL
 refine J E ?_
 refine DT (c:=decide (y6=1)) 60 3 63 E (fun hb k=>?_) (fun hb k=>?_) ?_
 refine J E (V E Bv (An E E E ?_))
 exact k.mono tL
 refine AA E (AA E (An E E E ?_))
 exact k.mono tL
 refine J E ?_
 refine DT (c:=decide (y7.1=0)) 64 3 67 E (fun hb k=>?_) (fun hb k=>?_) ?_
 refine J E (V E Bv (An E E E ?_))
 exact k.mono tL
 refine AA E (AA E (An E E E ?_))
 exact k.mono tL
 refine J E ?_
 refine DT (c:=decide (y8.2=0)) 68 3 71 E (fun hb k=>?_) (fun hb k=>?_) ?_
 refine J E (V E Bv (An E E E ?_))
 exact k.mono tL
 refine AA E (AA E (An E E E ?_))
 exact k.mono tL
 refine J E ?_
 refine DT (c:=decide (y8.1.id=1)&&(decide (y8.1.x=2)&&(decide (y8.1.y=0)&&(decide (y8.1.txt=[])&&true)))) 72 4 76 E (fun hb k=>?_) (fun hb k=>?_) ?_
 refine BA [Bh y8.1.id,AC y8.1.x,AC y8.1.y,vS y8.1.txt] E IA E E (A2 0 E) (Cf [_,_] E hE gz Iu ⟨E,E,zT⟩ E ?_)
 refine Ur E pI E E (DW E E (dz (a:=y8.1.id) (b:=1)) (DW E E (KO (a:=y8.1.x) (b:=2)) (DW E E (KO (a:=y8.1.y) (b:=0)) (DW E E (UI (a:=y8.1.txt) (b:=[])) Kc)))) ?_
 refine An E E E ?_
 exact k.mono tL
 refine AA E (AA E (AA E (An E E E ?_)))
 exact k.mono tL
 refine AX (u:=vB x1) E E (congrArg vB ex1) ?_
 refine U (AM ?_)
 obtain rfl:=zI h
 exact AW [] 29 E E E
end

section
theorem jL{T:List UInt32}:∃o v d,Kv 2200000 T (d0 60) (Ei 1)=some (some (o,v),0,d)∧WW T (Ei 1) 1 1 o v d∧o.rows=[]∧o.ring=Ei 1:=by
 have hr1:E7 (Ei 1)=true:=TG 1 zO
 have hn:Jq (Ei 1)=some (1,0):=by
  unfold Jq XI
  rw[if_pos (by rw[E2];omega),Z,hr1]
  rfl
 generalize hD:({ d0 60 with counts:=1,rboots:=1 }:Au)=D
 have hst:RN (d0 60)=some (1,0,D):=by subst hD;rfl
 have K:SZ 60 0 D:=by subst hD;exact⟨List.length_replicate ..,by omega,rfl,rfl,rfl,Nat.le_refl _,by omega⟩
 have V9:Dv 60 0 0 D:=by subst hD;exact⟨List.length_replicate ..,Nat.le_refl _,fun _ h=>(by cases h),rfl⟩
 have hv:Of D (Ei 1) 1 1=some (some v0,0):=by
  unfold Of d8
  rw[if_pos (by rw[E2];omega),Z,Z0 zO zO,FA (by simp[E2]) (by simp[E2]),Z]
  rfl
 have hb:Lu (d0 60) (Ei 1)=some (some (({ rows:=[],pages:=[],gens:=[],ring:=Ei 1,gen:=1,bad:=false }:B3),v0),0,D):=by
  unfold Lu XA
  rw[hn,Z]
  simp only[decide_true,Bool.not_true,Bq]
  rw[hst,Z]
  simp only[decide_true,Bool.not_true,Bq]
  rw[hv,Z,Z,FA (by simp[E2]) (by simp[E2]),Z]
  rfl
 have S:WW T (Ei 1) 1 0 { rows:=[],pages:=[],gens:=[],ring:=Ei 1,gen:=1,bad:=false } v0 D:=
  ⟨⟨K,rfl,by rw[E2];omega,rfl,rfl,Nat.le_refl 0⟩,⟨List.nodup_nil,fun e he=>by simp[v0]at he⟩,V9,rfl,Nat.zero_le _,fun s hs=>(by cases hs),fun e he=>by simp[v0]at he,rfl⟩
 obtain⟨o',v',d',hch,hrw,hrg,hS,-⟩:=YE (T:=T) (l:=[]) (wth:=[]) S zD zD (Z0 (m:=1) zO zO) zD zD (Nat.zero_le _) (by decide +kernel) (fun s hs=>(by cases hs)) (Nat.zero_le _)
 refine⟨o',v',d',?_,hS,hrw,hrg⟩
 have hL:I4 (d0 60)=some false:=rfl
 have hch':FT 2200000 T { rows:=[],pages:=[],gens:=[],ring:=Ei 1,gen:=1,bad:=false } v0 D [] []=some (0,o',v',d'):=hch
 unfold Kv
 rw[hn,Z,hL,show E3 (decide ((((1:UInt32),(0:Int)):UInt32×Int).2=0)) ((some false).bind fun y2=>some y2)=some false from rfl,Z,Bq,hb,Z,Z]
 simp only[decide_true,Ch]
 rw[hch',Z]
 rfl
theorem lU{T:List UInt32}(hT:T.length=64):∃(o:B3) (v:BD) (d:Au) (a:FI) (w:Bt) (c:BM),JX 2200000 T=some (some (⟨[],false,false⟩,o,v,d,⟨[],false,false⟩,a,w,c),true)∧WW T (Ei 1) 1 1 o v d∧o.rows=[]∧o.ring=Ei 1:=by
 obtain⟨o,v,d,h1,h2,h3,h3r⟩:=jL (T:=T)
 obtain⟨a,w,c,h4⟩:=mf hT
 refine⟨o,v,d,a,w,c,?_,h2,h3,h3r⟩
 have e1:LB 60=some (some (d0 60),0):=uD zO zO
 have e2:Me 2200000 60=some (some (r0 60),0):=uC (N:=60) zO zO zO
 have e3:JW 2200000 1=some (Ei 1):=qK 1 zO zO
 unfold JX
 rw[e1,Z,Z,e2,Z,Z]
 simp only[decide_true,Bool.not_true,Bool.or_false,Bq]
 rw[e3,Z,h1,Z,Z,Z,h4,Z,Z]
 rfl
theorem iC{T:List UInt32}{c:UInt64}{o:B3}{v:BD}{d:Au}{l:List A3}{ops:List Iv}(S:WW T (Ei 1) 1 c o v d)(hcn:c.toNat<1000000)(hb:NR 2200000 o.rows ops=some (l,0,0))(hl:Ke l.length≤Rq)(hl3:Ke l.length≤24)(hl2:l.length≤1000)(hr:Er l=true):
  ∃o' v' d',Dl 2200000 T o v d ops=some (0,0,o',v',d')∧o'.rows=l∧o'.ring=o.ring∧WW T (Ei 1) 1 (c+1) o' v' d':=by
 obtain⟨o',v',d',hch,hrw,hrg,hS,-⟩:=YE (T:=T) (l:=l) (wth:=o.pages) S hcn zD (Z0 (m:=1) zO zO) hl hl3 hl2 hr S.rd (by have:=S.few;omega)
 refine⟨o',v',d',?_,hrw,hrg,hS⟩
 unfold Dl HU
 rw[S.bad,Bq,Z]
 show(NR 2200000 o.rows ops).bind _=_
 rw[hb,Z]
 unfold I4 Gl
 rw[BE]
 simp only[decide_true,Bool.not_true,Bq]
 rw[Z,BE,Z,S.dv.rc,zf (show ¬c=18446744073709551615 by rintro rfl;exact absurd hcn zD),Bq]
 show(Gq 2200000 T o v d l).bind _=_
 rw[show Gq 2200000 T o v d l=FT 2200000 T o v d l o.pages from rfl,hch,Z]
theorem Vq{T:List UInt32}{c:UInt64}{f:D0}{o:B3}{v:BD}{d:Au}{l:List A3}(S:WW T (Ei 1) 1 c o v d)(hcn:c.toNat<1000000)(hf:f.isOpen=true)(hc:f.closed=false)(h0:0<f.ops.length)(hb:NR 2200000 o.rows f.ops=some (l,0,0))(hl:Ke l.length≤Rq)(hl3:Ke l.length≤24)(hl2:l.length≤1000)(hr:Er l=true):
  ∃o' v' d',EV 2200000 T f o v d=some (0,{ f with ops:=[],isOpen:=false },o',v',d')∧Dl 2200000 T o v d f.ops=some (0,0,o',v',d')∧o'.rows=l∧o'.ring=o.ring∧WW T (Ei 1) 1 (c+1) o' v' d':=by
 obtain⟨o',v',d',hsc,h⟩:=iC S hcn hb hl hl3 hl2 hr
 refine⟨o',v',d',?_,hsc,h⟩
 unfold EV Dp KQ
 rw[hc,Bq,Z,BE]
 show cond (!decide ((0:Int)=0)) _ _=_
 rw[show(!decide ((0:Int)=0))=false from rfl,Bq,hf,BE,show(!true)=false from rfl,Bq,Z,zt (show 0<(f.ops.length:Int) by omega),Ch]
 show(Dl 2200000 T o v d f.ops).bind _=_
 rw[hsc,Z]
 rfl
theorem nF{T:List UInt32}(hT:T.length=64):Ll 2200000 T=some true:=by
 obtain⟨o,v,d,a,w,c,hm,S,hrw,-⟩:=lU hT
 have hput:EP 2200000 T ⟨[],true,false⟩ o v d ⟨1,2,0,[]⟩=some (0,⟨[⟨1,1,2,0,[]⟩],true,false⟩,o,v,d):=by
  have h1:DC o v d=some []:=by
   unfold DC
   rw[hrw]
   rfl
  have h2:Tw 2200000 ⟨[],true,false⟩ [] ⟨1,1,2,0,[]⟩=some (0,⟨[⟨1,1,2,0,[]⟩],true,false⟩):=zK
  unfold EP F2 Dp
  show((DC o v d).bind _).bind _=_
  rw[h1,Z,h2,Z,Z]
 have hbat:NR 2200000 o.rows [⟨1,1,2,0,[]⟩]=some ([⟨1,2,0,[]⟩],0,0):=by rw[hrw];kernel_rfl
 obtain⟨o',v',d',hcm,-,hrw',-⟩:=Vq (T:=T) (f:=⟨[⟨1,1,2,0,[]⟩],true,false⟩) S zD rfl rfl zD hbat zD zD zD (by decide +kernel)
 have hg1:∃x,Ga 2200000 ⟨[⟨1,1,2,0,[]⟩],true,false⟩ o v d 1=some (x,100):=by
  have h1:∃x,KS 2200000 [] 1=some (x,100):=⟨⟨0,0,0,[]⟩,by kernel_rfl⟩
  obtain⟨x,h1⟩:=h1
  refine⟨x,?_⟩
  unfold Ga Dp Ij
  show((KS 2200000 o.rows 1).bind _).bind _=_
  rw[hrw,h1]
  rfl
 have hg2:Ga 2200000 ⟨[],false,false⟩ o' v' d' 1=some (⟨1,2,0,[]⟩,0):=by
  have h1:KS 2200000 [⟨1,2,0,[]⟩] 1=some (⟨1,2,0,[]⟩,0):=zK
  unfold Ga Dp Ij
  show((KS 2200000 o'.rows 1).bind _).bind _=_
  rw[hrw',h1]
  rfl
 obtain⟨x,hg1⟩:=hg1
 unfold Ll
 rw[hm,Z,Z]
 have hc0:EV 2200000 T ⟨[],false,false⟩ o v d=some (140,⟨[],false,false⟩,o,v,d):=rfl
 have hbg:GS ⟨[],false,false⟩ o v d=some (0,⟨[],true,false⟩):=rfl
 have hop:LQ ⟨[⟨1,1,2,0,[]⟩],true,false⟩ o v d=some 1:=rfl
 rw[hc0,Z,hbg,Z,hput,Z,hg1,Z,hop,Z,hcm,Z,hg2,Z]
 rfl
end

section
theorem gM(a b:UInt64):G8 a b=some (if a<b then -1 else if b<a then 1 else 0):=by
 unfold G8 Hu
 rw[BE,BE,zt rfl,zt rfl,Z,Z]
 simp only[Bool.not_true,Bq]
 by_cases h1:a<b
 simp[h1]
 by_cases h2:b<a
 simp[h1,h2]
 simp[h1,h2]
theorem uB{k:Nat}(h:k≤2000):((shr64 (DJ (k:Int)) 1).toNat:Int)=((k / 2:Nat):Int):=by
 rw[MB _ _ zD]
 unfold DJ
 rw[show((k:Int)%18446744073709551616).toNat=k by omega,show(UInt64.ofNat k).toNat=k by simp;omega]
theorem nG(l:List A3)(id:UInt64)(hl:l.length≤1000)(hr:l.Pairwise fun a b=>a.id<b.id):∃(i:Nat) (b:Bool),Jr 2200000 l id=some ((i:Int),b)∧i≤l.length∧
  (∀k (h:k<l.length),k<i→l[k].id<id)∧(∀k (h:k<l.length),i≤k→id≤l[k].id)∧(b=true→∃h:i<l.length,l[i].id=id)∧(b=false→∀h:i<l.length,l[i].id≠id):=by
 have lt:∀a b (ha:a<l.length) (hb:b<l.length),a<b→l[a].id<l[b].id:=fun a b ha hb hab=>List.pairwise_iff_getElem.1 hr a b ha hb hab
 have one:∀r:A3,IH r id=some (if r.id<id then -1 else if id<r.id then 1 else 0):=fun r=>by
  unfold IH
  rw[gM]
  rfl
 have fin:∀i:Nat,i≤l.length→∃b,C4 l id (i:Int)=some ((i:Int),b)∧((b=true→∃h:i<l.length,l[i].id=id)∧(b=false→∀h:i<l.length,l[i].id≠id)):=by
  intro i hi
  unfold C4
  by_cases h:i<l.length
  have h1:A1 l (i:Int)=some l[i]:=by rw[Fv];exact List.getElem?_eq_getElem h
  rw[zt zO,h1,Z,one,Z]
  refine⟨_,rfl,fun hb=>⟨h,?_⟩,fun hb _=>?_⟩
  by_cases h2:l[i].id<id
  simp[h2]at hb
  by_cases h3:id<l[i].id
  simp[h2,h3]at hb
  exact UInt64.le_antisymm (UInt64.not_lt.1 h3) (UInt64.not_lt.1 h2)
  intro e
  simp[e]at hb
  rw[zf zO]
  exact⟨false,rfl,fun h=>(by cases h),fun _ h2=>absurd h2 h⟩
 have key:∀(m i j:Nat),i≤j→j≤l.length→j-i<m→(∀k (h:k<l.length),k<i→l[k].id<id)→(∀k (h:k<l.length),j≤k→id≤l[k].id)→
   ∃(i':Nat) (b:Bool),C5 l id m ((i:Int),(j:Int))=some ((i':Int),b)∧i'≤l.length∧(∀k (h:k<l.length),k<i'→l[k].id<id)∧(∀k (h:k<l.length),i'≤k→id≤l[k].id)∧(b=true→∃h:i'<l.length,l[i'].id=id)∧(b=false→∀h:i'<l.length,l[i'].id≠id):=by
  intro m
  induction m with
  | zero=>intro i j _ _ h;omega
  | succ m ih=>
   intro i j hij hj hm hlo hhi
   show ∃(i':Nat) (b:Bool),Cu l id (C5 l id m) (i:Int) (j:Int)=some ((i':Int),b)∧_
   unfold Cu
   by_cases h:i<j
   have hh:wI ((shr64 (DJ (wI ((i:Int)+(j:Int)))) 1).toNat:Int)=(((i+j) / 2:Nat):Int):=by
    rw[BV (x:=(i:Int)+(j:Int)) zO zO,show(i:Int)+(j:Int)=((i+j:Nat):Int) by omega,uB zO,BV zO zO]
   have hlt:(i+j) / 2<l.length:=zO
   have h1:A1 l (((i+j) / 2:Nat):Int)=some l[(i+j) / 2]:=by rw[Fv];exact List.getElem?_eq_getElem hlt
   rw[zt zO,Ch,BE,hh,h1,Z,one,Z]
   by_cases hc:l[(i+j) / 2].id<id
   rw[if_pos hc,zt zO,Ch,BE,BV zO zO]
   refine ih ((i+j) / 2+1) j zO hj zO (fun k hk hki=>?_) hhi
   by_cases e:k=(i+j) / 2
   subst e;exact hc
   exact UInt64.lt_trans (lt k _ hk hlt zO) hc
   have hd:decide ((if l[(i+j) / 2].id<id then(-1:Int)else if id<l[(i+j) / 2].id then 1 else 0)<0)=false:=by
    rw[if_neg hc]
    split<;>rfl
   rw[hd,Bq]
   refine ih i ((i+j) / 2) zO zO zO hlo (fun k hk hki=>?_)
   by_cases e:k=(i+j) / 2
   subst e;exact UInt64.not_lt.1 hc
   exact UInt64.le_trans (UInt64.not_lt.1 hc) (UInt64.le_of_lt (lt _ k hlt hk zO))
   rw[zf zO,Bq]
   obtain⟨b,hb,hb2⟩:=fin i zO
   obtain rfl:i=j:=zO
   exact⟨i,b,hb,by omega,hlo,hhi,hb2⟩
 obtain⟨k,b,hk,h1,h2⟩:=key 2200000 0 l.length (Nat.zero_le _) (Nat.le_refl _) zO (fun k _ h=>absurd h (Nat.not_lt_zero _)) (fun k h h2=>absurd h zO)
 refine⟨k,b,?_,h1,h2⟩
 unfold Jr Dt
 rw[show(0:Int)=((0:Nat):Int)from rfl,hk]
 rfl
theorem O5{α:Type}{b:Nat}{s t:List α}(hb:b≤100)(h:s.length+t.length≤5000):Eh b s t=some (s++t):=by
 have h1:(s.length+t.length)*b≤5000*100:=Nat.mul_le_mul h hb
 exact if_pos ⟨by omega,by omega⟩
theorem mU(o:Iv):∃e,Lm o=some e∧(e=0→o.kind=3∨(decide (max o.x o.y<2147483648)=true∧(o.kind=2∨(o.txt.length:Int)≤16))):=by
 unfold Lm JH HF
 simp only[BE,Z]
 by_cases h3:o.kind=3
 rw[zt h3]
 exact⟨0,rfl,fun _=>.inl h3⟩
 rw[zf h3,Bq]
 by_cases h2:o.kind=2
 rw[zt h2,Ch]
 cases hm:decide (max o.x o.y<2147483648)with
 | true=>exact⟨0,rfl,fun _=>.inr ⟨rfl,.inl h2⟩⟩
 | false=>exact⟨80,rfl,fun h=>by cases h⟩
 rw[zf h2,Bq]
 by_cases h1:o.kind=1
 rw[zt h1,Ch]
 cases hm:decide (max o.x o.y<2147483648)with
 | true=>
  by_cases ht:(o.txt.length:Int)≤16
  rw[zt ht]
  exact⟨0,rfl,fun _=>.inr ⟨rfl,.inr ht⟩⟩
  rw[zf ht]
  exact⟨80,rfl,fun h=>by cases h⟩
 | false=>exact⟨80,rfl,fun h=>by cases h⟩
 rw[zf h1,Bq]
 exact⟨2,rfl,fun h=>by cases h⟩
theorem mO(l:List A3)(o:Iv)(hr:Er l=true):∃m e,EW 2200000 l o=some (m,e)∧(e=0→Er m=true∧m.length≤l.length+1):=by
 have hr':=hr
 unfold Er at hr'
 rw[Bool.and_eq_true,Bool.and_eq_true,decide_eq_true_eq,Pi,List.all_eq_true]at hr'
 obtain⟨⟨hall,hpw⟩,hlen⟩:=hr'
 have hl:l.length≤1000:=zO
 unfold EW
 rw[NN l zO zO,hr,Z,Bool.not_true,Bq]
 obtain⟨e,he,hok⟩:=mU o
 rw[he,Z]
 by_cases h0:e=0
 rw[zt h0,Bool.not_true,Bq]
 replace hok:=hok h0
 obtain⟨i,b,hp,hi,hlo,hhi,hb1,hb2⟩:=nG l o.id hl hpw
 rw[hp,Z,BE]
 have fin:∀(a:Nat) (t:List UInt8),a≤l.length→i≤a→a≤i+1→(∀k (h:k<l.length),a≤k→o.id<l[k].id)→(o.kind≠3→(t.length:Int)≤16∧i+1+(l.length-a)≤1000)→∃m e,Gm l o ((i:Int),b) (a:Int) t=some (m,e)∧(e=0→Er m=true∧m.length≤l.length+1):=by
  intro a t ha hia hai hgt ht
  have h1:KK l 0 (i:Int)=some (l.take i):=by
   unfold KK
   rw[if_pos zO]
   simp
  have h2:KK l (a:Int) (l.length:Int)=some (l.drop a):=by
   unfold KK
   rw[if_pos zO]
   congr 1
   exact List.take_of_length_le zS
  have l1:(l.take i).length=i:=by rw[List.length_take];omega
  have l2:(l.drop a).length=l.length-a:=List.length_drop ..
  have mlo:∀x∈l.take i,x.id<o.id∧LL x=true:=fun x hx=>by
   obtain⟨k,hk,rfl⟩:=List.mem_iff_getElem.1 hx
   rw[List.getElem_take]
   exact⟨hlo k zO zO,hall _ (List.getElem_mem _)⟩
  have mhi:∀x∈l.drop a,o.id<x.id∧LL x=true:=fun x hx=>by
   obtain⟨k,hk,rfl⟩:=List.mem_iff_getElem.1 hx
   rw[List.getElem_drop]
   exact⟨hgt (a+k) zO zO,hall _ (List.getElem_mem _)⟩
  unfold Gm JG PS
  rw[h1,Z,O5 zO (by simp only[List.length_nil,l1];omega),Z,h2,List.nil_append]
  by_cases h3:o.kind=3
  rw[zt h3,Bool.not_true,Bq,Z,O5 zO (by simp only[l1,l2];omega),Z]
  refine⟨_,_,rfl,fun _=>⟨?_,by simp only[List.length_append,l1,l2];omega⟩⟩
  unfold Er
  rw[Bool.and_eq_true,Bool.and_eq_true,decide_eq_true_eq,Pi,List.all_eq_true]
  refine⟨⟨fun x hx=>?_,?_⟩,by simp only[List.length_append,l1,l2];omega⟩
  rcases List.mem_append.1 hx with hx | hx
  exact(mlo x hx).2
  exact(mhi x hx).2
  exact List.pairwise_append.2 ⟨hpw.sublist (List.take_sublist ..),hpw.sublist (List.drop_sublist ..),fun x hx y hy=>UInt64.lt_trans (mlo x hx).1 (mhi y hy).1⟩
  rw[zf h3,Bool.not_false,Ch,O5 zO (by simp only[List.length_cons,List.length_nil,l1];omega),Z,Z,O5 zO (by simp only[List.length_append,List.length_cons,List.length_nil,l1,l2];omega),Z]
  obtain⟨ht1,ht2⟩:=ht h3
  have hrow:LL ⟨o.id,o.x,o.y,t⟩=true:=by
   unfold LL
   rw[Bool.and_eq_true,decide_eq_true_eq,decide_eq_true_eq]
   refine⟨?_,ht1⟩
   rcases hok with h | ⟨h,-⟩
   exact absurd h h3
   exact of_decide_eq_true h
  refine⟨_,_,rfl,fun _=>⟨?_,by simp only[List.length_append,List.length_cons,List.length_nil,l1,l2];omega⟩⟩
  unfold Er
  rw[Bool.and_eq_true,Bool.and_eq_true,decide_eq_true_eq,Pi,List.all_eq_true]
  refine⟨⟨fun x hx=>?_,?_⟩,by simp only[List.length_append,List.length_cons,List.length_nil,l1,l2];omega⟩
  rcases List.mem_append.1 hx with hx | hx
  rcases List.mem_append.1 hx with hx | hx
  exact(mlo x hx).2
  rw[List.mem_singleton.1 hx];exact hrow
  exact(mhi x hx).2
  refine List.pairwise_append.2 ⟨List.pairwise_append.2 ⟨hpw.sublist (List.take_sublist ..),List.pairwise_singleton _ _,fun x hx y hy=>?_⟩,hpw.sublist (List.drop_sublist ..),fun x hx y hy=>?_⟩
  rw[List.mem_singleton.1 hy];exact(mlo x hx).1
  rcases List.mem_append.1 hx with hx | hx
  exact UInt64.lt_trans (mlo x hx).1 (mhi y hy).1
  rw[List.mem_singleton.1 hx];exact(mhi y hy).1
 cases hk1:((!((i:Int),b).2) && !decide (o.kind=1))with
 | true=>exact⟨_,_,rfl,fun h=>by cases h⟩
 | false=>
  rw[Bq,BE]
  cases hk2:((!((i:Int),b).2)&&decide ((l.length:Int)=1000))with
  | true=>exact⟨_,_,rfl,fun h=>by cases h⟩
  | false=>
   rw[Bq]
   have lt:∀a b (ha:a<l.length) (hb:b<l.length),a<b→l[a].id<l[b].id:=fun a b ha hb hab=>List.pairwise_iff_getElem.1 hpw a b ha hb hab
   cases b with
   | false=>
    have hk:o.kind=1:=by simpa using hk1
    have hn:l.length≠1000:=by
     intro e
     simp[e]at hk2
    refine fin i o.txt hi (Nat.le_refl _) (Nat.le_succ _) (fun k hk' hik=>?_) (fun _=>⟨?_,by omega⟩)
    refine UInt64.lt_of_le_of_ne (hhi k hk' hik) fun e=>?_
    by_cases e2:k=i
    subst e2
    exact hb2 rfl hk' e.symm
    have h1:i<l.length:=zO
    have h2:=lt i k h1 hk' zO
    rw[←e]at h2
    exact absurd (UInt64.lt_of_lt_of_le h2 (hhi i h1 (Nat.le_refl _))) (UInt64.lt_irrefl _)
    rcases hok with h | ⟨-,h | h⟩
    omega
    omega
    exact h
   | true=>
    obtain⟨hlt,hid⟩:=hb1 rfl
    have h1:A1 l (i:Int)=some l[i]:=by rw[Fv];exact List.getElem?_eq_getElem hlt
    show ∃m e,ret (wI ((i:Int)+1)) (fun x3=>(A1 l (i:Int)).bind _)=some (m,e)∧_
    rw[BE,h1,Z,BV zO zO,show(i:Int)+1=((i+1:Nat):Int) by omega]
    have hgt:∀k (h:k<l.length),i+1≤k→o.id<l[k].id:=fun k hk hik=>by
     rw[←hid]
     exact lt i k hlt hk zO
    have htx:(l[i].txt.length:Int)≤16:=by
     have:=hall l[i] (List.getElem_mem _)
     unfold LL at this
     rw[Bool.and_eq_true,decide_eq_true_eq,decide_eq_true_eq]at this
     exact this.2
    cases hq:(decide (o.kind=2) && !(decide (l[i].id=o.id)&&(decide (l[i].x=o.x)&&(decide (l[i].y=o.y)&&(decide (l[i].txt=o.txt)&&true)))))with
    | true=>exact fin (i+1) _ hlt (Nat.le_succ _) (Nat.le_refl _) hgt fun _=>⟨htx,by omega⟩
    | false=>
     refine fin (i+1) _ hlt (Nat.le_succ _) (Nat.le_refl _) hgt fun h3=>⟨?_,by omega⟩
     rcases hok with h | ⟨-,h | h⟩
     exact absurd h h3
     have:l[i].txt=o.txt:=by
      simp[h]at hq
      exact hq.2.2.2
     rw[←this]
     exact htx
     exact h
 rw[zf h0,Bool.not_false,Ch]
 exact⟨_,_,rfl,fun h=>absurd h h0⟩
end

section
variable {P:Program}{ro:Option Nat}{K:Nat→Prop}{w0:World}{N:Nat}{Q:Eg}{D:List Nat}{l l':Tm}{H H' Hs L:List Ab}{ops:Array Oper}{items:I5}
end

section
variable {K:Nat→Prop}{w0:World}{H:List Ab}
structure yC where
 rows:Int
 pages:Int
 free:Int
 count:UInt64
 gen:UInt32
 old:Int
end

section
variable {K:Nat→Prop}{w0:World}{H:List Ab}
end

section
theorem iB{n:Nat}(l:List A3)(hn:l.length<n)(hb:l.length≤1000000):M9 n l l=some true:=by
 unfold M9
 rw[show(!decide ((l.length:Int)=(l.length:Int)))=false by simp,Bq]
 unfold Mf
 refine GH (fun i=>(i:Int)) l.length (fun i hi k=>?_) (fun k=>?_) hn
 unfold Ig
 have h1:A1 l (i:Int)=some l[i]:=by rw[Fv];exact List.getElem?_eq_getElem hi
 rw[zt zO,Ch,h1,Z,Z,BE,BV zO zO]
 simp
 unfold Ig
 rw[zf zO,Bq]
 rfl
theorem rQ{n:Nat}{l m:List A3}{o:Iv}{e:Int}(hr:Er l=true)(hl:l.length≤1000)(hn:1000<n)(h:EW n l o=some (m,e)):NR n l [o]=some (if e=0 then(m,0,0)else([],0,e)):=by
 unfold NR
 rw[NN l zO zO,hr,Z,Bool.not_true,Bq,show(decide ((([o]:List Iv).length:Int)=0)||decide (64<(([o]:List Iv).length:Int)))=false from rfl,Bq]
 unfold OE
 rw[h,Z]
 by_cases h0:e=0
 rw[zt h0,if_pos h0]
 rfl
 rw[zf h0,if_neg h0]
 rfl
theorem io{T:List UInt32}{c:UInt64}{o:B3}{v:BD}{d:Au}(S:WW T (Ei 1) 1 c o v d)(hc:c.toNat<1000)(hr:Er o.rows=true)(hl:o.rows.length≤11)(hlim:Ke (o.rows.length+1)≤Rq)(x:A3):
  ∃(e:Int) (ops:List Iv) (o':B3) (v':BD) (d':Au) (c':UInt64),EP 2200000 T ⟨[],false,false⟩ o v d x=some (e,⟨[],false,false⟩,o',v',d')∧
   EP 2200000 T ⟨[],true,false⟩ o v d x=some (e,⟨ops,true,false⟩,o,v,d)∧EV 2200000 T ⟨ops,true,false⟩ o v d=some (0,⟨[],false,false⟩,o',v',d')∧
   WW T (Ei 1) 1 c' o' v' d'∧c'.toNat=c.toNat+(if e=0 then 1 else 0)∧Er o'.rows=true∧o'.rows.length≤o.rows.length+1∧o'.ring=o.ring∧(∃m,EW 2200000 o.rows ⟨1,x.id,x.x,x.y,x.txt⟩=some (m,e)∧(e=0→o'.rows=m))∧(e≠0→o'.rows=o.rows):=by
 obtain⟨m,e,ha,hm⟩:=mO o.rows ⟨1,x.id,x.x,x.y,x.txt⟩ hr
 have hb:=rQ hr zO zO ha
 have hrows:DC o v d=some o.rows:=by
  unfold DC PS
  rw[O5 zO (by simp only[List.length_nil];omega),Z]
  rfl
 have hadds:Tw 2200000 ⟨[],true,false⟩ o.rows ⟨1,x.id,x.x,x.y,x.txt⟩=some (e,⟨if e=0 then[⟨1,x.id,x.x,x.y,x.txt⟩]else[],true,false⟩):=by
  unfold Tw GZ
  rw[show decide (((⟨[],true,false⟩:D0).ops.length:Int)=64)=false from rfl,Bq,show decide ((⟨[],true,false⟩:D0).ops.length≤1000000)=true from rfl,Ch,Z]
  show cond (!decide ((0:Int)=0)) _ _=_
  rw[show(!decide ((0:Int)=0))=false from rfl,Bq,ha,Z]
  by_cases h0:e=0
  rw[zt h0,Ch,if_pos h0]
  rfl
  rw[zf h0,Bq,if_neg h0]
 have hput:EP 2200000 T ⟨[],true,false⟩ o v d x=some (e,⟨if e=0 then[⟨1,x.id,x.x,x.y,x.txt⟩]else[],true,false⟩,o,v,d):=by
  unfold EP F2 Dp
  show((DC o v d).bind _).bind _=_
  rw[hrows,Z,hadds,Z,Z]
 have hput0:∀ {y:Int×Int×B3×BD×Au},Dl 2200000 T o v d [⟨1,x.id,x.x,x.y,x.txt⟩]=some y→EP 2200000 T ⟨[],false,false⟩ o v d x=some (y.2.1,⟨[],false,false⟩,y.2.2.1,y.2.2.2.1,y.2.2.2.2):=by
  intro y hy
  unfold EP F2 Dp
  show((Dl 2200000 T o v d [⟨1,x.id,x.x,x.y,x.txt⟩]).bind _).bind _=_
  rw[hy,Z,Z]
 by_cases h0:e=0
 obtain⟨hmr,hml⟩:=hm h0
 rw[if_pos h0]at hb hput
 have hmp:Ke m.length≤Ke (o.rows.length+1):=by unfold Ke;split<;>split<;>omega
 have hm24:Ke (o.rows.length+1)≤24:=by unfold Ke;split<;>omega
 obtain⟨o',v',d',hcm,hsc,hrw,hrg,hS⟩:=Vq (T:=T) (f:=⟨[⟨1,x.id,x.x,x.y,x.txt⟩],true,false⟩) S zO rfl rfl (Nat.zero_lt_one) hb (Nat.le_trans hmp hlim) (Nat.le_trans hmp hm24) zO hmr
 subst h0
 refine⟨0,_,o',v',d',c+1,hput0 hsc,hput,hcm,hS,?_,by rw[hrw];exact hmr,by rw[hrw];exact hml,hrg,⟨m,ha,fun _=>hrw⟩,fun h=>absurd rfl h⟩
 rw[UInt64.toNat_add,if_pos rfl]
 show(c.toNat+1)%_=_
 omega
 rw[if_neg h0]at hb hput
 have hsc:Dl 2200000 T o v d [⟨1,x.id,x.x,x.y,x.txt⟩]=some (0,e,o,v,d):=by
  unfold Dl HU
  rw[S.bad,Bq,Z]
  show(NR 2200000 o.rows _).bind _=_
  rw[hb,Z,BE]
  show cond (!decide (e=0)) _ _=_
  rw[zf h0]
  rfl
 exact⟨e,_,o,v,d,c,hput0 hsc,hput,rfl,S,by rw[if_neg h0];rfl,hr,Nat.le_succ _,rfl,⟨m,ha,fun h=>absurd h h0⟩,fun _=>rfl⟩
end

section
variable {K:Nat→Prop}{w0:World}{H:List Ab}
def Pp(o1:D0)(o2:B3)(o3:Au)(o4:BD)(a1:Int):Option (Int×D0×B3×BD×Au):=
 some (a1,o1,o2,o4,o3)
def I1(a3:Int)(nx_f_law18_put_l1:D0×B3×Au×BD×Int×Int→Option (Int×D0×B3×BD×Au))(o9:D0)(o10:B3)(o11:Au)(o12:BD)(a4:Int):Option (Int×D0×B3×BD×Au):=
 ret (wI (a3+1)) fun i_1=>
 nx_f_law18_put_l1 (o9,o10,o11,o12,a4,i_1)
def Ey(n:Nat)(T:List UInt32)(p1:List A3)(nx_f_law18_put_l1:D0×B3×Au×BD×Int×Int→Option (Int×D0×B3×BD×Au))(o5:D0)(o6:B3)(o7:Au)(o8:BD)(a2:Int)(a3:Int):Option (Int×D0×B3×BD×Au):=
 cond ((decide (a3<(p1.length:Int)))&&(decide (a3<12)))
 (
  (A1 p1 a3).bind fun x1=>
  (EP n T o5 o6 o8 o7 x1).bind fun y1=>
  cond (decide (y1.1=0))
  (
   ret (wI (a2+1)) fun x2=>
   I1 a3 nx_f_law18_put_l1 y1.2.1 y1.2.2.1 y1.2.2.2.2 y1.2.2.2.1 x2)
  (
   I1 a3 nx_f_law18_put_l1 y1.2.1 y1.2.2.1 y1.2.2.2.2 y1.2.2.2.1 a2))
 (
  Pp o5 o6 o7 o8 a2)
def Ef(n:Nat)(T:List UInt32)(p1:List A3):Nat→(D0×B3×Au×BD×Int×Int)→Option (Int×D0×B3×BD×Au):=CH fun nx x=>Ey n T p1 nx x.1 x.2.1 x.2.2.1 x.2.2.2.1 x.2.2.2.2.1 x.2.2.2.2.2
def JF(n:Nat)(T:List UInt32)(p0:D0)(p0_1:B3)(p0_2:BD)(p0_3:Au)(p1:List A3):Option (Int×D0×B3×BD×Au):=
 Ef n T p1 n (p0,p0_1,p0_3,p0_2,0,0)
theorem We{n A7 Do CS Bm BI BQ BR:Nat}{T:List UInt32}{BF DF DG DH CV Bn BS FU:Value}{p0:D0}{p0_1:B3}{p0_2:BD}{p0_3:Au}{p1:List A3}{r:Int×D0×B3×BD×Au}(h:JF n T p0 p0_1 p0_2 p0_3 p1=some r)(hS:Hq K w0 T)(hs1_:CR K w0 Ac 4 FU p1):zC K w0 10 [vP A7 0,FU] [own A7 (.cells #[BF,vB p0.isOpen,vP Do 0,vB p0.closed] 85),AD 105 5 BF Cg p0.ops,sO Do DF DG DH BI CS CV p0_1,AD 43 4 DF Ac p0_1.rows,AD 148 3 DG AY p0_1.pages,EU DH AC AC p0_1.gens,AD 55 2 CV Ad p0_1.ring,vO CS BI Bn Bm p0_2,AD 55 2 Bn Ad p0_2.ring,Al Bm AC vB p0_2.taken,dO BI BS BQ BR p0_3,AD 9 1 BS eS p0_3.blocks,Al BQ AC vS p0_3.pend,Al BR AC vB p0_3.bad] H (fun u M=>∃vs0_0_0 vs0_1_0 vs0_1_1 vs0_1_2:Value,u=vI r.1∧M=[own A7 (.cells #[vs0_0_0,vB r.2.1.isOpen,vP Do 0,vB r.2.1.closed] 85),AD 105 5 vs0_0_0 Cg r.2.1.ops,sO Do vs0_1_0 vs0_1_1 vs0_1_2 BI CS CV r.2.2.1,AD 43 4 vs0_1_0 Ac r.2.2.1.rows,AD 148 3 vs0_1_1 AY r.2.2.1.pages,EU vs0_1_2 AC AC r.2.2.1.gens,AD 55 2 CV Ad r.2.2.1.ring,vO CS BI Bn Bm r.2.2.2.1,AD 55 2 Bn Ad r.2.2.2.1.ring,Al Bm AC vB r.2.2.2.1.taken,dO BI BS BQ BR r.2.2.2.2,AD 9 1 BS eS r.2.2.2.2.blocks,Al BQ AC vS r.2.2.2.2.pend,Al BR AC vB r.2.2.2.2.bad]):=by
 unfold JF at h
 refine Vf.enter Tryz.func10 rfl rfl ?_
 refine Y (O E (U (Y (O E (U ?_)))))
 refine Az (α:=D0×Value×B3×Value×Value×Value×Au×BD×Int) (fun x=>Pp x.1 x.2.2.1 x.2.2.2.2.2.2.1 x.2.2.2.2.2.2.2.1 x.2.2.2.2.2.2.2.2=some r) (fun x=>[(0,vP A7 0),(5,vI x.2.2.2.2.2.2.2.2)]) (fun x=>own A7 (.cells #[x.2.1,vB x.1.isOpen,vP Do 0,vB x.1.closed] 85)::AD 105 5 x.2.1 Cg x.1.ops::sO Do x.2.2.2.1 x.2.2.2.2.1 x.2.2.2.2.2.1 BI CS CV x.2.2.1::AD 43 4 x.2.2.2.1 Ac x.2.2.1.rows::AD 148 3 x.2.2.2.2.1 AY x.2.2.1.pages::EU x.2.2.2.2.2.1 AC AC x.2.2.1.gens::dO BI BS BQ BR x.2.2.2.2.2.2.1::AD 9 1 BS eS x.2.2.2.2.2.2.1.blocks::Al BQ AC vS x.2.2.2.2.2.2.1.pend::Al BR AC vB x.2.2.2.2.2.2.1.bad::vO CS BI Bn Bm x.2.2.2.2.2.2.2.1::AD 55 2 Bn Ad x.2.2.2.2.2.2.2.1.ring::Al Bm AC vB x.2.2.2.2.2.2.2.1.taken::AD 55 2 CV Ad x.2.2.1.ring::H) ?_ (fun x D h=>?_)
 refine Y (O E (U (AK ?_)))
 refine SX.heap (SX.mono (A9 (α:=Nat×D0×Value×B3×Value×Value×Value×Au×BD×Int×Int) (fun x=>Ef n T p1 x.1 (x.2.1,x.2.2.2.1,x.2.2.2.2.2.2.2.1,x.2.2.2.2.2.2.2.2.1,x.2.2.2.2.2.2.2.2.2.1,x.2.2.2.2.2.2.2.2.2.2)=some r) (fun x=>[(0,vP A7 0),(1,FU),(5,vI x.2.2.2.2.2.2.2.2.2.1),(6,vI x.2.2.2.2.2.2.2.2.2.2)]) (fun x=>own A7 (.cells #[x.2.2.1,vB x.2.1.isOpen,vP Do 0,vB x.2.1.closed] 85)::AD 105 5 x.2.2.1 Cg x.2.1.ops::sO Do x.2.2.2.2.1 x.2.2.2.2.2.1 x.2.2.2.2.2.2.1 BI CS CV x.2.2.2.1::AD 43 4 x.2.2.2.2.1 Ac x.2.2.2.1.rows::AD 148 3 x.2.2.2.2.2.1 AY x.2.2.2.1.pages::EU x.2.2.2.2.2.2.1 AC AC x.2.2.2.1.gens::dO BI BS BQ BR x.2.2.2.2.2.2.2.1::AD 9 1 BS eS x.2.2.2.2.2.2.2.1.blocks::Al BQ AC vS x.2.2.2.2.2.2.2.1.pend::Al BR AC vB x.2.2.2.2.2.2.2.1.bad::vO CS BI Bn Bm x.2.2.2.2.2.2.2.2.1::AD 55 2 Bn Ad x.2.2.2.2.2.2.2.2.1.ring::Al Bm AC vB x.2.2.2.2.2.2.2.2.1.taken::AD 55 2 CV Ad x.2.2.2.1.ring::H) (fun x=>x.1) (fun x D h=>?_) (n,p0,BF,p0_1,DF,DG,DH,p0_3,p0_2,0,0) h) tL) (A5 [0,1,2,3,4,5,10,11,12,13,7,8,9,6] 14 E E E)
 obtain⟨m1,o5,v5,o6,v6,v7,v8,o7,o8,a2,a3⟩:=x
 dsimp only at h
 rcases m1 with _ | m1
 cases (show(none:Option _)=some r from h)
 replace h:Ey n T p1 (Ef n T p1 m1) o5 o6 o7 o8 a2 a3=some r:=h
 unfold Ey at h
 refine ZL [(0,vP A7 0),(1,FU),(5,vI a2),(6,vI a3)] (own A7 (.cells #[v5,vB o5.isOpen,vP Do 0,vB o5.closed] 85)::AD 105 5 v5 Cg o5.ops::sO Do v6 v7 v8 BI CS CV o6::AD 43 4 v6 Ac o6.rows::AD 148 3 v7 AY o6.pages::EU v8 AC AC o6.gens::dO BI BS BQ BR o7::AD 9 1 BS eS o7.blocks::Al BQ AC vS o7.pend::Al BR AC vB o7.bad::vO CS BI Bn Bm o8::AD 55 2 Bn Ad o8.ring::Al Bm AC vB o8.taken::AD 55 2 CV Ad o6.ring::H) ?_ tL
 refine AE (Y (J E (J E (CW hs1_ E D8 E (V E BL (J E ?_))))))
 refine DT (c:=decide (a3<12)) 11 3 14 E (fun hb k=>?_) (fun hb k=>?_) ?_
 refine J E (V E BL (An E E E ?_))
 exact k.mono tL
 refine AA E (AA E (An E E E ?_))
 exact k.mono tL
 refine U ?_
 refine AL h E (fun hc1 h=>?_) fun hc1 h=>?_
 refine AH (AI ?_)
 refine Az (α:=D0×Value×B3×Value×Value×Value×Au×BD×Int) (fun x=>I1 a3 (Ef n T p1 m1) x.1 x.2.2.1 x.2.2.2.2.2.2.1 x.2.2.2.2.2.2.2.1 x.2.2.2.2.2.2.2.2=some r) (fun x=>[(0,vP A7 0),(1,FU),(5,vI x.2.2.2.2.2.2.2.2),(6,vI a3)]) (fun x=>own A7 (.cells #[x.2.1,vB x.1.isOpen,vP Do 0,vB x.1.closed] 85)::AD 105 5 x.2.1 Cg x.1.ops::sO Do x.2.2.2.1 x.2.2.2.2.1 x.2.2.2.2.2.1 BI CS CV x.2.2.1::AD 43 4 x.2.2.2.1 Ac x.2.2.1.rows::AD 148 3 x.2.2.2.2.1 AY x.2.2.1.pages::EU x.2.2.2.2.2.1 AC AC x.2.2.1.gens::dO BI BS BQ BR x.2.2.2.2.2.2.1::AD 9 1 BS eS x.2.2.2.2.2.2.1.blocks::Al BQ AC vS x.2.2.2.2.2.2.1.pend::Al BR AC vB x.2.2.2.2.2.2.1.bad::vO CS BI Bn Bm x.2.2.2.2.2.2.2.1::AD 55 2 Bn Ad x.2.2.2.2.2.2.2.1.ring::Al Bm AC vB x.2.2.2.2.2.2.2.1.taken::AD 55 2 CV Ad x.2.2.1.ring::H) ?_ (fun x D h=>?_)
 refine AK (Y ?_)
 refine AB h fun x1 hx1 h=>?_
 refine AB h fun y1 hy1 h=>?_
 refine J E (J E (J E ?_))
 refine EL hx1 hs1_ E D8 FE E E fun be1 of1 hc2=>?_
 refine BA (Ac x1) E IA E E (Ek hc2) (SL.pick [0,1,2,3,4,5,13,10,11,12,6,7,8,9] 14 (Bi 14 oc ((SC hy1 hS :)) E ?_))
 rintro _ _ ⟨v13,v14,v15,v16,rfl,rfl⟩
 refine V E Bv (U ?_)
 refine AL h E (fun hc3 h=>?_) fun hc3 h=>?_
 refine AJ ?_
 obtain⟨x2,ex2,h⟩:=BG h
 refine J E (V E Aw ?_)
 refine AX (u:=vI x2) E E (congrArg vI ex2) ?_
 refine AT (Ao ?_)
 exact Ak (y1.2.1,v13,y1.2.2.1,v14,v15,v16,y1.2.2.2.2,y1.2.2.2.1,x2) h tL (A5 [0,1,2,3,4,5,10,11,12,13,7,8,9,6] 14 E E E)
 refine AH (Ao ?_)
 exact Ak (y1.2.1,v13,y1.2.2.1,v14,v15,v16,y1.2.2.2.2,y1.2.2.2.1,a2) h tL (A5 [0,1,2,3,4,5,10,11,12,13,7,8,9,6] 14 E E E)
 obtain⟨o9,v9,o10,v10,v11,v12,o11,o12,a4⟩:=x
 dsimp only at h
 unfold I1 at h
 try dsimp only
 refine AJ ?_
 obtain⟨i_1,ei_1,h⟩:=BG h
 refine J E (V E Aw ?_)
 refine AX (u:=vI i_1) E E (congrArg vI ei_1) ?_
 refine AT ?_
 exact Am (m1,o9,v9,o10,v10,v11,v12,o11,o12,a4,i_1) h (Nat.lt_succ_self _) tL (A5 [0,1,2,3,4,5,6,7,8,9,10,11,12,13] 14 E E E)
 refine Av (Ay (BP (A0 ?_)))
 exact Ak (o5,v5,o6,v6,v7,v8,o7,o8,a2) h tL (A5 [0,1,2,3,4,5,6,7,8,9,10,11,12,13] 14 E E E)
 obtain⟨o1,v1,o2,v2,v3,v4,o3,o4,a1⟩:=x
 dsimp only at h
 unfold Pp at h
 try dsimp only
 refine Y (J E (O E (U (AM ?_))))
 obtain rfl:=zI h
 exact CC [0,1,2,3,4,5,13,10,11,12,6,7,8,9] 14 (D7 E E) E E ⟨v1,v2,v3,v4,E,E⟩
end

section
variable {K:Nat→Prop}{w0:World}{H:List Ab}
def GA(n:Nat)(y1:Bool)(y2:Option (D0×B3×BD×Au×To×FI×Bt×BM)×Bool)(y3:Option (D0×B3×BD×Au×To×FI×Bt×BM)×Bool)(y4:Int×D0)(y5:Int×D0×B3×BD×Au)(y6:Int×D0×B3×BD×Au)(y7:Int×D0×B3×BD×Au)(a1:UInt64):Option Bool:=
 (E3 (((((y1&&y2.2)&&y3.2)&&(decide (y4.1=0)))&&(decide (y6.1=0)))&&(decide (y5.1=y7.1))) ((DC y6.2.2.1 y6.2.2.2.1 y6.2.2.2.2).bind fun y8=>(DC y7.2.2.1 y7.2.2.2.1 y7.2.2.2.2).bind fun y9=>(M9 n y8 y9).bind fun y10=>some (y10))).bind fun y11=>
 (E3 y11 ((Gl y6.2.2.2.2).bind fun y12=>some (decide (y12.cnt=a1)))).bind fun y13=>
 (E3 y13 ((Gl y7.2.2.2.2).bind fun y14=>some (decide (y14.cnt=DJ (wI (1+y7.1)))))).bind fun y15=>
 some y15
def KR(n:Nat)(T:List UInt32)(p0:List A3):Option Bool:=
 (Ll n T).bind fun y1=>
 (JX n T).bind fun y2=>
 (y2.1).bind fun d1=>
 (JX n T).bind fun y3=>
 (y3.1).bind fun d2=>
 (GS d1.1 d1.2.1 d1.2.2.1 d1.2.2.2.1).bind fun y4=>
 (JF n T y4.2 d1.2.1 d1.2.2.1 d1.2.2.2.1 p0).bind fun y5=>
 (EV n T y5.2.1 y5.2.2.1 y5.2.2.2.1 y5.2.2.2.2).bind fun y6=>
 (JF n T d2.1 d2.2.1 d2.2.2.1 d2.2.2.2.1 p0).bind fun y7=>
 cond (decide (0<y5.1))
 (
  GA n y1 y2 y3 y4 y5 y6 y7 2)
 (
  GA n y1 y2 y3 y4 y5 y6 y7 1)
theorem Vl{n:Nat}{T:List UInt32}{BW:Value}{p0:List A3}{r:Bool}(h:KR n T p0=some r)(hS:Hq K w0 T)(hT:Kl K w0 2 64 T)(hs0_:CR K w0 Ac 4 BW p0):zC K w0 3 [BW] [] H (fun u M=>u=vB r∧M=[]):=by
 unfold KR at h
 refine Vf.enter Tryz.func3 rfl rfl ?_
 refine Y (O E (U (Y ?_)))
 refine AB h fun y1 hy1 h=>?_
 refine AN 0 xX (ZW hy1 hS hT) E (O E (U (Y ?_)))
 refine AB h fun y2 hy2 h=>?_
 refine AB h fun d1 hd1 h=>?_
 refine Bx (vs:=[]) (Hin:=[]) (Hr:=_) E E zT ov E E (Re hy2 hS hT) ?_
 rintro _ _ (⟨hn,-,-⟩ | ⟨d_,b1,v1,b2,v2,v3,v4,v5,b3,v6,m1,b4,v7,m2,m3,b5,v8,b6,v9,v10,v11,b7,v12,v13,b8,v14,v15,v16,hn,rfl,rfl⟩)
 rw[hd1]at hn;cases hn
 obtain rfl:d1=d_:=zI (hd1.symm.trans hn)
 refine⟨trivial,?_⟩
 refine J E (Ap E E E (Ap E E E (Ap E E E (Ap E E E (Ap E E E (O E (O E ?_)))))))
 refine O E (O E (O E (U (Y ?_))))
 refine AB h fun y3 hy3 h=>?_
 refine AB h fun d2 hd2 h=>?_
 refine Bx (vs:=[]) (Hin:=[]) (Hr:=_::_::_::_::_::_::_::_::_::_::_::_::_::_::_::_::_::_::_::_::_::_::_::_::_::_::_::_) E E zT ov E E (Re hy3 hS hT) ?_
 rintro _ _ (⟨hn,-,-⟩ | ⟨d_,b9,v17,b10,v18,v19,v20,v21,b11,v22,m4,b12,v23,m5,m6,b13,v24,b14,v25,v26,v27,b15,v28,v29,b16,v30,v31,v32,hn,rfl,rfl⟩)
 rw[hd2]at hn;cases hn
 obtain rfl:d2=d_:=zI (hd2.symm.trans hn)
 refine⟨trivial,?_⟩
 refine J E (Ap E E E (Ap E E E (Ap E E E (Ap E E E (Ap E E E (O E (O E ?_)))))))
 refine O E (O E (O E (U (Y ?_))))
 refine AB h fun y4 hy4 h=>?_
 refine J E (SL.pick [27,28,29,30,31,32,33,34,35,36,37,38,39,40,0,1,2,3,4,5,6,7,8,9,10,11,12,13,14,15,16,17,18,19,20,21,22,23,24,25,26] 41 (Bi 14 uZ (Qf hy4) E ?_))
 rintro _ _ ⟨v33,rfl,rfl⟩
 refine O E (U (Y ?_))
 refine AB h fun y5 hy5 h=>?_
 refine J E (J E (Bi 14 ob (We hy5 hS hs0_) E ?_))
 rintro _ _ ⟨v34,v35,v36,v37,rfl,rfl⟩
 refine O E (U (Y ?_))
 refine AB h fun y6 hy6 h=>?_
 refine J E (Bi 14 i7 (Mn hy6 hS) E ?_)
 rintro _ _ ⟨v38,v39,v40,v41,rfl,rfl⟩
 refine O E (U (Y ?_))
 refine AB h fun y7 hy7 h=>?_
 refine J E (J E (SL.pick [14,15,16,17,18,19,20,21,22,23,24,25,26,27,0,1,2,3,4,5,6,7,8,9,10,11,12,13] 28 (Bi 14 ob (We hy7 hS hs0_) E ?_)))
 rintro _ _ ⟨v42,v43,v44,v45,rfl,rfl⟩
 refine O E (U (Y (O E (U ?_))))
 refine Az (α:=UInt64) (fun x=>GA n y1 y2 y3 y4 y5 y6 y7 x=some r) (fun x=>[(3,vB y1),(5,vP b2 0),(6,vP b4 0),(8,vB y2.2),(10,vP b10 0),(11,vP b12 0),(13,vB y3.2),(14,vI y4.1),(15,vI y5.1),(16,vI y6.1),(17,vI y7.1),(18,Bh x)]) (fun x=>sO b2 v39 v40 v41 b4 b3 v5 y6.2.2.1::AD 43 4 v39 Ac y6.2.2.1.rows::AD 148 3 v40 AY y6.2.2.1.pages::EU v41 AC AC y6.2.2.1.gens::dO b4 v7 m2 m3 y6.2.2.2.2::AD 9 1 v7 eS y6.2.2.2.2.blocks::Al m2 AC vS y6.2.2.2.2.pend::Al m3 AC vB y6.2.2.2.2.bad::vO b3 b4 v6 m1 y6.2.2.2.1::AD 55 2 v6 Ad y6.2.2.2.1.ring::Al m1 AC vB y6.2.2.2.1.taken::AD 55 2 v5 Ad y6.2.2.1.ring::sO b10 v43 v44 v45 b12 b11 v21 y7.2.2.1::AD 43 4 v43 Ac y7.2.2.1.rows::AD 148 3 v44 AY y7.2.2.1.pages::EU v45 AC AC y7.2.2.1.gens::dO b12 v23 m5 m6 y7.2.2.2.2::AD 9 1 v23 eS y7.2.2.2.2.blocks::Al m5 AC vS y7.2.2.2.2.pend::Al m6 AC vB y7.2.2.2.2.bad::vO b11 b12 v22 m4 y7.2.2.2.1::AD 55 2 v22 Ad y7.2.2.2.1.ring::Al m4 AC vB y7.2.2.2.1.taken::AD 55 2 v21 Ad y7.2.2.1.ring::H) ?_ (fun a1 D h=>?_)
 refine Y (J E (V E C8 (U ?_)))
 refine AL h E (fun hc1 h=>?_) fun hc1 h=>?_
 refine AJ (O E (AT ?_))
 exact Ak 2 h tL (A5 [16,17,18,19,24,25,26,27,21,22,23,20,2,3,4,5,10,11,12,13,7,8,9,6] 54 E E E)
 refine AH ?_
 exact Ak 1 h tL (A5 [16,17,18,19,24,25,26,27,21,22,23,20,2,3,4,5,10,11,12,13,7,8,9,6] 54 E E E)
 unfold GA at h
 refine ZL [(3,vB y1),(5,vP b2 0),(6,vP b4 0),(8,vB y2.2),(10,vP b10 0),(11,vP b12 0),(13,vB y3.2),(14,vI y4.1),(15,vI y5.1),(16,vI y6.1),(17,vI y7.1),(18,Bh a1)] (sO b2 v39 v40 v41 b4 b3 v5 y6.2.2.1::AD 43 4 v39 Ac y6.2.2.1.rows::AD 148 3 v40 AY y6.2.2.1.pages::EU v41 AC AC y6.2.2.1.gens::dO b4 v7 m2 m3 y6.2.2.2.2::AD 9 1 v7 eS y6.2.2.2.2.blocks::Al m2 AC vS y6.2.2.2.2.pend::Al m3 AC vB y6.2.2.2.2.bad::vO b3 b4 v6 m1 y6.2.2.2.1::AD 55 2 v6 Ad y6.2.2.2.1.ring::Al m1 AC vB y6.2.2.2.1.taken::AD 55 2 v5 Ad y6.2.2.1.ring::sO b10 v43 v44 v45 b12 b11 v21 y7.2.2.1::AD 43 4 v43 Ac y7.2.2.1.rows::AD 148 3 v44 AY y7.2.2.1.pages::EU v45 AC AC y7.2.2.1.gens::dO b12 v23 m5 m6 y7.2.2.2.2::AD 9 1 v23 eS y7.2.2.2.2.blocks::Al m5 AC vS y7.2.2.2.2.pend::Al m6 AC vB y7.2.2.2.2.bad::vO b11 b12 v22 m4 y7.2.2.2.1::AD 55 2 v22 Ad y7.2.2.2.1.ring::Al m4 AC vB y7.2.2.2.1.taken::AD 55 2 v21 Ad y7.2.2.1.ring::H) ?_ tL
 refine Y ?_
 refine AB h fun y11 hy11 h=>?_
 refine AB h fun y13 hy13 h=>?_
 refine AB h fun y15 hy15 h=>?_
 refine J E (J E ?_)
 refine DT (c:=y2.2) 47 2 49 E (fun hb k=>?_) (fun hb k=>?_) ?_
 refine J E (An E E E ?_)
 exact k.mono tL
 refine AA E (An E E E ?_)
 exact k.mono tL
 refine J E ?_
 refine DT (c:=y3.2) 50 2 52 E (fun hb k=>?_) (fun hb k=>?_) ?_
 refine J E (An E E E ?_)
 exact k.mono tL
 refine AA E (An E E E ?_)
 exact k.mono tL
 refine J E ?_
 refine DT (c:=decide (y4.1=0)) 53 3 56 E (fun hb k=>?_) (fun hb k=>?_) ?_
 refine J E (V E Bv (An E E E ?_))
 exact k.mono tL
 refine AA E (AA E (An E E E ?_))
 exact k.mono tL
 refine J E ?_
 refine DT (c:=decide (y6.1=0)) 57 3 60 E (fun hb k=>?_) (fun hb k=>?_) ?_
 refine J E (V E Bv (An E E E ?_))
 exact k.mono tL
 refine AA E (AA E (An E E E ?_))
 exact k.mono tL
 refine J E ?_
 refine DT (c:=decide (y5.1=y7.1)) 61 4 65 E (fun hb k=>?_) (fun hb k=>?_) ?_
 refine J E (J E (V E Bv (An E E E ?_)))
 exact k.mono tL
 refine AA E (AA E (AA E (An E E E ?_)))
 exact k.mono tL
 refine J E ?_
 refine Du 66 6 72 hy11 E (fun hb hg6 k=>?_) (fun hb k=>?_) ?_
 obtain⟨y8,hy8,hg6⟩:=Da hg6
 obtain⟨y9,hy9,hg6⟩:=Da hg6
 obtain⟨y10,hy10,hg6⟩:=Da hg6
 obtain rfl:=zI hg6
 refine J E (SL.pick [0,1,2,3,11,8,9,10,4,5,6,7] 12 ?_)
 refine Bx (vs:=[_]) (Hin:=[_,_,_,_,_,_,_,_,_,_,_,_]) (Hr:=_::_::_::_::_::_::_::_::_::_::_::_::_) E E ⟨E,zT⟩ i8 E E (Mp hy8) ?_
 rintro v46 _ ⟨_,rfl,rfl⟩
 refine⟨trivial,?_⟩
 refine J E (SL.pick [13,14,15,16,24,21,22,23,17,18,19,20,0,1,2,3,4,5,6,7,8,9,10,11,12] 25 ?_)
 refine Bx (vs:=[_]) (Hin:=[_,_,_,_,_,_,_,_,_,_,_,_]) (Hr:=_::_::_::_::_::_::_::_::_::_::_::_::_::_) E E ⟨E,zT⟩ i8 E E (Mp hy9) ?_
 rintro v47 _ ⟨_,rfl,rfl⟩
 refine⟨trivial,?_⟩
 refine SL.pick [13,0,1,2,3,4,5,6,7,8,9,10,11,12] 14 ?_
 refine Bx (vs:=[_,_]) (Hin:=[_,_]) (Hr:=_::_::_::_::_::_::_::_::_::_::_::_::_::_::_::_::_::_::_::_::_::_::_::_::_) E E ⟨E,E,zT⟩ u4 E E (Dm (B:=[_,_]) (Hin:=[]) fun K' w1 hk hB=>bI hy10 (C1 (e:=43) (v:=v46) zV (hB _ zS)) (C1 (e:=43) (v:=v47) zV (hB _ zS))) ?_
 rintro _ _ ⟨_,rfl,rfl,rfl⟩
 refine⟨trivial,?_⟩
 refine An E E E ?_
 exact SL.mono (SL.heap k fun _ hw=>Br.pick (H:=[_,_,_,_,_,_,_,_,_,_,_,_,_,_,_,_,_,_,_,_,_,_,_,_,_,_]) hw [14,15,16,17,22,23,24,25,19,20,21,18,2,3,4,5,10,11,12,13,7,8,9,6] 26 E) tL
 refine AA E (AA E (AA E (AA E (AA E (An E E E ?_)))))
 exact k.mono tL
 refine J E ?_
 refine Du 73 6 79 hy13 E (fun hb hg7 k=>?_) (fun hb k=>?_) ?_
 obtain⟨y12,hy12,hg7⟩:=Da hg7
 obtain rfl:=zI hg7
 refine J E (SL.pick [4,5,6,7,0,1,2,3] 8 (AN 4 Zo (Le hy12) E (WT E (show Z2 Tryz.prog 38 0=some 0 by kernel_rfl) E E (J E (V E K7 (An E E E ?_))))))
 exact SL.mono (SL.heap k fun _ hw=>Br.pick (H:=[_,_,_,_,_,_,_,_,_,_,_,_,_,_,_,_,_,_,_,_,_,_,_,_]) hw [4,5,6,7,0,1,2,3,8,9,10,11,12,13,14,15,16,17,18,19,20,21,22,23] 24 E) tL
 refine AA E (AA E (AA E (AA E (AA E (An E E E ?_)))))
 exact k.mono tL
 refine J E ?_
 refine Du 80 8 88 hy15 E (fun hb hg8 k=>?_) (fun hb k=>?_) ?_
 obtain⟨y14,hy14,hg8⟩:=Da hg8
 obtain rfl:=zI hg8
 refine J E (SL.pick [16,17,18,19,0,1,2,3,4,5,6,7,8,9,10,11,12,13,14,15] 20 (AN 4 Zo (Le hy14) E (WT E (show Z2 Tryz.prog 38 0=some 0 by kernel_rfl) E E (J E (V E Aw (BZ E E (Ff Jh En) (V E K7 ?_)))))))
 refine An E E E ?_
 exact SL.mono (SL.heap k fun _ hw=>Br.pick (H:=[_,_,_,_,_,_,_,_,_,_,_,_,_,_,_,_,_,_,_,_,_,_,_,_]) hw [4,5,6,7,8,9,10,11,12,13,14,15,16,17,18,19,0,1,2,3,20,21,22,23] 24 E) tL
 refine AA E (AA E (AA E (AA E (AA E (AA E (AA E (An E E E ?_)))))))
 exact k.mono tL
 refine O E (U (AM ?_))
 obtain rfl:=zI h
 exact AW [] 24 E E E
end

section
theorem Wa{n:Nat}{o:Iv}{m:List A3}{e:Int}:∀ {ops:List Iv} {l cur:List A3},GZ n ops l=some (cur,0)→EW n cur o=some (m,e)→e=0→GZ n (ops++[o]) l=some (m,0)
 | [],l,cur,h,ha,h0=>by
  obtain rfl:l=cur:=congrArg Prod.fst (zI h)
  rw[List.nil_append,GZ,ha,Z]
  show cond (decide (e=0)) _ _=_
  rw[zt h0]
  rfl
 | x::r,l,cur,h,ha,h0=>by
  rw[GZ]at h
  refine AB h fun y hy h=>?_
  rw[List.cons_append,GZ,hy,Z]
  cases hd:decide (y.2=0)with
  | true=>
   rw[hd,Ch]at h
   exact Wa h ha h0
  | false=>
   rw[hd,Bq]at h
   have h1:y.2=0:=congrArg Prod.snd (zI h)
   rw[h1]at hd
   cases hd
theorem VF{n:Nat}:∀ {ops:List Iv} {l cur:List A3} {k:Int},GZ n ops l=some (cur,0)→OE n ops l k=some (cur,0,0)
 | [],l,cur,k,h=>by
  obtain rfl:l=cur:=congrArg Prod.fst (zI h)
  rfl
 | x::r,l,cur,k,h=>by
  rw[GZ]at h
  refine AB h fun y hy h=>?_
  rw[OE,hy,Z]
  cases hd:decide (y.2=0)with
  | true=>
   rw[hd,Ch]at h
   exact VF h
  | false=>
   rw[hd,Bq]at h
   have h1:y.2=0:=congrArg Prod.snd (zI h)
   rw[h1]at hd
   cases hd
theorem eW(T:List UInt32)(l:List A3)(hT:T.length=64)(hlim:19≤Rq):KR 2200000 T l=some true:=by
 obtain⟨o,v,d,a,w,c,hm,S,hrw,hrg⟩:=lU hT
 have hr0:DC o v d=some []:=by
  unfold DC
  rw[hrw]
  rfl
 have key:∀(m i:Nat) (ops:List Iv) (og:B3) (vg:BD) (dg:Au) (cg:UInt64),i≤12→12-i<m→ops.length≤i→GZ 2200000 ops []=some (og.rows,0)→WW T (Ei 1) 1 cg og vg dg→cg.toNat=1+ops.length→Er og.rows=true→og.rows.length≤ops.length→
   ∃(ops':List Iv) (og':B3) (vg':BD) (dg':Au) (cg':UInt64),Ef 2200000 T l m (⟨ops,true,false⟩,o,d,v,(ops.length:Int),(i:Int))=some ((ops'.length:Int),⟨ops',true,false⟩,o,v,d)∧
    Ef 2200000 T l m (⟨[],false,false⟩,og,dg,vg,(ops.length:Int),(i:Int))=some ((ops'.length:Int),⟨[],false,false⟩,og',vg',dg')∧ops'.length≤12∧GZ 2200000 ops' []=some (og'.rows,0)∧WW T (Ei 1) 1 cg' og' vg' dg'∧cg'.toNat=1+ops'.length∧Er og'.rows=true∧og'.rows.length≤ops'.length:=by
  intro m
  induction m with
  | zero=>intro i _ _ _ _ _ _ h;omega
  | succ m ih=>
   intro i ops og vg dg cg hi hm ho hb Sg hcg hr hl
   by_cases h:i<l.length∧i<12
   have h1:A1 l (i:Int)=some l[i]:=by rw[Fv];exact List.getElem?_eq_getElem h.1
   have hlt:(decide ((i:Int)<(l.length:Int))&&decide ((i:Int)<12))=true:=by
    rw[zt (show(i:Int)<(l.length:Int) by omega),zt (show(i:Int)<12 by omega)]
    rfl
   have hmp:Ke (og.rows.length+1)≤19:=by unfold Ke;split<;>omega
   obtain⟨e,-,og',vg',dg',cg',p1,-,-,Sg',hcg',hr',hl',-,⟨mm,ha,hm0⟩,hm1⟩:=io Sg zO hr zO (Nat.le_trans hmp hlim) l[i]
   have hadds:Tw 2200000 ⟨ops,true,false⟩ [] ⟨1,l[i].id,l[i].x,l[i].y,l[i].txt⟩=some (e,⟨if e=0 then ops++[⟨1,l[i].id,l[i].x,l[i].y,l[i].txt⟩]else ops,true,false⟩):=by
    unfold Tw
    rw[zf (show ¬(((⟨ops,true,false⟩:D0).ops.length:Int)=64) by show ¬((ops.length:Int)=64);omega),Bq,zt (show(⟨ops,true,false⟩:D0).ops.length≤1000000 by show ops.length≤1000000;omega),Ch]
    show(GZ 2200000 ops []).bind _=_
    rw[hb,Z]
    show cond (!decide ((0:Int)=0)) _ _=_
    rw[show(!decide ((0:Int)=0))=false from rfl,Bq,ha,Z]
    by_cases h0:e=0
    rw[zt h0,Ch,if_pos h0,O5 zO (by show ops.length+1≤5000;omega),Z]
    rw[zf h0,Bq,if_neg h0]
   have hput:EP 2200000 T ⟨ops,true,false⟩ o v d l[i]=some (e,⟨if e=0 then ops++[⟨1,l[i].id,l[i].x,l[i].y,l[i].txt⟩]else ops,true,false⟩,o,v,d):=by
    unfold EP F2 Dp
    show((DC o v d).bind _).bind _=_
    rw[hr0,Z,hadds,Z,Z]
   have e1:Ef 2200000 T l (m+1) (⟨ops,true,false⟩,o,d,v,(ops.length:Int),(i:Int))=Ef 2200000 T l m (⟨if e=0 then ops++[⟨1,l[i].id,l[i].x,l[i].y,l[i].txt⟩]else ops,true,false⟩,o,d,v,(((if e=0 then ops++[⟨1,l[i].id,l[i].x,l[i].y,l[i].txt⟩]else ops).length:Nat):Int),((i+1:Nat):Int)):=by
    show Ey 2200000 T l (Ef 2200000 T l m) ⟨ops,true,false⟩ o d v (ops.length:Int) (i:Int)=_
    unfold Ey I1
    rw[hlt,Ch,h1,Z,hput,Z]
    simp only[BE]
    rw[BV (x:=(i:Int)+1) zO zO,BV (x:=(ops.length:Int)+1) zO zO]
    by_cases h0:e=0
    rw[zt h0,Ch,if_pos h0]
    simp
    rw[zf h0,Bq,if_neg h0]
    simp
   have e2:Ef 2200000 T l (m+1) (⟨[],false,false⟩,og,dg,vg,(ops.length:Int),(i:Int))=Ef 2200000 T l m (⟨[],false,false⟩,og',dg',vg',(((if e=0 then ops++[⟨1,l[i].id,l[i].x,l[i].y,l[i].txt⟩]else ops).length:Nat):Int),((i+1:Nat):Int)):=by
    show Ey 2200000 T l (Ef 2200000 T l m) ⟨[],false,false⟩ og dg vg (ops.length:Int) (i:Int)=_
    unfold Ey I1
    rw[hlt,Ch,h1,Z,p1,Z]
    simp only[BE]
    rw[BV (x:=(i:Int)+1) zO zO,BV (x:=(ops.length:Int)+1) zO zO]
    by_cases h0:e=0
    rw[zt h0,Ch,if_pos h0]
    simp
    rw[zf h0,Bq,if_neg h0]
    simp
   rw[e1,e2]
   by_cases h0:e=0
   rw[if_pos h0]at hcg' ⊢
   refine ih (i+1) _ og' vg' dg' cg' zO zO zQ ?_ Sg' (by rw[hcg',hcg];simp;omega) hr' zQ
   rw[hm0 h0]
   exact Wa hb ha h0
   rw[if_neg h0]at hcg' ⊢
   exact ih (i+1) _ og' vg' dg' cg' zO zO zO (by rw[hm1 h0];exact hb) Sg' (by rw[hcg',hcg];rfl) hr' (by rw[hm1 h0];exact hl)
   have hlt:(decide ((i:Int)<(l.length:Int))&&decide ((i:Int)<12))=false:=by
    rw[Bool.and_eq_false_iff,decide_eq_false_iff_not,decide_eq_false_iff_not]
    omega
   refine⟨ops,og,vg,dg,cg,?_,?_,by omega,hb,Sg,hcg,hr,hl⟩
   show Ey 2200000 T l (Ef 2200000 T l m) ⟨ops,true,false⟩ o d v (ops.length:Int) (i:Int)=_
   unfold Ey
   rw[hlt,Bq]
   rfl
   show Ey 2200000 T l (Ef 2200000 T l m) ⟨[],false,false⟩ og dg vg (ops.length:Int) (i:Int)=_
   unfold Ey
   rw[hlt,Bq]
   rfl
 obtain⟨ops,og,vg,dg,cg,k1,k2,k3,k4,Sg,k6,k7,k8⟩:=key 2200000 0 [] o v d 1 zO zO (Nat.zero_le _) (by rw[hrw];rfl) S zD (by rw[hrw];decide +kernel) (by rw[hrw];exact Nat.zero_le _)
 have hcommit:∃o' v' d',EV 2200000 T ⟨ops,true,false⟩ o v d=some (0,⟨[],false,false⟩,o',v',d')∧o'.rows=og.rows∧d'.rcnt=(if 0<ops.length then 2 else 1):=by
  by_cases h0:0<ops.length
  have hb:NR 2200000 o.rows ops=some (og.rows,0,0):=by
   unfold NR
   rw[hrw,NN [] zS zS,show Er []=true by decide +kernel,Z,Bool.not_true,Bq,show(decide (((ops.length:Nat):Int)=0)||decide (64<((ops.length:Nat):Int)))=false by rw[Bool.or_eq_false_iff,decide_eq_false_iff_not,decide_eq_false_iff_not];omega,Bq]
   exact VF k4
  have hmp:Ke og.rows.length≤19:=by unfold Ke;split<;>omega
  obtain⟨o',v',d',h1,-,h2,-,h3⟩:=Vq (T:=T) (f:=⟨ops,true,false⟩) S zD rfl rfl h0 hb (Nat.le_trans hmp hlim) (Nat.le_trans hmp zO) (Nat.le_trans k8 zO) k7
  exact⟨o',v',d',h1,h2,by rw[if_pos h0,h3.dv.rc];rfl⟩
  obtain rfl:ops=[]:=List.length_eq_zero_iff.1 zO
  have:og.rows=[]:=(congrArg Prod.fst (zI k4)).symm
  exact⟨o,v,d,rfl,by rw[hrw,this],by rw[S.dv.rc];rfl⟩
 obtain⟨o',v',d',h1,h2,h3⟩:=hcommit
 have hput1:JF 2200000 T ⟨[],true,false⟩ o v d l=some ((ops.length:Int),⟨ops,true,false⟩,o,v,d):=k1
 have hput2:JF 2200000 T ⟨[],false,false⟩ o v d l=some ((ops.length:Int),⟨[],false,false⟩,og,vg,dg):=k2
 have rows_def:∀(o:B3) (v:BD) (d:Au),o.rows.length≤12→DC o v d=some o.rows:=fun o v d h=>by
  unfold DC PS
  rw[O5 zO (by simp only[List.length_nil];omega),Z]
  rfl
 have hbg:GS ⟨[],false,false⟩ o v d=some (0,⟨[],true,false⟩):=rfl
 have hcnt:dg.rcnt=DJ (wI (1+(ops.length:Int))):=by
  rw[Sg.dv.rc]
  refine UInt64.toNat_inj.1 ?_
  rw[k6,BV zO zO]
  simp only[DJ,UInt64.toNat_ofNat']
  omega
 unfold KR
 rw[nF hT,Z,hm,Z,Z,Z,Z]
 show(GS ⟨[],false,false⟩ o v d).bind _=_
 rw[hbg,Z]
 show(JF 2200000 T ⟨[],true,false⟩ o v d l).bind _=_
 rw[hput1,Z]
 show(EV 2200000 T ⟨ops,true,false⟩ o v d).bind _=_
 rw[h1,Z]
 show(JF 2200000 T ⟨[],false,false⟩ o v d l).bind _=_
 rw[hput2,Z]
 have fin:∀k:UInt64,d'.rcnt=k→GA 2200000 true (some ((⟨[],false,false⟩:D0),o,v,d,(⟨[],false,false⟩:To),a,w,c),true) (some ((⟨[],false,false⟩:D0),o,v,d,(⟨[],false,false⟩:To),a,w,c),true) (0,⟨[],true,false⟩) ((ops.length:Int),⟨ops,true,false⟩,o,v,d) (0,⟨[],false,false⟩,o',v',d') ((ops.length:Int),⟨[],false,false⟩,og,vg,dg) k=some true:=by
  intro k hk
  unfold GA Gl
  simp only[decide_true,Bool.and_true]
  rw[rows_def o' v' d' (by rw[h2];omega),rows_def og vg dg zO,h2]
  simp only[Z]
  rw[iB og.rows zO zO]
  simp only[Qd,Z,hk,hcnt,decide_true,Bool.and_true]
 by_cases h0:0<ops.length
 rw[zt (show(0:Int)<(ops.length:Int) by omega),Ch]
 exact fin 2 (by rw[h3,if_pos h0])
 rw[zf (show ¬(0:Int)<(ops.length:Int) by omega),Bq]
 exact fin 1 (by rw[h3,if_neg h0])
end
end Go.Proofs.YtpaohlmgfifebaaGreatDoor
