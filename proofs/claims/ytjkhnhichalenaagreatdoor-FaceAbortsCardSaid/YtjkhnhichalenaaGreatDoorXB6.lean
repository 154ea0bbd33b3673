/- The texts FP7, S26, S27, S28, FN0, FP8, FP9, V1, V2, V3, V4a, FL3, FP7k, FR0, FP10, FL4, FP11, FL7, one behind the other: walks of the program, and plain laws of what it computes. Conditions: as each theorem says. -/
import Derived.Test.YtjkhnhichalenaaGreatDoorXB1
import Derived.Test.YtjkhnhichalenaaGreatDoorXB2
import Derived.Test.YtjkhnhichalenaaGreatDoorXB3
import Derived.Test.YtjkhnhichalenaaGreatDoorXB4
import Derived.Test.YtjkhnhichalenaaGreatDoorXB5

set_option linter.unusedVariables false
set_option linter.unusedSimpArgs false
set_option maxHeartbeats 4000000
set_option maxRecDepth 100000
namespace Go.Proofs.YtjkhnhichalenaaGreatDoor
open Go
section
variable {K:Nat→Prop}{w0:World}{H:List AY}
def SG(p0:Bx)(p0_1:Az)(p0_2:Ah):Option (Option C6×Int):=
 some (some ({ ops:=[],isOpen:=false,closed:=false }:C6),0)
theorem cM{Al Cc Bm BD BI BJ:Nat}{Au Ad A0 BY Bn BK:Value}{p0:Bx}{p0_1:Az}{p0_2:Ah}{r:Option C6×Int}(h:SG p0 p0_1 p0_2=some r): zC K w0 19 [vP Al 0] [AK Al (.cells #[Au,Ad,A0,vP BD 0,vP Cc 0,BY,AA p0.gen,vB p0.bad] 94),AC 35 4 Au AW p0.rows,AC 190 3 Ad AU p0.pages,DA A0 AA AA p0.gens,AC 114 2 BY AZ p0.ring,AK Cc (.cells #[vP BD 0,Bn,AA p0_1.gen,AA p0_1.boot,AV p0_1.seals,.map (some Bm)] 181),AC 114 2 Bn AZ p0_1.ring,Ab Bm AA vB p0_1.taken,AK BD (.cells #[vB p0_2.off,vB p0_2.isCut,vI p0_2.lasts,vI p0_2.counts,BK,.map (some BI),.map (some BJ),AV p0_2.rcnt,vS p0_2.rtag,AA p0_2.rboots] 100),AC 9 1 BK eS p0_2.blocks,Ab BI AA vS p0_2.pend,Ab BJ AA vB p0_2.bad] H (fun u M=>(r.1=none∧u=.tuple #[.pointer none,vI r.2]∧M=[AK Al (.cells #[Au,Ad,A0,vP BD 0,vP Cc 0,BY,AA p0.gen,vB p0.bad] 94),AC 35 4 Au AW p0.rows,AC 190 3 Ad AU p0.pages,DA A0 AA AA p0.gens,AC 114 2 BY AZ p0.ring,AK Cc (.cells #[vP BD 0,Bn,AA p0_1.gen,AA p0_1.boot,AV p0_1.seals,.map (some Bm)] 181),AC 114 2 Bn AZ p0_1.ring,Ab Bm AA vB p0_1.taken,AK BD (.cells #[vB p0_2.off,vB p0_2.isCut,vI p0_2.lasts,vI p0_2.counts,BK,.map (some BI),.map (some BJ),AV p0_2.rcnt,vS p0_2.rtag,AA p0_2.rboots] 100),AC 9 1 BK eS p0_2.blocks,Ab BI AA vS p0_2.pend,Ab BJ AA vB p0_2.bad])∨(∃(d:C6) (bn0:Nat) (vn0x0:Value),r.1=some d∧u=.tuple #[vP bn0 0,vI r.2]∧M=[AK bn0 (.cells #[vn0x0,vB d.isOpen,vP Al 0,vB d.closed] 80),AC 83 5 vn0x0 B7 d.ops,AK Al (.cells #[Au,Ad,A0,vP BD 0,vP Cc 0,BY,AA p0.gen,vB p0.bad] 94),AC 35 4 Au AW p0.rows,AC 190 3 Ad AU p0.pages,DA A0 AA AA p0.gens,AC 114 2 BY AZ p0.ring,AK Cc (.cells #[vP BD 0,Bn,AA p0_1.gen,AA p0_1.boot,AV p0_1.seals,.map (some Bm)] 181),AC 114 2 Bn AZ p0_1.ring,Ab Bm AA vB p0_1.taken,AK BD (.cells #[vB p0_2.off,vB p0_2.isCut,vI p0_2.lasts,vI p0_2.counts,BK,.map (some BI),.map (some BJ),AV p0_2.rcnt,vS p0_2.rtag,AA p0_2.rboots] 100),AC 9 1 BK eS p0_2.blocks,Ab BI AA vS p0_2.pend,Ab BJ AA vB p0_2.bad])):=by
 unfold SG at h
 refine Td.enter Tryz.func19 rfl rfl ?_
 refine Y (U E (U E (V (AH (Y (J E (EL E hY E E (V (C0 E (AJ (AI (Y (J E (CB [_] E sb sU sx ⟨E,zT⟩ E ?_))))))))))))))
 refine Bc E E zU fun b1=>?_
 refine B8 83 5 B7 (U E (U E (V (AL ?_))))
 obtain rfl:=zI h
 exact Ag (ER E E E) (Af (M:=[_,_,_,_,_,_,_,_,_,_,_,_,_,_]) (.inr ⟨_,b1,zN,E,E,E⟩) fun _ hw=>BW.pick (H:=[_,_,_,_,_,_,_,_,_,_,_,_,_,_]) hw [1,0,2,3,4,5,6,7,8,9,10,11,12,13] 14 E)
def Cu(p0:C6)(p0_1:Bx)(p0_2:Az)(p0_3:Ah):Option Int:=
 cond p0.closed
 (
  some 141)
 (
  some 0)
theorem Fa{Al Cg Bt BM Ar A1 A2:Nat}{Au CJ CK CL Bu BN A3:Value}{p0:C6}{p0_1:Bx}{p0_2:Az}{p0_3:Ah}{r:Int}(h:Cu p0 p0_1 p0_2 p0_3=some r): zC K w0 30 [vP Al 0] [AK Al (.cells #[Au,vB p0.isOpen,vP Cg 0,vB p0.closed] 80),AC 83 5 Au B7 p0.ops,AK Cg (.cells #[CJ,CK,CL,vP Ar 0,vP Bt 0,Bu,AA p0_1.gen,vB p0_1.bad] 94),AC 35 4 CJ AW p0_1.rows,AC 190 3 CK AU p0_1.pages,DA CL AA AA p0_1.gens,AC 114 2 Bu AZ p0_1.ring,AK Bt (.cells #[vP Ar 0,BN,AA p0_2.gen,AA p0_2.boot,AV p0_2.seals,.map (some BM)] 181),AC 114 2 BN AZ p0_2.ring,Ab BM AA vB p0_2.taken,AK Ar (.cells #[vB p0_3.off,vB p0_3.isCut,vI p0_3.lasts,vI p0_3.counts,A3,.map (some A1),.map (some A2),AV p0_3.rcnt,vS p0_3.rtag,AA p0_3.rboots] 100),AC 9 1 A3 eS p0_3.blocks,Ab A1 AA vS p0_3.pend,Ab A2 AA vB p0_3.bad] H (fun u M=>u=vI r∧M=[AK Al (.cells #[Au,vB p0.isOpen,vP Cg 0,vB p0.closed] 80),AC 83 5 Au B7 p0.ops,AK Cg (.cells #[CJ,CK,CL,vP Ar 0,vP Bt 0,Bu,AA p0_1.gen,vB p0_1.bad] 94),AC 35 4 CJ AW p0_1.rows,AC 190 3 CK AU p0_1.pages,DA CL AA AA p0_1.gens,AC 114 2 Bu AZ p0_1.ring,AK Bt (.cells #[vP Ar 0,BN,AA p0_2.gen,AA p0_2.boot,AV p0_2.seals,.map (some BM)] 181),AC 114 2 BN AZ p0_2.ring,Ab BM AA vB p0_2.taken,AK Ar (.cells #[vB p0_3.off,vB p0_3.isCut,vI p0_3.lasts,vI p0_3.counts,A3,.map (some A1),.map (some A2),AV p0_3.rcnt,vS p0_3.rtag,AA p0_3.rboots] 100),AC 9 1 A3 eS p0_3.blocks,Ab A1 AA vS p0_3.pend,Ab A2 AA vB p0_3.bad]):=by
 unfold Cu at h
 refine Td.enter Tryz.func30 rfl rfl ?_
 refine Y (U E (V (AH (AQ (Y (J E (EL E su E E (U E (V (C0 E (Y (J E (AT E E (AF E oo ?_))))))))))))))
 refine AG 0 U1 E (U E (V ?_))
 refine AN h E (fun hc2 h=>?_) fun hc2 h=>?_
 refine Y (U E (V (AL (BC (Ac ?_)))))
 obtain rfl:=zI h
 exact AX [0,1,2,3,4,5,6,7,8,9,10,11,12,13] 14 E E E
 refine AJ (An (AI (Y (U E (V (AL ?_))))))
 obtain rfl:=zI h
 exact AX [0,1,2,3,4,5,6,7,8,9,10,11,12,13] 14 E E E
def K9(p0:C6)(p0_1:Bx)(p0_2:Az)(p0_3:Ah):Option C6:=
 some ({ p0 with ops:=[],isOpen:=true })
theorem TA{Al Cg Bt BM Ar A1 A2:Nat}{Au CJ CK CL Bu BN A3:Value}{p0:C6}{p0_1:Bx}{p0_2:Az}{p0_3:Ah}{r:C6}(h:K9 p0 p0_1 p0_2 p0_3=some r): zC K w0 31 [vP Al 0] [AK Al (.cells #[Au,vB p0.isOpen,vP Cg 0,vB p0.closed] 80),AC 83 5 Au B7 p0.ops,AK Cg (.cells #[CJ,CK,CL,vP Ar 0,vP Bt 0,Bu,AA p0_1.gen,vB p0_1.bad] 94),AC 35 4 CJ AW p0_1.rows,AC 190 3 CK AU p0_1.pages,DA CL AA AA p0_1.gens,AC 114 2 Bu AZ p0_1.ring,AK Bt (.cells #[vP Ar 0,BN,AA p0_2.gen,AA p0_2.boot,AV p0_2.seals,.map (some BM)] 181),AC 114 2 BN AZ p0_2.ring,Ab BM AA vB p0_2.taken,AK Ar (.cells #[vB p0_3.off,vB p0_3.isCut,vI p0_3.lasts,vI p0_3.counts,A3,.map (some A1),.map (some A2),AV p0_3.rcnt,vS p0_3.rtag,AA p0_3.rboots] 100),AC 9 1 A3 eS p0_3.blocks,Ab A1 AA vS p0_3.pend,Ab A2 AA vB p0_3.bad] H (fun u M=>∃vs0_0_0:Value,u=.tuple #[]∧M=[AK Al (.cells #[vs0_0_0,vB r.isOpen,vP Cg 0,vB r.closed] 80),AC 83 5 vs0_0_0 B7 r.ops,AK Cg (.cells #[CJ,CK,CL,vP Ar 0,vP Bt 0,Bu,AA p0_1.gen,vB p0_1.bad] 94),AC 35 4 CJ AW p0_1.rows,AC 190 3 CK AU p0_1.pages,DA CL AA AA p0_1.gens,AC 114 2 Bu AZ p0_1.ring,AK Bt (.cells #[vP Ar 0,BN,AA p0_2.gen,AA p0_2.boot,AV p0_2.seals,.map (some BM)] 181),AC 114 2 BN AZ p0_2.ring,Ab BM AA vB p0_2.taken,AK Ar (.cells #[vB p0_3.off,vB p0_3.isCut,vI p0_3.lasts,vI p0_3.counts,A3,.map (some A1),.map (some A2),AV p0_3.rcnt,vS p0_3.rtag,AA p0_3.rboots] 100),AC 9 1 A3 eS p0_3.blocks,Ab A1 AA vS p0_3.pend,Ab A2 AA vB p0_3.bad]):=by
 unfold K9 at h
 refine Td.enter Tryz.func31 rfl rfl ?_
 refine AS (J E (J E (AT E E (AF E Pf (A8 0 E E E E ll E E E zT (B8 83 5 B7 (AT E E (AF E Qx ?_))))))))
 refine A8 1 E E E E Re E E E zT (Aa ?_)
 obtain rfl:=zI h
 exact DE (Dg E) (Af (M:=[_,_,_,_,_,_,_,_,_,_,_,_,_,_]) ⟨zN,E,E⟩ fun _ hw=>BW.pick (H:=[_,_,_,_,_,_,_,_,_,_,_,_,_,_,_]) hw [1,0,3,4,5,6,7,8,9,10,11,12,13,14] 15 E)
def Gn(p0:C6)(p0_1:Bx)(p0_2:Az)(p0_3:Ah):Option (List H9×C6):=
 some (p0.ops,{ p0 with ops:=[],isOpen:=false })
theorem On{Al Cg Bt BM Ar A1 A2:Nat}{Au CJ CK CL Bu BN A3:Value}{p0:C6}{p0_1:Bx}{p0_2:Az}{p0_3:Ah}{r:List H9×C6}(h:Gn p0 p0_1 p0_2 p0_3=some r): zC K w0 33 [vP Al 0] [AK Al (.cells #[Au,vB p0.isOpen,vP Cg 0,vB p0.closed] 80),AC 83 5 Au B7 p0.ops,AK Cg (.cells #[CJ,CK,CL,vP Ar 0,vP Bt 0,Bu,AA p0_1.gen,vB p0_1.bad] 94),AC 35 4 CJ AW p0_1.rows,AC 190 3 CK AU p0_1.pages,DA CL AA AA p0_1.gens,AC 114 2 Bu AZ p0_1.ring,AK Bt (.cells #[vP Ar 0,BN,AA p0_2.gen,AA p0_2.boot,AV p0_2.seals,.map (some BM)] 181),AC 114 2 BN AZ p0_2.ring,Ab BM AA vB p0_2.taken,AK Ar (.cells #[vB p0_3.off,vB p0_3.isCut,vI p0_3.lasts,vI p0_3.counts,A3,.map (some A1),.map (some A2),AV p0_3.rcnt,vS p0_3.rtag,AA p0_3.rboots] 100),AC 9 1 A3 eS p0_3.blocks,Ab A1 AA vS p0_3.pend,Ab A2 AA vB p0_3.bad] H (fun u M=>∃v0 vs0_0_0:Value,u=v0∧M=[AC 83 5 v0 B7 r.1,AK Al (.cells #[vs0_0_0,vB r.2.isOpen,vP Cg 0,vB r.2.closed] 80),AC 83 5 vs0_0_0 B7 r.2.ops,AK Cg (.cells #[CJ,CK,CL,vP Ar 0,vP Bt 0,Bu,AA p0_1.gen,vB p0_1.bad] 94),AC 35 4 CJ AW p0_1.rows,AC 190 3 CK AU p0_1.pages,DA CL AA AA p0_1.gens,AC 114 2 Bu AZ p0_1.ring,AK Bt (.cells #[vP Ar 0,BN,AA p0_2.gen,AA p0_2.boot,AV p0_2.seals,.map (some BM)] 181),AC 114 2 BN AZ p0_2.ring,Ab BM AA vB p0_2.taken,AK Ar (.cells #[vB p0_3.off,vB p0_3.isCut,vI p0_3.lasts,vI p0_3.counts,A3,.map (some A1),.map (some A2),AV p0_3.rcnt,vS p0_3.rtag,AA p0_3.rboots] 100),AC 9 1 A3 eS p0_3.blocks,Ab A1 AA vS p0_3.pend,Ab A2 AA vB p0_3.bad]):=by
 unfold Gn at h
 refine Td.enter Tryz.func33 rfl rfl ?_
 refine Y (B8 83 5 B7 (U E (V (Y (J E (AT E E (AF E Pf (AG 1 ZG E (U E (V (Y (J E ?_))))))))))))
 refine J E (AT E E (AF E Pf (A8 1 E E E E ll E E E zT (B8 83 5 B7 (AT E E (AF E Qx (A8 2 E E E E Re E E E zT (V (Y ?_)))))))))
 refine J E (U E (V (AL ?_)))
 obtain rfl:=zI h
 exact Bi [3,2,0,4,5,6,7,8,9,10,11,12,13,14,15] 16 (Cl E E) E E ⟨Au,(.slice none 0 0),E,E⟩
def Fb(p0:C6)(p0_1:Bx)(p0_2:Az)(p0_3:Ah):Option (Int×C6):=
 (Cu p0 p0_1 p0_2 p0_3).bind fun y1=>
 ret (!decide (y1=0)) fun x1=>
 cond x1
 (
  some (y1,p0))
 (
  cond p0.isOpen
  (
   some (140,p0))
  (
   (K9 p0 p0_1 p0_2 p0_3).bind fun y2=>
   some (0,y2)))
theorem Om{Al Cg Bt BM Ar A1 A2:Nat}{Au CJ CK CL Bu BN A3:Value}{p0:C6}{p0_1:Bx}{p0_2:Az}{p0_3:Ah}{r:Int×C6}(h:Fb p0 p0_1 p0_2 p0_3=some r): zC K w0 8 [vP Al 0] [AK Al (.cells #[Au,vB p0.isOpen,vP Cg 0,vB p0.closed] 80),AC 83 5 Au B7 p0.ops,AK Cg (.cells #[CJ,CK,CL,vP Ar 0,vP Bt 0,Bu,AA p0_1.gen,vB p0_1.bad] 94),AC 35 4 CJ AW p0_1.rows,AC 190 3 CK AU p0_1.pages,DA CL AA AA p0_1.gens,AC 114 2 Bu AZ p0_1.ring,AK Bt (.cells #[vP Ar 0,BN,AA p0_2.gen,AA p0_2.boot,AV p0_2.seals,.map (some BM)] 181),AC 114 2 BN AZ p0_2.ring,Ab BM AA vB p0_2.taken,AK Ar (.cells #[vB p0_3.off,vB p0_3.isCut,vI p0_3.lasts,vI p0_3.counts,A3,.map (some A1),.map (some A2),AV p0_3.rcnt,vS p0_3.rtag,AA p0_3.rboots] 100),AC 9 1 A3 eS p0_3.blocks,Ab A1 AA vS p0_3.pend,Ab A2 AA vB p0_3.bad] H (fun u M=>∃vs0_0_0:Value,u=vI r.1∧M=[AK Al (.cells #[vs0_0_0,vB r.2.isOpen,vP Cg 0,vB r.2.closed] 80),AC 83 5 vs0_0_0 B7 r.2.ops,AK Cg (.cells #[CJ,CK,CL,vP Ar 0,vP Bt 0,Bu,AA p0_1.gen,vB p0_1.bad] 94),AC 35 4 CJ AW p0_1.rows,AC 190 3 CK AU p0_1.pages,DA CL AA AA p0_1.gens,AC 114 2 Bu AZ p0_1.ring,AK Bt (.cells #[vP Ar 0,BN,AA p0_2.gen,AA p0_2.boot,AV p0_2.seals,.map (some BM)] 181),AC 114 2 BN AZ p0_2.ring,Ab BM AA vB p0_2.taken,AK Ar (.cells #[vB p0_3.off,vB p0_3.isCut,vI p0_3.lasts,vI p0_3.counts,A3,.map (some A1),.map (some A2),AV p0_3.rcnt,vS p0_3.rtag,AA p0_3.rboots] 100),AC 9 1 A3 eS p0_3.blocks,Ab A1 AA vS p0_3.pend,Ab A2 AA vB p0_3.bad]):=by
 unfold Fb at h
 refine Td.enter Tryz.func8 rfl rfl ?_
 refine Y (U E (V (Y ?_)))
 refine AE h fun y1 hy1 h=>?_
 refine J E (AP 14 VI (Fa hy1) E (U E (V (AH (AQ (Y ?_))))))
 obtain⟨x1,ex1,h⟩:=Bz h
 refine J E (Z E BO ?_)
 refine Ak (u:=vB x1) E E (congrArg vB ex1) ?_
 refine V ?_
 refine AN h E (fun hc1 h=>?_) fun hc1 h=>?_
 refine Y (J E (U E (V (AL (BC (Ac ?_))))))
 obtain rfl:=zI h
 exact Bi [0,1,2,3,4,5,6,7,8,9,10,11,12,13] 14 (Cl E E) E E ⟨Au,E,E⟩
 refine Y (J E (AT E E (AF E Nj (AF E Qx (AG 0 U1 E (U E (V ?_)))))))
 refine AN h E (fun hc2 h=>?_) fun hc2 h=>?_
 refine Y (U E (V (AL (BC (Ac ?_)))))
 obtain rfl:=zI h
 exact Bi [0,1,2,3,4,5,6,7,8,9,10,11,12,13] 14 (Cl E E) E E ⟨Au,E,E⟩
 refine AJ (An (AI (Y ?_)))
 refine AE h fun y2 hy2 h=>?_
 refine J E (AT E E (AF E Nj (BS 14 qD ((TA hy2 :)) E ?_)))
 rintro _ _ ⟨v1,rfl,rfl⟩
 refine V (Y (U E (V (AL ?_))))
 obtain rfl:=zI h
 exact Bi [0,1,2,3,4,5,6,7,8,9,10,11,12,13] 14 (Cl E E) E E ⟨v1,E,E⟩
def GS(y2:List H9×C6)(o1:Bx)(o2:Ah)(o3:Az)(a1:Int):Option (Int×C6×Bx×Az×Ah):=
 some (a1,y2.2,o1,o3,o2)
def ES(n:Nat)(T:List UInt32)(p0:C6)(p0_1:Bx)(p0_2:Az)(p0_3:Ah):Option (Int×C6×Bx×Az×Ah):=
 (Cu p0 p0_1 p0_2 p0_3).bind fun y1=>
 ret (!decide (y1=0)) fun x1=>
 cond x1
 (
  some (y1,p0,p0_1,p0_2,p0_3))
 (
  ret (!p0.isOpen) fun x2=>
  cond x2
  (
   some (140,p0,p0_1,p0_2,p0_3))
  (
   (Gn p0 p0_1 p0_2 p0_3).bind fun y2=>
   cond (decide (0<(y2.1.length:Int)))
   (
    (Dr n T p0_1 p0_2 p0_3 y2.1).bind fun y3=>
    GS y2 y3.2.2.1 y3.2.2.2.2 y3.2.2.2.1 y3.2.1)
   (
    GS y2 p0_1 p0_3 p0_2 y1)))
theorem OH{n Al Cg Bt BM Ar A1 A2:Nat}{T:List UInt32}{Au CJ CK CL Bu BN A3:Value}{p0:C6}{p0_1:Bx}{p0_2:Az}{p0_3:Ah}{r:Int×C6×Bx×Az×Ah}(h:ES n T p0 p0_1 p0_2 p0_3=some r)(hS:GF K w0 T):zC K w0 10 [vP Al 0] [AK Al (.cells #[Au,vB p0.isOpen,vP Cg 0,vB p0.closed] 80),AC 83 5 Au B7 p0.ops,AK Cg (.cells #[CJ,CK,CL,vP Ar 0,vP Bt 0,Bu,AA p0_1.gen,vB p0_1.bad] 94),AC 35 4 CJ AW p0_1.rows,AC 190 3 CK AU p0_1.pages,DA CL AA AA p0_1.gens,AC 114 2 Bu AZ p0_1.ring,AK Bt (.cells #[vP Ar 0,BN,AA p0_2.gen,AA p0_2.boot,AV p0_2.seals,.map (some BM)] 181),AC 114 2 BN AZ p0_2.ring,Ab BM AA vB p0_2.taken,AK Ar (.cells #[vB p0_3.off,vB p0_3.isCut,vI p0_3.lasts,vI p0_3.counts,A3,.map (some A1),.map (some A2),AV p0_3.rcnt,vS p0_3.rtag,AA p0_3.rboots] 100),AC 9 1 A3 eS p0_3.blocks,Ab A1 AA vS p0_3.pend,Ab A2 AA vB p0_3.bad] H (fun u M=>∃vs0_0_0 vs0_1_0 vs0_1_1 vs0_1_2:Value,u=vI r.1∧M=[AK Al (.cells #[vs0_0_0,vB r.2.1.isOpen,vP Cg 0,vB r.2.1.closed] 80),AC 83 5 vs0_0_0 B7 r.2.1.ops,AK Cg (.cells #[vs0_1_0,vs0_1_1,vs0_1_2,vP Ar 0,vP Bt 0,Bu,AA r.2.2.1.gen,vB r.2.2.1.bad] 94),AC 35 4 vs0_1_0 AW r.2.2.1.rows,AC 190 3 vs0_1_1 AU r.2.2.1.pages,DA vs0_1_2 AA AA r.2.2.1.gens,AC 114 2 Bu AZ r.2.2.1.ring,AK Bt (.cells #[vP Ar 0,BN,AA r.2.2.2.1.gen,AA r.2.2.2.1.boot,AV r.2.2.2.1.seals,.map (some BM)] 181),AC 114 2 BN AZ r.2.2.2.1.ring,Ab BM AA vB r.2.2.2.1.taken,AK Ar (.cells #[vB r.2.2.2.2.off,vB r.2.2.2.2.isCut,vI r.2.2.2.2.lasts,vI r.2.2.2.2.counts,A3,.map (some A1),.map (some A2),AV r.2.2.2.2.rcnt,vS r.2.2.2.2.rtag,AA r.2.2.2.2.rboots] 100),AC 9 1 A3 eS r.2.2.2.2.blocks,Ab A1 AA vS r.2.2.2.2.pend,Ab A2 AA vB r.2.2.2.2.bad]):=by
 unfold ES at h
 refine Td.enter Tryz.func10 rfl rfl ?_
 refine Y (U E (V (Y ?_)))
 refine AE h fun y1 hy1 h=>?_
 refine J E (AP 14 VI (Fa hy1) E (U E (V (AH (AQ (Y ?_))))))
 obtain⟨x1,ex1,h⟩:=Bz h
 refine J E (Z E BO ?_)
 refine Ak (u:=vB x1) E E (congrArg vB ex1) ?_
 refine V ?_
 refine AN h E (fun hc1 h=>?_) fun hc1 h=>?_
 refine Y (J E (U E (V (AL (BC (Ac ?_))))))
 obtain rfl:=zI h
 exact Bi [0,1,2,3,4,5,6,7,8,9,10,11,12,13] 14 (Cl E E) E E ⟨Au,CJ,CK,CL,E,E⟩
 refine Y ?_
 obtain⟨x2,ex2,h⟩:=Bz h
 refine J E (AT E E (AF E Nj (AF E Qx (AG 0 U1 E (CY E E ?_)))))
 refine Ak (u:=vB x2) E E (congrArg vB ex2) ?_
 refine V ?_
 refine AN h E (fun hc2 h=>?_) fun hc2 h=>?_
 refine Y (U E (V (AL (BC (Ac ?_)))))
 obtain rfl:=zI h
 exact Bi [0,1,2,3,4,5,6,7,8,9,10,11,12,13] 14 (Cl E E) E E ⟨Au,CJ,CK,CL,E,E⟩
 refine AJ (An (AI (Y ?_)))
 refine AE h fun y2 hy2 h=>?_
 refine J E (AT E E (AF E Nj ?_))
 refine Bd (vs:=[_]) (Hin:=[_,_,_,_,_,_,_,_,_,_,_,_,_,_]) (Hr:=_) E E ⟨E,zT⟩ kQ E E ((On hy2 :)) ?_
 rintro v1 _ ⟨_,v2,rfl,rfl⟩
 refine⟨trivial,?_⟩
 refine U E (V ?_)
 refine BB (α:=Bx×Value×Value×Value×Ah×Az×Int) (fun x=>GS y2 x.1 x.2.2.2.2.1 x.2.2.2.2.2.1 x.2.2.2.2.2.2=some r) (fun x=>[(0,vP Al 0),(3,vI x.2.2.2.2.2.2)]) (fun x=>AK Al (.cells #[v2,vB y2.2.isOpen,vP Cg 0,vB y2.2.closed] 80)::AC 83 5 v2 B7 y2.2.ops::AK Cg (.cells #[x.2.1,x.2.2.1,x.2.2.2.1,vP Ar 0,vP Bt 0,Bu,AA x.1.gen,vB x.1.bad] 94)::AC 35 4 x.2.1 AW x.1.rows::AC 190 3 x.2.2.1 AU x.1.pages::DA x.2.2.2.1 AA AA x.1.gens::AK Ar (.cells #[vB x.2.2.2.2.1.off,vB x.2.2.2.2.1.isCut,vI x.2.2.2.2.1.lasts,vI x.2.2.2.2.1.counts,A3,.map (some A1),.map (some A2),AV x.2.2.2.2.1.rcnt,vS x.2.2.2.2.1.rtag,AA x.2.2.2.2.1.rboots] 100)::AC 9 1 A3 eS x.2.2.2.2.1.blocks::Ab A1 AA vS x.2.2.2.2.1.pend::Ab A2 AA vB x.2.2.2.2.1.bad::AK Bt (.cells #[vP Ar 0,BN,AA x.2.2.2.2.2.1.gen,AA x.2.2.2.2.2.1.boot,AV x.2.2.2.2.2.1.seals,.map (some BM)] 181)::AC 114 2 BN AZ x.2.2.2.2.2.1.ring::Ab BM AA vB x.2.2.2.2.2.1.taken::AC 114 2 Bu AZ x.1.ring::H) ?_ (fun x D h=>?_)
 refine Y (J E (DW 0 E RV E E (Z E Cq (V ?_))))
 refine AN h E (fun hc3 h=>?_) fun hc3 h=>?_
 refine AS ?_
 refine AE h fun y3 hy3 h=>?_
 refine J E (AT E E (AF E Wh (AG 1 hG E (J E (SL.pick [0,3,4,5,6,7,8,9,10,11,12,13,14,1,2] 15 ?_)))))
 refine Bd (vs:=[_,_]) (Hin:=[_,_,_,_,_,_,_,_,_,_,_,_,_]) (Hr:=_::_::_) E E ⟨E,E,zT⟩ kR E E (Cm (B:=[_]) (Hin:=[_,_,_,_,_,_,_,_,_,_,_,_]) fun K' w1 hk hB=>NB hy3 (hS.keeps hk) (CT (e:=83) (v:=v1) zV (hB _ zS))) ?_
 rintro _ _ ⟨_,rfl,v6,v7,v8,rfl,rfl⟩
 refine⟨trivial,?_⟩
 refine J E (Ae E E E (Ae E E E (U E (Aa ?_))))
 exact Ap (y3.2.2.1,v6,v7,v8,y3.2.2.2.2,y3.2.2.2.1,y3.2.1) h tL (BR [13,14,1,2,3,4,9,10,11,12,6,7,8,5] 15 E E E)
 refine AJ ?_
 exact Ap (p0_1,CJ,CK,CL,p0_3,p0_2,y1) h tL (BR [1,2,3,4,5,6,11,12,13,14,8,9,10,7] 15 E E E)
 obtain⟨o1,v3,v4,v5,o2,o3,a1⟩:=x
 dsimp only at h
 unfold GS at h
 try dsimp only
 refine Y (J E (U E (V (AL ?_))))
 obtain rfl:=zI h
 exact Bi [0,1,2,3,4,5,13,10,11,12,6,7,8,9] 14 (Cl E E) E E ⟨v2,v3,v4,v5,E,E⟩
def Ir(p0:C6)(p0_1:Bx)(p0_2:Az)(p0_3:Ah):Option (Int×C6):=
 (Cu p0 p0_1 p0_2 p0_3).bind fun y1=>
 ret (!decide (y1=0)) fun x1=>
 cond x1
 (
  some (y1,p0))
 (
  ret (!p0.isOpen) fun x2=>
  cond x2
  (
   some (140,p0))
  (
   (Gn p0 p0_1 p0_2 p0_3).bind fun y2=>
   some (0,y2.2)))
theorem Tg{Al Cg Bt BM Ar A1 A2:Nat}{Au CJ CK CL Bu BN A3:Value}{p0:C6}{p0_1:Bx}{p0_2:Az}{p0_3:Ah}{r:Int×C6}(h:Ir p0 p0_1 p0_2 p0_3=some r): zC K w0 17 [vP Al 0] [AK Al (.cells #[Au,vB p0.isOpen,vP Cg 0,vB p0.closed] 80),AC 83 5 Au B7 p0.ops,AK Cg (.cells #[CJ,CK,CL,vP Ar 0,vP Bt 0,Bu,AA p0_1.gen,vB p0_1.bad] 94),AC 35 4 CJ AW p0_1.rows,AC 190 3 CK AU p0_1.pages,DA CL AA AA p0_1.gens,AC 114 2 Bu AZ p0_1.ring,AK Bt (.cells #[vP Ar 0,BN,AA p0_2.gen,AA p0_2.boot,AV p0_2.seals,.map (some BM)] 181),AC 114 2 BN AZ p0_2.ring,Ab BM AA vB p0_2.taken,AK Ar (.cells #[vB p0_3.off,vB p0_3.isCut,vI p0_3.lasts,vI p0_3.counts,A3,.map (some A1),.map (some A2),AV p0_3.rcnt,vS p0_3.rtag,AA p0_3.rboots] 100),AC 9 1 A3 eS p0_3.blocks,Ab A1 AA vS p0_3.pend,Ab A2 AA vB p0_3.bad] H (fun u M=>∃vs0_0_0:Value,u=vI r.1∧M=[AK Al (.cells #[vs0_0_0,vB r.2.isOpen,vP Cg 0,vB r.2.closed] 80),AC 83 5 vs0_0_0 B7 r.2.ops,AK Cg (.cells #[CJ,CK,CL,vP Ar 0,vP Bt 0,Bu,AA p0_1.gen,vB p0_1.bad] 94),AC 35 4 CJ AW p0_1.rows,AC 190 3 CK AU p0_1.pages,DA CL AA AA p0_1.gens,AC 114 2 Bu AZ p0_1.ring,AK Bt (.cells #[vP Ar 0,BN,AA p0_2.gen,AA p0_2.boot,AV p0_2.seals,.map (some BM)] 181),AC 114 2 BN AZ p0_2.ring,Ab BM AA vB p0_2.taken,AK Ar (.cells #[vB p0_3.off,vB p0_3.isCut,vI p0_3.lasts,vI p0_3.counts,A3,.map (some A1),.map (some A2),AV p0_3.rcnt,vS p0_3.rtag,AA p0_3.rboots] 100),AC 9 1 A3 eS p0_3.blocks,Ab A1 AA vS p0_3.pend,Ab A2 AA vB p0_3.bad]):=by
 unfold Ir at h
 refine Td.enter Tryz.func17 rfl rfl ?_
 refine Y (U E (V (Y ?_)))
 refine AE h fun y1 hy1 h=>?_
 refine J E (AP 14 VI (Fa hy1) E (U E (V (AH (AQ (Y ?_))))))
 obtain⟨x1,ex1,h⟩:=Bz h
 refine J E (Z E BO ?_)
 refine Ak (u:=vB x1) E E (congrArg vB ex1) ?_
 refine V ?_
 refine AN h E (fun hc1 h=>?_) fun hc1 h=>?_
 refine Y (J E (U E (V (AL (BC (Ac ?_))))))
 obtain rfl:=zI h
 exact Bi [0,1,2,3,4,5,6,7,8,9,10,11,12,13] 14 (Cl E E) E E ⟨Au,E,E⟩
 refine Y ?_
 obtain⟨x2,ex2,h⟩:=Bz h
 refine J E (AT E E (AF E Nj (AF E Qx (AG 0 U1 E (CY E E ?_)))))
 refine Ak (u:=vB x2) E E (congrArg vB ex2) ?_
 refine V ?_
 refine AN h E (fun hc2 h=>?_) fun hc2 h=>?_
 refine Y (U E (V (AL (BC (Ac ?_)))))
 obtain rfl:=zI h
 exact Bi [0,1,2,3,4,5,6,7,8,9,10,11,12,13] 14 (Cl E E) E E ⟨Au,E,E⟩
 refine AJ (An (AI (Y ?_)))
 refine AE h fun y2 hy2 h=>?_
 refine J E (AT E E (AF E Nj ?_))
 refine Bd (vs:=[_]) (Hin:=[_,_,_,_,_,_,_,_,_,_,_,_,_,_]) (Hr:=_) E E ⟨E,zT⟩ kQ E E ((On hy2 :)) ?_
 rintro v1 _ ⟨_,v2,rfl,rfl⟩
 refine⟨trivial,?_⟩
 refine V (Y (U E (V (AL ?_))))
 obtain rfl:=zI h
 exact Bi [1,2,3,4,5,6,7,8,9,10,11,12,13,14] 15 (Cl E E) E E ⟨v2,E,E⟩
def EY(p0:C6)(p0_1:Bx)(p0_2:Az)(p0_3:Ah):Option Int:=
 (Cu p0 p0_1 p0_2 p0_3).bind fun y1=>
 cond ((!decide (y1=0))||(!p0.isOpen))
 (
  some (-1))
 (
  some (p0.ops.length:Int))
theorem MV{Al Cg Bt BM Ar A1 A2:Nat}{Au CJ CK CL Bu BN A3:Value}{p0:C6}{p0_1:Bx}{p0_2:Az}{p0_3:Ah}{r:Int}(h:EY p0 p0_1 p0_2 p0_3=some r): zC K w0 16 [vP Al 0] [AK Al (.cells #[Au,vB p0.isOpen,vP Cg 0,vB p0.closed] 80),AC 83 5 Au B7 p0.ops,AK Cg (.cells #[CJ,CK,CL,vP Ar 0,vP Bt 0,Bu,AA p0_1.gen,vB p0_1.bad] 94),AC 35 4 CJ AW p0_1.rows,AC 190 3 CK AU p0_1.pages,DA CL AA AA p0_1.gens,AC 114 2 Bu AZ p0_1.ring,AK Bt (.cells #[vP Ar 0,BN,AA p0_2.gen,AA p0_2.boot,AV p0_2.seals,.map (some BM)] 181),AC 114 2 BN AZ p0_2.ring,Ab BM AA vB p0_2.taken,AK Ar (.cells #[vB p0_3.off,vB p0_3.isCut,vI p0_3.lasts,vI p0_3.counts,A3,.map (some A1),.map (some A2),AV p0_3.rcnt,vS p0_3.rtag,AA p0_3.rboots] 100),AC 9 1 A3 eS p0_3.blocks,Ab A1 AA vS p0_3.pend,Ab A2 AA vB p0_3.bad] H (fun u M=>u=vI r∧M=[AK Al (.cells #[Au,vB p0.isOpen,vP Cg 0,vB p0.closed] 80),AC 83 5 Au B7 p0.ops,AK Cg (.cells #[CJ,CK,CL,vP Ar 0,vP Bt 0,Bu,AA p0_1.gen,vB p0_1.bad] 94),AC 35 4 CJ AW p0_1.rows,AC 190 3 CK AU p0_1.pages,DA CL AA AA p0_1.gens,AC 114 2 Bu AZ p0_1.ring,AK Bt (.cells #[vP Ar 0,BN,AA p0_2.gen,AA p0_2.boot,AV p0_2.seals,.map (some BM)] 181),AC 114 2 BN AZ p0_2.ring,Ab BM AA vB p0_2.taken,AK Ar (.cells #[vB p0_3.off,vB p0_3.isCut,vI p0_3.lasts,vI p0_3.counts,A3,.map (some A1),.map (some A2),AV p0_3.rcnt,vS p0_3.rtag,AA p0_3.rboots] 100),AC 9 1 A3 eS p0_3.blocks,Ab A1 AA vS p0_3.pend,Ab A2 AA vB p0_3.bad]):=by
 unfold EY at h
 refine Td.enter Tryz.func16 rfl rfl ?_
 refine Y (U E (V (AH (Y ?_))))
 refine AE h fun y1 hy1 h=>?_
 refine J E (AP 14 VI (Fa hy1) E (Z E BO (J E ?_)))
 refine E3 (c := !p0.isOpen) 6 7 13 E (fun hb k=>?_) (fun hb k=>?_) ?_
 refine AD E (AD E (AD E (AD E (AD E (AD E (Ai E E E ?_))))))
 exact k.mono tL
 refine J E (AT E E (AF E Nj (AF E Qx (AG 0 U1 E (CY E E (Ai E E E ?_))))))
 exact k.mono tL
 refine V ?_
 refine AN h E (fun hc1 h=>?_) fun hc1 h=>?_
 refine Y (U E (V (AL (Ac ?_))))
 obtain rfl:=zI h
 exact AX [0,1,2,3,4,5,6,7,8,9,10,11,12,13] 14 E E E
 refine AJ (AI (Y (J E (AT E E (AF E Nj (AF E Pf (AG 0 ZG E (DW 1 E RV E E (U E (V (AL ?_)))))))))))
 obtain rfl:=zI h
 exact AX [0,1,2,3,4,5,6,7,8,9,10,11,12,13] 14 E E E
def GH(n:Nat)(T:List UInt32)(p0:C6)(p0_1:Bx)(p0_2:Az)(p0_3:Ah)(p1:H9):Option (Int×C6×Bx×Az×Ah):=
 (Cu p0 p0_1 p0_2 p0_3).bind fun y1=>
 ret (!decide (y1=0)) fun x1=>
 cond x1
 (
  some (y1,p0,p0_1,p0_2,p0_3))
 (
  cond p0.isOpen
  (
   (Cy p0_1 p0_2 p0_3).bind fun y2=>
   (VB n p0 y2 p1).bind fun y3=>
   some (y3.1,y3.2,p0_1,p0_2,p0_3))
  (
   (Dr n T p0_1 p0_2 p0_3 [p1]).bind fun y4=>
   some (y4.2.1,p0,y4.2.2.1,y4.2.2.2.1,y4.2.2.2.2)))
theorem S9{n Al Cg Bt BM Ar A1 A2:Nat}{T:List UInt32}{Au CJ CK CL Bu BN A3:Value}{p0:C6}{p0_1:Bx}{p0_2:Az}{p0_3:Ah}{p1:H9}{r:Int×C6×Bx×Az×Ah}(h:GH n T p0 p0_1 p0_2 p0_3 p1=some r)(hS:GF K w0 T):zC K w0 32 [vP Al 0,.agg (B7 p1).toArray] [AK Al (.cells #[Au,vB p0.isOpen,vP Cg 0,vB p0.closed] 80),AC 83 5 Au B7 p0.ops,AK Cg (.cells #[CJ,CK,CL,vP Ar 0,vP Bt 0,Bu,AA p0_1.gen,vB p0_1.bad] 94),AC 35 4 CJ AW p0_1.rows,AC 190 3 CK AU p0_1.pages,DA CL AA AA p0_1.gens,AC 114 2 Bu AZ p0_1.ring,AK Bt (.cells #[vP Ar 0,BN,AA p0_2.gen,AA p0_2.boot,AV p0_2.seals,.map (some BM)] 181),AC 114 2 BN AZ p0_2.ring,Ab BM AA vB p0_2.taken,AK Ar (.cells #[vB p0_3.off,vB p0_3.isCut,vI p0_3.lasts,vI p0_3.counts,A3,.map (some A1),.map (some A2),AV p0_3.rcnt,vS p0_3.rtag,AA p0_3.rboots] 100),AC 9 1 A3 eS p0_3.blocks,Ab A1 AA vS p0_3.pend,Ab A2 AA vB p0_3.bad] H (fun u M=>∃vs0_0_0 vs0_1_0 vs0_1_1 vs0_1_2:Value,u=vI r.1∧M=[AK Al (.cells #[vs0_0_0,vB r.2.1.isOpen,vP Cg 0,vB r.2.1.closed] 80),AC 83 5 vs0_0_0 B7 r.2.1.ops,AK Cg (.cells #[vs0_1_0,vs0_1_1,vs0_1_2,vP Ar 0,vP Bt 0,Bu,AA r.2.2.1.gen,vB r.2.2.1.bad] 94),AC 35 4 vs0_1_0 AW r.2.2.1.rows,AC 190 3 vs0_1_1 AU r.2.2.1.pages,DA vs0_1_2 AA AA r.2.2.1.gens,AC 114 2 Bu AZ r.2.2.1.ring,AK Bt (.cells #[vP Ar 0,BN,AA r.2.2.2.1.gen,AA r.2.2.2.1.boot,AV r.2.2.2.1.seals,.map (some BM)] 181),AC 114 2 BN AZ r.2.2.2.1.ring,Ab BM AA vB r.2.2.2.1.taken,AK Ar (.cells #[vB r.2.2.2.2.off,vB r.2.2.2.2.isCut,vI r.2.2.2.2.lasts,vI r.2.2.2.2.counts,A3,.map (some A1),.map (some A2),AV r.2.2.2.2.rcnt,vS r.2.2.2.2.rtag,AA r.2.2.2.2.rboots] 100),AC 9 1 A3 eS r.2.2.2.2.blocks,Ab A1 AA vS r.2.2.2.2.pend,Ab A2 AA vB r.2.2.2.2.bad]):=by
 unfold GH at h
 refine Td.enter Tryz.func32 rfl rfl ?_
 refine Y ?_
 refine Bc E E zU fun b1=>?_
 refine U E (V (Y ?_))
 refine AE h fun y1 hy1 h=>?_
 refine J E (SL.pick [1,2,3,4,5,6,7,8,9,10,11,12,13,14,0] 15 (AP 14 VI (Fa hy1) E (U E (V (AH (AQ (Y ?_)))))))
 obtain⟨x1,ex1,h⟩:=Bz h
 refine J E (Z E BO ?_)
 refine Ak (u:=vB x1) E E (congrArg vB ex1) ?_
 refine V ?_
 refine AN h E (fun hc1 h=>?_) fun hc1 h=>?_
 refine Y (J E (U E (V (AL (BC (Ac ?_))))))
 obtain rfl:=zI h
 exact Bi [0,1,2,3,4,5,6,7,8,9,10,11,12,13] 15 (Cl E E) E E ⟨Au,CJ,CK,CL,E,E⟩
 refine Y (J E (AT E E (AF E Nj (AF E Qx (AG 0 U1 E (U E (V ?_)))))))
 refine AN h E (fun hc2 h=>?_) fun hc2 h=>?_
 refine AH ?_
 refine AE h fun y2 hy2 h=>?_
 refine AE h fun y3 hy3 h=>?_
 refine Aw DG [0,14] (CM [(true,0),(true,1),(true,2),(true,3),(true,4),(true,5),(true,6),(true,8),(false,7)] (.last 9 (C4 [(false,10)]))) zK (J E (AT E E (AF E Nj (J E (AT E E (AF E Wh (AG 0 hG E ?_)))))))
 refine As [vI p1.kind,AV p1.id,AA p1.x,AA p1.y,vS p1.txt] E UK E E (Aj 1 E) (SL.pick [2,3,4,5,6,7,8,9,10,11,12,13,0,1] 14 ?_)
 refine Bd (vs:=[_]) (Hin:=[_,_,_,_,_,_,_,_,_,_,_,_]) (Hr:=_::_::_::_) E E ⟨E,zT⟩ kM E E (OI hy2) ?_
 rintro v1 _ ⟨_,rfl,rfl⟩
 refine⟨⟨⟨13,rfl⟩,⟨15,rfl⟩,trivial⟩,?_⟩
 refine Bh (SL.pick [0,13,14,1,2,3,4,5,6,7,8,9,10,11,12] 15 ?_)
 refine Bd (vs:=[_,_,_]) (Hin:=[_,_,_]) (Hr:=_::_::_::_::_::_::_::_::_::_::_::_::_::_) E E ⟨E,E,E,zT⟩ qO E E (Cm (B:=[_]) (Hin:=[_,_]) fun K' w1 hk hB=>(mq hy3 (CT (e:=35) (v:=v1) zV (hB _ zS)) :)) ?_
 rintro _ _ ⟨_,rfl,v2,rfl,rfl⟩
 refine⟨trivial,?_⟩
 refine U E (V (AL (BC (Ac ?_))))
 obtain rfl:=zI h
 exact Bi [1,2,3,4,5,6,7,8,9,10,11,12,13,14] 16 (Cl E E) E E ⟨v2,CJ,CK,CL,E,E⟩
 refine AJ (An (AI (AH ?_)))
 refine AE h fun y4 hy4 h=>?_
 refine Aw DG [0,14] (CM [(true,0),(true,1),(true,2),(true,3),(true,4),(false,5),(false,6),(false,7),(true,8),(false,9)] (.last 10 .nil)) zK (J E (AT E E (AF E Wh (AG 0 hG E (As [vI p1.kind,AV p1.id,AA p1.x,AA p1.y,vS p1.txt] E UK E E (Aj 1 E) ?_)))))
 refine CD [_] rfl RV YC ZO ⟨rfl,trivial⟩ rfl rfl rfl zW rfl rfl (fun _=>⟨⟨1,rfl⟩,⟨15,rfl⟩,trivial⟩) fun b2=>?_
 refine CF B7 5 ([p1]:List H9) E zV E ?_
 refine SL.pick [0,3,4,5,6,7,8,9,10,11,12,13,14,1,2] 15 ?_
 refine Bd (vs:=[_,_]) (Hin:=[_,_,_,_,_,_,_,_,_,_,_,_,_]) (Hr:=_::_::_::_) E E ⟨E,E,zT⟩ kR E E (Cm (B:=[_]) (Hin:=[_,_,_,_,_,_,_,_,_,_,_,_]) fun K' w1 hk hB=>NB hy4 (hS.keeps hk) (CT (e:=83) (v:=.slice (some ⟨b2,0,none⟩) 1 1) zV (hB _ zS))) ?_
 rintro _ _ ⟨_,rfl,v3,v4,v5,rfl,rfl⟩
 refine⟨⟨⟨13,rfl⟩,⟨15,rfl⟩,trivial⟩,?_⟩
 refine J E (Ae E E E (Ae E E E (Bh (U E (V (Y (J E (U E (V (AL ?_))))))))))
 obtain rfl:=zI h
 exact Bi [13,14,1,2,3,4,5,6,7,8,9,10,11,12] 16 (Cl E E) E E ⟨Au,v3,v4,v5,E,E⟩
def Ev(n:Nat)(T:List UInt32)(p0:C6)(p0_1:Bx)(p0_2:Az)(p0_3:Ah)(p1:Ao):Option (Int×C6×Bx×Az×Ah):=
 (GH n T p0 p0_1 p0_2 p0_3 (⟨1,p1.id,p1.x,p1.y,p1.txt⟩:H9)).bind fun y1=>
 some (y1.1,y1.2.1,y1.2.2.1,y1.2.2.2.1,y1.2.2.2.2)
theorem QG{n Al Cg Bt BM Ar A1 A2:Nat}{T:List UInt32}{Au CJ CK CL Bu BN A3:Value}{p0:C6}{p0_1:Bx}{p0_2:Az}{p0_3:Ah}{p1:Ao}{r:Int×C6×Bx×Az×Ah}(h:Ev n T p0 p0_1 p0_2 p0_3 p1=some r)(hS:GF K w0 T):zC K w0 9 [vP Al 0,.agg (AW p1).toArray] [AK Al (.cells #[Au,vB p0.isOpen,vP Cg 0,vB p0.closed] 80),AC 83 5 Au B7 p0.ops,AK Cg (.cells #[CJ,CK,CL,vP Ar 0,vP Bt 0,Bu,AA p0_1.gen,vB p0_1.bad] 94),AC 35 4 CJ AW p0_1.rows,AC 190 3 CK AU p0_1.pages,DA CL AA AA p0_1.gens,AC 114 2 Bu AZ p0_1.ring,AK Bt (.cells #[vP Ar 0,BN,AA p0_2.gen,AA p0_2.boot,AV p0_2.seals,.map (some BM)] 181),AC 114 2 BN AZ p0_2.ring,Ab BM AA vB p0_2.taken,AK Ar (.cells #[vB p0_3.off,vB p0_3.isCut,vI p0_3.lasts,vI p0_3.counts,A3,.map (some A1),.map (some A2),AV p0_3.rcnt,vS p0_3.rtag,AA p0_3.rboots] 100),AC 9 1 A3 eS p0_3.blocks,Ab A1 AA vS p0_3.pend,Ab A2 AA vB p0_3.bad] H (fun u M=>∃vs0_0_0 vs0_1_0 vs0_1_1 vs0_1_2:Value,u=vI r.1∧M=[AK Al (.cells #[vs0_0_0,vB r.2.1.isOpen,vP Cg 0,vB r.2.1.closed] 80),AC 83 5 vs0_0_0 B7 r.2.1.ops,AK Cg (.cells #[vs0_1_0,vs0_1_1,vs0_1_2,vP Ar 0,vP Bt 0,Bu,AA r.2.2.1.gen,vB r.2.2.1.bad] 94),AC 35 4 vs0_1_0 AW r.2.2.1.rows,AC 190 3 vs0_1_1 AU r.2.2.1.pages,DA vs0_1_2 AA AA r.2.2.1.gens,AC 114 2 Bu AZ r.2.2.1.ring,AK Bt (.cells #[vP Ar 0,BN,AA r.2.2.2.1.gen,AA r.2.2.2.1.boot,AV r.2.2.2.1.seals,.map (some BM)] 181),AC 114 2 BN AZ r.2.2.2.1.ring,Ab BM AA vB r.2.2.2.1.taken,AK Ar (.cells #[vB r.2.2.2.2.off,vB r.2.2.2.2.isCut,vI r.2.2.2.2.lasts,vI r.2.2.2.2.counts,A3,.map (some A1),.map (some A2),AV r.2.2.2.2.rcnt,vS r.2.2.2.2.rtag,AA r.2.2.2.2.rboots] 100),AC 9 1 A3 eS r.2.2.2.2.blocks,Ab A1 AA vS r.2.2.2.2.pend,Ab A2 AA vB r.2.2.2.2.bad]):=by
 unfold Ev at h
 refine Td.enter Tryz.func9 rfl rfl ?_
 refine Y ?_
 refine Bc E E zU fun b1=>?_
 refine U E (V (Y ?_))
 refine AE h fun y1 hy1 h=>?_
 refine J E (As [AV p1.id,AA p1.x,AA p1.y,vS p1.txt] E HG E E (Aj 0 E) (CB [_,_] E sd sV ZO ⟨E,E,zT⟩ E (SL.pick [1,2,3,4,5,6,7,8,9,10,11,12,13,14,0] 15 (BS 14 qE ((S9 hy1 hS :)) E ?_))))
 rintro _ _ ⟨v1,v2,v3,v4,rfl,rfl⟩
 refine U E (V (AL ?_))
 obtain rfl:=zI h
 exact Bi [0,1,2,3,4,5,6,7,8,9,10,11,12,13] 15 (Cl E E) E E ⟨v1,v2,v3,v4,E,E⟩
def Eu(n:Nat)(p0:C6)(p0_1:Bx)(p0_2:Az)(p0_3:Ah)(p1:UInt64):Option (Ao×Int):=
 (Cu p0 p0_1 p0_2 p0_3).bind fun y1=>
 cond (!decide (y1=0))
 (
  some ((⟨0,0,0,[]⟩:Ao),y1))
 (
  (G5 n p0_1 p0_2 p0_3 p1).bind fun y2=>
  some ((⟨y2.1.id,y2.1.x,y2.1.y,y2.1.txt⟩:Ao),y2.2))
theorem QF{n Al Cg Bt BM Ar A1 A2:Nat}{Au CJ CK CL Bu BN A3:Value}{p0:C6}{p0_1:Bx}{p0_2:Az}{p0_3:Ah}{p1:UInt64}{r:Ao×Int}(h:Eu n p0 p0_1 p0_2 p0_3 p1=some r): zC K w0 20 [vP Al 0,AV p1] [AK Al (.cells #[Au,vB p0.isOpen,vP Cg 0,vB p0.closed] 80),AC 83 5 Au B7 p0.ops,AK Cg (.cells #[CJ,CK,CL,vP Ar 0,vP Bt 0,Bu,AA p0_1.gen,vB p0_1.bad] 94),AC 35 4 CJ AW p0_1.rows,AC 190 3 CK AU p0_1.pages,DA CL AA AA p0_1.gens,AC 114 2 Bu AZ p0_1.ring,AK Bt (.cells #[vP Ar 0,BN,AA p0_2.gen,AA p0_2.boot,AV p0_2.seals,.map (some BM)] 181),AC 114 2 BN AZ p0_2.ring,Ab BM AA vB p0_2.taken,AK Ar (.cells #[vB p0_3.off,vB p0_3.isCut,vI p0_3.lasts,vI p0_3.counts,A3,.map (some A1),.map (some A2),AV p0_3.rcnt,vS p0_3.rtag,AA p0_3.rboots] 100),AC 9 1 A3 eS p0_3.blocks,Ab A1 AA vS p0_3.pend,Ab A2 AA vB p0_3.bad] H (fun u M=>u=.tuple #[.agg (AW r.1).toArray,vI r.2]∧M=[AK Al (.cells #[Au,vB p0.isOpen,vP Cg 0,vB p0.closed] 80),AC 83 5 Au B7 p0.ops,AK Cg (.cells #[CJ,CK,CL,vP Ar 0,vP Bt 0,Bu,AA p0_1.gen,vB p0_1.bad] 94),AC 35 4 CJ AW p0_1.rows,AC 190 3 CK AU p0_1.pages,DA CL AA AA p0_1.gens,AC 114 2 Bu AZ p0_1.ring,AK Bt (.cells #[vP Ar 0,BN,AA p0_2.gen,AA p0_2.boot,AV p0_2.seals,.map (some BM)] 181),AC 114 2 BN AZ p0_2.ring,Ab BM AA vB p0_2.taken,AK Ar (.cells #[vB p0_3.off,vB p0_3.isCut,vI p0_3.lasts,vI p0_3.counts,A3,.map (some A1),.map (some A2),AV p0_3.rcnt,vS p0_3.rtag,AA p0_3.rboots] 100),AC 9 1 A3 eS p0_3.blocks,Ab A1 AA vS p0_3.pend,Ab A2 AA vB p0_3.bad]):=by
 unfold Eu at h
 refine Td.enter Tryz.func20 rfl rfl ?_
 refine Y ?_
 refine Am E HH zU fun b1=>?_
 refine U E (V (AH (Y ?_)))
 refine AE h fun y1 hy1 h=>?_
 refine J E (SL.pick [1,2,3,4,5,6,7,8,9,10,11,12,13,14,0] 15 (AP 14 VI (Fa hy1) E (U E (V (Y (J E (Z E BO (V ?_))))))))
 refine AN h E (fun hc1 h=>?_) fun hc1 h=>?_
 refine Y (CB [] E dF dE HH zT E (J E (A8 14 E E E E Dh E E E zT (U E (V (AL (Ac ?_)))))))
 obtain rfl:=zI h
 exact Ag (D7 E (CC 14 (AW (⟨0,0,0,[]⟩:Ao)) HG E E E E) E) (Af (M:=[_,_,_,_,_,_,_,_,_,_,_,_,_,_]) ⟨E,E⟩ fun _ hw=>BW.pick (H:=[_,_,_,_,_,_,_,_,_,_,_,_,_,_,_]) hw [0,1,2,3,4,5,6,7,8,9,10,11,12,13] 15 E)
 refine AJ (AI (Y ?_))
 refine AE h fun y2 hy2 h=>?_
 refine J E (AT E E (AF E Wh (AG 0 hG E (J E (SL.pick [2,3,4,5,6,7,8,9,10,11,12,13,0,1] 14 (AP 12 qG (Tk hy2) E (Ae E E E ?_)))))))
 refine Ae E E E (A8 14 E E E E Dh E E E zT (U E (V (AL ?_))))
 obtain rfl:=zI h
 exact Ag (D7 E (CC 14 (AW (⟨y2.1.id,y2.1.x,y2.1.y,y2.1.txt⟩:Ao)) HG E E E E) E) (Af (M:=[_,_,_,_,_,_,_,_,_,_,_,_,_,_]) ⟨E,E⟩ fun _ hw=>BW.pick (H:=[_,_,_,_,_,_,_,_,_,_,_,_,_,_,_]) hw [12,13,0,1,2,3,4,5,6,7,8,9,10,11] 15 E)
end

section
structure tM where
 out:List BL
 rows:List Ao
 count:Int
 err:Int
end

section
variable {P:Program}{ro:Option Nat}{K:Nat→Prop}{w0:World}{N:Nat}{Q:DJ}{D:List Nat}{l l':Tm}{H H' Hs L:List AY}{ops:Array Oper}{items:Hx}
variable {tk:Bool}{o:Oper}{t:Nat}{v:Value}{x y z:Operand}
variable {α:Type}{enc:α→List Value}{sz:Nat}{xs us:List α}{e ty:TypeId}
end

section
variable {P:Program}{ro:Option Nat}{K:Nat→Prop}{w0:World}{N:Nat}{Q:DJ}{D:List Nat}{l l':Tm}{H H' Hs L:List AY}{ops:Array Oper}{items:Hx}
variable {tk:Bool}{o:Oper}{t:Nat}{v:Value}{x y z:Operand}
theorem jn{b off n c sz:Nat}{k k':IntKind}{i j:Int}{ty e:TypeId}(p q:Nat)(ho:At ops N l o t (.slice ty x (some y) (some z) none))(hty:P.underlying ty=some (.slice e))(hsz:DH P e=some sz)(hx:Bj l x=some (.slice (some ⟨b,off,none⟩) n c))(hy:Bj l y=some (.int k i))(hz:Bj l z=some (.int k' j))
(hi:i=(p:Int))(hj:j=(q:Int))(hp:p≤q)(hq:q≤c)(hpc:p<c)(h:SL P ro K w0 N ops Hs items Q D ((t,.slice (some ⟨b,off+p*sz,none⟩) (q-p) (c-p))::l) H):SL P ro K w0 N ops Hs (.cons (tk,o) items) Q D l H:=
 SL.val ho rfl (fun a w ha _=>by
  subst hi hj
  have hne:¬c=p:=zO
  simp only[execOp,ho.op,Instr.sliceAt,Instr.slice,Option.map]
  simp[ha.eval hx,ha.eval hy,ha.eval hz,Aq hty,Ce hsz,Instr.sliceBounds,Instr.sliceBound,asIntOf,hq,hp,Cf];omega) h
theorem jr{α:Type}{enc:α→List Value}{sz:Nat}{xs us:List α}{k k':IntKind}{i j:Int}{ty e:TypeId}(hn:Im xs i j=some us)(hk:B9 K w0 enc sz v xs)(ho:At ops N l o t (.slice ty x (some y) (some z) none))(hty:P.underlying ty=some (.slice e))(hsz:DH P e=some sz)(hx:Bj l x=some v)(hy:Bj l y=some (.int k i))(hz:Bj l z=some (.int k' j))
(h:∀v',B9 K w0 enc sz v' us→SL P ro K w0 N ops Hs items Q D ((t,v')::l) H):SL P ro K w0 N ops Hs (.cons (tk,o) items) Q D l H:=by
 obtain⟨h1,h2,h3,h4,rfl⟩:=Na hn
 have hi:i=(i.toNat:Int):=zO
 have hj:j=(j.toNat:Int):=zO
 generalize i.toNat=p at*
 generalize j.toNat=q at*
 subst hi hj
 rcases hk.at_ with⟨a0,rfl,rfl⟩ | ⟨b,off,cap,rfl,hcap,hc⟩
 have hq:q=0:=by simpa using h4
 have hp:p=0:=zO
 subst hq hp
 refine SL.val (v:=.slice a0 0 0) ho E (fun a w ha _=>?_) (h _ ⟨hk.len,.inl ⟨_,E,by simp⟩⟩)
 simp only[execOp,ho.op,Instr.sliceAt,Instr.slice,Option.map]
 cases a0<;>simp[ha.eval hx,ha.eval hy,ha.eval hz,Aq hty,Ce hsz,Instr.sliceBounds,Instr.sliceBound,asIntOf]
 have hl:((xs.drop p).take (q-p)).length=q-p:=by simp;omega
 by_cases hpc:p<cap
 refine jn p q ho hty hsz hx hy hz E E h3 zO hpc (h _ ⟨hk.len,.inr ⟨b,off+p*sz,cap-p,by rw[hl],by rw[hl];omega,fun j' u hu=>?_⟩⟩)
 have hc':=(Yn hk.len hcap hc (show p≤xs.length by omega)).at_
 have hpre:((xs.drop p).take (q-p))++((xs.drop p).drop (q-p))=xs.drop p:=List.take_append_drop ..
 have hlen:((xs.take p).flatMap enc).length=p*sz:=by rw[I3 hk.len,List.length_take,Nat.min_eq_left zO]
 have:=hc (p*sz+j') u (by
  rw[←List.take_append_drop p xs,List.flatMap_append,List.getElem?_append_right zO,hlen,Nat.add_sub_cancel_left,←hpre,List.flatMap_append,List.getElem?_append_left (List.getElem?_eq_some_iff.1 hu).1]
  exact hu)
 rw[Nat.add_assoc]
 exact this
 have hpe:p=cap:=zO
 have hqe:q=p:=zO
 subst hqe
 refine SL.val (v:=.slice (some ⟨b,off,none⟩) 0 0) ho E (fun a w ha _=>?_) (h _ ⟨hk.len,.inl ⟨_,E,by simp⟩⟩)
 simp only[execOp,ho.op,Instr.sliceAt,Instr.slice,Option.map]
 simp[ha.eval hx,ha.eval hy,ha.eval hz,Aq hty,Ce hsz,Instr.sliceBounds,Instr.sliceBound,asIntOf,Cf,hpe]
end

section
variable {K:Nat→Prop}{w0:World}{H:List AY}
def Yq(x:Ca):List Value:=[AA x.cx,AA x.cy,vI x.lev,.slice none 0 0,.slice none 0 0]
theorem mH:zC K w0 137 [zN] [] H (fun u M=>u=.agg #[AA 0,AA 0,vI 0,zN,zN]∧M=[]):=by
 refine Td.enter Tryz.func137 rfl rfl ?_
 refine Y ?_
 refine Am E Ii zU fun b0=>?_
 refine V (AH (Y (J E (ID E C3 E (Z E Bg (V ?_))))))
 refine Ax E (fun hc1=>?_) (fun hc1=>absurd hc1 zD)
 refine Y (CB [] E am ak Ii zT E (A8 0 E E E E If E E E zT (V (AL (Ac ?_)))))
 exact Ag (Ie E (CC 0 [AA 0,AA 0,vI 0,zN,zN] NI E E E E)) (Af (M:=[]) ⟨E,E⟩ fun _ h=>h.skip [_])
def f6:Option Int:=some 0
theorem jS{r:Int}(h:f6=some r):zC K w0 102 [zN] [] H (fun u M=>u=.tuple #[.agg #[AA 0,AA 0,vI 0,zN,zN],vI r]∧M=[]):=by
 obtain rfl:=zI h
 refine Td.enter Tryz.func102 rfl rfl ?_
 refine Y ?_
 refine Am E Ii zU fun b0=>?_
 refine U E (V (Y (J E ?_)))
 refine AP 0 gH (Rw (n:=1) (p0:=[]) (r:=true) E (B9.nil zV)) E ?_
 refine U E (V (AH (Y (J E (CY E E (V ?_))))))
 refine Ax E (fun hc1=>absurd hc1 zD) (fun hc1=>?_)
 refine AJ (AI (Y (J E (AP 0 nK mH E (A8 0 E E E E If E E E zT (U E (V (AL ?_))))))))
 exact Ag (D7 E (CC 0 [AA 0,AA 0,vI 0,zN,zN] NI E E E E) E) (Af (M:=[]) ⟨E,E⟩ fun _ h=>h.skip [_])
end

section
variable {K:Nat→Prop}{w0:World}{H:List AY}
def Eh(n:Nat)(T:List UInt32)(p0_1:Bb)(p0_2:A5)(y1:List UInt8×Int)(o2:Ff)(y2:UInt32)(y3:List UInt8):Option (BV×Ff×Bb×A5):=
 (Fr n T p0_1 p0_2 y1.1).bind fun y6=>
 cond (!decide (y6.2.1=0))
 (
  none)
 (
  (DK 4 o2.took [y6.1.page]).bind fun l1=>
  (DK 40 o2.out [(⟨y1.1,y6.1.page,y6.1.tag⟩:BL)]).bind fun l2=>
  some ((⟨y6.1.page,y6.1.tag⟩:BV),{ o2 with out:=l2,took:=l1 },y6.2.2.1,y6.2.2.2))
def G3(n:Nat)(T:List UInt32)(p0_1:Bb)(p0_2:A5)(y1:List UInt8×Int)(nx_f_ref14_keeper_place_l1:Ff×UInt32×List UInt8×Int→Option (BV×Ff×Bb×A5))(o3:Ff)(y4:UInt32)(y5:List UInt8)(a1:Int):Option (BV×Ff×Bb×A5):=
 cond (decide (a1<(o3.had.length:Int)))
 (
  none)
 (
  Eh n T p0_1 p0_2 y1 o3 y4 y5)
def H4(n:Nat)(T:List UInt32)(p0_1:Bb)(p0_2:A5)(y1:List UInt8×Int):Nat→(Ff×UInt32×List UInt8×Int)→Option (BV×Ff×Bb×A5):=CO fun nx x=>G3 n T p0_1 p0_2 y1 nx x.1 x.2.1 x.2.2.1 x.2.2.2
def H3(n:Nat)(T:List UInt32)(p0_1:Bb)(p0_2:A5)(y1:List UInt8×Int)(o1:Ff):Option (BV×Ff×Bb×A5):=
 cond (!decide (o1.err=0))
 (
  none)
 (
  H4 n T p0_1 p0_2 y1 n (o1,0,[],0))
def Eb(n:Nat)(T:List UInt32)(p0:Ff)(p0_1:Bb)(p0_2:A5)(p1:Dc):Option (BV×Ff×Bb×A5):=
 (JH n p1).bind fun y1=>
 cond ((!decide (y1.2=0))&&(decide (p0.err=0)))
 (
  none)
 (
  H3 n T p0_1 p0_2 y1 p0)
theorem Ra{n Al BH CV:Nat}{T:List UInt32}{Ad A0 D8 BY BZ CW Bq Br Bs mB mC:Value}{p0:Ff}{p0_1:Bb}{p0_2:A5}{p1:Dc}{r:BV×Ff×Bb×A5}(h:Eb n T p0 p0_1 p0_2 p1=some r)(hT:JB K w0 2 64 T)(hs1_4:B9 K w0 AW 4 mB p1.rows)(hs1_5:B9 K w0 B0 2 mC p1.kids):zC K w0 138 [vP Al 0,.agg #[vI p1.kind,AA p1.cx,AA p1.cy,vI p1.lev,mB,mC,AA p1.npage,vS p1.ntag]] [AK Al (.cells #[vP BH 0,Ad,A0,D8,vI p0.err,BY] 212),AC 190 3 Ad AU p0.had,AC 190 3 A0 AU p0.out,AC 33 1 D8 BQ p0.took,AC 190 3 BY AU p0.must,AK BH (.cells #[vP CV 0,BZ,AA p0_1.gen,AA p0_1.boot,AV p0_1.num,CW] 153),AC 114 2 BZ AZ p0_1.ring,AC 4 1 CW eB p0_1.taken,AK CV (.cells #[Bq,Br,Bs,AV p0_2.rcnt,vS p0_2.rtag,AA p0_2.rboots,vI p0_2.left,vB p0_2.off] 107),AC 9 1 Bq eS p0_2.blk,AC 9 1 Br eS p0_2.pnd,AC 4 1 Bs eB p0_2.bads] H (fun u M=>∃vs0_0_2 vs0_0_3:Value,u=.agg (B0 r.1).toArray∧M=[AK Al (.cells #[vP BH 0,Ad,vs0_0_2,vs0_0_3,vI r.2.1.err,BY] 212),AC 190 3 Ad AU r.2.1.had,AC 190 3 vs0_0_2 AU r.2.1.out,AC 33 1 vs0_0_3 BQ r.2.1.took,AC 190 3 BY AU r.2.1.must,AK BH (.cells #[vP CV 0,BZ,AA r.2.2.1.gen,AA r.2.2.1.boot,AV r.2.2.1.num,CW] 153),AC 114 2 BZ AZ r.2.2.1.ring,AC 4 1 CW eB r.2.2.1.taken,AK CV (.cells #[Bq,Br,Bs,AV r.2.2.2.rcnt,vS r.2.2.2.rtag,AA r.2.2.2.rboots,vI r.2.2.2.left,vB r.2.2.2.off] 107),AC 9 1 Bq eS r.2.2.2.blk,AC 9 1 Br eS r.2.2.2.pnd,AC 4 1 Bs eB r.2.2.2.bads]):=by
 unfold Eb at h
 refine Td.enter Tryz.func138 rfl rfl ?_
 refine Y ?_
 refine Bc E E zU fun b1=>?_
 refine Am E FE zU fun b2=>?_
 refine V (Y ?_)
 refine AE h fun y1 hy1 h=>?_
 refine As [vI p1.kind,AA p1.cx,AA p1.cy,vI p1.lev,mB,mC,AA p1.npage,vS p1.ntag] E Wz E E (Aj 1 E) (AP 0 nf ((WM hy1 hs1_4 hs1_5 :)) E (J E (Ae E E E (Ae E E E (U E (U E (V ?_)))))))
 refine BB (α:=Ff) (fun x=>H3 n T p0_1 p0_2 y1 x=some r) (fun x=>[(0,vP Al 0),(4,vP b2 0),(5,vS y1.1)]) (fun x=>AK Al (.cells #[vP BH 0,Ad,A0,D8,vI x.err,BY] 212)::AK BH (.cells #[vP CV 0,BZ,AA p0_1.gen,AA p0_1.boot,AV p0_1.num,CW] 153)::AK CV (.cells #[Bq,Br,Bs,AV p0_2.rcnt,vS p0_2.rtag,AA p0_2.rboots,vI p0_2.left,vB p0_2.off] 107)::AC 9 1 Bq eS p0_2.blk::AC 9 1 Br eS p0_2.pnd::AC 4 1 Bs eB p0_2.bads::AC 114 2 BZ AZ p0_1.ring::AC 4 1 CW eB p0_1.taken::AC 190 3 Ad AU x.had::AC 190 3 A0 AU x.out::AC 33 1 D8 BQ x.took::AC 190 3 BY AU x.must::AK b2 (.cells #[AA 0,vS []] 188)::H) ?_ (fun o1 D h=>?_)
 refine Y (J E (Z E BO (J E ?_)))
 refine Cj (c:=decide (p0.err=0)) 18 6 24 E (fun hb k=>?_) (fun hb k=>?_) ?_
 refine J E (AT E E (AF E Xj (AG 2 QT E (Z E Bg (Ai E E E ?_)))))
 exact k.mono tL
 refine AD E (AD E (AD E (AD E (AD E (Ai E E E ?_)))))
 exact k.mono tL
 refine V ?_
 refine AN h E (fun hc1 h=>?_) fun hc1 h=>?_
 cases h
 refine AJ ?_
 exact Ap p0 h tL (BR [2,7,10,11,12,13,8,9,3,4,5,6,0] 14 E E E)
 unfold H3 at h
 try dsimp only
 refine AH (Y (J E (AT E E (AF E Xj (AG 0 QT E (Z E BO (V ?_)))))))
 refine AN h E (fun hc2 h=>?_) fun hc2 h=>?_
 cases h
 refine AJ (AI (AH (Y (J E (AT E E (AF E cr (AG 0 NY E (EL E rZ E E (V (C0 E (AJ (AI ?_))))))))))))
 refine BB (α:=Ff×UInt32×List UInt8) (fun x=>Eh n T p0_1 p0_2 y1 x.1 x.2.1 x.2.2=some r) (fun x=>[(0,vP Al 0),(4,vP b2 0),(5,vS y1.1)]) (fun x=>AK Al (.cells #[vP BH 0,Ad,A0,D8,vI x.1.err,BY] 212)::AK BH (.cells #[vP CV 0,BZ,AA p0_1.gen,AA p0_1.boot,AV p0_1.num,CW] 153)::AK CV (.cells #[Bq,Br,Bs,AV p0_2.rcnt,vS p0_2.rtag,AA p0_2.rboots,vI p0_2.left,vB p0_2.off] 107)::AC 9 1 Bq eS p0_2.blk::AC 9 1 Br eS p0_2.pnd::AC 4 1 Bs eB p0_2.bads::AC 114 2 BZ AZ p0_1.ring::AC 4 1 CW eB p0_1.taken::AC 190 3 Ad AU x.1.had::AC 190 3 A0 AU x.1.out::AC 33 1 D8 BQ x.1.took::AC 190 3 BY AU x.1.must::AK b2 (.cells #[AA x.2.1,vS x.2.2] 188)::H) ?_ (fun x D h=>?_)
 refine Y (U E (V (AQ ?_)))
 refine SX.heap (SX.mono (BG (α:=Nat×Ff×UInt32×List UInt8×Int) (fun x=>H4 n T p0_1 p0_2 y1 x.1 (x.2.1,x.2.2.1,x.2.2.2.1,x.2.2.2.2)=some r) (fun x=>[(0,vP Al 0),(4,vP b2 0),(5,vS y1.1),(8,vI x.2.2.2.2)]) (fun x=>AK Al (.cells #[vP BH 0,Ad,A0,D8,vI x.2.1.err,BY] 212)::AK BH (.cells #[vP CV 0,BZ,AA p0_1.gen,AA p0_1.boot,AV p0_1.num,CW] 153)::AK CV (.cells #[Bq,Br,Bs,AV p0_2.rcnt,vS p0_2.rtag,AA p0_2.rboots,vI p0_2.left,vB p0_2.off] 107)::AC 9 1 Bq eS p0_2.blk::AC 9 1 Br eS p0_2.pnd::AC 4 1 Bs eB p0_2.bads::AC 114 2 BZ AZ p0_1.ring::AC 4 1 CW eB p0_1.taken::AC 190 3 Ad AU x.2.1.had::AC 190 3 A0 AU x.2.1.out::AC 33 1 D8 BQ x.2.1.took::AC 190 3 BY AU x.2.1.must::AK b2 (.cells #[AA x.2.2.1,vS x.2.2.2.1] 188)::H) (fun x=>x.1) (fun x D h=>?_) (n,o1,0,[],0) h) tL) (BR [0,1,2,3,4,5,6,7,8,9,10,11,12] 13 E E E)
 obtain⟨m1,o3,y4,y5,a1⟩:=x
 dsimp only at h
 rcases m1 with _ | m1
 cases (show(none:Option _)=some r from h)
 replace h:G3 n T p0_1 p0_2 y1 (H4 n T p0_1 p0_2 y1 m1) o3 y4 y5 a1=some r:=h
 unfold G3 at h
 try dsimp only
 refine AH (Y (J E (J E (AT E E (AF E kz (AG 0 QU E (DW 8 E KW E E (Z E BA (V ?_)))))))))
 refine AN h E (fun hc4 h=>?_) fun hc4 h=>?_
 cases h
 refine Ay (A6 (Ba (A9 ?_)))
 exact Ap (o3,y4,y5) h tL (BR [0,1,2,3,4,5,6,7,8,9,10,11,12] 13 E E E)
 obtain⟨o2,y2,y3⟩:=x
 dsimp only at h
 unfold Eh at h
 try dsimp only
 refine Y ?_
 refine AE h fun y6 hy6 h=>?_
 refine J E (AT E E (AF E cr (AG 0 NY E (J E (SL.pick [1,6,7,2,3,4,5,0] 8 (AP 7 ng (Rx hy6 hT) E (J E ?_)))))))
 refine Ae E E E (Ae E E E ?_)
 refine Am E FE zU fun b3=>?_
 refine A8 0 E E E E EX E E E zT (U E (V (AH (Y (J E (Z E BO (V ?_)))))))
 refine AN h E (fun hc5 h=>?_) fun hc5 h=>?_
 cases h
 refine AJ (AI (AH ?_))
 refine AE h fun l1 hl1 h=>?_
 refine Aw DG [0,8] (CM [(true,0),(true,1),(true,2),(true,3),(true,4),(true,5),(true,6),(false,7),(false,8),(true,9),(true,10)] (.last 11 .nil)) zK (J E (J E (AT E E (AF E ct (AG 1 fO E (AF E FX (AG 0 A7 E ?_)))))))
 refine CD [_] rfl CU Bk H8 ⟨rfl,trivial⟩ rfl rfl rfl zW rfl rfl (fun _=>⟨⟨1,rfl⟩,⟨9,rfl⟩,trivial⟩) fun b4=>?_
 refine CF BQ 1 ([y6.1.page]:List UInt32) E zV E ?_
 refine Cr 12 hl1 (sz:=1) (enc:=BQ) zV E CU Bk QE H8 E zD E E E E (CH (sz:=1) (enc:=BQ) 0 zV E) (by simp[BQ,Value.oneCell']) (fun _=>⟨⟨1,E⟩,⟨9,E⟩,zT⟩) fun v1=>?_
 refine AT E E (AF E ct (Bh ?_))
 refine C1 12 E fun hv1 ho1=>?_
 refine Du 9 E E E E fT hv1 ho1 E zT (V (AH ?_))
 refine AE h fun l2 hl2 h=>?_
 refine Aw DG [1,9] (CM [(true,0),(true,1),(true,2),(true,3),(true,4),(true,5),(true,6),(true,7),(false,8),(false,9),(true,10),(true,11)] (.last 12 .nil)) zK (J E (J E (AT E E (AF E Xi (AG 1 QU E (J E (As [AA y6.1.page,vS y6.1.tag] E DD E E (Aj 0 E) ?_)))))))
 refine CB [_,_] E lJ lH PM ⟨E,E,zT⟩ E ?_
 refine CD [_] rfl KW KV PM ⟨rfl,trivial⟩ rfl rfl rfl zW rfl rfl (fun _=>⟨⟨2,rfl⟩,⟨10,rfl⟩,trivial⟩) fun b5=>?_
 refine CF AU 3 ([(⟨y1.1,y6.1.page,y6.1.tag⟩:BL)]:List BL) E zV E ?_
 refine Cr 12 hl2 (sz:=3) (enc:=AU) zV E KW KV kD PM E zD E E E E (CH (sz:=3) (enc:=AU) 0 zV E) (by simp[AU,Value.oneCell']) (fun _=>⟨⟨2,E⟩,⟨10,E⟩,zT⟩) fun v2=>?_
 refine AT E E (AF E Xi (Bh ?_))
 refine C1 12 E fun hv2 ho2=>?_
 refine Du 10 E E E E lm hv2 ho2 E zT (V (Y (As [AA y6.1.page,vS y6.1.tag] E DD E E (Aj 2 E) (A8 15 E E E E EX E E E zT (V (AL ?_))))))
 obtain rfl:=zI h
 exact Ag (Ie E (CC 15 (B0 (⟨y6.1.page,y6.1.tag⟩:BV)) DD E E E E)) (Af (M:=[_,_,_,_,_,_,_,_,_,_,_,_]) ⟨v2,v1,E,E⟩ fun _ hw=>BW.pick (H:=[_,_,_,_,_,_,_,_,_,_,_,_,_,_,_,_]) hw [10,11,12,13,14,3,4,5,6,7,8,9] 16 E)
def IR(o4:Ff)(o5:Bb)(o6:A5)(y3:UInt32)(y4:List UInt8):Option (BV×Ff×Bb×A5):=
 some ((⟨y3,y4⟩:BV),o4,o5,o6)
def EP(n:Nat)(T:List UInt32)(nx_f_ref14_keeper_node_l1:Ff×Bb×A5×UInt32×List UInt8×Int→Option (BV×Ff×Bb×A5))(o7:Ff)(o8:Bb)(o9:A5)(y5:UInt32)(y6:List UInt8)(a1:Int):Option (BV×Ff×Bb×A5):=
 cond (decide (0≤a1))
 (
  (Im [] a1 (min 0 (wI (a1+4)))).bind fun l1=>
  (Eb n T o7 o8 o9 (⟨1,0,0,0,l1,[],y5,y6⟩:Dc)).bind fun y7=>
  ret (wI (a1-4)) fun x2=>
  nx_f_ref14_keeper_node_l1 (y7.2.1,y7.2.2.1,y7.2.2.2,y7.1.page,y7.1.tag,x2))
 (
  IR o7 o8 o9 y5 y6)
def F2(n:Nat)(T:List UInt32):Nat→(Ff×Bb×A5×UInt32×List UInt8×Int)→Option (BV×Ff×Bb×A5):=CO fun nx x=>EP n T nx x.1 x.2.1 x.2.2.1 x.2.2.2.1 x.2.2.2.2.1 x.2.2.2.2.2
def IQ(n:Nat)(T:List UInt32)(o1:Ff)(o2:Bb)(o3:A5)(y1:UInt32)(y2:List UInt8):Option (BV×Ff×Bb×A5):=
 (Uv (wI ((max 0 1)-1)) 4).bind fun q1=>
 ret (wI (q1*4)) fun x1=>
 F2 n T n (o1,o2,o3,0,[],x1)
def Fs(n:Nat)(T:List UInt32)(p0:Ff)(p0_1:Bb)(p0_2:A5):Option (BV×Ff×Bb×A5):=
 cond (decide (0<0))
 (
  none)
 (
  IQ n T p0 p0_1 p0_2 0 [])
theorem Ry{n Al BH CV:Nat}{T:List UInt32}{Ad A0 D8 BY BZ CW Bq Br Bs:Value}{p0:Ff}{p0_1:Bb}{p0_2:A5}{r:BV×Ff×Bb×A5}(h:Fs n T p0 p0_1 p0_2=some r)(hT:JB K w0 2 64 T):zC K w0 103 [vP Al 0,.agg #[AA 0,AA 0,vI 0,zN,zN]] [AK Al (.cells #[vP BH 0,Ad,A0,D8,vI p0.err,BY] 212),AC 190 3 Ad AU p0.had,AC 190 3 A0 AU p0.out,AC 33 1 D8 BQ p0.took,AC 190 3 BY AU p0.must,AK BH (.cells #[vP CV 0,BZ,AA p0_1.gen,AA p0_1.boot,AV p0_1.num,CW] 153),AC 114 2 BZ AZ p0_1.ring,AC 4 1 CW eB p0_1.taken,AK CV (.cells #[Bq,Br,Bs,AV p0_2.rcnt,vS p0_2.rtag,AA p0_2.rboots,vI p0_2.left,vB p0_2.off] 107),AC 9 1 Bq eS p0_2.blk,AC 9 1 Br eS p0_2.pnd,AC 4 1 Bs eB p0_2.bads] H (fun u M=>∃vs0_0_2 vs0_0_3:Value,u=.agg (B0 r.1).toArray∧M=[AK Al (.cells #[vP BH 0,Ad,vs0_0_2,vs0_0_3,vI r.2.1.err,BY] 212),AC 190 3 Ad AU r.2.1.had,AC 190 3 vs0_0_2 AU r.2.1.out,AC 33 1 vs0_0_3 BQ r.2.1.took,AC 190 3 BY AU r.2.1.must,AK BH (.cells #[vP CV 0,BZ,AA r.2.2.1.gen,AA r.2.2.1.boot,AV r.2.2.1.num,CW] 153),AC 114 2 BZ AZ r.2.2.1.ring,AC 4 1 CW eB r.2.2.1.taken,AK CV (.cells #[Bq,Br,Bs,AV r.2.2.2.rcnt,vS r.2.2.2.rtag,AA r.2.2.2.rboots,vI r.2.2.2.left,vB r.2.2.2.off] 107),AC 9 1 Bq eS r.2.2.2.blk,AC 9 1 Br eS r.2.2.2.pnd,AC 4 1 Bs eB r.2.2.2.bads]):=by
 unfold Fs at h
 refine Td.enter Tryz.func103 rfl rfl ?_
 refine Y ?_
 refine Bc E E zU fun b1=>?_
 refine Am E FE zU fun b2=>?_
 refine V ?_
 refine BB (α:=Ff×Bb×A5×Value×Value×UInt32×List UInt8) (fun x=>IQ n T x.1 x.2.1 x.2.2.1 x.2.2.2.2.2.1 x.2.2.2.2.2.2=some r) (fun x=>[(0,vP Al 0),(3,vP b1 0),(4,vP b2 0)]) (fun x=>AK Al (.cells #[vP BH 0,Ad,x.2.2.2.1,x.2.2.2.2.1,vI x.1.err,BY] 212)::AK BH (.cells #[vP CV 0,BZ,AA x.2.1.gen,AA x.2.1.boot,AV x.2.1.num,CW] 153)::AK CV (.cells #[Bq,Br,Bs,AV x.2.2.1.rcnt,vS x.2.2.1.rtag,AA x.2.2.1.rboots,vI x.2.2.1.left,vB x.2.2.1.off] 107)::AC 9 1 Bq eS x.2.2.1.blk::AC 9 1 Br eS x.2.2.1.pnd::AC 4 1 Bs eB x.2.2.1.bads::AC 114 2 BZ AZ x.2.1.ring::AC 4 1 CW eB x.2.1.taken::AC 190 3 Ad AU x.1.had::AC 190 3 x.2.2.2.1 AU x.1.out::AC 33 1 x.2.2.2.2.1 BQ x.1.took::AC 190 3 BY AU x.1.must::AK b1 (.cells #[AA 0,AA 0,vI 0,zN,zN] 167)::AK b2 (.cells #[AA x.2.2.2.2.2.1,vS x.2.2.2.2.2.2] 188)::H) ?_ (fun x D h=>?_)
 refine Y (AF E KL (AG 1 T5 E (ID E OD E (Z E Cq (V ?_)))))
 refine AN h E (fun hc1 h=>?_) fun hc1 h=>?_
 cases h
 refine AJ ?_
 exact Ap (p0,p0_1,p0_2,A0,D8,0,[]) h tL (BR [2,7,10,11,12,13,8,9,3,4,5,6,1,0] 14 E E E)
 obtain⟨o1,o2,o3,v1,v2,y1,y2⟩:=x
 dsimp only at h
 unfold IQ at h
 try dsimp only
 refine Y (CB [] E OC OB FE zT E ?_)
 refine Am E FE zU fun b3=>?_
 refine A8 0 E E E E EX E E E zT (V ?_)
 refine BB (α:=Ff×Bb×A5×Value×Value×UInt32×List UInt8) (fun x=>IR x.1 x.2.1 x.2.2.1 x.2.2.2.2.2.1 x.2.2.2.2.2.2=some r) (fun x=>[(0,vP Al 0),(4,vP b2 0),(7,vP b3 0)]) (fun x=>AK Al (.cells #[vP BH 0,Ad,x.2.2.2.1,x.2.2.2.2.1,vI x.1.err,BY] 212)::AK BH (.cells #[vP CV 0,BZ,AA x.2.1.gen,AA x.2.1.boot,AV x.2.1.num,CW] 153)::AK CV (.cells #[Bq,Br,Bs,AV x.2.2.1.rcnt,vS x.2.2.1.rtag,AA x.2.2.1.rboots,vI x.2.2.1.left,vB x.2.2.1.off] 107)::AC 9 1 Bq eS x.2.2.1.blk::AC 9 1 Br eS x.2.2.1.pnd::AC 4 1 Bs eB x.2.2.1.bads::AC 114 2 BZ AZ x.2.1.ring::AC 4 1 CW eB x.2.1.taken::AC 190 3 Ad AU x.1.had::AC 190 3 x.2.2.2.1 AU x.1.out::AC 33 1 x.2.2.2.2.1 BQ x.1.took::AC 190 3 BY AU x.1.must::AK b2 (.cells #[AA y1,vS y2] 188)::AK b3 (.cells #[AA x.2.2.2.2.2.1,vS x.2.2.2.2.2.2] 188)::H) ?_ (fun x D h=>?_)
 refine Y ?_
 refine AE h fun q1 hq1 h=>?_
 obtain⟨x1,ex1,h⟩:=Bz h
 refine AF E SM (AG 13 FY E (ID E C3 E (bu E E E (Z E Dm (Z E (U6 hq1) (Z E ME ?_))))))
 refine Ak (u:=vI x1) E E (congrArg vI ex1) ?_
 refine V (AQ ?_)
 refine SX.heap (SX.mono (BG (α:=Nat×Ff×Bb×A5×Value×Value×UInt32×List UInt8×Int) (fun x=>F2 n T x.1 (x.2.1,x.2.2.1,x.2.2.2.1,x.2.2.2.2.2.2.1,x.2.2.2.2.2.2.2.1,x.2.2.2.2.2.2.2.2)=some r) (fun x=>[(0,vP Al 0),(3,vP b1 0),(4,vP b2 0),(7,vP b3 0),(8,vI x.2.2.2.2.2.2.2.2)]) (fun x=>AK Al (.cells #[vP BH 0,Ad,x.2.2.2.2.1,x.2.2.2.2.2.1,vI x.2.1.err,BY] 212)::AK BH (.cells #[vP CV 0,BZ,AA x.2.2.1.gen,AA x.2.2.1.boot,AV x.2.2.1.num,CW] 153)::AK CV (.cells #[Bq,Br,Bs,AV x.2.2.2.1.rcnt,vS x.2.2.2.1.rtag,AA x.2.2.2.1.rboots,vI x.2.2.2.1.left,vB x.2.2.2.1.off] 107)::AC 9 1 Bq eS x.2.2.2.1.blk::AC 9 1 Br eS x.2.2.2.1.pnd::AC 4 1 Bs eB x.2.2.2.1.bads::AC 114 2 BZ AZ x.2.2.1.ring::AC 4 1 CW eB x.2.2.1.taken::AC 190 3 Ad AU x.2.1.had::AC 190 3 x.2.2.2.2.1 AU x.2.1.out::AC 33 1 x.2.2.2.2.2.1 BQ x.2.1.took::AC 190 3 BY AU x.2.1.must::AK b1 (.cells #[AA 0,AA 0,vI 0,zN,zN] 167)::AK b2 (.cells #[AA y1,vS y2] 188)::AK b3 (.cells #[AA x.2.2.2.2.2.2.1,vS x.2.2.2.2.2.2.2.1] 188)::H) (fun x=>x.1) (fun x D h=>?_) (n,o1,o2,o3,v1,v2,0,[],x1) h) tL) (BR [1,2,3,4,5,6,7,8,9,10,11,12,13,14,0] 15 E E E)
 obtain⟨m1,o7,o8,o9,v5,v6,y5,y6,a1⟩:=x
 dsimp only at h
 rcases m1 with _ | m1
 cases (show(none:Option _)=some r from h)
 replace h:EP n T (F2 n T m1) o7 o8 o9 y5 y6 a1=some r:=h
 unfold EP at h
 try dsimp only
 refine AH (Y (J E (Z E LH (V ?_))))
 refine AN h E (fun hc2 h=>?_) fun hc2 h=>?_
 refine AJ (AI (AH (AQ ?_)))
 refine AE h fun l1 hl1 h=>?_
 refine AE h fun y7 hy7 h=>?_
 refine Aw DG [12,14] (CM [(true,0),(true,1),(true,2),(true,3),(true,4),(true,5),(true,6),(true,7),(true,8),(true,9),(true,10),(true,11),(true,12)] (.last 13 (C4 [(false,14)]))) zK (J E (AF E SM (AG 0 FY E (J E (AF E SM (AG 0 FY E (ID E C3 E ?_)))))))
 refine J E (Z E Bf (Ws E E E ?_))
 refine jr hl1 (B9.nil (enc:=AW) (sz:=4) zV) E C3 Dh E E E fun v7 hs1=>?_
 refine As [AA y5,vS y6] E DD E E (Aj 1 E) ?_
 refine QB hs1 fun hv1 ho1=>?_
 refine Rk [vI 1,v7,.agg #[AA y5,vS y6]] [#[vI 1],#[v7],#[AA y5,vS y6]] (by simp only[List.map_cons,List.map_nil,hv1];rfl) E fA e9 bT ⟨E,E,E,zT⟩ E (Bh (SL.pick [0,8,9,10,11,1,6,7,2,3,4,5] 12 ?_))
 refine BS 12 nL ((Ra hy7 hT hs1 (B9.nil zV) :)) E ?_
 rintro _ _ ⟨v8,v9,rfl,rfl⟩
 refine A8 14 E E E E EX E E E zT (Aa (An (AI (AS ?_))))
 obtain⟨x2,ex2,h⟩:=Bz h
 refine J E (Z E Dm ?_)
 refine Ak (u:=vI x2) E E (congrArg vI ex2) ?_
 refine Aa ?_
 exact Av (m1,y7.2.1,y7.2.2.1,y7.2.2.2,v8,v9,y7.1.page,y7.1.tag,x2) h (Nat.lt_succ_self _) tL (BR [0,5,8,9,10,11,6,7,1,2,3,4,12,13,14] 15 E E E)
 refine Ay (A6 (Ba (A9 ?_)))
 exact Ap (o7,o8,o9,v5,v6,y5,y6) h tL (BR [0,1,2,3,4,5,6,7,8,9,10,11,13,14] 15 E E E)
 obtain⟨o4,o5,o6,v3,v4,y3,y4⟩:=x
 dsimp only at h
 unfold IR at h
 try dsimp only
 refine Y (As [AA y3,vS y4] E DD E E (Aj 13 E) (A8 12 E E E E EX E E E zT (V (AL ?_))))
 obtain rfl:=zI h
 exact Ag (Ie E (CC 12 (B0 (⟨y3,y4⟩:BV)) DD E E E E)) (Af (M:=[_,_,_,_,_,_,_,_,_,_,_,_]) ⟨v3,v4,E,E⟩ fun _ hw=>BW.pick (H:=[_,_,_,_,_,_,_,_,_,_,_,_,_,_]) hw [0,8,9,10,11,1,6,7,2,3,4,5] 14 E)
def NR(y2:BV×Ff×Bb×A5)(o1:Bb):Option (List BL×Int×Bb×A5):=
 some (y2.2.1.out,0,o1,y2.2.2.2)
def LR(n:Nat)(T:List UInt32)(p0:Bb)(p0_1:A5):Option (List BL×Int×Bb×A5):=
 (f6).bind fun y1=>
 cond (!decide (y1=0))
 (
  none)
 (
  (Fs n T ({ had:=[],out:=[],took:=[],err:=0,must:=[] }:Ff) p0 p0_1).bind fun y2=>
  cond (!decide (y2.2.1.err=0))
  (
   none)
  (
   NR y2 y2.2.2.1))
theorem YW{n Al BH:Nat}{T:List UInt32}{Ad BY Dj BZ Dk:Value}{p0:Bb}{p0_1:A5}{r:List BL×Int×Bb×A5}(h:LR n T p0 p0_1=some r)(hT:JB K w0 2 64 T):zC K w0 72 [vP Al 0,zN,zN] [AK Al (.cells #[vP BH 0,Ad,AA p0.gen,AA p0.boot,AV p0.num,BY] 153),AC 114 2 Ad AZ p0.ring,AC 4 1 BY eB p0.taken,AK BH (.cells #[Dj,BZ,Dk,AV p0_1.rcnt,vS p0_1.rtag,AA p0_1.rboots,vI p0_1.left,vB p0_1.off] 107),AC 9 1 Dj eS p0_1.blk,AC 9 1 BZ eS p0_1.pnd,AC 4 1 Dk eB p0_1.bads] H (fun u M=>∃v0:Value,u=.tuple #[v0,vI r.2.1]∧M=[AC 190 3 v0 AU r.1,AK Al (.cells #[vP BH 0,Ad,AA r.2.2.1.gen,AA r.2.2.1.boot,AV r.2.2.1.num,BY] 153),AC 114 2 Ad AZ r.2.2.1.ring,AC 4 1 BY eB r.2.2.1.taken,AK BH (.cells #[Dj,BZ,Dk,AV r.2.2.2.rcnt,vS r.2.2.2.rtag,AA r.2.2.2.rboots,vI r.2.2.2.left,vB r.2.2.2.off] 107),AC 9 1 Dj eS r.2.2.2.blk,AC 9 1 BZ eS r.2.2.2.pnd,AC 4 1 Dk eB r.2.2.2.bads]):=by
 unfold LR at h
 refine Td.enter Tryz.func72 rfl rfl ?_
 refine Y (B8 190 3 AU (U E (U E (V (Y ?_)))))
 refine AE h fun y1 hy1 h=>?_
 refine J E (AP 0 ms (jS hy1) E (J E (Ae E E E (Ae E E E ?_))))
 refine Am E Ii zU fun b1=>?_
 refine B8 35 4 AW (B8 167 5 Yq (A8 2 E E E E If E E E zT (B8 35 4 AW (B8 167 5 Yq (U E (V (AH (Y (J E (Z E BO (V ?_)))))))))))
 refine AN h E (fun hc1 h=>?_) fun hc1 h=>?_
 cases h
 refine AJ (AI (Y (J E (J E (CB [_,_] E rH qw r6 ⟨E,E,zT⟩ E ?_)))))
 refine Bc E E zU fun b2=>?_
 refine B8 190 3 AU (B8 190 3 AU (B8 33 1 BQ (B8 190 3 AU (U E (V (Y ?_))))))
 refine AE h fun y2 hy2 h=>?_
 refine J E (As [AA 0,AA 0,vI 0,zN,zN] E NI E E (Aj 9 E) (SL.pick [4,3,2,1,0,11,12,13,14,15,16,17,5,6,7,8,9,10] 18 (BS 12 mu ((Ry hy2 hT :)) E ?_)))
 rintro _ _ ⟨v1,v2,rfl,rfl⟩
 refine V ?_
 refine BB (α:=Bb) (fun x=>NR y2 x=some r) (fun x=>[(0,vP Al 0),(10,vP b2 0)]) (fun x=>AK Al (.cells #[vP BH 0,Ad,AA x.gen,AA x.boot,AV x.num,BY] 153)::AK BH (.cells #[Dj,BZ,Dk,AV y2.2.2.2.rcnt,vS y2.2.2.2.rtag,AA y2.2.2.2.rboots,vI y2.2.2.2.left,vB y2.2.2.2.off] 107)::AC 9 1 Dj eS y2.2.2.2.blk::AC 9 1 BZ eS y2.2.2.2.pnd::AC 4 1 Dk eB y2.2.2.2.bads::AC 114 2 Ad AZ x.ring::AC 4 1 BY eB x.taken::AK b2 (.cells #[vP Al 0,zN,v1,v2,vI y2.2.1.err,zN] 212)::AC 190 3 zN AU y2.2.1.had::AC 190 3 v1 AU y2.2.1.out::AC 33 1 v2 BQ y2.2.1.took::AC 190 3 zN AU y2.2.1.must::H) ?_ (fun o1 D h=>?_)
 refine Y (J E (AT E E (AF E Xj (AG 0 QT E (Z E BO (V ?_))))))
 refine AN h E (fun hc2 h=>?_) fun hc2 h=>?_
 cases h
 refine AJ ?_
 exact Ap y2.2.2.1 h tL (BR [5,8,9,10,11,6,7,0,1,2,3,4] 18 E E E)
 unfold NR at h
 try dsimp only
 refine Y (J E (AT E E (AF E Xi (AG 7 QU E (U E (U E (V (AL ?_))))))))
 obtain rfl:=zI h
 exact Bi [9,0,5,6,1,2,3,4] 12 (ER E E E) E E ⟨v1,E,E⟩
end

section
variable {K:Nat→Prop}{w0:World}{H:List AY}
def Ni(p0:A5):Option Bool:=
 ret (decide (p0.rcnt=18446744073709551615)) fun x1=>
 some x1
theorem YX{Al:Nat}{Au Ad A0:Value}{p0:A5}{r:Bool}(h:Ni p0=some r): zC K w0 47 [vP Al 0] [AK Al (.cells #[Au,Ad,A0,AV p0.rcnt,vS p0.rtag,AA p0.rboots,vI p0.left,vB p0.off] 107),AC 9 1 Au eS p0.blk,AC 9 1 Ad eS p0.pnd,AC 4 1 A0 eB p0.bads] H (fun u M=>u=vB r∧M=[AK Al (.cells #[Au,Ad,A0,AV p0.rcnt,vS p0.rtag,AA p0.rboots,vI p0.left,vB p0.off] 107),AC 9 1 Au eS p0.blk,AC 9 1 Ad eS p0.pnd,AC 4 1 A0 eB p0.bads]):=by
 unfold Ni at h
 refine Td.enter Tryz.func47 rfl rfl ?_
 refine Y (U E (V (Y ?_)))
 obtain⟨x1,ex1,h⟩:=Bz h
 refine J E (AT E E (AF E LV (AF E Pd (AG 0 G7 E ?_))))
 refine Z E (MD (b:=18446744073709551615)) ?_
 refine Ak (u:=vB x1) E E (congrArg vB ex1) ?_
 refine V (AL ?_)
 obtain rfl:=zI h
 exact AX [0,1,2,3] 4 E E E
def Mr:Option Int:=
 some (-1)
def LC(p0:List BL)(nx_f_ref16_place_l1:Int→Option Int)(a1:Int):Option Int:=
 cond (decide (a1<(p0.length:Int)))
 (
  none)
 (
  Mr)
def Ms(p0:List BL):Nat→Int→Option Int:=CO fun nx x=>LC p0 nx x
def O0(n:Nat)(p0:List BL)(p1:UInt32):Option Int:=
 Ms p0 n 0
theorem XL{n:Nat}{DB:Value}{p0:List BL}{p1:UInt32}{r:Int}(h:O0 n p0 p1=some r)(hs0_:B9 K w0 AU 3 DB p0):zC K w0 110 [DB,AA p1] [] H (fun u M=>u=vI r∧M=[]):=by
 unfold O0 at h
 refine Td.enter Tryz.func110 rfl rfl ?_
 refine Y (U E (V ?_))
 refine BB (α:=Unit) (fun x=>Mr=some r) (fun x=>[]) (fun x=>H) ?_ (fun x D h=>?_)
 refine Y (U E (V (AQ ?_)))
 refine SX.heap (SX.mono (BG (α:=Nat×Int) (fun x=>Ms p0 x.1 x.2=some r) (fun x=>[(0,DB),(1,AA p1),(5,vI x.2)]) (fun x=>H) (fun x=>x.1) (fun x D h=>?_) (n,0) h) tL) (BR [] 0 E E E)
 obtain⟨m1,a1⟩:=x
 dsimp only at h
 rcases m1 with _ | m1
 cases (show(none:Option _)=some r from h)
 replace h:LC p0 (Ms p0 m1) a1=some r:=h
 unfold LC at h
 try dsimp only
 refine AH (Y (J E (J E (B2 hs0_ E KW E (Z E BA (V ?_))))))
 refine AN h E (fun hc1 h=>?_) fun hc1 h=>?_
 cases h
 refine Ay (A6 (Ba (A9 ?_)))
 exact Ap () h tL (BR [] 0 E E E)
 unfold Mr at h
 try dsimp only
 refine Y (U E (V (AL ?_)))
 obtain rfl:=zI h
 exact AX [] 0 E E E
def EH(n:Nat)(T:List UInt32)(p0:Dy)(p0_1:Bb)(p0_2:A5)(p2:List BL):Option (Int×Bb×A5):=
 (EZ n p0_2).bind fun y1=>
 cond (!decide (y1.1=0))
 (
  none)
 (
  (BE p2 (wI ((p2.length:Int)-1))).bind fun x1=>
  (LS y1.2.rcnt p0_1.gen 0 (⟨x1.page,x1.tag⟩:BV)).bind fun y2=>
  cond (!decide (y2.2=0))
  (
   none)
  (
   (JI n y2.1).bind fun y3=>
   (VU y2.1.cnt 2).bind fun q1=>
   (Ho n T p0_1 y1.2 q1.toUInt32 y3.1).bind fun y4=>
   cond (!decide (y4.2.1=0))
   (
    none)
   (
    (EZ n y4.2.2.2).bind fun y5=>
    cond (!decide (y5.1=0))
    (
     none)
    (
     (Ew y5.2 y4.1).bind fun y6=>
     some (y6.1,y4.2.2.1,y6.2)))))
theorem Ql{n Al BH CV:Nat}{T:List UInt32}{Ad A0 D8 BZ CW Bq Br Bs GP:Value}{p0:Dy}{p0_1:Bb}{p0_2:A5}{p2:List BL}{r:Int×Bb×A5}(h:EH n T p0 p0_1 p0_2 p2=some r)(hT:JB K w0 2 64 T)(hs2_:B9 K w0 AU 3 GP p2):zC K w0 73 [vP Al 0,zN,GP] [AK Al (.cells #[vP BH 0,Ad,A0,D8,vB p0.bad] 122),AC 35 4 Ad AW p0.rows,AC 190 3 A0 AU p0.had,AC 33 1 D8 BQ p0.gens,AK BH (.cells #[vP CV 0,BZ,AA p0_1.gen,AA p0_1.boot,AV p0_1.num,CW] 153),AC 114 2 BZ AZ p0_1.ring,AC 4 1 CW eB p0_1.taken,AK CV (.cells #[Bq,Br,Bs,AV p0_2.rcnt,vS p0_2.rtag,AA p0_2.rboots,vI p0_2.left,vB p0_2.off] 107),AC 9 1 Bq eS p0_2.blk,AC 9 1 Br eS p0_2.pnd,AC 4 1 Bs eB p0_2.bads] H (fun u M=>u=vI r.1∧M=[AK Al (.cells #[vP BH 0,Ad,A0,D8,vB p0.bad] 122),AC 35 4 Ad AW p0.rows,AC 190 3 A0 AU p0.had,AC 33 1 D8 BQ p0.gens,AK BH (.cells #[vP CV 0,BZ,AA r.2.1.gen,AA r.2.1.boot,AV r.2.1.num,CW] 153),AC 114 2 BZ AZ r.2.1.ring,AC 4 1 CW eB r.2.1.taken,AK CV (.cells #[Bq,Br,Bs,AV r.2.2.rcnt,vS r.2.2.rtag,AA r.2.2.rboots,vI r.2.2.left,vB r.2.2.off] 107),AC 9 1 Bq eS r.2.2.blk,AC 9 1 Br eS r.2.2.pnd,AC 4 1 Bs eB r.2.2.bads]):=by
 unfold EH at h
 refine Td.enter Tryz.func73 rfl rfl ?_
 refine Y (U E (V (Y ?_)))
 refine AE h fun y1 hy1 h=>?_
 refine J E (AT E E (AF E KK (AG 0 NY E (AT E E (AF E O4 (AG 4 X7 E (SL.pick [7,8,9,10,0,1,2,3,4,5,6] 11 ?_)))))))
 refine AP 4 Z3 (Jf hy1) E (U E (V (AH (Y (J E (Z E BO (V ?_)))))))
 refine AN h E (fun hc1 h=>?_) fun hc1 h=>?_
 cases h
 refine AJ (AI (AH ?_))
 refine AE h fun x1 hx1 h=>?_
 refine AE h fun y2 hy2 h=>?_
 refine Aw DG [0,4,8] (CM [(true,0),(true,1),(true,2),(true,3),(true,4),(true,5),(true,6),(true,7),(true,8),(true,9),(true,10),(true,11),(true,12),(true,13),(true,14),(true,15),(true,16),(true,17),(true,18),(true,19),(true,20),(true,21),(true,22),(true,23),(true,24),(true,25),(true,26)] (.alt 27 (CM [(true,28),(true,29),(true,30),(false,31),(false,32)] (.last 33 .nil)) (.cons (false,31) (CM [(false,27),(true,28),(true,29),(true,30),(false,32)] (.last 33 .nil))))) zK (J E (AT E E (AF E KK (AG 1 NY E (AT E E (AF E O4 (AG 2 X7 E ?_)))))))
 refine AT E E (AF E LV (AF E Pd (AG 0 G7 E (J E (AT E E (AF E KK (AG 1 NY E ?_)))))))
 refine AT E E (AF E Xe (AG 2 A7 E (J E (ID E C3 E (J E (J E (B2 hs2_ E KW E ?_)))))))
 refine Z E Dm ?_
 refine C9 hx1 hs2_ E KW KV E E fun be1 of1 hc2=>?_
 refine AF E KM ?_
 refine As [AA x1.page,vS x1.tag] E DD E E (XU (d:=1) hc2 E) ?_
 refine Qd ?_ ?_
 refine BU 0 f7 ((TR hy2 :)) E ⟨⟨0,E⟩,⟨4,E⟩,⟨8,E⟩,zT⟩ (J E (Ae E E E (Ae E E E ?_)))
 refine Am E LG (fun _=>⟨⟨1,E⟩,⟨5,E⟩,⟨9,E⟩,zT⟩) fun b1=>?_
 refine A8 0 E E E E M3 E E E ⟨⟨1,E⟩,⟨5,E⟩,⟨9,E⟩,zT⟩ (Bh (U E (V (AH (Y (J E (Z E BO (V ?_))))))))
 refine AN h E (fun hc3 h=>?_) fun hc3 h=>?_
 cases h
 refine AJ (AI (Y ?_))
 refine AE h fun y3 hy3 h=>?_
 refine As [AV y2.1.cnt,AA y2.1.gen,AA y2.1.rows,AA y2.1.page,vS y2.1.tag] E Io E E (Aj 0 E) (AP 0 f8 ((RP hy3 :)) E (J E (Ae E E E (Ae E E E (U E (U E (V (AH ?_))))))))
 refine AE h fun q1 hq1 h=>?_
 refine AE h fun y4 hy4 h=>?_
 refine Aw DG [0,5] (CM [(true,0),(true,1),(true,2),(true,3),(true,4),(true,5),(true,6),(true,7),(true,8),(false,9),(false,10),(true,11),(true,12),(false,13)] (.last 14 .nil)) zK (J E (AT E E (AF E KK (AG 1 NY E (AF E LW (AG 0 G7 E ?_))))))
 refine Z E (PQ (b:=2) hq1) ?_
 refine BF E E (NG DL CP) (J E (SL.pick [9,10,11,1,2,3,4,0,5,6,7,8] 12 (BU 7 f9 (Np hy4 hT) E ⟨⟨7,E⟩,⟨8,E⟩,zT⟩ (J E (Ae E E E (Ae E E E (U E (Bh ?_))))))))
 refine U E (V (AH (Y (J E (Z E BO (V ?_))))))
 refine AN h E (fun hc4 h=>?_) fun hc4 h=>?_
 cases h
 refine AJ (AI (Y ?_))
 refine AE h fun y5 hy5 h=>?_
 refine J E (AT E E (AF E KK (AG 8 NY E (AT E E (AF E O4 (AG 0 X7 E (SL.pick [3,4,5,6,0,1,2] 7 ?_)))))))
 refine AP 4 Z3 (Jf hy5) E (U E (V (AH (Y (J E (Z E BO (V ?_)))))))
 refine AN h E (fun hc5 h=>?_) fun hc5 h=>?_
 cases h
 refine AJ (AI (Y ?_))
 refine AE h fun y6 hy6 h=>?_
 refine J E (AT E E (AF E KK (AG 8 NY E (AT E E (AF E O4 (AG 4 X7 E (J E ?_)))))))
 refine AP 4 gA (MJ hy6) E (U E (V (AL ?_)))
 obtain rfl:=zI h
 exact AX [8,9,10,11,4,5,6,0,1,2,3] 12 E E E
 refine Am E LG (fun _=>⟨⟨1,E⟩,⟨5,E⟩,⟨9,E⟩,zT⟩) fun b1=>?_
 refine BU 0 f7 ((TR hy2 :)) E ⟨⟨1,E⟩,⟨5,E⟩,⟨9,E⟩,zT⟩ (J E (Ae E E E (Ae E E E (A8 0 E E E E M3 E E E ⟨⟨1,E⟩,⟨5,E⟩,⟨9,E⟩,zT⟩ (Bh (U E (V (AH (Y (J E (Z E BO (V ?_))))))))))))
 refine AN h E (fun hc3 h=>?_) fun hc3 h=>?_
 cases h
 refine AJ (AI (Y ?_))
 refine AE h fun y3 hy3 h=>?_
 refine As [AV y2.1.cnt,AA y2.1.gen,AA y2.1.rows,AA y2.1.page,vS y2.1.tag] E Io E E (Aj 0 E) (AP 0 f8 ((RP hy3 :)) E (J E (Ae E E E (Ae E E E (U E (U E (V (AH ?_))))))))
 refine AE h fun q1 hq1 h=>?_
 refine AE h fun y4 hy4 h=>?_
 refine Aw DG [0,5] (CM [(true,0),(true,1),(true,2),(true,3),(true,4),(true,5),(true,6),(true,7),(true,8),(false,9),(false,10),(true,11),(true,12),(false,13)] (.last 14 .nil)) zK (J E (AT E E (AF E KK (AG 1 NY E (AF E LW (AG 0 G7 E ?_))))))
 refine Z E (PQ (b:=2) hq1) ?_
 refine BF E E (NG DL CP) (J E (SL.pick [9,10,11,1,2,3,4,0,5,6,7,8] 12 (BU 7 f9 (Np hy4 hT) E ⟨⟨7,E⟩,⟨8,E⟩,zT⟩ (J E (Ae E E E (Ae E E E (U E (Bh ?_))))))))
 refine U E (V (AH (Y (J E (Z E BO (V ?_))))))
 refine AN h E (fun hc4 h=>?_) fun hc4 h=>?_
 cases h
 refine AJ (AI (Y ?_))
 refine AE h fun y5 hy5 h=>?_
 refine J E (AT E E (AF E KK (AG 8 NY E (AT E E (AF E O4 (AG 0 X7 E (SL.pick [3,4,5,6,0,1,2] 7 ?_)))))))
 refine AP 4 Z3 (Jf hy5) E (U E (V (AH (Y (J E (Z E BO (V ?_)))))))
 refine AN h E (fun hc5 h=>?_) fun hc5 h=>?_
 cases h
 refine AJ (AI (Y ?_))
 refine AE h fun y6 hy6 h=>?_
 refine J E (AT E E (AF E KK (AG 8 NY E (AT E E (AF E O4 (AG 4 X7 E (J E ?_)))))))
 refine AP 4 gA (MJ hy6) E (U E (V (AL ?_)))
 obtain rfl:=zI h
 exact AX [8,9,10,11,4,5,6,0,1,2,3] 12 E E E
def IU(p0:Dy)(p2:List BL)(l1:List UInt32)(o1:Bb):Option (Dy×Bb):=
 some ({ p0 with rows:=[],had:=p2,gens:=l1 },o1)
def HK(p0:Dy)(p2:List BL)(l1:List UInt32)(nx_f_ref16_Store_moved_l2:Bb×Int→Option (Dy×Bb))(o2:Bb)(a3:Int):Option (Dy×Bb):=
 cond (decide (a3<(p0.had.length:Int)))
 (
  none)
 (
  IU p0 p2 l1 o2)
def IV(p0:Dy)(p2:List BL)(l1:List UInt32):Nat→(Bb×Int)→Option (Dy×Bb):=CO fun nx x=>HK p0 p2 l1 nx x.1 x.2
def IS(n:Nat)(p0:Dy)(p0_1:Bb)(p2:List BL)(l1:List UInt32):Option (Dy×Bb):=
 IV p0 p2 l1 n (p0_1,0)
def IT(l2:List UInt32)(a1:Int)(nx_f_ref16_Store_moved_l1:List UInt32×Int→Option (Dy×Bb))(a2:UInt32):Option (Dy×Bb):=
 (DK 4 l2 [a2]).bind fun l3=>
 ret (wI (a1+1)) fun i_1=>
 nx_f_ref16_Store_moved_l1 (l3,i_1)
def HJ(n:Nat)(p0:Dy)(p0_1:Bb)(p2:List BL)(nx_f_ref16_Store_moved_l1:List UInt32×Int→Option (Dy×Bb))(l2:List UInt32)(a1:Int):Option (Dy×Bb):=
 cond (decide (a1<(p2.length:Int)))
 (
  (BE p2 a1).bind fun x1=>
  (O0 n p0.had x1.page).bind fun y1=>
  (Ij (decide (0≤y1)) ((BE p0.had y1).bind fun x2=>(BE p2 a1).bind fun x3=>some (decide (x2.txt=x3.txt)&&(decide (x2.page=x3.page)&&(decide (x2.tag=x3.tag)&&true))))).bind fun y2=>
  cond y2
  (
   none)
  (
   IT l2 a1 nx_f_ref16_Store_moved_l1 p0_1.gen))
 (
  IS n p0 p0_1 p2 l2)
def F3(n:Nat)(p0:Dy)(p0_1:Bb)(p2:List BL):Nat→(List UInt32×Int)→Option (Dy×Bb):=CO fun nx x=>HJ n p0 p0_1 p2 nx x.1 x.2
def KF(n:Nat)(p0:Dy)(p0_1:Bb)(p0_2:A5)(p2:List BL):Option (Dy×Bb):=
 F3 n p0 p0_1 p2 n ([],0)
theorem R5{n Al BH CV:Nat}{Ad A0 D8 BZ CW Bq Br Bs GP:Value}{p0:Dy}{p0_1:Bb}{p0_2:A5}{p2:List BL}{r:Dy×Bb}(h:KF n p0 p0_1 p0_2 p2=some r): zC K w0 74 [vP Al 0,zN,GP] [AK Al (.cells #[vP BH 0,Ad,A0,D8,vB p0.bad] 122),AC 35 4 Ad AW p0.rows,AC 190 3 A0 AU p0.had,AC 33 1 D8 BQ p0.gens,AK BH (.cells #[vP CV 0,BZ,AA p0_1.gen,AA p0_1.boot,AV p0_1.num,CW] 153),AC 114 2 BZ AZ p0_1.ring,AC 4 1 CW eB p0_1.taken,AK CV (.cells #[Bq,Br,Bs,AV p0_2.rcnt,vS p0_2.rtag,AA p0_2.rboots,vI p0_2.left,vB p0_2.off] 107),AC 9 1 Bq eS p0_2.blk,AC 9 1 Br eS p0_2.pnd,AC 4 1 Bs eB p0_2.bads,AC 190 3 GP AU p2] H (fun u M=>∃vs0_0_1 vs0_0_2 vs0_0_3:Value,u=.tuple #[]∧M=[AK Al (.cells #[vP BH 0,vs0_0_1,vs0_0_2,vs0_0_3,vB r.1.bad] 122),AC 35 4 vs0_0_1 AW r.1.rows,AC 190 3 vs0_0_2 AU r.1.had,AC 33 1 vs0_0_3 BQ r.1.gens,AK BH (.cells #[vP CV 0,BZ,AA r.2.gen,AA r.2.boot,AV r.2.num,CW] 153),AC 114 2 BZ AZ r.2.ring,AC 4 1 CW eB r.2.taken,AK CV (.cells #[Bq,Br,Bs,AV p0_2.rcnt,vS p0_2.rtag,AA p0_2.rboots,vI p0_2.left,vB p0_2.off] 107),AC 9 1 Bq eS p0_2.blk,AC 9 1 Br eS p0_2.pnd,AC 4 1 Bs eB p0_2.bads]):=by
 unfold KF at h
 refine Td.enter Tryz.func74 rfl rfl ?_
 refine Y (B8 33 1 BQ (U E (V ?_)))
 refine BB (α:=List UInt32×Value) (fun x=>IS n p0 p0_1 p2 x.1=some r) (fun x=>[(0,vP Al 0),(1,zN),(2,GP),(6,x.2)]) (fun x=>AK Al (.cells #[vP BH 0,Ad,A0,D8,vB p0.bad] 122)::AK BH (.cells #[vP CV 0,BZ,AA p0_1.gen,AA p0_1.boot,AV p0_1.num,CW] 153)::AK CV (.cells #[Bq,Br,Bs,AV p0_2.rcnt,vS p0_2.rtag,AA p0_2.rboots,vI p0_2.left,vB p0_2.off] 107)::AC 9 1 Bq eS p0_2.blk::AC 9 1 Br eS p0_2.pnd::AC 4 1 Bs eB p0_2.bads::AC 114 2 BZ AZ p0_1.ring::AC 4 1 CW eB p0_1.taken::AC 35 4 Ad AW p0.rows::AC 190 3 A0 AU p0.had::AC 33 1 D8 BQ p0.gens::AC 190 3 GP AU p2::AC 33 1 x.2 BQ x.1::H) ?_ (fun x D h=>?_)
 refine Y (U E (V (AQ ?_)))
 refine SX.heap (SX.mono (BG (α:=Nat×List UInt32×Value×Int) (fun x=>F3 n p0 p0_1 p2 x.1 (x.2.1,x.2.2.2)=some r) (fun x=>[(0,vP Al 0),(1,zN),(2,GP),(6,x.2.2.1),(7,vI x.2.2.2)]) (fun x=>AK Al (.cells #[vP BH 0,Ad,A0,D8,vB p0.bad] 122)::AK BH (.cells #[vP CV 0,BZ,AA p0_1.gen,AA p0_1.boot,AV p0_1.num,CW] 153)::AK CV (.cells #[Bq,Br,Bs,AV p0_2.rcnt,vS p0_2.rtag,AA p0_2.rboots,vI p0_2.left,vB p0_2.off] 107)::AC 9 1 Bq eS p0_2.blk::AC 9 1 Br eS p0_2.pnd::AC 4 1 Bs eB p0_2.bads::AC 114 2 BZ AZ p0_1.ring::AC 4 1 CW eB p0_1.taken::AC 35 4 Ad AW p0.rows::AC 190 3 A0 AU p0.had::AC 33 1 D8 BQ p0.gens::AC 190 3 GP AU p2::AC 33 1 x.2.2.1 BQ x.2.1::H) (fun x=>x.1) (fun x D h=>?_) (n,[],zN,0) h) tL) (BR [1,5,8,9,10,11,6,7,2,3,4,12,0] 13 E E E)
 obtain⟨m1,l2,v2,a1⟩:=x
 dsimp only at h
 rcases m1 with _ | m1
 cases (show(none:Option _)=some r from h)
 replace h:HJ n p0 p0_1 p2 (F3 n p0 p0_1 p2 m1) l2 a1=some r:=h
 unfold HJ at h
 try dsimp only
 refine AH (Y (J E (J E (DW 11 E KW E E (Z E BA (V ?_))))))
 refine AN h E (fun hc1 h=>?_) fun hc1 h=>?_
 refine AJ (AI (AH (AQ (AH ?_))))
 refine AE h fun x1 hx1 h=>?_
 refine AE h fun y1 hy1 h=>?_
 refine Aw DG [0,11] (CM [(true,0),(true,1),(true,2),(true,3),(true,4),(true,5),(true,6),(true,7),(true,8),(true,9)] (.last 10 (C4 [(false,11)]))) zK (J E (AT E E (AF E Uh (AG 0 QU E (J E (J E ?_))))))
 refine CI 11 hx1 E KW KV E E E fun g1 m2 cp1 hv1=>?_
 refine AF E KM (AF E FX ?_)
 refine Bv E A7 E (CA (sz:=3) (enc:=AU) 1 1 zV E hv1 hx1 E) ?_
 refine Bh (SL.pick [9,0,1,2,3,4,5,6,7,8] 10 ?_)
 refine Bd (vs:=[_,_]) (Hin:=[_]) (Hr:=_::_::_::_::_::_::_::_::_::_::_::_::_) E E ⟨E,E,zT⟩ mw E E (Cm (B:=[_]) (Hin:=[]) fun K' w1 hk hB=>XL hy1 (CT (e:=190) (v:=A0) zV (hB _ zS))) ?_
 rintro _ _ ⟨_,rfl,rfl,rfl⟩
 refine⟨trivial,?_⟩
 refine U E (V (Y (J E (AT E E (AF E KK (AG 1 NY E (AT E E (AF E Xe (AG 2 A7 E ?_)))))))))
 refine U E (V ?_)
 refine BB (α:=UInt32) (fun x=>IT l2 a1 (F3 n p0 p0_1 p2 m1) x=some r) (fun x=>[(0,vP Al 0),(1,zN),(2,GP),(6,v2),(7,vI a1),(9,AA x)]) (fun x=>AK Al (.cells #[vP BH 0,Ad,A0,D8,vB p0.bad] 122)::AK BH (.cells #[vP CV 0,BZ,AA p0_1.gen,AA p0_1.boot,AV p0_1.num,CW] 153)::AK CV (.cells #[Bq,Br,Bs,AV p0_2.rcnt,vS p0_2.rtag,AA p0_2.rboots,vI p0_2.left,vB p0_2.off] 107)::AC 9 1 Bq eS p0_2.blk::AC 9 1 Br eS p0_2.pnd::AC 4 1 Bs eB p0_2.bads::AC 114 2 BZ AZ p0_1.ring::AC 4 1 CW eB p0_1.taken::AC 35 4 Ad AW p0.rows::AC 190 3 A0 AU p0.had::AC 33 1 D8 BQ p0.gens::AC 190 3 GP AU p2::AC 33 1 v2 BQ l2::H) ?_ (fun a2 D h=>?_)
 refine AH ?_
 refine AE h fun y2 hy2 h=>?_
 refine Aw DG [0,1,11] (C4 [(true,0),(true,1),(true,2),(true,3),(true,4),(true,5),(true,6),(true,7),(true,8),(true,9),(true,10),(true,11),(true,12),(true,13),(true,14),(true,15)]) zK (J E (Z E LH (J E ?_)))
 refine FR 37 13 50 hy2 E (fun hb hg1 k=>?_) (fun hb k=>?_) ?_
 obtain⟨x2,hx2,hg1⟩:=Ek hg1
 obtain⟨x3,hx3,hg1⟩:=Ek hg1
 obtain rfl:=zI hg1
 refine J E (AT E E (AF E Uh (AG 1 QU E (J E ?_))))
 refine CI 0 hx2 E KW KV E E E fun g2 m3 cp2 hv2=>?_
 refine As (AU x2) E Ro E E (MK (sz:=3) (enc:=AU) 0 zV E hv2 hx2) ?_
 refine J E (J E ?_)
 refine CI 11 hx3 E KW KV E E E fun g3 m4 cp3 hv3=>?_
 refine As (AU x3) E Ro E E (MK (sz:=3) (enc:=AU) 2 zV E hv3 hx3) ?_
 refine Wr E (show cg Tryz.prog 190=some [(0,.string),(1,.int .u32),(2,.string)] by kernel_rfl) E E (Cd E E (SE (a:=x2.txt) (b:=x3.txt)) (Cd E E (Jl (a:=x2.page) (b:=x3.page)) (Cd E E (SE (a:=x2.tag) (b:=x3.tag)) I2))) ?_
 refine Ai E E E ?_
 exact k.mono tL
 refine AD E (AD E (AD E (AD E (AD E (AD E (AD E (AD E ?_)))))))
 refine AD E (AD E (AD E (AD E (Ai E E E ?_))))
 exact k.mono tL
 refine V ?_
 refine AN h E (fun hc2 h=>?_) fun hc2 h=>?_
 cases h
 refine AJ ?_
 exact Ap p0_1.gen h tL (BR [1,2,3,4,5,6,7,8,9,0,10,11,12] 13 E E E)
 unfold IT at h
 try dsimp only
 refine AS ?_
 refine AE h fun l3 hl3 h=>?_
 refine J E (J E ?_)
 refine CD [_] rfl CU Bk H8 ⟨rfl,trivial⟩ rfl rfl rfl zW rfl rfl zU fun b1=>?_
 refine CF BQ 1 ([a2]:List UInt32) E zV E ?_
 refine Cr 13 hl3 (sz:=1) (enc:=BQ) zV E CU Bk QE H8 E zD E E E E (CH (sz:=1) (enc:=BQ) 0 zV E) (by simp[BQ,Value.oneCell']) zU fun v3=>?_
 refine U E (Aa (An (AI (AS ?_))))
 obtain⟨i_1,ei_1,h⟩:=Bz h
 refine J E (Z E Bf ?_)
 refine Ak (u:=vI i_1) E E (congrArg vI ei_1) ?_
 refine Aa ?_
 exact Av (m1,l3,v3,i_1) h (Nat.lt_succ_self _) tL (BR [1,2,3,4,5,6,7,8,9,10,11,12,13] 14 E E E)
 refine Ay (A6 (Ba (A9 ?_)))
 exact Ap (l2,v2) h tL (BR [0,1,2,3,4,5,6,7,8,9,10,11,12] 13 E E E)
 obtain⟨l1,v1⟩:=x
 dsimp only at h
 unfold IS at h
 try dsimp only
 refine BB (α:=Bb) (fun x=>IU p0 p2 l1 x=some r) (fun x=>[(0,vP Al 0),(1,zN),(2,GP),(6,v1)]) (fun x=>AK Al (.cells #[vP BH 0,Ad,A0,D8,vB p0.bad] 122)::AK BH (.cells #[vP CV 0,BZ,AA x.gen,AA x.boot,AV x.num,CW] 153)::AK CV (.cells #[Bq,Br,Bs,AV p0_2.rcnt,vS p0_2.rtag,AA p0_2.rboots,vI p0_2.left,vB p0_2.off] 107)::AC 9 1 Bq eS p0_2.blk::AC 9 1 Br eS p0_2.pnd::AC 4 1 Bs eB p0_2.bads::AC 114 2 BZ AZ x.ring::AC 4 1 CW eB x.taken::AC 35 4 Ad AW p0.rows::AC 190 3 A0 AU p0.had::AC 33 1 D8 BQ p0.gens::AC 190 3 GP AU p2::AC 33 1 v1 BQ l1::H) ?_ (fun o1 D h=>?_)
 refine Y (U E (V (AQ ?_)))
 refine SX.heap (SX.mono (BG (α:=Nat×Bb×Int) (fun x=>IV p0 p2 l1 x.1 (x.2.1,x.2.2)=some r) (fun x=>[(0,vP Al 0),(1,zN),(2,GP),(6,v1),(10,vI x.2.2)]) (fun x=>AK Al (.cells #[vP BH 0,Ad,A0,D8,vB p0.bad] 122)::AK BH (.cells #[vP CV 0,BZ,AA x.2.1.gen,AA x.2.1.boot,AV x.2.1.num,CW] 153)::AK CV (.cells #[Bq,Br,Bs,AV p0_2.rcnt,vS p0_2.rtag,AA p0_2.rboots,vI p0_2.left,vB p0_2.off] 107)::AC 9 1 Bq eS p0_2.blk::AC 9 1 Br eS p0_2.pnd::AC 4 1 Bs eB p0_2.bads::AC 114 2 BZ AZ x.2.1.ring::AC 4 1 CW eB x.2.1.taken::AC 35 4 Ad AW p0.rows::AC 190 3 A0 AU p0.had::AC 33 1 D8 BQ p0.gens::AC 190 3 GP AU p2::AC 33 1 v1 BQ l1::H) (fun x=>x.1) (fun x D h=>?_) (n,p0_1,0) h) tL) (BR [0,1,2,3,4,5,6,7,8,9,10,11,12] 13 E E E)
 obtain⟨m5,o2,a3⟩:=x
 dsimp only at h
 rcases m5 with _ | m5
 cases (show(none:Option _)=some r from h)
 replace h:HK p0 p2 l1 (IV p0 p2 l1 m5) o2 a3=some r:=h
 unfold HK at h
 try dsimp only
 refine AH (Y (J E (J E (AT E E (AF E Uh (AG 0 QU E (DW 9 E KW E E (Z E BA (V ?_)))))))))
 refine AN h E (fun hc3 h=>?_) fun hc3 h=>?_
 cases h
 refine Ay (A6 (Ba (A9 ?_)))
 exact Ap o2 h tL (BR [0,1,2,3,4,5,6,7,8,9,10,11,12] 13 E E E)
 unfold IU at h
 try dsimp only
 refine Y (J E (J E (AT E E (AF E ko (A8 0 E E E E JR E E E zT (B8 35 4 AW (V (Y (J E (J E ?_))))))))))
 refine AT E E (AF E Uh ?_)
 refine C1 12 E fun hv4 ho1=>?_
 refine Du 1 E E E E lm hv4 ho1 E zT (V (AS (J E (J E (AT E E (AF E kp ?_))))))
 refine C1 13 E fun hv5 ho2=>?_
 refine Du 1 E E E E fT hv5 ho2 E zT (Aa ?_)
 obtain rfl:=zI h
 exact DE (Dg E) (Af (M:=[_,_,_,_,_,_,_,_,_,_,_]) ⟨zN,GP,v1,E,E⟩ fun _ hw=>BW.pick (H:=[_,_,_,_,_,_,_,_,_,_,_,_,_,_]) hw [1,0,12,13,2,7,8,3,4,5,6] 14 E)
def H5(n:Nat)(p0:Dy)(y1:List BL×Int×Bb×A5)(o1:Bb)(o2:A5)(a1:Int):Option (Int×Dy×Bb×A5):=
 cond (!decide (a1=0))
 (
  none)
 (
  (KF n p0 o1 o2 y1.1).bind fun y3=>
  some (0,y3.1,y3.2,o2))
def FV(n:Nat)(T:List UInt32)(p0:Dy)(p0_1:Bb)(p0_2:A5):Option (Int×Dy×Bb×A5):=
 (LR n T p0_1 p0_2).bind fun y1=>
 cond (decide (y1.2.1=0))
 (
  (EH n T p0 y1.2.2.1 y1.2.2.2 y1.1).bind fun y2=>
  H5 n p0 y1 y2.2.1 y2.2.2 y2.1)
 (
  none)
theorem Rb{n Al BH CV:Nat}{T:List UInt32}{Ad A0 D8 BZ CW Bq Br Bs:Value}{p0:Dy}{p0_1:Bb}{p0_2:A5}{r:Int×Dy×Bb×A5}(h:FV n T p0 p0_1 p0_2=some r)(hT:JB K w0 2 64 T):zC K w0 50 [vP Al 0,zN,zN] [AK Al (.cells #[vP BH 0,Ad,A0,D8,vB p0.bad] 122),AC 35 4 Ad AW p0.rows,AC 190 3 A0 AU p0.had,AC 33 1 D8 BQ p0.gens,AK BH (.cells #[vP CV 0,BZ,AA p0_1.gen,AA p0_1.boot,AV p0_1.num,CW] 153),AC 114 2 BZ AZ p0_1.ring,AC 4 1 CW eB p0_1.taken,AK CV (.cells #[Bq,Br,Bs,AV p0_2.rcnt,vS p0_2.rtag,AA p0_2.rboots,vI p0_2.left,vB p0_2.off] 107),AC 9 1 Bq eS p0_2.blk,AC 9 1 Br eS p0_2.pnd,AC 4 1 Bs eB p0_2.bads] H (fun u M=>∃vs0_0_1 vs0_0_2 vs0_0_3:Value,u=vI r.1∧M=[AK Al (.cells #[vP BH 0,vs0_0_1,vs0_0_2,vs0_0_3,vB r.2.1.bad] 122),AC 35 4 vs0_0_1 AW r.2.1.rows,AC 190 3 vs0_0_2 AU r.2.1.had,AC 33 1 vs0_0_3 BQ r.2.1.gens,AK BH (.cells #[vP CV 0,BZ,AA r.2.2.1.gen,AA r.2.2.1.boot,AV r.2.2.1.num,CW] 153),AC 114 2 BZ AZ r.2.2.1.ring,AC 4 1 CW eB r.2.2.1.taken,AK CV (.cells #[Bq,Br,Bs,AV r.2.2.2.rcnt,vS r.2.2.2.rtag,AA r.2.2.2.rboots,vI r.2.2.2.left,vB r.2.2.2.off] 107),AC 9 1 Bq eS r.2.2.2.blk,AC 9 1 Br eS r.2.2.2.pnd,AC 4 1 Bs eB r.2.2.2.bads]):=by
 unfold FV at h
 refine Td.enter Tryz.func50 rfl rfl ?_
 refine Y (U E (V (Y ?_)))
 refine AE h fun y1 hy1 h=>?_
 refine J E (AT E E (AF E KK (AG 0 NY E (J E (J E (SL.pick [4,5,6,7,8,9,10,0,1,2,3] 11 (BS 7 qV (YW hy1 hT) E ?_)))))))
 rintro _ _ ⟨v1,rfl,rfl⟩
 refine J E (Ae E E E (Ae E E E (U E (U E (V ?_)))))
 refine BB (α:=Bb×A5×Int) (fun x=>H5 n p0 y1 x.1 x.2.1 x.2.2=some r) (fun x=>[(0,vP Al 0),(1,zN),(7,v1),(8,vI x.2.2)]) (fun x=>AK Al (.cells #[vP BH 0,Ad,A0,D8,vB p0.bad] 122)::AK BH (.cells #[vP CV 0,BZ,AA x.1.gen,AA x.1.boot,AV x.1.num,CW] 153)::AK CV (.cells #[Bq,Br,Bs,AV x.2.1.rcnt,vS x.2.1.rtag,AA x.2.1.rboots,vI x.2.1.left,vB x.2.1.off] 107)::AC 9 1 Bq eS x.2.1.blk::AC 9 1 Br eS x.2.1.pnd::AC 4 1 Bs eB x.2.1.bads::AC 114 2 BZ AZ x.1.ring::AC 4 1 CW eB x.1.taken::AC 35 4 Ad AW p0.rows::AC 190 3 A0 AU p0.had::AC 33 1 D8 BQ p0.gens::AC 190 3 v1 AU y1.1::H) ?_ (fun x D h=>?_)
 refine Y (J E (Z E Bg (V ?_)))
 refine AN h E (fun hc1 h=>?_) fun hc1 h=>?_
 refine AS ?_
 refine AE h fun y2 hy2 h=>?_
 refine J E (J E (J E (SL.pick [0,8,9,10,11,1,2,3,4,5,6,7] 12 ?_)))
 refine Bd (vs:=[_,_,_]) (Hin:=[_,_,_,_,_,_,_,_,_,_,_,_]) (Hr:=_) E E ⟨E,E,E,zT⟩ qW E E (Cm (B:=[_]) (Hin:=[_,_,_,_,_,_,_,_,_,_,_]) fun K' w1 hk hB=>Ql hy2 (hT.keeps hk) (CT (e:=190) (v:=v1) zV (hB _ zS))) ?_
 rintro _ _ ⟨_,rfl,rfl,rfl⟩
 refine⟨trivial,?_⟩
 refine U E (Aa ?_)
 exact Ap (y2.2.1,y2.2.2,y2.1) h tL (BR [1,5,8,9,10,11,6,7,2,3,4,0] 12 E E E)
 cases h
 obtain⟨o1,o2,a1⟩:=x
 dsimp only at h
 unfold H5 at h
 try dsimp only
 refine AH (Y (J E (Z E BO (V ?_))))
 refine AN h E (fun hc2 h=>?_) fun hc2 h=>?_
 cases h
 refine AJ (AI (Y ?_))
 refine AE h fun y3 hy3 h=>?_
 refine J E (J E (J E (SL.pick [0,8,9,10,1,6,7,2,3,4,5,11] 12 (BS 12 qX (R5 hy3) E ?_))))
 rintro _ _ ⟨v2,v3,v4,rfl,rfl⟩
 refine V (Y (U E (V (AL ?_))))
 obtain rfl:=zI h
 exact Bi [0,1,2,3,4,5,6,7,8,9,10] 11 (Cl E E) E E ⟨v2,v3,v4,E,E⟩
def JJ(n:Nat)(T:List UInt32)(p0:A5)(p1:List BP):Option (Option (Dy×Bb)×Int×A5):=
 (JG n p1).bind fun y1=>
 cond (!decide (y1.2=0))
 (
  none)
 (
  (Ni p0).bind fun y2=>
  cond y2
  (
   none)
  (
   (HD p0).bind fun y3=>
   cond (!decide (y3.2.1=0))
   (
    none)
   (
    (Mp n y3.2.2 p1 y1.1 y3.1).bind fun y4=>
    (y4.1).bind fun d1=>
    (FV n T ({ rows:=[],had:=[],gens:=[],bad:=false }:Dy) d1 y3.2.2).bind fun y5=>
    cond (!decide (y5.1=0))
    (
     none)
    (
     some (some (y5.2.1,y5.2.2.1),0,y5.2.2.2)))))
theorem WN{n Al:Nat}{T:List UInt32}{Au Ad A0 Dt:Value}{p0:A5}{p1:List BP}{r:Option (Dy×Bb)×Int×A5}(h:JJ n T p0 p1=some r)(hT:JB K w0 2 64 T):zC K w0 29 [vP Al 0,Dt] [AK Al (.cells #[Au,Ad,A0,AV p0.rcnt,vS p0.rtag,AA p0.rboots,vI p0.left,vB p0.off] 107),AC 9 1 Au eS p0.blk,AC 9 1 Ad eS p0.pnd,AC 4 1 A0 eB p0.bads,AC 114 2 Dt AZ p1] H (fun u M=>(r.1=none∧u=.tuple #[.pointer none,vI r.2.1]∧M=[AK Al (.cells #[Au,Ad,A0,AV r.2.2.rcnt,vS r.2.2.rtag,AA r.2.2.rboots,vI r.2.2.left,vB r.2.2.off] 107),AC 9 1 Au eS r.2.2.blk,AC 9 1 Ad eS r.2.2.pnd,AC 4 1 A0 eB r.2.2.bads])∨(∃(d:Dy×Bb) (bn0:Nat) (vn0x1:Value) (vn0x2:Value) (vn0x3:Value) (bn1:Nat) (vn1x1:Value) (vn1x5:Value),r.1=some d∧u=.tuple #[vP bn0 0,vI r.2.1]∧M=[AK bn0 (.cells #[vP bn1 0,vn0x1,vn0x2,vn0x3,vB d.1.bad] 122),AC 35 4 vn0x1 AW d.1.rows,AC 190 3 vn0x2 AU d.1.had,AC 33 1 vn0x3 BQ d.1.gens,AK bn1 (.cells #[vP Al 0,vn1x1,AA d.2.gen,AA d.2.boot,AV d.2.num,vn1x5] 153),AC 114 2 vn1x1 AZ d.2.ring,AC 4 1 vn1x5 eB d.2.taken,AK Al (.cells #[Au,Ad,A0,AV r.2.2.rcnt,vS r.2.2.rtag,AA r.2.2.rboots,vI r.2.2.left,vB r.2.2.off] 107),AC 9 1 Au eS r.2.2.blk,AC 9 1 Ad eS r.2.2.pnd,AC 4 1 A0 eB r.2.2.bads])):=by
 unfold JJ at h
 refine Td.enter Tryz.func29 rfl rfl ?_
 refine Y (U E (U E (V (Y ?_))))
 refine AE h fun y1 hy1 h=>?_
 refine J E (SL.pick [4,0,1,2,3] 5 ?_)
 refine Bd (vs:=[_]) (Hin:=[_]) (Hr:=_::_::_::_::_) E E ⟨E,zT⟩ qJ E E (Cm (B:=[_]) (Hin:=[]) fun K' w1 hk hB=>WL hy1 (CT (e:=114) (v:=Dt) zV (hB _ zS))) ?_
 rintro _ _ ⟨_,rfl,rfl,rfl⟩
 refine⟨trivial,?_⟩
 refine J E (Ae E E E (Ae E E E (U E (U E (V (AH (Y (J E (Z E BO (V ?_))))))))))
 refine AN h E (fun hc1 h=>?_) fun hc1 h=>?_
 cases h
 refine AJ (AI (AH (Y ?_)))
 refine AE h fun y2 hy2 h=>?_
 refine J E (SL.pick [1,2,3,4,0] 5 (AP 4 qK (YX hy2) E (V ?_)))
 refine AN h E (fun hc2 h=>?_) fun hc2 h=>?_
 cases h
 refine AJ (AI (Y ?_))
 refine AE h fun y3 hy3 h=>?_
 refine J E (AP 4 qL (RY hy3) E (J E (Ae E E E (Ae E E E (U E (U E (V (AH (Y (J E ?_))))))))))
 refine Z E BO (V ?_)
 refine AN h E (fun hc3 h=>?_) fun hc3 h=>?_
 cases h
 refine AJ (AI (Y ?_))
 refine AE h fun y4 hy4 h=>?_
 refine AE h fun d1 hd1 h=>?_
 refine J E (J E (J E (J E ?_)))
 refine Bd (vs:=[_,_,_,_]) (Hin:=[_,_,_,_,_]) (Hr:=_) E E ⟨E,E,E,E,zT⟩ qM E E (Zs hy4) ?_
 rintro _ _ (⟨hn,-,-⟩ | ⟨d_,b1,v1,v2,hn,rfl,rfl⟩)
 rw[hd1]at hn;cases hn
 obtain rfl:d1=d_:=zI (hd1.symm.trans hn)
 refine⟨trivial,?_⟩
 refine J E (Ae E E E (Ae E E E (U E (U E (V (Y (J E (CB [_] E rD qs rn ⟨E,zT⟩ E ?_))))))))
 refine Bc E E zU fun b2=>?_
 refine B8 35 4 AW (B8 190 3 AU (B8 33 1 BQ (U E (V (Y ?_)))))
 refine AE h fun y5 hy5 h=>?_
 refine J E (SL.pick [3,2,1,0,4,5,6,7,8,9,10] 11 (BS 11 qN (Rb hy5 hT) E ?_))
 rintro _ _ ⟨v3,v4,v5,rfl,rfl⟩
 refine U E (V (AH (Y (J E (Z E BO (V ?_))))))
 refine AN h E (fun hc4 h=>?_) fun hc4 h=>?_
 cases h
 refine AJ (AI (Y (J E (U E (U E (V (AL ?_)))))))
 obtain rfl:=zI h
 exact Ag (ER E E E) (Af (M:=[_,_,_,_,_,_,_,_,_,_,_]) (.inr ⟨_,b2,v3,v4,v5,b1,v1,v2,E,E,E⟩) fun _ hw=>BW.pick (H:=[_,_,_,_,_,_,_,_,_,_,_]) hw [0,1,2,3,4,5,6,7,8,9,10] 11 E)
end

section
theorem pF(x:UInt32)(n:Nat)(h:n≤32):DV x (n:Int)=some (rl x n):=by
 unfold DV
 rw[U2,AB,Cw zO zO,show(32-(n:Int))=((32-n:Nat):Int) by omega,U2,AB]
 rfl
theorem fH(a b c d:UInt32):IL a b c d=some (Q4.quarter ⟨a,b,c,d⟩).list:=by
 have t16:∀x,DV x 16=some (rl x 16):=fun x=>pF x 16 zD
 have t12:∀x,DV x 12=some (rl x 12):=fun x=>pF x 12 zD
 have t8:∀x,DV x 8=some (rl x 8):=fun x=>pF x 8 zD
 have t7:∀x,DV x 7=some (rl x 7):=fun x=>pF x 7 zD
 simp only[IL,ret,t16,t12,t8,t7,AB]
 rfl
theorem iG(s:List UInt8)(i:Nat)(h:i+3<s.length)(hi:s.length≤1099511627776):JX s (i:Int)=some (Jx s i):=by
 unfold JX
 rw[C2 (k:=i) 0 rfl zO,AB,Cw zO zO,C2 (k:=i+1) 0 zO zO,AB,
  Cw zO zO,C2 (k:=i+2) 0 zO zO,AB,Cw zO zO,C2 (k:=i+3) 0 zO zO,AB]
 rfl
theorem fb(c:UInt32):Jx (Fv c) 0=c:=by
 apply UInt32.toNat_inj.1
 have hc:=c.toNat_lt
 have e8:∀k,k≤32→(shr32 c k).toNat=c.toNat / 2^k:=fun k hk=>by
  simp only[shr32,UInt32.toNat_ofNat',Nat.min_eq_left hk]
  exact Nat.mod_eq_of_lt (Nat.lt_of_le_of_lt (Nat.div_le_self _ _) hc)
 have s8:∀(x:UInt8) k,k≤24→(shl32 x.toUInt32 k).toNat=x.toNat*2^k:=fun x k hk=>by
  have hx:=x.toNat_lt
  simp only[shl32,UInt32.toNat_ofNat',UInt8.toNat_toUInt32,Nat.min_eq_left (show k≤32 by omega)]
  refine Nat.mod_eq_of_lt ?_
  calc x.toNat*2^k<2^8*2^k:=Nat.mul_lt_mul_of_pos_right hx (Nat.two_pow_pos k)
   _=2^(8+k):=(Nat.pow_add 2 8 k).symm
   _≤2^32:=Nat.pow_le_pow_right zD zO
 have key:∀(a b k:Nat),a<2^k→a ||| b*2^k=a+b*2^k:=fun a b k h=>by
  rw[Nat.or_comm,Nat.mul_comm,←Nat.two_pow_add_eq_or_of_lt h,Nat.add_comm]
 show(Jx [c.toUInt8,(shr32 c 8).toUInt8,(shr32 c 16).toUInt8,(shr32 c 24).toUInt8] 0).toNat=_
 simp only[Jx,Lh,List.getD_cons_zero,List.getD_cons_succ,Nat.zero_add]
 rw[UInt32.toNat_or,UInt32.toNat_or,UInt32.toNat_or,s8 _ 8 zO,s8 _ 16 zO,s8 _ 24 zO]
 simp only[UInt8.toNat_toUInt32,UInt32.toNat_toUInt8,e8 8 zO,e8 16 zO,e8 24 zO]
 rw[key _ _ 8 zO,key _ _ 16 zO,key _ _ 24 zO]
 omega
theorem li(key:List UInt8)(counter:UInt32)(nonce:List UInt8)(hk:key.length=32)(hn:nonce.length=12){n:Nat}(hm:8<n):KA n key counter nonce=some (HW key counter nonce):=by
 have hw:∀(s:List UInt8) (i:Nat),i<s.length / 4→(CX s).take (i+1)=(CX s).take i++[Jx s (4*i)]:=fun s i hi=>by
  rw[List.take_add_one,List.getElem?_eq_getElem (by rw[EA];exact hi)]
  simp[CX]
 have he:CX J2=[1634760805,857760878,2036477234,1797285236]:=by decide
 have hc:CX (Fv counter)=[counter]:=by
  have:CX (Fv counter)=[Jx (Fv counter) 0]:=by
   unfold CX
   rw[show(Fv counter).length=4 from rfl]
   rfl
  rw[this,fb]
 unfold KA Jr
 have h2:Hg n counter nonce (CX J2++CX key)=some (HW key counter nonce):=by
  unfold Hg Js
  have hlk:(CX key).length=8:=by rw[EA,hk]
  rw[DX (by simp[he,hlk]) (by simp[he,hlk]),AB]
  refine(congrArg (CO _ n) ?_).trans (Ec (fun i=>(CX J2++CX key++[counter]++(CX nonce).take i,(i:Int))) 3 (fun i hi k=>?_) (fun k=>?_) zO)
  simp
  simp only[GL,show decide ((i:Int)<3)=true by simp;omega,Cz]
  rw[Cw zO zO,show 4*(i:Int)=((4*i:Nat):Int) by omega,iG nonce (4*i) zO zO,AB,DX (by simp[he,hlk,EA];omega) (by simp[he,hlk,EA];omega),AB]
  simp only[ret]
  rw[Cw zO zO,hw nonce i zO]
  simp
  simp only[GL,show decide (((3:Nat):Int)<3)=false by decide,CE,Jq]
  rw[List.take_of_length_le (by have:=EA nonce;omega)]
  simp[HW,hc]
 refine(congrArg (CO _ n) ?_).trans (Ec (fun i=>(CX J2++(CX key).take i,(i:Int))) 8 (fun i hi k=>?_) (fun k=>?_) hm)
 simp[he]
 simp only[GK,show decide ((i:Int)<8)=true by simp;omega,Cz]
 rw[Cw zO zO,show 4*(i:Int)=((4*i:Nat):Int) by omega,iG key (4*i) zO zO,AB,DX (by simp[he,EA];omega) (by simp[he,EA];omega),AB]
 simp only[ret]
 rw[Cw zO zO,hw key i zO]
 simp
 simp only[GK,show decide (((8:Nat):Int)<8)=false by decide,CE]
 rw[List.take_of_length_le (by have:=EA key;omega)]
 exact h2
theorem sI(ws:List UInt32)(ix:Nat→Nat)(h:∀k,k<4→ix k<ws.length):DF ws (ix 0:Int) (ix 1:Int) (ix 2:Int) (ix 3:Int)=some (jE ws ix):=by
 unfold DF
 have h0:=h 0 zD
 have h1:=h 1 zD
 have h2:=h 2 zD
 have h3:=h 3 zD
 have g:∀(l:List UInt32) (k:Nat),k<l.length→BE l (k:Int)=some (l.getD k 0):=fun l k hk=>C2 0 rfl hk
 rw[g _ _ h0,AB,g _ _ h1,AB,g _ _ h2,AB,g _ _ h3,AB,fH,AB]
 generalize hq:Q4.quarter ⟨ws.getD (ix 0) 0,ws.getD (ix 1) 0,ws.getD (ix 2) 0,ws.getD (ix 3) 0⟩=q
 have q0:BE q.list 0=some q.a:=rfl
 have q1:BE q.list 1=some q.b:=rfl
 have q2:BE q.list 2=some q.c:=rfl
 have q3:BE q.list 3=some q.d:=rfl
 simp only[q0,q1,q2,q3,AB,Lf rfl h0,g (ws.set (ix 0) q.a) (ix 1) (by simpa using h1),Lf rfl (show ix 1<(ws.set (ix 0) q.a).length by simpa using h1),
  g ((ws.set (ix 0) q.a).set (ix 1) q.b) (ix 2) (by simpa using h2),Lf rfl (show ix 2<((ws.set (ix 0) q.a).set (ix 1) q.b).length by simpa using h2),
  g (((ws.set (ix 0) q.a).set (ix 1) q.b).set (ix 2) q.c) (ix 3) (by simpa using h3),Lf rfl (show ix 3<(((ws.set (ix 0) q.a).set (ix 1) q.b).set (ix 2) q.c).length by simpa using h3)]
 unfold jE
 rw[hq]
 rfl
theorem kB(key:List UInt8)(counter:UInt32)(nonce:List UInt8)(hk:key.length=32)(hn:nonce.length=12){n:Nat}(hm:16<n):Gr n key counter nonce=some (Jk key counter nonce,0):=by
 have hb:=MU (counter:=counter) hk hn
 unfold Gr
 rw[show((!decide ((key.length:Int)=32))||(!decide ((nonce.length:Int)=12)))=false by simp[hk,hn]]
 simp only[CE]
 rw[li key counter nonce hk hn zO,AB]
 generalize hw:HW key counter nonce=w at hb
 rw[DX (by simp[hb]) (by simp[hb]),AB,List.nil_append]
 have hl:∀l:List UInt32,(l.flatMap Fv).length=4*l.length:=by
  intro l
  induction l with
  | nil=>rfl
  | cons x r ih=>rw[List.flatMap_cons,List.length_append,ih,List.length_cons];simp[Fv];omega
 have h3:∀ws:List UInt32,ws.length=16→Fz n w ws=some ((List.zipWith (·+·) ws w).flatMap Fv,0):=by
  intro ws ht
  have hz:(List.zipWith (·+·) ws w).length=16:=by simp[ht,hb]
  have hg:∀i,i<16→(List.zipWith (·+·) ws w)[i]? = some (ws.getD i 0+w.getD i 0):=fun i hi=>by
   simp[List.getD_eq_getElem?_getD,ht,hb,hi]
  generalize List.zipWith (·+·) ws w=z at hz hg
  unfold Fz Jp
  refine(congrArg (CO _ n) ?_).trans (Ec (fun i=>((z.take i).flatMap Fv,(i:Int))) 16 (fun i hi k=>?_) (fun k=>?_) zO)
  simp
  have ei:((i+1:Nat):Int)=(i:Int)+1:=zO
  have st:(z.take (i+1)).flatMap Fv=(z.take i).flatMap Fv++Fv (ws.getD i 0+w.getD i 0):=by
   rw[List.take_add_one,hg i hi,List.flatMap_append]
   simp
  dsimp only
  rw[st,ei]
  simp only[GJ,show decide ((i:Int)<16)=true by simp;omega,Cz,ret]
  rw[C2 (k:=i) 0 rfl zO,AB,C2 (k:=i) 0 rfl zO,AB,DX (by rw[hl];simp[hz];omega) (by rw[hl];simp[hz];omega),AB,Cw zO zO]
  rfl
  simp only[GJ,show decide (((16:Nat):Int)<16)=false by decide,CE,Jn]
  rw[List.take_of_length_le zO]
 have h2:Fz n w (Sg w 10)=some (Jk key counter nonce,0):=by
  rw[h3 _ (by rw[M4,hb])]
  unfold Jk hC
  rw[hw]
 unfold Jo
 refine(congrArg (CO _ n) ?_).trans (Ec (fun i=>(Sg w i,(i:Int))) 10 (fun i hi k=>?_) (fun k=>?_) zO)
 rfl
 simp only[GI,show decide ((i:Int)<10)=true by simp;omega,Cz,ret]
 have hl0:(Sg w i).length=16:=by rw[M4,hb]
 have hA:∀(l:List UInt32) (s j:Nat),l.length=16→j<4→DF l (H6 s j 0:Int) (H6 s j 1:Int) (H6 s j 2:Int) (H6 s j 3:Int)=some (jE l (H6 s j)):=fun l s j hl hj=>sI l (H6 s j) (fun k hk=>by unfold H6;omega)
 have r:∀(l:List UInt32) (s:Nat),l.length=16→∀j,(DZ l s j).length=16:=fun l s hl j=>by rw[KT,hl]
 have a0:∀l:List UInt32,l.length=16→DF l 0 4 8 12=some (DZ l 0 1):=fun l hl=>hA l 0 0 hl zD
 have a1:∀l:List UInt32,l.length=16→DF (DZ l 0 1) 1 5 9 13=some (DZ l 0 2):=fun l hl=>hA _ 0 1 (r _ _ hl _) zD
 have a2:∀l:List UInt32,l.length=16→DF (DZ l 0 2) 2 6 10 14=some (DZ l 0 3):=fun l hl=>hA _ 0 2 (r _ _ hl _) zD
 have a3:∀l:List UInt32,l.length=16→DF (DZ l 0 3) 3 7 11 15=some (DZ l 0 4):=fun l hl=>hA _ 0 3 (r _ _ hl _) zD
 have b0:∀l:List UInt32,l.length=16→DF l 0 5 10 15=some (DZ l 1 1):=fun l hl=>hA l 1 0 hl zD
 have b1:∀l:List UInt32,l.length=16→DF (DZ l 1 1) 1 6 11 12=some (DZ l 1 2):=fun l hl=>hA _ 1 1 (r _ _ hl _) zD
 have b2:∀l:List UInt32,l.length=16→DF (DZ l 1 2) 2 7 8 13=some (DZ l 1 3):=fun l hl=>hA _ 1 2 (r _ _ hl _) zD
 have b3:∀l:List UInt32,l.length=16→DF (DZ l 1 3) 3 4 9 14=some (DZ l 1 4):=fun l hl=>hA _ 1 3 (r _ _ hl _) zD
 have hl4:=r _ 0 hl0 4
 rw[a0 _ hl0,AB,a1 _ hl0,AB,a2 _ hl0,AB,a3 _ hl0,AB,b0 _ hl4,AB,b1 _ hl4,AB,b2 _ hl4,AB,b3 _ hl4,AB,Cw zO zO]
 rfl
 simp only[GI,show decide (((10:Nat):Int)<10)=false by decide,CE]
 exact h2
theorem ri(key nonce s:List UInt8)(hk:key.length=32)(hn:nonce.length=12)(hs:s.length≤1048576){n:Nat}(hm:16<n)(hm2:s.length<n):Me n key nonce s=some (Ih key nonce s,0):=by
 have hB:∀i,Gr n key (UInt32.ofNat i) nonce=some (Jk key (UInt32.ofNat i) nonce,0):=fun i=>kB key _ nonce hk hn hm
 have hL:∀i,(Jk key (UInt32.ofNat i) nonce).length=64:=fun i=>Rq hk hn
 have hX:∀i,i<s.length→(Ih key nonce s).take (i+1)=(Ih key nonce s).take i++[s.getD i 0 ^^^ (Jk key (UInt32.ofNat (i / 64)) nonce).getD (i%64) 0]:=fun i hi=>by
  rw[List.take_add_one,List.getElem?_eq_getElem (by rw[Fl];exact hi)]
  simp[Ih,PG]
 have hXl:=Fl key nonce s
 generalize Ih key nonce s=X at hX hXl ⊢
 generalize hBf:(fun i=>Jk key (UInt32.ofNat i) nonce)=B
 have hB':∀i,Gr n key (UInt32.ofNat i) nonce=some (B i,0):=fun i=>by rw[hB i,←hBf]
 have hL':∀i,(B i).length=64:=fun i=>by rw[←hBf];exact hL i
 have hX':∀i,i<s.length→X.take (i+1)=X.take i++[s.getD i 0 ^^^ (B (i / 64)).getD (i%64) 0]:=fun i hi=>by rw[hX i hi,←hBf]
 clear hB hL hX hBf
 unfold Me
 rw[show(((!decide ((key.length:Int)=32))||(!decide ((nonce.length:Int)=12)))||(decide (1048576<(s.length:Int))))=false by simp[hk,hn];omega]
 simp only[CE]
 unfold JD
 refine(congrArg (CO _ n) ?_).trans (Ec (fun i=>(X.take i,(if i=0 then[]else B ((i-1) / 64)),(i:Int))) s.length (fun i hi k=>?_) (fun k=>?_) hm2)
 simp
 have ei:((i+1:Nat):Int)=(i:Int)+1:=zO
 dsimp only
 rw[hX' i hi,if_neg (show ¬i+1=0 by omega),Nat.add_sub_cancel,ei]
 simp only[Hh,show decide ((i:Int)<(s.length:Int))=true by simp;omega,Cz]
 have hr:Ta (i:Int) 64=some ((i%64:Nat):Int):=Ux zD
 have hq:Uv (i:Int) 64=some ((i / 64:Nat):Int):=dL zD zO
 have hj:HQ s (X.take i) (i:Int) k (B (i / 64))=k (X.take i++[s.getD i 0 ^^^ (B (i / 64)).getD (i%64) 0],B (i / 64),(i:Int)+1):=by
  have hbl:=hL' (i / 64)
  unfold HQ
  rw[C2 (k:=i) 0 rfl hi,AB,hr,AB,C2 (k:=i%64) 0 rfl zO,AB,DX zQ zQ,AB]
  simp only[ret]
  rw[Cw zO zO]
 rw[hr,AB]
 by_cases h0:i%64=0
 rw[show decide (((i%64:Nat):Int)=0)=true by simp;omega]
 simp only[Cz]
 have hu:Ep ((i / 64:Nat):Int)=UInt32.ofNat (i / 64):=by
  simp only[Ep]
  congr 1
  omega
 rw[hq,AB,hu,hB',AB]
 exact hj
 rw[show decide (((i%64:Nat):Int)=0)=false by simp;omega]
 simp only[CE]
 rw[if_neg (show ¬i=0 by omega),show(i-1) / 64=i / 64 by omega]
 exact hj
 simp only[Hh,show decide ((s.length:Int)<(s.length:Int))=false by simp,CE,Lj]
 rw[List.take_of_length_le zO]
end

section
theorem Yg(x:UInt32)(n:Nat)(h:n≤32):CG x (n:Int)=some (Jw x n):=by
 unfold CG
 rw[U2,AB,Cw zO zO,show(32-(n:Int))=((32-n:Nat):Int) by omega,U2,AB]
 rfl
theorem i5(s:List UInt8)(w:List UInt32)(h:16≤w.length):Q2 s w=w.getD (w.length-16) 0+lg (w.getD (w.length-15) 0)+w.getD (w.length-7) 0+lh (w.getD (w.length-2) 0):=by
 unfold Q2
 rw[if_neg zO]
 ac_rfl
theorem lG{h:List UInt32}(hh:h.length=8){n:Nat}(hm:64<n):∀f:List UInt32,f.length=8→Ge n h f=some (List.zipWith (·+·) f h):=by
 intro f hf
 have hfl:h.length=f.length:=zO
 unfold Ge Ks
 refine(congrArg (CO _ n) ?_).trans (Ec (fun i=>(RU f h i,(i:Int))) 8 (fun i hi k=>?_) (fun k=>?_) zO)
 simp[RU]
 have ei:((i+1:Nat):Int)=(i:Int)+1:=zO
 have hml:=Us f h hfl i
 dsimp only
 rw[ei,←Y6 f h hfl i zO,←Y5 f h hfl i zO]
 simp only[Gu,show decide ((i:Int)<8)=true by simp;omega,Cz,ret]
 rw[C2 (k:=i) 0 rfl zO,AB,C2 (k:=i) 0 rfl zO,AB,AB,Lf rfl zO,AB,Cw zO zO]
 simp only[Gu,show decide (((8:Nat):Int)<8)=false by decide,CE,Kq]
 have:=Xw f h hfl
 rw[hf]at this
 rw[this]
theorem lF{T h:List UInt32}(hT:T.length=64)(hh:h.length=8){n:Nat}(hm:64<n):∀w:List UInt32,w.length=64→Gc n T h w=some (List.zipWith (·+·) h (GO T w h 64).list):=by
 intro w hw
 have t6:∀x,CG x 6=some (Jw x 6):=fun x=>Yg x 6 zD
 have t11:∀x,CG x 11=some (Jw x 11):=fun x=>Yg x 11 zD
 have t25:∀x,CG x 25=some (Jw x 25):=fun x=>Yg x 25 zD
 have t2:∀x,CG x 2=some (Jw x 2):=fun x=>Yg x 2 zD
 have t13:∀x,CG x 13=some (Jw x 13):=fun x=>Yg x 13 zD
 have t22:∀x,CG x 22=some (Jw x 22):=fun x=>Yg x 22 zD
 have hz:∀q:M6,Ge n h q.list=some (List.zipWith (·+·) h q.list):=fun q=>by
  rw[lG hh hm _ rfl,List.zipWith_comm]
  simp only[UInt32.add_comm]
 have hN:∀i,GO T w h (i+1)=(GO T w h i).step (T.getD i 0) (w.getD i 0):=fun i=>rfl
 have h0:(GO T w h 0).list=h:=Qf hh
 generalize GO T w h=R at hN h0 ⊢
 unfold Gc Kr
 rw[DX (by simp[hh]) (by simp[hh]),AB,List.nil_append]
 refine(congrArg (CO _ n) ?_).trans (Ec (fun i=>((R i).list,(i:Int))) 64 (fun i hi k=>?_) (fun k=>?_) zO)
 simp[h0]
 have ei:((i+1:Nat):Int)=(i:Int)+1:=zO
 dsimp only
 rw[ei,hN]
 generalize R i=q
 have q0:BE q.list 0=some q.a:=rfl
 have q1:BE q.list 1=some q.b:=rfl
 have q2:BE q.list 2=some q.c:=rfl
 have q3:BE q.list 3=some q.d:=rfl
 have q4:BE q.list 4=some q.e:=rfl
 have q5:BE q.list 5=some q.f:=rfl
 have q6:BE q.list 6=some q.g:=rfl
 have q7:BE q.list 7=some q.i:=rfl
 simp only[Gt,show decide ((i:Int)<64)=true by simp;omega,Cz,Bw,q0,q1,q2,q3,q4,q5,q6,q7,AB,t6,t11,t25,t2,t13,t22]
 rw[C2 (k:=i) 0 rfl zO,AB,C2 (k:=i) 0 rfl zO,AB,Cw zO zO]
 simp only[M6.step,M6.list,M6.t1,M6.t2]
 simp only[Gt,show decide (((64:Nat):Int)<64)=false by decide,CE]
 exact hz _
theorem ox(T h:List UInt32)(s:List UInt8)(hT:T.length=64)(hh:h.length=8)(hs:s.length=64){n:Nat}(hm:64<n):LO n T h s=some (Qz T h s):=by
 
 have t7:∀x,CG x 7=some (Jw x 7):=fun x=>Yg x 7 zD
 have t18:∀x,CG x 18=some (Jw x 18):=fun x=>Yg x 18 zD
 have t17:∀x,CG x 17=some (Jw x 17):=fun x=>Yg x 17 zD
 have t19:∀x,CG x 19=some (Jw x 19):=fun x=>Yg x 19 zD
 unfold LO IM
 have hW:∀i,E0 s (i+1)=E0 s i++[Q2 s (E0 s i)]:=fun i=>rfl
 have hWl:=Ly s
 have hfin:Gc n T h (E0 s 64)=some (Qz T h s):=by
  unfold Qz Dx
  exact lF hT hh hm _ (hWl 64)
 have hW0:E0 s 0=[]:=rfl
 generalize E0 s=W at hW hWl hfin hW0
 refine(congrArg (CO _ n) ?_).trans (Ec (fun i=>(W i,(i:Int))) 64 (fun i hi k=>?_) (fun k=>?_) hm)
 simp[hW0]
 have ei:((i+1:Nat):Int)=(i:Int)+1:=zO
 have hl:=hWl i
 dsimp only
 rw[ei,hW]
 generalize W i=w at hl
 simp only[Gs,show decide ((i:Int)<64)=true by simp;omega,Cz]
 have hj:∀x:UInt32,(DK 4 w [x]).bind (fun l=>Gd (i:Int) k l)=k (w++[x],(i:Int)+1):=fun x=>by
  rw[DX zQ zQ,AB]
  simp only[Gd,ret]
  rw[Cw zO zO]
 by_cases hlt:i<16
 rw[show decide ((i:Int)<16)=true by simp;omega]
 simp only[Cz]
 rw[Cw zO zO,C2 (k:=4*i) 0 zO zO,AB,Cw zO zO,C2 (k:=4*i+1) 0 zO zO,AB,Cw zO zO,C2 (k:=4*i+2) 0 zO zO,AB,
  Cw zO zO,C2 (k:=4*i+3) 0 zO zO,AB,hj]
 unfold Q2
 rw[if_pos zO,hl]
 rfl
 rw[show decide ((i:Int)<16)=false by simp;omega]
 simp only[CE]
 rw[Cw zO zO,C2 (k:=i-15) 0 zO zO,AB,Cw zO zO,C2 (k:=i-2) 0 zO zO,AB,Cw zO zO,C2 (k:=i-16) 0 zO zO,AB,
  t7,AB,t18,AB,Cw zO zO,C2 (k:=i-7) 0 zO zO,AB,t17,AB,t19,AB,hj,i5 s w zO,hl]
 rfl
 simp only[Gs,show decide (((64:Nat):Int)<64)=false by decide,CE]
 exact hfin
theorem dT(x:UInt64):shr64 x 0=x:=by
 apply UInt64.toNat_inj.1
 have:=x.toNat_lt
 simp[shr64]
theorem ij(s:List UInt8)(hs:s.length≤1099511627776){n:Nat}(hm:64<n):JE n s=some (s++LF s.length):=by
 unfold JE
 rw[Ee zQ,AB]
 unfold Iu
 have hp:LY s.length<64:=by unfold LY;omega
 refine(congrArg (CO _ n) ?_).trans (Ec (fun i=>s++[128]++List.replicate i 0) (LY s.length) (fun i hi k=>?_) (fun k=>?_) zO)
 simp
 have hl:(s++[128]++List.replicate i (0:UInt8)).length=s.length+1+i:=by simp;omega
 have st:s++[128]++List.replicate (i+1) (0:UInt8)=s++[128]++List.replicate i 0++[0]:=by rw[List.replicate_succ',List.append_assoc _ _ [0]]
 rw[st]
 generalize s++[128]++List.replicate i (0:UInt8)=u at hl
 simp only[Fp]
 rw[hl,show(64:Int)=((64:Nat):Int)from rfl,Ux zD,AB,show(!decide ((((s.length+1+i)%64:Nat):Int)=56))=true by unfold LY at hi;simp;omega]
 simp only[Cz]
 rw[Ee zQ,AB]
 have hl:(s++[128]++List.replicate (LY s.length) (0:UInt8)).length=s.length+1+LY s.length:=by simp;omega
 have ht:s++LF s.length=s++[128]++List.replicate (LY s.length) 0++Rp (Cn s.length*8):=by simp[LF]
 rw[ht]
 generalize s++[128]++List.replicate (LY s.length) (0:UInt8)=u at hl
 simp only[Fp]
 rw[hl,show(64:Int)=((64:Nat):Int)from rfl,Ux zD,AB,show(!decide ((((s.length+1+LY s.length)%64:Nat):Int)=56))=false by unfold LY;simp;omega]
 simp only[CE,It,ret]
 rw[Ee zQ,AB]
 simp only[Rp,dT]
theorem fR(T:List UInt32)(s:List UInt8)(hT:T.length=64)(hs:s.length≤1099511627776){n:Nat}(hm:64<n)(hm2:s.length<n):Iv n T s=some (M1 T s):=by
 unfold Iv
 rw[ij s hs hm,AB]
 have hw:(s++LF s.length).length%64=0:=by
  simp[LF,LY,Rp];omega
 have hlen:(s++LF s.length).length≤s.length+73:=by
  simp[LF,LY,Rp];omega
 have hsum:M1 T s=(GT T Dl (s++LF s.length) ((s++LF s.length).length / 64)).list.flatMap Gk:=by
  unfold M1
  rw[LI]
 rw[hsum]
 generalize s++LF s.length=f at hw hlen
 
 have hl:∀l:List UInt32,(l.flatMap Gk).length=4*l.length:=by
  intro l
  induction l with
  | nil=>rfl
  | cons x r ih=>rw[List.flatMap_cons,List.length_append,ih,List.length_cons];simp[Gk];omega
 have h1:∀l:List UInt32,l.length=8→JF n l=some (l.flatMap Gk):=by
  intro l h8
  unfold JF Ln
  refine(congrArg (CO _ n) ?_).trans (Ec (fun i=>((l.take i).flatMap Gk,(i:Int))) 8 (fun i hi k=>?_) (fun k=>?_) zO)
  simp
  have ei:((i+1:Nat):Int)=(i:Int)+1:=zO
  have st:(l.take (i+1)).flatMap Gk=(l.take i).flatMap Gk++Gk (l.getD i 0):=by
   rw[List.take_add_one,Jc 0 zO,List.flatMap_append]
   simp
  dsimp only
  rw[st,ei]
  simp only[Hj,show decide ((i:Int)<8)=true by simp;omega,Cz,ret]
  rw[C2 (k:=i) 0 rfl zO,AB,AB,AB,AB,DX (by rw[hl];simp;omega) (by rw[hl];simp;omega),AB,Cw zO zO]
  rfl
  simp only[Hj,show decide (((8:Nat):Int)<8)=false by decide,CE,Ll]
  rw[List.take_of_length_le zO]
 unfold Lm
 have hfirst:Mf=some Dl.list:=rfl
 rw[hfirst,AB]
 have hP:∀j,(GT T Dl f (j+1)).list=Qz T (GT T Dl f j).list ((f.drop (64*j)).take 64):=fun j=>by
  show(Tu T _ _).list=_
  unfold Tu
  exact Qf (TX rfl)
 have hP8:∀j,(GT T Dl f j).list.length=8:=fun j=>rfl
 have hP0:(GT T Dl f 0).list=Dl.list:=rfl
 generalize (fun j=>(GT T Dl f j).list)=R at hP hP8 hP0
 generalize hR:(fun j=>(GT T Dl f j).list)=R at*
 have hP':∀j,R (j+1)=Qz T (R j) ((f.drop (64*j)).take 64):=fun j=>by rw[←hR];exact hP j
 have hP8':∀j,(R j).length=8:=fun j=>by rw[←hR];exact hP8 j
 have hP0':R 0=Dl.list:=by rw[←hR];exact hP0
 have hRN:(GT T Dl f (f.length / 64)).list=R (f.length / 64):=by rw[←hR]
 rw[hRN]
 clear hR hRN hP hP8 hP0
 refine(congrArg (CO _ n) ?_).trans (Ec (fun j=>(R j,((64*j:Nat):Int))) (f.length / 64) (fun j hj k=>?_) (fun k=>?_) zO)
 simp[hP0']
 have ej:((64*(j+1):Nat):Int)=((64*j:Nat):Int)+64:=zO
 dsimp only
 rw[hP',ej]
 simp only[Hi,show decide (((64*j:Nat):Int)<(f.length:Int))=true by simp;omega,Cz,ret]
 rw[Cw zO zO,dU (p:=64*j) (q:=64*j+64) rfl zO zO zO,AB,show 64*j+64-64*j=64 by omega,ox T (R j) _ hT (hP8' j) zQ hm,AB]
 simp only[Hi,show decide (((64*(f.length / 64):Nat):Int)<(f.length:Int))=false by simp;omega,CE]
 exact h1 _ (hP8' _)
theorem hE(T:List UInt32)(key:List UInt8)(c:UInt8)(hT:T.length=64)(hs:key.length≤1099511627776){n:Nat}(hm:64<n)(hm2:key.length<n):JY n T key c=some (Fw T key c):=by
 have h1:∀u:List UInt8,u.length≤64→Gf n c u=some ((List.range 64).map fun i=>u.getD i 0 ^^^ c):=by
  intro u hu
  unfold Gf IN
  refine(congrArg (CO _ n) ?_).trans (Ec (fun i=>((List.range i).map (fun i=>u.getD i 0 ^^^ c),(i:Int))) 64 (fun i hi k=>?_) (fun k=>?_) hm)
  simp
  have ei:((i+1:Nat):Int)=(i:Int)+1:=zO
  have st:(List.range (i+1)).map (fun i=>u.getD i 0 ^^^ c)=(List.range i).map (fun i=>u.getD i 0 ^^^ c)++[u.getD i 0 ^^^ c]:=by simp[List.range_succ]
  have hj:Gg c ((List.range i).map (fun i=>u.getD i 0 ^^^ c)) (i:Int) k (u.getD i 0)=k ((List.range i).map (fun i=>u.getD i 0 ^^^ c)++[u.getD i 0 ^^^ c],(i:Int)+1):=by
   unfold Gg
   rw[DX zQ zQ,AB]
   simp only[ret]
   rw[Cw zO zO]
  dsimp only
  rw[st,ei,←hj]
  simp only[Gv,show decide ((i:Int)<64)=true by simp;omega,Cz]
  by_cases h0:i<u.length
  rw[show decide ((i:Int)<(u.length:Int))=true by simp;omega]
  simp only[Cz]
  rw[C2 (k:=i) 0 rfl h0,AB]
  rw[show decide ((i:Int)<(u.length:Int))=false by simp;omega]
  simp only[CE]
  rw[show u.getD i 0=0 by simp[List.getD_eq_getElem?_getD,List.getElem?_eq_none (show u.length≤i by omega)]]
  simp only[Gv,show decide (((64:Nat):Int)<64)=false by decide,CE,Kt]
 unfold JY Fw FI
 by_cases h0:64<key.length
 rw[show decide (64<(key.length:Int))=true by simp;omega,if_pos h0]
 simp only[Cz]
 rw[fR T key hT hs hm hm2,AB]
 exact h1 _ (by rw[I7];omega)
 rw[show decide (64<(key.length:Int))=false by simp;omega,if_neg h0]
 simp only[CE]
 exact h1 _ zO
theorem k7(T:List UInt32)(key m:List UInt8)(hT:T.length=64)(hk:key.length≤1048576)(hs:m.length≤1048576){n:Nat}(hm:2097152<n):Iy n T key m=some (RT T key m):=by
 unfold Iy Mg
 have l1:=LZ T key 54
 have l2:=LZ T key 92
 rw[hE T key 54 hT zO zO zO,AB,Ee zO,AB,hE T key 92 hT zO zO zO,AB,fR T _ hT zQ zO zQ,AB,
  Ee (by rw[I7];omega),AB,AB]
 have e:BE [Fw T key 54++m,Fw T key 92++M1 T (Fw T key 54++m)] 1=some (Fw T key 92++M1 T (Fw T key 54++m)):=rfl
 rw[e,AB,fR T _ hT (by rw[List.length_append,I7];omega) zO (by rw[List.length_append,I7];omega),AB]
 unfold RT
 exact Eq.refl _
theorem kl(T:List UInt32)(key label:List UInt8)(hT:T.length=64)(hk:key.length≤1048576)(hl:label.length≤1000000){n:Nat}(hm:2097152<n):HR n T key label 32=some (GR T key label,0):=by
 have hml:∀m,(RT T key m).length=32:=fun m=>Hu T key m
 have hmac:Iy n T key ([]++label++[Ig 1])=some (GR T key label):=by
  rw[k7 T key _ hT hk zQ hm]
  rfl
 have he:(GR T key label).length=32:=hml _
 generalize GR T key label=x at hmac he ⊢
 unfold HR Ix
 rw[show((decide ((32:Int)<0))||(decide ((8160:Int)<32)))=false by decide]
 simp only[CE]
 obtain⟨m,rfl⟩:∃m,n=m+1+1:=⟨n-2,by omega⟩
 rw[V4]
 simp only[Fq]
 rw[show decide (((([]:List UInt8).length:Nat):Int)<32)=true by decide]
 simp only[Cz]
 rw[Ee zQ,AB,Ee zQ,AB,hmac,AB,Ee zQ,AB]
 rw[Bw,List.nil_append,V4]
 simp only[Fq]
 rw[show decide (((x.length:Nat):Int)<32)=false by rw[he];decide]
 simp only[CE,Iw]
 rw[show Im x 0 32=some ((x.drop 0).take (32-0))from dU (p:=0) (q:=32) rfl rfl zO zO,AB]
 simp[List.take_of_length_le,he]
end

section
theorem aq(x:UInt64)(w:Nat)(hw:w≤8){n:Nat}(hm:8<n):Dw n x (w:Int)=some (CZ x w):=by
 unfold Dw Lr
 have hS:∀i,i<8→shr64 x (8*(i+1))=shr64 x (8*i) / 256:=fun i hi=>by
  apply UInt64.toNat_inj.1
  rw[UInt64.toNat_div,KU _ _ zO,KU _ _ zO,show(256:UInt64).toNat=2^8 from rfl,Nat.div_div_eq_div_mul,←Nat.pow_add,show 8*(i+1)=8*i+8 by omega]
 have hP:∀i,CZ x (i+1)=CZ x i++[(shr64 x (8*i)).toUInt8]:=SU x
 have h0:shr64 x (8*0)=x:=by rw[Nat.mul_zero,dT]
 have hl:=B6 x
 have hp0:CZ x 0=[]:=rfl
 generalize CZ x=Pt at hP hl hp0 ⊢
 generalize hq:(fun i=>shr64 x (8*i))=S
 have hS':∀i,i<8→S (i+1)=S i / 256:=fun i hi=>by rw[←hq];exact hS i hi
 have hP':∀i,Pt (i+1)=Pt i++[(S i).toUInt8]:=fun i=>by rw[hP,←hq]
 have h0':S 0=x:=by rw[←hq];exact h0
 clear hS hP h0 hq
 refine(congrArg (CO _ n) ?_).trans (Ec (fun i=>(S i,Pt i,(i:Int))) w (fun i hi k=>?_) (fun k=>?_) zO)
 simp[h0',hp0]
 have ei:((i+1:Nat):Int)=(i:Int)+1:=zO
 dsimp only
 rw[ei,hP',hS' i zO]
 simp only[Hm,show decide ((i:Int)<(w:Int))=true by simp;omega,Cz]
 have hlp:=hl i
 rw[Ee zQ,AB,show RA (S i) 256=some (S i / 256)from rfl,AB,Bw,Cw zO zO]
 simp only[Hm,show decide ((w:Int)<(w:Int))=false by simp,CE,Lq]
theorem k9(h:DC){n:Nat}(hm:8<n):KC n h=some (Kz h):=by
 unfold KC
 rw[show Dw n h.boot.toUInt64 4=some (CZ h.boot.toUInt64 4)from aq _ 4 zD hm,AB,show Dw n h.seq 8=some (CZ h.seq 8)from aq _ 8 zD hm,AB,Ee (by simp[B6]),AB]
 unfold Kz
 exact Eq.refl _
theorem pf(h:DC){n:Nat}(hm:8<n):Mi n h=some (PB h):=by
 unfold Mi
 have p4:∀x:UInt64,Dw n x 4=some (CZ x 4):=fun x=>aq _ 4 zD hm
 have p8:∀x:UInt64,Dw n x 8=some (CZ x 8):=fun x=>aq _ 8 zD hm
 rw[p4,AB,p4,AB,Ee (by simp[B6]),AB,p4,AB,Ee (by simp[B6]),AB,p8,AB,Ee (by simp[B6]),AB,Ee (by simp[B6]),AB]
 simp[PB,Kz]
theorem hK(T:List UInt32)(k:BP)(hT:T.length=64)(hr:DU [k]=true){n:Nat}(hm:2097152<n):Ja n T k=some (PH T k NZ,PH T k N1,0):=by
 have hl:=WA hr
 unfold Ja
 rw[X4 [k] zS zO,AB,hr]
 simp only[Bool.not_true,CE]
 rw[Ee zS,AB,kl T k.secret _ hT zO zS hm,AB,Ee zS,AB,kl T k.secret _ hT zO zS hm,AB]
 exact Eq.refl _
theorem qo(s:List UInt8){n:Nat}(hm:256<n):Mh n s=some (O8 s):=by
 unfold Mh O8
 by_cases h:198<s.length
 rw[show decide (198<(s.length:Int))=true by simp;omega,if_pos h]
 simp only[Cz]
 rw[show decide (198<(s.length:Int))=false by simp;omega,if_neg h]
 simp only[CE]
 rw[show Uv (s.length:Int) 256=some ((s.length / 256:Nat):Int)from dL (b:=256) zD zO,AB,show Ta (s.length:Int) 256=some ((s.length%256:Nat):Int)from Ux (b:=256) zD,AB,Ee zQ,AB]
 have hp:KQ s=[Ig ((s.length / 256:Nat):Int),Ig ((s.length%256:Nat):Int)]++s++List.replicate (198-s.length) 0:=by
  unfold KQ
  congr 3
  simp only[Ig]
  congr 2
  omega
 rw[hp]
 have hl:([Ig ((s.length / 256:Nat):Int),Ig ((s.length%256:Nat):Int)]++s).length=s.length+2:=by simp
 generalize [Ig ((s.length / 256:Nat):Int),Ig ((s.length%256:Nat):Int)]++s=u at hl
 unfold Lp
 refine(congrArg (CO _ n) ?_).trans (Ec (fun i=>u++List.replicate i 0) (198-s.length) (fun i hi k=>?_) (fun k=>?_) zO)
 simp
 have st:u++List.replicate (i+1) (0:UInt8)=u++List.replicate i 0++[0]:=by rw[List.replicate_succ',List.append_assoc]
 have hl2:(u++List.replicate i (0:UInt8)).length=s.length+2+i:=by simp;omega
 rw[st]
 generalize u++List.replicate i (0:UInt8)=y at hl2
 unfold Hl
 rw[show decide ((y.length:Int)<200)=true by simp;omega]
 simp only[Cz]
 rw[Ee zQ,AB]
 have hl2:(u++List.replicate (198-s.length) (0:UInt8)).length=200:=by simp;omega
 generalize u++List.replicate (198-s.length) (0:UInt8)=y at hl2
 unfold Hl
 rw[show decide ((y.length:Int)<200)=false by simp;omega]
 simp only[CE]
 unfold Lo
 exact Eq.refl _
end

section
theorem kC(T:List UInt32)(k:BP)(h:DC)(body:List UInt8)(hT:T.length=64)(hr:DU [k]=true)(hb:body.length=200){n:Nat}(hm:2097152<n):KB n T k h body=some (Kf T k h body):=by
 unfold KB
 rw[hK T k hT hr hm,AB,k9 h zO,AB,ri _ _ _ (OY T k NZ) (KP h) zO zO zO,AB,pf h zO,AB,Ee (by rw[Hv,Fl];omega),AB]
 rfl
theorem pB(T:List UInt32)(l:List BP)(h:DC)(s:List UInt8)(hT:T.length=64)(hl:l.length≤1048576){n:Nat}(hm:2097152<n):LP n T l h s=some (HM T l h s):=by
 unfold LP
 rw[gi l h.gen hl zO,AB]
 unfold HM
 by_cases hf:(DP l h.gen).2=0
 obtain⟨_,_,_,hr⟩:=Ub hf
 rw[show(!decide ((DP l h.gen).2=0))=false by simp[hf],if_neg (by simp[hf])]
 simp only[CE]
 rw[qo s zO,AB]
 by_cases h1:198<s.length
 rw[if_pos h1,show O8 s=([],50) by unfold O8;rw[if_pos h1]]
 rfl
 rw[if_neg h1,show O8 s=(KQ s,0) by unfold O8;rw[if_neg h1]]
 have hp:=Fj (s:=s) zO
 rw[show(!decide (((KQ s,(0:Int)):List UInt8×Int).2=0))=false from rfl]
 simp only[CE]
 have hbl:=Gl T (DP l h.gen).1 h hp
 rw[kC T _ h _ hT hr hp hm,AB,hK T _ hT hr hm,AB]
 dsimp only
 rw[k7 T _ _ hT (by rw[OY];omega) (by rw[hbl];omega) hm,AB,Ee (by rw[hbl,Hu];omega),AB]
 unfold HX
 exact Eq.refl _
 rw[show(!decide ((DP l h.gen).2=0))=true by simp[hf],if_pos hf]
 simp only[Cz]
end

section
structure WG(k:UInt64)(c:A5):Prop where
 bl:c.blk.length=60
 pl:c.pnd.length=60
 lf:c.left = -1
 on:c.off=false
 rc:c.rcnt=k
theorem lB{k:UInt64}{c:A5}(R:WG k c):Dd c=some (0,c):=by
 unfold Dd FU
 rw[R.lf,show decide ((-1:Int)=0)=false from rfl,CE,R.on,CE,show decide ((0:Int) < -1)=false from rfl,CE]
 rfl
theorem mM{k:UInt64}{c:A5}{p:UInt32}{b:List UInt8}(R:WG k c)(hp:p.toNat<60)(hb:b.length=256):∃c',Ea c p b=some (0,c')∧WG k c':=by
 have h1:decide (p.toUInt64<Cn (c.blk.length:Int))=true:=by
  rw[R.bl,decide_eq_true_eq,UInt64.lt_iff_toNat_lt]
  show p.toUInt64.toNat<60
  simpa using hp
 refine⟨{ c with pnd:=c.pnd.set p.toNat b },?_,⟨R.bl,(List.length_set ..).trans R.pl,R.lf,R.on,R.rc⟩⟩
 unfold Ea Iz
 rw[Bw,AB,h1,hb]
 show(Dd c).bind _=_
 have h2:BE c.pnd ((p.toNat:Nat):Int)=some (c.pnd[p.toNat]'(by rw[R.pl];exact hp)):=by rw[Ez];exact List.getElem?_eq_getElem _
 rw[lB R,AB]
 show(BE c.pnd ((p.toNat:Nat):Int)).bind _=_
 rw[h2,AB,Lf rfl (by rw[R.pl];exact hp),AB]
 rfl
theorem ck{k:UInt64}{c:A5}(R:WG k c):∃c',EZ 2200000 c=some (0,c')∧WG k c':=by
 unfold EZ
 rw[lB R,AB]
 have key:∀(i m:Nat) (x:A5),i≤60→60-i<m→WG k x→∃c',Do (0,c) m (x,(i:Int))=some (0,c')∧WG k c':=by
  intro i m
  induction m generalizing i with
  | zero=>intro x _ h;omega
  | succ m ih=>
   intro x hi hm X
   show ∃c',D6 (0,c) (Do (0,c) m) x (i:Int)=some (0,c')∧WG k c'
   unfold D6
   rw[X.bl]
   by_cases h:i<60
   have h1:BE x.pnd (i:Int)=some (x.pnd[i]'(by rw[X.pl];exact h)):=by rw[Ez];exact List.getElem?_eq_getElem _
   have h2:BE x.blk (i:Int)=some (x.blk[i]'(by rw[X.bl];exact h)):=by rw[Ez];exact List.getElem?_eq_getElem _
   rw[show(decide ((i:Int)<((60:Nat):Int))&&decide (((0,c):Int×A5).1=0))=true by simp;omega,Cz,h1,AB]
   cases (!decide (x.pnd[i]'(by rw[X.pl];exact h)=[]))with
   | true=>
    rw[Cz,AB,h2,AB,Lf rfl (by rw[X.bl];exact h),AB,AB,Lf rfl (by rw[X.pl];exact h),AB]
    unfold Dn
    rw[Bw,Cw zO zO]
    exact ih (i+1) _ zO zO ⟨(List.length_set ..).trans X.bl,(List.length_set ..).trans X.pl,X.lf,X.on,X.rc⟩
   | false=>
    rw[CE]
    unfold Dn
    rw[Bw,Cw zO zO]
    exact ih (i+1) _ zO zO X
   rw[show(decide ((i:Int)<((60:Nat):Int))&&decide (((0,c):Int×A5).1=0))=false by simp;omega,CE]
   exact⟨x,rfl,X⟩
 exact key 0 2200000 c zO zO R
theorem ph{k:UInt64}{c:A5}{t:List UInt8}(R:WG k c)(ht:t.length=32)(hk:k≠18446744073709551615):∃c',Ew c t=some (0,c'):=by
 unfold Ew
 rw[ht,show(!decide (((32:Nat):Int)=32))=false from rfl,CE,zf (by rw[R.rc];exact hk),CE,lB R,AB]
 exact⟨_,rfl⟩
theorem pC{b:List UInt8}(hb:b.length=256):Im b 224 (b.length:Int)=some (b.drop 224):=by
 unfold Im
 rw[if_pos zO,show(224:Int).toNat=224 from rfl,show(b.length:Int).toNat=b.length from rfl,List.take_of_length_le zS]
theorem dR{T:List UInt32}{k:UInt64}{w:Bb}{c:A5}{p:UInt32}{s:List UInt8}(hT:T.length=64)(hr:w.ring=Di 1)(hg:w.gen=1)(R:WG k c)(hp:p.toNat<60)(hs:s.length≤198):
  ∃tag c',Ex 2200000 T w c p s=some (tag,0,{ w with num:=w.num+1 },c')∧tag.length=32∧WG k c':=by
 have hb:=Ke T (SS 0) ⟨p,w.gen,w.boot,w.num⟩ hs
 have hse:HM T (Di 1) ⟨p,w.gen,w.boot,w.num⟩ s=(HX T (SS 0) ⟨p,w.gen,w.boot,w.num⟩ s,0):=by
  have:=ZH (T:=T) (l:=Di 1) (h:=⟨p,w.gen,w.boot,w.num⟩) (s:=s) (by rw[DR];omega) (by rw[hg];exact Xb zO zO) hs
  unfold Vd at this
  rw[if_pos ⟨by rw[DR];omega,by omega⟩]at this
  exact zI this
 obtain⟨c',hw,R'⟩:=mM R hp hb
 refine⟨(HX T (SS 0) ⟨p,w.gen,w.boot,w.num⟩ s).drop 224,c',?_,by simp[hb],R'⟩
 unfold Ex
 rw[hr,pB T (Di 1) _ s hT (by rw[DR];omega) zO,hse,AB]
 show(Ea c p _).bind _=_
 rw[hw,AB]
 show(Im _ 224 _).bind _=_
 rw[pC hb,AB]
theorem qp:∃t,JH 2200000 ⟨1,0,0,0,[],[],0,[]⟩=some (t,0)∧t.length≤198:=by
 have h:(JH 2200000 ⟨1,0,0,0,[],[],0,[]⟩).map (fun y=>(y.2,decide (y.1.length≤198)))=some (0,true):=zK
 obtain⟨⟨t,e⟩,h1,h2⟩:=Option.map_eq_some_iff.1 h
 simp only[Prod.mk.injEq,decide_eq_true_eq]at h2
 obtain⟨rfl,h2⟩:=h2
 exact⟨t,h1,h2⟩
theorem il{T:List UInt32}(hT:T.length=64):∃s w c,JJ 2200000 T (r0 60) (Di 1)=some (some (s,w),0,c):=by
 have hr1:DU (Di 1)=true:=RB 1 zO
 have hn:JG 2200000 (Di 1)=some (1,0):=by
  unfold JG
  rw[X4 _ (by rw[DR];omega) zO,hr1]
  rfl
 have R0:WG 0 { r0 60 with rboots:=1 }:=⟨List.length_replicate ..,List.length_replicate ..,rfl,rfl,rfl⟩
 have hst:HD (r0 60)=some (1,0,{ r0 60 with rboots:=1 }):=rfl
 have hv:∃l,Mp 2200000 { r0 60 with rboots:=1 } (Di 1) 1 1=some (some { ring:=Di 1,gen:=1,boot:=1,num:=0,taken:=l },0)∧l.length=60∧BE l 2=some false:=by
  refine⟨((List.replicate 60 false).set 0 true).set 1 true,?_,rfl,rfl⟩
  unfold Mp
  rw[gi (Di 1) 1 (by rw[DR];omega) zO,Xb zO zO,AB]
  rfl
 obtain⟨l,hv,hl,h2⟩:=hv
 obtain⟨t,ht,htl⟩:=qp
 generalize hw:({ ring:=Di 1,gen:=1,boot:=1,num:=0,taken:=l }:Bb)=w at hv
 generalize hc:({ r0 60 with rboots:=1 }:A5)=c at hv hst R0
 have wr:w.ring=Di 1:=by rw[←hw]
 have wg:w.gen=1:=by rw[←hw]
 have wt:w.taken=l:=by rw[←hw]
 obtain⟨tag,c1,hs1,ltag,R1⟩:=dR hT wr wg R0 (show(Ep 2).toNat<60 by decide) htl
 have hwr:Fr 2200000 T w c t=some (⟨2,tag⟩,0,{ w with num:=w.num+1,taken:=l.set 2 true },c1):=by
  unfold Fr
  rw[zf zO,CE]
  show EO 2200000 T t (F1 2200000 T t 2199999) w c 0 [] 2=_
  unfold EO
  rw[wt,hl,show decide ((2:Int)<((60:Nat):Int))=true from rfl,Cz,h2,AB,CE,hs1,AB]
  simp only[decide_true,Bool.not_true,CE]
  rw[wt,h2,AB,Lf (show(2:Int)=((2:Nat):Int)from rfl) zO,AB]
  rfl
 have hsv:LR 2200000 T w c=some ([⟨t,2,tag⟩],0,{ w with num:=w.num+1,taken:=l.set 2 true },c1):=by
  have hpl:Eb 2200000 T { had:=[],out:=[],took:=[],err:=0,must:=[] } w c ⟨1,0,0,0,[],[],0,[]⟩=some (⟨2,tag⟩,{ had:=[],out:=[⟨t,2,tag⟩],took:=[2],err:=0,must:=[] },{ w with num:=w.num+1,taken:=l.set 2 true },c1):=by
   unfold Eb
   rw[ht,AB]
   show Eh 2200000 T w c (t,0) { had:=[],out:=[],took:=[],err:=0,must:=[] } 0 []=_
   unfold Eh
   rw[hwr,AB]
   rfl
  have hnd:Fs 2200000 T { had:=[],out:=[],took:=[],err:=0,must:=[] } w c=some (⟨2,tag⟩,{ had:=[],out:=[⟨t,2,tag⟩],took:=[2],err:=0,must:=[] },{ w with num:=w.num+1,taken:=l.set 2 true },c1):=by
   show EP 2200000 T (F2 2200000 T 2199999) { had:=[],out:=[],took:=[],err:=0,must:=[] } w c 0 [] 0=_
   unfold EP
   show(Eb 2200000 T { had:=[],out:=[],took:=[],err:=0,must:=[] } w c ⟨1,0,0,0,[],[],0,[]⟩).bind _=_
   rw[hpl,AB]
   rfl
  unfold LR
  show(Fs 2200000 T { had:=[],out:=[],took:=[],err:=0,must:=[] } w c).bind _=_
  rw[hnd,AB]
  rfl
 generalize hw2:({ w with num:=w.num+1,taken:=l.set 2 true }:Bb)=w2 at hsv
 have w2r:w2.ring=Di 1:=by rw[←hw2];exact wr
 have w2g:w2.gen=1:=by rw[←hw2];exact wg
 obtain⟨c2,hf,R2⟩:=ck R1
 have hri:G4 ⟨1,1,0,2,tag⟩=some true:=by
  unfold G4 F0
  rw[ltag]
  rfl
 have put8:∀x:UInt64,∃a,Hp 2200000 x 8=some a∧a.length=8:=fun x=>⟨_,rfl,rfl⟩
 have put4:∀x:UInt64,∃a,Hp 2200000 x 4=some a∧a.length=4:=fun x=>⟨_,rfl,rfl⟩
 obtain⟨a1,p1,q1⟩:=put8 1
 obtain⟨a2,p2,q2⟩:=put4 (1:UInt32).toUInt64
 obtain⟨a3,p3,q3⟩:=put4 (0:UInt32).toUInt64
 obtain⟨a4,p4,q4⟩:=put4 (2:UInt32).toUInt64
 have he:∃u,JI 2200000 ⟨1,1,0,2,tag⟩=some (u,0)∧u.length≤198:=by
  refine⟨[115,112,104,114]++a1++a2++a3++a4++tag,?_,by simp[q1,q2,q3,q4,ltag]⟩
  unfold JI ED
  rw[hri,AB]
  simp only[Bool.not_true,CE]
  rw[p1,AB,if_pos (by simp[q1]),AB,p2,AB,if_pos (by simp[q1,q2]),AB,p3,AB,if_pos (by simp[q1,q2,q3]),AB,p4,AB,if_pos (by simp[q1,q2,q3,q4]),AB,if_pos (by simp[q1,q2,q3,q4,ltag]),AB]
 obtain⟨u,he,hu⟩:=he
 obtain⟨tg2,c3,hs3,ltg2,R3⟩:=dR (T:=T) (p:=(1:UInt64).toUInt32) hT w2r w2g R2 zD hu
 obtain⟨c4,hf4,R4⟩:=ck R3
 obtain⟨c5,ha⟩:=ph R4 ltg2 zD
 have hpub:∀s,EH 2200000 T s w2 c1 [⟨t,2,tag⟩]=some (0,{ w2 with num:=w2.num+1 },c5):=by
  intro s
  unfold EH
  have hnx:LS 0 w2.gen 0 ⟨2,tag⟩=some (⟨1,1,0,2,tag⟩,0):=by
   rw[w2g]
   unfold LS
   rw[show decide ((0:UInt64)=18446744073709551615)=false from rfl,CE,show(decide ((0:Int)<0)||decide ((1000:Int)<0))=false from rfl,CE]
   show(G4 ⟨1,1,0,2,tag⟩).bind _=_
   rw[hri]
   rfl
  rw[hf,AB]
  simp only[decide_true,Bool.not_true,CE]
  rw[show BE [(⟨t,2,tag⟩:BL)] (wI (([(⟨t,2,tag⟩:BL)].length:Int)-1))=some ⟨t,2,tag⟩from rfl,AB,R2.rc,hnx,AB]
  simp only[decide_true,Bool.not_true,CE]
  rw[he,AB,show VU (1:UInt64) 2=some 1 from rfl,AB]
  unfold Ho
  rw[show decide ((1:UInt32)<(1:UInt64).toUInt32)=false from rfl,CE,zf (show ¬(198<(u.length:Int)) by omega),CE,hs3,AB,AB]
  simp only[decide_true,Bool.not_true,CE]
  rw[hf4,AB]
  simp only[decide_true,Bool.not_true,CE]
  rw[ha,AB]
 have hch:∃s',FV 2200000 T { rows:=[],had:=[],gens:=[],bad:=false } w c=some (0,s',{ w2 with num:=w2.num+1 },c5):=by
  refine⟨{ rows:=[],had:=[⟨t,2,tag⟩],gens:=[w2.gen],bad:=false },?_⟩
  unfold FV
  rw[hsv,AB]
  show(EH 2200000 T _ w2 c1 [⟨t,2,tag⟩]).bind _=_
  rw[hpub,AB]
  rfl
 obtain⟨s',hch⟩:=hch
 refine⟨s',{ w2 with num:=w2.num+1 },c5,?_⟩
 unfold JJ Ni
 rw[hn,AB]
 simp only[decide_true,Bool.not_true,CE]
 rw[Bw,AB,show decide ((r0 60).rcnt=18446744073709551615)=false from rfl,CE,hst,AB]
 simp only[decide_true,Bool.not_true,CE]
 rw[hv,AB,AB,hch,AB]
 rfl
end

section
variable {K:Nat→Prop}{w0:World}{H:List AY}
end

section
variable {P:Program}{K:Nat→Prop}{w0:World}{l:Tm}{H:List AY}
theorem pX{fn:Func}{t u s r q:Nat}{v v' v'' v4 v5:Value}(hr:fn.results=#[.tmp t,.tmp u,.tmp s,.tmp r,.tmp q])(hv:look l t=some v)(hv':look l u=some v')(hv'':look l s=some v'')(h4:look l r=some v4)(h5:look l q=some v5):∀a w,Jj l a→GQ K w0 H w→(results fn a.tmps).run P w=.ok (.tuple #[v,v',v'',v4,v5]) w:=by
 intro a w ha _
 have h1:=Fe ha hv
 have h2:=Fe ha hv'
 have h3:=Fe ha hv''
 have h4:=Fe ha h4
 have h5:=Fe ha h5
 simp[results,hr,←h1,←h2,←h3,←h4,←h5]
end

section
variable {K:Nat→Prop}{w0:World}{H:List AY}
def JW(n:Nat)(T:List UInt32):Option (Option (C6×Bx×Az×Ah×ZQ×Dy×Bb×A5)×Bool):=
 (JV 60).bind fun y1=>
 (y1.1).bind fun d1=>
 (Kw n 60).bind fun y2=>
 (y2.1).bind fun d2=>
 cond ((!decide (y1.2=0))||(!decide (y2.2=0)))
 (
  some (none,false))
 (
  (Hz n 1).bind fun y3=>
  (JL n T d1 y3).bind fun y4=>
  (y4.1).bind fun d3=>
  (Hz n 1).bind fun y5=>
  (JJ n T d2 y5).bind fun y6=>
  (y6.1).bind fun d4=>
  (SG d3.1 d3.2 y4.2.2).bind fun y7=>
  (y7.1).bind fun d5=>
  ret (((decide (y4.2.1=0))&&(decide (y6.2.1=0)))&&(decide (y7.2=0))) fun x1=>
  some (some (d5,d3.1,d3.2,y4.2.2,({ ops:=[],isOpen:=false,closed:=false }:ZQ),d4.1,d4.2,y6.2.2),x1))
theorem TJ{n:Nat}{T:List UInt32}{r:Option (C6×Bx×Az×Ah×ZQ×Dy×Bb×A5)×Bool}(h:JW n T=some r)(hS:GF K w0 T)(hT:JB K w0 2 64 T):zC K w0 7 [] [] H (fun u M=>(r.1=none∧u=.tuple #[.pointer none,.pointer none,.pointer none,.pointer none,vB r.2]∧M=[])∨(∃(d:C6×Bx×Az×Ah×ZQ×Dy×Bb×A5) (bn0:Nat) (vn0x0:Value) (bn1:Nat) (vn1x0:Value) (vn1x1:Value) (vn1x2:Value) (vn1x5:Value) (bn2:Nat) (vn2x1:Value) (mn2x5:Nat) (bn3:Nat) (vn3x4:Value) (mn3x5:Nat) (mn3x6:Nat) (bn4:Nat) (vn4x1:Value) (bn5:Nat) (vn5x1:Value) (vn5x2:Value) (vn5x3:Value) (bn6:Nat) (vn6x1:Value) (vn6x5:Value) (bn7:Nat) (vn7x0:Value) (vn7x1:Value) (vn7x2:Value),r.1=some d∧u=.tuple #[vP bn0 0,vP bn1 0,vP bn3 0,vP bn4 0,vB r.2]∧M=[AK bn0 (.cells #[vn0x0,vB d.1.isOpen,vP bn1 0,vB d.1.closed] 80),AC 83 5 vn0x0 B7 d.1.ops,AK bn1 (.cells #[vn1x0,vn1x1,vn1x2,vP bn3 0,vP bn2 0,vn1x5,AA d.2.1.gen,vB d.2.1.bad] 94),AC 35 4 vn1x0 AW d.2.1.rows,AC 190 3 vn1x1 AU d.2.1.pages,DA vn1x2 AA AA d.2.1.gens,AC 114 2 vn1x5 AZ d.2.1.ring,AK bn2 (.cells #[vP bn3 0,vn2x1,AA d.2.2.1.gen,AA d.2.2.1.boot,AV d.2.2.1.seals,.map (some mn2x5)] 181),AC 114 2 vn2x1 AZ d.2.2.1.ring,Ab mn2x5 AA vB d.2.2.1.taken,AK bn3 (.cells #[vB d.2.2.2.1.off,vB d.2.2.2.1.isCut,vI d.2.2.2.1.lasts,vI d.2.2.2.1.counts,vn3x4,.map (some mn3x5),.map (some mn3x6),AV d.2.2.2.1.rcnt,vS d.2.2.2.1.rtag,AA d.2.2.2.1.rboots] 100),AC 9 1 vn3x4 eS d.2.2.2.1.blocks,Ab mn3x5 AA vS d.2.2.2.1.pend,Ab mn3x6 AA vB d.2.2.2.1.bad,AK bn4 (.cells #[vP bn5 0,vn4x1,vB d.2.2.2.2.1.isOpen,vB d.2.2.2.2.1.closed] 76),AC 83 5 vn4x1 B7 d.2.2.2.2.1.ops,AK bn5 (.cells #[vP bn6 0,vn5x1,vn5x2,vn5x3,vB d.2.2.2.2.2.1.bad] 122),AC 35 4 vn5x1 AW d.2.2.2.2.2.1.rows,AC 190 3 vn5x2 AU d.2.2.2.2.2.1.had,AC 33 1 vn5x3 BQ d.2.2.2.2.2.1.gens,AK bn6 (.cells #[vP bn7 0,vn6x1,AA d.2.2.2.2.2.2.1.gen,AA d.2.2.2.2.2.2.1.boot,AV d.2.2.2.2.2.2.1.num,vn6x5] 153),AC 114 2 vn6x1 AZ d.2.2.2.2.2.2.1.ring,AC 4 1 vn6x5 eB d.2.2.2.2.2.2.1.taken,AK bn7 (.cells #[vn7x0,vn7x1,vn7x2,AV d.2.2.2.2.2.2.2.rcnt,vS d.2.2.2.2.2.2.2.rtag,AA d.2.2.2.2.2.2.2.rboots,vI d.2.2.2.2.2.2.2.left,vB d.2.2.2.2.2.2.2.off] 107),AC 9 1 vn7x0 eS d.2.2.2.2.2.2.2.blk,AC 9 1 vn7x1 eS d.2.2.2.2.2.2.2.pnd,AC 4 1 vn7x2 eB d.2.2.2.2.2.2.2.bads])):=by
 unfold JW at h
 refine Td.enter Tryz.func7 rfl rfl ?_
 refine Y (U E (U E (U E (U E (U E (V (Y ?_)))))))
 refine AE h fun y1 hy1 h=>?_
 refine AE h fun d1 hd1 h=>?_
 refine Bd (vs:=[_]) (Hin:=[]) (Hr:=_) E E ⟨E,zT⟩ p9 E E (YQ hy1) ?_
 rintro _ _ (⟨hn,-,-⟩ | ⟨d_,b1,v1,m1,m2,hn,rfl,rfl⟩)
 rw[hd1]at hn;cases hn
 obtain rfl:d1=d_:=zI (hd1.symm.trans hn)
 refine⟨trivial,?_⟩
 refine J E (Ae E E E (Ae E E E (U E (U E (V (Y ?_))))))
 refine AE h fun y2 hy2 h=>?_
 refine AE h fun d2 hd2 h=>?_
 refine Bd (vs:=[_]) (Hin:=[]) (Hr:=_::_::_::_::_) E E ⟨E,zT⟩ qA E E (Zr hy2) ?_
 rintro _ _ (⟨hn,-,-⟩ | ⟨d_,b2,v2,v3,v4,hn,rfl,rfl⟩)
 rw[hd2]at hn;cases hn
 obtain rfl:d2=d_:=zI (hd2.symm.trans hn)
 refine⟨trivial,?_⟩
 refine J E (Ae E E E (Ae E E E (U E (U E (V (AH (Y (J E (Z E BO (J E ?_))))))))))
 refine E3 (c := !decide (y2.2=0)) 25 3 28 E (fun hb k=>?_) (fun hb k=>?_) ?_
 refine AD E (AD E (Ai E E E ?_))
 exact k.mono tL
 refine J E (Z E BO (Ai E E E ?_))
 exact k.mono tL
 refine V ?_
 refine AN h E (fun hc1 h=>?_) fun hc1 h=>?_
 refine Y (U E (U E (U E (U E (U E (V (AL (Ac ?_))))))))
 obtain rfl:=zI h
 exact Ag (pX E E E E E E) (Af (M:=[]) (.inl ⟨E,E,E⟩) fun _ hw=>BW.pick (H:=[_,_,_,_,_,_,_,_]) hw [] 8 E)
 refine AJ (AI (Y ?_))
 refine AE h fun y3 hy3 h=>?_
 refine AE h fun y4 hy4 h=>?_
 refine AE h fun d3 hd3 h=>?_
 refine J E ?_
 refine Bd (vs:=[_]) (Hin:=[]) (Hr:=_::_::_::_::_::_::_::_::_) E E ⟨E,zT⟩ kP E E (TI hy3) ?_
 rintro v5 _ ⟨_,rfl,rfl⟩
 refine⟨trivial,?_⟩
 refine SL.pick [0,5,6,7,8,1,2,3,4] 9 ?_
 refine Bd (vs:=[_,_]) (Hin:=[_,_,_,_,_]) (Hr:=_::_::_::_::_) E E ⟨E,E,zT⟩ qB E E (Cm (B:=[_]) (Hin:=[_,_,_,_]) fun K' w1 hk hB=>WP hy4 (hS.keeps hk) (CT (e:=114) (v:=v5) zV (hB _ zS))) ?_
 rintro _ _ ⟨_,rfl,(⟨hn,-,-⟩ | ⟨d_,b3,v6,v7,v8,v9,b4,v10,m3,hn,rfl,rfl⟩)⟩
 rw[hd3]at hn;cases hn
 obtain rfl:d3=d_:=zI (hd3.symm.trans hn)
 refine⟨trivial,?_⟩
 refine J E (Ae E E E (Ae E E E (U E (U E (V (Y ?_))))))
 refine AE h fun y5 hy5 h=>?_
 refine AE h fun y6 hy6 h=>?_
 refine AE h fun d4 hd4 h=>?_
 refine J E ?_
 refine Bd (vs:=[_]) (Hin:=[]) (Hr:=_::_::_::_::_::_::_::_::_::_::_::_::_::_::_::_::_::_) E E ⟨E,zT⟩ kP E E (TI hy5) ?_
 rintro v11 _ ⟨_,rfl,rfl⟩
 refine⟨trivial,?_⟩
 refine SL.pick [14,15,16,17,0,1,2,3,4,5,6,7,8,9,10,11,12,13] 18 ?_
 refine Bd (vs:=[_,_]) (Hin:=[_,_,_,_,_]) (Hr:=_::_::_::_::_::_::_::_::_::_::_::_::_::_) E E ⟨E,E,zT⟩ qC E E (WN hy6 hT) ?_
 rintro _ _ (⟨hn,-,-⟩ | ⟨d_,b5,v12,v13,v14,b6,v15,v16,hn,rfl,rfl⟩)
 rw[hd4]at hn;cases hn
 obtain rfl:d4=d_:=zI (hd4.symm.trans hn)
 refine⟨trivial,?_⟩
 refine J E (Ae E E E (Ae E E E (U E (U E (V (Y ?_))))))
 refine AE h fun y7 hy7 h=>?_
 refine AE h fun d5 hd5 h=>?_
 refine J E (SL.pick [12,13,14,15,16,17,18,19,20,21,22,23,0,1,2,3,4,5,6,7,8,9,10,11] 24 ?_)
 refine Bd (vs:=[_]) (Hin:=[_,_,_,_,_,_,_,_,_,_,_,_]) (Hr:=_::_::_::_::_::_::_::_::_::_::_::_::_) E E ⟨E,zT⟩ pz E E (cM hy7) ?_
 rintro _ _ (⟨hn,-,-⟩ | ⟨d_,b7,v17,hn,rfl,rfl⟩)
 rw[hd5]at hn;cases hn
 obtain rfl:d5=d_:=zI (hd5.symm.trans hn)
 refine⟨trivial,?_⟩
 refine J E (Ae E E E (Ae E E E (U E (U E (V (Y ?_))))))
 obtain⟨x1,ex1,h⟩:=Bz h
 refine J E (J E (J E (J E (CB [_] E sa sT sw ⟨E,zT⟩ E ?_))))
 refine Bc E E zU fun b8=>?_
 refine B8 83 5 B7 (J E (Z E Bg (J E ?_)))
 refine Cj (c:=decide (y6.2.1=0)) 54 3 57 E (fun hb k=>?_) (fun hb k=>?_) ?_
 refine J E (Z E Bg (Ai E E E ?_))
 exact k.mono tL
 refine AD E (AD E (Ai E E E ?_))
 exact k.mono tL
 refine J E ?_
 refine Cj (c:=decide (y7.2=0)) 58 3 61 E (fun hb k=>?_) (fun hb k=>?_) ?_
 refine J E (Z E Bg (Ai E E E ?_))
 exact k.mono tL
 refine AD E (AD E (Ai E E E ?_))
 exact k.mono tL
 refine U E (U E (U E (U E ?_)))
 refine Ak (u:=vB x1) E E (congrArg vB ex1) ?_
 refine V (AL ?_)
 obtain rfl:=zI h
 exact Ag (pX E E E E E E) (Af (M:=[_,_,_,_,_,_,_,_,_,_,_,_,_,_,_,_,_,_,_,_,_,_,_,_,_,_,_]) (.inr ⟨_,b7,v17,b3,v6,v7,v8,v9,b4,v10,m3,b1,v1,m1,m2,b8,zN,b5,v12,v13,v14,b6,v15,v16,b2,v2,v3,v4,E,E,E⟩) fun _ hw=>BW.pick (H:=[_,_,_,_,_,_,_,_,_,_,_,_,_,_,_,_,_,_,_,_,_,_,_,_,_,_,_,_]) hw [2,3,4,5,6,7,8,9,10,11,12,13,14,15,1,0,16,17,18,19,20,21,22,23,24,25,26] 28 E)
def J7(n:Nat)(T:List UInt32):Option Bool:=
 (JW n T).bind fun y1=>
 (y1.1).bind fun d1=>
 (ES n T d1.1 d1.2.1 d1.2.2.1 d1.2.2.2.1).bind fun y2=>
 (Fb y2.2.1 y2.2.2.1 y2.2.2.2.1 y2.2.2.2.2).bind fun y3=>
 (Ev n T y3.2 y2.2.2.1 y2.2.2.2.1 y2.2.2.2.2 (⟨1,2,0,[]⟩:Ao)).bind fun y4=>
 (Eu n y4.2.1 y4.2.2.1 y4.2.2.2.1 y4.2.2.2.2 1).bind fun y5=>
 (EY y4.2.1 y4.2.2.1 y4.2.2.2.1 y4.2.2.2.2).bind fun y6=>
 (ES n T y4.2.1 y4.2.2.1 y4.2.2.2.1 y4.2.2.2.2).bind fun y7=>
 (Eu n y7.2.1 y7.2.2.1 y7.2.2.2.1 y7.2.2.2.2 1).bind fun y8=>
 ret ((((((((y1.2&&(decide (y2.1=140)))&&(decide (y3.1=0)))&&(decide (y4.1=0)))&&(decide (y5.2=100)))&&(decide (y6=1)))&&(decide (y7.1=0)))&&(decide (y8.2=0)))&&(decide (y8.1.id=1)&&(decide (y8.1.x=2)&&(decide (y8.1.y=0)&&(decide (y8.1.txt=[])&&true))))) fun x1=>
 some x1
theorem W8{n:Nat}{T:List UInt32}{r:Bool}(h:J7 n T=some r)(hS:GF K w0 T)(hT:JB K w0 2 64 T):zC K w0 6 [] [] H (fun u M=>u=vB r∧M=[]):=by
 unfold J7 at h
 refine Td.enter Tryz.func6 rfl rfl ?_
 refine Y (U E (V (Y ?_)))
 refine AE h fun y1 hy1 h=>?_
 refine AE h fun d1 hd1 h=>?_
 refine Bd (vs:=[]) (Hin:=[]) (Hr:=_) E E zT pR E E (TJ hy1 hS hT) ?_
 rintro _ _ (⟨hn,-,-⟩ | ⟨d_,b1,v1,b2,v2,v3,v4,v5,b3,v6,m1,b4,v7,m2,m3,b5,v8,b6,v9,v10,v11,b7,v12,v13,b8,v14,v15,v16,hn,rfl,rfl⟩)
 rw[hd1]at hn;cases hn
 obtain rfl:d1=d_:=zI (hd1.symm.trans hn)
 refine⟨trivial,?_⟩
 refine J E (Ae E E E (Ae E E E (Ae E E E (Ae E E E (Ae E E E (U E (U E ?_)))))))
 refine U E (U E (U E (V (Y ?_))))
 refine AE h fun y2 hy2 h=>?_
 refine J E (BS 14 kL (OH hy2 hS) E ?_)
 rintro _ _ ⟨v17,v18,v19,v20,rfl,rfl⟩
 refine U E (V (Y ?_))
 refine AE h fun y3 hy3 h=>?_
 refine J E (BS 14 pS (Om hy3) E ?_)
 rintro _ _ ⟨v21,rfl,rfl⟩
 refine U E (V (Y ?_))
 refine AE h fun y4 hy4 h=>?_
 refine J E (CB [_,_] E dF dE HH ⟨E,E,zT⟩ E (BS 14 pT ((QG hy4 hS :)) E ?_))
 rintro _ _ ⟨v22,v23,v24,v25,rfl,rfl⟩
 refine U E (V (Y ?_))
 refine AE h fun y5 hy5 h=>?_
 refine J E (AP 14 kO (QF hy5) E (J E (Ae E E E (Ae E E E ?_))))
 refine Am E HH zU fun b9=>?_
 refine A8 0 E E E E Dh E E E zT (U E (V (Y ?_)))
 refine AE h fun y6 hy6 h=>?_
 refine J E (SL.pick [1,2,3,4,5,6,7,8,9,10,11,12,13,14,0] 15 (AP 14 eN (MV hy6) E (U E (V (Y ?_)))))
 refine AE h fun y7 hy7 h=>?_
 refine J E (BS 14 kL (OH hy7 hS) E ?_)
 rintro _ _ ⟨v26,v27,v28,v29,rfl,rfl⟩
 refine U E (V (Y ?_))
 refine AE h fun y8 hy8 h=>?_
 refine J E (AP 14 kO (QF hy8) E (J E (Ae E E E (Ae E E E ?_))))
 refine Am E HH zU fun b10=>?_
 refine A8 0 E E E E Dh E E E zT (U E (V (Y ?_)))
 obtain⟨x1,ex1,h⟩:=Bz h
 refine J E (J E ?_)
 refine Cj (c:=decide (y2.1=140)) 44 3 47 E (fun hb k=>?_) (fun hb k=>?_) ?_
 refine J E (Z E Bg (Ai E E E ?_))
 exact k.mono tL
 refine AD E (AD E (Ai E E E ?_))
 exact k.mono tL
 refine J E ?_
 refine Cj (c:=decide (y3.1=0)) 48 3 51 E (fun hb k=>?_) (fun hb k=>?_) ?_
 refine J E (Z E Bg (Ai E E E ?_))
 exact k.mono tL
 refine AD E (AD E (Ai E E E ?_))
 exact k.mono tL
 refine J E ?_
 refine Cj (c:=decide (y4.1=0)) 52 3 55 E (fun hb k=>?_) (fun hb k=>?_) ?_
 refine J E (Z E Bg (Ai E E E ?_))
 exact k.mono tL
 refine AD E (AD E (Ai E E E ?_))
 exact k.mono tL
 refine J E ?_
 refine Cj (c:=decide (y5.2=100)) 56 3 59 E (fun hb k=>?_) (fun hb k=>?_) ?_
 refine J E (Z E Bg (Ai E E E ?_))
 exact k.mono tL
 refine AD E (AD E (Ai E E E ?_))
 exact k.mono tL
 refine J E ?_
 refine Cj (c:=decide (y6=1)) 60 3 63 E (fun hb k=>?_) (fun hb k=>?_) ?_
 refine J E (Z E Bg (Ai E E E ?_))
 exact k.mono tL
 refine AD E (AD E (Ai E E E ?_))
 exact k.mono tL
 refine J E ?_
 refine Cj (c:=decide (y7.1=0)) 64 3 67 E (fun hb k=>?_) (fun hb k=>?_) ?_
 refine J E (Z E Bg (Ai E E E ?_))
 exact k.mono tL
 refine AD E (AD E (Ai E E E ?_))
 exact k.mono tL
 refine J E ?_
 refine Cj (c:=decide (y8.2=0)) 68 3 71 E (fun hb k=>?_) (fun hb k=>?_) ?_
 refine J E (Z E Bg (Ai E E E ?_))
 exact k.mono tL
 refine AD E (AD E (Ai E E E ?_))
 exact k.mono tL
 refine J E ?_
 refine Cj (c:=decide (y8.1.id=1)&&(decide (y8.1.x=2)&&(decide (y8.1.y=0)&&(decide (y8.1.txt=[])&&true)))) 72 4 76 E (fun hb k=>?_) (fun hb k=>?_) ?_
 refine As [AV y8.1.id,AA y8.1.x,AA y8.1.y,vS y8.1.txt] E HG E E (Aj 0 E) (CB [_,_] E dF dE HH ⟨E,E,zT⟩ E ?_)
 refine P8 E pV E E (Cd E E (aK (a:=y8.1.id) (b:=1)) (Cd E E (Jl (a:=y8.1.x) (b:=2)) (Cd E E (Jl (a:=y8.1.y) (b:=0)) (Cd E E (SE (a:=y8.1.txt) (b:=[])) I2)))) ?_
 refine Ai E E E ?_
 exact k.mono tL
 refine AD E (AD E (AD E (Ai E E E ?_)))
 exact k.mono tL
 refine Ak (u:=vB x1) E E (congrArg vB ex1) ?_
 refine V (AL ?_)
 obtain rfl:=zI h
 exact AX [] 29 E E E
end

section
theorem ef{T:List UInt32}:∃o v d,JL 2200000 T (d0 60) (Di 1)=some (some (o,v),0,d)∧iP T 1 o v d∧o.rows=[]:=by
 have hr1:DU (Di 1)=true:=RB 1 zO
 have hn:II (Di 1)=some (1,0):=by
  unfold II Uy
  rw[if_pos (by rw[DR];omega),AB,hr1]
  rfl
 generalize hD:({ d0 60 with counts:=1,rboots:=1 }:Ah)=D
 have hst:Pb (d0 60)=some (1,0,D):=by subst hD;rfl
 have K:RW 60 0 D:=by subst hD;exact⟨List.length_replicate ..,by omega,rfl,rfl,rfl,Nat.le_refl _,by omega⟩
 have V9:Dv 60 0 0 D:=by subst hD;exact⟨List.length_replicate ..,Nat.le_refl _,fun _ h=>(by cases h),rfl⟩
 have hv:Mv D (Di 1) 1 1=some (some v0,0):=by
  unfold Mv aN
  rw[if_pos (by rw[DR];omega),AB,Xb zO zO,DX (by simp[DR]) (by simp[DR]),AB]
  rfl
 have hb:KH (d0 60) (Di 1)=some (some (({ rows:=[],pages:=[],gens:=[],ring:=Di 1,gen:=1,bad:=false }:Bx),v0),0,D):=by
  unfold KH Ur
  rw[hn,AB]
  simp only[decide_true,Bool.not_true,CE]
  rw[hst,AB]
  simp only[decide_true,Bool.not_true,CE]
  rw[hv,AB,AB,DX (by simp[DR]) (by simp[DR]),AB]
  rfl
 have S:iP T 0 { rows:=[],pages:=[],gens:=[],ring:=Di 1,gen:=1,bad:=false } v0 D:=
  ⟨⟨0,by omega,⟨K,rfl,by rw[DR];omega,rfl,rfl,Nat.le_refl 0⟩⟩,⟨List.nodup_nil,fun e he=>by simp[v0]at he⟩,V9,rfl,Nat.zero_le _,fun s hs=>(by cases hs),rfl,fun _=>rfl⟩
 obtain⟨o',v',d',hch,hrw,-,-,hS⟩:=XV (T:=T) (l:=[]) S (.inl rfl) (Nat.zero_le _) (by decide +kernel)
 refine⟨o',v',d',?_,hS rfl,hrw⟩
 have hL:HS (d0 60)=some false:=rfl
 have hch':Ds 2200000 T { rows:=[],pages:=[],gens:=[],ring:=Di 1,gen:=1,bad:=false } v0 D [] []=some (0,o',v',d'):=hch
 unfold JL
 rw[hn,AB,hL,show Ij (decide ((((1:UInt32),(0:Int)):UInt32×Int).2=0)) ((some false).bind fun y2=>some y2)=some false from rfl,AB,CE,hb,AB,AB]
 simp only[decide_true,Cz]
 rw[hch',AB]
 rfl
theorem gz{T:List UInt32}(hT:T.length=64):∃(o:Bx) (v:Az) (d:Ah) (a:Dy) (w:Bb) (c:A5),JW 2200000 T=some (some (⟨[],false,false⟩,o,v,d,⟨[],false,false⟩,a,w,c),true)∧iP T 1 o v d∧o.rows=[]:=by
 obtain⟨o,v,d,h1,h2,h3⟩:=ef (T:=T)
 obtain⟨a,w,c,h4⟩:=il hT
 refine⟨o,v,d,a,w,c,?_,h2,h3⟩
 have e1:JV 60=some (some (d0 60),0):=ov zO zO
 have e2:Kw 2200000 60=some (some (r0 60),0):=ou (N:=60) zO zO zO
 have e3:Hz 2200000 1=some (Di 1):=lU 1 zO zO
 unfold JW
 rw[e1,AB,AB,e2,AB,AB]
 simp only[decide_true,Bool.not_true,Bool.or_false,CE]
 rw[e3,AB,h1,AB,AB,AB,h4,AB,AB]
 rfl
theorem eZ{T:List UInt32}{f:C6}{o:Bx}{v:Az}{d:Ah}{l:List Ao}(S:iP T 1 o v d)(hf:f.isOpen=true)(hc:f.closed=false)(h0:0<f.ops.length)(hb:Sw 2200000 o.rows f.ops=some (l,0,0))(hl:l.length≤1)(hr:E2 l=true):
  ∃o' v' d',ES 2200000 T f o v d=some (0,{ f with ops:=[],isOpen:=false },o',v',d')∧o'.rows=l:=by
 obtain⟨o',v',d',hch,hrw,-,-,-⟩:=XV (T:=T) (l:=l) S (.inr rfl) hl hr
 refine⟨o',v',d',?_,hrw⟩
 have hsc:Dr 2200000 T o v d f.ops=some (0,0,o',v',d'):=by
  unfold Dr Hq
  rw[S.bad,CE,AB]
  show(Sw 2200000 o.rows f.ops).bind _=_
  rw[hb,AB]
  unfold HS E7
  rw[Bw]
  simp only[decide_true,Bool.not_true,CE]
  rw[AB,Bw,AB,S.dv.rc,show decide ((1:UInt64)=18446744073709551615)=false from rfl,CE]
  show(FC 2200000 T o v d l).bind _=_
  rw[show FC 2200000 T o v d l=Ds 2200000 T o v d l o.pages from rfl,hch,AB]
 unfold ES Cu Gn
 rw[hc,CE,AB,Bw]
 show cond (!decide ((0:Int)=0)) _ _=_
 rw[show(!decide ((0:Int)=0))=false from rfl,CE,hf,Bw,show(!true)=false from rfl,CE,AB,zt (show 0<(f.ops.length:Int) by omega),Cz]
 show(Dr 2200000 T o v d f.ops).bind _=_
 rw[hsc,AB]
 rfl
theorem jA{T:List UInt32}(hT:T.length=64):J7 2200000 T=some true:=by
 obtain⟨o,v,d,a,w,c,hm,S,hrw⟩:=gz hT
 have hput:Ev 2200000 T ⟨[],true,false⟩ o v d ⟨1,2,0,[]⟩=some (0,⟨[⟨1,1,2,0,[]⟩],true,false⟩,o,v,d):=by
  have h1:Cy o v d=some []:=by
   unfold Cy
   rw[hrw]
   rfl
  have h2:VB 2200000 ⟨[],true,false⟩ [] ⟨1,1,2,0,[]⟩=some (0,⟨[⟨1,1,2,0,[]⟩],true,false⟩):=zK
  unfold Ev GH Cu
  show((Cy o v d).bind _).bind _=_
  rw[h1,AB,h2,AB,AB]
 have hbat:Sw 2200000 o.rows [⟨1,1,2,0,[]⟩]=some ([⟨1,2,0,[]⟩],0,0):=by rw[hrw];kernel_rfl
 obtain⟨o',v',d',hcm,hrw'⟩:=eZ (T:=T) (f:=⟨[⟨1,1,2,0,[]⟩],true,false⟩) S rfl rfl zD hbat zD (by decide +kernel)
 have hg1:∃x,Eu 2200000 ⟨[⟨1,1,2,0,[]⟩],true,false⟩ o v d 1=some (x,100):=by
  have h1:∃x,Is 2200000 [] 1=some (x,100):=⟨⟨0,0,0,[]⟩,by kernel_rfl⟩
  obtain⟨x,h1⟩:=h1
  refine⟨x,?_⟩
  unfold Eu Cu G5
  show((Is 2200000 o.rows 1).bind _).bind _=_
  rw[hrw,h1]
  rfl
 have hg2:Eu 2200000 ⟨[],false,false⟩ o' v' d' 1=some (⟨1,2,0,[]⟩,0):=by
  have h1:Is 2200000 [⟨1,2,0,[]⟩] 1=some (⟨1,2,0,[]⟩,0):=zK
  unfold Eu Cu G5
  show((Is 2200000 o'.rows 1).bind _).bind _=_
  rw[hrw',h1]
  rfl
 obtain⟨x,hg1⟩:=hg1
 unfold J7
 rw[hm,AB,AB]
 have hc0:ES 2200000 T ⟨[],false,false⟩ o v d=some (140,⟨[],false,false⟩,o,v,d):=rfl
 have hbg:Fb ⟨[],false,false⟩ o v d=some (0,⟨[],true,false⟩):=rfl
 have hop:EY ⟨[⟨1,1,2,0,[]⟩],true,false⟩ o v d=some 1:=rfl
 rw[hc0,AB,hbg,AB,hput,AB,hg1,AB,hop,AB,hcm,AB,hg2,AB]
 rfl
end

section
variable {K:Nat→Prop}{w0:World}{H:List AY}
def N3(o1:C6)(o2:Bx)(o3:Ah)(o4:Az)(a1:Int):Option (Int×C6×Bx×Az×Ah):=
 some (a1,o1,o2,o4,o3)
def HO(a3:Int)(nx_f_law18_put_l1:C6×Bx×Ah×Az×Int×Int→Option (Int×C6×Bx×Az×Ah))(o9:C6)(o10:Bx)(o11:Ah)(o12:Az)(a4:Int):Option (Int×C6×Bx×Az×Ah):=
 ret (wI (a3+1)) fun i_1=>
 nx_f_law18_put_l1 (o9,o10,o11,o12,a4,i_1)
def Hd(n:Nat)(T:List UInt32)(p1:List Ao)(nx_f_law18_put_l1:C6×Bx×Ah×Az×Int×Int→Option (Int×C6×Bx×Az×Ah))(o5:C6)(o6:Bx)(o7:Ah)(o8:Az)(a2:Int)(a3:Int):Option (Int×C6×Bx×Az×Ah):=
 cond ((decide (a3<(p1.length:Int)))&&(decide (a3<12)))
 (
  (BE p1 a3).bind fun x1=>
  (Ev n T o5 o6 o8 o7 x1).bind fun y1=>
  cond (decide (y1.1=0))
  (
   ret (wI (a2+1)) fun x2=>
   HO a3 nx_f_law18_put_l1 y1.2.1 y1.2.2.1 y1.2.2.2.2 y1.2.2.2.1 x2)
  (
   HO a3 nx_f_law18_put_l1 y1.2.1 y1.2.2.1 y1.2.2.2.2 y1.2.2.2.1 a2))
 (
  N3 o5 o6 o7 o8 a2)
def HP(n:Nat)(T:List UInt32)(p1:List Ao):Nat→(C6×Bx×Ah×Az×Int×Int)→Option (Int×C6×Bx×Az×Ah):=CO fun nx x=>Hd n T p1 nx x.1 x.2.1 x.2.2.1 x.2.2.2.1 x.2.2.2.2.1 x.2.2.2.2.2
def Md(n:Nat)(T:List UInt32)(p0:C6)(p0_1:Bx)(p0_2:Az)(p0_3:Ah)(p1:List Ao):Option (Int×C6×Bx×Az×Ah):=
 HP n T p1 n (p0,p0_1,p0_3,p0_2,0,0)
theorem Zm{n Al Cg Bt BM Ar A1 A2:Nat}{T:List UInt32}{Au CJ CK CL Bu BN A3 Dt:Value}{p0:C6}{p0_1:Bx}{p0_2:Az}{p0_3:Ah}{p1:List Ao}{r:Int×C6×Bx×Az×Ah}(h:Md n T p0 p0_1 p0_2 p0_3 p1=some r)(hS:GF K w0 T)(hs1_:B9 K w0 AW 4 Dt p1):zC K w0 15 [vP Al 0,Dt] [AK Al (.cells #[Au,vB p0.isOpen,vP Cg 0,vB p0.closed] 80),AC 83 5 Au B7 p0.ops,AK Cg (.cells #[CJ,CK,CL,vP Ar 0,vP Bt 0,Bu,AA p0_1.gen,vB p0_1.bad] 94),AC 35 4 CJ AW p0_1.rows,AC 190 3 CK AU p0_1.pages,DA CL AA AA p0_1.gens,AC 114 2 Bu AZ p0_1.ring,AK Bt (.cells #[vP Ar 0,BN,AA p0_2.gen,AA p0_2.boot,AV p0_2.seals,.map (some BM)] 181),AC 114 2 BN AZ p0_2.ring,Ab BM AA vB p0_2.taken,AK Ar (.cells #[vB p0_3.off,vB p0_3.isCut,vI p0_3.lasts,vI p0_3.counts,A3,.map (some A1),.map (some A2),AV p0_3.rcnt,vS p0_3.rtag,AA p0_3.rboots] 100),AC 9 1 A3 eS p0_3.blocks,Ab A1 AA vS p0_3.pend,Ab A2 AA vB p0_3.bad] H (fun u M=>∃vs0_0_0 vs0_1_0 vs0_1_1 vs0_1_2:Value,u=vI r.1∧M=[AK Al (.cells #[vs0_0_0,vB r.2.1.isOpen,vP Cg 0,vB r.2.1.closed] 80),AC 83 5 vs0_0_0 B7 r.2.1.ops,AK Cg (.cells #[vs0_1_0,vs0_1_1,vs0_1_2,vP Ar 0,vP Bt 0,Bu,AA r.2.2.1.gen,vB r.2.2.1.bad] 94),AC 35 4 vs0_1_0 AW r.2.2.1.rows,AC 190 3 vs0_1_1 AU r.2.2.1.pages,DA vs0_1_2 AA AA r.2.2.1.gens,AC 114 2 Bu AZ r.2.2.1.ring,AK Bt (.cells #[vP Ar 0,BN,AA r.2.2.2.1.gen,AA r.2.2.2.1.boot,AV r.2.2.2.1.seals,.map (some BM)] 181),AC 114 2 BN AZ r.2.2.2.1.ring,Ab BM AA vB r.2.2.2.1.taken,AK Ar (.cells #[vB r.2.2.2.2.off,vB r.2.2.2.2.isCut,vI r.2.2.2.2.lasts,vI r.2.2.2.2.counts,A3,.map (some A1),.map (some A2),AV r.2.2.2.2.rcnt,vS r.2.2.2.2.rtag,AA r.2.2.2.2.rboots] 100),AC 9 1 A3 eS r.2.2.2.2.blocks,Ab A1 AA vS r.2.2.2.2.pend,Ab A2 AA vB r.2.2.2.2.bad]):=by
 unfold Md at h
 refine Td.enter Tryz.func15 rfl rfl ?_
 refine Y (U E (V (Y (U E (V ?_)))))
 refine BB (α:=C6×Value×Bx×Value×Value×Value×Ah×Az×Int) (fun x=>N3 x.1 x.2.2.1 x.2.2.2.2.2.2.1 x.2.2.2.2.2.2.2.1 x.2.2.2.2.2.2.2.2=some r) (fun x=>[(0,vP Al 0),(5,vI x.2.2.2.2.2.2.2.2)]) (fun x=>AK Al (.cells #[x.2.1,vB x.1.isOpen,vP Cg 0,vB x.1.closed] 80)::AC 83 5 x.2.1 B7 x.1.ops::AK Cg (.cells #[x.2.2.2.1,x.2.2.2.2.1,x.2.2.2.2.2.1,vP Ar 0,vP Bt 0,Bu,AA x.2.2.1.gen,vB x.2.2.1.bad] 94)::AC 35 4 x.2.2.2.1 AW x.2.2.1.rows::AC 190 3 x.2.2.2.2.1 AU x.2.2.1.pages::DA x.2.2.2.2.2.1 AA AA x.2.2.1.gens::AK Ar (.cells #[vB x.2.2.2.2.2.2.1.off,vB x.2.2.2.2.2.2.1.isCut,vI x.2.2.2.2.2.2.1.lasts,vI x.2.2.2.2.2.2.1.counts,A3,.map (some A1),.map (some A2),AV x.2.2.2.2.2.2.1.rcnt,vS x.2.2.2.2.2.2.1.rtag,AA x.2.2.2.2.2.2.1.rboots] 100)::AC 9 1 A3 eS x.2.2.2.2.2.2.1.blocks::Ab A1 AA vS x.2.2.2.2.2.2.1.pend::Ab A2 AA vB x.2.2.2.2.2.2.1.bad::AK Bt (.cells #[vP Ar 0,BN,AA x.2.2.2.2.2.2.2.1.gen,AA x.2.2.2.2.2.2.2.1.boot,AV x.2.2.2.2.2.2.2.1.seals,.map (some BM)] 181)::AC 114 2 BN AZ x.2.2.2.2.2.2.2.1.ring::Ab BM AA vB x.2.2.2.2.2.2.2.1.taken::AC 114 2 Bu AZ x.2.2.1.ring::H) ?_ (fun x D h=>?_)
 refine Y (U E (V (AQ ?_)))
 refine SX.heap (SX.mono (BG (α:=Nat×C6×Value×Bx×Value×Value×Value×Ah×Az×Int×Int) (fun x=>HP n T p1 x.1 (x.2.1,x.2.2.2.1,x.2.2.2.2.2.2.2.1,x.2.2.2.2.2.2.2.2.1,x.2.2.2.2.2.2.2.2.2.1,x.2.2.2.2.2.2.2.2.2.2)=some r) (fun x=>[(0,vP Al 0),(1,Dt),(5,vI x.2.2.2.2.2.2.2.2.2.1),(6,vI x.2.2.2.2.2.2.2.2.2.2)]) (fun x=>AK Al (.cells #[x.2.2.1,vB x.2.1.isOpen,vP Cg 0,vB x.2.1.closed] 80)::AC 83 5 x.2.2.1 B7 x.2.1.ops::AK Cg (.cells #[x.2.2.2.2.1,x.2.2.2.2.2.1,x.2.2.2.2.2.2.1,vP Ar 0,vP Bt 0,Bu,AA x.2.2.2.1.gen,vB x.2.2.2.1.bad] 94)::AC 35 4 x.2.2.2.2.1 AW x.2.2.2.1.rows::AC 190 3 x.2.2.2.2.2.1 AU x.2.2.2.1.pages::DA x.2.2.2.2.2.2.1 AA AA x.2.2.2.1.gens::AK Ar (.cells #[vB x.2.2.2.2.2.2.2.1.off,vB x.2.2.2.2.2.2.2.1.isCut,vI x.2.2.2.2.2.2.2.1.lasts,vI x.2.2.2.2.2.2.2.1.counts,A3,.map (some A1),.map (some A2),AV x.2.2.2.2.2.2.2.1.rcnt,vS x.2.2.2.2.2.2.2.1.rtag,AA x.2.2.2.2.2.2.2.1.rboots] 100)::AC 9 1 A3 eS x.2.2.2.2.2.2.2.1.blocks::Ab A1 AA vS x.2.2.2.2.2.2.2.1.pend::Ab A2 AA vB x.2.2.2.2.2.2.2.1.bad::AK Bt (.cells #[vP Ar 0,BN,AA x.2.2.2.2.2.2.2.2.1.gen,AA x.2.2.2.2.2.2.2.2.1.boot,AV x.2.2.2.2.2.2.2.2.1.seals,.map (some BM)] 181)::AC 114 2 BN AZ x.2.2.2.2.2.2.2.2.1.ring::Ab BM AA vB x.2.2.2.2.2.2.2.2.1.taken::AC 114 2 Bu AZ x.2.2.2.1.ring::H) (fun x=>x.1) (fun x D h=>?_) (n,p0,Au,p0_1,CJ,CK,CL,p0_3,p0_2,0,0) h) tL) (BR [0,1,2,3,4,5,10,11,12,13,7,8,9,6] 14 E E E)
 obtain⟨m1,o5,v5,o6,v6,v7,v8,o7,o8,a2,a3⟩:=x
 dsimp only at h
 rcases m1 with _ | m1
 cases (show(none:Option _)=some r from h)
 replace h:Hd n T p1 (HP n T p1 m1) o5 o6 o7 o8 a2 a3=some r:=h
 unfold Hd at h
 refine dy [(0,vP Al 0),(1,Dt),(5,vI a2),(6,vI a3)] (AK Al (.cells #[v5,vB o5.isOpen,vP Cg 0,vB o5.closed] 80)::AC 83 5 v5 B7 o5.ops::AK Cg (.cells #[v6,v7,v8,vP Ar 0,vP Bt 0,Bu,AA o6.gen,vB o6.bad] 94)::AC 35 4 v6 AW o6.rows::AC 190 3 v7 AU o6.pages::DA v8 AA AA o6.gens::AK Ar (.cells #[vB o7.off,vB o7.isCut,vI o7.lasts,vI o7.counts,A3,.map (some A1),.map (some A2),AV o7.rcnt,vS o7.rtag,AA o7.rboots] 100)::AC 9 1 A3 eS o7.blocks::Ab A1 AA vS o7.pend::Ab A2 AA vB o7.bad::AK Bt (.cells #[vP Ar 0,BN,AA o8.gen,AA o8.boot,AV o8.seals,.map (some BM)] 181)::AC 114 2 BN AZ o8.ring::Ab BM AA vB o8.taken::AC 114 2 Bu AZ o6.ring::H) ?_ tL
 refine AH (Y (J E (J E (B2 hs1_ E C3 E (Z E BA (J E ?_))))))
 refine Cj (c:=decide (a3<12)) 11 3 14 E (fun hb k=>?_) (fun hb k=>?_) ?_
 refine J E (Z E BA (Ai E E E ?_))
 exact k.mono tL
 refine AD E (AD E (Ai E E E ?_))
 exact k.mono tL
 refine V ?_
 refine AN h E (fun hc1 h=>?_) fun hc1 h=>?_
 refine AJ (AI ?_)
 refine BB (α:=C6×Value×Bx×Value×Value×Value×Ah×Az×Int) (fun x=>HO a3 (HP n T p1 m1) x.1 x.2.2.1 x.2.2.2.2.2.2.1 x.2.2.2.2.2.2.2.1 x.2.2.2.2.2.2.2.2=some r) (fun x=>[(0,vP Al 0),(1,Dt),(5,vI x.2.2.2.2.2.2.2.2),(6,vI a3)]) (fun x=>AK Al (.cells #[x.2.1,vB x.1.isOpen,vP Cg 0,vB x.1.closed] 80)::AC 83 5 x.2.1 B7 x.1.ops::AK Cg (.cells #[x.2.2.2.1,x.2.2.2.2.1,x.2.2.2.2.2.1,vP Ar 0,vP Bt 0,Bu,AA x.2.2.1.gen,vB x.2.2.1.bad] 94)::AC 35 4 x.2.2.2.1 AW x.2.2.1.rows::AC 190 3 x.2.2.2.2.1 AU x.2.2.1.pages::DA x.2.2.2.2.2.1 AA AA x.2.2.1.gens::AK Ar (.cells #[vB x.2.2.2.2.2.2.1.off,vB x.2.2.2.2.2.2.1.isCut,vI x.2.2.2.2.2.2.1.lasts,vI x.2.2.2.2.2.2.1.counts,A3,.map (some A1),.map (some A2),AV x.2.2.2.2.2.2.1.rcnt,vS x.2.2.2.2.2.2.1.rtag,AA x.2.2.2.2.2.2.1.rboots] 100)::AC 9 1 A3 eS x.2.2.2.2.2.2.1.blocks::Ab A1 AA vS x.2.2.2.2.2.2.1.pend::Ab A2 AA vB x.2.2.2.2.2.2.1.bad::AK Bt (.cells #[vP Ar 0,BN,AA x.2.2.2.2.2.2.2.1.gen,AA x.2.2.2.2.2.2.2.1.boot,AV x.2.2.2.2.2.2.2.1.seals,.map (some BM)] 181)::AC 114 2 BN AZ x.2.2.2.2.2.2.2.1.ring::Ab BM AA vB x.2.2.2.2.2.2.2.1.taken::AC 114 2 Bu AZ x.2.2.1.ring::H) ?_ (fun x D h=>?_)
 refine AQ (Y ?_)
 refine AE h fun x1 hx1 h=>?_
 refine AE h fun y1 hy1 h=>?_
 refine J E (J E (J E ?_))
 refine C9 hx1 hs1_ E C3 Dh E E fun be1 of1 hc2=>?_
 refine As (AW x1) E HG E E (DS hc2) (SL.pick [0,1,2,3,4,5,13,10,11,12,6,7,8,9] 14 (BS 14 pT ((QG hy1 hS :)) E ?_))
 rintro _ _ ⟨v13,v14,v15,v16,rfl,rfl⟩
 refine Z E Bg (V ?_)
 refine AN h E (fun hc3 h=>?_) fun hc3 h=>?_
 refine AS ?_
 obtain⟨x2,ex2,h⟩:=Bz h
 refine J E (Z E Bf ?_)
 refine Ak (u:=vI x2) E E (congrArg vI ex2) ?_
 refine Aa (An ?_)
 exact Ap (y1.2.1,v13,y1.2.2.1,v14,v15,v16,y1.2.2.2.2,y1.2.2.2.1,x2) h tL (BR [0,1,2,3,4,5,10,11,12,13,7,8,9,6] 14 E E E)
 refine AJ (An ?_)
 exact Ap (y1.2.1,v13,y1.2.2.1,v14,v15,v16,y1.2.2.2.2,y1.2.2.2.1,a2) h tL (BR [0,1,2,3,4,5,10,11,12,13,7,8,9,6] 14 E E E)
 obtain⟨o9,v9,o10,v10,v11,v12,o11,o12,a4⟩:=x
 dsimp only at h
 unfold HO at h
 try dsimp only
 refine AS ?_
 obtain⟨i_1,ei_1,h⟩:=Bz h
 refine J E (Z E Bf ?_)
 refine Ak (u:=vI i_1) E E (congrArg vI ei_1) ?_
 refine Aa ?_
 exact Av (m1,o9,v9,o10,v10,v11,v12,o11,o12,a4,i_1) h (Nat.lt_succ_self _) tL (BR [0,1,2,3,4,5,6,7,8,9,10,11,12,13] 14 E E E)
 refine Ay (A6 (Ba (A9 ?_)))
 exact Ap (o5,v5,o6,v6,v7,v8,o7,o8,a2) h tL (BR [0,1,2,3,4,5,6,7,8,9,10,11,12,13] 14 E E E)
 obtain⟨o1,v1,o2,v2,v3,v4,o3,o4,a1⟩:=x
 dsimp only at h
 unfold N3 at h
 try dsimp only
 refine Y (J E (U E (V (AL ?_))))
 obtain rfl:=zI h
 exact Bi [0,1,2,3,4,5,13,10,11,12,6,7,8,9] 14 (Cl E E) E E ⟨v1,v2,v3,v4,E,E⟩
def IB(n:Nat)(T:List UInt32)(p0:List Ao):Option Bool:=
 (J7 n T).bind fun y1=>
 (JW n T).bind fun y2=>
 (y2.1).bind fun d1=>
 (Ns n d1.2.2.2.1).bind fun y3=>
 (E7 d1.2.2.2.1).bind fun y4=>
 (Fb d1.1 d1.2.1 d1.2.2.1 d1.2.2.2.1).bind fun y5=>
 (Md n T y5.2 d1.2.1 d1.2.2.1 d1.2.2.2.1 p0).bind fun y6=>
 (EY y6.2.1 y6.2.2.1 y6.2.2.2.1 y6.2.2.2.2).bind fun y7=>
 (Ir y6.2.1 y6.2.2.1 y6.2.2.2.1 y6.2.2.2.2).bind fun y8=>
 (Ij ((((y1&&y2.2)&&(decide (y5.1=0)))&&(decide (y8.1=0)))&&(decide (y6.1=y7))) ((EY y8.2 y6.2.2.1 y6.2.2.2.1 y6.2.2.2.2).bind fun y9=>some (decide (y9=(-1))))).bind fun y10=>
 (Ij y10 ((Cy y6.2.2.1 y6.2.2.2.1 y6.2.2.2.2).bind fun y11=>some (decide ((y11.length:Int)=0)))).bind fun y12=>
 (Ij y12 ((Ns n y6.2.2.2.2).bind fun y13=>(LQ n y3 y13).bind fun y14=>some (y14))).bind fun y15=>
 (Ij y15 ((E7 y6.2.2.2.2).bind fun y16=>some (decide (y16.cnt=y4.cnt)&&(decide (y16.tag=y4.tag)&&(decide (y16.boots=y4.boots)&&true))))).bind fun y17=>
 some y17
theorem TC{n:Nat}{T:List UInt32}{DB:Value}{p0:List Ao}{r:Bool}(h:IB n T p0=some r)(hS:GF K w0 T)(hT:JB K w0 2 64 T)(hs0_:B9 K w0 AW 4 DB p0):zC K w0 4 [DB] [] H (fun u M=>u=vB r∧M=[]):=by
 unfold IB at h
 refine Td.enter Tryz.func4 rfl rfl ?_
 refine Y (U E (V (Y ?_)))
 refine AE h fun y1 hy1 h=>?_
 refine AP 0 sM (W8 hy1 hS hT) E (U E (V (Y ?_)))
 refine AE h fun y2 hy2 h=>?_
 refine AE h fun d1 hd1 h=>?_
 refine Bd (vs:=[]) (Hin:=[]) (Hr:=_) E E zT pR E E (TJ hy2 hS hT) ?_
 rintro _ _ (⟨hn,-,-⟩ | ⟨d_,b1,v1,b2,v2,v3,v4,v5,b3,v6,m1,b4,v7,m2,m3,b5,v8,b6,v9,v10,v11,b7,v12,v13,b8,v14,v15,v16,hn,rfl,rfl⟩)
 rw[hd1]at hn;cases hn
 obtain rfl:d1=d_:=zI (hd1.symm.trans hn)
 refine⟨trivial,?_⟩
 refine J E (Ae E E E (Ae E E E (Ae E E E (Ae E E E (Ae E E E (U E (U E ?_)))))))
 refine U E (U E (U E (V (Y ?_))))
 refine AE h fun y3 hy3 h=>?_
 refine J E (SL.pick [10,11,12,13,0,1,2,3,4,5,6,7,8,9] 14 ?_)
 refine Bd (vs:=[_]) (Hin:=[_,_,_,_]) (Hr:=_::_::_::_::_::_::_::_::_::_::_::_::_::_::_::_::_::_::_::_::_::_::_::_) E E ⟨E,zT⟩ kN E E (Vt hy3) ?_
 rintro v17 _ ⟨_,rfl,rfl⟩
 refine⟨trivial,?_⟩
 refine U E (V (Y ?_))
 refine AE h fun y4 hy4 h=>?_
 refine J E (SL.pick [1,2,3,4,0] 5 (AP 4 XQ (J0 hy4) E ?_))
 refine Am E mQ zU fun b9=>?_
 refine A8 0 E E E E pY E E E zT (V (Y ?_))
 refine AE h fun y5 hy5 h=>?_
 refine J E (SL.pick [6,7,8,9,10,11,12,13,14,15,1,2,3,4,0,5] 16 (BS 14 pS (Om hy5) E ?_))
 rintro _ _ ⟨v18,rfl,rfl⟩
 refine U E (V (Y ?_))
 refine AE h fun y6 hy6 h=>?_
 refine J E (J E (BS 14 pw (Zm hy6 hS hs0_) E ?_))
 rintro _ _ ⟨v19,v20,v21,v22,rfl,rfl⟩
 refine U E (V (Y ?_))
 refine AE h fun y7 hy7 h=>?_
 refine J E (AP 14 eN (MV hy7) E (U E (V (Y ?_))))
 refine AE h fun y8 hy8 h=>?_
 refine J E (BS 14 px (Tg hy8) E ?_)
 rintro _ _ ⟨v23,rfl,rfl⟩
 refine U E (V (AH ?_))
 refine AE h fun y10 hy10 h=>?_
 refine AE h fun y12 hy12 h=>?_
 refine AE h fun y15 hy15 h=>?_
 refine AE h fun y17 hy17 h=>?_
 refine Aw DG [14] (C4 [(true,0),(true,1),(true,2),(true,3),(true,4),(true,5),(true,6),(true,7),(true,8),(true,9),(true,10),(true,11),(true,12),(true,13),(true,14),(true,15),(true,16),(true,17),(true,18),(false,19),(true,20),(true,21),(true,22),(true,23),(false,24),(false,25),(true,26),(true,27),(true,28),(true,29),(true,30),(false,31),(false,32),(true,33),(true,34),(true,35),(true,37),(false,36),(false,38),(false,39),(false,40)]) zK (J E (J E ?_))
 refine Cj (c:=y2.2) 37 2 39 E (fun hb k=>?_) (fun hb k=>?_) ?_
 refine J E (Ai E E E ?_)
 exact k.mono tL
 refine AD E (Ai E E E ?_)
 exact k.mono tL
 refine J E ?_
 refine Cj (c:=decide (y5.1=0)) 40 3 43 E (fun hb k=>?_) (fun hb k=>?_) ?_
 refine J E (Z E Bg (Ai E E E ?_))
 exact k.mono tL
 refine AD E (AD E (Ai E E E ?_))
 exact k.mono tL
 refine J E ?_
 refine Cj (c:=decide (y8.1=0)) 44 3 47 E (fun hb k=>?_) (fun hb k=>?_) ?_
 refine J E (Z E Bg (Ai E E E ?_))
 exact k.mono tL
 refine AD E (AD E (Ai E E E ?_))
 exact k.mono tL
 refine J E ?_
 refine Cj (c:=decide (y6.1=y7)) 48 4 52 E (fun hb k=>?_) (fun hb k=>?_) ?_
 refine J E (J E (Z E Bg (Ai E E E ?_)))
 exact k.mono tL
 refine AD E (AD E (AD E (Ai E E E ?_)))
 exact k.mono tL
 refine J E ?_
 refine FR 53 4 57 hy10 E (fun hb hg5 k=>?_) (fun hb k=>?_) ?_
 obtain⟨y9,hy9,hg5⟩:=Ek hg5
 obtain rfl:=zI hg5
 refine J E (BU 14 eN (MV hy9) E ⟨⟨14,E⟩,zT⟩ (Z E Bg (Ai E E E ?_)))
 exact k.mono tL
 refine AD E (AD E (AD E (Ai E E E ?_)))
 exact k.mono tL
 refine J E ?_
 refine FR 58 5 63 hy12 E (fun hb hg6 k=>?_) (fun hb k=>?_) ?_
 obtain⟨y11,hy11,hg6⟩:=Ek hg6
 obtain rfl:=zI hg6
 refine J E (SL.pick [2,3,4,5,6,7,8,9,10,11,12,13,0,1] 14 ?_)
 refine Bd (vs:=[_]) (Hin:=[_,_,_,_,_,_,_,_,_,_,_,_]) (Hr:=_::_::_::_::_::_::_::_::_::_::_::_::_::_::_::_::_::_) E E ⟨E,zT⟩ kM E E (OI hy11) ?_
 rintro v24 _ ⟨_,rfl,rfl⟩
 refine⟨⟨⟨15,rfl⟩,trivial⟩,?_⟩
 refine DW 0 E C3 E E (Z E Bg (Ai E E E ?_))
 exact SL.mono (SL.heap k fun _ hw=>BW.pick (H:=[_,_,_,_,_,_,_,_,_,_,_,_,_,_,_,_,_,_,_,_,_,_,_,_,_,_,_,_,_,_]) hw [13,14,1,2,3,4,5,6,7,8,9,10,11,12,15,16,17,18,19,20,21,22,23,24,25,26,27,28,29] 30 E) tL
 refine AD E (AD E (AD E (AD E (Ai E E E ?_))))
 exact k.mono tL
 refine J E ?_
 refine FR 64 5 69 hy15 E (fun hb hg7 k=>?_) (fun hb k=>?_) ?_
 obtain⟨y13,hy13,hg7⟩:=Ek hg7
 obtain⟨y14,hy14,hg7⟩:=Ek hg7
 obtain rfl:=zI hg7
 refine J E (J E (SL.pick [10,11,12,13,0,1,2,3,4,5,6,7,8,9] 14 ?_))
 refine Bd (vs:=[_]) (Hin:=[_,_,_,_]) (Hr:=_::_::_::_::_::_::_::_::_::_::_::_::_::_::_::_::_::_::_::_::_::_::_::_::_::_) E E ⟨E,zT⟩ kN E E (Vt hy13) ?_
 rintro v25 _ ⟨_,rfl,rfl⟩
 refine⟨⟨⟨15,rfl⟩,trivial⟩,?_⟩
 refine SL.pick [16,0,1,2,3,4,5,6,7,8,9,10,11,12,13,14,15] 17 ?_
 refine Bd (vs:=[_,_]) (Hin:=[_,_]) (Hr:=_::_::_::_::_::_::_::_::_::_::_::_::_::_::_::_::_::_::_::_::_::_::_::_::_::_::_::_::_) E E ⟨E,E,zT⟩ py E E (Cm (B:=[_,_]) (Hin:=[]) fun K' w1 hk hB=>YV hy14 (CT (e:=9) (v:=v17) zV (hB _ zS)) (CT (e:=9) (v:=v25) zV (hB _ zS))) ?_
 rintro _ _ ⟨_,rfl,rfl,rfl⟩
 refine⟨⟨⟨16,rfl⟩,trivial⟩,?_⟩
 refine Ai E E E ?_
 exact SL.mono (SL.heap k fun _ hw=>BW.pick (H:=[_,_,_,_,_,_,_,_,_,_,_,_,_,_,_,_,_,_,_,_,_,_,_,_,_,_,_,_,_,_]) hw [6,7,8,9,10,11,12,13,14,15,2,3,4,5,16,0,17,18,19,20,21,22,23,24,25,26,27,28,29] 30 E) tL
 refine AD E (AD E (AD E (AD E (Ai E E E ?_))))
 exact k.mono tL
 refine J E ?_
 refine FR 70 5 75 hy17 E (fun hb hg8 k=>?_) (fun hb k=>?_) ?_
 obtain⟨y16,hy16,hg8⟩:=Ek hg8
 obtain rfl:=zI hg8
 refine J E (As [AV y4.cnt,vS y4.tag,AA y4.boots] E j0 E E (Aj 0 E) (SL.pick [10,11,12,13,0,1,2,3,4,5,6,7,8,9] 14 (BU 4 XQ (J0 hy16) E ⟨⟨14,E⟩,zT⟩ ?_)))
 refine P8 E sN E E (Cd E E (aK (a:=y16.cnt) (b:=y4.cnt)) (Cd E E (SE (a:=y16.tag) (b:=y4.tag)) (Cd E E (Jl (a:=y16.boots) (b:=y4.boots)) I2))) ?_
 refine Ai E E E ?_
 exact SL.mono (SL.heap k fun _ hw=>BW.pick (H:=[_,_,_,_,_,_,_,_,_,_,_,_,_,_,_,_,_,_,_,_,_,_,_,_,_,_,_,_,_]) hw [4,5,6,7,8,9,10,11,12,13,0,1,2,3,14,15,16,17,18,19,20,21,22,23,24,25,26,27,28] 29 E) tL
 refine AD E (AD E (AD E (AD E (Ai E E E ?_))))
 exact k.mono tL
 refine U E (V (AL ?_))
 obtain rfl:=zI h
 exact AX [] 29 E E E
end

section
theorem aH(a b:UInt64):∃y,FT a b=some y:=by
 unfold FT GG
 rw[Bw,Bw,zt rfl,zt rfl,AB,AB]
 simp only[Bool.not_true,CE]
 cases decide (a<b)<;>cases decide (b<a)<;>exact⟨_,rfl⟩
theorem ot{k:Nat}(h:k≤2000):((shr64 (Cn (k:Int)) 1).toNat:Int)=((k / 2:Nat):Int):=by
 rw[KU _ _ zD]
 unfold Cn
 rw[show((k:Int)%18446744073709551616).toNat=k by omega,show(UInt64.ofNat k).toNat=k by simp;omega]
theorem fC(l:List Ao)(id:UInt64)(hl:l.length≤1000):∃(i:Nat) (b:Bool),IJ 2200000 l id=some ((i:Int),b)∧i≤l.length∧(b=true→i<l.length):=by
 have one:∀r:Ao,∃y,Ga r id=some y:=fun r=>by
  obtain⟨y,hy⟩:=aH r.id id
  exact⟨y,by unfold Ga;rw[hy];rfl⟩
 have fin:∀i:Nat,i≤l.length→∃b,CR l id (i:Int)=some ((i:Int),b)∧(b=true→i<l.length):=by
  intro i hi
  unfold CR
  by_cases h:i<l.length
  obtain⟨y,hy⟩:=one l[i]
  have h1:BE l (i:Int)=some l[i]:=by rw[Ez];exact List.getElem?_eq_getElem h
  rw[zt zO,h1,AB,hy,AB]
  exact⟨_,rfl,fun _=>h⟩
  rw[zf zO]
  exact⟨false,rfl,fun h=>(by cases h)⟩
 have key:∀(m i j:Nat),i≤j→j≤l.length→j-i<m→∃(k:Nat) (b:Bool),CS l id m ((i:Int),(j:Int))=some ((k:Int),b)∧k≤l.length∧(b=true→k<l.length):=by
  intro m
  induction m with
  | zero=>intro i j _ _ h;omega
  | succ m ih=>
   intro i j hij hj hm
   show ∃(k:Nat) (b:Bool),CN l id (CS l id m) (i:Int) (j:Int)=some ((k:Int),b)∧k≤l.length∧(b=true→k<l.length)
   unfold CN
   by_cases h:i<j
   have hh:wI ((shr64 (Cn (wI ((i:Int)+(j:Int)))) 1).toNat:Int)=(((i+j) / 2:Nat):Int):=by
    rw[Cw (x:=(i:Int)+(j:Int)) zO zO,show(i:Int)+(j:Int)=((i+j:Nat):Int) by omega,ot zO,Cw zO zO]
   have hlt:(i+j) / 2<l.length:=zO
   obtain⟨y,hy⟩:=one (l[(i+j) / 2])
   have h1:BE l (((i+j) / 2:Nat):Int)=some l[(i+j) / 2]:=by rw[Ez];exact List.getElem?_eq_getElem hlt
   rw[zt zO,Cz,Bw,hh,h1,AB,hy,AB]
   cases decide (y<0)with
   | true=>
    rw[Cz,Bw,Cw zO zO]
    exact ih ((i+j) / 2+1) j zO hj zO
   | false=>
    rw[CE]
    exact ih i ((i+j) / 2) zO zO zO
   rw[zf zO,CE]
   obtain⟨b,hb,hb2⟩:=fin i zO
   exact⟨i,b,hb,by omega,hb2⟩
 obtain⟨k,b,hk,h1,h2⟩:=key 2200000 0 l.length (Nat.zero_le _) (Nat.le_refl _) zO
 refine⟨k,b,?_,h1,h2⟩
 unfold IJ Co
 rw[show(0:Int)=((0:Nat):Int)from rfl,hk]
 rfl
theorem Ob{α:Type}{b:Nat}{s t:List α}(hb:b≤100)(h:s.length+t.length≤5000):DK b s t=some (s++t):=by
 have h1:(s.length+t.length)*b≤5000*100:=Nat.mul_le_mul h hb
 exact if_pos ⟨by omega,by omega⟩
theorem W1(l:List Ao)(o:H9)(hl:l.length≤1000):∃r,DY 2200000 l o=some r∧r.1.length≤l.length+1:=by
 unfold DY
 rw[Py l zO zO,AB]
 cases E2 l with
 | false=>exact⟨_,rfl,Nat.zero_le _⟩
 | true=>
  rw[Bool.not_true,CE]
  have hc:∃e,J8 o=some e:=by
   unfold J8 Hf Fd
   simp only[Bw,AB]
   cases decide (o.kind=3)<;>cases decide (o.kind=2)<;>cases decide (o.kind=1)<;>cases (decide (max o.x o.y<2147483648)&&decide ((([]:List UInt8).length:Int)≤16))<;>cases (decide (max o.x o.y<2147483648)&&decide ((o.txt.length:Int)≤16))<;>exact⟨_,rfl⟩
  obtain⟨e,he⟩:=hc
  rw[he,AB]
  cases (!decide (e=0))with
  | true=>exact⟨_,rfl,Nat.zero_le _⟩
  | false=>
   rw[CE]
   obtain⟨i,b,hp,hi,hb⟩:=fC l o.id hl
   rw[hp,AB,Bw]
   have fin:∀(a:Nat) (t:List UInt8),a≤l.length→i≤a→∃r,E8 l o ((i:Int),b) (a:Int) t=some r∧r.1.length≤l.length+1:=by
    intro a t ha hia
    have h1:Im l 0 (i:Int)=some (l.take i):=by
     unfold Im
     rw[if_pos zO]
     simp
    have h2:Im l (a:Int) (l.length:Int)=some (l.drop a):=by
     unfold Im
     rw[if_pos zO]
     congr 1
     exact List.take_of_length_le zS
    have l1:(l.take i).length=i:=by rw[List.length_take];omega
    have l2:(l.drop a).length=l.length-a:=List.length_drop ..
    unfold E8 He PZ
    rw[h1,AB,Ob zO (by simp only[List.length_nil,l1];omega),AB,h2,List.nil_append]
    cases (!decide (o.kind=3))with
    | true=>
     rw[Cz,Ob zO (by simp only[List.length_cons,List.length_nil,l1];omega),AB,AB,Ob zO (by simp only[List.length_append,List.length_cons,List.length_nil,l1,l2];omega),AB]
     exact⟨_,rfl,by simp only[List.length_append,List.length_cons,List.length_nil,l1,l2];omega⟩
    | false=>
     rw[CE,AB,Ob zO (by simp only[l1,l2];omega),AB]
     exact⟨_,rfl,by simp only[List.length_append,l1,l2];omega⟩
   cases ((!((i:Int),b).2) && !decide (o.kind=1))with
   | true=>exact⟨_,rfl,Nat.zero_le _⟩
   | false=>
    rw[CE,Bw]
    cases ((!((i:Int),b).2)&&decide ((l.length:Int)=1000))with
    | true=>exact⟨_,rfl,Nat.zero_le _⟩
    | false=>
     rw[CE]
     cases b with
     | false=>exact fin i o.txt hi (Nat.le_refl _)
     | true=>
      have hlt:=hb rfl
      have h1:BE l (i:Int)=some l[i]:=by rw[Ez];exact List.getElem?_eq_getElem hlt
      show ∃r,ret (wI ((i:Int)+1)) (fun x3=>(BE l (i:Int)).bind _)=some r∧_
      rw[Bw,h1,AB,Cw zO zO,show(i:Int)+1=((i+1:Nat):Int) by omega]
      cases (decide (o.kind=2) && !(decide (l[i].id=o.id)&&(decide (l[i].x=o.x)&&(decide (l[i].y=o.y)&&(decide (l[i].txt=o.txt)&&true)))))with
      | true=>exact fin (i+1) _ hlt (Nat.le_succ _)
      | false=>exact fin (i+1) _ hlt (Nat.le_succ _)
theorem Vr:∀(ops:List H9) (cur:List Ao),cur.length+ops.length≤500→∃y,Jz 2200000 ops cur=some y∧y.1.length≤cur.length+ops.length
 | [],cur,_=>⟨_,rfl,Nat.le_refl _⟩
 | o::r,cur,h=>by
  simp only[List.length_cons]at h
  obtain⟨y,hy,hl⟩:=W1 cur o zO
  rw[Jz,hy,AB]
  cases decide (y.2=0)with
  | true=>
   obtain⟨z,hz,hl2⟩:=Vr r y.1 zO
   exact⟨z,hz,by simp only[List.length_cons];omega⟩
  | false=>exact⟨_,rfl,Nat.zero_le _⟩
theorem iQ(f:C6)(l:List Ao)(o:H9)(hl:l.length≤50)(hf:f.ops.length≤50):∃(e:Int) (ops:List H9),VB 2200000 f l o=some (e,{ f with ops:=ops })∧(e=0→ops.length=f.ops.length+1)∧(e≠0→ops=f.ops):=by
 obtain⟨y,hy,hyl⟩:=Vr f.ops l zO
 unfold VB
 rw[zf zO,CE,zt zO,Cz,hy,AB]
 by_cases h:y.2=0
 rw[zt h,Bool.not_true,CE]
 obtain⟨z,hz,-⟩:=W1 y.1 o zO
 rw[hz,AB]
 by_cases h2:z.2=0
 rw[zt h2,Cz,Ob zO (by simp only[List.length_cons,List.length_nil];omega),AB,h2]
 exact⟨0,_,rfl,fun _=>by simp,fun h=>absurd rfl h⟩
 rw[zf h2,CE]
 exact⟨z.2,f.ops,rfl,fun h=>absurd h h2,fun _=>rfl⟩
 rw[zf h,Bool.not_false,Cz]
 exact⟨y.2,f.ops,rfl,fun h2=>absurd h2 h,fun _=>rfl⟩
theorem lL{T:List UInt32}{o:Bx}{v:Az}{d:Ah}(hr:o.rows=[])(f:C6)(ho:f.isOpen=true)(hc:f.closed=false)(hf:f.ops.length≤50)(r:Ao):
  ∃(e:Int) (ops:List H9),Ev 2200000 T f o v d r=some (e,{ f with ops:=ops },o,v,d)∧(e=0→ops.length=f.ops.length+1)∧(e≠0→ops=f.ops):=by
 have h1:Cy o v d=some []:=by
  unfold Cy
  rw[hr]
  rfl
 obtain⟨ops0,io,cl⟩:=f
 obtain rfl:io=true:=ho
 obtain rfl:cl=false:=hc
 obtain⟨e,ops,h2,h3,h4⟩:=iQ ⟨ops0,true,false⟩ [] ⟨1,r.id,r.x,r.y,r.txt⟩ (Nat.zero_le _) hf
 refine⟨e,ops,?_,h3,h4⟩
 unfold Ev GH Cu
 show((Cy o v d).bind _).bind _=_
 rw[h1,AB,h2,AB,AB]
theorem em{d:Ah}(h:d.blocks.length=60):∃l,Ns 2200000 d=some l∧l.length=60:=by
 have key:∀(m i:Nat) (acc:List (List UInt8)),acc.length=i→i≤60→60-i<m→∃l,J5 d m (acc,(i:Int))=some l∧l.length=60:=by
  intro m
  induction m with
  | zero=>intro i _ _ _ h;omega
  | succ m ih=>
   intro i acc ha hi hm
   show ∃l,IH d (J5 d m) acc (i:Int)=some l∧l.length=60
   unfold IH
   by_cases hlt:i<60
   have hp:(Ep (i:Int)).toNat<d.blocks.length:=by
    unfold Ep
    rw[show((i:Int)%4294967296).toNat=i by omega]
    simp
    omega
   rw[zt zO,Cz,Yx hp,AB,Ob zO (by simp only[List.length_cons,List.length_nil];omega),AB,Cw zO zO]
   exact ih (i+1) _ (by simp[ha]) zO zO
   rw[zf zO,CE]
   exact⟨acc,rfl,by omega⟩
 exact key 2200000 0 [] rfl zO zO
theorem az(l:List (List UInt8)){n:Nat}(hn:l.length<n)(hl:l.length≤1048576):LQ n l l=some true:=by
 unfold LQ
 rw[zt rfl,Bool.not_true,CE]
 unfold Kx
 refine Ec (fun i=>(i:Int)) l.length ?_ ?_ hn
 intro i hi k
 simp only[Gz]
 rw[zt zO,Cz,Ez,List.getElem?_eq_getElem hi,AB,AB,zt rfl,Bool.not_true,CE,Bw,Cw zO zO]
 rfl
 intro k
 simp only[Gz]
 rw[zf zO,CE]
 rfl
theorem Ye(T:List UInt32)(l:List Ao)(hT:T.length=64):IB 2200000 T l=some true:=by
 obtain⟨o,v,d,a,w,c,hm,S,hrw⟩:=gz hT
 have hput:∃(ops:List H9),Md 2200000 T ⟨[],true,false⟩ o v d l=some ((ops.length:Int),⟨ops,true,false⟩,o,v,d):=by
  unfold Md
  have key:∀(m i:Nat) (ops:List H9),ops.length≤i→i≤12→i≤l.length→12-i<m→∃(ops':List H9),HP 2200000 T l m (⟨ops,true,false⟩,o,d,v,(ops.length:Int),(i:Int))=some ((ops'.length:Int),⟨ops',true,false⟩,o,v,d):=by
   intro m
   induction m with
   | zero=>intro i _ _ _ _ h;omega
   | succ m ih=>
    intro i ops h1 h2 h3 hm
    show ∃(ops':List H9),Hd 2200000 T l (HP 2200000 T l m) ⟨ops,true,false⟩ o d v (ops.length:Int) (i:Int)=some ((ops'.length:Int),⟨ops',true,false⟩,o,v,d)
    unfold Hd
    by_cases h:i<l.length∧i<12
    have hx:BE l (i:Int)=some (l[i]'h.1):=by rw[Ez];exact List.getElem?_eq_getElem h.1
    obtain⟨e,ops2,hp,he1,he2⟩:=lL (T:=T) (v:=v) (d:=d) hrw ⟨ops,true,false⟩ rfl rfl (show ops.length≤50 by omega) (l[i]'h.1)
    rw[show(decide ((i:Int)<(l.length:Int))&&decide ((i:Int)<12))=true by simp;omega,Cz,hx,AB,hp,AB]
    by_cases he:e=0
    have h5:ops2.length=ops.length+1:=he1 he
    simp only[he,decide_true,Cz]
    rw[Bw]
    unfold HO
    rw[Bw,Cw (x:=(ops.length:Int)+1) zO zO,Cw zO zO,show(ops.length:Int)+1=((ops2.length:Nat):Int) by omega]
    exact ih (i+1) ops2 zO zO zO zO
    have h5:ops2=ops:=he2 he
    subst h5
    simp only[he,decide_false,CE]
    unfold HO
    rw[Bw,Cw zO zO]
    exact ih (i+1) ops2 zO zO zO zO
    rw[show(decide ((i:Int)<(l.length:Int))&&decide ((i:Int)<12))=false by simp;omega,CE]
    exact⟨ops,rfl⟩
  exact key 2200000 0 [] (Nat.zero_le _) zO (Nat.zero_le _) zO
 obtain⟨ops,hput⟩:=hput
 obtain⟨im,him,hil⟩:=em S.dv.bl
 have hbg:Fb ⟨[],false,false⟩ o v d=some (0,⟨[],true,false⟩):=rfl
 have hop:EY ⟨ops,true,false⟩ o v d=some (ops.length:Int):=rfl
 have hab:Ir ⟨ops,true,false⟩ o v d=some (0,⟨[],false,false⟩):=rfl
 have hop2:EY ⟨[],false,false⟩ o v d=some (-1):=rfl
 have hro:Cy o v d=some []:=by
  unfold Cy
  rw[hrw]
  rfl
 unfold IB
 rw[jA hT,AB,hm,AB,AB,him,AB]
 unfold E7
 rw[AB,hbg,AB,hput,AB,hop,AB,hab,AB,hop2,hro]
 simp only[decide_true,Bool.and_self,Bool.true_and,Ij,Cz,AB,List.length_nil,him,az im (show im.length<2200000 by omega) zO]
 rfl
end
end Go.Proofs.YtjkhnhichalenaaGreatDoor
