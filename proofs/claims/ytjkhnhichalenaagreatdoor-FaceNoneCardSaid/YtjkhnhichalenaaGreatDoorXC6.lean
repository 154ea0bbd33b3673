/- The texts FP7, S26, S27, S28, FN0, FP8, FP9, V1, V2, V3, V4a, FL3, FP7k, FR0, FP10, FL4, FP13, FL6, one behind the other: walks of the program, and plain laws of what it computes. Conditions: as each theorem says. -/
import Derived.Test.YtjkhnhichalenaaGreatDoorXC1
import Derived.Test.YtjkhnhichalenaaGreatDoorXC2
import Derived.Test.YtjkhnhichalenaaGreatDoorXC3
import Derived.Test.YtjkhnhichalenaaGreatDoorXC4
import Derived.Test.YtjkhnhichalenaaGreatDoorXC5

set_option linter.unusedVariables false
set_option linter.unusedSimpArgs false
set_option maxHeartbeats 4000000
set_option maxRecDepth 100000
namespace Go.Proofs.YtjkhnhichalenaaGreatDoor
open Go
section
variable {K:Nat→Prop}{w0:World}{H:List AZ}
def Sb(p0:B2)(p0_1:A5)(p0_2:Ao):Option (Option C2×Int):=
 some (some ({ ops:=[],isOpen:=false,closed:=false }:C2),0)
theorem cz{Ap Cc Br BF BP BQ:Nat}{Am Ad A3 Be Bs BR:Value}{p0:B2}{p0_1:A5}{p0_2:Ao}{r:Option C2×Int}(h:Sb p0 p0_1 p0_2=some r): zC K w0 19 [vP Ap 0] [AK Ap (.cells #[Am,Ad,A3,vP BF 0,vP Cc 0,Be,Z p0.gen,vB p0.bad] 94),AC 35 4 Am AX p0.rows,AC 190 3 Ad AT p0.pages,Ci A3 Z Z p0.gens,AC 114 2 Be AY p0.ring,AK Cc (.cells #[vP BF 0,Bs,Z p0_1.gen,Z p0_1.boot,AV p0_1.seals,.map (some Br)] 181),AC 114 2 Bs AY p0_1.ring,Ab Br Z vB p0_1.taken,AK BF (.cells #[vB p0_2.off,vB p0_2.isCut,vI p0_2.lasts,vI p0_2.counts,BR,.map (some BP),.map (some BQ),AV p0_2.rcnt,vS p0_2.rtag,Z p0_2.rboots] 100),AC 9 1 BR eS p0_2.blocks,Ab BP Z vS p0_2.pend,Ab BQ Z vB p0_2.bad] H (fun u M=>(r.1=none∧u=.tuple #[.pointer none,vI r.2]∧M=[AK Ap (.cells #[Am,Ad,A3,vP BF 0,vP Cc 0,Be,Z p0.gen,vB p0.bad] 94),AC 35 4 Am AX p0.rows,AC 190 3 Ad AT p0.pages,Ci A3 Z Z p0.gens,AC 114 2 Be AY p0.ring,AK Cc (.cells #[vP BF 0,Bs,Z p0_1.gen,Z p0_1.boot,AV p0_1.seals,.map (some Br)] 181),AC 114 2 Bs AY p0_1.ring,Ab Br Z vB p0_1.taken,AK BF (.cells #[vB p0_2.off,vB p0_2.isCut,vI p0_2.lasts,vI p0_2.counts,BR,.map (some BP),.map (some BQ),AV p0_2.rcnt,vS p0_2.rtag,Z p0_2.rboots] 100),AC 9 1 BR eS p0_2.blocks,Ab BP Z vS p0_2.pend,Ab BQ Z vB p0_2.bad])∨(∃(d:C2) (bn0:Nat) (vn0x0:Value),r.1=some d∧u=.tuple #[vP bn0 0,vI r.2]∧M=[AK bn0 (.cells #[vn0x0,vB d.isOpen,vP Ap 0,vB d.closed] 80),AC 83 5 vn0x0 Bm d.ops,AK Ap (.cells #[Am,Ad,A3,vP BF 0,vP Cc 0,Be,Z p0.gen,vB p0.bad] 94),AC 35 4 Am AX p0.rows,AC 190 3 Ad AT p0.pages,Ci A3 Z Z p0.gens,AC 114 2 Be AY p0.ring,AK Cc (.cells #[vP BF 0,Bs,Z p0_1.gen,Z p0_1.boot,AV p0_1.seals,.map (some Br)] 181),AC 114 2 Bs AY p0_1.ring,Ab Br Z vB p0_1.taken,AK BF (.cells #[vB p0_2.off,vB p0_2.isCut,vI p0_2.lasts,vI p0_2.counts,BR,.map (some BP),.map (some BQ),AV p0_2.rcnt,vS p0_2.rtag,Z p0_2.rboots] 100),AC 9 1 BR eS p0_2.blocks,Ab BP Z vS p0_2.pend,Ab BQ Z vB p0_2.bad])):=by
 unfold Sb at h
 refine T6.enter Tryz.func19 rfl rfl ?_
 refine Y (U E (U E (V (AH (Y (J E (D8 E eD E E (V (Cz E (AJ (AI (Y (J E (Bt [_] E tJ tD tY ⟨E,zT⟩ E ?_))))))))))))))
 refine Ba E E zU fun b1=>?_
 refine B5 83 5 Bm (U E (U E (V (AL ?_))))
 obtain rfl:=zI h
 exact Al (ET E E E) (Ak (M:=[_,_,_,_,_,_,_,_,_,_,_,_,_,_]) (.inr ⟨_,b1,zN,E,E,E⟩) fun _ hw=>Bc.pick (H:=[_,_,_,_,_,_,_,_,_,_,_,_,_,_]) hw [1,0,2,3,4,5,6,7,8,9,10,11,12,13] 14 E)
def OG:Option Int:=
 some 1
theorem Wp{r:Int}(h:OG=some r): zC K w0 19 [.pointer none] [] H (fun u M=>u=.tuple #[.pointer none,vI r]∧M=[]):=by
 unfold OG at h
 refine T6.enter Tryz.func19 rfl rfl ?_
 refine Y (U E (U E (V (AH (Y (J E (D8 E eD E E (V (NW E (Y (U E (U E (V (AL (Ac ?_)))))))))))))))
 obtain rfl:=zI h
 exact AW [] 0 E E E
def CU(p0:C2)(p0_1:B2)(p0_2:A5)(p0_3:Ao):Option Int:=
 cond p0.closed
 (
  some 141)
 (
  some 0)
theorem DD{Ap B1 BH Au Ae Ah Ai:Nat}{Am BJ BK BL BI Av Aj:Value}{p0:C2}{p0_1:B2}{p0_2:A5}{p0_3:Ao}{r:Int}(h:CU p0 p0_1 p0_2 p0_3=some r): zC K w0 30 [vP Ap 0] [AK Ap (.cells #[Am,vB p0.isOpen,vP B1 0,vB p0.closed] 80),AC 83 5 Am Bm p0.ops,AK B1 (.cells #[BJ,BK,BL,vP Ae 0,vP BH 0,BI,Z p0_1.gen,vB p0_1.bad] 94),AC 35 4 BJ AX p0_1.rows,AC 190 3 BK AT p0_1.pages,Ci BL Z Z p0_1.gens,AC 114 2 BI AY p0_1.ring,AK BH (.cells #[vP Ae 0,Av,Z p0_2.gen,Z p0_2.boot,AV p0_2.seals,.map (some Au)] 181),AC 114 2 Av AY p0_2.ring,Ab Au Z vB p0_2.taken,AK Ae (.cells #[vB p0_3.off,vB p0_3.isCut,vI p0_3.lasts,vI p0_3.counts,Aj,.map (some Ah),.map (some Ai),AV p0_3.rcnt,vS p0_3.rtag,Z p0_3.rboots] 100),AC 9 1 Aj eS p0_3.blocks,Ab Ah Z vS p0_3.pend,Ab Ai Z vB p0_3.bad] H (fun u M=>u=vI r∧M=[AK Ap (.cells #[Am,vB p0.isOpen,vP B1 0,vB p0.closed] 80),AC 83 5 Am Bm p0.ops,AK B1 (.cells #[BJ,BK,BL,vP Ae 0,vP BH 0,BI,Z p0_1.gen,vB p0_1.bad] 94),AC 35 4 BJ AX p0_1.rows,AC 190 3 BK AT p0_1.pages,Ci BL Z Z p0_1.gens,AC 114 2 BI AY p0_1.ring,AK BH (.cells #[vP Ae 0,Av,Z p0_2.gen,Z p0_2.boot,AV p0_2.seals,.map (some Au)] 181),AC 114 2 Av AY p0_2.ring,Ab Au Z vB p0_2.taken,AK Ae (.cells #[vB p0_3.off,vB p0_3.isCut,vI p0_3.lasts,vI p0_3.counts,Aj,.map (some Ah),.map (some Ai),AV p0_3.rcnt,vS p0_3.rtag,Z p0_3.rboots] 100),AC 9 1 Aj eS p0_3.blocks,Ab Ah Z vS p0_3.pend,Ab Ai Z vB p0_3.bad]):=by
 unfold CU at h
 refine T6.enter Tryz.func30 rfl rfl ?_
 refine Y (U E (V (AH (AQ (Y (J E (D8 E qM E E (U E (V (Cz E (Y (J E (AU E E (AF E iO ?_))))))))))))))
 refine AG 0 WD E (U E (V ?_))
 refine AP h E (fun hc2 h=>?_) fun hc2 h=>?_
 refine Y (U E (V (AL (BC (Ac ?_)))))
 obtain rfl:=zI h
 exact AW [0,1,2,3,4,5,6,7,8,9,10,11,12,13] 14 E E E
 refine AJ (Ay (AI (Y (U E (V (AL ?_))))))
 obtain rfl:=zI h
 exact AW [0,1,2,3,4,5,6,7,8,9,10,11,12,13] 14 E E E
def Ct:Option Int:=
 some 1
theorem DQ{r:Int}(h:Ct=some r): zC K w0 30 [.pointer none] [] H (fun u M=>u=vI r∧M=[]):=by
 unfold Ct at h
 refine T6.enter Tryz.func30 rfl rfl ?_
 refine Y (U E (V (AH (AQ (Y (J E (D8 E qM E E (U E (V (NW E (Y (U E (V (AL (BC (Ac ?_))))))))))))))))
 obtain rfl:=zI h
 exact AW [] 0 E E E
def LM(p0:C2)(p0_1:B2)(p0_2:A5)(p0_3:Ao):Option C2:=
 some ({ p0 with ops:=[],isOpen:=true })
theorem TU{Ap B1 BH Au Ae Ah Ai:Nat}{Am BJ BK BL BI Av Aj:Value}{p0:C2}{p0_1:B2}{p0_2:A5}{p0_3:Ao}{r:C2}(h:LM p0 p0_1 p0_2 p0_3=some r): zC K w0 31 [vP Ap 0] [AK Ap (.cells #[Am,vB p0.isOpen,vP B1 0,vB p0.closed] 80),AC 83 5 Am Bm p0.ops,AK B1 (.cells #[BJ,BK,BL,vP Ae 0,vP BH 0,BI,Z p0_1.gen,vB p0_1.bad] 94),AC 35 4 BJ AX p0_1.rows,AC 190 3 BK AT p0_1.pages,Ci BL Z Z p0_1.gens,AC 114 2 BI AY p0_1.ring,AK BH (.cells #[vP Ae 0,Av,Z p0_2.gen,Z p0_2.boot,AV p0_2.seals,.map (some Au)] 181),AC 114 2 Av AY p0_2.ring,Ab Au Z vB p0_2.taken,AK Ae (.cells #[vB p0_3.off,vB p0_3.isCut,vI p0_3.lasts,vI p0_3.counts,Aj,.map (some Ah),.map (some Ai),AV p0_3.rcnt,vS p0_3.rtag,Z p0_3.rboots] 100),AC 9 1 Aj eS p0_3.blocks,Ab Ah Z vS p0_3.pend,Ab Ai Z vB p0_3.bad] H (fun u M=>∃vs0_0_0:Value,u=.tuple #[]∧M=[AK Ap (.cells #[vs0_0_0,vB r.isOpen,vP B1 0,vB r.closed] 80),AC 83 5 vs0_0_0 Bm r.ops,AK B1 (.cells #[BJ,BK,BL,vP Ae 0,vP BH 0,BI,Z p0_1.gen,vB p0_1.bad] 94),AC 35 4 BJ AX p0_1.rows,AC 190 3 BK AT p0_1.pages,Ci BL Z Z p0_1.gens,AC 114 2 BI AY p0_1.ring,AK BH (.cells #[vP Ae 0,Av,Z p0_2.gen,Z p0_2.boot,AV p0_2.seals,.map (some Au)] 181),AC 114 2 Av AY p0_2.ring,Ab Au Z vB p0_2.taken,AK Ae (.cells #[vB p0_3.off,vB p0_3.isCut,vI p0_3.lasts,vI p0_3.counts,Aj,.map (some Ah),.map (some Ai),AV p0_3.rcnt,vS p0_3.rtag,Z p0_3.rboots] 100),AC 9 1 Aj eS p0_3.blocks,Ab Ah Z vS p0_3.pend,Ab Ai Z vB p0_3.bad]):=by
 unfold LM at h
 refine T6.enter Tryz.func31 rfl rfl ?_
 refine AS (J E (J E (AU E E (AF E Pr (A7 0 E E E E mc E E E zT (B5 83 5 Bm (AU E E (AF E TJ ?_))))))))
 refine A7 1 E E E E RQ E E E zT (Aa ?_)
 obtain rfl:=zI h
 exact C9 (Dh E) (Ak (M:=[_,_,_,_,_,_,_,_,_,_,_,_,_,_]) ⟨zN,E,E⟩ fun _ hw=>Bc.pick (H:=[_,_,_,_,_,_,_,_,_,_,_,_,_,_,_]) hw [1,0,3,4,5,6,7,8,9,10,11,12,13,14] 15 E)
def Gk(p0:C2)(p0_1:B2)(p0_2:A5)(p0_3:Ao):Option (List Ht×C2):=
 some (p0.ops,{ p0 with ops:=[],isOpen:=false })
theorem O0{Ap B1 BH Au Ae Ah Ai:Nat}{Am BJ BK BL BI Av Aj:Value}{p0:C2}{p0_1:B2}{p0_2:A5}{p0_3:Ao}{r:List Ht×C2}(h:Gk p0 p0_1 p0_2 p0_3=some r): zC K w0 33 [vP Ap 0] [AK Ap (.cells #[Am,vB p0.isOpen,vP B1 0,vB p0.closed] 80),AC 83 5 Am Bm p0.ops,AK B1 (.cells #[BJ,BK,BL,vP Ae 0,vP BH 0,BI,Z p0_1.gen,vB p0_1.bad] 94),AC 35 4 BJ AX p0_1.rows,AC 190 3 BK AT p0_1.pages,Ci BL Z Z p0_1.gens,AC 114 2 BI AY p0_1.ring,AK BH (.cells #[vP Ae 0,Av,Z p0_2.gen,Z p0_2.boot,AV p0_2.seals,.map (some Au)] 181),AC 114 2 Av AY p0_2.ring,Ab Au Z vB p0_2.taken,AK Ae (.cells #[vB p0_3.off,vB p0_3.isCut,vI p0_3.lasts,vI p0_3.counts,Aj,.map (some Ah),.map (some Ai),AV p0_3.rcnt,vS p0_3.rtag,Z p0_3.rboots] 100),AC 9 1 Aj eS p0_3.blocks,Ab Ah Z vS p0_3.pend,Ab Ai Z vB p0_3.bad] H (fun u M=>∃v0 vs0_0_0:Value,u=v0∧M=[AC 83 5 v0 Bm r.1,AK Ap (.cells #[vs0_0_0,vB r.2.isOpen,vP B1 0,vB r.2.closed] 80),AC 83 5 vs0_0_0 Bm r.2.ops,AK B1 (.cells #[BJ,BK,BL,vP Ae 0,vP BH 0,BI,Z p0_1.gen,vB p0_1.bad] 94),AC 35 4 BJ AX p0_1.rows,AC 190 3 BK AT p0_1.pages,Ci BL Z Z p0_1.gens,AC 114 2 BI AY p0_1.ring,AK BH (.cells #[vP Ae 0,Av,Z p0_2.gen,Z p0_2.boot,AV p0_2.seals,.map (some Au)] 181),AC 114 2 Av AY p0_2.ring,Ab Au Z vB p0_2.taken,AK Ae (.cells #[vB p0_3.off,vB p0_3.isCut,vI p0_3.lasts,vI p0_3.counts,Aj,.map (some Ah),.map (some Ai),AV p0_3.rcnt,vS p0_3.rtag,Z p0_3.rboots] 100),AC 9 1 Aj eS p0_3.blocks,Ab Ah Z vS p0_3.pend,Ab Ai Z vB p0_3.bad]):=by
 unfold Gk at h
 refine T6.enter Tryz.func33 rfl rfl ?_
 refine Y (B5 83 5 Bm (U E (V (Y (J E (AU E E (AF E Pr (AG 1 Zk E (U E (V (Y (J E ?_))))))))))))
 refine J E (AU E E (AF E Pr (A7 1 E E E E mc E E E zT (B5 83 5 Bm (AU E E (AF E TJ (A7 2 E E E E RQ E E E zT (V (Y ?_)))))))))
 refine J E (U E (V (AL ?_)))
 obtain rfl:=zI h
 exact Bp [3,2,0,4,5,6,7,8,9,10,11,12,13,14,15] 16 (Cn E E) E E ⟨Am,(.slice none 0 0),E,E⟩
def Gj(p0:C2)(p0_1:B2)(p0_2:A5)(p0_3:Ao):Option (Int×C2):=
 (CU p0 p0_1 p0_2 p0_3).bind fun y1=>
 ret (!decide (y1=0)) fun x1=>
 cond x1
 (
  some (y1,p0))
 (
  cond p0.isOpen
  (
   some (140,p0))
  (
   (LM p0 p0_1 p0_2 p0_3).bind fun y2=>
   some (0,y2)))
theorem Oz{Ap B1 BH Au Ae Ah Ai:Nat}{Am BJ BK BL BI Av Aj:Value}{p0:C2}{p0_1:B2}{p0_2:A5}{p0_3:Ao}{r:Int×C2}(h:Gj p0 p0_1 p0_2 p0_3=some r): zC K w0 8 [vP Ap 0] [AK Ap (.cells #[Am,vB p0.isOpen,vP B1 0,vB p0.closed] 80),AC 83 5 Am Bm p0.ops,AK B1 (.cells #[BJ,BK,BL,vP Ae 0,vP BH 0,BI,Z p0_1.gen,vB p0_1.bad] 94),AC 35 4 BJ AX p0_1.rows,AC 190 3 BK AT p0_1.pages,Ci BL Z Z p0_1.gens,AC 114 2 BI AY p0_1.ring,AK BH (.cells #[vP Ae 0,Av,Z p0_2.gen,Z p0_2.boot,AV p0_2.seals,.map (some Au)] 181),AC 114 2 Av AY p0_2.ring,Ab Au Z vB p0_2.taken,AK Ae (.cells #[vB p0_3.off,vB p0_3.isCut,vI p0_3.lasts,vI p0_3.counts,Aj,.map (some Ah),.map (some Ai),AV p0_3.rcnt,vS p0_3.rtag,Z p0_3.rboots] 100),AC 9 1 Aj eS p0_3.blocks,Ab Ah Z vS p0_3.pend,Ab Ai Z vB p0_3.bad] H (fun u M=>∃vs0_0_0:Value,u=vI r.1∧M=[AK Ap (.cells #[vs0_0_0,vB r.2.isOpen,vP B1 0,vB r.2.closed] 80),AC 83 5 vs0_0_0 Bm r.2.ops,AK B1 (.cells #[BJ,BK,BL,vP Ae 0,vP BH 0,BI,Z p0_1.gen,vB p0_1.bad] 94),AC 35 4 BJ AX p0_1.rows,AC 190 3 BK AT p0_1.pages,Ci BL Z Z p0_1.gens,AC 114 2 BI AY p0_1.ring,AK BH (.cells #[vP Ae 0,Av,Z p0_2.gen,Z p0_2.boot,AV p0_2.seals,.map (some Au)] 181),AC 114 2 Av AY p0_2.ring,Ab Au Z vB p0_2.taken,AK Ae (.cells #[vB p0_3.off,vB p0_3.isCut,vI p0_3.lasts,vI p0_3.counts,Aj,.map (some Ah),.map (some Ai),AV p0_3.rcnt,vS p0_3.rtag,Z p0_3.rboots] 100),AC 9 1 Aj eS p0_3.blocks,Ab Ah Z vS p0_3.pend,Ab Ai Z vB p0_3.bad]):=by
 unfold Gj at h
 refine T6.enter Tryz.func8 rfl rfl ?_
 refine Y (U E (V (Y ?_)))
 refine AE h fun y1 hy1 h=>?_
 refine J E (AM 14 In (DD hy1) E (U E (V (AH (AQ (Y ?_))))))
 obtain⟨x1,ex1,h⟩:=By h
 refine J E (AA E BG ?_)
 refine Aq (u:=vB x1) E E (congrArg vB ex1) ?_
 refine V ?_
 refine AP h E (fun hc1 h=>?_) fun hc1 h=>?_
 refine Y (J E (U E (V (AL (BC (Ac ?_))))))
 obtain rfl:=zI h
 exact Bp [0,1,2,3,4,5,6,7,8,9,10,11,12,13] 14 (Cn E E) E E ⟨Am,E,E⟩
 refine Y (J E (AU E E (AF E Oe (AF E TJ (AG 0 WD E (U E (V ?_)))))))
 refine AP h E (fun hc2 h=>?_) fun hc2 h=>?_
 refine Y (U E (V (AL (BC (Ac ?_)))))
 obtain rfl:=zI h
 exact Bp [0,1,2,3,4,5,6,7,8,9,10,11,12,13] 14 (Cn E E) E E ⟨Am,E,E⟩
 refine AJ (Ay (AI (Y ?_)))
 refine AE h fun y2 hy2 h=>?_
 refine J E (AU E E (AF E Oe (BY 14 qi ((TU hy2 :)) E ?_)))
 rintro _ _ ⟨v1,rfl,rfl⟩
 refine V (Y (U E (V (AL ?_))))
 obtain rfl:=zI h
 exact Bp [0,1,2,3,4,5,6,7,8,9,10,11,12,13] 14 (Cn E E) E E ⟨v1,E,E⟩
def GN(y2:List Ht×C2)(o1:B2)(o2:Ao)(o3:A5)(a1:Int):Option (Int×C2×B2×A5×Ao):=
 some (a1,y2.2,o1,o3,o2)
def EU(n:Nat)(T:List UInt32)(p0:C2)(p0_1:B2)(p0_2:A5)(p0_3:Ao):Option (Int×C2×B2×A5×Ao):=
 (CU p0 p0_1 p0_2 p0_3).bind fun y1=>
 ret (!decide (y1=0)) fun x1=>
 cond x1
 (
  some (y1,p0,p0_1,p0_2,p0_3))
 (
  ret (!p0.isOpen) fun x2=>
  cond x2
  (
   some (140,p0,p0_1,p0_2,p0_3))
  (
   (Gk p0 p0_1 p0_2 p0_3).bind fun y2=>
   cond (decide (0<(y2.1.length:Int)))
   (
    (Ds n T p0_1 p0_2 p0_3 y2.1).bind fun y3=>
    GN y2 y3.2.2.1 y3.2.2.2.2 y3.2.2.2.1 y3.2.1)
   (
    GN y2 p0_1 p0_3 p0_2 y1)))
theorem OU{n Ap B1 BH Au Ae Ah Ai:Nat}{T:List UInt32}{Am BJ BK BL BI Av Aj:Value}{p0:C2}{p0_1:B2}{p0_2:A5}{p0_3:Ao}{r:Int×C2×B2×A5×Ao}(h:EU n T p0 p0_1 p0_2 p0_3=some r)(hS:GQ K w0 T):zC K w0 10 [vP Ap 0] [AK Ap (.cells #[Am,vB p0.isOpen,vP B1 0,vB p0.closed] 80),AC 83 5 Am Bm p0.ops,AK B1 (.cells #[BJ,BK,BL,vP Ae 0,vP BH 0,BI,Z p0_1.gen,vB p0_1.bad] 94),AC 35 4 BJ AX p0_1.rows,AC 190 3 BK AT p0_1.pages,Ci BL Z Z p0_1.gens,AC 114 2 BI AY p0_1.ring,AK BH (.cells #[vP Ae 0,Av,Z p0_2.gen,Z p0_2.boot,AV p0_2.seals,.map (some Au)] 181),AC 114 2 Av AY p0_2.ring,Ab Au Z vB p0_2.taken,AK Ae (.cells #[vB p0_3.off,vB p0_3.isCut,vI p0_3.lasts,vI p0_3.counts,Aj,.map (some Ah),.map (some Ai),AV p0_3.rcnt,vS p0_3.rtag,Z p0_3.rboots] 100),AC 9 1 Aj eS p0_3.blocks,Ab Ah Z vS p0_3.pend,Ab Ai Z vB p0_3.bad] H (fun u M=>∃vs0_0_0 vs0_1_0 vs0_1_1 vs0_1_2:Value,u=vI r.1∧M=[AK Ap (.cells #[vs0_0_0,vB r.2.1.isOpen,vP B1 0,vB r.2.1.closed] 80),AC 83 5 vs0_0_0 Bm r.2.1.ops,AK B1 (.cells #[vs0_1_0,vs0_1_1,vs0_1_2,vP Ae 0,vP BH 0,BI,Z r.2.2.1.gen,vB r.2.2.1.bad] 94),AC 35 4 vs0_1_0 AX r.2.2.1.rows,AC 190 3 vs0_1_1 AT r.2.2.1.pages,Ci vs0_1_2 Z Z r.2.2.1.gens,AC 114 2 BI AY r.2.2.1.ring,AK BH (.cells #[vP Ae 0,Av,Z r.2.2.2.1.gen,Z r.2.2.2.1.boot,AV r.2.2.2.1.seals,.map (some Au)] 181),AC 114 2 Av AY r.2.2.2.1.ring,Ab Au Z vB r.2.2.2.1.taken,AK Ae (.cells #[vB r.2.2.2.2.off,vB r.2.2.2.2.isCut,vI r.2.2.2.2.lasts,vI r.2.2.2.2.counts,Aj,.map (some Ah),.map (some Ai),AV r.2.2.2.2.rcnt,vS r.2.2.2.2.rtag,Z r.2.2.2.2.rboots] 100),AC 9 1 Aj eS r.2.2.2.2.blocks,Ab Ah Z vS r.2.2.2.2.pend,Ab Ai Z vB r.2.2.2.2.bad]):=by
 unfold EU at h
 refine T6.enter Tryz.func10 rfl rfl ?_
 refine Y (U E (V (Y ?_)))
 refine AE h fun y1 hy1 h=>?_
 refine J E (AM 14 In (DD hy1) E (U E (V (AH (AQ (Y ?_))))))
 obtain⟨x1,ex1,h⟩:=By h
 refine J E (AA E BG ?_)
 refine Aq (u:=vB x1) E E (congrArg vB ex1) ?_
 refine V ?_
 refine AP h E (fun hc1 h=>?_) fun hc1 h=>?_
 refine Y (J E (U E (V (AL (BC (Ac ?_))))))
 obtain rfl:=zI h
 exact Bp [0,1,2,3,4,5,6,7,8,9,10,11,12,13] 14 (Cn E E) E E ⟨Am,BJ,BK,BL,E,E⟩
 refine Y ?_
 obtain⟨x2,ex2,h⟩:=By h
 refine J E (AU E E (AF E Oe (AF E TJ (AG 0 WD E (CW E E ?_)))))
 refine Aq (u:=vB x2) E E (congrArg vB ex2) ?_
 refine V ?_
 refine AP h E (fun hc2 h=>?_) fun hc2 h=>?_
 refine Y (U E (V (AL (BC (Ac ?_)))))
 obtain rfl:=zI h
 exact Bp [0,1,2,3,4,5,6,7,8,9,10,11,12,13] 14 (Cn E E) E E ⟨Am,BJ,BK,BL,E,E⟩
 refine AJ (Ay (AI (Y ?_)))
 refine AE h fun y2 hy2 h=>?_
 refine J E (AU E E (AF E Oe ?_))
 refine Bo (vs:=[_]) (Hin:=[_,_,_,_,_,_,_,_,_,_,_,_,_,_]) (Hr:=_) E E ⟨E,zT⟩ k0 E E ((O0 hy2 :)) ?_
 rintro v1 _ ⟨_,v2,rfl,rfl⟩
 refine⟨trivial,?_⟩
 refine U E (V ?_)
 refine BB (α:=B2×Value×Value×Value×Ao×A5×Int) (fun x=>GN y2 x.1 x.2.2.2.2.1 x.2.2.2.2.2.1 x.2.2.2.2.2.2=some r) (fun x=>[(0,vP Ap 0),(3,vI x.2.2.2.2.2.2)]) (fun x=>AK Ap (.cells #[v2,vB y2.2.isOpen,vP B1 0,vB y2.2.closed] 80)::AC 83 5 v2 Bm y2.2.ops::AK B1 (.cells #[x.2.1,x.2.2.1,x.2.2.2.1,vP Ae 0,vP BH 0,BI,Z x.1.gen,vB x.1.bad] 94)::AC 35 4 x.2.1 AX x.1.rows::AC 190 3 x.2.2.1 AT x.1.pages::Ci x.2.2.2.1 Z Z x.1.gens::AK Ae (.cells #[vB x.2.2.2.2.1.off,vB x.2.2.2.2.1.isCut,vI x.2.2.2.2.1.lasts,vI x.2.2.2.2.1.counts,Aj,.map (some Ah),.map (some Ai),AV x.2.2.2.2.1.rcnt,vS x.2.2.2.2.1.rtag,Z x.2.2.2.2.1.rboots] 100)::AC 9 1 Aj eS x.2.2.2.2.1.blocks::Ab Ah Z vS x.2.2.2.2.1.pend::Ab Ai Z vB x.2.2.2.2.1.bad::AK BH (.cells #[vP Ae 0,Av,Z x.2.2.2.2.2.1.gen,Z x.2.2.2.2.2.1.boot,AV x.2.2.2.2.2.1.seals,.map (some Au)] 181)::AC 114 2 Av AY x.2.2.2.2.2.1.ring::Ab Au Z vB x.2.2.2.2.2.1.taken::AC 114 2 BI AY x.1.ring::H) ?_ (fun x D h=>?_)
 refine Y (J E (Di 0 E Rh E E (AA E Cm (V ?_))))
 refine AP h E (fun hc3 h=>?_) fun hc3 h=>?_
 refine AS ?_
 refine AE h fun y3 hy3 h=>?_
 refine J E (AU E E (AF E XE (AG 1 ic E (J E (SL.pick [0,3,4,5,6,7,8,9,10,11,12,13,14,1,2] 15 ?_)))))
 refine Bo (vs:=[_,_]) (Hin:=[_,_,_,_,_,_,_,_,_,_,_,_,_]) (Hr:=_::_::_) E E ⟨E,E,zT⟩ k4 E E (Cl (B:=[_]) (Hin:=[_,_,_,_,_,_,_,_,_,_,_,_]) fun K' w1 hk hB=>NO hy3 (hS.keeps hk) (CY (e:=83) (v:=v1) zV (hB _ zS))) ?_
 rintro _ _ ⟨_,rfl,v6,v7,v8,rfl,rfl⟩
 refine⟨trivial,?_⟩
 refine J E (Af E E E (Af E E E (U E (Aa ?_))))
 exact Az (y3.2.2.1,v6,v7,v8,y3.2.2.2.2,y3.2.2.2.1,y3.2.1) h tL (BX [13,14,1,2,3,4,9,10,11,12,6,7,8,5] 15 E E E)
 refine AJ ?_
 exact Az (p0_1,BJ,BK,BL,p0_3,p0_2,y1) h tL (BX [1,2,3,4,5,6,11,12,13,14,8,9,10,7] 15 E E E)
 obtain⟨o1,v3,v4,v5,o2,o3,a1⟩:=x
 dsimp only at h
 unfold GN at h
 try dsimp only
 refine Y (J E (U E (V (AL ?_))))
 obtain rfl:=zI h
 exact Bp [0,1,2,3,4,5,13,10,11,12,6,7,8,9] 14 (Cn E E) E E ⟨v2,v3,v4,v5,E,E⟩
def HY(p0:C2)(p0_1:B2)(p0_2:A5)(p0_3:Ao):Option Int:=
 (CU p0 p0_1 p0_2 p0_3).bind fun y1=>
 cond ((!decide (y1=0))||(!p0.isOpen))
 (
  some (-1))
 (
  some (p0.ops.length:Int))
theorem Pj{Ap B1 BH Au Ae Ah Ai:Nat}{Am BJ BK BL BI Av Aj:Value}{p0:C2}{p0_1:B2}{p0_2:A5}{p0_3:Ao}{r:Int}(h:HY p0 p0_1 p0_2 p0_3=some r): zC K w0 16 [vP Ap 0] [AK Ap (.cells #[Am,vB p0.isOpen,vP B1 0,vB p0.closed] 80),AC 83 5 Am Bm p0.ops,AK B1 (.cells #[BJ,BK,BL,vP Ae 0,vP BH 0,BI,Z p0_1.gen,vB p0_1.bad] 94),AC 35 4 BJ AX p0_1.rows,AC 190 3 BK AT p0_1.pages,Ci BL Z Z p0_1.gens,AC 114 2 BI AY p0_1.ring,AK BH (.cells #[vP Ae 0,Av,Z p0_2.gen,Z p0_2.boot,AV p0_2.seals,.map (some Au)] 181),AC 114 2 Av AY p0_2.ring,Ab Au Z vB p0_2.taken,AK Ae (.cells #[vB p0_3.off,vB p0_3.isCut,vI p0_3.lasts,vI p0_3.counts,Aj,.map (some Ah),.map (some Ai),AV p0_3.rcnt,vS p0_3.rtag,Z p0_3.rboots] 100),AC 9 1 Aj eS p0_3.blocks,Ab Ah Z vS p0_3.pend,Ab Ai Z vB p0_3.bad] H (fun u M=>u=vI r∧M=[AK Ap (.cells #[Am,vB p0.isOpen,vP B1 0,vB p0.closed] 80),AC 83 5 Am Bm p0.ops,AK B1 (.cells #[BJ,BK,BL,vP Ae 0,vP BH 0,BI,Z p0_1.gen,vB p0_1.bad] 94),AC 35 4 BJ AX p0_1.rows,AC 190 3 BK AT p0_1.pages,Ci BL Z Z p0_1.gens,AC 114 2 BI AY p0_1.ring,AK BH (.cells #[vP Ae 0,Av,Z p0_2.gen,Z p0_2.boot,AV p0_2.seals,.map (some Au)] 181),AC 114 2 Av AY p0_2.ring,Ab Au Z vB p0_2.taken,AK Ae (.cells #[vB p0_3.off,vB p0_3.isCut,vI p0_3.lasts,vI p0_3.counts,Aj,.map (some Ah),.map (some Ai),AV p0_3.rcnt,vS p0_3.rtag,Z p0_3.rboots] 100),AC 9 1 Aj eS p0_3.blocks,Ab Ah Z vS p0_3.pend,Ab Ai Z vB p0_3.bad]):=by
 unfold HY at h
 refine T6.enter Tryz.func16 rfl rfl ?_
 refine Y (U E (V (AH (Y ?_))))
 refine AE h fun y1 hy1 h=>?_
 refine J E (AM 14 In (DD hy1) E (AA E BG (J E ?_)))
 refine E2 (c := !p0.isOpen) 6 7 13 E (fun hb k=>?_) (fun hb k=>?_) ?_
 refine AB E (AB E (AB E (AB E (AB E (AB E (Ag E E E ?_))))))
 exact k.mono tL
 refine J E (AU E E (AF E Oe (AF E TJ (AG 0 WD E (CW E E (Ag E E E ?_))))))
 exact k.mono tL
 refine V ?_
 refine AP h E (fun hc1 h=>?_) fun hc1 h=>?_
 refine Y (U E (V (AL (Ac ?_))))
 obtain rfl:=zI h
 exact AW [0,1,2,3,4,5,6,7,8,9,10,11,12,13] 14 E E E
 refine AJ (AI (Y (J E (AU E E (AF E Oe (AF E Pr (AG 0 Zk E (Di 1 E Rh E E (U E (V (AL ?_)))))))))))
 obtain rfl:=zI h
 exact AW [0,1,2,3,4,5,6,7,8,9,10,11,12,13] 14 E E E
def H7(n:Nat)(T:List UInt32)(p0:C2)(p0_1:B2)(p0_2:A5)(p0_3:Ao)(p1:Ht):Option (Int×C2×B2×A5×Ao):=
 (CU p0 p0_1 p0_2 p0_3).bind fun y1=>
 ret (!decide (y1=0)) fun x1=>
 cond x1
 (
  some (y1,p0,p0_1,p0_2,p0_3))
 (
  cond p0.isOpen
  (
   (FF p0_1 p0_2 p0_3).bind fun y2=>
   (Z1 n p0 y2 p1).bind fun y3=>
   some (y3.1,y3.2,p0_1,p0_2,p0_3))
  (
   (Ds n T p0_1 p0_2 p0_3 [p1]).bind fun y4=>
   some (y4.2.1,p0,y4.2.2.1,y4.2.2.2.1,y4.2.2.2.2)))
theorem TT{n Ap B1 BH Au Ae Ah Ai:Nat}{T:List UInt32}{Am BJ BK BL BI Av Aj:Value}{p0:C2}{p0_1:B2}{p0_2:A5}{p0_3:Ao}{p1:Ht}{r:Int×C2×B2×A5×Ao}(h:H7 n T p0 p0_1 p0_2 p0_3 p1=some r)(hS:GQ K w0 T):zC K w0 32 [vP Ap 0,.agg (Bm p1).toArray] [AK Ap (.cells #[Am,vB p0.isOpen,vP B1 0,vB p0.closed] 80),AC 83 5 Am Bm p0.ops,AK B1 (.cells #[BJ,BK,BL,vP Ae 0,vP BH 0,BI,Z p0_1.gen,vB p0_1.bad] 94),AC 35 4 BJ AX p0_1.rows,AC 190 3 BK AT p0_1.pages,Ci BL Z Z p0_1.gens,AC 114 2 BI AY p0_1.ring,AK BH (.cells #[vP Ae 0,Av,Z p0_2.gen,Z p0_2.boot,AV p0_2.seals,.map (some Au)] 181),AC 114 2 Av AY p0_2.ring,Ab Au Z vB p0_2.taken,AK Ae (.cells #[vB p0_3.off,vB p0_3.isCut,vI p0_3.lasts,vI p0_3.counts,Aj,.map (some Ah),.map (some Ai),AV p0_3.rcnt,vS p0_3.rtag,Z p0_3.rboots] 100),AC 9 1 Aj eS p0_3.blocks,Ab Ah Z vS p0_3.pend,Ab Ai Z vB p0_3.bad] H (fun u M=>∃vs0_0_0 vs0_1_0 vs0_1_1 vs0_1_2:Value,u=vI r.1∧M=[AK Ap (.cells #[vs0_0_0,vB r.2.1.isOpen,vP B1 0,vB r.2.1.closed] 80),AC 83 5 vs0_0_0 Bm r.2.1.ops,AK B1 (.cells #[vs0_1_0,vs0_1_1,vs0_1_2,vP Ae 0,vP BH 0,BI,Z r.2.2.1.gen,vB r.2.2.1.bad] 94),AC 35 4 vs0_1_0 AX r.2.2.1.rows,AC 190 3 vs0_1_1 AT r.2.2.1.pages,Ci vs0_1_2 Z Z r.2.2.1.gens,AC 114 2 BI AY r.2.2.1.ring,AK BH (.cells #[vP Ae 0,Av,Z r.2.2.2.1.gen,Z r.2.2.2.1.boot,AV r.2.2.2.1.seals,.map (some Au)] 181),AC 114 2 Av AY r.2.2.2.1.ring,Ab Au Z vB r.2.2.2.1.taken,AK Ae (.cells #[vB r.2.2.2.2.off,vB r.2.2.2.2.isCut,vI r.2.2.2.2.lasts,vI r.2.2.2.2.counts,Aj,.map (some Ah),.map (some Ai),AV r.2.2.2.2.rcnt,vS r.2.2.2.2.rtag,Z r.2.2.2.2.rboots] 100),AC 9 1 Aj eS r.2.2.2.2.blocks,Ab Ah Z vS r.2.2.2.2.pend,Ab Ai Z vB r.2.2.2.2.bad]):=by
 unfold H7 at h
 refine T6.enter Tryz.func32 rfl rfl ?_
 refine Y ?_
 refine Ba E E zU fun b1=>?_
 refine U E (V (Y ?_))
 refine AE h fun y1 hy1 h=>?_
 refine J E (SL.pick [1,2,3,4,5,6,7,8,9,10,11,12,13,14,0] 15 (AM 14 In (DD hy1) E (U E (V (AH (AQ (Y ?_)))))))
 obtain⟨x1,ex1,h⟩:=By h
 refine J E (AA E BG ?_)
 refine Aq (u:=vB x1) E E (congrArg vB ex1) ?_
 refine V ?_
 refine AP h E (fun hc1 h=>?_) fun hc1 h=>?_
 refine Y (J E (U E (V (AL (BC (Ac ?_))))))
 obtain rfl:=zI h
 exact Bp [0,1,2,3,4,5,6,7,8,9,10,11,12,13] 15 (Cn E E) E E ⟨Am,BJ,BK,BL,E,E⟩
 refine Y (J E (AU E E (AF E Oe (AF E TJ (AG 0 WD E (U E (V ?_)))))))
 refine AP h E (fun hc2 h=>?_) fun hc2 h=>?_
 refine AH ?_
 refine AE h fun y2 hy2 h=>?_
 refine AE h fun y3 hy3 h=>?_
 refine A2 DE [0,14] (CK [(true,0),(true,1),(true,2),(true,3),(true,4),(true,5),(true,6),(true,8),(false,7)] (.last 9 (C3 [(false,10)]))) zK (J E (AU E E (AF E Oe (J E (AU E E (AF E XE (AG 0 ic E ?_)))))))
 refine Aw [vI p1.kind,AV p1.id,Z p1.x,Z p1.y,vS p1.txt] E Uo E E (An 1 E) (SL.pick [2,3,4,5,6,7,8,9,10,11,12,13,0,1] 14 ?_)
 refine Bo (vs:=[_]) (Hin:=[_,_,_,_,_,_,_,_,_,_,_,_]) (Hr:=_::_::_::_) E E ⟨E,zT⟩ qc E E (TW hy2) ?_
 rintro v1 _ ⟨_,rfl,rfl⟩
 refine⟨⟨⟨13,rfl⟩,⟨15,rfl⟩,trivial⟩,?_⟩
 refine Bk (SL.pick [0,13,14,1,2,3,4,5,6,7,8,9,10,11,12] 15 ?_)
 refine Bo (vs:=[_,_,_]) (Hin:=[_,_,_]) (Hr:=_::_::_::_::_::_::_::_::_::_::_::_::_::_) E E ⟨E,E,E,zT⟩ qs E E (Cl (B:=[_]) (Hin:=[_,_]) fun K' w1 hk hB=>(nc hy3 (CY (e:=35) (v:=v1) zV (hB _ zS)) :)) ?_
 rintro _ _ ⟨_,rfl,v2,rfl,rfl⟩
 refine⟨trivial,?_⟩
 refine U E (V (AL (BC (Ac ?_))))
 obtain rfl:=zI h
 exact Bp [1,2,3,4,5,6,7,8,9,10,11,12,13,14] 16 (Cn E E) E E ⟨v2,BJ,BK,BL,E,E⟩
 refine AJ (Ay (AI (AH ?_)))
 refine AE h fun y4 hy4 h=>?_
 refine A2 DE [0,14] (CK [(true,0),(true,1),(true,2),(true,3),(true,4),(false,5),(false,6),(false,7),(true,8),(false,9)] (.last 10 .nil)) zK (J E (AU E E (AF E XE (AG 0 ic E (Aw [vI p1.kind,AV p1.id,Z p1.x,Z p1.y,vS p1.txt] E Uo E E (An 1 E) ?_)))))
 refine CE [_] rfl Rh Yj Ri ⟨rfl,trivial⟩ rfl rfl rfl zW rfl rfl (fun _=>⟨⟨1,rfl⟩,⟨15,rfl⟩,trivial⟩) fun b2=>?_
 refine CJ Bm 5 ([p1]:List Ht) E zV E ?_
 refine SL.pick [0,3,4,5,6,7,8,9,10,11,12,13,14,1,2] 15 ?_
 refine Bo (vs:=[_,_]) (Hin:=[_,_,_,_,_,_,_,_,_,_,_,_,_]) (Hr:=_::_::_::_) E E ⟨E,E,zT⟩ k4 E E (Cl (B:=[_]) (Hin:=[_,_,_,_,_,_,_,_,_,_,_,_]) fun K' w1 hk hB=>NO hy4 (hS.keeps hk) (CY (e:=83) (v:=.slice (some ⟨b2,0,none⟩) 1 1) zV (hB _ zS))) ?_
 rintro _ _ ⟨_,rfl,v3,v4,v5,rfl,rfl⟩
 refine⟨⟨⟨13,rfl⟩,⟨15,rfl⟩,trivial⟩,?_⟩
 refine J E (Af E E E (Af E E E (Bk (U E (V (Y (J E (U E (V (AL ?_))))))))))
 obtain rfl:=zI h
 exact Bp [13,14,1,2,3,4,5,6,7,8,9,10,11,12] 16 (Cn E E) E E ⟨Am,v3,v4,v5,E,E⟩
def IH(n:Nat)(T:List UInt32)(p0:C2)(p0_1:B2)(p0_2:A5)(p0_3:Ao)(p1:As):Option (Int×C2×B2×A5×Ao):=
 (H7 n T p0 p0_1 p0_2 p0_3 (⟨1,p1.id,p1.x,p1.y,p1.txt⟩:Ht)).bind fun y1=>
 some (y1.1,y1.2.1,y1.2.2.1,y1.2.2.2.1,y1.2.2.2.2)
theorem Vp{n Ap B1 BH Au Ae Ah Ai:Nat}{T:List UInt32}{Am BJ BK BL BI Av Aj:Value}{p0:C2}{p0_1:B2}{p0_2:A5}{p0_3:Ao}{p1:As}{r:Int×C2×B2×A5×Ao}(h:IH n T p0 p0_1 p0_2 p0_3 p1=some r)(hS:GQ K w0 T):zC K w0 9 [vP Ap 0,.agg (AX p1).toArray] [AK Ap (.cells #[Am,vB p0.isOpen,vP B1 0,vB p0.closed] 80),AC 83 5 Am Bm p0.ops,AK B1 (.cells #[BJ,BK,BL,vP Ae 0,vP BH 0,BI,Z p0_1.gen,vB p0_1.bad] 94),AC 35 4 BJ AX p0_1.rows,AC 190 3 BK AT p0_1.pages,Ci BL Z Z p0_1.gens,AC 114 2 BI AY p0_1.ring,AK BH (.cells #[vP Ae 0,Av,Z p0_2.gen,Z p0_2.boot,AV p0_2.seals,.map (some Au)] 181),AC 114 2 Av AY p0_2.ring,Ab Au Z vB p0_2.taken,AK Ae (.cells #[vB p0_3.off,vB p0_3.isCut,vI p0_3.lasts,vI p0_3.counts,Aj,.map (some Ah),.map (some Ai),AV p0_3.rcnt,vS p0_3.rtag,Z p0_3.rboots] 100),AC 9 1 Aj eS p0_3.blocks,Ab Ah Z vS p0_3.pend,Ab Ai Z vB p0_3.bad] H (fun u M=>∃vs0_0_0 vs0_1_0 vs0_1_1 vs0_1_2:Value,u=vI r.1∧M=[AK Ap (.cells #[vs0_0_0,vB r.2.1.isOpen,vP B1 0,vB r.2.1.closed] 80),AC 83 5 vs0_0_0 Bm r.2.1.ops,AK B1 (.cells #[vs0_1_0,vs0_1_1,vs0_1_2,vP Ae 0,vP BH 0,BI,Z r.2.2.1.gen,vB r.2.2.1.bad] 94),AC 35 4 vs0_1_0 AX r.2.2.1.rows,AC 190 3 vs0_1_1 AT r.2.2.1.pages,Ci vs0_1_2 Z Z r.2.2.1.gens,AC 114 2 BI AY r.2.2.1.ring,AK BH (.cells #[vP Ae 0,Av,Z r.2.2.2.1.gen,Z r.2.2.2.1.boot,AV r.2.2.2.1.seals,.map (some Au)] 181),AC 114 2 Av AY r.2.2.2.1.ring,Ab Au Z vB r.2.2.2.1.taken,AK Ae (.cells #[vB r.2.2.2.2.off,vB r.2.2.2.2.isCut,vI r.2.2.2.2.lasts,vI r.2.2.2.2.counts,Aj,.map (some Ah),.map (some Ai),AV r.2.2.2.2.rcnt,vS r.2.2.2.2.rtag,Z r.2.2.2.2.rboots] 100),AC 9 1 Aj eS r.2.2.2.2.blocks,Ab Ah Z vS r.2.2.2.2.pend,Ab Ai Z vB r.2.2.2.2.bad]):=by
 unfold IH at h
 refine T6.enter Tryz.func9 rfl rfl ?_
 refine Y ?_
 refine Ba E E zU fun b1=>?_
 refine U E (V (Y ?_))
 refine AE h fun y1 hy1 h=>?_
 refine J E (Aw [AV p1.id,Z p1.x,Z p1.y,vS p1.txt] E Fw E E (An 0 E) (Bt [_,_] E YX YV Ri ⟨E,E,zT⟩ E (SL.pick [1,2,3,4,5,6,7,8,9,10,11,12,13,14,0] 15 (BY 14 UG ((TT hy1 hS :)) E ?_))))
 rintro _ _ ⟨v1,v2,v3,v4,rfl,rfl⟩
 refine U E (V (AL ?_))
 obtain rfl:=zI h
 exact Bp [0,1,2,3,4,5,6,7,8,9,10,11,12,13] 15 (Cn E E) E E ⟨v1,v2,v3,v4,E,E⟩
def EH(n:Nat)(p0:C2)(p0_1:B2)(p0_2:A5)(p0_3:Ao)(p1:UInt64):Option (As×Int):=
 (CU p0 p0_1 p0_2 p0_3).bind fun y1=>
 cond (!decide (y1=0))
 (
  some ((⟨0,0,0,[]⟩:As),y1))
 (
  (Gy n p0_1 p0_2 p0_3 p1).bind fun y2=>
  some ((⟨y2.1.id,y2.1.x,y2.1.y,y2.1.txt⟩:As),y2.2))
theorem Na{n Ap B1 BH Au Ae Ah Ai:Nat}{Am BJ BK BL BI Av Aj:Value}{p0:C2}{p0_1:B2}{p0_2:A5}{p0_3:Ao}{p1:UInt64}{r:As×Int}(h:EH n p0 p0_1 p0_2 p0_3 p1=some r): zC K w0 20 [vP Ap 0,AV p1] [AK Ap (.cells #[Am,vB p0.isOpen,vP B1 0,vB p0.closed] 80),AC 83 5 Am Bm p0.ops,AK B1 (.cells #[BJ,BK,BL,vP Ae 0,vP BH 0,BI,Z p0_1.gen,vB p0_1.bad] 94),AC 35 4 BJ AX p0_1.rows,AC 190 3 BK AT p0_1.pages,Ci BL Z Z p0_1.gens,AC 114 2 BI AY p0_1.ring,AK BH (.cells #[vP Ae 0,Av,Z p0_2.gen,Z p0_2.boot,AV p0_2.seals,.map (some Au)] 181),AC 114 2 Av AY p0_2.ring,Ab Au Z vB p0_2.taken,AK Ae (.cells #[vB p0_3.off,vB p0_3.isCut,vI p0_3.lasts,vI p0_3.counts,Aj,.map (some Ah),.map (some Ai),AV p0_3.rcnt,vS p0_3.rtag,Z p0_3.rboots] 100),AC 9 1 Aj eS p0_3.blocks,Ab Ah Z vS p0_3.pend,Ab Ai Z vB p0_3.bad] H (fun u M=>u=.tuple #[.agg (AX r.1).toArray,vI r.2]∧M=[AK Ap (.cells #[Am,vB p0.isOpen,vP B1 0,vB p0.closed] 80),AC 83 5 Am Bm p0.ops,AK B1 (.cells #[BJ,BK,BL,vP Ae 0,vP BH 0,BI,Z p0_1.gen,vB p0_1.bad] 94),AC 35 4 BJ AX p0_1.rows,AC 190 3 BK AT p0_1.pages,Ci BL Z Z p0_1.gens,AC 114 2 BI AY p0_1.ring,AK BH (.cells #[vP Ae 0,Av,Z p0_2.gen,Z p0_2.boot,AV p0_2.seals,.map (some Au)] 181),AC 114 2 Av AY p0_2.ring,Ab Au Z vB p0_2.taken,AK Ae (.cells #[vB p0_3.off,vB p0_3.isCut,vI p0_3.lasts,vI p0_3.counts,Aj,.map (some Ah),.map (some Ai),AV p0_3.rcnt,vS p0_3.rtag,Z p0_3.rboots] 100),AC 9 1 Aj eS p0_3.blocks,Ab Ah Z vS p0_3.pend,Ab Ai Z vB p0_3.bad]):=by
 unfold EH at h
 refine T6.enter Tryz.func20 rfl rfl ?_
 refine Y ?_
 refine Ar E FL zU fun b1=>?_
 refine U E (V (AH (Y ?_)))
 refine AE h fun y1 hy1 h=>?_
 refine J E (SL.pick [1,2,3,4,5,6,7,8,9,10,11,12,13,14,0] 15 (AM 14 In (DD hy1) E (U E (V (Y (J E (AA E BG (V ?_))))))))
 refine AP h E (fun hc1 h=>?_) fun hc1 h=>?_
 refine Y (Bt [] E T0 Tz FL zT E (J E (A7 14 E E E E DZ E E E zT (U E (V (AL (Ac ?_)))))))
 obtain rfl:=zI h
 exact Al (Dz E (CC 14 (AX (⟨0,0,0,[]⟩:As)) Fw E E E E) E) (Ak (M:=[_,_,_,_,_,_,_,_,_,_,_,_,_,_]) ⟨E,E⟩ fun _ hw=>Bc.pick (H:=[_,_,_,_,_,_,_,_,_,_,_,_,_,_,_]) hw [0,1,2,3,4,5,6,7,8,9,10,11,12,13] 15 E)
 refine AJ (AI (Y ?_))
 refine AE h fun y2 hy2 h=>?_
 refine J E (AU E E (AF E XE (AG 0 ic E (J E (SL.pick [2,3,4,5,6,7,8,9,10,11,12,13,0,1] 14 (AM 12 qj (UF hy2) E (Af E E E ?_)))))))
 refine Af E E E (A7 14 E E E E DZ E E E zT (U E (V (AL ?_))))
 obtain rfl:=zI h
 exact Al (Dz E (CC 14 (AX (⟨y2.1.id,y2.1.x,y2.1.y,y2.1.txt⟩:As)) Fw E E E E) E) (Ak (M:=[_,_,_,_,_,_,_,_,_,_,_,_,_,_]) ⟨E,E⟩ fun _ hw=>Bc.pick (H:=[_,_,_,_,_,_,_,_,_,_,_,_,_,_,_]) hw [12,13,0,1,2,3,4,5,6,7,8,9,10,11] 15 E)
def Nf(p0:C2)(p0_1:B2)(p0_2:A5)(p0_3:Ao)(p1:Tb):Option (List As×Bool×Int):=
 (CU p0 p0_1 p0_2 p0_3).bind fun y1=>
 cond (!decide (y1=0))
 (
  some ([],false,y1))
 (
  none)
theorem Vo{Ap B1 BH Au Ae Ah Ai:Nat}{Am BJ BK BL BI Av Aj:Value}{p0:C2}{p0_1:B2}{p0_2:A5}{p0_3:Ao}{p1:Tb}{r:List As×Bool×Int}(h:Nf p0 p0_1 p0_2 p0_3 p1=some r): zC K w0 21 [vP Ap 0,.agg (U2 p1).toArray] [AK Ap (.cells #[Am,vB p0.isOpen,vP B1 0,vB p0.closed] 80),AC 83 5 Am Bm p0.ops,AK B1 (.cells #[BJ,BK,BL,vP Ae 0,vP BH 0,BI,Z p0_1.gen,vB p0_1.bad] 94),AC 35 4 BJ AX p0_1.rows,AC 190 3 BK AT p0_1.pages,Ci BL Z Z p0_1.gens,AC 114 2 BI AY p0_1.ring,AK BH (.cells #[vP Ae 0,Av,Z p0_2.gen,Z p0_2.boot,AV p0_2.seals,.map (some Au)] 181),AC 114 2 Av AY p0_2.ring,Ab Au Z vB p0_2.taken,AK Ae (.cells #[vB p0_3.off,vB p0_3.isCut,vI p0_3.lasts,vI p0_3.counts,Aj,.map (some Ah),.map (some Ai),AV p0_3.rcnt,vS p0_3.rtag,Z p0_3.rboots] 100),AC 9 1 Aj eS p0_3.blocks,Ab Ah Z vS p0_3.pend,Ab Ai Z vB p0_3.bad] H (fun u M=>∃v0:Value,u=.tuple #[v0,vB r.2.1,vI r.2.2]∧M=[AC 35 4 v0 AX r.1,AK Ap (.cells #[Am,vB p0.isOpen,vP B1 0,vB p0.closed] 80),AC 83 5 Am Bm p0.ops,AK B1 (.cells #[BJ,BK,BL,vP Ae 0,vP BH 0,BI,Z p0_1.gen,vB p0_1.bad] 94),AC 35 4 BJ AX p0_1.rows,AC 190 3 BK AT p0_1.pages,Ci BL Z Z p0_1.gens,AC 114 2 BI AY p0_1.ring,AK BH (.cells #[vP Ae 0,Av,Z p0_2.gen,Z p0_2.boot,AV p0_2.seals,.map (some Au)] 181),AC 114 2 Av AY p0_2.ring,Ab Au Z vB p0_2.taken,AK Ae (.cells #[vB p0_3.off,vB p0_3.isCut,vI p0_3.lasts,vI p0_3.counts,Aj,.map (some Ah),.map (some Ai),AV p0_3.rcnt,vS p0_3.rtag,Z p0_3.rboots] 100),AC 9 1 Aj eS p0_3.blocks,Ab Ah Z vS p0_3.pend,Ab Ai Z vB p0_3.bad]):=by
 unfold Nf at h
 refine T6.enter Tryz.func21 rfl rfl ?_
 refine Y ?_
 refine Ba E E zU fun b1=>?_
 refine B5 35 4 AX (U E (U E (U E (V (AH (Y ?_))))))
 refine AE h fun y1 hy1 h=>?_
 refine J E (SL.pick [2,3,4,5,6,7,8,9,10,11,12,13,14,15,0,1] 16 (AM 14 In (DD hy1) E (U E (V (Y (J E (AA E BG (V ?_))))))))
 refine AP h E (fun hc1 h=>?_) fun hc1 h=>?_
 refine Y (J E (B5 35 4 AX (U E (U E (U E (V (AL (Ac ?_))))))))
 obtain rfl:=zI h
 exact Bp [0,1,2,3,4,5,6,7,8,9,10,11,12,13,14] 17 (VY E E E E) E E ⟨(.slice none 0 0),E,E⟩
 cases h
def G5(y1:Int)(o1:C2):Option (Int×C2):=
 some (y1,o1)
def ME(p0:C2)(p0_1:B2)(p0_2:A5)(p0_3:Ao):Option (Int×C2):=
 (CU p0 p0_1 p0_2 p0_3).bind fun y1=>
 cond (decide (y1=0))
 (
  (Gk p0 p0_1 p0_2 p0_3).bind fun y2=>
  G5 y1 ({ y2.2 with closed:=true }))
 (
  G5 y1 p0)
theorem UA{Ap B1 BH Au Ae Ah Ai:Nat}{Am BJ BK BL BI Av Aj:Value}{p0:C2}{p0_1:B2}{p0_2:A5}{p0_3:Ao}{r:Int×C2}(h:ME p0 p0_1 p0_2 p0_3=some r): zC K w0 22 [vP Ap 0] [AK Ap (.cells #[Am,vB p0.isOpen,vP B1 0,vB p0.closed] 80),AC 83 5 Am Bm p0.ops,AK B1 (.cells #[BJ,BK,BL,vP Ae 0,vP BH 0,BI,Z p0_1.gen,vB p0_1.bad] 94),AC 35 4 BJ AX p0_1.rows,AC 190 3 BK AT p0_1.pages,Ci BL Z Z p0_1.gens,AC 114 2 BI AY p0_1.ring,AK BH (.cells #[vP Ae 0,Av,Z p0_2.gen,Z p0_2.boot,AV p0_2.seals,.map (some Au)] 181),AC 114 2 Av AY p0_2.ring,Ab Au Z vB p0_2.taken,AK Ae (.cells #[vB p0_3.off,vB p0_3.isCut,vI p0_3.lasts,vI p0_3.counts,Aj,.map (some Ah),.map (some Ai),AV p0_3.rcnt,vS p0_3.rtag,Z p0_3.rboots] 100),AC 9 1 Aj eS p0_3.blocks,Ab Ah Z vS p0_3.pend,Ab Ai Z vB p0_3.bad] H (fun u M=>∃vs0_0_0:Value,u=vI r.1∧M=[AK Ap (.cells #[vs0_0_0,vB r.2.isOpen,vP B1 0,vB r.2.closed] 80),AC 83 5 vs0_0_0 Bm r.2.ops,AK B1 (.cells #[BJ,BK,BL,vP Ae 0,vP BH 0,BI,Z p0_1.gen,vB p0_1.bad] 94),AC 35 4 BJ AX p0_1.rows,AC 190 3 BK AT p0_1.pages,Ci BL Z Z p0_1.gens,AC 114 2 BI AY p0_1.ring,AK BH (.cells #[vP Ae 0,Av,Z p0_2.gen,Z p0_2.boot,AV p0_2.seals,.map (some Au)] 181),AC 114 2 Av AY p0_2.ring,Ab Au Z vB p0_2.taken,AK Ae (.cells #[vB p0_3.off,vB p0_3.isCut,vI p0_3.lasts,vI p0_3.counts,Aj,.map (some Ah),.map (some Ai),AV p0_3.rcnt,vS p0_3.rtag,Z p0_3.rboots] 100),AC 9 1 Aj eS p0_3.blocks,Ab Ah Z vS p0_3.pend,Ab Ai Z vB p0_3.bad]):=by
 unfold ME at h
 refine T6.enter Tryz.func22 rfl rfl ?_
 refine Y (U E (V (Y ?_)))
 refine AE h fun y1 hy1 h=>?_
 refine J E (AM 14 In (DD hy1) E (U E (V ?_)))
 refine BB (α:=C2×Value) (fun x=>G5 y1 x.1=some r) (fun x=>[(0,vP Ap 0),(3,vI y1)]) (fun x=>AK Ap (.cells #[x.2,vB x.1.isOpen,vP B1 0,vB x.1.closed] 80)::AC 83 5 x.2 Bm x.1.ops::AK B1 (.cells #[BJ,BK,BL,vP Ae 0,vP BH 0,BI,Z p0_1.gen,vB p0_1.bad] 94)::AC 35 4 BJ AX p0_1.rows::AC 190 3 BK AT p0_1.pages::Ci BL Z Z p0_1.gens::AK Ae (.cells #[vB p0_3.off,vB p0_3.isCut,vI p0_3.lasts,vI p0_3.counts,Aj,.map (some Ah),.map (some Ai),AV p0_3.rcnt,vS p0_3.rtag,Z p0_3.rboots] 100)::AC 9 1 Aj eS p0_3.blocks::Ab Ah Z vS p0_3.pend::Ab Ai Z vB p0_3.bad::AK BH (.cells #[vP Ae 0,Av,Z p0_2.gen,Z p0_2.boot,AV p0_2.seals,.map (some Au)] 181)::AC 114 2 Av AY p0_2.ring::Ab Au Z vB p0_2.taken::AC 114 2 BI AY p0_1.ring::H) ?_ (fun x D h=>?_)
 refine Y (J E (AA E BS (V ?_)))
 refine AP h E (fun hc1 h=>?_) fun hc1 h=>?_
 refine Y ?_
 refine AE h fun y2 hy2 h=>?_
 refine J E (AU E E (AF E Oe ?_))
 refine Bo (vs:=[_]) (Hin:=[_,_,_,_,_,_,_,_,_,_,_,_,_,_]) (Hr:=_) E E ⟨E,zT⟩ k0 E E ((O0 hy2 :)) ?_
 rintro v2 _ ⟨_,v3,rfl,rfl⟩
 refine⟨trivial,?_⟩
 refine V (AS (J E (AU E E (AF E iO (A7 1 E E E E RQ E E E zT (Aa ?_))))))
 exact Az ({ y2.2 with closed:=true },v3) h tL (BX [1,2,3,4,5,6,11,12,13,14,8,9,10,7] 15 rfl rfl rfl)
 refine AJ ?_
 exact Az (p0,Am) h tL (BX [0,1,2,3,4,5,10,11,12,13,7,8,9,6] 14 E E E)
 obtain⟨o1,v1⟩:=x
 dsimp only at h
 unfold G5 at h
 try dsimp only
 refine Y (J E (U E (V (AL ?_))))
 obtain rfl:=zI h
 exact Bp [0,1,2,3,4,5,13,10,11,12,6,7,8,9] 14 (Cn E E) E E ⟨v1,E,E⟩
def Iq:Option Int:=
 (Ct).bind fun y1=>
 ret (!decide (y1=0)) fun x1=>
 cond x1
 (
  some y1)
 (
  none)
theorem Qt{r:Int}(h:Iq=some r): zC K w0 8 [.pointer none] [] H (fun u M=>u=vI r∧M=[]):=by
 unfold Iq at h
 refine T6.enter Tryz.func8 rfl rfl ?_
 refine Y (U E (V (Y ?_)))
 refine AE h fun y1 hy1 h=>?_
 refine J E (AM 0 In (DQ hy1) E (U E (V (AH (AQ (Y ?_))))))
 obtain⟨x1,ex1,h⟩:=By h
 refine J E (AA E BG ?_)
 refine Aq (u:=vB x1) E E (congrArg vB ex1) ?_
 refine V ?_
 refine AP h E (fun hc1 h=>?_) fun hc1 h=>?_
 refine Y (J E (U E (V (AL (BC (Ac ?_))))))
 obtain rfl:=zI h
 exact AW [] 0 E E E
 cases h
def IF:Option Int:=
 (Ct).bind fun y1=>
 ret (!decide (y1=0)) fun x1=>
 cond x1
 (
  some y1)
 (
  none)
theorem QQ{r:Int}(h:IF=some r): zC K w0 10 [.pointer none] [] H (fun u M=>u=vI r∧M=[]):=by
 unfold IF at h
 refine T6.enter Tryz.func10 rfl rfl ?_
 refine Y (U E (V (Y ?_)))
 refine AE h fun y1 hy1 h=>?_
 refine J E (AM 0 In (DQ hy1) E (U E (V (AH (AQ (Y ?_))))))
 obtain⟨x1,ex1,h⟩:=By h
 refine J E (AA E BG ?_)
 refine Aq (u:=vB x1) E E (congrArg vB ex1) ?_
 refine V ?_
 refine AP h E (fun hc1 h=>?_) fun hc1 h=>?_
 refine Y (J E (U E (V (AL (BC (Ac ?_))))))
 obtain rfl:=zI h
 exact AW [] 0 E E E
 cases h
def Ip:Option Int:=
 (Ct).bind fun y1=>
 ret (!decide (y1=0)) fun x1=>
 cond x1
 (
  some y1)
 (
  none)
theorem Qs{r:Int}(h:Ip=some r): zC K w0 17 [.pointer none] [] H (fun u M=>u=vI r∧M=[]):=by
 unfold Ip at h
 refine T6.enter Tryz.func17 rfl rfl ?_
 refine Y (U E (V (Y ?_)))
 refine AE h fun y1 hy1 h=>?_
 refine J E (AM 0 In (DQ hy1) E (U E (V (AH (AQ (Y ?_))))))
 obtain⟨x1,ex1,h⟩:=By h
 refine J E (AA E BG ?_)
 refine Aq (u:=vB x1) E E (congrArg vB ex1) ?_
 refine V ?_
 refine AP h E (fun hc1 h=>?_) fun hc1 h=>?_
 refine Y (J E (U E (V (AL (BC (Ac ?_))))))
 obtain rfl:=zI h
 exact AW [] 0 E E E
 cases h
def Jh:Option Int:=
 (Ct).bind fun y1=>
 (V0 (!decide (y1=0)) none).bind fun y2=>
 cond y2
 (
  some (-1))
 (
  none)
theorem Rm{r:Int}(h:Jh=some r): zC K w0 16 [.pointer none] [] H (fun u M=>u=vI r∧M=[]):=by
 unfold Jh at h
 refine T6.enter Tryz.func16 rfl rfl ?_
 refine Y (U E (V (AH (Y ?_))))
 refine AE h fun y1 hy1 h=>?_
 refine AE h fun y2 hy2 h=>?_
 refine J E (AM 0 In (DQ hy1) E (AA E BG (J E ?_)))
 refine Pe 6 7 13 hy2 E (fun hb k=>?_) (fun hb hg1 k=>?_) ?_
 refine AB E (AB E (AB E (AB E (AB E (AB E (Ag E E E ?_))))))
 exact k.mono tL
 cases hg1
 refine V ?_
 refine AP h E (fun hc1 h=>?_) fun hc1 h=>?_
 refine Y (U E (V (AL (Ac ?_))))
 obtain rfl:=zI h
 exact AW [] 0 E E E
 cases h
def Ev(p1:Ht):Option Int:=
 (Ct).bind fun y1=>
 ret (!decide (y1=0)) fun x1=>
 cond x1
 (
  some y1)
 (
  none)
theorem IB{p1:Ht}{r:Int}(h:Ev p1=some r): zC K w0 32 [.pointer none,.agg (Bm p1).toArray] [] H (fun u M=>u=vI r∧M=[]):=by
 unfold Ev at h
 refine T6.enter Tryz.func32 rfl rfl ?_
 refine Y ?_
 refine Ba E E zU fun b1=>?_
 refine U E (V (Y ?_))
 refine AE h fun y1 hy1 h=>?_
 refine J E (AM 0 In (DQ hy1) E (U E (V (AH (AQ (Y ?_))))))
 obtain⟨x1,ex1,h⟩:=By h
 refine J E (AA E BG ?_)
 refine Aq (u:=vB x1) E E (congrArg vB ex1) ?_
 refine V ?_
 refine AP h E (fun hc1 h=>?_) fun hc1 h=>?_
 refine Y (J E (U E (V (AL (BC (Ac ?_))))))
 obtain rfl:=zI h
 exact AW [] 1 E E E
 cases h
def KH(p1:As):Option Int:=
 (Ev (⟨1,p1.id,p1.x,p1.y,p1.txt⟩:Ht)).bind fun y1=>
 some y1
theorem SF{p1:As}{r:Int}(h:KH p1=some r): zC K w0 9 [.pointer none,.agg (AX p1).toArray] [] H (fun u M=>u=vI r∧M=[]):=by
 unfold KH at h
 refine T6.enter Tryz.func9 rfl rfl ?_
 refine Y ?_
 refine Ba E E zU fun b1=>?_
 refine U E (V (Y ?_))
 refine AE h fun y1 hy1 h=>?_
 refine J E (Aw [AV p1.id,Z p1.x,Z p1.y,vS p1.txt] E Fw E E (An 0 E) (Bt [_,_] E YX YV Ri ⟨E,E,zT⟩ E (AM 0 UG ((IB hy1 :)) E (U E (V (AL ?_))))))
 obtain rfl:=zI h
 exact AW [] 1 E E E
def Jg(p1:UInt64)(p2:UInt32)(p3:UInt32):Option Int:=
 (Ev (⟨2,p1,p2,p3,[]⟩:Ht)).bind fun y1=>
 some y1
theorem Rl{p1:UInt64}{p2 p3:UInt32}{r:Int}(h:Jg p1 p2 p3=some r): zC K w0 23 [.pointer none,AV p1,Z p2,Z p3] [] H (fun u M=>u=vI r∧M=[]):=by
 unfold Jg at h
 refine T6.enter Tryz.func23 rfl rfl ?_
 refine Y (U E (V (Y ?_)))
 refine AE h fun y1 hy1 h=>?_
 refine J E (J E (J E (J E (Bt [_,_,_] E T0 Tz FL ⟨E,E,E,zT⟩ E (Bt [_,_] E YX YV Ri ⟨E,E,zT⟩ E (AM 0 UG ((IB hy1 :)) E (U E (V (AL ?_)))))))))
 obtain rfl:=zI h
 exact AW [] 0 E E E
def IG(p1:UInt64):Option Int:=
 (Ev (⟨3,p1,0,0,[]⟩:Ht)).bind fun y1=>
 some y1
theorem QR{p1:UInt64}{r:Int}(h:IG p1=some r): zC K w0 24 [.pointer none,AV p1] [] H (fun u M=>u=vI r∧M=[]):=by
 unfold IG at h
 refine T6.enter Tryz.func24 rfl rfl ?_
 refine Y (U E (V (Y ?_)))
 refine AE h fun y1 hy1 h=>?_
 refine J E (J E (Bt [_] E T0 Tz FL ⟨E,zT⟩ E (Bt [_,_] E YX YV Ri ⟨E,E,zT⟩ E (AM 0 UG ((IB hy1 :)) E (U E (V (AL ?_)))))))
 obtain rfl:=zI h
 exact AW [] 0 E E E
def KG(p1:UInt64):Option (As×Int):=
 (Ct).bind fun y1=>
 cond (!decide (y1=0))
 (
  some ((⟨0,0,0,[]⟩:As),y1))
 (
  none)
theorem SE{p1:UInt64}{r:As×Int}(h:KG p1=some r): zC K w0 20 [.pointer none,AV p1] [] H (fun u M=>u=.tuple #[.agg (AX r.1).toArray,vI r.2]∧M=[]):=by
 unfold KG at h
 refine T6.enter Tryz.func20 rfl rfl ?_
 refine Y ?_
 refine Ar E FL zU fun b1=>?_
 refine U E (V (AH (Y ?_)))
 refine AE h fun y1 hy1 h=>?_
 refine J E (AM 0 In (DQ hy1) E (U E (V (Y (J E (AA E BG (V ?_)))))))
 refine AP h E (fun hc1 h=>?_) fun hc1 h=>?_
 refine Y (Bt [] E T0 Tz FL zT E (J E (A7 0 E E E E DZ E E E zT (U E (V (AL (Ac ?_)))))))
 obtain rfl:=zI h
 exact Al (Dz E (CC 0 (AX (⟨0,0,0,[]⟩:As)) Fw E E E E) E) (Ak (M:=[]) ⟨E,E⟩ fun _ hw=>Bc.pick (H:=[_]) hw [] 1 E)
 cases h
def KD(p1:Tb):Option (List As×Bool×Int):=
 (Ct).bind fun y1=>
 cond (!decide (y1=0))
 (
  some ([],false,y1))
 (
  none)
theorem SA{p1:Tb}{r:List As×Bool×Int}(h:KD p1=some r): zC K w0 21 [.pointer none,.agg (U2 p1).toArray] [] H (fun u M=>∃v0:Value,u=.tuple #[v0,vB r.2.1,vI r.2.2]∧M=[AC 35 4 v0 AX r.1]):=by
 unfold KD at h
 refine T6.enter Tryz.func21 rfl rfl ?_
 refine Y ?_
 refine Ba E E zU fun b1=>?_
 refine B5 35 4 AX (U E (U E (U E (V (AH (Y ?_))))))
 refine AE h fun y1 hy1 h=>?_
 refine J E (AM 0 In (DQ hy1) E (U E (V (Y (J E (AA E BG (V ?_)))))))
 refine AP h E (fun hc1 h=>?_) fun hc1 h=>?_
 refine Y (J E (B5 35 4 AX (U E (U E (U E (V (AL (Ac ?_))))))))
 obtain rfl:=zI h
 exact Bp [0] 3 (VY E E E E) E E ⟨(.slice none 0 0),E,E⟩
 cases h
def HE(y1:Int):Option Int:=
 some y1
def Ir:Option Int:=
 (Ct).bind fun y1=>
 cond (decide (y1=0))
 (
  none)
 (
  HE y1)
theorem Qu{r:Int}(h:Ir=some r): zC K w0 22 [.pointer none] [] H (fun u M=>u=vI r∧M=[]):=by
 unfold Ir at h
 refine T6.enter Tryz.func22 rfl rfl ?_
 refine Y (U E (V (Y ?_)))
 refine AE h fun y1 hy1 h=>?_
 refine J E (AM 0 In (DQ hy1) E (U E (V ?_)))
 refine BB (α:=Unit) (fun x=>HE y1=some r) (fun x=>[(3,vI y1)]) (fun x=>H) ?_ (fun x D h=>?_)
 refine Y (J E (AA E BS (V ?_)))
 refine AP h E (fun hc1 h=>?_) fun hc1 h=>?_
 cases h
 refine AJ ?_
 exact Az () h tL (BX [] 0 E E E)
 unfold HE at h
 try dsimp only
 refine Y (J E (U E (V (AL ?_))))
 obtain rfl:=zI h
 exact AW [] 0 E E E
end

section
structure tq where
 out:List BT
 rows:List As
 count:Int
 err:Int
end

section
variable {P:Program}{ro:Option Nat}{K:Nat→Prop}{w0:World}{N:Nat}{Q:DH}{D:List Nat}{l l':Tm}{H H' Hs L:List AZ}{ops:Array Oper}{items:Hq}
variable {tk:Bool}{o:Oper}{t:Nat}{v:Value}{x y z:Operand}
variable {α:Type}{enc:α→List Value}{sz:Nat}{xs us:List α}{e ty:TypeId}
end

section
variable {P:Program}{ro:Option Nat}{K:Nat→Prop}{w0:World}{N:Nat}{Q:DH}{D:List Nat}{l l':Tm}{H H' Hs L:List AZ}{ops:Array Oper}{items:Hq}
variable {tk:Bool}{o:Oper}{t:Nat}{v:Value}{x y z:Operand}
theorem kO{b off n c sz:Nat}{k k':IntKind}{i j:Int}{ty e:TypeId}(p q:Nat)(ho:At ops N l o t (.slice ty x (some y) (some z) none))(hty:P.underlying ty=some (.slice e))(hsz:DC P e=some sz)(hx:Bn l x=some (.slice (some ⟨b,off,none⟩) n c))(hy:Bn l y=some (.int k i))(hz:Bn l z=some (.int k' j))
(hi:i=(p:Int))(hj:j=(q:Int))(hp:p≤q)(hq:q≤c)(hpc:p<c)(h:SL P ro K w0 N ops Hs items Q D ((t,.slice (some ⟨b,off+p*sz,none⟩) (q-p) (c-p))::l) H):SL P ro K w0 N ops Hs (.cons (tk,o) items) Q D l H:=
 SL.val ho rfl (fun a w ha _=>by
  subst hi hj
  have hne:¬c=p:=zO
  simp only[execOp,ho.op,Instr.sliceAt,Instr.slice,Option.map]
  simp[ha.eval hx,ha.eval hy,ha.eval hz,Ax hty,Cd hsz,Instr.sliceBounds,Instr.sliceBound,asIntOf,hq,hp,Cg];omega) h
theorem kS{α:Type}{enc:α→List Value}{sz:Nat}{xs us:List α}{k k':IntKind}{i j:Int}{ty e:TypeId}(hn:LF xs i j=some us)(hk:CG K w0 enc sz v xs)(ho:At ops N l o t (.slice ty x (some y) (some z) none))(hty:P.underlying ty=some (.slice e))(hsz:DC P e=some sz)(hx:Bn l x=some v)(hy:Bn l y=some (.int k i))(hz:Bn l z=some (.int k' j))
(h:∀v',CG K w0 enc sz v' us→SL P ro K w0 N ops Hs items Q D ((t,v')::l) H):SL P ro K w0 N ops Hs (.cons (tk,o) items) Q D l H:=by
 obtain⟨h1,h2,h3,h4,rfl⟩:=Nr hn
 have hi:i=(i.toNat:Int):=zO
 have hj:j=(j.toNat:Int):=zO
 generalize i.toNat=p at*
 generalize j.toNat=q at*
 subst hi hj
 rcases hk.at_ with⟨a0,rfl,rfl⟩ | ⟨b,off,cap,rfl,hcap,hc⟩
 have hq:q=0:=by simpa using h4
 have hp:p=0:=zO
 subst hq hp
 refine SL.val (v:=.slice a0 0 0) ho E (fun a w ha _=>?_) (h _ ⟨hk.len,.inl ⟨_,E,by simp⟩⟩)
 simp only[execOp,ho.op,Instr.sliceAt,Instr.slice,Option.map]
 cases a0<;>simp[ha.eval hx,ha.eval hy,ha.eval hz,Ax hty,Cd hsz,Instr.sliceBounds,Instr.sliceBound,asIntOf]
 have hl:((xs.drop p).take (q-p)).length=q-p:=by simp;omega
 by_cases hpc:p<cap
 refine kO p q ho hty hsz hx hy hz E E h3 zO hpc (h _ ⟨hk.len,.inr ⟨b,off+p*sz,cap-p,by rw[hl],by rw[hl];omega,fun j' u hu=>?_⟩⟩)
 have hc':=(ZJ hk.len hcap hc (show p≤xs.length by omega)).at_
 have hpre:((xs.drop p).take (q-p))++((xs.drop p).drop (q-p))=xs.drop p:=List.take_append_drop ..
 have hlen:((xs.take p).flatMap enc).length=p*sz:=by rw[I2 hk.len,List.length_take,Nat.min_eq_left zO]
 have:=hc (p*sz+j') u (by
  rw[←List.take_append_drop p xs,List.flatMap_append,List.getElem?_append_right zO,hlen,Nat.add_sub_cancel_left,←hpre,List.flatMap_append,List.getElem?_append_left (List.getElem?_eq_some_iff.1 hu).1]
  exact hu)
 rw[Nat.add_assoc]
 exact this
 have hpe:p=cap:=zO
 have hqe:q=p:=zO
 subst hqe
 refine SL.val (v:=.slice (some ⟨b,off,none⟩) 0 0) ho E (fun a w ha _=>?_) (h _ ⟨hk.len,.inl ⟨_,E,by simp⟩⟩)
 simp only[execOp,ho.op,Instr.sliceAt,Instr.slice,Option.map]
 simp[ha.eval hx,ha.eval hy,ha.eval hz,Ax hty,Cd hsz,Instr.sliceBounds,Instr.sliceBound,asIntOf,Cg,hpe]
end

section
variable {K:Nat→Prop}{w0:World}{H:List AZ}
def ZM(x:CZ):List Value:=[Z x.cx,Z x.cy,vI x.lev,.slice none 0 0,.slice none 0 0]
theorem ms:zC K w0 137 [zN] [] H (fun u M=>u=.agg #[Z 0,Z 0,vI 0,zN,zN]∧M=[]):=by
 refine T6.enter Tryz.func137 rfl rfl ?_
 refine Y ?_
 refine Ar E Ih zU fun b0=>?_
 refine V (AH (Y (J E (H9 E C4 E (AA E BS (V ?_))))))
 refine A0 E (fun hc1=>?_) (fun hc1=>absurd hc1 zD)
 refine Y (Bt [] E bS bQ Ih zT E (A7 0 E E E E Ie E E E zT (V (AL (Ac ?_)))))
 exact Al (Id E (CC 0 [Z 0,Z 0,vI 0,zN,zN] NX E E E E)) (Ak (M:=[]) ⟨E,E⟩ fun _ h=>h.skip [_])
def gc:Option Int:=some 0
theorem jz{r:Int}(h:gc=some r):zC K w0 102 [zN] [] H (fun u M=>u=.tuple #[.agg #[Z 0,Z 0,vI 0,zN,zN],vI r]∧M=[]):=by
 obtain rfl:=zI h
 refine T6.enter Tryz.func102 rfl rfl ?_
 refine Y ?_
 refine Ar E Ih zU fun b0=>?_
 refine U E (V (Y (J E ?_)))
 refine AM 0 gn (SK (n:=1) (p0:=[]) (r:=true) E (CG.nil zV)) E ?_
 refine U E (V (AH (Y (J E (CW E E (V ?_))))))
 refine A0 E (fun hc1=>absurd hc1 zD) (fun hc1=>?_)
 refine AJ (AI (Y (J E (AM 0 ny ms E (A7 0 E E E E Ie E E E zT (U E (V (AL ?_))))))))
 exact Al (Dz E (CC 0 [Z 0,Z 0,vI 0,zN,zN] NX E E E E) E) (Ak (M:=[]) ⟨E,E⟩ fun _ h=>h.skip [_])
end

section
variable {K:Nat→Prop}{w0:World}{H:List AZ}
def Ej(n:Nat)(T:List UInt32)(p0_1:Bh)(p0_2:A8)(y1:List UInt8×Int)(o2:Fb)(y2:UInt32)(y3:List UInt8):Option (Bb×Fb×Bh×A8):=
 (Fq n T p0_1 p0_2 y1.1).bind fun y6=>
 cond (!decide (y6.2.1=0))
 (
  none)
 (
  (DO 4 o2.took [y6.1.page]).bind fun l1=>
  (DO 40 o2.out [(⟨y1.1,y6.1.page,y6.1.tag⟩:BT)]).bind fun l2=>
  some ((⟨y6.1.page,y6.1.tag⟩:Bb),{ o2 with out:=l2,took:=l1 },y6.2.2.1,y6.2.2.2))
def Gv(n:Nat)(T:List UInt32)(p0_1:Bh)(p0_2:A8)(y1:List UInt8×Int)(nx_f_ref14_keeper_place_l1:Fb×UInt32×List UInt8×Int→Option (Bb×Fb×Bh×A8))(o3:Fb)(y4:UInt32)(y5:List UInt8)(a1:Int):Option (Bb×Fb×Bh×A8):=
 cond (decide (a1<(o3.had.length:Int)))
 (
  none)
 (
  Ej n T p0_1 p0_2 y1 o3 y4 y5)
def Hy(n:Nat)(T:List UInt32)(p0_1:Bh)(p0_2:A8)(y1:List UInt8×Int):Nat→(Fb×UInt32×List UInt8×Int)→Option (Bb×Fb×Bh×A8):=CO fun nx x=>Gv n T p0_1 p0_2 y1 nx x.1 x.2.1 x.2.2.1 x.2.2.2
def Hx(n:Nat)(T:List UInt32)(p0_1:Bh)(p0_2:A8)(y1:List UInt8×Int)(o1:Fb):Option (Bb×Fb×Bh×A8):=
 cond (!decide (o1.err=0))
 (
  none)
 (
  Hy n T p0_1 p0_2 y1 n (o1,0,[],0))
def Ee(n:Nat)(T:List UInt32)(p0:Fb)(p0_1:Bh)(p0_2:A8)(p1:Dc):Option (Bb×Fb×Bh×A8):=
 (JF n p1).bind fun y1=>
 cond ((!decide (y1.2=0))&&(decide (p0.err=0)))
 (
  none)
 (
  Hx n T p0_1 p0_2 y1 p0)
theorem Rp{n Ap BO CS:Nat}{T:List UInt32}{Ad A3 EB Be Bg CT Bv Bw Bx ml mm:Value}{p0:Fb}{p0_1:Bh}{p0_2:A8}{p1:Dc}{r:Bb×Fb×Bh×A8}(h:Ee n T p0 p0_1 p0_2 p1=some r)(hT:I9 K w0 2 64 T)(hs1_4:CG K w0 AX 4 ml p1.rows)(hs1_5:CG K w0 B3 2 mm p1.kids):zC K w0 138 [vP Ap 0,.agg #[vI p1.kind,Z p1.cx,Z p1.cy,vI p1.lev,ml,mm,Z p1.npage,vS p1.ntag]] [AK Ap (.cells #[vP BO 0,Ad,A3,EB,vI p0.err,Be] 212),AC 190 3 Ad AT p0.had,AC 190 3 A3 AT p0.out,AC 33 1 EB BW p0.took,AC 190 3 Be AT p0.must,AK BO (.cells #[vP CS 0,Bg,Z p0_1.gen,Z p0_1.boot,AV p0_1.num,CT] 153),AC 114 2 Bg AY p0_1.ring,AC 4 1 CT eB p0_1.taken,AK CS (.cells #[Bv,Bw,Bx,AV p0_2.rcnt,vS p0_2.rtag,Z p0_2.rboots,vI p0_2.left,vB p0_2.off] 107),AC 9 1 Bv eS p0_2.blk,AC 9 1 Bw eS p0_2.pnd,AC 4 1 Bx eB p0_2.bads] H (fun u M=>∃vs0_0_2 vs0_0_3:Value,u=.agg (B3 r.1).toArray∧M=[AK Ap (.cells #[vP BO 0,Ad,vs0_0_2,vs0_0_3,vI r.2.1.err,Be] 212),AC 190 3 Ad AT r.2.1.had,AC 190 3 vs0_0_2 AT r.2.1.out,AC 33 1 vs0_0_3 BW r.2.1.took,AC 190 3 Be AT r.2.1.must,AK BO (.cells #[vP CS 0,Bg,Z r.2.2.1.gen,Z r.2.2.1.boot,AV r.2.2.1.num,CT] 153),AC 114 2 Bg AY r.2.2.1.ring,AC 4 1 CT eB r.2.2.1.taken,AK CS (.cells #[Bv,Bw,Bx,AV r.2.2.2.rcnt,vS r.2.2.2.rtag,Z r.2.2.2.rboots,vI r.2.2.2.left,vB r.2.2.2.off] 107),AC 9 1 Bv eS r.2.2.2.blk,AC 9 1 Bw eS r.2.2.2.pnd,AC 4 1 Bx eB r.2.2.2.bads]):=by
 unfold Ee at h
 refine T6.enter Tryz.func138 rfl rfl ?_
 refine Y ?_
 refine Ba E E zU fun b1=>?_
 refine Ar E FC zU fun b2=>?_
 refine V (Y ?_)
 refine AE h fun y1 hy1 h=>?_
 refine Aw [vI p1.kind,Z p1.cx,Z p1.cy,vI p1.lev,ml,mm,Z p1.npage,vS p1.ntag] E XW E E (An 1 E) (AM 0 oO ((Wu hy1 hs1_4 hs1_5 :)) E (J E (Af E E E (Af E E E (U E (U E (V ?_)))))))
 refine BB (α:=Fb) (fun x=>Hx n T p0_1 p0_2 y1 x=some r) (fun x=>[(0,vP Ap 0),(4,vP b2 0),(5,vS y1.1)]) (fun x=>AK Ap (.cells #[vP BO 0,Ad,A3,EB,vI x.err,Be] 212)::AK BO (.cells #[vP CS 0,Bg,Z p0_1.gen,Z p0_1.boot,AV p0_1.num,CT] 153)::AK CS (.cells #[Bv,Bw,Bx,AV p0_2.rcnt,vS p0_2.rtag,Z p0_2.rboots,vI p0_2.left,vB p0_2.off] 107)::AC 9 1 Bv eS p0_2.blk::AC 9 1 Bw eS p0_2.pnd::AC 4 1 Bx eB p0_2.bads::AC 114 2 Bg AY p0_1.ring::AC 4 1 CT eB p0_1.taken::AC 190 3 Ad AT x.had::AC 190 3 A3 AT x.out::AC 33 1 EB BW x.took::AC 190 3 Be AT x.must::AK b2 (.cells #[Z 0,vS []] 188)::H) ?_ (fun o1 D h=>?_)
 refine Y (J E (AA E BG (J E ?_)))
 refine Cb (c:=decide (p0.err=0)) 18 6 24 E (fun hb k=>?_) (fun hb k=>?_) ?_
 refine J E (AU E E (AF E YE (AG 2 Qe E (AA E BS (Ag E E E ?_)))))
 exact k.mono tL
 refine AB E (AB E (AB E (AB E (AB E (Ag E E E ?_)))))
 exact k.mono tL
 refine V ?_
 refine AP h E (fun hc1 h=>?_) fun hc1 h=>?_
 cases h
 refine AJ ?_
 exact Az p0 h tL (BX [2,7,10,11,12,13,8,9,3,4,5,6,0] 14 E E E)
 unfold Hx at h
 try dsimp only
 refine AH (Y (J E (AU E E (AF E YE (AG 0 Qe E (AA E BG (V ?_)))))))
 refine AP h E (fun hc2 h=>?_) fun hc2 h=>?_
 cases h
 refine AJ (AI (AH (Y (J E (AU E E (AF E dT (AG 0 Np E (D8 E sK E E (V (Cz E (AJ (AI ?_))))))))))))
 refine BB (α:=Fb×UInt32×List UInt8) (fun x=>Ej n T p0_1 p0_2 y1 x.1 x.2.1 x.2.2=some r) (fun x=>[(0,vP Ap 0),(4,vP b2 0),(5,vS y1.1)]) (fun x=>AK Ap (.cells #[vP BO 0,Ad,A3,EB,vI x.1.err,Be] 212)::AK BO (.cells #[vP CS 0,Bg,Z p0_1.gen,Z p0_1.boot,AV p0_1.num,CT] 153)::AK CS (.cells #[Bv,Bw,Bx,AV p0_2.rcnt,vS p0_2.rtag,Z p0_2.rboots,vI p0_2.left,vB p0_2.off] 107)::AC 9 1 Bv eS p0_2.blk::AC 9 1 Bw eS p0_2.pnd::AC 4 1 Bx eB p0_2.bads::AC 114 2 Bg AY p0_1.ring::AC 4 1 CT eB p0_1.taken::AC 190 3 Ad AT x.1.had::AC 190 3 A3 AT x.1.out::AC 33 1 EB BW x.1.took::AC 190 3 Be AT x.1.must::AK b2 (.cells #[Z x.2.1,vS x.2.2] 188)::H) ?_ (fun x D h=>?_)
 refine Y (U E (V (AQ ?_)))
 refine SX.heap (SX.mono (BU (α:=Nat×Fb×UInt32×List UInt8×Int) (fun x=>Hy n T p0_1 p0_2 y1 x.1 (x.2.1,x.2.2.1,x.2.2.2.1,x.2.2.2.2)=some r) (fun x=>[(0,vP Ap 0),(4,vP b2 0),(5,vS y1.1),(8,vI x.2.2.2.2)]) (fun x=>AK Ap (.cells #[vP BO 0,Ad,A3,EB,vI x.2.1.err,Be] 212)::AK BO (.cells #[vP CS 0,Bg,Z p0_1.gen,Z p0_1.boot,AV p0_1.num,CT] 153)::AK CS (.cells #[Bv,Bw,Bx,AV p0_2.rcnt,vS p0_2.rtag,Z p0_2.rboots,vI p0_2.left,vB p0_2.off] 107)::AC 9 1 Bv eS p0_2.blk::AC 9 1 Bw eS p0_2.pnd::AC 4 1 Bx eB p0_2.bads::AC 114 2 Bg AY p0_1.ring::AC 4 1 CT eB p0_1.taken::AC 190 3 Ad AT x.2.1.had::AC 190 3 A3 AT x.2.1.out::AC 33 1 EB BW x.2.1.took::AC 190 3 Be AT x.2.1.must::AK b2 (.cells #[Z x.2.2.1,vS x.2.2.2.1] 188)::H) (fun x=>x.1) (fun x D h=>?_) (n,o1,0,[],0) h) tL) (BX [0,1,2,3,4,5,6,7,8,9,10,11,12] 13 E E E)
 obtain⟨m1,o3,y4,y5,a1⟩:=x
 dsimp only at h
 rcases m1 with _ | m1
 cases (show(none:Option _)=some r from h)
 replace h:Gv n T p0_1 p0_2 y1 (Hy n T p0_1 p0_2 y1 m1) o3 y4 y5 a1=some r:=h
 unfold Gv at h
 try dsimp only
 refine AH (Y (J E (J E (AU E E (AF E lh (AG 0 Qf E (Di 8 E Kf E E (AA E BD (V ?_)))))))))
 refine AP h E (fun hc4 h=>?_) fun hc4 h=>?_
 cases h
 refine A4 (A9 (Bi (BA ?_)))
 exact Az (o3,y4,y5) h tL (BX [0,1,2,3,4,5,6,7,8,9,10,11,12] 13 E E E)
 obtain⟨o2,y2,y3⟩:=x
 dsimp only at h
 unfold Ej at h
 try dsimp only
 refine Y ?_
 refine AE h fun y6 hy6 h=>?_
 refine J E (AU E E (AF E dT (AG 0 Np E (J E (SL.pick [1,6,7,2,3,4,5,0] 8 (AM 7 oP (SM hy6 hT) E (J E ?_)))))))
 refine Af E E E (Af E E E ?_)
 refine Ar E FC zU fun b3=>?_
 refine A7 0 E E E E EZ E E E zT (U E (V (AH (Y (J E (AA E BG (V ?_)))))))
 refine AP h E (fun hc5 h=>?_) fun hc5 h=>?_
 cases h
 refine AJ (AI (AH ?_))
 refine AE h fun l1 hl1 h=>?_
 refine A2 DE [0,8] (CK [(true,0),(true,1),(true,2),(true,3),(true,4),(true,5),(true,6),(false,7),(false,8),(true,9),(true,10)] (.last 11 .nil)) zK (J E (J E (AU E E (AF E dU (AG 1 f9 E (AF E FW (AG 0 A6 E ?_)))))))
 refine CE [_] rfl CR Bq H4 ⟨rfl,trivial⟩ rfl rfl rfl zW rfl rfl (fun _=>⟨⟨1,rfl⟩,⟨9,rfl⟩,trivial⟩) fun b4=>?_
 refine CJ BW 1 ([y6.1.page]:List UInt32) E zV E ?_
 refine Cr 12 hl1 (sz:=1) (enc:=BW) zV E CR Bq QP H4 E zD E E E E (CM (sz:=1) (enc:=BW) 0 zV E) (by simp[BW,Value.oneCell']) (fun _=>⟨⟨1,E⟩,⟨9,E⟩,zT⟩) fun v1=>?_
 refine AU E E (AF E dU (Bk ?_))
 refine Cu 12 E fun hv1 ho1=>?_
 refine Du 9 E E E E gE hv1 ho1 E zT (V (AH ?_))
 refine AE h fun l2 hl2 h=>?_
 refine A2 DE [1,9] (CK [(true,0),(true,1),(true,2),(true,3),(true,4),(true,5),(true,6),(true,7),(false,8),(false,9),(true,10),(true,11)] (.last 12 .nil)) zK (J E (J E (AU E E (AF E YD (AG 1 Qf E (J E (Aw [Z y6.1.page,vS y6.1.tag] E C6 E E (An 0 E) ?_)))))))
 refine Bt [_,_] E mG mE PX ⟨E,E,zT⟩ E ?_
 refine CE [_] rfl Kf Ke PX ⟨rfl,trivial⟩ rfl rfl rfl zW rfl rfl (fun _=>⟨⟨2,rfl⟩,⟨10,rfl⟩,trivial⟩) fun b5=>?_
 refine CJ AT 3 ([(⟨y1.1,y6.1.page,y6.1.tag⟩:BT)]:List BT) E zV E ?_
 refine Cr 12 hl2 (sz:=3) (enc:=AT) zV E Kf Ke kl PX E zD E E E E (CM (sz:=3) (enc:=AT) 0 zV E) (by simp[AT,Value.oneCell']) (fun _=>⟨⟨2,E⟩,⟨10,E⟩,zT⟩) fun v2=>?_
 refine AU E E (AF E YD (Bk ?_))
 refine Cu 12 E fun hv2 ho2=>?_
 refine Du 10 E E E E md hv2 ho2 E zT (V (Y (Aw [Z y6.1.page,vS y6.1.tag] E C6 E E (An 2 E) (A7 15 E E E E EZ E E E zT (V (AL ?_))))))
 obtain rfl:=zI h
 exact Al (Id E (CC 15 (B3 (⟨y6.1.page,y6.1.tag⟩:Bb)) C6 E E E E)) (Ak (M:=[_,_,_,_,_,_,_,_,_,_,_,_]) ⟨v2,v1,E,E⟩ fun _ hw=>Bc.pick (H:=[_,_,_,_,_,_,_,_,_,_,_,_,_,_,_,_]) hw [10,11,12,13,14,3,4,5,6,7,8,9] 16 E)
def IQ(o4:Fb)(o5:Bh)(o6:A8)(y3:UInt32)(y4:List UInt8):Option (Bb×Fb×Bh×A8):=
 some ((⟨y3,y4⟩:Bb),o4,o5,o6)
def ER(n:Nat)(T:List UInt32)(nx_f_ref14_keeper_node_l1:Fb×Bh×A8×UInt32×List UInt8×Int→Option (Bb×Fb×Bh×A8))(o7:Fb)(o8:Bh)(o9:A8)(y5:UInt32)(y6:List UInt8)(a1:Int):Option (Bb×Fb×Bh×A8):=
 cond (decide (0≤a1))
 (
  (LF [] a1 (min 0 (wI (a1+4)))).bind fun l1=>
  (Ee n T o7 o8 o9 (⟨1,0,0,0,l1,[],y5,y6⟩:Dc)).bind fun y7=>
  ret (wI (a1-4)) fun x2=>
  nx_f_ref14_keeper_node_l1 (y7.2.1,y7.2.2.1,y7.2.2.2,y7.1.page,y7.1.tag,x2))
 (
  IQ o7 o8 o9 y5 y6)
def F1(n:Nat)(T:List UInt32):Nat→(Fb×Bh×A8×UInt32×List UInt8×Int)→Option (Bb×Fb×Bh×A8):=CO fun nx x=>ER n T nx x.1 x.2.1 x.2.2.1 x.2.2.2.1 x.2.2.2.2.1 x.2.2.2.2.2
def IP(n:Nat)(T:List UInt32)(o1:Fb)(o2:Bh)(o3:A8)(y1:UInt32)(y2:List UInt8):Option (Bb×Fb×Bh×A8):=
 (VV (wI ((max 0 1)-1)) 4).bind fun q1=>
 ret (wI (q1*4)) fun x1=>
 F1 n T n (o1,o2,o3,0,[],x1)
def Fr(n:Nat)(T:List UInt32)(p0:Fb)(p0_1:Bh)(p0_2:A8):Option (Bb×Fb×Bh×A8):=
 cond (decide (0<0))
 (
  none)
 (
  IP n T p0 p0_1 p0_2 0 [])
theorem SN{n Ap BO CS:Nat}{T:List UInt32}{Ad A3 EB Be Bg CT Bv Bw Bx:Value}{p0:Fb}{p0_1:Bh}{p0_2:A8}{r:Bb×Fb×Bh×A8}(h:Fr n T p0 p0_1 p0_2=some r)(hT:I9 K w0 2 64 T):zC K w0 103 [vP Ap 0,.agg #[Z 0,Z 0,vI 0,zN,zN]] [AK Ap (.cells #[vP BO 0,Ad,A3,EB,vI p0.err,Be] 212),AC 190 3 Ad AT p0.had,AC 190 3 A3 AT p0.out,AC 33 1 EB BW p0.took,AC 190 3 Be AT p0.must,AK BO (.cells #[vP CS 0,Bg,Z p0_1.gen,Z p0_1.boot,AV p0_1.num,CT] 153),AC 114 2 Bg AY p0_1.ring,AC 4 1 CT eB p0_1.taken,AK CS (.cells #[Bv,Bw,Bx,AV p0_2.rcnt,vS p0_2.rtag,Z p0_2.rboots,vI p0_2.left,vB p0_2.off] 107),AC 9 1 Bv eS p0_2.blk,AC 9 1 Bw eS p0_2.pnd,AC 4 1 Bx eB p0_2.bads] H (fun u M=>∃vs0_0_2 vs0_0_3:Value,u=.agg (B3 r.1).toArray∧M=[AK Ap (.cells #[vP BO 0,Ad,vs0_0_2,vs0_0_3,vI r.2.1.err,Be] 212),AC 190 3 Ad AT r.2.1.had,AC 190 3 vs0_0_2 AT r.2.1.out,AC 33 1 vs0_0_3 BW r.2.1.took,AC 190 3 Be AT r.2.1.must,AK BO (.cells #[vP CS 0,Bg,Z r.2.2.1.gen,Z r.2.2.1.boot,AV r.2.2.1.num,CT] 153),AC 114 2 Bg AY r.2.2.1.ring,AC 4 1 CT eB r.2.2.1.taken,AK CS (.cells #[Bv,Bw,Bx,AV r.2.2.2.rcnt,vS r.2.2.2.rtag,Z r.2.2.2.rboots,vI r.2.2.2.left,vB r.2.2.2.off] 107),AC 9 1 Bv eS r.2.2.2.blk,AC 9 1 Bw eS r.2.2.2.pnd,AC 4 1 Bx eB r.2.2.2.bads]):=by
 unfold Fr at h
 refine T6.enter Tryz.func103 rfl rfl ?_
 refine Y ?_
 refine Ba E E zU fun b1=>?_
 refine Ar E FC zU fun b2=>?_
 refine V ?_
 refine BB (α:=Fb×Bh×A8×Value×Value×UInt32×List UInt8) (fun x=>IP n T x.1 x.2.1 x.2.2.1 x.2.2.2.2.2.1 x.2.2.2.2.2.2=some r) (fun x=>[(0,vP Ap 0),(3,vP b1 0),(4,vP b2 0)]) (fun x=>AK Ap (.cells #[vP BO 0,Ad,x.2.2.2.1,x.2.2.2.2.1,vI x.1.err,Be] 212)::AK BO (.cells #[vP CS 0,Bg,Z x.2.1.gen,Z x.2.1.boot,AV x.2.1.num,CT] 153)::AK CS (.cells #[Bv,Bw,Bx,AV x.2.2.1.rcnt,vS x.2.2.1.rtag,Z x.2.2.1.rboots,vI x.2.2.1.left,vB x.2.2.1.off] 107)::AC 9 1 Bv eS x.2.2.1.blk::AC 9 1 Bw eS x.2.2.1.pnd::AC 4 1 Bx eB x.2.2.1.bads::AC 114 2 Bg AY x.2.1.ring::AC 4 1 CT eB x.2.1.taken::AC 190 3 Ad AT x.1.had::AC 190 3 x.2.2.2.1 AT x.1.out::AC 33 1 x.2.2.2.2.1 BW x.1.took::AC 190 3 Be AT x.1.must::AK b1 (.cells #[Z 0,Z 0,vI 0,zN,zN] 167)::AK b2 (.cells #[Z x.2.2.2.2.2.1,vS x.2.2.2.2.2.2] 188)::H) ?_ (fun x D h=>?_)
 refine Y (AF E KV (AG 1 UY E (H9 E OQ E (AA E Cm (V ?_)))))
 refine AP h E (fun hc1 h=>?_) fun hc1 h=>?_
 cases h
 refine AJ ?_
 exact Az (p0,p0_1,p0_2,A3,EB,0,[]) h tL (BX [2,7,10,11,12,13,8,9,3,4,5,6,1,0] 14 E E E)
 obtain⟨o1,o2,o3,v1,v2,y1,y2⟩:=x
 dsimp only at h
 unfold IP at h
 try dsimp only
 refine Y (Bt [] E OP OO FC zT E ?_)
 refine Ar E FC zU fun b3=>?_
 refine A7 0 E E E E EZ E E E zT (V ?_)
 refine BB (α:=Fb×Bh×A8×Value×Value×UInt32×List UInt8) (fun x=>IQ x.1 x.2.1 x.2.2.1 x.2.2.2.2.2.1 x.2.2.2.2.2.2=some r) (fun x=>[(0,vP Ap 0),(4,vP b2 0),(7,vP b3 0)]) (fun x=>AK Ap (.cells #[vP BO 0,Ad,x.2.2.2.1,x.2.2.2.2.1,vI x.1.err,Be] 212)::AK BO (.cells #[vP CS 0,Bg,Z x.2.1.gen,Z x.2.1.boot,AV x.2.1.num,CT] 153)::AK CS (.cells #[Bv,Bw,Bx,AV x.2.2.1.rcnt,vS x.2.2.1.rtag,Z x.2.2.1.rboots,vI x.2.2.1.left,vB x.2.2.1.off] 107)::AC 9 1 Bv eS x.2.2.1.blk::AC 9 1 Bw eS x.2.2.1.pnd::AC 4 1 Bx eB x.2.2.1.bads::AC 114 2 Bg AY x.2.1.ring::AC 4 1 CT eB x.2.1.taken::AC 190 3 Ad AT x.1.had::AC 190 3 x.2.2.2.1 AT x.1.out::AC 33 1 x.2.2.2.2.1 BW x.1.took::AC 190 3 Be AT x.1.must::AK b2 (.cells #[Z y1,vS y2] 188)::AK b3 (.cells #[Z x.2.2.2.2.2.1,vS x.2.2.2.2.2.2] 188)::H) ?_ (fun x D h=>?_)
 refine Y ?_
 refine AE h fun q1 hq1 h=>?_
 obtain⟨x1,ex1,h⟩:=By h
 refine AF E Se (AG 13 FY E (H9 E C4 E (cd E E E (AA E Dn (AA E (Vf hq1) (AA E MR ?_))))))
 refine Aq (u:=vI x1) E E (congrArg vI ex1) ?_
 refine V (AQ ?_)
 refine SX.heap (SX.mono (BU (α:=Nat×Fb×Bh×A8×Value×Value×UInt32×List UInt8×Int) (fun x=>F1 n T x.1 (x.2.1,x.2.2.1,x.2.2.2.1,x.2.2.2.2.2.2.1,x.2.2.2.2.2.2.2.1,x.2.2.2.2.2.2.2.2)=some r) (fun x=>[(0,vP Ap 0),(3,vP b1 0),(4,vP b2 0),(7,vP b3 0),(8,vI x.2.2.2.2.2.2.2.2)]) (fun x=>AK Ap (.cells #[vP BO 0,Ad,x.2.2.2.2.1,x.2.2.2.2.2.1,vI x.2.1.err,Be] 212)::AK BO (.cells #[vP CS 0,Bg,Z x.2.2.1.gen,Z x.2.2.1.boot,AV x.2.2.1.num,CT] 153)::AK CS (.cells #[Bv,Bw,Bx,AV x.2.2.2.1.rcnt,vS x.2.2.2.1.rtag,Z x.2.2.2.1.rboots,vI x.2.2.2.1.left,vB x.2.2.2.1.off] 107)::AC 9 1 Bv eS x.2.2.2.1.blk::AC 9 1 Bw eS x.2.2.2.1.pnd::AC 4 1 Bx eB x.2.2.2.1.bads::AC 114 2 Bg AY x.2.2.1.ring::AC 4 1 CT eB x.2.2.1.taken::AC 190 3 Ad AT x.2.1.had::AC 190 3 x.2.2.2.2.1 AT x.2.1.out::AC 33 1 x.2.2.2.2.2.1 BW x.2.1.took::AC 190 3 Be AT x.2.1.must::AK b1 (.cells #[Z 0,Z 0,vI 0,zN,zN] 167)::AK b2 (.cells #[Z y1,vS y2] 188)::AK b3 (.cells #[Z x.2.2.2.2.2.2.1,vS x.2.2.2.2.2.2.2.1] 188)::H) (fun x=>x.1) (fun x D h=>?_) (n,o1,o2,o3,v1,v2,0,[],x1) h) tL) (BX [1,2,3,4,5,6,7,8,9,10,11,12,13,14,0] 15 E E E)
 obtain⟨m1,o7,o8,o9,v5,v6,y5,y6,a1⟩:=x
 dsimp only at h
 rcases m1 with _ | m1
 cases (show(none:Option _)=some r from h)
 replace h:ER n T (F1 n T m1) o7 o8 o9 y5 y6 a1=some r:=h
 unfold ER at h
 try dsimp only
 refine AH (Y (J E (AA E LU (V ?_))))
 refine AP h E (fun hc2 h=>?_) fun hc2 h=>?_
 refine AJ (AI (AH (AQ ?_)))
 refine AE h fun l1 hl1 h=>?_
 refine AE h fun y7 hy7 h=>?_
 refine A2 DE [12,14] (CK [(true,0),(true,1),(true,2),(true,3),(true,4),(true,5),(true,6),(true,7),(true,8),(true,9),(true,10),(true,11),(true,12)] (.last 13 (C3 [(false,14)]))) zK (J E (AF E Se (AG 0 FY E (J E (AF E Se (AG 0 FY E (H9 E C4 E ?_)))))))
 refine J E (AA E Bu (XP E E E ?_))
 refine kS hl1 (CG.nil (enc:=AX) (sz:=4) zV) E C4 DZ E E E fun v7 hs1=>?_
 refine Aw [Z y5,vS y6] E C6 E E (An 1 E) ?_
 refine QN hs1 fun hv1 ho1=>?_
 refine Rw [vI 1,v7,.agg #[Z y5,vS y6]] [#[vI 1],#[v7],#[Z y5,vS y6]] (by simp only[List.map_cons,List.map_nil,hv1];rfl) E fg ff cL ⟨E,E,E,zT⟩ E (Bk (SL.pick [0,8,9,10,11,1,6,7,2,3,4,5] 12 ?_))
 refine BY 12 nz ((Rp hy7 hT hs1 (CG.nil zV) :)) E ?_
 rintro _ _ ⟨v8,v9,rfl,rfl⟩
 refine A7 14 E E E E EZ E E E zT (Aa (Ay (AI (AS ?_))))
 obtain⟨x2,ex2,h⟩:=By h
 refine J E (AA E Dn ?_)
 refine Aq (u:=vI x2) E E (congrArg vI ex2) ?_
 refine Aa ?_
 exact A1 (m1,y7.2.1,y7.2.2.1,y7.2.2.2,v8,v9,y7.1.page,y7.1.tag,x2) h (Nat.lt_succ_self _) tL (BX [0,5,8,9,10,11,6,7,1,2,3,4,12,13,14] 15 E E E)
 refine A4 (A9 (Bi (BA ?_)))
 exact Az (o7,o8,o9,v5,v6,y5,y6) h tL (BX [0,1,2,3,4,5,6,7,8,9,10,11,13,14] 15 E E E)
 obtain⟨o4,o5,o6,v3,v4,y3,y4⟩:=x
 dsimp only at h
 unfold IQ at h
 try dsimp only
 refine Y (Aw [Z y3,vS y4] E C6 E E (An 13 E) (A7 12 E E E E EZ E E E zT (V (AL ?_))))
 obtain rfl:=zI h
 exact Al (Id E (CC 12 (B3 (⟨y3,y4⟩:Bb)) C6 E E E E)) (Ak (M:=[_,_,_,_,_,_,_,_,_,_,_,_]) ⟨v3,v4,E,E⟩ fun _ hw=>Bc.pick (H:=[_,_,_,_,_,_,_,_,_,_,_,_,_,_]) hw [0,8,9,10,11,1,6,7,2,3,4,5] 14 E)
def Ni(y2:Bb×Fb×Bh×A8)(o1:Bh):Option (List BT×Int×Bh×A8):=
 some (y2.2.1.out,0,o1,y2.2.2.2)
def Ld(n:Nat)(T:List UInt32)(p0:Bh)(p0_1:A8):Option (List BT×Int×Bh×A8):=
 (gc).bind fun y1=>
 cond (!decide (y1=0))
 (
  none)
 (
  (Fr n T ({ had:=[],out:=[],took:=[],err:=0,must:=[] }:Fb) p0 p0_1).bind fun y2=>
  cond (!decide (y2.2.1.err=0))
  (
   none)
  (
   Ni y2 y2.2.2.1))
theorem Y1{n Ap BO:Nat}{T:List UInt32}{Ad Be Dk Bg Dl:Value}{p0:Bh}{p0_1:A8}{r:List BT×Int×Bh×A8}(h:Ld n T p0 p0_1=some r)(hT:I9 K w0 2 64 T):zC K w0 72 [vP Ap 0,zN,zN] [AK Ap (.cells #[vP BO 0,Ad,Z p0.gen,Z p0.boot,AV p0.num,Be] 153),AC 114 2 Ad AY p0.ring,AC 4 1 Be eB p0.taken,AK BO (.cells #[Dk,Bg,Dl,AV p0_1.rcnt,vS p0_1.rtag,Z p0_1.rboots,vI p0_1.left,vB p0_1.off] 107),AC 9 1 Dk eS p0_1.blk,AC 9 1 Bg eS p0_1.pnd,AC 4 1 Dl eB p0_1.bads] H (fun u M=>∃v0:Value,u=.tuple #[v0,vI r.2.1]∧M=[AC 190 3 v0 AT r.1,AK Ap (.cells #[vP BO 0,Ad,Z r.2.2.1.gen,Z r.2.2.1.boot,AV r.2.2.1.num,Be] 153),AC 114 2 Ad AY r.2.2.1.ring,AC 4 1 Be eB r.2.2.1.taken,AK BO (.cells #[Dk,Bg,Dl,AV r.2.2.2.rcnt,vS r.2.2.2.rtag,Z r.2.2.2.rboots,vI r.2.2.2.left,vB r.2.2.2.off] 107),AC 9 1 Dk eS r.2.2.2.blk,AC 9 1 Bg eS r.2.2.2.pnd,AC 4 1 Dl eB r.2.2.2.bads]):=by
 unfold Ld at h
 refine T6.enter Tryz.func72 rfl rfl ?_
 refine Y (B5 190 3 AT (U E (U E (V (Y ?_)))))
 refine AE h fun y1 hy1 h=>?_
 refine J E (AM 0 nf (jz hy1) E (J E (Af E E E (Af E E E ?_))))
 refine Ar E Ih zU fun b1=>?_
 refine B5 35 4 AX (B5 167 5 ZM (A7 2 E E E E Ie E E E zT (B5 35 4 AX (B5 167 5 ZM (U E (V (AH (Y (J E (AA E BG (V ?_)))))))))))
 refine AP h E (fun hc1 h=>?_) fun hc1 h=>?_
 cases h
 refine AJ (AI (Y (J E (J E (Bt [_,_] E rq rY sY ⟨E,E,zT⟩ E ?_)))))
 refine Ba E E zU fun b2=>?_
 refine B5 190 3 AT (B5 190 3 AT (B5 33 1 BW (B5 190 3 AT (U E (V (Y ?_))))))
 refine AE h fun y2 hy2 h=>?_
 refine J E (Aw [Z 0,Z 0,vI 0,zN,zN] E NX E E (An 9 E) (SL.pick [4,3,2,1,0,11,12,13,14,15,16,17,5,6,7,8,9,10] 18 (BY 12 ng ((SN hy2 hT :)) E ?_)))
 rintro _ _ ⟨v1,v2,rfl,rfl⟩
 refine V ?_
 refine BB (α:=Bh) (fun x=>Ni y2 x=some r) (fun x=>[(0,vP Ap 0),(10,vP b2 0)]) (fun x=>AK Ap (.cells #[vP BO 0,Ad,Z x.gen,Z x.boot,AV x.num,Be] 153)::AK BO (.cells #[Dk,Bg,Dl,AV y2.2.2.2.rcnt,vS y2.2.2.2.rtag,Z y2.2.2.2.rboots,vI y2.2.2.2.left,vB y2.2.2.2.off] 107)::AC 9 1 Dk eS y2.2.2.2.blk::AC 9 1 Bg eS y2.2.2.2.pnd::AC 4 1 Dl eB y2.2.2.2.bads::AC 114 2 Ad AY x.ring::AC 4 1 Be eB x.taken::AK b2 (.cells #[vP Ap 0,zN,v1,v2,vI y2.2.1.err,zN] 212)::AC 190 3 zN AT y2.2.1.had::AC 190 3 v1 AT y2.2.1.out::AC 33 1 v2 BW y2.2.1.took::AC 190 3 zN AT y2.2.1.must::H) ?_ (fun o1 D h=>?_)
 refine Y (J E (AU E E (AF E YE (AG 0 Qe E (AA E BG (V ?_))))))
 refine AP h E (fun hc2 h=>?_) fun hc2 h=>?_
 cases h
 refine AJ ?_
 exact Az y2.2.2.1 h tL (BX [5,8,9,10,11,6,7,0,1,2,3,4] 18 E E E)
 unfold Ni at h
 try dsimp only
 refine Y (J E (AU E E (AF E YD (AG 7 Qf E (U E (U E (V (AL ?_))))))))
 obtain rfl:=zI h
 exact Bp [9,0,5,6,1,2,3,4] 12 (ET E E E) E E ⟨v1,E,E⟩
end

section
variable {K:Nat→Prop}{w0:World}{H:List AZ}
def Ny(p0:A8):Option Bool:=
 ret (decide (p0.rcnt=18446744073709551615)) fun x1=>
 some x1
theorem Y2{Ap:Nat}{Am Ad A3:Value}{p0:A8}{r:Bool}(h:Ny p0=some r): zC K w0 47 [vP Ap 0] [AK Ap (.cells #[Am,Ad,A3,AV p0.rcnt,vS p0.rtag,Z p0.rboots,vI p0.left,vB p0.off] 107),AC 9 1 Am eS p0.blk,AC 9 1 Ad eS p0.pnd,AC 4 1 A3 eB p0.bads] H (fun u M=>u=vB r∧M=[AK Ap (.cells #[Am,Ad,A3,AV p0.rcnt,vS p0.rtag,Z p0.rboots,vI p0.left,vB p0.off] 107),AC 9 1 Am eS p0.blk,AC 9 1 Ad eS p0.pnd,AC 4 1 A3 eB p0.bads]):=by
 unfold Ny at h
 refine T6.enter Tryz.func47 rfl rfl ?_
 refine Y (U E (V (Y ?_)))
 obtain⟨x1,ex1,h⟩:=By h
 refine J E (AU E E (AF E Lh (AF E Pp (AG 0 FX E ?_))))
 refine AA E (MQ (b:=18446744073709551615)) ?_
 refine Aq (u:=vB x1) E E (congrArg vB ex1) ?_
 refine V (AL ?_)
 obtain rfl:=zI h
 exact AW [0,1,2,3] 4 E E E
def M6:Option Int:=
 some (-1)
def LP(p0:List BT)(nx_f_ref16_place_l1:Int→Option Int)(a1:Int):Option Int:=
 cond (decide (a1<(p0.length:Int)))
 (
  none)
 (
  M6)
def M7(p0:List BT):Nat→Int→Option Int:=CO fun nx x=>LP p0 nx x
def PB(n:Nat)(p0:List BT)(p1:UInt32):Option Int:=
 M7 p0 n 0
theorem Xr{n:Nat}{DJ:Value}{p0:List BT}{p1:UInt32}{r:Int}(h:PB n p0 p1=some r)(hs0_:CG K w0 AT 3 DJ p0):zC K w0 110 [DJ,Z p1] [] H (fun u M=>u=vI r∧M=[]):=by
 unfold PB at h
 refine T6.enter Tryz.func110 rfl rfl ?_
 refine Y (U E (V ?_))
 refine BB (α:=Unit) (fun x=>M6=some r) (fun x=>[]) (fun x=>H) ?_ (fun x D h=>?_)
 refine Y (U E (V (AQ ?_)))
 refine SX.heap (SX.mono (BU (α:=Nat×Int) (fun x=>M7 p0 x.1 x.2=some r) (fun x=>[(0,DJ),(1,Z p1),(5,vI x.2)]) (fun x=>H) (fun x=>x.1) (fun x D h=>?_) (n,0) h) tL) (BX [] 0 E E E)
 obtain⟨m1,a1⟩:=x
 dsimp only at h
 rcases m1 with _ | m1
 cases (show(none:Option _)=some r from h)
 replace h:LP p0 (M7 p0 m1) a1=some r:=h
 unfold LP at h
 try dsimp only
 refine AH (Y (J E (J E (CF hs0_ E Kf E (AA E BD (V ?_))))))
 refine AP h E (fun hc1 h=>?_) fun hc1 h=>?_
 cases h
 refine A4 (A9 (Bi (BA ?_)))
 exact Az () h tL (BX [] 0 E E E)
 unfold M6 at h
 try dsimp only
 refine Y (U E (V (AL ?_)))
 obtain rfl:=zI h
 exact AW [] 0 E E E
def EK(n:Nat)(T:List UInt32)(p0:Dy)(p0_1:Bh)(p0_2:A8)(p2:List BT):Option (Int×Bh×A8):=
 (Ec n p0_2).bind fun y1=>
 cond (!decide (y1.1=0))
 (
  none)
 (
  (BN p2 (wI ((p2.length:Int)-1))).bind fun x1=>
  (Le y1.2.rcnt p0_1.gen 0 (⟨x1.page,x1.tag⟩:Bb)).bind fun y2=>
  cond (!decide (y2.2=0))
  (
   none)
  (
   (JG n y2.1).bind fun y3=>
   (V4 y2.1.cnt 2).bind fun q1=>
   (Hi n T p0_1 y1.2 q1.toUInt32 y3.1).bind fun y4=>
   cond (!decide (y4.2.1=0))
   (
    none)
   (
    (Ec n y4.2.2.2).bind fun y5=>
    cond (!decide (y5.1=0))
    (
     none)
    (
     (Ew y5.2 y4.1).bind fun y6=>
     some (y6.1,y4.2.2.1,y6.2)))))
theorem Qw{n Ap BO CS:Nat}{T:List UInt32}{Ad A3 EB Bg CT Bv Bw Bx GK:Value}{p0:Dy}{p0_1:Bh}{p0_2:A8}{p2:List BT}{r:Int×Bh×A8}(h:EK n T p0 p0_1 p0_2 p2=some r)(hT:I9 K w0 2 64 T)(hs2_:CG K w0 AT 3 GK p2):zC K w0 73 [vP Ap 0,zN,GK] [AK Ap (.cells #[vP BO 0,Ad,A3,EB,vB p0.bad] 122),AC 35 4 Ad AX p0.rows,AC 190 3 A3 AT p0.had,AC 33 1 EB BW p0.gens,AK BO (.cells #[vP CS 0,Bg,Z p0_1.gen,Z p0_1.boot,AV p0_1.num,CT] 153),AC 114 2 Bg AY p0_1.ring,AC 4 1 CT eB p0_1.taken,AK CS (.cells #[Bv,Bw,Bx,AV p0_2.rcnt,vS p0_2.rtag,Z p0_2.rboots,vI p0_2.left,vB p0_2.off] 107),AC 9 1 Bv eS p0_2.blk,AC 9 1 Bw eS p0_2.pnd,AC 4 1 Bx eB p0_2.bads] H (fun u M=>u=vI r.1∧M=[AK Ap (.cells #[vP BO 0,Ad,A3,EB,vB p0.bad] 122),AC 35 4 Ad AX p0.rows,AC 190 3 A3 AT p0.had,AC 33 1 EB BW p0.gens,AK BO (.cells #[vP CS 0,Bg,Z r.2.1.gen,Z r.2.1.boot,AV r.2.1.num,CT] 153),AC 114 2 Bg AY r.2.1.ring,AC 4 1 CT eB r.2.1.taken,AK CS (.cells #[Bv,Bw,Bx,AV r.2.2.rcnt,vS r.2.2.rtag,Z r.2.2.rboots,vI r.2.2.left,vB r.2.2.off] 107),AC 9 1 Bv eS r.2.2.blk,AC 9 1 Bw eS r.2.2.pnd,AC 4 1 Bx eB r.2.2.bads]):=by
 unfold EK at h
 refine T6.enter Tryz.func73 rfl rfl ?_
 refine Y (U E (V (Y ?_)))
 refine AE h fun y1 hy1 h=>?_
 refine J E (AU E E (AF E KU (AG 0 Np E (AU E E (AF E PF (AG 4 Ye E (SL.pick [7,8,9,10,0,1,2,3,4,5,6] 11 ?_)))))))
 refine AM 4 aY (Je hy1) E (U E (V (AH (Y (J E (AA E BG (V ?_)))))))
 refine AP h E (fun hc1 h=>?_) fun hc1 h=>?_
 cases h
 refine AJ (AI (AH ?_))
 refine AE h fun x1 hx1 h=>?_
 refine AE h fun y2 hy2 h=>?_
 refine A2 DE [0,4,8] (CK [(true,0),(true,1),(true,2),(true,3),(true,4),(true,5),(true,6),(true,7),(true,8),(true,9),(true,10),(true,11),(true,12),(true,13),(true,14),(true,15),(true,16),(true,17),(true,18),(true,19),(true,20),(true,21),(true,22),(true,23),(true,24),(true,25),(true,26)] (.alt 27 (CK [(true,28),(true,29),(true,30),(false,31),(false,32)] (.last 33 .nil)) (.cons (false,31) (CK [(false,27),(true,28),(true,29),(true,30),(false,32)] (.last 33 .nil))))) zK (J E (AU E E (AF E KU (AG 1 Np E (AU E E (AF E PF (AG 2 Ye E ?_)))))))
 refine AU E E (AF E Lh (AF E Pp (AG 0 FX E (J E (AU E E (AF E KU (AG 1 Np E ?_)))))))
 refine AU E E (AF E X9 (AG 2 A6 E (J E (H9 E C4 E (J E (J E (CF hs2_ E Kf E ?_)))))))
 refine AA E Dn ?_
 refine DF hx1 hs2_ E Kf Ke E E fun be1 of1 hc2=>?_
 refine AF E KW ?_
 refine Aw [Z x1.page,vS x1.tag] E C6 E E (Xz (d:=1) hc2 E) ?_
 refine Ql ?_ ?_
 refine Bf 0 gd ((Tp hy2 :)) E ⟨⟨0,E⟩,⟨4,E⟩,⟨8,E⟩,zT⟩ (J E (Af E E E (Af E E E ?_)))
 refine Ar E LT (fun _=>⟨⟨1,E⟩,⟨5,E⟩,⟨9,E⟩,zT⟩) fun b1=>?_
 refine A7 0 E E E E NG E E E ⟨⟨1,E⟩,⟨5,E⟩,⟨9,E⟩,zT⟩ (Bk (U E (V (AH (Y (J E (AA E BG (V ?_))))))))
 refine AP h E (fun hc3 h=>?_) fun hc3 h=>?_
 cases h
 refine AJ (AI (Y ?_))
 refine AE h fun y3 hy3 h=>?_
 refine Aw [AV y2.1.cnt,Z y2.1.gen,Z y2.1.rows,Z y2.1.page,vS y2.1.tag] E Il E E (An 0 E) (AM 0 ge ((Ra hy3 :)) E (J E (Af E E E (Af E E E (U E (U E (V (AH ?_))))))))
 refine AE h fun q1 hq1 h=>?_
 refine AE h fun y4 hy4 h=>?_
 refine A2 DE [0,5] (CK [(true,0),(true,1),(true,2),(true,3),(true,4),(true,5),(true,6),(true,7),(true,8),(false,9),(false,10),(true,11),(true,12),(false,13)] (.last 14 .nil)) zK (J E (AU E E (AF E KU (AG 1 Np E (AF E Li (AG 0 FX E ?_))))))
 refine AA E (Pb (b:=2) hq1) ?_
 refine BM E E (NU DL CP) (J E (SL.pick [9,10,11,1,2,3,4,0,5,6,7,8] 12 (Bf 7 gf (N3 hy4 hT) E ⟨⟨7,E⟩,⟨8,E⟩,zT⟩ (J E (Af E E E (Af E E E (U E (Bk ?_))))))))
 refine U E (V (AH (Y (J E (AA E BG (V ?_))))))
 refine AP h E (fun hc4 h=>?_) fun hc4 h=>?_
 cases h
 refine AJ (AI (Y ?_))
 refine AE h fun y5 hy5 h=>?_
 refine J E (AU E E (AF E KU (AG 8 Np E (AU E E (AF E PF (AG 0 Ye E (SL.pick [3,4,5,6,0,1,2] 7 ?_)))))))
 refine AM 4 aY (Je hy5) E (U E (V (AH (Y (J E (AA E BG (V ?_)))))))
 refine AP h E (fun hc5 h=>?_) fun hc5 h=>?_
 cases h
 refine AJ (AI (Y ?_))
 refine AE h fun y6 hy6 h=>?_
 refine J E (AU E E (AF E KU (AG 8 Np E (AU E E (AF E PF (AG 4 Ye E (J E ?_)))))))
 refine AM 4 gg (MW hy6) E (U E (V (AL ?_)))
 obtain rfl:=zI h
 exact AW [8,9,10,11,4,5,6,0,1,2,3] 12 E E E
 refine Ar E LT (fun _=>⟨⟨1,E⟩,⟨5,E⟩,⟨9,E⟩,zT⟩) fun b1=>?_
 refine Bf 0 gd ((Tp hy2 :)) E ⟨⟨1,E⟩,⟨5,E⟩,⟨9,E⟩,zT⟩ (J E (Af E E E (Af E E E (A7 0 E E E E NG E E E ⟨⟨1,E⟩,⟨5,E⟩,⟨9,E⟩,zT⟩ (Bk (U E (V (AH (Y (J E (AA E BG (V ?_))))))))))))
 refine AP h E (fun hc3 h=>?_) fun hc3 h=>?_
 cases h
 refine AJ (AI (Y ?_))
 refine AE h fun y3 hy3 h=>?_
 refine Aw [AV y2.1.cnt,Z y2.1.gen,Z y2.1.rows,Z y2.1.page,vS y2.1.tag] E Il E E (An 0 E) (AM 0 ge ((Ra hy3 :)) E (J E (Af E E E (Af E E E (U E (U E (V (AH ?_))))))))
 refine AE h fun q1 hq1 h=>?_
 refine AE h fun y4 hy4 h=>?_
 refine A2 DE [0,5] (CK [(true,0),(true,1),(true,2),(true,3),(true,4),(true,5),(true,6),(true,7),(true,8),(false,9),(false,10),(true,11),(true,12),(false,13)] (.last 14 .nil)) zK (J E (AU E E (AF E KU (AG 1 Np E (AF E Li (AG 0 FX E ?_))))))
 refine AA E (Pb (b:=2) hq1) ?_
 refine BM E E (NU DL CP) (J E (SL.pick [9,10,11,1,2,3,4,0,5,6,7,8] 12 (Bf 7 gf (N3 hy4 hT) E ⟨⟨7,E⟩,⟨8,E⟩,zT⟩ (J E (Af E E E (Af E E E (U E (Bk ?_))))))))
 refine U E (V (AH (Y (J E (AA E BG (V ?_))))))
 refine AP h E (fun hc4 h=>?_) fun hc4 h=>?_
 cases h
 refine AJ (AI (Y ?_))
 refine AE h fun y5 hy5 h=>?_
 refine J E (AU E E (AF E KU (AG 8 Np E (AU E E (AF E PF (AG 0 Ye E (SL.pick [3,4,5,6,0,1,2] 7 ?_)))))))
 refine AM 4 aY (Je hy5) E (U E (V (AH (Y (J E (AA E BG (V ?_)))))))
 refine AP h E (fun hc5 h=>?_) fun hc5 h=>?_
 cases h
 refine AJ (AI (Y ?_))
 refine AE h fun y6 hy6 h=>?_
 refine J E (AU E E (AF E KU (AG 8 Np E (AU E E (AF E PF (AG 4 Ye E (J E ?_)))))))
 refine AM 4 gg (MW hy6) E (U E (V (AL ?_)))
 obtain rfl:=zI h
 exact AW [8,9,10,11,4,5,6,0,1,2,3] 12 E E E
def IT(p0:Dy)(p2:List BT)(l1:List UInt32)(o1:Bh):Option (Dy×Bh):=
 some ({ p0 with rows:=[],had:=p2,gens:=l1 },o1)
def HG(p0:Dy)(p2:List BT)(l1:List UInt32)(nx_f_ref16_Store_moved_l2:Bh×Int→Option (Dy×Bh))(o2:Bh)(a3:Int):Option (Dy×Bh):=
 cond (decide (a3<(p0.had.length:Int)))
 (
  none)
 (
  IT p0 p2 l1 o2)
def IU(p0:Dy)(p2:List BT)(l1:List UInt32):Nat→(Bh×Int)→Option (Dy×Bh):=CO fun nx x=>HG p0 p2 l1 nx x.1 x.2
def IR(n:Nat)(p0:Dy)(p0_1:Bh)(p2:List BT)(l1:List UInt32):Option (Dy×Bh):=
 IU p0 p2 l1 n (p0_1,0)
def IS(l2:List UInt32)(a1:Int)(nx_f_ref16_Store_moved_l1:List UInt32×Int→Option (Dy×Bh))(a2:UInt32):Option (Dy×Bh):=
 (DO 4 l2 [a2]).bind fun l3=>
 ret (wI (a1+1)) fun i_1=>
 nx_f_ref16_Store_moved_l1 (l3,i_1)
def HF(n:Nat)(p0:Dy)(p0_1:Bh)(p2:List BT)(nx_f_ref16_Store_moved_l1:List UInt32×Int→Option (Dy×Bh))(l2:List UInt32)(a1:Int):Option (Dy×Bh):=
 cond (decide (a1<(p2.length:Int)))
 (
  (BN p2 a1).bind fun x1=>
  (PB n p0.had x1.page).bind fun y1=>
  (Fk (decide (0≤y1)) ((BN p0.had y1).bind fun x2=>(BN p2 a1).bind fun x3=>some (decide (x2.txt=x3.txt)&&(decide (x2.page=x3.page)&&(decide (x2.tag=x3.tag)&&true))))).bind fun y2=>
  cond y2
  (
   none)
  (
   IS l2 a1 nx_f_ref16_Store_moved_l1 p0_1.gen))
 (
  IR n p0 p0_1 p2 l2)
def F2(n:Nat)(p0:Dy)(p0_1:Bh)(p2:List BT):Nat→(List UInt32×Int)→Option (Dy×Bh):=CO fun nx x=>HF n p0 p0_1 p2 nx x.1 x.2
def KO(n:Nat)(p0:Dy)(p0_1:Bh)(p0_2:A8)(p2:List BT):Option (Dy×Bh):=
 F2 n p0 p0_1 p2 n ([],0)
theorem SP{n Ap BO CS:Nat}{Ad A3 EB Bg CT Bv Bw Bx GK:Value}{p0:Dy}{p0_1:Bh}{p0_2:A8}{p2:List BT}{r:Dy×Bh}(h:KO n p0 p0_1 p0_2 p2=some r): zC K w0 74 [vP Ap 0,zN,GK] [AK Ap (.cells #[vP BO 0,Ad,A3,EB,vB p0.bad] 122),AC 35 4 Ad AX p0.rows,AC 190 3 A3 AT p0.had,AC 33 1 EB BW p0.gens,AK BO (.cells #[vP CS 0,Bg,Z p0_1.gen,Z p0_1.boot,AV p0_1.num,CT] 153),AC 114 2 Bg AY p0_1.ring,AC 4 1 CT eB p0_1.taken,AK CS (.cells #[Bv,Bw,Bx,AV p0_2.rcnt,vS p0_2.rtag,Z p0_2.rboots,vI p0_2.left,vB p0_2.off] 107),AC 9 1 Bv eS p0_2.blk,AC 9 1 Bw eS p0_2.pnd,AC 4 1 Bx eB p0_2.bads,AC 190 3 GK AT p2] H (fun u M=>∃vs0_0_1 vs0_0_2 vs0_0_3:Value,u=.tuple #[]∧M=[AK Ap (.cells #[vP BO 0,vs0_0_1,vs0_0_2,vs0_0_3,vB r.1.bad] 122),AC 35 4 vs0_0_1 AX r.1.rows,AC 190 3 vs0_0_2 AT r.1.had,AC 33 1 vs0_0_3 BW r.1.gens,AK BO (.cells #[vP CS 0,Bg,Z r.2.gen,Z r.2.boot,AV r.2.num,CT] 153),AC 114 2 Bg AY r.2.ring,AC 4 1 CT eB r.2.taken,AK CS (.cells #[Bv,Bw,Bx,AV p0_2.rcnt,vS p0_2.rtag,Z p0_2.rboots,vI p0_2.left,vB p0_2.off] 107),AC 9 1 Bv eS p0_2.blk,AC 9 1 Bw eS p0_2.pnd,AC 4 1 Bx eB p0_2.bads]):=by
 unfold KO at h
 refine T6.enter Tryz.func74 rfl rfl ?_
 refine Y (B5 33 1 BW (U E (V ?_)))
 refine BB (α:=List UInt32×Value) (fun x=>IR n p0 p0_1 p2 x.1=some r) (fun x=>[(0,vP Ap 0),(1,zN),(2,GK),(6,x.2)]) (fun x=>AK Ap (.cells #[vP BO 0,Ad,A3,EB,vB p0.bad] 122)::AK BO (.cells #[vP CS 0,Bg,Z p0_1.gen,Z p0_1.boot,AV p0_1.num,CT] 153)::AK CS (.cells #[Bv,Bw,Bx,AV p0_2.rcnt,vS p0_2.rtag,Z p0_2.rboots,vI p0_2.left,vB p0_2.off] 107)::AC 9 1 Bv eS p0_2.blk::AC 9 1 Bw eS p0_2.pnd::AC 4 1 Bx eB p0_2.bads::AC 114 2 Bg AY p0_1.ring::AC 4 1 CT eB p0_1.taken::AC 35 4 Ad AX p0.rows::AC 190 3 A3 AT p0.had::AC 33 1 EB BW p0.gens::AC 190 3 GK AT p2::AC 33 1 x.2 BW x.1::H) ?_ (fun x D h=>?_)
 refine Y (U E (V (AQ ?_)))
 refine SX.heap (SX.mono (BU (α:=Nat×List UInt32×Value×Int) (fun x=>F2 n p0 p0_1 p2 x.1 (x.2.1,x.2.2.2)=some r) (fun x=>[(0,vP Ap 0),(1,zN),(2,GK),(6,x.2.2.1),(7,vI x.2.2.2)]) (fun x=>AK Ap (.cells #[vP BO 0,Ad,A3,EB,vB p0.bad] 122)::AK BO (.cells #[vP CS 0,Bg,Z p0_1.gen,Z p0_1.boot,AV p0_1.num,CT] 153)::AK CS (.cells #[Bv,Bw,Bx,AV p0_2.rcnt,vS p0_2.rtag,Z p0_2.rboots,vI p0_2.left,vB p0_2.off] 107)::AC 9 1 Bv eS p0_2.blk::AC 9 1 Bw eS p0_2.pnd::AC 4 1 Bx eB p0_2.bads::AC 114 2 Bg AY p0_1.ring::AC 4 1 CT eB p0_1.taken::AC 35 4 Ad AX p0.rows::AC 190 3 A3 AT p0.had::AC 33 1 EB BW p0.gens::AC 190 3 GK AT p2::AC 33 1 x.2.2.1 BW x.2.1::H) (fun x=>x.1) (fun x D h=>?_) (n,[],zN,0) h) tL) (BX [1,5,8,9,10,11,6,7,2,3,4,12,0] 13 E E E)
 obtain⟨m1,l2,v2,a1⟩:=x
 dsimp only at h
 rcases m1 with _ | m1
 cases (show(none:Option _)=some r from h)
 replace h:HF n p0 p0_1 p2 (F2 n p0 p0_1 p2 m1) l2 a1=some r:=h
 unfold HF at h
 try dsimp only
 refine AH (Y (J E (J E (Di 11 E Kf E E (AA E BD (V ?_))))))
 refine AP h E (fun hc1 h=>?_) fun hc1 h=>?_
 refine AJ (AI (AH (AQ (AH ?_))))
 refine AE h fun x1 hx1 h=>?_
 refine AE h fun y1 hy1 h=>?_
 refine A2 DE [0,11] (CK [(true,0),(true,1),(true,2),(true,3),(true,4),(true,5),(true,6),(true,7),(true,8),(true,9)] (.last 10 (C3 [(false,11)]))) zK (J E (AU E E (AF E VG (AG 0 Qf E (J E (J E ?_))))))
 refine CL 11 hx1 E Kf Ke E E E fun g1 m2 cp1 hv1=>?_
 refine AF E KW (AF E FW ?_)
 refine B0 E A6 E (CD (sz:=3) (enc:=AT) 1 1 zV E hv1 hx1 E) ?_
 refine Bk (SL.pick [9,0,1,2,3,4,5,6,7,8] 10 ?_)
 refine Bo (vs:=[_,_]) (Hin:=[_]) (Hr:=_::_::_::_::_::_::_::_::_::_::_::_::_) E E ⟨E,E,zT⟩ nh E E (Cl (B:=[_]) (Hin:=[]) fun K' w1 hk hB=>Xr hy1 (CY (e:=190) (v:=A3) zV (hB _ zS))) ?_
 rintro _ _ ⟨_,rfl,rfl,rfl⟩
 refine⟨trivial,?_⟩
 refine U E (V (Y (J E (AU E E (AF E KU (AG 1 Np E (AU E E (AF E X9 (AG 2 A6 E ?_)))))))))
 refine U E (V ?_)
 refine BB (α:=UInt32) (fun x=>IS l2 a1 (F2 n p0 p0_1 p2 m1) x=some r) (fun x=>[(0,vP Ap 0),(1,zN),(2,GK),(6,v2),(7,vI a1),(9,Z x)]) (fun x=>AK Ap (.cells #[vP BO 0,Ad,A3,EB,vB p0.bad] 122)::AK BO (.cells #[vP CS 0,Bg,Z p0_1.gen,Z p0_1.boot,AV p0_1.num,CT] 153)::AK CS (.cells #[Bv,Bw,Bx,AV p0_2.rcnt,vS p0_2.rtag,Z p0_2.rboots,vI p0_2.left,vB p0_2.off] 107)::AC 9 1 Bv eS p0_2.blk::AC 9 1 Bw eS p0_2.pnd::AC 4 1 Bx eB p0_2.bads::AC 114 2 Bg AY p0_1.ring::AC 4 1 CT eB p0_1.taken::AC 35 4 Ad AX p0.rows::AC 190 3 A3 AT p0.had::AC 33 1 EB BW p0.gens::AC 190 3 GK AT p2::AC 33 1 v2 BW l2::H) ?_ (fun a2 D h=>?_)
 refine AH ?_
 refine AE h fun y2 hy2 h=>?_
 refine A2 DE [0,1,11] (C3 [(true,0),(true,1),(true,2),(true,3),(true,4),(true,5),(true,6),(true,7),(true,8),(true,9),(true,10),(true,11),(true,12),(true,13),(true,14),(true,15)]) zK (J E (AA E LU (J E ?_)))
 refine DT 37 13 50 hy2 E (fun hb hg1 k=>?_) (fun hb k=>?_) ?_
 obtain⟨x2,hx2,hg1⟩:=D6 hg1
 obtain⟨x3,hx3,hg1⟩:=D6 hg1
 obtain rfl:=zI hg1
 refine J E (AU E E (AF E VG (AG 1 Qf E (J E ?_))))
 refine CL 0 hx2 E Kf Ke E E E fun g2 m3 cp2 hv2=>?_
 refine Aw (AT x2) E R5 E E (MX (sz:=3) (enc:=AT) 0 zV E hv2 hx2) ?_
 refine J E (J E ?_)
 refine CL 11 hx3 E Kf Ke E E E fun g3 m4 cp3 hv3=>?_
 refine Aw (AT x3) E R5 E E (MX (sz:=3) (enc:=AT) 2 zV E hv3 hx3) ?_
 refine XO E (show dM Tryz.prog 190=some [(0,.string),(1,.int .u32),(2,.string)] by kernel_rfl) E E (Cj E E (UJ (a:=x2.txt) (b:=x3.txt)) (Cj E E (Kr (a:=x2.page) (b:=x3.page)) (Cj E E (UJ (a:=x2.tag) (b:=x3.tag)) KT))) ?_
 refine Ag E E E ?_
 exact k.mono tL
 refine AB E (AB E (AB E (AB E (AB E (AB E (AB E (AB E ?_)))))))
 refine AB E (AB E (AB E (AB E (Ag E E E ?_))))
 exact k.mono tL
 refine V ?_
 refine AP h E (fun hc2 h=>?_) fun hc2 h=>?_
 cases h
 refine AJ ?_
 exact Az p0_1.gen h tL (BX [1,2,3,4,5,6,7,8,9,0,10,11,12] 13 E E E)
 unfold IS at h
 try dsimp only
 refine AS ?_
 refine AE h fun l3 hl3 h=>?_
 refine J E (J E ?_)
 refine CE [_] rfl CR Bq H4 ⟨rfl,trivial⟩ rfl rfl rfl zW rfl rfl zU fun b1=>?_
 refine CJ BW 1 ([a2]:List UInt32) E zV E ?_
 refine Cr 13 hl3 (sz:=1) (enc:=BW) zV E CR Bq QP H4 E zD E E E E (CM (sz:=1) (enc:=BW) 0 zV E) (by simp[BW,Value.oneCell']) zU fun v3=>?_
 refine U E (Aa (Ay (AI (AS ?_))))
 obtain⟨i_1,ei_1,h⟩:=By h
 refine J E (AA E Bu ?_)
 refine Aq (u:=vI i_1) E E (congrArg vI ei_1) ?_
 refine Aa ?_
 exact A1 (m1,l3,v3,i_1) h (Nat.lt_succ_self _) tL (BX [1,2,3,4,5,6,7,8,9,10,11,12,13] 14 E E E)
 refine A4 (A9 (Bi (BA ?_)))
 exact Az (l2,v2) h tL (BX [0,1,2,3,4,5,6,7,8,9,10,11,12] 13 E E E)
 obtain⟨l1,v1⟩:=x
 dsimp only at h
 unfold IR at h
 try dsimp only
 refine BB (α:=Bh) (fun x=>IT p0 p2 l1 x=some r) (fun x=>[(0,vP Ap 0),(1,zN),(2,GK),(6,v1)]) (fun x=>AK Ap (.cells #[vP BO 0,Ad,A3,EB,vB p0.bad] 122)::AK BO (.cells #[vP CS 0,Bg,Z x.gen,Z x.boot,AV x.num,CT] 153)::AK CS (.cells #[Bv,Bw,Bx,AV p0_2.rcnt,vS p0_2.rtag,Z p0_2.rboots,vI p0_2.left,vB p0_2.off] 107)::AC 9 1 Bv eS p0_2.blk::AC 9 1 Bw eS p0_2.pnd::AC 4 1 Bx eB p0_2.bads::AC 114 2 Bg AY x.ring::AC 4 1 CT eB x.taken::AC 35 4 Ad AX p0.rows::AC 190 3 A3 AT p0.had::AC 33 1 EB BW p0.gens::AC 190 3 GK AT p2::AC 33 1 v1 BW l1::H) ?_ (fun o1 D h=>?_)
 refine Y (U E (V (AQ ?_)))
 refine SX.heap (SX.mono (BU (α:=Nat×Bh×Int) (fun x=>IU p0 p2 l1 x.1 (x.2.1,x.2.2)=some r) (fun x=>[(0,vP Ap 0),(1,zN),(2,GK),(6,v1),(10,vI x.2.2)]) (fun x=>AK Ap (.cells #[vP BO 0,Ad,A3,EB,vB p0.bad] 122)::AK BO (.cells #[vP CS 0,Bg,Z x.2.1.gen,Z x.2.1.boot,AV x.2.1.num,CT] 153)::AK CS (.cells #[Bv,Bw,Bx,AV p0_2.rcnt,vS p0_2.rtag,Z p0_2.rboots,vI p0_2.left,vB p0_2.off] 107)::AC 9 1 Bv eS p0_2.blk::AC 9 1 Bw eS p0_2.pnd::AC 4 1 Bx eB p0_2.bads::AC 114 2 Bg AY x.2.1.ring::AC 4 1 CT eB x.2.1.taken::AC 35 4 Ad AX p0.rows::AC 190 3 A3 AT p0.had::AC 33 1 EB BW p0.gens::AC 190 3 GK AT p2::AC 33 1 v1 BW l1::H) (fun x=>x.1) (fun x D h=>?_) (n,p0_1,0) h) tL) (BX [0,1,2,3,4,5,6,7,8,9,10,11,12] 13 E E E)
 obtain⟨m5,o2,a3⟩:=x
 dsimp only at h
 rcases m5 with _ | m5
 cases (show(none:Option _)=some r from h)
 replace h:HG p0 p2 l1 (IU p0 p2 l1 m5) o2 a3=some r:=h
 unfold HG at h
 try dsimp only
 refine AH (Y (J E (J E (AU E E (AF E VG (AG 0 Qf E (Di 9 E Kf E E (AA E BD (V ?_)))))))))
 refine AP h E (fun hc3 h=>?_) fun hc3 h=>?_
 cases h
 refine A4 (A9 (Bi (BA ?_)))
 exact Az o2 h tL (BX [0,1,2,3,4,5,6,7,8,9,10,11,12] 13 E E E)
 unfold IT at h
 try dsimp only
 refine Y (J E (J E (AU E E (AF E lS (A7 0 E E E E JP E E E zT (B5 35 4 AX (V (Y (J E (J E ?_))))))))))
 refine AU E E (AF E VG ?_)
 refine Cu 12 E fun hv4 ho1=>?_
 refine Du 1 E E E E md hv4 ho1 E zT (V (AS (J E (J E (AU E E (AF E lT ?_))))))
 refine Cu 13 E fun hv5 ho2=>?_
 refine Du 1 E E E E gE hv5 ho2 E zT (Aa ?_)
 obtain rfl:=zI h
 exact C9 (Dh E) (Ak (M:=[_,_,_,_,_,_,_,_,_,_,_]) ⟨zN,GK,v1,E,E⟩ fun _ hw=>Bc.pick (H:=[_,_,_,_,_,_,_,_,_,_,_,_,_,_]) hw [1,0,12,13,2,7,8,3,4,5,6] 14 E)
def Hz(n:Nat)(p0:Dy)(y1:List BT×Int×Bh×A8)(o1:Bh)(o2:A8)(a1:Int):Option (Int×Dy×Bh×A8):=
 cond (!decide (a1=0))
 (
  none)
 (
  (KO n p0 o1 o2 y1.1).bind fun y3=>
  some (0,y3.1,y3.2,o2))
def FU(n:Nat)(T:List UInt32)(p0:Dy)(p0_1:Bh)(p0_2:A8):Option (Int×Dy×Bh×A8):=
 (Ld n T p0_1 p0_2).bind fun y1=>
 cond (decide (y1.2.1=0))
 (
  (EK n T p0 y1.2.2.1 y1.2.2.2 y1.1).bind fun y2=>
  Hz n p0 y1 y2.2.1 y2.2.2 y2.1)
 (
  none)
theorem Rq{n Ap BO CS:Nat}{T:List UInt32}{Ad A3 EB Bg CT Bv Bw Bx:Value}{p0:Dy}{p0_1:Bh}{p0_2:A8}{r:Int×Dy×Bh×A8}(h:FU n T p0 p0_1 p0_2=some r)(hT:I9 K w0 2 64 T):zC K w0 50 [vP Ap 0,zN,zN] [AK Ap (.cells #[vP BO 0,Ad,A3,EB,vB p0.bad] 122),AC 35 4 Ad AX p0.rows,AC 190 3 A3 AT p0.had,AC 33 1 EB BW p0.gens,AK BO (.cells #[vP CS 0,Bg,Z p0_1.gen,Z p0_1.boot,AV p0_1.num,CT] 153),AC 114 2 Bg AY p0_1.ring,AC 4 1 CT eB p0_1.taken,AK CS (.cells #[Bv,Bw,Bx,AV p0_2.rcnt,vS p0_2.rtag,Z p0_2.rboots,vI p0_2.left,vB p0_2.off] 107),AC 9 1 Bv eS p0_2.blk,AC 9 1 Bw eS p0_2.pnd,AC 4 1 Bx eB p0_2.bads] H (fun u M=>∃vs0_0_1 vs0_0_2 vs0_0_3:Value,u=vI r.1∧M=[AK Ap (.cells #[vP BO 0,vs0_0_1,vs0_0_2,vs0_0_3,vB r.2.1.bad] 122),AC 35 4 vs0_0_1 AX r.2.1.rows,AC 190 3 vs0_0_2 AT r.2.1.had,AC 33 1 vs0_0_3 BW r.2.1.gens,AK BO (.cells #[vP CS 0,Bg,Z r.2.2.1.gen,Z r.2.2.1.boot,AV r.2.2.1.num,CT] 153),AC 114 2 Bg AY r.2.2.1.ring,AC 4 1 CT eB r.2.2.1.taken,AK CS (.cells #[Bv,Bw,Bx,AV r.2.2.2.rcnt,vS r.2.2.2.rtag,Z r.2.2.2.rboots,vI r.2.2.2.left,vB r.2.2.2.off] 107),AC 9 1 Bv eS r.2.2.2.blk,AC 9 1 Bw eS r.2.2.2.pnd,AC 4 1 Bx eB r.2.2.2.bads]):=by
 unfold FU at h
 refine T6.enter Tryz.func50 rfl rfl ?_
 refine Y (U E (V (Y ?_)))
 refine AE h fun y1 hy1 h=>?_
 refine J E (AU E E (AF E KU (AG 0 Np E (J E (J E (SL.pick [4,5,6,7,8,9,10,0,1,2,3] 11 (BY 7 q9 (Y1 hy1 hT) E ?_)))))))
 rintro _ _ ⟨v1,rfl,rfl⟩
 refine J E (Af E E E (Af E E E (U E (U E (V ?_)))))
 refine BB (α:=Bh×A8×Int) (fun x=>Hz n p0 y1 x.1 x.2.1 x.2.2=some r) (fun x=>[(0,vP Ap 0),(1,zN),(7,v1),(8,vI x.2.2)]) (fun x=>AK Ap (.cells #[vP BO 0,Ad,A3,EB,vB p0.bad] 122)::AK BO (.cells #[vP CS 0,Bg,Z x.1.gen,Z x.1.boot,AV x.1.num,CT] 153)::AK CS (.cells #[Bv,Bw,Bx,AV x.2.1.rcnt,vS x.2.1.rtag,Z x.2.1.rboots,vI x.2.1.left,vB x.2.1.off] 107)::AC 9 1 Bv eS x.2.1.blk::AC 9 1 Bw eS x.2.1.pnd::AC 4 1 Bx eB x.2.1.bads::AC 114 2 Bg AY x.1.ring::AC 4 1 CT eB x.1.taken::AC 35 4 Ad AX p0.rows::AC 190 3 A3 AT p0.had::AC 33 1 EB BW p0.gens::AC 190 3 v1 AT y1.1::H) ?_ (fun x D h=>?_)
 refine Y (J E (AA E BS (V ?_)))
 refine AP h E (fun hc1 h=>?_) fun hc1 h=>?_
 refine AS ?_
 refine AE h fun y2 hy2 h=>?_
 refine J E (J E (J E (SL.pick [0,8,9,10,11,1,2,3,4,5,6,7] 12 ?_)))
 refine Bo (vs:=[_,_,_]) (Hin:=[_,_,_,_,_,_,_,_,_,_,_,_]) (Hr:=_) E E ⟨E,E,E,zT⟩ rA E E (Cl (B:=[_]) (Hin:=[_,_,_,_,_,_,_,_,_,_,_]) fun K' w1 hk hB=>Qw hy2 (hT.keeps hk) (CY (e:=190) (v:=v1) zV (hB _ zS))) ?_
 rintro _ _ ⟨_,rfl,rfl,rfl⟩
 refine⟨trivial,?_⟩
 refine U E (Aa ?_)
 exact Az (y2.2.1,y2.2.2,y2.1) h tL (BX [1,5,8,9,10,11,6,7,2,3,4,0] 12 E E E)
 cases h
 obtain⟨o1,o2,a1⟩:=x
 dsimp only at h
 unfold Hz at h
 try dsimp only
 refine AH (Y (J E (AA E BG (V ?_))))
 refine AP h E (fun hc2 h=>?_) fun hc2 h=>?_
 cases h
 refine AJ (AI (Y ?_))
 refine AE h fun y3 hy3 h=>?_
 refine J E (J E (J E (SL.pick [0,8,9,10,1,6,7,2,3,4,5,11] 12 (BY 12 rB (SP hy3) E ?_))))
 rintro _ _ ⟨v2,v3,v4,rfl,rfl⟩
 refine V (Y (U E (V (AL ?_))))
 obtain rfl:=zI h
 exact Bp [0,1,2,3,4,5,6,7,8,9,10] 11 (Cn E E) E E ⟨v2,v3,v4,E,E⟩
def JH(n:Nat)(T:List UInt32)(p0:A8)(p1:List BV):Option (Option (Dy×Bh)×Int×A8):=
 (JE n p1).bind fun y1=>
 cond (!decide (y1.2=0))
 (
  none)
 (
  (Ny p0).bind fun y2=>
  cond y2
  (
   none)
  (
   (G9 p0).bind fun y3=>
   cond (!decide (y3.2.1=0))
   (
    none)
   (
    (M4 n y3.2.2 p1 y1.1 y3.1).bind fun y4=>
    (y4.1).bind fun d1=>
    (FU n T ({ rows:=[],had:=[],gens:=[],bad:=false }:Dy) d1 y3.2.2).bind fun y5=>
    cond (!decide (y5.1=0))
    (
     none)
    (
     some (some (y5.2.1,y5.2.2.1),0,y5.2.2.2)))))
theorem Wv{n Ap:Nat}{T:List UInt32}{Am Ad A3 Em:Value}{p0:A8}{p1:List BV}{r:Option (Dy×Bh)×Int×A8}(h:JH n T p0 p1=some r)(hT:I9 K w0 2 64 T):zC K w0 29 [vP Ap 0,Em] [AK Ap (.cells #[Am,Ad,A3,AV p0.rcnt,vS p0.rtag,Z p0.rboots,vI p0.left,vB p0.off] 107),AC 9 1 Am eS p0.blk,AC 9 1 Ad eS p0.pnd,AC 4 1 A3 eB p0.bads,AC 114 2 Em AY p1] H (fun u M=>(r.1=none∧u=.tuple #[.pointer none,vI r.2.1]∧M=[AK Ap (.cells #[Am,Ad,A3,AV r.2.2.rcnt,vS r.2.2.rtag,Z r.2.2.rboots,vI r.2.2.left,vB r.2.2.off] 107),AC 9 1 Am eS r.2.2.blk,AC 9 1 Ad eS r.2.2.pnd,AC 4 1 A3 eB r.2.2.bads])∨(∃(d:Dy×Bh) (bn0:Nat) (vn0x1:Value) (vn0x2:Value) (vn0x3:Value) (bn1:Nat) (vn1x1:Value) (vn1x5:Value),r.1=some d∧u=.tuple #[vP bn0 0,vI r.2.1]∧M=[AK bn0 (.cells #[vP bn1 0,vn0x1,vn0x2,vn0x3,vB d.1.bad] 122),AC 35 4 vn0x1 AX d.1.rows,AC 190 3 vn0x2 AT d.1.had,AC 33 1 vn0x3 BW d.1.gens,AK bn1 (.cells #[vP Ap 0,vn1x1,Z d.2.gen,Z d.2.boot,AV d.2.num,vn1x5] 153),AC 114 2 vn1x1 AY d.2.ring,AC 4 1 vn1x5 eB d.2.taken,AK Ap (.cells #[Am,Ad,A3,AV r.2.2.rcnt,vS r.2.2.rtag,Z r.2.2.rboots,vI r.2.2.left,vB r.2.2.off] 107),AC 9 1 Am eS r.2.2.blk,AC 9 1 Ad eS r.2.2.pnd,AC 4 1 A3 eB r.2.2.bads])):=by
 unfold JH at h
 refine T6.enter Tryz.func29 rfl rfl ?_
 refine Y (U E (U E (V (Y ?_))))
 refine AE h fun y1 hy1 h=>?_
 refine J E (SL.pick [4,0,1,2,3] 5 ?_)
 refine Bo (vs:=[_]) (Hin:=[_]) (Hr:=_::_::_::_::_) E E ⟨E,zT⟩ qm E E (Cl (B:=[_]) (Hin:=[]) fun K' w1 hk hB=>Wt hy1 (CY (e:=114) (v:=Em) zV (hB _ zS))) ?_
 rintro _ _ ⟨_,rfl,rfl,rfl⟩
 refine⟨trivial,?_⟩
 refine J E (Af E E E (Af E E E (U E (U E (V (AH (Y (J E (AA E BG (V ?_))))))))))
 refine AP h E (fun hc1 h=>?_) fun hc1 h=>?_
 cases h
 refine AJ (AI (AH (Y ?_)))
 refine AE h fun y2 hy2 h=>?_
 refine J E (SL.pick [1,2,3,4,0] 5 (AM 4 qo (Y2 hy2) E (V ?_)))
 refine AP h E (fun hc2 h=>?_) fun hc2 h=>?_
 cases h
 refine AJ (AI (Y ?_))
 refine AE h fun y3 hy3 h=>?_
 refine J E (AM 4 qp (Rn hy3) E (J E (Af E E E (Af E E E (U E (U E (V (AH (Y (J E ?_))))))))))
 refine AA E BG (V ?_)
 refine AP h E (fun hc3 h=>?_) fun hc3 h=>?_
 cases h
 refine AJ (AI (Y ?_))
 refine AE h fun y4 hy4 h=>?_
 refine AE h fun d1 hd1 h=>?_
 refine J E (J E (J E (J E ?_)))
 refine Bo (vs:=[_,_,_,_]) (Hin:=[_,_,_,_,_]) (Hr:=_) E E ⟨E,E,E,E,zT⟩ qq E E (aM hy4) ?_
 rintro _ _ (⟨hn,-,-⟩ | ⟨d_,b1,v1,v2,hn,rfl,rfl⟩)
 rw[hd1]at hn;cases hn
 obtain rfl:d1=d_:=zI (hd1.symm.trans hn)
 refine⟨trivial,?_⟩
 refine J E (Af E E E (Af E E E (U E (U E (V (Y (J E (Bt [_] E rj rU sT ⟨E,zT⟩ E ?_))))))))
 refine Ba E E zU fun b2=>?_
 refine B5 35 4 AX (B5 190 3 AT (B5 33 1 BW (U E (V (Y ?_)))))
 refine AE h fun y5 hy5 h=>?_
 refine J E (SL.pick [3,2,1,0,4,5,6,7,8,9,10] 11 (BY 11 qr (Rq hy5 hT) E ?_))
 rintro _ _ ⟨v3,v4,v5,rfl,rfl⟩
 refine U E (V (AH (Y (J E (AA E BG (V ?_))))))
 refine AP h E (fun hc4 h=>?_) fun hc4 h=>?_
 cases h
 refine AJ (AI (Y (J E (U E (U E (V (AL ?_)))))))
 obtain rfl:=zI h
 exact Al (ET E E E) (Ak (M:=[_,_,_,_,_,_,_,_,_,_,_]) (.inr ⟨_,b2,v3,v4,v5,b1,v1,v2,E,E,E⟩) fun _ hw=>Bc.pick (H:=[_,_,_,_,_,_,_,_,_,_,_]) hw [0,1,2,3,4,5,6,7,8,9,10] 11 E)
end

section
theorem pu(x:UInt32)(n:Nat)(h:n≤32):DW x (n:Int)=some (rl x n):=by
 unfold DW
 rw[Vc,AD,DK zO zO,show(32-(n:Int))=((32-n:Nat):Int) by omega,Vc,AD]
 rfl
theorem fq(a b c d:UInt32):IK a b c d=some (Q4.quarter ⟨a,b,c,d⟩).list:=by
 have t16:∀x,DW x 16=some (rl x 16):=fun x=>pu x 16 zD
 have t12:∀x,DW x 12=some (rl x 12):=fun x=>pu x 12 zD
 have t8:∀x,DW x 8=some (rl x 8):=fun x=>pu x 8 zD
 have t7:∀x,DW x 7=some (rl x 7):=fun x=>pu x 7 zD
 simp only[IK,ret,t16,t12,t8,t7,AD]
 rfl
theorem iw(s:List UInt8)(i:Nat)(h:i+3<s.length)(hi:s.length≤1099511627776):JW s (i:Int)=some (J4 s i):=by
 unfold JW
 rw[Cw (k:=i) 0 rfl zO,AD,DK zO zO,Cw (k:=i+1) 0 zO zO,AD,
  DK zO zO,Cw (k:=i+2) 0 zO zO,AD,DK zO zO,Cw (k:=i+3) 0 zO zO,AD]
 rfl
theorem gL(c:UInt32):J4 (Fu c) 0=c:=by
 apply UInt32.toNat_inj.1
 have hc:=c.toNat_lt
 have e8:∀k,k≤32→(shr32 c k).toNat=c.toNat / 2^k:=fun k hk=>by
  simp only[shr32,UInt32.toNat_ofNat',Nat.min_eq_left hk]
  exact Nat.mod_eq_of_lt (Nat.lt_of_le_of_lt (Nat.div_le_self _ _) hc)
 have s8:∀(x:UInt8) k,k≤24→(shl32 x.toUInt32 k).toNat=x.toNat*2^k:=fun x k hk=>by
  have hx:=x.toNat_lt
  simp only[shl32,UInt32.toNat_ofNat',UInt8.toNat_toUInt32,Nat.min_eq_left (show k≤32 by omega)]
  refine Nat.mod_eq_of_lt ?_
  calc x.toNat*2^k<2^8*2^k:=Nat.mul_lt_mul_of_pos_right hx (Nat.two_pow_pos k)
   _=2^(8+k):=(Nat.pow_add 2 8 k).symm
   _≤2^32:=Nat.pow_le_pow_right zD zO
 have key:∀(a b k:Nat),a<2^k→a ||| b*2^k=a+b*2^k:=fun a b k h=>by
  rw[Nat.or_comm,Nat.mul_comm,←Nat.two_pow_add_eq_or_of_lt h,Nat.add_comm]
 show(J4 [c.toUInt8,(shr32 c 8).toUInt8,(shr32 c 16).toUInt8,(shr32 c 24).toUInt8] 0).toNat=_
 simp only[J4,Lu,List.getD_cons_zero,List.getD_cons_succ,Nat.zero_add]
 rw[UInt32.toNat_or,UInt32.toNat_or,UInt32.toNat_or,s8 _ 8 zO,s8 _ 16 zO,s8 _ 24 zO]
 simp only[UInt8.toNat_toUInt32,UInt32.toNat_toUInt8,e8 8 zO,e8 16 zO,e8 24 zO]
 rw[key _ _ 8 zO,key _ _ 16 zO,key _ _ 24 zO]
 omega
theorem mY(key:List UInt8)(counter:UInt32)(nonce:List UInt8)(hk:key.length=32)(hn:nonce.length=12){n:Nat}(hm:8<n):KJ n key counter nonce=some (HS key counter nonce):=by
 have hw:∀(s:List UInt8) (i:Nat),i<s.length / 4→(CV s).take (i+1)=(CV s).take i++[J4 s (4*i)]:=fun s i hi=>by
  rw[List.take_add_one,List.getElem?_eq_getElem (by rw[ED];exact hi)]
  simp[CV]
 have he:CV J8=[1634760805,857760878,2036477234,1797285236]:=by decide
 have hc:CV (Fu counter)=[counter]:=by
  have:CV (Fu counter)=[J4 (Fu counter) 0]:=by
   unfold CV
   rw[show(Fu counter).length=4 from rfl]
   rfl
  rw[this,gL]
 unfold KJ Jv
 have h2:Hb n counter nonce (CV J8++CV key)=some (HS key counter nonce):=by
  unfold Hb Jw
  have hlk:(CV key).length=8:=by rw[ED,hk]
  rw[DX (by simp[he,hlk]) (by simp[he,hlk]),AD]
  refine(congrArg (CO _ n) ?_).trans (Ez (fun i=>(CV J8++CV key++[counter]++(CV nonce).take i,(i:Int))) 3 (fun i hi k=>?_) (fun k=>?_) zO)
  simp
  simp only[GG,show decide ((i:Int)<3)=true by simp;omega,DB]
  rw[DK zO zO,show 4*(i:Int)=((4*i:Nat):Int) by omega,iw nonce (4*i) zO zO,AD,DX (by simp[he,hlk,ED];omega) (by simp[he,hlk,ED];omega),AD]
  simp only[ret]
  rw[DK zO zO,hw nonce i zO]
  simp
  simp only[GG,show decide (((3:Nat):Int)<3)=false by decide,CQ,Ju]
  rw[List.take_of_length_le (by have:=ED nonce;omega)]
  simp[HS,hc]
 refine(congrArg (CO _ n) ?_).trans (Ez (fun i=>(CV J8++(CV key).take i,(i:Int))) 8 (fun i hi k=>?_) (fun k=>?_) hm)
 simp[he]
 simp only[GF,show decide ((i:Int)<8)=true by simp;omega,DB]
 rw[DK zO zO,show 4*(i:Int)=((4*i:Nat):Int) by omega,iw key (4*i) zO zO,AD,DX (by simp[he,ED];omega) (by simp[he,ED];omega),AD]
 simp only[ret]
 rw[DK zO zO,hw key i zO]
 simp
 simp only[GF,show decide (((8:Nat):Int)<8)=false by decide,CQ]
 rw[List.take_of_length_le (by have:=ED key;omega)]
 exact h2
theorem sm(ws:List UInt32)(ix:Nat→Nat)(h:∀k,k<4→ix k<ws.length):DA ws (ix 0:Int) (ix 1:Int) (ix 2:Int) (ix 3:Int)=some (jl ws ix):=by
 unfold DA
 have h0:=h 0 zD
 have h1:=h 1 zD
 have h2:=h 2 zD
 have h3:=h 3 zD
 have g:∀(l:List UInt32) (k:Nat),k<l.length→BN l (k:Int)=some (l.getD k 0):=fun l k hk=>Cw 0 rfl hk
 rw[g _ _ h0,AD,g _ _ h1,AD,g _ _ h2,AD,g _ _ h3,AD,fq,AD]
 generalize hq:Q4.quarter ⟨ws.getD (ix 0) 0,ws.getD (ix 1) 0,ws.getD (ix 2) 0,ws.getD (ix 3) 0⟩=q
 have q0:BN q.list 0=some q.a:=rfl
 have q1:BN q.list 1=some q.b:=rfl
 have q2:BN q.list 2=some q.c:=rfl
 have q3:BN q.list 3=some q.d:=rfl
 simp only[q0,q1,q2,q3,AD,Ls rfl h0,g (ws.set (ix 0) q.a) (ix 1) (by simpa using h1),Ls rfl (show ix 1<(ws.set (ix 0) q.a).length by simpa using h1),
  g ((ws.set (ix 0) q.a).set (ix 1) q.b) (ix 2) (by simpa using h2),Ls rfl (show ix 2<((ws.set (ix 0) q.a).set (ix 1) q.b).length by simpa using h2),
  g (((ws.set (ix 0) q.a).set (ix 1) q.b).set (ix 2) q.c) (ix 3) (by simpa using h3),Ls rfl (show ix 3<(((ws.set (ix 0) q.a).set (ix 1) q.b).set (ix 2) q.c).length by simpa using h3)]
 unfold jl
 rw[hq]
 rfl
theorem ki(key:List UInt8)(counter:UInt32)(nonce:List UInt8)(hk:key.length=32)(hn:nonce.length=12){n:Nat}(hm:16<n):Gn n key counter nonce=some (Jm key counter nonce,0):=by
 have hb:=Mg (counter:=counter) hk hn
 unfold Gn
 rw[show((!decide ((key.length:Int)=32))||(!decide ((nonce.length:Int)=12)))=false by simp[hk,hn]]
 simp only[CQ]
 rw[mY key counter nonce hk hn zO,AD]
 generalize hw:HS key counter nonce=w at hb
 rw[DX (by simp[hb]) (by simp[hb]),AD,List.nil_append]
 have hl:∀l:List UInt32,(l.flatMap Fu).length=4*l.length:=by
  intro l
  induction l with
  | nil=>rfl
  | cons x r ih=>rw[List.flatMap_cons,List.length_append,ih,List.length_cons];simp[Fu];omega
 have h3:∀ws:List UInt32,ws.length=16→Fy n w ws=some ((List.zipWith (·+·) ws w).flatMap Fu,0):=by
  intro ws ht
  have hz:(List.zipWith (·+·) ws w).length=16:=by simp[ht,hb]
  have hg:∀i,i<16→(List.zipWith (·+·) ws w)[i]? = some (ws.getD i 0+w.getD i 0):=fun i hi=>by
   simp[List.getD_eq_getElem?_getD,ht,hb,hi]
  generalize List.zipWith (·+·) ws w=z at hz hg
  unfold Fy Jt
  refine(congrArg (CO _ n) ?_).trans (Ez (fun i=>((z.take i).flatMap Fu,(i:Int))) 16 (fun i hi k=>?_) (fun k=>?_) zO)
  simp
  have ei:((i+1:Nat):Int)=(i:Int)+1:=zO
  have st:(z.take (i+1)).flatMap Fu=(z.take i).flatMap Fu++Fu (ws.getD i 0+w.getD i 0):=by
   rw[List.take_add_one,hg i hi,List.flatMap_append]
   simp
  dsimp only
  rw[st,ei]
  simp only[GE,show decide ((i:Int)<16)=true by simp;omega,DB,ret]
  rw[Cw (k:=i) 0 rfl zO,AD,Cw (k:=i) 0 rfl zO,AD,DX (by rw[hl];simp[hz];omega) (by rw[hl];simp[hz];omega),AD,DK zO zO]
  rfl
  simp only[GE,show decide (((16:Nat):Int)<16)=false by decide,CQ,Jr]
  rw[List.take_of_length_le zO]
 have h2:Fy n w (Sx w 10)=some (Jm key counter nonce,0):=by
  rw[h3 _ (by rw[NH,hb])]
  unfold Jm iZ
  rw[hw]
 unfold Js
 refine(congrArg (CO _ n) ?_).trans (Ez (fun i=>(Sx w i,(i:Int))) 10 (fun i hi k=>?_) (fun k=>?_) zO)
 rfl
 simp only[GD,show decide ((i:Int)<10)=true by simp;omega,DB,ret]
 have hl0:(Sx w i).length=16:=by rw[NH,hb]
 have hA:∀(l:List UInt32) (s j:Nat),l.length=16→j<4→DA l (H2 s j 0:Int) (H2 s j 1:Int) (H2 s j 2:Int) (H2 s j 3:Int)=some (jl l (H2 s j)):=fun l s j hl hj=>sm l (H2 s j) (fun k hk=>by unfold H2;omega)
 have r:∀(l:List UInt32) (s:Nat),l.length=16→∀j,(DY l s j).length=16:=fun l s hl j=>by rw[Kd,hl]
 have a0:∀l:List UInt32,l.length=16→DA l 0 4 8 12=some (DY l 0 1):=fun l hl=>hA l 0 0 hl zD
 have a1:∀l:List UInt32,l.length=16→DA (DY l 0 1) 1 5 9 13=some (DY l 0 2):=fun l hl=>hA _ 0 1 (r _ _ hl _) zD
 have a2:∀l:List UInt32,l.length=16→DA (DY l 0 2) 2 6 10 14=some (DY l 0 3):=fun l hl=>hA _ 0 2 (r _ _ hl _) zD
 have a3:∀l:List UInt32,l.length=16→DA (DY l 0 3) 3 7 11 15=some (DY l 0 4):=fun l hl=>hA _ 0 3 (r _ _ hl _) zD
 have b0:∀l:List UInt32,l.length=16→DA l 0 5 10 15=some (DY l 1 1):=fun l hl=>hA l 1 0 hl zD
 have b1:∀l:List UInt32,l.length=16→DA (DY l 1 1) 1 6 11 12=some (DY l 1 2):=fun l hl=>hA _ 1 1 (r _ _ hl _) zD
 have b2:∀l:List UInt32,l.length=16→DA (DY l 1 2) 2 7 8 13=some (DY l 1 3):=fun l hl=>hA _ 1 2 (r _ _ hl _) zD
 have b3:∀l:List UInt32,l.length=16→DA (DY l 1 3) 3 4 9 14=some (DY l 1 4):=fun l hl=>hA _ 1 3 (r _ _ hl _) zD
 have hl4:=r _ 0 hl0 4
 rw[a0 _ hl0,AD,a1 _ hl0,AD,a2 _ hl0,AD,a3 _ hl0,AD,b0 _ hl4,AD,b1 _ hl4,AD,b2 _ hl4,AD,b3 _ hl4,AD,DK zO zO]
 rfl
 simp only[GD,show decide (((10:Nat):Int)<10)=false by decide,CQ]
 exact h2
theorem sP(key nonce s:List UInt8)(hk:key.length=32)(hn:nonce.length=12)(hs:s.length≤1048576){n:Nat}(hm:16<n)(hm2:s.length<n):Mr n key nonce s=some (Ig key nonce s,0):=by
 have hB:∀i,Gn n key (UInt32.ofNat i) nonce=some (Jm key (UInt32.ofNat i) nonce,0):=fun i=>ki key _ nonce hk hn hm
 have hL:∀i,(Jm key (UInt32.ofNat i) nonce).length=64:=fun i=>R7 hk hn
 have hX:∀i,i<s.length→(Ig key nonce s).take (i+1)=(Ig key nonce s).take i++[s.getD i 0 ^^^ (Jm key (UInt32.ofNat (i / 64)) nonce).getD (i%64) 0]:=fun i hi=>by
  rw[List.take_add_one,List.getElem?_eq_getElem (by rw[Fi];exact hi)]
  simp[Ig,PS]
 have hXl:=Fi key nonce s
 generalize Ig key nonce s=X at hX hXl ⊢
 generalize hBf:(fun i=>Jm key (UInt32.ofNat i) nonce)=B
 have hB':∀i,Gn n key (UInt32.ofNat i) nonce=some (B i,0):=fun i=>by rw[hB i,←hBf]
 have hL':∀i,(B i).length=64:=fun i=>by rw[←hBf];exact hL i
 have hX':∀i,i<s.length→X.take (i+1)=X.take i++[s.getD i 0 ^^^ (B (i / 64)).getD (i%64) 0]:=fun i hi=>by rw[hX i hi,←hBf]
 clear hB hL hX hBf
 unfold Mr
 rw[show(((!decide ((key.length:Int)=32))||(!decide ((nonce.length:Int)=12)))||(decide (1048576<(s.length:Int))))=false by simp[hk,hn];omega]
 simp only[CQ]
 unfold JB
 refine(congrArg (CO _ n) ?_).trans (Ez (fun i=>(X.take i,(if i=0 then[]else B ((i-1) / 64)),(i:Int))) s.length (fun i hi k=>?_) (fun k=>?_) hm2)
 simp
 have ei:((i+1:Nat):Int)=(i:Int)+1:=zO
 dsimp only
 rw[hX' i hi,if_neg (show ¬i+1=0 by omega),Nat.add_sub_cancel,ei]
 simp only[Hc,show decide ((i:Int)<(s.length:Int))=true by simp;omega,DB]
 have hr:T3 (i:Int) 64=some ((i%64:Nat):Int):=VX zD
 have hq:VV (i:Int) 64=some ((i / 64:Nat):Int):=dq zD zO
 have hj:HL s (X.take i) (i:Int) k (B (i / 64))=k (X.take i++[s.getD i 0 ^^^ (B (i / 64)).getD (i%64) 0],B (i / 64),(i:Int)+1):=by
  have hbl:=hL' (i / 64)
  unfold HL
  rw[Cw (k:=i) 0 rfl hi,AD,hr,AD,Cw (k:=i%64) 0 rfl zO,AD,DX zQ zQ,AD]
  simp only[ret]
  rw[DK zO zO]
 rw[hr,AD]
 by_cases h0:i%64=0
 rw[show decide (((i%64:Nat):Int)=0)=true by simp;omega]
 simp only[DB]
 have hu:FN ((i / 64:Nat):Int)=UInt32.ofNat (i / 64):=by
  simp only[FN]
  congr 1
  omega
 rw[hq,AD,hu,hB',AD]
 exact hj
 rw[show decide (((i%64:Nat):Int)=0)=false by simp;omega]
 simp only[CQ]
 rw[if_neg (show ¬i=0 by omega),show(i-1) / 64=i / 64 by omega]
 exact hj
 simp only[Hc,show decide ((s.length:Int)<(s.length:Int))=false by simp,CQ,Lw]
 rw[List.take_of_length_le zO]
end

section
theorem ZB(x:UInt32)(n:Nat)(h:n≤32):CH x (n:Int)=some (J3 x n):=by
 unfold CH
 rw[Vc,AD,DK zO zO,show(32-(n:Int))=((32-n:Nat):Int) by omega,Vc,AD]
 rfl
theorem ja(s:List UInt8)(w:List UInt32)(h:16≤w.length):RE s w=w.getD (w.length-16) 0+mW (w.getD (w.length-15) 0)+w.getD (w.length-7) 0+mX (w.getD (w.length-2) 0):=by
 unfold RE
 rw[if_neg zO]
 ac_rfl
theorem mD{h:List UInt32}(hh:h.length=8){n:Nat}(hm:64<n):∀f:List UInt32,f.length=8→Ga n h f=some (List.zipWith (·+·) f h):=by
 intro f hf
 have hfl:h.length=f.length:=zO
 unfold Ga K7
 refine(congrArg (CO _ n) ?_).trans (Ez (fun i=>(Rg f h i,(i:Int))) 8 (fun i hi k=>?_) (fun k=>?_) zO)
 simp[Rg]
 have ei:((i+1:Nat):Int)=(i:Int)+1:=zO
 have hml:=VR f h hfl i
 dsimp only
 rw[ei,←Zb f h hfl i zO,←Za f h hfl i zO]
 simp only[Gr,show decide ((i:Int)<8)=true by simp;omega,DB,ret]
 rw[Cw (k:=i) 0 rfl zO,AD,Cw (k:=i) 0 rfl zO,AD,AD,Ls rfl zO,AD,DK zO zO]
 simp only[Gr,show decide (((8:Nat):Int)<8)=false by decide,CQ,K5]
 have:=YR f h hfl
 rw[hf]at this
 rw[this]
theorem mC{T h:List UInt32}(hT:T.length=64)(hh:h.length=8){n:Nat}(hm:64<n):∀w:List UInt32,w.length=64→GY n T h w=some (List.zipWith (·+·) h (GJ T w h 64).list):=by
 intro w hw
 have t6:∀x,CH x 6=some (J3 x 6):=fun x=>ZB x 6 zD
 have t11:∀x,CH x 11=some (J3 x 11):=fun x=>ZB x 11 zD
 have t25:∀x,CH x 25=some (J3 x 25):=fun x=>ZB x 25 zD
 have t2:∀x,CH x 2=some (J3 x 2):=fun x=>ZB x 2 zD
 have t13:∀x,CH x 13=some (J3 x 13):=fun x=>ZB x 13 zD
 have t22:∀x,CH x 22=some (J3 x 22):=fun x=>ZB x 22 zD
 have hz:∀q:NJ,Ga n h q.list=some (List.zipWith (·+·) h q.list):=fun q=>by
  rw[mD hh hm _ rfl,List.zipWith_comm]
  simp only[UInt32.add_comm]
 have hN:∀i,GJ T w h (i+1)=(GJ T w h i).step (T.getD i 0) (w.getD i 0):=fun i=>rfl
 have h0:(GJ T w h 0).list=h:=Qn hh
 generalize GJ T w h=R at hN h0 ⊢
 unfold GY K6
 rw[DX (by simp[hh]) (by simp[hh]),AD,List.nil_append]
 refine(congrArg (CO _ n) ?_).trans (Ez (fun i=>((R i).list,(i:Int))) 64 (fun i hi k=>?_) (fun k=>?_) zO)
 simp[h0]
 have ei:((i+1:Nat):Int)=(i:Int)+1:=zO
 dsimp only
 rw[ei,hN]
 generalize R i=q
 have q0:BN q.list 0=some q.a:=rfl
 have q1:BN q.list 1=some q.b:=rfl
 have q2:BN q.list 2=some q.c:=rfl
 have q3:BN q.list 3=some q.d:=rfl
 have q4:BN q.list 4=some q.e:=rfl
 have q5:BN q.list 5=some q.f:=rfl
 have q6:BN q.list 6=some q.g:=rfl
 have q7:BN q.list 7=some q.i:=rfl
 simp only[Gq,show decide ((i:Int)<64)=true by simp;omega,DB,CI,q0,q1,q2,q3,q4,q5,q6,q7,AD,t6,t11,t25,t2,t13,t22]
 rw[Cw (k:=i) 0 rfl zO,AD,Cw (k:=i) 0 rfl zO,AD,DK zO zO]
 simp only[NJ.step,NJ.list,NJ.t1,NJ.t2]
 simp only[Gq,show decide (((64:Nat):Int)<64)=false by decide,CQ]
 exact hz _
theorem ph(T h:List UInt32)(s:List UInt8)(hT:T.length=64)(hh:h.length=8)(hs:s.length=64){n:Nat}(hm:64<n):Lb n T h s=some (RB T h s):=by
 
 have t7:∀x,CH x 7=some (J3 x 7):=fun x=>ZB x 7 zD
 have t18:∀x,CH x 18=some (J3 x 18):=fun x=>ZB x 18 zD
 have t17:∀x,CH x 17=some (J3 x 17):=fun x=>ZB x 17 zD
 have t19:∀x,CH x 19=some (J3 x 19):=fun x=>ZB x 19 zD
 unfold Lb IL
 have hW:∀i,E0 s (i+1)=E0 s i++[RE s (E0 s i)]:=fun i=>rfl
 have hWl:=MA s
 have hfin:GY n T h (E0 s 64)=some (RB T h s):=by
  unfold RB Dx
  exact mC hT hh hm _ (hWl 64)
 have hW0:E0 s 0=[]:=rfl
 generalize E0 s=W at hW hWl hfin hW0
 refine(congrArg (CO _ n) ?_).trans (Ez (fun i=>(W i,(i:Int))) 64 (fun i hi k=>?_) (fun k=>?_) hm)
 simp[hW0]
 have ei:((i+1:Nat):Int)=(i:Int)+1:=zO
 have hl:=hWl i
 dsimp only
 rw[ei,hW]
 generalize W i=w at hl
 simp only[Gp,show decide ((i:Int)<64)=true by simp;omega,DB]
 have hj:∀x:UInt32,(DO 4 w [x]).bind (fun l=>GZ (i:Int) k l)=k (w++[x],(i:Int)+1):=fun x=>by
  rw[DX zQ zQ,AD]
  simp only[GZ,ret]
  rw[DK zO zO]
 by_cases hlt:i<16
 rw[show decide ((i:Int)<16)=true by simp;omega]
 simp only[DB]
 rw[DK zO zO,Cw (k:=4*i) 0 zO zO,AD,DK zO zO,Cw (k:=4*i+1) 0 zO zO,AD,DK zO zO,Cw (k:=4*i+2) 0 zO zO,AD,
  DK zO zO,Cw (k:=4*i+3) 0 zO zO,AD,hj]
 unfold RE
 rw[if_pos zO,hl]
 rfl
 rw[show decide ((i:Int)<16)=false by simp;omega]
 simp only[CQ]
 rw[DK zO zO,Cw (k:=i-15) 0 zO zO,AD,DK zO zO,Cw (k:=i-2) 0 zO zO,AD,DK zO zO,Cw (k:=i-16) 0 zO zO,AD,
  t7,AD,t18,AD,DK zO zO,Cw (k:=i-7) 0 zO zO,AD,t17,AD,t19,AD,hj,ja s w zO,hl]
 rfl
 simp only[Gp,show decide (((64:Nat):Int)<64)=false by decide,CQ]
 exact hfin
theorem dz(x:UInt64):shr64 x 0=x:=by
 apply UInt64.toNat_inj.1
 have:=x.toNat_lt
 simp[shr64]
theorem jL(s:List UInt8)(hs:s.length≤1099511627776){n:Nat}(hm:64<n):JC n s=some (s++LS s.length):=by
 unfold JC
 rw[Eg zQ,AD]
 unfold Iu
 have hp:Ll s.length<64:=by unfold Ll;omega
 refine(congrArg (CO _ n) ?_).trans (Ez (fun i=>s++[128]++List.replicate i 0) (Ll s.length) (fun i hi k=>?_) (fun k=>?_) zO)
 simp
 have hl:(s++[128]++List.replicate i (0:UInt8)).length=s.length+1+i:=by simp;omega
 have st:s++[128]++List.replicate (i+1) (0:UInt8)=s++[128]++List.replicate i 0++[0]:=by rw[List.replicate_succ',List.append_assoc _ _ [0]]
 rw[st]
 generalize s++[128]++List.replicate i (0:UInt8)=u at hl
 simp only[Fo]
 rw[hl,show(64:Int)=((64:Nat):Int)from rfl,VX zD,AD,show(!decide ((((s.length+1+i)%64:Nat):Int)=56))=true by unfold Ll at hi;simp;omega]
 simp only[DB]
 rw[Eg zQ,AD]
 have hl:(s++[128]++List.replicate (Ll s.length) (0:UInt8)).length=s.length+1+Ll s.length:=by simp;omega
 have ht:s++LS s.length=s++[128]++List.replicate (Ll s.length) 0++R6 (Cq s.length*8):=by simp[LS]
 rw[ht]
 generalize s++[128]++List.replicate (Ll s.length) (0:UInt8)=u at hl
 simp only[Fo]
 rw[hl,show(64:Int)=((64:Nat):Int)from rfl,VX zD,AD,show(!decide ((((s.length+1+Ll s.length)%64:Nat):Int)=56))=false by unfold Ll;simp;omega]
 simp only[CQ,It,ret]
 rw[Eg zQ,AD]
 simp only[R6,dz]
theorem gC(T:List UInt32)(s:List UInt8)(hT:T.length=64)(hs:s.length≤1099511627776){n:Nat}(hm:64<n)(hm2:s.length<n):Iv n T s=some (NF T s):=by
 unfold Iv
 rw[jL s hs hm,AD]
 have hw:(s++LS s.length).length%64=0:=by
  simp[LS,Ll,R6];omega
 have hlen:(s++LS s.length).length≤s.length+73:=by
  simp[LS,Ll,R6];omega
 have hsum:NF T s=(GO T Dm (s++LS s.length) ((s++LS s.length).length / 64)).list.flatMap Gg:=by
  unfold NF
  rw[LV]
 rw[hsum]
 generalize s++LS s.length=f at hw hlen
 
 have hl:∀l:List UInt32,(l.flatMap Gg).length=4*l.length:=by
  intro l
  induction l with
  | nil=>rfl
  | cons x r ih=>rw[List.flatMap_cons,List.length_append,ih,List.length_cons];simp[Gg];omega
 have h1:∀l:List UInt32,l.length=8→JD n l=some (l.flatMap Gg):=by
  intro l h8
  unfold JD Lz
  refine(congrArg (CO _ n) ?_).trans (Ez (fun i=>((l.take i).flatMap Gg,(i:Int))) 8 (fun i hi k=>?_) (fun k=>?_) zO)
  simp
  have ei:((i+1:Nat):Int)=(i:Int)+1:=zO
  have st:(l.take (i+1)).flatMap Gg=(l.take i).flatMap Gg++Gg (l.getD i 0):=by
   rw[List.take_add_one,Jb 0 zO,List.flatMap_append]
   simp
  dsimp only
  rw[st,ei]
  simp only[He,show decide ((i:Int)<8)=true by simp;omega,DB,ret]
  rw[Cw (k:=i) 0 rfl zO,AD,AD,AD,AD,DX (by rw[hl];simp;omega) (by rw[hl];simp;omega),AD,DK zO zO]
  rfl
  simp only[He,show decide (((8:Nat):Int)<8)=false by decide,CQ,Lx]
  rw[List.take_of_length_le zO]
 unfold Ly
 have hfirst:Ms=some Dm.list:=rfl
 rw[hfirst,AD]
 have hP:∀j,(GO T Dm f (j+1)).list=RB T (GO T Dm f j).list ((f.drop (64*j)).take 64):=fun j=>by
  show(UO T _ _).list=_
  unfold UO
  exact Qn (Tw rfl)
 have hP8:∀j,(GO T Dm f j).list.length=8:=fun j=>rfl
 have hP0:(GO T Dm f 0).list=Dm.list:=rfl
 generalize (fun j=>(GO T Dm f j).list)=R at hP hP8 hP0
 generalize hR:(fun j=>(GO T Dm f j).list)=R at*
 have hP':∀j,R (j+1)=RB T (R j) ((f.drop (64*j)).take 64):=fun j=>by rw[←hR];exact hP j
 have hP8':∀j,(R j).length=8:=fun j=>by rw[←hR];exact hP8 j
 have hP0':R 0=Dm.list:=by rw[←hR];exact hP0
 have hRN:(GO T Dm f (f.length / 64)).list=R (f.length / 64):=by rw[←hR]
 rw[hRN]
 clear hR hRN hP hP8 hP0
 refine(congrArg (CO _ n) ?_).trans (Ez (fun j=>(R j,((64*j:Nat):Int))) (f.length / 64) (fun j hj k=>?_) (fun k=>?_) zO)
 simp[hP0']
 have ej:((64*(j+1):Nat):Int)=((64*j:Nat):Int)+64:=zO
 dsimp only
 rw[hP',ej]
 simp only[Hd,show decide (((64*j:Nat):Int)<(f.length:Int))=true by simp;omega,DB,ret]
 rw[DK zO zO,d6 (p:=64*j) (q:=64*j+64) rfl zO zO zO,AD,show 64*j+64-64*j=64 by omega,ph T (R j) _ hT (hP8' j) zQ hm,AD]
 simp only[Hd,show decide (((64*(f.length / 64):Nat):Int)<(f.length:Int))=false by simp;omega,CQ]
 exact h1 _ (hP8' _)
theorem ib(T:List UInt32)(key:List UInt8)(c:UInt8)(hT:T.length=64)(hs:key.length≤1099511627776){n:Nat}(hm:64<n)(hm2:key.length<n):JX n T key c=some (Fv T key c):=by
 have h1:∀u:List UInt8,u.length≤64→Gb n c u=some ((List.range 64).map fun i=>u.getD i 0 ^^^ c):=by
  intro u hu
  unfold Gb IM
  refine(congrArg (CO _ n) ?_).trans (Ez (fun i=>((List.range i).map (fun i=>u.getD i 0 ^^^ c),(i:Int))) 64 (fun i hi k=>?_) (fun k=>?_) hm)
  simp
  have ei:((i+1:Nat):Int)=(i:Int)+1:=zO
  have st:(List.range (i+1)).map (fun i=>u.getD i 0 ^^^ c)=(List.range i).map (fun i=>u.getD i 0 ^^^ c)++[u.getD i 0 ^^^ c]:=by simp[List.range_succ]
  have hj:Gc c ((List.range i).map (fun i=>u.getD i 0 ^^^ c)) (i:Int) k (u.getD i 0)=k ((List.range i).map (fun i=>u.getD i 0 ^^^ c)++[u.getD i 0 ^^^ c],(i:Int)+1):=by
   unfold Gc
   rw[DX zQ zQ,AD]
   simp only[ret]
   rw[DK zO zO]
  dsimp only
  rw[st,ei,←hj]
  simp only[Gs,show decide ((i:Int)<64)=true by simp;omega,DB]
  by_cases h0:i<u.length
  rw[show decide ((i:Int)<(u.length:Int))=true by simp;omega]
  simp only[DB]
  rw[Cw (k:=i) 0 rfl h0,AD]
  rw[show decide ((i:Int)<(u.length:Int))=false by simp;omega]
  simp only[CQ]
  rw[show u.getD i 0=0 by simp[List.getD_eq_getElem?_getD,List.getElem?_eq_none (show u.length≤i by omega)]]
  simp only[Gs,show decide (((64:Nat):Int)<64)=false by decide,CQ,K8]
 unfold JX Fv FH
 by_cases h0:64<key.length
 rw[show decide (64<(key.length:Int))=true by simp;omega,if_pos h0]
 simp only[DB]
 rw[gC T key hT hs hm hm2,AD]
 exact h1 _ (by rw[I6];omega)
 rw[show decide (64<(key.length:Int))=false by simp;omega,if_neg h0]
 simp only[CQ]
 exact h1 _ zO
theorem lm(T:List UInt32)(key m:List UInt8)(hT:T.length=64)(hk:key.length≤1048576)(hs:m.length≤1048576){n:Nat}(hm:2097152<n):Iy n T key m=some (Rf T key m):=by
 unfold Iy Mt
 have l1:=Lm T key 54
 have l2:=Lm T key 92
 rw[ib T key 54 hT zO zO zO,AD,Eg zO,AD,ib T key 92 hT zO zO zO,AD,gC T _ hT zQ zO zQ,AD,
  Eg (by rw[I6];omega),AD,AD]
 have e:BN [Fv T key 54++m,Fv T key 92++NF T (Fv T key 54++m)] 1=some (Fv T key 92++NF T (Fv T key 54++m)):=rfl
 rw[e,AD,gC T _ hT (by rw[List.length_append,I6];omega) zO (by rw[List.length_append,I6];omega),AD]
 unfold Rf
 exact Eq.refl _
theorem lP(T:List UInt32)(key label:List UInt8)(hT:T.length=64)(hk:key.length≤1048576)(hl:label.length≤1000000){n:Nat}(hm:2097152<n):HM n T key label 32=some (GM T key label,0):=by
 have hml:∀m,(Rf T key m).length=32:=fun m=>Hn T key m
 have hmac:Iy n T key ([]++label++[If 1])=some (GM T key label):=by
  rw[lm T key _ hT hk zQ hm]
  rfl
 have he:(GM T key label).length=32:=hml _
 generalize GM T key label=x at hmac he ⊢
 unfold HM Ix
 rw[show((decide ((32:Int)<0))||(decide ((8160:Int)<32)))=false by decide]
 simp only[CQ]
 obtain⟨m,rfl⟩:∃m,n=m+1+1:=⟨n-2,by omega⟩
 rw[Wb]
 simp only[Fp]
 rw[show decide (((([]:List UInt8).length:Nat):Int)<32)=true by decide]
 simp only[DB]
 rw[Eg zQ,AD,Eg zQ,AD,hmac,AD,Eg zQ,AD]
 rw[CI,List.nil_append,Wb]
 simp only[Fp]
 rw[show decide (((x.length:Nat):Int)<32)=false by rw[he];decide]
 simp only[CQ,Iw]
 rw[show LF x 0 32=some ((x.drop 0).take (32-0))from d6 (p:=0) (q:=32) rfl rfl zO zO,AD]
 simp[List.take_of_length_le,he]
end

section
theorem bU(x:UInt64)(w:Nat)(hw:w≤8){n:Nat}(hm:8<n):Dw n x (w:Int)=some (CX x w):=by
 unfold Dw L5
 have hS:∀i,i<8→shr64 x (8*(i+1))=shr64 x (8*i) / 256:=fun i hi=>by
  apply UInt64.toNat_inj.1
  rw[UInt64.toNat_div,MO _ _ zO,MO _ _ zO,show(256:UInt64).toNat=2^8 from rfl,Nat.div_div_eq_div_mul,←Nat.pow_add,show 8*(i+1)=8*i+8 by omega]
 have hP:∀i,CX x (i+1)=CX x i++[(shr64 x (8*i)).toUInt8]:=Sl x
 have h0:shr64 x (8*0)=x:=by rw[Nat.mul_zero,dz]
 have hl:=B9 x
 have hp0:CX x 0=[]:=rfl
 generalize CX x=Pt at hP hl hp0 ⊢
 generalize hq:(fun i=>shr64 x (8*i))=S
 have hS':∀i,i<8→S (i+1)=S i / 256:=fun i hi=>by rw[←hq];exact hS i hi
 have hP':∀i,Pt (i+1)=Pt i++[(S i).toUInt8]:=fun i=>by rw[hP,←hq]
 have h0':S 0=x:=by rw[←hq];exact h0
 clear hS hP h0 hq
 refine(congrArg (CO _ n) ?_).trans (Ez (fun i=>(S i,Pt i,(i:Int))) w (fun i hi k=>?_) (fun k=>?_) zO)
 simp[h0',hp0]
 have ei:((i+1:Nat):Int)=(i:Int)+1:=zO
 dsimp only
 rw[ei,hP',hS' i zO]
 simp only[Hg,show decide ((i:Int)<(w:Int))=true by simp;omega,DB]
 have hlp:=hl i
 rw[Eg zQ,AD,show RL (S i) 256=some (S i / 256)from rfl,AD,CI,DK zO zO]
 simp only[Hg,show decide ((w:Int)<(w:Int))=false by simp,CQ,L4]
theorem lo(h:C5){n:Nat}(hm:8<n):KL n h=some (LD h):=by
 unfold KL
 rw[show Dw n h.boot.toUInt64 4=some (CX h.boot.toUInt64 4)from bU _ 4 zD hm,AD,show Dw n h.seq 8=some (CX h.seq 8)from bU _ 8 zD hm,AD,Eg (by simp[B9]),AD]
 unfold LD
 exact Eq.refl _
theorem qQ(h:C5){n:Nat}(hm:8<n):Mv n h=some (PN h):=by
 unfold Mv
 have p4:∀x:UInt64,Dw n x 4=some (CX x 4):=fun x=>bU _ 4 zD hm
 have p8:∀x:UInt64,Dw n x 8=some (CX x 8):=fun x=>bU _ 8 zD hm
 rw[p4,AD,p4,AD,Eg (by simp[B9]),AD,p4,AD,Eg (by simp[B9]),AD,p8,AD,Eg (by simp[B9]),AD,Eg (by simp[B9]),AD]
 simp[PN,LD]
theorem ij(T:List UInt32)(k:BV)(hT:T.length=64)(hr:DV [k]=true){n:Nat}(hm:2097152<n):JZ n T k=some (PT T k Nq,PT T k OE,0):=by
 have hl:=Wg hr
 unfold JZ
 rw[Yb [k] zS zO,AD,hr]
 simp only[Bool.not_true,CQ]
 rw[Eg zS,AD,lP T k.secret _ hT zO zS hm,AD,Eg zS,AD,lP T k.secret _ hT zO zS hm,AD]
 exact Eq.refl _
theorem rQ(s:List UInt8){n:Nat}(hm:256<n):Mu n s=some (PJ s):=by
 unfold Mu PJ
 by_cases h:198<s.length
 rw[show decide (198<(s.length:Int))=true by simp;omega,if_pos h]
 simp only[DB]
 rw[show decide (198<(s.length:Int))=false by simp;omega,if_neg h]
 simp only[CQ]
 rw[show VV (s.length:Int) 256=some ((s.length / 256:Nat):Int)from dq (b:=256) zD zO,AD,show T3 (s.length:Int) 256=some ((s.length%256:Nat):Int)from VX (b:=256) zD,AD,Eg zQ,AD]
 have hp:Ka s=[If ((s.length / 256:Nat):Int),If ((s.length%256:Nat):Int)]++s++List.replicate (198-s.length) 0:=by
  unfold Ka
  congr 3
  simp only[If]
  congr 2
  omega
 rw[hp]
 have hl:([If ((s.length / 256:Nat):Int),If ((s.length%256:Nat):Int)]++s).length=s.length+2:=by simp
 generalize [If ((s.length / 256:Nat):Int),If ((s.length%256:Nat):Int)]++s=u at hl
 unfold L3
 refine(congrArg (CO _ n) ?_).trans (Ez (fun i=>u++List.replicate i 0) (198-s.length) (fun i hi k=>?_) (fun k=>?_) zO)
 simp
 have st:u++List.replicate (i+1) (0:UInt8)=u++List.replicate i 0++[0]:=by rw[List.replicate_succ',List.append_assoc]
 have hl2:(u++List.replicate i (0:UInt8)).length=s.length+2+i:=by simp;omega
 rw[st]
 generalize u++List.replicate i (0:UInt8)=y at hl2
 unfold Hf
 rw[show decide ((y.length:Int)<200)=true by simp;omega]
 simp only[DB]
 rw[Eg zQ,AD]
 have hl2:(u++List.replicate (198-s.length) (0:UInt8)).length=200:=by simp;omega
 generalize u++List.replicate (198-s.length) (0:UInt8)=y at hl2
 unfold Hf
 rw[show decide ((y.length:Int)<200)=false by simp;omega]
 simp only[CQ]
 unfold L0
 exact Eq.refl _
end

section
theorem kj(T:List UInt32)(k:BV)(h:C5)(body:List UInt8)(hT:T.length=64)(hr:DV [k]=true)(hb:body.length=200){n:Nat}(hm:2097152<n):KK n T k h body=some (Ko T k h body):=by
 unfold KK
 rw[ij T k hT hr hm,AD,lo h zO,AD,sP _ _ _ (Ok T k Nq) (KZ h) zO zO zO,AD,qQ h zO,AD,Eg (by rw[Ho,Fi];omega),AD]
 rfl
theorem pn(T:List UInt32)(l:List BV)(h:C5)(s:List UInt8)(hT:T.length=64)(hl:l.length≤1048576){n:Nat}(hm:2097152<n):Lc n T l h s=some (HI T l h s):=by
 unfold Lc
 rw[iK l h.gen hl zO,AD]
 unfold HI
 by_cases hf:(DR l h.gen).2=0
 obtain⟨_,_,_,hr⟩:=U8 hf
 rw[show(!decide ((DR l h.gen).2=0))=false by simp[hf],if_neg (by simp[hf])]
 simp only[CQ]
 rw[rQ s zO,AD]
 by_cases h1:198<s.length
 rw[if_pos h1,show PJ s=([],50) by unfold PJ;rw[if_pos h1]]
 rfl
 rw[if_neg h1,show PJ s=(Ka s,0) by unfold PJ;rw[if_neg h1]]
 have hp:=Fg (s:=s) zO
 rw[show(!decide (((Ka s,(0:Int)):List UInt8×Int).2=0))=false from rfl]
 simp only[CQ]
 have hbl:=Gh T (DR l h.gen).1 h hp
 rw[kj T _ h _ hT hr hp hm,AD,ij T _ hT hr hm,AD]
 dsimp only
 rw[lm T _ _ hT (by rw[Ok];omega) (by rw[hbl];omega) hm,AD,Eg (by rw[hbl,Hn];omega),AD]
 unfold HT
 exact Eq.refl _
 rw[show(!decide ((DR l h.gen).2=0))=true by simp[hf],if_pos hf]
 simp only[DB]
end

section
structure Wn(k:UInt64)(c:A8):Prop where
 bl:c.blk.length=60
 pl:c.pnd.length=60
 lf:c.left = -1
 on:c.off=false
 rc:c.rcnt=k
theorem lw{k:UInt64}{c:A8}(R:Wn k c):De c=some (0,c):=by
 unfold De FT
 rw[R.lf,show decide ((-1:Int)=0)=false from rfl,CQ,R.on,CQ,show decide ((0:Int) < -1)=false from rfl,CQ]
 rfl
theorem nB{k:UInt64}{c:A8}{p:UInt32}{b:List UInt8}(R:Wn k c)(hp:p.toNat<60)(hb:b.length=256):∃c',Ed c p b=some (0,c')∧Wn k c':=by
 have h1:decide (p.toUInt64<Cq (c.blk.length:Int))=true:=by
  rw[R.bl,decide_eq_true_eq,UInt64.lt_iff_toNat_lt]
  show p.toUInt64.toNat<60
  simpa using hp
 refine⟨{ c with pnd:=c.pnd.set p.toNat b },?_,⟨R.bl,(List.length_set ..).trans R.pl,R.lf,R.on,R.rc⟩⟩
 unfold Ed Iz
 rw[CI,AD,h1,hb]
 show(De c).bind _=_
 have h2:BN c.pnd ((p.toNat:Nat):Int)=some (c.pnd[p.toNat]'(by rw[R.pl];exact hp)):=by rw[HO];exact List.getElem?_eq_getElem _
 rw[lw R,AD]
 show(BN c.pnd ((p.toNat:Nat):Int)).bind _=_
 rw[h2,AD,Ls rfl (by rw[R.pl];exact hp),AD]
 rfl
theorem dP{k:UInt64}{c:A8}(R:Wn k c):∃c',Ec 2200000 c=some (0,c')∧Wn k c':=by
 unfold Ec
 rw[lw R,AD]
 have key:∀(i m:Nat) (x:A8),i≤60→60-i<m→Wn k x→∃c',Dp (0,c) m (x,(i:Int))=some (0,c')∧Wn k c':=by
  intro i m
  induction m generalizing i with
  | zero=>intro x _ h;omega
  | succ m ih=>
   intro x hi hm X
   show ∃c',EA (0,c) (Dp (0,c) m) x (i:Int)=some (0,c')∧Wn k c'
   unfold EA
   rw[X.bl]
   by_cases h:i<60
   have h1:BN x.pnd (i:Int)=some (x.pnd[i]'(by rw[X.pl];exact h)):=by rw[HO];exact List.getElem?_eq_getElem _
   have h2:BN x.blk (i:Int)=some (x.blk[i]'(by rw[X.bl];exact h)):=by rw[HO];exact List.getElem?_eq_getElem _
   rw[show(decide ((i:Int)<((60:Nat):Int))&&decide (((0,c):Int×A8).1=0))=true by simp;omega,DB,h1,AD]
   cases (!decide (x.pnd[i]'(by rw[X.pl];exact h)=[]))with
   | true=>
    rw[DB,AD,h2,AD,Ls rfl (by rw[X.bl];exact h),AD,AD,Ls rfl (by rw[X.pl];exact h),AD]
    unfold Do
    rw[CI,DK zO zO]
    exact ih (i+1) _ zO zO ⟨(List.length_set ..).trans X.bl,(List.length_set ..).trans X.pl,X.lf,X.on,X.rc⟩
   | false=>
    rw[CQ]
    unfold Do
    rw[CI,DK zO zO]
    exact ih (i+1) _ zO zO X
   rw[show(decide ((i:Int)<((60:Nat):Int))&&decide (((0,c):Int×A8).1=0))=false by simp;omega,CQ]
   exact⟨x,rfl,X⟩
 exact key 0 2200000 c zO zO R
theorem qS{k:UInt64}{c:A8}{t:List UInt8}(R:Wn k c)(ht:t.length=32)(hk:k≠18446744073709551615):∃c',Ew c t=some (0,c'):=by
 unfold Ew
 rw[ht,show(!decide (((32:Nat):Int)=32))=false from rfl,CQ,zf (by rw[R.rc];exact hk),CQ,lw R,AD]
 exact⟨_,rfl⟩
theorem pp{b:List UInt8}(hb:b.length=256):LF b 224 (b.length:Int)=some (b.drop 224):=by
 unfold LF
 rw[if_pos zO,show(224:Int).toNat=224 from rfl,show(b.length:Int).toNat=b.length from rfl,List.take_of_length_le zS]
theorem dx{T:List UInt32}{k:UInt64}{w:Bh}{c:A8}{p:UInt32}{s:List UInt8}(hT:T.length=64)(hr:w.ring=Dj 1)(hg:w.gen=1)(R:Wn k c)(hp:p.toNat<60)(hs:s.length≤198):
  ∃tag c',Ex 2200000 T w c p s=some (tag,0,{ w with num:=w.num+1 },c')∧tag.length=32∧Wn k c':=by
 have hb:=Kn T (Sj 0) ⟨p,w.gen,w.boot,w.num⟩ hs
 have hse:HI T (Dj 1) ⟨p,w.gen,w.boot,w.num⟩ s=(HT T (Sj 0) ⟨p,w.gen,w.boot,w.num⟩ s,0):=by
  have:=Zl (T:=T) (l:=Dj 1) (h:=⟨p,w.gen,w.boot,w.num⟩) (s:=s) (by rw[DS];omega) (by rw[hg];exact X6 zO zO) hs
  unfold WF at this
  rw[if_pos ⟨by rw[DS];omega,by omega⟩]at this
  exact zI this
 obtain⟨c',hw,R'⟩:=nB R hp hb
 refine⟨(HT T (Sj 0) ⟨p,w.gen,w.boot,w.num⟩ s).drop 224,c',?_,by simp[hb],R'⟩
 unfold Ex
 rw[hr,pn T (Dj 1) _ s hT (by rw[DS];omega) zO,hse,AD]
 show(Ed c p _).bind _=_
 rw[hw,AD]
 show(LF _ 224 _).bind _=_
 rw[pp hb,AD]
theorem rR:∃t,JF 2200000 ⟨1,0,0,0,[],[],0,[]⟩=some (t,0)∧t.length≤198:=by
 have h:(JF 2200000 ⟨1,0,0,0,[],[],0,[]⟩).map (fun y=>(y.2,decide (y.1.length≤198)))=some (0,true):=zK
 obtain⟨⟨t,e⟩,h1,h2⟩:=Option.map_eq_some_iff.1 h
 simp only[Prod.mk.injEq,decide_eq_true_eq]at h2
 obtain⟨rfl,h2⟩:=h2
 exact⟨t,h1,h2⟩
theorem jN{T:List UInt32}(hT:T.length=64):∃s w c,JH 2200000 T (r0 60) (Dj 1)=some (some (s,w),0,c):=by
 have hr1:DV (Dj 1)=true:=RM 1 zO
 have hn:JE 2200000 (Dj 1)=some (1,0):=by
  unfold JE
  rw[Yb _ (by rw[DS];omega) zO,hr1]
  rfl
 have R0:Wn 0 { r0 60 with rboots:=1 }:=⟨List.length_replicate ..,List.length_replicate ..,rfl,rfl,rfl⟩
 have hst:G9 (r0 60)=some (1,0,{ r0 60 with rboots:=1 }):=rfl
 have hv:∃l,M4 2200000 { r0 60 with rboots:=1 } (Dj 1) 1 1=some (some { ring:=Dj 1,gen:=1,boot:=1,num:=0,taken:=l },0)∧l.length=60∧BN l 2=some false:=by
  refine⟨((List.replicate 60 false).set 0 true).set 1 true,?_,rfl,rfl⟩
  unfold M4
  rw[iK (Dj 1) 1 (by rw[DS];omega) zO,X6 zO zO,AD]
  rfl
 obtain⟨l,hv,hl,h2⟩:=hv
 obtain⟨t,ht,htl⟩:=rR
 generalize hw:({ ring:=Dj 1,gen:=1,boot:=1,num:=0,taken:=l }:Bh)=w at hv
 generalize hc:({ r0 60 with rboots:=1 }:A8)=c at hv hst R0
 have wr:w.ring=Dj 1:=by rw[←hw]
 have wg:w.gen=1:=by rw[←hw]
 have wt:w.taken=l:=by rw[←hw]
 obtain⟨tag,c1,hs1,ltag,R1⟩:=dx hT wr wg R0 (show(FN 2).toNat<60 by decide) htl
 have hwr:Fq 2200000 T w c t=some (⟨2,tag⟩,0,{ w with num:=w.num+1,taken:=l.set 2 true },c1):=by
  unfold Fq
  rw[zf zO,CQ]
  show EQ 2200000 T t (F0 2200000 T t 2199999) w c 0 [] 2=_
  unfold EQ
  rw[wt,hl,show decide ((2:Int)<((60:Nat):Int))=true from rfl,DB,h2,AD,CQ,hs1,AD]
  simp only[decide_true,Bool.not_true,CQ]
  rw[wt,h2,AD,Ls (show(2:Int)=((2:Nat):Int)from rfl) zO,AD]
  rfl
 have hsv:Ld 2200000 T w c=some ([⟨t,2,tag⟩],0,{ w with num:=w.num+1,taken:=l.set 2 true },c1):=by
  have hpl:Ee 2200000 T { had:=[],out:=[],took:=[],err:=0,must:=[] } w c ⟨1,0,0,0,[],[],0,[]⟩=some (⟨2,tag⟩,{ had:=[],out:=[⟨t,2,tag⟩],took:=[2],err:=0,must:=[] },{ w with num:=w.num+1,taken:=l.set 2 true },c1):=by
   unfold Ee
   rw[ht,AD]
   show Ej 2200000 T w c (t,0) { had:=[],out:=[],took:=[],err:=0,must:=[] } 0 []=_
   unfold Ej
   rw[hwr,AD]
   rfl
  have hnd:Fr 2200000 T { had:=[],out:=[],took:=[],err:=0,must:=[] } w c=some (⟨2,tag⟩,{ had:=[],out:=[⟨t,2,tag⟩],took:=[2],err:=0,must:=[] },{ w with num:=w.num+1,taken:=l.set 2 true },c1):=by
   show ER 2200000 T (F1 2200000 T 2199999) { had:=[],out:=[],took:=[],err:=0,must:=[] } w c 0 [] 0=_
   unfold ER
   show(Ee 2200000 T { had:=[],out:=[],took:=[],err:=0,must:=[] } w c ⟨1,0,0,0,[],[],0,[]⟩).bind _=_
   rw[hpl,AD]
   rfl
  unfold Ld
  show(Fr 2200000 T { had:=[],out:=[],took:=[],err:=0,must:=[] } w c).bind _=_
  rw[hnd,AD]
  rfl
 generalize hw2:({ w with num:=w.num+1,taken:=l.set 2 true }:Bh)=w2 at hsv
 have w2r:w2.ring=Dj 1:=by rw[←hw2];exact wr
 have w2g:w2.gen=1:=by rw[←hw2];exact wg
 obtain⟨c2,hf,R2⟩:=dP R1
 have hri:Gw ⟨1,1,0,2,tag⟩=some true:=by
  unfold Gw Fz
  rw[ltag]
  rfl
 have put8:∀x:UInt64,∃a,Hj 2200000 x 8=some a∧a.length=8:=fun x=>⟨_,rfl,rfl⟩
 have put4:∀x:UInt64,∃a,Hj 2200000 x 4=some a∧a.length=4:=fun x=>⟨_,rfl,rfl⟩
 obtain⟨a1,p1,q1⟩:=put8 1
 obtain⟨a2,p2,q2⟩:=put4 (1:UInt32).toUInt64
 obtain⟨a3,p3,q3⟩:=put4 (0:UInt32).toUInt64
 obtain⟨a4,p4,q4⟩:=put4 (2:UInt32).toUInt64
 have he:∃u,JG 2200000 ⟨1,1,0,2,tag⟩=some (u,0)∧u.length≤198:=by
  refine⟨[115,112,104,114]++a1++a2++a3++a4++tag,?_,by simp[q1,q2,q3,q4,ltag]⟩
  unfold JG EG
  rw[hri,AD]
  simp only[Bool.not_true,CQ]
  rw[p1,AD,if_pos (by simp[q1]),AD,p2,AD,if_pos (by simp[q1,q2]),AD,p3,AD,if_pos (by simp[q1,q2,q3]),AD,p4,AD,if_pos (by simp[q1,q2,q3,q4]),AD,if_pos (by simp[q1,q2,q3,q4,ltag]),AD]
 obtain⟨u,he,hu⟩:=he
 obtain⟨tg2,c3,hs3,ltg2,R3⟩:=dx (T:=T) (p:=(1:UInt64).toUInt32) hT w2r w2g R2 zD hu
 obtain⟨c4,hf4,R4⟩:=dP R3
 obtain⟨c5,ha⟩:=qS R4 ltg2 zD
 have hpub:∀s,EK 2200000 T s w2 c1 [⟨t,2,tag⟩]=some (0,{ w2 with num:=w2.num+1 },c5):=by
  intro s
  unfold EK
  have hnx:Le 0 w2.gen 0 ⟨2,tag⟩=some (⟨1,1,0,2,tag⟩,0):=by
   rw[w2g]
   unfold Le
   rw[show decide ((0:UInt64)=18446744073709551615)=false from rfl,CQ,show(decide ((0:Int)<0)||decide ((1000:Int)<0))=false from rfl,CQ]
   show(Gw ⟨1,1,0,2,tag⟩).bind _=_
   rw[hri]
   rfl
  rw[hf,AD]
  simp only[decide_true,Bool.not_true,CQ]
  rw[show BN [(⟨t,2,tag⟩:BT)] (wI (([(⟨t,2,tag⟩:BT)].length:Int)-1))=some ⟨t,2,tag⟩from rfl,AD,R2.rc,hnx,AD]
  simp only[decide_true,Bool.not_true,CQ]
  rw[he,AD,show V4 (1:UInt64) 2=some 1 from rfl,AD]
  unfold Hi
  rw[show decide ((1:UInt32)<(1:UInt64).toUInt32)=false from rfl,CQ,zf (show ¬(198<(u.length:Int)) by omega),CQ,hs3,AD,AD]
  simp only[decide_true,Bool.not_true,CQ]
  rw[hf4,AD]
  simp only[decide_true,Bool.not_true,CQ]
  rw[ha,AD]
 have hch:∃s',FU 2200000 T { rows:=[],had:=[],gens:=[],bad:=false } w c=some (0,s',{ w2 with num:=w2.num+1 },c5):=by
  refine⟨{ rows:=[],had:=[⟨t,2,tag⟩],gens:=[w2.gen],bad:=false },?_⟩
  unfold FU
  rw[hsv,AD]
  show(EK 2200000 T _ w2 c1 [⟨t,2,tag⟩]).bind _=_
  rw[hpub,AD]
  rfl
 obtain⟨s',hch⟩:=hch
 refine⟨s',{ w2 with num:=w2.num+1 },c5,?_⟩
 unfold JH Ny
 rw[hn,AD]
 simp only[decide_true,Bool.not_true,CQ]
 rw[CI,AD,show decide ((r0 60).rcnt=18446744073709551615)=false from rfl,CQ,hst,AD]
 simp only[decide_true,Bool.not_true,CQ]
 rw[hv,AD,AD,hch,AD]
 rfl
end

section
variable {K:Nat→Prop}{w0:World}{H:List AZ}
def Fm(p0:C2)(p0_1:B2)(p0_2:A5)(p0_3:Ao)(p1:Ht):Option Int:=
 (CU p0 p0_1 p0_2 p0_3).bind fun y1=>
 ret (!decide (y1=0)) fun x1=>
 cond x1
 (
  some y1)
 (
  none)
theorem J6{Ap B1 BH Au Ae Ah Ai:Nat}{Am BJ BK BL BI Av Aj:Value}{p0:C2}{p0_1:B2}{p0_2:A5}{p0_3:Ao}{p1:Ht}{r:Int}(h:Fm p0 p0_1 p0_2 p0_3 p1=some r): zC K w0 32 [vP Ap 0,.agg (Bm p1).toArray] [AK Ap (.cells #[Am,vB p0.isOpen,vP B1 0,vB p0.closed] 80),AC 83 5 Am Bm p0.ops,AK B1 (.cells #[BJ,BK,BL,vP Ae 0,vP BH 0,BI,Z p0_1.gen,vB p0_1.bad] 94),AC 35 4 BJ AX p0_1.rows,AC 190 3 BK AT p0_1.pages,Ci BL Z Z p0_1.gens,AC 114 2 BI AY p0_1.ring,AK BH (.cells #[vP Ae 0,Av,Z p0_2.gen,Z p0_2.boot,AV p0_2.seals,.map (some Au)] 181),AC 114 2 Av AY p0_2.ring,Ab Au Z vB p0_2.taken,AK Ae (.cells #[vB p0_3.off,vB p0_3.isCut,vI p0_3.lasts,vI p0_3.counts,Aj,.map (some Ah),.map (some Ai),AV p0_3.rcnt,vS p0_3.rtag,Z p0_3.rboots] 100),AC 9 1 Aj eS p0_3.blocks,Ab Ah Z vS p0_3.pend,Ab Ai Z vB p0_3.bad] H (fun u M=>u=vI r∧M=[AK Ap (.cells #[Am,vB p0.isOpen,vP B1 0,vB p0.closed] 80),AC 83 5 Am Bm p0.ops,AK B1 (.cells #[BJ,BK,BL,vP Ae 0,vP BH 0,BI,Z p0_1.gen,vB p0_1.bad] 94),AC 35 4 BJ AX p0_1.rows,AC 190 3 BK AT p0_1.pages,Ci BL Z Z p0_1.gens,AC 114 2 BI AY p0_1.ring,AK BH (.cells #[vP Ae 0,Av,Z p0_2.gen,Z p0_2.boot,AV p0_2.seals,.map (some Au)] 181),AC 114 2 Av AY p0_2.ring,Ab Au Z vB p0_2.taken,AK Ae (.cells #[vB p0_3.off,vB p0_3.isCut,vI p0_3.lasts,vI p0_3.counts,Aj,.map (some Ah),.map (some Ai),AV p0_3.rcnt,vS p0_3.rtag,Z p0_3.rboots] 100),AC 9 1 Aj eS p0_3.blocks,Ab Ah Z vS p0_3.pend,Ab Ai Z vB p0_3.bad]):=by
 unfold Fm at h
 refine T6.enter Tryz.func32 rfl rfl ?_
 refine Y ?_
 refine Ba E E zU fun b1=>?_
 refine U E (V (Y ?_))
 refine AE h fun y1 hy1 h=>?_
 refine J E (SL.pick [1,2,3,4,5,6,7,8,9,10,11,12,13,14,0] 15 (AM 14 In (DD hy1) E (U E (V (AH (AQ (Y ?_)))))))
 obtain⟨x1,ex1,h⟩:=By h
 refine J E (AA E BG ?_)
 refine Aq (u:=vB x1) E E (congrArg vB ex1) ?_
 refine V ?_
 refine AP h E (fun hc1 h=>?_) fun hc1 h=>?_
 refine Y (J E (U E (V (AL (BC (Ac ?_))))))
 obtain rfl:=zI h
 exact AW [0,1,2,3,4,5,6,7,8,9,10,11,12,13] 15 E E E
 cases h
def Mp(p0:C2)(p0_1:B2)(p0_2:A5)(p0_3:Ao)(p1:As):Option Int:=
 (Fm p0 p0_1 p0_2 p0_3 (⟨1,p1.id,p1.x,p1.y,p1.txt⟩:Ht)).bind fun y1=>
 some y1
theorem Us{Ap B1 BH Au Ae Ah Ai:Nat}{Am BJ BK BL BI Av Aj:Value}{p0:C2}{p0_1:B2}{p0_2:A5}{p0_3:Ao}{p1:As}{r:Int}(h:Mp p0 p0_1 p0_2 p0_3 p1=some r): zC K w0 9 [vP Ap 0,.agg (AX p1).toArray] [AK Ap (.cells #[Am,vB p0.isOpen,vP B1 0,vB p0.closed] 80),AC 83 5 Am Bm p0.ops,AK B1 (.cells #[BJ,BK,BL,vP Ae 0,vP BH 0,BI,Z p0_1.gen,vB p0_1.bad] 94),AC 35 4 BJ AX p0_1.rows,AC 190 3 BK AT p0_1.pages,Ci BL Z Z p0_1.gens,AC 114 2 BI AY p0_1.ring,AK BH (.cells #[vP Ae 0,Av,Z p0_2.gen,Z p0_2.boot,AV p0_2.seals,.map (some Au)] 181),AC 114 2 Av AY p0_2.ring,Ab Au Z vB p0_2.taken,AK Ae (.cells #[vB p0_3.off,vB p0_3.isCut,vI p0_3.lasts,vI p0_3.counts,Aj,.map (some Ah),.map (some Ai),AV p0_3.rcnt,vS p0_3.rtag,Z p0_3.rboots] 100),AC 9 1 Aj eS p0_3.blocks,Ab Ah Z vS p0_3.pend,Ab Ai Z vB p0_3.bad] H (fun u M=>u=vI r∧M=[AK Ap (.cells #[Am,vB p0.isOpen,vP B1 0,vB p0.closed] 80),AC 83 5 Am Bm p0.ops,AK B1 (.cells #[BJ,BK,BL,vP Ae 0,vP BH 0,BI,Z p0_1.gen,vB p0_1.bad] 94),AC 35 4 BJ AX p0_1.rows,AC 190 3 BK AT p0_1.pages,Ci BL Z Z p0_1.gens,AC 114 2 BI AY p0_1.ring,AK BH (.cells #[vP Ae 0,Av,Z p0_2.gen,Z p0_2.boot,AV p0_2.seals,.map (some Au)] 181),AC 114 2 Av AY p0_2.ring,Ab Au Z vB p0_2.taken,AK Ae (.cells #[vB p0_3.off,vB p0_3.isCut,vI p0_3.lasts,vI p0_3.counts,Aj,.map (some Ah),.map (some Ai),AV p0_3.rcnt,vS p0_3.rtag,Z p0_3.rboots] 100),AC 9 1 Aj eS p0_3.blocks,Ab Ah Z vS p0_3.pend,Ab Ai Z vB p0_3.bad]):=by
 unfold Mp at h
 refine T6.enter Tryz.func9 rfl rfl ?_
 refine Y ?_
 refine Ba E E zU fun b1=>?_
 refine U E (V (Y ?_))
 refine AE h fun y1 hy1 h=>?_
 refine J E (Aw [AV p1.id,Z p1.x,Z p1.y,vS p1.txt] E Fw E E (An 0 E) (Bt [_,_] E YX YV Ri ⟨E,E,zT⟩ E (SL.pick [1,2,3,4,5,6,7,8,9,10,11,12,13,14,0] 15 (AM 14 UG ((J6 hy1 :)) E (U E (V (AL ?_)))))))
 obtain rfl:=zI h
 exact AW [0,1,2,3,4,5,6,7,8,9,10,11,12,13] 15 E E E
def MF(p0:C2)(p0_1:B2)(p0_2:A5)(p0_3:Ao)(p1:UInt64)(p2:UInt32)(p3:UInt32):Option Int:=
 (Fm p0 p0_1 p0_2 p0_3 (⟨2,p1,p2,p3,[]⟩:Ht)).bind fun y1=>
 some y1
theorem UB{Ap B1 BH Au Ae Ah Ai:Nat}{Am BJ BK BL BI Av Aj:Value}{p0:C2}{p0_1:B2}{p0_2:A5}{p0_3:Ao}{p1:UInt64}{p2 p3:UInt32}{r:Int}(h:MF p0 p0_1 p0_2 p0_3 p1 p2 p3=some r): zC K w0 23 [vP Ap 0,AV p1,Z p2,Z p3] [AK Ap (.cells #[Am,vB p0.isOpen,vP B1 0,vB p0.closed] 80),AC 83 5 Am Bm p0.ops,AK B1 (.cells #[BJ,BK,BL,vP Ae 0,vP BH 0,BI,Z p0_1.gen,vB p0_1.bad] 94),AC 35 4 BJ AX p0_1.rows,AC 190 3 BK AT p0_1.pages,Ci BL Z Z p0_1.gens,AC 114 2 BI AY p0_1.ring,AK BH (.cells #[vP Ae 0,Av,Z p0_2.gen,Z p0_2.boot,AV p0_2.seals,.map (some Au)] 181),AC 114 2 Av AY p0_2.ring,Ab Au Z vB p0_2.taken,AK Ae (.cells #[vB p0_3.off,vB p0_3.isCut,vI p0_3.lasts,vI p0_3.counts,Aj,.map (some Ah),.map (some Ai),AV p0_3.rcnt,vS p0_3.rtag,Z p0_3.rboots] 100),AC 9 1 Aj eS p0_3.blocks,Ab Ah Z vS p0_3.pend,Ab Ai Z vB p0_3.bad] H (fun u M=>u=vI r∧M=[AK Ap (.cells #[Am,vB p0.isOpen,vP B1 0,vB p0.closed] 80),AC 83 5 Am Bm p0.ops,AK B1 (.cells #[BJ,BK,BL,vP Ae 0,vP BH 0,BI,Z p0_1.gen,vB p0_1.bad] 94),AC 35 4 BJ AX p0_1.rows,AC 190 3 BK AT p0_1.pages,Ci BL Z Z p0_1.gens,AC 114 2 BI AY p0_1.ring,AK BH (.cells #[vP Ae 0,Av,Z p0_2.gen,Z p0_2.boot,AV p0_2.seals,.map (some Au)] 181),AC 114 2 Av AY p0_2.ring,Ab Au Z vB p0_2.taken,AK Ae (.cells #[vB p0_3.off,vB p0_3.isCut,vI p0_3.lasts,vI p0_3.counts,Aj,.map (some Ah),.map (some Ai),AV p0_3.rcnt,vS p0_3.rtag,Z p0_3.rboots] 100),AC 9 1 Aj eS p0_3.blocks,Ab Ah Z vS p0_3.pend,Ab Ai Z vB p0_3.bad]):=by
 unfold MF at h
 refine T6.enter Tryz.func23 rfl rfl ?_
 refine Y (U E (V (Y ?_)))
 refine AE h fun y1 hy1 h=>?_
 refine J E (J E (J E (J E (Bt [_,_,_] E T0 Tz FL ⟨E,E,E,zT⟩ E (Bt [_,_] E YX YV Ri ⟨E,E,zT⟩ E (AM 14 UG ((J6 hy1 :)) E (U E (V (AL ?_)))))))))
 obtain rfl:=zI h
 exact AW [0,1,2,3,4,5,6,7,8,9,10,11,12,13] 14 E E E
def KF(p0:C2)(p0_1:B2)(p0_2:A5)(p0_3:Ao)(p1:UInt64):Option Int:=
 (Fm p0 p0_1 p0_2 p0_3 (⟨3,p1,0,0,[]⟩:Ht)).bind fun y1=>
 some y1
theorem SD{Ap B1 BH Au Ae Ah Ai:Nat}{Am BJ BK BL BI Av Aj:Value}{p0:C2}{p0_1:B2}{p0_2:A5}{p0_3:Ao}{p1:UInt64}{r:Int}(h:KF p0 p0_1 p0_2 p0_3 p1=some r): zC K w0 24 [vP Ap 0,AV p1] [AK Ap (.cells #[Am,vB p0.isOpen,vP B1 0,vB p0.closed] 80),AC 83 5 Am Bm p0.ops,AK B1 (.cells #[BJ,BK,BL,vP Ae 0,vP BH 0,BI,Z p0_1.gen,vB p0_1.bad] 94),AC 35 4 BJ AX p0_1.rows,AC 190 3 BK AT p0_1.pages,Ci BL Z Z p0_1.gens,AC 114 2 BI AY p0_1.ring,AK BH (.cells #[vP Ae 0,Av,Z p0_2.gen,Z p0_2.boot,AV p0_2.seals,.map (some Au)] 181),AC 114 2 Av AY p0_2.ring,Ab Au Z vB p0_2.taken,AK Ae (.cells #[vB p0_3.off,vB p0_3.isCut,vI p0_3.lasts,vI p0_3.counts,Aj,.map (some Ah),.map (some Ai),AV p0_3.rcnt,vS p0_3.rtag,Z p0_3.rboots] 100),AC 9 1 Aj eS p0_3.blocks,Ab Ah Z vS p0_3.pend,Ab Ai Z vB p0_3.bad] H (fun u M=>u=vI r∧M=[AK Ap (.cells #[Am,vB p0.isOpen,vP B1 0,vB p0.closed] 80),AC 83 5 Am Bm p0.ops,AK B1 (.cells #[BJ,BK,BL,vP Ae 0,vP BH 0,BI,Z p0_1.gen,vB p0_1.bad] 94),AC 35 4 BJ AX p0_1.rows,AC 190 3 BK AT p0_1.pages,Ci BL Z Z p0_1.gens,AC 114 2 BI AY p0_1.ring,AK BH (.cells #[vP Ae 0,Av,Z p0_2.gen,Z p0_2.boot,AV p0_2.seals,.map (some Au)] 181),AC 114 2 Av AY p0_2.ring,Ab Au Z vB p0_2.taken,AK Ae (.cells #[vB p0_3.off,vB p0_3.isCut,vI p0_3.lasts,vI p0_3.counts,Aj,.map (some Ah),.map (some Ai),AV p0_3.rcnt,vS p0_3.rtag,Z p0_3.rboots] 100),AC 9 1 Aj eS p0_3.blocks,Ab Ah Z vS p0_3.pend,Ab Ai Z vB p0_3.bad]):=by
 unfold KF at h
 refine T6.enter Tryz.func24 rfl rfl ?_
 refine Y (U E (V (Y ?_)))
 refine AE h fun y1 hy1 h=>?_
 refine J E (J E (Bt [_] E T0 Tz FL ⟨E,zT⟩ E (Bt [_,_] E YX YV Ri ⟨E,E,zT⟩ E (AM 14 UG ((J6 hy1 :)) E (U E (V (AL ?_)))))))
 obtain rfl:=zI h
 exact AW [0,1,2,3,4,5,6,7,8,9,10,11,12,13] 14 E E E
def KE(p0:C2)(p0_1:B2)(p0_2:A5)(p0_3:Ao):Option Int:=
 (CU p0 p0_1 p0_2 p0_3).bind fun y1=>
 ret (!decide (y1=0)) fun x1=>
 cond x1
 (
  some y1)
 (
  none)
theorem SC{Ap B1 BH Au Ae Ah Ai:Nat}{Am BJ BK BL BI Av Aj:Value}{p0:C2}{p0_1:B2}{p0_2:A5}{p0_3:Ao}{r:Int}(h:KE p0 p0_1 p0_2 p0_3=some r): zC K w0 10 [vP Ap 0] [AK Ap (.cells #[Am,vB p0.isOpen,vP B1 0,vB p0.closed] 80),AC 83 5 Am Bm p0.ops,AK B1 (.cells #[BJ,BK,BL,vP Ae 0,vP BH 0,BI,Z p0_1.gen,vB p0_1.bad] 94),AC 35 4 BJ AX p0_1.rows,AC 190 3 BK AT p0_1.pages,Ci BL Z Z p0_1.gens,AC 114 2 BI AY p0_1.ring,AK BH (.cells #[vP Ae 0,Av,Z p0_2.gen,Z p0_2.boot,AV p0_2.seals,.map (some Au)] 181),AC 114 2 Av AY p0_2.ring,Ab Au Z vB p0_2.taken,AK Ae (.cells #[vB p0_3.off,vB p0_3.isCut,vI p0_3.lasts,vI p0_3.counts,Aj,.map (some Ah),.map (some Ai),AV p0_3.rcnt,vS p0_3.rtag,Z p0_3.rboots] 100),AC 9 1 Aj eS p0_3.blocks,Ab Ah Z vS p0_3.pend,Ab Ai Z vB p0_3.bad] H (fun u M=>u=vI r∧M=[AK Ap (.cells #[Am,vB p0.isOpen,vP B1 0,vB p0.closed] 80),AC 83 5 Am Bm p0.ops,AK B1 (.cells #[BJ,BK,BL,vP Ae 0,vP BH 0,BI,Z p0_1.gen,vB p0_1.bad] 94),AC 35 4 BJ AX p0_1.rows,AC 190 3 BK AT p0_1.pages,Ci BL Z Z p0_1.gens,AC 114 2 BI AY p0_1.ring,AK BH (.cells #[vP Ae 0,Av,Z p0_2.gen,Z p0_2.boot,AV p0_2.seals,.map (some Au)] 181),AC 114 2 Av AY p0_2.ring,Ab Au Z vB p0_2.taken,AK Ae (.cells #[vB p0_3.off,vB p0_3.isCut,vI p0_3.lasts,vI p0_3.counts,Aj,.map (some Ah),.map (some Ai),AV p0_3.rcnt,vS p0_3.rtag,Z p0_3.rboots] 100),AC 9 1 Aj eS p0_3.blocks,Ab Ah Z vS p0_3.pend,Ab Ai Z vB p0_3.bad]):=by
 unfold KE at h
 refine T6.enter Tryz.func10 rfl rfl ?_
 refine Y (U E (V (Y ?_)))
 refine AE h fun y1 hy1 h=>?_
 refine J E (AM 14 In (DD hy1) E (U E (V (AH (AQ (Y ?_))))))
 obtain⟨x1,ex1,h⟩:=By h
 refine J E (AA E BG ?_)
 refine Aq (u:=vB x1) E E (congrArg vB ex1) ?_
 refine V ?_
 refine AP h E (fun hc1 h=>?_) fun hc1 h=>?_
 refine Y (J E (U E (V (AL (BC (Ac ?_))))))
 obtain rfl:=zI h
 exact AW [0,1,2,3,4,5,6,7,8,9,10,11,12,13] 14 E E E
 cases h
def LK(p0:C2)(p0_1:B2)(p0_2:A5)(p0_3:Ao):Option Int:=
 (CU p0 p0_1 p0_2 p0_3).bind fun y1=>
 ret (!decide (y1=0)) fun x1=>
 cond x1
 (
  some y1)
 (
  none)
theorem TR{Ap B1 BH Au Ae Ah Ai:Nat}{Am BJ BK BL BI Av Aj:Value}{p0:C2}{p0_1:B2}{p0_2:A5}{p0_3:Ao}{r:Int}(h:LK p0 p0_1 p0_2 p0_3=some r): zC K w0 17 [vP Ap 0] [AK Ap (.cells #[Am,vB p0.isOpen,vP B1 0,vB p0.closed] 80),AC 83 5 Am Bm p0.ops,AK B1 (.cells #[BJ,BK,BL,vP Ae 0,vP BH 0,BI,Z p0_1.gen,vB p0_1.bad] 94),AC 35 4 BJ AX p0_1.rows,AC 190 3 BK AT p0_1.pages,Ci BL Z Z p0_1.gens,AC 114 2 BI AY p0_1.ring,AK BH (.cells #[vP Ae 0,Av,Z p0_2.gen,Z p0_2.boot,AV p0_2.seals,.map (some Au)] 181),AC 114 2 Av AY p0_2.ring,Ab Au Z vB p0_2.taken,AK Ae (.cells #[vB p0_3.off,vB p0_3.isCut,vI p0_3.lasts,vI p0_3.counts,Aj,.map (some Ah),.map (some Ai),AV p0_3.rcnt,vS p0_3.rtag,Z p0_3.rboots] 100),AC 9 1 Aj eS p0_3.blocks,Ab Ah Z vS p0_3.pend,Ab Ai Z vB p0_3.bad] H (fun u M=>u=vI r∧M=[AK Ap (.cells #[Am,vB p0.isOpen,vP B1 0,vB p0.closed] 80),AC 83 5 Am Bm p0.ops,AK B1 (.cells #[BJ,BK,BL,vP Ae 0,vP BH 0,BI,Z p0_1.gen,vB p0_1.bad] 94),AC 35 4 BJ AX p0_1.rows,AC 190 3 BK AT p0_1.pages,Ci BL Z Z p0_1.gens,AC 114 2 BI AY p0_1.ring,AK BH (.cells #[vP Ae 0,Av,Z p0_2.gen,Z p0_2.boot,AV p0_2.seals,.map (some Au)] 181),AC 114 2 Av AY p0_2.ring,Ab Au Z vB p0_2.taken,AK Ae (.cells #[vB p0_3.off,vB p0_3.isCut,vI p0_3.lasts,vI p0_3.counts,Aj,.map (some Ah),.map (some Ai),AV p0_3.rcnt,vS p0_3.rtag,Z p0_3.rboots] 100),AC 9 1 Aj eS p0_3.blocks,Ab Ah Z vS p0_3.pend,Ab Ai Z vB p0_3.bad]):=by
 unfold LK at h
 refine T6.enter Tryz.func17 rfl rfl ?_
 refine Y (U E (V (Y ?_)))
 refine AE h fun y1 hy1 h=>?_
 refine J E (AM 14 In (DD hy1) E (U E (V (AH (AQ (Y ?_))))))
 obtain⟨x1,ex1,h⟩:=By h
 refine J E (AA E BG ?_)
 refine Aq (u:=vB x1) E E (congrArg vB ex1) ?_
 refine V ?_
 refine AP h E (fun hc1 h=>?_) fun hc1 h=>?_
 refine Y (J E (U E (V (AL (BC (Ac ?_))))))
 obtain rfl:=zI h
 exact AW [0,1,2,3,4,5,6,7,8,9,10,11,12,13] 14 E E E
 cases h
def LL(p0:C2)(p0_1:B2)(p0_2:A5)(p0_3:Ao):Option Int:=
 (CU p0 p0_1 p0_2 p0_3).bind fun y1=>
 cond (decide (y1=0))
 (
  none)
 (
  some y1)
theorem TS{Ap B1 BH Au Ae Ah Ai:Nat}{Am BJ BK BL BI Av Aj:Value}{p0:C2}{p0_1:B2}{p0_2:A5}{p0_3:Ao}{r:Int}(h:LL p0 p0_1 p0_2 p0_3=some r): zC K w0 22 [vP Ap 0] [AK Ap (.cells #[Am,vB p0.isOpen,vP B1 0,vB p0.closed] 80),AC 83 5 Am Bm p0.ops,AK B1 (.cells #[BJ,BK,BL,vP Ae 0,vP BH 0,BI,Z p0_1.gen,vB p0_1.bad] 94),AC 35 4 BJ AX p0_1.rows,AC 190 3 BK AT p0_1.pages,Ci BL Z Z p0_1.gens,AC 114 2 BI AY p0_1.ring,AK BH (.cells #[vP Ae 0,Av,Z p0_2.gen,Z p0_2.boot,AV p0_2.seals,.map (some Au)] 181),AC 114 2 Av AY p0_2.ring,Ab Au Z vB p0_2.taken,AK Ae (.cells #[vB p0_3.off,vB p0_3.isCut,vI p0_3.lasts,vI p0_3.counts,Aj,.map (some Ah),.map (some Ai),AV p0_3.rcnt,vS p0_3.rtag,Z p0_3.rboots] 100),AC 9 1 Aj eS p0_3.blocks,Ab Ah Z vS p0_3.pend,Ab Ai Z vB p0_3.bad] H (fun u M=>u=vI r∧M=[AK Ap (.cells #[Am,vB p0.isOpen,vP B1 0,vB p0.closed] 80),AC 83 5 Am Bm p0.ops,AK B1 (.cells #[BJ,BK,BL,vP Ae 0,vP BH 0,BI,Z p0_1.gen,vB p0_1.bad] 94),AC 35 4 BJ AX p0_1.rows,AC 190 3 BK AT p0_1.pages,Ci BL Z Z p0_1.gens,AC 114 2 BI AY p0_1.ring,AK BH (.cells #[vP Ae 0,Av,Z p0_2.gen,Z p0_2.boot,AV p0_2.seals,.map (some Au)] 181),AC 114 2 Av AY p0_2.ring,Ab Au Z vB p0_2.taken,AK Ae (.cells #[vB p0_3.off,vB p0_3.isCut,vI p0_3.lasts,vI p0_3.counts,Aj,.map (some Ah),.map (some Ai),AV p0_3.rcnt,vS p0_3.rtag,Z p0_3.rboots] 100),AC 9 1 Aj eS p0_3.blocks,Ab Ah Z vS p0_3.pend,Ab Ai Z vB p0_3.bad]):=by
 unfold LL at h
 refine T6.enter Tryz.func22 rfl rfl ?_
 refine Y (U E (V (Y ?_)))
 refine AE h fun y1 hy1 h=>?_
 refine J E (AM 14 In (DD hy1) E (U E (V (AH (Y (J E (AA E BS (V ?_))))))))
 refine AP h E (fun hc1 h=>?_) fun hc1 h=>?_
 cases h
 refine AJ (AI (Y (J E (U E (V (AL ?_))))))
 obtain rfl:=zI h
 exact AW [0,1,2,3,4,5,6,7,8,9,10,11,12,13] 14 E E E
end

section
variable {P:Program}{K:Nat→Prop}{w0:World}{l:Tm}{H:List AZ}
theorem qK{fn:Func}{t u s r q:Nat}{v v' v'' v4 v5:Value}(hr:fn.results=#[.tmp t,.tmp u,.tmp s,.tmp r,.tmp q])(hv:look l t=some v)(hv':look l u=some v')(hv'':look l s=some v'')(h4:look l r=some v4)(h5:look l q=some v5):∀a w,Jl l a→GL K w0 H w→(results fn a.tmps).run P w=.ok (.tuple #[v,v',v'',v4,v5]) w:=by
 intro a w ha _
 have h1:=Fa ha hv
 have h2:=Fa ha hv'
 have h3:=Fa ha hv''
 have h4:=Fa ha h4
 have h5:=Fa ha h5
 simp[results,hr,←h1,←h2,←h3,←h4,←h5]
end

section
variable {K:Nat→Prop}{w0:World}{H:List AZ}
def JV(n:Nat)(T:List UInt32):Option (Option (C2×B2×A5×Ao×Zt×Dy×Bh×A8)×Bool):=
 (JU 60).bind fun y1=>
 (y1.1).bind fun d1=>
 (LB n 60).bind fun y2=>
 (y2.1).bind fun d2=>
 cond ((!decide (y1.2=0))||(!decide (y2.2=0)))
 (
  some (none,false))
 (
  (Hv n 1).bind fun y3=>
  (JJ n T d1 y3).bind fun y4=>
  (y4.1).bind fun d3=>
  (Hv n 1).bind fun y5=>
  (JH n T d2 y5).bind fun y6=>
  (y6.1).bind fun d4=>
  (Sb d3.1 d3.2 y4.2.2).bind fun y7=>
  (y7.1).bind fun d5=>
  ret (((decide (y4.2.1=0))&&(decide (y6.2.1=0)))&&(decide (y7.2=0))) fun x1=>
  some (some (d5,d3.1,d3.2,y4.2.2,({ ops:=[],isOpen:=false,closed:=false }:Zt),d4.1,d4.2,y6.2.2),x1))
theorem Tf{n:Nat}{T:List UInt32}{r:Option (C2×B2×A5×Ao×Zt×Dy×Bh×A8)×Bool}(h:JV n T=some r)(hS:GQ K w0 T)(hT:I9 K w0 2 64 T):zC K w0 7 [] [] H (fun u M=>(r.1=none∧u=.tuple #[.pointer none,.pointer none,.pointer none,.pointer none,vB r.2]∧M=[])∨(∃(d:C2×B2×A5×Ao×Zt×Dy×Bh×A8) (bn0:Nat) (vn0x0:Value) (bn1:Nat) (vn1x0:Value) (vn1x1:Value) (vn1x2:Value) (vn1x5:Value) (bn2:Nat) (vn2x1:Value) (mn2x5:Nat) (bn3:Nat) (vn3x4:Value) (mn3x5:Nat) (mn3x6:Nat) (bn4:Nat) (vn4x1:Value) (bn5:Nat) (vn5x1:Value) (vn5x2:Value) (vn5x3:Value) (bn6:Nat) (vn6x1:Value) (vn6x5:Value) (bn7:Nat) (vn7x0:Value) (vn7x1:Value) (vn7x2:Value),r.1=some d∧u=.tuple #[vP bn0 0,vP bn1 0,vP bn3 0,vP bn4 0,vB r.2]∧M=[AK bn0 (.cells #[vn0x0,vB d.1.isOpen,vP bn1 0,vB d.1.closed] 80),AC 83 5 vn0x0 Bm d.1.ops,AK bn1 (.cells #[vn1x0,vn1x1,vn1x2,vP bn3 0,vP bn2 0,vn1x5,Z d.2.1.gen,vB d.2.1.bad] 94),AC 35 4 vn1x0 AX d.2.1.rows,AC 190 3 vn1x1 AT d.2.1.pages,Ci vn1x2 Z Z d.2.1.gens,AC 114 2 vn1x5 AY d.2.1.ring,AK bn2 (.cells #[vP bn3 0,vn2x1,Z d.2.2.1.gen,Z d.2.2.1.boot,AV d.2.2.1.seals,.map (some mn2x5)] 181),AC 114 2 vn2x1 AY d.2.2.1.ring,Ab mn2x5 Z vB d.2.2.1.taken,AK bn3 (.cells #[vB d.2.2.2.1.off,vB d.2.2.2.1.isCut,vI d.2.2.2.1.lasts,vI d.2.2.2.1.counts,vn3x4,.map (some mn3x5),.map (some mn3x6),AV d.2.2.2.1.rcnt,vS d.2.2.2.1.rtag,Z d.2.2.2.1.rboots] 100),AC 9 1 vn3x4 eS d.2.2.2.1.blocks,Ab mn3x5 Z vS d.2.2.2.1.pend,Ab mn3x6 Z vB d.2.2.2.1.bad,AK bn4 (.cells #[vP bn5 0,vn4x1,vB d.2.2.2.2.1.isOpen,vB d.2.2.2.2.1.closed] 76),AC 83 5 vn4x1 Bm d.2.2.2.2.1.ops,AK bn5 (.cells #[vP bn6 0,vn5x1,vn5x2,vn5x3,vB d.2.2.2.2.2.1.bad] 122),AC 35 4 vn5x1 AX d.2.2.2.2.2.1.rows,AC 190 3 vn5x2 AT d.2.2.2.2.2.1.had,AC 33 1 vn5x3 BW d.2.2.2.2.2.1.gens,AK bn6 (.cells #[vP bn7 0,vn6x1,Z d.2.2.2.2.2.2.1.gen,Z d.2.2.2.2.2.2.1.boot,AV d.2.2.2.2.2.2.1.num,vn6x5] 153),AC 114 2 vn6x1 AY d.2.2.2.2.2.2.1.ring,AC 4 1 vn6x5 eB d.2.2.2.2.2.2.1.taken,AK bn7 (.cells #[vn7x0,vn7x1,vn7x2,AV d.2.2.2.2.2.2.2.rcnt,vS d.2.2.2.2.2.2.2.rtag,Z d.2.2.2.2.2.2.2.rboots,vI d.2.2.2.2.2.2.2.left,vB d.2.2.2.2.2.2.2.off] 107),AC 9 1 vn7x0 eS d.2.2.2.2.2.2.2.blk,AC 9 1 vn7x1 eS d.2.2.2.2.2.2.2.pnd,AC 4 1 vn7x2 eB d.2.2.2.2.2.2.2.bads])):=by
 unfold JV at h
 refine T6.enter Tryz.func7 rfl rfl ?_
 refine Y (U E (U E (U E (U E (U E (V (Y ?_)))))))
 refine AE h fun y1 hy1 h=>?_
 refine AE h fun d1 hd1 h=>?_
 refine Bo (vs:=[_]) (Hin:=[]) (Hr:=_) E E ⟨E,zT⟩ qe E E (Yx hy1) ?_
 rintro _ _ (⟨hn,-,-⟩ | ⟨d_,b1,v1,m1,m2,hn,rfl,rfl⟩)
 rw[hd1]at hn;cases hn
 obtain rfl:d1=d_:=zI (hd1.symm.trans hn)
 refine⟨trivial,?_⟩
 refine J E (Af E E E (Af E E E (U E (U E (V (Y ?_))))))
 refine AE h fun y2 hy2 h=>?_
 refine AE h fun d2 hd2 h=>?_
 refine Bo (vs:=[_]) (Hin:=[]) (Hr:=_::_::_::_::_) E E ⟨E,zT⟩ qf E E (aL hy2) ?_
 rintro _ _ (⟨hn,-,-⟩ | ⟨d_,b2,v2,v3,v4,hn,rfl,rfl⟩)
 rw[hd2]at hn;cases hn
 obtain rfl:d2=d_:=zI (hd2.symm.trans hn)
 refine⟨trivial,?_⟩
 refine J E (Af E E E (Af E E E (U E (U E (V (AH (Y (J E (AA E BG (J E ?_))))))))))
 refine E2 (c := !decide (y2.2=0)) 25 3 28 E (fun hb k=>?_) (fun hb k=>?_) ?_
 refine AB E (AB E (Ag E E E ?_))
 exact k.mono tL
 refine J E (AA E BG (Ag E E E ?_))
 exact k.mono tL
 refine V ?_
 refine AP h E (fun hc1 h=>?_) fun hc1 h=>?_
 refine Y (U E (U E (U E (U E (U E (V (AL (Ac ?_))))))))
 obtain rfl:=zI h
 exact Al (qK E E E E E E) (Ak (M:=[]) (.inl ⟨E,E,E⟩) fun _ hw=>Bc.pick (H:=[_,_,_,_,_,_,_,_]) hw [] 8 E)
 refine AJ (AI (Y ?_))
 refine AE h fun y3 hy3 h=>?_
 refine AE h fun y4 hy4 h=>?_
 refine AE h fun d3 hd3 h=>?_
 refine J E ?_
 refine Bo (vs:=[_]) (Hin:=[]) (Hr:=_::_::_::_::_::_::_::_::_) E E ⟨E,zT⟩ kz E E (Te hy3) ?_
 rintro v5 _ ⟨_,rfl,rfl⟩
 refine⟨trivial,?_⟩
 refine SL.pick [0,5,6,7,8,1,2,3,4] 9 ?_
 refine Bo (vs:=[_,_]) (Hin:=[_,_,_,_,_]) (Hr:=_::_::_::_::_) E E ⟨E,E,zT⟩ qg E E (Cl (B:=[_]) (Hin:=[_,_,_,_]) fun K' w1 hk hB=>Wx hy4 (hS.keeps hk) (CY (e:=114) (v:=v5) zV (hB _ zS))) ?_
 rintro _ _ ⟨_,rfl,(⟨hn,-,-⟩ | ⟨d_,b3,v6,v7,v8,v9,b4,v10,m3,hn,rfl,rfl⟩)⟩
 rw[hd3]at hn;cases hn
 obtain rfl:d3=d_:=zI (hd3.symm.trans hn)
 refine⟨trivial,?_⟩
 refine J E (Af E E E (Af E E E (U E (U E (V (Y ?_))))))
 refine AE h fun y5 hy5 h=>?_
 refine AE h fun y6 hy6 h=>?_
 refine AE h fun d4 hd4 h=>?_
 refine J E ?_
 refine Bo (vs:=[_]) (Hin:=[]) (Hr:=_::_::_::_::_::_::_::_::_::_::_::_::_::_::_::_::_::_) E E ⟨E,zT⟩ kz E E (Te hy5) ?_
 rintro v11 _ ⟨_,rfl,rfl⟩
 refine⟨trivial,?_⟩
 refine SL.pick [14,15,16,17,0,1,2,3,4,5,6,7,8,9,10,11,12,13] 18 ?_
 refine Bo (vs:=[_,_]) (Hin:=[_,_,_,_,_]) (Hr:=_::_::_::_::_::_::_::_::_::_::_::_::_::_) E E ⟨E,E,zT⟩ qh E E (Wv hy6 hT) ?_
 rintro _ _ (⟨hn,-,-⟩ | ⟨d_,b5,v12,v13,v14,b6,v15,v16,hn,rfl,rfl⟩)
 rw[hd4]at hn;cases hn
 obtain rfl:d4=d_:=zI (hd4.symm.trans hn)
 refine⟨trivial,?_⟩
 refine J E (Af E E E (Af E E E (U E (U E (V (Y ?_))))))
 refine AE h fun y7 hy7 h=>?_
 refine AE h fun d5 hd5 h=>?_
 refine J E (SL.pick [12,13,14,15,16,17,18,19,20,21,22,23,0,1,2,3,4,5,6,7,8,9,10,11] 24 ?_)
 refine Bo (vs:=[_]) (Hin:=[_,_,_,_,_,_,_,_,_,_,_,_]) (Hr:=_::_::_::_::_::_::_::_::_::_::_::_::_) E E ⟨E,zT⟩ ku E E (cz hy7) ?_
 rintro _ _ (⟨hn,-,-⟩ | ⟨d_,b7,v17,hn,rfl,rfl⟩)
 rw[hd5]at hn;cases hn
 obtain rfl:d5=d_:=zI (hd5.symm.trans hn)
 refine⟨trivial,?_⟩
 refine J E (Af E E E (Af E E E (U E (U E (V (Y ?_))))))
 obtain⟨x1,ex1,h⟩:=By h
 refine J E (J E (J E (J E (Bt [_] E tI tC tX ⟨E,zT⟩ E ?_))))
 refine Ba E E zU fun b8=>?_
 refine B5 83 5 Bm (J E (AA E BS (J E ?_)))
 refine Cb (c:=decide (y6.2.1=0)) 54 3 57 E (fun hb k=>?_) (fun hb k=>?_) ?_
 refine J E (AA E BS (Ag E E E ?_))
 exact k.mono tL
 refine AB E (AB E (Ag E E E ?_))
 exact k.mono tL
 refine J E ?_
 refine Cb (c:=decide (y7.2=0)) 58 3 61 E (fun hb k=>?_) (fun hb k=>?_) ?_
 refine J E (AA E BS (Ag E E E ?_))
 exact k.mono tL
 refine AB E (AB E (Ag E E E ?_))
 exact k.mono tL
 refine U E (U E (U E (U E ?_)))
 refine Aq (u:=vB x1) E E (congrArg vB ex1) ?_
 refine V (AL ?_)
 obtain rfl:=zI h
 exact Al (qK E E E E E E) (Ak (M:=[_,_,_,_,_,_,_,_,_,_,_,_,_,_,_,_,_,_,_,_,_,_,_,_,_,_,_]) (.inr ⟨_,b7,v17,b3,v6,v7,v8,v9,b4,v10,m3,b1,v1,m1,m2,b8,zN,b5,v12,v13,v14,b6,v15,v16,b2,v2,v3,v4,E,E,E⟩) fun _ hw=>Bc.pick (H:=[_,_,_,_,_,_,_,_,_,_,_,_,_,_,_,_,_,_,_,_,_,_,_,_,_,_,_,_]) hw [2,3,4,5,6,7,8,9,10,11,12,13,14,15,1,0,16,17,18,19,20,21,22,23,24,25,26] 28 E)
def KI(n:Nat)(T:List UInt32):Option Bool:=
 (JV n T).bind fun y1=>
 (y1.1).bind fun d1=>
 (EU n T d1.1 d1.2.1 d1.2.2.1 d1.2.2.2.1).bind fun y2=>
 (Gj y2.2.1 y2.2.2.1 y2.2.2.2.1 y2.2.2.2.2).bind fun y3=>
 (IH n T y3.2 y2.2.2.1 y2.2.2.2.1 y2.2.2.2.2 (⟨1,2,0,[]⟩:As)).bind fun y4=>
 (EH n y4.2.1 y4.2.2.1 y4.2.2.2.1 y4.2.2.2.2 1).bind fun y5=>
 (HY y4.2.1 y4.2.2.1 y4.2.2.2.1 y4.2.2.2.2).bind fun y6=>
 (EU n T y4.2.1 y4.2.2.1 y4.2.2.2.1 y4.2.2.2.2).bind fun y7=>
 (EH n y7.2.1 y7.2.2.1 y7.2.2.2.1 y7.2.2.2.2 1).bind fun y8=>
 ret ((((((((y1.2&&(decide (y2.1=140)))&&(decide (y3.1=0)))&&(decide (y4.1=0)))&&(decide (y5.2=100)))&&(decide (y6=1)))&&(decide (y7.1=0)))&&(decide (y8.2=0)))&&(decide (y8.1.id=1)&&(decide (y8.1.x=2)&&(decide (y8.1.y=0)&&(decide (y8.1.txt=[])&&true))))) fun x1=>
 some x1
theorem Xe{n:Nat}{T:List UInt32}{r:Bool}(h:KI n T=some r)(hS:GQ K w0 T)(hT:I9 K w0 2 64 T):zC K w0 6 [] [] H (fun u M=>u=vB r∧M=[]):=by
 unfold KI at h
 refine T6.enter Tryz.func6 rfl rfl ?_
 refine Y (U E (V (Y ?_)))
 refine AE h fun y1 hy1 h=>?_
 refine AE h fun d1 hd1 h=>?_
 refine Bo (vs:=[]) (Hin:=[]) (Hr:=_) E E zT qG E E (Tf hy1 hS hT) ?_
 rintro _ _ (⟨hn,-,-⟩ | ⟨d_,b1,v1,b2,v2,v3,v4,v5,b3,v6,m1,b4,v7,m2,m3,b5,v8,b6,v9,v10,v11,b7,v12,v13,b8,v14,v15,v16,hn,rfl,rfl⟩)
 rw[hd1]at hn;cases hn
 obtain rfl:d1=d_:=zI (hd1.symm.trans hn)
 refine⟨trivial,?_⟩
 refine J E (Af E E E (Af E E E (Af E E E (Af E E E (Af E E E (U E (U E ?_)))))))
 refine U E (U E (U E (V (Y ?_))))
 refine AE h fun y2 hy2 h=>?_
 refine J E (BY 14 aV (OU hy2 hS) E ?_)
 rintro _ _ ⟨v17,v18,v19,v20,rfl,rfl⟩
 refine U E (V (Y ?_))
 refine AE h fun y3 hy3 h=>?_
 refine J E (BY 14 lG (Oz hy3) E ?_)
 rintro _ _ ⟨v21,rfl,rfl⟩
 refine U E (V (Y ?_))
 refine AE h fun y4 hy4 h=>?_
 refine J E (Bt [_,_] E T0 Tz FL ⟨E,E,zT⟩ E (BY 14 lI ((Vp hy4 hS :)) E ?_))
 rintro _ _ ⟨v22,v23,v24,v25,rfl,rfl⟩
 refine U E (V (Y ?_))
 refine AE h fun y5 hy5 h=>?_
 refine J E (AM 14 ab (Na hy5) E (J E (Af E E E (Af E E E ?_))))
 refine Ar E FL zU fun b9=>?_
 refine A7 0 E E E E DZ E E E zT (U E (V (Y ?_)))
 refine AE h fun y6 hy6 h=>?_
 refine J E (SL.pick [1,2,3,4,5,6,7,8,9,10,11,12,13,14,0] 15 (AM 14 et (Pj hy6) E (U E (V (Y ?_)))))
 refine AE h fun y7 hy7 h=>?_
 refine J E (BY 14 aV (OU hy7 hS) E ?_)
 rintro _ _ ⟨v26,v27,v28,v29,rfl,rfl⟩
 refine U E (V (Y ?_))
 refine AE h fun y8 hy8 h=>?_
 refine J E (AM 14 ab (Na hy8) E (J E (Af E E E (Af E E E ?_))))
 refine Ar E FL zU fun b10=>?_
 refine A7 0 E E E E DZ E E E zT (U E (V (Y ?_)))
 obtain⟨x1,ex1,h⟩:=By h
 refine J E (J E ?_)
 refine Cb (c:=decide (y2.1=140)) 44 3 47 E (fun hb k=>?_) (fun hb k=>?_) ?_
 refine J E (AA E BS (Ag E E E ?_))
 exact k.mono tL
 refine AB E (AB E (Ag E E E ?_))
 exact k.mono tL
 refine J E ?_
 refine Cb (c:=decide (y3.1=0)) 48 3 51 E (fun hb k=>?_) (fun hb k=>?_) ?_
 refine J E (AA E BS (Ag E E E ?_))
 exact k.mono tL
 refine AB E (AB E (Ag E E E ?_))
 exact k.mono tL
 refine J E ?_
 refine Cb (c:=decide (y4.1=0)) 52 3 55 E (fun hb k=>?_) (fun hb k=>?_) ?_
 refine J E (AA E BS (Ag E E E ?_))
 exact k.mono tL
 refine AB E (AB E (Ag E E E ?_))
 exact k.mono tL
 refine J E ?_
 refine Cb (c:=decide (y5.2=100)) 56 3 59 E (fun hb k=>?_) (fun hb k=>?_) ?_
 refine J E (AA E BS (Ag E E E ?_))
 exact k.mono tL
 refine AB E (AB E (Ag E E E ?_))
 exact k.mono tL
 refine J E ?_
 refine Cb (c:=decide (y6=1)) 60 3 63 E (fun hb k=>?_) (fun hb k=>?_) ?_
 refine J E (AA E BS (Ag E E E ?_))
 exact k.mono tL
 refine AB E (AB E (Ag E E E ?_))
 exact k.mono tL
 refine J E ?_
 refine Cb (c:=decide (y7.1=0)) 64 3 67 E (fun hb k=>?_) (fun hb k=>?_) ?_
 refine J E (AA E BS (Ag E E E ?_))
 exact k.mono tL
 refine AB E (AB E (Ag E E E ?_))
 exact k.mono tL
 refine J E ?_
 refine Cb (c:=decide (y8.2=0)) 68 3 71 E (fun hb k=>?_) (fun hb k=>?_) ?_
 refine J E (AA E BS (Ag E E E ?_))
 exact k.mono tL
 refine AB E (AB E (Ag E E E ?_))
 exact k.mono tL
 refine J E ?_
 refine Cb (c:=decide (y8.1.id=1)&&(decide (y8.1.x=2)&&(decide (y8.1.y=0)&&(decide (y8.1.txt=[])&&true)))) 72 4 76 E (fun hb k=>?_) (fun hb k=>?_) ?_
 refine Aw [AV y8.1.id,Z y8.1.x,Z y8.1.y,vS y8.1.txt] E Fw E E (An 0 E) (Bt [_,_] E T0 Tz FL ⟨E,E,zT⟩ E ?_)
 refine S9 E qI E E (Cj E E (iJ (a:=y8.1.id) (b:=1)) (Cj E E (Kr (a:=y8.1.x) (b:=2)) (Cj E E (Kr (a:=y8.1.y) (b:=0)) (Cj E E (UJ (a:=y8.1.txt) (b:=[])) KT)))) ?_
 refine Ag E E E ?_
 exact k.mono tL
 refine AB E (AB E (AB E (Ag E E E ?_)))
 exact k.mono tL
 refine Aq (u:=vB x1) E E (congrArg vB ex1) ?_
 refine V (AL ?_)
 obtain rfl:=zI h
 exact AW [] 29 E E E
end

section
theorem fP{T:List UInt32}:∃o v d,JJ 2200000 T (d0 60) (Dj 1)=some (some (o,v),0,d)∧i8 T 1 o v d∧o.rows=[]:=by
 have hr1:DV (Dj 1)=true:=RM 1 zO
 have hn:II (Dj 1)=some (1,0):=by
  unfold II VZ
  rw[if_pos (by rw[DS];omega),AD,hr1]
  rfl
 generalize hD:({ d0 60 with counts:=1,rboots:=1 }:Ao)=D
 have hst:Po (d0 60)=some (1,0,D):=by subst hD;rfl
 have K:Rj 60 0 D:=by subst hD;exact⟨List.length_replicate ..,by omega,rfl,rfl,rfl,Nat.le_refl _,by omega⟩
 have V9:Dv 60 0 0 D:=by subst hD;exact⟨List.length_replicate ..,Nat.le_refl _,fun _ h=>(by cases h),rfl⟩
 have hv:NA D (Dj 1) 1 1=some (some v0,0):=by
  unfold NA aw
  rw[if_pos (by rw[DS];omega),AD,X6 zO zO,DX (by simp[DS]) (by simp[DS]),AD]
  rfl
 have hb:KQ (d0 60) (Dj 1)=some (some (({ rows:=[],pages:=[],gens:=[],ring:=Dj 1,gen:=1,bad:=false }:B2),v0),0,D):=by
  unfold KQ VQ
  rw[hn,AD]
  simp only[decide_true,Bool.not_true,CQ]
  rw[hst,AD]
  simp only[decide_true,Bool.not_true,CQ]
  rw[hv,AD,AD,DX (by simp[DS]) (by simp[DS]),AD]
  rfl
 have S:i8 T 0 { rows:=[],pages:=[],gens:=[],ring:=Dj 1,gen:=1,bad:=false } v0 D:=
  ⟨⟨0,by omega,⟨K,rfl,by rw[DS];omega,rfl,rfl,Nat.le_refl 0⟩⟩,⟨List.nodup_nil,fun e he=>by simp[v0]at he⟩,V9,rfl,Nat.zero_le _,fun s hs=>(by cases hs),rfl,fun _=>rfl⟩
 obtain⟨o',v',d',hch,hrw,-,-,hS⟩:=X0 (T:=T) (l:=[]) S (.inl rfl) (Nat.zero_le _) (by decide +kernel)
 refine⟨o',v',d',?_,hS rfl,hrw⟩
 have hL:HN (d0 60)=some false:=rfl
 have hch':Dt 2200000 T { rows:=[],pages:=[],gens:=[],ring:=Dj 1,gen:=1,bad:=false } v0 D [] []=some (0,o',v',d'):=hch
 unfold JJ
 rw[hn,AD,hL,show Fk (decide ((((1:UInt32),(0:Int)):UInt32×Int).2=0)) ((some false).bind fun y2=>some y2)=some false from rfl,AD,CQ,hb,AD,AD]
 simp only[decide_true,DB]
 rw[hch',AD]
 rfl
theorem iY{T:List UInt32}(hT:T.length=64):∃(o:B2) (v:A5) (d:Ao) (a:Dy) (w:Bh) (c:A8),JV 2200000 T=some (some (⟨[],false,false⟩,o,v,d,⟨[],false,false⟩,a,w,c),true)∧i8 T 1 o v d∧o.rows=[]:=by
 obtain⟨o,v,d,h1,h2,h3⟩:=fP (T:=T)
 obtain⟨a,w,c,h4⟩:=jN hT
 refine⟨o,v,d,a,w,c,?_,h2,h3⟩
 have e1:JU 60=some (some (d0 60),0):=pf zO zO
 have e2:LB 2200000 60=some (some (r0 60),0):=pc (N:=60) zO zO zO
 have e3:Hv 2200000 1=some (Dj 1):=mQ 1 zO zO
 unfold JV
 rw[e1,AD,AD,e2,AD,AD]
 simp only[decide_true,Bool.not_true,Bool.or_false,CQ]
 rw[e3,AD,h1,AD,AD,AD,h4,AD,AD]
 rfl
theorem fJ{T:List UInt32}{f:C2}{o:B2}{v:A5}{d:Ao}{l:List As}(S:i8 T 1 o v d)(hf:f.isOpen=true)(hc:f.closed=false)(h0:0<f.ops.length)(hb:TF 2200000 o.rows f.ops=some (l,0,0))(hl:l.length≤1)(hr:FB l=true):
  ∃o' v' d',EU 2200000 T f o v d=some (0,{ f with ops:=[],isOpen:=false },o',v',d')∧o'.rows=l:=by
 obtain⟨o',v',d',hch,hrw,-,-,-⟩:=X0 (T:=T) (l:=l) S (.inr rfl) hl hr
 refine⟨o',v',d',?_,hrw⟩
 have hsc:Ds 2200000 T o v d f.ops=some (0,0,o',v',d'):=by
  unfold Ds Hl
  rw[S.bad,CQ,AD]
  show(TF 2200000 o.rows f.ops).bind _=_
  rw[hb,AD]
  unfold HN IE
  rw[CI]
  simp only[decide_true,Bool.not_true,CQ]
  rw[AD,CI,AD,S.dv.rc,show decide ((1:UInt64)=18446744073709551615)=false from rfl,CQ]
  show(E8 2200000 T o v d l).bind _=_
  rw[show E8 2200000 T o v d l=Dt 2200000 T o v d l o.pages from rfl,hch,AD]
 unfold EU CU Gk
 rw[hc,CQ,AD,CI]
 show cond (!decide ((0:Int)=0)) _ _=_
 rw[show(!decide ((0:Int)=0))=false from rfl,CQ,hf,CI,show(!true)=false from rfl,CQ,AD,zt (show 0<(f.ops.length:Int) by omega),DB]
 show(Ds 2200000 T o v d f.ops).bind _=_
 rw[hsc,AD]
 rfl
theorem jh{T:List UInt32}(hT:T.length=64):KI 2200000 T=some true:=by
 obtain⟨o,v,d,a,w,c,hm,S,hrw⟩:=iY hT
 have hput:IH 2200000 T ⟨[],true,false⟩ o v d ⟨1,2,0,[]⟩=some (0,⟨[⟨1,1,2,0,[]⟩],true,false⟩,o,v,d):=by
  have h1:FF o v d=some []:=by
   unfold FF
   rw[hrw]
   rfl
  have h2:Z1 2200000 ⟨[],true,false⟩ [] ⟨1,1,2,0,[]⟩=some (0,⟨[⟨1,1,2,0,[]⟩],true,false⟩):=zK
  unfold IH H7 CU
  show((FF o v d).bind _).bind _=_
  rw[h1,AD,h2,AD,AD]
 have hbat:TF 2200000 o.rows [⟨1,1,2,0,[]⟩]=some ([⟨1,2,0,[]⟩],0,0):=by rw[hrw];kernel_rfl
 obtain⟨o',v',d',hcm,hrw'⟩:=fJ (T:=T) (f:=⟨[⟨1,1,2,0,[]⟩],true,false⟩) S rfl rfl zD hbat zD (by decide +kernel)
 have hg1:∃x,EH 2200000 ⟨[⟨1,1,2,0,[]⟩],true,false⟩ o v d 1=some (x,100):=by
  have h1:∃x,Is 2200000 [] 1=some (x,100):=⟨⟨0,0,0,[]⟩,by kernel_rfl⟩
  obtain⟨x,h1⟩:=h1
  refine⟨x,?_⟩
  unfold EH CU Gy
  show((Is 2200000 o.rows 1).bind _).bind _=_
  rw[hrw,h1]
  rfl
 have hg2:EH 2200000 ⟨[],false,false⟩ o' v' d' 1=some (⟨1,2,0,[]⟩,0):=by
  have h1:Is 2200000 [⟨1,2,0,[]⟩] 1=some (⟨1,2,0,[]⟩,0):=zK
  unfold EH CU Gy
  show((Is 2200000 o'.rows 1).bind _).bind _=_
  rw[hrw',h1]
  rfl
 obtain⟨x,hg1⟩:=hg1
 unfold KI
 rw[hm,AD,AD]
 have hc0:EU 2200000 T ⟨[],false,false⟩ o v d=some (140,⟨[],false,false⟩,o,v,d):=rfl
 have hbg:Gj ⟨[],false,false⟩ o v d=some (0,⟨[],true,false⟩):=rfl
 have hop:HY ⟨[⟨1,1,2,0,[]⟩],true,false⟩ o v d=some 1:=rfl
 rw[hc0,AD,hbg,AD,hput,AD,hg1,AD,hop,AD,hcm,AD,hg2,AD]
 rfl
end

section
variable {K:Nat→Prop}{w0:World}{H:List AZ}
def Jn(n:Nat)(T:List UInt32)(p0:As)(p1:Tb):Option Bool:=
 (KI n T).bind fun y1=>
 (OG).bind fun y2=>
 (KG p0.id).bind fun y3=>
 (KD p1).bind fun y4=>
 (JV n T).bind fun y5=>
 (y5.1).bind fun d1=>
 (ME d1.1 d1.2.1 d1.2.2.1 d1.2.2.2.1).bind fun y6=>
 (EH n y6.2 d1.2.1 d1.2.2.1 d1.2.2.2.1 p0.id).bind fun y7=>
 (Nf y6.2 d1.2.1 d1.2.2.1 d1.2.2.2.1 p1).bind fun y8=>
 (Gj y6.2 d1.2.1 d1.2.2.1 d1.2.2.2.1).bind fun y9=>
 (Fk (decide (y9.1=141)) ((Mp y9.2 d1.2.1 d1.2.2.1 d1.2.2.2.1 p0).bind fun y10=>some (decide (y10=141)))).bind fun y11=>
 (Fk y11 ((MF y9.2 d1.2.1 d1.2.2.1 d1.2.2.2.1 p0.id p0.x p0.y).bind fun y12=>some (decide (y12=141)))).bind fun y13=>
 (Fk y13 ((KF y9.2 d1.2.1 d1.2.2.1 d1.2.2.2.1 p0.id).bind fun y14=>some (decide (y14=141)))).bind fun y15=>
 (Fk y15 ((KE y9.2 d1.2.1 d1.2.2.1 d1.2.2.2.1).bind fun y16=>some (decide (y16=141)))).bind fun y17=>
 (Fk y17 ((LK y9.2 d1.2.1 d1.2.2.1 d1.2.2.2.1).bind fun y18=>some (decide (y18=141)))).bind fun y19=>
 (Fk y19 ((LL y9.2 d1.2.1 d1.2.2.1 d1.2.2.2.1).bind fun y20=>some (decide (y20=141)))).bind fun y21=>
 (Fk y21 ((HY y9.2 d1.2.1 d1.2.2.1 d1.2.2.2.1).bind fun y22=>some (decide (y22=(-1))))).bind fun y23=>
 (Iq).bind fun y24=>
 (Fk (decide (y24=1)) ((KH p0).bind fun y25=>some (decide (y25=1)))).bind fun y26=>
 (Fk y26 ((Jg p0.id p0.x p0.y).bind fun y27=>some (decide (y27=1)))).bind fun y28=>
 (Fk y28 ((IG p0.id).bind fun y29=>some (decide (y29=1)))).bind fun y30=>
 (Fk y30 ((IF).bind fun y31=>some (decide (y31=1)))).bind fun y32=>
 (Fk y32 ((Ip).bind fun y33=>some (decide (y33=1)))).bind fun y34=>
 (Fk y34 ((Ir).bind fun y35=>some (decide (y35=1)))).bind fun y36=>
 (Fk y36 ((Jh).bind fun y37=>some (decide (y37=(-1))))).bind fun y38=>
 ret (((((((((y1&&y5.2)&&(decide (y6.1=0)))&&(decide (y2=1)))&&(decide (y3.2=1)))&&(decide (y4.2.2=1)))&&(decide (y7.2=141)))&&(decide (y8.2.2=141)))&&y38)&&y23) fun x1=>
 some x1
theorem Uu{n:Nat}{T:List UInt32}{p0:As}{p1:Tb}{r:Bool}(h:Jn n T p0 p1=some r)(hS:GQ K w0 T)(hT:I9 K w0 2 64 T):zC K w0 5 [.agg (AX p0).toArray,.agg (U2 p1).toArray] [] H (fun u M=>u=vB r∧M=[]):=by
 unfold Jn at h
 refine T6.enter Tryz.func5 rfl rfl ?_
 refine Y ?_
 refine Ba E E zU fun b1=>?_
 refine Ba E E zU fun b2=>?_
 refine U E (V (Y ?_))
 refine AE h fun y1 hy1 h=>?_
 refine AM 0 su (Xe hy1 hS hT) E (U E (V (Y ?_)))
 refine AE h fun y2 hy2 h=>?_
 refine AM 0 ku (Wp hy2) E (J E (Af E E E (Af E E E (U E (U E (V (Y (U E (V (Y ?_))))))))))
 refine AE h fun y3 hy3 h=>?_
 refine J E (AF E Jz (AG 1 FX E (AM 0 ab (SE hy3) E (J E (Af E E E (Af E E E ?_))))))
 refine Ar E FL zU fun b3=>?_
 refine A7 0 E E E E DZ E E E zT (U E (V (Y ?_)))
 refine AE h fun y4 hy4 h=>?_
 refine J E (Aw [vI p1.kind,Z p1.x0,Z p1.y0,Z p1.x1,Z p1.y1,Z p1.x,Z p1.y,AV p1.sq,vI p1.k,AV p1.after,vB p1.isFrom] E qF E E (An 1 E) (BY 0 kw ((SA hy4 :)) E ?_))
 rintro _ _ ⟨v1,rfl,rfl⟩
 refine J E (Af E E E (Af E E E (Af E E E (U E (U E (U E (V (Y ?_))))))))
 refine AE h fun y5 hy5 h=>?_
 refine AE h fun d1 hd1 h=>?_
 refine Bo (vs:=[]) (Hin:=[]) (Hr:=_::_::_::_::_) E E zT qG E E (Tf hy5 hS hT) ?_
 rintro _ _ (⟨hn,-,-⟩ | ⟨d_,b4,v2,b5,v3,v4,v5,v6,b6,v7,m1,b7,v8,m2,m3,b8,v9,b9,v10,v11,v12,b10,v13,v14,b11,v15,v16,v17,hn,rfl,rfl⟩)
 rw[hd1]at hn;cases hn
 obtain rfl:d1=d_:=zI (hd1.symm.trans hn)
 refine⟨trivial,?_⟩
 refine J E (Af E E E (Af E E E (Af E E E (Af E E E (Af E E E (U E (U E ?_)))))))
 refine U E (U E (U E (V (Y ?_))))
 refine AE h fun y6 hy6 h=>?_
 refine J E (BY 14 ew (UA hy6) E ?_)
 rintro _ _ ⟨v18,rfl,rfl⟩
 refine U E (V (Y ?_))
 refine AE h fun y7 hy7 h=>?_
 refine J E (AF E Jz (AG 30 FX E (AM 14 ab (Na hy7) E (J E (Af E E E (Af E E E ?_))))))
 refine Ar E FL zU fun b12=>?_
 refine A7 0 E E E E DZ E E E zT (U E (V (Y ?_)))
 refine AE h fun y8 hy8 h=>?_
 refine J E (Aw [vI p1.kind,Z p1.x0,Z p1.y0,Z p1.x1,Z p1.y1,Z p1.x,Z p1.y,AV p1.sq,vI p1.k,AV p1.after,vB p1.isFrom] E qF E E (An 30 E) (SL.pick [1,2,3,4,5,6,7,8,9,10,11,12,13,14,0] 15 (BY 14 kw ((Vo hy8 :)) E ?_)))
 rintro _ _ ⟨v19,rfl,rfl⟩
 refine J E (Af E E E (Af E E E (Af E E E (U E (U E (U E (V (Y ?_))))))))
 refine AE h fun y9 hy9 h=>?_
 refine AE h fun y11 hy11 h=>?_
 refine AE h fun y13 hy13 h=>?_
 refine AE h fun y15 hy15 h=>?_
 refine AE h fun y17 hy17 h=>?_
 refine AE h fun y19 hy19 h=>?_
 refine AE h fun y21 hy21 h=>?_
 refine AE h fun y23 hy23 h=>?_
 refine J E (SL.pick [1,2,3,4,5,6,7,8,9,10,11,12,13,14,0] 15 (BY 14 lG (Oz hy9) E ?_))
 rintro _ _ ⟨v20,rfl,rfl⟩
 refine AA E BS (J E ?_)
 refine DT 72 5 77 hy11 E (fun hb hg1 k=>?_) (fun hb k=>?_) ?_
 obtain⟨y10,hy10,hg1⟩:=D6 hg1
 obtain rfl:=zI hg1
 refine J E (Aw [AV p0.id,Z p0.x,Z p0.y,vS p0.txt] E Fw E E (An 32 E) (AM 14 lI ((Us hy10 :)) E (AA E BS (Ag E E E ?_))))
 exact k.mono tL
 refine AB E (AB E (AB E (AB E (Ag E E E ?_))))
 exact k.mono tL
 refine J E ?_
 refine DT 78 10 88 hy13 E (fun hb hg2 k=>?_) (fun hb k=>?_) ?_
 obtain⟨y12,hy12,hg2⟩:=D6 hg2
 obtain rfl:=zI hg2
 refine J E (AF E Jz (AG 32 FX E (AF E J0 (AG 32 A6 E (AF E J1 (AG 32 A6 E (AM 14 kx (UB hy12) E ?_)))))))
 refine AA E BS (Ag E E E ?_)
 exact k.mono tL
 refine AB E (AB E (AB E (AB E (AB E (AB E (AB E (AB E ?_)))))))
 refine AB E (Ag E E E ?_)
 exact k.mono tL
 refine J E ?_
 refine DT 89 6 95 hy15 E (fun hb hg3 k=>?_) (fun hb k=>?_) ?_
 obtain⟨y14,hy14,hg3⟩:=D6 hg3
 obtain rfl:=zI hg3
 refine J E (AF E Jz (AG 32 FX E (AM 14 ky (SD hy14) E (AA E BS (Ag E E E ?_)))))
 exact k.mono tL
 refine AB E (AB E (AB E (AB E (AB E (Ag E E E ?_)))))
 exact k.mono tL
 refine J E ?_
 refine DT 96 4 100 hy17 E (fun hb hg4 k=>?_) (fun hb k=>?_) ?_
 obtain⟨y16,hy16,hg4⟩:=D6 hg4
 obtain rfl:=zI hg4
 refine J E (AM 14 aV (SC hy16) E (AA E BS (Ag E E E ?_)))
 exact k.mono tL
 refine AB E (AB E (AB E (Ag E E E ?_)))
 exact k.mono tL
 refine J E ?_
 refine DT 101 4 105 hy19 E (fun hb hg5 k=>?_) (fun hb k=>?_) ?_
 obtain⟨y18,hy18,hg5⟩:=D6 hg5
 obtain rfl:=zI hg5
 refine J E (AM 14 kt (TR hy18) E (AA E BS (Ag E E E ?_)))
 exact k.mono tL
 refine AB E (AB E (AB E (Ag E E E ?_)))
 exact k.mono tL
 refine J E ?_
 refine DT 106 4 110 hy21 E (fun hb hg6 k=>?_) (fun hb k=>?_) ?_
 obtain⟨y20,hy20,hg6⟩:=D6 hg6
 obtain rfl:=zI hg6
 refine J E (AM 14 ew (TS hy20) E (AA E BS (Ag E E E ?_)))
 exact k.mono tL
 refine AB E (AB E (AB E (Ag E E E ?_)))
 exact k.mono tL
 refine J E ?_
 refine DT 111 4 115 hy23 E (fun hb hg7 k=>?_) (fun hb k=>?_) ?_
 obtain⟨y22,hy22,hg7⟩:=D6 hg7
 obtain rfl:=zI hg7
 refine J E (AM 14 et (Pj hy22) E (AA E BS (Ag E E E ?_)))
 exact k.mono tL
 refine AB E (AB E (AB E (Ag E E E ?_)))
 exact k.mono tL
 refine U E (V (Y ?_))
 refine AE h fun y24 hy24 h=>?_
 refine AE h fun y26 hy26 h=>?_
 refine AE h fun y28 hy28 h=>?_
 refine AE h fun y30 hy30 h=>?_
 refine AE h fun y32 hy32 h=>?_
 refine AE h fun y34 hy34 h=>?_
 refine AE h fun y36 hy36 h=>?_
 refine AE h fun y38 hy38 h=>?_
 refine J E (AM 0 lG (Qt hy24) E (AA E BS (J E ?_)))
 refine DT 119 5 124 hy26 E (fun hb hg8 k=>?_) (fun hb k=>?_) ?_
 obtain⟨y25,hy25,hg8⟩:=D6 hg8
 obtain rfl:=zI hg8
 refine J E (Aw [AV p0.id,Z p0.x,Z p0.y,vS p0.txt] E Fw E E (An 32 E) (AM 0 lI ((SF hy25 :)) E (AA E BS (Ag E E E ?_))))
 exact k.mono tL
 refine AB E (AB E (AB E (AB E (Ag E E E ?_))))
 exact k.mono tL
 refine J E ?_
 refine DT 125 10 135 hy28 E (fun hb hg9 k=>?_) (fun hb k=>?_) ?_
 obtain⟨y27,hy27,hg9⟩:=D6 hg9
 obtain rfl:=zI hg9
 refine J E (AF E Jz (AG 32 FX E (AF E J0 (AG 32 A6 E (AF E J1 (AG 32 A6 E (AM 0 kx (Rl hy27) E ?_)))))))
 refine AA E BS (Ag E E E ?_)
 exact k.mono tL
 refine AB E (AB E (AB E (AB E (AB E (AB E (AB E (AB E ?_)))))))
 refine AB E (Ag E E E ?_)
 exact k.mono tL
 refine J E ?_
 refine DT 136 6 142 hy30 E (fun hb hg10 k=>?_) (fun hb k=>?_) ?_
 obtain⟨y29,hy29,hg10⟩:=D6 hg10
 obtain rfl:=zI hg10
 refine J E (AF E Jz (AG 32 FX E (AM 0 ky (QR hy29) E (AA E BS (Ag E E E ?_)))))
 exact k.mono tL
 refine AB E (AB E (AB E (AB E (AB E (Ag E E E ?_)))))
 exact k.mono tL
 refine J E ?_
 refine DT 143 4 147 hy32 E (fun hb hg11 k=>?_) (fun hb k=>?_) ?_
 obtain⟨y31,hy31,hg11⟩:=D6 hg11
 obtain rfl:=zI hg11
 refine J E (AM 0 aV (QQ hy31) E (AA E BS (Ag E E E ?_)))
 exact k.mono tL
 refine AB E (AB E (AB E (Ag E E E ?_)))
 exact k.mono tL
 refine J E ?_
 refine DT 148 4 152 hy34 E (fun hb hg12 k=>?_) (fun hb k=>?_) ?_
 obtain⟨y33,hy33,hg12⟩:=D6 hg12
 obtain rfl:=zI hg12
 refine J E (AM 0 kt (Qs hy33) E (AA E BS (Ag E E E ?_)))
 exact k.mono tL
 refine AB E (AB E (AB E (Ag E E E ?_)))
 exact k.mono tL
 refine J E ?_
 refine DT 153 4 157 hy36 E (fun hb hg13 k=>?_) (fun hb k=>?_) ?_
 obtain⟨y35,hy35,hg13⟩:=D6 hg13
 obtain rfl:=zI hg13
 refine J E (AM 0 ew (Qu hy35) E (AA E BS (Ag E E E ?_)))
 exact k.mono tL
 refine AB E (AB E (AB E (Ag E E E ?_)))
 exact k.mono tL
 refine J E ?_
 refine DT 158 4 162 hy38 E (fun hb hg14 k=>?_) (fun hb k=>?_) ?_
 obtain⟨y37,hy37,hg14⟩:=D6 hg14
 obtain rfl:=zI hg14
 refine J E (AM 0 et (Rm hy37) E (AA E BS (Ag E E E ?_)))
 exact k.mono tL
 refine AB E (AB E (AB E (Ag E E E ?_)))
 exact k.mono tL
 refine U E (V (Y ?_))
 obtain⟨x1,ex1,h⟩:=By h
 refine J E (J E ?_)
 refine Cb (c:=y5.2) 164 2 166 E (fun hb k=>?_) (fun hb k=>?_) ?_
 refine J E (Ag E E E ?_)
 exact k.mono tL
 refine AB E (Ag E E E ?_)
 exact k.mono tL
 refine J E ?_
 refine Cb (c:=decide (y6.1=0)) 167 3 170 E (fun hb k=>?_) (fun hb k=>?_) ?_
 refine J E (AA E BS (Ag E E E ?_))
 exact k.mono tL
 refine AB E (AB E (Ag E E E ?_))
 exact k.mono tL
 refine J E ?_
 refine Cb (c:=decide (y2=1)) 171 3 174 E (fun hb k=>?_) (fun hb k=>?_) ?_
 refine J E (AA E BS (Ag E E E ?_))
 exact k.mono tL
 refine AB E (AB E (Ag E E E ?_))
 exact k.mono tL
 refine J E ?_
 refine Cb (c:=decide (y3.2=1)) 175 3 178 E (fun hb k=>?_) (fun hb k=>?_) ?_
 refine J E (AA E BS (Ag E E E ?_))
 exact k.mono tL
 refine AB E (AB E (Ag E E E ?_))
 exact k.mono tL
 refine J E ?_
 refine Cb (c:=decide (y4.2.2=1)) 179 3 182 E (fun hb k=>?_) (fun hb k=>?_) ?_
 refine J E (AA E BS (Ag E E E ?_))
 exact k.mono tL
 refine AB E (AB E (Ag E E E ?_))
 exact k.mono tL
 refine J E ?_
 refine Cb (c:=decide (y7.2=141)) 183 3 186 E (fun hb k=>?_) (fun hb k=>?_) ?_
 refine J E (AA E BS (Ag E E E ?_))
 exact k.mono tL
 refine AB E (AB E (Ag E E E ?_))
 exact k.mono tL
 refine J E ?_
 refine Cb (c:=decide (y8.2.2=141)) 187 3 190 E (fun hb k=>?_) (fun hb k=>?_) ?_
 refine J E (AA E BS (Ag E E E ?_))
 exact k.mono tL
 refine AB E (AB E (Ag E E E ?_))
 exact k.mono tL
 refine J E ?_
 refine Cb (c:=y38) 191 2 193 E (fun hb k=>?_) (fun hb k=>?_) ?_
 refine J E (Ag E E E ?_)
 exact k.mono tL
 refine AB E (Ag E E E ?_)
 exact k.mono tL
 refine J E ?_
 refine Cb (c:=y23) 194 2 196 E (fun hb k=>?_) (fun hb k=>?_) ?_
 refine J E (Ag E E E ?_)
 exact k.mono tL
 refine AB E (Ag E E E ?_)
 exact k.mono tL
 refine Aq (u:=vB x1) E E (congrArg vB ex1) ?_
 refine V (AL ?_)
 obtain rfl:=zI h
 exact AW [] 33 E E E
end

section
theorem de(T:List UInt32)(r:As)(q:Tb)(hT:T.length=64):Jn 2200000 T r q=some true:=by
 obtain⟨o,v,d,a,w,c,hm,S,hrw⟩:=iY hT
 unfold Jn
 rw[jh hT,AD,hm]
 rfl
end
end Go.Proofs.YtjkhnhichalenaaGreatDoor
