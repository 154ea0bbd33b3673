/- The texts FP7, S26, S27, S28, FN0, FP8, FP9, V1, V2, V3, V4a, FL3, FP7k, FR0, FP10, FL4, FM3, FP11, S31, FS1, FS2, FP14, FL8, one behind the other: walks of the program, and plain laws of what it computes. Conditions: as each theorem says. -/
import Derived.Test.YtpaohlmgfifebaaGreatDoorXD1
import Derived.Test.YtpaohlmgfifebaaGreatDoorXD2
import Derived.Test.YtpaohlmgfifebaaGreatDoorXD3
import Derived.Test.YtpaohlmgfifebaaGreatDoorXD4
import Derived.Test.YtpaohlmgfifebaaGreatDoorXD5

set_option linter.unusedVariables false
set_option linter.unusedSimpArgs false
set_option maxHeartbeats 4000000
set_option maxRecDepth 100000
namespace Go.Proofs.YtpaohlmgfifebaaGreatDoor
open Go
section
variable {K:Nat→Prop}{w0:World}{H:List AV}
def Sc(p0:Bj)(p0_1:Aw)(p0_2:Af):Option (Option DZ×Int):=
 some (some ({ ops:=[],isOpen:=false,closed:=false }:DZ),0)
theorem dQ{Ao CC BL As Ay Az:Nat}{Am AZ Ar BH BM A0:Value}{p0:Bj}{p0_1:Aw}{p0_2:Af}{r:Option DZ×Int}(h:Sc p0 p0_1 p0_2=some r): zC K w0 32 [vP Ao 0] [own Ao (.cells #[Am,AZ,Ar,vP As 0,vP CC 0,BH,Y p0.gen,vB p0.bad] 95),AB 43 4 Am AU p0.rows,AB 148 3 AZ AS p0.pages,Cy Ar Y Y p0.gens,AB 55 2 BH AX p0.ring,own CC (.cells #[vP As 0,BM,Y p0_1.gen,Y p0_1.boot,AT p0_1.seals,.map (some BL)] 137),AB 55 2 BM AX p0_1.ring,Aa BL Y vB p0_1.taken,own As (.cells #[vB p0_2.off,vB p0_2.isCut,vI p0_2.lasts,vI p0_2.counts,A0,.map (some Ay),.map (some Az),AT p0_2.rcnt,vS p0_2.rtag,Y p0_2.rboots] 102),AB 9 1 A0 eS p0_2.blocks,Aa Ay Y vS p0_2.pend,Aa Az Y vB p0_2.bad] H (fun u M=>(r.1=none∧u=.tuple #[.pointer none,vI r.2]∧M=[own Ao (.cells #[Am,AZ,Ar,vP As 0,vP CC 0,BH,Y p0.gen,vB p0.bad] 95),AB 43 4 Am AU p0.rows,AB 148 3 AZ AS p0.pages,Cy Ar Y Y p0.gens,AB 55 2 BH AX p0.ring,own CC (.cells #[vP As 0,BM,Y p0_1.gen,Y p0_1.boot,AT p0_1.seals,.map (some BL)] 137),AB 55 2 BM AX p0_1.ring,Aa BL Y vB p0_1.taken,own As (.cells #[vB p0_2.off,vB p0_2.isCut,vI p0_2.lasts,vI p0_2.counts,A0,.map (some Ay),.map (some Az),AT p0_2.rcnt,vS p0_2.rtag,Y p0_2.rboots] 102),AB 9 1 A0 eS p0_2.blocks,Aa Ay Y vS p0_2.pend,Aa Az Y vB p0_2.bad])∨(∃(d:DZ) (bn0:Nat) (vn0x0:Value),r.1=some d∧u=.tuple #[vP bn0 0,vI r.2]∧M=[own bn0 (.cells #[vn0x0,vB d.isOpen,vP Ao 0,vB d.closed] 85),AB 105 5 vn0x0 CE d.ops,own Ao (.cells #[Am,AZ,Ar,vP As 0,vP CC 0,BH,Y p0.gen,vB p0.bad] 95),AB 43 4 Am AU p0.rows,AB 148 3 AZ AS p0.pages,Cy Ar Y Y p0.gens,AB 55 2 BH AX p0.ring,own CC (.cells #[vP As 0,BM,Y p0_1.gen,Y p0_1.boot,AT p0_1.seals,.map (some BL)] 137),AB 55 2 BM AX p0_1.ring,Aa BL Y vB p0_1.taken,own As (.cells #[vB p0_2.off,vB p0_2.isCut,vI p0_2.lasts,vI p0_2.counts,A0,.map (some Ay),.map (some Az),AT p0_2.rcnt,vS p0_2.rtag,Y p0_2.rboots] 102),AB 9 1 A0 eS p0_2.blocks,Aa Ay Y vS p0_2.pend,Aa Az Y vB p0_2.bad])):=by
 unfold Sc at h
 refine T3.enter Tryz.func32 rfl rfl ?_
 refine V (O E (O E (U (AG (V (J E (EL E eo E E (U (Cx E (AI (AH (V (J E (B5 [_] E uP uJ ud ⟨E,zT⟩ E ?_))))))))))))))
 refine Bc E E zU fun b1=>?_
 refine CB 105 5 CE (O E (O E (U (AJ ?_))))
 obtain rfl:=zI h
 exact Ae (Ef E E E) (Ad (M:=[_,_,_,_,_,_,_,_,_,_,_,_,_,_]) (.inr ⟨_,b1,zN,E,E,E⟩) fun _ hw=>BX.pick (H:=[_,_,_,_,_,_,_,_,_,_,_,_,_,_]) hw [1,0,2,3,4,5,6,7,8,9,10,11,12,13] 14 E)
def C4(p0:DZ)(p0_1:Bj)(p0_2:Aw)(p0_3:Af):Option Int:=
 cond p0.closed
 (
  some 141)
 (
  some 0)
theorem Gz{Ao DV CY Bx BK BT BU:Nat}{Am Ce Cf Cg CZ By BV:Value}{p0:DZ}{p0_1:Bj}{p0_2:Aw}{p0_3:Af}{r:Int}(h:C4 p0 p0_1 p0_2 p0_3=some r): zC K w0 33 [vP Ao 0] [own Ao (.cells #[Am,vB p0.isOpen,vP DV 0,vB p0.closed] 85),AB 105 5 Am CE p0.ops,own DV (.cells #[Ce,Cf,Cg,vP BK 0,vP CY 0,CZ,Y p0_1.gen,vB p0_1.bad] 95),AB 43 4 Ce AU p0_1.rows,AB 148 3 Cf AS p0_1.pages,Cy Cg Y Y p0_1.gens,AB 55 2 CZ AX p0_1.ring,own CY (.cells #[vP BK 0,By,Y p0_2.gen,Y p0_2.boot,AT p0_2.seals,.map (some Bx)] 137),AB 55 2 By AX p0_2.ring,Aa Bx Y vB p0_2.taken,own BK (.cells #[vB p0_3.off,vB p0_3.isCut,vI p0_3.lasts,vI p0_3.counts,BV,.map (some BT),.map (some BU),AT p0_3.rcnt,vS p0_3.rtag,Y p0_3.rboots] 102),AB 9 1 BV eS p0_3.blocks,Aa BT Y vS p0_3.pend,Aa BU Y vB p0_3.bad] H (fun u M=>u=vI r∧M=[own Ao (.cells #[Am,vB p0.isOpen,vP DV 0,vB p0.closed] 85),AB 105 5 Am CE p0.ops,own DV (.cells #[Ce,Cf,Cg,vP BK 0,vP CY 0,CZ,Y p0_1.gen,vB p0_1.bad] 95),AB 43 4 Ce AU p0_1.rows,AB 148 3 Cf AS p0_1.pages,Cy Cg Y Y p0_1.gens,AB 55 2 CZ AX p0_1.ring,own CY (.cells #[vP BK 0,By,Y p0_2.gen,Y p0_2.boot,AT p0_2.seals,.map (some Bx)] 137),AB 55 2 By AX p0_2.ring,Aa Bx Y vB p0_2.taken,own BK (.cells #[vB p0_3.off,vB p0_3.isCut,vI p0_3.lasts,vI p0_3.counts,BV,.map (some BT),.map (some BU),AT p0_3.rcnt,vS p0_3.rtag,Y p0_3.rboots] 102),AB 9 1 BV eS p0_3.blocks,Aa BT Y vS p0_3.pend,Aa BU Y vB p0_3.bad]):=by
 unfold C4 at h
 refine T3.enter Tryz.func33 rfl rfl ?_
 refine V (O E (U (AG (AM (V (J E (EL E ub E E (O E (U (Cx E (V (J E (AQ E E (AE E qX ?_))))))))))))))
 refine AF 0 WH E (O E (U ?_))
 refine AL h E (fun hc2 h=>?_) fun hc2 h=>?_
 refine V (O E (U (AJ (BC (Ab ?_)))))
 obtain rfl:=zI h
 exact AW [0,1,2,3,4,5,6,7,8,9,10,11,12,13] 14 E E E
 refine AI (Aj (AH (V (O E (U (AJ ?_))))))
 obtain rfl:=zI h
 exact AW [0,1,2,3,4,5,6,7,8,9,10,11,12,13] 14 E E E
def LJ(p0:DZ)(p0_1:Bj)(p0_2:Aw)(p0_3:Af):Option DZ:=
 some ({ p0 with ops:=[],isOpen:=true })
theorem TW{Ao DV CY Bx BK BT BU:Nat}{Am Ce Cf Cg CZ By BV:Value}{p0:DZ}{p0_1:Bj}{p0_2:Aw}{p0_3:Af}{r:DZ}(h:LJ p0 p0_1 p0_2 p0_3=some r): zC K w0 34 [vP Ao 0] [own Ao (.cells #[Am,vB p0.isOpen,vP DV 0,vB p0.closed] 85),AB 105 5 Am CE p0.ops,own DV (.cells #[Ce,Cf,Cg,vP BK 0,vP CY 0,CZ,Y p0_1.gen,vB p0_1.bad] 95),AB 43 4 Ce AU p0_1.rows,AB 148 3 Cf AS p0_1.pages,Cy Cg Y Y p0_1.gens,AB 55 2 CZ AX p0_1.ring,own CY (.cells #[vP BK 0,By,Y p0_2.gen,Y p0_2.boot,AT p0_2.seals,.map (some Bx)] 137),AB 55 2 By AX p0_2.ring,Aa Bx Y vB p0_2.taken,own BK (.cells #[vB p0_3.off,vB p0_3.isCut,vI p0_3.lasts,vI p0_3.counts,BV,.map (some BT),.map (some BU),AT p0_3.rcnt,vS p0_3.rtag,Y p0_3.rboots] 102),AB 9 1 BV eS p0_3.blocks,Aa BT Y vS p0_3.pend,Aa BU Y vB p0_3.bad] H (fun u M=>∃vs0_0_0:Value,u=.tuple #[]∧M=[own Ao (.cells #[vs0_0_0,vB r.isOpen,vP DV 0,vB r.closed] 85),AB 105 5 vs0_0_0 CE r.ops,own DV (.cells #[Ce,Cf,Cg,vP BK 0,vP CY 0,CZ,Y p0_1.gen,vB p0_1.bad] 95),AB 43 4 Ce AU p0_1.rows,AB 148 3 Cf AS p0_1.pages,Cy Cg Y Y p0_1.gens,AB 55 2 CZ AX p0_1.ring,own CY (.cells #[vP BK 0,By,Y p0_2.gen,Y p0_2.boot,AT p0_2.seals,.map (some Bx)] 137),AB 55 2 By AX p0_2.ring,Aa Bx Y vB p0_2.taken,own BK (.cells #[vB p0_3.off,vB p0_3.isCut,vI p0_3.lasts,vI p0_3.counts,BV,.map (some BT),.map (some BU),AT p0_3.rcnt,vS p0_3.rtag,Y p0_3.rboots] 102),AB 9 1 BV eS p0_3.blocks,Aa BT Y vS p0_3.pend,Aa BU Y vB p0_3.bad]):=by
 unfold LJ at h
 refine T3.enter Tryz.func34 rfl rfl ?_
 refine AN (J E (J E (AQ E E (AE E P0 (A5 0 E E E E nL E E E zT (CB 105 5 CE (AQ E E (AE E TO ?_))))))))
 refine A5 1 E E E E Rx E E E zT (AY ?_)
 obtain rfl:=zI h
 exact DF (Dr E) (Ad (M:=[_,_,_,_,_,_,_,_,_,_,_,_,_,_]) ⟨zN,E,E⟩ fun _ hw=>BX.pick (H:=[_,_,_,_,_,_,_,_,_,_,_,_,_,_,_]) hw [1,0,3,4,5,6,7,8,9,10,11,12,13,14] 15 E)
def I4(p0:DZ)(p0_1:Bj)(p0_2:Aw)(p0_3:Af):Option (List Is×DZ):=
 some (p0.ops,{ p0 with ops:=[],isOpen:=false })
theorem T9{Ao DV CY Bx BK BT BU:Nat}{Am Ce Cf Cg CZ By BV:Value}{p0:DZ}{p0_1:Bj}{p0_2:Aw}{p0_3:Af}{r:List Is×DZ}(h:I4 p0 p0_1 p0_2 p0_3=some r): zC K w0 35 [vP Ao 0] [own Ao (.cells #[Am,vB p0.isOpen,vP DV 0,vB p0.closed] 85),AB 105 5 Am CE p0.ops,own DV (.cells #[Ce,Cf,Cg,vP BK 0,vP CY 0,CZ,Y p0_1.gen,vB p0_1.bad] 95),AB 43 4 Ce AU p0_1.rows,AB 148 3 Cf AS p0_1.pages,Cy Cg Y Y p0_1.gens,AB 55 2 CZ AX p0_1.ring,own CY (.cells #[vP BK 0,By,Y p0_2.gen,Y p0_2.boot,AT p0_2.seals,.map (some Bx)] 137),AB 55 2 By AX p0_2.ring,Aa Bx Y vB p0_2.taken,own BK (.cells #[vB p0_3.off,vB p0_3.isCut,vI p0_3.lasts,vI p0_3.counts,BV,.map (some BT),.map (some BU),AT p0_3.rcnt,vS p0_3.rtag,Y p0_3.rboots] 102),AB 9 1 BV eS p0_3.blocks,Aa BT Y vS p0_3.pend,Aa BU Y vB p0_3.bad] H (fun u M=>∃v0 vs0_0_0:Value,u=v0∧M=[AB 105 5 v0 CE r.1,own Ao (.cells #[vs0_0_0,vB r.2.isOpen,vP DV 0,vB r.2.closed] 85),AB 105 5 vs0_0_0 CE r.2.ops,own DV (.cells #[Ce,Cf,Cg,vP BK 0,vP CY 0,CZ,Y p0_1.gen,vB p0_1.bad] 95),AB 43 4 Ce AU p0_1.rows,AB 148 3 Cf AS p0_1.pages,Cy Cg Y Y p0_1.gens,AB 55 2 CZ AX p0_1.ring,own CY (.cells #[vP BK 0,By,Y p0_2.gen,Y p0_2.boot,AT p0_2.seals,.map (some Bx)] 137),AB 55 2 By AX p0_2.ring,Aa Bx Y vB p0_2.taken,own BK (.cells #[vB p0_3.off,vB p0_3.isCut,vI p0_3.lasts,vI p0_3.counts,BV,.map (some BT),.map (some BU),AT p0_3.rcnt,vS p0_3.rtag,Y p0_3.rboots] 102),AB 9 1 BV eS p0_3.blocks,Aa BT Y vS p0_3.pend,Aa BU Y vB p0_3.bad]):=by
 unfold I4 at h
 refine T3.enter Tryz.func35 rfl rfl ?_
 refine V (CB 105 5 CE (O E (U (V (J E (AQ E E (AE E P0 (AF 1 Z1 E (O E (U (V (J E ?_))))))))))))
 refine J E (AQ E E (AE E P0 (A5 1 E E E E nL E E E zT (CB 105 5 CE (AQ E E (AE E TO (A5 2 E E E E Rx E E E zT (U (V ?_)))))))))
 refine J E (O E (U (AJ ?_)))
 obtain rfl:=zI h
 exact Bm [3,2,0,4,5,6,7,8,9,10,11,12,13,14,15] 16 (C1 E E) E E ⟨Am,(.slice none 0 0),E,E⟩
def Fm(p0:DZ)(p0_1:Bj)(p0_2:Aw)(p0_3:Af):Option (Int×DZ):=
 (C4 p0 p0_1 p0_2 p0_3).bind fun y1=>
 ret (!decide (y1=0)) fun x1=>
 cond x1
 (
  some (y1,p0))
 (
  cond p0.isOpen
  (
   some (140,p0))
  (
   (LJ p0 p0_1 p0_2 p0_3).bind fun y2=>
   some (0,y2)))
theorem PA{Ao DV CY Bx BK BT BU:Nat}{Am Ce Cf Cg CZ By BV:Value}{p0:DZ}{p0_1:Bj}{p0_2:Aw}{p0_3:Af}{r:Int×DZ}(h:Fm p0 p0_1 p0_2 p0_3=some r): zC K w0 9 [vP Ao 0] [own Ao (.cells #[Am,vB p0.isOpen,vP DV 0,vB p0.closed] 85),AB 105 5 Am CE p0.ops,own DV (.cells #[Ce,Cf,Cg,vP BK 0,vP CY 0,CZ,Y p0_1.gen,vB p0_1.bad] 95),AB 43 4 Ce AU p0_1.rows,AB 148 3 Cf AS p0_1.pages,Cy Cg Y Y p0_1.gens,AB 55 2 CZ AX p0_1.ring,own CY (.cells #[vP BK 0,By,Y p0_2.gen,Y p0_2.boot,AT p0_2.seals,.map (some Bx)] 137),AB 55 2 By AX p0_2.ring,Aa Bx Y vB p0_2.taken,own BK (.cells #[vB p0_3.off,vB p0_3.isCut,vI p0_3.lasts,vI p0_3.counts,BV,.map (some BT),.map (some BU),AT p0_3.rcnt,vS p0_3.rtag,Y p0_3.rboots] 102),AB 9 1 BV eS p0_3.blocks,Aa BT Y vS p0_3.pend,Aa BU Y vB p0_3.bad] H (fun u M=>∃vs0_0_0:Value,u=vI r.1∧M=[own Ao (.cells #[vs0_0_0,vB r.2.isOpen,vP DV 0,vB r.2.closed] 85),AB 105 5 vs0_0_0 CE r.2.ops,own DV (.cells #[Ce,Cf,Cg,vP BK 0,vP CY 0,CZ,Y p0_1.gen,vB p0_1.bad] 95),AB 43 4 Ce AU p0_1.rows,AB 148 3 Cf AS p0_1.pages,Cy Cg Y Y p0_1.gens,AB 55 2 CZ AX p0_1.ring,own CY (.cells #[vP BK 0,By,Y p0_2.gen,Y p0_2.boot,AT p0_2.seals,.map (some Bx)] 137),AB 55 2 By AX p0_2.ring,Aa Bx Y vB p0_2.taken,own BK (.cells #[vB p0_3.off,vB p0_3.isCut,vI p0_3.lasts,vI p0_3.counts,BV,.map (some BT),.map (some BU),AT p0_3.rcnt,vS p0_3.rtag,Y p0_3.rboots] 102),AB 9 1 BV eS p0_3.blocks,Aa BT Y vS p0_3.pend,Aa BU Y vB p0_3.bad]):=by
 unfold Fm at h
 refine T3.enter Tryz.func9 rfl rfl ?_
 refine V (O E (U (V ?_)))
 refine AD h fun y1 hy1 h=>?_
 refine J E (AP 14 X8 (Gz hy1) E (O E (U (AG (AM (V ?_))))))
 obtain⟨x1,ex1,h⟩:=Bu h
 refine J E (Z E BJ ?_)
 refine Ai (u:=vB x1) E E (congrArg vB ex1) ?_
 refine U ?_
 refine AL h E (fun hc1 h=>?_) fun hc1 h=>?_
 refine V (J E (O E (U (AJ (BC (Ab ?_))))))
 obtain rfl:=zI h
 exact Bm [0,1,2,3,4,5,6,7,8,9,10,11,12,13] 14 (C1 E E) E E ⟨Am,E,E⟩
 refine V (J E (AQ E E (AE E P1 (AE E TO (AF 0 WH E (O E (U ?_)))))))
 refine AL h E (fun hc2 h=>?_) fun hc2 h=>?_
 refine V (O E (U (AJ (BC (Ab ?_)))))
 obtain rfl:=zI h
 exact Bm [0,1,2,3,4,5,6,7,8,9,10,11,12,13] 14 (C1 E E) E E ⟨Am,E,E⟩
 refine AI (Aj (AH (V ?_)))
 refine AD h fun y2 hy2 h=>?_
 refine J E (AQ E E (AE E P1 (BO 14 rg ((TW hy2 :)) E ?_)))
 rintro _ _ ⟨v1,rfl,rfl⟩
 refine U (V (O E (U (AJ ?_))))
 obtain rfl:=zI h
 exact Bm [0,1,2,3,4,5,6,7,8,9,10,11,12,13] 14 (C1 E E) E E ⟨v1,E,E⟩
def Gb(y2:List Is×DZ)(o1:Bj)(o2:Af)(o3:Aw)(a1:Int):Option (Int×DZ×Bj×Aw×Af):=
 some (a1,y2.2,o1,o3,o2)
def DX(n:Nat)(T:List UInt32)(p0:DZ)(p0_1:Bj)(p0_2:Aw)(p0_3:Af):Option (Int×DZ×Bj×Aw×Af):=
 (C4 p0 p0_1 p0_2 p0_3).bind fun y1=>
 ret (!decide (y1=0)) fun x1=>
 cond x1
 (
  some (y1,p0,p0_1,p0_2,p0_3))
 (
  ret (!p0.isOpen) fun x2=>
  cond x2
  (
   some (140,p0,p0_1,p0_2,p0_3))
  (
   (I4 p0 p0_1 p0_2 p0_3).bind fun y2=>
   cond (decide (0<(y2.1.length:Int)))
   (
    (Cn n T p0_1 p0_2 p0_3 y2.1).bind fun y3=>
    Gb y2 y3.2.2.1 y3.2.2.2.2 y3.2.2.2.1 y3.2.1)
   (
    Gb y2 p0_1 p0_3 p0_2 y1)))
theorem LH{n Ao DV CY Bx BK BT BU:Nat}{T:List UInt32}{Am Ce Cf Cg CZ By BV:Value}{p0:DZ}{p0_1:Bj}{p0_2:Aw}{p0_3:Af}{r:Int×DZ×Bj×Aw×Af}(h:DX n T p0 p0_1 p0_2 p0_3=some r)(hS:Ge K w0 T):zC K w0 11 [vP Ao 0] [own Ao (.cells #[Am,vB p0.isOpen,vP DV 0,vB p0.closed] 85),AB 105 5 Am CE p0.ops,own DV (.cells #[Ce,Cf,Cg,vP BK 0,vP CY 0,CZ,Y p0_1.gen,vB p0_1.bad] 95),AB 43 4 Ce AU p0_1.rows,AB 148 3 Cf AS p0_1.pages,Cy Cg Y Y p0_1.gens,AB 55 2 CZ AX p0_1.ring,own CY (.cells #[vP BK 0,By,Y p0_2.gen,Y p0_2.boot,AT p0_2.seals,.map (some Bx)] 137),AB 55 2 By AX p0_2.ring,Aa Bx Y vB p0_2.taken,own BK (.cells #[vB p0_3.off,vB p0_3.isCut,vI p0_3.lasts,vI p0_3.counts,BV,.map (some BT),.map (some BU),AT p0_3.rcnt,vS p0_3.rtag,Y p0_3.rboots] 102),AB 9 1 BV eS p0_3.blocks,Aa BT Y vS p0_3.pend,Aa BU Y vB p0_3.bad] H (fun u M=>∃vs0_0_0 vs0_1_0 vs0_1_1 vs0_1_2:Value,u=vI r.1∧M=[own Ao (.cells #[vs0_0_0,vB r.2.1.isOpen,vP DV 0,vB r.2.1.closed] 85),AB 105 5 vs0_0_0 CE r.2.1.ops,own DV (.cells #[vs0_1_0,vs0_1_1,vs0_1_2,vP BK 0,vP CY 0,CZ,Y r.2.2.1.gen,vB r.2.2.1.bad] 95),AB 43 4 vs0_1_0 AU r.2.2.1.rows,AB 148 3 vs0_1_1 AS r.2.2.1.pages,Cy vs0_1_2 Y Y r.2.2.1.gens,AB 55 2 CZ AX r.2.2.1.ring,own CY (.cells #[vP BK 0,By,Y r.2.2.2.1.gen,Y r.2.2.2.1.boot,AT r.2.2.2.1.seals,.map (some Bx)] 137),AB 55 2 By AX r.2.2.2.1.ring,Aa Bx Y vB r.2.2.2.1.taken,own BK (.cells #[vB r.2.2.2.2.off,vB r.2.2.2.2.isCut,vI r.2.2.2.2.lasts,vI r.2.2.2.2.counts,BV,.map (some BT),.map (some BU),AT r.2.2.2.2.rcnt,vS r.2.2.2.2.rtag,Y r.2.2.2.2.rboots] 102),AB 9 1 BV eS r.2.2.2.2.blocks,Aa BT Y vS r.2.2.2.2.pend,Aa BU Y vB r.2.2.2.2.bad]):=by
 unfold DX at h
 refine T3.enter Tryz.func11 rfl rfl ?_
 refine V (O E (U (V ?_)))
 refine AD h fun y1 hy1 h=>?_
 refine J E (AP 14 X8 (Gz hy1) E (O E (U (AG (AM (V ?_))))))
 obtain⟨x1,ex1,h⟩:=Bu h
 refine J E (Z E BJ ?_)
 refine Ai (u:=vB x1) E E (congrArg vB ex1) ?_
 refine U ?_
 refine AL h E (fun hc1 h=>?_) fun hc1 h=>?_
 refine V (J E (O E (U (AJ (BC (Ab ?_))))))
 obtain rfl:=zI h
 exact Bm [0,1,2,3,4,5,6,7,8,9,10,11,12,13] 14 (C1 E E) E E ⟨Am,Ce,Cf,Cg,E,E⟩
 refine V ?_
 obtain⟨x2,ex2,h⟩:=Bu h
 refine J E (AQ E E (AE E P1 (AE E TO (AF 0 WH E (CT E E ?_)))))
 refine Ai (u:=vB x2) E E (congrArg vB ex2) ?_
 refine U ?_
 refine AL h E (fun hc2 h=>?_) fun hc2 h=>?_
 refine V (O E (U (AJ (BC (Ab ?_)))))
 obtain rfl:=zI h
 exact Bm [0,1,2,3,4,5,6,7,8,9,10,11,12,13] 14 (C1 E E) E E ⟨Am,Ce,Cf,Cg,E,E⟩
 refine AI (Aj (AH (V ?_)))
 refine AD h fun y2 hy2 h=>?_
 refine J E (AQ E E (AE E P1 ?_))
 refine Bg (vs:=[_]) (Hin:=[_,_,_,_,_,_,_,_,_,_,_,_,_,_]) (Hr:=_) E E ⟨E,zT⟩ rh E E ((T9 hy2 :)) ?_
 rintro v1 _ ⟨_,v2,rfl,rfl⟩
 refine⟨trivial,?_⟩
 refine O E (U ?_)
 refine A9 (α:=Bj×Value×Value×Value×Af×Aw×Int) (fun x=>Gb y2 x.1 x.2.2.2.2.1 x.2.2.2.2.2.1 x.2.2.2.2.2.2=some r) (fun x=>[(0,vP Ao 0),(3,vI x.2.2.2.2.2.2)]) (fun x=>own Ao (.cells #[v2,vB y2.2.isOpen,vP DV 0,vB y2.2.closed] 85)::AB 105 5 v2 CE y2.2.ops::own DV (.cells #[x.2.1,x.2.2.1,x.2.2.2.1,vP BK 0,vP CY 0,CZ,Y x.1.gen,vB x.1.bad] 95)::AB 43 4 x.2.1 AU x.1.rows::AB 148 3 x.2.2.1 AS x.1.pages::Cy x.2.2.2.1 Y Y x.1.gens::own BK (.cells #[vB x.2.2.2.2.1.off,vB x.2.2.2.2.1.isCut,vI x.2.2.2.2.1.lasts,vI x.2.2.2.2.1.counts,BV,.map (some BT),.map (some BU),AT x.2.2.2.2.1.rcnt,vS x.2.2.2.2.1.rtag,Y x.2.2.2.2.1.rboots] 102)::AB 9 1 BV eS x.2.2.2.2.1.blocks::Aa BT Y vS x.2.2.2.2.1.pend::Aa BU Y vB x.2.2.2.2.1.bad::own CY (.cells #[vP BK 0,By,Y x.2.2.2.2.2.1.gen,Y x.2.2.2.2.2.1.boot,AT x.2.2.2.2.2.1.seals,.map (some Bx)] 137)::AB 55 2 By AX x.2.2.2.2.2.1.ring::Aa Bx Y vB x.2.2.2.2.2.1.taken::AB 55 2 CZ AX x.1.ring::H) ?_ (fun x D h=>?_)
 refine V (J E (Dj 0 E Rq E E (Z E Cu (U ?_))))
 refine AL h E (fun hc3 h=>?_) fun hc3 h=>?_
 refine AN ?_
 refine AD h fun y3 hy3 h=>?_
 refine J E (AQ E E (AE E XQ (AF 1 jD E (J E (SL.pick [0,3,4,5,6,7,8,9,10,11,12,13,14,1,2] 15 ?_)))))
 refine Bg (vs:=[_,_]) (Hin:=[_,_,_,_,_,_,_,_,_,_,_,_,_]) (Hr:=_::_::_) E E ⟨E,E,zT⟩ lW E E (Co (B:=[_]) (Hin:=[_,_,_,_,_,_,_,_,_,_,_,_]) fun K' w1 hk hB=>NM hy3 (hS.keeps hk) (CO (e:=105) (v:=v1) zV (hB _ zS))) ?_
 rintro _ _ ⟨_,rfl,v6,v7,v8,rfl,rfl⟩
 refine⟨trivial,?_⟩
 refine J E (Ac E E E (Ac E E E (O E (AY ?_))))
 exact Aq (y3.2.2.1,v6,v7,v8,y3.2.2.2.2,y3.2.2.2.1,y3.2.1) h tL (BN [13,14,1,2,3,4,9,10,11,12,6,7,8,5] 15 E E E)
 refine AI ?_
 exact Aq (p0_1,Ce,Cf,Cg,p0_3,p0_2,y1) h tL (BN [1,2,3,4,5,6,11,12,13,14,8,9,10,7] 15 E E E)
 obtain⟨o1,v3,v4,v5,o2,o3,a1⟩:=x
 dsimp only at h
 unfold Gb at h
 try dsimp only
 refine V (J E (O E (U (AJ ?_))))
 obtain rfl:=zI h
 exact Bm [0,1,2,3,4,5,13,10,11,12,6,7,8,9] 14 (C1 E E) E E ⟨v2,v3,v4,v5,E,E⟩
def J2(p0:DZ)(p0_1:Bj)(p0_2:Aw)(p0_3:Af):Option Int:=
 (C4 p0 p0_1 p0_2 p0_3).bind fun y1=>
 cond ((!decide (y1=0))||(!p0.isOpen))
 (
  some (-1))
 (
  some (p0.ops.length:Int))
theorem Uw{Ao DV CY Bx BK BT BU:Nat}{Am Ce Cf Cg CZ By BV:Value}{p0:DZ}{p0_1:Bj}{p0_2:Aw}{p0_3:Af}{r:Int}(h:J2 p0 p0_1 p0_2 p0_3=some r): zC K w0 26 [vP Ao 0] [own Ao (.cells #[Am,vB p0.isOpen,vP DV 0,vB p0.closed] 85),AB 105 5 Am CE p0.ops,own DV (.cells #[Ce,Cf,Cg,vP BK 0,vP CY 0,CZ,Y p0_1.gen,vB p0_1.bad] 95),AB 43 4 Ce AU p0_1.rows,AB 148 3 Cf AS p0_1.pages,Cy Cg Y Y p0_1.gens,AB 55 2 CZ AX p0_1.ring,own CY (.cells #[vP BK 0,By,Y p0_2.gen,Y p0_2.boot,AT p0_2.seals,.map (some Bx)] 137),AB 55 2 By AX p0_2.ring,Aa Bx Y vB p0_2.taken,own BK (.cells #[vB p0_3.off,vB p0_3.isCut,vI p0_3.lasts,vI p0_3.counts,BV,.map (some BT),.map (some BU),AT p0_3.rcnt,vS p0_3.rtag,Y p0_3.rboots] 102),AB 9 1 BV eS p0_3.blocks,Aa BT Y vS p0_3.pend,Aa BU Y vB p0_3.bad] H (fun u M=>u=vI r∧M=[own Ao (.cells #[Am,vB p0.isOpen,vP DV 0,vB p0.closed] 85),AB 105 5 Am CE p0.ops,own DV (.cells #[Ce,Cf,Cg,vP BK 0,vP CY 0,CZ,Y p0_1.gen,vB p0_1.bad] 95),AB 43 4 Ce AU p0_1.rows,AB 148 3 Cf AS p0_1.pages,Cy Cg Y Y p0_1.gens,AB 55 2 CZ AX p0_1.ring,own CY (.cells #[vP BK 0,By,Y p0_2.gen,Y p0_2.boot,AT p0_2.seals,.map (some Bx)] 137),AB 55 2 By AX p0_2.ring,Aa Bx Y vB p0_2.taken,own BK (.cells #[vB p0_3.off,vB p0_3.isCut,vI p0_3.lasts,vI p0_3.counts,BV,.map (some BT),.map (some BU),AT p0_3.rcnt,vS p0_3.rtag,Y p0_3.rboots] 102),AB 9 1 BV eS p0_3.blocks,Aa BT Y vS p0_3.pend,Aa BU Y vB p0_3.bad]):=by
 unfold J2 at h
 refine T3.enter Tryz.func26 rfl rfl ?_
 refine V (O E (U (AG (V ?_))))
 refine AD h fun y1 hy1 h=>?_
 refine J E (AP 14 X8 (Gz hy1) E (Z E BJ (J E ?_)))
 refine Eg (c := !p0.isOpen) 6 7 13 E (fun hb k=>?_) (fun hb k=>?_) ?_
 refine AC E (AC E (AC E (AC E (AC E (AC E (Ag E E E ?_))))))
 exact k.mono tL
 refine J E (AQ E E (AE E P1 (AE E TO (AF 0 WH E (CT E E (Ag E E E ?_))))))
 exact k.mono tL
 refine U ?_
 refine AL h E (fun hc1 h=>?_) fun hc1 h=>?_
 refine V (O E (U (AJ (Ab ?_))))
 obtain rfl:=zI h
 exact AW [0,1,2,3,4,5,6,7,8,9,10,11,12,13] 14 E E E
 refine AI (AH (V (J E (AQ E E (AE E P1 (AE E P0 (AF 0 Z1 E (Dj 1 E Rq E E (O E (U (AJ ?_)))))))))))
 obtain rfl:=zI h
 exact AW [0,1,2,3,4,5,6,7,8,9,10,11,12,13] 14 E E E
def FW(n:Nat)(T:List UInt32)(p0:DZ)(p0_1:Bj)(p0_2:Aw)(p0_3:Af)(p1:Is):Option (Int×DZ×Bj×Aw×Af):=
 (C4 p0 p0_1 p0_2 p0_3).bind fun y1=>
 ret (!decide (y1=0)) fun x1=>
 cond x1
 (
  some (y1,p0,p0_1,p0_2,p0_3))
 (
  cond p0.isOpen
  (
   (Cr p0_1 p0_2 p0_3).bind fun y2=>
   (Vn n p0 y2 p1).bind fun y3=>
   some (y3.1,y3.2,p0_1,p0_2,p0_3))
  (
   (Cn n T p0_1 p0_2 p0_3 [p1]).bind fun y4=>
   some (y4.2.1,p0,y4.2.2.1,y4.2.2.2.1,y4.2.2.2.2)))
theorem TV{n Ao DV CY Bx BK BT BU:Nat}{T:List UInt32}{Am Ce Cf Cg CZ By BV:Value}{p0:DZ}{p0_1:Bj}{p0_2:Aw}{p0_3:Af}{p1:Is}{r:Int×DZ×Bj×Aw×Af}(h:FW n T p0 p0_1 p0_2 p0_3 p1=some r)(hS:Ge K w0 T):zC K w0 38 [vP Ao 0,.agg (CE p1).toArray] [own Ao (.cells #[Am,vB p0.isOpen,vP DV 0,vB p0.closed] 85),AB 105 5 Am CE p0.ops,own DV (.cells #[Ce,Cf,Cg,vP BK 0,vP CY 0,CZ,Y p0_1.gen,vB p0_1.bad] 95),AB 43 4 Ce AU p0_1.rows,AB 148 3 Cf AS p0_1.pages,Cy Cg Y Y p0_1.gens,AB 55 2 CZ AX p0_1.ring,own CY (.cells #[vP BK 0,By,Y p0_2.gen,Y p0_2.boot,AT p0_2.seals,.map (some Bx)] 137),AB 55 2 By AX p0_2.ring,Aa Bx Y vB p0_2.taken,own BK (.cells #[vB p0_3.off,vB p0_3.isCut,vI p0_3.lasts,vI p0_3.counts,BV,.map (some BT),.map (some BU),AT p0_3.rcnt,vS p0_3.rtag,Y p0_3.rboots] 102),AB 9 1 BV eS p0_3.blocks,Aa BT Y vS p0_3.pend,Aa BU Y vB p0_3.bad] H (fun u M=>∃vs0_0_0 vs0_1_0 vs0_1_1 vs0_1_2:Value,u=vI r.1∧M=[own Ao (.cells #[vs0_0_0,vB r.2.1.isOpen,vP DV 0,vB r.2.1.closed] 85),AB 105 5 vs0_0_0 CE r.2.1.ops,own DV (.cells #[vs0_1_0,vs0_1_1,vs0_1_2,vP BK 0,vP CY 0,CZ,Y r.2.2.1.gen,vB r.2.2.1.bad] 95),AB 43 4 vs0_1_0 AU r.2.2.1.rows,AB 148 3 vs0_1_1 AS r.2.2.1.pages,Cy vs0_1_2 Y Y r.2.2.1.gens,AB 55 2 CZ AX r.2.2.1.ring,own CY (.cells #[vP BK 0,By,Y r.2.2.2.1.gen,Y r.2.2.2.1.boot,AT r.2.2.2.1.seals,.map (some Bx)] 137),AB 55 2 By AX r.2.2.2.1.ring,Aa Bx Y vB r.2.2.2.1.taken,own BK (.cells #[vB r.2.2.2.2.off,vB r.2.2.2.2.isCut,vI r.2.2.2.2.lasts,vI r.2.2.2.2.counts,BV,.map (some BT),.map (some BU),AT r.2.2.2.2.rcnt,vS r.2.2.2.2.rtag,Y r.2.2.2.2.rboots] 102),AB 9 1 BV eS r.2.2.2.2.blocks,Aa BT Y vS r.2.2.2.2.pend,Aa BU Y vB r.2.2.2.2.bad]):=by
 unfold FW at h
 refine T3.enter Tryz.func38 rfl rfl ?_
 refine V ?_
 refine Bc E E zU fun b1=>?_
 refine O E (U (V ?_))
 refine AD h fun y1 hy1 h=>?_
 refine J E (SL.pick [1,2,3,4,5,6,7,8,9,10,11,12,13,14,0] 15 (AP 14 X8 (Gz hy1) E (O E (U (AG (AM (V ?_)))))))
 obtain⟨x1,ex1,h⟩:=Bu h
 refine J E (Z E BJ ?_)
 refine Ai (u:=vB x1) E E (congrArg vB ex1) ?_
 refine U ?_
 refine AL h E (fun hc1 h=>?_) fun hc1 h=>?_
 refine V (J E (O E (U (AJ (BC (Ab ?_))))))
 obtain rfl:=zI h
 exact Bm [0,1,2,3,4,5,6,7,8,9,10,11,12,13] 15 (C1 E E) E E ⟨Am,Ce,Cf,Cg,E,E⟩
 refine V (J E (AQ E E (AE E P1 (AE E TO (AF 0 WH E (O E (U ?_)))))))
 refine AL h E (fun hc2 h=>?_) fun hc2 h=>?_
 refine AG ?_
 refine AD h fun y2 hy2 h=>?_
 refine AD h fun y3 hy3 h=>?_
 refine Av DH [0,14] (CA [(true,0),(true,1),(true,2),(true,3),(true,4),(true,5),(true,6),(true,8),(false,7)] (.last 9 (C7 [(false,10)]))) zK (J E (AQ E E (AE E P1 (J E (AQ E E (AE E XQ (AF 0 jD E ?_)))))))
 refine Ap [vI p1.kind,AT p1.id,Y p1.x,Y p1.y,vS p1.txt] E Qz E E (Ah 1 E) (SL.pick [2,3,4,5,6,7,8,9,10,11,12,13,0,1] 14 ?_)
 refine Bg (vs:=[_]) (Hin:=[_,_,_,_,_,_,_,_,_,_,_,_]) (Hr:=_::_::_::_) E E ⟨E,zT⟩ fe E E (LI hy2) ?_
 rintro v1 _ ⟨_,rfl,rfl⟩
 refine⟨⟨⟨13,rfl⟩,⟨15,rfl⟩,trivial⟩,?_⟩
 refine BY (SL.pick [0,13,14,1,2,3,4,5,6,7,8,9,10,11,12] 15 ?_)
 refine Bg (vs:=[_,_,_]) (Hin:=[_,_,_]) (Hr:=_::_::_::_::_::_::_::_::_::_::_::_::_::_) E E ⟨E,E,E,zT⟩ sA E E (Co (B:=[_]) (Hin:=[_,_]) fun K' w1 hk hB=>(oL hy3 (CO (e:=43) (v:=v1) zV (hB _ zS)) :)) ?_
 rintro _ _ ⟨_,rfl,v2,rfl,rfl⟩
 refine⟨trivial,?_⟩
 refine O E (U (AJ (BC (Ab ?_))))
 obtain rfl:=zI h
 exact Bm [1,2,3,4,5,6,7,8,9,10,11,12,13,14] 16 (C1 E E) E E ⟨v2,Ce,Cf,Cg,E,E⟩
 refine AI (Aj (AH (AG ?_)))
 refine AD h fun y4 hy4 h=>?_
 refine Av DH [0,14] (CA [(true,0),(true,1),(true,2),(true,3),(true,4),(false,5),(false,6),(false,7),(true,8),(false,9)] (.last 10 .nil)) zK (J E (AQ E E (AE E XQ (AF 0 jD E (Ap [vI p1.kind,AT p1.id,Y p1.x,Y p1.y,vS p1.txt] E Qz E E (Ah 1 E) ?_)))))
 refine CD [_] rfl Rq Uc WR ⟨rfl,trivial⟩ rfl rfl rfl zW rfl rfl (fun _=>⟨⟨1,rfl⟩,⟨15,rfl⟩,trivial⟩) fun b2=>?_
 refine CH CE 5 ([p1]:List Is) E zV E ?_
 refine SL.pick [0,3,4,5,6,7,8,9,10,11,12,13,14,1,2] 15 ?_
 refine Bg (vs:=[_,_]) (Hin:=[_,_,_,_,_,_,_,_,_,_,_,_,_]) (Hr:=_::_::_::_) E E ⟨E,E,zT⟩ lW E E (Co (B:=[_]) (Hin:=[_,_,_,_,_,_,_,_,_,_,_,_]) fun K' w1 hk hB=>NM hy4 (hS.keeps hk) (CO (e:=105) (v:=.slice (some ⟨b2,0,none⟩) 1 1) zV (hB _ zS))) ?_
 rintro _ _ ⟨_,rfl,v3,v4,v5,rfl,rfl⟩
 refine⟨⟨⟨13,rfl⟩,⟨15,rfl⟩,trivial⟩,?_⟩
 refine J E (Ac E E E (Ac E E E (BY (O E (U (V (J E (O E (U (AJ ?_))))))))))
 obtain rfl:=zI h
 exact Bm [13,14,1,2,3,4,5,6,7,8,9,10,11,12] 16 (C1 E E) E E ⟨Am,v3,v4,v5,E,E⟩
def DO(n:Nat)(T:List UInt32)(p0:DZ)(p0_1:Bj)(p0_2:Aw)(p0_3:Af)(p1:Ak):Option (Int×DZ×Bj×Aw×Af):=
 (FW n T p0 p0_1 p0_2 p0_3 (⟨1,p1.id,p1.x,p1.y,p1.txt⟩:Is)).bind fun y1=>
 some (y1.1,y1.2.1,y1.2.2.1,y1.2.2.2.1,y1.2.2.2.2)
theorem NY{n Ao DV CY Bx BK BT BU:Nat}{T:List UInt32}{Am Ce Cf Cg CZ By BV:Value}{p0:DZ}{p0_1:Bj}{p0_2:Aw}{p0_3:Af}{p1:Ak}{r:Int×DZ×Bj×Aw×Af}(h:DO n T p0 p0_1 p0_2 p0_3 p1=some r)(hS:Ge K w0 T):zC K w0 15 [vP Ao 0,.agg (AU p1).toArray] [own Ao (.cells #[Am,vB p0.isOpen,vP DV 0,vB p0.closed] 85),AB 105 5 Am CE p0.ops,own DV (.cells #[Ce,Cf,Cg,vP BK 0,vP CY 0,CZ,Y p0_1.gen,vB p0_1.bad] 95),AB 43 4 Ce AU p0_1.rows,AB 148 3 Cf AS p0_1.pages,Cy Cg Y Y p0_1.gens,AB 55 2 CZ AX p0_1.ring,own CY (.cells #[vP BK 0,By,Y p0_2.gen,Y p0_2.boot,AT p0_2.seals,.map (some Bx)] 137),AB 55 2 By AX p0_2.ring,Aa Bx Y vB p0_2.taken,own BK (.cells #[vB p0_3.off,vB p0_3.isCut,vI p0_3.lasts,vI p0_3.counts,BV,.map (some BT),.map (some BU),AT p0_3.rcnt,vS p0_3.rtag,Y p0_3.rboots] 102),AB 9 1 BV eS p0_3.blocks,Aa BT Y vS p0_3.pend,Aa BU Y vB p0_3.bad] H (fun u M=>∃vs0_0_0 vs0_1_0 vs0_1_1 vs0_1_2:Value,u=vI r.1∧M=[own Ao (.cells #[vs0_0_0,vB r.2.1.isOpen,vP DV 0,vB r.2.1.closed] 85),AB 105 5 vs0_0_0 CE r.2.1.ops,own DV (.cells #[vs0_1_0,vs0_1_1,vs0_1_2,vP BK 0,vP CY 0,CZ,Y r.2.2.1.gen,vB r.2.2.1.bad] 95),AB 43 4 vs0_1_0 AU r.2.2.1.rows,AB 148 3 vs0_1_1 AS r.2.2.1.pages,Cy vs0_1_2 Y Y r.2.2.1.gens,AB 55 2 CZ AX r.2.2.1.ring,own CY (.cells #[vP BK 0,By,Y r.2.2.2.1.gen,Y r.2.2.2.1.boot,AT r.2.2.2.1.seals,.map (some Bx)] 137),AB 55 2 By AX r.2.2.2.1.ring,Aa Bx Y vB r.2.2.2.1.taken,own BK (.cells #[vB r.2.2.2.2.off,vB r.2.2.2.2.isCut,vI r.2.2.2.2.lasts,vI r.2.2.2.2.counts,BV,.map (some BT),.map (some BU),AT r.2.2.2.2.rcnt,vS r.2.2.2.2.rtag,Y r.2.2.2.2.rboots] 102),AB 9 1 BV eS r.2.2.2.2.blocks,Aa BT Y vS r.2.2.2.2.pend,Aa BU Y vB r.2.2.2.2.bad]):=by
 unfold DO at h
 refine T3.enter Tryz.func15 rfl rfl ?_
 refine V ?_
 refine Bc E E zU fun b1=>?_
 refine O E (U (V ?_))
 refine AD h fun y1 hy1 h=>?_
 refine J E (Ap [AT p1.id,Y p1.x,Y p1.y,vS p1.txt] E GN E E (Ah 0 E) (B5 [_,_] E si sU WR ⟨E,E,zT⟩ E (SL.pick [1,2,3,4,5,6,7,8,9,10,11,12,13,14,0] 15 (BO 14 ri ((TV hy1 hS :)) E ?_))))
 rintro _ _ ⟨v1,v2,v3,v4,rfl,rfl⟩
 refine O E (U (AJ ?_))
 obtain rfl:=zI h
 exact Bm [0,1,2,3,4,5,6,7,8,9,10,11,12,13] 15 (C1 E E) E E ⟨v1,v2,v3,v4,E,E⟩
def FA(n:Nat)(p0:DZ)(p0_1:Bj)(p0_2:Aw)(p0_3:Af)(p1:UInt64):Option (Ak×Int):=
 (C4 p0 p0_1 p0_2 p0_3).bind fun y1=>
 cond (!decide (y1=0))
 (
  some ((⟨0,0,0,[]⟩:Ak),y1))
 (
  (HH n p0_1 p0_2 p0_3 p1).bind fun y2=>
  some ((⟨y2.1.id,y2.1.x,y2.1.y,y2.1.txt⟩:Ak),y2.2))
theorem Qd{n Ao DV CY Bx BK BT BU:Nat}{Am Ce Cf Cg CZ By BV:Value}{p0:DZ}{p0_1:Bj}{p0_2:Aw}{p0_3:Af}{p1:UInt64}{r:Ak×Int}(h:FA n p0 p0_1 p0_2 p0_3 p1=some r): zC K w0 25 [vP Ao 0,AT p1] [own Ao (.cells #[Am,vB p0.isOpen,vP DV 0,vB p0.closed] 85),AB 105 5 Am CE p0.ops,own DV (.cells #[Ce,Cf,Cg,vP BK 0,vP CY 0,CZ,Y p0_1.gen,vB p0_1.bad] 95),AB 43 4 Ce AU p0_1.rows,AB 148 3 Cf AS p0_1.pages,Cy Cg Y Y p0_1.gens,AB 55 2 CZ AX p0_1.ring,own CY (.cells #[vP BK 0,By,Y p0_2.gen,Y p0_2.boot,AT p0_2.seals,.map (some Bx)] 137),AB 55 2 By AX p0_2.ring,Aa Bx Y vB p0_2.taken,own BK (.cells #[vB p0_3.off,vB p0_3.isCut,vI p0_3.lasts,vI p0_3.counts,BV,.map (some BT),.map (some BU),AT p0_3.rcnt,vS p0_3.rtag,Y p0_3.rboots] 102),AB 9 1 BV eS p0_3.blocks,Aa BT Y vS p0_3.pend,Aa BU Y vB p0_3.bad] H (fun u M=>u=.tuple #[.agg (AU r.1).toArray,vI r.2]∧M=[own Ao (.cells #[Am,vB p0.isOpen,vP DV 0,vB p0.closed] 85),AB 105 5 Am CE p0.ops,own DV (.cells #[Ce,Cf,Cg,vP BK 0,vP CY 0,CZ,Y p0_1.gen,vB p0_1.bad] 95),AB 43 4 Ce AU p0_1.rows,AB 148 3 Cf AS p0_1.pages,Cy Cg Y Y p0_1.gens,AB 55 2 CZ AX p0_1.ring,own CY (.cells #[vP BK 0,By,Y p0_2.gen,Y p0_2.boot,AT p0_2.seals,.map (some Bx)] 137),AB 55 2 By AX p0_2.ring,Aa Bx Y vB p0_2.taken,own BK (.cells #[vB p0_3.off,vB p0_3.isCut,vI p0_3.lasts,vI p0_3.counts,BV,.map (some BT),.map (some BU),AT p0_3.rcnt,vS p0_3.rtag,Y p0_3.rboots] 102),AB 9 1 BV eS p0_3.blocks,Aa BT Y vS p0_3.pend,Aa BU Y vB p0_3.bad]):=by
 unfold FA at h
 refine T3.enter Tryz.func25 rfl rfl ?_
 refine V ?_
 refine Al E HU zU fun b1=>?_
 refine O E (U (AG (V ?_)))
 refine AD h fun y1 hy1 h=>?_
 refine J E (SL.pick [1,2,3,4,5,6,7,8,9,10,11,12,13,14,0] 15 (AP 14 X8 (Gz hy1) E (O E (U (V (J E (Z E BJ (U ?_))))))))
 refine AL h E (fun hc1 h=>?_) fun hc1 h=>?_
 refine V (B5 [] E eL eJ HU zT E (J E (A5 14 E E E E Dq E E E zT (O E (U (AJ (Ab ?_)))))))
 obtain rfl:=zI h
 exact Ae (EN E (B9 14 (AU (⟨0,0,0,[]⟩:Ak)) GN E E E E) E) (Ad (M:=[_,_,_,_,_,_,_,_,_,_,_,_,_,_]) ⟨E,E⟩ fun _ hw=>BX.pick (H:=[_,_,_,_,_,_,_,_,_,_,_,_,_,_,_]) hw [0,1,2,3,4,5,6,7,8,9,10,11,12,13] 15 E)
 refine AI (AH (V ?_))
 refine AD h fun y2 hy2 h=>?_
 refine J E (AQ E E (AE E XQ (AF 0 jD E (J E (SL.pick [2,3,4,5,6,7,8,9,10,11,12,13,0,1] 14 (AP 12 rm (UE hy2) E (Ac E E E ?_)))))))
 refine Ac E E E (A5 14 E E E E Dq E E E zT (O E (U (AJ ?_))))
 obtain rfl:=zI h
 exact Ae (EN E (B9 14 (AU (⟨y2.1.id,y2.1.x,y2.1.y,y2.1.txt⟩:Ak)) GN E E E E) E) (Ad (M:=[_,_,_,_,_,_,_,_,_,_,_,_,_,_]) ⟨E,E⟩ fun _ hw=>BX.pick (H:=[_,_,_,_,_,_,_,_,_,_,_,_,_,_,_]) hw [12,13,0,1,2,3,4,5,6,7,8,9,10,11] 15 E)
end

section
structure ur where
 out:List A4
 rows:List Ak
 count:Int
 err:Int
end

section
variable {P:Program}{ro:Option Nat}{K:Nat→Prop}{w0:World}{N:Nat}{Q:DQ}{D:List Nat}{l l':Tm}{H H' Hs L:List AV}{ops:Array Oper}{items:Hd}
variable {tk:Bool}{o:Oper}{t:Nat}{v:Value}{x y z:Operand}
variable {α:Type}{enc:α→List Value}{sz:Nat}{xs us:List α}{e ty:TypeId}
end

section
variable {P:Program}{ro:Option Nat}{K:Nat→Prop}{w0:World}{N:Nat}{Q:DQ}{D:List Nat}{l l':Tm}{H H' Hs L:List AV}{ops:Array Oper}{items:Hd}
variable {tk:Bool}{o:Oper}{t:Nat}{v:Value}{x y z:Operand}
theorem kw{b off n c sz:Nat}{k k':IntKind}{i j:Int}{ty e:TypeId}(p q:Nat)(ho:At ops N l o t (.slice ty x (some y) (some z) none))(hty:P.underlying ty=some (.slice e))(hsz:DP P e=some sz)(hx:Bi l x=some (.slice (some ⟨b,off,none⟩) n c))(hy:Bi l y=some (.int k i))(hz:Bi l z=some (.int k' j))
(hi:i=(p:Int))(hj:j=(q:Int))(hp:p≤q)(hq:q≤c)(hpc:p<c)(h:SL P ro K w0 N ops Hs items Q D ((t,.slice (some ⟨b,off+p*sz,none⟩) (q-p) (c-p))::l) H):SL P ro K w0 N ops Hs (.cons (tk,o) items) Q D l H:=
 SL.val ho rfl (fun a w ha _=>by
  subst hi hj
  have hne:¬c=p:=zO
  simp only[execOp,ho.op,Instr.sliceAt,Instr.slice,Option.map]
  simp[ha.eval hx,ha.eval hy,ha.eval hz,An hty,Ch hsz,Instr.sliceBounds,Instr.sliceBound,asIntOf,hq,hp,Ci];omega) h
theorem k0{α:Type}{enc:α→List Value}{sz:Nat}{xs us:List α}{k k':IntKind}{i j:Int}{ty e:TypeId}(hn:Ix xs i j=some us)(hk:B6 K w0 enc sz v xs)(ho:At ops N l o t (.slice ty x (some y) (some z) none))(hty:P.underlying ty=some (.slice e))(hsz:DP P e=some sz)(hx:Bi l x=some v)(hy:Bi l y=some (.int k i))(hz:Bi l z=some (.int k' j))
(h:∀v',B6 K w0 enc sz v' us→SL P ro K w0 N ops Hs items Q D ((t,v')::l) H):SL P ro K w0 N ops Hs (.cons (tk,o) items) Q D l H:=by
 obtain⟨h1,h2,h3,h4,rfl⟩:=No hn
 have hi:i=(i.toNat:Int):=zO
 have hj:j=(j.toNat:Int):=zO
 generalize i.toNat=p at*
 generalize j.toNat=q at*
 subst hi hj
 rcases hk.at_ with⟨a0,rfl,rfl⟩ | ⟨b,off,cap,rfl,hcap,hc⟩
 have hq:q=0:=by simpa using h4
 have hp:p=0:=zO
 subst hq hp
 refine SL.val (v:=.slice a0 0 0) ho E (fun a w ha _=>?_) (h _ ⟨hk.len,.inl ⟨_,E,by simp⟩⟩)
 simp only[execOp,ho.op,Instr.sliceAt,Instr.slice,Option.map]
 cases a0<;>simp[ha.eval hx,ha.eval hy,ha.eval hz,An hty,Ch hsz,Instr.sliceBounds,Instr.sliceBound,asIntOf]
 have hl:((xs.drop p).take (q-p)).length=q-p:=by simp;omega
 by_cases hpc:p<cap
 refine kw p q ho hty hsz hx hy hz E E h3 zO hpc (h _ ⟨hk.len,.inr ⟨b,off+p*sz,cap-p,by rw[hl],by rw[hl];omega,fun j' u hu=>?_⟩⟩)
 have hc':=(ZV hk.len hcap hc (show p≤xs.length by omega)).at_
 have hpre:((xs.drop p).take (q-p))++((xs.drop p).drop (q-p))=xs.drop p:=List.take_append_drop ..
 have hlen:((xs.take p).flatMap enc).length=p*sz:=by rw[JG hk.len,List.length_take,Nat.min_eq_left zO]
 have:=hc (p*sz+j') u (by
  rw[←List.take_append_drop p xs,List.flatMap_append,List.getElem?_append_right zO,hlen,Nat.add_sub_cancel_left,←hpre,List.flatMap_append,List.getElem?_append_left (List.getElem?_eq_some_iff.1 hu).1]
  exact hu)
 rw[Nat.add_assoc]
 exact this
 have hpe:p=cap:=zO
 have hqe:q=p:=zO
 subst hqe
 refine SL.val (v:=.slice (some ⟨b,off,none⟩) 0 0) ho E (fun a w ha _=>?_) (h _ ⟨hk.len,.inl ⟨_,E,by simp⟩⟩)
 simp only[execOp,ho.op,Instr.sliceAt,Instr.slice,Option.map]
 simp[ha.eval hx,ha.eval hy,ha.eval hz,An hty,Ch hsz,Instr.sliceBounds,Instr.sliceBound,asIntOf,Ci,hpe]
end

section
variable {K:Nat→Prop}{w0:World}{H:List AV}
def ZY(x:CW):List Value:=[Y x.cx,Y x.cy,vI x.lev,.slice none 0 0,.slice none 0 0]
theorem nb:zC K w0 159 [zN] [] H (fun u M=>u=.agg #[Y 0,Y 0,vI 0,zN,zN]∧M=[]):=by
 refine T3.enter Tryz.func159 rfl rfl ?_
 refine V ?_
 refine Al E Ir zU fun b0=>?_
 refine U (AG (V (J E (IQ E Cz E (Z E Bq (U ?_))))))
 refine Ax E (fun hc1=>?_) (fun hc1=>absurd hc1 zD)
 refine V (B5 [] E cA bw Ir zT E (A5 0 E E E E Io E E E zT (U (AJ (Ab ?_)))))
 exact Ae (IK E (B9 0 [Y 0,Y 0,vI 0,zN,zN] NV E E E E)) (Ad (M:=[]) ⟨E,E⟩ fun _ h=>h.skip [_])
def hO:Option Int:=some 0
theorem kY{r:Int}(h:hO=some r):zC K w0 124 [zN] [] H (fun u M=>u=.tuple #[.agg #[Y 0,Y 0,vI 0,zN,zN],vI r]∧M=[]):=by
 obtain rfl:=zI h
 refine T3.enter Tryz.func124 rfl rfl ?_
 refine V ?_
 refine Al E Ir zU fun b0=>?_
 refine O E (U (V (J E ?_)))
 refine AP 0 lo (SK (n:=1) (p0:=[]) (r:=true) E (B6.nil zV)) E ?_
 refine O E (U (AG (V (J E (CT E E (U ?_))))))
 refine Ax E (fun hc1=>absurd hc1 zD) (fun hc1=>?_)
 refine AI (AH (V (J E (AP 0 ou nb E (A5 0 E E E E Io E E E zT (O E (U (AJ ?_))))))))
 exact Ae (EN E (B9 0 [Y 0,Y 0,vI 0,zN,zN] NV E E E E) E) (Ad (M:=[]) ⟨E,E⟩ fun _ h=>h.skip [_])
end

section
variable {K:Nat→Prop}{w0:World}{H:List AV}
def Ey(n:Nat)(T:List UInt32)(p0_1:BW)(p0_2:A3)(y1:List UInt8×Int)(o2:Fq)(y2:UInt32)(y3:List UInt8):Option (BQ×Fq×BW×A3):=
 (F2 n T p0_1 p0_2 y1.1).bind fun y6=>
 cond (!decide (y6.2.1=0))
 (
  none)
 (
  (DR 4 o2.took [y6.1.page]).bind fun l1=>
  (DR 40 o2.out [(⟨y1.1,y6.1.page,y6.1.tag⟩:A4)]).bind fun l2=>
  some ((⟨y6.1.page,y6.1.tag⟩:BQ),{ o2 with out:=l2,took:=l1 },y6.2.2.1,y6.2.2.2))
def HF(n:Nat)(T:List UInt32)(p0_1:BW)(p0_2:A3)(y1:List UInt8×Int)(nx_f_ref14_keeper_place_l1:Fq×UInt32×List UInt8×Int→Option (BQ×Fq×BW×A3))(o3:Fq)(y4:UInt32)(y5:List UInt8)(a1:Int):Option (BQ×Fq×BW×A3):=
 cond (decide (a1<(o3.had.length:Int)))
 (
  none)
 (
  Ey n T p0_1 p0_2 y1 o3 y4 y5)
def IF(n:Nat)(T:List UInt32)(p0_1:BW)(p0_2:A3)(y1:List UInt8×Int):Nat→(Fq×UInt32×List UInt8×Int)→Option (BQ×Fq×BW×A3):=CN fun nx x=>HF n T p0_1 p0_2 y1 nx x.1 x.2.1 x.2.2.1 x.2.2.2
def IE(n:Nat)(T:List UInt32)(p0_1:BW)(p0_2:A3)(y1:List UInt8×Int)(o1:Fq):Option (BQ×Fq×BW×A3):=
 cond (!decide (o1.err=0))
 (
  none)
 (
  IF n T p0_1 p0_2 y1 n (o1,0,[],0))
def Es(n:Nat)(T:List UInt32)(p0:Fq)(p0_1:BW)(p0_2:A3)(p1:Dt):Option (BQ×Fq×BW×A3):=
 (JU n p1).bind fun y1=>
 cond ((!decide (y1.2=0))&&(decide (p0.err=0)))
 (
  none)
 (
  IE n T p0_1 p0_2 y1 p0)
theorem Ru{n Ao BE CU:Nat}{T:List UInt32}{AZ Ar EO BH Bb CV Bn Bo Bp nU nV:Value}{p0:Fq}{p0_1:BW}{p0_2:A3}{p1:Dt}{r:BQ×Fq×BW×A3}(h:Es n T p0 p0_1 p0_2 p1=some r)(hT:JO K w0 2 64 T)(hs1_4:B6 K w0 AU 4 nU p1.rows)(hs1_5:B6 K w0 Bz 2 nV p1.kids):zC K w0 160 [vP Ao 0,.agg #[vI p1.kind,Y p1.cx,Y p1.cy,vI p1.lev,nU,nV,Y p1.npage,vS p1.ntag]] [own Ao (.cells #[vP BE 0,AZ,Ar,EO,vI p0.err,BH] 229),AB 148 3 AZ AS p0.had,AB 148 3 Ar AS p0.out,AB 36 1 EO BD p0.took,AB 148 3 BH AS p0.must,own BE (.cells #[vP CU 0,Bb,Y p0_1.gen,Y p0_1.boot,AT p0_1.num,CV] 142),AB 55 2 Bb AX p0_1.ring,AB 4 1 CV eB p0_1.taken,own CU (.cells #[Bn,Bo,Bp,AT p0_2.rcnt,vS p0_2.rtag,Y p0_2.rboots,vI p0_2.left,vB p0_2.off] 118),AB 9 1 Bn eS p0_2.blk,AB 9 1 Bo eS p0_2.pnd,AB 4 1 Bp eB p0_2.bads] H (fun u M=>∃vs0_0_2 vs0_0_3:Value,u=.agg (Bz r.1).toArray∧M=[own Ao (.cells #[vP BE 0,AZ,vs0_0_2,vs0_0_3,vI r.2.1.err,BH] 229),AB 148 3 AZ AS r.2.1.had,AB 148 3 vs0_0_2 AS r.2.1.out,AB 36 1 vs0_0_3 BD r.2.1.took,AB 148 3 BH AS r.2.1.must,own BE (.cells #[vP CU 0,Bb,Y r.2.2.1.gen,Y r.2.2.1.boot,AT r.2.2.1.num,CV] 142),AB 55 2 Bb AX r.2.2.1.ring,AB 4 1 CV eB r.2.2.1.taken,own CU (.cells #[Bn,Bo,Bp,AT r.2.2.2.rcnt,vS r.2.2.2.rtag,Y r.2.2.2.rboots,vI r.2.2.2.left,vB r.2.2.2.off] 118),AB 9 1 Bn eS r.2.2.2.blk,AB 9 1 Bo eS r.2.2.2.pnd,AB 4 1 Bp eB r.2.2.2.bads]):=by
 unfold Es at h
 refine T3.enter Tryz.func160 rfl rfl ?_
 refine V ?_
 refine Bc E E zU fun b1=>?_
 refine Al E FT zU fun b2=>?_
 refine U (V ?_)
 refine AD h fun y1 hy1 h=>?_
 refine Ap [vI p1.kind,Y p1.cx,Y p1.cy,vI p1.lev,nU,nV,Y p1.npage,vS p1.ntag] E Xi E E (Ah 1 E) (AP 0 pJ ((W2 hy1 hs1_4 hs1_5 :)) E (J E (Ac E E E (Ac E E E (O E (O E (U ?_)))))))
 refine A9 (α:=Fq) (fun x=>IE n T p0_1 p0_2 y1 x=some r) (fun x=>[(0,vP Ao 0),(4,vP b2 0),(5,vS y1.1)]) (fun x=>own Ao (.cells #[vP BE 0,AZ,Ar,EO,vI x.err,BH] 229)::own BE (.cells #[vP CU 0,Bb,Y p0_1.gen,Y p0_1.boot,AT p0_1.num,CV] 142)::own CU (.cells #[Bn,Bo,Bp,AT p0_2.rcnt,vS p0_2.rtag,Y p0_2.rboots,vI p0_2.left,vB p0_2.off] 118)::AB 9 1 Bn eS p0_2.blk::AB 9 1 Bo eS p0_2.pnd::AB 4 1 Bp eB p0_2.bads::AB 55 2 Bb AX p0_1.ring::AB 4 1 CV eB p0_1.taken::AB 148 3 AZ AS x.had::AB 148 3 Ar AS x.out::AB 36 1 EO BD x.took::AB 148 3 BH AS x.must::own b2 (.cells #[Y 0,vS []] 146)::H) ?_ (fun o1 D h=>?_)
 refine V (J E (Z E BJ (J E ?_)))
 refine Cl (c:=decide (p0.err=0)) 18 6 24 E (fun hb k=>?_) (fun hb k=>?_) ?_
 refine J E (AQ E E (AE E YU (AF 2 Qo E (Z E Bq (Ag E E E ?_)))))
 exact k.mono tL
 refine AC E (AC E (AC E (AC E (AC E (Ag E E E ?_)))))
 exact k.mono tL
 refine U ?_
 refine AL h E (fun hc1 h=>?_) fun hc1 h=>?_
 cases h
 refine AI ?_
 exact Aq p0 h tL (BN [2,7,10,11,12,13,8,9,3,4,5,6,0] 14 E E E)
 unfold IE at h
 try dsimp only
 refine AG (V (J E (AQ E E (AE E YU (AF 0 Qo E (Z E BJ (U ?_)))))))
 refine AL h E (fun hc2 h=>?_) fun hc2 h=>?_
 cases h
 refine AI (AH (AG (V (J E (AQ E E (AE E dt (AF 0 Nm E (EL E tQ E E (U (Cx E (AI (AH ?_))))))))))))
 refine A9 (α:=Fq×UInt32×List UInt8) (fun x=>Ey n T p0_1 p0_2 y1 x.1 x.2.1 x.2.2=some r) (fun x=>[(0,vP Ao 0),(4,vP b2 0),(5,vS y1.1)]) (fun x=>own Ao (.cells #[vP BE 0,AZ,Ar,EO,vI x.1.err,BH] 229)::own BE (.cells #[vP CU 0,Bb,Y p0_1.gen,Y p0_1.boot,AT p0_1.num,CV] 142)::own CU (.cells #[Bn,Bo,Bp,AT p0_2.rcnt,vS p0_2.rtag,Y p0_2.rboots,vI p0_2.left,vB p0_2.off] 118)::AB 9 1 Bn eS p0_2.blk::AB 9 1 Bo eS p0_2.pnd::AB 4 1 Bp eB p0_2.bads::AB 55 2 Bb AX p0_1.ring::AB 4 1 CV eB p0_1.taken::AB 148 3 AZ AS x.1.had::AB 148 3 Ar AS x.1.out::AB 36 1 EO BD x.1.took::AB 148 3 BH AS x.1.must::own b2 (.cells #[Y x.2.1,vS x.2.2] 146)::H) ?_ (fun x D h=>?_)
 refine V (O E (U (AM ?_)))
 refine SX.heap (SX.mono (BF (α:=Nat×Fq×UInt32×List UInt8×Int) (fun x=>IF n T p0_1 p0_2 y1 x.1 (x.2.1,x.2.2.1,x.2.2.2.1,x.2.2.2.2)=some r) (fun x=>[(0,vP Ao 0),(4,vP b2 0),(5,vS y1.1),(8,vI x.2.2.2.2)]) (fun x=>own Ao (.cells #[vP BE 0,AZ,Ar,EO,vI x.2.1.err,BH] 229)::own BE (.cells #[vP CU 0,Bb,Y p0_1.gen,Y p0_1.boot,AT p0_1.num,CV] 142)::own CU (.cells #[Bn,Bo,Bp,AT p0_2.rcnt,vS p0_2.rtag,Y p0_2.rboots,vI p0_2.left,vB p0_2.off] 118)::AB 9 1 Bn eS p0_2.blk::AB 9 1 Bo eS p0_2.pnd::AB 4 1 Bp eB p0_2.bads::AB 55 2 Bb AX p0_1.ring::AB 4 1 CV eB p0_1.taken::AB 148 3 AZ AS x.2.1.had::AB 148 3 Ar AS x.2.1.out::AB 36 1 EO BD x.2.1.took::AB 148 3 BH AS x.2.1.must::own b2 (.cells #[Y x.2.2.1,vS x.2.2.2.1] 146)::H) (fun x=>x.1) (fun x D h=>?_) (n,o1,0,[],0) h) tL) (BN [0,1,2,3,4,5,6,7,8,9,10,11,12] 13 E E E)
 obtain⟨m1,o3,y4,y5,a1⟩:=x
 dsimp only at h
 rcases m1 with _ | m1
 cases (show(none:Option _)=some r from h)
 replace h:HF n T p0_1 p0_2 y1 (IF n T p0_1 p0_2 y1 m1) o3 y4 y5 a1=some r:=h
 unfold HF at h
 try dsimp only
 refine AG (V (J E (J E (AQ E E (AE E mP (AF 0 Pb E (Dj 8 E Iy E E (Z E A8 (U ?_)))))))))
 refine AL h E (fun hc4 h=>?_) fun hc4 h=>?_
 cases h
 refine A1 (A6 (Ba (A7 ?_)))
 exact Aq (o3,y4,y5) h tL (BN [0,1,2,3,4,5,6,7,8,9,10,11,12] 13 E E E)
 obtain⟨o2,y2,y3⟩:=x
 dsimp only at h
 unfold Ey at h
 try dsimp only
 refine V ?_
 refine AD h fun y6 hy6 h=>?_
 refine J E (AQ E E (AE E dt (AF 0 Nm E (J E (SL.pick [1,6,7,2,3,4,5,0] 8 (AP 7 pK (SM hy6 hT) E (J E ?_)))))))
 refine Ac E E E (Ac E E E ?_)
 refine Al E FT zU fun b3=>?_
 refine A5 0 E E E E Ek E E E zT (O E (U (AG (V (J E (Z E BJ (U ?_)))))))
 refine AL h E (fun hc5 h=>?_) fun hc5 h=>?_
 cases h
 refine AI (AH (AG ?_))
 refine AD h fun l1 hl1 h=>?_
 refine Av DH [0,8] (CA [(true,0),(true,1),(true,2),(true,3),(true,4),(true,5),(true,6),(false,7),(false,8),(true,9),(true,10)] (.last 11 .nil)) zK (J E (J E (AQ E E (AE E du (AF 1 gW E (AE E FR (AF 0 A2 E ?_)))))))
 refine CD [_] rfl CF Bd H8 ⟨rfl,trivial⟩ rfl rfl rfl zW rfl rfl (fun _=>⟨⟨1,rfl⟩,⟨9,rfl⟩,trivial⟩) fun b4=>?_
 refine CH BD 1 ([y6.1.page]:List UInt32) E zV E ?_
 refine C5 12 hl1 (sz:=1) (enc:=BD) zV E CF Bd Qc H8 E zD E E E E (CL (sz:=1) (enc:=BD) 0 zV E) (by simp[BD,Value.oneCell']) (fun _=>⟨⟨1,E⟩,⟨9,E⟩,zT⟩) fun v1=>?_
 refine AQ E E (AE E du (BY ?_))
 refine C8 12 E fun hv1 ho1=>?_
 refine EA 9 E E E E gc hv1 ho1 E zT (U (AG ?_))
 refine AD h fun l2 hl2 h=>?_
 refine Av DH [1,9] (CA [(true,0),(true,1),(true,2),(true,3),(true,4),(true,5),(true,6),(true,7),(false,8),(false,9),(true,10),(true,11)] (.last 12 .nil)) zK (J E (J E (AQ E E (AE E YT (AF 1 Pb E (J E (Ap [Y y6.1.page,vS y6.1.tag] E DK E E (Ah 0 E) ?_)))))))
 refine B5 [_,_] E mm mj OW ⟨E,E,zT⟩ E ?_
 refine CD [_] rfl Iy JL OW ⟨rfl,trivial⟩ rfl rfl rfl zW rfl rfl (fun _=>⟨⟨2,rfl⟩,⟨10,rfl⟩,trivial⟩) fun b5=>?_
 refine CH AS 3 ([(⟨y1.1,y6.1.page,y6.1.tag⟩:A4)]:List A4) E zV E ?_
 refine C5 12 hl2 (sz:=3) (enc:=AS) zV E Iy JL lL OW E zD E E E E (CL (sz:=3) (enc:=AS) 0 zV E) (by simp[AS,Value.oneCell']) (fun _=>⟨⟨2,E⟩,⟨10,E⟩,zT⟩) fun v2=>?_
 refine AQ E E (AE E YT (BY ?_))
 refine C8 12 E fun hv2 ho2=>?_
 refine EA 10 E E E E nM hv2 ho2 E zT (U (V (Ap [Y y6.1.page,vS y6.1.tag] E DK E E (Ah 2 E) (A5 15 E E E E Ek E E E zT (U (AJ ?_))))))
 obtain rfl:=zI h
 exact Ae (IK E (B9 15 (Bz (⟨y6.1.page,y6.1.tag⟩:BQ)) DK E E E E)) (Ad (M:=[_,_,_,_,_,_,_,_,_,_,_,_]) ⟨v2,v1,E,E⟩ fun _ hw=>BX.pick (H:=[_,_,_,_,_,_,_,_,_,_,_,_,_,_,_,_]) hw [10,11,12,13,14,3,4,5,6,7,8,9] 16 E)
def Ib(o4:Fq)(o5:BW)(o6:A3)(y3:UInt32)(y4:List UInt8):Option (BQ×Fq×BW×A3):=
 some ((⟨y3,y4⟩:BQ),o4,o5,o6)
def Ee(n:Nat)(T:List UInt32)(nx_f_ref14_keeper_node_l1:Fq×BW×A3×UInt32×List UInt8×Int→Option (BQ×Fq×BW×A3))(o7:Fq)(o8:BW)(o9:A3)(y5:UInt32)(y6:List UInt8)(a1:Int):Option (BQ×Fq×BW×A3):=
 cond (decide (0≤a1))
 (
  (Ix [] a1 (min 0 (wI (a1+4)))).bind fun l1=>
  (Es n T o7 o8 o9 (⟨1,0,0,0,l1,[],y5,y6⟩:Dt)).bind fun y7=>
  ret (wI (a1-4)) fun x2=>
  nx_f_ref14_keeper_node_l1 (y7.2.1,y7.2.2.1,y7.2.2.2,y7.1.page,y7.1.tag,x2))
 (
  Ib o7 o8 o9 y5 y6)
def GE(n:Nat)(T:List UInt32):Nat→(Fq×BW×A3×UInt32×List UInt8×Int)→Option (BQ×Fq×BW×A3):=CN fun nx x=>Ee n T nx x.1 x.2.1 x.2.2.1 x.2.2.2.1 x.2.2.2.2.1 x.2.2.2.2.2
def Ia(n:Nat)(T:List UInt32)(o1:Fq)(o2:BW)(o3:A3)(y1:UInt32)(y2:List UInt8):Option (BQ×Fq×BW×A3):=
 (VY (wI ((max 0 1)-1)) 4).bind fun q1=>
 ret (wI (q1*4)) fun x1=>
 GE n T n (o1,o2,o3,0,[],x1)
def F3(n:Nat)(T:List UInt32)(p0:Fq)(p0_1:BW)(p0_2:A3):Option (BQ×Fq×BW×A3):=
 cond (decide (0<0))
 (
  none)
 (
  Ia n T p0 p0_1 p0_2 0 [])
theorem SN{n Ao BE CU:Nat}{T:List UInt32}{AZ Ar EO BH Bb CV Bn Bo Bp:Value}{p0:Fq}{p0_1:BW}{p0_2:A3}{r:BQ×Fq×BW×A3}(h:F3 n T p0 p0_1 p0_2=some r)(hT:JO K w0 2 64 T):zC K w0 125 [vP Ao 0,.agg #[Y 0,Y 0,vI 0,zN,zN]] [own Ao (.cells #[vP BE 0,AZ,Ar,EO,vI p0.err,BH] 229),AB 148 3 AZ AS p0.had,AB 148 3 Ar AS p0.out,AB 36 1 EO BD p0.took,AB 148 3 BH AS p0.must,own BE (.cells #[vP CU 0,Bb,Y p0_1.gen,Y p0_1.boot,AT p0_1.num,CV] 142),AB 55 2 Bb AX p0_1.ring,AB 4 1 CV eB p0_1.taken,own CU (.cells #[Bn,Bo,Bp,AT p0_2.rcnt,vS p0_2.rtag,Y p0_2.rboots,vI p0_2.left,vB p0_2.off] 118),AB 9 1 Bn eS p0_2.blk,AB 9 1 Bo eS p0_2.pnd,AB 4 1 Bp eB p0_2.bads] H (fun u M=>∃vs0_0_2 vs0_0_3:Value,u=.agg (Bz r.1).toArray∧M=[own Ao (.cells #[vP BE 0,AZ,vs0_0_2,vs0_0_3,vI r.2.1.err,BH] 229),AB 148 3 AZ AS r.2.1.had,AB 148 3 vs0_0_2 AS r.2.1.out,AB 36 1 vs0_0_3 BD r.2.1.took,AB 148 3 BH AS r.2.1.must,own BE (.cells #[vP CU 0,Bb,Y r.2.2.1.gen,Y r.2.2.1.boot,AT r.2.2.1.num,CV] 142),AB 55 2 Bb AX r.2.2.1.ring,AB 4 1 CV eB r.2.2.1.taken,own CU (.cells #[Bn,Bo,Bp,AT r.2.2.2.rcnt,vS r.2.2.2.rtag,Y r.2.2.2.rboots,vI r.2.2.2.left,vB r.2.2.2.off] 118),AB 9 1 Bn eS r.2.2.2.blk,AB 9 1 Bo eS r.2.2.2.pnd,AB 4 1 Bp eB r.2.2.2.bads]):=by
 unfold F3 at h
 refine T3.enter Tryz.func125 rfl rfl ?_
 refine V ?_
 refine Bc E E zU fun b1=>?_
 refine Al E FT zU fun b2=>?_
 refine U ?_
 refine A9 (α:=Fq×BW×A3×Value×Value×UInt32×List UInt8) (fun x=>Ia n T x.1 x.2.1 x.2.2.1 x.2.2.2.2.2.1 x.2.2.2.2.2.2=some r) (fun x=>[(0,vP Ao 0),(3,vP b1 0),(4,vP b2 0)]) (fun x=>own Ao (.cells #[vP BE 0,AZ,x.2.2.2.1,x.2.2.2.2.1,vI x.1.err,BH] 229)::own BE (.cells #[vP CU 0,Bb,Y x.2.1.gen,Y x.2.1.boot,AT x.2.1.num,CV] 142)::own CU (.cells #[Bn,Bo,Bp,AT x.2.2.1.rcnt,vS x.2.2.1.rtag,Y x.2.2.1.rboots,vI x.2.2.1.left,vB x.2.2.1.off] 118)::AB 9 1 Bn eS x.2.2.1.blk::AB 9 1 Bo eS x.2.2.1.pnd::AB 4 1 Bp eB x.2.2.1.bads::AB 55 2 Bb AX x.2.1.ring::AB 4 1 CV eB x.2.1.taken::AB 148 3 AZ AS x.1.had::AB 148 3 x.2.2.2.1 AS x.1.out::AB 36 1 x.2.2.2.2.1 BD x.1.took::AB 148 3 BH AS x.1.must::own b1 (.cells #[Y 0,Y 0,vI 0,zN,zN] 204)::own b2 (.cells #[Y x.2.2.2.2.2.1,vS x.2.2.2.2.2.2] 146)::H) ?_ (fun x D h=>?_)
 refine V (AE E KY (AF 1 UZ E (IQ E OU E (Z E Cu (U ?_)))))
 refine AL h E (fun hc1 h=>?_) fun hc1 h=>?_
 cases h
 refine AI ?_
 exact Aq (p0,p0_1,p0_2,Ar,EO,0,[]) h tL (BN [2,7,10,11,12,13,8,9,3,4,5,6,1,0] 14 E E E)
 obtain⟨o1,o2,o3,v1,v2,y1,y2⟩:=x
 dsimp only at h
 unfold Ia at h
 try dsimp only
 refine V (B5 [] E OR OQ FT zT E ?_)
 refine Al E FT zU fun b3=>?_
 refine A5 0 E E E E Ek E E E zT (U ?_)
 refine A9 (α:=Fq×BW×A3×Value×Value×UInt32×List UInt8) (fun x=>Ib x.1 x.2.1 x.2.2.1 x.2.2.2.2.2.1 x.2.2.2.2.2.2=some r) (fun x=>[(0,vP Ao 0),(4,vP b2 0),(7,vP b3 0)]) (fun x=>own Ao (.cells #[vP BE 0,AZ,x.2.2.2.1,x.2.2.2.2.1,vI x.1.err,BH] 229)::own BE (.cells #[vP CU 0,Bb,Y x.2.1.gen,Y x.2.1.boot,AT x.2.1.num,CV] 142)::own CU (.cells #[Bn,Bo,Bp,AT x.2.2.1.rcnt,vS x.2.2.1.rtag,Y x.2.2.1.rboots,vI x.2.2.1.left,vB x.2.2.1.off] 118)::AB 9 1 Bn eS x.2.2.1.blk::AB 9 1 Bo eS x.2.2.1.pnd::AB 4 1 Bp eB x.2.2.1.bads::AB 55 2 Bb AX x.2.1.ring::AB 4 1 CV eB x.2.1.taken::AB 148 3 AZ AS x.1.had::AB 148 3 x.2.2.2.1 AS x.1.out::AB 36 1 x.2.2.2.2.1 BD x.1.took::AB 148 3 BH AS x.1.must::own b2 (.cells #[Y y1,vS y2] 146)::own b3 (.cells #[Y x.2.2.2.2.2.1,vS x.2.2.2.2.2.2] 146)::H) ?_ (fun x D h=>?_)
 refine V ?_
 refine AD h fun q1 hq1 h=>?_
 obtain⟨x1,ex1,h⟩:=Bu h
 refine AE E Sg (AF 13 Fa E (IQ E Cz E (dD E E E (Z E DI (Z E (Vj hq1) (Z E MP ?_))))))
 refine Ai (u:=vI x1) E E (congrArg vI ex1) ?_
 refine U (AM ?_)
 refine SX.heap (SX.mono (BF (α:=Nat×Fq×BW×A3×Value×Value×UInt32×List UInt8×Int) (fun x=>GE n T x.1 (x.2.1,x.2.2.1,x.2.2.2.1,x.2.2.2.2.2.2.1,x.2.2.2.2.2.2.2.1,x.2.2.2.2.2.2.2.2)=some r) (fun x=>[(0,vP Ao 0),(3,vP b1 0),(4,vP b2 0),(7,vP b3 0),(8,vI x.2.2.2.2.2.2.2.2)]) (fun x=>own Ao (.cells #[vP BE 0,AZ,x.2.2.2.2.1,x.2.2.2.2.2.1,vI x.2.1.err,BH] 229)::own BE (.cells #[vP CU 0,Bb,Y x.2.2.1.gen,Y x.2.2.1.boot,AT x.2.2.1.num,CV] 142)::own CU (.cells #[Bn,Bo,Bp,AT x.2.2.2.1.rcnt,vS x.2.2.2.1.rtag,Y x.2.2.2.1.rboots,vI x.2.2.2.1.left,vB x.2.2.2.1.off] 118)::AB 9 1 Bn eS x.2.2.2.1.blk::AB 9 1 Bo eS x.2.2.2.1.pnd::AB 4 1 Bp eB x.2.2.2.1.bads::AB 55 2 Bb AX x.2.2.1.ring::AB 4 1 CV eB x.2.2.1.taken::AB 148 3 AZ AS x.2.1.had::AB 148 3 x.2.2.2.2.1 AS x.2.1.out::AB 36 1 x.2.2.2.2.2.1 BD x.2.1.took::AB 148 3 BH AS x.2.1.must::own b1 (.cells #[Y 0,Y 0,vI 0,zN,zN] 204)::own b2 (.cells #[Y y1,vS y2] 146)::own b3 (.cells #[Y x.2.2.2.2.2.2.1,vS x.2.2.2.2.2.2.2.1] 146)::H) (fun x=>x.1) (fun x D h=>?_) (n,o1,o2,o3,v1,v2,0,[],x1) h) tL) (BN [1,2,3,4,5,6,7,8,9,10,11,12,13,14,0] 15 E E E)
 obtain⟨m1,o7,o8,o9,v5,v6,y5,y6,a1⟩:=x
 dsimp only at h
 rcases m1 with _ | m1
 cases (show(none:Option _)=some r from h)
 replace h:Ee n T (GE n T m1) o7 o8 o9 y5 y6 a1=some r:=h
 unfold Ee at h
 try dsimp only
 refine AG (V (J E (Z E LT (U ?_))))
 refine AL h E (fun hc2 h=>?_) fun hc2 h=>?_
 refine AI (AH (AG (AM ?_)))
 refine AD h fun l1 hl1 h=>?_
 refine AD h fun y7 hy7 h=>?_
 refine Av DH [12,14] (CA [(true,0),(true,1),(true,2),(true,3),(true,4),(true,5),(true,6),(true,7),(true,8),(true,9),(true,10),(true,11),(true,12)] (.last 13 (C7 [(false,14)]))) zK (J E (AE E Sg (AF 0 Fa E (J E (AE E Sg (AF 0 Fa E (IQ E Cz E ?_)))))))
 refine J E (Z E Bh (Xa E E E ?_))
 refine k0 hl1 (B6.nil (enc:=AU) (sz:=4) zV) E Cz Dq E E E fun v7 hs1=>?_
 refine Ap [Y y5,vS y6] E DK E E (Ah 1 E) ?_
 refine QZ hs1 fun hv1 ho1=>?_
 refine R7 [vI 1,v7,.agg #[Y y5,vS y6]] [#[vI 1],#[v7],#[Y y5,vS y6]] (by simp only[List.map_cons,List.map_nil,hv1];rfl) E gK gJ cj ⟨E,E,E,zT⟩ E (BY (SL.pick [0,8,9,10,11,1,6,7,2,3,4,5] 12 ?_))
 refine BO 12 ov ((Ru hy7 hT hs1 (B6.nil zV) :)) E ?_
 rintro _ _ ⟨v8,v9,rfl,rfl⟩
 refine A5 14 E E E E Ek E E E zT (AY (Aj (AH (AN ?_))))
 obtain⟨x2,ex2,h⟩:=Bu h
 refine J E (Z E DI ?_)
 refine Ai (u:=vI x2) E E (congrArg vI ex2) ?_
 refine AY ?_
 exact Au (m1,y7.2.1,y7.2.2.1,y7.2.2.2,v8,v9,y7.1.page,y7.1.tag,x2) h (Nat.lt_succ_self _) tL (BN [0,5,8,9,10,11,6,7,1,2,3,4,12,13,14] 15 E E E)
 refine A1 (A6 (Ba (A7 ?_)))
 exact Aq (o7,o8,o9,v5,v6,y5,y6) h tL (BN [0,1,2,3,4,5,6,7,8,9,10,11,13,14] 15 E E E)
 obtain⟨o4,o5,o6,v3,v4,y3,y4⟩:=x
 dsimp only at h
 unfold Ib at h
 try dsimp only
 refine V (Ap [Y y3,vS y4] E DK E E (Ah 13 E) (A5 12 E E E E Ek E E E zT (U (AJ ?_))))
 obtain rfl:=zI h
 exact Ae (IK E (B9 12 (Bz (⟨y3,y4⟩:BQ)) DK E E E E)) (Ad (M:=[_,_,_,_,_,_,_,_,_,_,_,_]) ⟨v3,v4,E,E⟩ fun _ hw=>BX.pick (H:=[_,_,_,_,_,_,_,_,_,_,_,_,_,_]) hw [0,8,9,10,11,1,6,7,2,3,4,5] 14 E)
def Nf(y2:BQ×Fq×BW×A3)(o1:BW):Option (List A4×Int×BW×A3):=
 some (y2.2.1.out,0,o1,y2.2.2.2)
def Le(n:Nat)(T:List UInt32)(p0:BW)(p0_1:A3):Option (List A4×Int×BW×A3):=
 (hO).bind fun y1=>
 cond (!decide (y1=0))
 (
  none)
 (
  (F3 n T ({ had:=[],out:=[],took:=[],err:=0,must:=[] }:Fq) p0 p0_1).bind fun y2=>
  cond (!decide (y2.2.1.err=0))
  (
   none)
  (
   Nf y2 y2.2.2.1))
theorem ZF{n Ao BE:Nat}{T:List UInt32}{AZ BH Dz Bb D0:Value}{p0:BW}{p0_1:A3}{r:List A4×Int×BW×A3}(h:Le n T p0 p0_1=some r)(hT:JO K w0 2 64 T):zC K w0 89 [vP Ao 0,zN,zN] [own Ao (.cells #[vP BE 0,AZ,Y p0.gen,Y p0.boot,AT p0.num,BH] 142),AB 55 2 AZ AX p0.ring,AB 4 1 BH eB p0.taken,own BE (.cells #[Dz,Bb,D0,AT p0_1.rcnt,vS p0_1.rtag,Y p0_1.rboots,vI p0_1.left,vB p0_1.off] 118),AB 9 1 Dz eS p0_1.blk,AB 9 1 Bb eS p0_1.pnd,AB 4 1 D0 eB p0_1.bads] H (fun u M=>∃v0:Value,u=.tuple #[v0,vI r.2.1]∧M=[AB 148 3 v0 AS r.1,own Ao (.cells #[vP BE 0,AZ,Y r.2.2.1.gen,Y r.2.2.1.boot,AT r.2.2.1.num,BH] 142),AB 55 2 AZ AX r.2.2.1.ring,AB 4 1 BH eB r.2.2.1.taken,own BE (.cells #[Dz,Bb,D0,AT r.2.2.2.rcnt,vS r.2.2.2.rtag,Y r.2.2.2.rboots,vI r.2.2.2.left,vB r.2.2.2.off] 118),AB 9 1 Dz eS r.2.2.2.blk,AB 9 1 Bb eS r.2.2.2.pnd,AB 4 1 D0 eB r.2.2.2.bads]):=by
 unfold Le at h
 refine T3.enter Tryz.func89 rfl rfl ?_
 refine V (CB 148 3 AS (O E (O E (U (V ?_)))))
 refine AD h fun y1 hy1 h=>?_
 refine J E (AP 0 oW (kY hy1) E (J E (Ac E E E (Ac E E E ?_))))
 refine Al E Ir zU fun b1=>?_
 refine CB 43 4 AU (CB 204 5 ZY (A5 2 E E E E Io E E E zT (CB 43 4 AU (CB 204 5 ZY (O E (U (AG (V (J E (Z E BJ (U ?_)))))))))))
 refine AL h E (fun hc1 h=>?_) fun hc1 h=>?_
 cases h
 refine AI (AH (V (J E (J E (B5 [_,_] E sp sa tf ⟨E,E,zT⟩ E ?_)))))
 refine Bc E E zU fun b2=>?_
 refine CB 148 3 AS (CB 148 3 AS (CB 36 1 BD (CB 148 3 AS (O E (U (V ?_))))))
 refine AD h fun y2 hy2 h=>?_
 refine J E (Ap [Y 0,Y 0,vI 0,zN,zN] E NV E E (Ah 9 E) (SL.pick [4,3,2,1,0,11,12,13,14,15,16,17,5,6,7,8,9,10] 18 (BO 12 oX ((SN hy2 hT :)) E ?_)))
 rintro _ _ ⟨v1,v2,rfl,rfl⟩
 refine U ?_
 refine A9 (α:=BW) (fun x=>Nf y2 x=some r) (fun x=>[(0,vP Ao 0),(10,vP b2 0)]) (fun x=>own Ao (.cells #[vP BE 0,AZ,Y x.gen,Y x.boot,AT x.num,BH] 142)::own BE (.cells #[Dz,Bb,D0,AT y2.2.2.2.rcnt,vS y2.2.2.2.rtag,Y y2.2.2.2.rboots,vI y2.2.2.2.left,vB y2.2.2.2.off] 118)::AB 9 1 Dz eS y2.2.2.2.blk::AB 9 1 Bb eS y2.2.2.2.pnd::AB 4 1 D0 eB y2.2.2.2.bads::AB 55 2 AZ AX x.ring::AB 4 1 BH eB x.taken::own b2 (.cells #[vP Ao 0,zN,v1,v2,vI y2.2.1.err,zN] 229)::AB 148 3 zN AS y2.2.1.had::AB 148 3 v1 AS y2.2.1.out::AB 36 1 v2 BD y2.2.1.took::AB 148 3 zN AS y2.2.1.must::H) ?_ (fun o1 D h=>?_)
 refine V (J E (AQ E E (AE E YU (AF 0 Qo E (Z E BJ (U ?_))))))
 refine AL h E (fun hc2 h=>?_) fun hc2 h=>?_
 cases h
 refine AI ?_
 exact Aq y2.2.2.1 h tL (BN [5,8,9,10,11,6,7,0,1,2,3,4] 18 E E E)
 unfold Nf at h
 try dsimp only
 refine V (J E (AQ E E (AE E YT (AF 7 Pb E (O E (O E (U (AJ ?_))))))))
 obtain rfl:=zI h
 exact Bm [9,0,5,6,1,2,3,4] 12 (Ef E E E) E E ⟨v1,E,E⟩
end

section
variable {K:Nat→Prop}{w0:World}{H:List AV}
def Nx(p0:A3):Option Bool:=
 ret (decide (p0.rcnt=18446744073709551615)) fun x1=>
 some x1
theorem ZG{Ao:Nat}{Am AZ Ar:Value}{p0:A3}{r:Bool}(h:Nx p0=some r): zC K w0 57 [vP Ao 0] [own Ao (.cells #[Am,AZ,Ar,AT p0.rcnt,vS p0.rtag,Y p0.rboots,vI p0.left,vB p0.off] 118),AB 9 1 Am eS p0.blk,AB 9 1 AZ eS p0.pnd,AB 4 1 Ar eB p0.bads] H (fun u M=>u=vB r∧M=[own Ao (.cells #[Am,AZ,Ar,AT p0.rcnt,vS p0.rtag,Y p0.rboots,vI p0.left,vB p0.off] 118),AB 9 1 Am eS p0.blk,AB 9 1 AZ eS p0.pnd,AB 4 1 Ar eB p0.bads]):=by
 unfold Nx at h
 refine T3.enter Tryz.func57 rfl rfl ?_
 refine V (O E (U (V ?_)))
 obtain⟨x1,ex1,h⟩:=Bu h
 refine J E (AQ E E (AE E Li (AE E Px (AF 0 HJ E ?_))))
 refine Z E (MO (b:=18446744073709551615)) ?_
 refine Ai (u:=vB x1) E E (congrArg vB ex1) ?_
 refine U (AJ ?_)
 obtain rfl:=zI h
 exact AW [0,1,2,3] 4 E E E
def M4:Option Int:=
 some (-1)
def LM(p0:List A4)(nx_f_ref16_place_l1:Int→Option Int)(a1:Int):Option Int:=
 cond (decide (a1<(p0.length:Int)))
 (
  none)
 (
  M4)
def M5(p0:List A4):Nat→Int→Option Int:=CN fun nx x=>LM p0 nx x
def PM(n:Nat)(p0:List A4)(p1:UInt32):Option Int:=
 M5 p0 n 0
theorem X3{n:Nat}{DA:Value}{p0:List A4}{p1:UInt32}{r:Int}(h:PM n p0 p1=some r)(hs0_:B6 K w0 AS 3 DA p0):zC K w0 132 [DA,Y p1] [] H (fun u M=>u=vI r∧M=[]):=by
 unfold PM at h
 refine T3.enter Tryz.func132 rfl rfl ?_
 refine V (O E (U ?_))
 refine A9 (α:=Unit) (fun x=>M4=some r) (fun x=>[]) (fun x=>H) ?_ (fun x D h=>?_)
 refine V (O E (U (AM ?_)))
 refine SX.heap (SX.mono (BF (α:=Nat×Int) (fun x=>M5 p0 x.1 x.2=some r) (fun x=>[(0,DA),(1,Y p1),(5,vI x.2)]) (fun x=>H) (fun x=>x.1) (fun x D h=>?_) (n,0) h) tL) (BN [] 0 E E E)
 obtain⟨m1,a1⟩:=x
 dsimp only at h
 rcases m1 with _ | m1
 cases (show(none:Option _)=some r from h)
 replace h:LM p0 (M5 p0 m1) a1=some r:=h
 unfold LM at h
 try dsimp only
 refine AG (V (J E (J E (B3 hs0_ E Iy E (Z E A8 (U ?_))))))
 refine AL h E (fun hc1 h=>?_) fun hc1 h=>?_
 cases h
 refine A1 (A6 (Ba (A7 ?_)))
 exact Aq () h tL (BN [] 0 E E E)
 unfold M4 at h
 try dsimp only
 refine V (O E (U (AJ ?_)))
 obtain rfl:=zI h
 exact AW [] 0 E E E
def EX(n:Nat)(T:List UInt32)(p0:Dk)(p0_1:BW)(p0_2:A3)(p2:List A4):Option (Int×BW×A3):=
 (Ep n p0_2).bind fun y1=>
 cond (!decide (y1.1=0))
 (
  none)
 (
  (BB p2 (wI ((p2.length:Int)-1))).bind fun x1=>
  (Lf y1.2.rcnt p0_1.gen 0 (⟨x1.page,x1.tag⟩:BQ)).bind fun y2=>
  cond (!decide (y2.2=0))
  (
   none)
  (
   (JV n y2.1).bind fun y3=>
   (V8 y2.1.cnt 2).bind fun q1=>
   (H2 n T p0_1 y1.2 q1.toUInt32 y3.1).bind fun y4=>
   cond (!decide (y4.2.1=0))
   (
    none)
   (
    (Ep n y4.2.2.2).bind fun y5=>
    cond (!decide (y5.1=0))
    (
     none)
    (
     (FC y5.2 y4.1).bind fun y6=>
     some (y6.1,y4.2.2.1,y6.2)))))
theorem Q5{n Ao BE CU:Nat}{T:List UInt32}{AZ Ar EO Bb CV Bn Bo Bp GX:Value}{p0:Dk}{p0_1:BW}{p0_2:A3}{p2:List A4}{r:Int×BW×A3}(h:EX n T p0 p0_1 p0_2 p2=some r)(hT:JO K w0 2 64 T)(hs2_:B6 K w0 AS 3 GX p2):zC K w0 90 [vP Ao 0,zN,GX] [own Ao (.cells #[vP BE 0,AZ,Ar,EO,vB p0.bad] 131),AB 43 4 AZ AU p0.rows,AB 148 3 Ar AS p0.had,AB 36 1 EO BD p0.gens,own BE (.cells #[vP CU 0,Bb,Y p0_1.gen,Y p0_1.boot,AT p0_1.num,CV] 142),AB 55 2 Bb AX p0_1.ring,AB 4 1 CV eB p0_1.taken,own CU (.cells #[Bn,Bo,Bp,AT p0_2.rcnt,vS p0_2.rtag,Y p0_2.rboots,vI p0_2.left,vB p0_2.off] 118),AB 9 1 Bn eS p0_2.blk,AB 9 1 Bo eS p0_2.pnd,AB 4 1 Bp eB p0_2.bads] H (fun u M=>u=vI r.1∧M=[own Ao (.cells #[vP BE 0,AZ,Ar,EO,vB p0.bad] 131),AB 43 4 AZ AU p0.rows,AB 148 3 Ar AS p0.had,AB 36 1 EO BD p0.gens,own BE (.cells #[vP CU 0,Bb,Y r.2.1.gen,Y r.2.1.boot,AT r.2.1.num,CV] 142),AB 55 2 Bb AX r.2.1.ring,AB 4 1 CV eB r.2.1.taken,own CU (.cells #[Bn,Bo,Bp,AT r.2.2.rcnt,vS r.2.2.rtag,Y r.2.2.rboots,vI r.2.2.left,vB r.2.2.off] 118),AB 9 1 Bn eS r.2.2.blk,AB 9 1 Bo eS r.2.2.pnd,AB 4 1 Bp eB r.2.2.bads]):=by
 unfold EX at h
 refine T3.enter Tryz.func90 rfl rfl ?_
 refine V (O E (U (V ?_)))
 refine AD h fun y1 hy1 h=>?_
 refine J E (AQ E E (AE E KX (AF 0 Nm E (AQ E E (AE E PQ (AF 4 Yr E (SL.pick [7,8,9,10,0,1,2,3,4,5,6] 11 ?_)))))))
 refine AP 4 ax (Jt hy1) E (O E (U (AG (V (J E (Z E BJ (U ?_)))))))
 refine AL h E (fun hc1 h=>?_) fun hc1 h=>?_
 cases h
 refine AI (AH (AG ?_))
 refine AD h fun x1 hx1 h=>?_
 refine AD h fun y2 hy2 h=>?_
 refine Av DH [0,4,8] (CA [(true,0),(true,1),(true,2),(true,3),(true,4),(true,5),(true,6),(true,7),(true,8),(true,9),(true,10),(true,11),(true,12),(true,13),(true,14),(true,15),(true,16),(true,17),(true,18),(true,19),(true,20),(true,21),(true,22),(true,23),(true,24),(true,25),(true,26)] (.alt 27 (CA [(true,28),(true,29),(true,30),(false,31),(false,32)] (.last 33 .nil)) (.cons (false,31) (CA [(false,27),(true,28),(true,29),(true,30),(false,32)] (.last 33 .nil))))) zK (J E (AQ E E (AE E KX (AF 1 Nm E (AQ E E (AE E PQ (AF 2 Yr E ?_)))))))
 refine AQ E E (AE E Li (AE E Px (AF 0 HJ E (J E (AQ E E (AE E KX (AF 1 Nm E ?_)))))))
 refine AQ E E (AE E YP (AF 2 A2 E (J E (IQ E Cz E (J E (J E (B3 hs2_ E Iy E ?_)))))))
 refine Z E DI ?_
 refine DD hx1 hs2_ E Iy JL E E fun be1 of1 hc2=>?_
 refine AE E JZ ?_
 refine Ap [Y x1.page,vS x1.tag] E DK E E (YC (d:=1) hc2 E) ?_
 refine Po ?_ ?_
 refine BP 0 hZ ((Tn hy2 :)) E ⟨⟨0,E⟩,⟨4,E⟩,⟨8,E⟩,zT⟩ (J E (Ac E E E (Ac E E E ?_)))
 refine Al E LS (fun _=>⟨⟨1,E⟩,⟨5,E⟩,⟨9,E⟩,zT⟩) fun b1=>?_
 refine A5 0 E E E E NF E E E ⟨⟨1,E⟩,⟨5,E⟩,⟨9,E⟩,zT⟩ (BY (O E (U (AG (V (J E (Z E BJ (U ?_))))))))
 refine AL h E (fun hc3 h=>?_) fun hc3 h=>?_
 cases h
 refine AI (AH (V ?_))
 refine AD h fun y3 hy3 h=>?_
 refine Ap [AT y2.1.cnt,Y y2.1.gen,Y y2.1.rows,Y y2.1.page,vS y2.1.tag] E I0 E E (Ah 0 E) (AP 0 iA ((Rj hy3 :)) E (J E (Ac E E E (Ac E E E (O E (O E (U (AG ?_))))))))
 refine AD h fun q1 hq1 h=>?_
 refine AD h fun y4 hy4 h=>?_
 refine Av DH [0,5] (CA [(true,0),(true,1),(true,2),(true,3),(true,4),(true,5),(true,6),(true,7),(true,8),(false,9),(false,10),(true,11),(true,12),(false,13)] (.last 14 .nil)) zK (J E (AQ E E (AE E KX (AF 1 Nm E (AE E Lj (AF 0 HJ E ?_))))))
 refine Z E (Pk (b:=2) hq1) ?_
 refine BG E E (NT Da CP) (J E (SL.pick [9,10,11,1,2,3,4,0,5,6,7,8] 12 (BP 7 iB (N4 hy4 hT) E ⟨⟨7,E⟩,⟨8,E⟩,zT⟩ (J E (Ac E E E (Ac E E E (O E (BY ?_))))))))
 refine O E (U (AG (V (J E (Z E BJ (U ?_))))))
 refine AL h E (fun hc4 h=>?_) fun hc4 h=>?_
 cases h
 refine AI (AH (V ?_))
 refine AD h fun y5 hy5 h=>?_
 refine J E (AQ E E (AE E KX (AF 8 Nm E (AQ E E (AE E PQ (AF 0 Yr E (SL.pick [3,4,5,6,0,1,2] 7 ?_)))))))
 refine AP 4 ax (Jt hy5) E (O E (U (AG (V (J E (Z E BJ (U ?_)))))))
 refine AL h E (fun hc5 h=>?_) fun hc5 h=>?_
 cases h
 refine AI (AH (V ?_))
 refine AD h fun y6 hy6 h=>?_
 refine J E (AQ E E (AE E KX (AF 8 Nm E (AQ E E (AE E PQ (AF 4 Yr E (J E ?_)))))))
 refine AP 4 iC (MV hy6) E (O E (U (AJ ?_)))
 obtain rfl:=zI h
 exact AW [8,9,10,11,4,5,6,0,1,2,3] 12 E E E
 refine Al E LS (fun _=>⟨⟨1,E⟩,⟨5,E⟩,⟨9,E⟩,zT⟩) fun b1=>?_
 refine BP 0 hZ ((Tn hy2 :)) E ⟨⟨1,E⟩,⟨5,E⟩,⟨9,E⟩,zT⟩ (J E (Ac E E E (Ac E E E (A5 0 E E E E NF E E E ⟨⟨1,E⟩,⟨5,E⟩,⟨9,E⟩,zT⟩ (BY (O E (U (AG (V (J E (Z E BJ (U ?_))))))))))))
 refine AL h E (fun hc3 h=>?_) fun hc3 h=>?_
 cases h
 refine AI (AH (V ?_))
 refine AD h fun y3 hy3 h=>?_
 refine Ap [AT y2.1.cnt,Y y2.1.gen,Y y2.1.rows,Y y2.1.page,vS y2.1.tag] E I0 E E (Ah 0 E) (AP 0 iA ((Rj hy3 :)) E (J E (Ac E E E (Ac E E E (O E (O E (U (AG ?_))))))))
 refine AD h fun q1 hq1 h=>?_
 refine AD h fun y4 hy4 h=>?_
 refine Av DH [0,5] (CA [(true,0),(true,1),(true,2),(true,3),(true,4),(true,5),(true,6),(true,7),(true,8),(false,9),(false,10),(true,11),(true,12),(false,13)] (.last 14 .nil)) zK (J E (AQ E E (AE E KX (AF 1 Nm E (AE E Lj (AF 0 HJ E ?_))))))
 refine Z E (Pk (b:=2) hq1) ?_
 refine BG E E (NT Da CP) (J E (SL.pick [9,10,11,1,2,3,4,0,5,6,7,8] 12 (BP 7 iB (N4 hy4 hT) E ⟨⟨7,E⟩,⟨8,E⟩,zT⟩ (J E (Ac E E E (Ac E E E (O E (BY ?_))))))))
 refine O E (U (AG (V (J E (Z E BJ (U ?_))))))
 refine AL h E (fun hc4 h=>?_) fun hc4 h=>?_
 cases h
 refine AI (AH (V ?_))
 refine AD h fun y5 hy5 h=>?_
 refine J E (AQ E E (AE E KX (AF 8 Nm E (AQ E E (AE E PQ (AF 0 Yr E (SL.pick [3,4,5,6,0,1,2] 7 ?_)))))))
 refine AP 4 ax (Jt hy5) E (O E (U (AG (V (J E (Z E BJ (U ?_)))))))
 refine AL h E (fun hc5 h=>?_) fun hc5 h=>?_
 cases h
 refine AI (AH (V ?_))
 refine AD h fun y6 hy6 h=>?_
 refine J E (AQ E E (AE E KX (AF 8 Nm E (AQ E E (AE E PQ (AF 4 Yr E (J E ?_)))))))
 refine AP 4 iC (MV hy6) E (O E (U (AJ ?_)))
 obtain rfl:=zI h
 exact AW [8,9,10,11,4,5,6,0,1,2,3] 12 E E E
def Ie(p0:Dk)(p2:List A4)(l1:List UInt32)(o1:BW):Option (Dk×BW):=
 some ({ p0 with rows:=[],had:=p2,gens:=l1 },o1)
def HX(p0:Dk)(p2:List A4)(l1:List UInt32)(nx_f_ref16_Store_moved_l2:BW×Int→Option (Dk×BW))(o2:BW)(a3:Int):Option (Dk×BW):=
 cond (decide (a3<(p0.had.length:Int)))
 (
  none)
 (
  Ie p0 p2 l1 o2)
def If(p0:Dk)(p2:List A4)(l1:List UInt32):Nat→(BW×Int)→Option (Dk×BW):=CN fun nx x=>HX p0 p2 l1 nx x.1 x.2
def Ic(n:Nat)(p0:Dk)(p0_1:BW)(p2:List A4)(l1:List UInt32):Option (Dk×BW):=
 If p0 p2 l1 n (p0_1,0)
def Id(l2:List UInt32)(a1:Int)(nx_f_ref16_Store_moved_l1:List UInt32×Int→Option (Dk×BW))(a2:UInt32):Option (Dk×BW):=
 (DR 4 l2 [a2]).bind fun l3=>
 ret (wI (a1+1)) fun i_1=>
 nx_f_ref16_Store_moved_l1 (l3,i_1)
def HW(n:Nat)(p0:Dk)(p0_1:BW)(p2:List A4)(nx_f_ref16_Store_moved_l1:List UInt32×Int→Option (Dk×BW))(l2:List UInt32)(a1:Int):Option (Dk×BW):=
 cond (decide (a1<(p2.length:Int)))
 (
  (BB p2 a1).bind fun x1=>
  (PM n p0.had x1.page).bind fun y1=>
  (It (decide (0≤y1)) ((BB p0.had y1).bind fun x2=>(BB p2 a1).bind fun x3=>some (decide (x2.txt=x3.txt)&&(decide (x2.page=x3.page)&&(decide (x2.tag=x3.tag)&&true))))).bind fun y2=>
  cond y2
  (
   none)
  (
   Id l2 a1 nx_f_ref16_Store_moved_l1 p0_1.gen))
 (
  Ic n p0 p0_1 p2 l2)
def GF(n:Nat)(p0:Dk)(p0_1:BW)(p2:List A4):Nat→(List UInt32×Int)→Option (Dk×BW):=CN fun nx x=>HW n p0 p0_1 p2 nx x.1 x.2
def KT(n:Nat)(p0:Dk)(p0_1:BW)(p0_2:A3)(p2:List A4):Option (Dk×BW):=
 GF n p0 p0_1 p2 n ([],0)
theorem SP{n Ao BE CU:Nat}{AZ Ar EO Bb CV Bn Bo Bp GX:Value}{p0:Dk}{p0_1:BW}{p0_2:A3}{p2:List A4}{r:Dk×BW}(h:KT n p0 p0_1 p0_2 p2=some r): zC K w0 91 [vP Ao 0,zN,GX] [own Ao (.cells #[vP BE 0,AZ,Ar,EO,vB p0.bad] 131),AB 43 4 AZ AU p0.rows,AB 148 3 Ar AS p0.had,AB 36 1 EO BD p0.gens,own BE (.cells #[vP CU 0,Bb,Y p0_1.gen,Y p0_1.boot,AT p0_1.num,CV] 142),AB 55 2 Bb AX p0_1.ring,AB 4 1 CV eB p0_1.taken,own CU (.cells #[Bn,Bo,Bp,AT p0_2.rcnt,vS p0_2.rtag,Y p0_2.rboots,vI p0_2.left,vB p0_2.off] 118),AB 9 1 Bn eS p0_2.blk,AB 9 1 Bo eS p0_2.pnd,AB 4 1 Bp eB p0_2.bads,AB 148 3 GX AS p2] H (fun u M=>∃vs0_0_1 vs0_0_2 vs0_0_3:Value,u=.tuple #[]∧M=[own Ao (.cells #[vP BE 0,vs0_0_1,vs0_0_2,vs0_0_3,vB r.1.bad] 131),AB 43 4 vs0_0_1 AU r.1.rows,AB 148 3 vs0_0_2 AS r.1.had,AB 36 1 vs0_0_3 BD r.1.gens,own BE (.cells #[vP CU 0,Bb,Y r.2.gen,Y r.2.boot,AT r.2.num,CV] 142),AB 55 2 Bb AX r.2.ring,AB 4 1 CV eB r.2.taken,own CU (.cells #[Bn,Bo,Bp,AT p0_2.rcnt,vS p0_2.rtag,Y p0_2.rboots,vI p0_2.left,vB p0_2.off] 118),AB 9 1 Bn eS p0_2.blk,AB 9 1 Bo eS p0_2.pnd,AB 4 1 Bp eB p0_2.bads]):=by
 unfold KT at h
 refine T3.enter Tryz.func91 rfl rfl ?_
 refine V (CB 36 1 BD (O E (U ?_)))
 refine A9 (α:=List UInt32×Value) (fun x=>Ic n p0 p0_1 p2 x.1=some r) (fun x=>[(0,vP Ao 0),(1,zN),(2,GX),(6,x.2)]) (fun x=>own Ao (.cells #[vP BE 0,AZ,Ar,EO,vB p0.bad] 131)::own BE (.cells #[vP CU 0,Bb,Y p0_1.gen,Y p0_1.boot,AT p0_1.num,CV] 142)::own CU (.cells #[Bn,Bo,Bp,AT p0_2.rcnt,vS p0_2.rtag,Y p0_2.rboots,vI p0_2.left,vB p0_2.off] 118)::AB 9 1 Bn eS p0_2.blk::AB 9 1 Bo eS p0_2.pnd::AB 4 1 Bp eB p0_2.bads::AB 55 2 Bb AX p0_1.ring::AB 4 1 CV eB p0_1.taken::AB 43 4 AZ AU p0.rows::AB 148 3 Ar AS p0.had::AB 36 1 EO BD p0.gens::AB 148 3 GX AS p2::AB 36 1 x.2 BD x.1::H) ?_ (fun x D h=>?_)
 refine V (O E (U (AM ?_)))
 refine SX.heap (SX.mono (BF (α:=Nat×List UInt32×Value×Int) (fun x=>GF n p0 p0_1 p2 x.1 (x.2.1,x.2.2.2)=some r) (fun x=>[(0,vP Ao 0),(1,zN),(2,GX),(6,x.2.2.1),(7,vI x.2.2.2)]) (fun x=>own Ao (.cells #[vP BE 0,AZ,Ar,EO,vB p0.bad] 131)::own BE (.cells #[vP CU 0,Bb,Y p0_1.gen,Y p0_1.boot,AT p0_1.num,CV] 142)::own CU (.cells #[Bn,Bo,Bp,AT p0_2.rcnt,vS p0_2.rtag,Y p0_2.rboots,vI p0_2.left,vB p0_2.off] 118)::AB 9 1 Bn eS p0_2.blk::AB 9 1 Bo eS p0_2.pnd::AB 4 1 Bp eB p0_2.bads::AB 55 2 Bb AX p0_1.ring::AB 4 1 CV eB p0_1.taken::AB 43 4 AZ AU p0.rows::AB 148 3 Ar AS p0.had::AB 36 1 EO BD p0.gens::AB 148 3 GX AS p2::AB 36 1 x.2.2.1 BD x.2.1::H) (fun x=>x.1) (fun x D h=>?_) (n,[],zN,0) h) tL) (BN [1,5,8,9,10,11,6,7,2,3,4,12,0] 13 E E E)
 obtain⟨m1,l2,v2,a1⟩:=x
 dsimp only at h
 rcases m1 with _ | m1
 cases (show(none:Option _)=some r from h)
 replace h:HW n p0 p0_1 p2 (GF n p0 p0_1 p2 m1) l2 a1=some r:=h
 unfold HW at h
 try dsimp only
 refine AG (V (J E (J E (Dj 11 E Iy E E (Z E A8 (U ?_))))))
 refine AL h E (fun hc1 h=>?_) fun hc1 h=>?_
 refine AI (AH (AG (AM (AG ?_))))
 refine AD h fun x1 hx1 h=>?_
 refine AD h fun y1 hy1 h=>?_
 refine Av DH [0,11] (CA [(true,0),(true,1),(true,2),(true,3),(true,4),(true,5),(true,6),(true,7),(true,8),(true,9)] (.last 10 (C7 [(false,11)]))) zK (J E (AQ E E (AE E VJ (AF 0 Pb E (J E (J E ?_))))))
 refine B2 11 hx1 E Iy JL E E E fun g1 m2 cp1 hv1=>?_
 refine AE E JZ (AE E FR ?_)
 refine Bk E A2 E (Br (sz:=3) (enc:=AS) 1 1 zV E hv1 hx1 E) ?_
 refine BY (SL.pick [9,0,1,2,3,4,5,6,7,8] 10 ?_)
 refine Bg (vs:=[_,_]) (Hin:=[_]) (Hr:=_::_::_::_::_::_::_::_::_::_::_::_::_) E E ⟨E,E,zT⟩ oY E E (Co (B:=[_]) (Hin:=[]) fun K' w1 hk hB=>X3 hy1 (CO (e:=148) (v:=Ar) zV (hB _ zS))) ?_
 rintro _ _ ⟨_,rfl,rfl,rfl⟩
 refine⟨trivial,?_⟩
 refine O E (U (V (J E (AQ E E (AE E KX (AF 1 Nm E (AQ E E (AE E YP (AF 2 A2 E ?_)))))))))
 refine O E (U ?_)
 refine A9 (α:=UInt32) (fun x=>Id l2 a1 (GF n p0 p0_1 p2 m1) x=some r) (fun x=>[(0,vP Ao 0),(1,zN),(2,GX),(6,v2),(7,vI a1),(9,Y x)]) (fun x=>own Ao (.cells #[vP BE 0,AZ,Ar,EO,vB p0.bad] 131)::own BE (.cells #[vP CU 0,Bb,Y p0_1.gen,Y p0_1.boot,AT p0_1.num,CV] 142)::own CU (.cells #[Bn,Bo,Bp,AT p0_2.rcnt,vS p0_2.rtag,Y p0_2.rboots,vI p0_2.left,vB p0_2.off] 118)::AB 9 1 Bn eS p0_2.blk::AB 9 1 Bo eS p0_2.pnd::AB 4 1 Bp eB p0_2.bads::AB 55 2 Bb AX p0_1.ring::AB 4 1 CV eB p0_1.taken::AB 43 4 AZ AU p0.rows::AB 148 3 Ar AS p0.had::AB 36 1 EO BD p0.gens::AB 148 3 GX AS p2::AB 36 1 v2 BD l2::H) ?_ (fun a2 D h=>?_)
 refine AG ?_
 refine AD h fun y2 hy2 h=>?_
 refine Av DH [0,1,11] (C7 [(true,0),(true,1),(true,2),(true,3),(true,4),(true,5),(true,6),(true,7),(true,8),(true,9),(true,10),(true,11),(true,12),(true,13),(true,14),(true,15)]) zK (J E (Z E LT (J E ?_)))
 refine GM 37 13 50 hy2 E (fun hb hg1 k=>?_) (fun hb k=>?_) ?_
 obtain⟨x2,hx2,hg1⟩:=EE hg1
 obtain⟨x3,hx3,hg1⟩:=EE hg1
 obtain rfl:=zI hg1
 refine J E (AQ E E (AE E VJ (AF 1 Pb E (J E ?_))))
 refine B2 0 hx2 E Iy JL E E E fun g2 m3 cp2 hv2=>?_
 refine Ap (AS x2) E P9 E E (KH (sz:=3) (enc:=AS) 0 zV E hv2 hx2) ?_
 refine J E (J E ?_)
 refine B2 11 hx3 E Iy JL E E E fun g3 m4 cp3 hv3=>?_
 refine Ap (AS x3) E P9 E E (KH (sz:=3) (enc:=AS) 2 zV E hv3 hx3) ?_
 refine XZ E (show dj Tryz.prog 148=some [(0,.string),(1,.int .u32),(2,.string)] by kernel_rfl) E E (CI E E (SZ (a:=x2.txt) (b:=x3.txt)) (CI E E (IN (a:=x2.page) (b:=x3.page)) (CI E E (SZ (a:=x2.tag) (b:=x3.tag)) II))) ?_
 refine Ag E E E ?_
 exact k.mono tL
 refine AC E (AC E (AC E (AC E (AC E (AC E (AC E (AC E ?_)))))))
 refine AC E (AC E (AC E (AC E (Ag E E E ?_))))
 exact k.mono tL
 refine U ?_
 refine AL h E (fun hc2 h=>?_) fun hc2 h=>?_
 cases h
 refine AI ?_
 exact Aq p0_1.gen h tL (BN [1,2,3,4,5,6,7,8,9,0,10,11,12] 13 E E E)
 unfold Id at h
 try dsimp only
 refine AN ?_
 refine AD h fun l3 hl3 h=>?_
 refine J E (J E ?_)
 refine CD [_] rfl CF Bd H8 ⟨rfl,trivial⟩ rfl rfl rfl zW rfl rfl zU fun b1=>?_
 refine CH BD 1 ([a2]:List UInt32) E zV E ?_
 refine C5 13 hl3 (sz:=1) (enc:=BD) zV E CF Bd Qc H8 E zD E E E E (CL (sz:=1) (enc:=BD) 0 zV E) (by simp[BD,Value.oneCell']) zU fun v3=>?_
 refine O E (AY (Aj (AH (AN ?_))))
 obtain⟨i_1,ei_1,h⟩:=Bu h
 refine J E (Z E Bh ?_)
 refine Ai (u:=vI i_1) E E (congrArg vI ei_1) ?_
 refine AY ?_
 exact Au (m1,l3,v3,i_1) h (Nat.lt_succ_self _) tL (BN [1,2,3,4,5,6,7,8,9,10,11,12,13] 14 E E E)
 refine A1 (A6 (Ba (A7 ?_)))
 exact Aq (l2,v2) h tL (BN [0,1,2,3,4,5,6,7,8,9,10,11,12] 13 E E E)
 obtain⟨l1,v1⟩:=x
 dsimp only at h
 unfold Ic at h
 try dsimp only
 refine A9 (α:=BW) (fun x=>Ie p0 p2 l1 x=some r) (fun x=>[(0,vP Ao 0),(1,zN),(2,GX),(6,v1)]) (fun x=>own Ao (.cells #[vP BE 0,AZ,Ar,EO,vB p0.bad] 131)::own BE (.cells #[vP CU 0,Bb,Y x.gen,Y x.boot,AT x.num,CV] 142)::own CU (.cells #[Bn,Bo,Bp,AT p0_2.rcnt,vS p0_2.rtag,Y p0_2.rboots,vI p0_2.left,vB p0_2.off] 118)::AB 9 1 Bn eS p0_2.blk::AB 9 1 Bo eS p0_2.pnd::AB 4 1 Bp eB p0_2.bads::AB 55 2 Bb AX x.ring::AB 4 1 CV eB x.taken::AB 43 4 AZ AU p0.rows::AB 148 3 Ar AS p0.had::AB 36 1 EO BD p0.gens::AB 148 3 GX AS p2::AB 36 1 v1 BD l1::H) ?_ (fun o1 D h=>?_)
 refine V (O E (U (AM ?_)))
 refine SX.heap (SX.mono (BF (α:=Nat×BW×Int) (fun x=>If p0 p2 l1 x.1 (x.2.1,x.2.2)=some r) (fun x=>[(0,vP Ao 0),(1,zN),(2,GX),(6,v1),(10,vI x.2.2)]) (fun x=>own Ao (.cells #[vP BE 0,AZ,Ar,EO,vB p0.bad] 131)::own BE (.cells #[vP CU 0,Bb,Y x.2.1.gen,Y x.2.1.boot,AT x.2.1.num,CV] 142)::own CU (.cells #[Bn,Bo,Bp,AT p0_2.rcnt,vS p0_2.rtag,Y p0_2.rboots,vI p0_2.left,vB p0_2.off] 118)::AB 9 1 Bn eS p0_2.blk::AB 9 1 Bo eS p0_2.pnd::AB 4 1 Bp eB p0_2.bads::AB 55 2 Bb AX x.2.1.ring::AB 4 1 CV eB x.2.1.taken::AB 43 4 AZ AU p0.rows::AB 148 3 Ar AS p0.had::AB 36 1 EO BD p0.gens::AB 148 3 GX AS p2::AB 36 1 v1 BD l1::H) (fun x=>x.1) (fun x D h=>?_) (n,p0_1,0) h) tL) (BN [0,1,2,3,4,5,6,7,8,9,10,11,12] 13 E E E)
 obtain⟨m5,o2,a3⟩:=x
 dsimp only at h
 rcases m5 with _ | m5
 cases (show(none:Option _)=some r from h)
 replace h:HX p0 p2 l1 (If p0 p2 l1 m5) o2 a3=some r:=h
 unfold HX at h
 try dsimp only
 refine AG (V (J E (J E (AQ E E (AE E VJ (AF 0 Pb E (Dj 9 E Iy E E (Z E A8 (U ?_)))))))))
 refine AL h E (fun hc3 h=>?_) fun hc3 h=>?_
 cases h
 refine A1 (A6 (Ba (A7 ?_)))
 exact Aq o2 h tL (BN [0,1,2,3,4,5,6,7,8,9,10,11,12] 13 E E E)
 unfold Ie at h
 try dsimp only
 refine V (J E (J E (AQ E E (AE E mG (A5 0 E E E E Jf E E E zT (CB 43 4 AU (U (V (J E (J E ?_))))))))))
 refine AQ E E (AE E VJ ?_)
 refine C8 12 E fun hv4 ho1=>?_
 refine EA 1 E E E E nM hv4 ho1 E zT (U (AN (J E (J E (AQ E E (AE E mH ?_))))))
 refine C8 13 E fun hv5 ho2=>?_
 refine EA 1 E E E E gc hv5 ho2 E zT (AY ?_)
 obtain rfl:=zI h
 exact DF (Dr E) (Ad (M:=[_,_,_,_,_,_,_,_,_,_,_]) ⟨zN,GX,v1,E,E⟩ fun _ hw=>BX.pick (H:=[_,_,_,_,_,_,_,_,_,_,_,_,_,_]) hw [1,0,12,13,2,7,8,3,4,5,6] 14 E)
def IG(n:Nat)(p0:Dk)(y1:List A4×Int×BW×A3)(o1:BW)(o2:A3)(a1:Int):Option (Int×Dk×BW×A3):=
 cond (!decide (a1=0))
 (
  none)
 (
  (KT n p0 o1 o2 y1.1).bind fun y3=>
  some (0,y3.1,y3.2,o2))
def Fk(n:Nat)(T:List UInt32)(p0:Dk)(p0_1:BW)(p0_2:A3):Option (Int×Dk×BW×A3):=
 (Le n T p0_1 p0_2).bind fun y1=>
 cond (decide (y1.2.1=0))
 (
  (EX n T p0 y1.2.2.1 y1.2.2.2 y1.1).bind fun y2=>
  IG n p0 y1 y2.2.1 y2.2.2 y2.1)
 (
  none)
theorem Rv{n Ao BE CU:Nat}{T:List UInt32}{AZ Ar EO Bb CV Bn Bo Bp:Value}{p0:Dk}{p0_1:BW}{p0_2:A3}{r:Int×Dk×BW×A3}(h:Fk n T p0 p0_1 p0_2=some r)(hT:JO K w0 2 64 T):zC K w0 60 [vP Ao 0,zN,zN] [own Ao (.cells #[vP BE 0,AZ,Ar,EO,vB p0.bad] 131),AB 43 4 AZ AU p0.rows,AB 148 3 Ar AS p0.had,AB 36 1 EO BD p0.gens,own BE (.cells #[vP CU 0,Bb,Y p0_1.gen,Y p0_1.boot,AT p0_1.num,CV] 142),AB 55 2 Bb AX p0_1.ring,AB 4 1 CV eB p0_1.taken,own CU (.cells #[Bn,Bo,Bp,AT p0_2.rcnt,vS p0_2.rtag,Y p0_2.rboots,vI p0_2.left,vB p0_2.off] 118),AB 9 1 Bn eS p0_2.blk,AB 9 1 Bo eS p0_2.pnd,AB 4 1 Bp eB p0_2.bads] H (fun u M=>∃vs0_0_1 vs0_0_2 vs0_0_3:Value,u=vI r.1∧M=[own Ao (.cells #[vP BE 0,vs0_0_1,vs0_0_2,vs0_0_3,vB r.2.1.bad] 131),AB 43 4 vs0_0_1 AU r.2.1.rows,AB 148 3 vs0_0_2 AS r.2.1.had,AB 36 1 vs0_0_3 BD r.2.1.gens,own BE (.cells #[vP CU 0,Bb,Y r.2.2.1.gen,Y r.2.2.1.boot,AT r.2.2.1.num,CV] 142),AB 55 2 Bb AX r.2.2.1.ring,AB 4 1 CV eB r.2.2.1.taken,own CU (.cells #[Bn,Bo,Bp,AT r.2.2.2.rcnt,vS r.2.2.2.rtag,Y r.2.2.2.rboots,vI r.2.2.2.left,vB r.2.2.2.off] 118),AB 9 1 Bn eS r.2.2.2.blk,AB 9 1 Bo eS r.2.2.2.pnd,AB 4 1 Bp eB r.2.2.2.bads]):=by
 unfold Fk at h
 refine T3.enter Tryz.func60 rfl rfl ?_
 refine V (O E (U (V ?_)))
 refine AD h fun y1 hy1 h=>?_
 refine J E (AQ E E (AE E KX (AF 0 Nm E (J E (J E (SL.pick [4,5,6,7,8,9,10,0,1,2,3] 11 (BO 7 sG (ZF hy1 hT) E ?_)))))))
 rintro _ _ ⟨v1,rfl,rfl⟩
 refine J E (Ac E E E (Ac E E E (O E (O E (U ?_)))))
 refine A9 (α:=BW×A3×Int) (fun x=>IG n p0 y1 x.1 x.2.1 x.2.2=some r) (fun x=>[(0,vP Ao 0),(1,zN),(7,v1),(8,vI x.2.2)]) (fun x=>own Ao (.cells #[vP BE 0,AZ,Ar,EO,vB p0.bad] 131)::own BE (.cells #[vP CU 0,Bb,Y x.1.gen,Y x.1.boot,AT x.1.num,CV] 142)::own CU (.cells #[Bn,Bo,Bp,AT x.2.1.rcnt,vS x.2.1.rtag,Y x.2.1.rboots,vI x.2.1.left,vB x.2.1.off] 118)::AB 9 1 Bn eS x.2.1.blk::AB 9 1 Bo eS x.2.1.pnd::AB 4 1 Bp eB x.2.1.bads::AB 55 2 Bb AX x.1.ring::AB 4 1 CV eB x.1.taken::AB 43 4 AZ AU p0.rows::AB 148 3 Ar AS p0.had::AB 36 1 EO BD p0.gens::AB 148 3 v1 AS y1.1::H) ?_ (fun x D h=>?_)
 refine V (J E (Z E Bq (U ?_)))
 refine AL h E (fun hc1 h=>?_) fun hc1 h=>?_
 refine AN ?_
 refine AD h fun y2 hy2 h=>?_
 refine J E (J E (J E (SL.pick [0,8,9,10,11,1,2,3,4,5,6,7] 12 ?_)))
 refine Bg (vs:=[_,_,_]) (Hin:=[_,_,_,_,_,_,_,_,_,_,_,_]) (Hr:=_) E E ⟨E,E,E,zT⟩ sH E E (Co (B:=[_]) (Hin:=[_,_,_,_,_,_,_,_,_,_,_]) fun K' w1 hk hB=>Q5 hy2 (hT.keeps hk) (CO (e:=148) (v:=v1) zV (hB _ zS))) ?_
 rintro _ _ ⟨_,rfl,rfl,rfl⟩
 refine⟨trivial,?_⟩
 refine O E (AY ?_)
 exact Aq (y2.2.1,y2.2.2,y2.1) h tL (BN [1,5,8,9,10,11,6,7,2,3,4,0] 12 E E E)
 cases h
 obtain⟨o1,o2,a1⟩:=x
 dsimp only at h
 unfold IG at h
 try dsimp only
 refine AG (V (J E (Z E BJ (U ?_))))
 refine AL h E (fun hc2 h=>?_) fun hc2 h=>?_
 cases h
 refine AI (AH (V ?_))
 refine AD h fun y3 hy3 h=>?_
 refine J E (J E (J E (SL.pick [0,8,9,10,1,6,7,2,3,4,5,11] 12 (BO 12 sI (SP hy3) E ?_))))
 rintro _ _ ⟨v2,v3,v4,rfl,rfl⟩
 refine U (V (O E (U (AJ ?_))))
 obtain rfl:=zI h
 exact Bm [0,1,2,3,4,5,6,7,8,9,10] 11 (C1 E E) E E ⟨v2,v3,v4,E,E⟩
def JW(n:Nat)(T:List UInt32)(p0:A3)(p1:List BI):Option (Option (Dk×BW)×Int×A3):=
 (JT n p1).bind fun y1=>
 cond (!decide (y1.2=0))
 (
  none)
 (
  (Nx p0).bind fun y2=>
  cond y2
  (
   none)
  (
   (HN p0).bind fun y3=>
   cond (!decide (y3.2.1=0))
   (
    none)
   (
    (M1 n y3.2.2 p1 y1.1 y3.1).bind fun y4=>
    (y4.1).bind fun d1=>
    (Fk n T ({ rows:=[],had:=[],gens:=[],bad:=false }:Dk) d1 y3.2.2).bind fun y5=>
    cond (!decide (y5.1=0))
    (
     none)
    (
     some (some (y5.2.1,y5.2.2.1),0,y5.2.2.2)))))
theorem W3{n Ao:Nat}{T:List UInt32}{Am AZ Ar Ea:Value}{p0:A3}{p1:List BI}{r:Option (Dk×BW)×Int×A3}(h:JW n T p0 p1=some r)(hT:JO K w0 2 64 T):zC K w0 31 [vP Ao 0,Ea] [own Ao (.cells #[Am,AZ,Ar,AT p0.rcnt,vS p0.rtag,Y p0.rboots,vI p0.left,vB p0.off] 118),AB 9 1 Am eS p0.blk,AB 9 1 AZ eS p0.pnd,AB 4 1 Ar eB p0.bads,AB 55 2 Ea AX p1] H (fun u M=>(r.1=none∧u=.tuple #[.pointer none,vI r.2.1]∧M=[own Ao (.cells #[Am,AZ,Ar,AT r.2.2.rcnt,vS r.2.2.rtag,Y r.2.2.rboots,vI r.2.2.left,vB r.2.2.off] 118),AB 9 1 Am eS r.2.2.blk,AB 9 1 AZ eS r.2.2.pnd,AB 4 1 Ar eB r.2.2.bads])∨(∃(d:Dk×BW) (bn0:Nat) (vn0x1:Value) (vn0x2:Value) (vn0x3:Value) (bn1:Nat) (vn1x1:Value) (vn1x5:Value),r.1=some d∧u=.tuple #[vP bn0 0,vI r.2.1]∧M=[own bn0 (.cells #[vP bn1 0,vn0x1,vn0x2,vn0x3,vB d.1.bad] 131),AB 43 4 vn0x1 AU d.1.rows,AB 148 3 vn0x2 AS d.1.had,AB 36 1 vn0x3 BD d.1.gens,own bn1 (.cells #[vP Ao 0,vn1x1,Y d.2.gen,Y d.2.boot,AT d.2.num,vn1x5] 142),AB 55 2 vn1x1 AX d.2.ring,AB 4 1 vn1x5 eB d.2.taken,own Ao (.cells #[Am,AZ,Ar,AT r.2.2.rcnt,vS r.2.2.rtag,Y r.2.2.rboots,vI r.2.2.left,vB r.2.2.off] 118),AB 9 1 Am eS r.2.2.blk,AB 9 1 AZ eS r.2.2.pnd,AB 4 1 Ar eB r.2.2.bads])):=by
 unfold JW at h
 refine T3.enter Tryz.func31 rfl rfl ?_
 refine V (O E (O E (U (V ?_))))
 refine AD h fun y1 hy1 h=>?_
 refine J E (SL.pick [4,0,1,2,3] 5 ?_)
 refine Bg (vs:=[_]) (Hin:=[_]) (Hr:=_::_::_::_::_) E E ⟨E,zT⟩ rr E E (Co (B:=[_]) (Hin:=[]) fun K' w1 hk hB=>W1 hy1 (CO (e:=55) (v:=Ea) zV (hB _ zS))) ?_
 rintro _ _ ⟨_,rfl,rfl,rfl⟩
 refine⟨trivial,?_⟩
 refine J E (Ac E E E (Ac E E E (O E (O E (U (AG (V (J E (Z E BJ (U ?_))))))))))
 refine AL h E (fun hc1 h=>?_) fun hc1 h=>?_
 cases h
 refine AI (AH (AG (V ?_)))
 refine AD h fun y2 hy2 h=>?_
 refine J E (SL.pick [1,2,3,4,0] 5 (AP 4 rz (ZG hy2) E (U ?_)))
 refine AL h E (fun hc2 h=>?_) fun hc2 h=>?_
 cases h
 refine AI (AH (V ?_))
 refine AD h fun y3 hy3 h=>?_
 refine J E (AP 4 r5 (Rs hy3) E (J E (Ac E E E (Ac E E E (O E (O E (U (AG (V (J E ?_))))))))))
 refine Z E BJ (U ?_)
 refine AL h E (fun hc3 h=>?_) fun hc3 h=>?_
 cases h
 refine AI (AH (V ?_))
 refine AD h fun y4 hy4 h=>?_
 refine AD h fun d1 hd1 h=>?_
 refine J E (J E (J E (J E ?_)))
 refine Bg (vs:=[_,_,_,_]) (Hin:=[_,_,_,_,_]) (Hr:=_) E E ⟨E,E,E,E,zT⟩ r6 E E (ab hy4) ?_
 rintro _ _ (⟨hn,-,-⟩ | ⟨d_,b1,v1,v2,hn,rfl,rfl⟩)
 rw[hd1]at hn;cases hn
 obtain rfl:d1=d_:=zI (hd1.symm.trans hn)
 refine⟨trivial,?_⟩
 refine J E (Ac E E E (Ac E E E (O E (O E (U (V (J E (B5 [_] E sk sW tZ ⟨E,zT⟩ E ?_))))))))
 refine Bc E E zU fun b2=>?_
 refine CB 43 4 AU (CB 148 3 AS (CB 36 1 BD (O E (U (V ?_)))))
 refine AD h fun y5 hy5 h=>?_
 refine J E (SL.pick [3,2,1,0,4,5,6,7,8,9,10] 11 (BO 11 r7 (Rv hy5 hT) E ?_))
 rintro _ _ ⟨v3,v4,v5,rfl,rfl⟩
 refine O E (U (AG (V (J E (Z E BJ (U ?_))))))
 refine AL h E (fun hc4 h=>?_) fun hc4 h=>?_
 cases h
 refine AI (AH (V (J E (O E (O E (U (AJ ?_)))))))
 obtain rfl:=zI h
 exact Ae (Ef E E E) (Ad (M:=[_,_,_,_,_,_,_,_,_,_,_]) (.inr ⟨_,b2,v3,v4,v5,b1,v1,v2,E,E,E⟩) fun _ hw=>BX.pick (H:=[_,_,_,_,_,_,_,_,_,_,_]) hw [0,1,2,3,4,5,6,7,8,9,10] 11 E)
end

section
theorem qm(x:UInt32)(n:Nat)(h:n≤32):Dn x (n:Int)=some (rl x n):=by
 unfold Dn
 rw[Vc,AA,Cm zO zO,show(32-(n:Int))=((32-n:Nat):Int) by omega,Vc,AA]
 rfl
theorem gQ(a b c d:UInt32):IW a b c d=some (Q4.quarter ⟨a,b,c,d⟩).list:=by
 have t16:∀x,Dn x 16=some (rl x 16):=fun x=>qm x 16 zD
 have t12:∀x,Dn x 12=some (rl x 12):=fun x=>qm x 12 zD
 have t8:∀x,Dn x 8=some (rl x 8):=fun x=>qm x 8 zD
 have t7:∀x,Dn x 7=some (rl x 7):=fun x=>qm x 7 zD
 simp only[IW,ret,t16,t12,t8,t7,AA]
 rfl
theorem jO(s:List UInt8)(i:Nat)(h:i+3<s.length)(hi:s.length≤1099511627776):Jl s (i:Int)=some (KF s i):=by
 unfold Jl
 rw[C9 (k:=i) 0 rfl zO,AA,Cm zO zO,C9 (k:=i+1) 0 zO zO,AA,
  Cm zO zO,C9 (k:=i+2) 0 zO zO,AA,Cm zO zO,C9 (k:=i+3) 0 zO zO,AA]
 rfl
theorem gj(c:UInt32):KF (F7 c) 0=c:=by
 apply UInt32.toNat_inj.1
 have hc:=c.toNat_lt
 have e8:∀k,k≤32→(shr32 c k).toNat=c.toNat / 2^k:=fun k hk=>by
  simp only[shr32,UInt32.toNat_ofNat',Nat.min_eq_left hk]
  exact Nat.mod_eq_of_lt (Nat.lt_of_le_of_lt (Nat.div_le_self _ _) hc)
 have s8:∀(x:UInt8) k,k≤24→(shl32 x.toUInt32 k).toNat=x.toNat*2^k:=fun x k hk=>by
  have hx:=x.toNat_lt
  simp only[shl32,UInt32.toNat_ofNat',UInt8.toNat_toUInt32,Nat.min_eq_left (show k≤32 by omega)]
  refine Nat.mod_eq_of_lt ?_
  calc x.toNat*2^k<2^8*2^k:=Nat.mul_lt_mul_of_pos_right hx (Nat.two_pow_pos k)
   _=2^(8+k):=(Nat.pow_add 2 8 k).symm
   _≤2^32:=Nat.pow_le_pow_right zD zO
 have key:∀(a b k:Nat),a<2^k→a ||| b*2^k=a+b*2^k:=fun a b k h=>by
  rw[Nat.or_comm,Nat.mul_comm,←Nat.two_pow_add_eq_or_of_lt h,Nat.add_comm]
 show(KF [c.toUInt8,(shr32 c 8).toUInt8,(shr32 c 16).toUInt8,(shr32 c 24).toUInt8] 0).toNat=_
 simp only[KF,Lt,List.getD_cons_zero,List.getD_cons_succ,Nat.zero_add]
 rw[UInt32.toNat_or,UInt32.toNat_or,UInt32.toNat_or,s8 _ 8 zO,s8 _ 16 zO,s8 _ 24 zO]
 simp only[UInt8.toNat_toUInt32,UInt32.toNat_toUInt8,e8 8 zO,e8 16 zO,e8 24 zO]
 rw[key _ _ 8 zO,key _ _ 16 zO,key _ _ 24 zO]
 omega
theorem nJ(key:List UInt8)(counter:UInt32)(nonce:List UInt8)(hk:key.length=32)(hn:nonce.length=12){n:Nat}(hm:8<n):KO n key counter nonce=some (Hh key counter nonce):=by
 have hw:∀(s:List UInt8) (i:Nat),i<s.length / 4→(CX s).take (i+1)=(CX s).take i++[KF s (4*i)]:=fun s i hi=>by
  rw[List.take_add_one,List.getElem?_eq_getElem (by rw[ER];exact hi)]
  simp[CX]
 have he:CX KJ=[1634760805,857760878,2036477234,1797285236]:=by decide
 have hc:CX (F7 counter)=[counter]:=by
  have:CX (F7 counter)=[KF (F7 counter) 0]:=by
   unfold CX
   rw[show(F7 counter).length=4 from rfl]
   rfl
  rw[this,gj]
 unfold KO J8
 have h2:Ht n counter nonce (CX KJ++CX key)=some (Hh key counter nonce):=by
  unfold Ht KA
  have hlk:(CX key).length=8:=by rw[ER,hk]
  rw[Do (by simp[he,hlk]) (by simp[he,hlk]),AA]
  refine(congrArg (CN _ n) ?_).trans (Et (fun i=>(CX KJ++CX key++[counter]++(CX nonce).take i,(i:Int))) 3 (fun i hi k=>?_) (fun k=>?_) zO)
  simp
  simp only[GT,show decide ((i:Int)<3)=true by simp;omega,Cs]
  rw[Cm zO zO,show 4*(i:Int)=((4*i:Nat):Int) by omega,jO nonce (4*i) zO zO,AA,Do (by simp[he,hlk,ER];omega) (by simp[he,hlk,ER];omega),AA]
  simp only[ret]
  rw[Cm zO zO,hw nonce i zO]
  simp
  simp only[GT,show decide (((3:Nat):Int)<3)=false by decide,B0,J7]
  rw[List.take_of_length_le (by have:=ER nonce;omega)]
  simp[Hh,hc]
 refine(congrArg (CN _ n) ?_).trans (Et (fun i=>(CX KJ++(CX key).take i,(i:Int))) 8 (fun i hi k=>?_) (fun k=>?_) hm)
 simp[he]
 simp only[GS,show decide ((i:Int)<8)=true by simp;omega,Cs]
 rw[Cm zO zO,show 4*(i:Int)=((4*i:Nat):Int) by omega,jO key (4*i) zO zO,AA,Do (by simp[he,ER];omega) (by simp[he,ER];omega),AA]
 simp only[ret]
 rw[Cm zO zO,hw key i zO]
 simp
 simp only[GS,show decide (((8:Nat):Int)<8)=false by decide,B0]
 rw[List.take_of_length_le (by have:=ER key;omega)]
 exact h2
theorem t0(ws:List UInt32)(ix:Nat→Nat)(h:∀k,k<4→ix k<ws.length):DN ws (ix 0:Int) (ix 1:Int) (ix 2:Int) (ix 3:Int)=some (kJ ws ix):=by
 unfold DN
 have h0:=h 0 zD
 have h1:=h 1 zD
 have h2:=h 2 zD
 have h3:=h 3 zD
 have g:∀(l:List UInt32) (k:Nat),k<l.length→BB l (k:Int)=some (l.getD k 0):=fun l k hk=>C9 0 rfl hk
 rw[g _ _ h0,AA,g _ _ h1,AA,g _ _ h2,AA,g _ _ h3,AA,gQ,AA]
 generalize hq:Q4.quarter ⟨ws.getD (ix 0) 0,ws.getD (ix 1) 0,ws.getD (ix 2) 0,ws.getD (ix 3) 0⟩=q
 have q0:BB q.list 0=some q.a:=rfl
 have q1:BB q.list 1=some q.b:=rfl
 have q2:BB q.list 2=some q.c:=rfl
 have q3:BB q.list 3=some q.d:=rfl
 simp only[q0,q1,q2,q3,AA,Je rfl h0,g (ws.set (ix 0) q.a) (ix 1) (by simpa using h1),Je rfl (show ix 1<(ws.set (ix 0) q.a).length by simpa using h1),
  g ((ws.set (ix 0) q.a).set (ix 1) q.b) (ix 2) (by simpa using h2),Je rfl (show ix 2<((ws.set (ix 0) q.a).set (ix 1) q.b).length by simpa using h2),
  g (((ws.set (ix 0) q.a).set (ix 1) q.b).set (ix 2) q.c) (ix 3) (by simpa using h3),Je rfl (show ix 3<(((ws.set (ix 0) q.a).set (ix 1) q.b).set (ix 2) q.c).length by simpa using h3)]
 unfold kJ
 rw[hq]
 rfl
theorem lJ(key:List UInt8)(counter:UInt32)(nonce:List UInt8)(hk:key.length=32)(hn:nonce.length=12){n:Nat}(hm:16<n):G7 n key counter nonce=some (J1 key counter nonce,0):=by
 have hb:=Mh (counter:=counter) hk hn
 unfold G7
 rw[show((!decide ((key.length:Int)=32))||(!decide ((nonce.length:Int)=12)))=false by simp[hk,hn]]
 simp only[B0]
 rw[nJ key counter nonce hk hn zO,AA]
 generalize hw:Hh key counter nonce=w at hb
 rw[Do (by simp[hb]) (by simp[hb]),AA,List.nil_append]
 have hl:∀l:List UInt32,(l.flatMap F7).length=4*l.length:=by
  intro l
  induction l with
  | nil=>rfl
  | cons x r ih=>rw[List.flatMap_cons,List.length_append,ih,List.length_cons];simp[F7];omega
 have h3:∀ws:List UInt32,ws.length=16→GB n w ws=some ((List.zipWith (·+·) ws w).flatMap F7,0):=by
  intro ws ht
  have hz:(List.zipWith (·+·) ws w).length=16:=by simp[ht,hb]
  have hg:∀i,i<16→(List.zipWith (·+·) ws w)[i]? = some (ws.getD i 0+w.getD i 0):=fun i hi=>by
   simp[List.getD_eq_getElem?_getD,ht,hb,hi]
  generalize List.zipWith (·+·) ws w=z at hz hg
  unfold GB J6
  refine(congrArg (CN _ n) ?_).trans (Et (fun i=>((z.take i).flatMap F7,(i:Int))) 16 (fun i hi k=>?_) (fun k=>?_) zO)
  simp
  have ei:((i+1:Nat):Int)=(i:Int)+1:=zO
  have st:(z.take (i+1)).flatMap F7=(z.take i).flatMap F7++F7 (ws.getD i 0+w.getD i 0):=by
   rw[List.take_add_one,hg i hi,List.flatMap_append]
   simp
  dsimp only
  rw[st,ei]
  simp only[GR,show decide ((i:Int)<16)=true by simp;omega,Cs,ret]
  rw[C9 (k:=i) 0 rfl zO,AA,C9 (k:=i) 0 rfl zO,AA,Do (by rw[hl];simp[hz];omega) (by rw[hl];simp[hz];omega),AA,Cm zO zO]
  rfl
  simp only[GR,show decide (((16:Nat):Int)<16)=false by decide,B0,J4]
  rw[List.take_of_length_le zO]
 have h2:GB n w (S3 w 10)=some (J1 key counter nonce,0):=by
  rw[h3 _ (by rw[NG,hb])]
  unfold J1 jA
  rw[hw]
 unfold J5
 refine(congrArg (CN _ n) ?_).trans (Et (fun i=>(S3 w i,(i:Int))) 10 (fun i hi k=>?_) (fun k=>?_) zO)
 rfl
 simp only[GQ,show decide ((i:Int)<10)=true by simp;omega,Cs,ret]
 have hl0:(S3 w i).length=16:=by rw[NG,hb]
 have hA:∀(l:List UInt32) (s j:Nat),l.length=16→j<4→DN l (IJ s j 0:Int) (IJ s j 1:Int) (IJ s j 2:Int) (IJ s j 3:Int)=some (kJ l (IJ s j)):=fun l s j hl hj=>t0 l (IJ s j) (fun k hk=>by unfold IJ;omega)
 have r:∀(l:List UInt32) (s:Nat),l.length=16→∀j,(Ds l s j).length=16:=fun l s hl j=>by rw[Kf,hl]
 have a0:∀l:List UInt32,l.length=16→DN l 0 4 8 12=some (Ds l 0 1):=fun l hl=>hA l 0 0 hl zD
 have a1:∀l:List UInt32,l.length=16→DN (Ds l 0 1) 1 5 9 13=some (Ds l 0 2):=fun l hl=>hA _ 0 1 (r _ _ hl _) zD
 have a2:∀l:List UInt32,l.length=16→DN (Ds l 0 2) 2 6 10 14=some (Ds l 0 3):=fun l hl=>hA _ 0 2 (r _ _ hl _) zD
 have a3:∀l:List UInt32,l.length=16→DN (Ds l 0 3) 3 7 11 15=some (Ds l 0 4):=fun l hl=>hA _ 0 3 (r _ _ hl _) zD
 have b0:∀l:List UInt32,l.length=16→DN l 0 5 10 15=some (Ds l 1 1):=fun l hl=>hA l 1 0 hl zD
 have b1:∀l:List UInt32,l.length=16→DN (Ds l 1 1) 1 6 11 12=some (Ds l 1 2):=fun l hl=>hA _ 1 1 (r _ _ hl _) zD
 have b2:∀l:List UInt32,l.length=16→DN (Ds l 1 2) 2 7 8 13=some (Ds l 1 3):=fun l hl=>hA _ 1 2 (r _ _ hl _) zD
 have b3:∀l:List UInt32,l.length=16→DN (Ds l 1 3) 3 4 9 14=some (Ds l 1 4):=fun l hl=>hA _ 1 3 (r _ _ hl _) zD
 have hl4:=r _ 0 hl0 4
 rw[a0 _ hl0,AA,a1 _ hl0,AA,a2 _ hl0,AA,a3 _ hl0,AA,b0 _ hl4,AA,b1 _ hl4,AA,b2 _ hl4,AA,b3 _ hl4,AA,Cm zO zO]
 rfl
 simp only[GQ,show decide (((10:Nat):Int)<10)=false by decide,B0]
 exact h2
theorem tV(key nonce s:List UInt8)(hk:key.length=32)(hn:nonce.length=12)(hs:s.length≤1048576){n:Nat}(hm:16<n)(hm2:s.length<n):Mp n key nonce s=some (Iq key nonce s,0):=by
 have hB:∀i,G7 n key (UInt32.ofNat i) nonce=some (J1 key (UInt32.ofNat i) nonce,0):=fun i=>lJ key _ nonce hk hn hm
 have hL:∀i,(J1 key (UInt32.ofNat i) nonce).length=64:=fun i=>SE hk hn
 have hX:∀i,i<s.length→(Iq key nonce s).take (i+1)=(Iq key nonce s).take i++[s.getD i 0 ^^^ (J1 key (UInt32.ofNat (i / 64)) nonce).getD (i%64) 0]:=fun i hi=>by
  rw[List.take_add_one,List.getElem?_eq_getElem (by rw[Fw];exact hi)]
  simp[Iq,Pd]
 have hXl:=Fw key nonce s
 generalize Iq key nonce s=X at hX hXl ⊢
 generalize hBf:(fun i=>J1 key (UInt32.ofNat i) nonce)=B
 have hB':∀i,G7 n key (UInt32.ofNat i) nonce=some (B i,0):=fun i=>by rw[hB i,←hBf]
 have hL':∀i,(B i).length=64:=fun i=>by rw[←hBf];exact hL i
 have hX':∀i,i<s.length→X.take (i+1)=X.take i++[s.getD i 0 ^^^ (B (i / 64)).getD (i%64) 0]:=fun i hi=>by rw[hX i hi,←hBf]
 clear hB hL hX hBf
 unfold Mp
 rw[show(((!decide ((key.length:Int)=32))||(!decide ((nonce.length:Int)=12)))||(decide (1048576<(s.length:Int))))=false by simp[hk,hn];omega]
 simp only[B0]
 unfold JQ
 refine(congrArg (CN _ n) ?_).trans (Et (fun i=>(X.take i,(if i=0 then[]else B ((i-1) / 64)),(i:Int))) s.length (fun i hi k=>?_) (fun k=>?_) hm2)
 simp
 have ei:((i+1:Nat):Int)=(i:Int)+1:=zO
 dsimp only
 rw[hX' i hi,if_neg (show ¬i+1=0 by omega),Nat.add_sub_cancel,ei]
 simp only[Hu,show decide ((i:Int)<(s.length:Int))=true by simp;omega,Cs]
 have hr:Tx (i:Int) 64=some ((i%64:Nat):Int):=VZ zD
 have hq:VY (i:Int) 64=some ((i / 64:Nat):Int):=eQ zD zO
 have hj:Ha s (X.take i) (i:Int) k (B (i / 64))=k (X.take i++[s.getD i 0 ^^^ (B (i / 64)).getD (i%64) 0],B (i / 64),(i:Int)+1):=by
  have hbl:=hL' (i / 64)
  unfold Ha
  rw[C9 (k:=i) 0 rfl hi,AA,hr,AA,C9 (k:=i%64) 0 rfl zO,AA,Do zQ zQ,AA]
  simp only[ret]
  rw[Cm zO zO]
 rw[hr,AA]
 by_cases h0:i%64=0
 rw[show decide (((i%64:Nat):Int)=0)=true by simp;omega]
 simp only[Cs]
 have hu:E4 ((i / 64:Nat):Int)=UInt32.ofNat (i / 64):=by
  simp only[E4]
  congr 1
  omega
 rw[hq,AA,hu,hB',AA]
 exact hj
 rw[show decide (((i%64:Nat):Int)=0)=false by simp;omega]
 simp only[B0]
 rw[if_neg (show ¬i=0 by omega),show(i-1) / 64=i / 64 by omega]
 exact hj
 simp only[Hu,show decide ((s.length:Int)<(s.length:Int))=false by simp,B0,Lv]
 rw[List.take_of_length_le zO]
end

section
theorem ZO(x:UInt32)(n:Nat)(h:n≤32):CG x (n:Int)=some (KE x n):=by
 unfold CG
 rw[Vc,AA,Cm zO zO,show(32-(n:Int))=((32-n:Nat):Int) by omega,Vc,AA]
 rfl
theorem j8(s:List UInt8)(w:List UInt32)(h:16≤w.length):RO s w=w.getD (w.length-16) 0+nH (w.getD (w.length-15) 0)+w.getD (w.length-7) 0+nI (w.getD (w.length-2) 0):=by
 unfold RO
 rw[if_neg zO]
 ac_rfl
theorem mi{h:List UInt32}(hh:h.length=8){n:Nat}(hm:64<n):∀f:List UInt32,f.length=8→Gp n h f=some (List.zipWith (·+·) f h):=by
 intro f hf
 have hfl:h.length=f.length:=zO
 unfold Gp K5
 refine(congrArg (CN _ n) ?_).trans (Et (fun i=>(Ro f h i,(i:Int))) 8 (fun i hi k=>?_) (fun k=>?_) zO)
 simp[Ro]
 have ei:((i+1:Nat):Int)=(i:Int)+1:=zO
 have hml:=VV f h hfl i
 dsimp only
 rw[ei,←Zq f h hfl i zO,←Zp f h hfl i zO]
 simp only[HA,show decide ((i:Int)<8)=true by simp;omega,Cs,ret]
 rw[C9 (k:=i) 0 rfl zO,AA,C9 (k:=i) 0 rfl zO,AA,AA,Je rfl zO,AA,Cm zO zO]
 simp only[HA,show decide (((8:Nat):Int)<8)=false by decide,B0,Kz]
 have:=Yi f h hfl
 rw[hf]at this
 rw[this]
theorem mh{T h:List UInt32}(hT:T.length=64)(hh:h.length=8){n:Nat}(hm:64<n):∀w:List UInt32,w.length=64→Gm n T h w=some (List.zipWith (·+·) h (GW T w h 64).list):=by
 intro w hw
 have t6:∀x,CG x 6=some (KE x 6):=fun x=>ZO x 6 zD
 have t11:∀x,CG x 11=some (KE x 11):=fun x=>ZO x 11 zD
 have t25:∀x,CG x 25=some (KE x 25):=fun x=>ZO x 25 zD
 have t2:∀x,CG x 2=some (KE x 2):=fun x=>ZO x 2 zD
 have t13:∀x,CG x 13=some (KE x 13):=fun x=>ZO x 13 zD
 have t22:∀x,CG x 22=some (KE x 22):=fun x=>ZO x 22 zD
 have hz:∀q:NI,Gp n h q.list=some (List.zipWith (·+·) h q.list):=fun q=>by
  rw[mi hh hm _ rfl,List.zipWith_comm]
  simp only[UInt32.add_comm]
 have hN:∀i,GW T w h (i+1)=(GW T w h i).step (T.getD i 0) (w.getD i 0):=fun i=>rfl
 have h0:(GW T w h 0).list=h:=Qx hh
 generalize GW T w h=R at hN h0 ⊢
 unfold Gm K0
 rw[Do (by simp[hh]) (by simp[hh]),AA,List.nil_append]
 refine(congrArg (CN _ n) ?_).trans (Et (fun i=>((R i).list,(i:Int))) 64 (fun i hi k=>?_) (fun k=>?_) zO)
 simp[h0]
 have ei:((i+1:Nat):Int)=(i:Int)+1:=zO
 dsimp only
 rw[ei,hN]
 generalize R i=q
 have q0:BB q.list 0=some q.a:=rfl
 have q1:BB q.list 1=some q.b:=rfl
 have q2:BB q.list 2=some q.c:=rfl
 have q3:BB q.list 3=some q.d:=rfl
 have q4:BB q.list 4=some q.e:=rfl
 have q5:BB q.list 5=some q.f:=rfl
 have q6:BB q.list 6=some q.g:=rfl
 have q7:BB q.list 7=some q.i:=rfl
 simp only[G9,show decide ((i:Int)<64)=true by simp;omega,Cs,Be,q0,q1,q2,q3,q4,q5,q6,q7,AA,t6,t11,t25,t2,t13,t22]
 rw[C9 (k:=i) 0 rfl zO,AA,C9 (k:=i) 0 rfl zO,AA,Cm zO zO]
 simp only[NI.step,NI.list,NI.t1,NI.t2]
 simp only[G9,show decide (((64:Nat):Int)<64)=false by decide,B0]
 exact hz _
theorem qe(T h:List UInt32)(s:List UInt8)(hT:T.length=64)(hh:h.length=8)(hs:s.length=64){n:Nat}(hm:64<n):Lb n T h s=some (RL T h s):=by
 
 have t7:∀x,CG x 7=some (KE x 7):=fun x=>ZO x 7 zD
 have t18:∀x,CG x 18=some (KE x 18):=fun x=>ZO x 18 zD
 have t17:∀x,CG x 17=some (KE x 17):=fun x=>ZO x 17 zD
 have t19:∀x,CG x 19=some (KE x 19):=fun x=>ZO x 19 zD
 unfold Lb IX
 have hW:∀i,FG s (i+1)=FG s i++[RO s (FG s i)]:=fun i=>rfl
 have hWl:=MB s
 have hfin:Gm n T h (FG s 64)=some (RL T h s):=by
  unfold RL ED
  exact mh hT hh hm _ (hWl 64)
 have hW0:FG s 0=[]:=rfl
 generalize FG s=W at hW hWl hfin hW0
 refine(congrArg (CN _ n) ?_).trans (Et (fun i=>(W i,(i:Int))) 64 (fun i hi k=>?_) (fun k=>?_) hm)
 simp[hW0]
 have ei:((i+1:Nat):Int)=(i:Int)+1:=zO
 have hl:=hWl i
 dsimp only
 rw[ei,hW]
 generalize W i=w at hl
 simp only[G8,show decide ((i:Int)<64)=true by simp;omega,Cs]
 have hj:∀x:UInt32,(DR 4 w [x]).bind (fun l=>Gn (i:Int) k l)=k (w++[x],(i:Int)+1):=fun x=>by
  rw[Do zQ zQ,AA]
  simp only[Gn,ret]
  rw[Cm zO zO]
 by_cases hlt:i<16
 rw[show decide ((i:Int)<16)=true by simp;omega]
 simp only[Cs]
 rw[Cm zO zO,C9 (k:=4*i) 0 zO zO,AA,Cm zO zO,C9 (k:=4*i+1) 0 zO zO,AA,Cm zO zO,C9 (k:=4*i+2) 0 zO zO,AA,
  Cm zO zO,C9 (k:=4*i+3) 0 zO zO,AA,hj]
 unfold RO
 rw[if_pos zO,hl]
 rfl
 rw[show decide ((i:Int)<16)=false by simp;omega]
 simp only[B0]
 rw[Cm zO zO,C9 (k:=i-15) 0 zO zO,AA,Cm zO zO,C9 (k:=i-2) 0 zO zO,AA,Cm zO zO,C9 (k:=i-16) 0 zO zO,AA,
  t7,AA,t18,AA,Cm zO zO,C9 (k:=i-7) 0 zO zO,AA,t17,AA,t19,AA,hj,j8 s w zO,hl]
 rfl
 simp only[G8,show decide (((64:Nat):Int)<64)=false by decide,B0]
 exact hfin
theorem ec(x:UInt64):shr64 x 0=x:=by
 apply UInt64.toNat_inj.1
 have:=x.toNat_lt
 simp[shr64]
theorem jo(s:List UInt8)(hs:s.length≤1099511627776){n:Nat}(hm:64<n):JR n s=some (s++LR s.length):=by
 unfold JR
 rw[Ev zQ,AA]
 unfold I8
 have hp:Ln s.length<64:=by unfold Ln;omega
 refine(congrArg (CN _ n) ?_).trans (Et (fun i=>s++[128]++List.replicate i 0) (Ln s.length) (fun i hi k=>?_) (fun k=>?_) zO)
 simp
 have hl:(s++[128]++List.replicate i (0:UInt8)).length=s.length+1+i:=by simp;omega
 have st:s++[128]++List.replicate (i+1) (0:UInt8)=s++[128]++List.replicate i 0++[0]:=by rw[List.replicate_succ',List.append_assoc _ _ [0]]
 rw[st]
 generalize s++[128]++List.replicate i (0:UInt8)=u at hl
 simp only[F0]
 rw[hl,show(64:Int)=((64:Nat):Int)from rfl,VZ zD,AA,show(!decide ((((s.length+1+i)%64:Nat):Int)=56))=true by unfold Ln at hi;simp;omega]
 simp only[Cs]
 rw[Ev zQ,AA]
 have hl:(s++[128]++List.replicate (Ln s.length) (0:UInt8)).length=s.length+1+Ln s.length:=by simp;omega
 have ht:s++LR s.length=s++[128]++List.replicate (Ln s.length) 0++SD (Cq s.length*8):=by simp[LR]
 rw[ht]
 generalize s++[128]++List.replicate (Ln s.length) (0:UInt8)=u at hl
 simp only[F0]
 rw[hl,show(64:Int)=((64:Nat):Int)from rfl,VZ zD,AA,show(!decide ((((s.length+1+Ln s.length)%64:Nat):Int)=56))=false by unfold Ln;simp;omega]
 simp only[B0,I7,ret]
 rw[Ev zQ,AA]
 simp only[SD,ec]
theorem ga(T:List UInt32)(s:List UInt8)(hT:T.length=64)(hs:s.length≤1099511627776){n:Nat}(hm:64<n)(hm2:s.length<n):I9 n T s=some (NE T s):=by
 unfold I9
 rw[jo s hs hm,AA]
 have hw:(s++LR s.length).length%64=0:=by
  simp[LR,Ln,SD];omega
 have hlen:(s++LR s.length).length≤s.length+73:=by
  simp[LR,Ln,SD];omega
 have hsum:NE T s=(Gc T D5 (s++LR s.length) ((s++LR s.length).length / 64)).list.flatMap Gv:=by
  unfold NE
  rw[LU]
 rw[hsum]
 generalize s++LR s.length=f at hw hlen
 
 have hl:∀l:List UInt32,(l.flatMap Gv).length=4*l.length:=by
  intro l
  induction l with
  | nil=>rfl
  | cons x r ih=>rw[List.flatMap_cons,List.length_append,ih,List.length_cons];simp[Gv];omega
 have h1:∀l:List UInt32,l.length=8→JS n l=some (l.flatMap Gv):=by
  intro l h8
  unfold JS Ly
  refine(congrArg (CN _ n) ?_).trans (Et (fun i=>((l.take i).flatMap Gv,(i:Int))) 8 (fun i hi k=>?_) (fun k=>?_) zO)
  simp
  have ei:((i+1:Nat):Int)=(i:Int)+1:=zO
  have st:(l.take (i+1)).flatMap Gv=(l.take i).flatMap Gv++Gv (l.getD i 0):=by
   rw[List.take_add_one,Jq 0 zO,List.flatMap_append]
   simp
  dsimp only
  rw[st,ei]
  simp only[Hw,show decide ((i:Int)<8)=true by simp;omega,Cs,ret]
  rw[C9 (k:=i) 0 rfl zO,AA,AA,AA,AA,Do (by rw[hl];simp;omega) (by rw[hl];simp;omega),AA,Cm zO zO]
  rfl
  simp only[Hw,show decide (((8:Nat):Int)<8)=false by decide,B0,Lw]
  rw[List.take_of_length_le zO]
 unfold Lx
 have hfirst:Mq=some D5.list:=rfl
 rw[hfirst,AA]
 have hP:∀j,(Gc T D5 f (j+1)).list=RL T (Gc T D5 f j).list ((f.drop (64*j)).take 64):=fun j=>by
  show(UN T _ _).list=_
  unfold UN
  exact Qx (Tu rfl)
 have hP8:∀j,(Gc T D5 f j).list.length=8:=fun j=>rfl
 have hP0:(Gc T D5 f 0).list=D5.list:=rfl
 generalize (fun j=>(Gc T D5 f j).list)=R at hP hP8 hP0
 generalize hR:(fun j=>(Gc T D5 f j).list)=R at*
 have hP':∀j,R (j+1)=RL T (R j) ((f.drop (64*j)).take 64):=fun j=>by rw[←hR];exact hP j
 have hP8':∀j,(R j).length=8:=fun j=>by rw[←hR];exact hP8 j
 have hP0':R 0=D5.list:=by rw[←hR];exact hP0
 have hRN:(Gc T D5 f (f.length / 64)).list=R (f.length / 64):=by rw[←hR]
 rw[hRN]
 clear hR hRN hP hP8 hP0
 refine(congrArg (CN _ n) ?_).trans (Et (fun j=>(R j,((64*j:Nat):Int))) (f.length / 64) (fun j hj k=>?_) (fun k=>?_) zO)
 simp[hP0']
 have ej:((64*(j+1):Nat):Int)=((64*j:Nat):Int)+64:=zO
 dsimp only
 rw[hP',ej]
 simp only[Hv,show decide (((64*j:Nat):Int)<(f.length:Int))=true by simp;omega,Cs,ret]
 rw[Cm zO zO,ed (p:=64*j) (q:=64*j+64) rfl zO zO zO,AA,show 64*j+64-64*j=64 by omega,qe T (R j) _ hT (hP8' j) zQ hm,AA]
 simp only[Hv,show decide (((64*(f.length / 64):Nat):Int)<(f.length:Int))=false by simp;omega,B0]
 exact h1 _ (hP8' _)
theorem jC(T:List UInt32)(key:List UInt8)(c:UInt8)(hT:T.length=64)(hs:key.length≤1099511627776){n:Nat}(hm:64<n)(hm2:key.length<n):Jm n T key c=some (F8 T key c):=by
 have h1:∀u:List UInt8,u.length≤64→Gq n c u=some ((List.range 64).map fun i=>u.getD i 0 ^^^ c):=by
  intro u hu
  unfold Gq IY
  refine(congrArg (CN _ n) ?_).trans (Et (fun i=>((List.range i).map (fun i=>u.getD i 0 ^^^ c),(i:Int))) 64 (fun i hi k=>?_) (fun k=>?_) hm)
  simp
  have ei:((i+1:Nat):Int)=(i:Int)+1:=zO
  have st:(List.range (i+1)).map (fun i=>u.getD i 0 ^^^ c)=(List.range i).map (fun i=>u.getD i 0 ^^^ c)++[u.getD i 0 ^^^ c]:=by simp[List.range_succ]
  have hj:Gr c ((List.range i).map (fun i=>u.getD i 0 ^^^ c)) (i:Int) k (u.getD i 0)=k ((List.range i).map (fun i=>u.getD i 0 ^^^ c)++[u.getD i 0 ^^^ c],(i:Int)+1):=by
   unfold Gr
   rw[Do zQ zQ,AA]
   simp only[ret]
   rw[Cm zO zO]
  dsimp only
  rw[st,ei,←hj]
  simp only[HB,show decide ((i:Int)<64)=true by simp;omega,Cs]
  by_cases h0:i<u.length
  rw[show decide ((i:Int)<(u.length:Int))=true by simp;omega]
  simp only[Cs]
  rw[C9 (k:=i) 0 rfl h0,AA]
  rw[show decide ((i:Int)<(u.length:Int))=false by simp;omega]
  simp only[B0]
  rw[show u.getD i 0=0 by simp[List.getD_eq_getElem?_getD,List.getElem?_eq_none (show u.length≤i by omega)]]
  simp only[HB,show decide (((64:Nat):Int)<64)=false by decide,B0,K6]
 unfold Jm F8 FY
 by_cases h0:64<key.length
 rw[show decide (64<(key.length:Int))=true by simp;omega,if_pos h0]
 simp only[Cs]
 rw[ga T key hT hs hm hm2,AA]
 exact h1 _ (by rw[JK];omega)
 rw[show decide (64<(key.length:Int))=false by simp;omega,if_neg h0]
 simp only[B0]
 exact h1 _ zO
theorem mY(T:List UInt32)(key m:List UInt8)(hT:T.length=64)(hk:key.length≤1048576)(hs:m.length≤1048576){n:Nat}(hm:2097152<n):JC n T key m=some (Rn T key m):=by
 unfold JC Mr
 have l1:=Lo T key 54
 have l2:=Lo T key 92
 rw[jC T key 54 hT zO zO zO,AA,Ev zO,AA,jC T key 92 hT zO zO zO,AA,ga T _ hT zQ zO zQ,AA,
  Ev (by rw[JK];omega),AA,AA]
 have e:BB [F8 T key 54++m,F8 T key 92++NE T (F8 T key 54++m)] 1=some (F8 T key 92++NE T (F8 T key 54++m)):=rfl
 rw[e,AA,ga T _ hT (by rw[List.length_append,JK];omega) zO (by rw[List.length_append,JK];omega),AA]
 unfold Rn
 exact Eq.refl _
theorem mC(T:List UInt32)(key label:List UInt8)(hT:T.length=64)(hk:key.length≤1048576)(hl:label.length≤1000000){n:Nat}(hm:2097152<n):Hb n T key label 32=some (Ga T key label,0):=by
 have hml:∀m,(Rn T key m).length=32:=fun m=>H6 T key m
 have hmac:JC n T key ([]++label++[Ip 1])=some (Ga T key label):=by
  rw[mY T key _ hT hk zQ hm]
  rfl
 have he:(Ga T key label).length=32:=hml _
 generalize Ga T key label=x at hmac he ⊢
 unfold Hb JB
 rw[show((decide ((32:Int)<0))||(decide ((8160:Int)<32)))=false by decide]
 simp only[B0]
 obtain⟨m,rfl⟩:∃m,n=m+1+1:=⟨n-2,by omega⟩
 rw[Wj]
 simp only[F1]
 rw[show decide (((([]:List UInt8).length:Nat):Int)<32)=true by decide]
 simp only[Cs]
 rw[Ev zQ,AA,Ev zQ,AA,hmac,AA,Ev zQ,AA]
 rw[Be,List.nil_append,Wj]
 simp only[F1]
 rw[show decide (((x.length:Nat):Int)<32)=false by rw[he];decide]
 simp only[B0,JA]
 rw[show Ix x 0 32=some ((x.drop 0).take (32-0))from ed (p:=0) (q:=32) rfl rfl zO zO,AA]
 simp[List.take_of_length_le,he]
end

section
theorem cD(x:UInt64)(w:Nat)(hw:w≤8){n:Nat}(hm:8<n):EC n x (w:Int)=some (Ca x w):=by
 unfold EC L4
 have hS:∀i,i<8→shr64 x (8*(i+1))=shr64 x (8*i) / 256:=fun i hi=>by
  apply UInt64.toNat_inj.1
  rw[UInt64.toNat_div,Kg _ _ zO,Kg _ _ zO,show(256:UInt64).toNat=2^8 from rfl,Nat.div_div_eq_div_mul,←Nat.pow_add,show 8*(i+1)=8*i+8 by omega]
 have hP:∀i,Ca x (i+1)=Ca x i++[(shr64 x (8*i)).toUInt8]:=Sn x
 have h0:shr64 x (8*0)=x:=by rw[Nat.mul_zero,ec]
 have hl:=B4 x
 have hp0:Ca x 0=[]:=rfl
 generalize Ca x=Pt at hP hl hp0 ⊢
 generalize hq:(fun i=>shr64 x (8*i))=S
 have hS':∀i,i<8→S (i+1)=S i / 256:=fun i hi=>by rw[←hq];exact hS i hi
 have hP':∀i,Pt (i+1)=Pt i++[(S i).toUInt8]:=fun i=>by rw[hP,←hq]
 have h0':S 0=x:=by rw[←hq];exact h0
 clear hS hP h0 hq
 refine(congrArg (CN _ n) ?_).trans (Et (fun i=>(S i,Pt i,(i:Int))) w (fun i hi k=>?_) (fun k=>?_) zO)
 simp[h0',hp0]
 have ei:((i+1:Nat):Int)=(i:Int)+1:=zO
 dsimp only
 rw[ei,hP',hS' i zO]
 simp only[Hy,show decide ((i:Int)<(w:Int))=true by simp;omega,Cs]
 have hlp:=hl i
 rw[Ev zQ,AA,show RV (S i) 256=some (S i / 256)from rfl,AA,Be,Cm zO zO]
 simp only[Hy,show decide ((w:Int)<(w:Int))=false by simp,B0,L3]
theorem ma(h:DJ){n:Nat}(hm:8<n):KQ n h=some (LC h):=by
 unfold KQ
 rw[show EC n h.boot.toUInt64 4=some (Ca h.boot.toUInt64 4)from cD _ 4 zD hm,AA,show EC n h.seq 8=some (Ca h.seq 8)from cD _ 8 zD hm,AA,Ev (by simp[B4]),AA]
 unfold LC
 exact Eq.refl _
theorem rI(h:DJ){n:Nat}(hm:8<n):Mt n h=some (PW h):=by
 unfold Mt
 have p4:∀x:UInt64,EC n x 4=some (Ca x 4):=fun x=>cD _ 4 zD hm
 have p8:∀x:UInt64,EC n x 8=some (Ca x 8):=fun x=>cD _ 8 zD hm
 rw[p4,AA,p4,AA,Ev (by simp[B4]),AA,p4,AA,Ev (by simp[B4]),AA,p8,AA,Ev (by simp[B4]),AA,Ev (by simp[B4]),AA]
 simp[PW,LC]
theorem jG(T:List UInt32)(k:BI)(hT:T.length=64)(hr:Dm [k]=true){n:Nat}(hm:2097152<n):Jo n T k=some (Pe T k Nn,Pe T k OG,0):=by
 have hl:=Wp hr
 unfold Jo
 rw[Yn [k] zS zO,AA,hr]
 simp only[Bool.not_true,B0]
 rw[Ev zS,AA,mC T k.secret _ hT zO zS hm,AA,Ev zS,AA,mC T k.secret _ hT zO zS hm,AA]
 exact Eq.refl _
theorem sR(s:List UInt8){n:Nat}(hm:256<n):Ms n s=some (PU s):=by
 unfold Ms PU
 by_cases h:198<s.length
 rw[show decide (198<(s.length:Int))=true by simp;omega,if_pos h]
 simp only[Cs]
 rw[show decide (198<(s.length:Int))=false by simp;omega,if_neg h]
 simp only[B0]
 rw[show VY (s.length:Int) 256=some ((s.length / 256:Nat):Int)from eQ (b:=256) zD zO,AA,show Tx (s.length:Int) 256=some ((s.length%256:Nat):Int)from VZ (b:=256) zD,AA,Ev zQ,AA]
 have hp:Kc s=[Ip ((s.length / 256:Nat):Int),Ip ((s.length%256:Nat):Int)]++s++List.replicate (198-s.length) 0:=by
  unfold Kc
  congr 3
  simp only[Ip]
  congr 2
  omega
 rw[hp]
 have hl:([Ip ((s.length / 256:Nat):Int),Ip ((s.length%256:Nat):Int)]++s).length=s.length+2:=by simp
 generalize [Ip ((s.length / 256:Nat):Int),Ip ((s.length%256:Nat):Int)]++s=u at hl
 unfold L0
 refine(congrArg (CN _ n) ?_).trans (Et (fun i=>u++List.replicate i 0) (198-s.length) (fun i hi k=>?_) (fun k=>?_) zO)
 simp
 have st:u++List.replicate (i+1) (0:UInt8)=u++List.replicate i 0++[0]:=by rw[List.replicate_succ',List.append_assoc]
 have hl2:(u++List.replicate i (0:UInt8)).length=s.length+2+i:=by simp;omega
 rw[st]
 generalize u++List.replicate i (0:UInt8)=y at hl2
 unfold Hx
 rw[show decide ((y.length:Int)<200)=true by simp;omega]
 simp only[Cs]
 rw[Ev zQ,AA]
 have hl2:(u++List.replicate (198-s.length) (0:UInt8)).length=200:=by simp;omega
 generalize u++List.replicate (198-s.length) (0:UInt8)=y at hl2
 unfold Hx
 rw[show decide ((y.length:Int)<200)=false by simp;omega]
 simp only[B0]
 unfold Lz
 exact Eq.refl _
end

section
theorem lK(T:List UInt32)(k:BI)(h:DJ)(body:List UInt8)(hT:T.length=64)(hr:Dm [k]=true)(hb:body.length=200){n:Nat}(hm:2097152<n):KP n T k h body=some (Ko T k h body):=by
 unfold KP
 rw[jG T k hT hr hm,AA,ma h zO,AA,tV _ _ _ (Ot T k Nn) (Kb h) zO zO zO,AA,rI h zO,AA,Ev (by rw[H7,Fw];omega),AA]
 rfl
theorem qi(T:List UInt32)(l:List BI)(h:DJ)(s:List UInt8)(hT:T.length=64)(hl:l.length≤1048576){n:Nat}(hm:2097152<n):Lc n T l h s=some (HY T l h s):=by
 unfold Lc
 rw[iq l h.gen hl zO,AA]
 unfold HY
 by_cases hf:(DW l h.gen).2=0
 obtain⟨_,_,_,hr⟩:=VA hf
 rw[show(!decide ((DW l h.gen).2=0))=false by simp[hf],if_neg (by simp[hf])]
 simp only[B0]
 rw[sR s zO,AA]
 by_cases h1:198<s.length
 rw[if_pos h1,show PU s=([],50) by unfold PU;rw[if_pos h1]]
 rfl
 rw[if_neg h1,show PU s=(Kc s,0) by unfold PU;rw[if_neg h1]]
 have hp:=Fu (s:=s) zO
 rw[show(!decide (((Kc s,(0:Int)):List UInt8×Int).2=0))=false from rfl]
 simp only[B0]
 have hbl:=Gw T (DW l h.gen).1 h hp
 rw[lK T _ h _ hT hr hp hm,AA,jG T _ hT hr hm,AA]
 dsimp only
 rw[mY T _ _ hT (by rw[Ot];omega) (by rw[hbl];omega) hm,AA,Ev (by rw[hbl,H6];omega),AA]
 unfold Hi
 exact Eq.refl _
 rw[show(!decide ((DW l h.gen).2=0))=true by simp[hf],if_pos hf]
 simp only[Cs]
end

section
structure Ww(k:UInt64)(c:A3):Prop where
 bl:c.blk.length=60
 pl:c.pnd.length=60
 lf:c.left = -1
 on:c.off=false
 rc:c.rcnt=k
theorem md{k:UInt64}{c:A3}(R:Ww k c):Dw c=some (0,c):=by
 unfold Dw Fj
 rw[R.lf,show decide ((-1:Int)=0)=false from rfl,B0,R.on,B0,show decide ((0:Int) < -1)=false from rfl,B0]
 rfl
theorem nh{k:UInt64}{c:A3}{p:UInt32}{b:List UInt8}(R:Ww k c)(hp:p.toNat<60)(hb:b.length=256):∃c',Er c p b=some (0,c')∧Ww k c':=by
 have h1:decide (p.toUInt64<Cq (c.blk.length:Int))=true:=by
  rw[R.bl,decide_eq_true_eq,UInt64.lt_iff_toNat_lt]
  show p.toUInt64.toNat<60
  simpa using hp
 refine⟨{ c with pnd:=c.pnd.set p.toNat b },?_,⟨R.bl,(List.length_set ..).trans R.pl,R.lf,R.on,R.rc⟩⟩
 unfold Er JD
 rw[Be,AA,h1,hb]
 show(Dw c).bind _=_
 have h2:BB c.pnd ((p.toNat:Nat):Int)=some (c.pnd[p.toNat]'(by rw[R.pl];exact hp)):=by rw[Dp];exact List.getElem?_eq_getElem _
 rw[md R,AA]
 show(BB c.pnd ((p.toNat:Nat):Int)).bind _=_
 rw[h2,AA,Je rfl (by rw[R.pl];exact hp),AA]
 rfl
theorem dp{k:UInt64}{c:A3}(R:Ww k c):∃c',Ep 2200000 c=some (0,c')∧Ww k c':=by
 unfold Ep
 rw[md R,AA]
 have key:∀(i m:Nat) (x:A3),i≤60→60-i<m→Ww k x→∃c',D7 (0,c) m (x,(i:Int))=some (0,c')∧Ww k c':=by
  intro i m
  induction m generalizing i with
  | zero=>intro x _ h;omega
  | succ m ih=>
   intro x hi hm X
   show ∃c',EM (0,c) (D7 (0,c) m) x (i:Int)=some (0,c')∧Ww k c'
   unfold EM
   rw[X.bl]
   by_cases h:i<60
   have h1:BB x.pnd (i:Int)=some (x.pnd[i]'(by rw[X.pl];exact h)):=by rw[Dp];exact List.getElem?_eq_getElem _
   have h2:BB x.blk (i:Int)=some (x.blk[i]'(by rw[X.bl];exact h)):=by rw[Dp];exact List.getElem?_eq_getElem _
   rw[show(decide ((i:Int)<((60:Nat):Int))&&decide (((0,c):Int×A3).1=0))=true by simp;omega,Cs,h1,AA]
   cases (!decide (x.pnd[i]'(by rw[X.pl];exact h)=[]))with
   | true=>
    rw[Cs,AA,h2,AA,Je rfl (by rw[X.bl];exact h),AA,AA,Je rfl (by rw[X.pl];exact h),AA]
    unfold D6
    rw[Be,Cm zO zO]
    exact ih (i+1) _ zO zO ⟨(List.length_set ..).trans X.bl,(List.length_set ..).trans X.pl,X.lf,X.on,X.rc⟩
   | false=>
    rw[B0]
    unfold D6
    rw[Be,Cm zO zO]
    exact ih (i+1) _ zO zO X
   rw[show(decide ((i:Int)<((60:Nat):Int))&&decide (((0,c):Int×A3).1=0))=false by simp;omega,B0]
   exact⟨x,rfl,X⟩
 exact key 0 2200000 c zO zO R
theorem rK{k:UInt64}{c:A3}{t:List UInt8}(R:Ww k c)(ht:t.length=32)(hk:k≠18446744073709551615):∃c',FC c t=some (0,c'):=by
 unfold FC
 rw[ht,show(!decide (((32:Nat):Int)=32))=false from rfl,B0,zf (by rw[R.rc];exact hk),B0,md R,AA]
 exact⟨_,rfl⟩
theorem qj{b:List UInt8}(hb:b.length=256):Ix b 224 (b.length:Int)=some (b.drop 224):=by
 unfold Ix
 rw[if_pos zO,show(224:Int).toNat=224 from rfl,show(b.length:Int).toNat=b.length from rfl,List.take_of_length_le zS]
theorem eZ{T:List UInt32}{k:UInt64}{w:BW}{c:A3}{p:UInt32}{s:List UInt8}(hT:T.length=64)(hr:w.ring=DL 1)(hg:w.gen=1)(R:Ww k c)(hp:p.toNat<60)(hs:s.length≤198):
  ∃tag c',FD 2200000 T w c p s=some (tag,0,{ w with num:=w.num+1 },c')∧tag.length=32∧Ww k c':=by
 have hb:=Kn T (Sl 0) ⟨p,w.gen,w.boot,w.num⟩ hs
 have hse:HY T (DL 1) ⟨p,w.gen,w.boot,w.num⟩ s=(Hi T (Sl 0) ⟨p,w.gen,w.boot,w.num⟩ s,0):=by
  have:=Z2 (T:=T) (l:=DL 1) (h:=⟨p,w.gen,w.boot,w.num⟩) (s:=s) (by rw[DY];omega) (by rw[hg];exact YJ zO zO) hs
  unfold WJ at this
  rw[if_pos ⟨by rw[DY];omega,by omega⟩]at this
  exact zI this
 obtain⟨c',hw,R'⟩:=nh R hp hb
 refine⟨(Hi T (Sl 0) ⟨p,w.gen,w.boot,w.num⟩ s).drop 224,c',?_,by simp[hb],R'⟩
 unfold FD
 rw[hr,qi T (DL 1) _ s hT (by rw[DY];omega) zO,hse,AA]
 show(Er c p _).bind _=_
 rw[hw,AA]
 show(Ix _ 224 _).bind _=_
 rw[qj hb,AA]
theorem sS:∃t,JU 2200000 ⟨1,0,0,0,[],[],0,[]⟩=some (t,0)∧t.length≤198:=by
 have h:(JU 2200000 ⟨1,0,0,0,[],[],0,[]⟩).map (fun y=>(y.2,decide (y.1.length≤198)))=some (0,true):=zK
 obtain⟨⟨t,e⟩,h1,h2⟩:=Option.map_eq_some_iff.1 h
 simp only[Prod.mk.injEq,decide_eq_true_eq]at h2
 obtain⟨rfl,h2⟩:=h2
 exact⟨t,h1,h2⟩
theorem jr{T:List UInt32}(hT:T.length=64):∃s w c,JW 2200000 T (r0 60) (DL 1)=some (some (s,w),0,c):=by
 have hr1:Dm (DL 1)=true:=Oq 1 zO
 have hn:JT 2200000 (DL 1)=some (1,0):=by
  unfold JT
  rw[Yn _ (by rw[DY];omega) zO,hr1]
  rfl
 have R0:Ww 0 { r0 60 with rboots:=1 }:=⟨List.length_replicate ..,List.length_replicate ..,rfl,rfl,rfl⟩
 have hst:HN (r0 60)=some (1,0,{ r0 60 with rboots:=1 }):=rfl
 have hv:∃l,M1 2200000 { r0 60 with rboots:=1 } (DL 1) 1 1=some (some { ring:=DL 1,gen:=1,boot:=1,num:=0,taken:=l },0)∧l.length=60∧BB l 2=some false:=by
  refine⟨((List.replicate 60 false).set 0 true).set 1 true,?_,rfl,rfl⟩
  unfold M1
  rw[iq (DL 1) 1 (by rw[DY];omega) zO,YJ zO zO,AA]
  rfl
 obtain⟨l,hv,hl,h2⟩:=hv
 obtain⟨t,ht,htl⟩:=sS
 generalize hw:({ ring:=DL 1,gen:=1,boot:=1,num:=0,taken:=l }:BW)=w at hv
 generalize hc:({ r0 60 with rboots:=1 }:A3)=c at hv hst R0
 have wr:w.ring=DL 1:=by rw[←hw]
 have wg:w.gen=1:=by rw[←hw]
 have wt:w.taken=l:=by rw[←hw]
 obtain⟨tag,c1,hs1,ltag,R1⟩:=eZ hT wr wg R0 (show(E4 2).toNat<60 by decide) htl
 have hwr:F2 2200000 T w c t=some (⟨2,tag⟩,0,{ w with num:=w.num+1,taken:=l.set 2 true },c1):=by
  unfold F2
  rw[zf zO,B0]
  show Ed 2200000 T t (GD 2200000 T t 2199999) w c 0 [] 2=_
  unfold Ed
  rw[wt,hl,show decide ((2:Int)<((60:Nat):Int))=true from rfl,Cs,h2,AA,B0,hs1,AA]
  simp only[decide_true,Bool.not_true,B0]
  rw[wt,h2,AA,Je (show(2:Int)=((2:Nat):Int)from rfl) zO,AA]
  rfl
 have hsv:Le 2200000 T w c=some ([⟨t,2,tag⟩],0,{ w with num:=w.num+1,taken:=l.set 2 true },c1):=by
  have hpl:Es 2200000 T { had:=[],out:=[],took:=[],err:=0,must:=[] } w c ⟨1,0,0,0,[],[],0,[]⟩=some (⟨2,tag⟩,{ had:=[],out:=[⟨t,2,tag⟩],took:=[2],err:=0,must:=[] },{ w with num:=w.num+1,taken:=l.set 2 true },c1):=by
   unfold Es
   rw[ht,AA]
   show Ey 2200000 T w c (t,0) { had:=[],out:=[],took:=[],err:=0,must:=[] } 0 []=_
   unfold Ey
   rw[hwr,AA]
   rfl
  have hnd:F3 2200000 T { had:=[],out:=[],took:=[],err:=0,must:=[] } w c=some (⟨2,tag⟩,{ had:=[],out:=[⟨t,2,tag⟩],took:=[2],err:=0,must:=[] },{ w with num:=w.num+1,taken:=l.set 2 true },c1):=by
   show Ee 2200000 T (GE 2200000 T 2199999) { had:=[],out:=[],took:=[],err:=0,must:=[] } w c 0 [] 0=_
   unfold Ee
   show(Es 2200000 T { had:=[],out:=[],took:=[],err:=0,must:=[] } w c ⟨1,0,0,0,[],[],0,[]⟩).bind _=_
   rw[hpl,AA]
   rfl
  unfold Le
  show(F3 2200000 T { had:=[],out:=[],took:=[],err:=0,must:=[] } w c).bind _=_
  rw[hnd,AA]
  rfl
 generalize hw2:({ w with num:=w.num+1,taken:=l.set 2 true }:BW)=w2 at hsv
 have w2r:w2.ring=DL 1:=by rw[←hw2];exact wr
 have w2g:w2.gen=1:=by rw[←hw2];exact wg
 obtain⟨c2,hf,R2⟩:=dp R1
 have hri:HG ⟨1,1,0,2,tag⟩=some true:=by
  unfold HG GC
  rw[ltag]
  rfl
 have put8:∀x:UInt64,∃a,H3 2200000 x 8=some a∧a.length=8:=fun x=>⟨_,rfl,rfl⟩
 have put4:∀x:UInt64,∃a,H3 2200000 x 4=some a∧a.length=4:=fun x=>⟨_,rfl,rfl⟩
 obtain⟨a1,p1,q1⟩:=put8 1
 obtain⟨a2,p2,q2⟩:=put4 (1:UInt32).toUInt64
 obtain⟨a3,p3,q3⟩:=put4 (0:UInt32).toUInt64
 obtain⟨a4,p4,q4⟩:=put4 (2:UInt32).toUInt64
 have he:∃u,JV 2200000 ⟨1,1,0,2,tag⟩=some (u,0)∧u.length≤198:=by
  refine⟨[115,112,104,114]++a1++a2++a3++a4++tag,?_,by simp[q1,q2,q3,q4,ltag]⟩
  unfold JV ET
  rw[hri,AA]
  simp only[Bool.not_true,B0]
  rw[p1,AA,if_pos (by simp[q1]),AA,p2,AA,if_pos (by simp[q1,q2]),AA,p3,AA,if_pos (by simp[q1,q2,q3]),AA,p4,AA,if_pos (by simp[q1,q2,q3,q4]),AA,if_pos (by simp[q1,q2,q3,q4,ltag]),AA]
 obtain⟨u,he,hu⟩:=he
 obtain⟨tg2,c3,hs3,ltg2,R3⟩:=eZ (T:=T) (p:=(1:UInt64).toUInt32) hT w2r w2g R2 zD hu
 obtain⟨c4,hf4,R4⟩:=dp R3
 obtain⟨c5,ha⟩:=rK R4 ltg2 zD
 have hpub:∀s,EX 2200000 T s w2 c1 [⟨t,2,tag⟩]=some (0,{ w2 with num:=w2.num+1 },c5):=by
  intro s
  unfold EX
  have hnx:Lf 0 w2.gen 0 ⟨2,tag⟩=some (⟨1,1,0,2,tag⟩,0):=by
   rw[w2g]
   unfold Lf
   rw[show decide ((0:UInt64)=18446744073709551615)=false from rfl,B0,show(decide ((0:Int)<0)||decide ((1000:Int)<0))=false from rfl,B0]
   show(HG ⟨1,1,0,2,tag⟩).bind _=_
   rw[hri]
   rfl
  rw[hf,AA]
  simp only[decide_true,Bool.not_true,B0]
  rw[show BB [(⟨t,2,tag⟩:A4)] (wI (([(⟨t,2,tag⟩:A4)].length:Int)-1))=some ⟨t,2,tag⟩from rfl,AA,R2.rc,hnx,AA]
  simp only[decide_true,Bool.not_true,B0]
  rw[he,AA,show V8 (1:UInt64) 2=some 1 from rfl,AA]
  unfold H2
  rw[show decide ((1:UInt32)<(1:UInt64).toUInt32)=false from rfl,B0,zf (show ¬(198<(u.length:Int)) by omega),B0,hs3,AA,AA]
  simp only[decide_true,Bool.not_true,B0]
  rw[hf4,AA]
  simp only[decide_true,Bool.not_true,B0]
  rw[ha,AA]
 have hch:∃s',Fk 2200000 T { rows:=[],had:=[],gens:=[],bad:=false } w c=some (0,s',{ w2 with num:=w2.num+1 },c5):=by
  refine⟨{ rows:=[],had:=[⟨t,2,tag⟩],gens:=[w2.gen],bad:=false },?_⟩
  unfold Fk
  rw[hsv,AA]
  show(EX 2200000 T _ w2 c1 [⟨t,2,tag⟩]).bind _=_
  rw[hpub,AA]
  rfl
 obtain⟨s',hch⟩:=hch
 refine⟨s',{ w2 with num:=w2.num+1 },c5,?_⟩
 unfold JW Nx
 rw[hn,AA]
 simp only[decide_true,Bool.not_true,B0]
 rw[Be,AA,show decide ((r0 60).rcnt=18446744073709551615)=false from rfl,B0,hst,AA]
 simp only[decide_true,Bool.not_true,B0]
 rw[hv,AA,AA,hch,AA]
 rfl
end

section
variable {K:Nat→Prop}{w0:World}{H:List AV}
end

section
variable {P:Program}{K:Nat→Prop}{w0:World}{l:Tm}{H:List AV}
theorem rC{fn:Func}{t u s r q:Nat}{v v' v'' v4 v5:Value}(hr:fn.results=#[.tmp t,.tmp u,.tmp s,.tmp r,.tmp q])(hv:look l t=some v)(hv':look l u=some v')(hv'':look l s=some v'')(h4:look l r=some v4)(h5:look l q=some v5):∀a w,J0 l a→GY K w0 H w→(results fn a.tmps).run P w=.ok (.tuple #[v,v',v'',v4,v5]) w:=by
 intro a w ha _
 have h1:=Fp ha hv
 have h2:=Fp ha hv'
 have h3:=Fp ha hv''
 have h4:=Fp ha h4
 have h5:=Fp ha h5
 simp[results,hr,←h1,←h2,←h3,←h4,←h5]
end

section
variable {K:Nat→Prop}{w0:World}{H:List AV}
def IC(n:Nat)(T:List UInt32):Option (Option (DZ×Bj×Aw×Af×O4×Dk×BW×A3)×Bool):=
 (Jk 60).bind fun y1=>
 (y1.1).bind fun d1=>
 (K9 n 60).bind fun y2=>
 (y2.1).bind fun d2=>
 cond ((!decide (y1.2=0))||(!decide (y2.2=0)))
 (
  some (none,false))
 (
  (IB n 1).bind fun y3=>
  (JY n T d1 y3).bind fun y4=>
  (y4.1).bind fun d3=>
  (IB n 1).bind fun y5=>
  (JW n T d2 y5).bind fun y6=>
  (y6.1).bind fun d4=>
  (Sc d3.1 d3.2 y4.2.2).bind fun y7=>
  (y7.1).bind fun d5=>
  ret (((decide (y4.2.1=0))&&(decide (y6.2.1=0)))&&(decide (y7.2=0))) fun x1=>
  some (some (d5,d3.1,d3.2,y4.2.2,({ ops:=[],isOpen:=false,closed:=false }:O4),d4.1,d4.2,y6.2.2),x1))
theorem QD{n:Nat}{T:List UInt32}{r:Option (DZ×Bj×Aw×Af×O4×Dk×BW×A3)×Bool}(h:IC n T=some r)(hS:Ge K w0 T)(hT:JO K w0 2 64 T):zC K w0 8 [] [] H (fun u M=>(r.1=none∧u=.tuple #[.pointer none,.pointer none,.pointer none,.pointer none,vB r.2]∧M=[])∨(∃(d:DZ×Bj×Aw×Af×O4×Dk×BW×A3) (bn0:Nat) (vn0x0:Value) (bn1:Nat) (vn1x0:Value) (vn1x1:Value) (vn1x2:Value) (vn1x5:Value) (bn2:Nat) (vn2x1:Value) (mn2x5:Nat) (bn3:Nat) (vn3x4:Value) (mn3x5:Nat) (mn3x6:Nat) (bn4:Nat) (vn4x1:Value) (bn5:Nat) (vn5x1:Value) (vn5x2:Value) (vn5x3:Value) (bn6:Nat) (vn6x1:Value) (vn6x5:Value) (bn7:Nat) (vn7x0:Value) (vn7x1:Value) (vn7x2:Value),r.1=some d∧u=.tuple #[vP bn0 0,vP bn1 0,vP bn3 0,vP bn4 0,vB r.2]∧M=[own bn0 (.cells #[vn0x0,vB d.1.isOpen,vP bn1 0,vB d.1.closed] 85),AB 105 5 vn0x0 CE d.1.ops,own bn1 (.cells #[vn1x0,vn1x1,vn1x2,vP bn3 0,vP bn2 0,vn1x5,Y d.2.1.gen,vB d.2.1.bad] 95),AB 43 4 vn1x0 AU d.2.1.rows,AB 148 3 vn1x1 AS d.2.1.pages,Cy vn1x2 Y Y d.2.1.gens,AB 55 2 vn1x5 AX d.2.1.ring,own bn2 (.cells #[vP bn3 0,vn2x1,Y d.2.2.1.gen,Y d.2.2.1.boot,AT d.2.2.1.seals,.map (some mn2x5)] 137),AB 55 2 vn2x1 AX d.2.2.1.ring,Aa mn2x5 Y vB d.2.2.1.taken,own bn3 (.cells #[vB d.2.2.2.1.off,vB d.2.2.2.1.isCut,vI d.2.2.2.1.lasts,vI d.2.2.2.1.counts,vn3x4,.map (some mn3x5),.map (some mn3x6),AT d.2.2.2.1.rcnt,vS d.2.2.2.1.rtag,Y d.2.2.2.1.rboots] 102),AB 9 1 vn3x4 eS d.2.2.2.1.blocks,Aa mn3x5 Y vS d.2.2.2.1.pend,Aa mn3x6 Y vB d.2.2.2.1.bad,own bn4 (.cells #[vP bn5 0,vn4x1,vB d.2.2.2.2.1.isOpen,vB d.2.2.2.2.1.closed] 81),AB 105 5 vn4x1 CE d.2.2.2.2.1.ops,own bn5 (.cells #[vP bn6 0,vn5x1,vn5x2,vn5x3,vB d.2.2.2.2.2.1.bad] 131),AB 43 4 vn5x1 AU d.2.2.2.2.2.1.rows,AB 148 3 vn5x2 AS d.2.2.2.2.2.1.had,AB 36 1 vn5x3 BD d.2.2.2.2.2.1.gens,own bn6 (.cells #[vP bn7 0,vn6x1,Y d.2.2.2.2.2.2.1.gen,Y d.2.2.2.2.2.2.1.boot,AT d.2.2.2.2.2.2.1.num,vn6x5] 142),AB 55 2 vn6x1 AX d.2.2.2.2.2.2.1.ring,AB 4 1 vn6x5 eB d.2.2.2.2.2.2.1.taken,own bn7 (.cells #[vn7x0,vn7x1,vn7x2,AT d.2.2.2.2.2.2.2.rcnt,vS d.2.2.2.2.2.2.2.rtag,Y d.2.2.2.2.2.2.2.rboots,vI d.2.2.2.2.2.2.2.left,vB d.2.2.2.2.2.2.2.off] 118),AB 9 1 vn7x0 eS d.2.2.2.2.2.2.2.blk,AB 9 1 vn7x1 eS d.2.2.2.2.2.2.2.pnd,AB 4 1 vn7x2 eB d.2.2.2.2.2.2.2.bads])):=by
 unfold IC at h
 refine T3.enter Tryz.func8 rfl rfl ?_
 refine V (O E (O E (O E (O E (O E (U (V ?_)))))))
 refine AD h fun y1 hy1 h=>?_
 refine AD h fun d1 hd1 h=>?_
 refine Bg (vs:=[_]) (Hin:=[]) (Hr:=_) E E ⟨E,zT⟩ rX E E (ZA hy1) ?_
 rintro _ _ (⟨hn,-,-⟩ | ⟨d_,b1,v1,m1,m2,hn,rfl,rfl⟩)
 rw[hd1]at hn;cases hn
 obtain rfl:d1=d_:=zI (hd1.symm.trans hn)
 refine⟨trivial,?_⟩
 refine J E (Ac E E E (Ac E E E (O E (O E (U (V ?_))))))
 refine AD h fun y2 hy2 h=>?_
 refine AD h fun d2 hd2 h=>?_
 refine Bg (vs:=[_]) (Hin:=[]) (Hr:=_::_::_::_::_) E E ⟨E,zT⟩ rY E E (aa hy2) ?_
 rintro _ _ (⟨hn,-,-⟩ | ⟨d_,b2,v2,v3,v4,hn,rfl,rfl⟩)
 rw[hd2]at hn;cases hn
 obtain rfl:d2=d_:=zI (hd2.symm.trans hn)
 refine⟨trivial,?_⟩
 refine J E (Ac E E E (Ac E E E (O E (O E (U (AG (V (J E (Z E BJ (J E ?_))))))))))
 refine Eg (c := !decide (y2.2=0)) 25 3 28 E (fun hb k=>?_) (fun hb k=>?_) ?_
 refine AC E (AC E (Ag E E E ?_))
 exact k.mono tL
 refine J E (Z E BJ (Ag E E E ?_))
 exact k.mono tL
 refine U ?_
 refine AL h E (fun hc1 h=>?_) fun hc1 h=>?_
 refine V (O E (O E (O E (O E (O E (U (AJ (Ab ?_))))))))
 obtain rfl:=zI h
 exact Ae (rC E E E E E E) (Ad (M:=[]) (.inl ⟨E,E,E⟩) fun _ hw=>BX.pick (H:=[_,_,_,_,_,_,_,_]) hw [] 8 E)
 refine AI (AH (V ?_))
 refine AD h fun y3 hy3 h=>?_
 refine AD h fun y4 hy4 h=>?_
 refine AD h fun d3 hd3 h=>?_
 refine J E ?_
 refine Bg (vs:=[_]) (Hin:=[]) (Hr:=_::_::_::_::_::_::_::_::_) E E ⟨E,zT⟩ lV E E (Td hy3) ?_
 rintro v5 _ ⟨_,rfl,rfl⟩
 refine⟨trivial,?_⟩
 refine SL.pick [0,5,6,7,8,1,2,3,4] 9 ?_
 refine Bg (vs:=[_,_]) (Hin:=[_,_,_,_,_]) (Hr:=_::_::_::_::_) E E ⟨E,E,zT⟩ rZ E E (Co (B:=[_]) (Hin:=[_,_,_,_]) fun K' w1 hk hB=>W5 hy4 (hS.keeps hk) (CO (e:=55) (v:=v5) zV (hB _ zS))) ?_
 rintro _ _ ⟨_,rfl,(⟨hn,-,-⟩ | ⟨d_,b3,v6,v7,v8,v9,b4,v10,m3,hn,rfl,rfl⟩)⟩
 rw[hd3]at hn;cases hn
 obtain rfl:d3=d_:=zI (hd3.symm.trans hn)
 refine⟨trivial,?_⟩
 refine J E (Ac E E E (Ac E E E (O E (O E (U (V ?_))))))
 refine AD h fun y5 hy5 h=>?_
 refine AD h fun y6 hy6 h=>?_
 refine AD h fun d4 hd4 h=>?_
 refine J E ?_
 refine Bg (vs:=[_]) (Hin:=[]) (Hr:=_::_::_::_::_::_::_::_::_::_::_::_::_::_::_::_::_::_) E E ⟨E,zT⟩ lV E E (Td hy5) ?_
 rintro v11 _ ⟨_,rfl,rfl⟩
 refine⟨trivial,?_⟩
 refine SL.pick [14,15,16,17,0,1,2,3,4,5,6,7,8,9,10,11,12,13] 18 ?_
 refine Bg (vs:=[_,_]) (Hin:=[_,_,_,_,_]) (Hr:=_::_::_::_::_::_::_::_::_::_::_::_::_::_) E E ⟨E,E,zT⟩ ra E E (W3 hy6 hT) ?_
 rintro _ _ (⟨hn,-,-⟩ | ⟨d_,b5,v12,v13,v14,b6,v15,v16,hn,rfl,rfl⟩)
 rw[hd4]at hn;cases hn
 obtain rfl:d4=d_:=zI (hd4.symm.trans hn)
 refine⟨trivial,?_⟩
 refine J E (Ac E E E (Ac E E E (O E (O E (U (V ?_))))))
 refine AD h fun y7 hy7 h=>?_
 refine AD h fun d5 hd5 h=>?_
 refine J E (SL.pick [12,13,14,15,16,17,18,19,20,21,22,23,0,1,2,3,4,5,6,7,8,9,10,11] 24 ?_)
 refine Bg (vs:=[_]) (Hin:=[_,_,_,_,_,_,_,_,_,_,_,_]) (Hr:=_::_::_::_::_::_::_::_::_::_::_::_::_) E E ⟨E,zT⟩ rf E E (dQ hy7) ?_
 rintro _ _ (⟨hn,-,-⟩ | ⟨d_,b7,v17,hn,rfl,rfl⟩)
 rw[hd5]at hn;cases hn
 obtain rfl:d5=d_:=zI (hd5.symm.trans hn)
 refine⟨trivial,?_⟩
 refine J E (Ac E E E (Ac E E E (O E (O E (U (V ?_))))))
 obtain⟨x1,ex1,h⟩:=Bu h
 refine J E (J E (J E (J E (B5 [_] E uO uI uc ⟨E,zT⟩ E ?_))))
 refine Bc E E zU fun b8=>?_
 refine CB 105 5 CE (J E (Z E Bq (J E ?_)))
 refine Cl (c:=decide (y6.2.1=0)) 54 3 57 E (fun hb k=>?_) (fun hb k=>?_) ?_
 refine J E (Z E Bq (Ag E E E ?_))
 exact k.mono tL
 refine AC E (AC E (Ag E E E ?_))
 exact k.mono tL
 refine J E ?_
 refine Cl (c:=decide (y7.2=0)) 58 3 61 E (fun hb k=>?_) (fun hb k=>?_) ?_
 refine J E (Z E Bq (Ag E E E ?_))
 exact k.mono tL
 refine AC E (AC E (Ag E E E ?_))
 exact k.mono tL
 refine O E (O E (O E (O E ?_)))
 refine Ai (u:=vB x1) E E (congrArg vB ex1) ?_
 refine U (AJ ?_)
 obtain rfl:=zI h
 exact Ae (rC E E E E E E) (Ad (M:=[_,_,_,_,_,_,_,_,_,_,_,_,_,_,_,_,_,_,_,_,_,_,_,_,_,_,_]) (.inr ⟨_,b7,v17,b3,v6,v7,v8,v9,b4,v10,m3,b1,v1,m1,m2,b8,zN,b5,v12,v13,v14,b6,v15,v16,b2,v2,v3,v4,E,E,E⟩) fun _ hw=>BX.pick (H:=[_,_,_,_,_,_,_,_,_,_,_,_,_,_,_,_,_,_,_,_,_,_,_,_,_,_,_,_]) hw [2,3,4,5,6,7,8,9,10,11,12,13,14,15,1,0,16,17,18,19,20,21,22,23,24,25,26] 28 E)
def KM(n:Nat)(T:List UInt32):Option Bool:=
 (IC n T).bind fun y1=>
 (y1.1).bind fun d1=>
 (DX n T d1.1 d1.2.1 d1.2.2.1 d1.2.2.2.1).bind fun y2=>
 (Fm y2.2.1 y2.2.2.1 y2.2.2.2.1 y2.2.2.2.2).bind fun y3=>
 (DO n T y3.2 y2.2.2.1 y2.2.2.2.1 y2.2.2.2.2 (⟨1,2,0,[]⟩:Ak)).bind fun y4=>
 (FA n y4.2.1 y4.2.2.1 y4.2.2.2.1 y4.2.2.2.2 1).bind fun y5=>
 (J2 y4.2.1 y4.2.2.1 y4.2.2.2.1 y4.2.2.2.2).bind fun y6=>
 (DX n T y4.2.1 y4.2.2.1 y4.2.2.2.1 y4.2.2.2.2).bind fun y7=>
 (FA n y7.2.1 y7.2.2.1 y7.2.2.2.1 y7.2.2.2.2 1).bind fun y8=>
 ret ((((((((y1.2&&(decide (y2.1=140)))&&(decide (y3.1=0)))&&(decide (y4.1=0)))&&(decide (y5.2=100)))&&(decide (y6=1)))&&(decide (y7.1=0)))&&(decide (y8.2=0)))&&(decide (y8.1.id=1)&&(decide (y8.1.x=2)&&(decide (y8.1.y=0)&&(decide (y8.1.txt=[])&&true))))) fun x1=>
 some x1
theorem Xq{n:Nat}{T:List UInt32}{r:Bool}(h:KM n T=some r)(hS:Ge K w0 T)(hT:JO K w0 2 64 T):zC K w0 7 [] [] H (fun u M=>u=vB r∧M=[]):=by
 unfold KM at h
 refine T3.enter Tryz.func7 rfl rfl ?_
 refine V (O E (U (V ?_)))
 refine AD h fun y1 hy1 h=>?_
 refine AD h fun d1 hd1 h=>?_
 refine Bg (vs:=[]) (Hin:=[]) (Hr:=_) E E zT lj E E (QD hy1 hS hT) ?_
 rintro _ _ (⟨hn,-,-⟩ | ⟨d_,b1,v1,b2,v2,v3,v4,v5,b3,v6,m1,b4,v7,m2,m3,b5,v8,b6,v9,v10,v11,b7,v12,v13,b8,v14,v15,v16,hn,rfl,rfl⟩)
 rw[hd1]at hn;cases hn
 obtain rfl:d1=d_:=zI (hd1.symm.trans hn)
 refine⟨trivial,?_⟩
 refine J E (Ac E E E (Ac E E E (Ac E E E (Ac E E E (Ac E E E (O E (O E ?_)))))))
 refine O E (O E (O E (U (V ?_))))
 refine AD h fun y2 hy2 h=>?_
 refine J E (BO 14 fc (LH hy2 hS) E ?_)
 rintro _ _ ⟨v17,v18,v19,v20,rfl,rfl⟩
 refine O E (U (V ?_))
 refine AD h fun y3 hy3 h=>?_
 refine J E (BO 14 q8 (PA hy3) E ?_)
 rintro _ _ ⟨v21,rfl,rfl⟩
 refine O E (U (V ?_))
 refine AD h fun y4 hy4 h=>?_
 refine J E (B5 [_,_] E eL eJ HU ⟨E,E,zT⟩ E (BO 14 ff ((NY hy4 hS :)) E ?_))
 rintro _ _ ⟨v22,v23,v24,v25,rfl,rfl⟩
 refine O E (U (V ?_))
 refine AD h fun y5 hy5 h=>?_
 refine J E (AP 14 lU (Qd hy5) E (J E (Ac E E E (Ac E E E ?_))))
 refine Al E HU zU fun b9=>?_
 refine A5 0 E E E E Dq E E E zT (O E (U (V ?_)))
 refine AD h fun y6 hy6 h=>?_
 refine J E (SL.pick [1,2,3,4,5,6,7,8,9,10,11,12,13,14,0] 15 (AP 14 rW (Uw hy6) E (O E (U (V ?_)))))
 refine AD h fun y7 hy7 h=>?_
 refine J E (BO 14 fc (LH hy7 hS) E ?_)
 rintro _ _ ⟨v26,v27,v28,v29,rfl,rfl⟩
 refine O E (U (V ?_))
 refine AD h fun y8 hy8 h=>?_
 refine J E (AP 14 lU (Qd hy8) E (J E (Ac E E E (Ac E E E ?_))))
 refine Al E HU zU fun b10=>?_
 refine A5 0 E E E E Dq E E E zT (O E (U (V ?_)))
 obtain⟨x1,ex1,h⟩:=Bu h
 refine J E (J E ?_)
 refine Cl (c:=decide (y2.1=140)) 44 3 47 E (fun hb k=>?_) (fun hb k=>?_) ?_
 refine J E (Z E Bq (Ag E E E ?_))
 exact k.mono tL
 refine AC E (AC E (Ag E E E ?_))
 exact k.mono tL
 refine J E ?_
 refine Cl (c:=decide (y3.1=0)) 48 3 51 E (fun hb k=>?_) (fun hb k=>?_) ?_
 refine J E (Z E Bq (Ag E E E ?_))
 exact k.mono tL
 refine AC E (AC E (Ag E E E ?_))
 exact k.mono tL
 refine J E ?_
 refine Cl (c:=decide (y4.1=0)) 52 3 55 E (fun hb k=>?_) (fun hb k=>?_) ?_
 refine J E (Z E Bq (Ag E E E ?_))
 exact k.mono tL
 refine AC E (AC E (Ag E E E ?_))
 exact k.mono tL
 refine J E ?_
 refine Cl (c:=decide (y5.2=100)) 56 3 59 E (fun hb k=>?_) (fun hb k=>?_) ?_
 refine J E (Z E Bq (Ag E E E ?_))
 exact k.mono tL
 refine AC E (AC E (Ag E E E ?_))
 exact k.mono tL
 refine J E ?_
 refine Cl (c:=decide (y6=1)) 60 3 63 E (fun hb k=>?_) (fun hb k=>?_) ?_
 refine J E (Z E Bq (Ag E E E ?_))
 exact k.mono tL
 refine AC E (AC E (Ag E E E ?_))
 exact k.mono tL
 refine J E ?_
 refine Cl (c:=decide (y7.1=0)) 64 3 67 E (fun hb k=>?_) (fun hb k=>?_) ?_
 refine J E (Z E Bq (Ag E E E ?_))
 exact k.mono tL
 refine AC E (AC E (Ag E E E ?_))
 exact k.mono tL
 refine J E ?_
 refine Cl (c:=decide (y8.2=0)) 68 3 71 E (fun hb k=>?_) (fun hb k=>?_) ?_
 refine J E (Z E Bq (Ag E E E ?_))
 exact k.mono tL
 refine AC E (AC E (Ag E E E ?_))
 exact k.mono tL
 refine J E ?_
 refine Cl (c:=decide (y8.1.id=1)&&(decide (y8.1.x=2)&&(decide (y8.1.y=0)&&(decide (y8.1.txt=[])&&true)))) 72 4 76 E (fun hb k=>?_) (fun hb k=>?_) ?_
 refine Ap [AT y8.1.id,Y y8.1.x,Y y8.1.y,vS y8.1.txt] E GN E E (Ah 0 E) (B5 [_,_] E eL eJ HU ⟨E,E,zT⟩ E ?_)
 refine TD E mE E E (CI E E (XP (a:=y8.1.id) (b:=1)) (CI E E (IN (a:=y8.1.x) (b:=2)) (CI E E (IN (a:=y8.1.y) (b:=0)) (CI E E (SZ (a:=y8.1.txt) (b:=[])) II)))) ?_
 refine Ag E E E ?_
 exact k.mono tL
 refine AC E (AC E (AC E (Ag E E E ?_)))
 exact k.mono tL
 refine Ai (u:=vB x1) E E (congrArg vB ex1) ?_
 refine U (AJ ?_)
 obtain rfl:=zI h
 exact AW [] 29 E E E
end

section
theorem f5{T:List UInt32}:∃o v d,JY 2200000 T (d0 60) (DL 1)=some (some (o,v),0,d)∧Uq T (DL 1) 1 1 o v d∧o.rows=[]∧o.ring=DL 1:=by
 have hr1:Dm (DL 1)=true:=Oq 1 zO
 have hn:FL (DL 1)=some (1,0):=by
  unfold FL Sw
  rw[if_pos (by rw[DY];omega),AA,hr1]
  rfl
 generalize hD:({ d0 60 with counts:=1,rboots:=1 }:Af)=D
 have hst:Pw (d0 60)=some (1,0,D):=by subst hD;rfl
 have K:Qs 60 0 D:=by subst hD;exact⟨List.length_replicate ..,by omega,rfl,rfl,rfl,Nat.le_refl _,by omega⟩
 have V9:Dv 60 0 0 D:=by subst hD;exact⟨List.length_replicate ..,Nat.le_refl _,fun _ h=>(by cases h),rfl⟩
 have hv:M8 D (DL 1) 1 1=some (some v0,0):=by
  unfold M8 bO
  rw[if_pos (by rw[DY];omega),AA,YJ zO zO,Do (by simp[DY]) (by simp[DY]),AA]
  rfl
 have hb:KV (d0 60) (DL 1)=some (some (({ rows:=[],pages:=[],gens:=[],ring:=DL 1,gen:=1,bad:=false }:Bj),v0),0,D):=by
  unfold KV VU
  rw[hn,AA]
  simp only[decide_true,Bool.not_true,B0]
  rw[hst,AA]
  simp only[decide_true,Bool.not_true,B0]
  rw[hv,AA,AA,Do (by simp[DY]) (by simp[DY]),AA]
  rfl
 have S:Uq T (DL 1) 1 0 { rows:=[],pages:=[],gens:=[],ring:=DL 1,gen:=1,bad:=false } v0 D:=
  ⟨⟨K,rfl,by rw[DY];omega,rfl,rfl,Nat.le_refl 0⟩,⟨List.nodup_nil,fun e he=>by simp[v0]at he⟩,V9,rfl,Nat.zero_le _,fun s hs=>(by cases hs),fun e he=>by simp[v0]at he,rfl⟩
 obtain⟨o',v',d',hch,hrw,hrg,hS,-⟩:=Wa (T:=T) (l:=[]) (wth:=[]) S zD zD (YJ (m:=1) zO zO) zD (Nat.zero_le _) (by decide +kernel) (fun s hs=>(by cases hs)) (Nat.zero_le _)
 refine⟨o',v',d',?_,hS,hrw,hrg⟩
 have hL:Hc (d0 60)=some false:=rfl
 have hch':D9 2200000 T { rows:=[],pages:=[],gens:=[],ring:=DL 1,gen:=1,bad:=false } v0 D [] []=some (0,o',v',d'):=hch
 unfold JY
 rw[hn,AA,hL,show It (decide ((((1:UInt32),(0:Int)):UInt32×Int).2=0)) ((some false).bind fun y2=>some y2)=some false from rfl,AA,B0,hb,AA,AA]
 simp only[decide_true,Cs]
 rw[hch',AA]
 rfl
theorem i8{T:List UInt32}(hT:T.length=64):∃(o:Bj) (v:Aw) (d:Af) (a:Dk) (w:BW) (c:A3),IC 2200000 T=some (some (⟨[],false,false⟩,o,v,d,⟨[],false,false⟩,a,w,c),true)∧Uq T (DL 1) 1 1 o v d∧o.rows=[]∧o.ring=DL 1:=by
 obtain⟨o,v,d,h1,h2,h3,h3r⟩:=f5 (T:=T)
 obtain⟨a,w,c,h4⟩:=jr hT
 refine⟨o,v,d,a,w,c,?_,h2,h3,h3r⟩
 have e1:Jk 60=some (some (d0 60),0):=qb zO zO
 have e2:K9 2200000 60=some (some (r0 60),0):=qa (N:=60) zO zO zO
 have e3:IB 2200000 1=some (DL 1):=nB 1 zO zO
 unfold IC
 rw[e1,AA,AA,e2,AA,AA]
 simp only[decide_true,Bool.not_true,Bool.or_false,B0]
 rw[e3,AA,h1,AA,AA,AA,h4,AA,AA]
 rfl
theorem eX{T:List UInt32}{c:UInt64}{o:Bj}{v:Aw}{d:Af}{l:List Ak}{ops:List Is}(S:Uq T (DL 1) 1 c o v d)(hcn:c.toNat<1000000)(hb:Np 2200000 o.rows ops=some (l,0,0))(hl:So l.length≤12)(hl2:l.length≤1000)(hr:Di l=true):
  ∃o' v' d',Cn 2200000 T o v d ops=some (0,0,o',v',d')∧o'.rows=l∧o'.ring=o.ring∧Uq T (DL 1) 1 (c+1) o' v' d':=by
 obtain⟨o',v',d',hch,hrw,hrg,hS,-⟩:=Wa (T:=T) (l:=l) (wth:=o.pages) S hcn zD (YJ (m:=1) zO zO) hl hl2 hr S.rd (by have:=S.few;omega)
 refine⟨o',v',d',?_,hrw,hrg,hS⟩
 unfold Cn F4
 rw[S.bad,B0,AA]
 show(Np 2200000 o.rows ops).bind _=_
 rw[hb,AA]
 unfold Hc Fz
 rw[Be]
 simp only[decide_true,Bool.not_true,B0]
 rw[AA,Be,AA,S.dv.rc,zf (show ¬c=18446744073709551615 by rintro rfl;exact absurd hcn zD),B0]
 show(FQ 2200000 T o v d l).bind _=_
 rw[show FQ 2200000 T o v d l=D9 2200000 T o v d l o.pages from rfl,hch,AA]
theorem YE{T:List UInt32}{c:UInt64}{f:DZ}{o:Bj}{v:Aw}{d:Af}{l:List Ak}(S:Uq T (DL 1) 1 c o v d)(hcn:c.toNat<1000000)(hf:f.isOpen=true)(hc:f.closed=false)(h0:0<f.ops.length)(hb:Np 2200000 o.rows f.ops=some (l,0,0))(hl:So l.length≤12)(hl2:l.length≤1000)(hr:Di l=true):
  ∃o' v' d',DX 2200000 T f o v d=some (0,{ f with ops:=[],isOpen:=false },o',v',d')∧Cn 2200000 T o v d f.ops=some (0,0,o',v',d')∧o'.rows=l∧o'.ring=o.ring∧Uq T (DL 1) 1 (c+1) o' v' d':=by
 obtain⟨o',v',d',hsc,h⟩:=eX S hcn hb hl hl2 hr
 refine⟨o',v',d',?_,hsc,h⟩
 unfold DX C4 I4
 rw[hc,B0,AA,Be]
 show cond (!decide ((0:Int)=0)) _ _=_
 rw[show(!decide ((0:Int)=0))=false from rfl,B0,hf,Be,show(!true)=false from rfl,B0,AA,zt (show 0<(f.ops.length:Int) by omega),Cs]
 show(Cn 2200000 T o v d f.ops).bind _=_
 rw[hsc,AA]
 rfl
theorem kD{T:List UInt32}(hT:T.length=64):KM 2200000 T=some true:=by
 obtain⟨o,v,d,a,w,c,hm,S,hrw,-⟩:=i8 hT
 have hput:DO 2200000 T ⟨[],true,false⟩ o v d ⟨1,2,0,[]⟩=some (0,⟨[⟨1,1,2,0,[]⟩],true,false⟩,o,v,d):=by
  have h1:Cr o v d=some []:=by
   unfold Cr
   rw[hrw]
   rfl
  have h2:Vn 2200000 ⟨[],true,false⟩ [] ⟨1,1,2,0,[]⟩=some (0,⟨[⟨1,1,2,0,[]⟩],true,false⟩):=zK
  unfold DO FW C4
  show((Cr o v d).bind _).bind _=_
  rw[h1,AA,h2,AA,AA]
 have hbat:Np 2200000 o.rows [⟨1,1,2,0,[]⟩]=some ([⟨1,2,0,[]⟩],0,0):=by rw[hrw];kernel_rfl
 obtain⟨o',v',d',hcm,-,hrw',-⟩:=YE (T:=T) (f:=⟨[⟨1,1,2,0,[]⟩],true,false⟩) S zD rfl rfl zD hbat zD zD (by decide +kernel)
 have hg1:∃x,FA 2200000 ⟨[⟨1,1,2,0,[]⟩],true,false⟩ o v d 1=some (x,100):=by
  have h1:∃x,I6 2200000 [] 1=some (x,100):=⟨⟨0,0,0,[]⟩,by kernel_rfl⟩
  obtain⟨x,h1⟩:=h1
  refine⟨x,?_⟩
  unfold FA C4 HH
  show((I6 2200000 o.rows 1).bind _).bind _=_
  rw[hrw,h1]
  rfl
 have hg2:FA 2200000 ⟨[],false,false⟩ o' v' d' 1=some (⟨1,2,0,[]⟩,0):=by
  have h1:I6 2200000 [⟨1,2,0,[]⟩] 1=some (⟨1,2,0,[]⟩,0):=zK
  unfold FA C4 HH
  show((I6 2200000 o'.rows 1).bind _).bind _=_
  rw[hrw',h1]
  rfl
 obtain⟨x,hg1⟩:=hg1
 unfold KM
 rw[hm,AA,AA]
 have hc0:DX 2200000 T ⟨[],false,false⟩ o v d=some (140,⟨[],false,false⟩,o,v,d):=rfl
 have hbg:Fm ⟨[],false,false⟩ o v d=some (0,⟨[],true,false⟩):=rfl
 have hop:J2 ⟨[⟨1,1,2,0,[]⟩],true,false⟩ o v d=some 1:=rfl
 rw[hc0,AA,hbg,AA,hput,AA,hg1,AA,hop,AA,hcm,AA,hg2,AA]
 rfl
end

section
theorem dY(a b:UInt64):Fh a b=some (if a<b then -1 else if b<a then 1 else 0):=by
 unfold Fh GP
 rw[Be,Be,zt rfl,zt rfl,AA,AA]
 simp only[Bool.not_true,B0]
 by_cases h1:a<b
 simp[h1]
 by_cases h2:b<a
 simp[h1,h2]
 simp[h1,h2]
theorem qZ{k:Nat}(h:k≤2000):((shr64 (Cq (k:Int)) 1).toNat:Int)=((k / 2:Nat):Int):=by
 rw[Kg _ _ zD]
 unfold Cq
 rw[show((k:Int)%18446744073709551616).toNat=k by omega,show(UInt64.ofNat k).toNat=k by simp;omega]
theorem kE(l:List Ak)(id:UInt64)(hl:l.length≤1000)(hr:l.Pairwise fun a b=>a.id<b.id):∃(i:Nat) (b:Bool),IU 2200000 l id=some ((i:Int),b)∧i≤l.length∧
  (∀k (h:k<l.length),k<i→l[k].id<id)∧(∀k (h:k<l.length),i≤k→id≤l[k].id)∧(b=true→∃h:i<l.length,l[i].id=id)∧(b=false→∀h:i<l.length,l[i].id≠id):=by
 have lt:∀a b (ha:a<l.length) (hb:b<l.length),a<b→l[a].id<l[b].id:=fun a b ha hb hab=>List.pairwise_iff_getElem.1 hr a b ha hb hab
 have one:∀r:Ak,Gk r id=some (if r.id<id then -1 else if id<r.id then 1 else 0):=fun r=>by
  unfold Gk
  rw[dY]
  rfl
 have fin:∀i:Nat,i≤l.length→∃b,CR l id (i:Int)=some ((i:Int),b)∧((b=true→∃h:i<l.length,l[i].id=id)∧(b=false→∀h:i<l.length,l[i].id≠id)):=by
  intro i hi
  unfold CR
  by_cases h:i<l.length
  have h1:BB l (i:Int)=some l[i]:=by rw[Dp];exact List.getElem?_eq_getElem h
  rw[zt zO,h1,AA,one,AA]
  refine⟨_,rfl,fun hb=>⟨h,?_⟩,fun hb _=>?_⟩
  by_cases h2:l[i].id<id
  simp[h2]at hb
  by_cases h3:id<l[i].id
  simp[h2,h3]at hb
  exact UInt64.le_antisymm (UInt64.not_lt.1 h3) (UInt64.not_lt.1 h2)
  intro e
  simp[e]at hb
  rw[zf zO]
  exact⟨false,rfl,fun h=>(by cases h),fun _ h2=>absurd h2 h⟩
 have key:∀(m i j:Nat),i≤j→j≤l.length→j-i<m→(∀k (h:k<l.length),k<i→l[k].id<id)→(∀k (h:k<l.length),j≤k→id≤l[k].id)→
   ∃(i':Nat) (b:Bool),CS l id m ((i:Int),(j:Int))=some ((i':Int),b)∧i'≤l.length∧(∀k (h:k<l.length),k<i'→l[k].id<id)∧(∀k (h:k<l.length),i'≤k→id≤l[k].id)∧(b=true→∃h:i'<l.length,l[i'].id=id)∧(b=false→∀h:i'<l.length,l[i'].id≠id):=by
  intro m
  induction m with
  | zero=>intro i j _ _ h;omega
  | succ m ih=>
   intro i j hij hj hm hlo hhi
   show ∃(i':Nat) (b:Bool),CM l id (CS l id m) (i:Int) (j:Int)=some ((i':Int),b)∧_
   unfold CM
   by_cases h:i<j
   have hh:wI ((shr64 (Cq (wI ((i:Int)+(j:Int)))) 1).toNat:Int)=(((i+j) / 2:Nat):Int):=by
    rw[Cm (x:=(i:Int)+(j:Int)) zO zO,show(i:Int)+(j:Int)=((i+j:Nat):Int) by omega,qZ zO,Cm zO zO]
   have hlt:(i+j) / 2<l.length:=zO
   have h1:BB l (((i+j) / 2:Nat):Int)=some l[(i+j) / 2]:=by rw[Dp];exact List.getElem?_eq_getElem hlt
   rw[zt zO,Cs,Be,hh,h1,AA,one,AA]
   by_cases hc:l[(i+j) / 2].id<id
   rw[if_pos hc,zt zO,Cs,Be,Cm zO zO]
   refine ih ((i+j) / 2+1) j zO hj zO (fun k hk hki=>?_) hhi
   by_cases e:k=(i+j) / 2
   subst e;exact hc
   exact UInt64.lt_trans (lt k _ hk hlt zO) hc
   have hd:decide ((if l[(i+j) / 2].id<id then(-1:Int)else if id<l[(i+j) / 2].id then 1 else 0)<0)=false:=by
    rw[if_neg hc]
    split<;>rfl
   rw[hd,B0]
   refine ih i ((i+j) / 2) zO zO zO hlo (fun k hk hki=>?_)
   by_cases e:k=(i+j) / 2
   subst e;exact UInt64.not_lt.1 hc
   exact UInt64.le_trans (UInt64.not_lt.1 hc) (UInt64.le_of_lt (lt _ k hlt hk zO))
   rw[zf zO,B0]
   obtain⟨b,hb,hb2⟩:=fin i zO
   obtain rfl:i=j:=zO
   exact⟨i,b,hb,by omega,hlo,hhi,hb2⟩
 obtain⟨k,b,hk,h1,h2⟩:=key 2200000 0 l.length (Nat.zero_le _) (Nat.le_refl _) zO (fun k _ h=>absurd h (Nat.not_lt_zero _)) (fun k h h2=>absurd h zO)
 refine⟨k,b,?_,h1,h2⟩
 unfold IU Ct
 rw[show(0:Int)=((0:Nat):Int)from rfl,hk]
 rfl
theorem Ox{α:Type}{b:Nat}{s t:List α}(hb:b≤100)(h:s.length+t.length≤5000):DR b s t=some (s++t):=by
 have h1:(s.length+t.length)*b≤5000*100:=Nat.mul_le_mul h hb
 exact if_pos ⟨by omega,by omega⟩
theorem jh(o:Is):∃e,KN o=some e∧(e=0→o.kind=3∨(decide (max o.x o.y<2147483648)=true∧(o.kind=2∨(o.txt.length:Int)≤16))):=by
 unfold KN Hq Fo
 simp only[Be,AA]
 by_cases h3:o.kind=3
 rw[zt h3]
 exact⟨0,rfl,fun _=>.inl h3⟩
 rw[zf h3,B0]
 by_cases h2:o.kind=2
 rw[zt h2,Cs]
 cases hm:decide (max o.x o.y<2147483648)with
 | true=>exact⟨0,rfl,fun _=>.inr ⟨rfl,.inl h2⟩⟩
 | false=>exact⟨80,rfl,fun h=>by cases h⟩
 rw[zf h2,B0]
 by_cases h1:o.kind=1
 rw[zt h1,Cs]
 cases hm:decide (max o.x o.y<2147483648)with
 | true=>
  by_cases ht:(o.txt.length:Int)≤16
  rw[zt ht]
  exact⟨0,rfl,fun _=>.inr ⟨rfl,.inr ht⟩⟩
  rw[zf ht]
  exact⟨80,rfl,fun h=>by cases h⟩
 | false=>exact⟨80,rfl,fun h=>by cases h⟩
 rw[zf h1,B0]
 exact⟨2,rfl,fun h=>by cases h⟩
theorem ja(l:List Ak)(o:Is)(hr:Di l=true):∃m e,Dh 2200000 l o=some (m,e)∧(e=0→Di m=true∧m.length≤l.length+1):=by
 have hr':=hr
 unfold Di at hr'
 rw[Bool.and_eq_true,Bool.and_eq_true,decide_eq_true_eq,OC,List.all_eq_true]at hr'
 obtain⟨⟨hall,hpw⟩,hlen⟩:=hr'
 have hl:l.length≤1000:=zO
 unfold Dh
 rw[Nz l zO zO,hr,AA,Bool.not_true,B0]
 obtain⟨e,he,hok⟩:=jh o
 rw[he,AA]
 by_cases h0:e=0
 rw[zt h0,Bool.not_true,B0]
 replace hok:=hok h0
 obtain⟨i,b,hp,hi,hlo,hhi,hb1,hb2⟩:=kE l o.id hl hpw
 rw[hp,AA,Be]
 have fin:∀(a:Nat) (t:List UInt8),a≤l.length→i≤a→a≤i+1→(∀k (h:k<l.length),a≤k→o.id<l[k].id)→(o.kind≠3→(t.length:Int)≤16∧i+1+(l.length-a)≤1000)→∃m e,FM l o ((i:Int),b) (a:Int) t=some (m,e)∧(e=0→Di m=true∧m.length≤l.length+1):=by
  intro a t ha hia hai hgt ht
  have h1:Ix l 0 (i:Int)=some (l.take i):=by
   unfold Ix
   rw[if_pos zO]
   simp
  have h2:Ix l (a:Int) (l.length:Int)=some (l.drop a):=by
   unfold Ix
   rw[if_pos zO]
   congr 1
   exact List.take_of_length_le zS
  have l1:(l.take i).length=i:=by rw[List.length_take];omega
  have l2:(l.drop a).length=l.length-a:=List.length_drop ..
  have mlo:∀x∈l.take i,x.id<o.id∧Jw x=true:=fun x hx=>by
   obtain⟨k,hk,rfl⟩:=List.mem_iff_getElem.1 hx
   rw[List.getElem_take]
   exact⟨hlo k zO zO,hall _ (List.getElem_mem _)⟩
  have mhi:∀x∈l.drop a,o.id<x.id∧Jw x=true:=fun x hx=>by
   obtain⟨k,hk,rfl⟩:=List.mem_iff_getElem.1 hx
   rw[List.getElem_drop]
   exact⟨hgt (a+k) zO zO,hall _ (List.getElem_mem _)⟩
  unfold FM Hp Nu
  rw[h1,AA,Ox zO (by simp only[List.length_nil,l1];omega),AA,h2,List.nil_append]
  by_cases h3:o.kind=3
  rw[zt h3,Bool.not_true,B0,AA,Ox zO (by simp only[l1,l2];omega),AA]
  refine⟨_,_,rfl,fun _=>⟨?_,by simp only[List.length_append,l1,l2];omega⟩⟩
  unfold Di
  rw[Bool.and_eq_true,Bool.and_eq_true,decide_eq_true_eq,OC,List.all_eq_true]
  refine⟨⟨fun x hx=>?_,?_⟩,by simp only[List.length_append,l1,l2];omega⟩
  rcases List.mem_append.1 hx with hx | hx
  exact(mlo x hx).2
  exact(mhi x hx).2
  exact List.pairwise_append.2 ⟨hpw.sublist (List.take_sublist ..),hpw.sublist (List.drop_sublist ..),fun x hx y hy=>UInt64.lt_trans (mlo x hx).1 (mhi y hy).1⟩
  rw[zf h3,Bool.not_false,Cs,Ox zO (by simp only[List.length_cons,List.length_nil,l1];omega),AA,AA,Ox zO (by simp only[List.length_append,List.length_cons,List.length_nil,l1,l2];omega),AA]
  obtain⟨ht1,ht2⟩:=ht h3
  have hrow:Jw ⟨o.id,o.x,o.y,t⟩=true:=by
   unfold Jw
   rw[Bool.and_eq_true,decide_eq_true_eq,decide_eq_true_eq]
   refine⟨?_,ht1⟩
   rcases hok with h | ⟨h,-⟩
   exact absurd h h3
   exact of_decide_eq_true h
  refine⟨_,_,rfl,fun _=>⟨?_,by simp only[List.length_append,List.length_cons,List.length_nil,l1,l2];omega⟩⟩
  unfold Di
  rw[Bool.and_eq_true,Bool.and_eq_true,decide_eq_true_eq,OC,List.all_eq_true]
  refine⟨⟨fun x hx=>?_,?_⟩,by simp only[List.length_append,List.length_cons,List.length_nil,l1,l2];omega⟩
  rcases List.mem_append.1 hx with hx | hx
  rcases List.mem_append.1 hx with hx | hx
  exact(mlo x hx).2
  rw[List.mem_singleton.1 hx];exact hrow
  exact(mhi x hx).2
  refine List.pairwise_append.2 ⟨List.pairwise_append.2 ⟨hpw.sublist (List.take_sublist ..),List.pairwise_singleton _ _,fun x hx y hy=>?_⟩,hpw.sublist (List.drop_sublist ..),fun x hx y hy=>?_⟩
  rw[List.mem_singleton.1 hy];exact(mlo x hx).1
  rcases List.mem_append.1 hx with hx | hx
  exact UInt64.lt_trans (mlo x hx).1 (mhi y hy).1
  rw[List.mem_singleton.1 hx];exact(mhi y hy).1
 cases hk1:((!((i:Int),b).2) && !decide (o.kind=1))with
 | true=>exact⟨_,_,rfl,fun h=>by cases h⟩
 | false=>
  rw[B0,Be]
  cases hk2:((!((i:Int),b).2)&&decide ((l.length:Int)=1000))with
  | true=>exact⟨_,_,rfl,fun h=>by cases h⟩
  | false=>
   rw[B0]
   have lt:∀a b (ha:a<l.length) (hb:b<l.length),a<b→l[a].id<l[b].id:=fun a b ha hb hab=>List.pairwise_iff_getElem.1 hpw a b ha hb hab
   cases b with
   | false=>
    have hk:o.kind=1:=by simpa using hk1
    have hn:l.length≠1000:=by
     intro e
     simp[e]at hk2
    refine fin i o.txt hi (Nat.le_refl _) (Nat.le_succ _) (fun k hk' hik=>?_) (fun _=>⟨?_,by omega⟩)
    refine UInt64.lt_of_le_of_ne (hhi k hk' hik) fun e=>?_
    by_cases e2:k=i
    subst e2
    exact hb2 rfl hk' e.symm
    have h1:i<l.length:=zO
    have h2:=lt i k h1 hk' zO
    rw[←e]at h2
    exact absurd (UInt64.lt_of_lt_of_le h2 (hhi i h1 (Nat.le_refl _))) (UInt64.lt_irrefl _)
    rcases hok with h | ⟨-,h | h⟩
    omega
    omega
    exact h
   | true=>
    obtain⟨hlt,hid⟩:=hb1 rfl
    have h1:BB l (i:Int)=some l[i]:=by rw[Dp];exact List.getElem?_eq_getElem hlt
    show ∃m e,ret (wI ((i:Int)+1)) (fun x3=>(BB l (i:Int)).bind _)=some (m,e)∧_
    rw[Be,h1,AA,Cm zO zO,show(i:Int)+1=((i+1:Nat):Int) by omega]
    have hgt:∀k (h:k<l.length),i+1≤k→o.id<l[k].id:=fun k hk hik=>by
     rw[←hid]
     exact lt i k hlt hk zO
    have htx:(l[i].txt.length:Int)≤16:=by
     have:=hall l[i] (List.getElem_mem _)
     unfold Jw at this
     rw[Bool.and_eq_true,decide_eq_true_eq,decide_eq_true_eq]at this
     exact this.2
    cases hq:(decide (o.kind=2) && !(decide (l[i].id=o.id)&&(decide (l[i].x=o.x)&&(decide (l[i].y=o.y)&&(decide (l[i].txt=o.txt)&&true)))))with
    | true=>exact fin (i+1) _ hlt (Nat.le_succ _) (Nat.le_refl _) hgt fun _=>⟨htx,by omega⟩
    | false=>
     refine fin (i+1) _ hlt (Nat.le_succ _) (Nat.le_refl _) hgt fun h3=>⟨?_,by omega⟩
     rcases hok with h | ⟨-,h | h⟩
     exact absurd h h3
     have:l[i].txt=o.txt:=by
      simp[h]at hq
      exact hq.2.2.2
     rw[←this]
     exact htx
     exact h
 rw[zf h0,Bool.not_false,Cs]
 exact⟨_,_,rfl,fun h=>absurd h h0⟩
end

section
variable {K:Nat→Prop}{w0:World}{H:List AV}
end

section
variable {P:Program}{ro:Option Nat}{K:Nat→Prop}{w0:World}{N:Nat}{Q:DQ}{D:List Nat}{l l':Tm}{H H' Hs L:List AV}{ops:Array Oper}{items:Hd}
def aG(P:Program)(K:Nat→Prop)(w0:World)(f:FuncId)(cap:List Value)(Hit F:List AV){α:Type}(enc:α→List Value)(xs:List α):Prop:=
 XD P K w0 f cap Hit enc (fun _:List α=>F) (fun pre x pre'=>pre'=pre++[x]∧∃suf,xs=pre++x::suf) (fun pre=>pre=xs) (fun _=>True) []
theorem aD{α:Type}{g:Operand}{ps:Array Tmp}{assign body:Code}{f:FuncId}{cap:List Value}{Hit:List AV}{enc:α→List Value}(xs:List α)(F:List AV){G0:List AV}
(J9:List α→List AV→Prop)(X:Code→List AV→Prop)
(hg:Bi l g=some (.func (.func f) #[] cap.toArray))(hf:AK P f=true)(hps:ps.toList.all (fun p=>Nat.blt p N)=true)(hlen:∀x,(enc x).length=ps.size)
(hseq:aG P K w0 f cap Hit F enc xs)(hH:H=Hit++(F++G0))(h0:J9 [] G0)
(hbody:∀pre x suf G,xs=pre++x::suf→J9 pre G→∀r lp Rest,SX P (some lp) K w0 N assign (bgn P lp body (eU K w0 (fun(_:List α) Gx=>∃G2,Gx=F++G2∧J9 (pre++[x]) G2) X [] x (Tl r lp Rest .busy))) [] (QO ps.toList (enc x) l) ((F++G)++Tl r lp Rest .ready))
(hdone:∀G D,J9 xs G→SQ K w0 N Q .normal D l (F++G))
(hstop:∀c G D,X c G→SX P none K w0 N c Q D l G):SX P none K w0 N (.rangeFunc g ps assign body) Q D l H:=by
 refine Qw (C:=fun _:List α=>F) [] J9 X hg hf hps hlen hseq hH h0 (fun _ _ _=>trivial) ?_ ?_ hstop
 rintro pre x _ G ⟨rfl,suf,hs⟩ hJ r lp Rest
 exact hbody pre x suf G hs hJ r lp Rest
 rintro s G D rfl hJ
 exact hdone G D hJ
end

section
variable {K:Nat→Prop}{w0:World}{H:List AV}
structure Xh where
 rows:Int
 pages:Int
 free:Int
 count:UInt64
 gen:UInt32
 old:Int
def de(s:Xh):List Value:=[vI s.rows,vI s.pages,vI s.free,AT s.count,Y s.gen,vI s.old]
def bK(p:Int×A4):List Value:=[vI p.1,.agg (AS p.2).toArray]
def f8(o:Bj)(g:UInt32)(s:A4):Bool:=decide ((Cd o.gens s.page).getD 0<g)
def Sp(o:Bj)(g:UInt32):Nat→List A4→List (Int×A4)
 | _,[]=>[]
 | i,s::r=>if f8 o g s then((i:Int),s)::Sp o g (i+1) r else Sp o g (i+1) r
def XS(o:Bj)(g:UInt32):Option (List (Int×A4)):=if o.pages.length≤1048576 then some (Sp o g 0 o.pages)else none
def bn(_:Bj)(_:Aw)(_:Af)(_:UInt32):Option Unit:=some ()
theorem nZ{b:Nat}{o:Bj}{v:Aw}{d:Af}{g:UInt32}{r:Unit}(_:bn o v d g=some r):zC K w0 65 [vP b 0,Y g] [] H (fun u M=>∃bx bg:Nat,u=.func (.func 96) #[] #[vP bx 0,vP bg 0]∧M=[own bx (.cells #[vP b 0] 184),own bg (.cells #[Y g] 36)]):=by
 refine T3.enter Tryz.func65 rfl rfl ?_
 refine V ?_
 refine Bc E E zU fun b0=>?_
 refine Bc E E zU fun b1=>?_
 refine O E (U (V ?_))
 refine GZ (fv:=#[]) (cv:=#[_,_]) E E E ?_
 refine O E (U (AJ ?_))
 exact Bm [1,0] 2 (C1 E E) E E ⟨_,_,E,E⟩
abbrev rB(b:Nat)(c0 c1 c2 c3 c4 c5 c6 c7:Value)(o:Bj):List AV:=[own b (.cells #[c0,c1,c2,c3,c4,c5,c6,c7] 95),AB 148 3 c1 AS o.pages,Cy c2 Y Y o.gens]
theorem mr(b bx bg:Nat)(c0 c1 c2 c3 c4 c5 c6 c7:Value)(o:Bj)(g:UInt32)(hl:o.pages.length≤1048576):
  aG Tryz.prog K w0 96 [vP bx 0,vP bg 0] [own bx (.cells #[vP b 0] 184),own bg (.cells #[Y g] 36)] (rB b c0 c1 c2 c3 c4 c5 c6 c7 o) bK (Sp o g 0 o.pages):=by
 intro lp J9 X T rc G0 hy _ h0
 refine T3.enter Tryz.func96 rfl rfl ?_
 show SX _ _ _ _ _ _ _ _ _ (own bx (.cells #[vP b 0] 184)::own bg (.cells #[Y g] 36)::own b (.cells #[c0,c1,c2,c3,c4,c5,c6,c7] 95)::AB 148 3 c1 AS o.pages::Cy c2 Y Y o.gens::((rc::G0)++T))
 refine V (AF 0 nD E (AQ E E (AE E VP (AF 2 Pb E (Dj 3 E Iy E E (J E (U (AM ?_))))))))
 refine SX.mono (BF (α:=Nat×List (Int×A4)×List AV) (fun x=>J9 x.2.1 x.2.2∧x.2.1++Sp o g x.1 (o.pages.drop x.1)=Sp o g 0 o.pages) (fun x=>[(0,vY lp),(1,vP bx 0),(2,vP bg 0),(9,c1),(10,vI (o.pages.length:Int)),(11,vI x.1)])
  (fun x=>own bx (.cells #[vP b 0] 184)::own bg (.cells #[Y g] 36)::own b (.cells #[c0,c1,c2,c3,c4,c5,c6,c7] 95)::AB 148 3 c1 AS o.pages::Cy c2 Y Y o.gens::(x.2.2++T)) (fun x=>o.pages.length-x.1) (fun x D hp=>?_) (0,[],rc::G0) ⟨h0,rfl⟩) tL
 obtain⟨i,pre,G⟩:=x
 obtain⟨hJ,hpre⟩:=hp
 dsimp only at hJ hpre ⊢
 refine V (Z E A8 (U (AG ?_)))
 refine Ax E (fun hc1=>?_) (fun hc1=>?_)
 have hlt:i<o.pages.length:=by
  have:=of_decide_eq_true hc1
  omega
 clear hc1
 obtain⟨s,hs⟩:∃s,o.pages[i]? = some s:=⟨_,List.getElem?_eq_getElem hlt⟩
 have hn:BB o.pages (i:Int)=some s:=by rw[Dp];exact hs
 have hd:o.pages.drop i=s::o.pages.drop (i+1):=by
  rw[List.drop_eq_getElem_cons hlt]
  rw[List.getElem?_eq_getElem hlt]at hs
  rw[zI hs]
 rw[hd,Sp]at hpre
 refine AI (AH (AG (AM (V (J E ?_)))))
 refine B2 3 hn E Iy JL E E E fun gx m cp hv=>?_
 refine Ap (AS s) E P9 E E (KH (sz:=3) (enc:=AS) 3 zV E hv hn) ?_
 refine Al E OW zU fun b0=>?_
 refine O E (A5 0 E E E E JL E E E zT (U (AG (Av DH [0,1,2,3,5] (CA [(true,0),(true,1),(true,2),(true,3),(true,4),(true,5),(true,6),(true,7),(true,8),(true,9),(true,10),(true,11),(true,12),(true,13)] (.last 14 (C7 [(false,15),(false,16)]))) zK (AF 1 nD E (AQ E E (AE E iu (AF 3 rD E (AE E JZ ?_)))))))))
 refine AE E FR (AF 0 A2 E ?_)
 refine dB (zv:=0) 4 (O3 CP) E ep H8 E E E ?_
 refine AF 2 A2 E (Z E NS (J E ?_))
 refine Ow 26 E (fun e=>?_) (fun e=>?_)
 have ho:f8 o g s=true:=e
 rw[if_pos ho]at hpre
 refine J E (J E (Ap (AS s) E P9 E E (Ah 0 E) (BY ?_)))
 refine HK (M2:=[_,_,_]) (G:=own b (.cells #[c0,c1,c2,c3,c4,c5,c6,c7] 95)::AB 148 3 c1 AS o.pages::Cy c2 Y Y o.gens::G) (T:=T) (vs:=[_,_]) (ok:=fun G1=>∃G2,G1=own b (.cells #[c0,c1,c2,c3,c4,c5,c6,c7] 95)::AB 148 3 c1 AS o.pages::Cy c2 Y Y o.gens::G2∧J9 (pre++[((i:Int),s)]) G2) (no:=X) E E ⟨E,E,zT⟩ E ?_ (fun bb G1 hG1=>⟨zT,?_⟩)
 intro M
 exact hy pre ((i:Int),s) (pre++[((i:Int),s)]) ⟨rfl,_,hpre.symm⟩ G hJ M
 refine CT E E (Ag E E E (U ?_))
 refine Ax E (fun hc3=>?_) (fun hc3=>?_)
 obtain rfl:bb=false:=by simpa using hc3
 refine AJ (BC (Ab (EB (BC ?_))))
 exact Ae (Dr E) (Ad (M:=G1) (.inr hG1) fun _ h=>h.skip [_,_,_])
 obtain rfl:bb=true:=by simpa using hc3
 obtain⟨G2,rfl,hJ2⟩:=hG1
 refine AI (Aj (AH (AN (Z E (Bf zO zO) (J E (AY ?_))))))
 exact Au (i+1,pre++[((i:Int),s)],G2) ⟨hJ2,by dsimp only;rw[←hpre,List.append_assoc];rfl⟩ (by dsimp only;omega) tL (fun _ h=>h.skip [_])
 have ho:f8 o g s=false:=e
 rw[if_neg (by rw[ho];decide)]at hpre
 refine AC E (AC E (AC E (BY (AC E (AC E (Ag E E E (U (Cx E (AI (Aj (AH (AN (Z E (Bf zO zO) ?_)))))))))))))
 refine J E (AY ?_)
 exact Au (i+1,pre,G) ⟨hJ,hpre⟩ (by dsimp only;omega) tL (fun _ h=>h.skip [_])
 have hge:o.pages.length≤i:=by simpa using hc1
 refine A1 (A6 (Ba (A7 ?_)))
 rw[List.drop_eq_nil_of_le hge,Sp,List.append_nil]at hpre
 exact DF (Dr E) (Ad (M:=own b (.cells #[c0,c1,c2,c3,c4,c5,c6,c7] 95)::AB 148 3 c1 AS o.pages::Cy c2 Y Y o.gens::G) (.inl ⟨pre,G,hpre,E,hJ⟩) fun _ h=>h.skip [_,_])
theorem kH{b bx bg:Nat}{c0 c1 c2 c3 c4 c5 c6 c7:Value}{o:Bj}{g:UInt32}{xs:List (Int×A4)}(h:XS o g=some xs):
  aG Tryz.prog K w0 96 [vP bx 0,vP bg 0] [own bx (.cells #[vP b 0] 184),own bg (.cells #[Y g] 36)] (rB b c0 c1 c2 c3 c4 c5 c6 c7 o) bK xs:=by
 unfold XS at h
 split at h
 rename_i hl
 obtain rfl:=zI h
 exact mr b bx bg c0 c1 c2 c3 c4 c5 c6 c7 o g hl
 cases h
end

section
variable {K:Nat→Prop}{w0:World}{H:List AV}
def Ju(y2:Int):Option Int:=
 some y2
def Jv(y4:Int):Option Int:=
 Ju y4
def Il(nx_f_store_Store_old_r1:Int→Option Int)(e1:Int×A4)(y4:Int):Option Int:=
 nx_f_store_Store_old_r1 (wI (y4+1))
def HP:List (Int×A4)→Int→Option Int:=TR (fun nx e x=>Il  nx e x) (fun x=>Jv x)
def HI(p0:Bj)(p0_1:Aw)(p0_2:Af):Option Int:=
 (FL p0.ring).bind fun y1=>
 (bn p0 p0_1 p0_2 y1.1).bind fun y3=>
 (XS p0 y1.1).bind fun xs1=>
 HP xs1 0
theorem UF{Ao CC BL As Ay Az:Nat}{Am AZ Ar BH BM A0:Value}{p0:Bj}{p0_1:Aw}{p0_2:Af}{r:Int}(h:HI p0 p0_1 p0_2=some r): zC K w0 40 [vP Ao 0] [own Ao (.cells #[Am,AZ,Ar,vP As 0,vP CC 0,BH,Y p0.gen,vB p0.bad] 95),AB 43 4 Am AU p0.rows,AB 148 3 AZ AS p0.pages,Cy Ar Y Y p0.gens,AB 55 2 BH AX p0.ring,own CC (.cells #[vP As 0,BM,Y p0_1.gen,Y p0_1.boot,AT p0_1.seals,.map (some BL)] 137),AB 55 2 BM AX p0_1.ring,Aa BL Y vB p0_1.taken,own As (.cells #[vB p0_2.off,vB p0_2.isCut,vI p0_2.lasts,vI p0_2.counts,A0,.map (some Ay),.map (some Az),AT p0_2.rcnt,vS p0_2.rtag,Y p0_2.rboots] 102),AB 9 1 A0 eS p0_2.blocks,Aa Ay Y vS p0_2.pend,Aa Az Y vB p0_2.bad] H (fun u M=>u=vI r∧M=[own Ao (.cells #[Am,AZ,Ar,vP As 0,vP CC 0,BH,Y p0.gen,vB p0.bad] 95),AB 43 4 Am AU p0.rows,AB 148 3 AZ AS p0.pages,Cy Ar Y Y p0.gens,AB 55 2 BH AX p0.ring,own CC (.cells #[vP As 0,BM,Y p0_1.gen,Y p0_1.boot,AT p0_1.seals,.map (some BL)] 137),AB 55 2 BM AX p0_1.ring,Aa BL Y vB p0_1.taken,own As (.cells #[vB p0_2.off,vB p0_2.isCut,vI p0_2.lasts,vI p0_2.counts,A0,.map (some Ay),.map (some Az),AT p0_2.rcnt,vS p0_2.rtag,Y p0_2.rboots] 102),AB 9 1 A0 eS p0_2.blocks,Aa Ay Y vS p0_2.pend,Aa Az Y vB p0_2.bad]):=by
 unfold HI at h
 refine T3.enter Tryz.func40 rfl rfl ?_
 refine V (O E (U (V ?_)))
 refine AD h fun y1 hy1 h=>?_
 refine J E (AQ E E (AE E qY (AF 0 jE E (SL.pick [4,0,1,2,3] 5 ?_))))
 refine Bg (vs:=[_]) (Hin:=[_]) (Hr:=_::_::_::_::_::_::_::_::_::_::_::_) E E ⟨E,zT⟩ fh E E (Co (B:=[_]) (Hin:=[]) fun K' w1 hk hB=>PB hy1 (CO (e:=55) (v:=BH) zV (hB _ zS))) ?_
 rintro _ _ ⟨_,rfl,rfl,rfl⟩
 refine⟨trivial,?_⟩
 refine J E (Ac E E E (Ac E E E (O E (O E (U (V ?_))))))
 refine Al E ni zU fun b1=>?_
 refine A5 0 E E E E OT E E E zT (U ?_)
 refine A9 (α:=Int) (fun x=>Ju x=some r) (fun x=>[(0,vP Ao 0),(5,vP b1 0)]) (fun x=>own Ao (.cells #[Am,AZ,Ar,vP As 0,vP CC 0,BH,Y p0.gen,vB p0.bad] 95)::AB 43 4 Am AU p0.rows::AB 148 3 AZ AS p0.pages::Cy Ar Y Y p0.gens::own As (.cells #[vB p0_2.off,vB p0_2.isCut,vI p0_2.lasts,vI p0_2.counts,A0,.map (some Ay),.map (some Az),AT p0_2.rcnt,vS p0_2.rtag,Y p0_2.rboots] 102)::AB 9 1 A0 eS p0_2.blocks::Aa Ay Y vS p0_2.pend::Aa Az Y vB p0_2.bad::own CC (.cells #[vP As 0,BM,Y p0_1.gen,Y p0_1.boot,AT p0_1.seals,.map (some BL)] 137)::AB 55 2 BM AX p0_1.ring::Aa BL Y vB p0_1.taken::AB 55 2 BH AX p0.ring::own b1 (.cells #[vI x] 3)::H) ?_ (fun y2 D h=>?_)
 refine V ?_
 refine AD h fun y3 hy3 h=>?_
 refine J E (AQ E E (AE E NB (J E (BO 0 sB ((nZ hy3 :)) E ?_))))
 rintro _ _ ⟨b2,b3,rfl,rfl⟩
 refine U (AM ?_)
 refine AD h fun xs1 hxs1 h=>?_
 refine SX.heap (aD (enc:=bK) xs1 [own Ao (.cells #[Am,AZ,Ar,vP As 0,vP CC 0,BH,Y p0.gen,vB p0.bad] 95),AB 148 3 AZ AS p0.pages,Cy Ar Y Y p0.gens] (G0:=AB 43 4 Am AU p0.rows::AB 55 2 BH AX p0.ring::own CC (.cells #[vP As 0,BM,Y p0_1.gen,Y p0_1.boot,AT p0_1.seals,.map (some BL)] 137)::AB 55 2 BM AX p0_1.ring::Aa BL Y vB p0_1.taken::own As (.cells #[vB p0_2.off,vB p0_2.isCut,vI p0_2.lasts,vI p0_2.counts,A0,.map (some Ay),.map (some Az),AT p0_2.rcnt,vS p0_2.rtag,Y p0_2.rboots] 102)::AB 9 1 A0 eS p0_2.blocks::Aa Ay Y vS p0_2.pend::Aa Az Y vB p0_2.bad::own b1 (.cells #[vI 0] 3)::H) (fun pre G=>∃x:Int,(∀suf,xs1=pre++suf→HP suf x=some r)∧G=AB 43 4 Am AU p0.rows::AB 55 2 BH AX p0.ring::own CC (.cells #[vP As 0,BM,Y p0_1.gen,Y p0_1.boot,AT p0_1.seals,.map (some BL)] 137)::AB 55 2 BM AX p0_1.ring::Aa BL Y vB p0_1.taken::own As (.cells #[vB p0_2.off,vB p0_2.isCut,vI p0_2.lasts,vI p0_2.counts,A0,.map (some Ay),.map (some Az),AT p0_2.rcnt,vS p0_2.rtag,Y p0_2.rboots] 102)::AB 9 1 A0 eS p0_2.blocks::Aa Ay Y vS p0_2.pend::Aa Az Y vB p0_2.bad::own b1 (.cells #[vI x] 3)::H) (fun c G=>False) E sL E zV (kH hxs1) E ⟨0,fun suf e=>by rw[←show xs1=suf from e];exact h,E⟩ (fun pre e1 suf1 G hpre hJ lr lp Rest=>?_) (fun G D hJ=>?_) (fun c G D hX=>?_)) (BN [0,1,4,6,7,5,3,8,9,10,11,12,13,14,2] 15 E E E)
 obtain⟨y4,h,rfl⟩:=hJ
 replace h:Il (HP suf1) e1 y4=some r:=h _ hpre
 unfold Il at h
 refine AI ?_
 refine Jz (G:=own Ao (.cells #[Am,AZ,Ar,vP As 0,vP CC 0,BH,Y p0.gen,vB p0.bad] 95)::AB 148 3 AZ AS p0.pages::Cy Ar Y Y p0.gens::AB 43 4 Am AU p0.rows::AB 55 2 BH AX p0.ring::own CC (.cells #[vP As 0,BM,Y p0_1.gen,Y p0_1.boot,AT p0_1.seals,.map (some BL)] 137)::AB 55 2 BM AX p0_1.ring::Aa BL Y vB p0_1.taken::own As (.cells #[vB p0_2.off,vB p0_2.isCut,vI p0_2.lasts,vI p0_2.counts,A0,.map (some Ay),.map (some Az),AT p0_2.rcnt,vS p0_2.rtag,Y p0_2.rboots] 102)::AB 9 1 A0 eS p0_2.blocks::Aa Ay Y vS p0_2.pend::Aa Az Y vB p0_2.bad::own b1 (.cells #[vI y4] 3)::H) ?_
 refine AM (AN (AF 12 FJ E (Z E Bh (A5 12 E E E E OT E E E zT (AY (Aj ?_))))))
 exact Hg ⟨_,E,(wI (y4+1)),fun suf e=>by rw[Vf hpre e];exact h,E⟩ (BN [0,1,2,3,4,5,6,7,8,9,10,11,12] 13 E E E)
 obtain⟨y4,h,rfl⟩:=hJ
 replace h:Jv y4=some r:=h [] (List.append_nil _).symm
 unfold Jv at h
 refine Aj ?_
 exact Aq y4 h tL (BN [0,3,1,2,8,9,10,11,5,6,7,4,12] 13 E E E)
 exact hX.elim
 unfold Ju at h
 try dsimp only
 refine V (AF 12 FJ E (O E (U (AJ ?_))))
 obtain rfl:=zI h
 exact AW [0,1,2,3,11,8,9,10,4,5,6,7] 13 E E E
def FE(p0:Bj)(p0_1:Aw)(p0_2:Af):Option Xh:=
 (RE p0_1 p0_2).bind fun y1=>
 (Fz p0_2).bind fun y2=>
 (HI p0 p0_1 p0_2).bind fun y3=>
 some (⟨(p0.rows.length:Int),(p0.pages.length:Int),y1,y2.cnt,p0.gen,y3⟩:Xh)
theorem N6{Ao CC BL As Ay Az:Nat}{Am AZ Ar BH BM A0:Value}{p0:Bj}{p0_1:Aw}{p0_2:Af}{r:Xh}(h:FE p0 p0_1 p0_2=some r): zC K w0 16 [vP Ao 0] [own Ao (.cells #[Am,AZ,Ar,vP As 0,vP CC 0,BH,Y p0.gen,vB p0.bad] 95),AB 43 4 Am AU p0.rows,AB 148 3 AZ AS p0.pages,Cy Ar Y Y p0.gens,AB 55 2 BH AX p0.ring,own CC (.cells #[vP As 0,BM,Y p0_1.gen,Y p0_1.boot,AT p0_1.seals,.map (some BL)] 137),AB 55 2 BM AX p0_1.ring,Aa BL Y vB p0_1.taken,own As (.cells #[vB p0_2.off,vB p0_2.isCut,vI p0_2.lasts,vI p0_2.counts,A0,.map (some Ay),.map (some Az),AT p0_2.rcnt,vS p0_2.rtag,Y p0_2.rboots] 102),AB 9 1 A0 eS p0_2.blocks,Aa Ay Y vS p0_2.pend,Aa Az Y vB p0_2.bad] H (fun u M=>u=.agg (de r).toArray∧M=[own Ao (.cells #[Am,AZ,Ar,vP As 0,vP CC 0,BH,Y p0.gen,vB p0.bad] 95),AB 43 4 Am AU p0.rows,AB 148 3 AZ AS p0.pages,Cy Ar Y Y p0.gens,AB 55 2 BH AX p0.ring,own CC (.cells #[vP As 0,BM,Y p0_1.gen,Y p0_1.boot,AT p0_1.seals,.map (some BL)] 137),AB 55 2 BM AX p0_1.ring,Aa BL Y vB p0_1.taken,own As (.cells #[vB p0_2.off,vB p0_2.isCut,vI p0_2.lasts,vI p0_2.counts,A0,.map (some Ay),.map (some Az),AT p0_2.rcnt,vS p0_2.rtag,Y p0_2.rboots] 102),AB 9 1 A0 eS p0_2.blocks,Aa Ay Y vS p0_2.pend,Aa Az Y vB p0_2.bad]):=by
 unfold FE at h
 refine T3.enter Tryz.func16 rfl rfl ?_
 refine V ?_
 refine Al E rH zU fun b1=>?_
 refine U (AG (V (J E (EL E eo E E (U (Cx E (AI (AH (AG ?_)))))))))
 refine AD h fun y1 hy1 h=>?_
 refine AD h fun y2 hy2 h=>?_
 refine AD h fun y3 hy3 h=>?_
 refine Av DH [1,2,3] (CA [(true,0),(true,1),(true,2),(true,3),(true,4),(true,5),(true,6),(true,7),(true,8),(true,9),(true,10),(true,11),(true,12),(true,13),(true,14),(true,15),(true,17),(true,18),(true,19),(true,20),(true,23),(true,24),(true,25),(true,26),(true,27),(false,16),(false,21),(true,22),(false,28),(true,29)] (.last 30 .nil)) zK (J E (AQ E E (AE E NB (AE E XR (AF 0 Fa E (Dj 1 E Cz E E (J E ?_)))))))
 refine AQ E E (AE E NB (AE E VP (AF 0 Pb E (Dj 2 E Iy E E (J E (AQ E E (AE E RJ ?_)))))))
 refine AF 0 Rp E (J E (AQ E E (AE E Ny (AF 0 MZ E (J E (AQ E E (AE E bR ?_)))))))
 refine AF 0 A2 E (J E (SL.pick [6,7,8,9,10,11,12,0,1,2,3,4,5] 13 (BP 7 rj (fZ hy1) E ⟨⟨8,E⟩,⟨9,E⟩,⟨10,E⟩,zT⟩ (SL.pick [3,4,5,6,0,1,2] 7 (BP 4 ay (Mi hy2) E ⟨⟨8,E⟩,⟨9,E⟩,⟨10,E⟩,zT⟩ (XA E (show Zd Tryz.prog 38 0=some 0 by kernel_rfl) E E (SL.pick [8,9,10,11,12,4,5,6,0,1,2,3,7] 13 ?_)))))))
 refine BP 12 rk (UF hy3) E ⟨⟨0,E⟩,⟨1,E⟩,⟨2,E⟩,zT⟩ (B5 [_,_,_,_,_,_] E uN uH rH ⟨E,E,E,E,E,E,zT⟩ E (BY (A5 12 E E E E uX E E E zT (U (AJ ?_)))))
 obtain rfl:=zI h
 exact Ae (IK E (B9 12 (de (⟨(p0.rows.length:Int),(p0.pages.length:Int),y1,y2.cnt,p0.gen,y3⟩:Xh)) tz E E E E)) (Ad (M:=[_,_,_,_,_,_,_,_,_,_,_,_]) ⟨E,E⟩ fun _ hw=>BX.pick (H:=[_,_,_,_,_,_,_,_,_,_,_,_,_]) hw [0,1,2,3,4,5,6,7,8,9,10,11] 13 E)
end

section
variable {K:Nat→Prop}{w0:World}{H:List AV}
def HM(y1:Bool)(y2:Option (DZ×Bj×Aw×Af×O4×Dk×BW×A3)×Bool)(y3:Option (DZ×Bj×Aw×Af×O4×Dk×BW×A3)×Bool):Option Bool:=
 ret ((y1&&y2.2)&&y3.2) fun x3=>
 some x3
def FB(n:Nat)(T:List UInt32)(p0:List Ak)(y1:Bool)(y2:Option (DZ×Bj×Aw×Af×O4×Dk×BW×A3)×Bool)(y3:Option (DZ×Bj×Aw×Af×O4×Dk×BW×A3)×Bool)(nx_f_law18_FaceAlone_l1:DZ×Bj×Af×Aw×DZ×Bj×Af×Aw×Int→Option Bool)(o1:DZ)(o2:Bj)(o3:Af)(o4:Aw)(o5:DZ)(o6:Bj)(o7:Af)(o8:Aw)(a1:Int):Option Bool:=
 cond ((((decide (a1<(p0.length:Int)))&&(decide (a1<8)))&&y2.2)&&y3.2)
 (
  (BB p0 a1).bind fun x1=>
  (DO n T o1 o2 o4 o3 x1).bind fun y4=>
  (Fm o5 o6 o8 o7).bind fun y5=>
  (BB p0 a1).bind fun x2=>
  (DO n T y5.2 o6 o8 o7 x2).bind fun y6=>
  (DX n T y6.2.1 y6.2.2.1 y6.2.2.2.1 y6.2.2.2.2).bind fun y7=>
  (Sq (((!decide (y4.1=y6.1))||(!decide (y5.1=0)))||(!decide (y7.1=0))) ((Cr y4.2.2.1 y4.2.2.2.1 y4.2.2.2.2).bind fun y8=>(Cr y7.2.2.1 y7.2.2.2.1 y7.2.2.2.2).bind fun y9=>(Ld n y8 y9).bind fun y10=>some (!y10))).bind fun y11=>
  (Sq y11 ((FE y4.2.2.1 y4.2.2.2.1 y4.2.2.2.2).bind fun y12=>(FE y7.2.2.1 y7.2.2.2.1 y7.2.2.2.2).bind fun y13=>some (!(decide (y12.rows=y13.rows)&&(decide (y12.pages=y13.pages)&&(decide (y12.free=y13.free)&&(decide (y12.count=y13.count)&&(decide (y12.gen=y13.gen)&&(decide (y12.old=y13.old)&&true))))))))).bind fun y14=>
  cond y14
  (
   some false)
  (
   ret (wI (a1+1)) fun i_1=>
   nx_f_law18_FaceAlone_l1 (y4.2.1,y4.2.2.1,y4.2.2.2.2,y4.2.2.2.1,y7.2.1,y7.2.2.1,y7.2.2.2.2,y7.2.2.2.1,i_1)))
 (
  HM y1 y2 y3)
def Fi(n:Nat)(T:List UInt32)(p0:List Ak)(y1:Bool)(y2:Option (DZ×Bj×Aw×Af×O4×Dk×BW×A3)×Bool)(y3:Option (DZ×Bj×Aw×Af×O4×Dk×BW×A3)×Bool):Nat→(DZ×Bj×Af×Aw×DZ×Bj×Af×Aw×Int)→Option Bool:=CN fun nx x=>FB n T p0 y1 y2 y3 nx x.1 x.2.1 x.2.2.1 x.2.2.2.1 x.2.2.2.2.1 x.2.2.2.2.2.1 x.2.2.2.2.2.2.1 x.2.2.2.2.2.2.2.1 x.2.2.2.2.2.2.2.2
def I5(n:Nat)(T:List UInt32)(p0:List Ak):Option Bool:=
 (KM n T).bind fun y1=>
 (IC n T).bind fun y2=>
 (y2.1).bind fun d1=>
 (IC n T).bind fun y3=>
 (y3.1).bind fun d2=>
 Fi n T p0 y1 y2 y3 n (d1.1,d1.2.1,d1.2.2.2.1,d1.2.2.1,d2.1,d2.2.1,d2.2.2.2.1,d2.2.2.1,0)
theorem UA{n:Nat}{T:List UInt32}{DA:Value}{p0:List Ak}{r:Bool}(h:I5 n T p0=some r)(hS:Ge K w0 T)(hT:JO K w0 2 64 T)(hs0_:B6 K w0 AU 4 DA p0):zC K w0 4 [DA] [] H (fun u M=>u=vB r∧M=[]):=by
 unfold I5 at h
 refine T3.enter Tryz.func4 rfl rfl ?_
 refine V (O E (U (V ?_)))
 refine AD h fun y1 hy1 h=>?_
 refine AP 0 uB (Xq hy1 hS hT) E (O E (U (V ?_)))
 refine AD h fun y2 hy2 h=>?_
 refine AD h fun d1 hd1 h=>?_
 refine Bg (vs:=[]) (Hin:=[]) (Hr:=_) E E zT lj E E (QD hy2 hS hT) ?_
 rintro _ _ (⟨hn,-,-⟩ | ⟨d_,b1,v1,b2,v2,v3,v4,v5,b3,v6,m1,b4,v7,m2,m3,b5,v8,b6,v9,v10,v11,b7,v12,v13,b8,v14,v15,v16,hn,rfl,rfl⟩)
 rw[hd1]at hn;cases hn
 obtain rfl:d1=d_:=zI (hd1.symm.trans hn)
 refine⟨trivial,?_⟩
 refine J E (Ac E E E (Ac E E E (Ac E E E (Ac E E E (Ac E E E (O E (O E ?_)))))))
 refine O E (O E (O E (U (V ?_))))
 refine AD h fun y3 hy3 h=>?_
 refine AD h fun d2 hd2 h=>?_
 refine Bg (vs:=[]) (Hin:=[]) (Hr:=_::_::_::_::_::_::_::_::_::_::_::_::_::_::_::_::_::_::_::_::_::_::_::_::_::_::_::_) E E zT lj E E (QD hy3 hS hT) ?_
 rintro _ _ (⟨hn,-,-⟩ | ⟨d_,b9,v17,b10,v18,v19,v20,v21,b11,v22,m4,b12,v23,m5,m6,b13,v24,b14,v25,v26,v27,b15,v28,v29,b16,v30,v31,v32,hn,rfl,rfl⟩)
 rw[hd2]at hn;cases hn
 obtain rfl:d2=d_:=zI (hd2.symm.trans hn)
 refine⟨trivial,?_⟩
 refine J E (Ac E E E (Ac E E E (Ac E E E (Ac E E E (Ac E E E (O E (O E ?_)))))))
 refine O E (O E (O E (U ?_)))
 refine A9 (α:=Unit) (fun x=>HM y1 y2 y3=some r) (fun x=>[(3,vB y1),(8,vB y2.2),(13,vB y3.2)]) (fun x=>H) ?_ (fun x D h=>?_)
 refine V (O E (U (AM ?_)))
 refine SX.heap (SX.mono (BF (α:=Nat×DZ×Value×Bj×Value×Value×Value×Af×Aw×DZ×Value×Bj×Value×Value×Value×Af×Aw×Int) (fun x=>Fi n T p0 y1 y2 y3 x.1 (x.2.1,x.2.2.2.1,x.2.2.2.2.2.2.2.1,x.2.2.2.2.2.2.2.2.1,x.2.2.2.2.2.2.2.2.2.1,x.2.2.2.2.2.2.2.2.2.2.2.1,x.2.2.2.2.2.2.2.2.2.2.2.2.2.2.2.1,x.2.2.2.2.2.2.2.2.2.2.2.2.2.2.2.2.1,x.2.2.2.2.2.2.2.2.2.2.2.2.2.2.2.2.2)=some r) (fun x=>[(0,DA),(3,vB y1),(4,vP b1 0),(5,vP b2 0),(8,vB y2.2),(9,vP b9 0),(10,vP b10 0),(13,vB y3.2),(14,vI x.2.2.2.2.2.2.2.2.2.2.2.2.2.2.2.2.2)]) (fun x=>own b1 (.cells #[x.2.2.1,vB x.2.1.isOpen,vP b2 0,vB x.2.1.closed] 85)::AB 105 5 x.2.2.1 CE x.2.1.ops::own b2 (.cells #[x.2.2.2.2.1,x.2.2.2.2.2.1,x.2.2.2.2.2.2.1,vP b4 0,vP b3 0,v5,Y x.2.2.2.1.gen,vB x.2.2.2.1.bad] 95)::AB 43 4 x.2.2.2.2.1 AU x.2.2.2.1.rows::AB 148 3 x.2.2.2.2.2.1 AS x.2.2.2.1.pages::Cy x.2.2.2.2.2.2.1 Y Y x.2.2.2.1.gens::own b4 (.cells #[vB x.2.2.2.2.2.2.2.1.off,vB x.2.2.2.2.2.2.2.1.isCut,vI x.2.2.2.2.2.2.2.1.lasts,vI x.2.2.2.2.2.2.2.1.counts,v7,.map (some m2),.map (some m3),AT x.2.2.2.2.2.2.2.1.rcnt,vS x.2.2.2.2.2.2.2.1.rtag,Y x.2.2.2.2.2.2.2.1.rboots] 102)::AB 9 1 v7 eS x.2.2.2.2.2.2.2.1.blocks::Aa m2 Y vS x.2.2.2.2.2.2.2.1.pend::Aa m3 Y vB x.2.2.2.2.2.2.2.1.bad::own b3 (.cells #[vP b4 0,v6,Y x.2.2.2.2.2.2.2.2.1.gen,Y x.2.2.2.2.2.2.2.2.1.boot,AT x.2.2.2.2.2.2.2.2.1.seals,.map (some m1)] 137)::AB 55 2 v6 AX x.2.2.2.2.2.2.2.2.1.ring::Aa m1 Y vB x.2.2.2.2.2.2.2.2.1.taken::AB 55 2 v5 AX x.2.2.2.1.ring::own b9 (.cells #[x.2.2.2.2.2.2.2.2.2.2.1,vB x.2.2.2.2.2.2.2.2.2.1.isOpen,vP b10 0,vB x.2.2.2.2.2.2.2.2.2.1.closed] 85)::AB 105 5 x.2.2.2.2.2.2.2.2.2.2.1 CE x.2.2.2.2.2.2.2.2.2.1.ops::own b10 (.cells #[x.2.2.2.2.2.2.2.2.2.2.2.2.1,x.2.2.2.2.2.2.2.2.2.2.2.2.2.1,x.2.2.2.2.2.2.2.2.2.2.2.2.2.2.1,vP b12 0,vP b11 0,v21,Y x.2.2.2.2.2.2.2.2.2.2.2.1.gen,vB x.2.2.2.2.2.2.2.2.2.2.2.1.bad] 95)::AB 43 4 x.2.2.2.2.2.2.2.2.2.2.2.2.1 AU x.2.2.2.2.2.2.2.2.2.2.2.1.rows::AB 148 3 x.2.2.2.2.2.2.2.2.2.2.2.2.2.1 AS x.2.2.2.2.2.2.2.2.2.2.2.1.pages::Cy x.2.2.2.2.2.2.2.2.2.2.2.2.2.2.1 Y Y x.2.2.2.2.2.2.2.2.2.2.2.1.gens::own b12 (.cells #[vB x.2.2.2.2.2.2.2.2.2.2.2.2.2.2.2.1.off,vB x.2.2.2.2.2.2.2.2.2.2.2.2.2.2.2.1.isCut,vI x.2.2.2.2.2.2.2.2.2.2.2.2.2.2.2.1.lasts,vI x.2.2.2.2.2.2.2.2.2.2.2.2.2.2.2.1.counts,v23,.map (some m5),.map (some m6),AT x.2.2.2.2.2.2.2.2.2.2.2.2.2.2.2.1.rcnt,vS x.2.2.2.2.2.2.2.2.2.2.2.2.2.2.2.1.rtag,Y x.2.2.2.2.2.2.2.2.2.2.2.2.2.2.2.1.rboots] 102)::AB 9 1 v23 eS x.2.2.2.2.2.2.2.2.2.2.2.2.2.2.2.1.blocks::Aa m5 Y vS x.2.2.2.2.2.2.2.2.2.2.2.2.2.2.2.1.pend::Aa m6 Y vB x.2.2.2.2.2.2.2.2.2.2.2.2.2.2.2.1.bad::own b11 (.cells #[vP b12 0,v22,Y x.2.2.2.2.2.2.2.2.2.2.2.2.2.2.2.2.1.gen,Y x.2.2.2.2.2.2.2.2.2.2.2.2.2.2.2.2.1.boot,AT x.2.2.2.2.2.2.2.2.2.2.2.2.2.2.2.2.1.seals,.map (some m4)] 137)::AB 55 2 v22 AX x.2.2.2.2.2.2.2.2.2.2.2.2.2.2.2.2.1.ring::Aa m4 Y vB x.2.2.2.2.2.2.2.2.2.2.2.2.2.2.2.2.1.taken::AB 55 2 v21 AX x.2.2.2.2.2.2.2.2.2.2.2.1.ring::H) (fun x=>x.1) (fun x D h=>?_) (n,d1.1,v1,d1.2.1,v2,v3,v4,d1.2.2.2.1,d1.2.2.1,d2.1,v17,d2.2.1,v18,v19,v20,d2.2.2.2.1,d2.2.2.1,0) h) tL) (BN [27,28,29,30,31,32,37,38,39,40,34,35,36,33,0,1,2,3,4,5,10,11,12,13,7,8,9,6] 54 E E E)
 obtain⟨m7,o1,v33,o2,v34,v35,v36,o3,o4,o5,v37,o6,v38,v39,v40,o7,o8,a1⟩:=x
 dsimp only at h
 rcases m7 with _ | m7
 cases (show(none:Option _)=some r from h)
 replace h:FB n T p0 y1 y2 y3 (Fi n T p0 y1 y2 y3 m7) o1 o2 o3 o4 o5 o6 o7 o8 a1=some r:=h
 unfold FB at h
 refine aE [(0,DA),(3,vB y1),(4,vP b1 0),(5,vP b2 0),(8,vB y2.2),(9,vP b9 0),(10,vP b10 0),(13,vB y3.2),(14,vI a1)] (own b1 (.cells #[v33,vB o1.isOpen,vP b2 0,vB o1.closed] 85)::AB 105 5 v33 CE o1.ops::own b2 (.cells #[v34,v35,v36,vP b4 0,vP b3 0,v5,Y o2.gen,vB o2.bad] 95)::AB 43 4 v34 AU o2.rows::AB 148 3 v35 AS o2.pages::Cy v36 Y Y o2.gens::own b4 (.cells #[vB o3.off,vB o3.isCut,vI o3.lasts,vI o3.counts,v7,.map (some m2),.map (some m3),AT o3.rcnt,vS o3.rtag,Y o3.rboots] 102)::AB 9 1 v7 eS o3.blocks::Aa m2 Y vS o3.pend::Aa m3 Y vB o3.bad::own b3 (.cells #[vP b4 0,v6,Y o4.gen,Y o4.boot,AT o4.seals,.map (some m1)] 137)::AB 55 2 v6 AX o4.ring::Aa m1 Y vB o4.taken::AB 55 2 v5 AX o2.ring::own b9 (.cells #[v37,vB o5.isOpen,vP b10 0,vB o5.closed] 85)::AB 105 5 v37 CE o5.ops::own b10 (.cells #[v38,v39,v40,vP b12 0,vP b11 0,v21,Y o6.gen,vB o6.bad] 95)::AB 43 4 v38 AU o6.rows::AB 148 3 v39 AS o6.pages::Cy v40 Y Y o6.gens::own b12 (.cells #[vB o7.off,vB o7.isCut,vI o7.lasts,vI o7.counts,v23,.map (some m5),.map (some m6),AT o7.rcnt,vS o7.rtag,Y o7.rboots] 102)::AB 9 1 v23 eS o7.blocks::Aa m5 Y vS o7.pend::Aa m6 Y vB o7.bad::own b11 (.cells #[vP b12 0,v22,Y o8.gen,Y o8.boot,AT o8.seals,.map (some m4)] 137)::AB 55 2 v22 AX o8.ring::Aa m4 Y vB o8.taken::AB 55 2 v21 AX o6.ring::H) ?_ tL
 refine AG (V (J E (J E (B3 hs0_ E Cz E (Z E A8 (J E ?_))))))
 refine Cl (c:=decide (a1<8)) 38 3 41 E (fun hb k=>?_) (fun hb k=>?_) ?_
 refine J E (Z E A8 (Ag E E E ?_))
 exact k.mono tL
 refine AC E (AC E (Ag E E E ?_))
 exact k.mono tL
 refine J E ?_
 refine Cl (c:=y2.2) 42 2 44 E (fun hb k=>?_) (fun hb k=>?_) ?_
 refine J E (Ag E E E ?_)
 exact k.mono tL
 refine AC E (Ag E E E ?_)
 exact k.mono tL
 refine J E ?_
 refine Cl (c:=y3.2) 45 2 47 E (fun hb k=>?_) (fun hb k=>?_) ?_
 refine J E (Ag E E E ?_)
 exact k.mono tL
 refine AC E (Ag E E E ?_)
 exact k.mono tL
 refine U ?_
 refine AL h E (fun hc1 h=>?_) fun hc1 h=>?_
 refine AI (AH (AG (AM (V ?_))))
 refine AD h fun x1 hx1 h=>?_
 refine AD h fun y4 hy4 h=>?_
 refine J E (J E (J E ?_))
 refine DD hx1 hs0_ E Cz Dq E E fun be1 of1 hc2=>?_
 refine Ap (AU x1) E GN E E (DM hc2) (SL.pick [0,1,2,3,4,5,13,10,11,12,6,7,8,9] 14 (BO 14 ff ((NY hy4 hS :)) E ?_))
 rintro _ _ ⟨v41,v42,v43,v44,rfl,rfl⟩
 refine O E (U (V ?_))
 refine AD h fun y5 hy5 h=>?_
 refine J E (SL.pick [14,15,16,17,18,19,27,24,25,26,20,21,22,23,0,1,2,3,4,5,6,7,8,9,10,11,12,13] 28 (BO 14 q8 (PA hy5) E ?_))
 rintro _ _ ⟨v45,rfl,rfl⟩
 refine O E (U (V ?_))
 refine AD h fun x2 hx2 h=>?_
 refine AD h fun y6 hy6 h=>?_
 refine J E (J E (J E ?_))
 refine DD hx2 hs0_ E Cz Dq E E fun be2 of2 hc3=>?_
 refine Ap (AU x2) E GN E E (DM hc3) (BO 14 ff ((NY hy6 hS :)) E ?_)
 rintro _ _ ⟨v46,v47,v48,v49,rfl,rfl⟩
 refine O E (U (V ?_))
 refine AD h fun y7 hy7 h=>?_
 refine J E (BO 14 fc (LH hy7 hS) E ?_)
 rintro _ _ ⟨v50,v51,v52,v53,rfl,rfl⟩
 refine O E (U (V ?_))
 refine AD h fun y11 hy11 h=>?_
 refine AD h fun y14 hy14 h=>?_
 refine J E (J E (Z E BJ (J E ?_)))
 refine Eg (c := !decide (y5.1=0)) 69 3 72 E (fun hb k=>?_) (fun hb k=>?_) ?_
 refine AC E (AC E (Ag E E E ?_))
 exact k.mono tL
 refine J E (Z E BJ (Ag E E E ?_))
 exact k.mono tL
 refine J E ?_
 refine Eg (c := !decide (y7.1=0)) 73 3 76 E (fun hb k=>?_) (fun hb k=>?_) ?_
 refine AC E (AC E (Ag E E E ?_))
 exact k.mono tL
 refine J E (Z E BJ (Ag E E E ?_))
 exact k.mono tL
 refine J E ?_
 refine Oc 77 7 84 hy11 E (fun hb k=>?_) (fun hb hg6 k=>?_) ?_
 refine AC E (AC E (AC E (AC E (AC E (AC E (Ag E E E ?_))))))
 exact k.mono tL
 obtain⟨y8,hy8,hg6⟩:=EE hg6
 obtain⟨y9,hy9,hg6⟩:=EE hg6
 obtain⟨y10,hy10,hg6⟩:=EE hg6
 obtain rfl:=zI hg6
 refine J E (SL.pick [16,17,18,19,20,21,22,23,24,25,26,27,0,1,2,3,4,5,6,7,8,9,10,11,12,13,14,15] 28 ?_)
 refine Bg (vs:=[_]) (Hin:=[_,_,_,_,_,_,_,_,_,_,_,_]) (Hr:=_::_::_::_::_::_::_::_::_::_::_::_::_::_::_::_::_) E E ⟨E,zT⟩ fe E E (LI hy8) ?_
 rintro v54 _ ⟨_,rfl,rfl⟩
 refine⟨trivial,?_⟩
 refine J E (SL.pick [15,16,17,18,19,20,21,22,23,24,25,26,0,1,2,3,4,5,6,7,8,9,10,11,12,13,14] 27 ?_)
 refine Bg (vs:=[_]) (Hin:=[_,_,_,_,_,_,_,_,_,_,_,_]) (Hr:=_::_::_::_::_::_::_::_::_::_::_::_::_::_::_::_::_::_) E E ⟨E,zT⟩ fe E E (LI hy9) ?_
 rintro v55 _ ⟨_,rfl,rfl⟩
 refine⟨trivial,?_⟩
 refine SL.pick [13,0,1,2,3,4,5,6,7,8,9,10,11,12] 14 ?_
 refine Bg (vs:=[_,_]) (Hin:=[_,_]) (Hr:=_::_::_::_::_::_::_::_::_::_::_::_::_::_::_::_::_::_::_::_::_::_::_::_::_::_::_::_::_) E E ⟨E,E,zT⟩ rV E E (Co (B:=[_,_]) (Hin:=[]) fun K' w1 hk hB=>ZE hy10 (CO (e:=43) (v:=v54) zV (hB _ zS)) (CO (e:=43) (v:=v55) zV (hB _ zS))) ?_
 rintro _ _ ⟨_,rfl,rfl,rfl⟩
 refine⟨trivial,?_⟩
 refine CT E E (Ag E E E ?_)
 exact SL.mono (SL.heap k fun _ hw=>BX.pick (H:=[_,_,_,_,_,_,_,_,_,_,_,_,_,_,_,_,_,_,_,_,_,_,_,_,_,_,_,_,_,_]) hw [26,27,2,3,4,5,6,7,8,9,10,11,12,13,28,29,14,15,16,17,18,19,20,21,22,23,24,25] 30 E) tL
 refine J E ?_
 refine Oc 85 6 91 hy14 E (fun hb k=>?_) (fun hb hg7 k=>?_) ?_
 refine AC E (AC E (AC E (AC E (AC E (Ag E E E ?_)))))
 exact k.mono tL
 obtain⟨y12,hy12,hg7⟩:=EE hg7
 obtain⟨y13,hy13,hg7⟩:=EE hg7
 obtain rfl:=zI hg7
 refine J E (SL.pick [16,17,18,19,20,21,22,23,24,25,26,27,0,1,2,3,4,5,6,7,8,9,10,11,12,13,14,15] 28 (AP 12 lT (N6 hy12) E (J E (SL.pick [14,15,16,17,18,19,20,21,22,23,24,25,0,1,2,3,4,5,6,7,8,9,10,11,12,13] 26 (AP 12 lT (N6 hy13) E ?_)))))
 refine TF E uC E E (CI E E (RC (a:=y12.rows) (b:=y13.rows)) (CI E E (RC (a:=y12.pages) (b:=y13.pages)) (CI E E (RC (a:=y12.free) (b:=y13.free)) (CI E E (XP (a:=y12.count) (b:=y13.count)) (CI E E (IN (a:=y12.gen) (b:=y13.gen)) (CI E E (RC (a:=y12.old) (b:=y13.old)) II)))))) ?_
 refine Ag E E E ?_
 exact SL.mono (SL.heap k fun _ hw=>BX.pick (H:=[_,_,_,_,_,_,_,_,_,_,_,_,_,_,_,_,_,_,_,_,_,_,_,_,_,_,_,_]) hw [24,25,0,1,2,3,4,5,6,7,8,9,10,11,26,27,12,13,14,15,16,17,18,19,20,21,22,23] 28 E) tL
 refine U ?_
 refine AL h E (fun hc4 h=>?_) fun hc4 h=>?_
 refine V (O E (U (AJ (BC (Ab (EB (BC (F9 ?_))))))))
 obtain rfl:=zI h
 exact AW [] 28 E E E
 refine AI (Aj (AH (AN ?_)))
 obtain⟨i_1,ei_1,h⟩:=Bu h
 refine J E (Z E Bh ?_)
 refine Ai (u:=vI i_1) E E (congrArg vI ei_1) ?_
 refine AY ?_
 exact Au (m7,y4.2.1,v41,y4.2.2.1,v42,v43,v44,y4.2.2.2.2,y4.2.2.2.1,y7.2.1,v50,y7.2.2.1,v51,v52,v53,y7.2.2.2.2,y7.2.2.2.1,i_1) h (Nat.lt_succ_self _) tL (BN [14,15,16,17,18,19,24,25,26,27,21,22,23,20,0,1,2,3,4,5,10,11,12,13,7,8,9,6] 28 E E E)
 refine A1 (A6 (Ba (A7 ?_)))
 exact Aq () h tL (BN [] 28 E E E)
 unfold HM at h
 refine aE [(3,vB y1),(8,vB y2.2),(13,vB y3.2)] (H) ?_ tL
 refine V ?_
 obtain⟨x3,ex3,h⟩:=Bu h
 refine J E (J E ?_)
 refine Cl (c:=y2.2) 93 2 95 E (fun hb k=>?_) (fun hb k=>?_) ?_
 refine J E (Ag E E E ?_)
 exact k.mono tL
 refine AC E (Ag E E E ?_)
 exact k.mono tL
 refine J E ?_
 refine Cl (c:=y3.2) 96 2 98 E (fun hb k=>?_) (fun hb k=>?_) ?_
 refine J E (Ag E E E ?_)
 exact k.mono tL
 refine AC E (Ag E E E ?_)
 exact k.mono tL
 refine Ai (u:=vB x3) E E (congrArg vB ex3) ?_
 refine U (AJ ?_)
 obtain rfl:=zI h
 exact AW [] 0 E E E
end

section
theorem eW{n:Nat}(l:List Ak)(hn:l.length<n)(hb:l.length≤1000000):Ld n l l=some true:=by
 unfold Ld
 rw[show(!decide ((l.length:Int)=(l.length:Int)))=false by simp,B0]
 unfold LA
 refine Et (fun i=>(i:Int)) l.length (fun i hi k=>?_) (fun k=>?_) hn
 unfold HE
 have h1:BB l (i:Int)=some l[i]:=by rw[Dp];exact List.getElem?_eq_getElem hi
 rw[zt zO,Cs,h1,AA,AA,Be,Cm zO zO]
 simp
 unfold HE
 rw[zf zO,B0]
 rfl
theorem gZ{T:List UInt32}{c:UInt64}{o:Bj}{v:Aw}{d:Af}(S:Uq T (DL 1) 1 c o v d)(hr:o.ring=DL 1):∃s,FE o v d=some s:=by
 have hn:FL o.ring=some (1,0):=by
  rw[hr]
  unfold FL Sw
  rw[if_pos (by rw[DY];omega),AA,Oq 1 zO]
  rfl
 have H5:∃k,HI o v d=some k:=by
  have key:∀(xs:List (Int×A4)) (k:Int),∃y,HP xs k=some y:=by
   intro xs
   induction xs with
   | nil=>exact fun k=>⟨_,rfl⟩
   | cons x xs ih=>exact fun k=>ih _
  unfold HI bn XS
  rw[hn,AA,AA,if_pos (by have:=S.few;omega),AA]
  exact key _ _
 obtain⟨k,hk⟩:=H5
 unfold FE RE I3 Fz
 rw[AA,Be,AA,AA,hk,AA]
 exact⟨_,rfl⟩
theorem oI{n:Nat}{l m:List Ak}{o:Is}{e:Int}(hr:Di l=true)(hl:l.length≤1000)(hn:1000<n)(h:Dh n l o=some (m,e)):Np n l [o]=some (if e=0 then(m,0,0)else([],0,e)):=by
 unfold Np
 rw[Nz l zO zO,hr,AA,Bool.not_true,B0,show(decide ((([o]:List Is).length:Int)=0)||decide (64<(([o]:List Is).length:Int)))=false from rfl,B0]
 unfold Oe
 rw[h,AA]
 by_cases h0:e=0
 rw[zt h0,if_pos h0]
 rfl
 rw[zf h0,if_neg h0]
 rfl
theorem fM{T:List UInt32}{c:UInt64}{o:Bj}{v:Aw}{d:Af}(S:Uq T (DL 1) 1 c o v d)(hc:c.toNat<1000)(hr:Di o.rows=true)(hl:o.rows.length≤7)(x:Ak):
  ∃(e:Int) (ops:List Is) (o':Bj) (v':Aw) (d':Af) (c':UInt64),DO 2200000 T ⟨[],false,false⟩ o v d x=some (e,⟨[],false,false⟩,o',v',d')∧
   DO 2200000 T ⟨[],true,false⟩ o v d x=some (e,⟨ops,true,false⟩,o,v,d)∧DX 2200000 T ⟨ops,true,false⟩ o v d=some (0,⟨[],false,false⟩,o',v',d')∧
   Uq T (DL 1) 1 c' o' v' d'∧c'.toNat≤c.toNat+1∧Di o'.rows=true∧o'.rows.length≤o.rows.length+1∧o'.ring=o.ring:=by
 obtain⟨m,e,ha,hm⟩:=ja o.rows ⟨1,x.id,x.x,x.y,x.txt⟩ hr
 have hb:=oI hr zO zO ha
 have hrows:Cr o v d=some o.rows:=by
  unfold Cr Nu
  rw[Ox zO (by simp only[List.length_nil];omega),AA]
  rfl
 have hadds:Vn 2200000 ⟨[],true,false⟩ o.rows ⟨1,x.id,x.x,x.y,x.txt⟩=some (e,⟨if e=0 then[⟨1,x.id,x.x,x.y,x.txt⟩]else[],true,false⟩):=by
  unfold Vn LV
  rw[show decide (((⟨[],true,false⟩:DZ).ops.length:Int)=64)=false from rfl,B0,show decide ((⟨[],true,false⟩:DZ).ops.length≤1000000)=true from rfl,Cs,AA]
  show cond (!decide ((0:Int)=0)) _ _=_
  rw[show(!decide ((0:Int)=0))=false from rfl,B0,ha,AA]
  by_cases h0:e=0
  rw[zt h0,Cs,if_pos h0]
  rfl
  rw[zf h0,B0,if_neg h0]
 have hput:DO 2200000 T ⟨[],true,false⟩ o v d x=some (e,⟨if e=0 then[⟨1,x.id,x.x,x.y,x.txt⟩]else[],true,false⟩,o,v,d):=by
  unfold DO FW C4
  show((Cr o v d).bind _).bind _=_
  rw[hrows,AA,hadds,AA,AA]
 have hput0:∀ {y:Int×Int×Bj×Aw×Af},Cn 2200000 T o v d [⟨1,x.id,x.x,x.y,x.txt⟩]=some y→DO 2200000 T ⟨[],false,false⟩ o v d x=some (y.2.1,⟨[],false,false⟩,y.2.2.1,y.2.2.2.1,y.2.2.2.2):=by
  intro y hy
  unfold DO FW C4
  show((Cn 2200000 T o v d [⟨1,x.id,x.x,x.y,x.txt⟩]).bind _).bind _=_
  rw[hy,AA,AA]
 by_cases h0:e=0
 obtain⟨hmr,hml⟩:=hm h0
 rw[if_pos h0]at hb hput
 have hmp:So m.length≤12:=by unfold So;split<;>omega
 obtain⟨o',v',d',hcm,hsc,hrw,hrg,hS⟩:=YE (T:=T) (f:=⟨[⟨1,x.id,x.x,x.y,x.txt⟩],true,false⟩) S zO rfl rfl (Nat.zero_lt_one) hb hmp zO hmr
 subst h0
 refine⟨0,_,o',v',d',c+1,hput0 hsc,hput,hcm,hS,?_,by rw[hrw];exact hmr,by rw[hrw];exact hml,hrg⟩
 rw[UInt64.toNat_add]
 show(c.toNat+1)%_≤_
 omega
 rw[if_neg h0]at hb hput
 have hsc:Cn 2200000 T o v d [⟨1,x.id,x.x,x.y,x.txt⟩]=some (0,e,o,v,d):=by
  unfold Cn F4
  rw[S.bad,B0,AA]
  show(Np 2200000 o.rows _).bind _=_
  rw[hb,AA,Be]
  show cond (!decide (e=0)) _ _=_
  rw[zf h0]
  rfl
 exact⟨e,_,o,v,d,c,hput0 hsc,hput,rfl,S,Nat.le_succ _,hr,Nat.le_succ _,rfl⟩
theorem bu(T:List UInt32)(l:List Ak)(hT:T.length=64):I5 2200000 T l=some true:=by
 obtain⟨o,v,d,a,w,c,hm,S,hrw,hrg⟩:=i8 hT
 unfold I5
 rw[kD hT,AA,hm,AA,AA,AA,AA]
 generalize hy:(some ((⟨[],false,false⟩:DZ),o,v,d,(⟨[],false,false⟩:O4),a,w,c),true)=y
 have hy2:y.2=true:=by rw[←hy]
 have key:∀(m i:Nat) (o:Bj) (v:Aw) (d:Af) (c:UInt64),i≤8→8-i<m→Uq T (DL 1) 1 c o v d→c.toNat≤i+1→Di o.rows=true→o.rows.length≤i→o.ring=DL 1→
   Fi 2200000 T l true y y m (⟨[],false,false⟩,o,d,v,⟨[],false,false⟩,o,d,v,(i:Int))=some true:=by
  intro m
  induction m with
  | zero=>intro i _ _ _ _ _ h;omega
  | succ m ih=>
   intro i o v d c hi hm S hc hr hl hrg
   show FB 2200000 T l true y y (Fi 2200000 T l true y y m) ⟨[],false,false⟩ o d v ⟨[],false,false⟩ o d v (i:Int)=some true
   unfold FB
   rw[hy2,Bool.and_true,Bool.and_true]
   by_cases h:i<l.length∧i<8
   have h1:BB l (i:Int)=some l[i]:=by rw[Dp];exact List.getElem?_eq_getElem h.1
   obtain⟨e,ops,o',v',d',c',p1,p2,p3,S',hc',hr',hl',hrg'⟩:=fM S zO hr zO l[i]
   have hbg:Fm ⟨[],false,false⟩ o v d=some (0,⟨[],true,false⟩):=rfl
   have hrows:Cr o' v' d'=some o'.rows:=by
    unfold Cr Nu
    rw[Ox zO (by simp only[List.length_nil];omega),AA]
    rfl
   obtain⟨st,hst⟩:=gZ S' (hrg'.trans hrg)
   rw[zt (show(i:Int)<(l.length:Int) by omega),zt (show(i:Int)<8 by omega),Bool.and_true,Cs,h1,AA,p1,AA,hbg,AA,AA,p2,AA]
   show(DX 2200000 T ⟨ops,true,false⟩ o v d).bind _=_
   rw[p3,AA]
   simp only[decide_true,Bool.not_true,Bool.or_false,hrows,AA,eW o'.rows (show o'.rows.length<2200000 by omega) zO,hst,Bool.and_true]
   show(Sq false (some false)).bind _=_
   rw[show Sq false (some false)=some false from rfl,AA,show Sq false (some false)=some false from rfl,AA,B0,Be,Cm zO zO,show(i:Int)+1=((i+1:Nat):Int) by omega]
   exact ih (i+1) o' v' d' c' zO zO S' zO hr' zO (hrg'.trans hrg)
   have:(decide ((i:Int)<(l.length:Int))&&decide ((i:Int)<8))=false:=by
    rw[Bool.and_eq_false_iff,decide_eq_false_iff_not,decide_eq_false_iff_not]
    omega
   rw[this,B0]
   unfold HM
   rw[hy2]
   rfl
 subst hy
 exact key 2200000 0 o v d 1 zO zO S zD (by rw[hrw];decide +kernel) (by rw[hrw];exact Nat.zero_le _) hrg
end
end Go.Proofs.YtpaohlmgfifebaaGreatDoor
