/- The texts W13, YI, Y1a, Y1, Y2a, Y4, Y5, one behind the other: each bears its own sentence. Conditions: as each says. -/
import Derived.Test.YtddjneafgddlcaaDA1
import Derived.Test.YtddjneafgddlcaaDA2
import Derived.Test.YtddjneafgddlcaaDA3
import Derived.Test.YtddjneafgddlcaaDA4
import Derived.Test.YtddjneafgddlcaaDA5
import Derived.Test.YtddjneafgddlcaaDA6

/- Plain functions of the references and the laws, printed from the loaded program, and the walks that show that the program computes them. Condition: the plain function yields. -/
namespace Go.Proofs.Ytddjneafgddlcaa
open Go
variable {K : Nat → Prop} {w0 : World} {H : List Chunk}

def f_law07_did (n : Nat) (p0 : DevA) (p1 : RDevA) (p2 : OpA) : Option (Bool × DevA × RDevA) :=
  (f_ref07_Filled p2.txt).bind fun y1 =>
  (rem64 (toU64 p2.act) 10).bind fun q1 =>
  ret (decide (q1 = 0)) fun x1 =>
  cond x1
  (
    (f_device_Device_Write p0 p2.page y1).bind fun y2 =>
    (f_ref07_Device_Write p1 p2.page y1).bind fun y3 =>
    ret (decide (y2.1 = y3.1)) fun x2 =>
    some (x2, y2.2, y3.2))
  (
    ret (decide (q1 = 1)) fun x3 =>
    cond x3
    (
      (f_device_Device_Flush p0).bind fun y4 =>
      (f_ref07_Device_Flush n p1).bind fun y5 =>
      ret (decide (y4.1 = y5.1)) fun x4 =>
      some (x4, y4.2, y5.2))
    (
      ret (decide (q1 = 2)) fun x5 =>
      cond x5
      (
        (slcI y1 0 32).bind fun s1 =>
        (f_device_Device_Advance p0 s1).bind fun y6 =>
        (slcI y1 0 32).bind fun s2 =>
        (f_ref07_Device_Advance p1 s2).bind fun y7 =>
        (andG (decide (y6.1 = y7.1)) (y6.2, y7.2) ((f_device_Device_Advance y6.2 p2.txt).bind fun y8 => (f_ref07_Device_Advance y7.2 p2.txt).bind fun y9 => some (decide (y8.1 = y9.1), y8.2, y9.2))).bind fun y10 =>
        some (y10.1, y10.2.1, y10.2.2))
      (
        ret (decide (q1 = 3)) fun x6 =>
        cond x6
        (
          (f_device_Device_Start p0).bind fun y11 =>
          (f_ref07_Device_Start p1).bind fun y12 =>
          ret ((decide (y11.1 = y12.1)) && (decide (y11.2.1 = y12.2.1))) fun x7 =>
          some (x7, y11.2.2, y12.2.2))
        (
          ret (decide (q1 = 4)) fun x8 =>
          cond x8
          (
            (f_device_Device_Cut p0 p2.num).bind fun y13 =>
            (f_ref07_Device_Cut p1 p2.num).bind fun y14 =>
            some (true, y13, y14))
          (
            ret (decide (q1 = 5)) fun x9 =>
            cond x9
            (
              (f_ref07_Device_Wake n p1 p2.fates).bind fun y15 =>
              (f_device_Device_Wake p0 p2.fates).bind fun y16 =>
              ret (decide (y16.1 = 0)) fun x10 =>
              some (x10, y16.2, y15))
            (
              ret (decide (q1 = 6)) fun x11 =>
              cond x11
              (
                (f_device_Device_Put p0 p2.page y1).bind fun y17 =>
                (f_ref07_Device_Put p1 p2.page y1).bind fun y18 =>
                (andG (decide (y17.1 = y18.1)) (y17.2, y18.2) ((f_device_Device_Put y17.2 p2.page p2.txt).bind fun y19 => (f_ref07_Device_Put y18.2 p2.page p2.txt).bind fun y20 => some (decide (y19.1 = y20.1), y19.2, y20.2))).bind fun y21 =>
                some (y21.1, y21.2.1, y21.2.2))
              (
                ret (decide (q1 = 7)) fun x12 =>
                cond x12
                (
                  (f_device_Device_Bad p0 p2.page (decide (0 < p2.num))).bind fun y22 =>
                  (f_ref07_Device_Bad p1 p2.page (decide (0 < p2.num))).bind fun y23 =>
                  ret (decide (y22.1 = y23.1)) fun x13 =>
                  some (x13, y22.2, y23.2))
                (
                  ret (decide (q1 = 8)) fun x14 =>
                  cond x14
                  (
                    (f_device_Device_Read p0 p2.page).bind fun y24 =>
                    (f_ref07_Device_Read p1 p2.page).bind fun y25 =>
                    ret ((decide (y24.1 = y25.1)) && (decide (y24.2 = y25.2))) fun x15 =>
                    some (x15, p0, p1))
                  (
                    (f_device_Device_Write p0 p2.page p2.txt).bind fun y26 =>
                    (f_ref07_Device_Write p1 p2.page p2.txt).bind fun y27 =>
                    ret (decide (y26.1 = y27.1)) fun x16 =>
                    some (x16, y26.2, y27.2))))))))))
set_option maxHeartbeats 4000000 in
set_option maxRecDepth 100000 in
theorem c_law07_did {n : Nat} {b0_ : Nat} {v0x4_ : Value} {m0x5_ : Nat} {m0x6_ : Nat} {p0 : DevA} {b1_ : Nat} {v1x0_ : Value} {v1x1_ : Value} {v1x2_ : Value} {p1 : RDevA} {p2 : OpA} {r : Bool × DevA × RDevA} (h : f_law07_did n p0 p1 p2 = some r) (hx2_ : SlOf K w0 eI 1 p2.lv p2.fates) : Con Try.prog K w0 7 [vP b0_ 0, vP b1_ 0, .agg (encOp p2).toArray] [own b0_ (.cells #[vB p0.off, vB p0.isCut, vI p0.lasts, vI p0.counts, v0x4_, .map (some m0x5_), .map (some m0x6_), vU64 p0.rcnt, vS p0.rtag, vU32 p0.rboots] 60), rowT 9 1 v0x4_ eS p0.blocks, mapC m0x5_ vU32 vS p0.pend, mapC m0x6_ vU32 vB p0.bad, own b1_ (.cells #[v1x0_, v1x1_, v1x2_, vU64 p1.rcnt, vS p1.rtag, vU32 p1.rboots, vI p1.left, vB p1.off] 45), rowT 9 1 v1x0_ eS p1.blk, rowT 9 1 v1x1_ eS p1.pnd, rowT 4 1 v1x2_ eB p1.bads] H (fun u M => u = vB r.1 ∧ M = [own b0_ (.cells #[vB r.2.1.off, vB r.2.1.isCut, vI r.2.1.lasts, vI r.2.1.counts, v0x4_, .map (some m0x5_), .map (some m0x6_), vU64 r.2.1.rcnt, vS r.2.1.rtag, vU32 r.2.1.rboots] 60), rowT 9 1 v0x4_ eS r.2.1.blocks, mapC m0x5_ vU32 vS r.2.1.pend, mapC m0x6_ vU32 vB r.2.1.bad, own b1_ (.cells #[v1x0_, v1x1_, v1x2_, vU64 r.2.2.rcnt, vS r.2.2.rtag, vU32 r.2.2.rboots, vI r.2.2.left, vB r.2.2.off] 45), rowT 9 1 v1x0_ eS r.2.2.blk, rowT 9 1 v1x1_ eS r.2.2.pnd, rowT 4 1 v1x2_ eB r.2.2.bads]) := by
  unfold f_law07_did at h
  refine Con.enter Try.func7 rfl rfl ?_
  refine SX.sr ?_
  refine SL.box ⟨rfl, rfl, rfl, rfl⟩ rfl (fun _ => trivial) fun b1 => ?_
  refine SL.asg ⟨rfl, rfl, rfl, rfl⟩ rfl ?_
  refine SL.nx ?_
  refine SX.sr ?_
  obtain ⟨y1, hy1, h⟩ := bnd h
  refine SL.fa ⟨rfl, rfl, rfl, rfl⟩ rfl fo35_3 ?_
  refine SL.ld ⟨rfl, rfl, rfl, rfl⟩ sc9 rfl (cell_own 0 rfl rfl) ?_
  refine SL.call (vs := [_]) (Hin := []) (Hr := _ :: _ :: _ :: _ :: _ :: _ :: _ :: _ :: _ :: _) ⟨rfl, rfl, rfl, rfl⟩ rfl ⟨rfl, trivial⟩ cal14 rfl rfl (c_ref07_Filled hy1) ?_
  rintro _ _ ⟨rfl, rfl⟩
  refine ⟨trivial, ?_⟩
  refine SL.asg ⟨rfl, rfl, rfl, rfl⟩ rfl ?_
  refine SL.nx ?_
  refine SX.seq ?_
  refine SX.sr ?_
  obtain ⟨q1, hq1, h⟩ := bnd h
  refine SL.fa ⟨rfl, rfl, rfl, rfl⟩ rfl fo35_0 ?_
  refine SL.ld ⟨rfl, rfl, rfl, rfl⟩ sc3 rfl (cell_own 0 rfl rfl) ?_
  refine SL.cv ⟨rfl, rfl, rfl, rfl⟩ rfl (Cv.i_64 ty3 ty64) ?_
  refine SL.bin ⟨rfl, rfl, rfl, rfl⟩ rfl rfl (Bin.mod64O (b := 10) hq1) ?_
  refine SL.nx ?_
  refine SX.block ?_
  refine SX.sr ?_
  obtain ⟨x1, ex1, h⟩ := retE h
  refine SL.bin ⟨rfl, rfl, rfl, rfl⟩ rfl rfl (Bin.eq64 (b := 0)) ?_
  refine SL.asgX (u := vB x1) ⟨rfl, rfl, rfl, rfl⟩ rfl (congrArg vB ex1) ?_
  refine SL.nx ?_
  refine SX.cond rfl (fun hc1 => ?_) (fun hc1 => ?_)
  · skip
    replace h := cT hc1 h
    refine SX.seq ?_
    obtain ⟨y2, hy2, h⟩ := bnd h
    obtain ⟨y3, hy3, h⟩ := bnd h
    obtain ⟨x2, ex2, h⟩ := retE h
    refine SX.drawI mix [0] (Pl.ap [(true, 0), (true, 1), (true, 2), (true, 3), (true, 5), (true, 6), (true, 7), (true, 8), (false, 4)] (.last 9 (Pl.of [(false, 10), (false, 11)]))) (by kernel_rfl) ?_
    refine SL.mv ⟨rfl, rfl, rfl, rfl⟩ rfl ?_
    refine SL.fa ⟨rfl, rfl, rfl, rfl⟩ rfl fo35_1 ?_
    refine SL.ld ⟨rfl, rfl, rfl, rfl⟩ sc32 rfl (cell_own 0 rfl rfl) ?_
    refine SL.mv ⟨rfl, rfl, rfl, rfl⟩ rfl ?_
    refine SL.mv ⟨rfl, rfl, rfl, rfl⟩ rfl ?_
    refine SL.fa ⟨rfl, rfl, rfl, rfl⟩ rfl fo35_1 ?_
    refine SL.ld ⟨rfl, rfl, rfl, rfl⟩ sc32 rfl (cell_own 0 rfl rfl) ?_
    refine SL.mv ⟨rfl, rfl, rfl, rfl⟩ rfl ?_
    refine SL.pick [1, 2, 3, 4, 0] 5 ?_
    refine SL.call (vs := [_, _, _]) (Hin := [_, _, _, _]) (Hr := _ :: _ :: _ :: _ :: _ :: _) ⟨rfl, rfl, rfl, rfl⟩ rfl ⟨rfl, rfl, rfl, trivial⟩ cal13 rfl rfl (c_device_Device_Write hy2) ?_
    rintro _ _ ⟨rfl, rfl⟩
    refine ⟨⟨⟨4, rfl⟩, trivial⟩, ?_⟩
    refine SL.last ?_
    refine SL.pick [5, 6, 7, 8, 0, 1, 2, 3, 4] 9 ?_
    refine SL.call (vs := [_, _, _]) (Hin := [_, _, _, _]) (Hr := _ :: _ :: _ :: _ :: _ :: _) ⟨rfl, rfl, rfl, rfl⟩ rfl ⟨rfl, rfl, rfl, trivial⟩ cal22 rfl rfl (c_ref07_Device_Write hy3) ?_
    rintro _ _ ⟨rfl, rfl⟩
    refine ⟨trivial, ?_⟩
    refine SL.bin ⟨rfl, rfl, rfl, rfl⟩ rfl rfl Bin.eqI ?_
    refine SL.asgX (u := vB x2) ⟨rfl, rfl, rfl, rfl⟩ rfl (congrArg vB ex2) ?_
    refine SL.nx ?_
    refine SX.ret ?_
    refine SQ.blkR ?_
    refine SQ.thnR ?_
    obtain rfl := Option.some.inj h
    exact SQ.fret (res1 rfl rfl) (ret_of (M := [_, _, _, _, _, _, _, _]) ⟨rfl, rfl⟩ fun _ hw => HpOk.pick (H := [_, _, _, _, _, _, _, _, _]) hw [4, 5, 6, 7, 0, 1, 2, 3] 9 rfl)
  · skip
    replace h := cF hc1 h
    refine SX.sr ?_
    obtain ⟨x3, ex3, h⟩ := retE h
    refine SL.bin ⟨rfl, rfl, rfl, rfl⟩ rfl rfl (Bin.eq64 (b := 1)) ?_
    refine SL.asgX (u := vB x3) ⟨rfl, rfl, rfl, rfl⟩ rfl (congrArg vB ex3) ?_
    refine SL.nx ?_
    refine SX.cond rfl (fun hc2 => ?_) (fun hc2 => ?_)
    · skip
      replace h := cT hc2 h
      refine SX.sr ?_
      obtain ⟨y4, hy4, h⟩ := bnd h
      obtain ⟨y5, hy5, h⟩ := bnd h
      obtain ⟨x4, ex4, h⟩ := retE h
      refine SL.mv ⟨rfl, rfl, rfl, rfl⟩ rfl ?_
      refine SL.pick [1, 2, 3, 4, 0] 5 ?_
      refine SL.call (vs := [_]) (Hin := [_, _, _, _]) (Hr := _ :: _ :: _ :: _ :: _ :: _) ⟨rfl, rfl, rfl, rfl⟩ rfl ⟨rfl, trivial⟩ cal16 rfl rfl (c_device_Device_Flush hy4) ?_
      rintro _ _ ⟨rfl, rfl⟩
      refine ⟨trivial, ?_⟩
      refine SL.mv ⟨rfl, rfl, rfl, rfl⟩ rfl ?_
      refine SL.pick [5, 6, 7, 8, 0, 1, 2, 3, 4] 9 ?_
      refine SL.call (vs := [_]) (Hin := [_, _, _, _]) (Hr := _ :: _ :: _ :: _ :: _ :: _) ⟨rfl, rfl, rfl, rfl⟩ rfl ⟨rfl, trivial⟩ cal23 rfl rfl (c_ref07_Device_Flush hy5) ?_
      rintro _ _ ⟨rfl, rfl⟩
      refine ⟨trivial, ?_⟩
      refine SL.bin ⟨rfl, rfl, rfl, rfl⟩ rfl rfl Bin.eqI ?_
      refine SL.asgX (u := vB x4) ⟨rfl, rfl, rfl, rfl⟩ rfl (congrArg vB ex4) ?_
      refine SL.nx ?_
      refine SX.ret ?_
      refine SQ.blkR ?_
      refine SQ.thnR ?_
      obtain rfl := Option.some.inj h
      exact SQ.fret (res1 rfl rfl) (ret_of (M := [_, _, _, _, _, _, _, _]) ⟨rfl, rfl⟩ fun _ hw => HpOk.pick (H := [_, _, _, _, _, _, _, _, _]) hw [4, 5, 6, 7, 0, 1, 2, 3] 9 rfl)
    · skip
      replace h := cF hc2 h
      refine SX.sr ?_
      obtain ⟨x5, ex5, h⟩ := retE h
      refine SL.bin ⟨rfl, rfl, rfl, rfl⟩ rfl rfl (Bin.eq64 (b := 2)) ?_
      refine SL.asgX (u := vB x5) ⟨rfl, rfl, rfl, rfl⟩ rfl (congrArg vB ex5) ?_
      refine SL.nx ?_
      refine SX.cond rfl (fun hc3 => ?_) (fun hc3 => ?_)
      · skip
        replace h := cT hc3 h
        refine SX.seq ?_
        obtain ⟨s1, hs1, h⟩ := bnd h
        obtain ⟨y6, hy6, h⟩ := bnd h
        obtain ⟨s2, hs2, h⟩ := bnd h
        obtain ⟨y7, hy7, h⟩ := bnd h
        obtain ⟨y10, hy10, h⟩ := bnd h
        refine SX.drawI mix [0] (Pl.of [(true, 0), (true, 1), (true, 2), (true, 4), (true, 5), (true, 6), (false, 3), (false, 7), (true, 8), (true, 9), (true, 10), (true, 11), (true, 12), (true, 14), (true, 15), (true, 16), (false, 13), (false, 17), (false, 18), (false, 19), (false, 20)]) (by kernel_rfl) ?_
        refine SL.mv ⟨rfl, rfl, rfl, rfl⟩ rfl ?_
        refine SL.mv ⟨rfl, rfl, rfl, rfl⟩ rfl ?_
        refine SL.slNh hs1 ⟨rfl, rfl, rfl, rfl⟩ ty9 rfl rfl ?_
        refine SL.mv ⟨rfl, rfl, rfl, rfl⟩ rfl ?_
        refine SL.mv ⟨rfl, rfl, rfl, rfl⟩ rfl ?_
        refine SL.slNh hs2 ⟨rfl, rfl, rfl, rfl⟩ ty9 rfl rfl ?_
        refine SL.pick [1, 2, 3, 4, 0] 5 ?_
        refine SL.call (vs := [_, _]) (Hin := [_, _, _, _]) (Hr := _ :: _ :: _ :: _ :: _ :: _) ⟨rfl, rfl, rfl, rfl⟩ rfl ⟨rfl, rfl, trivial⟩ cal24 rfl rfl (c_device_Device_Advance hy6) ?_
        rintro _ _ ⟨rfl, rfl⟩
        refine ⟨⟨⟨4, rfl⟩, trivial⟩, ?_⟩
        refine SL.pick [5, 6, 7, 8, 0, 1, 2, 3, 4] 9 ?_
        refine SL.call (vs := [_, _]) (Hin := [_, _, _, _]) (Hr := _ :: _ :: _ :: _ :: _ :: _) ⟨rfl, rfl, rfl, rfl⟩ rfl ⟨rfl, rfl, trivial⟩ cal25 rfl rfl (c_ref07_Device_Advance hy7) ?_
        rintro _ _ ⟨rfl, rfl⟩
        refine ⟨⟨⟨8, rfl⟩, trivial⟩, ?_⟩
        refine SL.bin ⟨rfl, rfl, rfl, rfl⟩ rfl rfl Bin.eqI ?_
        refine SL.mv ⟨rfl, rfl, rfl, rfl⟩ rfl ?_
        refine SL.andG (Hk := own b1_ (.cells #[v1x0_, v1x1_, v1x2_, vU64 y10.2.2.rcnt, vS y10.2.2.rtag, vU32 y10.2.2.rboots, vI y10.2.2.left, vB y10.2.2.off] 45) :: rowT 9 1 v1x0_ eS y10.2.2.blk :: rowT 9 1 v1x1_ eS y10.2.2.pnd :: rowT 4 1 v1x2_ eB y10.2.2.bads :: own b0_ (.cells #[vB y10.2.1.off, vB y10.2.1.isCut, vI y10.2.1.lasts, vI y10.2.1.counts, v0x4_, .map (some m0x5_), .map (some m0x6_), vU64 y10.2.1.rcnt, vS y10.2.1.rtag, vU32 y10.2.1.rboots] 60) :: rowT 9 1 v0x4_ eS y10.2.1.blocks :: mapC m0x5_ vU32 vS y10.2.1.pend :: mapC m0x6_ vU32 vB y10.2.1.bad :: own b1 (.cells #[vI p2.act, vU32 p2.page, vI p2.num, vS p2.txt, p2.lv] 35) :: H) 54 10 64 hy10 rfl (fun hb hg1 k => ?_) (fun hb e_ k => ?_) ?_
        · skip
          obtain ⟨y8, hy8, hg1⟩ := bnd hg1
          obtain ⟨y9, hy9, hg1⟩ := bnd hg1
          obtain rfl := Option.some.inj hg1
          refine SL.mv ⟨rfl, rfl, rfl, rfl⟩ rfl ?_
          refine SL.fa ⟨rfl, rfl, rfl, rfl⟩ rfl fo35_3 ?_
          refine SL.ld ⟨rfl, rfl, rfl, rfl⟩ sc9 rfl (cell_own 0 rfl rfl) ?_
          refine SL.mv ⟨rfl, rfl, rfl, rfl⟩ rfl ?_
          refine SL.fa ⟨rfl, rfl, rfl, rfl⟩ rfl fo35_3 ?_
          refine SL.ld ⟨rfl, rfl, rfl, rfl⟩ sc9 rfl (cell_own 0 rfl rfl) ?_
          refine SL.pick [4, 5, 6, 7, 0, 1, 2, 3] 8 ?_
          refine SL.call (vs := [_, _]) (Hin := [_, _, _, _]) (Hr := _ :: _ :: _ :: _ :: _ :: _) ⟨rfl, rfl, rfl, rfl⟩ rfl ⟨rfl, rfl, trivial⟩ cal24 rfl rfl (c_device_Device_Advance hy8) ?_
          rintro _ _ ⟨rfl, rfl⟩
          refine ⟨⟨⟨8, rfl⟩, trivial⟩, ?_⟩
          refine SL.pick [4, 5, 6, 7, 0, 1, 2, 3] 8 ?_
          refine SL.call (vs := [_, _]) (Hin := [_, _, _, _]) (Hr := _ :: _ :: _ :: _ :: _ :: _) ⟨rfl, rfl, rfl, rfl⟩ rfl ⟨rfl, rfl, trivial⟩ cal25 rfl rfl (c_ref07_Device_Advance hy9) ?_
          rintro _ _ ⟨rfl, rfl⟩
          refine ⟨⟨⟨8, rfl⟩, trivial⟩, ?_⟩
          refine SL.bin ⟨rfl, rfl, rfl, rfl⟩ rfl rfl Bin.eqI ?_
          refine SL.pk ⟨rfl, rfl, rfl, rfl⟩ rfl rfl ?_
          exact k.mono (by repeat' (first | exact trivial | refine And.intro rfl ?_))
        · skip
          obtain rfl := e_
          refine SL.pass rfl rfl rfl ?_
          refine SL.pass rfl rfl rfl ?_
          refine SL.pass rfl rfl rfl ?_
          refine SL.pass rfl rfl rfl ?_
          refine SL.pass rfl rfl rfl ?_
          refine SL.pass rfl rfl rfl ?_
          refine SL.pass rfl rfl rfl ?_
          refine SL.pass rfl rfl rfl ?_
          refine SL.pass rfl rfl rfl ?_
          refine SL.pk ⟨rfl, rfl, rfl, rfl⟩ rfl rfl ?_
          exact k.mono (by repeat' (first | exact trivial | refine And.intro rfl ?_))
        refine SL.asg ⟨rfl, rfl, rfl, rfl⟩ rfl ?_
        refine SL.nx ?_
        refine SX.ret ?_
        refine SQ.blkR ?_
        refine SQ.thnR ?_
        obtain rfl := Option.some.inj h
        exact SQ.fret (res1 rfl rfl) (ret_of (M := [_, _, _, _, _, _, _, _]) ⟨rfl, rfl⟩ fun _ hw => HpOk.pick (H := [_, _, _, _, _, _, _, _, _]) hw [4, 5, 6, 7, 0, 1, 2, 3] 9 rfl)
      · skip
        replace h := cF hc3 h
        refine SX.sr ?_
        obtain ⟨x6, ex6, h⟩ := retE h
        refine SL.bin ⟨rfl, rfl, rfl, rfl⟩ rfl rfl (Bin.eq64 (b := 3)) ?_
        refine SL.asgX (u := vB x6) ⟨rfl, rfl, rfl, rfl⟩ rfl (congrArg vB ex6) ?_
        refine SL.nx ?_
        refine SX.cond rfl (fun hc4 => ?_) (fun hc4 => ?_)
        · skip
          replace h := cT hc4 h
          refine SX.sr ?_
          obtain ⟨y11, hy11, h⟩ := bnd h
          refine SL.mv ⟨rfl, rfl, rfl, rfl⟩ rfl ?_
          refine SL.pick [1, 2, 3, 4, 0] 5 ?_
          refine SL.call (vs := [_]) (Hin := [_, _, _, _]) (Hr := _ :: _ :: _ :: _ :: _ :: _) ⟨rfl, rfl, rfl, rfl⟩ rfl ⟨rfl, trivial⟩ cal26 rfl rfl (c_device_Device_Start hy11) ?_
          rintro _ _ ⟨rfl, rfl⟩
          refine ⟨trivial, ?_⟩
          refine SL.mv ⟨rfl, rfl, rfl, rfl⟩ rfl ?_
          refine SL.ext ⟨rfl, rfl, rfl, rfl⟩ rfl rfl ?_
          refine SL.ext ⟨rfl, rfl, rfl, rfl⟩ rfl rfl ?_
          refine SL.asg ⟨rfl, rfl, rfl, rfl⟩ rfl ?_
          refine SL.asg ⟨rfl, rfl, rfl, rfl⟩ rfl ?_
          refine SL.nx ?_
          refine SX.sr ?_
          obtain ⟨y12, hy12, h⟩ := bnd h
          refine SL.mv ⟨rfl, rfl, rfl, rfl⟩ rfl ?_
          refine SL.pick [5, 6, 7, 8, 0, 1, 2, 3, 4] 9 ?_
          refine SL.call (vs := [_]) (Hin := [_, _, _, _]) (Hr := _ :: _ :: _ :: _ :: _ :: _) ⟨rfl, rfl, rfl, rfl⟩ rfl ⟨rfl, trivial⟩ cal27 rfl rfl (c_ref07_Device_Start hy12) ?_
          rintro _ _ ⟨rfl, rfl⟩
          refine ⟨trivial, ?_⟩
          refine SL.mv ⟨rfl, rfl, rfl, rfl⟩ rfl ?_
          refine SL.ext ⟨rfl, rfl, rfl, rfl⟩ rfl rfl ?_
          refine SL.ext ⟨rfl, rfl, rfl, rfl⟩ rfl rfl ?_
          refine SL.asg ⟨rfl, rfl, rfl, rfl⟩ rfl ?_
          refine SL.asg ⟨rfl, rfl, rfl, rfl⟩ rfl ?_
          refine SL.nx ?_
          refine SX.sr ?_
          obtain ⟨x7, ex7, h⟩ := retE h
          refine SL.mv ⟨rfl, rfl, rfl, rfl⟩ rfl ?_
          refine SL.mv ⟨rfl, rfl, rfl, rfl⟩ rfl ?_
          refine SL.bin ⟨rfl, rfl, rfl, rfl⟩ rfl rfl Bin.eq32 ?_
          refine SL.mv ⟨rfl, rfl, rfl, rfl⟩ rfl ?_
          refine SL.and (c := decide (y11.2.1 = y12.2.1)) 80 4 84 rfl (fun hb k => ?_) (fun hb k => ?_) ?_
          · skip
            refine SL.mv ⟨rfl, rfl, rfl, rfl⟩ rfl ?_
            refine SL.mv ⟨rfl, rfl, rfl, rfl⟩ rfl ?_
            refine SL.bin ⟨rfl, rfl, rfl, rfl⟩ rfl rfl Bin.eqI ?_
            refine SL.pk ⟨rfl, rfl, rfl, rfl⟩ rfl rfl ?_
            exact k.mono (by repeat' (first | exact trivial | refine And.intro rfl ?_))
          · skip
            refine SL.pass rfl rfl rfl ?_
            refine SL.pass rfl rfl rfl ?_
            refine SL.pass rfl rfl rfl ?_
            refine SL.pk ⟨rfl, rfl, rfl, rfl⟩ rfl rfl ?_
            exact k.mono (by repeat' (first | exact trivial | refine And.intro rfl ?_))
          refine SL.asgX (u := vB x7) ⟨rfl, rfl, rfl, rfl⟩ rfl (congrArg vB ex7) ?_
          refine SL.nx ?_
          refine SX.ret ?_
          refine SQ.blkR ?_
          refine SQ.thnR ?_
          obtain rfl := Option.some.inj h
          exact SQ.fret (res1 rfl rfl) (ret_of (M := [_, _, _, _, _, _, _, _]) ⟨rfl, rfl⟩ fun _ hw => HpOk.pick (H := [_, _, _, _, _, _, _, _, _]) hw [4, 5, 6, 7, 0, 1, 2, 3] 9 rfl)
        · skip
          replace h := cF hc4 h
          refine SX.sr ?_
          obtain ⟨x8, ex8, h⟩ := retE h
          refine SL.bin ⟨rfl, rfl, rfl, rfl⟩ rfl rfl (Bin.eq64 (b := 4)) ?_
          refine SL.asgX (u := vB x8) ⟨rfl, rfl, rfl, rfl⟩ rfl (congrArg vB ex8) ?_
          refine SL.nx ?_
          refine SX.cond rfl (fun hc5 => ?_) (fun hc5 => ?_)
          · skip
            replace h := cT hc5 h
            refine SX.sr ?_
            obtain ⟨y13, hy13, h⟩ := bnd h
            refine SL.mv ⟨rfl, rfl, rfl, rfl⟩ rfl ?_
            refine SL.fa ⟨rfl, rfl, rfl, rfl⟩ rfl fo35_2 ?_
            refine SL.ld ⟨rfl, rfl, rfl, rfl⟩ sc3 rfl (cell_own 0 rfl rfl) ?_
            refine SL.pick [1, 2, 3, 4, 0] 5 ?_
            refine SL.call (vs := [_, _]) (Hin := [_, _, _, _]) (Hr := _ :: _ :: _ :: _ :: _ :: _) ⟨rfl, rfl, rfl, rfl⟩ rfl ⟨rfl, rfl, trivial⟩ cal15 rfl rfl (c_device_Device_Cut hy13) ?_
            rintro _ _ ⟨rfl, rfl⟩
            refine ⟨trivial, ?_⟩
            refine SL.nx ?_
            refine SX.sr ?_
            obtain ⟨y14, hy14, h⟩ := bnd h
            refine SL.mv ⟨rfl, rfl, rfl, rfl⟩ rfl ?_
            refine SL.fa ⟨rfl, rfl, rfl, rfl⟩ rfl fo35_2 ?_
            refine SL.ld ⟨rfl, rfl, rfl, rfl⟩ sc3 rfl (cell_own 4 rfl rfl) ?_
            refine SL.pick [5, 6, 7, 8, 0, 1, 2, 3, 4] 9 ?_
            refine SL.call (vs := [_, _]) (Hin := [_, _, _, _]) (Hr := _ :: _ :: _ :: _ :: _ :: _) ⟨rfl, rfl, rfl, rfl⟩ rfl ⟨rfl, rfl, trivial⟩ cal28 rfl rfl (c_ref07_Device_Cut hy14) ?_
            rintro _ _ ⟨rfl, rfl⟩
            refine ⟨trivial, ?_⟩
            refine SL.nx ?_
            refine SX.sr ?_
            refine SL.asg ⟨rfl, rfl, rfl, rfl⟩ rfl ?_
            refine SL.nx ?_
            refine SX.ret ?_
            refine SQ.blkR ?_
            refine SQ.thnR ?_
            obtain rfl := Option.some.inj h
            exact SQ.fret (res1 rfl rfl) (ret_of (M := [_, _, _, _, _, _, _, _]) ⟨rfl, rfl⟩ fun _ hw => HpOk.pick (H := [_, _, _, _, _, _, _, _, _]) hw [4, 5, 6, 7, 0, 1, 2, 3] 9 rfl)
          · skip
            replace h := cF hc5 h
            refine SX.sr ?_
            obtain ⟨x9, ex9, h⟩ := retE h
            refine SL.bin ⟨rfl, rfl, rfl, rfl⟩ rfl rfl (Bin.eq64 (b := 5)) ?_
            refine SL.asgX (u := vB x9) ⟨rfl, rfl, rfl, rfl⟩ rfl (congrArg vB ex9) ?_
            refine SL.nx ?_
            refine SX.cond rfl (fun hc6 => ?_) (fun hc6 => ?_)
            · skip
              replace h := cT hc6 h
              refine SX.sr ?_
              obtain ⟨y15, hy15, h⟩ := bnd h
              refine SL.mv ⟨rfl, rfl, rfl, rfl⟩ rfl ?_
              refine SL.fa ⟨rfl, rfl, rfl, rfl⟩ rfl fo35_4 ?_
              refine SL.ld ⟨rfl, rfl, rfl, rfl⟩ sc33 rfl (cell_own 0 rfl rfl) ?_
              refine SL.pick [5, 6, 7, 8, 0, 1, 2, 3, 4] 9 ?_
              refine SL.call (vs := [_, _]) (Hin := [_, _, _, _]) (Hr := _ :: _ :: _ :: _ :: _ :: _) ⟨rfl, rfl, rfl, rfl⟩ rfl ⟨rfl, rfl, trivial⟩ cal29 rfl rfl (c_ref07_Device_Wake hy15 hx2_) ?_
              rintro _ _ ⟨rfl, rfl⟩
              refine ⟨trivial, ?_⟩
              refine SL.nx ?_
              refine SX.sr ?_
              obtain ⟨y16, hy16, h⟩ := bnd h
              obtain ⟨x10, ex10, h⟩ := retE h
              refine SL.mv ⟨rfl, rfl, rfl, rfl⟩ rfl ?_
              refine SL.fa ⟨rfl, rfl, rfl, rfl⟩ rfl fo35_4 ?_
              refine SL.ld ⟨rfl, rfl, rfl, rfl⟩ sc33 rfl (cell_own 4 rfl rfl) ?_
              refine SL.pick [5, 6, 7, 8, 0, 1, 2, 3, 4] 9 ?_
              refine SL.call (vs := [_, _]) (Hin := [_, _, _, _]) (Hr := _ :: _ :: _ :: _ :: _ :: _) ⟨rfl, rfl, rfl, rfl⟩ rfl ⟨rfl, rfl, trivial⟩ cal18 rfl rfl (c_device_Device_Wake hy16 hx2_) ?_
              rintro _ _ ⟨rfl, rfl⟩
              refine ⟨trivial, ?_⟩
              refine SL.bin ⟨rfl, rfl, rfl, rfl⟩ rfl rfl Bin.eqI ?_
              refine SL.asgX (u := vB x10) ⟨rfl, rfl, rfl, rfl⟩ rfl (congrArg vB ex10) ?_
              refine SL.nx ?_
              refine SX.ret ?_
              refine SQ.blkR ?_
              refine SQ.thnR ?_
              obtain rfl := Option.some.inj h
              exact SQ.fret (res1 rfl rfl) (ret_of (M := [_, _, _, _, _, _, _, _]) ⟨rfl, rfl⟩ fun _ hw => HpOk.pick (H := [_, _, _, _, _, _, _, _, _]) hw [0, 1, 2, 3, 4, 5, 6, 7] 9 rfl)
            · skip
              replace h := cF hc6 h
              refine SX.sr ?_
              obtain ⟨x11, ex11, h⟩ := retE h
              refine SL.bin ⟨rfl, rfl, rfl, rfl⟩ rfl rfl (Bin.eq64 (b := 6)) ?_
              refine SL.asgX (u := vB x11) ⟨rfl, rfl, rfl, rfl⟩ rfl (congrArg vB ex11) ?_
              refine SL.nx ?_
              refine SX.cond rfl (fun hc7 => ?_) (fun hc7 => ?_)
              · skip
                replace h := cT hc7 h
                refine SX.seq ?_
                obtain ⟨y17, hy17, h⟩ := bnd h
                obtain ⟨y18, hy18, h⟩ := bnd h
                obtain ⟨y21, hy21, h⟩ := bnd h
                refine SX.drawI mix [0] (Pl.of [(true, 0), (true, 1), (true, 2), (true, 3), (true, 5), (true, 6), (true, 7), (true, 8), (false, 4), (false, 9), (true, 10), (true, 11), (true, 12), (true, 13), (true, 14), (true, 15), (true, 16), (true, 18), (true, 19), (true, 20), (true, 21), (true, 22), (false, 17), (false, 23), (false, 24), (false, 25), (false, 26)]) (by kernel_rfl) ?_
                refine SL.mv ⟨rfl, rfl, rfl, rfl⟩ rfl ?_
                refine SL.fa ⟨rfl, rfl, rfl, rfl⟩ rfl fo35_1 ?_
                refine SL.ld ⟨rfl, rfl, rfl, rfl⟩ sc32 rfl (cell_own 0 rfl rfl) ?_
                refine SL.mv ⟨rfl, rfl, rfl, rfl⟩ rfl ?_
                refine SL.mv ⟨rfl, rfl, rfl, rfl⟩ rfl ?_
                refine SL.fa ⟨rfl, rfl, rfl, rfl⟩ rfl fo35_1 ?_
                refine SL.ld ⟨rfl, rfl, rfl, rfl⟩ sc32 rfl (cell_own 0 rfl rfl) ?_
                refine SL.mv ⟨rfl, rfl, rfl, rfl⟩ rfl ?_
                refine SL.pick [1, 2, 3, 4, 0] 5 ?_
                refine SL.call (vs := [_, _, _]) (Hin := [_, _, _, _]) (Hr := _ :: _ :: _ :: _ :: _ :: _) ⟨rfl, rfl, rfl, rfl⟩ rfl ⟨rfl, rfl, rfl, trivial⟩ cal30 rfl rfl (c_device_Device_Put hy17) ?_
                rintro _ _ ⟨rfl, rfl⟩
                refine ⟨⟨⟨4, rfl⟩, trivial⟩, ?_⟩
                refine SL.pick [5, 6, 7, 8, 0, 1, 2, 3, 4] 9 ?_
                refine SL.call (vs := [_, _, _]) (Hin := [_, _, _, _]) (Hr := _ :: _ :: _ :: _ :: _ :: _) ⟨rfl, rfl, rfl, rfl⟩ rfl ⟨rfl, rfl, rfl, trivial⟩ cal31 rfl rfl (c_ref07_Device_Put hy18) ?_
                rintro _ _ ⟨rfl, rfl⟩
                refine ⟨⟨⟨8, rfl⟩, trivial⟩, ?_⟩
                refine SL.bin ⟨rfl, rfl, rfl, rfl⟩ rfl rfl Bin.eqI ?_
                refine SL.mv ⟨rfl, rfl, rfl, rfl⟩ rfl ?_
                refine SL.andG (Hk := own b1_ (.cells #[v1x0_, v1x1_, v1x2_, vU64 y21.2.2.rcnt, vS y21.2.2.rtag, vU32 y21.2.2.rboots, vI y21.2.2.left, vB y21.2.2.off] 45) :: rowT 9 1 v1x0_ eS y21.2.2.blk :: rowT 9 1 v1x1_ eS y21.2.2.pnd :: rowT 4 1 v1x2_ eB y21.2.2.bads :: own b0_ (.cells #[vB y21.2.1.off, vB y21.2.1.isCut, vI y21.2.1.lasts, vI y21.2.1.counts, v0x4_, .map (some m0x5_), .map (some m0x6_), vU64 y21.2.1.rcnt, vS y21.2.1.rtag, vU32 y21.2.1.rboots] 60) :: rowT 9 1 v0x4_ eS y21.2.1.blocks :: mapC m0x5_ vU32 vS y21.2.1.pend :: mapC m0x6_ vU32 vB y21.2.1.bad :: own b1 (.cells #[vI p2.act, vU32 p2.page, vI p2.num, vS p2.txt, p2.lv] 35) :: H) 119 14 133 hy21 rfl (fun hb hg3 k => ?_) (fun hb e_ k => ?_) ?_
                · skip
                  obtain ⟨y19, hy19, hg3⟩ := bnd hg3
                  obtain ⟨y20, hy20, hg3⟩ := bnd hg3
                  obtain rfl := Option.some.inj hg3
                  refine SL.mv ⟨rfl, rfl, rfl, rfl⟩ rfl ?_
                  refine SL.fa ⟨rfl, rfl, rfl, rfl⟩ rfl fo35_1 ?_
                  refine SL.ld ⟨rfl, rfl, rfl, rfl⟩ sc32 rfl (cell_own 0 rfl rfl) ?_
                  refine SL.fa ⟨rfl, rfl, rfl, rfl⟩ rfl fo35_3 ?_
                  refine SL.ld ⟨rfl, rfl, rfl, rfl⟩ sc9 rfl (cell_own 0 rfl rfl) ?_
                  refine SL.mv ⟨rfl, rfl, rfl, rfl⟩ rfl ?_
                  refine SL.fa ⟨rfl, rfl, rfl, rfl⟩ rfl fo35_1 ?_
                  refine SL.ld ⟨rfl, rfl, rfl, rfl⟩ sc32 rfl (cell_own 0 rfl rfl) ?_
                  refine SL.fa ⟨rfl, rfl, rfl, rfl⟩ rfl fo35_3 ?_
                  refine SL.ld ⟨rfl, rfl, rfl, rfl⟩ sc9 rfl (cell_own 0 rfl rfl) ?_
                  refine SL.pick [4, 5, 6, 7, 0, 1, 2, 3] 8 ?_
                  refine SL.call (vs := [_, _, _]) (Hin := [_, _, _, _]) (Hr := _ :: _ :: _ :: _ :: _ :: _) ⟨rfl, rfl, rfl, rfl⟩ rfl ⟨rfl, rfl, rfl, trivial⟩ cal30 rfl rfl (c_device_Device_Put hy19) ?_
                  rintro _ _ ⟨rfl, rfl⟩
                  refine ⟨⟨⟨8, rfl⟩, trivial⟩, ?_⟩
                  refine SL.pick [4, 5, 6, 7, 0, 1, 2, 3] 8 ?_
                  refine SL.call (vs := [_, _, _]) (Hin := [_, _, _, _]) (Hr := _ :: _ :: _ :: _ :: _ :: _) ⟨rfl, rfl, rfl, rfl⟩ rfl ⟨rfl, rfl, rfl, trivial⟩ cal31 rfl rfl (c_ref07_Device_Put hy20) ?_
                  rintro _ _ ⟨rfl, rfl⟩
                  refine ⟨⟨⟨8, rfl⟩, trivial⟩, ?_⟩
                  refine SL.bin ⟨rfl, rfl, rfl, rfl⟩ rfl rfl Bin.eqI ?_
                  refine SL.pk ⟨rfl, rfl, rfl, rfl⟩ rfl rfl ?_
                  exact k.mono (by repeat' (first | exact trivial | refine And.intro rfl ?_))
                · skip
                  obtain rfl := e_
                  refine SL.pass rfl rfl rfl ?_
                  refine SL.pass rfl rfl rfl ?_
                  refine SL.pass rfl rfl rfl ?_
                  refine SL.pass rfl rfl rfl ?_
                  refine SL.pass rfl rfl rfl ?_
                  refine SL.pass rfl rfl rfl ?_
                  refine SL.pass rfl rfl rfl ?_
                  refine SL.pass rfl rfl rfl ?_
                  refine SL.pass rfl rfl rfl ?_
                  refine SL.pass rfl rfl rfl ?_
                  refine SL.pass rfl rfl rfl ?_
                  refine SL.pass rfl rfl rfl ?_
                  refine SL.pass rfl rfl rfl ?_
                  refine SL.pk ⟨rfl, rfl, rfl, rfl⟩ rfl rfl ?_
                  exact k.mono (by repeat' (first | exact trivial | refine And.intro rfl ?_))
                refine SL.asg ⟨rfl, rfl, rfl, rfl⟩ rfl ?_
                refine SL.nx ?_
                refine SX.ret ?_
                refine SQ.blkR ?_
                refine SQ.thnR ?_
                obtain rfl := Option.some.inj h
                exact SQ.fret (res1 rfl rfl) (ret_of (M := [_, _, _, _, _, _, _, _]) ⟨rfl, rfl⟩ fun _ hw => HpOk.pick (H := [_, _, _, _, _, _, _, _, _]) hw [4, 5, 6, 7, 0, 1, 2, 3] 9 rfl)
              · skip
                replace h := cF hc7 h
                refine SX.sr ?_
                obtain ⟨x12, ex12, h⟩ := retE h
                refine SL.bin ⟨rfl, rfl, rfl, rfl⟩ rfl rfl (Bin.eq64 (b := 7)) ?_
                refine SL.asgX (u := vB x12) ⟨rfl, rfl, rfl, rfl⟩ rfl (congrArg vB ex12) ?_
                refine SL.nx ?_
                refine SX.cond rfl (fun hc8 => ?_) (fun hc8 => ?_)
                · skip
                  replace h := cT hc8 h
                  refine SX.seq ?_
                  obtain ⟨y22, hy22, h⟩ := bnd h
                  obtain ⟨y23, hy23, h⟩ := bnd h
                  obtain ⟨x13, ex13, h⟩ := retE h
                  refine SX.drawI mix [0] (Pl.ap [(true, 0), (true, 1), (true, 2), (true, 3), (true, 4), (true, 5), (true, 7), (true, 8), (true, 9), (true, 10), (true, 11), (true, 12), (false, 6)] (.last 13 (Pl.of [(false, 14), (false, 15)]))) (by kernel_rfl) ?_
                  refine SL.mv ⟨rfl, rfl, rfl, rfl⟩ rfl ?_
                  refine SL.fa ⟨rfl, rfl, rfl, rfl⟩ rfl fo35_1 ?_
                  refine SL.ld ⟨rfl, rfl, rfl, rfl⟩ sc32 rfl (cell_own 0 rfl rfl) ?_
                  refine SL.fa ⟨rfl, rfl, rfl, rfl⟩ rfl fo35_2 ?_
                  refine SL.ld ⟨rfl, rfl, rfl, rfl⟩ sc3 rfl (cell_own 0 rfl rfl) ?_
                  refine SL.bin ⟨rfl, rfl, rfl, rfl⟩ rfl rfl Bin.gtI ?_
                  refine SL.mv ⟨rfl, rfl, rfl, rfl⟩ rfl ?_
                  refine SL.fa ⟨rfl, rfl, rfl, rfl⟩ rfl fo35_1 ?_
                  refine SL.ld ⟨rfl, rfl, rfl, rfl⟩ sc32 rfl (cell_own 0 rfl rfl) ?_
                  refine SL.fa ⟨rfl, rfl, rfl, rfl⟩ rfl fo35_2 ?_
                  refine SL.ld ⟨rfl, rfl, rfl, rfl⟩ sc3 rfl (cell_own 0 rfl rfl) ?_
                  refine SL.bin ⟨rfl, rfl, rfl, rfl⟩ rfl rfl Bin.gtI ?_
                  refine SL.pick [1, 2, 3, 4, 0] 5 ?_
                  refine SL.call (vs := [_, _, _]) (Hin := [_, _, _, _]) (Hr := _ :: _ :: _ :: _ :: _ :: _) ⟨rfl, rfl, rfl, rfl⟩ rfl ⟨rfl, rfl, rfl, trivial⟩ cal32 rfl rfl (c_device_Device_Bad hy22) ?_
                  rintro _ _ ⟨rfl, rfl⟩
                  refine ⟨⟨⟨4, rfl⟩, trivial⟩, ?_⟩
                  refine SL.last ?_
                  refine SL.pick [5, 6, 7, 8, 0, 1, 2, 3, 4] 9 ?_
                  refine SL.call (vs := [_, _, _]) (Hin := [_, _, _, _]) (Hr := _ :: _ :: _ :: _ :: _ :: _) ⟨rfl, rfl, rfl, rfl⟩ rfl ⟨rfl, rfl, rfl, trivial⟩ cal33 rfl rfl (c_ref07_Device_Bad hy23) ?_
                  rintro _ _ ⟨rfl, rfl⟩
                  refine ⟨trivial, ?_⟩
                  refine SL.bin ⟨rfl, rfl, rfl, rfl⟩ rfl rfl Bin.eqI ?_
                  refine SL.asgX (u := vB x13) ⟨rfl, rfl, rfl, rfl⟩ rfl (congrArg vB ex13) ?_
                  refine SL.nx ?_
                  refine SX.ret ?_
                  refine SQ.blkR ?_
                  refine SQ.thnR ?_
                  obtain rfl := Option.some.inj h
                  exact SQ.fret (res1 rfl rfl) (ret_of (M := [_, _, _, _, _, _, _, _]) ⟨rfl, rfl⟩ fun _ hw => HpOk.pick (H := [_, _, _, _, _, _, _, _, _]) hw [4, 5, 6, 7, 0, 1, 2, 3] 9 rfl)
                · skip
                  replace h := cF hc8 h
                  refine SX.sr ?_
                  obtain ⟨x14, ex14, h⟩ := retE h
                  refine SL.bin ⟨rfl, rfl, rfl, rfl⟩ rfl rfl (Bin.eq64 (b := 8)) ?_
                  refine SL.asgX (u := vB x14) ⟨rfl, rfl, rfl, rfl⟩ rfl (congrArg vB ex14) ?_
                  refine SL.nx ?_
                  refine SX.cond rfl (fun hc9 => ?_) (fun hc9 => ?_)
                  · skip
                    replace h := cT hc9 h
                    refine SX.sr ?_
                    obtain ⟨y24, hy24, h⟩ := bnd h
                    refine SL.mv ⟨rfl, rfl, rfl, rfl⟩ rfl ?_
                    refine SL.fa ⟨rfl, rfl, rfl, rfl⟩ rfl fo35_1 ?_
                    refine SL.ld ⟨rfl, rfl, rfl, rfl⟩ sc32 rfl (cell_own 0 rfl rfl) ?_
                    refine SL.pick [1, 2, 3, 4, 0] 5 ?_
                    refine SL.call (vs := [_, _]) (Hin := [_, _, _, _]) (Hr := _ :: _ :: _ :: _ :: _ :: _) ⟨rfl, rfl, rfl, rfl⟩ rfl ⟨rfl, rfl, trivial⟩ cal17 rfl rfl (c_device_Device_Read hy24) ?_
                    rintro _ _ ⟨rfl, rfl⟩
                    refine ⟨trivial, ?_⟩
                    refine SL.mv ⟨rfl, rfl, rfl, rfl⟩ rfl ?_
                    refine SL.ext ⟨rfl, rfl, rfl, rfl⟩ rfl rfl ?_
                    refine SL.ext ⟨rfl, rfl, rfl, rfl⟩ rfl rfl ?_
                    refine SL.asg ⟨rfl, rfl, rfl, rfl⟩ rfl ?_
                    refine SL.asg ⟨rfl, rfl, rfl, rfl⟩ rfl ?_
                    refine SL.nx ?_
                    refine SX.sr ?_
                    obtain ⟨y25, hy25, h⟩ := bnd h
                    refine SL.mv ⟨rfl, rfl, rfl, rfl⟩ rfl ?_
                    refine SL.fa ⟨rfl, rfl, rfl, rfl⟩ rfl fo35_1 ?_
                    refine SL.ld ⟨rfl, rfl, rfl, rfl⟩ sc32 rfl (cell_own 4 rfl rfl) ?_
                    refine SL.pick [5, 6, 7, 8, 0, 1, 2, 3, 4] 9 ?_
                    refine SL.call (vs := [_, _]) (Hin := [_, _, _, _]) (Hr := _ :: _ :: _ :: _ :: _ :: _) ⟨rfl, rfl, rfl, rfl⟩ rfl ⟨rfl, rfl, trivial⟩ cal34 rfl rfl (c_ref07_Device_Read hy25) ?_
                    rintro _ _ ⟨rfl, rfl⟩
                    refine ⟨trivial, ?_⟩
                    refine SL.mv ⟨rfl, rfl, rfl, rfl⟩ rfl ?_
                    refine SL.ext ⟨rfl, rfl, rfl, rfl⟩ rfl rfl ?_
                    refine SL.ext ⟨rfl, rfl, rfl, rfl⟩ rfl rfl ?_
                    refine SL.asg ⟨rfl, rfl, rfl, rfl⟩ rfl ?_
                    refine SL.asg ⟨rfl, rfl, rfl, rfl⟩ rfl ?_
                    refine SL.nx ?_
                    refine SX.sr ?_
                    obtain ⟨x15, ex15, h⟩ := retE h
                    refine SL.mv ⟨rfl, rfl, rfl, rfl⟩ rfl ?_
                    refine SL.mv ⟨rfl, rfl, rfl, rfl⟩ rfl ?_
                    refine SL.bin ⟨rfl, rfl, rfl, rfl⟩ rfl rfl Bin.eqS ?_
                    refine SL.mv ⟨rfl, rfl, rfl, rfl⟩ rfl ?_
                    refine SL.and (c := decide (y24.2 = y25.2)) 170 4 174 rfl (fun hb k => ?_) (fun hb k => ?_) ?_
                    · skip
                      refine SL.mv ⟨rfl, rfl, rfl, rfl⟩ rfl ?_
                      refine SL.mv ⟨rfl, rfl, rfl, rfl⟩ rfl ?_
                      refine SL.bin ⟨rfl, rfl, rfl, rfl⟩ rfl rfl Bin.eqI ?_
                      refine SL.pk ⟨rfl, rfl, rfl, rfl⟩ rfl rfl ?_
                      exact k.mono (by repeat' (first | exact trivial | refine And.intro rfl ?_))
                    · skip
                      refine SL.pass rfl rfl rfl ?_
                      refine SL.pass rfl rfl rfl ?_
                      refine SL.pass rfl rfl rfl ?_
                      refine SL.pk ⟨rfl, rfl, rfl, rfl⟩ rfl rfl ?_
                      exact k.mono (by repeat' (first | exact trivial | refine And.intro rfl ?_))
                    refine SL.asgX (u := vB x15) ⟨rfl, rfl, rfl, rfl⟩ rfl (congrArg vB ex15) ?_
                    refine SL.nx ?_
                    refine SX.ret ?_
                    refine SQ.blkR ?_
                    refine SQ.thnR ?_
                    obtain rfl := Option.some.inj h
                    exact SQ.fret (res1 rfl rfl) (ret_of (M := [_, _, _, _, _, _, _, _]) ⟨rfl, rfl⟩ fun _ hw => HpOk.pick (H := [_, _, _, _, _, _, _, _, _]) hw [4, 5, 6, 7, 0, 1, 2, 3] 9 rfl)
                  · skip
                    replace h := cF hc9 h
                    refine SX.skip ?_
                    refine SQ.blk ?_
                    refine SQ.thn ?_
                    refine SX.seq ?_
                    obtain ⟨y26, hy26, h⟩ := bnd h
                    obtain ⟨y27, hy27, h⟩ := bnd h
                    obtain ⟨x16, ex16, h⟩ := retE h
                    refine SX.drawI mix [0] (Pl.ap [(true, 0), (true, 1), (true, 2), (true, 3), (true, 4), (true, 6), (true, 7), (true, 8), (true, 9), (true, 10), (false, 5)] (.last 11 (Pl.of [(false, 12), (false, 13)]))) (by kernel_rfl) ?_
                    refine SL.mv ⟨rfl, rfl, rfl, rfl⟩ rfl ?_
                    refine SL.fa ⟨rfl, rfl, rfl, rfl⟩ rfl fo35_1 ?_
                    refine SL.ld ⟨rfl, rfl, rfl, rfl⟩ sc32 rfl (cell_own 0 rfl rfl) ?_
                    refine SL.fa ⟨rfl, rfl, rfl, rfl⟩ rfl fo35_3 ?_
                    refine SL.ld ⟨rfl, rfl, rfl, rfl⟩ sc9 rfl (cell_own 0 rfl rfl) ?_
                    refine SL.mv ⟨rfl, rfl, rfl, rfl⟩ rfl ?_
                    refine SL.fa ⟨rfl, rfl, rfl, rfl⟩ rfl fo35_1 ?_
                    refine SL.ld ⟨rfl, rfl, rfl, rfl⟩ sc32 rfl (cell_own 0 rfl rfl) ?_
                    refine SL.fa ⟨rfl, rfl, rfl, rfl⟩ rfl fo35_3 ?_
                    refine SL.ld ⟨rfl, rfl, rfl, rfl⟩ sc9 rfl (cell_own 0 rfl rfl) ?_
                    refine SL.pick [1, 2, 3, 4, 0] 5 ?_
                    refine SL.call (vs := [_, _, _]) (Hin := [_, _, _, _]) (Hr := _ :: _ :: _ :: _ :: _ :: _) ⟨rfl, rfl, rfl, rfl⟩ rfl ⟨rfl, rfl, rfl, trivial⟩ cal13 rfl rfl (c_device_Device_Write hy26) ?_
                    rintro _ _ ⟨rfl, rfl⟩
                    refine ⟨⟨⟨4, rfl⟩, trivial⟩, ?_⟩
                    refine SL.last ?_
                    refine SL.pick [5, 6, 7, 8, 0, 1, 2, 3, 4] 9 ?_
                    refine SL.call (vs := [_, _, _]) (Hin := [_, _, _, _]) (Hr := _ :: _ :: _ :: _ :: _ :: _) ⟨rfl, rfl, rfl, rfl⟩ rfl ⟨rfl, rfl, rfl, trivial⟩ cal22 rfl rfl (c_ref07_Device_Write hy27) ?_
                    rintro _ _ ⟨rfl, rfl⟩
                    refine ⟨trivial, ?_⟩
                    refine SL.bin ⟨rfl, rfl, rfl, rfl⟩ rfl rfl Bin.eqI ?_
                    refine SL.asgX (u := vB x16) ⟨rfl, rfl, rfl, rfl⟩ rfl (congrArg vB ex16) ?_
                    refine SL.nx ?_
                    refine SX.ret ?_
                    obtain rfl := Option.some.inj h
                    exact SQ.fret (res1 rfl rfl) (ret_of (M := [_, _, _, _, _, _, _, _]) ⟨rfl, rfl⟩ fun _ hw => HpOk.pick (H := [_, _, _, _, _, _, _, _, _]) hw [4, 5, 6, 7, 0, 1, 2, 3] 9 rfl)

def f_law07_DeviceDoes_j2 (y1 : Bool) : Option Bool :=
  some y1
def f_law07_DeviceDoes_l1_b (n : Nat) (p1 : List OpA) (y1 : Bool) (a1 : Int) (y2 : Option DevA × Int) (nx_f_law07_DeviceDoes_l1 : DevA × RDevA × Int → Option Bool) (o1 : DevA) (o2 : RDevA) (a2 : Int) : Option Bool :=
  cond (((decide (a2 < (p1.length : Int))) && (decide (a2 < 40))) && (decide (y2.2 = 0)))
  (
    (nthI p1 a2).bind fun x1 =>
    (f_law07_did n o1 o2 x1).bind fun y4 =>
    (orO (!y4.1) ((f_device_Device_Image n y4.2.1).bind fun y5 => (f_ref07_Device_Image n y4.2.2).bind fun y6 => (f_ref07_Same n y5 y6).bind fun y7 => some (!y7))).bind fun y8 =>
    (orO y8 ((f_device_Device_Register y4.2.1).bind fun y9 => some (!(decide (y9.cnt = y4.2.2.rcnt) && (decide (y9.tag = y4.2.2.rtag) && (decide (y9.boots = y4.2.2.rboots) && true)))))).bind fun y10 =>
    (orO y10 ((f_device_Device_Blocks y4.2.1).bind fun y11 => some (!decide (y11 = a1)))).bind fun y12 =>
    cond y12
    (
      some false)
    (
      ret (wI (a2 + 1)) fun i_1 =>
      nx_f_law07_DeviceDoes_l1 (y4.2.1, y4.2.2, i_1)))
  (
    f_law07_DeviceDoes_j2 y1)
def f_law07_DeviceDoes_l1 (n : Nat) (p1 : List OpA) (y1 : Bool) (a1 : Int) (y2 : Option DevA × Int) : Nat → (DevA × RDevA × Int) → Option Bool := loopN fun nx x => f_law07_DeviceDoes_l1_b n p1 y1 a1 y2 nx x.1 x.2.1 x.2.2
def f_law07_DeviceDoes_j1 (n : Nat) (p1 : List OpA) (y1 : Bool) (a1 : Int) : Option Bool :=
  (f_device_New a1).bind fun y2 =>
  (y2.1).bind fun d1 =>
  (f_ref07_New n a1).bind fun y3 =>
  (y3.1).bind fun d2 =>
  cond (!decide (y2.2 = y3.2))
  (
    some false)
  (
    f_law07_DeviceDoes_l1 n p1 y1 a1 y2 n (d1, d2, 0))
def f_law07_DeviceDoes (n : Nat) (p0 : Int) (p1 : List OpA) : Option Bool :=
  (f_law07_shown).bind fun y1 =>
  cond ((decide (30 < p0)) && (decide (p0 ≤ 4096)))
  (
    f_law07_DeviceDoes_j1 n p1 y1 30)
  (
    f_law07_DeviceDoes_j1 n p1 y1 p0)
set_option maxHeartbeats 4000000 in
set_option maxRecDepth 100000 in
theorem c_law07_DeviceDoes {n : Nat} {p0 : Int} {v1_ : Value} {p1 : List OpA} {r : Bool} (h : f_law07_DeviceDoes n p0 p1 = some r) (hs1_ : SlOf K w0 encOp 5 v1_ p1) (hx1_ : ∀ x ∈ p1, SlOf K w0 eI 1 x.lv x.fates) : Con Try.prog K w0 3 [vI p0, v1_] [] H (fun u M => u = vB r ∧ M = []) := by
  unfold f_law07_DeviceDoes at h
  refine Con.enter Try.func3 rfl rfl ?_
  refine SX.sr ?_
  refine SL.asg ⟨rfl, rfl, rfl, rfl⟩ rfl ?_
  refine SL.nx ?_
  refine SX.sr ?_
  obtain ⟨y1, hy1, h⟩ := bnd h
  refine SL.call (vs := []) (Hin := []) (Hr := _) ⟨rfl, rfl, rfl, rfl⟩ rfl trivial cal4 rfl rfl (c_law07_shown hy1) ?_
  rintro _ _ ⟨rfl, rfl⟩
  refine ⟨trivial, ?_⟩
  refine SL.asg ⟨rfl, rfl, rfl, rfl⟩ rfl ?_
  refine SL.nx ?_
  refine SX.meetD (α := Int) (fun x => f_law07_DeviceDoes_j1 n p1 y1 x = some r) (fun x => [(0, vI x), (1, v1_), (5, vB y1)]) (fun x => H) ?_ (fun a1 D h => ?_)
  · skip
    refine SX.sr ?_
    refine SL.mv ⟨rfl, rfl, rfl, rfl⟩ rfl ?_
    refine SL.bin ⟨rfl, rfl, rfl, rfl⟩ rfl rfl Bin.gtI ?_
    refine SL.mv ⟨rfl, rfl, rfl, rfl⟩ rfl ?_
    refine SL.and (c := decide (p0 ≤ 4096)) 15 3 18 rfl (fun hb k => ?_) (fun hb k => ?_) ?_
    · skip
      refine SL.mv ⟨rfl, rfl, rfl, rfl⟩ rfl ?_
      refine SL.bin ⟨rfl, rfl, rfl, rfl⟩ rfl rfl Bin.leI ?_
      refine SL.pk ⟨rfl, rfl, rfl, rfl⟩ rfl rfl ?_
      exact k.mono (by repeat' (first | exact trivial | refine And.intro rfl ?_))
    · skip
      refine SL.pass rfl rfl rfl ?_
      refine SL.pass rfl rfl rfl ?_
      refine SL.pk ⟨rfl, rfl, rfl, rfl⟩ rfl rfl ?_
      exact k.mono (by repeat' (first | exact trivial | refine And.intro rfl ?_))
    refine SL.nx ?_
    refine SX.cond rfl (fun hc1 => ?_) (fun hc1 => ?_)
    · skip
      replace h := cT hc1 h
      refine SX.region ?_
      refine SL.asg ⟨rfl, rfl, rfl, rfl⟩ rfl ?_
      refine SL.nil ?_
      exact SQ.midD 30 h (by repeat' (first | exact trivial | refine And.intro rfl ?_)) (fun _ hw => HpOk.pick (H := []) hw [] 0 rfl)
    · skip
      replace h := cF hc1 h
      refine SX.skip ?_
      exact SQ.midD p0 h (by repeat' (first | exact trivial | refine And.intro rfl ?_)) (fun _ hw => HpOk.pick (H := []) hw [] 0 rfl)
  · skip
    unfold f_law07_DeviceDoes_j1 at h
    refine SX.re [(0, vI a1), (1, v1_), (5, vB y1)] (H) ?_ (by repeat' (first | exact trivial | refine And.intro rfl ?_))
    refine SX.sr ?_
    obtain ⟨y2, hy2, h⟩ := bnd h
    obtain ⟨d1, hd1, h⟩ := bnd h
    refine SL.mv ⟨rfl, rfl, rfl, rfl⟩ rfl ?_
    refine SL.call (vs := [_]) (Hin := []) (Hr := _) ⟨rfl, rfl, rfl, rfl⟩ rfl ⟨rfl, trivial⟩ cal5 rfl rfl (c_device_New hy2) ?_
    rintro _ _ (⟨hn, -, -⟩ | ⟨d_, b1, v1, m1, m2, hn, rfl, rfl⟩)
    · rw [hd1] at hn; cases hn
    obtain rfl : d1 = d_ := Option.some.inj (hd1.symm.trans hn)
    refine ⟨trivial, ?_⟩
    refine SL.mv ⟨rfl, rfl, rfl, rfl⟩ rfl ?_
    refine SL.ext ⟨rfl, rfl, rfl, rfl⟩ rfl rfl ?_
    refine SL.ext ⟨rfl, rfl, rfl, rfl⟩ rfl rfl ?_
    refine SL.asg ⟨rfl, rfl, rfl, rfl⟩ rfl ?_
    refine SL.asg ⟨rfl, rfl, rfl, rfl⟩ rfl ?_
    refine SL.nx ?_
    refine SX.sr ?_
    obtain ⟨y3, hy3, h⟩ := bnd h
    obtain ⟨d2, hd2, h⟩ := bnd h
    refine SL.mv ⟨rfl, rfl, rfl, rfl⟩ rfl ?_
    refine SL.call (vs := [_]) (Hin := []) (Hr := _ :: _ :: _ :: _ :: _) ⟨rfl, rfl, rfl, rfl⟩ rfl ⟨rfl, trivial⟩ cal6 rfl rfl (c_ref07_New hy3) ?_
    rintro _ _ (⟨hn, -, -⟩ | ⟨d_, b2, v2, v3, v4, hn, rfl, rfl⟩)
    · rw [hd2] at hn; cases hn
    obtain rfl : d2 = d_ := Option.some.inj (hd2.symm.trans hn)
    refine ⟨trivial, ?_⟩
    refine SL.mv ⟨rfl, rfl, rfl, rfl⟩ rfl ?_
    refine SL.ext ⟨rfl, rfl, rfl, rfl⟩ rfl rfl ?_
    refine SL.ext ⟨rfl, rfl, rfl, rfl⟩ rfl rfl ?_
    refine SL.asg ⟨rfl, rfl, rfl, rfl⟩ rfl ?_
    refine SL.asg ⟨rfl, rfl, rfl, rfl⟩ rfl ?_
    refine SL.nx ?_
    refine SX.seq ?_
    refine SX.sr ?_
    refine SL.mv ⟨rfl, rfl, rfl, rfl⟩ rfl ?_
    refine SL.mv ⟨rfl, rfl, rfl, rfl⟩ rfl ?_
    refine SL.bin ⟨rfl, rfl, rfl, rfl⟩ rfl rfl Bin.neI ?_
    refine SL.nx ?_
    refine SX.cond rfl (fun hc2 => ?_) (fun hc2 => ?_)
    · skip
      replace h := cT hc2 h
      refine SX.sr ?_
      refine SL.asg ⟨rfl, rfl, rfl, rfl⟩ rfl ?_
      refine SL.nx ?_
      refine SX.ret ?_
      refine SQ.thnR ?_
      obtain rfl := Option.some.inj h
      exact SQ.fret (res1 rfl rfl) (ret_of (M := []) ⟨rfl, rfl⟩ fun _ hw => HpOk.pick (H := [_, _, _, _, _, _, _, _]) hw [] 8 rfl)
    · skip
      replace h := cF hc2 h
      refine SX.skip ?_
      refine SQ.thn ?_
      refine SX.meetD (α := Unit) (fun x => f_law07_DeviceDoes_j2 y1 = some r) (fun x => [(5, vB y1)]) (fun x => H) ?_ (fun x D h => ?_)
      · skip
        refine SX.sr ?_
        refine SL.asg ⟨rfl, rfl, rfl, rfl⟩ rfl ?_
        refine SL.nx ?_
        refine SX.block ?_
        refine SX.heap (SX.mono (SX.loop (α := Nat × DevA × RDevA × Int) (fun x => f_law07_DeviceDoes_l1 n p1 y1 a1 y2 x.1 (x.2.1, x.2.2.1, x.2.2.2) = some r) (fun x => [(0, vI a1), (1, v1_), (5, vB y1), (6, vP b1 0), (7, vI y2.2), (8, vP b2 0), (10, vI x.2.2.2)]) (fun x => own b1 (.cells #[vB x.2.1.off, vB x.2.1.isCut, vI x.2.1.lasts, vI x.2.1.counts, v1, .map (some m1), .map (some m2), vU64 x.2.1.rcnt, vS x.2.1.rtag, vU32 x.2.1.rboots] 60) :: rowT 9 1 v1 eS x.2.1.blocks :: mapC m1 vU32 vS x.2.1.pend :: mapC m2 vU32 vB x.2.1.bad :: own b2 (.cells #[v2, v3, v4, vU64 x.2.2.1.rcnt, vS x.2.2.1.rtag, vU32 x.2.2.1.rboots, vI x.2.2.1.left, vB x.2.2.1.off] 45) :: rowT 9 1 v2 eS x.2.2.1.blk :: rowT 9 1 v3 eS x.2.2.1.pnd :: rowT 4 1 v4 eB x.2.2.1.bads :: H) (fun x => x.1) (fun x D h => ?_) (n, d1, d2, 0) h) (by repeat' (first | exact trivial | refine And.intro rfl ?_))) (fun _ hw => HpOk.pick (H := [_, _, _, _, _, _, _, _]) hw [4, 5, 6, 7, 0, 1, 2, 3] 8 rfl)
        obtain ⟨m3, o1, o2, a2⟩ := x
        dsimp only at h
        rcases m3 with _ | m3
        · cases (show (none : Option _) = some r from h)
        replace h : f_law07_DeviceDoes_l1_b n p1 y1 a1 y2 (f_law07_DeviceDoes_l1 n p1 y1 a1 y2 m3) o1 o2 a2 = some r := h
        unfold f_law07_DeviceDoes_l1_b at h
        refine SX.re [(0, vI a1), (1, v1_), (5, vB y1), (6, vP b1 0), (7, vI y2.2), (8, vP b2 0), (10, vI a2)] (own b1 (.cells #[vB o1.off, vB o1.isCut, vI o1.lasts, vI o1.counts, v1, .map (some m1), .map (some m2), vU64 o1.rcnt, vS o1.rtag, vU32 o1.rboots] 60) :: rowT 9 1 v1 eS o1.blocks :: mapC m1 vU32 vS o1.pend :: mapC m2 vU32 vB o1.bad :: own b2 (.cells #[v2, v3, v4, vU64 o2.rcnt, vS o2.rtag, vU32 o2.rboots, vI o2.left, vB o2.off] 45) :: rowT 9 1 v2 eS o2.blk :: rowT 9 1 v3 eS o2.pnd :: rowT 4 1 v4 eB o2.bads :: H) ?_ (by repeat' (first | exact trivial | refine And.intro rfl ?_))
        refine SX.seq ?_
        refine SX.sr ?_
        refine SL.mv ⟨rfl, rfl, rfl, rfl⟩ rfl ?_
        refine SL.mv ⟨rfl, rfl, rfl, rfl⟩ rfl ?_
        refine SL.lenV hs1_ ⟨rfl, rfl, rfl, rfl⟩ ty22 rfl ?_
        refine SL.bin ⟨rfl, rfl, rfl, rfl⟩ rfl rfl Bin.ltI ?_
        refine SL.mv ⟨rfl, rfl, rfl, rfl⟩ rfl ?_
        refine SL.and (c := decide (a2 < 40)) 36 3 39 rfl (fun hb k => ?_) (fun hb k => ?_) ?_
        · skip
          refine SL.mv ⟨rfl, rfl, rfl, rfl⟩ rfl ?_
          refine SL.bin ⟨rfl, rfl, rfl, rfl⟩ rfl rfl Bin.ltI ?_
          refine SL.pk ⟨rfl, rfl, rfl, rfl⟩ rfl rfl ?_
          exact k.mono (by repeat' (first | exact trivial | refine And.intro rfl ?_))
        · skip
          refine SL.pass rfl rfl rfl ?_
          refine SL.pass rfl rfl rfl ?_
          refine SL.pk ⟨rfl, rfl, rfl, rfl⟩ rfl rfl ?_
          exact k.mono (by repeat' (first | exact trivial | refine And.intro rfl ?_))
        refine SL.mv ⟨rfl, rfl, rfl, rfl⟩ rfl ?_
        refine SL.and (c := decide (y2.2 = 0)) 40 3 43 rfl (fun hb k => ?_) (fun hb k => ?_) ?_
        · skip
          refine SL.mv ⟨rfl, rfl, rfl, rfl⟩ rfl ?_
          refine SL.bin ⟨rfl, rfl, rfl, rfl⟩ rfl rfl Bin.eqI ?_
          refine SL.pk ⟨rfl, rfl, rfl, rfl⟩ rfl rfl ?_
          exact k.mono (by repeat' (first | exact trivial | refine And.intro rfl ?_))
        · skip
          refine SL.pass rfl rfl rfl ?_
          refine SL.pass rfl rfl rfl ?_
          refine SL.pk ⟨rfl, rfl, rfl, rfl⟩ rfl rfl ?_
          exact k.mono (by repeat' (first | exact trivial | refine And.intro rfl ?_))
        refine SL.nx ?_
        refine SX.cond rfl (fun hc3 => ?_) (fun hc3 => ?_)
        · skip
          replace h := cT hc3 h
          refine SX.skip ?_
          refine SQ.thn ?_
          refine SX.seq ?_
          refine SX.block ?_
          refine SX.sr ?_
          obtain ⟨x1, hx1, h⟩ := bnd h
          obtain ⟨y4, hy4, h⟩ := bnd h
          refine SL.mv ⟨rfl, rfl, rfl, rfl⟩ rfl ?_
          refine SL.mv ⟨rfl, rfl, rfl, rfl⟩ rfl ?_
          refine SL.mv ⟨rfl, rfl, rfl, rfl⟩ rfl ?_
          refine SL.mv ⟨rfl, rfl, rfl, rfl⟩ rfl ?_
          refine SL.iaN hx1 hs1_ ⟨rfl, rfl, rfl, rfl⟩ ty22 sz35 rfl rfl fun be1 of1 hc4 => ?_
          refine SL.ldA (encOp x1) ⟨rfl, rfl, rfl, rfl⟩ ag35 rfl rfl (cells_kept hc4) ?_
          refine SL.call (vs := [_, _, _]) (Hin := [_, _, _, _, _, _, _, _]) (Hr := _) ⟨rfl, rfl, rfl, rfl⟩ rfl ⟨rfl, rfl, rfl, trivial⟩ cal7 rfl rfl ((c_law07_did hy4 (hx1_ _ (nthI_mem hx1)) :)) ?_
          rintro _ _ ⟨rfl, rfl⟩
          refine ⟨trivial, ?_⟩
          refine SL.asg ⟨rfl, rfl, rfl, rfl⟩ rfl ?_
          refine SL.nx ?_
          refine SX.seq ?_
          obtain ⟨y8, hy8, h⟩ := bnd h
          obtain ⟨y10, hy10, h⟩ := bnd h
          obtain ⟨y12, hy12, h⟩ := bnd h
          refine SX.drawI mix [4] (Pl.of [(true, 0), (true, 1), (true, 2), (true, 3), (true, 5), (false, 4), (false, 6), (false, 7), (true, 8), (true, 9), (true, 10), (true, 11), (true, 13), (true, 14), (true, 15), (true, 16), (false, 12), (true, 17), (true, 18), (true, 19), (true, 20), (true, 22), (false, 21), (false, 23), (false, 24)]) (by kernel_rfl) ?_
          refine SL.mv ⟨rfl, rfl, rfl, rfl⟩ rfl ?_
          refine SL.not ⟨rfl, rfl, rfl, rfl⟩ rfl ?_
          refine SL.mv ⟨rfl, rfl, rfl, rfl⟩ rfl ?_
          refine SL.orN 55 7 62 hy8 rfl (fun hb k => ?_) (fun hb hg4 k => ?_) ?_
          · skip
            refine SL.pass rfl rfl rfl ?_
            refine SL.pass rfl rfl rfl ?_
            refine SL.pass rfl rfl rfl ?_
            refine SL.pass rfl rfl rfl ?_
            refine SL.pass rfl rfl rfl ?_
            refine SL.pass rfl rfl rfl ?_
            refine SL.pk ⟨rfl, rfl, rfl, rfl⟩ rfl rfl ?_
            exact k.mono (by repeat' (first | exact trivial | refine And.intro rfl ?_))
          · skip
            obtain ⟨y5, hy5, hg4⟩ := bnd hg4
            obtain ⟨y6, hy6, hg4⟩ := bnd hg4
            obtain ⟨y7, hy7, hg4⟩ := bnd hg4
            obtain rfl := Option.some.inj hg4
            refine SL.mv ⟨rfl, rfl, rfl, rfl⟩ rfl ?_
            refine SL.mv ⟨rfl, rfl, rfl, rfl⟩ rfl ?_
            refine SL.call (vs := [_]) (Hin := [_, _, _, _]) (Hr := _ :: _ :: _ :: _ :: _) ⟨rfl, rfl, rfl, rfl⟩ rfl ⟨rfl, trivial⟩ cal9 rfl rfl (c_device_Device_Image hy5) ?_
            rintro v5 _ ⟨_, rfl, rfl⟩
            refine ⟨⟨⟨5, rfl⟩, trivial⟩, ?_⟩
            refine SL.pick [5, 6, 7, 8, 0, 1, 2, 3, 4] 9 ?_
            refine SL.call (vs := [_]) (Hin := [_, _, _, _]) (Hr := _ :: _ :: _ :: _ :: _ :: _) ⟨rfl, rfl, rfl, rfl⟩ rfl ⟨rfl, trivial⟩ cal10 rfl rfl (c_ref07_Device_Image hy6) ?_
            rintro v6 _ ⟨_, rfl, rfl⟩
            refine ⟨⟨⟨1, rfl⟩, trivial⟩, ?_⟩
            refine SL.pick [5, 0, 1, 2, 3, 4] 6 ?_
            refine SL.call (vs := [_, _]) (Hin := [_, _]) (Hr := _ :: _ :: _ :: _ :: _ :: _ :: _ :: _ :: _) ⟨rfl, rfl, rfl, rfl⟩ rfl ⟨rfl, rfl, trivial⟩ cal8 rfl rfl (Con.lend (B := [_, _]) (Hin := []) fun K' w1 hk hB => c_ref07_Same hy7 (SlOf.lentT (e := 9) (v := v5) (fun _ => rfl) (hB _ (by simp))) (SlOf.lentT (e := 9) (v := v6) (fun _ => rfl) (hB _ (by simp)))) ?_
            rintro _ _ ⟨_, rfl, rfl, rfl⟩
            refine ⟨⟨⟨2, rfl⟩, trivial⟩, ?_⟩
            refine SL.not ⟨rfl, rfl, rfl, rfl⟩ rfl ?_
            refine SL.pk ⟨rfl, rfl, rfl, rfl⟩ rfl rfl ?_
            exact SL.mono (SL.heap k fun _ hw => HpOk.pick (H := [_, _, _, _, _, _, _, _, _, _]) hw [6, 7, 8, 9, 2, 3, 4, 5] 10 rfl) (by repeat' (first | exact trivial | refine And.intro rfl ?_))
          refine SL.mv ⟨rfl, rfl, rfl, rfl⟩ rfl ?_
          refine SL.orN 63 8 71 hy10 rfl (fun hb k => ?_) (fun hb hg5 k => ?_) ?_
          · skip
            refine SL.pass rfl rfl rfl ?_
            refine SL.pass rfl rfl rfl ?_
            refine SL.pass rfl rfl rfl ?_
            refine SL.pass rfl rfl rfl ?_
            refine SL.pass rfl rfl rfl ?_
            refine SL.pass rfl rfl rfl ?_
            refine SL.pass rfl rfl rfl ?_
            refine SL.pk ⟨rfl, rfl, rfl, rfl⟩ rfl rfl ?_
            exact k.mono (by repeat' (first | exact trivial | refine And.intro rfl ?_))
          · skip
            obtain ⟨y9, hy9, hg5⟩ := bnd hg5
            obtain rfl := Option.some.inj hg5
            refine SL.mv ⟨rfl, rfl, rfl, rfl⟩ rfl ?_
            refine SL.mv ⟨rfl, rfl, rfl, rfl⟩ rfl ?_
            refine SL.nchk ⟨rfl, rfl, rfl, rfl⟩ rfl ?_
            refine SL.fa ⟨rfl, rfl, rfl, rfl⟩ rfl fo45_3 ?_
            refine SL.ldA [vU64 y4.2.2.rcnt, vS y4.2.2.rtag, vU32 y4.2.2.rboots] ⟨rfl, rfl, rfl, rfl⟩ ag41 rfl rfl (cells_own 0 rfl (by rintro (_ | (_ | (_ | j))) u hj <;> first | exact hj | exact absurd hj (by simp))) ?_
            refine SL.call (vs := [_]) (Hin := [_, _, _, _]) (Hr := _ :: _ :: _ :: _ :: _) ⟨rfl, rfl, rfl, rfl⟩ rfl ⟨rfl, trivial⟩ cal11 rfl rfl (c_device_Device_Register hy9) ?_
            rintro _ _ ⟨rfl, rfl⟩
            refine ⟨⟨⟨4, rfl⟩, trivial⟩, ?_⟩
            refine SL.neAgg ⟨rfl, rfl, rfl, rfl⟩ fl41 rfl rfl (flatE_cons rfl rfl (eqV_64 (a := y9.cnt) (b := y4.2.2.rcnt)) (flatE_cons rfl rfl (eqV_S (a := y9.tag) (b := y4.2.2.rtag)) (flatE_cons rfl rfl (eqV_32 (a := y9.boots) (b := y4.2.2.rboots)) flatE_nil))) ?_
            refine SL.pk ⟨rfl, rfl, rfl, rfl⟩ rfl rfl ?_
            exact k.mono (by repeat' (first | exact trivial | refine And.intro rfl ?_))
          refine SL.mv ⟨rfl, rfl, rfl, rfl⟩ rfl ?_
          refine SL.orN 72 5 77 hy12 rfl (fun hb k => ?_) (fun hb hg6 k => ?_) ?_
          · skip
            refine SL.pass rfl rfl rfl ?_
            refine SL.pass rfl rfl rfl ?_
            refine SL.pass rfl rfl rfl ?_
            refine SL.pass rfl rfl rfl ?_
            refine SL.pk ⟨rfl, rfl, rfl, rfl⟩ rfl rfl ?_
            exact k.mono (by repeat' (first | exact trivial | refine And.intro rfl ?_))
          · skip
            obtain ⟨y11, hy11, hg6⟩ := bnd hg6
            obtain rfl := Option.some.inj hg6
            refine SL.mv ⟨rfl, rfl, rfl, rfl⟩ rfl ?_
            refine SL.mv ⟨rfl, rfl, rfl, rfl⟩ rfl ?_
            refine SL.call (vs := [_]) (Hin := [_, _, _, _]) (Hr := _ :: _ :: _ :: _ :: _) ⟨rfl, rfl, rfl, rfl⟩ rfl ⟨rfl, trivial⟩ cal12 rfl rfl (c_device_Device_Blocks hy11) ?_
            rintro _ _ ⟨rfl, rfl⟩
            refine ⟨⟨⟨4, rfl⟩, trivial⟩, ?_⟩
            refine SL.bin ⟨rfl, rfl, rfl, rfl⟩ rfl rfl Bin.neI ?_
            refine SL.pk ⟨rfl, rfl, rfl, rfl⟩ rfl rfl ?_
            exact k.mono (by repeat' (first | exact trivial | refine And.intro rfl ?_))
          refine SL.nx ?_
          refine SX.cond rfl (fun hc5 => ?_) (fun hc5 => ?_)
          · skip
            replace h := cT hc5 h
            refine SX.sr ?_
            refine SL.asg ⟨rfl, rfl, rfl, rfl⟩ rfl ?_
            refine SL.nx ?_
            refine SX.ret ?_
            refine SQ.blkR ?_
            refine SQ.thnR ?_
            refine SQ.lpR ?_
            refine SQ.blkR ?_
            refine SQ.midDR ?_
            obtain rfl := Option.some.inj h
            exact SQ.fret (res1 rfl rfl) (ret_of (M := []) ⟨rfl, rfl⟩ fun _ hw => HpOk.pick (H := [_, _, _, _, _, _, _, _]) hw [] 8 rfl)
          · skip
            replace h := cF hc5 h
            refine SX.skip ?_
            refine SQ.blk ?_
            refine SQ.thn ?_
            refine SX.region ?_
            obtain ⟨i_1, ei_1, h⟩ := retE h
            refine SL.mv ⟨rfl, rfl, rfl, rfl⟩ rfl ?_
            refine SL.bin ⟨rfl, rfl, rfl, rfl⟩ rfl rfl Bin.addW ?_
            refine SL.asgX (u := vI i_1) ⟨rfl, rfl, rfl, rfl⟩ rfl (congrArg vI ei_1) ?_
            refine SL.nil ?_
            exact SQ.again (m3, y4.2.1, y4.2.2, i_1) h (Nat.lt_succ_self _) (by repeat' (first | exact trivial | refine And.intro rfl ?_)) (fun _ hw => HpOk.pick (H := [_, _, _, _, _, _, _, _]) hw [0, 1, 2, 3, 4, 5, 6, 7] 8 rfl)
        · skip
          replace h := cF hc3 h
          refine SX.exit ?_
          refine SQ.thnE ?_
          refine SQ.lpE ?_
          refine SQ.blkE ?_
          exact SQ.midD () h (by repeat' (first | exact trivial | refine And.intro rfl ?_)) (fun _ hw => HpOk.pick (H := [_, _, _, _, _, _, _, _]) hw [] 8 rfl)
      · skip
        unfold f_law07_DeviceDoes_j2 at h
        refine SX.re [(5, vB y1)] (H) ?_ (by repeat' (first | exact trivial | refine And.intro rfl ?_))
        refine SX.sr ?_
        refine SL.mv ⟨rfl, rfl, rfl, rfl⟩ rfl ?_
        refine SL.asg ⟨rfl, rfl, rfl, rfl⟩ rfl ?_
        refine SL.nx ?_
        refine SX.ret ?_
        obtain rfl := Option.some.inj h
        exact SQ.fret (res1 rfl rfl) (ret_of (M := []) ⟨rfl, rfl⟩ fun _ hw => HpOk.pick (H := []) hw [] 0 rfl)

def f_law07_DeviceDoesZ_j2 (y1 : Bool) : Option Bool :=
  some y1
def f_law07_DeviceDoesZ_l1_b (p1 : List OpA) (y1 : Bool) (y2 : Option DevA × Int) (nx_f_law07_DeviceDoesZ_l1 : Int → Option Bool) (a2 : Int) : Option Bool :=
  cond (((decide (a2 < (p1.length : Int))) && (decide (a2 < 40))) && (decide (y2.2 = 0)))
  (
    none)
  (
    f_law07_DeviceDoesZ_j2 y1)
def f_law07_DeviceDoesZ_l1 (p1 : List OpA) (y1 : Bool) (y2 : Option DevA × Int) : Nat → Int → Option Bool := loopN fun nx x => f_law07_DeviceDoesZ_l1_b p1 y1 y2 nx x
def f_law07_DeviceDoesZ_j1 (n : Nat) (p1 : List OpA) (y1 : Bool) (a1 : Int) : Option Bool :=
  (f_device_New a1).bind fun y2 =>
  (nilO y2.1).bind fun u1 =>
  (f_ref07_New n a1).bind fun y3 =>
  (nilO y3.1).bind fun u2 =>
  cond (!decide (y2.2 = y3.2))
  (
    some false)
  (
    f_law07_DeviceDoesZ_l1 p1 y1 y2 n 0)
def f_law07_DeviceDoesZ (n : Nat) (p0 : Int) (p1 : List OpA) : Option Bool :=
  (f_law07_shown).bind fun y1 =>
  cond ((decide (30 < p0)) && (decide (p0 ≤ 4096)))
  (
    f_law07_DeviceDoesZ_j1 n p1 y1 30)
  (
    f_law07_DeviceDoesZ_j1 n p1 y1 p0)
set_option maxRecDepth 100000 in
theorem c_law07_DeviceDoesZ {n : Nat} {p0 : Int} {v1_ : Value} {p1 : List OpA} {r : Bool} (h : f_law07_DeviceDoesZ n p0 p1 = some r) (hs1_ : SlOf K w0 encOp 5 v1_ p1) (hx1_ : ∀ x ∈ p1, SlOf K w0 eI 1 x.lv x.fates) : Con Try.prog K w0 3 [vI p0, v1_] [] H (fun u M => u = vB r ∧ M = []) := by
  unfold f_law07_DeviceDoesZ at h
  refine Con.enter Try.func3 rfl rfl ?_
  refine SX.sr ?_
  refine SL.asg ⟨rfl, rfl, rfl, rfl⟩ rfl ?_
  refine SL.nx ?_
  refine SX.sr ?_
  obtain ⟨y1, hy1, h⟩ := bnd h
  refine SL.call (vs := []) (Hin := []) (Hr := _) ⟨rfl, rfl, rfl, rfl⟩ rfl trivial cal4 rfl rfl (c_law07_shown hy1) ?_
  rintro _ _ ⟨rfl, rfl⟩
  refine ⟨trivial, ?_⟩
  refine SL.asg ⟨rfl, rfl, rfl, rfl⟩ rfl ?_
  refine SL.nx ?_
  refine SX.meetD (α := Int) (fun x => f_law07_DeviceDoesZ_j1 n p1 y1 x = some r) (fun x => [(0, vI x), (1, v1_), (5, vB y1)]) (fun x => H) ?_ (fun a1 D h => ?_)
  · skip
    refine SX.sr ?_
    refine SL.mv ⟨rfl, rfl, rfl, rfl⟩ rfl ?_
    refine SL.bin ⟨rfl, rfl, rfl, rfl⟩ rfl rfl Bin.gtI ?_
    refine SL.mv ⟨rfl, rfl, rfl, rfl⟩ rfl ?_
    refine SL.and (c := decide (p0 ≤ 4096)) 15 3 18 rfl (fun hb k => ?_) (fun hb k => ?_) ?_
    · skip
      refine SL.mv ⟨rfl, rfl, rfl, rfl⟩ rfl ?_
      refine SL.bin ⟨rfl, rfl, rfl, rfl⟩ rfl rfl Bin.leI ?_
      refine SL.pk ⟨rfl, rfl, rfl, rfl⟩ rfl rfl ?_
      exact k.mono (by repeat' (first | exact trivial | refine And.intro rfl ?_))
    · skip
      refine SL.pass rfl rfl rfl ?_
      refine SL.pass rfl rfl rfl ?_
      refine SL.pk ⟨rfl, rfl, rfl, rfl⟩ rfl rfl ?_
      exact k.mono (by repeat' (first | exact trivial | refine And.intro rfl ?_))
    refine SL.nx ?_
    refine SX.cond rfl (fun hc1 => ?_) (fun hc1 => ?_)
    · skip
      replace h := cT hc1 h
      refine SX.region ?_
      refine SL.asg ⟨rfl, rfl, rfl, rfl⟩ rfl ?_
      refine SL.nil ?_
      exact SQ.midD 30 h (by repeat' (first | exact trivial | refine And.intro rfl ?_)) (fun _ hw => HpOk.pick (H := []) hw [] 0 rfl)
    · skip
      replace h := cF hc1 h
      refine SX.skip ?_
      exact SQ.midD p0 h (by repeat' (first | exact trivial | refine And.intro rfl ?_)) (fun _ hw => HpOk.pick (H := []) hw [] 0 rfl)
  · skip
    unfold f_law07_DeviceDoesZ_j1 at h
    refine SX.re [(0, vI a1), (1, v1_), (5, vB y1)] (H) ?_ (by repeat' (first | exact trivial | refine And.intro rfl ?_))
    refine SX.sr ?_
    obtain ⟨y2, hy2, h⟩ := bnd h
    obtain ⟨u1, hu1, h⟩ := bnd h
    refine SL.mv ⟨rfl, rfl, rfl, rfl⟩ rfl ?_
    refine SL.call (vs := [_]) (Hin := []) (Hr := _) ⟨rfl, rfl, rfl, rfl⟩ rfl ⟨rfl, trivial⟩ cal5 rfl rfl (c_device_New hy2) ?_
    rintro _ _ hq
    rcases hq.symm with ⟨d_, _, _, _, _, hn, -, -⟩ | ⟨-, rfl, rfl⟩
    · exact (nilO_no hu1 hn).elim
    refine ⟨trivial, ?_⟩
    refine SL.mv ⟨rfl, rfl, rfl, rfl⟩ rfl ?_
    refine SL.ext ⟨rfl, rfl, rfl, rfl⟩ rfl rfl ?_
    refine SL.ext ⟨rfl, rfl, rfl, rfl⟩ rfl rfl ?_
    refine SL.asg ⟨rfl, rfl, rfl, rfl⟩ rfl ?_
    refine SL.asg ⟨rfl, rfl, rfl, rfl⟩ rfl ?_
    refine SL.nx ?_
    refine SX.sr ?_
    obtain ⟨y3, hy3, h⟩ := bnd h
    obtain ⟨u2, hu2, h⟩ := bnd h
    refine SL.mv ⟨rfl, rfl, rfl, rfl⟩ rfl ?_
    refine SL.call (vs := [_]) (Hin := []) (Hr := _) ⟨rfl, rfl, rfl, rfl⟩ rfl ⟨rfl, trivial⟩ cal6 rfl rfl (c_ref07_New hy3) ?_
    rintro _ _ hq
    rcases hq.symm with ⟨d_, _, _, _, _, hn, -, -⟩ | ⟨-, rfl, rfl⟩
    · exact (nilO_no hu2 hn).elim
    refine ⟨trivial, ?_⟩
    refine SL.mv ⟨rfl, rfl, rfl, rfl⟩ rfl ?_
    refine SL.ext ⟨rfl, rfl, rfl, rfl⟩ rfl rfl ?_
    refine SL.ext ⟨rfl, rfl, rfl, rfl⟩ rfl rfl ?_
    refine SL.asg ⟨rfl, rfl, rfl, rfl⟩ rfl ?_
    refine SL.asg ⟨rfl, rfl, rfl, rfl⟩ rfl ?_
    refine SL.nx ?_
    refine SX.seq ?_
    refine SX.sr ?_
    refine SL.mv ⟨rfl, rfl, rfl, rfl⟩ rfl ?_
    refine SL.mv ⟨rfl, rfl, rfl, rfl⟩ rfl ?_
    refine SL.bin ⟨rfl, rfl, rfl, rfl⟩ rfl rfl Bin.neI ?_
    refine SL.nx ?_
    refine SX.cond rfl (fun hc2 => ?_) (fun hc2 => ?_)
    · skip
      replace h := cT hc2 h
      refine SX.sr ?_
      refine SL.asg ⟨rfl, rfl, rfl, rfl⟩ rfl ?_
      refine SL.nx ?_
      refine SX.ret ?_
      refine SQ.thnR ?_
      obtain rfl := Option.some.inj h
      exact SQ.fret (res1 rfl rfl) (ret_of (M := []) ⟨rfl, rfl⟩ fun _ hw => HpOk.pick (H := []) hw [] 0 rfl)
    · skip
      replace h := cF hc2 h
      refine SX.skip ?_
      refine SQ.thn ?_
      refine SX.meetD (α := Unit) (fun x => f_law07_DeviceDoesZ_j2 y1 = some r) (fun x => [(5, vB y1)]) (fun x => H) ?_ (fun x D h => ?_)
      · skip
        refine SX.sr ?_
        refine SL.asg ⟨rfl, rfl, rfl, rfl⟩ rfl ?_
        refine SL.nx ?_
        refine SX.block ?_
        refine SX.heap (SX.mono (SX.loop (α := Nat × Int) (fun x => f_law07_DeviceDoesZ_l1 p1 y1 y2 x.1 x.2 = some r) (fun x => [(0, vI a1), (1, v1_), (5, vB y1), (6, .pointer none), (7, vI y2.2), (8, .pointer none), (10, vI x.2)]) (fun x => H) (fun x => x.1) (fun x D h => ?_) (n, 0) h) (by repeat' (first | exact trivial | refine And.intro rfl ?_))) (fun _ hw => HpOk.pick (H := []) hw [] 0 rfl)
        obtain ⟨m1, a2⟩ := x
        dsimp only at h
        rcases m1 with _ | m1
        · cases (show (none : Option _) = some r from h)
        replace h : f_law07_DeviceDoesZ_l1_b p1 y1 y2 (f_law07_DeviceDoesZ_l1 p1 y1 y2 m1) a2 = some r := h
        unfold f_law07_DeviceDoesZ_l1_b at h
        refine SX.re [(0, vI a1), (1, v1_), (5, vB y1), (6, .pointer none), (7, vI y2.2), (8, .pointer none), (10, vI a2)] (H) ?_ (by repeat' (first | exact trivial | refine And.intro rfl ?_))
        refine SX.seq ?_
        refine SX.sr ?_
        refine SL.mv ⟨rfl, rfl, rfl, rfl⟩ rfl ?_
        refine SL.mv ⟨rfl, rfl, rfl, rfl⟩ rfl ?_
        refine SL.lenV hs1_ ⟨rfl, rfl, rfl, rfl⟩ ty22 rfl ?_
        refine SL.bin ⟨rfl, rfl, rfl, rfl⟩ rfl rfl Bin.ltI ?_
        refine SL.mv ⟨rfl, rfl, rfl, rfl⟩ rfl ?_
        refine SL.and (c := decide (a2 < 40)) 36 3 39 rfl (fun hb k => ?_) (fun hb k => ?_) ?_
        · skip
          refine SL.mv ⟨rfl, rfl, rfl, rfl⟩ rfl ?_
          refine SL.bin ⟨rfl, rfl, rfl, rfl⟩ rfl rfl Bin.ltI ?_
          refine SL.pk ⟨rfl, rfl, rfl, rfl⟩ rfl rfl ?_
          exact k.mono (by repeat' (first | exact trivial | refine And.intro rfl ?_))
        · skip
          refine SL.pass rfl rfl rfl ?_
          refine SL.pass rfl rfl rfl ?_
          refine SL.pk ⟨rfl, rfl, rfl, rfl⟩ rfl rfl ?_
          exact k.mono (by repeat' (first | exact trivial | refine And.intro rfl ?_))
        refine SL.mv ⟨rfl, rfl, rfl, rfl⟩ rfl ?_
        refine SL.and (c := decide (y2.2 = 0)) 40 3 43 rfl (fun hb k => ?_) (fun hb k => ?_) ?_
        · skip
          refine SL.mv ⟨rfl, rfl, rfl, rfl⟩ rfl ?_
          refine SL.bin ⟨rfl, rfl, rfl, rfl⟩ rfl rfl Bin.eqI ?_
          refine SL.pk ⟨rfl, rfl, rfl, rfl⟩ rfl rfl ?_
          exact k.mono (by repeat' (first | exact trivial | refine And.intro rfl ?_))
        · skip
          refine SL.pass rfl rfl rfl ?_
          refine SL.pass rfl rfl rfl ?_
          refine SL.pk ⟨rfl, rfl, rfl, rfl⟩ rfl rfl ?_
          exact k.mono (by repeat' (first | exact trivial | refine And.intro rfl ?_))
        refine SL.nx ?_
        refine SX.cond rfl (fun hc3 => ?_) (fun hc3 => ?_)
        · skip
          replace h := cT hc3 h
          cases h
        · skip
          replace h := cF hc3 h
          refine SX.exit ?_
          refine SQ.thnE ?_
          refine SQ.lpE ?_
          refine SQ.blkE ?_
          exact SQ.midD () h (by repeat' (first | exact trivial | refine And.intro rfl ?_)) (fun _ hw => HpOk.pick (H := []) hw [] 0 rfl)
      · skip
        unfold f_law07_DeviceDoesZ_j2 at h
        refine SX.re [(5, vB y1)] (H) ?_ (by repeat' (first | exact trivial | refine And.intro rfl ?_))
        refine SX.sr ?_
        refine SL.mv ⟨rfl, rfl, rfl, rfl⟩ rfl ?_
        refine SL.asg ⟨rfl, rfl, rfl, rfl⟩ rfl ?_
        refine SL.nx ?_
        refine SX.ret ?_
        obtain rfl := Option.some.inj h
        exact SQ.fret (res1 rfl rfl) (ret_of (M := []) ⟨rfl, rfl⟩ fun _ hw => HpOk.pick (H := []) hw [] 0 rfl)


end Go.Proofs.Ytddjneafgddlcaa

/- What the plain laws of a device stand on. No condition. -/

/- Plain laws of a device: what its printed operations answer, those that no sort is wanted for. No program's walk in sight. Condition: as each says. -/
namespace Go.Proofs.Ytddjneafgddlcaa
open Go

theorem zeros_eq {n : Int} (h0 : 0 ≤ n) (h1 : n ≤ 1048576) : f_ref07_Zeros n = some (List.replicate n.toNat 0) := by
  unfold f_ref07_Zeros mkI
  rw [if_pos ⟨h0, by omega, by omega⟩, some_bind]
def pOn (d : DevA) : Bool := !(d.isCut && decide (d.lasts = 0) || d.off)
def pTick (d : DevA) : DevA := { d with lasts := if d.isCut then wI (d.lasts - 1) else d.lasts, counts := wI (d.counts + 1) }
def pDead (d : DevA) : DevA := { d with off := true }
theorem spend_eq (d : DevA) : f_device_power_spend d = some (if pOn d then (0, pTick d) else (71, pDead d)) := by
  obtain ⟨off, isCut, lasts, counts, bl, pd, bd, rc, rt, rb⟩ := d
  unfold f_device_power_spend f_device_power_spend_j1 f_device_power_spend_j2
  by_cases h0 : lasts = 0 <;> cases off <;> cases isCut <;> simp [pOn, pTick, pDead, h0]
def okR (d : DevA) (r : DevA) : Int × DevA := if pOn d then (0, r) else (71, pDead d)
theorem has_eq (d : DevA) (p : UInt32) : f_device_Device_has d p = some (decide (p.toNat < d.blocks.length)) := by
  unfold f_device_Device_has
  rw [ret_eq]
  congr 1
  simp
theorem write_eq {d : DevA} {p : UInt32} {s : List UInt8} (hp : p.toNat < d.blocks.length) (hs : s.length = 256) (hm : d.pend.length < 9223372036854775807) : f_device_Device_Write d p s = some (okR d { pTick d with pend := mput d.pend p s }) := by
  unfold f_device_Device_Write f_device_Device_Write_j1
  rw [has_eq, some_bind, ret_eq, decide_eq_true hp, hs]
  simp only [spend_eq, some_bind]
  cases h : pOn d
  · simp [okR, h, pDead]
  · simp only [okR, h, if_true]
    have : (pTick d).pend = d.pend := rfl
    simp [mputI, this, hm]
theorem write_bad {d : DevA} {p : UInt32} {s : List UInt8} (hp : ¬ (p.toNat < d.blocks.length) ∨ s.length ≠ 256) : f_device_Device_Write d p s = some (2, d) := by
  unfold f_device_Device_Write
  rw [has_eq, some_bind, ret_eq]
  have : ((!decide (p.toNat < d.blocks.length)) || !decide ((s.length : Int) = 256)) = true := by
    rcases hp with hp | hp
    · simp [hp]
    · have : ¬ ((s.length : Int) = 256) := by omega
      simp [this]
  rw [this, cond_true]
theorem put_eq {d : DevA} {p : UInt32} {s : List UInt8} (hp : p.toNat < d.blocks.length) (hs : s.length = 256) : f_device_Device_Put d p s = some (0, { d with blocks := d.blocks.set p.toNat s, pend := mdel d.pend p }) := by
  unfold f_device_Device_Put
  rw [has_eq, some_bind, ret_eq, decide_eq_true hp, hs, nthI_nat, List.getElem?_eq_getElem hp]
  simp only [some_bind]
  rw [setI_of rfl hp]
  simp
theorem put_bad {d : DevA} {p : UInt32} {s : List UInt8} (hp : ¬ (p.toNat < d.blocks.length) ∨ s.length ≠ 256) : f_device_Device_Put d p s = some (2, d) := by
  unfold f_device_Device_Put
  rw [has_eq, some_bind, ret_eq]
  have : ((!decide (p.toNat < d.blocks.length)) || !decide ((s.length : Int) = 256)) = true := by
    rcases hp with hp | hp
    · simp [hp]
    · have : ¬ ((s.length : Int) = 256) := by omega
      simp [this]
  rw [this, cond_true]
def hold (d : DevA) (p : UInt32) : List UInt8 := (mget d.pend p).getD (d.blocks.getD p.toNat [])
theorem holds_eq {d : DevA} {p : UInt32} (hp : p.toNat < d.blocks.length) : f_device_Device_holds d p = some (hold d p) := by
  unfold f_device_Device_holds hold
  rw [ret_eq, ret_eq]
  cases h : mget d.pend p with
  | some s => simp
  | none =>
    rw [nthI_nat, List.getElem?_eq_getElem hp]
    simp [hp]
theorem read_eq {d : DevA} {p : UInt32} (hp : p.toNat < d.blocks.length) : f_device_Device_Read d p = some (if d.off then ([], 71) else if (mget d.bad p).getD false then ([], 70) else (hold d p, 0)) := by
  unfold f_device_Device_Read
  rw [has_eq, some_bind, ret_eq, decide_eq_true hp, holds_eq hp]
  cases d.off
  · cases h : (mget d.bad p).getD false <;> simp [ret_eq, h]
  · simp
theorem read_bad {d : DevA} {p : UInt32} (hp : ¬ p.toNat < d.blocks.length) : f_device_Device_Read d p = some ([], 2) := by
  unfold f_device_Device_Read
  rw [has_eq, some_bind, ret_eq, decide_eq_false hp]
  rfl
theorem nodup_u32 {l : List UInt32} {N : Nat} (hn : l.Nodup) (h : ∀ k ∈ l, k.toNat < N) : l.length ≤ N := by
  have h1 : (l.map UInt32.toNat).Nodup := by
    rw [List.nodup_iff_pairwise_ne, List.pairwise_map]
    exact hn.imp fun hne e => hne (UInt32.toNat_inj.1 e)
  have := nodup_len (l' := List.range N) h1 (fun a ha => by
    obtain ⟨k, hk, rfl⟩ := List.mem_map.1 ha
    exact List.mem_range.2 (h k hk))
  simpa using this
theorem new_eq {n : Int} (h1 : 4 ≤ n) (h2 : n ≤ 4096) : f_device_New n = some (some { off := false, isCut := false, lasts := 0, counts := 0, blocks := List.replicate n.toNat (List.replicate 256 0), pend := [], bad := [], rcnt := 0, rtag := List.replicate 32 0, rboots := 0 }, 0) := by
  unfold f_device_New rep0O srepO
  have e : (decide (n < 4) || decide (4096 < n)) = false := by simp; omega
  rw [e, cond_false]
  simp only [some_bind]
  rw [if_pos (by simp), some_bind, if_pos (by simp), some_bind, if_pos ⟨by omega, by omega⟩, some_bind]
  rfl
theorem loop_inv {α β : Type} {F : (α → Option β) → α → Option β} (P : Nat → α → Prop) (N : Nat) {z : Option β} (hs : ∀ i x, i < N → P i x → ∃ x', P (i + 1) x' ∧ ∀ k, F k x = k x') (he : ∀ x, P N x → ∀ k, F k x = z) {m : Nat} (hm : N < m) {x : α} (h0 : P 0 x) : loopN F m x = z := by
  have key : ∀ d i m x, i + d = N → d < m → P i x → loopN F m x = z := by
    intro d
    induction d with
    | zero =>
      intro i m x hi hm hp
      obtain rfl : i = N := by omega
      obtain ⟨m, rfl⟩ : ∃ k, m = k + 1 := ⟨m - 1, by omega⟩
      exact he x hp _
    | succ d ih =>
      intro i m x hi hm hp
      obtain ⟨m, rfl⟩ : ∃ k, m = k + 1 := ⟨m - 1, by omega⟩
      obtain ⟨x', hp', hx⟩ := hs i x (by omega) hp
      show F (loopN F m) x = z
      rw [hx]
      exact ih (i + 1) m x' (by omega) (by omega) hp'
  exact key N 0 m x (by omega) hm h0
theorem dev_eta (d : DevA) : ({ off := d.off, isCut := d.isCut, lasts := d.lasts, counts := d.counts, blocks := d.blocks, pend := d.pend, bad := d.bad, rcnt := d.rcnt, rtag := d.rtag, rboots := d.rboots } : DevA) = d := rfl
theorem okR_on {d r : DevA} (h : pOn d = true) : okR d r = (0, r) := by simp [okR, h]
theorem okR_off {d r : DevA} (h : pOn d = false) : okR d r = (71, pDead d) := by simp [okR, h]
end Go.Proofs.Ytddjneafgddlcaa

/- Plain laws of a device: what its printed operations answer. No program's walk in sight. Condition: at most 2^30 blocks are pending. -/
namespace Go.Proofs.Ytddjneafgddlcaa
open Go

def fillA (s : List UInt8) : List UInt8 := s.take 256 ++ List.replicate (256 - min s.length 256) 0
theorem fillA_length (s : List UInt8) : (fillA s).length = 256 := by simp [fillA]; omega
theorem filled_eq (s : List UInt8) : f_ref07_Filled s = some (fillA s) := by
  have hm : (min (s.length : Int) 256).toNat = min s.length 256 := by omega
  unfold f_ref07_Filled slcI
  rw [if_pos ⟨by omega, by omega, by omega⟩, some_bind]
  simp only [hm, Int.toNat_zero, List.drop_zero, Nat.sub_zero]
  have hl : (s.take (min s.length 256)).length = min s.length 256 := by simp
  rw [hl, wI_eq (by omega) (by omega), zeros_eq (by omega) (by omega), some_bind]
  unfold catS
  rw [if_pos (by simp; omega), some_bind]
  have e1 : s.take (min s.length 256) = s.take 256 := by
    rw [Nat.min_comm, ← List.take_take, List.take_length]
  have e2 : ((256 : Int) - ((min s.length 256 : Nat) : Int)).toNat = 256 - min s.length 256 := by omega
  rw [e1, e2, fillA]

theorem bad_eq {d : DevA} {p : UInt32} {b : Bool} (hp : p.toNat < d.blocks.length) (hm : d.bad.length < 9223372036854775807) : f_device_Device_Bad d p b = some (0, { d with bad := mput d.bad p b }) := by
  unfold f_device_Device_Bad
  rw [has_eq, some_bind, ret_eq, decide_eq_true hp]
  simp [mputI, hm]
theorem bad_bad {d : DevA} {p : UInt32} {b : Bool} (hp : ¬ p.toNat < d.blocks.length) : f_device_Device_Bad d p b = some (2, d) := by
  unfold f_device_Device_Bad
  rw [has_eq, some_bind, ret_eq, decide_eq_false hp]
  rfl
theorem cut_eq {d : DevA} {n : Int} : f_device_Device_Cut d n = some { d with isCut := decide (0 ≤ n), lasts := max n 0 } := by
  unfold f_device_Device_Cut f_device_power_set
  rw [some_bind]
theorem start_eq {d : DevA} (h : d.rboots ≠ 4294967295) : f_device_Device_Start d = some (if pOn d then (d.rboots + 1, 0, { pTick d with rboots := d.rboots + 1 }) else (0, 71, pDead d)) := by
  unfold f_device_Device_Start
  rw [ret_eq, decide_eq_false h, spend_eq]
  simp only [cond_false, some_bind]
  cases h : pOn d
  · simp
  · simp only [if_true]
    rw [show (pTick d).rboots = d.rboots from rfl]
    simp [ret_eq]
theorem advance_eq {d : DevA} {s : List UInt8} (hs : s.length = 32) (h : d.rcnt ≠ 18446744073709551615) : f_device_Device_Advance d s = some (okR d { pTick d with rcnt := d.rcnt + 1, rtag := s }) := by
  unfold f_device_Device_Advance f_device_Device_Advance_j1
  rw [ret_eq, hs, ret_eq, decide_eq_false h, spend_eq]
  simp only [some_bind]
  cases h : pOn d
  · simp [okR, h, pDead]
  · simp only [okR, h, if_true]
    rw [show (pTick d).rcnt = d.rcnt from rfl]
    simp
def flushB (m : List (UInt32 × List UInt8)) (bl : List (List UInt8)) : List (List UInt8) := (keysOf m).foldl (fun b p => b.set p.toNat ((mget m p).getD [])) bl
theorem set_fold_length (f : UInt32 → List UInt8) : ∀ (ks : List UInt32) (bl : List (List UInt8)), (ks.foldl (fun b p => b.set p.toNat (f p)) bl).length = bl.length
  | [], bl => rfl
  | k :: ks, bl => by rw [List.foldl_cons, set_fold_length f ks]; simp
theorem keysOf_mem {α : Type} {m : List (UInt32 × α)} {k : UInt32} : k ∈ keysOf m ↔ k ∈ m.map (·.1) := (List.mergeSort_perm _ _).mem_iff
theorem flush_fold (y : Int × DevA) : ∀ (es : List (Int × UInt32)) (bl : List (List UInt8)), (∀ e ∈ es, e.2.toNat < bl.length) →
    f_device_Device_Flush_r1 y es bl = some (y.1, { y.2 with blocks := es.foldl (fun b e => b.set e.2.toNat ((mget y.2.pend e.2).getD [])) bl, pend := [] })
  | [], bl, _ => rfl
  | e :: es, bl, h => by
    have he := h e (List.mem_cons_self ..)
    show f_device_Device_Flush_r1_b y (f_device_Device_Flush_r1 y es) e bl = _
    unfold f_device_Device_Flush_r1_b
    rw [nthI_nat, List.getElem?_eq_getElem he, some_bind, setI_of rfl he, some_bind]
    exact flush_fold y es _ (fun e' h' => by rw [List.length_set]; exact h e' (List.mem_cons_of_mem _ h'))
theorem enum_fold {β : Type} (g : β → UInt32 → β) : ∀ (ks : List UInt32) (j : Nat) (b : β), ((ks.zipIdx j).map fun q => ((q.2 : Int), q.1)).foldl (fun b e => g b e.2) b = ks.foldl g b
  | [], j, b => rfl
  | k :: ks, j, b => by simp only [List.zipIdx_cons, List.map_cons, List.foldl_cons]; exact enum_fold g ks (j + 1) _
theorem enumU_mem {ks : List UInt32} {e : Int × UInt32} (h : e ∈ enumU ks) : e.2 ∈ ks := by
  obtain ⟨q, hq, rfl⟩ := List.mem_map.1 h
  obtain ⟨_, _, h2⟩ := List.mem_zipIdx hq
  rw [h2]
  exact List.getElem_mem _
theorem flush_eq {d : DevA} (hl : d.pend.length ≤ 1073741824) (hk : ∀ q ∈ d.pend, q.1.toNat < d.blocks.length) : f_device_Device_Flush d = some (okR d { pTick d with blocks := flushB d.pend d.blocks, pend := [] }) := by
  unfold f_device_Device_Flush
  rw [spend_eq, some_bind]
  cases h : pOn d
  · simp [okR, h, f_device_Device_Flush_j1, pDead]
  · simp only [okR, h, if_true, decide_true, cond_true, waitingO, some_bind]
    have hp : (pTick d).pend = d.pend := rfl
    have hb : (pTick d).blocks = d.blocks := rfl
    unfold waitsO
    rw [hp, if_pos hl, some_bind, flush_fold _ _ _ (fun e he => ?_)]
    · simp only [hp, hb]
      rw [show (enumU (keysOf d.pend)).foldl (fun b e => b.set e.2.toNat ((mget d.pend e.2).getD [])) d.blocks = flushB d.pend d.blocks from enum_fold (fun (b : List (List UInt8)) p => b.set p.toNat ((mget d.pend p).getD [])) (keysOf d.pend) 0 d.blocks]
    · have := keysOf_mem.1 (enumU_mem he)
      obtain ⟨q, hq, e1⟩ := List.mem_map.1 this
      rw [hb, ← e1]
      exact hk q hq
/-- one pending block at a power's return -/
def wstep (m : List (UInt32 × List UInt8)) (fs : List Int) (b : List (List UInt8)) (e : Int × UInt32) : List (List UInt8) :=
  if 1 ≤ fs.getD e.1.toNat 0 ∧ fs.getD e.1.toNat 0 ≤ 4 then b.set e.2.toNat (((mget m e.2).getD []).take (64 * (fs.getD e.1.toNat 0).toNat) ++ (b.getD e.2.toNat []).drop (64 * (fs.getD e.1.toNat 0).toNat)) else b
def wakeB (m : List (UInt32 × List UInt8)) (fs : List Int) (bl : List (List UInt8)) : List (List UInt8) := (enumU (keysOf m)).foldl (wstep m fs) bl
theorem wstep_length (m : List (UInt32 × List UInt8)) (fs : List Int) (b : List (List UInt8)) (e : Int × UInt32) : (wstep m fs b e).length = b.length := by
  unfold wstep
  split
  · simp
  · rfl
theorem wstep_256 {m : List (UInt32 × List UInt8)} {fs : List Int} {b : List (List UInt8)} {e : Int × UInt32} (hm : ((mget m e.2).getD []).length = 256) (hp : e.2.toNat < b.length) (hb : ∀ s ∈ b, s.length = 256) : ∀ s ∈ wstep m fs b e, s.length = 256 := by
  unfold wstep
  split
  · rename_i h
    intro s hs
    rcases List.mem_or_eq_of_mem_set hs with hs | rfl
    · exact hb s hs
    · have h1 : (b.getD e.2.toNat []).length = 256 := by
        rw [getD_lt _ hp]
        exact hb _ (List.getElem_mem _)
      rw [List.length_append, List.length_take, List.length_drop, hm, h1]
      omega
  · exact hb
theorem wake_fold (d : DevA) (fs : List Int) : ∀ (es : List (Int × UInt32)) (bl : List (List UInt8)), (∀ e ∈ es, 0 ≤ e.1 ∧ e.2.toNat < bl.length ∧ ((mget d.pend e.2).getD []).length = 256) → (∀ s ∈ bl, s.length = 256) →
    f_device_Device_Wake_r1 d fs es bl = some (0, { d with off := false, isCut := false, lasts := 0, blocks := es.foldl (wstep d.pend fs) bl, pend := [] })
  | [], bl, _, _ => rfl
  | e :: es, bl, h, hb => by
    obtain ⟨h0, he, hm⟩ := h e (List.mem_cons_self ..)
    have ih := wake_fold d fs es (wstep d.pend fs bl e) (fun e' h' => by rw [wstep_length]; exact h e' (List.mem_cons_of_mem _ h')) (wstep_256 hm he hb)
    show f_device_Device_Wake_r1_b d fs (f_device_Device_Wake_r1 d fs es) e bl = _
    rw [List.foldl_cons, ← ih]
    unfold f_device_Device_Wake_r1_b
    obtain ⟨i, p⟩ := e
    dsimp only at h0 he hm ⊢
    obtain ⟨k, rfl⟩ : ∃ k : Nat, i = (k : Int) := ⟨i.toNat, by omega⟩
    have hg : (fs.getD (k : Int).toNat 0) = fs.getD k 0 := by simp
    by_cases hk : k < fs.length
    · have e1 : nthI fs (k : Int) = some (fs.getD k 0) := by rw [nthI_nat, List.getElem?_eq_getElem hk, getD_lt _ hk]
      have e0 : decide ((fs.length : Int) ≤ (k : Int)) = false := decide_eq_false (by omega)
      rw [e0, e1]
      unfold wstep
      dsimp only
      rw [hg]
      generalize fs.getD k 0 = t
      by_cases h1 : t < 1
      · have : ¬ (1 ≤ t ∧ t ≤ 4) := by omega
        simp [orO, h1, this]
      · by_cases h4 : 4 < t
        · have : ¬ (1 ≤ t ∧ t ≤ 4) := by omega
          simp [orO, h1, h4, this]
        · have h14 : 1 ≤ t ∧ t ≤ 4 := by omega
          have hb1 : (bl.getD p.toNat []).length = 256 := by
            rw [getD_lt _ he]
            exact hb _ (List.getElem_mem _)
          have e2 : nthI bl (p.toNat : Int) = some (bl.getD p.toNat []) := by rw [nthI_nat, List.getElem?_eq_getElem he, getD_lt _ he]
          rw [if_pos h14]
          generalize (mget d.pend p).getD [] = q at hm ⊢
          generalize bl.getD p.toNat [] = u at hb1 e2 ⊢
          have hw : wI (t * 64) = t * 64 := wI_eq (by omega) (by omega)
          have ht : (t * 64).toNat = 64 * t.toNat := by omega
          have e3 : slcI q 0 (t * 64) = some (q.take (64 * t.toNat)) := by
            unfold slcI
            rw [if_pos ⟨by omega, by omega, by omega⟩, ht]
            simp
          have e4 : slcI u (t * 64) (u.length : Int) = some (u.drop (64 * t.toNat)) := by
            unfold slcI
            rw [if_pos ⟨by omega, by omega, by omega⟩, ht]
            rw [List.take_of_length_le (by simp)]
          have e5 : catS (q.take (64 * t.toNat)) (u.drop (64 * t.toNat)) = some (q.take (64 * t.toNat) ++ u.drop (64 * t.toNat)) := by
            unfold catS
            rw [if_pos (by simp; omega)]
          simp only [orO, h1, h4, decide_false, some_bind, cond_false, ret_eq, hw, e2, e3, e4, e5]
          rw [setI_of rfl he]
          rfl
    · have e0 : decide ((fs.length : Int) ≤ (k : Int)) = true := decide_eq_true (by omega)
      have e9 : fs.getD k 0 = 0 := by simp [List.getElem?_eq_none (by omega : fs.length ≤ k)]
      rw [e0]
      unfold wstep
      dsimp only
      rw [hg, e9]
      simp [orO]
theorem enumU_nonneg {ks : List UInt32} {e : Int × UInt32} (h : e ∈ enumU ks) : 0 ≤ e.1 := by
  obtain ⟨q, hq, rfl⟩ := List.mem_map.1 h
  simp
/-- what lies in a device's memory -/
structure Inv (N : Nat) (d : DevA) : Prop where
  blen : d.blocks.length = N
  b256 : ∀ s ∈ d.blocks, s.length = 256
  knd : (d.pend.map (·.1)).Nodup
  klt : ∀ q ∈ d.pend, q.1.toNat < N ∧ q.2.length = 256
theorem Inv.plen {N : Nat} {d : DevA} (I : Inv N d) : d.pend.length ≤ N := by
  have := nodup_u32 I.knd (fun k hk => by
    obtain ⟨q, hq, rfl⟩ := List.mem_map.1 hk
    exact (I.klt q hq).1)
  simpa using this
theorem Inv.get256 {N : Nat} {d : DevA} (I : Inv N d) {p : UInt32} (h : p ∈ d.pend.map (·.1)) : ((mget d.pend p).getD []).length = 256 := by
  obtain ⟨q, hq, rfl⟩ := List.mem_map.1 h
  rw [mget_some I.knd hq]
  exact (I.klt q hq).2
theorem wake_eq {N : Nat} {d : DevA} {fs : List Int} (I : Inv N d) (hN : N ≤ 1073741824) : f_device_Device_Wake d fs = some (0, { d with off := false, isCut := false, lasts := 0, blocks := wakeB d.pend fs d.blocks, pend := [] }) := by
  unfold f_device_Device_Wake waitingO waitsO
  have := I.plen
  rw [some_bind, if_pos (by omega), some_bind]
  exact wake_fold d fs _ _ (fun e he => by
    have h1 := keysOf_mem.1 (enumU_mem he)
    refine ⟨enumU_nonneg he, ?_, I.get256 h1⟩
    obtain ⟨q, hq, e1⟩ := List.mem_map.1 h1
    rw [← e1, I.blen]
    exact (I.klt q hq).1) I.b256
theorem Inv.flush {N : Nat} {d : DevA} (I : Inv N d) (hN : N ≤ 1073741824) : f_device_Device_Flush d = some (okR d { pTick d with blocks := flushB d.pend d.blocks, pend := [] }) :=
  flush_eq (Nat.le_trans I.plen hN) (fun q hq => by rw [I.blen]; exact (I.klt q hq).1)
theorem Inv.of {N : Nat} {d d' : DevA} (I : Inv N d) (h1 : d'.blocks = d.blocks) (h2 : d'.pend = d.pend) : Inv N d' := ⟨by rw [h1]; exact I.blen, by rw [h1]; exact I.b256, by rw [h2]; exact I.knd, by rw [h2]; exact I.klt⟩
theorem Inv.put {N : Nat} {d d' : DevA} {p : UInt32} {s : List UInt8} (I : Inv N d) (hp : p.toNat < N) (hs : s.length = 256) (h1 : d'.blocks = d.blocks) (h2 : d'.pend = mput d.pend p s) : Inv N d' :=
  ⟨by rw [h1]; exact I.blen, by rw [h1]; exact I.b256, by rw [h2]; exact mput_nodup I.knd, by
    rw [h2]
    intro q hq
    rcases List.mem_cons.1 hq with rfl | hq
    · exact ⟨hp, hs⟩
    · exact I.klt q (List.mem_filter.1 hq).1⟩
end Go.Proofs.Ytddjneafgddlcaa

/- What the laws of layer 7 begin with, of the plain functions. No program's walk in sight. -/
namespace Go.Proofs.Ytddjneafgddlcaa
open Go

def zB : List UInt8 := List.replicate 256 0
def zT : List UInt8 := List.replicate 32 0
theorem zB_length : zB.length = 256 := by rw [zB, List.length_replicate]
theorem zT_length : zT.length = 32 := by rw [zT, List.length_replicate]
/-- a device whose register was not touched -/
abbrev D7 (off isCut : Bool) (lasts counts : Int) (bl : List (List UInt8)) (pd : List (UInt32 × List UInt8)) (bd : List (UInt32 × Bool)) : DevA := { off := off, isCut := isCut, lasts := lasts, counts := counts, blocks := bl, pend := pd, bad := bd, rcnt := 0, rtag := zT, rboots := 0 }
theorem new4 : f_device_New 4 = some (some (D7 false false 0 0 (List.replicate 4 zB) [] []), 0) := new_eq (by omega) (by omega)
theorem new8 : f_device_New 8 = some (some (D7 false false 0 0 (List.replicate 8 zB) [] []), 0) := new_eq (by omega) (by omega)
theorem keys1 {α : Type} (k : UInt32) (s : α) : keysOf [(k, s)] = [k] := by simp [keysOf]
theorem keys0 {α : Type} : keysOf ([] : List (UInt32 × α)) = [] := by simp [keysOf]
theorem mget1 {α : Type} (k : UInt32) (s : α) : mget [(k, s)] k = some s := by simp [mget]
theorem wake0 (fs : List Int) (bl : List (List UInt8)) : wakeB [] fs bl = bl := by unfold wakeB; rw [keys0]; rfl
theorem wake1 (k : UInt32) (s : List UInt8) (t : Int) (bl : List (List UInt8)) : wakeB [(k, s)] [t] bl = if 1 ≤ t ∧ t ≤ 4 then bl.set k.toNat (s.take (64 * t.toNat) ++ (bl.getD k.toNat []).drop (64 * t.toNat)) else bl := by
  unfold wakeB
  rw [keys1]
  show wstep [(k, s)] [t] bl (((0 : Nat) : Int), k) = _
  unfold wstep
  simp [mget1]
theorem inv_nil {N : Nat} {off isCut : Bool} {lasts counts : Int} {bl : List (List UInt8)} {bd : List (UInt32 × Bool)} (h1 : bl.length = N) (h2 : ∀ s ∈ bl, s.length = 256) : Inv N (D7 off isCut lasts counts bl [] bd) :=
  ⟨h1, h2, List.nodup_nil, fun q hq => by cases hq⟩
theorem inv_one {N : Nat} {off isCut : Bool} {lasts counts : Int} {bl : List (List UInt8)} {bd : List (UInt32 × Bool)} {k : UInt32} {s : List UInt8} (h1 : bl.length = N) (h2 : ∀ s ∈ bl, s.length = 256) (hk : k.toNat < N) (hs : s.length = 256) : Inv N (D7 off isCut lasts counts bl [(k, s)] bd) :=
  ⟨h1, h2, by simp, fun q hq => by obtain rfl := List.mem_singleton.1 hq; exact ⟨hk, hs⟩⟩
theorem zBs (n : Nat) : (List.replicate n zB).length = n ∧ ∀ s ∈ List.replicate n zB, s.length = 256 := ⟨List.length_replicate .., fun s hs => by rw [List.eq_of_mem_replicate hs]; exact zB_length⟩
theorem fill2 : (fillA [97, 98]).take 2 = [97, 98] := by
  unfold fillA
  rw [List.take_append_of_le_length (by simp)]
  rfl
theorem write_on {l c : Int} {bl : List (List UInt8)} {pd : List (UInt32 × List UInt8)} {bd : List (UInt32 × Bool)} {p : UInt32} {s : List UInt8} (hp : p.toNat < bl.length) (hs : s.length = 256) (hm : pd.length < 9223372036854775807) :
    f_device_Device_Write (D7 false false l c bl pd bd) p s = some (0, D7 false false l (wI (c + 1)) bl (mput pd p s) bd) := by
  rw [write_eq hp hs hm]
  simp [okR, pOn, pTick]
theorem flush_off {c : Int} {N : Nat} {bl : List (List UInt8)} {pd : List (UInt32 × List UInt8)} {bd : List (UInt32 × Bool)} (I : Inv N (D7 false true 0 c bl pd bd)) (hN : N ≤ 1073741824) :
    f_device_Device_Flush (D7 false true 0 c bl pd bd) = some (71, D7 true true 0 c bl pd bd) := by
  rw [I.flush hN]
  simp [okR, pOn, pDead]
theorem mput_nil {κ α : Type} [DecidableEq κ] (k : κ) (a : α) : mput ([] : List (κ × α)) k a = [(k, a)] := rfl
theorem read_on {isCut : Bool} {l c : Int} {bl : List (List UInt8)} {pd : List (UInt32 × List UInt8)} {p : UInt32} (hp : p.toNat < bl.length) :
    f_device_Device_Read (D7 false isCut l c bl pd []) p = some (hold (D7 false isCut l c bl pd []) p, 0) := by
  rw [read_eq hp]
  simp [mget]
theorem read_off {isCut : Bool} {l c : Int} {bl : List (List UInt8)} {pd : List (UInt32 × List UInt8)} {bd : List (UInt32 × Bool)} {p : UInt32} (hp : p.toNat < bl.length) :
    f_device_Device_Read (D7 true isCut l c bl pd bd) p = some ([], 71) := by
  rw [read_eq hp]
  simp
theorem p_shown : f_law07_shown = some true := by
  unfold f_law07_shown
  rw [new4, some_bind, some_bind, filled_eq, some_bind]
  have hF := fillA_length [97, 98]
  have h2 := fill2
  obtain ⟨hb1, hb2⟩ := zBs 4
  generalize fillA [97, 98] = F at hF h2 ⊢
  generalize List.replicate 4 zB = bl at hb1 hb2 ⊢
  rw [write_on (by rw [hb1]; decide) hF (by simp), some_bind, mput_nil]
  dsimp only
  generalize wI (0 + 1) = c
  rw [cut_eq, some_bind]
  show (f_device_Device_Flush (D7 false true 0 c bl [(1, F)] [])).bind _ = _
  rw [flush_off (inv_one hb1 hb2 (by decide) hF) (by omega), some_bind]
  dsimp only
  rw [read_off (by rw [hb1]; decide)]
  show (f_device_Device_Wake (D7 true true 0 c bl [(1, F)] []) [2]).bind _ = _
  rw [wake_eq (inv_one hb1 hb2 (by decide) hF) (by omega), wake1, if_pos ⟨by omega, by omega⟩]
  show (f_device_Device_Read (D7 false false 0 c (bl.set 1 (F.take 128 ++ (bl.getD 1 []).drop 128)) [] []) 1).bind _ = _
  rw [read_on (by rw [List.length_set, hb1]; decide)]
  have hg : (bl.getD 1 []).length = 256 := by rw [getD_lt _ (by omega)]; exact hb2 _ (List.getElem_mem _)
  have hh : hold (D7 false false 0 c (bl.set 1 (F.take 128 ++ (bl.getD 1 []).drop 128)) [] []) 1 = F.take 128 ++ (bl.getD 1 []).drop 128 := by
    show (bl.set 1 _).getD 1 [] = _
    rw [getD_lt _ (by rw [List.length_set, hb1]; omega)]
    simp
  show (andO _ _).bind _ = _
  dsimp only
  rw [hh]
  generalize bl.getD 1 [] = u at hg
  have hl : (F.take 128 ++ u.drop 128).length = 256 := by simp [hF, hg]
  have hs : slcI (F.take 128 ++ u.drop 128) 0 2 = some [97, 98] := by
    unfold slcI
    rw [if_pos ⟨by omega, by omega, by omega⟩]
    show some ((F.take 128 ++ u.drop 128).take 2) = _
    rw [List.take_append_of_le_length (by simp; omega), List.take_take]
    exact congrArg some h2
  rw [hs, hl]
  rfl
end Go.Proofs.Ytddjneafgddlcaa

/- DeviceDoes, of the plain functions: the reference's device does what the program's does. No program's walk in sight. -/
namespace Go.Proofs.Ytddjneafgddlcaa
open Go

/-! ### The reference's operations -/
def rOn (r : RDevA) : Bool := !(decide (r.left = 0) || r.off)
def rTick (r : RDevA) : RDevA := { r with left := if 0 < r.left then wI (r.left - 1) else r.left }
def rDead (r : RDevA) : RDevA := { r with off := true }
theorem op_eq (r : RDevA) : f_ref07_Device_op r = some (if rOn r then (0, rTick r) else (71, rDead r)) := by
  obtain ⟨bl, pd, bd, rc, rt, rb, left, off⟩ := r
  unfold f_ref07_Device_op f_ref07_Device_op_j1 f_ref07_Device_op_j2
  by_cases h0 : left = 0
  · subst h0; cases off <;> simp [rOn, rDead]
  · by_cases h1 : 0 < left <;> cases off <;> simp [rOn, rTick, rDead, h0, h1]
theorem is_eq (r : RDevA) (p : UInt32) (h : r.blk.length ≤ 4096) : f_ref07_Device_is r p = some (decide (p.toNat < r.blk.length)) := by
  unfold f_ref07_Device_is
  rw [ret_eq]
  congr 1
  rw [decide_eq_decide, UInt64.lt_iff_toNat_lt]
  have : (toU64 (r.blk.length : Int)).toNat = r.blk.length := by simp only [toU64, UInt64.toNat_ofNat']; omega
  rw [this, UInt32.toNat_toUInt64]
/-! ### The two devices -/
structure Rel (N : Nat) (d : DevA) (r : RDevA) : Prop where
  inv : Inv N d
  nle : N ≤ 4096
  blk : r.blk = d.blocks
  plen : r.pnd.length = N
  pnd : ∀ p : UInt32, p.toNat < N → mget d.pend p = if r.pnd.getD p.toNat [] = [] then none else some (r.pnd.getD p.toNat [])
  blen : r.bads.length = N
  bad : ∀ p : UInt32, p.toNat < N → (mget d.bad p).getD false = r.bads.getD p.toNat false
  bnd : (d.bad.map (·.1)).Nodup
  blt : ∀ q ∈ d.bad, q.1.toNat < N
  cnt : r.rcnt = d.rcnt
  tag : r.rtag = d.rtag
  boots : r.rboots = d.rboots
  off : r.off = d.off
  cut : d.isCut = true → 0 ≤ d.lasts ∧ d.lasts ≤ 9223372036854775807 ∧ r.left = d.lasts
  uncut : d.isCut = false → r.left = -1
variable {N : Nat} {d : DevA} {r : RDevA}
theorem Rel.rlen (R : Rel N d r) : r.blk.length = N := by rw [R.blk]; exact R.inv.blen
theorem Rel.badl (R : Rel N d r) : d.bad.length < 9223372036854775807 := by
  have := nodup_u32 R.bnd (fun k hk => by
    obtain ⟨q, hq, rfl⟩ := List.mem_map.1 hk
    exact R.blt q hq)
  have h2 := R.nle
  simp at this
  omega
theorem Rel.on (R : Rel N d r) : rOn r = pOn d := by
  unfold rOn pOn
  rw [R.off]
  cases h : d.isCut
  · rw [R.uncut h]
    simp
  · obtain ⟨h1, h2, h3⟩ := R.cut h
    rw [h3]
    simp
theorem Rel.tick (R : Rel N d r) (h : pOn d = true) : Rel N (pTick d) (rTick r) := by
  have hs : (rTick r).left = if 0 < r.left then wI (r.left - 1) else r.left := rfl
  refine ⟨R.inv.of rfl rfl, R.nle, R.blk, R.plen, R.pnd, R.blen, R.bad, R.bnd, R.blt, R.cnt, R.tag, R.boots, R.off, fun hc => ?_, fun hc => ?_⟩
  · have hc' : d.isCut = true := hc
    obtain ⟨h1, h2, h3⟩ := R.cut hc'
    have h0 : d.lasts ≠ 0 := fun e => by simp [pOn, hc', e] at h
    have hl : (pTick d).lasts = d.lasts - 1 := by
      show (if d.isCut then wI (d.lasts - 1) else d.lasts) = _
      rw [hc', if_pos rfl, wI_eq (by omega) (by omega)]
    rw [hl, hs, h3, if_pos (by omega), wI_eq (by omega) (by omega)]
    exact ⟨by omega, by omega, rfl⟩
  · have hc' : d.isCut = false := hc
    rw [hs, R.uncut hc', if_neg (by omega)]
theorem Rel.dead (R : Rel N d r) : Rel N (pDead d) (rDead r) :=
  ⟨R.inv.of rfl rfl, R.nle, R.blk, R.plen, R.pnd, R.blen, R.bad, R.bnd, R.blt, R.cnt, R.tag, R.boots, rfl, R.cut, R.uncut⟩
theorem getD_set {α : Type} {l : List α} {i j : Nat} {a x : α} (hi : i < l.length) : (l.set i a).getD j x = if i = j then a else l.getD j x := by
  rw [List.getD_eq_getElem?_getD, List.getD_eq_getElem?_getD, List.getElem?_set]
  split
  · rename_i h
    subst h
    simp
  · rfl
/-- a block that is pending -/
theorem Rel.write (R : Rel N d r) (p : UInt32) (s : List UInt8) : ∃ e d' r', f_device_Device_Write d p s = some (e, d') ∧ f_ref07_Device_Write r p s = some (e, r') ∧ Rel N d' r' := by
  by_cases hp : p.toNat < N ∧ s.length = 256
  · obtain ⟨h1, h2⟩ := hp
    have hp' : p.toNat < d.blocks.length := by rw [R.inv.blen]; exact h1
    have hpl := R.inv.plen
    have hn := R.nle
    have hw := write_eq (d := d) hp' h2 (by omega)
    have hr : f_ref07_Device_Write r p s = some (if rOn r then (0, { rTick r with pnd := r.pnd.set p.toNat s }) else (71, rDead r)) := by
      unfold f_ref07_Device_Write
      have hc : (!decide (p.toNat < r.blk.length) || !decide ((s.length : Int) = 256)) = false := by
        rw [R.rlen, decide_eq_true h1, decide_eq_true (by omega)]
        rfl
      rw [is_eq r p (by rw [R.rlen]; omega), some_bind, hc, cond_false, op_eq, some_bind]
      cases h : rOn r
      · rfl
      · rw [if_pos rfl, if_pos rfl]
        show cond (decide ((0 : Int) = 0)) _ _ = _
        rw [decide_eq_true rfl, cond_true]
        have hl : p.toNat < (rTick r).pnd.length := by show p.toNat < r.pnd.length; rw [R.plen]; exact h1
        rw [nthI_nat, List.getElem?_eq_getElem hl, some_bind, setI_of rfl hl, some_bind]
        rfl
    rw [R.on] at hr
    cases h : pOn d
    · rw [okR_off h] at hw
      rw [h] at hr
      exact ⟨_, _, _, hw, hr, R.dead⟩
    · rw [okR_on h] at hw
      rw [h] at hr
      have T := R.tick h
      refine ⟨_, _, _, hw, hr, ⟨T.inv.put h1 h2 rfl rfl, R.nle, R.blk, by rw [List.length_set]; exact R.plen, fun q hq => ?_, R.blen, R.bad, R.bnd, R.blt, R.cnt, R.tag, R.boots, R.off, T.cut, T.uncut⟩⟩
      have hne : s ≠ [] := fun e => by rw [e] at h2; simp at h2
      show mget (mput d.pend p s) q = if (r.pnd.set p.toNat s).getD q.toNat [] = [] then none else some ((r.pnd.set p.toNat s).getD q.toNat [])
      rw [mget_put, getD_set (by rw [R.plen]; exact h1)]
      by_cases e : p = q
      · subst e
        rw [if_pos rfl, if_pos rfl, if_neg hne]
      · rw [if_neg e, if_neg (fun h => e (UInt32.toNat_inj.1 h))]
        exact R.pnd q hq
  · have hb : ¬ p.toNat < d.blocks.length ∨ s.length ≠ 256 := by rw [R.inv.blen]; omega
    refine ⟨_, _, _, write_bad hb, ?_, R⟩
    unfold f_ref07_Device_Write
    have hc : (!decide (p.toNat < r.blk.length) || !decide ((s.length : Int) = 256)) = true := by
      rw [R.rlen]
      simp only [Bool.or_eq_true, Bool.not_eq_true', decide_eq_false_iff_not]
      omega
    rw [is_eq r p (by rw [R.rlen]; exact R.nle), some_bind, hc, cond_true]
theorem Rel.put (R : Rel N d r) (p : UInt32) (s : List UInt8) : ∃ e d' r', f_device_Device_Put d p s = some (e, d') ∧ f_ref07_Device_Put r p s = some (e, r') ∧ Rel N d' r' := by
  by_cases hp : p.toNat < N ∧ s.length = 256
  · obtain ⟨h1, h2⟩ := hp
    have hp' : p.toNat < d.blocks.length := by rw [R.inv.blen]; exact h1
    have hw := put_eq (d := d) hp' h2
    have hr : f_ref07_Device_Put r p s = some (0, { r with blk := r.blk.set p.toNat s, pnd := r.pnd.set p.toNat [] }) := by
      unfold f_ref07_Device_Put
      have hc : (!decide (p.toNat < r.blk.length) || !decide ((s.length : Int) = 256)) = false := by
        rw [R.rlen, decide_eq_true h1, decide_eq_true (by omega)]
        rfl
      have hl : p.toNat < r.blk.length := by rw [R.rlen]; exact h1
      have hl2 : p.toNat < r.pnd.length := by rw [R.plen]; exact h1
      rw [is_eq r p (by rw [R.rlen]; exact R.nle), some_bind, hc, cond_false, nthI_nat, List.getElem?_eq_getElem hl, some_bind, setI_of rfl hl, some_bind, nthI_nat, List.getElem?_eq_getElem hl2, some_bind, setI_of rfl hl2, some_bind]
    refine ⟨_, _, _, hw, hr, ⟨⟨by rw [List.length_set]; exact R.inv.blen, fun t ht => ?_, mdel_nodup R.inv.knd, fun q hq => R.inv.klt q (List.mem_filter.1 hq).1⟩, R.nle, by rw [R.blk], by rw [List.length_set]; exact R.plen, fun q hq => ?_, R.blen, R.bad, R.bnd, R.blt, R.cnt, R.tag, R.boots, R.off, R.cut, R.uncut⟩⟩
    · rcases List.mem_or_eq_of_mem_set ht with ht | rfl
      · exact R.inv.b256 t ht
      · exact h2
    · show mget (mdel d.pend p) q = if (r.pnd.set p.toNat []).getD q.toNat [] = [] then none else some ((r.pnd.set p.toNat []).getD q.toNat [])
      rw [mget_del, getD_set (by rw [R.plen]; exact h1)]
      by_cases e : p = q
      · subst e
        rw [if_pos rfl, if_pos rfl, if_pos rfl]
      · rw [if_neg e, if_neg (fun h => e (UInt32.toNat_inj.1 h))]
        exact R.pnd q hq
  · have hb : ¬ p.toNat < d.blocks.length ∨ s.length ≠ 256 := by rw [R.inv.blen]; omega
    refine ⟨_, _, _, put_bad hb, ?_, R⟩
    unfold f_ref07_Device_Put
    have hc : (!decide (p.toNat < r.blk.length) || !decide ((s.length : Int) = 256)) = true := by
      rw [R.rlen]
      simp only [Bool.or_eq_true, Bool.not_eq_true', decide_eq_false_iff_not]
      omega
    rw [is_eq r p (by rw [R.rlen]; exact R.nle), some_bind, hc, cond_true]
theorem Rel.setbad (R : Rel N d r) (p : UInt32) (b : Bool) : ∃ e d' r', f_device_Device_Bad d p b = some (e, d') ∧ f_ref07_Device_Bad r p b = some (e, r') ∧ Rel N d' r' := by
  by_cases h1 : p.toNat < N
  · have hp' : p.toNat < d.blocks.length := by rw [R.inv.blen]; exact h1
    have hw := bad_eq (d := d) (b := b) hp' R.badl
    have hr : f_ref07_Device_Bad r p b = some (0, { r with bads := r.bads.set p.toNat b }) := by
      unfold f_ref07_Device_Bad
      have hl : p.toNat < r.bads.length := by rw [R.blen]; exact h1
      rw [is_eq r p (by rw [R.rlen]; exact R.nle), some_bind, R.rlen, decide_eq_true h1, Bool.not_true, cond_false, nthI_nat, List.getElem?_eq_getElem hl, some_bind, setI_of rfl hl, some_bind]
    refine ⟨_, _, _, hw, hr, ⟨R.inv.of rfl rfl, R.nle, R.blk, R.plen, R.pnd, by rw [List.length_set]; exact R.blen, fun q hq => ?_, mput_nodup R.bnd, fun q hq => ?_, R.cnt, R.tag, R.boots, R.off, R.cut, R.uncut⟩⟩
    · show (mget (mput d.bad p b) q).getD false = (r.bads.set p.toNat b).getD q.toNat false
      rw [mget_put, getD_set (by rw [R.blen]; exact h1)]
      by_cases e : p = q
      · subst e
        rw [if_pos rfl, if_pos rfl]
        rfl
      · rw [if_neg e, if_neg (fun h => e (UInt32.toNat_inj.1 h))]
        exact R.bad q hq
    · rcases List.mem_cons.1 hq with rfl | hq
      · exact h1
      · exact R.blt q (List.mem_filter.1 hq).1
  · have hb : ¬ p.toNat < d.blocks.length := by rw [R.inv.blen]; exact h1
    refine ⟨_, _, _, bad_bad hb, ?_, R⟩
    unfold f_ref07_Device_Bad
    rw [is_eq r p (by rw [R.rlen]; exact R.nle), some_bind, R.rlen, decide_eq_false h1]
    rfl
theorem Rel.holds (R : Rel N d r) (p : UInt32) (hp : p.toNat < N) : f_ref07_Device_Holds r p = some (hold d p) := by
  unfold f_ref07_Device_Holds hold
  have hl : p.toNat < r.pnd.length := by rw [R.plen]; exact hp
  have hb : p.toNat < r.blk.length := by rw [R.rlen]; exact hp
  have g := R.pnd p hp
  rw [getD_lt _ hl] at g
  rw [nthI_nat, List.getElem?_eq_getElem hl, some_bind]
  by_cases e : r.pnd[p.toNat] = []
  · rw [if_pos e] at g
    rw [g, decide_eq_true e, nthI_nat, List.getElem?_eq_getElem hb, some_bind]
    simp only [Bool.not_true, cond_false, Option.getD_none]
    rw [← R.blk, getD_lt _ hb]
    rfl
  · rw [if_neg e] at g
    rw [g, decide_eq_false e]
    rfl
theorem Rel.read (R : Rel N d r) (p : UInt32) : ∃ e, f_device_Device_Read d p = some e ∧ f_ref07_Device_Read r p = some e := by
  by_cases hp : p.toNat < N
  · have hp' : p.toNat < d.blocks.length := by rw [R.inv.blen]; exact hp
    refine ⟨_, read_eq hp', ?_⟩
    unfold f_ref07_Device_Read
    have hl : p.toNat < r.bads.length := by rw [R.blen]; exact hp
    rw [is_eq r p (by rw [R.rlen]; exact R.nle), some_bind, R.rlen, decide_eq_true hp, Bool.not_true, cond_false, R.off, nthI_nat, List.getElem?_eq_getElem hl, some_bind, R.holds p hp, R.bad p hp, getD_lt _ hl]
    cases d.off <;> cases r.bads[p.toNat] <;> rfl
  · have hb : ¬ p.toNat < d.blocks.length := by rw [R.inv.blen]; exact hp
    refine ⟨_, read_bad hb, ?_⟩
    unfold f_ref07_Device_Read
    rw [is_eq r p (by rw [R.rlen]; exact R.nle), some_bind, R.rlen, decide_eq_false hp]
    rfl
theorem Rel.setcut (R : Rel N d r) (n : Int) (h1 : -9223372036854775808 ≤ n) (h2 : n ≤ 9223372036854775807) : ∃ d' r', f_device_Device_Cut d n = some d' ∧ f_ref07_Device_Cut r n = some r' ∧ Rel N d' r' := by
  refine ⟨_, _, cut_eq, rfl, ⟨R.inv.of rfl rfl, R.nle, R.blk, R.plen, R.pnd, R.blen, R.bad, R.bnd, R.blt, R.cnt, R.tag, R.boots, R.off, fun hc => ?_, fun hc => ?_⟩⟩
  · have : 0 ≤ n := of_decide_eq_true hc
    show 0 ≤ max n 0 ∧ max n 0 ≤ 9223372036854775807 ∧ max n (-1) = max n 0
    omega
  · have : ¬ 0 ≤ n := of_decide_eq_false hc
    show max n (-1) = -1
    omega
theorem Rel.start (R : Rel N d r) : ∃ (e : UInt32 × Int) (d' : DevA) (r' : RDevA), f_device_Device_Start d = some (e.1, e.2, d') ∧ f_ref07_Device_Start r = some (e.1, e.2, r') ∧ Rel N d' r' := by
  by_cases hb : d.rboots = 4294967295
  · refine ⟨(0, 72), d, r, ?_, ?_, R⟩
    · unfold f_device_Device_Start
      rw [ret_eq, decide_eq_true hb, cond_true]
    · unfold f_ref07_Device_Start
      rw [R.boots, decide_eq_true hb, cond_true]
  · have hw := start_eq hb
    have hr : f_ref07_Device_Start r = some (if rOn r then (r.rboots + 1, 0, { rTick r with rboots := r.rboots + 1 }) else (0, 71, rDead r)) := by
      unfold f_ref07_Device_Start
      rw [decide_eq_false (by rw [R.boots]; exact hb), op_eq, cond_false, some_bind]
      cases h : rOn r <;> rfl
    rw [R.on] at hr
    cases h : pOn d
    · rw [h] at hw hr
      exact ⟨(0, 71), _, _, hw, hr, R.dead⟩
    · rw [h] at hw hr
      have T := R.tick h
      rw [R.boots] at hr
      exact ⟨(d.rboots + 1, 0), _, _, hw, hr, ⟨T.inv.of rfl rfl, R.nle, R.blk, R.plen, R.pnd, R.blen, R.bad, R.bnd, R.blt, R.cnt, R.tag, rfl, R.off, T.cut, T.uncut⟩⟩
theorem advance_bad {s : List UInt8} (hs : s.length ≠ 32) : f_device_Device_Advance d s = some (2, d) := by
  unfold f_device_Device_Advance
  rw [ret_eq, decide_eq_false (by omega)]
  rfl
theorem Rel.advance (R : Rel N d r) (s : List UInt8) : ∃ e d' r', f_device_Device_Advance d s = some (e, d') ∧ f_ref07_Device_Advance r s = some (e, r') ∧ Rel N d' r' := by
  by_cases hs : s.length = 32
  · by_cases hb : d.rcnt = 18446744073709551615
    · refine ⟨72, d, r, ?_, ?_, R⟩
      · unfold f_device_Device_Advance
        rw [ret_eq, decide_eq_true (show (s.length : Int) = 32 by omega), ret_eq, decide_eq_true hb]
        rfl
      · unfold f_ref07_Device_Advance
        rw [decide_eq_true (show (s.length : Int) = 32 by omega), R.cnt, decide_eq_true hb]
        rfl
    · have hw := advance_eq hs hb
      have hr : f_ref07_Device_Advance r s = some (if rOn r then (0, { rTick r with rcnt := r.rcnt + 1, rtag := s }) else (71, rDead r)) := by
        unfold f_ref07_Device_Advance
        rw [decide_eq_true (show (s.length : Int) = 32 by omega), decide_eq_false (by rw [R.cnt]; exact hb), op_eq, Bool.not_true, cond_false, cond_false, some_bind]
        cases h : rOn r <;> rfl
      rw [R.on] at hr
      cases h : pOn d
      · rw [okR_off h] at hw
        rw [h] at hr
        exact ⟨_, _, _, hw, hr, R.dead⟩
      · rw [okR_on h] at hw
        rw [h] at hr
        have T := R.tick h
        rw [R.cnt] at hr
        exact ⟨_, _, _, hw, hr, ⟨T.inv.of rfl rfl, R.nle, R.blk, R.plen, R.pnd, R.blen, R.bad, R.bnd, R.blt, rfl, rfl, R.boots, R.off, T.cut, T.uncut⟩⟩
  · refine ⟨2, d, r, advance_bad hs, ?_, R⟩
    unfold f_ref07_Device_Advance
    rw [decide_eq_false (show ¬ (s.length : Int) = 32 by omega)]
    rfl
/-! ### Flush and Wake -/
def keysN (pn : List (List UInt8)) (i : Nat) : List UInt32 := ((List.range i).filter fun j => !decide (pn.getD j [] = [])).map UInt32.ofNat
theorem keysN_succ (pn : List (List UInt8)) (i : Nat) : keysN pn (i + 1) = keysN pn i ++ if pn.getD i [] = [] then [] else [UInt32.ofNat i] := by
  unfold keysN
  rw [List.range_succ, List.filter_append, List.map_append]
  congr 1
  by_cases h : pn.getD i [] = []
  · rw [if_pos h, List.filter_cons_of_neg (by show ¬ (!decide (pn.getD i [] = [])) = true; rw [decide_eq_true h]; decide)]
    rfl
  · rw [if_neg h, List.filter_cons_of_pos (by show (!decide (pn.getD i [] = [])) = true; rw [decide_eq_false h]; rfl)]
    rfl
theorem ofNat_nat {i : Nat} (h : i < 4294967296) : (UInt32.ofNat i).toNat = i := by simp; omega
theorem Rel.keys (R : Rel N d r) : keysOf d.pend = keysN r.pnd N := by
  have hn := R.nle
  have hs : (keysN r.pnd N).Pairwise (fun x y => decide (x ≤ y) = true) := by
    unfold keysN
    rw [List.pairwise_map]
    refine ((List.pairwise_lt_range (n := N)).sublist List.filter_sublist).imp_of_mem fun {a b} ha hb hlt => ?_
    have h1 := List.mem_range.1 (List.mem_filter.1 ha).1
    have h2 := List.mem_range.1 (List.mem_filter.1 hb).1
    rw [decide_eq_true_eq, UInt32.le_iff_toNat_le, ofNat_nat (by omega), ofNat_nat (by omega)]
    omega
  have hnd : (keysN r.pnd N).Nodup := by
    unfold keysN
    rw [List.nodup_iff_pairwise_ne, List.pairwise_map]
    refine ((List.pairwise_lt_range (n := N)).sublist List.filter_sublist).imp_of_mem fun {a b} ha hb hlt e => ?_
    have h1 := List.mem_range.1 (List.mem_filter.1 ha).1
    have h2 := List.mem_range.1 (List.mem_filter.1 hb).1
    have := congrArg UInt32.toNat e
    rw [ofNat_nat (by omega), ofNat_nat (by omega)] at this
    omega
  have hp : (d.pend.map (·.1)).Perm (keysN r.pnd N) := by
    refine (List.perm_ext_iff_of_nodup R.inv.knd hnd).2 fun k => ⟨fun hk => ?_, fun hk => ?_⟩
    · obtain ⟨q, hq, rfl⟩ := List.mem_map.1 hk
      have hlt := (R.inv.klt q hq).1
      have hg := R.pnd q.1 hlt
      rw [mget_some R.inv.knd hq] at hg
      refine List.mem_map.2 ⟨q.1.toNat, List.mem_filter.2 ⟨List.mem_range.2 hlt, ?_⟩, by simp⟩
      by_cases e : r.pnd.getD q.1.toNat [] = []
      · rw [if_pos e] at hg; cases hg
      · rw [decide_eq_false e]
        rfl
    · obtain ⟨j, hj, rfl⟩ := List.mem_map.1 hk
      obtain ⟨h1, h2⟩ := List.mem_filter.1 hj
      have hjN := List.mem_range.1 h1
      have hjn := ofNat_nat (show j < 4294967296 by omega)
      have hg := R.pnd (UInt32.ofNat j) (by rw [hjn]; exact hjN)
      rw [hjn] at hg
      simp only [Bool.not_eq_true', decide_eq_false_iff_not] at h2
      rw [if_neg h2] at hg
      refine Classical.byContradiction fun hno => ?_
      rw [mget_none (fun q hq e => hno (List.mem_map.2 ⟨q, hq, e⟩))] at hg
      cases hg
  exact sort_unique ((List.mergeSort_perm _ _).trans hp) (ms_sorted _) hs
theorem Rel.got (R : Rel N d r) {i : Nat} (hi : i < N) (h : r.pnd.getD i [] ≠ []) : (mget d.pend (UInt32.ofNat i)).getD [] = r.pnd.getD i [] ∧ (r.pnd.getD i []).length = 256 := by
  have hn := R.nle
  have hin := ofNat_nat (show i < 4294967296 by omega)
  have hg := R.pnd (UInt32.ofNat i) (by rw [hin]; exact hi)
  rw [hin, if_neg h] at hg
  rw [hg]
  refine ⟨rfl, ?_⟩
  have hm : UInt32.ofNat i ∈ d.pend.map (·.1) := Classical.byContradiction fun hno => by
    rw [mget_none (fun q hq e => hno (List.mem_map.2 ⟨q, hq, e⟩))] at hg
    cases hg
  have := R.inv.get256 hm
  rw [hg] at this
  exact this
theorem enumU_snoc (l : List UInt32) (k : UInt32) : enumU (l ++ [k]) = enumU l ++ [((l.length : Int), k)] := by simp [enumU, List.zipIdx_append]
/-- the first i places are cleared -/
def clr (pn : List (List UInt8)) (i : Nat) : List (List UInt8) := List.replicate i [] ++ pn.drop i
theorem clr_len {pn : List (List UInt8)} {i : Nat} (h : i ≤ pn.length) : (clr pn i).length = pn.length := by simp [clr]; omega
theorem clr_get {pn : List (List UInt8)} {i : Nat} (h : i < pn.length) : (clr pn i)[i]? = some (pn.getD i []) := by
  unfold clr
  rw [List.getElem?_append_right (by simp)]
  simp [h]
theorem clr_set {pn : List (List UInt8)} {i : Nat} (h : i < pn.length) : (clr pn i).set i [] = clr pn (i + 1) := by
  unfold clr
  rw [List.set_append_right _ _ (by simp)]
  simp only [List.length_replicate, Nat.sub_self]
  rw [List.drop_eq_getElem_cons h, List.set_cons_zero, List.replicate_succ', List.append_assoc]
  rfl
theorem clr_skip {pn : List (List UInt8)} {i : Nat} (h : i < pn.length) (he : pn.getD i [] = []) : clr pn i = clr pn (i + 1) := by
  unfold clr
  rw [List.drop_eq_getElem_cons h, List.replicate_succ', List.append_assoc]
  rw [getD_lt _ h] at he
  rw [he]
  rfl
theorem clr_all (pn : List (List UInt8)) : clr pn pn.length = List.replicate pn.length [] := by simp [clr]
theorem Rel.cleared (R : Rel N d r) {d' : DevA} {r' : RDevA} (h1 : d'.pend = []) (h2 : r'.pnd = List.replicate N []) : ∀ p : UInt32, p.toNat < N → mget d'.pend p = if r'.pnd.getD p.toNat [] = [] then none else some (r'.pnd.getD p.toNat []) := fun p hp => by
  rw [h1, h2, getD_lt _ (by simpa using hp)]
  simp [mget]
theorem Rel.flush (R : Rel N d r) {n : Nat} (hn : N < n) : ∃ e d' r', f_device_Device_Flush d = some (e, d') ∧ f_ref07_Device_Flush n r = some (e, r') ∧ Rel N d' r' := by
  have hN := R.nle
  have hw := R.inv.flush (by omega)
  have hr : f_ref07_Device_Flush n r = some (if rOn r then (0, { rTick r with blk := flushB d.pend d.blocks, pnd := List.replicate N [] }) else (71, rDead r)) := by
    unfold f_ref07_Device_Flush
    rw [op_eq, some_bind]
    unfold f_ref07_Device_Flush_l1
    cases h : rOn r
    · refine loop_all (fun _ => (r.blk, r.pnd, 0)) 0 (fun i hi => absurd hi (Nat.not_lt_zero _)) (fun k => ?_) (by omega)
      simp only [f_ref07_Device_Flush_l1_b]
      rw [if_neg (by decide), show decide ((71 : Int) = 0) = false from rfl, Bool.and_false, cond_false]
      rfl
    · have key := loop_all (F := fun nx (x : List (List UInt8) × List (List UInt8) × Int) => f_ref07_Device_Flush_l1_b (0, rTick r) nx x.1 x.2.1 x.2.2) (fun i => ((keysN r.pnd i).foldl (fun b p => b.set p.toNat ((mget d.pend p).getD [])) d.blocks, clr r.pnd i, (i : Int))) N
        (z := some (0, { rTick r with blk := flushB d.pend d.blocks, pnd := List.replicate N [] })) ?_ ?_ hn
      · rw [if_pos rfl, if_pos rfl]
        refine Eq.trans (congrArg (loopN _ n) ?_) key
        show (r.blk, r.pnd, (0 : Int)) = (d.blocks, r.pnd, 0)
        rw [R.blk]
      · intro i hi k
        have hlen : ((keysN r.pnd i).foldl (fun b p => b.set p.toNat ((mget d.pend p).getD [])) d.blocks).length = N := by rw [set_fold_length, R.inv.blen]
        have hin := ofNat_nat (show i < 4294967296 by omega)
        have hip : i < r.pnd.length := by rw [R.plen]; exact hi
        simp only [f_ref07_Device_Flush_l1_b]
        rw [hlen, decide_eq_true (by omega)]
        simp only [decide_true, Bool.and_self, cond_true]
        rw [nthI_nat, clr_get hip, some_bind, keysN_succ, List.foldl_append]
        by_cases e : r.pnd.getD i [] = []
        · rw [decide_eq_true e, if_pos e, Bool.not_true, cond_false, ← clr_skip hip e]
          unfold f_ref07_Device_Flush_j2
          rw [ret_eq, wI_eq (by omega) (by omega)]
          rfl
        · obtain ⟨g1, _⟩ := R.got hi e
          rw [decide_eq_false e, if_neg e, Bool.not_false, cond_true, some_bind, nthI_nat, List.getElem?_eq_getElem (by rw [hlen]; exact hi), some_bind, setI_of rfl (by rw [hlen]; exact hi), some_bind, some_bind, setI_of rfl (by rw [clr_len (by omega)]; exact hip), some_bind, clr_set hip]
          unfold f_ref07_Device_Flush_j2
          rw [ret_eq, wI_eq (by omega) (by omega)]
          simp only [List.foldl_cons, List.foldl_nil]
          rw [g1, hin]
          rfl
      · intro k
        have hlen : ((keysN r.pnd N).foldl (fun b p => b.set p.toNat ((mget d.pend p).getD [])) d.blocks).length = N := by rw [set_fold_length, R.inv.blen]
        simp only [f_ref07_Device_Flush_l1_b]
        rw [hlen, decide_eq_false (by omega), Bool.false_and, cond_false, ← R.keys, ← R.plen, clr_all]
        rfl
  rw [R.on] at hr
  cases h : pOn d
  · rw [okR_off h] at hw
    rw [h] at hr
    exact ⟨_, _, _, hw, hr, R.dead⟩
  · rw [okR_on h] at hw
    rw [h] at hr
    have T := R.tick h
    have hb : (flushB d.pend d.blocks).length = N := by unfold flushB; rw [set_fold_length, R.inv.blen]
    refine ⟨_, _, _, hw, hr, ⟨⟨hb, ?_, List.nodup_nil, fun q hq => by cases hq⟩, R.nle, rfl, by simp, R.cleared rfl rfl, R.blen, R.bad, R.bnd, R.blt, R.cnt, R.tag, R.boots, R.off, T.cut, T.uncut⟩⟩
    show ∀ s ∈ flushB d.pend d.blocks, s.length = 256
    unfold flushB
    have gen : ∀ (ks : List UInt32) (bl : List (List UInt8)), (∀ k ∈ ks, k ∈ d.pend.map (·.1)) → (∀ s ∈ bl, s.length = 256) → ∀ s ∈ ks.foldl (fun b p => b.set p.toNat ((mget d.pend p).getD [])) bl, s.length = 256 := by
      intro ks
      induction ks with
      | nil => intro bl _ hb; exact hb
      | cons k ks ih =>
        intro bl hk hb
        rw [List.foldl_cons]
        refine ih _ (fun q hq => hk q (List.mem_cons_of_mem _ hq)) fun s hs => ?_
        rcases List.mem_or_eq_of_mem_set hs with hs | rfl
        · exact hb s hs
        · exact R.inv.get256 (hk k (List.mem_cons_self ..))
    exact gen _ _ (fun k hk => keysOf_mem.1 hk) R.inv.b256
theorem wsteps_length (m : List (UInt32 × List UInt8)) (fs : List Int) : ∀ (es : List (Int × UInt32)) (b : List (List UInt8)), (es.foldl (wstep m fs) b).length = b.length
  | [], b => rfl
  | e :: es, b => by rw [List.foldl_cons, wsteps_length m fs es, wstep_length]
theorem wsteps_256 (R : Rel N d r) (fs : List Int) : ∀ (es : List (Int × UInt32)) (b : List (List UInt8)), b.length = N → (∀ e ∈ es, e.2 ∈ d.pend.map (·.1)) → (∀ s ∈ b, s.length = 256) → ∀ s ∈ es.foldl (wstep d.pend fs) b, s.length = 256
  | [], b, _, _, hb => hb
  | e :: es, b, hl, he, hb => by
    rw [List.foldl_cons]
    have h1 := he e (List.mem_cons_self ..)
    obtain ⟨q, hq, e1⟩ := List.mem_map.1 h1
    exact wsteps_256 R fs es _ (by rw [wstep_length]; exact hl) (fun e' h' => he e' (List.mem_cons_of_mem _ h')) (wstep_256 (R.inv.get256 h1) (by rw [hl, ← e1]; exact (R.inv.klt q hq).1) hb)
theorem keysN_mem (R : Rel N d r) {i : Nat} (hi : i ≤ N) : ∀ e ∈ enumU (keysN r.pnd i), e.2 ∈ d.pend.map (·.1) := fun e he => by
  have h1 := enumU_mem he
  rw [← keysOf_mem, R.keys]
  unfold keysN at h1 ⊢
  obtain ⟨j, hj, e1⟩ := List.mem_map.1 h1
  obtain ⟨h2, h3⟩ := List.mem_filter.1 hj
  exact List.mem_map.2 ⟨j, List.mem_filter.2 ⟨List.mem_range.2 (by have := List.mem_range.1 h2; omega), h3⟩, e1⟩
theorem Rel.wake (R : Rel N d r) (fs : List Int) {n : Nat} (hn : N < n) : ∃ d' r', f_device_Device_Wake d fs = some (0, d') ∧ f_ref07_Device_Wake n r fs = some r' ∧ Rel N d' r' := by
  have hN := R.nle
  have hw := wake_eq (fs := fs) R.inv (by omega)
  have hr : f_ref07_Device_Wake n r fs = some { r with blk := wakeB d.pend fs d.blocks, pnd := List.replicate N [], left := -1, off := false } := by
    unfold f_ref07_Device_Wake f_ref07_Device_Wake_l1
    have key := loop_all (F := fun nx (x : List (List UInt8) × List (List UInt8) × Int × Int) => f_ref07_Device_Wake_l1_b r fs nx x.1 x.2.1 x.2.2.1 x.2.2.2) (fun i => ((enumU (keysN r.pnd i)).foldl (wstep d.pend fs) d.blocks, clr r.pnd i, ((keysN r.pnd i).length : Int), (i : Int))) N
      (z := some { r with blk := wakeB d.pend fs d.blocks, pnd := List.replicate N [], left := -1, off := false }) ?_ ?_ hn
    · refine Eq.trans (congrArg (loopN _ n) ?_) key
      show (r.blk, r.pnd, (0 : Int), (0 : Int)) = (d.blocks, r.pnd, 0, 0)
      rw [R.blk]
    · intro i hi k
      have hlen : ((enumU (keysN r.pnd i)).foldl (wstep d.pend fs) d.blocks).length = N := by rw [wsteps_length, R.inv.blen]
      have h256 := wsteps_256 R fs (enumU (keysN r.pnd i)) d.blocks R.inv.blen (keysN_mem R (by omega)) R.inv.b256
      have hin := ofNat_nat (show i < 4294967296 by omega)
      have hip : i < r.pnd.length := by rw [R.plen]; exact hi
      have hkl : (keysN r.pnd i).length ≤ i := by
        unfold keysN
        rw [List.length_map]
        have := List.length_filter_le (fun j => !decide (r.pnd.getD j [] = [])) (List.range i)
        simpa using this
      simp only [f_ref07_Device_Wake_l1_b]
      rw [hlen, decide_eq_true (by omega), cond_true, nthI_nat, clr_get hip, some_bind, keysN_succ]
      generalize hB : (enumU (keysN r.pnd i)).foldl (wstep d.pend fs) d.blocks = B at hlen h256
      generalize hK : (keysN r.pnd i).length = kk at hkl
      by_cases e : r.pnd.getD i [] = []
      · rw [decide_eq_true e, if_pos e, cond_true, ← clr_skip hip e, List.append_nil, hB, hK]
        unfold f_ref07_Device_Wake_j2
        rw [ret_eq, wI_eq (by omega) (by omega)]
        rfl
      · obtain ⟨g1, g2⟩ := R.got hi e
        rw [decide_eq_false e, if_neg e, cond_false, enumU_snoc, List.foldl_append, hB, hK]
        simp only [List.foldl_cons, List.foldl_nil, List.length_append, List.length_singleton, hK]
        -- what is done with one block
        have hBi : (B.getD i []).length = 256 := by rw [getD_lt _ (by omega)]; exact h256 _ (List.getElem_mem _)
        have fin : ∀ t : Int, (t = 0 ∨ (64 ≤ t ∧ t ≤ 256)) → f_ref07_Device_Wake_j3 B (clr r.pnd i) (kk : Int) (i : Int) k t = k (B.set i ((r.pnd.getD i []).take t.toNat ++ (B.getD i []).drop t.toNat), clr r.pnd (i + 1), ((kk + 1 : Nat) : Int), ((i + 1 : Nat) : Int)) := by
          intro t ht
          have q1 : slcI (r.pnd.getD i []) 0 t = some ((r.pnd.getD i []).take t.toNat) := by
            unfold slcI
            rw [if_pos ⟨by omega, by omega, by omega⟩]
            simp
          have q2 : slcI (B.getD i []) t ((B.getD i []).length : Int) = some ((B.getD i []).drop t.toNat) := by
            unfold slcI
            rw [if_pos ⟨by omega, by omega, by omega⟩]
            rw [List.take_of_length_le (by simp)]
          have q3 : nthI B (i : Int) = some (B.getD i []) := by rw [nthI_nat, List.getElem?_eq_getElem (by omega), getD_lt _ (by omega)]
          unfold f_ref07_Device_Wake_j3
          rw [nthI_nat, clr_get hip, some_bind, q1, some_bind, q3, some_bind, q2, some_bind, catS_eq (by rw [List.length_take, List.length_drop, g2, hBi]; omega), some_bind, some_bind, setI_of rfl (by omega), some_bind, some_bind, setI_of rfl (by rw [clr_len (by omega)]; exact hip), some_bind, clr_set hip, ret_eq]
          unfold f_ref07_Device_Wake_j2
          rw [ret_eq, wI_eq (by omega) (by omega), wI_eq (by omega) (by omega)]
          rfl
        have hws : wstep d.pend fs B ((kk : Int), UInt32.ofNat i) = if 1 ≤ fs.getD kk 0 ∧ fs.getD kk 0 ≤ 4 then B.set i ((r.pnd.getD i []).take (64 * (fs.getD kk 0).toNat) ++ (B.getD i []).drop (64 * (fs.getD kk 0).toNat)) else B := by
          unfold wstep
          simp only [Int.toNat_natCast, hin, g1]
        have hset : B.set i ((r.pnd.getD i []).take 0 ++ (B.getD i []).drop 0) = B := by
          rw [List.take_zero, List.nil_append, List.drop_zero, getD_lt _ (by omega)]
          exact List.set_getElem_self _
        rw [hws]
        by_cases hk : kk < fs.length
        · have n1 : nthI fs (kk : Int) = some (fs.getD kk 0) := by rw [nthI_nat, List.getElem?_eq_getElem hk, getD_lt _ hk]
          rw [n1, decide_eq_true (by omega)]
          generalize fs.getD kk 0 = t
          by_cases h1 : 1 ≤ t
          · by_cases h4 : t ≤ 4
            · rw [if_pos ⟨h1, h4⟩]
              have ht : wI (64 * t) = 64 * t := wI_eq (by omega) (by omega)
              simp only [andO, cond_true, some_bind, ret_eq, ht, decide_eq_true h1, decide_eq_true h4]
              rw [fin (64 * t) (by omega), show (64 * t).toNat = 64 * t.toNat by omega]
            · rw [if_neg (by omega)]
              simp only [andO, cond_true, some_bind, cond_false, decide_eq_true h1, decide_eq_false h4]
              rw [fin 0 (.inl rfl), show (0 : Int).toNat = 0 from rfl, hset]
          · rw [if_neg (by omega)]
            simp only [andO, cond_true, some_bind, cond_false, decide_eq_false h1]
            rw [fin 0 (.inl rfl), show (0 : Int).toNat = 0 from rfl, hset]
        · have h0 : fs.getD kk 0 = 0 := by simp [List.getElem?_eq_none (by omega : fs.length ≤ kk)]
          rw [h0, if_neg (by omega), decide_eq_false (by omega)]
          simp only [andO, some_bind, cond_false]
          rw [fin 0 (.inl rfl), show (0 : Int).toNat = 0 from rfl, hset]
    · intro k
      have hlen : ((enumU (keysN r.pnd N)).foldl (wstep d.pend fs) d.blocks).length = N := by rw [wsteps_length, R.inv.blen]
      simp only [f_ref07_Device_Wake_l1_b]
      rw [hlen, decide_eq_false (by omega), cond_false, ← R.keys, ← R.plen, clr_all]
      rfl
  have hb : (wakeB d.pend fs d.blocks).length = N := by unfold wakeB; rw [wsteps_length, R.inv.blen]
  refine ⟨_, _, hw, hr, ⟨⟨hb, ?_, List.nodup_nil, fun q hq => by cases hq⟩, R.nle, rfl, by simp, R.cleared rfl rfl, R.blen, R.bad, R.bnd, R.blt, R.cnt, R.tag, R.boots, rfl, fun h => (by cases h), fun _ => rfl⟩⟩
  show ∀ s ∈ wakeB d.pend fs d.blocks, s.length = 256
  unfold wakeB
  exact wsteps_256 R fs _ _ R.inv.blen (fun e he => keysOf_mem.1 (enumU_mem he)) R.inv.b256
end Go.Proofs.Ytddjneafgddlcaa

/- DeviceDoes, of the plain functions: each operation tells the same. No program's walk in sight. -/
namespace Go.Proofs.Ytddjneafgddlcaa
open Go
variable {N : Nat} {d : DevA} {r : RDevA}

theorem retc {α : Type} {p : Prop} [Decidable p] {a b : α} : ret (decide p) (fun x => cond x a b) = if p then a else b := by
  by_cases h : p <;> simp [ret, h]
theorem andG_true {α : Type} {o : α} {C : Option (Bool × α)} : andG true o C = C := rfl
theorem Rel.did {n : Nat} (R : Rel N d r) (hn : N < n) (x : OpA) (h1 : -9223372036854775808 ≤ x.num) (h2 : x.num ≤ 9223372036854775807) : ∃ d' r', f_law07_did n d r x = some (true, d', r') ∧ Rel N d' r' := by
  unfold f_law07_did
  rw [filled_eq, some_bind, show rem64 (toU64 x.act) 10 = some (toU64 x.act % 10) from rfl, some_bind]
  have hF := fillA_length x.txt
  generalize fillA x.txt = F at hF
  generalize toU64 x.act % 10 = q
  rw [retc]
  split
  · obtain ⟨e, d', r', a, b, R'⟩ := R.write x.page F
    rw [a, some_bind, b, some_bind]
    exact ⟨d', r', by simp [ret_eq], R'⟩
  rw [retc]
  split
  · obtain ⟨e, d', r', a, b, R'⟩ := R.flush hn
    rw [a, some_bind, b, some_bind]
    exact ⟨d', r', by simp [ret_eq], R'⟩
  rw [retc]
  split
  · have hs : slcI F 0 32 = some (F.take 32) := by
      unfold slcI
      rw [if_pos ⟨by omega, by omega, by omega⟩]
      rfl
    obtain ⟨e, d1, r1, a, b, R1⟩ := R.advance (F.take 32)
    obtain ⟨e2, d2, r2, a2, b2, R2⟩ := R1.advance x.txt
    rw [hs, some_bind, a, some_bind, some_bind, b, some_bind]
    simp only [decide_true, andG_true]
    rw [a2, some_bind, b2, some_bind, some_bind]
    exact ⟨d2, r2, by simp, R2⟩
  rw [retc]
  split
  · obtain ⟨e, d', r', a, b, R'⟩ := R.start
    rw [a, some_bind, b, some_bind]
    exact ⟨d', r', by simp [ret_eq], R'⟩
  rw [retc]
  split
  · obtain ⟨d', r', a, b, R'⟩ := R.setcut x.num h1 h2
    rw [a, some_bind, b, some_bind]
    exact ⟨d', r', rfl, R'⟩
  rw [retc]
  split
  · obtain ⟨d', r', a, b, R'⟩ := R.wake x.fates hn
    rw [b, some_bind, a, some_bind]
    exact ⟨d', r', rfl, R'⟩
  rw [retc]
  split
  · obtain ⟨e, d1, r1, a, b, R1⟩ := R.put x.page F
    obtain ⟨e2, d2, r2, a2, b2, R2⟩ := R1.put x.page x.txt
    rw [a, some_bind, b, some_bind]
    simp only [decide_true, andG_true]
    rw [a2, some_bind, b2, some_bind, some_bind]
    exact ⟨d2, r2, by simp, R2⟩
  rw [retc]
  split
  · obtain ⟨e, d', r', a, b, R'⟩ := R.setbad x.page (decide (0 < x.num))
    rw [a, some_bind, b, some_bind]
    exact ⟨d', r', by simp [ret_eq], R'⟩
  rw [retc]
  split
  · obtain ⟨e, a, b⟩ := R.read x.page
    rw [a, some_bind, b, some_bind]
    exact ⟨d, r, by simp [ret_eq], R⟩
  · obtain ⟨e, d', r', a, b, R'⟩ := R.write x.page x.txt
    rw [a, some_bind, b, some_bind]
    exact ⟨d', r', by simp [ret_eq], R'⟩
/-! ### What is held -/
def imageA (N : Nat) (d : DevA) : List (List UInt8) := (List.range N).map fun i => hold d (UInt32.ofNat i)
theorem toU32_ofNat (i : Nat) : toU32 (i : Int) = UInt32.ofNat i := by
  apply UInt32.toNat_inj.1
  simp only [toU32, UInt32.toNat_ofNat']
  omega
theorem Rel.image (R : Rel N d r) {n : Nat} (hn : N < n) : f_device_Device_Image n d = some (imageA N d) ∧ f_ref07_Device_Image n r = some (imageA N d) := by
  have hN := R.nle
  constructor
  · unfold f_device_Device_Image f_device_Device_Image_l1
    refine loop_all (fun i => ((List.range i).map fun j => hold d (UInt32.ofNat j), (i : Int))) N ?_ ?_ hn
    · intro i hi k
      have hin := ofNat_nat (show i < 4294967296 by omega)
      simp only [f_device_Device_Image_l1_b]
      rw [R.inv.blen, decide_eq_true (by omega), cond_true, toU32_ofNat, holds_eq (by rw [hin, R.inv.blen]; exact hi), some_bind, appL_eq (by simp; omega) (by simp; omega), some_bind, wI_eq (by omega) (by omega), List.range_succ, List.map_append]
      rfl
    · intro k
      simp only [f_device_Device_Image_l1_b]
      rw [R.inv.blen, decide_eq_false (by omega), cond_false]
      rfl
  · unfold f_ref07_Device_Image f_ref07_Device_Image_l1
    refine loop_all (fun i => ((List.range i).map fun j => hold d (UInt32.ofNat j), (i : Int))) N ?_ ?_ hn
    · intro i hi k
      have hin := ofNat_nat (show i < 4294967296 by omega)
      simp only [f_ref07_Device_Image_l1_b]
      rw [R.rlen, decide_eq_true (by omega), cond_true, toU32_ofNat, R.holds _ (by rw [hin]; exact hi), some_bind, appL_eq (by simp; omega) (by simp; omega), some_bind, ret_eq, wI_eq (by omega) (by omega), List.range_succ, List.map_append]
      rfl
    · intro k
      simp only [f_ref07_Device_Image_l1_b]
      rw [R.rlen, decide_eq_false (by omega), cond_false]
      rfl
theorem same_self (l : List (List UInt8)) {n : Nat} (hn : l.length < n) (hl : l.length ≤ 1048576) : f_ref07_Same n l l = some true := by
  unfold f_ref07_Same
  rw [decide_eq_true rfl, Bool.not_true, cond_false]
  unfold f_ref07_Same_l1
  refine loop_all (fun i => (i : Int)) l.length ?_ ?_ hn
  · intro i hi k
    simp only [f_ref07_Same_l1_b]
    rw [decide_eq_true (by omega), cond_true, nthI_nat, List.getElem?_eq_getElem hi, some_bind, some_bind, decide_eq_true rfl, Bool.not_true, cond_false, ret_eq, wI_eq (by omega) (by omega)]
    rfl
  · intro k
    simp only [f_ref07_Same_l1_b]
    rw [decide_eq_false (by omega), cond_false]
    rfl
/-! ### The law -/
def dev0 (N : Nat) : DevA := { off := false, isCut := false, lasts := 0, counts := 0, blocks := List.replicate N (List.replicate 256 0), pend := [], bad := [], rcnt := 0, rtag := List.replicate 32 0, rboots := 0 }
def rdev0 (N : Nat) : RDevA := { blk := List.replicate N (List.replicate 256 0), pnd := List.replicate N [], bads := List.replicate N false, rcnt := 0, rtag := List.replicate 32 0, rboots := 0, left := -1, off := false }
theorem rnew_eq {N n : Nat} (h4 : 4 ≤ N) (hN : N ≤ 4096) (hn : N < n) : f_ref07_New n (N : Int) = some (some (rdev0 N), 0) := by
  have z : ∀ k : Nat, k ≤ 1048576 → f_ref07_Zeros (k : Int) = some (List.replicate k 0) := fun k hk => by
    rw [zeros_eq (by omega) (by omega)]
    simp
  have z1 := z 32 (by omega)
  have z2 := z 256 (by omega)
  clear z
  unfold f_ref07_New rdev0
  have hc : (decide ((N : Int) < 4) || decide (4096 < (N : Int))) = false := by simp; omega
  rw [hc, cond_false]
  show (f_ref07_Zeros ((32 : Nat) : Int)).bind _ = _
  rw [z1, some_bind]
  generalize List.replicate 32 (0 : UInt8) = Y
  generalize List.replicate 256 (0 : UInt8) = Z at z2 ⊢
  unfold f_ref07_New_l1
  refine loop_all (fun i => (List.replicate i Z, List.replicate i [], List.replicate i false, (i : Int))) N ?_ ?_ hn
  · intro i hi k
    simp only [f_ref07_New_l1_b]
    rw [decide_eq_true (by omega), cond_true]
    show (f_ref07_Zeros ((256 : Nat) : Int)).bind _ = _
    rw [z2, some_bind, appL_eq (by simp; omega) (by simp; omega), some_bind, appL_eq (by simp; omega) (by simp; omega), some_bind, appL_eq (by simp; omega) (by simp; omega), some_bind, ret_eq, wI_eq (by omega) (by omega)]
    rw [← List.replicate_succ', ← List.replicate_succ', ← List.replicate_succ']
    rfl
  · intro k
    simp only [f_ref07_New_l1_b]
    rw [decide_eq_false (by omega), cond_false]
    rfl
theorem rel0 {N : Nat} (hN : N ≤ 4096) : Rel N (dev0 N) (rdev0 N) := by
  refine ⟨⟨List.length_replicate .., fun s hs => ?_, List.nodup_nil, (fun q hq => by cases hq)⟩, hN, rfl, List.length_replicate .., fun p hp => ?_, List.length_replicate .., fun p hp => ?_, List.nodup_nil, (fun q hq => by cases hq), rfl, rfl, rfl, rfl, (fun h => by cases h), fun _ => rfl⟩
  · rw [List.eq_of_mem_replicate hs, List.length_replicate]
  · show mget [] p = if (List.replicate N ([] : List UInt8)).getD p.toNat [] = [] then none else some ((List.replicate N ([] : List UInt8)).getD p.toNat [])
    rw [getD_lt _ (by simpa using hp)]
    simp [mget]
  · show (mget ([] : List (UInt32 × Bool)) p).getD false = (List.replicate N false).getD p.toNat false
    rw [getD_lt _ (by simpa using hp)]
    simp [mget]
/-- the operations on blocks so many -/
theorem does_j1 (l : List OpA) (hl : ∀ x ∈ l, -9223372036854775808 ≤ x.num ∧ x.num ≤ 9223372036854775807) {N n : Nat} (h4 : 4 ≤ N) (hN : N ≤ 4096) (hn : 4200 ≤ n) : f_law07_DeviceDoes_j1 n l true (N : Int) = some true := by
  unfold f_law07_DeviceDoes_j1
  have hd : f_device_New (N : Int) = some (some (dev0 N), 0) := new_eq (n := (N : Int)) (by omega) (by omega)
  rw [hd, some_bind, some_bind, rnew_eq h4 hN (by omega), some_bind, some_bind]
  show cond (!decide ((0 : Int) = 0)) _ _ = _
  rw [decide_eq_true rfl, Bool.not_true, cond_false]
  unfold f_law07_DeviceDoes_l1
  refine loop_inv (P := fun i x => ∃ (d : DevA) (r : RDevA), x = (d, r, (i : Int)) ∧ Rel N d r) (min l.length 40) ?_ ?_ (by omega) ⟨dev0 N, rdev0 N, rfl, rel0 hN⟩
  · rintro i x hi ⟨d, r, rfl, R⟩
    have hc : (decide ((i : Int) < (l.length : Int)) && decide ((i : Int) < 40)) = true := by simp; omega
    have hg : i < l.length := by omega
    obtain ⟨b1, b2⟩ := hl l[i] (List.getElem_mem _)
    obtain ⟨d', r', e1, R'⟩ := R.did (n := n) (by omega) l[i] b1 b2
    obtain ⟨i1, i2⟩ := R'.image (n := n) (by omega)
    have hs := same_self (imageA N d') (n := n) (by simp [imageA]; omega) (by simp [imageA]; omega)
    refine ⟨_, ⟨d', r', rfl, R'⟩, fun k => ?_⟩
    simp only [f_law07_DeviceDoes_l1_b]
    rw [hc]
    simp only [decide_true, Bool.and_self, cond_true]
    rw [nthI_nat, List.getElem?_eq_getElem hg, some_bind, e1, some_bind]
    dsimp only
    rw [i1, some_bind, i2, some_bind, hs, some_bind]
    unfold f_device_Device_Register f_device_Device_Blocks
    rw [R'.cnt, R'.tag, R'.boots, R'.inv.blen, ret_eq, wI_eq (by omega) (by omega)]
    simp [orO]
  · rintro x ⟨d, r, rfl, R⟩ k
    have hc : (decide (((min l.length 40 : Nat) : Int) < (l.length : Int)) && decide (((min l.length 40 : Nat) : Int) < 40)) = false := by simp; omega
    simp only [f_law07_DeviceDoes_l1_b]
    rw [hc]
    rfl
/-- how many blocks are asked for -/
def fewer (m : Int) : Int := if 30 < m ∧ m ≤ 4096 then 30 else m
def blocksOk (m : Int) : Bool := decide (4 ≤ m) && decide (m ≤ 4096)
theorem p_DeviceDoes (m : Int) (l : List OpA) (hl : ∀ x ∈ l, -9223372036854775808 ≤ x.num ∧ x.num ≤ 9223372036854775807) (h : blocksOk m = true) {n : Nat} (hn : 4200 ≤ n) : f_law07_DeviceDoes n m l = some true := by
  unfold blocksOk at h
  simp only [Bool.and_eq_true, decide_eq_true_eq] at h
  unfold f_law07_DeviceDoes
  rw [p_shown, some_bind]
  by_cases h3 : 30 < m
  · rw [decide_eq_true h3, decide_eq_true h.2]
    exact does_j1 l hl (N := 30) (by omega) (by omega) hn
  · rw [decide_eq_false h3, Bool.false_and, cond_false]
    obtain ⟨k, rfl⟩ : ∃ k : Nat, m = (k : Int) := ⟨m.toNat, by omega⟩
    exact does_j1 l hl (by omega) (by omega) hn
theorem p_DeviceDoesZ (m : Int) (l : List OpA) (h : blocksOk m = false) {n : Nat} (hn : 4200 ≤ n) : f_law07_DeviceDoesZ n m l = some true := by
  have h' : m < 4 ∨ 4096 < m := by
    unfold blocksOk at h
    simp only [Bool.and_eq_false_iff, decide_eq_false_iff_not] at h
    omega
  unfold f_law07_DeviceDoesZ
  have hc : (decide (30 < m) && decide (m ≤ 4096)) = false := by
    simp only [Bool.and_eq_false_iff, decide_eq_false_iff_not]
    omega
  rw [p_shown, some_bind, hc, cond_false]
  unfold f_law07_DeviceDoesZ_j1
  have hb : (decide (m < 4) || decide (4096 < m)) = true := by
    simp only [Bool.or_eq_true, decide_eq_true_eq]
    exact h'
  have hd : f_device_New m = some (none, 2) := by
    unfold f_device_New
    rw [hb, cond_true]
  have hr : f_ref07_New n m = some (none, 2) := by
    unfold f_ref07_New
    rw [hb, cond_true]
  rw [hd, some_bind, hr]
  show (nilO none).bind _ = _
  rw [show nilO (none : Option DevA) = some () from rfl, some_bind, some_bind]
  show (nilO none).bind _ = _
  rw [show nilO (none : Option RDevA) = some () from rfl, some_bind]
  show cond (!decide ((2 : Int) = 2)) _ _ = _
  rw [decide_eq_true rfl, Bool.not_true, cond_false]
  unfold f_law07_DeviceDoesZ_l1
  refine loop_all (fun _ => (0 : Int)) 0 (fun i hi => absurd hi (Nat.not_lt_zero _)) (fun k => ?_) (by omega)
  simp only [f_law07_DeviceDoesZ_l1_b]
  rw [show decide ((2 : Int) = 0) = false from rfl, Bool.and_false, cond_false]
  rfl
end Go.Proofs.Ytddjneafgddlcaa
