/- The texts W1, W2, W5, one behind the other: each bears its own sentence. Conditions: as each says. -/
import Derived.Test.YtddjneafgddlcaaDA1
import Derived.Test.YtddjneafgddlcaaDA2

/- Plain functions of the references and the laws, printed from the loaded program, and the walks that show that the program computes them. Condition: the plain function yields. -/
namespace Go.Proofs.Ytddjneafgddlcaa
open Go
variable {K : Nat → Prop} {w0 : World} {H : List Chunk}

def f_ref07_Zeros (p0 : Int) : Option (List UInt8) :=
  (mkI 1 p0 0).bind fun l1 =>
  some l1
set_option maxRecDepth 100000 in
theorem c_ref07_Zeros {p0 : Int} {r : List UInt8} (h : f_ref07_Zeros p0 = some r)  : Con Try.prog K w0 21 [vI p0] [] H (fun u M => u = vS r ∧ M = []) := by
  unfold f_ref07_Zeros at h
  refine Con.enter Try.func21 rfl rfl ?_
  refine SX.sr ?_
  refine SL.asg ⟨rfl, rfl, rfl, rfl⟩ rfl ?_
  refine SL.nx ?_
  refine SX.sr ?_
  obtain ⟨l1, hl1, h⟩ := bnd h
  refine SL.mv ⟨rfl, rfl, rfl, rfl⟩ rfl ?_
  refine SL.mkN hl1 eU8 ⟨rfl, rfl, rfl, rfl⟩ ty79 sz5 by5 ze5 rfl rfl rfl rfl (fun _ => trivial) fun v1 => ?_
  refine SL.btsT 0 ⟨rfl, rfl, rfl, rfl⟩ ty79 ty5 ty9 rfl rfl ?_
  refine SL.asg ⟨rfl, rfl, rfl, rfl⟩ rfl ?_
  refine SL.nx ?_
  refine SX.ret ?_
  obtain rfl := Option.some.inj h
  exact SQ.fret (res1 rfl rfl) (ret_of (M := []) ⟨rfl, rfl⟩ fun _ hw => HpOk.pick (H := [_]) hw [] 1 rfl)

def f_ref07_Filled (p0 : List UInt8) : Option (List UInt8) :=
  (slcI p0 0 (min (p0.length : Int) 256)).bind fun s1 =>
  (f_ref07_Zeros (wI (256 - (s1.length : Int)))).bind fun y1 =>
  (catS s1 y1).bind fun s2 =>
  some s2
set_option maxRecDepth 100000 in
theorem c_ref07_Filled {p0 : List UInt8} {r : List UInt8} (h : f_ref07_Filled p0 = some r)  : Con Try.prog K w0 14 [vS p0] [] H (fun u M => u = vS r ∧ M = []) := by
  unfold f_ref07_Filled at h
  refine Con.enter Try.func14 rfl rfl ?_
  refine SX.sr ?_
  refine SL.asg ⟨rfl, rfl, rfl, rfl⟩ rfl ?_
  refine SL.nx ?_
  refine SX.sr ?_
  obtain ⟨s1, hs1, h⟩ := bnd h
  refine SL.mv ⟨rfl, rfl, rfl, rfl⟩ rfl ?_
  refine SL.mv ⟨rfl, rfl, rfl, rfl⟩ rfl ?_
  refine SL.lenS ⟨rfl, rfl, rfl, rfl⟩ ty9 rfl ?_
  refine SL.minI ⟨rfl, rfl, rfl, rfl⟩ rfl rfl ?_
  refine SL.slNh hs1 ⟨rfl, rfl, rfl, rfl⟩ ty9 rfl rfl ?_
  refine SL.asg ⟨rfl, rfl, rfl, rfl⟩ rfl ?_
  refine SL.nx ?_
  refine SX.sr ?_
  obtain ⟨y1, hy1, h⟩ := bnd h
  obtain ⟨s2, hs2, h⟩ := bnd h
  refine SL.mv ⟨rfl, rfl, rfl, rfl⟩ rfl ?_
  refine SL.mv ⟨rfl, rfl, rfl, rfl⟩ rfl ?_
  refine SL.lenS ⟨rfl, rfl, rfl, rfl⟩ ty9 rfl ?_
  refine SL.bin ⟨rfl, rfl, rfl, rfl⟩ rfl rfl Bin.subW ?_
  refine SL.call (vs := [_]) (Hin := []) (Hr := _) ⟨rfl, rfl, rfl, rfl⟩ rfl ⟨rfl, trivial⟩ cal21 rfl rfl (c_ref07_Zeros hy1) ?_
  rintro _ _ ⟨rfl, rfl⟩
  refine ⟨trivial, ?_⟩
  refine SL.bin ⟨rfl, rfl, rfl, rfl⟩ rfl rfl (Bin.catO hs2) ?_
  refine SL.asg ⟨rfl, rfl, rfl, rfl⟩ rfl ?_
  refine SL.nx ?_
  refine SX.ret ?_
  obtain rfl := Option.some.inj h
  exact SQ.fret (res1 rfl rfl) (ret_of (M := []) ⟨rfl, rfl⟩ fun _ hw => HpOk.pick (H := []) hw [] 0 rfl)

def f_ref07_Same_j1 : Option Bool :=
  some true
def f_ref07_Same_l1_b (p0 : List (List UInt8)) (p1 : List (List UInt8)) (nx_f_ref07_Same_l1 : Int → Option Bool) (a1 : Int) : Option Bool :=
  cond (decide (a1 < (p0.length : Int)))
  (
    (nthI p0 a1).bind fun x1 =>
    (nthI p1 a1).bind fun x2 =>
    cond (!decide (x1 = x2))
    (
      some false)
    (
      ret (wI (a1 + 1)) fun i_1 =>
      nx_f_ref07_Same_l1 i_1))
  (
    f_ref07_Same_j1)
def f_ref07_Same_l1 (p0 : List (List UInt8)) (p1 : List (List UInt8)) : Nat → Int → Option Bool := loopN fun nx x => f_ref07_Same_l1_b p0 p1 nx x
def f_ref07_Same (n : Nat) (p0 : List (List UInt8)) (p1 : List (List UInt8)) : Option Bool :=
  cond (!decide ((p0.length : Int) = (p1.length : Int)))
  (
    some false)
  (
    f_ref07_Same_l1 p0 p1 n 0)
set_option maxRecDepth 100000 in
theorem c_ref07_Same {n : Nat} {v0_ : Value} {p0 : List (List UInt8)} {v1_ : Value} {p1 : List (List UInt8)} {r : Bool} (h : f_ref07_Same n p0 p1 = some r) (hs0_ : SlOf K w0 eS 1 v0_ p0) (hs1_ : SlOf K w0 eS 1 v1_ p1) : Con Try.prog K w0 8 [v0_, v1_] [] H (fun u M => u = vB r ∧ M = []) := by
  unfold f_ref07_Same at h
  refine Con.enter Try.func8 rfl rfl ?_
  refine SX.sr ?_
  refine SL.asg ⟨rfl, rfl, rfl, rfl⟩ rfl ?_
  refine SL.nx ?_
  refine SX.seq ?_
  refine SX.sr ?_
  refine SL.mv ⟨rfl, rfl, rfl, rfl⟩ rfl ?_
  refine SL.lenV hs0_ ⟨rfl, rfl, rfl, rfl⟩ ty37 rfl ?_
  refine SL.mv ⟨rfl, rfl, rfl, rfl⟩ rfl ?_
  refine SL.lenV hs1_ ⟨rfl, rfl, rfl, rfl⟩ ty37 rfl ?_
  refine SL.bin ⟨rfl, rfl, rfl, rfl⟩ rfl rfl Bin.neI ?_
  refine SL.nx ?_
  refine SX.cond rfl (fun hc1 => ?_) (fun hc1 => ?_)
  · skip
    replace h := cT hc1 h
    refine SX.sr ?_
    refine SL.asg ⟨rfl, rfl, rfl, rfl⟩ rfl ?_
    refine SL.nx ?_
    refine SX.ret ?_
    refine SQ.thnR ?_
    obtain rfl := Option.some.inj h
    exact SQ.fret (res1 rfl rfl) (ret_of (M := []) ⟨rfl, rfl⟩ fun _ hw => HpOk.pick (H := []) hw [] 0 rfl)
  · skip
    replace h := cF hc1 h
    refine SX.skip ?_
    refine SQ.thn ?_
    refine SX.meetD (α := Unit) (fun x => f_ref07_Same_j1 = some r) (fun x => []) (fun x => H) ?_ (fun x D h => ?_)
    · skip
      refine SX.sr ?_
      refine SL.asg ⟨rfl, rfl, rfl, rfl⟩ rfl ?_
      refine SL.nx ?_
      refine SX.block ?_
      refine SX.heap (SX.mono (SX.loop (α := Nat × Int) (fun x => f_ref07_Same_l1 p0 p1 x.1 x.2 = some r) (fun x => [(0, v0_), (1, v1_), (5, vI x.2)]) (fun x => H) (fun x => x.1) (fun x D h => ?_) (n, 0) h) (by repeat' (first | exact trivial | refine And.intro rfl ?_))) (fun _ hw => HpOk.pick (H := []) hw [] 0 rfl)
      obtain ⟨m1, a1⟩ := x
      dsimp only at h
      rcases m1 with _ | m1
      · cases (show (none : Option _) = some r from h)
      replace h : f_ref07_Same_l1_b p0 p1 (f_ref07_Same_l1 p0 p1 m1) a1 = some r := h
      unfold f_ref07_Same_l1_b at h
      refine SX.re [(0, v0_), (1, v1_), (5, vI a1)] (H) ?_ (by repeat' (first | exact trivial | refine And.intro rfl ?_))
      refine SX.seq ?_
      refine SX.sr ?_
      refine SL.mv ⟨rfl, rfl, rfl, rfl⟩ rfl ?_
      refine SL.mv ⟨rfl, rfl, rfl, rfl⟩ rfl ?_
      refine SL.lenV hs0_ ⟨rfl, rfl, rfl, rfl⟩ ty37 rfl ?_
      refine SL.bin ⟨rfl, rfl, rfl, rfl⟩ rfl rfl Bin.ltI ?_
      refine SL.nx ?_
      refine SX.cond rfl (fun hc2 => ?_) (fun hc2 => ?_)
      · skip
        replace h := cT hc2 h
        refine SX.skip ?_
        refine SQ.thn ?_
        refine SX.seq ?_
        refine SX.block ?_
        refine SX.seq ?_
        obtain ⟨x1, hx1, h⟩ := bnd h
        obtain ⟨x2, hx2, h⟩ := bnd h
        refine SX.drawI mix [] (Pl.of [(true, 0), (true, 1), (true, 2), (true, 3), (true, 4), (true, 5), (true, 6), (true, 7), (true, 8)]) (by kernel_rfl) ?_
        refine SL.mv ⟨rfl, rfl, rfl, rfl⟩ rfl ?_
        refine SL.mv ⟨rfl, rfl, rfl, rfl⟩ rfl ?_
        refine SL.iaN hx1 hs0_ ⟨rfl, rfl, rfl, rfl⟩ ty37 sz9 rfl rfl fun be1 of1 hc3 => ?_
        refine SL.ld ⟨rfl, rfl, rfl, rfl⟩ sc9 rfl (cell_kept (j := 0) hc3 rfl) ?_
        refine SL.mv ⟨rfl, rfl, rfl, rfl⟩ rfl ?_
        refine SL.mv ⟨rfl, rfl, rfl, rfl⟩ rfl ?_
        refine SL.iaN hx2 hs1_ ⟨rfl, rfl, rfl, rfl⟩ ty37 sz9 rfl rfl fun be2 of2 hc4 => ?_
        refine SL.ld ⟨rfl, rfl, rfl, rfl⟩ sc9 rfl (cell_kept (j := 0) hc4 rfl) ?_
        refine SL.bin ⟨rfl, rfl, rfl, rfl⟩ rfl rfl Bin.neS ?_
        refine SL.nx ?_
        refine SX.cond rfl (fun hc5 => ?_) (fun hc5 => ?_)
        · skip
          replace h := cT hc5 h
          refine SX.sr ?_
          refine SL.asg ⟨rfl, rfl, rfl, rfl⟩ rfl ?_
          refine SL.nx ?_
          refine SX.ret ?_
          refine SQ.blkR ?_
          refine SQ.thnR ?_
          refine SQ.lpR ?_
          refine SQ.blkR ?_
          refine SQ.midDR ?_
          obtain rfl := Option.some.inj h
          exact SQ.fret (res1 rfl rfl) (ret_of (M := []) ⟨rfl, rfl⟩ fun _ hw => HpOk.pick (H := []) hw [] 0 rfl)
        · skip
          replace h := cF hc5 h
          refine SX.skip ?_
          refine SQ.blk ?_
          refine SQ.thn ?_
          refine SX.region ?_
          obtain ⟨i_1, ei_1, h⟩ := retE h
          refine SL.mv ⟨rfl, rfl, rfl, rfl⟩ rfl ?_
          refine SL.bin ⟨rfl, rfl, rfl, rfl⟩ rfl rfl Bin.addW ?_
          refine SL.asgX (u := vI i_1) ⟨rfl, rfl, rfl, rfl⟩ rfl (congrArg vI ei_1) ?_
          refine SL.nil ?_
          exact SQ.again (m1, i_1) h (Nat.lt_succ_self _) (by repeat' (first | exact trivial | refine And.intro rfl ?_)) (fun _ hw => HpOk.pick (H := []) hw [] 0 rfl)
      · skip
        replace h := cF hc2 h
        refine SX.exit ?_
        refine SQ.thnE ?_
        refine SQ.lpE ?_
        refine SQ.blkE ?_
        exact SQ.midD () h (by repeat' (first | exact trivial | refine And.intro rfl ?_)) (fun _ hw => HpOk.pick (H := []) hw [] 0 rfl)
    · skip
      unfold f_ref07_Same_j1 at h
      refine SX.re [] (H) ?_ (by repeat' (first | exact trivial | refine And.intro rfl ?_))
      refine SX.sr ?_
      refine SL.asg ⟨rfl, rfl, rfl, rfl⟩ rfl ?_
      refine SL.nx ?_
      refine SX.ret ?_
      obtain rfl := Option.some.inj h
      exact SQ.fret (res1 rfl rfl) (ret_of (M := []) ⟨rfl, rfl⟩ fun _ hw => HpOk.pick (H := []) hw [] 0 rfl)

def f_device_power_spend_j2 (p0 : DevA) (y1 : Bool) (y2 : Int) : Option (Int × DevA) :=
  some (0, { p0 with off := y1, lasts := y2, counts := wI (p0.counts + 1) })
def f_device_power_spend_j1 (p0 : DevA) (y1 : Bool) : Option (Int × DevA) :=
  cond y1
  (
    some (71, { p0 with off := y1 }))
  (
    cond p0.isCut
    (
      f_device_power_spend_j2 p0 y1 (wI (p0.lasts - 1)))
    (
      f_device_power_spend_j2 p0 y1 p0.lasts))
def f_device_power_spend (p0 : DevA) : Option (Int × DevA) :=
  cond (p0.isCut && (decide (p0.lasts = 0)))
  (
    f_device_power_spend_j1 p0 true)
  (
    f_device_power_spend_j1 p0 p0.off)
set_option maxRecDepth 100000 in
theorem c_device_power_spend {b0_ : Nat} {v0x4_ : Value} {m0x5_ : Nat} {m0x6_ : Nat} {p0 : DevA} {r : Int × DevA} (h : f_device_power_spend p0 = some r)  : Con Try.prog K w0 38 [vP b0_ 0] [own b0_ (.cells #[vB p0.off, vB p0.isCut, vI p0.lasts, vI p0.counts, v0x4_, .map (some m0x5_), .map (some m0x6_), vU64 p0.rcnt, vS p0.rtag, vU32 p0.rboots] 60), rowT 9 1 v0x4_ eS p0.blocks, mapC m0x5_ vU32 vS p0.pend, mapC m0x6_ vU32 vB p0.bad] H (fun u M => u = vI r.1 ∧ M = [own b0_ (.cells #[vB r.2.off, vB r.2.isCut, vI r.2.lasts, vI r.2.counts, v0x4_, .map (some m0x5_), .map (some m0x6_), vU64 r.2.rcnt, vS r.2.rtag, vU32 r.2.rboots] 60), rowT 9 1 v0x4_ eS r.2.blocks, mapC m0x5_ vU32 vS r.2.pend, mapC m0x6_ vU32 vB r.2.bad]) := by
  unfold f_device_power_spend at h
  refine Con.enter Try.func38 rfl rfl ?_
  refine SX.sr ?_
  refine SL.asg ⟨rfl, rfl, rfl, rfl⟩ rfl ?_
  refine SL.nx ?_
  refine SX.meetD (α := Bool) (fun x => f_device_power_spend_j1 p0 x = some r) (fun x => [(0, vP b0_ 0)]) (fun x => own b0_ (.cells #[vB x, vB p0.isCut, vI p0.lasts, vI p0.counts, v0x4_, .map (some m0x5_), .map (some m0x6_), vU64 p0.rcnt, vS p0.rtag, vU32 p0.rboots] 60) :: rowT 9 1 v0x4_ eS p0.blocks :: mapC m0x5_ vU32 vS p0.pend :: mapC m0x6_ vU32 vB p0.bad :: H) ?_ (fun y1 D h => ?_)
  · skip
    refine SX.sr ?_
    refine SL.mv ⟨rfl, rfl, rfl, rfl⟩ rfl ?_
    refine SL.nchk ⟨rfl, rfl, rfl, rfl⟩ rfl ?_
    refine SL.fa ⟨rfl, rfl, rfl, rfl⟩ rfl fo58_1 ?_
    refine SL.ld ⟨rfl, rfl, rfl, rfl⟩ sc4 rfl (cell_own 0 rfl rfl) ?_
    refine SL.mv ⟨rfl, rfl, rfl, rfl⟩ rfl ?_
    refine SL.and (c := decide (p0.lasts = 0)) 7 6 13 rfl (fun hb k => ?_) (fun hb k => ?_) ?_
    · skip
      refine SL.mv ⟨rfl, rfl, rfl, rfl⟩ rfl ?_
      refine SL.nchk ⟨rfl, rfl, rfl, rfl⟩ rfl ?_
      refine SL.fa ⟨rfl, rfl, rfl, rfl⟩ rfl fo58_2 ?_
      refine SL.ld ⟨rfl, rfl, rfl, rfl⟩ sc3 rfl (cell_own 0 rfl rfl) ?_
      refine SL.bin ⟨rfl, rfl, rfl, rfl⟩ rfl rfl Bin.eqI ?_
      refine SL.pk ⟨rfl, rfl, rfl, rfl⟩ rfl rfl ?_
      exact k.mono (by repeat' (first | exact trivial | refine And.intro rfl ?_))
    · skip
      refine SL.pass rfl rfl rfl ?_
      refine SL.pass rfl rfl rfl ?_
      refine SL.pass rfl rfl rfl ?_
      refine SL.pass rfl rfl rfl ?_
      refine SL.pass rfl rfl rfl ?_
      refine SL.pk ⟨rfl, rfl, rfl, rfl⟩ rfl rfl ?_
      exact k.mono (by repeat' (first | exact trivial | refine And.intro rfl ?_))
    refine SL.nx ?_
    refine SX.cond rfl (fun hc1 => ?_) (fun hc1 => ?_)
    · skip
      replace h := cT hc1 h
      refine SX.region ?_
      refine SL.mv ⟨rfl, rfl, rfl, rfl⟩ rfl ?_
      refine SL.nchk ⟨rfl, rfl, rfl, rfl⟩ rfl ?_
      refine SL.fa ⟨rfl, rfl, rfl, rfl⟩ rfl fo58_0 ?_
      refine SL.st 0 ⟨rfl, rfl, rfl⟩ rfl rfl rfl sz4 rfl rfl rfl trivial ?_
      refine SL.nil ?_
      exact SQ.midD true h (by repeat' (first | exact trivial | refine And.intro rfl ?_)) (fun _ hw => HpOk.pick (H := [_, _, _, _]) hw [0, 1, 2, 3] 4 rfl)
    · skip
      replace h := cF hc1 h
      refine SX.skip ?_
      exact SQ.midD p0.off h (by repeat' (first | exact trivial | refine And.intro rfl ?_)) (fun _ hw => HpOk.pick (H := [_, _, _, _]) hw [0, 1, 2, 3] 4 rfl)
  · skip
    unfold f_device_power_spend_j1 at h
    refine SX.re [(0, vP b0_ 0)] (own b0_ (.cells #[vB y1, vB p0.isCut, vI p0.lasts, vI p0.counts, v0x4_, .map (some m0x5_), .map (some m0x6_), vU64 p0.rcnt, vS p0.rtag, vU32 p0.rboots] 60) :: rowT 9 1 v0x4_ eS p0.blocks :: mapC m0x5_ vU32 vS p0.pend :: mapC m0x6_ vU32 vB p0.bad :: H) ?_ (by repeat' (first | exact trivial | refine And.intro rfl ?_))
    refine SX.seq ?_
    refine SX.sr ?_
    refine SL.mv ⟨rfl, rfl, rfl, rfl⟩ rfl ?_
    refine SL.nchk ⟨rfl, rfl, rfl, rfl⟩ rfl ?_
    refine SL.fa ⟨rfl, rfl, rfl, rfl⟩ rfl fo58_0 ?_
    refine SL.ld ⟨rfl, rfl, rfl, rfl⟩ sc4 rfl (cell_own 0 rfl rfl) ?_
    refine SL.nx ?_
    refine SX.cond rfl (fun hc2 => ?_) (fun hc2 => ?_)
    · skip
      replace h := cT hc2 h
      refine SX.sr ?_
      refine SL.asg ⟨rfl, rfl, rfl, rfl⟩ rfl ?_
      refine SL.nx ?_
      refine SX.ret ?_
      refine SQ.thnR ?_
      obtain rfl := Option.some.inj h
      exact SQ.fret (res1 rfl rfl) (ret_of (M := [_, _, _, _]) ⟨rfl, rfl⟩ fun _ hw => HpOk.pick (H := [_, _, _, _]) hw [0, 1, 2, 3] 4 rfl)
    · skip
      replace h := cF hc2 h
      refine SX.skip ?_
      refine SQ.thn ?_
      refine SX.meetD (α := Int) (fun x => f_device_power_spend_j2 p0 y1 x = some r) (fun x => [(0, vP b0_ 0)]) (fun x => own b0_ (.cells #[vB y1, vB p0.isCut, vI x, vI p0.counts, v0x4_, .map (some m0x5_), .map (some m0x6_), vU64 p0.rcnt, vS p0.rtag, vU32 p0.rboots] 60) :: rowT 9 1 v0x4_ eS p0.blocks :: mapC m0x5_ vU32 vS p0.pend :: mapC m0x6_ vU32 vB p0.bad :: H) ?_ (fun y2 D h => ?_)
      · skip
        refine SX.sr ?_
        refine SL.mv ⟨rfl, rfl, rfl, rfl⟩ rfl ?_
        refine SL.nchk ⟨rfl, rfl, rfl, rfl⟩ rfl ?_
        refine SL.fa ⟨rfl, rfl, rfl, rfl⟩ rfl fo58_1 ?_
        refine SL.ld ⟨rfl, rfl, rfl, rfl⟩ sc4 rfl (cell_own 0 rfl rfl) ?_
        refine SL.nx ?_
        refine SX.cond rfl (fun hc3 => ?_) (fun hc3 => ?_)
        · skip
          replace h := cT hc3 h
          refine SX.region ?_
          refine SL.mv ⟨rfl, rfl, rfl, rfl⟩ rfl ?_
          refine SL.nchk ⟨rfl, rfl, rfl, rfl⟩ rfl ?_
          refine SL.fa ⟨rfl, rfl, rfl, rfl⟩ rfl fo58_2 ?_
          refine SL.ld ⟨rfl, rfl, rfl, rfl⟩ sc3 rfl (cell_own 0 rfl rfl) ?_
          refine SL.bin ⟨rfl, rfl, rfl, rfl⟩ rfl rfl Bin.subW ?_
          refine SL.nchk ⟨rfl, rfl, rfl, rfl⟩ rfl ?_
          refine SL.fa ⟨rfl, rfl, rfl, rfl⟩ rfl fo58_2 ?_
          refine SL.st 0 ⟨rfl, rfl, rfl⟩ rfl rfl rfl sz3 rfl rfl rfl trivial ?_
          refine SL.nil ?_
          exact SQ.midD (wI (p0.lasts - 1)) h (by repeat' (first | exact trivial | refine And.intro rfl ?_)) (fun _ hw => HpOk.pick (H := [_, _, _, _]) hw [0, 1, 2, 3] 4 rfl)
        · skip
          replace h := cF hc3 h
          refine SX.skip ?_
          exact SQ.midD p0.lasts h (by repeat' (first | exact trivial | refine And.intro rfl ?_)) (fun _ hw => HpOk.pick (H := [_, _, _, _]) hw [0, 1, 2, 3] 4 rfl)
      · skip
        unfold f_device_power_spend_j2 at h
        refine SX.re [(0, vP b0_ 0)] (own b0_ (.cells #[vB y1, vB p0.isCut, vI y2, vI p0.counts, v0x4_, .map (some m0x5_), .map (some m0x6_), vU64 p0.rcnt, vS p0.rtag, vU32 p0.rboots] 60) :: rowT 9 1 v0x4_ eS p0.blocks :: mapC m0x5_ vU32 vS p0.pend :: mapC m0x6_ vU32 vB p0.bad :: H) ?_ (by repeat' (first | exact trivial | refine And.intro rfl ?_))
        refine SX.sr ?_
        refine SL.mv ⟨rfl, rfl, rfl, rfl⟩ rfl ?_
        refine SL.nchk ⟨rfl, rfl, rfl, rfl⟩ rfl ?_
        refine SL.fa ⟨rfl, rfl, rfl, rfl⟩ rfl fo58_3 ?_
        refine SL.ld ⟨rfl, rfl, rfl, rfl⟩ sc3 rfl (cell_own 0 rfl rfl) ?_
        refine SL.bin ⟨rfl, rfl, rfl, rfl⟩ rfl rfl Bin.addW ?_
        refine SL.nchk ⟨rfl, rfl, rfl, rfl⟩ rfl ?_
        refine SL.fa ⟨rfl, rfl, rfl, rfl⟩ rfl fo58_3 ?_
        refine SL.st 0 ⟨rfl, rfl, rfl⟩ rfl rfl rfl sz3 rfl rfl rfl trivial ?_
        refine SL.nx ?_
        refine SX.sr ?_
        refine SL.asg ⟨rfl, rfl, rfl, rfl⟩ rfl ?_
        refine SL.nx ?_
        refine SX.ret ?_
        obtain rfl := Option.some.inj h
        exact SQ.fret (res1 rfl rfl) (ret_of (M := [_, _, _, _]) ⟨rfl, rfl⟩ fun _ hw => HpOk.pick (H := [_, _, _, _]) hw [0, 1, 2, 3] 4 rfl)

def f_device_power_set (p0 : DevA) (p1 : Int) : Option DevA :=
  some ({ p0 with isCut := decide (0 ≤ p1), lasts := max p1 0 })
set_option maxRecDepth 100000 in
theorem c_device_power_set {b0_ : Nat} {v0x4_ : Value} {m0x5_ : Nat} {m0x6_ : Nat} {p0 : DevA} {p1 : Int} {r : DevA} (h : f_device_power_set p0 p1 = some r)  : Con Try.prog K w0 39 [vP b0_ 0, vI p1] [own b0_ (.cells #[vB p0.off, vB p0.isCut, vI p0.lasts, vI p0.counts, v0x4_, .map (some m0x5_), .map (some m0x6_), vU64 p0.rcnt, vS p0.rtag, vU32 p0.rboots] 60), rowT 9 1 v0x4_ eS p0.blocks, mapC m0x5_ vU32 vS p0.pend, mapC m0x6_ vU32 vB p0.bad] H (fun u M => u = .tuple #[] ∧ M = [own b0_ (.cells #[vB r.off, vB r.isCut, vI r.lasts, vI r.counts, v0x4_, .map (some m0x5_), .map (some m0x6_), vU64 r.rcnt, vS r.rtag, vU32 r.rboots] 60), rowT 9 1 v0x4_ eS r.blocks, mapC m0x5_ vU32 vS r.pend, mapC m0x6_ vU32 vB r.bad]) := by
  unfold f_device_power_set at h
  refine Con.enter Try.func39 rfl rfl ?_
  refine SX.region ?_
  refine SL.mv ⟨rfl, rfl, rfl, rfl⟩ rfl ?_
  refine SL.mv ⟨rfl, rfl, rfl, rfl⟩ rfl ?_
  refine SL.mv ⟨rfl, rfl, rfl, rfl⟩ rfl ?_
  refine SL.bin ⟨rfl, rfl, rfl, rfl⟩ rfl rfl Bin.geI ?_
  refine SL.mv ⟨rfl, rfl, rfl, rfl⟩ rfl ?_
  refine SL.maxI ⟨rfl, rfl, rfl, rfl⟩ rfl rfl ?_
  refine SL.nchk ⟨rfl, rfl, rfl, rfl⟩ rfl ?_
  refine SL.fa ⟨rfl, rfl, rfl, rfl⟩ rfl fo58_1 ?_
  refine SL.st 0 ⟨rfl, rfl, rfl⟩ rfl rfl rfl sz4 rfl rfl rfl trivial ?_
  refine SL.nchk ⟨rfl, rfl, rfl, rfl⟩ rfl ?_
  refine SL.fa ⟨rfl, rfl, rfl, rfl⟩ rfl fo58_2 ?_
  refine SL.st 0 ⟨rfl, rfl, rfl⟩ rfl rfl rfl sz3 rfl rfl rfl trivial ?_
  refine SL.nil ?_
  obtain rfl := Option.some.inj h
  exact SQ.fend (res0 rfl) (ret_of (M := [_, _, _, _]) ⟨rfl, rfl⟩ fun _ hw => HpOk.pick (H := [_, _, _, _]) hw [0, 1, 2, 3] 4 rfl)

def f_device_Device_has (p0 : DevA) (p1 : UInt32) : Option Bool :=
  ret (decide ((p1.toNat : Int) < (p0.blocks.length : Int))) fun x1 =>
  some x1
set_option maxRecDepth 100000 in
theorem c_device_Device_has {b0_ : Nat} {v0x4_ : Value} {m0x5_ : Nat} {m0x6_ : Nat} {p0 : DevA} {p1 : UInt32} {r : Bool} (h : f_device_Device_has p0 p1 = some r)  : Con Try.prog K w0 37 [vP b0_ 0, vU32 p1] [own b0_ (.cells #[vB p0.off, vB p0.isCut, vI p0.lasts, vI p0.counts, v0x4_, .map (some m0x5_), .map (some m0x6_), vU64 p0.rcnt, vS p0.rtag, vU32 p0.rboots] 60), rowT 9 1 v0x4_ eS p0.blocks, mapC m0x5_ vU32 vS p0.pend, mapC m0x6_ vU32 vB p0.bad] H (fun u M => u = vB r ∧ M = [own b0_ (.cells #[vB p0.off, vB p0.isCut, vI p0.lasts, vI p0.counts, v0x4_, .map (some m0x5_), .map (some m0x6_), vU64 p0.rcnt, vS p0.rtag, vU32 p0.rboots] 60), rowT 9 1 v0x4_ eS p0.blocks, mapC m0x5_ vU32 vS p0.pend, mapC m0x6_ vU32 vB p0.bad]) := by
  unfold f_device_Device_has at h
  refine Con.enter Try.func37 rfl rfl ?_
  refine SX.sr ?_
  refine SL.asg ⟨rfl, rfl, rfl, rfl⟩ rfl ?_
  refine SL.nx ?_
  refine SX.sr ?_
  obtain ⟨x1, ex1, h⟩ := retE h
  refine SL.mv ⟨rfl, rfl, rfl, rfl⟩ rfl ?_
  refine SL.cv ⟨rfl, rfl, rfl, rfl⟩ rfl (Cv.u32_I ty32 ty2) ?_
  refine SL.mv ⟨rfl, rfl, rfl, rfl⟩ rfl ?_
  refine SL.nchk ⟨rfl, rfl, rfl, rfl⟩ rfl ?_
  refine SL.fa ⟨rfl, rfl, rfl, rfl⟩ rfl fo60_1 ?_
  refine SL.ld ⟨rfl, rfl, rfl, rfl⟩ sc37 rfl (cell_own 0 rfl rfl) ?_
  refine SL.lenT 1 ⟨rfl, rfl, rfl, rfl⟩ ty37 rfl rfl ?_
  refine SL.bin ⟨rfl, rfl, rfl, rfl⟩ rfl rfl Bin.ltI ?_
  refine SL.asgX (u := vB x1) ⟨rfl, rfl, rfl, rfl⟩ rfl (congrArg vB ex1) ?_
  refine SL.nx ?_
  refine SX.ret ?_
  obtain rfl := Option.some.inj h
  exact SQ.fret (res1 rfl rfl) (ret_of (M := [_, _, _, _]) ⟨rfl, rfl⟩ fun _ hw => HpOk.pick (H := [_, _, _, _]) hw [0, 1, 2, 3] 4 rfl)

def f_device_Device_holds (p0 : DevA) (p1 : UInt32) : Option (List UInt8) :=
  ret ((mget p0.pend p1).getD []) fun x1 =>
  ret ((mget p0.pend p1).isSome) fun ok_1 =>
  cond ok_1
  (
    some x1)
  (
    (nthI p0.blocks (p1.toNat : Int)).bind fun x2 =>
    some x2)
set_option maxRecDepth 100000 in
theorem c_device_Device_holds {b0_ : Nat} {v0x4_ : Value} {m0x5_ : Nat} {m0x6_ : Nat} {p0 : DevA} {p1 : UInt32} {r : List UInt8} (h : f_device_Device_holds p0 p1 = some r)  : Con Try.prog K w0 35 [vP b0_ 0, vU32 p1] [own b0_ (.cells #[vB p0.off, vB p0.isCut, vI p0.lasts, vI p0.counts, v0x4_, .map (some m0x5_), .map (some m0x6_), vU64 p0.rcnt, vS p0.rtag, vU32 p0.rboots] 60), rowT 9 1 v0x4_ eS p0.blocks, mapC m0x5_ vU32 vS p0.pend, mapC m0x6_ vU32 vB p0.bad] H (fun u M => u = vS r ∧ M = [own b0_ (.cells #[vB p0.off, vB p0.isCut, vI p0.lasts, vI p0.counts, v0x4_, .map (some m0x5_), .map (some m0x6_), vU64 p0.rcnt, vS p0.rtag, vU32 p0.rboots] 60), rowT 9 1 v0x4_ eS p0.blocks, mapC m0x5_ vU32 vS p0.pend, mapC m0x6_ vU32 vB p0.bad]) := by
  unfold f_device_Device_holds at h
  refine Con.enter Try.func35 rfl rfl ?_
  refine SX.sr ?_
  refine SL.asg ⟨rfl, rfl, rfl, rfl⟩ rfl ?_
  refine SL.nx ?_
  refine SX.seq ?_
  refine SX.sr ?_
  obtain ⟨x1, ex1, h⟩ := retE h
  obtain ⟨ok_1, eok_1, h⟩ := retE h
  refine SL.mv ⟨rfl, rfl, rfl, rfl⟩ rfl ?_
  refine SL.nchk ⟨rfl, rfl, rfl, rfl⟩ rfl ?_
  refine SL.fa ⟨rfl, rfl, rfl, rfl⟩ rfl fo60_2 ?_
  refine SL.ld ⟨rfl, rfl, rfl, rfl⟩ sc55 rfl (cell_own 0 rfl rfl) ?_
  refine SL.mv ⟨rfl, rfl, rfl, rfl⟩ rfl ?_
  refine SL.lkpOk (zv := []) 2 (MapE.u32S ty32) ⟨rfl, rfl, rfl, rfl⟩ ty55 ze9 rfl rfl rfl ?_
  refine SL.mv ⟨rfl, rfl, rfl, rfl⟩ rfl ?_
  refine SL.ext ⟨rfl, rfl, rfl, rfl⟩ rfl rfl ?_
  refine SL.ext ⟨rfl, rfl, rfl, rfl⟩ rfl rfl ?_
  refine SL.asgX (u := vS x1) ⟨rfl, rfl, rfl, rfl⟩ rfl (congrArg vS ex1) ?_
  refine SL.asgX (u := vB ok_1) ⟨rfl, rfl, rfl, rfl⟩ rfl (congrArg vB eok_1) ?_
  refine SL.nx ?_
  refine SX.sr ?_
  refine SL.mv ⟨rfl, rfl, rfl, rfl⟩ rfl ?_
  refine SL.nx ?_
  refine SX.cond rfl (fun hc1 => ?_) (fun hc1 => ?_)
  · skip
    replace h := cT hc1 h
    refine SX.sr ?_
    refine SL.mv ⟨rfl, rfl, rfl, rfl⟩ rfl ?_
    refine SL.asg ⟨rfl, rfl, rfl, rfl⟩ rfl ?_
    refine SL.nx ?_
    refine SX.ret ?_
    refine SQ.thnR ?_
    obtain rfl := Option.some.inj h
    exact SQ.fret (res1 rfl rfl) (ret_of (M := [_, _, _, _]) ⟨rfl, rfl⟩ fun _ hw => HpOk.pick (H := [_, _, _, _]) hw [0, 1, 2, 3] 4 rfl)
  · skip
    replace h := cF hc1 h
    refine SX.skip ?_
    refine SQ.thn ?_
    refine SX.sr ?_
    obtain ⟨x2, hx2, h⟩ := bnd h
    refine SL.mv ⟨rfl, rfl, rfl, rfl⟩ rfl ?_
    refine SL.nchk ⟨rfl, rfl, rfl, rfl⟩ rfl ?_
    refine SL.fa ⟨rfl, rfl, rfl, rfl⟩ rfl fo60_1 ?_
    refine SL.ld ⟨rfl, rfl, rfl, rfl⟩ sc37 rfl (cell_own 0 rfl rfl) ?_
    refine SL.mv ⟨rfl, rfl, rfl, rfl⟩ rfl ?_
    refine SL.iaT 1 hx2 ⟨rfl, rfl, rfl, rfl⟩ ty37 sz9 rfl rfl rfl fun g1 m1 cp1 hv1 => ?_
    refine SL.ld ⟨rfl, rfl, rfl, rfl⟩ sc9 rfl (cell_rowT (sz := 1) (enc := eS) 1 0 (fun _ => rfl) rfl hv1 hx2 rfl) ?_
    refine SL.asg ⟨rfl, rfl, rfl, rfl⟩ rfl ?_
    refine SL.nx ?_
    refine SX.ret ?_
    obtain rfl := Option.some.inj h
    exact SQ.fret (res1 rfl rfl) (ret_of (M := [_, _, _, _]) ⟨rfl, rfl⟩ fun _ hw => HpOk.pick (H := [_, _, _, _]) hw [0, 1, 2, 3] 4 rfl)

def f_device_Device_Read (p0 : DevA) (p1 : UInt32) : Option (List UInt8 × Int) :=
  (f_device_Device_has p0 p1).bind fun y1 =>
  ret (!y1) fun x1 =>
  cond x1
  (
    some ([], 2))
  (
    cond p0.off
    (
      some ([], 71))
    (
      ret ((mget p0.bad p1).getD false) fun x2 =>
      cond x2
      (
        some ([], 70))
      (
        (f_device_Device_holds p0 p1).bind fun y2 =>
        some (y2, 0))))
set_option maxRecDepth 100000 in
theorem c_device_Device_Read {b0_ : Nat} {v0x4_ : Value} {m0x5_ : Nat} {m0x6_ : Nat} {p0 : DevA} {p1 : UInt32} {r : List UInt8 × Int} (h : f_device_Device_Read p0 p1 = some r)  : Con Try.prog K w0 17 [vP b0_ 0, vU32 p1] [own b0_ (.cells #[vB p0.off, vB p0.isCut, vI p0.lasts, vI p0.counts, v0x4_, .map (some m0x5_), .map (some m0x6_), vU64 p0.rcnt, vS p0.rtag, vU32 p0.rboots] 60), rowT 9 1 v0x4_ eS p0.blocks, mapC m0x5_ vU32 vS p0.pend, mapC m0x6_ vU32 vB p0.bad] H (fun u M => u = .tuple #[vS r.1, vI r.2] ∧ M = [own b0_ (.cells #[vB p0.off, vB p0.isCut, vI p0.lasts, vI p0.counts, v0x4_, .map (some m0x5_), .map (some m0x6_), vU64 p0.rcnt, vS p0.rtag, vU32 p0.rboots] 60), rowT 9 1 v0x4_ eS p0.blocks, mapC m0x5_ vU32 vS p0.pend, mapC m0x6_ vU32 vB p0.bad]) := by
  unfold f_device_Device_Read at h
  refine Con.enter Try.func17 rfl rfl ?_
  refine SX.sr ?_
  refine SL.asg ⟨rfl, rfl, rfl, rfl⟩ rfl ?_
  refine SL.asg ⟨rfl, rfl, rfl, rfl⟩ rfl ?_
  refine SL.nx ?_
  refine SX.seq ?_
  refine SX.block ?_
  refine SX.sr ?_
  refine SL.mv ⟨rfl, rfl, rfl, rfl⟩ rfl ?_
  refine SL.eqPN ⟨rfl, rfl, rfl, rfl⟩ ty24 rfl rfl ?_
  refine SL.asg ⟨rfl, rfl, rfl, rfl⟩ rfl ?_
  refine SL.nx ?_
  refine SX.condF rfl ?_
  refine SX.sr ?_
  obtain ⟨y1, hy1, h⟩ := bnd h
  obtain ⟨x1, ex1, h⟩ := retE h
  refine SL.mv ⟨rfl, rfl, rfl, rfl⟩ rfl ?_
  refine SL.mv ⟨rfl, rfl, rfl, rfl⟩ rfl ?_
  refine SL.call (vs := [_, _]) (Hin := [_, _, _, _]) (Hr := _) ⟨rfl, rfl, rfl, rfl⟩ rfl ⟨rfl, rfl, trivial⟩ cal37 rfl rfl (c_device_Device_has hy1) ?_
  rintro _ _ ⟨rfl, rfl⟩
  refine ⟨trivial, ?_⟩
  refine SL.not ⟨rfl, rfl, rfl, rfl⟩ rfl ?_
  refine SL.asgX (u := vB x1) ⟨rfl, rfl, rfl, rfl⟩ rfl (congrArg vB ex1) ?_
  refine SL.nx ?_
  refine SX.cond rfl (fun hc2 => ?_) (fun hc2 => ?_)
  · skip
    replace h := cT hc2 h
    refine SX.sr ?_
    refine SL.asg ⟨rfl, rfl, rfl, rfl⟩ rfl ?_
    refine SL.asg ⟨rfl, rfl, rfl, rfl⟩ rfl ?_
    refine SL.nx ?_
    refine SX.ret ?_
    refine SQ.blkR ?_
    refine SQ.thnR ?_
    obtain rfl := Option.some.inj h
    exact SQ.fret (res2 rfl rfl rfl) (ret_of (M := [_, _, _, _]) ⟨rfl, rfl⟩ fun _ hw => HpOk.pick (H := [_, _, _, _]) hw [0, 1, 2, 3] 4 rfl)
  · skip
    replace h := cF hc2 h
    refine SX.sr ?_
    refine SL.mv ⟨rfl, rfl, rfl, rfl⟩ rfl ?_
    refine SL.nchk ⟨rfl, rfl, rfl, rfl⟩ rfl ?_
    refine SL.fa ⟨rfl, rfl, rfl, rfl⟩ rfl fo60_0 ?_
    refine SL.fa ⟨rfl, rfl, rfl, rfl⟩ rfl fo58_0 ?_
    refine SL.ld ⟨rfl, rfl, rfl, rfl⟩ sc4 rfl (cell_own 0 rfl rfl) ?_
    refine SL.asg ⟨rfl, rfl, rfl, rfl⟩ rfl ?_
    refine SL.nx ?_
    refine SX.cond rfl (fun hc3 => ?_) (fun hc3 => ?_)
    · skip
      replace h := cT hc3 h
      refine SX.sr ?_
      refine SL.asg ⟨rfl, rfl, rfl, rfl⟩ rfl ?_
      refine SL.asg ⟨rfl, rfl, rfl, rfl⟩ rfl ?_
      refine SL.nx ?_
      refine SX.ret ?_
      refine SQ.blkR ?_
      refine SQ.thnR ?_
      obtain rfl := Option.some.inj h
      exact SQ.fret (res2 rfl rfl rfl) (ret_of (M := [_, _, _, _]) ⟨rfl, rfl⟩ fun _ hw => HpOk.pick (H := [_, _, _, _]) hw [0, 1, 2, 3] 4 rfl)
    · skip
      replace h := cF hc3 h
      refine SX.sr ?_
      obtain ⟨x2, ex2, h⟩ := retE h
      refine SL.mv ⟨rfl, rfl, rfl, rfl⟩ rfl ?_
      refine SL.nchk ⟨rfl, rfl, rfl, rfl⟩ rfl ?_
      refine SL.fa ⟨rfl, rfl, rfl, rfl⟩ rfl fo60_3 ?_
      refine SL.ld ⟨rfl, rfl, rfl, rfl⟩ sc56 rfl (cell_own 0 rfl rfl) ?_
      refine SL.mv ⟨rfl, rfl, rfl, rfl⟩ rfl ?_
      refine SL.lkp (zv := false) 3 (MapE.u32B ty32) ⟨rfl, rfl, rfl, rfl⟩ ty56 ze4 rfl rfl rfl ?_
      refine SL.asgX (u := vB x2) ⟨rfl, rfl, rfl, rfl⟩ rfl (congrArg vB ex2) ?_
      refine SL.nx ?_
      refine SX.cond rfl (fun hc4 => ?_) (fun hc4 => ?_)
      · skip
        replace h := cT hc4 h
        refine SX.sr ?_
        refine SL.asg ⟨rfl, rfl, rfl, rfl⟩ rfl ?_
        refine SL.asg ⟨rfl, rfl, rfl, rfl⟩ rfl ?_
        refine SL.nx ?_
        refine SX.ret ?_
        refine SQ.blkR ?_
        refine SQ.thnR ?_
        obtain rfl := Option.some.inj h
        exact SQ.fret (res2 rfl rfl rfl) (ret_of (M := [_, _, _, _]) ⟨rfl, rfl⟩ fun _ hw => HpOk.pick (H := [_, _, _, _]) hw [0, 1, 2, 3] 4 rfl)
      · skip
        replace h := cF hc4 h
        refine SX.skip ?_
        refine SQ.blk ?_
        refine SQ.thn ?_
        refine SX.sr ?_
        obtain ⟨y2, hy2, h⟩ := bnd h
        refine SL.mv ⟨rfl, rfl, rfl, rfl⟩ rfl ?_
        refine SL.mv ⟨rfl, rfl, rfl, rfl⟩ rfl ?_
        refine SL.call (vs := [_, _]) (Hin := [_, _, _, _]) (Hr := _) ⟨rfl, rfl, rfl, rfl⟩ rfl ⟨rfl, rfl, trivial⟩ cal35 rfl rfl (c_device_Device_holds hy2) ?_
        rintro _ _ ⟨rfl, rfl⟩
        refine ⟨trivial, ?_⟩
        refine SL.asg ⟨rfl, rfl, rfl, rfl⟩ rfl ?_
        refine SL.asg ⟨rfl, rfl, rfl, rfl⟩ rfl ?_
        refine SL.nx ?_
        refine SX.ret ?_
        obtain rfl := Option.some.inj h
        exact SQ.fret (res2 rfl rfl rfl) (ret_of (M := [_, _, _, _]) ⟨rfl, rfl⟩ fun _ hw => HpOk.pick (H := [_, _, _, _]) hw [0, 1, 2, 3] 4 rfl)

def f_device_Device_Write_j1 (y2 : Int × DevA) (l1 : List (UInt32 × List UInt8)) : Option (Int × DevA) :=
  some (y2.1, { y2.2 with pend := l1 })
def f_device_Device_Write (p0 : DevA) (p1 : UInt32) (p2 : List UInt8) : Option (Int × DevA) :=
  (f_device_Device_has p0 p1).bind fun y1 =>
  ret ((!y1) || (!decide ((p2.length : Int) = 256))) fun x1 =>
  cond x1
  (
    some (2, p0))
  (
    (f_device_power_spend p0).bind fun y2 =>
    cond (decide (y2.1 = 0))
    (
      (mputI y2.2.pend p1 p2).bind fun l2 =>
      f_device_Device_Write_j1 y2 l2)
    (
      f_device_Device_Write_j1 y2 y2.2.pend))
set_option maxRecDepth 100000 in
theorem c_device_Device_Write {b0_ : Nat} {v0x4_ : Value} {m0x5_ : Nat} {m0x6_ : Nat} {p0 : DevA} {p1 : UInt32} {p2 : List UInt8} {r : Int × DevA} (h : f_device_Device_Write p0 p1 p2 = some r)  : Con Try.prog K w0 13 [vP b0_ 0, vU32 p1, vS p2] [own b0_ (.cells #[vB p0.off, vB p0.isCut, vI p0.lasts, vI p0.counts, v0x4_, .map (some m0x5_), .map (some m0x6_), vU64 p0.rcnt, vS p0.rtag, vU32 p0.rboots] 60), rowT 9 1 v0x4_ eS p0.blocks, mapC m0x5_ vU32 vS p0.pend, mapC m0x6_ vU32 vB p0.bad] H (fun u M => u = vI r.1 ∧ M = [own b0_ (.cells #[vB r.2.off, vB r.2.isCut, vI r.2.lasts, vI r.2.counts, v0x4_, .map (some m0x5_), .map (some m0x6_), vU64 r.2.rcnt, vS r.2.rtag, vU32 r.2.rboots] 60), rowT 9 1 v0x4_ eS r.2.blocks, mapC m0x5_ vU32 vS r.2.pend, mapC m0x6_ vU32 vB r.2.bad]) := by
  unfold f_device_Device_Write at h
  refine Con.enter Try.func13 rfl rfl ?_
  refine SX.sr ?_
  refine SL.asg ⟨rfl, rfl, rfl, rfl⟩ rfl ?_
  refine SL.nx ?_
  refine SX.seq ?_
  refine SX.block ?_
  refine SX.sr ?_
  refine SL.mv ⟨rfl, rfl, rfl, rfl⟩ rfl ?_
  refine SL.eqPN ⟨rfl, rfl, rfl, rfl⟩ ty24 rfl rfl ?_
  refine SL.asg ⟨rfl, rfl, rfl, rfl⟩ rfl ?_
  refine SL.nx ?_
  refine SX.condF rfl ?_
  refine SX.sr ?_
  obtain ⟨y1, hy1, h⟩ := bnd h
  obtain ⟨x1, ex1, h⟩ := retE h
  refine SL.mv ⟨rfl, rfl, rfl, rfl⟩ rfl ?_
  refine SL.mv ⟨rfl, rfl, rfl, rfl⟩ rfl ?_
  refine SL.call (vs := [_, _]) (Hin := [_, _, _, _]) (Hr := _) ⟨rfl, rfl, rfl, rfl⟩ rfl ⟨rfl, rfl, trivial⟩ cal37 rfl rfl (c_device_Device_has hy1) ?_
  rintro _ _ ⟨rfl, rfl⟩
  refine ⟨trivial, ?_⟩
  refine SL.not ⟨rfl, rfl, rfl, rfl⟩ rfl ?_
  refine SL.mv ⟨rfl, rfl, rfl, rfl⟩ rfl ?_
  refine SL.or (c := !decide ((p2.length : Int) = 256)) 16 4 20 rfl (fun hb k => ?_) (fun hb k => ?_) ?_
  · skip
    refine SL.pass rfl rfl rfl ?_
    refine SL.pass rfl rfl rfl ?_
    refine SL.pass rfl rfl rfl ?_
    refine SL.pk ⟨rfl, rfl, rfl, rfl⟩ rfl rfl ?_
    exact k.mono (by repeat' (first | exact trivial | refine And.intro rfl ?_))
  · skip
    refine SL.mv ⟨rfl, rfl, rfl, rfl⟩ rfl ?_
    refine SL.lenS ⟨rfl, rfl, rfl, rfl⟩ ty9 rfl ?_
    refine SL.bin ⟨rfl, rfl, rfl, rfl⟩ rfl rfl Bin.neI ?_
    refine SL.pk ⟨rfl, rfl, rfl, rfl⟩ rfl rfl ?_
    exact k.mono (by repeat' (first | exact trivial | refine And.intro rfl ?_))
  refine SL.asgX (u := vB x1) ⟨rfl, rfl, rfl, rfl⟩ rfl (congrArg vB ex1) ?_
  refine SL.nx ?_
  refine SX.cond rfl (fun hc2 => ?_) (fun hc2 => ?_)
  · skip
    replace h := cT hc2 h
    refine SX.sr ?_
    refine SL.asg ⟨rfl, rfl, rfl, rfl⟩ rfl ?_
    refine SL.nx ?_
    refine SX.ret ?_
    refine SQ.blkR ?_
    refine SQ.thnR ?_
    obtain rfl := Option.some.inj h
    exact SQ.fret (res1 rfl rfl) (ret_of (M := [_, _, _, _]) ⟨rfl, rfl⟩ fun _ hw => HpOk.pick (H := [_, _, _, _]) hw [0, 1, 2, 3] 4 rfl)
  · skip
    replace h := cF hc2 h
    refine SX.skip ?_
    refine SQ.blk ?_
    refine SQ.thn ?_
    refine SX.sr ?_
    obtain ⟨y2, hy2, h⟩ := bnd h
    refine SL.mv ⟨rfl, rfl, rfl, rfl⟩ rfl ?_
    refine SL.nchk ⟨rfl, rfl, rfl, rfl⟩ rfl ?_
    refine SL.fa ⟨rfl, rfl, rfl, rfl⟩ rfl fo60_0 ?_
    refine SL.call (vs := [_]) (Hin := [_, _, _, _]) (Hr := _) ⟨rfl, rfl, rfl, rfl⟩ rfl ⟨rfl, trivial⟩ cal38 rfl rfl (c_device_power_spend hy2) ?_
    rintro _ _ ⟨rfl, rfl⟩
    refine ⟨trivial, ?_⟩
    refine SL.asg ⟨rfl, rfl, rfl, rfl⟩ rfl ?_
    refine SL.nx ?_
    refine SX.meetD (α := List (UInt32 × List UInt8)) (fun x => f_device_Device_Write_j1 y2 x = some r) (fun x => [(0, vP b0_ 0), (7, vI y2.1)]) (fun x => own b0_ (.cells #[vB y2.2.off, vB y2.2.isCut, vI y2.2.lasts, vI y2.2.counts, v0x4_, .map (some m0x5_), .map (some m0x6_), vU64 y2.2.rcnt, vS y2.2.rtag, vU32 y2.2.rboots] 60) :: rowT 9 1 v0x4_ eS y2.2.blocks :: mapC m0x5_ vU32 vS x :: mapC m0x6_ vU32 vB y2.2.bad :: H) ?_ (fun l1 D h => ?_)
    · skip
      refine SX.sr ?_
      refine SL.mv ⟨rfl, rfl, rfl, rfl⟩ rfl ?_
      refine SL.bin ⟨rfl, rfl, rfl, rfl⟩ rfl rfl Bin.eqI ?_
      refine SL.nx ?_
      refine SX.cond rfl (fun hc3 => ?_) (fun hc3 => ?_)
      · skip
        replace h := cT hc3 h
        refine SX.region ?_
        obtain ⟨l2, hl2, h⟩ := bnd h
        refine SL.mv ⟨rfl, rfl, rfl, rfl⟩ rfl ?_
        refine SL.nchk ⟨rfl, rfl, rfl, rfl⟩ rfl ?_
        refine SL.fa ⟨rfl, rfl, rfl, rfl⟩ rfl fo60_2 ?_
        refine SL.ld ⟨rfl, rfl, rfl, rfl⟩ sc55 rfl (cell_own 0 rfl rfl) ?_
        refine SL.mv ⟨rfl, rfl, rfl, rfl⟩ rfl ?_
        refine SL.mv ⟨rfl, rfl, rfl, rfl⟩ rfl ?_
        refine SL.mupN 2 hl2 (MapE.u32S ty32) ⟨rfl, rfl, rfl⟩ ty55 rfl rfl rfl rfl trivial ?_
        refine SL.nil ?_
        exact SQ.midD l2 h (by repeat' (first | exact trivial | refine And.intro rfl ?_)) (fun _ hw => HpOk.pick (H := [_, _, _, _]) hw [0, 1, 2, 3] 4 rfl)
      · skip
        replace h := cF hc3 h
        refine SX.skip ?_
        exact SQ.midD y2.2.pend h (by repeat' (first | exact trivial | refine And.intro rfl ?_)) (fun _ hw => HpOk.pick (H := [_, _, _, _]) hw [0, 1, 2, 3] 4 rfl)
    · skip
      unfold f_device_Device_Write_j1 at h
      refine SX.re [(0, vP b0_ 0), (7, vI y2.1)] (own b0_ (.cells #[vB y2.2.off, vB y2.2.isCut, vI y2.2.lasts, vI y2.2.counts, v0x4_, .map (some m0x5_), .map (some m0x6_), vU64 y2.2.rcnt, vS y2.2.rtag, vU32 y2.2.rboots] 60) :: rowT 9 1 v0x4_ eS y2.2.blocks :: mapC m0x5_ vU32 vS l1 :: mapC m0x6_ vU32 vB y2.2.bad :: H) ?_ (by repeat' (first | exact trivial | refine And.intro rfl ?_))
      refine SX.sr ?_
      refine SL.mv ⟨rfl, rfl, rfl, rfl⟩ rfl ?_
      refine SL.asg ⟨rfl, rfl, rfl, rfl⟩ rfl ?_
      refine SL.nx ?_
      refine SX.ret ?_
      obtain rfl := Option.some.inj h
      exact SQ.fret (res1 rfl rfl) (ret_of (M := [_, _, _, _]) ⟨rfl, rfl⟩ fun _ hw => HpOk.pick (H := [_, _, _, _]) hw [0, 1, 2, 3] 4 rfl)

def f_device_Device_Cut (p0 : DevA) (p1 : Int) : Option DevA :=
  (f_device_power_set p0 p1).bind fun y1 =>
  some y1
set_option maxRecDepth 100000 in
theorem c_device_Device_Cut {b0_ : Nat} {v0x4_ : Value} {m0x5_ : Nat} {m0x6_ : Nat} {p0 : DevA} {p1 : Int} {r : DevA} (h : f_device_Device_Cut p0 p1 = some r)  : Con Try.prog K w0 15 [vP b0_ 0, vI p1] [own b0_ (.cells #[vB p0.off, vB p0.isCut, vI p0.lasts, vI p0.counts, v0x4_, .map (some m0x5_), .map (some m0x6_), vU64 p0.rcnt, vS p0.rtag, vU32 p0.rboots] 60), rowT 9 1 v0x4_ eS p0.blocks, mapC m0x5_ vU32 vS p0.pend, mapC m0x6_ vU32 vB p0.bad] H (fun u M => u = .tuple #[] ∧ M = [own b0_ (.cells #[vB r.off, vB r.isCut, vI r.lasts, vI r.counts, v0x4_, .map (some m0x5_), .map (some m0x6_), vU64 r.rcnt, vS r.rtag, vU32 r.rboots] 60), rowT 9 1 v0x4_ eS r.blocks, mapC m0x5_ vU32 vS r.pend, mapC m0x6_ vU32 vB r.bad]) := by
  unfold f_device_Device_Cut at h
  refine Con.enter Try.func15 rfl rfl ?_
  refine SX.sr ?_
  refine SL.mv ⟨rfl, rfl, rfl, rfl⟩ rfl ?_
  refine SL.nePN ⟨rfl, rfl, rfl, rfl⟩ ty24 rfl rfl ?_
  refine SL.nx ?_
  refine SX.condT rfl ?_
  refine SX.region ?_
  obtain ⟨y1, hy1, h⟩ := bnd h
  refine SL.mv ⟨rfl, rfl, rfl, rfl⟩ rfl ?_
  refine SL.nchk ⟨rfl, rfl, rfl, rfl⟩ rfl ?_
  refine SL.fa ⟨rfl, rfl, rfl, rfl⟩ rfl fo60_0 ?_
  refine SL.mv ⟨rfl, rfl, rfl, rfl⟩ rfl ?_
  refine SL.call (vs := [_, _]) (Hin := [_, _, _, _]) (Hr := _) ⟨rfl, rfl, rfl, rfl⟩ rfl ⟨rfl, rfl, trivial⟩ cal39 rfl rfl (c_device_power_set hy1) ?_
  rintro _ _ ⟨rfl, rfl⟩
  refine ⟨trivial, ?_⟩
  refine SL.nil ?_
  obtain rfl := Option.some.inj h
  exact SQ.fend (res0 rfl) (ret_of (M := [_, _, _, _]) ⟨rfl, rfl⟩ fun _ hw => HpOk.pick (H := [_, _, _, _]) hw [0, 1, 2, 3] 4 rfl)

def f_device_Device_Put (p0 : DevA) (p1 : UInt32) (p2 : List UInt8) : Option (Int × DevA) :=
  (f_device_Device_has p0 p1).bind fun y1 =>
  ret ((!y1) || (!decide ((p2.length : Int) = 256))) fun x1 =>
  cond x1
  (
    some (2, p0))
  (
    (nthI p0.blocks (p1.toNat : Int)).bind fun x2 =>
    (setI p0.blocks (p1.toNat : Int) p2).bind fun l1 =>
    some (0, { p0 with blocks := l1, pend := mdel p0.pend p1 }))
set_option maxRecDepth 100000 in
theorem c_device_Device_Put {b0_ : Nat} {v0x4_ : Value} {m0x5_ : Nat} {m0x6_ : Nat} {p0 : DevA} {p1 : UInt32} {p2 : List UInt8} {r : Int × DevA} (h : f_device_Device_Put p0 p1 p2 = some r)  : Con Try.prog K w0 30 [vP b0_ 0, vU32 p1, vS p2] [own b0_ (.cells #[vB p0.off, vB p0.isCut, vI p0.lasts, vI p0.counts, v0x4_, .map (some m0x5_), .map (some m0x6_), vU64 p0.rcnt, vS p0.rtag, vU32 p0.rboots] 60), rowT 9 1 v0x4_ eS p0.blocks, mapC m0x5_ vU32 vS p0.pend, mapC m0x6_ vU32 vB p0.bad] H (fun u M => u = vI r.1 ∧ M = [own b0_ (.cells #[vB r.2.off, vB r.2.isCut, vI r.2.lasts, vI r.2.counts, v0x4_, .map (some m0x5_), .map (some m0x6_), vU64 r.2.rcnt, vS r.2.rtag, vU32 r.2.rboots] 60), rowT 9 1 v0x4_ eS r.2.blocks, mapC m0x5_ vU32 vS r.2.pend, mapC m0x6_ vU32 vB r.2.bad]) := by
  unfold f_device_Device_Put at h
  refine Con.enter Try.func30 rfl rfl ?_
  refine SX.sr ?_
  refine SL.asg ⟨rfl, rfl, rfl, rfl⟩ rfl ?_
  refine SL.nx ?_
  refine SX.seq ?_
  refine SX.block ?_
  refine SX.sr ?_
  refine SL.mv ⟨rfl, rfl, rfl, rfl⟩ rfl ?_
  refine SL.eqPN ⟨rfl, rfl, rfl, rfl⟩ ty24 rfl rfl ?_
  refine SL.asg ⟨rfl, rfl, rfl, rfl⟩ rfl ?_
  refine SL.nx ?_
  refine SX.condF rfl ?_
  refine SX.sr ?_
  obtain ⟨y1, hy1, h⟩ := bnd h
  obtain ⟨x1, ex1, h⟩ := retE h
  refine SL.mv ⟨rfl, rfl, rfl, rfl⟩ rfl ?_
  refine SL.mv ⟨rfl, rfl, rfl, rfl⟩ rfl ?_
  refine SL.call (vs := [_, _]) (Hin := [_, _, _, _]) (Hr := _) ⟨rfl, rfl, rfl, rfl⟩ rfl ⟨rfl, rfl, trivial⟩ cal37 rfl rfl (c_device_Device_has hy1) ?_
  rintro _ _ ⟨rfl, rfl⟩
  refine ⟨trivial, ?_⟩
  refine SL.not ⟨rfl, rfl, rfl, rfl⟩ rfl ?_
  refine SL.mv ⟨rfl, rfl, rfl, rfl⟩ rfl ?_
  refine SL.or (c := !decide ((p2.length : Int) = 256)) 15 4 19 rfl (fun hb k => ?_) (fun hb k => ?_) ?_
  · skip
    refine SL.pass rfl rfl rfl ?_
    refine SL.pass rfl rfl rfl ?_
    refine SL.pass rfl rfl rfl ?_
    refine SL.pk ⟨rfl, rfl, rfl, rfl⟩ rfl rfl ?_
    exact k.mono (by repeat' (first | exact trivial | refine And.intro rfl ?_))
  · skip
    refine SL.mv ⟨rfl, rfl, rfl, rfl⟩ rfl ?_
    refine SL.lenS ⟨rfl, rfl, rfl, rfl⟩ ty9 rfl ?_
    refine SL.bin ⟨rfl, rfl, rfl, rfl⟩ rfl rfl Bin.neI ?_
    refine SL.pk ⟨rfl, rfl, rfl, rfl⟩ rfl rfl ?_
    exact k.mono (by repeat' (first | exact trivial | refine And.intro rfl ?_))
  refine SL.asgX (u := vB x1) ⟨rfl, rfl, rfl, rfl⟩ rfl (congrArg vB ex1) ?_
  refine SL.nx ?_
  refine SX.cond rfl (fun hc2 => ?_) (fun hc2 => ?_)
  · skip
    replace h := cT hc2 h
    refine SX.sr ?_
    refine SL.asg ⟨rfl, rfl, rfl, rfl⟩ rfl ?_
    refine SL.nx ?_
    refine SX.ret ?_
    refine SQ.blkR ?_
    refine SQ.thnR ?_
    obtain rfl := Option.some.inj h
    exact SQ.fret (res1 rfl rfl) (ret_of (M := [_, _, _, _]) ⟨rfl, rfl⟩ fun _ hw => HpOk.pick (H := [_, _, _, _]) hw [0, 1, 2, 3] 4 rfl)
  · skip
    replace h := cF hc2 h
    refine SX.skip ?_
    refine SQ.blk ?_
    refine SQ.thn ?_
    refine SX.sr ?_
    obtain ⟨x2, hx2, h⟩ := bnd h
    obtain ⟨l1, hl1, h⟩ := bnd h
    refine SL.mv ⟨rfl, rfl, rfl, rfl⟩ rfl ?_
    refine SL.nchk ⟨rfl, rfl, rfl, rfl⟩ rfl ?_
    refine SL.fa ⟨rfl, rfl, rfl, rfl⟩ rfl fo60_1 ?_
    refine SL.ld ⟨rfl, rfl, rfl, rfl⟩ sc37 rfl (cell_own 0 rfl rfl) ?_
    refine SL.mv ⟨rfl, rfl, rfl, rfl⟩ rfl ?_
    refine SL.mv ⟨rfl, rfl, rfl, rfl⟩ rfl ?_
    refine SL.iaT 1 hx2 ⟨rfl, rfl, rfl, rfl⟩ ty37 sz9 rfl rfl rfl fun g1 m1 cp1 hv1 => ?_
    refine SL.stTN (sz := 1) (enc := eS) 1 hl1 (fun _ => rfl) ⟨rfl, rfl, rfl⟩ rfl rfl rfl rfl hv1 sz9 (by simp [Value.oneCell']) trivial ?_
    refine SL.nx ?_
    refine SX.sr ?_
    refine SL.mv ⟨rfl, rfl, rfl, rfl⟩ rfl ?_
    refine SL.nchk ⟨rfl, rfl, rfl, rfl⟩ rfl ?_
    refine SL.fa ⟨rfl, rfl, rfl, rfl⟩ rfl fo60_2 ?_
    refine SL.ld ⟨rfl, rfl, rfl, rfl⟩ sc55 rfl (cell_own 0 rfl rfl) ?_
    refine SL.mv ⟨rfl, rfl, rfl, rfl⟩ rfl ?_
    refine SL.mdl 2 (MapE.u32S ty32) rfl rfl rfl rfl ty55 rfl rfl rfl trivial ?_
    refine SL.nx ?_
    refine SX.sr ?_
    refine SL.asg ⟨rfl, rfl, rfl, rfl⟩ rfl ?_
    refine SL.nx ?_
    refine SX.ret ?_
    obtain rfl := Option.some.inj h
    exact SQ.fret (res1 rfl rfl) (ret_of (M := [_, _, _, _]) ⟨rfl, rfl⟩ fun _ hw => HpOk.pick (H := [_, _, _, _]) hw [0, 1, 2, 3] 4 rfl)

def f_device_Device_Bad (p0 : DevA) (p1 : UInt32) (p2 : Bool) : Option (Int × DevA) :=
  (f_device_Device_has p0 p1).bind fun y1 =>
  ret (!y1) fun x1 =>
  cond x1
  (
    some (2, p0))
  (
    (mputI p0.bad p1 p2).bind fun l1 =>
    some (0, { p0 with bad := l1 }))
set_option maxRecDepth 100000 in
theorem c_device_Device_Bad {b0_ : Nat} {v0x4_ : Value} {m0x5_ : Nat} {m0x6_ : Nat} {p0 : DevA} {p1 : UInt32} {p2 : Bool} {r : Int × DevA} (h : f_device_Device_Bad p0 p1 p2 = some r)  : Con Try.prog K w0 32 [vP b0_ 0, vU32 p1, vB p2] [own b0_ (.cells #[vB p0.off, vB p0.isCut, vI p0.lasts, vI p0.counts, v0x4_, .map (some m0x5_), .map (some m0x6_), vU64 p0.rcnt, vS p0.rtag, vU32 p0.rboots] 60), rowT 9 1 v0x4_ eS p0.blocks, mapC m0x5_ vU32 vS p0.pend, mapC m0x6_ vU32 vB p0.bad] H (fun u M => u = vI r.1 ∧ M = [own b0_ (.cells #[vB r.2.off, vB r.2.isCut, vI r.2.lasts, vI r.2.counts, v0x4_, .map (some m0x5_), .map (some m0x6_), vU64 r.2.rcnt, vS r.2.rtag, vU32 r.2.rboots] 60), rowT 9 1 v0x4_ eS r.2.blocks, mapC m0x5_ vU32 vS r.2.pend, mapC m0x6_ vU32 vB r.2.bad]) := by
  unfold f_device_Device_Bad at h
  refine Con.enter Try.func32 rfl rfl ?_
  refine SX.sr ?_
  refine SL.asg ⟨rfl, rfl, rfl, rfl⟩ rfl ?_
  refine SL.nx ?_
  refine SX.seq ?_
  refine SX.block ?_
  refine SX.sr ?_
  refine SL.mv ⟨rfl, rfl, rfl, rfl⟩ rfl ?_
  refine SL.eqPN ⟨rfl, rfl, rfl, rfl⟩ ty24 rfl rfl ?_
  refine SL.asg ⟨rfl, rfl, rfl, rfl⟩ rfl ?_
  refine SL.nx ?_
  refine SX.condF rfl ?_
  refine SX.sr ?_
  obtain ⟨y1, hy1, h⟩ := bnd h
  obtain ⟨x1, ex1, h⟩ := retE h
  refine SL.mv ⟨rfl, rfl, rfl, rfl⟩ rfl ?_
  refine SL.mv ⟨rfl, rfl, rfl, rfl⟩ rfl ?_
  refine SL.call (vs := [_, _]) (Hin := [_, _, _, _]) (Hr := _) ⟨rfl, rfl, rfl, rfl⟩ rfl ⟨rfl, rfl, trivial⟩ cal37 rfl rfl (c_device_Device_has hy1) ?_
  rintro _ _ ⟨rfl, rfl⟩
  refine ⟨trivial, ?_⟩
  refine SL.not ⟨rfl, rfl, rfl, rfl⟩ rfl ?_
  refine SL.asgX (u := vB x1) ⟨rfl, rfl, rfl, rfl⟩ rfl (congrArg vB ex1) ?_
  refine SL.nx ?_
  refine SX.cond rfl (fun hc2 => ?_) (fun hc2 => ?_)
  · skip
    replace h := cT hc2 h
    refine SX.sr ?_
    refine SL.asg ⟨rfl, rfl, rfl, rfl⟩ rfl ?_
    refine SL.nx ?_
    refine SX.ret ?_
    refine SQ.blkR ?_
    refine SQ.thnR ?_
    obtain rfl := Option.some.inj h
    exact SQ.fret (res1 rfl rfl) (ret_of (M := [_, _, _, _]) ⟨rfl, rfl⟩ fun _ hw => HpOk.pick (H := [_, _, _, _]) hw [0, 1, 2, 3] 4 rfl)
  · skip
    replace h := cF hc2 h
    refine SX.skip ?_
    refine SQ.blk ?_
    refine SQ.thn ?_
    refine SX.sr ?_
    obtain ⟨l1, hl1, h⟩ := bnd h
    refine SL.mv ⟨rfl, rfl, rfl, rfl⟩ rfl ?_
    refine SL.nchk ⟨rfl, rfl, rfl, rfl⟩ rfl ?_
    refine SL.fa ⟨rfl, rfl, rfl, rfl⟩ rfl fo60_3 ?_
    refine SL.ld ⟨rfl, rfl, rfl, rfl⟩ sc56 rfl (cell_own 0 rfl rfl) ?_
    refine SL.mv ⟨rfl, rfl, rfl, rfl⟩ rfl ?_
    refine SL.mv ⟨rfl, rfl, rfl, rfl⟩ rfl ?_
    refine SL.mupN 3 hl1 (MapE.u32B ty32) ⟨rfl, rfl, rfl⟩ ty56 rfl rfl rfl rfl trivial ?_
    refine SL.nx ?_
    refine SX.sr ?_
    refine SL.asg ⟨rfl, rfl, rfl, rfl⟩ rfl ?_
    refine SL.nx ?_
    refine SX.ret ?_
    obtain rfl := Option.some.inj h
    exact SQ.fret (res1 rfl rfl) (ret_of (M := [_, _, _, _]) ⟨rfl, rfl⟩ fun _ hw => HpOk.pick (H := [_, _, _, _]) hw [0, 1, 2, 3] 4 rfl)

def f_device_Device_Start (p0 : DevA) : Option (UInt32 × Int × DevA) :=
  ret (decide (p0.rboots = 4294967295)) fun x1 =>
  cond x1
  (
    some (0, 72, p0))
  (
    (f_device_power_spend p0).bind fun y1 =>
    cond (!decide (y1.1 = 0))
    (
      some (0, y1.1, y1.2))
    (
      ret (y1.2.rboots + 1) fun x2 =>
      some (x2, 0, { y1.2 with rboots := y1.2.rboots + 1 })))
set_option maxRecDepth 100000 in
theorem c_device_Device_Start {b0_ : Nat} {v0x4_ : Value} {m0x5_ : Nat} {m0x6_ : Nat} {p0 : DevA} {r : UInt32 × Int × DevA} (h : f_device_Device_Start p0 = some r)  : Con Try.prog K w0 26 [vP b0_ 0] [own b0_ (.cells #[vB p0.off, vB p0.isCut, vI p0.lasts, vI p0.counts, v0x4_, .map (some m0x5_), .map (some m0x6_), vU64 p0.rcnt, vS p0.rtag, vU32 p0.rboots] 60), rowT 9 1 v0x4_ eS p0.blocks, mapC m0x5_ vU32 vS p0.pend, mapC m0x6_ vU32 vB p0.bad] H (fun u M => u = .tuple #[vU32 r.1, vI r.2.1] ∧ M = [own b0_ (.cells #[vB r.2.2.off, vB r.2.2.isCut, vI r.2.2.lasts, vI r.2.2.counts, v0x4_, .map (some m0x5_), .map (some m0x6_), vU64 r.2.2.rcnt, vS r.2.2.rtag, vU32 r.2.2.rboots] 60), rowT 9 1 v0x4_ eS r.2.2.blocks, mapC m0x5_ vU32 vS r.2.2.pend, mapC m0x6_ vU32 vB r.2.2.bad]) := by
  unfold f_device_Device_Start at h
  refine Con.enter Try.func26 rfl rfl ?_
  refine SX.sr ?_
  refine SL.asg ⟨rfl, rfl, rfl, rfl⟩ rfl ?_
  refine SL.asg ⟨rfl, rfl, rfl, rfl⟩ rfl ?_
  refine SL.nx ?_
  refine SX.seq ?_
  refine SX.block ?_
  refine SX.sr ?_
  refine SL.mv ⟨rfl, rfl, rfl, rfl⟩ rfl ?_
  refine SL.eqPN ⟨rfl, rfl, rfl, rfl⟩ ty24 rfl rfl ?_
  refine SL.asg ⟨rfl, rfl, rfl, rfl⟩ rfl ?_
  refine SL.nx ?_
  refine SX.condF rfl ?_
  refine SX.sr ?_
  obtain ⟨x1, ex1, h⟩ := retE h
  refine SL.mv ⟨rfl, rfl, rfl, rfl⟩ rfl ?_
  refine SL.nchk ⟨rfl, rfl, rfl, rfl⟩ rfl ?_
  refine SL.fa ⟨rfl, rfl, rfl, rfl⟩ rfl fo60_4 ?_
  refine SL.fa ⟨rfl, rfl, rfl, rfl⟩ rfl fo41_2 ?_
  refine SL.ld ⟨rfl, rfl, rfl, rfl⟩ sc32 rfl (cell_own 0 rfl rfl) ?_
  refine SL.bin ⟨rfl, rfl, rfl, rfl⟩ rfl rfl (Bin.eq32 (b := 4294967295)) ?_
  refine SL.asgX (u := vB x1) ⟨rfl, rfl, rfl, rfl⟩ rfl (congrArg vB ex1) ?_
  refine SL.nx ?_
  refine SX.cond rfl (fun hc2 => ?_) (fun hc2 => ?_)
  · skip
    replace h := cT hc2 h
    refine SX.sr ?_
    refine SL.asg ⟨rfl, rfl, rfl, rfl⟩ rfl ?_
    refine SL.asg ⟨rfl, rfl, rfl, rfl⟩ rfl ?_
    refine SL.nx ?_
    refine SX.ret ?_
    refine SQ.blkR ?_
    refine SQ.thnR ?_
    obtain rfl := Option.some.inj h
    exact SQ.fret (res2 rfl rfl rfl) (ret_of (M := [_, _, _, _]) ⟨rfl, rfl⟩ fun _ hw => HpOk.pick (H := [_, _, _, _]) hw [0, 1, 2, 3] 4 rfl)
  · skip
    replace h := cF hc2 h
    refine SX.skip ?_
    refine SQ.blk ?_
    refine SQ.thn ?_
    refine SX.seq ?_
    refine SX.sr ?_
    obtain ⟨y1, hy1, h⟩ := bnd h
    refine SL.mv ⟨rfl, rfl, rfl, rfl⟩ rfl ?_
    refine SL.nchk ⟨rfl, rfl, rfl, rfl⟩ rfl ?_
    refine SL.fa ⟨rfl, rfl, rfl, rfl⟩ rfl fo60_0 ?_
    refine SL.call (vs := [_]) (Hin := [_, _, _, _]) (Hr := _) ⟨rfl, rfl, rfl, rfl⟩ rfl ⟨rfl, trivial⟩ cal38 rfl rfl (c_device_power_spend hy1) ?_
    rintro _ _ ⟨rfl, rfl⟩
    refine ⟨trivial, ?_⟩
    refine SL.asg ⟨rfl, rfl, rfl, rfl⟩ rfl ?_
    refine SL.nx ?_
    refine SX.sr ?_
    refine SL.mv ⟨rfl, rfl, rfl, rfl⟩ rfl ?_
    refine SL.bin ⟨rfl, rfl, rfl, rfl⟩ rfl rfl Bin.neI ?_
    refine SL.nx ?_
    refine SX.cond rfl (fun hc3 => ?_) (fun hc3 => ?_)
    · skip
      replace h := cT hc3 h
      refine SX.sr ?_
      refine SL.mv ⟨rfl, rfl, rfl, rfl⟩ rfl ?_
      refine SL.asg ⟨rfl, rfl, rfl, rfl⟩ rfl ?_
      refine SL.asg ⟨rfl, rfl, rfl, rfl⟩ rfl ?_
      refine SL.nx ?_
      refine SX.ret ?_
      refine SQ.thnR ?_
      obtain rfl := Option.some.inj h
      exact SQ.fret (res2 rfl rfl rfl) (ret_of (M := [_, _, _, _]) ⟨rfl, rfl⟩ fun _ hw => HpOk.pick (H := [_, _, _, _]) hw [0, 1, 2, 3] 4 rfl)
    · skip
      replace h := cF hc3 h
      refine SX.skip ?_
      refine SQ.thn ?_
      refine SX.sr ?_
      refine SL.mv ⟨rfl, rfl, rfl, rfl⟩ rfl ?_
      refine SL.nchk ⟨rfl, rfl, rfl, rfl⟩ rfl ?_
      refine SL.fa ⟨rfl, rfl, rfl, rfl⟩ rfl fo60_4 ?_
      refine SL.fa ⟨rfl, rfl, rfl, rfl⟩ rfl fo41_2 ?_
      refine SL.ld ⟨rfl, rfl, rfl, rfl⟩ sc32 rfl (cell_own 0 rfl rfl) ?_
      refine SL.bin ⟨rfl, rfl, rfl, rfl⟩ rfl rfl (Bin.add32 (b := 1)) ?_
      refine SL.nchk ⟨rfl, rfl, rfl, rfl⟩ rfl ?_
      refine SL.fa ⟨rfl, rfl, rfl, rfl⟩ rfl fo60_4 ?_
      refine SL.fa ⟨rfl, rfl, rfl, rfl⟩ rfl fo41_2 ?_
      refine SL.st 0 ⟨rfl, rfl, rfl⟩ rfl rfl rfl sz32 rfl rfl rfl trivial ?_
      refine SL.nx ?_
      refine SX.sr ?_
      obtain ⟨x2, ex2, h⟩ := retE h
      refine SL.mv ⟨rfl, rfl, rfl, rfl⟩ rfl ?_
      refine SL.nchk ⟨rfl, rfl, rfl, rfl⟩ rfl ?_
      refine SL.fa ⟨rfl, rfl, rfl, rfl⟩ rfl fo60_4 ?_
      refine SL.fa ⟨rfl, rfl, rfl, rfl⟩ rfl fo41_2 ?_
      refine SL.ld ⟨rfl, rfl, rfl, rfl⟩ sc32 rfl (cell_own 0 rfl rfl) ?_
      refine SL.asgX (u := vU32 x2) ⟨rfl, rfl, rfl, rfl⟩ rfl (congrArg vU32 ex2) ?_
      refine SL.asg ⟨rfl, rfl, rfl, rfl⟩ rfl ?_
      refine SL.nx ?_
      refine SX.ret ?_
      obtain rfl := Option.some.inj h
      exact SQ.fret (res2 rfl rfl rfl) (ret_of (M := [_, _, _, _]) ⟨rfl, rfl⟩ fun _ hw => HpOk.pick (H := [_, _, _, _]) hw [0, 1, 2, 3] 4 rfl)

def f_device_Device_Advance_j1 (y1 : Int × DevA) (y2 : UInt64) (y3 : List UInt8) : Option (Int × DevA) :=
  some (y1.1, { y1.2 with rcnt := y2, rtag := y3 })
def f_device_Device_Advance (p0 : DevA) (p1 : List UInt8) : Option (Int × DevA) :=
  ret (!decide ((p1.length : Int) = 32)) fun x1 =>
  cond x1
  (
    some (2, p0))
  (
    ret (decide (p0.rcnt = 18446744073709551615)) fun x2 =>
    cond x2
    (
      some (72, p0))
    (
      (f_device_power_spend p0).bind fun y1 =>
      cond (decide (y1.1 = 0))
      (
        f_device_Device_Advance_j1 y1 (y1.2.rcnt + 1) p1)
      (
        f_device_Device_Advance_j1 y1 y1.2.rcnt y1.2.rtag)))
set_option maxRecDepth 100000 in
theorem c_device_Device_Advance {b0_ : Nat} {v0x4_ : Value} {m0x5_ : Nat} {m0x6_ : Nat} {p0 : DevA} {p1 : List UInt8} {r : Int × DevA} (h : f_device_Device_Advance p0 p1 = some r)  : Con Try.prog K w0 24 [vP b0_ 0, vS p1] [own b0_ (.cells #[vB p0.off, vB p0.isCut, vI p0.lasts, vI p0.counts, v0x4_, .map (some m0x5_), .map (some m0x6_), vU64 p0.rcnt, vS p0.rtag, vU32 p0.rboots] 60), rowT 9 1 v0x4_ eS p0.blocks, mapC m0x5_ vU32 vS p0.pend, mapC m0x6_ vU32 vB p0.bad] H (fun u M => u = vI r.1 ∧ M = [own b0_ (.cells #[vB r.2.off, vB r.2.isCut, vI r.2.lasts, vI r.2.counts, v0x4_, .map (some m0x5_), .map (some m0x6_), vU64 r.2.rcnt, vS r.2.rtag, vU32 r.2.rboots] 60), rowT 9 1 v0x4_ eS r.2.blocks, mapC m0x5_ vU32 vS r.2.pend, mapC m0x6_ vU32 vB r.2.bad]) := by
  unfold f_device_Device_Advance at h
  refine Con.enter Try.func24 rfl rfl ?_
  refine SX.sr ?_
  refine SL.asg ⟨rfl, rfl, rfl, rfl⟩ rfl ?_
  refine SL.nx ?_
  refine SX.seq ?_
  refine SX.block ?_
  refine SX.sr ?_
  refine SL.mv ⟨rfl, rfl, rfl, rfl⟩ rfl ?_
  refine SL.eqPN ⟨rfl, rfl, rfl, rfl⟩ ty24 rfl rfl ?_
  refine SL.asg ⟨rfl, rfl, rfl, rfl⟩ rfl ?_
  refine SL.nx ?_
  refine SX.condF rfl ?_
  refine SX.sr ?_
  obtain ⟨x1, ex1, h⟩ := retE h
  refine SL.mv ⟨rfl, rfl, rfl, rfl⟩ rfl ?_
  refine SL.lenS ⟨rfl, rfl, rfl, rfl⟩ ty9 rfl ?_
  refine SL.bin ⟨rfl, rfl, rfl, rfl⟩ rfl rfl Bin.neI ?_
  refine SL.asgX (u := vB x1) ⟨rfl, rfl, rfl, rfl⟩ rfl (congrArg vB ex1) ?_
  refine SL.nx ?_
  refine SX.cond rfl (fun hc2 => ?_) (fun hc2 => ?_)
  · skip
    replace h := cT hc2 h
    refine SX.sr ?_
    refine SL.asg ⟨rfl, rfl, rfl, rfl⟩ rfl ?_
    refine SL.nx ?_
    refine SX.ret ?_
    refine SQ.blkR ?_
    refine SQ.thnR ?_
    obtain rfl := Option.some.inj h
    exact SQ.fret (res1 rfl rfl) (ret_of (M := [_, _, _, _]) ⟨rfl, rfl⟩ fun _ hw => HpOk.pick (H := [_, _, _, _]) hw [0, 1, 2, 3] 4 rfl)
  · skip
    replace h := cF hc2 h
    refine SX.sr ?_
    obtain ⟨x2, ex2, h⟩ := retE h
    refine SL.mv ⟨rfl, rfl, rfl, rfl⟩ rfl ?_
    refine SL.nchk ⟨rfl, rfl, rfl, rfl⟩ rfl ?_
    refine SL.fa ⟨rfl, rfl, rfl, rfl⟩ rfl fo60_4 ?_
    refine SL.fa ⟨rfl, rfl, rfl, rfl⟩ rfl fo41_0 ?_
    refine SL.ld ⟨rfl, rfl, rfl, rfl⟩ sc39 rfl (cell_own 0 rfl rfl) ?_
    refine SL.bin ⟨rfl, rfl, rfl, rfl⟩ rfl rfl (Bin.eq64 (b := 18446744073709551615)) ?_
    refine SL.asgX (u := vB x2) ⟨rfl, rfl, rfl, rfl⟩ rfl (congrArg vB ex2) ?_
    refine SL.nx ?_
    refine SX.cond rfl (fun hc3 => ?_) (fun hc3 => ?_)
    · skip
      replace h := cT hc3 h
      refine SX.sr ?_
      refine SL.asg ⟨rfl, rfl, rfl, rfl⟩ rfl ?_
      refine SL.nx ?_
      refine SX.ret ?_
      refine SQ.blkR ?_
      refine SQ.thnR ?_
      obtain rfl := Option.some.inj h
      exact SQ.fret (res1 rfl rfl) (ret_of (M := [_, _, _, _]) ⟨rfl, rfl⟩ fun _ hw => HpOk.pick (H := [_, _, _, _]) hw [0, 1, 2, 3] 4 rfl)
    · skip
      replace h := cF hc3 h
      refine SX.skip ?_
      refine SQ.blk ?_
      refine SQ.thn ?_
      refine SX.sr ?_
      obtain ⟨y1, hy1, h⟩ := bnd h
      refine SL.mv ⟨rfl, rfl, rfl, rfl⟩ rfl ?_
      refine SL.nchk ⟨rfl, rfl, rfl, rfl⟩ rfl ?_
      refine SL.fa ⟨rfl, rfl, rfl, rfl⟩ rfl fo60_0 ?_
      refine SL.call (vs := [_]) (Hin := [_, _, _, _]) (Hr := _) ⟨rfl, rfl, rfl, rfl⟩ rfl ⟨rfl, trivial⟩ cal38 rfl rfl (c_device_power_spend hy1) ?_
      rintro _ _ ⟨rfl, rfl⟩
      refine ⟨trivial, ?_⟩
      refine SL.asg ⟨rfl, rfl, rfl, rfl⟩ rfl ?_
      refine SL.nx ?_
      refine SX.meetD (α := UInt64 × List UInt8) (fun x => f_device_Device_Advance_j1 y1 x.1 x.2 = some r) (fun x => [(0, vP b0_ 0), (5, vI y1.1)]) (fun x => own b0_ (.cells #[vB y1.2.off, vB y1.2.isCut, vI y1.2.lasts, vI y1.2.counts, v0x4_, .map (some m0x5_), .map (some m0x6_), vU64 x.1, vS x.2, vU32 y1.2.rboots] 60) :: rowT 9 1 v0x4_ eS y1.2.blocks :: mapC m0x5_ vU32 vS y1.2.pend :: mapC m0x6_ vU32 vB y1.2.bad :: H) ?_ (fun x D h => ?_)
      · skip
        refine SX.sr ?_
        refine SL.mv ⟨rfl, rfl, rfl, rfl⟩ rfl ?_
        refine SL.bin ⟨rfl, rfl, rfl, rfl⟩ rfl rfl Bin.eqI ?_
        refine SL.nx ?_
        refine SX.cond rfl (fun hc4 => ?_) (fun hc4 => ?_)
        · skip
          replace h := cT hc4 h
          refine SX.sr ?_
          refine SL.mv ⟨rfl, rfl, rfl, rfl⟩ rfl ?_
          refine SL.nchk ⟨rfl, rfl, rfl, rfl⟩ rfl ?_
          refine SL.fa ⟨rfl, rfl, rfl, rfl⟩ rfl fo60_4 ?_
          refine SL.fa ⟨rfl, rfl, rfl, rfl⟩ rfl fo41_0 ?_
          refine SL.ld ⟨rfl, rfl, rfl, rfl⟩ sc39 rfl (cell_own 0 rfl rfl) ?_
          refine SL.bin ⟨rfl, rfl, rfl, rfl⟩ rfl rfl (Bin.add64 (b := 1)) ?_
          refine SL.nchk ⟨rfl, rfl, rfl, rfl⟩ rfl ?_
          refine SL.fa ⟨rfl, rfl, rfl, rfl⟩ rfl fo60_4 ?_
          refine SL.fa ⟨rfl, rfl, rfl, rfl⟩ rfl fo41_0 ?_
          refine SL.st 0 ⟨rfl, rfl, rfl⟩ rfl rfl rfl sz39 rfl rfl rfl trivial ?_
          refine SL.nx ?_
          refine SX.region ?_
          refine SL.mv ⟨rfl, rfl, rfl, rfl⟩ rfl ?_
          refine SL.mv ⟨rfl, rfl, rfl, rfl⟩ rfl ?_
          refine SL.nchk ⟨rfl, rfl, rfl, rfl⟩ rfl ?_
          refine SL.fa ⟨rfl, rfl, rfl, rfl⟩ rfl fo60_4 ?_
          refine SL.fa ⟨rfl, rfl, rfl, rfl⟩ rfl fo41_1 ?_
          refine SL.st 0 ⟨rfl, rfl, rfl⟩ rfl rfl rfl sz9 rfl rfl rfl trivial ?_
          refine SL.nil ?_
          exact SQ.midD (y1.2.rcnt + 1, p1) h (by repeat' (first | exact trivial | refine And.intro rfl ?_)) (fun _ hw => HpOk.pick (H := [_, _, _, _]) hw [0, 1, 2, 3] 4 rfl)
        · skip
          replace h := cF hc4 h
          refine SX.skip ?_
          exact SQ.midD (y1.2.rcnt, y1.2.rtag) h (by repeat' (first | exact trivial | refine And.intro rfl ?_)) (fun _ hw => HpOk.pick (H := [_, _, _, _]) hw [0, 1, 2, 3] 4 rfl)
      · skip
        obtain ⟨y2, y3⟩ := x
        dsimp only at h
        unfold f_device_Device_Advance_j1 at h
        refine SX.re [(0, vP b0_ 0), (5, vI y1.1)] (own b0_ (.cells #[vB y1.2.off, vB y1.2.isCut, vI y1.2.lasts, vI y1.2.counts, v0x4_, .map (some m0x5_), .map (some m0x6_), vU64 y2, vS y3, vU32 y1.2.rboots] 60) :: rowT 9 1 v0x4_ eS y1.2.blocks :: mapC m0x5_ vU32 vS y1.2.pend :: mapC m0x6_ vU32 vB y1.2.bad :: H) ?_ (by repeat' (first | exact trivial | refine And.intro rfl ?_))
        refine SX.sr ?_
        refine SL.mv ⟨rfl, rfl, rfl, rfl⟩ rfl ?_
        refine SL.asg ⟨rfl, rfl, rfl, rfl⟩ rfl ?_
        refine SL.nx ?_
        refine SX.ret ?_
        obtain rfl := Option.some.inj h
        exact SQ.fret (res1 rfl rfl) (ret_of (M := [_, _, _, _]) ⟨rfl, rfl⟩ fun _ hw => HpOk.pick (H := [_, _, _, _]) hw [0, 1, 2, 3] 4 rfl)

def f_device_Device_Register (p0 : DevA) : Option RegA :=
  some (⟨p0.rcnt, p0.rtag, p0.rboots⟩ : RegA)
set_option maxRecDepth 100000 in
theorem c_device_Device_Register {b0_ : Nat} {v0x4_ : Value} {m0x5_ : Nat} {m0x6_ : Nat} {p0 : DevA} {r : RegA} (h : f_device_Device_Register p0 = some r)  : Con Try.prog K w0 11 [vP b0_ 0] [own b0_ (.cells #[vB p0.off, vB p0.isCut, vI p0.lasts, vI p0.counts, v0x4_, .map (some m0x5_), .map (some m0x6_), vU64 p0.rcnt, vS p0.rtag, vU32 p0.rboots] 60), rowT 9 1 v0x4_ eS p0.blocks, mapC m0x5_ vU32 vS p0.pend, mapC m0x6_ vU32 vB p0.bad] H (fun u M => u = .agg (encReg r).toArray ∧ M = [own b0_ (.cells #[vB p0.off, vB p0.isCut, vI p0.lasts, vI p0.counts, v0x4_, .map (some m0x5_), .map (some m0x6_), vU64 p0.rcnt, vS p0.rtag, vU32 p0.rboots] 60), rowT 9 1 v0x4_ eS p0.blocks, mapC m0x5_ vU32 vS p0.pend, mapC m0x6_ vU32 vB p0.bad]) := by
  unfold f_device_Device_Register at h
  refine Con.enter Try.func11 rfl rfl ?_
  refine SX.sr ?_
  refine SL.alloc ⟨rfl, rfl, rfl, rfl⟩ ze41 (fun _ => trivial) fun b1 => ?_
  refine SL.nx ?_
  refine SX.seq ?_
  refine SX.sr ?_
  refine SL.mv ⟨rfl, rfl, rfl, rfl⟩ rfl ?_
  refine SL.eqPN ⟨rfl, rfl, rfl, rfl⟩ ty24 rfl rfl ?_
  refine SL.nx ?_
  refine SX.condF rfl ?_
  refine SX.skip ?_
  refine SQ.thn ?_
  refine SX.sr ?_
  refine SL.mv ⟨rfl, rfl, rfl, rfl⟩ rfl ?_
  refine SL.nchk ⟨rfl, rfl, rfl, rfl⟩ rfl ?_
  refine SL.fa ⟨rfl, rfl, rfl, rfl⟩ rfl fo60_4 ?_
  refine SL.ldA [vU64 p0.rcnt, vS p0.rtag, vU32 p0.rboots] ⟨rfl, rfl, rfl, rfl⟩ ag41 rfl rfl (cells_own 1 rfl (by rintro (_ | (_ | (_ | j))) u hj <;> first | exact hj | exact absurd hj (by simp))) ?_
  refine SL.st 0 ⟨rfl, rfl, rfl⟩ rfl rfl rfl sz41 rfl rfl rfl trivial ?_
  refine SL.nx ?_
  refine SX.ret ?_
  obtain rfl := Option.some.inj h
  exact SQ.fret (resv1 rfl (resv.ag 0 (encReg (⟨p0.rcnt, p0.rtag, p0.rboots⟩ : RegA)) ag41 rfl rfl rfl rfl)) (ret_of (M := [_, _, _, _]) ⟨rfl, rfl⟩ fun _ hw => HpOk.pick (H := [_, _, _, _, _]) hw [1, 2, 3, 4] 5 rfl)

def f_device_Device_Blocks (p0 : DevA) : Option Int :=
  some (p0.blocks.length : Int)
set_option maxRecDepth 100000 in
theorem c_device_Device_Blocks {b0_ : Nat} {v0x4_ : Value} {m0x5_ : Nat} {m0x6_ : Nat} {p0 : DevA} {r : Int} (h : f_device_Device_Blocks p0 = some r)  : Con Try.prog K w0 12 [vP b0_ 0] [own b0_ (.cells #[vB p0.off, vB p0.isCut, vI p0.lasts, vI p0.counts, v0x4_, .map (some m0x5_), .map (some m0x6_), vU64 p0.rcnt, vS p0.rtag, vU32 p0.rboots] 60), rowT 9 1 v0x4_ eS p0.blocks, mapC m0x5_ vU32 vS p0.pend, mapC m0x6_ vU32 vB p0.bad] H (fun u M => u = vI r ∧ M = [own b0_ (.cells #[vB p0.off, vB p0.isCut, vI p0.lasts, vI p0.counts, v0x4_, .map (some m0x5_), .map (some m0x6_), vU64 p0.rcnt, vS p0.rtag, vU32 p0.rboots] 60), rowT 9 1 v0x4_ eS p0.blocks, mapC m0x5_ vU32 vS p0.pend, mapC m0x6_ vU32 vB p0.bad]) := by
  unfold f_device_Device_Blocks at h
  refine Con.enter Try.func12 rfl rfl ?_
  refine SX.sr ?_
  refine SL.asg ⟨rfl, rfl, rfl, rfl⟩ rfl ?_
  refine SL.nx ?_
  refine SX.seq ?_
  refine SX.sr ?_
  refine SL.mv ⟨rfl, rfl, rfl, rfl⟩ rfl ?_
  refine SL.eqPN ⟨rfl, rfl, rfl, rfl⟩ ty24 rfl rfl ?_
  refine SL.nx ?_
  refine SX.condF rfl ?_
  refine SX.skip ?_
  refine SQ.thn ?_
  refine SX.sr ?_
  refine SL.mv ⟨rfl, rfl, rfl, rfl⟩ rfl ?_
  refine SL.nchk ⟨rfl, rfl, rfl, rfl⟩ rfl ?_
  refine SL.fa ⟨rfl, rfl, rfl, rfl⟩ rfl fo60_1 ?_
  refine SL.ld ⟨rfl, rfl, rfl, rfl⟩ sc37 rfl (cell_own 0 rfl rfl) ?_
  refine SL.lenT 1 ⟨rfl, rfl, rfl, rfl⟩ ty37 rfl rfl ?_
  refine SL.asg ⟨rfl, rfl, rfl, rfl⟩ rfl ?_
  refine SL.nx ?_
  refine SX.ret ?_
  obtain rfl := Option.some.inj h
  exact SQ.fret (res1 rfl rfl) (ret_of (M := [_, _, _, _]) ⟨rfl, rfl⟩ fun _ hw => HpOk.pick (H := [_, _, _, _]) hw [0, 1, 2, 3] 4 rfl)

def f_device_Device_Image_j1 (l1 : List (List UInt8)) : Option (List (List UInt8)) :=
  some l1
def f_device_Device_Image_l1_b (p0 : DevA) (nx_f_device_Device_Image_l1 : List (List UInt8) × Int → Option (List (List UInt8))) (l2 : List (List UInt8)) (a1 : Int) : Option (List (List UInt8)) :=
  cond (decide (a1 < (p0.blocks.length : Int)))
  (
    (f_device_Device_holds p0 (toU32 a1)).bind fun y1 =>
    (appL 16 l2 [y1]).bind fun l3 =>
    nx_f_device_Device_Image_l1 (l3, wI (a1 + 1)))
  (
    f_device_Device_Image_j1 l2)
def f_device_Device_Image_l1 (p0 : DevA) : Nat → (List (List UInt8) × Int) → Option (List (List UInt8)) := loopN fun nx x => f_device_Device_Image_l1_b p0 nx x.1 x.2
def f_device_Device_Image (n : Nat) (p0 : DevA) : Option (List (List UInt8)) :=
  f_device_Device_Image_l1 p0 n ([], 0)
set_option maxRecDepth 100000 in
theorem c_device_Device_Image {n : Nat} {b0_ : Nat} {v0x4_ : Value} {m0x5_ : Nat} {m0x6_ : Nat} {p0 : DevA} {r : List (List UInt8)} (h : f_device_Device_Image n p0 = some r)  : Con Try.prog K w0 9 [vP b0_ 0] [own b0_ (.cells #[vB p0.off, vB p0.isCut, vI p0.lasts, vI p0.counts, v0x4_, .map (some m0x5_), .map (some m0x6_), vU64 p0.rcnt, vS p0.rtag, vU32 p0.rboots] 60), rowT 9 1 v0x4_ eS p0.blocks, mapC m0x5_ vU32 vS p0.pend, mapC m0x6_ vU32 vB p0.bad] H (fun u M => ∃ v0 : Value, u = v0 ∧ M = [rowT 9 1 v0 eS r, own b0_ (.cells #[vB p0.off, vB p0.isCut, vI p0.lasts, vI p0.counts, v0x4_, .map (some m0x5_), .map (some m0x6_), vU64 p0.rcnt, vS p0.rtag, vU32 p0.rboots] 60), rowT 9 1 v0x4_ eS p0.blocks, mapC m0x5_ vU32 vS p0.pend, mapC m0x6_ vU32 vB p0.bad]) := by
  unfold f_device_Device_Image at h
  refine Con.enter Try.func9 rfl rfl ?_
  refine SX.sr ?_
  refine SL.nilT 9 1 eS ?_
  refine SL.asg ⟨rfl, rfl, rfl, rfl⟩ rfl ?_
  refine SL.nx ?_
  refine SX.seq ?_
  refine SX.sr ?_
  refine SL.mv ⟨rfl, rfl, rfl, rfl⟩ rfl ?_
  refine SL.eqPN ⟨rfl, rfl, rfl, rfl⟩ ty24 rfl rfl ?_
  refine SL.nx ?_
  refine SX.condF rfl ?_
  refine SX.skip ?_
  refine SQ.thn ?_
  refine SX.sr ?_
  refine SL.nilT 9 1 eS ?_
  refine SL.asg ⟨rfl, rfl, rfl, rfl⟩ rfl ?_
  refine SL.nx ?_
  refine SX.meetD (α := List (List UInt8) × Value) (fun x => f_device_Device_Image_j1 x.1 = some r) (fun x => [(0, vP b0_ 0), (3, x.2)]) (fun x => own b0_ (.cells #[vB p0.off, vB p0.isCut, vI p0.lasts, vI p0.counts, v0x4_, .map (some m0x5_), .map (some m0x6_), vU64 p0.rcnt, vS p0.rtag, vU32 p0.rboots] 60) :: rowT 9 1 v0x4_ eS p0.blocks :: mapC m0x5_ vU32 vS p0.pend :: mapC m0x6_ vU32 vB p0.bad :: rowT 9 1 x.2 eS x.1 :: H) ?_ (fun x D h => ?_)
  · skip
    refine SX.sr ?_
    refine SL.mv ⟨rfl, rfl, rfl, rfl⟩ rfl ?_
    refine SL.nchk ⟨rfl, rfl, rfl, rfl⟩ rfl ?_
    refine SL.fa ⟨rfl, rfl, rfl, rfl⟩ rfl fo60_1 ?_
    refine SL.ld ⟨rfl, rfl, rfl, rfl⟩ sc37 rfl (cell_own 2 rfl rfl) ?_
    refine SL.lenT 3 ⟨rfl, rfl, rfl, rfl⟩ ty37 rfl rfl ?_
    refine SL.mv ⟨rfl, rfl, rfl, rfl⟩ rfl ?_
    refine SL.nx ?_
    refine SX.block ?_
    refine SX.heap (SX.mono (SX.loop (α := Nat × List (List UInt8) × Value × Int) (fun x => f_device_Device_Image_l1 p0 x.1 (x.2.1, x.2.2.2) = some r) (fun x => [(0, vP b0_ 0), (3, x.2.2.1), (11, vI (p0.blocks.length : Int)), (12, vI x.2.2.2)]) (fun x => own b0_ (.cells #[vB p0.off, vB p0.isCut, vI p0.lasts, vI p0.counts, v0x4_, .map (some m0x5_), .map (some m0x6_), vU64 p0.rcnt, vS p0.rtag, vU32 p0.rboots] 60) :: rowT 9 1 v0x4_ eS p0.blocks :: mapC m0x5_ vU32 vS p0.pend :: mapC m0x6_ vU32 vB p0.bad :: rowT 9 1 x.2.2.1 eS x.2.1 :: H) (fun x => x.1) (fun x D h => ?_) (n, [], .slice none 0 0, 0) h) (by repeat' (first | exact trivial | refine And.intro rfl ?_))) (fun _ hw => HpOk.pick (H := [_, _, _, _, _, _]) hw [2, 3, 4, 5, 0] 6 rfl)
    obtain ⟨m1, l2, v2, a1⟩ := x
    dsimp only at h
    rcases m1 with _ | m1
    · cases (show (none : Option _) = some r from h)
    replace h : f_device_Device_Image_l1_b p0 (f_device_Device_Image_l1 p0 m1) l2 a1 = some r := h
    unfold f_device_Device_Image_l1_b at h
    refine SX.re [(0, vP b0_ 0), (3, v2), (11, vI (p0.blocks.length : Int)), (12, vI a1)] (own b0_ (.cells #[vB p0.off, vB p0.isCut, vI p0.lasts, vI p0.counts, v0x4_, .map (some m0x5_), .map (some m0x6_), vU64 p0.rcnt, vS p0.rtag, vU32 p0.rboots] 60) :: rowT 9 1 v0x4_ eS p0.blocks :: mapC m0x5_ vU32 vS p0.pend :: mapC m0x6_ vU32 vB p0.bad :: rowT 9 1 v2 eS l2 :: H) ?_ (by repeat' (first | exact trivial | refine And.intro rfl ?_))
    refine SX.sr ?_
    refine SL.bin ⟨rfl, rfl, rfl, rfl⟩ rfl rfl Bin.ltI ?_
    refine SL.nx ?_
    refine SX.seq ?_
    refine SX.cond rfl (fun hc2 => ?_) (fun hc2 => ?_)
    · skip
      replace h := cT hc2 h
      refine SX.skip ?_
      refine SQ.thn ?_
      refine SX.seq ?_
      refine SX.block ?_
      refine SX.sr ?_
      refine SL.mv ⟨rfl, rfl, rfl, rfl⟩ rfl ?_
      refine SL.asg ⟨rfl, rfl, rfl, rfl⟩ rfl ?_
      refine SL.nx ?_
      refine SX.region ?_
      obtain ⟨y1, hy1, h⟩ := bnd h
      obtain ⟨l3, hl3, h⟩ := bnd h
      refine SL.mv ⟨rfl, rfl, rfl, rfl⟩ rfl ?_
      refine SL.mv ⟨rfl, rfl, rfl, rfl⟩ rfl ?_
      refine SL.mv ⟨rfl, rfl, rfl, rfl⟩ rfl ?_
      refine SL.cv ⟨rfl, rfl, rfl, rfl⟩ rfl (Cv.i_32 ty3 ty32) ?_
      refine SL.call (vs := [_, _]) (Hin := [_, _, _, _]) (Hr := _ :: _) ⟨rfl, rfl, rfl, rfl⟩ rfl ⟨rfl, rfl, trivial⟩ cal35 rfl rfl (c_device_Device_holds hy1) ?_
      rintro _ _ ⟨rfl, rfl⟩
      refine ⟨trivial, ?_⟩
      refine SL.bsl [_] ⟨rfl, rfl, rfl, rfl⟩ ty37 sz9 ze9 ⟨rfl, trivial⟩ rfl rfl rfl (by simp [Value.cells]) rfl rfl (fun _ => trivial) fun b1 => ?_
      refine SL.ownT eS 1 ([y1] : List (List UInt8)) rfl (fun _ => rfl) rfl ?_
      refine SL.appT 5 hl3 (sz := 1) (enc := eS) (fun _ => rfl) ⟨rfl, rfl, rfl, rfl⟩ ty37 sz9 by9 ze9 rfl (by decide) rfl rfl rfl rfl (cells_rowA (sz := 1) (enc := eS) 0 (fun _ => rfl) rfl) (by simp [eS, Value.oneCell']) (fun _ => trivial) fun v3 => ?_
      refine SL.asg ⟨rfl, rfl, rfl, rfl⟩ rfl ?_
      refine SL.nil ?_
      refine SQ.blk ?_
      refine SQ.thn ?_
      refine SX.region ?_
      refine SL.bin ⟨rfl, rfl, rfl, rfl⟩ rfl rfl Bin.addW ?_
      refine SL.mv ⟨rfl, rfl, rfl, rfl⟩ rfl ?_
      refine SL.nil ?_
      exact SQ.again (m1, l3, v3, wI (a1 + 1)) h (Nat.lt_succ_self _) (by repeat' (first | exact trivial | refine And.intro rfl ?_)) (fun _ hw => HpOk.pick (H := [_, _, _, _, _, _]) hw [1, 2, 3, 4, 5] 6 rfl)
    · skip
      replace h := cF hc2 h
      refine SX.exit ?_
      refine SQ.thnE ?_
      refine SQ.lpE ?_
      refine SQ.blkE ?_
      exact SQ.midD (l2, v2) h (by repeat' (first | exact trivial | refine And.intro rfl ?_)) (fun _ hw => HpOk.pick (H := [_, _, _, _, _]) hw [0, 1, 2, 3, 4] 5 rfl)
  · skip
    obtain ⟨l1, v1⟩ := x
    dsimp only at h
    unfold f_device_Device_Image_j1 at h
    refine SX.re [(0, vP b0_ 0), (3, v1)] (own b0_ (.cells #[vB p0.off, vB p0.isCut, vI p0.lasts, vI p0.counts, v0x4_, .map (some m0x5_), .map (some m0x6_), vU64 p0.rcnt, vS p0.rtag, vU32 p0.rboots] 60) :: rowT 9 1 v0x4_ eS p0.blocks :: mapC m0x5_ vU32 vS p0.pend :: mapC m0x6_ vU32 vB p0.bad :: rowT 9 1 v1 eS l1 :: H) ?_ (by repeat' (first | exact trivial | refine And.intro rfl ?_))
    refine SX.sr ?_
    refine SL.mv ⟨rfl, rfl, rfl, rfl⟩ rfl ?_
    refine SL.asg ⟨rfl, rfl, rfl, rfl⟩ rfl ?_
    refine SL.nx ?_
    refine SX.ret ?_
    obtain rfl := Option.some.inj h
    exact SQ.fret (res1 rfl rfl) (ret_of (M := [_, _, _, _, _]) ⟨v1, rfl, rfl⟩ fun _ hw => HpOk.pick (H := [_, _, _, _, _]) hw [4, 0, 1, 2, 3] 5 rfl)


end Go.Proofs.Ytddjneafgddlcaa

/- Plain functions of the references and the laws, printed from the loaded program, and the walks that show that the program computes them. Condition: the plain function yields. -/
namespace Go.Proofs.Ytddjneafgddlcaa
open Go
variable {K : Nat → Prop} {w0 : World} {H : List Chunk}

def f_ref07_Device_is (p0 : RDevA) (p1 : UInt32) : Option Bool :=
  ret (decide (p1.toUInt64 < toU64 (p0.blk.length : Int))) fun x1 =>
  some x1
set_option maxRecDepth 100000 in
theorem c_ref07_Device_is {b0_ : Nat} {v0x0_ : Value} {v0x1_ : Value} {v0x2_ : Value} {p0 : RDevA} {p1 : UInt32} {r : Bool} (h : f_ref07_Device_is p0 p1 = some r)  : Con Try.prog K w0 47 [vP b0_ 0, vU32 p1] [own b0_ (.cells #[v0x0_, v0x1_, v0x2_, vU64 p0.rcnt, vS p0.rtag, vU32 p0.rboots, vI p0.left, vB p0.off] 45), rowT 9 1 v0x0_ eS p0.blk, rowT 9 1 v0x1_ eS p0.pnd, rowT 4 1 v0x2_ eB p0.bads] H (fun u M => u = vB r ∧ M = [own b0_ (.cells #[v0x0_, v0x1_, v0x2_, vU64 p0.rcnt, vS p0.rtag, vU32 p0.rboots, vI p0.left, vB p0.off] 45), rowT 9 1 v0x0_ eS p0.blk, rowT 9 1 v0x1_ eS p0.pnd, rowT 4 1 v0x2_ eB p0.bads]) := by
  unfold f_ref07_Device_is at h
  refine Con.enter Try.func47 rfl rfl ?_
  refine SX.sr ?_
  refine SL.asg ⟨rfl, rfl, rfl, rfl⟩ rfl ?_
  refine SL.nx ?_
  refine SX.sr ?_
  obtain ⟨x1, ex1, h⟩ := retE h
  refine SL.mv ⟨rfl, rfl, rfl, rfl⟩ rfl ?_
  refine SL.cv ⟨rfl, rfl, rfl, rfl⟩ rfl (Cv.u32_64 ty32 ty39) ?_
  refine SL.mv ⟨rfl, rfl, rfl, rfl⟩ rfl ?_
  refine SL.nchk ⟨rfl, rfl, rfl, rfl⟩ rfl ?_
  refine SL.fa ⟨rfl, rfl, rfl, rfl⟩ rfl fo45_0 ?_
  refine SL.ld ⟨rfl, rfl, rfl, rfl⟩ sc37 rfl (cell_own 0 rfl rfl) ?_
  refine SL.lenT 1 ⟨rfl, rfl, rfl, rfl⟩ ty37 rfl rfl ?_
  refine SL.cv ⟨rfl, rfl, rfl, rfl⟩ rfl (Cv.i_64 ty3 ty39) ?_
  refine SL.bin ⟨rfl, rfl, rfl, rfl⟩ rfl rfl Bin.lt64 ?_
  refine SL.asgX (u := vB x1) ⟨rfl, rfl, rfl, rfl⟩ rfl (congrArg vB ex1) ?_
  refine SL.nx ?_
  refine SX.ret ?_
  obtain rfl := Option.some.inj h
  exact SQ.fret (res1 rfl rfl) (ret_of (M := [_, _, _, _]) ⟨rfl, rfl⟩ fun _ hw => HpOk.pick (H := [_, _, _, _]) hw [0, 1, 2, 3] 4 rfl)

def f_ref07_Device_op_j2 (p0 : RDevA) (y1 : Bool) (y2 : Int) : Option (Int × RDevA) :=
  some (0, { p0 with left := y2, off := y1 })
def f_ref07_Device_op_j1 (p0 : RDevA) (y1 : Bool) : Option (Int × RDevA) :=
  cond y1
  (
    some (71, { p0 with off := y1 }))
  (
    cond (decide (0 < p0.left))
    (
      f_ref07_Device_op_j2 p0 y1 (wI (p0.left - 1)))
    (
      f_ref07_Device_op_j2 p0 y1 p0.left))
def f_ref07_Device_op (p0 : RDevA) : Option (Int × RDevA) :=
  cond (decide (p0.left = 0))
  (
    f_ref07_Device_op_j1 p0 true)
  (
    f_ref07_Device_op_j1 p0 p0.off)
set_option maxRecDepth 100000 in
theorem c_ref07_Device_op {b0_ : Nat} {v0x0_ : Value} {v0x1_ : Value} {v0x2_ : Value} {p0 : RDevA} {r : Int × RDevA} (h : f_ref07_Device_op p0 = some r)  : Con Try.prog K w0 48 [vP b0_ 0] [own b0_ (.cells #[v0x0_, v0x1_, v0x2_, vU64 p0.rcnt, vS p0.rtag, vU32 p0.rboots, vI p0.left, vB p0.off] 45), rowT 9 1 v0x0_ eS p0.blk, rowT 9 1 v0x1_ eS p0.pnd, rowT 4 1 v0x2_ eB p0.bads] H (fun u M => u = vI r.1 ∧ M = [own b0_ (.cells #[v0x0_, v0x1_, v0x2_, vU64 r.2.rcnt, vS r.2.rtag, vU32 r.2.rboots, vI r.2.left, vB r.2.off] 45), rowT 9 1 v0x0_ eS r.2.blk, rowT 9 1 v0x1_ eS r.2.pnd, rowT 4 1 v0x2_ eB r.2.bads]) := by
  unfold f_ref07_Device_op at h
  refine Con.enter Try.func48 rfl rfl ?_
  refine SX.sr ?_
  refine SL.asg ⟨rfl, rfl, rfl, rfl⟩ rfl ?_
  refine SL.nx ?_
  refine SX.meetD (α := Bool) (fun x => f_ref07_Device_op_j1 p0 x = some r) (fun x => [(0, vP b0_ 0)]) (fun x => own b0_ (.cells #[v0x0_, v0x1_, v0x2_, vU64 p0.rcnt, vS p0.rtag, vU32 p0.rboots, vI p0.left, vB x] 45) :: rowT 9 1 v0x0_ eS p0.blk :: rowT 9 1 v0x1_ eS p0.pnd :: rowT 4 1 v0x2_ eB p0.bads :: H) ?_ (fun y1 D h => ?_)
  · skip
    refine SX.sr ?_
    refine SL.mv ⟨rfl, rfl, rfl, rfl⟩ rfl ?_
    refine SL.nchk ⟨rfl, rfl, rfl, rfl⟩ rfl ?_
    refine SL.fa ⟨rfl, rfl, rfl, rfl⟩ rfl fo45_4 ?_
    refine SL.ld ⟨rfl, rfl, rfl, rfl⟩ sc3 rfl (cell_own 0 rfl rfl) ?_
    refine SL.bin ⟨rfl, rfl, rfl, rfl⟩ rfl rfl Bin.eqI ?_
    refine SL.nx ?_
    refine SX.cond rfl (fun hc1 => ?_) (fun hc1 => ?_)
    · skip
      replace h := cT hc1 h
      refine SX.region ?_
      refine SL.mv ⟨rfl, rfl, rfl, rfl⟩ rfl ?_
      refine SL.nchk ⟨rfl, rfl, rfl, rfl⟩ rfl ?_
      refine SL.fa ⟨rfl, rfl, rfl, rfl⟩ rfl fo45_5 ?_
      refine SL.st 0 ⟨rfl, rfl, rfl⟩ rfl rfl rfl sz4 rfl rfl rfl trivial ?_
      refine SL.nil ?_
      exact SQ.midD true h (by repeat' (first | exact trivial | refine And.intro rfl ?_)) (fun _ hw => HpOk.pick (H := [_, _, _, _]) hw [0, 1, 2, 3] 4 rfl)
    · skip
      replace h := cF hc1 h
      refine SX.skip ?_
      exact SQ.midD p0.off h (by repeat' (first | exact trivial | refine And.intro rfl ?_)) (fun _ hw => HpOk.pick (H := [_, _, _, _]) hw [0, 1, 2, 3] 4 rfl)
  · skip
    unfold f_ref07_Device_op_j1 at h
    refine SX.re [(0, vP b0_ 0)] (own b0_ (.cells #[v0x0_, v0x1_, v0x2_, vU64 p0.rcnt, vS p0.rtag, vU32 p0.rboots, vI p0.left, vB y1] 45) :: rowT 9 1 v0x0_ eS p0.blk :: rowT 9 1 v0x1_ eS p0.pnd :: rowT 4 1 v0x2_ eB p0.bads :: H) ?_ (by repeat' (first | exact trivial | refine And.intro rfl ?_))
    refine SX.seq ?_
    refine SX.sr ?_
    refine SL.mv ⟨rfl, rfl, rfl, rfl⟩ rfl ?_
    refine SL.nchk ⟨rfl, rfl, rfl, rfl⟩ rfl ?_
    refine SL.fa ⟨rfl, rfl, rfl, rfl⟩ rfl fo45_5 ?_
    refine SL.ld ⟨rfl, rfl, rfl, rfl⟩ sc4 rfl (cell_own 0 rfl rfl) ?_
    refine SL.nx ?_
    refine SX.cond rfl (fun hc2 => ?_) (fun hc2 => ?_)
    · skip
      replace h := cT hc2 h
      refine SX.sr ?_
      refine SL.asg ⟨rfl, rfl, rfl, rfl⟩ rfl ?_
      refine SL.nx ?_
      refine SX.ret ?_
      refine SQ.thnR ?_
      obtain rfl := Option.some.inj h
      exact SQ.fret (res1 rfl rfl) (ret_of (M := [_, _, _, _]) ⟨rfl, rfl⟩ fun _ hw => HpOk.pick (H := [_, _, _, _]) hw [0, 1, 2, 3] 4 rfl)
    · skip
      replace h := cF hc2 h
      refine SX.skip ?_
      refine SQ.thn ?_
      refine SX.meetD (α := Int) (fun x => f_ref07_Device_op_j2 p0 y1 x = some r) (fun x => [(0, vP b0_ 0)]) (fun x => own b0_ (.cells #[v0x0_, v0x1_, v0x2_, vU64 p0.rcnt, vS p0.rtag, vU32 p0.rboots, vI x, vB y1] 45) :: rowT 9 1 v0x0_ eS p0.blk :: rowT 9 1 v0x1_ eS p0.pnd :: rowT 4 1 v0x2_ eB p0.bads :: H) ?_ (fun y2 D h => ?_)
      · skip
        refine SX.sr ?_
        refine SL.mv ⟨rfl, rfl, rfl, rfl⟩ rfl ?_
        refine SL.nchk ⟨rfl, rfl, rfl, rfl⟩ rfl ?_
        refine SL.fa ⟨rfl, rfl, rfl, rfl⟩ rfl fo45_4 ?_
        refine SL.ld ⟨rfl, rfl, rfl, rfl⟩ sc3 rfl (cell_own 0 rfl rfl) ?_
        refine SL.bin ⟨rfl, rfl, rfl, rfl⟩ rfl rfl Bin.gtI ?_
        refine SL.nx ?_
        refine SX.cond rfl (fun hc3 => ?_) (fun hc3 => ?_)
        · skip
          replace h := cT hc3 h
          refine SX.region ?_
          refine SL.mv ⟨rfl, rfl, rfl, rfl⟩ rfl ?_
          refine SL.nchk ⟨rfl, rfl, rfl, rfl⟩ rfl ?_
          refine SL.fa ⟨rfl, rfl, rfl, rfl⟩ rfl fo45_4 ?_
          refine SL.ld ⟨rfl, rfl, rfl, rfl⟩ sc3 rfl (cell_own 0 rfl rfl) ?_
          refine SL.bin ⟨rfl, rfl, rfl, rfl⟩ rfl rfl Bin.subW ?_
          refine SL.nchk ⟨rfl, rfl, rfl, rfl⟩ rfl ?_
          refine SL.fa ⟨rfl, rfl, rfl, rfl⟩ rfl fo45_4 ?_
          refine SL.st 0 ⟨rfl, rfl, rfl⟩ rfl rfl rfl sz3 rfl rfl rfl trivial ?_
          refine SL.nil ?_
          exact SQ.midD (wI (p0.left - 1)) h (by repeat' (first | exact trivial | refine And.intro rfl ?_)) (fun _ hw => HpOk.pick (H := [_, _, _, _]) hw [0, 1, 2, 3] 4 rfl)
        · skip
          replace h := cF hc3 h
          refine SX.skip ?_
          exact SQ.midD p0.left h (by repeat' (first | exact trivial | refine And.intro rfl ?_)) (fun _ hw => HpOk.pick (H := [_, _, _, _]) hw [0, 1, 2, 3] 4 rfl)
      · skip
        unfold f_ref07_Device_op_j2 at h
        refine SX.re [(0, vP b0_ 0)] (own b0_ (.cells #[v0x0_, v0x1_, v0x2_, vU64 p0.rcnt, vS p0.rtag, vU32 p0.rboots, vI y2, vB y1] 45) :: rowT 9 1 v0x0_ eS p0.blk :: rowT 9 1 v0x1_ eS p0.pnd :: rowT 4 1 v0x2_ eB p0.bads :: H) ?_ (by repeat' (first | exact trivial | refine And.intro rfl ?_))
        refine SX.sr ?_
        refine SL.asg ⟨rfl, rfl, rfl, rfl⟩ rfl ?_
        refine SL.nx ?_
        refine SX.ret ?_
        obtain rfl := Option.some.inj h
        exact SQ.fret (res1 rfl rfl) (ret_of (M := [_, _, _, _]) ⟨rfl, rfl⟩ fun _ hw => HpOk.pick (H := [_, _, _, _]) hw [0, 1, 2, 3] 4 rfl)

def f_ref07_New_j1 (y1 : List UInt8) (l1 : List (List UInt8)) (l2 : List (List UInt8)) (l3 : List Bool) : Option (Option RDevA × Int) :=
  some (some ({ blk := l1, pnd := l2, bads := l3, rcnt := 0, rtag := y1, rboots := 0, left := (-1), off := false } : RDevA), 0)
def f_ref07_New_l1_b (p0 : Int) (y1 : List UInt8) (nx_f_ref07_New_l1 : List (List UInt8) × List (List UInt8) × List Bool × Int → Option (Option RDevA × Int)) (l4 : List (List UInt8)) (l5 : List (List UInt8)) (l6 : List Bool) (a1 : Int) : Option (Option RDevA × Int) :=
  cond (decide (a1 < p0))
  (
    (f_ref07_Zeros 256).bind fun y2 =>
    (appL 16 l4 [y2]).bind fun l7 =>
    (appL 16 l5 [[]]).bind fun l8 =>
    (appL 1 l6 [false]).bind fun l9 =>
    ret (wI (a1 + 1)) fun i_1 =>
    nx_f_ref07_New_l1 (l7, l8, l9, i_1))
  (
    f_ref07_New_j1 y1 l4 l5 l6)
def f_ref07_New_l1 (p0 : Int) (y1 : List UInt8) : Nat → (List (List UInt8) × List (List UInt8) × List Bool × Int) → Option (Option RDevA × Int) := loopN fun nx x => f_ref07_New_l1_b p0 y1 nx x.1 x.2.1 x.2.2.1 x.2.2.2
def f_ref07_New (n : Nat) (p0 : Int) : Option (Option RDevA × Int) :=
  cond ((decide (p0 < 4)) || (decide (4096 < p0)))
  (
    some (none, 2))
  (
    (f_ref07_Zeros 32).bind fun y1 =>
    f_ref07_New_l1 p0 y1 n ([], [], [], 0))
set_option maxRecDepth 100000 in
theorem c_ref07_New {n : Nat} {p0 : Int} {r : Option RDevA × Int} (h : f_ref07_New n p0 = some r)  : Con Try.prog K w0 6 [vI p0] [] H (fun u M => (r.1 = none ∧ u = .tuple #[.pointer none, vI r.2] ∧ M = []) ∨ (∃ (d : RDevA) (b : Nat) (v0 : Value) (v1 : Value) (v2 : Value), r.1 = some d ∧ u = .tuple #[vP b 0, vI r.2] ∧ M = [own b (.cells #[v0, v1, v2, vU64 d.rcnt, vS d.rtag, vU32 d.rboots, vI d.left, vB d.off] 45), rowT 9 1 v0 eS d.blk, rowT 9 1 v1 eS d.pnd, rowT 4 1 v2 eB d.bads])) := by
  unfold f_ref07_New at h
  refine Con.enter Try.func6 rfl rfl ?_
  refine SX.sr ?_
  refine SL.asg ⟨rfl, rfl, rfl, rfl⟩ rfl ?_
  refine SL.asg ⟨rfl, rfl, rfl, rfl⟩ rfl ?_
  refine SL.nx ?_
  refine SX.seq ?_
  refine SX.sr ?_
  refine SL.mv ⟨rfl, rfl, rfl, rfl⟩ rfl ?_
  refine SL.bin ⟨rfl, rfl, rfl, rfl⟩ rfl rfl Bin.ltI ?_
  refine SL.mv ⟨rfl, rfl, rfl, rfl⟩ rfl ?_
  refine SL.or (c := decide (4096 < p0)) 8 3 11 rfl (fun hb k => ?_) (fun hb k => ?_) ?_
  · skip
    refine SL.pass rfl rfl rfl ?_
    refine SL.pass rfl rfl rfl ?_
    refine SL.pk ⟨rfl, rfl, rfl, rfl⟩ rfl rfl ?_
    exact k.mono (by repeat' (first | exact trivial | refine And.intro rfl ?_))
  · skip
    refine SL.mv ⟨rfl, rfl, rfl, rfl⟩ rfl ?_
    refine SL.bin ⟨rfl, rfl, rfl, rfl⟩ rfl rfl Bin.gtI ?_
    refine SL.pk ⟨rfl, rfl, rfl, rfl⟩ rfl rfl ?_
    exact k.mono (by repeat' (first | exact trivial | refine And.intro rfl ?_))
  refine SL.nx ?_
  refine SX.cond rfl (fun hc1 => ?_) (fun hc1 => ?_)
  · skip
    replace h := cT hc1 h
    refine SX.sr ?_
    refine SL.asg ⟨rfl, rfl, rfl, rfl⟩ rfl ?_
    refine SL.asg ⟨rfl, rfl, rfl, rfl⟩ rfl ?_
    refine SL.nx ?_
    refine SX.ret ?_
    refine SQ.thnR ?_
    obtain rfl := Option.some.inj h
    exact SQ.fret (res2 rfl rfl rfl) (ret_of (M := []) (.inl ⟨rfl, rfl, rfl⟩) fun _ hw => HpOk.pick (H := []) hw [] 0 rfl)
  · skip
    replace h := cF hc1 h
    refine SX.skip ?_
    refine SQ.thn ?_
    refine SX.sr ?_
    obtain ⟨y1, hy1, h⟩ := bnd h
    refine SL.call (vs := [_]) (Hin := []) (Hr := _) ⟨rfl, rfl, rfl, rfl⟩ rfl ⟨rfl, trivial⟩ cal21 rfl rfl (c_ref07_Zeros hy1) ?_
    rintro _ _ ⟨rfl, rfl⟩
    refine ⟨trivial, ?_⟩
    refine SL.bld [_] ⟨rfl, rfl, rfl, rfl⟩ pl41 pk41 ze41 ⟨rfl, trivial⟩ rfl ?_
    refine SL.bld [_, _] ⟨rfl, rfl, rfl, rfl⟩ pl45 pk45 ze45 ⟨rfl, rfl, trivial⟩ rfl ?_
    refine SL.box ⟨rfl, rfl, rfl, rfl⟩ rfl (fun _ => trivial) fun b1 => ?_
    refine SL.nilT 9 1 eS ?_
    refine SL.nilT 9 1 eS ?_
    refine SL.nilT 4 1 eB ?_
    refine SL.asg ⟨rfl, rfl, rfl, rfl⟩ rfl ?_
    refine SL.nx ?_
    refine SX.meetD (α := List (List UInt8) × Value × List (List UInt8) × Value × List Bool × Value) (fun x => f_ref07_New_j1 y1 x.1 x.2.2.1 x.2.2.2.2.1 = some r) (fun x => [(4, vP b1 0)]) (fun x => own b1 (.cells #[x.2.1, x.2.2.2.1, x.2.2.2.2.2, vU64 0, vS y1, vU32 0, vI (-1), vB false] 45) :: rowT 9 1 x.2.1 eS x.1 :: rowT 9 1 x.2.2.2.1 eS x.2.2.1 :: rowT 4 1 x.2.2.2.2.2 eB x.2.2.2.2.1 :: H) ?_ (fun x D h => ?_)
    · skip
      refine SX.sr ?_
      refine SL.asg ⟨rfl, rfl, rfl, rfl⟩ rfl ?_
      refine SL.nx ?_
      refine SX.block ?_
      refine SX.heap (SX.mono (SX.loop (α := Nat × List (List UInt8) × Value × List (List UInt8) × Value × List Bool × Value × Int) (fun x => f_ref07_New_l1 p0 y1 x.1 (x.2.1, x.2.2.2.1, x.2.2.2.2.2.1, x.2.2.2.2.2.2.2) = some r) (fun x => [(0, vI p0), (4, vP b1 0), (5, vI x.2.2.2.2.2.2.2)]) (fun x => own b1 (.cells #[x.2.2.1, x.2.2.2.2.1, x.2.2.2.2.2.2.1, vU64 0, vS y1, vU32 0, vI (-1), vB false] 45) :: rowT 9 1 x.2.2.1 eS x.2.1 :: rowT 9 1 x.2.2.2.2.1 eS x.2.2.2.1 :: rowT 4 1 x.2.2.2.2.2.2.1 eB x.2.2.2.2.2.1 :: H) (fun x => x.1) (fun x D h => ?_) (n, [], .slice none 0 0, [], .slice none 0 0, [], .slice none 0 0, 0) h) (by repeat' (first | exact trivial | refine And.intro rfl ?_))) (fun _ hw => HpOk.pick (H := [_, _, _, _]) hw [3, 2, 1, 0] 4 rfl)
      obtain ⟨m1, l4, v4, l5, v5, l6, v6, a1⟩ := x
      dsimp only at h
      rcases m1 with _ | m1
      · cases (show (none : Option _) = some r from h)
      replace h : f_ref07_New_l1_b p0 y1 (f_ref07_New_l1 p0 y1 m1) l4 l5 l6 a1 = some r := h
      unfold f_ref07_New_l1_b at h
      refine SX.re [(0, vI p0), (4, vP b1 0), (5, vI a1)] (own b1 (.cells #[v4, v5, v6, vU64 0, vS y1, vU32 0, vI (-1), vB false] 45) :: rowT 9 1 v4 eS l4 :: rowT 9 1 v5 eS l5 :: rowT 4 1 v6 eB l6 :: H) ?_ (by repeat' (first | exact trivial | refine And.intro rfl ?_))
      refine SX.seq ?_
      refine SX.sr ?_
      refine SL.mv ⟨rfl, rfl, rfl, rfl⟩ rfl ?_
      refine SL.mv ⟨rfl, rfl, rfl, rfl⟩ rfl ?_
      refine SL.bin ⟨rfl, rfl, rfl, rfl⟩ rfl rfl Bin.ltI ?_
      refine SL.nx ?_
      refine SX.cond rfl (fun hc2 => ?_) (fun hc2 => ?_)
      · skip
        replace h := cT hc2 h
        refine SX.skip ?_
        refine SQ.thn ?_
        refine SX.seq ?_
        refine SX.block ?_
        refine SX.seq ?_
        obtain ⟨y2, hy2, h⟩ := bnd h
        obtain ⟨l7, hl7, h⟩ := bnd h
        refine SX.drawI mix [0] (Pl.ap [(true, 0), (true, 1), (true, 2), (true, 3), (true, 4), (false, 5), (false, 6), (false, 7), (true, 8), (true, 9)] (.last 10 .nil)) (by kernel_rfl) ?_
        refine SL.mv ⟨rfl, rfl, rfl, rfl⟩ rfl ?_
        refine SL.mv ⟨rfl, rfl, rfl, rfl⟩ rfl ?_
        refine SL.nchk ⟨rfl, rfl, rfl, rfl⟩ rfl ?_
        refine SL.fa ⟨rfl, rfl, rfl, rfl⟩ rfl fo45_0 ?_
        refine SL.ld ⟨rfl, rfl, rfl, rfl⟩ sc37 rfl (cell_own 0 rfl rfl) ?_
        refine SL.call (vs := [_]) (Hin := []) (Hr := _ :: _ :: _ :: _ :: _) ⟨rfl, rfl, rfl, rfl⟩ rfl ⟨rfl, trivial⟩ cal21 rfl rfl (c_ref07_Zeros hy2) ?_
        rintro _ _ ⟨rfl, rfl⟩
        refine ⟨⟨⟨0, rfl⟩, trivial⟩, ?_⟩
        refine SL.bsl [_] ⟨rfl, rfl, rfl, rfl⟩ ty37 sz9 ze9 ⟨rfl, trivial⟩ rfl rfl rfl (by simp [Value.cells]) rfl rfl (fun _ => ⟨⟨1, rfl⟩, trivial⟩) fun b2 => ?_
        refine SL.ownT eS 1 ([y2] : List (List UInt8)) rfl (fun _ => rfl) rfl ?_
        refine SL.appT 2 hl7 (sz := 1) (enc := eS) (fun _ => rfl) ⟨rfl, rfl, rfl, rfl⟩ ty37 sz9 by9 ze9 rfl (by decide) rfl rfl rfl rfl (cells_rowA (sz := 1) (enc := eS) 0 (fun _ => rfl) rfl) (by simp [eS, Value.oneCell']) (fun _ => ⟨⟨1, rfl⟩, trivial⟩) fun v7 => ?_
        refine SL.nchk ⟨rfl, rfl, rfl, rfl⟩ rfl ?_
        refine SL.fa ⟨rfl, rfl, rfl, rfl⟩ rfl fo45_0 ?_
        refine SL.last ?_
        refine SL.rowV 2 rfl fun hv1 ho1 => ?_
        refine SL.stR 1 ⟨rfl, rfl, rfl⟩ rfl rfl rfl sz37 hv1 ho1 rfl trivial ?_
        refine SL.nx ?_
        refine SX.sr ?_
        obtain ⟨l8, hl8, h⟩ := bnd h
        refine SL.mv ⟨rfl, rfl, rfl, rfl⟩ rfl ?_
        refine SL.mv ⟨rfl, rfl, rfl, rfl⟩ rfl ?_
        refine SL.nchk ⟨rfl, rfl, rfl, rfl⟩ rfl ?_
        refine SL.fa ⟨rfl, rfl, rfl, rfl⟩ rfl fo45_1 ?_
        refine SL.ld ⟨rfl, rfl, rfl, rfl⟩ sc37 rfl (cell_own 1 rfl rfl) ?_
        refine SL.bsl [_] ⟨rfl, rfl, rfl, rfl⟩ ty37 sz9 ze9 ⟨rfl, trivial⟩ rfl rfl rfl (by simp [Value.cells]) rfl rfl (fun _ => trivial) fun b3 => ?_
        refine SL.ownT eS 1 ([[]] : List (List UInt8)) rfl (fun _ => rfl) rfl ?_
        refine SL.appT 4 hl8 (sz := 1) (enc := eS) (fun _ => rfl) ⟨rfl, rfl, rfl, rfl⟩ ty37 sz9 by9 ze9 rfl (by decide) rfl rfl rfl rfl (cells_rowA (sz := 1) (enc := eS) 0 (fun _ => rfl) rfl) (by simp [eS, Value.oneCell']) (fun _ => trivial) fun v8 => ?_
        refine SL.nchk ⟨rfl, rfl, rfl, rfl⟩ rfl ?_
        refine SL.fa ⟨rfl, rfl, rfl, rfl⟩ rfl fo45_1 ?_
        refine SL.rowV 4 rfl fun hv2 ho2 => ?_
        refine SL.stR 2 ⟨rfl, rfl, rfl⟩ rfl rfl rfl sz37 hv2 ho2 rfl trivial ?_
        refine SL.nx ?_
        refine SX.region ?_
        obtain ⟨l9, hl9, h⟩ := bnd h
        refine SL.mv ⟨rfl, rfl, rfl, rfl⟩ rfl ?_
        refine SL.mv ⟨rfl, rfl, rfl, rfl⟩ rfl ?_
        refine SL.nchk ⟨rfl, rfl, rfl, rfl⟩ rfl ?_
        refine SL.fa ⟨rfl, rfl, rfl, rfl⟩ rfl fo45_2 ?_
        refine SL.ld ⟨rfl, rfl, rfl, rfl⟩ sc43 rfl (cell_own 2 rfl rfl) ?_
        refine SL.bsl [_] ⟨rfl, rfl, rfl, rfl⟩ ty43 sz4 ze4 ⟨rfl, trivial⟩ rfl rfl rfl (by simp [Value.cells]) rfl rfl (fun _ => trivial) fun b4 => ?_
        refine SL.ownT eB 1 ([false] : List Bool) rfl (fun _ => rfl) rfl ?_
        refine SL.appT 6 hl9 (sz := 1) (enc := eB) (fun _ => rfl) ⟨rfl, rfl, rfl, rfl⟩ ty43 sz4 by4 ze4 rfl (by decide) rfl rfl rfl rfl (cells_rowA (sz := 1) (enc := eB) 0 (fun _ => rfl) rfl) (by simp [eB, Value.oneCell']) (fun _ => trivial) fun v9 => ?_
        refine SL.nchk ⟨rfl, rfl, rfl, rfl⟩ rfl ?_
        refine SL.fa ⟨rfl, rfl, rfl, rfl⟩ rfl fo45_2 ?_
        refine SL.rowV 6 rfl fun hv3 ho3 => ?_
        refine SL.stR 3 ⟨rfl, rfl, rfl⟩ rfl rfl rfl sz43 hv3 ho3 rfl trivial ?_
        refine SL.nil ?_
        refine SQ.blk ?_
        refine SQ.thn ?_
        refine SX.region ?_
        obtain ⟨i_1, ei_1, h⟩ := retE h
        refine SL.mv ⟨rfl, rfl, rfl, rfl⟩ rfl ?_
        refine SL.bin ⟨rfl, rfl, rfl, rfl⟩ rfl rfl Bin.addW ?_
        refine SL.asgX (u := vI i_1) ⟨rfl, rfl, rfl, rfl⟩ rfl (congrArg vI ei_1) ?_
        refine SL.nil ?_
        exact SQ.again (m1, l7, v7, l8, v8, l9, v9, i_1) h (Nat.lt_succ_self _) (by repeat' (first | exact trivial | refine And.intro rfl ?_)) (fun _ hw => HpOk.pick (H := [_, _, _, _, _, _, _]) hw [3, 4, 5, 6] 7 rfl)
      · skip
        replace h := cF hc2 h
        refine SX.exit ?_
        refine SQ.thnE ?_
        refine SQ.lpE ?_
        refine SQ.blkE ?_
        exact SQ.midD (l4, v4, l5, v5, l6, v6) h (by repeat' (first | exact trivial | refine And.intro rfl ?_)) (fun _ hw => HpOk.pick (H := [_, _, _, _]) hw [0, 1, 2, 3] 4 rfl)
    · skip
      obtain ⟨l1, v1, l2, v2, l3, v3⟩ := x
      dsimp only at h
      unfold f_ref07_New_j1 at h
      refine SX.re [(4, vP b1 0)] (own b1 (.cells #[v1, v2, v3, vU64 0, vS y1, vU32 0, vI (-1), vB false] 45) :: rowT 9 1 v1 eS l1 :: rowT 9 1 v2 eS l2 :: rowT 4 1 v3 eB l3 :: H) ?_ (by repeat' (first | exact trivial | refine And.intro rfl ?_))
      refine SX.sr ?_
      refine SL.mv ⟨rfl, rfl, rfl, rfl⟩ rfl ?_
      refine SL.asg ⟨rfl, rfl, rfl, rfl⟩ rfl ?_
      refine SL.asg ⟨rfl, rfl, rfl, rfl⟩ rfl ?_
      refine SL.nx ?_
      refine SX.ret ?_
      obtain rfl := Option.some.inj h
      exact SQ.fret (res2 rfl rfl rfl) (ret_of (M := [_, _, _, _]) (.inr ⟨_, b1, v1, v2, v3, rfl, rfl, rfl⟩) fun _ hw => HpOk.pick (H := [_, _, _, _]) hw [0, 1, 2, 3] 4 rfl)

def f_ref07_Device_Holds (p0 : RDevA) (p1 : UInt32) : Option (List UInt8) :=
  (nthI p0.pnd (p1.toNat : Int)).bind fun x1 =>
  cond (!decide (x1 = []))
  (
    (nthI p0.pnd (p1.toNat : Int)).bind fun x2 =>
    some x2)
  (
    (nthI p0.blk (p1.toNat : Int)).bind fun x3 =>
    some x3)
set_option maxRecDepth 100000 in
theorem c_ref07_Device_Holds {b0_ : Nat} {v0x0_ : Value} {v0x1_ : Value} {v0x2_ : Value} {p0 : RDevA} {p1 : UInt32} {r : List UInt8} (h : f_ref07_Device_Holds p0 p1 = some r)  : Con Try.prog K w0 36 [vP b0_ 0, vU32 p1] [own b0_ (.cells #[v0x0_, v0x1_, v0x2_, vU64 p0.rcnt, vS p0.rtag, vU32 p0.rboots, vI p0.left, vB p0.off] 45), rowT 9 1 v0x0_ eS p0.blk, rowT 9 1 v0x1_ eS p0.pnd, rowT 4 1 v0x2_ eB p0.bads] H (fun u M => u = vS r ∧ M = [own b0_ (.cells #[v0x0_, v0x1_, v0x2_, vU64 p0.rcnt, vS p0.rtag, vU32 p0.rboots, vI p0.left, vB p0.off] 45), rowT 9 1 v0x0_ eS p0.blk, rowT 9 1 v0x1_ eS p0.pnd, rowT 4 1 v0x2_ eB p0.bads]) := by
  unfold f_ref07_Device_Holds at h
  refine Con.enter Try.func36 rfl rfl ?_
  refine SX.sr ?_
  refine SL.asg ⟨rfl, rfl, rfl, rfl⟩ rfl ?_
  refine SL.nx ?_
  refine SX.seq ?_
  refine SX.sr ?_
  obtain ⟨x1, hx1, h⟩ := bnd h
  refine SL.mv ⟨rfl, rfl, rfl, rfl⟩ rfl ?_
  refine SL.nchk ⟨rfl, rfl, rfl, rfl⟩ rfl ?_
  refine SL.fa ⟨rfl, rfl, rfl, rfl⟩ rfl fo45_1 ?_
  refine SL.ld ⟨rfl, rfl, rfl, rfl⟩ sc37 rfl (cell_own 0 rfl rfl) ?_
  refine SL.mv ⟨rfl, rfl, rfl, rfl⟩ rfl ?_
  refine SL.iaT 2 hx1 ⟨rfl, rfl, rfl, rfl⟩ ty37 sz9 rfl rfl rfl fun g1 m1 cp1 hv1 => ?_
  refine SL.ld ⟨rfl, rfl, rfl, rfl⟩ sc9 rfl (cell_rowT (sz := 1) (enc := eS) 2 0 (fun _ => rfl) rfl hv1 hx1 rfl) ?_
  refine SL.bin ⟨rfl, rfl, rfl, rfl⟩ rfl rfl Bin.neS ?_
  refine SL.nx ?_
  refine SX.cond rfl (fun hc1 => ?_) (fun hc1 => ?_)
  · skip
    replace h := cT hc1 h
    refine SX.sr ?_
    obtain ⟨x2, hx2, h⟩ := bnd h
    refine SL.mv ⟨rfl, rfl, rfl, rfl⟩ rfl ?_
    refine SL.nchk ⟨rfl, rfl, rfl, rfl⟩ rfl ?_
    refine SL.fa ⟨rfl, rfl, rfl, rfl⟩ rfl fo45_1 ?_
    refine SL.ld ⟨rfl, rfl, rfl, rfl⟩ sc37 rfl (cell_own 0 rfl rfl) ?_
    refine SL.mv ⟨rfl, rfl, rfl, rfl⟩ rfl ?_
    refine SL.iaT 2 hx2 ⟨rfl, rfl, rfl, rfl⟩ ty37 sz9 rfl rfl rfl fun g2 m2 cp2 hv2 => ?_
    refine SL.ld ⟨rfl, rfl, rfl, rfl⟩ sc9 rfl (cell_rowT (sz := 1) (enc := eS) 2 0 (fun _ => rfl) rfl hv2 hx2 rfl) ?_
    refine SL.asg ⟨rfl, rfl, rfl, rfl⟩ rfl ?_
    refine SL.nx ?_
    refine SX.ret ?_
    refine SQ.thnR ?_
    obtain rfl := Option.some.inj h
    exact SQ.fret (res1 rfl rfl) (ret_of (M := [_, _, _, _]) ⟨rfl, rfl⟩ fun _ hw => HpOk.pick (H := [_, _, _, _]) hw [0, 1, 2, 3] 4 rfl)
  · skip
    replace h := cF hc1 h
    refine SX.skip ?_
    refine SQ.thn ?_
    refine SX.sr ?_
    obtain ⟨x3, hx3, h⟩ := bnd h
    refine SL.mv ⟨rfl, rfl, rfl, rfl⟩ rfl ?_
    refine SL.nchk ⟨rfl, rfl, rfl, rfl⟩ rfl ?_
    refine SL.fa ⟨rfl, rfl, rfl, rfl⟩ rfl fo45_0 ?_
    refine SL.ld ⟨rfl, rfl, rfl, rfl⟩ sc37 rfl (cell_own 0 rfl rfl) ?_
    refine SL.mv ⟨rfl, rfl, rfl, rfl⟩ rfl ?_
    refine SL.iaT 1 hx3 ⟨rfl, rfl, rfl, rfl⟩ ty37 sz9 rfl rfl rfl fun g3 m3 cp3 hv3 => ?_
    refine SL.ld ⟨rfl, rfl, rfl, rfl⟩ sc9 rfl (cell_rowT (sz := 1) (enc := eS) 1 0 (fun _ => rfl) rfl hv3 hx3 rfl) ?_
    refine SL.asg ⟨rfl, rfl, rfl, rfl⟩ rfl ?_
    refine SL.nx ?_
    refine SX.ret ?_
    obtain rfl := Option.some.inj h
    exact SQ.fret (res1 rfl rfl) (ret_of (M := [_, _, _, _]) ⟨rfl, rfl⟩ fun _ hw => HpOk.pick (H := [_, _, _, _]) hw [0, 1, 2, 3] 4 rfl)

def f_ref07_Device_Write_j1 (y2 : Int × RDevA) (l1 : List (List UInt8)) : Option (Int × RDevA) :=
  some (y2.1, { y2.2 with pnd := l1 })
def f_ref07_Device_Write (p0 : RDevA) (p1 : UInt32) (p2 : List UInt8) : Option (Int × RDevA) :=
  (f_ref07_Device_is p0 p1).bind fun y1 =>
  cond ((!y1) || (!decide ((p2.length : Int) = 256)))
  (
    some (2, p0))
  (
    (f_ref07_Device_op p0).bind fun y2 =>
    cond (decide (y2.1 = 0))
    (
      (nthI y2.2.pnd (p1.toNat : Int)).bind fun x1 =>
      (setI y2.2.pnd (p1.toNat : Int) p2).bind fun l2 =>
      f_ref07_Device_Write_j1 y2 l2)
    (
      f_ref07_Device_Write_j1 y2 y2.2.pnd))
set_option maxRecDepth 100000 in
theorem c_ref07_Device_Write {b0_ : Nat} {v0x0_ : Value} {v0x1_ : Value} {v0x2_ : Value} {p0 : RDevA} {p1 : UInt32} {p2 : List UInt8} {r : Int × RDevA} (h : f_ref07_Device_Write p0 p1 p2 = some r)  : Con Try.prog K w0 22 [vP b0_ 0, vU32 p1, vS p2] [own b0_ (.cells #[v0x0_, v0x1_, v0x2_, vU64 p0.rcnt, vS p0.rtag, vU32 p0.rboots, vI p0.left, vB p0.off] 45), rowT 9 1 v0x0_ eS p0.blk, rowT 9 1 v0x1_ eS p0.pnd, rowT 4 1 v0x2_ eB p0.bads] H (fun u M => u = vI r.1 ∧ M = [own b0_ (.cells #[v0x0_, v0x1_, v0x2_, vU64 r.2.rcnt, vS r.2.rtag, vU32 r.2.rboots, vI r.2.left, vB r.2.off] 45), rowT 9 1 v0x0_ eS r.2.blk, rowT 9 1 v0x1_ eS r.2.pnd, rowT 4 1 v0x2_ eB r.2.bads]) := by
  unfold f_ref07_Device_Write at h
  refine Con.enter Try.func22 rfl rfl ?_
  refine SX.sr ?_
  refine SL.asg ⟨rfl, rfl, rfl, rfl⟩ rfl ?_
  refine SL.nx ?_
  refine SX.seq ?_
  refine SX.sr ?_
  obtain ⟨y1, hy1, h⟩ := bnd h
  refine SL.mv ⟨rfl, rfl, rfl, rfl⟩ rfl ?_
  refine SL.mv ⟨rfl, rfl, rfl, rfl⟩ rfl ?_
  refine SL.call (vs := [_, _]) (Hin := [_, _, _, _]) (Hr := _) ⟨rfl, rfl, rfl, rfl⟩ rfl ⟨rfl, rfl, trivial⟩ cal47 rfl rfl (c_ref07_Device_is hy1) ?_
  rintro _ _ ⟨rfl, rfl⟩
  refine ⟨trivial, ?_⟩
  refine SL.not ⟨rfl, rfl, rfl, rfl⟩ rfl ?_
  refine SL.mv ⟨rfl, rfl, rfl, rfl⟩ rfl ?_
  refine SL.or (c := !decide ((p2.length : Int) = 256)) 12 4 16 rfl (fun hb k => ?_) (fun hb k => ?_) ?_
  · skip
    refine SL.pass rfl rfl rfl ?_
    refine SL.pass rfl rfl rfl ?_
    refine SL.pass rfl rfl rfl ?_
    refine SL.pk ⟨rfl, rfl, rfl, rfl⟩ rfl rfl ?_
    exact k.mono (by repeat' (first | exact trivial | refine And.intro rfl ?_))
  · skip
    refine SL.mv ⟨rfl, rfl, rfl, rfl⟩ rfl ?_
    refine SL.lenS ⟨rfl, rfl, rfl, rfl⟩ ty9 rfl ?_
    refine SL.bin ⟨rfl, rfl, rfl, rfl⟩ rfl rfl Bin.neI ?_
    refine SL.pk ⟨rfl, rfl, rfl, rfl⟩ rfl rfl ?_
    exact k.mono (by repeat' (first | exact trivial | refine And.intro rfl ?_))
  refine SL.nx ?_
  refine SX.cond rfl (fun hc1 => ?_) (fun hc1 => ?_)
  · skip
    replace h := cT hc1 h
    refine SX.sr ?_
    refine SL.asg ⟨rfl, rfl, rfl, rfl⟩ rfl ?_
    refine SL.nx ?_
    refine SX.ret ?_
    refine SQ.thnR ?_
    obtain rfl := Option.some.inj h
    exact SQ.fret (res1 rfl rfl) (ret_of (M := [_, _, _, _]) ⟨rfl, rfl⟩ fun _ hw => HpOk.pick (H := [_, _, _, _]) hw [0, 1, 2, 3] 4 rfl)
  · skip
    replace h := cF hc1 h
    refine SX.skip ?_
    refine SQ.thn ?_
    refine SX.sr ?_
    obtain ⟨y2, hy2, h⟩ := bnd h
    refine SL.mv ⟨rfl, rfl, rfl, rfl⟩ rfl ?_
    refine SL.call (vs := [_]) (Hin := [_, _, _, _]) (Hr := _) ⟨rfl, rfl, rfl, rfl⟩ rfl ⟨rfl, trivial⟩ cal48 rfl rfl (c_ref07_Device_op hy2) ?_
    rintro _ _ ⟨rfl, rfl⟩
    refine ⟨trivial, ?_⟩
    refine SL.asg ⟨rfl, rfl, rfl, rfl⟩ rfl ?_
    refine SL.nx ?_
    refine SX.meetD (α := List (List UInt8)) (fun x => f_ref07_Device_Write_j1 y2 x = some r) (fun x => [(0, vP b0_ 0), (7, vI y2.1)]) (fun x => own b0_ (.cells #[v0x0_, v0x1_, v0x2_, vU64 y2.2.rcnt, vS y2.2.rtag, vU32 y2.2.rboots, vI y2.2.left, vB y2.2.off] 45) :: rowT 9 1 v0x0_ eS y2.2.blk :: rowT 9 1 v0x1_ eS x :: rowT 4 1 v0x2_ eB y2.2.bads :: H) ?_ (fun l1 D h => ?_)
    · skip
      refine SX.sr ?_
      refine SL.mv ⟨rfl, rfl, rfl, rfl⟩ rfl ?_
      refine SL.bin ⟨rfl, rfl, rfl, rfl⟩ rfl rfl Bin.eqI ?_
      refine SL.nx ?_
      refine SX.cond rfl (fun hc2 => ?_) (fun hc2 => ?_)
      · skip
        replace h := cT hc2 h
        refine SX.region ?_
        obtain ⟨x1, hx1, h⟩ := bnd h
        obtain ⟨l2, hl2, h⟩ := bnd h
        refine SL.mv ⟨rfl, rfl, rfl, rfl⟩ rfl ?_
        refine SL.nchk ⟨rfl, rfl, rfl, rfl⟩ rfl ?_
        refine SL.fa ⟨rfl, rfl, rfl, rfl⟩ rfl fo45_1 ?_
        refine SL.ld ⟨rfl, rfl, rfl, rfl⟩ sc37 rfl (cell_own 0 rfl rfl) ?_
        refine SL.mv ⟨rfl, rfl, rfl, rfl⟩ rfl ?_
        refine SL.mv ⟨rfl, rfl, rfl, rfl⟩ rfl ?_
        refine SL.iaT 2 hx1 ⟨rfl, rfl, rfl, rfl⟩ ty37 sz9 rfl rfl rfl fun g1 m1 cp1 hv1 => ?_
        refine SL.stTN (sz := 1) (enc := eS) 2 hl2 (fun _ => rfl) ⟨rfl, rfl, rfl⟩ rfl rfl rfl rfl hv1 sz9 (by simp [Value.oneCell']) trivial ?_
        refine SL.nil ?_
        exact SQ.midD l2 h (by repeat' (first | exact trivial | refine And.intro rfl ?_)) (fun _ hw => HpOk.pick (H := [_, _, _, _]) hw [0, 1, 2, 3] 4 rfl)
      · skip
        replace h := cF hc2 h
        refine SX.skip ?_
        exact SQ.midD y2.2.pnd h (by repeat' (first | exact trivial | refine And.intro rfl ?_)) (fun _ hw => HpOk.pick (H := [_, _, _, _]) hw [0, 1, 2, 3] 4 rfl)
    · skip
      unfold f_ref07_Device_Write_j1 at h
      refine SX.re [(0, vP b0_ 0), (7, vI y2.1)] (own b0_ (.cells #[v0x0_, v0x1_, v0x2_, vU64 y2.2.rcnt, vS y2.2.rtag, vU32 y2.2.rboots, vI y2.2.left, vB y2.2.off] 45) :: rowT 9 1 v0x0_ eS y2.2.blk :: rowT 9 1 v0x1_ eS l1 :: rowT 4 1 v0x2_ eB y2.2.bads :: H) ?_ (by repeat' (first | exact trivial | refine And.intro rfl ?_))
      refine SX.sr ?_
      refine SL.mv ⟨rfl, rfl, rfl, rfl⟩ rfl ?_
      refine SL.asg ⟨rfl, rfl, rfl, rfl⟩ rfl ?_
      refine SL.nx ?_
      refine SX.ret ?_
      obtain rfl := Option.some.inj h
      exact SQ.fret (res1 rfl rfl) (ret_of (M := [_, _, _, _]) ⟨rfl, rfl⟩ fun _ hw => HpOk.pick (H := [_, _, _, _]) hw [0, 1, 2, 3] 4 rfl)

def f_ref07_Device_Flush_j1 (y1 : Int × RDevA) (l1 : List (List UInt8)) (l2 : List (List UInt8)) : Option (Int × RDevA) :=
  some (y1.1, { y1.2 with blk := l1, pnd := l2 })
def f_ref07_Device_Flush_j2 (a1 : Int) (nx_f_ref07_Device_Flush_l1 : List (List UInt8) × List (List UInt8) × Int → Option (Int × RDevA)) (l5 : List (List UInt8)) (l6 : List (List UInt8)) : Option (Int × RDevA) :=
  ret (wI (a1 + 1)) fun i_1 =>
  nx_f_ref07_Device_Flush_l1 (l5, l6, i_1)
def f_ref07_Device_Flush_l1_b (y1 : Int × RDevA) (nx_f_ref07_Device_Flush_l1 : List (List UInt8) × List (List UInt8) × Int → Option (Int × RDevA)) (l3 : List (List UInt8)) (l4 : List (List UInt8)) (a1 : Int) : Option (Int × RDevA) :=
  cond ((decide (a1 < (l3.length : Int))) && (decide (y1.1 = 0)))
  (
    (nthI l4 a1).bind fun x1 =>
    cond (!decide (x1 = []))
    (
      (nthI l4 a1).bind fun x2 =>
      (nthI l3 a1).bind fun x3 =>
      (setI l3 a1 x2).bind fun l7 =>
      (nthI l4 a1).bind fun x4 =>
      (setI l4 a1 []).bind fun l8 =>
      f_ref07_Device_Flush_j2 a1 nx_f_ref07_Device_Flush_l1 l7 l8)
    (
      f_ref07_Device_Flush_j2 a1 nx_f_ref07_Device_Flush_l1 l3 l4))
  (
    f_ref07_Device_Flush_j1 y1 l3 l4)
def f_ref07_Device_Flush_l1 (y1 : Int × RDevA) : Nat → (List (List UInt8) × List (List UInt8) × Int) → Option (Int × RDevA) := loopN fun nx x => f_ref07_Device_Flush_l1_b y1 nx x.1 x.2.1 x.2.2
def f_ref07_Device_Flush (n : Nat) (p0 : RDevA) : Option (Int × RDevA) :=
  (f_ref07_Device_op p0).bind fun y1 =>
  f_ref07_Device_Flush_l1 y1 n (y1.2.blk, y1.2.pnd, 0)
set_option maxRecDepth 100000 in
theorem c_ref07_Device_Flush {n : Nat} {b0_ : Nat} {v0x0_ : Value} {v0x1_ : Value} {v0x2_ : Value} {p0 : RDevA} {r : Int × RDevA} (h : f_ref07_Device_Flush n p0 = some r)  : Con Try.prog K w0 23 [vP b0_ 0] [own b0_ (.cells #[v0x0_, v0x1_, v0x2_, vU64 p0.rcnt, vS p0.rtag, vU32 p0.rboots, vI p0.left, vB p0.off] 45), rowT 9 1 v0x0_ eS p0.blk, rowT 9 1 v0x1_ eS p0.pnd, rowT 4 1 v0x2_ eB p0.bads] H (fun u M => u = vI r.1 ∧ M = [own b0_ (.cells #[v0x0_, v0x1_, v0x2_, vU64 r.2.rcnt, vS r.2.rtag, vU32 r.2.rboots, vI r.2.left, vB r.2.off] 45), rowT 9 1 v0x0_ eS r.2.blk, rowT 9 1 v0x1_ eS r.2.pnd, rowT 4 1 v0x2_ eB r.2.bads]) := by
  unfold f_ref07_Device_Flush at h
  refine Con.enter Try.func23 rfl rfl ?_
  refine SX.sr ?_
  refine SL.asg ⟨rfl, rfl, rfl, rfl⟩ rfl ?_
  refine SL.nx ?_
  refine SX.sr ?_
  obtain ⟨y1, hy1, h⟩ := bnd h
  refine SL.mv ⟨rfl, rfl, rfl, rfl⟩ rfl ?_
  refine SL.call (vs := [_]) (Hin := [_, _, _, _]) (Hr := _) ⟨rfl, rfl, rfl, rfl⟩ rfl ⟨rfl, trivial⟩ cal48 rfl rfl (c_ref07_Device_op hy1) ?_
  rintro _ _ ⟨rfl, rfl⟩
  refine ⟨trivial, ?_⟩
  refine SL.asg ⟨rfl, rfl, rfl, rfl⟩ rfl ?_
  refine SL.nx ?_
  refine SX.meetD (α := List (List UInt8) × List (List UInt8)) (fun x => f_ref07_Device_Flush_j1 y1 x.1 x.2 = some r) (fun x => [(0, vP b0_ 0), (3, vI y1.1)]) (fun x => own b0_ (.cells #[v0x0_, v0x1_, v0x2_, vU64 y1.2.rcnt, vS y1.2.rtag, vU32 y1.2.rboots, vI y1.2.left, vB y1.2.off] 45) :: rowT 9 1 v0x0_ eS x.1 :: rowT 9 1 v0x1_ eS x.2 :: rowT 4 1 v0x2_ eB y1.2.bads :: H) ?_ (fun x D h => ?_)
  · skip
    refine SX.sr ?_
    refine SL.asg ⟨rfl, rfl, rfl, rfl⟩ rfl ?_
    refine SL.nx ?_
    refine SX.block ?_
    refine SX.heap (SX.mono (SX.loop (α := Nat × List (List UInt8) × List (List UInt8) × Int) (fun x => f_ref07_Device_Flush_l1 y1 x.1 (x.2.1, x.2.2.1, x.2.2.2) = some r) (fun x => [(0, vP b0_ 0), (3, vI y1.1), (4, vI x.2.2.2)]) (fun x => own b0_ (.cells #[v0x0_, v0x1_, v0x2_, vU64 y1.2.rcnt, vS y1.2.rtag, vU32 y1.2.rboots, vI y1.2.left, vB y1.2.off] 45) :: rowT 9 1 v0x0_ eS x.2.1 :: rowT 9 1 v0x1_ eS x.2.2.1 :: rowT 4 1 v0x2_ eB y1.2.bads :: H) (fun x => x.1) (fun x D h => ?_) (n, y1.2.blk, y1.2.pnd, 0) h) (by repeat' (first | exact trivial | refine And.intro rfl ?_))) (fun _ hw => HpOk.pick (H := [_, _, _, _]) hw [0, 1, 2, 3] 4 rfl)
    obtain ⟨m1, l3, l4, a1⟩ := x
    dsimp only at h
    rcases m1 with _ | m1
    · cases (show (none : Option _) = some r from h)
    replace h : f_ref07_Device_Flush_l1_b y1 (f_ref07_Device_Flush_l1 y1 m1) l3 l4 a1 = some r := h
    unfold f_ref07_Device_Flush_l1_b at h
    refine SX.re [(0, vP b0_ 0), (3, vI y1.1), (4, vI a1)] (own b0_ (.cells #[v0x0_, v0x1_, v0x2_, vU64 y1.2.rcnt, vS y1.2.rtag, vU32 y1.2.rboots, vI y1.2.left, vB y1.2.off] 45) :: rowT 9 1 v0x0_ eS l3 :: rowT 9 1 v0x1_ eS l4 :: rowT 4 1 v0x2_ eB y1.2.bads :: H) ?_ (by repeat' (first | exact trivial | refine And.intro rfl ?_))
    refine SX.seq ?_
    refine SX.sr ?_
    refine SL.mv ⟨rfl, rfl, rfl, rfl⟩ rfl ?_
    refine SL.mv ⟨rfl, rfl, rfl, rfl⟩ rfl ?_
    refine SL.nchk ⟨rfl, rfl, rfl, rfl⟩ rfl ?_
    refine SL.fa ⟨rfl, rfl, rfl, rfl⟩ rfl fo45_0 ?_
    refine SL.ld ⟨rfl, rfl, rfl, rfl⟩ sc37 rfl (cell_own 0 rfl rfl) ?_
    refine SL.lenT 1 ⟨rfl, rfl, rfl, rfl⟩ ty37 rfl rfl ?_
    refine SL.bin ⟨rfl, rfl, rfl, rfl⟩ rfl rfl Bin.ltI ?_
    refine SL.mv ⟨rfl, rfl, rfl, rfl⟩ rfl ?_
    refine SL.and (c := decide (y1.1 = 0)) 14 3 17 rfl (fun hb k => ?_) (fun hb k => ?_) ?_
    · skip
      refine SL.mv ⟨rfl, rfl, rfl, rfl⟩ rfl ?_
      refine SL.bin ⟨rfl, rfl, rfl, rfl⟩ rfl rfl Bin.eqI ?_
      refine SL.pk ⟨rfl, rfl, rfl, rfl⟩ rfl rfl ?_
      exact k.mono (by repeat' (first | exact trivial | refine And.intro rfl ?_))
    · skip
      refine SL.pass rfl rfl rfl ?_
      refine SL.pass rfl rfl rfl ?_
      refine SL.pk ⟨rfl, rfl, rfl, rfl⟩ rfl rfl ?_
      exact k.mono (by repeat' (first | exact trivial | refine And.intro rfl ?_))
    refine SL.nx ?_
    refine SX.cond rfl (fun hc1 => ?_) (fun hc1 => ?_)
    · skip
      replace h := cT hc1 h
      refine SX.skip ?_
      refine SQ.thn ?_
      refine SX.meetD (α := List (List UInt8) × List (List UInt8)) (fun x => f_ref07_Device_Flush_j2 a1 (f_ref07_Device_Flush_l1 y1 m1) x.1 x.2 = some r) (fun x => [(0, vP b0_ 0), (3, vI y1.1), (4, vI a1)]) (fun x => own b0_ (.cells #[v0x0_, v0x1_, v0x2_, vU64 y1.2.rcnt, vS y1.2.rtag, vU32 y1.2.rboots, vI y1.2.left, vB y1.2.off] 45) :: rowT 9 1 v0x0_ eS x.1 :: rowT 9 1 v0x1_ eS x.2 :: rowT 4 1 v0x2_ eB y1.2.bads :: H) ?_ (fun x D h => ?_)
      · skip
        refine SX.block ?_
        refine SX.sr ?_
        obtain ⟨x1, hx1, h⟩ := bnd h
        refine SL.mv ⟨rfl, rfl, rfl, rfl⟩ rfl ?_
        refine SL.nchk ⟨rfl, rfl, rfl, rfl⟩ rfl ?_
        refine SL.fa ⟨rfl, rfl, rfl, rfl⟩ rfl fo45_1 ?_
        refine SL.ld ⟨rfl, rfl, rfl, rfl⟩ sc37 rfl (cell_own 0 rfl rfl) ?_
        refine SL.mv ⟨rfl, rfl, rfl, rfl⟩ rfl ?_
        refine SL.iaT 2 hx1 ⟨rfl, rfl, rfl, rfl⟩ ty37 sz9 rfl rfl rfl fun g1 m2 cp1 hv1 => ?_
        refine SL.ld ⟨rfl, rfl, rfl, rfl⟩ sc9 rfl (cell_rowT (sz := 1) (enc := eS) 2 0 (fun _ => rfl) rfl hv1 hx1 rfl) ?_
        refine SL.bin ⟨rfl, rfl, rfl, rfl⟩ rfl rfl Bin.neS ?_
        refine SL.nx ?_
        refine SX.cond rfl (fun hc2 => ?_) (fun hc2 => ?_)
        · skip
          replace h := cT hc2 h
          refine SX.seq ?_
          obtain ⟨x2, hx2, h⟩ := bnd h
          obtain ⟨x3, hx3, h⟩ := bnd h
          obtain ⟨l7, hl7, h⟩ := bnd h
          refine SX.drawI mix [0, 2] (Pl.ap [(true, 0), (true, 1), (true, 2), (true, 3), (true, 4), (true, 5), (true, 6), (true, 7), (true, 8), (true, 9), (true, 10), (true, 11), (true, 12)] (.last 13 .nil)) (by kernel_rfl) ?_
          refine SL.mv ⟨rfl, rfl, rfl, rfl⟩ rfl ?_
          refine SL.nchk ⟨rfl, rfl, rfl, rfl⟩ rfl ?_
          refine SL.fa ⟨rfl, rfl, rfl, rfl⟩ rfl fo45_0 ?_
          refine SL.ld ⟨rfl, rfl, rfl, rfl⟩ sc37 rfl (cell_own 0 rfl rfl) ?_
          refine SL.mv ⟨rfl, rfl, rfl, rfl⟩ rfl ?_
          refine SL.mv ⟨rfl, rfl, rfl, rfl⟩ rfl ?_
          refine SL.nchk ⟨rfl, rfl, rfl, rfl⟩ rfl ?_
          refine SL.fa ⟨rfl, rfl, rfl, rfl⟩ rfl fo45_1 ?_
          refine SL.ld ⟨rfl, rfl, rfl, rfl⟩ sc37 rfl (cell_own 0 rfl rfl) ?_
          refine SL.mv ⟨rfl, rfl, rfl, rfl⟩ rfl ?_
          refine SL.iaT 2 hx2 ⟨rfl, rfl, rfl, rfl⟩ ty37 sz9 rfl rfl rfl fun g2 m3 cp2 hv2 => ?_
          refine SL.ld ⟨rfl, rfl, rfl, rfl⟩ sc9 rfl (cell_rowT (sz := 1) (enc := eS) 1 0 (fun _ => rfl) rfl hv2 hx2 rfl) ?_
          refine SL.iaT 1 hx3 ⟨rfl, rfl, rfl, rfl⟩ ty37 sz9 rfl rfl rfl fun g3 m4 cp3 hv3 => ?_
          refine SL.last ?_
          refine SL.stTN (sz := 1) (enc := eS) 1 hl7 (fun _ => rfl) ⟨rfl, rfl, rfl⟩ rfl rfl rfl rfl hv3 sz9 (by simp [Value.oneCell']) trivial ?_
          refine SL.nx ?_
          refine SX.region ?_
          obtain ⟨x4, hx4, h⟩ := bnd h
          obtain ⟨l8, hl8, h⟩ := bnd h
          refine SL.mv ⟨rfl, rfl, rfl, rfl⟩ rfl ?_
          refine SL.nchk ⟨rfl, rfl, rfl, rfl⟩ rfl ?_
          refine SL.fa ⟨rfl, rfl, rfl, rfl⟩ rfl fo45_1 ?_
          refine SL.ld ⟨rfl, rfl, rfl, rfl⟩ sc37 rfl (cell_own 0 rfl rfl) ?_
          refine SL.mv ⟨rfl, rfl, rfl, rfl⟩ rfl ?_
          refine SL.iaT 2 hx4 ⟨rfl, rfl, rfl, rfl⟩ ty37 sz9 rfl rfl rfl fun g4 m5 cp4 hv4 => ?_
          refine SL.stTN (sz := 1) (enc := eS) 2 hl8 (fun _ => rfl) ⟨rfl, rfl, rfl⟩ rfl rfl rfl rfl hv4 sz9 (by simp [Value.oneCell']) trivial ?_
          refine SL.nil ?_
          refine SQ.blk ?_
          exact SQ.midD (l7, l8) h (by repeat' (first | exact trivial | refine And.intro rfl ?_)) (fun _ hw => HpOk.pick (H := [_, _, _, _]) hw [0, 1, 2, 3] 4 rfl)
        · skip
          replace h := cF hc2 h
          refine SX.skip ?_
          refine SQ.blk ?_
          exact SQ.midD (l3, l4) h (by repeat' (first | exact trivial | refine And.intro rfl ?_)) (fun _ hw => HpOk.pick (H := [_, _, _, _]) hw [0, 1, 2, 3] 4 rfl)
      · skip
        obtain ⟨l5, l6⟩ := x
        dsimp only at h
        unfold f_ref07_Device_Flush_j2 at h
        refine SX.re [(0, vP b0_ 0), (3, vI y1.1), (4, vI a1)] (own b0_ (.cells #[v0x0_, v0x1_, v0x2_, vU64 y1.2.rcnt, vS y1.2.rtag, vU32 y1.2.rboots, vI y1.2.left, vB y1.2.off] 45) :: rowT 9 1 v0x0_ eS l5 :: rowT 9 1 v0x1_ eS l6 :: rowT 4 1 v0x2_ eB y1.2.bads :: H) ?_ (by repeat' (first | exact trivial | refine And.intro rfl ?_))
        refine SX.region ?_
        obtain ⟨i_1, ei_1, h⟩ := retE h
        refine SL.mv ⟨rfl, rfl, rfl, rfl⟩ rfl ?_
        refine SL.bin ⟨rfl, rfl, rfl, rfl⟩ rfl rfl Bin.addW ?_
        refine SL.asgX (u := vI i_1) ⟨rfl, rfl, rfl, rfl⟩ rfl (congrArg vI ei_1) ?_
        refine SL.nil ?_
        exact SQ.again (m1, l5, l6, i_1) h (Nat.lt_succ_self _) (by repeat' (first | exact trivial | refine And.intro rfl ?_)) (fun _ hw => HpOk.pick (H := [_, _, _, _]) hw [0, 1, 2, 3] 4 rfl)
    · skip
      replace h := cF hc1 h
      refine SX.exit ?_
      refine SQ.thnE ?_
      refine SQ.lpE ?_
      refine SQ.blkE ?_
      exact SQ.midD (l3, l4) h (by repeat' (first | exact trivial | refine And.intro rfl ?_)) (fun _ hw => HpOk.pick (H := [_, _, _, _]) hw [0, 1, 2, 3] 4 rfl)
  · skip
    obtain ⟨l1, l2⟩ := x
    dsimp only at h
    unfold f_ref07_Device_Flush_j1 at h
    refine SX.re [(0, vP b0_ 0), (3, vI y1.1)] (own b0_ (.cells #[v0x0_, v0x1_, v0x2_, vU64 y1.2.rcnt, vS y1.2.rtag, vU32 y1.2.rboots, vI y1.2.left, vB y1.2.off] 45) :: rowT 9 1 v0x0_ eS l1 :: rowT 9 1 v0x1_ eS l2 :: rowT 4 1 v0x2_ eB y1.2.bads :: H) ?_ (by repeat' (first | exact trivial | refine And.intro rfl ?_))
    refine SX.sr ?_
    refine SL.mv ⟨rfl, rfl, rfl, rfl⟩ rfl ?_
    refine SL.asg ⟨rfl, rfl, rfl, rfl⟩ rfl ?_
    refine SL.nx ?_
    refine SX.ret ?_
    obtain rfl := Option.some.inj h
    exact SQ.fret (res1 rfl rfl) (ret_of (M := [_, _, _, _]) ⟨rfl, rfl⟩ fun _ hw => HpOk.pick (H := [_, _, _, _]) hw [0, 1, 2, 3] 4 rfl)

def f_ref07_Device_Advance_j1 (y1 : Int × RDevA) (y2 : UInt64) (y3 : List UInt8) : Option (Int × RDevA) :=
  some (y1.1, { y1.2 with rcnt := y2, rtag := y3 })
def f_ref07_Device_Advance (p0 : RDevA) (p1 : List UInt8) : Option (Int × RDevA) :=
  cond (!decide ((p1.length : Int) = 32))
  (
    some (2, p0))
  (
    cond (decide (p0.rcnt = 18446744073709551615))
    (
      some (72, p0))
    (
      (f_ref07_Device_op p0).bind fun y1 =>
      cond (decide (y1.1 = 0))
      (
        f_ref07_Device_Advance_j1 y1 (y1.2.rcnt + 1) p1)
      (
        f_ref07_Device_Advance_j1 y1 y1.2.rcnt y1.2.rtag)))
set_option maxRecDepth 100000 in
theorem c_ref07_Device_Advance {b0_ : Nat} {v0x0_ : Value} {v0x1_ : Value} {v0x2_ : Value} {p0 : RDevA} {p1 : List UInt8} {r : Int × RDevA} (h : f_ref07_Device_Advance p0 p1 = some r)  : Con Try.prog K w0 25 [vP b0_ 0, vS p1] [own b0_ (.cells #[v0x0_, v0x1_, v0x2_, vU64 p0.rcnt, vS p0.rtag, vU32 p0.rboots, vI p0.left, vB p0.off] 45), rowT 9 1 v0x0_ eS p0.blk, rowT 9 1 v0x1_ eS p0.pnd, rowT 4 1 v0x2_ eB p0.bads] H (fun u M => u = vI r.1 ∧ M = [own b0_ (.cells #[v0x0_, v0x1_, v0x2_, vU64 r.2.rcnt, vS r.2.rtag, vU32 r.2.rboots, vI r.2.left, vB r.2.off] 45), rowT 9 1 v0x0_ eS r.2.blk, rowT 9 1 v0x1_ eS r.2.pnd, rowT 4 1 v0x2_ eB r.2.bads]) := by
  unfold f_ref07_Device_Advance at h
  refine Con.enter Try.func25 rfl rfl ?_
  refine SX.sr ?_
  refine SL.asg ⟨rfl, rfl, rfl, rfl⟩ rfl ?_
  refine SL.nx ?_
  refine SX.seq ?_
  refine SX.sr ?_
  refine SL.mv ⟨rfl, rfl, rfl, rfl⟩ rfl ?_
  refine SL.lenS ⟨rfl, rfl, rfl, rfl⟩ ty9 rfl ?_
  refine SL.bin ⟨rfl, rfl, rfl, rfl⟩ rfl rfl Bin.neI ?_
  refine SL.nx ?_
  refine SX.cond rfl (fun hc1 => ?_) (fun hc1 => ?_)
  · skip
    replace h := cT hc1 h
    refine SX.sr ?_
    refine SL.asg ⟨rfl, rfl, rfl, rfl⟩ rfl ?_
    refine SL.nx ?_
    refine SX.ret ?_
    refine SQ.thnR ?_
    obtain rfl := Option.some.inj h
    exact SQ.fret (res1 rfl rfl) (ret_of (M := [_, _, _, _]) ⟨rfl, rfl⟩ fun _ hw => HpOk.pick (H := [_, _, _, _]) hw [0, 1, 2, 3] 4 rfl)
  · skip
    replace h := cF hc1 h
    refine SX.skip ?_
    refine SQ.thn ?_
    refine SX.seq ?_
    refine SX.sr ?_
    refine SL.mv ⟨rfl, rfl, rfl, rfl⟩ rfl ?_
    refine SL.nchk ⟨rfl, rfl, rfl, rfl⟩ rfl ?_
    refine SL.fa ⟨rfl, rfl, rfl, rfl⟩ rfl fo45_3 ?_
    refine SL.fa ⟨rfl, rfl, rfl, rfl⟩ rfl fo41_0 ?_
    refine SL.ld ⟨rfl, rfl, rfl, rfl⟩ sc39 rfl (cell_own 0 rfl rfl) ?_
    refine SL.bin ⟨rfl, rfl, rfl, rfl⟩ rfl rfl (Bin.eq64 (b := 18446744073709551615)) ?_
    refine SL.nx ?_
    refine SX.cond rfl (fun hc2 => ?_) (fun hc2 => ?_)
    · skip
      replace h := cT hc2 h
      refine SX.sr ?_
      refine SL.asg ⟨rfl, rfl, rfl, rfl⟩ rfl ?_
      refine SL.nx ?_
      refine SX.ret ?_
      refine SQ.thnR ?_
      obtain rfl := Option.some.inj h
      exact SQ.fret (res1 rfl rfl) (ret_of (M := [_, _, _, _]) ⟨rfl, rfl⟩ fun _ hw => HpOk.pick (H := [_, _, _, _]) hw [0, 1, 2, 3] 4 rfl)
    · skip
      replace h := cF hc2 h
      refine SX.skip ?_
      refine SQ.thn ?_
      refine SX.sr ?_
      obtain ⟨y1, hy1, h⟩ := bnd h
      refine SL.mv ⟨rfl, rfl, rfl, rfl⟩ rfl ?_
      refine SL.call (vs := [_]) (Hin := [_, _, _, _]) (Hr := _) ⟨rfl, rfl, rfl, rfl⟩ rfl ⟨rfl, trivial⟩ cal48 rfl rfl (c_ref07_Device_op hy1) ?_
      rintro _ _ ⟨rfl, rfl⟩
      refine ⟨trivial, ?_⟩
      refine SL.asg ⟨rfl, rfl, rfl, rfl⟩ rfl ?_
      refine SL.nx ?_
      refine SX.meetD (α := UInt64 × List UInt8) (fun x => f_ref07_Device_Advance_j1 y1 x.1 x.2 = some r) (fun x => [(0, vP b0_ 0), (5, vI y1.1)]) (fun x => own b0_ (.cells #[v0x0_, v0x1_, v0x2_, vU64 x.1, vS x.2, vU32 y1.2.rboots, vI y1.2.left, vB y1.2.off] 45) :: rowT 9 1 v0x0_ eS y1.2.blk :: rowT 9 1 v0x1_ eS y1.2.pnd :: rowT 4 1 v0x2_ eB y1.2.bads :: H) ?_ (fun x D h => ?_)
      · skip
        refine SX.sr ?_
        refine SL.mv ⟨rfl, rfl, rfl, rfl⟩ rfl ?_
        refine SL.bin ⟨rfl, rfl, rfl, rfl⟩ rfl rfl Bin.eqI ?_
        refine SL.nx ?_
        refine SX.cond rfl (fun hc3 => ?_) (fun hc3 => ?_)
        · skip
          replace h := cT hc3 h
          refine SX.sr ?_
          refine SL.mv ⟨rfl, rfl, rfl, rfl⟩ rfl ?_
          refine SL.nchk ⟨rfl, rfl, rfl, rfl⟩ rfl ?_
          refine SL.fa ⟨rfl, rfl, rfl, rfl⟩ rfl fo45_3 ?_
          refine SL.fa ⟨rfl, rfl, rfl, rfl⟩ rfl fo41_0 ?_
          refine SL.ld ⟨rfl, rfl, rfl, rfl⟩ sc39 rfl (cell_own 0 rfl rfl) ?_
          refine SL.bin ⟨rfl, rfl, rfl, rfl⟩ rfl rfl (Bin.add64 (b := 1)) ?_
          refine SL.nchk ⟨rfl, rfl, rfl, rfl⟩ rfl ?_
          refine SL.fa ⟨rfl, rfl, rfl, rfl⟩ rfl fo45_3 ?_
          refine SL.fa ⟨rfl, rfl, rfl, rfl⟩ rfl fo41_0 ?_
          refine SL.st 0 ⟨rfl, rfl, rfl⟩ rfl rfl rfl sz39 rfl rfl rfl trivial ?_
          refine SL.nx ?_
          refine SX.region ?_
          refine SL.mv ⟨rfl, rfl, rfl, rfl⟩ rfl ?_
          refine SL.mv ⟨rfl, rfl, rfl, rfl⟩ rfl ?_
          refine SL.nchk ⟨rfl, rfl, rfl, rfl⟩ rfl ?_
          refine SL.fa ⟨rfl, rfl, rfl, rfl⟩ rfl fo45_3 ?_
          refine SL.fa ⟨rfl, rfl, rfl, rfl⟩ rfl fo41_1 ?_
          refine SL.st 0 ⟨rfl, rfl, rfl⟩ rfl rfl rfl sz9 rfl rfl rfl trivial ?_
          refine SL.nil ?_
          exact SQ.midD (y1.2.rcnt + 1, p1) h (by repeat' (first | exact trivial | refine And.intro rfl ?_)) (fun _ hw => HpOk.pick (H := [_, _, _, _]) hw [0, 1, 2, 3] 4 rfl)
        · skip
          replace h := cF hc3 h
          refine SX.skip ?_
          exact SQ.midD (y1.2.rcnt, y1.2.rtag) h (by repeat' (first | exact trivial | refine And.intro rfl ?_)) (fun _ hw => HpOk.pick (H := [_, _, _, _]) hw [0, 1, 2, 3] 4 rfl)
      · skip
        obtain ⟨y2, y3⟩ := x
        dsimp only at h
        unfold f_ref07_Device_Advance_j1 at h
        refine SX.re [(0, vP b0_ 0), (5, vI y1.1)] (own b0_ (.cells #[v0x0_, v0x1_, v0x2_, vU64 y2, vS y3, vU32 y1.2.rboots, vI y1.2.left, vB y1.2.off] 45) :: rowT 9 1 v0x0_ eS y1.2.blk :: rowT 9 1 v0x1_ eS y1.2.pnd :: rowT 4 1 v0x2_ eB y1.2.bads :: H) ?_ (by repeat' (first | exact trivial | refine And.intro rfl ?_))
        refine SX.sr ?_
        refine SL.mv ⟨rfl, rfl, rfl, rfl⟩ rfl ?_
        refine SL.asg ⟨rfl, rfl, rfl, rfl⟩ rfl ?_
        refine SL.nx ?_
        refine SX.ret ?_
        obtain rfl := Option.some.inj h
        exact SQ.fret (res1 rfl rfl) (ret_of (M := [_, _, _, _]) ⟨rfl, rfl⟩ fun _ hw => HpOk.pick (H := [_, _, _, _]) hw [0, 1, 2, 3] 4 rfl)

def f_ref07_Device_Start (p0 : RDevA) : Option (UInt32 × Int × RDevA) :=
  cond (decide (p0.rboots = 4294967295))
  (
    some (0, 72, p0))
  (
    (f_ref07_Device_op p0).bind fun y1 =>
    cond (!decide (y1.1 = 0))
    (
      some (0, y1.1, y1.2))
    (
      ret (y1.2.rboots + 1) fun x1 =>
      some (x1, 0, { y1.2 with rboots := y1.2.rboots + 1 })))
set_option maxRecDepth 100000 in
theorem c_ref07_Device_Start {b0_ : Nat} {v0x0_ : Value} {v0x1_ : Value} {v0x2_ : Value} {p0 : RDevA} {r : UInt32 × Int × RDevA} (h : f_ref07_Device_Start p0 = some r)  : Con Try.prog K w0 27 [vP b0_ 0] [own b0_ (.cells #[v0x0_, v0x1_, v0x2_, vU64 p0.rcnt, vS p0.rtag, vU32 p0.rboots, vI p0.left, vB p0.off] 45), rowT 9 1 v0x0_ eS p0.blk, rowT 9 1 v0x1_ eS p0.pnd, rowT 4 1 v0x2_ eB p0.bads] H (fun u M => u = .tuple #[vU32 r.1, vI r.2.1] ∧ M = [own b0_ (.cells #[v0x0_, v0x1_, v0x2_, vU64 r.2.2.rcnt, vS r.2.2.rtag, vU32 r.2.2.rboots, vI r.2.2.left, vB r.2.2.off] 45), rowT 9 1 v0x0_ eS r.2.2.blk, rowT 9 1 v0x1_ eS r.2.2.pnd, rowT 4 1 v0x2_ eB r.2.2.bads]) := by
  unfold f_ref07_Device_Start at h
  refine Con.enter Try.func27 rfl rfl ?_
  refine SX.sr ?_
  refine SL.asg ⟨rfl, rfl, rfl, rfl⟩ rfl ?_
  refine SL.asg ⟨rfl, rfl, rfl, rfl⟩ rfl ?_
  refine SL.nx ?_
  refine SX.seq ?_
  refine SX.sr ?_
  refine SL.mv ⟨rfl, rfl, rfl, rfl⟩ rfl ?_
  refine SL.nchk ⟨rfl, rfl, rfl, rfl⟩ rfl ?_
  refine SL.fa ⟨rfl, rfl, rfl, rfl⟩ rfl fo45_3 ?_
  refine SL.fa ⟨rfl, rfl, rfl, rfl⟩ rfl fo41_2 ?_
  refine SL.ld ⟨rfl, rfl, rfl, rfl⟩ sc32 rfl (cell_own 0 rfl rfl) ?_
  refine SL.bin ⟨rfl, rfl, rfl, rfl⟩ rfl rfl (Bin.eq32 (b := 4294967295)) ?_
  refine SL.nx ?_
  refine SX.cond rfl (fun hc1 => ?_) (fun hc1 => ?_)
  · skip
    replace h := cT hc1 h
    refine SX.sr ?_
    refine SL.asg ⟨rfl, rfl, rfl, rfl⟩ rfl ?_
    refine SL.asg ⟨rfl, rfl, rfl, rfl⟩ rfl ?_
    refine SL.nx ?_
    refine SX.ret ?_
    refine SQ.thnR ?_
    obtain rfl := Option.some.inj h
    exact SQ.fret (res2 rfl rfl rfl) (ret_of (M := [_, _, _, _]) ⟨rfl, rfl⟩ fun _ hw => HpOk.pick (H := [_, _, _, _]) hw [0, 1, 2, 3] 4 rfl)
  · skip
    replace h := cF hc1 h
    refine SX.skip ?_
    refine SQ.thn ?_
    refine SX.sr ?_
    obtain ⟨y1, hy1, h⟩ := bnd h
    refine SL.mv ⟨rfl, rfl, rfl, rfl⟩ rfl ?_
    refine SL.call (vs := [_]) (Hin := [_, _, _, _]) (Hr := _) ⟨rfl, rfl, rfl, rfl⟩ rfl ⟨rfl, trivial⟩ cal48 rfl rfl (c_ref07_Device_op hy1) ?_
    rintro _ _ ⟨rfl, rfl⟩
    refine ⟨trivial, ?_⟩
    refine SL.asg ⟨rfl, rfl, rfl, rfl⟩ rfl ?_
    refine SL.nx ?_
    refine SX.seq ?_
    refine SX.sr ?_
    refine SL.mv ⟨rfl, rfl, rfl, rfl⟩ rfl ?_
    refine SL.bin ⟨rfl, rfl, rfl, rfl⟩ rfl rfl Bin.neI ?_
    refine SL.nx ?_
    refine SX.cond rfl (fun hc2 => ?_) (fun hc2 => ?_)
    · skip
      replace h := cT hc2 h
      refine SX.sr ?_
      refine SL.mv ⟨rfl, rfl, rfl, rfl⟩ rfl ?_
      refine SL.asg ⟨rfl, rfl, rfl, rfl⟩ rfl ?_
      refine SL.asg ⟨rfl, rfl, rfl, rfl⟩ rfl ?_
      refine SL.nx ?_
      refine SX.ret ?_
      refine SQ.thnR ?_
      obtain rfl := Option.some.inj h
      exact SQ.fret (res2 rfl rfl rfl) (ret_of (M := [_, _, _, _]) ⟨rfl, rfl⟩ fun _ hw => HpOk.pick (H := [_, _, _, _]) hw [0, 1, 2, 3] 4 rfl)
    · skip
      replace h := cF hc2 h
      refine SX.skip ?_
      refine SQ.thn ?_
      refine SX.sr ?_
      refine SL.mv ⟨rfl, rfl, rfl, rfl⟩ rfl ?_
      refine SL.nchk ⟨rfl, rfl, rfl, rfl⟩ rfl ?_
      refine SL.fa ⟨rfl, rfl, rfl, rfl⟩ rfl fo45_3 ?_
      refine SL.fa ⟨rfl, rfl, rfl, rfl⟩ rfl fo41_2 ?_
      refine SL.ld ⟨rfl, rfl, rfl, rfl⟩ sc32 rfl (cell_own 0 rfl rfl) ?_
      refine SL.bin ⟨rfl, rfl, rfl, rfl⟩ rfl rfl (Bin.add32 (b := 1)) ?_
      refine SL.nchk ⟨rfl, rfl, rfl, rfl⟩ rfl ?_
      refine SL.fa ⟨rfl, rfl, rfl, rfl⟩ rfl fo45_3 ?_
      refine SL.fa ⟨rfl, rfl, rfl, rfl⟩ rfl fo41_2 ?_
      refine SL.st 0 ⟨rfl, rfl, rfl⟩ rfl rfl rfl sz32 rfl rfl rfl trivial ?_
      refine SL.nx ?_
      refine SX.sr ?_
      obtain ⟨x1, ex1, h⟩ := retE h
      refine SL.mv ⟨rfl, rfl, rfl, rfl⟩ rfl ?_
      refine SL.nchk ⟨rfl, rfl, rfl, rfl⟩ rfl ?_
      refine SL.fa ⟨rfl, rfl, rfl, rfl⟩ rfl fo45_3 ?_
      refine SL.fa ⟨rfl, rfl, rfl, rfl⟩ rfl fo41_2 ?_
      refine SL.ld ⟨rfl, rfl, rfl, rfl⟩ sc32 rfl (cell_own 0 rfl rfl) ?_
      refine SL.asgX (u := vU32 x1) ⟨rfl, rfl, rfl, rfl⟩ rfl (congrArg vU32 ex1) ?_
      refine SL.asg ⟨rfl, rfl, rfl, rfl⟩ rfl ?_
      refine SL.nx ?_
      refine SX.ret ?_
      obtain rfl := Option.some.inj h
      exact SQ.fret (res2 rfl rfl rfl) (ret_of (M := [_, _, _, _]) ⟨rfl, rfl⟩ fun _ hw => HpOk.pick (H := [_, _, _, _]) hw [0, 1, 2, 3] 4 rfl)

def f_ref07_Device_Cut (p0 : RDevA) (p1 : Int) : Option RDevA :=
  some ({ p0 with left := max p1 (-1) })
set_option maxRecDepth 100000 in
theorem c_ref07_Device_Cut {b0_ : Nat} {v0x0_ : Value} {v0x1_ : Value} {v0x2_ : Value} {p0 : RDevA} {p1 : Int} {r : RDevA} (h : f_ref07_Device_Cut p0 p1 = some r)  : Con Try.prog K w0 28 [vP b0_ 0, vI p1] [own b0_ (.cells #[v0x0_, v0x1_, v0x2_, vU64 p0.rcnt, vS p0.rtag, vU32 p0.rboots, vI p0.left, vB p0.off] 45), rowT 9 1 v0x0_ eS p0.blk, rowT 9 1 v0x1_ eS p0.pnd, rowT 4 1 v0x2_ eB p0.bads] H (fun u M => u = .tuple #[] ∧ M = [own b0_ (.cells #[v0x0_, v0x1_, v0x2_, vU64 r.rcnt, vS r.rtag, vU32 r.rboots, vI r.left, vB r.off] 45), rowT 9 1 v0x0_ eS r.blk, rowT 9 1 v0x1_ eS r.pnd, rowT 4 1 v0x2_ eB r.bads]) := by
  unfold f_ref07_Device_Cut at h
  refine Con.enter Try.func28 rfl rfl ?_
  refine SX.region ?_
  refine SL.mv ⟨rfl, rfl, rfl, rfl⟩ rfl ?_
  refine SL.mv ⟨rfl, rfl, rfl, rfl⟩ rfl ?_
  refine SL.maxI ⟨rfl, rfl, rfl, rfl⟩ rfl rfl ?_
  refine SL.nchk ⟨rfl, rfl, rfl, rfl⟩ rfl ?_
  refine SL.fa ⟨rfl, rfl, rfl, rfl⟩ rfl fo45_4 ?_
  refine SL.st 0 ⟨rfl, rfl, rfl⟩ rfl rfl rfl sz3 rfl rfl rfl trivial ?_
  refine SL.nil ?_
  obtain rfl := Option.some.inj h
  exact SQ.fend (res0 rfl) (ret_of (M := [_, _, _, _]) ⟨rfl, rfl⟩ fun _ hw => HpOk.pick (H := [_, _, _, _]) hw [0, 1, 2, 3] 4 rfl)

def f_ref07_Device_Wake_j1 (p0 : RDevA) (l1 : List (List UInt8)) (l2 : List (List UInt8)) : Option RDevA :=
  some ({ p0 with blk := l1, pnd := l2, left := (-1), off := false })
def f_ref07_Device_Wake_j2 (a2 : Int) (nx_f_ref07_Device_Wake_l1 : List (List UInt8) × List (List UInt8) × Int × Int → Option RDevA) (l5 : List (List UInt8)) (l6 : List (List UInt8)) (a3 : Int) : Option RDevA :=
  ret (wI (a2 + 1)) fun x11 =>
  nx_f_ref07_Device_Wake_l1 (l5, l6, a3, x11)
def f_ref07_Device_Wake_j3 (l3 : List (List UInt8)) (l4 : List (List UInt8)) (a1 : Int) (a2 : Int) (nx_f_ref07_Device_Wake_l1 : List (List UInt8) × List (List UInt8) × Int × Int → Option RDevA) (a4 : Int) : Option RDevA :=
  (nthI l4 a2).bind fun x6 =>
  (slcI x6 0 a4).bind fun s1 =>
  (nthI l3 a2).bind fun x7 =>
  (slcI x7 a4 (x7.length : Int)).bind fun s2 =>
  (catS s1 s2).bind fun s3 =>
  (nthI l3 a2).bind fun x8 =>
  (setI l3 a2 s3).bind fun l7 =>
  (nthI l4 a2).bind fun x9 =>
  (setI l4 a2 []).bind fun l8 =>
  ret (wI (a1 + 1)) fun x10 =>
  f_ref07_Device_Wake_j2 a2 nx_f_ref07_Device_Wake_l1 l7 l8 x10
def f_ref07_Device_Wake_l1_b (p0 : RDevA) (p1 : List Int) (nx_f_ref07_Device_Wake_l1 : List (List UInt8) × List (List UInt8) × Int × Int → Option RDevA) (l3 : List (List UInt8)) (l4 : List (List UInt8)) (a1 : Int) (a2 : Int) : Option RDevA :=
  cond (decide (a2 < (l3.length : Int)))
  (
    (nthI l4 a2).bind fun x1 =>
    cond (decide (x1 = []))
    (
      f_ref07_Device_Wake_j2 a2 nx_f_ref07_Device_Wake_l1 l3 l4 a1)
    (
      (andO (decide (a1 < (p1.length : Int))) ((nthI p1 a1).bind fun x2 => some (decide (1 ≤ x2)))).bind fun y1 =>
      (andO y1 ((nthI p1 a1).bind fun x3 => some (decide (x3 ≤ 4)))).bind fun y2 =>
      cond y2
      (
        (nthI p1 a1).bind fun x4 =>
        ret (wI (64 * x4)) fun x5 =>
        f_ref07_Device_Wake_j3 l3 l4 a1 a2 nx_f_ref07_Device_Wake_l1 x5)
      (
        f_ref07_Device_Wake_j3 l3 l4 a1 a2 nx_f_ref07_Device_Wake_l1 0)))
  (
    f_ref07_Device_Wake_j1 p0 l3 l4)
def f_ref07_Device_Wake_l1 (p0 : RDevA) (p1 : List Int) : Nat → (List (List UInt8) × List (List UInt8) × Int × Int) → Option RDevA := loopN fun nx x => f_ref07_Device_Wake_l1_b p0 p1 nx x.1 x.2.1 x.2.2.1 x.2.2.2
def f_ref07_Device_Wake (n : Nat) (p0 : RDevA) (p1 : List Int) : Option RDevA :=
  f_ref07_Device_Wake_l1 p0 p1 n (p0.blk, p0.pnd, 0, 0)
set_option maxRecDepth 100000 in
theorem c_ref07_Device_Wake {n : Nat} {b0_ : Nat} {v0x0_ : Value} {v0x1_ : Value} {v0x2_ : Value} {p0 : RDevA} {v1_ : Value} {p1 : List Int} {r : RDevA} (h : f_ref07_Device_Wake n p0 p1 = some r) (hs1_ : SlOf K w0 eI 1 v1_ p1) : Con Try.prog K w0 29 [vP b0_ 0, v1_] [own b0_ (.cells #[v0x0_, v0x1_, v0x2_, vU64 p0.rcnt, vS p0.rtag, vU32 p0.rboots, vI p0.left, vB p0.off] 45), rowT 9 1 v0x0_ eS p0.blk, rowT 9 1 v0x1_ eS p0.pnd, rowT 4 1 v0x2_ eB p0.bads] H (fun u M => u = .tuple #[] ∧ M = [own b0_ (.cells #[v0x0_, v0x1_, v0x2_, vU64 r.rcnt, vS r.rtag, vU32 r.rboots, vI r.left, vB r.off] 45), rowT 9 1 v0x0_ eS r.blk, rowT 9 1 v0x1_ eS r.pnd, rowT 4 1 v0x2_ eB r.bads]) := by
  unfold f_ref07_Device_Wake at h
  refine Con.enter Try.func29 rfl rfl ?_
  refine SX.sr ?_
  refine SL.asg ⟨rfl, rfl, rfl, rfl⟩ rfl ?_
  refine SL.nx ?_
  refine SX.meetD (α := List (List UInt8) × List (List UInt8)) (fun x => f_ref07_Device_Wake_j1 p0 x.1 x.2 = some r) (fun x => [(0, vP b0_ 0)]) (fun x => own b0_ (.cells #[v0x0_, v0x1_, v0x2_, vU64 p0.rcnt, vS p0.rtag, vU32 p0.rboots, vI p0.left, vB p0.off] 45) :: rowT 9 1 v0x0_ eS x.1 :: rowT 9 1 v0x1_ eS x.2 :: rowT 4 1 v0x2_ eB p0.bads :: H) ?_ (fun x D h => ?_)
  · skip
    refine SX.sr ?_
    refine SL.asg ⟨rfl, rfl, rfl, rfl⟩ rfl ?_
    refine SL.nx ?_
    refine SX.block ?_
    refine SX.heap (SX.mono (SX.loop (α := Nat × List (List UInt8) × List (List UInt8) × Int × Int) (fun x => f_ref07_Device_Wake_l1 p0 p1 x.1 (x.2.1, x.2.2.1, x.2.2.2.1, x.2.2.2.2) = some r) (fun x => [(0, vP b0_ 0), (1, v1_), (4, vI x.2.2.2.1), (5, vI x.2.2.2.2)]) (fun x => own b0_ (.cells #[v0x0_, v0x1_, v0x2_, vU64 p0.rcnt, vS p0.rtag, vU32 p0.rboots, vI p0.left, vB p0.off] 45) :: rowT 9 1 v0x0_ eS x.2.1 :: rowT 9 1 v0x1_ eS x.2.2.1 :: rowT 4 1 v0x2_ eB p0.bads :: H) (fun x => x.1) (fun x D h => ?_) (n, p0.blk, p0.pnd, 0, 0) h) (by repeat' (first | exact trivial | refine And.intro rfl ?_))) (fun _ hw => HpOk.pick (H := [_, _, _, _]) hw [0, 1, 2, 3] 4 rfl)
    obtain ⟨m1, l3, l4, a1, a2⟩ := x
    dsimp only at h
    rcases m1 with _ | m1
    · cases (show (none : Option _) = some r from h)
    replace h : f_ref07_Device_Wake_l1_b p0 p1 (f_ref07_Device_Wake_l1 p0 p1 m1) l3 l4 a1 a2 = some r := h
    unfold f_ref07_Device_Wake_l1_b at h
    refine SX.re [(0, vP b0_ 0), (1, v1_), (4, vI a1), (5, vI a2)] (own b0_ (.cells #[v0x0_, v0x1_, v0x2_, vU64 p0.rcnt, vS p0.rtag, vU32 p0.rboots, vI p0.left, vB p0.off] 45) :: rowT 9 1 v0x0_ eS l3 :: rowT 9 1 v0x1_ eS l4 :: rowT 4 1 v0x2_ eB p0.bads :: H) ?_ (by repeat' (first | exact trivial | refine And.intro rfl ?_))
    refine SX.seq ?_
    refine SX.sr ?_
    refine SL.mv ⟨rfl, rfl, rfl, rfl⟩ rfl ?_
    refine SL.mv ⟨rfl, rfl, rfl, rfl⟩ rfl ?_
    refine SL.nchk ⟨rfl, rfl, rfl, rfl⟩ rfl ?_
    refine SL.fa ⟨rfl, rfl, rfl, rfl⟩ rfl fo45_0 ?_
    refine SL.ld ⟨rfl, rfl, rfl, rfl⟩ sc37 rfl (cell_own 0 rfl rfl) ?_
    refine SL.lenT 1 ⟨rfl, rfl, rfl, rfl⟩ ty37 rfl rfl ?_
    refine SL.bin ⟨rfl, rfl, rfl, rfl⟩ rfl rfl Bin.ltI ?_
    refine SL.nx ?_
    refine SX.cond rfl (fun hc1 => ?_) (fun hc1 => ?_)
    · skip
      replace h := cT hc1 h
      refine SX.skip ?_
      refine SQ.thn ?_
      refine SX.meetD (α := List (List UInt8) × List (List UInt8) × Int) (fun x => f_ref07_Device_Wake_j2 a2 (f_ref07_Device_Wake_l1 p0 p1 m1) x.1 x.2.1 x.2.2 = some r) (fun x => [(0, vP b0_ 0), (1, v1_), (4, vI x.2.2), (5, vI a2)]) (fun x => own b0_ (.cells #[v0x0_, v0x1_, v0x2_, vU64 p0.rcnt, vS p0.rtag, vU32 p0.rboots, vI p0.left, vB p0.off] 45) :: rowT 9 1 v0x0_ eS x.1 :: rowT 9 1 v0x1_ eS x.2.1 :: rowT 4 1 v0x2_ eB p0.bads :: H) ?_ (fun x D h => ?_)
      · skip
        refine SX.block ?_
        refine SX.seq ?_
        refine SX.sr ?_
        obtain ⟨x1, hx1, h⟩ := bnd h
        refine SL.mv ⟨rfl, rfl, rfl, rfl⟩ rfl ?_
        refine SL.nchk ⟨rfl, rfl, rfl, rfl⟩ rfl ?_
        refine SL.fa ⟨rfl, rfl, rfl, rfl⟩ rfl fo45_1 ?_
        refine SL.ld ⟨rfl, rfl, rfl, rfl⟩ sc37 rfl (cell_own 0 rfl rfl) ?_
        refine SL.mv ⟨rfl, rfl, rfl, rfl⟩ rfl ?_
        refine SL.iaT 2 hx1 ⟨rfl, rfl, rfl, rfl⟩ ty37 sz9 rfl rfl rfl fun g1 m2 cp1 hv1 => ?_
        refine SL.ld ⟨rfl, rfl, rfl, rfl⟩ sc9 rfl (cell_rowT (sz := 1) (enc := eS) 2 0 (fun _ => rfl) rfl hv1 hx1 rfl) ?_
        refine SL.bin ⟨rfl, rfl, rfl, rfl⟩ rfl rfl Bin.eqS ?_
        refine SL.nx ?_
        refine SX.cond rfl (fun hc2 => ?_) (fun hc2 => ?_)
        · skip
          replace h := cT hc2 h
          refine SX.exit ?_
          refine SQ.thnE ?_
          refine SQ.blkE ?_
          exact SQ.midD (l3, l4, a1) h (by repeat' (first | exact trivial | refine And.intro rfl ?_)) (fun _ hw => HpOk.pick (H := [_, _, _, _]) hw [0, 1, 2, 3] 4 rfl)
        · skip
          replace h := cF hc2 h
          refine SX.skip ?_
          refine SQ.thn ?_
          refine SX.sr ?_
          refine SL.asg ⟨rfl, rfl, rfl, rfl⟩ rfl ?_
          refine SL.nx ?_
          refine SX.meetD (α := Int) (fun x => f_ref07_Device_Wake_j3 l3 l4 a1 a2 (f_ref07_Device_Wake_l1 p0 p1 m1) x = some r) (fun x => [(0, vP b0_ 0), (1, v1_), (4, vI a1), (5, vI a2), (6, vI x)]) (fun x => own b0_ (.cells #[v0x0_, v0x1_, v0x2_, vU64 p0.rcnt, vS p0.rtag, vU32 p0.rboots, vI p0.left, vB p0.off] 45) :: rowT 9 1 v0x0_ eS l3 :: rowT 9 1 v0x1_ eS l4 :: rowT 4 1 v0x2_ eB p0.bads :: H) ?_ (fun a4 D h => ?_)
          · skip
            refine SX.sr ?_
            obtain ⟨y1, hy1, h⟩ := bnd h
            obtain ⟨y2, hy2, h⟩ := bnd h
            refine SL.mv ⟨rfl, rfl, rfl, rfl⟩ rfl ?_
            refine SL.mv ⟨rfl, rfl, rfl, rfl⟩ rfl ?_
            refine SL.lenV hs1_ ⟨rfl, rfl, rfl, rfl⟩ ty33 rfl ?_
            refine SL.bin ⟨rfl, rfl, rfl, rfl⟩ rfl rfl Bin.ltI ?_
            refine SL.mv ⟨rfl, rfl, rfl, rfl⟩ rfl ?_
            refine SL.andN 28 6 34 hy1 rfl (fun hb hg1 k => ?_) (fun hb k => ?_) ?_
            · skip
              obtain ⟨x2, hx2, hg1⟩ := bnd hg1
              obtain rfl := Option.some.inj hg1
              refine SL.mv ⟨rfl, rfl, rfl, rfl⟩ rfl ?_
              refine SL.mv ⟨rfl, rfl, rfl, rfl⟩ rfl ?_
              refine SL.iaN hx2 hs1_ ⟨rfl, rfl, rfl, rfl⟩ ty33 sz3 rfl rfl fun be1 of1 hc3 => ?_
              refine SL.ld ⟨rfl, rfl, rfl, rfl⟩ sc3 rfl (cell_kept (j := 0) hc3 rfl) ?_
              refine SL.bin ⟨rfl, rfl, rfl, rfl⟩ rfl rfl Bin.geI ?_
              refine SL.pk ⟨rfl, rfl, rfl, rfl⟩ rfl rfl ?_
              exact k.mono (by repeat' (first | exact trivial | refine And.intro rfl ?_))
            · skip
              refine SL.pass rfl rfl rfl ?_
              refine SL.pass rfl rfl rfl ?_
              refine SL.pass rfl rfl rfl ?_
              refine SL.pass rfl rfl rfl ?_
              refine SL.pass rfl rfl rfl ?_
              refine SL.pk ⟨rfl, rfl, rfl, rfl⟩ rfl rfl ?_
              exact k.mono (by repeat' (first | exact trivial | refine And.intro rfl ?_))
            refine SL.mv ⟨rfl, rfl, rfl, rfl⟩ rfl ?_
            refine SL.andN 35 6 41 hy2 rfl (fun hb hg2 k => ?_) (fun hb k => ?_) ?_
            · skip
              obtain ⟨x3, hx3, hg2⟩ := bnd hg2
              obtain rfl := Option.some.inj hg2
              refine SL.mv ⟨rfl, rfl, rfl, rfl⟩ rfl ?_
              refine SL.mv ⟨rfl, rfl, rfl, rfl⟩ rfl ?_
              refine SL.iaN hx3 hs1_ ⟨rfl, rfl, rfl, rfl⟩ ty33 sz3 rfl rfl fun be2 of2 hc4 => ?_
              refine SL.ld ⟨rfl, rfl, rfl, rfl⟩ sc3 rfl (cell_kept (j := 0) hc4 rfl) ?_
              refine SL.bin ⟨rfl, rfl, rfl, rfl⟩ rfl rfl Bin.leI ?_
              refine SL.pk ⟨rfl, rfl, rfl, rfl⟩ rfl rfl ?_
              exact k.mono (by repeat' (first | exact trivial | refine And.intro rfl ?_))
            · skip
              refine SL.pass rfl rfl rfl ?_
              refine SL.pass rfl rfl rfl ?_
              refine SL.pass rfl rfl rfl ?_
              refine SL.pass rfl rfl rfl ?_
              refine SL.pass rfl rfl rfl ?_
              refine SL.pk ⟨rfl, rfl, rfl, rfl⟩ rfl rfl ?_
              exact k.mono (by repeat' (first | exact trivial | refine And.intro rfl ?_))
            refine SL.nx ?_
            refine SX.cond rfl (fun hc5 => ?_) (fun hc5 => ?_)
            · skip
              replace h := cT hc5 h
              refine SX.region ?_
              obtain ⟨x4, hx4, h⟩ := bnd h
              obtain ⟨x5, ex5, h⟩ := retE h
              refine SL.mv ⟨rfl, rfl, rfl, rfl⟩ rfl ?_
              refine SL.mv ⟨rfl, rfl, rfl, rfl⟩ rfl ?_
              refine SL.iaN hx4 hs1_ ⟨rfl, rfl, rfl, rfl⟩ ty33 sz3 rfl rfl fun be3 of3 hc6 => ?_
              refine SL.ld ⟨rfl, rfl, rfl, rfl⟩ sc3 rfl (cell_kept (j := 0) hc6 rfl) ?_
              refine SL.bin ⟨rfl, rfl, rfl, rfl⟩ rfl rfl Bin.mulW ?_
              refine SL.asgX (u := vI x5) ⟨rfl, rfl, rfl, rfl⟩ rfl (congrArg vI ex5) ?_
              refine SL.nil ?_
              exact SQ.midD x5 h (by repeat' (first | exact trivial | refine And.intro rfl ?_)) (fun _ hw => HpOk.pick (H := [_, _, _, _]) hw [0, 1, 2, 3] 4 rfl)
            · skip
              replace h := cF hc5 h
              refine SX.skip ?_
              exact SQ.midD 0 h (by repeat' (first | exact trivial | refine And.intro rfl ?_)) (fun _ hw => HpOk.pick (H := [_, _, _, _]) hw [0, 1, 2, 3] 4 rfl)
          · skip
            unfold f_ref07_Device_Wake_j3 at h
            refine SX.re [(0, vP b0_ 0), (1, v1_), (4, vI a1), (5, vI a2), (6, vI a4)] (own b0_ (.cells #[v0x0_, v0x1_, v0x2_, vU64 p0.rcnt, vS p0.rtag, vU32 p0.rboots, vI p0.left, vB p0.off] 45) :: rowT 9 1 v0x0_ eS l3 :: rowT 9 1 v0x1_ eS l4 :: rowT 4 1 v0x2_ eB p0.bads :: H) ?_ (by repeat' (first | exact trivial | refine And.intro rfl ?_))
            refine SX.seq ?_
            obtain ⟨x6, hx6, h⟩ := bnd h
            obtain ⟨s1, hs1, h⟩ := bnd h
            obtain ⟨x7, hx7, h⟩ := bnd h
            obtain ⟨s2, hs2, h⟩ := bnd h
            obtain ⟨s3, hs3, h⟩ := bnd h
            obtain ⟨x8, hx8, h⟩ := bnd h
            obtain ⟨l7, hl7, h⟩ := bnd h
            refine SX.drawI mix [0, 1, 2] (Pl.ap [(true, 0), (true, 1), (true, 2), (true, 3), (true, 4), (true, 5), (true, 6), (true, 7), (true, 8), (true, 9), (true, 10), (true, 11), (true, 12), (true, 13), (true, 14), (true, 15), (true, 16), (true, 17), (true, 18), (true, 19), (true, 20), (true, 21), (true, 22), (true, 23), (true, 24)] (.last 25 .nil)) (by kernel_rfl) ?_
            refine SL.mv ⟨rfl, rfl, rfl, rfl⟩ rfl ?_
            refine SL.nchk ⟨rfl, rfl, rfl, rfl⟩ rfl ?_
            refine SL.fa ⟨rfl, rfl, rfl, rfl⟩ rfl fo45_0 ?_
            refine SL.ld ⟨rfl, rfl, rfl, rfl⟩ sc37 rfl (cell_own 0 rfl rfl) ?_
            refine SL.mv ⟨rfl, rfl, rfl, rfl⟩ rfl ?_
            refine SL.mv ⟨rfl, rfl, rfl, rfl⟩ rfl ?_
            refine SL.nchk ⟨rfl, rfl, rfl, rfl⟩ rfl ?_
            refine SL.fa ⟨rfl, rfl, rfl, rfl⟩ rfl fo45_1 ?_
            refine SL.ld ⟨rfl, rfl, rfl, rfl⟩ sc37 rfl (cell_own 0 rfl rfl) ?_
            refine SL.mv ⟨rfl, rfl, rfl, rfl⟩ rfl ?_
            refine SL.iaT 2 hx6 ⟨rfl, rfl, rfl, rfl⟩ ty37 sz9 rfl rfl rfl fun g2 m3 cp2 hv2 => ?_
            refine SL.ld ⟨rfl, rfl, rfl, rfl⟩ sc9 rfl (cell_rowT (sz := 1) (enc := eS) 2 0 (fun _ => rfl) rfl hv2 hx6 rfl) ?_
            refine SL.mv ⟨rfl, rfl, rfl, rfl⟩ rfl ?_
            refine SL.slNh hs1 ⟨rfl, rfl, rfl, rfl⟩ ty9 rfl rfl ?_
            refine SL.mv ⟨rfl, rfl, rfl, rfl⟩ rfl ?_
            refine SL.nchk ⟨rfl, rfl, rfl, rfl⟩ rfl ?_
            refine SL.fa ⟨rfl, rfl, rfl, rfl⟩ rfl fo45_0 ?_
            refine SL.ld ⟨rfl, rfl, rfl, rfl⟩ sc37 rfl (cell_own 0 rfl rfl) ?_
            refine SL.mv ⟨rfl, rfl, rfl, rfl⟩ rfl ?_
            refine SL.iaT 1 hx7 ⟨rfl, rfl, rfl, rfl⟩ ty37 sz9 rfl rfl rfl fun g3 m4 cp3 hv3 => ?_
            refine SL.ld ⟨rfl, rfl, rfl, rfl⟩ sc9 rfl (cell_rowT (sz := 1) (enc := eS) 1 0 (fun _ => rfl) rfl hv3 hx7 rfl) ?_
            refine SL.mv ⟨rfl, rfl, rfl, rfl⟩ rfl ?_
            refine SL.slNl hs2 ⟨rfl, rfl, rfl, rfl⟩ ty9 rfl rfl ?_
            refine SL.bin ⟨rfl, rfl, rfl, rfl⟩ rfl rfl (Bin.catO hs3) ?_
            refine SL.iaT 1 hx8 ⟨rfl, rfl, rfl, rfl⟩ ty37 sz9 rfl rfl rfl fun g4 m5 cp4 hv4 => ?_
            refine SL.last ?_
            refine SL.stTN (sz := 1) (enc := eS) 1 hl7 (fun _ => rfl) ⟨rfl, rfl, rfl⟩ rfl rfl rfl rfl hv4 sz9 (by simp [Value.oneCell']) trivial ?_
            refine SL.nx ?_
            refine SX.sr ?_
            obtain ⟨x9, hx9, h⟩ := bnd h
            obtain ⟨l8, hl8, h⟩ := bnd h
            refine SL.mv ⟨rfl, rfl, rfl, rfl⟩ rfl ?_
            refine SL.nchk ⟨rfl, rfl, rfl, rfl⟩ rfl ?_
            refine SL.fa ⟨rfl, rfl, rfl, rfl⟩ rfl fo45_1 ?_
            refine SL.ld ⟨rfl, rfl, rfl, rfl⟩ sc37 rfl (cell_own 0 rfl rfl) ?_
            refine SL.mv ⟨rfl, rfl, rfl, rfl⟩ rfl ?_
            refine SL.iaT 2 hx9 ⟨rfl, rfl, rfl, rfl⟩ ty37 sz9 rfl rfl rfl fun g5 m6 cp5 hv5 => ?_
            refine SL.stTN (sz := 1) (enc := eS) 2 hl8 (fun _ => rfl) ⟨rfl, rfl, rfl⟩ rfl rfl rfl rfl hv5 sz9 (by simp [Value.oneCell']) trivial ?_
            refine SL.nx ?_
            refine SX.region ?_
            obtain ⟨x10, ex10, h⟩ := retE h
            refine SL.mv ⟨rfl, rfl, rfl, rfl⟩ rfl ?_
            refine SL.bin ⟨rfl, rfl, rfl, rfl⟩ rfl rfl Bin.addW ?_
            refine SL.asgX (u := vI x10) ⟨rfl, rfl, rfl, rfl⟩ rfl (congrArg vI ex10) ?_
            refine SL.nil ?_
            refine SQ.blk ?_
            exact SQ.midD (l7, l8, x10) h (by repeat' (first | exact trivial | refine And.intro rfl ?_)) (fun _ hw => HpOk.pick (H := [_, _, _, _]) hw [0, 1, 2, 3] 4 rfl)
      · skip
        obtain ⟨l5, l6, a3⟩ := x
        dsimp only at h
        unfold f_ref07_Device_Wake_j2 at h
        refine SX.re [(0, vP b0_ 0), (1, v1_), (4, vI a3), (5, vI a2)] (own b0_ (.cells #[v0x0_, v0x1_, v0x2_, vU64 p0.rcnt, vS p0.rtag, vU32 p0.rboots, vI p0.left, vB p0.off] 45) :: rowT 9 1 v0x0_ eS l5 :: rowT 9 1 v0x1_ eS l6 :: rowT 4 1 v0x2_ eB p0.bads :: H) ?_ (by repeat' (first | exact trivial | refine And.intro rfl ?_))
        refine SX.region ?_
        obtain ⟨x11, ex11, h⟩ := retE h
        refine SL.mv ⟨rfl, rfl, rfl, rfl⟩ rfl ?_
        refine SL.bin ⟨rfl, rfl, rfl, rfl⟩ rfl rfl Bin.addW ?_
        refine SL.asgX (u := vI x11) ⟨rfl, rfl, rfl, rfl⟩ rfl (congrArg vI ex11) ?_
        refine SL.nil ?_
        exact SQ.again (m1, l5, l6, a3, x11) h (Nat.lt_succ_self _) (by repeat' (first | exact trivial | refine And.intro rfl ?_)) (fun _ hw => HpOk.pick (H := [_, _, _, _]) hw [0, 1, 2, 3] 4 rfl)
    · skip
      replace h := cF hc1 h
      refine SX.exit ?_
      refine SQ.thnE ?_
      refine SQ.lpE ?_
      refine SQ.blkE ?_
      exact SQ.midD (l3, l4) h (by repeat' (first | exact trivial | refine And.intro rfl ?_)) (fun _ hw => HpOk.pick (H := [_, _, _, _]) hw [0, 1, 2, 3] 4 rfl)
  · skip
    obtain ⟨l1, l2⟩ := x
    dsimp only at h
    unfold f_ref07_Device_Wake_j1 at h
    refine SX.re [(0, vP b0_ 0)] (own b0_ (.cells #[v0x0_, v0x1_, v0x2_, vU64 p0.rcnt, vS p0.rtag, vU32 p0.rboots, vI p0.left, vB p0.off] 45) :: rowT 9 1 v0x0_ eS l1 :: rowT 9 1 v0x1_ eS l2 :: rowT 4 1 v0x2_ eB p0.bads :: H) ?_ (by repeat' (first | exact trivial | refine And.intro rfl ?_))
    refine SX.sr ?_
    refine SL.mv ⟨rfl, rfl, rfl, rfl⟩ rfl ?_
    refine SL.nchk ⟨rfl, rfl, rfl, rfl⟩ rfl ?_
    refine SL.fa ⟨rfl, rfl, rfl, rfl⟩ rfl fo45_5 ?_
    refine SL.st 0 ⟨rfl, rfl, rfl⟩ rfl rfl rfl sz4 rfl rfl rfl trivial ?_
    refine SL.nx ?_
    refine SX.region ?_
    refine SL.mv ⟨rfl, rfl, rfl, rfl⟩ rfl ?_
    refine SL.nchk ⟨rfl, rfl, rfl, rfl⟩ rfl ?_
    refine SL.fa ⟨rfl, rfl, rfl, rfl⟩ rfl fo45_4 ?_
    refine SL.st 0 ⟨rfl, rfl, rfl⟩ rfl rfl rfl sz3 rfl rfl rfl trivial ?_
    refine SL.nil ?_
    obtain rfl := Option.some.inj h
    exact SQ.fend (res0 rfl) (ret_of (M := [_, _, _, _]) ⟨rfl, rfl⟩ fun _ hw => HpOk.pick (H := [_, _, _, _]) hw [0, 1, 2, 3] 4 rfl)

def f_ref07_Device_Put (p0 : RDevA) (p1 : UInt32) (p2 : List UInt8) : Option (Int × RDevA) :=
  (f_ref07_Device_is p0 p1).bind fun y1 =>
  cond ((!y1) || (!decide ((p2.length : Int) = 256)))
  (
    some (2, p0))
  (
    (nthI p0.blk (p1.toNat : Int)).bind fun x1 =>
    (setI p0.blk (p1.toNat : Int) p2).bind fun l1 =>
    (nthI p0.pnd (p1.toNat : Int)).bind fun x2 =>
    (setI p0.pnd (p1.toNat : Int) []).bind fun l2 =>
    some (0, { p0 with blk := l1, pnd := l2 }))
set_option maxRecDepth 100000 in
theorem c_ref07_Device_Put {b0_ : Nat} {v0x0_ : Value} {v0x1_ : Value} {v0x2_ : Value} {p0 : RDevA} {p1 : UInt32} {p2 : List UInt8} {r : Int × RDevA} (h : f_ref07_Device_Put p0 p1 p2 = some r)  : Con Try.prog K w0 31 [vP b0_ 0, vU32 p1, vS p2] [own b0_ (.cells #[v0x0_, v0x1_, v0x2_, vU64 p0.rcnt, vS p0.rtag, vU32 p0.rboots, vI p0.left, vB p0.off] 45), rowT 9 1 v0x0_ eS p0.blk, rowT 9 1 v0x1_ eS p0.pnd, rowT 4 1 v0x2_ eB p0.bads] H (fun u M => u = vI r.1 ∧ M = [own b0_ (.cells #[v0x0_, v0x1_, v0x2_, vU64 r.2.rcnt, vS r.2.rtag, vU32 r.2.rboots, vI r.2.left, vB r.2.off] 45), rowT 9 1 v0x0_ eS r.2.blk, rowT 9 1 v0x1_ eS r.2.pnd, rowT 4 1 v0x2_ eB r.2.bads]) := by
  unfold f_ref07_Device_Put at h
  refine Con.enter Try.func31 rfl rfl ?_
  refine SX.sr ?_
  refine SL.asg ⟨rfl, rfl, rfl, rfl⟩ rfl ?_
  refine SL.nx ?_
  refine SX.seq ?_
  refine SX.sr ?_
  obtain ⟨y1, hy1, h⟩ := bnd h
  refine SL.mv ⟨rfl, rfl, rfl, rfl⟩ rfl ?_
  refine SL.mv ⟨rfl, rfl, rfl, rfl⟩ rfl ?_
  refine SL.call (vs := [_, _]) (Hin := [_, _, _, _]) (Hr := _) ⟨rfl, rfl, rfl, rfl⟩ rfl ⟨rfl, rfl, trivial⟩ cal47 rfl rfl (c_ref07_Device_is hy1) ?_
  rintro _ _ ⟨rfl, rfl⟩
  refine ⟨trivial, ?_⟩
  refine SL.not ⟨rfl, rfl, rfl, rfl⟩ rfl ?_
  refine SL.mv ⟨rfl, rfl, rfl, rfl⟩ rfl ?_
  refine SL.or (c := !decide ((p2.length : Int) = 256)) 11 4 15 rfl (fun hb k => ?_) (fun hb k => ?_) ?_
  · skip
    refine SL.pass rfl rfl rfl ?_
    refine SL.pass rfl rfl rfl ?_
    refine SL.pass rfl rfl rfl ?_
    refine SL.pk ⟨rfl, rfl, rfl, rfl⟩ rfl rfl ?_
    exact k.mono (by repeat' (first | exact trivial | refine And.intro rfl ?_))
  · skip
    refine SL.mv ⟨rfl, rfl, rfl, rfl⟩ rfl ?_
    refine SL.lenS ⟨rfl, rfl, rfl, rfl⟩ ty9 rfl ?_
    refine SL.bin ⟨rfl, rfl, rfl, rfl⟩ rfl rfl Bin.neI ?_
    refine SL.pk ⟨rfl, rfl, rfl, rfl⟩ rfl rfl ?_
    exact k.mono (by repeat' (first | exact trivial | refine And.intro rfl ?_))
  refine SL.nx ?_
  refine SX.cond rfl (fun hc1 => ?_) (fun hc1 => ?_)
  · skip
    replace h := cT hc1 h
    refine SX.sr ?_
    refine SL.asg ⟨rfl, rfl, rfl, rfl⟩ rfl ?_
    refine SL.nx ?_
    refine SX.ret ?_
    refine SQ.thnR ?_
    obtain rfl := Option.some.inj h
    exact SQ.fret (res1 rfl rfl) (ret_of (M := [_, _, _, _]) ⟨rfl, rfl⟩ fun _ hw => HpOk.pick (H := [_, _, _, _]) hw [0, 1, 2, 3] 4 rfl)
  · skip
    replace h := cF hc1 h
    refine SX.skip ?_
    refine SQ.thn ?_
    refine SX.sr ?_
    obtain ⟨x1, hx1, h⟩ := bnd h
    obtain ⟨l1, hl1, h⟩ := bnd h
    refine SL.mv ⟨rfl, rfl, rfl, rfl⟩ rfl ?_
    refine SL.nchk ⟨rfl, rfl, rfl, rfl⟩ rfl ?_
    refine SL.fa ⟨rfl, rfl, rfl, rfl⟩ rfl fo45_0 ?_
    refine SL.ld ⟨rfl, rfl, rfl, rfl⟩ sc37 rfl (cell_own 0 rfl rfl) ?_
    refine SL.mv ⟨rfl, rfl, rfl, rfl⟩ rfl ?_
    refine SL.mv ⟨rfl, rfl, rfl, rfl⟩ rfl ?_
    refine SL.iaT 1 hx1 ⟨rfl, rfl, rfl, rfl⟩ ty37 sz9 rfl rfl rfl fun g1 m1 cp1 hv1 => ?_
    refine SL.stTN (sz := 1) (enc := eS) 1 hl1 (fun _ => rfl) ⟨rfl, rfl, rfl⟩ rfl rfl rfl rfl hv1 sz9 (by simp [Value.oneCell']) trivial ?_
    refine SL.nx ?_
    refine SX.sr ?_
    obtain ⟨x2, hx2, h⟩ := bnd h
    obtain ⟨l2, hl2, h⟩ := bnd h
    refine SL.mv ⟨rfl, rfl, rfl, rfl⟩ rfl ?_
    refine SL.nchk ⟨rfl, rfl, rfl, rfl⟩ rfl ?_
    refine SL.fa ⟨rfl, rfl, rfl, rfl⟩ rfl fo45_1 ?_
    refine SL.ld ⟨rfl, rfl, rfl, rfl⟩ sc37 rfl (cell_own 0 rfl rfl) ?_
    refine SL.mv ⟨rfl, rfl, rfl, rfl⟩ rfl ?_
    refine SL.iaT 2 hx2 ⟨rfl, rfl, rfl, rfl⟩ ty37 sz9 rfl rfl rfl fun g2 m2 cp2 hv2 => ?_
    refine SL.stTN (sz := 1) (enc := eS) 2 hl2 (fun _ => rfl) ⟨rfl, rfl, rfl⟩ rfl rfl rfl rfl hv2 sz9 (by simp [Value.oneCell']) trivial ?_
    refine SL.nx ?_
    refine SX.sr ?_
    refine SL.asg ⟨rfl, rfl, rfl, rfl⟩ rfl ?_
    refine SL.nx ?_
    refine SX.ret ?_
    obtain rfl := Option.some.inj h
    exact SQ.fret (res1 rfl rfl) (ret_of (M := [_, _, _, _]) ⟨rfl, rfl⟩ fun _ hw => HpOk.pick (H := [_, _, _, _]) hw [0, 1, 2, 3] 4 rfl)

def f_ref07_Device_Bad (p0 : RDevA) (p1 : UInt32) (p2 : Bool) : Option (Int × RDevA) :=
  (f_ref07_Device_is p0 p1).bind fun y1 =>
  cond (!y1)
  (
    some (2, p0))
  (
    (nthI p0.bads (p1.toNat : Int)).bind fun x1 =>
    (setI p0.bads (p1.toNat : Int) p2).bind fun l1 =>
    some (0, { p0 with bads := l1 }))
set_option maxRecDepth 100000 in
theorem c_ref07_Device_Bad {b0_ : Nat} {v0x0_ : Value} {v0x1_ : Value} {v0x2_ : Value} {p0 : RDevA} {p1 : UInt32} {p2 : Bool} {r : Int × RDevA} (h : f_ref07_Device_Bad p0 p1 p2 = some r)  : Con Try.prog K w0 33 [vP b0_ 0, vU32 p1, vB p2] [own b0_ (.cells #[v0x0_, v0x1_, v0x2_, vU64 p0.rcnt, vS p0.rtag, vU32 p0.rboots, vI p0.left, vB p0.off] 45), rowT 9 1 v0x0_ eS p0.blk, rowT 9 1 v0x1_ eS p0.pnd, rowT 4 1 v0x2_ eB p0.bads] H (fun u M => u = vI r.1 ∧ M = [own b0_ (.cells #[v0x0_, v0x1_, v0x2_, vU64 r.2.rcnt, vS r.2.rtag, vU32 r.2.rboots, vI r.2.left, vB r.2.off] 45), rowT 9 1 v0x0_ eS r.2.blk, rowT 9 1 v0x1_ eS r.2.pnd, rowT 4 1 v0x2_ eB r.2.bads]) := by
  unfold f_ref07_Device_Bad at h
  refine Con.enter Try.func33 rfl rfl ?_
  refine SX.sr ?_
  refine SL.asg ⟨rfl, rfl, rfl, rfl⟩ rfl ?_
  refine SL.nx ?_
  refine SX.seq ?_
  refine SX.sr ?_
  obtain ⟨y1, hy1, h⟩ := bnd h
  refine SL.mv ⟨rfl, rfl, rfl, rfl⟩ rfl ?_
  refine SL.mv ⟨rfl, rfl, rfl, rfl⟩ rfl ?_
  refine SL.call (vs := [_, _]) (Hin := [_, _, _, _]) (Hr := _) ⟨rfl, rfl, rfl, rfl⟩ rfl ⟨rfl, rfl, trivial⟩ cal47 rfl rfl (c_ref07_Device_is hy1) ?_
  rintro _ _ ⟨rfl, rfl⟩
  refine ⟨trivial, ?_⟩
  refine SL.not ⟨rfl, rfl, rfl, rfl⟩ rfl ?_
  refine SL.nx ?_
  refine SX.cond rfl (fun hc1 => ?_) (fun hc1 => ?_)
  · skip
    replace h := cT hc1 h
    refine SX.sr ?_
    refine SL.asg ⟨rfl, rfl, rfl, rfl⟩ rfl ?_
    refine SL.nx ?_
    refine SX.ret ?_
    refine SQ.thnR ?_
    obtain rfl := Option.some.inj h
    exact SQ.fret (res1 rfl rfl) (ret_of (M := [_, _, _, _]) ⟨rfl, rfl⟩ fun _ hw => HpOk.pick (H := [_, _, _, _]) hw [0, 1, 2, 3] 4 rfl)
  · skip
    replace h := cF hc1 h
    refine SX.skip ?_
    refine SQ.thn ?_
    refine SX.sr ?_
    obtain ⟨x1, hx1, h⟩ := bnd h
    obtain ⟨l1, hl1, h⟩ := bnd h
    refine SL.mv ⟨rfl, rfl, rfl, rfl⟩ rfl ?_
    refine SL.nchk ⟨rfl, rfl, rfl, rfl⟩ rfl ?_
    refine SL.fa ⟨rfl, rfl, rfl, rfl⟩ rfl fo45_2 ?_
    refine SL.ld ⟨rfl, rfl, rfl, rfl⟩ sc43 rfl (cell_own 0 rfl rfl) ?_
    refine SL.mv ⟨rfl, rfl, rfl, rfl⟩ rfl ?_
    refine SL.mv ⟨rfl, rfl, rfl, rfl⟩ rfl ?_
    refine SL.iaT 3 hx1 ⟨rfl, rfl, rfl, rfl⟩ ty43 sz4 rfl rfl rfl fun g1 m1 cp1 hv1 => ?_
    refine SL.stTN (sz := 1) (enc := eB) 3 hl1 (fun _ => rfl) ⟨rfl, rfl, rfl⟩ rfl rfl rfl rfl hv1 sz4 (by simp [Value.oneCell']) trivial ?_
    refine SL.nx ?_
    refine SX.sr ?_
    refine SL.asg ⟨rfl, rfl, rfl, rfl⟩ rfl ?_
    refine SL.nx ?_
    refine SX.ret ?_
    obtain rfl := Option.some.inj h
    exact SQ.fret (res1 rfl rfl) (ret_of (M := [_, _, _, _]) ⟨rfl, rfl⟩ fun _ hw => HpOk.pick (H := [_, _, _, _]) hw [0, 1, 2, 3] 4 rfl)

def f_ref07_Device_Read (p0 : RDevA) (p1 : UInt32) : Option (List UInt8 × Int) :=
  (f_ref07_Device_is p0 p1).bind fun y1 =>
  cond (!y1)
  (
    some ([], 2))
  (
    cond p0.off
    (
      some ([], 71))
    (
      (nthI p0.bads (p1.toNat : Int)).bind fun x1 =>
      cond x1
      (
        some ([], 70))
      (
        (f_ref07_Device_Holds p0 p1).bind fun y2 =>
        some (y2, 0))))
set_option maxRecDepth 100000 in
theorem c_ref07_Device_Read {b0_ : Nat} {v0x0_ : Value} {v0x1_ : Value} {v0x2_ : Value} {p0 : RDevA} {p1 : UInt32} {r : List UInt8 × Int} (h : f_ref07_Device_Read p0 p1 = some r)  : Con Try.prog K w0 34 [vP b0_ 0, vU32 p1] [own b0_ (.cells #[v0x0_, v0x1_, v0x2_, vU64 p0.rcnt, vS p0.rtag, vU32 p0.rboots, vI p0.left, vB p0.off] 45), rowT 9 1 v0x0_ eS p0.blk, rowT 9 1 v0x1_ eS p0.pnd, rowT 4 1 v0x2_ eB p0.bads] H (fun u M => u = .tuple #[vS r.1, vI r.2] ∧ M = [own b0_ (.cells #[v0x0_, v0x1_, v0x2_, vU64 p0.rcnt, vS p0.rtag, vU32 p0.rboots, vI p0.left, vB p0.off] 45), rowT 9 1 v0x0_ eS p0.blk, rowT 9 1 v0x1_ eS p0.pnd, rowT 4 1 v0x2_ eB p0.bads]) := by
  unfold f_ref07_Device_Read at h
  refine Con.enter Try.func34 rfl rfl ?_
  refine SX.sr ?_
  refine SL.asg ⟨rfl, rfl, rfl, rfl⟩ rfl ?_
  refine SL.asg ⟨rfl, rfl, rfl, rfl⟩ rfl ?_
  refine SL.nx ?_
  refine SX.seq ?_
  refine SX.sr ?_
  obtain ⟨y1, hy1, h⟩ := bnd h
  refine SL.mv ⟨rfl, rfl, rfl, rfl⟩ rfl ?_
  refine SL.mv ⟨rfl, rfl, rfl, rfl⟩ rfl ?_
  refine SL.call (vs := [_, _]) (Hin := [_, _, _, _]) (Hr := _) ⟨rfl, rfl, rfl, rfl⟩ rfl ⟨rfl, rfl, trivial⟩ cal47 rfl rfl (c_ref07_Device_is hy1) ?_
  rintro _ _ ⟨rfl, rfl⟩
  refine ⟨trivial, ?_⟩
  refine SL.not ⟨rfl, rfl, rfl, rfl⟩ rfl ?_
  refine SL.nx ?_
  refine SX.cond rfl (fun hc1 => ?_) (fun hc1 => ?_)
  · skip
    replace h := cT hc1 h
    refine SX.sr ?_
    refine SL.asg ⟨rfl, rfl, rfl, rfl⟩ rfl ?_
    refine SL.asg ⟨rfl, rfl, rfl, rfl⟩ rfl ?_
    refine SL.nx ?_
    refine SX.ret ?_
    refine SQ.thnR ?_
    obtain rfl := Option.some.inj h
    exact SQ.fret (res2 rfl rfl rfl) (ret_of (M := [_, _, _, _]) ⟨rfl, rfl⟩ fun _ hw => HpOk.pick (H := [_, _, _, _]) hw [0, 1, 2, 3] 4 rfl)
  · skip
    replace h := cF hc1 h
    refine SX.skip ?_
    refine SQ.thn ?_
    refine SX.seq ?_
    refine SX.sr ?_
    refine SL.mv ⟨rfl, rfl, rfl, rfl⟩ rfl ?_
    refine SL.nchk ⟨rfl, rfl, rfl, rfl⟩ rfl ?_
    refine SL.fa ⟨rfl, rfl, rfl, rfl⟩ rfl fo45_5 ?_
    refine SL.ld ⟨rfl, rfl, rfl, rfl⟩ sc4 rfl (cell_own 0 rfl rfl) ?_
    refine SL.nx ?_
    refine SX.cond rfl (fun hc2 => ?_) (fun hc2 => ?_)
    · skip
      replace h := cT hc2 h
      refine SX.sr ?_
      refine SL.asg ⟨rfl, rfl, rfl, rfl⟩ rfl ?_
      refine SL.asg ⟨rfl, rfl, rfl, rfl⟩ rfl ?_
      refine SL.nx ?_
      refine SX.ret ?_
      refine SQ.thnR ?_
      obtain rfl := Option.some.inj h
      exact SQ.fret (res2 rfl rfl rfl) (ret_of (M := [_, _, _, _]) ⟨rfl, rfl⟩ fun _ hw => HpOk.pick (H := [_, _, _, _]) hw [0, 1, 2, 3] 4 rfl)
    · skip
      replace h := cF hc2 h
      refine SX.skip ?_
      refine SQ.thn ?_
      refine SX.seq ?_
      refine SX.sr ?_
      obtain ⟨x1, hx1, h⟩ := bnd h
      refine SL.mv ⟨rfl, rfl, rfl, rfl⟩ rfl ?_
      refine SL.nchk ⟨rfl, rfl, rfl, rfl⟩ rfl ?_
      refine SL.fa ⟨rfl, rfl, rfl, rfl⟩ rfl fo45_2 ?_
      refine SL.ld ⟨rfl, rfl, rfl, rfl⟩ sc43 rfl (cell_own 0 rfl rfl) ?_
      refine SL.mv ⟨rfl, rfl, rfl, rfl⟩ rfl ?_
      refine SL.iaT 3 hx1 ⟨rfl, rfl, rfl, rfl⟩ ty43 sz4 rfl rfl rfl fun g1 m1 cp1 hv1 => ?_
      refine SL.ld ⟨rfl, rfl, rfl, rfl⟩ sc4 rfl (cell_rowT (sz := 1) (enc := eB) 3 0 (fun _ => rfl) rfl hv1 hx1 rfl) ?_
      refine SL.nx ?_
      refine SX.cond rfl (fun hc3 => ?_) (fun hc3 => ?_)
      · skip
        replace h := cT hc3 h
        refine SX.sr ?_
        refine SL.asg ⟨rfl, rfl, rfl, rfl⟩ rfl ?_
        refine SL.asg ⟨rfl, rfl, rfl, rfl⟩ rfl ?_
        refine SL.nx ?_
        refine SX.ret ?_
        refine SQ.thnR ?_
        obtain rfl := Option.some.inj h
        exact SQ.fret (res2 rfl rfl rfl) (ret_of (M := [_, _, _, _]) ⟨rfl, rfl⟩ fun _ hw => HpOk.pick (H := [_, _, _, _]) hw [0, 1, 2, 3] 4 rfl)
      · skip
        replace h := cF hc3 h
        refine SX.skip ?_
        refine SQ.thn ?_
        refine SX.sr ?_
        obtain ⟨y2, hy2, h⟩ := bnd h
        refine SL.mv ⟨rfl, rfl, rfl, rfl⟩ rfl ?_
        refine SL.mv ⟨rfl, rfl, rfl, rfl⟩ rfl ?_
        refine SL.call (vs := [_, _]) (Hin := [_, _, _, _]) (Hr := _) ⟨rfl, rfl, rfl, rfl⟩ rfl ⟨rfl, rfl, trivial⟩ cal36 rfl rfl (c_ref07_Device_Holds hy2) ?_
        rintro _ _ ⟨rfl, rfl⟩
        refine ⟨trivial, ?_⟩
        refine SL.asg ⟨rfl, rfl, rfl, rfl⟩ rfl ?_
        refine SL.asg ⟨rfl, rfl, rfl, rfl⟩ rfl ?_
        refine SL.nx ?_
        refine SX.ret ?_
        obtain rfl := Option.some.inj h
        exact SQ.fret (res2 rfl rfl rfl) (ret_of (M := [_, _, _, _]) ⟨rfl, rfl⟩ fun _ hw => HpOk.pick (H := [_, _, _, _]) hw [0, 1, 2, 3] 4 rfl)

def f_ref07_Device_Image_j1 (l1 : List (List UInt8)) : Option (List (List UInt8)) :=
  some l1
def f_ref07_Device_Image_l1_b (p0 : RDevA) (nx_f_ref07_Device_Image_l1 : List (List UInt8) × Int → Option (List (List UInt8))) (l2 : List (List UInt8)) (a1 : Int) : Option (List (List UInt8)) :=
  cond (decide (a1 < (p0.blk.length : Int)))
  (
    (f_ref07_Device_Holds p0 (toU32 a1)).bind fun y1 =>
    (appL 16 l2 [y1]).bind fun l3 =>
    ret (wI (a1 + 1)) fun i_1 =>
    nx_f_ref07_Device_Image_l1 (l3, i_1))
  (
    f_ref07_Device_Image_j1 l2)
def f_ref07_Device_Image_l1 (p0 : RDevA) : Nat → (List (List UInt8) × Int) → Option (List (List UInt8)) := loopN fun nx x => f_ref07_Device_Image_l1_b p0 nx x.1 x.2
def f_ref07_Device_Image (n : Nat) (p0 : RDevA) : Option (List (List UInt8)) :=
  f_ref07_Device_Image_l1 p0 n ([], 0)
set_option maxRecDepth 100000 in
theorem c_ref07_Device_Image {n : Nat} {b0_ : Nat} {v0x0_ : Value} {v0x1_ : Value} {v0x2_ : Value} {p0 : RDevA} {r : List (List UInt8)} (h : f_ref07_Device_Image n p0 = some r)  : Con Try.prog K w0 10 [vP b0_ 0] [own b0_ (.cells #[v0x0_, v0x1_, v0x2_, vU64 p0.rcnt, vS p0.rtag, vU32 p0.rboots, vI p0.left, vB p0.off] 45), rowT 9 1 v0x0_ eS p0.blk, rowT 9 1 v0x1_ eS p0.pnd, rowT 4 1 v0x2_ eB p0.bads] H (fun u M => ∃ v0 : Value, u = v0 ∧ M = [rowT 9 1 v0 eS r, own b0_ (.cells #[v0x0_, v0x1_, v0x2_, vU64 p0.rcnt, vS p0.rtag, vU32 p0.rboots, vI p0.left, vB p0.off] 45), rowT 9 1 v0x0_ eS p0.blk, rowT 9 1 v0x1_ eS p0.pnd, rowT 4 1 v0x2_ eB p0.bads]) := by
  unfold f_ref07_Device_Image at h
  refine Con.enter Try.func10 rfl rfl ?_
  refine SX.sr ?_
  refine SL.nilT 9 1 eS ?_
  refine SL.asg ⟨rfl, rfl, rfl, rfl⟩ rfl ?_
  refine SL.nx ?_
  refine SX.sr ?_
  refine SL.nilT 9 1 eS ?_
  refine SL.asg ⟨rfl, rfl, rfl, rfl⟩ rfl ?_
  refine SL.nx ?_
  refine SX.meetD (α := List (List UInt8) × Value) (fun x => f_ref07_Device_Image_j1 x.1 = some r) (fun x => [(0, vP b0_ 0), (3, x.2)]) (fun x => own b0_ (.cells #[v0x0_, v0x1_, v0x2_, vU64 p0.rcnt, vS p0.rtag, vU32 p0.rboots, vI p0.left, vB p0.off] 45) :: rowT 9 1 v0x0_ eS p0.blk :: rowT 9 1 v0x1_ eS p0.pnd :: rowT 4 1 v0x2_ eB p0.bads :: rowT 9 1 x.2 eS x.1 :: H) ?_ (fun x D h => ?_)
  · skip
    refine SX.sr ?_
    refine SL.asg ⟨rfl, rfl, rfl, rfl⟩ rfl ?_
    refine SL.nx ?_
    refine SX.block ?_
    refine SX.heap (SX.mono (SX.loop (α := Nat × List (List UInt8) × Value × Int) (fun x => f_ref07_Device_Image_l1 p0 x.1 (x.2.1, x.2.2.2) = some r) (fun x => [(0, vP b0_ 0), (3, x.2.2.1), (4, vI x.2.2.2)]) (fun x => own b0_ (.cells #[v0x0_, v0x1_, v0x2_, vU64 p0.rcnt, vS p0.rtag, vU32 p0.rboots, vI p0.left, vB p0.off] 45) :: rowT 9 1 v0x0_ eS p0.blk :: rowT 9 1 v0x1_ eS p0.pnd :: rowT 4 1 v0x2_ eB p0.bads :: rowT 9 1 x.2.2.1 eS x.2.1 :: H) (fun x => x.1) (fun x D h => ?_) (n, [], .slice none 0 0, 0) h) (by repeat' (first | exact trivial | refine And.intro rfl ?_))) (fun _ hw => HpOk.pick (H := [_, _, _, _, _, _]) hw [2, 3, 4, 5, 0] 6 rfl)
    obtain ⟨m1, l2, v2, a1⟩ := x
    dsimp only at h
    rcases m1 with _ | m1
    · cases (show (none : Option _) = some r from h)
    replace h : f_ref07_Device_Image_l1_b p0 (f_ref07_Device_Image_l1 p0 m1) l2 a1 = some r := h
    unfold f_ref07_Device_Image_l1_b at h
    refine SX.re [(0, vP b0_ 0), (3, v2), (4, vI a1)] (own b0_ (.cells #[v0x0_, v0x1_, v0x2_, vU64 p0.rcnt, vS p0.rtag, vU32 p0.rboots, vI p0.left, vB p0.off] 45) :: rowT 9 1 v0x0_ eS p0.blk :: rowT 9 1 v0x1_ eS p0.pnd :: rowT 4 1 v0x2_ eB p0.bads :: rowT 9 1 v2 eS l2 :: H) ?_ (by repeat' (first | exact trivial | refine And.intro rfl ?_))
    refine SX.seq ?_
    refine SX.sr ?_
    refine SL.mv ⟨rfl, rfl, rfl, rfl⟩ rfl ?_
    refine SL.mv ⟨rfl, rfl, rfl, rfl⟩ rfl ?_
    refine SL.nchk ⟨rfl, rfl, rfl, rfl⟩ rfl ?_
    refine SL.fa ⟨rfl, rfl, rfl, rfl⟩ rfl fo45_0 ?_
    refine SL.ld ⟨rfl, rfl, rfl, rfl⟩ sc37 rfl (cell_own 0 rfl rfl) ?_
    refine SL.lenT 1 ⟨rfl, rfl, rfl, rfl⟩ ty37 rfl rfl ?_
    refine SL.bin ⟨rfl, rfl, rfl, rfl⟩ rfl rfl Bin.ltI ?_
    refine SL.nx ?_
    refine SX.cond rfl (fun hc1 => ?_) (fun hc1 => ?_)
    · skip
      replace h := cT hc1 h
      refine SX.skip ?_
      refine SQ.thn ?_
      refine SX.seq ?_
      refine SX.block ?_
      refine SX.region ?_
      obtain ⟨y1, hy1, h⟩ := bnd h
      obtain ⟨l3, hl3, h⟩ := bnd h
      refine SL.mv ⟨rfl, rfl, rfl, rfl⟩ rfl ?_
      refine SL.mv ⟨rfl, rfl, rfl, rfl⟩ rfl ?_
      refine SL.mv ⟨rfl, rfl, rfl, rfl⟩ rfl ?_
      refine SL.cv ⟨rfl, rfl, rfl, rfl⟩ rfl (Cv.i_32 ty3 ty32) ?_
      refine SL.call (vs := [_, _]) (Hin := [_, _, _, _]) (Hr := _ :: _) ⟨rfl, rfl, rfl, rfl⟩ rfl ⟨rfl, rfl, trivial⟩ cal36 rfl rfl (c_ref07_Device_Holds hy1) ?_
      rintro _ _ ⟨rfl, rfl⟩
      refine ⟨trivial, ?_⟩
      refine SL.bsl [_] ⟨rfl, rfl, rfl, rfl⟩ ty37 sz9 ze9 ⟨rfl, trivial⟩ rfl rfl rfl (by simp [Value.cells]) rfl rfl (fun _ => trivial) fun b1 => ?_
      refine SL.ownT eS 1 ([y1] : List (List UInt8)) rfl (fun _ => rfl) rfl ?_
      refine SL.appT 5 hl3 (sz := 1) (enc := eS) (fun _ => rfl) ⟨rfl, rfl, rfl, rfl⟩ ty37 sz9 by9 ze9 rfl (by decide) rfl rfl rfl rfl (cells_rowA (sz := 1) (enc := eS) 0 (fun _ => rfl) rfl) (by simp [eS, Value.oneCell']) (fun _ => trivial) fun v3 => ?_
      refine SL.asg ⟨rfl, rfl, rfl, rfl⟩ rfl ?_
      refine SL.nil ?_
      refine SQ.blk ?_
      refine SQ.thn ?_
      refine SX.region ?_
      obtain ⟨i_1, ei_1, h⟩ := retE h
      refine SL.mv ⟨rfl, rfl, rfl, rfl⟩ rfl ?_
      refine SL.bin ⟨rfl, rfl, rfl, rfl⟩ rfl rfl Bin.addW ?_
      refine SL.asgX (u := vI i_1) ⟨rfl, rfl, rfl, rfl⟩ rfl (congrArg vI ei_1) ?_
      refine SL.nil ?_
      exact SQ.again (m1, l3, v3, i_1) h (Nat.lt_succ_self _) (by repeat' (first | exact trivial | refine And.intro rfl ?_)) (fun _ hw => HpOk.pick (H := [_, _, _, _, _, _]) hw [1, 2, 3, 4, 5] 6 rfl)
    · skip
      replace h := cF hc1 h
      refine SX.exit ?_
      refine SQ.thnE ?_
      refine SQ.lpE ?_
      refine SQ.blkE ?_
      exact SQ.midD (l2, v2) h (by repeat' (first | exact trivial | refine And.intro rfl ?_)) (fun _ hw => HpOk.pick (H := [_, _, _, _, _]) hw [0, 1, 2, 3, 4] 5 rfl)
  · skip
    obtain ⟨l1, v1⟩ := x
    dsimp only at h
    unfold f_ref07_Device_Image_j1 at h
    refine SX.re [(0, vP b0_ 0), (3, v1)] (own b0_ (.cells #[v0x0_, v0x1_, v0x2_, vU64 p0.rcnt, vS p0.rtag, vU32 p0.rboots, vI p0.left, vB p0.off] 45) :: rowT 9 1 v0x0_ eS p0.blk :: rowT 9 1 v0x1_ eS p0.pnd :: rowT 4 1 v0x2_ eB p0.bads :: rowT 9 1 v1 eS l1 :: H) ?_ (by repeat' (first | exact trivial | refine And.intro rfl ?_))
    refine SX.sr ?_
    refine SL.mv ⟨rfl, rfl, rfl, rfl⟩ rfl ?_
    refine SL.asg ⟨rfl, rfl, rfl, rfl⟩ rfl ?_
    refine SL.nx ?_
    refine SX.ret ?_
    obtain rfl := Option.some.inj h
    exact SQ.fret (res1 rfl rfl) (ret_of (M := [_, _, _, _, _]) ⟨v1, rfl, rfl⟩ fun _ hw => HpOk.pick (H := [_, _, _, _, _]) hw [4, 0, 1, 2, 3] 5 rfl)


end Go.Proofs.Ytddjneafgddlcaa

/- Plain functions of the references and the laws, printed from the loaded program, and the walks that show that the program computes them. Condition: the plain function yields. -/
namespace Go.Proofs.Ytddjneafgddlcaa
open Go
variable {K : Nat → Prop} {w0 : World} {H : List Chunk}

def f_math_bits_Len64_j3 (a5 : UInt64) (a6 : Int) : Option Int :=
  (nthI ([0, 1, 2, 2, 3, 3, 3, 3, 4, 4, 4, 4, 4, 4, 4, 4, 5, 5, 5, 5, 5, 5, 5, 5, 5, 5, 5, 5, 5, 5, 5, 5, 6, 6, 6, 6, 6, 6, 6, 6, 6, 6, 6, 6, 6, 6, 6, 6, 6, 6, 6, 6, 6, 6, 6, 6, 6, 6, 6, 6, 6, 6, 6, 6, 7, 7, 7, 7, 7, 7, 7, 7, 7, 7, 7, 7, 7, 7, 7, 7, 7, 7, 7, 7, 7, 7, 7, 7, 7, 7, 7, 7, 7, 7, 7, 7, 7, 7, 7, 7, 7, 7, 7, 7, 7, 7, 7, 7, 7, 7, 7, 7, 7, 7, 7, 7, 7, 7, 7, 7, 7, 7, 7, 7, 7, 7, 7, 7, 8, 8, 8, 8, 8, 8, 8, 8, 8, 8, 8, 8, 8, 8, 8, 8, 8, 8, 8, 8, 8, 8, 8, 8, 8, 8, 8, 8, 8, 8, 8, 8, 8, 8, 8, 8, 8, 8, 8, 8, 8, 8, 8, 8, 8, 8, 8, 8, 8, 8, 8, 8, 8, 8, 8, 8, 8, 8, 8, 8, 8, 8, 8, 8, 8, 8, 8, 8, 8, 8, 8, 8, 8, 8, 8, 8, 8, 8, 8, 8, 8, 8, 8, 8, 8, 8, 8, 8, 8, 8, 8, 8, 8, 8, 8, 8, 8, 8, 8, 8, 8, 8, 8, 8, 8, 8, 8, 8, 8, 8, 8, 8, 8, 8, 8, 8, 8, 8, 8, 8, 8, 8, 8, 8, 8, 8, 8, 8] : List UInt8) (a5.toUInt8.toNat : Int)).bind fun c1 =>
  ret (wI (a6 + (c1.toNat : Int))) fun x6 =>
  some x6
def f_math_bits_Len64_j2 (a3 : UInt64) (a4 : Int) : Option Int :=
  cond (decide (256 ≤ a3))
  (
    ret (shr64 a3 8) fun x4 =>
    ret (wI (a4 + 8)) fun x5 =>
    f_math_bits_Len64_j3 x4 x5)
  (
    f_math_bits_Len64_j3 a3 a4)
def f_math_bits_Len64_j1 (a1 : UInt64) (a2 : Int) : Option Int :=
  cond (decide (65536 ≤ a1))
  (
    ret (shr64 a1 16) fun x2 =>
    ret (wI (a2 + 16)) fun x3 =>
    f_math_bits_Len64_j2 x2 x3)
  (
    f_math_bits_Len64_j2 a1 a2)
def f_math_bits_Len64 (p0 : UInt64) : Option Int :=
  cond (decide (4294967296 ≤ p0))
  (
    ret (shr64 p0 32) fun x1 =>
    f_math_bits_Len64_j1 x1 32)
  (
    f_math_bits_Len64_j1 p0 0)
set_option maxRecDepth 100000 in
theorem c_math_bits_Len64 {p0 : UInt64} {r : Int} (h : f_math_bits_Len64 p0 = some r)  : Con Try.prog K w0 70 [vU64 p0] [] H (fun u M => u = vI r ∧ M = []) := by
  unfold f_math_bits_Len64 at h
  refine Con.enter Try.func70 rfl rfl ?_
  refine SX.sr ?_
  refine SL.asg ⟨rfl, rfl, rfl, rfl⟩ rfl ?_
  refine SL.nx ?_
  refine SX.meetD (α := UInt64 × Int) (fun x => f_math_bits_Len64_j1 x.1 x.2 = some r) (fun x => [(0, vU64 x.1), (2, vI x.2)]) (fun x => H) ?_ (fun x D h => ?_)
  · skip
    refine SX.sr ?_
    refine SL.mv ⟨rfl, rfl, rfl, rfl⟩ rfl ?_
    refine SL.bin ⟨rfl, rfl, rfl, rfl⟩ rfl rfl (Bin.ge64 (b := 4294967296)) ?_
    refine SL.nx ?_
    refine SX.cond rfl (fun hc1 => ?_) (fun hc1 => ?_)
    · skip
      replace h := cT hc1 h
      refine SX.sr ?_
      obtain ⟨x1, ex1, h⟩ := retE h
      refine SL.mv ⟨rfl, rfl, rfl, rfl⟩ rfl ?_
      refine SL.bin ⟨rfl, rfl, rfl, rfl⟩ rfl rfl (Bin.shr64 (n := 32)) ?_
      refine SL.asgX (u := vU64 x1) ⟨rfl, rfl, rfl, rfl⟩ rfl (congrArg vU64 ex1) ?_
      refine SL.nx ?_
      refine SX.region ?_
      refine SL.asg ⟨rfl, rfl, rfl, rfl⟩ rfl ?_
      refine SL.nil ?_
      exact SQ.midD (x1, 32) h (by repeat' (first | exact trivial | refine And.intro rfl ?_)) (fun _ hw => HpOk.pick (H := []) hw [] 0 rfl)
    · skip
      replace h := cF hc1 h
      refine SX.skip ?_
      exact SQ.midD (p0, 0) h (by repeat' (first | exact trivial | refine And.intro rfl ?_)) (fun _ hw => HpOk.pick (H := []) hw [] 0 rfl)
  · skip
    obtain ⟨a1, a2⟩ := x
    dsimp only at h
    unfold f_math_bits_Len64_j1 at h
    refine SX.re [(0, vU64 a1), (2, vI a2)] (H) ?_ (by repeat' (first | exact trivial | refine And.intro rfl ?_))
    refine SX.meetD (α := UInt64 × Int) (fun x => f_math_bits_Len64_j2 x.1 x.2 = some r) (fun x => [(0, vU64 x.1), (2, vI x.2)]) (fun x => H) ?_ (fun x D h => ?_)
    · skip
      refine SX.sr ?_
      refine SL.mv ⟨rfl, rfl, rfl, rfl⟩ rfl ?_
      refine SL.bin ⟨rfl, rfl, rfl, rfl⟩ rfl rfl (Bin.ge64 (b := 65536)) ?_
      refine SL.nx ?_
      refine SX.cond rfl (fun hc2 => ?_) (fun hc2 => ?_)
      · skip
        replace h := cT hc2 h
        refine SX.sr ?_
        obtain ⟨x2, ex2, h⟩ := retE h
        refine SL.mv ⟨rfl, rfl, rfl, rfl⟩ rfl ?_
        refine SL.bin ⟨rfl, rfl, rfl, rfl⟩ rfl rfl (Bin.shr64 (n := 16)) ?_
        refine SL.asgX (u := vU64 x2) ⟨rfl, rfl, rfl, rfl⟩ rfl (congrArg vU64 ex2) ?_
        refine SL.nx ?_
        refine SX.region ?_
        obtain ⟨x3, ex3, h⟩ := retE h
        refine SL.mv ⟨rfl, rfl, rfl, rfl⟩ rfl ?_
        refine SL.bin ⟨rfl, rfl, rfl, rfl⟩ rfl rfl Bin.addW ?_
        refine SL.asgX (u := vI x3) ⟨rfl, rfl, rfl, rfl⟩ rfl (congrArg vI ex3) ?_
        refine SL.nil ?_
        exact SQ.midD (x2, x3) h (by repeat' (first | exact trivial | refine And.intro rfl ?_)) (fun _ hw => HpOk.pick (H := []) hw [] 0 rfl)
      · skip
        replace h := cF hc2 h
        refine SX.skip ?_
        exact SQ.midD (a1, a2) h (by repeat' (first | exact trivial | refine And.intro rfl ?_)) (fun _ hw => HpOk.pick (H := []) hw [] 0 rfl)
    · skip
      obtain ⟨a3, a4⟩ := x
      dsimp only at h
      unfold f_math_bits_Len64_j2 at h
      refine SX.re [(0, vU64 a3), (2, vI a4)] (H) ?_ (by repeat' (first | exact trivial | refine And.intro rfl ?_))
      refine SX.meetD (α := UInt64 × Int) (fun x => f_math_bits_Len64_j3 x.1 x.2 = some r) (fun x => [(0, vU64 x.1), (2, vI x.2)]) (fun x => H) ?_ (fun x D h => ?_)
      · skip
        refine SX.sr ?_
        refine SL.mv ⟨rfl, rfl, rfl, rfl⟩ rfl ?_
        refine SL.bin ⟨rfl, rfl, rfl, rfl⟩ rfl rfl (Bin.ge64 (b := 256)) ?_
        refine SL.nx ?_
        refine SX.cond rfl (fun hc3 => ?_) (fun hc3 => ?_)
        · skip
          replace h := cT hc3 h
          refine SX.sr ?_
          obtain ⟨x4, ex4, h⟩ := retE h
          refine SL.mv ⟨rfl, rfl, rfl, rfl⟩ rfl ?_
          refine SL.bin ⟨rfl, rfl, rfl, rfl⟩ rfl rfl (Bin.shr64 (n := 8)) ?_
          refine SL.asgX (u := vU64 x4) ⟨rfl, rfl, rfl, rfl⟩ rfl (congrArg vU64 ex4) ?_
          refine SL.nx ?_
          refine SX.region ?_
          obtain ⟨x5, ex5, h⟩ := retE h
          refine SL.mv ⟨rfl, rfl, rfl, rfl⟩ rfl ?_
          refine SL.bin ⟨rfl, rfl, rfl, rfl⟩ rfl rfl Bin.addW ?_
          refine SL.asgX (u := vI x5) ⟨rfl, rfl, rfl, rfl⟩ rfl (congrArg vI ex5) ?_
          refine SL.nil ?_
          exact SQ.midD (x4, x5) h (by repeat' (first | exact trivial | refine And.intro rfl ?_)) (fun _ hw => HpOk.pick (H := []) hw [] 0 rfl)
        · skip
          replace h := cF hc3 h
          refine SX.skip ?_
          exact SQ.midD (a3, a4) h (by repeat' (first | exact trivial | refine And.intro rfl ?_)) (fun _ hw => HpOk.pick (H := []) hw [] 0 rfl)
      · skip
        obtain ⟨a5, a6⟩ := x
        dsimp only at h
        unfold f_math_bits_Len64_j3 at h
        refine SX.re [(0, vU64 a5), (2, vI a6)] (H) ?_ (by repeat' (first | exact trivial | refine And.intro rfl ?_))
        refine SX.sr ?_
        obtain ⟨c1, hc1, h⟩ := bnd h
        obtain ⟨x6, ex6, h⟩ := retE h
        refine SL.mv ⟨rfl, rfl, rfl, rfl⟩ rfl ?_
        refine SL.mv ⟨rfl, rfl, rfl, rfl⟩ rfl ?_
        refine SL.cv ⟨rfl, rfl, rfl, rfl⟩ rfl (Cv.u64_8 ty39 ty5) ?_
        refine SL.ixN hc1 ⟨rfl, rfl, rfl, rfl⟩ ty9 rfl rfl ?_
        refine SL.cv ⟨rfl, rfl, rfl, rfl⟩ rfl (Cv.u8_I ty5 ty3) ?_
        refine SL.bin ⟨rfl, rfl, rfl, rfl⟩ rfl rfl Bin.addW ?_
        refine SL.asgX (u := vI x6) ⟨rfl, rfl, rfl, rfl⟩ rfl (congrArg vI ex6) ?_
        refine SL.nx ?_
        refine SX.ret ?_
        obtain rfl := Option.some.inj h
        exact SQ.fret (res1 rfl rfl) (ret_of (M := []) ⟨rfl, rfl⟩ fun _ hw => HpOk.pick (H := []) hw [] 0 rfl)

def f_math_bits_Len (p0 : UInt64) : Option Int :=
  (f_math_bits_Len64 p0).bind fun y1 =>
  some y1
set_option maxRecDepth 100000 in
theorem c_math_bits_Len {p0 : UInt64} {r : Int} (h : f_math_bits_Len p0 = some r)  : Con Try.prog K w0 57 [vU64 p0] [] H (fun u M => u = vI r ∧ M = []) := by
  unfold f_math_bits_Len at h
  refine Con.enter Try.func57 rfl rfl ?_
  refine SX.sr ?_
  refine SL.asg ⟨rfl, rfl, rfl, rfl⟩ rfl ?_
  refine SL.nx ?_
  refine SX.seq ?_
  refine SX.condF rfl ?_
  refine SX.skip ?_
  refine SQ.thn ?_
  refine SX.sr ?_
  obtain ⟨y1, hy1, h⟩ := bnd h
  refine SL.mv ⟨rfl, rfl, rfl, rfl⟩ rfl ?_
  refine SL.call (vs := [_]) (Hin := []) (Hr := _) ⟨rfl, rfl, rfl, rfl⟩ rfl ⟨rfl, trivial⟩ cal70 rfl rfl (c_math_bits_Len64 hy1) ?_
  rintro _ _ ⟨rfl, rfl⟩
  refine ⟨trivial, ?_⟩
  refine SL.asg ⟨rfl, rfl, rfl, rfl⟩ rfl ?_
  refine SL.nx ?_
  refine SX.ret ?_
  obtain rfl := Option.some.inj h
  exact SQ.fret (res1 rfl rfl) (ret_of (M := []) ⟨rfl, rfl⟩ fun _ hw => HpOk.pick (H := []) hw [] 0 rfl)

def f_cmp_isNaN_uint32 (p0 : UInt32) : Option Bool :=
  ret (!decide (p0 = p0)) fun x1 =>
  some x1
set_option maxRecDepth 100000 in
theorem c_cmp_isNaN_uint32 {p0 : UInt32} {r : Bool} (h : f_cmp_isNaN_uint32 p0 = some r)  : Con Try.prog K w0 76 [vU32 p0] [] H (fun u M => u = vB r ∧ M = []) := by
  unfold f_cmp_isNaN_uint32 at h
  refine Con.enter Try.func76 rfl rfl ?_
  refine SX.sr ?_
  refine SL.asg ⟨rfl, rfl, rfl, rfl⟩ rfl ?_
  refine SL.nx ?_
  refine SX.sr ?_
  obtain ⟨x1, ex1, h⟩ := retE h
  refine SL.mv ⟨rfl, rfl, rfl, rfl⟩ rfl ?_
  refine SL.mv ⟨rfl, rfl, rfl, rfl⟩ rfl ?_
  refine SL.bin ⟨rfl, rfl, rfl, rfl⟩ rfl rfl Bin.ne32 ?_
  refine SL.asgX (u := vB x1) ⟨rfl, rfl, rfl, rfl⟩ rfl (congrArg vB ex1) ?_
  refine SL.nx ?_
  refine SX.ret ?_
  obtain rfl := Option.some.inj h
  exact SQ.fret (res1 rfl rfl) (ret_of (M := []) ⟨rfl, rfl⟩ fun _ hw => HpOk.pick (H := []) hw [] 0 rfl)

def f_cmp_Less_uint32 (p0 : UInt32) (p1 : UInt32) : Option Bool :=
  (f_cmp_isNaN_uint32 p0).bind fun y1 =>
  (andO y1 ((f_cmp_isNaN_uint32 p1).bind fun y2 => some (!y2))).bind fun y3 =>
  ret (y3 || (decide (p0 < p1))) fun x1 =>
  some x1
set_option maxRecDepth 100000 in
theorem c_cmp_Less_uint32 {p0 : UInt32} {p1 : UInt32} {r : Bool} (h : f_cmp_Less_uint32 p0 p1 = some r)  : Con Try.prog K w0 66 [vU32 p0, vU32 p1] [] H (fun u M => u = vB r ∧ M = []) := by
  unfold f_cmp_Less_uint32 at h
  refine Con.enter Try.func66 rfl rfl ?_
  refine SX.sr ?_
  refine SL.asg ⟨rfl, rfl, rfl, rfl⟩ rfl ?_
  refine SL.nx ?_
  refine SX.sr ?_
  obtain ⟨y1, hy1, h⟩ := bnd h
  obtain ⟨y3, hy3, h⟩ := bnd h
  obtain ⟨x1, ex1, h⟩ := retE h
  refine SL.mv ⟨rfl, rfl, rfl, rfl⟩ rfl ?_
  refine SL.call (vs := [_]) (Hin := []) (Hr := _) ⟨rfl, rfl, rfl, rfl⟩ rfl ⟨rfl, trivial⟩ cal76 rfl rfl (c_cmp_isNaN_uint32 hy1) ?_
  rintro _ _ ⟨rfl, rfl⟩
  refine ⟨trivial, ?_⟩
  refine SL.mv ⟨rfl, rfl, rfl, rfl⟩ rfl ?_
  refine SL.andN 7 4 11 hy3 rfl (fun hb hg1 k => ?_) (fun hb k => ?_) ?_
  · skip
    obtain ⟨y2, hy2, hg1⟩ := bnd hg1
    obtain rfl := Option.some.inj hg1
    refine SL.mv ⟨rfl, rfl, rfl, rfl⟩ rfl ?_
    refine SL.call (vs := [_]) (Hin := []) (Hr := _) ⟨rfl, rfl, rfl, rfl⟩ rfl ⟨rfl, trivial⟩ cal76 rfl rfl (c_cmp_isNaN_uint32 hy2) ?_
    rintro _ _ ⟨rfl, rfl⟩
    refine ⟨trivial, ?_⟩
    refine SL.not ⟨rfl, rfl, rfl, rfl⟩ rfl ?_
    refine SL.pk ⟨rfl, rfl, rfl, rfl⟩ rfl rfl ?_
    exact k.mono (by repeat' (first | exact trivial | refine And.intro rfl ?_))
  · skip
    refine SL.pass rfl rfl rfl ?_
    refine SL.pass rfl rfl rfl ?_
    refine SL.pass rfl rfl rfl ?_
    refine SL.pk ⟨rfl, rfl, rfl, rfl⟩ rfl rfl ?_
    exact k.mono (by repeat' (first | exact trivial | refine And.intro rfl ?_))
  refine SL.mv ⟨rfl, rfl, rfl, rfl⟩ rfl ?_
  refine SL.or (c := decide (p0 < p1)) 12 4 16 rfl (fun hb k => ?_) (fun hb k => ?_) ?_
  · skip
    refine SL.pass rfl rfl rfl ?_
    refine SL.pass rfl rfl rfl ?_
    refine SL.pass rfl rfl rfl ?_
    refine SL.pk ⟨rfl, rfl, rfl, rfl⟩ rfl rfl ?_
    exact k.mono (by repeat' (first | exact trivial | refine And.intro rfl ?_))
  · skip
    refine SL.mv ⟨rfl, rfl, rfl, rfl⟩ rfl ?_
    refine SL.mv ⟨rfl, rfl, rfl, rfl⟩ rfl ?_
    refine SL.bin ⟨rfl, rfl, rfl, rfl⟩ rfl rfl Bin.lt32 ?_
    refine SL.pk ⟨rfl, rfl, rfl, rfl⟩ rfl rfl ?_
    exact k.mono (by repeat' (first | exact trivial | refine And.intro rfl ?_))
  refine SL.asgX (u := vB x1) ⟨rfl, rfl, rfl, rfl⟩ rfl (congrArg vB ex1) ?_
  refine SL.nx ?_
  refine SX.ret ?_
  obtain rfl := Option.some.inj h
  exact SQ.fret (res1 rfl rfl) (ret_of (M := []) ⟨rfl, rfl⟩ fun _ hw => HpOk.pick (H := []) hw [] 0 rfl)

def f_slices_insertionSortOrdered_uint32_j1 (a1 : Int) (nx_f_slices_insertionSortOrdered_uint32_l1 : List UInt32 × Int → Option (List UInt32)) (l2 : List UInt32) : Option (List UInt32) :=
  ret (wI (a1 + 1)) fun i_2 =>
  nx_f_slices_insertionSortOrdered_uint32_l1 (l2, i_2)
def f_slices_insertionSortOrdered_uint32_l2_b (p1 : Int) (a1 : Int) (nx_f_slices_insertionSortOrdered_uint32_l1 : List UInt32 × Int → Option (List UInt32)) (nx_f_slices_insertionSortOrdered_uint32_l2 : List UInt32 × Int → Option (List UInt32)) (l3 : List UInt32) (a2 : Int) : Option (List UInt32) :=
  (andO (decide (p1 < a2)) ((nthI l3 a2).bind fun x1 => (nthI l3 (wI (a2 - 1))).bind fun x2 => (f_cmp_Less_uint32 x1 x2).bind fun y1 => some (y1))).bind fun y2 =>
  cond y2
  (
    (nthI l3 (wI (a2 - 1))).bind fun x3 =>
    (nthI l3 a2).bind fun x4 =>
    (nthI l3 a2).bind fun x5 =>
    (setI l3 a2 x3).bind fun l4 =>
    (nthI l4 (wI (a2 - 1))).bind fun x6 =>
    (setI l4 (wI (a2 - 1)) x4).bind fun l5 =>
    ret (wI (a2 - 1)) fun j_1 =>
    nx_f_slices_insertionSortOrdered_uint32_l2 (l5, j_1))
  (
    f_slices_insertionSortOrdered_uint32_j1 a1 nx_f_slices_insertionSortOrdered_uint32_l1 l3)
def f_slices_insertionSortOrdered_uint32_l2 (p1 : Int) (a1 : Int) (nx_f_slices_insertionSortOrdered_uint32_l1 : List UInt32 × Int → Option (List UInt32)) : Nat → (List UInt32 × Int) → Option (List UInt32) := loopN fun nx x => f_slices_insertionSortOrdered_uint32_l2_b p1 a1 nx_f_slices_insertionSortOrdered_uint32_l1 nx x.1 x.2
def f_slices_insertionSortOrdered_uint32_l1_b (n : Nat) (p1 : Int) (p2 : Int) (nx_f_slices_insertionSortOrdered_uint32_l1 : List UInt32 × Int → Option (List UInt32)) (l1 : List UInt32) (a1 : Int) : Option (List UInt32) :=
  cond (decide (a1 < p2))
  (
    f_slices_insertionSortOrdered_uint32_l2 p1 a1 nx_f_slices_insertionSortOrdered_uint32_l1 n (l1, a1))
  (
    some l1)
def f_slices_insertionSortOrdered_uint32_l1 (n : Nat) (p1 : Int) (p2 : Int) : Nat → (List UInt32 × Int) → Option (List UInt32) := loopN fun nx x => f_slices_insertionSortOrdered_uint32_l1_b n p1 p2 nx x.1 x.2
def f_slices_insertionSortOrdered_uint32 (n : Nat) (p0 : List UInt32) (p1 : Int) (p2 : Int) : Option (List UInt32) :=
  ret (wI (p1 + 1)) fun i_1 =>
  f_slices_insertionSortOrdered_uint32_l1 n p1 p2 n (p0, i_1)
set_option maxRecDepth 100000 in
theorem c_slices_insertionSortOrdered_uint32 {n : Nat} {v0_ : Value} {p0 : List UInt32} {p1 : Int} {p2 : Int} {r : List UInt32} (h : f_slices_insertionSortOrdered_uint32 n p0 p1 p2 = some r)  : Con Try.prog K w0 60 [v0_, vI p1, vI p2] [rowT 32 1 v0_ eU32 p0] H (fun u M => u = .tuple #[] ∧ M = [rowT 32 1 v0_ eU32 r]) := by
  unfold f_slices_insertionSortOrdered_uint32 at h
  refine Con.enter Try.func60 rfl rfl ?_
  refine SX.sr ?_
  obtain ⟨i_1, ei_1, h⟩ := retE h
  refine SL.mv ⟨rfl, rfl, rfl, rfl⟩ rfl ?_
  refine SL.bin ⟨rfl, rfl, rfl, rfl⟩ rfl rfl Bin.addW ?_
  refine SL.asgX (u := vI i_1) ⟨rfl, rfl, rfl, rfl⟩ rfl (congrArg vI ei_1) ?_
  refine SL.nx ?_
  refine SX.block ?_
  refine SX.heap (SX.mono (SX.loop (α := Nat × List UInt32 × Int) (fun x => f_slices_insertionSortOrdered_uint32_l1 n p1 p2 x.1 (x.2.1, x.2.2) = some r) (fun x => [(0, v0_), (1, vI p1), (2, vI p2), (6, vI x.2.2)]) (fun x => rowT 32 1 v0_ eU32 x.2.1 :: H) (fun x => x.1) (fun x D h => ?_) (n, p0, i_1) h) (by repeat' (first | exact trivial | refine And.intro rfl ?_))) (fun _ hw => HpOk.pick (H := [_]) hw [0] 1 rfl)
  obtain ⟨m1, l1, a1⟩ := x
  dsimp only at h
  rcases m1 with _ | m1
  · cases (show (none : Option _) = some r from h)
  replace h : f_slices_insertionSortOrdered_uint32_l1_b n p1 p2 (f_slices_insertionSortOrdered_uint32_l1 n p1 p2 m1) l1 a1 = some r := h
  unfold f_slices_insertionSortOrdered_uint32_l1_b at h
  refine SX.re [(0, v0_), (1, vI p1), (2, vI p2), (6, vI a1)] (rowT 32 1 v0_ eU32 l1 :: H) ?_ (by repeat' (first | exact trivial | refine And.intro rfl ?_))
  refine SX.seq ?_
  refine SX.sr ?_
  refine SL.mv ⟨rfl, rfl, rfl, rfl⟩ rfl ?_
  refine SL.mv ⟨rfl, rfl, rfl, rfl⟩ rfl ?_
  refine SL.bin ⟨rfl, rfl, rfl, rfl⟩ rfl rfl Bin.ltI ?_
  refine SL.nx ?_
  refine SX.cond rfl (fun hc1 => ?_) (fun hc1 => ?_)
  · skip
    replace h := cT hc1 h
    refine SX.skip ?_
    refine SQ.thn ?_
    refine SX.meetD (α := List UInt32) (fun x => f_slices_insertionSortOrdered_uint32_j1 a1 (f_slices_insertionSortOrdered_uint32_l1 n p1 p2 m1) x = some r) (fun x => [(0, v0_), (1, vI p1), (2, vI p2), (6, vI a1)]) (fun x => rowT 32 1 v0_ eU32 x :: H) ?_ (fun l2 D h => ?_)
    · skip
      refine SX.block ?_
      refine SX.sr ?_
      refine SL.mv ⟨rfl, rfl, rfl, rfl⟩ rfl ?_
      refine SL.asg ⟨rfl, rfl, rfl, rfl⟩ rfl ?_
      refine SL.nx ?_
      refine SX.block ?_
      refine SX.heap (SX.mono (SX.loop (α := Nat × List UInt32 × Int) (fun x => f_slices_insertionSortOrdered_uint32_l2 p1 a1 (f_slices_insertionSortOrdered_uint32_l1 n p1 p2 m1) x.1 (x.2.1, x.2.2) = some r) (fun x => [(0, v0_), (1, vI p1), (2, vI p2), (6, vI a1), (7, vI x.2.2)]) (fun x => rowT 32 1 v0_ eU32 x.2.1 :: H) (fun x => x.1) (fun x D h => ?_) (n, l1, a1) h) (by repeat' (first | exact trivial | refine And.intro rfl ?_))) (fun _ hw => HpOk.pick (H := [_]) hw [0] 1 rfl)
      obtain ⟨m2, l3, a2⟩ := x
      dsimp only at h
      rcases m2 with _ | m2
      · cases (show (none : Option _) = some r from h)
      replace h : f_slices_insertionSortOrdered_uint32_l2_b p1 a1 (f_slices_insertionSortOrdered_uint32_l1 n p1 p2 m1) (f_slices_insertionSortOrdered_uint32_l2 p1 a1 (f_slices_insertionSortOrdered_uint32_l1 n p1 p2 m1) m2) l3 a2 = some r := h
      unfold f_slices_insertionSortOrdered_uint32_l2_b at h
      refine SX.re [(0, v0_), (1, vI p1), (2, vI p2), (6, vI a1), (7, vI a2)] (rowT 32 1 v0_ eU32 l3 :: H) ?_ (by repeat' (first | exact trivial | refine And.intro rfl ?_))
      refine SX.seq ?_
      refine SX.seq ?_
      obtain ⟨y2, hy2, h⟩ := bnd h
      refine SX.drawI mix [0] (Pl.of [(true, 0), (true, 1), (true, 2), (true, 3), (true, 4), (true, 5), (true, 6), (true, 7), (true, 8), (true, 9), (true, 10), (true, 11), (true, 12), (false, 13), (false, 14)]) (by kernel_rfl) ?_
      refine SL.mv ⟨rfl, rfl, rfl, rfl⟩ rfl ?_
      refine SL.mv ⟨rfl, rfl, rfl, rfl⟩ rfl ?_
      refine SL.bin ⟨rfl, rfl, rfl, rfl⟩ rfl rfl Bin.gtI ?_
      refine SL.mv ⟨rfl, rfl, rfl, rfl⟩ rfl ?_
      refine SL.andN 19 11 30 hy2 rfl (fun hb hg1 k => ?_) (fun hb k => ?_) ?_
      · skip
        obtain ⟨x1, hx1, hg1⟩ := bnd hg1
        obtain ⟨x2, hx2, hg1⟩ := bnd hg1
        obtain ⟨y1, hy1, hg1⟩ := bnd hg1
        obtain rfl := Option.some.inj hg1
        refine SL.mv ⟨rfl, rfl, rfl, rfl⟩ rfl ?_
        refine SL.mv ⟨rfl, rfl, rfl, rfl⟩ rfl ?_
        refine SL.iaT 0 hx1 ⟨rfl, rfl, rfl, rfl⟩ ty90 sz32 rfl rfl rfl fun g1 m3 cp1 hv1 => ?_
        refine SL.ld ⟨rfl, rfl, rfl, rfl⟩ sc32 rfl (cell_rowT (sz := 1) (enc := eU32) 0 0 (fun _ => rfl) rfl hv1 hx1 rfl) ?_
        refine SL.mv ⟨rfl, rfl, rfl, rfl⟩ rfl ?_
        refine SL.mv ⟨rfl, rfl, rfl, rfl⟩ rfl ?_
        refine SL.bin ⟨rfl, rfl, rfl, rfl⟩ rfl rfl Bin.subW ?_
        refine SL.iaT 0 hx2 ⟨rfl, rfl, rfl, rfl⟩ ty90 sz32 rfl rfl rfl fun g2 m4 cp2 hv2 => ?_
        refine SL.ld ⟨rfl, rfl, rfl, rfl⟩ sc32 rfl (cell_rowT (sz := 1) (enc := eU32) 0 0 (fun _ => rfl) rfl hv2 hx2 rfl) ?_
        refine SL.call (vs := [_, _]) (Hin := []) (Hr := _ :: _) ⟨rfl, rfl, rfl, rfl⟩ rfl ⟨rfl, rfl, trivial⟩ cal66 rfl rfl (c_cmp_Less_uint32 hy1) ?_
        rintro _ _ ⟨rfl, rfl⟩
        refine ⟨⟨⟨0, rfl⟩, trivial⟩, ?_⟩
        refine SL.pk ⟨rfl, rfl, rfl, rfl⟩ rfl rfl ?_
        exact k.mono (by repeat' (first | exact trivial | refine And.intro rfl ?_))
      · skip
        refine SL.pass rfl rfl rfl ?_
        refine SL.pass rfl rfl rfl ?_
        refine SL.pass rfl rfl rfl ?_
        refine SL.pass rfl rfl rfl ?_
        refine SL.pass rfl rfl rfl ?_
        refine SL.pass rfl rfl rfl ?_
        refine SL.pass rfl rfl rfl ?_
        refine SL.pass rfl rfl rfl ?_
        refine SL.pass rfl rfl rfl ?_
        refine SL.pass rfl rfl rfl ?_
        refine SL.pk ⟨rfl, rfl, rfl, rfl⟩ rfl rfl ?_
        exact k.mono (by repeat' (first | exact trivial | refine And.intro rfl ?_))
      refine SL.nx ?_
      refine SX.cond rfl (fun hc2 => ?_) (fun hc2 => ?_)
      · skip
        replace h := cT hc2 h
        refine SX.skip ?_
        refine SQ.thn ?_
        refine SX.seq ?_
        refine SX.block ?_
        obtain ⟨x3, hx3, h⟩ := bnd h
        obtain ⟨x4, hx4, h⟩ := bnd h
        obtain ⟨x5, hx5, h⟩ := bnd h
        obtain ⟨l4, hl4, h⟩ := bnd h
        obtain ⟨x6, hx6, h⟩ := bnd h
        obtain ⟨l5, hl5, h⟩ := bnd h
        refine SX.drawI mix [] (Pl.ap [(true, 0), (true, 1), (true, 2), (true, 3), (true, 4), (true, 5), (true, 6), (true, 7), (true, 8), (true, 10), (true, 11), (true, 12)] (.alt 9 (Pl.ap [(false, 13), (true, 14), (false, 15), (true, 16)] (.last 17 .nil)) (.cons (false, 13) (Pl.ap [(false, 9), (true, 14), (false, 15), (true, 16)] (.last 17 .nil))))) (by kernel_rfl) ?_
        refine SL.mv ⟨rfl, rfl, rfl, rfl⟩ rfl ?_
        refine SL.mv ⟨rfl, rfl, rfl, rfl⟩ rfl ?_
        refine SL.mv ⟨rfl, rfl, rfl, rfl⟩ rfl ?_
        refine SL.mv ⟨rfl, rfl, rfl, rfl⟩ rfl ?_
        refine SL.bin ⟨rfl, rfl, rfl, rfl⟩ rfl rfl Bin.subW ?_
        refine SL.mv ⟨rfl, rfl, rfl, rfl⟩ rfl ?_
        refine SL.mv ⟨rfl, rfl, rfl, rfl⟩ rfl ?_
        refine SL.bin ⟨rfl, rfl, rfl, rfl⟩ rfl rfl Bin.subW ?_
        refine SL.iaT 0 hx3 ⟨rfl, rfl, rfl, rfl⟩ ty90 sz32 rfl rfl rfl fun g3 m5 cp3 hv3 => ?_
        refine SL.mv ⟨rfl, rfl, rfl, rfl⟩ rfl ?_
        refine SL.mv ⟨rfl, rfl, rfl, rfl⟩ rfl ?_
        refine SL.iaT 0 hx4 ⟨rfl, rfl, rfl, rfl⟩ ty90 sz32 rfl rfl rfl fun g4 m6 cp4 hv4 => ?_
        refine SL.two ?_ ?_
        · skip
          refine SL.ld ⟨rfl, rfl, rfl, rfl⟩ sc32 rfl (cell_rowT (sz := 1) (enc := eU32) 0 0 (fun _ => rfl) rfl hv3 hx3 rfl) ?_
          refine SL.ld ⟨rfl, rfl, rfl, rfl⟩ sc32 rfl (cell_rowT (sz := 1) (enc := eU32) 0 0 (fun _ => rfl) rfl hv4 hx4 rfl) ?_
          refine SL.iaT 0 hx5 ⟨rfl, rfl, rfl, rfl⟩ ty90 sz32 rfl rfl rfl fun g5 m7 cp5 hv5 => ?_
          refine SL.stTN (sz := 1) (enc := eU32) 0 hl4 (fun _ => rfl) ⟨rfl, rfl, rfl⟩ rfl rfl rfl rfl hv5 sz32 (by simp [Value.oneCell']) trivial ?_
          refine SL.iaT 0 hx6 ⟨rfl, rfl, rfl, rfl⟩ ty90 sz32 rfl rfl rfl fun g6 m8 cp6 hv6 => ?_
          refine SL.last ?_
          refine SL.stTN (sz := 1) (enc := eU32) 0 hl5 (fun _ => rfl) ⟨rfl, rfl, rfl⟩ rfl rfl rfl rfl hv6 sz32 (by simp [Value.oneCell']) trivial ?_
          refine SL.nil ?_
          refine SQ.blk ?_
          refine SQ.thn ?_
          refine SX.region ?_
          obtain ⟨j_1, ej_1, h⟩ := retE h
          refine SL.mv ⟨rfl, rfl, rfl, rfl⟩ rfl ?_
          refine SL.bin ⟨rfl, rfl, rfl, rfl⟩ rfl rfl Bin.subW ?_
          refine SL.asgX (u := vI j_1) ⟨rfl, rfl, rfl, rfl⟩ rfl (congrArg vI ej_1) ?_
          refine SL.nil ?_
          exact SQ.again (m2, l5, j_1) h (Nat.lt_succ_self _) (by repeat' (first | exact trivial | refine And.intro rfl ?_)) (fun _ hw => HpOk.pick (H := [_]) hw [0] 1 rfl)
        · skip
          refine SL.ld ⟨rfl, rfl, rfl, rfl⟩ sc32 rfl (cell_rowT (sz := 1) (enc := eU32) 0 0 (fun _ => rfl) rfl hv4 hx4 rfl) ?_
          refine SL.ld ⟨rfl, rfl, rfl, rfl⟩ sc32 rfl (cell_rowT (sz := 1) (enc := eU32) 0 0 (fun _ => rfl) rfl hv3 hx3 rfl) ?_
          refine SL.iaT 0 hx5 ⟨rfl, rfl, rfl, rfl⟩ ty90 sz32 rfl rfl rfl fun g5 m7 cp5 hv5 => ?_
          refine SL.stTN (sz := 1) (enc := eU32) 0 hl4 (fun _ => rfl) ⟨rfl, rfl, rfl⟩ rfl rfl rfl rfl hv5 sz32 (by simp [Value.oneCell']) trivial ?_
          refine SL.iaT 0 hx6 ⟨rfl, rfl, rfl, rfl⟩ ty90 sz32 rfl rfl rfl fun g6 m8 cp6 hv6 => ?_
          refine SL.last ?_
          refine SL.stTN (sz := 1) (enc := eU32) 0 hl5 (fun _ => rfl) ⟨rfl, rfl, rfl⟩ rfl rfl rfl rfl hv6 sz32 (by simp [Value.oneCell']) trivial ?_
          refine SL.nil ?_
          refine SQ.blk ?_
          refine SQ.thn ?_
          refine SX.region ?_
          obtain ⟨j_1, ej_1, h⟩ := retE h
          refine SL.mv ⟨rfl, rfl, rfl, rfl⟩ rfl ?_
          refine SL.bin ⟨rfl, rfl, rfl, rfl⟩ rfl rfl Bin.subW ?_
          refine SL.asgX (u := vI j_1) ⟨rfl, rfl, rfl, rfl⟩ rfl (congrArg vI ej_1) ?_
          refine SL.nil ?_
          exact SQ.again (m2, l5, j_1) h (Nat.lt_succ_self _) (by repeat' (first | exact trivial | refine And.intro rfl ?_)) (fun _ hw => HpOk.pick (H := [_]) hw [0] 1 rfl)
      · skip
        replace h := cF hc2 h
        refine SX.exit ?_
        refine SQ.thnE ?_
        refine SQ.lpE ?_
        refine SQ.blkE ?_
        refine SQ.blk ?_
        exact SQ.midD l3 h (by repeat' (first | exact trivial | refine And.intro rfl ?_)) (fun _ hw => HpOk.pick (H := [_]) hw [0] 1 rfl)
    · skip
      unfold f_slices_insertionSortOrdered_uint32_j1 at h
      refine SX.re [(0, v0_), (1, vI p1), (2, vI p2), (6, vI a1)] (rowT 32 1 v0_ eU32 l2 :: H) ?_ (by repeat' (first | exact trivial | refine And.intro rfl ?_))
      refine SX.region ?_
      obtain ⟨i_2, ei_2, h⟩ := retE h
      refine SL.mv ⟨rfl, rfl, rfl, rfl⟩ rfl ?_
      refine SL.bin ⟨rfl, rfl, rfl, rfl⟩ rfl rfl Bin.addW ?_
      refine SL.asgX (u := vI i_2) ⟨rfl, rfl, rfl, rfl⟩ rfl (congrArg vI ei_2) ?_
      refine SL.nil ?_
      exact SQ.again (m1, l2, i_2) h (Nat.lt_succ_self _) (by repeat' (first | exact trivial | refine And.intro rfl ?_)) (fun _ hw => HpOk.pick (H := [_]) hw [0] 1 rfl)
  · skip
    replace h := cF hc1 h
    refine SX.exit ?_
    refine SQ.thnE ?_
    refine SQ.lpE ?_
    refine SQ.blkE ?_
    obtain rfl := Option.some.inj h
    exact SQ.fend (res0 rfl) (ret_of (M := [_]) ⟨rfl, rfl⟩ fun _ hw => HpOk.pick (H := [_]) hw [0] 1 rfl)

def f_device_New (p0 : Int) : Option (Option DevA × Int) :=
  cond ((decide (p0 < 4)) || (decide (4096 < p0)))
  (
    some (none, 2))
  (
    (rep0O [0] 32).bind fun y1 =>
    (rep0O [0] 256).bind fun y2 =>
    (srepO [y2] p0).bind fun y3 =>
    some (some ({ off := false, isCut := false, lasts := 0, counts := 0, blocks := y3, pend := [], bad := [], rcnt := 0, rtag := y1, rboots := 0 } : DevA), 0))
set_option maxRecDepth 100000 in
theorem c_device_New {p0 : Int} {r : Option DevA × Int} (h : f_device_New p0 = some r)  : Con Try.prog K w0 5 [vI p0] [] H (fun u M => (r.1 = none ∧ u = .tuple #[.pointer none, vI r.2] ∧ M = []) ∨ (∃ (d : DevA) (b : Nat) (v4 : Value) (m5 : Nat) (m6 : Nat), r.1 = some d ∧ u = .tuple #[vP b 0, vI r.2] ∧ M = [own b (.cells #[vB d.off, vB d.isCut, vI d.lasts, vI d.counts, v4, .map (some m5), .map (some m6), vU64 d.rcnt, vS d.rtag, vU32 d.rboots] 60), rowT 9 1 v4 eS d.blocks, mapC m5 vU32 vS d.pend, mapC m6 vU32 vB d.bad])) := by
  unfold f_device_New at h
  refine Con.enter Try.func5 rfl rfl ?_
  refine SX.sr ?_
  refine SL.asg ⟨rfl, rfl, rfl, rfl⟩ rfl ?_
  refine SL.asg ⟨rfl, rfl, rfl, rfl⟩ rfl ?_
  refine SL.nx ?_
  refine SX.seq ?_
  refine SX.sr ?_
  refine SL.mv ⟨rfl, rfl, rfl, rfl⟩ rfl ?_
  refine SL.bin ⟨rfl, rfl, rfl, rfl⟩ rfl rfl Bin.ltI ?_
  refine SL.mv ⟨rfl, rfl, rfl, rfl⟩ rfl ?_
  refine SL.or (c := decide (4096 < p0)) 7 3 10 rfl (fun hb k => ?_) (fun hb k => ?_) ?_
  · skip
    refine SL.pass rfl rfl rfl ?_
    refine SL.pass rfl rfl rfl ?_
    refine SL.pk ⟨rfl, rfl, rfl, rfl⟩ rfl rfl ?_
    exact k.mono (by repeat' (first | exact trivial | refine And.intro rfl ?_))
  · skip
    refine SL.mv ⟨rfl, rfl, rfl, rfl⟩ rfl ?_
    refine SL.bin ⟨rfl, rfl, rfl, rfl⟩ rfl rfl Bin.gtI ?_
    refine SL.pk ⟨rfl, rfl, rfl, rfl⟩ rfl rfl ?_
    exact k.mono (by repeat' (first | exact trivial | refine And.intro rfl ?_))
  refine SL.nx ?_
  refine SX.cond rfl (fun hc1 => ?_) (fun hc1 => ?_)
  · skip
    replace h := cT hc1 h
    refine SX.sr ?_
    refine SL.asg ⟨rfl, rfl, rfl, rfl⟩ rfl ?_
    refine SL.asg ⟨rfl, rfl, rfl, rfl⟩ rfl ?_
    refine SL.nx ?_
    refine SX.ret ?_
    refine SQ.thnR ?_
    obtain rfl := Option.some.inj h
    exact SQ.fret (res2 rfl rfl rfl) (ret_of (M := []) (.inl ⟨rfl, rfl, rfl⟩) fun _ hw => HpOk.pick (H := []) hw [] 0 rfl)
  · skip
    replace h := cF hc1 h
    refine SX.skip ?_
    refine SQ.thn ?_
    refine SX.sr ?_
    refine SL.mkM vU32 vS ⟨rfl, rfl, rfl, rfl⟩ (fun _ => trivial) fun b1 => ?_
    refine SL.mkM vU32 vB ⟨rfl, rfl, rfl, rfl⟩ (fun _ => trivial) fun b2 => ?_
    refine SL.bld [_, _] ⟨rfl, rfl, rfl, rfl⟩ pl60 pk60 ze60 ⟨rfl, rfl, trivial⟩ rfl ?_
    refine SL.box ⟨rfl, rfl, rfl, rfl⟩ rfl (fun _ => trivial) fun b3 => ?_
    refine SL.nilT 9 1 eS ?_
    refine SL.asg ⟨rfl, rfl, rfl, rfl⟩ rfl ?_
    refine SL.nx ?_
    refine SX.sr ?_
    obtain ⟨y1, hy1, h⟩ := bnd h
    refine SL.mv ⟨rfl, rfl, rfl, rfl⟩ rfl ?_
    refine SL.call (vs := [_, _]) (Hin := []) (Hr := _ :: _ :: _ :: _ :: _) ⟨rfl, rfl, rfl, rfl⟩ rfl ⟨rfl, rfl, trivial⟩ cal19 rfl rfl (w_rep0 hy1) ?_
    rintro _ _ ⟨rfl, rfl⟩
    refine ⟨trivial, ?_⟩
    refine SL.nchk ⟨rfl, rfl, rfl, rfl⟩ rfl ?_
    refine SL.fa ⟨rfl, rfl, rfl, rfl⟩ rfl fo60_4 ?_
    refine SL.fa ⟨rfl, rfl, rfl, rfl⟩ rfl fo41_1 ?_
    refine SL.st 1 ⟨rfl, rfl, rfl⟩ rfl rfl rfl sz9 rfl rfl rfl trivial ?_
    refine SL.nx ?_
    refine SX.sr ?_
    obtain ⟨y2, hy2, h⟩ := bnd h
    obtain ⟨y3, hy3, h⟩ := bnd h
    refine SL.mv ⟨rfl, rfl, rfl, rfl⟩ rfl ?_
    refine SL.call (vs := [_, _]) (Hin := []) (Hr := _ :: _ :: _ :: _ :: _) ⟨rfl, rfl, rfl, rfl⟩ rfl ⟨rfl, rfl, trivial⟩ cal19 rfl rfl (w_rep0 hy2) ?_
    rintro _ _ ⟨rfl, rfl⟩
    refine ⟨trivial, ?_⟩
    refine SL.bsl [_] ⟨rfl, rfl, rfl, rfl⟩ ty37 sz9 ze9 ⟨rfl, trivial⟩ rfl rfl rfl (by simp [Value.cells]) rfl rfl (fun _ => trivial) fun b4 => ?_
    refine SL.ownT eS 1 ([y2] : List (List UInt8)) rfl (fun _ => rfl) rfl ?_
    refine SL.mv ⟨rfl, rfl, rfl, rfl⟩ rfl ?_
    refine SL.call (vs := [_, _]) (Hin := [_]) (Hr := _ :: _ :: _ :: _ :: _) ⟨rfl, rfl, rfl, rfl⟩ rfl ⟨rfl, rfl, trivial⟩ cal20 rfl rfl (Con.lend (B := [_]) (Hin := []) fun K' w1 hk hB => w_srep hy3 (SlOf.lentT (e := 9) (fun _ => rfl) (hB _ (by simp)))) ?_
    rintro v1 _ ⟨_, rfl, _, rfl, rfl⟩
    refine ⟨trivial, ?_⟩
    refine SL.nchk ⟨rfl, rfl, rfl, rfl⟩ rfl ?_
    refine SL.fa ⟨rfl, rfl, rfl, rfl⟩ rfl fo60_1 ?_
    refine SL.rowV 1 rfl fun hv1 ho1 => ?_
    refine SL.stR 3 ⟨rfl, rfl, rfl⟩ rfl rfl rfl sz37 hv1 ho1 rfl trivial ?_
    refine SL.nx ?_
    refine SX.sr ?_
    refine SL.mv ⟨rfl, rfl, rfl, rfl⟩ rfl ?_
    refine SL.asg ⟨rfl, rfl, rfl, rfl⟩ rfl ?_
    refine SL.asg ⟨rfl, rfl, rfl, rfl⟩ rfl ?_
    refine SL.nx ?_
    refine SX.ret ?_
    obtain rfl := Option.some.inj h
    exact SQ.fret (res2 rfl rfl rfl) (ret_of (M := [_, _, _, _]) (.inr ⟨_, b3, v1, b1, b2, rfl, rfl, rfl⟩) fun _ hw => HpOk.pick (H := [_, _, _, _, _, _]) hw [3, 1, 5, 4] 6 rfl)


end Go.Proofs.Ytddjneafgddlcaa
