/- The texts W1, W2, W4, W5, W6, W7, S17, W8, V0, one behind the other, of the proof of RDKeeps: each bears its own sentence. Conditions: as each says. -/
import Derived.Test.YtmnmepaopodblaaDK1
import Derived.Test.YtmnmepaopodblaaDK2

/- Plain functions of the references and the laws, printed from the loaded program, and the walks that show that the program computes them. Condition: the plain function yields. -/
namespace Go.Proofs.Ytmnmepaopodblaa
open Go
variable {K : Nat → Prop} {w0 : World} {H : List Chunk}

def f_ref07_Zeros (p0 : Int) : Option (List UInt8) :=
  (mkI 1 p0 0).bind fun l1 =>
  some l1
set_option maxRecDepth 100000 in
theorem c_ref07_Zeros {p0 : Int} {r : List UInt8} (h : f_ref07_Zeros p0 = some r)  : Con Try.prog K w0 20 [vI p0] [] H (fun u M => u = vS r ∧ M = []) := by
  unfold f_ref07_Zeros at h
  refine Con.enter Try.func20 rfl rfl ?_
  refine SX.sr ?_
  refine SL.asg ⟨rfl, rfl, rfl, rfl⟩ rfl ?_
  refine SL.nx ?_
  refine SX.sr ?_
  obtain ⟨l1, hl1, h⟩ := bnd h
  refine SL.mv ⟨rfl, rfl, rfl, rfl⟩ rfl ?_
  refine SL.mkN hl1 eU8 ⟨rfl, rfl, rfl, rfl⟩ ty80 sz5 by5 ze5 rfl rfl rfl rfl (fun _ => trivial) fun v1 => ?_
  refine SL.btsT 0 ⟨rfl, rfl, rfl, rfl⟩ ty80 ty5 ty9 rfl rfl ?_
  refine SL.asg ⟨rfl, rfl, rfl, rfl⟩ rfl ?_
  refine SL.nx ?_
  refine SX.ret ?_
  obtain rfl := Option.some.inj h
  exact SQ.fret (res1 rfl rfl) (ret_of (M := []) ⟨rfl, rfl⟩ fun _ hw => HpOk.pick (H := [_]) hw [] 1 rfl)

def f_ref07_Filled (p0 : List UInt8) : Option (List UInt8) :=
  (slcI p0 0 (min (p0.length : Int) 256)).bind fun s1 =>
  (f_ref07_Zeros (wI (256 - (s1.length : Int)))).bind fun y1 =>
  (catS s1 y1).bind fun s2 =>
  some s2
set_option maxRecDepth 100000 in
theorem c_ref07_Filled {p0 : List UInt8} {r : List UInt8} (h : f_ref07_Filled p0 = some r)  : Con Try.prog K w0 12 [vS p0] [] H (fun u M => u = vS r ∧ M = []) := by
  unfold f_ref07_Filled at h
  refine Con.enter Try.func12 rfl rfl ?_
  refine SX.sr ?_
  refine SL.asg ⟨rfl, rfl, rfl, rfl⟩ rfl ?_
  refine SL.nx ?_
  refine SX.sr ?_
  obtain ⟨s1, hs1, h⟩ := bnd h
  refine SL.mv ⟨rfl, rfl, rfl, rfl⟩ rfl ?_
  refine SL.mv ⟨rfl, rfl, rfl, rfl⟩ rfl ?_
  refine SL.lenS ⟨rfl, rfl, rfl, rfl⟩ ty9 rfl ?_
  refine SL.minI ⟨rfl, rfl, rfl, rfl⟩ rfl rfl ?_
  refine SL.slNh hs1 ⟨rfl, rfl, rfl, rfl⟩ ty9 rfl rfl ?_
  refine SL.asg ⟨rfl, rfl, rfl, rfl⟩ rfl ?_
  refine SL.nx ?_
  refine SX.sr ?_
  obtain ⟨y1, hy1, h⟩ := bnd h
  obtain ⟨s2, hs2, h⟩ := bnd h
  refine SL.mv ⟨rfl, rfl, rfl, rfl⟩ rfl ?_
  refine SL.mv ⟨rfl, rfl, rfl, rfl⟩ rfl ?_
  refine SL.lenS ⟨rfl, rfl, rfl, rfl⟩ ty9 rfl ?_
  refine SL.bin ⟨rfl, rfl, rfl, rfl⟩ rfl rfl Bin.subW ?_
  refine SL.call (vs := [_]) (Hin := []) (Hr := _) ⟨rfl, rfl, rfl, rfl⟩ rfl ⟨rfl, trivial⟩ cal20 rfl rfl (c_ref07_Zeros hy1) ?_
  rintro _ _ ⟨rfl, rfl⟩
  refine ⟨trivial, ?_⟩
  refine SL.bin ⟨rfl, rfl, rfl, rfl⟩ rfl rfl (Bin.catO hs2) ?_
  refine SL.asg ⟨rfl, rfl, rfl, rfl⟩ rfl ?_
  refine SL.nx ?_
  refine SX.ret ?_
  obtain rfl := Option.some.inj h
  exact SQ.fret (res1 rfl rfl) (ret_of (M := []) ⟨rfl, rfl⟩ fun _ hw => HpOk.pick (H := []) hw [] 0 rfl)

def f_ref07_Same_j1 : Option Bool :=
  some true
def f_ref07_Same_l1_b (p0 : List (List UInt8)) (p1 : List (List UInt8)) (nx_f_ref07_Same_l1 : Int → Option Bool) (a1 : Int) : Option Bool :=
  cond (decide (a1 < (p0.length : Int)))
  (
    (nthI p0 a1).bind fun x1 =>
    (nthI p1 a1).bind fun x2 =>
    cond (!decide (x1 = x2))
    (
      some false)
    (
      ret (wI (a1 + 1)) fun i_1 =>
      nx_f_ref07_Same_l1 i_1))
  (
    f_ref07_Same_j1)
def f_ref07_Same_l1 (p0 : List (List UInt8)) (p1 : List (List UInt8)) : Nat → Int → Option Bool := loopN fun nx x => f_ref07_Same_l1_b p0 p1 nx x
def f_ref07_Same (n : Nat) (p0 : List (List UInt8)) (p1 : List (List UInt8)) : Option Bool :=
  cond (!decide ((p0.length : Int) = (p1.length : Int)))
  (
    some false)
  (
    f_ref07_Same_l1 p0 p1 n 0)
set_option maxRecDepth 100000 in
theorem c_ref07_Same {n : Nat} {v0_ : Value} {p0 : List (List UInt8)} {v1_ : Value} {p1 : List (List UInt8)} {r : Bool} (h : f_ref07_Same n p0 p1 = some r) (hs0_ : SlOf K w0 eS 1 v0_ p0) (hs1_ : SlOf K w0 eS 1 v1_ p1) : Con Try.prog K w0 26 [v0_, v1_] [] H (fun u M => u = vB r ∧ M = []) := by
  unfold f_ref07_Same at h
  refine Con.enter Try.func26 rfl rfl ?_
  refine SX.sr ?_
  refine SL.asg ⟨rfl, rfl, rfl, rfl⟩ rfl ?_
  refine SL.nx ?_
  refine SX.seq ?_
  refine SX.sr ?_
  refine SL.mv ⟨rfl, rfl, rfl, rfl⟩ rfl ?_
  refine SL.lenV hs0_ ⟨rfl, rfl, rfl, rfl⟩ ty41 rfl ?_
  refine SL.mv ⟨rfl, rfl, rfl, rfl⟩ rfl ?_
  refine SL.lenV hs1_ ⟨rfl, rfl, rfl, rfl⟩ ty41 rfl ?_
  refine SL.bin ⟨rfl, rfl, rfl, rfl⟩ rfl rfl Bin.neI ?_
  refine SL.nx ?_
  refine SX.cond rfl (fun hc1 => ?_) (fun hc1 => ?_)
  · skip
    replace h := cT hc1 h
    refine SX.sr ?_
    refine SL.asg ⟨rfl, rfl, rfl, rfl⟩ rfl ?_
    refine SL.nx ?_
    refine SX.ret ?_
    refine SQ.thnR ?_
    obtain rfl := Option.some.inj h
    exact SQ.fret (res1 rfl rfl) (ret_of (M := []) ⟨rfl, rfl⟩ fun _ hw => HpOk.pick (H := []) hw [] 0 rfl)
  · skip
    replace h := cF hc1 h
    refine SX.skip ?_
    refine SQ.thn ?_
    refine SX.meetD (α := Unit) (fun x => f_ref07_Same_j1 = some r) (fun x => []) (fun x => H) ?_ (fun x D h => ?_)
    · skip
      refine SX.sr ?_
      refine SL.asg ⟨rfl, rfl, rfl, rfl⟩ rfl ?_
      refine SL.nx ?_
      refine SX.block ?_
      refine SX.heap (SX.mono (SX.loop (α := Nat × Int) (fun x => f_ref07_Same_l1 p0 p1 x.1 x.2 = some r) (fun x => [(0, v0_), (1, v1_), (5, vI x.2)]) (fun x => H) (fun x => x.1) (fun x D h => ?_) (n, 0) h) (by repeat' (first | exact trivial | refine And.intro rfl ?_))) (fun _ hw => HpOk.pick (H := []) hw [] 0 rfl)
      obtain ⟨m1, a1⟩ := x
      dsimp only at h
      rcases m1 with _ | m1
      · cases (show (none : Option _) = some r from h)
      replace h : f_ref07_Same_l1_b p0 p1 (f_ref07_Same_l1 p0 p1 m1) a1 = some r := h
      unfold f_ref07_Same_l1_b at h
      refine SX.re [(0, v0_), (1, v1_), (5, vI a1)] (H) ?_ (by repeat' (first | exact trivial | refine And.intro rfl ?_))
      refine SX.seq ?_
      refine SX.sr ?_
      refine SL.mv ⟨rfl, rfl, rfl, rfl⟩ rfl ?_
      refine SL.mv ⟨rfl, rfl, rfl, rfl⟩ rfl ?_
      refine SL.lenV hs0_ ⟨rfl, rfl, rfl, rfl⟩ ty41 rfl ?_
      refine SL.bin ⟨rfl, rfl, rfl, rfl⟩ rfl rfl Bin.ltI ?_
      refine SL.nx ?_
      refine SX.cond rfl (fun hc2 => ?_) (fun hc2 => ?_)
      · skip
        replace h := cT hc2 h
        refine SX.skip ?_
        refine SQ.thn ?_
        refine SX.seq ?_
        refine SX.block ?_
        refine SX.seq ?_
        obtain ⟨x1, hx1, h⟩ := bnd h
        obtain ⟨x2, hx2, h⟩ := bnd h
        refine SX.drawI mix [] (Pl.of [(true, 0), (true, 1), (true, 2), (true, 3), (true, 4), (true, 5), (true, 6), (true, 7), (true, 8)]) (by kernel_rfl) ?_
        refine SL.mv ⟨rfl, rfl, rfl, rfl⟩ rfl ?_
        refine SL.mv ⟨rfl, rfl, rfl, rfl⟩ rfl ?_
        refine SL.iaN hx1 hs0_ ⟨rfl, rfl, rfl, rfl⟩ ty41 sz9 rfl rfl fun be1 of1 hc3 => ?_
        refine SL.ld ⟨rfl, rfl, rfl, rfl⟩ sc9 rfl (cell_kept (j := 0) hc3 rfl) ?_
        refine SL.mv ⟨rfl, rfl, rfl, rfl⟩ rfl ?_
        refine SL.mv ⟨rfl, rfl, rfl, rfl⟩ rfl ?_
        refine SL.iaN hx2 hs1_ ⟨rfl, rfl, rfl, rfl⟩ ty41 sz9 rfl rfl fun be2 of2 hc4 => ?_
        refine SL.ld ⟨rfl, rfl, rfl, rfl⟩ sc9 rfl (cell_kept (j := 0) hc4 rfl) ?_
        refine SL.bin ⟨rfl, rfl, rfl, rfl⟩ rfl rfl Bin.neS ?_
        refine SL.nx ?_
        refine SX.cond rfl (fun hc5 => ?_) (fun hc5 => ?_)
        · skip
          replace h := cT hc5 h
          refine SX.sr ?_
          refine SL.asg ⟨rfl, rfl, rfl, rfl⟩ rfl ?_
          refine SL.nx ?_
          refine SX.ret ?_
          refine SQ.blkR ?_
          refine SQ.thnR ?_
          refine SQ.lpR ?_
          refine SQ.blkR ?_
          refine SQ.midDR ?_
          obtain rfl := Option.some.inj h
          exact SQ.fret (res1 rfl rfl) (ret_of (M := []) ⟨rfl, rfl⟩ fun _ hw => HpOk.pick (H := []) hw [] 0 rfl)
        · skip
          replace h := cF hc5 h
          refine SX.skip ?_
          refine SQ.blk ?_
          refine SQ.thn ?_
          refine SX.region ?_
          obtain ⟨i_1, ei_1, h⟩ := retE h
          refine SL.mv ⟨rfl, rfl, rfl, rfl⟩ rfl ?_
          refine SL.bin ⟨rfl, rfl, rfl, rfl⟩ rfl rfl Bin.addW ?_
          refine SL.asgX (u := vI i_1) ⟨rfl, rfl, rfl, rfl⟩ rfl (congrArg vI ei_1) ?_
          refine SL.nil ?_
          exact SQ.again (m1, i_1) h (Nat.lt_succ_self _) (by repeat' (first | exact trivial | refine And.intro rfl ?_)) (fun _ hw => HpOk.pick (H := []) hw [] 0 rfl)
      · skip
        replace h := cF hc2 h
        refine SX.exit ?_
        refine SQ.thnE ?_
        refine SQ.lpE ?_
        refine SQ.blkE ?_
        exact SQ.midD () h (by repeat' (first | exact trivial | refine And.intro rfl ?_)) (fun _ hw => HpOk.pick (H := []) hw [] 0 rfl)
    · skip
      unfold f_ref07_Same_j1 at h
      refine SX.re [] (H) ?_ (by repeat' (first | exact trivial | refine And.intro rfl ?_))
      refine SX.sr ?_
      refine SL.asg ⟨rfl, rfl, rfl, rfl⟩ rfl ?_
      refine SL.nx ?_
      refine SX.ret ?_
      obtain rfl := Option.some.inj h
      exact SQ.fret (res1 rfl rfl) (ret_of (M := []) ⟨rfl, rfl⟩ fun _ hw => HpOk.pick (H := []) hw [] 0 rfl)

def f_device_power_spend_j2 (p0 : DevA) (y1 : Bool) (y2 : Int) : Option (Int × DevA) :=
  some (0, { p0 with off := y1, lasts := y2, counts := wI (p0.counts + 1) })
def f_device_power_spend_j1 (p0 : DevA) (y1 : Bool) : Option (Int × DevA) :=
  cond y1
  (
    some (71, { p0 with off := y1 }))
  (
    cond p0.isCut
    (
      f_device_power_spend_j2 p0 y1 (wI (p0.lasts - 1)))
    (
      f_device_power_spend_j2 p0 y1 p0.lasts))
def f_device_power_spend (p0 : DevA) : Option (Int × DevA) :=
  cond (p0.isCut && (decide (p0.lasts = 0)))
  (
    f_device_power_spend_j1 p0 true)
  (
    f_device_power_spend_j1 p0 p0.off)
set_option maxRecDepth 100000 in
theorem c_device_power_spend {b0_ : Nat} {v0x4_ : Value} {m0x5_ : Nat} {m0x6_ : Nat} {p0 : DevA} {r : Int × DevA} (h : f_device_power_spend p0 = some r)  : Con Try.prog K w0 33 [vP b0_ 0] [own b0_ (.cells #[vB p0.off, vB p0.isCut, vI p0.lasts, vI p0.counts, v0x4_, .map (some m0x5_), .map (some m0x6_), vU64 p0.rcnt, vS p0.rtag, vU32 p0.rboots] 72), rowT 9 1 v0x4_ eS p0.blocks, mapC m0x5_ vU32 vS p0.pend, mapC m0x6_ vU32 vB p0.bad] H (fun u M => u = vI r.1 ∧ M = [own b0_ (.cells #[vB r.2.off, vB r.2.isCut, vI r.2.lasts, vI r.2.counts, v0x4_, .map (some m0x5_), .map (some m0x6_), vU64 r.2.rcnt, vS r.2.rtag, vU32 r.2.rboots] 72), rowT 9 1 v0x4_ eS r.2.blocks, mapC m0x5_ vU32 vS r.2.pend, mapC m0x6_ vU32 vB r.2.bad]) := by
  unfold f_device_power_spend at h
  refine Con.enter Try.func33 rfl rfl ?_
  refine SX.sr ?_
  refine SL.asg ⟨rfl, rfl, rfl, rfl⟩ rfl ?_
  refine SL.nx ?_
  refine SX.meetD (α := Bool) (fun x => f_device_power_spend_j1 p0 x = some r) (fun x => [(0, vP b0_ 0)]) (fun x => own b0_ (.cells #[vB x, vB p0.isCut, vI p0.lasts, vI p0.counts, v0x4_, .map (some m0x5_), .map (some m0x6_), vU64 p0.rcnt, vS p0.rtag, vU32 p0.rboots] 72) :: rowT 9 1 v0x4_ eS p0.blocks :: mapC m0x5_ vU32 vS p0.pend :: mapC m0x6_ vU32 vB p0.bad :: H) ?_ (fun y1 D h => ?_)
  · skip
    refine SX.sr ?_
    refine SL.mv ⟨rfl, rfl, rfl, rfl⟩ rfl ?_
    refine SL.nchk ⟨rfl, rfl, rfl, rfl⟩ rfl ?_
    refine SL.fa ⟨rfl, rfl, rfl, rfl⟩ rfl fo70_1 ?_
    refine SL.ld ⟨rfl, rfl, rfl, rfl⟩ sc4 rfl (cell_own 0 rfl rfl) ?_
    refine SL.mv ⟨rfl, rfl, rfl, rfl⟩ rfl ?_
    refine SL.and (c := decide (p0.lasts = 0)) 7 6 13 rfl (fun hb k => ?_) (fun hb k => ?_) ?_
    · skip
      refine SL.mv ⟨rfl, rfl, rfl, rfl⟩ rfl ?_
      refine SL.nchk ⟨rfl, rfl, rfl, rfl⟩ rfl ?_
      refine SL.fa ⟨rfl, rfl, rfl, rfl⟩ rfl fo70_2 ?_
      refine SL.ld ⟨rfl, rfl, rfl, rfl⟩ sc3 rfl (cell_own 0 rfl rfl) ?_
      refine SL.bin ⟨rfl, rfl, rfl, rfl⟩ rfl rfl Bin.eqI ?_
      refine SL.pk ⟨rfl, rfl, rfl, rfl⟩ rfl rfl ?_
      exact k.mono (by repeat' (first | exact trivial | refine And.intro rfl ?_))
    · skip
      refine SL.pass rfl rfl rfl ?_
      refine SL.pass rfl rfl rfl ?_
      refine SL.pass rfl rfl rfl ?_
      refine SL.pass rfl rfl rfl ?_
      refine SL.pass rfl rfl rfl ?_
      refine SL.pk ⟨rfl, rfl, rfl, rfl⟩ rfl rfl ?_
      exact k.mono (by repeat' (first | exact trivial | refine And.intro rfl ?_))
    refine SL.nx ?_
    refine SX.cond rfl (fun hc1 => ?_) (fun hc1 => ?_)
    · skip
      replace h := cT hc1 h
      refine SX.region ?_
      refine SL.mv ⟨rfl, rfl, rfl, rfl⟩ rfl ?_
      refine SL.nchk ⟨rfl, rfl, rfl, rfl⟩ rfl ?_
      refine SL.fa ⟨rfl, rfl, rfl, rfl⟩ rfl fo70_0 ?_
      refine SL.st 0 ⟨rfl, rfl, rfl⟩ rfl rfl rfl sz4 rfl rfl rfl trivial ?_
      refine SL.nil ?_
      exact SQ.midD true h (by repeat' (first | exact trivial | refine And.intro rfl ?_)) (fun _ hw => HpOk.pick (H := [_, _, _, _]) hw [0, 1, 2, 3] 4 rfl)
    · skip
      replace h := cF hc1 h
      refine SX.skip ?_
      exact SQ.midD p0.off h (by repeat' (first | exact trivial | refine And.intro rfl ?_)) (fun _ hw => HpOk.pick (H := [_, _, _, _]) hw [0, 1, 2, 3] 4 rfl)
  · skip
    unfold f_device_power_spend_j1 at h
    refine SX.re [(0, vP b0_ 0)] (own b0_ (.cells #[vB y1, vB p0.isCut, vI p0.lasts, vI p0.counts, v0x4_, .map (some m0x5_), .map (some m0x6_), vU64 p0.rcnt, vS p0.rtag, vU32 p0.rboots] 72) :: rowT 9 1 v0x4_ eS p0.blocks :: mapC m0x5_ vU32 vS p0.pend :: mapC m0x6_ vU32 vB p0.bad :: H) ?_ (by repeat' (first | exact trivial | refine And.intro rfl ?_))
    refine SX.seq ?_
    refine SX.sr ?_
    refine SL.mv ⟨rfl, rfl, rfl, rfl⟩ rfl ?_
    refine SL.nchk ⟨rfl, rfl, rfl, rfl⟩ rfl ?_
    refine SL.fa ⟨rfl, rfl, rfl, rfl⟩ rfl fo70_0 ?_
    refine SL.ld ⟨rfl, rfl, rfl, rfl⟩ sc4 rfl (cell_own 0 rfl rfl) ?_
    refine SL.nx ?_
    refine SX.cond rfl (fun hc2 => ?_) (fun hc2 => ?_)
    · skip
      replace h := cT hc2 h
      refine SX.sr ?_
      refine SL.asg ⟨rfl, rfl, rfl, rfl⟩ rfl ?_
      refine SL.nx ?_
      refine SX.ret ?_
      refine SQ.thnR ?_
      obtain rfl := Option.some.inj h
      exact SQ.fret (res1 rfl rfl) (ret_of (M := [_, _, _, _]) ⟨rfl, rfl⟩ fun _ hw => HpOk.pick (H := [_, _, _, _]) hw [0, 1, 2, 3] 4 rfl)
    · skip
      replace h := cF hc2 h
      refine SX.skip ?_
      refine SQ.thn ?_
      refine SX.meetD (α := Int) (fun x => f_device_power_spend_j2 p0 y1 x = some r) (fun x => [(0, vP b0_ 0)]) (fun x => own b0_ (.cells #[vB y1, vB p0.isCut, vI x, vI p0.counts, v0x4_, .map (some m0x5_), .map (some m0x6_), vU64 p0.rcnt, vS p0.rtag, vU32 p0.rboots] 72) :: rowT 9 1 v0x4_ eS p0.blocks :: mapC m0x5_ vU32 vS p0.pend :: mapC m0x6_ vU32 vB p0.bad :: H) ?_ (fun y2 D h => ?_)
      · skip
        refine SX.sr ?_
        refine SL.mv ⟨rfl, rfl, rfl, rfl⟩ rfl ?_
        refine SL.nchk ⟨rfl, rfl, rfl, rfl⟩ rfl ?_
        refine SL.fa ⟨rfl, rfl, rfl, rfl⟩ rfl fo70_1 ?_
        refine SL.ld ⟨rfl, rfl, rfl, rfl⟩ sc4 rfl (cell_own 0 rfl rfl) ?_
        refine SL.nx ?_
        refine SX.cond rfl (fun hc3 => ?_) (fun hc3 => ?_)
        · skip
          replace h := cT hc3 h
          refine SX.region ?_
          refine SL.mv ⟨rfl, rfl, rfl, rfl⟩ rfl ?_
          refine SL.nchk ⟨rfl, rfl, rfl, rfl⟩ rfl ?_
          refine SL.fa ⟨rfl, rfl, rfl, rfl⟩ rfl fo70_2 ?_
          refine SL.ld ⟨rfl, rfl, rfl, rfl⟩ sc3 rfl (cell_own 0 rfl rfl) ?_
          refine SL.bin ⟨rfl, rfl, rfl, rfl⟩ rfl rfl Bin.subW ?_
          refine SL.nchk ⟨rfl, rfl, rfl, rfl⟩ rfl ?_
          refine SL.fa ⟨rfl, rfl, rfl, rfl⟩ rfl fo70_2 ?_
          refine SL.st 0 ⟨rfl, rfl, rfl⟩ rfl rfl rfl sz3 rfl rfl rfl trivial ?_
          refine SL.nil ?_
          exact SQ.midD (wI (p0.lasts - 1)) h (by repeat' (first | exact trivial | refine And.intro rfl ?_)) (fun _ hw => HpOk.pick (H := [_, _, _, _]) hw [0, 1, 2, 3] 4 rfl)
        · skip
          replace h := cF hc3 h
          refine SX.skip ?_
          exact SQ.midD p0.lasts h (by repeat' (first | exact trivial | refine And.intro rfl ?_)) (fun _ hw => HpOk.pick (H := [_, _, _, _]) hw [0, 1, 2, 3] 4 rfl)
      · skip
        unfold f_device_power_spend_j2 at h
        refine SX.re [(0, vP b0_ 0)] (own b0_ (.cells #[vB y1, vB p0.isCut, vI y2, vI p0.counts, v0x4_, .map (some m0x5_), .map (some m0x6_), vU64 p0.rcnt, vS p0.rtag, vU32 p0.rboots] 72) :: rowT 9 1 v0x4_ eS p0.blocks :: mapC m0x5_ vU32 vS p0.pend :: mapC m0x6_ vU32 vB p0.bad :: H) ?_ (by repeat' (first | exact trivial | refine And.intro rfl ?_))
        refine SX.sr ?_
        refine SL.mv ⟨rfl, rfl, rfl, rfl⟩ rfl ?_
        refine SL.nchk ⟨rfl, rfl, rfl, rfl⟩ rfl ?_
        refine SL.fa ⟨rfl, rfl, rfl, rfl⟩ rfl fo70_3 ?_
        refine SL.ld ⟨rfl, rfl, rfl, rfl⟩ sc3 rfl (cell_own 0 rfl rfl) ?_
        refine SL.bin ⟨rfl, rfl, rfl, rfl⟩ rfl rfl Bin.addW ?_
        refine SL.nchk ⟨rfl, rfl, rfl, rfl⟩ rfl ?_
        refine SL.fa ⟨rfl, rfl, rfl, rfl⟩ rfl fo70_3 ?_
        refine SL.st 0 ⟨rfl, rfl, rfl⟩ rfl rfl rfl sz3 rfl rfl rfl trivial ?_
        refine SL.nx ?_
        refine SX.sr ?_
        refine SL.asg ⟨rfl, rfl, rfl, rfl⟩ rfl ?_
        refine SL.nx ?_
        refine SX.ret ?_
        obtain rfl := Option.some.inj h
        exact SQ.fret (res1 rfl rfl) (ret_of (M := [_, _, _, _]) ⟨rfl, rfl⟩ fun _ hw => HpOk.pick (H := [_, _, _, _]) hw [0, 1, 2, 3] 4 rfl)

def f_device_power_set (p0 : DevA) (p1 : Int) : Option DevA :=
  some ({ p0 with isCut := decide (0 ≤ p1), lasts := max p1 0 })
set_option maxRecDepth 100000 in
theorem c_device_power_set {b0_ : Nat} {v0x4_ : Value} {m0x5_ : Nat} {m0x6_ : Nat} {p0 : DevA} {p1 : Int} {r : DevA} (h : f_device_power_set p0 p1 = some r)  : Con Try.prog K w0 35 [vP b0_ 0, vI p1] [own b0_ (.cells #[vB p0.off, vB p0.isCut, vI p0.lasts, vI p0.counts, v0x4_, .map (some m0x5_), .map (some m0x6_), vU64 p0.rcnt, vS p0.rtag, vU32 p0.rboots] 72), rowT 9 1 v0x4_ eS p0.blocks, mapC m0x5_ vU32 vS p0.pend, mapC m0x6_ vU32 vB p0.bad] H (fun u M => u = .tuple #[] ∧ M = [own b0_ (.cells #[vB r.off, vB r.isCut, vI r.lasts, vI r.counts, v0x4_, .map (some m0x5_), .map (some m0x6_), vU64 r.rcnt, vS r.rtag, vU32 r.rboots] 72), rowT 9 1 v0x4_ eS r.blocks, mapC m0x5_ vU32 vS r.pend, mapC m0x6_ vU32 vB r.bad]) := by
  unfold f_device_power_set at h
  refine Con.enter Try.func35 rfl rfl ?_
  refine SX.region ?_
  refine SL.mv ⟨rfl, rfl, rfl, rfl⟩ rfl ?_
  refine SL.mv ⟨rfl, rfl, rfl, rfl⟩ rfl ?_
  refine SL.mv ⟨rfl, rfl, rfl, rfl⟩ rfl ?_
  refine SL.bin ⟨rfl, rfl, rfl, rfl⟩ rfl rfl Bin.geI ?_
  refine SL.mv ⟨rfl, rfl, rfl, rfl⟩ rfl ?_
  refine SL.maxI ⟨rfl, rfl, rfl, rfl⟩ rfl rfl ?_
  refine SL.nchk ⟨rfl, rfl, rfl, rfl⟩ rfl ?_
  refine SL.fa ⟨rfl, rfl, rfl, rfl⟩ rfl fo70_1 ?_
  refine SL.st 0 ⟨rfl, rfl, rfl⟩ rfl rfl rfl sz4 rfl rfl rfl trivial ?_
  refine SL.nchk ⟨rfl, rfl, rfl, rfl⟩ rfl ?_
  refine SL.fa ⟨rfl, rfl, rfl, rfl⟩ rfl fo70_2 ?_
  refine SL.st 0 ⟨rfl, rfl, rfl⟩ rfl rfl rfl sz3 rfl rfl rfl trivial ?_
  refine SL.nil ?_
  obtain rfl := Option.some.inj h
  exact SQ.fend (res0 rfl) (ret_of (M := [_, _, _, _]) ⟨rfl, rfl⟩ fun _ hw => HpOk.pick (H := [_, _, _, _]) hw [0, 1, 2, 3] 4 rfl)

def f_device_Device_has (p0 : DevA) (p1 : UInt32) : Option Bool :=
  ret (decide ((p1.toNat : Int) < (p0.blocks.length : Int))) fun x1 =>
  some x1
set_option maxRecDepth 100000 in
theorem c_device_Device_has {b0_ : Nat} {v0x4_ : Value} {m0x5_ : Nat} {m0x6_ : Nat} {p0 : DevA} {p1 : UInt32} {r : Bool} (h : f_device_Device_has p0 p1 = some r)  : Con Try.prog K w0 32 [vP b0_ 0, vU32 p1] [own b0_ (.cells #[vB p0.off, vB p0.isCut, vI p0.lasts, vI p0.counts, v0x4_, .map (some m0x5_), .map (some m0x6_), vU64 p0.rcnt, vS p0.rtag, vU32 p0.rboots] 72), rowT 9 1 v0x4_ eS p0.blocks, mapC m0x5_ vU32 vS p0.pend, mapC m0x6_ vU32 vB p0.bad] H (fun u M => u = vB r ∧ M = [own b0_ (.cells #[vB p0.off, vB p0.isCut, vI p0.lasts, vI p0.counts, v0x4_, .map (some m0x5_), .map (some m0x6_), vU64 p0.rcnt, vS p0.rtag, vU32 p0.rboots] 72), rowT 9 1 v0x4_ eS p0.blocks, mapC m0x5_ vU32 vS p0.pend, mapC m0x6_ vU32 vB p0.bad]) := by
  unfold f_device_Device_has at h
  refine Con.enter Try.func32 rfl rfl ?_
  refine SX.sr ?_
  refine SL.asg ⟨rfl, rfl, rfl, rfl⟩ rfl ?_
  refine SL.nx ?_
  refine SX.sr ?_
  obtain ⟨x1, ex1, h⟩ := retE h
  refine SL.mv ⟨rfl, rfl, rfl, rfl⟩ rfl ?_
  refine SL.cv ⟨rfl, rfl, rfl, rfl⟩ rfl (Cv.u32_I ty22 ty2) ?_
  refine SL.mv ⟨rfl, rfl, rfl, rfl⟩ rfl ?_
  refine SL.nchk ⟨rfl, rfl, rfl, rfl⟩ rfl ?_
  refine SL.fa ⟨rfl, rfl, rfl, rfl⟩ rfl fo72_1 ?_
  refine SL.ld ⟨rfl, rfl, rfl, rfl⟩ sc41 rfl (cell_own 0 rfl rfl) ?_
  refine SL.lenT 1 ⟨rfl, rfl, rfl, rfl⟩ ty41 rfl rfl ?_
  refine SL.bin ⟨rfl, rfl, rfl, rfl⟩ rfl rfl Bin.ltI ?_
  refine SL.asgX (u := vB x1) ⟨rfl, rfl, rfl, rfl⟩ rfl (congrArg vB ex1) ?_
  refine SL.nx ?_
  refine SX.ret ?_
  obtain rfl := Option.some.inj h
  exact SQ.fret (res1 rfl rfl) (ret_of (M := [_, _, _, _]) ⟨rfl, rfl⟩ fun _ hw => HpOk.pick (H := [_, _, _, _]) hw [0, 1, 2, 3] 4 rfl)

def f_device_Device_holds (p0 : DevA) (p1 : UInt32) : Option (List UInt8) :=
  ret ((mget p0.pend p1).getD []) fun x1 =>
  ret ((mget p0.pend p1).isSome) fun ok_1 =>
  cond ok_1
  (
    some x1)
  (
    (nthI p0.blocks (p1.toNat : Int)).bind fun x2 =>
    some x2)
set_option maxRecDepth 100000 in
theorem c_device_Device_holds {b0_ : Nat} {v0x4_ : Value} {m0x5_ : Nat} {m0x6_ : Nat} {p0 : DevA} {p1 : UInt32} {r : List UInt8} (h : f_device_Device_holds p0 p1 = some r)  : Con Try.prog K w0 36 [vP b0_ 0, vU32 p1] [own b0_ (.cells #[vB p0.off, vB p0.isCut, vI p0.lasts, vI p0.counts, v0x4_, .map (some m0x5_), .map (some m0x6_), vU64 p0.rcnt, vS p0.rtag, vU32 p0.rboots] 72), rowT 9 1 v0x4_ eS p0.blocks, mapC m0x5_ vU32 vS p0.pend, mapC m0x6_ vU32 vB p0.bad] H (fun u M => u = vS r ∧ M = [own b0_ (.cells #[vB p0.off, vB p0.isCut, vI p0.lasts, vI p0.counts, v0x4_, .map (some m0x5_), .map (some m0x6_), vU64 p0.rcnt, vS p0.rtag, vU32 p0.rboots] 72), rowT 9 1 v0x4_ eS p0.blocks, mapC m0x5_ vU32 vS p0.pend, mapC m0x6_ vU32 vB p0.bad]) := by
  unfold f_device_Device_holds at h
  refine Con.enter Try.func36 rfl rfl ?_
  refine SX.sr ?_
  refine SL.asg ⟨rfl, rfl, rfl, rfl⟩ rfl ?_
  refine SL.nx ?_
  refine SX.seq ?_
  refine SX.sr ?_
  obtain ⟨x1, ex1, h⟩ := retE h
  obtain ⟨ok_1, eok_1, h⟩ := retE h
  refine SL.mv ⟨rfl, rfl, rfl, rfl⟩ rfl ?_
  refine SL.nchk ⟨rfl, rfl, rfl, rfl⟩ rfl ?_
  refine SL.fa ⟨rfl, rfl, rfl, rfl⟩ rfl fo72_2 ?_
  refine SL.ld ⟨rfl, rfl, rfl, rfl⟩ sc67 rfl (cell_own 0 rfl rfl) ?_
  refine SL.mv ⟨rfl, rfl, rfl, rfl⟩ rfl ?_
  refine SL.lkpOk (zv := []) 2 (MapE.u32S ty22) ⟨rfl, rfl, rfl, rfl⟩ ty67 ze9 rfl rfl rfl ?_
  refine SL.mv ⟨rfl, rfl, rfl, rfl⟩ rfl ?_
  refine SL.ext ⟨rfl, rfl, rfl, rfl⟩ rfl rfl ?_
  refine SL.ext ⟨rfl, rfl, rfl, rfl⟩ rfl rfl ?_
  refine SL.asgX (u := vS x1) ⟨rfl, rfl, rfl, rfl⟩ rfl (congrArg vS ex1) ?_
  refine SL.asgX (u := vB ok_1) ⟨rfl, rfl, rfl, rfl⟩ rfl (congrArg vB eok_1) ?_
  refine SL.nx ?_
  refine SX.sr ?_
  refine SL.mv ⟨rfl, rfl, rfl, rfl⟩ rfl ?_
  refine SL.nx ?_
  refine SX.cond rfl (fun hc1 => ?_) (fun hc1 => ?_)
  · skip
    replace h := cT hc1 h
    refine SX.sr ?_
    refine SL.mv ⟨rfl, rfl, rfl, rfl⟩ rfl ?_
    refine SL.asg ⟨rfl, rfl, rfl, rfl⟩ rfl ?_
    refine SL.nx ?_
    refine SX.ret ?_
    refine SQ.thnR ?_
    obtain rfl := Option.some.inj h
    exact SQ.fret (res1 rfl rfl) (ret_of (M := [_, _, _, _]) ⟨rfl, rfl⟩ fun _ hw => HpOk.pick (H := [_, _, _, _]) hw [0, 1, 2, 3] 4 rfl)
  · skip
    replace h := cF hc1 h
    refine SX.skip ?_
    refine SQ.thn ?_
    refine SX.sr ?_
    obtain ⟨x2, hx2, h⟩ := bnd h
    refine SL.mv ⟨rfl, rfl, rfl, rfl⟩ rfl ?_
    refine SL.nchk ⟨rfl, rfl, rfl, rfl⟩ rfl ?_
    refine SL.fa ⟨rfl, rfl, rfl, rfl⟩ rfl fo72_1 ?_
    refine SL.ld ⟨rfl, rfl, rfl, rfl⟩ sc41 rfl (cell_own 0 rfl rfl) ?_
    refine SL.mv ⟨rfl, rfl, rfl, rfl⟩ rfl ?_
    refine SL.iaT 1 hx2 ⟨rfl, rfl, rfl, rfl⟩ ty41 sz9 rfl rfl rfl fun g1 m1 cp1 hv1 => ?_
    refine SL.ld ⟨rfl, rfl, rfl, rfl⟩ sc9 rfl (cell_rowT (sz := 1) (enc := eS) 1 0 (fun _ => rfl) rfl hv1 hx2 rfl) ?_
    refine SL.asg ⟨rfl, rfl, rfl, rfl⟩ rfl ?_
    refine SL.nx ?_
    refine SX.ret ?_
    obtain rfl := Option.some.inj h
    exact SQ.fret (res1 rfl rfl) (ret_of (M := [_, _, _, _]) ⟨rfl, rfl⟩ fun _ hw => HpOk.pick (H := [_, _, _, _]) hw [0, 1, 2, 3] 4 rfl)

def f_device_Device_Read (p0 : DevA) (p1 : UInt32) : Option (List UInt8 × Int) :=
  (f_device_Device_has p0 p1).bind fun y1 =>
  ret (!y1) fun x1 =>
  cond x1
  (
    some ([], 2))
  (
    cond p0.off
    (
      some ([], 71))
    (
      ret ((mget p0.bad p1).getD false) fun x2 =>
      cond x2
      (
        some ([], 70))
      (
        (f_device_Device_holds p0 p1).bind fun y2 =>
        some (y2, 0))))
set_option maxRecDepth 100000 in
theorem c_device_Device_Read {b0_ : Nat} {v0x4_ : Value} {m0x5_ : Nat} {m0x6_ : Nat} {p0 : DevA} {p1 : UInt32} {r : List UInt8 × Int} (h : f_device_Device_Read p0 p1 = some r)  : Con Try.prog K w0 17 [vP b0_ 0, vU32 p1] [own b0_ (.cells #[vB p0.off, vB p0.isCut, vI p0.lasts, vI p0.counts, v0x4_, .map (some m0x5_), .map (some m0x6_), vU64 p0.rcnt, vS p0.rtag, vU32 p0.rboots] 72), rowT 9 1 v0x4_ eS p0.blocks, mapC m0x5_ vU32 vS p0.pend, mapC m0x6_ vU32 vB p0.bad] H (fun u M => u = .tuple #[vS r.1, vI r.2] ∧ M = [own b0_ (.cells #[vB p0.off, vB p0.isCut, vI p0.lasts, vI p0.counts, v0x4_, .map (some m0x5_), .map (some m0x6_), vU64 p0.rcnt, vS p0.rtag, vU32 p0.rboots] 72), rowT 9 1 v0x4_ eS p0.blocks, mapC m0x5_ vU32 vS p0.pend, mapC m0x6_ vU32 vB p0.bad]) := by
  unfold f_device_Device_Read at h
  refine Con.enter Try.func17 rfl rfl ?_
  refine SX.sr ?_
  refine SL.asg ⟨rfl, rfl, rfl, rfl⟩ rfl ?_
  refine SL.asg ⟨rfl, rfl, rfl, rfl⟩ rfl ?_
  refine SL.nx ?_
  refine SX.seq ?_
  refine SX.block ?_
  refine SX.sr ?_
  refine SL.mv ⟨rfl, rfl, rfl, rfl⟩ rfl ?_
  refine SL.eqPN ⟨rfl, rfl, rfl, rfl⟩ ty25 rfl rfl ?_
  refine SL.asg ⟨rfl, rfl, rfl, rfl⟩ rfl ?_
  refine SL.nx ?_
  refine SX.condF rfl ?_
  refine SX.sr ?_
  obtain ⟨y1, hy1, h⟩ := bnd h
  obtain ⟨x1, ex1, h⟩ := retE h
  refine SL.mv ⟨rfl, rfl, rfl, rfl⟩ rfl ?_
  refine SL.mv ⟨rfl, rfl, rfl, rfl⟩ rfl ?_
  refine SL.call (vs := [_, _]) (Hin := [_, _, _, _]) (Hr := _) ⟨rfl, rfl, rfl, rfl⟩ rfl ⟨rfl, rfl, trivial⟩ cal32 rfl rfl (c_device_Device_has hy1) ?_
  rintro _ _ ⟨rfl, rfl⟩
  refine ⟨trivial, ?_⟩
  refine SL.not ⟨rfl, rfl, rfl, rfl⟩ rfl ?_
  refine SL.asgX (u := vB x1) ⟨rfl, rfl, rfl, rfl⟩ rfl (congrArg vB ex1) ?_
  refine SL.nx ?_
  refine SX.cond rfl (fun hc2 => ?_) (fun hc2 => ?_)
  · skip
    replace h := cT hc2 h
    refine SX.sr ?_
    refine SL.asg ⟨rfl, rfl, rfl, rfl⟩ rfl ?_
    refine SL.asg ⟨rfl, rfl, rfl, rfl⟩ rfl ?_
    refine SL.nx ?_
    refine SX.ret ?_
    refine SQ.blkR ?_
    refine SQ.thnR ?_
    obtain rfl := Option.some.inj h
    exact SQ.fret (res2 rfl rfl rfl) (ret_of (M := [_, _, _, _]) ⟨rfl, rfl⟩ fun _ hw => HpOk.pick (H := [_, _, _, _]) hw [0, 1, 2, 3] 4 rfl)
  · skip
    replace h := cF hc2 h
    refine SX.sr ?_
    refine SL.mv ⟨rfl, rfl, rfl, rfl⟩ rfl ?_
    refine SL.nchk ⟨rfl, rfl, rfl, rfl⟩ rfl ?_
    refine SL.fa ⟨rfl, rfl, rfl, rfl⟩ rfl fo72_0 ?_
    refine SL.fa ⟨rfl, rfl, rfl, rfl⟩ rfl fo70_0 ?_
    refine SL.ld ⟨rfl, rfl, rfl, rfl⟩ sc4 rfl (cell_own 0 rfl rfl) ?_
    refine SL.asg ⟨rfl, rfl, rfl, rfl⟩ rfl ?_
    refine SL.nx ?_
    refine SX.cond rfl (fun hc3 => ?_) (fun hc3 => ?_)
    · skip
      replace h := cT hc3 h
      refine SX.sr ?_
      refine SL.asg ⟨rfl, rfl, rfl, rfl⟩ rfl ?_
      refine SL.asg ⟨rfl, rfl, rfl, rfl⟩ rfl ?_
      refine SL.nx ?_
      refine SX.ret ?_
      refine SQ.blkR ?_
      refine SQ.thnR ?_
      obtain rfl := Option.some.inj h
      exact SQ.fret (res2 rfl rfl rfl) (ret_of (M := [_, _, _, _]) ⟨rfl, rfl⟩ fun _ hw => HpOk.pick (H := [_, _, _, _]) hw [0, 1, 2, 3] 4 rfl)
    · skip
      replace h := cF hc3 h
      refine SX.sr ?_
      obtain ⟨x2, ex2, h⟩ := retE h
      refine SL.mv ⟨rfl, rfl, rfl, rfl⟩ rfl ?_
      refine SL.nchk ⟨rfl, rfl, rfl, rfl⟩ rfl ?_
      refine SL.fa ⟨rfl, rfl, rfl, rfl⟩ rfl fo72_3 ?_
      refine SL.ld ⟨rfl, rfl, rfl, rfl⟩ sc68 rfl (cell_own 0 rfl rfl) ?_
      refine SL.mv ⟨rfl, rfl, rfl, rfl⟩ rfl ?_
      refine SL.lkp (zv := false) 3 (MapE.u32B ty22) ⟨rfl, rfl, rfl, rfl⟩ ty68 ze4 rfl rfl rfl ?_
      refine SL.asgX (u := vB x2) ⟨rfl, rfl, rfl, rfl⟩ rfl (congrArg vB ex2) ?_
      refine SL.nx ?_
      refine SX.cond rfl (fun hc4 => ?_) (fun hc4 => ?_)
      · skip
        replace h := cT hc4 h
        refine SX.sr ?_
        refine SL.asg ⟨rfl, rfl, rfl, rfl⟩ rfl ?_
        refine SL.asg ⟨rfl, rfl, rfl, rfl⟩ rfl ?_
        refine SL.nx ?_
        refine SX.ret ?_
        refine SQ.blkR ?_
        refine SQ.thnR ?_
        obtain rfl := Option.some.inj h
        exact SQ.fret (res2 rfl rfl rfl) (ret_of (M := [_, _, _, _]) ⟨rfl, rfl⟩ fun _ hw => HpOk.pick (H := [_, _, _, _]) hw [0, 1, 2, 3] 4 rfl)
      · skip
        replace h := cF hc4 h
        refine SX.skip ?_
        refine SQ.blk ?_
        refine SQ.thn ?_
        refine SX.sr ?_
        obtain ⟨y2, hy2, h⟩ := bnd h
        refine SL.mv ⟨rfl, rfl, rfl, rfl⟩ rfl ?_
        refine SL.mv ⟨rfl, rfl, rfl, rfl⟩ rfl ?_
        refine SL.call (vs := [_, _]) (Hin := [_, _, _, _]) (Hr := _) ⟨rfl, rfl, rfl, rfl⟩ rfl ⟨rfl, rfl, trivial⟩ cal36 rfl rfl (c_device_Device_holds hy2) ?_
        rintro _ _ ⟨rfl, rfl⟩
        refine ⟨trivial, ?_⟩
        refine SL.asg ⟨rfl, rfl, rfl, rfl⟩ rfl ?_
        refine SL.asg ⟨rfl, rfl, rfl, rfl⟩ rfl ?_
        refine SL.nx ?_
        refine SX.ret ?_
        obtain rfl := Option.some.inj h
        exact SQ.fret (res2 rfl rfl rfl) (ret_of (M := [_, _, _, _]) ⟨rfl, rfl⟩ fun _ hw => HpOk.pick (H := [_, _, _, _]) hw [0, 1, 2, 3] 4 rfl)

def f_device_Device_Write_j1 (y2 : Int × DevA) (l1 : List (UInt32 × List UInt8)) : Option (Int × DevA) :=
  some (y2.1, { y2.2 with pend := l1 })
def f_device_Device_Write (p0 : DevA) (p1 : UInt32) (p2 : List UInt8) : Option (Int × DevA) :=
  (f_device_Device_has p0 p1).bind fun y1 =>
  ret ((!y1) || (!decide ((p2.length : Int) = 256))) fun x1 =>
  cond x1
  (
    some (2, p0))
  (
    (f_device_power_spend p0).bind fun y2 =>
    cond (decide (y2.1 = 0))
    (
      (mputI y2.2.pend p1 p2).bind fun l2 =>
      f_device_Device_Write_j1 y2 l2)
    (
      f_device_Device_Write_j1 y2 y2.2.pend))
set_option maxRecDepth 100000 in
theorem c_device_Device_Write {b0_ : Nat} {v0x4_ : Value} {m0x5_ : Nat} {m0x6_ : Nat} {p0 : DevA} {p1 : UInt32} {p2 : List UInt8} {r : Int × DevA} (h : f_device_Device_Write p0 p1 p2 = some r)  : Con Try.prog K w0 13 [vP b0_ 0, vU32 p1, vS p2] [own b0_ (.cells #[vB p0.off, vB p0.isCut, vI p0.lasts, vI p0.counts, v0x4_, .map (some m0x5_), .map (some m0x6_), vU64 p0.rcnt, vS p0.rtag, vU32 p0.rboots] 72), rowT 9 1 v0x4_ eS p0.blocks, mapC m0x5_ vU32 vS p0.pend, mapC m0x6_ vU32 vB p0.bad] H (fun u M => u = vI r.1 ∧ M = [own b0_ (.cells #[vB r.2.off, vB r.2.isCut, vI r.2.lasts, vI r.2.counts, v0x4_, .map (some m0x5_), .map (some m0x6_), vU64 r.2.rcnt, vS r.2.rtag, vU32 r.2.rboots] 72), rowT 9 1 v0x4_ eS r.2.blocks, mapC m0x5_ vU32 vS r.2.pend, mapC m0x6_ vU32 vB r.2.bad]) := by
  unfold f_device_Device_Write at h
  refine Con.enter Try.func13 rfl rfl ?_
  refine SX.sr ?_
  refine SL.asg ⟨rfl, rfl, rfl, rfl⟩ rfl ?_
  refine SL.nx ?_
  refine SX.seq ?_
  refine SX.block ?_
  refine SX.sr ?_
  refine SL.mv ⟨rfl, rfl, rfl, rfl⟩ rfl ?_
  refine SL.eqPN ⟨rfl, rfl, rfl, rfl⟩ ty25 rfl rfl ?_
  refine SL.asg ⟨rfl, rfl, rfl, rfl⟩ rfl ?_
  refine SL.nx ?_
  refine SX.condF rfl ?_
  refine SX.sr ?_
  obtain ⟨y1, hy1, h⟩ := bnd h
  obtain ⟨x1, ex1, h⟩ := retE h
  refine SL.mv ⟨rfl, rfl, rfl, rfl⟩ rfl ?_
  refine SL.mv ⟨rfl, rfl, rfl, rfl⟩ rfl ?_
  refine SL.call (vs := [_, _]) (Hin := [_, _, _, _]) (Hr := _) ⟨rfl, rfl, rfl, rfl⟩ rfl ⟨rfl, rfl, trivial⟩ cal32 rfl rfl (c_device_Device_has hy1) ?_
  rintro _ _ ⟨rfl, rfl⟩
  refine ⟨trivial, ?_⟩
  refine SL.not ⟨rfl, rfl, rfl, rfl⟩ rfl ?_
  refine SL.mv ⟨rfl, rfl, rfl, rfl⟩ rfl ?_
  refine SL.or (c := !decide ((p2.length : Int) = 256)) 16 4 20 rfl (fun hb k => ?_) (fun hb k => ?_) ?_
  · skip
    refine SL.pass rfl rfl rfl ?_
    refine SL.pass rfl rfl rfl ?_
    refine SL.pass rfl rfl rfl ?_
    refine SL.pk ⟨rfl, rfl, rfl, rfl⟩ rfl rfl ?_
    exact k.mono (by repeat' (first | exact trivial | refine And.intro rfl ?_))
  · skip
    refine SL.mv ⟨rfl, rfl, rfl, rfl⟩ rfl ?_
    refine SL.lenS ⟨rfl, rfl, rfl, rfl⟩ ty9 rfl ?_
    refine SL.bin ⟨rfl, rfl, rfl, rfl⟩ rfl rfl Bin.neI ?_
    refine SL.pk ⟨rfl, rfl, rfl, rfl⟩ rfl rfl ?_
    exact k.mono (by repeat' (first | exact trivial | refine And.intro rfl ?_))
  refine SL.asgX (u := vB x1) ⟨rfl, rfl, rfl, rfl⟩ rfl (congrArg vB ex1) ?_
  refine SL.nx ?_
  refine SX.cond rfl (fun hc2 => ?_) (fun hc2 => ?_)
  · skip
    replace h := cT hc2 h
    refine SX.sr ?_
    refine SL.asg ⟨rfl, rfl, rfl, rfl⟩ rfl ?_
    refine SL.nx ?_
    refine SX.ret ?_
    refine SQ.blkR ?_
    refine SQ.thnR ?_
    obtain rfl := Option.some.inj h
    exact SQ.fret (res1 rfl rfl) (ret_of (M := [_, _, _, _]) ⟨rfl, rfl⟩ fun _ hw => HpOk.pick (H := [_, _, _, _]) hw [0, 1, 2, 3] 4 rfl)
  · skip
    replace h := cF hc2 h
    refine SX.skip ?_
    refine SQ.blk ?_
    refine SQ.thn ?_
    refine SX.sr ?_
    obtain ⟨y2, hy2, h⟩ := bnd h
    refine SL.mv ⟨rfl, rfl, rfl, rfl⟩ rfl ?_
    refine SL.nchk ⟨rfl, rfl, rfl, rfl⟩ rfl ?_
    refine SL.fa ⟨rfl, rfl, rfl, rfl⟩ rfl fo72_0 ?_
    refine SL.call (vs := [_]) (Hin := [_, _, _, _]) (Hr := _) ⟨rfl, rfl, rfl, rfl⟩ rfl ⟨rfl, trivial⟩ cal33 rfl rfl (c_device_power_spend hy2) ?_
    rintro _ _ ⟨rfl, rfl⟩
    refine ⟨trivial, ?_⟩
    refine SL.asg ⟨rfl, rfl, rfl, rfl⟩ rfl ?_
    refine SL.nx ?_
    refine SX.meetD (α := List (UInt32 × List UInt8)) (fun x => f_device_Device_Write_j1 y2 x = some r) (fun x => [(0, vP b0_ 0), (7, vI y2.1)]) (fun x => own b0_ (.cells #[vB y2.2.off, vB y2.2.isCut, vI y2.2.lasts, vI y2.2.counts, v0x4_, .map (some m0x5_), .map (some m0x6_), vU64 y2.2.rcnt, vS y2.2.rtag, vU32 y2.2.rboots] 72) :: rowT 9 1 v0x4_ eS y2.2.blocks :: mapC m0x5_ vU32 vS x :: mapC m0x6_ vU32 vB y2.2.bad :: H) ?_ (fun l1 D h => ?_)
    · skip
      refine SX.sr ?_
      refine SL.mv ⟨rfl, rfl, rfl, rfl⟩ rfl ?_
      refine SL.bin ⟨rfl, rfl, rfl, rfl⟩ rfl rfl Bin.eqI ?_
      refine SL.nx ?_
      refine SX.cond rfl (fun hc3 => ?_) (fun hc3 => ?_)
      · skip
        replace h := cT hc3 h
        refine SX.region ?_
        obtain ⟨l2, hl2, h⟩ := bnd h
        refine SL.mv ⟨rfl, rfl, rfl, rfl⟩ rfl ?_
        refine SL.nchk ⟨rfl, rfl, rfl, rfl⟩ rfl ?_
        refine SL.fa ⟨rfl, rfl, rfl, rfl⟩ rfl fo72_2 ?_
        refine SL.ld ⟨rfl, rfl, rfl, rfl⟩ sc67 rfl (cell_own 0 rfl rfl) ?_
        refine SL.mv ⟨rfl, rfl, rfl, rfl⟩ rfl ?_
        refine SL.mv ⟨rfl, rfl, rfl, rfl⟩ rfl ?_
        refine SL.mupN 2 hl2 (MapE.u32S ty22) ⟨rfl, rfl, rfl⟩ ty67 rfl rfl rfl rfl trivial ?_
        refine SL.nil ?_
        exact SQ.midD l2 h (by repeat' (first | exact trivial | refine And.intro rfl ?_)) (fun _ hw => HpOk.pick (H := [_, _, _, _]) hw [0, 1, 2, 3] 4 rfl)
      · skip
        replace h := cF hc3 h
        refine SX.skip ?_
        exact SQ.midD y2.2.pend h (by repeat' (first | exact trivial | refine And.intro rfl ?_)) (fun _ hw => HpOk.pick (H := [_, _, _, _]) hw [0, 1, 2, 3] 4 rfl)
    · skip
      unfold f_device_Device_Write_j1 at h
      refine SX.re [(0, vP b0_ 0), (7, vI y2.1)] (own b0_ (.cells #[vB y2.2.off, vB y2.2.isCut, vI y2.2.lasts, vI y2.2.counts, v0x4_, .map (some m0x5_), .map (some m0x6_), vU64 y2.2.rcnt, vS y2.2.rtag, vU32 y2.2.rboots] 72) :: rowT 9 1 v0x4_ eS y2.2.blocks :: mapC m0x5_ vU32 vS l1 :: mapC m0x6_ vU32 vB y2.2.bad :: H) ?_ (by repeat' (first | exact trivial | refine And.intro rfl ?_))
      refine SX.sr ?_
      refine SL.mv ⟨rfl, rfl, rfl, rfl⟩ rfl ?_
      refine SL.asg ⟨rfl, rfl, rfl, rfl⟩ rfl ?_
      refine SL.nx ?_
      refine SX.ret ?_
      obtain rfl := Option.some.inj h
      exact SQ.fret (res1 rfl rfl) (ret_of (M := [_, _, _, _]) ⟨rfl, rfl⟩ fun _ hw => HpOk.pick (H := [_, _, _, _]) hw [0, 1, 2, 3] 4 rfl)

def f_device_Device_Cut (p0 : DevA) (p1 : Int) : Option DevA :=
  (f_device_power_set p0 p1).bind fun y1 =>
  some y1
set_option maxRecDepth 100000 in
theorem c_device_Device_Cut {b0_ : Nat} {v0x4_ : Value} {m0x5_ : Nat} {m0x6_ : Nat} {p0 : DevA} {p1 : Int} {r : DevA} (h : f_device_Device_Cut p0 p1 = some r)  : Con Try.prog K w0 15 [vP b0_ 0, vI p1] [own b0_ (.cells #[vB p0.off, vB p0.isCut, vI p0.lasts, vI p0.counts, v0x4_, .map (some m0x5_), .map (some m0x6_), vU64 p0.rcnt, vS p0.rtag, vU32 p0.rboots] 72), rowT 9 1 v0x4_ eS p0.blocks, mapC m0x5_ vU32 vS p0.pend, mapC m0x6_ vU32 vB p0.bad] H (fun u M => u = .tuple #[] ∧ M = [own b0_ (.cells #[vB r.off, vB r.isCut, vI r.lasts, vI r.counts, v0x4_, .map (some m0x5_), .map (some m0x6_), vU64 r.rcnt, vS r.rtag, vU32 r.rboots] 72), rowT 9 1 v0x4_ eS r.blocks, mapC m0x5_ vU32 vS r.pend, mapC m0x6_ vU32 vB r.bad]) := by
  unfold f_device_Device_Cut at h
  refine Con.enter Try.func15 rfl rfl ?_
  refine SX.sr ?_
  refine SL.mv ⟨rfl, rfl, rfl, rfl⟩ rfl ?_
  refine SL.nePN ⟨rfl, rfl, rfl, rfl⟩ ty25 rfl rfl ?_
  refine SL.nx ?_
  refine SX.condT rfl ?_
  refine SX.region ?_
  obtain ⟨y1, hy1, h⟩ := bnd h
  refine SL.mv ⟨rfl, rfl, rfl, rfl⟩ rfl ?_
  refine SL.nchk ⟨rfl, rfl, rfl, rfl⟩ rfl ?_
  refine SL.fa ⟨rfl, rfl, rfl, rfl⟩ rfl fo72_0 ?_
  refine SL.mv ⟨rfl, rfl, rfl, rfl⟩ rfl ?_
  refine SL.call (vs := [_, _]) (Hin := [_, _, _, _]) (Hr := _) ⟨rfl, rfl, rfl, rfl⟩ rfl ⟨rfl, rfl, trivial⟩ cal35 rfl rfl (c_device_power_set hy1) ?_
  rintro _ _ ⟨rfl, rfl⟩
  refine ⟨trivial, ?_⟩
  refine SL.nil ?_
  obtain rfl := Option.some.inj h
  exact SQ.fend (res0 rfl) (ret_of (M := [_, _, _, _]) ⟨rfl, rfl⟩ fun _ hw => HpOk.pick (H := [_, _, _, _]) hw [0, 1, 2, 3] 4 rfl)

def f_device_Device_Put (p0 : DevA) (p1 : UInt32) (p2 : List UInt8) : Option (Int × DevA) :=
  (f_device_Device_has p0 p1).bind fun y1 =>
  ret ((!y1) || (!decide ((p2.length : Int) = 256))) fun x1 =>
  cond x1
  (
    some (2, p0))
  (
    (nthI p0.blocks (p1.toNat : Int)).bind fun x2 =>
    (setI p0.blocks (p1.toNat : Int) p2).bind fun l1 =>
    some (0, { p0 with blocks := l1, pend := mdel p0.pend p1 }))
set_option maxRecDepth 100000 in
theorem c_device_Device_Put {b0_ : Nat} {v0x4_ : Value} {m0x5_ : Nat} {m0x6_ : Nat} {p0 : DevA} {p1 : UInt32} {p2 : List UInt8} {r : Int × DevA} (h : f_device_Device_Put p0 p1 p2 = some r)  : Con Try.prog K w0 18 [vP b0_ 0, vU32 p1, vS p2] [own b0_ (.cells #[vB p0.off, vB p0.isCut, vI p0.lasts, vI p0.counts, v0x4_, .map (some m0x5_), .map (some m0x6_), vU64 p0.rcnt, vS p0.rtag, vU32 p0.rboots] 72), rowT 9 1 v0x4_ eS p0.blocks, mapC m0x5_ vU32 vS p0.pend, mapC m0x6_ vU32 vB p0.bad] H (fun u M => u = vI r.1 ∧ M = [own b0_ (.cells #[vB r.2.off, vB r.2.isCut, vI r.2.lasts, vI r.2.counts, v0x4_, .map (some m0x5_), .map (some m0x6_), vU64 r.2.rcnt, vS r.2.rtag, vU32 r.2.rboots] 72), rowT 9 1 v0x4_ eS r.2.blocks, mapC m0x5_ vU32 vS r.2.pend, mapC m0x6_ vU32 vB r.2.bad]) := by
  unfold f_device_Device_Put at h
  refine Con.enter Try.func18 rfl rfl ?_
  refine SX.sr ?_
  refine SL.asg ⟨rfl, rfl, rfl, rfl⟩ rfl ?_
  refine SL.nx ?_
  refine SX.seq ?_
  refine SX.block ?_
  refine SX.sr ?_
  refine SL.mv ⟨rfl, rfl, rfl, rfl⟩ rfl ?_
  refine SL.eqPN ⟨rfl, rfl, rfl, rfl⟩ ty25 rfl rfl ?_
  refine SL.asg ⟨rfl, rfl, rfl, rfl⟩ rfl ?_
  refine SL.nx ?_
  refine SX.condF rfl ?_
  refine SX.sr ?_
  obtain ⟨y1, hy1, h⟩ := bnd h
  obtain ⟨x1, ex1, h⟩ := retE h
  refine SL.mv ⟨rfl, rfl, rfl, rfl⟩ rfl ?_
  refine SL.mv ⟨rfl, rfl, rfl, rfl⟩ rfl ?_
  refine SL.call (vs := [_, _]) (Hin := [_, _, _, _]) (Hr := _) ⟨rfl, rfl, rfl, rfl⟩ rfl ⟨rfl, rfl, trivial⟩ cal32 rfl rfl (c_device_Device_has hy1) ?_
  rintro _ _ ⟨rfl, rfl⟩
  refine ⟨trivial, ?_⟩
  refine SL.not ⟨rfl, rfl, rfl, rfl⟩ rfl ?_
  refine SL.mv ⟨rfl, rfl, rfl, rfl⟩ rfl ?_
  refine SL.or (c := !decide ((p2.length : Int) = 256)) 15 4 19 rfl (fun hb k => ?_) (fun hb k => ?_) ?_
  · skip
    refine SL.pass rfl rfl rfl ?_
    refine SL.pass rfl rfl rfl ?_
    refine SL.pass rfl rfl rfl ?_
    refine SL.pk ⟨rfl, rfl, rfl, rfl⟩ rfl rfl ?_
    exact k.mono (by repeat' (first | exact trivial | refine And.intro rfl ?_))
  · skip
    refine SL.mv ⟨rfl, rfl, rfl, rfl⟩ rfl ?_
    refine SL.lenS ⟨rfl, rfl, rfl, rfl⟩ ty9 rfl ?_
    refine SL.bin ⟨rfl, rfl, rfl, rfl⟩ rfl rfl Bin.neI ?_
    refine SL.pk ⟨rfl, rfl, rfl, rfl⟩ rfl rfl ?_
    exact k.mono (by repeat' (first | exact trivial | refine And.intro rfl ?_))
  refine SL.asgX (u := vB x1) ⟨rfl, rfl, rfl, rfl⟩ rfl (congrArg vB ex1) ?_
  refine SL.nx ?_
  refine SX.cond rfl (fun hc2 => ?_) (fun hc2 => ?_)
  · skip
    replace h := cT hc2 h
    refine SX.sr ?_
    refine SL.asg ⟨rfl, rfl, rfl, rfl⟩ rfl ?_
    refine SL.nx ?_
    refine SX.ret ?_
    refine SQ.blkR ?_
    refine SQ.thnR ?_
    obtain rfl := Option.some.inj h
    exact SQ.fret (res1 rfl rfl) (ret_of (M := [_, _, _, _]) ⟨rfl, rfl⟩ fun _ hw => HpOk.pick (H := [_, _, _, _]) hw [0, 1, 2, 3] 4 rfl)
  · skip
    replace h := cF hc2 h
    refine SX.skip ?_
    refine SQ.blk ?_
    refine SQ.thn ?_
    refine SX.sr ?_
    obtain ⟨x2, hx2, h⟩ := bnd h
    obtain ⟨l1, hl1, h⟩ := bnd h
    refine SL.mv ⟨rfl, rfl, rfl, rfl⟩ rfl ?_
    refine SL.nchk ⟨rfl, rfl, rfl, rfl⟩ rfl ?_
    refine SL.fa ⟨rfl, rfl, rfl, rfl⟩ rfl fo72_1 ?_
    refine SL.ld ⟨rfl, rfl, rfl, rfl⟩ sc41 rfl (cell_own 0 rfl rfl) ?_
    refine SL.mv ⟨rfl, rfl, rfl, rfl⟩ rfl ?_
    refine SL.mv ⟨rfl, rfl, rfl, rfl⟩ rfl ?_
    refine SL.iaT 1 hx2 ⟨rfl, rfl, rfl, rfl⟩ ty41 sz9 rfl rfl rfl fun g1 m1 cp1 hv1 => ?_
    refine SL.stTN (sz := 1) (enc := eS) 1 hl1 (fun _ => rfl) ⟨rfl, rfl, rfl⟩ rfl rfl rfl rfl hv1 sz9 (by simp [Value.oneCell']) trivial ?_
    refine SL.nx ?_
    refine SX.sr ?_
    refine SL.mv ⟨rfl, rfl, rfl, rfl⟩ rfl ?_
    refine SL.nchk ⟨rfl, rfl, rfl, rfl⟩ rfl ?_
    refine SL.fa ⟨rfl, rfl, rfl, rfl⟩ rfl fo72_2 ?_
    refine SL.ld ⟨rfl, rfl, rfl, rfl⟩ sc67 rfl (cell_own 0 rfl rfl) ?_
    refine SL.mv ⟨rfl, rfl, rfl, rfl⟩ rfl ?_
    refine SL.mdl 2 (MapE.u32S ty22) rfl rfl rfl rfl ty67 rfl rfl rfl trivial ?_
    refine SL.nx ?_
    refine SX.sr ?_
    refine SL.asg ⟨rfl, rfl, rfl, rfl⟩ rfl ?_
    refine SL.nx ?_
    refine SX.ret ?_
    obtain rfl := Option.some.inj h
    exact SQ.fret (res1 rfl rfl) (ret_of (M := [_, _, _, _]) ⟨rfl, rfl⟩ fun _ hw => HpOk.pick (H := [_, _, _, _]) hw [0, 1, 2, 3] 4 rfl)

def f_device_Device_Bad (p0 : DevA) (p1 : UInt32) (p2 : Bool) : Option (Int × DevA) :=
  (f_device_Device_has p0 p1).bind fun y1 =>
  ret (!y1) fun x1 =>
  cond x1
  (
    some (2, p0))
  (
    (mputI p0.bad p1 p2).bind fun l1 =>
    some (0, { p0 with bad := l1 }))
set_option maxRecDepth 100000 in
theorem c_device_Device_Bad {b0_ : Nat} {v0x4_ : Value} {m0x5_ : Nat} {m0x6_ : Nat} {p0 : DevA} {p1 : UInt32} {p2 : Bool} {r : Int × DevA} (h : f_device_Device_Bad p0 p1 p2 = some r)  : Con Try.prog K w0 19 [vP b0_ 0, vU32 p1, vB p2] [own b0_ (.cells #[vB p0.off, vB p0.isCut, vI p0.lasts, vI p0.counts, v0x4_, .map (some m0x5_), .map (some m0x6_), vU64 p0.rcnt, vS p0.rtag, vU32 p0.rboots] 72), rowT 9 1 v0x4_ eS p0.blocks, mapC m0x5_ vU32 vS p0.pend, mapC m0x6_ vU32 vB p0.bad] H (fun u M => u = vI r.1 ∧ M = [own b0_ (.cells #[vB r.2.off, vB r.2.isCut, vI r.2.lasts, vI r.2.counts, v0x4_, .map (some m0x5_), .map (some m0x6_), vU64 r.2.rcnt, vS r.2.rtag, vU32 r.2.rboots] 72), rowT 9 1 v0x4_ eS r.2.blocks, mapC m0x5_ vU32 vS r.2.pend, mapC m0x6_ vU32 vB r.2.bad]) := by
  unfold f_device_Device_Bad at h
  refine Con.enter Try.func19 rfl rfl ?_
  refine SX.sr ?_
  refine SL.asg ⟨rfl, rfl, rfl, rfl⟩ rfl ?_
  refine SL.nx ?_
  refine SX.seq ?_
  refine SX.block ?_
  refine SX.sr ?_
  refine SL.mv ⟨rfl, rfl, rfl, rfl⟩ rfl ?_
  refine SL.eqPN ⟨rfl, rfl, rfl, rfl⟩ ty25 rfl rfl ?_
  refine SL.asg ⟨rfl, rfl, rfl, rfl⟩ rfl ?_
  refine SL.nx ?_
  refine SX.condF rfl ?_
  refine SX.sr ?_
  obtain ⟨y1, hy1, h⟩ := bnd h
  obtain ⟨x1, ex1, h⟩ := retE h
  refine SL.mv ⟨rfl, rfl, rfl, rfl⟩ rfl ?_
  refine SL.mv ⟨rfl, rfl, rfl, rfl⟩ rfl ?_
  refine SL.call (vs := [_, _]) (Hin := [_, _, _, _]) (Hr := _) ⟨rfl, rfl, rfl, rfl⟩ rfl ⟨rfl, rfl, trivial⟩ cal32 rfl rfl (c_device_Device_has hy1) ?_
  rintro _ _ ⟨rfl, rfl⟩
  refine ⟨trivial, ?_⟩
  refine SL.not ⟨rfl, rfl, rfl, rfl⟩ rfl ?_
  refine SL.asgX (u := vB x1) ⟨rfl, rfl, rfl, rfl⟩ rfl (congrArg vB ex1) ?_
  refine SL.nx ?_
  refine SX.cond rfl (fun hc2 => ?_) (fun hc2 => ?_)
  · skip
    replace h := cT hc2 h
    refine SX.sr ?_
    refine SL.asg ⟨rfl, rfl, rfl, rfl⟩ rfl ?_
    refine SL.nx ?_
    refine SX.ret ?_
    refine SQ.blkR ?_
    refine SQ.thnR ?_
    obtain rfl := Option.some.inj h
    exact SQ.fret (res1 rfl rfl) (ret_of (M := [_, _, _, _]) ⟨rfl, rfl⟩ fun _ hw => HpOk.pick (H := [_, _, _, _]) hw [0, 1, 2, 3] 4 rfl)
  · skip
    replace h := cF hc2 h
    refine SX.skip ?_
    refine SQ.blk ?_
    refine SQ.thn ?_
    refine SX.sr ?_
    obtain ⟨l1, hl1, h⟩ := bnd h
    refine SL.mv ⟨rfl, rfl, rfl, rfl⟩ rfl ?_
    refine SL.nchk ⟨rfl, rfl, rfl, rfl⟩ rfl ?_
    refine SL.fa ⟨rfl, rfl, rfl, rfl⟩ rfl fo72_3 ?_
    refine SL.ld ⟨rfl, rfl, rfl, rfl⟩ sc68 rfl (cell_own 0 rfl rfl) ?_
    refine SL.mv ⟨rfl, rfl, rfl, rfl⟩ rfl ?_
    refine SL.mv ⟨rfl, rfl, rfl, rfl⟩ rfl ?_
    refine SL.mupN 3 hl1 (MapE.u32B ty22) ⟨rfl, rfl, rfl⟩ ty68 rfl rfl rfl rfl trivial ?_
    refine SL.nx ?_
    refine SX.sr ?_
    refine SL.asg ⟨rfl, rfl, rfl, rfl⟩ rfl ?_
    refine SL.nx ?_
    refine SX.ret ?_
    obtain rfl := Option.some.inj h
    exact SQ.fret (res1 rfl rfl) (ret_of (M := [_, _, _, _]) ⟨rfl, rfl⟩ fun _ hw => HpOk.pick (H := [_, _, _, _]) hw [0, 1, 2, 3] 4 rfl)

def f_device_Device_Start (p0 : DevA) : Option (UInt32 × Int × DevA) :=
  ret (decide (p0.rboots = 4294967295)) fun x1 =>
  cond x1
  (
    some (0, 72, p0))
  (
    (f_device_power_spend p0).bind fun y1 =>
    cond (!decide (y1.1 = 0))
    (
      some (0, y1.1, y1.2))
    (
      ret (y1.2.rboots + 1) fun x2 =>
      some (x2, 0, { y1.2 with rboots := y1.2.rboots + 1 })))
set_option maxRecDepth 100000 in
theorem c_device_Device_Start {b0_ : Nat} {v0x4_ : Value} {m0x5_ : Nat} {m0x6_ : Nat} {p0 : DevA} {r : UInt32 × Int × DevA} (h : f_device_Device_Start p0 = some r)  : Con Try.prog K w0 21 [vP b0_ 0] [own b0_ (.cells #[vB p0.off, vB p0.isCut, vI p0.lasts, vI p0.counts, v0x4_, .map (some m0x5_), .map (some m0x6_), vU64 p0.rcnt, vS p0.rtag, vU32 p0.rboots] 72), rowT 9 1 v0x4_ eS p0.blocks, mapC m0x5_ vU32 vS p0.pend, mapC m0x6_ vU32 vB p0.bad] H (fun u M => u = .tuple #[vU32 r.1, vI r.2.1] ∧ M = [own b0_ (.cells #[vB r.2.2.off, vB r.2.2.isCut, vI r.2.2.lasts, vI r.2.2.counts, v0x4_, .map (some m0x5_), .map (some m0x6_), vU64 r.2.2.rcnt, vS r.2.2.rtag, vU32 r.2.2.rboots] 72), rowT 9 1 v0x4_ eS r.2.2.blocks, mapC m0x5_ vU32 vS r.2.2.pend, mapC m0x6_ vU32 vB r.2.2.bad]) := by
  unfold f_device_Device_Start at h
  refine Con.enter Try.func21 rfl rfl ?_
  refine SX.sr ?_
  refine SL.asg ⟨rfl, rfl, rfl, rfl⟩ rfl ?_
  refine SL.asg ⟨rfl, rfl, rfl, rfl⟩ rfl ?_
  refine SL.nx ?_
  refine SX.seq ?_
  refine SX.block ?_
  refine SX.sr ?_
  refine SL.mv ⟨rfl, rfl, rfl, rfl⟩ rfl ?_
  refine SL.eqPN ⟨rfl, rfl, rfl, rfl⟩ ty25 rfl rfl ?_
  refine SL.asg ⟨rfl, rfl, rfl, rfl⟩ rfl ?_
  refine SL.nx ?_
  refine SX.condF rfl ?_
  refine SX.sr ?_
  obtain ⟨x1, ex1, h⟩ := retE h
  refine SL.mv ⟨rfl, rfl, rfl, rfl⟩ rfl ?_
  refine SL.nchk ⟨rfl, rfl, rfl, rfl⟩ rfl ?_
  refine SL.fa ⟨rfl, rfl, rfl, rfl⟩ rfl fo72_4 ?_
  refine SL.fa ⟨rfl, rfl, rfl, rfl⟩ rfl fo52_2 ?_
  refine SL.ld ⟨rfl, rfl, rfl, rfl⟩ sc22 rfl (cell_own 0 rfl rfl) ?_
  refine SL.bin ⟨rfl, rfl, rfl, rfl⟩ rfl rfl (Bin.eq32 (b := 4294967295)) ?_
  refine SL.asgX (u := vB x1) ⟨rfl, rfl, rfl, rfl⟩ rfl (congrArg vB ex1) ?_
  refine SL.nx ?_
  refine SX.cond rfl (fun hc2 => ?_) (fun hc2 => ?_)
  · skip
    replace h := cT hc2 h
    refine SX.sr ?_
    refine SL.asg ⟨rfl, rfl, rfl, rfl⟩ rfl ?_
    refine SL.asg ⟨rfl, rfl, rfl, rfl⟩ rfl ?_
    refine SL.nx ?_
    refine SX.ret ?_
    refine SQ.blkR ?_
    refine SQ.thnR ?_
    obtain rfl := Option.some.inj h
    exact SQ.fret (res2 rfl rfl rfl) (ret_of (M := [_, _, _, _]) ⟨rfl, rfl⟩ fun _ hw => HpOk.pick (H := [_, _, _, _]) hw [0, 1, 2, 3] 4 rfl)
  · skip
    replace h := cF hc2 h
    refine SX.skip ?_
    refine SQ.blk ?_
    refine SQ.thn ?_
    refine SX.seq ?_
    refine SX.sr ?_
    obtain ⟨y1, hy1, h⟩ := bnd h
    refine SL.mv ⟨rfl, rfl, rfl, rfl⟩ rfl ?_
    refine SL.nchk ⟨rfl, rfl, rfl, rfl⟩ rfl ?_
    refine SL.fa ⟨rfl, rfl, rfl, rfl⟩ rfl fo72_0 ?_
    refine SL.call (vs := [_]) (Hin := [_, _, _, _]) (Hr := _) ⟨rfl, rfl, rfl, rfl⟩ rfl ⟨rfl, trivial⟩ cal33 rfl rfl (c_device_power_spend hy1) ?_
    rintro _ _ ⟨rfl, rfl⟩
    refine ⟨trivial, ?_⟩
    refine SL.asg ⟨rfl, rfl, rfl, rfl⟩ rfl ?_
    refine SL.nx ?_
    refine SX.sr ?_
    refine SL.mv ⟨rfl, rfl, rfl, rfl⟩ rfl ?_
    refine SL.bin ⟨rfl, rfl, rfl, rfl⟩ rfl rfl Bin.neI ?_
    refine SL.nx ?_
    refine SX.cond rfl (fun hc3 => ?_) (fun hc3 => ?_)
    · skip
      replace h := cT hc3 h
      refine SX.sr ?_
      refine SL.mv ⟨rfl, rfl, rfl, rfl⟩ rfl ?_
      refine SL.asg ⟨rfl, rfl, rfl, rfl⟩ rfl ?_
      refine SL.asg ⟨rfl, rfl, rfl, rfl⟩ rfl ?_
      refine SL.nx ?_
      refine SX.ret ?_
      refine SQ.thnR ?_
      obtain rfl := Option.some.inj h
      exact SQ.fret (res2 rfl rfl rfl) (ret_of (M := [_, _, _, _]) ⟨rfl, rfl⟩ fun _ hw => HpOk.pick (H := [_, _, _, _]) hw [0, 1, 2, 3] 4 rfl)
    · skip
      replace h := cF hc3 h
      refine SX.skip ?_
      refine SQ.thn ?_
      refine SX.sr ?_
      refine SL.mv ⟨rfl, rfl, rfl, rfl⟩ rfl ?_
      refine SL.nchk ⟨rfl, rfl, rfl, rfl⟩ rfl ?_
      refine SL.fa ⟨rfl, rfl, rfl, rfl⟩ rfl fo72_4 ?_
      refine SL.fa ⟨rfl, rfl, rfl, rfl⟩ rfl fo52_2 ?_
      refine SL.ld ⟨rfl, rfl, rfl, rfl⟩ sc22 rfl (cell_own 0 rfl rfl) ?_
      refine SL.bin ⟨rfl, rfl, rfl, rfl⟩ rfl rfl (Bin.add32 (b := 1)) ?_
      refine SL.nchk ⟨rfl, rfl, rfl, rfl⟩ rfl ?_
      refine SL.fa ⟨rfl, rfl, rfl, rfl⟩ rfl fo72_4 ?_
      refine SL.fa ⟨rfl, rfl, rfl, rfl⟩ rfl fo52_2 ?_
      refine SL.st 0 ⟨rfl, rfl, rfl⟩ rfl rfl rfl sz22 rfl rfl rfl trivial ?_
      refine SL.nx ?_
      refine SX.sr ?_
      obtain ⟨x2, ex2, h⟩ := retE h
      refine SL.mv ⟨rfl, rfl, rfl, rfl⟩ rfl ?_
      refine SL.nchk ⟨rfl, rfl, rfl, rfl⟩ rfl ?_
      refine SL.fa ⟨rfl, rfl, rfl, rfl⟩ rfl fo72_4 ?_
      refine SL.fa ⟨rfl, rfl, rfl, rfl⟩ rfl fo52_2 ?_
      refine SL.ld ⟨rfl, rfl, rfl, rfl⟩ sc22 rfl (cell_own 0 rfl rfl) ?_
      refine SL.asgX (u := vU32 x2) ⟨rfl, rfl, rfl, rfl⟩ rfl (congrArg vU32 ex2) ?_
      refine SL.asg ⟨rfl, rfl, rfl, rfl⟩ rfl ?_
      refine SL.nx ?_
      refine SX.ret ?_
      obtain rfl := Option.some.inj h
      exact SQ.fret (res2 rfl rfl rfl) (ret_of (M := [_, _, _, _]) ⟨rfl, rfl⟩ fun _ hw => HpOk.pick (H := [_, _, _, _]) hw [0, 1, 2, 3] 4 rfl)

def f_device_Device_Advance_j1 (y1 : Int × DevA) (y2 : UInt64) (y3 : List UInt8) : Option (Int × DevA) :=
  some (y1.1, { y1.2 with rcnt := y2, rtag := y3 })
def f_device_Device_Advance (p0 : DevA) (p1 : List UInt8) : Option (Int × DevA) :=
  ret (!decide ((p1.length : Int) = 32)) fun x1 =>
  cond x1
  (
    some (2, p0))
  (
    ret (decide (p0.rcnt = 18446744073709551615)) fun x2 =>
    cond x2
    (
      some (72, p0))
    (
      (f_device_power_spend p0).bind fun y1 =>
      cond (decide (y1.1 = 0))
      (
        f_device_Device_Advance_j1 y1 (y1.2.rcnt + 1) p1)
      (
        f_device_Device_Advance_j1 y1 y1.2.rcnt y1.2.rtag)))
set_option maxRecDepth 100000 in
theorem c_device_Device_Advance {b0_ : Nat} {v0x4_ : Value} {m0x5_ : Nat} {m0x6_ : Nat} {p0 : DevA} {p1 : List UInt8} {r : Int × DevA} (h : f_device_Device_Advance p0 p1 = some r)  : Con Try.prog K w0 22 [vP b0_ 0, vS p1] [own b0_ (.cells #[vB p0.off, vB p0.isCut, vI p0.lasts, vI p0.counts, v0x4_, .map (some m0x5_), .map (some m0x6_), vU64 p0.rcnt, vS p0.rtag, vU32 p0.rboots] 72), rowT 9 1 v0x4_ eS p0.blocks, mapC m0x5_ vU32 vS p0.pend, mapC m0x6_ vU32 vB p0.bad] H (fun u M => u = vI r.1 ∧ M = [own b0_ (.cells #[vB r.2.off, vB r.2.isCut, vI r.2.lasts, vI r.2.counts, v0x4_, .map (some m0x5_), .map (some m0x6_), vU64 r.2.rcnt, vS r.2.rtag, vU32 r.2.rboots] 72), rowT 9 1 v0x4_ eS r.2.blocks, mapC m0x5_ vU32 vS r.2.pend, mapC m0x6_ vU32 vB r.2.bad]) := by
  unfold f_device_Device_Advance at h
  refine Con.enter Try.func22 rfl rfl ?_
  refine SX.sr ?_
  refine SL.asg ⟨rfl, rfl, rfl, rfl⟩ rfl ?_
  refine SL.nx ?_
  refine SX.seq ?_
  refine SX.block ?_
  refine SX.sr ?_
  refine SL.mv ⟨rfl, rfl, rfl, rfl⟩ rfl ?_
  refine SL.eqPN ⟨rfl, rfl, rfl, rfl⟩ ty25 rfl rfl ?_
  refine SL.asg ⟨rfl, rfl, rfl, rfl⟩ rfl ?_
  refine SL.nx ?_
  refine SX.condF rfl ?_
  refine SX.sr ?_
  obtain ⟨x1, ex1, h⟩ := retE h
  refine SL.mv ⟨rfl, rfl, rfl, rfl⟩ rfl ?_
  refine SL.lenS ⟨rfl, rfl, rfl, rfl⟩ ty9 rfl ?_
  refine SL.bin ⟨rfl, rfl, rfl, rfl⟩ rfl rfl Bin.neI ?_
  refine SL.asgX (u := vB x1) ⟨rfl, rfl, rfl, rfl⟩ rfl (congrArg vB ex1) ?_
  refine SL.nx ?_
  refine SX.cond rfl (fun hc2 => ?_) (fun hc2 => ?_)
  · skip
    replace h := cT hc2 h
    refine SX.sr ?_
    refine SL.asg ⟨rfl, rfl, rfl, rfl⟩ rfl ?_
    refine SL.nx ?_
    refine SX.ret ?_
    refine SQ.blkR ?_
    refine SQ.thnR ?_
    obtain rfl := Option.some.inj h
    exact SQ.fret (res1 rfl rfl) (ret_of (M := [_, _, _, _]) ⟨rfl, rfl⟩ fun _ hw => HpOk.pick (H := [_, _, _, _]) hw [0, 1, 2, 3] 4 rfl)
  · skip
    replace h := cF hc2 h
    refine SX.sr ?_
    obtain ⟨x2, ex2, h⟩ := retE h
    refine SL.mv ⟨rfl, rfl, rfl, rfl⟩ rfl ?_
    refine SL.nchk ⟨rfl, rfl, rfl, rfl⟩ rfl ?_
    refine SL.fa ⟨rfl, rfl, rfl, rfl⟩ rfl fo72_4 ?_
    refine SL.fa ⟨rfl, rfl, rfl, rfl⟩ rfl fo52_0 ?_
    refine SL.ld ⟨rfl, rfl, rfl, rfl⟩ sc50 rfl (cell_own 0 rfl rfl) ?_
    refine SL.bin ⟨rfl, rfl, rfl, rfl⟩ rfl rfl (Bin.eq64 (b := 18446744073709551615)) ?_
    refine SL.asgX (u := vB x2) ⟨rfl, rfl, rfl, rfl⟩ rfl (congrArg vB ex2) ?_
    refine SL.nx ?_
    refine SX.cond rfl (fun hc3 => ?_) (fun hc3 => ?_)
    · skip
      replace h := cT hc3 h
      refine SX.sr ?_
      refine SL.asg ⟨rfl, rfl, rfl, rfl⟩ rfl ?_
      refine SL.nx ?_
      refine SX.ret ?_
      refine SQ.blkR ?_
      refine SQ.thnR ?_
      obtain rfl := Option.some.inj h
      exact SQ.fret (res1 rfl rfl) (ret_of (M := [_, _, _, _]) ⟨rfl, rfl⟩ fun _ hw => HpOk.pick (H := [_, _, _, _]) hw [0, 1, 2, 3] 4 rfl)
    · skip
      replace h := cF hc3 h
      refine SX.skip ?_
      refine SQ.blk ?_
      refine SQ.thn ?_
      refine SX.sr ?_
      obtain ⟨y1, hy1, h⟩ := bnd h
      refine SL.mv ⟨rfl, rfl, rfl, rfl⟩ rfl ?_
      refine SL.nchk ⟨rfl, rfl, rfl, rfl⟩ rfl ?_
      refine SL.fa ⟨rfl, rfl, rfl, rfl⟩ rfl fo72_0 ?_
      refine SL.call (vs := [_]) (Hin := [_, _, _, _]) (Hr := _) ⟨rfl, rfl, rfl, rfl⟩ rfl ⟨rfl, trivial⟩ cal33 rfl rfl (c_device_power_spend hy1) ?_
      rintro _ _ ⟨rfl, rfl⟩
      refine ⟨trivial, ?_⟩
      refine SL.asg ⟨rfl, rfl, rfl, rfl⟩ rfl ?_
      refine SL.nx ?_
      refine SX.meetD (α := UInt64 × List UInt8) (fun x => f_device_Device_Advance_j1 y1 x.1 x.2 = some r) (fun x => [(0, vP b0_ 0), (5, vI y1.1)]) (fun x => own b0_ (.cells #[vB y1.2.off, vB y1.2.isCut, vI y1.2.lasts, vI y1.2.counts, v0x4_, .map (some m0x5_), .map (some m0x6_), vU64 x.1, vS x.2, vU32 y1.2.rboots] 72) :: rowT 9 1 v0x4_ eS y1.2.blocks :: mapC m0x5_ vU32 vS y1.2.pend :: mapC m0x6_ vU32 vB y1.2.bad :: H) ?_ (fun x D h => ?_)
      · skip
        refine SX.sr ?_
        refine SL.mv ⟨rfl, rfl, rfl, rfl⟩ rfl ?_
        refine SL.bin ⟨rfl, rfl, rfl, rfl⟩ rfl rfl Bin.eqI ?_
        refine SL.nx ?_
        refine SX.cond rfl (fun hc4 => ?_) (fun hc4 => ?_)
        · skip
          replace h := cT hc4 h
          refine SX.sr ?_
          refine SL.mv ⟨rfl, rfl, rfl, rfl⟩ rfl ?_
          refine SL.nchk ⟨rfl, rfl, rfl, rfl⟩ rfl ?_
          refine SL.fa ⟨rfl, rfl, rfl, rfl⟩ rfl fo72_4 ?_
          refine SL.fa ⟨rfl, rfl, rfl, rfl⟩ rfl fo52_0 ?_
          refine SL.ld ⟨rfl, rfl, rfl, rfl⟩ sc50 rfl (cell_own 0 rfl rfl) ?_
          refine SL.bin ⟨rfl, rfl, rfl, rfl⟩ rfl rfl (Bin.add64 (b := 1)) ?_
          refine SL.nchk ⟨rfl, rfl, rfl, rfl⟩ rfl ?_
          refine SL.fa ⟨rfl, rfl, rfl, rfl⟩ rfl fo72_4 ?_
          refine SL.fa ⟨rfl, rfl, rfl, rfl⟩ rfl fo52_0 ?_
          refine SL.st 0 ⟨rfl, rfl, rfl⟩ rfl rfl rfl sz50 rfl rfl rfl trivial ?_
          refine SL.nx ?_
          refine SX.region ?_
          refine SL.mv ⟨rfl, rfl, rfl, rfl⟩ rfl ?_
          refine SL.mv ⟨rfl, rfl, rfl, rfl⟩ rfl ?_
          refine SL.nchk ⟨rfl, rfl, rfl, rfl⟩ rfl ?_
          refine SL.fa ⟨rfl, rfl, rfl, rfl⟩ rfl fo72_4 ?_
          refine SL.fa ⟨rfl, rfl, rfl, rfl⟩ rfl fo52_1 ?_
          refine SL.st 0 ⟨rfl, rfl, rfl⟩ rfl rfl rfl sz9 rfl rfl rfl trivial ?_
          refine SL.nil ?_
          exact SQ.midD (y1.2.rcnt + 1, p1) h (by repeat' (first | exact trivial | refine And.intro rfl ?_)) (fun _ hw => HpOk.pick (H := [_, _, _, _]) hw [0, 1, 2, 3] 4 rfl)
        · skip
          replace h := cF hc4 h
          refine SX.skip ?_
          exact SQ.midD (y1.2.rcnt, y1.2.rtag) h (by repeat' (first | exact trivial | refine And.intro rfl ?_)) (fun _ hw => HpOk.pick (H := [_, _, _, _]) hw [0, 1, 2, 3] 4 rfl)
      · skip
        obtain ⟨y2, y3⟩ := x
        dsimp only at h
        unfold f_device_Device_Advance_j1 at h
        refine SX.re [(0, vP b0_ 0), (5, vI y1.1)] (own b0_ (.cells #[vB y1.2.off, vB y1.2.isCut, vI y1.2.lasts, vI y1.2.counts, v0x4_, .map (some m0x5_), .map (some m0x6_), vU64 y2, vS y3, vU32 y1.2.rboots] 72) :: rowT 9 1 v0x4_ eS y1.2.blocks :: mapC m0x5_ vU32 vS y1.2.pend :: mapC m0x6_ vU32 vB y1.2.bad :: H) ?_ (by repeat' (first | exact trivial | refine And.intro rfl ?_))
        refine SX.sr ?_
        refine SL.mv ⟨rfl, rfl, rfl, rfl⟩ rfl ?_
        refine SL.asg ⟨rfl, rfl, rfl, rfl⟩ rfl ?_
        refine SL.nx ?_
        refine SX.ret ?_
        obtain rfl := Option.some.inj h
        exact SQ.fret (res1 rfl rfl) (ret_of (M := [_, _, _, _]) ⟨rfl, rfl⟩ fun _ hw => HpOk.pick (H := [_, _, _, _]) hw [0, 1, 2, 3] 4 rfl)

def f_device_Device_Register (p0 : DevA) : Option RegA :=
  some (⟨p0.rcnt, p0.rtag, p0.rboots⟩ : RegA)
set_option maxRecDepth 100000 in
theorem c_device_Device_Register {b0_ : Nat} {v0x4_ : Value} {m0x5_ : Nat} {m0x6_ : Nat} {p0 : DevA} {r : RegA} (h : f_device_Device_Register p0 = some r)  : Con Try.prog K w0 23 [vP b0_ 0] [own b0_ (.cells #[vB p0.off, vB p0.isCut, vI p0.lasts, vI p0.counts, v0x4_, .map (some m0x5_), .map (some m0x6_), vU64 p0.rcnt, vS p0.rtag, vU32 p0.rboots] 72), rowT 9 1 v0x4_ eS p0.blocks, mapC m0x5_ vU32 vS p0.pend, mapC m0x6_ vU32 vB p0.bad] H (fun u M => u = .agg (encReg r).toArray ∧ M = [own b0_ (.cells #[vB p0.off, vB p0.isCut, vI p0.lasts, vI p0.counts, v0x4_, .map (some m0x5_), .map (some m0x6_), vU64 p0.rcnt, vS p0.rtag, vU32 p0.rboots] 72), rowT 9 1 v0x4_ eS p0.blocks, mapC m0x5_ vU32 vS p0.pend, mapC m0x6_ vU32 vB p0.bad]) := by
  unfold f_device_Device_Register at h
  refine Con.enter Try.func23 rfl rfl ?_
  refine SX.sr ?_
  refine SL.alloc ⟨rfl, rfl, rfl, rfl⟩ ze52 (fun _ => trivial) fun b1 => ?_
  refine SL.nx ?_
  refine SX.seq ?_
  refine SX.sr ?_
  refine SL.mv ⟨rfl, rfl, rfl, rfl⟩ rfl ?_
  refine SL.eqPN ⟨rfl, rfl, rfl, rfl⟩ ty25 rfl rfl ?_
  refine SL.nx ?_
  refine SX.condF rfl ?_
  refine SX.skip ?_
  refine SQ.thn ?_
  refine SX.sr ?_
  refine SL.mv ⟨rfl, rfl, rfl, rfl⟩ rfl ?_
  refine SL.nchk ⟨rfl, rfl, rfl, rfl⟩ rfl ?_
  refine SL.fa ⟨rfl, rfl, rfl, rfl⟩ rfl fo72_4 ?_
  refine SL.ldA [vU64 p0.rcnt, vS p0.rtag, vU32 p0.rboots] ⟨rfl, rfl, rfl, rfl⟩ ag52 rfl rfl (cells_own 1 rfl (by rintro (_ | (_ | (_ | j))) u hj <;> first | exact hj | exact absurd hj (by simp))) ?_
  refine SL.st 0 ⟨rfl, rfl, rfl⟩ rfl rfl rfl sz52 rfl rfl rfl trivial ?_
  refine SL.nx ?_
  refine SX.ret ?_
  obtain rfl := Option.some.inj h
  exact SQ.fret (resv1 rfl (resv.ag 0 (encReg (⟨p0.rcnt, p0.rtag, p0.rboots⟩ : RegA)) ag52 rfl rfl rfl rfl)) (ret_of (M := [_, _, _, _]) ⟨rfl, rfl⟩ fun _ hw => HpOk.pick (H := [_, _, _, _, _]) hw [1, 2, 3, 4] 5 rfl)

def f_device_Device_Blocks (p0 : DevA) : Option Int :=
  some (p0.blocks.length : Int)
set_option maxRecDepth 100000 in
theorem c_device_Device_Blocks {b0_ : Nat} {v0x4_ : Value} {m0x5_ : Nat} {m0x6_ : Nat} {p0 : DevA} {r : Int} (h : f_device_Device_Blocks p0 = some r)  : Con Try.prog K w0 29 [vP b0_ 0] [own b0_ (.cells #[vB p0.off, vB p0.isCut, vI p0.lasts, vI p0.counts, v0x4_, .map (some m0x5_), .map (some m0x6_), vU64 p0.rcnt, vS p0.rtag, vU32 p0.rboots] 72), rowT 9 1 v0x4_ eS p0.blocks, mapC m0x5_ vU32 vS p0.pend, mapC m0x6_ vU32 vB p0.bad] H (fun u M => u = vI r ∧ M = [own b0_ (.cells #[vB p0.off, vB p0.isCut, vI p0.lasts, vI p0.counts, v0x4_, .map (some m0x5_), .map (some m0x6_), vU64 p0.rcnt, vS p0.rtag, vU32 p0.rboots] 72), rowT 9 1 v0x4_ eS p0.blocks, mapC m0x5_ vU32 vS p0.pend, mapC m0x6_ vU32 vB p0.bad]) := by
  unfold f_device_Device_Blocks at h
  refine Con.enter Try.func29 rfl rfl ?_
  refine SX.sr ?_
  refine SL.asg ⟨rfl, rfl, rfl, rfl⟩ rfl ?_
  refine SL.nx ?_
  refine SX.seq ?_
  refine SX.sr ?_
  refine SL.mv ⟨rfl, rfl, rfl, rfl⟩ rfl ?_
  refine SL.eqPN ⟨rfl, rfl, rfl, rfl⟩ ty25 rfl rfl ?_
  refine SL.nx ?_
  refine SX.condF rfl ?_
  refine SX.skip ?_
  refine SQ.thn ?_
  refine SX.sr ?_
  refine SL.mv ⟨rfl, rfl, rfl, rfl⟩ rfl ?_
  refine SL.nchk ⟨rfl, rfl, rfl, rfl⟩ rfl ?_
  refine SL.fa ⟨rfl, rfl, rfl, rfl⟩ rfl fo72_1 ?_
  refine SL.ld ⟨rfl, rfl, rfl, rfl⟩ sc41 rfl (cell_own 0 rfl rfl) ?_
  refine SL.lenT 1 ⟨rfl, rfl, rfl, rfl⟩ ty41 rfl rfl ?_
  refine SL.asg ⟨rfl, rfl, rfl, rfl⟩ rfl ?_
  refine SL.nx ?_
  refine SX.ret ?_
  obtain rfl := Option.some.inj h
  exact SQ.fret (res1 rfl rfl) (ret_of (M := [_, _, _, _]) ⟨rfl, rfl⟩ fun _ hw => HpOk.pick (H := [_, _, _, _]) hw [0, 1, 2, 3] 4 rfl)

def f_device_Device_Image_j1 (l1 : List (List UInt8)) : Option (List (List UInt8)) :=
  some l1
def f_device_Device_Image_l1_b (p0 : DevA) (nx_f_device_Device_Image_l1 : List (List UInt8) × Int → Option (List (List UInt8))) (l2 : List (List UInt8)) (a1 : Int) : Option (List (List UInt8)) :=
  cond (decide (a1 < (p0.blocks.length : Int)))
  (
    (f_device_Device_holds p0 (toU32 a1)).bind fun y1 =>
    (appL 16 l2 [y1]).bind fun l3 =>
    nx_f_device_Device_Image_l1 (l3, wI (a1 + 1)))
  (
    f_device_Device_Image_j1 l2)
def f_device_Device_Image_l1 (p0 : DevA) : Nat → (List (List UInt8) × Int) → Option (List (List UInt8)) := loopN fun nx x => f_device_Device_Image_l1_b p0 nx x.1 x.2
def f_device_Device_Image (n : Nat) (p0 : DevA) : Option (List (List UInt8)) :=
  f_device_Device_Image_l1 p0 n ([], 0)
set_option maxRecDepth 100000 in
theorem c_device_Device_Image {n : Nat} {b0_ : Nat} {v0x4_ : Value} {m0x5_ : Nat} {m0x6_ : Nat} {p0 : DevA} {r : List (List UInt8)} (h : f_device_Device_Image n p0 = some r)  : Con Try.prog K w0 27 [vP b0_ 0] [own b0_ (.cells #[vB p0.off, vB p0.isCut, vI p0.lasts, vI p0.counts, v0x4_, .map (some m0x5_), .map (some m0x6_), vU64 p0.rcnt, vS p0.rtag, vU32 p0.rboots] 72), rowT 9 1 v0x4_ eS p0.blocks, mapC m0x5_ vU32 vS p0.pend, mapC m0x6_ vU32 vB p0.bad] H (fun u M => ∃ v0 : Value, u = v0 ∧ M = [rowT 9 1 v0 eS r, own b0_ (.cells #[vB p0.off, vB p0.isCut, vI p0.lasts, vI p0.counts, v0x4_, .map (some m0x5_), .map (some m0x6_), vU64 p0.rcnt, vS p0.rtag, vU32 p0.rboots] 72), rowT 9 1 v0x4_ eS p0.blocks, mapC m0x5_ vU32 vS p0.pend, mapC m0x6_ vU32 vB p0.bad]) := by
  unfold f_device_Device_Image at h
  refine Con.enter Try.func27 rfl rfl ?_
  refine SX.sr ?_
  refine SL.nilT 9 1 eS ?_
  refine SL.asg ⟨rfl, rfl, rfl, rfl⟩ rfl ?_
  refine SL.nx ?_
  refine SX.seq ?_
  refine SX.sr ?_
  refine SL.mv ⟨rfl, rfl, rfl, rfl⟩ rfl ?_
  refine SL.eqPN ⟨rfl, rfl, rfl, rfl⟩ ty25 rfl rfl ?_
  refine SL.nx ?_
  refine SX.condF rfl ?_
  refine SX.skip ?_
  refine SQ.thn ?_
  refine SX.sr ?_
  refine SL.nilT 9 1 eS ?_
  refine SL.asg ⟨rfl, rfl, rfl, rfl⟩ rfl ?_
  refine SL.nx ?_
  refine SX.meetD (α := List (List UInt8) × Value) (fun x => f_device_Device_Image_j1 x.1 = some r) (fun x => [(0, vP b0_ 0), (3, x.2)]) (fun x => own b0_ (.cells #[vB p0.off, vB p0.isCut, vI p0.lasts, vI p0.counts, v0x4_, .map (some m0x5_), .map (some m0x6_), vU64 p0.rcnt, vS p0.rtag, vU32 p0.rboots] 72) :: rowT 9 1 v0x4_ eS p0.blocks :: mapC m0x5_ vU32 vS p0.pend :: mapC m0x6_ vU32 vB p0.bad :: rowT 9 1 x.2 eS x.1 :: H) ?_ (fun x D h => ?_)
  · skip
    refine SX.sr ?_
    refine SL.mv ⟨rfl, rfl, rfl, rfl⟩ rfl ?_
    refine SL.nchk ⟨rfl, rfl, rfl, rfl⟩ rfl ?_
    refine SL.fa ⟨rfl, rfl, rfl, rfl⟩ rfl fo72_1 ?_
    refine SL.ld ⟨rfl, rfl, rfl, rfl⟩ sc41 rfl (cell_own 2 rfl rfl) ?_
    refine SL.lenT 3 ⟨rfl, rfl, rfl, rfl⟩ ty41 rfl rfl ?_
    refine SL.mv ⟨rfl, rfl, rfl, rfl⟩ rfl ?_
    refine SL.nx ?_
    refine SX.block ?_
    refine SX.heap (SX.mono (SX.loop (α := Nat × List (List UInt8) × Value × Int) (fun x => f_device_Device_Image_l1 p0 x.1 (x.2.1, x.2.2.2) = some r) (fun x => [(0, vP b0_ 0), (3, x.2.2.1), (11, vI (p0.blocks.length : Int)), (12, vI x.2.2.2)]) (fun x => own b0_ (.cells #[vB p0.off, vB p0.isCut, vI p0.lasts, vI p0.counts, v0x4_, .map (some m0x5_), .map (some m0x6_), vU64 p0.rcnt, vS p0.rtag, vU32 p0.rboots] 72) :: rowT 9 1 v0x4_ eS p0.blocks :: mapC m0x5_ vU32 vS p0.pend :: mapC m0x6_ vU32 vB p0.bad :: rowT 9 1 x.2.2.1 eS x.2.1 :: H) (fun x => x.1) (fun x D h => ?_) (n, [], .slice none 0 0, 0) h) (by repeat' (first | exact trivial | refine And.intro rfl ?_))) (fun _ hw => HpOk.pick (H := [_, _, _, _, _, _]) hw [2, 3, 4, 5, 0] 6 rfl)
    obtain ⟨m1, l2, v2, a1⟩ := x
    dsimp only at h
    rcases m1 with _ | m1
    · cases (show (none : Option _) = some r from h)
    replace h : f_device_Device_Image_l1_b p0 (f_device_Device_Image_l1 p0 m1) l2 a1 = some r := h
    unfold f_device_Device_Image_l1_b at h
    refine SX.re [(0, vP b0_ 0), (3, v2), (11, vI (p0.blocks.length : Int)), (12, vI a1)] (own b0_ (.cells #[vB p0.off, vB p0.isCut, vI p0.lasts, vI p0.counts, v0x4_, .map (some m0x5_), .map (some m0x6_), vU64 p0.rcnt, vS p0.rtag, vU32 p0.rboots] 72) :: rowT 9 1 v0x4_ eS p0.blocks :: mapC m0x5_ vU32 vS p0.pend :: mapC m0x6_ vU32 vB p0.bad :: rowT 9 1 v2 eS l2 :: H) ?_ (by repeat' (first | exact trivial | refine And.intro rfl ?_))
    refine SX.sr ?_
    refine SL.bin ⟨rfl, rfl, rfl, rfl⟩ rfl rfl Bin.ltI ?_
    refine SL.nx ?_
    refine SX.seq ?_
    refine SX.cond rfl (fun hc2 => ?_) (fun hc2 => ?_)
    · skip
      replace h := cT hc2 h
      refine SX.skip ?_
      refine SQ.thn ?_
      refine SX.seq ?_
      refine SX.block ?_
      refine SX.sr ?_
      refine SL.mv ⟨rfl, rfl, rfl, rfl⟩ rfl ?_
      refine SL.asg ⟨rfl, rfl, rfl, rfl⟩ rfl ?_
      refine SL.nx ?_
      refine SX.region ?_
      obtain ⟨y1, hy1, h⟩ := bnd h
      obtain ⟨l3, hl3, h⟩ := bnd h
      refine SL.mv ⟨rfl, rfl, rfl, rfl⟩ rfl ?_
      refine SL.mv ⟨rfl, rfl, rfl, rfl⟩ rfl ?_
      refine SL.mv ⟨rfl, rfl, rfl, rfl⟩ rfl ?_
      refine SL.cv ⟨rfl, rfl, rfl, rfl⟩ rfl (Cv.i_32 ty3 ty22) ?_
      refine SL.call (vs := [_, _]) (Hin := [_, _, _, _]) (Hr := _ :: _) ⟨rfl, rfl, rfl, rfl⟩ rfl ⟨rfl, rfl, trivial⟩ cal36 rfl rfl (c_device_Device_holds hy1) ?_
      rintro _ _ ⟨rfl, rfl⟩
      refine ⟨trivial, ?_⟩
      refine SL.bsl [_] ⟨rfl, rfl, rfl, rfl⟩ ty41 sz9 ze9 ⟨rfl, trivial⟩ rfl rfl rfl (by simp [Value.cells]) rfl rfl (fun _ => trivial) fun b1 => ?_
      refine SL.ownT eS 1 ([y1] : List (List UInt8)) rfl (fun _ => rfl) rfl ?_
      refine SL.appT 5 hl3 (sz := 1) (enc := eS) (fun _ => rfl) ⟨rfl, rfl, rfl, rfl⟩ ty41 sz9 by9 ze9 rfl (by decide) rfl rfl rfl rfl (cells_rowA (sz := 1) (enc := eS) 0 (fun _ => rfl) rfl) (by simp [eS, Value.oneCell']) (fun _ => trivial) fun v3 => ?_
      refine SL.asg ⟨rfl, rfl, rfl, rfl⟩ rfl ?_
      refine SL.nil ?_
      refine SQ.blk ?_
      refine SQ.thn ?_
      refine SX.region ?_
      refine SL.bin ⟨rfl, rfl, rfl, rfl⟩ rfl rfl Bin.addW ?_
      refine SL.mv ⟨rfl, rfl, rfl, rfl⟩ rfl ?_
      refine SL.nil ?_
      exact SQ.again (m1, l3, v3, wI (a1 + 1)) h (Nat.lt_succ_self _) (by repeat' (first | exact trivial | refine And.intro rfl ?_)) (fun _ hw => HpOk.pick (H := [_, _, _, _, _, _]) hw [1, 2, 3, 4, 5] 6 rfl)
    · skip
      replace h := cF hc2 h
      refine SX.exit ?_
      refine SQ.thnE ?_
      refine SQ.lpE ?_
      refine SQ.blkE ?_
      exact SQ.midD (l2, v2) h (by repeat' (first | exact trivial | refine And.intro rfl ?_)) (fun _ hw => HpOk.pick (H := [_, _, _, _, _]) hw [0, 1, 2, 3, 4] 5 rfl)
  · skip
    obtain ⟨l1, v1⟩ := x
    dsimp only at h
    unfold f_device_Device_Image_j1 at h
    refine SX.re [(0, vP b0_ 0), (3, v1)] (own b0_ (.cells #[vB p0.off, vB p0.isCut, vI p0.lasts, vI p0.counts, v0x4_, .map (some m0x5_), .map (some m0x6_), vU64 p0.rcnt, vS p0.rtag, vU32 p0.rboots] 72) :: rowT 9 1 v0x4_ eS p0.blocks :: mapC m0x5_ vU32 vS p0.pend :: mapC m0x6_ vU32 vB p0.bad :: rowT 9 1 v1 eS l1 :: H) ?_ (by repeat' (first | exact trivial | refine And.intro rfl ?_))
    refine SX.sr ?_
    refine SL.mv ⟨rfl, rfl, rfl, rfl⟩ rfl ?_
    refine SL.asg ⟨rfl, rfl, rfl, rfl⟩ rfl ?_
    refine SL.nx ?_
    refine SX.ret ?_
    obtain rfl := Option.some.inj h
    exact SQ.fret (res1 rfl rfl) (ret_of (M := [_, _, _, _, _]) ⟨v1, rfl, rfl⟩ fun _ hw => HpOk.pick (H := [_, _, _, _, _]) hw [4, 0, 1, 2, 3] 5 rfl)


end Go.Proofs.Ytmnmepaopodblaa

/- Plain functions of the references and the laws, printed from the loaded program, and the walks that show that the program computes them. Condition: the plain function yields. -/
namespace Go.Proofs.Ytmnmepaopodblaa
open Go
variable {K : Nat → Prop} {w0 : World} {H : List Chunk}

def f_ref07_Device_is (p0 : RDevA) (p1 : UInt32) : Option Bool :=
  ret (decide (p1.toUInt64 < toU64 (p0.blk.length : Int))) fun x1 =>
  some x1
set_option maxRecDepth 100000 in
theorem c_ref07_Device_is {b0_ : Nat} {v0x0_ : Value} {v0x1_ : Value} {v0x2_ : Value} {p0 : RDevA} {p1 : UInt32} {r : Bool} (h : f_ref07_Device_is p0 p1 = some r)  : Con Try.prog K w0 55 [vP b0_ 0, vU32 p1] [own b0_ (.cells #[v0x0_, v0x1_, v0x2_, vU64 p0.rcnt, vS p0.rtag, vU32 p0.rboots, vI p0.left, vB p0.off] 63), rowT 9 1 v0x0_ eS p0.blk, rowT 9 1 v0x1_ eS p0.pnd, rowT 4 1 v0x2_ eB p0.bads] H (fun u M => u = vB r ∧ M = [own b0_ (.cells #[v0x0_, v0x1_, v0x2_, vU64 p0.rcnt, vS p0.rtag, vU32 p0.rboots, vI p0.left, vB p0.off] 63), rowT 9 1 v0x0_ eS p0.blk, rowT 9 1 v0x1_ eS p0.pnd, rowT 4 1 v0x2_ eB p0.bads]) := by
  unfold f_ref07_Device_is at h
  refine Con.enter Try.func55 rfl rfl ?_
  refine SX.sr ?_
  refine SL.asg ⟨rfl, rfl, rfl, rfl⟩ rfl ?_
  refine SL.nx ?_
  refine SX.sr ?_
  obtain ⟨x1, ex1, h⟩ := retE h
  refine SL.mv ⟨rfl, rfl, rfl, rfl⟩ rfl ?_
  refine SL.cv ⟨rfl, rfl, rfl, rfl⟩ rfl (Cv.u32_64 ty22 ty50) ?_
  refine SL.mv ⟨rfl, rfl, rfl, rfl⟩ rfl ?_
  refine SL.nchk ⟨rfl, rfl, rfl, rfl⟩ rfl ?_
  refine SL.fa ⟨rfl, rfl, rfl, rfl⟩ rfl fo63_0 ?_
  refine SL.ld ⟨rfl, rfl, rfl, rfl⟩ sc41 rfl (cell_own 0 rfl rfl) ?_
  refine SL.lenT 1 ⟨rfl, rfl, rfl, rfl⟩ ty41 rfl rfl ?_
  refine SL.cv ⟨rfl, rfl, rfl, rfl⟩ rfl (Cv.i_64 ty3 ty50) ?_
  refine SL.bin ⟨rfl, rfl, rfl, rfl⟩ rfl rfl Bin.lt64 ?_
  refine SL.asgX (u := vB x1) ⟨rfl, rfl, rfl, rfl⟩ rfl (congrArg vB ex1) ?_
  refine SL.nx ?_
  refine SX.ret ?_
  obtain rfl := Option.some.inj h
  exact SQ.fret (res1 rfl rfl) (ret_of (M := [_, _, _, _]) ⟨rfl, rfl⟩ fun _ hw => HpOk.pick (H := [_, _, _, _]) hw [0, 1, 2, 3] 4 rfl)

def f_ref07_Device_op_j2 (p0 : RDevA) (y1 : Bool) (y2 : Int) : Option (Int × RDevA) :=
  some (0, { p0 with left := y2, off := y1 })
def f_ref07_Device_op_j1 (p0 : RDevA) (y1 : Bool) : Option (Int × RDevA) :=
  cond y1
  (
    some (71, { p0 with off := y1 }))
  (
    cond (decide (0 < p0.left))
    (
      f_ref07_Device_op_j2 p0 y1 (wI (p0.left - 1)))
    (
      f_ref07_Device_op_j2 p0 y1 p0.left))
def f_ref07_Device_op (p0 : RDevA) : Option (Int × RDevA) :=
  cond (decide (p0.left = 0))
  (
    f_ref07_Device_op_j1 p0 true)
  (
    f_ref07_Device_op_j1 p0 p0.off)
set_option maxRecDepth 100000 in
theorem c_ref07_Device_op {b0_ : Nat} {v0x0_ : Value} {v0x1_ : Value} {v0x2_ : Value} {p0 : RDevA} {r : Int × RDevA} (h : f_ref07_Device_op p0 = some r)  : Con Try.prog K w0 56 [vP b0_ 0] [own b0_ (.cells #[v0x0_, v0x1_, v0x2_, vU64 p0.rcnt, vS p0.rtag, vU32 p0.rboots, vI p0.left, vB p0.off] 63), rowT 9 1 v0x0_ eS p0.blk, rowT 9 1 v0x1_ eS p0.pnd, rowT 4 1 v0x2_ eB p0.bads] H (fun u M => u = vI r.1 ∧ M = [own b0_ (.cells #[v0x0_, v0x1_, v0x2_, vU64 r.2.rcnt, vS r.2.rtag, vU32 r.2.rboots, vI r.2.left, vB r.2.off] 63), rowT 9 1 v0x0_ eS r.2.blk, rowT 9 1 v0x1_ eS r.2.pnd, rowT 4 1 v0x2_ eB r.2.bads]) := by
  unfold f_ref07_Device_op at h
  refine Con.enter Try.func56 rfl rfl ?_
  refine SX.sr ?_
  refine SL.asg ⟨rfl, rfl, rfl, rfl⟩ rfl ?_
  refine SL.nx ?_
  refine SX.meetD (α := Bool) (fun x => f_ref07_Device_op_j1 p0 x = some r) (fun x => [(0, vP b0_ 0)]) (fun x => own b0_ (.cells #[v0x0_, v0x1_, v0x2_, vU64 p0.rcnt, vS p0.rtag, vU32 p0.rboots, vI p0.left, vB x] 63) :: rowT 9 1 v0x0_ eS p0.blk :: rowT 9 1 v0x1_ eS p0.pnd :: rowT 4 1 v0x2_ eB p0.bads :: H) ?_ (fun y1 D h => ?_)
  · skip
    refine SX.sr ?_
    refine SL.mv ⟨rfl, rfl, rfl, rfl⟩ rfl ?_
    refine SL.nchk ⟨rfl, rfl, rfl, rfl⟩ rfl ?_
    refine SL.fa ⟨rfl, rfl, rfl, rfl⟩ rfl fo63_4 ?_
    refine SL.ld ⟨rfl, rfl, rfl, rfl⟩ sc3 rfl (cell_own 0 rfl rfl) ?_
    refine SL.bin ⟨rfl, rfl, rfl, rfl⟩ rfl rfl Bin.eqI ?_
    refine SL.nx ?_
    refine SX.cond rfl (fun hc1 => ?_) (fun hc1 => ?_)
    · skip
      replace h := cT hc1 h
      refine SX.region ?_
      refine SL.mv ⟨rfl, rfl, rfl, rfl⟩ rfl ?_
      refine SL.nchk ⟨rfl, rfl, rfl, rfl⟩ rfl ?_
      refine SL.fa ⟨rfl, rfl, rfl, rfl⟩ rfl fo63_5 ?_
      refine SL.st 0 ⟨rfl, rfl, rfl⟩ rfl rfl rfl sz4 rfl rfl rfl trivial ?_
      refine SL.nil ?_
      exact SQ.midD true h (by repeat' (first | exact trivial | refine And.intro rfl ?_)) (fun _ hw => HpOk.pick (H := [_, _, _, _]) hw [0, 1, 2, 3] 4 rfl)
    · skip
      replace h := cF hc1 h
      refine SX.skip ?_
      exact SQ.midD p0.off h (by repeat' (first | exact trivial | refine And.intro rfl ?_)) (fun _ hw => HpOk.pick (H := [_, _, _, _]) hw [0, 1, 2, 3] 4 rfl)
  · skip
    unfold f_ref07_Device_op_j1 at h
    refine SX.re [(0, vP b0_ 0)] (own b0_ (.cells #[v0x0_, v0x1_, v0x2_, vU64 p0.rcnt, vS p0.rtag, vU32 p0.rboots, vI p0.left, vB y1] 63) :: rowT 9 1 v0x0_ eS p0.blk :: rowT 9 1 v0x1_ eS p0.pnd :: rowT 4 1 v0x2_ eB p0.bads :: H) ?_ (by repeat' (first | exact trivial | refine And.intro rfl ?_))
    refine SX.seq ?_
    refine SX.sr ?_
    refine SL.mv ⟨rfl, rfl, rfl, rfl⟩ rfl ?_
    refine SL.nchk ⟨rfl, rfl, rfl, rfl⟩ rfl ?_
    refine SL.fa ⟨rfl, rfl, rfl, rfl⟩ rfl fo63_5 ?_
    refine SL.ld ⟨rfl, rfl, rfl, rfl⟩ sc4 rfl (cell_own 0 rfl rfl) ?_
    refine SL.nx ?_
    refine SX.cond rfl (fun hc2 => ?_) (fun hc2 => ?_)
    · skip
      replace h := cT hc2 h
      refine SX.sr ?_
      refine SL.asg ⟨rfl, rfl, rfl, rfl⟩ rfl ?_
      refine SL.nx ?_
      refine SX.ret ?_
      refine SQ.thnR ?_
      obtain rfl := Option.some.inj h
      exact SQ.fret (res1 rfl rfl) (ret_of (M := [_, _, _, _]) ⟨rfl, rfl⟩ fun _ hw => HpOk.pick (H := [_, _, _, _]) hw [0, 1, 2, 3] 4 rfl)
    · skip
      replace h := cF hc2 h
      refine SX.skip ?_
      refine SQ.thn ?_
      refine SX.meetD (α := Int) (fun x => f_ref07_Device_op_j2 p0 y1 x = some r) (fun x => [(0, vP b0_ 0)]) (fun x => own b0_ (.cells #[v0x0_, v0x1_, v0x2_, vU64 p0.rcnt, vS p0.rtag, vU32 p0.rboots, vI x, vB y1] 63) :: rowT 9 1 v0x0_ eS p0.blk :: rowT 9 1 v0x1_ eS p0.pnd :: rowT 4 1 v0x2_ eB p0.bads :: H) ?_ (fun y2 D h => ?_)
      · skip
        refine SX.sr ?_
        refine SL.mv ⟨rfl, rfl, rfl, rfl⟩ rfl ?_
        refine SL.nchk ⟨rfl, rfl, rfl, rfl⟩ rfl ?_
        refine SL.fa ⟨rfl, rfl, rfl, rfl⟩ rfl fo63_4 ?_
        refine SL.ld ⟨rfl, rfl, rfl, rfl⟩ sc3 rfl (cell_own 0 rfl rfl) ?_
        refine SL.bin ⟨rfl, rfl, rfl, rfl⟩ rfl rfl Bin.gtI ?_
        refine SL.nx ?_
        refine SX.cond rfl (fun hc3 => ?_) (fun hc3 => ?_)
        · skip
          replace h := cT hc3 h
          refine SX.region ?_
          refine SL.mv ⟨rfl, rfl, rfl, rfl⟩ rfl ?_
          refine SL.nchk ⟨rfl, rfl, rfl, rfl⟩ rfl ?_
          refine SL.fa ⟨rfl, rfl, rfl, rfl⟩ rfl fo63_4 ?_
          refine SL.ld ⟨rfl, rfl, rfl, rfl⟩ sc3 rfl (cell_own 0 rfl rfl) ?_
          refine SL.bin ⟨rfl, rfl, rfl, rfl⟩ rfl rfl Bin.subW ?_
          refine SL.nchk ⟨rfl, rfl, rfl, rfl⟩ rfl ?_
          refine SL.fa ⟨rfl, rfl, rfl, rfl⟩ rfl fo63_4 ?_
          refine SL.st 0 ⟨rfl, rfl, rfl⟩ rfl rfl rfl sz3 rfl rfl rfl trivial ?_
          refine SL.nil ?_
          exact SQ.midD (wI (p0.left - 1)) h (by repeat' (first | exact trivial | refine And.intro rfl ?_)) (fun _ hw => HpOk.pick (H := [_, _, _, _]) hw [0, 1, 2, 3] 4 rfl)
        · skip
          replace h := cF hc3 h
          refine SX.skip ?_
          exact SQ.midD p0.left h (by repeat' (first | exact trivial | refine And.intro rfl ?_)) (fun _ hw => HpOk.pick (H := [_, _, _, _]) hw [0, 1, 2, 3] 4 rfl)
      · skip
        unfold f_ref07_Device_op_j2 at h
        refine SX.re [(0, vP b0_ 0)] (own b0_ (.cells #[v0x0_, v0x1_, v0x2_, vU64 p0.rcnt, vS p0.rtag, vU32 p0.rboots, vI y2, vB y1] 63) :: rowT 9 1 v0x0_ eS p0.blk :: rowT 9 1 v0x1_ eS p0.pnd :: rowT 4 1 v0x2_ eB p0.bads :: H) ?_ (by repeat' (first | exact trivial | refine And.intro rfl ?_))
        refine SX.sr ?_
        refine SL.asg ⟨rfl, rfl, rfl, rfl⟩ rfl ?_
        refine SL.nx ?_
        refine SX.ret ?_
        obtain rfl := Option.some.inj h
        exact SQ.fret (res1 rfl rfl) (ret_of (M := [_, _, _, _]) ⟨rfl, rfl⟩ fun _ hw => HpOk.pick (H := [_, _, _, _]) hw [0, 1, 2, 3] 4 rfl)

def f_ref07_New_j1 (y1 : List UInt8) (l1 : List (List UInt8)) (l2 : List (List UInt8)) (l3 : List Bool) : Option (Option RDevA × Int) :=
  some (some ({ blk := l1, pnd := l2, bads := l3, rcnt := 0, rtag := y1, rboots := 0, left := (-1), off := false } : RDevA), 0)
def f_ref07_New_l1_b (p0 : Int) (y1 : List UInt8) (nx_f_ref07_New_l1 : List (List UInt8) × List (List UInt8) × List Bool × Int → Option (Option RDevA × Int)) (l4 : List (List UInt8)) (l5 : List (List UInt8)) (l6 : List Bool) (a1 : Int) : Option (Option RDevA × Int) :=
  cond (decide (a1 < p0))
  (
    (f_ref07_Zeros 256).bind fun y2 =>
    (appL 16 l4 [y2]).bind fun l7 =>
    (appL 16 l5 [[]]).bind fun l8 =>
    (appL 1 l6 [false]).bind fun l9 =>
    ret (wI (a1 + 1)) fun i_1 =>
    nx_f_ref07_New_l1 (l7, l8, l9, i_1))
  (
    f_ref07_New_j1 y1 l4 l5 l6)
def f_ref07_New_l1 (p0 : Int) (y1 : List UInt8) : Nat → (List (List UInt8) × List (List UInt8) × List Bool × Int) → Option (Option RDevA × Int) := loopN fun nx x => f_ref07_New_l1_b p0 y1 nx x.1 x.2.1 x.2.2.1 x.2.2.2
def f_ref07_New (n : Nat) (p0 : Int) : Option (Option RDevA × Int) :=
  cond ((decide (p0 < 4)) || (decide (4096 < p0)))
  (
    some (none, 2))
  (
    (f_ref07_Zeros 32).bind fun y1 =>
    f_ref07_New_l1 p0 y1 n ([], [], [], 0))
set_option maxRecDepth 100000 in
theorem c_ref07_New {n : Nat} {p0 : Int} {r : Option RDevA × Int} (h : f_ref07_New n p0 = some r)  : Con Try.prog K w0 24 [vI p0] [] H (fun u M => (r.1 = none ∧ u = .tuple #[.pointer none, vI r.2] ∧ M = []) ∨ (∃ (d : RDevA) (b : Nat) (v0 : Value) (v1 : Value) (v2 : Value), r.1 = some d ∧ u = .tuple #[vP b 0, vI r.2] ∧ M = [own b (.cells #[v0, v1, v2, vU64 d.rcnt, vS d.rtag, vU32 d.rboots, vI d.left, vB d.off] 63), rowT 9 1 v0 eS d.blk, rowT 9 1 v1 eS d.pnd, rowT 4 1 v2 eB d.bads])) := by
  unfold f_ref07_New at h
  refine Con.enter Try.func24 rfl rfl ?_
  refine SX.sr ?_
  refine SL.asg ⟨rfl, rfl, rfl, rfl⟩ rfl ?_
  refine SL.asg ⟨rfl, rfl, rfl, rfl⟩ rfl ?_
  refine SL.nx ?_
  refine SX.seq ?_
  refine SX.sr ?_
  refine SL.mv ⟨rfl, rfl, rfl, rfl⟩ rfl ?_
  refine SL.bin ⟨rfl, rfl, rfl, rfl⟩ rfl rfl Bin.ltI ?_
  refine SL.mv ⟨rfl, rfl, rfl, rfl⟩ rfl ?_
  refine SL.or (c := decide (4096 < p0)) 8 3 11 rfl (fun hb k => ?_) (fun hb k => ?_) ?_
  · skip
    refine SL.pass rfl rfl rfl ?_
    refine SL.pass rfl rfl rfl ?_
    refine SL.pk ⟨rfl, rfl, rfl, rfl⟩ rfl rfl ?_
    exact k.mono (by repeat' (first | exact trivial | refine And.intro rfl ?_))
  · skip
    refine SL.mv ⟨rfl, rfl, rfl, rfl⟩ rfl ?_
    refine SL.bin ⟨rfl, rfl, rfl, rfl⟩ rfl rfl Bin.gtI ?_
    refine SL.pk ⟨rfl, rfl, rfl, rfl⟩ rfl rfl ?_
    exact k.mono (by repeat' (first | exact trivial | refine And.intro rfl ?_))
  refine SL.nx ?_
  refine SX.cond rfl (fun hc1 => ?_) (fun hc1 => ?_)
  · skip
    replace h := cT hc1 h
    refine SX.sr ?_
    refine SL.asg ⟨rfl, rfl, rfl, rfl⟩ rfl ?_
    refine SL.asg ⟨rfl, rfl, rfl, rfl⟩ rfl ?_
    refine SL.nx ?_
    refine SX.ret ?_
    refine SQ.thnR ?_
    obtain rfl := Option.some.inj h
    exact SQ.fret (res2 rfl rfl rfl) (ret_of (M := []) (.inl ⟨rfl, rfl, rfl⟩) fun _ hw => HpOk.pick (H := []) hw [] 0 rfl)
  · skip
    replace h := cF hc1 h
    refine SX.skip ?_
    refine SQ.thn ?_
    refine SX.sr ?_
    obtain ⟨y1, hy1, h⟩ := bnd h
    refine SL.call (vs := [_]) (Hin := []) (Hr := _) ⟨rfl, rfl, rfl, rfl⟩ rfl ⟨rfl, trivial⟩ cal20 rfl rfl (c_ref07_Zeros hy1) ?_
    rintro _ _ ⟨rfl, rfl⟩
    refine ⟨trivial, ?_⟩
    refine SL.bld [_] ⟨rfl, rfl, rfl, rfl⟩ pl52 pk52 ze52 ⟨rfl, trivial⟩ rfl ?_
    refine SL.bld [_, _] ⟨rfl, rfl, rfl, rfl⟩ pl63 pk63 ze63 ⟨rfl, rfl, trivial⟩ rfl ?_
    refine SL.box ⟨rfl, rfl, rfl, rfl⟩ rfl (fun _ => trivial) fun b1 => ?_
    refine SL.nilT 9 1 eS ?_
    refine SL.nilT 9 1 eS ?_
    refine SL.nilT 4 1 eB ?_
    refine SL.asg ⟨rfl, rfl, rfl, rfl⟩ rfl ?_
    refine SL.nx ?_
    refine SX.meetD (α := List (List UInt8) × Value × List (List UInt8) × Value × List Bool × Value) (fun x => f_ref07_New_j1 y1 x.1 x.2.2.1 x.2.2.2.2.1 = some r) (fun x => [(4, vP b1 0)]) (fun x => own b1 (.cells #[x.2.1, x.2.2.2.1, x.2.2.2.2.2, vU64 0, vS y1, vU32 0, vI (-1), vB false] 63) :: rowT 9 1 x.2.1 eS x.1 :: rowT 9 1 x.2.2.2.1 eS x.2.2.1 :: rowT 4 1 x.2.2.2.2.2 eB x.2.2.2.2.1 :: H) ?_ (fun x D h => ?_)
    · skip
      refine SX.sr ?_
      refine SL.asg ⟨rfl, rfl, rfl, rfl⟩ rfl ?_
      refine SL.nx ?_
      refine SX.block ?_
      refine SX.heap (SX.mono (SX.loop (α := Nat × List (List UInt8) × Value × List (List UInt8) × Value × List Bool × Value × Int) (fun x => f_ref07_New_l1 p0 y1 x.1 (x.2.1, x.2.2.2.1, x.2.2.2.2.2.1, x.2.2.2.2.2.2.2) = some r) (fun x => [(0, vI p0), (4, vP b1 0), (5, vI x.2.2.2.2.2.2.2)]) (fun x => own b1 (.cells #[x.2.2.1, x.2.2.2.2.1, x.2.2.2.2.2.2.1, vU64 0, vS y1, vU32 0, vI (-1), vB false] 63) :: rowT 9 1 x.2.2.1 eS x.2.1 :: rowT 9 1 x.2.2.2.2.1 eS x.2.2.2.1 :: rowT 4 1 x.2.2.2.2.2.2.1 eB x.2.2.2.2.2.1 :: H) (fun x => x.1) (fun x D h => ?_) (n, [], .slice none 0 0, [], .slice none 0 0, [], .slice none 0 0, 0) h) (by repeat' (first | exact trivial | refine And.intro rfl ?_))) (fun _ hw => HpOk.pick (H := [_, _, _, _]) hw [3, 2, 1, 0] 4 rfl)
      obtain ⟨m1, l4, v4, l5, v5, l6, v6, a1⟩ := x
      dsimp only at h
      rcases m1 with _ | m1
      · cases (show (none : Option _) = some r from h)
      replace h : f_ref07_New_l1_b p0 y1 (f_ref07_New_l1 p0 y1 m1) l4 l5 l6 a1 = some r := h
      unfold f_ref07_New_l1_b at h
      refine SX.re [(0, vI p0), (4, vP b1 0), (5, vI a1)] (own b1 (.cells #[v4, v5, v6, vU64 0, vS y1, vU32 0, vI (-1), vB false] 63) :: rowT 9 1 v4 eS l4 :: rowT 9 1 v5 eS l5 :: rowT 4 1 v6 eB l6 :: H) ?_ (by repeat' (first | exact trivial | refine And.intro rfl ?_))
      refine SX.seq ?_
      refine SX.sr ?_
      refine SL.mv ⟨rfl, rfl, rfl, rfl⟩ rfl ?_
      refine SL.mv ⟨rfl, rfl, rfl, rfl⟩ rfl ?_
      refine SL.bin ⟨rfl, rfl, rfl, rfl⟩ rfl rfl Bin.ltI ?_
      refine SL.nx ?_
      refine SX.cond rfl (fun hc2 => ?_) (fun hc2 => ?_)
      · skip
        replace h := cT hc2 h
        refine SX.skip ?_
        refine SQ.thn ?_
        refine SX.seq ?_
        refine SX.block ?_
        refine SX.seq ?_
        obtain ⟨y2, hy2, h⟩ := bnd h
        obtain ⟨l7, hl7, h⟩ := bnd h
        refine SX.drawI mix [0] (Pl.ap [(true, 0), (true, 1), (true, 2), (true, 3), (true, 4), (false, 5), (false, 6), (false, 7), (true, 8), (true, 9)] (.last 10 .nil)) (by kernel_rfl) ?_
        refine SL.mv ⟨rfl, rfl, rfl, rfl⟩ rfl ?_
        refine SL.mv ⟨rfl, rfl, rfl, rfl⟩ rfl ?_
        refine SL.nchk ⟨rfl, rfl, rfl, rfl⟩ rfl ?_
        refine SL.fa ⟨rfl, rfl, rfl, rfl⟩ rfl fo63_0 ?_
        refine SL.ld ⟨rfl, rfl, rfl, rfl⟩ sc41 rfl (cell_own 0 rfl rfl) ?_
        refine SL.call (vs := [_]) (Hin := []) (Hr := _ :: _ :: _ :: _ :: _) ⟨rfl, rfl, rfl, rfl⟩ rfl ⟨rfl, trivial⟩ cal20 rfl rfl (c_ref07_Zeros hy2) ?_
        rintro _ _ ⟨rfl, rfl⟩
        refine ⟨⟨⟨0, rfl⟩, trivial⟩, ?_⟩
        refine SL.bsl [_] ⟨rfl, rfl, rfl, rfl⟩ ty41 sz9 ze9 ⟨rfl, trivial⟩ rfl rfl rfl (by simp [Value.cells]) rfl rfl (fun _ => ⟨⟨1, rfl⟩, trivial⟩) fun b2 => ?_
        refine SL.ownT eS 1 ([y2] : List (List UInt8)) rfl (fun _ => rfl) rfl ?_
        refine SL.appT 2 hl7 (sz := 1) (enc := eS) (fun _ => rfl) ⟨rfl, rfl, rfl, rfl⟩ ty41 sz9 by9 ze9 rfl (by decide) rfl rfl rfl rfl (cells_rowA (sz := 1) (enc := eS) 0 (fun _ => rfl) rfl) (by simp [eS, Value.oneCell']) (fun _ => ⟨⟨1, rfl⟩, trivial⟩) fun v7 => ?_
        refine SL.nchk ⟨rfl, rfl, rfl, rfl⟩ rfl ?_
        refine SL.fa ⟨rfl, rfl, rfl, rfl⟩ rfl fo63_0 ?_
        refine SL.last ?_
        refine SL.rowV 2 rfl fun hv1 ho1 => ?_
        refine SL.stR 1 ⟨rfl, rfl, rfl⟩ rfl rfl rfl sz41 hv1 ho1 rfl trivial ?_
        refine SL.nx ?_
        refine SX.sr ?_
        obtain ⟨l8, hl8, h⟩ := bnd h
        refine SL.mv ⟨rfl, rfl, rfl, rfl⟩ rfl ?_
        refine SL.mv ⟨rfl, rfl, rfl, rfl⟩ rfl ?_
        refine SL.nchk ⟨rfl, rfl, rfl, rfl⟩ rfl ?_
        refine SL.fa ⟨rfl, rfl, rfl, rfl⟩ rfl fo63_1 ?_
        refine SL.ld ⟨rfl, rfl, rfl, rfl⟩ sc41 rfl (cell_own 1 rfl rfl) ?_
        refine SL.bsl [_] ⟨rfl, rfl, rfl, rfl⟩ ty41 sz9 ze9 ⟨rfl, trivial⟩ rfl rfl rfl (by simp [Value.cells]) rfl rfl (fun _ => trivial) fun b3 => ?_
        refine SL.ownT eS 1 ([[]] : List (List UInt8)) rfl (fun _ => rfl) rfl ?_
        refine SL.appT 4 hl8 (sz := 1) (enc := eS) (fun _ => rfl) ⟨rfl, rfl, rfl, rfl⟩ ty41 sz9 by9 ze9 rfl (by decide) rfl rfl rfl rfl (cells_rowA (sz := 1) (enc := eS) 0 (fun _ => rfl) rfl) (by simp [eS, Value.oneCell']) (fun _ => trivial) fun v8 => ?_
        refine SL.nchk ⟨rfl, rfl, rfl, rfl⟩ rfl ?_
        refine SL.fa ⟨rfl, rfl, rfl, rfl⟩ rfl fo63_1 ?_
        refine SL.rowV 4 rfl fun hv2 ho2 => ?_
        refine SL.stR 2 ⟨rfl, rfl, rfl⟩ rfl rfl rfl sz41 hv2 ho2 rfl trivial ?_
        refine SL.nx ?_
        refine SX.region ?_
        obtain ⟨l9, hl9, h⟩ := bnd h
        refine SL.mv ⟨rfl, rfl, rfl, rfl⟩ rfl ?_
        refine SL.mv ⟨rfl, rfl, rfl, rfl⟩ rfl ?_
        refine SL.nchk ⟨rfl, rfl, rfl, rfl⟩ rfl ?_
        refine SL.fa ⟨rfl, rfl, rfl, rfl⟩ rfl fo63_2 ?_
        refine SL.ld ⟨rfl, rfl, rfl, rfl⟩ sc61 rfl (cell_own 2 rfl rfl) ?_
        refine SL.bsl [_] ⟨rfl, rfl, rfl, rfl⟩ ty61 sz4 ze4 ⟨rfl, trivial⟩ rfl rfl rfl (by simp [Value.cells]) rfl rfl (fun _ => trivial) fun b4 => ?_
        refine SL.ownT eB 1 ([false] : List Bool) rfl (fun _ => rfl) rfl ?_
        refine SL.appT 6 hl9 (sz := 1) (enc := eB) (fun _ => rfl) ⟨rfl, rfl, rfl, rfl⟩ ty61 sz4 by4 ze4 rfl (by decide) rfl rfl rfl rfl (cells_rowA (sz := 1) (enc := eB) 0 (fun _ => rfl) rfl) (by simp [eB, Value.oneCell']) (fun _ => trivial) fun v9 => ?_
        refine SL.nchk ⟨rfl, rfl, rfl, rfl⟩ rfl ?_
        refine SL.fa ⟨rfl, rfl, rfl, rfl⟩ rfl fo63_2 ?_
        refine SL.rowV 6 rfl fun hv3 ho3 => ?_
        refine SL.stR 3 ⟨rfl, rfl, rfl⟩ rfl rfl rfl sz61 hv3 ho3 rfl trivial ?_
        refine SL.nil ?_
        refine SQ.blk ?_
        refine SQ.thn ?_
        refine SX.region ?_
        obtain ⟨i_1, ei_1, h⟩ := retE h
        refine SL.mv ⟨rfl, rfl, rfl, rfl⟩ rfl ?_
        refine SL.bin ⟨rfl, rfl, rfl, rfl⟩ rfl rfl Bin.addW ?_
        refine SL.asgX (u := vI i_1) ⟨rfl, rfl, rfl, rfl⟩ rfl (congrArg vI ei_1) ?_
        refine SL.nil ?_
        exact SQ.again (m1, l7, v7, l8, v8, l9, v9, i_1) h (Nat.lt_succ_self _) (by repeat' (first | exact trivial | refine And.intro rfl ?_)) (fun _ hw => HpOk.pick (H := [_, _, _, _, _, _, _]) hw [3, 4, 5, 6] 7 rfl)
      · skip
        replace h := cF hc2 h
        refine SX.exit ?_
        refine SQ.thnE ?_
        refine SQ.lpE ?_
        refine SQ.blkE ?_
        exact SQ.midD (l4, v4, l5, v5, l6, v6) h (by repeat' (first | exact trivial | refine And.intro rfl ?_)) (fun _ hw => HpOk.pick (H := [_, _, _, _]) hw [0, 1, 2, 3] 4 rfl)
    · skip
      obtain ⟨l1, v1, l2, v2, l3, v3⟩ := x
      dsimp only at h
      unfold f_ref07_New_j1 at h
      refine SX.re [(4, vP b1 0)] (own b1 (.cells #[v1, v2, v3, vU64 0, vS y1, vU32 0, vI (-1), vB false] 63) :: rowT 9 1 v1 eS l1 :: rowT 9 1 v2 eS l2 :: rowT 4 1 v3 eB l3 :: H) ?_ (by repeat' (first | exact trivial | refine And.intro rfl ?_))
      refine SX.sr ?_
      refine SL.mv ⟨rfl, rfl, rfl, rfl⟩ rfl ?_
      refine SL.asg ⟨rfl, rfl, rfl, rfl⟩ rfl ?_
      refine SL.asg ⟨rfl, rfl, rfl, rfl⟩ rfl ?_
      refine SL.nx ?_
      refine SX.ret ?_
      obtain rfl := Option.some.inj h
      exact SQ.fret (res2 rfl rfl rfl) (ret_of (M := [_, _, _, _]) (.inr ⟨_, b1, v1, v2, v3, rfl, rfl, rfl⟩) fun _ hw => HpOk.pick (H := [_, _, _, _]) hw [0, 1, 2, 3] 4 rfl)

def f_ref07_Device_Holds (p0 : RDevA) (p1 : UInt32) : Option (List UInt8) :=
  (nthI p0.pnd (p1.toNat : Int)).bind fun x1 =>
  cond (!decide (x1 = []))
  (
    (nthI p0.pnd (p1.toNat : Int)).bind fun x2 =>
    some x2)
  (
    (nthI p0.blk (p1.toNat : Int)).bind fun x3 =>
    some x3)
set_option maxRecDepth 100000 in
theorem c_ref07_Device_Holds {b0_ : Nat} {v0x0_ : Value} {v0x1_ : Value} {v0x2_ : Value} {p0 : RDevA} {p1 : UInt32} {r : List UInt8} (h : f_ref07_Device_Holds p0 p1 = some r)  : Con Try.prog K w0 46 [vP b0_ 0, vU32 p1] [own b0_ (.cells #[v0x0_, v0x1_, v0x2_, vU64 p0.rcnt, vS p0.rtag, vU32 p0.rboots, vI p0.left, vB p0.off] 63), rowT 9 1 v0x0_ eS p0.blk, rowT 9 1 v0x1_ eS p0.pnd, rowT 4 1 v0x2_ eB p0.bads] H (fun u M => u = vS r ∧ M = [own b0_ (.cells #[v0x0_, v0x1_, v0x2_, vU64 p0.rcnt, vS p0.rtag, vU32 p0.rboots, vI p0.left, vB p0.off] 63), rowT 9 1 v0x0_ eS p0.blk, rowT 9 1 v0x1_ eS p0.pnd, rowT 4 1 v0x2_ eB p0.bads]) := by
  unfold f_ref07_Device_Holds at h
  refine Con.enter Try.func46 rfl rfl ?_
  refine SX.sr ?_
  refine SL.asg ⟨rfl, rfl, rfl, rfl⟩ rfl ?_
  refine SL.nx ?_
  refine SX.seq ?_
  refine SX.sr ?_
  obtain ⟨x1, hx1, h⟩ := bnd h
  refine SL.mv ⟨rfl, rfl, rfl, rfl⟩ rfl ?_
  refine SL.nchk ⟨rfl, rfl, rfl, rfl⟩ rfl ?_
  refine SL.fa ⟨rfl, rfl, rfl, rfl⟩ rfl fo63_1 ?_
  refine SL.ld ⟨rfl, rfl, rfl, rfl⟩ sc41 rfl (cell_own 0 rfl rfl) ?_
  refine SL.mv ⟨rfl, rfl, rfl, rfl⟩ rfl ?_
  refine SL.iaT 2 hx1 ⟨rfl, rfl, rfl, rfl⟩ ty41 sz9 rfl rfl rfl fun g1 m1 cp1 hv1 => ?_
  refine SL.ld ⟨rfl, rfl, rfl, rfl⟩ sc9 rfl (cell_rowT (sz := 1) (enc := eS) 2 0 (fun _ => rfl) rfl hv1 hx1 rfl) ?_
  refine SL.bin ⟨rfl, rfl, rfl, rfl⟩ rfl rfl Bin.neS ?_
  refine SL.nx ?_
  refine SX.cond rfl (fun hc1 => ?_) (fun hc1 => ?_)
  · skip
    replace h := cT hc1 h
    refine SX.sr ?_
    obtain ⟨x2, hx2, h⟩ := bnd h
    refine SL.mv ⟨rfl, rfl, rfl, rfl⟩ rfl ?_
    refine SL.nchk ⟨rfl, rfl, rfl, rfl⟩ rfl ?_
    refine SL.fa ⟨rfl, rfl, rfl, rfl⟩ rfl fo63_1 ?_
    refine SL.ld ⟨rfl, rfl, rfl, rfl⟩ sc41 rfl (cell_own 0 rfl rfl) ?_
    refine SL.mv ⟨rfl, rfl, rfl, rfl⟩ rfl ?_
    refine SL.iaT 2 hx2 ⟨rfl, rfl, rfl, rfl⟩ ty41 sz9 rfl rfl rfl fun g2 m2 cp2 hv2 => ?_
    refine SL.ld ⟨rfl, rfl, rfl, rfl⟩ sc9 rfl (cell_rowT (sz := 1) (enc := eS) 2 0 (fun _ => rfl) rfl hv2 hx2 rfl) ?_
    refine SL.asg ⟨rfl, rfl, rfl, rfl⟩ rfl ?_
    refine SL.nx ?_
    refine SX.ret ?_
    refine SQ.thnR ?_
    obtain rfl := Option.some.inj h
    exact SQ.fret (res1 rfl rfl) (ret_of (M := [_, _, _, _]) ⟨rfl, rfl⟩ fun _ hw => HpOk.pick (H := [_, _, _, _]) hw [0, 1, 2, 3] 4 rfl)
  · skip
    replace h := cF hc1 h
    refine SX.skip ?_
    refine SQ.thn ?_
    refine SX.sr ?_
    obtain ⟨x3, hx3, h⟩ := bnd h
    refine SL.mv ⟨rfl, rfl, rfl, rfl⟩ rfl ?_
    refine SL.nchk ⟨rfl, rfl, rfl, rfl⟩ rfl ?_
    refine SL.fa ⟨rfl, rfl, rfl, rfl⟩ rfl fo63_0 ?_
    refine SL.ld ⟨rfl, rfl, rfl, rfl⟩ sc41 rfl (cell_own 0 rfl rfl) ?_
    refine SL.mv ⟨rfl, rfl, rfl, rfl⟩ rfl ?_
    refine SL.iaT 1 hx3 ⟨rfl, rfl, rfl, rfl⟩ ty41 sz9 rfl rfl rfl fun g3 m3 cp3 hv3 => ?_
    refine SL.ld ⟨rfl, rfl, rfl, rfl⟩ sc9 rfl (cell_rowT (sz := 1) (enc := eS) 1 0 (fun _ => rfl) rfl hv3 hx3 rfl) ?_
    refine SL.asg ⟨rfl, rfl, rfl, rfl⟩ rfl ?_
    refine SL.nx ?_
    refine SX.ret ?_
    obtain rfl := Option.some.inj h
    exact SQ.fret (res1 rfl rfl) (ret_of (M := [_, _, _, _]) ⟨rfl, rfl⟩ fun _ hw => HpOk.pick (H := [_, _, _, _]) hw [0, 1, 2, 3] 4 rfl)

def f_ref07_Device_Write_j1 (y2 : Int × RDevA) (l1 : List (List UInt8)) : Option (Int × RDevA) :=
  some (y2.1, { y2.2 with pnd := l1 })
def f_ref07_Device_Write (p0 : RDevA) (p1 : UInt32) (p2 : List UInt8) : Option (Int × RDevA) :=
  (f_ref07_Device_is p0 p1).bind fun y1 =>
  cond ((!y1) || (!decide ((p2.length : Int) = 256)))
  (
    some (2, p0))
  (
    (f_ref07_Device_op p0).bind fun y2 =>
    cond (decide (y2.1 = 0))
    (
      (nthI y2.2.pnd (p1.toNat : Int)).bind fun x1 =>
      (setI y2.2.pnd (p1.toNat : Int) p2).bind fun l2 =>
      f_ref07_Device_Write_j1 y2 l2)
    (
      f_ref07_Device_Write_j1 y2 y2.2.pnd))
set_option maxRecDepth 100000 in
theorem c_ref07_Device_Write {b0_ : Nat} {v0x0_ : Value} {v0x1_ : Value} {v0x2_ : Value} {p0 : RDevA} {p1 : UInt32} {p2 : List UInt8} {r : Int × RDevA} (h : f_ref07_Device_Write p0 p1 p2 = some r)  : Con Try.prog K w0 37 [vP b0_ 0, vU32 p1, vS p2] [own b0_ (.cells #[v0x0_, v0x1_, v0x2_, vU64 p0.rcnt, vS p0.rtag, vU32 p0.rboots, vI p0.left, vB p0.off] 63), rowT 9 1 v0x0_ eS p0.blk, rowT 9 1 v0x1_ eS p0.pnd, rowT 4 1 v0x2_ eB p0.bads] H (fun u M => u = vI r.1 ∧ M = [own b0_ (.cells #[v0x0_, v0x1_, v0x2_, vU64 r.2.rcnt, vS r.2.rtag, vU32 r.2.rboots, vI r.2.left, vB r.2.off] 63), rowT 9 1 v0x0_ eS r.2.blk, rowT 9 1 v0x1_ eS r.2.pnd, rowT 4 1 v0x2_ eB r.2.bads]) := by
  unfold f_ref07_Device_Write at h
  refine Con.enter Try.func37 rfl rfl ?_
  refine SX.sr ?_
  refine SL.asg ⟨rfl, rfl, rfl, rfl⟩ rfl ?_
  refine SL.nx ?_
  refine SX.seq ?_
  refine SX.sr ?_
  obtain ⟨y1, hy1, h⟩ := bnd h
  refine SL.mv ⟨rfl, rfl, rfl, rfl⟩ rfl ?_
  refine SL.mv ⟨rfl, rfl, rfl, rfl⟩ rfl ?_
  refine SL.call (vs := [_, _]) (Hin := [_, _, _, _]) (Hr := _) ⟨rfl, rfl, rfl, rfl⟩ rfl ⟨rfl, rfl, trivial⟩ cal55 rfl rfl (c_ref07_Device_is hy1) ?_
  rintro _ _ ⟨rfl, rfl⟩
  refine ⟨trivial, ?_⟩
  refine SL.not ⟨rfl, rfl, rfl, rfl⟩ rfl ?_
  refine SL.mv ⟨rfl, rfl, rfl, rfl⟩ rfl ?_
  refine SL.or (c := !decide ((p2.length : Int) = 256)) 12 4 16 rfl (fun hb k => ?_) (fun hb k => ?_) ?_
  · skip
    refine SL.pass rfl rfl rfl ?_
    refine SL.pass rfl rfl rfl ?_
    refine SL.pass rfl rfl rfl ?_
    refine SL.pk ⟨rfl, rfl, rfl, rfl⟩ rfl rfl ?_
    exact k.mono (by repeat' (first | exact trivial | refine And.intro rfl ?_))
  · skip
    refine SL.mv ⟨rfl, rfl, rfl, rfl⟩ rfl ?_
    refine SL.lenS ⟨rfl, rfl, rfl, rfl⟩ ty9 rfl ?_
    refine SL.bin ⟨rfl, rfl, rfl, rfl⟩ rfl rfl Bin.neI ?_
    refine SL.pk ⟨rfl, rfl, rfl, rfl⟩ rfl rfl ?_
    exact k.mono (by repeat' (first | exact trivial | refine And.intro rfl ?_))
  refine SL.nx ?_
  refine SX.cond rfl (fun hc1 => ?_) (fun hc1 => ?_)
  · skip
    replace h := cT hc1 h
    refine SX.sr ?_
    refine SL.asg ⟨rfl, rfl, rfl, rfl⟩ rfl ?_
    refine SL.nx ?_
    refine SX.ret ?_
    refine SQ.thnR ?_
    obtain rfl := Option.some.inj h
    exact SQ.fret (res1 rfl rfl) (ret_of (M := [_, _, _, _]) ⟨rfl, rfl⟩ fun _ hw => HpOk.pick (H := [_, _, _, _]) hw [0, 1, 2, 3] 4 rfl)
  · skip
    replace h := cF hc1 h
    refine SX.skip ?_
    refine SQ.thn ?_
    refine SX.sr ?_
    obtain ⟨y2, hy2, h⟩ := bnd h
    refine SL.mv ⟨rfl, rfl, rfl, rfl⟩ rfl ?_
    refine SL.call (vs := [_]) (Hin := [_, _, _, _]) (Hr := _) ⟨rfl, rfl, rfl, rfl⟩ rfl ⟨rfl, trivial⟩ cal56 rfl rfl (c_ref07_Device_op hy2) ?_
    rintro _ _ ⟨rfl, rfl⟩
    refine ⟨trivial, ?_⟩
    refine SL.asg ⟨rfl, rfl, rfl, rfl⟩ rfl ?_
    refine SL.nx ?_
    refine SX.meetD (α := List (List UInt8)) (fun x => f_ref07_Device_Write_j1 y2 x = some r) (fun x => [(0, vP b0_ 0), (7, vI y2.1)]) (fun x => own b0_ (.cells #[v0x0_, v0x1_, v0x2_, vU64 y2.2.rcnt, vS y2.2.rtag, vU32 y2.2.rboots, vI y2.2.left, vB y2.2.off] 63) :: rowT 9 1 v0x0_ eS y2.2.blk :: rowT 9 1 v0x1_ eS x :: rowT 4 1 v0x2_ eB y2.2.bads :: H) ?_ (fun l1 D h => ?_)
    · skip
      refine SX.sr ?_
      refine SL.mv ⟨rfl, rfl, rfl, rfl⟩ rfl ?_
      refine SL.bin ⟨rfl, rfl, rfl, rfl⟩ rfl rfl Bin.eqI ?_
      refine SL.nx ?_
      refine SX.cond rfl (fun hc2 => ?_) (fun hc2 => ?_)
      · skip
        replace h := cT hc2 h
        refine SX.region ?_
        obtain ⟨x1, hx1, h⟩ := bnd h
        obtain ⟨l2, hl2, h⟩ := bnd h
        refine SL.mv ⟨rfl, rfl, rfl, rfl⟩ rfl ?_
        refine SL.nchk ⟨rfl, rfl, rfl, rfl⟩ rfl ?_
        refine SL.fa ⟨rfl, rfl, rfl, rfl⟩ rfl fo63_1 ?_
        refine SL.ld ⟨rfl, rfl, rfl, rfl⟩ sc41 rfl (cell_own 0 rfl rfl) ?_
        refine SL.mv ⟨rfl, rfl, rfl, rfl⟩ rfl ?_
        refine SL.mv ⟨rfl, rfl, rfl, rfl⟩ rfl ?_
        refine SL.iaT 2 hx1 ⟨rfl, rfl, rfl, rfl⟩ ty41 sz9 rfl rfl rfl fun g1 m1 cp1 hv1 => ?_
        refine SL.stTN (sz := 1) (enc := eS) 2 hl2 (fun _ => rfl) ⟨rfl, rfl, rfl⟩ rfl rfl rfl rfl hv1 sz9 (by simp [Value.oneCell']) trivial ?_
        refine SL.nil ?_
        exact SQ.midD l2 h (by repeat' (first | exact trivial | refine And.intro rfl ?_)) (fun _ hw => HpOk.pick (H := [_, _, _, _]) hw [0, 1, 2, 3] 4 rfl)
      · skip
        replace h := cF hc2 h
        refine SX.skip ?_
        exact SQ.midD y2.2.pnd h (by repeat' (first | exact trivial | refine And.intro rfl ?_)) (fun _ hw => HpOk.pick (H := [_, _, _, _]) hw [0, 1, 2, 3] 4 rfl)
    · skip
      unfold f_ref07_Device_Write_j1 at h
      refine SX.re [(0, vP b0_ 0), (7, vI y2.1)] (own b0_ (.cells #[v0x0_, v0x1_, v0x2_, vU64 y2.2.rcnt, vS y2.2.rtag, vU32 y2.2.rboots, vI y2.2.left, vB y2.2.off] 63) :: rowT 9 1 v0x0_ eS y2.2.blk :: rowT 9 1 v0x1_ eS l1 :: rowT 4 1 v0x2_ eB y2.2.bads :: H) ?_ (by repeat' (first | exact trivial | refine And.intro rfl ?_))
      refine SX.sr ?_
      refine SL.mv ⟨rfl, rfl, rfl, rfl⟩ rfl ?_
      refine SL.asg ⟨rfl, rfl, rfl, rfl⟩ rfl ?_
      refine SL.nx ?_
      refine SX.ret ?_
      obtain rfl := Option.some.inj h
      exact SQ.fret (res1 rfl rfl) (ret_of (M := [_, _, _, _]) ⟨rfl, rfl⟩ fun _ hw => HpOk.pick (H := [_, _, _, _]) hw [0, 1, 2, 3] 4 rfl)

def f_ref07_Device_Flush_j1 (y1 : Int × RDevA) (l1 : List (List UInt8)) (l2 : List (List UInt8)) : Option (Int × RDevA) :=
  some (y1.1, { y1.2 with blk := l1, pnd := l2 })
def f_ref07_Device_Flush_j2 (a1 : Int) (nx_f_ref07_Device_Flush_l1 : List (List UInt8) × List (List UInt8) × Int → Option (Int × RDevA)) (l5 : List (List UInt8)) (l6 : List (List UInt8)) : Option (Int × RDevA) :=
  ret (wI (a1 + 1)) fun i_1 =>
  nx_f_ref07_Device_Flush_l1 (l5, l6, i_1)
def f_ref07_Device_Flush_l1_b (y1 : Int × RDevA) (nx_f_ref07_Device_Flush_l1 : List (List UInt8) × List (List UInt8) × Int → Option (Int × RDevA)) (l3 : List (List UInt8)) (l4 : List (List UInt8)) (a1 : Int) : Option (Int × RDevA) :=
  cond ((decide (a1 < (l3.length : Int))) && (decide (y1.1 = 0)))
  (
    (nthI l4 a1).bind fun x1 =>
    cond (!decide (x1 = []))
    (
      (nthI l4 a1).bind fun x2 =>
      (nthI l3 a1).bind fun x3 =>
      (setI l3 a1 x2).bind fun l7 =>
      (nthI l4 a1).bind fun x4 =>
      (setI l4 a1 []).bind fun l8 =>
      f_ref07_Device_Flush_j2 a1 nx_f_ref07_Device_Flush_l1 l7 l8)
    (
      f_ref07_Device_Flush_j2 a1 nx_f_ref07_Device_Flush_l1 l3 l4))
  (
    f_ref07_Device_Flush_j1 y1 l3 l4)
def f_ref07_Device_Flush_l1 (y1 : Int × RDevA) : Nat → (List (List UInt8) × List (List UInt8) × Int) → Option (Int × RDevA) := loopN fun nx x => f_ref07_Device_Flush_l1_b y1 nx x.1 x.2.1 x.2.2
def f_ref07_Device_Flush (n : Nat) (p0 : RDevA) : Option (Int × RDevA) :=
  (f_ref07_Device_op p0).bind fun y1 =>
  f_ref07_Device_Flush_l1 y1 n (y1.2.blk, y1.2.pnd, 0)
set_option maxRecDepth 100000 in
theorem c_ref07_Device_Flush {n : Nat} {b0_ : Nat} {v0x0_ : Value} {v0x1_ : Value} {v0x2_ : Value} {p0 : RDevA} {r : Int × RDevA} (h : f_ref07_Device_Flush n p0 = some r)  : Con Try.prog K w0 38 [vP b0_ 0] [own b0_ (.cells #[v0x0_, v0x1_, v0x2_, vU64 p0.rcnt, vS p0.rtag, vU32 p0.rboots, vI p0.left, vB p0.off] 63), rowT 9 1 v0x0_ eS p0.blk, rowT 9 1 v0x1_ eS p0.pnd, rowT 4 1 v0x2_ eB p0.bads] H (fun u M => u = vI r.1 ∧ M = [own b0_ (.cells #[v0x0_, v0x1_, v0x2_, vU64 r.2.rcnt, vS r.2.rtag, vU32 r.2.rboots, vI r.2.left, vB r.2.off] 63), rowT 9 1 v0x0_ eS r.2.blk, rowT 9 1 v0x1_ eS r.2.pnd, rowT 4 1 v0x2_ eB r.2.bads]) := by
  unfold f_ref07_Device_Flush at h
  refine Con.enter Try.func38 rfl rfl ?_
  refine SX.sr ?_
  refine SL.asg ⟨rfl, rfl, rfl, rfl⟩ rfl ?_
  refine SL.nx ?_
  refine SX.sr ?_
  obtain ⟨y1, hy1, h⟩ := bnd h
  refine SL.mv ⟨rfl, rfl, rfl, rfl⟩ rfl ?_
  refine SL.call (vs := [_]) (Hin := [_, _, _, _]) (Hr := _) ⟨rfl, rfl, rfl, rfl⟩ rfl ⟨rfl, trivial⟩ cal56 rfl rfl (c_ref07_Device_op hy1) ?_
  rintro _ _ ⟨rfl, rfl⟩
  refine ⟨trivial, ?_⟩
  refine SL.asg ⟨rfl, rfl, rfl, rfl⟩ rfl ?_
  refine SL.nx ?_
  refine SX.meetD (α := List (List UInt8) × List (List UInt8)) (fun x => f_ref07_Device_Flush_j1 y1 x.1 x.2 = some r) (fun x => [(0, vP b0_ 0), (3, vI y1.1)]) (fun x => own b0_ (.cells #[v0x0_, v0x1_, v0x2_, vU64 y1.2.rcnt, vS y1.2.rtag, vU32 y1.2.rboots, vI y1.2.left, vB y1.2.off] 63) :: rowT 9 1 v0x0_ eS x.1 :: rowT 9 1 v0x1_ eS x.2 :: rowT 4 1 v0x2_ eB y1.2.bads :: H) ?_ (fun x D h => ?_)
  · skip
    refine SX.sr ?_
    refine SL.asg ⟨rfl, rfl, rfl, rfl⟩ rfl ?_
    refine SL.nx ?_
    refine SX.block ?_
    refine SX.heap (SX.mono (SX.loop (α := Nat × List (List UInt8) × List (List UInt8) × Int) (fun x => f_ref07_Device_Flush_l1 y1 x.1 (x.2.1, x.2.2.1, x.2.2.2) = some r) (fun x => [(0, vP b0_ 0), (3, vI y1.1), (4, vI x.2.2.2)]) (fun x => own b0_ (.cells #[v0x0_, v0x1_, v0x2_, vU64 y1.2.rcnt, vS y1.2.rtag, vU32 y1.2.rboots, vI y1.2.left, vB y1.2.off] 63) :: rowT 9 1 v0x0_ eS x.2.1 :: rowT 9 1 v0x1_ eS x.2.2.1 :: rowT 4 1 v0x2_ eB y1.2.bads :: H) (fun x => x.1) (fun x D h => ?_) (n, y1.2.blk, y1.2.pnd, 0) h) (by repeat' (first | exact trivial | refine And.intro rfl ?_))) (fun _ hw => HpOk.pick (H := [_, _, _, _]) hw [0, 1, 2, 3] 4 rfl)
    obtain ⟨m1, l3, l4, a1⟩ := x
    dsimp only at h
    rcases m1 with _ | m1
    · cases (show (none : Option _) = some r from h)
    replace h : f_ref07_Device_Flush_l1_b y1 (f_ref07_Device_Flush_l1 y1 m1) l3 l4 a1 = some r := h
    unfold f_ref07_Device_Flush_l1_b at h
    refine SX.re [(0, vP b0_ 0), (3, vI y1.1), (4, vI a1)] (own b0_ (.cells #[v0x0_, v0x1_, v0x2_, vU64 y1.2.rcnt, vS y1.2.rtag, vU32 y1.2.rboots, vI y1.2.left, vB y1.2.off] 63) :: rowT 9 1 v0x0_ eS l3 :: rowT 9 1 v0x1_ eS l4 :: rowT 4 1 v0x2_ eB y1.2.bads :: H) ?_ (by repeat' (first | exact trivial | refine And.intro rfl ?_))
    refine SX.seq ?_
    refine SX.sr ?_
    refine SL.mv ⟨rfl, rfl, rfl, rfl⟩ rfl ?_
    refine SL.mv ⟨rfl, rfl, rfl, rfl⟩ rfl ?_
    refine SL.nchk ⟨rfl, rfl, rfl, rfl⟩ rfl ?_
    refine SL.fa ⟨rfl, rfl, rfl, rfl⟩ rfl fo63_0 ?_
    refine SL.ld ⟨rfl, rfl, rfl, rfl⟩ sc41 rfl (cell_own 0 rfl rfl) ?_
    refine SL.lenT 1 ⟨rfl, rfl, rfl, rfl⟩ ty41 rfl rfl ?_
    refine SL.bin ⟨rfl, rfl, rfl, rfl⟩ rfl rfl Bin.ltI ?_
    refine SL.mv ⟨rfl, rfl, rfl, rfl⟩ rfl ?_
    refine SL.and (c := decide (y1.1 = 0)) 14 3 17 rfl (fun hb k => ?_) (fun hb k => ?_) ?_
    · skip
      refine SL.mv ⟨rfl, rfl, rfl, rfl⟩ rfl ?_
      refine SL.bin ⟨rfl, rfl, rfl, rfl⟩ rfl rfl Bin.eqI ?_
      refine SL.pk ⟨rfl, rfl, rfl, rfl⟩ rfl rfl ?_
      exact k.mono (by repeat' (first | exact trivial | refine And.intro rfl ?_))
    · skip
      refine SL.pass rfl rfl rfl ?_
      refine SL.pass rfl rfl rfl ?_
      refine SL.pk ⟨rfl, rfl, rfl, rfl⟩ rfl rfl ?_
      exact k.mono (by repeat' (first | exact trivial | refine And.intro rfl ?_))
    refine SL.nx ?_
    refine SX.cond rfl (fun hc1 => ?_) (fun hc1 => ?_)
    · skip
      replace h := cT hc1 h
      refine SX.skip ?_
      refine SQ.thn ?_
      refine SX.meetD (α := List (List UInt8) × List (List UInt8)) (fun x => f_ref07_Device_Flush_j2 a1 (f_ref07_Device_Flush_l1 y1 m1) x.1 x.2 = some r) (fun x => [(0, vP b0_ 0), (3, vI y1.1), (4, vI a1)]) (fun x => own b0_ (.cells #[v0x0_, v0x1_, v0x2_, vU64 y1.2.rcnt, vS y1.2.rtag, vU32 y1.2.rboots, vI y1.2.left, vB y1.2.off] 63) :: rowT 9 1 v0x0_ eS x.1 :: rowT 9 1 v0x1_ eS x.2 :: rowT 4 1 v0x2_ eB y1.2.bads :: H) ?_ (fun x D h => ?_)
      · skip
        refine SX.block ?_
        refine SX.sr ?_
        obtain ⟨x1, hx1, h⟩ := bnd h
        refine SL.mv ⟨rfl, rfl, rfl, rfl⟩ rfl ?_
        refine SL.nchk ⟨rfl, rfl, rfl, rfl⟩ rfl ?_
        refine SL.fa ⟨rfl, rfl, rfl, rfl⟩ rfl fo63_1 ?_
        refine SL.ld ⟨rfl, rfl, rfl, rfl⟩ sc41 rfl (cell_own 0 rfl rfl) ?_
        refine SL.mv ⟨rfl, rfl, rfl, rfl⟩ rfl ?_
        refine SL.iaT 2 hx1 ⟨rfl, rfl, rfl, rfl⟩ ty41 sz9 rfl rfl rfl fun g1 m2 cp1 hv1 => ?_
        refine SL.ld ⟨rfl, rfl, rfl, rfl⟩ sc9 rfl (cell_rowT (sz := 1) (enc := eS) 2 0 (fun _ => rfl) rfl hv1 hx1 rfl) ?_
        refine SL.bin ⟨rfl, rfl, rfl, rfl⟩ rfl rfl Bin.neS ?_
        refine SL.nx ?_
        refine SX.cond rfl (fun hc2 => ?_) (fun hc2 => ?_)
        · skip
          replace h := cT hc2 h
          refine SX.seq ?_
          obtain ⟨x2, hx2, h⟩ := bnd h
          obtain ⟨x3, hx3, h⟩ := bnd h
          obtain ⟨l7, hl7, h⟩ := bnd h
          refine SX.drawI mix [0, 2] (Pl.ap [(true, 0), (true, 1), (true, 2), (true, 3), (true, 4), (true, 5), (true, 6), (true, 7), (true, 8), (true, 9), (true, 10), (true, 11), (true, 12)] (.last 13 .nil)) (by kernel_rfl) ?_
          refine SL.mv ⟨rfl, rfl, rfl, rfl⟩ rfl ?_
          refine SL.nchk ⟨rfl, rfl, rfl, rfl⟩ rfl ?_
          refine SL.fa ⟨rfl, rfl, rfl, rfl⟩ rfl fo63_0 ?_
          refine SL.ld ⟨rfl, rfl, rfl, rfl⟩ sc41 rfl (cell_own 0 rfl rfl) ?_
          refine SL.mv ⟨rfl, rfl, rfl, rfl⟩ rfl ?_
          refine SL.mv ⟨rfl, rfl, rfl, rfl⟩ rfl ?_
          refine SL.nchk ⟨rfl, rfl, rfl, rfl⟩ rfl ?_
          refine SL.fa ⟨rfl, rfl, rfl, rfl⟩ rfl fo63_1 ?_
          refine SL.ld ⟨rfl, rfl, rfl, rfl⟩ sc41 rfl (cell_own 0 rfl rfl) ?_
          refine SL.mv ⟨rfl, rfl, rfl, rfl⟩ rfl ?_
          refine SL.iaT 2 hx2 ⟨rfl, rfl, rfl, rfl⟩ ty41 sz9 rfl rfl rfl fun g2 m3 cp2 hv2 => ?_
          refine SL.ld ⟨rfl, rfl, rfl, rfl⟩ sc9 rfl (cell_rowT (sz := 1) (enc := eS) 1 0 (fun _ => rfl) rfl hv2 hx2 rfl) ?_
          refine SL.iaT 1 hx3 ⟨rfl, rfl, rfl, rfl⟩ ty41 sz9 rfl rfl rfl fun g3 m4 cp3 hv3 => ?_
          refine SL.last ?_
          refine SL.stTN (sz := 1) (enc := eS) 1 hl7 (fun _ => rfl) ⟨rfl, rfl, rfl⟩ rfl rfl rfl rfl hv3 sz9 (by simp [Value.oneCell']) trivial ?_
          refine SL.nx ?_
          refine SX.region ?_
          obtain ⟨x4, hx4, h⟩ := bnd h
          obtain ⟨l8, hl8, h⟩ := bnd h
          refine SL.mv ⟨rfl, rfl, rfl, rfl⟩ rfl ?_
          refine SL.nchk ⟨rfl, rfl, rfl, rfl⟩ rfl ?_
          refine SL.fa ⟨rfl, rfl, rfl, rfl⟩ rfl fo63_1 ?_
          refine SL.ld ⟨rfl, rfl, rfl, rfl⟩ sc41 rfl (cell_own 0 rfl rfl) ?_
          refine SL.mv ⟨rfl, rfl, rfl, rfl⟩ rfl ?_
          refine SL.iaT 2 hx4 ⟨rfl, rfl, rfl, rfl⟩ ty41 sz9 rfl rfl rfl fun g4 m5 cp4 hv4 => ?_
          refine SL.stTN (sz := 1) (enc := eS) 2 hl8 (fun _ => rfl) ⟨rfl, rfl, rfl⟩ rfl rfl rfl rfl hv4 sz9 (by simp [Value.oneCell']) trivial ?_
          refine SL.nil ?_
          refine SQ.blk ?_
          exact SQ.midD (l7, l8) h (by repeat' (first | exact trivial | refine And.intro rfl ?_)) (fun _ hw => HpOk.pick (H := [_, _, _, _]) hw [0, 1, 2, 3] 4 rfl)
        · skip
          replace h := cF hc2 h
          refine SX.skip ?_
          refine SQ.blk ?_
          exact SQ.midD (l3, l4) h (by repeat' (first | exact trivial | refine And.intro rfl ?_)) (fun _ hw => HpOk.pick (H := [_, _, _, _]) hw [0, 1, 2, 3] 4 rfl)
      · skip
        obtain ⟨l5, l6⟩ := x
        dsimp only at h
        unfold f_ref07_Device_Flush_j2 at h
        refine SX.re [(0, vP b0_ 0), (3, vI y1.1), (4, vI a1)] (own b0_ (.cells #[v0x0_, v0x1_, v0x2_, vU64 y1.2.rcnt, vS y1.2.rtag, vU32 y1.2.rboots, vI y1.2.left, vB y1.2.off] 63) :: rowT 9 1 v0x0_ eS l5 :: rowT 9 1 v0x1_ eS l6 :: rowT 4 1 v0x2_ eB y1.2.bads :: H) ?_ (by repeat' (first | exact trivial | refine And.intro rfl ?_))
        refine SX.region ?_
        obtain ⟨i_1, ei_1, h⟩ := retE h
        refine SL.mv ⟨rfl, rfl, rfl, rfl⟩ rfl ?_
        refine SL.bin ⟨rfl, rfl, rfl, rfl⟩ rfl rfl Bin.addW ?_
        refine SL.asgX (u := vI i_1) ⟨rfl, rfl, rfl, rfl⟩ rfl (congrArg vI ei_1) ?_
        refine SL.nil ?_
        exact SQ.again (m1, l5, l6, i_1) h (Nat.lt_succ_self _) (by repeat' (first | exact trivial | refine And.intro rfl ?_)) (fun _ hw => HpOk.pick (H := [_, _, _, _]) hw [0, 1, 2, 3] 4 rfl)
    · skip
      replace h := cF hc1 h
      refine SX.exit ?_
      refine SQ.thnE ?_
      refine SQ.lpE ?_
      refine SQ.blkE ?_
      exact SQ.midD (l3, l4) h (by repeat' (first | exact trivial | refine And.intro rfl ?_)) (fun _ hw => HpOk.pick (H := [_, _, _, _]) hw [0, 1, 2, 3] 4 rfl)
  · skip
    obtain ⟨l1, l2⟩ := x
    dsimp only at h
    unfold f_ref07_Device_Flush_j1 at h
    refine SX.re [(0, vP b0_ 0), (3, vI y1.1)] (own b0_ (.cells #[v0x0_, v0x1_, v0x2_, vU64 y1.2.rcnt, vS y1.2.rtag, vU32 y1.2.rboots, vI y1.2.left, vB y1.2.off] 63) :: rowT 9 1 v0x0_ eS l1 :: rowT 9 1 v0x1_ eS l2 :: rowT 4 1 v0x2_ eB y1.2.bads :: H) ?_ (by repeat' (first | exact trivial | refine And.intro rfl ?_))
    refine SX.sr ?_
    refine SL.mv ⟨rfl, rfl, rfl, rfl⟩ rfl ?_
    refine SL.asg ⟨rfl, rfl, rfl, rfl⟩ rfl ?_
    refine SL.nx ?_
    refine SX.ret ?_
    obtain rfl := Option.some.inj h
    exact SQ.fret (res1 rfl rfl) (ret_of (M := [_, _, _, _]) ⟨rfl, rfl⟩ fun _ hw => HpOk.pick (H := [_, _, _, _]) hw [0, 1, 2, 3] 4 rfl)

def f_ref07_Device_Advance_j1 (y1 : Int × RDevA) (y2 : UInt64) (y3 : List UInt8) : Option (Int × RDevA) :=
  some (y1.1, { y1.2 with rcnt := y2, rtag := y3 })
def f_ref07_Device_Advance (p0 : RDevA) (p1 : List UInt8) : Option (Int × RDevA) :=
  cond (!decide ((p1.length : Int) = 32))
  (
    some (2, p0))
  (
    cond (decide (p0.rcnt = 18446744073709551615))
    (
      some (72, p0))
    (
      (f_ref07_Device_op p0).bind fun y1 =>
      cond (decide (y1.1 = 0))
      (
        f_ref07_Device_Advance_j1 y1 (y1.2.rcnt + 1) p1)
      (
        f_ref07_Device_Advance_j1 y1 y1.2.rcnt y1.2.rtag)))
set_option maxRecDepth 100000 in
theorem c_ref07_Device_Advance {b0_ : Nat} {v0x0_ : Value} {v0x1_ : Value} {v0x2_ : Value} {p0 : RDevA} {p1 : List UInt8} {r : Int × RDevA} (h : f_ref07_Device_Advance p0 p1 = some r)  : Con Try.prog K w0 39 [vP b0_ 0, vS p1] [own b0_ (.cells #[v0x0_, v0x1_, v0x2_, vU64 p0.rcnt, vS p0.rtag, vU32 p0.rboots, vI p0.left, vB p0.off] 63), rowT 9 1 v0x0_ eS p0.blk, rowT 9 1 v0x1_ eS p0.pnd, rowT 4 1 v0x2_ eB p0.bads] H (fun u M => u = vI r.1 ∧ M = [own b0_ (.cells #[v0x0_, v0x1_, v0x2_, vU64 r.2.rcnt, vS r.2.rtag, vU32 r.2.rboots, vI r.2.left, vB r.2.off] 63), rowT 9 1 v0x0_ eS r.2.blk, rowT 9 1 v0x1_ eS r.2.pnd, rowT 4 1 v0x2_ eB r.2.bads]) := by
  unfold f_ref07_Device_Advance at h
  refine Con.enter Try.func39 rfl rfl ?_
  refine SX.sr ?_
  refine SL.asg ⟨rfl, rfl, rfl, rfl⟩ rfl ?_
  refine SL.nx ?_
  refine SX.seq ?_
  refine SX.sr ?_
  refine SL.mv ⟨rfl, rfl, rfl, rfl⟩ rfl ?_
  refine SL.lenS ⟨rfl, rfl, rfl, rfl⟩ ty9 rfl ?_
  refine SL.bin ⟨rfl, rfl, rfl, rfl⟩ rfl rfl Bin.neI ?_
  refine SL.nx ?_
  refine SX.cond rfl (fun hc1 => ?_) (fun hc1 => ?_)
  · skip
    replace h := cT hc1 h
    refine SX.sr ?_
    refine SL.asg ⟨rfl, rfl, rfl, rfl⟩ rfl ?_
    refine SL.nx ?_
    refine SX.ret ?_
    refine SQ.thnR ?_
    obtain rfl := Option.some.inj h
    exact SQ.fret (res1 rfl rfl) (ret_of (M := [_, _, _, _]) ⟨rfl, rfl⟩ fun _ hw => HpOk.pick (H := [_, _, _, _]) hw [0, 1, 2, 3] 4 rfl)
  · skip
    replace h := cF hc1 h
    refine SX.skip ?_
    refine SQ.thn ?_
    refine SX.seq ?_
    refine SX.sr ?_
    refine SL.mv ⟨rfl, rfl, rfl, rfl⟩ rfl ?_
    refine SL.nchk ⟨rfl, rfl, rfl, rfl⟩ rfl ?_
    refine SL.fa ⟨rfl, rfl, rfl, rfl⟩ rfl fo63_3 ?_
    refine SL.fa ⟨rfl, rfl, rfl, rfl⟩ rfl fo52_0 ?_
    refine SL.ld ⟨rfl, rfl, rfl, rfl⟩ sc50 rfl (cell_own 0 rfl rfl) ?_
    refine SL.bin ⟨rfl, rfl, rfl, rfl⟩ rfl rfl (Bin.eq64 (b := 18446744073709551615)) ?_
    refine SL.nx ?_
    refine SX.cond rfl (fun hc2 => ?_) (fun hc2 => ?_)
    · skip
      replace h := cT hc2 h
      refine SX.sr ?_
      refine SL.asg ⟨rfl, rfl, rfl, rfl⟩ rfl ?_
      refine SL.nx ?_
      refine SX.ret ?_
      refine SQ.thnR ?_
      obtain rfl := Option.some.inj h
      exact SQ.fret (res1 rfl rfl) (ret_of (M := [_, _, _, _]) ⟨rfl, rfl⟩ fun _ hw => HpOk.pick (H := [_, _, _, _]) hw [0, 1, 2, 3] 4 rfl)
    · skip
      replace h := cF hc2 h
      refine SX.skip ?_
      refine SQ.thn ?_
      refine SX.sr ?_
      obtain ⟨y1, hy1, h⟩ := bnd h
      refine SL.mv ⟨rfl, rfl, rfl, rfl⟩ rfl ?_
      refine SL.call (vs := [_]) (Hin := [_, _, _, _]) (Hr := _) ⟨rfl, rfl, rfl, rfl⟩ rfl ⟨rfl, trivial⟩ cal56 rfl rfl (c_ref07_Device_op hy1) ?_
      rintro _ _ ⟨rfl, rfl⟩
      refine ⟨trivial, ?_⟩
      refine SL.asg ⟨rfl, rfl, rfl, rfl⟩ rfl ?_
      refine SL.nx ?_
      refine SX.meetD (α := UInt64 × List UInt8) (fun x => f_ref07_Device_Advance_j1 y1 x.1 x.2 = some r) (fun x => [(0, vP b0_ 0), (5, vI y1.1)]) (fun x => own b0_ (.cells #[v0x0_, v0x1_, v0x2_, vU64 x.1, vS x.2, vU32 y1.2.rboots, vI y1.2.left, vB y1.2.off] 63) :: rowT 9 1 v0x0_ eS y1.2.blk :: rowT 9 1 v0x1_ eS y1.2.pnd :: rowT 4 1 v0x2_ eB y1.2.bads :: H) ?_ (fun x D h => ?_)
      · skip
        refine SX.sr ?_
        refine SL.mv ⟨rfl, rfl, rfl, rfl⟩ rfl ?_
        refine SL.bin ⟨rfl, rfl, rfl, rfl⟩ rfl rfl Bin.eqI ?_
        refine SL.nx ?_
        refine SX.cond rfl (fun hc3 => ?_) (fun hc3 => ?_)
        · skip
          replace h := cT hc3 h
          refine SX.sr ?_
          refine SL.mv ⟨rfl, rfl, rfl, rfl⟩ rfl ?_
          refine SL.nchk ⟨rfl, rfl, rfl, rfl⟩ rfl ?_
          refine SL.fa ⟨rfl, rfl, rfl, rfl⟩ rfl fo63_3 ?_
          refine SL.fa ⟨rfl, rfl, rfl, rfl⟩ rfl fo52_0 ?_
          refine SL.ld ⟨rfl, rfl, rfl, rfl⟩ sc50 rfl (cell_own 0 rfl rfl) ?_
          refine SL.bin ⟨rfl, rfl, rfl, rfl⟩ rfl rfl (Bin.add64 (b := 1)) ?_
          refine SL.nchk ⟨rfl, rfl, rfl, rfl⟩ rfl ?_
          refine SL.fa ⟨rfl, rfl, rfl, rfl⟩ rfl fo63_3 ?_
          refine SL.fa ⟨rfl, rfl, rfl, rfl⟩ rfl fo52_0 ?_
          refine SL.st 0 ⟨rfl, rfl, rfl⟩ rfl rfl rfl sz50 rfl rfl rfl trivial ?_
          refine SL.nx ?_
          refine SX.region ?_
          refine SL.mv ⟨rfl, rfl, rfl, rfl⟩ rfl ?_
          refine SL.mv ⟨rfl, rfl, rfl, rfl⟩ rfl ?_
          refine SL.nchk ⟨rfl, rfl, rfl, rfl⟩ rfl ?_
          refine SL.fa ⟨rfl, rfl, rfl, rfl⟩ rfl fo63_3 ?_
          refine SL.fa ⟨rfl, rfl, rfl, rfl⟩ rfl fo52_1 ?_
          refine SL.st 0 ⟨rfl, rfl, rfl⟩ rfl rfl rfl sz9 rfl rfl rfl trivial ?_
          refine SL.nil ?_
          exact SQ.midD (y1.2.rcnt + 1, p1) h (by repeat' (first | exact trivial | refine And.intro rfl ?_)) (fun _ hw => HpOk.pick (H := [_, _, _, _]) hw [0, 1, 2, 3] 4 rfl)
        · skip
          replace h := cF hc3 h
          refine SX.skip ?_
          exact SQ.midD (y1.2.rcnt, y1.2.rtag) h (by repeat' (first | exact trivial | refine And.intro rfl ?_)) (fun _ hw => HpOk.pick (H := [_, _, _, _]) hw [0, 1, 2, 3] 4 rfl)
      · skip
        obtain ⟨y2, y3⟩ := x
        dsimp only at h
        unfold f_ref07_Device_Advance_j1 at h
        refine SX.re [(0, vP b0_ 0), (5, vI y1.1)] (own b0_ (.cells #[v0x0_, v0x1_, v0x2_, vU64 y2, vS y3, vU32 y1.2.rboots, vI y1.2.left, vB y1.2.off] 63) :: rowT 9 1 v0x0_ eS y1.2.blk :: rowT 9 1 v0x1_ eS y1.2.pnd :: rowT 4 1 v0x2_ eB y1.2.bads :: H) ?_ (by repeat' (first | exact trivial | refine And.intro rfl ?_))
        refine SX.sr ?_
        refine SL.mv ⟨rfl, rfl, rfl, rfl⟩ rfl ?_
        refine SL.asg ⟨rfl, rfl, rfl, rfl⟩ rfl ?_
        refine SL.nx ?_
        refine SX.ret ?_
        obtain rfl := Option.some.inj h
        exact SQ.fret (res1 rfl rfl) (ret_of (M := [_, _, _, _]) ⟨rfl, rfl⟩ fun _ hw => HpOk.pick (H := [_, _, _, _]) hw [0, 1, 2, 3] 4 rfl)

def f_ref07_Device_Start (p0 : RDevA) : Option (UInt32 × Int × RDevA) :=
  cond (decide (p0.rboots = 4294967295))
  (
    some (0, 72, p0))
  (
    (f_ref07_Device_op p0).bind fun y1 =>
    cond (!decide (y1.1 = 0))
    (
      some (0, y1.1, y1.2))
    (
      ret (y1.2.rboots + 1) fun x1 =>
      some (x1, 0, { y1.2 with rboots := y1.2.rboots + 1 })))
set_option maxRecDepth 100000 in
theorem c_ref07_Device_Start {b0_ : Nat} {v0x0_ : Value} {v0x1_ : Value} {v0x2_ : Value} {p0 : RDevA} {r : UInt32 × Int × RDevA} (h : f_ref07_Device_Start p0 = some r)  : Con Try.prog K w0 40 [vP b0_ 0] [own b0_ (.cells #[v0x0_, v0x1_, v0x2_, vU64 p0.rcnt, vS p0.rtag, vU32 p0.rboots, vI p0.left, vB p0.off] 63), rowT 9 1 v0x0_ eS p0.blk, rowT 9 1 v0x1_ eS p0.pnd, rowT 4 1 v0x2_ eB p0.bads] H (fun u M => u = .tuple #[vU32 r.1, vI r.2.1] ∧ M = [own b0_ (.cells #[v0x0_, v0x1_, v0x2_, vU64 r.2.2.rcnt, vS r.2.2.rtag, vU32 r.2.2.rboots, vI r.2.2.left, vB r.2.2.off] 63), rowT 9 1 v0x0_ eS r.2.2.blk, rowT 9 1 v0x1_ eS r.2.2.pnd, rowT 4 1 v0x2_ eB r.2.2.bads]) := by
  unfold f_ref07_Device_Start at h
  refine Con.enter Try.func40 rfl rfl ?_
  refine SX.sr ?_
  refine SL.asg ⟨rfl, rfl, rfl, rfl⟩ rfl ?_
  refine SL.asg ⟨rfl, rfl, rfl, rfl⟩ rfl ?_
  refine SL.nx ?_
  refine SX.seq ?_
  refine SX.sr ?_
  refine SL.mv ⟨rfl, rfl, rfl, rfl⟩ rfl ?_
  refine SL.nchk ⟨rfl, rfl, rfl, rfl⟩ rfl ?_
  refine SL.fa ⟨rfl, rfl, rfl, rfl⟩ rfl fo63_3 ?_
  refine SL.fa ⟨rfl, rfl, rfl, rfl⟩ rfl fo52_2 ?_
  refine SL.ld ⟨rfl, rfl, rfl, rfl⟩ sc22 rfl (cell_own 0 rfl rfl) ?_
  refine SL.bin ⟨rfl, rfl, rfl, rfl⟩ rfl rfl (Bin.eq32 (b := 4294967295)) ?_
  refine SL.nx ?_
  refine SX.cond rfl (fun hc1 => ?_) (fun hc1 => ?_)
  · skip
    replace h := cT hc1 h
    refine SX.sr ?_
    refine SL.asg ⟨rfl, rfl, rfl, rfl⟩ rfl ?_
    refine SL.asg ⟨rfl, rfl, rfl, rfl⟩ rfl ?_
    refine SL.nx ?_
    refine SX.ret ?_
    refine SQ.thnR ?_
    obtain rfl := Option.some.inj h
    exact SQ.fret (res2 rfl rfl rfl) (ret_of (M := [_, _, _, _]) ⟨rfl, rfl⟩ fun _ hw => HpOk.pick (H := [_, _, _, _]) hw [0, 1, 2, 3] 4 rfl)
  · skip
    replace h := cF hc1 h
    refine SX.skip ?_
    refine SQ.thn ?_
    refine SX.sr ?_
    obtain ⟨y1, hy1, h⟩ := bnd h
    refine SL.mv ⟨rfl, rfl, rfl, rfl⟩ rfl ?_
    refine SL.call (vs := [_]) (Hin := [_, _, _, _]) (Hr := _) ⟨rfl, rfl, rfl, rfl⟩ rfl ⟨rfl, trivial⟩ cal56 rfl rfl (c_ref07_Device_op hy1) ?_
    rintro _ _ ⟨rfl, rfl⟩
    refine ⟨trivial, ?_⟩
    refine SL.asg ⟨rfl, rfl, rfl, rfl⟩ rfl ?_
    refine SL.nx ?_
    refine SX.seq ?_
    refine SX.sr ?_
    refine SL.mv ⟨rfl, rfl, rfl, rfl⟩ rfl ?_
    refine SL.bin ⟨rfl, rfl, rfl, rfl⟩ rfl rfl Bin.neI ?_
    refine SL.nx ?_
    refine SX.cond rfl (fun hc2 => ?_) (fun hc2 => ?_)
    · skip
      replace h := cT hc2 h
      refine SX.sr ?_
      refine SL.mv ⟨rfl, rfl, rfl, rfl⟩ rfl ?_
      refine SL.asg ⟨rfl, rfl, rfl, rfl⟩ rfl ?_
      refine SL.asg ⟨rfl, rfl, rfl, rfl⟩ rfl ?_
      refine SL.nx ?_
      refine SX.ret ?_
      refine SQ.thnR ?_
      obtain rfl := Option.some.inj h
      exact SQ.fret (res2 rfl rfl rfl) (ret_of (M := [_, _, _, _]) ⟨rfl, rfl⟩ fun _ hw => HpOk.pick (H := [_, _, _, _]) hw [0, 1, 2, 3] 4 rfl)
    · skip
      replace h := cF hc2 h
      refine SX.skip ?_
      refine SQ.thn ?_
      refine SX.sr ?_
      refine SL.mv ⟨rfl, rfl, rfl, rfl⟩ rfl ?_
      refine SL.nchk ⟨rfl, rfl, rfl, rfl⟩ rfl ?_
      refine SL.fa ⟨rfl, rfl, rfl, rfl⟩ rfl fo63_3 ?_
      refine SL.fa ⟨rfl, rfl, rfl, rfl⟩ rfl fo52_2 ?_
      refine SL.ld ⟨rfl, rfl, rfl, rfl⟩ sc22 rfl (cell_own 0 rfl rfl) ?_
      refine SL.bin ⟨rfl, rfl, rfl, rfl⟩ rfl rfl (Bin.add32 (b := 1)) ?_
      refine SL.nchk ⟨rfl, rfl, rfl, rfl⟩ rfl ?_
      refine SL.fa ⟨rfl, rfl, rfl, rfl⟩ rfl fo63_3 ?_
      refine SL.fa ⟨rfl, rfl, rfl, rfl⟩ rfl fo52_2 ?_
      refine SL.st 0 ⟨rfl, rfl, rfl⟩ rfl rfl rfl sz22 rfl rfl rfl trivial ?_
      refine SL.nx ?_
      refine SX.sr ?_
      obtain ⟨x1, ex1, h⟩ := retE h
      refine SL.mv ⟨rfl, rfl, rfl, rfl⟩ rfl ?_
      refine SL.nchk ⟨rfl, rfl, rfl, rfl⟩ rfl ?_
      refine SL.fa ⟨rfl, rfl, rfl, rfl⟩ rfl fo63_3 ?_
      refine SL.fa ⟨rfl, rfl, rfl, rfl⟩ rfl fo52_2 ?_
      refine SL.ld ⟨rfl, rfl, rfl, rfl⟩ sc22 rfl (cell_own 0 rfl rfl) ?_
      refine SL.asgX (u := vU32 x1) ⟨rfl, rfl, rfl, rfl⟩ rfl (congrArg vU32 ex1) ?_
      refine SL.asg ⟨rfl, rfl, rfl, rfl⟩ rfl ?_
      refine SL.nx ?_
      refine SX.ret ?_
      obtain rfl := Option.some.inj h
      exact SQ.fret (res2 rfl rfl rfl) (ret_of (M := [_, _, _, _]) ⟨rfl, rfl⟩ fun _ hw => HpOk.pick (H := [_, _, _, _]) hw [0, 1, 2, 3] 4 rfl)

def f_ref07_Device_Cut (p0 : RDevA) (p1 : Int) : Option RDevA :=
  some ({ p0 with left := max p1 (-1) })
set_option maxRecDepth 100000 in
theorem c_ref07_Device_Cut {b0_ : Nat} {v0x0_ : Value} {v0x1_ : Value} {v0x2_ : Value} {p0 : RDevA} {p1 : Int} {r : RDevA} (h : f_ref07_Device_Cut p0 p1 = some r)  : Con Try.prog K w0 41 [vP b0_ 0, vI p1] [own b0_ (.cells #[v0x0_, v0x1_, v0x2_, vU64 p0.rcnt, vS p0.rtag, vU32 p0.rboots, vI p0.left, vB p0.off] 63), rowT 9 1 v0x0_ eS p0.blk, rowT 9 1 v0x1_ eS p0.pnd, rowT 4 1 v0x2_ eB p0.bads] H (fun u M => u = .tuple #[] ∧ M = [own b0_ (.cells #[v0x0_, v0x1_, v0x2_, vU64 r.rcnt, vS r.rtag, vU32 r.rboots, vI r.left, vB r.off] 63), rowT 9 1 v0x0_ eS r.blk, rowT 9 1 v0x1_ eS r.pnd, rowT 4 1 v0x2_ eB r.bads]) := by
  unfold f_ref07_Device_Cut at h
  refine Con.enter Try.func41 rfl rfl ?_
  refine SX.region ?_
  refine SL.mv ⟨rfl, rfl, rfl, rfl⟩ rfl ?_
  refine SL.mv ⟨rfl, rfl, rfl, rfl⟩ rfl ?_
  refine SL.maxI ⟨rfl, rfl, rfl, rfl⟩ rfl rfl ?_
  refine SL.nchk ⟨rfl, rfl, rfl, rfl⟩ rfl ?_
  refine SL.fa ⟨rfl, rfl, rfl, rfl⟩ rfl fo63_4 ?_
  refine SL.st 0 ⟨rfl, rfl, rfl⟩ rfl rfl rfl sz3 rfl rfl rfl trivial ?_
  refine SL.nil ?_
  obtain rfl := Option.some.inj h
  exact SQ.fend (res0 rfl) (ret_of (M := [_, _, _, _]) ⟨rfl, rfl⟩ fun _ hw => HpOk.pick (H := [_, _, _, _]) hw [0, 1, 2, 3] 4 rfl)

def f_ref07_Device_Wake_j1 (p0 : RDevA) (l1 : List (List UInt8)) (l2 : List (List UInt8)) : Option RDevA :=
  some ({ p0 with blk := l1, pnd := l2, left := (-1), off := false })
def f_ref07_Device_Wake_j2 (a2 : Int) (nx_f_ref07_Device_Wake_l1 : List (List UInt8) × List (List UInt8) × Int × Int → Option RDevA) (l5 : List (List UInt8)) (l6 : List (List UInt8)) (a3 : Int) : Option RDevA :=
  ret (wI (a2 + 1)) fun x11 =>
  nx_f_ref07_Device_Wake_l1 (l5, l6, a3, x11)
def f_ref07_Device_Wake_j3 (l3 : List (List UInt8)) (l4 : List (List UInt8)) (a1 : Int) (a2 : Int) (nx_f_ref07_Device_Wake_l1 : List (List UInt8) × List (List UInt8) × Int × Int → Option RDevA) (a4 : Int) : Option RDevA :=
  (nthI l4 a2).bind fun x6 =>
  (slcI x6 0 a4).bind fun s1 =>
  (nthI l3 a2).bind fun x7 =>
  (slcI x7 a4 (x7.length : Int)).bind fun s2 =>
  (catS s1 s2).bind fun s3 =>
  (nthI l3 a2).bind fun x8 =>
  (setI l3 a2 s3).bind fun l7 =>
  (nthI l4 a2).bind fun x9 =>
  (setI l4 a2 []).bind fun l8 =>
  ret (wI (a1 + 1)) fun x10 =>
  f_ref07_Device_Wake_j2 a2 nx_f_ref07_Device_Wake_l1 l7 l8 x10
def f_ref07_Device_Wake_l1_b (p0 : RDevA) (p1 : List Int) (nx_f_ref07_Device_Wake_l1 : List (List UInt8) × List (List UInt8) × Int × Int → Option RDevA) (l3 : List (List UInt8)) (l4 : List (List UInt8)) (a1 : Int) (a2 : Int) : Option RDevA :=
  cond (decide (a2 < (l3.length : Int)))
  (
    (nthI l4 a2).bind fun x1 =>
    cond (decide (x1 = []))
    (
      f_ref07_Device_Wake_j2 a2 nx_f_ref07_Device_Wake_l1 l3 l4 a1)
    (
      (andO (decide (a1 < (p1.length : Int))) ((nthI p1 a1).bind fun x2 => some (decide (1 ≤ x2)))).bind fun y1 =>
      (andO y1 ((nthI p1 a1).bind fun x3 => some (decide (x3 ≤ 4)))).bind fun y2 =>
      cond y2
      (
        (nthI p1 a1).bind fun x4 =>
        ret (wI (64 * x4)) fun x5 =>
        f_ref07_Device_Wake_j3 l3 l4 a1 a2 nx_f_ref07_Device_Wake_l1 x5)
      (
        f_ref07_Device_Wake_j3 l3 l4 a1 a2 nx_f_ref07_Device_Wake_l1 0)))
  (
    f_ref07_Device_Wake_j1 p0 l3 l4)
def f_ref07_Device_Wake_l1 (p0 : RDevA) (p1 : List Int) : Nat → (List (List UInt8) × List (List UInt8) × Int × Int) → Option RDevA := loopN fun nx x => f_ref07_Device_Wake_l1_b p0 p1 nx x.1 x.2.1 x.2.2.1 x.2.2.2
def f_ref07_Device_Wake (n : Nat) (p0 : RDevA) (p1 : List Int) : Option RDevA :=
  f_ref07_Device_Wake_l1 p0 p1 n (p0.blk, p0.pnd, 0, 0)
set_option maxRecDepth 100000 in
theorem c_ref07_Device_Wake {n : Nat} {b0_ : Nat} {v0x0_ : Value} {v0x1_ : Value} {v0x2_ : Value} {p0 : RDevA} {v1_ : Value} {p1 : List Int} {r : RDevA} (h : f_ref07_Device_Wake n p0 p1 = some r) (hs1_ : SlOf K w0 eI 1 v1_ p1) : Con Try.prog K w0 42 [vP b0_ 0, v1_] [own b0_ (.cells #[v0x0_, v0x1_, v0x2_, vU64 p0.rcnt, vS p0.rtag, vU32 p0.rboots, vI p0.left, vB p0.off] 63), rowT 9 1 v0x0_ eS p0.blk, rowT 9 1 v0x1_ eS p0.pnd, rowT 4 1 v0x2_ eB p0.bads] H (fun u M => u = .tuple #[] ∧ M = [own b0_ (.cells #[v0x0_, v0x1_, v0x2_, vU64 r.rcnt, vS r.rtag, vU32 r.rboots, vI r.left, vB r.off] 63), rowT 9 1 v0x0_ eS r.blk, rowT 9 1 v0x1_ eS r.pnd, rowT 4 1 v0x2_ eB r.bads]) := by
  unfold f_ref07_Device_Wake at h
  refine Con.enter Try.func42 rfl rfl ?_
  refine SX.sr ?_
  refine SL.asg ⟨rfl, rfl, rfl, rfl⟩ rfl ?_
  refine SL.nx ?_
  refine SX.meetD (α := List (List UInt8) × List (List UInt8)) (fun x => f_ref07_Device_Wake_j1 p0 x.1 x.2 = some r) (fun x => [(0, vP b0_ 0)]) (fun x => own b0_ (.cells #[v0x0_, v0x1_, v0x2_, vU64 p0.rcnt, vS p0.rtag, vU32 p0.rboots, vI p0.left, vB p0.off] 63) :: rowT 9 1 v0x0_ eS x.1 :: rowT 9 1 v0x1_ eS x.2 :: rowT 4 1 v0x2_ eB p0.bads :: H) ?_ (fun x D h => ?_)
  · skip
    refine SX.sr ?_
    refine SL.asg ⟨rfl, rfl, rfl, rfl⟩ rfl ?_
    refine SL.nx ?_
    refine SX.block ?_
    refine SX.heap (SX.mono (SX.loop (α := Nat × List (List UInt8) × List (List UInt8) × Int × Int) (fun x => f_ref07_Device_Wake_l1 p0 p1 x.1 (x.2.1, x.2.2.1, x.2.2.2.1, x.2.2.2.2) = some r) (fun x => [(0, vP b0_ 0), (1, v1_), (4, vI x.2.2.2.1), (5, vI x.2.2.2.2)]) (fun x => own b0_ (.cells #[v0x0_, v0x1_, v0x2_, vU64 p0.rcnt, vS p0.rtag, vU32 p0.rboots, vI p0.left, vB p0.off] 63) :: rowT 9 1 v0x0_ eS x.2.1 :: rowT 9 1 v0x1_ eS x.2.2.1 :: rowT 4 1 v0x2_ eB p0.bads :: H) (fun x => x.1) (fun x D h => ?_) (n, p0.blk, p0.pnd, 0, 0) h) (by repeat' (first | exact trivial | refine And.intro rfl ?_))) (fun _ hw => HpOk.pick (H := [_, _, _, _]) hw [0, 1, 2, 3] 4 rfl)
    obtain ⟨m1, l3, l4, a1, a2⟩ := x
    dsimp only at h
    rcases m1 with _ | m1
    · cases (show (none : Option _) = some r from h)
    replace h : f_ref07_Device_Wake_l1_b p0 p1 (f_ref07_Device_Wake_l1 p0 p1 m1) l3 l4 a1 a2 = some r := h
    unfold f_ref07_Device_Wake_l1_b at h
    refine SX.re [(0, vP b0_ 0), (1, v1_), (4, vI a1), (5, vI a2)] (own b0_ (.cells #[v0x0_, v0x1_, v0x2_, vU64 p0.rcnt, vS p0.rtag, vU32 p0.rboots, vI p0.left, vB p0.off] 63) :: rowT 9 1 v0x0_ eS l3 :: rowT 9 1 v0x1_ eS l4 :: rowT 4 1 v0x2_ eB p0.bads :: H) ?_ (by repeat' (first | exact trivial | refine And.intro rfl ?_))
    refine SX.seq ?_
    refine SX.sr ?_
    refine SL.mv ⟨rfl, rfl, rfl, rfl⟩ rfl ?_
    refine SL.mv ⟨rfl, rfl, rfl, rfl⟩ rfl ?_
    refine SL.nchk ⟨rfl, rfl, rfl, rfl⟩ rfl ?_
    refine SL.fa ⟨rfl, rfl, rfl, rfl⟩ rfl fo63_0 ?_
    refine SL.ld ⟨rfl, rfl, rfl, rfl⟩ sc41 rfl (cell_own 0 rfl rfl) ?_
    refine SL.lenT 1 ⟨rfl, rfl, rfl, rfl⟩ ty41 rfl rfl ?_
    refine SL.bin ⟨rfl, rfl, rfl, rfl⟩ rfl rfl Bin.ltI ?_
    refine SL.nx ?_
    refine SX.cond rfl (fun hc1 => ?_) (fun hc1 => ?_)
    · skip
      replace h := cT hc1 h
      refine SX.skip ?_
      refine SQ.thn ?_
      refine SX.meetD (α := List (List UInt8) × List (List UInt8) × Int) (fun x => f_ref07_Device_Wake_j2 a2 (f_ref07_Device_Wake_l1 p0 p1 m1) x.1 x.2.1 x.2.2 = some r) (fun x => [(0, vP b0_ 0), (1, v1_), (4, vI x.2.2), (5, vI a2)]) (fun x => own b0_ (.cells #[v0x0_, v0x1_, v0x2_, vU64 p0.rcnt, vS p0.rtag, vU32 p0.rboots, vI p0.left, vB p0.off] 63) :: rowT 9 1 v0x0_ eS x.1 :: rowT 9 1 v0x1_ eS x.2.1 :: rowT 4 1 v0x2_ eB p0.bads :: H) ?_ (fun x D h => ?_)
      · skip
        refine SX.block ?_
        refine SX.seq ?_
        refine SX.sr ?_
        obtain ⟨x1, hx1, h⟩ := bnd h
        refine SL.mv ⟨rfl, rfl, rfl, rfl⟩ rfl ?_
        refine SL.nchk ⟨rfl, rfl, rfl, rfl⟩ rfl ?_
        refine SL.fa ⟨rfl, rfl, rfl, rfl⟩ rfl fo63_1 ?_
        refine SL.ld ⟨rfl, rfl, rfl, rfl⟩ sc41 rfl (cell_own 0 rfl rfl) ?_
        refine SL.mv ⟨rfl, rfl, rfl, rfl⟩ rfl ?_
        refine SL.iaT 2 hx1 ⟨rfl, rfl, rfl, rfl⟩ ty41 sz9 rfl rfl rfl fun g1 m2 cp1 hv1 => ?_
        refine SL.ld ⟨rfl, rfl, rfl, rfl⟩ sc9 rfl (cell_rowT (sz := 1) (enc := eS) 2 0 (fun _ => rfl) rfl hv1 hx1 rfl) ?_
        refine SL.bin ⟨rfl, rfl, rfl, rfl⟩ rfl rfl Bin.eqS ?_
        refine SL.nx ?_
        refine SX.cond rfl (fun hc2 => ?_) (fun hc2 => ?_)
        · skip
          replace h := cT hc2 h
          refine SX.exit ?_
          refine SQ.thnE ?_
          refine SQ.blkE ?_
          exact SQ.midD (l3, l4, a1) h (by repeat' (first | exact trivial | refine And.intro rfl ?_)) (fun _ hw => HpOk.pick (H := [_, _, _, _]) hw [0, 1, 2, 3] 4 rfl)
        · skip
          replace h := cF hc2 h
          refine SX.skip ?_
          refine SQ.thn ?_
          refine SX.sr ?_
          refine SL.asg ⟨rfl, rfl, rfl, rfl⟩ rfl ?_
          refine SL.nx ?_
          refine SX.meetD (α := Int) (fun x => f_ref07_Device_Wake_j3 l3 l4 a1 a2 (f_ref07_Device_Wake_l1 p0 p1 m1) x = some r) (fun x => [(0, vP b0_ 0), (1, v1_), (4, vI a1), (5, vI a2), (6, vI x)]) (fun x => own b0_ (.cells #[v0x0_, v0x1_, v0x2_, vU64 p0.rcnt, vS p0.rtag, vU32 p0.rboots, vI p0.left, vB p0.off] 63) :: rowT 9 1 v0x0_ eS l3 :: rowT 9 1 v0x1_ eS l4 :: rowT 4 1 v0x2_ eB p0.bads :: H) ?_ (fun a4 D h => ?_)
          · skip
            refine SX.sr ?_
            obtain ⟨y1, hy1, h⟩ := bnd h
            obtain ⟨y2, hy2, h⟩ := bnd h
            refine SL.mv ⟨rfl, rfl, rfl, rfl⟩ rfl ?_
            refine SL.mv ⟨rfl, rfl, rfl, rfl⟩ rfl ?_
            refine SL.lenV hs1_ ⟨rfl, rfl, rfl, rfl⟩ ty32 rfl ?_
            refine SL.bin ⟨rfl, rfl, rfl, rfl⟩ rfl rfl Bin.ltI ?_
            refine SL.mv ⟨rfl, rfl, rfl, rfl⟩ rfl ?_
            refine SL.andN 28 6 34 hy1 rfl (fun hb hg1 k => ?_) (fun hb k => ?_) ?_
            · skip
              obtain ⟨x2, hx2, hg1⟩ := bnd hg1
              obtain rfl := Option.some.inj hg1
              refine SL.mv ⟨rfl, rfl, rfl, rfl⟩ rfl ?_
              refine SL.mv ⟨rfl, rfl, rfl, rfl⟩ rfl ?_
              refine SL.iaN hx2 hs1_ ⟨rfl, rfl, rfl, rfl⟩ ty32 sz3 rfl rfl fun be1 of1 hc3 => ?_
              refine SL.ld ⟨rfl, rfl, rfl, rfl⟩ sc3 rfl (cell_kept (j := 0) hc3 rfl) ?_
              refine SL.bin ⟨rfl, rfl, rfl, rfl⟩ rfl rfl Bin.geI ?_
              refine SL.pk ⟨rfl, rfl, rfl, rfl⟩ rfl rfl ?_
              exact k.mono (by repeat' (first | exact trivial | refine And.intro rfl ?_))
            · skip
              refine SL.pass rfl rfl rfl ?_
              refine SL.pass rfl rfl rfl ?_
              refine SL.pass rfl rfl rfl ?_
              refine SL.pass rfl rfl rfl ?_
              refine SL.pass rfl rfl rfl ?_
              refine SL.pk ⟨rfl, rfl, rfl, rfl⟩ rfl rfl ?_
              exact k.mono (by repeat' (first | exact trivial | refine And.intro rfl ?_))
            refine SL.mv ⟨rfl, rfl, rfl, rfl⟩ rfl ?_
            refine SL.andN 35 6 41 hy2 rfl (fun hb hg2 k => ?_) (fun hb k => ?_) ?_
            · skip
              obtain ⟨x3, hx3, hg2⟩ := bnd hg2
              obtain rfl := Option.some.inj hg2
              refine SL.mv ⟨rfl, rfl, rfl, rfl⟩ rfl ?_
              refine SL.mv ⟨rfl, rfl, rfl, rfl⟩ rfl ?_
              refine SL.iaN hx3 hs1_ ⟨rfl, rfl, rfl, rfl⟩ ty32 sz3 rfl rfl fun be2 of2 hc4 => ?_
              refine SL.ld ⟨rfl, rfl, rfl, rfl⟩ sc3 rfl (cell_kept (j := 0) hc4 rfl) ?_
              refine SL.bin ⟨rfl, rfl, rfl, rfl⟩ rfl rfl Bin.leI ?_
              refine SL.pk ⟨rfl, rfl, rfl, rfl⟩ rfl rfl ?_
              exact k.mono (by repeat' (first | exact trivial | refine And.intro rfl ?_))
            · skip
              refine SL.pass rfl rfl rfl ?_
              refine SL.pass rfl rfl rfl ?_
              refine SL.pass rfl rfl rfl ?_
              refine SL.pass rfl rfl rfl ?_
              refine SL.pass rfl rfl rfl ?_
              refine SL.pk ⟨rfl, rfl, rfl, rfl⟩ rfl rfl ?_
              exact k.mono (by repeat' (first | exact trivial | refine And.intro rfl ?_))
            refine SL.nx ?_
            refine SX.cond rfl (fun hc5 => ?_) (fun hc5 => ?_)
            · skip
              replace h := cT hc5 h
              refine SX.region ?_
              obtain ⟨x4, hx4, h⟩ := bnd h
              obtain ⟨x5, ex5, h⟩ := retE h
              refine SL.mv ⟨rfl, rfl, rfl, rfl⟩ rfl ?_
              refine SL.mv ⟨rfl, rfl, rfl, rfl⟩ rfl ?_
              refine SL.iaN hx4 hs1_ ⟨rfl, rfl, rfl, rfl⟩ ty32 sz3 rfl rfl fun be3 of3 hc6 => ?_
              refine SL.ld ⟨rfl, rfl, rfl, rfl⟩ sc3 rfl (cell_kept (j := 0) hc6 rfl) ?_
              refine SL.bin ⟨rfl, rfl, rfl, rfl⟩ rfl rfl Bin.mulW ?_
              refine SL.asgX (u := vI x5) ⟨rfl, rfl, rfl, rfl⟩ rfl (congrArg vI ex5) ?_
              refine SL.nil ?_
              exact SQ.midD x5 h (by repeat' (first | exact trivial | refine And.intro rfl ?_)) (fun _ hw => HpOk.pick (H := [_, _, _, _]) hw [0, 1, 2, 3] 4 rfl)
            · skip
              replace h := cF hc5 h
              refine SX.skip ?_
              exact SQ.midD 0 h (by repeat' (first | exact trivial | refine And.intro rfl ?_)) (fun _ hw => HpOk.pick (H := [_, _, _, _]) hw [0, 1, 2, 3] 4 rfl)
          · skip
            unfold f_ref07_Device_Wake_j3 at h
            refine SX.re [(0, vP b0_ 0), (1, v1_), (4, vI a1), (5, vI a2), (6, vI a4)] (own b0_ (.cells #[v0x0_, v0x1_, v0x2_, vU64 p0.rcnt, vS p0.rtag, vU32 p0.rboots, vI p0.left, vB p0.off] 63) :: rowT 9 1 v0x0_ eS l3 :: rowT 9 1 v0x1_ eS l4 :: rowT 4 1 v0x2_ eB p0.bads :: H) ?_ (by repeat' (first | exact trivial | refine And.intro rfl ?_))
            refine SX.seq ?_
            obtain ⟨x6, hx6, h⟩ := bnd h
            obtain ⟨s1, hs1, h⟩ := bnd h
            obtain ⟨x7, hx7, h⟩ := bnd h
            obtain ⟨s2, hs2, h⟩ := bnd h
            obtain ⟨s3, hs3, h⟩ := bnd h
            obtain ⟨x8, hx8, h⟩ := bnd h
            obtain ⟨l7, hl7, h⟩ := bnd h
            refine SX.drawI mix [0, 1, 2] (Pl.ap [(true, 0), (true, 1), (true, 2), (true, 3), (true, 4), (true, 5), (true, 6), (true, 7), (true, 8), (true, 9), (true, 10), (true, 11), (true, 12), (true, 13), (true, 14), (true, 15), (true, 16), (true, 17), (true, 18), (true, 19), (true, 20), (true, 21), (true, 22), (true, 23), (true, 24)] (.last 25 .nil)) (by kernel_rfl) ?_
            refine SL.mv ⟨rfl, rfl, rfl, rfl⟩ rfl ?_
            refine SL.nchk ⟨rfl, rfl, rfl, rfl⟩ rfl ?_
            refine SL.fa ⟨rfl, rfl, rfl, rfl⟩ rfl fo63_0 ?_
            refine SL.ld ⟨rfl, rfl, rfl, rfl⟩ sc41 rfl (cell_own 0 rfl rfl) ?_
            refine SL.mv ⟨rfl, rfl, rfl, rfl⟩ rfl ?_
            refine SL.mv ⟨rfl, rfl, rfl, rfl⟩ rfl ?_
            refine SL.nchk ⟨rfl, rfl, rfl, rfl⟩ rfl ?_
            refine SL.fa ⟨rfl, rfl, rfl, rfl⟩ rfl fo63_1 ?_
            refine SL.ld ⟨rfl, rfl, rfl, rfl⟩ sc41 rfl (cell_own 0 rfl rfl) ?_
            refine SL.mv ⟨rfl, rfl, rfl, rfl⟩ rfl ?_
            refine SL.iaT 2 hx6 ⟨rfl, rfl, rfl, rfl⟩ ty41 sz9 rfl rfl rfl fun g2 m3 cp2 hv2 => ?_
            refine SL.ld ⟨rfl, rfl, rfl, rfl⟩ sc9 rfl (cell_rowT (sz := 1) (enc := eS) 2 0 (fun _ => rfl) rfl hv2 hx6 rfl) ?_
            refine SL.mv ⟨rfl, rfl, rfl, rfl⟩ rfl ?_
            refine SL.slNh hs1 ⟨rfl, rfl, rfl, rfl⟩ ty9 rfl rfl ?_
            refine SL.mv ⟨rfl, rfl, rfl, rfl⟩ rfl ?_
            refine SL.nchk ⟨rfl, rfl, rfl, rfl⟩ rfl ?_
            refine SL.fa ⟨rfl, rfl, rfl, rfl⟩ rfl fo63_0 ?_
            refine SL.ld ⟨rfl, rfl, rfl, rfl⟩ sc41 rfl (cell_own 0 rfl rfl) ?_
            refine SL.mv ⟨rfl, rfl, rfl, rfl⟩ rfl ?_
            refine SL.iaT 1 hx7 ⟨rfl, rfl, rfl, rfl⟩ ty41 sz9 rfl rfl rfl fun g3 m4 cp3 hv3 => ?_
            refine SL.ld ⟨rfl, rfl, rfl, rfl⟩ sc9 rfl (cell_rowT (sz := 1) (enc := eS) 1 0 (fun _ => rfl) rfl hv3 hx7 rfl) ?_
            refine SL.mv ⟨rfl, rfl, rfl, rfl⟩ rfl ?_
            refine SL.slNl hs2 ⟨rfl, rfl, rfl, rfl⟩ ty9 rfl rfl ?_
            refine SL.bin ⟨rfl, rfl, rfl, rfl⟩ rfl rfl (Bin.catO hs3) ?_
            refine SL.iaT 1 hx8 ⟨rfl, rfl, rfl, rfl⟩ ty41 sz9 rfl rfl rfl fun g4 m5 cp4 hv4 => ?_
            refine SL.last ?_
            refine SL.stTN (sz := 1) (enc := eS) 1 hl7 (fun _ => rfl) ⟨rfl, rfl, rfl⟩ rfl rfl rfl rfl hv4 sz9 (by simp [Value.oneCell']) trivial ?_
            refine SL.nx ?_
            refine SX.sr ?_
            obtain ⟨x9, hx9, h⟩ := bnd h
            obtain ⟨l8, hl8, h⟩ := bnd h
            refine SL.mv ⟨rfl, rfl, rfl, rfl⟩ rfl ?_
            refine SL.nchk ⟨rfl, rfl, rfl, rfl⟩ rfl ?_
            refine SL.fa ⟨rfl, rfl, rfl, rfl⟩ rfl fo63_1 ?_
            refine SL.ld ⟨rfl, rfl, rfl, rfl⟩ sc41 rfl (cell_own 0 rfl rfl) ?_
            refine SL.mv ⟨rfl, rfl, rfl, rfl⟩ rfl ?_
            refine SL.iaT 2 hx9 ⟨rfl, rfl, rfl, rfl⟩ ty41 sz9 rfl rfl rfl fun g5 m6 cp5 hv5 => ?_
            refine SL.stTN (sz := 1) (enc := eS) 2 hl8 (fun _ => rfl) ⟨rfl, rfl, rfl⟩ rfl rfl rfl rfl hv5 sz9 (by simp [Value.oneCell']) trivial ?_
            refine SL.nx ?_
            refine SX.region ?_
            obtain ⟨x10, ex10, h⟩ := retE h
            refine SL.mv ⟨rfl, rfl, rfl, rfl⟩ rfl ?_
            refine SL.bin ⟨rfl, rfl, rfl, rfl⟩ rfl rfl Bin.addW ?_
            refine SL.asgX (u := vI x10) ⟨rfl, rfl, rfl, rfl⟩ rfl (congrArg vI ex10) ?_
            refine SL.nil ?_
            refine SQ.blk ?_
            exact SQ.midD (l7, l8, x10) h (by repeat' (first | exact trivial | refine And.intro rfl ?_)) (fun _ hw => HpOk.pick (H := [_, _, _, _]) hw [0, 1, 2, 3] 4 rfl)
      · skip
        obtain ⟨l5, l6, a3⟩ := x
        dsimp only at h
        unfold f_ref07_Device_Wake_j2 at h
        refine SX.re [(0, vP b0_ 0), (1, v1_), (4, vI a3), (5, vI a2)] (own b0_ (.cells #[v0x0_, v0x1_, v0x2_, vU64 p0.rcnt, vS p0.rtag, vU32 p0.rboots, vI p0.left, vB p0.off] 63) :: rowT 9 1 v0x0_ eS l5 :: rowT 9 1 v0x1_ eS l6 :: rowT 4 1 v0x2_ eB p0.bads :: H) ?_ (by repeat' (first | exact trivial | refine And.intro rfl ?_))
        refine SX.region ?_
        obtain ⟨x11, ex11, h⟩ := retE h
        refine SL.mv ⟨rfl, rfl, rfl, rfl⟩ rfl ?_
        refine SL.bin ⟨rfl, rfl, rfl, rfl⟩ rfl rfl Bin.addW ?_
        refine SL.asgX (u := vI x11) ⟨rfl, rfl, rfl, rfl⟩ rfl (congrArg vI ex11) ?_
        refine SL.nil ?_
        exact SQ.again (m1, l5, l6, a3, x11) h (Nat.lt_succ_self _) (by repeat' (first | exact trivial | refine And.intro rfl ?_)) (fun _ hw => HpOk.pick (H := [_, _, _, _]) hw [0, 1, 2, 3] 4 rfl)
    · skip
      replace h := cF hc1 h
      refine SX.exit ?_
      refine SQ.thnE ?_
      refine SQ.lpE ?_
      refine SQ.blkE ?_
      exact SQ.midD (l3, l4) h (by repeat' (first | exact trivial | refine And.intro rfl ?_)) (fun _ hw => HpOk.pick (H := [_, _, _, _]) hw [0, 1, 2, 3] 4 rfl)
  · skip
    obtain ⟨l1, l2⟩ := x
    dsimp only at h
    unfold f_ref07_Device_Wake_j1 at h
    refine SX.re [(0, vP b0_ 0)] (own b0_ (.cells #[v0x0_, v0x1_, v0x2_, vU64 p0.rcnt, vS p0.rtag, vU32 p0.rboots, vI p0.left, vB p0.off] 63) :: rowT 9 1 v0x0_ eS l1 :: rowT 9 1 v0x1_ eS l2 :: rowT 4 1 v0x2_ eB p0.bads :: H) ?_ (by repeat' (first | exact trivial | refine And.intro rfl ?_))
    refine SX.sr ?_
    refine SL.mv ⟨rfl, rfl, rfl, rfl⟩ rfl ?_
    refine SL.nchk ⟨rfl, rfl, rfl, rfl⟩ rfl ?_
    refine SL.fa ⟨rfl, rfl, rfl, rfl⟩ rfl fo63_5 ?_
    refine SL.st 0 ⟨rfl, rfl, rfl⟩ rfl rfl rfl sz4 rfl rfl rfl trivial ?_
    refine SL.nx ?_
    refine SX.region ?_
    refine SL.mv ⟨rfl, rfl, rfl, rfl⟩ rfl ?_
    refine SL.nchk ⟨rfl, rfl, rfl, rfl⟩ rfl ?_
    refine SL.fa ⟨rfl, rfl, rfl, rfl⟩ rfl fo63_4 ?_
    refine SL.st 0 ⟨rfl, rfl, rfl⟩ rfl rfl rfl sz3 rfl rfl rfl trivial ?_
    refine SL.nil ?_
    obtain rfl := Option.some.inj h
    exact SQ.fend (res0 rfl) (ret_of (M := [_, _, _, _]) ⟨rfl, rfl⟩ fun _ hw => HpOk.pick (H := [_, _, _, _]) hw [0, 1, 2, 3] 4 rfl)

def f_ref07_Device_Put (p0 : RDevA) (p1 : UInt32) (p2 : List UInt8) : Option (Int × RDevA) :=
  (f_ref07_Device_is p0 p1).bind fun y1 =>
  cond ((!y1) || (!decide ((p2.length : Int) = 256)))
  (
    some (2, p0))
  (
    (nthI p0.blk (p1.toNat : Int)).bind fun x1 =>
    (setI p0.blk (p1.toNat : Int) p2).bind fun l1 =>
    (nthI p0.pnd (p1.toNat : Int)).bind fun x2 =>
    (setI p0.pnd (p1.toNat : Int) []).bind fun l2 =>
    some (0, { p0 with blk := l1, pnd := l2 }))
set_option maxRecDepth 100000 in
theorem c_ref07_Device_Put {b0_ : Nat} {v0x0_ : Value} {v0x1_ : Value} {v0x2_ : Value} {p0 : RDevA} {p1 : UInt32} {p2 : List UInt8} {r : Int × RDevA} (h : f_ref07_Device_Put p0 p1 p2 = some r)  : Con Try.prog K w0 43 [vP b0_ 0, vU32 p1, vS p2] [own b0_ (.cells #[v0x0_, v0x1_, v0x2_, vU64 p0.rcnt, vS p0.rtag, vU32 p0.rboots, vI p0.left, vB p0.off] 63), rowT 9 1 v0x0_ eS p0.blk, rowT 9 1 v0x1_ eS p0.pnd, rowT 4 1 v0x2_ eB p0.bads] H (fun u M => u = vI r.1 ∧ M = [own b0_ (.cells #[v0x0_, v0x1_, v0x2_, vU64 r.2.rcnt, vS r.2.rtag, vU32 r.2.rboots, vI r.2.left, vB r.2.off] 63), rowT 9 1 v0x0_ eS r.2.blk, rowT 9 1 v0x1_ eS r.2.pnd, rowT 4 1 v0x2_ eB r.2.bads]) := by
  unfold f_ref07_Device_Put at h
  refine Con.enter Try.func43 rfl rfl ?_
  refine SX.sr ?_
  refine SL.asg ⟨rfl, rfl, rfl, rfl⟩ rfl ?_
  refine SL.nx ?_
  refine SX.seq ?_
  refine SX.sr ?_
  obtain ⟨y1, hy1, h⟩ := bnd h
  refine SL.mv ⟨rfl, rfl, rfl, rfl⟩ rfl ?_
  refine SL.mv ⟨rfl, rfl, rfl, rfl⟩ rfl ?_
  refine SL.call (vs := [_, _]) (Hin := [_, _, _, _]) (Hr := _) ⟨rfl, rfl, rfl, rfl⟩ rfl ⟨rfl, rfl, trivial⟩ cal55 rfl rfl (c_ref07_Device_is hy1) ?_
  rintro _ _ ⟨rfl, rfl⟩
  refine ⟨trivial, ?_⟩
  refine SL.not ⟨rfl, rfl, rfl, rfl⟩ rfl ?_
  refine SL.mv ⟨rfl, rfl, rfl, rfl⟩ rfl ?_
  refine SL.or (c := !decide ((p2.length : Int) = 256)) 11 4 15 rfl (fun hb k => ?_) (fun hb k => ?_) ?_
  · skip
    refine SL.pass rfl rfl rfl ?_
    refine SL.pass rfl rfl rfl ?_
    refine SL.pass rfl rfl rfl ?_
    refine SL.pk ⟨rfl, rfl, rfl, rfl⟩ rfl rfl ?_
    exact k.mono (by repeat' (first | exact trivial | refine And.intro rfl ?_))
  · skip
    refine SL.mv ⟨rfl, rfl, rfl, rfl⟩ rfl ?_
    refine SL.lenS ⟨rfl, rfl, rfl, rfl⟩ ty9 rfl ?_
    refine SL.bin ⟨rfl, rfl, rfl, rfl⟩ rfl rfl Bin.neI ?_
    refine SL.pk ⟨rfl, rfl, rfl, rfl⟩ rfl rfl ?_
    exact k.mono (by repeat' (first | exact trivial | refine And.intro rfl ?_))
  refine SL.nx ?_
  refine SX.cond rfl (fun hc1 => ?_) (fun hc1 => ?_)
  · skip
    replace h := cT hc1 h
    refine SX.sr ?_
    refine SL.asg ⟨rfl, rfl, rfl, rfl⟩ rfl ?_
    refine SL.nx ?_
    refine SX.ret ?_
    refine SQ.thnR ?_
    obtain rfl := Option.some.inj h
    exact SQ.fret (res1 rfl rfl) (ret_of (M := [_, _, _, _]) ⟨rfl, rfl⟩ fun _ hw => HpOk.pick (H := [_, _, _, _]) hw [0, 1, 2, 3] 4 rfl)
  · skip
    replace h := cF hc1 h
    refine SX.skip ?_
    refine SQ.thn ?_
    refine SX.sr ?_
    obtain ⟨x1, hx1, h⟩ := bnd h
    obtain ⟨l1, hl1, h⟩ := bnd h
    refine SL.mv ⟨rfl, rfl, rfl, rfl⟩ rfl ?_
    refine SL.nchk ⟨rfl, rfl, rfl, rfl⟩ rfl ?_
    refine SL.fa ⟨rfl, rfl, rfl, rfl⟩ rfl fo63_0 ?_
    refine SL.ld ⟨rfl, rfl, rfl, rfl⟩ sc41 rfl (cell_own 0 rfl rfl) ?_
    refine SL.mv ⟨rfl, rfl, rfl, rfl⟩ rfl ?_
    refine SL.mv ⟨rfl, rfl, rfl, rfl⟩ rfl ?_
    refine SL.iaT 1 hx1 ⟨rfl, rfl, rfl, rfl⟩ ty41 sz9 rfl rfl rfl fun g1 m1 cp1 hv1 => ?_
    refine SL.stTN (sz := 1) (enc := eS) 1 hl1 (fun _ => rfl) ⟨rfl, rfl, rfl⟩ rfl rfl rfl rfl hv1 sz9 (by simp [Value.oneCell']) trivial ?_
    refine SL.nx ?_
    refine SX.sr ?_
    obtain ⟨x2, hx2, h⟩ := bnd h
    obtain ⟨l2, hl2, h⟩ := bnd h
    refine SL.mv ⟨rfl, rfl, rfl, rfl⟩ rfl ?_
    refine SL.nchk ⟨rfl, rfl, rfl, rfl⟩ rfl ?_
    refine SL.fa ⟨rfl, rfl, rfl, rfl⟩ rfl fo63_1 ?_
    refine SL.ld ⟨rfl, rfl, rfl, rfl⟩ sc41 rfl (cell_own 0 rfl rfl) ?_
    refine SL.mv ⟨rfl, rfl, rfl, rfl⟩ rfl ?_
    refine SL.iaT 2 hx2 ⟨rfl, rfl, rfl, rfl⟩ ty41 sz9 rfl rfl rfl fun g2 m2 cp2 hv2 => ?_
    refine SL.stTN (sz := 1) (enc := eS) 2 hl2 (fun _ => rfl) ⟨rfl, rfl, rfl⟩ rfl rfl rfl rfl hv2 sz9 (by simp [Value.oneCell']) trivial ?_
    refine SL.nx ?_
    refine SX.sr ?_
    refine SL.asg ⟨rfl, rfl, rfl, rfl⟩ rfl ?_
    refine SL.nx ?_
    refine SX.ret ?_
    obtain rfl := Option.some.inj h
    exact SQ.fret (res1 rfl rfl) (ret_of (M := [_, _, _, _]) ⟨rfl, rfl⟩ fun _ hw => HpOk.pick (H := [_, _, _, _]) hw [0, 1, 2, 3] 4 rfl)

def f_ref07_Device_Bad (p0 : RDevA) (p1 : UInt32) (p2 : Bool) : Option (Int × RDevA) :=
  (f_ref07_Device_is p0 p1).bind fun y1 =>
  cond (!y1)
  (
    some (2, p0))
  (
    (nthI p0.bads (p1.toNat : Int)).bind fun x1 =>
    (setI p0.bads (p1.toNat : Int) p2).bind fun l1 =>
    some (0, { p0 with bads := l1 }))
set_option maxRecDepth 100000 in
theorem c_ref07_Device_Bad {b0_ : Nat} {v0x0_ : Value} {v0x1_ : Value} {v0x2_ : Value} {p0 : RDevA} {p1 : UInt32} {p2 : Bool} {r : Int × RDevA} (h : f_ref07_Device_Bad p0 p1 p2 = some r)  : Con Try.prog K w0 44 [vP b0_ 0, vU32 p1, vB p2] [own b0_ (.cells #[v0x0_, v0x1_, v0x2_, vU64 p0.rcnt, vS p0.rtag, vU32 p0.rboots, vI p0.left, vB p0.off] 63), rowT 9 1 v0x0_ eS p0.blk, rowT 9 1 v0x1_ eS p0.pnd, rowT 4 1 v0x2_ eB p0.bads] H (fun u M => u = vI r.1 ∧ M = [own b0_ (.cells #[v0x0_, v0x1_, v0x2_, vU64 r.2.rcnt, vS r.2.rtag, vU32 r.2.rboots, vI r.2.left, vB r.2.off] 63), rowT 9 1 v0x0_ eS r.2.blk, rowT 9 1 v0x1_ eS r.2.pnd, rowT 4 1 v0x2_ eB r.2.bads]) := by
  unfold f_ref07_Device_Bad at h
  refine Con.enter Try.func44 rfl rfl ?_
  refine SX.sr ?_
  refine SL.asg ⟨rfl, rfl, rfl, rfl⟩ rfl ?_
  refine SL.nx ?_
  refine SX.seq ?_
  refine SX.sr ?_
  obtain ⟨y1, hy1, h⟩ := bnd h
  refine SL.mv ⟨rfl, rfl, rfl, rfl⟩ rfl ?_
  refine SL.mv ⟨rfl, rfl, rfl, rfl⟩ rfl ?_
  refine SL.call (vs := [_, _]) (Hin := [_, _, _, _]) (Hr := _) ⟨rfl, rfl, rfl, rfl⟩ rfl ⟨rfl, rfl, trivial⟩ cal55 rfl rfl (c_ref07_Device_is hy1) ?_
  rintro _ _ ⟨rfl, rfl⟩
  refine ⟨trivial, ?_⟩
  refine SL.not ⟨rfl, rfl, rfl, rfl⟩ rfl ?_
  refine SL.nx ?_
  refine SX.cond rfl (fun hc1 => ?_) (fun hc1 => ?_)
  · skip
    replace h := cT hc1 h
    refine SX.sr ?_
    refine SL.asg ⟨rfl, rfl, rfl, rfl⟩ rfl ?_
    refine SL.nx ?_
    refine SX.ret ?_
    refine SQ.thnR ?_
    obtain rfl := Option.some.inj h
    exact SQ.fret (res1 rfl rfl) (ret_of (M := [_, _, _, _]) ⟨rfl, rfl⟩ fun _ hw => HpOk.pick (H := [_, _, _, _]) hw [0, 1, 2, 3] 4 rfl)
  · skip
    replace h := cF hc1 h
    refine SX.skip ?_
    refine SQ.thn ?_
    refine SX.sr ?_
    obtain ⟨x1, hx1, h⟩ := bnd h
    obtain ⟨l1, hl1, h⟩ := bnd h
    refine SL.mv ⟨rfl, rfl, rfl, rfl⟩ rfl ?_
    refine SL.nchk ⟨rfl, rfl, rfl, rfl⟩ rfl ?_
    refine SL.fa ⟨rfl, rfl, rfl, rfl⟩ rfl fo63_2 ?_
    refine SL.ld ⟨rfl, rfl, rfl, rfl⟩ sc61 rfl (cell_own 0 rfl rfl) ?_
    refine SL.mv ⟨rfl, rfl, rfl, rfl⟩ rfl ?_
    refine SL.mv ⟨rfl, rfl, rfl, rfl⟩ rfl ?_
    refine SL.iaT 3 hx1 ⟨rfl, rfl, rfl, rfl⟩ ty61 sz4 rfl rfl rfl fun g1 m1 cp1 hv1 => ?_
    refine SL.stTN (sz := 1) (enc := eB) 3 hl1 (fun _ => rfl) ⟨rfl, rfl, rfl⟩ rfl rfl rfl rfl hv1 sz4 (by simp [Value.oneCell']) trivial ?_
    refine SL.nx ?_
    refine SX.sr ?_
    refine SL.asg ⟨rfl, rfl, rfl, rfl⟩ rfl ?_
    refine SL.nx ?_
    refine SX.ret ?_
    obtain rfl := Option.some.inj h
    exact SQ.fret (res1 rfl rfl) (ret_of (M := [_, _, _, _]) ⟨rfl, rfl⟩ fun _ hw => HpOk.pick (H := [_, _, _, _]) hw [0, 1, 2, 3] 4 rfl)

def f_ref07_Device_Read (p0 : RDevA) (p1 : UInt32) : Option (List UInt8 × Int) :=
  (f_ref07_Device_is p0 p1).bind fun y1 =>
  cond (!y1)
  (
    some ([], 2))
  (
    cond p0.off
    (
      some ([], 71))
    (
      (nthI p0.bads (p1.toNat : Int)).bind fun x1 =>
      cond x1
      (
        some ([], 70))
      (
        (f_ref07_Device_Holds p0 p1).bind fun y2 =>
        some (y2, 0))))
set_option maxRecDepth 100000 in
theorem c_ref07_Device_Read {b0_ : Nat} {v0x0_ : Value} {v0x1_ : Value} {v0x2_ : Value} {p0 : RDevA} {p1 : UInt32} {r : List UInt8 × Int} (h : f_ref07_Device_Read p0 p1 = some r)  : Con Try.prog K w0 45 [vP b0_ 0, vU32 p1] [own b0_ (.cells #[v0x0_, v0x1_, v0x2_, vU64 p0.rcnt, vS p0.rtag, vU32 p0.rboots, vI p0.left, vB p0.off] 63), rowT 9 1 v0x0_ eS p0.blk, rowT 9 1 v0x1_ eS p0.pnd, rowT 4 1 v0x2_ eB p0.bads] H (fun u M => u = .tuple #[vS r.1, vI r.2] ∧ M = [own b0_ (.cells #[v0x0_, v0x1_, v0x2_, vU64 p0.rcnt, vS p0.rtag, vU32 p0.rboots, vI p0.left, vB p0.off] 63), rowT 9 1 v0x0_ eS p0.blk, rowT 9 1 v0x1_ eS p0.pnd, rowT 4 1 v0x2_ eB p0.bads]) := by
  unfold f_ref07_Device_Read at h
  refine Con.enter Try.func45 rfl rfl ?_
  refine SX.sr ?_
  refine SL.asg ⟨rfl, rfl, rfl, rfl⟩ rfl ?_
  refine SL.asg ⟨rfl, rfl, rfl, rfl⟩ rfl ?_
  refine SL.nx ?_
  refine SX.seq ?_
  refine SX.sr ?_
  obtain ⟨y1, hy1, h⟩ := bnd h
  refine SL.mv ⟨rfl, rfl, rfl, rfl⟩ rfl ?_
  refine SL.mv ⟨rfl, rfl, rfl, rfl⟩ rfl ?_
  refine SL.call (vs := [_, _]) (Hin := [_, _, _, _]) (Hr := _) ⟨rfl, rfl, rfl, rfl⟩ rfl ⟨rfl, rfl, trivial⟩ cal55 rfl rfl (c_ref07_Device_is hy1) ?_
  rintro _ _ ⟨rfl, rfl⟩
  refine ⟨trivial, ?_⟩
  refine SL.not ⟨rfl, rfl, rfl, rfl⟩ rfl ?_
  refine SL.nx ?_
  refine SX.cond rfl (fun hc1 => ?_) (fun hc1 => ?_)
  · skip
    replace h := cT hc1 h
    refine SX.sr ?_
    refine SL.asg ⟨rfl, rfl, rfl, rfl⟩ rfl ?_
    refine SL.asg ⟨rfl, rfl, rfl, rfl⟩ rfl ?_
    refine SL.nx ?_
    refine SX.ret ?_
    refine SQ.thnR ?_
    obtain rfl := Option.some.inj h
    exact SQ.fret (res2 rfl rfl rfl) (ret_of (M := [_, _, _, _]) ⟨rfl, rfl⟩ fun _ hw => HpOk.pick (H := [_, _, _, _]) hw [0, 1, 2, 3] 4 rfl)
  · skip
    replace h := cF hc1 h
    refine SX.skip ?_
    refine SQ.thn ?_
    refine SX.seq ?_
    refine SX.sr ?_
    refine SL.mv ⟨rfl, rfl, rfl, rfl⟩ rfl ?_
    refine SL.nchk ⟨rfl, rfl, rfl, rfl⟩ rfl ?_
    refine SL.fa ⟨rfl, rfl, rfl, rfl⟩ rfl fo63_5 ?_
    refine SL.ld ⟨rfl, rfl, rfl, rfl⟩ sc4 rfl (cell_own 0 rfl rfl) ?_
    refine SL.nx ?_
    refine SX.cond rfl (fun hc2 => ?_) (fun hc2 => ?_)
    · skip
      replace h := cT hc2 h
      refine SX.sr ?_
      refine SL.asg ⟨rfl, rfl, rfl, rfl⟩ rfl ?_
      refine SL.asg ⟨rfl, rfl, rfl, rfl⟩ rfl ?_
      refine SL.nx ?_
      refine SX.ret ?_
      refine SQ.thnR ?_
      obtain rfl := Option.some.inj h
      exact SQ.fret (res2 rfl rfl rfl) (ret_of (M := [_, _, _, _]) ⟨rfl, rfl⟩ fun _ hw => HpOk.pick (H := [_, _, _, _]) hw [0, 1, 2, 3] 4 rfl)
    · skip
      replace h := cF hc2 h
      refine SX.skip ?_
      refine SQ.thn ?_
      refine SX.seq ?_
      refine SX.sr ?_
      obtain ⟨x1, hx1, h⟩ := bnd h
      refine SL.mv ⟨rfl, rfl, rfl, rfl⟩ rfl ?_
      refine SL.nchk ⟨rfl, rfl, rfl, rfl⟩ rfl ?_
      refine SL.fa ⟨rfl, rfl, rfl, rfl⟩ rfl fo63_2 ?_
      refine SL.ld ⟨rfl, rfl, rfl, rfl⟩ sc61 rfl (cell_own 0 rfl rfl) ?_
      refine SL.mv ⟨rfl, rfl, rfl, rfl⟩ rfl ?_
      refine SL.iaT 3 hx1 ⟨rfl, rfl, rfl, rfl⟩ ty61 sz4 rfl rfl rfl fun g1 m1 cp1 hv1 => ?_
      refine SL.ld ⟨rfl, rfl, rfl, rfl⟩ sc4 rfl (cell_rowT (sz := 1) (enc := eB) 3 0 (fun _ => rfl) rfl hv1 hx1 rfl) ?_
      refine SL.nx ?_
      refine SX.cond rfl (fun hc3 => ?_) (fun hc3 => ?_)
      · skip
        replace h := cT hc3 h
        refine SX.sr ?_
        refine SL.asg ⟨rfl, rfl, rfl, rfl⟩ rfl ?_
        refine SL.asg ⟨rfl, rfl, rfl, rfl⟩ rfl ?_
        refine SL.nx ?_
        refine SX.ret ?_
        refine SQ.thnR ?_
        obtain rfl := Option.some.inj h
        exact SQ.fret (res2 rfl rfl rfl) (ret_of (M := [_, _, _, _]) ⟨rfl, rfl⟩ fun _ hw => HpOk.pick (H := [_, _, _, _]) hw [0, 1, 2, 3] 4 rfl)
      · skip
        replace h := cF hc3 h
        refine SX.skip ?_
        refine SQ.thn ?_
        refine SX.sr ?_
        obtain ⟨y2, hy2, h⟩ := bnd h
        refine SL.mv ⟨rfl, rfl, rfl, rfl⟩ rfl ?_
        refine SL.mv ⟨rfl, rfl, rfl, rfl⟩ rfl ?_
        refine SL.call (vs := [_, _]) (Hin := [_, _, _, _]) (Hr := _) ⟨rfl, rfl, rfl, rfl⟩ rfl ⟨rfl, rfl, trivial⟩ cal46 rfl rfl (c_ref07_Device_Holds hy2) ?_
        rintro _ _ ⟨rfl, rfl⟩
        refine ⟨trivial, ?_⟩
        refine SL.asg ⟨rfl, rfl, rfl, rfl⟩ rfl ?_
        refine SL.asg ⟨rfl, rfl, rfl, rfl⟩ rfl ?_
        refine SL.nx ?_
        refine SX.ret ?_
        obtain rfl := Option.some.inj h
        exact SQ.fret (res2 rfl rfl rfl) (ret_of (M := [_, _, _, _]) ⟨rfl, rfl⟩ fun _ hw => HpOk.pick (H := [_, _, _, _]) hw [0, 1, 2, 3] 4 rfl)

def f_ref07_Device_Image_j1 (l1 : List (List UInt8)) : Option (List (List UInt8)) :=
  some l1
def f_ref07_Device_Image_l1_b (p0 : RDevA) (nx_f_ref07_Device_Image_l1 : List (List UInt8) × Int → Option (List (List UInt8))) (l2 : List (List UInt8)) (a1 : Int) : Option (List (List UInt8)) :=
  cond (decide (a1 < (p0.blk.length : Int)))
  (
    (f_ref07_Device_Holds p0 (toU32 a1)).bind fun y1 =>
    (appL 16 l2 [y1]).bind fun l3 =>
    ret (wI (a1 + 1)) fun i_1 =>
    nx_f_ref07_Device_Image_l1 (l3, i_1))
  (
    f_ref07_Device_Image_j1 l2)
def f_ref07_Device_Image_l1 (p0 : RDevA) : Nat → (List (List UInt8) × Int) → Option (List (List UInt8)) := loopN fun nx x => f_ref07_Device_Image_l1_b p0 nx x.1 x.2
def f_ref07_Device_Image (n : Nat) (p0 : RDevA) : Option (List (List UInt8)) :=
  f_ref07_Device_Image_l1 p0 n ([], 0)
set_option maxRecDepth 100000 in
theorem c_ref07_Device_Image {n : Nat} {b0_ : Nat} {v0x0_ : Value} {v0x1_ : Value} {v0x2_ : Value} {p0 : RDevA} {r : List (List UInt8)} (h : f_ref07_Device_Image n p0 = some r)  : Con Try.prog K w0 28 [vP b0_ 0] [own b0_ (.cells #[v0x0_, v0x1_, v0x2_, vU64 p0.rcnt, vS p0.rtag, vU32 p0.rboots, vI p0.left, vB p0.off] 63), rowT 9 1 v0x0_ eS p0.blk, rowT 9 1 v0x1_ eS p0.pnd, rowT 4 1 v0x2_ eB p0.bads] H (fun u M => ∃ v0 : Value, u = v0 ∧ M = [rowT 9 1 v0 eS r, own b0_ (.cells #[v0x0_, v0x1_, v0x2_, vU64 p0.rcnt, vS p0.rtag, vU32 p0.rboots, vI p0.left, vB p0.off] 63), rowT 9 1 v0x0_ eS p0.blk, rowT 9 1 v0x1_ eS p0.pnd, rowT 4 1 v0x2_ eB p0.bads]) := by
  unfold f_ref07_Device_Image at h
  refine Con.enter Try.func28 rfl rfl ?_
  refine SX.sr ?_
  refine SL.nilT 9 1 eS ?_
  refine SL.asg ⟨rfl, rfl, rfl, rfl⟩ rfl ?_
  refine SL.nx ?_
  refine SX.sr ?_
  refine SL.nilT 9 1 eS ?_
  refine SL.asg ⟨rfl, rfl, rfl, rfl⟩ rfl ?_
  refine SL.nx ?_
  refine SX.meetD (α := List (List UInt8) × Value) (fun x => f_ref07_Device_Image_j1 x.1 = some r) (fun x => [(0, vP b0_ 0), (3, x.2)]) (fun x => own b0_ (.cells #[v0x0_, v0x1_, v0x2_, vU64 p0.rcnt, vS p0.rtag, vU32 p0.rboots, vI p0.left, vB p0.off] 63) :: rowT 9 1 v0x0_ eS p0.blk :: rowT 9 1 v0x1_ eS p0.pnd :: rowT 4 1 v0x2_ eB p0.bads :: rowT 9 1 x.2 eS x.1 :: H) ?_ (fun x D h => ?_)
  · skip
    refine SX.sr ?_
    refine SL.asg ⟨rfl, rfl, rfl, rfl⟩ rfl ?_
    refine SL.nx ?_
    refine SX.block ?_
    refine SX.heap (SX.mono (SX.loop (α := Nat × List (List UInt8) × Value × Int) (fun x => f_ref07_Device_Image_l1 p0 x.1 (x.2.1, x.2.2.2) = some r) (fun x => [(0, vP b0_ 0), (3, x.2.2.1), (4, vI x.2.2.2)]) (fun x => own b0_ (.cells #[v0x0_, v0x1_, v0x2_, vU64 p0.rcnt, vS p0.rtag, vU32 p0.rboots, vI p0.left, vB p0.off] 63) :: rowT 9 1 v0x0_ eS p0.blk :: rowT 9 1 v0x1_ eS p0.pnd :: rowT 4 1 v0x2_ eB p0.bads :: rowT 9 1 x.2.2.1 eS x.2.1 :: H) (fun x => x.1) (fun x D h => ?_) (n, [], .slice none 0 0, 0) h) (by repeat' (first | exact trivial | refine And.intro rfl ?_))) (fun _ hw => HpOk.pick (H := [_, _, _, _, _, _]) hw [2, 3, 4, 5, 0] 6 rfl)
    obtain ⟨m1, l2, v2, a1⟩ := x
    dsimp only at h
    rcases m1 with _ | m1
    · cases (show (none : Option _) = some r from h)
    replace h : f_ref07_Device_Image_l1_b p0 (f_ref07_Device_Image_l1 p0 m1) l2 a1 = some r := h
    unfold f_ref07_Device_Image_l1_b at h
    refine SX.re [(0, vP b0_ 0), (3, v2), (4, vI a1)] (own b0_ (.cells #[v0x0_, v0x1_, v0x2_, vU64 p0.rcnt, vS p0.rtag, vU32 p0.rboots, vI p0.left, vB p0.off] 63) :: rowT 9 1 v0x0_ eS p0.blk :: rowT 9 1 v0x1_ eS p0.pnd :: rowT 4 1 v0x2_ eB p0.bads :: rowT 9 1 v2 eS l2 :: H) ?_ (by repeat' (first | exact trivial | refine And.intro rfl ?_))
    refine SX.seq ?_
    refine SX.sr ?_
    refine SL.mv ⟨rfl, rfl, rfl, rfl⟩ rfl ?_
    refine SL.mv ⟨rfl, rfl, rfl, rfl⟩ rfl ?_
    refine SL.nchk ⟨rfl, rfl, rfl, rfl⟩ rfl ?_
    refine SL.fa ⟨rfl, rfl, rfl, rfl⟩ rfl fo63_0 ?_
    refine SL.ld ⟨rfl, rfl, rfl, rfl⟩ sc41 rfl (cell_own 0 rfl rfl) ?_
    refine SL.lenT 1 ⟨rfl, rfl, rfl, rfl⟩ ty41 rfl rfl ?_
    refine SL.bin ⟨rfl, rfl, rfl, rfl⟩ rfl rfl Bin.ltI ?_
    refine SL.nx ?_
    refine SX.cond rfl (fun hc1 => ?_) (fun hc1 => ?_)
    · skip
      replace h := cT hc1 h
      refine SX.skip ?_
      refine SQ.thn ?_
      refine SX.seq ?_
      refine SX.block ?_
      refine SX.region ?_
      obtain ⟨y1, hy1, h⟩ := bnd h
      obtain ⟨l3, hl3, h⟩ := bnd h
      refine SL.mv ⟨rfl, rfl, rfl, rfl⟩ rfl ?_
      refine SL.mv ⟨rfl, rfl, rfl, rfl⟩ rfl ?_
      refine SL.mv ⟨rfl, rfl, rfl, rfl⟩ rfl ?_
      refine SL.cv ⟨rfl, rfl, rfl, rfl⟩ rfl (Cv.i_32 ty3 ty22) ?_
      refine SL.call (vs := [_, _]) (Hin := [_, _, _, _]) (Hr := _ :: _) ⟨rfl, rfl, rfl, rfl⟩ rfl ⟨rfl, rfl, trivial⟩ cal46 rfl rfl (c_ref07_Device_Holds hy1) ?_
      rintro _ _ ⟨rfl, rfl⟩
      refine ⟨trivial, ?_⟩
      refine SL.bsl [_] ⟨rfl, rfl, rfl, rfl⟩ ty41 sz9 ze9 ⟨rfl, trivial⟩ rfl rfl rfl (by simp [Value.cells]) rfl rfl (fun _ => trivial) fun b1 => ?_
      refine SL.ownT eS 1 ([y1] : List (List UInt8)) rfl (fun _ => rfl) rfl ?_
      refine SL.appT 5 hl3 (sz := 1) (enc := eS) (fun _ => rfl) ⟨rfl, rfl, rfl, rfl⟩ ty41 sz9 by9 ze9 rfl (by decide) rfl rfl rfl rfl (cells_rowA (sz := 1) (enc := eS) 0 (fun _ => rfl) rfl) (by simp [eS, Value.oneCell']) (fun _ => trivial) fun v3 => ?_
      refine SL.asg ⟨rfl, rfl, rfl, rfl⟩ rfl ?_
      refine SL.nil ?_
      refine SQ.blk ?_
      refine SQ.thn ?_
      refine SX.region ?_
      obtain ⟨i_1, ei_1, h⟩ := retE h
      refine SL.mv ⟨rfl, rfl, rfl, rfl⟩ rfl ?_
      refine SL.bin ⟨rfl, rfl, rfl, rfl⟩ rfl rfl Bin.addW ?_
      refine SL.asgX (u := vI i_1) ⟨rfl, rfl, rfl, rfl⟩ rfl (congrArg vI ei_1) ?_
      refine SL.nil ?_
      exact SQ.again (m1, l3, v3, i_1) h (Nat.lt_succ_self _) (by repeat' (first | exact trivial | refine And.intro rfl ?_)) (fun _ hw => HpOk.pick (H := [_, _, _, _, _, _]) hw [1, 2, 3, 4, 5] 6 rfl)
    · skip
      replace h := cF hc1 h
      refine SX.exit ?_
      refine SQ.thnE ?_
      refine SQ.lpE ?_
      refine SQ.blkE ?_
      exact SQ.midD (l2, v2) h (by repeat' (first | exact trivial | refine And.intro rfl ?_)) (fun _ hw => HpOk.pick (H := [_, _, _, _, _]) hw [0, 1, 2, 3, 4] 5 rfl)
  · skip
    obtain ⟨l1, v1⟩ := x
    dsimp only at h
    unfold f_ref07_Device_Image_j1 at h
    refine SX.re [(0, vP b0_ 0), (3, v1)] (own b0_ (.cells #[v0x0_, v0x1_, v0x2_, vU64 p0.rcnt, vS p0.rtag, vU32 p0.rboots, vI p0.left, vB p0.off] 63) :: rowT 9 1 v0x0_ eS p0.blk :: rowT 9 1 v0x1_ eS p0.pnd :: rowT 4 1 v0x2_ eB p0.bads :: rowT 9 1 v1 eS l1 :: H) ?_ (by repeat' (first | exact trivial | refine And.intro rfl ?_))
    refine SX.sr ?_
    refine SL.mv ⟨rfl, rfl, rfl, rfl⟩ rfl ?_
    refine SL.asg ⟨rfl, rfl, rfl, rfl⟩ rfl ?_
    refine SL.nx ?_
    refine SX.ret ?_
    obtain rfl := Option.some.inj h
    exact SQ.fret (res1 rfl rfl) (ret_of (M := [_, _, _, _, _]) ⟨v1, rfl, rfl⟩ fun _ hw => HpOk.pick (H := [_, _, _, _, _]) hw [4, 0, 1, 2, 3] 5 rfl)


end Go.Proofs.Ytmnmepaopodblaa

/- Wrappers of strings.Repeat and slices.Repeat as the printed walks want them. Condition: they yield. -/
namespace Go.Proofs.Ytmnmepaopodblaa
open Go
variable {K : Nat → Prop} {w0 : World} {H : List Chunk}
def rep0O (s : List UInt8) (n : Int) : Option (List UInt8) := if s = [0] ∧ 0 ≤ n ∧ n ≤ 8192 then some (List.replicate n.toNat 0) else none
theorem w_rep0 {p0 : List UInt8} {p1 : Int} {r : List UInt8} (h : rep0O p0 p1 = some r) : Con Try.prog K w0 30 [vS p0, vI p1] [] H (fun u M => u = vS r ∧ M = []) := by
  unfold rep0O at h
  split at h
  · rename_i hc
    obtain ⟨rfl, h0, h1⟩ := hc
    obtain rfl := Option.some.inj h
    have := c_Repeat0 (K := K) (w0 := w0) (H := H) p1.toNat (by omega)
    rwa [show ((p1.toNat : Nat) : Int) = p1 by omega] at this
  · cases h
def srepO (l : List (List UInt8)) (n : Int) : Option (List (List UInt8)) :=
  match l with
  | [s] => if 1 ≤ n ∧ n ≤ 1000000 then some (List.replicate n.toNat s) else none
  | _ => none
theorem w_srep {v0_ : Value} {p0 : List (List UInt8)} {p1 : Int} {r : List (List UInt8)} (h : srepO p0 p1 = some r) (hs0_ : SlOf K w0 eS 1 v0_ p0) : Con Try.prog K w0 31 [v0_, vI p1] [] H (fun u M => ∃ v0 : Value, u = v0 ∧ M = [rowT 9 1 v0 eS r]) := by
  unfold srepO at h
  split at h
  · split at h
    · rename_i hc
      obtain rfl := Option.some.inj h
      have := c_sRepeat (K := K) (w0 := w0) (H := H) p1.toNat (by omega) (by omega) hs0_
      rwa [show ((p1.toNat : Nat) : Int) = p1 by omega] at this
    · cases h
  · cases h
end Go.Proofs.Ytmnmepaopodblaa

/- Plain functions of the references and the laws, printed from the loaded program, and the walks that show that the program computes them. Condition: the plain function yields. -/
namespace Go.Proofs.Ytmnmepaopodblaa
open Go
variable {K : Nat → Prop} {w0 : World} {H : List Chunk}

def f_math_bits_Len64_j3 (a5 : UInt64) (a6 : Int) : Option Int :=
  (nthI ([0, 1, 2, 2, 3, 3, 3, 3, 4, 4, 4, 4, 4, 4, 4, 4, 5, 5, 5, 5, 5, 5, 5, 5, 5, 5, 5, 5, 5, 5, 5, 5, 6, 6, 6, 6, 6, 6, 6, 6, 6, 6, 6, 6, 6, 6, 6, 6, 6, 6, 6, 6, 6, 6, 6, 6, 6, 6, 6, 6, 6, 6, 6, 6, 7, 7, 7, 7, 7, 7, 7, 7, 7, 7, 7, 7, 7, 7, 7, 7, 7, 7, 7, 7, 7, 7, 7, 7, 7, 7, 7, 7, 7, 7, 7, 7, 7, 7, 7, 7, 7, 7, 7, 7, 7, 7, 7, 7, 7, 7, 7, 7, 7, 7, 7, 7, 7, 7, 7, 7, 7, 7, 7, 7, 7, 7, 7, 7, 8, 8, 8, 8, 8, 8, 8, 8, 8, 8, 8, 8, 8, 8, 8, 8, 8, 8, 8, 8, 8, 8, 8, 8, 8, 8, 8, 8, 8, 8, 8, 8, 8, 8, 8, 8, 8, 8, 8, 8, 8, 8, 8, 8, 8, 8, 8, 8, 8, 8, 8, 8, 8, 8, 8, 8, 8, 8, 8, 8, 8, 8, 8, 8, 8, 8, 8, 8, 8, 8, 8, 8, 8, 8, 8, 8, 8, 8, 8, 8, 8, 8, 8, 8, 8, 8, 8, 8, 8, 8, 8, 8, 8, 8, 8, 8, 8, 8, 8, 8, 8, 8, 8, 8, 8, 8, 8, 8, 8, 8, 8, 8, 8, 8, 8, 8, 8, 8, 8, 8, 8, 8, 8, 8, 8, 8, 8, 8] : List UInt8) (a5.toUInt8.toNat : Int)).bind fun c1 =>
  ret (wI (a6 + (c1.toNat : Int))) fun x6 =>
  some x6
def f_math_bits_Len64_j2 (a3 : UInt64) (a4 : Int) : Option Int :=
  cond (decide (256 ≤ a3))
  (
    ret (shr64 a3 8) fun x4 =>
    ret (wI (a4 + 8)) fun x5 =>
    f_math_bits_Len64_j3 x4 x5)
  (
    f_math_bits_Len64_j3 a3 a4)
def f_math_bits_Len64_j1 (a1 : UInt64) (a2 : Int) : Option Int :=
  cond (decide (65536 ≤ a1))
  (
    ret (shr64 a1 16) fun x2 =>
    ret (wI (a2 + 16)) fun x3 =>
    f_math_bits_Len64_j2 x2 x3)
  (
    f_math_bits_Len64_j2 a1 a2)
def f_math_bits_Len64 (p0 : UInt64) : Option Int :=
  cond (decide (4294967296 ≤ p0))
  (
    ret (shr64 p0 32) fun x1 =>
    f_math_bits_Len64_j1 x1 32)
  (
    f_math_bits_Len64_j1 p0 0)
set_option maxRecDepth 100000 in
theorem c_math_bits_Len64 {p0 : UInt64} {r : Int} (h : f_math_bits_Len64 p0 = some r)  : Con Try.prog K w0 76 [vU64 p0] [] H (fun u M => u = vI r ∧ M = []) := by
  unfold f_math_bits_Len64 at h
  refine Con.enter Try.func76 rfl rfl ?_
  refine SX.sr ?_
  refine SL.asg ⟨rfl, rfl, rfl, rfl⟩ rfl ?_
  refine SL.nx ?_
  refine SX.meetD (α := UInt64 × Int) (fun x => f_math_bits_Len64_j1 x.1 x.2 = some r) (fun x => [(0, vU64 x.1), (2, vI x.2)]) (fun x => H) ?_ (fun x D h => ?_)
  · skip
    refine SX.sr ?_
    refine SL.mv ⟨rfl, rfl, rfl, rfl⟩ rfl ?_
    refine SL.bin ⟨rfl, rfl, rfl, rfl⟩ rfl rfl (Bin.ge64 (b := 4294967296)) ?_
    refine SL.nx ?_
    refine SX.cond rfl (fun hc1 => ?_) (fun hc1 => ?_)
    · skip
      replace h := cT hc1 h
      refine SX.sr ?_
      obtain ⟨x1, ex1, h⟩ := retE h
      refine SL.mv ⟨rfl, rfl, rfl, rfl⟩ rfl ?_
      refine SL.bin ⟨rfl, rfl, rfl, rfl⟩ rfl rfl (Bin.shr64 (n := 32)) ?_
      refine SL.asgX (u := vU64 x1) ⟨rfl, rfl, rfl, rfl⟩ rfl (congrArg vU64 ex1) ?_
      refine SL.nx ?_
      refine SX.region ?_
      refine SL.asg ⟨rfl, rfl, rfl, rfl⟩ rfl ?_
      refine SL.nil ?_
      exact SQ.midD (x1, 32) h (by repeat' (first | exact trivial | refine And.intro rfl ?_)) (fun _ hw => HpOk.pick (H := []) hw [] 0 rfl)
    · skip
      replace h := cF hc1 h
      refine SX.skip ?_
      exact SQ.midD (p0, 0) h (by repeat' (first | exact trivial | refine And.intro rfl ?_)) (fun _ hw => HpOk.pick (H := []) hw [] 0 rfl)
  · skip
    obtain ⟨a1, a2⟩ := x
    dsimp only at h
    unfold f_math_bits_Len64_j1 at h
    refine SX.re [(0, vU64 a1), (2, vI a2)] (H) ?_ (by repeat' (first | exact trivial | refine And.intro rfl ?_))
    refine SX.meetD (α := UInt64 × Int) (fun x => f_math_bits_Len64_j2 x.1 x.2 = some r) (fun x => [(0, vU64 x.1), (2, vI x.2)]) (fun x => H) ?_ (fun x D h => ?_)
    · skip
      refine SX.sr ?_
      refine SL.mv ⟨rfl, rfl, rfl, rfl⟩ rfl ?_
      refine SL.bin ⟨rfl, rfl, rfl, rfl⟩ rfl rfl (Bin.ge64 (b := 65536)) ?_
      refine SL.nx ?_
      refine SX.cond rfl (fun hc2 => ?_) (fun hc2 => ?_)
      · skip
        replace h := cT hc2 h
        refine SX.sr ?_
        obtain ⟨x2, ex2, h⟩ := retE h
        refine SL.mv ⟨rfl, rfl, rfl, rfl⟩ rfl ?_
        refine SL.bin ⟨rfl, rfl, rfl, rfl⟩ rfl rfl (Bin.shr64 (n := 16)) ?_
        refine SL.asgX (u := vU64 x2) ⟨rfl, rfl, rfl, rfl⟩ rfl (congrArg vU64 ex2) ?_
        refine SL.nx ?_
        refine SX.region ?_
        obtain ⟨x3, ex3, h⟩ := retE h
        refine SL.mv ⟨rfl, rfl, rfl, rfl⟩ rfl ?_
        refine SL.bin ⟨rfl, rfl, rfl, rfl⟩ rfl rfl Bin.addW ?_
        refine SL.asgX (u := vI x3) ⟨rfl, rfl, rfl, rfl⟩ rfl (congrArg vI ex3) ?_
        refine SL.nil ?_
        exact SQ.midD (x2, x3) h (by repeat' (first | exact trivial | refine And.intro rfl ?_)) (fun _ hw => HpOk.pick (H := []) hw [] 0 rfl)
      · skip
        replace h := cF hc2 h
        refine SX.skip ?_
        exact SQ.midD (a1, a2) h (by repeat' (first | exact trivial | refine And.intro rfl ?_)) (fun _ hw => HpOk.pick (H := []) hw [] 0 rfl)
    · skip
      obtain ⟨a3, a4⟩ := x
      dsimp only at h
      unfold f_math_bits_Len64_j2 at h
      refine SX.re [(0, vU64 a3), (2, vI a4)] (H) ?_ (by repeat' (first | exact trivial | refine And.intro rfl ?_))
      refine SX.meetD (α := UInt64 × Int) (fun x => f_math_bits_Len64_j3 x.1 x.2 = some r) (fun x => [(0, vU64 x.1), (2, vI x.2)]) (fun x => H) ?_ (fun x D h => ?_)
      · skip
        refine SX.sr ?_
        refine SL.mv ⟨rfl, rfl, rfl, rfl⟩ rfl ?_
        refine SL.bin ⟨rfl, rfl, rfl, rfl⟩ rfl rfl (Bin.ge64 (b := 256)) ?_
        refine SL.nx ?_
        refine SX.cond rfl (fun hc3 => ?_) (fun hc3 => ?_)
        · skip
          replace h := cT hc3 h
          refine SX.sr ?_
          obtain ⟨x4, ex4, h⟩ := retE h
          refine SL.mv ⟨rfl, rfl, rfl, rfl⟩ rfl ?_
          refine SL.bin ⟨rfl, rfl, rfl, rfl⟩ rfl rfl (Bin.shr64 (n := 8)) ?_
          refine SL.asgX (u := vU64 x4) ⟨rfl, rfl, rfl, rfl⟩ rfl (congrArg vU64 ex4) ?_
          refine SL.nx ?_
          refine SX.region ?_
          obtain ⟨x5, ex5, h⟩ := retE h
          refine SL.mv ⟨rfl, rfl, rfl, rfl⟩ rfl ?_
          refine SL.bin ⟨rfl, rfl, rfl, rfl⟩ rfl rfl Bin.addW ?_
          refine SL.asgX (u := vI x5) ⟨rfl, rfl, rfl, rfl⟩ rfl (congrArg vI ex5) ?_
          refine SL.nil ?_
          exact SQ.midD (x4, x5) h (by repeat' (first | exact trivial | refine And.intro rfl ?_)) (fun _ hw => HpOk.pick (H := []) hw [] 0 rfl)
        · skip
          replace h := cF hc3 h
          refine SX.skip ?_
          exact SQ.midD (a3, a4) h (by repeat' (first | exact trivial | refine And.intro rfl ?_)) (fun _ hw => HpOk.pick (H := []) hw [] 0 rfl)
      · skip
        obtain ⟨a5, a6⟩ := x
        dsimp only at h
        unfold f_math_bits_Len64_j3 at h
        refine SX.re [(0, vU64 a5), (2, vI a6)] (H) ?_ (by repeat' (first | exact trivial | refine And.intro rfl ?_))
        refine SX.sr ?_
        obtain ⟨c1, hc1, h⟩ := bnd h
        obtain ⟨x6, ex6, h⟩ := retE h
        refine SL.mv ⟨rfl, rfl, rfl, rfl⟩ rfl ?_
        refine SL.mv ⟨rfl, rfl, rfl, rfl⟩ rfl ?_
        refine SL.cv ⟨rfl, rfl, rfl, rfl⟩ rfl (Cv.u64_8 ty50 ty5) ?_
        refine SL.ixN hc1 ⟨rfl, rfl, rfl, rfl⟩ ty9 rfl rfl ?_
        refine SL.cv ⟨rfl, rfl, rfl, rfl⟩ rfl (Cv.u8_I ty5 ty3) ?_
        refine SL.bin ⟨rfl, rfl, rfl, rfl⟩ rfl rfl Bin.addW ?_
        refine SL.asgX (u := vI x6) ⟨rfl, rfl, rfl, rfl⟩ rfl (congrArg vI ex6) ?_
        refine SL.nx ?_
        refine SX.ret ?_
        obtain rfl := Option.some.inj h
        exact SQ.fret (res1 rfl rfl) (ret_of (M := []) ⟨rfl, rfl⟩ fun _ hw => HpOk.pick (H := []) hw [] 0 rfl)

def f_math_bits_Len (p0 : UInt64) : Option Int :=
  (f_math_bits_Len64 p0).bind fun y1 =>
  some y1
set_option maxRecDepth 100000 in
theorem c_math_bits_Len {p0 : UInt64} {r : Int} (h : f_math_bits_Len p0 = some r)  : Con Try.prog K w0 63 [vU64 p0] [] H (fun u M => u = vI r ∧ M = []) := by
  unfold f_math_bits_Len at h
  refine Con.enter Try.func63 rfl rfl ?_
  refine SX.sr ?_
  refine SL.asg ⟨rfl, rfl, rfl, rfl⟩ rfl ?_
  refine SL.nx ?_
  refine SX.seq ?_
  refine SX.condF rfl ?_
  refine SX.skip ?_
  refine SQ.thn ?_
  refine SX.sr ?_
  obtain ⟨y1, hy1, h⟩ := bnd h
  refine SL.mv ⟨rfl, rfl, rfl, rfl⟩ rfl ?_
  refine SL.call (vs := [_]) (Hin := []) (Hr := _) ⟨rfl, rfl, rfl, rfl⟩ rfl ⟨rfl, trivial⟩ cal76 rfl rfl (c_math_bits_Len64 hy1) ?_
  rintro _ _ ⟨rfl, rfl⟩
  refine ⟨trivial, ?_⟩
  refine SL.asg ⟨rfl, rfl, rfl, rfl⟩ rfl ?_
  refine SL.nx ?_
  refine SX.ret ?_
  obtain rfl := Option.some.inj h
  exact SQ.fret (res1 rfl rfl) (ret_of (M := []) ⟨rfl, rfl⟩ fun _ hw => HpOk.pick (H := []) hw [] 0 rfl)

def f_cmp_isNaN_uint32 (p0 : UInt32) : Option Bool :=
  ret (!decide (p0 = p0)) fun x1 =>
  some x1
set_option maxRecDepth 100000 in
theorem c_cmp_isNaN_uint32 {p0 : UInt32} {r : Bool} (h : f_cmp_isNaN_uint32 p0 = some r)  : Con Try.prog K w0 82 [vU32 p0] [] H (fun u M => u = vB r ∧ M = []) := by
  unfold f_cmp_isNaN_uint32 at h
  refine Con.enter Try.func82 rfl rfl ?_
  refine SX.sr ?_
  refine SL.asg ⟨rfl, rfl, rfl, rfl⟩ rfl ?_
  refine SL.nx ?_
  refine SX.sr ?_
  obtain ⟨x1, ex1, h⟩ := retE h
  refine SL.mv ⟨rfl, rfl, rfl, rfl⟩ rfl ?_
  refine SL.mv ⟨rfl, rfl, rfl, rfl⟩ rfl ?_
  refine SL.bin ⟨rfl, rfl, rfl, rfl⟩ rfl rfl Bin.ne32 ?_
  refine SL.asgX (u := vB x1) ⟨rfl, rfl, rfl, rfl⟩ rfl (congrArg vB ex1) ?_
  refine SL.nx ?_
  refine SX.ret ?_
  obtain rfl := Option.some.inj h
  exact SQ.fret (res1 rfl rfl) (ret_of (M := []) ⟨rfl, rfl⟩ fun _ hw => HpOk.pick (H := []) hw [] 0 rfl)

def f_cmp_Less_uint32 (p0 : UInt32) (p1 : UInt32) : Option Bool :=
  (f_cmp_isNaN_uint32 p0).bind fun y1 =>
  (andO y1 ((f_cmp_isNaN_uint32 p1).bind fun y2 => some (!y2))).bind fun y3 =>
  ret (y3 || (decide (p0 < p1))) fun x1 =>
  some x1
set_option maxRecDepth 100000 in
theorem c_cmp_Less_uint32 {p0 : UInt32} {p1 : UInt32} {r : Bool} (h : f_cmp_Less_uint32 p0 p1 = some r)  : Con Try.prog K w0 72 [vU32 p0, vU32 p1] [] H (fun u M => u = vB r ∧ M = []) := by
  unfold f_cmp_Less_uint32 at h
  refine Con.enter Try.func72 rfl rfl ?_
  refine SX.sr ?_
  refine SL.asg ⟨rfl, rfl, rfl, rfl⟩ rfl ?_
  refine SL.nx ?_
  refine SX.sr ?_
  obtain ⟨y1, hy1, h⟩ := bnd h
  obtain ⟨y3, hy3, h⟩ := bnd h
  obtain ⟨x1, ex1, h⟩ := retE h
  refine SL.mv ⟨rfl, rfl, rfl, rfl⟩ rfl ?_
  refine SL.call (vs := [_]) (Hin := []) (Hr := _) ⟨rfl, rfl, rfl, rfl⟩ rfl ⟨rfl, trivial⟩ cal82 rfl rfl (c_cmp_isNaN_uint32 hy1) ?_
  rintro _ _ ⟨rfl, rfl⟩
  refine ⟨trivial, ?_⟩
  refine SL.mv ⟨rfl, rfl, rfl, rfl⟩ rfl ?_
  refine SL.andN 7 4 11 hy3 rfl (fun hb hg1 k => ?_) (fun hb k => ?_) ?_
  · skip
    obtain ⟨y2, hy2, hg1⟩ := bnd hg1
    obtain rfl := Option.some.inj hg1
    refine SL.mv ⟨rfl, rfl, rfl, rfl⟩ rfl ?_
    refine SL.call (vs := [_]) (Hin := []) (Hr := _) ⟨rfl, rfl, rfl, rfl⟩ rfl ⟨rfl, trivial⟩ cal82 rfl rfl (c_cmp_isNaN_uint32 hy2) ?_
    rintro _ _ ⟨rfl, rfl⟩
    refine ⟨trivial, ?_⟩
    refine SL.not ⟨rfl, rfl, rfl, rfl⟩ rfl ?_
    refine SL.pk ⟨rfl, rfl, rfl, rfl⟩ rfl rfl ?_
    exact k.mono (by repeat' (first | exact trivial | refine And.intro rfl ?_))
  · skip
    refine SL.pass rfl rfl rfl ?_
    refine SL.pass rfl rfl rfl ?_
    refine SL.pass rfl rfl rfl ?_
    refine SL.pk ⟨rfl, rfl, rfl, rfl⟩ rfl rfl ?_
    exact k.mono (by repeat' (first | exact trivial | refine And.intro rfl ?_))
  refine SL.mv ⟨rfl, rfl, rfl, rfl⟩ rfl ?_
  refine SL.or (c := decide (p0 < p1)) 12 4 16 rfl (fun hb k => ?_) (fun hb k => ?_) ?_
  · skip
    refine SL.pass rfl rfl rfl ?_
    refine SL.pass rfl rfl rfl ?_
    refine SL.pass rfl rfl rfl ?_
    refine SL.pk ⟨rfl, rfl, rfl, rfl⟩ rfl rfl ?_
    exact k.mono (by repeat' (first | exact trivial | refine And.intro rfl ?_))
  · skip
    refine SL.mv ⟨rfl, rfl, rfl, rfl⟩ rfl ?_
    refine SL.mv ⟨rfl, rfl, rfl, rfl⟩ rfl ?_
    refine SL.bin ⟨rfl, rfl, rfl, rfl⟩ rfl rfl Bin.lt32 ?_
    refine SL.pk ⟨rfl, rfl, rfl, rfl⟩ rfl rfl ?_
    exact k.mono (by repeat' (first | exact trivial | refine And.intro rfl ?_))
  refine SL.asgX (u := vB x1) ⟨rfl, rfl, rfl, rfl⟩ rfl (congrArg vB ex1) ?_
  refine SL.nx ?_
  refine SX.ret ?_
  obtain rfl := Option.some.inj h
  exact SQ.fret (res1 rfl rfl) (ret_of (M := []) ⟨rfl, rfl⟩ fun _ hw => HpOk.pick (H := []) hw [] 0 rfl)

def f_slices_insertionSortOrdered_uint32_j1 (a1 : Int) (nx_f_slices_insertionSortOrdered_uint32_l1 : List UInt32 × Int → Option (List UInt32)) (l2 : List UInt32) : Option (List UInt32) :=
  ret (wI (a1 + 1)) fun i_2 =>
  nx_f_slices_insertionSortOrdered_uint32_l1 (l2, i_2)
def f_slices_insertionSortOrdered_uint32_l2_b (p1 : Int) (a1 : Int) (nx_f_slices_insertionSortOrdered_uint32_l1 : List UInt32 × Int → Option (List UInt32)) (nx_f_slices_insertionSortOrdered_uint32_l2 : List UInt32 × Int → Option (List UInt32)) (l3 : List UInt32) (a2 : Int) : Option (List UInt32) :=
  (andO (decide (p1 < a2)) ((nthI l3 a2).bind fun x1 => (nthI l3 (wI (a2 - 1))).bind fun x2 => (f_cmp_Less_uint32 x1 x2).bind fun y1 => some (y1))).bind fun y2 =>
  cond y2
  (
    (nthI l3 (wI (a2 - 1))).bind fun x3 =>
    (nthI l3 a2).bind fun x4 =>
    (nthI l3 a2).bind fun x5 =>
    (setI l3 a2 x3).bind fun l4 =>
    (nthI l4 (wI (a2 - 1))).bind fun x6 =>
    (setI l4 (wI (a2 - 1)) x4).bind fun l5 =>
    ret (wI (a2 - 1)) fun j_1 =>
    nx_f_slices_insertionSortOrdered_uint32_l2 (l5, j_1))
  (
    f_slices_insertionSortOrdered_uint32_j1 a1 nx_f_slices_insertionSortOrdered_uint32_l1 l3)
def f_slices_insertionSortOrdered_uint32_l2 (p1 : Int) (a1 : Int) (nx_f_slices_insertionSortOrdered_uint32_l1 : List UInt32 × Int → Option (List UInt32)) : Nat → (List UInt32 × Int) → Option (List UInt32) := loopN fun nx x => f_slices_insertionSortOrdered_uint32_l2_b p1 a1 nx_f_slices_insertionSortOrdered_uint32_l1 nx x.1 x.2
def f_slices_insertionSortOrdered_uint32_l1_b (n : Nat) (p1 : Int) (p2 : Int) (nx_f_slices_insertionSortOrdered_uint32_l1 : List UInt32 × Int → Option (List UInt32)) (l1 : List UInt32) (a1 : Int) : Option (List UInt32) :=
  cond (decide (a1 < p2))
  (
    f_slices_insertionSortOrdered_uint32_l2 p1 a1 nx_f_slices_insertionSortOrdered_uint32_l1 n (l1, a1))
  (
    some l1)
def f_slices_insertionSortOrdered_uint32_l1 (n : Nat) (p1 : Int) (p2 : Int) : Nat → (List UInt32 × Int) → Option (List UInt32) := loopN fun nx x => f_slices_insertionSortOrdered_uint32_l1_b n p1 p2 nx x.1 x.2
def f_slices_insertionSortOrdered_uint32 (n : Nat) (p0 : List UInt32) (p1 : Int) (p2 : Int) : Option (List UInt32) :=
  ret (wI (p1 + 1)) fun i_1 =>
  f_slices_insertionSortOrdered_uint32_l1 n p1 p2 n (p0, i_1)
set_option maxRecDepth 100000 in
theorem c_slices_insertionSortOrdered_uint32 {n : Nat} {v0_ : Value} {p0 : List UInt32} {p1 : Int} {p2 : Int} {r : List UInt32} (h : f_slices_insertionSortOrdered_uint32 n p0 p1 p2 = some r)  : Con Try.prog K w0 66 [v0_, vI p1, vI p2] [rowT 22 1 v0_ eU32 p0] H (fun u M => u = .tuple #[] ∧ M = [rowT 22 1 v0_ eU32 r]) := by
  unfold f_slices_insertionSortOrdered_uint32 at h
  refine Con.enter Try.func66 rfl rfl ?_
  refine SX.sr ?_
  obtain ⟨i_1, ei_1, h⟩ := retE h
  refine SL.mv ⟨rfl, rfl, rfl, rfl⟩ rfl ?_
  refine SL.bin ⟨rfl, rfl, rfl, rfl⟩ rfl rfl Bin.addW ?_
  refine SL.asgX (u := vI i_1) ⟨rfl, rfl, rfl, rfl⟩ rfl (congrArg vI ei_1) ?_
  refine SL.nx ?_
  refine SX.block ?_
  refine SX.heap (SX.mono (SX.loop (α := Nat × List UInt32 × Int) (fun x => f_slices_insertionSortOrdered_uint32_l1 n p1 p2 x.1 (x.2.1, x.2.2) = some r) (fun x => [(0, v0_), (1, vI p1), (2, vI p2), (6, vI x.2.2)]) (fun x => rowT 22 1 v0_ eU32 x.2.1 :: H) (fun x => x.1) (fun x D h => ?_) (n, p0, i_1) h) (by repeat' (first | exact trivial | refine And.intro rfl ?_))) (fun _ hw => HpOk.pick (H := [_]) hw [0] 1 rfl)
  obtain ⟨m1, l1, a1⟩ := x
  dsimp only at h
  rcases m1 with _ | m1
  · cases (show (none : Option _) = some r from h)
  replace h : f_slices_insertionSortOrdered_uint32_l1_b n p1 p2 (f_slices_insertionSortOrdered_uint32_l1 n p1 p2 m1) l1 a1 = some r := h
  unfold f_slices_insertionSortOrdered_uint32_l1_b at h
  refine SX.re [(0, v0_), (1, vI p1), (2, vI p2), (6, vI a1)] (rowT 22 1 v0_ eU32 l1 :: H) ?_ (by repeat' (first | exact trivial | refine And.intro rfl ?_))
  refine SX.seq ?_
  refine SX.sr ?_
  refine SL.mv ⟨rfl, rfl, rfl, rfl⟩ rfl ?_
  refine SL.mv ⟨rfl, rfl, rfl, rfl⟩ rfl ?_
  refine SL.bin ⟨rfl, rfl, rfl, rfl⟩ rfl rfl Bin.ltI ?_
  refine SL.nx ?_
  refine SX.cond rfl (fun hc1 => ?_) (fun hc1 => ?_)
  · skip
    replace h := cT hc1 h
    refine SX.skip ?_
    refine SQ.thn ?_
    refine SX.meetD (α := List UInt32) (fun x => f_slices_insertionSortOrdered_uint32_j1 a1 (f_slices_insertionSortOrdered_uint32_l1 n p1 p2 m1) x = some r) (fun x => [(0, v0_), (1, vI p1), (2, vI p2), (6, vI a1)]) (fun x => rowT 22 1 v0_ eU32 x :: H) ?_ (fun l2 D h => ?_)
    · skip
      refine SX.block ?_
      refine SX.sr ?_
      refine SL.mv ⟨rfl, rfl, rfl, rfl⟩ rfl ?_
      refine SL.asg ⟨rfl, rfl, rfl, rfl⟩ rfl ?_
      refine SL.nx ?_
      refine SX.block ?_
      refine SX.heap (SX.mono (SX.loop (α := Nat × List UInt32 × Int) (fun x => f_slices_insertionSortOrdered_uint32_l2 p1 a1 (f_slices_insertionSortOrdered_uint32_l1 n p1 p2 m1) x.1 (x.2.1, x.2.2) = some r) (fun x => [(0, v0_), (1, vI p1), (2, vI p2), (6, vI a1), (7, vI x.2.2)]) (fun x => rowT 22 1 v0_ eU32 x.2.1 :: H) (fun x => x.1) (fun x D h => ?_) (n, l1, a1) h) (by repeat' (first | exact trivial | refine And.intro rfl ?_))) (fun _ hw => HpOk.pick (H := [_]) hw [0] 1 rfl)
      obtain ⟨m2, l3, a2⟩ := x
      dsimp only at h
      rcases m2 with _ | m2
      · cases (show (none : Option _) = some r from h)
      replace h : f_slices_insertionSortOrdered_uint32_l2_b p1 a1 (f_slices_insertionSortOrdered_uint32_l1 n p1 p2 m1) (f_slices_insertionSortOrdered_uint32_l2 p1 a1 (f_slices_insertionSortOrdered_uint32_l1 n p1 p2 m1) m2) l3 a2 = some r := h
      unfold f_slices_insertionSortOrdered_uint32_l2_b at h
      refine SX.re [(0, v0_), (1, vI p1), (2, vI p2), (6, vI a1), (7, vI a2)] (rowT 22 1 v0_ eU32 l3 :: H) ?_ (by repeat' (first | exact trivial | refine And.intro rfl ?_))
      refine SX.seq ?_
      refine SX.seq ?_
      obtain ⟨y2, hy2, h⟩ := bnd h
      refine SX.drawI mix [0] (Pl.of [(true, 0), (true, 1), (true, 2), (true, 3), (true, 4), (true, 5), (true, 6), (true, 7), (true, 8), (true, 9), (true, 10), (true, 11), (true, 12), (false, 13), (false, 14)]) (by kernel_rfl) ?_
      refine SL.mv ⟨rfl, rfl, rfl, rfl⟩ rfl ?_
      refine SL.mv ⟨rfl, rfl, rfl, rfl⟩ rfl ?_
      refine SL.bin ⟨rfl, rfl, rfl, rfl⟩ rfl rfl Bin.gtI ?_
      refine SL.mv ⟨rfl, rfl, rfl, rfl⟩ rfl ?_
      refine SL.andN 19 11 30 hy2 rfl (fun hb hg1 k => ?_) (fun hb k => ?_) ?_
      · skip
        obtain ⟨x1, hx1, hg1⟩ := bnd hg1
        obtain ⟨x2, hx2, hg1⟩ := bnd hg1
        obtain ⟨y1, hy1, hg1⟩ := bnd hg1
        obtain rfl := Option.some.inj hg1
        refine SL.mv ⟨rfl, rfl, rfl, rfl⟩ rfl ?_
        refine SL.mv ⟨rfl, rfl, rfl, rfl⟩ rfl ?_
        refine SL.iaT 0 hx1 ⟨rfl, rfl, rfl, rfl⟩ ty95 sz22 rfl rfl rfl fun g1 m3 cp1 hv1 => ?_
        refine SL.ld ⟨rfl, rfl, rfl, rfl⟩ sc22 rfl (cell_rowT (sz := 1) (enc := eU32) 0 0 (fun _ => rfl) rfl hv1 hx1 rfl) ?_
        refine SL.mv ⟨rfl, rfl, rfl, rfl⟩ rfl ?_
        refine SL.mv ⟨rfl, rfl, rfl, rfl⟩ rfl ?_
        refine SL.bin ⟨rfl, rfl, rfl, rfl⟩ rfl rfl Bin.subW ?_
        refine SL.iaT 0 hx2 ⟨rfl, rfl, rfl, rfl⟩ ty95 sz22 rfl rfl rfl fun g2 m4 cp2 hv2 => ?_
        refine SL.ld ⟨rfl, rfl, rfl, rfl⟩ sc22 rfl (cell_rowT (sz := 1) (enc := eU32) 0 0 (fun _ => rfl) rfl hv2 hx2 rfl) ?_
        refine SL.call (vs := [_, _]) (Hin := []) (Hr := _ :: _) ⟨rfl, rfl, rfl, rfl⟩ rfl ⟨rfl, rfl, trivial⟩ cal72 rfl rfl (c_cmp_Less_uint32 hy1) ?_
        rintro _ _ ⟨rfl, rfl⟩
        refine ⟨⟨⟨0, rfl⟩, trivial⟩, ?_⟩
        refine SL.pk ⟨rfl, rfl, rfl, rfl⟩ rfl rfl ?_
        exact k.mono (by repeat' (first | exact trivial | refine And.intro rfl ?_))
      · skip
        refine SL.pass rfl rfl rfl ?_
        refine SL.pass rfl rfl rfl ?_
        refine SL.pass rfl rfl rfl ?_
        refine SL.pass rfl rfl rfl ?_
        refine SL.pass rfl rfl rfl ?_
        refine SL.pass rfl rfl rfl ?_
        refine SL.pass rfl rfl rfl ?_
        refine SL.pass rfl rfl rfl ?_
        refine SL.pass rfl rfl rfl ?_
        refine SL.pass rfl rfl rfl ?_
        refine SL.pk ⟨rfl, rfl, rfl, rfl⟩ rfl rfl ?_
        exact k.mono (by repeat' (first | exact trivial | refine And.intro rfl ?_))
      refine SL.nx ?_
      refine SX.cond rfl (fun hc2 => ?_) (fun hc2 => ?_)
      · skip
        replace h := cT hc2 h
        refine SX.skip ?_
        refine SQ.thn ?_
        refine SX.seq ?_
        refine SX.block ?_
        obtain ⟨x3, hx3, h⟩ := bnd h
        obtain ⟨x4, hx4, h⟩ := bnd h
        obtain ⟨x5, hx5, h⟩ := bnd h
        obtain ⟨l4, hl4, h⟩ := bnd h
        obtain ⟨x6, hx6, h⟩ := bnd h
        obtain ⟨l5, hl5, h⟩ := bnd h
        refine SX.drawI mix [] (Pl.ap [(true, 0), (true, 1), (true, 2), (true, 3), (true, 4), (true, 5), (true, 6), (true, 7), (true, 8), (true, 10), (true, 11), (true, 12)] (.alt 9 (Pl.ap [(false, 13), (true, 14), (false, 15), (true, 16)] (.last 17 .nil)) (.cons (false, 13) (Pl.ap [(false, 9), (true, 14), (false, 15), (true, 16)] (.last 17 .nil))))) (by kernel_rfl) ?_
        refine SL.mv ⟨rfl, rfl, rfl, rfl⟩ rfl ?_
        refine SL.mv ⟨rfl, rfl, rfl, rfl⟩ rfl ?_
        refine SL.mv ⟨rfl, rfl, rfl, rfl⟩ rfl ?_
        refine SL.mv ⟨rfl, rfl, rfl, rfl⟩ rfl ?_
        refine SL.bin ⟨rfl, rfl, rfl, rfl⟩ rfl rfl Bin.subW ?_
        refine SL.mv ⟨rfl, rfl, rfl, rfl⟩ rfl ?_
        refine SL.mv ⟨rfl, rfl, rfl, rfl⟩ rfl ?_
        refine SL.bin ⟨rfl, rfl, rfl, rfl⟩ rfl rfl Bin.subW ?_
        refine SL.iaT 0 hx3 ⟨rfl, rfl, rfl, rfl⟩ ty95 sz22 rfl rfl rfl fun g3 m5 cp3 hv3 => ?_
        refine SL.mv ⟨rfl, rfl, rfl, rfl⟩ rfl ?_
        refine SL.mv ⟨rfl, rfl, rfl, rfl⟩ rfl ?_
        refine SL.iaT 0 hx4 ⟨rfl, rfl, rfl, rfl⟩ ty95 sz22 rfl rfl rfl fun g4 m6 cp4 hv4 => ?_
        refine SL.two ?_ ?_
        · skip
          refine SL.ld ⟨rfl, rfl, rfl, rfl⟩ sc22 rfl (cell_rowT (sz := 1) (enc := eU32) 0 0 (fun _ => rfl) rfl hv3 hx3 rfl) ?_
          refine SL.ld ⟨rfl, rfl, rfl, rfl⟩ sc22 rfl (cell_rowT (sz := 1) (enc := eU32) 0 0 (fun _ => rfl) rfl hv4 hx4 rfl) ?_
          refine SL.iaT 0 hx5 ⟨rfl, rfl, rfl, rfl⟩ ty95 sz22 rfl rfl rfl fun g5 m7 cp5 hv5 => ?_
          refine SL.stTN (sz := 1) (enc := eU32) 0 hl4 (fun _ => rfl) ⟨rfl, rfl, rfl⟩ rfl rfl rfl rfl hv5 sz22 (by simp [Value.oneCell']) trivial ?_
          refine SL.iaT 0 hx6 ⟨rfl, rfl, rfl, rfl⟩ ty95 sz22 rfl rfl rfl fun g6 m8 cp6 hv6 => ?_
          refine SL.last ?_
          refine SL.stTN (sz := 1) (enc := eU32) 0 hl5 (fun _ => rfl) ⟨rfl, rfl, rfl⟩ rfl rfl rfl rfl hv6 sz22 (by simp [Value.oneCell']) trivial ?_
          refine SL.nil ?_
          refine SQ.blk ?_
          refine SQ.thn ?_
          refine SX.region ?_
          obtain ⟨j_1, ej_1, h⟩ := retE h
          refine SL.mv ⟨rfl, rfl, rfl, rfl⟩ rfl ?_
          refine SL.bin ⟨rfl, rfl, rfl, rfl⟩ rfl rfl Bin.subW ?_
          refine SL.asgX (u := vI j_1) ⟨rfl, rfl, rfl, rfl⟩ rfl (congrArg vI ej_1) ?_
          refine SL.nil ?_
          exact SQ.again (m2, l5, j_1) h (Nat.lt_succ_self _) (by repeat' (first | exact trivial | refine And.intro rfl ?_)) (fun _ hw => HpOk.pick (H := [_]) hw [0] 1 rfl)
        · skip
          refine SL.ld ⟨rfl, rfl, rfl, rfl⟩ sc22 rfl (cell_rowT (sz := 1) (enc := eU32) 0 0 (fun _ => rfl) rfl hv4 hx4 rfl) ?_
          refine SL.ld ⟨rfl, rfl, rfl, rfl⟩ sc22 rfl (cell_rowT (sz := 1) (enc := eU32) 0 0 (fun _ => rfl) rfl hv3 hx3 rfl) ?_
          refine SL.iaT 0 hx5 ⟨rfl, rfl, rfl, rfl⟩ ty95 sz22 rfl rfl rfl fun g5 m7 cp5 hv5 => ?_
          refine SL.stTN (sz := 1) (enc := eU32) 0 hl4 (fun _ => rfl) ⟨rfl, rfl, rfl⟩ rfl rfl rfl rfl hv5 sz22 (by simp [Value.oneCell']) trivial ?_
          refine SL.iaT 0 hx6 ⟨rfl, rfl, rfl, rfl⟩ ty95 sz22 rfl rfl rfl fun g6 m8 cp6 hv6 => ?_
          refine SL.last ?_
          refine SL.stTN (sz := 1) (enc := eU32) 0 hl5 (fun _ => rfl) ⟨rfl, rfl, rfl⟩ rfl rfl rfl rfl hv6 sz22 (by simp [Value.oneCell']) trivial ?_
          refine SL.nil ?_
          refine SQ.blk ?_
          refine SQ.thn ?_
          refine SX.region ?_
          obtain ⟨j_1, ej_1, h⟩ := retE h
          refine SL.mv ⟨rfl, rfl, rfl, rfl⟩ rfl ?_
          refine SL.bin ⟨rfl, rfl, rfl, rfl⟩ rfl rfl Bin.subW ?_
          refine SL.asgX (u := vI j_1) ⟨rfl, rfl, rfl, rfl⟩ rfl (congrArg vI ej_1) ?_
          refine SL.nil ?_
          exact SQ.again (m2, l5, j_1) h (Nat.lt_succ_self _) (by repeat' (first | exact trivial | refine And.intro rfl ?_)) (fun _ hw => HpOk.pick (H := [_]) hw [0] 1 rfl)
      · skip
        replace h := cF hc2 h
        refine SX.exit ?_
        refine SQ.thnE ?_
        refine SQ.lpE ?_
        refine SQ.blkE ?_
        refine SQ.blk ?_
        exact SQ.midD l3 h (by repeat' (first | exact trivial | refine And.intro rfl ?_)) (fun _ hw => HpOk.pick (H := [_]) hw [0] 1 rfl)
    · skip
      unfold f_slices_insertionSortOrdered_uint32_j1 at h
      refine SX.re [(0, v0_), (1, vI p1), (2, vI p2), (6, vI a1)] (rowT 22 1 v0_ eU32 l2 :: H) ?_ (by repeat' (first | exact trivial | refine And.intro rfl ?_))
      refine SX.region ?_
      obtain ⟨i_2, ei_2, h⟩ := retE h
      refine SL.mv ⟨rfl, rfl, rfl, rfl⟩ rfl ?_
      refine SL.bin ⟨rfl, rfl, rfl, rfl⟩ rfl rfl Bin.addW ?_
      refine SL.asgX (u := vI i_2) ⟨rfl, rfl, rfl, rfl⟩ rfl (congrArg vI ei_2) ?_
      refine SL.nil ?_
      exact SQ.again (m1, l2, i_2) h (Nat.lt_succ_self _) (by repeat' (first | exact trivial | refine And.intro rfl ?_)) (fun _ hw => HpOk.pick (H := [_]) hw [0] 1 rfl)
  · skip
    replace h := cF hc1 h
    refine SX.exit ?_
    refine SQ.thnE ?_
    refine SQ.lpE ?_
    refine SQ.blkE ?_
    obtain rfl := Option.some.inj h
    exact SQ.fend (res0 rfl) (ret_of (M := [_]) ⟨rfl, rfl⟩ fun _ hw => HpOk.pick (H := [_]) hw [0] 1 rfl)

def f_device_New (p0 : Int) : Option (Option DevA × Int) :=
  cond ((decide (p0 < 4)) || (decide (4096 < p0)))
  (
    some (none, 2))
  (
    (rep0O [0] 32).bind fun y1 =>
    (rep0O [0] 256).bind fun y2 =>
    (srepO [y2] p0).bind fun y3 =>
    some (some ({ off := false, isCut := false, lasts := 0, counts := 0, blocks := y3, pend := [], bad := [], rcnt := 0, rtag := y1, rboots := 0 } : DevA), 0))
set_option maxRecDepth 100000 in
theorem c_device_New {p0 : Int} {r : Option DevA × Int} (h : f_device_New p0 = some r)  : Con Try.prog K w0 11 [vI p0] [] H (fun u M => (r.1 = none ∧ u = .tuple #[.pointer none, vI r.2] ∧ M = []) ∨ (∃ (d : DevA) (b : Nat) (v4 : Value) (m5 : Nat) (m6 : Nat), r.1 = some d ∧ u = .tuple #[vP b 0, vI r.2] ∧ M = [own b (.cells #[vB d.off, vB d.isCut, vI d.lasts, vI d.counts, v4, .map (some m5), .map (some m6), vU64 d.rcnt, vS d.rtag, vU32 d.rboots] 72), rowT 9 1 v4 eS d.blocks, mapC m5 vU32 vS d.pend, mapC m6 vU32 vB d.bad])) := by
  unfold f_device_New at h
  refine Con.enter Try.func11 rfl rfl ?_
  refine SX.sr ?_
  refine SL.asg ⟨rfl, rfl, rfl, rfl⟩ rfl ?_
  refine SL.asg ⟨rfl, rfl, rfl, rfl⟩ rfl ?_
  refine SL.nx ?_
  refine SX.seq ?_
  refine SX.sr ?_
  refine SL.mv ⟨rfl, rfl, rfl, rfl⟩ rfl ?_
  refine SL.bin ⟨rfl, rfl, rfl, rfl⟩ rfl rfl Bin.ltI ?_
  refine SL.mv ⟨rfl, rfl, rfl, rfl⟩ rfl ?_
  refine SL.or (c := decide (4096 < p0)) 7 3 10 rfl (fun hb k => ?_) (fun hb k => ?_) ?_
  · skip
    refine SL.pass rfl rfl rfl ?_
    refine SL.pass rfl rfl rfl ?_
    refine SL.pk ⟨rfl, rfl, rfl, rfl⟩ rfl rfl ?_
    exact k.mono (by repeat' (first | exact trivial | refine And.intro rfl ?_))
  · skip
    refine SL.mv ⟨rfl, rfl, rfl, rfl⟩ rfl ?_
    refine SL.bin ⟨rfl, rfl, rfl, rfl⟩ rfl rfl Bin.gtI ?_
    refine SL.pk ⟨rfl, rfl, rfl, rfl⟩ rfl rfl ?_
    exact k.mono (by repeat' (first | exact trivial | refine And.intro rfl ?_))
  refine SL.nx ?_
  refine SX.cond rfl (fun hc1 => ?_) (fun hc1 => ?_)
  · skip
    replace h := cT hc1 h
    refine SX.sr ?_
    refine SL.asg ⟨rfl, rfl, rfl, rfl⟩ rfl ?_
    refine SL.asg ⟨rfl, rfl, rfl, rfl⟩ rfl ?_
    refine SL.nx ?_
    refine SX.ret ?_
    refine SQ.thnR ?_
    obtain rfl := Option.some.inj h
    exact SQ.fret (res2 rfl rfl rfl) (ret_of (M := []) (.inl ⟨rfl, rfl, rfl⟩) fun _ hw => HpOk.pick (H := []) hw [] 0 rfl)
  · skip
    replace h := cF hc1 h
    refine SX.skip ?_
    refine SQ.thn ?_
    refine SX.sr ?_
    refine SL.mkM vU32 vS ⟨rfl, rfl, rfl, rfl⟩ (fun _ => trivial) fun b1 => ?_
    refine SL.mkM vU32 vB ⟨rfl, rfl, rfl, rfl⟩ (fun _ => trivial) fun b2 => ?_
    refine SL.bld [_, _] ⟨rfl, rfl, rfl, rfl⟩ pl72 pk72 ze72 ⟨rfl, rfl, trivial⟩ rfl ?_
    refine SL.box ⟨rfl, rfl, rfl, rfl⟩ rfl (fun _ => trivial) fun b3 => ?_
    refine SL.nilT 9 1 eS ?_
    refine SL.asg ⟨rfl, rfl, rfl, rfl⟩ rfl ?_
    refine SL.nx ?_
    refine SX.sr ?_
    obtain ⟨y1, hy1, h⟩ := bnd h
    refine SL.mv ⟨rfl, rfl, rfl, rfl⟩ rfl ?_
    refine SL.call (vs := [_, _]) (Hin := []) (Hr := _ :: _ :: _ :: _ :: _) ⟨rfl, rfl, rfl, rfl⟩ rfl ⟨rfl, rfl, trivial⟩ cal30 rfl rfl (w_rep0 hy1) ?_
    rintro _ _ ⟨rfl, rfl⟩
    refine ⟨trivial, ?_⟩
    refine SL.nchk ⟨rfl, rfl, rfl, rfl⟩ rfl ?_
    refine SL.fa ⟨rfl, rfl, rfl, rfl⟩ rfl fo72_4 ?_
    refine SL.fa ⟨rfl, rfl, rfl, rfl⟩ rfl fo52_1 ?_
    refine SL.st 1 ⟨rfl, rfl, rfl⟩ rfl rfl rfl sz9 rfl rfl rfl trivial ?_
    refine SL.nx ?_
    refine SX.sr ?_
    obtain ⟨y2, hy2, h⟩ := bnd h
    obtain ⟨y3, hy3, h⟩ := bnd h
    refine SL.mv ⟨rfl, rfl, rfl, rfl⟩ rfl ?_
    refine SL.call (vs := [_, _]) (Hin := []) (Hr := _ :: _ :: _ :: _ :: _) ⟨rfl, rfl, rfl, rfl⟩ rfl ⟨rfl, rfl, trivial⟩ cal30 rfl rfl (w_rep0 hy2) ?_
    rintro _ _ ⟨rfl, rfl⟩
    refine ⟨trivial, ?_⟩
    refine SL.bsl [_] ⟨rfl, rfl, rfl, rfl⟩ ty41 sz9 ze9 ⟨rfl, trivial⟩ rfl rfl rfl (by simp [Value.cells]) rfl rfl (fun _ => trivial) fun b4 => ?_
    refine SL.ownT eS 1 ([y2] : List (List UInt8)) rfl (fun _ => rfl) rfl ?_
    refine SL.mv ⟨rfl, rfl, rfl, rfl⟩ rfl ?_
    refine SL.call (vs := [_, _]) (Hin := [_]) (Hr := _ :: _ :: _ :: _ :: _) ⟨rfl, rfl, rfl, rfl⟩ rfl ⟨rfl, rfl, trivial⟩ cal31 rfl rfl (Con.lend (B := [_]) (Hin := []) fun K' w1 hk hB => w_srep hy3 (SlOf.lentT (e := 9) (fun _ => rfl) (hB _ (by simp)))) ?_
    rintro v1 _ ⟨_, rfl, _, rfl, rfl⟩
    refine ⟨trivial, ?_⟩
    refine SL.nchk ⟨rfl, rfl, rfl, rfl⟩ rfl ?_
    refine SL.fa ⟨rfl, rfl, rfl, rfl⟩ rfl fo72_1 ?_
    refine SL.rowV 1 rfl fun hv1 ho1 => ?_
    refine SL.stR 3 ⟨rfl, rfl, rfl⟩ rfl rfl rfl sz41 hv1 ho1 rfl trivial ?_
    refine SL.nx ?_
    refine SX.sr ?_
    refine SL.mv ⟨rfl, rfl, rfl, rfl⟩ rfl ?_
    refine SL.asg ⟨rfl, rfl, rfl, rfl⟩ rfl ?_
    refine SL.asg ⟨rfl, rfl, rfl, rfl⟩ rfl ?_
    refine SL.nx ?_
    refine SX.ret ?_
    obtain rfl := Option.some.inj h
    exact SQ.fret (res2 rfl rfl rfl) (ret_of (M := [_, _, _, _]) (.inr ⟨_, b3, v1, b1, b2, rfl, rfl, rfl⟩) fun _ hw => HpOk.pick (H := [_, _, _, _, _, _]) hw [3, 1, 5, 4] 6 rfl)


end Go.Proofs.Ytmnmepaopodblaa

/- pdqsort of at most twelve numbers: it is the insertion sort. Condition: at most twelve. -/
namespace Go.Proofs.Ytmnmepaopodblaa
open Go
variable {K : Nat → Prop} {w0 : World} {H : List Chunk}

def pdqO (n : Nat) (d : List UInt32) (a b _limit : Int) : Option (List UInt32) := if wI (b - a) ≤ 12 then f_slices_insertionSortOrdered_uint32 n d a b else none
set_option maxRecDepth 100000 in
theorem c_pdq12 {n : Nat} {v0_ : Value} {p0 : List UInt32} {p1 p2 p3 : Int} {r : List UInt32} (h : pdqO n p0 p1 p2 p3 = some r) : Con Try.prog K w0 62 [v0_, vI p1, vI p2, vI p3] [rowT 22 1 v0_ eU32 p0] H (fun u M => u = .tuple #[] ∧ M = [rowT 22 1 v0_ eU32 r]) := by
  unfold pdqO at h
  split at h
  case isFalse => cases h
  rename_i h12
  refine Con.enter Try.func62 rfl rfl ?_
  refine SX.sr ?_
  refine SL.asg ⟨rfl, rfl, rfl, rfl⟩ rfl ?_
  refine SL.nx ?_
  refine SX.sr ?_
  refine SL.asg ⟨rfl, rfl, rfl, rfl⟩ rfl ?_
  refine SL.nx ?_
  refine SX.block ?_
  refine SX.mono (SX.loop (α := Unit) (fun _ => True) (fun _ => [(0, v0_), (1, vI p1), (2, vI p2), (3, vI p3)]) (fun _ => rowT 22 1 v0_ eU32 p0 :: H) (fun _ => 0) (fun i D hp => ?_) () trivial) (by repeat' (first | exact trivial | refine And.intro rfl ?_))
  refine SX.block ?_
  refine SX.sr ?_
  refine SL.mv ⟨rfl, rfl, rfl, rfl⟩ rfl ?_
  refine SL.mv ⟨rfl, rfl, rfl, rfl⟩ rfl ?_
  refine SL.bin ⟨rfl, rfl, rfl, rfl⟩ rfl rfl Bin.subW ?_
  refine SL.asg ⟨rfl, rfl, rfl, rfl⟩ rfl ?_
  refine SL.nx ?_
  refine SX.seq ?_
  refine SX.sr ?_
  refine SL.mv ⟨rfl, rfl, rfl, rfl⟩ rfl ?_
  refine SL.bin ⟨rfl, rfl, rfl, rfl⟩ rfl rfl Bin.leI ?_
  refine SL.nx ?_
  refine SX.cond rfl (fun hc1 => ?_) (fun hc1 => absurd h12 (of_decide_eq_false hc1))
  refine SX.sr ?_
  refine SL.mv ⟨rfl, rfl, rfl, rfl⟩ rfl ?_
  refine SL.mv ⟨rfl, rfl, rfl, rfl⟩ rfl ?_
  refine SL.mv ⟨rfl, rfl, rfl, rfl⟩ rfl ?_
  refine SL.call (vs := [_, _, _]) (Hin := [_]) (Hr := _) ⟨rfl, rfl, rfl, rfl⟩ rfl ⟨rfl, rfl, rfl, trivial⟩ cal66 rfl rfl (c_slices_insertionSortOrdered_uint32 h) ?_
  rintro _ _ ⟨rfl, rfl⟩
  refine ⟨trivial, ?_⟩
  refine SL.nx ?_
  refine SX.ret ?_
  refine SQ.thnR ?_
  refine SQ.blkR ?_
  refine SQ.lpR ?_
  refine SQ.blkR ?_
  exact SQ.fret (res0 rfl) (ret_of (M := [_]) ⟨rfl, rfl⟩ fun _ h => h.skip [])
end Go.Proofs.Ytmnmepaopodblaa

/- Plain functions of the references and the laws, printed from the loaded program, and the walks that show that the program computes them. Condition: the plain function yields. -/
namespace Go.Proofs.Ytmnmepaopodblaa
open Go
variable {K : Nat → Prop} {w0 : World} {H : List Chunk}

def f_slices_Sort_uint32_uint32 (n : Nat) (p0 : List UInt32) : Option (List UInt32) :=
  (f_math_bits_Len (toU64 (p0.length : Int))).bind fun y1 =>
  (pdqO n p0 0 (p0.length : Int) y1).bind fun y2 =>
  some y2
set_option maxRecDepth 100000 in
theorem c_slices_Sort_uint32_uint32 {n : Nat} {v0_ : Value} {p0 : List UInt32} {r : List UInt32} (h : f_slices_Sort_uint32_uint32 n p0 = some r)  : Con Try.prog K w0 54 [v0_] [rowT 22 1 v0_ eU32 p0] H (fun u M => u = .tuple #[] ∧ M = [rowT 22 1 v0_ eU32 r]) := by
  unfold f_slices_Sort_uint32_uint32 at h
  refine Con.enter Try.func54 rfl rfl ?_
  refine SX.sr ?_
  refine SL.mv ⟨rfl, rfl, rfl, rfl⟩ rfl ?_
  refine SL.lenT 0 ⟨rfl, rfl, rfl, rfl⟩ ty95 rfl rfl ?_
  refine SL.asg ⟨rfl, rfl, rfl, rfl⟩ rfl ?_
  refine SL.nx ?_
  refine SX.region ?_
  obtain ⟨y1, hy1, h⟩ := bnd h
  obtain ⟨y2, hy2, h⟩ := bnd h
  refine SL.mv ⟨rfl, rfl, rfl, rfl⟩ rfl ?_
  refine SL.mv ⟨rfl, rfl, rfl, rfl⟩ rfl ?_
  refine SL.mv ⟨rfl, rfl, rfl, rfl⟩ rfl ?_
  refine SL.cv ⟨rfl, rfl, rfl, rfl⟩ rfl (Cv.i_64 ty3 ty35) ?_
  refine SL.call (vs := [_]) (Hin := []) (Hr := _ :: _) ⟨rfl, rfl, rfl, rfl⟩ rfl ⟨rfl, trivial⟩ cal63 rfl rfl (c_math_bits_Len hy1) ?_
  rintro _ _ ⟨rfl, rfl⟩
  refine ⟨trivial, ?_⟩
  refine SL.call (vs := [_, _, _, _]) (Hin := [_]) (Hr := _) ⟨rfl, rfl, rfl, rfl⟩ rfl ⟨rfl, rfl, rfl, rfl, trivial⟩ cal62 rfl rfl (c_pdq12 hy2) ?_
  rintro _ _ ⟨rfl, rfl⟩
  refine ⟨trivial, ?_⟩
  refine SL.nil ?_
  obtain rfl := Option.some.inj h
  exact SQ.fend (res0 rfl) (ret_of (M := [_]) ⟨rfl, rfl⟩ fun _ hw => HpOk.pick (H := [_]) hw [0] 1 rfl)


end Go.Proofs.Ytmnmepaopodblaa

/- The engine: a range over a function that reads, ahead of its first round, chunks that the body turns. No condition beyond those stated. -/
namespace Go.Proofs.Ytmnmepaopodblaa
open Go

variable {P : Program} {ro : Option Nat} {K : Nat → Prop} {w0 : World} {N : Nat} {Q : Post} {D : List Nat} {l l' : Tm} {H H' Hs L : List Chunk} {ops : Array Oper} {items : Its}

/-- as 'Seq', but of chunks G0 that lie there when it begins -/
def SeqAt (P : Program) (K : Nat → Prop) (w0 : World) (f : FuncId) (cap : List Value) (Hit G0 : List Chunk) {α : Type} (enc : α → List Value) (xs : List α) : Prop :=
  ∀ (lp : Nat) (J : List α → List Chunk → Prop) (X : List Chunk → Prop) (T : List Chunk) (rc : Chunk),
    (∀ pre x suf, xs = pre ++ x :: suf → ∀ G, J pre G → ∀ M, Yld P K w0 lp (enc x) (G ++ M) fun b G' => ∃ G1, G' = G1 ++ M ∧ (if b then J (pre ++ [x]) G1 else X G1)) →
    J [] (rc :: G0) → Con P K w0 f (vY lp :: cap) (Hit ++ (rc :: G0)) T fun _ M => J xs M ∨ X M
/-- **for .. := range g { .. }**, outside every round -/
theorem SX.rangeAt {α : Type} {g : Operand} {ps : Array Tmp} {assign body : Code} {f : FuncId} {cap : List Value} {Hit : List Chunk} {enc : α → List Value} (xs : List α) {G0 : List Chunk}
    (J : List α → List Chunk → Prop) (X : Code → List Chunk → Prop)
    (hg : evl l g = some (.func (.func f) #[] cap.toArray)) (hf : callable P f = true) (hps : ps.toList.all (fun p => Nat.blt p N) = true) (hlen : ∀ x, (enc x).length = ps.size)
    (hseq : SeqAt P K w0 f cap Hit G0 enc xs) (hH : H = Hit ++ G0) (h0 : J [] G0)
    (hbody : ∀ pre x suf G, xs = pre ++ x :: suf → J pre G → ∀ r lp Rest, SX P (some lp) K w0 N assign (bgn P lp body (rnd K w0 J X pre x (Tl r lp Rest .busy))) [] (parTm ps.toList (enc x) l) (G ++ Tl r lp Rest .ready))
    (hdone : ∀ G D, J xs G → SQ K w0 N Q .normal D l G)
    (hstop : ∀ c G D, X c G → SX P none K w0 N c Q D l G) : SX P none K w0 N (.rangeFunc g ps assign body) Q D l H := by
  intro a w ha hw
  subst hH
  refine wpIn_rangeFunc fun fn _ => ?_
  let r : Loop := { state := .ready, pending := none, fn := fn, tmps := a.tmps, params := ps, assign := assign, body := body, defers := w.heap.size }
  refine ⟨w.heap.size + 1, [{ target := .collected w.heap.size, args := #[] }], (w.alloc (.deferred (some []))).alloc (.loop r), { target := .fn (.func f) cap.toArray, args := #[vY (w.heap.size + 1)] }, (w.alloc (.deferred (some []))).alloc (.loop r),
    f, (vY (w.heap.size + 1) :: cap).toArray, (w.alloc (.deferred (some []))).alloc (.loop r), ?_, ?_, fun _ _ => Fc_fn _ _, ?_, fun hd => by simp [Fc_depth] at hd, ?_⟩
  · rw [Fc_round]; exact run_enterLoop_outer fn a.tmps ps assign body
  · have hev := ha.vals.eval hg
    simp [resolve, hev, Deferred.ofValue]
    rfl
  · simp [invoke, run_callFunc hf]
  · -- the call
    generalize hlp : w.heap.size + 1 = lp
    have hw1 : HpOk K w0 ((Hit ++ (Tl r lp [] .ready ++ G0)) ++ [marks (w.heap.size :: D)]) ((w.alloc (.deferred (some []))).alloc (.loop r)) := by
      have h1 := (hw.alloc (.deferred (some []))).alloc (.loop r)
      rw [World.size_alloc, hlp] at h1
      -- own lp record :: own mark :: ((Hit ++ G0) ++ [marks D])
      have hm : HpOk K w0 (marks (w.heap.size :: D) :: own lp (.loop r) :: (Hit ++ G0)) ((w.alloc (.deferred (some []))).alloc (.loop r)) := by
        have hp : (own lp (.loop r) :: own w.heap.size (.deferred (some [])) :: (Hit ++ G0 ++ [marks D])).Perm (own w.heap.size (.deferred (some [])) :: marks D :: own lp (.loop r) :: (Hit ++ G0)) := by
          refine (List.Perm.swap _ _ _).trans (List.Perm.cons _ ?_)
          refine (List.Perm.cons _ (List.perm_append_comm (l₁ := Hit ++ G0) (l₂ := [marks D]))).trans ?_
          exact List.Perm.swap _ _ _
        have h2 := h1.perm hp
        have hpw := List.pairwise_cons.1 h2.disj
        have hpw2 := List.pairwise_cons.1 hpw.2
        have hmk := h2.holds (marks D) (by simp)
        have hnew := h2.holds (own w.heap.size (.deferred (some []))) (List.mem_cons_self ..)
        refine ⟨h2.os, h2.tape, h2.output, h2.size, h2.klt, h2.keep, ?_, ?_, ?_⟩
        · intro c hc
          rcases List.mem_cons.1 hc with rfl | hc
          · refine ⟨List.nodup_cons.2 ⟨fun hin => hpw.1 (marks D) (by simp) _ rfl hin, hmk.1⟩, fun b hb => ?_⟩
            rcases List.mem_cons.1 hb with rfl | hb
            · exact hnew
            · exact hmk.2 b hb
          · exact h2.holds c (by simp only [List.mem_cons] at hc ⊢; exact .inr (.inr hc))
        · intro c hc b hb
          rcases List.mem_cons.1 hc with rfl | hc
          · rcases List.mem_cons.1 hb with rfl | hb
            · exact h2.foot (own w.heap.size (.deferred (some []))) (List.mem_cons_self ..) _ rfl
            · exact h2.foot (marks D) (by simp) b hb
          · exact h2.foot c (by simp only [List.mem_cons] at hc ⊢; exact .inr (.inr hc)) b hb
        · refine List.pairwise_cons.2 ⟨fun c hc b hb hb' => ?_, hpw2.2⟩
          rcases List.mem_cons.1 hb with rfl | hb
          · exact hpw.1 c (List.mem_cons_of_mem _ hc) _ rfl hb'
          · exact hpw2.1 c hc b hb hb'
      refine hm.perm ?_
      have e : Tl r lp [] .ready = [own lp (.loop r)] := rfl
      rw [e]
      refine (List.perm_append_comm (l₁ := [marks (w.heap.size :: D)])).trans (List.Perm.append_right _ ?_)
      simpa using (List.perm_middle (l₁ := Hit) (a := own lp (.loop r)) (l₂ := G0)).symm
    have hN : ∀ p ∈ ps.toList, p < a.tmps.size := fun p hp => by
      rw [ha.size]
      exact blt_lt (List.all_eq_true.1 hps p hp)
    let D' := w.heap.size :: D
    have hcon := hseq lp (fun pre Gx => ∃ G, J pre G ∧ Gx = Tl r lp [] .ready ++ G) (fun Gx => ∃ c G, X c G ∧ Gx = own lp (.loop { r with state := .done, pending := some c }) :: G) [marks D'] (own lp (.loop { r with state := .ready, pending := none })) ?_ ⟨G0, h0, rfl⟩
    · refine Fc_calls none ((hcon _ hw1).mono ?_)
      rintro e w' ⟨v, M, rfl, hM, hw'⟩
      have hD : TmOk N D' l { tmps := a.tmps, defers := [{ target := .collected w.heap.size, args := #[] }] ++ a.defers } := ⟨ha.size, by simp [ha.defers, D', mark], ha.vals⟩
      rcases hM with ⟨G, hJ, rfl⟩ | ⟨c, G, hX, rfl⟩
      · have hl : w'.heap[lp]? = some (.loop { r with state := .ready, pending := none }) := hw'.holds (own lp _) (by simp [Tl])
        refine ⟨_, _, run_endLoop hl (by simp), ?_⟩
        refine hdone G D' hJ _ _ hD ?_
        have h3 := (show HpOk K w0 (own lp (.loop { r with state := .ready, pending := none }) :: (G ++ [marks D'])) w' from hw').put (o' := .loop { r with state := .exhausted, pending := none })
        exact h3.sublist (List.sublist_cons_self _ _)
      · have hl : w'.heap[lp]? = some (.loop { r with state := .done, pending := some c }) := hw'.holds (own lp _) (by simp)
        refine ⟨_, _, run_endLoop hl (by simp), ?_⟩
        refine hstop c G D' hX _ _ hD ?_
        have h3 := (show HpOk K w0 (own lp (.loop { r with state := .done, pending := some c }) :: (G ++ [marks D'])) w' from hw').put (o' := .loop { r with state := .exhausted, pending := some c })
        exact h3.sublist (List.sublist_cons_self _ _)
    · -- a round
      rintro pre x suf hxs Gx ⟨G, hJ, rfl⟩ M w₁ hw₁
      have hl : w₁.heap[lp]? = some (.loop { r with state := .ready, pending := none }) := hw₁.holds (own lp _) (by simp [Tl])
      refine ⟨_, _, _, _, run_yield hl (by simp [hlen]; rfl), ?_⟩
      refine roundIn_of_wpIn trivial ?_
      have hw₂ : HpOk K w0 ((G ++ Tl r lp M .ready) ++ [marks []]) w₁ := by
        refine HpOk.marks0 (hw₁.perm ?_)
        show (own lp _ :: (G ++ M)).Perm (G ++ own lp _ :: M)
        exact List.perm_middle.symm
      have hzip : ((ps.zip (enc x).toArray).foldl (fun tmps (t, a) => tmps.setIfInBounds t a) a.tmps) = ((ps.toList.zip (enc x)).foldl (fun tm (t, a) => tm.setIfInBounds t a) a.tmps) := by
        rw [← Array.foldl_toList, Array.toList_zip]
      have hb := hbody pre x suf G hxs hJ r lp M { tmps := (ps.zip (enc x).toArray).foldl (fun tmps (t, a) => tmps.setIfInBounds t a) a.tmps, defers := [] } w₁
        ⟨by rw [hzip, foldl_set_size]; exact ha.size, rfl, by rw [hzip]; exact parTm_ok ps.toList (enc x) l a.tmps hN ha.vals⟩ hw₂
      refine wpIn_mono hb ?_
      intro e a' w' q
      cases e with
      | normal =>
        obtain ⟨w₃, hbr, hbody'⟩ := q
        refine ⟨w₃, hbr, wpIn_mono hbody' ?_⟩
        have fin : ∀ (jump : Option Code) (G' : List Chunk) (w₄ : World), HpOk K w0 (G' ++ Tl r lp M .busy) w₄ →
            (Instr.endRound lp jump).run P w₄ = .ok (.bool jump.isNone) (w₄.putObj lp (.loop { r with state := if jump.isNone then .ready else .done, pending := jump })) ∧
            HpOk K w0 ((own lp (.loop { r with state := if jump.isNone then .ready else .done, pending := jump }) :: G') ++ M) (w₄.putObj lp (.loop { r with state := if jump.isNone then .ready else .done, pending := jump })) := by
          intro jump G' w₄ h4
          have hl4 : w₄.heap[lp]? = some (.loop { r with state := .busy, pending := none }) := h4.holds (own lp _) (by simp [Tl])
          refine ⟨run_endRound (r := { r with state := .busy, pending := none }) jump hl4, ?_⟩
          have h5 : HpOk K w0 (own lp (.loop { r with state := .busy, pending := none }) :: (G' ++ M)) w₄ := h4.perm List.perm_middle
          exact h5.put
        intro e₂ a₂ w₄ q₂
        cases e₂ with
        | normal =>
          obtain ⟨G', hJ', h4⟩ := q₂
          obtain ⟨hrun, h5⟩ := fin none G' w₄ h4
          exact ⟨_, _, hrun, _, _, rfl, ⟨_, rfl, by simp only [Option.isNone_none, if_true]; exact ⟨G', hJ', rfl⟩⟩, h5⟩
        | ret =>
          obtain ⟨G', hX', h4⟩ := q₂
          obtain ⟨hrun, h5⟩ := fin (some .ret) G' w₄ h4
          exact ⟨_, _, hrun, _, _, rfl, ⟨_, rfl, by simp only [Option.isNone_some, Bool.false_eq_true, if_false]; exact ⟨_, G', hX', rfl⟩⟩, h5⟩
        | exit id =>
          obtain ⟨G', hX', h4⟩ := q₂
          obtain ⟨hrun, h5⟩ := fin (some (.exit id)) G' w₄ h4
          exact ⟨_, _, hrun, _, _, rfl, ⟨_, rfl, by simp only [Option.isNone_some, Bool.false_eq_true, if_false]; exact ⟨_, G', hX', rfl⟩⟩, h5⟩
        | goto _ => exact q₂.elim
        | panic _ => exact q₂.elim
        | outgrown => exact q₂.elim
      | exit _ => exact q.elim
      | goto _ => exact q.elim
      | ret => exact q.elim
      | panic _ => exact q.elim
      | outgrown => exact q.elim
end Go.Proofs.Ytmnmepaopodblaa

/- The range over a device's pending blocks. Condition: their places, in whatever order, are sorted by slices.Sort as it is printed. -/
namespace Go.Proofs.Ytmnmepaopodblaa
open Go
variable {K : Nat → Prop} {w0 : World} {H : List Chunk}

def encIU (p : Int × UInt32) : List Value := [vI p.1, vU32 p.2]
def enumU (ss : List UInt32) : List (Int × UInt32) := ss.zipIdx.map fun q => ((q.2 : Int), q.1)
theorem enumU_length (ss : List UInt32) : (enumU ss).length = ss.length := by simp [enumU]
theorem enumU_get {ss : List UInt32} {i : Nat} {p : UInt32} (h : ss[i]? = some p) : (enumU ss)[i]? = some ((i : Int), p) := by simp [enumU, h]
/-- the device's chunks -/
abbrev devC (b mp mb : Nat) (v : Value) (d : DevA) (T : List Chunk) : List Chunk :=
  own b (.cells #[vB d.off, vB d.isCut, vI d.lasts, vI d.counts, v, .map (some mp), .map (some mb), vU64 d.rcnt, vS d.rtag, vU32 d.rboots] 72) :: rowT 9 1 v eS d.blocks :: mapC mp vU32 vS d.pend :: mapC mb vU32 vB d.bad :: T
set_option maxRecDepth 100000 in
theorem q_waiting (b mp mb bx : Nat) (vb : Value) (d : DevA) (G1 : List Chunk) (ss : List UInt32) (hss : ∀ ks, ks.Perm (d.pend.map (·.1)) → ∃ n, f_slices_Sort_uint32_uint32 n ks = some ss) (hlen : d.pend.length ≤ 1073741824) (hlen2 : ss.length ≤ 1073741824) :
    SeqAt Try.prog K w0 53 [vP bx 0] [own bx (.cells #[vP b 0] 25)] (devC b mp mb vb d G1) encIU (enumU ss) := by
  intro lp J X T rc hy h0
  refine Con.enter Try.func53 rfl rfl ?_
  show SX _ _ _ _ _ _ _ _ _ (own bx (.cells #[vP b 0] 25) :: rc :: devC b mp mb vb d (G1 ++ T))
  refine SX.sr ?_
  refine SL.nilT 22 1 eU32 ?_
  refine SL.asg ⟨rfl, rfl, rfl, rfl⟩ rfl ?_
  refine SL.nx ?_
  refine SX.seq ?_
  refine SX.sr ?_
  refine SL.ld ⟨rfl, rfl, rfl, rfl⟩ sc25 rfl (cell_own 1 rfl rfl) ?_
  refine SL.nchk ⟨rfl, rfl, rfl, rfl⟩ rfl ?_
  refine SL.fa ⟨rfl, rfl, rfl, rfl⟩ rfl fo72_2 ?_
  refine SL.ld ⟨rfl, rfl, rfl, rfl⟩ sc67 rfl (cell_own 3 rfl rfl) ?_
  refine SL.mrg 5 ⟨rfl, rfl, rfl, rfl⟩ ty67 rfl rfl (fun it => trivial) fun it => ?_
  refine SL.nx ?_
  refine SX.block ?_
  refine SX.mono (SX.loop (α := List (UInt32 × List UInt8) × Value) (fun _ => True) (fun x => [(0, vY lp), (3, x.2), (11, vP it 0)])
    (fun x => rowT 22 1 x.2 eU32 (x.1.map (·.1)) :: own bx (.cells #[vP b 0] 25) :: rc :: own b (.cells #[vB d.off, vB d.isCut, vI d.lasts, vI d.counts, vb, .map (some mp), .map (some mb), vU64 d.rcnt, vS d.rtag, vU32 d.rboots] 72) :: rowT 9 1 vb eS d.blocks :: mapIt mp it vU32 vS d.pend x.1 :: mapC mb vU32 vB d.bad :: (G1 ++ T))
    (fun x => d.pend.length - x.1.length) (fun x D hp => ?_) ([], .slice none 0 0) trivial) (by repeat' (first | exact trivial | refine And.intro rfl ?_))
  obtain ⟨done, v⟩ := x
  dsimp only
  refine SX.sr ?_
  refine SL.mnx 5 (MapE.u32S ty22) ⟨rfl, rfl, rfl, rfl⟩ rfl rfl trivial (fun hperm => ?_) (fun p hp hlt => ⟨trivial, ?_⟩)
  · refine SL.ext ⟨rfl, rfl, rfl, rfl⟩ rfl rfl ?_
    refine SL.nx ?_
    refine SX.seq ?_
    refine SX.condF rfl ?_
    refine SX.exit ?_
    refine SQ.thnE ?_
    refine SQ.lpE ?_
    refine SQ.blkE ?_
    refine SQ.thn ?_
    refine SX.itOff 5 rfl ?_
    obtain ⟨n, hn⟩ := hss (done.map (·.1)) (hperm.map _)
    refine SX.sr ?_
    refine SL.mv ⟨rfl, rfl, rfl, rfl⟩ rfl ?_
    refine SL.call (vs := [_]) (Hin := [_]) (Hr := _) ⟨rfl, rfl, rfl, rfl⟩ rfl ⟨rfl, trivial⟩ cal54 rfl rfl (c_slices_Sort_uint32_uint32 hn) ?_
    rintro _ _ ⟨rfl, rfl⟩
    refine ⟨trivial, ?_⟩
    refine SL.nx ?_
    refine SX.sr ?_
    refine SL.mv ⟨rfl, rfl, rfl, rfl⟩ rfl ?_
    refine SL.lenT 0 ⟨rfl, rfl, rfl, rfl⟩ ty95 rfl rfl ?_
    refine SL.mv ⟨rfl, rfl, rfl, rfl⟩ rfl ?_
    refine SL.nx ?_
    refine SX.block ?_
    refine SX.mono (SX.loop (α := Nat × List Chunk) (fun x => x.1 ≤ ss.length ∧ J ((enumU ss).take x.1) x.2) (fun x => [(0, vY lp), (22, v), (23, vI ss.length), (24, vI x.1)])
      (fun x => rowT 22 1 v eU32 ss :: own bx (.cells #[vP b 0] 25) :: (x.2 ++ T)) (fun x => ss.length - x.1) (fun x D hp => ?_) (0, rc :: devC b mp mb vb d G1) ⟨Nat.zero_le _, h0⟩) (by repeat' (first | exact trivial | refine And.intro rfl ?_))
    obtain ⟨i, G⟩ := x
    obtain ⟨hi, hJ⟩ := hp
    dsimp only at hi hJ ⊢
    refine SX.sr ?_
    refine SL.bin ⟨rfl, rfl, rfl, rfl⟩ rfl rfl Bin.ltI ?_
    refine SL.nx ?_
    refine SX.seq ?_
    refine SX.cond rfl (fun hc2 => ?_) (fun hc2 => ?_)
    · skip
      have hlt : i < ss.length := by simpa using hc2
      have hg : ss[i]? = some ss[i] := List.getElem?_eq_getElem hlt
      have hn2 : nthI ss (i : Int) = some ss[i] := by simp [nthI, hlt]
      have hge := enumU_get hg
      generalize ss[i] = p at hg hn2 hge
      refine SX.skip ?_
      refine SQ.thn ?_
      refine SX.seq ?_
      refine SX.block ?_
      refine SX.sr ?_
      refine SL.mv ⟨rfl, rfl, rfl, rfl⟩ rfl ?_
      refine SL.iaT 0 hn2 ⟨rfl, rfl, rfl, rfl⟩ ty95 sz22 rfl rfl rfl fun g m cp hv => ?_
      refine SL.ld ⟨rfl, rfl, rfl, rfl⟩ sc22 rfl (cell_rowT (sz := 1) (enc := eU32) 0 0 (fun _ => rfl) rfl hv hn2 rfl) ?_
      refine SL.asg ⟨rfl, rfl, rfl, rfl⟩ rfl ?_
      refine SL.asg ⟨rfl, rfl, rfl, rfl⟩ rfl ?_
      refine SL.nx ?_
      refine SX.sr ?_
      refine SL.mv ⟨rfl, rfl, rfl, rfl⟩ rfl ?_
      refine SL.mv ⟨rfl, rfl, rfl, rfl⟩ rfl ?_
      refine SL.mv ⟨rfl, rfl, rfl, rfl⟩ rfl ?_
      refine SL.yld (M2 := [_, _]) (G := G) (T := T) (vs := [_, _]) (ok := fun G1 => J ((enumU ss).take (i + 1)) G1) (no := X) ⟨rfl, rfl, rfl, rfl⟩ rfl ⟨rfl, rfl, trivial⟩ rfl ?_ (fun bb G1 hG1 => ⟨trivial, ?_⟩)
      · intro M
        have := hy _ _ _ (take_split hge).1 G hJ M
        rw [← (take_split hge).2] at this
        exact this
      refine SL.not ⟨rfl, rfl, rfl, rfl⟩ rfl ?_
      refine SL.nx ?_
      refine SX.cond rfl (fun hc3 => ?_) (fun hc3 => ?_)
      · skip
        obtain rfl : bb = false := by simpa using hc3
        refine SX.ret ?_
        refine SQ.blkR ?_
        refine SQ.thnR ?_
        refine SQ.lpR ?_
        refine SQ.blkR ?_
        exact SQ.fret (res0 rfl) (ret_of (M := G1) (.inr hG1) fun _ h => h.skip [_, _])
      · skip
        obtain rfl : bb = true := by simpa using hc3
        refine SX.skip ?_
        refine SQ.blk ?_
        refine SQ.thn ?_
        refine SX.region ?_
        refine SL.bin ⟨rfl, rfl, rfl, rfl⟩ rfl rfl (Bin.addI (by omega) (by omega)) ?_
        refine SL.mv ⟨rfl, rfl, rfl, rfl⟩ rfl ?_
        refine SL.nil ?_
        exact SQ.again (i + 1, G1) ⟨hlt, hG1⟩ (by dsimp only; omega) (by repeat' (first | exact trivial | refine And.intro rfl ?_)) (fun _ h => h)
    · skip
      have hle : i = ss.length := by simp at hc2; omega
      refine SX.exit ?_
      refine SQ.thnE ?_
      refine SQ.lpE ?_
      refine SQ.blkE ?_
      exact SQ.fend (res0 rfl) (ret_of (M := G) (.inl (by rw [List.take_of_length_le (by rw [enumU_length]; omega)] at hJ; exact hJ)) fun _ h => h.skip [_, _])
  · refine SL.ext ⟨rfl, rfl, rfl, rfl⟩ rfl rfl ?_
    refine SL.nx ?_
    refine SX.seq ?_
    refine SX.condT rfl ?_
    refine SX.skip ?_
    refine SQ.thn ?_
    refine SX.block ?_
    refine SX.sr ?_
    refine SL.mer 5 ⟨rfl, rfl, rfl, rfl⟩ rfl rfl ?_
    refine SL.ext ⟨rfl, rfl, rfl, rfl⟩ rfl rfl ?_
    refine SL.asg ⟨rfl, rfl, rfl, rfl⟩ rfl ?_
    refine SL.nx ?_
    refine SX.region ?_
    refine SL.mv ⟨rfl, rfl, rfl, rfl⟩ rfl ?_
    refine SL.mv ⟨rfl, rfl, rfl, rfl⟩ rfl ?_
    refine SL.bsl [_] ⟨rfl, rfl, rfl, rfl⟩ ty95 sz22 ze22 ⟨rfl, trivial⟩ rfl rfl rfl (by simp [Value.cells]) rfl rfl (fun _ => trivial) fun b0 => ?_
    refine SL.ownT eU32 1 ([p.1] : List UInt32) rfl (fun _ => rfl) rfl ?_
    have hl : appL 4 (done.map (·.1)) [p.1] = some ((done ++ [p]).map (·.1)) := by
      simp only [appL, List.length_map, List.length_cons, List.length_nil, List.map_append, List.map_cons, List.map_nil]
      rw [if_pos ⟨by omega, by omega⟩]
    refine SL.appT 1 hl (sz := 1) (enc := eU32) (fun _ => rfl) ⟨rfl, rfl, rfl, rfl⟩ ty95 sz22 by22 ze22 rfl (by decide) rfl rfl rfl rfl (cells_rowA (sz := 1) (enc := eU32) 0 (fun _ => rfl) rfl) (by simp [eU32, Value.oneCell']) (fun _ => trivial) fun v2 => ?_
    refine SL.asg ⟨rfl, rfl, rfl, rfl⟩ rfl ?_
    refine SL.nil ?_
    refine SQ.blk ?_
    exact SQ.again (done ++ [p], v2) trivial (by simp; omega) (by repeat' (first | exact trivial | refine And.intro rfl ?_)) (fun _ h => h.skip [_])
theorem c_waiting (b : Nat) : Con Try.prog K w0 34 [vP b 0] [] H (fun u M => ∃ bx, u = .func (.func 53) #[] #[vP bx 0] ∧ M = [own bx (.cells #[vP b 0] 25)]) := by
  refine Con.enter Try.func34 rfl rfl ?_
  refine SX.sr ?_
  refine SL.box ⟨rfl, rfl, rfl, rfl⟩ rfl (fun _ => trivial) fun b0 => ?_
  refine SL.asg ⟨rfl, rfl, rfl, rfl⟩ rfl ?_
  refine SL.nx ?_
  refine SX.sr ?_
  refine SL.mkf (fv := #[]) (cv := #[_]) ⟨rfl, rfl, rfl, rfl⟩ rfl rfl ?_
  refine SL.asg ⟨rfl, rfl, rfl, rfl⟩ rfl ?_
  refine SL.nx ?_
  refine SX.ret ?_
  exact SQ.fret (res1 rfl rfl) (ret_of (M := [_]) ⟨_, rfl, rfl⟩ fun _ h => h.skip [])
end Go.Proofs.Ytmnmepaopodblaa

/- Plain laws of the words that printed functions use. No program in sight. No condition beyond those stated. -/
namespace Go.Proofs.Ytmnmepaopodblaa
open Go

/-- a loop of N rounds -/
theorem loop_all {α β : Type} {F : (α → Option β) → α → Option β} (I : Nat → α) (N : Nat) {z : Option β} (hs : ∀ i, i < N → ∀ k, F k (I i) = k (I (i + 1))) (he : ∀ k, F k (I N) = z) {m : Nat} (hm : N < m) : loopN F m (I 0) = z := by
  have key : ∀ d i m, i + d = N → d < m → loopN F m (I i) = z := by
    intro d
    induction d with
    | zero =>
      intro i m hi hm
      obtain rfl : i = N := by omega
      obtain ⟨m, rfl⟩ : ∃ k, m = k + 1 := ⟨m - 1, by omega⟩
      exact he _
    | succ d ih =>
      intro i m hi hm
      obtain ⟨m, rfl⟩ : ∃ k, m = k + 1 := ⟨m - 1, by omega⟩
      show F (loopN F m) (I i) = z
      rw [hs i (by omega)]
      exact ih (i + 1) m (by omega) (by omega)
  exact key N 0 m (by omega) hm
/-- a loop, whatever its rounds say of what is left -/
theorem loop_ind {α β : Type} {F : (α → Option β) → α → Option β} (I : Nat → α) (Z : Nat → Option β) (N : Nat) (hs : ∀ i, i < N → ∀ k, k (I (i + 1)) = Z (i + 1) → F k (I i) = Z i) (he : ∀ k, F k (I N) = Z N) {m : Nat} (hm : N < m) : loopN F m (I 0) = Z 0 := by
  have key : ∀ d i m, i + d = N → d < m → loopN F m (I i) = Z i := by
    intro d
    induction d with
    | zero =>
      intro i m hi hm
      obtain rfl : i = N := by omega
      obtain ⟨m, rfl⟩ : ∃ k, m = k + 1 := ⟨m - 1, by omega⟩
      exact he _
    | succ d ih =>
      intro i m hi hm
      obtain ⟨m, rfl⟩ : ∃ k, m = k + 1 := ⟨m - 1, by omega⟩
      show F (loopN F m) (I i) = Z i
      exact hs i (by omega) _ (ih (i + 1) m (by omega) (by omega))
  exact key N 0 m (by omega) hm
/-- a loop whose answer is one and the same, whenever it ends -/
theorem loop_pre {α β : Type} {F : (α → Option β) → α → Option β} (I : Nat → α) (p : Nat → Prop) (N : Nat) {z : Option β} (hs : ∀ i, i < N → p i → ∀ k, (p (i + 1) → k (I (i + 1)) = z) → F k (I i) = z) (he : p N → ∀ k, F k (I N) = z) (h0 : p 0) {m : Nat} (hm : N < m) : loopN F m (I 0) = z := by
  have key : ∀ d i m, i + d = N → d < m → p i → loopN F m (I i) = z := by
    intro d
    induction d with
    | zero =>
      intro i m hi hm hp
      obtain rfl : i = N := by omega
      obtain ⟨m, rfl⟩ : ∃ k, m = k + 1 := ⟨m - 1, by omega⟩
      exact he hp _
    | succ d ih =>
      intro i m hi hm hp
      obtain ⟨m, rfl⟩ : ∃ k, m = k + 1 := ⟨m - 1, by omega⟩
      show F (loopN F m) (I i) = z
      exact hs i (by omega) hp _ (ih (i + 1) m (by omega) (by omega))
  exact key N 0 m (by omega) hm h0
theorem nthI_nat {α : Type} {l : List α} {i : Nat} : nthI l (i : Int) = l[i]? := by simp [nthI]
theorem nthI_of {α : Type} {l : List α} {i : Int} {k : Nat} (h : i = (k : Int)) : nthI l i = l[k]? := by rw [h, nthI_nat]
theorem nthI_getD {α : Type} {l : List α} {i : Int} {k : Nat} (d : α) (h : i = (k : Int)) (hk : k < l.length) : nthI l i = some (l.getD k d) := by rw [nthI_of h, get_getD d hk]
theorem setI_of {α : Type} {l : List α} {i : Int} {k : Nat} {a : α} (h : i = (k : Int)) (hk : k < l.length) : setI l i a = some (l.set k a) := by
  subst h
  unfold setI
  rw [if_pos (by omega)]
  simp
theorem slcI_of {α : Type} {l : List α} {i j : Int} {p q : Nat} (hi : i = (p : Int)) (hj : j = (q : Int)) (h1 : p ≤ q) (h2 : q ≤ l.length) : slcI l i j = some ((l.drop p).take (q - p)) := by
  subst hi; subst hj
  unfold slcI
  rw [if_pos (by omega)]
  simp
theorem appL_eq {α : Type} {b : Nat} {s t : List α} (h : (s.length + t.length) * b ≤ 140737488355328) (h2 : s.length + t.length ≤ 9223372036854775807) : appL b s t = some (s ++ t) := if_pos ⟨h, h2⟩
theorem catS_eq {s t : List UInt8} (h : s.length + t.length ≤ 9223372036854775807) : catS s t = some (s ++ t) := if_pos h
theorem shN_nat {i : Nat} : shN (i : Int) = some i := by simp [shN]
theorem remI_of {a b : Nat} (hb : b ≠ 0) : remI (a : Int) (b : Int) = some ((a % b : Nat) : Int) := by
  unfold remI
  rw [if_neg (by omega), Int.tmod_eq_emod_of_nonneg (by omega)]
  rfl
theorem quoI_of {a b : Nat} (hb : b ≠ 0) (ha : a ≤ 9223372036854775807) : quoI (a : Int) (b : Int) = some ((a / b : Nat) : Int) := by
  unfold quoI
  have h1 : a / b ≤ a := Nat.div_le_self _ _
  rw [if_neg (by omega), Int.tdiv_eq_ediv_of_nonneg (by omega), show ((a : Int) / (b : Int)) = ((a / b : Nat) : Int) from rfl]
  generalize a / b = q at h1 ⊢
  rw [wI_eq (by omega) (by omega)]
theorem some_bind {α β : Type} {a : α} {f : α → Option β} : (some a).bind f = f a := by simp
theorem ret_eq {α β : Type} {e : α} {k : α → β} : ret e k = k e := by simp [ret]
theorem loopN_succ {α β : Type} {F : (α → Option β) → α → Option β} {m : Nat} {a : α} : loopN F (m + 1) a = F (loopN F m) a := by rw [loopN]
end Go.Proofs.Ytmnmepaopodblaa
