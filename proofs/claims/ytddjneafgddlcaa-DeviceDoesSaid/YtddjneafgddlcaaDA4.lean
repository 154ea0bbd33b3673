/- The texts WS1, one behind the other: each bears its own sentence. Conditions: as each says. -/
import Derived.Test.YtddjneafgddlcaaDA1
import Derived.Test.YtddjneafgddlcaaDA2
import Derived.Test.YtddjneafgddlcaaDA3

/- Plain functions of the references and the laws, printed from the loaded program, and the walks that show that the program computes them. Condition: the plain function yields. -/
namespace Go.Proofs.Ytddjneafgddlcaa
open Go
variable {K : Nat → Prop} {w0 : World} {H : List Chunk}

def f_slices_order2Ordered_uint32 (p0 : List UInt32) (p1 : Int) (p2 : Int) (p3 : Int) : Option (Int × Int × Int) :=
  (nthI p0 p2).bind fun x1 =>
  (nthI p0 p1).bind fun x2 =>
  (f_cmp_Less_uint32 x1 x2).bind fun y1 =>
  cond y1
  (
    some (p2, p1, wI (p3 + 1)))
  (
    some (p1, p2, p3))
set_option maxRecDepth 100000 in
theorem c_slices_order2Ordered_uint32 {v0_ : Value} {p0 : List UInt32} {p1 : Int} {p2 : Int} {b3_ : Nat} {p3 : Int} {r : Int × Int × Int} (h : f_slices_order2Ordered_uint32 p0 p1 p2 p3 = some r) (hs0_ : SlOf K w0 eU32 1 v0_ p0) : Con Try.prog K w0 77 [v0_, vI p1, vI p2, vP b3_ 0] [own b3_ (.cells #[vI p3] 3)] H (fun u M => u = .tuple #[vI r.1, vI r.2.1] ∧ M = [own b3_ (.cells #[vI r.2.2] 3)]) := by
  unfold f_slices_order2Ordered_uint32 at h
  refine Con.enter Try.func77 rfl rfl ?_
  refine SX.sr ?_
  refine SL.asg ⟨rfl, rfl, rfl, rfl⟩ rfl ?_
  refine SL.asg ⟨rfl, rfl, rfl, rfl⟩ rfl ?_
  refine SL.nx ?_
  refine SX.seq ?_
  refine SX.seq ?_
  obtain ⟨x1, hx1, h⟩ := bnd h
  obtain ⟨x2, hx2, h⟩ := bnd h
  obtain ⟨y1, hy1, h⟩ := bnd h
  refine SX.drawI mix [] (Pl.ap [(true, 0), (true, 1), (true, 2), (true, 3), (true, 4), (true, 5), (true, 6), (true, 7)] (.last 8 .nil)) (by kernel_rfl) ?_
  refine SL.mv ⟨rfl, rfl, rfl, rfl⟩ rfl ?_
  refine SL.mv ⟨rfl, rfl, rfl, rfl⟩ rfl ?_
  refine SL.iaN hx1 hs0_ ⟨rfl, rfl, rfl, rfl⟩ ty90 sz32 rfl rfl fun be1 of1 hc1 => ?_
  refine SL.ld ⟨rfl, rfl, rfl, rfl⟩ sc32 rfl (cell_kept (j := 0) hc1 rfl) ?_
  refine SL.mv ⟨rfl, rfl, rfl, rfl⟩ rfl ?_
  refine SL.mv ⟨rfl, rfl, rfl, rfl⟩ rfl ?_
  refine SL.iaN hx2 hs0_ ⟨rfl, rfl, rfl, rfl⟩ ty90 sz32 rfl rfl fun be2 of2 hc2 => ?_
  refine SL.ld ⟨rfl, rfl, rfl, rfl⟩ sc32 rfl (cell_kept (j := 0) hc2 rfl) ?_
  refine SL.last ?_
  refine SL.call (vs := [_, _]) (Hin := []) (Hr := _ :: _) ⟨rfl, rfl, rfl, rfl⟩ rfl ⟨rfl, rfl, trivial⟩ cal66 rfl rfl (c_cmp_Less_uint32 hy1) ?_
  rintro _ _ ⟨rfl, rfl⟩
  refine ⟨trivial, ?_⟩
  refine SL.nx ?_
  refine SX.cond rfl (fun hc3 => ?_) (fun hc3 => ?_)
  · skip
    replace h := cT hc3 h
    refine SX.sr ?_
    refine SL.mv ⟨rfl, rfl, rfl, rfl⟩ rfl ?_
    refine SL.nchk ⟨rfl, rfl, rfl, rfl⟩ rfl ?_
    refine SL.ld ⟨rfl, rfl, rfl, rfl⟩ sc3 rfl (cell_own 0 rfl rfl) ?_
    refine SL.bin ⟨rfl, rfl, rfl, rfl⟩ rfl rfl Bin.addW ?_
    refine SL.nchk ⟨rfl, rfl, rfl, rfl⟩ rfl ?_
    refine SL.st 0 ⟨rfl, rfl, rfl⟩ rfl rfl rfl sz3 rfl rfl rfl trivial ?_
    refine SL.nx ?_
    refine SX.sr ?_
    refine SL.mv ⟨rfl, rfl, rfl, rfl⟩ rfl ?_
    refine SL.mv ⟨rfl, rfl, rfl, rfl⟩ rfl ?_
    refine SL.asg ⟨rfl, rfl, rfl, rfl⟩ rfl ?_
    refine SL.asg ⟨rfl, rfl, rfl, rfl⟩ rfl ?_
    refine SL.nx ?_
    refine SX.ret ?_
    refine SQ.thnR ?_
    obtain rfl := Option.some.inj h
    exact SQ.fret (res2 rfl rfl rfl) (ret_of (M := [_]) ⟨rfl, rfl⟩ fun _ hw => HpOk.pick (H := [_]) hw [0] 1 rfl)
  · skip
    replace h := cF hc3 h
    refine SX.skip ?_
    refine SQ.thn ?_
    refine SX.sr ?_
    refine SL.mv ⟨rfl, rfl, rfl, rfl⟩ rfl ?_
    refine SL.mv ⟨rfl, rfl, rfl, rfl⟩ rfl ?_
    refine SL.asg ⟨rfl, rfl, rfl, rfl⟩ rfl ?_
    refine SL.asg ⟨rfl, rfl, rfl, rfl⟩ rfl ?_
    refine SL.nx ?_
    refine SX.ret ?_
    obtain rfl := Option.some.inj h
    exact SQ.fret (res2 rfl rfl rfl) (ret_of (M := [_]) ⟨rfl, rfl⟩ fun _ hw => HpOk.pick (H := [_]) hw [0] 1 rfl)

def f_slices_medianOrdered_uint32 (p0 : List UInt32) (p1 : Int) (p2 : Int) (p3 : Int) (p4 : Int) : Option (Int × Int) :=
  (f_slices_order2Ordered_uint32 p0 p1 p2 p4).bind fun y1 =>
  (f_slices_order2Ordered_uint32 p0 y1.2.1 p3 y1.2.2).bind fun y2 =>
  (f_slices_order2Ordered_uint32 p0 y1.1 y2.1 y2.2.2).bind fun y3 =>
  some (y3.2.1, y3.2.2)
set_option maxRecDepth 100000 in
theorem c_slices_medianOrdered_uint32 {v0_ : Value} {p0 : List UInt32} {p1 : Int} {p2 : Int} {p3 : Int} {b4_ : Nat} {p4 : Int} {r : Int × Int} (h : f_slices_medianOrdered_uint32 p0 p1 p2 p3 p4 = some r) (hs0_ : SlOf K w0 eU32 1 v0_ p0) : Con Try.prog K w0 75 [v0_, vI p1, vI p2, vI p3, vP b4_ 0] [own b4_ (.cells #[vI p4] 3)] H (fun u M => u = vI r.1 ∧ M = [own b4_ (.cells #[vI r.2] 3)]) := by
  unfold f_slices_medianOrdered_uint32 at h
  refine Con.enter Try.func75 rfl rfl ?_
  refine SX.sr ?_
  refine SL.asg ⟨rfl, rfl, rfl, rfl⟩ rfl ?_
  refine SL.nx ?_
  refine SX.sr ?_
  obtain ⟨y1, hy1, h⟩ := bnd h
  refine SL.mv ⟨rfl, rfl, rfl, rfl⟩ rfl ?_
  refine SL.mv ⟨rfl, rfl, rfl, rfl⟩ rfl ?_
  refine SL.mv ⟨rfl, rfl, rfl, rfl⟩ rfl ?_
  refine SL.mv ⟨rfl, rfl, rfl, rfl⟩ rfl ?_
  refine SL.call (vs := [_, _, _, _]) (Hin := [_]) (Hr := _) ⟨rfl, rfl, rfl, rfl⟩ rfl ⟨rfl, rfl, rfl, rfl, trivial⟩ cal77 rfl rfl (c_slices_order2Ordered_uint32 hy1 hs0_) ?_
  rintro _ _ ⟨rfl, rfl⟩
  refine ⟨trivial, ?_⟩
  refine SL.mv ⟨rfl, rfl, rfl, rfl⟩ rfl ?_
  refine SL.ext ⟨rfl, rfl, rfl, rfl⟩ rfl rfl ?_
  refine SL.ext ⟨rfl, rfl, rfl, rfl⟩ rfl rfl ?_
  refine SL.asg ⟨rfl, rfl, rfl, rfl⟩ rfl ?_
  refine SL.asg ⟨rfl, rfl, rfl, rfl⟩ rfl ?_
  refine SL.nx ?_
  refine SX.sr ?_
  obtain ⟨y2, hy2, h⟩ := bnd h
  refine SL.mv ⟨rfl, rfl, rfl, rfl⟩ rfl ?_
  refine SL.mv ⟨rfl, rfl, rfl, rfl⟩ rfl ?_
  refine SL.mv ⟨rfl, rfl, rfl, rfl⟩ rfl ?_
  refine SL.mv ⟨rfl, rfl, rfl, rfl⟩ rfl ?_
  refine SL.call (vs := [_, _, _, _]) (Hin := [_]) (Hr := _) ⟨rfl, rfl, rfl, rfl⟩ rfl ⟨rfl, rfl, rfl, rfl, trivial⟩ cal77 rfl rfl (c_slices_order2Ordered_uint32 hy2 hs0_) ?_
  rintro _ _ ⟨rfl, rfl⟩
  refine ⟨trivial, ?_⟩
  refine SL.mv ⟨rfl, rfl, rfl, rfl⟩ rfl ?_
  refine SL.ext ⟨rfl, rfl, rfl, rfl⟩ rfl rfl ?_
  refine SL.ext ⟨rfl, rfl, rfl, rfl⟩ rfl rfl ?_
  refine SL.asg ⟨rfl, rfl, rfl, rfl⟩ rfl ?_
  refine SL.asg ⟨rfl, rfl, rfl, rfl⟩ rfl ?_
  refine SL.nx ?_
  refine SX.sr ?_
  obtain ⟨y3, hy3, h⟩ := bnd h
  refine SL.mv ⟨rfl, rfl, rfl, rfl⟩ rfl ?_
  refine SL.mv ⟨rfl, rfl, rfl, rfl⟩ rfl ?_
  refine SL.mv ⟨rfl, rfl, rfl, rfl⟩ rfl ?_
  refine SL.mv ⟨rfl, rfl, rfl, rfl⟩ rfl ?_
  refine SL.call (vs := [_, _, _, _]) (Hin := [_]) (Hr := _) ⟨rfl, rfl, rfl, rfl⟩ rfl ⟨rfl, rfl, rfl, rfl, trivial⟩ cal77 rfl rfl (c_slices_order2Ordered_uint32 hy3 hs0_) ?_
  rintro _ _ ⟨rfl, rfl⟩
  refine ⟨trivial, ?_⟩
  refine SL.mv ⟨rfl, rfl, rfl, rfl⟩ rfl ?_
  refine SL.ext ⟨rfl, rfl, rfl, rfl⟩ rfl rfl ?_
  refine SL.ext ⟨rfl, rfl, rfl, rfl⟩ rfl rfl ?_
  refine SL.asg ⟨rfl, rfl, rfl, rfl⟩ rfl ?_
  refine SL.asg ⟨rfl, rfl, rfl, rfl⟩ rfl ?_
  refine SL.nx ?_
  refine SX.sr ?_
  refine SL.mv ⟨rfl, rfl, rfl, rfl⟩ rfl ?_
  refine SL.asg ⟨rfl, rfl, rfl, rfl⟩ rfl ?_
  refine SL.nx ?_
  refine SX.ret ?_
  obtain rfl := Option.some.inj h
  exact SQ.fret (res1 rfl rfl) (ret_of (M := [_]) ⟨rfl, rfl⟩ fun _ hw => HpOk.pick (H := [_]) hw [0] 1 rfl)

def f_slices_medianAdjacentOrdered_uint32 (p0 : List UInt32) (p1 : Int) (p2 : Int) : Option (Int × Int) :=
  (f_slices_medianOrdered_uint32 p0 (wI (p1 - 1)) p1 (wI (p1 + 1)) p2).bind fun y1 =>
  some (y1.1, y1.2)
set_option maxRecDepth 100000 in
theorem c_slices_medianAdjacentOrdered_uint32 {v0_ : Value} {p0 : List UInt32} {p1 : Int} {b2_ : Nat} {p2 : Int} {r : Int × Int} (h : f_slices_medianAdjacentOrdered_uint32 p0 p1 p2 = some r) (hs0_ : SlOf K w0 eU32 1 v0_ p0) : Con Try.prog K w0 74 [v0_, vI p1, vP b2_ 0] [own b2_ (.cells #[vI p2] 3)] H (fun u M => u = vI r.1 ∧ M = [own b2_ (.cells #[vI r.2] 3)]) := by
  unfold f_slices_medianAdjacentOrdered_uint32 at h
  refine Con.enter Try.func74 rfl rfl ?_
  refine SX.sr ?_
  refine SL.asg ⟨rfl, rfl, rfl, rfl⟩ rfl ?_
  refine SL.nx ?_
  refine SX.sr ?_
  obtain ⟨y1, hy1, h⟩ := bnd h
  refine SL.mv ⟨rfl, rfl, rfl, rfl⟩ rfl ?_
  refine SL.mv ⟨rfl, rfl, rfl, rfl⟩ rfl ?_
  refine SL.bin ⟨rfl, rfl, rfl, rfl⟩ rfl rfl Bin.subW ?_
  refine SL.mv ⟨rfl, rfl, rfl, rfl⟩ rfl ?_
  refine SL.mv ⟨rfl, rfl, rfl, rfl⟩ rfl ?_
  refine SL.bin ⟨rfl, rfl, rfl, rfl⟩ rfl rfl Bin.addW ?_
  refine SL.mv ⟨rfl, rfl, rfl, rfl⟩ rfl ?_
  refine SL.call (vs := [_, _, _, _, _]) (Hin := [_]) (Hr := _) ⟨rfl, rfl, rfl, rfl⟩ rfl ⟨rfl, rfl, rfl, rfl, rfl, trivial⟩ cal75 rfl rfl (c_slices_medianOrdered_uint32 hy1 hs0_) ?_
  rintro _ _ ⟨rfl, rfl⟩
  refine ⟨trivial, ?_⟩
  refine SL.asg ⟨rfl, rfl, rfl, rfl⟩ rfl ?_
  refine SL.nx ?_
  refine SX.ret ?_
  obtain rfl := Option.some.inj h
  exact SQ.fret (res1 rfl rfl) (ret_of (M := [_]) ⟨rfl, rfl⟩ fun _ hw => HpOk.pick (H := [_]) hw [0] 1 rfl)

def f_slices_reverseRangeOrdered_uint32_l1_b (nx_f_slices_reverseRangeOrdered_uint32_l1 : List UInt32 × Int × Int → Option (List UInt32)) (l1 : List UInt32) (a1 : Int) (a2 : Int) : Option (List UInt32) :=
  cond (decide (a1 < a2))
  (
    (nthI l1 a2).bind fun x1 =>
    (nthI l1 a1).bind fun x2 =>
    (nthI l1 a1).bind fun x3 =>
    (setI l1 a1 x1).bind fun l2 =>
    (nthI l2 a2).bind fun x4 =>
    (setI l2 a2 x2).bind fun l3 =>
    ret (wI (a1 + 1)) fun i_1 =>
    ret (wI (a2 - 1)) fun j_2 =>
    nx_f_slices_reverseRangeOrdered_uint32_l1 (l3, i_1, j_2))
  (
    some l1)
def f_slices_reverseRangeOrdered_uint32_l1 : Nat → (List UInt32 × Int × Int) → Option (List UInt32) := loopN fun nx x => f_slices_reverseRangeOrdered_uint32_l1_b  nx x.1 x.2.1 x.2.2
def f_slices_reverseRangeOrdered_uint32 (n : Nat) (p0 : List UInt32) (p1 : Int) (p2 : Int) : Option (List UInt32) :=
  ret (wI (p2 - 1)) fun j_1 =>
  f_slices_reverseRangeOrdered_uint32_l1 n (p0, p1, j_1)
set_option maxRecDepth 100000 in
theorem c_slices_reverseRangeOrdered_uint32 {n : Nat} {v0_ : Value} {p0 : List UInt32} {p1 : Int} {p2 : Int} {r : List UInt32} (h : f_slices_reverseRangeOrdered_uint32 n p0 p1 p2 = some r)  : Con Try.prog K w0 64 [v0_, vI p1, vI p2] [rowT 32 1 v0_ eU32 p0] H (fun u M => u = .tuple #[] ∧ M = [rowT 32 1 v0_ eU32 r]) := by
  unfold f_slices_reverseRangeOrdered_uint32 at h
  refine Con.enter Try.func64 rfl rfl ?_
  refine SX.sr ?_
  refine SL.mv ⟨rfl, rfl, rfl, rfl⟩ rfl ?_
  refine SL.asg ⟨rfl, rfl, rfl, rfl⟩ rfl ?_
  refine SL.nx ?_
  refine SX.sr ?_
  obtain ⟨j_1, ej_1, h⟩ := retE h
  refine SL.mv ⟨rfl, rfl, rfl, rfl⟩ rfl ?_
  refine SL.bin ⟨rfl, rfl, rfl, rfl⟩ rfl rfl Bin.subW ?_
  refine SL.asgX (u := vI j_1) ⟨rfl, rfl, rfl, rfl⟩ rfl (congrArg vI ej_1) ?_
  refine SL.nx ?_
  refine SX.block ?_
  refine SX.heap (SX.mono (SX.loop (α := Nat × List UInt32 × Int × Int) (fun x => f_slices_reverseRangeOrdered_uint32_l1 x.1 (x.2.1, x.2.2.1, x.2.2.2) = some r) (fun x => [(0, v0_), (6, vI x.2.2.1), (7, vI x.2.2.2)]) (fun x => rowT 32 1 v0_ eU32 x.2.1 :: H) (fun x => x.1) (fun x D h => ?_) (n, p0, p1, j_1) h) (by repeat' (first | exact trivial | refine And.intro rfl ?_))) (fun _ hw => HpOk.pick (H := [_]) hw [0] 1 rfl)
  obtain ⟨m1, l1, a1, a2⟩ := x
  dsimp only at h
  rcases m1 with _ | m1
  · cases (show (none : Option _) = some r from h)
  replace h : f_slices_reverseRangeOrdered_uint32_l1_b (f_slices_reverseRangeOrdered_uint32_l1 m1) l1 a1 a2 = some r := h
  unfold f_slices_reverseRangeOrdered_uint32_l1_b at h
  refine SX.re [(0, v0_), (6, vI a1), (7, vI a2)] (rowT 32 1 v0_ eU32 l1 :: H) ?_ (by repeat' (first | exact trivial | refine And.intro rfl ?_))
  refine SX.seq ?_
  refine SX.sr ?_
  refine SL.mv ⟨rfl, rfl, rfl, rfl⟩ rfl ?_
  refine SL.mv ⟨rfl, rfl, rfl, rfl⟩ rfl ?_
  refine SL.bin ⟨rfl, rfl, rfl, rfl⟩ rfl rfl Bin.ltI ?_
  refine SL.nx ?_
  refine SX.cond rfl (fun hc1 => ?_) (fun hc1 => ?_)
  · skip
    replace h := cT hc1 h
    refine SX.skip ?_
    refine SQ.thn ?_
    refine SX.block ?_
    refine SX.seq ?_
    obtain ⟨x1, hx1, h⟩ := bnd h
    obtain ⟨x2, hx2, h⟩ := bnd h
    obtain ⟨x3, hx3, h⟩ := bnd h
    obtain ⟨l2, hl2, h⟩ := bnd h
    obtain ⟨x4, hx4, h⟩ := bnd h
    obtain ⟨l3, hl3, h⟩ := bnd h
    refine SX.drawI mix [] (Pl.ap [(true, 0), (true, 1), (true, 2), (true, 3), (true, 4), (true, 5), (true, 6), (true, 8), (true, 9), (true, 10)] (.alt 7 (Pl.ap [(false, 11), (true, 12), (false, 13), (true, 14)] (.last 15 .nil)) (.cons (false, 11) (Pl.ap [(false, 7), (true, 12), (false, 13), (true, 14)] (.last 15 .nil))))) (by kernel_rfl) ?_
    refine SL.mv ⟨rfl, rfl, rfl, rfl⟩ rfl ?_
    refine SL.mv ⟨rfl, rfl, rfl, rfl⟩ rfl ?_
    refine SL.mv ⟨rfl, rfl, rfl, rfl⟩ rfl ?_
    refine SL.mv ⟨rfl, rfl, rfl, rfl⟩ rfl ?_
    refine SL.mv ⟨rfl, rfl, rfl, rfl⟩ rfl ?_
    refine SL.mv ⟨rfl, rfl, rfl, rfl⟩ rfl ?_
    refine SL.iaT 0 hx1 ⟨rfl, rfl, rfl, rfl⟩ ty90 sz32 rfl rfl rfl fun g1 m2 cp1 hv1 => ?_
    refine SL.mv ⟨rfl, rfl, rfl, rfl⟩ rfl ?_
    refine SL.mv ⟨rfl, rfl, rfl, rfl⟩ rfl ?_
    refine SL.iaT 0 hx2 ⟨rfl, rfl, rfl, rfl⟩ ty90 sz32 rfl rfl rfl fun g2 m3 cp2 hv2 => ?_
    refine SL.two ?_ ?_
    · skip
      refine SL.ld ⟨rfl, rfl, rfl, rfl⟩ sc32 rfl (cell_rowT (sz := 1) (enc := eU32) 0 0 (fun _ => rfl) rfl hv1 hx1 rfl) ?_
      refine SL.ld ⟨rfl, rfl, rfl, rfl⟩ sc32 rfl (cell_rowT (sz := 1) (enc := eU32) 0 0 (fun _ => rfl) rfl hv2 hx2 rfl) ?_
      refine SL.iaT 0 hx3 ⟨rfl, rfl, rfl, rfl⟩ ty90 sz32 rfl rfl rfl fun g3 m4 cp3 hv3 => ?_
      refine SL.stTN (sz := 1) (enc := eU32) 0 hl2 (fun _ => rfl) ⟨rfl, rfl, rfl⟩ rfl rfl rfl rfl hv3 sz32 (by simp [Value.oneCell']) trivial ?_
      refine SL.iaT 0 hx4 ⟨rfl, rfl, rfl, rfl⟩ ty90 sz32 rfl rfl rfl fun g4 m5 cp4 hv4 => ?_
      refine SL.last ?_
      refine SL.stTN (sz := 1) (enc := eU32) 0 hl3 (fun _ => rfl) ⟨rfl, rfl, rfl⟩ rfl rfl rfl rfl hv4 sz32 (by simp [Value.oneCell']) trivial ?_
      refine SL.nx ?_
      refine SX.sr ?_
      obtain ⟨i_1, ei_1, h⟩ := retE h
      refine SL.mv ⟨rfl, rfl, rfl, rfl⟩ rfl ?_
      refine SL.bin ⟨rfl, rfl, rfl, rfl⟩ rfl rfl Bin.addW ?_
      refine SL.asgX (u := vI i_1) ⟨rfl, rfl, rfl, rfl⟩ rfl (congrArg vI ei_1) ?_
      refine SL.nx ?_
      refine SX.region ?_
      obtain ⟨j_2, ej_2, h⟩ := retE h
      refine SL.mv ⟨rfl, rfl, rfl, rfl⟩ rfl ?_
      refine SL.bin ⟨rfl, rfl, rfl, rfl⟩ rfl rfl Bin.subW ?_
      refine SL.asgX (u := vI j_2) ⟨rfl, rfl, rfl, rfl⟩ rfl (congrArg vI ej_2) ?_
      refine SL.nil ?_
      refine SQ.blk ?_
      exact SQ.again (m1, l3, i_1, j_2) h (Nat.lt_succ_self _) (by repeat' (first | exact trivial | refine And.intro rfl ?_)) (fun _ hw => HpOk.pick (H := [_]) hw [0] 1 rfl)
    · skip
      refine SL.ld ⟨rfl, rfl, rfl, rfl⟩ sc32 rfl (cell_rowT (sz := 1) (enc := eU32) 0 0 (fun _ => rfl) rfl hv2 hx2 rfl) ?_
      refine SL.ld ⟨rfl, rfl, rfl, rfl⟩ sc32 rfl (cell_rowT (sz := 1) (enc := eU32) 0 0 (fun _ => rfl) rfl hv1 hx1 rfl) ?_
      refine SL.iaT 0 hx3 ⟨rfl, rfl, rfl, rfl⟩ ty90 sz32 rfl rfl rfl fun g3 m4 cp3 hv3 => ?_
      refine SL.stTN (sz := 1) (enc := eU32) 0 hl2 (fun _ => rfl) ⟨rfl, rfl, rfl⟩ rfl rfl rfl rfl hv3 sz32 (by simp [Value.oneCell']) trivial ?_
      refine SL.iaT 0 hx4 ⟨rfl, rfl, rfl, rfl⟩ ty90 sz32 rfl rfl rfl fun g4 m5 cp4 hv4 => ?_
      refine SL.last ?_
      refine SL.stTN (sz := 1) (enc := eU32) 0 hl3 (fun _ => rfl) ⟨rfl, rfl, rfl⟩ rfl rfl rfl rfl hv4 sz32 (by simp [Value.oneCell']) trivial ?_
      refine SL.nx ?_
      refine SX.sr ?_
      obtain ⟨i_1, ei_1, h⟩ := retE h
      refine SL.mv ⟨rfl, rfl, rfl, rfl⟩ rfl ?_
      refine SL.bin ⟨rfl, rfl, rfl, rfl⟩ rfl rfl Bin.addW ?_
      refine SL.asgX (u := vI i_1) ⟨rfl, rfl, rfl, rfl⟩ rfl (congrArg vI ei_1) ?_
      refine SL.nx ?_
      refine SX.region ?_
      obtain ⟨j_2, ej_2, h⟩ := retE h
      refine SL.mv ⟨rfl, rfl, rfl, rfl⟩ rfl ?_
      refine SL.bin ⟨rfl, rfl, rfl, rfl⟩ rfl rfl Bin.subW ?_
      refine SL.asgX (u := vI j_2) ⟨rfl, rfl, rfl, rfl⟩ rfl (congrArg vI ej_2) ?_
      refine SL.nil ?_
      refine SQ.blk ?_
      exact SQ.again (m1, l3, i_1, j_2) h (Nat.lt_succ_self _) (by repeat' (first | exact trivial | refine And.intro rfl ?_)) (fun _ hw => HpOk.pick (H := [_]) hw [0] 1 rfl)
  · skip
    replace h := cF hc1 h
    refine SX.exit ?_
    refine SQ.thnE ?_
    refine SQ.lpE ?_
    refine SQ.blkE ?_
    obtain rfl := Option.some.inj h
    exact SQ.fend (res0 rfl) (ret_of (M := [_]) ⟨rfl, rfl⟩ fun _ hw => HpOk.pick (H := [_]) hw [0] 1 rfl)

def f_slices_choosePivotOrdered_uint32_j1 (y1 : Int) (a1 : Int) : Option (Int × Int) :=
  ret (decide (y1 = 0)) fun x2 =>
  cond x2
  (
    some (a1, 1))
  (
    ret (decide (y1 = 12)) fun x3 =>
    cond x3
    (
      some (a1, 2))
    (
      some (a1, 0)))
def f_slices_choosePivotOrdered_uint32_j2 (p0 : List UInt32) (y2 : Int) (a2 : Int) (a3 : Int) (a4 : Int) : Option (Int × Int) :=
  (f_slices_medianOrdered_uint32 p0 a2 a3 a4 y2).bind fun y6 =>
  f_slices_choosePivotOrdered_uint32_j1 y6.2 y6.1
def f_slices_choosePivotOrdered_uint32 (p0 : List UInt32) (p1 : Int) (p2 : Int) : Option (Int × Int) :=
  ret (wI (p2 - p1)) fun x1 =>
  (quoI x1 4).bind fun q1 =>
  ret (wI (p1 + (wI (q1 * 1)))) fun i_1 =>
  (quoI x1 4).bind fun q2 =>
  ret (wI (p1 + (wI (q2 * 2)))) fun j_1 =>
  (quoI x1 4).bind fun q3 =>
  ret (wI (p1 + (wI (q3 * 3)))) fun k_1 =>
  cond (decide (8 ≤ x1))
  (
    cond (decide (50 ≤ x1))
    (
      (f_slices_medianAdjacentOrdered_uint32 p0 i_1 0).bind fun y3 =>
      (f_slices_medianAdjacentOrdered_uint32 p0 j_1 y3.2).bind fun y4 =>
      (f_slices_medianAdjacentOrdered_uint32 p0 k_1 y4.2).bind fun y5 =>
      f_slices_choosePivotOrdered_uint32_j2 p0 y5.2 y3.1 y4.1 y5.1)
    (
      f_slices_choosePivotOrdered_uint32_j2 p0 0 i_1 j_1 k_1))
  (
    f_slices_choosePivotOrdered_uint32_j1 0 j_1)
set_option maxRecDepth 100000 in
theorem c_slices_choosePivotOrdered_uint32 {v0_ : Value} {p0 : List UInt32} {p1 : Int} {p2 : Int} {r : Int × Int} (h : f_slices_choosePivotOrdered_uint32 p0 p1 p2 = some r) (hs0_ : SlOf K w0 eU32 1 v0_ p0) : Con Try.prog K w0 63 [v0_, vI p1, vI p2] [] H (fun u M => u = .tuple #[vI r.1, vI r.2] ∧ M = []) := by
  unfold f_slices_choosePivotOrdered_uint32 at h
  refine Con.enter Try.func63 rfl rfl ?_
  refine SX.sr ?_
  refine SL.asg ⟨rfl, rfl, rfl, rfl⟩ rfl ?_
  refine SL.asg ⟨rfl, rfl, rfl, rfl⟩ rfl ?_
  refine SL.nx ?_
  refine SX.sr ?_
  obtain ⟨x1, ex1, h⟩ := retE h
  refine SL.mv ⟨rfl, rfl, rfl, rfl⟩ rfl ?_
  refine SL.mv ⟨rfl, rfl, rfl, rfl⟩ rfl ?_
  refine SL.bin ⟨rfl, rfl, rfl, rfl⟩ rfl rfl Bin.subW ?_
  refine SL.asgX (u := vI x1) ⟨rfl, rfl, rfl, rfl⟩ rfl (congrArg vI ex1) ?_
  refine SL.nx ?_
  refine SX.sr ?_
  refine SL.alloc ⟨rfl, rfl, rfl, rfl⟩ ze3 (fun _ => trivial) fun b1 => ?_
  refine SL.nx ?_
  refine SX.sr ?_
  obtain ⟨q1, hq1, h⟩ := bnd h
  obtain ⟨i_1, ei_1, h⟩ := retE h
  refine SL.mv ⟨rfl, rfl, rfl, rfl⟩ rfl ?_
  refine SL.mv ⟨rfl, rfl, rfl, rfl⟩ rfl ?_
  refine SL.bin ⟨rfl, rfl, rfl, rfl⟩ rfl rfl (Bin.divO hq1) ?_
  refine SL.bin ⟨rfl, rfl, rfl, rfl⟩ rfl rfl Bin.mulW ?_
  refine SL.bin ⟨rfl, rfl, rfl, rfl⟩ rfl rfl Bin.addW ?_
  refine SL.asgX (u := vI i_1) ⟨rfl, rfl, rfl, rfl⟩ rfl (congrArg vI ei_1) ?_
  refine SL.nx ?_
  refine SX.sr ?_
  obtain ⟨q2, hq2, h⟩ := bnd h
  obtain ⟨j_1, ej_1, h⟩ := retE h
  refine SL.mv ⟨rfl, rfl, rfl, rfl⟩ rfl ?_
  refine SL.mv ⟨rfl, rfl, rfl, rfl⟩ rfl ?_
  refine SL.bin ⟨rfl, rfl, rfl, rfl⟩ rfl rfl (Bin.divO hq2) ?_
  refine SL.bin ⟨rfl, rfl, rfl, rfl⟩ rfl rfl Bin.mulW ?_
  refine SL.bin ⟨rfl, rfl, rfl, rfl⟩ rfl rfl Bin.addW ?_
  refine SL.asgX (u := vI j_1) ⟨rfl, rfl, rfl, rfl⟩ rfl (congrArg vI ej_1) ?_
  refine SL.nx ?_
  refine SX.sr ?_
  obtain ⟨q3, hq3, h⟩ := bnd h
  obtain ⟨k_1, ek_1, h⟩ := retE h
  refine SL.mv ⟨rfl, rfl, rfl, rfl⟩ rfl ?_
  refine SL.mv ⟨rfl, rfl, rfl, rfl⟩ rfl ?_
  refine SL.bin ⟨rfl, rfl, rfl, rfl⟩ rfl rfl (Bin.divO hq3) ?_
  refine SL.bin ⟨rfl, rfl, rfl, rfl⟩ rfl rfl Bin.mulW ?_
  refine SL.bin ⟨rfl, rfl, rfl, rfl⟩ rfl rfl Bin.addW ?_
  refine SL.asgX (u := vI k_1) ⟨rfl, rfl, rfl, rfl⟩ rfl (congrArg vI ek_1) ?_
  refine SL.nx ?_
  refine SX.meetD (α := Int × Int) (fun x => f_slices_choosePivotOrdered_uint32_j1 x.1 x.2 = some r) (fun x => [(9, vP b1 0), (11, vI x.2)]) (fun x => own b1 (.cells #[vI x.1] 3) :: H) ?_ (fun x D h => ?_)
  · skip
    refine SX.sr ?_
    refine SL.mv ⟨rfl, rfl, rfl, rfl⟩ rfl ?_
    refine SL.bin ⟨rfl, rfl, rfl, rfl⟩ rfl rfl Bin.geI ?_
    refine SL.nx ?_
    refine SX.cond rfl (fun hc1 => ?_) (fun hc1 => ?_)
    · skip
      replace h := cT hc1 h
      refine SX.meetD (α := Int × Int × Int × Int) (fun x => f_slices_choosePivotOrdered_uint32_j2 p0 x.1 x.2.1 x.2.2.1 x.2.2.2 = some r) (fun x => [(0, v0_), (9, vP b1 0), (10, vI x.2.1), (11, vI x.2.2.1), (12, vI x.2.2.2)]) (fun x => own b1 (.cells #[vI x.1] 3) :: H) ?_ (fun x D h => ?_)
      · skip
        refine SX.sr ?_
        refine SL.mv ⟨rfl, rfl, rfl, rfl⟩ rfl ?_
        refine SL.bin ⟨rfl, rfl, rfl, rfl⟩ rfl rfl Bin.geI ?_
        refine SL.nx ?_
        refine SX.cond rfl (fun hc2 => ?_) (fun hc2 => ?_)
        · skip
          replace h := cT hc2 h
          refine SX.sr ?_
          obtain ⟨y3, hy3, h⟩ := bnd h
          refine SL.mv ⟨rfl, rfl, rfl, rfl⟩ rfl ?_
          refine SL.mv ⟨rfl, rfl, rfl, rfl⟩ rfl ?_
          refine SL.call (vs := [_, _, _]) (Hin := [_]) (Hr := _) ⟨rfl, rfl, rfl, rfl⟩ rfl ⟨rfl, rfl, rfl, trivial⟩ cal74 rfl rfl (c_slices_medianAdjacentOrdered_uint32 hy3 hs0_) ?_
          rintro _ _ ⟨rfl, rfl⟩
          refine ⟨trivial, ?_⟩
          refine SL.asg ⟨rfl, rfl, rfl, rfl⟩ rfl ?_
          refine SL.nx ?_
          refine SX.sr ?_
          obtain ⟨y4, hy4, h⟩ := bnd h
          refine SL.mv ⟨rfl, rfl, rfl, rfl⟩ rfl ?_
          refine SL.mv ⟨rfl, rfl, rfl, rfl⟩ rfl ?_
          refine SL.call (vs := [_, _, _]) (Hin := [_]) (Hr := _) ⟨rfl, rfl, rfl, rfl⟩ rfl ⟨rfl, rfl, rfl, trivial⟩ cal74 rfl rfl (c_slices_medianAdjacentOrdered_uint32 hy4 hs0_) ?_
          rintro _ _ ⟨rfl, rfl⟩
          refine ⟨trivial, ?_⟩
          refine SL.asg ⟨rfl, rfl, rfl, rfl⟩ rfl ?_
          refine SL.nx ?_
          refine SX.region ?_
          obtain ⟨y5, hy5, h⟩ := bnd h
          refine SL.mv ⟨rfl, rfl, rfl, rfl⟩ rfl ?_
          refine SL.mv ⟨rfl, rfl, rfl, rfl⟩ rfl ?_
          refine SL.call (vs := [_, _, _]) (Hin := [_]) (Hr := _) ⟨rfl, rfl, rfl, rfl⟩ rfl ⟨rfl, rfl, rfl, trivial⟩ cal74 rfl rfl (c_slices_medianAdjacentOrdered_uint32 hy5 hs0_) ?_
          rintro _ _ ⟨rfl, rfl⟩
          refine ⟨trivial, ?_⟩
          refine SL.asg ⟨rfl, rfl, rfl, rfl⟩ rfl ?_
          refine SL.nil ?_
          exact SQ.midD (y5.2, y3.1, y4.1, y5.1) h (by repeat' (first | exact trivial | refine And.intro rfl ?_)) (fun _ hw => HpOk.pick (H := [_]) hw [0] 1 rfl)
        · skip
          replace h := cF hc2 h
          refine SX.skip ?_
          exact SQ.midD (0, i_1, j_1, k_1) h (by repeat' (first | exact trivial | refine And.intro rfl ?_)) (fun _ hw => HpOk.pick (H := [_]) hw [0] 1 rfl)
      · skip
        obtain ⟨y2, a2, a3, a4⟩ := x
        dsimp only at h
        unfold f_slices_choosePivotOrdered_uint32_j2 at h
        refine SX.re [(0, v0_), (9, vP b1 0), (10, vI a2), (11, vI a3), (12, vI a4)] (own b1 (.cells #[vI y2] 3) :: H) ?_ (by repeat' (first | exact trivial | refine And.intro rfl ?_))
        refine SX.region ?_
        obtain ⟨y6, hy6, h⟩ := bnd h
        refine SL.mv ⟨rfl, rfl, rfl, rfl⟩ rfl ?_
        refine SL.mv ⟨rfl, rfl, rfl, rfl⟩ rfl ?_
        refine SL.mv ⟨rfl, rfl, rfl, rfl⟩ rfl ?_
        refine SL.mv ⟨rfl, rfl, rfl, rfl⟩ rfl ?_
        refine SL.call (vs := [_, _, _, _, _]) (Hin := [_]) (Hr := _) ⟨rfl, rfl, rfl, rfl⟩ rfl ⟨rfl, rfl, rfl, rfl, rfl, trivial⟩ cal75 rfl rfl (c_slices_medianOrdered_uint32 hy6 hs0_) ?_
        rintro _ _ ⟨rfl, rfl⟩
        refine ⟨trivial, ?_⟩
        refine SL.asg ⟨rfl, rfl, rfl, rfl⟩ rfl ?_
        refine SL.nil ?_
        exact SQ.midD (y6.2, y6.1) h (by repeat' (first | exact trivial | refine And.intro rfl ?_)) (fun _ hw => HpOk.pick (H := [_]) hw [0] 1 rfl)
    · skip
      replace h := cF hc1 h
      refine SX.skip ?_
      exact SQ.midD (0, j_1) h (by repeat' (first | exact trivial | refine And.intro rfl ?_)) (fun _ hw => HpOk.pick (H := [_]) hw [0] 1 rfl)
  · skip
    obtain ⟨y1, a1⟩ := x
    dsimp only at h
    unfold f_slices_choosePivotOrdered_uint32_j1 at h
    refine SX.re [(9, vP b1 0), (11, vI a1)] (own b1 (.cells #[vI y1] 3) :: H) ?_ (by repeat' (first | exact trivial | refine And.intro rfl ?_))
    refine SX.sr ?_
    refine SL.ld ⟨rfl, rfl, rfl, rfl⟩ sc3 rfl (cell_own 0 rfl rfl) ?_
    refine SL.nx ?_
    refine SX.block ?_
    refine SX.sr ?_
    obtain ⟨x2, ex2, h⟩ := retE h
    refine SL.bin ⟨rfl, rfl, rfl, rfl⟩ rfl rfl Bin.eqI ?_
    refine SL.asgX (u := vB x2) ⟨rfl, rfl, rfl, rfl⟩ rfl (congrArg vB ex2) ?_
    refine SL.nx ?_
    refine SX.cond rfl (fun hc3 => ?_) (fun hc3 => ?_)
    · skip
      replace h := cT hc3 h
      refine SX.sr ?_
      refine SL.mv ⟨rfl, rfl, rfl, rfl⟩ rfl ?_
      refine SL.asg ⟨rfl, rfl, rfl, rfl⟩ rfl ?_
      refine SL.asg ⟨rfl, rfl, rfl, rfl⟩ rfl ?_
      refine SL.nx ?_
      refine SX.ret ?_
      refine SQ.blkR ?_
      obtain rfl := Option.some.inj h
      exact SQ.fret (res2 rfl rfl rfl) (ret_of (M := []) ⟨rfl, rfl⟩ fun _ hw => HpOk.pick (H := [_]) hw [] 1 rfl)
    · skip
      replace h := cF hc3 h
      refine SX.sr ?_
      obtain ⟨x3, ex3, h⟩ := retE h
      refine SL.bin ⟨rfl, rfl, rfl, rfl⟩ rfl rfl Bin.eqI ?_
      refine SL.asgX (u := vB x3) ⟨rfl, rfl, rfl, rfl⟩ rfl (congrArg vB ex3) ?_
      refine SL.nx ?_
      refine SX.cond rfl (fun hc4 => ?_) (fun hc4 => ?_)
      · skip
        replace h := cT hc4 h
        refine SX.sr ?_
        refine SL.mv ⟨rfl, rfl, rfl, rfl⟩ rfl ?_
        refine SL.asg ⟨rfl, rfl, rfl, rfl⟩ rfl ?_
        refine SL.asg ⟨rfl, rfl, rfl, rfl⟩ rfl ?_
        refine SL.nx ?_
        refine SX.ret ?_
        refine SQ.blkR ?_
        obtain rfl := Option.some.inj h
        exact SQ.fret (res2 rfl rfl rfl) (ret_of (M := []) ⟨rfl, rfl⟩ fun _ hw => HpOk.pick (H := [_]) hw [] 1 rfl)
      · skip
        replace h := cF hc4 h
        refine SX.sr ?_
        refine SL.mv ⟨rfl, rfl, rfl, rfl⟩ rfl ?_
        refine SL.asg ⟨rfl, rfl, rfl, rfl⟩ rfl ?_
        refine SL.asg ⟨rfl, rfl, rfl, rfl⟩ rfl ?_
        refine SL.nx ?_
        refine SX.ret ?_
        refine SQ.blkR ?_
        obtain rfl := Option.some.inj h
        exact SQ.fret (res2 rfl rfl rfl) (ret_of (M := []) ⟨rfl, rfl⟩ fun _ hw => HpOk.pick (H := [_]) hw [] 1 rfl)

def f_slices_siftDownOrdered_uint32_j1 (p3 : Int) (l1 : List UInt32) (a1 : Int) (nx_f_slices_siftDownOrdered_uint32_l1 : List UInt32 × Int → Option (List UInt32)) (a2 : Int) : Option (List UInt32) :=
  (nthI l1 (wI (p3 + a1))).bind fun x5 =>
  (nthI l1 (wI (p3 + a2))).bind fun x6 =>
  (f_cmp_Less_uint32 x5 x6).bind fun y3 =>
  cond (!y3)
  (
    some l1)
  (
    (nthI l1 (wI (p3 + a2))).bind fun x7 =>
    (nthI l1 (wI (p3 + a1))).bind fun x8 =>
    (nthI l1 (wI (p3 + a1))).bind fun x9 =>
    (setI l1 (wI (p3 + a1)) x7).bind fun l2 =>
    (nthI l2 (wI (p3 + a2))).bind fun x10 =>
    (setI l2 (wI (p3 + a2)) x8).bind fun l3 =>
    nx_f_slices_siftDownOrdered_uint32_l1 (l3, a2))
def f_slices_siftDownOrdered_uint32_l1_b (p2 : Int) (p3 : Int) (nx_f_slices_siftDownOrdered_uint32_l1 : List UInt32 × Int → Option (List UInt32)) (l1 : List UInt32) (a1 : Int) : Option (List UInt32) :=
  ret (wI ((wI (2 * a1)) + 1)) fun x1 =>
  cond (decide (p2 ≤ x1))
  (
    some l1)
  (
    (andO (decide (wI (x1 + 1) < p2)) ((nthI l1 (wI (p3 + x1))).bind fun x2 => (nthI l1 (wI ((wI (p3 + x1)) + 1))).bind fun x3 => (f_cmp_Less_uint32 x2 x3).bind fun y1 => some (y1))).bind fun y2 =>
    cond y2
    (
      ret (wI (x1 + 1)) fun x4 =>
      f_slices_siftDownOrdered_uint32_j1 p3 l1 a1 nx_f_slices_siftDownOrdered_uint32_l1 x4)
    (
      f_slices_siftDownOrdered_uint32_j1 p3 l1 a1 nx_f_slices_siftDownOrdered_uint32_l1 x1))
def f_slices_siftDownOrdered_uint32_l1 (p2 : Int) (p3 : Int) : Nat → (List UInt32 × Int) → Option (List UInt32) := loopN fun nx x => f_slices_siftDownOrdered_uint32_l1_b p2 p3 nx x.1 x.2
def f_slices_siftDownOrdered_uint32 (n : Nat) (p0 : List UInt32) (p1 : Int) (p2 : Int) (p3 : Int) : Option (List UInt32) :=
  f_slices_siftDownOrdered_uint32_l1 p2 p3 n (p0, p1)
set_option maxRecDepth 100000 in
theorem c_slices_siftDownOrdered_uint32 {n : Nat} {v0_ : Value} {p0 : List UInt32} {p1 : Int} {p2 : Int} {p3 : Int} {r : List UInt32} (h : f_slices_siftDownOrdered_uint32 n p0 p1 p2 p3 = some r)  : Con Try.prog K w0 71 [v0_, vI p1, vI p2, vI p3] [rowT 32 1 v0_ eU32 p0] H (fun u M => u = .tuple #[] ∧ M = [rowT 32 1 v0_ eU32 r]) := by
  unfold f_slices_siftDownOrdered_uint32 at h
  refine Con.enter Try.func71 rfl rfl ?_
  refine SX.sr ?_
  refine SL.mv ⟨rfl, rfl, rfl, rfl⟩ rfl ?_
  refine SL.asg ⟨rfl, rfl, rfl, rfl⟩ rfl ?_
  refine SL.nx ?_
  refine SX.block ?_
  refine SX.heap (SX.mono (SX.loop (α := Nat × List UInt32 × Int) (fun x => f_slices_siftDownOrdered_uint32_l1 p2 p3 x.1 (x.2.1, x.2.2) = some r) (fun x => [(0, v0_), (2, vI p2), (3, vI p3), (8, vI x.2.2)]) (fun x => rowT 32 1 v0_ eU32 x.2.1 :: H) (fun x => x.1) (fun x D h => ?_) (n, p0, p1) h) (by repeat' (first | exact trivial | refine And.intro rfl ?_))) (fun _ hw => HpOk.pick (H := [_]) hw [0] 1 rfl)
  obtain ⟨m1, l1, a1⟩ := x
  dsimp only at h
  rcases m1 with _ | m1
  · cases (show (none : Option _) = some r from h)
  replace h : f_slices_siftDownOrdered_uint32_l1_b p2 p3 (f_slices_siftDownOrdered_uint32_l1 p2 p3 m1) l1 a1 = some r := h
  unfold f_slices_siftDownOrdered_uint32_l1_b at h
  refine SX.re [(0, v0_), (2, vI p2), (3, vI p3), (8, vI a1)] (rowT 32 1 v0_ eU32 l1 :: H) ?_ (by repeat' (first | exact trivial | refine And.intro rfl ?_))
  refine SX.block ?_
  refine SX.sr ?_
  obtain ⟨x1, ex1, h⟩ := retE h
  refine SL.mv ⟨rfl, rfl, rfl, rfl⟩ rfl ?_
  refine SL.bin ⟨rfl, rfl, rfl, rfl⟩ rfl rfl Bin.mulW ?_
  refine SL.bin ⟨rfl, rfl, rfl, rfl⟩ rfl rfl Bin.addW ?_
  refine SL.asgX (u := vI x1) ⟨rfl, rfl, rfl, rfl⟩ rfl (congrArg vI ex1) ?_
  refine SL.nx ?_
  refine SX.seq ?_
  refine SX.sr ?_
  refine SL.mv ⟨rfl, rfl, rfl, rfl⟩ rfl ?_
  refine SL.mv ⟨rfl, rfl, rfl, rfl⟩ rfl ?_
  refine SL.bin ⟨rfl, rfl, rfl, rfl⟩ rfl rfl Bin.geI ?_
  refine SL.nx ?_
  refine SX.cond rfl (fun hc1 => ?_) (fun hc1 => ?_)
  · skip
    replace h := cT hc1 h
    refine SX.exit ?_
    refine SQ.thnE ?_
    refine SQ.blkO ?_
    refine SQ.lpE ?_
    refine SQ.blkE ?_
    obtain rfl := Option.some.inj h
    exact SQ.fend (res0 rfl) (ret_of (M := [_]) ⟨rfl, rfl⟩ fun _ hw => HpOk.pick (H := [_]) hw [0] 1 rfl)
  · skip
    replace h := cF hc1 h
    refine SX.skip ?_
    refine SQ.thn ?_
    refine SX.meetD (α := Int) (fun x => f_slices_siftDownOrdered_uint32_j1 p3 l1 a1 (f_slices_siftDownOrdered_uint32_l1 p2 p3 m1) x = some r) (fun x => [(0, v0_), (2, vI p2), (3, vI p3), (8, vI a1), (9, vI x)]) (fun x => rowT 32 1 v0_ eU32 l1 :: H) ?_ (fun a2 D h => ?_)
    · skip
      refine SX.seq ?_
      obtain ⟨y2, hy2, h⟩ := bnd h
      refine SX.drawI mix [0] (Pl.of [(true, 0), (true, 1), (true, 2), (true, 3), (true, 4), (true, 5), (true, 6), (true, 7), (true, 8), (true, 9), (true, 10), (true, 11), (true, 12), (true, 13), (true, 14), (true, 15), (true, 16), (true, 17), (false, 18), (false, 19)]) (by kernel_rfl) ?_
      refine SL.mv ⟨rfl, rfl, rfl, rfl⟩ rfl ?_
      refine SL.bin ⟨rfl, rfl, rfl, rfl⟩ rfl rfl Bin.addW ?_
      refine SL.mv ⟨rfl, rfl, rfl, rfl⟩ rfl ?_
      refine SL.bin ⟨rfl, rfl, rfl, rfl⟩ rfl rfl Bin.ltI ?_
      refine SL.mv ⟨rfl, rfl, rfl, rfl⟩ rfl ?_
      refine SL.andN 21 15 36 hy2 rfl (fun hb hg1 k => ?_) (fun hb k => ?_) ?_
      · skip
        obtain ⟨x2, hx2, hg1⟩ := bnd hg1
        obtain ⟨x3, hx3, hg1⟩ := bnd hg1
        obtain ⟨y1, hy1, hg1⟩ := bnd hg1
        obtain rfl := Option.some.inj hg1
        refine SL.mv ⟨rfl, rfl, rfl, rfl⟩ rfl ?_
        refine SL.mv ⟨rfl, rfl, rfl, rfl⟩ rfl ?_
        refine SL.mv ⟨rfl, rfl, rfl, rfl⟩ rfl ?_
        refine SL.bin ⟨rfl, rfl, rfl, rfl⟩ rfl rfl Bin.addW ?_
        refine SL.iaT 0 hx2 ⟨rfl, rfl, rfl, rfl⟩ ty90 sz32 rfl rfl rfl fun g1 m2 cp1 hv1 => ?_
        refine SL.ld ⟨rfl, rfl, rfl, rfl⟩ sc32 rfl (cell_rowT (sz := 1) (enc := eU32) 0 0 (fun _ => rfl) rfl hv1 hx2 rfl) ?_
        refine SL.mv ⟨rfl, rfl, rfl, rfl⟩ rfl ?_
        refine SL.mv ⟨rfl, rfl, rfl, rfl⟩ rfl ?_
        refine SL.mv ⟨rfl, rfl, rfl, rfl⟩ rfl ?_
        refine SL.bin ⟨rfl, rfl, rfl, rfl⟩ rfl rfl Bin.addW ?_
        refine SL.bin ⟨rfl, rfl, rfl, rfl⟩ rfl rfl Bin.addW ?_
        refine SL.iaT 0 hx3 ⟨rfl, rfl, rfl, rfl⟩ ty90 sz32 rfl rfl rfl fun g2 m3 cp2 hv2 => ?_
        refine SL.ld ⟨rfl, rfl, rfl, rfl⟩ sc32 rfl (cell_rowT (sz := 1) (enc := eU32) 0 0 (fun _ => rfl) rfl hv2 hx3 rfl) ?_
        refine SL.call (vs := [_, _]) (Hin := []) (Hr := _ :: _) ⟨rfl, rfl, rfl, rfl⟩ rfl ⟨rfl, rfl, trivial⟩ cal66 rfl rfl (c_cmp_Less_uint32 hy1) ?_
        rintro _ _ ⟨rfl, rfl⟩
        refine ⟨⟨⟨0, rfl⟩, trivial⟩, ?_⟩
        refine SL.pk ⟨rfl, rfl, rfl, rfl⟩ rfl rfl ?_
        exact k.mono (by repeat' (first | exact trivial | refine And.intro rfl ?_))
      · skip
        refine SL.pass rfl rfl rfl ?_
        refine SL.pass rfl rfl rfl ?_
        refine SL.pass rfl rfl rfl ?_
        refine SL.pass rfl rfl rfl ?_
        refine SL.pass rfl rfl rfl ?_
        refine SL.pass rfl rfl rfl ?_
        refine SL.pass rfl rfl rfl ?_
        refine SL.pass rfl rfl rfl ?_
        refine SL.pass rfl rfl rfl ?_
        refine SL.pass rfl rfl rfl ?_
        refine SL.pass rfl rfl rfl ?_
        refine SL.pass rfl rfl rfl ?_
        refine SL.pass rfl rfl rfl ?_
        refine SL.pass rfl rfl rfl ?_
        refine SL.pk ⟨rfl, rfl, rfl, rfl⟩ rfl rfl ?_
        exact k.mono (by repeat' (first | exact trivial | refine And.intro rfl ?_))
      refine SL.nx ?_
      refine SX.cond rfl (fun hc2 => ?_) (fun hc2 => ?_)
      · skip
        replace h := cT hc2 h
        refine SX.region ?_
        obtain ⟨x4, ex4, h⟩ := retE h
        refine SL.mv ⟨rfl, rfl, rfl, rfl⟩ rfl ?_
        refine SL.bin ⟨rfl, rfl, rfl, rfl⟩ rfl rfl Bin.addW ?_
        refine SL.asgX (u := vI x4) ⟨rfl, rfl, rfl, rfl⟩ rfl (congrArg vI ex4) ?_
        refine SL.nil ?_
        exact SQ.midD x4 h (by repeat' (first | exact trivial | refine And.intro rfl ?_)) (fun _ hw => HpOk.pick (H := [_]) hw [0] 1 rfl)
      · skip
        replace h := cF hc2 h
        refine SX.skip ?_
        exact SQ.midD x1 h (by repeat' (first | exact trivial | refine And.intro rfl ?_)) (fun _ hw => HpOk.pick (H := [_]) hw [0] 1 rfl)
    · skip
      unfold f_slices_siftDownOrdered_uint32_j1 at h
      refine SX.re [(0, v0_), (2, vI p2), (3, vI p3), (8, vI a1), (9, vI a2)] (rowT 32 1 v0_ eU32 l1 :: H) ?_ (by repeat' (first | exact trivial | refine And.intro rfl ?_))
      refine SX.seq ?_
      refine SX.seq ?_
      obtain ⟨x5, hx5, h⟩ := bnd h
      obtain ⟨x6, hx6, h⟩ := bnd h
      obtain ⟨y3, hy3, h⟩ := bnd h
      refine SX.drawI mix [0] (Pl.ap [(true, 0), (true, 1), (true, 2), (true, 3), (true, 4), (true, 5), (true, 6), (true, 7), (true, 8), (true, 9), (true, 10), (true, 11)] (.last 12 (Pl.of [(false, 13)]))) (by kernel_rfl) ?_
      refine SL.mv ⟨rfl, rfl, rfl, rfl⟩ rfl ?_
      refine SL.mv ⟨rfl, rfl, rfl, rfl⟩ rfl ?_
      refine SL.mv ⟨rfl, rfl, rfl, rfl⟩ rfl ?_
      refine SL.bin ⟨rfl, rfl, rfl, rfl⟩ rfl rfl Bin.addW ?_
      refine SL.iaT 0 hx5 ⟨rfl, rfl, rfl, rfl⟩ ty90 sz32 rfl rfl rfl fun g3 m4 cp3 hv3 => ?_
      refine SL.ld ⟨rfl, rfl, rfl, rfl⟩ sc32 rfl (cell_rowT (sz := 1) (enc := eU32) 0 0 (fun _ => rfl) rfl hv3 hx5 rfl) ?_
      refine SL.mv ⟨rfl, rfl, rfl, rfl⟩ rfl ?_
      refine SL.mv ⟨rfl, rfl, rfl, rfl⟩ rfl ?_
      refine SL.mv ⟨rfl, rfl, rfl, rfl⟩ rfl ?_
      refine SL.bin ⟨rfl, rfl, rfl, rfl⟩ rfl rfl Bin.addW ?_
      refine SL.iaT 0 hx6 ⟨rfl, rfl, rfl, rfl⟩ ty90 sz32 rfl rfl rfl fun g4 m5 cp4 hv4 => ?_
      refine SL.ld ⟨rfl, rfl, rfl, rfl⟩ sc32 rfl (cell_rowT (sz := 1) (enc := eU32) 0 0 (fun _ => rfl) rfl hv4 hx6 rfl) ?_
      refine SL.last ?_
      refine SL.call (vs := [_, _]) (Hin := []) (Hr := _ :: _) ⟨rfl, rfl, rfl, rfl⟩ rfl ⟨rfl, rfl, trivial⟩ cal66 rfl rfl (c_cmp_Less_uint32 hy3) ?_
      rintro _ _ ⟨rfl, rfl⟩
      refine ⟨trivial, ?_⟩
      refine SL.not ⟨rfl, rfl, rfl, rfl⟩ rfl ?_
      refine SL.nx ?_
      refine SX.cond rfl (fun hc3 => ?_) (fun hc3 => ?_)
      · skip
        replace h := cT hc3 h
        refine SX.ret ?_
        refine SQ.thnR ?_
        refine SQ.blkR ?_
        refine SQ.lpR ?_
        refine SQ.blkR ?_
        obtain rfl := Option.some.inj h
        exact SQ.fret (res0 rfl) (ret_of (M := [_]) ⟨rfl, rfl⟩ fun _ hw => HpOk.pick (H := [_]) hw [0] 1 rfl)
      · skip
        replace h := cF hc3 h
        refine SX.skip ?_
        refine SQ.thn ?_
        refine SX.seq ?_
        obtain ⟨x7, hx7, h⟩ := bnd h
        obtain ⟨x8, hx8, h⟩ := bnd h
        obtain ⟨x9, hx9, h⟩ := bnd h
        obtain ⟨l2, hl2, h⟩ := bnd h
        obtain ⟨x10, hx10, h⟩ := bnd h
        obtain ⟨l3, hl3, h⟩ := bnd h
        refine SX.drawI mix [] (Pl.ap [(true, 0), (true, 1), (true, 2), (true, 3), (true, 4), (true, 5), (true, 6), (true, 7), (true, 8), (true, 9), (true, 10), (true, 11), (true, 12), (true, 14), (true, 15), (true, 16), (true, 17), (true, 18)] (.alt 13 (Pl.ap [(false, 19), (true, 20), (false, 21), (true, 22)] (.last 23 .nil)) (.cons (false, 19) (Pl.ap [(false, 13), (true, 20), (false, 21), (true, 22)] (.last 23 .nil))))) (by kernel_rfl) ?_
        refine SL.mv ⟨rfl, rfl, rfl, rfl⟩ rfl ?_
        refine SL.mv ⟨rfl, rfl, rfl, rfl⟩ rfl ?_
        refine SL.mv ⟨rfl, rfl, rfl, rfl⟩ rfl ?_
        refine SL.bin ⟨rfl, rfl, rfl, rfl⟩ rfl rfl Bin.addW ?_
        refine SL.mv ⟨rfl, rfl, rfl, rfl⟩ rfl ?_
        refine SL.mv ⟨rfl, rfl, rfl, rfl⟩ rfl ?_
        refine SL.mv ⟨rfl, rfl, rfl, rfl⟩ rfl ?_
        refine SL.bin ⟨rfl, rfl, rfl, rfl⟩ rfl rfl Bin.addW ?_
        refine SL.mv ⟨rfl, rfl, rfl, rfl⟩ rfl ?_
        refine SL.mv ⟨rfl, rfl, rfl, rfl⟩ rfl ?_
        refine SL.mv ⟨rfl, rfl, rfl, rfl⟩ rfl ?_
        refine SL.bin ⟨rfl, rfl, rfl, rfl⟩ rfl rfl Bin.addW ?_
        refine SL.iaT 0 hx7 ⟨rfl, rfl, rfl, rfl⟩ ty90 sz32 rfl rfl rfl fun g5 m6 cp5 hv5 => ?_
        refine SL.mv ⟨rfl, rfl, rfl, rfl⟩ rfl ?_
        refine SL.mv ⟨rfl, rfl, rfl, rfl⟩ rfl ?_
        refine SL.mv ⟨rfl, rfl, rfl, rfl⟩ rfl ?_
        refine SL.bin ⟨rfl, rfl, rfl, rfl⟩ rfl rfl Bin.addW ?_
        refine SL.iaT 0 hx8 ⟨rfl, rfl, rfl, rfl⟩ ty90 sz32 rfl rfl rfl fun g6 m7 cp6 hv6 => ?_
        refine SL.two ?_ ?_
        · skip
          refine SL.ld ⟨rfl, rfl, rfl, rfl⟩ sc32 rfl (cell_rowT (sz := 1) (enc := eU32) 0 0 (fun _ => rfl) rfl hv5 hx7 rfl) ?_
          refine SL.ld ⟨rfl, rfl, rfl, rfl⟩ sc32 rfl (cell_rowT (sz := 1) (enc := eU32) 0 0 (fun _ => rfl) rfl hv6 hx8 rfl) ?_
          refine SL.iaT 0 hx9 ⟨rfl, rfl, rfl, rfl⟩ ty90 sz32 rfl rfl rfl fun g7 m8 cp7 hv7 => ?_
          refine SL.stTN (sz := 1) (enc := eU32) 0 hl2 (fun _ => rfl) ⟨rfl, rfl, rfl⟩ rfl rfl rfl rfl hv7 sz32 (by simp [Value.oneCell']) trivial ?_
          refine SL.iaT 0 hx10 ⟨rfl, rfl, rfl, rfl⟩ ty90 sz32 rfl rfl rfl fun g8 m9 cp8 hv8 => ?_
          refine SL.last ?_
          refine SL.stTN (sz := 1) (enc := eU32) 0 hl3 (fun _ => rfl) ⟨rfl, rfl, rfl⟩ rfl rfl rfl rfl hv8 sz32 (by simp [Value.oneCell']) trivial ?_
          refine SL.nx ?_
          refine SX.region ?_
          refine SL.mv ⟨rfl, rfl, rfl, rfl⟩ rfl ?_
          refine SL.asg ⟨rfl, rfl, rfl, rfl⟩ rfl ?_
          refine SL.nil ?_
          refine SQ.blk ?_
          exact SQ.again (m1, l3, a2) h (Nat.lt_succ_self _) (by repeat' (first | exact trivial | refine And.intro rfl ?_)) (fun _ hw => HpOk.pick (H := [_]) hw [0] 1 rfl)
        · skip
          refine SL.ld ⟨rfl, rfl, rfl, rfl⟩ sc32 rfl (cell_rowT (sz := 1) (enc := eU32) 0 0 (fun _ => rfl) rfl hv6 hx8 rfl) ?_
          refine SL.ld ⟨rfl, rfl, rfl, rfl⟩ sc32 rfl (cell_rowT (sz := 1) (enc := eU32) 0 0 (fun _ => rfl) rfl hv5 hx7 rfl) ?_
          refine SL.iaT 0 hx9 ⟨rfl, rfl, rfl, rfl⟩ ty90 sz32 rfl rfl rfl fun g7 m8 cp7 hv7 => ?_
          refine SL.stTN (sz := 1) (enc := eU32) 0 hl2 (fun _ => rfl) ⟨rfl, rfl, rfl⟩ rfl rfl rfl rfl hv7 sz32 (by simp [Value.oneCell']) trivial ?_
          refine SL.iaT 0 hx10 ⟨rfl, rfl, rfl, rfl⟩ ty90 sz32 rfl rfl rfl fun g8 m9 cp8 hv8 => ?_
          refine SL.last ?_
          refine SL.stTN (sz := 1) (enc := eU32) 0 hl3 (fun _ => rfl) ⟨rfl, rfl, rfl⟩ rfl rfl rfl rfl hv8 sz32 (by simp [Value.oneCell']) trivial ?_
          refine SL.nx ?_
          refine SX.region ?_
          refine SL.mv ⟨rfl, rfl, rfl, rfl⟩ rfl ?_
          refine SL.asg ⟨rfl, rfl, rfl, rfl⟩ rfl ?_
          refine SL.nil ?_
          refine SQ.blk ?_
          exact SQ.again (m1, l3, a2) h (Nat.lt_succ_self _) (by repeat' (first | exact trivial | refine And.intro rfl ?_)) (fun _ hw => HpOk.pick (H := [_]) hw [0] 1 rfl)

def f_slices_heapSortOrdered_uint32_l2_b (n : Nat) (p1 : Int) (nx_f_slices_heapSortOrdered_uint32_l2 : List UInt32 × Int → Option (List UInt32)) (l3 : List UInt32) (a2 : Int) : Option (List UInt32) :=
  cond (decide (0 ≤ a2))
  (
    (nthI l3 (wI (p1 + a2))).bind fun x1 =>
    (nthI l3 p1).bind fun x2 =>
    (nthI l3 p1).bind fun x3 =>
    (setI l3 p1 x1).bind fun l4 =>
    (nthI l4 (wI (p1 + a2))).bind fun x4 =>
    (setI l4 (wI (p1 + a2)) x2).bind fun l5 =>
    (f_slices_siftDownOrdered_uint32 n l5 0 a2 p1).bind fun y2 =>
    ret (wI (a2 - 1)) fun i_3 =>
    nx_f_slices_heapSortOrdered_uint32_l2 (y2, i_3))
  (
    some l3)
def f_slices_heapSortOrdered_uint32_l2 (n : Nat) (p1 : Int) : Nat → (List UInt32 × Int) → Option (List UInt32) := loopN fun nx x => f_slices_heapSortOrdered_uint32_l2_b n p1 nx x.1 x.2
def f_slices_heapSortOrdered_uint32_j1 (n : Nat) (p1 : Int) (hi_1 : Int) (l1 : List UInt32) : Option (List UInt32) :=
  ret (wI (hi_1 - 1)) fun i_2 =>
  f_slices_heapSortOrdered_uint32_l2 n p1 n (l1, i_2)
def f_slices_heapSortOrdered_uint32_l1_b (n : Nat) (p1 : Int) (hi_1 : Int) (nx_f_slices_heapSortOrdered_uint32_l1 : List UInt32 × Int → Option (List UInt32)) (l2 : List UInt32) (a1 : Int) : Option (List UInt32) :=
  cond (decide (0 ≤ a1))
  (
    (f_slices_siftDownOrdered_uint32 n l2 a1 hi_1 p1).bind fun y1 =>
    ret (wI (a1 - 1)) fun i_1 =>
    nx_f_slices_heapSortOrdered_uint32_l1 (y1, i_1))
  (
    f_slices_heapSortOrdered_uint32_j1 n p1 hi_1 l2)
def f_slices_heapSortOrdered_uint32_l1 (n : Nat) (p1 : Int) (hi_1 : Int) : Nat → (List UInt32 × Int) → Option (List UInt32) := loopN fun nx x => f_slices_heapSortOrdered_uint32_l1_b n p1 hi_1 nx x.1 x.2
def f_slices_heapSortOrdered_uint32 (n : Nat) (p0 : List UInt32) (p1 : Int) (p2 : Int) : Option (List UInt32) :=
  ret (wI (p2 - p1)) fun hi_1 =>
  (quoI (wI (hi_1 - 1)) 2).bind fun q1 =>
  f_slices_heapSortOrdered_uint32_l1 n p1 hi_1 n (p0, q1)
set_option maxRecDepth 100000 in
theorem c_slices_heapSortOrdered_uint32 {n : Nat} {v0_ : Value} {p0 : List UInt32} {p1 : Int} {p2 : Int} {r : List UInt32} (h : f_slices_heapSortOrdered_uint32 n p0 p1 p2 = some r)  : Con Try.prog K w0 61 [v0_, vI p1, vI p2] [rowT 32 1 v0_ eU32 p0] H (fun u M => u = .tuple #[] ∧ M = [rowT 32 1 v0_ eU32 r]) := by
  unfold f_slices_heapSortOrdered_uint32 at h
  refine Con.enter Try.func61 rfl rfl ?_
  refine SX.sr ?_
  refine SL.mv ⟨rfl, rfl, rfl, rfl⟩ rfl ?_
  refine SL.asg ⟨rfl, rfl, rfl, rfl⟩ rfl ?_
  refine SL.nx ?_
  refine SX.sr ?_
  refine SL.asg ⟨rfl, rfl, rfl, rfl⟩ rfl ?_
  refine SL.nx ?_
  refine SX.sr ?_
  obtain ⟨hi_1, ehi_1, h⟩ := retE h
  refine SL.mv ⟨rfl, rfl, rfl, rfl⟩ rfl ?_
  refine SL.mv ⟨rfl, rfl, rfl, rfl⟩ rfl ?_
  refine SL.bin ⟨rfl, rfl, rfl, rfl⟩ rfl rfl Bin.subW ?_
  refine SL.asgX (u := vI hi_1) ⟨rfl, rfl, rfl, rfl⟩ rfl (congrArg vI ehi_1) ?_
  refine SL.nx ?_
  refine SX.meetD (α := List UInt32) (fun x => f_slices_heapSortOrdered_uint32_j1 n p1 hi_1 x = some r) (fun x => [(0, v0_), (6, vI p1), (7, vI 0), (8, vI hi_1)]) (fun x => rowT 32 1 v0_ eU32 x :: H) ?_ (fun l1 D h => ?_)
  · skip
    refine SX.sr ?_
    obtain ⟨q1, hq1, h⟩ := bnd h
    refine SL.mv ⟨rfl, rfl, rfl, rfl⟩ rfl ?_
    refine SL.bin ⟨rfl, rfl, rfl, rfl⟩ rfl rfl Bin.subW ?_
    refine SL.bin ⟨rfl, rfl, rfl, rfl⟩ rfl rfl (Bin.divO hq1) ?_
    refine SL.asg ⟨rfl, rfl, rfl, rfl⟩ rfl ?_
    refine SL.nx ?_
    refine SX.block ?_
    refine SX.heap (SX.mono (SX.loop (α := Nat × List UInt32 × Int) (fun x => f_slices_heapSortOrdered_uint32_l1 n p1 hi_1 x.1 (x.2.1, x.2.2) = some r) (fun x => [(0, v0_), (6, vI p1), (7, vI 0), (8, vI hi_1), (9, vI x.2.2)]) (fun x => rowT 32 1 v0_ eU32 x.2.1 :: H) (fun x => x.1) (fun x D h => ?_) (n, p0, q1) h) (by repeat' (first | exact trivial | refine And.intro rfl ?_))) (fun _ hw => HpOk.pick (H := [_]) hw [0] 1 rfl)
    obtain ⟨m1, l2, a1⟩ := x
    dsimp only at h
    rcases m1 with _ | m1
    · cases (show (none : Option _) = some r from h)
    replace h : f_slices_heapSortOrdered_uint32_l1_b n p1 hi_1 (f_slices_heapSortOrdered_uint32_l1 n p1 hi_1 m1) l2 a1 = some r := h
    unfold f_slices_heapSortOrdered_uint32_l1_b at h
    refine SX.re [(0, v0_), (6, vI p1), (7, vI 0), (8, vI hi_1), (9, vI a1)] (rowT 32 1 v0_ eU32 l2 :: H) ?_ (by repeat' (first | exact trivial | refine And.intro rfl ?_))
    refine SX.seq ?_
    refine SX.sr ?_
    refine SL.mv ⟨rfl, rfl, rfl, rfl⟩ rfl ?_
    refine SL.bin ⟨rfl, rfl, rfl, rfl⟩ rfl rfl Bin.geI ?_
    refine SL.nx ?_
    refine SX.cond rfl (fun hc1 => ?_) (fun hc1 => ?_)
    · skip
      replace h := cT hc1 h
      refine SX.skip ?_
      refine SQ.thn ?_
      refine SX.seq ?_
      refine SX.block ?_
      refine SX.region ?_
      obtain ⟨y1, hy1, h⟩ := bnd h
      refine SL.mv ⟨rfl, rfl, rfl, rfl⟩ rfl ?_
      refine SL.mv ⟨rfl, rfl, rfl, rfl⟩ rfl ?_
      refine SL.mv ⟨rfl, rfl, rfl, rfl⟩ rfl ?_
      refine SL.mv ⟨rfl, rfl, rfl, rfl⟩ rfl ?_
      refine SL.call (vs := [_, _, _, _]) (Hin := [_]) (Hr := _) ⟨rfl, rfl, rfl, rfl⟩ rfl ⟨rfl, rfl, rfl, rfl, trivial⟩ cal71 rfl rfl (c_slices_siftDownOrdered_uint32 hy1) ?_
      rintro _ _ ⟨rfl, rfl⟩
      refine ⟨trivial, ?_⟩
      refine SL.nil ?_
      refine SQ.blk ?_
      refine SQ.thn ?_
      refine SX.region ?_
      obtain ⟨i_1, ei_1, h⟩ := retE h
      refine SL.mv ⟨rfl, rfl, rfl, rfl⟩ rfl ?_
      refine SL.bin ⟨rfl, rfl, rfl, rfl⟩ rfl rfl Bin.subW ?_
      refine SL.asgX (u := vI i_1) ⟨rfl, rfl, rfl, rfl⟩ rfl (congrArg vI ei_1) ?_
      refine SL.nil ?_
      exact SQ.again (m1, y1, i_1) h (Nat.lt_succ_self _) (by repeat' (first | exact trivial | refine And.intro rfl ?_)) (fun _ hw => HpOk.pick (H := [_]) hw [0] 1 rfl)
    · skip
      replace h := cF hc1 h
      refine SX.exit ?_
      refine SQ.thnE ?_
      refine SQ.lpE ?_
      refine SQ.blkE ?_
      exact SQ.midD l2 h (by repeat' (first | exact trivial | refine And.intro rfl ?_)) (fun _ hw => HpOk.pick (H := [_]) hw [0] 1 rfl)
  · skip
    unfold f_slices_heapSortOrdered_uint32_j1 at h
    refine SX.re [(0, v0_), (6, vI p1), (7, vI 0), (8, vI hi_1)] (rowT 32 1 v0_ eU32 l1 :: H) ?_ (by repeat' (first | exact trivial | refine And.intro rfl ?_))
    refine SX.sr ?_
    obtain ⟨i_2, ei_2, h⟩ := retE h
    refine SL.mv ⟨rfl, rfl, rfl, rfl⟩ rfl ?_
    refine SL.bin ⟨rfl, rfl, rfl, rfl⟩ rfl rfl Bin.subW ?_
    refine SL.asgX (u := vI i_2) ⟨rfl, rfl, rfl, rfl⟩ rfl (congrArg vI ei_2) ?_
    refine SL.nx ?_
    refine SX.block ?_
    refine SX.heap (SX.mono (SX.loop (α := Nat × List UInt32 × Int) (fun x => f_slices_heapSortOrdered_uint32_l2 n p1 x.1 (x.2.1, x.2.2) = some r) (fun x => [(0, v0_), (6, vI p1), (7, vI 0), (10, vI x.2.2)]) (fun x => rowT 32 1 v0_ eU32 x.2.1 :: H) (fun x => x.1) (fun x D h => ?_) (n, l1, i_2) h) (by repeat' (first | exact trivial | refine And.intro rfl ?_))) (fun _ hw => HpOk.pick (H := [_]) hw [0] 1 rfl)
    obtain ⟨m2, l3, a2⟩ := x
    dsimp only at h
    rcases m2 with _ | m2
    · cases (show (none : Option _) = some r from h)
    replace h : f_slices_heapSortOrdered_uint32_l2_b n p1 (f_slices_heapSortOrdered_uint32_l2 n p1 m2) l3 a2 = some r := h
    unfold f_slices_heapSortOrdered_uint32_l2_b at h
    refine SX.re [(0, v0_), (6, vI p1), (7, vI 0), (10, vI a2)] (rowT 32 1 v0_ eU32 l3 :: H) ?_ (by repeat' (first | exact trivial | refine And.intro rfl ?_))
    refine SX.seq ?_
    refine SX.sr ?_
    refine SL.mv ⟨rfl, rfl, rfl, rfl⟩ rfl ?_
    refine SL.bin ⟨rfl, rfl, rfl, rfl⟩ rfl rfl Bin.geI ?_
    refine SL.nx ?_
    refine SX.cond rfl (fun hc2 => ?_) (fun hc2 => ?_)
    · skip
      replace h := cT hc2 h
      refine SX.skip ?_
      refine SQ.thn ?_
      refine SX.seq ?_
      refine SX.block ?_
      refine SX.seq ?_
      obtain ⟨x1, hx1, h⟩ := bnd h
      obtain ⟨x2, hx2, h⟩ := bnd h
      obtain ⟨x3, hx3, h⟩ := bnd h
      obtain ⟨l4, hl4, h⟩ := bnd h
      obtain ⟨x4, hx4, h⟩ := bnd h
      obtain ⟨l5, hl5, h⟩ := bnd h
      refine SX.drawI mix [] (Pl.ap [(true, 0), (true, 1), (true, 2), (true, 3), (true, 4), (true, 5), (true, 6), (true, 7), (true, 8), (true, 9), (true, 10), (true, 12), (true, 13), (true, 14)] (.alt 11 (Pl.ap [(false, 15), (true, 16), (false, 17), (true, 18)] (.last 19 .nil)) (.cons (false, 15) (Pl.ap [(false, 11), (true, 16), (false, 17), (true, 18)] (.last 19 .nil))))) (by kernel_rfl) ?_
      refine SL.mv ⟨rfl, rfl, rfl, rfl⟩ rfl ?_
      refine SL.mv ⟨rfl, rfl, rfl, rfl⟩ rfl ?_
      refine SL.mv ⟨rfl, rfl, rfl, rfl⟩ rfl ?_
      refine SL.mv ⟨rfl, rfl, rfl, rfl⟩ rfl ?_
      refine SL.mv ⟨rfl, rfl, rfl, rfl⟩ rfl ?_
      refine SL.bin ⟨rfl, rfl, rfl, rfl⟩ rfl rfl Bin.addW ?_
      refine SL.mv ⟨rfl, rfl, rfl, rfl⟩ rfl ?_
      refine SL.mv ⟨rfl, rfl, rfl, rfl⟩ rfl ?_
      refine SL.mv ⟨rfl, rfl, rfl, rfl⟩ rfl ?_
      refine SL.bin ⟨rfl, rfl, rfl, rfl⟩ rfl rfl Bin.addW ?_
      refine SL.iaT 0 hx1 ⟨rfl, rfl, rfl, rfl⟩ ty90 sz32 rfl rfl rfl fun g1 m3 cp1 hv1 => ?_
      refine SL.mv ⟨rfl, rfl, rfl, rfl⟩ rfl ?_
      refine SL.mv ⟨rfl, rfl, rfl, rfl⟩ rfl ?_
      refine SL.iaT 0 hx2 ⟨rfl, rfl, rfl, rfl⟩ ty90 sz32 rfl rfl rfl fun g2 m4 cp2 hv2 => ?_
      refine SL.two ?_ ?_
      · skip
        refine SL.ld ⟨rfl, rfl, rfl, rfl⟩ sc32 rfl (cell_rowT (sz := 1) (enc := eU32) 0 0 (fun _ => rfl) rfl hv1 hx1 rfl) ?_
        refine SL.ld ⟨rfl, rfl, rfl, rfl⟩ sc32 rfl (cell_rowT (sz := 1) (enc := eU32) 0 0 (fun _ => rfl) rfl hv2 hx2 rfl) ?_
        refine SL.iaT 0 hx3 ⟨rfl, rfl, rfl, rfl⟩ ty90 sz32 rfl rfl rfl fun g3 m5 cp3 hv3 => ?_
        refine SL.stTN (sz := 1) (enc := eU32) 0 hl4 (fun _ => rfl) ⟨rfl, rfl, rfl⟩ rfl rfl rfl rfl hv3 sz32 (by simp [Value.oneCell']) trivial ?_
        refine SL.iaT 0 hx4 ⟨rfl, rfl, rfl, rfl⟩ ty90 sz32 rfl rfl rfl fun g4 m6 cp4 hv4 => ?_
        refine SL.last ?_
        refine SL.stTN (sz := 1) (enc := eU32) 0 hl5 (fun _ => rfl) ⟨rfl, rfl, rfl⟩ rfl rfl rfl rfl hv4 sz32 (by simp [Value.oneCell']) trivial ?_
        refine SL.nx ?_
        refine SX.region ?_
        obtain ⟨y2, hy2, h⟩ := bnd h
        refine SL.mv ⟨rfl, rfl, rfl, rfl⟩ rfl ?_
        refine SL.mv ⟨rfl, rfl, rfl, rfl⟩ rfl ?_
        refine SL.mv ⟨rfl, rfl, rfl, rfl⟩ rfl ?_
        refine SL.mv ⟨rfl, rfl, rfl, rfl⟩ rfl ?_
        refine SL.call (vs := [_, _, _, _]) (Hin := [_]) (Hr := _) ⟨rfl, rfl, rfl, rfl⟩ rfl ⟨rfl, rfl, rfl, rfl, trivial⟩ cal71 rfl rfl (c_slices_siftDownOrdered_uint32 hy2) ?_
        rintro _ _ ⟨rfl, rfl⟩
        refine ⟨trivial, ?_⟩
        refine SL.nil ?_
        refine SQ.blk ?_
        refine SQ.thn ?_
        refine SX.region ?_
        obtain ⟨i_3, ei_3, h⟩ := retE h
        refine SL.mv ⟨rfl, rfl, rfl, rfl⟩ rfl ?_
        refine SL.bin ⟨rfl, rfl, rfl, rfl⟩ rfl rfl Bin.subW ?_
        refine SL.asgX (u := vI i_3) ⟨rfl, rfl, rfl, rfl⟩ rfl (congrArg vI ei_3) ?_
        refine SL.nil ?_
        exact SQ.again (m2, y2, i_3) h (Nat.lt_succ_self _) (by repeat' (first | exact trivial | refine And.intro rfl ?_)) (fun _ hw => HpOk.pick (H := [_]) hw [0] 1 rfl)
      · skip
        refine SL.ld ⟨rfl, rfl, rfl, rfl⟩ sc32 rfl (cell_rowT (sz := 1) (enc := eU32) 0 0 (fun _ => rfl) rfl hv2 hx2 rfl) ?_
        refine SL.ld ⟨rfl, rfl, rfl, rfl⟩ sc32 rfl (cell_rowT (sz := 1) (enc := eU32) 0 0 (fun _ => rfl) rfl hv1 hx1 rfl) ?_
        refine SL.iaT 0 hx3 ⟨rfl, rfl, rfl, rfl⟩ ty90 sz32 rfl rfl rfl fun g3 m5 cp3 hv3 => ?_
        refine SL.stTN (sz := 1) (enc := eU32) 0 hl4 (fun _ => rfl) ⟨rfl, rfl, rfl⟩ rfl rfl rfl rfl hv3 sz32 (by simp [Value.oneCell']) trivial ?_
        refine SL.iaT 0 hx4 ⟨rfl, rfl, rfl, rfl⟩ ty90 sz32 rfl rfl rfl fun g4 m6 cp4 hv4 => ?_
        refine SL.last ?_
        refine SL.stTN (sz := 1) (enc := eU32) 0 hl5 (fun _ => rfl) ⟨rfl, rfl, rfl⟩ rfl rfl rfl rfl hv4 sz32 (by simp [Value.oneCell']) trivial ?_
        refine SL.nx ?_
        refine SX.region ?_
        obtain ⟨y2, hy2, h⟩ := bnd h
        refine SL.mv ⟨rfl, rfl, rfl, rfl⟩ rfl ?_
        refine SL.mv ⟨rfl, rfl, rfl, rfl⟩ rfl ?_
        refine SL.mv ⟨rfl, rfl, rfl, rfl⟩ rfl ?_
        refine SL.mv ⟨rfl, rfl, rfl, rfl⟩ rfl ?_
        refine SL.call (vs := [_, _, _, _]) (Hin := [_]) (Hr := _) ⟨rfl, rfl, rfl, rfl⟩ rfl ⟨rfl, rfl, rfl, rfl, trivial⟩ cal71 rfl rfl (c_slices_siftDownOrdered_uint32 hy2) ?_
        rintro _ _ ⟨rfl, rfl⟩
        refine ⟨trivial, ?_⟩
        refine SL.nil ?_
        refine SQ.blk ?_
        refine SQ.thn ?_
        refine SX.region ?_
        obtain ⟨i_3, ei_3, h⟩ := retE h
        refine SL.mv ⟨rfl, rfl, rfl, rfl⟩ rfl ?_
        refine SL.bin ⟨rfl, rfl, rfl, rfl⟩ rfl rfl Bin.subW ?_
        refine SL.asgX (u := vI i_3) ⟨rfl, rfl, rfl, rfl⟩ rfl (congrArg vI ei_3) ?_
        refine SL.nil ?_
        exact SQ.again (m2, y2, i_3) h (Nat.lt_succ_self _) (by repeat' (first | exact trivial | refine And.intro rfl ?_)) (fun _ hw => HpOk.pick (H := [_]) hw [0] 1 rfl)
    · skip
      replace h := cF hc2 h
      refine SX.exit ?_
      refine SQ.thnE ?_
      refine SQ.lpE ?_
      refine SQ.blkE ?_
      obtain rfl := Option.some.inj h
      exact SQ.fend (res0 rfl) (ret_of (M := [_]) ⟨rfl, rfl⟩ fun _ hw => HpOk.pick (H := [_]) hw [0] 1 rfl)

def f_slices_nextPowerOfTwo (p0 : Int) : Option UInt64 :=
  (f_math_bits_Len (toU64 p0)).bind fun y1 =>
  (shN y1).bind fun n1 =>
  ret (shl64 1 n1) fun x1 =>
  some x1
set_option maxRecDepth 100000 in
theorem c_slices_nextPowerOfTwo {p0 : Int} {r : UInt64} (h : f_slices_nextPowerOfTwo p0 = some r)  : Con Try.prog K w0 72 [vI p0] [] H (fun u M => u = vU64 r ∧ M = []) := by
  unfold f_slices_nextPowerOfTwo at h
  refine Con.enter Try.func72 rfl rfl ?_
  refine SX.sr ?_
  refine SL.asg ⟨rfl, rfl, rfl, rfl⟩ rfl ?_
  refine SL.nx ?_
  refine SX.sr ?_
  obtain ⟨y1, hy1, h⟩ := bnd h
  obtain ⟨n1, hn1, h⟩ := bnd h
  obtain ⟨x1, ex1, h⟩ := retE h
  refine SL.mv ⟨rfl, rfl, rfl, rfl⟩ rfl ?_
  refine SL.cv ⟨rfl, rfl, rfl, rfl⟩ rfl (Cv.i_64 ty3 ty64) ?_
  refine SL.call (vs := [_]) (Hin := []) (Hr := _) ⟨rfl, rfl, rfl, rfl⟩ rfl ⟨rfl, trivial⟩ cal57 rfl rfl (c_math_bits_Len hy1) ?_
  rintro _ _ ⟨rfl, rfl⟩
  refine ⟨trivial, ?_⟩
  refine SL.bin ⟨rfl, rfl, rfl, rfl⟩ rfl rfl (Bin.shl64O (a := 1) hn1) ?_
  refine SL.asgX (u := vU64 x1) ⟨rfl, rfl, rfl, rfl⟩ rfl (congrArg vU64 ex1) ?_
  refine SL.nx ?_
  refine SX.ret ?_
  obtain rfl := Option.some.inj h
  exact SQ.fret (res1 rfl rfl) (ret_of (M := []) ⟨rfl, rfl⟩ fun _ hw => HpOk.pick (H := []) hw [] 0 rfl)

def f_slices_xorshift_Next (p0 : UInt64) : Option (UInt64 × UInt64) :=
  ret (((p0 ^^^ (shl64 p0 13)) ^^^ (shr64 (p0 ^^^ (shl64 p0 13)) 7)) ^^^ (shl64 ((p0 ^^^ (shl64 p0 13)) ^^^ (shr64 (p0 ^^^ (shl64 p0 13)) 7)) 17)) fun x1 =>
  some (x1, ((p0 ^^^ (shl64 p0 13)) ^^^ (shr64 (p0 ^^^ (shl64 p0 13)) 7)) ^^^ (shl64 ((p0 ^^^ (shl64 p0 13)) ^^^ (shr64 (p0 ^^^ (shl64 p0 13)) 7)) 17))
set_option maxRecDepth 100000 in
theorem c_slices_xorshift_Next {b0_ : Nat} {p0 : UInt64} {r : UInt64 × UInt64} (h : f_slices_xorshift_Next p0 = some r)  : Con Try.prog K w0 73 [vP b0_ 0] [own b0_ (.cells #[vU64 p0] 113)] H (fun u M => u = vU64 r.1 ∧ M = [own b0_ (.cells #[vU64 r.2] 113)]) := by
  unfold f_slices_xorshift_Next at h
  refine Con.enter Try.func73 rfl rfl ?_
  refine SX.sr ?_
  refine SL.asg ⟨rfl, rfl, rfl, rfl⟩ rfl ?_
  refine SL.nx ?_
  refine SX.seq ?_
  refine SX.drawI mix [0] (Pl.ap [(true, 0), (true, 1), (true, 2), (true, 3), (true, 4), (true, 5), (true, 6), (true, 7), (true, 8)] (.last 9 .nil)) (by kernel_rfl) ?_
  refine SL.mv ⟨rfl, rfl, rfl, rfl⟩ rfl ?_
  refine SL.nchk ⟨rfl, rfl, rfl, rfl⟩ rfl ?_
  refine SL.ld ⟨rfl, rfl, rfl, rfl⟩ sc113 rfl (cell_own 0 rfl rfl) ?_
  refine SL.mv ⟨rfl, rfl, rfl, rfl⟩ rfl ?_
  refine SL.nchk ⟨rfl, rfl, rfl, rfl⟩ rfl ?_
  refine SL.ld ⟨rfl, rfl, rfl, rfl⟩ sc113 rfl (cell_own 0 rfl rfl) ?_
  refine SL.bin ⟨rfl, rfl, rfl, rfl⟩ rfl rfl (Bin.shl64 (n := 13)) ?_
  refine SL.bin ⟨rfl, rfl, rfl, rfl⟩ rfl rfl Bin.xor64 ?_
  refine SL.nchk ⟨rfl, rfl, rfl, rfl⟩ rfl ?_
  refine SL.last ?_
  refine SL.st 0 ⟨rfl, rfl, rfl⟩ rfl rfl rfl sz113 rfl rfl rfl trivial ?_
  refine SL.nx ?_
  refine SX.seq ?_
  refine SX.drawI mix [0] (Pl.ap [(true, 0), (true, 1), (true, 2), (true, 3), (true, 4), (true, 5), (true, 6), (true, 7), (true, 8)] (.last 9 .nil)) (by kernel_rfl) ?_
  refine SL.mv ⟨rfl, rfl, rfl, rfl⟩ rfl ?_
  refine SL.nchk ⟨rfl, rfl, rfl, rfl⟩ rfl ?_
  refine SL.ld ⟨rfl, rfl, rfl, rfl⟩ sc113 rfl (cell_own 0 rfl rfl) ?_
  refine SL.mv ⟨rfl, rfl, rfl, rfl⟩ rfl ?_
  refine SL.nchk ⟨rfl, rfl, rfl, rfl⟩ rfl ?_
  refine SL.ld ⟨rfl, rfl, rfl, rfl⟩ sc113 rfl (cell_own 0 rfl rfl) ?_
  refine SL.bin ⟨rfl, rfl, rfl, rfl⟩ rfl rfl (Bin.shr64 (n := 7)) ?_
  refine SL.bin ⟨rfl, rfl, rfl, rfl⟩ rfl rfl Bin.xor64 ?_
  refine SL.nchk ⟨rfl, rfl, rfl, rfl⟩ rfl ?_
  refine SL.last ?_
  refine SL.st 0 ⟨rfl, rfl, rfl⟩ rfl rfl rfl sz113 rfl rfl rfl trivial ?_
  refine SL.nx ?_
  refine SX.seq ?_
  refine SX.drawI mix [0] (Pl.ap [(true, 0), (true, 1), (true, 2), (true, 3), (true, 4), (true, 5), (true, 6), (true, 7), (true, 8)] (.last 9 .nil)) (by kernel_rfl) ?_
  refine SL.mv ⟨rfl, rfl, rfl, rfl⟩ rfl ?_
  refine SL.nchk ⟨rfl, rfl, rfl, rfl⟩ rfl ?_
  refine SL.ld ⟨rfl, rfl, rfl, rfl⟩ sc113 rfl (cell_own 0 rfl rfl) ?_
  refine SL.mv ⟨rfl, rfl, rfl, rfl⟩ rfl ?_
  refine SL.nchk ⟨rfl, rfl, rfl, rfl⟩ rfl ?_
  refine SL.ld ⟨rfl, rfl, rfl, rfl⟩ sc113 rfl (cell_own 0 rfl rfl) ?_
  refine SL.bin ⟨rfl, rfl, rfl, rfl⟩ rfl rfl (Bin.shl64 (n := 17)) ?_
  refine SL.bin ⟨rfl, rfl, rfl, rfl⟩ rfl rfl Bin.xor64 ?_
  refine SL.nchk ⟨rfl, rfl, rfl, rfl⟩ rfl ?_
  refine SL.last ?_
  refine SL.st 0 ⟨rfl, rfl, rfl⟩ rfl rfl rfl sz113 rfl rfl rfl trivial ?_
  refine SL.nx ?_
  refine SX.sr ?_
  obtain ⟨x1, ex1, h⟩ := retE h
  refine SL.mv ⟨rfl, rfl, rfl, rfl⟩ rfl ?_
  refine SL.nchk ⟨rfl, rfl, rfl, rfl⟩ rfl ?_
  refine SL.ld ⟨rfl, rfl, rfl, rfl⟩ sc113 rfl (cell_own 0 rfl rfl) ?_
  refine SL.asgX (u := vU64 x1) ⟨rfl, rfl, rfl, rfl⟩ rfl (congrArg vU64 ex1) ?_
  refine SL.nx ?_
  refine SX.ret ?_
  obtain rfl := Option.some.inj h
  exact SQ.fret (res1 rfl rfl) (ret_of (M := [_]) ⟨rfl, rfl⟩ fun _ hw => HpOk.pick (H := [_]) hw [0] 1 rfl)

def f_slices_breakPatternsOrdered_uint32_j1 (p1 : Int) (l1 : List UInt32) (a1 : Int) (y3 : UInt64 × UInt64) (nx_f_slices_breakPatternsOrdered_uint32_l1 : List UInt32 × UInt64 × Int → Option (List UInt32)) (a2 : Int) : Option (List UInt32) :=
  (nthI l1 (wI (p1 + a2))).bind fun x5 =>
  (nthI l1 a1).bind fun x6 =>
  (nthI l1 a1).bind fun x7 =>
  (setI l1 a1 x5).bind fun l2 =>
  (nthI l2 (wI (p1 + a2))).bind fun x8 =>
  (setI l2 (wI (p1 + a2)) x6).bind fun l3 =>
  ret (wI (a1 + 1)) fun x9 =>
  nx_f_slices_breakPatternsOrdered_uint32_l1 (l3, y3.2, x9)
def f_slices_breakPatternsOrdered_uint32_l1_b (p1 : Int) (x1 : Int) (y1 : UInt64) (nx_f_slices_breakPatternsOrdered_uint32_l1 : List UInt32 × UInt64 × Int → Option (List UInt32)) (l1 : List UInt32) (y2 : UInt64) (a1 : Int) : Option (List UInt32) :=
  (quoI x1 4).bind fun q2 =>
  cond (decide (a1 ≤ wI ((wI (p1 + (wI (q2 * 2)))) + 1)))
  (
    (f_slices_xorshift_Next y2).bind fun y3 =>
    ret (wI ((y3.1 &&& (y1 - 1)).toNat : Int)) fun x3 =>
    cond (decide (x1 ≤ x3))
    (
      ret (wI (x3 - x1)) fun x4 =>
      f_slices_breakPatternsOrdered_uint32_j1 p1 l1 a1 y3 nx_f_slices_breakPatternsOrdered_uint32_l1 x4)
    (
      f_slices_breakPatternsOrdered_uint32_j1 p1 l1 a1 y3 nx_f_slices_breakPatternsOrdered_uint32_l1 x3))
  (
    some l1)
def f_slices_breakPatternsOrdered_uint32_l1 (p1 : Int) (x1 : Int) (y1 : UInt64) : Nat → (List UInt32 × UInt64 × Int) → Option (List UInt32) := loopN fun nx x => f_slices_breakPatternsOrdered_uint32_l1_b p1 x1 y1 nx x.1 x.2.1 x.2.2
def f_slices_breakPatternsOrdered_uint32 (n : Nat) (p0 : List UInt32) (p1 : Int) (p2 : Int) : Option (List UInt32) :=
  ret (wI (p2 - p1)) fun x1 =>
  cond (decide (8 ≤ x1))
  (
    (f_slices_nextPowerOfTwo x1).bind fun y1 =>
    (quoI x1 4).bind fun q1 =>
    ret (wI ((wI (p1 + (wI (q1 * 2)))) - 1)) fun x2 =>
    f_slices_breakPatternsOrdered_uint32_l1 p1 x1 y1 n (p0, toU64 x1, x2))
  (
    some p0)
set_option maxRecDepth 100000 in
theorem c_slices_breakPatternsOrdered_uint32 {n : Nat} {v0_ : Value} {p0 : List UInt32} {p1 : Int} {p2 : Int} {r : List UInt32} (h : f_slices_breakPatternsOrdered_uint32 n p0 p1 p2 = some r)  : Con Try.prog K w0 62 [v0_, vI p1, vI p2] [rowT 32 1 v0_ eU32 p0] H (fun u M => u = .tuple #[] ∧ M = [rowT 32 1 v0_ eU32 r]) := by
  unfold f_slices_breakPatternsOrdered_uint32 at h
  refine Con.enter Try.func62 rfl rfl ?_
  refine SX.sr ?_
  obtain ⟨x1, ex1, h⟩ := retE h
  refine SL.mv ⟨rfl, rfl, rfl, rfl⟩ rfl ?_
  refine SL.mv ⟨rfl, rfl, rfl, rfl⟩ rfl ?_
  refine SL.bin ⟨rfl, rfl, rfl, rfl⟩ rfl rfl Bin.subW ?_
  refine SL.asgX (u := vI x1) ⟨rfl, rfl, rfl, rfl⟩ rfl (congrArg vI ex1) ?_
  refine SL.nx ?_
  refine SX.sr ?_
  refine SL.mv ⟨rfl, rfl, rfl, rfl⟩ rfl ?_
  refine SL.bin ⟨rfl, rfl, rfl, rfl⟩ rfl rfl Bin.geI ?_
  refine SL.nx ?_
  refine SX.cond rfl (fun hc1 => ?_) (fun hc1 => ?_)
  · skip
    replace h := cT hc1 h
    refine SX.sr ?_
    refine SL.mv ⟨rfl, rfl, rfl, rfl⟩ rfl ?_
    refine SL.cv ⟨rfl, rfl, rfl, rfl⟩ rfl (Cv.i_64 ty3 ty113) ?_
    refine SL.alloc ⟨rfl, rfl, rfl, rfl⟩ ze113 (fun _ => trivial) fun b1 => ?_
    refine SL.st 0 ⟨rfl, rfl, rfl⟩ rfl rfl rfl sz113 rfl rfl rfl trivial ?_
    refine SL.nx ?_
    refine SX.sr ?_
    obtain ⟨y1, hy1, h⟩ := bnd h
    refine SL.mv ⟨rfl, rfl, rfl, rfl⟩ rfl ?_
    refine SL.call (vs := [_]) (Hin := []) (Hr := _ :: _ :: _) ⟨rfl, rfl, rfl, rfl⟩ rfl ⟨rfl, trivial⟩ cal72 rfl rfl (c_slices_nextPowerOfTwo hy1) ?_
    rintro _ _ ⟨rfl, rfl⟩
    refine ⟨trivial, ?_⟩
    refine SL.asg ⟨rfl, rfl, rfl, rfl⟩ rfl ?_
    refine SL.nx ?_
    refine SX.sr ?_
    obtain ⟨q1, hq1, h⟩ := bnd h
    obtain ⟨x2, ex2, h⟩ := retE h
    refine SL.mv ⟨rfl, rfl, rfl, rfl⟩ rfl ?_
    refine SL.mv ⟨rfl, rfl, rfl, rfl⟩ rfl ?_
    refine SL.bin ⟨rfl, rfl, rfl, rfl⟩ rfl rfl (Bin.divO hq1) ?_
    refine SL.bin ⟨rfl, rfl, rfl, rfl⟩ rfl rfl Bin.mulW ?_
    refine SL.bin ⟨rfl, rfl, rfl, rfl⟩ rfl rfl Bin.addW ?_
    refine SL.bin ⟨rfl, rfl, rfl, rfl⟩ rfl rfl Bin.subW ?_
    refine SL.asgX (u := vI x2) ⟨rfl, rfl, rfl, rfl⟩ rfl (congrArg vI ex2) ?_
    refine SL.nx ?_
    refine SX.block ?_
    refine SX.heap (SX.mono (SX.loop (α := Nat × List UInt32 × UInt64 × Int) (fun x => f_slices_breakPatternsOrdered_uint32_l1 p1 x1 y1 x.1 (x.2.1, x.2.2.1, x.2.2.2) = some r) (fun x => [(0, v0_), (1, vI p1), (6, vI x1), (7, vP b1 0), (8, vU64 y1), (9, vI x.2.2.2)]) (fun x => rowT 32 1 v0_ eU32 x.2.1 :: own b1 (.cells #[vU64 x.2.2.1] 113) :: H) (fun x => x.1) (fun x D h => ?_) (n, p0, toU64 x1, x2) h) (by repeat' (first | exact trivial | refine And.intro rfl ?_))) (fun _ hw => HpOk.pick (H := [_, _]) hw [1, 0] 2 rfl)
    obtain ⟨m1, l1, y2, a1⟩ := x
    dsimp only at h
    rcases m1 with _ | m1
    · cases (show (none : Option _) = some r from h)
    replace h : f_slices_breakPatternsOrdered_uint32_l1_b p1 x1 y1 (f_slices_breakPatternsOrdered_uint32_l1 p1 x1 y1 m1) l1 y2 a1 = some r := h
    unfold f_slices_breakPatternsOrdered_uint32_l1_b at h
    refine SX.re [(0, v0_), (1, vI p1), (6, vI x1), (7, vP b1 0), (8, vU64 y1), (9, vI a1)] (rowT 32 1 v0_ eU32 l1 :: own b1 (.cells #[vU64 y2] 113) :: H) ?_ (by repeat' (first | exact trivial | refine And.intro rfl ?_))
    refine SX.seq ?_
    refine SX.sr ?_
    obtain ⟨q2, hq2, h⟩ := bnd h
    refine SL.mv ⟨rfl, rfl, rfl, rfl⟩ rfl ?_
    refine SL.mv ⟨rfl, rfl, rfl, rfl⟩ rfl ?_
    refine SL.mv ⟨rfl, rfl, rfl, rfl⟩ rfl ?_
    refine SL.bin ⟨rfl, rfl, rfl, rfl⟩ rfl rfl (Bin.divO hq2) ?_
    refine SL.bin ⟨rfl, rfl, rfl, rfl⟩ rfl rfl Bin.mulW ?_
    refine SL.bin ⟨rfl, rfl, rfl, rfl⟩ rfl rfl Bin.addW ?_
    refine SL.bin ⟨rfl, rfl, rfl, rfl⟩ rfl rfl Bin.addW ?_
    refine SL.bin ⟨rfl, rfl, rfl, rfl⟩ rfl rfl Bin.leI ?_
    refine SL.nx ?_
    refine SX.cond rfl (fun hc2 => ?_) (fun hc2 => ?_)
    · skip
      replace h := cT hc2 h
      refine SX.skip ?_
      refine SQ.thn ?_
      refine SX.seq ?_
      refine SX.block ?_
      refine SX.sr ?_
      obtain ⟨y3, hy3, h⟩ := bnd h
      obtain ⟨x3, ex3, h⟩ := retE h
      refine SL.pick [1, 0] 2 ?_
      refine SL.call (vs := [_]) (Hin := [_]) (Hr := _ :: _) ⟨rfl, rfl, rfl, rfl⟩ rfl ⟨rfl, trivial⟩ cal73 rfl rfl (c_slices_xorshift_Next hy3) ?_
      rintro _ _ ⟨rfl, rfl⟩
      refine ⟨trivial, ?_⟩
      refine SL.mv ⟨rfl, rfl, rfl, rfl⟩ rfl ?_
      refine SL.bin ⟨rfl, rfl, rfl, rfl⟩ rfl rfl (Bin.sub64 (b := 1)) ?_
      refine SL.bin ⟨rfl, rfl, rfl, rfl⟩ rfl rfl Bin.and64 ?_
      refine SL.cv ⟨rfl, rfl, rfl, rfl⟩ rfl (Cv.I_I ty64 ty3) ?_
      refine SL.asgX (u := vI x3) ⟨rfl, rfl, rfl, rfl⟩ rfl (congrArg vI ex3) ?_
      refine SL.nx ?_
      refine SX.meetD (α := Int) (fun x => f_slices_breakPatternsOrdered_uint32_j1 p1 l1 a1 y3 (f_slices_breakPatternsOrdered_uint32_l1 p1 x1 y1 m1) x = some r) (fun x => [(0, v0_), (1, vI p1), (6, vI x1), (7, vP b1 0), (8, vU64 y1), (9, vI a1), (10, vI x)]) (fun x => rowT 32 1 v0_ eU32 l1 :: own b1 (.cells #[vU64 y3.2] 113) :: H) ?_ (fun a2 D h => ?_)
      · skip
        refine SX.sr ?_
        refine SL.mv ⟨rfl, rfl, rfl, rfl⟩ rfl ?_
        refine SL.mv ⟨rfl, rfl, rfl, rfl⟩ rfl ?_
        refine SL.bin ⟨rfl, rfl, rfl, rfl⟩ rfl rfl Bin.geI ?_
        refine SL.nx ?_
        refine SX.cond rfl (fun hc3 => ?_) (fun hc3 => ?_)
        · skip
          replace h := cT hc3 h
          refine SX.region ?_
          obtain ⟨x4, ex4, h⟩ := retE h
          refine SL.mv ⟨rfl, rfl, rfl, rfl⟩ rfl ?_
          refine SL.mv ⟨rfl, rfl, rfl, rfl⟩ rfl ?_
          refine SL.bin ⟨rfl, rfl, rfl, rfl⟩ rfl rfl Bin.subW ?_
          refine SL.asgX (u := vI x4) ⟨rfl, rfl, rfl, rfl⟩ rfl (congrArg vI ex4) ?_
          refine SL.nil ?_
          exact SQ.midD x4 h (by repeat' (first | exact trivial | refine And.intro rfl ?_)) (fun _ hw => HpOk.pick (H := [_, _]) hw [1, 0] 2 rfl)
        · skip
          replace h := cF hc3 h
          refine SX.skip ?_
          exact SQ.midD x3 h (by repeat' (first | exact trivial | refine And.intro rfl ?_)) (fun _ hw => HpOk.pick (H := [_, _]) hw [1, 0] 2 rfl)
      · skip
        unfold f_slices_breakPatternsOrdered_uint32_j1 at h
        refine SX.re [(0, v0_), (1, vI p1), (6, vI x1), (7, vP b1 0), (8, vU64 y1), (9, vI a1), (10, vI a2)] (rowT 32 1 v0_ eU32 l1 :: own b1 (.cells #[vU64 y3.2] 113) :: H) ?_ (by repeat' (first | exact trivial | refine And.intro rfl ?_))
        obtain ⟨x5, hx5, h⟩ := bnd h
        obtain ⟨x6, hx6, h⟩ := bnd h
        obtain ⟨x7, hx7, h⟩ := bnd h
        obtain ⟨l2, hl2, h⟩ := bnd h
        obtain ⟨x8, hx8, h⟩ := bnd h
        obtain ⟨l3, hl3, h⟩ := bnd h
        refine SX.drawI mix [] (Pl.ap [(true, 0), (true, 1), (true, 2), (true, 3), (true, 4), (true, 5), (true, 6), (true, 7), (true, 8), (true, 9), (true, 10), (true, 12), (true, 13), (true, 14)] (.alt 11 (Pl.ap [(false, 15), (true, 16), (false, 17), (true, 18)] (.last 19 .nil)) (.cons (false, 15) (Pl.ap [(false, 11), (true, 16), (false, 17), (true, 18)] (.last 19 .nil))))) (by kernel_rfl) ?_
        refine SL.mv ⟨rfl, rfl, rfl, rfl⟩ rfl ?_
        refine SL.mv ⟨rfl, rfl, rfl, rfl⟩ rfl ?_
        refine SL.mv ⟨rfl, rfl, rfl, rfl⟩ rfl ?_
        refine SL.mv ⟨rfl, rfl, rfl, rfl⟩ rfl ?_
        refine SL.mv ⟨rfl, rfl, rfl, rfl⟩ rfl ?_
        refine SL.bin ⟨rfl, rfl, rfl, rfl⟩ rfl rfl Bin.addW ?_
        refine SL.mv ⟨rfl, rfl, rfl, rfl⟩ rfl ?_
        refine SL.mv ⟨rfl, rfl, rfl, rfl⟩ rfl ?_
        refine SL.mv ⟨rfl, rfl, rfl, rfl⟩ rfl ?_
        refine SL.bin ⟨rfl, rfl, rfl, rfl⟩ rfl rfl Bin.addW ?_
        refine SL.iaT 0 hx5 ⟨rfl, rfl, rfl, rfl⟩ ty90 sz32 rfl rfl rfl fun g1 m2 cp1 hv1 => ?_
        refine SL.mv ⟨rfl, rfl, rfl, rfl⟩ rfl ?_
        refine SL.mv ⟨rfl, rfl, rfl, rfl⟩ rfl ?_
        refine SL.iaT 0 hx6 ⟨rfl, rfl, rfl, rfl⟩ ty90 sz32 rfl rfl rfl fun g2 m3 cp2 hv2 => ?_
        refine SL.two ?_ ?_
        · skip
          refine SL.ld ⟨rfl, rfl, rfl, rfl⟩ sc32 rfl (cell_rowT (sz := 1) (enc := eU32) 0 0 (fun _ => rfl) rfl hv1 hx5 rfl) ?_
          refine SL.ld ⟨rfl, rfl, rfl, rfl⟩ sc32 rfl (cell_rowT (sz := 1) (enc := eU32) 0 0 (fun _ => rfl) rfl hv2 hx6 rfl) ?_
          refine SL.iaT 0 hx7 ⟨rfl, rfl, rfl, rfl⟩ ty90 sz32 rfl rfl rfl fun g3 m4 cp3 hv3 => ?_
          refine SL.stTN (sz := 1) (enc := eU32) 0 hl2 (fun _ => rfl) ⟨rfl, rfl, rfl⟩ rfl rfl rfl rfl hv3 sz32 (by simp [Value.oneCell']) trivial ?_
          refine SL.iaT 0 hx8 ⟨rfl, rfl, rfl, rfl⟩ ty90 sz32 rfl rfl rfl fun g4 m5 cp4 hv4 => ?_
          refine SL.last ?_
          refine SL.stTN (sz := 1) (enc := eU32) 0 hl3 (fun _ => rfl) ⟨rfl, rfl, rfl⟩ rfl rfl rfl rfl hv4 sz32 (by simp [Value.oneCell']) trivial ?_
          refine SL.nil ?_
          refine SQ.blk ?_
          refine SQ.thn ?_
          refine SX.region ?_
          obtain ⟨x9, ex9, h⟩ := retE h
          refine SL.mv ⟨rfl, rfl, rfl, rfl⟩ rfl ?_
          refine SL.bin ⟨rfl, rfl, rfl, rfl⟩ rfl rfl Bin.addW ?_
          refine SL.asgX (u := vI x9) ⟨rfl, rfl, rfl, rfl⟩ rfl (congrArg vI ex9) ?_
          refine SL.nil ?_
          exact SQ.again (m1, l3, y3.2, x9) h (Nat.lt_succ_self _) (by repeat' (first | exact trivial | refine And.intro rfl ?_)) (fun _ hw => HpOk.pick (H := [_, _]) hw [0, 1] 2 rfl)
        · skip
          refine SL.ld ⟨rfl, rfl, rfl, rfl⟩ sc32 rfl (cell_rowT (sz := 1) (enc := eU32) 0 0 (fun _ => rfl) rfl hv2 hx6 rfl) ?_
          refine SL.ld ⟨rfl, rfl, rfl, rfl⟩ sc32 rfl (cell_rowT (sz := 1) (enc := eU32) 0 0 (fun _ => rfl) rfl hv1 hx5 rfl) ?_
          refine SL.iaT 0 hx7 ⟨rfl, rfl, rfl, rfl⟩ ty90 sz32 rfl rfl rfl fun g3 m4 cp3 hv3 => ?_
          refine SL.stTN (sz := 1) (enc := eU32) 0 hl2 (fun _ => rfl) ⟨rfl, rfl, rfl⟩ rfl rfl rfl rfl hv3 sz32 (by simp [Value.oneCell']) trivial ?_
          refine SL.iaT 0 hx8 ⟨rfl, rfl, rfl, rfl⟩ ty90 sz32 rfl rfl rfl fun g4 m5 cp4 hv4 => ?_
          refine SL.last ?_
          refine SL.stTN (sz := 1) (enc := eU32) 0 hl3 (fun _ => rfl) ⟨rfl, rfl, rfl⟩ rfl rfl rfl rfl hv4 sz32 (by simp [Value.oneCell']) trivial ?_
          refine SL.nil ?_
          refine SQ.blk ?_
          refine SQ.thn ?_
          refine SX.region ?_
          obtain ⟨x9, ex9, h⟩ := retE h
          refine SL.mv ⟨rfl, rfl, rfl, rfl⟩ rfl ?_
          refine SL.bin ⟨rfl, rfl, rfl, rfl⟩ rfl rfl Bin.addW ?_
          refine SL.asgX (u := vI x9) ⟨rfl, rfl, rfl, rfl⟩ rfl (congrArg vI ex9) ?_
          refine SL.nil ?_
          exact SQ.again (m1, l3, y3.2, x9) h (Nat.lt_succ_self _) (by repeat' (first | exact trivial | refine And.intro rfl ?_)) (fun _ hw => HpOk.pick (H := [_, _]) hw [0, 1] 2 rfl)
    · skip
      replace h := cF hc2 h
      refine SX.exit ?_
      refine SQ.thnE ?_
      refine SQ.lpE ?_
      refine SQ.blkE ?_
      obtain rfl := Option.some.inj h
      exact SQ.fend (res0 rfl) (ret_of (M := [_]) ⟨rfl, rfl⟩ fun _ hw => HpOk.pick (H := [_, _]) hw [0] 2 rfl)
  · skip
    replace h := cF hc1 h
    refine SX.skip ?_
    obtain rfl := Option.some.inj h
    exact SQ.fend (res0 rfl) (ret_of (M := [_]) ⟨rfl, rfl⟩ fun _ hw => HpOk.pick (H := [_]) hw [0] 1 rfl)


end Go.Proofs.Ytddjneafgddlcaa
