/- The texts WS1b, one behind the other: each bears its own sentence. Conditions: as each says. -/
import Derived.Test.YtddjneafgddlcaaDA1
import Derived.Test.YtddjneafgddlcaaDA2
import Derived.Test.YtddjneafgddlcaaDA3
import Derived.Test.YtddjneafgddlcaaDA4

/- Plain functions of the references and the laws, printed from the loaded program, and the walks that show that the program computes them. Condition: the plain function yields. -/
namespace Go.Proofs.Ytddjneafgddlcaa
open Go
variable {K : Nat → Prop} {w0 : World} {H : List Chunk}

def f_slices_partialInsertionSortOrdered_uint32_j1 (l1 : List UInt32) : Option (Bool × List UInt32) :=
  some (false, l1)
def f_slices_partialInsertionSortOrdered_uint32_j2 (a2 : Int) (nx_f_slices_partialInsertionSortOrdered_uint32_l1 : List UInt32 × Int × Int → Option (Bool × List UInt32)) (l3 : List UInt32) (a3 : Int) : Option (Bool × List UInt32) :=
  ret (wI (a2 + 1)) fun x25 =>
  nx_f_slices_partialInsertionSortOrdered_uint32_l1 (l3, a3, x25)
def f_slices_partialInsertionSortOrdered_uint32_l4_b (p2 : Int) (a2 : Int) (a4 : Int) (nx_f_slices_partialInsertionSortOrdered_uint32_l1 : List UInt32 × Int × Int → Option (Bool × List UInt32)) (nx_f_slices_partialInsertionSortOrdered_uint32_l4 : List UInt32 × Int → Option (Bool × List UInt32)) (l10 : List UInt32) (a7 : Int) : Option (Bool × List UInt32) :=
  cond (decide (a7 < p2))
  (
    (nthI l10 a7).bind fun x18 =>
    (nthI l10 (wI (a7 - 1))).bind fun x19 =>
    (f_cmp_Less_uint32 x18 x19).bind fun y4 =>
    cond (!y4)
    (
      f_slices_partialInsertionSortOrdered_uint32_j2 a2 nx_f_slices_partialInsertionSortOrdered_uint32_l1 l10 a4)
    (
      (nthI l10 (wI (a7 - 1))).bind fun x20 =>
      (nthI l10 a7).bind fun x21 =>
      (nthI l10 a7).bind fun x22 =>
      (setI l10 a7 x20).bind fun l11 =>
      (nthI l11 (wI (a7 - 1))).bind fun x23 =>
      (setI l11 (wI (a7 - 1)) x21).bind fun l12 =>
      ret (wI (a7 + 1)) fun x24 =>
      nx_f_slices_partialInsertionSortOrdered_uint32_l4 (l12, x24)))
  (
    f_slices_partialInsertionSortOrdered_uint32_j2 a2 nx_f_slices_partialInsertionSortOrdered_uint32_l1 l10 a4)
def f_slices_partialInsertionSortOrdered_uint32_l4 (p2 : Int) (a2 : Int) (a4 : Int) (nx_f_slices_partialInsertionSortOrdered_uint32_l1 : List UInt32 × Int × Int → Option (Bool × List UInt32)) : Nat → (List UInt32 × Int) → Option (Bool × List UInt32) := loopN fun nx x => f_slices_partialInsertionSortOrdered_uint32_l4_b p2 a2 a4 nx_f_slices_partialInsertionSortOrdered_uint32_l1 nx x.1 x.2
def f_slices_partialInsertionSortOrdered_uint32_j4 (n : Nat) (p2 : Int) (a2 : Int) (a4 : Int) (nx_f_slices_partialInsertionSortOrdered_uint32_l1 : List UInt32 × Int × Int → Option (Bool × List UInt32)) (l6 : List UInt32) : Option (Bool × List UInt32) :=
  cond (decide (2 ≤ wI (p2 - a4)))
  (
    ret (wI (a4 + 1)) fun x17 =>
    f_slices_partialInsertionSortOrdered_uint32_l4 p2 a2 a4 nx_f_slices_partialInsertionSortOrdered_uint32_l1 n (l6, x17))
  (
    f_slices_partialInsertionSortOrdered_uint32_j2 a2 nx_f_slices_partialInsertionSortOrdered_uint32_l1 l6 a4)
def f_slices_partialInsertionSortOrdered_uint32_l3_b (n : Nat) (p2 : Int) (a2 : Int) (a4 : Int) (nx_f_slices_partialInsertionSortOrdered_uint32_l1 : List UInt32 × Int × Int → Option (Bool × List UInt32)) (nx_f_slices_partialInsertionSortOrdered_uint32_l3 : List UInt32 × Int → Option (Bool × List UInt32)) (l7 : List UInt32) (a6 : Int) : Option (Bool × List UInt32) :=
  cond (decide (1 ≤ a6))
  (
    (nthI l7 a6).bind fun x10 =>
    (nthI l7 (wI (a6 - 1))).bind fun x11 =>
    (f_cmp_Less_uint32 x10 x11).bind fun y3 =>
    cond (!y3)
    (
      f_slices_partialInsertionSortOrdered_uint32_j4 n p2 a2 a4 nx_f_slices_partialInsertionSortOrdered_uint32_l1 l7)
    (
      (nthI l7 (wI (a6 - 1))).bind fun x12 =>
      (nthI l7 a6).bind fun x13 =>
      (nthI l7 a6).bind fun x14 =>
      (setI l7 a6 x12).bind fun l8 =>
      (nthI l8 (wI (a6 - 1))).bind fun x15 =>
      (setI l8 (wI (a6 - 1)) x13).bind fun l9 =>
      ret (wI (a6 - 1)) fun x16 =>
      nx_f_slices_partialInsertionSortOrdered_uint32_l3 (l9, x16)))
  (
    f_slices_partialInsertionSortOrdered_uint32_j4 n p2 a2 a4 nx_f_slices_partialInsertionSortOrdered_uint32_l1 l7)
def f_slices_partialInsertionSortOrdered_uint32_l3 (n : Nat) (p2 : Int) (a2 : Int) (a4 : Int) (nx_f_slices_partialInsertionSortOrdered_uint32_l1 : List UInt32 × Int × Int → Option (Bool × List UInt32)) : Nat → (List UInt32 × Int) → Option (Bool × List UInt32) := loopN fun nx x => f_slices_partialInsertionSortOrdered_uint32_l3_b n p2 a2 a4 nx_f_slices_partialInsertionSortOrdered_uint32_l1 nx x.1 x.2
def f_slices_partialInsertionSortOrdered_uint32_j3 (n : Nat) (p1 : Int) (p2 : Int) (l2 : List UInt32) (a2 : Int) (nx_f_slices_partialInsertionSortOrdered_uint32_l1 : List UInt32 × Int × Int → Option (Bool × List UInt32)) (a4 : Int) : Option (Bool × List UInt32) :=
  cond (decide (a4 = p2))
  (
    some (true, l2))
  (
    cond (decide (wI (p2 - p1) < 50))
    (
      some (false, l2))
    (
      (nthI l2 (wI (a4 - 1))).bind fun x5 =>
      (nthI l2 a4).bind fun x6 =>
      (nthI l2 a4).bind fun x7 =>
      (setI l2 a4 x5).bind fun l4 =>
      (nthI l4 (wI (a4 - 1))).bind fun x8 =>
      (setI l4 (wI (a4 - 1)) x6).bind fun l5 =>
      cond (decide (2 ≤ wI (a4 - p1)))
      (
        ret (wI (a4 - 1)) fun x9 =>
        f_slices_partialInsertionSortOrdered_uint32_l3 n p2 a2 a4 nx_f_slices_partialInsertionSortOrdered_uint32_l1 n (l5, x9))
      (
        f_slices_partialInsertionSortOrdered_uint32_j4 n p2 a2 a4 nx_f_slices_partialInsertionSortOrdered_uint32_l1 l5)))
def f_slices_partialInsertionSortOrdered_uint32_l2_b (n : Nat) (p1 : Int) (p2 : Int) (l2 : List UInt32) (a2 : Int) (nx_f_slices_partialInsertionSortOrdered_uint32_l1 : List UInt32 × Int × Int → Option (Bool × List UInt32)) (nx_f_slices_partialInsertionSortOrdered_uint32_l2 : Int → Option (Bool × List UInt32)) (a5 : Int) : Option (Bool × List UInt32) :=
  (andO (decide (a5 < p2)) ((nthI l2 a5).bind fun x2 => (nthI l2 (wI (a5 - 1))).bind fun x3 => (f_cmp_Less_uint32 x2 x3).bind fun y1 => some (!y1))).bind fun y2 =>
  cond y2
  (
    ret (wI (a5 + 1)) fun x4 =>
    nx_f_slices_partialInsertionSortOrdered_uint32_l2 x4)
  (
    f_slices_partialInsertionSortOrdered_uint32_j3 n p1 p2 l2 a2 nx_f_slices_partialInsertionSortOrdered_uint32_l1 a5)
def f_slices_partialInsertionSortOrdered_uint32_l2 (n : Nat) (p1 : Int) (p2 : Int) (l2 : List UInt32) (a2 : Int) (nx_f_slices_partialInsertionSortOrdered_uint32_l1 : List UInt32 × Int × Int → Option (Bool × List UInt32)) : Nat → Int → Option (Bool × List UInt32) := loopN fun nx x => f_slices_partialInsertionSortOrdered_uint32_l2_b n p1 p2 l2 a2 nx_f_slices_partialInsertionSortOrdered_uint32_l1 nx x
def f_slices_partialInsertionSortOrdered_uint32_l1_b (n : Nat) (p1 : Int) (p2 : Int) (nx_f_slices_partialInsertionSortOrdered_uint32_l1 : List UInt32 × Int × Int → Option (Bool × List UInt32)) (l2 : List UInt32) (a1 : Int) (a2 : Int) : Option (Bool × List UInt32) :=
  cond (decide (a2 < 5))
  (
    f_slices_partialInsertionSortOrdered_uint32_l2 n p1 p2 l2 a2 nx_f_slices_partialInsertionSortOrdered_uint32_l1 n a1)
  (
    f_slices_partialInsertionSortOrdered_uint32_j1 l2)
def f_slices_partialInsertionSortOrdered_uint32_l1 (n : Nat) (p1 : Int) (p2 : Int) : Nat → (List UInt32 × Int × Int) → Option (Bool × List UInt32) := loopN fun nx x => f_slices_partialInsertionSortOrdered_uint32_l1_b n p1 p2 nx x.1 x.2.1 x.2.2
def f_slices_partialInsertionSortOrdered_uint32 (n : Nat) (p0 : List UInt32) (p1 : Int) (p2 : Int) : Option (Bool × List UInt32) :=
  ret (wI (p1 + 1)) fun x1 =>
  f_slices_partialInsertionSortOrdered_uint32_l1 n p1 p2 n (p0, x1, 0)
set_option maxRecDepth 100000 in
theorem c_slices_partialInsertionSortOrdered_uint32 {n : Nat} {v0_ : Value} {p0 : List UInt32} {p1 : Int} {p2 : Int} {r : Bool × List UInt32} (h : f_slices_partialInsertionSortOrdered_uint32 n p0 p1 p2 = some r)  : Con Try.prog K w0 65 [v0_, vI p1, vI p2] [rowT 32 1 v0_ eU32 p0] H (fun u M => u = vB r.1 ∧ M = [rowT 32 1 v0_ eU32 r.2]) := by
  unfold f_slices_partialInsertionSortOrdered_uint32 at h
  refine Con.enter Try.func65 rfl rfl ?_
  refine SX.sr ?_
  refine SL.asg ⟨rfl, rfl, rfl, rfl⟩ rfl ?_
  refine SL.nx ?_
  refine SX.sr ?_
  obtain ⟨x1, ex1, h⟩ := retE h
  refine SL.mv ⟨rfl, rfl, rfl, rfl⟩ rfl ?_
  refine SL.bin ⟨rfl, rfl, rfl, rfl⟩ rfl rfl Bin.addW ?_
  refine SL.asgX (u := vI x1) ⟨rfl, rfl, rfl, rfl⟩ rfl (congrArg vI ex1) ?_
  refine SL.nx ?_
  refine SX.meetD (α := List UInt32) (fun x => f_slices_partialInsertionSortOrdered_uint32_j1 x = some r) (fun x => [(0, v0_)]) (fun x => rowT 32 1 v0_ eU32 x :: H) ?_ (fun l1 D h => ?_)
  · skip
    refine SX.sr ?_
    refine SL.asg ⟨rfl, rfl, rfl, rfl⟩ rfl ?_
    refine SL.nx ?_
    refine SX.block ?_
    refine SX.heap (SX.mono (SX.loop (α := Nat × List UInt32 × Int × Int) (fun x => f_slices_partialInsertionSortOrdered_uint32_l1 n p1 p2 x.1 (x.2.1, x.2.2.1, x.2.2.2) = some r) (fun x => [(0, v0_), (1, vI p1), (2, vI p2), (7, vI x.2.2.1), (8, vI x.2.2.2)]) (fun x => rowT 32 1 v0_ eU32 x.2.1 :: H) (fun x => x.1) (fun x D h => ?_) (n, p0, x1, 0) h) (by repeat' (first | exact trivial | refine And.intro rfl ?_))) (fun _ hw => HpOk.pick (H := [_]) hw [0] 1 rfl)
    obtain ⟨m1, l2, a1, a2⟩ := x
    dsimp only at h
    rcases m1 with _ | m1
    · cases (show (none : Option _) = some r from h)
    replace h : f_slices_partialInsertionSortOrdered_uint32_l1_b n p1 p2 (f_slices_partialInsertionSortOrdered_uint32_l1 n p1 p2 m1) l2 a1 a2 = some r := h
    unfold f_slices_partialInsertionSortOrdered_uint32_l1_b at h
    refine SX.re [(0, v0_), (1, vI p1), (2, vI p2), (7, vI a1), (8, vI a2)] (rowT 32 1 v0_ eU32 l2 :: H) ?_ (by repeat' (first | exact trivial | refine And.intro rfl ?_))
    refine SX.seq ?_
    refine SX.sr ?_
    refine SL.mv ⟨rfl, rfl, rfl, rfl⟩ rfl ?_
    refine SL.bin ⟨rfl, rfl, rfl, rfl⟩ rfl rfl Bin.ltI ?_
    refine SL.nx ?_
    refine SX.cond rfl (fun hc1 => ?_) (fun hc1 => ?_)
    · skip
      replace h := cT hc1 h
      refine SX.skip ?_
      refine SQ.thn ?_
      refine SX.meetD (α := List UInt32 × Int) (fun x => f_slices_partialInsertionSortOrdered_uint32_j2 a2 (f_slices_partialInsertionSortOrdered_uint32_l1 n p1 p2 m1) x.1 x.2 = some r) (fun x => [(0, v0_), (1, vI p1), (2, vI p2), (7, vI x.2), (8, vI a2)]) (fun x => rowT 32 1 v0_ eU32 x.1 :: H) ?_ (fun x D h => ?_)
      · skip
        refine SX.block ?_
        refine SX.meetD (α := Int) (fun x => f_slices_partialInsertionSortOrdered_uint32_j3 n p1 p2 l2 a2 (f_slices_partialInsertionSortOrdered_uint32_l1 n p1 p2 m1) x = some r) (fun x => [(0, v0_), (1, vI p1), (2, vI p2), (7, vI x), (8, vI a2)]) (fun x => rowT 32 1 v0_ eU32 l2 :: H) ?_ (fun a4 D h => ?_)
        · skip
          refine SX.block ?_
          refine SX.heap (SX.mono (SX.loop (α := Nat × Int) (fun x => f_slices_partialInsertionSortOrdered_uint32_l2 n p1 p2 l2 a2 (f_slices_partialInsertionSortOrdered_uint32_l1 n p1 p2 m1) x.1 x.2 = some r) (fun x => [(0, v0_), (1, vI p1), (2, vI p2), (7, vI x.2), (8, vI a2)]) (fun x => rowT 32 1 v0_ eU32 l2 :: H) (fun x => x.1) (fun x D h => ?_) (n, a1) h) (by repeat' (first | exact trivial | refine And.intro rfl ?_))) (fun _ hw => HpOk.pick (H := [_]) hw [0] 1 rfl)
          obtain ⟨m2, a5⟩ := x
          dsimp only at h
          rcases m2 with _ | m2
          · cases (show (none : Option _) = some r from h)
          replace h : f_slices_partialInsertionSortOrdered_uint32_l2_b n p1 p2 l2 a2 (f_slices_partialInsertionSortOrdered_uint32_l1 n p1 p2 m1) (f_slices_partialInsertionSortOrdered_uint32_l2 n p1 p2 l2 a2 (f_slices_partialInsertionSortOrdered_uint32_l1 n p1 p2 m1) m2) a5 = some r := h
          unfold f_slices_partialInsertionSortOrdered_uint32_l2_b at h
          refine SX.re [(0, v0_), (1, vI p1), (2, vI p2), (7, vI a5), (8, vI a2)] (rowT 32 1 v0_ eU32 l2 :: H) ?_ (by repeat' (first | exact trivial | refine And.intro rfl ?_))
          refine SX.seq ?_
          refine SX.seq ?_
          obtain ⟨y2, hy2, h⟩ := bnd h
          refine SX.drawI mix [0] (Pl.of [(true, 0), (true, 1), (true, 2), (true, 3), (true, 4), (true, 5), (true, 6), (true, 7), (true, 8), (true, 9), (true, 10), (true, 11), (true, 12), (false, 13), (false, 14), (false, 15)]) (by kernel_rfl) ?_
          refine SL.mv ⟨rfl, rfl, rfl, rfl⟩ rfl ?_
          refine SL.mv ⟨rfl, rfl, rfl, rfl⟩ rfl ?_
          refine SL.bin ⟨rfl, rfl, rfl, rfl⟩ rfl rfl Bin.ltI ?_
          refine SL.mv ⟨rfl, rfl, rfl, rfl⟩ rfl ?_
          refine SL.andN 20 12 32 hy2 rfl (fun hb hg1 k => ?_) (fun hb k => ?_) ?_
          · skip
            obtain ⟨x2, hx2, hg1⟩ := bnd hg1
            obtain ⟨x3, hx3, hg1⟩ := bnd hg1
            obtain ⟨y1, hy1, hg1⟩ := bnd hg1
            obtain rfl := Option.some.inj hg1
            refine SL.mv ⟨rfl, rfl, rfl, rfl⟩ rfl ?_
            refine SL.mv ⟨rfl, rfl, rfl, rfl⟩ rfl ?_
            refine SL.iaT 0 hx2 ⟨rfl, rfl, rfl, rfl⟩ ty90 sz32 rfl rfl rfl fun g1 m3 cp1 hv1 => ?_
            refine SL.ld ⟨rfl, rfl, rfl, rfl⟩ sc32 rfl (cell_rowT (sz := 1) (enc := eU32) 0 0 (fun _ => rfl) rfl hv1 hx2 rfl) ?_
            refine SL.mv ⟨rfl, rfl, rfl, rfl⟩ rfl ?_
            refine SL.mv ⟨rfl, rfl, rfl, rfl⟩ rfl ?_
            refine SL.bin ⟨rfl, rfl, rfl, rfl⟩ rfl rfl Bin.subW ?_
            refine SL.iaT 0 hx3 ⟨rfl, rfl, rfl, rfl⟩ ty90 sz32 rfl rfl rfl fun g2 m4 cp2 hv2 => ?_
            refine SL.ld ⟨rfl, rfl, rfl, rfl⟩ sc32 rfl (cell_rowT (sz := 1) (enc := eU32) 0 0 (fun _ => rfl) rfl hv2 hx3 rfl) ?_
            refine SL.call (vs := [_, _]) (Hin := []) (Hr := _ :: _) ⟨rfl, rfl, rfl, rfl⟩ rfl ⟨rfl, rfl, trivial⟩ cal66 rfl rfl (c_cmp_Less_uint32 hy1) ?_
            rintro _ _ ⟨rfl, rfl⟩
            refine ⟨⟨⟨0, rfl⟩, trivial⟩, ?_⟩
            refine SL.not ⟨rfl, rfl, rfl, rfl⟩ rfl ?_
            refine SL.pk ⟨rfl, rfl, rfl, rfl⟩ rfl rfl ?_
            exact k.mono (by repeat' (first | exact trivial | refine And.intro rfl ?_))
          · skip
            refine SL.pass rfl rfl rfl ?_
            refine SL.pass rfl rfl rfl ?_
            refine SL.pass rfl rfl rfl ?_
            refine SL.pass rfl rfl rfl ?_
            refine SL.pass rfl rfl rfl ?_
            refine SL.pass rfl rfl rfl ?_
            refine SL.pass rfl rfl rfl ?_
            refine SL.pass rfl rfl rfl ?_
            refine SL.pass rfl rfl rfl ?_
            refine SL.pass rfl rfl rfl ?_
            refine SL.pass rfl rfl rfl ?_
            refine SL.pk ⟨rfl, rfl, rfl, rfl⟩ rfl rfl ?_
            exact k.mono (by repeat' (first | exact trivial | refine And.intro rfl ?_))
          refine SL.nx ?_
          refine SX.cond rfl (fun hc2 => ?_) (fun hc2 => ?_)
          · skip
            replace h := cT hc2 h
            refine SX.skip ?_
            refine SQ.thn ?_
            refine SX.block ?_
            refine SX.region ?_
            obtain ⟨x4, ex4, h⟩ := retE h
            refine SL.mv ⟨rfl, rfl, rfl, rfl⟩ rfl ?_
            refine SL.bin ⟨rfl, rfl, rfl, rfl⟩ rfl rfl Bin.addW ?_
            refine SL.asgX (u := vI x4) ⟨rfl, rfl, rfl, rfl⟩ rfl (congrArg vI ex4) ?_
            refine SL.nil ?_
            refine SQ.blk ?_
            exact SQ.again (m2, x4) h (Nat.lt_succ_self _) (by repeat' (first | exact trivial | refine And.intro rfl ?_)) (fun _ hw => HpOk.pick (H := [_]) hw [0] 1 rfl)
          · skip
            replace h := cF hc2 h
            refine SX.exit ?_
            refine SQ.thnE ?_
            refine SQ.lpE ?_
            refine SQ.blkE ?_
            exact SQ.midD a5 h (by repeat' (first | exact trivial | refine And.intro rfl ?_)) (fun _ hw => HpOk.pick (H := [_]) hw [0] 1 rfl)
        · skip
          unfold f_slices_partialInsertionSortOrdered_uint32_j3 at h
          refine SX.re [(0, v0_), (1, vI p1), (2, vI p2), (7, vI a4), (8, vI a2)] (rowT 32 1 v0_ eU32 l2 :: H) ?_ (by repeat' (first | exact trivial | refine And.intro rfl ?_))
          refine SX.seq ?_
          refine SX.sr ?_
          refine SL.mv ⟨rfl, rfl, rfl, rfl⟩ rfl ?_
          refine SL.mv ⟨rfl, rfl, rfl, rfl⟩ rfl ?_
          refine SL.bin ⟨rfl, rfl, rfl, rfl⟩ rfl rfl Bin.eqI ?_
          refine SL.nx ?_
          refine SX.cond rfl (fun hc3 => ?_) (fun hc3 => ?_)
          · skip
            replace h := cT hc3 h
            refine SX.sr ?_
            refine SL.asg ⟨rfl, rfl, rfl, rfl⟩ rfl ?_
            refine SL.nx ?_
            refine SX.ret ?_
            refine SQ.thnR ?_
            refine SQ.blkR ?_
            refine SQ.midDR ?_
            refine SQ.lpR ?_
            refine SQ.blkR ?_
            refine SQ.midDR ?_
            obtain rfl := Option.some.inj h
            exact SQ.fret (res1 rfl rfl) (ret_of (M := [_]) ⟨rfl, rfl⟩ fun _ hw => HpOk.pick (H := [_]) hw [0] 1 rfl)
          · skip
            replace h := cF hc3 h
            refine SX.skip ?_
            refine SQ.thn ?_
            refine SX.seq ?_
            refine SX.sr ?_
            refine SL.mv ⟨rfl, rfl, rfl, rfl⟩ rfl ?_
            refine SL.mv ⟨rfl, rfl, rfl, rfl⟩ rfl ?_
            refine SL.bin ⟨rfl, rfl, rfl, rfl⟩ rfl rfl Bin.subW ?_
            refine SL.bin ⟨rfl, rfl, rfl, rfl⟩ rfl rfl Bin.ltI ?_
            refine SL.nx ?_
            refine SX.cond rfl (fun hc4 => ?_) (fun hc4 => ?_)
            · skip
              replace h := cT hc4 h
              refine SX.sr ?_
              refine SL.asg ⟨rfl, rfl, rfl, rfl⟩ rfl ?_
              refine SL.nx ?_
              refine SX.ret ?_
              refine SQ.thnR ?_
              refine SQ.blkR ?_
              refine SQ.midDR ?_
              refine SQ.lpR ?_
              refine SQ.blkR ?_
              refine SQ.midDR ?_
              obtain rfl := Option.some.inj h
              exact SQ.fret (res1 rfl rfl) (ret_of (M := [_]) ⟨rfl, rfl⟩ fun _ hw => HpOk.pick (H := [_]) hw [0] 1 rfl)
            · skip
              replace h := cF hc4 h
              refine SX.skip ?_
              refine SQ.thn ?_
              refine SX.seq ?_
              obtain ⟨x5, hx5, h⟩ := bnd h
              obtain ⟨x6, hx6, h⟩ := bnd h
              obtain ⟨x7, hx7, h⟩ := bnd h
              obtain ⟨l4, hl4, h⟩ := bnd h
              obtain ⟨x8, hx8, h⟩ := bnd h
              obtain ⟨l5, hl5, h⟩ := bnd h
              refine SX.drawI mix [] (Pl.ap [(true, 0), (true, 1), (true, 2), (true, 3), (true, 4), (true, 5), (true, 6), (true, 7), (true, 8), (true, 10), (true, 11), (true, 12)] (.alt 9 (Pl.ap [(false, 13), (true, 14), (false, 15), (true, 16)] (.last 17 .nil)) (.cons (false, 13) (Pl.ap [(false, 9), (true, 14), (false, 15), (true, 16)] (.last 17 .nil))))) (by kernel_rfl) ?_
              refine SL.mv ⟨rfl, rfl, rfl, rfl⟩ rfl ?_
              refine SL.mv ⟨rfl, rfl, rfl, rfl⟩ rfl ?_
              refine SL.mv ⟨rfl, rfl, rfl, rfl⟩ rfl ?_
              refine SL.mv ⟨rfl, rfl, rfl, rfl⟩ rfl ?_
              refine SL.bin ⟨rfl, rfl, rfl, rfl⟩ rfl rfl Bin.subW ?_
              refine SL.mv ⟨rfl, rfl, rfl, rfl⟩ rfl ?_
              refine SL.mv ⟨rfl, rfl, rfl, rfl⟩ rfl ?_
              refine SL.bin ⟨rfl, rfl, rfl, rfl⟩ rfl rfl Bin.subW ?_
              refine SL.iaT 0 hx5 ⟨rfl, rfl, rfl, rfl⟩ ty90 sz32 rfl rfl rfl fun g3 m5 cp3 hv3 => ?_
              refine SL.mv ⟨rfl, rfl, rfl, rfl⟩ rfl ?_
              refine SL.mv ⟨rfl, rfl, rfl, rfl⟩ rfl ?_
              refine SL.iaT 0 hx6 ⟨rfl, rfl, rfl, rfl⟩ ty90 sz32 rfl rfl rfl fun g4 m6 cp4 hv4 => ?_
              refine SL.two ?_ ?_
              · skip
                refine SL.ld ⟨rfl, rfl, rfl, rfl⟩ sc32 rfl (cell_rowT (sz := 1) (enc := eU32) 0 0 (fun _ => rfl) rfl hv3 hx5 rfl) ?_
                refine SL.ld ⟨rfl, rfl, rfl, rfl⟩ sc32 rfl (cell_rowT (sz := 1) (enc := eU32) 0 0 (fun _ => rfl) rfl hv4 hx6 rfl) ?_
                refine SL.iaT 0 hx7 ⟨rfl, rfl, rfl, rfl⟩ ty90 sz32 rfl rfl rfl fun g5 m7 cp5 hv5 => ?_
                refine SL.stTN (sz := 1) (enc := eU32) 0 hl4 (fun _ => rfl) ⟨rfl, rfl, rfl⟩ rfl rfl rfl rfl hv5 sz32 (by simp [Value.oneCell']) trivial ?_
                refine SL.iaT 0 hx8 ⟨rfl, rfl, rfl, rfl⟩ ty90 sz32 rfl rfl rfl fun g6 m8 cp6 hv6 => ?_
                refine SL.last ?_
                refine SL.stTN (sz := 1) (enc := eU32) 0 hl5 (fun _ => rfl) ⟨rfl, rfl, rfl⟩ rfl rfl rfl rfl hv6 sz32 (by simp [Value.oneCell']) trivial ?_
                refine SL.nx ?_
                refine SX.meetD (α := List UInt32) (fun x => f_slices_partialInsertionSortOrdered_uint32_j4 n p2 a2 a4 (f_slices_partialInsertionSortOrdered_uint32_l1 n p1 p2 m1) x = some r) (fun x => [(0, v0_), (1, vI p1), (2, vI p2), (7, vI a4), (8, vI a2)]) (fun x => rowT 32 1 v0_ eU32 x :: H) ?_ (fun l6 D h => ?_)
                · skip
                  refine SX.sr ?_
                  refine SL.mv ⟨rfl, rfl, rfl, rfl⟩ rfl ?_
                  refine SL.mv ⟨rfl, rfl, rfl, rfl⟩ rfl ?_
                  refine SL.bin ⟨rfl, rfl, rfl, rfl⟩ rfl rfl Bin.subW ?_
                  refine SL.bin ⟨rfl, rfl, rfl, rfl⟩ rfl rfl Bin.geI ?_
                  refine SL.nx ?_
                  refine SX.cond rfl (fun hc5 => ?_) (fun hc5 => ?_)
                  · skip
                    replace h := cT hc5 h
                    refine SX.sr ?_
                    obtain ⟨x9, ex9, h⟩ := retE h
                    refine SL.mv ⟨rfl, rfl, rfl, rfl⟩ rfl ?_
                    refine SL.bin ⟨rfl, rfl, rfl, rfl⟩ rfl rfl Bin.subW ?_
                    refine SL.asgX (u := vI x9) ⟨rfl, rfl, rfl, rfl⟩ rfl (congrArg vI ex9) ?_
                    refine SL.nx ?_
                    refine SX.block ?_
                    refine SX.heap (SX.mono (SX.loop (α := Nat × List UInt32 × Int) (fun x => f_slices_partialInsertionSortOrdered_uint32_l3 n p2 a2 a4 (f_slices_partialInsertionSortOrdered_uint32_l1 n p1 p2 m1) x.1 (x.2.1, x.2.2) = some r) (fun x => [(0, v0_), (1, vI p1), (2, vI p2), (7, vI a4), (8, vI a2), (9, vI x.2.2)]) (fun x => rowT 32 1 v0_ eU32 x.2.1 :: H) (fun x => x.1) (fun x D h => ?_) (n, l5, x9) h) (by repeat' (first | exact trivial | refine And.intro rfl ?_))) (fun _ hw => HpOk.pick (H := [_]) hw [0] 1 rfl)
                    obtain ⟨m9, l7, a6⟩ := x
                    dsimp only at h
                    rcases m9 with _ | m9
                    · cases (show (none : Option _) = some r from h)
                    replace h : f_slices_partialInsertionSortOrdered_uint32_l3_b n p2 a2 a4 (f_slices_partialInsertionSortOrdered_uint32_l1 n p1 p2 m1) (f_slices_partialInsertionSortOrdered_uint32_l3 n p2 a2 a4 (f_slices_partialInsertionSortOrdered_uint32_l1 n p1 p2 m1) m9) l7 a6 = some r := h
                    unfold f_slices_partialInsertionSortOrdered_uint32_l3_b at h
                    refine SX.re [(0, v0_), (1, vI p1), (2, vI p2), (7, vI a4), (8, vI a2), (9, vI a6)] (rowT 32 1 v0_ eU32 l7 :: H) ?_ (by repeat' (first | exact trivial | refine And.intro rfl ?_))
                    refine SX.seq ?_
                    refine SX.sr ?_
                    refine SL.mv ⟨rfl, rfl, rfl, rfl⟩ rfl ?_
                    refine SL.bin ⟨rfl, rfl, rfl, rfl⟩ rfl rfl Bin.geI ?_
                    refine SL.nx ?_
                    refine SX.cond rfl (fun hc6 => ?_) (fun hc6 => ?_)
                    · skip
                      replace h := cT hc6 h
                      refine SX.skip ?_
                      refine SQ.thn ?_
                      refine SX.seq ?_
                      refine SX.block ?_
                      refine SX.seq ?_
                      refine SX.seq ?_
                      obtain ⟨x10, hx10, h⟩ := bnd h
                      obtain ⟨x11, hx11, h⟩ := bnd h
                      obtain ⟨y3, hy3, h⟩ := bnd h
                      refine SX.drawI mix [0] (Pl.ap [(true, 0), (true, 1), (true, 2), (true, 3), (true, 4), (true, 5), (true, 6), (true, 7), (true, 8)] (.last 9 (Pl.of [(false, 10)]))) (by kernel_rfl) ?_
                      refine SL.mv ⟨rfl, rfl, rfl, rfl⟩ rfl ?_
                      refine SL.mv ⟨rfl, rfl, rfl, rfl⟩ rfl ?_
                      refine SL.iaT 0 hx10 ⟨rfl, rfl, rfl, rfl⟩ ty90 sz32 rfl rfl rfl fun g7 m10 cp7 hv7 => ?_
                      refine SL.ld ⟨rfl, rfl, rfl, rfl⟩ sc32 rfl (cell_rowT (sz := 1) (enc := eU32) 0 0 (fun _ => rfl) rfl hv7 hx10 rfl) ?_
                      refine SL.mv ⟨rfl, rfl, rfl, rfl⟩ rfl ?_
                      refine SL.mv ⟨rfl, rfl, rfl, rfl⟩ rfl ?_
                      refine SL.bin ⟨rfl, rfl, rfl, rfl⟩ rfl rfl Bin.subW ?_
                      refine SL.iaT 0 hx11 ⟨rfl, rfl, rfl, rfl⟩ ty90 sz32 rfl rfl rfl fun g8 m11 cp8 hv8 => ?_
                      refine SL.ld ⟨rfl, rfl, rfl, rfl⟩ sc32 rfl (cell_rowT (sz := 1) (enc := eU32) 0 0 (fun _ => rfl) rfl hv8 hx11 rfl) ?_
                      refine SL.last ?_
                      refine SL.call (vs := [_, _]) (Hin := []) (Hr := _ :: _) ⟨rfl, rfl, rfl, rfl⟩ rfl ⟨rfl, rfl, trivial⟩ cal66 rfl rfl (c_cmp_Less_uint32 hy3) ?_
                      rintro _ _ ⟨rfl, rfl⟩
                      refine ⟨trivial, ?_⟩
                      refine SL.not ⟨rfl, rfl, rfl, rfl⟩ rfl ?_
                      refine SL.nx ?_
                      refine SX.cond rfl (fun hc7 => ?_) (fun hc7 => ?_)
                      · skip
                        replace h := cT hc7 h
                        refine SX.exit ?_
                        refine SQ.thnE ?_
                        refine SQ.blkO ?_
                        refine SQ.thnE ?_
                        refine SQ.lpE ?_
                        refine SQ.blkE ?_
                        exact SQ.midD l7 h (by repeat' (first | exact trivial | refine And.intro rfl ?_)) (fun _ hw => HpOk.pick (H := [_]) hw [0] 1 rfl)
                      · skip
                        replace h := cF hc7 h
                        refine SX.skip ?_
                        refine SQ.thn ?_
                        obtain ⟨x12, hx12, h⟩ := bnd h
                        obtain ⟨x13, hx13, h⟩ := bnd h
                        obtain ⟨x14, hx14, h⟩ := bnd h
                        obtain ⟨l8, hl8, h⟩ := bnd h
                        obtain ⟨x15, hx15, h⟩ := bnd h
                        obtain ⟨l9, hl9, h⟩ := bnd h
                        refine SX.drawI mix [] (Pl.ap [(true, 0), (true, 1), (true, 2), (true, 3), (true, 4), (true, 5), (true, 6), (true, 7), (true, 8), (true, 10), (true, 11), (true, 12)] (.alt 9 (Pl.ap [(false, 13), (true, 14), (false, 15), (true, 16)] (.last 17 .nil)) (.cons (false, 13) (Pl.ap [(false, 9), (true, 14), (false, 15), (true, 16)] (.last 17 .nil))))) (by kernel_rfl) ?_
                        refine SL.mv ⟨rfl, rfl, rfl, rfl⟩ rfl ?_
                        refine SL.mv ⟨rfl, rfl, rfl, rfl⟩ rfl ?_
                        refine SL.mv ⟨rfl, rfl, rfl, rfl⟩ rfl ?_
                        refine SL.mv ⟨rfl, rfl, rfl, rfl⟩ rfl ?_
                        refine SL.bin ⟨rfl, rfl, rfl, rfl⟩ rfl rfl Bin.subW ?_
                        refine SL.mv ⟨rfl, rfl, rfl, rfl⟩ rfl ?_
                        refine SL.mv ⟨rfl, rfl, rfl, rfl⟩ rfl ?_
                        refine SL.bin ⟨rfl, rfl, rfl, rfl⟩ rfl rfl Bin.subW ?_
                        refine SL.iaT 0 hx12 ⟨rfl, rfl, rfl, rfl⟩ ty90 sz32 rfl rfl rfl fun g9 m12 cp9 hv9 => ?_
                        refine SL.mv ⟨rfl, rfl, rfl, rfl⟩ rfl ?_
                        refine SL.mv ⟨rfl, rfl, rfl, rfl⟩ rfl ?_
                        refine SL.iaT 0 hx13 ⟨rfl, rfl, rfl, rfl⟩ ty90 sz32 rfl rfl rfl fun g10 m13 cp10 hv10 => ?_
                        refine SL.two ?_ ?_
                        · skip
                          refine SL.ld ⟨rfl, rfl, rfl, rfl⟩ sc32 rfl (cell_rowT (sz := 1) (enc := eU32) 0 0 (fun _ => rfl) rfl hv9 hx12 rfl) ?_
                          refine SL.ld ⟨rfl, rfl, rfl, rfl⟩ sc32 rfl (cell_rowT (sz := 1) (enc := eU32) 0 0 (fun _ => rfl) rfl hv10 hx13 rfl) ?_
                          refine SL.iaT 0 hx14 ⟨rfl, rfl, rfl, rfl⟩ ty90 sz32 rfl rfl rfl fun g11 m14 cp11 hv11 => ?_
                          refine SL.stTN (sz := 1) (enc := eU32) 0 hl8 (fun _ => rfl) ⟨rfl, rfl, rfl⟩ rfl rfl rfl rfl hv11 sz32 (by simp [Value.oneCell']) trivial ?_
                          refine SL.iaT 0 hx15 ⟨rfl, rfl, rfl, rfl⟩ ty90 sz32 rfl rfl rfl fun g12 m15 cp12 hv12 => ?_
                          refine SL.last ?_
                          refine SL.stTN (sz := 1) (enc := eU32) 0 hl9 (fun _ => rfl) ⟨rfl, rfl, rfl⟩ rfl rfl rfl rfl hv12 sz32 (by simp [Value.oneCell']) trivial ?_
                          refine SL.nil ?_
                          refine SQ.blk ?_
                          refine SQ.thn ?_
                          refine SX.region ?_
                          obtain ⟨x16, ex16, h⟩ := retE h
                          refine SL.mv ⟨rfl, rfl, rfl, rfl⟩ rfl ?_
                          refine SL.bin ⟨rfl, rfl, rfl, rfl⟩ rfl rfl Bin.subW ?_
                          refine SL.asgX (u := vI x16) ⟨rfl, rfl, rfl, rfl⟩ rfl (congrArg vI ex16) ?_
                          refine SL.nil ?_
                          exact SQ.again (m9, l9, x16) h (Nat.lt_succ_self _) (by repeat' (first | exact trivial | refine And.intro rfl ?_)) (fun _ hw => HpOk.pick (H := [_]) hw [0] 1 rfl)
                        · skip
                          refine SL.ld ⟨rfl, rfl, rfl, rfl⟩ sc32 rfl (cell_rowT (sz := 1) (enc := eU32) 0 0 (fun _ => rfl) rfl hv10 hx13 rfl) ?_
                          refine SL.ld ⟨rfl, rfl, rfl, rfl⟩ sc32 rfl (cell_rowT (sz := 1) (enc := eU32) 0 0 (fun _ => rfl) rfl hv9 hx12 rfl) ?_
                          refine SL.iaT 0 hx14 ⟨rfl, rfl, rfl, rfl⟩ ty90 sz32 rfl rfl rfl fun g11 m14 cp11 hv11 => ?_
                          refine SL.stTN (sz := 1) (enc := eU32) 0 hl8 (fun _ => rfl) ⟨rfl, rfl, rfl⟩ rfl rfl rfl rfl hv11 sz32 (by simp [Value.oneCell']) trivial ?_
                          refine SL.iaT 0 hx15 ⟨rfl, rfl, rfl, rfl⟩ ty90 sz32 rfl rfl rfl fun g12 m15 cp12 hv12 => ?_
                          refine SL.last ?_
                          refine SL.stTN (sz := 1) (enc := eU32) 0 hl9 (fun _ => rfl) ⟨rfl, rfl, rfl⟩ rfl rfl rfl rfl hv12 sz32 (by simp [Value.oneCell']) trivial ?_
                          refine SL.nil ?_
                          refine SQ.blk ?_
                          refine SQ.thn ?_
                          refine SX.region ?_
                          obtain ⟨x16, ex16, h⟩ := retE h
                          refine SL.mv ⟨rfl, rfl, rfl, rfl⟩ rfl ?_
                          refine SL.bin ⟨rfl, rfl, rfl, rfl⟩ rfl rfl Bin.subW ?_
                          refine SL.asgX (u := vI x16) ⟨rfl, rfl, rfl, rfl⟩ rfl (congrArg vI ex16) ?_
                          refine SL.nil ?_
                          exact SQ.again (m9, l9, x16) h (Nat.lt_succ_self _) (by repeat' (first | exact trivial | refine And.intro rfl ?_)) (fun _ hw => HpOk.pick (H := [_]) hw [0] 1 rfl)
                    · skip
                      replace h := cF hc6 h
                      refine SX.exit ?_
                      refine SQ.thnE ?_
                      refine SQ.lpE ?_
                      refine SQ.blkE ?_
                      exact SQ.midD l7 h (by repeat' (first | exact trivial | refine And.intro rfl ?_)) (fun _ hw => HpOk.pick (H := [_]) hw [0] 1 rfl)
                  · skip
                    replace h := cF hc5 h
                    refine SX.skip ?_
                    exact SQ.midD l5 h (by repeat' (first | exact trivial | refine And.intro rfl ?_)) (fun _ hw => HpOk.pick (H := [_]) hw [0] 1 rfl)
                · skip
                  unfold f_slices_partialInsertionSortOrdered_uint32_j4 at h
                  refine SX.re [(0, v0_), (1, vI p1), (2, vI p2), (7, vI a4), (8, vI a2)] (rowT 32 1 v0_ eU32 l6 :: H) ?_ (by repeat' (first | exact trivial | refine And.intro rfl ?_))
                  refine SX.sr ?_
                  refine SL.mv ⟨rfl, rfl, rfl, rfl⟩ rfl ?_
                  refine SL.mv ⟨rfl, rfl, rfl, rfl⟩ rfl ?_
                  refine SL.bin ⟨rfl, rfl, rfl, rfl⟩ rfl rfl Bin.subW ?_
                  refine SL.bin ⟨rfl, rfl, rfl, rfl⟩ rfl rfl Bin.geI ?_
                  refine SL.nx ?_
                  refine SX.cond rfl (fun hc8 => ?_) (fun hc8 => ?_)
                  · skip
                    replace h := cT hc8 h
                    refine SX.sr ?_
                    obtain ⟨x17, ex17, h⟩ := retE h
                    refine SL.mv ⟨rfl, rfl, rfl, rfl⟩ rfl ?_
                    refine SL.bin ⟨rfl, rfl, rfl, rfl⟩ rfl rfl Bin.addW ?_
                    refine SL.asgX (u := vI x17) ⟨rfl, rfl, rfl, rfl⟩ rfl (congrArg vI ex17) ?_
                    refine SL.nx ?_
                    refine SX.block ?_
                    refine SX.heap (SX.mono (SX.loop (α := Nat × List UInt32 × Int) (fun x => f_slices_partialInsertionSortOrdered_uint32_l4 p2 a2 a4 (f_slices_partialInsertionSortOrdered_uint32_l1 n p1 p2 m1) x.1 (x.2.1, x.2.2) = some r) (fun x => [(0, v0_), (1, vI p1), (2, vI p2), (7, vI a4), (8, vI a2), (10, vI x.2.2)]) (fun x => rowT 32 1 v0_ eU32 x.2.1 :: H) (fun x => x.1) (fun x D h => ?_) (n, l6, x17) h) (by repeat' (first | exact trivial | refine And.intro rfl ?_))) (fun _ hw => HpOk.pick (H := [_]) hw [0] 1 rfl)
                    obtain ⟨m16, l10, a7⟩ := x
                    dsimp only at h
                    rcases m16 with _ | m16
                    · cases (show (none : Option _) = some r from h)
                    replace h : f_slices_partialInsertionSortOrdered_uint32_l4_b p2 a2 a4 (f_slices_partialInsertionSortOrdered_uint32_l1 n p1 p2 m1) (f_slices_partialInsertionSortOrdered_uint32_l4 p2 a2 a4 (f_slices_partialInsertionSortOrdered_uint32_l1 n p1 p2 m1) m16) l10 a7 = some r := h
                    unfold f_slices_partialInsertionSortOrdered_uint32_l4_b at h
                    refine SX.re [(0, v0_), (1, vI p1), (2, vI p2), (7, vI a4), (8, vI a2), (10, vI a7)] (rowT 32 1 v0_ eU32 l10 :: H) ?_ (by repeat' (first | exact trivial | refine And.intro rfl ?_))
                    refine SX.seq ?_
                    refine SX.sr ?_
                    refine SL.mv ⟨rfl, rfl, rfl, rfl⟩ rfl ?_
                    refine SL.mv ⟨rfl, rfl, rfl, rfl⟩ rfl ?_
                    refine SL.bin ⟨rfl, rfl, rfl, rfl⟩ rfl rfl Bin.ltI ?_
                    refine SL.nx ?_
                    refine SX.cond rfl (fun hc9 => ?_) (fun hc9 => ?_)
                    · skip
                      replace h := cT hc9 h
                      refine SX.skip ?_
                      refine SQ.thn ?_
                      refine SX.seq ?_
                      refine SX.block ?_
                      refine SX.seq ?_
                      refine SX.seq ?_
                      obtain ⟨x18, hx18, h⟩ := bnd h
                      obtain ⟨x19, hx19, h⟩ := bnd h
                      obtain ⟨y4, hy4, h⟩ := bnd h
                      refine SX.drawI mix [0] (Pl.ap [(true, 0), (true, 1), (true, 2), (true, 3), (true, 4), (true, 5), (true, 6), (true, 7), (true, 8)] (.last 9 (Pl.of [(false, 10)]))) (by kernel_rfl) ?_
                      refine SL.mv ⟨rfl, rfl, rfl, rfl⟩ rfl ?_
                      refine SL.mv ⟨rfl, rfl, rfl, rfl⟩ rfl ?_
                      refine SL.iaT 0 hx18 ⟨rfl, rfl, rfl, rfl⟩ ty90 sz32 rfl rfl rfl fun g13 m17 cp13 hv13 => ?_
                      refine SL.ld ⟨rfl, rfl, rfl, rfl⟩ sc32 rfl (cell_rowT (sz := 1) (enc := eU32) 0 0 (fun _ => rfl) rfl hv13 hx18 rfl) ?_
                      refine SL.mv ⟨rfl, rfl, rfl, rfl⟩ rfl ?_
                      refine SL.mv ⟨rfl, rfl, rfl, rfl⟩ rfl ?_
                      refine SL.bin ⟨rfl, rfl, rfl, rfl⟩ rfl rfl Bin.subW ?_
                      refine SL.iaT 0 hx19 ⟨rfl, rfl, rfl, rfl⟩ ty90 sz32 rfl rfl rfl fun g14 m18 cp14 hv14 => ?_
                      refine SL.ld ⟨rfl, rfl, rfl, rfl⟩ sc32 rfl (cell_rowT (sz := 1) (enc := eU32) 0 0 (fun _ => rfl) rfl hv14 hx19 rfl) ?_
                      refine SL.last ?_
                      refine SL.call (vs := [_, _]) (Hin := []) (Hr := _ :: _) ⟨rfl, rfl, rfl, rfl⟩ rfl ⟨rfl, rfl, trivial⟩ cal66 rfl rfl (c_cmp_Less_uint32 hy4) ?_
                      rintro _ _ ⟨rfl, rfl⟩
                      refine ⟨trivial, ?_⟩
                      refine SL.not ⟨rfl, rfl, rfl, rfl⟩ rfl ?_
                      refine SL.nx ?_
                      refine SX.cond rfl (fun hc10 => ?_) (fun hc10 => ?_)
                      · skip
                        replace h := cT hc10 h
                        refine SX.exit ?_
                        refine SQ.thnE ?_
                        refine SQ.blkO ?_
                        refine SQ.thnE ?_
                        refine SQ.lpE ?_
                        refine SQ.blkE ?_
                        refine SQ.blk ?_
                        exact SQ.midD (l10, a4) h (by repeat' (first | exact trivial | refine And.intro rfl ?_)) (fun _ hw => HpOk.pick (H := [_]) hw [0] 1 rfl)
                      · skip
                        replace h := cF hc10 h
                        refine SX.skip ?_
                        refine SQ.thn ?_
                        obtain ⟨x20, hx20, h⟩ := bnd h
                        obtain ⟨x21, hx21, h⟩ := bnd h
                        obtain ⟨x22, hx22, h⟩ := bnd h
                        obtain ⟨l11, hl11, h⟩ := bnd h
                        obtain ⟨x23, hx23, h⟩ := bnd h
                        obtain ⟨l12, hl12, h⟩ := bnd h
                        refine SX.drawI mix [] (Pl.ap [(true, 0), (true, 1), (true, 2), (true, 3), (true, 4), (true, 5), (true, 6), (true, 7), (true, 8), (true, 10), (true, 11), (true, 12)] (.alt 9 (Pl.ap [(false, 13), (true, 14), (false, 15), (true, 16)] (.last 17 .nil)) (.cons (false, 13) (Pl.ap [(false, 9), (true, 14), (false, 15), (true, 16)] (.last 17 .nil))))) (by kernel_rfl) ?_
                        refine SL.mv ⟨rfl, rfl, rfl, rfl⟩ rfl ?_
                        refine SL.mv ⟨rfl, rfl, rfl, rfl⟩ rfl ?_
                        refine SL.mv ⟨rfl, rfl, rfl, rfl⟩ rfl ?_
                        refine SL.mv ⟨rfl, rfl, rfl, rfl⟩ rfl ?_
                        refine SL.bin ⟨rfl, rfl, rfl, rfl⟩ rfl rfl Bin.subW ?_
                        refine SL.mv ⟨rfl, rfl, rfl, rfl⟩ rfl ?_
                        refine SL.mv ⟨rfl, rfl, rfl, rfl⟩ rfl ?_
                        refine SL.bin ⟨rfl, rfl, rfl, rfl⟩ rfl rfl Bin.subW ?_
                        refine SL.iaT 0 hx20 ⟨rfl, rfl, rfl, rfl⟩ ty90 sz32 rfl rfl rfl fun g15 m19 cp15 hv15 => ?_
                        refine SL.mv ⟨rfl, rfl, rfl, rfl⟩ rfl ?_
                        refine SL.mv ⟨rfl, rfl, rfl, rfl⟩ rfl ?_
                        refine SL.iaT 0 hx21 ⟨rfl, rfl, rfl, rfl⟩ ty90 sz32 rfl rfl rfl fun g16 m20 cp16 hv16 => ?_
                        refine SL.two ?_ ?_
                        · skip
                          refine SL.ld ⟨rfl, rfl, rfl, rfl⟩ sc32 rfl (cell_rowT (sz := 1) (enc := eU32) 0 0 (fun _ => rfl) rfl hv15 hx20 rfl) ?_
                          refine SL.ld ⟨rfl, rfl, rfl, rfl⟩ sc32 rfl (cell_rowT (sz := 1) (enc := eU32) 0 0 (fun _ => rfl) rfl hv16 hx21 rfl) ?_
                          refine SL.iaT 0 hx22 ⟨rfl, rfl, rfl, rfl⟩ ty90 sz32 rfl rfl rfl fun g17 m21 cp17 hv17 => ?_
                          refine SL.stTN (sz := 1) (enc := eU32) 0 hl11 (fun _ => rfl) ⟨rfl, rfl, rfl⟩ rfl rfl rfl rfl hv17 sz32 (by simp [Value.oneCell']) trivial ?_
                          refine SL.iaT 0 hx23 ⟨rfl, rfl, rfl, rfl⟩ ty90 sz32 rfl rfl rfl fun g18 m22 cp18 hv18 => ?_
                          refine SL.last ?_
                          refine SL.stTN (sz := 1) (enc := eU32) 0 hl12 (fun _ => rfl) ⟨rfl, rfl, rfl⟩ rfl rfl rfl rfl hv18 sz32 (by simp [Value.oneCell']) trivial ?_
                          refine SL.nil ?_
                          refine SQ.blk ?_
                          refine SQ.thn ?_
                          refine SX.region ?_
                          obtain ⟨x24, ex24, h⟩ := retE h
                          refine SL.mv ⟨rfl, rfl, rfl, rfl⟩ rfl ?_
                          refine SL.bin ⟨rfl, rfl, rfl, rfl⟩ rfl rfl Bin.addW ?_
                          refine SL.asgX (u := vI x24) ⟨rfl, rfl, rfl, rfl⟩ rfl (congrArg vI ex24) ?_
                          refine SL.nil ?_
                          exact SQ.again (m16, l12, x24) h (Nat.lt_succ_self _) (by repeat' (first | exact trivial | refine And.intro rfl ?_)) (fun _ hw => HpOk.pick (H := [_]) hw [0] 1 rfl)
                        · skip
                          refine SL.ld ⟨rfl, rfl, rfl, rfl⟩ sc32 rfl (cell_rowT (sz := 1) (enc := eU32) 0 0 (fun _ => rfl) rfl hv16 hx21 rfl) ?_
                          refine SL.ld ⟨rfl, rfl, rfl, rfl⟩ sc32 rfl (cell_rowT (sz := 1) (enc := eU32) 0 0 (fun _ => rfl) rfl hv15 hx20 rfl) ?_
                          refine SL.iaT 0 hx22 ⟨rfl, rfl, rfl, rfl⟩ ty90 sz32 rfl rfl rfl fun g17 m21 cp17 hv17 => ?_
                          refine SL.stTN (sz := 1) (enc := eU32) 0 hl11 (fun _ => rfl) ⟨rfl, rfl, rfl⟩ rfl rfl rfl rfl hv17 sz32 (by simp [Value.oneCell']) trivial ?_
                          refine SL.iaT 0 hx23 ⟨rfl, rfl, rfl, rfl⟩ ty90 sz32 rfl rfl rfl fun g18 m22 cp18 hv18 => ?_
                          refine SL.last ?_
                          refine SL.stTN (sz := 1) (enc := eU32) 0 hl12 (fun _ => rfl) ⟨rfl, rfl, rfl⟩ rfl rfl rfl rfl hv18 sz32 (by simp [Value.oneCell']) trivial ?_
                          refine SL.nil ?_
                          refine SQ.blk ?_
                          refine SQ.thn ?_
                          refine SX.region ?_
                          obtain ⟨x24, ex24, h⟩ := retE h
                          refine SL.mv ⟨rfl, rfl, rfl, rfl⟩ rfl ?_
                          refine SL.bin ⟨rfl, rfl, rfl, rfl⟩ rfl rfl Bin.addW ?_
                          refine SL.asgX (u := vI x24) ⟨rfl, rfl, rfl, rfl⟩ rfl (congrArg vI ex24) ?_
                          refine SL.nil ?_
                          exact SQ.again (m16, l12, x24) h (Nat.lt_succ_self _) (by repeat' (first | exact trivial | refine And.intro rfl ?_)) (fun _ hw => HpOk.pick (H := [_]) hw [0] 1 rfl)
                    · skip
                      replace h := cF hc9 h
                      refine SX.exit ?_
                      refine SQ.thnE ?_
                      refine SQ.lpE ?_
                      refine SQ.blkE ?_
                      refine SQ.blk ?_
                      exact SQ.midD (l10, a4) h (by repeat' (first | exact trivial | refine And.intro rfl ?_)) (fun _ hw => HpOk.pick (H := [_]) hw [0] 1 rfl)
                  · skip
                    replace h := cF hc8 h
                    refine SX.skip ?_
                    refine SQ.blk ?_
                    exact SQ.midD (l6, a4) h (by repeat' (first | exact trivial | refine And.intro rfl ?_)) (fun _ hw => HpOk.pick (H := [_]) hw [0] 1 rfl)
              · skip
                refine SL.ld ⟨rfl, rfl, rfl, rfl⟩ sc32 rfl (cell_rowT (sz := 1) (enc := eU32) 0 0 (fun _ => rfl) rfl hv4 hx6 rfl) ?_
                refine SL.ld ⟨rfl, rfl, rfl, rfl⟩ sc32 rfl (cell_rowT (sz := 1) (enc := eU32) 0 0 (fun _ => rfl) rfl hv3 hx5 rfl) ?_
                refine SL.iaT 0 hx7 ⟨rfl, rfl, rfl, rfl⟩ ty90 sz32 rfl rfl rfl fun g5 m7 cp5 hv5 => ?_
                refine SL.stTN (sz := 1) (enc := eU32) 0 hl4 (fun _ => rfl) ⟨rfl, rfl, rfl⟩ rfl rfl rfl rfl hv5 sz32 (by simp [Value.oneCell']) trivial ?_
                refine SL.iaT 0 hx8 ⟨rfl, rfl, rfl, rfl⟩ ty90 sz32 rfl rfl rfl fun g6 m8 cp6 hv6 => ?_
                refine SL.last ?_
                refine SL.stTN (sz := 1) (enc := eU32) 0 hl5 (fun _ => rfl) ⟨rfl, rfl, rfl⟩ rfl rfl rfl rfl hv6 sz32 (by simp [Value.oneCell']) trivial ?_
                refine SL.nx ?_
                refine SX.meetD (α := List UInt32) (fun x => f_slices_partialInsertionSortOrdered_uint32_j4 n p2 a2 a4 (f_slices_partialInsertionSortOrdered_uint32_l1 n p1 p2 m1) x = some r) (fun x => [(0, v0_), (1, vI p1), (2, vI p2), (7, vI a4), (8, vI a2)]) (fun x => rowT 32 1 v0_ eU32 x :: H) ?_ (fun l6 D h => ?_)
                · skip
                  refine SX.sr ?_
                  refine SL.mv ⟨rfl, rfl, rfl, rfl⟩ rfl ?_
                  refine SL.mv ⟨rfl, rfl, rfl, rfl⟩ rfl ?_
                  refine SL.bin ⟨rfl, rfl, rfl, rfl⟩ rfl rfl Bin.subW ?_
                  refine SL.bin ⟨rfl, rfl, rfl, rfl⟩ rfl rfl Bin.geI ?_
                  refine SL.nx ?_
                  refine SX.cond rfl (fun hc5 => ?_) (fun hc5 => ?_)
                  · skip
                    replace h := cT hc5 h
                    refine SX.sr ?_
                    obtain ⟨x9, ex9, h⟩ := retE h
                    refine SL.mv ⟨rfl, rfl, rfl, rfl⟩ rfl ?_
                    refine SL.bin ⟨rfl, rfl, rfl, rfl⟩ rfl rfl Bin.subW ?_
                    refine SL.asgX (u := vI x9) ⟨rfl, rfl, rfl, rfl⟩ rfl (congrArg vI ex9) ?_
                    refine SL.nx ?_
                    refine SX.block ?_
                    refine SX.heap (SX.mono (SX.loop (α := Nat × List UInt32 × Int) (fun x => f_slices_partialInsertionSortOrdered_uint32_l3 n p2 a2 a4 (f_slices_partialInsertionSortOrdered_uint32_l1 n p1 p2 m1) x.1 (x.2.1, x.2.2) = some r) (fun x => [(0, v0_), (1, vI p1), (2, vI p2), (7, vI a4), (8, vI a2), (9, vI x.2.2)]) (fun x => rowT 32 1 v0_ eU32 x.2.1 :: H) (fun x => x.1) (fun x D h => ?_) (n, l5, x9) h) (by repeat' (first | exact trivial | refine And.intro rfl ?_))) (fun _ hw => HpOk.pick (H := [_]) hw [0] 1 rfl)
                    obtain ⟨m9, l7, a6⟩ := x
                    dsimp only at h
                    rcases m9 with _ | m9
                    · cases (show (none : Option _) = some r from h)
                    replace h : f_slices_partialInsertionSortOrdered_uint32_l3_b n p2 a2 a4 (f_slices_partialInsertionSortOrdered_uint32_l1 n p1 p2 m1) (f_slices_partialInsertionSortOrdered_uint32_l3 n p2 a2 a4 (f_slices_partialInsertionSortOrdered_uint32_l1 n p1 p2 m1) m9) l7 a6 = some r := h
                    unfold f_slices_partialInsertionSortOrdered_uint32_l3_b at h
                    refine SX.re [(0, v0_), (1, vI p1), (2, vI p2), (7, vI a4), (8, vI a2), (9, vI a6)] (rowT 32 1 v0_ eU32 l7 :: H) ?_ (by repeat' (first | exact trivial | refine And.intro rfl ?_))
                    refine SX.seq ?_
                    refine SX.sr ?_
                    refine SL.mv ⟨rfl, rfl, rfl, rfl⟩ rfl ?_
                    refine SL.bin ⟨rfl, rfl, rfl, rfl⟩ rfl rfl Bin.geI ?_
                    refine SL.nx ?_
                    refine SX.cond rfl (fun hc6 => ?_) (fun hc6 => ?_)
                    · skip
                      replace h := cT hc6 h
                      refine SX.skip ?_
                      refine SQ.thn ?_
                      refine SX.seq ?_
                      refine SX.block ?_
                      refine SX.seq ?_
                      refine SX.seq ?_
                      obtain ⟨x10, hx10, h⟩ := bnd h
                      obtain ⟨x11, hx11, h⟩ := bnd h
                      obtain ⟨y3, hy3, h⟩ := bnd h
                      refine SX.drawI mix [0] (Pl.ap [(true, 0), (true, 1), (true, 2), (true, 3), (true, 4), (true, 5), (true, 6), (true, 7), (true, 8)] (.last 9 (Pl.of [(false, 10)]))) (by kernel_rfl) ?_
                      refine SL.mv ⟨rfl, rfl, rfl, rfl⟩ rfl ?_
                      refine SL.mv ⟨rfl, rfl, rfl, rfl⟩ rfl ?_
                      refine SL.iaT 0 hx10 ⟨rfl, rfl, rfl, rfl⟩ ty90 sz32 rfl rfl rfl fun g7 m10 cp7 hv7 => ?_
                      refine SL.ld ⟨rfl, rfl, rfl, rfl⟩ sc32 rfl (cell_rowT (sz := 1) (enc := eU32) 0 0 (fun _ => rfl) rfl hv7 hx10 rfl) ?_
                      refine SL.mv ⟨rfl, rfl, rfl, rfl⟩ rfl ?_
                      refine SL.mv ⟨rfl, rfl, rfl, rfl⟩ rfl ?_
                      refine SL.bin ⟨rfl, rfl, rfl, rfl⟩ rfl rfl Bin.subW ?_
                      refine SL.iaT 0 hx11 ⟨rfl, rfl, rfl, rfl⟩ ty90 sz32 rfl rfl rfl fun g8 m11 cp8 hv8 => ?_
                      refine SL.ld ⟨rfl, rfl, rfl, rfl⟩ sc32 rfl (cell_rowT (sz := 1) (enc := eU32) 0 0 (fun _ => rfl) rfl hv8 hx11 rfl) ?_
                      refine SL.last ?_
                      refine SL.call (vs := [_, _]) (Hin := []) (Hr := _ :: _) ⟨rfl, rfl, rfl, rfl⟩ rfl ⟨rfl, rfl, trivial⟩ cal66 rfl rfl (c_cmp_Less_uint32 hy3) ?_
                      rintro _ _ ⟨rfl, rfl⟩
                      refine ⟨trivial, ?_⟩
                      refine SL.not ⟨rfl, rfl, rfl, rfl⟩ rfl ?_
                      refine SL.nx ?_
                      refine SX.cond rfl (fun hc7 => ?_) (fun hc7 => ?_)
                      · skip
                        replace h := cT hc7 h
                        refine SX.exit ?_
                        refine SQ.thnE ?_
                        refine SQ.blkO ?_
                        refine SQ.thnE ?_
                        refine SQ.lpE ?_
                        refine SQ.blkE ?_
                        exact SQ.midD l7 h (by repeat' (first | exact trivial | refine And.intro rfl ?_)) (fun _ hw => HpOk.pick (H := [_]) hw [0] 1 rfl)
                      · skip
                        replace h := cF hc7 h
                        refine SX.skip ?_
                        refine SQ.thn ?_
                        obtain ⟨x12, hx12, h⟩ := bnd h
                        obtain ⟨x13, hx13, h⟩ := bnd h
                        obtain ⟨x14, hx14, h⟩ := bnd h
                        obtain ⟨l8, hl8, h⟩ := bnd h
                        obtain ⟨x15, hx15, h⟩ := bnd h
                        obtain ⟨l9, hl9, h⟩ := bnd h
                        refine SX.drawI mix [] (Pl.ap [(true, 0), (true, 1), (true, 2), (true, 3), (true, 4), (true, 5), (true, 6), (true, 7), (true, 8), (true, 10), (true, 11), (true, 12)] (.alt 9 (Pl.ap [(false, 13), (true, 14), (false, 15), (true, 16)] (.last 17 .nil)) (.cons (false, 13) (Pl.ap [(false, 9), (true, 14), (false, 15), (true, 16)] (.last 17 .nil))))) (by kernel_rfl) ?_
                        refine SL.mv ⟨rfl, rfl, rfl, rfl⟩ rfl ?_
                        refine SL.mv ⟨rfl, rfl, rfl, rfl⟩ rfl ?_
                        refine SL.mv ⟨rfl, rfl, rfl, rfl⟩ rfl ?_
                        refine SL.mv ⟨rfl, rfl, rfl, rfl⟩ rfl ?_
                        refine SL.bin ⟨rfl, rfl, rfl, rfl⟩ rfl rfl Bin.subW ?_
                        refine SL.mv ⟨rfl, rfl, rfl, rfl⟩ rfl ?_
                        refine SL.mv ⟨rfl, rfl, rfl, rfl⟩ rfl ?_
                        refine SL.bin ⟨rfl, rfl, rfl, rfl⟩ rfl rfl Bin.subW ?_
                        refine SL.iaT 0 hx12 ⟨rfl, rfl, rfl, rfl⟩ ty90 sz32 rfl rfl rfl fun g9 m12 cp9 hv9 => ?_
                        refine SL.mv ⟨rfl, rfl, rfl, rfl⟩ rfl ?_
                        refine SL.mv ⟨rfl, rfl, rfl, rfl⟩ rfl ?_
                        refine SL.iaT 0 hx13 ⟨rfl, rfl, rfl, rfl⟩ ty90 sz32 rfl rfl rfl fun g10 m13 cp10 hv10 => ?_
                        refine SL.two ?_ ?_
                        · skip
                          refine SL.ld ⟨rfl, rfl, rfl, rfl⟩ sc32 rfl (cell_rowT (sz := 1) (enc := eU32) 0 0 (fun _ => rfl) rfl hv9 hx12 rfl) ?_
                          refine SL.ld ⟨rfl, rfl, rfl, rfl⟩ sc32 rfl (cell_rowT (sz := 1) (enc := eU32) 0 0 (fun _ => rfl) rfl hv10 hx13 rfl) ?_
                          refine SL.iaT 0 hx14 ⟨rfl, rfl, rfl, rfl⟩ ty90 sz32 rfl rfl rfl fun g11 m14 cp11 hv11 => ?_
                          refine SL.stTN (sz := 1) (enc := eU32) 0 hl8 (fun _ => rfl) ⟨rfl, rfl, rfl⟩ rfl rfl rfl rfl hv11 sz32 (by simp [Value.oneCell']) trivial ?_
                          refine SL.iaT 0 hx15 ⟨rfl, rfl, rfl, rfl⟩ ty90 sz32 rfl rfl rfl fun g12 m15 cp12 hv12 => ?_
                          refine SL.last ?_
                          refine SL.stTN (sz := 1) (enc := eU32) 0 hl9 (fun _ => rfl) ⟨rfl, rfl, rfl⟩ rfl rfl rfl rfl hv12 sz32 (by simp [Value.oneCell']) trivial ?_
                          refine SL.nil ?_
                          refine SQ.blk ?_
                          refine SQ.thn ?_
                          refine SX.region ?_
                          obtain ⟨x16, ex16, h⟩ := retE h
                          refine SL.mv ⟨rfl, rfl, rfl, rfl⟩ rfl ?_
                          refine SL.bin ⟨rfl, rfl, rfl, rfl⟩ rfl rfl Bin.subW ?_
                          refine SL.asgX (u := vI x16) ⟨rfl, rfl, rfl, rfl⟩ rfl (congrArg vI ex16) ?_
                          refine SL.nil ?_
                          exact SQ.again (m9, l9, x16) h (Nat.lt_succ_self _) (by repeat' (first | exact trivial | refine And.intro rfl ?_)) (fun _ hw => HpOk.pick (H := [_]) hw [0] 1 rfl)
                        · skip
                          refine SL.ld ⟨rfl, rfl, rfl, rfl⟩ sc32 rfl (cell_rowT (sz := 1) (enc := eU32) 0 0 (fun _ => rfl) rfl hv10 hx13 rfl) ?_
                          refine SL.ld ⟨rfl, rfl, rfl, rfl⟩ sc32 rfl (cell_rowT (sz := 1) (enc := eU32) 0 0 (fun _ => rfl) rfl hv9 hx12 rfl) ?_
                          refine SL.iaT 0 hx14 ⟨rfl, rfl, rfl, rfl⟩ ty90 sz32 rfl rfl rfl fun g11 m14 cp11 hv11 => ?_
                          refine SL.stTN (sz := 1) (enc := eU32) 0 hl8 (fun _ => rfl) ⟨rfl, rfl, rfl⟩ rfl rfl rfl rfl hv11 sz32 (by simp [Value.oneCell']) trivial ?_
                          refine SL.iaT 0 hx15 ⟨rfl, rfl, rfl, rfl⟩ ty90 sz32 rfl rfl rfl fun g12 m15 cp12 hv12 => ?_
                          refine SL.last ?_
                          refine SL.stTN (sz := 1) (enc := eU32) 0 hl9 (fun _ => rfl) ⟨rfl, rfl, rfl⟩ rfl rfl rfl rfl hv12 sz32 (by simp [Value.oneCell']) trivial ?_
                          refine SL.nil ?_
                          refine SQ.blk ?_
                          refine SQ.thn ?_
                          refine SX.region ?_
                          obtain ⟨x16, ex16, h⟩ := retE h
                          refine SL.mv ⟨rfl, rfl, rfl, rfl⟩ rfl ?_
                          refine SL.bin ⟨rfl, rfl, rfl, rfl⟩ rfl rfl Bin.subW ?_
                          refine SL.asgX (u := vI x16) ⟨rfl, rfl, rfl, rfl⟩ rfl (congrArg vI ex16) ?_
                          refine SL.nil ?_
                          exact SQ.again (m9, l9, x16) h (Nat.lt_succ_self _) (by repeat' (first | exact trivial | refine And.intro rfl ?_)) (fun _ hw => HpOk.pick (H := [_]) hw [0] 1 rfl)
                    · skip
                      replace h := cF hc6 h
                      refine SX.exit ?_
                      refine SQ.thnE ?_
                      refine SQ.lpE ?_
                      refine SQ.blkE ?_
                      exact SQ.midD l7 h (by repeat' (first | exact trivial | refine And.intro rfl ?_)) (fun _ hw => HpOk.pick (H := [_]) hw [0] 1 rfl)
                  · skip
                    replace h := cF hc5 h
                    refine SX.skip ?_
                    exact SQ.midD l5 h (by repeat' (first | exact trivial | refine And.intro rfl ?_)) (fun _ hw => HpOk.pick (H := [_]) hw [0] 1 rfl)
                · skip
                  unfold f_slices_partialInsertionSortOrdered_uint32_j4 at h
                  refine SX.re [(0, v0_), (1, vI p1), (2, vI p2), (7, vI a4), (8, vI a2)] (rowT 32 1 v0_ eU32 l6 :: H) ?_ (by repeat' (first | exact trivial | refine And.intro rfl ?_))
                  refine SX.sr ?_
                  refine SL.mv ⟨rfl, rfl, rfl, rfl⟩ rfl ?_
                  refine SL.mv ⟨rfl, rfl, rfl, rfl⟩ rfl ?_
                  refine SL.bin ⟨rfl, rfl, rfl, rfl⟩ rfl rfl Bin.subW ?_
                  refine SL.bin ⟨rfl, rfl, rfl, rfl⟩ rfl rfl Bin.geI ?_
                  refine SL.nx ?_
                  refine SX.cond rfl (fun hc8 => ?_) (fun hc8 => ?_)
                  · skip
                    replace h := cT hc8 h
                    refine SX.sr ?_
                    obtain ⟨x17, ex17, h⟩ := retE h
                    refine SL.mv ⟨rfl, rfl, rfl, rfl⟩ rfl ?_
                    refine SL.bin ⟨rfl, rfl, rfl, rfl⟩ rfl rfl Bin.addW ?_
                    refine SL.asgX (u := vI x17) ⟨rfl, rfl, rfl, rfl⟩ rfl (congrArg vI ex17) ?_
                    refine SL.nx ?_
                    refine SX.block ?_
                    refine SX.heap (SX.mono (SX.loop (α := Nat × List UInt32 × Int) (fun x => f_slices_partialInsertionSortOrdered_uint32_l4 p2 a2 a4 (f_slices_partialInsertionSortOrdered_uint32_l1 n p1 p2 m1) x.1 (x.2.1, x.2.2) = some r) (fun x => [(0, v0_), (1, vI p1), (2, vI p2), (7, vI a4), (8, vI a2), (10, vI x.2.2)]) (fun x => rowT 32 1 v0_ eU32 x.2.1 :: H) (fun x => x.1) (fun x D h => ?_) (n, l6, x17) h) (by repeat' (first | exact trivial | refine And.intro rfl ?_))) (fun _ hw => HpOk.pick (H := [_]) hw [0] 1 rfl)
                    obtain ⟨m16, l10, a7⟩ := x
                    dsimp only at h
                    rcases m16 with _ | m16
                    · cases (show (none : Option _) = some r from h)
                    replace h : f_slices_partialInsertionSortOrdered_uint32_l4_b p2 a2 a4 (f_slices_partialInsertionSortOrdered_uint32_l1 n p1 p2 m1) (f_slices_partialInsertionSortOrdered_uint32_l4 p2 a2 a4 (f_slices_partialInsertionSortOrdered_uint32_l1 n p1 p2 m1) m16) l10 a7 = some r := h
                    unfold f_slices_partialInsertionSortOrdered_uint32_l4_b at h
                    refine SX.re [(0, v0_), (1, vI p1), (2, vI p2), (7, vI a4), (8, vI a2), (10, vI a7)] (rowT 32 1 v0_ eU32 l10 :: H) ?_ (by repeat' (first | exact trivial | refine And.intro rfl ?_))
                    refine SX.seq ?_
                    refine SX.sr ?_
                    refine SL.mv ⟨rfl, rfl, rfl, rfl⟩ rfl ?_
                    refine SL.mv ⟨rfl, rfl, rfl, rfl⟩ rfl ?_
                    refine SL.bin ⟨rfl, rfl, rfl, rfl⟩ rfl rfl Bin.ltI ?_
                    refine SL.nx ?_
                    refine SX.cond rfl (fun hc9 => ?_) (fun hc9 => ?_)
                    · skip
                      replace h := cT hc9 h
                      refine SX.skip ?_
                      refine SQ.thn ?_
                      refine SX.seq ?_
                      refine SX.block ?_
                      refine SX.seq ?_
                      refine SX.seq ?_
                      obtain ⟨x18, hx18, h⟩ := bnd h
                      obtain ⟨x19, hx19, h⟩ := bnd h
                      obtain ⟨y4, hy4, h⟩ := bnd h
                      refine SX.drawI mix [0] (Pl.ap [(true, 0), (true, 1), (true, 2), (true, 3), (true, 4), (true, 5), (true, 6), (true, 7), (true, 8)] (.last 9 (Pl.of [(false, 10)]))) (by kernel_rfl) ?_
                      refine SL.mv ⟨rfl, rfl, rfl, rfl⟩ rfl ?_
                      refine SL.mv ⟨rfl, rfl, rfl, rfl⟩ rfl ?_
                      refine SL.iaT 0 hx18 ⟨rfl, rfl, rfl, rfl⟩ ty90 sz32 rfl rfl rfl fun g13 m17 cp13 hv13 => ?_
                      refine SL.ld ⟨rfl, rfl, rfl, rfl⟩ sc32 rfl (cell_rowT (sz := 1) (enc := eU32) 0 0 (fun _ => rfl) rfl hv13 hx18 rfl) ?_
                      refine SL.mv ⟨rfl, rfl, rfl, rfl⟩ rfl ?_
                      refine SL.mv ⟨rfl, rfl, rfl, rfl⟩ rfl ?_
                      refine SL.bin ⟨rfl, rfl, rfl, rfl⟩ rfl rfl Bin.subW ?_
                      refine SL.iaT 0 hx19 ⟨rfl, rfl, rfl, rfl⟩ ty90 sz32 rfl rfl rfl fun g14 m18 cp14 hv14 => ?_
                      refine SL.ld ⟨rfl, rfl, rfl, rfl⟩ sc32 rfl (cell_rowT (sz := 1) (enc := eU32) 0 0 (fun _ => rfl) rfl hv14 hx19 rfl) ?_
                      refine SL.last ?_
                      refine SL.call (vs := [_, _]) (Hin := []) (Hr := _ :: _) ⟨rfl, rfl, rfl, rfl⟩ rfl ⟨rfl, rfl, trivial⟩ cal66 rfl rfl (c_cmp_Less_uint32 hy4) ?_
                      rintro _ _ ⟨rfl, rfl⟩
                      refine ⟨trivial, ?_⟩
                      refine SL.not ⟨rfl, rfl, rfl, rfl⟩ rfl ?_
                      refine SL.nx ?_
                      refine SX.cond rfl (fun hc10 => ?_) (fun hc10 => ?_)
                      · skip
                        replace h := cT hc10 h
                        refine SX.exit ?_
                        refine SQ.thnE ?_
                        refine SQ.blkO ?_
                        refine SQ.thnE ?_
                        refine SQ.lpE ?_
                        refine SQ.blkE ?_
                        refine SQ.blk ?_
                        exact SQ.midD (l10, a4) h (by repeat' (first | exact trivial | refine And.intro rfl ?_)) (fun _ hw => HpOk.pick (H := [_]) hw [0] 1 rfl)
                      · skip
                        replace h := cF hc10 h
                        refine SX.skip ?_
                        refine SQ.thn ?_
                        obtain ⟨x20, hx20, h⟩ := bnd h
                        obtain ⟨x21, hx21, h⟩ := bnd h
                        obtain ⟨x22, hx22, h⟩ := bnd h
                        obtain ⟨l11, hl11, h⟩ := bnd h
                        obtain ⟨x23, hx23, h⟩ := bnd h
                        obtain ⟨l12, hl12, h⟩ := bnd h
                        refine SX.drawI mix [] (Pl.ap [(true, 0), (true, 1), (true, 2), (true, 3), (true, 4), (true, 5), (true, 6), (true, 7), (true, 8), (true, 10), (true, 11), (true, 12)] (.alt 9 (Pl.ap [(false, 13), (true, 14), (false, 15), (true, 16)] (.last 17 .nil)) (.cons (false, 13) (Pl.ap [(false, 9), (true, 14), (false, 15), (true, 16)] (.last 17 .nil))))) (by kernel_rfl) ?_
                        refine SL.mv ⟨rfl, rfl, rfl, rfl⟩ rfl ?_
                        refine SL.mv ⟨rfl, rfl, rfl, rfl⟩ rfl ?_
                        refine SL.mv ⟨rfl, rfl, rfl, rfl⟩ rfl ?_
                        refine SL.mv ⟨rfl, rfl, rfl, rfl⟩ rfl ?_
                        refine SL.bin ⟨rfl, rfl, rfl, rfl⟩ rfl rfl Bin.subW ?_
                        refine SL.mv ⟨rfl, rfl, rfl, rfl⟩ rfl ?_
                        refine SL.mv ⟨rfl, rfl, rfl, rfl⟩ rfl ?_
                        refine SL.bin ⟨rfl, rfl, rfl, rfl⟩ rfl rfl Bin.subW ?_
                        refine SL.iaT 0 hx20 ⟨rfl, rfl, rfl, rfl⟩ ty90 sz32 rfl rfl rfl fun g15 m19 cp15 hv15 => ?_
                        refine SL.mv ⟨rfl, rfl, rfl, rfl⟩ rfl ?_
                        refine SL.mv ⟨rfl, rfl, rfl, rfl⟩ rfl ?_
                        refine SL.iaT 0 hx21 ⟨rfl, rfl, rfl, rfl⟩ ty90 sz32 rfl rfl rfl fun g16 m20 cp16 hv16 => ?_
                        refine SL.two ?_ ?_
                        · skip
                          refine SL.ld ⟨rfl, rfl, rfl, rfl⟩ sc32 rfl (cell_rowT (sz := 1) (enc := eU32) 0 0 (fun _ => rfl) rfl hv15 hx20 rfl) ?_
                          refine SL.ld ⟨rfl, rfl, rfl, rfl⟩ sc32 rfl (cell_rowT (sz := 1) (enc := eU32) 0 0 (fun _ => rfl) rfl hv16 hx21 rfl) ?_
                          refine SL.iaT 0 hx22 ⟨rfl, rfl, rfl, rfl⟩ ty90 sz32 rfl rfl rfl fun g17 m21 cp17 hv17 => ?_
                          refine SL.stTN (sz := 1) (enc := eU32) 0 hl11 (fun _ => rfl) ⟨rfl, rfl, rfl⟩ rfl rfl rfl rfl hv17 sz32 (by simp [Value.oneCell']) trivial ?_
                          refine SL.iaT 0 hx23 ⟨rfl, rfl, rfl, rfl⟩ ty90 sz32 rfl rfl rfl fun g18 m22 cp18 hv18 => ?_
                          refine SL.last ?_
                          refine SL.stTN (sz := 1) (enc := eU32) 0 hl12 (fun _ => rfl) ⟨rfl, rfl, rfl⟩ rfl rfl rfl rfl hv18 sz32 (by simp [Value.oneCell']) trivial ?_
                          refine SL.nil ?_
                          refine SQ.blk ?_
                          refine SQ.thn ?_
                          refine SX.region ?_
                          obtain ⟨x24, ex24, h⟩ := retE h
                          refine SL.mv ⟨rfl, rfl, rfl, rfl⟩ rfl ?_
                          refine SL.bin ⟨rfl, rfl, rfl, rfl⟩ rfl rfl Bin.addW ?_
                          refine SL.asgX (u := vI x24) ⟨rfl, rfl, rfl, rfl⟩ rfl (congrArg vI ex24) ?_
                          refine SL.nil ?_
                          exact SQ.again (m16, l12, x24) h (Nat.lt_succ_self _) (by repeat' (first | exact trivial | refine And.intro rfl ?_)) (fun _ hw => HpOk.pick (H := [_]) hw [0] 1 rfl)
                        · skip
                          refine SL.ld ⟨rfl, rfl, rfl, rfl⟩ sc32 rfl (cell_rowT (sz := 1) (enc := eU32) 0 0 (fun _ => rfl) rfl hv16 hx21 rfl) ?_
                          refine SL.ld ⟨rfl, rfl, rfl, rfl⟩ sc32 rfl (cell_rowT (sz := 1) (enc := eU32) 0 0 (fun _ => rfl) rfl hv15 hx20 rfl) ?_
                          refine SL.iaT 0 hx22 ⟨rfl, rfl, rfl, rfl⟩ ty90 sz32 rfl rfl rfl fun g17 m21 cp17 hv17 => ?_
                          refine SL.stTN (sz := 1) (enc := eU32) 0 hl11 (fun _ => rfl) ⟨rfl, rfl, rfl⟩ rfl rfl rfl rfl hv17 sz32 (by simp [Value.oneCell']) trivial ?_
                          refine SL.iaT 0 hx23 ⟨rfl, rfl, rfl, rfl⟩ ty90 sz32 rfl rfl rfl fun g18 m22 cp18 hv18 => ?_
                          refine SL.last ?_
                          refine SL.stTN (sz := 1) (enc := eU32) 0 hl12 (fun _ => rfl) ⟨rfl, rfl, rfl⟩ rfl rfl rfl rfl hv18 sz32 (by simp [Value.oneCell']) trivial ?_
                          refine SL.nil ?_
                          refine SQ.blk ?_
                          refine SQ.thn ?_
                          refine SX.region ?_
                          obtain ⟨x24, ex24, h⟩ := retE h
                          refine SL.mv ⟨rfl, rfl, rfl, rfl⟩ rfl ?_
                          refine SL.bin ⟨rfl, rfl, rfl, rfl⟩ rfl rfl Bin.addW ?_
                          refine SL.asgX (u := vI x24) ⟨rfl, rfl, rfl, rfl⟩ rfl (congrArg vI ex24) ?_
                          refine SL.nil ?_
                          exact SQ.again (m16, l12, x24) h (Nat.lt_succ_self _) (by repeat' (first | exact trivial | refine And.intro rfl ?_)) (fun _ hw => HpOk.pick (H := [_]) hw [0] 1 rfl)
                    · skip
                      replace h := cF hc9 h
                      refine SX.exit ?_
                      refine SQ.thnE ?_
                      refine SQ.lpE ?_
                      refine SQ.blkE ?_
                      refine SQ.blk ?_
                      exact SQ.midD (l10, a4) h (by repeat' (first | exact trivial | refine And.intro rfl ?_)) (fun _ hw => HpOk.pick (H := [_]) hw [0] 1 rfl)
                  · skip
                    replace h := cF hc8 h
                    refine SX.skip ?_
                    refine SQ.blk ?_
                    exact SQ.midD (l6, a4) h (by repeat' (first | exact trivial | refine And.intro rfl ?_)) (fun _ hw => HpOk.pick (H := [_]) hw [0] 1 rfl)
      · skip
        obtain ⟨l3, a3⟩ := x
        dsimp only at h
        unfold f_slices_partialInsertionSortOrdered_uint32_j2 at h
        refine SX.re [(0, v0_), (1, vI p1), (2, vI p2), (7, vI a3), (8, vI a2)] (rowT 32 1 v0_ eU32 l3 :: H) ?_ (by repeat' (first | exact trivial | refine And.intro rfl ?_))
        refine SX.region ?_
        obtain ⟨x25, ex25, h⟩ := retE h
        refine SL.mv ⟨rfl, rfl, rfl, rfl⟩ rfl ?_
        refine SL.bin ⟨rfl, rfl, rfl, rfl⟩ rfl rfl Bin.addW ?_
        refine SL.asgX (u := vI x25) ⟨rfl, rfl, rfl, rfl⟩ rfl (congrArg vI ex25) ?_
        refine SL.nil ?_
        exact SQ.again (m1, l3, a3, x25) h (Nat.lt_succ_self _) (by repeat' (first | exact trivial | refine And.intro rfl ?_)) (fun _ hw => HpOk.pick (H := [_]) hw [0] 1 rfl)
    · skip
      replace h := cF hc1 h
      refine SX.exit ?_
      refine SQ.thnE ?_
      refine SQ.lpE ?_
      refine SQ.blkE ?_
      exact SQ.midD l2 h (by repeat' (first | exact trivial | refine And.intro rfl ?_)) (fun _ hw => HpOk.pick (H := [_]) hw [0] 1 rfl)
  · skip
    unfold f_slices_partialInsertionSortOrdered_uint32_j1 at h
    refine SX.re [(0, v0_)] (rowT 32 1 v0_ eU32 l1 :: H) ?_ (by repeat' (first | exact trivial | refine And.intro rfl ?_))
    refine SX.sr ?_
    refine SL.asg ⟨rfl, rfl, rfl, rfl⟩ rfl ?_
    refine SL.nx ?_
    refine SX.ret ?_
    obtain rfl := Option.some.inj h
    exact SQ.fret (res1 rfl rfl) (ret_of (M := [_]) ⟨rfl, rfl⟩ fun _ hw => HpOk.pick (H := [_]) hw [0] 1 rfl)

def f_slices_partitionEqualOrdered_uint32_j1 (l3 : List UInt32) (a1 : Int) : Option (Int × List UInt32) :=
  some (a1, l3)
def f_slices_partitionEqualOrdered_uint32_j3 (l4 : List UInt32) (a4 : Int) (nx_f_slices_partitionEqualOrdered_uint32_l1 : List UInt32 × Int × Int → Option (Int × List UInt32)) (a6 : Int) : Option (Int × List UInt32) :=
  cond (decide (a6 < a4))
  (
    f_slices_partitionEqualOrdered_uint32_j1 l4 a4)
  (
    (nthI l4 a6).bind fun x13 =>
    (nthI l4 a4).bind fun x14 =>
    (nthI l4 a4).bind fun x15 =>
    (setI l4 a4 x13).bind fun l5 =>
    (nthI l5 a6).bind fun x16 =>
    (setI l5 a6 x14).bind fun l6 =>
    ret (wI (a4 + 1)) fun x17 =>
    ret (wI (a6 - 1)) fun x18 =>
    nx_f_slices_partitionEqualOrdered_uint32_l1 (l6, x17, x18))
def f_slices_partitionEqualOrdered_uint32_l3_b (p1 : Int) (l4 : List UInt32) (a4 : Int) (nx_f_slices_partitionEqualOrdered_uint32_l1 : List UInt32 × Int × Int → Option (Int × List UInt32)) (nx_f_slices_partitionEqualOrdered_uint32_l3 : Int → Option (Int × List UInt32)) (a7 : Int) : Option (Int × List UInt32) :=
  (andO (decide (a4 ≤ a7)) ((nthI l4 p1).bind fun x10 => (nthI l4 a7).bind fun x11 => (f_cmp_Less_uint32 x10 x11).bind fun y3 => some (y3))).bind fun y4 =>
  cond y4
  (
    ret (wI (a7 - 1)) fun x12 =>
    nx_f_slices_partitionEqualOrdered_uint32_l3 x12)
  (
    f_slices_partitionEqualOrdered_uint32_j3 l4 a4 nx_f_slices_partitionEqualOrdered_uint32_l1 a7)
def f_slices_partitionEqualOrdered_uint32_l3 (p1 : Int) (l4 : List UInt32) (a4 : Int) (nx_f_slices_partitionEqualOrdered_uint32_l1 : List UInt32 × Int × Int → Option (Int × List UInt32)) : Nat → Int → Option (Int × List UInt32) := loopN fun nx x => f_slices_partitionEqualOrdered_uint32_l3_b p1 l4 a4 nx_f_slices_partitionEqualOrdered_uint32_l1 nx x
def f_slices_partitionEqualOrdered_uint32_j2 (n : Nat) (p1 : Int) (l4 : List UInt32) (a3 : Int) (nx_f_slices_partitionEqualOrdered_uint32_l1 : List UInt32 × Int × Int → Option (Int × List UInt32)) (a4 : Int) : Option (Int × List UInt32) :=
  f_slices_partitionEqualOrdered_uint32_l3 p1 l4 a4 nx_f_slices_partitionEqualOrdered_uint32_l1 n a3
def f_slices_partitionEqualOrdered_uint32_l2_b (n : Nat) (p1 : Int) (l4 : List UInt32) (a3 : Int) (nx_f_slices_partitionEqualOrdered_uint32_l1 : List UInt32 × Int × Int → Option (Int × List UInt32)) (nx_f_slices_partitionEqualOrdered_uint32_l2 : Int → Option (Int × List UInt32)) (a5 : Int) : Option (Int × List UInt32) :=
  (andO (decide (a5 ≤ a3)) ((nthI l4 p1).bind fun x7 => (nthI l4 a5).bind fun x8 => (f_cmp_Less_uint32 x7 x8).bind fun y1 => some (!y1))).bind fun y2 =>
  cond y2
  (
    ret (wI (a5 + 1)) fun x9 =>
    nx_f_slices_partitionEqualOrdered_uint32_l2 x9)
  (
    f_slices_partitionEqualOrdered_uint32_j2 n p1 l4 a3 nx_f_slices_partitionEqualOrdered_uint32_l1 a5)
def f_slices_partitionEqualOrdered_uint32_l2 (n : Nat) (p1 : Int) (l4 : List UInt32) (a3 : Int) (nx_f_slices_partitionEqualOrdered_uint32_l1 : List UInt32 × Int × Int → Option (Int × List UInt32)) : Nat → Int → Option (Int × List UInt32) := loopN fun nx x => f_slices_partitionEqualOrdered_uint32_l2_b n p1 l4 a3 nx_f_slices_partitionEqualOrdered_uint32_l1 nx x
def f_slices_partitionEqualOrdered_uint32_l1_b (n : Nat) (p1 : Int) (nx_f_slices_partitionEqualOrdered_uint32_l1 : List UInt32 × Int × Int → Option (Int × List UInt32)) (l4 : List UInt32) (a2 : Int) (a3 : Int) : Option (Int × List UInt32) :=
  f_slices_partitionEqualOrdered_uint32_l2 n p1 l4 a3 nx_f_slices_partitionEqualOrdered_uint32_l1 n a2
def f_slices_partitionEqualOrdered_uint32_l1 (n : Nat) (p1 : Int) : Nat → (List UInt32 × Int × Int) → Option (Int × List UInt32) := loopN fun nx x => f_slices_partitionEqualOrdered_uint32_l1_b n p1 nx x.1 x.2.1 x.2.2
def f_slices_partitionEqualOrdered_uint32 (n : Nat) (p0 : List UInt32) (p1 : Int) (p2 : Int) (p3 : Int) : Option (Int × List UInt32) :=
  (nthI p0 p3).bind fun x1 =>
  (nthI p0 p1).bind fun x2 =>
  (nthI p0 p1).bind fun x3 =>
  (setI p0 p1 x1).bind fun l1 =>
  (nthI l1 p3).bind fun x4 =>
  (setI l1 p3 x2).bind fun l2 =>
  ret (wI (p1 + 1)) fun x5 =>
  ret (wI (p2 - 1)) fun x6 =>
  f_slices_partitionEqualOrdered_uint32_l1 n p1 n (l2, x5, x6)
set_option maxRecDepth 100000 in
theorem c_slices_partitionEqualOrdered_uint32 {n : Nat} {v0_ : Value} {p0 : List UInt32} {p1 : Int} {p2 : Int} {p3 : Int} {r : Int × List UInt32} (h : f_slices_partitionEqualOrdered_uint32 n p0 p1 p2 p3 = some r)  : Con Try.prog K w0 67 [v0_, vI p1, vI p2, vI p3] [rowT 32 1 v0_ eU32 p0] H (fun u M => u = vI r.1 ∧ M = [rowT 32 1 v0_ eU32 r.2]) := by
  unfold f_slices_partitionEqualOrdered_uint32 at h
  refine Con.enter Try.func67 rfl rfl ?_
  refine SX.sr ?_
  refine SL.asg ⟨rfl, rfl, rfl, rfl⟩ rfl ?_
  refine SL.nx ?_
  refine SX.seq ?_
  obtain ⟨x1, hx1, h⟩ := bnd h
  obtain ⟨x2, hx2, h⟩ := bnd h
  obtain ⟨x3, hx3, h⟩ := bnd h
  obtain ⟨l1, hl1, h⟩ := bnd h
  obtain ⟨x4, hx4, h⟩ := bnd h
  obtain ⟨l2, hl2, h⟩ := bnd h
  refine SX.drawI mix [] (Pl.ap [(true, 0), (true, 1), (true, 2), (true, 3), (true, 4), (true, 5), (true, 6), (true, 8), (true, 9), (true, 10)] (.alt 7 (Pl.ap [(false, 11), (true, 12), (false, 13), (true, 14)] (.last 15 .nil)) (.cons (false, 11) (Pl.ap [(false, 7), (true, 12), (false, 13), (true, 14)] (.last 15 .nil))))) (by kernel_rfl) ?_
  refine SL.mv ⟨rfl, rfl, rfl, rfl⟩ rfl ?_
  refine SL.mv ⟨rfl, rfl, rfl, rfl⟩ rfl ?_
  refine SL.mv ⟨rfl, rfl, rfl, rfl⟩ rfl ?_
  refine SL.mv ⟨rfl, rfl, rfl, rfl⟩ rfl ?_
  refine SL.mv ⟨rfl, rfl, rfl, rfl⟩ rfl ?_
  refine SL.mv ⟨rfl, rfl, rfl, rfl⟩ rfl ?_
  refine SL.iaT 0 hx1 ⟨rfl, rfl, rfl, rfl⟩ ty90 sz32 rfl rfl rfl fun g1 m1 cp1 hv1 => ?_
  refine SL.mv ⟨rfl, rfl, rfl, rfl⟩ rfl ?_
  refine SL.mv ⟨rfl, rfl, rfl, rfl⟩ rfl ?_
  refine SL.iaT 0 hx2 ⟨rfl, rfl, rfl, rfl⟩ ty90 sz32 rfl rfl rfl fun g2 m2 cp2 hv2 => ?_
  refine SL.two ?_ ?_
  · skip
    refine SL.ld ⟨rfl, rfl, rfl, rfl⟩ sc32 rfl (cell_rowT (sz := 1) (enc := eU32) 0 0 (fun _ => rfl) rfl hv1 hx1 rfl) ?_
    refine SL.ld ⟨rfl, rfl, rfl, rfl⟩ sc32 rfl (cell_rowT (sz := 1) (enc := eU32) 0 0 (fun _ => rfl) rfl hv2 hx2 rfl) ?_
    refine SL.iaT 0 hx3 ⟨rfl, rfl, rfl, rfl⟩ ty90 sz32 rfl rfl rfl fun g3 m3 cp3 hv3 => ?_
    refine SL.stTN (sz := 1) (enc := eU32) 0 hl1 (fun _ => rfl) ⟨rfl, rfl, rfl⟩ rfl rfl rfl rfl hv3 sz32 (by simp [Value.oneCell']) trivial ?_
    refine SL.iaT 0 hx4 ⟨rfl, rfl, rfl, rfl⟩ ty90 sz32 rfl rfl rfl fun g4 m4 cp4 hv4 => ?_
    refine SL.last ?_
    refine SL.stTN (sz := 1) (enc := eU32) 0 hl2 (fun _ => rfl) ⟨rfl, rfl, rfl⟩ rfl rfl rfl rfl hv4 sz32 (by simp [Value.oneCell']) trivial ?_
    refine SL.nx ?_
    refine SX.sr ?_
    obtain ⟨x5, ex5, h⟩ := retE h
    obtain ⟨x6, ex6, h⟩ := retE h
    refine SL.mv ⟨rfl, rfl, rfl, rfl⟩ rfl ?_
    refine SL.bin ⟨rfl, rfl, rfl, rfl⟩ rfl rfl Bin.addW ?_
    refine SL.mv ⟨rfl, rfl, rfl, rfl⟩ rfl ?_
    refine SL.bin ⟨rfl, rfl, rfl, rfl⟩ rfl rfl Bin.subW ?_
    refine SL.asgX (u := vI x5) ⟨rfl, rfl, rfl, rfl⟩ rfl (congrArg vI ex5) ?_
    refine SL.asgX (u := vI x6) ⟨rfl, rfl, rfl, rfl⟩ rfl (congrArg vI ex6) ?_
    refine SL.nx ?_
    refine SX.meetD (α := List UInt32 × Int) (fun x => f_slices_partitionEqualOrdered_uint32_j1 x.1 x.2 = some r) (fun x => [(0, v0_), (9, vI x.2)]) (fun x => rowT 32 1 v0_ eU32 x.1 :: H) ?_ (fun x D h => ?_)
    · skip
      refine SX.block ?_
      refine SX.heap (SX.mono (SX.loop (α := Nat × List UInt32 × Int × Int) (fun x => f_slices_partitionEqualOrdered_uint32_l1 n p1 x.1 (x.2.1, x.2.2.1, x.2.2.2) = some r) (fun x => [(0, v0_), (1, vI p1), (9, vI x.2.2.1), (10, vI x.2.2.2)]) (fun x => rowT 32 1 v0_ eU32 x.2.1 :: H) (fun x => x.1) (fun x D h => ?_) (n, l2, x5, x6) h) (by repeat' (first | exact trivial | refine And.intro rfl ?_))) (fun _ hw => HpOk.pick (H := [_]) hw [0] 1 rfl)
      obtain ⟨m5, l4, a2, a3⟩ := x
      dsimp only at h
      rcases m5 with _ | m5
      · cases (show (none : Option _) = some r from h)
      replace h : f_slices_partitionEqualOrdered_uint32_l1_b n p1 (f_slices_partitionEqualOrdered_uint32_l1 n p1 m5) l4 a2 a3 = some r := h
      unfold f_slices_partitionEqualOrdered_uint32_l1_b at h
      refine SX.re [(0, v0_), (1, vI p1), (9, vI a2), (10, vI a3)] (rowT 32 1 v0_ eU32 l4 :: H) ?_ (by repeat' (first | exact trivial | refine And.intro rfl ?_))
      refine SX.block ?_
      refine SX.meetD (α := Int) (fun x => f_slices_partitionEqualOrdered_uint32_j2 n p1 l4 a3 (f_slices_partitionEqualOrdered_uint32_l1 n p1 m5) x = some r) (fun x => [(0, v0_), (1, vI p1), (9, vI x), (10, vI a3)]) (fun x => rowT 32 1 v0_ eU32 l4 :: H) ?_ (fun a4 D h => ?_)
      · skip
        refine SX.block ?_
        refine SX.heap (SX.mono (SX.loop (α := Nat × Int) (fun x => f_slices_partitionEqualOrdered_uint32_l2 n p1 l4 a3 (f_slices_partitionEqualOrdered_uint32_l1 n p1 m5) x.1 x.2 = some r) (fun x => [(0, v0_), (1, vI p1), (9, vI x.2), (10, vI a3)]) (fun x => rowT 32 1 v0_ eU32 l4 :: H) (fun x => x.1) (fun x D h => ?_) (n, a2) h) (by repeat' (first | exact trivial | refine And.intro rfl ?_))) (fun _ hw => HpOk.pick (H := [_]) hw [0] 1 rfl)
        obtain ⟨m6, a5⟩ := x
        dsimp only at h
        rcases m6 with _ | m6
        · cases (show (none : Option _) = some r from h)
        replace h : f_slices_partitionEqualOrdered_uint32_l2_b n p1 l4 a3 (f_slices_partitionEqualOrdered_uint32_l1 n p1 m5) (f_slices_partitionEqualOrdered_uint32_l2 n p1 l4 a3 (f_slices_partitionEqualOrdered_uint32_l1 n p1 m5) m6) a5 = some r := h
        unfold f_slices_partitionEqualOrdered_uint32_l2_b at h
        refine SX.re [(0, v0_), (1, vI p1), (9, vI a5), (10, vI a3)] (rowT 32 1 v0_ eU32 l4 :: H) ?_ (by repeat' (first | exact trivial | refine And.intro rfl ?_))
        refine SX.seq ?_
        refine SX.seq ?_
        obtain ⟨y2, hy2, h⟩ := bnd h
        refine SX.drawI mix [0] (Pl.of [(true, 0), (true, 1), (true, 2), (true, 3), (true, 4), (true, 5), (true, 6), (true, 7), (true, 8), (true, 9), (true, 10), (true, 11), (false, 12), (false, 13), (false, 14)]) (by kernel_rfl) ?_
        refine SL.mv ⟨rfl, rfl, rfl, rfl⟩ rfl ?_
        refine SL.mv ⟨rfl, rfl, rfl, rfl⟩ rfl ?_
        refine SL.bin ⟨rfl, rfl, rfl, rfl⟩ rfl rfl Bin.leI ?_
        refine SL.mv ⟨rfl, rfl, rfl, rfl⟩ rfl ?_
        refine SL.andN 32 11 43 hy2 rfl (fun hb hg1 k => ?_) (fun hb k => ?_) ?_
        · skip
          obtain ⟨x7, hx7, hg1⟩ := bnd hg1
          obtain ⟨x8, hx8, hg1⟩ := bnd hg1
          obtain ⟨y1, hy1, hg1⟩ := bnd hg1
          obtain rfl := Option.some.inj hg1
          refine SL.mv ⟨rfl, rfl, rfl, rfl⟩ rfl ?_
          refine SL.mv ⟨rfl, rfl, rfl, rfl⟩ rfl ?_
          refine SL.iaT 0 hx7 ⟨rfl, rfl, rfl, rfl⟩ ty90 sz32 rfl rfl rfl fun g5 m7 cp5 hv5 => ?_
          refine SL.ld ⟨rfl, rfl, rfl, rfl⟩ sc32 rfl (cell_rowT (sz := 1) (enc := eU32) 0 0 (fun _ => rfl) rfl hv5 hx7 rfl) ?_
          refine SL.mv ⟨rfl, rfl, rfl, rfl⟩ rfl ?_
          refine SL.mv ⟨rfl, rfl, rfl, rfl⟩ rfl ?_
          refine SL.iaT 0 hx8 ⟨rfl, rfl, rfl, rfl⟩ ty90 sz32 rfl rfl rfl fun g6 m8 cp6 hv6 => ?_
          refine SL.ld ⟨rfl, rfl, rfl, rfl⟩ sc32 rfl (cell_rowT (sz := 1) (enc := eU32) 0 0 (fun _ => rfl) rfl hv6 hx8 rfl) ?_
          refine SL.call (vs := [_, _]) (Hin := []) (Hr := _ :: _) ⟨rfl, rfl, rfl, rfl⟩ rfl ⟨rfl, rfl, trivial⟩ cal66 rfl rfl (c_cmp_Less_uint32 hy1) ?_
          rintro _ _ ⟨rfl, rfl⟩
          refine ⟨⟨⟨0, rfl⟩, trivial⟩, ?_⟩
          refine SL.not ⟨rfl, rfl, rfl, rfl⟩ rfl ?_
          refine SL.pk ⟨rfl, rfl, rfl, rfl⟩ rfl rfl ?_
          exact k.mono (by repeat' (first | exact trivial | refine And.intro rfl ?_))
        · skip
          refine SL.pass rfl rfl rfl ?_
          refine SL.pass rfl rfl rfl ?_
          refine SL.pass rfl rfl rfl ?_
          refine SL.pass rfl rfl rfl ?_
          refine SL.pass rfl rfl rfl ?_
          refine SL.pass rfl rfl rfl ?_
          refine SL.pass rfl rfl rfl ?_
          refine SL.pass rfl rfl rfl ?_
          refine SL.pass rfl rfl rfl ?_
          refine SL.pass rfl rfl rfl ?_
          refine SL.pk ⟨rfl, rfl, rfl, rfl⟩ rfl rfl ?_
          exact k.mono (by repeat' (first | exact trivial | refine And.intro rfl ?_))
        refine SL.nx ?_
        refine SX.cond rfl (fun hc1 => ?_) (fun hc1 => ?_)
        · skip
          replace h := cT hc1 h
          refine SX.skip ?_
          refine SQ.thn ?_
          refine SX.block ?_
          refine SX.region ?_
          obtain ⟨x9, ex9, h⟩ := retE h
          refine SL.mv ⟨rfl, rfl, rfl, rfl⟩ rfl ?_
          refine SL.bin ⟨rfl, rfl, rfl, rfl⟩ rfl rfl Bin.addW ?_
          refine SL.asgX (u := vI x9) ⟨rfl, rfl, rfl, rfl⟩ rfl (congrArg vI ex9) ?_
          refine SL.nil ?_
          refine SQ.blk ?_
          exact SQ.again (m6, x9) h (Nat.lt_succ_self _) (by repeat' (first | exact trivial | refine And.intro rfl ?_)) (fun _ hw => HpOk.pick (H := [_]) hw [0] 1 rfl)
        · skip
          replace h := cF hc1 h
          refine SX.exit ?_
          refine SQ.thnE ?_
          refine SQ.lpE ?_
          refine SQ.blkE ?_
          exact SQ.midD a5 h (by repeat' (first | exact trivial | refine And.intro rfl ?_)) (fun _ hw => HpOk.pick (H := [_]) hw [0] 1 rfl)
      · skip
        unfold f_slices_partitionEqualOrdered_uint32_j2 at h
        refine SX.re [(0, v0_), (1, vI p1), (9, vI a4), (10, vI a3)] (rowT 32 1 v0_ eU32 l4 :: H) ?_ (by repeat' (first | exact trivial | refine And.intro rfl ?_))
        refine SX.meetD (α := Int) (fun x => f_slices_partitionEqualOrdered_uint32_j3 l4 a4 (f_slices_partitionEqualOrdered_uint32_l1 n p1 m5) x = some r) (fun x => [(0, v0_), (1, vI p1), (9, vI a4), (10, vI x)]) (fun x => rowT 32 1 v0_ eU32 l4 :: H) ?_ (fun a6 D h => ?_)
        · skip
          refine SX.block ?_
          refine SX.heap (SX.mono (SX.loop (α := Nat × Int) (fun x => f_slices_partitionEqualOrdered_uint32_l3 p1 l4 a4 (f_slices_partitionEqualOrdered_uint32_l1 n p1 m5) x.1 x.2 = some r) (fun x => [(0, v0_), (1, vI p1), (9, vI a4), (10, vI x.2)]) (fun x => rowT 32 1 v0_ eU32 l4 :: H) (fun x => x.1) (fun x D h => ?_) (n, a3) h) (by repeat' (first | exact trivial | refine And.intro rfl ?_))) (fun _ hw => HpOk.pick (H := [_]) hw [0] 1 rfl)
          obtain ⟨m9, a7⟩ := x
          dsimp only at h
          rcases m9 with _ | m9
          · cases (show (none : Option _) = some r from h)
          replace h : f_slices_partitionEqualOrdered_uint32_l3_b p1 l4 a4 (f_slices_partitionEqualOrdered_uint32_l1 n p1 m5) (f_slices_partitionEqualOrdered_uint32_l3 p1 l4 a4 (f_slices_partitionEqualOrdered_uint32_l1 n p1 m5) m9) a7 = some r := h
          unfold f_slices_partitionEqualOrdered_uint32_l3_b at h
          refine SX.re [(0, v0_), (1, vI p1), (9, vI a4), (10, vI a7)] (rowT 32 1 v0_ eU32 l4 :: H) ?_ (by repeat' (first | exact trivial | refine And.intro rfl ?_))
          refine SX.seq ?_
          refine SX.seq ?_
          obtain ⟨y4, hy4, h⟩ := bnd h
          refine SX.drawI mix [0] (Pl.of [(true, 0), (true, 1), (true, 2), (true, 3), (true, 4), (true, 5), (true, 6), (true, 7), (true, 8), (true, 9), (true, 10), (true, 11), (false, 12), (false, 13)]) (by kernel_rfl) ?_
          refine SL.mv ⟨rfl, rfl, rfl, rfl⟩ rfl ?_
          refine SL.mv ⟨rfl, rfl, rfl, rfl⟩ rfl ?_
          refine SL.bin ⟨rfl, rfl, rfl, rfl⟩ rfl rfl Bin.leI ?_
          refine SL.mv ⟨rfl, rfl, rfl, rfl⟩ rfl ?_
          refine SL.andN 49 10 59 hy4 rfl (fun hb hg2 k => ?_) (fun hb k => ?_) ?_
          · skip
            obtain ⟨x10, hx10, hg2⟩ := bnd hg2
            obtain ⟨x11, hx11, hg2⟩ := bnd hg2
            obtain ⟨y3, hy3, hg2⟩ := bnd hg2
            obtain rfl := Option.some.inj hg2
            refine SL.mv ⟨rfl, rfl, rfl, rfl⟩ rfl ?_
            refine SL.mv ⟨rfl, rfl, rfl, rfl⟩ rfl ?_
            refine SL.iaT 0 hx10 ⟨rfl, rfl, rfl, rfl⟩ ty90 sz32 rfl rfl rfl fun g7 m10 cp7 hv7 => ?_
            refine SL.ld ⟨rfl, rfl, rfl, rfl⟩ sc32 rfl (cell_rowT (sz := 1) (enc := eU32) 0 0 (fun _ => rfl) rfl hv7 hx10 rfl) ?_
            refine SL.mv ⟨rfl, rfl, rfl, rfl⟩ rfl ?_
            refine SL.mv ⟨rfl, rfl, rfl, rfl⟩ rfl ?_
            refine SL.iaT 0 hx11 ⟨rfl, rfl, rfl, rfl⟩ ty90 sz32 rfl rfl rfl fun g8 m11 cp8 hv8 => ?_
            refine SL.ld ⟨rfl, rfl, rfl, rfl⟩ sc32 rfl (cell_rowT (sz := 1) (enc := eU32) 0 0 (fun _ => rfl) rfl hv8 hx11 rfl) ?_
            refine SL.call (vs := [_, _]) (Hin := []) (Hr := _ :: _) ⟨rfl, rfl, rfl, rfl⟩ rfl ⟨rfl, rfl, trivial⟩ cal66 rfl rfl (c_cmp_Less_uint32 hy3) ?_
            rintro _ _ ⟨rfl, rfl⟩
            refine ⟨⟨⟨0, rfl⟩, trivial⟩, ?_⟩
            refine SL.pk ⟨rfl, rfl, rfl, rfl⟩ rfl rfl ?_
            exact k.mono (by repeat' (first | exact trivial | refine And.intro rfl ?_))
          · skip
            refine SL.pass rfl rfl rfl ?_
            refine SL.pass rfl rfl rfl ?_
            refine SL.pass rfl rfl rfl ?_
            refine SL.pass rfl rfl rfl ?_
            refine SL.pass rfl rfl rfl ?_
            refine SL.pass rfl rfl rfl ?_
            refine SL.pass rfl rfl rfl ?_
            refine SL.pass rfl rfl rfl ?_
            refine SL.pass rfl rfl rfl ?_
            refine SL.pk ⟨rfl, rfl, rfl, rfl⟩ rfl rfl ?_
            exact k.mono (by repeat' (first | exact trivial | refine And.intro rfl ?_))
          refine SL.nx ?_
          refine SX.cond rfl (fun hc2 => ?_) (fun hc2 => ?_)
          · skip
            replace h := cT hc2 h
            refine SX.skip ?_
            refine SQ.thn ?_
            refine SX.block ?_
            refine SX.region ?_
            obtain ⟨x12, ex12, h⟩ := retE h
            refine SL.mv ⟨rfl, rfl, rfl, rfl⟩ rfl ?_
            refine SL.bin ⟨rfl, rfl, rfl, rfl⟩ rfl rfl Bin.subW ?_
            refine SL.asgX (u := vI x12) ⟨rfl, rfl, rfl, rfl⟩ rfl (congrArg vI ex12) ?_
            refine SL.nil ?_
            refine SQ.blk ?_
            exact SQ.again (m9, x12) h (Nat.lt_succ_self _) (by repeat' (first | exact trivial | refine And.intro rfl ?_)) (fun _ hw => HpOk.pick (H := [_]) hw [0] 1 rfl)
          · skip
            replace h := cF hc2 h
            refine SX.exit ?_
            refine SQ.thnE ?_
            refine SQ.lpE ?_
            refine SQ.blkE ?_
            exact SQ.midD a7 h (by repeat' (first | exact trivial | refine And.intro rfl ?_)) (fun _ hw => HpOk.pick (H := [_]) hw [0] 1 rfl)
        · skip
          unfold f_slices_partitionEqualOrdered_uint32_j3 at h
          refine SX.re [(0, v0_), (1, vI p1), (9, vI a4), (10, vI a6)] (rowT 32 1 v0_ eU32 l4 :: H) ?_ (by repeat' (first | exact trivial | refine And.intro rfl ?_))
          refine SX.seq ?_
          refine SX.sr ?_
          refine SL.mv ⟨rfl, rfl, rfl, rfl⟩ rfl ?_
          refine SL.mv ⟨rfl, rfl, rfl, rfl⟩ rfl ?_
          refine SL.bin ⟨rfl, rfl, rfl, rfl⟩ rfl rfl Bin.gtI ?_
          refine SL.nx ?_
          refine SX.cond rfl (fun hc3 => ?_) (fun hc3 => ?_)
          · skip
            replace h := cT hc3 h
            refine SX.exit ?_
            refine SQ.thnE ?_
            refine SQ.blkO ?_
            refine SQ.lpE ?_
            refine SQ.blkE ?_
            exact SQ.midD (l4, a4) h (by repeat' (first | exact trivial | refine And.intro rfl ?_)) (fun _ hw => HpOk.pick (H := [_]) hw [0] 1 rfl)
          · skip
            replace h := cF hc3 h
            refine SX.skip ?_
            refine SQ.thn ?_
            refine SX.seq ?_
            obtain ⟨x13, hx13, h⟩ := bnd h
            obtain ⟨x14, hx14, h⟩ := bnd h
            obtain ⟨x15, hx15, h⟩ := bnd h
            obtain ⟨l5, hl5, h⟩ := bnd h
            obtain ⟨x16, hx16, h⟩ := bnd h
            obtain ⟨l6, hl6, h⟩ := bnd h
            refine SX.drawI mix [] (Pl.ap [(true, 0), (true, 1), (true, 2), (true, 3), (true, 4), (true, 5), (true, 6), (true, 8), (true, 9), (true, 10)] (.alt 7 (Pl.ap [(false, 11), (true, 12), (false, 13), (true, 14)] (.last 15 .nil)) (.cons (false, 11) (Pl.ap [(false, 7), (true, 12), (false, 13), (true, 14)] (.last 15 .nil))))) (by kernel_rfl) ?_
            refine SL.mv ⟨rfl, rfl, rfl, rfl⟩ rfl ?_
            refine SL.mv ⟨rfl, rfl, rfl, rfl⟩ rfl ?_
            refine SL.mv ⟨rfl, rfl, rfl, rfl⟩ rfl ?_
            refine SL.mv ⟨rfl, rfl, rfl, rfl⟩ rfl ?_
            refine SL.mv ⟨rfl, rfl, rfl, rfl⟩ rfl ?_
            refine SL.mv ⟨rfl, rfl, rfl, rfl⟩ rfl ?_
            refine SL.iaT 0 hx13 ⟨rfl, rfl, rfl, rfl⟩ ty90 sz32 rfl rfl rfl fun g9 m12 cp9 hv9 => ?_
            refine SL.mv ⟨rfl, rfl, rfl, rfl⟩ rfl ?_
            refine SL.mv ⟨rfl, rfl, rfl, rfl⟩ rfl ?_
            refine SL.iaT 0 hx14 ⟨rfl, rfl, rfl, rfl⟩ ty90 sz32 rfl rfl rfl fun g10 m13 cp10 hv10 => ?_
            refine SL.two ?_ ?_
            · skip
              refine SL.ld ⟨rfl, rfl, rfl, rfl⟩ sc32 rfl (cell_rowT (sz := 1) (enc := eU32) 0 0 (fun _ => rfl) rfl hv9 hx13 rfl) ?_
              refine SL.ld ⟨rfl, rfl, rfl, rfl⟩ sc32 rfl (cell_rowT (sz := 1) (enc := eU32) 0 0 (fun _ => rfl) rfl hv10 hx14 rfl) ?_
              refine SL.iaT 0 hx15 ⟨rfl, rfl, rfl, rfl⟩ ty90 sz32 rfl rfl rfl fun g11 m14 cp11 hv11 => ?_
              refine SL.stTN (sz := 1) (enc := eU32) 0 hl5 (fun _ => rfl) ⟨rfl, rfl, rfl⟩ rfl rfl rfl rfl hv11 sz32 (by simp [Value.oneCell']) trivial ?_
              refine SL.iaT 0 hx16 ⟨rfl, rfl, rfl, rfl⟩ ty90 sz32 rfl rfl rfl fun g12 m15 cp12 hv12 => ?_
              refine SL.last ?_
              refine SL.stTN (sz := 1) (enc := eU32) 0 hl6 (fun _ => rfl) ⟨rfl, rfl, rfl⟩ rfl rfl rfl rfl hv12 sz32 (by simp [Value.oneCell']) trivial ?_
              refine SL.nx ?_
              refine SX.sr ?_
              obtain ⟨x17, ex17, h⟩ := retE h
              refine SL.mv ⟨rfl, rfl, rfl, rfl⟩ rfl ?_
              refine SL.bin ⟨rfl, rfl, rfl, rfl⟩ rfl rfl Bin.addW ?_
              refine SL.asgX (u := vI x17) ⟨rfl, rfl, rfl, rfl⟩ rfl (congrArg vI ex17) ?_
              refine SL.nx ?_
              refine SX.region ?_
              obtain ⟨x18, ex18, h⟩ := retE h
              refine SL.mv ⟨rfl, rfl, rfl, rfl⟩ rfl ?_
              refine SL.bin ⟨rfl, rfl, rfl, rfl⟩ rfl rfl Bin.subW ?_
              refine SL.asgX (u := vI x18) ⟨rfl, rfl, rfl, rfl⟩ rfl (congrArg vI ex18) ?_
              refine SL.nil ?_
              refine SQ.blk ?_
              exact SQ.again (m5, l6, x17, x18) h (Nat.lt_succ_self _) (by repeat' (first | exact trivial | refine And.intro rfl ?_)) (fun _ hw => HpOk.pick (H := [_]) hw [0] 1 rfl)
            · skip
              refine SL.ld ⟨rfl, rfl, rfl, rfl⟩ sc32 rfl (cell_rowT (sz := 1) (enc := eU32) 0 0 (fun _ => rfl) rfl hv10 hx14 rfl) ?_
              refine SL.ld ⟨rfl, rfl, rfl, rfl⟩ sc32 rfl (cell_rowT (sz := 1) (enc := eU32) 0 0 (fun _ => rfl) rfl hv9 hx13 rfl) ?_
              refine SL.iaT 0 hx15 ⟨rfl, rfl, rfl, rfl⟩ ty90 sz32 rfl rfl rfl fun g11 m14 cp11 hv11 => ?_
              refine SL.stTN (sz := 1) (enc := eU32) 0 hl5 (fun _ => rfl) ⟨rfl, rfl, rfl⟩ rfl rfl rfl rfl hv11 sz32 (by simp [Value.oneCell']) trivial ?_
              refine SL.iaT 0 hx16 ⟨rfl, rfl, rfl, rfl⟩ ty90 sz32 rfl rfl rfl fun g12 m15 cp12 hv12 => ?_
              refine SL.last ?_
              refine SL.stTN (sz := 1) (enc := eU32) 0 hl6 (fun _ => rfl) ⟨rfl, rfl, rfl⟩ rfl rfl rfl rfl hv12 sz32 (by simp [Value.oneCell']) trivial ?_
              refine SL.nx ?_
              refine SX.sr ?_
              obtain ⟨x17, ex17, h⟩ := retE h
              refine SL.mv ⟨rfl, rfl, rfl, rfl⟩ rfl ?_
              refine SL.bin ⟨rfl, rfl, rfl, rfl⟩ rfl rfl Bin.addW ?_
              refine SL.asgX (u := vI x17) ⟨rfl, rfl, rfl, rfl⟩ rfl (congrArg vI ex17) ?_
              refine SL.nx ?_
              refine SX.region ?_
              obtain ⟨x18, ex18, h⟩ := retE h
              refine SL.mv ⟨rfl, rfl, rfl, rfl⟩ rfl ?_
              refine SL.bin ⟨rfl, rfl, rfl, rfl⟩ rfl rfl Bin.subW ?_
              refine SL.asgX (u := vI x18) ⟨rfl, rfl, rfl, rfl⟩ rfl (congrArg vI ex18) ?_
              refine SL.nil ?_
              refine SQ.blk ?_
              exact SQ.again (m5, l6, x17, x18) h (Nat.lt_succ_self _) (by repeat' (first | exact trivial | refine And.intro rfl ?_)) (fun _ hw => HpOk.pick (H := [_]) hw [0] 1 rfl)
    · skip
      obtain ⟨l3, a1⟩ := x
      dsimp only at h
      unfold f_slices_partitionEqualOrdered_uint32_j1 at h
      refine SX.re [(0, v0_), (9, vI a1)] (rowT 32 1 v0_ eU32 l3 :: H) ?_ (by repeat' (first | exact trivial | refine And.intro rfl ?_))
      refine SX.sr ?_
      refine SL.mv ⟨rfl, rfl, rfl, rfl⟩ rfl ?_
      refine SL.asg ⟨rfl, rfl, rfl, rfl⟩ rfl ?_
      refine SL.nx ?_
      refine SX.ret ?_
      obtain rfl := Option.some.inj h
      exact SQ.fret (res1 rfl rfl) (ret_of (M := [_]) ⟨rfl, rfl⟩ fun _ hw => HpOk.pick (H := [_]) hw [0] 1 rfl)
  · skip
    refine SL.ld ⟨rfl, rfl, rfl, rfl⟩ sc32 rfl (cell_rowT (sz := 1) (enc := eU32) 0 0 (fun _ => rfl) rfl hv2 hx2 rfl) ?_
    refine SL.ld ⟨rfl, rfl, rfl, rfl⟩ sc32 rfl (cell_rowT (sz := 1) (enc := eU32) 0 0 (fun _ => rfl) rfl hv1 hx1 rfl) ?_
    refine SL.iaT 0 hx3 ⟨rfl, rfl, rfl, rfl⟩ ty90 sz32 rfl rfl rfl fun g3 m3 cp3 hv3 => ?_
    refine SL.stTN (sz := 1) (enc := eU32) 0 hl1 (fun _ => rfl) ⟨rfl, rfl, rfl⟩ rfl rfl rfl rfl hv3 sz32 (by simp [Value.oneCell']) trivial ?_
    refine SL.iaT 0 hx4 ⟨rfl, rfl, rfl, rfl⟩ ty90 sz32 rfl rfl rfl fun g4 m4 cp4 hv4 => ?_
    refine SL.last ?_
    refine SL.stTN (sz := 1) (enc := eU32) 0 hl2 (fun _ => rfl) ⟨rfl, rfl, rfl⟩ rfl rfl rfl rfl hv4 sz32 (by simp [Value.oneCell']) trivial ?_
    refine SL.nx ?_
    refine SX.sr ?_
    obtain ⟨x5, ex5, h⟩ := retE h
    obtain ⟨x6, ex6, h⟩ := retE h
    refine SL.mv ⟨rfl, rfl, rfl, rfl⟩ rfl ?_
    refine SL.bin ⟨rfl, rfl, rfl, rfl⟩ rfl rfl Bin.addW ?_
    refine SL.mv ⟨rfl, rfl, rfl, rfl⟩ rfl ?_
    refine SL.bin ⟨rfl, rfl, rfl, rfl⟩ rfl rfl Bin.subW ?_
    refine SL.asgX (u := vI x5) ⟨rfl, rfl, rfl, rfl⟩ rfl (congrArg vI ex5) ?_
    refine SL.asgX (u := vI x6) ⟨rfl, rfl, rfl, rfl⟩ rfl (congrArg vI ex6) ?_
    refine SL.nx ?_
    refine SX.meetD (α := List UInt32 × Int) (fun x => f_slices_partitionEqualOrdered_uint32_j1 x.1 x.2 = some r) (fun x => [(0, v0_), (9, vI x.2)]) (fun x => rowT 32 1 v0_ eU32 x.1 :: H) ?_ (fun x D h => ?_)
    · skip
      refine SX.block ?_
      refine SX.heap (SX.mono (SX.loop (α := Nat × List UInt32 × Int × Int) (fun x => f_slices_partitionEqualOrdered_uint32_l1 n p1 x.1 (x.2.1, x.2.2.1, x.2.2.2) = some r) (fun x => [(0, v0_), (1, vI p1), (9, vI x.2.2.1), (10, vI x.2.2.2)]) (fun x => rowT 32 1 v0_ eU32 x.2.1 :: H) (fun x => x.1) (fun x D h => ?_) (n, l2, x5, x6) h) (by repeat' (first | exact trivial | refine And.intro rfl ?_))) (fun _ hw => HpOk.pick (H := [_]) hw [0] 1 rfl)
      obtain ⟨m5, l4, a2, a3⟩ := x
      dsimp only at h
      rcases m5 with _ | m5
      · cases (show (none : Option _) = some r from h)
      replace h : f_slices_partitionEqualOrdered_uint32_l1_b n p1 (f_slices_partitionEqualOrdered_uint32_l1 n p1 m5) l4 a2 a3 = some r := h
      unfold f_slices_partitionEqualOrdered_uint32_l1_b at h
      refine SX.re [(0, v0_), (1, vI p1), (9, vI a2), (10, vI a3)] (rowT 32 1 v0_ eU32 l4 :: H) ?_ (by repeat' (first | exact trivial | refine And.intro rfl ?_))
      refine SX.block ?_
      refine SX.meetD (α := Int) (fun x => f_slices_partitionEqualOrdered_uint32_j2 n p1 l4 a3 (f_slices_partitionEqualOrdered_uint32_l1 n p1 m5) x = some r) (fun x => [(0, v0_), (1, vI p1), (9, vI x), (10, vI a3)]) (fun x => rowT 32 1 v0_ eU32 l4 :: H) ?_ (fun a4 D h => ?_)
      · skip
        refine SX.block ?_
        refine SX.heap (SX.mono (SX.loop (α := Nat × Int) (fun x => f_slices_partitionEqualOrdered_uint32_l2 n p1 l4 a3 (f_slices_partitionEqualOrdered_uint32_l1 n p1 m5) x.1 x.2 = some r) (fun x => [(0, v0_), (1, vI p1), (9, vI x.2), (10, vI a3)]) (fun x => rowT 32 1 v0_ eU32 l4 :: H) (fun x => x.1) (fun x D h => ?_) (n, a2) h) (by repeat' (first | exact trivial | refine And.intro rfl ?_))) (fun _ hw => HpOk.pick (H := [_]) hw [0] 1 rfl)
        obtain ⟨m6, a5⟩ := x
        dsimp only at h
        rcases m6 with _ | m6
        · cases (show (none : Option _) = some r from h)
        replace h : f_slices_partitionEqualOrdered_uint32_l2_b n p1 l4 a3 (f_slices_partitionEqualOrdered_uint32_l1 n p1 m5) (f_slices_partitionEqualOrdered_uint32_l2 n p1 l4 a3 (f_slices_partitionEqualOrdered_uint32_l1 n p1 m5) m6) a5 = some r := h
        unfold f_slices_partitionEqualOrdered_uint32_l2_b at h
        refine SX.re [(0, v0_), (1, vI p1), (9, vI a5), (10, vI a3)] (rowT 32 1 v0_ eU32 l4 :: H) ?_ (by repeat' (first | exact trivial | refine And.intro rfl ?_))
        refine SX.seq ?_
        refine SX.seq ?_
        obtain ⟨y2, hy2, h⟩ := bnd h
        refine SX.drawI mix [0] (Pl.of [(true, 0), (true, 1), (true, 2), (true, 3), (true, 4), (true, 5), (true, 6), (true, 7), (true, 8), (true, 9), (true, 10), (true, 11), (false, 12), (false, 13), (false, 14)]) (by kernel_rfl) ?_
        refine SL.mv ⟨rfl, rfl, rfl, rfl⟩ rfl ?_
        refine SL.mv ⟨rfl, rfl, rfl, rfl⟩ rfl ?_
        refine SL.bin ⟨rfl, rfl, rfl, rfl⟩ rfl rfl Bin.leI ?_
        refine SL.mv ⟨rfl, rfl, rfl, rfl⟩ rfl ?_
        refine SL.andN 32 11 43 hy2 rfl (fun hb hg1 k => ?_) (fun hb k => ?_) ?_
        · skip
          obtain ⟨x7, hx7, hg1⟩ := bnd hg1
          obtain ⟨x8, hx8, hg1⟩ := bnd hg1
          obtain ⟨y1, hy1, hg1⟩ := bnd hg1
          obtain rfl := Option.some.inj hg1
          refine SL.mv ⟨rfl, rfl, rfl, rfl⟩ rfl ?_
          refine SL.mv ⟨rfl, rfl, rfl, rfl⟩ rfl ?_
          refine SL.iaT 0 hx7 ⟨rfl, rfl, rfl, rfl⟩ ty90 sz32 rfl rfl rfl fun g5 m7 cp5 hv5 => ?_
          refine SL.ld ⟨rfl, rfl, rfl, rfl⟩ sc32 rfl (cell_rowT (sz := 1) (enc := eU32) 0 0 (fun _ => rfl) rfl hv5 hx7 rfl) ?_
          refine SL.mv ⟨rfl, rfl, rfl, rfl⟩ rfl ?_
          refine SL.mv ⟨rfl, rfl, rfl, rfl⟩ rfl ?_
          refine SL.iaT 0 hx8 ⟨rfl, rfl, rfl, rfl⟩ ty90 sz32 rfl rfl rfl fun g6 m8 cp6 hv6 => ?_
          refine SL.ld ⟨rfl, rfl, rfl, rfl⟩ sc32 rfl (cell_rowT (sz := 1) (enc := eU32) 0 0 (fun _ => rfl) rfl hv6 hx8 rfl) ?_
          refine SL.call (vs := [_, _]) (Hin := []) (Hr := _ :: _) ⟨rfl, rfl, rfl, rfl⟩ rfl ⟨rfl, rfl, trivial⟩ cal66 rfl rfl (c_cmp_Less_uint32 hy1) ?_
          rintro _ _ ⟨rfl, rfl⟩
          refine ⟨⟨⟨0, rfl⟩, trivial⟩, ?_⟩
          refine SL.not ⟨rfl, rfl, rfl, rfl⟩ rfl ?_
          refine SL.pk ⟨rfl, rfl, rfl, rfl⟩ rfl rfl ?_
          exact k.mono (by repeat' (first | exact trivial | refine And.intro rfl ?_))
        · skip
          refine SL.pass rfl rfl rfl ?_
          refine SL.pass rfl rfl rfl ?_
          refine SL.pass rfl rfl rfl ?_
          refine SL.pass rfl rfl rfl ?_
          refine SL.pass rfl rfl rfl ?_
          refine SL.pass rfl rfl rfl ?_
          refine SL.pass rfl rfl rfl ?_
          refine SL.pass rfl rfl rfl ?_
          refine SL.pass rfl rfl rfl ?_
          refine SL.pass rfl rfl rfl ?_
          refine SL.pk ⟨rfl, rfl, rfl, rfl⟩ rfl rfl ?_
          exact k.mono (by repeat' (first | exact trivial | refine And.intro rfl ?_))
        refine SL.nx ?_
        refine SX.cond rfl (fun hc1 => ?_) (fun hc1 => ?_)
        · skip
          replace h := cT hc1 h
          refine SX.skip ?_
          refine SQ.thn ?_
          refine SX.block ?_
          refine SX.region ?_
          obtain ⟨x9, ex9, h⟩ := retE h
          refine SL.mv ⟨rfl, rfl, rfl, rfl⟩ rfl ?_
          refine SL.bin ⟨rfl, rfl, rfl, rfl⟩ rfl rfl Bin.addW ?_
          refine SL.asgX (u := vI x9) ⟨rfl, rfl, rfl, rfl⟩ rfl (congrArg vI ex9) ?_
          refine SL.nil ?_
          refine SQ.blk ?_
          exact SQ.again (m6, x9) h (Nat.lt_succ_self _) (by repeat' (first | exact trivial | refine And.intro rfl ?_)) (fun _ hw => HpOk.pick (H := [_]) hw [0] 1 rfl)
        · skip
          replace h := cF hc1 h
          refine SX.exit ?_
          refine SQ.thnE ?_
          refine SQ.lpE ?_
          refine SQ.blkE ?_
          exact SQ.midD a5 h (by repeat' (first | exact trivial | refine And.intro rfl ?_)) (fun _ hw => HpOk.pick (H := [_]) hw [0] 1 rfl)
      · skip
        unfold f_slices_partitionEqualOrdered_uint32_j2 at h
        refine SX.re [(0, v0_), (1, vI p1), (9, vI a4), (10, vI a3)] (rowT 32 1 v0_ eU32 l4 :: H) ?_ (by repeat' (first | exact trivial | refine And.intro rfl ?_))
        refine SX.meetD (α := Int) (fun x => f_slices_partitionEqualOrdered_uint32_j3 l4 a4 (f_slices_partitionEqualOrdered_uint32_l1 n p1 m5) x = some r) (fun x => [(0, v0_), (1, vI p1), (9, vI a4), (10, vI x)]) (fun x => rowT 32 1 v0_ eU32 l4 :: H) ?_ (fun a6 D h => ?_)
        · skip
          refine SX.block ?_
          refine SX.heap (SX.mono (SX.loop (α := Nat × Int) (fun x => f_slices_partitionEqualOrdered_uint32_l3 p1 l4 a4 (f_slices_partitionEqualOrdered_uint32_l1 n p1 m5) x.1 x.2 = some r) (fun x => [(0, v0_), (1, vI p1), (9, vI a4), (10, vI x.2)]) (fun x => rowT 32 1 v0_ eU32 l4 :: H) (fun x => x.1) (fun x D h => ?_) (n, a3) h) (by repeat' (first | exact trivial | refine And.intro rfl ?_))) (fun _ hw => HpOk.pick (H := [_]) hw [0] 1 rfl)
          obtain ⟨m9, a7⟩ := x
          dsimp only at h
          rcases m9 with _ | m9
          · cases (show (none : Option _) = some r from h)
          replace h : f_slices_partitionEqualOrdered_uint32_l3_b p1 l4 a4 (f_slices_partitionEqualOrdered_uint32_l1 n p1 m5) (f_slices_partitionEqualOrdered_uint32_l3 p1 l4 a4 (f_slices_partitionEqualOrdered_uint32_l1 n p1 m5) m9) a7 = some r := h
          unfold f_slices_partitionEqualOrdered_uint32_l3_b at h
          refine SX.re [(0, v0_), (1, vI p1), (9, vI a4), (10, vI a7)] (rowT 32 1 v0_ eU32 l4 :: H) ?_ (by repeat' (first | exact trivial | refine And.intro rfl ?_))
          refine SX.seq ?_
          refine SX.seq ?_
          obtain ⟨y4, hy4, h⟩ := bnd h
          refine SX.drawI mix [0] (Pl.of [(true, 0), (true, 1), (true, 2), (true, 3), (true, 4), (true, 5), (true, 6), (true, 7), (true, 8), (true, 9), (true, 10), (true, 11), (false, 12), (false, 13)]) (by kernel_rfl) ?_
          refine SL.mv ⟨rfl, rfl, rfl, rfl⟩ rfl ?_
          refine SL.mv ⟨rfl, rfl, rfl, rfl⟩ rfl ?_
          refine SL.bin ⟨rfl, rfl, rfl, rfl⟩ rfl rfl Bin.leI ?_
          refine SL.mv ⟨rfl, rfl, rfl, rfl⟩ rfl ?_
          refine SL.andN 49 10 59 hy4 rfl (fun hb hg2 k => ?_) (fun hb k => ?_) ?_
          · skip
            obtain ⟨x10, hx10, hg2⟩ := bnd hg2
            obtain ⟨x11, hx11, hg2⟩ := bnd hg2
            obtain ⟨y3, hy3, hg2⟩ := bnd hg2
            obtain rfl := Option.some.inj hg2
            refine SL.mv ⟨rfl, rfl, rfl, rfl⟩ rfl ?_
            refine SL.mv ⟨rfl, rfl, rfl, rfl⟩ rfl ?_
            refine SL.iaT 0 hx10 ⟨rfl, rfl, rfl, rfl⟩ ty90 sz32 rfl rfl rfl fun g7 m10 cp7 hv7 => ?_
            refine SL.ld ⟨rfl, rfl, rfl, rfl⟩ sc32 rfl (cell_rowT (sz := 1) (enc := eU32) 0 0 (fun _ => rfl) rfl hv7 hx10 rfl) ?_
            refine SL.mv ⟨rfl, rfl, rfl, rfl⟩ rfl ?_
            refine SL.mv ⟨rfl, rfl, rfl, rfl⟩ rfl ?_
            refine SL.iaT 0 hx11 ⟨rfl, rfl, rfl, rfl⟩ ty90 sz32 rfl rfl rfl fun g8 m11 cp8 hv8 => ?_
            refine SL.ld ⟨rfl, rfl, rfl, rfl⟩ sc32 rfl (cell_rowT (sz := 1) (enc := eU32) 0 0 (fun _ => rfl) rfl hv8 hx11 rfl) ?_
            refine SL.call (vs := [_, _]) (Hin := []) (Hr := _ :: _) ⟨rfl, rfl, rfl, rfl⟩ rfl ⟨rfl, rfl, trivial⟩ cal66 rfl rfl (c_cmp_Less_uint32 hy3) ?_
            rintro _ _ ⟨rfl, rfl⟩
            refine ⟨⟨⟨0, rfl⟩, trivial⟩, ?_⟩
            refine SL.pk ⟨rfl, rfl, rfl, rfl⟩ rfl rfl ?_
            exact k.mono (by repeat' (first | exact trivial | refine And.intro rfl ?_))
          · skip
            refine SL.pass rfl rfl rfl ?_
            refine SL.pass rfl rfl rfl ?_
            refine SL.pass rfl rfl rfl ?_
            refine SL.pass rfl rfl rfl ?_
            refine SL.pass rfl rfl rfl ?_
            refine SL.pass rfl rfl rfl ?_
            refine SL.pass rfl rfl rfl ?_
            refine SL.pass rfl rfl rfl ?_
            refine SL.pass rfl rfl rfl ?_
            refine SL.pk ⟨rfl, rfl, rfl, rfl⟩ rfl rfl ?_
            exact k.mono (by repeat' (first | exact trivial | refine And.intro rfl ?_))
          refine SL.nx ?_
          refine SX.cond rfl (fun hc2 => ?_) (fun hc2 => ?_)
          · skip
            replace h := cT hc2 h
            refine SX.skip ?_
            refine SQ.thn ?_
            refine SX.block ?_
            refine SX.region ?_
            obtain ⟨x12, ex12, h⟩ := retE h
            refine SL.mv ⟨rfl, rfl, rfl, rfl⟩ rfl ?_
            refine SL.bin ⟨rfl, rfl, rfl, rfl⟩ rfl rfl Bin.subW ?_
            refine SL.asgX (u := vI x12) ⟨rfl, rfl, rfl, rfl⟩ rfl (congrArg vI ex12) ?_
            refine SL.nil ?_
            refine SQ.blk ?_
            exact SQ.again (m9, x12) h (Nat.lt_succ_self _) (by repeat' (first | exact trivial | refine And.intro rfl ?_)) (fun _ hw => HpOk.pick (H := [_]) hw [0] 1 rfl)
          · skip
            replace h := cF hc2 h
            refine SX.exit ?_
            refine SQ.thnE ?_
            refine SQ.lpE ?_
            refine SQ.blkE ?_
            exact SQ.midD a7 h (by repeat' (first | exact trivial | refine And.intro rfl ?_)) (fun _ hw => HpOk.pick (H := [_]) hw [0] 1 rfl)
        · skip
          unfold f_slices_partitionEqualOrdered_uint32_j3 at h
          refine SX.re [(0, v0_), (1, vI p1), (9, vI a4), (10, vI a6)] (rowT 32 1 v0_ eU32 l4 :: H) ?_ (by repeat' (first | exact trivial | refine And.intro rfl ?_))
          refine SX.seq ?_
          refine SX.sr ?_
          refine SL.mv ⟨rfl, rfl, rfl, rfl⟩ rfl ?_
          refine SL.mv ⟨rfl, rfl, rfl, rfl⟩ rfl ?_
          refine SL.bin ⟨rfl, rfl, rfl, rfl⟩ rfl rfl Bin.gtI ?_
          refine SL.nx ?_
          refine SX.cond rfl (fun hc3 => ?_) (fun hc3 => ?_)
          · skip
            replace h := cT hc3 h
            refine SX.exit ?_
            refine SQ.thnE ?_
            refine SQ.blkO ?_
            refine SQ.lpE ?_
            refine SQ.blkE ?_
            exact SQ.midD (l4, a4) h (by repeat' (first | exact trivial | refine And.intro rfl ?_)) (fun _ hw => HpOk.pick (H := [_]) hw [0] 1 rfl)
          · skip
            replace h := cF hc3 h
            refine SX.skip ?_
            refine SQ.thn ?_
            refine SX.seq ?_
            obtain ⟨x13, hx13, h⟩ := bnd h
            obtain ⟨x14, hx14, h⟩ := bnd h
            obtain ⟨x15, hx15, h⟩ := bnd h
            obtain ⟨l5, hl5, h⟩ := bnd h
            obtain ⟨x16, hx16, h⟩ := bnd h
            obtain ⟨l6, hl6, h⟩ := bnd h
            refine SX.drawI mix [] (Pl.ap [(true, 0), (true, 1), (true, 2), (true, 3), (true, 4), (true, 5), (true, 6), (true, 8), (true, 9), (true, 10)] (.alt 7 (Pl.ap [(false, 11), (true, 12), (false, 13), (true, 14)] (.last 15 .nil)) (.cons (false, 11) (Pl.ap [(false, 7), (true, 12), (false, 13), (true, 14)] (.last 15 .nil))))) (by kernel_rfl) ?_
            refine SL.mv ⟨rfl, rfl, rfl, rfl⟩ rfl ?_
            refine SL.mv ⟨rfl, rfl, rfl, rfl⟩ rfl ?_
            refine SL.mv ⟨rfl, rfl, rfl, rfl⟩ rfl ?_
            refine SL.mv ⟨rfl, rfl, rfl, rfl⟩ rfl ?_
            refine SL.mv ⟨rfl, rfl, rfl, rfl⟩ rfl ?_
            refine SL.mv ⟨rfl, rfl, rfl, rfl⟩ rfl ?_
            refine SL.iaT 0 hx13 ⟨rfl, rfl, rfl, rfl⟩ ty90 sz32 rfl rfl rfl fun g9 m12 cp9 hv9 => ?_
            refine SL.mv ⟨rfl, rfl, rfl, rfl⟩ rfl ?_
            refine SL.mv ⟨rfl, rfl, rfl, rfl⟩ rfl ?_
            refine SL.iaT 0 hx14 ⟨rfl, rfl, rfl, rfl⟩ ty90 sz32 rfl rfl rfl fun g10 m13 cp10 hv10 => ?_
            refine SL.two ?_ ?_
            · skip
              refine SL.ld ⟨rfl, rfl, rfl, rfl⟩ sc32 rfl (cell_rowT (sz := 1) (enc := eU32) 0 0 (fun _ => rfl) rfl hv9 hx13 rfl) ?_
              refine SL.ld ⟨rfl, rfl, rfl, rfl⟩ sc32 rfl (cell_rowT (sz := 1) (enc := eU32) 0 0 (fun _ => rfl) rfl hv10 hx14 rfl) ?_
              refine SL.iaT 0 hx15 ⟨rfl, rfl, rfl, rfl⟩ ty90 sz32 rfl rfl rfl fun g11 m14 cp11 hv11 => ?_
              refine SL.stTN (sz := 1) (enc := eU32) 0 hl5 (fun _ => rfl) ⟨rfl, rfl, rfl⟩ rfl rfl rfl rfl hv11 sz32 (by simp [Value.oneCell']) trivial ?_
              refine SL.iaT 0 hx16 ⟨rfl, rfl, rfl, rfl⟩ ty90 sz32 rfl rfl rfl fun g12 m15 cp12 hv12 => ?_
              refine SL.last ?_
              refine SL.stTN (sz := 1) (enc := eU32) 0 hl6 (fun _ => rfl) ⟨rfl, rfl, rfl⟩ rfl rfl rfl rfl hv12 sz32 (by simp [Value.oneCell']) trivial ?_
              refine SL.nx ?_
              refine SX.sr ?_
              obtain ⟨x17, ex17, h⟩ := retE h
              refine SL.mv ⟨rfl, rfl, rfl, rfl⟩ rfl ?_
              refine SL.bin ⟨rfl, rfl, rfl, rfl⟩ rfl rfl Bin.addW ?_
              refine SL.asgX (u := vI x17) ⟨rfl, rfl, rfl, rfl⟩ rfl (congrArg vI ex17) ?_
              refine SL.nx ?_
              refine SX.region ?_
              obtain ⟨x18, ex18, h⟩ := retE h
              refine SL.mv ⟨rfl, rfl, rfl, rfl⟩ rfl ?_
              refine SL.bin ⟨rfl, rfl, rfl, rfl⟩ rfl rfl Bin.subW ?_
              refine SL.asgX (u := vI x18) ⟨rfl, rfl, rfl, rfl⟩ rfl (congrArg vI ex18) ?_
              refine SL.nil ?_
              refine SQ.blk ?_
              exact SQ.again (m5, l6, x17, x18) h (Nat.lt_succ_self _) (by repeat' (first | exact trivial | refine And.intro rfl ?_)) (fun _ hw => HpOk.pick (H := [_]) hw [0] 1 rfl)
            · skip
              refine SL.ld ⟨rfl, rfl, rfl, rfl⟩ sc32 rfl (cell_rowT (sz := 1) (enc := eU32) 0 0 (fun _ => rfl) rfl hv10 hx14 rfl) ?_
              refine SL.ld ⟨rfl, rfl, rfl, rfl⟩ sc32 rfl (cell_rowT (sz := 1) (enc := eU32) 0 0 (fun _ => rfl) rfl hv9 hx13 rfl) ?_
              refine SL.iaT 0 hx15 ⟨rfl, rfl, rfl, rfl⟩ ty90 sz32 rfl rfl rfl fun g11 m14 cp11 hv11 => ?_
              refine SL.stTN (sz := 1) (enc := eU32) 0 hl5 (fun _ => rfl) ⟨rfl, rfl, rfl⟩ rfl rfl rfl rfl hv11 sz32 (by simp [Value.oneCell']) trivial ?_
              refine SL.iaT 0 hx16 ⟨rfl, rfl, rfl, rfl⟩ ty90 sz32 rfl rfl rfl fun g12 m15 cp12 hv12 => ?_
              refine SL.last ?_
              refine SL.stTN (sz := 1) (enc := eU32) 0 hl6 (fun _ => rfl) ⟨rfl, rfl, rfl⟩ rfl rfl rfl rfl hv12 sz32 (by simp [Value.oneCell']) trivial ?_
              refine SL.nx ?_
              refine SX.sr ?_
              obtain ⟨x17, ex17, h⟩ := retE h
              refine SL.mv ⟨rfl, rfl, rfl, rfl⟩ rfl ?_
              refine SL.bin ⟨rfl, rfl, rfl, rfl⟩ rfl rfl Bin.addW ?_
              refine SL.asgX (u := vI x17) ⟨rfl, rfl, rfl, rfl⟩ rfl (congrArg vI ex17) ?_
              refine SL.nx ?_
              refine SX.region ?_
              obtain ⟨x18, ex18, h⟩ := retE h
              refine SL.mv ⟨rfl, rfl, rfl, rfl⟩ rfl ?_
              refine SL.bin ⟨rfl, rfl, rfl, rfl⟩ rfl rfl Bin.subW ?_
              refine SL.asgX (u := vI x18) ⟨rfl, rfl, rfl, rfl⟩ rfl (congrArg vI ex18) ?_
              refine SL.nil ?_
              refine SQ.blk ?_
              exact SQ.again (m5, l6, x17, x18) h (Nat.lt_succ_self _) (by repeat' (first | exact trivial | refine And.intro rfl ?_)) (fun _ hw => HpOk.pick (H := [_]) hw [0] 1 rfl)
    · skip
      obtain ⟨l3, a1⟩ := x
      dsimp only at h
      unfold f_slices_partitionEqualOrdered_uint32_j1 at h
      refine SX.re [(0, v0_), (9, vI a1)] (rowT 32 1 v0_ eU32 l3 :: H) ?_ (by repeat' (first | exact trivial | refine And.intro rfl ?_))
      refine SX.sr ?_
      refine SL.mv ⟨rfl, rfl, rfl, rfl⟩ rfl ?_
      refine SL.asg ⟨rfl, rfl, rfl, rfl⟩ rfl ?_
      refine SL.nx ?_
      refine SX.ret ?_
      obtain rfl := Option.some.inj h
      exact SQ.fret (res1 rfl rfl) (ret_of (M := [_]) ⟨rfl, rfl⟩ fun _ hw => HpOk.pick (H := [_]) hw [0] 1 rfl)

def f_slices_partitionOrdered_uint32_j3 (p1 : Int) (l7 : List UInt32) (a5 : Int) : Option (Int × Bool × List UInt32) :=
  (nthI l7 p1).bind fun x35 =>
  (nthI l7 a5).bind fun x36 =>
  (nthI l7 a5).bind fun x37 =>
  (setI l7 a5 x35).bind fun l11 =>
  (nthI l11 p1).bind fun x38 =>
  (setI l11 p1 x36).bind fun l12 =>
  some (a5, false, l12)
def f_slices_partitionOrdered_uint32_j5 (p1 : Int) (l8 : List UInt32) (a8 : Int) (nx_f_slices_partitionOrdered_uint32_l3 : List UInt32 × Int × Int → Option (Int × Bool × List UInt32)) (a10 : Int) : Option (Int × Bool × List UInt32) :=
  cond (decide (a10 < a8))
  (
    f_slices_partitionOrdered_uint32_j3 p1 l8 a10)
  (
    (nthI l8 a10).bind fun x29 =>
    (nthI l8 a8).bind fun x30 =>
    (nthI l8 a8).bind fun x31 =>
    (setI l8 a8 x29).bind fun l9 =>
    (nthI l9 a10).bind fun x32 =>
    (setI l9 a10 x30).bind fun l10 =>
    ret (wI (a8 + 1)) fun x33 =>
    ret (wI (a10 - 1)) fun x34 =>
    nx_f_slices_partitionOrdered_uint32_l3 (l10, x33, x34))
def f_slices_partitionOrdered_uint32_l5_b (p1 : Int) (l8 : List UInt32) (a8 : Int) (nx_f_slices_partitionOrdered_uint32_l3 : List UInt32 × Int × Int → Option (Int × Bool × List UInt32)) (nx_f_slices_partitionOrdered_uint32_l5 : Int → Option (Int × Bool × List UInt32)) (a11 : Int) : Option (Int × Bool × List UInt32) :=
  (andO (decide (a8 ≤ a11)) ((nthI l8 a11).bind fun x26 => (nthI l8 p1).bind fun x27 => (f_cmp_Less_uint32 x26 x27).bind fun y7 => some (!y7))).bind fun y8 =>
  cond y8
  (
    ret (wI (a11 - 1)) fun x28 =>
    nx_f_slices_partitionOrdered_uint32_l5 x28)
  (
    f_slices_partitionOrdered_uint32_j5 p1 l8 a8 nx_f_slices_partitionOrdered_uint32_l3 a11)
def f_slices_partitionOrdered_uint32_l5 (p1 : Int) (l8 : List UInt32) (a8 : Int) (nx_f_slices_partitionOrdered_uint32_l3 : List UInt32 × Int × Int → Option (Int × Bool × List UInt32)) : Nat → Int → Option (Int × Bool × List UInt32) := loopN fun nx x => f_slices_partitionOrdered_uint32_l5_b p1 l8 a8 nx_f_slices_partitionOrdered_uint32_l3 nx x
def f_slices_partitionOrdered_uint32_j4 (n : Nat) (p1 : Int) (l8 : List UInt32) (a7 : Int) (nx_f_slices_partitionOrdered_uint32_l3 : List UInt32 × Int × Int → Option (Int × Bool × List UInt32)) (a8 : Int) : Option (Int × Bool × List UInt32) :=
  f_slices_partitionOrdered_uint32_l5 p1 l8 a8 nx_f_slices_partitionOrdered_uint32_l3 n a7
def f_slices_partitionOrdered_uint32_l4_b (n : Nat) (p1 : Int) (l8 : List UInt32) (a7 : Int) (nx_f_slices_partitionOrdered_uint32_l3 : List UInt32 × Int × Int → Option (Int × Bool × List UInt32)) (nx_f_slices_partitionOrdered_uint32_l4 : Int → Option (Int × Bool × List UInt32)) (a9 : Int) : Option (Int × Bool × List UInt32) :=
  (andO (decide (a9 ≤ a7)) ((nthI l8 a9).bind fun x23 => (nthI l8 p1).bind fun x24 => (f_cmp_Less_uint32 x23 x24).bind fun y5 => some (y5))).bind fun y6 =>
  cond y6
  (
    ret (wI (a9 + 1)) fun x25 =>
    nx_f_slices_partitionOrdered_uint32_l4 x25)
  (
    f_slices_partitionOrdered_uint32_j4 n p1 l8 a7 nx_f_slices_partitionOrdered_uint32_l3 a9)
def f_slices_partitionOrdered_uint32_l4 (n : Nat) (p1 : Int) (l8 : List UInt32) (a7 : Int) (nx_f_slices_partitionOrdered_uint32_l3 : List UInt32 × Int × Int → Option (Int × Bool × List UInt32)) : Nat → Int → Option (Int × Bool × List UInt32) := loopN fun nx x => f_slices_partitionOrdered_uint32_l4_b n p1 l8 a7 nx_f_slices_partitionOrdered_uint32_l3 nx x
def f_slices_partitionOrdered_uint32_l3_b (n : Nat) (p1 : Int) (nx_f_slices_partitionOrdered_uint32_l3 : List UInt32 × Int × Int → Option (Int × Bool × List UInt32)) (l8 : List UInt32) (a6 : Int) (a7 : Int) : Option (Int × Bool × List UInt32) :=
  f_slices_partitionOrdered_uint32_l4 n p1 l8 a7 nx_f_slices_partitionOrdered_uint32_l3 n a6
def f_slices_partitionOrdered_uint32_l3 (n : Nat) (p1 : Int) : Nat → (List UInt32 × Int × Int) → Option (Int × Bool × List UInt32) := loopN fun nx x => f_slices_partitionOrdered_uint32_l3_b n p1 nx x.1 x.2.1 x.2.2
def f_slices_partitionOrdered_uint32_j2 (n : Nat) (p1 : Int) (l2 : List UInt32) (a1 : Int) (a3 : Int) : Option (Int × Bool × List UInt32) :=
  cond (decide (a3 < a1))
  (
    (nthI l2 p1).bind fun x13 =>
    (nthI l2 a3).bind fun x14 =>
    (nthI l2 a3).bind fun x15 =>
    (setI l2 a3 x13).bind fun l3 =>
    (nthI l3 p1).bind fun x16 =>
    (setI l3 p1 x14).bind fun l4 =>
    some (a3, true, l4))
  (
    (nthI l2 a3).bind fun x17 =>
    (nthI l2 a1).bind fun x18 =>
    (nthI l2 a1).bind fun x19 =>
    (setI l2 a1 x17).bind fun l5 =>
    (nthI l5 a3).bind fun x20 =>
    (setI l5 a3 x18).bind fun l6 =>
    ret (wI (a1 + 1)) fun x21 =>
    ret (wI (a3 - 1)) fun x22 =>
    f_slices_partitionOrdered_uint32_l3 n p1 n (l6, x21, x22))
def f_slices_partitionOrdered_uint32_l2_b (n : Nat) (p1 : Int) (l2 : List UInt32) (a1 : Int) (nx_f_slices_partitionOrdered_uint32_l2 : Int → Option (Int × Bool × List UInt32)) (a4 : Int) : Option (Int × Bool × List UInt32) :=
  (andO (decide (a1 ≤ a4)) ((nthI l2 a4).bind fun x10 => (nthI l2 p1).bind fun x11 => (f_cmp_Less_uint32 x10 x11).bind fun y3 => some (!y3))).bind fun y4 =>
  cond y4
  (
    ret (wI (a4 - 1)) fun x12 =>
    nx_f_slices_partitionOrdered_uint32_l2 x12)
  (
    f_slices_partitionOrdered_uint32_j2 n p1 l2 a1 a4)
def f_slices_partitionOrdered_uint32_l2 (n : Nat) (p1 : Int) (l2 : List UInt32) (a1 : Int) : Nat → Int → Option (Int × Bool × List UInt32) := loopN fun nx x => f_slices_partitionOrdered_uint32_l2_b n p1 l2 a1 nx x
def f_slices_partitionOrdered_uint32_j1 (n : Nat) (p1 : Int) (l2 : List UInt32) (x6 : Int) (a1 : Int) : Option (Int × Bool × List UInt32) :=
  f_slices_partitionOrdered_uint32_l2 n p1 l2 a1 n x6
def f_slices_partitionOrdered_uint32_l1_b (n : Nat) (p1 : Int) (l2 : List UInt32) (x6 : Int) (nx_f_slices_partitionOrdered_uint32_l1 : Int → Option (Int × Bool × List UInt32)) (a2 : Int) : Option (Int × Bool × List UInt32) :=
  (andO (decide (a2 ≤ x6)) ((nthI l2 a2).bind fun x7 => (nthI l2 p1).bind fun x8 => (f_cmp_Less_uint32 x7 x8).bind fun y1 => some (y1))).bind fun y2 =>
  cond y2
  (
    ret (wI (a2 + 1)) fun x9 =>
    nx_f_slices_partitionOrdered_uint32_l1 x9)
  (
    f_slices_partitionOrdered_uint32_j1 n p1 l2 x6 a2)
def f_slices_partitionOrdered_uint32_l1 (n : Nat) (p1 : Int) (l2 : List UInt32) (x6 : Int) : Nat → Int → Option (Int × Bool × List UInt32) := loopN fun nx x => f_slices_partitionOrdered_uint32_l1_b n p1 l2 x6 nx x
def f_slices_partitionOrdered_uint32 (n : Nat) (p0 : List UInt32) (p1 : Int) (p2 : Int) (p3 : Int) : Option (Int × Bool × List UInt32) :=
  (nthI p0 p3).bind fun x1 =>
  (nthI p0 p1).bind fun x2 =>
  (nthI p0 p1).bind fun x3 =>
  (setI p0 p1 x1).bind fun l1 =>
  (nthI l1 p3).bind fun x4 =>
  (setI l1 p3 x2).bind fun l2 =>
  ret (wI (p1 + 1)) fun x5 =>
  ret (wI (p2 - 1)) fun x6 =>
  f_slices_partitionOrdered_uint32_l1 n p1 l2 x6 n x5
set_option maxRecDepth 100000 in
theorem c_slices_partitionOrdered_uint32 {n : Nat} {v0_ : Value} {p0 : List UInt32} {p1 : Int} {p2 : Int} {p3 : Int} {r : Int × Bool × List UInt32} (h : f_slices_partitionOrdered_uint32 n p0 p1 p2 p3 = some r)  : Con Try.prog K w0 68 [v0_, vI p1, vI p2, vI p3] [rowT 32 1 v0_ eU32 p0] H (fun u M => u = .tuple #[vI r.1, vB r.2.1] ∧ M = [rowT 32 1 v0_ eU32 r.2.2]) := by
  unfold f_slices_partitionOrdered_uint32 at h
  refine Con.enter Try.func68 rfl rfl ?_
  refine SX.sr ?_
  refine SL.asg ⟨rfl, rfl, rfl, rfl⟩ rfl ?_
  refine SL.asg ⟨rfl, rfl, rfl, rfl⟩ rfl ?_
  refine SL.nx ?_
  refine SX.seq ?_
  obtain ⟨x1, hx1, h⟩ := bnd h
  obtain ⟨x2, hx2, h⟩ := bnd h
  obtain ⟨x3, hx3, h⟩ := bnd h
  obtain ⟨l1, hl1, h⟩ := bnd h
  obtain ⟨x4, hx4, h⟩ := bnd h
  obtain ⟨l2, hl2, h⟩ := bnd h
  refine SX.drawI mix [] (Pl.ap [(true, 0), (true, 1), (true, 2), (true, 3), (true, 4), (true, 5), (true, 6), (true, 8), (true, 9), (true, 10)] (.alt 7 (Pl.ap [(false, 11), (true, 12), (false, 13), (true, 14)] (.last 15 .nil)) (.cons (false, 11) (Pl.ap [(false, 7), (true, 12), (false, 13), (true, 14)] (.last 15 .nil))))) (by kernel_rfl) ?_
  refine SL.mv ⟨rfl, rfl, rfl, rfl⟩ rfl ?_
  refine SL.mv ⟨rfl, rfl, rfl, rfl⟩ rfl ?_
  refine SL.mv ⟨rfl, rfl, rfl, rfl⟩ rfl ?_
  refine SL.mv ⟨rfl, rfl, rfl, rfl⟩ rfl ?_
  refine SL.mv ⟨rfl, rfl, rfl, rfl⟩ rfl ?_
  refine SL.mv ⟨rfl, rfl, rfl, rfl⟩ rfl ?_
  refine SL.iaT 0 hx1 ⟨rfl, rfl, rfl, rfl⟩ ty90 sz32 rfl rfl rfl fun g1 m1 cp1 hv1 => ?_
  refine SL.mv ⟨rfl, rfl, rfl, rfl⟩ rfl ?_
  refine SL.mv ⟨rfl, rfl, rfl, rfl⟩ rfl ?_
  refine SL.iaT 0 hx2 ⟨rfl, rfl, rfl, rfl⟩ ty90 sz32 rfl rfl rfl fun g2 m2 cp2 hv2 => ?_
  refine SL.two ?_ ?_
  · skip
    refine SL.ld ⟨rfl, rfl, rfl, rfl⟩ sc32 rfl (cell_rowT (sz := 1) (enc := eU32) 0 0 (fun _ => rfl) rfl hv1 hx1 rfl) ?_
    refine SL.ld ⟨rfl, rfl, rfl, rfl⟩ sc32 rfl (cell_rowT (sz := 1) (enc := eU32) 0 0 (fun _ => rfl) rfl hv2 hx2 rfl) ?_
    refine SL.iaT 0 hx3 ⟨rfl, rfl, rfl, rfl⟩ ty90 sz32 rfl rfl rfl fun g3 m3 cp3 hv3 => ?_
    refine SL.stTN (sz := 1) (enc := eU32) 0 hl1 (fun _ => rfl) ⟨rfl, rfl, rfl⟩ rfl rfl rfl rfl hv3 sz32 (by simp [Value.oneCell']) trivial ?_
    refine SL.iaT 0 hx4 ⟨rfl, rfl, rfl, rfl⟩ ty90 sz32 rfl rfl rfl fun g4 m4 cp4 hv4 => ?_
    refine SL.last ?_
    refine SL.stTN (sz := 1) (enc := eU32) 0 hl2 (fun _ => rfl) ⟨rfl, rfl, rfl⟩ rfl rfl rfl rfl hv4 sz32 (by simp [Value.oneCell']) trivial ?_
    refine SL.nx ?_
    refine SX.sr ?_
    obtain ⟨x5, ex5, h⟩ := retE h
    obtain ⟨x6, ex6, h⟩ := retE h
    refine SL.mv ⟨rfl, rfl, rfl, rfl⟩ rfl ?_
    refine SL.bin ⟨rfl, rfl, rfl, rfl⟩ rfl rfl Bin.addW ?_
    refine SL.mv ⟨rfl, rfl, rfl, rfl⟩ rfl ?_
    refine SL.bin ⟨rfl, rfl, rfl, rfl⟩ rfl rfl Bin.subW ?_
    refine SL.asgX (u := vI x5) ⟨rfl, rfl, rfl, rfl⟩ rfl (congrArg vI ex5) ?_
    refine SL.asgX (u := vI x6) ⟨rfl, rfl, rfl, rfl⟩ rfl (congrArg vI ex6) ?_
    refine SL.nx ?_
    refine SX.meetD (α := Int) (fun x => f_slices_partitionOrdered_uint32_j1 n p1 l2 x6 x = some r) (fun x => [(0, v0_), (1, vI p1), (10, vI x), (11, vI x6)]) (fun x => rowT 32 1 v0_ eU32 l2 :: H) ?_ (fun a1 D h => ?_)
    · skip
      refine SX.block ?_
      refine SX.heap (SX.mono (SX.loop (α := Nat × Int) (fun x => f_slices_partitionOrdered_uint32_l1 n p1 l2 x6 x.1 x.2 = some r) (fun x => [(0, v0_), (1, vI p1), (10, vI x.2), (11, vI x6)]) (fun x => rowT 32 1 v0_ eU32 l2 :: H) (fun x => x.1) (fun x D h => ?_) (n, x5) h) (by repeat' (first | exact trivial | refine And.intro rfl ?_))) (fun _ hw => HpOk.pick (H := [_]) hw [0] 1 rfl)
      obtain ⟨m5, a2⟩ := x
      dsimp only at h
      rcases m5 with _ | m5
      · cases (show (none : Option _) = some r from h)
      replace h : f_slices_partitionOrdered_uint32_l1_b n p1 l2 x6 (f_slices_partitionOrdered_uint32_l1 n p1 l2 x6 m5) a2 = some r := h
      unfold f_slices_partitionOrdered_uint32_l1_b at h
      refine SX.re [(0, v0_), (1, vI p1), (10, vI a2), (11, vI x6)] (rowT 32 1 v0_ eU32 l2 :: H) ?_ (by repeat' (first | exact trivial | refine And.intro rfl ?_))
      refine SX.seq ?_
      refine SX.seq ?_
      obtain ⟨y2, hy2, h⟩ := bnd h
      refine SX.drawI mix [0] (Pl.of [(true, 0), (true, 1), (true, 2), (true, 3), (true, 4), (true, 5), (true, 6), (true, 7), (true, 8), (true, 9), (true, 10), (true, 11), (false, 12), (false, 13)]) (by kernel_rfl) ?_
      refine SL.mv ⟨rfl, rfl, rfl, rfl⟩ rfl ?_
      refine SL.mv ⟨rfl, rfl, rfl, rfl⟩ rfl ?_
      refine SL.bin ⟨rfl, rfl, rfl, rfl⟩ rfl rfl Bin.leI ?_
      refine SL.mv ⟨rfl, rfl, rfl, rfl⟩ rfl ?_
      refine SL.andN 33 10 43 hy2 rfl (fun hb hg1 k => ?_) (fun hb k => ?_) ?_
      · skip
        obtain ⟨x7, hx7, hg1⟩ := bnd hg1
        obtain ⟨x8, hx8, hg1⟩ := bnd hg1
        obtain ⟨y1, hy1, hg1⟩ := bnd hg1
        obtain rfl := Option.some.inj hg1
        refine SL.mv ⟨rfl, rfl, rfl, rfl⟩ rfl ?_
        refine SL.mv ⟨rfl, rfl, rfl, rfl⟩ rfl ?_
        refine SL.iaT 0 hx7 ⟨rfl, rfl, rfl, rfl⟩ ty90 sz32 rfl rfl rfl fun g5 m6 cp5 hv5 => ?_
        refine SL.ld ⟨rfl, rfl, rfl, rfl⟩ sc32 rfl (cell_rowT (sz := 1) (enc := eU32) 0 0 (fun _ => rfl) rfl hv5 hx7 rfl) ?_
        refine SL.mv ⟨rfl, rfl, rfl, rfl⟩ rfl ?_
        refine SL.mv ⟨rfl, rfl, rfl, rfl⟩ rfl ?_
        refine SL.iaT 0 hx8 ⟨rfl, rfl, rfl, rfl⟩ ty90 sz32 rfl rfl rfl fun g6 m7 cp6 hv6 => ?_
        refine SL.ld ⟨rfl, rfl, rfl, rfl⟩ sc32 rfl (cell_rowT (sz := 1) (enc := eU32) 0 0 (fun _ => rfl) rfl hv6 hx8 rfl) ?_
        refine SL.call (vs := [_, _]) (Hin := []) (Hr := _ :: _) ⟨rfl, rfl, rfl, rfl⟩ rfl ⟨rfl, rfl, trivial⟩ cal66 rfl rfl (c_cmp_Less_uint32 hy1) ?_
        rintro _ _ ⟨rfl, rfl⟩
        refine ⟨⟨⟨0, rfl⟩, trivial⟩, ?_⟩
        refine SL.pk ⟨rfl, rfl, rfl, rfl⟩ rfl rfl ?_
        exact k.mono (by repeat' (first | exact trivial | refine And.intro rfl ?_))
      · skip
        refine SL.pass rfl rfl rfl ?_
        refine SL.pass rfl rfl rfl ?_
        refine SL.pass rfl rfl rfl ?_
        refine SL.pass rfl rfl rfl ?_
        refine SL.pass rfl rfl rfl ?_
        refine SL.pass rfl rfl rfl ?_
        refine SL.pass rfl rfl rfl ?_
        refine SL.pass rfl rfl rfl ?_
        refine SL.pass rfl rfl rfl ?_
        refine SL.pk ⟨rfl, rfl, rfl, rfl⟩ rfl rfl ?_
        exact k.mono (by repeat' (first | exact trivial | refine And.intro rfl ?_))
      refine SL.nx ?_
      refine SX.cond rfl (fun hc1 => ?_) (fun hc1 => ?_)
      · skip
        replace h := cT hc1 h
        refine SX.skip ?_
        refine SQ.thn ?_
        refine SX.block ?_
        refine SX.region ?_
        obtain ⟨x9, ex9, h⟩ := retE h
        refine SL.mv ⟨rfl, rfl, rfl, rfl⟩ rfl ?_
        refine SL.bin ⟨rfl, rfl, rfl, rfl⟩ rfl rfl Bin.addW ?_
        refine SL.asgX (u := vI x9) ⟨rfl, rfl, rfl, rfl⟩ rfl (congrArg vI ex9) ?_
        refine SL.nil ?_
        refine SQ.blk ?_
        exact SQ.again (m5, x9) h (Nat.lt_succ_self _) (by repeat' (first | exact trivial | refine And.intro rfl ?_)) (fun _ hw => HpOk.pick (H := [_]) hw [0] 1 rfl)
      · skip
        replace h := cF hc1 h
        refine SX.exit ?_
        refine SQ.thnE ?_
        refine SQ.lpE ?_
        refine SQ.blkE ?_
        exact SQ.midD a2 h (by repeat' (first | exact trivial | refine And.intro rfl ?_)) (fun _ hw => HpOk.pick (H := [_]) hw [0] 1 rfl)
    · skip
      unfold f_slices_partitionOrdered_uint32_j1 at h
      refine SX.re [(0, v0_), (1, vI p1), (10, vI a1), (11, vI x6)] (rowT 32 1 v0_ eU32 l2 :: H) ?_ (by repeat' (first | exact trivial | refine And.intro rfl ?_))
      refine SX.meetD (α := Int) (fun x => f_slices_partitionOrdered_uint32_j2 n p1 l2 a1 x = some r) (fun x => [(0, v0_), (1, vI p1), (10, vI a1), (11, vI x)]) (fun x => rowT 32 1 v0_ eU32 l2 :: H) ?_ (fun a3 D h => ?_)
      · skip
        refine SX.block ?_
        refine SX.heap (SX.mono (SX.loop (α := Nat × Int) (fun x => f_slices_partitionOrdered_uint32_l2 n p1 l2 a1 x.1 x.2 = some r) (fun x => [(0, v0_), (1, vI p1), (10, vI a1), (11, vI x.2)]) (fun x => rowT 32 1 v0_ eU32 l2 :: H) (fun x => x.1) (fun x D h => ?_) (n, x6) h) (by repeat' (first | exact trivial | refine And.intro rfl ?_))) (fun _ hw => HpOk.pick (H := [_]) hw [0] 1 rfl)
        obtain ⟨m8, a4⟩ := x
        dsimp only at h
        rcases m8 with _ | m8
        · cases (show (none : Option _) = some r from h)
        replace h : f_slices_partitionOrdered_uint32_l2_b n p1 l2 a1 (f_slices_partitionOrdered_uint32_l2 n p1 l2 a1 m8) a4 = some r := h
        unfold f_slices_partitionOrdered_uint32_l2_b at h
        refine SX.re [(0, v0_), (1, vI p1), (10, vI a1), (11, vI a4)] (rowT 32 1 v0_ eU32 l2 :: H) ?_ (by repeat' (first | exact trivial | refine And.intro rfl ?_))
        refine SX.seq ?_
        refine SX.seq ?_
        obtain ⟨y4, hy4, h⟩ := bnd h
        refine SX.drawI mix [0] (Pl.of [(true, 0), (true, 1), (true, 2), (true, 3), (true, 4), (true, 5), (true, 6), (true, 7), (true, 8), (true, 9), (true, 10), (true, 11), (false, 12), (false, 13), (false, 14)]) (by kernel_rfl) ?_
        refine SL.mv ⟨rfl, rfl, rfl, rfl⟩ rfl ?_
        refine SL.mv ⟨rfl, rfl, rfl, rfl⟩ rfl ?_
        refine SL.bin ⟨rfl, rfl, rfl, rfl⟩ rfl rfl Bin.leI ?_
        refine SL.mv ⟨rfl, rfl, rfl, rfl⟩ rfl ?_
        refine SL.andN 49 11 60 hy4 rfl (fun hb hg2 k => ?_) (fun hb k => ?_) ?_
        · skip
          obtain ⟨x10, hx10, hg2⟩ := bnd hg2
          obtain ⟨x11, hx11, hg2⟩ := bnd hg2
          obtain ⟨y3, hy3, hg2⟩ := bnd hg2
          obtain rfl := Option.some.inj hg2
          refine SL.mv ⟨rfl, rfl, rfl, rfl⟩ rfl ?_
          refine SL.mv ⟨rfl, rfl, rfl, rfl⟩ rfl ?_
          refine SL.iaT 0 hx10 ⟨rfl, rfl, rfl, rfl⟩ ty90 sz32 rfl rfl rfl fun g7 m9 cp7 hv7 => ?_
          refine SL.ld ⟨rfl, rfl, rfl, rfl⟩ sc32 rfl (cell_rowT (sz := 1) (enc := eU32) 0 0 (fun _ => rfl) rfl hv7 hx10 rfl) ?_
          refine SL.mv ⟨rfl, rfl, rfl, rfl⟩ rfl ?_
          refine SL.mv ⟨rfl, rfl, rfl, rfl⟩ rfl ?_
          refine SL.iaT 0 hx11 ⟨rfl, rfl, rfl, rfl⟩ ty90 sz32 rfl rfl rfl fun g8 m10 cp8 hv8 => ?_
          refine SL.ld ⟨rfl, rfl, rfl, rfl⟩ sc32 rfl (cell_rowT (sz := 1) (enc := eU32) 0 0 (fun _ => rfl) rfl hv8 hx11 rfl) ?_
          refine SL.call (vs := [_, _]) (Hin := []) (Hr := _ :: _) ⟨rfl, rfl, rfl, rfl⟩ rfl ⟨rfl, rfl, trivial⟩ cal66 rfl rfl (c_cmp_Less_uint32 hy3) ?_
          rintro _ _ ⟨rfl, rfl⟩
          refine ⟨⟨⟨0, rfl⟩, trivial⟩, ?_⟩
          refine SL.not ⟨rfl, rfl, rfl, rfl⟩ rfl ?_
          refine SL.pk ⟨rfl, rfl, rfl, rfl⟩ rfl rfl ?_
          exact k.mono (by repeat' (first | exact trivial | refine And.intro rfl ?_))
        · skip
          refine SL.pass rfl rfl rfl ?_
          refine SL.pass rfl rfl rfl ?_
          refine SL.pass rfl rfl rfl ?_
          refine SL.pass rfl rfl rfl ?_
          refine SL.pass rfl rfl rfl ?_
          refine SL.pass rfl rfl rfl ?_
          refine SL.pass rfl rfl rfl ?_
          refine SL.pass rfl rfl rfl ?_
          refine SL.pass rfl rfl rfl ?_
          refine SL.pass rfl rfl rfl ?_
          refine SL.pk ⟨rfl, rfl, rfl, rfl⟩ rfl rfl ?_
          exact k.mono (by repeat' (first | exact trivial | refine And.intro rfl ?_))
        refine SL.nx ?_
        refine SX.cond rfl (fun hc2 => ?_) (fun hc2 => ?_)
        · skip
          replace h := cT hc2 h
          refine SX.skip ?_
          refine SQ.thn ?_
          refine SX.block ?_
          refine SX.region ?_
          obtain ⟨x12, ex12, h⟩ := retE h
          refine SL.mv ⟨rfl, rfl, rfl, rfl⟩ rfl ?_
          refine SL.bin ⟨rfl, rfl, rfl, rfl⟩ rfl rfl Bin.subW ?_
          refine SL.asgX (u := vI x12) ⟨rfl, rfl, rfl, rfl⟩ rfl (congrArg vI ex12) ?_
          refine SL.nil ?_
          refine SQ.blk ?_
          exact SQ.again (m8, x12) h (Nat.lt_succ_self _) (by repeat' (first | exact trivial | refine And.intro rfl ?_)) (fun _ hw => HpOk.pick (H := [_]) hw [0] 1 rfl)
        · skip
          replace h := cF hc2 h
          refine SX.exit ?_
          refine SQ.thnE ?_
          refine SQ.lpE ?_
          refine SQ.blkE ?_
          exact SQ.midD a4 h (by repeat' (first | exact trivial | refine And.intro rfl ?_)) (fun _ hw => HpOk.pick (H := [_]) hw [0] 1 rfl)
      · skip
        unfold f_slices_partitionOrdered_uint32_j2 at h
        refine SX.re [(0, v0_), (1, vI p1), (10, vI a1), (11, vI a3)] (rowT 32 1 v0_ eU32 l2 :: H) ?_ (by repeat' (first | exact trivial | refine And.intro rfl ?_))
        refine SX.seq ?_
        refine SX.sr ?_
        refine SL.mv ⟨rfl, rfl, rfl, rfl⟩ rfl ?_
        refine SL.mv ⟨rfl, rfl, rfl, rfl⟩ rfl ?_
        refine SL.bin ⟨rfl, rfl, rfl, rfl⟩ rfl rfl Bin.gtI ?_
        refine SL.nx ?_
        refine SX.cond rfl (fun hc3 => ?_) (fun hc3 => ?_)
        · skip
          replace h := cT hc3 h
          refine SX.seq ?_
          obtain ⟨x13, hx13, h⟩ := bnd h
          obtain ⟨x14, hx14, h⟩ := bnd h
          obtain ⟨x15, hx15, h⟩ := bnd h
          obtain ⟨l3, hl3, h⟩ := bnd h
          obtain ⟨x16, hx16, h⟩ := bnd h
          obtain ⟨l4, hl4, h⟩ := bnd h
          refine SX.drawI mix [] (Pl.ap [(true, 0), (true, 1), (true, 2), (true, 3), (true, 4), (true, 5), (true, 6), (true, 8), (true, 9), (true, 10)] (.alt 7 (Pl.ap [(false, 11), (true, 12), (false, 13), (true, 14)] (.last 15 .nil)) (.cons (false, 11) (Pl.ap [(false, 7), (true, 12), (false, 13), (true, 14)] (.last 15 .nil))))) (by kernel_rfl) ?_
          refine SL.mv ⟨rfl, rfl, rfl, rfl⟩ rfl ?_
          refine SL.mv ⟨rfl, rfl, rfl, rfl⟩ rfl ?_
          refine SL.mv ⟨rfl, rfl, rfl, rfl⟩ rfl ?_
          refine SL.mv ⟨rfl, rfl, rfl, rfl⟩ rfl ?_
          refine SL.mv ⟨rfl, rfl, rfl, rfl⟩ rfl ?_
          refine SL.mv ⟨rfl, rfl, rfl, rfl⟩ rfl ?_
          refine SL.iaT 0 hx13 ⟨rfl, rfl, rfl, rfl⟩ ty90 sz32 rfl rfl rfl fun g9 m11 cp9 hv9 => ?_
          refine SL.mv ⟨rfl, rfl, rfl, rfl⟩ rfl ?_
          refine SL.mv ⟨rfl, rfl, rfl, rfl⟩ rfl ?_
          refine SL.iaT 0 hx14 ⟨rfl, rfl, rfl, rfl⟩ ty90 sz32 rfl rfl rfl fun g10 m12 cp10 hv10 => ?_
          refine SL.two ?_ ?_
          · skip
            refine SL.ld ⟨rfl, rfl, rfl, rfl⟩ sc32 rfl (cell_rowT (sz := 1) (enc := eU32) 0 0 (fun _ => rfl) rfl hv9 hx13 rfl) ?_
            refine SL.ld ⟨rfl, rfl, rfl, rfl⟩ sc32 rfl (cell_rowT (sz := 1) (enc := eU32) 0 0 (fun _ => rfl) rfl hv10 hx14 rfl) ?_
            refine SL.iaT 0 hx15 ⟨rfl, rfl, rfl, rfl⟩ ty90 sz32 rfl rfl rfl fun g11 m13 cp11 hv11 => ?_
            refine SL.stTN (sz := 1) (enc := eU32) 0 hl3 (fun _ => rfl) ⟨rfl, rfl, rfl⟩ rfl rfl rfl rfl hv11 sz32 (by simp [Value.oneCell']) trivial ?_
            refine SL.iaT 0 hx16 ⟨rfl, rfl, rfl, rfl⟩ ty90 sz32 rfl rfl rfl fun g12 m14 cp12 hv12 => ?_
            refine SL.last ?_
            refine SL.stTN (sz := 1) (enc := eU32) 0 hl4 (fun _ => rfl) ⟨rfl, rfl, rfl⟩ rfl rfl rfl rfl hv12 sz32 (by simp [Value.oneCell']) trivial ?_
            refine SL.nx ?_
            refine SX.sr ?_
            refine SL.mv ⟨rfl, rfl, rfl, rfl⟩ rfl ?_
            refine SL.asg ⟨rfl, rfl, rfl, rfl⟩ rfl ?_
            refine SL.asg ⟨rfl, rfl, rfl, rfl⟩ rfl ?_
            refine SL.nx ?_
            refine SX.ret ?_
            refine SQ.thnR ?_
            obtain rfl := Option.some.inj h
            exact SQ.fret (res2 rfl rfl rfl) (ret_of (M := [_]) ⟨rfl, rfl⟩ fun _ hw => HpOk.pick (H := [_]) hw [0] 1 rfl)
          · skip
            refine SL.ld ⟨rfl, rfl, rfl, rfl⟩ sc32 rfl (cell_rowT (sz := 1) (enc := eU32) 0 0 (fun _ => rfl) rfl hv10 hx14 rfl) ?_
            refine SL.ld ⟨rfl, rfl, rfl, rfl⟩ sc32 rfl (cell_rowT (sz := 1) (enc := eU32) 0 0 (fun _ => rfl) rfl hv9 hx13 rfl) ?_
            refine SL.iaT 0 hx15 ⟨rfl, rfl, rfl, rfl⟩ ty90 sz32 rfl rfl rfl fun g11 m13 cp11 hv11 => ?_
            refine SL.stTN (sz := 1) (enc := eU32) 0 hl3 (fun _ => rfl) ⟨rfl, rfl, rfl⟩ rfl rfl rfl rfl hv11 sz32 (by simp [Value.oneCell']) trivial ?_
            refine SL.iaT 0 hx16 ⟨rfl, rfl, rfl, rfl⟩ ty90 sz32 rfl rfl rfl fun g12 m14 cp12 hv12 => ?_
            refine SL.last ?_
            refine SL.stTN (sz := 1) (enc := eU32) 0 hl4 (fun _ => rfl) ⟨rfl, rfl, rfl⟩ rfl rfl rfl rfl hv12 sz32 (by simp [Value.oneCell']) trivial ?_
            refine SL.nx ?_
            refine SX.sr ?_
            refine SL.mv ⟨rfl, rfl, rfl, rfl⟩ rfl ?_
            refine SL.asg ⟨rfl, rfl, rfl, rfl⟩ rfl ?_
            refine SL.asg ⟨rfl, rfl, rfl, rfl⟩ rfl ?_
            refine SL.nx ?_
            refine SX.ret ?_
            refine SQ.thnR ?_
            obtain rfl := Option.some.inj h
            exact SQ.fret (res2 rfl rfl rfl) (ret_of (M := [_]) ⟨rfl, rfl⟩ fun _ hw => HpOk.pick (H := [_]) hw [0] 1 rfl)
        · skip
          replace h := cF hc3 h
          refine SX.skip ?_
          refine SQ.thn ?_
          refine SX.seq ?_
          obtain ⟨x17, hx17, h⟩ := bnd h
          obtain ⟨x18, hx18, h⟩ := bnd h
          obtain ⟨x19, hx19, h⟩ := bnd h
          obtain ⟨l5, hl5, h⟩ := bnd h
          obtain ⟨x20, hx20, h⟩ := bnd h
          obtain ⟨l6, hl6, h⟩ := bnd h
          refine SX.drawI mix [] (Pl.ap [(true, 0), (true, 1), (true, 2), (true, 3), (true, 4), (true, 5), (true, 6), (true, 8), (true, 9), (true, 10)] (.alt 7 (Pl.ap [(false, 11), (true, 12), (false, 13), (true, 14)] (.last 15 .nil)) (.cons (false, 11) (Pl.ap [(false, 7), (true, 12), (false, 13), (true, 14)] (.last 15 .nil))))) (by kernel_rfl) ?_
          refine SL.mv ⟨rfl, rfl, rfl, rfl⟩ rfl ?_
          refine SL.mv ⟨rfl, rfl, rfl, rfl⟩ rfl ?_
          refine SL.mv ⟨rfl, rfl, rfl, rfl⟩ rfl ?_
          refine SL.mv ⟨rfl, rfl, rfl, rfl⟩ rfl ?_
          refine SL.mv ⟨rfl, rfl, rfl, rfl⟩ rfl ?_
          refine SL.mv ⟨rfl, rfl, rfl, rfl⟩ rfl ?_
          refine SL.iaT 0 hx17 ⟨rfl, rfl, rfl, rfl⟩ ty90 sz32 rfl rfl rfl fun g13 m15 cp13 hv13 => ?_
          refine SL.mv ⟨rfl, rfl, rfl, rfl⟩ rfl ?_
          refine SL.mv ⟨rfl, rfl, rfl, rfl⟩ rfl ?_
          refine SL.iaT 0 hx18 ⟨rfl, rfl, rfl, rfl⟩ ty90 sz32 rfl rfl rfl fun g14 m16 cp14 hv14 => ?_
          refine SL.two ?_ ?_
          · skip
            refine SL.ld ⟨rfl, rfl, rfl, rfl⟩ sc32 rfl (cell_rowT (sz := 1) (enc := eU32) 0 0 (fun _ => rfl) rfl hv13 hx17 rfl) ?_
            refine SL.ld ⟨rfl, rfl, rfl, rfl⟩ sc32 rfl (cell_rowT (sz := 1) (enc := eU32) 0 0 (fun _ => rfl) rfl hv14 hx18 rfl) ?_
            refine SL.iaT 0 hx19 ⟨rfl, rfl, rfl, rfl⟩ ty90 sz32 rfl rfl rfl fun g15 m17 cp15 hv15 => ?_
            refine SL.stTN (sz := 1) (enc := eU32) 0 hl5 (fun _ => rfl) ⟨rfl, rfl, rfl⟩ rfl rfl rfl rfl hv15 sz32 (by simp [Value.oneCell']) trivial ?_
            refine SL.iaT 0 hx20 ⟨rfl, rfl, rfl, rfl⟩ ty90 sz32 rfl rfl rfl fun g16 m18 cp16 hv16 => ?_
            refine SL.last ?_
            refine SL.stTN (sz := 1) (enc := eU32) 0 hl6 (fun _ => rfl) ⟨rfl, rfl, rfl⟩ rfl rfl rfl rfl hv16 sz32 (by simp [Value.oneCell']) trivial ?_
            refine SL.nx ?_
            refine SX.sr ?_
            obtain ⟨x21, ex21, h⟩ := retE h
            refine SL.mv ⟨rfl, rfl, rfl, rfl⟩ rfl ?_
            refine SL.bin ⟨rfl, rfl, rfl, rfl⟩ rfl rfl Bin.addW ?_
            refine SL.asgX (u := vI x21) ⟨rfl, rfl, rfl, rfl⟩ rfl (congrArg vI ex21) ?_
            refine SL.nx ?_
            refine SX.sr ?_
            obtain ⟨x22, ex22, h⟩ := retE h
            refine SL.mv ⟨rfl, rfl, rfl, rfl⟩ rfl ?_
            refine SL.bin ⟨rfl, rfl, rfl, rfl⟩ rfl rfl Bin.subW ?_
            refine SL.asgX (u := vI x22) ⟨rfl, rfl, rfl, rfl⟩ rfl (congrArg vI ex22) ?_
            refine SL.nx ?_
            refine SX.meetD (α := List UInt32 × Int) (fun x => f_slices_partitionOrdered_uint32_j3 p1 x.1 x.2 = some r) (fun x => [(0, v0_), (1, vI p1), (11, vI x.2)]) (fun x => rowT 32 1 v0_ eU32 x.1 :: H) ?_ (fun x D h => ?_)
            · skip
              refine SX.block ?_
              refine SX.heap (SX.mono (SX.loop (α := Nat × List UInt32 × Int × Int) (fun x => f_slices_partitionOrdered_uint32_l3 n p1 x.1 (x.2.1, x.2.2.1, x.2.2.2) = some r) (fun x => [(0, v0_), (1, vI p1), (10, vI x.2.2.1), (11, vI x.2.2.2)]) (fun x => rowT 32 1 v0_ eU32 x.2.1 :: H) (fun x => x.1) (fun x D h => ?_) (n, l6, x21, x22) h) (by repeat' (first | exact trivial | refine And.intro rfl ?_))) (fun _ hw => HpOk.pick (H := [_]) hw [0] 1 rfl)
              obtain ⟨m19, l8, a6, a7⟩ := x
              dsimp only at h
              rcases m19 with _ | m19
              · cases (show (none : Option _) = some r from h)
              replace h : f_slices_partitionOrdered_uint32_l3_b n p1 (f_slices_partitionOrdered_uint32_l3 n p1 m19) l8 a6 a7 = some r := h
              unfold f_slices_partitionOrdered_uint32_l3_b at h
              refine SX.re [(0, v0_), (1, vI p1), (10, vI a6), (11, vI a7)] (rowT 32 1 v0_ eU32 l8 :: H) ?_ (by repeat' (first | exact trivial | refine And.intro rfl ?_))
              refine SX.block ?_
              refine SX.meetD (α := Int) (fun x => f_slices_partitionOrdered_uint32_j4 n p1 l8 a7 (f_slices_partitionOrdered_uint32_l3 n p1 m19) x = some r) (fun x => [(0, v0_), (1, vI p1), (10, vI x), (11, vI a7)]) (fun x => rowT 32 1 v0_ eU32 l8 :: H) ?_ (fun a8 D h => ?_)
              · skip
                refine SX.block ?_
                refine SX.heap (SX.mono (SX.loop (α := Nat × Int) (fun x => f_slices_partitionOrdered_uint32_l4 n p1 l8 a7 (f_slices_partitionOrdered_uint32_l3 n p1 m19) x.1 x.2 = some r) (fun x => [(0, v0_), (1, vI p1), (10, vI x.2), (11, vI a7)]) (fun x => rowT 32 1 v0_ eU32 l8 :: H) (fun x => x.1) (fun x D h => ?_) (n, a6) h) (by repeat' (first | exact trivial | refine And.intro rfl ?_))) (fun _ hw => HpOk.pick (H := [_]) hw [0] 1 rfl)
                obtain ⟨m20, a9⟩ := x
                dsimp only at h
                rcases m20 with _ | m20
                · cases (show (none : Option _) = some r from h)
                replace h : f_slices_partitionOrdered_uint32_l4_b n p1 l8 a7 (f_slices_partitionOrdered_uint32_l3 n p1 m19) (f_slices_partitionOrdered_uint32_l4 n p1 l8 a7 (f_slices_partitionOrdered_uint32_l3 n p1 m19) m20) a9 = some r := h
                unfold f_slices_partitionOrdered_uint32_l4_b at h
                refine SX.re [(0, v0_), (1, vI p1), (10, vI a9), (11, vI a7)] (rowT 32 1 v0_ eU32 l8 :: H) ?_ (by repeat' (first | exact trivial | refine And.intro rfl ?_))
                refine SX.seq ?_
                refine SX.seq ?_
                obtain ⟨y6, hy6, h⟩ := bnd h
                refine SX.drawI mix [0] (Pl.of [(true, 0), (true, 1), (true, 2), (true, 3), (true, 4), (true, 5), (true, 6), (true, 7), (true, 8), (true, 9), (true, 10), (true, 11), (false, 12), (false, 13)]) (by kernel_rfl) ?_
                refine SL.mv ⟨rfl, rfl, rfl, rfl⟩ rfl ?_
                refine SL.mv ⟨rfl, rfl, rfl, rfl⟩ rfl ?_
                refine SL.bin ⟨rfl, rfl, rfl, rfl⟩ rfl rfl Bin.leI ?_
                refine SL.mv ⟨rfl, rfl, rfl, rfl⟩ rfl ?_
                refine SL.andN 102 10 112 hy6 rfl (fun hb hg3 k => ?_) (fun hb k => ?_) ?_
                · skip
                  obtain ⟨x23, hx23, hg3⟩ := bnd hg3
                  obtain ⟨x24, hx24, hg3⟩ := bnd hg3
                  obtain ⟨y5, hy5, hg3⟩ := bnd hg3
                  obtain rfl := Option.some.inj hg3
                  refine SL.mv ⟨rfl, rfl, rfl, rfl⟩ rfl ?_
                  refine SL.mv ⟨rfl, rfl, rfl, rfl⟩ rfl ?_
                  refine SL.iaT 0 hx23 ⟨rfl, rfl, rfl, rfl⟩ ty90 sz32 rfl rfl rfl fun g17 m21 cp17 hv17 => ?_
                  refine SL.ld ⟨rfl, rfl, rfl, rfl⟩ sc32 rfl (cell_rowT (sz := 1) (enc := eU32) 0 0 (fun _ => rfl) rfl hv17 hx23 rfl) ?_
                  refine SL.mv ⟨rfl, rfl, rfl, rfl⟩ rfl ?_
                  refine SL.mv ⟨rfl, rfl, rfl, rfl⟩ rfl ?_
                  refine SL.iaT 0 hx24 ⟨rfl, rfl, rfl, rfl⟩ ty90 sz32 rfl rfl rfl fun g18 m22 cp18 hv18 => ?_
                  refine SL.ld ⟨rfl, rfl, rfl, rfl⟩ sc32 rfl (cell_rowT (sz := 1) (enc := eU32) 0 0 (fun _ => rfl) rfl hv18 hx24 rfl) ?_
                  refine SL.call (vs := [_, _]) (Hin := []) (Hr := _ :: _) ⟨rfl, rfl, rfl, rfl⟩ rfl ⟨rfl, rfl, trivial⟩ cal66 rfl rfl (c_cmp_Less_uint32 hy5) ?_
                  rintro _ _ ⟨rfl, rfl⟩
                  refine ⟨⟨⟨0, rfl⟩, trivial⟩, ?_⟩
                  refine SL.pk ⟨rfl, rfl, rfl, rfl⟩ rfl rfl ?_
                  exact k.mono (by repeat' (first | exact trivial | refine And.intro rfl ?_))
                · skip
                  refine SL.pass rfl rfl rfl ?_
                  refine SL.pass rfl rfl rfl ?_
                  refine SL.pass rfl rfl rfl ?_
                  refine SL.pass rfl rfl rfl ?_
                  refine SL.pass rfl rfl rfl ?_
                  refine SL.pass rfl rfl rfl ?_
                  refine SL.pass rfl rfl rfl ?_
                  refine SL.pass rfl rfl rfl ?_
                  refine SL.pass rfl rfl rfl ?_
                  refine SL.pk ⟨rfl, rfl, rfl, rfl⟩ rfl rfl ?_
                  exact k.mono (by repeat' (first | exact trivial | refine And.intro rfl ?_))
                refine SL.nx ?_
                refine SX.cond rfl (fun hc4 => ?_) (fun hc4 => ?_)
                · skip
                  replace h := cT hc4 h
                  refine SX.skip ?_
                  refine SQ.thn ?_
                  refine SX.block ?_
                  refine SX.region ?_
                  obtain ⟨x25, ex25, h⟩ := retE h
                  refine SL.mv ⟨rfl, rfl, rfl, rfl⟩ rfl ?_
                  refine SL.bin ⟨rfl, rfl, rfl, rfl⟩ rfl rfl Bin.addW ?_
                  refine SL.asgX (u := vI x25) ⟨rfl, rfl, rfl, rfl⟩ rfl (congrArg vI ex25) ?_
                  refine SL.nil ?_
                  refine SQ.blk ?_
                  exact SQ.again (m20, x25) h (Nat.lt_succ_self _) (by repeat' (first | exact trivial | refine And.intro rfl ?_)) (fun _ hw => HpOk.pick (H := [_]) hw [0] 1 rfl)
                · skip
                  replace h := cF hc4 h
                  refine SX.exit ?_
                  refine SQ.thnE ?_
                  refine SQ.lpE ?_
                  refine SQ.blkE ?_
                  exact SQ.midD a9 h (by repeat' (first | exact trivial | refine And.intro rfl ?_)) (fun _ hw => HpOk.pick (H := [_]) hw [0] 1 rfl)
              · skip
                unfold f_slices_partitionOrdered_uint32_j4 at h
                refine SX.re [(0, v0_), (1, vI p1), (10, vI a8), (11, vI a7)] (rowT 32 1 v0_ eU32 l8 :: H) ?_ (by repeat' (first | exact trivial | refine And.intro rfl ?_))
                refine SX.meetD (α := Int) (fun x => f_slices_partitionOrdered_uint32_j5 p1 l8 a8 (f_slices_partitionOrdered_uint32_l3 n p1 m19) x = some r) (fun x => [(0, v0_), (1, vI p1), (10, vI a8), (11, vI x)]) (fun x => rowT 32 1 v0_ eU32 l8 :: H) ?_ (fun a10 D h => ?_)
                · skip
                  refine SX.block ?_
                  refine SX.heap (SX.mono (SX.loop (α := Nat × Int) (fun x => f_slices_partitionOrdered_uint32_l5 p1 l8 a8 (f_slices_partitionOrdered_uint32_l3 n p1 m19) x.1 x.2 = some r) (fun x => [(0, v0_), (1, vI p1), (10, vI a8), (11, vI x.2)]) (fun x => rowT 32 1 v0_ eU32 l8 :: H) (fun x => x.1) (fun x D h => ?_) (n, a7) h) (by repeat' (first | exact trivial | refine And.intro rfl ?_))) (fun _ hw => HpOk.pick (H := [_]) hw [0] 1 rfl)
                  obtain ⟨m23, a11⟩ := x
                  dsimp only at h
                  rcases m23 with _ | m23
                  · cases (show (none : Option _) = some r from h)
                  replace h : f_slices_partitionOrdered_uint32_l5_b p1 l8 a8 (f_slices_partitionOrdered_uint32_l3 n p1 m19) (f_slices_partitionOrdered_uint32_l5 p1 l8 a8 (f_slices_partitionOrdered_uint32_l3 n p1 m19) m23) a11 = some r := h
                  unfold f_slices_partitionOrdered_uint32_l5_b at h
                  refine SX.re [(0, v0_), (1, vI p1), (10, vI a8), (11, vI a11)] (rowT 32 1 v0_ eU32 l8 :: H) ?_ (by repeat' (first | exact trivial | refine And.intro rfl ?_))
                  refine SX.seq ?_
                  refine SX.seq ?_
                  obtain ⟨y8, hy8, h⟩ := bnd h
                  refine SX.drawI mix [0] (Pl.of [(true, 0), (true, 1), (true, 2), (true, 3), (true, 4), (true, 5), (true, 6), (true, 7), (true, 8), (true, 9), (true, 10), (true, 11), (false, 12), (false, 13), (false, 14)]) (by kernel_rfl) ?_
                  refine SL.mv ⟨rfl, rfl, rfl, rfl⟩ rfl ?_
                  refine SL.mv ⟨rfl, rfl, rfl, rfl⟩ rfl ?_
                  refine SL.bin ⟨rfl, rfl, rfl, rfl⟩ rfl rfl Bin.leI ?_
                  refine SL.mv ⟨rfl, rfl, rfl, rfl⟩ rfl ?_
                  refine SL.andN 118 11 129 hy8 rfl (fun hb hg4 k => ?_) (fun hb k => ?_) ?_
                  · skip
                    obtain ⟨x26, hx26, hg4⟩ := bnd hg4
                    obtain ⟨x27, hx27, hg4⟩ := bnd hg4
                    obtain ⟨y7, hy7, hg4⟩ := bnd hg4
                    obtain rfl := Option.some.inj hg4
                    refine SL.mv ⟨rfl, rfl, rfl, rfl⟩ rfl ?_
                    refine SL.mv ⟨rfl, rfl, rfl, rfl⟩ rfl ?_
                    refine SL.iaT 0 hx26 ⟨rfl, rfl, rfl, rfl⟩ ty90 sz32 rfl rfl rfl fun g19 m24 cp19 hv19 => ?_
                    refine SL.ld ⟨rfl, rfl, rfl, rfl⟩ sc32 rfl (cell_rowT (sz := 1) (enc := eU32) 0 0 (fun _ => rfl) rfl hv19 hx26 rfl) ?_
                    refine SL.mv ⟨rfl, rfl, rfl, rfl⟩ rfl ?_
                    refine SL.mv ⟨rfl, rfl, rfl, rfl⟩ rfl ?_
                    refine SL.iaT 0 hx27 ⟨rfl, rfl, rfl, rfl⟩ ty90 sz32 rfl rfl rfl fun g20 m25 cp20 hv20 => ?_
                    refine SL.ld ⟨rfl, rfl, rfl, rfl⟩ sc32 rfl (cell_rowT (sz := 1) (enc := eU32) 0 0 (fun _ => rfl) rfl hv20 hx27 rfl) ?_
                    refine SL.call (vs := [_, _]) (Hin := []) (Hr := _ :: _) ⟨rfl, rfl, rfl, rfl⟩ rfl ⟨rfl, rfl, trivial⟩ cal66 rfl rfl (c_cmp_Less_uint32 hy7) ?_
                    rintro _ _ ⟨rfl, rfl⟩
                    refine ⟨⟨⟨0, rfl⟩, trivial⟩, ?_⟩
                    refine SL.not ⟨rfl, rfl, rfl, rfl⟩ rfl ?_
                    refine SL.pk ⟨rfl, rfl, rfl, rfl⟩ rfl rfl ?_
                    exact k.mono (by repeat' (first | exact trivial | refine And.intro rfl ?_))
                  · skip
                    refine SL.pass rfl rfl rfl ?_
                    refine SL.pass rfl rfl rfl ?_
                    refine SL.pass rfl rfl rfl ?_
                    refine SL.pass rfl rfl rfl ?_
                    refine SL.pass rfl rfl rfl ?_
                    refine SL.pass rfl rfl rfl ?_
                    refine SL.pass rfl rfl rfl ?_
                    refine SL.pass rfl rfl rfl ?_
                    refine SL.pass rfl rfl rfl ?_
                    refine SL.pass rfl rfl rfl ?_
                    refine SL.pk ⟨rfl, rfl, rfl, rfl⟩ rfl rfl ?_
                    exact k.mono (by repeat' (first | exact trivial | refine And.intro rfl ?_))
                  refine SL.nx ?_
                  refine SX.cond rfl (fun hc5 => ?_) (fun hc5 => ?_)
                  · skip
                    replace h := cT hc5 h
                    refine SX.skip ?_
                    refine SQ.thn ?_
                    refine SX.block ?_
                    refine SX.region ?_
                    obtain ⟨x28, ex28, h⟩ := retE h
                    refine SL.mv ⟨rfl, rfl, rfl, rfl⟩ rfl ?_
                    refine SL.bin ⟨rfl, rfl, rfl, rfl⟩ rfl rfl Bin.subW ?_
                    refine SL.asgX (u := vI x28) ⟨rfl, rfl, rfl, rfl⟩ rfl (congrArg vI ex28) ?_
                    refine SL.nil ?_
                    refine SQ.blk ?_
                    exact SQ.again (m23, x28) h (Nat.lt_succ_self _) (by repeat' (first | exact trivial | refine And.intro rfl ?_)) (fun _ hw => HpOk.pick (H := [_]) hw [0] 1 rfl)
                  · skip
                    replace h := cF hc5 h
                    refine SX.exit ?_
                    refine SQ.thnE ?_
                    refine SQ.lpE ?_
                    refine SQ.blkE ?_
                    exact SQ.midD a11 h (by repeat' (first | exact trivial | refine And.intro rfl ?_)) (fun _ hw => HpOk.pick (H := [_]) hw [0] 1 rfl)
                · skip
                  unfold f_slices_partitionOrdered_uint32_j5 at h
                  refine SX.re [(0, v0_), (1, vI p1), (10, vI a8), (11, vI a10)] (rowT 32 1 v0_ eU32 l8 :: H) ?_ (by repeat' (first | exact trivial | refine And.intro rfl ?_))
                  refine SX.seq ?_
                  refine SX.sr ?_
                  refine SL.mv ⟨rfl, rfl, rfl, rfl⟩ rfl ?_
                  refine SL.mv ⟨rfl, rfl, rfl, rfl⟩ rfl ?_
                  refine SL.bin ⟨rfl, rfl, rfl, rfl⟩ rfl rfl Bin.gtI ?_
                  refine SL.nx ?_
                  refine SX.cond rfl (fun hc6 => ?_) (fun hc6 => ?_)
                  · skip
                    replace h := cT hc6 h
                    refine SX.exit ?_
                    refine SQ.thnE ?_
                    refine SQ.blkO ?_
                    refine SQ.lpE ?_
                    refine SQ.blkE ?_
                    exact SQ.midD (l8, a10) h (by repeat' (first | exact trivial | refine And.intro rfl ?_)) (fun _ hw => HpOk.pick (H := [_]) hw [0] 1 rfl)
                  · skip
                    replace h := cF hc6 h
                    refine SX.skip ?_
                    refine SQ.thn ?_
                    refine SX.seq ?_
                    obtain ⟨x29, hx29, h⟩ := bnd h
                    obtain ⟨x30, hx30, h⟩ := bnd h
                    obtain ⟨x31, hx31, h⟩ := bnd h
                    obtain ⟨l9, hl9, h⟩ := bnd h
                    obtain ⟨x32, hx32, h⟩ := bnd h
                    obtain ⟨l10, hl10, h⟩ := bnd h
                    refine SX.drawI mix [] (Pl.ap [(true, 0), (true, 1), (true, 2), (true, 3), (true, 4), (true, 5), (true, 6), (true, 8), (true, 9), (true, 10)] (.alt 7 (Pl.ap [(false, 11), (true, 12), (false, 13), (true, 14)] (.last 15 .nil)) (.cons (false, 11) (Pl.ap [(false, 7), (true, 12), (false, 13), (true, 14)] (.last 15 .nil))))) (by kernel_rfl) ?_
                    refine SL.mv ⟨rfl, rfl, rfl, rfl⟩ rfl ?_
                    refine SL.mv ⟨rfl, rfl, rfl, rfl⟩ rfl ?_
                    refine SL.mv ⟨rfl, rfl, rfl, rfl⟩ rfl ?_
                    refine SL.mv ⟨rfl, rfl, rfl, rfl⟩ rfl ?_
                    refine SL.mv ⟨rfl, rfl, rfl, rfl⟩ rfl ?_
                    refine SL.mv ⟨rfl, rfl, rfl, rfl⟩ rfl ?_
                    refine SL.iaT 0 hx29 ⟨rfl, rfl, rfl, rfl⟩ ty90 sz32 rfl rfl rfl fun g21 m26 cp21 hv21 => ?_
                    refine SL.mv ⟨rfl, rfl, rfl, rfl⟩ rfl ?_
                    refine SL.mv ⟨rfl, rfl, rfl, rfl⟩ rfl ?_
                    refine SL.iaT 0 hx30 ⟨rfl, rfl, rfl, rfl⟩ ty90 sz32 rfl rfl rfl fun g22 m27 cp22 hv22 => ?_
                    refine SL.two ?_ ?_
                    · skip
                      refine SL.ld ⟨rfl, rfl, rfl, rfl⟩ sc32 rfl (cell_rowT (sz := 1) (enc := eU32) 0 0 (fun _ => rfl) rfl hv21 hx29 rfl) ?_
                      refine SL.ld ⟨rfl, rfl, rfl, rfl⟩ sc32 rfl (cell_rowT (sz := 1) (enc := eU32) 0 0 (fun _ => rfl) rfl hv22 hx30 rfl) ?_
                      refine SL.iaT 0 hx31 ⟨rfl, rfl, rfl, rfl⟩ ty90 sz32 rfl rfl rfl fun g23 m28 cp23 hv23 => ?_
                      refine SL.stTN (sz := 1) (enc := eU32) 0 hl9 (fun _ => rfl) ⟨rfl, rfl, rfl⟩ rfl rfl rfl rfl hv23 sz32 (by simp [Value.oneCell']) trivial ?_
                      refine SL.iaT 0 hx32 ⟨rfl, rfl, rfl, rfl⟩ ty90 sz32 rfl rfl rfl fun g24 m29 cp24 hv24 => ?_
                      refine SL.last ?_
                      refine SL.stTN (sz := 1) (enc := eU32) 0 hl10 (fun _ => rfl) ⟨rfl, rfl, rfl⟩ rfl rfl rfl rfl hv24 sz32 (by simp [Value.oneCell']) trivial ?_
                      refine SL.nx ?_
                      refine SX.sr ?_
                      obtain ⟨x33, ex33, h⟩ := retE h
                      refine SL.mv ⟨rfl, rfl, rfl, rfl⟩ rfl ?_
                      refine SL.bin ⟨rfl, rfl, rfl, rfl⟩ rfl rfl Bin.addW ?_
                      refine SL.asgX (u := vI x33) ⟨rfl, rfl, rfl, rfl⟩ rfl (congrArg vI ex33) ?_
                      refine SL.nx ?_
                      refine SX.region ?_
                      obtain ⟨x34, ex34, h⟩ := retE h
                      refine SL.mv ⟨rfl, rfl, rfl, rfl⟩ rfl ?_
                      refine SL.bin ⟨rfl, rfl, rfl, rfl⟩ rfl rfl Bin.subW ?_
                      refine SL.asgX (u := vI x34) ⟨rfl, rfl, rfl, rfl⟩ rfl (congrArg vI ex34) ?_
                      refine SL.nil ?_
                      refine SQ.blk ?_
                      exact SQ.again (m19, l10, x33, x34) h (Nat.lt_succ_self _) (by repeat' (first | exact trivial | refine And.intro rfl ?_)) (fun _ hw => HpOk.pick (H := [_]) hw [0] 1 rfl)
                    · skip
                      refine SL.ld ⟨rfl, rfl, rfl, rfl⟩ sc32 rfl (cell_rowT (sz := 1) (enc := eU32) 0 0 (fun _ => rfl) rfl hv22 hx30 rfl) ?_
                      refine SL.ld ⟨rfl, rfl, rfl, rfl⟩ sc32 rfl (cell_rowT (sz := 1) (enc := eU32) 0 0 (fun _ => rfl) rfl hv21 hx29 rfl) ?_
                      refine SL.iaT 0 hx31 ⟨rfl, rfl, rfl, rfl⟩ ty90 sz32 rfl rfl rfl fun g23 m28 cp23 hv23 => ?_
                      refine SL.stTN (sz := 1) (enc := eU32) 0 hl9 (fun _ => rfl) ⟨rfl, rfl, rfl⟩ rfl rfl rfl rfl hv23 sz32 (by simp [Value.oneCell']) trivial ?_
                      refine SL.iaT 0 hx32 ⟨rfl, rfl, rfl, rfl⟩ ty90 sz32 rfl rfl rfl fun g24 m29 cp24 hv24 => ?_
                      refine SL.last ?_
                      refine SL.stTN (sz := 1) (enc := eU32) 0 hl10 (fun _ => rfl) ⟨rfl, rfl, rfl⟩ rfl rfl rfl rfl hv24 sz32 (by simp [Value.oneCell']) trivial ?_
                      refine SL.nx ?_
                      refine SX.sr ?_
                      obtain ⟨x33, ex33, h⟩ := retE h
                      refine SL.mv ⟨rfl, rfl, rfl, rfl⟩ rfl ?_
                      refine SL.bin ⟨rfl, rfl, rfl, rfl⟩ rfl rfl Bin.addW ?_
                      refine SL.asgX (u := vI x33) ⟨rfl, rfl, rfl, rfl⟩ rfl (congrArg vI ex33) ?_
                      refine SL.nx ?_
                      refine SX.region ?_
                      obtain ⟨x34, ex34, h⟩ := retE h
                      refine SL.mv ⟨rfl, rfl, rfl, rfl⟩ rfl ?_
                      refine SL.bin ⟨rfl, rfl, rfl, rfl⟩ rfl rfl Bin.subW ?_
                      refine SL.asgX (u := vI x34) ⟨rfl, rfl, rfl, rfl⟩ rfl (congrArg vI ex34) ?_
                      refine SL.nil ?_
                      refine SQ.blk ?_
                      exact SQ.again (m19, l10, x33, x34) h (Nat.lt_succ_self _) (by repeat' (first | exact trivial | refine And.intro rfl ?_)) (fun _ hw => HpOk.pick (H := [_]) hw [0] 1 rfl)
            · skip
              obtain ⟨l7, a5⟩ := x
              dsimp only at h
              unfold f_slices_partitionOrdered_uint32_j3 at h
              refine SX.re [(0, v0_), (1, vI p1), (11, vI a5)] (rowT 32 1 v0_ eU32 l7 :: H) ?_ (by repeat' (first | exact trivial | refine And.intro rfl ?_))
              refine SX.seq ?_
              obtain ⟨x35, hx35, h⟩ := bnd h
              obtain ⟨x36, hx36, h⟩ := bnd h
              obtain ⟨x37, hx37, h⟩ := bnd h
              obtain ⟨l11, hl11, h⟩ := bnd h
              obtain ⟨x38, hx38, h⟩ := bnd h
              obtain ⟨l12, hl12, h⟩ := bnd h
              refine SX.drawI mix [] (Pl.ap [(true, 0), (true, 1), (true, 2), (true, 3), (true, 4), (true, 5), (true, 6), (true, 8), (true, 9), (true, 10)] (.alt 7 (Pl.ap [(false, 11), (true, 12), (false, 13), (true, 14)] (.last 15 .nil)) (.cons (false, 11) (Pl.ap [(false, 7), (true, 12), (false, 13), (true, 14)] (.last 15 .nil))))) (by kernel_rfl) ?_
              refine SL.mv ⟨rfl, rfl, rfl, rfl⟩ rfl ?_
              refine SL.mv ⟨rfl, rfl, rfl, rfl⟩ rfl ?_
              refine SL.mv ⟨rfl, rfl, rfl, rfl⟩ rfl ?_
              refine SL.mv ⟨rfl, rfl, rfl, rfl⟩ rfl ?_
              refine SL.mv ⟨rfl, rfl, rfl, rfl⟩ rfl ?_
              refine SL.mv ⟨rfl, rfl, rfl, rfl⟩ rfl ?_
              refine SL.iaT 0 hx35 ⟨rfl, rfl, rfl, rfl⟩ ty90 sz32 rfl rfl rfl fun g25 m30 cp25 hv25 => ?_
              refine SL.mv ⟨rfl, rfl, rfl, rfl⟩ rfl ?_
              refine SL.mv ⟨rfl, rfl, rfl, rfl⟩ rfl ?_
              refine SL.iaT 0 hx36 ⟨rfl, rfl, rfl, rfl⟩ ty90 sz32 rfl rfl rfl fun g26 m31 cp26 hv26 => ?_
              refine SL.two ?_ ?_
              · skip
                refine SL.ld ⟨rfl, rfl, rfl, rfl⟩ sc32 rfl (cell_rowT (sz := 1) (enc := eU32) 0 0 (fun _ => rfl) rfl hv25 hx35 rfl) ?_
                refine SL.ld ⟨rfl, rfl, rfl, rfl⟩ sc32 rfl (cell_rowT (sz := 1) (enc := eU32) 0 0 (fun _ => rfl) rfl hv26 hx36 rfl) ?_
                refine SL.iaT 0 hx37 ⟨rfl, rfl, rfl, rfl⟩ ty90 sz32 rfl rfl rfl fun g27 m32 cp27 hv27 => ?_
                refine SL.stTN (sz := 1) (enc := eU32) 0 hl11 (fun _ => rfl) ⟨rfl, rfl, rfl⟩ rfl rfl rfl rfl hv27 sz32 (by simp [Value.oneCell']) trivial ?_
                refine SL.iaT 0 hx38 ⟨rfl, rfl, rfl, rfl⟩ ty90 sz32 rfl rfl rfl fun g28 m33 cp28 hv28 => ?_
                refine SL.last ?_
                refine SL.stTN (sz := 1) (enc := eU32) 0 hl12 (fun _ => rfl) ⟨rfl, rfl, rfl⟩ rfl rfl rfl rfl hv28 sz32 (by simp [Value.oneCell']) trivial ?_
                refine SL.nx ?_
                refine SX.sr ?_
                refine SL.mv ⟨rfl, rfl, rfl, rfl⟩ rfl ?_
                refine SL.asg ⟨rfl, rfl, rfl, rfl⟩ rfl ?_
                refine SL.asg ⟨rfl, rfl, rfl, rfl⟩ rfl ?_
                refine SL.nx ?_
                refine SX.ret ?_
                obtain rfl := Option.some.inj h
                exact SQ.fret (res2 rfl rfl rfl) (ret_of (M := [_]) ⟨rfl, rfl⟩ fun _ hw => HpOk.pick (H := [_]) hw [0] 1 rfl)
              · skip
                refine SL.ld ⟨rfl, rfl, rfl, rfl⟩ sc32 rfl (cell_rowT (sz := 1) (enc := eU32) 0 0 (fun _ => rfl) rfl hv26 hx36 rfl) ?_
                refine SL.ld ⟨rfl, rfl, rfl, rfl⟩ sc32 rfl (cell_rowT (sz := 1) (enc := eU32) 0 0 (fun _ => rfl) rfl hv25 hx35 rfl) ?_
                refine SL.iaT 0 hx37 ⟨rfl, rfl, rfl, rfl⟩ ty90 sz32 rfl rfl rfl fun g27 m32 cp27 hv27 => ?_
                refine SL.stTN (sz := 1) (enc := eU32) 0 hl11 (fun _ => rfl) ⟨rfl, rfl, rfl⟩ rfl rfl rfl rfl hv27 sz32 (by simp [Value.oneCell']) trivial ?_
                refine SL.iaT 0 hx38 ⟨rfl, rfl, rfl, rfl⟩ ty90 sz32 rfl rfl rfl fun g28 m33 cp28 hv28 => ?_
                refine SL.last ?_
                refine SL.stTN (sz := 1) (enc := eU32) 0 hl12 (fun _ => rfl) ⟨rfl, rfl, rfl⟩ rfl rfl rfl rfl hv28 sz32 (by simp [Value.oneCell']) trivial ?_
                refine SL.nx ?_
                refine SX.sr ?_
                refine SL.mv ⟨rfl, rfl, rfl, rfl⟩ rfl ?_
                refine SL.asg ⟨rfl, rfl, rfl, rfl⟩ rfl ?_
                refine SL.asg ⟨rfl, rfl, rfl, rfl⟩ rfl ?_
                refine SL.nx ?_
                refine SX.ret ?_
                obtain rfl := Option.some.inj h
                exact SQ.fret (res2 rfl rfl rfl) (ret_of (M := [_]) ⟨rfl, rfl⟩ fun _ hw => HpOk.pick (H := [_]) hw [0] 1 rfl)
          · skip
            refine SL.ld ⟨rfl, rfl, rfl, rfl⟩ sc32 rfl (cell_rowT (sz := 1) (enc := eU32) 0 0 (fun _ => rfl) rfl hv14 hx18 rfl) ?_
            refine SL.ld ⟨rfl, rfl, rfl, rfl⟩ sc32 rfl (cell_rowT (sz := 1) (enc := eU32) 0 0 (fun _ => rfl) rfl hv13 hx17 rfl) ?_
            refine SL.iaT 0 hx19 ⟨rfl, rfl, rfl, rfl⟩ ty90 sz32 rfl rfl rfl fun g15 m17 cp15 hv15 => ?_
            refine SL.stTN (sz := 1) (enc := eU32) 0 hl5 (fun _ => rfl) ⟨rfl, rfl, rfl⟩ rfl rfl rfl rfl hv15 sz32 (by simp [Value.oneCell']) trivial ?_
            refine SL.iaT 0 hx20 ⟨rfl, rfl, rfl, rfl⟩ ty90 sz32 rfl rfl rfl fun g16 m18 cp16 hv16 => ?_
            refine SL.last ?_
            refine SL.stTN (sz := 1) (enc := eU32) 0 hl6 (fun _ => rfl) ⟨rfl, rfl, rfl⟩ rfl rfl rfl rfl hv16 sz32 (by simp [Value.oneCell']) trivial ?_
            refine SL.nx ?_
            refine SX.sr ?_
            obtain ⟨x21, ex21, h⟩ := retE h
            refine SL.mv ⟨rfl, rfl, rfl, rfl⟩ rfl ?_
            refine SL.bin ⟨rfl, rfl, rfl, rfl⟩ rfl rfl Bin.addW ?_
            refine SL.asgX (u := vI x21) ⟨rfl, rfl, rfl, rfl⟩ rfl (congrArg vI ex21) ?_
            refine SL.nx ?_
            refine SX.sr ?_
            obtain ⟨x22, ex22, h⟩ := retE h
            refine SL.mv ⟨rfl, rfl, rfl, rfl⟩ rfl ?_
            refine SL.bin ⟨rfl, rfl, rfl, rfl⟩ rfl rfl Bin.subW ?_
            refine SL.asgX (u := vI x22) ⟨rfl, rfl, rfl, rfl⟩ rfl (congrArg vI ex22) ?_
            refine SL.nx ?_
            refine SX.meetD (α := List UInt32 × Int) (fun x => f_slices_partitionOrdered_uint32_j3 p1 x.1 x.2 = some r) (fun x => [(0, v0_), (1, vI p1), (11, vI x.2)]) (fun x => rowT 32 1 v0_ eU32 x.1 :: H) ?_ (fun x D h => ?_)
            · skip
              refine SX.block ?_
              refine SX.heap (SX.mono (SX.loop (α := Nat × List UInt32 × Int × Int) (fun x => f_slices_partitionOrdered_uint32_l3 n p1 x.1 (x.2.1, x.2.2.1, x.2.2.2) = some r) (fun x => [(0, v0_), (1, vI p1), (10, vI x.2.2.1), (11, vI x.2.2.2)]) (fun x => rowT 32 1 v0_ eU32 x.2.1 :: H) (fun x => x.1) (fun x D h => ?_) (n, l6, x21, x22) h) (by repeat' (first | exact trivial | refine And.intro rfl ?_))) (fun _ hw => HpOk.pick (H := [_]) hw [0] 1 rfl)
              obtain ⟨m19, l8, a6, a7⟩ := x
              dsimp only at h
              rcases m19 with _ | m19
              · cases (show (none : Option _) = some r from h)
              replace h : f_slices_partitionOrdered_uint32_l3_b n p1 (f_slices_partitionOrdered_uint32_l3 n p1 m19) l8 a6 a7 = some r := h
              unfold f_slices_partitionOrdered_uint32_l3_b at h
              refine SX.re [(0, v0_), (1, vI p1), (10, vI a6), (11, vI a7)] (rowT 32 1 v0_ eU32 l8 :: H) ?_ (by repeat' (first | exact trivial | refine And.intro rfl ?_))
              refine SX.block ?_
              refine SX.meetD (α := Int) (fun x => f_slices_partitionOrdered_uint32_j4 n p1 l8 a7 (f_slices_partitionOrdered_uint32_l3 n p1 m19) x = some r) (fun x => [(0, v0_), (1, vI p1), (10, vI x), (11, vI a7)]) (fun x => rowT 32 1 v0_ eU32 l8 :: H) ?_ (fun a8 D h => ?_)
              · skip
                refine SX.block ?_
                refine SX.heap (SX.mono (SX.loop (α := Nat × Int) (fun x => f_slices_partitionOrdered_uint32_l4 n p1 l8 a7 (f_slices_partitionOrdered_uint32_l3 n p1 m19) x.1 x.2 = some r) (fun x => [(0, v0_), (1, vI p1), (10, vI x.2), (11, vI a7)]) (fun x => rowT 32 1 v0_ eU32 l8 :: H) (fun x => x.1) (fun x D h => ?_) (n, a6) h) (by repeat' (first | exact trivial | refine And.intro rfl ?_))) (fun _ hw => HpOk.pick (H := [_]) hw [0] 1 rfl)
                obtain ⟨m20, a9⟩ := x
                dsimp only at h
                rcases m20 with _ | m20
                · cases (show (none : Option _) = some r from h)
                replace h : f_slices_partitionOrdered_uint32_l4_b n p1 l8 a7 (f_slices_partitionOrdered_uint32_l3 n p1 m19) (f_slices_partitionOrdered_uint32_l4 n p1 l8 a7 (f_slices_partitionOrdered_uint32_l3 n p1 m19) m20) a9 = some r := h
                unfold f_slices_partitionOrdered_uint32_l4_b at h
                refine SX.re [(0, v0_), (1, vI p1), (10, vI a9), (11, vI a7)] (rowT 32 1 v0_ eU32 l8 :: H) ?_ (by repeat' (first | exact trivial | refine And.intro rfl ?_))
                refine SX.seq ?_
                refine SX.seq ?_
                obtain ⟨y6, hy6, h⟩ := bnd h
                refine SX.drawI mix [0] (Pl.of [(true, 0), (true, 1), (true, 2), (true, 3), (true, 4), (true, 5), (true, 6), (true, 7), (true, 8), (true, 9), (true, 10), (true, 11), (false, 12), (false, 13)]) (by kernel_rfl) ?_
                refine SL.mv ⟨rfl, rfl, rfl, rfl⟩ rfl ?_
                refine SL.mv ⟨rfl, rfl, rfl, rfl⟩ rfl ?_
                refine SL.bin ⟨rfl, rfl, rfl, rfl⟩ rfl rfl Bin.leI ?_
                refine SL.mv ⟨rfl, rfl, rfl, rfl⟩ rfl ?_
                refine SL.andN 102 10 112 hy6 rfl (fun hb hg3 k => ?_) (fun hb k => ?_) ?_
                · skip
                  obtain ⟨x23, hx23, hg3⟩ := bnd hg3
                  obtain ⟨x24, hx24, hg3⟩ := bnd hg3
                  obtain ⟨y5, hy5, hg3⟩ := bnd hg3
                  obtain rfl := Option.some.inj hg3
                  refine SL.mv ⟨rfl, rfl, rfl, rfl⟩ rfl ?_
                  refine SL.mv ⟨rfl, rfl, rfl, rfl⟩ rfl ?_
                  refine SL.iaT 0 hx23 ⟨rfl, rfl, rfl, rfl⟩ ty90 sz32 rfl rfl rfl fun g17 m21 cp17 hv17 => ?_
                  refine SL.ld ⟨rfl, rfl, rfl, rfl⟩ sc32 rfl (cell_rowT (sz := 1) (enc := eU32) 0 0 (fun _ => rfl) rfl hv17 hx23 rfl) ?_
                  refine SL.mv ⟨rfl, rfl, rfl, rfl⟩ rfl ?_
                  refine SL.mv ⟨rfl, rfl, rfl, rfl⟩ rfl ?_
                  refine SL.iaT 0 hx24 ⟨rfl, rfl, rfl, rfl⟩ ty90 sz32 rfl rfl rfl fun g18 m22 cp18 hv18 => ?_
                  refine SL.ld ⟨rfl, rfl, rfl, rfl⟩ sc32 rfl (cell_rowT (sz := 1) (enc := eU32) 0 0 (fun _ => rfl) rfl hv18 hx24 rfl) ?_
                  refine SL.call (vs := [_, _]) (Hin := []) (Hr := _ :: _) ⟨rfl, rfl, rfl, rfl⟩ rfl ⟨rfl, rfl, trivial⟩ cal66 rfl rfl (c_cmp_Less_uint32 hy5) ?_
                  rintro _ _ ⟨rfl, rfl⟩
                  refine ⟨⟨⟨0, rfl⟩, trivial⟩, ?_⟩
                  refine SL.pk ⟨rfl, rfl, rfl, rfl⟩ rfl rfl ?_
                  exact k.mono (by repeat' (first | exact trivial | refine And.intro rfl ?_))
                · skip
                  refine SL.pass rfl rfl rfl ?_
                  refine SL.pass rfl rfl rfl ?_
                  refine SL.pass rfl rfl rfl ?_
                  refine SL.pass rfl rfl rfl ?_
                  refine SL.pass rfl rfl rfl ?_
                  refine SL.pass rfl rfl rfl ?_
                  refine SL.pass rfl rfl rfl ?_
                  refine SL.pass rfl rfl rfl ?_
                  refine SL.pass rfl rfl rfl ?_
                  refine SL.pk ⟨rfl, rfl, rfl, rfl⟩ rfl rfl ?_
                  exact k.mono (by repeat' (first | exact trivial | refine And.intro rfl ?_))
                refine SL.nx ?_
                refine SX.cond rfl (fun hc4 => ?_) (fun hc4 => ?_)
                · skip
                  replace h := cT hc4 h
                  refine SX.skip ?_
                  refine SQ.thn ?_
                  refine SX.block ?_
                  refine SX.region ?_
                  obtain ⟨x25, ex25, h⟩ := retE h
                  refine SL.mv ⟨rfl, rfl, rfl, rfl⟩ rfl ?_
                  refine SL.bin ⟨rfl, rfl, rfl, rfl⟩ rfl rfl Bin.addW ?_
                  refine SL.asgX (u := vI x25) ⟨rfl, rfl, rfl, rfl⟩ rfl (congrArg vI ex25) ?_
                  refine SL.nil ?_
                  refine SQ.blk ?_
                  exact SQ.again (m20, x25) h (Nat.lt_succ_self _) (by repeat' (first | exact trivial | refine And.intro rfl ?_)) (fun _ hw => HpOk.pick (H := [_]) hw [0] 1 rfl)
                · skip
                  replace h := cF hc4 h
                  refine SX.exit ?_
                  refine SQ.thnE ?_
                  refine SQ.lpE ?_
                  refine SQ.blkE ?_
                  exact SQ.midD a9 h (by repeat' (first | exact trivial | refine And.intro rfl ?_)) (fun _ hw => HpOk.pick (H := [_]) hw [0] 1 rfl)
              · skip
                unfold f_slices_partitionOrdered_uint32_j4 at h
                refine SX.re [(0, v0_), (1, vI p1), (10, vI a8), (11, vI a7)] (rowT 32 1 v0_ eU32 l8 :: H) ?_ (by repeat' (first | exact trivial | refine And.intro rfl ?_))
                refine SX.meetD (α := Int) (fun x => f_slices_partitionOrdered_uint32_j5 p1 l8 a8 (f_slices_partitionOrdered_uint32_l3 n p1 m19) x = some r) (fun x => [(0, v0_), (1, vI p1), (10, vI a8), (11, vI x)]) (fun x => rowT 32 1 v0_ eU32 l8 :: H) ?_ (fun a10 D h => ?_)
                · skip
                  refine SX.block ?_
                  refine SX.heap (SX.mono (SX.loop (α := Nat × Int) (fun x => f_slices_partitionOrdered_uint32_l5 p1 l8 a8 (f_slices_partitionOrdered_uint32_l3 n p1 m19) x.1 x.2 = some r) (fun x => [(0, v0_), (1, vI p1), (10, vI a8), (11, vI x.2)]) (fun x => rowT 32 1 v0_ eU32 l8 :: H) (fun x => x.1) (fun x D h => ?_) (n, a7) h) (by repeat' (first | exact trivial | refine And.intro rfl ?_))) (fun _ hw => HpOk.pick (H := [_]) hw [0] 1 rfl)
                  obtain ⟨m23, a11⟩ := x
                  dsimp only at h
                  rcases m23 with _ | m23
                  · cases (show (none : Option _) = some r from h)
                  replace h : f_slices_partitionOrdered_uint32_l5_b p1 l8 a8 (f_slices_partitionOrdered_uint32_l3 n p1 m19) (f_slices_partitionOrdered_uint32_l5 p1 l8 a8 (f_slices_partitionOrdered_uint32_l3 n p1 m19) m23) a11 = some r := h
                  unfold f_slices_partitionOrdered_uint32_l5_b at h
                  refine SX.re [(0, v0_), (1, vI p1), (10, vI a8), (11, vI a11)] (rowT 32 1 v0_ eU32 l8 :: H) ?_ (by repeat' (first | exact trivial | refine And.intro rfl ?_))
                  refine SX.seq ?_
                  refine SX.seq ?_
                  obtain ⟨y8, hy8, h⟩ := bnd h
                  refine SX.drawI mix [0] (Pl.of [(true, 0), (true, 1), (true, 2), (true, 3), (true, 4), (true, 5), (true, 6), (true, 7), (true, 8), (true, 9), (true, 10), (true, 11), (false, 12), (false, 13), (false, 14)]) (by kernel_rfl) ?_
                  refine SL.mv ⟨rfl, rfl, rfl, rfl⟩ rfl ?_
                  refine SL.mv ⟨rfl, rfl, rfl, rfl⟩ rfl ?_
                  refine SL.bin ⟨rfl, rfl, rfl, rfl⟩ rfl rfl Bin.leI ?_
                  refine SL.mv ⟨rfl, rfl, rfl, rfl⟩ rfl ?_
                  refine SL.andN 118 11 129 hy8 rfl (fun hb hg4 k => ?_) (fun hb k => ?_) ?_
                  · skip
                    obtain ⟨x26, hx26, hg4⟩ := bnd hg4
                    obtain ⟨x27, hx27, hg4⟩ := bnd hg4
                    obtain ⟨y7, hy7, hg4⟩ := bnd hg4
                    obtain rfl := Option.some.inj hg4
                    refine SL.mv ⟨rfl, rfl, rfl, rfl⟩ rfl ?_
                    refine SL.mv ⟨rfl, rfl, rfl, rfl⟩ rfl ?_
                    refine SL.iaT 0 hx26 ⟨rfl, rfl, rfl, rfl⟩ ty90 sz32 rfl rfl rfl fun g19 m24 cp19 hv19 => ?_
                    refine SL.ld ⟨rfl, rfl, rfl, rfl⟩ sc32 rfl (cell_rowT (sz := 1) (enc := eU32) 0 0 (fun _ => rfl) rfl hv19 hx26 rfl) ?_
                    refine SL.mv ⟨rfl, rfl, rfl, rfl⟩ rfl ?_
                    refine SL.mv ⟨rfl, rfl, rfl, rfl⟩ rfl ?_
                    refine SL.iaT 0 hx27 ⟨rfl, rfl, rfl, rfl⟩ ty90 sz32 rfl rfl rfl fun g20 m25 cp20 hv20 => ?_
                    refine SL.ld ⟨rfl, rfl, rfl, rfl⟩ sc32 rfl (cell_rowT (sz := 1) (enc := eU32) 0 0 (fun _ => rfl) rfl hv20 hx27 rfl) ?_
                    refine SL.call (vs := [_, _]) (Hin := []) (Hr := _ :: _) ⟨rfl, rfl, rfl, rfl⟩ rfl ⟨rfl, rfl, trivial⟩ cal66 rfl rfl (c_cmp_Less_uint32 hy7) ?_
                    rintro _ _ ⟨rfl, rfl⟩
                    refine ⟨⟨⟨0, rfl⟩, trivial⟩, ?_⟩
                    refine SL.not ⟨rfl, rfl, rfl, rfl⟩ rfl ?_
                    refine SL.pk ⟨rfl, rfl, rfl, rfl⟩ rfl rfl ?_
                    exact k.mono (by repeat' (first | exact trivial | refine And.intro rfl ?_))
                  · skip
                    refine SL.pass rfl rfl rfl ?_
                    refine SL.pass rfl rfl rfl ?_
                    refine SL.pass rfl rfl rfl ?_
                    refine SL.pass rfl rfl rfl ?_
                    refine SL.pass rfl rfl rfl ?_
                    refine SL.pass rfl rfl rfl ?_
                    refine SL.pass rfl rfl rfl ?_
                    refine SL.pass rfl rfl rfl ?_
                    refine SL.pass rfl rfl rfl ?_
                    refine SL.pass rfl rfl rfl ?_
                    refine SL.pk ⟨rfl, rfl, rfl, rfl⟩ rfl rfl ?_
                    exact k.mono (by repeat' (first | exact trivial | refine And.intro rfl ?_))
                  refine SL.nx ?_
                  refine SX.cond rfl (fun hc5 => ?_) (fun hc5 => ?_)
                  · skip
                    replace h := cT hc5 h
                    refine SX.skip ?_
                    refine SQ.thn ?_
                    refine SX.block ?_
                    refine SX.region ?_
                    obtain ⟨x28, ex28, h⟩ := retE h
                    refine SL.mv ⟨rfl, rfl, rfl, rfl⟩ rfl ?_
                    refine SL.bin ⟨rfl, rfl, rfl, rfl⟩ rfl rfl Bin.subW ?_
                    refine SL.asgX (u := vI x28) ⟨rfl, rfl, rfl, rfl⟩ rfl (congrArg vI ex28) ?_
                    refine SL.nil ?_
                    refine SQ.blk ?_
                    exact SQ.again (m23, x28) h (Nat.lt_succ_self _) (by repeat' (first | exact trivial | refine And.intro rfl ?_)) (fun _ hw => HpOk.pick (H := [_]) hw [0] 1 rfl)
                  · skip
                    replace h := cF hc5 h
                    refine SX.exit ?_
                    refine SQ.thnE ?_
                    refine SQ.lpE ?_
                    refine SQ.blkE ?_
                    exact SQ.midD a11 h (by repeat' (first | exact trivial | refine And.intro rfl ?_)) (fun _ hw => HpOk.pick (H := [_]) hw [0] 1 rfl)
                · skip
                  unfold f_slices_partitionOrdered_uint32_j5 at h
                  refine SX.re [(0, v0_), (1, vI p1), (10, vI a8), (11, vI a10)] (rowT 32 1 v0_ eU32 l8 :: H) ?_ (by repeat' (first | exact trivial | refine And.intro rfl ?_))
                  refine SX.seq ?_
                  refine SX.sr ?_
                  refine SL.mv ⟨rfl, rfl, rfl, rfl⟩ rfl ?_
                  refine SL.mv ⟨rfl, rfl, rfl, rfl⟩ rfl ?_
                  refine SL.bin ⟨rfl, rfl, rfl, rfl⟩ rfl rfl Bin.gtI ?_
                  refine SL.nx ?_
                  refine SX.cond rfl (fun hc6 => ?_) (fun hc6 => ?_)
                  · skip
                    replace h := cT hc6 h
                    refine SX.exit ?_
                    refine SQ.thnE ?_
                    refine SQ.blkO ?_
                    refine SQ.lpE ?_
                    refine SQ.blkE ?_
                    exact SQ.midD (l8, a10) h (by repeat' (first | exact trivial | refine And.intro rfl ?_)) (fun _ hw => HpOk.pick (H := [_]) hw [0] 1 rfl)
                  · skip
                    replace h := cF hc6 h
                    refine SX.skip ?_
                    refine SQ.thn ?_
                    refine SX.seq ?_
                    obtain ⟨x29, hx29, h⟩ := bnd h
                    obtain ⟨x30, hx30, h⟩ := bnd h
                    obtain ⟨x31, hx31, h⟩ := bnd h
                    obtain ⟨l9, hl9, h⟩ := bnd h
                    obtain ⟨x32, hx32, h⟩ := bnd h
                    obtain ⟨l10, hl10, h⟩ := bnd h
                    refine SX.drawI mix [] (Pl.ap [(true, 0), (true, 1), (true, 2), (true, 3), (true, 4), (true, 5), (true, 6), (true, 8), (true, 9), (true, 10)] (.alt 7 (Pl.ap [(false, 11), (true, 12), (false, 13), (true, 14)] (.last 15 .nil)) (.cons (false, 11) (Pl.ap [(false, 7), (true, 12), (false, 13), (true, 14)] (.last 15 .nil))))) (by kernel_rfl) ?_
                    refine SL.mv ⟨rfl, rfl, rfl, rfl⟩ rfl ?_
                    refine SL.mv ⟨rfl, rfl, rfl, rfl⟩ rfl ?_
                    refine SL.mv ⟨rfl, rfl, rfl, rfl⟩ rfl ?_
                    refine SL.mv ⟨rfl, rfl, rfl, rfl⟩ rfl ?_
                    refine SL.mv ⟨rfl, rfl, rfl, rfl⟩ rfl ?_
                    refine SL.mv ⟨rfl, rfl, rfl, rfl⟩ rfl ?_
                    refine SL.iaT 0 hx29 ⟨rfl, rfl, rfl, rfl⟩ ty90 sz32 rfl rfl rfl fun g21 m26 cp21 hv21 => ?_
                    refine SL.mv ⟨rfl, rfl, rfl, rfl⟩ rfl ?_
                    refine SL.mv ⟨rfl, rfl, rfl, rfl⟩ rfl ?_
                    refine SL.iaT 0 hx30 ⟨rfl, rfl, rfl, rfl⟩ ty90 sz32 rfl rfl rfl fun g22 m27 cp22 hv22 => ?_
                    refine SL.two ?_ ?_
                    · skip
                      refine SL.ld ⟨rfl, rfl, rfl, rfl⟩ sc32 rfl (cell_rowT (sz := 1) (enc := eU32) 0 0 (fun _ => rfl) rfl hv21 hx29 rfl) ?_
                      refine SL.ld ⟨rfl, rfl, rfl, rfl⟩ sc32 rfl (cell_rowT (sz := 1) (enc := eU32) 0 0 (fun _ => rfl) rfl hv22 hx30 rfl) ?_
                      refine SL.iaT 0 hx31 ⟨rfl, rfl, rfl, rfl⟩ ty90 sz32 rfl rfl rfl fun g23 m28 cp23 hv23 => ?_
                      refine SL.stTN (sz := 1) (enc := eU32) 0 hl9 (fun _ => rfl) ⟨rfl, rfl, rfl⟩ rfl rfl rfl rfl hv23 sz32 (by simp [Value.oneCell']) trivial ?_
                      refine SL.iaT 0 hx32 ⟨rfl, rfl, rfl, rfl⟩ ty90 sz32 rfl rfl rfl fun g24 m29 cp24 hv24 => ?_
                      refine SL.last ?_
                      refine SL.stTN (sz := 1) (enc := eU32) 0 hl10 (fun _ => rfl) ⟨rfl, rfl, rfl⟩ rfl rfl rfl rfl hv24 sz32 (by simp [Value.oneCell']) trivial ?_
                      refine SL.nx ?_
                      refine SX.sr ?_
                      obtain ⟨x33, ex33, h⟩ := retE h
                      refine SL.mv ⟨rfl, rfl, rfl, rfl⟩ rfl ?_
                      refine SL.bin ⟨rfl, rfl, rfl, rfl⟩ rfl rfl Bin.addW ?_
                      refine SL.asgX (u := vI x33) ⟨rfl, rfl, rfl, rfl⟩ rfl (congrArg vI ex33) ?_
                      refine SL.nx ?_
                      refine SX.region ?_
                      obtain ⟨x34, ex34, h⟩ := retE h
                      refine SL.mv ⟨rfl, rfl, rfl, rfl⟩ rfl ?_
                      refine SL.bin ⟨rfl, rfl, rfl, rfl⟩ rfl rfl Bin.subW ?_
                      refine SL.asgX (u := vI x34) ⟨rfl, rfl, rfl, rfl⟩ rfl (congrArg vI ex34) ?_
                      refine SL.nil ?_
                      refine SQ.blk ?_
                      exact SQ.again (m19, l10, x33, x34) h (Nat.lt_succ_self _) (by repeat' (first | exact trivial | refine And.intro rfl ?_)) (fun _ hw => HpOk.pick (H := [_]) hw [0] 1 rfl)
                    · skip
                      refine SL.ld ⟨rfl, rfl, rfl, rfl⟩ sc32 rfl (cell_rowT (sz := 1) (enc := eU32) 0 0 (fun _ => rfl) rfl hv22 hx30 rfl) ?_
                      refine SL.ld ⟨rfl, rfl, rfl, rfl⟩ sc32 rfl (cell_rowT (sz := 1) (enc := eU32) 0 0 (fun _ => rfl) rfl hv21 hx29 rfl) ?_
                      refine SL.iaT 0 hx31 ⟨rfl, rfl, rfl, rfl⟩ ty90 sz32 rfl rfl rfl fun g23 m28 cp23 hv23 => ?_
                      refine SL.stTN (sz := 1) (enc := eU32) 0 hl9 (fun _ => rfl) ⟨rfl, rfl, rfl⟩ rfl rfl rfl rfl hv23 sz32 (by simp [Value.oneCell']) trivial ?_
                      refine SL.iaT 0 hx32 ⟨rfl, rfl, rfl, rfl⟩ ty90 sz32 rfl rfl rfl fun g24 m29 cp24 hv24 => ?_
                      refine SL.last ?_
                      refine SL.stTN (sz := 1) (enc := eU32) 0 hl10 (fun _ => rfl) ⟨rfl, rfl, rfl⟩ rfl rfl rfl rfl hv24 sz32 (by simp [Value.oneCell']) trivial ?_
                      refine SL.nx ?_
                      refine SX.sr ?_
                      obtain ⟨x33, ex33, h⟩ := retE h
                      refine SL.mv ⟨rfl, rfl, rfl, rfl⟩ rfl ?_
                      refine SL.bin ⟨rfl, rfl, rfl, rfl⟩ rfl rfl Bin.addW ?_
                      refine SL.asgX (u := vI x33) ⟨rfl, rfl, rfl, rfl⟩ rfl (congrArg vI ex33) ?_
                      refine SL.nx ?_
                      refine SX.region ?_
                      obtain ⟨x34, ex34, h⟩ := retE h
                      refine SL.mv ⟨rfl, rfl, rfl, rfl⟩ rfl ?_
                      refine SL.bin ⟨rfl, rfl, rfl, rfl⟩ rfl rfl Bin.subW ?_
                      refine SL.asgX (u := vI x34) ⟨rfl, rfl, rfl, rfl⟩ rfl (congrArg vI ex34) ?_
                      refine SL.nil ?_
                      refine SQ.blk ?_
                      exact SQ.again (m19, l10, x33, x34) h (Nat.lt_succ_self _) (by repeat' (first | exact trivial | refine And.intro rfl ?_)) (fun _ hw => HpOk.pick (H := [_]) hw [0] 1 rfl)
            · skip
              obtain ⟨l7, a5⟩ := x
              dsimp only at h
              unfold f_slices_partitionOrdered_uint32_j3 at h
              refine SX.re [(0, v0_), (1, vI p1), (11, vI a5)] (rowT 32 1 v0_ eU32 l7 :: H) ?_ (by repeat' (first | exact trivial | refine And.intro rfl ?_))
              refine SX.seq ?_
              obtain ⟨x35, hx35, h⟩ := bnd h
              obtain ⟨x36, hx36, h⟩ := bnd h
              obtain ⟨x37, hx37, h⟩ := bnd h
              obtain ⟨l11, hl11, h⟩ := bnd h
              obtain ⟨x38, hx38, h⟩ := bnd h
              obtain ⟨l12, hl12, h⟩ := bnd h
              refine SX.drawI mix [] (Pl.ap [(true, 0), (true, 1), (true, 2), (true, 3), (true, 4), (true, 5), (true, 6), (true, 8), (true, 9), (true, 10)] (.alt 7 (Pl.ap [(false, 11), (true, 12), (false, 13), (true, 14)] (.last 15 .nil)) (.cons (false, 11) (Pl.ap [(false, 7), (true, 12), (false, 13), (true, 14)] (.last 15 .nil))))) (by kernel_rfl) ?_
              refine SL.mv ⟨rfl, rfl, rfl, rfl⟩ rfl ?_
              refine SL.mv ⟨rfl, rfl, rfl, rfl⟩ rfl ?_
              refine SL.mv ⟨rfl, rfl, rfl, rfl⟩ rfl ?_
              refine SL.mv ⟨rfl, rfl, rfl, rfl⟩ rfl ?_
              refine SL.mv ⟨rfl, rfl, rfl, rfl⟩ rfl ?_
              refine SL.mv ⟨rfl, rfl, rfl, rfl⟩ rfl ?_
              refine SL.iaT 0 hx35 ⟨rfl, rfl, rfl, rfl⟩ ty90 sz32 rfl rfl rfl fun g25 m30 cp25 hv25 => ?_
              refine SL.mv ⟨rfl, rfl, rfl, rfl⟩ rfl ?_
              refine SL.mv ⟨rfl, rfl, rfl, rfl⟩ rfl ?_
              refine SL.iaT 0 hx36 ⟨rfl, rfl, rfl, rfl⟩ ty90 sz32 rfl rfl rfl fun g26 m31 cp26 hv26 => ?_
              refine SL.two ?_ ?_
              · skip
                refine SL.ld ⟨rfl, rfl, rfl, rfl⟩ sc32 rfl (cell_rowT (sz := 1) (enc := eU32) 0 0 (fun _ => rfl) rfl hv25 hx35 rfl) ?_
                refine SL.ld ⟨rfl, rfl, rfl, rfl⟩ sc32 rfl (cell_rowT (sz := 1) (enc := eU32) 0 0 (fun _ => rfl) rfl hv26 hx36 rfl) ?_
                refine SL.iaT 0 hx37 ⟨rfl, rfl, rfl, rfl⟩ ty90 sz32 rfl rfl rfl fun g27 m32 cp27 hv27 => ?_
                refine SL.stTN (sz := 1) (enc := eU32) 0 hl11 (fun _ => rfl) ⟨rfl, rfl, rfl⟩ rfl rfl rfl rfl hv27 sz32 (by simp [Value.oneCell']) trivial ?_
                refine SL.iaT 0 hx38 ⟨rfl, rfl, rfl, rfl⟩ ty90 sz32 rfl rfl rfl fun g28 m33 cp28 hv28 => ?_
                refine SL.last ?_
                refine SL.stTN (sz := 1) (enc := eU32) 0 hl12 (fun _ => rfl) ⟨rfl, rfl, rfl⟩ rfl rfl rfl rfl hv28 sz32 (by simp [Value.oneCell']) trivial ?_
                refine SL.nx ?_
                refine SX.sr ?_
                refine SL.mv ⟨rfl, rfl, rfl, rfl⟩ rfl ?_
                refine SL.asg ⟨rfl, rfl, rfl, rfl⟩ rfl ?_
                refine SL.asg ⟨rfl, rfl, rfl, rfl⟩ rfl ?_
                refine SL.nx ?_
                refine SX.ret ?_
                obtain rfl := Option.some.inj h
                exact SQ.fret (res2 rfl rfl rfl) (ret_of (M := [_]) ⟨rfl, rfl⟩ fun _ hw => HpOk.pick (H := [_]) hw [0] 1 rfl)
              · skip
                refine SL.ld ⟨rfl, rfl, rfl, rfl⟩ sc32 rfl (cell_rowT (sz := 1) (enc := eU32) 0 0 (fun _ => rfl) rfl hv26 hx36 rfl) ?_
                refine SL.ld ⟨rfl, rfl, rfl, rfl⟩ sc32 rfl (cell_rowT (sz := 1) (enc := eU32) 0 0 (fun _ => rfl) rfl hv25 hx35 rfl) ?_
                refine SL.iaT 0 hx37 ⟨rfl, rfl, rfl, rfl⟩ ty90 sz32 rfl rfl rfl fun g27 m32 cp27 hv27 => ?_
                refine SL.stTN (sz := 1) (enc := eU32) 0 hl11 (fun _ => rfl) ⟨rfl, rfl, rfl⟩ rfl rfl rfl rfl hv27 sz32 (by simp [Value.oneCell']) trivial ?_
                refine SL.iaT 0 hx38 ⟨rfl, rfl, rfl, rfl⟩ ty90 sz32 rfl rfl rfl fun g28 m33 cp28 hv28 => ?_
                refine SL.last ?_
                refine SL.stTN (sz := 1) (enc := eU32) 0 hl12 (fun _ => rfl) ⟨rfl, rfl, rfl⟩ rfl rfl rfl rfl hv28 sz32 (by simp [Value.oneCell']) trivial ?_
                refine SL.nx ?_
                refine SX.sr ?_
                refine SL.mv ⟨rfl, rfl, rfl, rfl⟩ rfl ?_
                refine SL.asg ⟨rfl, rfl, rfl, rfl⟩ rfl ?_
                refine SL.asg ⟨rfl, rfl, rfl, rfl⟩ rfl ?_
                refine SL.nx ?_
                refine SX.ret ?_
                obtain rfl := Option.some.inj h
                exact SQ.fret (res2 rfl rfl rfl) (ret_of (M := [_]) ⟨rfl, rfl⟩ fun _ hw => HpOk.pick (H := [_]) hw [0] 1 rfl)
  · skip
    refine SL.ld ⟨rfl, rfl, rfl, rfl⟩ sc32 rfl (cell_rowT (sz := 1) (enc := eU32) 0 0 (fun _ => rfl) rfl hv2 hx2 rfl) ?_
    refine SL.ld ⟨rfl, rfl, rfl, rfl⟩ sc32 rfl (cell_rowT (sz := 1) (enc := eU32) 0 0 (fun _ => rfl) rfl hv1 hx1 rfl) ?_
    refine SL.iaT 0 hx3 ⟨rfl, rfl, rfl, rfl⟩ ty90 sz32 rfl rfl rfl fun g3 m3 cp3 hv3 => ?_
    refine SL.stTN (sz := 1) (enc := eU32) 0 hl1 (fun _ => rfl) ⟨rfl, rfl, rfl⟩ rfl rfl rfl rfl hv3 sz32 (by simp [Value.oneCell']) trivial ?_
    refine SL.iaT 0 hx4 ⟨rfl, rfl, rfl, rfl⟩ ty90 sz32 rfl rfl rfl fun g4 m4 cp4 hv4 => ?_
    refine SL.last ?_
    refine SL.stTN (sz := 1) (enc := eU32) 0 hl2 (fun _ => rfl) ⟨rfl, rfl, rfl⟩ rfl rfl rfl rfl hv4 sz32 (by simp [Value.oneCell']) trivial ?_
    refine SL.nx ?_
    refine SX.sr ?_
    obtain ⟨x5, ex5, h⟩ := retE h
    obtain ⟨x6, ex6, h⟩ := retE h
    refine SL.mv ⟨rfl, rfl, rfl, rfl⟩ rfl ?_
    refine SL.bin ⟨rfl, rfl, rfl, rfl⟩ rfl rfl Bin.addW ?_
    refine SL.mv ⟨rfl, rfl, rfl, rfl⟩ rfl ?_
    refine SL.bin ⟨rfl, rfl, rfl, rfl⟩ rfl rfl Bin.subW ?_
    refine SL.asgX (u := vI x5) ⟨rfl, rfl, rfl, rfl⟩ rfl (congrArg vI ex5) ?_
    refine SL.asgX (u := vI x6) ⟨rfl, rfl, rfl, rfl⟩ rfl (congrArg vI ex6) ?_
    refine SL.nx ?_
    refine SX.meetD (α := Int) (fun x => f_slices_partitionOrdered_uint32_j1 n p1 l2 x6 x = some r) (fun x => [(0, v0_), (1, vI p1), (10, vI x), (11, vI x6)]) (fun x => rowT 32 1 v0_ eU32 l2 :: H) ?_ (fun a1 D h => ?_)
    · skip
      refine SX.block ?_
      refine SX.heap (SX.mono (SX.loop (α := Nat × Int) (fun x => f_slices_partitionOrdered_uint32_l1 n p1 l2 x6 x.1 x.2 = some r) (fun x => [(0, v0_), (1, vI p1), (10, vI x.2), (11, vI x6)]) (fun x => rowT 32 1 v0_ eU32 l2 :: H) (fun x => x.1) (fun x D h => ?_) (n, x5) h) (by repeat' (first | exact trivial | refine And.intro rfl ?_))) (fun _ hw => HpOk.pick (H := [_]) hw [0] 1 rfl)
      obtain ⟨m5, a2⟩ := x
      dsimp only at h
      rcases m5 with _ | m5
      · cases (show (none : Option _) = some r from h)
      replace h : f_slices_partitionOrdered_uint32_l1_b n p1 l2 x6 (f_slices_partitionOrdered_uint32_l1 n p1 l2 x6 m5) a2 = some r := h
      unfold f_slices_partitionOrdered_uint32_l1_b at h
      refine SX.re [(0, v0_), (1, vI p1), (10, vI a2), (11, vI x6)] (rowT 32 1 v0_ eU32 l2 :: H) ?_ (by repeat' (first | exact trivial | refine And.intro rfl ?_))
      refine SX.seq ?_
      refine SX.seq ?_
      obtain ⟨y2, hy2, h⟩ := bnd h
      refine SX.drawI mix [0] (Pl.of [(true, 0), (true, 1), (true, 2), (true, 3), (true, 4), (true, 5), (true, 6), (true, 7), (true, 8), (true, 9), (true, 10), (true, 11), (false, 12), (false, 13)]) (by kernel_rfl) ?_
      refine SL.mv ⟨rfl, rfl, rfl, rfl⟩ rfl ?_
      refine SL.mv ⟨rfl, rfl, rfl, rfl⟩ rfl ?_
      refine SL.bin ⟨rfl, rfl, rfl, rfl⟩ rfl rfl Bin.leI ?_
      refine SL.mv ⟨rfl, rfl, rfl, rfl⟩ rfl ?_
      refine SL.andN 33 10 43 hy2 rfl (fun hb hg1 k => ?_) (fun hb k => ?_) ?_
      · skip
        obtain ⟨x7, hx7, hg1⟩ := bnd hg1
        obtain ⟨x8, hx8, hg1⟩ := bnd hg1
        obtain ⟨y1, hy1, hg1⟩ := bnd hg1
        obtain rfl := Option.some.inj hg1
        refine SL.mv ⟨rfl, rfl, rfl, rfl⟩ rfl ?_
        refine SL.mv ⟨rfl, rfl, rfl, rfl⟩ rfl ?_
        refine SL.iaT 0 hx7 ⟨rfl, rfl, rfl, rfl⟩ ty90 sz32 rfl rfl rfl fun g5 m6 cp5 hv5 => ?_
        refine SL.ld ⟨rfl, rfl, rfl, rfl⟩ sc32 rfl (cell_rowT (sz := 1) (enc := eU32) 0 0 (fun _ => rfl) rfl hv5 hx7 rfl) ?_
        refine SL.mv ⟨rfl, rfl, rfl, rfl⟩ rfl ?_
        refine SL.mv ⟨rfl, rfl, rfl, rfl⟩ rfl ?_
        refine SL.iaT 0 hx8 ⟨rfl, rfl, rfl, rfl⟩ ty90 sz32 rfl rfl rfl fun g6 m7 cp6 hv6 => ?_
        refine SL.ld ⟨rfl, rfl, rfl, rfl⟩ sc32 rfl (cell_rowT (sz := 1) (enc := eU32) 0 0 (fun _ => rfl) rfl hv6 hx8 rfl) ?_
        refine SL.call (vs := [_, _]) (Hin := []) (Hr := _ :: _) ⟨rfl, rfl, rfl, rfl⟩ rfl ⟨rfl, rfl, trivial⟩ cal66 rfl rfl (c_cmp_Less_uint32 hy1) ?_
        rintro _ _ ⟨rfl, rfl⟩
        refine ⟨⟨⟨0, rfl⟩, trivial⟩, ?_⟩
        refine SL.pk ⟨rfl, rfl, rfl, rfl⟩ rfl rfl ?_
        exact k.mono (by repeat' (first | exact trivial | refine And.intro rfl ?_))
      · skip
        refine SL.pass rfl rfl rfl ?_
        refine SL.pass rfl rfl rfl ?_
        refine SL.pass rfl rfl rfl ?_
        refine SL.pass rfl rfl rfl ?_
        refine SL.pass rfl rfl rfl ?_
        refine SL.pass rfl rfl rfl ?_
        refine SL.pass rfl rfl rfl ?_
        refine SL.pass rfl rfl rfl ?_
        refine SL.pass rfl rfl rfl ?_
        refine SL.pk ⟨rfl, rfl, rfl, rfl⟩ rfl rfl ?_
        exact k.mono (by repeat' (first | exact trivial | refine And.intro rfl ?_))
      refine SL.nx ?_
      refine SX.cond rfl (fun hc1 => ?_) (fun hc1 => ?_)
      · skip
        replace h := cT hc1 h
        refine SX.skip ?_
        refine SQ.thn ?_
        refine SX.block ?_
        refine SX.region ?_
        obtain ⟨x9, ex9, h⟩ := retE h
        refine SL.mv ⟨rfl, rfl, rfl, rfl⟩ rfl ?_
        refine SL.bin ⟨rfl, rfl, rfl, rfl⟩ rfl rfl Bin.addW ?_
        refine SL.asgX (u := vI x9) ⟨rfl, rfl, rfl, rfl⟩ rfl (congrArg vI ex9) ?_
        refine SL.nil ?_
        refine SQ.blk ?_
        exact SQ.again (m5, x9) h (Nat.lt_succ_self _) (by repeat' (first | exact trivial | refine And.intro rfl ?_)) (fun _ hw => HpOk.pick (H := [_]) hw [0] 1 rfl)
      · skip
        replace h := cF hc1 h
        refine SX.exit ?_
        refine SQ.thnE ?_
        refine SQ.lpE ?_
        refine SQ.blkE ?_
        exact SQ.midD a2 h (by repeat' (first | exact trivial | refine And.intro rfl ?_)) (fun _ hw => HpOk.pick (H := [_]) hw [0] 1 rfl)
    · skip
      unfold f_slices_partitionOrdered_uint32_j1 at h
      refine SX.re [(0, v0_), (1, vI p1), (10, vI a1), (11, vI x6)] (rowT 32 1 v0_ eU32 l2 :: H) ?_ (by repeat' (first | exact trivial | refine And.intro rfl ?_))
      refine SX.meetD (α := Int) (fun x => f_slices_partitionOrdered_uint32_j2 n p1 l2 a1 x = some r) (fun x => [(0, v0_), (1, vI p1), (10, vI a1), (11, vI x)]) (fun x => rowT 32 1 v0_ eU32 l2 :: H) ?_ (fun a3 D h => ?_)
      · skip
        refine SX.block ?_
        refine SX.heap (SX.mono (SX.loop (α := Nat × Int) (fun x => f_slices_partitionOrdered_uint32_l2 n p1 l2 a1 x.1 x.2 = some r) (fun x => [(0, v0_), (1, vI p1), (10, vI a1), (11, vI x.2)]) (fun x => rowT 32 1 v0_ eU32 l2 :: H) (fun x => x.1) (fun x D h => ?_) (n, x6) h) (by repeat' (first | exact trivial | refine And.intro rfl ?_))) (fun _ hw => HpOk.pick (H := [_]) hw [0] 1 rfl)
        obtain ⟨m8, a4⟩ := x
        dsimp only at h
        rcases m8 with _ | m8
        · cases (show (none : Option _) = some r from h)
        replace h : f_slices_partitionOrdered_uint32_l2_b n p1 l2 a1 (f_slices_partitionOrdered_uint32_l2 n p1 l2 a1 m8) a4 = some r := h
        unfold f_slices_partitionOrdered_uint32_l2_b at h
        refine SX.re [(0, v0_), (1, vI p1), (10, vI a1), (11, vI a4)] (rowT 32 1 v0_ eU32 l2 :: H) ?_ (by repeat' (first | exact trivial | refine And.intro rfl ?_))
        refine SX.seq ?_
        refine SX.seq ?_
        obtain ⟨y4, hy4, h⟩ := bnd h
        refine SX.drawI mix [0] (Pl.of [(true, 0), (true, 1), (true, 2), (true, 3), (true, 4), (true, 5), (true, 6), (true, 7), (true, 8), (true, 9), (true, 10), (true, 11), (false, 12), (false, 13), (false, 14)]) (by kernel_rfl) ?_
        refine SL.mv ⟨rfl, rfl, rfl, rfl⟩ rfl ?_
        refine SL.mv ⟨rfl, rfl, rfl, rfl⟩ rfl ?_
        refine SL.bin ⟨rfl, rfl, rfl, rfl⟩ rfl rfl Bin.leI ?_
        refine SL.mv ⟨rfl, rfl, rfl, rfl⟩ rfl ?_
        refine SL.andN 49 11 60 hy4 rfl (fun hb hg2 k => ?_) (fun hb k => ?_) ?_
        · skip
          obtain ⟨x10, hx10, hg2⟩ := bnd hg2
          obtain ⟨x11, hx11, hg2⟩ := bnd hg2
          obtain ⟨y3, hy3, hg2⟩ := bnd hg2
          obtain rfl := Option.some.inj hg2
          refine SL.mv ⟨rfl, rfl, rfl, rfl⟩ rfl ?_
          refine SL.mv ⟨rfl, rfl, rfl, rfl⟩ rfl ?_
          refine SL.iaT 0 hx10 ⟨rfl, rfl, rfl, rfl⟩ ty90 sz32 rfl rfl rfl fun g7 m9 cp7 hv7 => ?_
          refine SL.ld ⟨rfl, rfl, rfl, rfl⟩ sc32 rfl (cell_rowT (sz := 1) (enc := eU32) 0 0 (fun _ => rfl) rfl hv7 hx10 rfl) ?_
          refine SL.mv ⟨rfl, rfl, rfl, rfl⟩ rfl ?_
          refine SL.mv ⟨rfl, rfl, rfl, rfl⟩ rfl ?_
          refine SL.iaT 0 hx11 ⟨rfl, rfl, rfl, rfl⟩ ty90 sz32 rfl rfl rfl fun g8 m10 cp8 hv8 => ?_
          refine SL.ld ⟨rfl, rfl, rfl, rfl⟩ sc32 rfl (cell_rowT (sz := 1) (enc := eU32) 0 0 (fun _ => rfl) rfl hv8 hx11 rfl) ?_
          refine SL.call (vs := [_, _]) (Hin := []) (Hr := _ :: _) ⟨rfl, rfl, rfl, rfl⟩ rfl ⟨rfl, rfl, trivial⟩ cal66 rfl rfl (c_cmp_Less_uint32 hy3) ?_
          rintro _ _ ⟨rfl, rfl⟩
          refine ⟨⟨⟨0, rfl⟩, trivial⟩, ?_⟩
          refine SL.not ⟨rfl, rfl, rfl, rfl⟩ rfl ?_
          refine SL.pk ⟨rfl, rfl, rfl, rfl⟩ rfl rfl ?_
          exact k.mono (by repeat' (first | exact trivial | refine And.intro rfl ?_))
        · skip
          refine SL.pass rfl rfl rfl ?_
          refine SL.pass rfl rfl rfl ?_
          refine SL.pass rfl rfl rfl ?_
          refine SL.pass rfl rfl rfl ?_
          refine SL.pass rfl rfl rfl ?_
          refine SL.pass rfl rfl rfl ?_
          refine SL.pass rfl rfl rfl ?_
          refine SL.pass rfl rfl rfl ?_
          refine SL.pass rfl rfl rfl ?_
          refine SL.pass rfl rfl rfl ?_
          refine SL.pk ⟨rfl, rfl, rfl, rfl⟩ rfl rfl ?_
          exact k.mono (by repeat' (first | exact trivial | refine And.intro rfl ?_))
        refine SL.nx ?_
        refine SX.cond rfl (fun hc2 => ?_) (fun hc2 => ?_)
        · skip
          replace h := cT hc2 h
          refine SX.skip ?_
          refine SQ.thn ?_
          refine SX.block ?_
          refine SX.region ?_
          obtain ⟨x12, ex12, h⟩ := retE h
          refine SL.mv ⟨rfl, rfl, rfl, rfl⟩ rfl ?_
          refine SL.bin ⟨rfl, rfl, rfl, rfl⟩ rfl rfl Bin.subW ?_
          refine SL.asgX (u := vI x12) ⟨rfl, rfl, rfl, rfl⟩ rfl (congrArg vI ex12) ?_
          refine SL.nil ?_
          refine SQ.blk ?_
          exact SQ.again (m8, x12) h (Nat.lt_succ_self _) (by repeat' (first | exact trivial | refine And.intro rfl ?_)) (fun _ hw => HpOk.pick (H := [_]) hw [0] 1 rfl)
        · skip
          replace h := cF hc2 h
          refine SX.exit ?_
          refine SQ.thnE ?_
          refine SQ.lpE ?_
          refine SQ.blkE ?_
          exact SQ.midD a4 h (by repeat' (first | exact trivial | refine And.intro rfl ?_)) (fun _ hw => HpOk.pick (H := [_]) hw [0] 1 rfl)
      · skip
        unfold f_slices_partitionOrdered_uint32_j2 at h
        refine SX.re [(0, v0_), (1, vI p1), (10, vI a1), (11, vI a3)] (rowT 32 1 v0_ eU32 l2 :: H) ?_ (by repeat' (first | exact trivial | refine And.intro rfl ?_))
        refine SX.seq ?_
        refine SX.sr ?_
        refine SL.mv ⟨rfl, rfl, rfl, rfl⟩ rfl ?_
        refine SL.mv ⟨rfl, rfl, rfl, rfl⟩ rfl ?_
        refine SL.bin ⟨rfl, rfl, rfl, rfl⟩ rfl rfl Bin.gtI ?_
        refine SL.nx ?_
        refine SX.cond rfl (fun hc3 => ?_) (fun hc3 => ?_)
        · skip
          replace h := cT hc3 h
          refine SX.seq ?_
          obtain ⟨x13, hx13, h⟩ := bnd h
          obtain ⟨x14, hx14, h⟩ := bnd h
          obtain ⟨x15, hx15, h⟩ := bnd h
          obtain ⟨l3, hl3, h⟩ := bnd h
          obtain ⟨x16, hx16, h⟩ := bnd h
          obtain ⟨l4, hl4, h⟩ := bnd h
          refine SX.drawI mix [] (Pl.ap [(true, 0), (true, 1), (true, 2), (true, 3), (true, 4), (true, 5), (true, 6), (true, 8), (true, 9), (true, 10)] (.alt 7 (Pl.ap [(false, 11), (true, 12), (false, 13), (true, 14)] (.last 15 .nil)) (.cons (false, 11) (Pl.ap [(false, 7), (true, 12), (false, 13), (true, 14)] (.last 15 .nil))))) (by kernel_rfl) ?_
          refine SL.mv ⟨rfl, rfl, rfl, rfl⟩ rfl ?_
          refine SL.mv ⟨rfl, rfl, rfl, rfl⟩ rfl ?_
          refine SL.mv ⟨rfl, rfl, rfl, rfl⟩ rfl ?_
          refine SL.mv ⟨rfl, rfl, rfl, rfl⟩ rfl ?_
          refine SL.mv ⟨rfl, rfl, rfl, rfl⟩ rfl ?_
          refine SL.mv ⟨rfl, rfl, rfl, rfl⟩ rfl ?_
          refine SL.iaT 0 hx13 ⟨rfl, rfl, rfl, rfl⟩ ty90 sz32 rfl rfl rfl fun g9 m11 cp9 hv9 => ?_
          refine SL.mv ⟨rfl, rfl, rfl, rfl⟩ rfl ?_
          refine SL.mv ⟨rfl, rfl, rfl, rfl⟩ rfl ?_
          refine SL.iaT 0 hx14 ⟨rfl, rfl, rfl, rfl⟩ ty90 sz32 rfl rfl rfl fun g10 m12 cp10 hv10 => ?_
          refine SL.two ?_ ?_
          · skip
            refine SL.ld ⟨rfl, rfl, rfl, rfl⟩ sc32 rfl (cell_rowT (sz := 1) (enc := eU32) 0 0 (fun _ => rfl) rfl hv9 hx13 rfl) ?_
            refine SL.ld ⟨rfl, rfl, rfl, rfl⟩ sc32 rfl (cell_rowT (sz := 1) (enc := eU32) 0 0 (fun _ => rfl) rfl hv10 hx14 rfl) ?_
            refine SL.iaT 0 hx15 ⟨rfl, rfl, rfl, rfl⟩ ty90 sz32 rfl rfl rfl fun g11 m13 cp11 hv11 => ?_
            refine SL.stTN (sz := 1) (enc := eU32) 0 hl3 (fun _ => rfl) ⟨rfl, rfl, rfl⟩ rfl rfl rfl rfl hv11 sz32 (by simp [Value.oneCell']) trivial ?_
            refine SL.iaT 0 hx16 ⟨rfl, rfl, rfl, rfl⟩ ty90 sz32 rfl rfl rfl fun g12 m14 cp12 hv12 => ?_
            refine SL.last ?_
            refine SL.stTN (sz := 1) (enc := eU32) 0 hl4 (fun _ => rfl) ⟨rfl, rfl, rfl⟩ rfl rfl rfl rfl hv12 sz32 (by simp [Value.oneCell']) trivial ?_
            refine SL.nx ?_
            refine SX.sr ?_
            refine SL.mv ⟨rfl, rfl, rfl, rfl⟩ rfl ?_
            refine SL.asg ⟨rfl, rfl, rfl, rfl⟩ rfl ?_
            refine SL.asg ⟨rfl, rfl, rfl, rfl⟩ rfl ?_
            refine SL.nx ?_
            refine SX.ret ?_
            refine SQ.thnR ?_
            obtain rfl := Option.some.inj h
            exact SQ.fret (res2 rfl rfl rfl) (ret_of (M := [_]) ⟨rfl, rfl⟩ fun _ hw => HpOk.pick (H := [_]) hw [0] 1 rfl)
          · skip
            refine SL.ld ⟨rfl, rfl, rfl, rfl⟩ sc32 rfl (cell_rowT (sz := 1) (enc := eU32) 0 0 (fun _ => rfl) rfl hv10 hx14 rfl) ?_
            refine SL.ld ⟨rfl, rfl, rfl, rfl⟩ sc32 rfl (cell_rowT (sz := 1) (enc := eU32) 0 0 (fun _ => rfl) rfl hv9 hx13 rfl) ?_
            refine SL.iaT 0 hx15 ⟨rfl, rfl, rfl, rfl⟩ ty90 sz32 rfl rfl rfl fun g11 m13 cp11 hv11 => ?_
            refine SL.stTN (sz := 1) (enc := eU32) 0 hl3 (fun _ => rfl) ⟨rfl, rfl, rfl⟩ rfl rfl rfl rfl hv11 sz32 (by simp [Value.oneCell']) trivial ?_
            refine SL.iaT 0 hx16 ⟨rfl, rfl, rfl, rfl⟩ ty90 sz32 rfl rfl rfl fun g12 m14 cp12 hv12 => ?_
            refine SL.last ?_
            refine SL.stTN (sz := 1) (enc := eU32) 0 hl4 (fun _ => rfl) ⟨rfl, rfl, rfl⟩ rfl rfl rfl rfl hv12 sz32 (by simp [Value.oneCell']) trivial ?_
            refine SL.nx ?_
            refine SX.sr ?_
            refine SL.mv ⟨rfl, rfl, rfl, rfl⟩ rfl ?_
            refine SL.asg ⟨rfl, rfl, rfl, rfl⟩ rfl ?_
            refine SL.asg ⟨rfl, rfl, rfl, rfl⟩ rfl ?_
            refine SL.nx ?_
            refine SX.ret ?_
            refine SQ.thnR ?_
            obtain rfl := Option.some.inj h
            exact SQ.fret (res2 rfl rfl rfl) (ret_of (M := [_]) ⟨rfl, rfl⟩ fun _ hw => HpOk.pick (H := [_]) hw [0] 1 rfl)
        · skip
          replace h := cF hc3 h
          refine SX.skip ?_
          refine SQ.thn ?_
          refine SX.seq ?_
          obtain ⟨x17, hx17, h⟩ := bnd h
          obtain ⟨x18, hx18, h⟩ := bnd h
          obtain ⟨x19, hx19, h⟩ := bnd h
          obtain ⟨l5, hl5, h⟩ := bnd h
          obtain ⟨x20, hx20, h⟩ := bnd h
          obtain ⟨l6, hl6, h⟩ := bnd h
          refine SX.drawI mix [] (Pl.ap [(true, 0), (true, 1), (true, 2), (true, 3), (true, 4), (true, 5), (true, 6), (true, 8), (true, 9), (true, 10)] (.alt 7 (Pl.ap [(false, 11), (true, 12), (false, 13), (true, 14)] (.last 15 .nil)) (.cons (false, 11) (Pl.ap [(false, 7), (true, 12), (false, 13), (true, 14)] (.last 15 .nil))))) (by kernel_rfl) ?_
          refine SL.mv ⟨rfl, rfl, rfl, rfl⟩ rfl ?_
          refine SL.mv ⟨rfl, rfl, rfl, rfl⟩ rfl ?_
          refine SL.mv ⟨rfl, rfl, rfl, rfl⟩ rfl ?_
          refine SL.mv ⟨rfl, rfl, rfl, rfl⟩ rfl ?_
          refine SL.mv ⟨rfl, rfl, rfl, rfl⟩ rfl ?_
          refine SL.mv ⟨rfl, rfl, rfl, rfl⟩ rfl ?_
          refine SL.iaT 0 hx17 ⟨rfl, rfl, rfl, rfl⟩ ty90 sz32 rfl rfl rfl fun g13 m15 cp13 hv13 => ?_
          refine SL.mv ⟨rfl, rfl, rfl, rfl⟩ rfl ?_
          refine SL.mv ⟨rfl, rfl, rfl, rfl⟩ rfl ?_
          refine SL.iaT 0 hx18 ⟨rfl, rfl, rfl, rfl⟩ ty90 sz32 rfl rfl rfl fun g14 m16 cp14 hv14 => ?_
          refine SL.two ?_ ?_
          · skip
            refine SL.ld ⟨rfl, rfl, rfl, rfl⟩ sc32 rfl (cell_rowT (sz := 1) (enc := eU32) 0 0 (fun _ => rfl) rfl hv13 hx17 rfl) ?_
            refine SL.ld ⟨rfl, rfl, rfl, rfl⟩ sc32 rfl (cell_rowT (sz := 1) (enc := eU32) 0 0 (fun _ => rfl) rfl hv14 hx18 rfl) ?_
            refine SL.iaT 0 hx19 ⟨rfl, rfl, rfl, rfl⟩ ty90 sz32 rfl rfl rfl fun g15 m17 cp15 hv15 => ?_
            refine SL.stTN (sz := 1) (enc := eU32) 0 hl5 (fun _ => rfl) ⟨rfl, rfl, rfl⟩ rfl rfl rfl rfl hv15 sz32 (by simp [Value.oneCell']) trivial ?_
            refine SL.iaT 0 hx20 ⟨rfl, rfl, rfl, rfl⟩ ty90 sz32 rfl rfl rfl fun g16 m18 cp16 hv16 => ?_
            refine SL.last ?_
            refine SL.stTN (sz := 1) (enc := eU32) 0 hl6 (fun _ => rfl) ⟨rfl, rfl, rfl⟩ rfl rfl rfl rfl hv16 sz32 (by simp [Value.oneCell']) trivial ?_
            refine SL.nx ?_
            refine SX.sr ?_
            obtain ⟨x21, ex21, h⟩ := retE h
            refine SL.mv ⟨rfl, rfl, rfl, rfl⟩ rfl ?_
            refine SL.bin ⟨rfl, rfl, rfl, rfl⟩ rfl rfl Bin.addW ?_
            refine SL.asgX (u := vI x21) ⟨rfl, rfl, rfl, rfl⟩ rfl (congrArg vI ex21) ?_
            refine SL.nx ?_
            refine SX.sr ?_
            obtain ⟨x22, ex22, h⟩ := retE h
            refine SL.mv ⟨rfl, rfl, rfl, rfl⟩ rfl ?_
            refine SL.bin ⟨rfl, rfl, rfl, rfl⟩ rfl rfl Bin.subW ?_
            refine SL.asgX (u := vI x22) ⟨rfl, rfl, rfl, rfl⟩ rfl (congrArg vI ex22) ?_
            refine SL.nx ?_
            refine SX.meetD (α := List UInt32 × Int) (fun x => f_slices_partitionOrdered_uint32_j3 p1 x.1 x.2 = some r) (fun x => [(0, v0_), (1, vI p1), (11, vI x.2)]) (fun x => rowT 32 1 v0_ eU32 x.1 :: H) ?_ (fun x D h => ?_)
            · skip
              refine SX.block ?_
              refine SX.heap (SX.mono (SX.loop (α := Nat × List UInt32 × Int × Int) (fun x => f_slices_partitionOrdered_uint32_l3 n p1 x.1 (x.2.1, x.2.2.1, x.2.2.2) = some r) (fun x => [(0, v0_), (1, vI p1), (10, vI x.2.2.1), (11, vI x.2.2.2)]) (fun x => rowT 32 1 v0_ eU32 x.2.1 :: H) (fun x => x.1) (fun x D h => ?_) (n, l6, x21, x22) h) (by repeat' (first | exact trivial | refine And.intro rfl ?_))) (fun _ hw => HpOk.pick (H := [_]) hw [0] 1 rfl)
              obtain ⟨m19, l8, a6, a7⟩ := x
              dsimp only at h
              rcases m19 with _ | m19
              · cases (show (none : Option _) = some r from h)
              replace h : f_slices_partitionOrdered_uint32_l3_b n p1 (f_slices_partitionOrdered_uint32_l3 n p1 m19) l8 a6 a7 = some r := h
              unfold f_slices_partitionOrdered_uint32_l3_b at h
              refine SX.re [(0, v0_), (1, vI p1), (10, vI a6), (11, vI a7)] (rowT 32 1 v0_ eU32 l8 :: H) ?_ (by repeat' (first | exact trivial | refine And.intro rfl ?_))
              refine SX.block ?_
              refine SX.meetD (α := Int) (fun x => f_slices_partitionOrdered_uint32_j4 n p1 l8 a7 (f_slices_partitionOrdered_uint32_l3 n p1 m19) x = some r) (fun x => [(0, v0_), (1, vI p1), (10, vI x), (11, vI a7)]) (fun x => rowT 32 1 v0_ eU32 l8 :: H) ?_ (fun a8 D h => ?_)
              · skip
                refine SX.block ?_
                refine SX.heap (SX.mono (SX.loop (α := Nat × Int) (fun x => f_slices_partitionOrdered_uint32_l4 n p1 l8 a7 (f_slices_partitionOrdered_uint32_l3 n p1 m19) x.1 x.2 = some r) (fun x => [(0, v0_), (1, vI p1), (10, vI x.2), (11, vI a7)]) (fun x => rowT 32 1 v0_ eU32 l8 :: H) (fun x => x.1) (fun x D h => ?_) (n, a6) h) (by repeat' (first | exact trivial | refine And.intro rfl ?_))) (fun _ hw => HpOk.pick (H := [_]) hw [0] 1 rfl)
                obtain ⟨m20, a9⟩ := x
                dsimp only at h
                rcases m20 with _ | m20
                · cases (show (none : Option _) = some r from h)
                replace h : f_slices_partitionOrdered_uint32_l4_b n p1 l8 a7 (f_slices_partitionOrdered_uint32_l3 n p1 m19) (f_slices_partitionOrdered_uint32_l4 n p1 l8 a7 (f_slices_partitionOrdered_uint32_l3 n p1 m19) m20) a9 = some r := h
                unfold f_slices_partitionOrdered_uint32_l4_b at h
                refine SX.re [(0, v0_), (1, vI p1), (10, vI a9), (11, vI a7)] (rowT 32 1 v0_ eU32 l8 :: H) ?_ (by repeat' (first | exact trivial | refine And.intro rfl ?_))
                refine SX.seq ?_
                refine SX.seq ?_
                obtain ⟨y6, hy6, h⟩ := bnd h
                refine SX.drawI mix [0] (Pl.of [(true, 0), (true, 1), (true, 2), (true, 3), (true, 4), (true, 5), (true, 6), (true, 7), (true, 8), (true, 9), (true, 10), (true, 11), (false, 12), (false, 13)]) (by kernel_rfl) ?_
                refine SL.mv ⟨rfl, rfl, rfl, rfl⟩ rfl ?_
                refine SL.mv ⟨rfl, rfl, rfl, rfl⟩ rfl ?_
                refine SL.bin ⟨rfl, rfl, rfl, rfl⟩ rfl rfl Bin.leI ?_
                refine SL.mv ⟨rfl, rfl, rfl, rfl⟩ rfl ?_
                refine SL.andN 102 10 112 hy6 rfl (fun hb hg3 k => ?_) (fun hb k => ?_) ?_
                · skip
                  obtain ⟨x23, hx23, hg3⟩ := bnd hg3
                  obtain ⟨x24, hx24, hg3⟩ := bnd hg3
                  obtain ⟨y5, hy5, hg3⟩ := bnd hg3
                  obtain rfl := Option.some.inj hg3
                  refine SL.mv ⟨rfl, rfl, rfl, rfl⟩ rfl ?_
                  refine SL.mv ⟨rfl, rfl, rfl, rfl⟩ rfl ?_
                  refine SL.iaT 0 hx23 ⟨rfl, rfl, rfl, rfl⟩ ty90 sz32 rfl rfl rfl fun g17 m21 cp17 hv17 => ?_
                  refine SL.ld ⟨rfl, rfl, rfl, rfl⟩ sc32 rfl (cell_rowT (sz := 1) (enc := eU32) 0 0 (fun _ => rfl) rfl hv17 hx23 rfl) ?_
                  refine SL.mv ⟨rfl, rfl, rfl, rfl⟩ rfl ?_
                  refine SL.mv ⟨rfl, rfl, rfl, rfl⟩ rfl ?_
                  refine SL.iaT 0 hx24 ⟨rfl, rfl, rfl, rfl⟩ ty90 sz32 rfl rfl rfl fun g18 m22 cp18 hv18 => ?_
                  refine SL.ld ⟨rfl, rfl, rfl, rfl⟩ sc32 rfl (cell_rowT (sz := 1) (enc := eU32) 0 0 (fun _ => rfl) rfl hv18 hx24 rfl) ?_
                  refine SL.call (vs := [_, _]) (Hin := []) (Hr := _ :: _) ⟨rfl, rfl, rfl, rfl⟩ rfl ⟨rfl, rfl, trivial⟩ cal66 rfl rfl (c_cmp_Less_uint32 hy5) ?_
                  rintro _ _ ⟨rfl, rfl⟩
                  refine ⟨⟨⟨0, rfl⟩, trivial⟩, ?_⟩
                  refine SL.pk ⟨rfl, rfl, rfl, rfl⟩ rfl rfl ?_
                  exact k.mono (by repeat' (first | exact trivial | refine And.intro rfl ?_))
                · skip
                  refine SL.pass rfl rfl rfl ?_
                  refine SL.pass rfl rfl rfl ?_
                  refine SL.pass rfl rfl rfl ?_
                  refine SL.pass rfl rfl rfl ?_
                  refine SL.pass rfl rfl rfl ?_
                  refine SL.pass rfl rfl rfl ?_
                  refine SL.pass rfl rfl rfl ?_
                  refine SL.pass rfl rfl rfl ?_
                  refine SL.pass rfl rfl rfl ?_
                  refine SL.pk ⟨rfl, rfl, rfl, rfl⟩ rfl rfl ?_
                  exact k.mono (by repeat' (first | exact trivial | refine And.intro rfl ?_))
                refine SL.nx ?_
                refine SX.cond rfl (fun hc4 => ?_) (fun hc4 => ?_)
                · skip
                  replace h := cT hc4 h
                  refine SX.skip ?_
                  refine SQ.thn ?_
                  refine SX.block ?_
                  refine SX.region ?_
                  obtain ⟨x25, ex25, h⟩ := retE h
                  refine SL.mv ⟨rfl, rfl, rfl, rfl⟩ rfl ?_
                  refine SL.bin ⟨rfl, rfl, rfl, rfl⟩ rfl rfl Bin.addW ?_
                  refine SL.asgX (u := vI x25) ⟨rfl, rfl, rfl, rfl⟩ rfl (congrArg vI ex25) ?_
                  refine SL.nil ?_
                  refine SQ.blk ?_
                  exact SQ.again (m20, x25) h (Nat.lt_succ_self _) (by repeat' (first | exact trivial | refine And.intro rfl ?_)) (fun _ hw => HpOk.pick (H := [_]) hw [0] 1 rfl)
                · skip
                  replace h := cF hc4 h
                  refine SX.exit ?_
                  refine SQ.thnE ?_
                  refine SQ.lpE ?_
                  refine SQ.blkE ?_
                  exact SQ.midD a9 h (by repeat' (first | exact trivial | refine And.intro rfl ?_)) (fun _ hw => HpOk.pick (H := [_]) hw [0] 1 rfl)
              · skip
                unfold f_slices_partitionOrdered_uint32_j4 at h
                refine SX.re [(0, v0_), (1, vI p1), (10, vI a8), (11, vI a7)] (rowT 32 1 v0_ eU32 l8 :: H) ?_ (by repeat' (first | exact trivial | refine And.intro rfl ?_))
                refine SX.meetD (α := Int) (fun x => f_slices_partitionOrdered_uint32_j5 p1 l8 a8 (f_slices_partitionOrdered_uint32_l3 n p1 m19) x = some r) (fun x => [(0, v0_), (1, vI p1), (10, vI a8), (11, vI x)]) (fun x => rowT 32 1 v0_ eU32 l8 :: H) ?_ (fun a10 D h => ?_)
                · skip
                  refine SX.block ?_
                  refine SX.heap (SX.mono (SX.loop (α := Nat × Int) (fun x => f_slices_partitionOrdered_uint32_l5 p1 l8 a8 (f_slices_partitionOrdered_uint32_l3 n p1 m19) x.1 x.2 = some r) (fun x => [(0, v0_), (1, vI p1), (10, vI a8), (11, vI x.2)]) (fun x => rowT 32 1 v0_ eU32 l8 :: H) (fun x => x.1) (fun x D h => ?_) (n, a7) h) (by repeat' (first | exact trivial | refine And.intro rfl ?_))) (fun _ hw => HpOk.pick (H := [_]) hw [0] 1 rfl)
                  obtain ⟨m23, a11⟩ := x
                  dsimp only at h
                  rcases m23 with _ | m23
                  · cases (show (none : Option _) = some r from h)
                  replace h : f_slices_partitionOrdered_uint32_l5_b p1 l8 a8 (f_slices_partitionOrdered_uint32_l3 n p1 m19) (f_slices_partitionOrdered_uint32_l5 p1 l8 a8 (f_slices_partitionOrdered_uint32_l3 n p1 m19) m23) a11 = some r := h
                  unfold f_slices_partitionOrdered_uint32_l5_b at h
                  refine SX.re [(0, v0_), (1, vI p1), (10, vI a8), (11, vI a11)] (rowT 32 1 v0_ eU32 l8 :: H) ?_ (by repeat' (first | exact trivial | refine And.intro rfl ?_))
                  refine SX.seq ?_
                  refine SX.seq ?_
                  obtain ⟨y8, hy8, h⟩ := bnd h
                  refine SX.drawI mix [0] (Pl.of [(true, 0), (true, 1), (true, 2), (true, 3), (true, 4), (true, 5), (true, 6), (true, 7), (true, 8), (true, 9), (true, 10), (true, 11), (false, 12), (false, 13), (false, 14)]) (by kernel_rfl) ?_
                  refine SL.mv ⟨rfl, rfl, rfl, rfl⟩ rfl ?_
                  refine SL.mv ⟨rfl, rfl, rfl, rfl⟩ rfl ?_
                  refine SL.bin ⟨rfl, rfl, rfl, rfl⟩ rfl rfl Bin.leI ?_
                  refine SL.mv ⟨rfl, rfl, rfl, rfl⟩ rfl ?_
                  refine SL.andN 118 11 129 hy8 rfl (fun hb hg4 k => ?_) (fun hb k => ?_) ?_
                  · skip
                    obtain ⟨x26, hx26, hg4⟩ := bnd hg4
                    obtain ⟨x27, hx27, hg4⟩ := bnd hg4
                    obtain ⟨y7, hy7, hg4⟩ := bnd hg4
                    obtain rfl := Option.some.inj hg4
                    refine SL.mv ⟨rfl, rfl, rfl, rfl⟩ rfl ?_
                    refine SL.mv ⟨rfl, rfl, rfl, rfl⟩ rfl ?_
                    refine SL.iaT 0 hx26 ⟨rfl, rfl, rfl, rfl⟩ ty90 sz32 rfl rfl rfl fun g19 m24 cp19 hv19 => ?_
                    refine SL.ld ⟨rfl, rfl, rfl, rfl⟩ sc32 rfl (cell_rowT (sz := 1) (enc := eU32) 0 0 (fun _ => rfl) rfl hv19 hx26 rfl) ?_
                    refine SL.mv ⟨rfl, rfl, rfl, rfl⟩ rfl ?_
                    refine SL.mv ⟨rfl, rfl, rfl, rfl⟩ rfl ?_
                    refine SL.iaT 0 hx27 ⟨rfl, rfl, rfl, rfl⟩ ty90 sz32 rfl rfl rfl fun g20 m25 cp20 hv20 => ?_
                    refine SL.ld ⟨rfl, rfl, rfl, rfl⟩ sc32 rfl (cell_rowT (sz := 1) (enc := eU32) 0 0 (fun _ => rfl) rfl hv20 hx27 rfl) ?_
                    refine SL.call (vs := [_, _]) (Hin := []) (Hr := _ :: _) ⟨rfl, rfl, rfl, rfl⟩ rfl ⟨rfl, rfl, trivial⟩ cal66 rfl rfl (c_cmp_Less_uint32 hy7) ?_
                    rintro _ _ ⟨rfl, rfl⟩
                    refine ⟨⟨⟨0, rfl⟩, trivial⟩, ?_⟩
                    refine SL.not ⟨rfl, rfl, rfl, rfl⟩ rfl ?_
                    refine SL.pk ⟨rfl, rfl, rfl, rfl⟩ rfl rfl ?_
                    exact k.mono (by repeat' (first | exact trivial | refine And.intro rfl ?_))
                  · skip
                    refine SL.pass rfl rfl rfl ?_
                    refine SL.pass rfl rfl rfl ?_
                    refine SL.pass rfl rfl rfl ?_
                    refine SL.pass rfl rfl rfl ?_
                    refine SL.pass rfl rfl rfl ?_
                    refine SL.pass rfl rfl rfl ?_
                    refine SL.pass rfl rfl rfl ?_
                    refine SL.pass rfl rfl rfl ?_
                    refine SL.pass rfl rfl rfl ?_
                    refine SL.pass rfl rfl rfl ?_
                    refine SL.pk ⟨rfl, rfl, rfl, rfl⟩ rfl rfl ?_
                    exact k.mono (by repeat' (first | exact trivial | refine And.intro rfl ?_))
                  refine SL.nx ?_
                  refine SX.cond rfl (fun hc5 => ?_) (fun hc5 => ?_)
                  · skip
                    replace h := cT hc5 h
                    refine SX.skip ?_
                    refine SQ.thn ?_
                    refine SX.block ?_
                    refine SX.region ?_
                    obtain ⟨x28, ex28, h⟩ := retE h
                    refine SL.mv ⟨rfl, rfl, rfl, rfl⟩ rfl ?_
                    refine SL.bin ⟨rfl, rfl, rfl, rfl⟩ rfl rfl Bin.subW ?_
                    refine SL.asgX (u := vI x28) ⟨rfl, rfl, rfl, rfl⟩ rfl (congrArg vI ex28) ?_
                    refine SL.nil ?_
                    refine SQ.blk ?_
                    exact SQ.again (m23, x28) h (Nat.lt_succ_self _) (by repeat' (first | exact trivial | refine And.intro rfl ?_)) (fun _ hw => HpOk.pick (H := [_]) hw [0] 1 rfl)
                  · skip
                    replace h := cF hc5 h
                    refine SX.exit ?_
                    refine SQ.thnE ?_
                    refine SQ.lpE ?_
                    refine SQ.blkE ?_
                    exact SQ.midD a11 h (by repeat' (first | exact trivial | refine And.intro rfl ?_)) (fun _ hw => HpOk.pick (H := [_]) hw [0] 1 rfl)
                · skip
                  unfold f_slices_partitionOrdered_uint32_j5 at h
                  refine SX.re [(0, v0_), (1, vI p1), (10, vI a8), (11, vI a10)] (rowT 32 1 v0_ eU32 l8 :: H) ?_ (by repeat' (first | exact trivial | refine And.intro rfl ?_))
                  refine SX.seq ?_
                  refine SX.sr ?_
                  refine SL.mv ⟨rfl, rfl, rfl, rfl⟩ rfl ?_
                  refine SL.mv ⟨rfl, rfl, rfl, rfl⟩ rfl ?_
                  refine SL.bin ⟨rfl, rfl, rfl, rfl⟩ rfl rfl Bin.gtI ?_
                  refine SL.nx ?_
                  refine SX.cond rfl (fun hc6 => ?_) (fun hc6 => ?_)
                  · skip
                    replace h := cT hc6 h
                    refine SX.exit ?_
                    refine SQ.thnE ?_
                    refine SQ.blkO ?_
                    refine SQ.lpE ?_
                    refine SQ.blkE ?_
                    exact SQ.midD (l8, a10) h (by repeat' (first | exact trivial | refine And.intro rfl ?_)) (fun _ hw => HpOk.pick (H := [_]) hw [0] 1 rfl)
                  · skip
                    replace h := cF hc6 h
                    refine SX.skip ?_
                    refine SQ.thn ?_
                    refine SX.seq ?_
                    obtain ⟨x29, hx29, h⟩ := bnd h
                    obtain ⟨x30, hx30, h⟩ := bnd h
                    obtain ⟨x31, hx31, h⟩ := bnd h
                    obtain ⟨l9, hl9, h⟩ := bnd h
                    obtain ⟨x32, hx32, h⟩ := bnd h
                    obtain ⟨l10, hl10, h⟩ := bnd h
                    refine SX.drawI mix [] (Pl.ap [(true, 0), (true, 1), (true, 2), (true, 3), (true, 4), (true, 5), (true, 6), (true, 8), (true, 9), (true, 10)] (.alt 7 (Pl.ap [(false, 11), (true, 12), (false, 13), (true, 14)] (.last 15 .nil)) (.cons (false, 11) (Pl.ap [(false, 7), (true, 12), (false, 13), (true, 14)] (.last 15 .nil))))) (by kernel_rfl) ?_
                    refine SL.mv ⟨rfl, rfl, rfl, rfl⟩ rfl ?_
                    refine SL.mv ⟨rfl, rfl, rfl, rfl⟩ rfl ?_
                    refine SL.mv ⟨rfl, rfl, rfl, rfl⟩ rfl ?_
                    refine SL.mv ⟨rfl, rfl, rfl, rfl⟩ rfl ?_
                    refine SL.mv ⟨rfl, rfl, rfl, rfl⟩ rfl ?_
                    refine SL.mv ⟨rfl, rfl, rfl, rfl⟩ rfl ?_
                    refine SL.iaT 0 hx29 ⟨rfl, rfl, rfl, rfl⟩ ty90 sz32 rfl rfl rfl fun g21 m26 cp21 hv21 => ?_
                    refine SL.mv ⟨rfl, rfl, rfl, rfl⟩ rfl ?_
                    refine SL.mv ⟨rfl, rfl, rfl, rfl⟩ rfl ?_
                    refine SL.iaT 0 hx30 ⟨rfl, rfl, rfl, rfl⟩ ty90 sz32 rfl rfl rfl fun g22 m27 cp22 hv22 => ?_
                    refine SL.two ?_ ?_
                    · skip
                      refine SL.ld ⟨rfl, rfl, rfl, rfl⟩ sc32 rfl (cell_rowT (sz := 1) (enc := eU32) 0 0 (fun _ => rfl) rfl hv21 hx29 rfl) ?_
                      refine SL.ld ⟨rfl, rfl, rfl, rfl⟩ sc32 rfl (cell_rowT (sz := 1) (enc := eU32) 0 0 (fun _ => rfl) rfl hv22 hx30 rfl) ?_
                      refine SL.iaT 0 hx31 ⟨rfl, rfl, rfl, rfl⟩ ty90 sz32 rfl rfl rfl fun g23 m28 cp23 hv23 => ?_
                      refine SL.stTN (sz := 1) (enc := eU32) 0 hl9 (fun _ => rfl) ⟨rfl, rfl, rfl⟩ rfl rfl rfl rfl hv23 sz32 (by simp [Value.oneCell']) trivial ?_
                      refine SL.iaT 0 hx32 ⟨rfl, rfl, rfl, rfl⟩ ty90 sz32 rfl rfl rfl fun g24 m29 cp24 hv24 => ?_
                      refine SL.last ?_
                      refine SL.stTN (sz := 1) (enc := eU32) 0 hl10 (fun _ => rfl) ⟨rfl, rfl, rfl⟩ rfl rfl rfl rfl hv24 sz32 (by simp [Value.oneCell']) trivial ?_
                      refine SL.nx ?_
                      refine SX.sr ?_
                      obtain ⟨x33, ex33, h⟩ := retE h
                      refine SL.mv ⟨rfl, rfl, rfl, rfl⟩ rfl ?_
                      refine SL.bin ⟨rfl, rfl, rfl, rfl⟩ rfl rfl Bin.addW ?_
                      refine SL.asgX (u := vI x33) ⟨rfl, rfl, rfl, rfl⟩ rfl (congrArg vI ex33) ?_
                      refine SL.nx ?_
                      refine SX.region ?_
                      obtain ⟨x34, ex34, h⟩ := retE h
                      refine SL.mv ⟨rfl, rfl, rfl, rfl⟩ rfl ?_
                      refine SL.bin ⟨rfl, rfl, rfl, rfl⟩ rfl rfl Bin.subW ?_
                      refine SL.asgX (u := vI x34) ⟨rfl, rfl, rfl, rfl⟩ rfl (congrArg vI ex34) ?_
                      refine SL.nil ?_
                      refine SQ.blk ?_
                      exact SQ.again (m19, l10, x33, x34) h (Nat.lt_succ_self _) (by repeat' (first | exact trivial | refine And.intro rfl ?_)) (fun _ hw => HpOk.pick (H := [_]) hw [0] 1 rfl)
                    · skip
                      refine SL.ld ⟨rfl, rfl, rfl, rfl⟩ sc32 rfl (cell_rowT (sz := 1) (enc := eU32) 0 0 (fun _ => rfl) rfl hv22 hx30 rfl) ?_
                      refine SL.ld ⟨rfl, rfl, rfl, rfl⟩ sc32 rfl (cell_rowT (sz := 1) (enc := eU32) 0 0 (fun _ => rfl) rfl hv21 hx29 rfl) ?_
                      refine SL.iaT 0 hx31 ⟨rfl, rfl, rfl, rfl⟩ ty90 sz32 rfl rfl rfl fun g23 m28 cp23 hv23 => ?_
                      refine SL.stTN (sz := 1) (enc := eU32) 0 hl9 (fun _ => rfl) ⟨rfl, rfl, rfl⟩ rfl rfl rfl rfl hv23 sz32 (by simp [Value.oneCell']) trivial ?_
                      refine SL.iaT 0 hx32 ⟨rfl, rfl, rfl, rfl⟩ ty90 sz32 rfl rfl rfl fun g24 m29 cp24 hv24 => ?_
                      refine SL.last ?_
                      refine SL.stTN (sz := 1) (enc := eU32) 0 hl10 (fun _ => rfl) ⟨rfl, rfl, rfl⟩ rfl rfl rfl rfl hv24 sz32 (by simp [Value.oneCell']) trivial ?_
                      refine SL.nx ?_
                      refine SX.sr ?_
                      obtain ⟨x33, ex33, h⟩ := retE h
                      refine SL.mv ⟨rfl, rfl, rfl, rfl⟩ rfl ?_
                      refine SL.bin ⟨rfl, rfl, rfl, rfl⟩ rfl rfl Bin.addW ?_
                      refine SL.asgX (u := vI x33) ⟨rfl, rfl, rfl, rfl⟩ rfl (congrArg vI ex33) ?_
                      refine SL.nx ?_
                      refine SX.region ?_
                      obtain ⟨x34, ex34, h⟩ := retE h
                      refine SL.mv ⟨rfl, rfl, rfl, rfl⟩ rfl ?_
                      refine SL.bin ⟨rfl, rfl, rfl, rfl⟩ rfl rfl Bin.subW ?_
                      refine SL.asgX (u := vI x34) ⟨rfl, rfl, rfl, rfl⟩ rfl (congrArg vI ex34) ?_
                      refine SL.nil ?_
                      refine SQ.blk ?_
                      exact SQ.again (m19, l10, x33, x34) h (Nat.lt_succ_self _) (by repeat' (first | exact trivial | refine And.intro rfl ?_)) (fun _ hw => HpOk.pick (H := [_]) hw [0] 1 rfl)
            · skip
              obtain ⟨l7, a5⟩ := x
              dsimp only at h
              unfold f_slices_partitionOrdered_uint32_j3 at h
              refine SX.re [(0, v0_), (1, vI p1), (11, vI a5)] (rowT 32 1 v0_ eU32 l7 :: H) ?_ (by repeat' (first | exact trivial | refine And.intro rfl ?_))
              refine SX.seq ?_
              obtain ⟨x35, hx35, h⟩ := bnd h
              obtain ⟨x36, hx36, h⟩ := bnd h
              obtain ⟨x37, hx37, h⟩ := bnd h
              obtain ⟨l11, hl11, h⟩ := bnd h
              obtain ⟨x38, hx38, h⟩ := bnd h
              obtain ⟨l12, hl12, h⟩ := bnd h
              refine SX.drawI mix [] (Pl.ap [(true, 0), (true, 1), (true, 2), (true, 3), (true, 4), (true, 5), (true, 6), (true, 8), (true, 9), (true, 10)] (.alt 7 (Pl.ap [(false, 11), (true, 12), (false, 13), (true, 14)] (.last 15 .nil)) (.cons (false, 11) (Pl.ap [(false, 7), (true, 12), (false, 13), (true, 14)] (.last 15 .nil))))) (by kernel_rfl) ?_
              refine SL.mv ⟨rfl, rfl, rfl, rfl⟩ rfl ?_
              refine SL.mv ⟨rfl, rfl, rfl, rfl⟩ rfl ?_
              refine SL.mv ⟨rfl, rfl, rfl, rfl⟩ rfl ?_
              refine SL.mv ⟨rfl, rfl, rfl, rfl⟩ rfl ?_
              refine SL.mv ⟨rfl, rfl, rfl, rfl⟩ rfl ?_
              refine SL.mv ⟨rfl, rfl, rfl, rfl⟩ rfl ?_
              refine SL.iaT 0 hx35 ⟨rfl, rfl, rfl, rfl⟩ ty90 sz32 rfl rfl rfl fun g25 m30 cp25 hv25 => ?_
              refine SL.mv ⟨rfl, rfl, rfl, rfl⟩ rfl ?_
              refine SL.mv ⟨rfl, rfl, rfl, rfl⟩ rfl ?_
              refine SL.iaT 0 hx36 ⟨rfl, rfl, rfl, rfl⟩ ty90 sz32 rfl rfl rfl fun g26 m31 cp26 hv26 => ?_
              refine SL.two ?_ ?_
              · skip
                refine SL.ld ⟨rfl, rfl, rfl, rfl⟩ sc32 rfl (cell_rowT (sz := 1) (enc := eU32) 0 0 (fun _ => rfl) rfl hv25 hx35 rfl) ?_
                refine SL.ld ⟨rfl, rfl, rfl, rfl⟩ sc32 rfl (cell_rowT (sz := 1) (enc := eU32) 0 0 (fun _ => rfl) rfl hv26 hx36 rfl) ?_
                refine SL.iaT 0 hx37 ⟨rfl, rfl, rfl, rfl⟩ ty90 sz32 rfl rfl rfl fun g27 m32 cp27 hv27 => ?_
                refine SL.stTN (sz := 1) (enc := eU32) 0 hl11 (fun _ => rfl) ⟨rfl, rfl, rfl⟩ rfl rfl rfl rfl hv27 sz32 (by simp [Value.oneCell']) trivial ?_
                refine SL.iaT 0 hx38 ⟨rfl, rfl, rfl, rfl⟩ ty90 sz32 rfl rfl rfl fun g28 m33 cp28 hv28 => ?_
                refine SL.last ?_
                refine SL.stTN (sz := 1) (enc := eU32) 0 hl12 (fun _ => rfl) ⟨rfl, rfl, rfl⟩ rfl rfl rfl rfl hv28 sz32 (by simp [Value.oneCell']) trivial ?_
                refine SL.nx ?_
                refine SX.sr ?_
                refine SL.mv ⟨rfl, rfl, rfl, rfl⟩ rfl ?_
                refine SL.asg ⟨rfl, rfl, rfl, rfl⟩ rfl ?_
                refine SL.asg ⟨rfl, rfl, rfl, rfl⟩ rfl ?_
                refine SL.nx ?_
                refine SX.ret ?_
                obtain rfl := Option.some.inj h
                exact SQ.fret (res2 rfl rfl rfl) (ret_of (M := [_]) ⟨rfl, rfl⟩ fun _ hw => HpOk.pick (H := [_]) hw [0] 1 rfl)
              · skip
                refine SL.ld ⟨rfl, rfl, rfl, rfl⟩ sc32 rfl (cell_rowT (sz := 1) (enc := eU32) 0 0 (fun _ => rfl) rfl hv26 hx36 rfl) ?_
                refine SL.ld ⟨rfl, rfl, rfl, rfl⟩ sc32 rfl (cell_rowT (sz := 1) (enc := eU32) 0 0 (fun _ => rfl) rfl hv25 hx35 rfl) ?_
                refine SL.iaT 0 hx37 ⟨rfl, rfl, rfl, rfl⟩ ty90 sz32 rfl rfl rfl fun g27 m32 cp27 hv27 => ?_
                refine SL.stTN (sz := 1) (enc := eU32) 0 hl11 (fun _ => rfl) ⟨rfl, rfl, rfl⟩ rfl rfl rfl rfl hv27 sz32 (by simp [Value.oneCell']) trivial ?_
                refine SL.iaT 0 hx38 ⟨rfl, rfl, rfl, rfl⟩ ty90 sz32 rfl rfl rfl fun g28 m33 cp28 hv28 => ?_
                refine SL.last ?_
                refine SL.stTN (sz := 1) (enc := eU32) 0 hl12 (fun _ => rfl) ⟨rfl, rfl, rfl⟩ rfl rfl rfl rfl hv28 sz32 (by simp [Value.oneCell']) trivial ?_
                refine SL.nx ?_
                refine SX.sr ?_
                refine SL.mv ⟨rfl, rfl, rfl, rfl⟩ rfl ?_
                refine SL.asg ⟨rfl, rfl, rfl, rfl⟩ rfl ?_
                refine SL.asg ⟨rfl, rfl, rfl, rfl⟩ rfl ?_
                refine SL.nx ?_
                refine SX.ret ?_
                obtain rfl := Option.some.inj h
                exact SQ.fret (res2 rfl rfl rfl) (ret_of (M := [_]) ⟨rfl, rfl⟩ fun _ hw => HpOk.pick (H := [_]) hw [0] 1 rfl)
          · skip
            refine SL.ld ⟨rfl, rfl, rfl, rfl⟩ sc32 rfl (cell_rowT (sz := 1) (enc := eU32) 0 0 (fun _ => rfl) rfl hv14 hx18 rfl) ?_
            refine SL.ld ⟨rfl, rfl, rfl, rfl⟩ sc32 rfl (cell_rowT (sz := 1) (enc := eU32) 0 0 (fun _ => rfl) rfl hv13 hx17 rfl) ?_
            refine SL.iaT 0 hx19 ⟨rfl, rfl, rfl, rfl⟩ ty90 sz32 rfl rfl rfl fun g15 m17 cp15 hv15 => ?_
            refine SL.stTN (sz := 1) (enc := eU32) 0 hl5 (fun _ => rfl) ⟨rfl, rfl, rfl⟩ rfl rfl rfl rfl hv15 sz32 (by simp [Value.oneCell']) trivial ?_
            refine SL.iaT 0 hx20 ⟨rfl, rfl, rfl, rfl⟩ ty90 sz32 rfl rfl rfl fun g16 m18 cp16 hv16 => ?_
            refine SL.last ?_
            refine SL.stTN (sz := 1) (enc := eU32) 0 hl6 (fun _ => rfl) ⟨rfl, rfl, rfl⟩ rfl rfl rfl rfl hv16 sz32 (by simp [Value.oneCell']) trivial ?_
            refine SL.nx ?_
            refine SX.sr ?_
            obtain ⟨x21, ex21, h⟩ := retE h
            refine SL.mv ⟨rfl, rfl, rfl, rfl⟩ rfl ?_
            refine SL.bin ⟨rfl, rfl, rfl, rfl⟩ rfl rfl Bin.addW ?_
            refine SL.asgX (u := vI x21) ⟨rfl, rfl, rfl, rfl⟩ rfl (congrArg vI ex21) ?_
            refine SL.nx ?_
            refine SX.sr ?_
            obtain ⟨x22, ex22, h⟩ := retE h
            refine SL.mv ⟨rfl, rfl, rfl, rfl⟩ rfl ?_
            refine SL.bin ⟨rfl, rfl, rfl, rfl⟩ rfl rfl Bin.subW ?_
            refine SL.asgX (u := vI x22) ⟨rfl, rfl, rfl, rfl⟩ rfl (congrArg vI ex22) ?_
            refine SL.nx ?_
            refine SX.meetD (α := List UInt32 × Int) (fun x => f_slices_partitionOrdered_uint32_j3 p1 x.1 x.2 = some r) (fun x => [(0, v0_), (1, vI p1), (11, vI x.2)]) (fun x => rowT 32 1 v0_ eU32 x.1 :: H) ?_ (fun x D h => ?_)
            · skip
              refine SX.block ?_
              refine SX.heap (SX.mono (SX.loop (α := Nat × List UInt32 × Int × Int) (fun x => f_slices_partitionOrdered_uint32_l3 n p1 x.1 (x.2.1, x.2.2.1, x.2.2.2) = some r) (fun x => [(0, v0_), (1, vI p1), (10, vI x.2.2.1), (11, vI x.2.2.2)]) (fun x => rowT 32 1 v0_ eU32 x.2.1 :: H) (fun x => x.1) (fun x D h => ?_) (n, l6, x21, x22) h) (by repeat' (first | exact trivial | refine And.intro rfl ?_))) (fun _ hw => HpOk.pick (H := [_]) hw [0] 1 rfl)
              obtain ⟨m19, l8, a6, a7⟩ := x
              dsimp only at h
              rcases m19 with _ | m19
              · cases (show (none : Option _) = some r from h)
              replace h : f_slices_partitionOrdered_uint32_l3_b n p1 (f_slices_partitionOrdered_uint32_l3 n p1 m19) l8 a6 a7 = some r := h
              unfold f_slices_partitionOrdered_uint32_l3_b at h
              refine SX.re [(0, v0_), (1, vI p1), (10, vI a6), (11, vI a7)] (rowT 32 1 v0_ eU32 l8 :: H) ?_ (by repeat' (first | exact trivial | refine And.intro rfl ?_))
              refine SX.block ?_
              refine SX.meetD (α := Int) (fun x => f_slices_partitionOrdered_uint32_j4 n p1 l8 a7 (f_slices_partitionOrdered_uint32_l3 n p1 m19) x = some r) (fun x => [(0, v0_), (1, vI p1), (10, vI x), (11, vI a7)]) (fun x => rowT 32 1 v0_ eU32 l8 :: H) ?_ (fun a8 D h => ?_)
              · skip
                refine SX.block ?_
                refine SX.heap (SX.mono (SX.loop (α := Nat × Int) (fun x => f_slices_partitionOrdered_uint32_l4 n p1 l8 a7 (f_slices_partitionOrdered_uint32_l3 n p1 m19) x.1 x.2 = some r) (fun x => [(0, v0_), (1, vI p1), (10, vI x.2), (11, vI a7)]) (fun x => rowT 32 1 v0_ eU32 l8 :: H) (fun x => x.1) (fun x D h => ?_) (n, a6) h) (by repeat' (first | exact trivial | refine And.intro rfl ?_))) (fun _ hw => HpOk.pick (H := [_]) hw [0] 1 rfl)
                obtain ⟨m20, a9⟩ := x
                dsimp only at h
                rcases m20 with _ | m20
                · cases (show (none : Option _) = some r from h)
                replace h : f_slices_partitionOrdered_uint32_l4_b n p1 l8 a7 (f_slices_partitionOrdered_uint32_l3 n p1 m19) (f_slices_partitionOrdered_uint32_l4 n p1 l8 a7 (f_slices_partitionOrdered_uint32_l3 n p1 m19) m20) a9 = some r := h
                unfold f_slices_partitionOrdered_uint32_l4_b at h
                refine SX.re [(0, v0_), (1, vI p1), (10, vI a9), (11, vI a7)] (rowT 32 1 v0_ eU32 l8 :: H) ?_ (by repeat' (first | exact trivial | refine And.intro rfl ?_))
                refine SX.seq ?_
                refine SX.seq ?_
                obtain ⟨y6, hy6, h⟩ := bnd h
                refine SX.drawI mix [0] (Pl.of [(true, 0), (true, 1), (true, 2), (true, 3), (true, 4), (true, 5), (true, 6), (true, 7), (true, 8), (true, 9), (true, 10), (true, 11), (false, 12), (false, 13)]) (by kernel_rfl) ?_
                refine SL.mv ⟨rfl, rfl, rfl, rfl⟩ rfl ?_
                refine SL.mv ⟨rfl, rfl, rfl, rfl⟩ rfl ?_
                refine SL.bin ⟨rfl, rfl, rfl, rfl⟩ rfl rfl Bin.leI ?_
                refine SL.mv ⟨rfl, rfl, rfl, rfl⟩ rfl ?_
                refine SL.andN 102 10 112 hy6 rfl (fun hb hg3 k => ?_) (fun hb k => ?_) ?_
                · skip
                  obtain ⟨x23, hx23, hg3⟩ := bnd hg3
                  obtain ⟨x24, hx24, hg3⟩ := bnd hg3
                  obtain ⟨y5, hy5, hg3⟩ := bnd hg3
                  obtain rfl := Option.some.inj hg3
                  refine SL.mv ⟨rfl, rfl, rfl, rfl⟩ rfl ?_
                  refine SL.mv ⟨rfl, rfl, rfl, rfl⟩ rfl ?_
                  refine SL.iaT 0 hx23 ⟨rfl, rfl, rfl, rfl⟩ ty90 sz32 rfl rfl rfl fun g17 m21 cp17 hv17 => ?_
                  refine SL.ld ⟨rfl, rfl, rfl, rfl⟩ sc32 rfl (cell_rowT (sz := 1) (enc := eU32) 0 0 (fun _ => rfl) rfl hv17 hx23 rfl) ?_
                  refine SL.mv ⟨rfl, rfl, rfl, rfl⟩ rfl ?_
                  refine SL.mv ⟨rfl, rfl, rfl, rfl⟩ rfl ?_
                  refine SL.iaT 0 hx24 ⟨rfl, rfl, rfl, rfl⟩ ty90 sz32 rfl rfl rfl fun g18 m22 cp18 hv18 => ?_
                  refine SL.ld ⟨rfl, rfl, rfl, rfl⟩ sc32 rfl (cell_rowT (sz := 1) (enc := eU32) 0 0 (fun _ => rfl) rfl hv18 hx24 rfl) ?_
                  refine SL.call (vs := [_, _]) (Hin := []) (Hr := _ :: _) ⟨rfl, rfl, rfl, rfl⟩ rfl ⟨rfl, rfl, trivial⟩ cal66 rfl rfl (c_cmp_Less_uint32 hy5) ?_
                  rintro _ _ ⟨rfl, rfl⟩
                  refine ⟨⟨⟨0, rfl⟩, trivial⟩, ?_⟩
                  refine SL.pk ⟨rfl, rfl, rfl, rfl⟩ rfl rfl ?_
                  exact k.mono (by repeat' (first | exact trivial | refine And.intro rfl ?_))
                · skip
                  refine SL.pass rfl rfl rfl ?_
                  refine SL.pass rfl rfl rfl ?_
                  refine SL.pass rfl rfl rfl ?_
                  refine SL.pass rfl rfl rfl ?_
                  refine SL.pass rfl rfl rfl ?_
                  refine SL.pass rfl rfl rfl ?_
                  refine SL.pass rfl rfl rfl ?_
                  refine SL.pass rfl rfl rfl ?_
                  refine SL.pass rfl rfl rfl ?_
                  refine SL.pk ⟨rfl, rfl, rfl, rfl⟩ rfl rfl ?_
                  exact k.mono (by repeat' (first | exact trivial | refine And.intro rfl ?_))
                refine SL.nx ?_
                refine SX.cond rfl (fun hc4 => ?_) (fun hc4 => ?_)
                · skip
                  replace h := cT hc4 h
                  refine SX.skip ?_
                  refine SQ.thn ?_
                  refine SX.block ?_
                  refine SX.region ?_
                  obtain ⟨x25, ex25, h⟩ := retE h
                  refine SL.mv ⟨rfl, rfl, rfl, rfl⟩ rfl ?_
                  refine SL.bin ⟨rfl, rfl, rfl, rfl⟩ rfl rfl Bin.addW ?_
                  refine SL.asgX (u := vI x25) ⟨rfl, rfl, rfl, rfl⟩ rfl (congrArg vI ex25) ?_
                  refine SL.nil ?_
                  refine SQ.blk ?_
                  exact SQ.again (m20, x25) h (Nat.lt_succ_self _) (by repeat' (first | exact trivial | refine And.intro rfl ?_)) (fun _ hw => HpOk.pick (H := [_]) hw [0] 1 rfl)
                · skip
                  replace h := cF hc4 h
                  refine SX.exit ?_
                  refine SQ.thnE ?_
                  refine SQ.lpE ?_
                  refine SQ.blkE ?_
                  exact SQ.midD a9 h (by repeat' (first | exact trivial | refine And.intro rfl ?_)) (fun _ hw => HpOk.pick (H := [_]) hw [0] 1 rfl)
              · skip
                unfold f_slices_partitionOrdered_uint32_j4 at h
                refine SX.re [(0, v0_), (1, vI p1), (10, vI a8), (11, vI a7)] (rowT 32 1 v0_ eU32 l8 :: H) ?_ (by repeat' (first | exact trivial | refine And.intro rfl ?_))
                refine SX.meetD (α := Int) (fun x => f_slices_partitionOrdered_uint32_j5 p1 l8 a8 (f_slices_partitionOrdered_uint32_l3 n p1 m19) x = some r) (fun x => [(0, v0_), (1, vI p1), (10, vI a8), (11, vI x)]) (fun x => rowT 32 1 v0_ eU32 l8 :: H) ?_ (fun a10 D h => ?_)
                · skip
                  refine SX.block ?_
                  refine SX.heap (SX.mono (SX.loop (α := Nat × Int) (fun x => f_slices_partitionOrdered_uint32_l5 p1 l8 a8 (f_slices_partitionOrdered_uint32_l3 n p1 m19) x.1 x.2 = some r) (fun x => [(0, v0_), (1, vI p1), (10, vI a8), (11, vI x.2)]) (fun x => rowT 32 1 v0_ eU32 l8 :: H) (fun x => x.1) (fun x D h => ?_) (n, a7) h) (by repeat' (first | exact trivial | refine And.intro rfl ?_))) (fun _ hw => HpOk.pick (H := [_]) hw [0] 1 rfl)
                  obtain ⟨m23, a11⟩ := x
                  dsimp only at h
                  rcases m23 with _ | m23
                  · cases (show (none : Option _) = some r from h)
                  replace h : f_slices_partitionOrdered_uint32_l5_b p1 l8 a8 (f_slices_partitionOrdered_uint32_l3 n p1 m19) (f_slices_partitionOrdered_uint32_l5 p1 l8 a8 (f_slices_partitionOrdered_uint32_l3 n p1 m19) m23) a11 = some r := h
                  unfold f_slices_partitionOrdered_uint32_l5_b at h
                  refine SX.re [(0, v0_), (1, vI p1), (10, vI a8), (11, vI a11)] (rowT 32 1 v0_ eU32 l8 :: H) ?_ (by repeat' (first | exact trivial | refine And.intro rfl ?_))
                  refine SX.seq ?_
                  refine SX.seq ?_
                  obtain ⟨y8, hy8, h⟩ := bnd h
                  refine SX.drawI mix [0] (Pl.of [(true, 0), (true, 1), (true, 2), (true, 3), (true, 4), (true, 5), (true, 6), (true, 7), (true, 8), (true, 9), (true, 10), (true, 11), (false, 12), (false, 13), (false, 14)]) (by kernel_rfl) ?_
                  refine SL.mv ⟨rfl, rfl, rfl, rfl⟩ rfl ?_
                  refine SL.mv ⟨rfl, rfl, rfl, rfl⟩ rfl ?_
                  refine SL.bin ⟨rfl, rfl, rfl, rfl⟩ rfl rfl Bin.leI ?_
                  refine SL.mv ⟨rfl, rfl, rfl, rfl⟩ rfl ?_
                  refine SL.andN 118 11 129 hy8 rfl (fun hb hg4 k => ?_) (fun hb k => ?_) ?_
                  · skip
                    obtain ⟨x26, hx26, hg4⟩ := bnd hg4
                    obtain ⟨x27, hx27, hg4⟩ := bnd hg4
                    obtain ⟨y7, hy7, hg4⟩ := bnd hg4
                    obtain rfl := Option.some.inj hg4
                    refine SL.mv ⟨rfl, rfl, rfl, rfl⟩ rfl ?_
                    refine SL.mv ⟨rfl, rfl, rfl, rfl⟩ rfl ?_
                    refine SL.iaT 0 hx26 ⟨rfl, rfl, rfl, rfl⟩ ty90 sz32 rfl rfl rfl fun g19 m24 cp19 hv19 => ?_
                    refine SL.ld ⟨rfl, rfl, rfl, rfl⟩ sc32 rfl (cell_rowT (sz := 1) (enc := eU32) 0 0 (fun _ => rfl) rfl hv19 hx26 rfl) ?_
                    refine SL.mv ⟨rfl, rfl, rfl, rfl⟩ rfl ?_
                    refine SL.mv ⟨rfl, rfl, rfl, rfl⟩ rfl ?_
                    refine SL.iaT 0 hx27 ⟨rfl, rfl, rfl, rfl⟩ ty90 sz32 rfl rfl rfl fun g20 m25 cp20 hv20 => ?_
                    refine SL.ld ⟨rfl, rfl, rfl, rfl⟩ sc32 rfl (cell_rowT (sz := 1) (enc := eU32) 0 0 (fun _ => rfl) rfl hv20 hx27 rfl) ?_
                    refine SL.call (vs := [_, _]) (Hin := []) (Hr := _ :: _) ⟨rfl, rfl, rfl, rfl⟩ rfl ⟨rfl, rfl, trivial⟩ cal66 rfl rfl (c_cmp_Less_uint32 hy7) ?_
                    rintro _ _ ⟨rfl, rfl⟩
                    refine ⟨⟨⟨0, rfl⟩, trivial⟩, ?_⟩
                    refine SL.not ⟨rfl, rfl, rfl, rfl⟩ rfl ?_
                    refine SL.pk ⟨rfl, rfl, rfl, rfl⟩ rfl rfl ?_
                    exact k.mono (by repeat' (first | exact trivial | refine And.intro rfl ?_))
                  · skip
                    refine SL.pass rfl rfl rfl ?_
                    refine SL.pass rfl rfl rfl ?_
                    refine SL.pass rfl rfl rfl ?_
                    refine SL.pass rfl rfl rfl ?_
                    refine SL.pass rfl rfl rfl ?_
                    refine SL.pass rfl rfl rfl ?_
                    refine SL.pass rfl rfl rfl ?_
                    refine SL.pass rfl rfl rfl ?_
                    refine SL.pass rfl rfl rfl ?_
                    refine SL.pass rfl rfl rfl ?_
                    refine SL.pk ⟨rfl, rfl, rfl, rfl⟩ rfl rfl ?_
                    exact k.mono (by repeat' (first | exact trivial | refine And.intro rfl ?_))
                  refine SL.nx ?_
                  refine SX.cond rfl (fun hc5 => ?_) (fun hc5 => ?_)
                  · skip
                    replace h := cT hc5 h
                    refine SX.skip ?_
                    refine SQ.thn ?_
                    refine SX.block ?_
                    refine SX.region ?_
                    obtain ⟨x28, ex28, h⟩ := retE h
                    refine SL.mv ⟨rfl, rfl, rfl, rfl⟩ rfl ?_
                    refine SL.bin ⟨rfl, rfl, rfl, rfl⟩ rfl rfl Bin.subW ?_
                    refine SL.asgX (u := vI x28) ⟨rfl, rfl, rfl, rfl⟩ rfl (congrArg vI ex28) ?_
                    refine SL.nil ?_
                    refine SQ.blk ?_
                    exact SQ.again (m23, x28) h (Nat.lt_succ_self _) (by repeat' (first | exact trivial | refine And.intro rfl ?_)) (fun _ hw => HpOk.pick (H := [_]) hw [0] 1 rfl)
                  · skip
                    replace h := cF hc5 h
                    refine SX.exit ?_
                    refine SQ.thnE ?_
                    refine SQ.lpE ?_
                    refine SQ.blkE ?_
                    exact SQ.midD a11 h (by repeat' (first | exact trivial | refine And.intro rfl ?_)) (fun _ hw => HpOk.pick (H := [_]) hw [0] 1 rfl)
                · skip
                  unfold f_slices_partitionOrdered_uint32_j5 at h
                  refine SX.re [(0, v0_), (1, vI p1), (10, vI a8), (11, vI a10)] (rowT 32 1 v0_ eU32 l8 :: H) ?_ (by repeat' (first | exact trivial | refine And.intro rfl ?_))
                  refine SX.seq ?_
                  refine SX.sr ?_
                  refine SL.mv ⟨rfl, rfl, rfl, rfl⟩ rfl ?_
                  refine SL.mv ⟨rfl, rfl, rfl, rfl⟩ rfl ?_
                  refine SL.bin ⟨rfl, rfl, rfl, rfl⟩ rfl rfl Bin.gtI ?_
                  refine SL.nx ?_
                  refine SX.cond rfl (fun hc6 => ?_) (fun hc6 => ?_)
                  · skip
                    replace h := cT hc6 h
                    refine SX.exit ?_
                    refine SQ.thnE ?_
                    refine SQ.blkO ?_
                    refine SQ.lpE ?_
                    refine SQ.blkE ?_
                    exact SQ.midD (l8, a10) h (by repeat' (first | exact trivial | refine And.intro rfl ?_)) (fun _ hw => HpOk.pick (H := [_]) hw [0] 1 rfl)
                  · skip
                    replace h := cF hc6 h
                    refine SX.skip ?_
                    refine SQ.thn ?_
                    refine SX.seq ?_
                    obtain ⟨x29, hx29, h⟩ := bnd h
                    obtain ⟨x30, hx30, h⟩ := bnd h
                    obtain ⟨x31, hx31, h⟩ := bnd h
                    obtain ⟨l9, hl9, h⟩ := bnd h
                    obtain ⟨x32, hx32, h⟩ := bnd h
                    obtain ⟨l10, hl10, h⟩ := bnd h
                    refine SX.drawI mix [] (Pl.ap [(true, 0), (true, 1), (true, 2), (true, 3), (true, 4), (true, 5), (true, 6), (true, 8), (true, 9), (true, 10)] (.alt 7 (Pl.ap [(false, 11), (true, 12), (false, 13), (true, 14)] (.last 15 .nil)) (.cons (false, 11) (Pl.ap [(false, 7), (true, 12), (false, 13), (true, 14)] (.last 15 .nil))))) (by kernel_rfl) ?_
                    refine SL.mv ⟨rfl, rfl, rfl, rfl⟩ rfl ?_
                    refine SL.mv ⟨rfl, rfl, rfl, rfl⟩ rfl ?_
                    refine SL.mv ⟨rfl, rfl, rfl, rfl⟩ rfl ?_
                    refine SL.mv ⟨rfl, rfl, rfl, rfl⟩ rfl ?_
                    refine SL.mv ⟨rfl, rfl, rfl, rfl⟩ rfl ?_
                    refine SL.mv ⟨rfl, rfl, rfl, rfl⟩ rfl ?_
                    refine SL.iaT 0 hx29 ⟨rfl, rfl, rfl, rfl⟩ ty90 sz32 rfl rfl rfl fun g21 m26 cp21 hv21 => ?_
                    refine SL.mv ⟨rfl, rfl, rfl, rfl⟩ rfl ?_
                    refine SL.mv ⟨rfl, rfl, rfl, rfl⟩ rfl ?_
                    refine SL.iaT 0 hx30 ⟨rfl, rfl, rfl, rfl⟩ ty90 sz32 rfl rfl rfl fun g22 m27 cp22 hv22 => ?_
                    refine SL.two ?_ ?_
                    · skip
                      refine SL.ld ⟨rfl, rfl, rfl, rfl⟩ sc32 rfl (cell_rowT (sz := 1) (enc := eU32) 0 0 (fun _ => rfl) rfl hv21 hx29 rfl) ?_
                      refine SL.ld ⟨rfl, rfl, rfl, rfl⟩ sc32 rfl (cell_rowT (sz := 1) (enc := eU32) 0 0 (fun _ => rfl) rfl hv22 hx30 rfl) ?_
                      refine SL.iaT 0 hx31 ⟨rfl, rfl, rfl, rfl⟩ ty90 sz32 rfl rfl rfl fun g23 m28 cp23 hv23 => ?_
                      refine SL.stTN (sz := 1) (enc := eU32) 0 hl9 (fun _ => rfl) ⟨rfl, rfl, rfl⟩ rfl rfl rfl rfl hv23 sz32 (by simp [Value.oneCell']) trivial ?_
                      refine SL.iaT 0 hx32 ⟨rfl, rfl, rfl, rfl⟩ ty90 sz32 rfl rfl rfl fun g24 m29 cp24 hv24 => ?_
                      refine SL.last ?_
                      refine SL.stTN (sz := 1) (enc := eU32) 0 hl10 (fun _ => rfl) ⟨rfl, rfl, rfl⟩ rfl rfl rfl rfl hv24 sz32 (by simp [Value.oneCell']) trivial ?_
                      refine SL.nx ?_
                      refine SX.sr ?_
                      obtain ⟨x33, ex33, h⟩ := retE h
                      refine SL.mv ⟨rfl, rfl, rfl, rfl⟩ rfl ?_
                      refine SL.bin ⟨rfl, rfl, rfl, rfl⟩ rfl rfl Bin.addW ?_
                      refine SL.asgX (u := vI x33) ⟨rfl, rfl, rfl, rfl⟩ rfl (congrArg vI ex33) ?_
                      refine SL.nx ?_
                      refine SX.region ?_
                      obtain ⟨x34, ex34, h⟩ := retE h
                      refine SL.mv ⟨rfl, rfl, rfl, rfl⟩ rfl ?_
                      refine SL.bin ⟨rfl, rfl, rfl, rfl⟩ rfl rfl Bin.subW ?_
                      refine SL.asgX (u := vI x34) ⟨rfl, rfl, rfl, rfl⟩ rfl (congrArg vI ex34) ?_
                      refine SL.nil ?_
                      refine SQ.blk ?_
                      exact SQ.again (m19, l10, x33, x34) h (Nat.lt_succ_self _) (by repeat' (first | exact trivial | refine And.intro rfl ?_)) (fun _ hw => HpOk.pick (H := [_]) hw [0] 1 rfl)
                    · skip
                      refine SL.ld ⟨rfl, rfl, rfl, rfl⟩ sc32 rfl (cell_rowT (sz := 1) (enc := eU32) 0 0 (fun _ => rfl) rfl hv22 hx30 rfl) ?_
                      refine SL.ld ⟨rfl, rfl, rfl, rfl⟩ sc32 rfl (cell_rowT (sz := 1) (enc := eU32) 0 0 (fun _ => rfl) rfl hv21 hx29 rfl) ?_
                      refine SL.iaT 0 hx31 ⟨rfl, rfl, rfl, rfl⟩ ty90 sz32 rfl rfl rfl fun g23 m28 cp23 hv23 => ?_
                      refine SL.stTN (sz := 1) (enc := eU32) 0 hl9 (fun _ => rfl) ⟨rfl, rfl, rfl⟩ rfl rfl rfl rfl hv23 sz32 (by simp [Value.oneCell']) trivial ?_
                      refine SL.iaT 0 hx32 ⟨rfl, rfl, rfl, rfl⟩ ty90 sz32 rfl rfl rfl fun g24 m29 cp24 hv24 => ?_
                      refine SL.last ?_
                      refine SL.stTN (sz := 1) (enc := eU32) 0 hl10 (fun _ => rfl) ⟨rfl, rfl, rfl⟩ rfl rfl rfl rfl hv24 sz32 (by simp [Value.oneCell']) trivial ?_
                      refine SL.nx ?_
                      refine SX.sr ?_
                      obtain ⟨x33, ex33, h⟩ := retE h
                      refine SL.mv ⟨rfl, rfl, rfl, rfl⟩ rfl ?_
                      refine SL.bin ⟨rfl, rfl, rfl, rfl⟩ rfl rfl Bin.addW ?_
                      refine SL.asgX (u := vI x33) ⟨rfl, rfl, rfl, rfl⟩ rfl (congrArg vI ex33) ?_
                      refine SL.nx ?_
                      refine SX.region ?_
                      obtain ⟨x34, ex34, h⟩ := retE h
                      refine SL.mv ⟨rfl, rfl, rfl, rfl⟩ rfl ?_
                      refine SL.bin ⟨rfl, rfl, rfl, rfl⟩ rfl rfl Bin.subW ?_
                      refine SL.asgX (u := vI x34) ⟨rfl, rfl, rfl, rfl⟩ rfl (congrArg vI ex34) ?_
                      refine SL.nil ?_
                      refine SQ.blk ?_
                      exact SQ.again (m19, l10, x33, x34) h (Nat.lt_succ_self _) (by repeat' (first | exact trivial | refine And.intro rfl ?_)) (fun _ hw => HpOk.pick (H := [_]) hw [0] 1 rfl)
            · skip
              obtain ⟨l7, a5⟩ := x
              dsimp only at h
              unfold f_slices_partitionOrdered_uint32_j3 at h
              refine SX.re [(0, v0_), (1, vI p1), (11, vI a5)] (rowT 32 1 v0_ eU32 l7 :: H) ?_ (by repeat' (first | exact trivial | refine And.intro rfl ?_))
              refine SX.seq ?_
              obtain ⟨x35, hx35, h⟩ := bnd h
              obtain ⟨x36, hx36, h⟩ := bnd h
              obtain ⟨x37, hx37, h⟩ := bnd h
              obtain ⟨l11, hl11, h⟩ := bnd h
              obtain ⟨x38, hx38, h⟩ := bnd h
              obtain ⟨l12, hl12, h⟩ := bnd h
              refine SX.drawI mix [] (Pl.ap [(true, 0), (true, 1), (true, 2), (true, 3), (true, 4), (true, 5), (true, 6), (true, 8), (true, 9), (true, 10)] (.alt 7 (Pl.ap [(false, 11), (true, 12), (false, 13), (true, 14)] (.last 15 .nil)) (.cons (false, 11) (Pl.ap [(false, 7), (true, 12), (false, 13), (true, 14)] (.last 15 .nil))))) (by kernel_rfl) ?_
              refine SL.mv ⟨rfl, rfl, rfl, rfl⟩ rfl ?_
              refine SL.mv ⟨rfl, rfl, rfl, rfl⟩ rfl ?_
              refine SL.mv ⟨rfl, rfl, rfl, rfl⟩ rfl ?_
              refine SL.mv ⟨rfl, rfl, rfl, rfl⟩ rfl ?_
              refine SL.mv ⟨rfl, rfl, rfl, rfl⟩ rfl ?_
              refine SL.mv ⟨rfl, rfl, rfl, rfl⟩ rfl ?_
              refine SL.iaT 0 hx35 ⟨rfl, rfl, rfl, rfl⟩ ty90 sz32 rfl rfl rfl fun g25 m30 cp25 hv25 => ?_
              refine SL.mv ⟨rfl, rfl, rfl, rfl⟩ rfl ?_
              refine SL.mv ⟨rfl, rfl, rfl, rfl⟩ rfl ?_
              refine SL.iaT 0 hx36 ⟨rfl, rfl, rfl, rfl⟩ ty90 sz32 rfl rfl rfl fun g26 m31 cp26 hv26 => ?_
              refine SL.two ?_ ?_
              · skip
                refine SL.ld ⟨rfl, rfl, rfl, rfl⟩ sc32 rfl (cell_rowT (sz := 1) (enc := eU32) 0 0 (fun _ => rfl) rfl hv25 hx35 rfl) ?_
                refine SL.ld ⟨rfl, rfl, rfl, rfl⟩ sc32 rfl (cell_rowT (sz := 1) (enc := eU32) 0 0 (fun _ => rfl) rfl hv26 hx36 rfl) ?_
                refine SL.iaT 0 hx37 ⟨rfl, rfl, rfl, rfl⟩ ty90 sz32 rfl rfl rfl fun g27 m32 cp27 hv27 => ?_
                refine SL.stTN (sz := 1) (enc := eU32) 0 hl11 (fun _ => rfl) ⟨rfl, rfl, rfl⟩ rfl rfl rfl rfl hv27 sz32 (by simp [Value.oneCell']) trivial ?_
                refine SL.iaT 0 hx38 ⟨rfl, rfl, rfl, rfl⟩ ty90 sz32 rfl rfl rfl fun g28 m33 cp28 hv28 => ?_
                refine SL.last ?_
                refine SL.stTN (sz := 1) (enc := eU32) 0 hl12 (fun _ => rfl) ⟨rfl, rfl, rfl⟩ rfl rfl rfl rfl hv28 sz32 (by simp [Value.oneCell']) trivial ?_
                refine SL.nx ?_
                refine SX.sr ?_
                refine SL.mv ⟨rfl, rfl, rfl, rfl⟩ rfl ?_
                refine SL.asg ⟨rfl, rfl, rfl, rfl⟩ rfl ?_
                refine SL.asg ⟨rfl, rfl, rfl, rfl⟩ rfl ?_
                refine SL.nx ?_
                refine SX.ret ?_
                obtain rfl := Option.some.inj h
                exact SQ.fret (res2 rfl rfl rfl) (ret_of (M := [_]) ⟨rfl, rfl⟩ fun _ hw => HpOk.pick (H := [_]) hw [0] 1 rfl)
              · skip
                refine SL.ld ⟨rfl, rfl, rfl, rfl⟩ sc32 rfl (cell_rowT (sz := 1) (enc := eU32) 0 0 (fun _ => rfl) rfl hv26 hx36 rfl) ?_
                refine SL.ld ⟨rfl, rfl, rfl, rfl⟩ sc32 rfl (cell_rowT (sz := 1) (enc := eU32) 0 0 (fun _ => rfl) rfl hv25 hx35 rfl) ?_
                refine SL.iaT 0 hx37 ⟨rfl, rfl, rfl, rfl⟩ ty90 sz32 rfl rfl rfl fun g27 m32 cp27 hv27 => ?_
                refine SL.stTN (sz := 1) (enc := eU32) 0 hl11 (fun _ => rfl) ⟨rfl, rfl, rfl⟩ rfl rfl rfl rfl hv27 sz32 (by simp [Value.oneCell']) trivial ?_
                refine SL.iaT 0 hx38 ⟨rfl, rfl, rfl, rfl⟩ ty90 sz32 rfl rfl rfl fun g28 m33 cp28 hv28 => ?_
                refine SL.last ?_
                refine SL.stTN (sz := 1) (enc := eU32) 0 hl12 (fun _ => rfl) ⟨rfl, rfl, rfl⟩ rfl rfl rfl rfl hv28 sz32 (by simp [Value.oneCell']) trivial ?_
                refine SL.nx ?_
                refine SX.sr ?_
                refine SL.mv ⟨rfl, rfl, rfl, rfl⟩ rfl ?_
                refine SL.asg ⟨rfl, rfl, rfl, rfl⟩ rfl ?_
                refine SL.asg ⟨rfl, rfl, rfl, rfl⟩ rfl ?_
                refine SL.nx ?_
                refine SX.ret ?_
                obtain rfl := Option.some.inj h
                exact SQ.fret (res2 rfl rfl rfl) (ret_of (M := [_]) ⟨rfl, rfl⟩ fun _ hw => HpOk.pick (H := [_]) hw [0] 1 rfl)


end Go.Proofs.Ytddjneafgddlcaa
