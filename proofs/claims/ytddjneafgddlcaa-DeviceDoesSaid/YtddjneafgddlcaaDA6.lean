/- The texts WS2, Z1, Z2, W6, W7, W8, Y0, W9, W10, W11, S18, one behind the other: each bears its own sentence. Conditions: as each says. -/
import Derived.Test.YtddjneafgddlcaaDA1
import Derived.Test.YtddjneafgddlcaaDA2
import Derived.Test.YtddjneafgddlcaaDA3
import Derived.Test.YtddjneafgddlcaaDA4
import Derived.Test.YtddjneafgddlcaaDA5
import Derived.Sort.AssemblyPlain

/- Plain functions of the references and the laws, printed from the loaded program, and the walks that show that the program computes them. Condition: the plain function yields. -/
namespace Go.Proofs.Ytddjneafgddlcaa
open Go
variable {K : Nat → Prop} {w0 : World} {H : List Chunk}

def f_slices_pdqsortOrdered_uint32_j3 (n : Nat) (rec_ : (List UInt32) → Int → Int → Int → Option (List UInt32)) (a1 : Int) (a2 : Int) (a4 : Bool) (a5 : Bool) (x1 : Int) (a6 : Int) (a7 : Int) (nx_f_slices_pdqsortOrdered_uint32_l1 : List UInt32 × Int × Int × Int × Bool × Bool → Option (List UInt32)) (l4 : List UInt32) : Option (List UInt32) :=
  (andO (decide (0 < a1)) ((nthI l4 (wI (a1 - 1))).bind fun x4 => (nthI l4 a7).bind fun x5 => (f_cmp_Less_uint32 x4 x5).bind fun y7 => some (!y7))).bind fun y8 =>
  cond y8
  (
    (f_slices_partitionEqualOrdered_uint32 n l4 a1 a2 a7).bind fun y9 =>
    nx_f_slices_pdqsortOrdered_uint32_l1 (y9.2, y9.1, a2, a6, a4, a5))
  (
    (f_slices_partitionOrdered_uint32 n l4 a1 a2 a7).bind fun y10 =>
    ret (wI (y10.1 - a1)) fun x6 =>
    ret (wI (a2 - y10.1)) fun x7 =>
    (quoI x1 8).bind fun q1 =>
    cond (decide (x6 < x7))
    (
      ret (decide (q1 ≤ x6)) fun x8 =>
      (rec_ y10.2.2 a1 y10.1 a6).bind fun y11 =>
      ret (wI (y10.1 + 1)) fun x9 =>
      nx_f_slices_pdqsortOrdered_uint32_l1 (y11, x9, a2, a6, x8, y10.2.1))
    (
      ret (decide (q1 ≤ x7)) fun x10 =>
      (rec_ y10.2.2 (wI (y10.1 + 1)) a2 a6).bind fun y12 =>
      nx_f_slices_pdqsortOrdered_uint32_l1 (y12, a1, y10.1, a6, x10, y10.2.1)))
def f_slices_pdqsortOrdered_uint32_j2 (n : Nat) (rec_ : (List UInt32) → Int → Int → Int → Option (List UInt32)) (a1 : Int) (a2 : Int) (a4 : Bool) (a5 : Bool) (x1 : Int) (a6 : Int) (nx_f_slices_pdqsortOrdered_uint32_l1 : List UInt32 × Int × Int × Int × Bool × Bool → Option (List UInt32)) (l3 : List UInt32) (a7 : Int) (a8 : Int) : Option (List UInt32) :=
  cond ((a4 && a5) && (decide (a8 = 1)))
  (
    (f_slices_partialInsertionSortOrdered_uint32 n l3 a1 a2).bind fun y6 =>
    cond y6.1
    (
      some y6.2)
    (
      f_slices_pdqsortOrdered_uint32_j3 n rec_ a1 a2 a4 a5 x1 a6 a7 nx_f_slices_pdqsortOrdered_uint32_l1 y6.2))
  (
    f_slices_pdqsortOrdered_uint32_j3 n rec_ a1 a2 a4 a5 x1 a6 a7 nx_f_slices_pdqsortOrdered_uint32_l1 l3)
def f_slices_pdqsortOrdered_uint32_j1 (n : Nat) (rec_ : (List UInt32) → Int → Int → Int → Option (List UInt32)) (a1 : Int) (a2 : Int) (a4 : Bool) (a5 : Bool) (x1 : Int) (nx_f_slices_pdqsortOrdered_uint32_l1 : List UInt32 × Int × Int × Int × Bool × Bool → Option (List UInt32)) (l2 : List UInt32) (a6 : Int) : Option (List UInt32) :=
  (f_slices_choosePivotOrdered_uint32 l2 a1 a2).bind fun y4 =>
  cond (decide (y4.2 = 2))
  (
    (f_slices_reverseRangeOrdered_uint32 n l2 a1 a2).bind fun y5 =>
    ret (wI ((wI (a2 - 1)) - (wI (y4.1 - a1)))) fun x3 =>
    f_slices_pdqsortOrdered_uint32_j2 n rec_ a1 a2 a4 a5 x1 a6 nx_f_slices_pdqsortOrdered_uint32_l1 y5 x3 1)
  (
    f_slices_pdqsortOrdered_uint32_j2 n rec_ a1 a2 a4 a5 x1 a6 nx_f_slices_pdqsortOrdered_uint32_l1 l2 y4.1 y4.2)
def f_slices_pdqsortOrdered_uint32_l1_b (n : Nat) (rec_ : (List UInt32) → Int → Int → Int → Option (List UInt32)) (nx_f_slices_pdqsortOrdered_uint32_l1 : List UInt32 × Int × Int × Int × Bool × Bool → Option (List UInt32)) (l1 : List UInt32) (a1 : Int) (a2 : Int) (a3 : Int) (a4 : Bool) (a5 : Bool) : Option (List UInt32) :=
  ret (wI (a2 - a1)) fun x1 =>
  cond (decide (x1 ≤ 12))
  (
    (f_slices_insertionSortOrdered_uint32 n l1 a1 a2).bind fun y1 =>
    some y1)
  (
    cond (decide (a3 = 0))
    (
      (f_slices_heapSortOrdered_uint32 n l1 a1 a2).bind fun y2 =>
      some y2)
    (
      cond (!a4)
      (
        (f_slices_breakPatternsOrdered_uint32 n l1 a1 a2).bind fun y3 =>
        ret (wI (a3 - 1)) fun x2 =>
        f_slices_pdqsortOrdered_uint32_j1 n rec_ a1 a2 a4 a5 x1 nx_f_slices_pdqsortOrdered_uint32_l1 y3 x2)
      (
        f_slices_pdqsortOrdered_uint32_j1 n rec_ a1 a2 a4 a5 x1 nx_f_slices_pdqsortOrdered_uint32_l1 l1 a3)))
def f_slices_pdqsortOrdered_uint32_l1 (n : Nat) (rec_ : (List UInt32) → Int → Int → Int → Option (List UInt32)) : Nat → (List UInt32 × Int × Int × Int × Bool × Bool) → Option (List UInt32) := loopN fun nx x => f_slices_pdqsortOrdered_uint32_l1_b n rec_ nx x.1 x.2.1 x.2.2.1 x.2.2.2.1 x.2.2.2.2.1 x.2.2.2.2.2
def f_slices_pdqsortOrdered_uint32 (rec_ : (List UInt32) → Int → Int → Int → Option (List UInt32)) (n : Nat) (p0 : List UInt32) (p1 : Int) (p2 : Int) (p3 : Int) : Option (List UInt32) :=
  f_slices_pdqsortOrdered_uint32_l1 n rec_ n (p0, p1, p2, p3, true, true)
set_option maxRecDepth 100000 in
theorem c_slices_pdqsortOrdered_uint32 {rec_ : (List UInt32) → Int → Int → Int → Option (List UInt32)} {n : Nat} {v0_ : Value} {p0 : List UInt32} {p1 : Int} {p2 : Int} {p3 : Int} {r : List UInt32} (h : f_slices_pdqsortOrdered_uint32 rec_ n p0 p1 p2 p3 = some r) (hrec : ∀ {H : List Chunk} {v0_ : Value} {p0 : List UInt32} {p1 : Int} {p2 : Int} {p3 : Int} {r : List UInt32}, rec_ p0 p1 p2 p3 = some r → Con Try.prog K w0 56 [v0_, vI p1, vI p2, vI p3] [rowT 32 1 v0_ eU32 p0] H (fun u M => u = .tuple #[] ∧ M = [rowT 32 1 v0_ eU32 r])) : Con Try.prog K w0 56 [v0_, vI p1, vI p2, vI p3] [rowT 32 1 v0_ eU32 p0] H (fun u M => u = .tuple #[] ∧ M = [rowT 32 1 v0_ eU32 r]) := by
  unfold f_slices_pdqsortOrdered_uint32 at h
  refine Con.enter Try.func56 rfl rfl ?_
  refine SX.sr ?_
  refine SL.asg ⟨rfl, rfl, rfl, rfl⟩ rfl ?_
  refine SL.nx ?_
  refine SX.sr ?_
  refine SL.asg ⟨rfl, rfl, rfl, rfl⟩ rfl ?_
  refine SL.nx ?_
  refine SX.block ?_
  refine SX.heap (SX.mono (SX.loop (α := Nat × List UInt32 × Int × Int × Int × Bool × Bool) (fun x => f_slices_pdqsortOrdered_uint32_l1 n rec_ x.1 (x.2.1, x.2.2.1, x.2.2.2.1, x.2.2.2.2.1, x.2.2.2.2.2.1, x.2.2.2.2.2.2) = some r) (fun x => [(0, v0_), (1, vI x.2.2.1), (2, vI x.2.2.2.1), (3, vI x.2.2.2.2.1), (8, vB x.2.2.2.2.2.1), (9, vB x.2.2.2.2.2.2)]) (fun x => rowT 32 1 v0_ eU32 x.2.1 :: H) (fun x => x.1) (fun x D h => ?_) (n, p0, p1, p2, p3, true, true) h) (by repeat' (first | exact trivial | refine And.intro rfl ?_))) (fun _ hw => HpOk.pick (H := [_]) hw [0] 1 rfl)
  obtain ⟨m1, l1, a1, a2, a3, a4, a5⟩ := x
  dsimp only at h
  rcases m1 with _ | m1
  · cases (show (none : Option _) = some r from h)
  replace h : f_slices_pdqsortOrdered_uint32_l1_b n rec_ (f_slices_pdqsortOrdered_uint32_l1 n rec_ m1) l1 a1 a2 a3 a4 a5 = some r := h
  unfold f_slices_pdqsortOrdered_uint32_l1_b at h
  refine SX.re [(0, v0_), (1, vI a1), (2, vI a2), (3, vI a3), (8, vB a4), (9, vB a5)] (rowT 32 1 v0_ eU32 l1 :: H) ?_ (by repeat' (first | exact trivial | refine And.intro rfl ?_))
  refine SX.block ?_
  refine SX.sr ?_
  obtain ⟨x1, ex1, h⟩ := retE h
  refine SL.mv ⟨rfl, rfl, rfl, rfl⟩ rfl ?_
  refine SL.mv ⟨rfl, rfl, rfl, rfl⟩ rfl ?_
  refine SL.bin ⟨rfl, rfl, rfl, rfl⟩ rfl rfl Bin.subW ?_
  refine SL.asgX (u := vI x1) ⟨rfl, rfl, rfl, rfl⟩ rfl (congrArg vI ex1) ?_
  refine SL.nx ?_
  refine SX.seq ?_
  refine SX.sr ?_
  refine SL.mv ⟨rfl, rfl, rfl, rfl⟩ rfl ?_
  refine SL.bin ⟨rfl, rfl, rfl, rfl⟩ rfl rfl Bin.leI ?_
  refine SL.nx ?_
  refine SX.cond rfl (fun hc1 => ?_) (fun hc1 => ?_)
  · skip
    replace h := cT hc1 h
    refine SX.sr ?_
    obtain ⟨y1, hy1, h⟩ := bnd h
    refine SL.mv ⟨rfl, rfl, rfl, rfl⟩ rfl ?_
    refine SL.mv ⟨rfl, rfl, rfl, rfl⟩ rfl ?_
    refine SL.mv ⟨rfl, rfl, rfl, rfl⟩ rfl ?_
    refine SL.call (vs := [_, _, _]) (Hin := [_]) (Hr := _) ⟨rfl, rfl, rfl, rfl⟩ rfl ⟨rfl, rfl, rfl, trivial⟩ cal60 rfl rfl (c_slices_insertionSortOrdered_uint32 hy1) ?_
    rintro _ _ ⟨rfl, rfl⟩
    refine ⟨trivial, ?_⟩
    refine SL.nx ?_
    refine SX.ret ?_
    refine SQ.thnR ?_
    refine SQ.blkR ?_
    refine SQ.lpR ?_
    refine SQ.blkR ?_
    obtain rfl := Option.some.inj h
    exact SQ.fret (res0 rfl) (ret_of (M := [_]) ⟨rfl, rfl⟩ fun _ hw => HpOk.pick (H := [_]) hw [0] 1 rfl)
  · skip
    replace h := cF hc1 h
    refine SX.skip ?_
    refine SQ.thn ?_
    refine SX.seq ?_
    refine SX.sr ?_
    refine SL.mv ⟨rfl, rfl, rfl, rfl⟩ rfl ?_
    refine SL.bin ⟨rfl, rfl, rfl, rfl⟩ rfl rfl Bin.eqI ?_
    refine SL.nx ?_
    refine SX.cond rfl (fun hc2 => ?_) (fun hc2 => ?_)
    · skip
      replace h := cT hc2 h
      refine SX.sr ?_
      obtain ⟨y2, hy2, h⟩ := bnd h
      refine SL.mv ⟨rfl, rfl, rfl, rfl⟩ rfl ?_
      refine SL.mv ⟨rfl, rfl, rfl, rfl⟩ rfl ?_
      refine SL.mv ⟨rfl, rfl, rfl, rfl⟩ rfl ?_
      refine SL.call (vs := [_, _, _]) (Hin := [_]) (Hr := _) ⟨rfl, rfl, rfl, rfl⟩ rfl ⟨rfl, rfl, rfl, trivial⟩ cal61 rfl rfl (c_slices_heapSortOrdered_uint32 hy2) ?_
      rintro _ _ ⟨rfl, rfl⟩
      refine ⟨trivial, ?_⟩
      refine SL.nx ?_
      refine SX.ret ?_
      refine SQ.thnR ?_
      refine SQ.blkR ?_
      refine SQ.lpR ?_
      refine SQ.blkR ?_
      obtain rfl := Option.some.inj h
      exact SQ.fret (res0 rfl) (ret_of (M := [_]) ⟨rfl, rfl⟩ fun _ hw => HpOk.pick (H := [_]) hw [0] 1 rfl)
    · skip
      replace h := cF hc2 h
      refine SX.skip ?_
      refine SQ.thn ?_
      refine SX.meetD (α := List UInt32 × Int) (fun x => f_slices_pdqsortOrdered_uint32_j1 n rec_ a1 a2 a4 a5 x1 (f_slices_pdqsortOrdered_uint32_l1 n rec_ m1) x.1 x.2 = some r) (fun x => [(0, v0_), (1, vI a1), (2, vI a2), (3, vI x.2), (8, vB a4), (9, vB a5), (10, vI x1)]) (fun x => rowT 32 1 v0_ eU32 x.1 :: H) ?_ (fun x D h => ?_)
      · skip
        refine SX.sr ?_
        refine SL.mv ⟨rfl, rfl, rfl, rfl⟩ rfl ?_
        refine SL.not ⟨rfl, rfl, rfl, rfl⟩ rfl ?_
        refine SL.nx ?_
        refine SX.cond rfl (fun hc3 => ?_) (fun hc3 => ?_)
        · skip
          replace h := cT hc3 h
          refine SX.sr ?_
          obtain ⟨y3, hy3, h⟩ := bnd h
          refine SL.mv ⟨rfl, rfl, rfl, rfl⟩ rfl ?_
          refine SL.mv ⟨rfl, rfl, rfl, rfl⟩ rfl ?_
          refine SL.mv ⟨rfl, rfl, rfl, rfl⟩ rfl ?_
          refine SL.call (vs := [_, _, _]) (Hin := [_]) (Hr := _) ⟨rfl, rfl, rfl, rfl⟩ rfl ⟨rfl, rfl, rfl, trivial⟩ cal62 rfl rfl (c_slices_breakPatternsOrdered_uint32 hy3) ?_
          rintro _ _ ⟨rfl, rfl⟩
          refine ⟨trivial, ?_⟩
          refine SL.nx ?_
          refine SX.region ?_
          obtain ⟨x2, ex2, h⟩ := retE h
          refine SL.mv ⟨rfl, rfl, rfl, rfl⟩ rfl ?_
          refine SL.bin ⟨rfl, rfl, rfl, rfl⟩ rfl rfl Bin.subW ?_
          refine SL.asgX (u := vI x2) ⟨rfl, rfl, rfl, rfl⟩ rfl (congrArg vI ex2) ?_
          refine SL.nil ?_
          exact SQ.midD (y3, x2) h (by repeat' (first | exact trivial | refine And.intro rfl ?_)) (fun _ hw => HpOk.pick (H := [_]) hw [0] 1 rfl)
        · skip
          replace h := cF hc3 h
          refine SX.skip ?_
          exact SQ.midD (l1, a3) h (by repeat' (first | exact trivial | refine And.intro rfl ?_)) (fun _ hw => HpOk.pick (H := [_]) hw [0] 1 rfl)
      · skip
        obtain ⟨l2, a6⟩ := x
        dsimp only at h
        unfold f_slices_pdqsortOrdered_uint32_j1 at h
        refine SX.re [(0, v0_), (1, vI a1), (2, vI a2), (3, vI a6), (8, vB a4), (9, vB a5), (10, vI x1)] (rowT 32 1 v0_ eU32 l2 :: H) ?_ (by repeat' (first | exact trivial | refine And.intro rfl ?_))
        refine SX.sr ?_
        obtain ⟨y4, hy4, h⟩ := bnd h
        refine SL.mv ⟨rfl, rfl, rfl, rfl⟩ rfl ?_
        refine SL.mv ⟨rfl, rfl, rfl, rfl⟩ rfl ?_
        refine SL.mv ⟨rfl, rfl, rfl, rfl⟩ rfl ?_
        refine SL.call (vs := [_, _, _]) (Hin := [_]) (Hr := _) ⟨rfl, rfl, rfl, rfl⟩ rfl ⟨rfl, rfl, rfl, trivial⟩ cal63 rfl rfl (Con.lend (B := [_]) (Hin := []) fun K' w1 hk hB => c_slices_choosePivotOrdered_uint32 hy4 (SlOf.lentT (e := 32) (fun _ => rfl) (hB _ (by simp)))) ?_
        rintro _ _ ⟨_, rfl, rfl, rfl⟩
        refine ⟨trivial, ?_⟩
        refine SL.mv ⟨rfl, rfl, rfl, rfl⟩ rfl ?_
        refine SL.ext ⟨rfl, rfl, rfl, rfl⟩ rfl rfl ?_
        refine SL.ext ⟨rfl, rfl, rfl, rfl⟩ rfl rfl ?_
        refine SL.asg ⟨rfl, rfl, rfl, rfl⟩ rfl ?_
        refine SL.asg ⟨rfl, rfl, rfl, rfl⟩ rfl ?_
        refine SL.nx ?_
        refine SX.meetD (α := List UInt32 × Int × Int) (fun x => f_slices_pdqsortOrdered_uint32_j2 n rec_ a1 a2 a4 a5 x1 a6 (f_slices_pdqsortOrdered_uint32_l1 n rec_ m1) x.1 x.2.1 x.2.2 = some r) (fun x => [(0, v0_), (1, vI a1), (2, vI a2), (3, vI a6), (8, vB a4), (9, vB a5), (10, vI x1), (11, vI x.2.1), (12, vI x.2.2)]) (fun x => rowT 32 1 v0_ eU32 x.1 :: H) ?_ (fun x D h => ?_)
        · skip
          refine SX.sr ?_
          refine SL.mv ⟨rfl, rfl, rfl, rfl⟩ rfl ?_
          refine SL.bin ⟨rfl, rfl, rfl, rfl⟩ rfl rfl Bin.eqI ?_
          refine SL.nx ?_
          refine SX.cond rfl (fun hc4 => ?_) (fun hc4 => ?_)
          · skip
            replace h := cT hc4 h
            refine SX.sr ?_
            obtain ⟨y5, hy5, h⟩ := bnd h
            refine SL.mv ⟨rfl, rfl, rfl, rfl⟩ rfl ?_
            refine SL.mv ⟨rfl, rfl, rfl, rfl⟩ rfl ?_
            refine SL.mv ⟨rfl, rfl, rfl, rfl⟩ rfl ?_
            refine SL.call (vs := [_, _, _]) (Hin := [_]) (Hr := _) ⟨rfl, rfl, rfl, rfl⟩ rfl ⟨rfl, rfl, rfl, trivial⟩ cal64 rfl rfl (c_slices_reverseRangeOrdered_uint32 hy5) ?_
            rintro _ _ ⟨rfl, rfl⟩
            refine ⟨trivial, ?_⟩
            refine SL.nx ?_
            refine SX.sr ?_
            obtain ⟨x3, ex3, h⟩ := retE h
            refine SL.mv ⟨rfl, rfl, rfl, rfl⟩ rfl ?_
            refine SL.bin ⟨rfl, rfl, rfl, rfl⟩ rfl rfl Bin.subW ?_
            refine SL.mv ⟨rfl, rfl, rfl, rfl⟩ rfl ?_
            refine SL.mv ⟨rfl, rfl, rfl, rfl⟩ rfl ?_
            refine SL.bin ⟨rfl, rfl, rfl, rfl⟩ rfl rfl Bin.subW ?_
            refine SL.bin ⟨rfl, rfl, rfl, rfl⟩ rfl rfl Bin.subW ?_
            refine SL.asgX (u := vI x3) ⟨rfl, rfl, rfl, rfl⟩ rfl (congrArg vI ex3) ?_
            refine SL.nx ?_
            refine SX.region ?_
            refine SL.asg ⟨rfl, rfl, rfl, rfl⟩ rfl ?_
            refine SL.nil ?_
            exact SQ.midD (y5, x3, 1) h (by repeat' (first | exact trivial | refine And.intro rfl ?_)) (fun _ hw => HpOk.pick (H := [_]) hw [0] 1 rfl)
          · skip
            replace h := cF hc4 h
            refine SX.skip ?_
            exact SQ.midD (l2, y4.1, y4.2) h (by repeat' (first | exact trivial | refine And.intro rfl ?_)) (fun _ hw => HpOk.pick (H := [_]) hw [0] 1 rfl)
        · skip
          obtain ⟨l3, a7, a8⟩ := x
          dsimp only at h
          unfold f_slices_pdqsortOrdered_uint32_j2 at h
          refine SX.re [(0, v0_), (1, vI a1), (2, vI a2), (3, vI a6), (8, vB a4), (9, vB a5), (10, vI x1), (11, vI a7), (12, vI a8)] (rowT 32 1 v0_ eU32 l3 :: H) ?_ (by repeat' (first | exact trivial | refine And.intro rfl ?_))
          refine SX.meetD (α := List UInt32) (fun x => f_slices_pdqsortOrdered_uint32_j3 n rec_ a1 a2 a4 a5 x1 a6 a7 (f_slices_pdqsortOrdered_uint32_l1 n rec_ m1) x = some r) (fun x => [(0, v0_), (1, vI a1), (2, vI a2), (3, vI a6), (8, vB a4), (9, vB a5), (10, vI x1), (11, vI a7)]) (fun x => rowT 32 1 v0_ eU32 x :: H) ?_ (fun l4 D h => ?_)
          · skip
            refine SX.sr ?_
            refine SL.mv ⟨rfl, rfl, rfl, rfl⟩ rfl ?_
            refine SL.mv ⟨rfl, rfl, rfl, rfl⟩ rfl ?_
            refine SL.and (c := a5) 62 2 64 rfl (fun hb k => ?_) (fun hb k => ?_) ?_
            · skip
              refine SL.mv ⟨rfl, rfl, rfl, rfl⟩ rfl ?_
              refine SL.pk ⟨rfl, rfl, rfl, rfl⟩ rfl rfl ?_
              exact k.mono (by repeat' (first | exact trivial | refine And.intro rfl ?_))
            · skip
              refine SL.pass rfl rfl rfl ?_
              refine SL.pk ⟨rfl, rfl, rfl, rfl⟩ rfl rfl ?_
              exact k.mono (by repeat' (first | exact trivial | refine And.intro rfl ?_))
            refine SL.mv ⟨rfl, rfl, rfl, rfl⟩ rfl ?_
            refine SL.and (c := decide (a8 = 1)) 65 3 68 rfl (fun hb k => ?_) (fun hb k => ?_) ?_
            · skip
              refine SL.mv ⟨rfl, rfl, rfl, rfl⟩ rfl ?_
              refine SL.bin ⟨rfl, rfl, rfl, rfl⟩ rfl rfl Bin.eqI ?_
              refine SL.pk ⟨rfl, rfl, rfl, rfl⟩ rfl rfl ?_
              exact k.mono (by repeat' (first | exact trivial | refine And.intro rfl ?_))
            · skip
              refine SL.pass rfl rfl rfl ?_
              refine SL.pass rfl rfl rfl ?_
              refine SL.pk ⟨rfl, rfl, rfl, rfl⟩ rfl rfl ?_
              exact k.mono (by repeat' (first | exact trivial | refine And.intro rfl ?_))
            refine SL.nx ?_
            refine SX.cond rfl (fun hc5 => ?_) (fun hc5 => ?_)
            · skip
              replace h := cT hc5 h
              refine SX.sr ?_
              obtain ⟨y6, hy6, h⟩ := bnd h
              refine SL.mv ⟨rfl, rfl, rfl, rfl⟩ rfl ?_
              refine SL.mv ⟨rfl, rfl, rfl, rfl⟩ rfl ?_
              refine SL.mv ⟨rfl, rfl, rfl, rfl⟩ rfl ?_
              refine SL.call (vs := [_, _, _]) (Hin := [_]) (Hr := _) ⟨rfl, rfl, rfl, rfl⟩ rfl ⟨rfl, rfl, rfl, trivial⟩ cal65 rfl rfl (c_slices_partialInsertionSortOrdered_uint32 hy6) ?_
              rintro _ _ ⟨rfl, rfl⟩
              refine ⟨trivial, ?_⟩
              refine SL.nx ?_
              refine SX.cond rfl (fun hc6 => ?_) (fun hc6 => ?_)
              · skip
                replace h := cT hc6 h
                refine SX.ret ?_
                refine SQ.midDR ?_
                refine SQ.blkR ?_
                refine SQ.lpR ?_
                refine SQ.blkR ?_
                obtain rfl := Option.some.inj h
                exact SQ.fret (res0 rfl) (ret_of (M := [_]) ⟨rfl, rfl⟩ fun _ hw => HpOk.pick (H := [_]) hw [0] 1 rfl)
              · skip
                replace h := cF hc6 h
                refine SX.skip ?_
                exact SQ.midD y6.2 h (by repeat' (first | exact trivial | refine And.intro rfl ?_)) (fun _ hw => HpOk.pick (H := [_]) hw [0] 1 rfl)
            · skip
              replace h := cF hc5 h
              refine SX.skip ?_
              exact SQ.midD l3 h (by repeat' (first | exact trivial | refine And.intro rfl ?_)) (fun _ hw => HpOk.pick (H := [_]) hw [0] 1 rfl)
          · skip
            unfold f_slices_pdqsortOrdered_uint32_j3 at h
            refine SX.re [(0, v0_), (1, vI a1), (2, vI a2), (3, vI a6), (8, vB a4), (9, vB a5), (10, vI x1), (11, vI a7)] (rowT 32 1 v0_ eU32 l4 :: H) ?_ (by repeat' (first | exact trivial | refine And.intro rfl ?_))
            refine SX.seq ?_
            refine SX.seq ?_
            obtain ⟨y8, hy8, h⟩ := bnd h
            refine SX.drawI mix [0] (Pl.of [(true, 0), (true, 1), (true, 2), (true, 3), (true, 4), (true, 5), (true, 6), (true, 7), (true, 8), (true, 9), (true, 10), (true, 11), (false, 12), (false, 13), (false, 14)]) (by kernel_rfl) ?_
            refine SL.mv ⟨rfl, rfl, rfl, rfl⟩ rfl ?_
            refine SL.bin ⟨rfl, rfl, rfl, rfl⟩ rfl rfl Bin.gtI ?_
            refine SL.mv ⟨rfl, rfl, rfl, rfl⟩ rfl ?_
            refine SL.andN 75 12 87 hy8 rfl (fun hb hg3 k => ?_) (fun hb k => ?_) ?_
            · skip
              obtain ⟨x4, hx4, hg3⟩ := bnd hg3
              obtain ⟨x5, hx5, hg3⟩ := bnd hg3
              obtain ⟨y7, hy7, hg3⟩ := bnd hg3
              obtain rfl := Option.some.inj hg3
              refine SL.mv ⟨rfl, rfl, rfl, rfl⟩ rfl ?_
              refine SL.mv ⟨rfl, rfl, rfl, rfl⟩ rfl ?_
              refine SL.bin ⟨rfl, rfl, rfl, rfl⟩ rfl rfl Bin.subW ?_
              refine SL.iaT 0 hx4 ⟨rfl, rfl, rfl, rfl⟩ ty90 sz32 rfl rfl rfl fun g1 m2 cp1 hv1 => ?_
              refine SL.ld ⟨rfl, rfl, rfl, rfl⟩ sc32 rfl (cell_rowT (sz := 1) (enc := eU32) 0 0 (fun _ => rfl) rfl hv1 hx4 rfl) ?_
              refine SL.mv ⟨rfl, rfl, rfl, rfl⟩ rfl ?_
              refine SL.mv ⟨rfl, rfl, rfl, rfl⟩ rfl ?_
              refine SL.iaT 0 hx5 ⟨rfl, rfl, rfl, rfl⟩ ty90 sz32 rfl rfl rfl fun g2 m3 cp2 hv2 => ?_
              refine SL.ld ⟨rfl, rfl, rfl, rfl⟩ sc32 rfl (cell_rowT (sz := 1) (enc := eU32) 0 0 (fun _ => rfl) rfl hv2 hx5 rfl) ?_
              refine SL.call (vs := [_, _]) (Hin := []) (Hr := _ :: _) ⟨rfl, rfl, rfl, rfl⟩ rfl ⟨rfl, rfl, trivial⟩ cal66 rfl rfl (c_cmp_Less_uint32 hy7) ?_
              rintro _ _ ⟨rfl, rfl⟩
              refine ⟨⟨⟨0, rfl⟩, trivial⟩, ?_⟩
              refine SL.not ⟨rfl, rfl, rfl, rfl⟩ rfl ?_
              refine SL.pk ⟨rfl, rfl, rfl, rfl⟩ rfl rfl ?_
              exact k.mono (by repeat' (first | exact trivial | refine And.intro rfl ?_))
            · skip
              refine SL.pass rfl rfl rfl ?_
              refine SL.pass rfl rfl rfl ?_
              refine SL.pass rfl rfl rfl ?_
              refine SL.pass rfl rfl rfl ?_
              refine SL.pass rfl rfl rfl ?_
              refine SL.pass rfl rfl rfl ?_
              refine SL.pass rfl rfl rfl ?_
              refine SL.pass rfl rfl rfl ?_
              refine SL.pass rfl rfl rfl ?_
              refine SL.pass rfl rfl rfl ?_
              refine SL.pass rfl rfl rfl ?_
              refine SL.pk ⟨rfl, rfl, rfl, rfl⟩ rfl rfl ?_
              exact k.mono (by repeat' (first | exact trivial | refine And.intro rfl ?_))
            refine SL.nx ?_
            refine SX.cond rfl (fun hc7 => ?_) (fun hc7 => ?_)
            · skip
              replace h := cT hc7 h
              refine SX.sr ?_
              obtain ⟨y9, hy9, h⟩ := bnd h
              refine SL.mv ⟨rfl, rfl, rfl, rfl⟩ rfl ?_
              refine SL.mv ⟨rfl, rfl, rfl, rfl⟩ rfl ?_
              refine SL.mv ⟨rfl, rfl, rfl, rfl⟩ rfl ?_
              refine SL.mv ⟨rfl, rfl, rfl, rfl⟩ rfl ?_
              refine SL.call (vs := [_, _, _, _]) (Hin := [_]) (Hr := _) ⟨rfl, rfl, rfl, rfl⟩ rfl ⟨rfl, rfl, rfl, rfl, trivial⟩ cal67 rfl rfl (c_slices_partitionEqualOrdered_uint32 hy9) ?_
              rintro _ _ ⟨rfl, rfl⟩
              refine ⟨trivial, ?_⟩
              refine SL.asg ⟨rfl, rfl, rfl, rfl⟩ rfl ?_
              refine SL.nx ?_
              refine SX.sr ?_
              refine SL.mv ⟨rfl, rfl, rfl, rfl⟩ rfl ?_
              refine SL.asg ⟨rfl, rfl, rfl, rfl⟩ rfl ?_
              refine SL.nx ?_
              refine SX.exit ?_
              refine SQ.thnE ?_
              refine SQ.blkE ?_
              exact SQ.again (m1, y9.2, y9.1, a2, a6, a4, a5) h (Nat.lt_succ_self _) (by repeat' (first | exact trivial | refine And.intro rfl ?_)) (fun _ hw => HpOk.pick (H := [_]) hw [0] 1 rfl)
            · skip
              replace h := cF hc7 h
              refine SX.skip ?_
              refine SQ.thn ?_
              refine SX.sr ?_
              obtain ⟨y10, hy10, h⟩ := bnd h
              refine SL.mv ⟨rfl, rfl, rfl, rfl⟩ rfl ?_
              refine SL.mv ⟨rfl, rfl, rfl, rfl⟩ rfl ?_
              refine SL.mv ⟨rfl, rfl, rfl, rfl⟩ rfl ?_
              refine SL.mv ⟨rfl, rfl, rfl, rfl⟩ rfl ?_
              refine SL.call (vs := [_, _, _, _]) (Hin := [_]) (Hr := _) ⟨rfl, rfl, rfl, rfl⟩ rfl ⟨rfl, rfl, rfl, rfl, trivial⟩ cal68 rfl rfl (c_slices_partitionOrdered_uint32 hy10) ?_
              rintro _ _ ⟨rfl, rfl⟩
              refine ⟨trivial, ?_⟩
              refine SL.mv ⟨rfl, rfl, rfl, rfl⟩ rfl ?_
              refine SL.ext ⟨rfl, rfl, rfl, rfl⟩ rfl rfl ?_
              refine SL.ext ⟨rfl, rfl, rfl, rfl⟩ rfl rfl ?_
              refine SL.asg ⟨rfl, rfl, rfl, rfl⟩ rfl ?_
              refine SL.asg ⟨rfl, rfl, rfl, rfl⟩ rfl ?_
              refine SL.nx ?_
              refine SX.sr ?_
              refine SL.mv ⟨rfl, rfl, rfl, rfl⟩ rfl ?_
              refine SL.asg ⟨rfl, rfl, rfl, rfl⟩ rfl ?_
              refine SL.nx ?_
              refine SX.sr ?_
              obtain ⟨x6, ex6, h⟩ := retE h
              obtain ⟨x7, ex7, h⟩ := retE h
              refine SL.mv ⟨rfl, rfl, rfl, rfl⟩ rfl ?_
              refine SL.mv ⟨rfl, rfl, rfl, rfl⟩ rfl ?_
              refine SL.bin ⟨rfl, rfl, rfl, rfl⟩ rfl rfl Bin.subW ?_
              refine SL.mv ⟨rfl, rfl, rfl, rfl⟩ rfl ?_
              refine SL.mv ⟨rfl, rfl, rfl, rfl⟩ rfl ?_
              refine SL.bin ⟨rfl, rfl, rfl, rfl⟩ rfl rfl Bin.subW ?_
              refine SL.asgX (u := vI x6) ⟨rfl, rfl, rfl, rfl⟩ rfl (congrArg vI ex6) ?_
              refine SL.asgX (u := vI x7) ⟨rfl, rfl, rfl, rfl⟩ rfl (congrArg vI ex7) ?_
              refine SL.nx ?_
              refine SX.sr ?_
              obtain ⟨q1, hq1, h⟩ := bnd h
              refine SL.mv ⟨rfl, rfl, rfl, rfl⟩ rfl ?_
              refine SL.bin ⟨rfl, rfl, rfl, rfl⟩ rfl rfl (Bin.divO hq1) ?_
              refine SL.asg ⟨rfl, rfl, rfl, rfl⟩ rfl ?_
              refine SL.nx ?_
              refine SX.sr ?_
              refine SL.mv ⟨rfl, rfl, rfl, rfl⟩ rfl ?_
              refine SL.mv ⟨rfl, rfl, rfl, rfl⟩ rfl ?_
              refine SL.bin ⟨rfl, rfl, rfl, rfl⟩ rfl rfl Bin.ltI ?_
              refine SL.nx ?_
              refine SX.cond rfl (fun hc8 => ?_) (fun hc8 => ?_)
              · skip
                replace h := cT hc8 h
                refine SX.sr ?_
                obtain ⟨x8, ex8, h⟩ := retE h
                refine SL.mv ⟨rfl, rfl, rfl, rfl⟩ rfl ?_
                refine SL.mv ⟨rfl, rfl, rfl, rfl⟩ rfl ?_
                refine SL.bin ⟨rfl, rfl, rfl, rfl⟩ rfl rfl Bin.geI ?_
                refine SL.asgX (u := vB x8) ⟨rfl, rfl, rfl, rfl⟩ rfl (congrArg vB ex8) ?_
                refine SL.nx ?_
                refine SX.sr ?_
                obtain ⟨y11, hy11, h⟩ := bnd h
                refine SL.mv ⟨rfl, rfl, rfl, rfl⟩ rfl ?_
                refine SL.mv ⟨rfl, rfl, rfl, rfl⟩ rfl ?_
                refine SL.mv ⟨rfl, rfl, rfl, rfl⟩ rfl ?_
                refine SL.mv ⟨rfl, rfl, rfl, rfl⟩ rfl ?_
                refine SL.call (vs := [_, _, _, _]) (Hin := [_]) (Hr := _) ⟨rfl, rfl, rfl, rfl⟩ rfl ⟨rfl, rfl, rfl, rfl, trivial⟩ cal56 rfl rfl (hrec hy11) ?_
                rintro _ _ ⟨rfl, rfl⟩
                refine ⟨trivial, ?_⟩
                refine SL.nx ?_
                refine SX.region ?_
                obtain ⟨x9, ex9, h⟩ := retE h
                refine SL.mv ⟨rfl, rfl, rfl, rfl⟩ rfl ?_
                refine SL.bin ⟨rfl, rfl, rfl, rfl⟩ rfl rfl Bin.addW ?_
                refine SL.asgX (u := vI x9) ⟨rfl, rfl, rfl, rfl⟩ rfl (congrArg vI ex9) ?_
                refine SL.nil ?_
                refine SQ.blk ?_
                exact SQ.again (m1, y11, x9, a2, a6, x8, y10.2.1) h (Nat.lt_succ_self _) (by repeat' (first | exact trivial | refine And.intro rfl ?_)) (fun _ hw => HpOk.pick (H := [_]) hw [0] 1 rfl)
              · skip
                replace h := cF hc8 h
                refine SX.sr ?_
                obtain ⟨x10, ex10, h⟩ := retE h
                refine SL.mv ⟨rfl, rfl, rfl, rfl⟩ rfl ?_
                refine SL.mv ⟨rfl, rfl, rfl, rfl⟩ rfl ?_
                refine SL.bin ⟨rfl, rfl, rfl, rfl⟩ rfl rfl Bin.geI ?_
                refine SL.asgX (u := vB x10) ⟨rfl, rfl, rfl, rfl⟩ rfl (congrArg vB ex10) ?_
                refine SL.nx ?_
                refine SX.sr ?_
                obtain ⟨y12, hy12, h⟩ := bnd h
                refine SL.mv ⟨rfl, rfl, rfl, rfl⟩ rfl ?_
                refine SL.mv ⟨rfl, rfl, rfl, rfl⟩ rfl ?_
                refine SL.bin ⟨rfl, rfl, rfl, rfl⟩ rfl rfl Bin.addW ?_
                refine SL.mv ⟨rfl, rfl, rfl, rfl⟩ rfl ?_
                refine SL.mv ⟨rfl, rfl, rfl, rfl⟩ rfl ?_
                refine SL.call (vs := [_, _, _, _]) (Hin := [_]) (Hr := _) ⟨rfl, rfl, rfl, rfl⟩ rfl ⟨rfl, rfl, rfl, rfl, trivial⟩ cal56 rfl rfl (hrec hy12) ?_
                rintro _ _ ⟨rfl, rfl⟩
                refine ⟨trivial, ?_⟩
                refine SL.nx ?_
                refine SX.region ?_
                refine SL.mv ⟨rfl, rfl, rfl, rfl⟩ rfl ?_
                refine SL.asg ⟨rfl, rfl, rfl, rfl⟩ rfl ?_
                refine SL.nil ?_
                refine SQ.blk ?_
                exact SQ.again (m1, y12, a1, y10.1, a6, x10, y10.2.1) h (Nat.lt_succ_self _) (by repeat' (first | exact trivial | refine And.intro rfl ?_)) (fun _ hw => HpOk.pick (H := [_]) hw [0] 1 rfl)


end Go.Proofs.Ytddjneafgddlcaa

/- Plain laws: the printed functions of slices.Sort are the kit's plain ones. No program's walk in sight. Condition: rows of fewer than 2^61 numbers. -/
namespace Go.Proofs.Ytddjneafgddlcaa
open Go Go.Sort

abbrev ltU : UInt32 → UInt32 → Bool := fun a b => decide (a < b)
theorem lessU (a b : UInt32) : f_cmp_Less_uint32 a b = some (ltU a b) := by
  simp [f_cmp_Less_uint32, f_cmp_isNaN_uint32, ret, andO]
theorem nthA {d : Array UInt32} {z : Int} {i : Nat} (hz : z = (i : Int)) (hi : i < d.size) : nthI d.toList z = some d[i]! := by
  rw [nthI_of hz]
  simp [hi]
theorem setA {d : Array UInt32} {z : Int} {i : Nat} {x : UInt32} (hz : z = (i : Int)) (hi : i < d.size) : setI d.toList z x = some (d.setIfInBounds i x).toList := by
  rw [setI_of hz (by simpa using hi)]
  simp
theorem swp_size (d : Array UInt32) (i j : Nat) : (swp d i j).size = d.size := by simp [swp]
theorem swapA {β : Type} {d : Array UInt32} {zi zj : Int} {i j : Nat} (h1 : zi = (i : Int)) (h2 : zj = (j : Int)) (hi : i < d.size) (hj : j < d.size) (k : List UInt32 → Option β) :
    ((nthI d.toList zj).bind fun x1 => (nthI d.toList zi).bind fun x2 => (nthI d.toList zi).bind fun _ => (setI d.toList zi x1).bind fun l2 => (nthI l2 zj).bind fun _ => (setI l2 zj x2).bind fun l3 => k l3) = k (swp d i j).toList := by
  rw [nthA h2 hj, some_bind, nthA h1 hi, some_bind, some_bind, setA h1 hi, some_bind, nthA h2 (by simpa using hj), some_bind, setA h2 (by simpa using hj), some_bind]
  rfl
/-! ### order2, median, choosePivot -/
theorem order2A {d : Array UInt32} {a b s : Nat} (ha : a < d.size) (hb : b < d.size) (hs : s < 1000) : f_slices_order2Ordered_uint32 d.toList a b s = some (((order2 ltU d a b s).1 : Int), ((order2 ltU d a b s).2.1 : Int), ((order2 ltU d a b s).2.2 : Int)) := by
  unfold f_slices_order2Ordered_uint32 order2
  rw [nthA rfl hb, some_bind, nthA rfl ha, some_bind, lessU, some_bind, wI_eq (by omega) (by omega)]
  cases ltU d[b]! d[a]! <;> simp
theorem order2_lt {d : Array UInt32} {a b s n : Nat} (ha : a < n) (hb : b < n) : (order2 ltU d a b s).1 < n ∧ (order2 ltU d a b s).2.1 < n ∧ (order2 ltU d a b s).2.2 ≤ s + 1 := by
  unfold order2
  cases ltU d[b]! d[a]! <;> simp [ha, hb]
theorem medianA {d : Array UInt32} {a b c s : Nat} (ha : a < d.size) (hb : b < d.size) (hc : c < d.size) (hs : s < 900) : f_slices_medianOrdered_uint32 d.toList a b c s = some (((median ltU d a b c s).1 : Int), ((median ltU d a b c s).2 : Int)) := by
  obtain ⟨h1, h2, h3⟩ := order2_lt (d := d) (s := s) ha hb
  unfold f_slices_medianOrdered_uint32 median
  rw [order2A ha hb (by omega), some_bind]
  dsimp only
  generalize order2 ltU d a b s = r1 at h1 h2 h3 ⊢
  obtain ⟨h4, h5, h6⟩ := order2_lt (d := d) (s := r1.2.2) h2 hc
  rw [order2A h2 hc (by omega), some_bind]
  dsimp only
  generalize order2 ltU d r1.2.1 c r1.2.2 = r2 at h4 h5 h6 ⊢
  rw [order2A h1 h4 (by omega), some_bind]
theorem median_lt {d : Array UInt32} {a b c s n : Nat} (ha : a < n) (hb : b < n) (hc : c < n) : (median ltU d a b c s).1 < n ∧ (median ltU d a b c s).2 ≤ s + 3 := by
  unfold median
  dsimp only
  obtain ⟨h1, h2, h3⟩ := order2_lt (d := d) (s := s) ha hb
  generalize order2 ltU d a b s = r1 at h1 h2 h3 ⊢
  obtain ⟨h4, h5, h6⟩ := order2_lt (d := d) (s := r1.2.2) h2 hc
  generalize order2 ltU d r1.2.1 c r1.2.2 = r2 at h4 h5 h6 ⊢
  obtain ⟨h7, h8, h9⟩ := order2_lt (d := d) (s := r2.2.2) h1 h4
  exact ⟨h8, by omega⟩
def hintI : Hint → Int
  | .unknown => 0
  | .increasing => 1
  | .decreasing => 2
theorem pivotJ1 (s i : Nat) : f_slices_choosePivotOrdered_uint32_j1 (s : Int) (i : Int) = some ((i : Int), hintI (if s = 0 then .increasing else if s = 12 then .decreasing else .unknown)) := by
  unfold f_slices_choosePivotOrdered_uint32_j1
  rw [ret_eq, ret_eq]
  by_cases h0 : s = 0
  · simp [h0, hintI]
  · by_cases h1 : s = 12
    · simp [h1, hintI]
    · have e0 : ¬ ((s : Int) = 0) := by omega
      have e1 : ¬ ((s : Int) = 12) := by omega
      simp [h0, h1, e1, hintI]
theorem quo4 {l : Nat} : quoI (l : Int) 4 = some ((l / 4 : Nat) : Int) ∨ 4611686018427387904 ≤ l := by
  rcases Nat.lt_or_ge l 4611686018427387904 with h | h
  · left
    unfold quoI
    rw [if_neg (by omega), Int.tdiv_eq_ediv_of_nonneg (by omega)]
    rw [wI_eq (by omega) (by omega)]
    rfl
  · exact .inr h
theorem choosePivotA {d : Array UInt32} {a b : Nat} (hab : a < b) (hb : b ≤ d.size) (hd : d.size < 2305843009213693952) : f_slices_choosePivotOrdered_uint32 d.toList a b = some (((choosePivot ltU d a b).1 : Int), hintI (choosePivot ltU d a b).2) := by
  unfold f_slices_choosePivotOrdered_uint32 choosePivot
  have e1 : wI ((b : Int) - (a : Int)) = ((b - a : Nat) : Int) := by rw [wI_eq (by omega) (by omega)]; omega
  have e2 : quoI ((b - a : Nat) : Int) 4 = some (((b - a) / 4 : Nat) : Int) := quo4.resolve_right (by omega)
  rw [ret_eq, e1, e2, some_bind, ret_eq, some_bind, ret_eq, some_bind, ret_eq]
  have e3 : ∀ k : Nat, k ≤ 3 → wI ((a : Int) + wI ((((b - a) / 4 : Nat) : Int) * (k : Int))) = ((a + (b - a) / 4 * k : Nat) : Int) := by
    intro k hk
    have h1 : (((b - a) / 4 : Nat) : Int) * (k : Int) = (((b - a) / 4 * k : Nat) : Int) := by simp
    have h2 : (b - a) / 4 * k ≤ (b - a) / 4 * 3 := Nat.mul_le_mul_left _ hk
    have h3 : wI (((b - a) / 4 * k : Nat) : Int) = (((b - a) / 4 * k : Nat) : Int) := wI_eq (by omega) (by omega)
    rw [h1, h3, wI_eq (by omega) (by omega)]
    simp
  have k1 : wI ((a : Int) + wI ((((b - a) / 4 : Nat) : Int) * 1)) = _ := e3 1 (by omega)
  have k2 : wI ((a : Int) + wI ((((b - a) / 4 : Nat) : Int) * 2)) = _ := e3 2 (by omega)
  have k3 : wI ((a : Int) + wI ((((b - a) / 4 : Nat) : Int) * 3)) = _ := e3 3 (by omega)
  rw [k1, k2, k3]
  have hi : a + (b - a) / 4 * 1 < d.size := by omega
  have hj : a + (b - a) / 4 * 2 < d.size := by omega
  have hk : a + (b - a) / 4 * 3 < d.size := by omega
  have hi1 : 50 ≤ b - a → 1 ≤ a + (b - a) / 4 * 1 ∧ a + (b - a) / 4 * 1 + 1 < d.size ∧ 1 ≤ a + (b - a) / 4 * 2 ∧ a + (b - a) / 4 * 2 + 1 < d.size ∧ 1 ≤ a + (b - a) / 4 * 3 ∧ a + (b - a) / 4 * 3 + 1 < d.size := by omega
  dsimp only
  generalize a + (b - a) / 4 * 1 = i at hi hi1 ⊢
  generalize a + (b - a) / 4 * 2 = j at hj hi1 ⊢
  generalize a + (b - a) / 4 * 3 = k at hk hi1 ⊢
  by_cases h8 : 8 ≤ b - a
  · rw [decide_eq_true (show (8 : Int) ≤ ((b - a : Nat) : Int) by omega), cond_true, if_pos h8]
    by_cases h50 : 50 ≤ b - a
    · obtain ⟨p1, p2, p3, p4, p5, p6⟩ := hi1 h50
      rw [decide_eq_true (show (50 : Int) ≤ ((b - a : Nat) : Int) by omega), cond_true, if_pos h50]
      have adj : ∀ x s : Nat, 1 ≤ x → x + 1 < d.size → s < 900 → f_slices_medianAdjacentOrdered_uint32 d.toList x s = some (((medianAdjacent ltU d x s).1 : Int), ((medianAdjacent ltU d x s).2 : Int)) := by
        intro x s h1 h2 h3
        unfold f_slices_medianAdjacentOrdered_uint32 medianAdjacent
        have e1 : wI ((x : Int) - 1) = ((x - 1 : Nat) : Int) := by rw [wI_eq (by omega) (by omega)]; omega
        have e2 : wI ((x : Int) + 1) = ((x + 1 : Nat) : Int) := by rw [wI_eq (by omega) (by omega)]; omega
        rw [e1, e2, medianA (by omega) (by omega) h2 h3, some_bind]
      have bd : ∀ x s : Nat, 1 ≤ x → x + 1 < d.size → (medianAdjacent ltU d x s).1 < d.size ∧ (medianAdjacent ltU d x s).2 ≤ s + 3 := fun x s h1 h2 => median_lt (by omega) (by omega) h2
      obtain ⟨b1, b2⟩ := bd i 0 p1 p2
      have a0 : f_slices_medianAdjacentOrdered_uint32 d.toList i 0 = _ := adj i 0 p1 p2 (by omega)
      rw [a0, some_bind]
      dsimp only
      generalize medianAdjacent ltU d i 0 = ri at b1 b2 ⊢
      obtain ⟨b3, b4⟩ := bd j ri.2 p3 p4
      rw [adj j ri.2 p3 p4 (by omega), some_bind]
      dsimp only
      generalize medianAdjacent ltU d j ri.2 = rj at b3 b4 ⊢
      obtain ⟨b5, b6⟩ := bd k rj.2 p5 p6
      rw [adj k rj.2 p5 p6 (by omega), some_bind]
      dsimp only
      generalize medianAdjacent ltU d k rj.2 = rk at b5 b6 ⊢
      unfold f_slices_choosePivotOrdered_uint32_j2
      rw [medianA b1 b3 b5 (by omega), some_bind]
      exact pivotJ1 _ _
    · rw [decide_eq_false (show ¬ (50 : Int) ≤ ((b - a : Nat) : Int) by omega), cond_false, if_neg h50]
      unfold f_slices_choosePivotOrdered_uint32_j2
      have a0 : f_slices_medianOrdered_uint32 d.toList i j k 0 = _ := medianA (s := 0) hi hj hk (by omega)
      rw [a0, some_bind]
      exact pivotJ1 _ _
  · rw [decide_eq_false (show ¬ (8 : Int) ≤ ((b - a : Nat) : Int) by omega), cond_false, if_neg h8]
    exact pivotJ1 0 j
/-! ### reverseRange -/
theorem reverseA : ∀ (m i j : Nat) (d : Array UInt32), j - i < m → j < d.size → d.size < 2305843009213693952 → f_slices_reverseRangeOrdered_uint32_l1 m (d.toList, (i : Int), (j : Int)) = some (reverseLoop i j d).toList := by
  intro m
  induction m with
  | zero => intro i j d h; omega
  | succ m ih =>
    intro i j d hm hj hd
    show f_slices_reverseRangeOrdered_uint32_l1_b (f_slices_reverseRangeOrdered_uint32_l1 m) d.toList i j = _
    unfold f_slices_reverseRangeOrdered_uint32_l1_b
    rw [reverseLoop]
    by_cases hij : i < j
    · rw [if_pos hij, decide_eq_true (show (i : Int) < (j : Int) by omega), cond_true, swapA rfl rfl (by omega) hj, ret_eq, ret_eq]
      have e1 : wI ((i : Int) + 1) = ((i + 1 : Nat) : Int) := by rw [wI_eq (by omega) (by omega)]; omega
      have e2 : wI ((j : Int) - 1) = ((j - 1 : Nat) : Int) := by rw [wI_eq (by omega) (by omega)]; omega
      rw [e1, e2]
      exact ih _ _ _ (by omega) (by rw [swp_size]; omega) (by rw [swp_size]; exact hd)
    · rw [if_neg hij, decide_eq_false (show ¬ (i : Int) < (j : Int) by omega), cond_false]
theorem reverseRangeA {d : Array UInt32} {a b n : Nat} (hab : a < b) (hb : b ≤ d.size) (hd : d.size < 2305843009213693952) (hn : d.size < n) : f_slices_reverseRangeOrdered_uint32 n d.toList a b = some (reverseRange d a b).toList := by
  unfold f_slices_reverseRangeOrdered_uint32 reverseRange
  have e1 : wI ((b : Int) - 1) = ((b - 1 : Nat) : Int) := by rw [wI_eq (by omega) (by omega)]; omega
  rw [ret_eq, e1]
  exact reverseA n a (b - 1) d (by omega) (by omega) hd
/-! ### siftDown, heapSort -/
theorem siftA {hi first : Nat} : ∀ (m root : Nat) (d : Array UInt32), hi - root < m → root < hi → first + hi ≤ d.size → d.size < 2305843009213693952 →
    f_slices_siftDownOrdered_uint32_l1 hi first m (d.toList, (root : Int)) = some (siftDown ltU hi first root d).toList := by
  intro m
  induction m with
  | zero => intro root d h; omega
  | succ m ih =>
    intro root d hm hr hf hd
    show f_slices_siftDownOrdered_uint32_l1_b hi first (f_slices_siftDownOrdered_uint32_l1 hi first m) d.toList root = _
    unfold f_slices_siftDownOrdered_uint32_l1_b
    rw [siftDown]
    have e0 : wI (2 * (root : Int)) = ((2 * root : Nat) : Int) := by rw [wI_eq (by omega) (by omega)]; omega
    have e1 : wI (((2 * root : Nat) : Int) + 1) = ((2 * root + 1 : Nat) : Int) := by rw [wI_eq (by omega) (by omega)]; omega
    have e2 : wI (((2 * root + 1 : Nat) : Int) + 1) = ((2 * root + 2 : Nat) : Int) := by rw [wI_eq (by omega) (by omega)]; omega
    have f1 : wI ((first : Int) + ((2 * root + 1 : Nat) : Int)) = ((first + (2 * root + 1) : Nat) : Int) := by rw [wI_eq (by omega) (by omega)]; omega
    rw [e0, ret_eq, e1]
    by_cases hge : 2 * root + 1 ≥ hi
    · rw [dif_pos hge, decide_eq_true (show (hi : Int) ≤ ((2 * root + 1 : Nat) : Int) by omega), cond_true]
    · have f2 : wI (((first + (2 * root + 1) : Nat) : Int) + 1) = ((first + (2 * root + 2) : Nat) : Int) := by rw [wI_eq (by omega) (by omega)]; omega
      have fr : wI ((first : Int) + (root : Int)) = ((first + root : Nat) : Int) := by rw [wI_eq (by omega) (by omega)]; omega
      rw [dif_neg hge, decide_eq_false (show ¬ (hi : Int) ≤ ((2 * root + 1 : Nat) : Int) by omega), cond_false, e2, f1, f2]
      -- the child
      have hj : ∀ c : Nat, c < hi → root < c → f_slices_siftDownOrdered_uint32_j1 first d.toList root (f_slices_siftDownOrdered_uint32_l1 hi first m) c = (if !ltU d[first + root]! d[first + c]! then some d.toList else some (siftDown ltU hi first c (swp d (first + root) (first + c))).toList) := by
        intro c hc hrc
        have fc : wI ((first : Int) + (c : Int)) = ((first + c : Nat) : Int) := by rw [wI_eq (by omega) (by omega)]; omega
        unfold f_slices_siftDownOrdered_uint32_j1
        rw [fr, fc, swapA rfl rfl (by omega) (by omega), nthA rfl (by omega), some_bind, nthA rfl (by omega), some_bind, lessU, some_bind]
        cases hlt : ltU d[first + root]! d[first + c]!
        · rfl
        · simp only [Bool.not_true, cond_false, Bool.false_eq_true, if_false]
          exact ih c _ (by omega) hc (by rw [swp_size]; exact hf) (by rw [swp_size]; exact hd)
      by_cases h2 : 2 * root + 1 + 1 < hi
      · rw [decide_eq_true (show ((2 * root + 2 : Nat) : Int) < (hi : Int) by omega)]
        simp only [andO, cond_true]
        rw [nthA rfl (by omega), some_bind, nthA (i := first + (2 * root + 2)) rfl (by omega), some_bind, lessU, some_bind, some_bind]
        have e9 : first + (2 * root + 1) + 1 = first + (2 * root + 2) := by omega
        rw [e9]
        cases hc : ltU d[first + (2 * root + 1)]! d[first + (2 * root + 2)]!
        · simp only [cond_false, h2, decide_true, Bool.true_and, Bool.false_eq_true, if_false]
          rw [hj _ (by omega) (by omega)]
          split <;> rfl
        · simp only [cond_true, h2, decide_true, Bool.true_and, if_true, ret_eq]
          rw [hj _ (by omega) (by omega)]
          split
          · rfl
          · rfl
      · rw [decide_eq_false (show ¬ ((2 * root + 2 : Nat) : Int) < (hi : Int) by omega)]
        simp only [andO, some_bind, cond_false, h2, decide_false, Bool.false_and, Bool.false_eq_true, if_false]
        rw [hj _ (by omega) (by omega)]
        split <;> rfl
theorem siftDown_size (hi first : Nat) (root : Nat) (d : Array UInt32) : (siftDown ltU hi first root d).size = d.size := by
  fun_induction siftDown ltU hi first root d <;> simp_all [swp_size]
theorem siftDownA {hi first root n : Nat} {d : Array UInt32} (hr : root < hi) (hf : first + hi ≤ d.size) (hd : d.size < 2305843009213693952) (hn : d.size < n) :
    f_slices_siftDownOrdered_uint32 n d.toList root hi first = some (siftDown ltU hi first root d).toList := siftA n root d (by omega) hr hf hd
theorem siftDown0 {first n : Nat} {d : Array UInt32} (hn : 0 < n) : f_slices_siftDownOrdered_uint32 n d.toList 0 0 first = some (siftDown ltU 0 first 0 d).toList := by
  obtain ⟨m, rfl⟩ : ∃ m, n = m + 1 := ⟨n - 1, by omega⟩
  show f_slices_siftDownOrdered_uint32_l1_b 0 first (f_slices_siftDownOrdered_uint32_l1 0 first m) d.toList 0 = _
  unfold f_slices_siftDownOrdered_uint32_l1_b
  have e0 : wI (wI (2 * 0) + 1) = 1 := by rw [show (2 : Int) * 0 = 0 from rfl, wI_eq (x := 0) (by omega) (by omega), wI_eq (by omega) (by omega)]; rfl
  rw [siftDown, dif_pos (by omega), e0, ret_eq]
  rfl
theorem heapPopA {first n : Nat} (hn : 0 < n) : ∀ (m k : Nat) (d : Array UInt32), k < m → first + k ≤ d.size → d.size < 2305843009213693952 → d.size < n →
    f_slices_heapSortOrdered_uint32_l2 n first m (d.toList, (k : Int) - 1) = some (heapPop ltU first k d).toList := by
  intro m
  induction m with
  | zero => intro k d h; omega
  | succ m ih =>
    intro k d hm hf hd hdn
    show f_slices_heapSortOrdered_uint32_l2_b n first (f_slices_heapSortOrdered_uint32_l2 n first m) d.toList ((k : Int) - 1) = _
    unfold f_slices_heapSortOrdered_uint32_l2_b
    cases k with
    | zero => rfl
    | succ k =>
      have e0 : ((k + 1 : Nat) : Int) - 1 = (k : Int) := by omega
      have e1 : wI ((first : Int) + (k : Int)) = ((first + k : Nat) : Int) := by rw [wI_eq (by omega) (by omega)]; omega
      have e2 : wI ((k : Int) - 1) = (k : Int) - 1 := wI_eq (by omega) (by omega)
      rw [e0, decide_eq_true (show (0 : Int) ≤ (k : Int) by omega), cond_true, e1, swapA (i := first) rfl rfl (by omega) (by omega)]
      have h1 : f_slices_siftDownOrdered_uint32 n (swp d first (first + k)).toList 0 (k : Int) first = some (siftDown ltU k first 0 (swp d first (first + k))).toList := by
        rcases Nat.eq_zero_or_pos k with h0 | h0
        · subst h0
          exact siftDown0 hn
        · exact siftDownA (root := 0) h0 (by rw [swp_size]; omega) (by rw [swp_size]; exact hd) (by rw [swp_size]; exact hdn)
      rw [h1, some_bind, ret_eq, e2]
      exact ih k _ (by omega) (by rw [siftDown_size, swp_size]; omega) (by rw [siftDown_size, swp_size]; exact hd) (by rw [siftDown_size, swp_size]; exact hdn)
theorem heapBuild_size (hi first : Nat) : ∀ (k : Nat) (d : Array UInt32), (heapBuild ltU hi first k d).size = d.size
  | 0, d => rfl
  | k + 1, d => by rw [heapBuild, heapBuild_size hi first k, siftDown_size]
theorem heapSortA {d : Array UInt32} {a b n : Nat} (hab : a < b) (hb : b ≤ d.size) (hd : d.size < 2305843009213693952) (hn : d.size + 1 < n) : f_slices_heapSortOrdered_uint32 n d.toList a b = some (heapSort ltU d a b).toList := by
  unfold f_slices_heapSortOrdered_uint32 heapSort
  have e1 : wI ((b : Int) - (a : Int)) = ((b - a : Nat) : Int) := by rw [wI_eq (by omega) (by omega)]; omega
  have e2 : wI (((b - a : Nat) : Int) - 1) = ((b - a - 1 : Nat) : Int) := by rw [wI_eq (by omega) (by omega)]; omega
  have e3 : quoI ((b - a - 1 : Nat) : Int) 2 = some (((b - a - 1) / 2 : Nat) : Int) := by
    unfold quoI
    rw [if_neg (by omega), Int.tdiv_eq_ediv_of_nonneg (by omega), wI_eq (by omega) (by omega)]
    rfl
  rw [e1, ret_eq, e2, e3, some_bind]
  -- the first loop
  have key : ∀ (m k : Nat) (d : Array UInt32), k < m → k ≤ b - a → b ≤ d.size → d.size < 2305843009213693952 → d.size + 1 < n →
      f_slices_heapSortOrdered_uint32_l1 n a ((b - a : Nat) : Int) m (d.toList, (k : Int) - 1) = some (heapPop ltU a (b - a) (heapBuild ltU (b - a) a k d)).toList := by
    intro m
    induction m with
    | zero => intro k d h; omega
    | succ m ih =>
      intro k d hm hk hb hd hdn
      show f_slices_heapSortOrdered_uint32_l1_b n a ((b - a : Nat) : Int) (f_slices_heapSortOrdered_uint32_l1 n a ((b - a : Nat) : Int) m) d.toList ((k : Int) - 1) = _
      unfold f_slices_heapSortOrdered_uint32_l1_b
      cases k with
      | zero =>
        rw [decide_eq_false (show ¬ (0 : Int) ≤ ((0 : Nat) : Int) - 1 by omega), cond_false]
        unfold f_slices_heapSortOrdered_uint32_j1
        rw [ret_eq, wI_eq (by omega) (by omega)]
        exact heapPopA (by omega) n (b - a) d (by omega) (by omega) hd (by omega)
      | succ k =>
        have e0 : ((k + 1 : Nat) : Int) - 1 = (k : Int) := by omega
        have e4 : wI ((k : Int) - 1) = (k : Int) - 1 := wI_eq (by omega) (by omega)
        rw [e0, decide_eq_true (show (0 : Int) ≤ (k : Int) by omega), cond_true, siftDownA (by omega) (by omega) hd (by omega), some_bind, ret_eq, e4]
        rw [ih k _ (by omega) (by omega) (by rw [siftDown_size]; exact hb) (by rw [siftDown_size]; exact hd) (by rw [siftDown_size]; exact hdn)]
        rfl
  have h9 : (((b - a - 1) / 2 : Nat) : Int) = (((b - a - 1) / 2 + 1 : Nat) : Int) - 1 := by omega
  rw [h9]
  exact key n _ d (by omega) (by omega) hb hd hn
/-! ### partialInsertionSort -/
section partialIns
variable {n : Nat} {a b : Nat} (nx : List UInt32 × Int × Int → Option (Bool × List UInt32)) (s i : Nat)
theorem shiftUpA : ∀ (m j : Nat) (d : Array UInt32), b - j < m → 1 ≤ j → b ≤ d.size → d.size < 2305843009213693952 → s < 5 →
    f_slices_partialInsertionSortOrdered_uint32_l4 b s i nx m (d.toList, (j : Int)) = nx ((shiftUp ltU b j d).toList, (i : Int), ((s + 1 : Nat) : Int)) := by
  intro m
  induction m with
  | zero => intro j d h; omega
  | succ m ih =>
    intro j d hm hj hb hd hs
    have hj2 : ∀ d : Array UInt32, f_slices_partialInsertionSortOrdered_uint32_j2 s nx d.toList i = nx (d.toList, (i : Int), ((s + 1 : Nat) : Int)) := by
      intro d
      unfold f_slices_partialInsertionSortOrdered_uint32_j2
      rw [ret_eq, wI_eq (by omega) (by omega)]
      rfl
    show f_slices_partialInsertionSortOrdered_uint32_l4_b b s i nx (f_slices_partialInsertionSortOrdered_uint32_l4 b s i nx m) d.toList j = _
    unfold f_slices_partialInsertionSortOrdered_uint32_l4_b
    rw [shiftUp]
    by_cases h : j < b
    · have e1 : wI ((j : Int) - 1) = ((j - 1 : Nat) : Int) := by rw [wI_eq (by omega) (by omega)]; omega
      have e2 : wI ((j : Int) + 1) = ((j + 1 : Nat) : Int) := by rw [wI_eq (by omega) (by omega)]; omega
      rw [if_pos h, decide_eq_true (show (j : Int) < (b : Int) by omega), cond_true, e1, swapA rfl rfl (by omega) (by omega), nthA rfl (by omega), some_bind, nthA rfl (by omega), some_bind, lessU, some_bind, ret_eq, e2]
      cases hlt : ltU d[j]! d[j - 1]!
      · simp only [Bool.not_false, cond_true, if_true]
        exact hj2 d
      · simp only [Bool.not_true, cond_false, Bool.false_eq_true, if_false]
        exact ih _ _ (by omega) (by omega) (by rw [swp_size]; exact hb) (by rw [swp_size]; exact hd) hs
    · rw [if_neg h, decide_eq_false (show ¬ (j : Int) < (b : Int) by omega), cond_false]
      exact hj2 d
theorem shiftUp_size (b : Nat) (j : Nat) (d : Array UInt32) : (shiftUp ltU b j d).size = d.size := by
  fun_induction shiftUp ltU b j d <;> simp_all [swp_size]
theorem shiftDown_size : ∀ (j : Nat) (d : Array UInt32), (shiftDown ltU j d).size = d.size
  | 0, d => rfl
  | j + 1, d => by
    rw [shiftDown]
    split
    · rfl
    · rw [shiftDown_size j, swp_size]
theorem insJ4 {d : Array UInt32} (hi : 1 ≤ i) (hib : i ≤ b) (hb : b ≤ d.size) (hd : d.size < 2305843009213693952) (hn : d.size < n) (hs : s < 5) :
    f_slices_partialInsertionSortOrdered_uint32_j4 n b s i nx d.toList = nx ((if b - i ≥ 2 then shiftUp ltU b (i + 1) d else d).toList, (i : Int), ((s + 1 : Nat) : Int)) := by
  unfold f_slices_partialInsertionSortOrdered_uint32_j4
  have e1 : wI ((b : Int) - (i : Int)) = ((b - i : Nat) : Int) := by rw [wI_eq (by omega) (by omega)]; omega
  have e2 : wI ((i : Int) + 1) = ((i + 1 : Nat) : Int) := by rw [wI_eq (by omega) (by omega)]; omega
  rw [e1, e2, ret_eq]
  by_cases h : b - i ≥ 2
  · rw [if_pos h, decide_eq_true (show (2 : Int) ≤ ((b - i : Nat) : Int) by omega), cond_true]
    exact shiftUpA nx s i n (i + 1) d (by omega) (by omega) hb hd hs
  · rw [if_neg h, decide_eq_false (show ¬ (2 : Int) ≤ ((b - i : Nat) : Int) by omega), cond_false]
    unfold f_slices_partialInsertionSortOrdered_uint32_j2
    rw [ret_eq, wI_eq (by omega) (by omega)]
    rfl
theorem shiftDownA (hi : 1 ≤ i) (hib : i ≤ b) (hs : s < 5) : ∀ (m j : Nat) (d : Array UInt32), j < m → j < b → b ≤ d.size → d.size < 2305843009213693952 → d.size < n →
    f_slices_partialInsertionSortOrdered_uint32_l3 n b s i nx m (d.toList, (j : Int)) = f_slices_partialInsertionSortOrdered_uint32_j4 n b s i nx (shiftDown ltU j d).toList := by
  intro m
  induction m with
  | zero => intro j d h; omega
  | succ m ih =>
    intro j d hm hj hb hd hn
    show f_slices_partialInsertionSortOrdered_uint32_l3_b n b s i nx (f_slices_partialInsertionSortOrdered_uint32_l3 n b s i nx m) d.toList j = _
    unfold f_slices_partialInsertionSortOrdered_uint32_l3_b
    cases j with
    | zero => rfl
    | succ j =>
      have e1 : wI (((j + 1 : Nat) : Int) - 1) = (j : Int) := by rw [wI_eq (by omega) (by omega)]; omega
      rw [decide_eq_true (show (1 : Int) ≤ ((j + 1 : Nat) : Int) by omega), cond_true, e1, swapA rfl rfl (by omega) (by omega), nthA rfl (by omega), some_bind, nthA rfl (by omega), some_bind, lessU, some_bind, ret_eq, shiftDown]
      cases hlt : ltU d[j + 1]! d[j]!
      · rfl
      · simp only [Bool.not_true, cond_false, Bool.false_eq_true, if_false]
        exact ih _ _ (by omega) (by omega) (by rw [swp_size]; exact hb) (by rw [swp_size]; exact hd) (by rw [swp_size]; exact hn)
end partialIns
theorem scanSorted_ge (d : Array UInt32) (b i : Nat) : i ≤ scanSorted ltU d b i := by
  fun_induction scanSorted ltU d b i <;> omega
theorem scanSorted_le (d : Array UInt32) (b i : Nat) (h : i ≤ b) : scanSorted ltU d b i ≤ b := by
  fun_induction scanSorted ltU d b i
  · rename_i hc ih
    simp only [Bool.and_eq_true, decide_eq_true_eq] at hc
    exact ih (by omega)
  · exact h
theorem scanSortedA {n a b : Nat} (nx : List UInt32 × Int × Int → Option (Bool × List UInt32)) (s : Nat) (d : Array UInt32) (hb : b ≤ d.size) (hd : d.size < 2305843009213693952) : ∀ (m i : Nat), b - i < m → 1 ≤ i → i ≤ b →
    f_slices_partialInsertionSortOrdered_uint32_l2 n a b d.toList s nx m (i : Int) = f_slices_partialInsertionSortOrdered_uint32_j3 n a b d.toList s nx ((scanSorted ltU d b i : Nat) : Int) := by
  intro m
  induction m with
  | zero => intro i h; omega
  | succ m ih =>
    intro i hm h1 hib
    show f_slices_partialInsertionSortOrdered_uint32_l2_b n a b d.toList s nx (f_slices_partialInsertionSortOrdered_uint32_l2 n a b d.toList s nx m) i = _
    unfold f_slices_partialInsertionSortOrdered_uint32_l2_b
    rw [scanSorted]
    by_cases h : i < b
    · have e1 : wI ((i : Int) - 1) = ((i - 1 : Nat) : Int) := by rw [wI_eq (by omega) (by omega)]; omega
      have e2 : wI ((i : Int) + 1) = ((i + 1 : Nat) : Int) := by rw [wI_eq (by omega) (by omega)]; omega
      rw [decide_eq_true (show (i : Int) < (b : Int) by omega), e1, nthA rfl (by omega), some_bind, nthA rfl (by omega), some_bind, lessU, some_bind]
      simp only [andO, cond_true, some_bind, h, decide_true, Bool.true_and]
      cases hlt : ltU d[i]! d[i - 1]!
      · simp only [Bool.not_false, cond_true, if_true, ret_eq, e2]
        exact ih _ (by omega) (by omega) (by omega)
      · simp
    · rw [decide_eq_false (show ¬ (i : Int) < (b : Int) by omega)]
      simp only [andO, cond_false, some_bind, h, decide_false, Bool.false_and, Bool.false_eq_true, if_false]
theorem partialInsA {n a b : Nat} (hab : a < b) : ∀ (q : Nat) (m i : Nat) (d : Array UInt32), q ≤ 5 → q < m → 1 ≤ i → a < i → i ≤ b → b ≤ d.size → d.size < 2305843009213693952 → d.size < n →
    f_slices_partialInsertionSortOrdered_uint32_l1 n a b m (d.toList, (i : Int), ((5 - q : Nat) : Int)) = some ((partialIns ltU a b q i d).2, (partialIns ltU a b q i d).1.toList) := by
  intro q
  induction q with
  | zero =>
    intro m i d _ hm _ _ _ _ _ _
    obtain ⟨m, rfl⟩ : ∃ k, m = k + 1 := ⟨m - 1, by omega⟩
    rfl
  | succ q ih =>
    intro m i d hq hm h1 hai hib hb hd hn
    obtain ⟨m, rfl⟩ : ∃ k, m = k + 1 := ⟨m - 1, by omega⟩
    show f_slices_partialInsertionSortOrdered_uint32_l1_b n a b (f_slices_partialInsertionSortOrdered_uint32_l1 n a b m) d.toList i ((5 - (q + 1) : Nat) : Int) = _
    unfold f_slices_partialInsertionSortOrdered_uint32_l1_b
    rw [decide_eq_true (show ((5 - (q + 1) : Nat) : Int) < 5 by omega), cond_true, scanSortedA _ _ d hb hd n i (by omega) h1 hib, partialIns]
    have g1 := scanSorted_ge d b i
    have g2 := scanSorted_le d b i hib
    dsimp only
    generalize scanSorted ltU d b i = j at g1 g2 ⊢
    unfold f_slices_partialInsertionSortOrdered_uint32_j3
    by_cases hj : j = b
    · rw [if_pos hj, decide_eq_true (show (j : Int) = (b : Int) by omega), cond_true]
    · have e1 : wI ((b : Int) - (a : Int)) = ((b - a : Nat) : Int) := by rw [wI_eq (by omega) (by omega)]; omega
      have e2 : wI ((j : Int) - 1) = ((j - 1 : Nat) : Int) := by rw [wI_eq (by omega) (by omega)]; omega
      have e3 : wI ((j : Int) - (a : Int)) = ((j - a : Nat) : Int) := by rw [wI_eq (by omega) (by omega)]; omega
      rw [if_neg hj, decide_eq_false (show ¬ (j : Int) = (b : Int) by omega), cond_false, e1]
      by_cases h50 : b - a < 50
      · rw [if_pos h50, decide_eq_true (show ((b - a : Nat) : Int) < 50 by omega), cond_true]
      · have hsz := swp_size d j (j - 1)
        rw [if_neg h50, decide_eq_false (show ¬ ((b - a : Nat) : Int) < 50 by omega), cond_false, e2, swapA rfl rfl (by omega) (by omega), e3, ret_eq]
        have hq5 : ((5 - (q + 1) + 1 : Nat) : Int) = ((5 - q : Nat) : Int) := by omega
        generalize swp d j (j - 1) = d1 at hsz ⊢
        have fin : ∀ d2 : Array UInt32, d2.size = d.size → f_slices_partialInsertionSortOrdered_uint32_j4 n b ((5 - (q + 1) : Nat) : Int) j (f_slices_partialInsertionSortOrdered_uint32_l1 n a b m) d2.toList = some ((partialIns ltU a b q j (if b - j ≥ 2 then shiftUp ltU b (j + 1) d2 else d2)).2, (partialIns ltU a b q j (if b - j ≥ 2 then shiftUp ltU b (j + 1) d2 else d2)).1.toList) := by
          intro d2 h2
          have hz : (if b - j ≥ 2 then shiftUp ltU b (j + 1) d2 else d2).size = d.size := by
            split
            · rw [shiftUp_size, h2]
            · exact h2
          rw [insJ4 _ _ _ (by omega) (by omega) (by omega) (by omega) (by omega) (by omega), hq5]
          exact ih m j _ (by omega) (by omega) (by omega) (by omega) g2 (by rw [hz]; exact hb) (by rw [hz]; exact hd) (by rw [hz]; exact hn)
        by_cases h2 : j - a ≥ 2
        · rw [if_pos h2, decide_eq_true (show (2 : Int) ≤ ((j - a : Nat) : Int) by omega), cond_true, shiftDownA _ _ _ (by omega) (by omega) (by omega) n (j - 1) d1 (by omega) (by omega) (by omega) (by omega) (by omega)]
          exact fin _ (by rw [shiftDown_size, hsz])
        · rw [if_neg h2, decide_eq_false (show ¬ (2 : Int) ≤ ((j - a : Nat) : Int) by omega), cond_false]
          exact fin _ hsz
theorem partialInsertionSortA {n a b : Nat} {d : Array UInt32} (hab : a < b) (hb : b ≤ d.size) (hd : d.size < 2305843009213693952) (hn : d.size < n) (h5 : 5 < n) :
    f_slices_partialInsertionSortOrdered_uint32 n d.toList a b = some ((partialInsertionSort ltU d a b).2, (partialInsertionSort ltU d a b).1.toList) := by
  unfold f_slices_partialInsertionSortOrdered_uint32 partialInsertionSort
  have e2 : wI ((a : Int) + 1) = ((a + 1 : Nat) : Int) := by rw [wI_eq (by omega) (by omega)]; omega
  rw [ret_eq, e2]
  exact partialInsA hab 5 n (a + 1) d (by omega) h5 (by omega) (by omega) (by omega) hb hd hn
/-! ### The scans -/
theorem pU1 {n : Nat} {a j : Nat} {d : Array UInt32} (ha : a < d.size) (hj : j < d.size) (hd : d.size < 2305843009213693952) : ∀ (m i : Nat), j + 1 - i < m →
    f_slices_partitionOrdered_uint32_l1 n (a : Int) d.toList (j : Int) m (i : Int) = f_slices_partitionOrdered_uint32_j1 n (a : Int) d.toList (j : Int) ((scanUp (fun x => ltU x d[a]!) d j i : Nat) : Int) := by
  intro m
  induction m with
  | zero => intro i h; omega
  | succ m ih =>
    intro i hm
    show f_slices_partitionOrdered_uint32_l1_b n (a : Int) d.toList (j : Int) (f_slices_partitionOrdered_uint32_l1 n (a : Int) d.toList (j : Int) m) (i : Int) = _
    unfold f_slices_partitionOrdered_uint32_l1_b
    rw [scanUp]
    by_cases h : i ≤ j
    · have e2 : wI ((i : Int) + 1) = ((i + 1 : Nat) : Int) := by rw [wI_eq (by omega) (by omega)]; omega
      rw [decide_eq_true (show (i : Int) ≤ (j : Int) by omega), nthA rfl (by omega), some_bind, nthA rfl (by omega), some_bind, lessU, some_bind]
      simp only [andO, cond_true, some_bind, h, decide_true, Bool.true_and]
      cases hlt : ltU d[i]! d[a]!
      · simp
        skip
      · simp only [cond_true, if_true, ret_eq, e2]
        exact ih _ (by omega)
    · rw [decide_eq_false (show ¬ (i : Int) ≤ (j : Int) by omega)]
      simp only [andO, cond_false, some_bind, h, decide_false, Bool.false_and, Bool.false_eq_true, if_false]
theorem pD1 {n : Nat} {a i : Nat} {d : Array UInt32} (ha : a < d.size) (hi : 1 ≤ i) (hd : d.size < 2305843009213693952) : ∀ (m j : Nat), j < m → j < d.size →
    f_slices_partitionOrdered_uint32_l2 n (a : Int) d.toList (i : Int) m (j : Int) = f_slices_partitionOrdered_uint32_j2 n (a : Int) d.toList (i : Int) ((scanDown (fun x => !ltU x d[a]!) d i j : Nat) : Int) := by
  intro m
  induction m with
  | zero => intro j h; omega
  | succ m ih =>
    intro j hm hj
    show f_slices_partitionOrdered_uint32_l2_b n (a : Int) d.toList (i : Int) (f_slices_partitionOrdered_uint32_l2 n (a : Int) d.toList (i : Int) m) (j : Int) = _
    unfold f_slices_partitionOrdered_uint32_l2_b
    cases j with
    | zero =>
      rw [decide_eq_false (show ¬ (i : Int) ≤ ((0 : Nat) : Int) by omega)]
      rfl
    | succ j =>
      rw [scanDown]
      by_cases h : i ≤ j + 1
      · have e2 : wI (((j + 1 : Nat) : Int) - 1) = (j : Int) := by rw [wI_eq (by omega) (by omega)]; omega
        rw [decide_eq_true (show (i : Int) ≤ ((j + 1 : Nat) : Int) by omega), nthA rfl (by omega), some_bind, nthA rfl (by omega), some_bind, lessU, some_bind]
        simp only [andO, cond_true, some_bind, h, decide_true, Bool.true_and]
        cases hlt : ltU d[j + 1]! d[a]!
        · simp only [Bool.not_false, cond_true, if_true, ret_eq, e2]
          exact ih _ (by omega) (by omega)
        · simp
          skip
      · rw [decide_eq_false (show ¬ (i : Int) ≤ ((j + 1 : Nat) : Int) by omega)]
        simp only [andO, cond_false, some_bind, h, decide_false, Bool.false_and, Bool.false_eq_true, if_false]
theorem pU2 {n : Nat} {a j : Nat} {d : Array UInt32} {nx : List UInt32 × Int × Int → Option (Int × Bool × List UInt32)} (ha : a < d.size) (hj : j < d.size) (hd : d.size < 2305843009213693952) : ∀ (m i : Nat), j + 1 - i < m →
    f_slices_partitionOrdered_uint32_l4 n (a : Int) d.toList (j : Int) nx m (i : Int) = f_slices_partitionOrdered_uint32_j4 n (a : Int) d.toList (j : Int) nx ((scanUp (fun x => ltU x d[a]!) d j i : Nat) : Int) := by
  intro m
  induction m with
  | zero => intro i h; omega
  | succ m ih =>
    intro i hm
    show f_slices_partitionOrdered_uint32_l4_b n (a : Int) d.toList (j : Int) nx (f_slices_partitionOrdered_uint32_l4 n (a : Int) d.toList (j : Int) nx m) (i : Int) = _
    unfold f_slices_partitionOrdered_uint32_l4_b
    rw [scanUp]
    by_cases h : i ≤ j
    · have e2 : wI ((i : Int) + 1) = ((i + 1 : Nat) : Int) := by rw [wI_eq (by omega) (by omega)]; omega
      rw [decide_eq_true (show (i : Int) ≤ (j : Int) by omega), nthA rfl (by omega), some_bind, nthA rfl (by omega), some_bind, lessU, some_bind]
      simp only [andO, cond_true, some_bind, h, decide_true, Bool.true_and]
      cases hlt : ltU d[i]! d[a]!
      · simp
        skip
      · simp only [cond_true, if_true, ret_eq, e2]
        exact ih _ (by omega)
    · rw [decide_eq_false (show ¬ (i : Int) ≤ (j : Int) by omega)]
      simp only [andO, cond_false, some_bind, h, decide_false, Bool.false_and, Bool.false_eq_true, if_false]
theorem pD2  {a i : Nat} {d : Array UInt32} {nx : List UInt32 × Int × Int → Option (Int × Bool × List UInt32)} (ha : a < d.size) (hi : 1 ≤ i) (hd : d.size < 2305843009213693952) : ∀ (m j : Nat), j < m → j < d.size →
    f_slices_partitionOrdered_uint32_l5 (a : Int) d.toList (i : Int) nx m (j : Int) = f_slices_partitionOrdered_uint32_j5 (a : Int) d.toList (i : Int) nx ((scanDown (fun x => !ltU x d[a]!) d i j : Nat) : Int) := by
  intro m
  induction m with
  | zero => intro j h; omega
  | succ m ih =>
    intro j hm hj
    show f_slices_partitionOrdered_uint32_l5_b (a : Int) d.toList (i : Int) nx (f_slices_partitionOrdered_uint32_l5 (a : Int) d.toList (i : Int) nx m) (j : Int) = _
    unfold f_slices_partitionOrdered_uint32_l5_b
    cases j with
    | zero =>
      rw [decide_eq_false (show ¬ (i : Int) ≤ ((0 : Nat) : Int) by omega)]
      rfl
    | succ j =>
      rw [scanDown]
      by_cases h : i ≤ j + 1
      · have e2 : wI (((j + 1 : Nat) : Int) - 1) = (j : Int) := by rw [wI_eq (by omega) (by omega)]; omega
        rw [decide_eq_true (show (i : Int) ≤ ((j + 1 : Nat) : Int) by omega), nthA rfl (by omega), some_bind, nthA rfl (by omega), some_bind, lessU, some_bind]
        simp only [andO, cond_true, some_bind, h, decide_true, Bool.true_and]
        cases hlt : ltU d[j + 1]! d[a]!
        · simp only [Bool.not_false, cond_true, if_true, ret_eq, e2]
          exact ih _ (by omega) (by omega)
        · simp
          skip
      · rw [decide_eq_false (show ¬ (i : Int) ≤ ((j + 1 : Nat) : Int) by omega)]
        simp only [andO, cond_false, some_bind, h, decide_false, Bool.false_and, Bool.false_eq_true, if_false]
theorem eU {n : Nat} {a j : Nat} {d : Array UInt32} {nx : List UInt32 × Int × Int → Option (Int × List UInt32)} (ha : a < d.size) (hj : j < d.size) (hd : d.size < 2305843009213693952) : ∀ (m i : Nat), j + 1 - i < m →
    f_slices_partitionEqualOrdered_uint32_l2 n (a : Int) d.toList (j : Int) nx m (i : Int) = f_slices_partitionEqualOrdered_uint32_j2 n (a : Int) d.toList (j : Int) nx ((scanUp (fun x => !ltU d[a]! x) d j i : Nat) : Int) := by
  intro m
  induction m with
  | zero => intro i h; omega
  | succ m ih =>
    intro i hm
    show f_slices_partitionEqualOrdered_uint32_l2_b n (a : Int) d.toList (j : Int) nx (f_slices_partitionEqualOrdered_uint32_l2 n (a : Int) d.toList (j : Int) nx m) (i : Int) = _
    unfold f_slices_partitionEqualOrdered_uint32_l2_b
    rw [scanUp]
    by_cases h : i ≤ j
    · have e2 : wI ((i : Int) + 1) = ((i + 1 : Nat) : Int) := by rw [wI_eq (by omega) (by omega)]; omega
      rw [decide_eq_true (show (i : Int) ≤ (j : Int) by omega), nthA rfl (by omega), some_bind, nthA rfl (by omega), some_bind, lessU, some_bind]
      simp only [andO, cond_true, some_bind, h, decide_true, Bool.true_and]
      cases hlt : ltU d[a]! d[i]!
      · simp only [Bool.not_false, cond_true, if_true, ret_eq, e2]
        exact ih _ (by omega)
      · simp
        skip
    · rw [decide_eq_false (show ¬ (i : Int) ≤ (j : Int) by omega)]
      simp only [andO, cond_false, some_bind, h, decide_false, Bool.false_and, Bool.false_eq_true, if_false]
theorem eD  {a i : Nat} {d : Array UInt32} {nx : List UInt32 × Int × Int → Option (Int × List UInt32)} (ha : a < d.size) (hi : 1 ≤ i) (hd : d.size < 2305843009213693952) : ∀ (m j : Nat), j < m → j < d.size →
    f_slices_partitionEqualOrdered_uint32_l3 (a : Int) d.toList (i : Int) nx m (j : Int) = f_slices_partitionEqualOrdered_uint32_j3 d.toList (i : Int) nx ((scanDown (fun x => ltU d[a]! x) d i j : Nat) : Int) := by
  intro m
  induction m with
  | zero => intro j h; omega
  | succ m ih =>
    intro j hm hj
    show f_slices_partitionEqualOrdered_uint32_l3_b (a : Int) d.toList (i : Int) nx (f_slices_partitionEqualOrdered_uint32_l3 (a : Int) d.toList (i : Int) nx m) (j : Int) = _
    unfold f_slices_partitionEqualOrdered_uint32_l3_b
    cases j with
    | zero =>
      rw [decide_eq_false (show ¬ (i : Int) ≤ ((0 : Nat) : Int) by omega)]
      rfl
    | succ j =>
      rw [scanDown]
      by_cases h : i ≤ j + 1
      · have e2 : wI (((j + 1 : Nat) : Int) - 1) = (j : Int) := by rw [wI_eq (by omega) (by omega)]; omega
        rw [decide_eq_true (show (i : Int) ≤ ((j + 1 : Nat) : Int) by omega), nthA rfl (by omega), some_bind, nthA rfl (by omega), some_bind, lessU, some_bind]
        simp only [andO, cond_true, some_bind, h, decide_true, Bool.true_and]
        cases hlt : ltU d[a]! d[j + 1]!
        · simp
          skip
        · simp only [cond_true, if_true, ret_eq, e2]
          exact ih _ (by omega) (by omega)
      · rw [decide_eq_false (show ¬ (i : Int) ≤ ((j + 1 : Nat) : Int) by omega)]
        simp only [andO, cond_false, some_bind, h, decide_false, Bool.false_and, Bool.false_eq_true, if_false]
theorem scanUp_le {p : UInt32 → Bool} {d : Array UInt32} {j : Nat} : ∀ (k i : Nat), j + 1 - i ≤ k → i ≤ j + 2 → scanUp p d j i ≤ j + 2 := by
  intro k
  induction k with
  | zero =>
    intro i h hi
    rw [scanUp]
    have : ¬ i ≤ j := by omega
    simp [this]
    omega
  | succ k ih =>
    intro i h hi
    rw [scanUp]
    split
    · rename_i hc
      simp only [Bool.and_eq_true, decide_eq_true_eq] at hc
      exact ih _ (by omega) (by omega)
    · exact hi
theorem scanDown_ge {p : UInt32 → Bool} {d : Array UInt32} {i : Nat} : ∀ (j : Nat), i ≤ j + 2 → i ≤ scanDown p d i j + 2
  | 0, h => by simpa [scanDown] using h
  | j + 1, h => by
    rw [scanDown]
    split
    · rename_i hc
      simp only [Bool.and_eq_true, decide_eq_true_eq] at hc
      exact scanDown_ge j (by omega)
    · exact h
/-! ### partition -/
theorem partLoopA {n a : Nat} : ∀ (m i j : Nat) (d : Array UInt32), j + 1 - i < m → a < i → i ≤ j + 2 → j < d.size → a < d.size → d.size < 2305843009213693952 → d.size + 1 < n →
    f_slices_partitionOrdered_uint32_l3 n a m (d.toList, (i : Int), (j : Int)) = some (((partLoop ltU a i j d).1 : Int), false, (swp (partLoop ltU a i j d).2 (partLoop ltU a i j d).1 a).toList) := by
  intro m
  induction m with
  | zero => intro i j d h; omega
  | succ m ih =>
    intro i j d hm hai hij hj ha hd hn
    show f_slices_partitionOrdered_uint32_l3_b n a (f_slices_partitionOrdered_uint32_l3 n a m) d.toList i j = _
    unfold f_slices_partitionOrdered_uint32_l3_b
    rw [pU2 (by omega) hj hd n i (by omega), partLoop_eq]
    have g1 := scanUp_ge (fun x => ltU x d[a]!) d j i
    have g2 := scanUp_le (p := fun x => ltU x d[a]!) (d := d) (j := j) _ i (Nat.le_refl _) hij
    generalize scanUp (fun x => ltU x d[a]!) d j i = i2 at g1 g2 ⊢
    unfold f_slices_partitionOrdered_uint32_j4
    rw [pD2 (by omega) (by omega) hd n j (by omega) hj]
    have g3 := scanDown_le (fun x => !ltU x d[a]!) d i2 j
    have g4 := scanDown_ge (p := fun x => !ltU x d[a]!) (d := d) (i := i2) j g2
    generalize scanDown (fun x => !ltU x d[a]!) d i2 j = j2 at g3 g4 ⊢
    unfold f_slices_partitionOrdered_uint32_j5
    by_cases h : i2 > j2
    · rw [if_pos h, decide_eq_true (show (j2 : Int) < (i2 : Int) by omega), cond_true]
      unfold f_slices_partitionOrdered_uint32_j3
      rw [swapA rfl rfl (by omega) (by omega)]
    · have e1 : wI ((i2 : Int) + 1) = ((i2 + 1 : Nat) : Int) := by rw [wI_eq (by omega) (by omega)]; omega
      have e2 : wI ((j2 : Int) - 1) = ((j2 - 1 : Nat) : Int) := by rw [wI_eq (by omega) (by omega)]; omega
      rw [if_neg h, decide_eq_false (show ¬ (j2 : Int) < (i2 : Int) by omega), cond_false, swapA rfl rfl (by omega) (by omega), ret_eq, ret_eq, e1, e2]
      exact ih _ _ _ (by omega) (by omega) (by omega) (by rw [swp_size]; omega) (by rw [swp_size]; exact ha) (by rw [swp_size]; exact hd) (by rw [swp_size]; exact hn)
theorem partitionA {n a b pivot : Nat} {d : Array UInt32} (h1 : a ≤ pivot) (h2 : pivot < b) (hb : b ≤ d.size) (hd : d.size < 2305843009213693952) (hn : d.size + 1 < n) :
    f_slices_partitionOrdered_uint32 n d.toList a b pivot = some (((partition ltU d a b pivot).1 : Int), (partition ltU d a b pivot).2.1, (partition ltU d a b pivot).2.2.toList) := by
  unfold f_slices_partitionOrdered_uint32 partition
  have e1 : wI ((a : Int) + 1) = ((a + 1 : Nat) : Int) := by rw [wI_eq (by omega) (by omega)]; omega
  have e2 : wI ((b : Int) - 1) = ((b - 1 : Nat) : Int) := by rw [wI_eq (by omega) (by omega)]; omega
  rw [swapA rfl rfl (by omega) (by omega), ret_eq, ret_eq, e1, e2]
  have hsz := swp_size d a pivot
  dsimp only
  generalize swp d a pivot = d at hsz ⊢
  rw [pU1 (by omega) (by omega) (by omega) n (a + 1) (by omega)]
  have g1 := scanUp_ge (fun x => ltU x d[a]!) d (b - 1) (a + 1)
  have g2 := scanUp_le (p := fun x => ltU x d[a]!) (d := d) (j := b - 1) _ (a + 1) (Nat.le_refl _) (by omega)
  generalize scanUp (fun x => ltU x d[a]!) d (b - 1) (a + 1) = i2 at g1 g2 ⊢
  unfold f_slices_partitionOrdered_uint32_j1
  rw [pD1 (by omega) (by omega) (by omega) n (b - 1) (by omega) (by omega)]
  have g3 := scanDown_le (fun x => !ltU x d[a]!) d i2 (b - 1)
  have g4 := scanDown_ge (p := fun x => !ltU x d[a]!) (d := d) (i := i2) (b - 1) g2
  generalize scanDown (fun x => !ltU x d[a]!) d i2 (b - 1) = j2 at g3 g4 ⊢
  unfold f_slices_partitionOrdered_uint32_j2
  by_cases h : i2 > j2
  · rw [if_pos h, decide_eq_true (show (j2 : Int) < (i2 : Int) by omega), cond_true, swapA rfl rfl (by omega) (by omega)]
  · have e3 : wI ((i2 : Int) + 1) = ((i2 + 1 : Nat) : Int) := by rw [wI_eq (by omega) (by omega)]; omega
    have e4 : wI ((j2 : Int) - 1) = ((j2 - 1 : Nat) : Int) := by rw [wI_eq (by omega) (by omega)]; omega
    rw [if_neg h, decide_eq_false (show ¬ (j2 : Int) < (i2 : Int) by omega), cond_false, swapA rfl rfl (by omega) (by omega), ret_eq, ret_eq, e3, e4]
    exact partLoopA n _ _ _ (by omega) (by omega) (by omega) (by rw [swp_size]; omega) (by rw [swp_size]; omega) (by rw [swp_size]; omega) (by rw [swp_size]; omega)
theorem partEqLoopA {n a : Nat} : ∀ (m i j : Nat) (d : Array UInt32), j + 1 - i < m → a < i → i ≤ j + 2 → j < d.size → a < d.size → d.size < 2305843009213693952 → d.size + 1 < n →
    f_slices_partitionEqualOrdered_uint32_l1 n a m (d.toList, (i : Int), (j : Int)) = some (((partEqLoop ltU a i j d).1 : Int), (partEqLoop ltU a i j d).2.toList) := by
  intro m
  induction m with
  | zero => intro i j d h; omega
  | succ m ih =>
    intro i j d hm hai hij hj ha hd hn
    show f_slices_partitionEqualOrdered_uint32_l1_b n a (f_slices_partitionEqualOrdered_uint32_l1 n a m) d.toList i j = _
    unfold f_slices_partitionEqualOrdered_uint32_l1_b
    rw [eU (by omega) hj hd n i (by omega), partEqLoop_eq]
    have g1 := scanUp_ge (fun x => !ltU d[a]! x) d j i
    have g2 := scanUp_le (p := fun x => !ltU d[a]! x) (d := d) (j := j) _ i (Nat.le_refl _) hij
    generalize scanUp (fun x => !ltU d[a]! x) d j i = i2 at g1 g2 ⊢
    unfold f_slices_partitionEqualOrdered_uint32_j2
    rw [eD (by omega) (by omega) hd n j (by omega) hj]
    have g3 := scanDown_le (fun x => ltU d[a]! x) d i2 j
    have g4 := scanDown_ge (p := fun x => ltU d[a]! x) (d := d) (i := i2) j g2
    generalize scanDown (fun x => ltU d[a]! x) d i2 j = j2 at g3 g4 ⊢
    unfold f_slices_partitionEqualOrdered_uint32_j3
    by_cases h : i2 > j2
    · rw [if_pos h, decide_eq_true (show (j2 : Int) < (i2 : Int) by omega), cond_true]
      rfl
    · have e1 : wI ((i2 : Int) + 1) = ((i2 + 1 : Nat) : Int) := by rw [wI_eq (by omega) (by omega)]; omega
      have e2 : wI ((j2 : Int) - 1) = ((j2 - 1 : Nat) : Int) := by rw [wI_eq (by omega) (by omega)]; omega
      rw [if_neg h, decide_eq_false (show ¬ (j2 : Int) < (i2 : Int) by omega), cond_false, swapA rfl rfl (by omega) (by omega), ret_eq, ret_eq, e1, e2]
      exact ih _ _ _ (by omega) (by omega) (by omega) (by rw [swp_size]; omega) (by rw [swp_size]; exact ha) (by rw [swp_size]; exact hd) (by rw [swp_size]; exact hn)
theorem partitionEqualA {n a b pivot : Nat} {d : Array UInt32} (h1 : a ≤ pivot) (h2 : pivot < b) (hb : b ≤ d.size) (hd : d.size < 2305843009213693952) (hn : d.size + 1 < n) :
    f_slices_partitionEqualOrdered_uint32 n d.toList a b pivot = some (((partitionEqual ltU d a b pivot).1 : Int), (partitionEqual ltU d a b pivot).2.toList) := by
  unfold f_slices_partitionEqualOrdered_uint32 partitionEqual
  have e1 : wI ((a : Int) + 1) = ((a + 1 : Nat) : Int) := by rw [wI_eq (by omega) (by omega)]; omega
  have e2 : wI ((b : Int) - 1) = ((b - 1 : Nat) : Int) := by rw [wI_eq (by omega) (by omega)]; omega
  rw [swapA rfl rfl (by omega) (by omega), ret_eq, ret_eq, e1, e2]
  exact partEqLoopA n _ _ _ (by omega) (by omega) (by omega) (by rw [swp_size]; omega) (by rw [swp_size]; omega) (by rw [swp_size]; omega) (by rw [swp_size]; omega)
/-! ### insertionSort -/
theorem insInnerA {a : Nat} (a1 : Int) (nx1 : List UInt32 × Int → Option (List UInt32)) : ∀ (m j : Nat) (d : Array UInt32), j < m → j < d.size → d.size < 2305843009213693952 →
    f_slices_insertionSortOrdered_uint32_l2 a a1 nx1 m (d.toList, (j : Int)) = f_slices_insertionSortOrdered_uint32_j1 a1 nx1 (insInner ltU a j d).toList := by
  intro m
  induction m with
  | zero => intro j d h; omega
  | succ m ih =>
    intro j d hm hj hd
    show f_slices_insertionSortOrdered_uint32_l2_b a a1 nx1 (f_slices_insertionSortOrdered_uint32_l2 a a1 nx1 m) d.toList j = _
    unfold f_slices_insertionSortOrdered_uint32_l2_b
    cases j with
    | zero =>
      rw [decide_eq_false (show ¬ (a : Int) < ((0 : Nat) : Int) by omega)]
      rfl
    | succ j =>
      rw [insInner]
      have e1 : wI (((j + 1 : Nat) : Int) - 1) = (j : Int) := by rw [wI_eq (by omega) (by omega)]; omega
      by_cases h : j + 1 > a
      · rw [decide_eq_true (show (a : Int) < ((j + 1 : Nat) : Int) by omega), e1]
        have hsw := swapA (d := d) (k := fun l3 => ret (j : Int) fun j_1 => f_slices_insertionSortOrdered_uint32_l2 a a1 nx1 m (l3, j_1)) (i := j + 1) (j := j) rfl rfl (by omega) (by omega)
        rw [hsw, nthA rfl (by omega), some_bind, nthA rfl (by omega), some_bind, lessU, some_bind]
        simp only [andO, cond_true, some_bind, h, decide_true, Bool.true_and, ret_eq]
        cases hlt : ltU d[j + 1]! d[j]!
        · simp
        · simp only [cond_true, if_true]
          exact ih _ _ (by omega) (by rw [swp_size]; omega) (by rw [swp_size]; exact hd)
      · rw [decide_eq_false (show ¬ (a : Int) < ((j + 1 : Nat) : Int) by omega)]
        simp only [andO, cond_false, some_bind, h, decide_false, Bool.false_and, Bool.false_eq_true, if_false]
theorem insInner_size (a : Nat) : ∀ (j : Nat) (d : Array UInt32), (insInner ltU a j d).size = d.size
  | 0, d => rfl
  | j + 1, d => by
    rw [insInner]
    split
    · rw [insInner_size a j, swp_size]
    · rfl
theorem insOuterA {n a b : Nat} : ∀ (m i : Nat) (d : Array UInt32), b - i < m → b ≤ d.size → d.size < 2305843009213693952 → d.size < n →
    f_slices_insertionSortOrdered_uint32_l1 n a b m (d.toList, (i : Int)) = some (insOuter ltU a b i d).toList := by
  intro m
  induction m with
  | zero => intro i d h; omega
  | succ m ih =>
    intro i d hm hb hd hn
    show f_slices_insertionSortOrdered_uint32_l1_b n a b (f_slices_insertionSortOrdered_uint32_l1 n a b m) d.toList i = _
    unfold f_slices_insertionSortOrdered_uint32_l1_b
    rw [insOuter]
    by_cases h : i < b
    · rw [if_pos h, decide_eq_true (show (i : Int) < (b : Int) by omega), cond_true, insInnerA _ _ n i d (by omega) (by omega) hd]
      unfold f_slices_insertionSortOrdered_uint32_j1
      have e2 : wI ((i : Int) + 1) = ((i + 1 : Nat) : Int) := by rw [wI_eq (by omega) (by omega)]; omega
      rw [ret_eq, e2]
      exact ih _ _ (by omega) (by rw [insInner_size]; exact hb) (by rw [insInner_size]; exact hd) (by rw [insInner_size]; exact hn)
    · rw [if_neg h, decide_eq_false (show ¬ (i : Int) < (b : Int) by omega), cond_false]
theorem insertionSortA {n a b : Nat} {d : Array UInt32} (hb : b ≤ d.size) (ha : a ≤ d.size) (hd : d.size < 2305843009213693952) (hn : d.size < n) :
    f_slices_insertionSortOrdered_uint32 n d.toList a b = some (insertionSort ltU d a b).toList := by
  unfold f_slices_insertionSortOrdered_uint32 insertionSort
  have e2 : wI ((a : Int) + 1) = ((a + 1 : Nat) : Int) := by rw [wI_eq (by omega) (by omega)]; omega
  rw [ret_eq, e2]
  exact insOuterA n _ _ (by omega) hb hd hn
/-! ### bits.Len -/
theorem bitsLen_unique {n k : Nat} (h1 : n < 2 ^ k) (h2 : k = 0 ∨ 2 ^ (k - 1) ≤ n) : bitsLen n = k := by
  have h3 := (bitsLen_le_iff n k).2 h1
  rcases h2 with rfl | h2
  · omega
  · rcases Nat.lt_or_ge (bitsLen n) k with h | h
    · have := (bitsLen_le_iff n (k - 1)).1 (by omega)
      omega
    · omega
theorem bitsLen_shift {n k : Nat} (h : 2 ^ k ≤ n) : bitsLen n = bitsLen (n / 2 ^ k) + k := by
  have hp : 0 < 2 ^ k := Nat.pow_pos (by omega)
  have h0 : 0 < n / 2 ^ k := Nat.div_pos h hp
  have h1 := lt_two_pow_bitsLen (n / 2 ^ k)
  refine bitsLen_unique ?_ (.inr ?_)
  · rw [Nat.pow_add]
    exact (Nat.div_lt_iff_lt_mul hp).1 h1
  · have h2 : 0 < bitsLen (n / 2 ^ k) := by
      rcases Nat.eq_zero_or_pos (bitsLen (n / 2 ^ k)) with h3 | h3
      · rw [h3] at h1; simp at h1; omega
      · exact h3
    have h3 : 2 ^ (bitsLen (n / 2 ^ k) - 1) ≤ n / 2 ^ k := by
      rcases Nat.lt_or_ge (n / 2 ^ k) (2 ^ (bitsLen (n / 2 ^ k) - 1)) with h4 | h4
      · have := (bitsLen_le_iff _ _).2 h4
        omega
      · exact h4
    have e : bitsLen (n / 2 ^ k) + k - 1 = (bitsLen (n / 2 ^ k) - 1) + k := by omega
    rw [e, Nat.pow_add]
    exact Nat.le_trans (Nat.mul_le_mul_right _ h3) (Nat.div_mul_le_self ..)
theorem len_bind {L : List UInt8} (hL : ((List.range 256).all fun x => decide ((L[x]?).map UInt8.toNat = some (bitsLen x))) = true) (k : UInt8) {s : Nat} (hs : s ≤ 64) :
    ((nthI L (k.toNat : Int)).bind fun c1 => ret (wI ((s : Int) + (c1.toNat : Int))) fun x6 => some x6) = some ((s + bitsLen k.toNat : Nat) : Int) := by
  have hk := k.toNat_lt
  have h := List.all_eq_true.1 hL k.toNat (List.mem_range.2 (by omega))
  have h := of_decide_eq_true h
  have h7 : bitsLen k.toNat ≤ 8 := (bitsLen_le_iff _ _).2 (by omega)
  rw [nthI_nat]
  cases hc : L[k.toNat]? with
  | none => rw [hc] at h; cases h
  | some c =>
    rw [hc] at h
    have h9 : c.toNat = bitsLen k.toNat := Option.some.inj h
    rw [some_bind, ret_eq, h9, wI_eq (by omega) (by omega)]
    simp
set_option maxRecDepth 100000 in
theorem len_j3A {a : UInt64} {s : Nat} (ha : a.toNat < 256) (hs : s ≤ 64) : f_math_bits_Len64_j3 a s = some ((s + bitsLen a.toNat : Nat) : Int) := by
  have e : a.toUInt8.toNat = a.toNat := by simp; omega
  unfold f_math_bits_Len64_j3
  rw [← e]
  exact len_bind (by kernel_rfl) a.toUInt8 hs
theorem shr64_toNat (a : UInt64) (k : Nat) (hk : k < 64) : (shr64 a k).toNat = a.toNat / 2 ^ k := by
  have := a.toNat_lt
  have hm : min k 64 = k := by omega
  have h2 : a.toNat / 2 ^ k ≤ a.toNat := Nat.div_le_self ..
  simp only [shr64, hm, UInt64.toNat_ofNat']
  exact Nat.mod_eq_of_lt (by omega)
theorem len_j2A {a : UInt64} {s : Nat} (ha : a.toNat < 65536) (hs : s ≤ 56) : f_math_bits_Len64_j2 a s = some ((s + bitsLen a.toNat : Nat) : Int) := by
  unfold f_math_bits_Len64_j2
  by_cases h : 256 ≤ a
  · have h' : 256 ≤ a.toNat := by rw [UInt64.le_iff_toNat_le] at h; exact h
    have e1 : wI ((s : Int) + 8) = ((s + 8 : Nat) : Int) := by rw [wI_eq (by omega) (by omega)]; omega
    rw [decide_eq_true h, cond_true, ret_eq, ret_eq, e1, len_j3A (by rw [shr64_toNat _ _ (by omega)]; omega) (by omega), shr64_toNat _ _ (by omega), bitsLen_shift (n := a.toNat) (k := 8) (by omega)]
    congr 1; omega
  · have h' : a.toNat < 256 := by rw [UInt64.not_le, UInt64.lt_iff_toNat_lt] at h; exact h
    rw [decide_eq_false h, cond_false, len_j3A h' (by omega)]
theorem len_j1A {a : UInt64} {s : Nat} (ha : a.toNat < 4294967296) (hs : s ≤ 40) : f_math_bits_Len64_j1 a s = some ((s + bitsLen a.toNat : Nat) : Int) := by
  unfold f_math_bits_Len64_j1
  by_cases h : 65536 ≤ a
  · have h' : 65536 ≤ a.toNat := by rw [UInt64.le_iff_toNat_le] at h; exact h
    have e1 : wI ((s : Int) + 16) = ((s + 16 : Nat) : Int) := by rw [wI_eq (by omega) (by omega)]; omega
    rw [decide_eq_true h, cond_true, ret_eq, ret_eq, e1, len_j2A (by rw [shr64_toNat _ _ (by omega)]; omega) (by omega), shr64_toNat _ _ (by omega), bitsLen_shift (n := a.toNat) (k := 16) (by omega)]
    congr 1; omega
  · have h' : a.toNat < 65536 := by rw [UInt64.not_le, UInt64.lt_iff_toNat_lt] at h; exact h
    rw [decide_eq_false h, cond_false, len_j2A h' (by omega)]
theorem lenA (a : UInt64) : f_math_bits_Len a = some ((bitsLen a.toNat : Nat) : Int) := by
  have key : f_math_bits_Len64 a = some ((bitsLen a.toNat : Nat) : Int) := by
    unfold f_math_bits_Len64
    by_cases h : 4294967296 ≤ a
    · have h' : 4294967296 ≤ a.toNat := by rw [UInt64.le_iff_toNat_le] at h; exact h
      have := a.toNat_lt
      have e := len_j1A (a := shr64 a 32) (s := 32) (by rw [shr64_toNat _ _ (by omega)]; omega) (by omega)
      rw [decide_eq_true h, cond_true, ret_eq]
      refine e.trans ?_
      rw [shr64_toNat _ _ (by omega), bitsLen_shift (n := a.toNat) (k := 32) (by omega)]
      congr 1; omega
    · have h' : a.toNat < 4294967296 := by rw [UInt64.not_le, UInt64.lt_iff_toNat_lt] at h; exact h
      rw [decide_eq_false h, cond_false]
      have e := len_j1A (a := a) (s := 0) h' (by omega)
      simpa using e
  unfold f_math_bits_Len
  rw [key, some_bind]
/-! ### breakPatterns -/
theorem shl_eq (a : UInt64) (k : Nat) (hk : k < 64) : shl64 a k = a <<< (UInt64.ofNat k) := by
  apply UInt64.toNat_inj.1
  have hm : min k 64 = k := by omega
  simp only [shl64, hm, UInt64.toNat_ofNat', UInt64.toNat_shiftLeft]
  have e : k % 2 ^ 64 % 64 = k := by omega
  rw [e, Nat.shiftLeft_eq]
theorem shr_eq (a : UInt64) (k : Nat) (hk : k < 64) : shr64 a k = a >>> (UInt64.ofNat k) := by
  apply UInt64.toNat_inj.1
  rw [shr64_toNat a k hk]
  simp only [UInt64.toNat_shiftRight, UInt64.toNat_ofNat']
  have e : k % 2 ^ 64 % 64 = k := by omega
  rw [e, Nat.shiftRight_eq_div_pow]
theorem xorA (r : UInt64) : f_slices_xorshift_Next r = some (xorNext r, xorNext r) := by
  unfold f_slices_xorshift_Next xorNext
  rw [ret_eq, shl_eq r 13 (by omega), shr_eq _ 7 (by omega), shl_eq _ 17 (by omega)]
  rfl
theorem powA {l : Nat} (hl : l < 2305843009213693952) : ∃ y : UInt64, f_slices_nextPowerOfTwo (l : Int) = some y ∧ y.toNat = 1 <<< bitsLen l := by
  have h1 : bitsLen l ≤ 61 := (bitsLen_le_iff l 61).2 (by omega)
  have h2 : (toU64 (l : Int)).toNat = l := by simp only [toU64, UInt64.toNat_ofNat']; omega
  refine ⟨shl64 1 (bitsLen l), ?_, ?_⟩
  · unfold f_slices_nextPowerOfTwo
    rw [lenA, some_bind, h2]
    have e : shN ((bitsLen l : Nat) : Int) = some (bitsLen l) := by
      unfold shN
      rw [if_pos (by omega)]
      rfl
    rw [e, some_bind, ret_eq]
  · have hm : min (bitsLen l) 64 = bitsLen l := by omega
    have h3 : 2 ^ bitsLen l ≤ 2 ^ 61 := Nat.pow_le_pow_right (by omega) h1
    simp only [shl64, hm, UInt64.toNat_ofNat', Nat.shiftLeft_eq]
    rw [show (1 : UInt64).toNat = 1 from rfl]
    exact Nat.mod_eq_of_lt (by omega)
theorem breakStepA {n a b : Nat} {y : UInt64} (hab : 8 ≤ b - a) (hy : y.toNat = 1 <<< bitsLen (b - a)) (nx : List UInt32 × UInt64 × Int → Option (List UInt32)) (r : UInt64) (d : Array UInt32) (idx : Nat) (h1 : a ≤ idx) (h2 : idx < b) (hb : b ≤ d.size) (hd : d.size < 2305843009213693952)
    (hle : idx ≤ a + (b - a) / 4 * 2 + 1) :
    f_slices_breakPatternsOrdered_uint32_l1_b a ((b - a : Nat) : Int) y nx d.toList r idx = nx ((breakStep a (b - a) (1 <<< bitsLen (b - a)) (r, d) idx).2.toList, (breakStep a (b - a) (1 <<< bitsLen (b - a)) (r, d) idx).1, ((idx + 1 : Nat) : Int)) := by
  have q4 : quoI ((b - a : Nat) : Int) 4 = some (((b - a) / 4 : Nat) : Int) := quo4.resolve_right (by omega)
  have e1 : wI ((((b - a) / 4 : Nat) : Int) * 2) = (((b - a) / 4 * 2 : Nat) : Int) := by rw [wI_eq (by omega) (by omega)]; omega
  have e2 : wI ((a : Int) + (((b - a) / 4 * 2 : Nat) : Int)) = ((a + (b - a) / 4 * 2 : Nat) : Int) := by rw [wI_eq (by omega) (by omega)]; omega
  have e3 : wI (((a + (b - a) / 4 * 2 : Nat) : Int) + 1) = ((a + (b - a) / 4 * 2 + 1 : Nat) : Int) := by rw [wI_eq (by omega) (by omega)]; omega
  have hl61 : bitsLen (b - a) ≤ 61 := (bitsLen_le_iff _ 61).2 (by omega)
  have hp : 1 <<< bitsLen (b - a) = 2 ^ bitsLen (b - a) := by rw [Nat.shiftLeft_eq, Nat.one_mul]
  have hp2 : 2 ^ bitsLen (b - a) ≤ 2 ^ 61 := Nat.pow_le_pow_right (by omega) hl61
  have hp3 := two_pow_bitsLen_le (n := b - a) (by omega)
  have hp0 : 0 < 2 ^ bitsLen (b - a) := Nat.pow_pos (by omega)
  have hy1 : (y - 1).toNat = 1 <<< bitsLen (b - a) - 1 := by
    rw [UInt64.toNat_sub_of_le _ _ (by rw [UInt64.le_iff_toNat_le, hy, hp]; exact hp0), hy]
    rfl
  unfold f_slices_breakPatternsOrdered_uint32_l1_b breakStep
  dsimp only
  rw [q4, some_bind, e1, e2, e3, decide_eq_true (show (idx : Int) ≤ ((a + (b - a) / 4 * 2 + 1 : Nat) : Int) by omega), cond_true, xorA, some_bind]
  dsimp only
  have ho : (xorNext r &&& (y - 1)).toNat = (xorNext r).toNat &&& (1 <<< bitsLen (b - a) - 1) := by rw [UInt64.toNat_and, hy1]
  have hlt : (xorNext r).toNat &&& (1 <<< bitsLen (b - a) - 1) < 2 ^ bitsLen (b - a) := by
    rw [hp]
    exact Nat.lt_of_le_of_lt Nat.and_le_right (by omega)
  rw [ho, ret_eq]
  generalize (xorNext r).toNat &&& (1 <<< bitsLen (b - a) - 1) = o at hlt ⊢
  have eo : wI (o : Int) = (o : Int) := wI_eq (by omega) (by omega)
  rw [eo]
  have hj : ∀ q : Nat, q < b - a → f_slices_breakPatternsOrdered_uint32_j1 a d.toList idx (xorNext r, xorNext r) nx q = nx ((swp d idx (a + q)).toList, xorNext r, ((idx + 1 : Nat) : Int)) := by
    intro q hq
    unfold f_slices_breakPatternsOrdered_uint32_j1
    have e4 : wI ((a : Int) + (q : Int)) = ((a + q : Nat) : Int) := by rw [wI_eq (by omega) (by omega)]; omega
    have e5 : wI ((idx : Int) + 1) = ((idx + 1 : Nat) : Int) := by rw [wI_eq (by omega) (by omega)]; omega
    rw [e4, swapA rfl rfl (by omega) (by omega), ret_eq, e5]
  by_cases h : o ≥ b - a
  · have e6 : wI ((o : Int) - ((b - a : Nat) : Int)) = ((o - (b - a) : Nat) : Int) := by rw [wI_eq (by omega) (by omega)]; omega
    rw [if_pos h, decide_eq_true (show ((b - a : Nat) : Int) ≤ (o : Int) by omega), cond_true, ret_eq, e6]
    exact hj _ (by omega)
  · rw [if_neg h, decide_eq_false (show ¬ ((b - a : Nat) : Int) ≤ (o : Int) by omega), cond_false]
    exact hj _ (by omega)
theorem breakStep_size (a l m : Nat) (st : UInt64 × Array UInt32) (i : Nat) : (breakStep a l m st i).2.size = st.2.size := by simp [breakStep, swp_size]
theorem breakPatternsA {n a b : Nat} {d : Array UInt32} (hab : a ≤ b) (hb : b ≤ d.size) (hd : d.size < 2305843009213693952) (hn : 3 < n) :
    f_slices_breakPatternsOrdered_uint32 n d.toList a b = some (breakPatterns d a b).toList := by
  unfold f_slices_breakPatternsOrdered_uint32 breakPatterns
  have e0 : wI ((b : Int) - (a : Int)) = ((b - a : Nat) : Int) := by rw [wI_eq (by omega) (by omega)]; omega
  rw [e0, ret_eq]
  dsimp only
  by_cases h8 : b - a ≥ 8
  · have q4 : quoI ((b - a : Nat) : Int) 4 = some (((b - a) / 4 : Nat) : Int) := quo4.resolve_right (by omega)
    have e1 : wI ((((b - a) / 4 : Nat) : Int) * 2) = (((b - a) / 4 * 2 : Nat) : Int) := by rw [wI_eq (by omega) (by omega)]; omega
    have e2 : wI ((a : Int) + (((b - a) / 4 * 2 : Nat) : Int)) = ((a + (b - a) / 4 * 2 : Nat) : Int) := by rw [wI_eq (by omega) (by omega)]; omega
    have e3 : wI (((a + (b - a) / 4 * 2 : Nat) : Int) - 1) = ((a + (b - a) / 4 * 2 - 1 : Nat) : Int) := by rw [wI_eq (by omega) (by omega)]; omega
    have e4 : toU64 ((b - a : Nat) : Int) = UInt64.ofNat (b - a) := by
      apply UInt64.toNat_inj.1
      simp only [toU64, UInt64.toNat_ofNat']; omega
    obtain ⟨y, hy, hyn⟩ := powA (l := b - a) (by omega)
    rw [if_pos h8, decide_eq_true (show (8 : Int) ≤ ((b - a : Nat) : Int) by omega), cond_true, hy, some_bind, q4, some_bind, e1, e2, e3, e4, ret_eq]
    obtain ⟨m, rfl⟩ : ∃ m, n = m + 4 := ⟨n - 4, by omega⟩
    have st : ∀ (m : Nat) (r : UInt64) (d : Array UInt32) (idx : Nat), a ≤ idx → idx < b → b ≤ d.size → d.size < 2305843009213693952 → idx ≤ a + (b - a) / 4 * 2 + 1 →
        f_slices_breakPatternsOrdered_uint32_l1 a ((b - a : Nat) : Int) y (m + 1) (d.toList, r, (idx : Int)) = f_slices_breakPatternsOrdered_uint32_l1 a ((b - a : Nat) : Int) y m ((breakStep a (b - a) (1 <<< bitsLen (b - a)) (r, d) idx).2.toList, (breakStep a (b - a) (1 <<< bitsLen (b - a)) (r, d) idx).1, ((idx + 1 : Nat) : Int)) :=
      fun m r d idx h1 h2 h3 h4 h5 => breakStepA (n := m) (by omega) hyn (f_slices_breakPatternsOrdered_uint32_l1 a ((b - a : Nat) : Int) y m) r d idx h1 h2 h3 h4 h5
    rw [st _ _ _ _ (by omega) (by omega) hb hd (by omega), st _ _ _ _ (by omega) (by omega) (by rw [breakStep_size]; exact hb) (by rw [breakStep_size]; exact hd) (by omega),
      st _ _ _ _ (by omega) (by omega) (by rw [breakStep_size, breakStep_size]; exact hb) (by rw [breakStep_size, breakStep_size]; exact hd) (by omega)]
    show f_slices_breakPatternsOrdered_uint32_l1_b a ((b - a : Nat) : Int) y (f_slices_breakPatternsOrdered_uint32_l1 a ((b - a : Nat) : Int) y m) _ _ _ = _
    unfold f_slices_breakPatternsOrdered_uint32_l1_b
    have e5 : wI (((a + (b - a) / 4 * 2 : Nat) : Int) + 1) = ((a + (b - a) / 4 * 2 + 1 : Nat) : Int) := by rw [wI_eq (by omega) (by omega)]; omega
    dsimp only
    rw [q4, some_bind, e1, e2, e5, decide_eq_false (by omega), cond_false]
  · rw [if_neg h8, decide_eq_false (show ¬ (8 : Int) ≤ ((b - a : Nat) : Int) by omega), cond_false]
end Go.Proofs.Ytddjneafgddlcaa

/- Plain laws: the printed pdqsort is the kit's plain one; slices.Sort sorts. No program's walk in sight. Condition: rows of fewer than 2^61 numbers. -/
namespace Go.Proofs.Ytddjneafgddlcaa
open Go Go.Sort

theorem swoU : SWO ltU := ⟨fun x => by simp [ltU], fun x y z h1 h2 => by
    simp only [ltU, decide_eq_true_eq] at *
    exact UInt32.lt_trans h1 h2, fun x y z h1 h2 => by
    simp only [ltU, decide_eq_false_iff_not, UInt32.not_lt] at *
    exact UInt32.le_trans h2 h1⟩
theorem insOuter_size (a b : Nat) : ∀ (k i : Nat) (d : Array UInt32), b - i ≤ k → (insOuter ltU a b i d).size = d.size := by
  intro k
  induction k with
  | zero =>
    intro i d h
    rw [insOuter, if_neg (by omega)]
  | succ k ih =>
    intro i d h
    rw [insOuter]
    split
    · rw [ih _ _ (by omega), insInner_size]
    · rfl
theorem heapPop_size (first : Nat) : ∀ (k : Nat) (d : Array UInt32), (heapPop ltU first k d).size = d.size
  | 0, d => rfl
  | k + 1, d => by rw [heapPop, heapPop_size first k, siftDown_size, swp_size]
theorem heapSort_size (d : Array UInt32) (a b : Nat) : (heapSort ltU d a b).size = d.size := by
  unfold heapSort
  rw [heapPop_size, heapBuild_size]
theorem breakPatterns_size (d : Array UInt32) (a b : Nat) : (breakPatterns d a b).size = d.size := by
  unfold breakPatterns
  dsimp only
  split
  · simp [breakStep_size]
  · rfl
theorem reverseLoop_size : ∀ (k i j : Nat) (d : Array UInt32), j - i ≤ k → (reverseLoop i j d).size = d.size := by
  intro k
  induction k with
  | zero =>
    intro i j d h
    rw [reverseLoop, if_neg (by omega)]
  | succ k ih =>
    intro i j d h
    rw [reverseLoop]
    split
    · rw [ih _ _ _ (by omega), swp_size]
    · rfl
theorem partialIns_size (a b : Nat) : ∀ (s i : Nat) (d : Array UInt32), (partialIns ltU a b s i d).1.size = d.size
  | 0, i, d => rfl
  | s + 1, i, d => by
    rw [partialIns]
    dsimp only
    split
    · rfl
    · split
      · rfl
      · rw [partialIns_size a b s]
        split
        · rw [shiftUp_size]
          split
          · rw [shiftDown_size, swp_size]
          · rw [swp_size]
        · split
          · rw [shiftDown_size, swp_size]
          · rw [swp_size]
theorem partEq_range {d : Array UInt32} {a b pivot : Nat} (h1 : a ≤ pivot) (h2 : pivot < b) (hb : b ≤ d.size) : a < (partitionEqual ltU d a b pivot).1 ∧ (partitionEqual ltU d a b pivot).1 ≤ b ∧ (partitionEqual ltU d a b pivot).2.size = d.size := by
  have h := partEqLoop_spec (lt := ltU) a b _ (a + 1) (b - 1) (swp d a pivot) (Nat.le_refl _) (by omega) (by omega) (by omega) (by rw [swp_size]; exact hb) (fun t _ _ => by omega) (fun t _ _ => by omega)
  exact ⟨h.1, h.2.1, h.2.2.1.1.trans (swp_size ..)⟩
/-- pdqsort, behind its first two tests -/
def pdqRest (d1 : Array UInt32) (a b limit : Nat) (wasBalanced wasPartitioned : Bool) : Array UInt32 :=
  let c := choosePivot ltU d1 a b
  let d2 := if c.2 = .decreasing then reverseRange d1 a b else d1
  let pivot := if c.2 = .decreasing then (b - 1) - (c.1 - a) else c.1
  let hint := if c.2 = .decreasing then Hint.increasing else c.2
  let pi := if wasBalanced && wasPartitioned && hint = .increasing then partialInsertionSort ltU d2 a b else (d2, false)
  if pi.2 then pi.1 else
  let d3 := pi.1
  if a > 0 && !ltU d3[a - 1]! d3[pivot]! then
    match partitionEqual ltU d3 a b pivot with
    | (mid, d4) => if _h : a < mid ∧ mid ≤ b then pdq ltU d4 mid b limit wasBalanced wasPartitioned else d4
  else
    match partition ltU d3 a b pivot with
    | (mid, alreadyPartitioned, d4) =>
      if _h : a ≤ mid ∧ mid < b then
        if mid - a < b - mid then
          pdq ltU (pdq ltU d4 a mid limit true true) (mid + 1) b limit (decide (mid - a ≥ (b - a) / 8)) alreadyPartitioned
        else
          pdq ltU (pdq ltU d4 (mid + 1) b limit true true) a mid limit (decide (b - mid ≥ (b - a) / 8)) alreadyPartitioned
      else d4
theorem pdq_rest (d : Array UInt32) (a b limit : Nat) (wb wp : Bool) : pdq ltU d a b limit wb wp = if b - a ≤ 12 then insertionSort ltU d a b else if limit = 0 then heapSort ltU d a b else pdqRest (if !wb then breakPatterns d a b else d) a b (if !wb then limit - 1 else limit) wb wp := by
  rw [pdq]
  rfl
def pdqF (n : Nat) : Nat → List UInt32 → Int → Int → Int → Option (List UInt32)
  | 0 => fun _ _ _ _ => none
  | k + 1 => f_slices_pdqsortOrdered_uint32 (pdqF n k) n
/-- what is asked of the rounds that come -/
def PdqAt (n : Nat) (k : Nat) : Prop := ∀ (kk a b limit : Nat) (wb wp : Bool) (d : Array UInt32), k ≤ kk → b - a ≤ k → a ≤ b → b ≤ d.size → d.size < 2305843009213693952 → d.size + 5 < n → limit < 4611686018427387904 →
  (∀ m, b - a < m → f_slices_pdqsortOrdered_uint32_l1 n (pdqF n kk) m (d.toList, (a : Int), (b : Int), (limit : Int), wb, wp) = some (pdq ltU d a b limit wb wp).toList) ∧ (pdq ltU d a b limit wb wp).size = d.size
theorem quo8 {l : Nat} (h : l < 4611686018427387904) : quoI (l : Int) 8 = some ((l / 8 : Nat) : Int) := by
  unfold quoI
  rw [if_neg (by omega), Int.tdiv_eq_ediv_of_nonneg (by omega), wI_eq (by omega) (by omega)]
  rfl
theorem pdqJ3 {n k kk a b limit pivot : Nat} {wb wp : Bool} {d : Array UInt32} (hk : k + 1 ≤ kk) (ih : PdqAt n k) (hbk : b - a ≤ k + 1) (h1 : a ≤ pivot) (h2 : pivot < b) (hb : b ≤ d.size) (hd : d.size < 2305843009213693952) (hn : d.size + 5 < n) (hl : limit < 4611686018427387904) :
    (∀ m, b - a < m + 1 → f_slices_pdqsortOrdered_uint32_j3 n (pdqF n kk) a b wb wp ((b - a : Nat) : Int) limit pivot (f_slices_pdqsortOrdered_uint32_l1 n (pdqF n kk) m) d.toList = some (if a > 0 && !ltU d[a - 1]! d[pivot]! then
      match partitionEqual ltU d a b pivot with
      | (mid, d4) => if _h : a < mid ∧ mid ≤ b then pdq ltU d4 mid b limit wb wp else d4
    else
      match partition ltU d a b pivot with
      | (mid, alreadyPartitioned, d4) =>
        if _h : a ≤ mid ∧ mid < b then
          if mid - a < b - mid then
            pdq ltU (pdq ltU d4 a mid limit true true) (mid + 1) b limit (decide (mid - a ≥ (b - a) / 8)) alreadyPartitioned
          else
            pdq ltU (pdq ltU d4 (mid + 1) b limit true true) a mid limit (decide (b - mid ≥ (b - a) / 8)) alreadyPartitioned
        else d4).toList) ∧ (if a > 0 && !ltU d[a - 1]! d[pivot]! then
      match partitionEqual ltU d a b pivot with
      | (mid, d4) => if _h : a < mid ∧ mid ≤ b then pdq ltU d4 mid b limit wb wp else d4
    else
      match partition ltU d a b pivot with
      | (mid, alreadyPartitioned, d4) =>
        if _h : a ≤ mid ∧ mid < b then
          if mid - a < b - mid then
            pdq ltU (pdq ltU d4 a mid limit true true) (mid + 1) b limit (decide (mid - a ≥ (b - a) / 8)) alreadyPartitioned
          else
            pdq ltU (pdq ltU d4 (mid + 1) b limit true true) a mid limit (decide (b - mid ≥ (b - a) / 8)) alreadyPartitioned
        else d4).size = d.size := by
  have hcond : (andO (decide ((0 : Int) < (a : Int))) ((nthI d.toList (wI ((a : Int) - 1))).bind fun x4 => (nthI d.toList (pivot : Int)).bind fun x5 => (f_cmp_Less_uint32 x4 x5).bind fun y7 => some (!y7))) = some (decide (a > 0) && !ltU d[a - 1]! d[pivot]!) := by
    by_cases h0 : a > 0
    · have e1 : wI ((a : Int) - 1) = ((a - 1 : Nat) : Int) := by rw [wI_eq (by omega) (by omega)]; omega
      rw [decide_eq_true (show (0 : Int) < (a : Int) by omega), e1, nthA rfl (by omega), some_bind, nthA rfl (by omega), some_bind, lessU, some_bind, decide_eq_true h0]
      simp [andO]
    · rw [decide_eq_false (show ¬ (0 : Int) < (a : Int) by omega), decide_eq_false h0]
      simp [andO]
  unfold f_slices_pdqsortOrdered_uint32_j3
  rw [hcond]
  simp only [some_bind]
  cases hc : (decide (a > 0) && !ltU d[a - 1]! d[pivot]!)
  · -- partition
    have hp := partition_holds ltU swoU d a b pivot h1 h2 hb
    have ep := partitionA (n := n) h1 h2 hb hd (by omega)
    simp only [cond_false, Bool.false_eq_true, if_false]
    rw [ep]
    simp only [some_bind]
    obtain ⟨r1, r2, r3, _⟩ := hp
    have r3 := r3.1
    generalize partition ltU d a b pivot = r at r1 r2 r3 ⊢
    obtain ⟨mid, ap, d4⟩ := r
    dsimp only at r1 r2 r3 ⊢
    have e6 : wI ((mid : Int) - (a : Int)) = ((mid - a : Nat) : Int) := by rw [wI_eq (by omega) (by omega)]; omega
    have e7 : wI ((b : Int) - (mid : Int)) = ((b - mid : Nat) : Int) := by rw [wI_eq (by omega) (by omega)]; omega
    have e9 : wI ((mid : Int) + 1) = ((mid + 1 : Nat) : Int) := by rw [wI_eq (by omega) (by omega)]; omega
    rw [dif_pos ⟨r1, r2⟩, e6, e7, e9, quo8 (by omega)]
    simp only [some_bind, ret_eq]
    obtain ⟨kk, rfl⟩ : ∃ q, kk = q + 1 := ⟨kk - 1, by omega⟩
    by_cases hlt : mid - a < b - mid
    · rw [if_pos hlt, decide_eq_true (show ((mid - a : Nat) : Int) < ((b - mid : Nat) : Int) by omega)]
      simp only [cond_true]
      obtain ⟨i1, i2⟩ := ih kk a mid limit true true d4 (by omega) (by omega) (by omega) (by omega) (by omega) (by omega) hl
      have erec : pdqF n (kk + 1) d4.toList (a : Int) (mid : Int) (limit : Int) = some (pdq ltU d4 a mid limit true true).toList := i1 n (by omega)
      obtain ⟨j1, j2⟩ := ih (kk + 1) (mid + 1) b limit (decide (mid - a ≥ (b - a) / 8)) ap (pdq ltU d4 a mid limit true true) (by omega) (by omega) (by omega) (by omega) (by omega) (by omega) hl
      refine ⟨fun m hm => ?_, by omega⟩
      rw [erec, some_bind]
      have eb : decide ((((b - a) / 8 : Nat) : Int) ≤ ((mid - a : Nat) : Int)) = decide (mid - a ≥ (b - a) / 8) := by congr 1; exact propext (by omega)
      rw [eb]
      exact j1 m (by omega)
    · rw [if_neg hlt, decide_eq_false (show ¬ ((mid - a : Nat) : Int) < ((b - mid : Nat) : Int) by omega)]
      simp only [cond_false]
      obtain ⟨i1, i2⟩ := ih kk (mid + 1) b limit true true d4 (by omega) (by omega) (by omega) (by omega) (by omega) (by omega) hl
      have erec : pdqF n (kk + 1) d4.toList ((mid + 1 : Nat) : Int) (b : Int) (limit : Int) = some (pdq ltU d4 (mid + 1) b limit true true).toList := i1 n (by omega)
      obtain ⟨j1, j2⟩ := ih (kk + 1) a mid limit (decide (b - mid ≥ (b - a) / 8)) ap (pdq ltU d4 (mid + 1) b limit true true) (by omega) (by omega) (by omega) (by omega) (by omega) (by omega) hl
      refine ⟨fun m hm => ?_, by omega⟩
      rw [erec, some_bind]
      have eb : decide ((((b - a) / 8 : Nat) : Int) ≤ ((b - mid : Nat) : Int)) = decide (b - mid ≥ (b - a) / 8) := by congr 1; exact propext (by omega)
      rw [eb]
      exact j1 m (by omega)
  · -- partitionEqual
    obtain ⟨r1, r2, r3⟩ := partEq_range h1 h2 hb
    have ep := partitionEqualA (n := n) h1 h2 hb hd (by omega)
    simp only [cond_true, if_true]
    rw [ep]
    simp only [some_bind]
    generalize partitionEqual ltU d a b pivot = r at r1 r2 r3 ⊢
    obtain ⟨mid, d4⟩ := r
    dsimp only at r1 r2 r3 ⊢
    rw [dif_pos ⟨r1, r2⟩]
    obtain ⟨j1, j2⟩ := ih kk mid b limit wb wp d4 (by omega) (by omega) (by omega) (by omega) (by omega) (by omega) hl
    exact ⟨fun m hm => j1 m (by omega), by omega⟩
/-- the round, behind the pivot -/
def pdqTail (d3 : Array UInt32) (a b limit pivot : Nat) (wb wp : Bool) : Array UInt32 :=
  if a > 0 && !ltU d3[a - 1]! d3[pivot]! then
    match partitionEqual ltU d3 a b pivot with
    | (mid, d4) => if _h : a < mid ∧ mid ≤ b then pdq ltU d4 mid b limit wb wp else d4
  else
    match partition ltU d3 a b pivot with
    | (mid, alreadyPartitioned, d4) =>
      if _h : a ≤ mid ∧ mid < b then
        if mid - a < b - mid then
          pdq ltU (pdq ltU d4 a mid limit true true) (mid + 1) b limit (decide (mid - a ≥ (b - a) / 8)) alreadyPartitioned
        else
          pdq ltU (pdq ltU d4 (mid + 1) b limit true true) a mid limit (decide (b - mid ≥ (b - a) / 8)) alreadyPartitioned
      else d4
theorem pdqJ3' {n k kk a b limit pivot : Nat} {wb wp : Bool} {d : Array UInt32} (hk : k + 1 ≤ kk) (ih : PdqAt n k) (hbk : b - a ≤ k + 1) (h1 : a ≤ pivot) (h2 : pivot < b) (hb : b ≤ d.size) (hd : d.size < 2305843009213693952) (hn : d.size + 5 < n) (hl : limit < 4611686018427387904) :
    (∀ m, b - a < m + 1 → f_slices_pdqsortOrdered_uint32_j3 n (pdqF n kk) a b wb wp ((b - a : Nat) : Int) limit pivot (f_slices_pdqsortOrdered_uint32_l1 n (pdqF n kk) m) d.toList = some (pdqTail d a b limit pivot wb wp).toList) ∧ (pdqTail d a b limit pivot wb wp).size = d.size :=
  pdqJ3 hk ih hbk h1 h2 hb hd hn hl
theorem pdqJ2 {n k kk a b limit pivot : Nat} {wb wp : Bool} {d : Array UInt32} {hint : Hint} (hk : k + 1 ≤ kk) (ih : PdqAt n k) (hbk : b - a ≤ k + 1) (h1 : a ≤ pivot) (h2 : pivot < b) (hb : b ≤ d.size) (hd : d.size < 2305843009213693952) (hn : d.size + 5 < n) (hl : limit < 4611686018427387904) :
    (∀ m, b - a < m + 1 → f_slices_pdqsortOrdered_uint32_j2 n (pdqF n kk) a b wb wp ((b - a : Nat) : Int) limit (f_slices_pdqsortOrdered_uint32_l1 n (pdqF n kk) m) d.toList pivot (hintI hint) = some (if (if wb && wp && hint = .increasing then partialInsertionSort ltU d a b else (d, false)).2 then (if wb && wp && hint = .increasing then partialInsertionSort ltU d a b else (d, false)).1 else pdqTail (if wb && wp && hint = .increasing then partialInsertionSort ltU d a b else (d, false)).1 a b limit pivot wb wp).toList) ∧
      (if (if wb && wp && hint = .increasing then partialInsertionSort ltU d a b else (d, false)).2 then (if wb && wp && hint = .increasing then partialInsertionSort ltU d a b else (d, false)).1 else pdqTail (if wb && wp && hint = .increasing then partialInsertionSort ltU d a b else (d, false)).1 a b limit pivot wb wp).size = d.size := by
  have eh : decide (hintI hint = 1) = decide (hint = .increasing) := by cases hint <;> rfl
  unfold f_slices_pdqsortOrdered_uint32_j2
  rw [eh]
  cases hc : (wb && wp && decide (hint = .increasing))
  · simp only [cond_false, Bool.false_eq_true, if_false]
    exact pdqJ3' hk ih hbk h1 h2 hb hd hn hl
  · simp only [cond_true, if_true]
    rw [partialInsertionSortA (by omega) hb hd (by omega) (by omega)]
    simp only [some_bind]
    have hsz : (partialInsertionSort ltU d a b).1.size = d.size := partialIns_size ..
    generalize partialInsertionSort ltU d a b = r at hsz ⊢
    obtain ⟨d3, fin⟩ := r
    dsimp only at hsz ⊢
    cases fin
    · simp only [cond_false, Bool.false_eq_true, if_false]
      obtain ⟨j1, j2⟩ := pdqJ3' (wb := wb) (wp := wp) hk ih hbk h1 h2 (d := d3) (by omega) (by omega) (by omega) hl
      exact ⟨j1, by omega⟩
    · exact ⟨fun _ _ => rfl, hsz⟩
theorem pdqJ1 {n k kk a b limit : Nat} {wb wp : Bool} {d : Array UInt32} (hk : k + 1 ≤ kk) (ih : PdqAt n k) (hbk : b - a ≤ k + 1) (hab : a < b) (hb : b ≤ d.size) (hd : d.size < 2305843009213693952) (hn : d.size + 5 < n) (hl : limit < 4611686018427387904) :
    (∀ m, b - a < m + 1 → f_slices_pdqsortOrdered_uint32_j1 n (pdqF n kk) a b wb wp ((b - a : Nat) : Int) (f_slices_pdqsortOrdered_uint32_l1 n (pdqF n kk) m) d.toList limit = some (pdqRest d a b limit wb wp).toList) ∧ (pdqRest d a b limit wb wp).size = d.size := by
  have hc := choosePivot_holds ltU d a b hab
  unfold f_slices_pdqsortOrdered_uint32_j1
  rw [choosePivotA hab hb hd]
  simp only [some_bind]
  have e0 : pdqRest d a b limit wb wp = (let c := choosePivot ltU d a b
    let d2 := if c.2 = .decreasing then reverseRange d a b else d
    let pivot := if c.2 = .decreasing then (b - 1) - (c.1 - a) else c.1
    let hint := if c.2 = .decreasing then Hint.increasing else c.2
    let pi := if wb && wp && hint = .increasing then partialInsertionSort ltU d2 a b else (d2, false)
    if pi.2 then pi.1 else pdqTail pi.1 a b limit pivot wb wp) := rfl
  rw [e0]
  obtain ⟨c1, c2⟩ := hc
  generalize choosePivot ltU d a b = c at c1 c2 ⊢
  obtain ⟨p, h⟩ := c
  dsimp only at c1 c2 ⊢
  by_cases hdec : h = .decreasing
  · have e1 : decide (hintI h = 2) = true := by rw [hdec]; rfl
    have e2 : wI ((b : Int) - 1) = ((b - 1 : Nat) : Int) := by rw [wI_eq (by omega) (by omega)]; omega
    have e3 : wI ((p : Int) - (a : Int)) = ((p - a : Nat) : Int) := by rw [wI_eq (by omega) (by omega)]; omega
    have e4 : wI (((b - 1 : Nat) : Int) - ((p - a : Nat) : Int)) = (((b - 1) - (p - a) : Nat) : Int) := by rw [wI_eq (by omega) (by omega)]; omega
    rw [e1, reverseRangeA hab hb hd (by omega)]
    simp only [cond_true, some_bind, ret_eq, e2, e3, e4, hdec, if_true]
    have hsz : (reverseRange d a b).size = d.size := reverseLoop_size _ _ _ _ (Nat.le_refl _)
    obtain ⟨j1, j2⟩ := pdqJ2 (hint := .increasing) (wb := wb) (wp := wp) (pivot := (b - 1) - (p - a)) (d := reverseRange d a b) hk ih hbk (by omega) (by omega) (by omega) (by omega) (by omega) hl
    exact ⟨j1, j2.trans hsz⟩
  · have e1 : decide (hintI h = 2) = false := by cases h <;> first | rfl | exact absurd rfl hdec
    rw [e1]
    simp only [cond_false, hdec, if_false]
    exact pdqJ2 hk ih hbk c1 c2 hb hd hn hl
theorem pdq_all (n : Nat) : ∀ k, PdqAt n k := by
  intro k
  induction k with
  | zero =>
    intro kk a b limit wb wp d _ hk hab hb hd hn hl
    have h12 : b - a ≤ 12 := by omega
    rw [pdq_rest, if_pos h12]
    have hsz : (insertionSort ltU d a b).size = d.size := insOuter_size _ _ _ _ _ (Nat.le_refl _)
    refine ⟨fun m hm => ?_, hsz⟩
    obtain ⟨m, rfl⟩ : ∃ q, m = q + 1 := ⟨m - 1, by omega⟩
    show f_slices_pdqsortOrdered_uint32_l1_b n (pdqF n kk) (f_slices_pdqsortOrdered_uint32_l1 n (pdqF n kk) m) d.toList a b limit wb wp = _
    unfold f_slices_pdqsortOrdered_uint32_l1_b
    have e0 : wI ((b : Int) - (a : Int)) = ((b - a : Nat) : Int) := by rw [wI_eq (by omega) (by omega)]; omega
    rw [ret_eq, e0, decide_eq_true (show ((b - a : Nat) : Int) ≤ 12 by omega), cond_true, insertionSortA hb (by omega) hd (by omega), some_bind]
  | succ k ih =>
    intro kk a b limit wb wp d hkk hk hab hb hd hn hl
    rw [pdq_rest]
    have e0 : wI ((b : Int) - (a : Int)) = ((b - a : Nat) : Int) := by rw [wI_eq (by omega) (by omega)]; omega
    have hshow : ∀ m, f_slices_pdqsortOrdered_uint32_l1 n (pdqF n kk) (m + 1) (d.toList, (a : Int), (b : Int), (limit : Int), wb, wp) = f_slices_pdqsortOrdered_uint32_l1_b n (pdqF n kk) (f_slices_pdqsortOrdered_uint32_l1 n (pdqF n kk) m) d.toList a b limit wb wp := fun m => rfl
    by_cases h12 : b - a ≤ 12
    · rw [if_pos h12]
      refine ⟨fun m hm => ?_, insOuter_size _ _ _ _ _ (Nat.le_refl _)⟩
      obtain ⟨m, rfl⟩ : ∃ q, m = q + 1 := ⟨m - 1, by omega⟩
      rw [hshow]
      unfold f_slices_pdqsortOrdered_uint32_l1_b
      rw [ret_eq, e0, decide_eq_true (show ((b - a : Nat) : Int) ≤ 12 by omega), cond_true, insertionSortA hb (by omega) hd (by omega), some_bind]
    · rw [if_neg h12]
      by_cases h0 : limit = 0
      · rw [if_pos h0]
        refine ⟨fun m hm => ?_, heapSort_size ..⟩
        obtain ⟨m, rfl⟩ : ∃ q, m = q + 1 := ⟨m - 1, by omega⟩
        rw [hshow]
        unfold f_slices_pdqsortOrdered_uint32_l1_b
        rw [ret_eq, e0, decide_eq_false (show ¬ ((b - a : Nat) : Int) ≤ 12 by omega), cond_false, decide_eq_true (show (limit : Int) = 0 by omega), cond_true, heapSortA (by omega) hb hd (by omega), some_bind]
      · rw [if_neg h0]
        cases wb
        · obtain ⟨j1, j2⟩ := pdqJ1 (limit := limit - 1) (wb := false) (wp := wp) (d := breakPatterns d a b) hkk ih hk (by omega) (by rw [breakPatterns_size]; exact hb) (by rw [breakPatterns_size]; exact hd) (by rw [breakPatterns_size]; exact hn) (by omega)
          refine ⟨fun m hm => ?_, by rw [breakPatterns_size] at j2; exact j2⟩
          obtain ⟨m, rfl⟩ : ∃ q, m = q + 1 := ⟨m - 1, by omega⟩
          rw [hshow]
          unfold f_slices_pdqsortOrdered_uint32_l1_b
          have e1 : wI ((limit : Int) - 1) = ((limit - 1 : Nat) : Int) := by rw [wI_eq (by omega) (by omega)]; omega
          rw [ret_eq, e0, decide_eq_false (show ¬ ((b - a : Nat) : Int) ≤ 12 by omega), cond_false, decide_eq_false (show ¬ (limit : Int) = 0 by omega), cond_false, breakPatternsA hab hb hd (by omega)]
          simp only [Bool.not_false, cond_true, some_bind, ret_eq, e1]
          exact j1 m hm
        · obtain ⟨j1, j2⟩ := pdqJ1 (limit := limit) (wb := true) (wp := wp) (d := d) hkk ih hk (by omega) hb hd hn hl
          refine ⟨fun m hm => ?_, j2⟩
          obtain ⟨m, rfl⟩ : ∃ q, m = q + 1 := ⟨m - 1, by omega⟩
          rw [hshow]
          unfold f_slices_pdqsortOrdered_uint32_l1_b
          rw [ret_eq, e0, decide_eq_false (show ¬ ((b - a : Nat) : Int) ≤ 12 by omega), cond_false, decide_eq_false (show ¬ (limit : Int) = 0 by omega), cond_false]
          simp only [Bool.not_true, cond_false]
          exact j1 m hm
theorem pdqF_sort (l : List UInt32) (hl : l.length < 2305843009213693952) (lim : Nat) (hlim : lim < 4611686018427387904) : pdqF (l.length + 6) (l.length + 6) l 0 (l.length : Int) lim = some (l.mergeSort fun a b => decide (a ≤ b)) := by
  obtain ⟨h, _⟩ := pdq_all (l.length + 6) l.length (l.length + 5) 0 l.length lim true true l.toArray (by omega) (by omega) (by omega) (by simp) (by simpa using hl) (by simp) hlim
  have h1 : pdqF (l.length + 6) (l.length + 6) l 0 (l.length : Int) lim = some (pdq ltU l.toArray 0 l.length lim true true).toList := h (l.length + 6) (by omega)
  rw [h1]
  congr 1
  have hs := pdq_sorts ltU swoU l.toArray 0 l.length lim true true (by omega) (by simp) (.inl rfl)
  have hu := sorted_unique_holds swoU (fun x y h1 h2 => by
    simp only [decide_eq_false_iff_not, UInt32.not_lt] at h1 h2
    exact UInt32.le_antisymm h2 h1) l.toArray (pdq ltU l.toArray 0 l.length lim true true) (by simpa using hs.1) (by simpa using hs.2)
  rw [hu]
  congr 1
  funext x y
  show (!decide (y < x)) = decide (x ≤ y)
  by_cases h : y < x
  · simp [h, UInt32.not_le.2 h]
  · simp [h, UInt32.not_lt.1 h]
end Go.Proofs.Ytddjneafgddlcaa

/- The printed pdqsort, tied to itself: the walk of slices.pdqsortOrdered. Condition: the plain function yields. -/
namespace Go.Proofs.Ytddjneafgddlcaa
open Go
variable {K : Nat → Prop} {w0 : World} {H : List Chunk}

theorem c_pdqF (n : Nat) : ∀ (k : Nat) {H : List Chunk} {v0_ : Value} {p0 : List UInt32} {p1 p2 p3 : Int} {r : List UInt32}, pdqF n k p0 p1 p2 p3 = some r → Con Try.prog K w0 56 [v0_, vI p1, vI p2, vI p3] [rowT 32 1 v0_ eU32 p0] H (fun u M => u = .tuple #[] ∧ M = [rowT 32 1 v0_ eU32 r])
  | 0, _, _, _, _, _, _, _, h => by cases h
  | k + 1, _, _, _, _, _, _, _, h => c_slices_pdqsortOrdered_uint32 (rec_ := pdqF n k) h (fun h' => c_pdqF n k h')
def pdqO (n : Nat) (d : List UInt32) (a b limit : Int) : Option (List UInt32) := pdqF n n d a b limit
theorem c_pdq12 {n : Nat} {v0_ : Value} {p0 : List UInt32} {p1 p2 p3 : Int} {r : List UInt32} (h : pdqO n p0 p1 p2 p3 = some r) : Con Try.prog K w0 56 [v0_, vI p1, vI p2, vI p3] [rowT 32 1 v0_ eU32 p0] H (fun u M => u = .tuple #[] ∧ M = [rowT 32 1 v0_ eU32 r]) := c_pdqF n n h
end Go.Proofs.Ytddjneafgddlcaa

/- Plain functions of the references and the laws, printed from the loaded program, and the walks that show that the program computes them. Condition: the plain function yields. -/
namespace Go.Proofs.Ytddjneafgddlcaa
open Go
variable {K : Nat → Prop} {w0 : World} {H : List Chunk}

def f_slices_Sort_uint32_uint32 (n : Nat) (p0 : List UInt32) : Option (List UInt32) :=
  (f_math_bits_Len (toU64 (p0.length : Int))).bind fun y1 =>
  (pdqO n p0 0 (p0.length : Int) y1).bind fun y2 =>
  some y2
set_option maxRecDepth 100000 in
theorem c_slices_Sort_uint32_uint32 {n : Nat} {v0_ : Value} {p0 : List UInt32} {r : List UInt32} (h : f_slices_Sort_uint32_uint32 n p0 = some r)  : Con Try.prog K w0 50 [v0_] [rowT 32 1 v0_ eU32 p0] H (fun u M => u = .tuple #[] ∧ M = [rowT 32 1 v0_ eU32 r]) := by
  unfold f_slices_Sort_uint32_uint32 at h
  refine Con.enter Try.func50 rfl rfl ?_
  refine SX.sr ?_
  refine SL.mv ⟨rfl, rfl, rfl, rfl⟩ rfl ?_
  refine SL.lenT 0 ⟨rfl, rfl, rfl, rfl⟩ ty90 rfl rfl ?_
  refine SL.asg ⟨rfl, rfl, rfl, rfl⟩ rfl ?_
  refine SL.nx ?_
  refine SX.region ?_
  obtain ⟨y1, hy1, h⟩ := bnd h
  obtain ⟨y2, hy2, h⟩ := bnd h
  refine SL.mv ⟨rfl, rfl, rfl, rfl⟩ rfl ?_
  refine SL.mv ⟨rfl, rfl, rfl, rfl⟩ rfl ?_
  refine SL.mv ⟨rfl, rfl, rfl, rfl⟩ rfl ?_
  refine SL.cv ⟨rfl, rfl, rfl, rfl⟩ rfl (Cv.i_64 ty3 ty64) ?_
  refine SL.call (vs := [_]) (Hin := []) (Hr := _ :: _) ⟨rfl, rfl, rfl, rfl⟩ rfl ⟨rfl, trivial⟩ cal57 rfl rfl (c_math_bits_Len hy1) ?_
  rintro _ _ ⟨rfl, rfl⟩
  refine ⟨trivial, ?_⟩
  refine SL.call (vs := [_, _, _, _]) (Hin := [_]) (Hr := _) ⟨rfl, rfl, rfl, rfl⟩ rfl ⟨rfl, rfl, rfl, rfl, trivial⟩ cal56 rfl rfl (c_pdq12 hy2) ?_
  rintro _ _ ⟨rfl, rfl⟩
  refine ⟨trivial, ?_⟩
  refine SL.nil ?_
  obtain rfl := Option.some.inj h
  exact SQ.fend (res0 rfl) (ret_of (M := [_]) ⟨rfl, rfl⟩ fun _ hw => HpOk.pick (H := [_]) hw [0] 1 rfl)


end Go.Proofs.Ytddjneafgddlcaa

/- The range over a device's pending blocks. Condition: their places, in whatever order, are sorted by slices.Sort as it is printed. -/
namespace Go.Proofs.Ytddjneafgddlcaa
open Go
variable {K : Nat → Prop} {w0 : World} {H : List Chunk}

def encIU (p : Int × UInt32) : List Value := [vI p.1, vU32 p.2]
def enumU (ss : List UInt32) : List (Int × UInt32) := ss.zipIdx.map fun q => ((q.2 : Int), q.1)
theorem enumU_length (ss : List UInt32) : (enumU ss).length = ss.length := by simp [enumU]
theorem enumU_get {ss : List UInt32} {i : Nat} {p : UInt32} (h : ss[i]? = some p) : (enumU ss)[i]? = some ((i : Int), p) := by simp [enumU, h]
/-- the device's chunks -/
abbrev devC (b mp mb : Nat) (v : Value) (d : DevA) (T : List Chunk) : List Chunk :=
  own b (.cells #[vB d.off, vB d.isCut, vI d.lasts, vI d.counts, v, .map (some mp), .map (some mb), vU64 d.rcnt, vS d.rtag, vU32 d.rboots] 60) :: rowT 9 1 v eS d.blocks :: mapC mp vU32 vS d.pend :: mapC mb vU32 vB d.bad :: T
set_option maxRecDepth 100000 in
theorem q_waiting (b mp mb bx : Nat) (vb : Value) (d : DevA) (G1 : List Chunk) (ss : List UInt32) (hss : ∀ ks, ks.Perm (d.pend.map (·.1)) → ∃ n, f_slices_Sort_uint32_uint32 n ks = some ss) (hlen : d.pend.length ≤ 1073741824) (hlen2 : ss.length ≤ 1073741824) :
    SeqAt Try.prog K w0 49 [vP bx 0] [own bx (.cells #[vP b 0] 24)] (devC b mp mb vb d G1) encIU (enumU ss) := by
  intro lp J X T rc hy h0
  refine Con.enter Try.func49 rfl rfl ?_
  show SX _ _ _ _ _ _ _ _ _ (own bx (.cells #[vP b 0] 24) :: rc :: devC b mp mb vb d (G1 ++ T))
  refine SX.sr ?_
  refine SL.nilT 32 1 eU32 ?_
  refine SL.asg ⟨rfl, rfl, rfl, rfl⟩ rfl ?_
  refine SL.nx ?_
  refine SX.seq ?_
  refine SX.sr ?_
  refine SL.ld ⟨rfl, rfl, rfl, rfl⟩ sc24 rfl (cell_own 1 rfl rfl) ?_
  refine SL.nchk ⟨rfl, rfl, rfl, rfl⟩ rfl ?_
  refine SL.fa ⟨rfl, rfl, rfl, rfl⟩ rfl fo60_2 ?_
  refine SL.ld ⟨rfl, rfl, rfl, rfl⟩ sc55 rfl (cell_own 3 rfl rfl) ?_
  refine SL.mrg 5 ⟨rfl, rfl, rfl, rfl⟩ ty55 rfl rfl (fun it => trivial) fun it => ?_
  refine SL.nx ?_
  refine SX.block ?_
  refine SX.mono (SX.loop (α := List (UInt32 × List UInt8) × Value) (fun _ => True) (fun x => [(0, vY lp), (3, x.2), (11, vP it 0)])
    (fun x => rowT 32 1 x.2 eU32 (x.1.map (·.1)) :: own bx (.cells #[vP b 0] 24) :: rc :: own b (.cells #[vB d.off, vB d.isCut, vI d.lasts, vI d.counts, vb, .map (some mp), .map (some mb), vU64 d.rcnt, vS d.rtag, vU32 d.rboots] 60) :: rowT 9 1 vb eS d.blocks :: mapIt mp it vU32 vS d.pend x.1 :: mapC mb vU32 vB d.bad :: (G1 ++ T))
    (fun x => d.pend.length - x.1.length) (fun x D hp => ?_) ([], .slice none 0 0) trivial) (by repeat' (first | exact trivial | refine And.intro rfl ?_))
  obtain ⟨done, v⟩ := x
  dsimp only
  refine SX.sr ?_
  refine SL.mnx 5 (MapE.u32S ty32) ⟨rfl, rfl, rfl, rfl⟩ rfl rfl trivial (fun hperm => ?_) (fun p hp hlt => ⟨trivial, ?_⟩)
  · refine SL.ext ⟨rfl, rfl, rfl, rfl⟩ rfl rfl ?_
    refine SL.nx ?_
    refine SX.seq ?_
    refine SX.condF rfl ?_
    refine SX.exit ?_
    refine SQ.thnE ?_
    refine SQ.lpE ?_
    refine SQ.blkE ?_
    refine SQ.thn ?_
    refine SX.itOff 5 rfl ?_
    obtain ⟨n, hn⟩ := hss (done.map (·.1)) (hperm.map _)
    refine SX.sr ?_
    refine SL.mv ⟨rfl, rfl, rfl, rfl⟩ rfl ?_
    refine SL.call (vs := [_]) (Hin := [_]) (Hr := _) ⟨rfl, rfl, rfl, rfl⟩ rfl ⟨rfl, trivial⟩ cal50 rfl rfl (c_slices_Sort_uint32_uint32 hn) ?_
    rintro _ _ ⟨rfl, rfl⟩
    refine ⟨trivial, ?_⟩
    refine SL.nx ?_
    refine SX.sr ?_
    refine SL.mv ⟨rfl, rfl, rfl, rfl⟩ rfl ?_
    refine SL.lenT 0 ⟨rfl, rfl, rfl, rfl⟩ ty90 rfl rfl ?_
    refine SL.mv ⟨rfl, rfl, rfl, rfl⟩ rfl ?_
    refine SL.nx ?_
    refine SX.block ?_
    refine SX.mono (SX.loop (α := Nat × List Chunk) (fun x => x.1 ≤ ss.length ∧ J ((enumU ss).take x.1) x.2) (fun x => [(0, vY lp), (22, v), (23, vI ss.length), (24, vI x.1)])
      (fun x => rowT 32 1 v eU32 ss :: own bx (.cells #[vP b 0] 24) :: (x.2 ++ T)) (fun x => ss.length - x.1) (fun x D hp => ?_) (0, rc :: devC b mp mb vb d G1) ⟨Nat.zero_le _, h0⟩) (by repeat' (first | exact trivial | refine And.intro rfl ?_))
    obtain ⟨i, G⟩ := x
    obtain ⟨hi, hJ⟩ := hp
    dsimp only at hi hJ ⊢
    refine SX.sr ?_
    refine SL.bin ⟨rfl, rfl, rfl, rfl⟩ rfl rfl Bin.ltI ?_
    refine SL.nx ?_
    refine SX.seq ?_
    refine SX.cond rfl (fun hc2 => ?_) (fun hc2 => ?_)
    · skip
      have hlt : i < ss.length := by simpa using hc2
      have hg : ss[i]? = some ss[i] := List.getElem?_eq_getElem hlt
      have hn2 : nthI ss (i : Int) = some ss[i] := by simp [nthI, hlt]
      have hge := enumU_get hg
      generalize ss[i] = p at hg hn2 hge
      refine SX.skip ?_
      refine SQ.thn ?_
      refine SX.seq ?_
      refine SX.block ?_
      refine SX.sr ?_
      refine SL.mv ⟨rfl, rfl, rfl, rfl⟩ rfl ?_
      refine SL.iaT 0 hn2 ⟨rfl, rfl, rfl, rfl⟩ ty90 sz32 rfl rfl rfl fun g m cp hv => ?_
      refine SL.ld ⟨rfl, rfl, rfl, rfl⟩ sc32 rfl (cell_rowT (sz := 1) (enc := eU32) 0 0 (fun _ => rfl) rfl hv hn2 rfl) ?_
      refine SL.asg ⟨rfl, rfl, rfl, rfl⟩ rfl ?_
      refine SL.asg ⟨rfl, rfl, rfl, rfl⟩ rfl ?_
      refine SL.nx ?_
      refine SX.sr ?_
      refine SL.mv ⟨rfl, rfl, rfl, rfl⟩ rfl ?_
      refine SL.mv ⟨rfl, rfl, rfl, rfl⟩ rfl ?_
      refine SL.mv ⟨rfl, rfl, rfl, rfl⟩ rfl ?_
      refine SL.yld (M2 := [_, _]) (G := G) (T := T) (vs := [_, _]) (ok := fun G1 => J ((enumU ss).take (i + 1)) G1) (no := X) ⟨rfl, rfl, rfl, rfl⟩ rfl ⟨rfl, rfl, trivial⟩ rfl ?_ (fun bb G1 hG1 => ⟨trivial, ?_⟩)
      · intro M
        have := hy _ _ _ (take_split hge).1 G hJ M
        rw [← (take_split hge).2] at this
        exact this
      refine SL.not ⟨rfl, rfl, rfl, rfl⟩ rfl ?_
      refine SL.nx ?_
      refine SX.cond rfl (fun hc3 => ?_) (fun hc3 => ?_)
      · skip
        obtain rfl : bb = false := by simpa using hc3
        refine SX.ret ?_
        refine SQ.blkR ?_
        refine SQ.thnR ?_
        refine SQ.lpR ?_
        refine SQ.blkR ?_
        exact SQ.fret (res0 rfl) (ret_of (M := G1) (.inr hG1) fun _ h => h.skip [_, _])
      · skip
        obtain rfl : bb = true := by simpa using hc3
        refine SX.skip ?_
        refine SQ.blk ?_
        refine SQ.thn ?_
        refine SX.region ?_
        refine SL.bin ⟨rfl, rfl, rfl, rfl⟩ rfl rfl (Bin.addI (by omega) (by omega)) ?_
        refine SL.mv ⟨rfl, rfl, rfl, rfl⟩ rfl ?_
        refine SL.nil ?_
        exact SQ.again (i + 1, G1) ⟨hlt, hG1⟩ (by dsimp only; omega) (by repeat' (first | exact trivial | refine And.intro rfl ?_)) (fun _ h => h)
    · skip
      have hle : i = ss.length := by simp at hc2; omega
      refine SX.exit ?_
      refine SQ.thnE ?_
      refine SQ.lpE ?_
      refine SQ.blkE ?_
      exact SQ.fend (res0 rfl) (ret_of (M := G) (.inl (by rw [List.take_of_length_le (by rw [enumU_length]; omega)] at hJ; exact hJ)) fun _ h => h.skip [_, _])
  · refine SL.ext ⟨rfl, rfl, rfl, rfl⟩ rfl rfl ?_
    refine SL.nx ?_
    refine SX.seq ?_
    refine SX.condT rfl ?_
    refine SX.skip ?_
    refine SQ.thn ?_
    refine SX.block ?_
    refine SX.sr ?_
    refine SL.mer 5 ⟨rfl, rfl, rfl, rfl⟩ rfl rfl ?_
    refine SL.ext ⟨rfl, rfl, rfl, rfl⟩ rfl rfl ?_
    refine SL.asg ⟨rfl, rfl, rfl, rfl⟩ rfl ?_
    refine SL.nx ?_
    refine SX.region ?_
    refine SL.mv ⟨rfl, rfl, rfl, rfl⟩ rfl ?_
    refine SL.mv ⟨rfl, rfl, rfl, rfl⟩ rfl ?_
    refine SL.bsl [_] ⟨rfl, rfl, rfl, rfl⟩ ty90 sz32 ze32 ⟨rfl, trivial⟩ rfl rfl rfl (by simp [Value.cells]) rfl rfl (fun _ => trivial) fun b0 => ?_
    refine SL.ownT eU32 1 ([p.1] : List UInt32) rfl (fun _ => rfl) rfl ?_
    have hl : appL 4 (done.map (·.1)) [p.1] = some ((done ++ [p]).map (·.1)) := by
      simp only [appL, List.length_map, List.length_cons, List.length_nil, List.map_append, List.map_cons, List.map_nil]
      rw [if_pos ⟨by omega, by omega⟩]
    refine SL.appT 1 hl (sz := 1) (enc := eU32) (fun _ => rfl) ⟨rfl, rfl, rfl, rfl⟩ ty90 sz32 by32 ze32 rfl (by decide) rfl rfl rfl rfl (cells_rowA (sz := 1) (enc := eU32) 0 (fun _ => rfl) rfl) (by simp [eU32, Value.oneCell']) (fun _ => trivial) fun v2 => ?_
    refine SL.asg ⟨rfl, rfl, rfl, rfl⟩ rfl ?_
    refine SL.nil ?_
    refine SQ.blk ?_
    exact SQ.again (done ++ [p], v2) trivial (by simp; omega) (by repeat' (first | exact trivial | refine And.intro rfl ?_)) (fun _ h => h.skip [_])
theorem c_waiting (b : Nat) : Con Try.prog K w0 40 [vP b 0] [] H (fun u M => ∃ bx, u = .func (.func 49) #[] #[vP bx 0] ∧ M = [own bx (.cells #[vP b 0] 24)]) := by
  refine Con.enter Try.func40 rfl rfl ?_
  refine SX.sr ?_
  refine SL.box ⟨rfl, rfl, rfl, rfl⟩ rfl (fun _ => trivial) fun b0 => ?_
  refine SL.asg ⟨rfl, rfl, rfl, rfl⟩ rfl ?_
  refine SL.nx ?_
  refine SX.sr ?_
  refine SL.mkf (fv := #[]) (cv := #[_]) ⟨rfl, rfl, rfl, rfl⟩ rfl rfl ?_
  refine SL.asg ⟨rfl, rfl, rfl, rfl⟩ rfl ?_
  refine SL.nx ?_
  refine SX.ret ?_
  exact SQ.fret (res1 rfl rfl) (ret_of (M := [_]) ⟨_, rfl, rfl⟩ fun _ h => h.skip [])
end Go.Proofs.Ytddjneafgddlcaa

/- Plain laws: slices.Sort sorts. No program's walk in sight. Condition: at most 2^30 numbers. -/
namespace Go.Proofs.Ytddjneafgddlcaa
open Go

theorem sort_unique {a b : List UInt32} (hp : a.Perm b) (ha : a.Pairwise (fun x y => decide (x ≤ y) = true)) (hb : b.Pairwise (fun x y => decide (x ≤ y) = true)) : a = b :=
  List.Perm.eq_of_pairwise (fun x y _ _ h1 h2 => UInt32.le_antisymm (of_decide_eq_true h1) (of_decide_eq_true h2)) ha hb hp
theorem ms_sorted (l : List UInt32) : (l.mergeSort fun a b => decide (a ≤ b)).Pairwise (fun x y => decide (x ≤ y) = true) :=
  List.pairwise_mergeSort (le := fun a b : UInt32 => decide (a ≤ b)) (fun a b c h1 h2 => decide_eq_true (UInt32.le_trans (of_decide_eq_true h1) (of_decide_eq_true h2))) (fun a b => by
    rcases UInt32.le_total a b with h | h
    · exact (by simp [h])
    · exact (by simp [h])) l
theorem mergeSort_perm_eq {a b : List UInt32} (h : a.Perm b) : (a.mergeSort fun a b => decide (a ≤ b)) = b.mergeSort fun a b => decide (a ≤ b) :=
  sort_unique ((List.mergeSort_perm a _).trans (h.trans (List.mergeSort_perm b _).symm)) (ms_sorted a) (ms_sorted b)
theorem sort_small (ks : List UInt32) (h : ks.length ≤ 1073741824) : ∃ n, f_slices_Sort_uint32_uint32 n ks = some (ks.mergeSort fun a b => decide (a ≤ b)) := by
  refine ⟨ks.length + 6, ?_⟩
  have h2 : (toU64 (ks.length : Int)).toNat = ks.length := by simp only [toU64, UInt64.toNat_ofNat']; omega
  have h3 : Go.Sort.bitsLen ks.length ≤ 62 := (Go.Sort.bitsLen_le_iff _ 62).2 (by omega)
  unfold f_slices_Sort_uint32_uint32 pdqO
  rw [lenA, some_bind, h2, pdqF_sort ks (by omega) _ (by omega), some_bind]
end Go.Proofs.Ytddjneafgddlcaa

/- Ranges in plain form; the places of pending blocks, sorted. No condition beyond those stated. -/
namespace Go.Proofs.Ytddjneafgddlcaa
open Go
variable {K : Nat → Prop} {w0 : World} {H : List Chunk}

def keysOf {α : Type} (m : List (UInt32 × α)) : List UInt32 := (m.map (·.1)).mergeSort fun a b => decide (a ≤ b)
def waitsO (d : DevA) : Option (List (Int × UInt32)) := if d.pend.length ≤ 1073741824 then some (enumU (keysOf d.pend)) else none
theorem q_waits {b mp mb bx : Nat} {vb : Value} {d : DevA} {G1 : List Chunk} {xs : List (Int × UInt32)} (h : waitsO d = some xs) :
    SeqAt Try.prog K w0 49 [vP bx 0] [own bx (.cells #[vP b 0] 24)] (devC b mp mb vb d G1) encIU xs := by
  unfold waitsO at h
  split at h
  · rename_i hl
    obtain rfl := Option.some.inj h
    refine q_waiting b mp mb bx vb d G1 (keysOf d.pend) (fun ks hk => ?_) (by omega) (by simp [keysOf]; omega)
    obtain ⟨n, hn⟩ := sort_small ks (by rw [hk.length_eq]; simpa using hl)
    exact ⟨n, by rw [hn, mergeSort_perm_eq hk]; rfl⟩
  · cases h
def waitingO (_ : DevA) : Option Unit := some ()
theorem w_waiting {b : Nat} {d : DevA} {r : Unit} (_ : waitingO d = some r) : Con Try.prog K w0 40 [vP b 0] [] H (fun u M => ∃ bx : Nat, u = .func (.func 49) #[] #[vP bx 0] ∧ M = [own bx (.cells #[vP b 0] 24)]) := c_waiting b
end Go.Proofs.Ytddjneafgddlcaa

/- Plain functions of the references and the laws, printed from the loaded program, and the walks that show that the program computes them. Condition: the plain function yields. -/
namespace Go.Proofs.Ytddjneafgddlcaa
open Go
variable {K : Nat → Prop} {w0 : World} {H : List Chunk}

def f_device_Device_Flush_j1 (y1 : Int × DevA) (l1 : List (List UInt8)) (l2 : List (UInt32 × List UInt8)) : Option (Int × DevA) :=
  some (y1.1, { y1.2 with blocks := l1, pend := l2 })
def f_device_Device_Flush_j2 (y1 : Int × DevA) (l3 : List (List UInt8)) : Option (Int × DevA) :=
  f_device_Device_Flush_j1 y1 l3 []
def f_device_Device_Flush_j3 (y1 : Int × DevA) (l4 : List (List UInt8)) : Option (Int × DevA) :=
  f_device_Device_Flush_j2 y1 l4
def f_device_Device_Flush_r1_b (y1 : Int × DevA) (nx_f_device_Device_Flush_r1 : List (List UInt8) → Option (Int × DevA)) (e1 : Int × UInt32) (l4 : List (List UInt8)) : Option (Int × DevA) :=
  (nthI l4 (e1.2.toNat : Int)).bind fun x1 =>
  (setI l4 (e1.2.toNat : Int) ((mget y1.2.pend e1.2).getD [])).bind fun l5 =>
  nx_f_device_Device_Flush_r1 l5
def f_device_Device_Flush_r1 (y1 : Int × DevA) : List (Int × UInt32) → List (List UInt8) → Option (Int × DevA) := rangeL (fun nx e x => f_device_Device_Flush_r1_b y1 nx e x) (fun x => f_device_Device_Flush_j3 y1 x)
def f_device_Device_Flush (p0 : DevA) : Option (Int × DevA) :=
  (f_device_power_spend p0).bind fun y1 =>
  cond (decide (y1.1 = 0))
  (
    (waitingO y1.2).bind fun y2 =>
    (waitsO y1.2).bind fun xs1 =>
    f_device_Device_Flush_r1 y1 xs1 y1.2.blocks)
  (
    f_device_Device_Flush_j1 y1 y1.2.blocks y1.2.pend)
set_option maxRecDepth 100000 in
theorem c_device_Device_Flush {b0_ : Nat} {v0x4_ : Value} {m0x5_ : Nat} {m0x6_ : Nat} {p0 : DevA} {r : Int × DevA} (h : f_device_Device_Flush p0 = some r)  : Con Try.prog K w0 16 [vP b0_ 0] [own b0_ (.cells #[vB p0.off, vB p0.isCut, vI p0.lasts, vI p0.counts, v0x4_, .map (some m0x5_), .map (some m0x6_), vU64 p0.rcnt, vS p0.rtag, vU32 p0.rboots] 60), rowT 9 1 v0x4_ eS p0.blocks, mapC m0x5_ vU32 vS p0.pend, mapC m0x6_ vU32 vB p0.bad] H (fun u M => u = vI r.1 ∧ M = [own b0_ (.cells #[vB r.2.off, vB r.2.isCut, vI r.2.lasts, vI r.2.counts, v0x4_, .map (some m0x5_), .map (some m0x6_), vU64 r.2.rcnt, vS r.2.rtag, vU32 r.2.rboots] 60), rowT 9 1 v0x4_ eS r.2.blocks, mapC m0x5_ vU32 vS r.2.pend, mapC m0x6_ vU32 vB r.2.bad]) := by
  unfold f_device_Device_Flush at h
  refine Con.enter Try.func16 rfl rfl ?_
  refine SX.sr ?_
  refine SL.box ⟨rfl, rfl, rfl, rfl⟩ rfl (fun _ => trivial) fun b1 => ?_
  refine SL.asg ⟨rfl, rfl, rfl, rfl⟩ rfl ?_
  refine SL.nx ?_
  refine SX.seq ?_
  refine SX.sr ?_
  refine SL.ld ⟨rfl, rfl, rfl, rfl⟩ sc24 rfl (cell_own 0 rfl rfl) ?_
  refine SL.eqPN ⟨rfl, rfl, rfl, rfl⟩ ty24 rfl rfl ?_
  refine SL.nx ?_
  refine SX.condF rfl ?_
  refine SX.skip ?_
  refine SQ.thn ?_
  refine SX.sr ?_
  obtain ⟨y1, hy1, h⟩ := bnd h
  refine SL.ld ⟨rfl, rfl, rfl, rfl⟩ sc24 rfl (cell_own 0 rfl rfl) ?_
  refine SL.nchk ⟨rfl, rfl, rfl, rfl⟩ rfl ?_
  refine SL.fa ⟨rfl, rfl, rfl, rfl⟩ rfl fo60_0 ?_
  refine SL.pick [1, 2, 3, 4, 0] 5 ?_
  refine SL.call (vs := [_]) (Hin := [_, _, _, _]) (Hr := _ :: _) ⟨rfl, rfl, rfl, rfl⟩ rfl ⟨rfl, trivial⟩ cal38 rfl rfl (c_device_power_spend hy1) ?_
  rintro _ _ ⟨rfl, rfl⟩
  refine ⟨trivial, ?_⟩
  refine SL.asg ⟨rfl, rfl, rfl, rfl⟩ rfl ?_
  refine SL.nx ?_
  refine SX.meetD (α := List (List UInt8) × List (UInt32 × List UInt8)) (fun x => f_device_Device_Flush_j1 y1 x.1 x.2 = some r) (fun x => [(0, vP b0_ 0), (3, vI y1.1)]) (fun x => own b0_ (.cells #[vB y1.2.off, vB y1.2.isCut, vI y1.2.lasts, vI y1.2.counts, v0x4_, .map (some m0x5_), .map (some m0x6_), vU64 y1.2.rcnt, vS y1.2.rtag, vU32 y1.2.rboots] 60) :: rowT 9 1 v0x4_ eS x.1 :: mapC m0x5_ vU32 vS x.2 :: mapC m0x6_ vU32 vB y1.2.bad :: H) ?_ (fun x D h => ?_)
  · skip
    refine SX.sr ?_
    refine SL.mv ⟨rfl, rfl, rfl, rfl⟩ rfl ?_
    refine SL.bin ⟨rfl, rfl, rfl, rfl⟩ rfl rfl Bin.eqI ?_
    refine SL.nx ?_
    refine SX.cond rfl (fun hc2 => ?_) (fun hc2 => ?_)
    · skip
      replace h := cT hc2 h
      refine SX.meetD (α := List (List UInt8)) (fun x => f_device_Device_Flush_j2 y1 x = some r) (fun x => [(0, vP b0_ 0), (1, vP b1 0), (3, vI y1.1)]) (fun x => own b0_ (.cells #[vB y1.2.off, vB y1.2.isCut, vI y1.2.lasts, vI y1.2.counts, v0x4_, .map (some m0x5_), .map (some m0x6_), vU64 y1.2.rcnt, vS y1.2.rtag, vU32 y1.2.rboots] 60) :: rowT 9 1 v0x4_ eS x :: mapC m0x5_ vU32 vS y1.2.pend :: mapC m0x6_ vU32 vB y1.2.bad :: own b1 (.cells #[vP b0_ 0] 24) :: H) ?_ (fun l3 D h => ?_)
      · skip
        refine SX.sr ?_
        obtain ⟨y2, hy2, h⟩ := bnd h
        refine SL.ld ⟨rfl, rfl, rfl, rfl⟩ sc24 rfl (cell_own 4 rfl rfl) ?_
        refine SL.call (vs := [_]) (Hin := []) (Hr := _ :: _ :: _ :: _ :: _ :: _) ⟨rfl, rfl, rfl, rfl⟩ rfl ⟨rfl, trivial⟩ cal40 rfl rfl (w_waiting hy2) ?_
        rintro _ _ ⟨b2, rfl, rfl⟩
        refine ⟨trivial, ?_⟩
        refine SL.nx ?_
        refine SX.block ?_
        obtain ⟨xs1, hxs1, h⟩ := bnd h
        refine SX.heap (SX.rangeAt (enc := encIU) xs1 (G0 := own b0_ (.cells #[vB y1.2.off, vB y1.2.isCut, vI y1.2.lasts, vI y1.2.counts, v0x4_, .map (some m0x5_), .map (some m0x6_), vU64 y1.2.rcnt, vS y1.2.rtag, vU32 y1.2.rboots] 60) :: rowT 9 1 v0x4_ eS y1.2.blocks :: mapC m0x5_ vU32 vS y1.2.pend :: mapC m0x6_ vU32 vB y1.2.bad :: own b1 (.cells #[vP b0_ 0] 24) :: H) (fun pre G => ∃ x : List (List UInt8), (∀ suf, xs1 = pre ++ suf → f_device_Device_Flush_r1 y1 suf x = some r) ∧ G = own b0_ (.cells #[vB y1.2.off, vB y1.2.isCut, vI y1.2.lasts, vI y1.2.counts, v0x4_, .map (some m0x5_), .map (some m0x6_), vU64 y1.2.rcnt, vS y1.2.rtag, vU32 y1.2.rboots] 60) :: rowT 9 1 v0x4_ eS x :: mapC m0x5_ vU32 vS y1.2.pend :: mapC m0x6_ vU32 vB y1.2.bad :: own b1 (.cells #[vP b0_ 0] 24) :: H) (fun c G => False) rfl cal49 rfl (fun _ => rfl) (q_waits hxs1) rfl ⟨y1.2.blocks, fun suf e => by rw [← show xs1 = suf from e]; exact h, rfl⟩ (fun pre e1 suf1 G hpre hJ lr lp Rest => ?_) (fun G D hJ => ?_) (fun c G D hX => ?_)) (fun _ hw => HpOk.pick (H := [_, _, _, _, _, _]) hw [0, 1, 2, 3, 4, 5] 6 rfl)
        · skip
          obtain ⟨l4, h, rfl⟩ := hJ
          replace h : f_device_Device_Flush_r1_b y1 (f_device_Device_Flush_r1 y1 suf1) e1 l4 = some r := h _ hpre
          unfold f_device_Device_Flush_r1_b at h
          refine SX.region ?_
          refine SL.asg ⟨rfl, rfl, rfl, rfl⟩ rfl ?_
          refine SL.nil ?_
          refine SQ.bgn ?_
          refine SX.block ?_
          obtain ⟨x1, hx1, h⟩ := bnd h
          obtain ⟨l5, hl5, h⟩ := bnd h
          refine SX.drawI mix [0, 2, 4] (Pl.ap [(true, 0), (true, 1), (true, 2), (true, 3), (true, 4), (true, 5), (true, 6), (true, 7), (true, 8), (true, 9), (true, 10), (true, 11)] (.last 12 .nil)) (by kernel_rfl) ?_
          refine SL.ld ⟨rfl, rfl, rfl, rfl⟩ sc24 rfl (cell_own 2 rfl rfl) ?_
          refine SL.nchk ⟨rfl, rfl, rfl, rfl⟩ rfl ?_
          refine SL.fa ⟨rfl, rfl, rfl, rfl⟩ rfl fo60_1 ?_
          refine SL.ld ⟨rfl, rfl, rfl, rfl⟩ sc37 rfl (cell_own 0 rfl rfl) ?_
          refine SL.mv ⟨rfl, rfl, rfl, rfl⟩ rfl ?_
          refine SL.ld ⟨rfl, rfl, rfl, rfl⟩ sc24 rfl (cell_own 2 rfl rfl) ?_
          refine SL.nchk ⟨rfl, rfl, rfl, rfl⟩ rfl ?_
          refine SL.fa ⟨rfl, rfl, rfl, rfl⟩ rfl fo60_2 ?_
          refine SL.ld ⟨rfl, rfl, rfl, rfl⟩ sc55 rfl (cell_own 0 rfl rfl) ?_
          refine SL.mv ⟨rfl, rfl, rfl, rfl⟩ rfl ?_
          refine SL.lkp (zv := []) 1 (MapE.u32S ty32) ⟨rfl, rfl, rfl, rfl⟩ ty55 ze9 rfl rfl rfl ?_
          refine SL.iaT 1 hx1 ⟨rfl, rfl, rfl, rfl⟩ ty37 sz9 rfl rfl rfl fun g1 m1 cp1 hv1 => ?_
          refine SL.last ?_
          refine SL.stTN (sz := 1) (enc := eS) 1 hl5 (fun _ => rfl) ⟨rfl, rfl, rfl⟩ rfl rfl rfl rfl hv1 sz9 (by simp [Value.oneCell']) trivial ?_
          refine SL.nil ?_
          refine SQ.blk ?_
          exact SQ.rndN ⟨l5, fun suf e => by rw [suf_eq hpre e]; exact h, rfl⟩ (fun _ hw => HpOk.pick (H := [_, _, _, _, _]) hw [0, 1, 2, 3, 4] 5 rfl)
        · skip
          obtain ⟨l4, h, rfl⟩ := hJ
          replace h : f_device_Device_Flush_j3 y1 l4 = some r := h [] (List.append_nil _).symm
          unfold f_device_Device_Flush_j3 at h
          refine SQ.blk ?_
          exact SQ.midD l4 h (by repeat' (first | exact trivial | refine And.intro rfl ?_)) (fun _ hw => HpOk.pick (H := [_, _, _, _, _]) hw [0, 1, 2, 3, 4] 5 rfl)
        · skip
          exact hX.elim
      · skip
        unfold f_device_Device_Flush_j2 at h
        refine SX.re [(0, vP b0_ 0), (1, vP b1 0), (3, vI y1.1)] (own b0_ (.cells #[vB y1.2.off, vB y1.2.isCut, vI y1.2.lasts, vI y1.2.counts, v0x4_, .map (some m0x5_), .map (some m0x6_), vU64 y1.2.rcnt, vS y1.2.rtag, vU32 y1.2.rboots] 60) :: rowT 9 1 v0x4_ eS l3 :: mapC m0x5_ vU32 vS y1.2.pend :: mapC m0x6_ vU32 vB y1.2.bad :: own b1 (.cells #[vP b0_ 0] 24) :: H) ?_ (by repeat' (first | exact trivial | refine And.intro rfl ?_))
        refine SX.region ?_
        refine SL.ld ⟨rfl, rfl, rfl, rfl⟩ sc24 rfl (cell_own 4 rfl rfl) ?_
        refine SL.nchk ⟨rfl, rfl, rfl, rfl⟩ rfl ?_
        refine SL.fa ⟨rfl, rfl, rfl, rfl⟩ rfl fo60_2 ?_
        refine SL.ld ⟨rfl, rfl, rfl, rfl⟩ sc55 rfl (cell_own 0 rfl rfl) ?_
        refine SL.mcl 2 rfl rfl rfl ty55 rfl rfl trivial ?_
        refine SL.nil ?_
        exact SQ.midD (l3, []) h (by repeat' (first | exact trivial | refine And.intro rfl ?_)) (fun _ hw => HpOk.pick (H := [_, _, _, _, _]) hw [0, 1, 2, 3] 5 rfl)
    · skip
      replace h := cF hc2 h
      refine SX.skip ?_
      exact SQ.midD (y1.2.blocks, y1.2.pend) h (by repeat' (first | exact trivial | refine And.intro rfl ?_)) (fun _ hw => HpOk.pick (H := [_, _, _, _, _]) hw [0, 1, 2, 3] 5 rfl)
  · skip
    obtain ⟨l1, l2⟩ := x
    dsimp only at h
    unfold f_device_Device_Flush_j1 at h
    refine SX.re [(0, vP b0_ 0), (3, vI y1.1)] (own b0_ (.cells #[vB y1.2.off, vB y1.2.isCut, vI y1.2.lasts, vI y1.2.counts, v0x4_, .map (some m0x5_), .map (some m0x6_), vU64 y1.2.rcnt, vS y1.2.rtag, vU32 y1.2.rboots] 60) :: rowT 9 1 v0x4_ eS l1 :: mapC m0x5_ vU32 vS l2 :: mapC m0x6_ vU32 vB y1.2.bad :: H) ?_ (by repeat' (first | exact trivial | refine And.intro rfl ?_))
    refine SX.sr ?_
    refine SL.mv ⟨rfl, rfl, rfl, rfl⟩ rfl ?_
    refine SL.asg ⟨rfl, rfl, rfl, rfl⟩ rfl ?_
    refine SL.nx ?_
    refine SX.ret ?_
    obtain rfl := Option.some.inj h
    exact SQ.fret (res1 rfl rfl) (ret_of (M := [_, _, _, _]) ⟨rfl, rfl⟩ fun _ hw => HpOk.pick (H := [_, _, _, _]) hw [0, 1, 2, 3] 4 rfl)

def f_device_Device_Wake_j1 (p0 : DevA) (l1 : List (List UInt8)) : Option (Int × DevA) :=
  some (0, { p0 with off := false, isCut := false, lasts := 0, blocks := l1, pend := [] })
def f_device_Device_Wake_j2 (p0 : DevA) (l2 : List (List UInt8)) : Option (Int × DevA) :=
  f_device_Device_Wake_j1 p0 l2
def f_device_Device_Wake_r1_b (p0 : DevA) (p1 : List Int) (nx_f_device_Device_Wake_r1 : List (List UInt8) → Option (Int × DevA)) (e1 : Int × UInt32) (l2 : List (List UInt8)) : Option (Int × DevA) :=
  (orO (decide ((p1.length : Int) ≤ e1.1)) ((nthI p1 e1.1).bind fun x1 => some (decide (x1 < 1)))).bind fun y2 =>
  (orO y2 ((nthI p1 e1.1).bind fun x2 => some (decide (4 < x2)))).bind fun y3 =>
  cond y3
  (
    nx_f_device_Device_Wake_r1 l2)
  (
    (nthI p1 e1.1).bind fun x3 =>
    ret (wI (x3 * 64)) fun x4 =>
    (slcI ((mget p0.pend e1.2).getD []) 0 x4).bind fun s1 =>
    (nthI l2 (e1.2.toNat : Int)).bind fun x5 =>
    (slcI x5 x4 (x5.length : Int)).bind fun s2 =>
    (catS s1 s2).bind fun s3 =>
    (nthI l2 (e1.2.toNat : Int)).bind fun x6 =>
    (setI l2 (e1.2.toNat : Int) s3).bind fun l3 =>
    nx_f_device_Device_Wake_r1 l3)
def f_device_Device_Wake_r1 (p0 : DevA) (p1 : List Int) : List (Int × UInt32) → List (List UInt8) → Option (Int × DevA) := rangeL (fun nx e x => f_device_Device_Wake_r1_b p0 p1 nx e x) (fun x => f_device_Device_Wake_j2 p0 x)
def f_device_Device_Wake (p0 : DevA) (p1 : List Int) : Option (Int × DevA) :=
  (waitingO p0).bind fun y1 =>
  (waitsO p0).bind fun xs1 =>
  f_device_Device_Wake_r1 p0 p1 xs1 p0.blocks
set_option maxRecDepth 100000 in
theorem c_device_Device_Wake {b0_ : Nat} {v0x4_ : Value} {m0x5_ : Nat} {m0x6_ : Nat} {p0 : DevA} {v1_ : Value} {p1 : List Int} {r : Int × DevA} (h : f_device_Device_Wake p0 p1 = some r) (hs1_ : SlOf K w0 eI 1 v1_ p1) : Con Try.prog K w0 18 [vP b0_ 0, v1_] [own b0_ (.cells #[vB p0.off, vB p0.isCut, vI p0.lasts, vI p0.counts, v0x4_, .map (some m0x5_), .map (some m0x6_), vU64 p0.rcnt, vS p0.rtag, vU32 p0.rboots] 60), rowT 9 1 v0x4_ eS p0.blocks, mapC m0x5_ vU32 vS p0.pend, mapC m0x6_ vU32 vB p0.bad] H (fun u M => u = vI r.1 ∧ M = [own b0_ (.cells #[vB r.2.off, vB r.2.isCut, vI r.2.lasts, vI r.2.counts, v0x4_, .map (some m0x5_), .map (some m0x6_), vU64 r.2.rcnt, vS r.2.rtag, vU32 r.2.rboots] 60), rowT 9 1 v0x4_ eS r.2.blocks, mapC m0x5_ vU32 vS r.2.pend, mapC m0x6_ vU32 vB r.2.bad]) := by
  unfold f_device_Device_Wake at h
  refine Con.enter Try.func18 rfl rfl ?_
  refine SX.sr ?_
  refine SL.box ⟨rfl, rfl, rfl, rfl⟩ rfl (fun _ => trivial) fun b1 => ?_
  refine SL.slV1 hs1_ fun hv1 ho1 => ?_
  refine SL.boxR hv1 ⟨rfl, rfl, rfl, rfl⟩ rfl (fun _ => trivial) fun b2 => ?_
  refine SL.asg ⟨rfl, rfl, rfl, rfl⟩ rfl ?_
  refine SL.nx ?_
  refine SX.scope ?_
  refine SX.seq ?_
  refine SX.sr ?_
  refine SL.ld ⟨rfl, rfl, rfl, rfl⟩ sc24 rfl (cell_own 1 rfl rfl) ?_
  refine SL.eqPN ⟨rfl, rfl, rfl, rfl⟩ ty24 rfl rfl ?_
  refine SL.nx ?_
  refine SX.condF rfl ?_
  refine SX.skip ?_
  refine SQ.thn ?_
  refine SX.seq ?_
  refine SX.label ?_
  refine SQ.thn ?_
  refine SX.meetD (α := List (List UInt8)) (fun x => f_device_Device_Wake_j1 p0 x = some r) (fun x => [(0, vP b0_ 0), (2, vP b1 0)]) (fun x => own b0_ (.cells #[vB p0.off, vB p0.isCut, vI p0.lasts, vI p0.counts, v0x4_, .map (some m0x5_), .map (some m0x6_), vU64 p0.rcnt, vS p0.rtag, vU32 p0.rboots] 60) :: rowT 9 1 v0x4_ eS x :: mapC m0x5_ vU32 vS p0.pend :: mapC m0x6_ vU32 vB p0.bad :: own b1 (.cells #[vP b0_ 0] 24) :: H) ?_ (fun l1 D h => ?_)
  · skip
    refine SX.sr ?_
    obtain ⟨y1, hy1, h⟩ := bnd h
    refine SL.ld ⟨rfl, rfl, rfl, rfl⟩ sc24 rfl (cell_own 1 rfl rfl) ?_
    refine SL.call (vs := [_]) (Hin := []) (Hr := _ :: _ :: _ :: _ :: _ :: _ :: _) ⟨rfl, rfl, rfl, rfl⟩ rfl ⟨rfl, trivial⟩ cal40 rfl rfl (w_waiting hy1) ?_
    rintro _ _ ⟨b3, rfl, rfl⟩
    refine ⟨trivial, ?_⟩
    refine SL.nx ?_
    refine SX.block ?_
    obtain ⟨xs1, hxs1, h⟩ := bnd h
    refine SX.heap (SX.rangeAt (enc := encIU) xs1 (G0 := own b0_ (.cells #[vB p0.off, vB p0.isCut, vI p0.lasts, vI p0.counts, v0x4_, .map (some m0x5_), .map (some m0x6_), vU64 p0.rcnt, vS p0.rtag, vU32 p0.rboots] 60) :: rowT 9 1 v0x4_ eS p0.blocks :: mapC m0x5_ vU32 vS p0.pend :: mapC m0x6_ vU32 vB p0.bad :: own b1 (.cells #[vP b0_ 0] 24) :: own b2 (.cells #[v1_] 33) :: H) (fun pre G => ∃ x : List (List UInt8), (∀ suf, xs1 = pre ++ suf → f_device_Device_Wake_r1 p0 p1 suf x = some r) ∧ G = own b0_ (.cells #[vB p0.off, vB p0.isCut, vI p0.lasts, vI p0.counts, v0x4_, .map (some m0x5_), .map (some m0x6_), vU64 p0.rcnt, vS p0.rtag, vU32 p0.rboots] 60) :: rowT 9 1 v0x4_ eS x :: mapC m0x5_ vU32 vS p0.pend :: mapC m0x6_ vU32 vB p0.bad :: own b1 (.cells #[vP b0_ 0] 24) :: own b2 (.cells #[v1_] 33) :: H) (fun c G => False) rfl cal49 rfl (fun _ => rfl) (q_waits hxs1) rfl ⟨p0.blocks, fun suf e => by rw [← show xs1 = suf from e]; exact h, rfl⟩ (fun pre e1 suf1 G hpre hJ lr lp Rest => ?_) (fun G D hJ => ?_) (fun c G D hX => ?_)) (fun _ hw => HpOk.pick (H := [_, _, _, _, _, _, _]) hw [0, 3, 4, 5, 6, 2, 1] 7 rfl)
    · skip
      obtain ⟨l2, h, rfl⟩ := hJ
      replace h : f_device_Device_Wake_r1_b p0 p1 (f_device_Device_Wake_r1 p0 p1 suf1) e1 l2 = some r := h _ hpre
      unfold f_device_Device_Wake_r1_b at h
      refine SX.sr ?_
      refine SL.asg ⟨rfl, rfl, rfl, rfl⟩ rfl ?_
      refine SL.nx ?_
      refine SX.region ?_
      refine SL.asg ⟨rfl, rfl, rfl, rfl⟩ rfl ?_
      refine SL.nil ?_
      refine SQ.bgn ?_
      refine SX.block ?_
      refine SX.seq ?_
      refine SX.sr ?_
      obtain ⟨y2, hy2, h⟩ := bnd h
      obtain ⟨y3, hy3, h⟩ := bnd h
      refine SL.mv ⟨rfl, rfl, rfl, rfl⟩ rfl ?_
      refine SL.ld ⟨rfl, rfl, rfl, rfl⟩ sc33 rfl (cell_own 5 rfl rfl) ?_
      refine SL.lenV hs1_ ⟨rfl, rfl, rfl, rfl⟩ ty33 rfl ?_
      refine SL.bin ⟨rfl, rfl, rfl, rfl⟩ rfl rfl Bin.geI ?_
      refine SL.mv ⟨rfl, rfl, rfl, rfl⟩ rfl ?_
      refine SL.orN 18 6 24 hy2 rfl (fun hb k => ?_) (fun hb hg1 k => ?_) ?_
      · skip
        refine SL.pass rfl rfl rfl ?_
        refine SL.pass rfl rfl rfl ?_
        refine SL.pass rfl rfl rfl ?_
        refine SL.pass rfl rfl rfl ?_
        refine SL.pass rfl rfl rfl ?_
        refine SL.pk ⟨rfl, rfl, rfl, rfl⟩ rfl rfl ?_
        exact k.mono (by repeat' (first | exact trivial | refine And.intro rfl ?_))
      · skip
        obtain ⟨x1, hx1, hg1⟩ := bnd hg1
        obtain rfl := Option.some.inj hg1
        refine SL.ld ⟨rfl, rfl, rfl, rfl⟩ sc33 rfl (cell_own 5 rfl rfl) ?_
        refine SL.mv ⟨rfl, rfl, rfl, rfl⟩ rfl ?_
        refine SL.iaN hx1 hs1_ ⟨rfl, rfl, rfl, rfl⟩ ty33 sz3 rfl rfl fun be1 of1 hc2 => ?_
        refine SL.ld ⟨rfl, rfl, rfl, rfl⟩ sc3 rfl (cell_kept (j := 0) hc2 rfl) ?_
        refine SL.bin ⟨rfl, rfl, rfl, rfl⟩ rfl rfl Bin.ltI ?_
        refine SL.pk ⟨rfl, rfl, rfl, rfl⟩ rfl rfl ?_
        exact k.mono (by repeat' (first | exact trivial | refine And.intro rfl ?_))
      refine SL.mv ⟨rfl, rfl, rfl, rfl⟩ rfl ?_
      refine SL.orN 25 6 31 hy3 rfl (fun hb k => ?_) (fun hb hg2 k => ?_) ?_
      · skip
        refine SL.pass rfl rfl rfl ?_
        refine SL.pass rfl rfl rfl ?_
        refine SL.pass rfl rfl rfl ?_
        refine SL.pass rfl rfl rfl ?_
        refine SL.pass rfl rfl rfl ?_
        refine SL.pk ⟨rfl, rfl, rfl, rfl⟩ rfl rfl ?_
        exact k.mono (by repeat' (first | exact trivial | refine And.intro rfl ?_))
      · skip
        obtain ⟨x2, hx2, hg2⟩ := bnd hg2
        obtain rfl := Option.some.inj hg2
        refine SL.ld ⟨rfl, rfl, rfl, rfl⟩ sc33 rfl (cell_own 5 rfl rfl) ?_
        refine SL.mv ⟨rfl, rfl, rfl, rfl⟩ rfl ?_
        refine SL.iaN hx2 hs1_ ⟨rfl, rfl, rfl, rfl⟩ ty33 sz3 rfl rfl fun be2 of2 hc3 => ?_
        refine SL.ld ⟨rfl, rfl, rfl, rfl⟩ sc3 rfl (cell_kept (j := 0) hc3 rfl) ?_
        refine SL.bin ⟨rfl, rfl, rfl, rfl⟩ rfl rfl Bin.gtI ?_
        refine SL.pk ⟨rfl, rfl, rfl, rfl⟩ rfl rfl ?_
        exact k.mono (by repeat' (first | exact trivial | refine And.intro rfl ?_))
      refine SL.nx ?_
      refine SX.cond rfl (fun hc4 => ?_) (fun hc4 => ?_)
      · skip
        replace h := cT hc4 h
        refine SX.exit ?_
        refine SQ.thnE ?_
        refine SQ.blkE ?_
        exact SQ.rndN ⟨l2, fun suf e => by rw [suf_eq hpre e]; exact h, rfl⟩ (fun _ hw => HpOk.pick (H := [_, _, _, _, _, _]) hw [0, 1, 2, 3, 4, 5] 6 rfl)
      · skip
        replace h := cF hc4 h
        refine SX.skip ?_
        refine SQ.thn ?_
        refine SX.sr ?_
        obtain ⟨x3, hx3, h⟩ := bnd h
        obtain ⟨x4, ex4, h⟩ := retE h
        refine SL.ld ⟨rfl, rfl, rfl, rfl⟩ sc33 rfl (cell_own 5 rfl rfl) ?_
        refine SL.mv ⟨rfl, rfl, rfl, rfl⟩ rfl ?_
        refine SL.iaN hx3 hs1_ ⟨rfl, rfl, rfl, rfl⟩ ty33 sz3 rfl rfl fun be3 of3 hc5 => ?_
        refine SL.ld ⟨rfl, rfl, rfl, rfl⟩ sc3 rfl (cell_kept (j := 0) hc5 rfl) ?_
        refine SL.bin ⟨rfl, rfl, rfl, rfl⟩ rfl rfl Bin.mulW ?_
        refine SL.asgX (u := vI x4) ⟨rfl, rfl, rfl, rfl⟩ rfl (congrArg vI ex4) ?_
        refine SL.nx ?_
        obtain ⟨s1, hs1, h⟩ := bnd h
        obtain ⟨x5, hx5, h⟩ := bnd h
        obtain ⟨s2, hs2, h⟩ := bnd h
        obtain ⟨s3, hs3, h⟩ := bnd h
        obtain ⟨x6, hx6, h⟩ := bnd h
        obtain ⟨l3, hl3, h⟩ := bnd h
        refine SX.drawI mix [0, 1, 2, 4] (Pl.ap [(true, 0), (true, 1), (true, 2), (true, 3), (true, 4), (true, 5), (true, 6), (true, 7), (true, 8), (true, 9), (true, 10), (true, 11), (true, 12), (true, 13), (true, 14), (true, 15), (true, 16), (true, 17), (true, 18), (true, 19), (true, 20), (true, 21), (true, 22), (true, 23)] (.last 24 .nil)) (by kernel_rfl) ?_
        refine SL.ld ⟨rfl, rfl, rfl, rfl⟩ sc24 rfl (cell_own 3 rfl rfl) ?_
        refine SL.nchk ⟨rfl, rfl, rfl, rfl⟩ rfl ?_
        refine SL.fa ⟨rfl, rfl, rfl, rfl⟩ rfl fo60_1 ?_
        refine SL.ld ⟨rfl, rfl, rfl, rfl⟩ sc37 rfl (cell_own 0 rfl rfl) ?_
        refine SL.mv ⟨rfl, rfl, rfl, rfl⟩ rfl ?_
        refine SL.ld ⟨rfl, rfl, rfl, rfl⟩ sc24 rfl (cell_own 3 rfl rfl) ?_
        refine SL.nchk ⟨rfl, rfl, rfl, rfl⟩ rfl ?_
        refine SL.fa ⟨rfl, rfl, rfl, rfl⟩ rfl fo60_2 ?_
        refine SL.ld ⟨rfl, rfl, rfl, rfl⟩ sc55 rfl (cell_own 0 rfl rfl) ?_
        refine SL.mv ⟨rfl, rfl, rfl, rfl⟩ rfl ?_
        refine SL.lkp (zv := []) 2 (MapE.u32S ty32) ⟨rfl, rfl, rfl, rfl⟩ ty55 ze9 rfl rfl rfl ?_
        refine SL.mv ⟨rfl, rfl, rfl, rfl⟩ rfl ?_
        refine SL.slNh hs1 ⟨rfl, rfl, rfl, rfl⟩ ty9 rfl rfl ?_
        refine SL.ld ⟨rfl, rfl, rfl, rfl⟩ sc24 rfl (cell_own 3 rfl rfl) ?_
        refine SL.nchk ⟨rfl, rfl, rfl, rfl⟩ rfl ?_
        refine SL.fa ⟨rfl, rfl, rfl, rfl⟩ rfl fo60_1 ?_
        refine SL.ld ⟨rfl, rfl, rfl, rfl⟩ sc37 rfl (cell_own 0 rfl rfl) ?_
        refine SL.mv ⟨rfl, rfl, rfl, rfl⟩ rfl ?_
        refine SL.iaT 1 hx5 ⟨rfl, rfl, rfl, rfl⟩ ty37 sz9 rfl rfl rfl fun g1 m1 cp1 hv2 => ?_
        refine SL.ld ⟨rfl, rfl, rfl, rfl⟩ sc9 rfl (cell_rowT (sz := 1) (enc := eS) 1 0 (fun _ => rfl) rfl hv2 hx5 rfl) ?_
        refine SL.mv ⟨rfl, rfl, rfl, rfl⟩ rfl ?_
        refine SL.slNl hs2 ⟨rfl, rfl, rfl, rfl⟩ ty9 rfl rfl ?_
        refine SL.bin ⟨rfl, rfl, rfl, rfl⟩ rfl rfl (Bin.catO hs3) ?_
        refine SL.iaT 1 hx6 ⟨rfl, rfl, rfl, rfl⟩ ty37 sz9 rfl rfl rfl fun g2 m2 cp2 hv3 => ?_
        refine SL.last ?_
        refine SL.stTN (sz := 1) (enc := eS) 1 hl3 (fun _ => rfl) ⟨rfl, rfl, rfl⟩ rfl rfl rfl rfl hv3 sz9 (by simp [Value.oneCell']) trivial ?_
        refine SL.nil ?_
        refine SQ.blk ?_
        exact SQ.rndN ⟨l3, fun suf e => by rw [suf_eq hpre e]; exact h, rfl⟩ (fun _ hw => HpOk.pick (H := [_, _, _, _, _, _]) hw [0, 1, 2, 3, 4, 5] 6 rfl)
    · skip
      obtain ⟨l2, h, rfl⟩ := hJ
      replace h : f_device_Device_Wake_j2 p0 l2 = some r := h [] (List.append_nil _).symm
      unfold f_device_Device_Wake_j2 at h
      refine SQ.blk ?_
      exact SQ.midD l2 h (by repeat' (first | exact trivial | refine And.intro rfl ?_)) (fun _ hw => HpOk.pick (H := [_, _, _, _, _, _]) hw [0, 1, 2, 3, 4] 6 rfl)
    · skip
      exact hX.elim
  · skip
    unfold f_device_Device_Wake_j1 at h
    refine SX.re [(0, vP b0_ 0), (2, vP b1 0)] (own b0_ (.cells #[vB p0.off, vB p0.isCut, vI p0.lasts, vI p0.counts, v0x4_, .map (some m0x5_), .map (some m0x6_), vU64 p0.rcnt, vS p0.rtag, vU32 p0.rboots] 60) :: rowT 9 1 v0x4_ eS l1 :: mapC m0x5_ vU32 vS p0.pend :: mapC m0x6_ vU32 vB p0.bad :: own b1 (.cells #[vP b0_ 0] 24) :: H) ?_ (by repeat' (first | exact trivial | refine And.intro rfl ?_))
    refine SX.sr ?_
    refine SL.ld ⟨rfl, rfl, rfl, rfl⟩ sc24 rfl (cell_own 4 rfl rfl) ?_
    refine SL.nchk ⟨rfl, rfl, rfl, rfl⟩ rfl ?_
    refine SL.fa ⟨rfl, rfl, rfl, rfl⟩ rfl fo60_2 ?_
    refine SL.ld ⟨rfl, rfl, rfl, rfl⟩ sc55 rfl (cell_own 0 rfl rfl) ?_
    refine SL.mcl 2 rfl rfl rfl ty55 rfl rfl trivial ?_
    refine SL.nx ?_
    refine SX.seq ?_
    refine SX.drawI mix [0, 4] (Pl.ap [(true, 0), (true, 1), (true, 2), (true, 3), (true, 4), (true, 5), (true, 6), (true, 7), (true, 8)] (.last 9 .nil)) (by kernel_rfl) ?_
    refine SL.ld ⟨rfl, rfl, rfl, rfl⟩ sc24 rfl (cell_own 1 rfl rfl) ?_
    refine SL.ld ⟨rfl, rfl, rfl, rfl⟩ sc24 rfl (cell_own 1 rfl rfl) ?_
    refine SL.nchk ⟨rfl, rfl, rfl, rfl⟩ rfl ?_
    refine SL.fa ⟨rfl, rfl, rfl, rfl⟩ rfl fo60_0 ?_
    refine SL.fa ⟨rfl, rfl, rfl, rfl⟩ rfl fo58_3 ?_
    refine SL.ld ⟨rfl, rfl, rfl, rfl⟩ sc3 rfl (cell_own 0 rfl rfl) ?_
    refine SL.bld [_] ⟨rfl, rfl, rfl, rfl⟩ pl58 pk58 ze58 ⟨rfl, trivial⟩ rfl ?_
    refine SL.nchk ⟨rfl, rfl, rfl, rfl⟩ rfl ?_
    refine SL.fa ⟨rfl, rfl, rfl, rfl⟩ rfl fo60_0 ?_
    refine SL.last ?_
    refine SL.st 0 ⟨rfl, rfl, rfl⟩ rfl rfl rfl sz58 rfl rfl rfl trivial ?_
    refine SL.nx ?_
    refine SX.sr ?_
    refine SL.asg ⟨rfl, rfl, rfl, rfl⟩ rfl ?_
    refine SL.nx ?_
    refine SX.ret ?_
    refine SQ.scpR ?_
    obtain rfl := Option.some.inj h
    exact SQ.fret (res1 rfl rfl) (ret_of (M := [_, _, _, _]) ⟨rfl, rfl⟩ fun _ hw => HpOk.pick (H := [_, _, _, _, _]) hw [0, 1, 2, 3] 5 rfl)


end Go.Proofs.Ytddjneafgddlcaa

/- Plain functions of the references and the laws, printed from the loaded program, and the walks that show that the program computes them. Condition: the plain function yields. -/
namespace Go.Proofs.Ytddjneafgddlcaa
open Go
variable {K : Nat → Prop} {w0 : World} {H : List Chunk}

def f_law07_shown : Option Bool :=
  (f_device_New 4).bind fun y1 =>
  (y1.1).bind fun d1 =>
  (f_ref07_Filled [97, 98]).bind fun y2 =>
  (f_device_Device_Write d1 1 y2).bind fun y3 =>
  (f_device_Device_Cut y3.2 0).bind fun y4 =>
  (f_device_Device_Flush y4).bind fun y5 =>
  (f_device_Device_Read y5.2 1).bind fun y6 =>
  (f_device_Device_Wake y5.2 [2]).bind fun y7 =>
  (f_device_Device_Read y7.2 1).bind fun y8 =>
  (andO (((((((decide (y1.2 = 0)) && (decide (y3.1 = 0))) && (decide (y5.1 = 71))) && (decide (y6.2 = 71))) && (decide (y7.1 = 0))) && (decide (y8.2 = 0))) && (decide ((y8.1.length : Int) = 256))) ((slcI y8.1 0 2).bind fun s1 => some (decide (s1 = [97, 98])))).bind fun y9 =>
  some y9
set_option maxRecDepth 100000 in
theorem c_law07_shown  {r : Bool} (h : f_law07_shown = some r)  : Con Try.prog K w0 4 [] [] H (fun u M => u = vB r ∧ M = []) := by
  unfold f_law07_shown at h
  refine Con.enter Try.func4 rfl rfl ?_
  refine SX.sr ?_
  refine SL.asg ⟨rfl, rfl, rfl, rfl⟩ rfl ?_
  refine SL.nx ?_
  refine SX.sr ?_
  obtain ⟨y1, hy1, h⟩ := bnd h
  obtain ⟨d1, hd1, h⟩ := bnd h
  refine SL.call (vs := [_]) (Hin := []) (Hr := _) ⟨rfl, rfl, rfl, rfl⟩ rfl ⟨rfl, trivial⟩ cal5 rfl rfl (c_device_New hy1) ?_
  rintro _ _ (⟨hn, -, -⟩ | ⟨d_, b1, v1, m1, m2, hn, rfl, rfl⟩)
  · rw [hd1] at hn; cases hn
  obtain rfl : d1 = d_ := Option.some.inj (hd1.symm.trans hn)
  refine ⟨trivial, ?_⟩
  refine SL.mv ⟨rfl, rfl, rfl, rfl⟩ rfl ?_
  refine SL.ext ⟨rfl, rfl, rfl, rfl⟩ rfl rfl ?_
  refine SL.ext ⟨rfl, rfl, rfl, rfl⟩ rfl rfl ?_
  refine SL.asg ⟨rfl, rfl, rfl, rfl⟩ rfl ?_
  refine SL.asg ⟨rfl, rfl, rfl, rfl⟩ rfl ?_
  refine SL.nx ?_
  refine SX.sr ?_
  obtain ⟨y2, hy2, h⟩ := bnd h
  obtain ⟨y3, hy3, h⟩ := bnd h
  refine SL.mv ⟨rfl, rfl, rfl, rfl⟩ rfl ?_
  refine SL.call (vs := [_]) (Hin := []) (Hr := _ :: _ :: _ :: _ :: _) ⟨rfl, rfl, rfl, rfl⟩ rfl ⟨rfl, trivial⟩ cal14 rfl rfl (c_ref07_Filled hy2) ?_
  rintro _ _ ⟨rfl, rfl⟩
  refine ⟨trivial, ?_⟩
  refine SL.call (vs := [_, vU32 1, _]) (Hin := [_, _, _, _]) (Hr := _) ⟨rfl, rfl, rfl, rfl⟩ rfl ⟨rfl, rfl, rfl, trivial⟩ cal13 rfl rfl (c_device_Device_Write hy3) ?_
  rintro _ _ ⟨rfl, rfl⟩
  refine ⟨trivial, ?_⟩
  refine SL.asg ⟨rfl, rfl, rfl, rfl⟩ rfl ?_
  refine SL.nx ?_
  refine SX.sr ?_
  obtain ⟨y4, hy4, h⟩ := bnd h
  refine SL.mv ⟨rfl, rfl, rfl, rfl⟩ rfl ?_
  refine SL.call (vs := [_, _]) (Hin := [_, _, _, _]) (Hr := _) ⟨rfl, rfl, rfl, rfl⟩ rfl ⟨rfl, rfl, trivial⟩ cal15 rfl rfl (c_device_Device_Cut hy4) ?_
  rintro _ _ ⟨rfl, rfl⟩
  refine ⟨trivial, ?_⟩
  refine SL.nx ?_
  refine SX.sr ?_
  obtain ⟨y5, hy5, h⟩ := bnd h
  refine SL.mv ⟨rfl, rfl, rfl, rfl⟩ rfl ?_
  refine SL.call (vs := [_]) (Hin := [_, _, _, _]) (Hr := _) ⟨rfl, rfl, rfl, rfl⟩ rfl ⟨rfl, trivial⟩ cal16 rfl rfl (c_device_Device_Flush hy5) ?_
  rintro _ _ ⟨rfl, rfl⟩
  refine ⟨trivial, ?_⟩
  refine SL.asg ⟨rfl, rfl, rfl, rfl⟩ rfl ?_
  refine SL.nx ?_
  refine SX.sr ?_
  obtain ⟨y6, hy6, h⟩ := bnd h
  refine SL.mv ⟨rfl, rfl, rfl, rfl⟩ rfl ?_
  refine SL.call (vs := [_, vU32 1]) (Hin := [_, _, _, _]) (Hr := _) ⟨rfl, rfl, rfl, rfl⟩ rfl ⟨rfl, rfl, trivial⟩ cal17 rfl rfl (c_device_Device_Read hy6) ?_
  rintro _ _ ⟨rfl, rfl⟩
  refine ⟨trivial, ?_⟩
  refine SL.mv ⟨rfl, rfl, rfl, rfl⟩ rfl ?_
  refine SL.ext ⟨rfl, rfl, rfl, rfl⟩ rfl rfl ?_
  refine SL.ext ⟨rfl, rfl, rfl, rfl⟩ rfl rfl ?_
  refine SL.asg ⟨rfl, rfl, rfl, rfl⟩ rfl ?_
  refine SL.asg ⟨rfl, rfl, rfl, rfl⟩ rfl ?_
  refine SL.nx ?_
  refine SX.sr ?_
  obtain ⟨y7, hy7, h⟩ := bnd h
  refine SL.mv ⟨rfl, rfl, rfl, rfl⟩ rfl ?_
  refine SL.bsl [_] ⟨rfl, rfl, rfl, rfl⟩ ty33 sz3 ze3 ⟨rfl, trivial⟩ rfl rfl rfl (by simp [Value.cells]) rfl rfl (fun _ => trivial) fun b2 => ?_
  refine SL.ownT eI 1 ([2] : List Int) rfl (fun _ => rfl) rfl ?_
  refine SL.call (vs := [_, _]) (Hin := [_, _, _, _, _]) (Hr := _) ⟨rfl, rfl, rfl, rfl⟩ rfl ⟨rfl, rfl, trivial⟩ cal18 rfl rfl (Con.lend (B := [_]) (Hin := [_, _, _, _]) fun K' w1 hk hB => c_device_Device_Wake hy7 (SlOf.lentT (e := 3) (fun _ => rfl) (hB _ (by simp)))) ?_
  rintro _ _ ⟨_, rfl, rfl, rfl⟩
  refine ⟨trivial, ?_⟩
  refine SL.asg ⟨rfl, rfl, rfl, rfl⟩ rfl ?_
  refine SL.nx ?_
  refine SX.sr ?_
  obtain ⟨y8, hy8, h⟩ := bnd h
  refine SL.mv ⟨rfl, rfl, rfl, rfl⟩ rfl ?_
  refine SL.pick [1, 2, 3, 4, 0] 5 ?_
  refine SL.call (vs := [_, vU32 1]) (Hin := [_, _, _, _]) (Hr := _ :: _) ⟨rfl, rfl, rfl, rfl⟩ rfl ⟨rfl, rfl, trivial⟩ cal17 rfl rfl (c_device_Device_Read hy8) ?_
  rintro _ _ ⟨rfl, rfl⟩
  refine ⟨trivial, ?_⟩
  refine SL.mv ⟨rfl, rfl, rfl, rfl⟩ rfl ?_
  refine SL.ext ⟨rfl, rfl, rfl, rfl⟩ rfl rfl ?_
  refine SL.ext ⟨rfl, rfl, rfl, rfl⟩ rfl rfl ?_
  refine SL.asg ⟨rfl, rfl, rfl, rfl⟩ rfl ?_
  refine SL.asg ⟨rfl, rfl, rfl, rfl⟩ rfl ?_
  refine SL.nx ?_
  refine SX.sr ?_
  obtain ⟨y9, hy9, h⟩ := bnd h
  refine SL.mv ⟨rfl, rfl, rfl, rfl⟩ rfl ?_
  refine SL.bin ⟨rfl, rfl, rfl, rfl⟩ rfl rfl Bin.eqI ?_
  refine SL.mv ⟨rfl, rfl, rfl, rfl⟩ rfl ?_
  refine SL.and (c := decide (y3.1 = 0)) 36 3 39 rfl (fun hb k => ?_) (fun hb k => ?_) ?_
  · skip
    refine SL.mv ⟨rfl, rfl, rfl, rfl⟩ rfl ?_
    refine SL.bin ⟨rfl, rfl, rfl, rfl⟩ rfl rfl Bin.eqI ?_
    refine SL.pk ⟨rfl, rfl, rfl, rfl⟩ rfl rfl ?_
    exact k.mono (by repeat' (first | exact trivial | refine And.intro rfl ?_))
  · skip
    refine SL.pass rfl rfl rfl ?_
    refine SL.pass rfl rfl rfl ?_
    refine SL.pk ⟨rfl, rfl, rfl, rfl⟩ rfl rfl ?_
    exact k.mono (by repeat' (first | exact trivial | refine And.intro rfl ?_))
  refine SL.mv ⟨rfl, rfl, rfl, rfl⟩ rfl ?_
  refine SL.and (c := decide (y5.1 = 71)) 40 3 43 rfl (fun hb k => ?_) (fun hb k => ?_) ?_
  · skip
    refine SL.mv ⟨rfl, rfl, rfl, rfl⟩ rfl ?_
    refine SL.bin ⟨rfl, rfl, rfl, rfl⟩ rfl rfl Bin.eqI ?_
    refine SL.pk ⟨rfl, rfl, rfl, rfl⟩ rfl rfl ?_
    exact k.mono (by repeat' (first | exact trivial | refine And.intro rfl ?_))
  · skip
    refine SL.pass rfl rfl rfl ?_
    refine SL.pass rfl rfl rfl ?_
    refine SL.pk ⟨rfl, rfl, rfl, rfl⟩ rfl rfl ?_
    exact k.mono (by repeat' (first | exact trivial | refine And.intro rfl ?_))
  refine SL.mv ⟨rfl, rfl, rfl, rfl⟩ rfl ?_
  refine SL.and (c := decide (y6.2 = 71)) 44 3 47 rfl (fun hb k => ?_) (fun hb k => ?_) ?_
  · skip
    refine SL.mv ⟨rfl, rfl, rfl, rfl⟩ rfl ?_
    refine SL.bin ⟨rfl, rfl, rfl, rfl⟩ rfl rfl Bin.eqI ?_
    refine SL.pk ⟨rfl, rfl, rfl, rfl⟩ rfl rfl ?_
    exact k.mono (by repeat' (first | exact trivial | refine And.intro rfl ?_))
  · skip
    refine SL.pass rfl rfl rfl ?_
    refine SL.pass rfl rfl rfl ?_
    refine SL.pk ⟨rfl, rfl, rfl, rfl⟩ rfl rfl ?_
    exact k.mono (by repeat' (first | exact trivial | refine And.intro rfl ?_))
  refine SL.mv ⟨rfl, rfl, rfl, rfl⟩ rfl ?_
  refine SL.and (c := decide (y7.1 = 0)) 48 3 51 rfl (fun hb k => ?_) (fun hb k => ?_) ?_
  · skip
    refine SL.mv ⟨rfl, rfl, rfl, rfl⟩ rfl ?_
    refine SL.bin ⟨rfl, rfl, rfl, rfl⟩ rfl rfl Bin.eqI ?_
    refine SL.pk ⟨rfl, rfl, rfl, rfl⟩ rfl rfl ?_
    exact k.mono (by repeat' (first | exact trivial | refine And.intro rfl ?_))
  · skip
    refine SL.pass rfl rfl rfl ?_
    refine SL.pass rfl rfl rfl ?_
    refine SL.pk ⟨rfl, rfl, rfl, rfl⟩ rfl rfl ?_
    exact k.mono (by repeat' (first | exact trivial | refine And.intro rfl ?_))
  refine SL.mv ⟨rfl, rfl, rfl, rfl⟩ rfl ?_
  refine SL.and (c := decide (y8.2 = 0)) 52 3 55 rfl (fun hb k => ?_) (fun hb k => ?_) ?_
  · skip
    refine SL.mv ⟨rfl, rfl, rfl, rfl⟩ rfl ?_
    refine SL.bin ⟨rfl, rfl, rfl, rfl⟩ rfl rfl Bin.eqI ?_
    refine SL.pk ⟨rfl, rfl, rfl, rfl⟩ rfl rfl ?_
    exact k.mono (by repeat' (first | exact trivial | refine And.intro rfl ?_))
  · skip
    refine SL.pass rfl rfl rfl ?_
    refine SL.pass rfl rfl rfl ?_
    refine SL.pk ⟨rfl, rfl, rfl, rfl⟩ rfl rfl ?_
    exact k.mono (by repeat' (first | exact trivial | refine And.intro rfl ?_))
  refine SL.mv ⟨rfl, rfl, rfl, rfl⟩ rfl ?_
  refine SL.and (c := decide ((y8.1.length : Int) = 256)) 56 4 60 rfl (fun hb k => ?_) (fun hb k => ?_) ?_
  · skip
    refine SL.mv ⟨rfl, rfl, rfl, rfl⟩ rfl ?_
    refine SL.lenS ⟨rfl, rfl, rfl, rfl⟩ ty9 rfl ?_
    refine SL.bin ⟨rfl, rfl, rfl, rfl⟩ rfl rfl Bin.eqI ?_
    refine SL.pk ⟨rfl, rfl, rfl, rfl⟩ rfl rfl ?_
    exact k.mono (by repeat' (first | exact trivial | refine And.intro rfl ?_))
  · skip
    refine SL.pass rfl rfl rfl ?_
    refine SL.pass rfl rfl rfl ?_
    refine SL.pass rfl rfl rfl ?_
    refine SL.pk ⟨rfl, rfl, rfl, rfl⟩ rfl rfl ?_
    exact k.mono (by repeat' (first | exact trivial | refine And.intro rfl ?_))
  refine SL.mv ⟨rfl, rfl, rfl, rfl⟩ rfl ?_
  refine SL.andN 61 4 65 hy9 rfl (fun hb hg7 k => ?_) (fun hb k => ?_) ?_
  · skip
    obtain ⟨s1, hs1, hg7⟩ := bnd hg7
    obtain rfl := Option.some.inj hg7
    refine SL.mv ⟨rfl, rfl, rfl, rfl⟩ rfl ?_
    refine SL.slNh hs1 ⟨rfl, rfl, rfl, rfl⟩ ty9 rfl rfl ?_
    refine SL.bin ⟨rfl, rfl, rfl, rfl⟩ rfl rfl Bin.eqS ?_
    refine SL.pk ⟨rfl, rfl, rfl, rfl⟩ rfl rfl ?_
    exact k.mono (by repeat' (first | exact trivial | refine And.intro rfl ?_))
  · skip
    refine SL.pass rfl rfl rfl ?_
    refine SL.pass rfl rfl rfl ?_
    refine SL.pass rfl rfl rfl ?_
    refine SL.pk ⟨rfl, rfl, rfl, rfl⟩ rfl rfl ?_
    exact k.mono (by repeat' (first | exact trivial | refine And.intro rfl ?_))
  refine SL.asg ⟨rfl, rfl, rfl, rfl⟩ rfl ?_
  refine SL.nx ?_
  refine SX.ret ?_
  obtain rfl := Option.some.inj h
  exact SQ.fret (res1 rfl rfl) (ret_of (M := []) ⟨rfl, rfl⟩ fun _ hw => HpOk.pick (H := [_, _, _, _, _]) hw [] 5 rfl)

def f_device_Device_Read_nil (p1 : UInt32) : Option (List UInt8 × Int) :=
  some ([], 1)
set_option maxRecDepth 100000 in
theorem c_device_Device_Read_nil {p1 : UInt32} {r : List UInt8 × Int} (h : f_device_Device_Read_nil p1 = some r)  : Con Try.prog K w0 17 [.pointer none, vU32 p1] [] H (fun u M => u = .tuple #[vS r.1, vI r.2] ∧ M = []) := by
  unfold f_device_Device_Read_nil at h
  refine Con.enter Try.func17 rfl rfl ?_
  refine SX.sr ?_
  refine SL.asg ⟨rfl, rfl, rfl, rfl⟩ rfl ?_
  refine SL.asg ⟨rfl, rfl, rfl, rfl⟩ rfl ?_
  refine SL.nx ?_
  refine SX.seq ?_
  refine SX.block ?_
  refine SX.sr ?_
  refine SL.mv ⟨rfl, rfl, rfl, rfl⟩ rfl ?_
  refine SL.eqPN ⟨rfl, rfl, rfl, rfl⟩ ty24 rfl rfl ?_
  refine SL.asg ⟨rfl, rfl, rfl, rfl⟩ rfl ?_
  refine SL.nx ?_
  refine SX.condT rfl ?_
  refine SX.sr ?_
  refine SL.asg ⟨rfl, rfl, rfl, rfl⟩ rfl ?_
  refine SL.asg ⟨rfl, rfl, rfl, rfl⟩ rfl ?_
  refine SL.nx ?_
  refine SX.ret ?_
  refine SQ.blkR ?_
  refine SQ.thnR ?_
  obtain rfl := Option.some.inj h
  exact SQ.fret (res2 rfl rfl rfl) (ret_of (M := []) ⟨rfl, rfl⟩ fun _ hw => HpOk.pick (H := []) hw [] 0 rfl)

def f_device_Device_Write_nil (p1 : UInt32) (p2 : List UInt8) : Option Int :=
  some 1
set_option maxRecDepth 100000 in
theorem c_device_Device_Write_nil {p1 : UInt32} {p2 : List UInt8} {r : Int} (h : f_device_Device_Write_nil p1 p2 = some r)  : Con Try.prog K w0 13 [.pointer none, vU32 p1, vS p2] [] H (fun u M => u = vI r ∧ M = []) := by
  unfold f_device_Device_Write_nil at h
  refine Con.enter Try.func13 rfl rfl ?_
  refine SX.sr ?_
  refine SL.asg ⟨rfl, rfl, rfl, rfl⟩ rfl ?_
  refine SL.nx ?_
  refine SX.seq ?_
  refine SX.block ?_
  refine SX.sr ?_
  refine SL.mv ⟨rfl, rfl, rfl, rfl⟩ rfl ?_
  refine SL.eqPN ⟨rfl, rfl, rfl, rfl⟩ ty24 rfl rfl ?_
  refine SL.asg ⟨rfl, rfl, rfl, rfl⟩ rfl ?_
  refine SL.nx ?_
  refine SX.condT rfl ?_
  refine SX.sr ?_
  refine SL.asg ⟨rfl, rfl, rfl, rfl⟩ rfl ?_
  refine SL.nx ?_
  refine SX.ret ?_
  refine SQ.blkR ?_
  refine SQ.thnR ?_
  obtain rfl := Option.some.inj h
  exact SQ.fret (res1 rfl rfl) (ret_of (M := []) ⟨rfl, rfl⟩ fun _ hw => HpOk.pick (H := []) hw [] 0 rfl)

def f_device_Device_Flush_nil : Option Int :=
  some 1
set_option maxRecDepth 100000 in
theorem c_device_Device_Flush_nil  {r : Int} (h : f_device_Device_Flush_nil = some r)  : Con Try.prog K w0 16 [.pointer none] [] H (fun u M => u = vI r ∧ M = []) := by
  unfold f_device_Device_Flush_nil at h
  refine Con.enter Try.func16 rfl rfl ?_
  refine SX.sr ?_
  refine SL.box ⟨rfl, rfl, rfl, rfl⟩ rfl (fun _ => trivial) fun b1 => ?_
  refine SL.asg ⟨rfl, rfl, rfl, rfl⟩ rfl ?_
  refine SL.nx ?_
  refine SX.seq ?_
  refine SX.sr ?_
  refine SL.ld ⟨rfl, rfl, rfl, rfl⟩ sc24 rfl (cell_own 0 rfl rfl) ?_
  refine SL.eqPN ⟨rfl, rfl, rfl, rfl⟩ ty24 rfl rfl ?_
  refine SL.nx ?_
  refine SX.condT rfl ?_
  refine SX.sr ?_
  refine SL.asg ⟨rfl, rfl, rfl, rfl⟩ rfl ?_
  refine SL.nx ?_
  refine SX.ret ?_
  refine SQ.thnR ?_
  obtain rfl := Option.some.inj h
  exact SQ.fret (res1 rfl rfl) (ret_of (M := []) ⟨rfl, rfl⟩ fun _ hw => HpOk.pick (H := [_]) hw [] 1 rfl)

def f_device_Device_Cut_nil (p1 : Int) : Option Unit :=
  some ()
set_option maxRecDepth 100000 in
theorem c_device_Device_Cut_nil {p1 : Int} {r : Unit} (h : f_device_Device_Cut_nil p1 = some r)  : Con Try.prog K w0 15 [.pointer none, vI p1] [] H (fun u M => u = .tuple #[] ∧ M = []) := by
  unfold f_device_Device_Cut_nil at h
  refine Con.enter Try.func15 rfl rfl ?_
  refine SX.sr ?_
  refine SL.mv ⟨rfl, rfl, rfl, rfl⟩ rfl ?_
  refine SL.nePN ⟨rfl, rfl, rfl, rfl⟩ ty24 rfl rfl ?_
  refine SL.nx ?_
  refine SX.condF rfl ?_
  refine SX.skip ?_
  obtain rfl := Option.some.inj h
  exact SQ.fend (res0 rfl) (ret_of (M := []) ⟨rfl, rfl⟩ fun _ hw => HpOk.pick (H := []) hw [] 0 rfl)

def f_device_Device_Wake_nil (p1 : List Int) : Option Int :=
  some 1
set_option maxRecDepth 100000 in
theorem c_device_Device_Wake_nil {v1_ : Value} {p1 : List Int} {r : Int} (h : f_device_Device_Wake_nil p1 = some r) (hs1_ : SlOf K w0 eI 1 v1_ p1) : Con Try.prog K w0 18 [.pointer none, v1_] [] H (fun u M => u = vI r ∧ M = []) := by
  unfold f_device_Device_Wake_nil at h
  refine Con.enter Try.func18 rfl rfl ?_
  refine SX.sr ?_
  refine SL.box ⟨rfl, rfl, rfl, rfl⟩ rfl (fun _ => trivial) fun b1 => ?_
  refine SL.slV1 hs1_ fun hv1 ho1 => ?_
  refine SL.boxR hv1 ⟨rfl, rfl, rfl, rfl⟩ rfl (fun _ => trivial) fun b2 => ?_
  refine SL.asg ⟨rfl, rfl, rfl, rfl⟩ rfl ?_
  refine SL.nx ?_
  refine SX.scope ?_
  refine SX.seq ?_
  refine SX.sr ?_
  refine SL.ld ⟨rfl, rfl, rfl, rfl⟩ sc24 rfl (cell_own 1 rfl rfl) ?_
  refine SL.eqPN ⟨rfl, rfl, rfl, rfl⟩ ty24 rfl rfl ?_
  refine SL.nx ?_
  refine SX.condT rfl ?_
  refine SX.sr ?_
  refine SL.asg ⟨rfl, rfl, rfl, rfl⟩ rfl ?_
  refine SL.nx ?_
  refine SX.ret ?_
  refine SQ.thnR ?_
  refine SQ.scpR ?_
  obtain rfl := Option.some.inj h
  exact SQ.fret (res1 rfl rfl) (ret_of (M := []) ⟨rfl, rfl⟩ fun _ hw => HpOk.pick (H := [_, _]) hw [] 2 rfl)

def f_device_Device_Put_nil (p1 : UInt32) (p2 : List UInt8) : Option Int :=
  some 1
set_option maxRecDepth 100000 in
theorem c_device_Device_Put_nil {p1 : UInt32} {p2 : List UInt8} {r : Int} (h : f_device_Device_Put_nil p1 p2 = some r)  : Con Try.prog K w0 30 [.pointer none, vU32 p1, vS p2] [] H (fun u M => u = vI r ∧ M = []) := by
  unfold f_device_Device_Put_nil at h
  refine Con.enter Try.func30 rfl rfl ?_
  refine SX.sr ?_
  refine SL.asg ⟨rfl, rfl, rfl, rfl⟩ rfl ?_
  refine SL.nx ?_
  refine SX.seq ?_
  refine SX.block ?_
  refine SX.sr ?_
  refine SL.mv ⟨rfl, rfl, rfl, rfl⟩ rfl ?_
  refine SL.eqPN ⟨rfl, rfl, rfl, rfl⟩ ty24 rfl rfl ?_
  refine SL.asg ⟨rfl, rfl, rfl, rfl⟩ rfl ?_
  refine SL.nx ?_
  refine SX.condT rfl ?_
  refine SX.sr ?_
  refine SL.asg ⟨rfl, rfl, rfl, rfl⟩ rfl ?_
  refine SL.nx ?_
  refine SX.ret ?_
  refine SQ.blkR ?_
  refine SQ.thnR ?_
  obtain rfl := Option.some.inj h
  exact SQ.fret (res1 rfl rfl) (ret_of (M := []) ⟨rfl, rfl⟩ fun _ hw => HpOk.pick (H := []) hw [] 0 rfl)

def f_device_Device_Bad_nil (p1 : UInt32) (p2 : Bool) : Option Int :=
  some 1
set_option maxRecDepth 100000 in
theorem c_device_Device_Bad_nil {p1 : UInt32} {p2 : Bool} {r : Int} (h : f_device_Device_Bad_nil p1 p2 = some r)  : Con Try.prog K w0 32 [.pointer none, vU32 p1, vB p2] [] H (fun u M => u = vI r ∧ M = []) := by
  unfold f_device_Device_Bad_nil at h
  refine Con.enter Try.func32 rfl rfl ?_
  refine SX.sr ?_
  refine SL.asg ⟨rfl, rfl, rfl, rfl⟩ rfl ?_
  refine SL.nx ?_
  refine SX.seq ?_
  refine SX.block ?_
  refine SX.sr ?_
  refine SL.mv ⟨rfl, rfl, rfl, rfl⟩ rfl ?_
  refine SL.eqPN ⟨rfl, rfl, rfl, rfl⟩ ty24 rfl rfl ?_
  refine SL.asg ⟨rfl, rfl, rfl, rfl⟩ rfl ?_
  refine SL.nx ?_
  refine SX.condT rfl ?_
  refine SX.sr ?_
  refine SL.asg ⟨rfl, rfl, rfl, rfl⟩ rfl ?_
  refine SL.nx ?_
  refine SX.ret ?_
  refine SQ.blkR ?_
  refine SQ.thnR ?_
  obtain rfl := Option.some.inj h
  exact SQ.fret (res1 rfl rfl) (ret_of (M := []) ⟨rfl, rfl⟩ fun _ hw => HpOk.pick (H := []) hw [] 0 rfl)

def f_device_Device_Start_nil : Option (UInt32 × Int) :=
  some (0, 1)
set_option maxRecDepth 100000 in
theorem c_device_Device_Start_nil  {r : UInt32 × Int} (h : f_device_Device_Start_nil = some r)  : Con Try.prog K w0 26 [.pointer none] [] H (fun u M => u = .tuple #[vU32 r.1, vI r.2] ∧ M = []) := by
  unfold f_device_Device_Start_nil at h
  refine Con.enter Try.func26 rfl rfl ?_
  refine SX.sr ?_
  refine SL.asg ⟨rfl, rfl, rfl, rfl⟩ rfl ?_
  refine SL.asg ⟨rfl, rfl, rfl, rfl⟩ rfl ?_
  refine SL.nx ?_
  refine SX.seq ?_
  refine SX.block ?_
  refine SX.sr ?_
  refine SL.mv ⟨rfl, rfl, rfl, rfl⟩ rfl ?_
  refine SL.eqPN ⟨rfl, rfl, rfl, rfl⟩ ty24 rfl rfl ?_
  refine SL.asg ⟨rfl, rfl, rfl, rfl⟩ rfl ?_
  refine SL.nx ?_
  refine SX.condT rfl ?_
  refine SX.sr ?_
  refine SL.asg ⟨rfl, rfl, rfl, rfl⟩ rfl ?_
  refine SL.asg ⟨rfl, rfl, rfl, rfl⟩ rfl ?_
  refine SL.nx ?_
  refine SX.ret ?_
  refine SQ.blkR ?_
  refine SQ.thnR ?_
  obtain rfl := Option.some.inj h
  exact SQ.fret (res2 rfl rfl rfl) (ret_of (M := []) ⟨rfl, rfl⟩ fun _ hw => HpOk.pick (H := []) hw [] 0 rfl)

def f_device_Device_Advance_nil (p1 : List UInt8) : Option Int :=
  some 1
set_option maxRecDepth 100000 in
theorem c_device_Device_Advance_nil {p1 : List UInt8} {r : Int} (h : f_device_Device_Advance_nil p1 = some r)  : Con Try.prog K w0 24 [.pointer none, vS p1] [] H (fun u M => u = vI r ∧ M = []) := by
  unfold f_device_Device_Advance_nil at h
  refine Con.enter Try.func24 rfl rfl ?_
  refine SX.sr ?_
  refine SL.asg ⟨rfl, rfl, rfl, rfl⟩ rfl ?_
  refine SL.nx ?_
  refine SX.seq ?_
  refine SX.block ?_
  refine SX.sr ?_
  refine SL.mv ⟨rfl, rfl, rfl, rfl⟩ rfl ?_
  refine SL.eqPN ⟨rfl, rfl, rfl, rfl⟩ ty24 rfl rfl ?_
  refine SL.asg ⟨rfl, rfl, rfl, rfl⟩ rfl ?_
  refine SL.nx ?_
  refine SX.condT rfl ?_
  refine SX.sr ?_
  refine SL.asg ⟨rfl, rfl, rfl, rfl⟩ rfl ?_
  refine SL.nx ?_
  refine SX.ret ?_
  refine SQ.blkR ?_
  refine SQ.thnR ?_
  obtain rfl := Option.some.inj h
  exact SQ.fret (res1 rfl rfl) (ret_of (M := []) ⟨rfl, rfl⟩ fun _ hw => HpOk.pick (H := []) hw [] 0 rfl)

def f_device_Device_Register_nil : Option RegA :=
  some (⟨0, [], 0⟩ : RegA)
set_option maxRecDepth 100000 in
theorem c_device_Device_Register_nil  {r : RegA} (h : f_device_Device_Register_nil = some r)  : Con Try.prog K w0 11 [.pointer none] [] H (fun u M => u = .agg (encReg r).toArray ∧ M = []) := by
  unfold f_device_Device_Register_nil at h
  refine Con.enter Try.func11 rfl rfl ?_
  refine SX.sr ?_
  refine SL.alloc ⟨rfl, rfl, rfl, rfl⟩ ze41 (fun _ => trivial) fun b1 => ?_
  refine SL.nx ?_
  refine SX.seq ?_
  refine SX.sr ?_
  refine SL.mv ⟨rfl, rfl, rfl, rfl⟩ rfl ?_
  refine SL.eqPN ⟨rfl, rfl, rfl, rfl⟩ ty24 rfl rfl ?_
  refine SL.nx ?_
  refine SX.condT rfl ?_
  refine SX.sr ?_
  refine SL.bld [] ⟨rfl, rfl, rfl, rfl⟩ pl41 pk41 ze41 trivial rfl ?_
  refine SL.st 0 ⟨rfl, rfl, rfl⟩ rfl rfl rfl sz41 rfl rfl rfl trivial ?_
  refine SL.nx ?_
  refine SX.ret ?_
  refine SQ.thnR ?_
  obtain rfl := Option.some.inj h
  exact SQ.fret (resv1 rfl (resv.ag 0 (encReg (⟨0, [], 0⟩ : RegA)) ag41 rfl rfl rfl rfl)) (ret_of (M := []) ⟨rfl, rfl⟩ fun _ hw => HpOk.pick (H := [_]) hw [] 1 rfl)

def f_device_Device_Image_nil : Option (List (List UInt8)) :=
  some []
set_option maxRecDepth 100000 in
theorem c_device_Device_Image_nil  {r : List (List UInt8)} (h : f_device_Device_Image_nil = some r)  : Con Try.prog K w0 9 [.pointer none] [] H (fun u M => ∃ v0 : Value, u = v0 ∧ M = [rowT 9 1 v0 eS r]) := by
  unfold f_device_Device_Image_nil at h
  refine Con.enter Try.func9 rfl rfl ?_
  refine SX.sr ?_
  refine SL.nilT 9 1 eS ?_
  refine SL.asg ⟨rfl, rfl, rfl, rfl⟩ rfl ?_
  refine SL.nx ?_
  refine SX.seq ?_
  refine SX.sr ?_
  refine SL.mv ⟨rfl, rfl, rfl, rfl⟩ rfl ?_
  refine SL.eqPN ⟨rfl, rfl, rfl, rfl⟩ ty24 rfl rfl ?_
  refine SL.nx ?_
  refine SX.condT rfl ?_
  refine SX.sr ?_
  refine SL.nilT 9 1 eS ?_
  refine SL.asg ⟨rfl, rfl, rfl, rfl⟩ rfl ?_
  refine SL.nx ?_
  refine SX.ret ?_
  refine SQ.thnR ?_
  obtain rfl := Option.some.inj h
  exact SQ.fret (res1 rfl rfl) (ret_of (M := [_]) ⟨(.slice none 0 0), rfl, rfl⟩ fun _ hw => HpOk.pick (H := [_, _]) hw [0] 2 rfl)

def f_device_Device_Blocks_nil : Option Int :=
  some 0
set_option maxRecDepth 100000 in
theorem c_device_Device_Blocks_nil  {r : Int} (h : f_device_Device_Blocks_nil = some r)  : Con Try.prog K w0 12 [.pointer none] [] H (fun u M => u = vI r ∧ M = []) := by
  unfold f_device_Device_Blocks_nil at h
  refine Con.enter Try.func12 rfl rfl ?_
  refine SX.sr ?_
  refine SL.asg ⟨rfl, rfl, rfl, rfl⟩ rfl ?_
  refine SL.nx ?_
  refine SX.seq ?_
  refine SX.sr ?_
  refine SL.mv ⟨rfl, rfl, rfl, rfl⟩ rfl ?_
  refine SL.eqPN ⟨rfl, rfl, rfl, rfl⟩ ty24 rfl rfl ?_
  refine SL.nx ?_
  refine SX.condT rfl ?_
  refine SX.sr ?_
  refine SL.asg ⟨rfl, rfl, rfl, rfl⟩ rfl ?_
  refine SL.nx ?_
  refine SX.ret ?_
  refine SQ.thnR ?_
  obtain rfl := Option.some.inj h
  exact SQ.fret (res1 rfl rfl) (ret_of (M := []) ⟨rfl, rfl⟩ fun _ hw => HpOk.pick (H := []) hw [] 0 rfl)


end Go.Proofs.Ytddjneafgddlcaa

/- The engine: a row that is cut at its beginning; calls that yield nil; ranges that are left in their first round. No condition beyond those stated. -/
namespace Go.Proofs.Ytddjneafgddlcaa
open Go

variable {P : Program} {ro : Option Nat} {K : Nat → Prop} {w0 : World} {N : Nat} {Q : Post} {D : List Nat} {l l' : Tm} {H H' Hs L : List Chunk} {ops : Array Oper} {items : Its}
variable {tk : Bool} {o : Oper} {t : Nat} {v : Value} {x y z : Operand}

/-- a pointer that is nil -/
def nilO {α : Type} : Option α → Option Unit
  | none => some ()
  | some _ => none
theorem nilO_no {α : Type} {o : Option α} {d : α} {u : Unit} (h : nilO o = some u) (h' : o = some d) : False := by
  rw [h'] at h; cases h
theorem nilO_none {α : Type} {o : Option α} {u : Unit} (h : nilO o = some u) : o = none := by
  cases o with
  | none => rfl
  | some d => cases h
/-- a place ahead of a length -/
def ltI (j : Int) (n : Nat) : Option Unit := if j < (n : Int) then some () else none
theorem ltI_some {j : Int} {n : Nat} {u : Unit} (h : ltI j n = some u) : j < (n : Int) := by
  unfold ltI at h
  split at h
  · assumption
  · cases h
/-- what is left of a slice behind a cut is read where the slice is read -/
theorem SlOf.cutL {α : Type} {enc : α → List Value} {sz : Nat} {xs : List α} {b n cap q : Nat} (h : SlOf K w0 enc sz (.slice (some ⟨b, 0, none⟩) n cap) xs) (hn : n = xs.length) (hq : q ≤ xs.length) : SlOf K w0 enc sz (.slice (some ⟨b, 0 + q * sz, none⟩) (n - q) (cap - q)) (xs.drop q) := by
  refine ⟨h.len, ?_⟩
  rcases h.at_ with ⟨a, e, h0⟩ | ⟨b', off, cap', e, hc, hcell⟩
  · subst h0
    have : n = 0 := by simpa using hn
    subst this
    refine .inl ⟨some ⟨b, 0 + q * sz, none⟩, ?_, by simp⟩
    have : q = 0 := by simpa using hq
    subst this
    cases e
    rfl
  · cases e
    refine .inr ⟨b, 0 + q * sz, cap - q, by simp, by simp; omega, fun j u hu => ?_⟩
    have hpre : (xs.take q).flatMap enc ++ (xs.drop q).flatMap enc = xs.flatMap enc := by
      rw [← List.flatMap_append, List.take_append_drop]
    have hlen : ((xs.take q).flatMap enc).length = q * sz := by rw [flatMap_len h.len, List.length_take, Nat.min_eq_left hq]
    have hu' : (xs.flatMap enc)[q * sz + j]? = some u := by
      rw [← hpre, List.getElem?_append_right (by omega), hlen, Nat.add_sub_cancel_left]
      exact hu
    have := hcell (q * sz + j) u hu'
    rw [Nat.zero_add] at this ⊢
    exact this
theorem SL.slRN {α : Type} {enc : α → List Value} {sz : Nat} {xs us : List α} {k : IntKind} {j : Int} {ty e e' : TypeId} (i : Nat) (hk : H[i]? = some (rowT e' sz v enc xs)) (hn : slcI xs j (xs.length : Int) = some us) (ho : At ops N l o t (.slice ty x (some z) none none)) (hty : P.underlying ty = some (.slice e)) (hsz : tsz P e = some sz) (hx : evl l x = some v) (hz : evl l z = some (.int k j)) (hlt : j < (xs.length : Int))
    (h : ∀ v', (∀ K' w', SlOf K' w' enc sz v xs → SlOf K' w' enc sz v' us) → SL P ro K w0 N ops Hs items Q D ((t, v') :: l) H) : SL P ro K w0 N ops Hs (.cons (tk, o) items) Q D l H := by
  obtain ⟨h1, h2, h3, h4, rfl⟩ := slcI_some hn
  intro a w ha hw hs
  have hrow : w.ownsRow 0 e' sz v xs.length (xs.flatMap enc) := hw.holds _ (List.mem_append_left _ (List.mem_of_getElem? hk))
  rcases hrow.2 with ⟨rfl, h0⟩ | ⟨g, cap, cur, rfl, _, hg, hc, _⟩
  · exfalso; omega
  · have hq : j.toNat < xs.length := by omega
    have e2 : (xs.drop j.toNat).take ((xs.length : Int).toNat - j.toNat) = xs.drop j.toNat := List.take_of_length_le (by simp)
    refine SL.slLR j.toNat ho hty hsz hx hz h1 (by omega) (by omega) (h _ fun K' w' hK => ?_) a w ha hw hs
    rw [e2]
    exact hK.cutL rfl (by omega)
/-- an empty slice's literal -/
theorem SL.bsl0 {ty e : TypeId} {sz : Nat} (ho : At ops N l o t (.buildSlice ty 0 #[])) (hty : P.underlying ty = some (.slice e)) (hsz : tsz P e = some sz) (hs : ∀ b, SubI Hs (own b (.cells #[] e) :: H))
    (h : ∀ b, SL P ro K w0 N ops Hs items Q D ((t, .slice (some ⟨b, 0, none⟩) 0 0) :: l) (own b (.cells #[] e) :: H)) : SL P ro K w0 N ops Hs (.cons (false, o) items) Q D l H :=
  SL.step (fun b => .slice (some ⟨b, 0, none⟩) 0 0) (fun b => own b (.cells #[] e) :: H) ho rfl (fun a w ha hw => by
    refine ⟨w.heap.size, w.alloc (.cells #[] e), ?_, by exact hw.alloc _⟩
    unfold execOp
    simp only [ho.op, Instr.buildSlice, Sem.run_bind, run_underlying hty, Result.andThen_ok, run_sizeOf hsz, Nat.zero_mul, if_neg (show ¬ (0 > 2 ^ 24) by omega), if_true, Sem.run_pure, show (Array.range 0) = (#[] : Array Nat) from rfl, List.map_toArray, List.map_nil, Array.map_empty, Instr.fill, newRow, run_newObj]
    rfl) hs h
/-- 'fillL' of parts' cells -/
def fillC (pl : List (Nat × Nat)) : Array Value → List (Nat × Array Value) → Option (Array Value)
  | c, [] => some c
  | c, (i, u) :: r =>
    match pl[i]? with
    | none => none
    | some (off, size) => bif Nat.beq u.size size && Nat.ble (off + u.size) c.size then fillC pl (setL c off u.toList) r else none
theorem fillL_C (pl : List (Nat × Nat)) : ∀ (is : List Nat) (vs : List Value) (c : Array Value), fillL pl c (is.zip vs) = fillC pl c (is.zip (vs.map Value.cells))
  | [], vs, c => by simp [fillL, fillC]
  | i :: is, [], c => by simp [fillL, fillC]
  | i :: is, v :: vs, c => by
    simp only [List.zip_cons_cons, List.map_cons, fillL, fillC]
    cases hi : pl[i]? with
    | none => rfl
    | some p =>
      obtain ⟨off, size⟩ := p
      simp only [fillL_C pl is vs]
theorem SL.bldC {ty : TypeId} {parts : Array (Nat × Operand)} {pl : List (Nat × Nat)} {zv : Value} {r : Array Value} (vs : List Value) (css : List (Array Value)) (hc : vs.map Value.cells = css) (ho : At ops N l o t (.build ty parts)) (hp : plc P ty = some pl) (hk : plk P ty = true) (hz : zer P ty = some zv)
    (hv : evs l (parts.toList.map (·.2)) vs) (hf : fillC pl zv.cells ((parts.toList.map (·.1)).zip css) = some r) (h : SL P ro K w0 N ops Hs items Q D ((t, .agg r) :: l) H) : SL P ro K w0 N ops Hs (.cons (tk, o) items) Q D l H :=
  SL.bld vs ho hp hk hz hv (by rw [fillL_C, hc]; exact hf) h
/-- as 'SeqAt', of a range that is left in its first round -/
def SeqAt1 (P : Program) (K : Nat → Prop) (w0 : World) (f : FuncId) (cap : List Value) (Hit G0 : List Chunk) {α : Type} (enc : α → List Value) (xs : List α) : Prop :=
  ∀ (lp : Nat) (J : List α → List Chunk → Prop) (X : List Chunk → Prop) (T : List Chunk) (rc : Chunk), (∀ pre G, J pre G → pre = []) →
    (∀ pre x suf, xs = pre ++ x :: suf → ∀ G, J pre G → ∀ M, Yld P K w0 lp (enc x) (G ++ M) fun b G' => ∃ G1, G' = G1 ++ M ∧ (if b then J (pre ++ [x]) G1 else X G1)) →
    J [] (rc :: G0) → Con P K w0 f (vY lp :: cap) (Hit ++ (rc :: G0)) T fun _ M => J xs M ∨ X M
/-- **for .. := range g { .. }**, outside every round, whose body is left in the first -/
theorem SX.rangeAt1 {α : Type} {g : Operand} {ps : Array Tmp} {assign body : Code} {f : FuncId} {cap : List Value} {Hit : List Chunk} {enc : α → List Value} (xs : List α) {G0 : List Chunk}
    (J : List α → List Chunk → Prop) (X : Code → List Chunk → Prop)
    (hg : evl l g = some (.func (.func f) #[] cap.toArray)) (hf : callable P f = true) (hps : ps.toList.all (fun p => Nat.blt p N) = true) (hlen : ∀ x, (enc x).length = ps.size)
    (hseq : SeqAt1 P K w0 f cap Hit G0 enc xs) (hH : H = Hit ++ G0) (h0 : J [] G0) (hJ1 : ∀ pre G, J pre G → pre = [])
    (hbody : ∀ pre x suf G, xs = pre ++ x :: suf → J pre G → ∀ r lp Rest, SX P (some lp) K w0 N assign (bgn P lp body (rnd K w0 J X pre x (Tl r lp Rest .busy))) [] (parTm ps.toList (enc x) l) (G ++ Tl r lp Rest .ready))
    (hdone : ∀ G D, J xs G → SQ K w0 N Q .normal D l G)
    (hstop : ∀ c G D, X c G → SX P none K w0 N c Q D l G) : SX P none K w0 N (.rangeFunc g ps assign body) Q D l H := by
  intro a w ha hw
  subst hH
  refine wpIn_rangeFunc fun fn _ => ?_
  let r : Loop := { state := .ready, pending := none, fn := fn, tmps := a.tmps, params := ps, assign := assign, body := body, defers := w.heap.size }
  refine ⟨w.heap.size + 1, [{ target := .collected w.heap.size, args := #[] }], (w.alloc (.deferred (some []))).alloc (.loop r), { target := .fn (.func f) cap.toArray, args := #[vY (w.heap.size + 1)] }, (w.alloc (.deferred (some []))).alloc (.loop r),
    f, (vY (w.heap.size + 1) :: cap).toArray, (w.alloc (.deferred (some []))).alloc (.loop r), ?_, ?_, fun _ _ => Fc_fn _ _, ?_, fun hd => by simp [Fc_depth] at hd, ?_⟩
  · rw [Fc_round]; exact run_enterLoop_outer fn a.tmps ps assign body
  · have hev := ha.vals.eval hg
    simp [resolve, hev, Deferred.ofValue]
    rfl
  · simp [invoke, run_callFunc hf]
  · -- the call
    generalize hlp : w.heap.size + 1 = lp
    have hw1 : HpOk K w0 ((Hit ++ (Tl r lp [] .ready ++ G0)) ++ [marks (w.heap.size :: D)]) ((w.alloc (.deferred (some []))).alloc (.loop r)) := by
      have h1 := (hw.alloc (.deferred (some []))).alloc (.loop r)
      rw [World.size_alloc, hlp] at h1
      -- own lp record :: own mark :: ((Hit ++ G0) ++ [marks D])
      have hm : HpOk K w0 (marks (w.heap.size :: D) :: own lp (.loop r) :: (Hit ++ G0)) ((w.alloc (.deferred (some []))).alloc (.loop r)) := by
        have hp : (own lp (.loop r) :: own w.heap.size (.deferred (some [])) :: (Hit ++ G0 ++ [marks D])).Perm (own w.heap.size (.deferred (some [])) :: marks D :: own lp (.loop r) :: (Hit ++ G0)) := by
          refine (List.Perm.swap _ _ _).trans (List.Perm.cons _ ?_)
          refine (List.Perm.cons _ (List.perm_append_comm (l₁ := Hit ++ G0) (l₂ := [marks D]))).trans ?_
          exact List.Perm.swap _ _ _
        have h2 := h1.perm hp
        have hpw := List.pairwise_cons.1 h2.disj
        have hpw2 := List.pairwise_cons.1 hpw.2
        have hmk := h2.holds (marks D) (by simp)
        have hnew := h2.holds (own w.heap.size (.deferred (some []))) (List.mem_cons_self ..)
        refine ⟨h2.os, h2.tape, h2.output, h2.size, h2.klt, h2.keep, ?_, ?_, ?_⟩
        · intro c hc
          rcases List.mem_cons.1 hc with rfl | hc
          · refine ⟨List.nodup_cons.2 ⟨fun hin => hpw.1 (marks D) (by simp) _ rfl hin, hmk.1⟩, fun b hb => ?_⟩
            rcases List.mem_cons.1 hb with rfl | hb
            · exact hnew
            · exact hmk.2 b hb
          · exact h2.holds c (by simp only [List.mem_cons] at hc ⊢; exact .inr (.inr hc))
        · intro c hc b hb
          rcases List.mem_cons.1 hc with rfl | hc
          · rcases List.mem_cons.1 hb with rfl | hb
            · exact h2.foot (own w.heap.size (.deferred (some []))) (List.mem_cons_self ..) _ rfl
            · exact h2.foot (marks D) (by simp) b hb
          · exact h2.foot c (by simp only [List.mem_cons] at hc ⊢; exact .inr (.inr hc)) b hb
        · refine List.pairwise_cons.2 ⟨fun c hc b hb hb' => ?_, hpw2.2⟩
          rcases List.mem_cons.1 hb with rfl | hb
          · exact hpw.1 c (List.mem_cons_of_mem _ hc) _ rfl hb'
          · exact hpw2.1 c hc b hb hb'
      refine hm.perm ?_
      have e : Tl r lp [] .ready = [own lp (.loop r)] := rfl
      rw [e]
      refine (List.perm_append_comm (l₁ := [marks (w.heap.size :: D)])).trans (List.Perm.append_right _ ?_)
      simpa using (List.perm_middle (l₁ := Hit) (a := own lp (.loop r)) (l₂ := G0)).symm
    have hN : ∀ p ∈ ps.toList, p < a.tmps.size := fun p hp => by
      rw [ha.size]
      exact blt_lt (List.all_eq_true.1 hps p hp)
    let D' := w.heap.size :: D
    have hcon := hseq lp (fun pre Gx => ∃ G, J pre G ∧ Gx = Tl r lp [] .ready ++ G) (fun Gx => ∃ c G, X c G ∧ Gx = own lp (.loop { r with state := .done, pending := some c }) :: G) [marks D'] (own lp (.loop { r with state := .ready, pending := none })) (fun pre _ h => hJ1 pre _ h.choose_spec.1) ?_ ⟨G0, h0, rfl⟩
    · refine Fc_calls none ((hcon _ hw1).mono ?_)
      rintro e w' ⟨v, M, rfl, hM, hw'⟩
      have hD : TmOk N D' l { tmps := a.tmps, defers := [{ target := .collected w.heap.size, args := #[] }] ++ a.defers } := ⟨ha.size, by simp [ha.defers, D', mark], ha.vals⟩
      rcases hM with ⟨G, hJ, rfl⟩ | ⟨c, G, hX, rfl⟩
      · have hl : w'.heap[lp]? = some (.loop { r with state := .ready, pending := none }) := hw'.holds (own lp _) (by simp [Tl])
        refine ⟨_, _, run_endLoop hl (by simp), ?_⟩
        refine hdone G D' hJ _ _ hD ?_
        have h3 := (show HpOk K w0 (own lp (.loop { r with state := .ready, pending := none }) :: (G ++ [marks D'])) w' from hw').put (o' := .loop { r with state := .exhausted, pending := none })
        exact h3.sublist (List.sublist_cons_self _ _)
      · have hl : w'.heap[lp]? = some (.loop { r with state := .done, pending := some c }) := hw'.holds (own lp _) (by simp)
        refine ⟨_, _, run_endLoop hl (by simp), ?_⟩
        refine hstop c G D' hX _ _ hD ?_
        have h3 := (show HpOk K w0 (own lp (.loop { r with state := .done, pending := some c }) :: (G ++ [marks D'])) w' from hw').put (o' := .loop { r with state := .exhausted, pending := some c })
        exact h3.sublist (List.sublist_cons_self _ _)
    · -- a round
      rintro pre x suf hxs Gx ⟨G, hJ, rfl⟩ M w₁ hw₁
      have hl : w₁.heap[lp]? = some (.loop { r with state := .ready, pending := none }) := hw₁.holds (own lp _) (by simp [Tl])
      refine ⟨_, _, _, _, run_yield hl (by simp [hlen]; rfl), ?_⟩
      refine roundIn_of_wpIn trivial ?_
      have hw₂ : HpOk K w0 ((G ++ Tl r lp M .ready) ++ [marks []]) w₁ := by
        refine HpOk.marks0 (hw₁.perm ?_)
        show (own lp _ :: (G ++ M)).Perm (G ++ own lp _ :: M)
        exact List.perm_middle.symm
      have hzip : ((ps.zip (enc x).toArray).foldl (fun tmps (t, a) => tmps.setIfInBounds t a) a.tmps) = ((ps.toList.zip (enc x)).foldl (fun tm (t, a) => tm.setIfInBounds t a) a.tmps) := by
        rw [← Array.foldl_toList, Array.toList_zip]
      have hb := hbody pre x suf G hxs hJ r lp M { tmps := (ps.zip (enc x).toArray).foldl (fun tmps (t, a) => tmps.setIfInBounds t a) a.tmps, defers := [] } w₁
        ⟨by rw [hzip, foldl_set_size]; exact ha.size, rfl, by rw [hzip]; exact parTm_ok ps.toList (enc x) l a.tmps hN ha.vals⟩ hw₂
      refine wpIn_mono hb ?_
      intro e a' w' q
      cases e with
      | normal =>
        obtain ⟨w₃, hbr, hbody'⟩ := q
        refine ⟨w₃, hbr, wpIn_mono hbody' ?_⟩
        have fin : ∀ (jump : Option Code) (G' : List Chunk) (w₄ : World), HpOk K w0 (G' ++ Tl r lp M .busy) w₄ →
            (Instr.endRound lp jump).run P w₄ = .ok (.bool jump.isNone) (w₄.putObj lp (.loop { r with state := if jump.isNone then .ready else .done, pending := jump })) ∧
            HpOk K w0 ((own lp (.loop { r with state := if jump.isNone then .ready else .done, pending := jump }) :: G') ++ M) (w₄.putObj lp (.loop { r with state := if jump.isNone then .ready else .done, pending := jump })) := by
          intro jump G' w₄ h4
          have hl4 : w₄.heap[lp]? = some (.loop { r with state := .busy, pending := none }) := h4.holds (own lp _) (by simp [Tl])
          refine ⟨run_endRound (r := { r with state := .busy, pending := none }) jump hl4, ?_⟩
          have h5 : HpOk K w0 (own lp (.loop { r with state := .busy, pending := none }) :: (G' ++ M)) w₄ := h4.perm List.perm_middle
          exact h5.put
        intro e₂ a₂ w₄ q₂
        cases e₂ with
        | normal =>
          obtain ⟨G', hJ', h4⟩ := q₂
          obtain ⟨hrun, h5⟩ := fin none G' w₄ h4
          exact ⟨_, _, hrun, _, _, rfl, ⟨_, rfl, by simp only [Option.isNone_none, if_true]; exact ⟨G', hJ', rfl⟩⟩, h5⟩
        | ret =>
          obtain ⟨G', hX', h4⟩ := q₂
          obtain ⟨hrun, h5⟩ := fin (some .ret) G' w₄ h4
          exact ⟨_, _, hrun, _, _, rfl, ⟨_, rfl, by simp only [Option.isNone_some, Bool.false_eq_true, if_false]; exact ⟨_, G', hX', rfl⟩⟩, h5⟩
        | exit id =>
          obtain ⟨G', hX', h4⟩ := q₂
          obtain ⟨hrun, h5⟩ := fin (some (.exit id)) G' w₄ h4
          exact ⟨_, _, hrun, _, _, rfl, ⟨_, rfl, by simp only [Option.isNone_some, Bool.false_eq_true, if_false]; exact ⟨_, G', hX', rfl⟩⟩, h5⟩
        | goto _ => exact q₂.elim
        | panic _ => exact q₂.elim
        | outgrown => exact q₂.elim
      | exit _ => exact q.elim
      | goto _ => exact q.elim
      | ret => exact q.elim
      | panic _ => exact q.elim
      | outgrown => exact q.elim
theorem res4 {fn : Func} {t u s r : Nat} {v v' v'' v4 : Value} (hr : fn.results = #[.tmp t, .tmp u, .tmp s, .tmp r]) (hv : look l t = some v) (hv' : look l u = some v') (hv'' : look l s = some v'') (h4 : look l r = some v4) : ∀ a w, Vals l a → HpS K w0 H w → (results fn a.tmps).run P w = .ok (.tuple #[v, v', v'', v4]) w := by
  intro a w ha _
  have h1 := vals_getD ha hv
  have h2 := vals_getD ha hv'
  have h3 := vals_getD ha hv''
  have h4 := vals_getD ha h4
  simp [results, hr, ← h1, ← h2, ← h3, ← h4]
/-! ### Guarded parts that turn what is there -/
def andG {α : Type} (b : Bool) (old : α) (C : Option (Bool × α)) : Option (Bool × α) := cond b C (some (false, old))
def orG {α : Type} (b : Bool) (old : α) (C : Option (Bool × α)) : Option (Bool × α) := cond b (some (true, old)) C
theorem SL.andG {α : Type} {Hk : List Chunk} (t n tt : Nat) {b : Bool} {old : α} {y : Bool × α} {C : Option (Bool × α)} (hy : andG b old C = some y) (hb : look l t = some (.bool b))
    (ht : b = true → C = some y → SL P ro K w0 N ops Hs (items.drop n) Q D ((tt, .bool y.1) :: (t, .bool true) :: del t l) Hk → SL P ro K w0 N ops Hs items Q D ((t, .bool true) :: l) H)
    (hf : b = false → (false, old) = y → SL P ro K w0 N ops Hs (items.drop n) Q D ((tt, .bool y.1) :: (t, .bool false) :: del t l) Hk → SL P ro K w0 N ops Hs items Q D ((t, .bool false) :: l) H)
    (h : SL P ro K w0 N ops Hs (items.drop n) Q D ((tt, .bool y.1) :: l) Hk) : SL P ro K w0 N ops Hs items Q D l H := by
  refine SL.split t hb (fun e => ?_) (fun e => ?_)
  · subst e; exact ht rfl hy (h.join hb)
  · subst e; exact hf rfl (Option.some.inj hy) (h.join hb)
theorem SL.orG {α : Type} {Hk : List Chunk} (t n tt : Nat) {b : Bool} {old : α} {y : Bool × α} {C : Option (Bool × α)} (hy : orG b old C = some y) (hb : look l t = some (.bool b))
    (ht : b = true → (true, old) = y → SL P ro K w0 N ops Hs (items.drop n) Q D ((tt, .bool y.1) :: (t, .bool true) :: del t l) Hk → SL P ro K w0 N ops Hs items Q D ((t, .bool true) :: l) H)
    (hf : b = false → C = some y → SL P ro K w0 N ops Hs (items.drop n) Q D ((tt, .bool y.1) :: (t, .bool false) :: del t l) Hk → SL P ro K w0 N ops Hs items Q D ((t, .bool false) :: l) H)
    (h : SL P ro K w0 N ops Hs (items.drop n) Q D ((tt, .bool y.1) :: l) Hk) : SL P ro K w0 N ops Hs items Q D l H := by
  refine SL.split t hb (fun e => ?_) (fun e => ?_)
  · subst e; exact ht rfl (Option.some.inj hy) (h.join hb)
  · subst e; exact hf rfl hy (h.join hb)
end Go.Proofs.Ytddjneafgddlcaa
